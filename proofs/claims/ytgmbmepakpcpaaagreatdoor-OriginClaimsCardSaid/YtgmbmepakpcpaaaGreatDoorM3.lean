/- A part of the proof: texts of the walk and of the plain laws, merged. No condition. -/
import Derived.Test.YtgmbmepakpcpaaaGreatDoorM2
set_option linter.unusedVariables false
set_option linter.unusedSimpArgs false
set_option maxHeartbeats 4000000
set_option maxRecDepth 100000
namespace Go.Proofs.YtgmbmepakpcpaaaGreatDoor
namespace SX
open Go
attribute [local irreducible] PWL PWC PWD POpL POpQ PEv PGuardIs PSub PPick PUpd PSplice PFill PLit PF PFV PCall FOk eG eg lI nA jP lJ Cov PHolds aW idx app mk gd lb nz lf Dm sub jR dw nQ vE ff cu oP vG IntKind.wrap Int.tmod Int.tdiv Op.bytesLess strOfNums
def dt (p0:Zb) (p1:ByteArray) (p2:ByteArray):Option Bool:=(bG p0.Parties p1).bind fun x2=>(gd x2 (bG p0.Parties p2)).bind fun x3=>some (x2&&x3)
theorem i4 {p0:Zb} {p1:ByteArray} {p2:ByteArray} {r:Bool}  (h:dt p0 p1 p2=some r):PF 88 [.agg (aA p0),pS p1,pS p2] (pB r):=by
 unfold dt at h
 refine bc ?_
 refine di Tryz.func88 rfl Tryz.ntmps88 Tryz.results88 rfl (cX rfl (bf (cs:=(aA p0)) rfl rfl (fun b1=>aZ [6] (by kernel_rfl) (dc h fun x2 hx2 h=>aa h fun x3 hx3 h=>ap [0,0] (rg 7 10) [(6,pB (x2&&x3))] (bh 3 (cP hx2) (ee 8 (fun hc=>cP (cA hx3 hc)) bk)) (by kernel_rfl) (cW ?_)))))
 exact zz r h rfl
def fH (p0:ByteArray) (p1:ByteArray):Option Bool:=(gd (decide ((p1.size:Int)≤(p0.size:Int))) (jR p0 0 (p1.size:Int))).bind fun s1=>some ((decide ((p1.size:Int)≤(p0.size:Int)))&&(decide (s1=p1)))
theorem nh {p0:ByteArray} {p1:ByteArray} {r:Bool}  (h:fH p0 p1=some r):PF 164 [pS p0,pS p1] (pB r):=by
 unfold fH at h
 refine bc ?_
 refine di Tryz.func164 rfl Tryz.ntmps164 Tryz.results164 rfl (aS [4] (by kernel_rfl) (dc h fun s1 hs1 h=>ap [] (rg 5 13) [(4,pB ((decide ((p1.size:Int)≤(p0.size:Int)))&&(decide (s1=p1))))] (fossg 9 (cA hs1) bk) (by kernel_rfl) (cW ?_)))
 exact zz r h rfl
def dq (p0:ByteArray) (p1:ByteArray):Option Bool:=(fH p0 p1).bind fun x1=>some x1
theorem iu {p0:ByteArray} {p1:ByteArray} {r:Bool}  (h:dq p0 p1=some r):PF 129 [pS p0,pS p1] (pB r):=by
 unfold dq at h
 refine bc ?_
 refine di Tryz.func129 rfl Tryz.ntmps129 Tryz.results129 rfl (aS [4] (by kernel_rfl) (dc h fun x1 hx1 h=>ap [] [5,6,7] [(4,pB x1)] (bh 2 (nh hx1) bk) (by kernel_rfl) (cW ?_)))
 exact zz r h rfl
def jX (rec:Zd→Int→Option Int) (p0:Zd) (p1:Int):Option Int:=(aW (S:=Int×Int) (T:=(Int)⊕(_)) (fun (v2,v3)=>cond (decide (v3<(p0.Args.length:Int))) ((idx p0.Args v3).bind fun m8=>cond (decide (p1≤v2)) (some (.inr (.inr p1))) ((rec m8 (IntKind.i64.wrap (p1 - v2))).bind fun x11=>some (.inl ((IntKind.i64.wrap (v2+x11)),(IntKind.i64.wrap (v3+1)))))) (some (.inr (.inl v2)))) FUEL (1,0)).bind fun q=>match q with | .inl v4=>some v4 | .inr e=>some e
theorem tq {rec:Zd→Int→Option Int} (hrec:∀ {p0:Zd} {p1:Int} {r:Int},rec p0 p1=some r→PF 165 [.agg (ar p0),pI p1] (pI r)) {p0:Zd} {p1:Int} {r:Int} (h:jX rec p0 p1=some r):PF 165 [.agg (ar p0),pI p1] (pI r):=by
 unfold jX at h
 refine bc ?_
 refine di Tryz.func165 rfl Tryz.ntmps165 Tryz.results165 rfl (cX rfl (bf (cs:=(ar p0)) rfl rfl (fun b1=>aZ [4] (by kernel_rfl) (bW (ak [(5,pI 1)] (by kernel_rfl) (co (aJ [0] [8] [(9,pL Zd.enc p0.Args),(10,pI (p0.Args.length:Int)),(11,pI 0)] (by kernel_rfl) (fG h fun q6 hq6 h=>?_))))))))
 refine aq (Y:=Unit×Int) (fun (_,v4)=>[(5,pI v4)]) (fun (_,v4)=>[]) (fun (_,v4)=>q6=Sum.inl v4) ?_ ?_
 ·refine av ?_
  refine aC (Y:=Unit) (S:=Int×Int) _ hq6 (fun _ (v2,v3)=>[(1,pI p1),(5,pI v2),(9,pL Zd.enc p0.Args),(10,pI (p0.Args.length:Int)),(11,pI v3)]) (fun _ (v2,v3)=>[]) () (mT rfl) bA ?_
  rintro _ ⟨v2,v3⟩ o τ hb5;(try dsimp only at hb5);dsimp only [aw]
  refine ae (ak [(12,pB (decide (v3<(p0.Args.length:Int))))] (by kernel_rfl) (bW (ki rfl hb5 (fun hc7 hb5=>?_) fun hc7 hb5=>?_)))
  ·refine ah ?_
   refine dG (aa hb5 fun m8 hm8 hb5=>af (aX 2 [] [13] [(14,.agg (ar m8))] (oH 0 Zd.enc (Zd.enc_eq _) hm8 bk) (by kernel_rfl) (an rfl (aK (cs:=[pI 0,pI 0,pN,pI 0,pI 0,pS ByteArray.empty,pN]) rfl rfl rfl rfl (fun b9=>aP rfl rfl (al (vs:=(ar m8)) rfl rfl rfl rfl rfl cg nf (aF (co (bL [15,16] [(17,pB (decide (p1≤v2)))] (by kernel_rfl) rfl hb5 (fun hc10 hb5=>?_) fun hc10 hb5=>?_)))))))))
   ·refine ae ?_
    refine ai [18] [(4,pI p1)] (by kernel_rfl) (cW (am (dO ?_)))
    refine au hb5 (fun ht=>?_);subst ht
    refine cO ?_
    exact zz r h rfl
   refine ah ?_
   refine fG hb5 fun x11 hx11 hb5=>ap [0] (rg 19 7) [(5,pI (IntKind.i64.wrap (v2+x11)))] (bh 5 (hrec hx11) bk) (by kernel_rfl) (dI (ai [26] [(11,pI (IntKind.i64.wrap (v3+1)))] (by kernel_rfl) ?_))
   exact aU hb5 () (mT rfl) bA
  refine aH ?_
  refine cj hb5 (fun ht=>aj rfl ?_)
  exact az ((),v2) (rq rfl) bA ht.symm
 rintro ⟨_,v4⟩ τ hz;(try dsimp only at hz);subst q6;(try dsimp only at h);dsimp only [aw]
 refine ae (ai [27] [(4,pI v4)] (by kernel_rfl) (cW ?_))
 exact zz r h rfl
def lX (n:Nat):Zd→Int→Option Int:=Nat.rec (motive:=fun _=>Zd→Int→Option Int) (fun _ _=>none) (fun _ ih=>jX ih) n
def qS (p0:Zd) (p1:Int):Option Int:=lX FUEL p0 p1
theorem uM (n:Nat):∀ {p0:Zd} {p1:Int} {r:Int},lX n p0 p1=some r→PF 165 [.agg (ar p0),pI p1] (pI r):=by
 induction n with
 | zero=>intros;rename_i h;exact nomatch h
 | succ n ih=>intros;rename_i h;exact tq (fun hr=>ih hr) h
theorem vN {p0:Zd} {p1:Int} {r:Int} (h:qS p0 p1=some r):PF 165 [.agg (ar p0),pI p1] (pI r):=uM FUEL h
def mF (p0:Zd):Option Bool:=cond ((!(p0.Kind == 2))&&(((p0.Digits != 0)||(decide (0<(p0.Except.length:Int))))||(p0.Tolerance != 0))) (some false) (cond ((p0.Kind != 3)&&(p0.Limit != 0)) (some false) (cond ((p0.Kind != 4)&&(!decide (p0.Name=(⟨#[]⟩:ByteArray)))) (some false) (some (((p0.Kind == 5)||(p0.Kind == 6))||((p0.Args.length:Int) == 0)))))
theorem vO {p0:Zd} {r:Bool}  (h:mF p0=some r):PF 188 [.agg (ar p0)] (pB r):=by
 unfold mF at h
 refine bc ?_
 refine di Tryz.func188 rfl Tryz.ntmps188 Tryz.results188 rfl (cX rfl (bf (cs:=(ar p0)) rfl rfl (fun b1=>aZ [2] (by kernel_rfl) (bW (aJ [0] [5,6,7] [(3,pB (p0.Kind == 2))] (by kernel_rfl) (bW (aJ [0,0] (rg 8 8) [(4,pB ((p0.Kind == 5)||(p0.Kind == 6)))] (by kernel_rfl) (dG (aJ [0,0,0] (rg 17 18) [(16,pB ((!(p0.Kind == 2))&&(((p0.Digits != 0)||(decide (0<(p0.Except.length:Int))))||(p0.Tolerance != 0))))] (by kernel_rfl) (cN rfl h (fun hc2 h=>?_) fun hc2 h=>?_))))))))))
 ·refine ae ?_
  refine cU [(2,pB false)] (by kernel_rfl) (dO ?_)
  exact zz r h rfl
 refine ae ?_
 refine aJ [0,0] (rg 36 8) [(35,pB ((p0.Kind != 3)&&(p0.Limit != 0)))] (by kernel_rfl) (cN rfl h (fun hc3 h=>?_) fun hc3 h=>?_)
 ·refine ae ?_
  refine cU [(2,pB false)] (by kernel_rfl) (dO ?_)
  exact zz r h rfl
 refine ae ?_
 refine aJ [0,0] (rg 45 8) [(44,pB ((p0.Kind != 4)&&(!decide (p0.Name=(⟨#[]⟩:ByteArray)))))] (by kernel_rfl) (cN rfl h (fun hc4 h=>?_) fun hc4 h=>?_)
 ·refine ae ?_
  refine cU [(2,pB false)] (by kernel_rfl) (dO ?_)
  exact zz r h rfl
 refine ah ?_
 refine aD (bW (aJ [0] (rg 53 7) [(2,pB (((p0.Kind == 5)||(p0.Kind == 6))||((p0.Args.length:Int) == 0)))] (by kernel_rfl) (cW ?_)))
 exact zz r h rfl
def jj (p0:Int):Option Bool:=some ((decide (0≤p0))&&(decide (p0≤1000000)))
theorem mG {p0:Int} {r:Bool}  (h:jj p0=some r):PF 190 [pI p0] (pB r):=by
 unfold jj at h
 refine bc ?_
 refine di Tryz.func190 rfl Tryz.ntmps190 Tryz.results190 rfl (aS [2] (by kernel_rfl) (bW (ai (rg 3 6) [(2,pB ((decide (0≤p0))&&(decide (p0≤1000000))))] (by kernel_rfl) (cW ?_))))
 exact zz r h rfl
def dT (rec:Zd→Option Zd) (p0:Zd):Option Zd:=(bP p0.Except).bind fun x3=>(CM 96 (p0.Args.length:Int)).bind fun u7=>(aW (S:=(List Zd)×Int) (T:=((List Zd))) (fun (l11,v14)=>cond (decide (v14<(p0.Args.length:Int))) ((idx p0.Args v14).bind fun m23=>(rec m23).bind fun x25=>(app 96 l11 [x25]).bind fun l28=>some (.inl (l28,(IntKind.i64.wrap (v14+1))))) (some (.inr l11))) FUEL (([]:List Zd),0)).bind fun l18=>some (⟨p0.Kind,p0.Digits,x3,p0.Tolerance,p0.Limit,p0.Name,l18⟩:Zd)
theorem mO {rec:Zd→Option Zd} (hrec:∀ {p0:Zd} {r:Zd},rec p0=some r→PF 131 [.agg (ar p0)] (.agg (ar r))) {p0:Zd} {r:Zd} (h:dT rec p0=some r):PF 131 [.agg (ar p0)] (.agg (ar r)):=by
 unfold dT at h
 refine bc ?_
 refine di Tryz.func131 rfl Tryz.ntmps131 Tryz.results131 rfl (cX rfl (bf (cs:=(ar p0)) rfl rfl (fun b1=>an rfl (aK (cs:=[pI 0,pI 0,pN,pI 0,pI 0,pS ByteArray.empty,pN]) rfl rfl rfl rfl (fun b2=>aF (dc h fun x3 hx3 h=>af (cB 2 [1] [6] [(7,pL eS p0.Except)] (by kernel_rfl) ?_)))))))
 refine an rfl (be rfl rfl (ρ1:=[]) (List.Perm.refl _) (eR hx3) ?_);rintro _ _ ⟨a4,c5,rfl,rfl⟩
 refine aG 1 [(9,pP b1 2)] (by kernel_rfl) (aP rfl rfl (al (vs:=[pO a4 x3.length c5]) rfl rfl rfl rfl rfl (dA (dA cg)) (el (el oG)) (aF (dc h fun u7 hu7 h=>af (cB 3 [2] [10,11] [(12,pI (p0.Args.length:Int))] (by kernel_rfl) (an rfl (Ez rfl rfl rfl rfl rfl rfl rfl hu7 (fun b8=>aL [(3,pO (some ⟨b8,0,none⟩) 0 ((p0.Args.length:Int).toNat))] (by kernel_rfl) (co (aJ [3] [14] [(15,pL Zd.enc p0.Args),(16,pI (p0.Args.length:Int)),(17,pI 0)] (by kernel_rfl) (fG h fun q21 hq21 h=>?_)))))))))))
 refine aq (Y:=(Option Addr×Nat)×((List Zd))) (fun ((a16,c17),l18)=>[(1,pP b1 0),(2,pP b2 0),(3,pO a16 l18.length c17)]) (fun ((a16,c17),l18)=>[PRes.b b1 84 [pI p0.Kind,pI p0.Digits,pO a4 x3.length c5,pI p0.Tolerance,pI p0.Limit,pS p0.Name,pL Zd.enc p0.Args],PRes.b b2 84 [pI 0,pI 0,pN,pI 0,pI 0,pS ByteArray.empty,pN],PRes.row a16 l18.length c17 84 7 (List.map Zd.enc l18),PRes.row a4 x3.length c5 9 1 (List.map eS x3)]) (fun ((a16,c17),l18)=>q21=l18) ?_ ?_
 ·refine av ?_
  refine aC (Y:=Option Addr×Nat) (S:=(List Zd)×Int) _ hq21 (fun (a12,c13) (l11,v14)=>[(1,pP b1 0),(2,pP b2 0),(3,pO a12 l11.length c13),(15,pL Zd.enc p0.Args),(16,pI (p0.Args.length:Int)),(17,pI v14)]) (fun (a12,c13) (l11,v14)=>[PRes.b b1 84 [pI p0.Kind,pI p0.Digits,pO a4 x3.length c5,pI p0.Tolerance,pI p0.Limit,pS p0.Name,pL Zd.enc p0.Args],PRes.b b2 84 [pI 0,pI 0,pN,pI 0,pI 0,pS ByteArray.empty,pN],PRes.row a12 l11.length c13 84 7 (List.map Zd.enc l11),PRes.row a4 x3.length c5 9 1 (List.map eS x3)]) ((some ⟨b8,0,none⟩),(p0.Args.length:Int).toNat) (qP rfl) (bd (aB (aB (aB aM))) (bd (aB (aB aM)) oX)) ?_
  rintro ⟨a12,c13⟩ ⟨l11,v14⟩ o τ hb20;(try dsimp only at hb20);dsimp only [aw]
  refine ae (ak [(18,pB (decide (v14<(p0.Args.length:Int))))] (by kernel_rfl) (bW (ki rfl hb20 (fun hc22 hb20=>?_) fun hc22 hb20=>?_)))
  ·refine ah ?_
   refine dG (aa hb20 fun m23 hm23 hb20=>af (aX 2 [] [19] [(20,.agg (ar m23))] (oH 0 Zd.enc (Zd.enc_eq _) hm23 bk) (by kernel_rfl) (an rfl (aK (cs:=[pI 0,pI 0,pN,pI 0,pI 0,pS ByteArray.empty,pN]) rfl rfl rfl rfl (fun b24=>aP rfl rfl (al (vs:=(ar m23)) rfl rfl rfl rfl rfl cg nf (aF (fG hb20 fun x25 hx25 hb20=>af (aX 3 [0] [22] [(21,pO a12 l11.length c13),(23,.agg (ar x25))] (bh 2 (hrec hx25) bk) (by kernel_rfl) ?_)))))))))
   refine an rfl (bM (css:=List.map Zd.enc [x25]) rfl rfl rfl rfl rfl (by (simp only [List.map_cons,List.map_nil,Zd.enc_eq];(repeat (first | exact jJ | apply gr rfl)))) rfl (by (simp only [List.map_cons,List.map_nil,Zd.enc_eq];rfl)) rfl rfl (fun b26=>?_))
   refine aa hb20 fun l28 hl28 hb20=>?_
   refine an rfl (bZ (enc:=Zd.enc) rfl rfl rfl rfl rfl rfl rfl rfl rfl fT (by exact aB (aB (aB (aB aM)))) hl28 (fun a29 c30=>?_))
   refine aL [(3,pO a29 l28.length c30)] (by kernel_rfl) (dI (ai [26] [(17,pI (IntKind.i64.wrap (v14+1)))] (by kernel_rfl) ?_))
   exact aU hb20 (a29,c30) (qP rfl) (bd (aB (aB (aB aM))) (bd (aB (aB (aB aM))) (bd aM (bd (aB (aB aM)) bA))))
  refine aH ?_
  refine cj hb20 (fun ht=>aj rfl ?_)
  exact az ((a12,c13),l11) (nu rfl) Dn ht.symm
 rintro ⟨⟨a16,c17⟩,l18⟩ τ hz;(try dsimp only at hz);subst q21;(try dsimp only at h);dsimp only [aw]
 refine ae (af (aG 2 [(27,pO a16 l18.length c17),(28,pP b1 6)] (by kernel_rfl) (aP rfl rfl (al (vs:=[pO a16 l18.length c17]) rfl rfl rfl rfl rfl cg (el (el (el (el (el (el oG)))))) (aF (bW (af ?_)))))))
 refine lU (css:=List.map eS x3) (a:=a4) (by exact aB (aB (aB aM))) ?_
 refine jv (k:=2) (enc:=eS) (xs:=x3) (b:=b1) (a:=a4) rfl fT (dA cg) ?_
 refine lU (css:=List.map Zd.enc l18) (a:=a16) (by exact aB (aB (aB aM))) ?_
 refine jv (k:=6) (enc:=Zd.enc) (xs:=l18) (b:=b1) (a:=a16) rfl fT (dA (dA cg)) (gz 1 [2] [(29,.agg [pI p0.Kind,pI p0.Digits,pL eS x3,pI p0.Tolerance,pI p0.Limit,pS p0.Name,pL Zd.enc l18])] (by kernel_rfl) (aP rfl rfl (al (vs:=[pI p0.Kind,pI p0.Digits,pL eS x3,pI p0.Tolerance,pI p0.Limit,pS p0.Name,pL Zd.enc l18]) rfl rfl rfl rfl rfl (dA (dA (dA cg))) nf (aF (cW ?_)))))
 obtain rfl:=osi h
 exact aN (dh (du rfl zm3 rfl)) bA ⟨rfl,rfl⟩
def fg (n:Nat):Zd→Option Zd:=Nat.rec (motive:=fun _=>Zd→Option Zd) (fun _=>none) (fun _ ih=>dT ih) n
def iv (p0:Zd):Option Zd:=fg FUEL p0
theorem ni (n:Nat):∀ {p0:Zd} {r:Zd},fg n p0=some r→PF 131 [.agg (ar p0)] (.agg (ar r)):=by
 induction n with
 | zero=>intros;rename_i h;exact nomatch h
 | succ n ih=>intros;rename_i h;exact mO (fun hr=>ih hr) h
theorem nG {p0:Zd} {r:Zd} (h:iv p0=some r):PF 131 [.agg (ar p0)] (.agg (ar r)):=ni FUEL h
def bj (p0:(List Zi)) (p1:(List Zi)) (p2:(Zi→Zi→Option Bool)):Option Bool:=cond ((p0.length:Int) != (p1.length:Int)) (some false) ((aW (S:=Int) (T:=(Unit)⊕(_)) (fun v2=>cond (decide (v2<(p0.length:Int))) ((idx p0 v2).bind fun m6=>(idx p1 v2).bind fun m8=>(p2 m6 m8).bind fun x10=>cond (!x10) (some (.inr (.inr false))) (some (.inl (IntKind.i64.wrap (v2+1))))) (some (.inr (.inl ())))) FUEL 0).bind fun q=>match q with | .inl _=>some true | .inr e=>some e)
theorem dD {p0:(List Zi)} {p1:(List Zi)} {p2:(Zi→Zi→Option Bool)} {r:Bool} {g2:PV} (hg2:∀ {y0:Zi} {y1:Zi} {w:Bool},p2 y0 y1=some w→PFV g2 [.agg (dS y0),.agg (dS y1)] (pB w)) (h:bj p0 p1 p2=some r):PF 134 [pL Zi.enc p0,pL Zi.enc p1,g2] (pB r):=by
 unfold bj at h
 refine bc ?_
 refine di Tryz.func134 rfl Tryz.ntmps134 Tryz.results134 rfl (aS [6] (by kernel_rfl) (co (bL [10,11,12,13] [(14,pB ((p0.length:Int) != (p1.length:Int)))] (by kernel_rfl) rfl h (fun hc1 h=>?_) fun hc1 h=>?_)))
 ·refine ae ?_
  refine cU [(6,pB false)] (by kernel_rfl) (am ?_)
  exact zz r h rfl
 refine ah ?_
 refine co (ak [(15,pL Zi.enc p0),(16,pI (p0.length:Int)),(17,pI 0)] (by kernel_rfl) (fG h fun q4 hq4 h=>?_))
 refine aq (Y:=Unit×Unit) (fun (_,_)=>[]) (fun (_,_)=>[]) (fun (_,_)=>q4=Sum.inl ()) ?_ ?_
 ·refine av ?_
  refine aC (Y:=Unit) (S:=Int) _ hq4 (fun _ v2=>[(1,pL Zi.enc p1),(2,g2),(15,pL Zi.enc p0),(16,pI (p0.length:Int)),(17,pI v2)]) (fun _ v2=>[]) () (mT rfl) bA ?_
  rintro _ v2 o τ hb3;(try dsimp only at hb3);dsimp only [aw]
  refine ae (ak [(18,pB (decide (v2<(p0.length:Int))))] (by kernel_rfl) (bW (ki rfl hb3 (fun hc5 hb3=>?_) fun hc5 hb3=>?_)))
  ·refine ah ?_
   refine dG (aa hb3 fun m6 hm6 hb3=>af (aX 3 [] [20] [(19,pI v2),(21,.agg (dS m6))] (cG 1 Zi.enc hm6 bk) (by kernel_rfl) (an rfl (aK (cs:=[pS ByteArray.empty,pI 0,pI 0,pN,pI 0,pI 0,pS ByteArray.empty,pN]) rfl rfl rfl rfl (fun b7=>aG 1 [(7,pI v2)] (by kernel_rfl) (aP rfl rfl (al (vs:=(dS m6)) rfl rfl rfl rfl rfl cg zl8 (aF (dc hb3 fun m8 hm8 hb3=>af (aX 4 [] [22,23,24] [(25,.agg (dS m8))] (cG 2 Zi.enc hm8 bk) (by kernel_rfl) (an rfl (aK (cs:=[pS ByteArray.empty,pI 0,pI 0,pN,pI 0,pI 0,pS ByteArray.empty,pN]) rfl rfl rfl rfl (fun b9=>aP rfl rfl (al (vs:=(dS m8)) rfl rfl rfl rfl rfl cg zl8 (aF (dc hb3 fun x10 hx10 hb3=>ap [1,0] [26,27,28,29] [(30,pB (!x10))] (CG 3 (hg2 hx10) bk) (by kernel_rfl) (cN rfl hb3 (fun hc11 hb3=>?_) fun hc11 hb3=>?_)))))))))))))))))
   ·refine ae ?_
    refine cU [(6,pB false)] (by kernel_rfl) (dO ?_)
    refine au hb3 (fun ht=>?_);subst ht
    refine cO ?_
    exact zz r h rfl
   refine ah ?_
   refine dI (ai [31] [(17,pI (IntKind.i64.wrap (v2+1)))] (by kernel_rfl) ?_)
   exact aU hb3 () (mT rfl) bA
  refine aH ?_
  refine cj hb3 (fun ht=>aj rfl ?_)
  exact az ((),()) oF bA ht.symm
 rintro ⟨_,_⟩ τ hz;(try dsimp only at hz);subst q4;(try dsimp only at h);dsimp only [aw]
 refine ae (cU [(6,pB true)] (by kernel_rfl) ?_)
 exact zz r h rfl
def dU (p0:(List ByteArray)) (p1:(List ByteArray)):Option Bool:=cond ((p0.length:Int) != (p1.length:Int)) (some false) ((aW (S:=Int) (T:=(Unit)⊕(_)) (fun v2=>cond (decide (v2<(p0.length:Int))) ((idx p0 v2).bind fun m6=>(idx p1 v2).bind fun m7=>cond (!decide (m6=m7)) (some (.inr (.inr false))) (some (.inl (IntKind.i64.wrap (v2+1))))) (some (.inr (.inl ())))) FUEL 0).bind fun q=>match q with | .inl _=>some true | .inr e=>some e)
theorem ll {p0:(List ByteArray)} {p1:(List ByteArray)} {r:Bool}  (h:dU p0 p1=some r):PF 167 [pL eS p0,pL eS p1] (pB r):=by
 unfold dU at h
 refine bc ?_
 refine di Tryz.func167 rfl Tryz.ntmps167 Tryz.results167 rfl (aS [4] (by kernel_rfl) (co (bL [6,7,8,9] [(10,pB ((p0.length:Int) != (p1.length:Int)))] (by kernel_rfl) rfl h (fun hc1 h=>?_) fun hc1 h=>?_)))
 ·refine ae ?_
  refine cU [(4,pB false)] (by kernel_rfl) (am ?_)
  exact zz r h rfl
 refine ah ?_
 refine co (ai [11] [(12,pI (p0.length:Int)),(13,pI 0)] (by kernel_rfl) (fG h fun q4 hq4 h=>?_))
 refine aq (Y:=Unit×Unit) (fun (_,_)=>[]) (fun (_,_)=>[]) (fun (_,_)=>q4=Sum.inl ()) ?_ ?_
 ·refine av ?_
  refine aC (Y:=Unit) (S:=Int) _ hq4 (fun _ v2=>[(0,pL eS p0),(1,pL eS p1),(12,pI (p0.length:Int)),(13,pI v2)]) (fun _ v2=>[]) () (iQ rfl) bA ?_
  rintro _ v2 o τ hb3;(try dsimp only at hb3);dsimp only [aw]
  refine ae (ak [(14,pB (decide (v2<(p0.length:Int))))] (by kernel_rfl) (bW (ki rfl hb3 (fun hc5 hb3=>?_) fun hc5 hb3=>?_)))
  ·refine ah ?_
   refine dG (ai [15] [(5,pI v2)] (by kernel_rfl) (bW (bi (ρd:=[]) [(0,0),(1,0),(2,0),(3,0),(4,0),(5,0),(6,0),(7,0),(8,0)] _ (List.Perm.refl _) (by kernel_rfl) rfl (aa hb3 fun m6 hm6 hb3=>aa hb3 fun m7 hm7 hb3=>bt 9 [] (rg 16 8) [(24,pB (!decide (m6=m7)))] (cG 2 eS hm6 (cG 6 eS hm7 bk)) (by kernel_rfl) (bx (cN rfl hb3 (fun hc8 hb3=>?_) fun hc8 hb3=>?_))))))
   ·refine ae ?_
    refine cU [(4,pB false)] (by kernel_rfl) (dO ?_)
    refine au hb3 (fun ht=>?_);subst ht
    refine cO ?_
    exact zz r h rfl
   refine ah ?_
   refine dI (ai [25] [(13,pI (IntKind.i64.wrap (v2+1)))] (by kernel_rfl) ?_)
   exact aU hb3 () (iQ rfl) bA
  refine aH ?_
  refine cj hb3 (fun ht=>aj rfl ?_)
  exact az ((),()) oF bA ht.symm
 rintro ⟨_,_⟩ τ hz;(try dsimp only at hz);subst q4;(try dsimp only at h);dsimp only [aw]
 refine ae (cU [(4,pB true)] (by kernel_rfl) ?_)
 exact zz r h rfl
def bp (p0:(List Zd)) (p1:(List Zd)) (p2:(Zd→Zd→Option Bool)):Option Bool:=cond ((p0.length:Int) != (p1.length:Int)) (some false) ((aW (S:=Int) (T:=(Unit)⊕(_)) (fun v2=>cond (decide (v2<(p0.length:Int))) ((idx p0 v2).bind fun m6=>(idx p1 v2).bind fun m8=>(p2 m6 m8).bind fun x10=>cond (!x10) (some (.inr (.inr false))) (some (.inl (IntKind.i64.wrap (v2+1))))) (some (.inr (.inl ())))) FUEL 0).bind fun q=>match q with | .inl _=>some true | .inr e=>some e)
theorem eU {p0:(List Zd)} {p1:(List Zd)} {p2:(Zd→Zd→Option Bool)} {r:Bool} {g2:PV} (hg2:∀ {y0:Zd} {y1:Zd} {w:Bool},p2 y0 y1=some w→PFV g2 [.agg (ar y0),.agg (ar y1)] (pB w)) (h:bp p0 p1 p2=some r):PF 168 [pL Zd.enc p0,pL Zd.enc p1,g2] (pB r):=by
 unfold bp at h
 refine bc ?_
 refine di Tryz.func168 rfl Tryz.ntmps168 Tryz.results168 rfl (aS [6] (by kernel_rfl) (co (bL [10,11,12,13] [(14,pB ((p0.length:Int) != (p1.length:Int)))] (by kernel_rfl) rfl h (fun hc1 h=>?_) fun hc1 h=>?_)))
 ·refine ae ?_
  refine cU [(6,pB false)] (by kernel_rfl) (am ?_)
  exact zz r h rfl
 refine ah ?_
 refine co (ak [(15,pL Zd.enc p0),(16,pI (p0.length:Int)),(17,pI 0)] (by kernel_rfl) (fG h fun q4 hq4 h=>?_))
 refine aq (Y:=Unit×Unit) (fun (_,_)=>[]) (fun (_,_)=>[]) (fun (_,_)=>q4=Sum.inl ()) ?_ ?_
 ·refine av ?_
  refine aC (Y:=Unit) (S:=Int) _ hq4 (fun _ v2=>[(1,pL Zd.enc p1),(2,g2),(15,pL Zd.enc p0),(16,pI (p0.length:Int)),(17,pI v2)]) (fun _ v2=>[]) () (mT rfl) bA ?_
  rintro _ v2 o τ hb3;(try dsimp only at hb3);dsimp only [aw]
  refine ae (ak [(18,pB (decide (v2<(p0.length:Int))))] (by kernel_rfl) (bW (ki rfl hb3 (fun hc5 hb3=>?_) fun hc5 hb3=>?_)))
  ·refine ah ?_
   refine dG (aa hb3 fun m6 hm6 hb3=>af (aX 3 [] [20] [(19,pI v2),(21,.agg (ar m6))] (oH 1 Zd.enc (Zd.enc_eq _) hm6 bk) (by kernel_rfl) (an rfl (aK (cs:=[pI 0,pI 0,pN,pI 0,pI 0,pS ByteArray.empty,pN]) rfl rfl rfl rfl (fun b7=>aG 1 [(7,pI v2)] (by kernel_rfl) (aP rfl rfl (al (vs:=(ar m6)) rfl rfl rfl rfl rfl cg nf (aF (dc hb3 fun m8 hm8 hb3=>af (aX 4 [] [22,23,24] [(25,.agg (ar m8))] (oH 2 Zd.enc (Zd.enc_eq _) hm8 bk) (by kernel_rfl) (an rfl (aK (cs:=[pI 0,pI 0,pN,pI 0,pI 0,pS ByteArray.empty,pN]) rfl rfl rfl rfl (fun b9=>aP rfl rfl (al (vs:=(ar m8)) rfl rfl rfl rfl rfl cg nf (aF (dc hb3 fun x10 hx10 hb3=>ap [1,0] [26,27,28,29] [(30,pB (!x10))] (CG 3 (hg2 hx10) bk) (by kernel_rfl) (cN rfl hb3 (fun hc11 hb3=>?_) fun hc11 hb3=>?_)))))))))))))))))
   ·refine ae ?_
    refine cU [(6,pB false)] (by kernel_rfl) (dO ?_)
    refine au hb3 (fun ht=>?_);subst ht
    refine cO ?_
    exact zz r h rfl
   refine ah ?_
   refine dI (ai [31] [(17,pI (IntKind.i64.wrap (v2+1)))] (by kernel_rfl) ?_)
   exact aU hb3 () (mT rfl) bA
  refine aH ?_
  refine cj hb3 (fun ht=>aj rfl ?_)
  exact az ((),()) oF bA ht.symm
 rintro ⟨_,_⟩ τ hz;(try dsimp only at hz);subst q4;(try dsimp only at h);dsimp only [aw]
 refine ae (cU [(6,pB true)] (by kernel_rfl) ?_)
 exact zz r h rfl
def dV (rec:Zd→Zd→Option Bool) (p0:Zd) (p1:Zd):Option Bool:=(gd (((((p0.Kind == p1.Kind)&&(p0.Digits == p1.Digits))&&(p0.Tolerance == p1.Tolerance))&&(p0.Limit == p1.Limit))&&(decide (p0.Name=p1.Name))) (dU p0.Except p1.Except)).bind fun x3=>(gd ((((((p0.Kind == p1.Kind)&&(p0.Digits == p1.Digits))&&(p0.Tolerance == p1.Tolerance))&&(p0.Limit == p1.Limit))&&(decide (p0.Name=p1.Name)))&&x3) (bp p0.Args p1.Args (fun y4 y5=>rec y4 y5))).bind fun x6=>some (((((((p0.Kind == p1.Kind)&&(p0.Digits == p1.Digits))&&(p0.Tolerance == p1.Tolerance))&&(p0.Limit == p1.Limit))&&(decide (p0.Name=p1.Name)))&&x3)&&x6)
theorem mP {rec:Zd→Zd→Option Bool} (hrec:∀ {p0:Zd} {p1:Zd} {r:Bool},rec p0 p1=some r→PF 136 [.agg (ar p0),.agg (ar p1)] (pB r)) {p0:Zd} {p1:Zd} {r:Bool} (h:dV rec p0 p1=some r):PF 136 [.agg (ar p0),.agg (ar p1)] (pB r):=by
 unfold dV at h
 refine bc ?_
 refine di Tryz.func136 rfl Tryz.ntmps136 Tryz.results136 rfl (cX rfl (bf (cs:=(ar p0)) rfl rfl (fun b1=>an rfl (bf (cs:=(ar p1)) rfl rfl (fun b2=>aZ [4] (by kernel_rfl) (dc h fun x3 hx3 h=>aa h fun x6 hx6 h=>ap [1,0,1,0,1,0,1,0,1,0,1,0,1,0] (rg 5 47) [(4,pB (((((((p0.Kind == p1.Kind)&&(p0.Digits == p1.Digits))&&(p0.Tolerance == p1.Tolerance))&&(p0.Limit == p1.Limit))&&(decide (p0.Name=p1.Name)))&&x3)&&x6))] (ee 38 (fun hc=>ll (cA hx3 hc)) (ee 45 (fun hc=>eU (fun hr=>se (hrec hr)) (cA hx6 hc)) bk)) (by kernel_rfl) (cW ?_)))))))
 exact zz r h rfl
def dW (n:Nat):Zd→Zd→Option Bool:=Nat.rec (motive:=fun _=>Zd→Zd→Option Bool) (fun _ _=>none) (fun _ ih=>dV ih) n
def iw (p0:Zd) (p1:Zd):Option Bool:=dW FUEL p0 p1
theorem nj (n:Nat):∀ {p0:Zd} {p1:Zd} {r:Bool},dW n p0 p1=some r→PF 136 [.agg (ar p0),.agg (ar p1)] (pB r):=by
 induction n with
 | zero=>intros;rename_i h;exact nomatch h
 | succ n ih=>intros;rename_i h;exact mP (fun hr=>ih hr) h
theorem nH {p0:Zd} {p1:Zd} {r:Bool} (h:iw p0 p1=some r):PF 136 [.agg (ar p0),.agg (ar p1)] (pB r):=nj FUEL h
def em (p1:Int):Option (List ByteArray):=(CM 16 p1).bind fun _=>some []
theorem lA {p1:Int} {r:(List ByteArray)} (h:em p1=some r):PCall 169 [.v (.slice none 0 0),pI p1] [] (fun pv ρ'=>∃ a c,pv=.v (.slice a r.length c)∧ρ'=[PRes.row a r.length c 9 1 (List.map eS r)]):=by
 unfold em at h
 obtain ⟨u,hu,h⟩:=Option.bind_eq_some_iff.1 h
 obtain rfl:=osi h
 obtain ⟨hg0,hg1⟩:=mk0_le hu
 have ew:IntKind.i64.wrap (p1 - IntKind.i64.wrap (((0:Nat):Int) - ((0:Nat):Int)))=p1:=CO hg0 hg1
 refine n8 Tryz.func169 rfl Tryz.ntmps169 Tryz.results169 rfl ?_
 (repeat refine ae ?_)
 refine aS [4] (by kernel_rfl) (aY ?_)
 (repeat refine ae ?_)
 refine ai [5] [(6,pB (decide (p1<0)))] (by kernel_rfl) (aY ?_)
 refine jO rfl (fun hc=>absurd (of_decide_eq_true hc) (by omega)) (fun hc=>?_)
 refine ah (aY ?_)
 (repeat refine ae ?_)
 refine af (aG 2 [(8,pI p1),(9,.v (.slice none 0 0))] (by kernel_rfl) (cd rfl rfl rfl (BN rfl rfl (.p rfl)) (jV [11,12,13,14] [(1,pI (IntKind.i64.wrap (p1 - IntKind.i64.wrap (((0:Nat):Int) - ((0:Nat):Int)))))] (by kernel_rfl) ?_)))
 rw [ew]
 refine aY ?_
 (repeat refine ae ?_)
 refine ai [15] [(16,pB (decide (0<p1)))] (by kernel_rfl) (aY ?_)
 refine jO rfl (fun hc=>?_) (fun hc=>?_)
 ·refine af ?_
  refine aG 2 [(17,.v (.slice none 0 0)),(18,.v (.slice none 0 0))] (by kernel_rfl) (cd rfl rfl rfl (BN rfl rfl (.p rfl)) (cd rfl rfl rfl (wD rfl rfl rfl (.p rfl) (.p rfl) rfl (Nat.zero_le _)) (aG 1 [(21,pI p1)] (by kernel_rfl) (Ao 9 1 ?_))))
  refine an rfl (ED rfl rfl rfl rfl rfl rfl rfl rfl (of_decide_eq_true hc) hu (by exact aM) (fun a c hac=>?_))
  refine aG 2 [(23,.v (.slice none 0 0)),(24,pI 0)] (by kernel_rfl) (cd rfl rfl rfl (wD (k:=0) rfl rfl rfl (.p rfl) (.p rfl) rfl (Nat.zero_le _)) (aL [(0,.v (.slice a 0 c))] (by kernel_rfl) (aY ?_)))
  (repeat refine ae ?_)
  refine ai [26] [(4,.v (.slice a 0 c))] (by kernel_rfl) (cW ?_)
  exact aN (dh (aQ rfl)) cI ⟨_,_,rfl,rfl⟩
 refine ah ?_
 refine aY ?_
 (repeat refine ae ?_)
 refine ai [26] [(4,.v (.slice none 0 0))] (by kernel_rfl) (aY (cM 9 1 (bS ?_)))
 exact aN (dh (aQ rfl)) cI ⟨_,_,rfl,rfl⟩
def cQ (p0:(List (List ByteArray))):Option (List ByteArray):=(aW (S:=Int×Int) (T:=(Int)) (fun (v1,v2)=>cond (decide (v2<(p0.length:Int))) ((idx p0 v2).bind fun m7=>cond (decide ((IntKind.i64.wrap (v1+(m7.length:Int)))<0)) (none) (some (.inl ((IntKind.i64.wrap (v1+(m7.length:Int))),(IntKind.i64.wrap (v2+1)))))) (some (.inr v1))) FUEL (0,0)).bind fun v3=>(em v3).bind fun x9=>(aW (S:=(List ByteArray)×Int) (T:=((List ByteArray))) (fun (l14,v17)=>cond (decide (v17<(p0.length:Int))) ((idx p0 v17).bind fun m25=>(app 16 l14 m25).bind fun l26=>some (.inl (l26,(IntKind.i64.wrap (v17+1))))) (some (.inr l14))) FUEL (x9,0)).bind fun l21=>some l21
theorem kD {p0:(List (List ByteArray))} {r:(List ByteArray)}  (h:cQ p0=some r):PCall 138 [pL (eL eS) p0] [] (fun pv ρ'=>∃ a c,pv=.v (.slice a r.length c)∧ρ'=[PRes.row a r.length c 9 1 (List.map eS r)]):=by
 unfold cQ at h
 refine di Tryz.func138 rfl Tryz.ntmps138 Tryz.results138 rfl (aS [2] (by kernel_rfl) (bW (ak [(3,pI 0)] (by kernel_rfl) (co (ak [(9,pL (eL eS) p0),(10,pI (p0.length:Int)),(11,pI 0)] (by kernel_rfl) (fG h fun q5 hq5 h=>?_))))))
 refine aq (Y:=Unit×Int) (fun (_,v3)=>[(0,pL (eL eS) p0),(3,pI v3)]) (fun (_,v3)=>[]) (fun (_,v3)=>q5=v3) ?_ ?_
 ·refine av ?_
  refine aC (Y:=Unit) (S:=Int×Int) _ hq5 (fun _ (v1,v2)=>[(0,pL (eL eS) p0),(3,pI v1),(9,pL (eL eS) p0),(10,pI (p0.length:Int)),(11,pI v2)]) (fun _ (v1,v2)=>[]) () (mT rfl) bA ?_
  rintro _ ⟨v1,v2⟩ o τ hb4;(try dsimp only at hb4);dsimp only [aw]
  refine ae (ak [(12,pB (decide (v2<(p0.length:Int))))] (by kernel_rfl) (bW (ki rfl hb4 (fun hc6 hb4=>?_) fun hc6 hb4=>?_)))
  ·refine ah ?_
   refine dG (aa hb4 fun m7 hm7 hb4=>ap [] [13,14] [(5,pL eS m7)] (cG 0 (eL eS) hm7 bk) (by kernel_rfl) (bW (ai [15,16,17,18] [(3,pI (IntKind.i64.wrap (v1+(m7.length:Int))))] (by kernel_rfl) (bW (bL [19] [(20,pB (decide ((IntKind.i64.wrap (v1+(m7.length:Int)))<0)))] (by kernel_rfl) rfl hb4 (fun hc8 hb4=>?_) fun hc8 hb4=>?_)))))
   ·refine af ?_
    exact absurd hb4 (by simp)
   refine ah ?_
   refine dI (ai [22] [(11,pI (IntKind.i64.wrap (v2+1)))] (by kernel_rfl) ?_)
   exact aU hb4 () (mT rfl) bA
  refine aH ?_
  refine cj hb4 (fun ht=>aj rfl ?_)
  exact az ((),v1) (mn rfl) bA ht.symm
 rintro ⟨_,v3⟩ τ hz;(try dsimp only at hz);subst q5;(try dsimp only at h);dsimp only [aw]
 refine ae (aa h fun x9 hx9 h=>af (aG 1 [(23,pI v3)] (by kernel_rfl) ?_))
 refine an rfl (be rfl rfl (ρ1:=[]) (List.Perm.refl _) (lA hx9) ?_);rintro _ _ ⟨a10,c11,rfl,rfl⟩
 refine aL [(6,pO a10 x9.length c11)] (by kernel_rfl) (co (ak [(25,pL (eL eS) p0),(26,pI (p0.length:Int)),(27,pI 0)] (by kernel_rfl) (fG h fun q23 hq23 h=>?_)))
 refine aq (Y:=(Option Addr×Nat)×((List ByteArray))) (fun ((a19,c20),l21)=>[(6,pO a19 l21.length c20)]) (fun ((a19,c20),l21)=>[PRes.row a19 l21.length c20 9 1 (List.map eS l21)]) (fun ((a19,c20),l21)=>q23=l21) ?_ ?_
 ·refine av ?_
  refine aC (Y:=Option Addr×Nat) (S:=(List ByteArray)×Int) _ hq23 (fun (a15,c16) (l14,v17)=>[(6,pO a15 l14.length c16),(25,pL (eL eS) p0),(26,pI (p0.length:Int)),(27,pI v17)]) (fun (a15,c16) (l14,v17)=>[PRes.row a15 l14.length c16 9 1 (List.map eS l14)]) (a10,c11) (iQ rfl) cI ?_
  rintro ⟨a15,c16⟩ ⟨l14,v17⟩ o τ hb22;(try dsimp only at hb22);dsimp only [aw]
  refine ae (ak [(28,pB (decide (v17<(p0.length:Int))))] (by kernel_rfl) (bW (ki rfl hb22 (fun hc24 hb22=>?_) fun hc24 hb22=>?_)))
  ·refine ah ?_
   refine dG (aa hb22 fun m25 hm25 hb22=>ap [] [29,30] [(8,pL eS m25)] (cG 0 (eL eS) hm25 bk) (by kernel_rfl) (fG hb22 fun l26 hl26 hb22=>af (aG 2 [(31,pO a15 l14.length c16),(32,pL eS m25)] (by kernel_rfl) ?_)))
   refine an rfl (jQ (enc:=eS) rfl rfl rfl rfl rfl (fun _=>rfl) rfl rfl rfl (by exact aM) hl26 (fun a27 c28=>?_))
   refine aL [(6,pO a27 l26.length c28)] (by kernel_rfl) (dI (ai [34] [(27,pI (IntKind.i64.wrap (v17+1)))] (by kernel_rfl) ?_))
   exact aU hb22 (a27,c28) (iQ rfl) cI
  refine aH ?_
  refine cj hb22 (fun ht=>aj rfl ?_)
  exact az ((a15,c16),l14) (rq rfl) cI ht.symm
 rintro ⟨⟨a19,c20⟩,l21⟩ τ hz;(try dsimp only at hz);subst q23;(try dsimp only at h);dsimp only [aw]
 refine ae (ai [35] [(2,pO a19 l21.length c20)] (by kernel_rfl) (cW ?_))
 obtain rfl:=osi h
 exact aN (dh (aQ rfl)) cI ⟨_,_,rfl,rfl⟩
def dE (p0:(List ByteArray)):Option (List ByteArray):=cond (decide (((p0.length:Nat):Int)<2)) (some p0) ((aW (S:=Int) (T:=(Unit)⊕(_)) (fun v2=>cond (decide (v2<((p0.length:Nat):Int))) ((idx p0 v2).bind fun m7=>(idx p0 (IntKind.i64.wrap (v2 - 1))).bind fun m8=>cond (decide (m7=m8)) ((sub p0 v2 (p0.length:Int)).bind fun l10=>(aW (S:=(List ByteArray)×Int×Int) (T:=((List ByteArray)×Int)) (fun (l12,v13,v14)=>cond (decide (v14<((p0.length - v2.toNat:Nat):Int))) (((lf v14).bind fun u25=>(idx l12 (v2+v14)).bind fun m26=>(lf (IntKind.i64.wrap (v14 - 1))).bind fun u27=>(idx l12 (v2+(IntKind.i64.wrap (v14 - 1)))).bind fun m28=>cond (!decide (m26=m28)) ((lf v14).bind fun u30=>(idx l12 (v2+v14)).bind fun m31=>(idx l12 v13).bind fun m32=>some ((l12.set v13.toNat m31),(IntKind.i64.wrap (v13+1)))) (some (l12,v13))).bind fun (l22,v23)=>some (.inl (l22,v23,(IntKind.i64.wrap (v14+1))))) (some (.inr (l12,v13)))) FUEL (p0,v2,1)).bind fun (l16,v17)=>(sub l16 v17 (l16.length:Int)).bind fun l34=>(sub (List.take v17.toNat l16++List.replicate (p0.length - v17.toNat) ByteArray.empty) 0 v17).bind fun l35=>some (.inr (.inr l35))) (some (.inl (IntKind.i64.wrap (v2+1))))) (some (.inr (.inl ())))) FUEL 1).bind fun q=>match q with | .inl _=>some p0 | .inr e=>some e)
theorem kj {p0:(List ByteArray)} {a_0:Option Addr}  {n_0:Nat}  {c_0:Nat} {r:(List ByteArray)}  (h:dE p0=some r):PCall 140 [.v (.slice a_0 n_0 c_0)] [PRes.row a_0 n_0 c_0 9 1 (List.map eS p0)] (fun pv ρ'=>∃ a c,pv=.v (.slice a r.length c)∧ρ'=[PRes.row a r.length c 9 1 (List.map eS r)]):=by
 unfold dE at h
 refine n8 Tryz.func140 rfl Tryz.ntmps140 Tryz.results140 rfl ?_
 refine sU (enc:=eS) (xs:=p0) (a:=a_0) fT (fun hl ha=>?_);subst hl;clear ha
 refine ae (aS [2] (by kernel_rfl) (co (bL [6,7] [(8,pB (decide (((p0.length:Nat):Int)<2)))] (by kernel_rfl) rfl h (fun hc1 h=>?_) fun hc1 h=>?_)))
 ·refine ae ?_
  refine ai [9] [(2,pO a_0 p0.length c_0)] (by kernel_rfl) (cW (am ?_))
  obtain rfl:=osi h
  exact aN (dh (aQ rfl)) cI ⟨_,_,rfl,rfl⟩
 refine ah ?_
 refine co (ak [(3,pI 1)] (by kernel_rfl) (fG h fun q5 hq5 h=>?_))
 refine aq (Y:=Unit×Unit) (fun (_,_)=>[(0,pO a_0 p0.length c_0)]) (fun (_,_)=>[PRes.row a_0 p0.length c_0 9 1 (List.map eS p0)]) (fun (_,_)=>q5=Sum.inl ()) ?_ ?_
 ·refine av ?_
  refine aC (Y:=Unit) (S:=Int) _ hq5 (fun _ v2=>[(0,pO a_0 p0.length c_0),(3,pI v2)]) (fun _ v2=>[PRes.row a_0 p0.length c_0 9 1 (List.map eS p0)]) () (mn rfl) cI ?_
  rintro _ v2 o τ hb4;(try dsimp only at hb4);dsimp only [aw]
  refine de (bL [10,11,12] [(13,pB (decide (v2<((p0.length:Nat):Int))))] (by kernel_rfl) rfl hb4 (fun hc6 hb4=>?_) fun hc6 hb4=>?_)
  ·refine ah ?_
   refine dG (bi (ρd:=[]) [(0,0),(1,0),(2,0),(3,0),(4,0),(5,0),(6,0),(7,0),(8,0),(9,0)] _ (List.Perm.refl _) (by kernel_rfl) rfl (aa hb4 fun m7 hm7 hb4=>iq 2 [(16,pO a_0 p0.length c_0),(17,pI v2)] (by kernel_rfl) (ld rfl rfl rfl (gx (enc:=eS) (xs:=p0) rfl rfl rfl (.p rfl) fT (.p rfl) (fun _=>hm7)) (ld rfl rfl rfl (ez (sz:=1) (p:=pS m7) (enc:=eS) (xs:=p0) (a:=a_0) v2 0 m7 rfl (.p rfl) rfl fT (fun _=>hm7) rfl) (aa hb4 fun m8 hm8 hb4=>mD 3 [21] [(20,pO a_0 p0.length c_0),(22,pI (IntKind.i64.wrap (v2 - 1)))] (by kernel_rfl) (ld rfl rfl rfl (gx (enc:=eS) (xs:=p0) rfl rfl rfl (.p rfl) fT (.p rfl) (fun _=>hm8)) (ld rfl rfl rfl (ez (sz:=1) (p:=pS m8) (enc:=eS) (xs:=p0) (a:=a_0) (IntKind.i64.wrap (v2 - 1)) 0 m8 rfl (.p rfl) rfl fT (fun _=>hm8) rfl) (iq 1 [(25,pB (decide (m7=m8)))] (by kernel_rfl) (bx (cN rfl hb4 (fun hc9 hb4=>?_) fun hc9 hb4=>?_))))))))))
   ·refine ae ?_
    refine aa hb4 fun l10 hl10 hb4=>af (aG 2 [(26,pO a_0 p0.length c_0),(27,pI v2)] (by kernel_rfl) (cd rfl rfl rfl (oa (enc:=eS) (xs:=p0) rfl rfl rfl rfl rfl fT hl10) (aL [(4,pQ a_0 p0.length c_0 v2.toNat 1)] (by kernel_rfl) (co (ak [(5,pI 1)] (by kernel_rfl) (fG hb4 fun q19 hq19 hb4=>?_))))))
    refine aq (Y:=Unit×((List ByteArray)×Int)) (fun (_,(l16,v17))=>[(0,pO a_0 p0.length c_0),(3,pI v17)]) (fun (_,(l16,v17))=>[PRes.row a_0 p0.length c_0 9 1 (List.map eS l16)]) (fun (_,(l16,v17))=>q19=(l16,v17)) ?_ ?_
    ·refine av ?_
     refine aC (Y:=Unit) (S:=(List ByteArray)×Int×Int) _ hq19 (fun _ (l12,v13,v14)=>[(0,pO a_0 p0.length c_0),(3,pI v13),(4,pQ a_0 p0.length c_0 v2.toNat 1),(5,pI v14)]) (fun _ (l12,v13,v14)=>[PRes.row a_0 p0.length c_0 9 1 (List.map eS l12)]) () (iQ rfl) cI ?_
     rintro _ ⟨l12,v13,v14⟩ o τ hb18;(try dsimp only at hb18);dsimp only [aw]
     refine de (bL [29,30,31] [(32,pB (decide (v14<((p0.length - v2.toNat:Nat):Int))))] (by kernel_rfl) rfl hb18 (fun hc20 hb18=>?_) fun hc20 hb18=>?_)
     ·refine ah ?_
      refine dc hb18 fun q24 hq24 hb18=>?_
      refine aq (Y:=Unit×((List ByteArray)×Int)) (fun (_,(l22,v23))=>[(0,pO a_0 p0.length c_0),(3,pI v23),(4,pQ a_0 p0.length c_0 v2.toNat 1),(5,pI v14)]) (fun (_,(l22,v23))=>[PRes.row a_0 p0.length c_0 9 1 (List.map eS l22)]) (fun (_,(l22,v23))=>q24=(l22,v23)) ?_ ?_
      ·skip
       refine qy (bi (ρd:=[]) [(0,0),(1,0),(2,0),(3,0),(4,0),(5,0),(6,0),(7,0),(8,0),(9,0)] _ (List.Perm.refl _) (by kernel_rfl) rfl (aa hq24 fun u25 hu25 hq24=>aa hq24 fun m26 hm26 hq24=>iq 2 [(35,pQ a_0 p0.length c_0 v2.toNat 1),(36,pI v14)] (by kernel_rfl) (ld rfl rfl rfl (kA (enc:=eS) (xs:=l12) (i:=v2) rfl rfl rfl rfl rfl (gV hl10).1.1 (mA hu25) fT hm26) (ld rfl rfl rfl (ez (sz:=1) (p:=pS m26) (enc:=eS) (xs:=l12) (a:=a_0) (v2+v14) 0 m26 rfl (.p rfl) rfl fT (fun _=>hm26) rfl) (aa hq24 fun u27 hu27 hq24=>aa hq24 fun m28 hm28 hq24=>mD 3 [40] [(39,pQ a_0 p0.length c_0 v2.toNat 1),(41,pI (IntKind.i64.wrap (v14 - 1)))] (by kernel_rfl) (ld rfl rfl rfl (kA (enc:=eS) (xs:=l12) (i:=v2) rfl rfl rfl rfl rfl (gV hl10).1.1 (mA hu27) fT hm28) (ld rfl rfl rfl (ez (sz:=1) (p:=pS m28) (enc:=eS) (xs:=l12) (a:=a_0) (v2+(IntKind.i64.wrap (v14 - 1))) 0 m28 rfl (.p rfl) rfl fT (fun _=>hm28) rfl) (iq 1 [(44,pB (!decide (m26=m28)))] (by kernel_rfl) (bx (cN rfl hq24 (fun hc29 hq24=>?_) fun hc29 hq24=>?_))))))))))
       ·refine ae ?_
        refine aa hq24 fun u30 hu30 hq24=>aa hq24 fun m31 hm31 hq24=>af (aG 4 [(45,pO a_0 p0.length c_0),(46,pI v13),(47,pQ a_0 p0.length c_0 v2.toNat 1),(48,pI v14)] (by kernel_rfl) (cd rfl rfl rfl (kA (enc:=eS) (xs:=l12) (i:=v2) rfl rfl rfl rfl rfl (gV hl10).1.1 (mA hu30) fT hm31) (cd rfl rfl rfl (ez (sz:=1) (p:=pS m31) (enc:=eS) (xs:=l12) (a:=a_0) (v2+v14) 0 m31 rfl (.p rfl) rfl fT (fun _=>hm31) rfl) (aa hq24 fun m32 hm32 hq24=>cd rfl rfl rfl (gx (enc:=eS) (xs:=l12) rfl rfl rfl (.p rfl) fT (.p rfl) (fun _=>hm32)) (aP rfl rfl (uu (enc:=eS) (xs:=l12) (a:=a_0) v13 0 m32 m31 rfl rfl rfl rfl (fun _=>rfl) rfl rfl hm32 oG cg (aF (aY (ai [52,53] [(3,pI (IntKind.i64.wrap (v13+1)))] (by kernel_rfl) (aD ?_))))))))))
        obtain rfl:=osi hq24
        exact az ((),((l12.set v13.toNat m31),(IntKind.i64.wrap (v13+1)))) (iQ rfl) cI rfl
       refine ah ?_
       refine aD ?_
       obtain rfl:=osi hq24
       exact az ((),(l12,v13)) (iQ rfl) cI rfl
      rintro ⟨_,⟨l22,v23⟩⟩ τ hz;(try dsimp only at hz);subst q24;(try dsimp only at hb18);dsimp only [aw]
      refine ai [33,34] [(5,pI (IntKind.i64.wrap (v14+1)))] (by kernel_rfl) ?_
      exact aU hb18 () (iQ rfl) cI
     refine aH ?_
     refine cj hb18 (fun ht=>aj rfl ?_)
     exact az ((),(l12,v13)) (mn rfl) cI ht.symm
    rintro ⟨_,⟨l16,v17⟩⟩ τ hz;(try dsimp only at hz);subst q19;(try dsimp only at hb4);dsimp only [aw]
    refine ae (aa hb4 fun l34 hl34 hb4=>af (aG 2 [(54,pO a_0 p0.length c_0),(55,pI v17)] (by kernel_rfl) (cd rfl rfl rfl (oa (enc:=eS) (xs:=l16) rfl rfl rfl rfl rfl fT hl34) (aP rfl rfl (wA (enc:=eS) (xs:=l16) (z0:=ByteArray.empty) (i:=v17) rfl rfl rfl rfl hl34 rfl rfl rfl rfl cg (aF (dc hb4 fun l35 hl35 hb4=>af (aG 2 [(57,pO a_0 p0.length c_0),(58,pI v17)] (by kernel_rfl) ?_))))))))
    refine an rfl (wz (enc:=eS) (xs:=(List.take v17.toNat l16++List.replicate (p0.length - v17.toNat) ByteArray.empty)) rfl rfl rfl rfl rfl (by exact aM) hl35 ?_)
    refine aL [(2,pO a_0 l35.length c_0)] (by kernel_rfl) (cW (dO ?_))
    refine au hb4 (fun ht=>?_);subst ht
    refine cO ?_
    obtain rfl:=osi h
    exact aN (dh (aQ rfl)) cI ⟨_,_,rfl,rfl⟩
   refine ah ?_
   refine dI (ai [14,15] [(3,pI (IntKind.i64.wrap (v2+1)))] (by kernel_rfl) ?_)
   exact aU hb4 () (mn rfl) cI
  refine aH ?_
  refine cj hb4 (fun ht=>aj rfl ?_)
  exact az ((),()) (rq rfl) cI ht.symm
 rintro ⟨_,_⟩ τ hz;(try dsimp only at hz);subst q5;(try dsimp only at h);dsimp only [aw]
 refine ae (ai [60] [(2,pO a_0 p0.length c_0)] (by kernel_rfl) (cW ?_))
 obtain rfl:=osi h
 exact aN (dh (aQ rfl)) cI ⟨_,_,rfl,rfl⟩
def cL (p0:Zs) (p1:Zc) (p2:Int):Option Ze:=(aW (S:=Int) (T:=(Unit)⊕(_)) (fun v3=>cond (decide (v3<(p0.partners.length:Int))) ((idx p0.partners v3).bind fun m7=>cond ((kz p0.set_ (⟨p1.ID,m7⟩:Za)).getD false) (some (.inr (.inr (Ze.proved_ (⟨(⟨p1.Code,p2,true⟩:Zk),(⟨p1.ID,m7⟩:Za)⟩:Zq))))) (some (.inl (IntKind.i64.wrap (v3+1))))) (some (.inr (.inl ())))) FUEL 0).bind fun q=>match q with | .inl _=>some (Ze.plain_ (⟨(⟨p1.Code,p2,false⟩:Zk)⟩:Zt)) | .inr e=>some e
theorem ij {p0:Zs} {p1:Zc} {p2:Int} {m0_set_:Nat} {r:Ze}  (h:cL p0 p1 p2=some r):PCall 98 [.agg [pL eI p0.partners,.v (.map (some m0_set_))],.agg (aI p1),pI p2] [PRes.mp (some m0_set_) (fP Za.key vT p0.set_)] (fun pv ρ'=>pv=Ze.pv r∧ρ'=[PRes.mp (some m0_set_) (fP Za.key vT p0.set_)]):=by
 unfold cL at h
 refine di Tryz.func98 rfl Tryz.ntmps98 Tryz.results98 rfl (cX rfl (bf (cs:=[pL eI p0.partners,.v (.map (some m0_set_))]) rfl rfl (fun b1=>an rfl (bf (cs:=(aI p1)) rfl rfl (fun b2=>aZ [6] (by kernel_rfl) (co (aJ [1] [10] [(11,pL eI p0.partners),(12,pI (p0.partners.length:Int)),(13,pI 0)] (by kernel_rfl) (fG h fun q5 hq5 h=>?_))))))))
 refine aq (Y:=Unit×Unit) (fun (_,_)=>[(2,pI p2),(4,pP b2 0)]) (fun (_,_)=>[PRes.b b2 76 (aI p1),PRes.mp (some m0_set_) (fP Za.key vT p0.set_)]) (fun (_,_)=>q5=Sum.inl ()) ?_ ?_
 ·refine av ?_
  refine aC (Y:=Unit) (S:=Int) _ hq5 (fun _ v3=>[(2,pI p2),(3,pP b1 0),(4,pP b2 0),(11,pL eI p0.partners),(12,pI (p0.partners.length:Int)),(13,pI v3)]) (fun _ v3=>[PRes.b b1 96 [pL eI p0.partners,.v (.map (some m0_set_))],PRes.b b2 76 (aI p1),PRes.mp (some m0_set_) (fP Za.key vT p0.set_)]) () (qP rfl) (bd (aB aM) oX) ?_
  rintro _ v3 o τ hb4;(try dsimp only at hb4);dsimp only [aw]
  refine ae (ak [(14,pB (decide (v3<(p0.partners.length:Int))))] (by kernel_rfl) (bW (ki rfl hb4 (fun hc6 hb4=>?_) fun hc6 hb4=>?_)))
  ·refine ah ?_
   refine dG (aa hb4 fun m7 hm7 hb4=>ap [] [15,16] [(8,pI m7)] (cG 0 eI hm7 bk) (by kernel_rfl) (bW (af (cB 4 [1] [17,18,19] [(20,.agg [pI p1.ID,pI m7])] (by kernel_rfl) (an rfl (aK (cs:=[pI 0,pI 0]) rfl rfl rfl rfl (fun b8=>aP rfl rfl (al (vs:=[pI p1.ID,pI m7]) rfl rfl rfl rfl rfl cg rZ (aF (bW (af (cB 3 [1,0] [21] [(22,.v (.map (some m0_set_))),(23,.agg [pI p1.ID,pI m7])] (by kernel_rfl) (cd rfl rfl rfl (show POpQ _ _ _ _ (pB ((kz p0.set_ (⟨p1.ID,m7⟩:Za)).getD false)) from wy (xs:=p0.set_) (k:=(⟨p1.ID,m7⟩:Za)) (ek:=Za.key) (vv:=vT) (z0:=false) rfl rfl rfl (fun _=>.v rfl) Za.kenc28 (.p rfl) (.p rfl) xK (zh zm3)) (aF (cN rfl hb4 (fun hc9 hb4=>?_) fun hc9 hb4=>?_)))))))))))))))
   ·refine ae ?_
    refine aJ [2,0] (rg 25 7) [(6,Ze.pv (Ze.proved_ (⟨(⟨p1.Code,p2,true⟩:Zk),(⟨p1.ID,m7⟩:Za)⟩:Zq)))] (by kernel_rfl) (cW (dO ?_))
    refine au hb4 (fun ht=>?_);subst ht
    refine cO ?_
    obtain rfl:=osi h
    exact aN (dh (aQ rfl)) (bd (aB (aB (aB aM))) bA) ⟨rfl,rfl⟩
   refine ah ?_
   refine dI (ai [32] [(13,pI (IntKind.i64.wrap (v3+1)))] (by kernel_rfl) ?_)
   exact aU hb4 () (qP rfl) (bd (aB aM) (bd (aB aM) (bd (aB aM) bA)))
  refine aH ?_
  refine cj hb4 (fun ht=>aj rfl ?_)
  exact az ((),()) (mn rfl) (bd (aB aM) (bd (aB aM) bA)) ht.symm
 rintro ⟨_,_⟩ τ hz;(try dsimp only at hz);subst q5;(try dsimp only at h);dsimp only [aw]
 refine ae (aJ [0] (rg 33 6) [(6,Ze.pv (Ze.plain_ (⟨(⟨p1.Code,p2,false⟩:Zk)⟩:Zt)))] (by kernel_rfl) (cW ?_))
 obtain rfl:=osi h
 exact aN (dh (aQ rfl)) (bd (aB aM) bA) ⟨rfl,rfl⟩
def fU (p0:Int):Option Int:=Option.bind (cond (decide (4294967296≤p0)) (some ((cu .u64 p0 32),32)) (some (p0,0))) (fun (v1,v2)=>Option.bind (cond (decide (65536≤v1)) (some ((cu .u64 v1 16),(IntKind.i64.wrap (v2+16)))) (some (v1,v2))) (fun (v5,v6)=>Option.bind (cond (decide (256≤v5)) (some ((cu .u64 v5 8),(IntKind.i64.wrap (v6+8)))) (some (v5,v6))) (fun (v9,v10)=>(idx (⟨#[0,1,2,2,3,3,3,3,4,4,4,4,4,4,4,4,5,5,5,5,5,5,5,5,5,5,5,5,5,5,5,5,6,6,6,6,6,6,6,6,6,6,6,6,6,6,6,6,6,6,6,6,6,6,6,6,6,6,6,6,6,6,6,6,7,7,7,7,7,7,7,7,7,7,7,7,7,7,7,7,7,7,7,7,7,7,7,7,7,7,7,7,7,7,7,7,7,7,7,7,7,7,7,7,7,7,7,7,7,7,7,7,7,7,7,7,7,7,7,7,7,7,7,7,7,7,7,7,8,8,8,8,8,8,8,8,8,8,8,8,8,8,8,8,8,8,8,8,8,8,8,8,8,8,8,8,8,8,8,8,8,8,8,8,8,8,8,8,8,8,8,8,8,8,8,8,8,8,8,8,8,8,8,8,8,8,8,8,8,8,8,8,8,8,8,8,8,8,8,8,8,8,8,8,8,8,8,8,8,8,8,8,8,8,8,8,8,8,8,8,8,8,8,8,8,8,8,8,8,8,8,8,8,8,8,8,8,8,8,8,8,8,8,8,8,8,8,8,8,8,8,8,8,8,8,8]⟩:ByteArray).data.toList (IntKind.u8.wrap v9)).bind fun c13=>lb ((IntKind.i64.wrap (v10+(IntKind.i64.wrap (c13.toNat:Int))))) (fun w14=>some w14))))
theorem qT {p0:Int} {r:Int}  (h:fU p0=some r):PF 151 [pU p0] (pI r):=by
 unfold fU at h
 refine bc ?_
 refine di Tryz.func151 rfl Tryz.ntmps151 Tryz.results151 rfl (ak [(2,pI 0)] (by kernel_rfl) (co (ai [3] [(4,pB (decide (4294967296≤p0)))] (by kernel_rfl) (fG h fun q3 hq3 h=>?_))))
 refine aq (Y:=Unit×(Int×Int)) (fun (_,(v1,v2))=>[(0,pU v1),(2,pI v2)]) (fun (_,(v1,v2))=>[]) (fun (_,(v1,v2))=>q3=(v1,v2)) ?_ ?_
 ·skip
  refine ki rfl hq3 (fun hc4 hq3=>?_) fun hc4 hq3=>?_
  ·refine ae ?_
   refine ai [5,6] [(0,pU (cu .u64 p0 32))] (by kernel_rfl) (aY (ak [(2,pI 32)] (by kernel_rfl) ?_))
   obtain rfl:=osi hq3
   exact az ((),((cu .u64 p0 32),32)) (mn rfl) bA rfl
  refine ah ?_
  obtain rfl:=osi hq3
  exact az ((),(p0,0)) (mn rfl) bA rfl
 rintro ⟨_,⟨v1,v2⟩⟩ τ hz;(try dsimp only at hz);subst q3;(try dsimp only at h);dsimp only [aw]
 refine de (ai [7] [(8,pB (decide (65536≤v1)))] (by kernel_rfl) (fG h fun q7 hq7 h=>?_))
 refine aq (Y:=Unit×(Int×Int)) (fun (_,(v5,v6))=>[(0,pU v5),(2,pI v6)]) (fun (_,(v5,v6))=>[]) (fun (_,(v5,v6))=>q7=(v5,v6)) ?_ ?_
 ·skip
  refine ki rfl hq7 (fun hc8 hq7=>?_) fun hc8 hq7=>?_
  ·refine ae ?_
   refine ai [9,10] [(0,pU (cu .u64 v1 16))] (by kernel_rfl) (aY (ai [11,12] [(2,pI (IntKind.i64.wrap (v2+16)))] (by kernel_rfl) ?_))
   obtain rfl:=osi hq7
   exact az ((),((cu .u64 v1 16),(IntKind.i64.wrap (v2+16)))) (mn rfl) bA rfl
  refine ah ?_
  obtain rfl:=osi hq7
  exact az ((),(v1,v2)) (mn rfl) bA rfl
 rintro ⟨_,⟨v5,v6⟩⟩ τ hz;(try dsimp only at hz);subst q7;(try dsimp only at h);dsimp only [aw]
 refine de (ai [13] [(14,pB (decide (256≤v5)))] (by kernel_rfl) (fG h fun q11 hq11 h=>?_))
 refine aq (Y:=Unit×(Int×Int)) (fun (_,(v9,v10))=>[(0,pU v9),(2,pI v10)]) (fun (_,(v9,v10))=>[]) (fun (_,(v9,v10))=>q11=(v9,v10)) ?_ ?_
 ·skip
  refine ki rfl hq11 (fun hc12 hq11=>?_) fun hc12 hq11=>?_
  ·refine ae ?_
   refine ai [15,16] [(0,pU (cu .u64 v5 8))] (by kernel_rfl) (aY (ai [17,18] [(2,pI (IntKind.i64.wrap (v6+8)))] (by kernel_rfl) ?_))
   obtain rfl:=osi hq11
   exact az ((),((cu .u64 v5 8),(IntKind.i64.wrap (v6+8)))) (mn rfl) bA rfl
  refine ah ?_
  obtain rfl:=osi hq11
  exact az ((),(v5,v6)) (mn rfl) bA rfl
 rintro ⟨_,⟨v9,v10⟩⟩ τ hz;(try dsimp only at hz);subst q11;(try dsimp only at h);dsimp only [aw]
 refine ae (aa h fun c13 hc13 h=>?_)
 refine eK h ?_;clear h;intro w14 hw14 h
 refine af (aX 6 [] (rg 19 5) [(24,pI (IntKind.i64.wrap (v10+(IntKind.i64.wrap (c13.toNat:Int)))))] (fosx 3 (s:=(⟨#[0,1,2,2,3,3,3,3,4,4,4,4,4,4,4,4,5,5,5,5,5,5,5,5,5,5,5,5,5,5,5,5,6,6,6,6,6,6,6,6,6,6,6,6,6,6,6,6,6,6,6,6,6,6,6,6,6,6,6,6,6,6,6,6,7,7,7,7,7,7,7,7,7,7,7,7,7,7,7,7,7,7,7,7,7,7,7,7,7,7,7,7,7,7,7,7,7,7,7,7,7,7,7,7,7,7,7,7,7,7,7,7,7,7,7,7,7,7,7,7,7,7,7,7,7,7,7,7,8,8,8,8,8,8,8,8,8,8,8,8,8,8,8,8,8,8,8,8,8,8,8,8,8,8,8,8,8,8,8,8,8,8,8,8,8,8,8,8,8,8,8,8,8,8,8,8,8,8,8,8,8,8,8,8,8,8,8,8,8,8,8,8,8,8,8,8,8,8,8,8,8,8,8,8,8,8,8,8,8,8,8,8,8,8,8,8,8,8,8,8,8,8,8,8,8,8,8,8,8,8,8,8,8,8,8,8,8,8,8,8,8,8,8,8,8,8,8,8,8,8,8,8,8,8,8,8]⟩:ByteArray)) hc13 bk) (by kernel_rfl) (cd rfl rfl rfl (bT rfl (.p (congrArg (fun z=>PV.v (Value.int .i64 z)) hw14))) (aF (cW ?_))))
 exact zz r h rfl
def dy (p0:Int):Option Int:=(fU p0).bind fun x1=>some (IntKind.i64.wrap (64 - x1))
theorem lY {p0:Int} {r:Int}  (h:dy p0=some r):PF 213 [pU p0] (pI r):=by
 unfold dy at h
 refine bc ?_
 refine di Tryz.func213 rfl Tryz.ntmps213 Tryz.results213 rfl (aS [2] (by kernel_rfl) (dc h fun x1 hx1 h=>ap [] [3,4,5] [(2,pI (IntKind.i64.wrap (64 - x1)))] (bh 1 (qT hx1) bk) (by kernel_rfl) (cW ?_)))
 exact zz r h rfl
def gX (p0:Int) (p1:Int) (p2:Int):Option (Int×Int):=cond (p2 == 0) (none) (cond (decide (p2≤p0)) (none) (cond (p0 == 0) ((nz p2).bind fun u4=>(nz p2).bind fun u5=>some ((IntKind.u64.wrap (Int.tdiv p1 p2)),(Int.tmod p1 p2))) ((dy p2).bind fun x6=>(lf (IntKind.u64.wrap x6)).bind fun u7=>lb ((cu .u64 (ff .u64 p2 (IntKind.u64.wrap x6)) 32)) (fun w8=>lb ((dw .u64 (ff .u64 p2 (IntKind.u64.wrap x6)) 4294967295)) (fun w9=>(lf (IntKind.u64.wrap x6)).bind fun u10=>(lf (IntKind.u64.wrap (64 - (IntKind.u64.wrap x6)))).bind fun u11=>lb ((nQ .u64 (ff .u64 p0 (IntKind.u64.wrap x6)) (cu .u64 p1 (IntKind.u64.wrap (64 - (IntKind.u64.wrap x6)))))) (fun w12=>(lf (IntKind.u64.wrap x6)).bind fun u13=>lb ((cu .u64 (ff .u64 p1 (IntKind.u64.wrap x6)) 32)) (fun w14=>lb ((dw .u64 (ff .u64 p1 (IntKind.u64.wrap x6)) 4294967295)) (fun w15=>(nz w8).bind fun u16=>lb ((IntKind.u64.wrap (w12 - (IntKind.u64.wrap ((IntKind.u64.wrap (Int.tdiv w12 w8))*w8))))) (fun w17=>(aW (S:=Int×Int) (T:=(Int)) (fun (v18,v19)=>cond ((decide (4294967296≤v18))||(decide ((IntKind.u64.wrap ((IntKind.u64.wrap (4294967296*v19))+w14))<(IntKind.u64.wrap (v18*w9))))) (cond (decide (4294967296≤(IntKind.u64.wrap (v19+w8)))) (some (.inr (IntKind.u64.wrap (v18 - 1)))) (some (.inl ((IntKind.u64.wrap (v18 - 1)),(IntKind.u64.wrap (v19+w8)))))) (some (.inr v18))) FUEL ((IntKind.u64.wrap (Int.tdiv w12 w8)),w17)).bind fun v20=>lb ((IntKind.u64.wrap ((IntKind.u64.wrap ((IntKind.u64.wrap (w12*4294967296))+w14)) - (IntKind.u64.wrap (v20*(ff .u64 p2 (IntKind.u64.wrap x6))))))) (fun w25=>(nz w8).bind fun u26=>lb ((IntKind.u64.wrap (w25 - (IntKind.u64.wrap ((IntKind.u64.wrap (Int.tdiv w25 w8))*w8))))) (fun w27=>(aW (S:=Int×Int) (T:=(Int)) (fun (v28,v29)=>cond ((decide (4294967296≤v29))||(decide ((IntKind.u64.wrap ((IntKind.u64.wrap (4294967296*v28))+w15))<(IntKind.u64.wrap (v29*w9))))) (cond (decide (4294967296≤(IntKind.u64.wrap (v28+w8)))) (some (.inr (IntKind.u64.wrap (v29 - 1)))) (some (.inl ((IntKind.u64.wrap (v28+w8)),(IntKind.u64.wrap (v29 - 1)))))) (some (.inr v29))) FUEL (w27,(IntKind.u64.wrap (Int.tdiv w25 w8)))).bind fun v30=>(lf (IntKind.u64.wrap x6)).bind fun u35=>lb ((IntKind.u64.wrap ((IntKind.u64.wrap (v20*4294967296))+v30))) (fun w36=>lb ((cu .u64 (IntKind.u64.wrap ((IntKind.u64.wrap ((IntKind.u64.wrap (w25*4294967296))+w15)) - (IntKind.u64.wrap (v30*(ff .u64 p2 (IntKind.u64.wrap x6)))))) (IntKind.u64.wrap x6))) (fun w37=>some (w36,w37))))))))))))))
theorem qU {p0:Int} {p1:Int} {p2:Int} {r:(Int×Int)}  (h:gX p0 p1 p2=some r):PF 200 [pU p0,pU p1,pU p2] (.tup [pU r.1,pU r.2]):=by
 unfold gX at h
 refine bc ?_
 refine di Tryz.func200 rfl Tryz.ntmps200 Tryz.results200 rfl (aS [6,7] (by kernel_rfl) (co (bL [19] [(20,pB (p2 == 0))] (by kernel_rfl) rfl h (fun hc1 h=>?_) fun hc1 h=>?_)))
 ·refine af ?_
  exact absurd h (by simp)
 refine ah ?_
 refine co (bL [22,23] [(24,pB (decide (p2≤p0)))] (by kernel_rfl) rfl h (fun hc2 h=>?_) fun hc2 h=>?_)
 ·refine af ?_
  exact absurd h (by simp)
 refine ah ?_
 refine co (bL [26] [(27,pB (p0 == 0))] (by kernel_rfl) rfl h (fun hc3 h=>?_) fun hc3 h=>?_)
 ·refine ae ?_
  refine bi (ρd:=[]) [(0,0),(1,0),(2,0),(3,0),(4,0),(5,0),(6,0),(7,0)] _ (List.Perm.refl _) (by kernel_rfl) rfl (aa h fun u4 hu4 h=>aa h fun u5 hu5 h=>bt 8 [] (rg 28 6) [(6,pU (IntKind.u64.wrap (Int.tdiv p1 p2))),(7,pU (Int.tmod p1 p2))] (CE 2 hu4 (CE 5 hu5 bk)) (by kernel_rfl) (bx (cW (am ?_))))
  obtain rfl:=osi h
  exact aN (cF (aQ rfl) (aQ rfl)) bA ⟨rfl,rfl⟩
 refine ah ?_
 refine dc h fun x6 hx6 h=>ap [] [34,35,36] [(8,pU (IntKind.u64.wrap x6))] (bh 1 (lY hx6) bk) (by kernel_rfl) (dc h fun u7 hu7 h=>ap [] [37,38,39] [(2,pU (ff .u64 p2 (IntKind.u64.wrap x6)))] (tp 2 hu7 bk) (by kernel_rfl) (bW ?_))
 refine eK h ?_;clear h;intro w8 hw8 h
 refine af (cw 2 [40] [(41,pU (cu .u64 (ff .u64 p2 (IntKind.u64.wrap x6)) 32))] (by kernel_rfl) (cd rfl rfl rfl (bT rfl (.p (congrArg (fun z=>PV.v (Value.int .u64 z)) hw8))) (aF (bW ?_))))
 refine eK h ?_;clear h;intro w9 hw9 h
 refine af (cw 2 [42] [(43,pU (dw .u64 (ff .u64 p2 (IntKind.u64.wrap x6)) 4294967295))] (by kernel_rfl) (cd rfl rfl rfl (bT rfl (.p (congrArg (fun z=>PV.v (Value.int .u64 z)) hw9))) (aF (dc h fun u10 hu10 h=>aa h fun u11 hu11 h=>?_))))
 refine eK h ?_;clear h;intro w12 hw12 h
 refine af (aX 8 [] (rg 44 7) [(51,pU (nQ .u64 (ff .u64 p0 (IntKind.u64.wrap x6)) (cu .u64 p1 (IntKind.u64.wrap (64 - (IntKind.u64.wrap x6))))))] (tp 2 hu10 (tp 6 hu11 bk)) (by kernel_rfl) (cd rfl rfl rfl (bT rfl (.p (congrArg (fun z=>PV.v (Value.int .u64 z)) hw12))) (aF (dc h fun u13 hu13 h=>ap [] [52,53,54] [(12,pU (ff .u64 p1 (IntKind.u64.wrap x6)))] (tp 2 hu13 bk) (by kernel_rfl) (bW ?_)))))
 refine eK h ?_;clear h;intro w14 hw14 h
 refine af (cw 2 [55] [(56,pU (cu .u64 (ff .u64 p1 (IntKind.u64.wrap x6)) 32))] (by kernel_rfl) (cd rfl rfl rfl (bT rfl (.p (congrArg (fun z=>PV.v (Value.int .u64 z)) hw14))) (aF (bW ?_))))
 refine eK h ?_;clear h;intro w15 hw15 h
 refine af (cw 2 [57] [(58,pU (dw .u64 (ff .u64 p1 (IntKind.u64.wrap x6)) 4294967295))] (by kernel_rfl) (cd rfl rfl rfl (bT rfl (.p (congrArg (fun z=>PV.v (Value.int .u64 z)) hw15))) (aF (dc h fun u16 hu16 h=>ap [] [59,60,61] [(15,pU (IntKind.u64.wrap (Int.tdiv w12 w8)))] (CE 2 hu16 bk) (by kernel_rfl) (bW ?_)))))
 refine eK h ?_;clear h;intro w17 hw17 h
 refine af (cw 5 [62,63,64,65] [(66,pU (IntKind.u64.wrap (w12 - (IntKind.u64.wrap ((IntKind.u64.wrap (Int.tdiv w12 w8))*w8)))))] (by kernel_rfl) (cd rfl rfl rfl (bT rfl (.p (congrArg (fun z=>PV.v (Value.int .u64 z)) hw17))) (aF (dc h fun q22 hq22 h=>?_))))
 refine aq (Y:=Unit×Int) (fun (_,v20)=>[(2,pU (ff .u64 p2 (IntKind.u64.wrap x6))),(8,pU (IntKind.u64.wrap x6)),(9,pU w8),(10,pU w9),(11,pU w12),(13,pU w14),(14,pU w15),(15,pU v20)]) (fun (_,v20)=>[]) (fun (_,v20)=>q22=v20) ?_ ?_
 ·refine av ?_
  refine aC (Y:=Unit) (S:=Int×Int) _ hq22 (fun _ (v18,v19)=>[(2,pU (ff .u64 p2 (IntKind.u64.wrap x6))),(8,pU (IntKind.u64.wrap x6)),(9,pU w8),(10,pU w9),(11,pU w12),(13,pU w14),(14,pU w15),(15,pU v18),(16,pU v19)]) (fun _ (v18,v19)=>[]) () (r6 rfl) bA ?_
  rintro _ ⟨v18,v19⟩ o τ hb21;(try dsimp only at hb21);dsimp only [aw]
  refine de (bL (rg 67 11) [(78,pB ((decide (4294967296≤v18))||(decide ((IntKind.u64.wrap ((IntKind.u64.wrap (4294967296*v19))+w14))<(IntKind.u64.wrap (v18*w9))))))] (by kernel_rfl) rfl hb21 (fun hc23 hb21=>?_) fun hc23 hb21=>?_)
  ·refine ah ?_
   refine aY (qy (ai [79,80] [(15,pU (IntKind.u64.wrap (v18 - 1)))] (by kernel_rfl) (bW (ai [81,82,83] [(16,pU (IntKind.u64.wrap (v19+w8)))] (by kernel_rfl) (bW (bL [84] [(85,pB (decide (4294967296≤(IntKind.u64.wrap (v19+w8)))))] (by kernel_rfl) rfl hb21 (fun hc24 hb21=>?_) fun hc24 hb21=>?_))))))
   ·refine aH ?_
    refine o3 rfl (lT hb21 (fun ht=>aj rfl ?_))
    exact az ((),(IntKind.u64.wrap (v18 - 1))) (r5 rfl) bA ht.symm
   refine ah ?_
   refine aD ?_
   exact aU hb21 () (r6 rfl) bA
  refine aH ?_
  refine cj hb21 (fun ht=>aj rfl ?_)
  exact az ((),v18) (r5 rfl) bA ht.symm
 rintro ⟨_,v20⟩ τ hz;(try dsimp only at hz);subst q22;(try dsimp only at h);dsimp only [aw]
 refine ae ?_
 refine eK h ?_;clear h;intro w25 hw25 h
 refine af (cw 8 (rg 86 7) [(93,pU (IntKind.u64.wrap ((IntKind.u64.wrap ((IntKind.u64.wrap (w12*4294967296))+w14)) - (IntKind.u64.wrap (v20*(ff .u64 p2 (IntKind.u64.wrap x6)))))))] (by kernel_rfl) (cd rfl rfl rfl (bT rfl (.p (congrArg (fun z=>PV.v (Value.int .u64 z)) hw25))) (aF (dc h fun u26 hu26 h=>ap [] [94,95,96] [(18,pU (IntKind.u64.wrap (Int.tdiv w25 w8)))] (CE 2 hu26 bk) (by kernel_rfl) (bW ?_)))))
 refine eK h ?_;clear h;intro w27 hw27 h
 refine af (cw 5 [97,98,99,100] [(101,pU (IntKind.u64.wrap (w25 - (IntKind.u64.wrap ((IntKind.u64.wrap (Int.tdiv w25 w8))*w8)))))] (by kernel_rfl) (cd rfl rfl rfl (bT rfl (.p (congrArg (fun z=>PV.v (Value.int .u64 z)) hw27))) (aF (dc h fun q32 hq32 h=>?_))))
 refine aq (Y:=Unit×Int) (fun (_,v30)=>[(2,pU (ff .u64 p2 (IntKind.u64.wrap x6))),(8,pU (IntKind.u64.wrap x6)),(14,pU w15),(15,pU v20),(17,pU w25),(18,pU v30)]) (fun (_,v30)=>[]) (fun (_,v30)=>q32=v30) ?_ ?_
 ·refine av ?_
  refine aC (Y:=Unit) (S:=Int×Int) _ hq32 (fun _ (v28,v29)=>[(2,pU (ff .u64 p2 (IntKind.u64.wrap x6))),(8,pU (IntKind.u64.wrap x6)),(9,pU w8),(10,pU w9),(14,pU w15),(15,pU v20),(16,pU v28),(17,pU w25),(18,pU v29)]) (fun _ (v28,v29)=>[]) () (r6 rfl) bA ?_
  rintro _ ⟨v28,v29⟩ o τ hb31;(try dsimp only at hb31);dsimp only [aw]
  refine de (bL (rg 102 11) [(113,pB ((decide (4294967296≤v29))||(decide ((IntKind.u64.wrap ((IntKind.u64.wrap (4294967296*v28))+w15))<(IntKind.u64.wrap (v29*w9))))))] (by kernel_rfl) rfl hb31 (fun hc33 hb31=>?_) fun hc33 hb31=>?_)
  ·refine ah ?_
   refine aY (qy (ai [114,115] [(18,pU (IntKind.u64.wrap (v29 - 1)))] (by kernel_rfl) (bW (ai [116,117,118] [(16,pU (IntKind.u64.wrap (v28+w8)))] (by kernel_rfl) (bW (bL [119] [(120,pB (decide (4294967296≤(IntKind.u64.wrap (v28+w8)))))] (by kernel_rfl) rfl hb31 (fun hc34 hb31=>?_) fun hc34 hb31=>?_))))))
   ·refine aH ?_
    refine o3 rfl (lT hb31 (fun ht=>aj rfl ?_))
    exact az ((),(IntKind.u64.wrap (v29 - 1))) (qP rfl) bA ht.symm
   refine ah ?_
   refine aD ?_
   exact aU hb31 () (r6 rfl) bA
  refine aH ?_
  refine cj hb31 (fun ht=>aj rfl ?_)
  exact az ((),v29) (qP rfl) bA ht.symm
 rintro ⟨_,v30⟩ τ hz;(try dsimp only at hz);subst q32;(try dsimp only at h);dsimp only [aw]
 refine ae (aa h fun u35 hu35 h=>?_)
 refine eK h ?_;clear h;intro w36 hw36 h
 refine af (aX 14 [] [121,122,123,125,126,127,128,129,130,131,132,133] [(124,pU (IntKind.u64.wrap ((IntKind.u64.wrap (v20*4294967296))+v30))),(134,pU (cu .u64 (IntKind.u64.wrap ((IntKind.u64.wrap ((IntKind.u64.wrap (w25*4294967296))+w15)) - (IntKind.u64.wrap (v30*(ff .u64 p2 (IntKind.u64.wrap x6)))))) (IntKind.u64.wrap x6)))] (tp 13 hu35 bk) (by kernel_rfl) (cd rfl rfl rfl (bT rfl (.p (congrArg (fun z=>PV.v (Value.int .u64 z)) hw36))) ?_))
 refine eK h ?_;clear h;intro w37 hw37 h
 refine cd rfl rfl rfl (bT rfl (.p (congrArg (fun z=>PV.v (Value.int .u64 z)) hw37))) (aF (cW ?_))
 obtain rfl:=osi h
 exact aN (cF (aQ rfl) (aQ rfl)) bA ⟨rfl,rfl⟩
def jY (p0:Int) (p1:Int) (p2:Int) (p3:Int):Option Bool:=cond (p3 == 1) (some (decide (0<p1))) (cond (p3 == 2) (some (decide ((IntKind.u64.wrap (p2 - p1))≤p1))) (cond (p3 == 3) (some ((decide ((IntKind.u64.wrap (p2 - p1))<p1))||((p1 == (IntKind.u64.wrap (p2 - p1)))&&((Int.tmod p0 2) == 1)))) (some false)))
theorem tu {p0:Int} {p1:Int} {p2:Int} {p3:Int} {r:Bool}  (h:jY p0 p1 p2 p3=some r):PF 201 [pU p0,pU p1,pU p2,pI p3] (pB r):=by
 unfold jY at h
 refine bc ?_
 refine di Tryz.func201 rfl Tryz.ntmps201 Tryz.results201 rfl (aS [8] (by kernel_rfl) (bW (ai [10,11,12] [(9,pU (IntKind.u64.wrap (p2 - p1)))] (by kernel_rfl) (co (ak [(13,pI p3)] (by kernel_rfl) (aY (qy (bL [15] [(14,pB (p3 == 1))] (by kernel_rfl) rfl h (fun hc1 h=>?_) fun hc1 h=>?_))))))))
 ·refine ae ?_
  refine ai [16,17] [(8,pB (decide (0<p1)))] (by kernel_rfl) (cW (dO ?_))
  exact zz r h rfl
 refine ae ?_
 refine bL [19] [(18,pB (p3 == 2))] (by kernel_rfl) rfl h (fun hc2 h=>?_) fun hc2 h=>?_
 ·refine ae ?_
  refine ai [20,21,22] [(8,pB (decide ((IntKind.u64.wrap (p2 - p1))≤p1)))] (by kernel_rfl) (cW (dO ?_))
  exact zz r h rfl
 refine ae ?_
 refine bL [24] [(23,pB (p3 == 3))] (by kernel_rfl) rfl h (fun hc3 h=>?_) fun hc3 h=>?_
 ·refine ae ?_
  refine ai (rg 25 13) [(8,pB ((decide ((IntKind.u64.wrap (p2 - p1))<p1))||((p1 == (IntKind.u64.wrap (p2 - p1)))&&((Int.tmod p0 2) == 1))))] (by kernel_rfl) (cW (dO ?_))
  exact zz r h rfl
 refine ah ?_
 refine aD (bW (cU [(8,pB false)] (by kernel_rfl) ?_))
 exact zz r h rfl
def nI (p0:Zo) (p1:Int) (p2:Int):Option (Int×Int):=cond (((p1 == 0)||(decide (p2<0)))||(decide (3<p2))) (some ((0:Int),(2:Int))) (cond (decide (p1≤p0.Hi)) (some ((0:Int),(3:Int))) ((gX p0.Hi p0.Lo p1).bind fun x4=>(jY x4.1 x4.2 p1 p2).bind fun x5=>cond (!x5) (some (x4.1,(0:Int))) (cond (x4.1 == 18446744073709551615) (some ((0:Int),(3:Int))) (some ((IntKind.u64.wrap (x4.1+1)),(0:Int))))))
theorem xM {p0:Zo} {p1:Int} {p2:Int} {r:(Int×Int)}  (h:nI p0 p1 p2=some r):PF 171 [.agg [pU p0.Hi,pU p0.Lo],pU p1,pI p2] (.tup [pU r.1,pI r.2]):=by
 unfold nI at h
 refine bc ?_
 refine di Tryz.func171 rfl Tryz.ntmps171 Tryz.results171 rfl (cX rfl (bf (cs:=[pU p0.Hi,pU p0.Lo]) rfl rfl (fun b1=>aZ [6,7] (by kernel_rfl) (co (bL (rg 10 9) [(19,pB (((p1 == 0)||(decide (p2<0)))||(decide (3<p2))))] (by kernel_rfl) rfl h (fun hc2 h=>?_) fun hc2 h=>?_)))))
 ·refine ae ?_
  refine cU [(6,pU 0),(7,pI 2)] (by kernel_rfl) (am ?_)
  obtain rfl:=osi h
  exact aN (cF (aQ rfl) (aQ rfl)) bA ⟨rfl,rfl⟩
 refine ah ?_
 refine co (aJ [0] [20,21,22] [(23,pB (decide (p1≤p0.Hi)))] (by kernel_rfl) (cN rfl h (fun hc3 h=>?_) fun hc3 h=>?_))
 ·refine ae ?_
  refine cU [(6,pU 0),(7,pI 3)] (by kernel_rfl) (am ?_)
  obtain rfl:=osi h
  exact aN (cF (aQ rfl) (aQ rfl)) bA ⟨rfl,rfl⟩
 refine ah ?_
 refine dc h fun x4 hx4 h=>ap [0,0] ((rg 25 6)++[24,31,32]) [(8,pU x4.1),(9,pU x4.2)] (bh 5 (qU hx4) bk) (by kernel_rfl) (co (aa h fun x5 hx5 h=>ap [] (rg 33 5) [(38,pB (!x5))] (bh 4 (tu hx5) bk) (by kernel_rfl) (cN rfl h (fun hc6 h=>?_) fun hc6 h=>?_)))
 ·refine ae ?_
  refine ai [39] [(6,pU x4.1),(7,pI 0)] (by kernel_rfl) (cW (am ?_))
  obtain rfl:=osi h
  exact aN (cF (aQ rfl) (aQ rfl)) bA ⟨rfl,rfl⟩
 refine ah ?_
 refine co (bL [40] [(41,pB (x4.1 == 18446744073709551615))] (by kernel_rfl) rfl h (fun hc7 h=>?_) fun hc7 h=>?_)
 ·refine ae ?_
  refine cU [(6,pU 0),(7,pI 3)] (by kernel_rfl) (am ?_)
  obtain rfl:=osi h
  exact aN (cF (aQ rfl) (aQ rfl)) bA ⟨rfl,rfl⟩
 refine ah ?_
 refine bW (ai [42,43] [(6,pU (IntKind.u64.wrap (x4.1+1))),(7,pI 0)] (by kernel_rfl) (cW ?_))
 obtain rfl:=osi h
 exact aN (cF (aQ rfl) (aQ rfl)) bA ⟨rfl,rfl⟩
def gY (p0:Int) (p1:Int):Option (Int×Int):=lb ((IntKind.u64.wrap ((dw .u64 p0 4294967295)*(dw .u64 p1 4294967295)))) (fun w1=>lb ((IntKind.u64.wrap ((IntKind.u64.wrap ((cu .u64 p0 32)*(dw .u64 p1 4294967295)))+(cu .u64 w1 32)))) (fun w2=>lb ((IntKind.u64.wrap ((dw .u64 w2 4294967295)+(IntKind.u64.wrap ((dw .u64 p0 4294967295)*(cu .u64 p1 32)))))) (fun w3=>lb ((IntKind.u64.wrap ((IntKind.u64.wrap ((IntKind.u64.wrap ((cu .u64 p0 32)*(cu .u64 p1 32)))+(cu .u64 w2 32)))+(cu .u64 w3 32)))) (fun w4=>some (w4,(IntKind.u64.wrap (p0*p1)))))))
theorem qV {p0:Int} {p1:Int} {r:(Int×Int)}  (h:gY p0 p1=some r):PF 202 [pU p0,pU p1] (.tup [pU r.1,pU r.2]):=by
 unfold gY at h
 refine bc ?_
 refine di Tryz.func202 rfl Tryz.ntmps202 Tryz.results202 rfl (aS [4,5] (by kernel_rfl) (bW (ai [14,15] [(6,pU (dw .u64 p0 4294967295))] (by kernel_rfl) (bW (ai [16,17] [(7,pU (cu .u64 p0 32))] (by kernel_rfl) (bW (ai [18,19] [(8,pU (dw .u64 p1 4294967295))] (by kernel_rfl) (bW (ai [20,21] [(9,pU (cu .u64 p1 32))] (by kernel_rfl) (bW ?_))))))))))
 refine eK h ?_;clear h;intro w1 hw1 h
 refine af (cw 3 [22,23] [(24,pU (IntKind.u64.wrap ((dw .u64 p0 4294967295)*(dw .u64 p1 4294967295))))] (by kernel_rfl) (cd rfl rfl rfl (bT rfl (.p (congrArg (fun z=>PV.v (Value.int .u64 z)) hw1))) (aF (bW ?_))))
 refine eK h ?_;clear h;intro w2 hw2 h
 refine af (cw 6 (rg 25 5) [(30,pU (IntKind.u64.wrap ((IntKind.u64.wrap ((cu .u64 p0 32)*(dw .u64 p1 4294967295)))+(cu .u64 w1 32))))] (by kernel_rfl) (cd rfl rfl rfl (bT rfl (.p (congrArg (fun z=>PV.v (Value.int .u64 z)) hw2))) (aF (bW (ai [31,32] [(12,pU (dw .u64 w2 4294967295))] (by kernel_rfl) (bW (ai [33,34] [(13,pU (cu .u64 w2 32))] (by kernel_rfl) (bW ?_))))))))
 refine eK h ?_;clear h;intro w3 hw3 h
 refine af (cw 5 [35,36,37,38] [(39,pU (IntKind.u64.wrap ((dw .u64 w2 4294967295)+(IntKind.u64.wrap ((dw .u64 p0 4294967295)*(cu .u64 p1 32))))))] (by kernel_rfl) (cd rfl rfl rfl (bT rfl (.p (congrArg (fun z=>PV.v (Value.int .u64 z)) hw3))) (aF (bW ?_))))
 refine eK h ?_;clear h;intro w4 hw4 h
 refine af (cw 8 (rg 40 7) [(47,pU (IntKind.u64.wrap ((IntKind.u64.wrap ((IntKind.u64.wrap ((cu .u64 p0 32)*(cu .u64 p1 32)))+(cu .u64 w2 32)))+(cu .u64 w3 32))))] (by kernel_rfl) (cd rfl rfl rfl (bT rfl (.p (congrArg (fun z=>PV.v (Value.int .u64 z)) hw4))) (aF (bW (ai [48,49,50] [(5,pU (IntKind.u64.wrap (p0*p1)))] (by kernel_rfl) (cW ?_))))))
 obtain rfl:=osi h
 exact aN (cF (aQ rfl) (aQ rfl)) bA ⟨rfl,rfl⟩
def jy (p0:Int) (p1:Int):Option Zo:=(gY p0 p1).bind fun x2=>some (⟨x2.1,x2.2⟩:Zo)
theorem oe {p0:Int} {p1:Int} {r:Zo}  (h:jy p0 p1=some r):PF 172 [pU p0,pU p1] (.agg [pU r.Hi,pU r.Lo]):=by
 unfold jy at h
 refine bc ?_
 refine di Tryz.func172 rfl Tryz.ntmps172 Tryz.results172 rfl (cX rfl (aK (cs:=[pU 0,pU 0]) rfl rfl rfl rfl (fun b1=>aF (dc h fun x2 hx2 h=>ap [] [8,9,10,7,11,12] [(5,pU x2.1),(6,pU x2.2)] (bh 2 (qV hx2) bk) (by kernel_rfl) (bW (af (cw 3 [13,14] [(15,.agg [pU x2.1,pU x2.2])] (by kernel_rfl) (aP rfl rfl (al (vs:=[pU x2.1,pU x2.2]) rfl rfl rfl rfl rfl cg rZ (aF (cW ?_)))))))))))
 obtain rfl:=osi h
 exact aN (dh (du rfl fT rfl)) bA ⟨rfl,rfl⟩
def lZ (p0:Int) (p1:Int) (p2:Int) (p3:Int):Option (Int×Int):=(jy p0 p1).bind fun x1=>(nI x1 p2 p3).bind fun x2=>some (x2.1,x2.2)
theorem tv {p0:Int} {p1:Int} {p2:Int} {p3:Int} {r:(Int×Int)}  (h:lZ p0 p1 p2 p3=some r):PF 141 [pU p0,pU p1,pU p2,pI p3] (.tup [pU r.1,pI r.2]):=by
 unfold lZ at h
 refine bc ?_
 refine di Tryz.func141 rfl Tryz.ntmps141 Tryz.results141 rfl (aS [8,9] (by kernel_rfl) (dc h fun x1 hx1 h=>aa h fun x2 hx2 h=>ap [] (rg 10 8) [(8,pU x2.1),(9,pI x2.2)] (bh 2 (oe hx1) (bh 5 (xM hx2) bk)) (by kernel_rfl) (cW ?_)))
 obtain rfl:=osi h
 exact aN (cF (aQ rfl) (aQ rfl)) bA ⟨rfl,rfl⟩
def fz (p0:Int) (p1:Int) (p2:Int):Option Int:=(lZ (IntKind.u64.wrap p0) (IntKind.u64.wrap p1) (IntKind.u64.wrap p2) 1).bind fun x1=>cond ((x1.2 != 0)||(decide (1000000000000<x1.1))) (some (1000000000000:Int)) (some (IntKind.i64.wrap x1.1))
theorem oT {p0:Int} {p1:Int} {p2:Int} {r:Int}  (h:fz p0 p1 p2=some r):PF 99 [pI p0,pI p1,pI p2] (pI r):=by
 unfold fz at h
 refine bc ?_
 refine di Tryz.func99 rfl Tryz.ntmps99 Tryz.results99 rfl (aS [6] (by kernel_rfl) (dc h fun x1 hx1 h=>ap [] ((rg 10 7)++[9,17,18]) [(7,pU x1.1),(8,pI x1.2)] (bh 6 (tv hx1) bk) (by kernel_rfl) (co (bL (rg 19 5) [(24,pB ((x1.2 != 0)||(decide (1000000000000<x1.1))))] (by kernel_rfl) rfl h (fun hc2 h=>?_) fun hc2 h=>?_))))
 ·refine ae ?_
  refine cU [(6,pI 1000000000000)] (by kernel_rfl) (am ?_)
  exact zz r h rfl
 refine ah ?_
 refine bW (ai [25,26] [(6,pI (IntKind.i64.wrap x1.1))] (by kernel_rfl) (cW ?_))
 exact zz r h rfl
def kE (p0:(List Int)):Option Int:=(aW (S:=Int) (T:=(Unit)⊕(_)) (fun v1=>cond (decide (v1<(p0.length:Int))) ((idx p0 v1).bind fun m5=>cond (m5 != 0) (some (.inr (.inr m5))) (some (.inl (IntKind.i64.wrap (v1+1))))) (some (.inr (.inl ())))) FUEL 0).bind fun q=>match q with | .inl _=>some (0:Int) | .inr e=>some e
theorem qF {p0:(List Int)} {r:Int}  (h:kE p0=some r):PF 102 [pL eI p0] (pI r):=by
 unfold kE at h
 refine bc ?_
 refine di Tryz.func102 rfl Tryz.ntmps102 Tryz.results102 rfl (aS [2] (by kernel_rfl) (bW (ak [(3,pI 0)] (by kernel_rfl) (co (ak [(6,pL eI p0),(7,pI (p0.length:Int)),(8,pI 0)] (by kernel_rfl) (fG h fun q3 hq3 h=>?_))))))
 refine aq (Y:=Unit×Unit) (fun (_,_)=>[(3,pI 0)]) (fun (_,_)=>[]) (fun (_,_)=>q3=Sum.inl ()) ?_ ?_
 ·refine av ?_
  refine aC (Y:=Unit) (S:=Int) _ hq3 (fun _ v1=>[(3,pI 0),(6,pL eI p0),(7,pI (p0.length:Int)),(8,pI v1)]) (fun _ v1=>[]) () (iQ rfl) bA ?_
  rintro _ v1 o τ hb2;(try dsimp only at hb2);dsimp only [aw]
  refine ae (ak [(9,pB (decide (v1<(p0.length:Int))))] (by kernel_rfl) (bW (ki rfl hb2 (fun hc4 hb2=>?_) fun hc4 hb2=>?_)))
  ·refine ah ?_
   refine dG (aa hb2 fun m5 hm5 hb2=>ap [] [10,11] [(5,pI m5)] (cG 0 eI hm5 bk) (by kernel_rfl) (bW (bL [12,13] [(14,pB (m5 != 0))] (by kernel_rfl) rfl hb2 (fun hc6 hb2=>?_) fun hc6 hb2=>?_)))
   ·refine ae ?_
    refine ai [15] [(2,pI m5)] (by kernel_rfl) (cW (dO ?_))
    refine au hb2 (fun ht=>?_);subst ht
    refine cO ?_
    exact zz r h rfl
   refine ah ?_
   refine dI (ai [16] [(8,pI (IntKind.i64.wrap (v1+1)))] (by kernel_rfl) ?_)
   exact aU hb2 () (iQ rfl) bA
  refine aH ?_
  refine cj hb2 (fun ht=>aj rfl ?_)
  exact az ((),()) (rq rfl) bA ht.symm
 rintro ⟨_,_⟩ τ hz;(try dsimp only at hz);subst q3;(try dsimp only at h);dsimp only [aw]
 refine ae (ai [17] [(2,pI 0)] (by kernel_rfl) (cW ?_))
 exact zz r h rfl
def eM (p0:Za) (p1:Za):Option Int:=(dC p0.Product p1.Product).bind fun x3=>(dC p0.Agreement p1.Agreement).bind fun x4=>(kE [x3,x4]).bind fun x6=>some x6
theorem ma {p0:Za} {p1:Za} {r:Int}  (h:eM p0 p1=some r):PF 50 [.agg [pI p0.Product,pI p0.Agreement],.agg [pI p1.Product,pI p1.Agreement]] (pI r):=by
 unfold eM at h
 refine bc ?_
 refine di Tryz.func50 rfl Tryz.ntmps50 Tryz.results50 rfl (cX rfl (bf (cs:=[pI p0.Product,pI p0.Agreement]) rfl rfl (fun b1=>an rfl (bf (cs:=[pI p1.Product,pI p1.Agreement]) rfl rfl (fun b2=>aZ [4] (by kernel_rfl) (bW (bi (ρd:=[]) [(0,0),(1,0),(2,0),(3,0),(5,0),(6,0),(7,0),(8,0),(4,1),(9,1),(10,1),(11,1),(12,0)] _ (List.Perm.refl _) (by kernel_rfl) rfl (aa h fun x3 hx3 h=>aa h fun x4 hx4 h=>bt 10 [1,0,1,0] [5,6,7,8,10,11,12,13] [(9,pI x3),(14,pI x4)] (bh 8 (fx hx3) (bh 9 (fx hx4) bk)) (by kernel_rfl) ?_))))))))
 refine im rfl rfl rfl (pl_fz (bM rfl rfl rfl rfl rfl (gr rfl (gr rfl jJ)) rfl rfl rfl rfl (fun b5=>⟨_,_,_,_,_,_,_,rfl,by (repeat (first | exact aM | apply aB)),?_⟩)))
 refine aa h fun x6 hx6 h=>bt 2 [] [16] [(4,pI x6)] (bh 0 (qF hx6) bk) (by kernel_rfl) (bx (cW ?_))
 exact zz r h rfl
def bm (p0:(List Za)):Option (List Za):=cond (decide (((p0.length:Nat):Int)<2)) (some p0) ((aW (S:=Int) (T:=(Unit)⊕(_)) (fun v2=>cond (decide (v2<((p0.length:Nat):Int))) ((idx p0 v2).bind fun m7=>(idx p0 (IntKind.i64.wrap (v2 - 1))).bind fun m8=>cond (Za.eqb m7 m8) ((sub p0 v2 (p0.length:Int)).bind fun l10=>(aW (S:=(List Za)×Int×Int) (T:=((List Za)×Int)) (fun (l12,v13,v14)=>cond (decide (v14<((p0.length - v2.toNat:Nat):Int))) (((lf v14).bind fun u25=>(idx l12 (v2+v14)).bind fun m26=>(lf (IntKind.i64.wrap (v14 - 1))).bind fun u27=>(idx l12 (v2+(IntKind.i64.wrap (v14 - 1)))).bind fun m28=>cond (!(Za.eqb m26 m28)) ((lf v14).bind fun u30=>(idx l12 (v2+v14)).bind fun m31=>(idx l12 v13).bind fun m32=>some ((l12.set v13.toNat m31),(IntKind.i64.wrap (v13+1)))) (some (l12,v13))).bind fun (l22,v23)=>some (.inl (l22,v23,(IntKind.i64.wrap (v14+1))))) (some (.inr (l12,v13)))) FUEL (p0,v2,1)).bind fun (l16,v17)=>(sub l16 v17 (l16.length:Int)).bind fun l34=>(sub (List.take v17.toNat l16++List.replicate (p0.length - v17.toNat) (⟨(0:Int),(0:Int)⟩:Za)) 0 v17).bind fun l35=>some (.inr (.inr l35))) (some (.inl (IntKind.i64.wrap (v2+1))))) (some (.inr (.inl ())))) FUEL 1).bind fun q=>match q with | .inl _=>some p0 | .inr e=>some e)
theorem df {p0:(List Za)} {a_0:Option Addr}  {n_0:Nat}  {c_0:Nat} {r:(List Za)}  (h:bm p0=some r):PCall 51 [.v (.slice a_0 n_0 c_0)] [PRes.row a_0 n_0 c_0 28 2 (List.map Za.enc p0)] (fun pv ρ'=>∃ a c,pv=.v (.slice a r.length c)∧ρ'=[PRes.row a r.length c 28 2 (List.map Za.enc r)]):=by
 unfold bm at h
 refine n8 Tryz.func51 rfl Tryz.ntmps51 Tryz.results51 rfl ?_
 refine sU (enc:=Za.enc) (xs:=p0) (a:=a_0) fT (fun hl ha=>?_);subst hl;clear ha
 refine ae (aS [2] (by kernel_rfl) (co (bL [6,7] [(8,pB (decide (((p0.length:Nat):Int)<2)))] (by kernel_rfl) rfl h (fun hc1 h=>?_) fun hc1 h=>?_)))
 ·refine ae ?_
  refine ai [9] [(2,pO a_0 p0.length c_0)] (by kernel_rfl) (cW (am ?_))
  obtain rfl:=osi h
  exact aN (dh (aQ rfl)) cI ⟨_,_,rfl,rfl⟩
 refine ah ?_
 refine co (ak [(3,pI 1)] (by kernel_rfl) (fG h fun q5 hq5 h=>?_))
 refine aq (Y:=Unit×Unit) (fun (_,_)=>[(0,pO a_0 p0.length c_0)]) (fun (_,_)=>[PRes.row a_0 p0.length c_0 28 2 (List.map Za.enc p0)]) (fun (_,_)=>q5=Sum.inl ()) ?_ ?_
 ·refine av ?_
  refine aC (Y:=Unit) (S:=Int) _ hq5 (fun _ v2=>[(0,pO a_0 p0.length c_0),(3,pI v2)]) (fun _ v2=>[PRes.row a_0 p0.length c_0 28 2 (List.map Za.enc p0)]) () (mn rfl) cI ?_
  rintro _ v2 o τ hb4;(try dsimp only at hb4);dsimp only [aw]
  refine de (bL [10,11,12] [(13,pB (decide (v2<((p0.length:Nat):Int))))] (by kernel_rfl) rfl hb4 (fun hc6 hb4=>?_) fun hc6 hb4=>?_)
  ·refine ah ?_
   refine dG (bi (ρd:=[]) [(0,0),(1,0),(2,0),(3,0),(4,0),(5,0),(6,0),(7,0),(8,0),(9,0)] _ (List.Perm.refl _) (by kernel_rfl) rfl (aa hb4 fun m7 hm7 hb4=>iq 2 [(16,pO a_0 p0.length c_0),(17,pI v2)] (by kernel_rfl) (ld rfl rfl rfl (gx (enc:=Za.enc) (xs:=p0) rfl rfl rfl (.p rfl) fT (.p rfl) (fun _=>hm7)) (ld rfl rfl rfl (ez (sz:=2) (p:=.agg [pI m7.Product,pI m7.Agreement]) (enc:=Za.enc) (xs:=p0) (a:=a_0) v2 0 m7 rfl (.p rfl) rfl fT (fun _=>hm7) rfl) (aa hb4 fun m8 hm8 hb4=>mD 3 [21] [(20,pO a_0 p0.length c_0),(22,pI (IntKind.i64.wrap (v2 - 1)))] (by kernel_rfl) (ld rfl rfl rfl (gx (enc:=Za.enc) (xs:=p0) rfl rfl rfl (.p rfl) fT (.p rfl) (fun _=>hm8)) (ld rfl rfl rfl (ez (sz:=2) (p:=.agg [pI m8.Product,pI m8.Agreement]) (enc:=Za.enc) (xs:=p0) (a:=a_0) (IntKind.i64.wrap (v2 - 1)) 0 m8 rfl (.p rfl) rfl fT (fun _=>hm8) rfl) (bt 1 [] [] [(25,pB (Za.eqb m7 m8))] (CF 0 Za.eqok28 bk) (by kernel_rfl) (bx (cN rfl hb4 (fun hc9 hb4=>?_) fun hc9 hb4=>?_))))))))))
   ·refine ae ?_
    refine aa hb4 fun l10 hl10 hb4=>af (aG 2 [(26,pO a_0 p0.length c_0),(27,pI v2)] (by kernel_rfl) (cd rfl rfl rfl (oa (enc:=Za.enc) (xs:=p0) rfl rfl rfl rfl rfl fT hl10) (aL [(4,pQ a_0 p0.length c_0 v2.toNat 2)] (by kernel_rfl) (co (ak [(5,pI 1)] (by kernel_rfl) (fG hb4 fun q19 hq19 hb4=>?_))))))
    refine aq (Y:=Unit×((List Za)×Int)) (fun (_,(l16,v17))=>[(0,pO a_0 p0.length c_0),(3,pI v17)]) (fun (_,(l16,v17))=>[PRes.row a_0 p0.length c_0 28 2 (List.map Za.enc l16)]) (fun (_,(l16,v17))=>q19=(l16,v17)) ?_ ?_
    ·refine av ?_
     refine aC (Y:=Unit) (S:=(List Za)×Int×Int) _ hq19 (fun _ (l12,v13,v14)=>[(0,pO a_0 p0.length c_0),(3,pI v13),(4,pQ a_0 p0.length c_0 v2.toNat 2),(5,pI v14)]) (fun _ (l12,v13,v14)=>[PRes.row a_0 p0.length c_0 28 2 (List.map Za.enc l12)]) () (iQ rfl) cI ?_
     rintro _ ⟨l12,v13,v14⟩ o τ hb18;(try dsimp only at hb18);dsimp only [aw]
     refine de (bL [29,30,31] [(32,pB (decide (v14<((p0.length - v2.toNat:Nat):Int))))] (by kernel_rfl) rfl hb18 (fun hc20 hb18=>?_) fun hc20 hb18=>?_)
     ·refine ah ?_
      refine dc hb18 fun q24 hq24 hb18=>?_
      refine aq (Y:=Unit×((List Za)×Int)) (fun (_,(l22,v23))=>[(0,pO a_0 p0.length c_0),(3,pI v23),(4,pQ a_0 p0.length c_0 v2.toNat 2),(5,pI v14)]) (fun (_,(l22,v23))=>[PRes.row a_0 p0.length c_0 28 2 (List.map Za.enc l22)]) (fun (_,(l22,v23))=>q24=(l22,v23)) ?_ ?_
      ·skip
       refine qy (bi (ρd:=[]) [(0,0),(1,0),(2,0),(3,0),(4,0),(5,0),(6,0),(7,0),(8,0),(9,0)] _ (List.Perm.refl _) (by kernel_rfl) rfl (aa hq24 fun u25 hu25 hq24=>aa hq24 fun m26 hm26 hq24=>iq 2 [(35,pQ a_0 p0.length c_0 v2.toNat 2),(36,pI v14)] (by kernel_rfl) (ld rfl rfl rfl (kA (enc:=Za.enc) (xs:=l12) (i:=v2) rfl rfl rfl rfl rfl (gV hl10).1.1 (mA hu25) fT hm26) (ld rfl rfl rfl (ez (sz:=2) (p:=.agg [pI m26.Product,pI m26.Agreement]) (enc:=Za.enc) (xs:=l12) (a:=a_0) (v2+v14) 0 m26 rfl (.p rfl) rfl fT (fun _=>hm26) rfl) (aa hq24 fun u27 hu27 hq24=>aa hq24 fun m28 hm28 hq24=>mD 3 [40] [(39,pQ a_0 p0.length c_0 v2.toNat 2),(41,pI (IntKind.i64.wrap (v14 - 1)))] (by kernel_rfl) (ld rfl rfl rfl (kA (enc:=Za.enc) (xs:=l12) (i:=v2) rfl rfl rfl rfl rfl (gV hl10).1.1 (mA hu27) fT hm28) (ld rfl rfl rfl (ez (sz:=2) (p:=.agg [pI m28.Product,pI m28.Agreement]) (enc:=Za.enc) (xs:=l12) (a:=a_0) (v2+(IntKind.i64.wrap (v14 - 1))) 0 m28 rfl (.p rfl) rfl fT (fun _=>hm28) rfl) (bt 1 [] [] [(44,pB (!(Za.eqb m26 m28)))] (CF 0 Za.eqok28 bk) (by kernel_rfl) (bx (cN rfl hq24 (fun hc29 hq24=>?_) fun hc29 hq24=>?_))))))))))
       ·refine ae ?_
        refine aa hq24 fun u30 hu30 hq24=>aa hq24 fun m31 hm31 hq24=>af (aG 4 [(45,pO a_0 p0.length c_0),(46,pI v13),(47,pQ a_0 p0.length c_0 v2.toNat 2),(48,pI v14)] (by kernel_rfl) (cd rfl rfl rfl (kA (enc:=Za.enc) (xs:=l12) (i:=v2) rfl rfl rfl rfl rfl (gV hl10).1.1 (mA hu30) fT hm31) (cd rfl rfl rfl (ez (sz:=2) (p:=.agg [pI m31.Product,pI m31.Agreement]) (enc:=Za.enc) (xs:=l12) (a:=a_0) (v2+v14) 0 m31 rfl (.p rfl) rfl fT (fun _=>hm31) rfl) (aa hq24 fun m32 hm32 hq24=>cd rfl rfl rfl (gx (enc:=Za.enc) (xs:=l12) rfl rfl rfl (.p rfl) fT (.p rfl) (fun _=>hm32)) (aP rfl rfl (uu (enc:=Za.enc) (xs:=l12) (a:=a_0) v13 0 m32 m31 rfl rfl rfl rfl (fun _=>rfl) rfl rfl hm32 rZ cg (aF (aY (ai [52,53] [(3,pI (IntKind.i64.wrap (v13+1)))] (by kernel_rfl) (aD ?_))))))))))
        obtain rfl:=osi hq24
        exact az ((),((l12.set v13.toNat m31),(IntKind.i64.wrap (v13+1)))) (iQ rfl) cI rfl
       refine ah ?_
       refine aD ?_
       obtain rfl:=osi hq24
       exact az ((),(l12,v13)) (iQ rfl) cI rfl
      rintro ⟨_,⟨l22,v23⟩⟩ τ hz;(try dsimp only at hz);subst q24;(try dsimp only at hb18);dsimp only [aw]
      refine ai [33,34] [(5,pI (IntKind.i64.wrap (v14+1)))] (by kernel_rfl) ?_
      exact aU hb18 () (iQ rfl) cI
     refine aH ?_
     refine cj hb18 (fun ht=>aj rfl ?_)
     exact az ((),(l12,v13)) (mn rfl) cI ht.symm
    rintro ⟨_,⟨l16,v17⟩⟩ τ hz;(try dsimp only at hz);subst q19;(try dsimp only at hb4);dsimp only [aw]
    refine ae (aa hb4 fun l34 hl34 hb4=>af (aG 2 [(54,pO a_0 p0.length c_0),(55,pI v17)] (by kernel_rfl) (cd rfl rfl rfl (oa (enc:=Za.enc) (xs:=l16) rfl rfl rfl rfl rfl fT hl34) (aP rfl rfl (wA (enc:=Za.enc) (xs:=l16) (z0:=(⟨(0:Int),(0:Int)⟩:Za)) (i:=v17) rfl rfl rfl rfl hl34 rfl rfl rfl rfl cg (aF (dc hb4 fun l35 hl35 hb4=>af (aG 2 [(57,pO a_0 p0.length c_0),(58,pI v17)] (by kernel_rfl) ?_))))))))
    refine an rfl (wz (enc:=Za.enc) (xs:=(List.take v17.toNat l16++List.replicate (p0.length - v17.toNat) (⟨(0:Int),(0:Int)⟩:Za))) rfl rfl rfl rfl rfl (by exact aM) hl35 ?_)
    refine aL [(2,pO a_0 l35.length c_0)] (by kernel_rfl) (cW (dO ?_))
    refine au hb4 (fun ht=>?_);subst ht
    refine cO ?_
    obtain rfl:=osi h
    exact aN (dh (aQ rfl)) cI ⟨_,_,rfl,rfl⟩
   refine ah ?_
   refine dI (ai [14,15] [(3,pI (IntKind.i64.wrap (v2+1)))] (by kernel_rfl) ?_)
   exact aU hb4 () (mn rfl) cI
  refine aH ?_
  refine cj hb4 (fun ht=>aj rfl ?_)
  exact az ((),()) (rq rfl) cI ht.symm
 rintro ⟨_,_⟩ τ hz;(try dsimp only at hz);subst q5;(try dsimp only at h);dsimp only [aw]
 refine ae (ai [60] [(2,pO a_0 p0.length c_0)] (by kernel_rfl) (cW ?_))
 obtain rfl:=osi h
 exact aN (dh (aQ rfl)) cI ⟨_,_,rfl,rfl⟩
def gC (p0:Zq):Option Zk:=some p0.use
theorem mH {p0:Zq} {r:Zk}  (h:gC p0=some r):PF 240 [.agg [pS p0.use.Code,pI p0.use.Value,pB p0.use.Originating,pI p0.premise.Product,pI p0.premise.Agreement]] (.agg [pS r.Code,pI r.Value,pB r.Originating]):=by
 unfold gC at h
 refine bc ?_
 refine di Tryz.func240 rfl Tryz.ntmps240 Tryz.results240 rfl (cX rfl (bf (cs:=[pS p0.use.Code,pI p0.use.Value,pB p0.use.Originating,pI p0.premise.Product,pI p0.premise.Agreement]) rfl rfl (fun b1=>an rfl (aK (cs:=[pS ByteArray.empty,pI 0,pB false]) rfl rfl rfl rfl (fun b2=>aF (bW (af (cB 2 [1] [3] [(4,.agg [pS p0.use.Code,pI p0.use.Value,pB p0.use.Originating])] (by kernel_rfl) (aP rfl rfl (al (vs:=[pS p0.use.Code,pI p0.use.Value,pB p0.use.Originating]) rfl rfl rfl rfl rfl cg zl3 (aF (cW ?_))))))))))))
 obtain rfl:=osi h
 exact aN (dh (du rfl fT rfl)) bA ⟨rfl,rfl⟩
def gN (p0:Zt):Option Zk:=some p0.use
theorem mQ {p0:Zt} {r:Zk}  (h:gN p0=some r):PF 241 [.agg [pS p0.use.Code,pI p0.use.Value,pB p0.use.Originating]] (.agg [pS r.Code,pI r.Value,pB r.Originating]):=by
 unfold gN at h
 refine bc ?_
 refine di Tryz.func241 rfl Tryz.ntmps241 Tryz.results241 rfl (cX rfl (bf (cs:=[pS p0.use.Code,pI p0.use.Value,pB p0.use.Originating]) rfl rfl (fun b1=>an rfl (aK (cs:=[pS ByteArray.empty,pI 0,pB false]) rfl rfl rfl rfl (fun b2=>aF (bW (af (cB 2 [1] [3] [(4,.agg [pS p0.use.Code,pI p0.use.Value,pB p0.use.Originating])] (by kernel_rfl) (aP rfl rfl (al (vs:=[pS p0.use.Code,pI p0.use.Value,pB p0.use.Originating]) rfl rfl rfl rfl rfl cg zl3 (aF (cW ?_))))))))))))
 obtain rfl:=osi h
 exact aN (dh (du rfl fT rfl)) bA ⟨rfl,rfl⟩
def Icumulation_supply_input (x:Ze)  : Option Zk:=match x with | .plain_ a=>gN a  | .proved_ a=>gC a
theorem Icumulation_supply_input_ok {x:Ze}  {w:Zk} (h:Icumulation_supply_input x  = some w):PFI x.pv "customs/cumulation.input" [] (.agg [pS w.Code,pI w.Value,pB w.Originating]):=by
 cases x with
 | plain_ a=>exact uy ⟨fun _ _=>by kernel_rfl⟩ (mQ h)
 | proved_ a=>exact uy ⟨fun _ _=>by kernel_rfl⟩ (mH h)
def fA (p0:(List Zc)) (p1:Int):Option (Zc×Bool):=(aW (S:=Int) (T:=(Unit)⊕(_)) (fun v2=>cond (decide (v2<(p0.length:Int))) ((idx p0 v2).bind fun m6=>cond (m6.ID == p1) ((idx p0 v2).bind fun m8=>some (.inr (.inr (m8,true)))) (some (.inl (IntKind.i64.wrap (v2+1))))) (some (.inr (.inl ())))) FUEL 0).bind fun q=>match q with | .inl _=>some ((⟨0,ByteArray.empty,ByteArray.empty,0,false,[],[]⟩:Zc),false) | .inr e=>some e
theorem i5 {p0:(List Zc)} {p1:Int} {r:(Zc×Bool)}  (h:fA p0 p1=some r):PF 53 [pL Zc.enc p0,pI p1] (.tup [.agg (aI r.1),pB r.2]):=by
 unfold fA at h
 refine bc ?_
 refine di Tryz.func53 rfl Tryz.ntmps53 Tryz.results53 rfl (cX rfl (aK (cs:=[pI 0,pS ByteArray.empty,pS ByteArray.empty,pI 0,pB false,pN,pN]) rfl rfl rfl rfl (fun b1=>aZ [5] (by kernel_rfl) (co (ak [(6,pI 0)] (by kernel_rfl) (fG h fun q4 hq4 h=>?_))))))
 refine aq (Y:=Unit×Unit) (fun (_,_)=>[(4,pP b1 0)]) (fun (_,_)=>[PRes.b b1 76 [pI 0,pS ByteArray.empty,pS ByteArray.empty,pI 0,pB false,pN,pN]]) (fun (_,_)=>q4=Sum.inl ()) ?_ ?_
 ·refine av ?_
  refine aC (Y:=Unit) (S:=Int) _ hq4 (fun _ v2=>[(0,pL Zc.enc p0),(1,pI p1),(4,pP b1 0),(6,pI v2)]) (fun _ v2=>[PRes.b b1 76 [pI 0,pS ByteArray.empty,pS ByteArray.empty,pI 0,pB false,pN,pN]]) () (iQ rfl) cI ?_
  rintro _ v2 o τ hb3;(try dsimp only at hb3);dsimp only [aw]
  refine de (bL [7,8,9] [(10,pB (decide (v2<(p0.length:Int))))] (by kernel_rfl) rfl hb3 (fun hc5 hb3=>?_) fun hc5 hb3=>?_)
  ·refine ah ?_
   refine dG (aa hb3 fun m6 hm6 hb3=>ap [] (rg 13 6) [(19,pB (m6.ID == p1))] (cG 2 Zc.enc hm6 bk) (by kernel_rfl) (cN rfl hb3 (fun hc7 hb3=>?_) fun hc7 hb3=>?_))
   ·refine ae ?_
    refine aa hb3 fun m8 hm8 hb3=>af (aX 4 [] [20,21,22] [(23,.agg (aI m8))] (cG 2 Zc.enc hm8 bk) (by kernel_rfl) (aP rfl rfl (al (vs:=(aI m8)) rfl rfl rfl rfl rfl cg nf (aL [(5,pB true)] (by kernel_rfl) (cW (dO ?_))))))
    refine au hb3 (fun ht=>?_);subst ht
    refine cO ?_
    obtain rfl:=osi h
    exact aN (cF (du rfl fT rfl) (aQ rfl)) bA ⟨rfl,rfl⟩
   refine ah ?_
   refine dI (ai [11,12] [(6,pI (IntKind.i64.wrap (v2+1)))] (by kernel_rfl) ?_)
   exact aU hb3 () (iQ rfl) cI
  refine aH ?_
  refine cj hb3 (fun ht=>aj rfl ?_)
  exact az ((),()) (rq rfl) cI ht.symm
 rintro ⟨_,_⟩ τ hz;(try dsimp only at hz);subst q4;(try dsimp only at h);dsimp only [aw]
 refine ae (af (aG 1 [(24,.agg [pI 0,pS ByteArray.empty,pS ByteArray.empty,pI 0,pB false,pN,pN])] (by kernel_rfl) (aP rfl rfl (al (vs:=[pI 0,pS ByteArray.empty,pS ByteArray.empty,pI 0,pB false,pN,pN]) rfl rfl rfl rfl rfl cg nf (aL [(5,pB false)] (by kernel_rfl) (aY (cJ (k:=5) (b:=b1) rfl cg (cJ (k:=6) (b:=b1) rfl cg (bS ?_)))))))))
 obtain rfl:=osi h
 exact aN (cF (du rfl fT rfl) (aQ rfl)) bA ⟨rfl,rfl⟩
def e9 (p0:(List Zb)) (p1:Int):Option (Zb×Bool):=(aW (S:=Int) (T:=(Unit)⊕(_)) (fun v2=>cond (decide (v2<(p0.length:Int))) ((idx p0 v2).bind fun m6=>cond (m6.ID == p1) ((idx p0 v2).bind fun m8=>some (.inr (.inr (m8,true)))) (some (.inl (IntKind.i64.wrap (v2+1))))) (some (.inr (.inl ())))) FUEL 0).bind fun q=>match q with | .inl _=>some ((⟨0,0,[],[]⟩:Zb),false) | .inr e=>some e
theorem jo {p0:(List Zb)} {p1:Int} {r:(Zb×Bool)}  (h:e9 p0 p1=some r):PF 54 [pL Zb.enc p0,pI p1] (.tup [.agg (aA r.1),pB r.2]):=by
 unfold e9 at h
 refine bc ?_
 refine di Tryz.func54 rfl Tryz.ntmps54 Tryz.results54 rfl (cX rfl (aK (cs:=[pI 0,pI 0,pN,pN]) rfl rfl rfl rfl (fun b1=>aZ [5] (by kernel_rfl) (co (ak [(6,pI 0)] (by kernel_rfl) (fG h fun q4 hq4 h=>?_))))))
 refine aq (Y:=Unit×Unit) (fun (_,_)=>[(4,pP b1 0)]) (fun (_,_)=>[PRes.b b1 81 [pI 0,pI 0,pN,pN]]) (fun (_,_)=>q4=Sum.inl ()) ?_ ?_
 ·refine av ?_
  refine aC (Y:=Unit) (S:=Int) _ hq4 (fun _ v2=>[(0,pL Zb.enc p0),(1,pI p1),(4,pP b1 0),(6,pI v2)]) (fun _ v2=>[PRes.b b1 81 [pI 0,pI 0,pN,pN]]) () (iQ rfl) cI ?_
  rintro _ v2 o τ hb3;(try dsimp only at hb3);dsimp only [aw]
  refine de (bL [7,8,9] [(10,pB (decide (v2<(p0.length:Int))))] (by kernel_rfl) rfl hb3 (fun hc5 hb3=>?_) fun hc5 hb3=>?_)
  ·refine ah ?_
   refine dG (aa hb3 fun m6 hm6 hb3=>ap [] (rg 13 6) [(19,pB (m6.ID == p1))] (cG 2 Zb.enc hm6 bk) (by kernel_rfl) (cN rfl hb3 (fun hc7 hb3=>?_) fun hc7 hb3=>?_))
   ·refine ae ?_
    refine aa hb3 fun m8 hm8 hb3=>af (aX 4 [] [20,21,22] [(23,.agg (aA m8))] (cG 2 Zb.enc hm8 bk) (by kernel_rfl) (aP rfl rfl (al (vs:=(aA m8)) rfl rfl rfl rfl rfl cg xB (aL [(5,pB true)] (by kernel_rfl) (cW (dO ?_))))))
    refine au hb3 (fun ht=>?_);subst ht
    refine cO ?_
    obtain rfl:=osi h
    exact aN (cF (du rfl fT rfl) (aQ rfl)) bA ⟨rfl,rfl⟩
   refine ah ?_
   refine dI (ai [11,12] [(6,pI (IntKind.i64.wrap (v2+1)))] (by kernel_rfl) ?_)
   exact aU hb3 () (iQ rfl) cI
  refine aH ?_
  refine cj hb3 (fun ht=>aj rfl ?_)
  exact az ((),()) (rq rfl) cI ht.symm
 rintro ⟨_,_⟩ τ hz;(try dsimp only at hz);subst q4;(try dsimp only at h);dsimp only [aw]
 refine ae (af (aG 1 [(24,.agg [pI 0,pI 0,pN,pN])] (by kernel_rfl) (aP rfl rfl (al (vs:=[pI 0,pI 0,pN,pN]) rfl rfl rfl rfl rfl cg xB (aL [(5,pB false)] (by kernel_rfl) (aY (cJ (k:=2) (b:=b1) rfl cg (cJ (k:=3) (b:=b1) rfl cg (bS ?_)))))))))
 obtain rfl:=osi h
 exact aN (cF (du rfl fT rfl) (aQ rfl)) bA ⟨rfl,rfl⟩
def ic (p0:(List ByteArray)) (p1:ByteArray):Option Bool:=(aW (S:=Int) (T:=(Unit)⊕(_)) (fun v1=>cond (decide (v1<(p0.length:Int))) ((idx p0 v1).bind fun m5=>cond (decide (m5=p1)) (some (.inr (.inr true))) (some (.inl (IntKind.i64.wrap (v1+1))))) (some (.inr (.inl ())))) FUEL 0).bind fun q=>match q with | .inl _=>some false | .inr e=>some e
theorem iI {p0:(List ByteArray)} {p1:ByteArray} {r:Bool}  (h:ic p0 p1=some r):PF 56 [pL eS p0,pS p1] (pB r):=by
 unfold ic at h
 refine bc ?_
 refine di Tryz.func56 rfl Tryz.ntmps56 Tryz.results56 rfl (aS [4] (by kernel_rfl) (co (ak [(5,pI 0)] (by kernel_rfl) (fG h fun q3 hq3 h=>?_))))
 refine aq (Y:=Unit×Unit) (fun (_,_)=>[]) (fun (_,_)=>[]) (fun (_,_)=>q3=Sum.inl ()) ?_ ?_
 ·refine av ?_
  refine aC (Y:=Unit) (S:=Int) _ hq3 (fun _ v1=>[(0,pL eS p0),(1,pS p1),(5,pI v1)]) (fun _ v1=>[]) () (nu rfl) bA ?_
  rintro _ v1 o τ hb2;(try dsimp only at hb2);dsimp only [aw]
  refine de (bL [6,7,8] [(9,pB (decide (v1<(p0.length:Int))))] (by kernel_rfl) rfl hb2 (fun hc4 hb2=>?_) fun hc4 hb2=>?_)
  ·refine ah ?_
   refine dG (aa hb2 fun m5 hm5 hb2=>ap [] (rg 12 5) [(17,pB (decide (m5=p1)))] (cG 2 eS hm5 bk) (by kernel_rfl) (cN rfl hb2 (fun hc6 hb2=>?_) fun hc6 hb2=>?_))
   ·refine ae ?_
    refine cU [(4,pB true)] (by kernel_rfl) (dO ?_)
    refine au hb2 (fun ht=>?_);subst ht
    refine cO ?_
    exact zz r h rfl
   refine ah ?_
   refine dI (ai [10,11] [(5,pI (IntKind.i64.wrap (v1+1)))] (by kernel_rfl) ?_)
   exact aU hb2 () (nu rfl) bA
  refine aH ?_
  refine cj hb2 (fun ht=>aj rfl ?_)
  exact az ((),()) oF bA ht.symm
 rintro ⟨_,_⟩ τ hz;(try dsimp only at hz);subst q3;(try dsimp only at h);dsimp only [aw]
 refine ae (cU [(4,pB false)] (by kernel_rfl) ?_)
 exact zz r h rfl
def gO (p0:ByteArray) (p1:ByteArray):Option Bool:=(gd (decide ((p1.size:Int)≤(p0.size:Int))) (jR p0 0 (p1.size:Int))).bind fun s1=>some ((decide ((p1.size:Int)≤(p0.size:Int)))&&(decide (s1=p1)))
theorem oJ {p0:ByteArray} {p1:ByteArray} {r:Bool}  (h:gO p0 p1=some r):PF 116 [pS p0,pS p1] (pB r):=by
 unfold gO at h
 refine bc ?_
 refine di Tryz.func116 rfl Tryz.ntmps116 Tryz.results116 rfl (aS [4] (by kernel_rfl) (dc h fun s1 hs1 h=>ap [] (rg 5 13) [(4,pB ((decide ((p1.size:Int)≤(p0.size:Int)))&&(decide (s1=p1))))] (fossg 9 (cA hs1) bk) (by kernel_rfl) (cW ?_)))
 exact zz r h rfl
def gb (p0:Zb) (p1:ByteArray):Option (Zd×Bool):=(aW (S:=Int×Int) (T:=(Int)) (fun (v3,v4)=>cond (decide (v4<(p0.Rules.length:Int))) (((idx p0.Rules v4).bind fun m11=>(gO p1 m11.Prefix).bind fun x12=>(gd (x12&&(!(decide (v3<0)))) (idx p0.Rules v4)).bind fun m13=>(gd (x12&&(!(decide (v3<0)))) (idx p0.Rules v3)).bind fun m14=>cond (x12&&((decide (v3<0))||(decide ((m14.Prefix.size:Int)<(m13.Prefix.size:Int))))) (some v4) (some v3)).bind fun v9=>some (.inl (v9,(IntKind.i64.wrap (v4+1))))) (some (.inr v3))) FUEL ((-1),0)).bind fun v5=>cond (decide (v5<0)) (some ((⟨0,0,[],0,0,ByteArray.empty,[]⟩:Zd),false)) ((idx p0.Rules v5).bind fun m17=>some (m17.Rule,true))
theorem oK {p0:Zb} {p1:ByteArray} {r:(Zd×Bool)}  (h:gb p0 p1=some r):PF 69 [.agg (aA p0),pS p1] (.tup [.agg (ar r.1),pB r.2]):=by
 unfold gb at h
 refine bc ?_
 refine di Tryz.func69 rfl Tryz.ntmps69 Tryz.results69 rfl (cX rfl (bf (cs:=(aA p0)) rfl rfl (fun b1=>an rfl (aK (cs:=[pI 0,pI 0,pN,pI 0,pI 0,pS ByteArray.empty,pN]) rfl rfl rfl rfl (fun b2=>aZ [5] (by kernel_rfl) (bW (ak [(6,pI (-1))] (by kernel_rfl) (co (ak [(7,pI 0)] (by kernel_rfl) (fG h fun q7 hq7 h=>?_))))))))))
 refine aq (Y:=Unit×Int) (fun (_,v5)=>[(2,pP b1 0),(4,pP b2 0),(6,pI v5)]) (fun (_,v5)=>[PRes.b b1 81 (aA p0),PRes.b b2 84 [pI 0,pI 0,pN,pI 0,pI 0,pS ByteArray.empty,pN]]) (fun (_,v5)=>q7=v5) ?_ ?_
 ·refine av ?_
  refine aC (Y:=Unit) (S:=Int×Int) _ hq7 (fun _ (v3,v4)=>[(1,pS p1),(2,pP b1 0),(4,pP b2 0),(6,pI v3),(7,pI v4)]) (fun _ (v3,v4)=>[PRes.b b1 81 (aA p0),PRes.b b2 84 [pI 0,pI 0,pN,pI 0,pI 0,pS ByteArray.empty,pN]]) () (mT rfl) (bd (aB aM) cI) ?_
  rintro _ ⟨v3,v4⟩ o τ hb6;(try dsimp only at hb6);dsimp only [aw]
  refine de (aJ [0] [8,9,10,11] [(12,pB (decide (v4<(p0.Rules.length:Int))))] (by kernel_rfl) (cN rfl hb6 (fun hc8 hb6=>?_) fun hc8 hb6=>?_))
  ·refine ah ?_
   refine dc hb6 fun q10 hq10 hb6=>?_
   refine aq (Y:=Unit×Int) (fun (_,v9)=>[(1,pS p1),(2,pP b1 0),(4,pP b2 0),(6,pI v9),(7,pI v4)]) (fun (_,v9)=>[PRes.b b1 81 (aA p0),PRes.b b2 84 [pI 0,pI 0,pN,pI 0,pI 0,pS ByteArray.empty,pN]]) (fun (_,v9)=>q10=v9) ?_ ?_
   ·skip
    refine qy (bi (ρd:=[]) [(0,0),(1,0),(2,0),(3,0),(4,0),(5,0),(6,0),(7,1),(8,0),(9,0),(10,0),(11,0),(12,0),(13,0),(14,0),(15,0),(16,0),(17,0),(18,0),(19,0),(20,0),(21,0),(22,0),(23,0),(24,0),(25,0),(26,0),(27,0),(28,0)] _ (List.Perm.refl _) (by kernel_rfl) rfl (aa hq10 fun m11 hm11 hq10=>aa hq10 fun x12 hx12 hq10=>aa hq10 fun m13 hm13 hq10=>aa hq10 fun m14 hm14 hq10=>bt 29 [0,0,0] (rg 15 28) [(43,pB (x12&&((decide (v3<0))||(decide ((m14.Prefix.size:Int)<(m13.Prefix.size:Int))))))] (cG 4 Zi.enc hm11 (bh 7 (oJ hx12) (eQ 15 Zi.enc (cA hm13) (eQ 22 Zi.enc (cA hm14) bk)))) (by kernel_rfl) (bx (cN rfl hq10 (fun hc15 hq10=>?_) fun hc15 hq10=>?_))))
    ·refine ai [44] [(6,pI v4)] (by kernel_rfl) ?_
     refine aD ?_
     obtain rfl:=osi hq10
     exact az ((),v4) (mT rfl) oX rfl
    refine ah ?_
    refine aD ?_
    obtain rfl:=osi hq10
    exact az ((),v3) (mT rfl) oX rfl
   rintro ⟨_,v9⟩ τ hz;(try dsimp only at hz);subst q10;(try dsimp only at hb6);dsimp only [aw]
   refine ai [13,14] [(7,pI (IntKind.i64.wrap (v4+1)))] (by kernel_rfl) ?_
   exact aU hb6 () (mT rfl) oX
  refine aH ?_
  refine cj hb6 (fun ht=>aj rfl ?_)
  exact az ((),v3) (nu rfl) oX ht.symm
 rintro ⟨_,v5⟩ τ hz;(try dsimp only at hz);subst q7;(try dsimp only at h);dsimp only [aw]
 refine de (bL [45] [(46,pB (decide (v5<0)))] (by kernel_rfl) rfl h (fun hc16 h=>?_) fun hc16 h=>?_)
 ·refine ae ?_
  refine af (aG 1 [(47,.agg [pI 0,pI 0,pN,pI 0,pI 0,pS ByteArray.empty,pN])] (by kernel_rfl) (aP rfl rfl (al (vs:=[pI 0,pI 0,pN,pI 0,pI 0,pS ByteArray.empty,pN]) rfl rfl rfl rfl rfl (dA cg) nf (aL [(5,pB false)] (by kernel_rfl) (aY (cJ (k:=2) (b:=b2) rfl (dA cg) (cJ (k:=6) (b:=b2) rfl (dA cg) (bS (am ?_)))))))))
  obtain rfl:=osi h
  exact aN (cF (du rfl xA rfl) (aQ rfl)) bA ⟨rfl,rfl⟩
 refine ah ?_
 refine dc h fun m17 hm17 h=>af (aX 6 [0] (rg 48 5) [(53,.agg (ar m17.Rule))] (cG 3 Zi.enc hm17 bk) (by kernel_rfl) (aP rfl rfl (al (vs:=(ar m17.Rule)) rfl rfl rfl rfl rfl (dA cg) nf (aL [(5,pB true)] (by kernel_rfl) (cW ?_)))))
 obtain rfl:=osi h
 exact aN (cF (du rfl xA rfl) (aQ rfl)) bA ⟨rfl,rfl⟩
def dJ (p0:(List Zc)) (p1:(List Zb)) (p2:ByteArray) (p3:Za):Option Bool:=(fA p0 p3.Product).bind fun x2=>(e9 p1 p3.Agreement).bind fun x4=>(gb x4.1 x2.1.Code).bind fun x6=>(gd (((x2.2&&x4.2)&&x6.2)&&(!decide (x2.1.Country=p2))) (ic x4.1.Parties x2.1.Country)).bind fun x8=>(gd ((((x2.2&&x4.2)&&x6.2)&&(!decide (x2.1.Country=p2)))&&x8) (ic x4.1.Parties p2)).bind fun x9=>some (((((x2.2&&x4.2)&&x6.2)&&(!decide (x2.1.Country=p2)))&&x8)&&x9)
theorem lM {p0:(List Zc)} {p1:(List Zb)} {p2:ByteArray} {p3:Za} {r:Bool}  (h:dJ p0 p1 p2 p3=some r):PF 52 [pL Zc.enc p0,pL Zb.enc p1,pS p2,.agg [pI p3.Product,pI p3.Agreement]] (pB r):=by
 unfold dJ at h
 refine bc ?_
 refine di Tryz.func52 rfl Tryz.ntmps52 Tryz.results52 rfl (cX rfl (bf (cs:=[pI p3.Product,pI p3.Agreement]) rfl rfl (fun b1=>aZ [8] (by kernel_rfl) (dc h fun x2 hx2 h=>af (aX 7 [0] [16,17,18,19,15] [(20,.agg (aI x2.1)),(21,pB x2.2)] (bh 3 (i5 hx2) bk) (by kernel_rfl) (an rfl (aK (cs:=[pI 0,pS ByteArray.empty,pS ByteArray.empty,pI 0,pB false,pN,pN]) rfl rfl rfl rfl (fun b3=>aP rfl rfl (al (vs:=(aI x2.1)) rfl rfl rfl rfl rfl cg nf (aL [(10,pB x2.2)] (by kernel_rfl) (dc h fun x4 hx4 h=>af (aX 7 [1] [23,24,25,26,22] [(27,.agg (aA x4.1)),(28,pB x4.2)] (bh 3 (jo hx4) bk) (by kernel_rfl) (an rfl (aK (cs:=[pI 0,pI 0,pN,pN]) rfl rfl rfl rfl (fun b5=>aP rfl rfl (al (vs:=(aA x4.1)) rfl rfl rfl rfl rfl cg xB (aL [(12,pB x4.2)] (by kernel_rfl) (dc h fun x6 hx6 h=>af (aX 7 [0,1] [30,31,32,33,29] [(34,.agg (ar x6.1)),(35,pB x6.2)] (bh 3 (oK hx6) bk) (by kernel_rfl) (an rfl (aK (cs:=[pI 0,pI 0,pN,pI 0,pI 0,pS ByteArray.empty,pN]) rfl rfl rfl rfl (fun b7=>aP rfl rfl (al (vs:=(ar x6.1)) rfl rfl rfl rfl rfl cg nf (aL [(14,pB x6.2)] (by kernel_rfl) (dc h fun x8 hx8 h=>aa h fun x9 hx9 h=>ap [2,1,2,1] (rg 36 26) [(8,pB (((((x2.2&&x4.2)&&x6.2)&&(!decide (x2.1.Country=p2)))&&x8)&&x9))] (ee 18 (fun hc=>iI (cA hx8 hc)) (ee 24 (fun hc=>iI (cA hx9 hc)) bk)) (by kernel_rfl) (cW ?_))))))))))))))))))))))))))
 exact zz r h rfl
def gf (p0:(List ByteArray)) (p1:(List ByteArray)):Option Bool:=cond ((p0.length:Int) != (p1.length:Int)) (some false) ((aW (S:=Int) (T:=(Unit)⊕(_)) (fun v2=>cond (decide (v2<(p0.length:Int))) ((idx p0 v2).bind fun m6=>(idx p1 v2).bind fun m7=>cond (!decide (m6=m7)) (some (.inr (.inr false))) (some (.inl (IntKind.i64.wrap (v2+1))))) (some (.inr (.inl ())))) FUEL 0).bind fun q=>match q with | .inl _=>some true | .inr e=>some e)
theorem pn {p0:(List ByteArray)} {p1:(List ByteArray)} {r:Bool}  (h:gf p0 p1=some r):PF 61 [pL eS p0,pL eS p1] (pB r):=by
 unfold gf at h
 refine bc ?_
 refine di Tryz.func61 rfl Tryz.ntmps61 Tryz.results61 rfl (aS [4] (by kernel_rfl) (co (bL [6,7,8,9] [(10,pB ((p0.length:Int) != (p1.length:Int)))] (by kernel_rfl) rfl h (fun hc1 h=>?_) fun hc1 h=>?_)))
 ·refine ae ?_
  refine cU [(4,pB false)] (by kernel_rfl) (am ?_)
  exact zz r h rfl
 refine ah ?_
 refine co (ak [(5,pI 0)] (by kernel_rfl) (fG h fun q4 hq4 h=>?_))
 refine aq (Y:=Unit×Unit) (fun (_,_)=>[]) (fun (_,_)=>[]) (fun (_,_)=>q4=Sum.inl ()) ?_ ?_
 ·refine av ?_
  refine aC (Y:=Unit) (S:=Int) _ hq4 (fun _ v2=>[(0,pL eS p0),(1,pL eS p1),(5,pI v2)]) (fun _ v2=>[]) () (nu rfl) bA ?_
  rintro _ v2 o τ hb3;(try dsimp only at hb3);dsimp only [aw]
  refine de (bL [11,12,13] [(14,pB (decide (v2<(p0.length:Int))))] (by kernel_rfl) rfl hb3 (fun hc5 hb3=>?_) fun hc5 hb3=>?_)
  ·refine ah ?_
   refine dG (bi (ρd:=[]) [(0,0),(1,0),(2,0),(3,0),(4,0),(5,0),(6,0),(7,0),(8,0)] _ (List.Perm.refl _) (by kernel_rfl) rfl (aa hb3 fun m6 hm6 hb3=>aa hb3 fun m7 hm7 hb3=>bt 9 [] (rg 17 8) [(25,pB (!decide (m6=m7)))] (cG 2 eS hm6 (cG 6 eS hm7 bk)) (by kernel_rfl) (bx (cN rfl hb3 (fun hc8 hb3=>?_) fun hc8 hb3=>?_))))
   ·refine ae ?_
    refine cU [(4,pB false)] (by kernel_rfl) (dO ?_)
    refine au hb3 (fun ht=>?_);subst ht
    refine cO ?_
    exact zz r h rfl
   refine ah ?_
   refine dI (ai [15,16] [(5,pI (IntKind.i64.wrap (v2+1)))] (by kernel_rfl) ?_)
   exact aU hb3 () (nu rfl) bA
  refine aH ?_
  refine cj hb3 (fun ht=>aj rfl ?_)
  exact az ((),()) oF bA ht.symm
 rintro ⟨_,_⟩ τ hz;(try dsimp only at hz);subst q4;(try dsimp only at h);dsimp only [aw]
 refine ae (cU [(4,pB true)] (by kernel_rfl) ?_)
 exact zz r h rfl
def gD (rec:Zd→Zd→Option Bool) (p0:Zd) (p1:Zd):Option Bool:=(gd (!(((((p0.Kind != p1.Kind)||(p0.Digits != p1.Digits))||(p0.Tolerance != p1.Tolerance))||(p0.Limit != p1.Limit))||(!decide (p0.Name=p1.Name)))) (gf p0.Except p1.Except)).bind fun x3=>cond (((((((p0.Kind != p1.Kind)||(p0.Digits != p1.Digits))||(p0.Tolerance != p1.Tolerance))||(p0.Limit != p1.Limit))||(!decide (p0.Name=p1.Name)))||(!x3))||((p0.Args.length:Int) != (p1.Args.length:Int))) (some false) ((aW (S:=Int) (T:=(Unit)⊕(_)) (fun v5=>cond (decide (v5<(p0.Args.length:Int))) ((idx p0.Args v5).bind fun m9=>(idx p1.Args v5).bind fun m10=>(rec m9 m10).bind fun x11=>cond (!x11) (some (.inr (.inr false))) (some (.inl (IntKind.i64.wrap (v5+1))))) (some (.inr (.inl ())))) FUEL 0).bind fun q=>match q with | .inl _=>some true | .inr e=>some e)
theorem qA {rec:Zd→Zd→Option Bool} (hrec:∀ {p0:Zd} {p1:Zd} {r:Bool},rec p0 p1=some r→PF 153 [.agg (ar p0),.agg (ar p1)] (pB r)) {p0:Zd} {p1:Zd} {r:Bool} (h:gD rec p0 p1=some r):PF 153 [.agg (ar p0),.agg (ar p1)] (pB r):=by
 unfold gD at h
 refine bc ?_
 refine di Tryz.func153 rfl Tryz.ntmps153 Tryz.results153 rfl (cX rfl (bf (cs:=(ar p0)) rfl rfl (fun b1=>an rfl (bf (cs:=(ar p1)) rfl rfl (fun b2=>aZ [4] (by kernel_rfl) (co (aa h fun x3 hx3 h=>ap [1,0,1,0,1,0,1,0,1,0,1,0,1,0] (rg 6 49) [(55,pB (((((((p0.Kind != p1.Kind)||(p0.Digits != p1.Digits))||(p0.Tolerance != p1.Tolerance))||(p0.Limit != p1.Limit))||(!decide (p0.Name=p1.Name)))||(!x3))||((p0.Args.length:Int) != (p1.Args.length:Int))))] (ee 38 (fun hc=>pn (cA hx3 hc)) bk) (by kernel_rfl) (cN rfl h (fun hc4 h=>?_) fun hc4 h=>?_))))))))
 ·refine ae ?_
  refine cU [(4,pB false)] (by kernel_rfl) (am ?_)
  exact zz r h rfl
 refine ah ?_
 refine co (ak [(5,pI 0)] (by kernel_rfl) (fG h fun q7 hq7 h=>?_))
 refine aq (Y:=Unit×Unit) (fun (_,_)=>[]) (fun (_,_)=>[]) (fun (_,_)=>q7=Sum.inl ()) ?_ ?_
 ·refine av ?_
  refine aC (Y:=Unit) (S:=Int) _ hq7 (fun _ v5=>[(2,pP b1 0),(3,pP b2 0),(5,pI v5)]) (fun _ v5=>[PRes.b b1 84 (ar p0),PRes.b b2 84 (ar p1)]) () (nu rfl) (bd (aB aM) cI) ?_
  rintro _ v5 o τ hb6;(try dsimp only at hb6);dsimp only [aw]
  refine de (aJ [0] [56,57,58,59] [(60,pB (decide (v5<(p0.Args.length:Int))))] (by kernel_rfl) (cN rfl hb6 (fun hc8 hb6=>?_) fun hc8 hb6=>?_))
  ·refine ah ?_
   refine dG (bi (ρd:=[]) [(0,0),(1,0),(2,0),(3,0),(4,0),(5,0),(6,0),(7,0),(8,0),(9,0),(10,1),(11,0)] _ (List.Perm.refl _) (by kernel_rfl) rfl (aa hb6 fun m9 hm9 hb6=>aa hb6 fun m10 hm10 hb6=>aa hb6 fun x11 hx11 hb6=>bt 12 [0,1] (rg 63 11) [(74,pB (!x11))] (oH 3 Zd.enc (Zd.enc_eq _) hm9 (oH 8 Zd.enc (Zd.enc_eq _) hm10 (bh 10 (hrec hx11) bk))) (by kernel_rfl) (bx (cN rfl hb6 (fun hc12 hb6=>?_) fun hc12 hb6=>?_))))
   ·refine ae ?_
    refine cU [(4,pB false)] (by kernel_rfl) (dO ?_)
    refine au hb6 (fun ht=>?_);subst ht
    refine cO ?_
    exact zz r h rfl
   refine ah ?_
   refine dI (ai [61,62] [(5,pI (IntKind.i64.wrap (v5+1)))] (by kernel_rfl) ?_)
   exact aU hb6 () (nu rfl) oX
  refine aH ?_
  refine cj hb6 (fun ht=>aj rfl ?_)
  exact az ((),()) oF bA ht.symm
 rintro ⟨_,_⟩ τ hz;(try dsimp only at hz);subst q7;(try dsimp only at h);dsimp only [aw]
 refine ae (cU [(4,pB true)] (by kernel_rfl) ?_)
 exact zz r h rfl
def iJ (n:Nat):Zd→Zd→Option Bool:=Nat.rec (motive:=fun _=>Zd→Zd→Option Bool) (fun _ _=>none) (fun _ ih=>gD ih) n
def mI (p0:Zd) (p1:Zd):Option Bool:=iJ FUEL p0 p1
theorem qW (n:Nat):∀ {p0:Zd} {p1:Zd} {r:Bool},iJ n p0 p1=some r→PF 153 [.agg (ar p0),.agg (ar p1)] (pB r):=by
 induction n with
 | zero=>intros;rename_i h;exact nomatch h
 | succ n ih=>intros;rename_i h;exact qA (fun hr=>ih hr) h
theorem rI {p0:Zd} {p1:Zd} {r:Bool} (h:mI p0 p1=some r):PF 153 [.agg (ar p0),.agg (ar p1)] (pB r):=qW FUEL h
def gZ (p0:(List Zi)) (p1:(List Zi)):Option Bool:=cond ((p0.length:Int) != (p1.length:Int)) (some false) ((aW (S:=Int) (T:=(Unit)⊕(_)) (fun v2=>cond (decide (v2<(p0.length:Int))) ((idx p0 v2).bind fun m6=>(idx p1 v2).bind fun m7=>(gd (!(!decide (m6.Prefix=m7.Prefix))) (idx p0 v2)).bind fun m8=>(gd (!(!decide (m6.Prefix=m7.Prefix))) (idx p1 v2)).bind fun m9=>(gd (!(!decide (m6.Prefix=m7.Prefix))) (mI m8.Rule m9.Rule)).bind fun x10=>cond ((!decide (m6.Prefix=m7.Prefix))||(!x10)) (some (.inr (.inr false))) (some (.inl (IntKind.i64.wrap (v2+1))))) (some (.inr (.inl ())))) FUEL 0).bind fun q=>match q with | .inl _=>some true | .inr e=>some e)
theorem qX {p0:(List Zi)} {p1:(List Zi)} {r:Bool}  (h:gZ p0 p1=some r):PF 104 [pL Zi.enc p0,pL Zi.enc p1] (pB r):=by
 unfold gZ at h
 refine bc ?_
 refine di Tryz.func104 rfl Tryz.ntmps104 Tryz.results104 rfl (aS [4] (by kernel_rfl) (co (bL [6,7,8,9] [(10,pB ((p0.length:Int) != (p1.length:Int)))] (by kernel_rfl) rfl h (fun hc1 h=>?_) fun hc1 h=>?_)))
 ·refine ae ?_
  refine cU [(4,pB false)] (by kernel_rfl) (am ?_)
  exact zz r h rfl
 refine ah ?_
 refine co (ak [(5,pI 0)] (by kernel_rfl) (fG h fun q4 hq4 h=>?_))
 refine aq (Y:=Unit×Unit) (fun (_,_)=>[]) (fun (_,_)=>[]) (fun (_,_)=>q4=Sum.inl ()) ?_ ?_
 ·refine av ?_
  refine aC (Y:=Unit) (S:=Int) _ hq4 (fun _ v2=>[(0,pL Zi.enc p0),(1,pL Zi.enc p1),(5,pI v2)]) (fun _ v2=>[]) () (nu rfl) bA ?_
  rintro _ v2 o τ hb3;(try dsimp only at hb3);dsimp only [aw]
  refine de (bL [11,12,13] [(14,pB (decide (v2<(p0.length:Int))))] (by kernel_rfl) rfl hb3 (fun hc5 hb3=>?_) fun hc5 hb3=>?_)
  ·refine ah ?_
   refine dG (bi (ρd:=[]) [(0,0),(1,0),(2,0),(3,0),(4,0),(5,0),(6,0),(7,0),(8,0),(9,0),(10,0),(11,0),(12,0),(13,0),(14,0),(15,0),(16,0),(17,0),(18,0),(19,0),(20,0),(21,0),(22,1),(23,0),(24,0)] _ (List.Perm.refl _) (by kernel_rfl) rfl (aa hb3 fun m6 hm6 hb3=>aa hb3 fun m7 hm7 hb3=>aa hb3 fun m8 hm8 hb3=>aa hb3 fun m9 hm9 hb3=>aa hb3 fun x10 hx10 hb3=>bt 25 [] (rg 17 24) [(41,pB ((!decide (m6.Prefix=m7.Prefix))||(!x10)))] (cG 2 Zi.enc hm6 (cG 7 Zi.enc hm7 (eQ 14 Zi.enc (cA hm8) (eQ 19 Zi.enc (cA hm9) (ee 22 (fun hc=>rI (cA hx10 hc)) bk))))) (by kernel_rfl) (bx (cN rfl hb3 (fun hc11 hb3=>?_) fun hc11 hb3=>?_))))
   ·refine ae ?_
    refine cU [(4,pB false)] (by kernel_rfl) (dO ?_)
    refine au hb3 (fun ht=>?_);subst ht
    refine cO ?_
    exact zz r h rfl
   refine ah ?_
   refine dI (ai [15,16] [(5,pI (IntKind.i64.wrap (v2+1)))] (by kernel_rfl) ?_)
   exact aU hb3 () (nu rfl) bA
  refine aH ?_
  refine cj hb3 (fun ht=>aj rfl ?_)
  exact az ((),()) oF bA ht.symm
 rintro ⟨_,_⟩ τ hz;(try dsimp only at hz);subst q4;(try dsimp only at h);dsimp only [aw]
 refine ae (cU [(4,pB true)] (by kernel_rfl) ?_)
 exact zz r h rfl
def iy (p0:(List Zb)) (p1:Int) (p2:ByteArray) (p3:ByteArray):Option (List Int):=(e9 p0 p1).bind fun x1=>cond (!x1.2) (some []) ((aW (S:=(List Int)×Int) (T:=((List Int))) (fun (l7,v10)=>cond ((decide (v10<(p0.length:Int)))&&(x1.1.Kind == 2)) (((idx p0 v10).bind fun m23=>(gd (m23.ID != p1) (ic m23.Parties p2)).bind fun x25=>(gd ((m23.ID != p1)&&x25) (ic m23.Parties p3)).bind fun x26=>(gd (((m23.ID != p1)&&x25)&&x26) (gZ x1.1.Rules m23.Rules)).bind fun x27=>cond ((((m23.ID != p1)&&x25)&&x26)&&x27) ((app 8 l7 [m23.ID]).bind fun l31=>some l31) (some l7)).bind fun l21=>some (.inl (l21,(IntKind.i64.wrap (v10+1))))) (some (.inr l7))) FUEL ([p1],0)).bind fun l14=>some l14)
theorem rJ {p0:(List Zb)} {p1:Int} {p2:ByteArray} {p3:ByteArray} {r:(List Int)}  (h:iy p0 p1 p2 p3=some r):PF 55 [pL Zb.enc p0,pI p1,pS p2,pS p3] (pL eI r):=by
 unfold iy at h
 refine bc ?_
 refine di Tryz.func55 rfl Tryz.ntmps55 Tryz.results55 rfl (aS [8] (by kernel_rfl) (dc h fun x1 hx1 h=>af (aX 6 [] [15,16,17,14] [(18,.agg (aA x1.1)),(19,pB x1.2)] (bh 2 (jo hx1) bk) (by kernel_rfl) (an rfl (aK (cs:=[pI 0,pI 0,pN,pN]) rfl rfl rfl rfl (fun b2=>aP rfl rfl (al (vs:=(aA x1.1)) rfl rfl rfl rfl rfl cg xB (aL [(10,pB x1.2)] (by kernel_rfl) (co (bL [20] [(21,pB (!x1.2))] (by kernel_rfl) rfl h (fun hc3 h=>?_) fun hc3 h=>?_))))))))))
 ·refine ae ?_
  refine ak [(8,pN)] (by kernel_rfl) (aY (iE 8 rfl (bS (am ?_))))
  exact zz r h rfl
 refine ah ?_
 refine bW (af (aG 1 [(22,pI p1)] (by kernel_rfl) (an rfl (bM rfl rfl rfl rfl rfl (gr rfl jJ) rfl rfl rfl rfl (fun b4=>aL [(11,pO (some ⟨b4,0,none⟩) 1 1)] (by kernel_rfl) (co (ak [(12,pI 0)] (by kernel_rfl) (fG h fun q16 hq16 h=>?_))))))))
 refine aq (Y:=(Option Addr×Nat)×((List Int))) (fun ((a12,c13),l14)=>[(11,pO a12 l14.length c13)]) (fun ((a12,c13),l14)=>[PRes.row a12 l14.length c13 3 1 (List.map eI l14)]) (fun ((a12,c13),l14)=>q16=l14) ?_ ?_
 ·refine av ?_
  refine aC (Y:=Option Addr×Nat) (S:=(List Int)×Int) _ hq16 (fun (a8,c9) (l7,v10)=>[(0,pL Zb.enc p0),(1,pI p1),(2,pS p2),(3,pS p3),(9,pP b2 0),(11,pO a8 l7.length c9),(12,pI v10)]) (fun (a8,c9) (l7,v10)=>[PRes.b b2 81 (aA x1.1),PRes.row a8 l7.length c9 3 1 (List.map eI l7)]) ((some ⟨b4,0,none⟩),1) (sm rfl) (bd (aB aM) cI) ?_
  rintro ⟨a8,c9⟩ ⟨l7,v10⟩ o τ hb15;(try dsimp only at hb15);dsimp only [aw]
  refine de (aJ [0] (rg 24 8) [(32,pB ((decide (v10<(p0.length:Int)))&&(x1.1.Kind == 2)))] (by kernel_rfl) (cN rfl hb15 (fun hc17 hb15=>?_) fun hc17 hb15=>?_))
  ·refine ah ?_
   refine dc hb15 fun q22 hq22 hb15=>?_
   refine aq (Y:=(Option Addr×Nat)×((List Int))) (fun ((a19,c20),l21)=>[(0,pL Zb.enc p0),(1,pI p1),(2,pS p2),(3,pS p3),(9,pP b2 0),(11,pO a19 l21.length c20),(12,pI v10)]) (fun ((a19,c20),l21)=>[PRes.b b2 81 (aA x1.1),PRes.row a19 l21.length c20 3 1 (List.map eI l21)]) (fun ((a19,c20),l21)=>q22=l21) ?_ ?_
   ·skip
    refine qy (aa hq22 fun m23 hm23 hq22=>af (aX 4 [] [35,36,37] [(38,.agg (aA m23))] (cG 2 Zb.enc hm23 bk) (by kernel_rfl) (an rfl (aK (cs:=[pI 0,pI 0,pN,pN]) rfl rfl rfl rfl (fun b24=>aP rfl rfl (al (vs:=(aA m23)) rfl rfl rfl rfl rfl cg xB (aF (dc hq22 fun x25 hx25 hq22=>aa hq22 fun x26 hx26 hq22=>aa hq22 fun x27 hx27 hq22=>ap [0,0,0,1,0] (rg 39 22) [(61,pB ((((m23.ID != p1)&&x25)&&x26)&&x27))] (ee 8 (fun hc=>iI (cA hx25 hc)) (ee 14 (fun hc=>iI (cA hx26 hc)) (ee 21 (fun hc=>qX (cA hx27 hc)) bk))) (by kernel_rfl) (cN rfl hq22 (fun hc28 hq22=>?_) fun hc28 hq22=>?_)))))))))
    ·refine af ?_
     refine cB 3 [0] [63] [(62,pO a8 l7.length c9),(64,pI m23.ID)] (by kernel_rfl) (an rfl (bM rfl rfl rfl rfl rfl (gr rfl jJ) rfl rfl rfl rfl (fun b29=>aa hq22 fun l31 hl31 hq22=>?_)))
     refine an rfl (bZ (enc:=eI) rfl rfl rfl rfl rfl rfl rfl rfl rfl fT (by exact aB (aB (aB aM))) hl31 (fun a32 c33=>?_))
     refine aL [(11,pO a32 l31.length c33)] (by kernel_rfl) (aD ?_)
     obtain rfl:=osi hq22
     exact az ((a32,c33),l31) (sm rfl) (bd (aB (aB (aB aM))) cI) rfl
    refine ah ?_
    refine aD ?_
    obtain rfl:=osi hq22
    exact az ((a8,c9),l7) (sm rfl) (bd (aB aM) (bd (aB aM) bA)) rfl
   rintro ⟨⟨a19,c20⟩,l21⟩ τ hz;(try dsimp only at hz);subst q22;(try dsimp only at hb15);dsimp only [aw]
   refine ai [33,34] [(12,pI (IntKind.i64.wrap (v10+1)))] (by kernel_rfl) ?_
   exact aU hb15 (a19,c20) (sm rfl) oX
  refine aH ?_
  refine cj hb15 (fun ht=>aj rfl ?_)
  exact az ((a8,c9),l7) (rq rfl) (bd (aB aM) bA) ht.symm
 rintro ⟨⟨a12,c13⟩,l14⟩ τ hz;(try dsimp only at hz);subst q16;(try dsimp only at h);dsimp only [aw]
 refine ae (ai [67] [(8,pO a12 l14.length c13)] (by kernel_rfl) (aY ?_))
 refine fa (enc:=eI) (xs:=l14) 8 rfl (by exact aM) ?_
 refine bS ?_
 exact zz r h rfl
def kF (p0:(List ByteArray)) (p1:ByteArray):Option (List ByteArray):=(aW (S:=Int) (T:=(ByteArray×Int)) (fun v1=>(gd (decide (v1<(p0.length:Int))) (idx p0 v1)).bind fun m6=>cond ((decide (v1<(p0.length:Int)))&&(Op.bytesLess m6.toList p1.toList)) (some (.inl (IntKind.i64.wrap (v1+1)))) (some (.inr (p1,v1)))) FUEL 0).bind fun (v2,v3)=>(gd (decide (v3<(p0.length:Int))) (idx p0 v3)).bind fun m8=>cond ((decide (v3<(p0.length:Int)))&&(decide (m8=v2))) (some p0) ((sub p0 0 v3).bind fun l10=>(sub p0 v3 (p0.length:Int)).bind fun l11=>(app 16 ([]:List ByteArray) l10).bind fun l14=>(app 16 l14 [v2]).bind fun l20=>(app 16 l20 l11).bind fun l24=>some l24)
theorem qG {p0:(List ByteArray)} {p1:ByteArray} {r:(List ByteArray)}  (h:kF p0 p1=some r):PF 105 [pL eS p0,pS p1] (pL eS r):=by
 unfold kF at h
 refine bc ?_
 refine di Tryz.func105 rfl Tryz.ntmps105 Tryz.results105 rfl (aS [4] (by kernel_rfl) (bW (ak [(5,pI 0)] (by kernel_rfl) (dc h fun q5 hq5 h=>?_))))
 refine aq (Y:=Unit×(ByteArray×Int)) (fun (_,(v2,v3))=>[(0,pL eS p0),(1,pS v2),(5,pI v3)]) (fun (_,(v2,v3))=>[]) (fun (_,(v2,v3))=>q5=(v2,v3)) ?_ ?_
 ·refine av ?_
  refine aC (Y:=Unit) (S:=Int) _ hq5 (fun _ v1=>[(0,pL eS p0),(1,pS p1),(5,pI v1)]) (fun _ v1=>[]) () (nu rfl) bA ?_
  rintro _ v1 o τ hb4;(try dsimp only at hb4);dsimp only [aw]
  refine de (aa hb4 fun m6 hm6 hb4=>ap [] (rg 6 11) [(17,pB ((decide (v1<(p0.length:Int)))&&(Op.bytesLess m6.toList p1.toList)))] (eQ 7 eS (cA hm6) bk) (by kernel_rfl) (cN rfl hb4 (fun hc7 hb4=>?_) fun hc7 hb4=>?_))
  ·refine ah ?_
   refine aY (av (ai [18,19] [(5,pI (IntKind.i64.wrap (v1+1)))] (by kernel_rfl) (aD ?_)))
   exact aU hb4 () (nu rfl) bA
  refine aH ?_
  refine cj hb4 (fun ht=>aj rfl ?_)
  exact az ((),(p1,v1)) (nu rfl) bA ht.symm
 rintro ⟨_,⟨v2,v3⟩⟩ τ hz;(try dsimp only at hz);subst q5;(try dsimp only at h);dsimp only [aw]
 refine de (aa h fun m8 hm8 h=>ap [] (rg 20 11) [(31,pB ((decide (v3<(p0.length:Int)))&&(decide (m8=v2))))] (eQ 7 eS (cA hm8) bk) (by kernel_rfl) (cN rfl h (fun hc9 h=>?_) fun hc9 h=>?_))
 ·refine ae ?_
  refine ai [32] [(4,pL eS p0)] (by kernel_rfl) (cW (am ?_))
  exact zz r h rfl
 refine ah ?_
 refine bW (bi (ρd:=[]) [(1,0),(2,0),(3,0),(5,0),(6,3),(8,0),(9,0),(10,0),(0,1),(4,1),(6,2),(7,1),(11,1),(12,0)] _ (List.Perm.refl _) (by kernel_rfl) rfl (aa h fun l10 hl10 h=>bt 4 [] [34,35] [(36,pL eS l10),(38,pS v2)] (vI 2 eS 1 (fun _=>rfl) hl10 bk) (by kernel_rfl) (yS (qm rfl rfl rfl rfl rfl (gr rfl jJ) rfl rfl rfl) (aa h fun l11 hl11 h=>bt 3 [] [41,42] [(43,pL eS l11)] (vI 2 eS 1 (fun _=>rfl) hl11 bk) (by kernel_rfl) (im rfl rfl rfl (bM rfl rfl rfl rfl rfl jJ rfl rfl rfl rfl (fun b12=>aa h fun l14 hl14 h=>?_)))))))
 refine im rfl rfl rfl (jQ (enc:=eS) rfl rfl rfl rfl rfl (fun _=>rfl) rfl rfl rfl (by exact aM) hl14 (fun a15 c16=>?_))
 refine rD (qm rfl rfl rfl rfl rfl (gr rfl jJ) rfl rfl rfl) (fun _=>rfl) rfl (fun b18=>aa h fun l20 hl20 h=>?_)
 refine im rfl rfl rfl (yR (enc:=eS) rfl rfl rfl rfl rfl (fun _=>rfl) rfl rfl rfl rfl fT rfl (by exact aB aM) hl20 (fun a21 c22=>?_))
 refine aa h fun l24 hl24 h=>?_
 refine im rfl rfl rfl (jQ (enc:=eS) rfl rfl rfl rfl rfl (fun _=>rfl) rfl rfl rfl (by exact aM) hl24 (fun a25 c26=>?_))
 refine iq 1 [(4,pO a25 l24.length c26)] (by kernel_rfl) (bx (aY ?_))
 refine fa (enc:=eS) (xs:=l24) 4 rfl (by exact aM) ?_
 refine bS ?_
 exact zz r h rfl
def jz (p0:(List ByteArray)) (p1:(List ByteArray)):Option (List ByteArray):=(aW (S:=(List ByteArray)×Int) (T:=((List ByteArray)×(List ByteArray))) (fun (l1,v2)=>cond (decide (v2<(p0.length:Int))) ((idx p0 v2).bind fun m8=>(kF l1 m8).bind fun x9=>some (.inl (x9,(IntKind.i64.wrap (v2+1))))) (some (.inr (p1,l1)))) FUEL ([],0)).bind fun (l3,l4)=>(aW (S:=(List ByteArray)×Int) (T:=((List ByteArray))) (fun (l10,v11)=>cond (decide (v11<(l3.length:Int))) ((idx l3 v11).bind fun m16=>(kF l10 m16).bind fun x17=>some (.inl (x17,(IntKind.i64.wrap (v11+1))))) (some (.inr l10))) FUEL (l4,0)).bind fun l12=>some l12
theorem uN {p0:(List ByteArray)} {p1:(List ByteArray)} {r:(List ByteArray)}  (h:jz p0 p1=some r):PF 57 [pL eS p0,pL eS p1] (pL eS r):=by
 unfold jz at h
 refine bc ?_
 refine di Tryz.func57 rfl Tryz.ntmps57 Tryz.results57 rfl (aS [4] (by kernel_rfl) (bW (ak [(5,pN)] (by kernel_rfl) (co (ak [(6,pI 0)] (by kernel_rfl) (aY (iE 5 rfl (aa h fun q6 hq6 h=>?_))))))))
 refine aq (Y:=Unit×((List ByteArray)×(List ByteArray))) (fun (_,(l3,l4))=>[(1,pL eS l3),(5,pL eS l4)]) (fun (_,(l3,l4))=>[]) (fun (_,(l3,l4))=>q6=(l3,l4)) ?_ ?_
 ·refine av ?_
  refine aC (Y:=Unit) (S:=(List ByteArray)×Int) _ hq6 (fun _ (l1,v2)=>[(0,pL eS p0),(1,pL eS p1),(5,pL eS l1),(6,pI v2)]) (fun _ (l1,v2)=>[]) () (iQ rfl) bA ?_
  rintro _ ⟨l1,v2⟩ o τ hb5;(try dsimp only at hb5);dsimp only [aw]
  refine de (bL [8,9,10] [(11,pB (decide (v2<(p0.length:Int))))] (by kernel_rfl) rfl hb5 (fun hc7 hb5=>?_) fun hc7 hb5=>?_)
  ·refine ah ?_
   refine bW (av (aa hb5 fun m8 hm8 hb5=>aa hb5 fun x9 hx9 hb5=>ap [] (rg 14 6) [(5,pL eS x9)] (cG 3 eS hm8 (bh 5 (qG hx9) bk)) (by kernel_rfl) (dI (ai [12,13] [(6,pI (IntKind.i64.wrap (v2+1)))] (by kernel_rfl) ?_))))
   exact aU hb5 () (iQ rfl) bA
  refine aH ?_
  refine cj hb5 (fun ht=>aj rfl ?_)
  exact az ((),(p1,l1)) (mn rfl) bA ht.symm
 rintro ⟨_,⟨l3,l4⟩⟩ τ hz;(try dsimp only at hz);subst q6;(try dsimp only at h);dsimp only [aw]
 refine de (ak [(7,pI 0)] (by kernel_rfl) (fG h fun q14 hq14 h=>?_))
 refine aq (Y:=Unit×((List ByteArray))) (fun (_,l12)=>[(5,pL eS l12)]) (fun (_,l12)=>[]) (fun (_,l12)=>q14=l12) ?_ ?_
 ·refine av ?_
  refine aC (Y:=Unit) (S:=(List ByteArray)×Int) _ hq14 (fun _ (l10,v11)=>[(1,pL eS l3),(5,pL eS l10),(7,pI v11)]) (fun _ (l10,v11)=>[]) () (nu rfl) bA ?_
  rintro _ ⟨l10,v11⟩ o τ hb13;(try dsimp only at hb13);dsimp only [aw]
  refine de (bL [20,21,22] [(23,pB (decide (v11<(l3.length:Int))))] (by kernel_rfl) rfl hb13 (fun hc15 hb13=>?_) fun hc15 hb13=>?_)
  ·refine ah ?_
   refine bW (av (aa hb13 fun m16 hm16 hb13=>aa hb13 fun x17 hx17 hb13=>ap [] (rg 26 6) [(5,pL eS x17)] (cG 3 eS hm16 (bh 5 (qG hx17) bk)) (by kernel_rfl) (dI (ai [24,25] [(7,pI (IntKind.i64.wrap (v11+1)))] (by kernel_rfl) ?_))))
   exact aU hb13 () (nu rfl) bA
  refine aH ?_
  refine cj hb13 (fun ht=>aj rfl ?_)
  exact az ((),l10) (rq rfl) bA ht.symm
 rintro ⟨_,l12⟩ τ hz;(try dsimp only at hz);subst q14;(try dsimp only at h);dsimp only [aw]
 refine ae (ai [32] [(4,pL eS l12)] (by kernel_rfl) (cW ?_))
 exact zz r h rfl
def dX (p0:(List Za)) (p1:Za):Option Bool:=(aW (S:=Int) (T:=(Unit)⊕(_)) (fun v2=>cond (decide (v2<(p0.length:Int))) ((idx p0 v2).bind fun m6=>cond (Za.eqb m6 p1) (some (.inr (.inr true))) (some (.inl (IntKind.i64.wrap (v2+1))))) (some (.inr (.inl ())))) FUEL 0).bind fun q=>match q with | .inl _=>some false | .inr e=>some e
theorem jZ {p0:(List Za)} {p1:Za} {r:Bool}  (h:dX p0 p1=some r):PF 68 [pL Za.enc p0,.agg [pI p1.Product,pI p1.Agreement]] (pB r):=by
 unfold dX at h
 refine bc ?_
 refine di Tryz.func68 rfl Tryz.ntmps68 Tryz.results68 rfl (cX rfl (bf (cs:=[pI p1.Product,pI p1.Agreement]) rfl rfl (fun b1=>aZ [4] (by kernel_rfl) (co (ak [(5,pI 0)] (by kernel_rfl) (fG h fun q4 hq4 h=>?_))))))
 refine aq (Y:=Unit×Unit) (fun (_,_)=>[]) (fun (_,_)=>[]) (fun (_,_)=>q4=Sum.inl ()) ?_ ?_
 ·refine av ?_
  refine aC (Y:=Unit) (S:=Int) _ hq4 (fun _ v2=>[(0,pL Za.enc p0),(3,pP b1 0),(5,pI v2)]) (fun _ v2=>[PRes.b b1 28 [pI p1.Product,pI p1.Agreement]]) () (nu rfl) cI ?_
  rintro _ v2 o τ hb3;(try dsimp only at hb3);dsimp only [aw]
  refine de (bL [6,7,8] [(9,pB (decide (v2<(p0.length:Int))))] (by kernel_rfl) rfl hb3 (fun hc5 hb3=>?_) fun hc5 hb3=>?_)
  ·refine ah ?_
   refine dG (bi (ρd:=[]) [(0,0),(1,0),(2,0),(3,0),(4,0),(5,0)] _ (List.Perm.refl _) (by kernel_rfl) rfl (aa hb3 fun m6 hm6 hb3=>bt 6 [0] (rg 12 5) [(17,pB (Za.eqb m6 p1))] (cG 2 Za.enc hm6 (CF 5 Za.eqok28 bk)) (by kernel_rfl) (bx (cN rfl hb3 (fun hc7 hb3=>?_) fun hc7 hb3=>?_))))
   ·refine ae ?_
    refine cU [(4,pB true)] (by kernel_rfl) (dO ?_)
    refine au hb3 (fun ht=>?_);subst ht
    refine cO ?_
    exact zz r h rfl
   refine ah ?_
   refine dI (ai [10,11] [(5,pI (IntKind.i64.wrap (v2+1)))] (by kernel_rfl) ?_)
   exact aU hb3 () (nu rfl) cI
  refine aH ?_
  refine cj hb3 (fun ht=>aj rfl ?_)
  exact az ((),()) oF bA ht.symm
 rintro ⟨_,_⟩ τ hz;(try dsimp only at hz);subst q4;(try dsimp only at h);dsimp only [aw]
 refine ae (cU [(4,pB false)] (by kernel_rfl) ?_)
 exact zz r h rfl
def ie (p0:(List Int)) (p1:Int) (p2:(List Za)):Option (Za×Bool):=(aW (S:=Int) (T:=(Unit)⊕(_)) (fun v2=>cond (decide (v2<(p0.length:Int))) ((idx p0 v2).bind fun m6=>(dX p2 (⟨p1,m6⟩:Za)).bind fun x8=>cond x8 (some (.inr (.inr ((⟨p1,m6⟩:Za),true)))) (some (.inl (IntKind.i64.wrap (v2+1))))) (some (.inr (.inl ())))) FUEL 0).bind fun q=>match q with | .inl _=>some ((⟨0,0⟩:Za),false) | .inr e=>some e
theorem nJ {p0:(List Int)} {p1:Int} {p2:(List Za)} {r:(Za×Bool)}  (h:ie p0 p1 p2=some r):PF 58 [pL eI p0,pI p1,pL Za.enc p2] (.tup [.agg [pI r.1.Product,pI r.1.Agreement],pB r.2]):=by
 unfold ie at h
 refine bc ?_
 refine di Tryz.func58 rfl Tryz.ntmps58 Tryz.results58 rfl (cX rfl (aK (cs:=[pI 0,pI 0]) rfl rfl rfl rfl (fun b1=>aZ [7] (by kernel_rfl) (co (ak [(8,pI 0)] (by kernel_rfl) (fG h fun q4 hq4 h=>?_))))))
 refine aq (Y:=Unit×Unit) (fun (_,_)=>[(6,pP b1 0)]) (fun (_,_)=>[PRes.b b1 28 [pI 0,pI 0]]) (fun (_,_)=>q4=Sum.inl ()) ?_ ?_
 ·refine av ?_
  refine aC (Y:=Unit) (S:=Int) _ hq4 (fun _ v2=>[(0,pL eI p0),(1,pI p1),(2,pL Za.enc p2),(6,pP b1 0),(8,pI v2)]) (fun _ v2=>[PRes.b b1 28 [pI 0,pI 0]]) () (mT rfl) cI ?_
  rintro _ v2 o τ hb3;(try dsimp only at hb3);dsimp only [aw]
  refine de (bL [10,11,12] [(13,pB (decide (v2<(p0.length:Int))))] (by kernel_rfl) rfl hb3 (fun hc5 hb3=>?_) fun hc5 hb3=>?_)
  ·refine ah ?_
   refine dG (aa hb3 fun m6 hm6 hb3=>af (aX 6 [] (rg 16 5) [(21,.agg [pI p1,pI m6])] (cG 3 eI hm6 bk) (by kernel_rfl) (an rfl (aK (cs:=[pI 0,pI 0]) rfl rfl rfl rfl (fun b7=>aP rfl rfl (al (vs:=[pI p1,pI m6]) rfl rfl rfl rfl rfl cg rZ (aF (dc hb3 fun x8 hx8 hb3=>ap [0] [22,23] [(24,pB x8)] (bh 2 (jZ hx8) bk) (by kernel_rfl) (cN rfl hb3 (fun hc9 hb3=>?_) fun hc9 hb3=>?_)))))))))
   ·refine ae ?_
    refine af (gz 1 [0] [(25,.agg [pI p1,pI m6])] (by kernel_rfl) (aP rfl rfl (al (vs:=[pI p1,pI m6]) rfl rfl rfl rfl rfl (dA cg) rZ (aL [(7,pB true)] (by kernel_rfl) (cW (dO ?_))))))
    refine au hb3 (fun ht=>?_);subst ht
    refine cO ?_
    obtain rfl:=osi h
    exact aN (cF (du rfl xA rfl) (aQ rfl)) bA ⟨rfl,rfl⟩
   refine ah ?_
   refine dI (ai [14,15] [(8,pI (IntKind.i64.wrap (v2+1)))] (by kernel_rfl) ?_)
   exact aU hb3 () (mT rfl) (bd (aB aM) bA)
  refine aH ?_
  refine cj hb3 (fun ht=>aj rfl ?_)
  exact az ((),()) (rq rfl) cI ht.symm
 rintro ⟨_,_⟩ τ hz;(try dsimp only at hz);subst q4;(try dsimp only at h);dsimp only [aw]
 refine ae (af (aG 1 [(26,.agg [pI 0,pI 0])] (by kernel_rfl) (aP rfl rfl (al (vs:=[pI 0,pI 0]) rfl rfl rfl rfl rfl cg rZ (aL [(7,pB false)] (by kernel_rfl) (cW ?_))))))
 obtain rfl:=osi h
 exact aN (cF (du rfl fT rfl) (aQ rfl)) bA ⟨rfl,rfl⟩
def kG (p0:Za) (p1:Za):Option Bool:=some ((decide (p0.Product<p1.Product))||((p0.Product == p1.Product)&&(decide (p0.Agreement<p1.Agreement))))
theorem vP {p0:Za} {p1:Za} {r:Bool}  (h:kG p0 p1=some r):PF 106 [.agg [pI p0.Product,pI p0.Agreement],.agg [pI p1.Product,pI p1.Agreement]] (pB r):=by
 unfold kG at h
 refine bc ?_
 refine di Tryz.func106 rfl Tryz.ntmps106 Tryz.results106 rfl (cX rfl (bf (cs:=[pI p0.Product,pI p0.Agreement]) rfl rfl (fun b1=>an rfl (bf (cs:=[pI p1.Product,pI p1.Agreement]) rfl rfl (fun b2=>aZ [4] (by kernel_rfl) (bW (aJ [1,0,1,0,1,0] (rg 5 19) [(4,pB ((decide (p0.Product<p1.Product))||((p0.Product == p1.Product)&&(decide (p0.Agreement<p1.Agreement)))))] (by kernel_rfl) (cW ?_))))))))
 exact zz r h rfl
def eC (p0:(List Za)) (p1:Za):Option (List Za):=(dX p0 p1).bind fun x2=>cond x2 (some p0) ((aW (S:=Int) (T:=(Int)) (fun v4=>(gd (decide (v4<(p0.length:Int))) (idx p0 v4)).bind fun m8=>(gd (decide (v4<(p0.length:Int))) (kG m8 p1)).bind fun x9=>cond ((decide (v4<(p0.length:Int)))&&x9) (some (.inl (IntKind.i64.wrap (v4+1)))) (some (.inr v4))) FUEL 0).bind fun v5=>(sub p0 0 v5).bind fun l11=>(sub p0 v5 (p0.length:Int)).bind fun l12=>(app 16 ([]:List Za) l11).bind fun l15=>(app 16 l15 [p1]).bind fun l21=>(app 16 l21 l12).bind fun l25=>some l25)
theorem kU {p0:(List Za)} {p1:Za} {r:(List Za)}  (h:eC p0 p1=some r):PF 59 [pL Za.enc p0,.agg [pI p1.Product,pI p1.Agreement]] (pL Za.enc r):=by
 unfold eC at h
 refine bc ?_
 refine di Tryz.func59 rfl Tryz.ntmps59 Tryz.results59 rfl (cX rfl (bf (cs:=[pI p1.Product,pI p1.Agreement]) rfl rfl (fun b1=>aZ [4] (by kernel_rfl) (co (aa h fun x2 hx2 h=>ap [0] [6,7] [(8,pB x2)] (bh 2 (jZ hx2) bk) (by kernel_rfl) (cN rfl h (fun hc3 h=>?_) fun hc3 h=>?_))))))
 ·refine ae ?_
  refine ai [9] [(4,pL Za.enc p0)] (by kernel_rfl) (cW (am ?_))
  exact zz r h rfl
 refine ah ?_
 refine bW (ak [(5,pI 0)] (by kernel_rfl) (dc h fun q7 hq7 h=>?_))
 refine aq (Y:=Unit×Int) (fun (_,v5)=>[(0,pL Za.enc p0),(3,pP b1 0),(5,pI v5)]) (fun (_,v5)=>[PRes.b b1 28 [pI p1.Product,pI p1.Agreement]]) (fun (_,v5)=>q7=v5) ?_ ?_
 ·refine av ?_
  refine aC (Y:=Unit) (S:=Int) _ hq7 (fun _ v4=>[(0,pL Za.enc p0),(3,pP b1 0),(5,pI v4)]) (fun _ v4=>[PRes.b b1 28 [pI p1.Product,pI p1.Agreement]]) () (nu rfl) cI ?_
  rintro _ v4 o τ hb6;(try dsimp only at hb6);dsimp only [aw]
  refine de (bi (ρd:=[]) [(0,0),(1,0),(2,0),(3,0),(4,0),(5,0),(6,0),(7,0),(8,0),(9,0),(10,1),(11,0)] _ (List.Perm.refl _) (by kernel_rfl) rfl (aa hb6 fun m8 hm8 hb6=>aa hb6 fun x9 hx9 hb6=>bt 12 [0] (rg 10 11) [(21,pB ((decide (v4<(p0.length:Int)))&&x9))] (eQ 7 Za.enc (cA hm8) (ee 10 (fun hc=>vP (cA hx9 hc)) bk)) (by kernel_rfl) (bx (cN rfl hb6 (fun hc10 hb6=>?_) fun hc10 hb6=>?_))))
  ·refine ah ?_
   refine aY (av (ai [22,23] [(5,pI (IntKind.i64.wrap (v4+1)))] (by kernel_rfl) (aD ?_)))
   exact aU hb6 () (nu rfl) cI
  refine aH ?_
  refine cj hb6 (fun ht=>aj rfl ?_)
  exact az ((),v4) (nu rfl) cI ht.symm
 rintro ⟨_,v5⟩ τ hz;(try dsimp only at hz);subst q7;(try dsimp only at h);dsimp only [aw]
 refine ae (bi (ρd:=[]) [(1,0),(2,0),(3,0),(5,0),(6,3),(8,0),(9,0),(10,0),(0,1),(4,1),(6,2),(7,1),(11,1),(12,0)] _ (List.Perm.refl _) (by kernel_rfl) rfl (aa h fun l11 hl11 h=>bt 4 [0] [25,26] [(27,pL Za.enc l11),(29,.agg [pI p1.Product,pI p1.Agreement])] (vI 2 Za.enc 2 (fun _=>rfl) hl11 bk) (by kernel_rfl) (yS (qm rfl rfl rfl rfl rfl (gr rfl jJ) rfl rfl rfl) (aa h fun l12 hl12 h=>bt 3 [] [32,33] [(34,pL Za.enc l12)] (vI 2 Za.enc 2 (fun _=>rfl) hl12 bk) (by kernel_rfl) (im rfl rfl rfl (bM rfl rfl rfl rfl rfl jJ rfl rfl rfl rfl (fun b13=>aa h fun l15 hl15 h=>?_)))))))
 refine im rfl rfl rfl (jQ (enc:=Za.enc) rfl rfl rfl rfl rfl (fun _=>rfl) rfl rfl rfl (by exact aM) hl15 (fun a16 c17=>?_))
 refine rD (qm rfl rfl rfl rfl rfl (gr rfl jJ) rfl rfl rfl) (fun _=>rfl) rfl (fun b19=>aa h fun l21 hl21 h=>?_)
 refine im rfl rfl rfl (yR (enc:=Za.enc) rfl rfl rfl rfl rfl (fun _=>rfl) rfl rfl rfl rfl fT rfl (by exact aB aM) hl21 (fun a22 c23=>?_))
 refine aa h fun l25 hl25 h=>?_
 refine im rfl rfl rfl (jQ (enc:=Za.enc) rfl rfl rfl rfl rfl (fun _=>rfl) rfl rfl rfl (by exact aM) hl25 (fun a26 c27=>?_))
 refine iq 1 [(4,pO a26 l25.length c27)] (by kernel_rfl) (bx (aY ?_))
 refine fa (enc:=Za.enc) (xs:=l25) 4 rfl (by exact aM) ?_
 refine bS ?_
 exact zz r h rfl
def gE (p0:Zl) (p1:Zl):Option (Zl×Bool):=Option.bind (cond (decide ((IntKind.u64.wrap (p0.Lo+p1.Lo))<p0.Lo)) (lb ((IntKind.u64.wrap ((IntKind.u64.wrap (p0.Hi+p1.Hi))+1))) (fun w8=>some (w8,((decide ((IntKind.u64.wrap (p0.Hi+p1.Hi))<p0.Hi))||(w8 == 0))))) (some ((IntKind.u64.wrap (p0.Hi+p1.Hi)),(decide ((IntKind.u64.wrap (p0.Hi+p1.Hi))<p0.Hi))))) (fun (v4,v5)=>some ((⟨v4,(IntKind.u64.wrap (p0.Lo+p1.Lo))⟩:Zl),v5))
theorem mb {p0:Zl} {p1:Zl} {r:(Zl×Bool)}  (h:gE p0 p1=some r):PF 155 [.agg [pU p0.Hi,pU p0.Lo],.agg [pU p1.Hi,pU p1.Lo]] (.tup [.agg [pU r.1.Hi,pU r.1.Lo],pB r.2]):=by
 unfold gE at h
 refine bc ?_
 refine di Tryz.func155 rfl Tryz.ntmps155 Tryz.results155 rfl (cX rfl (bf (cs:=[pU p0.Hi,pU p0.Lo]) rfl rfl (fun b1=>an rfl (bf (cs:=[pU p1.Hi,pU p1.Lo]) rfl rfl (fun b2=>an rfl (aK (cs:=[pU 0,pU 0]) rfl rfl rfl rfl (fun b3=>aZ [5] (by kernel_rfl) (bW (bi (ρd:=[]) [(0,0),(1,0),(2,0),(3,0),(4,0),(5,0),(6,0),(7,0),(8,0),(9,0),(10,0),(11,0)] _ (List.Perm.refl _) (by kernel_rfl) rfl (pa 12 [2,1,2,1] (rg 9 10) [(6,pU (IntKind.u64.wrap (p0.Lo+p1.Lo))),(7,pU (IntKind.u64.wrap (p0.Hi+p1.Hi)))] (by kernel_rfl) (bx (bW (aJ [2] [19,20,21,22] [(8,pB (decide ((IntKind.u64.wrap (p0.Hi+p1.Hi))<p0.Hi)))] (by kernel_rfl) (co (aJ [2] [23,24,25] [(26,pB (decide ((IntKind.u64.wrap (p0.Lo+p1.Lo))<p0.Lo)))] (by kernel_rfl) (fG h fun q6 hq6 h=>?_))))))))))))))))
 refine aq (Y:=Unit×(Int×Bool)) (fun (_,(v4,v5))=>[(4,pP b3 0),(6,pU (IntKind.u64.wrap (p0.Lo+p1.Lo))),(7,pU v4),(8,pB v5)]) (fun (_,(v4,v5))=>[PRes.b b3 167 [pU 0,pU 0]]) (fun (_,(v4,v5))=>q6=(v4,v5)) ?_ ?_
 ·skip
  refine ki rfl hq6 (fun hc7 hq6=>?_) fun hc7 hq6=>?_
  ·refine ae ?_
   refine eK hq6 ?_;clear hq6;intro w8 hw8 hq6
   refine af (cw 2 [27] [(28,pU (IntKind.u64.wrap ((IntKind.u64.wrap (p0.Hi+p1.Hi))+1)))] (by kernel_rfl) (cd rfl rfl rfl (bT rfl (.p (congrArg (fun z=>PV.v (Value.int .u64 z)) hw8))) (aF (aY (ai (rg 29 5) [(8,pB ((decide ((IntKind.u64.wrap (p0.Hi+p1.Hi))<p0.Hi))||(w8 == 0)))] (by kernel_rfl) ?_)))))
   obtain rfl:=osi hq6
   exact az ((),(w8,((decide ((IntKind.u64.wrap (p0.Hi+p1.Hi))<p0.Hi))||(w8 == 0)))) (iQ rfl) cI rfl
  refine ah ?_
  obtain rfl:=osi hq6
  exact az ((),((IntKind.u64.wrap (p0.Hi+p1.Hi)),(decide ((IntKind.u64.wrap (p0.Hi+p1.Hi))<p0.Hi)))) (iQ rfl) cI rfl
 rintro ⟨_,⟨v4,v5⟩⟩ τ hz;(try dsimp only at hz);subst q6;(try dsimp only at h);dsimp only [aw]
 refine ae (af (cw 4 [34,35] [(36,.agg [pU v4,pU (IntKind.u64.wrap (p0.Lo+p1.Lo))]),(37,pB v5)] (by kernel_rfl) (aP rfl rfl (al (vs:=[pU v4,pU (IntKind.u64.wrap (p0.Lo+p1.Lo))]) rfl rfl rfl rfl rfl cg rZ (aL [(5,pB v5)] (by kernel_rfl) (cW ?_))))))
 obtain rfl:=osi h
 exact aN (cF (du rfl fT rfl) (aQ rfl)) bA ⟨rfl,rfl⟩
def j0 (p0:Zl) (p1:Int):Option (Zl×Int):=(aW (S:=Int×Int×Int×Int) (T:=(Int×Int×Int)) (fun (v4,v5,v6,v7)=>cond (decide (0≤v5)) (((lf (dw .i64 v5 63)).bind fun u18=>lb ((dw .u64 (cu .u64 p0.Lo (dw .i64 v5 63)) 1)) (fun w19=>Option.bind (cond (decide (63<v5)) ((lf (IntKind.i64.wrap (v5 - 64))).bind fun u23=>lb ((dw .u64 (cu .u64 p0.Hi (IntKind.i64.wrap (v5 - 64))) 1)) (fun w24=>some w24)) (some w19)) (fun v20=>(gE (⟨v6,v7⟩:Zl) (⟨v6,v7⟩:Zl)).bind fun x25=>cond (((cu .u64 v4 63) == 1)||(decide (p1≤(nQ .u64 (ff .u64 v4 1) v20)))) (lb ((IntKind.u64.wrap ((nQ .u64 (ff .u64 v4 1) v20) - p1))) (fun w27=>some (w27,x25.1.Hi,(nQ .u64 x25.1.Lo 1)))) (some ((nQ .u64 (ff .u64 v4 1) v20),x25.1.Hi,x25.1.Lo))))).bind fun (v14,v15,v16)=>some (.inl (v14,(IntKind.i64.wrap (v5 - 1)),v15,v16))) (some (.inr (v4,v6,v7)))) FUEL (0,127,0,0)).bind fun (v8,v9,v10)=>some ((⟨v9,v10⟩:Zl),v8)
theorem tw {p0:Zl} {p1:Int} {r:(Zl×Int)}  (h:j0 p0 p1=some r):PF 154 [.agg [pU p0.Hi,pU p0.Lo],pU p1] (.tup [.agg [pU r.1.Hi,pU r.1.Lo],pU r.2]):=by
 unfold j0 at h
 refine bc ?_
 refine di Tryz.func154 rfl Tryz.ntmps154 Tryz.results154 rfl (cX rfl (bf (cs:=[pU p0.Hi,pU p0.Lo]) rfl rfl (fun b1=>an rfl (aK (cs:=[pU 0,pU 0]) rfl rfl rfl rfl (fun b2=>aZ [5] (by kernel_rfl) (bW (af (aG 1 [(11,.agg [pU 0,pU 0])] (by kernel_rfl) (an rfl (aK (cs:=[pU 0,pU 0]) rfl rfl rfl rfl (fun b3=>aP rfl rfl (al (vs:=[pU 0,pU 0]) rfl rfl rfl rfl rfl cg rZ (aL [(7,pU 0)] (by kernel_rfl) (co (ak [(8,pI 127)] (by kernel_rfl) (fG h fun q12 hq12 h=>?_))))))))))))))))
 refine aq (Y:=Unit×(Int×Int×Int)) (fun (_,(v8,v9,v10))=>[(4,pP b2 0),(6,pP b3 0),(7,pU v8)]) (fun (_,(v8,v9,v10))=>[PRes.b b2 167 [pU 0,pU 0],PRes.b b3 167 [pU v9,pU v10]]) (fun (_,(v8,v9,v10))=>q12=(v8,v9,v10)) ?_ ?_
 ·refine av ?_
  refine aC (Y:=Unit) (S:=Int×Int×Int×Int) _ hq12 (fun _ (v4,v5,v6,v7)=>[(1,pU p1),(2,pP b1 0),(4,pP b2 0),(6,pP b3 0),(7,pU v4),(8,pI v5)]) (fun _ (v4,v5,v6,v7)=>[PRes.b b1 167 [pU p0.Hi,pU p0.Lo],PRes.b b2 167 [pU 0,pU 0],PRes.b b3 167 [pU v6,pU v7]]) () (qP rfl) (bd (aB (aB aM)) (bd (aB aM) cI)) ?_
  rintro _ ⟨v4,v5,v6,v7⟩ o τ hb11;(try dsimp only at hb11);dsimp only [aw]
  refine de (bL [12] [(13,pB (decide (0≤v5)))] (by kernel_rfl) rfl hb11 (fun hc13 hb11=>?_) fun hc13 hb11=>?_)
  ·refine ah ?_
   refine dc hb11 fun q17 hq17 hb11=>?_
   refine aq (Y:=Unit×(Int×Int×Int)) (fun (_,(v14,v15,v16))=>[(1,pU p1),(2,pP b1 0),(4,pP b2 0),(6,pP b3 0),(7,pU v14),(8,pI v5)]) (fun (_,(v14,v15,v16))=>[PRes.b b1 167 [pU p0.Hi,pU p0.Lo],PRes.b b2 167 [pU 0,pU 0],PRes.b b3 167 [pU v15,pU v16]]) (fun (_,(v14,v15,v16))=>q17=(v14,v15,v16)) ?_ ?_
   ·skip
    refine qy (aa hq17 fun u18 hu18 hq17=>?_)
    refine eK hq17 ?_;clear hq17;intro w19 hw19 hq17
    refine af (aX 6 [0] (rg 16 5) [(21,pU (dw .u64 (cu .u64 p0.Lo (dw .i64 v5 63)) 1))] (tp 4 hu18 bk) (by kernel_rfl) (cd rfl rfl rfl (bT rfl (.p (congrArg (fun z=>PV.v (Value.int .u64 z)) hw19))) (aF (co (ai [22] [(23,pB (decide (63<v5)))] (by kernel_rfl) (fG hq17 fun q21 hq21 hq17=>?_))))))
    refine aq (Y:=Unit×Int) (fun (_,v20)=>[(1,pU p1),(2,pP b1 0),(4,pP b2 0),(6,pP b3 0),(7,pU v4),(8,pI v5),(9,pU v20)]) (fun (_,v20)=>[PRes.b b1 167 [pU p0.Hi,pU p0.Lo],PRes.b b2 167 [pU 0,pU 0],PRes.b b3 167 [pU v6,pU v7]]) (fun (_,v20)=>q21=v20) ?_ ?_
    ·skip
     refine ki rfl hq21 (fun hc22 hq21=>?_) fun hc22 hq21=>?_
     ·refine aa hq21 ?_;clear hq21;intro u23 hu23 hq21
      refine eK hq21 ?_;clear hq21;intro w24 hw24 hq21
      refine af (aX 6 [0] (rg 24 5) [(29,pU (dw .u64 (cu .u64 p0.Hi (IntKind.i64.wrap (v5 - 64))) 1))] (tp 4 hu23 bk) (by kernel_rfl) (cd rfl rfl rfl (bT rfl (.p (congrArg (fun z=>PV.v (Value.int .u64 z)) hw24))) (aF ?_)))
      obtain rfl:=osi hq21
      exact az ((),w24) (sm rfl) BB rfl
     refine ah ?_
     obtain rfl:=osi hq21
     exact az ((),w19) (sm rfl) BB rfl
    rintro ⟨_,v20⟩ τ hz;(try dsimp only at hz);subst q21;(try dsimp only at hq17);dsimp only [aw]
    refine ae (ai [30,31] [(10,pU (cu .u64 v4 63))] (by kernel_rfl) (bW (ai [32,33,34,35] [(7,pU (nQ .u64 (ff .u64 v4 1) v20))] (by kernel_rfl) (dc hq17 fun x25 hx25 hq17=>af (aX 6 [2,2] [37,38,39,36,41] [(40,.agg [pU x25.1.Hi,pU x25.1.Lo])] (bh 2 (mb hx25) bk) (by kernel_rfl) (aP rfl rfl (al (vs:=[pU x25.1.Hi,pU x25.1.Lo]) rfl rfl rfl rfl rfl (dA (dA cg)) rZ (aF (bW (bL (rg 42 6) [(48,pB (((cu .u64 v4 63) == 1)||(decide (p1≤(nQ .u64 (ff .u64 v4 1) v20)))))] (by kernel_rfl) rfl hq17 (fun hc26 hq17=>?_) fun hc26 hq17=>?_))))))))))
    ·refine ae ?_
     refine eK hq17 ?_;clear hq17;intro w27 hw27 hq17
     refine af (cw 3 [49,50] [(51,pU (IntKind.u64.wrap ((nQ .u64 (ff .u64 v4 1) v20) - p1)))] (by kernel_rfl) (cd rfl rfl rfl (bT rfl (.p (congrArg (fun z=>PV.v (Value.int .u64 z)) hw27))) (aF (aY (af (cB 4 [2] [52,53] [(54,pU (nQ .u64 x25.1.Lo 1)),(55,pP b3 1)] (by kernel_rfl) (aP rfl rfl (al (vs:=[pU (nQ .u64 x25.1.Lo 1)]) rfl rfl rfl rfl rfl (dA (dA cg)) (el oG) (aF (aD ?_))))))))))
     obtain rfl:=osi hq17
     exact az ((),(w27,x25.1.Hi,(nQ .u64 x25.1.Lo 1))) (qP rfl) BB rfl
    refine ah ?_
    refine aD ?_
    obtain rfl:=osi hq17
    exact az ((),((nQ .u64 (ff .u64 v4 1) v20),x25.1.Hi,x25.1.Lo)) (qP rfl) BB rfl
   rintro ⟨_,⟨v14,v15,v16⟩⟩ τ hz;(try dsimp only at hz);subst q17;(try dsimp only at hb11);dsimp only [aw]
   refine ai [14,15] [(8,pI (IntKind.i64.wrap (v5 - 1)))] (by kernel_rfl) ?_
   exact aU hb11 () (qP rfl) BB
  refine aH ?_
  refine cj hb11 (fun ht=>aj rfl ?_)
  exact az ((),(v4,v6,v7)) (nu rfl) (bd (aB aM) (bd (aB aM) bA)) ht.symm
 rintro ⟨_,⟨v8,v9,v10⟩⟩ τ hz;(try dsimp only at hz);subst q12;(try dsimp only at h);dsimp only [aw]
 refine ae (af (gz 2 [1] [(56,.agg [pU v9,pU v10]),(57,pU v8)] (by kernel_rfl) (aP rfl rfl (al (vs:=[pU v9,pU v10]) rfl rfl rfl rfl rfl cg rZ (aL [(5,pU v8)] (by kernel_rfl) (cW ?_))))))
 obtain rfl:=osi h
 exact aN (cF (du rfl fT rfl) (aQ rfl)) bA ⟨rfl,rfl⟩
def nK (p0:Zl) (p1:Int) (p2:Int):Option (Int×Int):=cond (((p1 == 0)||(decide (p2<0)))||(decide (3<p2))) (some ((0:Int),(2:Int))) ((j0 p0 p1).bind fun x3=>Option.bind (cond (p2 == 1) (some (decide (0<x3.2))) (cond (p2 == 2) (some (decide ((IntKind.u64.wrap (p1 - x3.2))≤x3.2))) (cond (p2 == 3) (some ((decide ((IntKind.u64.wrap (p1 - x3.2))<x3.2))||((x3.2 == (IntKind.u64.wrap (p1 - x3.2)))&&((dw .u64 x3.1.Lo 1) == 1)))) (some false)))) (fun v5=>Option.bind (cond v5 ((gE x3.1 (⟨0,1⟩:Zl)).bind fun x14=>some (x14.1.Hi,x14.1.Lo)) (some (x3.1.Hi,x3.1.Lo))) (fun (v10,v11)=>cond (decide (0<v10)) (some ((0:Int),(3:Int))) (some (v11,(0:Int))))))
theorem xN {p0:Zl} {p1:Int} {p2:Int} {r:(Int×Int)}  (h:nK p0 p1 p2=some r):PF 107 [.agg [pU p0.Hi,pU p0.Lo],pU p1,pI p2] (.tup [pU r.1,pI r.2]):=by
 unfold nK at h
 refine bc ?_
 refine di Tryz.func107 rfl Tryz.ntmps107 Tryz.results107 rfl (cX rfl (bf (cs:=[pU p0.Hi,pU p0.Lo]) rfl rfl (fun b1=>aZ [6,7] (by kernel_rfl) (co (bL (rg 11 9) [(20,pB (((p1 == 0)||(decide (p2<0)))||(decide (3<p2))))] (by kernel_rfl) rfl h (fun hc2 h=>?_) fun hc2 h=>?_)))))
 ·refine ae ?_
  refine cU [(6,pU 0),(7,pI 2)] (by kernel_rfl) (am ?_)
  obtain rfl:=osi h
  exact aN (cF (aQ rfl) (aQ rfl)) bA ⟨rfl,rfl⟩
 refine ah ?_
 refine dc h fun x3 hx3 h=>af (aX 6 [0] [22,23,24,21] [(25,.agg [pU x3.1.Hi,pU x3.1.Lo]),(26,pU x3.2)] (bh 2 (tw hx3) bk) (by kernel_rfl) (an rfl (aK (cs:=[pU 0,pU 0]) rfl rfl rfl rfl (fun b4=>aP rfl rfl (al (vs:=[pU x3.1.Hi,pU x3.1.Lo]) rfl rfl rfl rfl rfl cg rZ (aL [(9,pU x3.2)] (by kernel_rfl) (bW (ak [(10,pB false)] (by kernel_rfl) (co (ak [(27,pI p2)] (by kernel_rfl) (fG h fun q6 hq6 h=>?_)))))))))))
 refine aq (Y:=Unit×Bool) (fun (_,v5)=>[(8,pP b4 0),(10,pB v5)]) (fun (_,v5)=>[PRes.b b4 167 [pU x3.1.Hi,pU x3.1.Lo]]) (fun (_,v5)=>q6=v5) ?_ ?_
 ·skip
  refine qy (bL [29] [(28,pB (p2 == 1))] (by kernel_rfl) rfl hq6 (fun hc7 hq6=>?_) fun hc7 hq6=>?_)
  ·refine ai [30,31] [(10,pB (decide (0<x3.2)))] (by kernel_rfl) ?_
   refine aD ?_
   obtain rfl:=osi hq6
   exact az ((),(decide (0<x3.2))) (mn rfl) cI rfl
  refine ae ?_
  refine bL [33] [(32,pB (p2 == 2))] (by kernel_rfl) rfl hq6 (fun hc8 hq6=>?_) fun hc8 hq6=>?_
  ·refine ai (rg 34 5) [(10,pB (decide ((IntKind.u64.wrap (p1 - x3.2))≤x3.2)))] (by kernel_rfl) ?_
   refine aD ?_
   obtain rfl:=osi hq6
   exact az ((),(decide ((IntKind.u64.wrap (p1 - x3.2))≤x3.2))) (mn rfl) cI rfl
  refine ae ?_
  refine bL [40] [(39,pB (p2 == 3))] (by kernel_rfl) rfl hq6 (fun hc9 hq6=>?_) fun hc9 hq6=>?_
  ·refine aJ [0] (rg 41 18) [(10,pB ((decide ((IntKind.u64.wrap (p1 - x3.2))<x3.2))||((x3.2 == (IntKind.u64.wrap (p1 - x3.2)))&&((dw .u64 x3.1.Lo 1) == 1))))] (by kernel_rfl) ?_
   refine aD ?_
   obtain rfl:=osi hq6
   exact az ((),((decide ((IntKind.u64.wrap (p1 - x3.2))<x3.2))||((x3.2 == (IntKind.u64.wrap (p1 - x3.2)))&&((dw .u64 x3.1.Lo 1) == 1)))) (mn rfl) cI rfl
  refine ah ?_
  refine aD ?_
  obtain rfl:=osi hq6
  exact az ((),false) (mn rfl) cI rfl
 rintro ⟨_,v5⟩ τ hz;(try dsimp only at hz);subst q6;(try dsimp only at h);dsimp only [aw]
 refine de (ak [(59,pB v5)] (by kernel_rfl) (fG h fun q12 hq12 h=>?_))
 refine aq (Y:=Unit×(Int×Int)) (fun (_,(v10,v11))=>[(8,pP b4 0)]) (fun (_,(v10,v11))=>[PRes.b b4 167 [pU v10,pU v11]]) (fun (_,(v10,v11))=>q12=(v10,v11)) ?_ ?_
 ·skip
  refine ki rfl hq12 (fun hc13 hq12=>?_) fun hc13 hq12=>?_
  ·refine aa hq12 ?_;clear hq12;intro x14 hx14 hq12
   refine af (aX 6 [0] [61,62,63,60,65] [(64,.agg [pU x14.1.Hi,pU x14.1.Lo])] (bh 2 (mb hx14) bk) (by kernel_rfl) (aP rfl rfl (al (vs:=[pU x14.1.Hi,pU x14.1.Lo]) rfl rfl rfl rfl rfl cg rZ (aF ?_))))
   obtain rfl:=osi hq12
   exact az ((),(x14.1.Hi,x14.1.Lo)) (rq rfl) cI rfl
  refine ah ?_
  obtain rfl:=osi hq12
  exact az ((),(x3.1.Hi,x3.1.Lo)) (rq rfl) cI rfl
 rintro ⟨_,⟨v10,v11⟩⟩ τ hz;(try dsimp only at hz);subst q12;(try dsimp only at h);dsimp only [aw]
 refine de (aJ [0] [66,67] [(68,pB (decide (0<v10)))] (by kernel_rfl) (cN rfl h (fun hc15 h=>?_) fun hc15 h=>?_))
 ·refine ae ?_
  refine cU [(6,pU 0),(7,pI 3)] (by kernel_rfl) (am ?_)
  obtain rfl:=osi h
  exact aN (cF (aQ rfl) (aQ rfl)) bA ⟨rfl,rfl⟩
 refine ah ?_
 refine bW (aJ [0] [69,70] [(6,pU v11),(7,pI 0)] (by kernel_rfl) (cW ?_))
 obtain rfl:=osi h
 exact aN (cF (aQ rfl) (aQ rfl)) bA ⟨rfl,rfl⟩
def jA (p0:Int) (p1:Int):Option Zl:=(aW (S:=Int×Int×Int) (T:=(Int×Int)) (fun (v3,v4,v5)=>cond (decide (0≤v3)) (((gE (⟨v4,v5⟩:Zl) (⟨v4,v5⟩:Zl)).bind fun x14=>(lf v3).bind fun u15=>cond ((dw .u64 (cu .u64 p1 v3) 1) == 1) ((gE x14.1 (⟨0,p0⟩:Zl)).bind fun x17=>some (x17.1.Hi,x17.1.Lo)) (some (x14.1.Hi,x14.1.Lo))).bind fun (v11,v12)=>some (.inl ((IntKind.i64.wrap (v3 - 1)),v11,v12))) (some (.inr (v4,v5)))) FUEL (63,0,0)).bind fun (v6,v7)=>some (⟨v6,v7⟩:Zl)
theorem og {p0:Int} {p1:Int} {r:Zl}  (h:jA p0 p1=some r):PF 108 [pU p0,pU p1] (.agg [pU r.Hi,pU r.Lo]):=by
 unfold jA at h
 refine bc ?_
 refine di Tryz.func108 rfl Tryz.ntmps108 Tryz.results108 rfl (cX rfl (aK (cs:=[pU 0,pU 0]) rfl rfl rfl rfl (fun b1=>aF (bW (af (aG 1 [(7,.agg [pU 0,pU 0])] (by kernel_rfl) (an rfl (aK (cs:=[pU 0,pU 0]) rfl rfl rfl rfl (fun b2=>aP rfl rfl (al (vs:=[pU 0,pU 0]) rfl rfl rfl rfl rfl cg rZ (aF (co (ak [(6,pI 63)] (by kernel_rfl) (fG h fun q9 hq9 h=>?_))))))))))))))
 refine aq (Y:=Unit×(Int×Int)) (fun (_,(v6,v7))=>[(4,pP b1 0),(5,pP b2 0)]) (fun (_,(v6,v7))=>[PRes.b b1 167 [pU 0,pU 0],PRes.b b2 167 [pU v6,pU v7]]) (fun (_,(v6,v7))=>q9=(v6,v7)) ?_ ?_
 ·refine av ?_
  refine aC (Y:=Unit) (S:=Int×Int×Int) _ hq9 (fun _ (v3,v4,v5)=>[(0,pU p0),(1,pU p1),(4,pP b1 0),(5,pP b2 0),(6,pI v3)]) (fun _ (v3,v4,v5)=>[PRes.b b1 167 [pU 0,pU 0],PRes.b b2 167 [pU v4,pU v5]]) () (mT rfl) (bd (aB aM) cI) ?_
  rintro _ ⟨v3,v4,v5⟩ o τ hb8;(try dsimp only at hb8);dsimp only [aw]
  refine de (bL [8] [(9,pB (decide (0≤v3)))] (by kernel_rfl) rfl hb8 (fun hc10 hb8=>?_) fun hc10 hb8=>?_)
  ·refine ah ?_
   refine dc hb8 fun q13 hq13 hb8=>?_
   refine aq (Y:=Unit×(Int×Int)) (fun (_,(v11,v12))=>[(0,pU p0),(1,pU p1),(4,pP b1 0),(5,pP b2 0),(6,pI v3)]) (fun (_,(v11,v12))=>[PRes.b b1 167 [pU 0,pU 0],PRes.b b2 167 [pU v11,pU v12]]) (fun (_,(v11,v12))=>q13=(v11,v12)) ?_ ?_
   ·skip
    refine qy (aa hq13 fun x14 hx14 hq13=>af (aX 6 [1,1] [13,14,15,12,17] [(16,.agg [pU x14.1.Hi,pU x14.1.Lo])] (bh 2 (mb hx14) bk) (by kernel_rfl) (aP rfl rfl (al (vs:=[pU x14.1.Hi,pU x14.1.Lo]) rfl rfl rfl rfl rfl (dA cg) rZ (aF (dc hq13 fun u15 hu15 hq13=>ap [] [18,19,20,21] [(22,pB ((dw .u64 (cu .u64 p1 v3) 1) == 1))] (tp 2 hu15 bk) (by kernel_rfl) (cN rfl hq13 (fun hc16 hq13=>?_) fun hc16 hq13=>?_)))))))
    ·refine aa hq13 ?_;clear hq13;intro x17 hx17 hq13
     refine af (aX 7 [1] [24,25,26,27,23,29] [(28,.agg [pU x17.1.Hi,pU x17.1.Lo])] (bh 3 (mb hx17) bk) (by kernel_rfl) (aP rfl rfl (al (vs:=[pU x17.1.Hi,pU x17.1.Lo]) rfl rfl rfl rfl rfl (dA cg) rZ (aF (aD ?_)))))
     obtain rfl:=osi hq13
     exact az ((),(x17.1.Hi,x17.1.Lo)) (mT rfl) oX rfl
    refine ah ?_
    refine aD ?_
    obtain rfl:=osi hq13
    exact az ((),(x14.1.Hi,x14.1.Lo)) (mT rfl) oX rfl
   rintro ⟨_,⟨v11,v12⟩⟩ τ hz;(try dsimp only at hz);subst q13;(try dsimp only at hb8);dsimp only [aw]
   refine ai [10,11] [(6,pI (IntKind.i64.wrap (v3 - 1)))] (by kernel_rfl) ?_
   exact aU hb8 () (mT rfl) oX
  refine aH ?_
  refine cj hb8 (fun ht=>aj rfl ?_)
  exact az ((),(v4,v5)) (mn rfl) oX ht.symm
 rintro ⟨_,⟨v6,v7⟩⟩ τ hz;(try dsimp only at hz);subst q9;(try dsimp only at h);dsimp only [aw]
 refine ae (af (gz 1 [1] [(30,.agg [pU v6,pU v7])] (by kernel_rfl) (aP rfl rfl (al (vs:=[pU v6,pU v7]) rfl rfl rfl rfl rfl cg rZ (aF (cW ?_))))))
 obtain rfl:=osi h
 exact aN (dh (du rfl fT rfl)) bA ⟨rfl,rfl⟩
def j5 (p0:Int) (p1:Int) (p2:Int) (p3:Int):Option (Int×Int):=(jA p0 p1).bind fun x1=>(nK x1 p2 p3).bind fun x2=>some (x2.1,x2.2)
theorem tz {p0:Int} {p1:Int} {p2:Int} {p3:Int} {r:(Int×Int)}  (h:j5 p0 p1 p2 p3=some r):PF 60 [pU p0,pU p1,pU p2,pI p3] (.tup [pU r.1,pI r.2]):=by
 unfold j5 at h
 refine bc ?_
 refine di Tryz.func60 rfl Tryz.ntmps60 Tryz.results60 rfl (aS [8,9] (by kernel_rfl) (dc h fun x1 hx1 h=>aa h fun x2 hx2 h=>ap [] (rg 10 8) [(8,pU x2.1),(9,pI x2.2)] (bh 2 (og hx1) (bh 5 (xN hx2) bk)) (by kernel_rfl) (cW ?_)))
 obtain rfl:=osi h
 exact aN (cF (aQ rfl) (aQ rfl)) bA ⟨rfl,rfl⟩
def gP (p0:(List Zc)) (p1:(List Zb)) (p2:ByteArray) (p3:Za) (p4:(List Za)):Option (Zm×(List Za)):=(dJ p0 p1 p2 p3).bind fun x3=>cond (!x3) (some ((⟨ByteArray.empty,0,false,[],[]⟩:Zm),[])) ((fA p0 p3.Product).bind fun x5=>(e9 p1 p3.Agreement).bind fun x7=>(iy p1 p3.Agreement x5.1.Country p2).bind fun x9=>(aW (S:=(List Za)×(List ByteArray)×Int×(List Zk)) (T:=((List Za)×(List ByteArray)×(List Zk))) (fun (l13,l14,v15,l17)=>cond (decide (v15<(x5.1.Inputs.length:Int))) (((idx x5.1.Inputs v15).bind fun m37=>(fA p0 m37.Product).bind fun x39=>(gd (x7.1.Kind == 3) (ic x7.1.Parties x39.1.Country)).bind fun x41=>Option.bind (cond ((x7.1.Kind == 3)&&x41) ((jz l14 x39.1.Processes).bind fun x46=>some x46) (some l14)) (fun l42=>(ie x9 x39.1.ID p4).bind fun x47=>Option.bind (cond x47.2 ((eC l13 x47.1).bind fun x53=>some x53) (some l13)) (fun l49=>cond ((x47.2||(!((x7.1.Kind == 3)&&x41)))||((x39.1.Inputs.length:Int) == 0)) ((app 32 l17 [(⟨x39.1.Code,m37.Value,x47.2⟩:Zk)]).bind fun l57=>some (l49,l42,l57)) ((aW (S:=(List Za)×Int×(List Zk)) (T:=((List Za)×(List Zk))) (fun (l61,v62,l64)=>cond (decide (v62<(x39.1.Inputs.length:Int))) ((idx x39.1.Inputs v62).bind fun m75=>(fA p0 m75.Product).bind fun x76=>(idx x39.1.Inputs v62).bind fun m78=>(j5 (IntKind.u64.wrap m37.Value) (IntKind.u64.wrap m78.Value) (IntKind.u64.wrap x39.1.Price) 1).bind fun x79=>Option.bind (cond ((x79.2 == 0)&&(decide (x79.1<1000000000000))) (some (IntKind.i64.wrap x79.1)) (some 1000000000000)) (fun v80=>(ie x9 x76.1.ID p4).bind fun x84=>Option.bind (cond x84.2 ((eC l61 x84.1).bind fun x90=>some x90) (some l61)) (fun l86=>(app 32 l64 [(⟨x76.1.Code,v80,x84.2⟩:Zk)]).bind fun l93=>some (.inl (l86,(IntKind.i64.wrap (v62+1)),l93))))) (some (.inr (l61,l64)))) FUEL (l49,0,l17)).bind fun (l67,l71)=>some (l67,l42,l71))))).bind fun (l30,l31,l35)=>some (.inl (l30,l31,(IntKind.i64.wrap (v15+1)),l35))) (some (.inr (l13,l14,l17)))) FUEL (([]:List Za),x5.1.Processes,0,([]:List Zk))).bind fun (l20,l21,l25)=>(sub l21 0 (oP (l21.length:Int) 8)).bind fun l98=>some ((⟨x5.1.Code,x5.1.Price,x5.1.Obtained,l98,l25⟩:Zm),l20))
theorem tA {p0:(List Zc)} {p1:(List Zb)} {p2:ByteArray} {p3:Za} {p4:(List Za)} {r:(Zm×(List Za))}  (h:gP p0 p1 p2 p3 p4=some r):PF 18 [pL Zc.enc p0,pL Zb.enc p1,pS p2,.agg [pI p3.Product,pI p3.Agreement],pL Za.enc p4] (.tup [.agg (bz r.1),pL Za.enc r.2]):=by
 unfold gP at h
 refine bc ?_
 refine di Tryz.func18 rfl Tryz.ntmps18 Tryz.results18 rfl (cX rfl (bf (cs:=[pI p3.Product,pI p3.Agreement]) rfl rfl (fun b1=>an rfl (aK (cs:=[pS ByteArray.empty,pI 0,pB false,pN,pN]) rfl rfl rfl rfl (fun b2=>aZ [11] (by kernel_rfl) (co (aa h fun x3 hx3 h=>ap [1] (rg 35 5) [(40,pB (!x3))] (bh 4 (lM hx3) bk) (by kernel_rfl) (cN rfl h (fun hc4 h=>?_) fun hc4 h=>?_))))))))
 ·refine ae ?_
  refine af (aG 1 [(41,.agg [pS ByteArray.empty,pI 0,pB false,pN,pN])] (by kernel_rfl) (aP rfl rfl (al (vs:=[pS ByteArray.empty,pI 0,pB false,pN,pN]) rfl rfl rfl rfl rfl cg Fx (aL [(11,pN)] (by kernel_rfl) (aY (cJ (k:=3) (b:=b2) rfl cg (cJ (k:=4) (b:=b2) rfl cg (iE 11 rfl (bS (am ?_))))))))))
  obtain rfl:=osi h
  exact aN (cF (du rfl fT rfl) (aQ rfl)) bA ⟨rfl,rfl⟩
 refine ah ?_
 refine dc h fun x5 hx5 h=>af (aX 7 [1] [43,44,45,46,42] [(47,.agg (aI x5.1)),(48,pB x5.2)] (bh 3 (i5 hx5) bk) (by kernel_rfl) (an rfl (aK (cs:=[pI 0,pS ByteArray.empty,pS ByteArray.empty,pI 0,pB false,pN,pN]) rfl rfl rfl rfl (fun b6=>aP rfl rfl (al (vs:=(aI x5.1)) rfl rfl rfl rfl rfl cg nf (aZ [13] (by kernel_rfl) (dc h fun x7 hx7 h=>af (aX 7 [2] [50,51,52,53,49] [(54,.agg (aA x7.1)),(55,pB x7.2)] (bh 3 (jo hx7) bk) (by kernel_rfl) (an rfl (aK (cs:=[pI 0,pI 0,pN,pN]) rfl rfl rfl rfl (fun b8=>aP rfl rfl (al (vs:=(aA x7.1)) rfl rfl rfl rfl rfl cg xB (aZ [15] (by kernel_rfl) (dc h fun x9 hx9 h=>ap [3,1] (rg 56 7) [(16,pL eI x9)] (bh 6 (rJ hx9) bk) (by kernel_rfl) (bW (af (cB 7 [1,1,1] (rg 63 6) [(69,.agg [pS x5.1.Code,pI x5.1.Price,pB x5.1.Obtained,pN,pN])] (by kernel_rfl) (an rfl (bM rfl rfl rfl rfl rfl jJ rfl rfl rfl rfl (fun b10=>an rfl (aK (cs:=[pS ByteArray.empty,pI 0,pB false,pN,pN]) rfl rfl rfl rfl (fun b12=>aP rfl rfl (al (vs:=[pS x5.1.Code,pI x5.1.Price,pB x5.1.Obtained,pN,pN]) rfl rfl rfl rfl rfl cg Fx (aL [(18,pO (some ⟨b10,0,none⟩) 0 0)] (by kernel_rfl) (bW (aJ [3] [71,72] [(19,pL eS x5.1.Processes)] (by kernel_rfl) (co (ak [(20,pI 0)] (by kernel_rfl) (aY (cM 103 3 ?_))))))))))))))))))))))))))))))
 refine fa (enc:=Za.enc) (xs:=([]:List Za)) 18 rfl (by exact aB (aB aM)) ?_
 refine aa h fun q27 hq27 h=>?_
 refine aq (Y:=(Option Addr×Nat)×((List Za)×(List ByteArray)×(List Zk))) (fun ((a23,c24),(l20,l21,l25))=>[(10,pP b2 0),(17,pP b12 0),(18,pL Za.enc l20),(19,pL eS l21)]) (fun ((a23,c24),(l20,l21,l25))=>[PRes.b b12 36 [pS x5.1.Code,pI x5.1.Price,pB x5.1.Obtained,pN,pO a23 l25.length c24],PRes.b b2 36 [pS ByteArray.empty,pI 0,pB false,pN,pN],PRes.row a23 l25.length c24 103 3 (List.map Zk.enc l25)]) (fun ((a23,c24),(l20,l21,l25))=>q27=(l20,l21,l25)) ?_ ?_
 ·refine av ?_
  refine aC (Y:=Option Addr×Nat) (S:=(List Za)×(List ByteArray)×Int×(List Zk)) _ hq27 (fun (a18,c19) (l13,l14,v15,l17)=>[(0,pL Zc.enc p0),(4,pL Za.enc p4),(10,pP b2 0),(12,pP b6 0),(14,pP b8 0),(16,pL eI x9),(17,pP b12 0),(18,pL Za.enc l13),(19,pL eS l14),(20,pI v15)]) (fun (a18,c19) (l13,l14,v15,l17)=>[PRes.b b12 36 [pS x5.1.Code,pI x5.1.Price,pB x5.1.Obtained,pN,pO a18 l17.length c19],PRes.b b2 36 [pS ByteArray.empty,pI 0,pB false,pN,pN],PRes.b b6 76 (aI x5.1),PRes.b b8 81 (aA x7.1),PRes.row a18 l17.length c19 103 3 (List.map Zk.enc l17)]) (none,0) (ed rfl (r6 rfl)) (bd (aB (aB aM)) (bd (aB (aB (aB (aB aM)))) (bd (aB (aB (aB aM))) (bd (aB (aB aM)) (bd (aB aM) bA))))) ?_
  rintro ⟨a18,c19⟩ ⟨l13,l14,v15,l17⟩ o τ hb26;(try dsimp only at hb26);dsimp only [aw]
  refine de (aJ [2] [73,74,75,76] [(77,pB (decide (v15<(x5.1.Inputs.length:Int))))] (by kernel_rfl) (cN rfl hb26 (fun hc29 hb26=>?_) fun hc29 hb26=>?_))
  ·refine ah ?_
   refine dc hb26 fun q36 hq36 hb26=>?_
   refine aq (Y:=(Option Addr×Nat)×((List Za)×(List ByteArray)×(List Zk))) (fun ((a33,c34),(l30,l31,l35))=>[(0,pL Zc.enc p0),(4,pL Za.enc p4),(10,pP b2 0),(12,pP b6 0),(14,pP b8 0),(16,pL eI x9),(17,pP b12 0),(18,pL Za.enc l30),(19,pL eS l31),(20,pI v15)]) (fun ((a33,c34),(l30,l31,l35))=>[PRes.b b12 36 [pS x5.1.Code,pI x5.1.Price,pB x5.1.Obtained,pN,pO a33 l35.length c34],PRes.b b2 36 [pS ByteArray.empty,pI 0,pB false,pN,pN],PRes.b b6 76 (aI x5.1),PRes.b b8 81 (aA x7.1),PRes.row a33 l35.length c34 103 3 (List.map Zk.enc l35)]) (fun ((a33,c34),(l30,l31,l35))=>q36=(l30,l31,l35)) ?_ ?_
   ·skip
    refine qy (aa hq36 fun m37 hm37 hq36=>af (aX 5 [2] [80,81,82,83] [(84,.agg [pI m37.Product,pI m37.Value])] (cG 3 Zh.enc hm37 bk) (by kernel_rfl) (an rfl (aK (cs:=[pI 0,pI 0]) rfl rfl rfl rfl (fun b38=>aP rfl rfl (al (vs:=[pI m37.Product,pI m37.Value]) rfl rfl rfl rfl rfl cg rZ (aF (dc hq36 fun x39 hx39 hq36=>af (aX 7 [0] [86,87,88,89,85] [(90,.agg (aI x39.1)),(91,pB x39.2)] (bh 3 (i5 hx39) bk) (by kernel_rfl) (an rfl (aK (cs:=[pI 0,pS ByteArray.empty,pS ByteArray.empty,pI 0,pB false,pN,pN]) rfl rfl rfl rfl (fun b40=>aP rfl rfl (al (vs:=(aI x39.1)) rfl rfl rfl rfl rfl cg nf (aZ [23] (by kernel_rfl) (dc hq36 fun x41 hx41 hq36=>ap [5,5,0] (rg 92 10) [(24,pB ((x7.1.Kind == 3)&&x41))] (ee 8 (fun hc=>iI (cA hx41 hc)) bk) (by kernel_rfl) (co (ak [(102,pB ((x7.1.Kind == 3)&&x41))] (by kernel_rfl) (fG hq36 fun q44 hq44 hq36=>?_))))))))))))))))))
    refine aq (Y:=Unit×((List ByteArray))) (fun (_,l42)=>[(0,pL Zc.enc p0),(4,pL Za.enc p4),(10,pP b2 0),(12,pP b6 0),(14,pP b8 0),(16,pL eI x9),(17,pP b12 0),(18,pL Za.enc l13),(19,pL eS l42),(20,pI v15),(21,pP b38 0),(22,pP b40 0),(24,pB ((x7.1.Kind == 3)&&x41))]) (fun (_,l42)=>[PRes.b b12 36 [pS x5.1.Code,pI x5.1.Price,pB x5.1.Obtained,pN,pO a18 l17.length c19],PRes.b b2 36 [pS ByteArray.empty,pI 0,pB false,pN,pN],PRes.b b38 78 [pI m37.Product,pI m37.Value],PRes.b b40 76 (aI x39.1),PRes.b b6 76 (aI x5.1),PRes.b b8 81 (aA x7.1),PRes.row a18 l17.length c19 103 3 (List.map Zk.enc l17)]) (fun (_,l42)=>q44=l42) ?_ ?_
    ·skip
     refine ki rfl hq44 (fun hc45 hq44=>?_) fun hc45 hq44=>?_
     ·refine aa hq44 ?_;clear hq44;intro x46 hx46 hq44
      refine ap [0] [103,104,105,106] [(19,pL eS x46)] (bh 3 (uN hx46) bk) (by kernel_rfl) ?_
      obtain rfl:=osi hq44
      exact az ((),x46) (ed rfl (ed rfl (ed rfl (ed rfl (r6 rfl))))) (bd (aB (aB aM)) (bd (aB (aB aM)) (bd (aB aM) Dn))) rfl
     refine ah ?_
     obtain rfl:=osi hq44
     exact az ((),l14) (ed rfl (ed rfl (ed rfl (ed rfl (r6 rfl))))) (bd (aB (aB aM)) (bd (aB (aB aM)) (bd (aB aM) Dn))) rfl
    rintro ⟨_,l42⟩ τ hz;(try dsimp only at hz);subst q44;(try dsimp only at hq36);dsimp only [aw]
    refine ae (aa hq36 fun x47 hx47 hq36=>af (aX 8 [3] ((rg 108 5)++[107]) [(113,.agg [pI x47.1.Product,pI x47.1.Agreement]),(114,pB x47.2)] (bh 4 (nJ hx47) bk) (by kernel_rfl) (an rfl (aK (cs:=[pI 0,pI 0]) rfl rfl rfl rfl (fun b48=>aP rfl rfl (al (vs:=[pI x47.1.Product,pI x47.1.Agreement]) rfl rfl rfl rfl rfl cg rZ (aL [(26,pB x47.2)] (by kernel_rfl) (co (ak [(115,pB x47.2)] (by kernel_rfl) (fG hq36 fun q51 hq51 hq36=>?_))))))))))
    refine aq (Y:=Unit×((List Za))) (fun (_,l49)=>[(0,pL Zc.enc p0),(4,pL Za.enc p4),(10,pP b2 0),(12,pP b6 0),(14,pP b8 0),(16,pL eI x9),(17,pP b12 0),(18,pL Za.enc l49),(19,pL eS l42),(20,pI v15),(21,pP b38 0),(22,pP b40 0),(24,pB ((x7.1.Kind == 3)&&x41)),(26,pB x47.2)]) (fun (_,l49)=>[PRes.b b12 36 [pS x5.1.Code,pI x5.1.Price,pB x5.1.Obtained,pN,pO a18 l17.length c19],PRes.b b2 36 [pS ByteArray.empty,pI 0,pB false,pN,pN],PRes.b b38 78 [pI m37.Product,pI m37.Value],PRes.b b40 76 (aI x39.1),PRes.b b6 76 (aI x5.1),PRes.b b8 81 (aA x7.1),PRes.row a18 l17.length c19 103 3 (List.map Zk.enc l17)]) (fun (_,l49)=>q51=l49) ?_ ?_
    ·skip
     refine ki rfl hq51 (fun hc52 hq51=>?_) fun hc52 hq51=>?_
     ·refine aa hq51 ?_;clear hq51;intro x53 hx53 hq51
      refine ap [0] [116,117,118] [(18,pL Za.enc x53)] (bh 2 (kU hx53) bk) (by kernel_rfl) ?_
      obtain rfl:=osi hq51
      exact az ((),x53) (ed rfl (ed rfl (ed rfl (ed rfl (ed rfl (r6 rfl)))))) (bd (aB aM) (bd (aB aM) (bd (aB aM) (bd (aB aM) (bd (aB aM) (bd (aB aM) (bd (aB aM) bA))))))) rfl
     refine ah ?_
     obtain rfl:=osi hq51
     exact az ((),l13) (ed rfl (ed rfl (ed rfl (ed rfl (ed rfl (r6 rfl)))))) (bd (aB aM) (bd (aB aM) (bd (aB aM) (bd (aB aM) (bd (aB aM) (bd (aB aM) (bd (aB aM) bA))))))) rfl
    rintro ⟨_,l49⟩ τ hz;(try dsimp only at hz);subst q51;(try dsimp only at hq36);dsimp only [aw]
    refine de (aJ [3] (rg 119 10) [(129,pB ((x47.2||(!((x7.1.Kind == 3)&&x41)))||((x39.1.Inputs.length:Int) == 0)))] (by kernel_rfl) (cN rfl hq36 (fun hc54 hq36=>?_) fun hc54 hq36=>?_))
    ·refine ae ?_
     refine af (cB 8 [0,3,2] [130,132,133,134,135,136] [(131,pO a18 l17.length c19),(137,.agg [pS x39.1.Code,pI m37.Value,pB x47.2])] (by kernel_rfl) (an rfl (bM rfl rfl rfl rfl rfl (gr rfl jJ) rfl rfl rfl rfl (fun b55=>aa hq36 fun l57 hl57 hq36=>?_))))
     refine an rfl (bZ (enc:=Zk.enc) rfl rfl rfl rfl rfl rfl rfl rfl rfl fT (by exact aB (aB (aB (aB (aB (aB (aB aM))))))) hl57 (fun a58 c59=>?_))
     refine aG 1 [(140,pP b12 4)] (by kernel_rfl) (aP rfl rfl (al (vs:=[pO a58 l57.length c59]) rfl rfl rfl rfl rfl (dA (dA cg)) (el (el (el (el oG)))) (aF (aY (aH (gI (aj rfl ?_)))))))
     obtain rfl:=osi hq36
     exact az ((a58,c59),(l49,l42,l57)) (ed rfl (r6 rfl)) (bd (aB (aB aM)) (bd (aB (aB aM)) (bd (aB (aB (aB (aB aM)))) (bd (aB (aB (aB (aB aM)))) cI)))) rfl
    refine ah ?_
    refine bW (ak [(27,pI 0)] (by kernel_rfl) (fG hq36 fun q73 hq73 hq36=>?_))
    refine iW (Y:=(Option Addr×Nat)×((List Za)×(List Zk))) (fun ((a69,c70),(l67,l71))=>[(0,pL Zc.enc p0),(4,pL Za.enc p4),(10,pP b2 0),(12,pP b6 0),(14,pP b8 0),(16,pL eI x9),(17,pP b12 0),(18,pL Za.enc l67),(19,pL eS l42),(20,pI v15)]) (fun ((a69,c70),(l67,l71))=>[PRes.b b12 36 [pS x5.1.Code,pI x5.1.Price,pB x5.1.Obtained,pN,pO a69 l71.length c70],PRes.b b2 36 [pS ByteArray.empty,pI 0,pB false,pN,pN],PRes.b b6 76 (aI x5.1),PRes.b b8 81 (aA x7.1),PRes.row a69 l71.length c70 103 3 (List.map Zk.enc l71)]) (fun ((a69,c70),(l67,l71))=>q73=(l67,l71)) ?_ ?_
    ·refine av ?_
     refine aC (Y:=Option Addr×Nat) (S:=(List Za)×Int×(List Zk)) _ hq73 (fun (a65,c66) (l61,v62,l64)=>[(0,pL Zc.enc p0),(4,pL Za.enc p4),(10,pP b2 0),(12,pP b6 0),(14,pP b8 0),(16,pL eI x9),(17,pP b12 0),(18,pL Za.enc l61),(19,pL eS l42),(20,pI v15),(21,pP b38 0),(22,pP b40 0),(27,pI v62)]) (fun (a65,c66) (l61,v62,l64)=>[PRes.b b12 36 [pS x5.1.Code,pI x5.1.Price,pB x5.1.Obtained,pN,pO a65 l64.length c66],PRes.b b2 36 [pS ByteArray.empty,pI 0,pB false,pN,pN],PRes.b b38 78 [pI m37.Product,pI m37.Value],PRes.b b40 76 (aI x39.1),PRes.b b6 76 (aI x5.1),PRes.b b8 81 (aA x7.1),PRes.row a65 l64.length c66 103 3 (List.map Zk.enc l64)]) (a18,c19) (ed rfl (ed rfl (ed rfl (ed rfl (r6 rfl))))) (bd aM zs6) ?_
     rintro ⟨a65,c66⟩ ⟨l61,v62,l64⟩ o τ hb72;(try dsimp only at hb72);dsimp only [aw]
     refine de (aJ [3] [141,142,143,144] [(145,pB (decide (v62<(x39.1.Inputs.length:Int))))] (by kernel_rfl) (cN rfl hb72 (fun hc74 hb72=>?_) fun hc74 hb72=>?_))
     ·refine ah ?_
      refine dG (aa hb72 fun m75 hm75 hb72=>aa hb72 fun x76 hx76 hb72=>af (aX 11 [3] ((rg 149 8)++[148]) [(157,.agg (aI x76.1)),(158,pB x76.2)] (cG 4 Zh.enc hm75 (bh 7 (i5 hx76) bk)) (by kernel_rfl) (an rfl (aK (cs:=[pI 0,pS ByteArray.empty,pS ByteArray.empty,pI 0,pB false,pN,pN]) rfl rfl rfl rfl (fun b77=>aP rfl rfl (al (vs:=(aI x76.1)) rfl rfl rfl rfl rfl cg nf (aZ [29] (by kernel_rfl) (bW (bi (ρd:=[]) [(0,0),(1,0),(2,0),(3,0),(4,0),(5,0),(6,0),(7,0),(8,0),(9,0),(10,0),(11,0),(12,0),(13,1),(14,0),(15,0),(16,0),(17,0),(18,0)] _ (List.Perm.refl _) (by kernel_rfl) rfl (aa hb72 fun m78 hm78 hb72=>aa hb72 fun x79 hx79 hb72=>bt 19 [3,4,4] ((rg 160 14)++[159,174,175]) [(30,pU x79.1),(31,pI x79.2)] (cG 6 Zh.enc hm78 (bh 13 (tz hx79) bk)) (by kernel_rfl) (bx (bW (ak [(32,pI 1000000000000)] (by kernel_rfl) (co (ai (rg 176 5) [(181,pB ((x79.2 == 0)&&(decide (x79.1<1000000000000))))] (by kernel_rfl) (fG hb72 fun q82 hq82 hb72=>?_))))))))))))))))
      refine aq (Y:=Unit×Int) (fun (_,v80)=>[(0,pL Zc.enc p0),(4,pL Za.enc p4),(10,pP b2 0),(12,pP b6 0),(14,pP b8 0),(16,pL eI x9),(17,pP b12 0),(18,pL Za.enc l61),(19,pL eS l42),(20,pI v15),(21,pP b38 0),(22,pP b40 0),(27,pI v62),(28,pP b77 0),(32,pI v80)]) (fun (_,v80)=>[PRes.b b12 36 [pS x5.1.Code,pI x5.1.Price,pB x5.1.Obtained,pN,pO a65 l64.length c66],PRes.b b2 36 [pS ByteArray.empty,pI 0,pB false,pN,pN],PRes.b b38 78 [pI m37.Product,pI m37.Value],PRes.b b40 76 (aI x39.1),PRes.b b6 76 (aI x5.1),PRes.b b77 76 (aI x76.1),PRes.b b8 81 (aA x7.1),PRes.row a65 l64.length c66 103 3 (List.map Zk.enc l64)]) (fun (_,v80)=>q82=v80) ?_ ?_
      ·skip
       refine ki rfl hq82 (fun hc83 hq82=>?_) fun hc83 hq82=>?_
       ·refine ai [182,183] [(32,pI (IntKind.i64.wrap x79.1))] (by kernel_rfl) ?_
        obtain rfl:=osi hq82
        exact az ((),(IntKind.i64.wrap x79.1)) (ed rfl (ed rfl (ed rfl (ed rfl (ed rfl (ed rfl (r6 rfl))))))) (bd (aB aM) (bd (aB aM) (bd (aB aM) (bd (aB aM) (bd (aB aM) BB))))) rfl
       refine ah ?_
       obtain rfl:=osi hq82
       exact az ((),1000000000000) (ed rfl (ed rfl (ed rfl (ed rfl (ed rfl (ed rfl (r6 rfl))))))) (bd (aB aM) (bd (aB aM) (bd (aB aM) (bd (aB aM) (bd (aB aM) BB))))) rfl
      rintro ⟨_,v80⟩ τ hz;(try dsimp only at hz);subst q82;(try dsimp only at hb72);dsimp only [aw]
      refine ae (aa hb72 fun x84 hx84 hb72=>af (aX 8 [5] ((rg 185 5)++[184]) [(190,.agg [pI x84.1.Product,pI x84.1.Agreement]),(191,pB x84.2)] (bh 4 (nJ hx84) bk) (by kernel_rfl) (an rfl (aK (cs:=[pI 0,pI 0]) rfl rfl rfl rfl (fun b85=>aP rfl rfl (al (vs:=[pI x84.1.Product,pI x84.1.Agreement]) rfl rfl rfl rfl rfl cg rZ (aL [(34,pB x84.2)] (by kernel_rfl) (co (ak [(192,pB x84.2)] (by kernel_rfl) (fG hb72 fun q88 hq88 hb72=>?_))))))))))
      refine aq (Y:=Unit×((List Za))) (fun (_,l86)=>[(0,pL Zc.enc p0),(4,pL Za.enc p4),(10,pP b2 0),(12,pP b6 0),(14,pP b8 0),(16,pL eI x9),(17,pP b12 0),(18,pL Za.enc l86),(19,pL eS l42),(20,pI v15),(21,pP b38 0),(22,pP b40 0),(27,pI v62),(28,pP b77 0),(32,pI v80),(34,pB x84.2)]) (fun (_,l86)=>[PRes.b b12 36 [pS x5.1.Code,pI x5.1.Price,pB x5.1.Obtained,pN,pO a65 l64.length c66],PRes.b b2 36 [pS ByteArray.empty,pI 0,pB false,pN,pN],PRes.b b38 78 [pI m37.Product,pI m37.Value],PRes.b b40 76 (aI x39.1),PRes.b b6 76 (aI x5.1),PRes.b b77 76 (aI x76.1),PRes.b b8 81 (aA x7.1),PRes.row a65 l64.length c66 103 3 (List.map Zk.enc l64)]) (fun (_,l86)=>q88=l86) ?_ ?_
      ·skip
       refine ki rfl hq88 (fun hc89 hq88=>?_) fun hc89 hq88=>?_
       ·refine aa hq88 ?_;clear hq88;intro x90 hx90 hq88
        refine ap [0] [193,194,195] [(18,pL Za.enc x90)] (bh 2 (kU hx90) bk) (by kernel_rfl) ?_
        obtain rfl:=osi hq88
        exact az ((),x90) (ed rfl (ed rfl (ed rfl (ed rfl (ed rfl (ed rfl (ed rfl (r6 rfl)))))))) (bd (aB aM) (bd (aB aM) (bd (aB aM) (bd (aB aM) (bd (aB aM) (bd (aB aM) (bd (aB aM) (bd (aB aM) bA)))))))) rfl
       refine ah ?_
       obtain rfl:=osi hq88
       exact az ((),l61) (ed rfl (ed rfl (ed rfl (ed rfl (ed rfl (ed rfl (ed rfl (r6 rfl)))))))) (bd (aB aM) (bd (aB aM) (bd (aB aM) (bd (aB aM) (bd (aB aM) (bd (aB aM) (bd (aB aM) (bd (aB aM) bA)))))))) rfl
      rintro ⟨_,l86⟩ τ hz;(try dsimp only at hz);subst q88;(try dsimp only at hb72);dsimp only [aw]
      refine af (cB 7 [0,5] [196,198,199,200,201] [(197,pO a65 l64.length c66),(202,.agg [pS x76.1.Code,pI v80,pB x84.2])] (by kernel_rfl) (an rfl (bM rfl rfl rfl rfl rfl (gr rfl jJ) rfl rfl rfl rfl (fun b91=>aa hb72 fun l93 hl93 hb72=>?_))))
      refine an rfl (bZ (enc:=Zk.enc) rfl rfl rfl rfl rfl rfl rfl rfl rfl fT (by exact aB (aB (aB (aB (aB (aB (aB (aB aM)))))))) hl93 (fun a94 c95=>?_))
      refine aG 1 [(205,pP b12 4)] (by kernel_rfl) (aP rfl rfl (al (vs:=[pO a94 l93.length c95]) rfl rfl rfl rfl rfl (dA (dA cg)) (el (el (el (el oG)))) (aF (dI (ai [146,147] [(27,pI (IntKind.i64.wrap (v62+1)))] (by kernel_rfl) ?_)))))
      exact aU hb72 (a94,c95) (ed rfl (ed rfl (ed rfl (ed rfl (r6 rfl))))) (bd (aB (aB aM)) (bd (aB (aB aM)) (bd (aB (aB aM)) (bd (aB (aB aM)) (bd (aB (aB aM)) (bd (aB (aB (aB aM))) cI))))))
     refine aH ?_
     refine cj hb72 (fun ht=>aj rfl ?_)
     exact gK ((a65,c66),(l61,l64)) (ed rfl (r6 rfl)) (bd aM (bd aM (bd (aB (aB aM)) (bd (aB (aB aM)) (bd (aB (aB aM)) bA))))) ht.symm
    rintro ⟨⟨a69,c70⟩,⟨l67,l71⟩⟩ τ ρ1 hsub97 hz;(try dsimp only at hz hsub97);subst q73;(try dsimp only at hq36);dsimp only [aw]
    refine aD ?_
    obtain rfl:=osi hq36
    exact az ((a69,c70),(l67,l42,l71)) (ed rfl (r6 rfl)) (PSub.trans zs5 hsub97) rfl
   rintro ⟨⟨a33,c34⟩,⟨l30,l31,l35⟩⟩ τ hz;(try dsimp only at hz);subst q36;(try dsimp only at hb26);dsimp only [aw]
   refine ai [78,79] [(20,pI (IntKind.i64.wrap (v15+1)))] (by kernel_rfl) ?_
   exact aU hb26 (a33,c34) (ed rfl (r6 rfl)) zs5
  refine aH ?_
  refine cj hb26 (fun ht=>aj rfl ?_)
  exact az ((a18,c19),(l13,l14,l17)) (iQ rfl) (bd aM (bd aM (bd (aB (aB aM)) bA))) ht.symm
 rintro ⟨⟨a23,c24⟩,⟨l20,l21,l25⟩⟩ τ hz;(try dsimp only at hz);subst q27;(try dsimp only at h);dsimp only [aw]
 refine ae (aa h fun l98 hl98 h=>af (aX 6 [] [206,207,208,209] [(210,pL eS l98),(211,pP b12 3)] (vI 4 eS 1 (fun _=>rfl) hl98 bk) (by kernel_rfl) (aP rfl rfl (al (vs:=[pL eS l98]) rfl rfl rfl rfl rfl cg (el (el (el oG))) (aF (bW (af ?_)))))))
 refine lU (css:=List.map Zk.enc l25) (a:=a23) (by exact aB (aB aM)) ?_
 refine jv (k:=4) (enc:=Zk.enc) (xs:=l25) (b:=b12) (a:=a23) rfl fT (dA cg) (gz 2 [1] [(212,.agg [pS x5.1.Code,pI x5.1.Price,pB x5.1.Obtained,pL eS l98,pL Zk.enc l25]),(213,pL Za.enc l20)] (by kernel_rfl) (aP rfl rfl (al (vs:=[pS x5.1.Code,pI x5.1.Price,pB x5.1.Obtained,pL eS l98,pL Zk.enc l25]) rfl rfl rfl rfl rfl (dA (dA cg)) Fx (aL [(11,pL Za.enc l20)] (by kernel_rfl) (cW ?_)))))
 obtain rfl:=osi h
 exact aN (cF (du rfl vH rfl) (aQ rfl)) bA ⟨rfl,rfl⟩
def fp (p0:(List Za)) (p1:(List Za)):Option Bool:=cond ((p0.length:Int) != (p1.length:Int)) (some false) ((aW (S:=Int) (T:=(Unit)⊕(_)) (fun v2=>cond (decide (v2<(p0.length:Int))) ((idx p0 v2).bind fun m6=>(idx p1 v2).bind fun m7=>cond (!(Za.eqb m6 m7)) (some (.inr (.inr false))) (some (.inl (IntKind.i64.wrap (v2+1))))) (some (.inr (.inl ())))) FUEL 0).bind fun q=>match q with | .inl _=>some true | .inr e=>some e)
theorem lN {p0:(List Za)} {p1:(List Za)} {r:Bool}  (h:fp p0 p1=some r):PF 20 [pL Za.enc p0,pL Za.enc p1] (pB r):=by
 unfold fp at h
 refine bc ?_
 refine di Tryz.func20 rfl Tryz.ntmps20 Tryz.results20 rfl (aS [4] (by kernel_rfl) (co (bL [6,7,8,9] [(10,pB ((p0.length:Int) != (p1.length:Int)))] (by kernel_rfl) rfl h (fun hc1 h=>?_) fun hc1 h=>?_)))
 ·refine ae ?_
  refine cU [(4,pB false)] (by kernel_rfl) (am ?_)
  exact zz r h rfl
 refine ah ?_
 refine co (ak [(5,pI 0)] (by kernel_rfl) (fG h fun q4 hq4 h=>?_))
 refine aq (Y:=Unit×Unit) (fun (_,_)=>[]) (fun (_,_)=>[]) (fun (_,_)=>q4=Sum.inl ()) ?_ ?_
 ·refine av ?_
  refine aC (Y:=Unit) (S:=Int) _ hq4 (fun _ v2=>[(0,pL Za.enc p0),(1,pL Za.enc p1),(5,pI v2)]) (fun _ v2=>[]) () (nu rfl) bA ?_
  rintro _ v2 o τ hb3;(try dsimp only at hb3);dsimp only [aw]
  refine de (bL [11,12,13] [(14,pB (decide (v2<(p0.length:Int))))] (by kernel_rfl) rfl hb3 (fun hc5 hb3=>?_) fun hc5 hb3=>?_)
  ·refine ah ?_
   refine dG (bi (ρd:=[]) [(0,0),(1,0),(2,0),(3,0),(4,0),(5,0),(6,0),(7,0),(8,0)] _ (List.Perm.refl _) (by kernel_rfl) rfl (aa hb3 fun m6 hm6 hb3=>aa hb3 fun m7 hm7 hb3=>bt 9 [] (rg 17 8) [(25,pB (!(Za.eqb m6 m7)))] (cG 2 Za.enc hm6 (cG 6 Za.enc hm7 (CF 8 Za.eqok28 bk))) (by kernel_rfl) (bx (cN rfl hb3 (fun hc8 hb3=>?_) fun hc8 hb3=>?_))))
   ·refine ae ?_
    refine cU [(4,pB false)] (by kernel_rfl) (dO ?_)
    refine au hb3 (fun ht=>?_);subst ht
    refine cO ?_
    exact zz r h rfl
   refine ah ?_
   refine dI (ai [15,16] [(5,pI (IntKind.i64.wrap (v2+1)))] (by kernel_rfl) ?_)
   exact aU hb3 () (nu rfl) bA
  refine aH ?_
  refine cj hb3 (fun ht=>aj rfl ?_)
  exact az ((),()) oF bA ht.symm
 rintro ⟨_,_⟩ τ hz;(try dsimp only at hz);subst q4;(try dsimp only at h);dsimp only [aw]
 refine ae (cU [(4,pB true)] (by kernel_rfl) ?_)
 exact zz r h rfl
def eT (p0:Int):Option Bool:=some ((decide (65≤p0))&&(decide (p0≤90)))
theorem jB {p0:Int} {r:Bool}  (h:eT p0=some r):PF 120 [pY p0] (pB r):=by
 unfold eT at h
 refine bc ?_
 refine di Tryz.func120 rfl Tryz.ntmps120 Tryz.results120 rfl (aS [2] (by kernel_rfl) (bW (ai (rg 3 6) [(2,pB ((decide (65≤p0))&&(decide (p0≤90))))] (by kernel_rfl) (cW ?_))))
 exact zz r h rfl
def bU (p0:ByteArray):Option Bool:=(gd ((p0.size:Int) == 2) (idx p0.data.toList 0)).bind fun c1=>(gd ((p0.size:Int) == 2) (eT (c1.toNat:Int))).bind fun x2=>(gd (((p0.size:Int) == 2)&&x2) (idx p0.data.toList 1)).bind fun c3=>(gd (((p0.size:Int) == 2)&&x2) (eT (c3.toNat:Int))).bind fun x4=>some ((((p0.size:Int) == 2)&&x2)&&x4)
theorem fB {p0:ByteArray} {r:Bool}  (h:bU p0=some r):PF 72 [pS p0] (pB r):=by
 unfold bU at h
 refine bc ?_
 refine di Tryz.func72 rfl Tryz.ntmps72 Tryz.results72 rfl (aS [2] (by kernel_rfl) (dc h fun c1 hc1 h=>aa h fun x2 hx2 h=>aa h fun c3 hc3 h=>aa h fun x4 hx4 h=>ap [] (rg 3 13) [(2,pB ((((p0.size:Int) == 2)&&x2)&&x4))] (sV 5 (cA hc1) (ee 6 (fun hc=>jB (cA hx2 hc)) (sV 10 (cA hc3) (ee 11 (fun hc=>jB (cA hx4 hc)) bk)))) (by kernel_rfl) (cW ?_)))
 exact zz r h rfl
def dK (p0:(List ByteArray)):Option Bool:=(aW (S:=Int) (T:=(Unit)⊕(_)) (fun v1=>cond (decide (v1<(p0.length:Int))) ((idx p0 v1).bind fun m5=>(bU m5).bind fun x6=>(gd ((!(!x6))&&(decide (0<v1))) (idx p0 (IntKind.i64.wrap (v1 - 1)))).bind fun m7=>cond ((!x6)||((decide (0<v1))&&(Op.bytesLess m5.toList m7.toList||decide (m5=m7)))) (some (.inr (.inr false))) (some (.inl (IntKind.i64.wrap (v1+1))))) (some (.inr (.inl ())))) FUEL 0).bind fun q=>match q with | .inl _=>some true | .inr e=>some e
theorem mJ {p0:(List ByteArray)} {r:Bool}  (h:dK p0=some r):PF 111 [pL eS p0] (pB r):=by
 unfold dK at h
 refine bc ?_
 refine di Tryz.func111 rfl Tryz.ntmps111 Tryz.results111 rfl (aS [2] (by kernel_rfl) (co (ak [(5,pL eS p0),(6,pI (p0.length:Int)),(7,pI 0)] (by kernel_rfl) (fG h fun q3 hq3 h=>?_))))
 refine aq (Y:=Unit×Unit) (fun (_,_)=>[]) (fun (_,_)=>[]) (fun (_,_)=>q3=Sum.inl ()) ?_ ?_
 ·refine av ?_
  refine aC (Y:=Unit) (S:=Int) _ hq3 (fun _ v1=>[(0,pL eS p0),(5,pL eS p0),(6,pI (p0.length:Int)),(7,pI v1)]) (fun _ v1=>[]) () (iQ rfl) bA ?_
  rintro _ v1 o τ hb2;(try dsimp only at hb2);dsimp only [aw]
  refine ae (ak [(8,pB (decide (v1<(p0.length:Int))))] (by kernel_rfl) (bW (ki rfl hb2 (fun hc4 hb2=>?_) fun hc4 hb2=>?_)))
  ·refine ah ?_
   refine dG (aa hb2 fun m5 hm5 hb2=>ap [] [9,10,11] [(3,pI v1),(4,pS m5)] (cG 1 eS hm5 bk) (by kernel_rfl) (dc hb2 fun x6 hx6 hb2=>aa hb2 fun m7 hm7 hb2=>ap [] (rg 12 15) [(27,pB ((!x6)||((decide (0<v1))&&(Op.bytesLess m5.toList m7.toList||decide (m5=m7)))))] (bh 1 (fB hx6) (eQ 11 eS (cA hm7) bk)) (by kernel_rfl) (cN rfl hb2 (fun hc8 hb2=>?_) fun hc8 hb2=>?_)))
   ·refine ae ?_
    refine cU [(2,pB false)] (by kernel_rfl) (dO ?_)
    refine au hb2 (fun ht=>?_);subst ht
    refine cO ?_
    exact zz r h rfl
   refine ah ?_
   refine dI (ai [28] [(7,pI (IntKind.i64.wrap (v1+1)))] (by kernel_rfl) ?_)
   exact aU hb2 () (iQ rfl) bA
  refine aH ?_
  refine cj hb2 (fun ht=>aj rfl ?_)
  exact az ((),()) oF bA ht.symm
 rintro ⟨_,_⟩ τ hz;(try dsimp only at hz);subst q3;(try dsimp only at h);dsimp only [aw]
 refine ae (cU [(2,pB true)] (by kernel_rfl) ?_)
 exact zz r h rfl
def eN (p0:ByteArray):Option Bool:=(gd ((p0.size:Int) == 2) (idx p0.data.toList 0)).bind fun c1=>(gd (((p0.size:Int) == 2)&&(decide (65≤(c1.toNat:Int)))) (idx p0.data.toList 0)).bind fun c2=>(gd ((((p0.size:Int) == 2)&&(decide (65≤(c1.toNat:Int))))&&(decide ((c2.toNat:Int)≤90))) (idx p0.data.toList 1)).bind fun c3=>(gd (((((p0.size:Int) == 2)&&(decide (65≤(c1.toNat:Int))))&&(decide ((c2.toNat:Int)≤90)))&&(decide (65≤(c3.toNat:Int)))) (idx p0.data.toList 1)).bind fun c4=>some ((((((p0.size:Int) == 2)&&(decide (65≤(c1.toNat:Int))))&&(decide ((c2.toNat:Int)≤90)))&&(decide (65≤(c3.toNat:Int))))&&(decide ((c4.toNat:Int)≤90)))
theorem kH {p0:ByteArray} {r:Bool}  (h:eN p0=some r):PF 67 [pS p0] (pB r):=by
 unfold eN at h
 refine bc ?_
 refine di Tryz.func67 rfl Tryz.ntmps67 Tryz.results67 rfl (aS [2] (by kernel_rfl) (dc h fun c1 hc1 h=>aa h fun c2 hc2 h=>aa h fun c3 hc3 h=>aa h fun c4 hc4 h=>ap [] (rg 3 23) [(2,pB ((((((p0.size:Int) == 2)&&(decide (65≤(c1.toNat:Int))))&&(decide ((c2.toNat:Int)≤90)))&&(decide (65≤(c3.toNat:Int))))&&(decide ((c4.toNat:Int)≤90))))] (sV 5 (cA hc1) (sV 10 (cA hc2) (sV 15 (cA hc3) (sV 20 (cA hc4) bk)))) (by kernel_rfl) (cW ?_)))
 exact zz r h rfl
def gg (p0:ByteArray):Option Int:=(aW (S:=Int) (T:=(Unit)⊕(_)) (fun v1=>cond (decide (v1<(p0.size:Int))) ((idx p0.data.toList v1).bind fun c5=>(gd (!(decide ((c5.toNat:Int)<48))) (idx p0.data.toList v1)).bind fun c6=>cond ((decide ((c5.toNat:Int)<48))||(decide (57<(c6.toNat:Int)))) (some (.inr (.inr (0:Int)))) (some (.inl (IntKind.i64.wrap (v1+1))))) (some (.inr (.inl ())))) FUEL 0).bind fun q=>match q with | .inl _=>cond ((decide (8<(p0.size:Int)))||((Int.tmod (p0.size:Int) 2) == 1)) (some (0:Int)) (some (p0.size:Int)) | .inr e=>some e
theorem mK {p0:ByteArray} {r:Int}  (h:gg p0=some r):PF 113 [pS p0] (pI r):=by
 unfold gg at h
 refine bc ?_
 refine di Tryz.func113 rfl Tryz.ntmps113 Tryz.results113 rfl (aS [2] (by kernel_rfl) (co (ak [(3,pI 0)] (by kernel_rfl) (fG h fun q3 hq3 h=>?_))))
 refine aq (Y:=Unit×Unit) (fun (_,_)=>[(0,pS p0)]) (fun (_,_)=>[]) (fun (_,_)=>q3=Sum.inl ()) ?_ ?_
 ·refine av ?_
  refine aC (Y:=Unit) (S:=Int) _ hq3 (fun _ v1=>[(0,pS p0),(3,pI v1)]) (fun _ v1=>[]) () (mn rfl) bA ?_
  rintro _ v1 o τ hb2;(try dsimp only at hb2);dsimp only [aw]
  refine de (bL [4,5,6] [(7,pB (decide (v1<(p0.size:Int))))] (by kernel_rfl) rfl hb2 (fun hc4 hb2=>?_) fun hc4 hb2=>?_)
  ·refine ah ?_
   refine dG (aa hb2 fun c5 hc5 hb2=>aa hb2 fun c6 hc6 hb2=>ap [] (rg 10 9) [(19,pB ((decide ((c5.toNat:Int)<48))||(decide (57<(c6.toNat:Int)))))] (fosx 2 hc5 (sV 7 (cA hc6) bk)) (by kernel_rfl) (cN rfl hb2 (fun hc7 hb2=>?_) fun hc7 hb2=>?_))
   ·refine ae ?_
    refine cU [(2,pI 0)] (by kernel_rfl) (dO ?_)
    refine au hb2 (fun ht=>?_);subst ht
    refine cO ?_
    exact zz r h rfl
   refine ah ?_
   refine dI (ai [8,9] [(3,pI (IntKind.i64.wrap (v1+1)))] (by kernel_rfl) ?_)
   exact aU hb2 () (mn rfl) bA
  refine aH ?_
  refine cj hb2 (fun ht=>aj rfl ?_)
  exact az ((),()) (rq rfl) bA ht.symm
 rintro ⟨_,_⟩ τ hz;(try dsimp only at hz);subst q3;(try dsimp only at h);dsimp only [aw]
 refine de (bL (rg 20 8) [(28,pB ((decide (8<(p0.size:Int)))||((Int.tmod (p0.size:Int) 2) == 1)))] (by kernel_rfl) rfl h (fun hc8 h=>?_) fun hc8 h=>?_)
 ·refine ae ?_
  refine cU [(2,pI 0)] (by kernel_rfl) (am ?_)
  exact zz r h rfl
 refine ah ?_
 refine bW (ai [29,30] [(2,pI (p0.size:Int))] (by kernel_rfl) (cW ?_))
 exact zz r h rfl
def kI (p0:ByteArray):Option Bool:=(aW (S:=Int) (T:=(Unit)⊕(_)) (fun v1=>cond (decide (v1<(p0.size:Int))) ((idx p0.data.toList v1).bind fun c5=>(gd (!(decide ((c5.toNat:Int)<97))) (idx p0.data.toList v1)).bind fun c6=>cond ((decide ((c5.toNat:Int)<97))||(decide (122<(c6.toNat:Int)))) (some (.inr (.inr false))) (some (.inl (IntKind.i64.wrap (v1+1))))) (some (.inr (.inl ())))) FUEL 0).bind fun q=>match q with | .inl _=>some ((decide (1≤(p0.size:Int)))&&(decide ((p0.size:Int)≤12))) | .inr e=>some e
theorem qH {p0:ByteArray} {r:Bool}  (h:kI p0=some r):PF 157 [pS p0] (pB r):=by
 unfold kI at h
 refine bc ?_
 refine di Tryz.func157 rfl Tryz.ntmps157 Tryz.results157 rfl (aS [2] (by kernel_rfl) (co (ak [(3,pI 0)] (by kernel_rfl) (fG h fun q3 hq3 h=>?_))))
 refine aq (Y:=Unit×Unit) (fun (_,_)=>[(0,pS p0)]) (fun (_,_)=>[]) (fun (_,_)=>q3=Sum.inl ()) ?_ ?_
 ·refine av ?_
  refine aC (Y:=Unit) (S:=Int) _ hq3 (fun _ v1=>[(0,pS p0),(3,pI v1)]) (fun _ v1=>[]) () (mn rfl) bA ?_
  rintro _ v1 o τ hb2;(try dsimp only at hb2);dsimp only [aw]
  refine de (bL [4,5,6] [(7,pB (decide (v1<(p0.size:Int))))] (by kernel_rfl) rfl hb2 (fun hc4 hb2=>?_) fun hc4 hb2=>?_)
  ·refine ah ?_
   refine dG (aa hb2 fun c5 hc5 hb2=>aa hb2 fun c6 hc6 hb2=>ap [] (rg 10 9) [(19,pB ((decide ((c5.toNat:Int)<97))||(decide (122<(c6.toNat:Int)))))] (fosx 2 hc5 (sV 7 (cA hc6) bk)) (by kernel_rfl) (cN rfl hb2 (fun hc7 hb2=>?_) fun hc7 hb2=>?_))
   ·refine ae ?_
    refine cU [(2,pB false)] (by kernel_rfl) (dO ?_)
    refine au hb2 (fun ht=>?_);subst ht
    refine cO ?_
    exact zz r h rfl
   refine ah ?_
   refine dI (ai [8,9] [(3,pI (IntKind.i64.wrap (v1+1)))] (by kernel_rfl) ?_)
   exact aU hb2 () (mn rfl) bA
  refine aH ?_
  refine cj hb2 (fun ht=>aj rfl ?_)
  exact az ((),()) (rq rfl) bA ht.symm
 rintro ⟨_,_⟩ τ hz;(try dsimp only at hz);subst q3;(try dsimp only at h);dsimp only [aw]
 refine ae (ai (rg 20 8) [(2,pB ((decide (1≤(p0.size:Int)))&&(decide ((p0.size:Int)≤12))))] (by kernel_rfl) (cW ?_))
 exact zz r h rfl
def lm (p0:(List ByteArray)):Option Bool:=(aW (S:=Int) (T:=(Unit)⊕(_)) (fun v1=>cond (decide (v1<(p0.length:Int))) ((idx p0 v1).bind fun m5=>(kI m5).bind fun x6=>(gd ((!(!x6))&&(decide (0<v1))) (idx p0 (IntKind.i64.wrap (v1 - 1)))).bind fun m7=>(gd ((!(!x6))&&(decide (0<v1))) (idx p0 v1)).bind fun m8=>cond ((!x6)||((decide (0<v1))&&(!Op.bytesLess m7.toList m8.toList))) (some (.inr (.inr false))) (some (.inl (IntKind.i64.wrap (v1+1))))) (some (.inr (.inl ())))) FUEL 0).bind fun q=>match q with | .inl _=>some (decide ((p0.length:Int)≤8)) | .inr e=>some e
theorem uO {p0:(List ByteArray)} {r:Bool}  (h:lm p0=some r):PF 114 [pL eS p0] (pB r):=by
 unfold lm at h
 refine bc ?_
 refine di Tryz.func114 rfl Tryz.ntmps114 Tryz.results114 rfl (aS [2] (by kernel_rfl) (co (ak [(3,pI 0)] (by kernel_rfl) (fG h fun q3 hq3 h=>?_))))
 refine aq (Y:=Unit×Unit) (fun (_,_)=>[(0,pL eS p0)]) (fun (_,_)=>[]) (fun (_,_)=>q3=Sum.inl ()) ?_ ?_
 ·refine av ?_
  refine aC (Y:=Unit) (S:=Int) _ hq3 (fun _ v1=>[(0,pL eS p0),(3,pI v1)]) (fun _ v1=>[]) () (mn rfl) bA ?_
  rintro _ v1 o τ hb2;(try dsimp only at hb2);dsimp only [aw]
  refine de (bL [4,5,6] [(7,pB (decide (v1<(p0.length:Int))))] (by kernel_rfl) rfl hb2 (fun hc4 hb2=>?_) fun hc4 hb2=>?_)
  ·refine ah ?_
   refine dG (bi (ρd:=[]) [(0,0),(1,0),(2,0),(3,0),(4,1),(5,0),(6,0),(7,0),(8,0),(9,0),(10,0),(11,0),(12,0),(13,0),(14,0),(15,0),(16,0),(17,0),(18,0),(19,0),(20,0),(21,0)] _ (List.Perm.refl _) (by kernel_rfl) rfl (aa hb2 fun m5 hm5 hb2=>aa hb2 fun x6 hx6 hb2=>aa hb2 fun m7 hm7 hb2=>aa hb2 fun m8 hm8 hb2=>bt 22 [] (rg 10 21) [(31,pB ((!x6)||((decide (0<v1))&&(!Op.bytesLess m7.toList m8.toList))))] (cG 2 eS hm5 (bh 4 (qH hx6) (eQ 13 eS (cA hm7) (eQ 17 eS (cA hm8) bk)))) (by kernel_rfl) (bx (cN rfl hb2 (fun hc9 hb2=>?_) fun hc9 hb2=>?_))))
   ·refine ae ?_
    refine cU [(2,pB false)] (by kernel_rfl) (dO ?_)
    refine au hb2 (fun ht=>?_);subst ht
    refine cO ?_
    exact zz r h rfl
   refine ah ?_
   refine dI (ai [8,9] [(3,pI (IntKind.i64.wrap (v1+1)))] (by kernel_rfl) ?_)
   exact aU hb2 () (mn rfl) bA
  refine aH ?_
  refine cj hb2 (fun ht=>aj rfl ?_)
  exact az ((),()) (rq rfl) bA ht.symm
 rintro ⟨_,_⟩ τ hz;(try dsimp only at hz);subst q3;(try dsimp only at h);dsimp only [aw]
 refine ae (ai [32,33,34] [(2,pB (decide ((p0.length:Int)≤8)))] (by kernel_rfl) (cW ?_))
 exact zz r h rfl
def kJ (p0:(List Zc)):Option Int:=cond (decide (64<(p0.length:Int))) (some (8:Int)) ((aW (S:=Int) (T:=(Unit)⊕(_)) (fun v2=>cond (decide (v2<(p0.length:Int))) ((idx p0 v2).bind fun m6=>cond ((decide (m6.ID<1))||(decide (1000000<m6.ID))) (some (.inr (.inr (2:Int)))) ((gd (decide (0<v2)) (idx p0 (IntKind.i64.wrap (v2 - 1)))).bind fun m9=>cond ((decide (0<v2))&&(decide (m6.ID≤m9.ID))) (some (.inr (.inr (9:Int)))) ((gg m6.Code).bind fun x11=>(gd (!(decide (x11<6))) (eN m6.Country)).bind fun x12=>(gd (!((decide (x11<6))||(!x12))) (lm m6.Processes)).bind fun x13=>cond (((decide (x11<6))||(!x12))||(!x13)) (some (.inr (.inr (1:Int)))) (cond ((decide (m6.Price<1))||(decide (1000000000000<m6.Price))) (some (.inr (.inr (2:Int)))) (cond (decide (8<(m6.Inputs.length:Int))) (some (.inr (.inr (8:Int)))) (cond (m6.Obtained&&(decide (0<(m6.Inputs.length:Int)))) (some (.inr (.inr (1:Int)))) ((aW (S:=Int) (T:=(Unit)⊕(_)) (fun v18=>cond (decide (v18<(m6.Inputs.length:Int))) ((gd (decide (0<v18)) (idx m6.Inputs v18)).bind fun m22=>(gd (decide (0<v18)) (idx m6.Inputs (IntKind.i64.wrap (v18 - 1)))).bind fun m23=>cond ((decide (0<v18))&&(decide (m22.Product≤m23.Product))) (some (.inr (.inr (.inr (.inr (9:Int)))))) ((idx m6.Inputs v18).bind fun m25=>(fA p0 m25.Product).bind fun x26=>cond (!x26.2) (some (.inr (.inr (.inr (.inr (6:Int)))))) ((idx m6.Inputs v18).bind fun m29=>(gd (!(decide (m29.Value<0))) (idx m6.Inputs v18)).bind fun m30=>cond ((decide (m29.Value<0))||(decide (1000000000000<m30.Value))) (some (.inr (.inr (.inr (.inr (2:Int)))))) (some (.inl (IntKind.i64.wrap (v18+1))))))) (some (.inr (.inl ())))) FUEL 0).bind fun q=>match q with | .inl _=>some (.inl (IntKind.i64.wrap (v2+1))) | .inr e=>some e))))))) (some (.inr (.inl ())))) FUEL 0).bind fun q=>match q with | .inl _=>some (0:Int) | .inr e=>some e)
theorem vQ {p0:(List Zc)} {r:Int}  (h:kJ p0=some r):PF 65 [pL Zc.enc p0] (pI r):=by
 unfold kJ at h
 refine bc ?_
 refine di Tryz.func65 rfl Tryz.ntmps65 Tryz.results65 rfl (aS [2] (by kernel_rfl) (co (bL [8,9] [(10,pB (decide (64<(p0.length:Int))))] (by kernel_rfl) rfl h (fun hc1 h=>?_) fun hc1 h=>?_)))
 ·refine ae ?_
  refine cU [(2,pI 8)] (by kernel_rfl) (am ?_)
  exact zz r h rfl
 refine ah ?_
 refine co (ak [(3,pI 0)] (by kernel_rfl) (fG h fun q4 hq4 h=>?_))
 refine aq (Y:=Unit×Unit) (fun (_,_)=>[]) (fun (_,_)=>[]) (fun (_,_)=>q4=Sum.inl ()) ?_ ?_
 ·refine av ?_
  refine aC (Y:=Unit) (S:=Int) _ hq4 (fun _ v2=>[(0,pL Zc.enc p0),(3,pI v2)]) (fun _ v2=>[]) () (mn rfl) bA ?_
  rintro _ v2 o τ hb3;(try dsimp only at hb3);dsimp only [aw]
  refine de (bL [11,12,13] [(14,pB (decide (v2<(p0.length:Int))))] (by kernel_rfl) rfl hb3 (fun hc5 hb3=>?_) fun hc5 hb3=>?_)
  ·refine ah ?_
   refine dG (aa hb3 fun m6 hm6 hb3=>af (aX 4 [] [17,18,19] [(20,.agg (aI m6))] (cG 2 Zc.enc hm6 bk) (by kernel_rfl) (an rfl (aK (cs:=[pI 0,pS ByteArray.empty,pS ByteArray.empty,pI 0,pB false,pN,pN]) rfl rfl rfl rfl (fun b7=>aP rfl rfl (al (vs:=(aI m6)) rfl rfl rfl rfl rfl cg nf (aF (dG (aJ [0,0] (rg 22 8) [(21,pB ((decide (m6.ID<1))||(decide (1000000<m6.ID))))] (by kernel_rfl) (cN rfl hb3 (fun hc8 hb3=>?_) fun hc8 hb3=>?_))))))))))
   ·refine ae ?_
    refine cU [(2,pI 2)] (by kernel_rfl) (dO (dO ?_))
    refine au hb3 (fun ht=>?_);subst ht
    refine cO ?_
    exact zz r h rfl
   refine ae ?_
   refine bi (ρd:=[]) [(0,0),(1,0),(2,0),(3,0),(4,0),(5,0),(6,0),(7,0),(8,0),(9,0),(10,0),(11,0),(12,0),(13,0)] _ (List.Perm.refl _) (by kernel_rfl) rfl (aa hb3 fun m9 hm9 hb3=>bt 14 [0] (rg 31 13) [(30,pB ((decide (0<v2))&&(decide (m6.ID≤m9.ID))))] (eQ 8 Zc.enc (cA hm9) bk) (by kernel_rfl) (bx (cN rfl hb3 (fun hc10 hb3=>?_) fun hc10 hb3=>?_)))
   ·refine ae ?_
    refine cU [(2,pI 9)] (by kernel_rfl) (dO (dO ?_))
    refine au hb3 (fun ht=>?_);subst ht
    refine cO ?_
    exact zz r h rfl
   refine ae ?_
   refine aa hb3 fun x11 hx11 hb3=>aa hb3 fun x12 hx12 hb3=>aa hb3 fun x13 hx13 hb3=>ap [0,0,0] (rg 45 16) [(44,pB (((decide (x11<6))||(!x12))||(!x13)))] (bh 2 (mK hx11) (ee 7 (fun hc=>kH (cA hx12 hc)) (ee 13 (fun hc=>uO (cA hx13 hc)) bk))) (by kernel_rfl) (cN rfl hb3 (fun hc14 hb3=>?_) fun hc14 hb3=>?_)
   ·refine ae ?_
    refine cU [(2,pI 1)] (by kernel_rfl) (dO (dO ?_))
    refine au hb3 (fun ht=>?_);subst ht
    refine cO ?_
    exact zz r h rfl
   refine ae ?_
   refine aJ [0,0] (rg 62 8) [(61,pB ((decide (m6.Price<1))||(decide (1000000000000<m6.Price))))] (by kernel_rfl) (cN rfl hb3 (fun hc15 hb3=>?_) fun hc15 hb3=>?_)
   ·refine ae ?_
    refine cU [(2,pI 2)] (by kernel_rfl) (dO (dO ?_))
    refine au hb3 (fun ht=>?_);subst ht
    refine cO ?_
    exact zz r h rfl
   refine ae ?_
   refine aJ [0] [71,72,73,74] [(70,pB (decide (8<(m6.Inputs.length:Int))))] (by kernel_rfl) (cN rfl hb3 (fun hc16 hb3=>?_) fun hc16 hb3=>?_)
   ·refine ae ?_
    refine cU [(2,pI 8)] (by kernel_rfl) (dO (dO ?_))
    refine au hb3 (fun ht=>?_);subst ht
    refine cO ?_
    exact zz r h rfl
   refine ae ?_
   refine aJ [0,0] (rg 76 8) [(75,pB (m6.Obtained&&(decide (0<(m6.Inputs.length:Int)))))] (by kernel_rfl) (cN rfl hb3 (fun hc17 hb3=>?_) fun hc17 hb3=>?_)
   ·refine ae ?_
    refine cU [(2,pI 1)] (by kernel_rfl) (dO (dO ?_))
    refine au hb3 (fun ht=>?_);subst ht
    refine cO ?_
    exact zz r h rfl
   refine ah ?_
   refine aD (bW (ak [(5,pI 0)] (by kernel_rfl) (fG hb3 fun q20 hq20 hb3=>?_)))
   refine iW (Y:=Unit×Unit) (fun (_,_)=>[(0,pL Zc.enc p0),(3,pI v2)]) (fun (_,_)=>[]) (fun (_,_)=>q20=Sum.inl ()) ?_ ?_
   ·refine av ?_
    refine aC (Y:=Unit) (S:=Int) _ hq20 (fun _ v18=>[(0,pL Zc.enc p0),(3,pI v2),(4,pP b7 0),(5,pI v18)]) (fun _ v18=>[PRes.b b7 76 (aI m6)]) () (iQ rfl) cI ?_
    rintro _ v18 o τ hb19;(try dsimp only at hb19);dsimp only [aw]
    refine de (aJ [0] [84,85,86,87] [(88,pB (decide (v18<(m6.Inputs.length:Int))))] (by kernel_rfl) (cN rfl hb19 (fun hc21 hb19=>?_) fun hc21 hb19=>?_))
    ·refine ah ?_
     refine dG (ae (bi (ρd:=[]) [(0,0),(1,0),(2,0),(3,0),(4,0),(5,0),(6,0),(7,0),(8,0),(9,0),(10,0),(11,0),(12,0),(13,0),(14,0),(15,0),(16,0),(17,0)] _ (List.Perm.refl _) (by kernel_rfl) rfl (aa hb19 fun m22 hm22 hb19=>aa hb19 fun m23 hm23 hb19=>bt 18 [0,0] (rg 91 17) [(108,pB ((decide (0<v18))&&(decide (m22.Product≤m23.Product))))] (eQ 6 Zh.enc (cA hm22) (eQ 13 Zh.enc (cA hm23) bk)) (by kernel_rfl) (bx (cN rfl hb19 (fun hc24 hb19=>?_) fun hc24 hb19=>?_)))))
     ·refine ae ?_
      refine cU [(2,pI 9)] (by kernel_rfl) (am (dO ?_))
      refine au hb19 (fun ht=>?_);subst ht
      refine dB (gn (dO ?_))
      refine au hb3 (fun ht=>?_);subst ht
      refine cO ?_
      exact zz r h rfl
     refine ah ?_
     refine co (aa hb19 fun m25 hm25 hb19=>aa hb19 fun x26 hx26 hb19=>af (aX 11 [0] ((rg 110 8)++[109]) [(118,.agg (aI x26.1)),(119,pB x26.2)] (cG 4 Zh.enc hm25 (bh 7 (i5 hx26) bk)) (by kernel_rfl) (an rfl (aK (cs:=[pI 0,pS ByteArray.empty,pS ByteArray.empty,pI 0,pB false,pN,pN]) rfl rfl rfl rfl (fun b27=>aP rfl rfl (al (vs:=(aI x26.1)) rfl rfl rfl rfl rfl cg nf (aL [(7,pB x26.2)] (by kernel_rfl) (bW (bL [120] [(121,pB (!x26.2))] (by kernel_rfl) rfl hb19 (fun hc28 hb19=>?_) fun hc28 hb19=>?_)))))))))
     ·refine ae ?_
      refine cU [(2,pI 6)] (by kernel_rfl) (am (dO ?_))
      refine au hb19 (fun ht=>?_);subst ht
      refine dB (gn (dO ?_))
      refine au hb3 (fun ht=>?_);subst ht
      refine cO ?_
      exact zz r h rfl
     refine ah ?_
     refine dc hb19 fun m29 hm29 hb19=>aa hb19 fun m30 hm30 hb19=>ap [1,1] (rg 122 15) [(137,pB ((decide (m29.Value<0))||(decide (1000000000000<m30.Value))))] (cG 3 Zh.enc hm29 (eQ 11 Zh.enc (cA hm30) bk)) (by kernel_rfl) (cN rfl hb19 (fun hc31 hb19=>?_) fun hc31 hb19=>?_)
     ·refine ae ?_
      refine cU [(2,pI 2)] (by kernel_rfl) (dO ?_)
      refine au hb19 (fun ht=>?_);subst ht
      refine dB (gn (dO ?_))
      refine au hb3 (fun ht=>?_);subst ht
      refine cO ?_
      exact zz r h rfl
     refine ah ?_
     refine dI (ai [89,90] [(5,pI (IntKind.i64.wrap (v18+1)))] (by kernel_rfl) ?_)
     exact aU hb19 () (iQ rfl) (bd (aB aM) bA)
    refine aH ?_
    refine cj hb19 (fun ht=>aj rfl ?_)
    exact gK ((),()) (mn rfl) bA ht.symm
   rintro ⟨_,_⟩ τ ρ1 hsub32 hz;(try dsimp only at hz hsub32);subst q20;(try dsimp only at hb3);dsimp only [aw]
   refine dI (n4 hsub32 (ai [15,16] [(3,pI (IntKind.i64.wrap (v2+1)))] (by kernel_rfl) ?_))
   exact aU hb3 () (mn rfl) bA
  refine aH ?_
  refine cj hb3 (fun ht=>aj rfl ?_)
  exact az ((),()) oF bA ht.symm
 rintro ⟨_,_⟩ τ hz;(try dsimp only at hz);subst q4;(try dsimp only at h);dsimp only [aw]
 refine ae (cU [(2,pI 0)] (by kernel_rfl) ?_)
 exact zz r h rfl
def i6 (rec:Zd→Option Int) (p0:Zd):Option Int:=(aW (S:=Int×Int) (T:=(Int)) (fun (v2,v3)=>cond ((decide (v3<(p0.Args.length:Int)))&&(decide (v2≤32))) ((idx p0.Args v3).bind fun m8=>(rec m8).bind fun x9=>some (.inl ((IntKind.i64.wrap (v2+x9)),(IntKind.i64.wrap (v3+1))))) (some (.inr v2))) FUEL (1,0)).bind fun v4=>some (oP v4 33)
theorem sv {rec:Zd→Option Int} (hrec:∀ {p0:Zd} {r:Int},rec p0=some r→PF 158 [.agg (ar p0)] (pI r)) {p0:Zd} {r:Int} (h:i6 rec p0=some r):PF 158 [.agg (ar p0)] (pI r):=by
 unfold i6 at h
 refine bc ?_
 refine di Tryz.func158 rfl Tryz.ntmps158 Tryz.results158 rfl (cX rfl (bf (cs:=(ar p0)) rfl rfl (fun b1=>aZ [2] (by kernel_rfl) (bW (ak [(3,pI 1)] (by kernel_rfl) (co (ak [(4,pI 0)] (by kernel_rfl) (fG h fun q6 hq6 h=>?_))))))))
 refine aq (Y:=Unit×Int) (fun (_,v4)=>[(3,pI v4)]) (fun (_,v4)=>[]) (fun (_,v4)=>q6=v4) ?_ ?_
 ·refine av ?_
  refine aC (Y:=Unit) (S:=Int×Int) _ hq6 (fun _ (v2,v3)=>[(1,pP b1 0),(3,pI v2),(4,pI v3)]) (fun _ (v2,v3)=>[PRes.b b1 84 (ar p0)]) () (nu rfl) cI ?_
  rintro _ ⟨v2,v3⟩ o τ hb5;(try dsimp only at hb5);dsimp only [aw]
  refine de (aJ [0] (rg 5 8) [(13,pB ((decide (v3<(p0.Args.length:Int)))&&(decide (v2≤32))))] (by kernel_rfl) (cN rfl hb5 (fun hc7 hb5=>?_) fun hc7 hb5=>?_))
  ·refine ah ?_
   refine bW (av (aa hb5 fun m8 hm8 hb5=>aa hb5 fun x9 hx9 hb5=>ap [0] (rg 16 8) [(3,pI (IntKind.i64.wrap (v2+x9)))] (oH 4 Zd.enc (Zd.enc_eq _) hm8 (bh 6 (hrec hx9) bk)) (by kernel_rfl) (dI (ai [14,15] [(4,pI (IntKind.i64.wrap (v3+1)))] (by kernel_rfl) ?_))))
   exact aU hb5 () (nu rfl) cI
  refine aH ?_
  refine cj hb5 (fun ht=>aj rfl ?_)
  exact az ((),v2) (rq rfl) bA ht.symm
 rintro ⟨_,v4⟩ τ hz;(try dsimp only at hz);subst q6;(try dsimp only at h);dsimp only [aw]
 refine ae (ai [24,25] [(2,pI (oP v4 33))] (by kernel_rfl) (cW ?_))
 exact zz r h rfl
def kV (n:Nat):Zd→Option Int:=Nat.rec (motive:=fun _=>Zd→Option Int) (fun _=>none) (fun _ ih=>i6 ih) n
def po (p0:Zd):Option Int:=kV FUEL p0
theorem tB (n:Nat):∀ {p0:Zd} {r:Int},kV n p0=some r→PF 158 [.agg (ar p0)] (pI r):=by
 induction n with
 | zero=>intros;rename_i h;exact nomatch h
 | succ n ih=>intros;rename_i h;exact sv (fun hr=>ih hr) h
theorem uP {p0:Zd} {r:Int} (h:po p0=some r):PF 158 [.agg (ar p0)] (pI r):=tB FUEL h
def ln (p0:Zd):Option Bool:=cond (((!(p0.Kind == 2))&&(((p0.Digits != 0)||(decide (0<(p0.Except.length:Int))))||(p0.Tolerance != 0)))||((!(p0.Kind == 3))&&(p0.Limit != 0))) (some false) (some (((p0.Kind == 4)||(decide (p0.Name=(⟨#[]⟩:ByteArray))))&&(((p0.Kind == 5)||(p0.Kind == 6))||((p0.Args.length:Int) == 0))))
theorem uQ {p0:Zd} {r:Bool}  (h:ln p0=some r):PF 185 [.agg (ar p0)] (pB r):=by
 unfold ln at h
 refine bc ?_
 refine di Tryz.func185 rfl Tryz.ntmps185 Tryz.results185 rfl (cX rfl (bf (cs:=(ar p0)) rfl rfl (fun b1=>aZ [2] (by kernel_rfl) (bW (bi (ρd:=[]) [(0,0),(1,0),(2,0),(3,0),(4,0),(5,0),(6,0),(7,0)] _ (List.Perm.refl _) (by kernel_rfl) rfl (pa 8 [0,0] (rg 6 6) [(3,pB (p0.Kind == 2)),(4,pB (p0.Kind == 3))] (by kernel_rfl) (bx (co (aJ [0,0,0,0] (rg 12 26) [(38,pB (((!(p0.Kind == 2))&&(((p0.Digits != 0)||(decide (0<(p0.Except.length:Int))))||(p0.Tolerance != 0)))||((!(p0.Kind == 3))&&(p0.Limit != 0))))] (by kernel_rfl) (cN rfl h (fun hc2 h=>?_) fun hc2 h=>?_))))))))))
 ·refine ae ?_
  refine cU [(2,pB false)] (by kernel_rfl) (am ?_)
  exact zz r h rfl
 refine ah ?_
 refine bW (aJ [0,0] (rg 39 8) [(5,pB ((p0.Kind == 5)||(p0.Kind == 6)))] (by kernel_rfl) (bW (aJ [0,0,0] (rg 47 17) [(2,pB (((p0.Kind == 4)||(decide (p0.Name=(⟨#[]⟩:ByteArray))))&&(((p0.Kind == 5)||(p0.Kind == 6))||((p0.Args.length:Int) == 0))))] (by kernel_rfl) (cW ?_))))
 exact zz r h rfl
def i7 (rec:Zd→Option Bool) (p0:Zd):Option Bool:=(ln p0).bind fun x2=>cond (!x2) (some false) (cond (p0.Kind == 1) (some true) (cond (p0.Kind == 2) ((aW (S:=Int) (T:=(Unit)⊕(_)) (fun v6=>cond (decide (v6<(p0.Except.length:Int))) ((idx p0.Except v6).bind fun m10=>(gg m10).bind fun x11=>(gd ((!(x11 == 0))&&(decide (0<v6))) (idx p0.Except (IntKind.i64.wrap (v6 - 1)))).bind fun m12=>(gd ((!(x11 == 0))&&(decide (0<v6))) (idx p0.Except v6)).bind fun m13=>cond ((x11 == 0)||((decide (0<v6))&&(!Op.bytesLess m12.toList m13.toList))) (some (.inr (.inr false))) (some (.inl (IntKind.i64.wrap (v6+1))))) (some (.inr (.inl ())))) FUEL 0).bind fun q=>match q with | .inl _=>some ((((((p0.Digits == 2)||(p0.Digits == 4))||(p0.Digits == 6))&&(decide ((p0.Except.length:Int)≤6)))&&(decide (0≤p0.Tolerance)))&&(decide (p0.Tolerance≤1000000))) | .inr e=>some e) (cond (p0.Kind == 3) (some ((decide (0≤p0.Limit))&&(decide (p0.Limit≤1000000)))) (cond (p0.Kind == 4) ((kI p0.Name).bind fun x17=>some x17) (Option.bind (cond (p0.Kind == 5) (some (p0.Kind == 5)) (some (p0.Kind == 6))) (fun v18=>cond v18 ((aW (S:=Int) (T:=(Unit)⊕(_)) (fun v22=>cond (decide (v22<(p0.Args.length:Int))) ((idx p0.Args v22).bind fun m26=>(gd (!(m26.Kind == p0.Kind)) (idx p0.Args v22)).bind fun m27=>(gd (!(m26.Kind == p0.Kind)) (rec m27)).bind fun x28=>cond ((m26.Kind == p0.Kind)||(!x28)) (some (.inr (.inr false))) (some (.inl (IntKind.i64.wrap (v22+1))))) (some (.inr (.inl ())))) FUEL 0).bind fun q=>match q with | .inl _=>some ((decide (2≤(p0.Args.length:Int)))&&(decide ((p0.Args.length:Int)≤6))) | .inr e=>some e) (some false)))))))
theorem sw {rec:Zd→Option Bool} (hrec:∀ {p0:Zd} {r:Bool},rec p0=some r→PF 159 [.agg (ar p0)] (pB r)) {p0:Zd} {r:Bool} (h:i7 rec p0=some r):PF 159 [.agg (ar p0)] (pB r):=by
 unfold i7 at h
 refine bc ?_
 refine di Tryz.func159 rfl Tryz.ntmps159 Tryz.results159 rfl (cX rfl (bf (cs:=(ar p0)) rfl rfl (fun b1=>aZ [2] (by kernel_rfl) (co (aa h fun x2 hx2 h=>ap [0] [5,6] [(7,pB (!x2))] (bh 1 (uQ hx2) bk) (by kernel_rfl) (cN rfl h (fun hc3 h=>?_) fun hc3 h=>?_))))))
 ·refine ae ?_
  refine cU [(2,pB false)] (by kernel_rfl) (am ?_)
  exact zz r h rfl
 refine ah ?_
 refine co (aJ [0] [8] [(9,pI p0.Kind)] (by kernel_rfl) (aY (qy (bL [11] [(10,pB (p0.Kind == 1))] (by kernel_rfl) rfl h (fun hc4 h=>?_) fun hc4 h=>?_))))
 ·refine ae ?_
  refine cU [(2,pB true)] (by kernel_rfl) (dO ?_)
  exact zz r h rfl
 refine ae ?_
 refine bL [13] [(12,pB (p0.Kind == 2))] (by kernel_rfl) rfl h (fun hc5 h=>?_) fun hc5 h=>?_
 ·refine ae ?_
  refine ae (ak [(3,pI 0)] (by kernel_rfl) (fG h fun q8 hq8 h=>?_))
  refine aq (Y:=Unit×Unit) (fun (_,_)=>[(1,pP b1 0)]) (fun (_,_)=>[PRes.b b1 84 (ar p0)]) (fun (_,_)=>q8=Sum.inl ()) ?_ ?_
  ·refine av ?_
   refine aC (Y:=Unit) (S:=Int) _ hq8 (fun _ v6=>[(1,pP b1 0),(3,pI v6)]) (fun _ v6=>[PRes.b b1 84 (ar p0)]) () (mn rfl) cI ?_
   rintro _ v6 o τ hb7;(try dsimp only at hb7);dsimp only [aw]
   refine de (aJ [0] [14,15,16,17] [(18,pB (decide (v6<(p0.Except.length:Int))))] (by kernel_rfl) (cN rfl hb7 (fun hc9 hb7=>?_) fun hc9 hb7=>?_))
   ·refine ah ?_
    refine dG (bi (ρd:=[]) [(0,0),(1,0),(2,0),(3,0),(4,0),(5,1),(6,0),(7,0),(8,0),(9,0),(10,0),(11,0),(12,0),(13,0),(14,0),(15,0),(16,0),(17,0),(18,0),(19,0),(20,0),(21,0),(22,0),(23,0),(24,0)] _ (List.Perm.refl _) (by kernel_rfl) rfl (aa hb7 fun m10 hm10 hb7=>aa hb7 fun x11 hx11 hb7=>aa hb7 fun m12 hm12 hb7=>aa hb7 fun m13 hm13 hb7=>bt 25 [0,0,0] (rg 21 24) [(45,pB ((x11 == 0)||((decide (0<v6))&&(!Op.bytesLess m12.toList m13.toList))))] (cG 3 eS hm10 (bh 5 (mK hx11) (eQ 15 eS (cA hm12) (eQ 20 eS (cA hm13) bk)))) (by kernel_rfl) (bx (cN rfl hb7 (fun hc14 hb7=>?_) fun hc14 hb7=>?_))))
    ·refine ae ?_
     refine cU [(2,pB false)] (by kernel_rfl) (dO ?_)
     refine au hb7 (fun ht=>?_);subst ht
     refine cO (dO ?_)
     exact zz r h rfl
    refine ah ?_
    refine dI (ai [19,20] [(3,pI (IntKind.i64.wrap (v6+1)))] (by kernel_rfl) ?_)
    exact aU hb7 () (mn rfl) cI
   refine aH ?_
   refine cj hb7 (fun ht=>aj rfl ?_)
   exact az ((),()) (rq rfl) cI ht.symm
  rintro ⟨_,_⟩ τ hz;(try dsimp only at hz);subst q8;(try dsimp only at h);dsimp only [aw]
  refine ae (aJ [0,0,0,0,0,0] (rg 46 29) [(2,pB ((((((p0.Digits == 2)||(p0.Digits == 4))||(p0.Digits == 6))&&(decide ((p0.Except.length:Int)≤6)))&&(decide (0≤p0.Tolerance)))&&(decide (p0.Tolerance≤1000000))))] (by kernel_rfl) (cW (dO ?_)))
  exact zz r h rfl
 refine ae ?_
 refine bL [76] [(75,pB (p0.Kind == 3))] (by kernel_rfl) rfl h (fun hc15 h=>?_) fun hc15 h=>?_
 ·refine ae ?_
  refine aJ [0,0] (rg 77 8) [(2,pB ((decide (0≤p0.Limit))&&(decide (p0.Limit≤1000000))))] (by kernel_rfl) (cW (dO ?_))
  exact zz r h rfl
 refine ae ?_
 refine bL [86] [(85,pB (p0.Kind == 4))] (by kernel_rfl) rfl h (fun hc16 h=>?_) fun hc16 h=>?_
 ·refine ae ?_
  refine aa h fun x17 hx17 h=>ap [0] [87,88,89] [(2,pB x17)] (bh 2 (qH hx17) bk) (by kernel_rfl) (cW (dO ?_))
  exact zz r h rfl
 refine ae ?_
 refine ae (ai [91] [(90,pB (p0.Kind == 5))] (by kernel_rfl) (fG h fun q19 hq19 h=>?_))
 refine aq (Y:=Unit×Bool) (fun (_,v18)=>[(1,pP b1 0),(90,pB v18)]) (fun (_,v18)=>[PRes.b b1 84 (ar p0)]) (fun (_,v18)=>q19=v18) ?_ ?_
 ·skip
  refine ki rfl hq19 (fun hc20 hq19=>?_) fun hc20 hq19=>?_
  ·refine ah ?_
   obtain rfl:=osi hq19
   exact az ((),(p0.Kind == 5)) (mn rfl) cI rfl
  refine ai [92] [(90,pB (p0.Kind == 6))] (by kernel_rfl) ?_
  obtain rfl:=osi hq19
  exact az ((),(p0.Kind == 6)) (mn rfl) cI rfl
 rintro ⟨_,v18⟩ τ hz;(try dsimp only at hz);subst q19;(try dsimp only at h);dsimp only [aw]
 refine ki rfl h (fun hc21 h=>?_) fun hc21 h=>?_
 ·refine ae ?_
  refine ae (ak [(4,pI 0)] (by kernel_rfl) (fG h fun q24 hq24 h=>?_))
  refine aq (Y:=Unit×Unit) (fun (_,_)=>[(1,pP b1 0)]) (fun (_,_)=>[PRes.b b1 84 (ar p0)]) (fun (_,_)=>q24=Sum.inl ()) ?_ ?_
  ·refine av ?_
   refine aC (Y:=Unit) (S:=Int) _ hq24 (fun _ v22=>[(1,pP b1 0),(4,pI v22)]) (fun _ v22=>[PRes.b b1 84 (ar p0)]) () (mn rfl) cI ?_
   rintro _ v22 o τ hb23;(try dsimp only at hb23);dsimp only [aw]
   refine de (aJ [0] [93,94,95,96] [(97,pB (decide (v22<(p0.Args.length:Int))))] (by kernel_rfl) (cN rfl hb23 (fun hc25 hb23=>?_) fun hc25 hb23=>?_))
   ·refine ah ?_
    refine dG (bi (ρd:=[]) [(0,0),(1,0),(2,0),(3,0),(4,0),(5,0),(6,0),(7,0),(8,0),(9,0),(10,0),(11,0),(12,0),(13,0),(14,0),(15,1),(16,0),(17,0)] _ (List.Perm.refl _) (by kernel_rfl) rfl (aa hb23 fun m26 hm26 hb23=>aa hb23 fun m27 hm27 hb23=>aa hb23 fun x28 hx28 hb23=>bt 18 [0,0,0] (rg 100 17) [(117,pB ((m26.Kind == p0.Kind)||(!x28)))] (oH 3 Zd.enc (Zd.enc_eq _) hm26 (foixrg 13 Zd.enc (Zd.enc_eq _) (cA hm27) (ee 15 (fun hc=>hrec (cA hx28 hc)) bk))) (by kernel_rfl) (bx (cN rfl hb23 (fun hc29 hb23=>?_) fun hc29 hb23=>?_))))
    ·refine ae ?_
     refine cU [(2,pB false)] (by kernel_rfl) (dO ?_)
     refine au hb23 (fun ht=>?_);subst ht
     refine cO (dO ?_)
     exact zz r h rfl
    refine ah ?_
    refine dI (ai [98,99] [(4,pI (IntKind.i64.wrap (v22+1)))] (by kernel_rfl) ?_)
    exact aU hb23 () (mn rfl) cI
   refine aH ?_
   refine cj hb23 (fun ht=>aj rfl ?_)
   exact az ((),()) (rq rfl) cI ht.symm
  rintro ⟨_,_⟩ τ hz;(try dsimp only at hz);subst q24;(try dsimp only at h);dsimp only [aw]
  refine ae (aJ [0,0] (rg 118 10) [(2,pB ((decide (2≤(p0.Args.length:Int)))&&(decide ((p0.Args.length:Int)≤6))))] (by kernel_rfl) (cW (dO ?_)))
  exact zz r h rfl
 refine ah ?_
 refine aD (bW (cU [(2,pB false)] (by kernel_rfl) ?_))
 exact zz r h rfl
def kW (n:Nat):Zd→Option Bool:=Nat.rec (motive:=fun _=>Zd→Option Bool) (fun _=>none) (fun _ ih=>i7 ih) n
def pq (p0:Zd):Option Bool:=kW FUEL p0
theorem tC (n:Nat):∀ {p0:Zd} {r:Bool},kW n p0=some r→PF 159 [.agg (ar p0)] (pB r):=by
 induction n with
 | zero=>intros;rename_i h;exact nomatch h
 | succ n ih=>intros;rename_i h;exact sw (fun hr=>ih hr) h
theorem uR {p0:Zd} {r:Bool} (h:pq p0=some r):PF 159 [.agg (ar p0)] (pB r):=tC FUEL h
def kK (p0:Zd):Option Int:=(po p0).bind fun x2=>cond (decide (32<x2)) (some (8:Int)) ((pq p0).bind fun x4=>cond (!x4) (some (1:Int)) (some (0:Int)))
theorem vR {p0:Zd} {r:Int}  (h:kK p0=some r):PF 115 [.agg (ar p0)] (pI r):=by
 unfold kK at h
 refine bc ?_
 refine di Tryz.func115 rfl Tryz.ntmps115 Tryz.results115 rfl (cX rfl (bf (cs:=(ar p0)) rfl rfl (fun b1=>aZ [2] (by kernel_rfl) (co (aa h fun x2 hx2 h=>ap [0] [3,4] [(5,pB (decide (32<x2)))] (bh 1 (uP hx2) bk) (by kernel_rfl) (cN rfl h (fun hc3 h=>?_) fun hc3 h=>?_))))))
 ·refine ae ?_
  refine cU [(2,pI 8)] (by kernel_rfl) (am ?_)
  exact zz r h rfl
 refine ah ?_
 refine co (aa h fun x4 hx4 h=>ap [0] [6,7] [(8,pB (!x4))] (bh 1 (uR hx4) bk) (by kernel_rfl) (cN rfl h (fun hc5 h=>?_) fun hc5 h=>?_))
 ·refine ae ?_
  refine cU [(2,pI 1)] (by kernel_rfl) (am ?_)
  exact zz r h rfl
 refine ah ?_
 refine bW (cU [(2,pI 0)] (by kernel_rfl) ?_)
 exact zz r h rfl
def ft (p0:(List Zb)):Option Int:=cond (decide (8<(p0.length:Int))) (some (8:Int)) ((aW (S:=Int) (T:=(Unit)⊕(_)) (fun v2=>cond (decide (v2<(p0.length:Int))) ((idx p0 v2).bind fun m6=>cond ((((decide (m6.ID<1))||(decide (1000<m6.ID)))||(decide (m6.Kind<1)))||(decide (3<m6.Kind))) (some (.inr (.inr (2:Int)))) ((gd (decide (0<v2)) (idx p0 (IntKind.i64.wrap (v2 - 1)))).bind fun m9=>cond ((decide (0<v2))&&(decide (m6.ID≤m9.ID))) (some (.inr (.inr (9:Int)))) (cond ((decide (12<(m6.Parties.length:Int)))||(decide (12<(m6.Rules.length:Int)))) (some (.inr (.inr (8:Int)))) ((aW (S:=Int) (T:=(Unit)⊕(_)) (fun v12=>cond (decide (v12<(m6.Parties.length:Int))) ((idx m6.Parties v12).bind fun m16=>(eN m16).bind fun x17=>(gd ((!(!x17))&&(decide (0<v12))) (idx m6.Parties (IntKind.i64.wrap (v12 - 1)))).bind fun m18=>(gd ((!(!x17))&&(decide (0<v12))) (idx m6.Parties v12)).bind fun m19=>cond ((!x17)||((decide (0<v12))&&(!Op.bytesLess m18.toList m19.toList))) (some (.inr (.inr (.inr (.inr (1:Int)))))) (some (.inl (IntKind.i64.wrap (v12+1))))) (some (.inr (.inl ())))) FUEL 0).bind fun q=>match q with | .inl _=>(aW (S:=Int) (T:=(Unit)⊕(_)) (fun v21=>cond (decide (v21<(m6.Rules.length:Int))) ((idx m6.Rules v21).bind fun m25=>(gg m25.Prefix).bind fun x26=>cond (x26 == 0) (some (.inr (.inr (.inr (.inr (1:Int)))))) ((gd (decide (0<v21)) (idx m6.Rules (IntKind.i64.wrap (v21 - 1)))).bind fun m28=>(gd (decide (0<v21)) (idx m6.Rules v21)).bind fun m29=>cond ((decide (0<v21))&&(!Op.bytesLess m28.Prefix.toList m29.Prefix.toList)) (some (.inr (.inr (.inr (.inr (9:Int)))))) ((idx m6.Rules v21).bind fun m31=>(kK m31.Rule).bind fun x32=>cond (x32 != 0) (some (.inr (.inr (.inr (.inr x32))))) (some (.inl (IntKind.i64.wrap (v21+1))))))) (some (.inr (.inl ())))) FUEL 0).bind (fun q=>match q with | .inl _=>some (.inl (IntKind.i64.wrap (v2+1))) | .inr e=>some e) | .inr e=>some e)))) (some (.inr (.inl ())))) FUEL 0).bind fun q=>match q with | .inl _=>some (0:Int) | .inr e=>some e)
theorem qB {p0:(List Zb)} {r:Int}  (h:ft p0=some r):PF 66 [pL Zb.enc p0] (pI r):=by
 unfold ft at h
 refine bc ?_
 refine di Tryz.func66 rfl Tryz.ntmps66 Tryz.results66 rfl (aS [2] (by kernel_rfl) (co (bL [8,9] [(10,pB (decide (8<(p0.length:Int))))] (by kernel_rfl) rfl h (fun hc1 h=>?_) fun hc1 h=>?_)))
 ·refine ae ?_
  refine cU [(2,pI 8)] (by kernel_rfl) (am ?_)
  exact zz r h rfl
 refine ah ?_
 refine co (ak [(3,pI 0)] (by kernel_rfl) (fG h fun q4 hq4 h=>?_))
 refine aq (Y:=Unit×Unit) (fun (_,_)=>[]) (fun (_,_)=>[]) (fun (_,_)=>q4=Sum.inl ()) ?_ ?_
 ·refine av ?_
  refine aC (Y:=Unit) (S:=Int) _ hq4 (fun _ v2=>[(0,pL Zb.enc p0),(3,pI v2)]) (fun _ v2=>[]) () (mn rfl) bA ?_
  rintro _ v2 o τ hb3;(try dsimp only at hb3);dsimp only [aw]
  refine de (bL [11,12,13] [(14,pB (decide (v2<(p0.length:Int))))] (by kernel_rfl) rfl hb3 (fun hc5 hb3=>?_) fun hc5 hb3=>?_)
  ·refine ah ?_
   refine dG (aa hb3 fun m6 hm6 hb3=>af (aX 4 [] [17,18,19] [(20,.agg (aA m6))] (cG 2 Zb.enc hm6 bk) (by kernel_rfl) (an rfl (aK (cs:=[pI 0,pI 0,pN,pN]) rfl rfl rfl rfl (fun b7=>aP rfl rfl (al (vs:=(aA m6)) rfl rfl rfl rfl rfl cg xB (aF (dG (aJ [0,0,0,0] (rg 22 18) [(21,pB ((((decide (m6.ID<1))||(decide (1000<m6.ID)))||(decide (m6.Kind<1)))||(decide (3<m6.Kind))))] (by kernel_rfl) (cN rfl hb3 (fun hc8 hb3=>?_) fun hc8 hb3=>?_))))))))))
   ·refine ae ?_
    refine cU [(2,pI 2)] (by kernel_rfl) (dO (dO ?_))
    refine au hb3 (fun ht=>?_);subst ht
    refine cO ?_
    exact zz r h rfl
   refine ae ?_
   refine bi (ρd:=[]) [(0,0),(1,0),(2,0),(3,0),(4,0),(5,0),(6,0),(7,0),(8,0),(9,0),(10,0),(11,0),(12,0),(13,0)] _ (List.Perm.refl _) (by kernel_rfl) rfl (aa hb3 fun m9 hm9 hb3=>bt 14 [0] (rg 41 13) [(40,pB ((decide (0<v2))&&(decide (m6.ID≤m9.ID))))] (eQ 8 Zb.enc (cA hm9) bk) (by kernel_rfl) (bx (cN rfl hb3 (fun hc10 hb3=>?_) fun hc10 hb3=>?_)))
   ·refine ae ?_
    refine cU [(2,pI 9)] (by kernel_rfl) (dO (dO ?_))
    refine au hb3 (fun ht=>?_);subst ht
    refine cO ?_
    exact zz r h rfl
   refine ae ?_
   refine aJ [0,0] (rg 55 10) [(54,pB ((decide (12<(m6.Parties.length:Int)))||(decide (12<(m6.Rules.length:Int)))))] (by kernel_rfl) (cN rfl hb3 (fun hc11 hb3=>?_) fun hc11 hb3=>?_)
   ·refine ae ?_
    refine cU [(2,pI 8)] (by kernel_rfl) (dO (dO ?_))
    refine au hb3 (fun ht=>?_);subst ht
    refine cO ?_
    exact zz r h rfl
   refine ah ?_
   refine aD (co (ak [(5,pI 0)] (by kernel_rfl) (fG hb3 fun q14 hq14 hb3=>?_)))
   refine aq (Y:=Unit×Unit) (fun (_,_)=>[(0,pL Zb.enc p0),(3,pI v2),(4,pP b7 0)]) (fun (_,_)=>[PRes.b b7 81 (aA m6)]) (fun (_,_)=>q14=Sum.inl ()) ?_ ?_
   ·refine av ?_
    refine aC (Y:=Unit) (S:=Int) _ hq14 (fun _ v12=>[(0,pL Zb.enc p0),(3,pI v2),(4,pP b7 0),(5,pI v12)]) (fun _ v12=>[PRes.b b7 81 (aA m6)]) () (iQ rfl) cI ?_
    rintro _ v12 o τ hb13;(try dsimp only at hb13);dsimp only [aw]
    refine de (aJ [0] [65,66,67,68] [(69,pB (decide (v12<(m6.Parties.length:Int))))] (by kernel_rfl) (cN rfl hb13 (fun hc15 hb13=>?_) fun hc15 hb13=>?_))
    ·refine ah ?_
     refine dG (bi (ρd:=[]) [(0,0),(1,0),(2,0),(3,0),(4,0),(5,1),(6,0),(7,0),(8,0),(9,0),(10,0),(11,0),(12,0),(13,0),(14,0),(15,0),(16,0),(17,0),(18,0),(19,0),(20,0),(21,0),(22,0),(23,0),(24,0)] _ (List.Perm.refl _) (by kernel_rfl) rfl (aa hb13 fun m16 hm16 hb13=>aa hb13 fun x17 hx17 hb13=>aa hb13 fun m18 hm18 hb13=>aa hb13 fun m19 hm19 hb13=>bt 25 [0,0,0] (rg 72 24) [(96,pB ((!x17)||((decide (0<v12))&&(!Op.bytesLess m18.toList m19.toList))))] (cG 3 eS hm16 (bh 5 (kH hx17) (eQ 15 eS (cA hm18) (eQ 20 eS (cA hm19) bk)))) (by kernel_rfl) (bx (cN rfl hb13 (fun hc20 hb13=>?_) fun hc20 hb13=>?_))))
     ·refine ae ?_
      refine cU [(2,pI 1)] (by kernel_rfl) (dO ?_)
      refine au hb13 (fun ht=>?_);subst ht
      refine cO (dO ?_)
      refine au hb3 (fun ht=>?_);subst ht
      refine cO ?_
      exact zz r h rfl
     refine ah ?_
     refine dI (ai [70,71] [(5,pI (IntKind.i64.wrap (v12+1)))] (by kernel_rfl) ?_)
     exact aU hb13 () (iQ rfl) cI
    refine aH ?_
    refine cj hb13 (fun ht=>aj rfl ?_)
    exact az ((),()) (nu rfl) cI ht.symm
   rintro ⟨_,_⟩ τ hz;(try dsimp only at hz);subst q14;(try dsimp only at hb3);dsimp only [aw]
   refine ae (ak [(6,pI 0)] (by kernel_rfl) (fG hb3 fun q23 hq23 hb3=>?_))
   refine iW (Y:=Unit×Unit) (fun (_,_)=>[(0,pL Zb.enc p0),(3,pI v2)]) (fun (_,_)=>[]) (fun (_,_)=>q23=Sum.inl ()) ?_ ?_
   ·refine av ?_
    refine aC (Y:=Unit) (S:=Int) _ hq23 (fun _ v21=>[(0,pL Zb.enc p0),(3,pI v2),(4,pP b7 0),(6,pI v21)]) (fun _ v21=>[PRes.b b7 81 (aA m6)]) () (iQ rfl) cI ?_
    rintro _ v21 o τ hb22;(try dsimp only at hb22);dsimp only [aw]
    refine de (aJ [0] [97,98,99,100] [(101,pB (decide (v21<(m6.Rules.length:Int))))] (by kernel_rfl) (cN rfl hb22 (fun hc24 hb22=>?_) fun hc24 hb22=>?_))
    ·refine ah ?_
     refine dG (ae (aa hb22 fun m25 hm25 hb22=>aa hb22 fun x26 hx26 hb22=>ap [0] (rg 104 7) [(111,pB (x26 == 0))] (cG 3 Zi.enc hm25 (bh 6 (mK hx26) bk)) (by kernel_rfl) (cN rfl hb22 (fun hc27 hb22=>?_) fun hc27 hb22=>?_)))
     ·refine ae ?_
      refine cU [(2,pI 1)] (by kernel_rfl) (am (dO ?_))
      refine au hb22 (fun ht=>?_);subst ht
      refine dB (gn (dO ?_))
      refine au hb3 (fun ht=>?_);subst ht
      refine cO ?_
      exact zz r h rfl
     refine ah ?_
     refine co (bi (ρd:=[]) [(0,0),(1,0),(2,0),(3,0),(4,0),(5,0),(6,0),(7,0),(8,0),(9,0),(10,0),(11,0),(12,0),(13,0),(14,0),(15,0),(16,0),(17,0)] _ (List.Perm.refl _) (by kernel_rfl) rfl (aa hb22 fun m28 hm28 hb22=>aa hb22 fun m29 hm29 hb22=>bt 18 [0,0] (rg 112 17) [(129,pB ((decide (0<v21))&&(!Op.bytesLess m28.Prefix.toList m29.Prefix.toList)))] (eQ 7 Zi.enc (cA hm28) (eQ 13 Zi.enc (cA hm29) bk)) (by kernel_rfl) (bx (cN rfl hb22 (fun hc30 hb22=>?_) fun hc30 hb22=>?_))))
     ·refine ae ?_
      refine cU [(2,pI 9)] (by kernel_rfl) (am (dO ?_))
      refine au hb22 (fun ht=>?_);subst ht
      refine dB (gn (dO ?_))
      refine au hb3 (fun ht=>?_);subst ht
      refine cO ?_
      exact zz r h rfl
     refine ah ?_
     refine dc hb22 fun m31 hm31 hb22=>aa hb22 fun x32 hx32 hb22=>ap [0] (rg 130 7) [(7,pI x32)] (cG 3 Zi.enc hm31 (bh 6 (vR hx32) bk)) (by kernel_rfl) (bW (bL [137] [(138,pB (x32 != 0))] (by kernel_rfl) rfl hb22 (fun hc33 hb22=>?_) fun hc33 hb22=>?_))
     ·refine ae ?_
      refine ai [139] [(2,pI x32)] (by kernel_rfl) (cW (dO ?_))
      refine au hb22 (fun ht=>?_);subst ht
      refine dB (gn (dO ?_))
      refine au hb3 (fun ht=>?_);subst ht
      refine cO ?_
      exact zz r h rfl
     refine ah ?_
     refine dI (ai [102,103] [(6,pI (IntKind.i64.wrap (v21+1)))] (by kernel_rfl) ?_)
     exact aU hb22 () (iQ rfl) cI
    refine aH ?_
    refine cj hb22 (fun ht=>aj rfl ?_)
    exact gK ((),()) (mn rfl) bA ht.symm
   rintro ⟨_,_⟩ τ ρ1 hsub34 hz;(try dsimp only at hz hsub34);subst q23;(try dsimp only at hb3);dsimp only [aw]
   refine dI (n4 hsub34 (ai [15,16] [(3,pI (IntKind.i64.wrap (v2+1)))] (by kernel_rfl) ?_))
   exact aU hb3 () (mn rfl) bA
  refine aH ?_
  refine cj hb3 (fun ht=>aj rfl ?_)
  exact az ((),()) oF bA ht.symm
 rintro ⟨_,_⟩ τ hz;(try dsimp only at hz);subst q4;(try dsimp only at h);dsimp only [aw]
 refine ae (cU [(2,pI 0)] (by kernel_rfl) ?_)
 exact zz r h rfl
def gF (p0:Zd) (p1:Zm) (p2:Zk):Option Bool:=(jR p2.Code 0 p0.Digits).bind fun s4=>(jR p1.Code 0 p0.Digits).bind fun s5=>cond (decide (s4=s5)) (some true) ((aW (S:=Int) (T:=(Unit)⊕(_)) (fun v7=>cond (decide (v7<(p0.Except.length:Int))) ((idx p0.Except v7).bind fun m11=>(gO p2.Code m11).bind fun x12=>cond x12 (some (.inr (.inr true))) (some (.inl (IntKind.i64.wrap (v7+1))))) (some (.inr (.inl ())))) FUEL 0).bind fun q=>match q with | .inl _=>some false | .inr e=>some e)
theorem rK {p0:Zd} {p1:Zm} {p2:Zk} {r:Bool}  (h:gF p0 p1 p2=some r):PF 160 [.agg (ar p0),.agg (bz p1),.agg [pS p2.Code,pI p2.Value,pB p2.Originating]] (pB r):=by
 unfold gF at h
 refine bc ?_
 refine di Tryz.func160 rfl Tryz.ntmps160 Tryz.results160 rfl (cX rfl (bf (cs:=(ar p0)) rfl rfl (fun b1=>an rfl (bf (cs:=(bz p1)) rfl rfl (fun b2=>an rfl (bf (cs:=[pS p2.Code,pI p2.Value,pB p2.Originating]) rfl rfl (fun b3=>aZ [6] (by kernel_rfl) (co (bi (ρd:=[]) [(0,0),(1,0),(2,0),(3,0),(4,0),(5,0),(6,0),(7,0),(8,0),(9,0),(10,0)] _ (List.Perm.refl _) (by kernel_rfl) rfl (aa h fun s4 hs4 h=>aa h fun s5 hs5 h=>bt 11 [0,2,1,2] (rg 8 10) [(18,pB (decide (s4=s5)))] (foss 4 hs4 (foss 9 hs5 bk)) (by kernel_rfl) (bx (cN rfl h (fun hc6 h=>?_) fun hc6 h=>?_))))))))))))
 ·refine ae ?_
  refine cU [(6,pB true)] (by kernel_rfl) (am ?_)
  exact zz r h rfl
 refine ah ?_
 refine co (ak [(7,pI 0)] (by kernel_rfl) (fG h fun q9 hq9 h=>?_))
 refine aq (Y:=Unit×Unit) (fun (_,_)=>[]) (fun (_,_)=>[]) (fun (_,_)=>q9=Sum.inl ()) ?_ ?_
 ·refine av ?_
  refine aC (Y:=Unit) (S:=Int) _ hq9 (fun _ v7=>[(3,pP b1 0),(5,pP b3 0),(7,pI v7)]) (fun _ v7=>[PRes.b b1 84 (ar p0),PRes.b b3 103 [pS p2.Code,pI p2.Value,pB p2.Originating]]) () (nu rfl) (bd (aB (aB aM)) cI) ?_
  rintro _ v7 o τ hb8;(try dsimp only at hb8);dsimp only [aw]
  refine de (aJ [0] [19,20,21,22] [(23,pB (decide (v7<(p0.Except.length:Int))))] (by kernel_rfl) (cN rfl hb8 (fun hc10 hb8=>?_) fun hc10 hb8=>?_))
  ·refine ah ?_
   refine dG (bi (ρd:=[]) [(0,0),(1,0),(2,0),(3,0),(4,0),(5,0),(6,0),(7,1)] _ (List.Perm.refl _) (by kernel_rfl) rfl (aa hb8 fun m11 hm11 hb8=>aa hb8 fun x12 hx12 hb8=>bt 8 [1,0] (rg 26 7) [(33,pB x12)] (cG 5 eS hm11 (bh 7 (oJ hx12) bk)) (by kernel_rfl) (bx (cN rfl hb8 (fun hc13 hb8=>?_) fun hc13 hb8=>?_))))
   ·refine ae ?_
    refine cU [(6,pB true)] (by kernel_rfl) (dO ?_)
    refine au hb8 (fun ht=>?_);subst ht
    refine cO ?_
    exact zz r h rfl
   refine ah ?_
   refine dI (ai [24,25] [(7,pI (IntKind.i64.wrap (v7+1)))] (by kernel_rfl) ?_)
   exact aU hb8 () (nu rfl) oX
  refine aH ?_
  refine cj hb8 (fun ht=>aj rfl ?_)
  exact az ((),()) oF bA ht.symm
 rintro ⟨_,_⟩ τ hz;(try dsimp only at hz);subst q9;(try dsimp only at h);dsimp only [aw]
 refine ae (cU [(6,pB false)] (by kernel_rfl) ?_)
 exact zz r h rfl
def kL (p0:Zl) (p1:Zl):Option Bool:=some ((decide (p0.Hi<p1.Hi))||((p0.Hi == p1.Hi)&&(decide (p0.Lo<p1.Lo))))
theorem qI {p0:Zl} {p1:Zl} {r:Bool}  (h:kL p0 p1=some r):PF 208 [.agg [pU p0.Hi,pU p0.Lo],.agg [pU p1.Hi,pU p1.Lo]] (pB r):=by
 unfold kL at h
 refine bc ?_
 refine di Tryz.func208 rfl Tryz.ntmps208 Tryz.results208 rfl (cX rfl (bf (cs:=[pU p0.Hi,pU p0.Lo]) rfl rfl (fun b1=>an rfl (bf (cs:=[pU p1.Hi,pU p1.Lo]) rfl rfl (fun b2=>aZ [4] (by kernel_rfl) (bW (aJ [1,0,1,0,1,0] (rg 5 19) [(4,pB ((decide (p0.Hi<p1.Hi))||((p0.Hi == p1.Hi)&&(decide (p0.Lo<p1.Lo)))))] (by kernel_rfl) (cW ?_))))))))
 exact zz r h rfl
def mU (p0:Zl) (p1:Zl):Option Int:=(kL p0 p1).bind fun x3=>cond x3 (some (-1)) ((kL p1 p0).bind fun x5=>cond x5 (some (1:Int)) (some (0:Int)))
theorem uS {p0:Zl} {p1:Zl} {r:Int}  (h:mU p0 p1=some r):PF 186 [.agg [pU p0.Hi,pU p0.Lo],.agg [pU p1.Hi,pU p1.Lo]] (pI r):=by
 unfold mU at h
 refine bc ?_
 refine di Tryz.func186 rfl Tryz.ntmps186 Tryz.results186 rfl (cX rfl (bf (cs:=[pU p0.Hi,pU p0.Lo]) rfl rfl (fun b1=>an rfl (bf (cs:=[pU p1.Hi,pU p1.Lo]) rfl rfl (fun b2=>aZ [4] (by kernel_rfl) (dG (aa h fun x3 hx3 h=>ap [1,0] [6,7,8] [(5,pB x3)] (bh 2 (qI hx3) bk) (by kernel_rfl) (cN rfl h (fun hc4 h=>?_) fun hc4 h=>?_))))))))
 ·refine ae ?_
  refine cU [(4,pI (-1))] (by kernel_rfl) (dO ?_)
  exact zz r h rfl
 refine ae ?_
 refine aa h fun x5 hx5 h=>ap [0,1] [10,11,12] [(9,pB x5)] (bh 2 (qI hx5) bk) (by kernel_rfl) (cN rfl h (fun hc6 h=>?_) fun hc6 h=>?_)
 ·refine ae ?_
  refine cU [(4,pI 1)] (by kernel_rfl) (dO ?_)
  exact zz r h rfl
 refine ah ?_
 refine aD (bW (cU [(4,pI 0)] (by kernel_rfl) ?_))
 exact zz r h rfl
def iK (p0:Int) (p1:Int) (p2:Int):Option Bool:=(jA (IntKind.u64.wrap p0) 1000000).bind fun x1=>(jA (IntKind.u64.wrap p1) (IntKind.u64.wrap p2)).bind fun x2=>(mU x1 x2).bind fun x3=>some (decide (x3≤0))
theorem oL {p0:Int} {p1:Int} {p2:Int} {r:Bool}  (h:iK p0 p1 p2=some r):PF 161 [pI p0,pI p1,pI p2] (pB r):=by
 unfold iK at h
 refine bc ?_
 refine di Tryz.func161 rfl Tryz.ntmps161 Tryz.results161 rfl (aS [6] (by kernel_rfl) (dc h fun x1 hx1 h=>aa h fun x2 hx2 h=>aa h fun x3 hx3 h=>ap [] (rg 7 10) [(6,pB (decide (x3≤0)))] (bh 2 (og hx1) (bh 7 (og hx2) (bh 8 (uS hx3) bk))) (by kernel_rfl) (cW ?_)))
 exact zz r h rfl
def i9 (rec:Zd→Zm→Option Bool) (p0:Zd) (p1:Zm):Option Bool:=(aW (S:=Int×Int×Int) (T:=(Int×Int)) (fun (v3,v4,v5)=>cond (decide (v5<(p1.Inputs.length:Int))) (((idx p1.Inputs v5).bind fun m14=>cond m14.Originating (some (v3,v4)) ((gd ((!(p0.Kind == 3))&&(p0.Kind == 2)) (gF p0 p1 m14)).bind fun x17=>cond ((p0.Kind == 3)||((p0.Kind == 2)&&x17)) (some ((IntKind.i64.wrap (v3+m14.Value)),(IntKind.i64.wrap (v4+1)))) (some (v3,(IntKind.i64.wrap (v4+1)))))).bind fun (v11,v12)=>some (.inl (v11,v12,(IntKind.i64.wrap (v5+1))))) (some (.inr (v3,v4)))) FUEL (0,0,0)).bind fun (v6,v7)=>(aW (S:=Int×Int) (T:=(Int)) (fun (v19,v20)=>cond (decide (v20<(p0.Args.length:Int))) (((idx p0.Args v20).bind fun m27=>(rec m27 p1).bind fun x28=>cond x28 (some (IntKind.i64.wrap (v19+1))) (some v19)).bind fun v25=>some (.inl (v25,(IntKind.i64.wrap (v20+1))))) (some (.inr v19))) FUEL (0,0)).bind fun v21=>cond (p0.Kind == 1) (some (p1.Obtained&&(v7 == 0))) (cond (p0.Kind == 2) ((iK v6 p0.Tolerance p1.Price).bind fun x32=>some x32) (cond (p0.Kind == 3) ((iK v6 p0.Limit p1.Price).bind fun x34=>some x34) (cond (p0.Kind == 4) ((ic p1.Processes p0.Name).bind fun x36=>some x36) (cond (p0.Kind == 5) (some (v21 == (p0.Args.length:Int))) (some (decide (0<v21)))))))
theorem sy {rec:Zd→Zm→Option Bool} (hrec:∀ {p0:Zd} {p1:Zm} {r:Bool},rec p0 p1=some r→PF 117 [.agg (ar p0),.agg (bz p1)] (pB r)) {p0:Zd} {p1:Zm} {r:Bool} (h:i9 rec p0 p1=some r):PF 117 [.agg (ar p0),.agg (bz p1)] (pB r):=by
 unfold i9 at h
 refine bc ?_
 refine di Tryz.func117 rfl Tryz.ntmps117 Tryz.results117 rfl (cX rfl (bf (cs:=(ar p0)) rfl rfl (fun b1=>an rfl (bf (cs:=(bz p1)) rfl rfl (fun b2=>aZ [4] (by kernel_rfl) (bW (ak [(5,pI 0),(6,pI 0),(7,pI 0)] (by kernel_rfl) (co (ak [(8,pI 0)] (by kernel_rfl) (fG h fun q9 hq9 h=>?_))))))))))
 refine aq (Y:=Unit×(Int×Int)) (fun (_,(v6,v7))=>[(2,pP b1 0),(3,pP b2 0),(5,pI v6),(6,pI v7),(7,pI 0)]) (fun (_,(v6,v7))=>[PRes.b b1 84 (ar p0),PRes.b b2 36 (bz p1)]) (fun (_,(v6,v7))=>q9=(v6,v7)) ?_ ?_
 ·refine av ?_
  refine aC (Y:=Unit) (S:=Int×Int×Int) _ hq9 (fun _ (v3,v4,v5)=>[(2,pP b1 0),(3,pP b2 0),(5,pI v3),(6,pI v4),(7,pI 0),(8,pI v5)]) (fun _ (v3,v4,v5)=>[PRes.b b1 84 (ar p0),PRes.b b2 36 (bz p1)]) () (qP rfl) (bd (aB aM) cI) ?_
  rintro _ ⟨v3,v4,v5⟩ o τ hb8;(try dsimp only at hb8);dsimp only [aw]
  refine de (aJ [1] [11,12,13,14] [(15,pB (decide (v5<(p1.Inputs.length:Int))))] (by kernel_rfl) (cN rfl hb8 (fun hc10 hb8=>?_) fun hc10 hb8=>?_))
  ·refine ah ?_
   refine dc hb8 fun q13 hq13 hb8=>?_
   refine aq (Y:=Unit×(Int×Int)) (fun (_,(v11,v12))=>[(2,pP b1 0),(3,pP b2 0),(5,pI v11),(6,pI v12),(7,pI 0),(8,pI v5)]) (fun (_,(v11,v12))=>[PRes.b b1 84 (ar p0),PRes.b b2 36 (bz p1)]) (fun (_,(v11,v12))=>q13=(v11,v12)) ?_ ?_
   ·skip
    refine qy (aa hq13 fun m14 hm14 hq13=>af (aX 5 [1] [18,19,20,21] [(22,.agg [pS m14.Code,pI m14.Value,pB m14.Originating])] (cG 3 Zk.enc hm14 bk) (by kernel_rfl) (an rfl (aK (cs:=[pS ByteArray.empty,pI 0,pB false]) rfl rfl rfl rfl (fun b15=>aP rfl rfl (al (vs:=[pS m14.Code,pI m14.Value,pB m14.Originating]) rfl rfl rfl rfl rfl cg zl3 (aF (co (aJ [0] [23] [(24,pB m14.Originating)] (by kernel_rfl) (cN rfl hq13 (fun hc16 hq13=>?_) fun hc16 hq13=>?_))))))))))
    ·refine aH ?_
     refine gI (aj rfl ?_)
     obtain rfl:=osi hq13
     exact az ((),(v3,v4)) (qP rfl) (bd (aB aM) (bd (aB aM) bA)) rfl
    refine ah ?_
    refine bW (ai [25,26] [(6,pI (IntKind.i64.wrap (v4+1)))] (by kernel_rfl) (dc hq13 fun x17 hx17 hq13=>ap [1,1,1,2,0] (rg 27 13) [(40,pB ((p0.Kind == 3)||((p0.Kind == 2)&&x17)))] (ee 11 (fun hc=>rK (cA hx17 hc)) bk) (by kernel_rfl) (cN rfl hq13 (fun hc18 hq13=>?_) fun hc18 hq13=>?_)))
    ·refine aJ [0] [41,42,43,44] [(5,pI (IntKind.i64.wrap (v3+m14.Value)))] (by kernel_rfl) ?_
     refine aD ?_
     obtain rfl:=osi hq13
     exact az ((),((IntKind.i64.wrap (v3+m14.Value)),(IntKind.i64.wrap (v4+1)))) (qP rfl) (bd (aB aM) (bd (aB aM) bA)) rfl
    refine ah ?_
    refine aD ?_
    obtain rfl:=osi hq13
    exact az ((),(v3,(IntKind.i64.wrap (v4+1)))) (qP rfl) (bd (aB aM) (bd (aB aM) bA)) rfl
   rintro ⟨_,⟨v11,v12⟩⟩ τ hz;(try dsimp only at hz);subst q13;(try dsimp only at hb8);dsimp only [aw]
   refine ai [16,17] [(8,pI (IntKind.i64.wrap (v5+1)))] (by kernel_rfl) ?_
   exact aU hb8 () (qP rfl) oX
  refine aH ?_
  refine cj hb8 (fun ht=>aj rfl ?_)
  exact az ((),(v3,v4)) (mT rfl) oX ht.symm
 rintro ⟨_,⟨v6,v7⟩⟩ τ hz;(try dsimp only at hz);subst q9;(try dsimp only at h);dsimp only [aw]
 refine de (ak [(10,pI 0)] (by kernel_rfl) (fG h fun q23 hq23 h=>?_))
 refine aq (Y:=Unit×Int) (fun (_,v21)=>[(2,pP b1 0),(3,pP b2 0),(5,pI v6),(6,pI v7),(7,pI v21)]) (fun (_,v21)=>[PRes.b b1 84 (ar p0),PRes.b b2 36 (bz p1)]) (fun (_,v21)=>q23=v21) ?_ ?_
 ·refine av ?_
  refine aC (Y:=Unit) (S:=Int×Int) _ hq23 (fun _ (v19,v20)=>[(2,pP b1 0),(3,pP b2 0),(5,pI v6),(6,pI v7),(7,pI v19),(10,pI v20)]) (fun _ (v19,v20)=>[PRes.b b1 84 (ar p0),PRes.b b2 36 (bz p1)]) () (qP rfl) oX ?_
  rintro _ ⟨v19,v20⟩ o τ hb22;(try dsimp only at hb22);dsimp only [aw]
  refine de (aJ [0] [45,46,47,48] [(49,pB (decide (v20<(p0.Args.length:Int))))] (by kernel_rfl) (cN rfl hb22 (fun hc24 hb22=>?_) fun hc24 hb22=>?_))
  ·refine ah ?_
   refine dc hb22 fun q26 hq26 hb22=>?_
   refine aq (Y:=Unit×Int) (fun (_,v25)=>[(2,pP b1 0),(3,pP b2 0),(5,pI v6),(6,pI v7),(7,pI v25),(10,pI v20)]) (fun (_,v25)=>[PRes.b b1 84 (ar p0),PRes.b b2 36 (bz p1)]) (fun (_,v25)=>q26=v25) ?_ ?_
   ·skip
    refine qy (bi (ρd:=[]) [(0,0),(1,0),(2,0),(3,0),(4,0),(5,0),(6,1)] _ (List.Perm.refl _) (by kernel_rfl) rfl (aa hq26 fun m27 hm27 hq26=>aa hq26 fun x28 hx28 hq26=>bt 7 [0,1] (rg 52 6) [(58,pB x28)] (oH 3 Zd.enc (Zd.enc_eq _) hm27 (bh 6 (hrec hx28) bk)) (by kernel_rfl) (bx (cN rfl hq26 (fun hc29 hq26=>?_) fun hc29 hq26=>?_))))
    ·refine ai [59,60] [(7,pI (IntKind.i64.wrap (v19+1)))] (by kernel_rfl) ?_
     refine aD ?_
     obtain rfl:=osi hq26
     exact az ((),(IntKind.i64.wrap (v19+1))) (qP rfl) oX rfl
    refine ah ?_
    refine aD ?_
    obtain rfl:=osi hq26
    exact az ((),v19) (qP rfl) oX rfl
   rintro ⟨_,v25⟩ τ hz;(try dsimp only at hz);subst q26;(try dsimp only at hb22);dsimp only [aw]
   refine ai [50,51] [(10,pI (IntKind.i64.wrap (v20+1)))] (by kernel_rfl) ?_
   exact aU hb22 () (qP rfl) oX
  refine aH ?_
  refine cj hb22 (fun ht=>aj rfl ?_)
  exact az ((),v19) (mT rfl) oX ht.symm
 rintro ⟨_,v21⟩ τ hz;(try dsimp only at hz);subst q23;(try dsimp only at h);dsimp only [aw]
 refine de (aJ [0] [61] [(62,pI p0.Kind)] (by kernel_rfl) (aY (qy (bL [64] [(63,pB (p0.Kind == 1))] (by kernel_rfl) rfl h (fun hc30 h=>?_) fun hc30 h=>?_))))
 ·refine ae ?_
  refine aJ [1] (rg 65 6) [(4,pB (p1.Obtained&&(v7 == 0)))] (by kernel_rfl) (cW (dO ?_))
  exact zz r h rfl
 refine ae ?_
 refine bL [72] [(71,pB (p0.Kind == 2))] (by kernel_rfl) rfl h (fun hc31 h=>?_) fun hc31 h=>?_
 ·refine ae ?_
  refine aa h fun x32 hx32 h=>ap [0,1] (rg 73 6) [(4,pB x32)] (bh 5 (oL hx32) bk) (by kernel_rfl) (cW (dO ?_))
  exact zz r h rfl
 refine ae ?_
 refine bL [80] [(79,pB (p0.Kind == 3))] (by kernel_rfl) rfl h (fun hc33 h=>?_) fun hc33 h=>?_
 ·refine ae ?_
  refine aa h fun x34 hx34 h=>ap [0,1] (rg 81 6) [(4,pB x34)] (bh 5 (oL hx34) bk) (by kernel_rfl) (cW (dO ?_))
  exact zz r h rfl
 refine ae ?_
 refine bL [88] [(87,pB (p0.Kind == 4))] (by kernel_rfl) rfl h (fun hc35 h=>?_) fun hc35 h=>?_
 ·refine ae ?_
  refine aa h fun x36 hx36 h=>ap [1,0] (rg 89 5) [(4,pB x36)] (bh 4 (iI hx36) bk) (by kernel_rfl) (cW (dO ?_))
  exact zz r h rfl
 refine ae ?_
 refine bL [95] [(94,pB (p0.Kind == 5))] (by kernel_rfl) rfl h (fun hc37 h=>?_) fun hc37 h=>?_
 ·refine ae ?_
  refine aJ [0] (rg 96 5) [(4,pB (v21 == (p0.Args.length:Int)))] (by kernel_rfl) (cW (dO ?_))
  exact zz r h rfl
 refine ah ?_
 refine aD (bW (ai [101,102] [(4,pB (decide (0<v21)))] (by kernel_rfl) (cW ?_)))
 exact zz r h rfl
def kX (n:Nat):Zd→Zm→Option Bool:=Nat.rec (motive:=fun _=>Zd→Zm→Option Bool) (fun _ _=>none) (fun _ ih=>i9 ih) n
def pr (p0:Zd) (p1:Zm):Option Bool:=kX FUEL p0 p1
theorem tD (n:Nat):∀ {p0:Zd} {p1:Zm} {r:Bool},kX n p0 p1=some r→PF 117 [.agg (ar p0),.agg (bz p1)] (pB r):=by
 induction n with
 | zero=>intros;rename_i h;exact nomatch h
 | succ n ih=>intros;rename_i h;exact sy (fun hr=>ih hr) h
theorem uT {p0:Zd} {p1:Zm} {r:Bool} (h:pr p0 p1=some r):PF 117 [.agg (ar p0),.agg (bz p1)] (pB r):=tD FUEL h
def hC (rec:Zd→Zm→Option ((List Int)×Bool)) (p0:Zd) (p1:Zm):Option ((List Int)×Bool):=(pr p0 p1).bind fun x3=>cond (!x3) (some ([],false)) ((aW (S:=(List Int)×Int) (T:=((List Int))⊕(_)) (fun (l6,v9)=>cond (decide (v9<(p0.Args.length:Int))) (Option.bind (α:=((List Int))⊕_) ((idx p0.Args v9).bind fun m23=>(rec m23 p1).bind fun x24=>cond (!x24.2) (some (.inl l6)) (cond (p0.Kind == 6) ((app 8 [v9] x24.1).bind fun l29=>some (.inr (.inr (.inr (l29,true))))) ((app 8 l6 x24.1).bind fun l33=>some (.inl l33)))) (fun q=>match q with | .inl l21=>some (.inl (l21,(IntKind.i64.wrap (v9+1)))) | .inr e=>some e)) (some (.inr (.inl l6)))) FUEL (([]:List Int),0)).bind fun q=>match q with | .inl l13=>some (l13,true) | .inr e=>some e)
theorem qY {rec:Zd→Zm→Option ((List Int)×Bool)} (hrec:∀ {p0:Zd} {p1:Zm} {r:((List Int)×Bool)},rec p0 p1=some r→PF 70 [.agg (ar p0),.agg (bz p1)] (.tup [pL eI r.1,pB r.2])) {p0:Zd} {p1:Zm} {r:((List Int)×Bool)} (h:hC rec p0 p1=some r):PF 70 [.agg (ar p0),.agg (bz p1)] (.tup [pL eI r.1,pB r.2]):=by
 unfold hC at h
 refine bc ?_
 refine di Tryz.func70 rfl Tryz.ntmps70 Tryz.results70 rfl (cX rfl (bf (cs:=(ar p0)) rfl rfl (fun b1=>an rfl (bf (cs:=(bz p1)) rfl rfl (fun b2=>aZ [4,5] (by kernel_rfl) (co (aa h fun x3 hx3 h=>ap [1,0] [10,11,12] [(13,pB (!x3))] (bh 2 (uT hx3) bk) (by kernel_rfl) (cN rfl h (fun hc4 h=>?_) fun hc4 h=>?_))))))))
 ·refine ae ?_
  refine ak [(4,pN),(5,pB false)] (by kernel_rfl) (aY (iE 4 rfl (bS (am ?_))))
  obtain rfl:=osi h
  exact aN (cF (aQ rfl) (aQ rfl)) bA ⟨rfl,rfl⟩
 refine ah ?_
 refine bW (ak [(6,pN)] (by kernel_rfl) (co (ak [(7,pI 0)] (by kernel_rfl) (aY (cM 3 1 (aa h fun q15 hq15 h=>?_))))))
 refine aq (Y:=(Option Addr×Nat)×((List Int))) (fun ((a11,c12),l13)=>[(6,pO a11 l13.length c12)]) (fun ((a11,c12),l13)=>[PRes.row a11 l13.length c12 3 1 (List.map eI l13)]) (fun ((a11,c12),l13)=>q15=Sum.inl l13) ?_ ?_
 ·refine av ?_
  refine aC (Y:=Option Addr×Nat) (S:=(List Int)×Int) _ hq15 (fun (a7,c8) (l6,v9)=>[(2,pP b1 0),(3,pP b2 0),(6,pO a7 l6.length c8),(7,pI v9)]) (fun (a7,c8) (l6,v9)=>[PRes.b b1 84 (ar p0),PRes.b b2 36 (bz p1),PRes.row a7 l6.length c8 3 1 (List.map eI l6)]) (none,0) (iQ rfl) (bd (aB (aB aM)) (bd (aB aM) cI)) ?_
  rintro ⟨a7,c8⟩ ⟨l6,v9⟩ o τ hb14;(try dsimp only at hb14);dsimp only [aw]
  refine de (aJ [0] [14,15,16,17] [(18,pB (decide (v9<(p0.Args.length:Int))))] (by kernel_rfl) (cN rfl hb14 (fun hc17 hb14=>?_) fun hc17 hb14=>?_))
  ·refine ah ?_
   refine dc hb14 fun q22 hq22 hb14=>?_
   refine aq (Y:=(Option Addr×Nat)×((List Int))) (fun ((a19,c20),l21)=>[(2,pP b1 0),(3,pP b2 0),(6,pO a19 l21.length c20),(7,pI v9)]) (fun ((a19,c20),l21)=>[PRes.b b1 84 (ar p0),PRes.b b2 36 (bz p1),PRes.row a19 l21.length c20 3 1 (List.map eI l21)]) (fun ((a19,c20),l21)=>q22=Sum.inl l21) ?_ ?_
   ·skip
    refine qy (bi (ρd:=[]) [(0,0),(1,0),(2,0),(3,0),(4,0),(5,0),(6,1),(7,0),(8,0),(9,0),(10,0),(11,0)] _ (List.Perm.refl _) (by kernel_rfl) rfl (aa hq22 fun m23 hm23 hq22=>aa hq22 fun x24 hx24 hq22=>bt 12 [0,1] ((rg 22 7)++[21,29,30]) [(8,pL eI x24.1),(9,pB x24.2)] (oH 3 Zd.enc (Zd.enc_eq _) hm23 (bh 6 (hrec hx24) bk)) (by kernel_rfl) (bx (co (bL [31] [(32,pB (!x24.2))] (by kernel_rfl) rfl hq22 (fun hc25 hq22=>?_) fun hc25 hq22=>?_)))))
    ·refine aH ?_
     refine gI (aj rfl ?_)
     obtain rfl:=osi hq22
     exact az ((a7,c8),l6) (iQ rfl) BB rfl
    refine ah ?_
    refine co (aJ [0] [33,34] [(35,pB (p0.Kind == 6))] (by kernel_rfl) (cN rfl hq22 (fun hc26 hq22=>?_) fun hc26 hq22=>?_))
    ·refine ae ?_
     refine af (aG 1 [(36,pI v9)] (by kernel_rfl) (an rfl (bM rfl rfl rfl rfl rfl (gr rfl jJ) rfl rfl rfl rfl (fun b27=>aa hq22 fun l29 hl29 hq22=>aG 1 [(38,pL eI x24.1)] (by kernel_rfl) ?_))))
     refine an rfl (jQ (enc:=eI) rfl rfl rfl rfl rfl (fun _=>rfl) rfl rfl rfl (by exact aM) hl29 (fun a30 c31=>?_))
     refine aL [(4,pO a30 l29.length c31),(5,pB true)] (by kernel_rfl) (aY ?_)
     refine fa (enc:=eI) (xs:=l29) 4 rfl (by exact aM) ?_
     refine bS (am (cO ?_))
     obtain rfl:=osi hq22
     refine au hb14 (fun ht=>?_);subst ht
     refine cO ?_
     obtain rfl:=osi h
     exact aN (cF (aQ rfl) (aQ rfl)) bA ⟨rfl,rfl⟩
    refine ah ?_
    refine fG hq22 fun l33 hl33 hq22=>af (aG 2 [(40,pO a7 l6.length c8),(41,pL eI x24.1)] (by kernel_rfl) ?_)
    refine an rfl (jQ (enc:=eI) rfl rfl rfl rfl rfl (fun _=>rfl) rfl rfl rfl (by exact aB (aB aM)) hl33 (fun a34 c35=>?_))
    refine aL [(6,pO a34 l33.length c35)] (by kernel_rfl) (aD ?_)
    obtain rfl:=osi hq22
    exact az ((a34,c35),l33) (iQ rfl) (bd (aB aM) (bd (aB aM) cI)) rfl
   rintro ⟨⟨a19,c20⟩,l21⟩ τ hz;(try dsimp only at hz);subst q22;(try dsimp only at hb14);dsimp only [aw]
   refine ai [19,20] [(7,pI (IntKind.i64.wrap (v9+1)))] (by kernel_rfl) ?_
   exact aU hb14 (a19,c20) (iQ rfl) BB
  refine aH ?_
  refine cj hb14 (fun ht=>aj rfl ?_)
  exact az ((a7,c8),l6) (rq rfl) (bd (aB (aB aM)) bA) ht.symm
 rintro ⟨⟨a11,c12⟩,l13⟩ τ hz;(try dsimp only at hz);subst q15;(try dsimp only at h);dsimp only [aw]
 refine ae (ai [43] [(4,pO a11 l13.length c12),(5,pB true)] (by kernel_rfl) (aY ?_))
 refine fa (enc:=eI) (xs:=l13) 4 rfl (by exact aM) ?_
 refine bS ?_
 obtain rfl:=osi h
 exact aN (cF (aQ rfl) (aQ rfl)) bA ⟨rfl,rfl⟩
def hI (n:Nat):Zd→Zm→Option ((List Int)×Bool):=Nat.rec (motive:=fun _=>Zd→Zm→Option ((List Int)×Bool)) (fun _ _=>none) (fun _ ih=>hC ih) n
def ja (p0:Zd) (p1:Zm):Option ((List Int)×Bool):=hI FUEL p0 p1
theorem rL (n:Nat):∀ {p0:Zd} {p1:Zm} {r:((List Int)×Bool)},hI n p0 p1=some r→PF 70 [.agg (ar p0),.agg (bz p1)] (.tup [pL eI r.1,pB r.2]):=by
 induction n with
 | zero=>intros;rename_i h;exact nomatch h
 | succ n ih=>intros;rename_i h;exact qY (fun hr=>ih hr) h
theorem sA {p0:Zd} {p1:Zm} {r:((List Int)×Bool)} (h:ja p0 p1=some r):PF 70 [.agg (ar p0),.agg (bz p1)] (.tup [pL eI r.1,pB r.2]):=rL FUEL h
def jC (p0:(List Zc)) (p1:(List Zb)) (p2:ByteArray):Option ((List Zf)×Int):=(kJ p0).bind fun x1=>cond (x1 != 0) (some ([],x1)) ((ft p1).bind fun x3=>cond (x3 != 0) (some ([],x3)) ((eN p2).bind fun x5=>cond (!x5) (some ([],(1:Int))) ((aW (S:=(List Zf)×(List Za)×Bool) (T:=((List Zf))) (fun (l8,l11,v12)=>cond v12 ((aW (S:=(List Zf)×Bool×(List Za)×Int) (T:=((List Zf)×Bool×(List Za))) (fun (l22,v25,l26,v27)=>cond (decide (v27<(p0.length:Int))) ((aW (S:=(List Zf)×Bool×(List Za)×Int) (T:=((List Zf)×Bool×(List Za))) (fun (l38,v41,l42,v43)=>cond (decide (v43<(p1.length:Int))) (((idx p0 v27).bind fun m60=>(idx p1 v43).bind fun m61=>(dX l11 (⟨m60.ID,m61.ID⟩:Za)).bind fun x63=>(gd (!x63) (dJ p0 p1 p2 (⟨m60.ID,m61.ID⟩:Za))).bind fun x64=>cond (x63||(!x64)) (some (l38,v41,l42)) ((gP p0 p1 p2 (⟨m60.ID,m61.ID⟩:Za) l11).bind fun x66=>(idx p1 v43).bind fun m68=>(idx p0 v27).bind fun m69=>(gb m68 m69.Code).bind fun x70=>(ja x70.1 x66.1).bind fun x72=>cond x72.2 ((app 64 l38 [(⟨(⟨m60.ID,m61.ID⟩:Za),x72.1,x66.2⟩:Zf)]).bind fun l76=>(eC l42 (⟨m60.ID,m61.ID⟩:Za)).bind fun x80=>some (l76,true,x80)) (some (l38,v41,l42)))).bind fun (l56,v57,l58)=>some (.inl (l56,v57,l58,(IntKind.i64.wrap (v43+1))))) (some (.inr (l38,v41,l42)))) FUEL (l22,v25,l26,0)).bind fun (l47,v48,l49)=>some (.inl (l47,v48,l49,(IntKind.i64.wrap (v27+1))))) (some (.inr (l22,v25,l26)))) FUEL (l8,false,l11,0)).bind fun (l31,v32,l33)=>some (.inl (l31,l33,v32))) (some (.inr l8))) FUEL (([]:List Zf),[],true)).bind fun l16=>some (l16,(0:Int)))))
theorem uU {p0:(List Zc)} {p1:(List Zb)} {p2:ByteArray} {r:((List Zf)×Int)}  (h:jC p0 p1 p2=some r):PF 23 [pL Zc.enc p0,pL Zb.enc p1,pS p2] (.tup [pL Zf.enc r.1,pI r.2]):=by
 unfold jC at h
 refine bc ?_
 refine di Tryz.func23 rfl Tryz.ntmps23 Tryz.results23 rfl (aS [6,7] (by kernel_rfl) (co (aa h fun x1 hx1 h=>ap [] [23,24] [(8,pI x1)] (bh 1 (vQ hx1) bk) (by kernel_rfl) (bW (bL [25] [(26,pB (x1 != 0))] (by kernel_rfl) rfl h (fun hc2 h=>?_) fun hc2 h=>?_)))))
 ·refine ae ?_
  refine ai [27] [(6,pN),(7,pI x1)] (by kernel_rfl) (aY (iE 6 rfl (bS (am ?_))))
  obtain rfl:=osi h
  exact aN (cF (aQ rfl) (aQ rfl)) bA ⟨rfl,rfl⟩
 refine ah ?_
 refine co (aa h fun x3 hx3 h=>ap [] [28,29] [(9,pI x3)] (bh 1 (qB hx3) bk) (by kernel_rfl) (bW (bL [30] [(31,pB (x3 != 0))] (by kernel_rfl) rfl h (fun hc4 h=>?_) fun hc4 h=>?_)))
 ·refine ae ?_
  refine ai [32] [(6,pN),(7,pI x3)] (by kernel_rfl) (aY (iE 6 rfl (bS (am ?_))))
  obtain rfl:=osi h
  exact aN (cF (aQ rfl) (aQ rfl)) bA ⟨rfl,rfl⟩
 refine ah ?_
 refine co (aa h fun x5 hx5 h=>ap [] [33,34] [(35,pB (!x5))] (bh 1 (kH hx5) bk) (by kernel_rfl) (cN rfl h (fun hc6 h=>?_) fun hc6 h=>?_))
 ·refine ae ?_
  refine ak [(6,pN),(7,pI 1)] (by kernel_rfl) (aY (iE 6 rfl (bS (am ?_))))
  obtain rfl:=osi h
  exact aN (cF (aQ rfl) (aQ rfl)) bA ⟨rfl,rfl⟩
 refine ah ?_
 refine bW (ak [(10,pN)] (by kernel_rfl) (bW (ak [(11,pN)] (by kernel_rfl) (co (ak [(12,pB true)] (by kernel_rfl) (aY (cM 61 4 (iE 11 rfl (aa h fun q18 hq18 h=>?_)))))))))
 refine aq (Y:=(Option Addr×Nat)×((List Zf))) (fun ((a14,c15),l16)=>[(10,pO a14 l16.length c15)]) (fun ((a14,c15),l16)=>[PRes.row a14 l16.length c15 61 4 (List.map Zf.enc l16)]) (fun ((a14,c15),l16)=>q18=l16) ?_ ?_
 ·refine av ?_
  refine aC (Y:=Option Addr×Nat) (S:=(List Zf)×(List Za)×Bool) _ hq18 (fun (a9,c10) (l8,l11,v12)=>[(0,pL Zc.enc p0),(1,pL Zb.enc p1),(2,pS p2),(10,pO a9 l8.length c10),(11,pL Za.enc l11),(12,pB v12)]) (fun (a9,c10) (l8,l11,v12)=>[PRes.row a9 l8.length c10 61 4 (List.map Zf.enc l8)]) (none,0) (qP rfl) cI ?_
  rintro ⟨a9,c10⟩ ⟨l8,l11,v12⟩ o τ hb17;(try dsimp only at hb17);dsimp only [aw]
  refine de (ak [(36,pB v12)] (by kernel_rfl) (cN rfl hb17 (fun hc20 hb17=>?_) fun hc20 hb17=>?_))
  ·refine ah ?_
   refine aY (qy (ak [(12,pB false)] (by kernel_rfl) (bW (ai [37] [(13,pL Za.enc l11)] (by kernel_rfl) (co (ak [(14,pI 0)] (by kernel_rfl) (fG hb17 fun q35 hq35 hb17=>?_)))))))
   refine aq (Y:=(Option Addr×Nat)×((List Zf)×Bool×(List Za))) (fun ((a29,c30),(l31,v32,l33))=>[(0,pL Zc.enc p0),(1,pL Zb.enc p1),(2,pS p2),(10,pO a29 l31.length c30),(12,pB v32),(13,pL Za.enc l33)]) (fun ((a29,c30),(l31,v32,l33))=>[PRes.row a29 l31.length c30 61 4 (List.map Zf.enc l31)]) (fun ((a29,c30),(l31,v32,l33))=>q35=(l31,v32,l33)) ?_ ?_
   ·refine av ?_
    refine aC (Y:=Option Addr×Nat) (S:=(List Zf)×Bool×(List Za)×Int) _ hq35 (fun (a23,c24) (l22,v25,l26,v27)=>[(0,pL Zc.enc p0),(1,pL Zb.enc p1),(2,pS p2),(10,pO a23 l22.length c24),(11,pL Za.enc l11),(12,pB v25),(13,pL Za.enc l26),(14,pI v27)]) (fun (a23,c24) (l22,v25,l26,v27)=>[PRes.row a23 l22.length c24 61 4 (List.map Zf.enc l22)]) (a9,c10) (r5 rfl) cI ?_
    rintro ⟨a23,c24⟩ ⟨l22,v25,l26,v27⟩ o τ hb34;(try dsimp only at hb34);dsimp only [aw]
    refine de (bL [38,39,40] [(41,pB (decide (v27<(p0.length:Int))))] (by kernel_rfl) rfl hb34 (fun hc36 hb34=>?_) fun hc36 hb34=>?_)
    ·refine ah ?_
     refine dG (ak [(15,pI 0)] (by kernel_rfl) (fG hb34 fun q51 hq51 hb34=>?_))
     refine iW (Y:=(Option Addr×Nat)×((List Zf)×Bool×(List Za))) (fun ((a45,c46),(l47,v48,l49))=>[(0,pL Zc.enc p0),(1,pL Zb.enc p1),(2,pS p2),(10,pO a45 l47.length c46),(11,pL Za.enc l11),(12,pB v48),(13,pL Za.enc l49),(14,pI v27)]) (fun ((a45,c46),(l47,v48,l49))=>[PRes.row a45 l47.length c46 61 4 (List.map Zf.enc l47)]) (fun ((a45,c46),(l47,v48,l49))=>q51=(l47,v48,l49)) ?_ ?_
     ·refine av ?_
      refine aC (Y:=Option Addr×Nat) (S:=(List Zf)×Bool×(List Za)×Int) _ hq51 (fun (a39,c40) (l38,v41,l42,v43)=>[(0,pL Zc.enc p0),(1,pL Zb.enc p1),(2,pS p2),(10,pO a39 l38.length c40),(11,pL Za.enc l11),(12,pB v41),(13,pL Za.enc l42),(14,pI v27),(15,pI v43)]) (fun (a39,c40) (l38,v41,l42,v43)=>[PRes.row a39 l38.length c40 61 4 (List.map Zf.enc l38)]) (a23,c24) (r6 rfl) cI ?_
      rintro ⟨a39,c40⟩ ⟨l38,v41,l42,v43⟩ o τ hb50;(try dsimp only at hb50);dsimp only [aw]
      refine de (bL [44,45,46] [(47,pB (decide (v43<(p1.length:Int))))] (by kernel_rfl) rfl hb50 (fun hc52 hb50=>?_) fun hc52 hb50=>?_)
      ·refine ah ?_
       refine dc hb50 fun q59 hq59 hb50=>?_
       refine aq (Y:=(Option Addr×Nat)×((List Zf)×Bool×(List Za))) (fun ((a54,c55),(l56,v57,l58))=>[(0,pL Zc.enc p0),(1,pL Zb.enc p1),(2,pS p2),(10,pO a54 l56.length c55),(11,pL Za.enc l11),(12,pB v57),(13,pL Za.enc l58),(14,pI v27),(15,pI v43)]) (fun ((a54,c55),(l56,v57,l58))=>[PRes.row a54 l56.length c55 61 4 (List.map Zf.enc l56)]) (fun ((a54,c55),(l56,v57,l58))=>q59=(l56,v57,l58)) ?_ ?_
       ·skip
        refine qy (bi (ρd:=[]) [(0,0),(1,0),(2,0),(3,0),(4,0),(5,0),(6,0),(7,0),(8,0),(9,0),(10,0),(11,1),(12,1)] _ (List.Perm.refl _) (by kernel_rfl) rfl (aa hq59 fun m60 hm60 hq59=>aa hq59 fun m61 hm61 hq59=>bt 10 [] [50,51,52,53,55,56,57,58] [(54,pI m60.ID),(59,pI m61.ID)] (cG 2 Zc.enc hm60 (cG 7 Zb.enc hm61 bk)) (by kernel_rfl) (ld rfl rfl rfl (sk (cs:=[pI m60.ID,pI m61.ID]) rfl rfl rfl rfl rfl rfl rfl (D4 rfl rfl rfl rfl oG (D4 rfl rfl rfl rfl (el oG) zfn))) (im rfl rfl rfl (aK (cs:=[pI 0,pI 0]) rfl rfl rfl rfl (fun b62=>xy rfl rfl (al (vs:=[pI m60.ID,pI m61.ID]) rfl rfl rfl rfl rfl cg rZ (bx (co (aa hq59 fun x63 hx63 hq59=>aa hq59 fun x64 hx64 hq59=>ap [0,0] (rg 61 10) [(71,pB (x63||(!x64)))] (bh 2 (jZ hx63) (ee 8 (fun hc=>lM (cA hx64 hc)) bk)) (by kernel_rfl) (cN rfl hq59 (fun hc65 hq59=>?_) fun hc65 hq59=>?_)))))))))))
        ·refine aH ?_
         refine gI (aj rfl ?_)
         obtain rfl:=osi hq59
         exact az ((a39,c40),(l38,v41,l42)) (r6 rfl) (bd (aB aM) bA) rfl
        refine ah ?_
        refine dc hq59 fun x66 hx66 hq59=>af (aX 9 [0] ((rg 73 6)++[72]) [(79,.agg (bz x66.1)),(80,pL Za.enc x66.2)] (bh 5 (tA hx66) bk) (by kernel_rfl) (an rfl (aK (cs:=[pS ByteArray.empty,pI 0,pB false,pN,pN]) rfl rfl rfl rfl (fun b67=>aP rfl rfl (al (vs:=(bz x66.1)) rfl rfl rfl rfl rfl cg Fx (aL [(18,pL Za.enc x66.2)] (by kernel_rfl) (bW (bi (ρd:=[]) [(0,0),(1,0),(2,0),(3,0),(4,0),(5,0),(6,0),(7,0),(8,0),(9,1),(10,0),(11,0),(12,0),(13,2),(14,1),(15,0)] _ (List.Perm.refl _) (by kernel_rfl) rfl (aa hq59 fun m68 hm68 hq59=>aa hq59 fun m69 hm69 hq59=>aa hq59 fun x70 hx70 hq59=>bt 13 [] ((rg 82 10)++[81]) [(92,.agg (ar x70.1)),(93,pB x70.2)] (cG 2 Zb.enc hm68 (cG 6 Zc.enc hm69 (bh 9 (oK hx70) bk))) (by kernel_rfl) (rD (sT rfl rfl rfl rfl rfl) (fun _=>rfl) rfl (fun b71=>xy rfl rfl (al (vs:=(ar x70.1)) rfl rfl rfl rfl rfl cg nf (EE 1 [20] (by kernel_rfl) (bx (dc hq59 fun x72 hx72 hq59=>ap [0,1] [95,96,97,94,98,99] [(21,pL eI x72.1),(22,pB x72.2)] (bh 2 (sA hx72) bk) (by kernel_rfl) (bW (ak [(100,pB x72.2)] (by kernel_rfl) (cN rfl hq59 (fun hc73 hq59=>?_) fun hc73 hq59=>?_))))))))))))))))))
        ·refine ae ?_
         refine af (cB 5 [2] [102,103,104] [(101,pO a39 l38.length c40),(105,.agg [pI m60.ID,pI m61.ID,pL eI x72.1,pL Za.enc x66.2])] (by kernel_rfl) (an rfl (bM rfl rfl rfl rfl rfl (gr rfl jJ) rfl rfl rfl rfl (fun b74=>aa hq59 fun l76 hl76 hq59=>?_))))
         refine an rfl (bZ (enc:=Zf.enc) rfl rfl rfl rfl rfl rfl rfl rfl rfl fT (by exact aB (aB (aB (aB aM)))) hl76 (fun a77 c78=>?_))
         refine aL [(10,pO a77 l76.length c78)] (by kernel_rfl) (fG hq59 fun x80 hx80 hq59=>ap [4] [108,109,110] [(13,pL Za.enc x80),(12,pB true)] (bh 2 (kU hx80) bk) (by kernel_rfl) (aD ?_))
         obtain rfl:=osi hq59
         exact az ((a77,c78),(l76,true,x80)) (r6 rfl) cI rfl
        refine ah ?_
        refine aD ?_
        obtain rfl:=osi hq59
        exact az ((a39,c40),(l38,v41,l42)) (r6 rfl) (bd (aB (aB (aB aM))) bA) rfl
       rintro ⟨⟨a54,c55⟩,⟨l56,v57,l58⟩⟩ τ hz;(try dsimp only at hz);subst q59;(try dsimp only at hb50);dsimp only [aw]
       refine ai [48,49] [(15,pI (IntKind.i64.wrap (v43+1)))] (by kernel_rfl) ?_
       exact aU hb50 (a54,c55) (r6 rfl) cI
      refine aH ?_
      refine cj hb50 (fun ht=>aj rfl ?_)
      exact gK ((a39,c40),(l38,v41,l42)) (r5 rfl) cI ht.symm
     rintro ⟨⟨a45,c46⟩,⟨l47,v48,l49⟩⟩ τ ρ1 hsub81 hz;(try dsimp only at hz hsub81);subst q51;(try dsimp only at hb34);dsimp only [aw]
     refine dI (n4 hsub81 (ai [42,43] [(14,pI (IntKind.i64.wrap (v27+1)))] (by kernel_rfl) ?_))
     exact aU hb34 (a45,c46) (r5 rfl) cI
    refine aH ?_
    refine cj hb34 (fun ht=>aj rfl ?_)
    exact az ((a23,c24),(l22,v25,l26)) (qP rfl) cI ht.symm
   rintro ⟨⟨a29,c30⟩,⟨l31,v32,l33⟩⟩ τ hz;(try dsimp only at hz);subst q35;(try dsimp only at hb17);dsimp only [aw]
   refine ai [111] [(11,pL Za.enc l33)] (by kernel_rfl) (aD ?_)
   exact aU hb17 (a29,c30) (qP rfl) cI
  refine aH ?_
  refine cj hb17 (fun ht=>aj rfl ?_)
  exact az ((a9,c10),l8) (rq rfl) cI ht.symm
 rintro ⟨⟨a14,c15⟩,l16⟩ τ hz;(try dsimp only at hz);subst q18;(try dsimp only at h);dsimp only [aw]
 refine ae (ai [112] [(6,pO a14 l16.length c15),(7,pI 0)] (by kernel_rfl) (aY ?_))
 refine fa (enc:=Zf.enc) (xs:=l16) 6 rfl (by exact aM) ?_
 refine bS ?_
 obtain rfl:=osi h
 exact aN (cF (aQ rfl) (aQ rfl)) bA ⟨rfl,rfl⟩
def bN (p0:(List Zc)) (p1:(Zc→Option Bool)):Option Int:=(aW (S:=Int) (T:=(Unit)⊕(_)) (fun v1=>cond (decide (v1<(p0.length:Int))) ((idx p0 v1).bind fun m5=>(p1 m5).bind fun x6=>cond x6 (some (.inr (.inr v1))) (some (.inl (IntKind.i64.wrap (v1+1))))) (some (.inr (.inl ())))) FUEL 0).bind fun q=>match q with | .inl _=>some (-1) | .inr e=>some e
theorem gH {p0:(List Zc)} {p1:(Zc→Option Bool)} {r:Int} {g1:PV} (hg1:∀ {y0:Zc} {w:Bool},p1 y0=some w→PFV g1 [.agg (aI y0)] (pB w)) (h:bN p0 p1=some r):PF 187 [pL Zc.enc p0,g1] (pI r):=by
 unfold bN at h
 refine bc ?_
 refine di Tryz.func187 rfl Tryz.ntmps187 Tryz.results187 rfl (aS [4] (by kernel_rfl) (co (ai [6] [(7,pI (p0.length:Int)),(8,pI 0)] (by kernel_rfl) (fG h fun q3 hq3 h=>?_))))
 refine aq (Y:=Unit×Unit) (fun (_,_)=>[]) (fun (_,_)=>[]) (fun (_,_)=>q3=Sum.inl ()) ?_ ?_
 ·refine av ?_
  refine aC (Y:=Unit) (S:=Int) _ hq3 (fun _ v1=>[(0,pL Zc.enc p0),(1,g1),(7,pI (p0.length:Int)),(8,pI v1)]) (fun _ v1=>[]) () (iQ rfl) bA ?_
  rintro _ v1 o τ hb2;(try dsimp only at hb2);dsimp only [aw]
  refine ae (ak [(9,pB (decide (v1<(p0.length:Int))))] (by kernel_rfl) (bW (ki rfl hb2 (fun hc4 hb2=>?_) fun hc4 hb2=>?_)))
  ·refine ah ?_
   refine dG (ai [10] [(5,pI v1)] (by kernel_rfl) (dc hb2 fun m5 hm5 hb2=>aa hb2 fun x6 hx6 hb2=>ap [] (rg 11 5) [(16,pB x6)] (cG 3 Zc.enc hm5 (CG 5 (hg1 hx6) bk)) (by kernel_rfl) (cN rfl hb2 (fun hc7 hb2=>?_) fun hc7 hb2=>?_)))
   ·refine ae ?_
    refine ai [17] [(4,pI v1)] (by kernel_rfl) (cW (dO ?_))
    refine au hb2 (fun ht=>?_);subst ht
    refine cO ?_
    exact zz r h rfl
   refine ah ?_
   refine dI (ai [18] [(8,pI (IntKind.i64.wrap (v1+1)))] (by kernel_rfl) ?_)
   exact aU hb2 () (iQ rfl) bA
  refine aH ?_
  refine cj hb2 (fun ht=>aj rfl ?_)
  exact az ((),()) oF bA ht.symm
 rintro ⟨_,_⟩ τ hz;(try dsimp only at hz);subst q3;(try dsimp only at h);dsimp only [aw]
 refine ae (cU [(4,pI (-1))] (by kernel_rfl) ?_)
 exact zz r h rfl
def bD (p0:(List Zc)) (p1:(Zc→Option Bool)):Option Bool:=(bN p0 p1).bind fun x1=>some (decide (0≤x1))
theorem gp {p0:(List Zc)} {p1:(Zc→Option Bool)} {r:Bool} {g1:PV} (hg1:∀ {y0:Zc} {w:Bool},p1 y0=some w→PFV g1 [.agg (aI y0)] (pB w)) (h:bD p0 p1=some r):PF 162 [pL Zc.enc p0,g1] (pB r):=by
 unfold bD at h
 refine bc ?_
 refine di Tryz.func162 rfl Tryz.ntmps162 Tryz.results162 rfl (aS [4] (by kernel_rfl) (dc h fun x1 hx1 h=>ap [] [5,6,7,8] [(4,pB (decide (0≤x1)))] (bh 2 (gH hg1 hx1) bk) (by kernel_rfl) (cW ?_)))
 exact zz r h rfl
def cr (p0:Zc) (p1:Zh):Option Bool:=some (p0.ID == p1.Product)
theorem kM {p0:Zc} {p1:Zh} {r:Bool}  (h:cr p0 p1=some r):PF 163 [.agg (aI p0),.ref [pI p1.Product,pI p1.Value] 0] (pB r):=by
 unfold cr at h
 refine bc ?_
 refine di Tryz.func163 rfl Tryz.ntmps163 Tryz.results163 rfl (cX rfl (bf (cs:=(aI p0)) rfl rfl (fun b1=>aZ [3] (by kernel_rfl) (bW (aJ [0] (rg 4 5) [(3,pB (p0.ID == p1.Product))] (by kernel_rfl) (cW ?_))))))
 exact zz r h rfl
def dj (p0:(List Zc)) (p1:(List Zh)):Option Int:=(aW (S:=Int) (T:=(Unit)⊕(_)) (fun v1=>cond (decide (v1<(p1.length:Int))) ((idx p1 v1).bind fun m5=>(gd (decide (0<v1)) (idx p1 (IntKind.i64.wrap (v1 - 1)))).bind fun m7=>cond ((decide (0<v1))&&(decide (m5.Product≤m7.Product))) (some (.inr (.inr (9:Int)))) ((bD p0 (fun y9=>cr y9 m5)).bind fun x10=>cond (!x10) (some (.inr (.inr (6:Int)))) (cond ((decide (m5.Value<0))||(decide (1000000000000<m5.Value))) (some (.inr (.inr (2:Int)))) (some (.inl (IntKind.i64.wrap (v1+1))))))) (some (.inr (.inl ())))) FUEL 0).bind fun q=>match q with | .inl _=>some (0:Int) | .inr e=>some e
theorem lB {p0:(List Zc)} {p1:(List Zh)} {r:Int}  (h:dj p0 p1=some r):PF 119 [pL Zc.enc p0,pL Zh.enc p1] (pI r):=by
 unfold dj at h
 refine bc ?_
 refine di Tryz.func119 rfl Tryz.ntmps119 Tryz.results119 rfl (aS [4] (by kernel_rfl) (co (ak [(7,pL Zh.enc p1),(8,pI (p1.length:Int)),(9,pI 0)] (by kernel_rfl) (fG h fun q3 hq3 h=>?_))))
 refine aq (Y:=Unit×Unit) (fun (_,_)=>[]) (fun (_,_)=>[]) (fun (_,_)=>q3=Sum.inl ()) ?_ ?_
 ·refine av ?_
  refine aC (Y:=Unit) (S:=Int) _ hq3 (fun _ v1=>[(0,pL Zc.enc p0),(1,pL Zh.enc p1),(7,pL Zh.enc p1),(8,pI (p1.length:Int)),(9,pI v1)]) (fun _ v1=>[]) () (mT rfl) bA ?_
  rintro _ v1 o τ hb2;(try dsimp only at hb2);dsimp only [aw]
  refine ae (ak [(10,pB (decide (v1<(p1.length:Int))))] (by kernel_rfl) (bW (ki rfl hb2 (fun hc4 hb2=>?_) fun hc4 hb2=>?_)))
  ·refine ah ?_
   refine dG (aa hb2 fun m5 hm5 hb2=>af (aX 3 [] [12] [(11,pI v1),(13,.agg [pI m5.Product,pI m5.Value])] (cG 1 Zh.enc hm5 bk) (by kernel_rfl) (an rfl (aK (cs:=[pI 0,pI 0]) rfl rfl rfl rfl (fun b6=>aG 1 [(5,pI v1)] (by kernel_rfl) (aP rfl rfl (al (vs:=[pI m5.Product,pI m5.Value]) rfl rfl rfl rfl rfl cg rZ (aF (co (bi (ρd:=[]) [(0,0),(1,0),(2,0),(3,0),(4,0),(5,0),(6,0),(7,0),(8,0),(9,0),(10,0),(11,0),(12,0)] _ (List.Perm.refl _) (by kernel_rfl) rfl (aa hb2 fun m7 hm7 hb2=>bt 13 [0] (rg 14 12) [(26,pB ((decide (0<v1))&&(decide (m5.Product≤m7.Product))))] (eQ 8 Zh.enc (cA hm7) bk) (by kernel_rfl) (bx (cN rfl hb2 (fun hc8 hb2=>?_) fun hc8 hb2=>?_)))))))))))))
   ·refine ae ?_
    refine cU [(4,pI 9)] (by kernel_rfl) (am (dO ?_))
    refine au hb2 (fun ht=>?_);subst ht
    refine cO ?_
    exact zz r h rfl
   refine ah ?_
   refine co (af (aG 1 [(27,pL Zc.enc p0)] (by kernel_rfl) ?_))
   refine xt 6 rfl (by exact aM) ?_
   refine aa hb2 fun x10 hx10 hb2=>iH [] [28,29] [(30,pB (!x10))] (bh 1 (gp (fun hr=>se (kM hr)) hx10) bk) (by kernel_rfl) (cN rfl hb2 (fun hc11 hb2=>?_) fun hc11 hb2=>?_)
   ·refine ae ?_
    refine cU [(4,pI 6)] (by kernel_rfl) (am (dO ?_))
    refine au hb2 (fun ht=>?_);subst ht
    refine cO ?_
    exact zz r h rfl
   refine ah ?_
   refine bW (bL (rg 31 7) [(38,pB ((decide (m5.Value<0))||(decide (1000000000000<m5.Value))))] (by kernel_rfl) rfl hb2 (fun hc12 hb2=>?_) fun hc12 hb2=>?_)
   ·refine ae ?_
    refine cU [(4,pI 2)] (by kernel_rfl) (dO ?_)
    refine au hb2 (fun ht=>?_);subst ht
    refine cO ?_
    exact zz r h rfl
   refine ah ?_
   refine dI (ai [39] [(9,pI (IntKind.i64.wrap (v1+1)))] (by kernel_rfl) ?_)
   exact aU hb2 () (mT rfl) bA
  refine aH ?_
  refine cj hb2 (fun ht=>aj rfl ?_)
  exact az ((),()) oF bA ht.symm
 rintro ⟨_,_⟩ τ hz;(try dsimp only at hz);subst q3;(try dsimp only at h);dsimp only [aw]
 refine ae (cU [(4,pI 0)] (by kernel_rfl) ?_)
 exact zz r h rfl
def dl (p0:Za) (p1:Za):Option Int:=(dC p0.Product p1.Product).bind fun x3=>(dC p0.Agreement p1.Agreement).bind fun x4=>(kE [x3,x4]).bind fun x6=>some x6
theorem hQ {p0:Za} {p1:Za} {r:Int}  (h:dl p0 p1=some r):PF 81 [.agg [pI p0.Product,pI p0.Agreement],.agg [pI p1.Product,pI p1.Agreement]] (pI r):=by
 unfold dl at h
 refine bc ?_
 refine di Tryz.func81 rfl Tryz.ntmps81 Tryz.results81 rfl (cX rfl (bf (cs:=[pI p0.Product,pI p0.Agreement]) rfl rfl (fun b1=>an rfl (bf (cs:=[pI p1.Product,pI p1.Agreement]) rfl rfl (fun b2=>aZ [4] (by kernel_rfl) (bW (bi (ρd:=[]) [(0,0),(1,0),(2,0),(3,0),(5,0),(6,0),(7,0),(8,0),(4,1),(9,1),(10,1),(11,1),(12,0)] _ (List.Perm.refl _) (by kernel_rfl) rfl (aa h fun x3 hx3 h=>aa h fun x4 hx4 h=>bt 10 [1,0,1,0] [5,6,7,8,10,11,12,13] [(9,pI x3),(14,pI x4)] (bh 8 (fx hx3) (bh 9 (fx hx4) bk)) (by kernel_rfl) ?_))))))))
 refine im rfl rfl rfl (pl_fz (bM rfl rfl rfl rfl rfl (gr rfl (gr rfl jJ)) rfl rfl rfl rfl (fun b5=>⟨_,_,_,_,_,_,_,rfl,by (repeat (first | exact aM | apply aB)),?_⟩)))
 refine aa h fun x6 hx6 h=>bt 2 [] [16] [(4,pI x6)] (bh 0 (qF hx6) bk) (by kernel_rfl) (bx (cW ?_))
 exact zz r h rfl
def fI (p0:Zr) (p1:Za):Option Bool:=some ((kz p0.claims p1).getD false)
theorem jb {p0:Zr} {p1:Za} {m0_claims:Nat} {r:Bool}  (h:fI p0 p1=some r):PCall 121 [.agg [.v (.map (some m0_claims))],.agg [pI p1.Product,pI p1.Agreement]] [PRes.mp (some m0_claims) (fP Za.key vT p0.claims)] (fun pv ρ'=>pv=pB r∧ρ'=[PRes.mp (some m0_claims) (fP Za.key vT p0.claims)]):=by
 unfold fI at h
 refine di Tryz.func121 rfl Tryz.ntmps121 Tryz.results121 rfl (cX rfl (bf (cs:=[.v (.map (some m0_claims))]) rfl rfl (fun b1=>an rfl (bf (cs:=[pI p1.Product,pI p1.Agreement]) rfl rfl (fun b2=>aZ [4] (by kernel_rfl) (bW (af (cB 3 [1,0] [5] [(6,.v (.map (some m0_claims))),(7,.agg [pI p1.Product,pI p1.Agreement])] (by kernel_rfl) (cd rfl rfl rfl (show POpQ _ _ _ _ (pB ((kz p0.claims p1).getD false)) from wy (xs:=p0.claims) (k:=p1) (ek:=Za.key) (vv:=vT) (z0:=false) rfl rfl rfl (fun _=>.v rfl) Za.kenc28 (.p rfl) (.p rfl) xK (zh vH)) (aL [(4,pB ((kz p0.claims p1).getD false))] (by kernel_rfl) (cW ?_)))))))))))
 obtain rfl:=osi h
 exact aN (dh (aQ rfl)) (bd (aB (aB aM)) bA) ⟨rfl,rfl⟩
def cC (p0:(List Za)) (p1:(List Za)):Option Bool:=cond ((p0.length:Int) != (p1.length:Int)) (some false) ((aW (S:=Int) (T:=(Unit)⊕(_)) (fun v2=>cond (decide (v2<(p0.length:Int))) ((idx p0 v2).bind fun m6=>(idx p1 v2).bind fun m7=>cond (!(Za.eqb m6 m7)) (some (.inr (.inr false))) (some (.inl (IntKind.i64.wrap (v2+1))))) (some (.inr (.inl ())))) FUEL 0).bind fun q=>match q with | .inl _=>some true | .inr e=>some e)
theorem gh {p0:(List Za)} {p1:(List Za)} {r:Bool}  (h:cC p0 p1=some r):PF 122 [pL Za.enc p0,pL Za.enc p1] (pB r):=by
 unfold cC at h
 refine bc ?_
 refine di Tryz.func122 rfl Tryz.ntmps122 Tryz.results122 rfl (aS [4] (by kernel_rfl) (co (bL [6,7,8,9] [(10,pB ((p0.length:Int) != (p1.length:Int)))] (by kernel_rfl) rfl h (fun hc1 h=>?_) fun hc1 h=>?_)))
 ·refine ae ?_
  refine cU [(4,pB false)] (by kernel_rfl) (am ?_)
  exact zz r h rfl
 refine ah ?_
 refine co (ai [11] [(12,pI (p0.length:Int)),(13,pI 0)] (by kernel_rfl) (fG h fun q4 hq4 h=>?_))
 refine aq (Y:=Unit×Unit) (fun (_,_)=>[]) (fun (_,_)=>[]) (fun (_,_)=>q4=Sum.inl ()) ?_ ?_
 ·refine av ?_
  refine aC (Y:=Unit) (S:=Int) _ hq4 (fun _ v2=>[(0,pL Za.enc p0),(1,pL Za.enc p1),(12,pI (p0.length:Int)),(13,pI v2)]) (fun _ v2=>[]) () (iQ rfl) bA ?_
  rintro _ v2 o τ hb3;(try dsimp only at hb3);dsimp only [aw]
  refine ae (ak [(14,pB (decide (v2<(p0.length:Int))))] (by kernel_rfl) (bW (ki rfl hb3 (fun hc5 hb3=>?_) fun hc5 hb3=>?_)))
  ·refine ah ?_
   refine dG (ai [15] [(5,pI v2)] (by kernel_rfl) (bW (bi (ρd:=[]) [(0,0),(1,0),(2,0),(3,0),(4,0),(5,0),(6,0),(7,0),(8,0)] _ (List.Perm.refl _) (by kernel_rfl) rfl (aa hb3 fun m6 hm6 hb3=>aa hb3 fun m7 hm7 hb3=>bt 9 [] (rg 16 8) [(24,pB (!(Za.eqb m6 m7)))] (cG 2 Za.enc hm6 (cG 6 Za.enc hm7 (CF 8 Za.eqok28 bk))) (by kernel_rfl) (bx (cN rfl hb3 (fun hc8 hb3=>?_) fun hc8 hb3=>?_))))))
   ·refine ae ?_
    refine cU [(4,pB false)] (by kernel_rfl) (dO ?_)
    refine au hb3 (fun ht=>?_);subst ht
    refine cO ?_
    exact zz r h rfl
   refine ah ?_
   refine dI (ai [25] [(13,pI (IntKind.i64.wrap (v2+1)))] (by kernel_rfl) ?_)
   exact aU hb3 () (iQ rfl) bA
  refine aH ?_
  refine cj hb3 (fun ht=>aj rfl ?_)
  exact az ((),()) oF bA ht.symm
 rintro ⟨_,_⟩ τ hz;(try dsimp only at hz);subst q4;(try dsimp only at h);dsimp only [aw]
 refine ae (cU [(4,pB true)] (by kernel_rfl) ?_)
 exact zz r h rfl
def jc (rec:Zd→Option Zg) (p0:Zd):Option Zg:=(aW (S:=(List Zg)×Int) (T:=((List Zg))) (fun (l3,v6)=>cond (decide (v6<(p0.Args.length:Int))) ((idx p0.Args v6).bind fun m15=>(rec m15).bind fun x17=>(app 16 l3 [x17]).bind fun l20=>some (.inl (l20,(IntKind.i64.wrap (v6+1))))) (some (.inr l3))) FUEL (([]:List Zg),0)).bind fun l10=>cond (p0.Kind == 5) (some (Zg.every_ l10)) (cond (p0.Kind == 6) (some (Zg.some_ l10)) (some (Zg.single_ (⟨p0⟩:Zu))))
theorem sB {rec:Zd→Option Zg} (hrec:∀ {p0:Zd} {r:Zg},rec p0=some r→PF 127 [.agg (ar p0)] (Zg.pv r)) {p0:Zd} {r:Zg} (h:jc rec p0=some r):PF 127 [.agg (ar p0)] (Zg.pv r):=by
 unfold jc at h
 refine bc ?_
 refine di Tryz.func127 rfl Tryz.ntmps127 Tryz.results127 rfl (cX rfl (bf (cs:=(ar p0)) rfl rfl (fun b1=>aZ [2] (by kernel_rfl) (bW (ak [(3,pN)] (by kernel_rfl) (co (aJ [0] [6] [(7,pL Zd.enc p0.Args),(8,pI (p0.Args.length:Int)),(9,pI 0)] (by kernel_rfl) (aY (cM 181 1 (aa h fun q12 hq12 h=>?_))))))))))
 refine aq (Y:=(Option Addr×Nat)×((List Zg))) (fun ((a8,c9),l10)=>[(1,pP b1 0),(3,pO a8 l10.length c9)]) (fun ((a8,c9),l10)=>[PRes.b b1 84 (ar p0),PRes.row a8 l10.length c9 181 1 (List.map Zg.enc l10)]) (fun ((a8,c9),l10)=>q12=l10) ?_ ?_
 ·refine av ?_
  refine aC (Y:=Option Addr×Nat) (S:=(List Zg)×Int) _ hq12 (fun (a4,c5) (l3,v6)=>[(1,pP b1 0),(3,pO a4 l3.length c5),(7,pL Zd.enc p0.Args),(8,pI (p0.Args.length:Int)),(9,pI v6)]) (fun (a4,c5) (l3,v6)=>[PRes.b b1 84 (ar p0),PRes.row a4 l3.length c5 181 1 (List.map Zg.enc l3)]) (none,0) (mT rfl) (bd (aB aM) cI) ?_
  rintro ⟨a4,c5⟩ ⟨l3,v6⟩ o τ hb11;(try dsimp only at hb11);dsimp only [aw]
  refine ae (ak [(10,pB (decide (v6<(p0.Args.length:Int))))] (by kernel_rfl) (bW (ki rfl hb11 (fun hc14 hb11=>?_) fun hc14 hb11=>?_)))
  ·refine ah ?_
   refine dG (aa hb11 fun m15 hm15 hb11=>af (aX 2 [] [11] [(12,.agg (ar m15))] (oH 0 Zd.enc (Zd.enc_eq _) hm15 bk) (by kernel_rfl) (an rfl (aK (cs:=[pI 0,pI 0,pN,pI 0,pI 0,pS ByteArray.empty,pN]) rfl rfl rfl rfl (fun b16=>aP rfl rfl (al (vs:=(ar m15)) rfl rfl rfl rfl rfl cg nf (aF (fG hb11 fun x17 hx17 hb11=>af (aX 3 [0] [14] [(13,pO a4 l3.length c5),(15,Zg.pv x17)] (bh 2 (hrec hx17) bk) (by kernel_rfl) (an rfl (bM rfl rfl rfl rfl rfl (gr rfl jJ) rfl rfl rfl rfl (fun b18=>aa hb11 fun l20 hl20 hb11=>?_))))))))))))
   refine an rfl (bZ (enc:=Zg.enc) rfl rfl rfl rfl rfl rfl rfl rfl rfl fT (by exact aB (aB (aB aM))) hl20 (fun a21 c22=>?_))
   refine aL [(3,pO a21 l20.length c22)] (by kernel_rfl) (dI (ai [18] [(9,pI (IntKind.i64.wrap (v6+1)))] (by kernel_rfl) ?_))
   exact aU hb11 (a21,c22) (mT rfl) (bd (aB (aB (aB aM))) cI)
  refine aH ?_
  refine cj hb11 (fun ht=>aj rfl ?_)
  exact az ((a4,c5),l3) (mn rfl) oX ht.symm
 rintro ⟨⟨a8,c9⟩,l10⟩ τ hz;(try dsimp only at hz);subst q12;(try dsimp only at h);dsimp only [aw]
 refine de (aJ [0] [19] [(20,pI p0.Kind)] (by kernel_rfl) (aY (qy (bL [22] [(21,pB (p0.Kind == 5))] (by kernel_rfl) rfl h (fun hc24 h=>?_) fun hc24 h=>?_))))
 ·refine ae ?_
  refine af (aG 1 [(23,pO a8 l10.length c9)] (by kernel_rfl) ?_)
  refine gw (enc:=Zg.enc) (xs:=l10) 23 rfl (by exact aB aM) ?_
  refine aG 1 [(24,.ifc 223 (pL Zg.enc l10))] (by kernel_rfl) (wB 24 rfl (Zg.pv_every_ l10) (aL [(2,Zg.pv (Zg.every_ l10))] (by kernel_rfl) (cW (dO ?_))))
  exact zz r h rfl
 refine ae ?_
 refine bL [26] [(25,pB (p0.Kind == 6))] (by kernel_rfl) rfl h (fun hc25 h=>?_) fun hc25 h=>?_
 ·refine ae ?_
  refine af (aG 1 [(27,pO a8 l10.length c9)] (by kernel_rfl) ?_)
  refine gw (enc:=Zg.enc) (xs:=l10) 27 rfl (by exact aB aM) ?_
  refine aG 1 [(28,.ifc 224 (pL Zg.enc l10))] (by kernel_rfl) (wB 28 rfl (Zg.pv_some_ l10) (aL [(2,Zg.pv (Zg.some_ l10))] (by kernel_rfl) (cW (dO ?_))))
  exact zz r h rfl
 refine ah ?_
 refine aD (bW (aJ [0] [29,30,31] [(2,Zg.pv (Zg.single_ (⟨p0⟩:Zu)))] (by kernel_rfl) (cW ?_)))
 exact zz r h rfl
def jd (n:Nat):Zd→Option Zg:=Nat.rec (motive:=fun _=>Zd→Option Zg) (fun _=>none) (fun _ ih=>jc ih) n
def pu (p0:Zd):Option Zg:=jd FUEL p0
theorem tE (n:Nat):∀ {p0:Zd} {r:Zg},jd n p0=some r→PF 127 [.agg (ar p0)] (Zg.pv r):=by
 induction n with
 | zero=>intros;rename_i h;exact nomatch h
 | succ n ih=>intros;rename_i h;exact sB (fun hr=>ih hr) h
theorem uV {p0:Zd} {r:Zg} (h:pu p0=some r):PF 127 [.agg (ar p0)] (Zg.pv r):=tE FUEL h
def iR (rec:Zg→Zm→(List Int)→Option ((List Int)×Bool)) (p0:(List Zg)) (p1:Zm) (p2:(List Int)):Option ((List Int)×Bool):=(aW (S:=(List Int)×Int) (T:=((List Int))⊕(_)) (fun (l2,v3)=>cond (decide (v3<(p0.length:Int))) ((idx p0 v3).bind fun m8=>(rec m8 p1 l2).bind fun x9=>cond (!x9.2) (some (.inr (.inr ([],false)))) (some (.inl (x9.1,(IntKind.i64.wrap (v3+1)))))) (some (.inr (.inl l2)))) FUEL (p2,0)).bind fun q=>match q with | .inl l4=>some (l4,true) | .inr e=>some e
theorem oh {rec:Zg→Zm→(List Int)→Option ((List Int)×Bool)} (hrec:∀ {x:Zg} {y0:Zm} {y1:(List Int)} {w:((List Int)×Bool)},rec x y0 y1=some w→PFI x.pv "customs/rule.follow" [.agg (bz y0),pL eI y1] (.tup [pL eI w.1,pB w.2])) {p0:(List Zg)} {p1:Zm} {p2:(List Int)} {r:((List Int)×Bool)} (h:iR rec p0 p1 p2=some r):PF 242 [pL Zg.enc p0,.agg (bz p1),pL eI p2] (.tup [pL eI r.1,pB r.2]):=by
 unfold iR at h
 refine bc ?_
 refine di Tryz.func242 rfl Tryz.ntmps242 Tryz.results242 rfl (cX rfl (bf (cs:=(bz p1)) rfl rfl (fun b1=>aZ [6,7] (by kernel_rfl) (co (ak [(12,pL Zg.enc p0),(13,pI (p0.length:Int)),(14,pI 0)] (by kernel_rfl) (fG h fun q6 hq6 h=>?_))))))
 refine aq (Y:=Unit×((List Int))) (fun (_,l4)=>[(2,pL eI l4)]) (fun (_,l4)=>[]) (fun (_,l4)=>q6=Sum.inl l4) ?_ ?_
 ·refine av ?_
  refine aC (Y:=Unit) (S:=(List Int)×Int) _ hq6 (fun _ (l2,v3)=>[(2,pL eI l2),(4,pP b1 0),(12,pL Zg.enc p0),(13,pI (p0.length:Int)),(14,pI v3)]) (fun _ (l2,v3)=>[PRes.b b1 36 (bz p1)]) () (mT rfl) cI ?_
  rintro _ ⟨l2,v3⟩ o τ hb5;(try dsimp only at hb5);dsimp only [aw]
  refine ae (ak [(15,pB (decide (v3<(p0.length:Int))))] (by kernel_rfl) (bW (ki rfl hb5 (fun hc7 hb5=>?_) fun hc7 hb5=>?_)))
  ·refine ah ?_
   refine dG (aa hb5 fun m8 hm8 hb5=>ap [] [16,17] [(9,Zg.pv m8)] (cG 0 Zg.enc hm8 bk) (by kernel_rfl) (dc hb5 fun x9 hx9 hb5=>ap [0] [19,20,21,22,18,23,24] [(10,pL eI x9.1),(11,pB x9.2)] (foci 3 (hrec hx9) bk) (by kernel_rfl) (co (bL [25] [(26,pB (!x9.2))] (by kernel_rfl) rfl hb5 (fun hc10 hb5=>?_) fun hc10 hb5=>?_))))
   ·refine ae ?_
    refine ak [(6,pN),(7,pB false)] (by kernel_rfl) (aY (iE 6 rfl (bS (am (dO ?_)))))
    refine au hb5 (fun ht=>?_);subst ht
    refine cO ?_
    obtain rfl:=osi h
    exact aN (cF (aQ rfl) (aQ rfl)) bA ⟨rfl,rfl⟩
   refine ah ?_
   refine aY (ai [27] [(2,pL eI x9.1)] (by kernel_rfl) (dI (ai [28] [(14,pI (IntKind.i64.wrap (v3+1)))] (by kernel_rfl) ?_)))
   exact aU hb5 () (mT rfl) cI
  refine aH ?_
  refine cj hb5 (fun ht=>aj rfl ?_)
  exact az ((),l2) (rq rfl) bA ht.symm
 rintro ⟨_,l4⟩ τ hz;(try dsimp only at hz);subst q6;(try dsimp only at h);dsimp only [aw]
 refine ae (ai [29] [(6,pL eI l4),(7,pB true)] (by kernel_rfl) (cW ?_))
 obtain rfl:=osi h
 exact aN (cF (aQ rfl) (aQ rfl)) bA ⟨rfl,rfl⟩
def jq (rec:Zg→Zm→(List Int)→Option ((List Int)×Bool)) (p0:(List Zg)) (p1:Zm) (p2:(List Int)):Option ((List Int)×Bool):=(gd (!((p2.length:Int) == 0)) (idx p2 0)).bind fun m2=>(gd (!(((p2.length:Int) == 0)||(decide (m2<0)))) (idx p2 0)).bind fun m3=>cond ((((p2.length:Int) == 0)||(decide (m2<0)))||(decide ((p0.length:Int)≤m3))) (some ([],false)) ((idx p2 0).bind fun m5=>(idx p0 m5).bind fun m6=>(sub p2 1 (p2.length:Int)).bind fun l7=>(rec m6 p1 l7).bind fun x8=>some (x8.1,x8.2))
theorem oU {rec:Zg→Zm→(List Int)→Option ((List Int)×Bool)} (hrec:∀ {x:Zg} {y0:Zm} {y1:(List Int)} {w:((List Int)×Bool)},rec x y0 y1=some w→PFI x.pv "customs/rule.follow" [.agg (bz y0),pL eI y1] (.tup [pL eI w.1,pB w.2])) {p0:(List Zg)} {p1:Zm} {p2:(List Int)} {r:((List Int)×Bool)} (h:jq rec p0 p1 p2=some r):PF 244 [pL Zg.enc p0,.agg (bz p1),pL eI p2] (.tup [pL eI r.1,pB r.2]):=by
 unfold jq at h
 refine bc ?_
 refine di Tryz.func244 rfl Tryz.ntmps244 Tryz.results244 rfl (cX rfl (bf (cs:=(bz p1)) rfl rfl (fun b1=>aZ [6,7] (by kernel_rfl) (co (aa h fun m2 hm2 h=>aa h fun m3 hm3 h=>ap [] (rg 8 16) [(24,pB ((((p2.length:Int) == 0)||(decide (m2<0)))||(decide ((p0.length:Int)≤m3))))] (eQ 5 eI (cA hm2) (eQ 11 eI (cA hm3) bk)) (by kernel_rfl) (cN rfl h (fun hc4 h=>?_) fun hc4 h=>?_))))))
 ·refine ae ?_
  refine ak [(6,pN),(7,pB false)] (by kernel_rfl) (aY (iE 6 rfl (bS (am ?_))))
  obtain rfl:=osi h
  exact aN (cF (aQ rfl) (aQ rfl)) bA ⟨rfl,rfl⟩
 refine ah ?_
 refine bW (bi (ρd:=[]) [(0,0),(1,0),(2,0),(3,0),(4,0),(5,0),(6,0),(7,0),(8,0),(9,0),(10,0),(11,1),(12,0),(13,0),(14,0),(15,0)] _ (List.Perm.refl _) (by kernel_rfl) rfl (aa h fun m5 hm5 h=>aa h fun m6 hm6 h=>aa h fun l7 hl7 h=>aa h fun x8 hx8 h=>bt 16 [0] (rg 25 14) [(6,pL eI x8.1),(7,pB x8.2)] (cG 2 eI hm5 (cG 4 Zg.enc hm6 (vI 8 eI 1 (fun _=>rfl) hl7 (foci 11 (hrec hx8) bk)))) (by kernel_rfl) (bx (cW ?_))))
 obtain rfl:=osi h
 exact aN (cF (aQ rfl) (aQ rfl)) bA ⟨rfl,rfl⟩
def cD (p0:(List ByteArray)) (p1:(ByteArray→Option Bool)):Option Int:=(aW (S:=Int) (T:=(Unit)⊕(_)) (fun v1=>cond (decide (v1<(p0.length:Int))) ((idx p0 v1).bind fun m5=>(p1 m5).bind fun x6=>cond x6 (some (.inr (.inr v1))) (some (.inl (IntKind.i64.wrap (v1+1))))) (some (.inr (.inl ())))) FUEL 0).bind fun q=>match q with | .inl _=>some (-1) | .inr e=>some e
theorem jI {p0:(List ByteArray)} {p1:(ByteArray→Option Bool)} {r:Int} {g1:PV} (hg1:∀ {y0:ByteArray} {w:Bool},p1 y0=some w→PFV g1 [pS y0] (pB w)) (h:cD p0 p1=some r):PF 256 [pL eS p0,g1] (pI r):=by
 unfold cD at h
 refine bc ?_
 refine di Tryz.func256 rfl Tryz.ntmps256 Tryz.results256 rfl (aS [4] (by kernel_rfl) (co (ai [6] [(7,pI (p0.length:Int)),(8,pI 0)] (by kernel_rfl) (fG h fun q3 hq3 h=>?_))))
 refine aq (Y:=Unit×Unit) (fun (_,_)=>[]) (fun (_,_)=>[]) (fun (_,_)=>q3=Sum.inl ()) ?_ ?_
 ·refine av ?_
  refine aC (Y:=Unit) (S:=Int) _ hq3 (fun _ v1=>[(0,pL eS p0),(1,g1),(7,pI (p0.length:Int)),(8,pI v1)]) (fun _ v1=>[]) () (iQ rfl) bA ?_
  rintro _ v1 o τ hb2;(try dsimp only at hb2);dsimp only [aw]
  refine ae (ak [(9,pB (decide (v1<(p0.length:Int))))] (by kernel_rfl) (bW (ki rfl hb2 (fun hc4 hb2=>?_) fun hc4 hb2=>?_)))
  ·refine ah ?_
   refine dG (ai [10] [(5,pI v1)] (by kernel_rfl) (dc hb2 fun m5 hm5 hb2=>aa hb2 fun x6 hx6 hb2=>ap [] (rg 11 5) [(16,pB x6)] (cG 3 eS hm5 (CG 5 (hg1 hx6) bk)) (by kernel_rfl) (cN rfl hb2 (fun hc7 hb2=>?_) fun hc7 hb2=>?_)))
   ·refine ae ?_
    refine ai [17] [(4,pI v1)] (by kernel_rfl) (cW (dO ?_))
    refine au hb2 (fun ht=>?_);subst ht
    refine cO ?_
    exact zz r h rfl
   refine ah ?_
   refine dI (ai [18] [(8,pI (IntKind.i64.wrap (v1+1)))] (by kernel_rfl) ?_)
   exact aU hb2 () (iQ rfl) bA
  refine aH ?_
  refine cj hb2 (fun ht=>aj rfl ?_)
  exact az ((),()) oF bA ht.symm
 rintro ⟨_,_⟩ τ hz;(try dsimp only at hz);subst q3;(try dsimp only at h);dsimp only [aw]
 refine ae (cU [(4,pI (-1))] (by kernel_rfl) ?_)
 exact zz r h rfl
def ce (p0:(List ByteArray)) (p1:(ByteArray→Option Bool)):Option Bool:=(cD p0 p1).bind fun x1=>some (decide (0≤x1))
theorem iS {p0:(List ByteArray)} {p1:(ByteArray→Option Bool)} {r:Bool} {g1:PV} (hg1:∀ {y0:ByteArray} {w:Bool},p1 y0=some w→PFV g1 [pS y0] (pB w)) (h:ce p0 p1=some r):PF 253 [pL eS p0,g1] (pB r):=by
 unfold ce at h
 refine bc ?_
 refine di Tryz.func253 rfl Tryz.ntmps253 Tryz.results253 rfl (aS [4] (by kernel_rfl) (dc h fun x1 hx1 h=>ap [] [5,6,7,8] [(4,pB (decide (0≤x1)))] (bh 2 (jI hg1 hx1) bk) (by kernel_rfl) (cW ?_)))
 exact zz r h rfl
def fX (p0:ByteArray) (p1:ByteArray):Option Bool:=(dq p1 p0).bind fun x1=>some x1
theorem qZ {p0:ByteArray} {p1:ByteArray} {r:Bool}  (h:fX p0 p1=some r):PF 254 [pS p0,.ref [pS p1] 0] (pB r):=by
 unfold fX at h
 refine bc ?_
 refine di Tryz.func254 rfl Tryz.ntmps254 Tryz.results254 rfl (aS [3] (by kernel_rfl) (dc h fun x1 hx1 h=>ap [] [4,5,6] [(3,pB x1)] (bh 2 (iu hx1) bk) (by kernel_rfl) (cW ?_)))
 exact zz r h rfl
def ig (p0:Zd) (p1:ByteArray) (p2:ByteArray):Option Bool:=(jR p1 0 p0.Digits).bind fun s3=>(dq p2 s3).bind fun x4=>cond x4 (some true) ((ce p0.Except (fun y6=>fX y6 p2)).bind fun x7=>some x7)
theorem sC {p0:Zd} {p1:ByteArray} {p2:ByteArray} {r:Bool}  (h:ig p0 p1 p2=some r):PF 251 [.agg (ar p0),pS p1,pS p2] (pB r):=by
 unfold ig at h
 refine bc ?_
 refine di Tryz.func251 rfl Tryz.ntmps251 Tryz.results251 rfl (cX rfl (bf (cs:=(ar p0)) rfl rfl (fun b1=>an rfl (bf (cs:=[pS p2]) rfl rfl (fun b2=>aZ [6] (by kernel_rfl) (co (bi (ρd:=[]) [(0,0),(1,0),(2,0),(3,0),(4,0),(5,1)] _ (List.Perm.refl _) (by kernel_rfl) rfl (aa h fun s3 hs3 h=>aa h fun x4 hx4 h=>bt 6 [0,1] (rg 7 5) [(12,pB x4)] (foss 4 hs3 (bh 5 (iu hx4) bk)) (by kernel_rfl) (bx (cN rfl h (fun hc5 h=>?_) fun hc5 h=>?_))))))))))
 ·refine ae ?_
  refine cU [(6,pB true)] (by kernel_rfl) (am ?_)
  exact zz r h rfl
 refine ah ?_
 refine bW (af (cB 2 [1] [13] [(14,pL eS p0.Except)] (by kernel_rfl) ?_))
 refine xt 5 rfl (by exact aM) ?_
 refine aa h fun x7 hx7 h=>iH [] [15,16] [(6,pB x7)] (bh 1 (iS (fun hr=>se (qZ hr)) hx7) bk) (by kernel_rfl) (cW ?_)
 exact zz r h rfl
def gi (p0:Zo) (p1:Zo):Option Int:=cond ((decide (p0.Hi<p1.Hi))||((p0.Hi == p1.Hi)&&(decide (p0.Lo<p1.Lo)))) (some (-1)) (cond (Zo.eqb p0 p1) (some (0:Int)) (some (1:Int)))
theorem px {p0:Zo} {p1:Zo} {r:Int}  (h:gi p0 p1=some r):PF 255 [.agg [pU p0.Hi,pU p0.Lo],.agg [pU p1.Hi,pU p1.Lo]] (pI r):=by
 unfold gi at h
 refine bc ?_
 refine di Tryz.func255 rfl Tryz.ntmps255 Tryz.results255 rfl (cX rfl (bf (cs:=[pU p0.Hi,pU p0.Lo]) rfl rfl (fun b1=>an rfl (bf (cs:=[pU p1.Hi,pU p1.Lo]) rfl rfl (fun b2=>aZ [4] (by kernel_rfl) (dG (aJ [1,0,1,0,1,0] (rg 6 19) [(5,pB ((decide (p0.Hi<p1.Hi))||((p0.Hi == p1.Hi)&&(decide (p0.Lo<p1.Lo)))))] (by kernel_rfl) (cN rfl h (fun hc3 h=>?_) fun hc3 h=>?_))))))))
 ·refine ae ?_
  refine cU [(4,pI (-1))] (by kernel_rfl) (dO ?_)
  exact zz r h rfl
 refine ae ?_
 refine ap [1,0] [26,27,28] [(25,pB (Zo.eqb p0 p1))] (CF 2 Zo.eqok233 bk) (by kernel_rfl) (cN rfl h (fun hc4 h=>?_) fun hc4 h=>?_)
 ·refine ae ?_
  refine cU [(4,pI 0)] (by kernel_rfl) (dO ?_)
  exact zz r h rfl
 refine ah ?_
 refine aD (bW (cU [(4,pI 1)] (by kernel_rfl) ?_))
 exact zz r h rfl
def jD (p0:Int) (p1:Int) (p2:Int):Option Bool:=(jy (IntKind.u64.wrap p0) 1000000).bind fun x1=>(jy (IntKind.u64.wrap p1) (IntKind.u64.wrap p2)).bind fun x3=>(gi x1 x3).bind fun x5=>some (decide (x5≤0))
theorem py {p0:Int} {p1:Int} {p2:Int} {r:Bool}  (h:jD p0 p1 p2=some r):PF 252 [pI p0,pI p1,pI p2] (pB r):=by
 unfold jD at h
 refine bc ?_
 refine di Tryz.func252 rfl Tryz.ntmps252 Tryz.results252 rfl (aS [6] (by kernel_rfl) (dc h fun x1 hx1 h=>af (aX 3 [] [9,10] [(11,.agg [pU x1.Hi,pU x1.Lo])] (bh 2 (oe hx1) bk) (by kernel_rfl) (an rfl (aK (cs:=[pU 0,pU 0]) rfl rfl rfl rfl (fun b2=>aP rfl rfl (al (vs:=[pU x1.Hi,pU x1.Lo]) rfl rfl rfl rfl rfl cg rZ (aF (dc h fun x3 hx3 h=>af (aX 5 [] [12,13,14,15] [(16,.agg [pU x3.Hi,pU x3.Lo])] (bh 4 (oe hx3) bk) (by kernel_rfl) (an rfl (aK (cs:=[pU 0,pU 0]) rfl rfl rfl rfl (fun b4=>aP rfl rfl (al (vs:=[pU x3.Hi,pU x3.Lo]) rfl rfl rfl rfl rfl cg rZ (aF (dc h fun x5 hx5 h=>ap [1,0] [17,18,19,20] [(6,pB (decide (x5≤0)))] (bh 2 (px hx5) bk) (by kernel_rfl) (cW ?_)))))))))))))))))
 exact zz r h rfl
def rule_holds (p0:Zd) (p1:Zm):Option Bool:=(aW (S:=Int×Int×Int×Int) (T:=(Int×Int×Int)) (fun (v3,v4,v5,v6)=>cond (decide (v6<(p1.Inputs.length:Int))) (((idx p1.Inputs v6).bind fun m17=>cond m17.Originating (some (v3,v4,v5)) ((gd (p0.Kind == 2) (ig p0 p1.Code m17.Code)).bind fun x20=>cond ((p0.Kind == 2)&&x20) (some ((IntKind.i64.wrap (v3+m17.Value)),(IntKind.i64.wrap (v4+m17.Value)),(IntKind.i64.wrap (v5+1)))) (some ((IntKind.i64.wrap (v3+m17.Value)),v4,(IntKind.i64.wrap (v5+1)))))).bind fun (v13,v14,v15)=>some (.inl (v13,v14,v15,(IntKind.i64.wrap (v6+1))))) (some (.inr (v3,v4,v5)))) FUEL (0,0,0,0)).bind fun (v7,v8,v9)=>cond (p0.Kind == 1) (some (p1.Obtained&&(v9 == 0))) (cond (p0.Kind == 2) ((jD v8 p0.Tolerance p1.Price).bind fun x24=>some x24) (cond (p0.Kind == 3) ((jD v7 p0.Limit p1.Price).bind fun x26=>some x26) (cond (p0.Kind == 4) ((bG p1.Processes p0.Name).bind fun x28=>some x28) (some false))))
theorem vS {p0:Zd} {p1:Zm} {r:Bool}  (h:rule_holds p0 p1=some r):PF 250 [.agg (ar p0),.agg (bz p1)] (pB r):=by
 unfold rule_holds at h
 refine bc ?_
 refine di Tryz.func250 rfl Tryz.ntmps250 Tryz.results250 rfl (cX rfl (bf (cs:=(ar p0)) rfl rfl (fun b1=>an rfl (bf (cs:=(bz p1)) rfl rfl (fun b2=>aZ [4] (by kernel_rfl) (bW (ak [(5,pI 0),(6,pI 0),(7,pI 0)] (by kernel_rfl) (co (aJ [0] [10] [(11,pL Zk.enc p1.Inputs),(12,pI (p1.Inputs.length:Int)),(13,pI 0)] (by kernel_rfl) (fG h fun q11 hq11 h=>?_))))))))))
 refine aq (Y:=Unit×(Int×Int×Int)) (fun (_,(v7,v8,v9))=>[(2,pP b1 0),(3,pP b2 0),(5,pI v7),(6,pI v8),(7,pI v9)]) (fun (_,(v7,v8,v9))=>[PRes.b b1 84 (ar p0),PRes.b b2 36 (bz p1)]) (fun (_,(v7,v8,v9))=>q11=(v7,v8,v9)) ?_ ?_
 ·refine av ?_
  refine aC (Y:=Unit) (S:=Int×Int×Int×Int) _ hq11 (fun _ (v3,v4,v5,v6)=>[(2,pP b1 0),(3,pP b2 0),(5,pI v3),(6,pI v4),(7,pI v5),(11,pL Zk.enc p1.Inputs),(12,pI (p1.Inputs.length:Int)),(13,pI v6)]) (fun _ (v3,v4,v5,v6)=>[PRes.b b1 84 (ar p0),PRes.b b2 36 (bz p1)]) () (r5 rfl) (bd (aB aM) cI) ?_
  rintro _ ⟨v3,v4,v5,v6⟩ o τ hb10;(try dsimp only at hb10);dsimp only [aw]
  refine ae (ak [(14,pB (decide (v6<(p1.Inputs.length:Int))))] (by kernel_rfl) (bW (ki rfl hb10 (fun hc12 hb10=>?_) fun hc12 hb10=>?_)))
  ·refine ah ?_
   refine dc hb10 fun q16 hq16 hb10=>?_
   refine aq (Y:=Unit×(Int×Int×Int)) (fun (_,(v13,v14,v15))=>[(2,pP b1 0),(3,pP b2 0),(5,pI v13),(6,pI v14),(7,pI v15),(11,pL Zk.enc p1.Inputs),(12,pI (p1.Inputs.length:Int)),(13,pI v6)]) (fun (_,(v13,v14,v15))=>[PRes.b b1 84 (ar p0),PRes.b b2 36 (bz p1)]) (fun (_,(v13,v14,v15))=>q16=(v13,v14,v15)) ?_ ?_
   ·skip
    refine qy (aa hq16 fun m17 hm17 hq16=>af (aX 2 [] [15] [(16,.agg [pS m17.Code,pI m17.Value,pB m17.Originating])] (cG 0 Zk.enc hm17 bk) (by kernel_rfl) (an rfl (aK (cs:=[pS ByteArray.empty,pI 0,pB false]) rfl rfl rfl rfl (fun b18=>aP rfl rfl (al (vs:=[pS m17.Code,pI m17.Value,pB m17.Originating]) rfl rfl rfl rfl rfl cg zl3 (aF (co (aJ [0] [17] [(18,pB m17.Originating)] (by kernel_rfl) (cN rfl hq16 (fun hc19 hq16=>?_) fun hc19 hq16=>?_))))))))))
    ·refine aH ?_
     refine gI (aj rfl ?_)
     obtain rfl:=osi hq16
     exact az ((),(v3,v4,v5)) (r5 rfl) (bd (aB aM) (bd (aB aM) bA)) rfl
    refine ah ?_
    refine bW (ai [19,20] [(7,pI (IntKind.i64.wrap (v5+1)))] (by kernel_rfl) (bW (aJ [0] [21,22,23,24] [(5,pI (IntKind.i64.wrap (v3+m17.Value)))] (by kernel_rfl) (dc hq16 fun x20 hx20 hq16=>ap [1,1,2,0] (rg 25 10) [(35,pB ((p0.Kind == 2)&&x20))] (ee 9 (fun hc=>sC (cA hx20 hc)) bk) (by kernel_rfl) (cN rfl hq16 (fun hc21 hq16=>?_) fun hc21 hq16=>?_)))))
    ·refine aJ [0] [36,37,38,39] [(6,pI (IntKind.i64.wrap (v4+m17.Value)))] (by kernel_rfl) ?_
     refine aD ?_
     obtain rfl:=osi hq16
     exact az ((),((IntKind.i64.wrap (v3+m17.Value)),(IntKind.i64.wrap (v4+m17.Value)),(IntKind.i64.wrap (v5+1)))) (r5 rfl) (bd (aB aM) (bd (aB aM) bA)) rfl
    refine ah ?_
    refine aD ?_
    obtain rfl:=osi hq16
    exact az ((),((IntKind.i64.wrap (v3+m17.Value)),v4,(IntKind.i64.wrap (v5+1)))) (r5 rfl) (bd (aB aM) (bd (aB aM) bA)) rfl
   rintro ⟨_,⟨v13,v14,v15⟩⟩ τ hz;(try dsimp only at hz);subst q16;(try dsimp only at hb10);dsimp only [aw]
   refine ai [40] [(13,pI (IntKind.i64.wrap (v6+1)))] (by kernel_rfl) ?_
   exact aU hb10 () (r5 rfl) oX
  refine aH ?_
  refine cj hb10 (fun ht=>aj rfl ?_)
  exact az ((),(v3,v4,v5)) (mT rfl) oX ht.symm
 rintro ⟨_,⟨v7,v8,v9⟩⟩ τ hz;(try dsimp only at hz);subst q11;(try dsimp only at h);dsimp only [aw]
 refine de (aJ [0] [41] [(42,pI p0.Kind)] (by kernel_rfl) (aY (qy (bL [44] [(43,pB (p0.Kind == 1))] (by kernel_rfl) rfl h (fun hc22 h=>?_) fun hc22 h=>?_))))
 ·refine ae ?_
  refine aJ [1] (rg 45 6) [(4,pB (p1.Obtained&&(v9 == 0)))] (by kernel_rfl) (cW (dO ?_))
  exact zz r h rfl
 refine ae ?_
 refine bL [52] [(51,pB (p0.Kind == 2))] (by kernel_rfl) rfl h (fun hc23 h=>?_) fun hc23 h=>?_
 ·refine ae ?_
  refine aa h fun x24 hx24 h=>ap [0,1] (rg 53 6) [(4,pB x24)] (bh 5 (py hx24) bk) (by kernel_rfl) (cW (dO ?_))
  exact zz r h rfl
 refine ae ?_
 refine bL [60] [(59,pB (p0.Kind == 3))] (by kernel_rfl) rfl h (fun hc25 h=>?_) fun hc25 h=>?_
 ·refine ae ?_
  refine aa h fun x26 hx26 h=>ap [0,1] (rg 61 6) [(4,pB x26)] (bh 5 (py hx26) bk) (by kernel_rfl) (cW (dO ?_))
  exact zz r h rfl
 refine ae ?_
 refine bL [68] [(67,pB (p0.Kind == 4))] (by kernel_rfl) rfl h (fun hc27 h=>?_) fun hc27 h=>?_
 ·refine ae ?_
  refine aa h fun x28 hx28 h=>ap [1,0] (rg 69 5) [(4,pB x28)] (bh 4 (cP hx28) bk) (by kernel_rfl) (cW (dO ?_))
  exact zz r h rfl
 refine ah ?_
 refine aD (bW (cU [(4,pB false)] (by kernel_rfl) ?_))
 exact zz r h rfl
def jr (p0:Zu) (p1:Zm) (p2:(List Int)):Option ((List Int)×Bool):=(rule_holds p0.rule p1).bind fun x3=>some (p2,x3)
theorem oV {p0:Zu} {p1:Zm} {p2:(List Int)} {r:((List Int)×Bool)}  (h:jr p0 p1 p2=some r):PF 248 [.agg (ar p0.rule),.agg (bz p1),pL eI p2] (.tup [pL eI r.1,pB r.2]):=by
 unfold jr at h
 refine bc ?_
 refine di Tryz.func248 rfl Tryz.ntmps248 Tryz.results248 rfl (cX rfl (bf (cs:=(ar p0.rule)) rfl rfl (fun b1=>an rfl (bf (cs:=(bz p1)) rfl rfl (fun b2=>aZ [6,7] (by kernel_rfl) (dc h fun x3 hx3 h=>ap [1,0] (rg 8 5) [(6,pL eI p2),(7,pB x3)] (bh 4 (vS hx3) bk) (by kernel_rfl) (cW ?_)))))))
 obtain rfl:=osi h
 exact aN (cF (aQ rfl) (aQ rfl)) bA ⟨rfl,rfl⟩
def Irule_test_follow_B (rec:Zg→Zm→(List Int)→Option ((List Int)×Bool)) (x:Zg) (y0:Zm) (y1:(List Int)):Option ((List Int)×Bool):=match x with | .single_ a=>jr a y0 y1 | .every_ a=>iR rec a y0 y1 | .some_ a=>jq rec a y0 y1
theorem Irule_test_follow_B_ok {rec:Zg→Zm→(List Int)→Option ((List Int)×Bool)} (hrec:∀ {x:Zg} {y0:Zm} {y1:(List Int)} {w:((List Int)×Bool)},rec x y0 y1=some w→PFI x.pv "customs/rule.follow" [.agg (bz y0),pL eI y1] (.tup [pL eI w.1,pB w.2])) {x:Zg} {y0:Zm} {y1:(List Int)} {w:((List Int)×Bool)} (h:Irule_test_follow_B rec x y0 y1=some w):PFI x.pv "customs/rule.follow" [.agg (bz y0),pL eI y1] (.tup [pL eI w.1,pB w.2]):=by
 cases x with
 | single_ a=>rw [Zg.pv_single_];exact uy ⟨fun _ _=>by kernel_rfl⟩ (oV h)
 | every_ a=>rw [Zg.pv_every_];exact uy ⟨fun _ _=>by kernel_rfl⟩ (oh hrec h)
 | some_ a=>rw [Zg.pv_some_];exact uy ⟨fun _ _=>by kernel_rfl⟩ (oU hrec h)
def Irule_test_follow_F (n:Nat):Zg→Zm→(List Int)→Option ((List Int)×Bool):=Nat.rec (motive:=fun _=>Zg→Zm→(List Int)→Option ((List Int)×Bool)) (fun _ _ _=>none) (fun _ ih=>Irule_test_follow_B ih) n
def Irule_test_follow (x:Zg) (y0:Zm) (y1:(List Int)):Option ((List Int)×Bool):=Irule_test_follow_F FUEL x y0 y1
theorem Irule_test_follow_Fok (n:Nat):∀ {x:Zg} {y0:Zm} {y1:(List Int)} {w:((List Int)×Bool)},Irule_test_follow_F n x y0 y1=some w→PFI x.pv "customs/rule.follow" [.agg (bz y0),pL eI y1] (.tup [pL eI w.1,pB w.2]):=by
 induction n with
 | zero=>intros;rename_i h;exact nomatch h
 | succ n ih=>intros;rename_i h;exact Irule_test_follow_B_ok (fun hr=>ih hr) h
theorem Irule_test_follow_ok {x:Zg} {y0:Zm} {y1:(List Int)} {w:((List Int)×Bool)} (h:Irule_test_follow x y0 y1=some w):PFI x.pv "customs/rule.follow" [.agg (bz y0),pL eI y1] (.tup [pL eI w.1,pB w.2]):=Irule_test_follow_Fok FUEL h
def ii (p0:Zr) (p1:Za):Option (List (Za×Bool)):=some (o8 p0.claims p1 true)
theorem nk {p0:Zr} {p1:Za} {m0_claims:Nat} {r:(List (Za×Bool))}  (h:ii p0 p1=some r):PCall 74 [.agg [.v (.map (some m0_claims))],.agg [pI p1.Product,pI p1.Agreement]] [PRes.mp (some m0_claims) (fP Za.key vT p0.claims)] (fun pv ρ'=>pv=.tup []∧ρ'=[PRes.mp (some m0_claims) (fP Za.key vT r)]):=by
 unfold ii at h
 refine di Tryz.func74 rfl Tryz.ntmps74 Tryz.results74 rfl (cX rfl (bf (cs:=[.v (.map (some m0_claims))]) rfl rfl (fun b1=>an rfl (bf (cs:=[pI p1.Product,pI p1.Agreement]) rfl rfl (fun b2=>aF (aY (af (cB 3 [1,0] [4] [(5,.v (.map (some m0_claims))),(6,.agg [pI p1.Product,pI p1.Agreement])] (by kernel_rfl) (aP rfl rfl (rH (xs:=p0.claims) (k:=p1) (ek:=Za.key) (vv:=vT) (v:=true) rfl rfl Za.kenc28 rfl rfl xK rfl (dA (dA cg)) (aF ?_)))))))))))
 obtain rfl:=osi h
 exact DX (rfl:PRV [] _ _ (.tup [])) (bd (aB (aB aM)) bA) ⟨rfl,rfl⟩
def iz (rec:Zg→Zm→Option ((List Int)×Bool)) (p0:(List Zg)) (p1:Zm):Option ((List Int)×Bool):=(aW (S:=(List Int)×Int) (T:=((List Int))⊕(_)) (fun (l3,v6)=>cond (decide (v6<(p0.length:Int))) ((idx p0 v6).bind fun m15=>(rec m15 p1).bind fun x16=>cond (!x16.2) (some (.inr (.inr ([],false)))) ((app 8 l3 x16.1).bind fun l18=>some (.inl (l18,(IntKind.i64.wrap (v6+1)))))) (some (.inr (.inl l3)))) FUEL (([]:List Int),0)).bind fun q=>match q with | .inl l10=>some (l10,true) | .inr e=>some e
def lO (p1:Int):Option (List Int):=(CM 8 p1).bind fun _=>some []
def fJ (p0:(List (List Int))):Option (List Int):=(aW (S:=Int×Int) (T:=(Int)) (fun (v1,v2)=>cond (decide (v2<(p0.length:Int))) ((idx p0 v2).bind fun m7=>cond (decide ((IntKind.i64.wrap (v1+(m7.length:Int)))<0)) (none) (some (.inl ((IntKind.i64.wrap (v1+(m7.length:Int))),(IntKind.i64.wrap (v2+1)))))) (some (.inr v1))) FUEL (0,0)).bind fun v3=>(lO v3).bind fun x9=>(aW (S:=(List Int)×Int) (T:=((List Int))) (fun (l14,v17)=>cond (decide (v17<(p0.length:Int))) ((idx p0 v17).bind fun m25=>(app 8 l14 m25).bind fun l26=>some (.inl (l26,(IntKind.i64.wrap (v17+1))))) (some (.inr l14))) FUEL (x9,0)).bind fun l21=>some l21
def iT (rec:Zg→Zm→Option ((List Int)×Bool)) (p0:(List Zg)) (p1:Zm):Option ((List Int)×Bool):=(aW (S:=Int) (T:=(Unit)⊕(_)) (fun v2=>cond (decide (v2<(p0.length:Int))) ((idx p0 v2).bind fun m6=>(rec m6 p1).bind fun x7=>cond x7.2 ((fJ [[v2],x7.1]).bind fun x13=>some (.inr (.inr (x13,true)))) (some (.inl (IntKind.i64.wrap (v2+1))))) (some (.inr (.inl ())))) FUEL 0).bind fun q=>match q with | .inl _=>some ([],false) | .inr e=>some e
def iU (p0:Zu) (p1:Zm):Option ((List Int)×Bool):=(rule_holds p0.rule p1).bind fun x3=>some ([],x3)
def Irule_test_witness_B (rec:Zg→Zm→Option ((List Int)×Bool)) (x:Zg) (y0:Zm):Option ((List Int)×Bool):=match x with | .single_ a=>iU a y0 | .every_ a=>iz rec a y0 | .some_ a=>iT rec a y0
def Irule_test_witness_F (n:Nat):Zg→Zm→Option ((List Int)×Bool):=Nat.rec (motive:=fun _=>Zg→Zm→Option ((List Int)×Bool)) (fun _ _=>none) (fun _ ih=>Irule_test_witness_B ih) n
def Irule_test_witness (x:Zg) (y0:Zm):Option ((List Int)×Bool):=Irule_test_witness_F FUEL x y0
def iM (p0:(List Zf)):Option (List Za):=(aW (S:=(List Za)×Int) (T:=((List Za))) (fun (l1,v2)=>cond (decide (v2<(p0.length:Int))) ((idx p0 v2).bind fun m7=>(eC l1 m7.Claim).bind fun x8=>some (.inl (x8,(IntKind.i64.wrap (v2+1))))) (some (.inr l1))) FUEL ([],0)).bind fun l3=>some l3
theorem oM {p0:(List Zf)} {r:(List Za)}  (h:iM p0=some r):PF 33 [pL Zf.enc p0] (pL Za.enc r):=by
 unfold iM at h
 refine bc ?_
 refine di Tryz.func33 rfl Tryz.ntmps33 Tryz.results33 rfl (aS [2] (by kernel_rfl) (bW (ak [(3,pN)] (by kernel_rfl) (co (ak [(4,pI 0)] (by kernel_rfl) (aY (iE 3 rfl (aa h fun q5 hq5 h=>?_))))))))
 refine aq (Y:=Unit×((List Za))) (fun (_,l3)=>[(3,pL Za.enc l3)]) (fun (_,l3)=>[]) (fun (_,l3)=>q5=l3) ?_ ?_
 ·refine av ?_
  refine aC (Y:=Unit) (S:=(List Za)×Int) _ hq5 (fun _ (l1,v2)=>[(0,pL Zf.enc p0),(3,pL Za.enc l1),(4,pI v2)]) (fun _ (l1,v2)=>[]) () (nu rfl) bA ?_
  rintro _ ⟨l1,v2⟩ o τ hb4;(try dsimp only at hb4);dsimp only [aw]
  refine de (bL [5,6,7] [(8,pB (decide (v2<(p0.length:Int))))] (by kernel_rfl) rfl hb4 (fun hc6 hb4=>?_) fun hc6 hb4=>?_)
  ·refine ah ?_
   refine bW (av (aa hb4 fun m7 hm7 hb4=>aa hb4 fun x8 hx8 hb4=>ap [] (rg 11 7) [(3,pL Za.enc x8)] (cG 3 Zf.enc hm7 (bh 6 (kU hx8) bk)) (by kernel_rfl) (dI (ai [9,10] [(4,pI (IntKind.i64.wrap (v2+1)))] (by kernel_rfl) ?_))))
   exact aU hb4 () (nu rfl) bA
  refine aH ?_
  refine cj hb4 (fun ht=>aj rfl ?_)
  exact az ((),l1) (rq rfl) bA ht.symm
 rintro ⟨_,l3⟩ τ hz;(try dsimp only at hz);subst q5;(try dsimp only at h);dsimp only [aw]
 refine ae (ai [18] [(2,pL Za.enc l3)] (by kernel_rfl) (cW ?_))
 exact zz r h rfl
end SX
namespace SX
open Go
abbrev bl (s:ByteArray):List UInt8:=s.data.toList
theorem bl_hi (s:ByteArray) (k:Nat):bl (s.extract 0 k)=(bl s).take k:=by simp [bl]
theorem bl_lo (s:ByteArray) (k:Nat):bl (s.extract k s.size)=(bl s).drop k:=by
  simp only [bl,ByteArray.data_extract,Array.toList_extract,List.extract_eq_take_drop]
  rw [List.take_of_length_le];simp
theorem mg (s:ByteArray):s.size=(bl s).length:=by simp [bl]
theorem bl_inj {s u:ByteArray} (h:bl s=bl u):s=u:=by
  obtain ⟨⟨x⟩⟩:=s;obtain ⟨⟨y⟩⟩:=u;simp [bl] at h;subst h;rfl
def j6 (n:Nat):Bool:=decide (48≤n∧n≤57)
def fC (p:Nat→Bool):List Value:=(List.range 256).map fun i=>.bool (p i)
theorem fh (p:Nat→Bool):(fC p).length=256:=by simp [fC]
theorem mh (p:Nat→Bool) {j:Nat} (h:j<256):(fC p)[j]?=some (.bool (p j)):=by simp [fC,h]
theorem xO (p q:Nat→Bool) {j:Nat} (h:∀ i,q i=(decide (i=j)||p i)):(fC p).set j (.bool true)=fC q:=by
  apply List.ext_getElem?
  intro i
  rw [List.getElem?_set]
  simp only [fh]
  rcases Nat.lt_or_ge i 256 with hi | hi
  · rw [mh q hi,mh p hi,h i]
    by_cases e:j=i
    · subst e;simp [hi]
    · rw [if_neg e];simp [show ¬ i=j from fun h=>e h.symm]
  · rw [List.getElem?_eq_none (by rw [fh];exact hi),List.getElem?_eq_none (by rw [fh];exact hi)]
    split
    · rw [if_neg (by omega)]
    · rfl
section
variable {o:Oper} {σ:Env} {ρ:List Res} {κ:Kr} {c:Bool} {x y:Operand} {K:Value→List Res→Kr→Prop}
theorem Sh.at1 {b k:Nat} {cs:List Value} {v:Value} (h:Sh κ b 0 cs) (hv:cs[k]?=some v):Sh κ b (0+k*1) [v]:=⟨h.1,fun j u hu=>by
  cases j with
  | zero=>simp at hu;subst hu;have:=h.2 k v hv;simpa using this
  | succ j=>simp at hu⟩
theorem zl {t b T sz by':Nat} {cs:List Value} {z:Value} {d:TypeDesc} (ho:o.op=.load t x) (hx:Ev σ c x (.pointer (some ⟨b,0,none⟩))) (hm:Res.b b T cs∈ρ) (hd:eO t=some d) (ha:ly d=true) (hi:fY t=some (z,sz,by')) (hl:cs.length=sz):OpQ c o σ ρ κ (.agg cs.toArray):=by
  refine we ho hx hm ?_
  unfold jM
  simp only [hd,hi,ha,cond_true,List.drop_zero]
  rw [Nat.ble_eq_true_of_le (by omega)]
  simp [← hl]
end
attribute [local irreducible] WL WC WD OpL OpQ OpG Ev GuardIs Ag lx DE Call CallP midK uj Holds tY Sub Pick WS Step Lit Upd SetAt SpliceAt FillR Sh LateRun
theorem s7 (κ:Kr) (b:Nat) (p:Nat→Bool) (m:Int) (hs:Sh κ b 0 (fC p)) (h0:0≤m) (h1:m≤255):CallP 204 [.pointer (some ⟨b,0,none⟩),.int .u8 m] κ fun v _=>v=.bool (p m.toNat):=by
  (unfold CallP;apply nW Tryz.func204 (Dl Tryz.func204 rfl) rfl Tryz.ntmps204 Tryz.results204 rfl)
  repeat (first | (first | (apply eH rfl rfl rfl;(focus (first | exact bV (v:=(.int _ _)) rfl (.p rfl) | exact bV (v:=(.pointer _)) rfl (.p rfl) | exact cq (v:=(.bool _)) rfl (.p rfl) | exact oZ rfl (.p rfl)))) | apply dm) | (first | apply dQ | apply bE | apply dP))
  apply eH rfl rfl rfl (wj (j:=m.toNat) rfl rfl rfl (.p rfl) (.p rfl) (fun _=>by omega) (fun _=>by omega))
  apply eH rfl rfl rfl (r9 rfl (.p rfl) (fun _=>(hs.mono (by (repeat (exact Kle.refl _)))).at1 (mh p (by omega))) rfl)
  repeat (first | (first | (apply eH rfl rfl rfl;(focus (exact cq (v:=(.bool _)) rfl (.p rfl)))) | apply dm) | (first | apply dP | apply mu))
  exact nc (xj (v:=.bool _) rfl) .none ⟨rfl,rfl⟩
def je:ByteArray:=⟨#[48,49,50,51,52,53,54,55,56,57]⟩
theorem xP:∀ {k:Nat},k<10→((je.data.toList.getD k 0).toNat:Int)=48+(k:Int):=by decide
theorem EG (κ:Kr):CallP 180 [.string je] κ fun v _=>v=.tuple #[.agg (fC j6).toArray,.bool true]:=by
  (unfold CallP;apply nW Tryz.func180 (Dl Tryz.func180 rfl) rfl Tryz.ntmps180 Tryz.results180 rfl)
  repeat (first | (first | (apply eH rfl rfl rfl;(focus (first | exact cq (v:=(.int _ _)) rfl (.p rfl) | exact cq (v:=(.bool _)) rfl (.p rfl)))) | (apply yp rfl rfl rfl;apply wf rfl rfl;intro _ _ _) | apply dm) | (first | apply dQ | apply bE | apply jL | apply dP))
  rename_i b2 κ1 _
  have e0:List.replicate 256 (Value.bool false)=fC (fun i=>decide (48≤i∧i<48+0)):=by
    apply List.ext_getElem?
    intro i
    rcases Nat.lt_or_ge i 256 with hi | hi
    · rw [mh _ hi,List.getElem?_replicate,if_pos hi];congr 2;symm;rw [decide_eq_false_iff_not];omega
    · rw [List.getElem?_eq_none (by simpa using hi),List.getElem?_eq_none (by rw [fh];exact hi)]
  rw [e0]
  refine rA (X:=Nat) (fun k=>[(0,.string je),(2,.pointer (some ⟨b2,0,none⟩)),(4,.int .i64 (k:Int))]) (fun k=>[Res.b b2 243 (fC fun i=>decide (48≤i∧i<48+k))]) (fun k _=>k≤10) (fun k=>10 - k) 0 (by (repeat (first | exact Holds.nil | apply Holds.cons rfl))) (by (repeat (first | exact Sub.nil | (apply Sub.cons;(focus (repeat (exact Pick.h))))))) (by omega) ?_
  intro k τ κ2 _ hk
  simp only [tY]
  repeat (first | (first | (apply eH rfl rfl rfl;(focus (first | exact bV (v:=(.int _ _)) rfl (.p rfl) | exact bV (v:=(.string _)) rfl (.p rfl) | exact nT rfl (.p rfl) (.p rfl) rfl | exact mS rfl rfl (.p rfl)))) | apply dm) | (first | apply dQ | apply bE | apply dP))
  apply xk rfl <;> intro hc
  · have hk10:k<10:=by
      have e:(je.size:Int)=10:=rfl
      rw [e] at hc;omega
    repeat (first | (apply eH rfl rfl rfl;(focus (first | exact bV (v:=(.int _ _)) rfl (.p rfl) | exact bV (v:=(.string _)) rfl (.p rfl)))) | (first | apply dQ | apply bE | apply jL | apply dP | apply jK))
    apply eH rfl rfl rfl (nw (s:=je) (j:=k) rfl rfl (.p rfl) (.p rfl) (fun _=>rfl) (fun _=>hk10))
    rw [xP hk10]
    repeat (first | (first | (apply eH rfl rfl rfl;(focus (first | exact bV (v:=(.int _ _)) rfl (.p rfl) | exact cq (v:=(.int _ _)) rfl (.p rfl) | exact nT rfl (.p rfl) (.p rfl) rfl))) | apply dm) | (first | apply dQ | apply bE | apply dP))
    apply Dv (by have:¬ (128:Int)≤48+(k:Int):=by omega
                 simp [ev,upd,this])
    repeat (first | (apply eH rfl rfl rfl;(focus (exact bV (v:=(.int _ _)) rfl (.p rfl)))) | (first | apply bE | apply dP | apply jK))
    apply eH rfl rfl rfl (wj (j:=48+k) rfl rfl rfl (.p rfl) (.p rfl) (fun _=>by omega) (fun _=>by omega))
    apply Bn rfl rfl
    apply Cu (v:=.bool true) rfl rfl rfl rfl rfl rfl (by (repeat (exact Upd.h))) (by rw [fh];omega)
    intro κ3 _
    have e1:(fC fun i=>decide (48≤i∧i<48+k)).set (0+(48+k)*1) (.bool true)=fC fun i=>decide (48≤i∧i<48+(k+1)) :=
      xO _ _ fun i=>by rw [Bool.eq_iff_iff];simp;omega
    rw [e1]
    repeat (first | (first | (apply eH rfl rfl rfl;(focus (first | exact bV (v:=(.int _ _)) rfl (.p rfl) | exact cq (v:=(.int _ _)) rfl (.p rfl) | exact nU rfl (.p rfl) (.p rfl) rfl (fun _=>by omega)))) | apply dm) | (first | apply bE | apply dP | apply qk))
    exact xi (k+1) (by (repeat (first | exact Holds.nil | apply Holds.cons rfl))) (by (repeat (first | exact Sub.nil | (apply Sub.cons;(focus (repeat (exact Pick.h))))))) (by omega) (by omega)
  · have hk10:k=10:=by
      have e:(je.size:Int)=10:=rfl
      rw [e] at hc;omega
    subst hk10
    have e2:(fun i=>decide (48≤i∧i<48+10))=j6:=by funext i;simp only [j6];rw [Bool.eq_iff_iff];simp;omega
    rw [e2]
    apply nS;apply kv;apply ju;apply kw rfl;apply dP;apply dQ;apply bE
    apply eH rfl rfl rfl (zl rfl (.p rfl) (by (repeat (exact List.Mem.head _))) rfl rfl rfl (fh _))
    apply Bn rfl rfl
    apply wg rfl rfl rfl rfl (fh _) (by simp [fC,Value.oneCell']) (by (repeat (exact Upd.h))) rfl
    intro κ3 _
    repeat (first | (first | (apply eH rfl rfl rfl;(focus (exact cq (v:=(.bool _)) rfl (.p rfl)))) | apply dm) | (first | apply dP | apply mu))
    refine nc (rv_2 (RV1.cell rfl (by (repeat (exact List.Mem.head _))) ?_) (rv1_t (v:=.bool _) rfl)) .none ⟨rfl,rfl⟩
    unfold jM
    simp only [show eO 243=some (.array 256 4) from rfl,show fY 243=some (.agg (List.replicate 256 (.bool false)).toArray,256,256) from rfl,ly,cond_true,List.drop_zero,fh]
    rw [List.take_of_length_le (by rw [fh];omega)];rfl
theorem tR {l:List UInt8} {j:Nat} (h:j<l.length):l.getD j 0=l[j]:=by simp [List.getD_eq_getElem?_getD,h]
theorem xQ (κ:Kr) (b:Nat) (s:ByteArray) (hs:Sh κ b 0 (fC j6)) (hz:s.size≤1000000000):CallP 182 [.string s,.pointer (some ⟨b,0,none⟩)] κ fun v _=>∃ u k,v=.string u∧bl u=(bl s).take k∧k≤(bl s).length∧(∀ c∈(bl s).drop k,j6 c.toNat=true)∧(∀ c,(bl u).getLast?=some c→j6 c.toNat=false):=by
  (unfold CallP;apply nW Tryz.func182 (Dl Tryz.func182 rfl) rfl Tryz.ntmps182 Tryz.results182 rfl)
  repeat (first | (first | (apply eH rfl rfl rfl;(focus (exact cq (v:=(.string _)) rfl (.p rfl)))) | apply dm) | (first | apply dQ | apply bE | apply jL | apply dP))
  refine rA (X:=ByteArray×Nat) (fun z=>[(0,.string z.1),(1,.pointer (some ⟨b,0,none⟩))]) (fun _=>[]) (fun z _=>bl z.1=(bl s).take z.2∧z.2≤(bl s).length∧∀ c∈(bl s).drop z.2,j6 c.toNat=true) (fun z=>z.2) (s,(bl s).length) (by (repeat (first | exact Holds.nil | apply Holds.cons rfl))) (by (repeat (exact Sub.nil))) ⟨(List.take_length).symm,Nat.le_refl _,by rw [List.drop_length];simp⟩ ?_
  rw [mg] at hz
  rintro ⟨u,k⟩ τ κ2 _ ⟨h1,h2,h3⟩
  dsimp only at h1 h2 h3
  have hsz:u.size=k:=by rw [mg,h1,List.length_take];omega
  simp only [tY]
  repeat (first | (first | (apply eH rfl rfl rfl;(focus (first | exact bV (v:=(.string _)) rfl (.p rfl) | exact nT rfl (.p rfl) (.p rfl) rfl | exact mS rfl rfl (.p rfl)))) | apply dm) | (first | apply dQ | apply bE | apply dP))
  apply xk rfl <;> intro hc
  · have hk0:0<k:=by omega
    repeat (first | (apply eH rfl rfl rfl;(focus (first | exact bV (v:=(.pointer _)) rfl (.p rfl) | exact bV (v:=(.string _)) rfl (.p rfl) | exact nU rfl (.p rfl) (.p rfl) rfl (fun _=>by omega) | exact mS rfl rfl (.p rfl)))) | (first | apply dQ | apply bE | apply jL | apply dP | apply jK))
    apply eH rfl rfl rfl (nw (j:=k - 1) rfl rfl (.p rfl) (.p rfl) (fun _=>by omega) (fun _=>by omega))
    have hlast:(bl u).getLast?=some ((bl u).getD (k - 1) 0):=by
      rw [List.getLast?_eq_getElem?,← mg,hsz,tR (by rw [← mg];omega),List.getElem?_eq_getElem]
    apply yp rfl rfl rfl;apply mv rfl rfl (s7 _ b j6 ((u.data.toList.getD (k - 1) 0).toNat:Int) (hs.mono (by (repeat (assumption)))) (by omega) (by have:=(u.data.toList.getD (k - 1) 0).toNat_lt;omega))
    rintro v κ3 _ rfl
    repeat (first | (first | (apply eH rfl rfl rfl;(focus (exact Ai rfl (.p rfl)))) | apply dm) | (apply dP))
    rw [Int.toNat_natCast]
    apply lR rfl <;> intro hb
    · repeat (first | (first | (apply eH rfl rfl rfl;(focus (first | exact bV (v:=(.string _)) rfl (.p rfl) | exact cq (v:=(.string _)) rfl (.p rfl)))) | apply dm) | (first | apply dQ | apply bE | apply dP | apply mu | apply nS | apply kv | apply kw rfl | apply ui rfl | apply ju))
      refine nc (xj (v:=.string _) rfl) .none ⟨rfl,u,k,rfl,h1,h2,h3,fun c hc=>?_⟩
      rw [hlast] at hc;injection hc with hc;subst hc;simpa using hb
    · repeat (first | (apply eH rfl rfl rfl;(focus (first | exact bV (v:=(.string _)) rfl (.p rfl) | exact nU rfl (.p rfl) (.p rfl) rfl (fun _=>by omega) | exact mS rfl rfl (.p rfl)))) | (first | apply bE | apply dP | apply jK))
      apply eH rfl rfl rfl (sR (h:=k - 1) rfl rfl (.p rfl) (.p rfl) (fun _=>by omega) (fun _=>by omega))
      repeat (first | (first | (apply eH rfl rfl rfl;(focus (exact cq (v:=(.string _)) rfl (.p rfl)))) | apply dm) | (apply qk))
      refine xi (u.extract 0 (k - 1),k - 1) (by (repeat (first | exact Holds.nil | apply Holds.cons rfl))) (by (repeat (exact Sub.nil))) ⟨?_,by ((try dsimp only at *) <;> omega),?_⟩ (by ((try dsimp only at *) <;> omega))
      · rw [bl_hi,h1,List.take_take];congr 1;omega
      · intro c hc
        rw [List.drop_eq_getElem_cons (by omega)] at hc
        rcases List.mem_cons.1 hc with rfl | hc
        · have e:(bl u).getD (k - 1) 0=(bl s)[k - 1]'(by omega):=by
            rw [tR (by rw [← mg];omega)];simp [h1]
          rw [← e];simpa using hb
        · rw [show k - 1+1=k by omega] at hc;exact h3 c hc
  · repeat (first | (first | (apply eH rfl rfl rfl;(focus (first | exact bV (v:=(.string _)) rfl (.p rfl) | exact cq (v:=(.string _)) rfl (.p rfl)))) | apply dm) | (first | apply dQ | apply bE | apply dP | apply mu | apply nS | apply kv | apply kw rfl | apply ju))
    refine nc (xj (v:=.string _) rfl) .none ⟨rfl,u,k,rfl,h1,h2,h3,fun c hc'=>?_⟩
    have:bl u=[]:=List.eq_nil_of_length_eq_zero (by rw [← mg];omega)
    rw [this] at hc';cases hc'
end SX
end Go.Proofs.YtgmbmepakpcpaaaGreatDoor
