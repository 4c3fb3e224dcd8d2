/- A part of the proof: texts of the walk and of the plain laws, merged. No condition. -/
import Derived.Test.YtgmbmepakpcpaaaGreatDoorM2
set_option linter.unusedVariables false
set_option linter.unusedSimpArgs false
set_option maxHeartbeats 4000000
set_option maxRecDepth 100000
namespace Go.Proofs.YtgmbmepakpcpaaaGreatDoor
namespace SX
open Go
attribute [local irreducible] PWL PWC PWD POpL POpQ PEv PGuardIs PSub PPick PUpd PSplice PFill PLit PF PFV PCall FOk eQ eE lW nU je mO Cov PHolds aV idx app mk gd lb nz lw Ek sub ki dw ow wx fB cC pu wz IntKind.wrap Int.tmod Int.tdiv Op.bytesLess strOfNums
def dB (p0:Zb) (p1:ByteArray) (p2:ByteArray):Option Bool:=(bO p0.Parties p1).bind fun x2=>(gd x2 (bO p0.Parties p2)).bind fun x3=>some (x2&&x3)
theorem jm {p0:Zb} {p1:ByteArray} {p2:ByteArray} {r:Bool}  (h:dB p0 p1 p2=some r):PF 88 [.agg (aD p0),pS p1,pS p2] (pB r):=by
 unfold dB at h
 refine bd ?_
 refine dp Tryz.func88 rfl Tryz.ntmps88 Tryz.results88 rfl (cU rfl (bg (cs:=(aD p0)) rfl rfl (fun b1=>bc [6] (by kernel_rfl) (cN h fun x2 hx2 h=>aa h fun x3 hx3 h=>aq [0,0] (rg 7 10) [(6,pB (x2&&x3))] (bi 3 (cX hx2) (dK 8 (fun hc=>cX (cA hx3 hc)) bh)) (by kernel_rfl) (dm ?_)))))
 exact zz r h rfl
def fZ (p0:ByteArray) (p1:ByteArray):Option Bool:=(gd (decide ((p1.size:Int)≤(p0.size:Int))) (ki p0 0 (p1.size:Int))).bind fun s1=>some ((decide ((p1.size:Int)≤(p0.size:Int)))&&(decide (s1=p1)))
theorem nF {p0:ByteArray} {p1:ByteArray} {r:Bool}  (h:fZ p0 p1=some r):PF 164 [pS p0,pS p1] (pB r):=by
 unfold fZ at h
 refine bd ?_
 refine dp Tryz.func164 rfl Tryz.ntmps164 Tryz.results164 rfl (aU [4] (by kernel_rfl) (cN h fun s1 hs1 h=>aq [] (rg 5 13) [(4,pB ((decide ((p1.size:Int)≤(p0.size:Int)))&&(decide (s1=p1))))] (fossg 9 (cA hs1) bh) (by kernel_rfl) (dm ?_)))
 exact zz r h rfl
def dy (p0:ByteArray) (p1:ByteArray):Option Bool:=(fZ p0 p1).bind fun x1=>some x1
theorem iR {p0:ByteArray} {p1:ByteArray} {r:Bool}  (h:dy p0 p1=some r):PF 129 [pS p0,pS p1] (pB r):=by
 unfold dy at h
 refine bd ?_
 refine dp Tryz.func129 rfl Tryz.ntmps129 Tryz.results129 rfl (aU [4] (by kernel_rfl) (cN h fun x1 hx1 h=>aq [] [5,6,7] [(4,pB x1)] (bi 2 (nF hx1) bh) (by kernel_rfl) (dm ?_)))
 exact zz r h rfl
def ko (rec:Ze→Int→Option Int) (p0:Ze) (p1:Int):Option Int:=(aV (S:=Int×Int) (T:=(Int)⊕(_)) (fun (v2,v3)=>cond (decide (v3<(p0.Args.length:Int))) ((idx p0.Args v3).bind fun m8=>cond (decide (p1≤v2)) (some (.inr (.inr p1))) ((rec m8 (IntKind.i64.wrap (p1 - v2))).bind fun x11=>some (.inl ((IntKind.i64.wrap (v2+x11)),(IntKind.i64.wrap (v3+1)))))) (some (.inr (.inl v2)))) FUEL (1,0)).bind fun q=>match q with | .inl v4=>some v4 | .inr e=>some e
theorem tQ {rec:Ze→Int→Option Int} (hrec:∀ {p0:Ze} {p1:Int} {r:Int},rec p0 p1=some r→PF 165 [.agg (aC p0),pI p1] (pI r)) {p0:Ze} {p1:Int} {r:Int} (h:ko rec p0 p1=some r):PF 165 [.agg (aC p0),pI p1] (pI r):=by
 unfold ko at h
 refine bd ?_
 refine dp Tryz.func165 rfl Tryz.ntmps165 Tryz.results165 rfl (cU rfl (bg (cs:=(aC p0)) rfl rfl (fun b1=>bc [4] (by kernel_rfl) (ca (aj [(5,pI 1)] (by kernel_rfl) (co (aM [0] [8] [(9,pL Ze.enc p0.Args),(10,pI (p0.Args.length:Int)),(11,pI 0)] (by kernel_rfl) (fa h fun q6 hq6 h=>?_))))))))
 refine am (Y:=Unit×Int) (fun (_,v4)=>[(5,pI v4)]) (fun (_,v4)=>[]) (fun (_,v4)=>q6=Sum.inl v4) ?_ ?_
 ·refine aw ?_
  refine aB (Y:=Unit) (S:=Int×Int) _ hq6 (fun _ (v2,v3)=>[(1,pI p1),(5,pI v2),(9,pL Ze.enc p0.Args),(10,pI (p0.Args.length:Int)),(11,pI v3)]) (fun _ (v2,v3)=>[]) () (lP rfl) bz ?_
  rintro _ ⟨v2,v3⟩ o τ hb5;(try dsimp only at hb5);dsimp only [au]
  refine ae (aj [(12,pB (decide (v3<(p0.Args.length:Int))))] (by kernel_rfl) (ca (jG rfl hb5 (fun hc7 hb5=>?_) fun hc7 hb5=>?_)))
  ·refine ah ?_
   refine dq (aa hb5 fun m8 hm8 hb5=>af (aY 2 [] [13] [(14,.agg (aC m8))] (pm 0 Ze.enc (Ze.enc_eq _) hm8 bh) (by kernel_rfl) (al rfl (aN (cs:=[pI 0,pI 0,pN,pI 0,pI 0,pS ByteArray.empty,pN]) rfl rfl rfl rfl (fun b9=>aS rfl rfl (an (vs:=(aC m8)) rfl rfl rfl rfl rfl cw nP (aG (co (bF [15,16] [(17,pB (decide (p1≤v2)))] (by kernel_rfl) rfl hb5 (fun hc10 hb5=>?_) fun hc10 hb5=>?_)))))))))
   ·refine ae ?_
    refine ai [18] [(4,pI p1)] (by kernel_rfl) (dm (ap (dM ?_)))
    refine az hb5 (fun ht=>?_);subst ht
    refine cS ?_
    exact zz r h rfl
   refine ah ?_
   refine fa hb5 fun x11 hx11 hb5=>aq [0] (rg 19 7) [(5,pI (IntKind.i64.wrap (v2+x11)))] (bi 5 (hrec hx11) bh) (by kernel_rfl) (dx (ai [26] [(11,pI (IntKind.i64.wrap (v3+1)))] (by kernel_rfl) ?_))
   exact aR hb5 () (lP rfl) bz
  refine aH ?_
  refine cd hb5 (fun ht=>ak rfl ?_)
  exact av ((),v2) (qP rfl) bz ht.symm
 rintro ⟨_,v4⟩ τ hz;(try dsimp only at hz);subst q6;(try dsimp only at h);dsimp only [au]
 refine ae (ai [27] [(4,pI v4)] (by kernel_rfl) (dm ?_))
 exact zz r h rfl
def mt (n:Nat):Ze→Int→Option Int:=Nat.rec (motive:=fun _=>Ze→Int→Option Int) (fun _ _=>none) (fun _ ih=>ko ih) n
def rj (p0:Ze) (p1:Int):Option Int:=mt FUEL p0 p1
theorem vt (n:Nat):∀ {p0:Ze} {p1:Int} {r:Int},mt n p0 p1=some r→PF 165 [.agg (aC p0),pI p1] (pI r):=by
 induction n with
 | zero=>intros;rename_i h;exact nomatch h
 | succ n ih=>intros;rename_i h;exact tQ (fun hr=>ih hr) h
theorem wE {p0:Ze} {p1:Int} {r:Int} (h:rj p0 p1=some r):PF 165 [.agg (aC p0),pI p1] (pI r):=vt FUEL h
def mV (p0:Ze):Option Bool:=cond ((!(p0.Kind == 2))&&(((p0.Digits != 0)||(decide (0<(p0.Except.length:Int))))||(p0.Tolerance != 0))) (some false) (cond ((p0.Kind != 3)&&(p0.Limit != 0)) (some false) (cond ((p0.Kind != 4)&&(!decide (p0.Name=(⟨#[]⟩:ByteArray)))) (some false) (some (((p0.Kind == 5)||(p0.Kind == 6))||((p0.Args.length:Int) == 0)))))
theorem wF {p0:Ze} {r:Bool}  (h:mV p0=some r):PF 188 [.agg (aC p0)] (pB r):=by
 unfold mV at h
 refine bd ?_
 refine dp Tryz.func188 rfl Tryz.ntmps188 Tryz.results188 rfl (cU rfl (bg (cs:=(aC p0)) rfl rfl (fun b1=>bc [2] (by kernel_rfl) (ca (aM [0] [5,6,7] [(3,pB (p0.Kind == 2))] (by kernel_rfl) (ca (aM [0,0] (rg 8 8) [(4,pB ((p0.Kind == 5)||(p0.Kind == 6)))] (by kernel_rfl) (dq (aM [0,0,0] (rg 17 18) [(16,pB ((!(p0.Kind == 2))&&(((p0.Digits != 0)||(decide (0<(p0.Except.length:Int))))||(p0.Tolerance != 0))))] (by kernel_rfl) (cR rfl h (fun hc2 h=>?_) fun hc2 h=>?_))))))))))
 ·refine ae ?_
  refine cZ [(2,pB false)] (by kernel_rfl) (dM ?_)
  exact zz r h rfl
 refine ae ?_
 refine aM [0,0] (rg 36 8) [(35,pB ((p0.Kind != 3)&&(p0.Limit != 0)))] (by kernel_rfl) (cR rfl h (fun hc3 h=>?_) fun hc3 h=>?_)
 ·refine ae ?_
  refine cZ [(2,pB false)] (by kernel_rfl) (dM ?_)
  exact zz r h rfl
 refine ae ?_
 refine aM [0,0] (rg 45 8) [(44,pB ((p0.Kind != 4)&&(!decide (p0.Name=(⟨#[]⟩:ByteArray)))))] (by kernel_rfl) (cR rfl h (fun hc4 h=>?_) fun hc4 h=>?_)
 ·refine ae ?_
  refine cZ [(2,pB false)] (by kernel_rfl) (dM ?_)
  exact zz r h rfl
 refine ah ?_
 refine aA (ca (aM [0] (rg 53 7) [(2,pB (((p0.Kind == 5)||(p0.Kind == 6))||((p0.Args.length:Int) == 0)))] (by kernel_rfl) (dm ?_)))
 exact zz r h rfl
def jA (p0:Int):Option Bool:=some ((decide (0≤p0))&&(decide (p0≤1000000)))
theorem mW {p0:Int} {r:Bool}  (h:jA p0=some r):PF 190 [pI p0] (pB r):=by
 unfold jA at h
 refine bd ?_
 refine dp Tryz.func190 rfl Tryz.ntmps190 Tryz.results190 rfl (aU [2] (by kernel_rfl) (ca (ai (rg 3 6) [(2,pB ((decide (0≤p0))&&(decide (p0≤1000000))))] (by kernel_rfl) (dm ?_))))
 exact zz r h rfl
def ed (rec:Ze→Option Ze) (p0:Ze):Option Ze:=(bY p0.Except).bind fun x3=>(DH 96 (p0.Args.length:Int)).bind fun u7=>(aV (S:=(List Ze)×Int) (T:=((List Ze))) (fun (l11,v14)=>cond (decide (v14<(p0.Args.length:Int))) ((idx p0.Args v14).bind fun m23=>(rec m23).bind fun x25=>(app 96 l11 [x25]).bind fun l28=>some (.inl (l28,(IntKind.i64.wrap (v14+1))))) (some (.inr l11))) FUEL (([]:List Ze),0)).bind fun l18=>some (⟨p0.Kind,p0.Digits,x3,p0.Tolerance,p0.Limit,p0.Name,l18⟩:Ze)
theorem nl {rec:Ze→Option Ze} (hrec:∀ {p0:Ze} {r:Ze},rec p0=some r→PF 131 [.agg (aC p0)] (.agg (aC r))) {p0:Ze} {r:Ze} (h:ed rec p0=some r):PF 131 [.agg (aC p0)] (.agg (aC r)):=by
 unfold ed at h
 refine bd ?_
 refine dp Tryz.func131 rfl Tryz.ntmps131 Tryz.results131 rfl (cU rfl (bg (cs:=(aC p0)) rfl rfl (fun b1=>al rfl (aN (cs:=[pI 0,pI 0,pN,pI 0,pI 0,pS ByteArray.empty,pN]) rfl rfl rfl rfl (fun b2=>aG (cN h fun x3 hx3 h=>af (cj 2 [1] [6] [(7,pL eS p0.Except)] (by kernel_rfl) ?_)))))))
 refine al rfl (bf rfl rfl (ρ1:=[]) (List.Perm.refl _) (eZ hx3) ?_);rintro _ _ ⟨a4,c5,rfl,rfl⟩
 refine aF 1 [(9,pP b1 2)] (by kernel_rfl) (aS rfl rfl (an (vs:=[pO a4 x3.length c5]) rfl rfl rfl rfl rfl (dl (dl cw)) (dZ (dZ nD)) (aG (cN h fun u7 hu7 h=>af (cj 3 [2] [10,11] [(12,pI (p0.Args.length:Int))] (by kernel_rfl) (al rfl (Fz rfl rfl rfl rfl rfl rfl rfl hu7 (fun b8=>aI [(3,pO (some ⟨b8,0,none⟩) 0 ((p0.Args.length:Int).toNat))] (by kernel_rfl) (co (aM [3] [14] [(15,pL Ze.enc p0.Args),(16,pI (p0.Args.length:Int)),(17,pI 0)] (by kernel_rfl) (fa h fun q21 hq21 h=>?_)))))))))))
 refine am (Y:=(Option Addr×Nat)×((List Ze))) (fun ((a16,c17),l18)=>[(1,pP b1 0),(2,pP b2 0),(3,pO a16 l18.length c17)]) (fun ((a16,c17),l18)=>[PRes.b b1 84 [pI p0.Kind,pI p0.Digits,pO a4 x3.length c5,pI p0.Tolerance,pI p0.Limit,pS p0.Name,pL Ze.enc p0.Args],PRes.b b2 84 [pI 0,pI 0,pN,pI 0,pI 0,pS ByteArray.empty,pN],PRes.row a16 l18.length c17 84 7 (List.map Ze.enc l18),PRes.row a4 x3.length c5 9 1 (List.map eS x3)]) (fun ((a16,c17),l18)=>q21=l18) ?_ ?_
 ·refine aw ?_
  refine aB (Y:=Option Addr×Nat) (S:=(List Ze)×Int) _ hq21 (fun (a12,c13) (l11,v14)=>[(1,pP b1 0),(2,pP b2 0),(3,pO a12 l11.length c13),(15,pL Ze.enc p0.Args),(16,pI (p0.Args.length:Int)),(17,pI v14)]) (fun (a12,c13) (l11,v14)=>[PRes.b b1 84 [pI p0.Kind,pI p0.Digits,pO a4 x3.length c5,pI p0.Tolerance,pI p0.Limit,pS p0.Name,pL Ze.enc p0.Args],PRes.b b2 84 [pI 0,pI 0,pN,pI 0,pI 0,pS ByteArray.empty,pN],PRes.row a12 l11.length c13 84 7 (List.map Ze.enc l11),PRes.row a4 x3.length c5 9 1 (List.map eS x3)]) ((some ⟨b8,0,none⟩),(p0.Args.length:Int).toNat) (qG rfl) (ba (ar (ar (ar aJ))) (ba (ar (ar aJ)) mE)) ?_
  rintro ⟨a12,c13⟩ ⟨l11,v14⟩ o τ hb20;(try dsimp only at hb20);dsimp only [au]
  refine ae (aj [(18,pB (decide (v14<(p0.Args.length:Int))))] (by kernel_rfl) (ca (jG rfl hb20 (fun hc22 hb20=>?_) fun hc22 hb20=>?_)))
  ·refine ah ?_
   refine dq (aa hb20 fun m23 hm23 hb20=>af (aY 2 [] [19] [(20,.agg (aC m23))] (pm 0 Ze.enc (Ze.enc_eq _) hm23 bh) (by kernel_rfl) (al rfl (aN (cs:=[pI 0,pI 0,pN,pI 0,pI 0,pS ByteArray.empty,pN]) rfl rfl rfl rfl (fun b24=>aS rfl rfl (an (vs:=(aC m23)) rfl rfl rfl rfl rfl cw nP (aG (fa hb20 fun x25 hx25 hb20=>af (aY 3 [0] [22] [(21,pO a12 l11.length c13),(23,.agg (aC x25))] (bi 2 (hrec hx25) bh) (by kernel_rfl) ?_)))))))))
   refine al rfl (bw (css:=List.map Ze.enc [x25]) rfl rfl rfl rfl rfl (by (simp only [List.map_cons,List.map_nil,Ze.enc_eq];(repeat (first | exact iP | apply fL rfl)))) rfl (by (simp only [List.map_cons,List.map_nil,Ze.enc_eq];rfl)) rfl rfl (fun b26=>?_))
   refine aa hb20 fun l28 hl28 hb20=>?_
   refine al rfl (bV (enc:=Ze.enc) rfl rfl rfl rfl rfl rfl rfl rfl rfl fy (by exact ar (ar (ar (ar aJ)))) hl28 (fun a29 c30=>?_))
   refine aI [(3,pO a29 l28.length c30)] (by kernel_rfl) (dx (ai [26] [(17,pI (IntKind.i64.wrap (v14+1)))] (by kernel_rfl) ?_))
   exact aR hb20 (a29,c30) (qG rfl) (ba (ar (ar (ar aJ))) (ba (ar (ar (ar aJ))) (ba aJ (ba (ar (ar aJ)) bz))))
  refine aH ?_
  refine cd hb20 (fun ht=>ak rfl ?_)
  exact av ((a12,c13),l11) (lM rfl) Gx ht.symm
 rintro ⟨⟨a16,c17⟩,l18⟩ τ hz;(try dsimp only at hz);subst q21;(try dsimp only at h);dsimp only [au]
 refine ae (af (aF 2 [(27,pO a16 l18.length c17),(28,pP b1 6)] (by kernel_rfl) (aS rfl rfl (an (vs:=[pO a16 l18.length c17]) rfl rfl rfl rfl rfl cw (dZ (dZ (dZ (dZ (dZ (dZ nD)))))) (aG (ca (af ?_)))))))
 refine mq (css:=List.map eS x3) (a:=a4) (by exact ar (ar (ar aJ))) ?_
 refine jR (k:=2) (enc:=eS) (xs:=x3) (b:=b1) (a:=a4) rfl fy (dl cw) ?_
 refine mq (css:=List.map Ze.enc l18) (a:=a16) (by exact ar (ar (ar aJ))) ?_
 refine jR (k:=6) (enc:=Ze.enc) (xs:=l18) (b:=b1) (a:=a16) rfl fy (dl (dl cw)) (fu 1 [2] [(29,.agg [pI p0.Kind,pI p0.Digits,pL eS x3,pI p0.Tolerance,pI p0.Limit,pS p0.Name,pL Ze.enc l18])] (by kernel_rfl) (aS rfl rfl (an (vs:=[pI p0.Kind,pI p0.Digits,pL eS x3,pI p0.Tolerance,pI p0.Limit,pS p0.Name,pL Ze.enc l18]) rfl rfl rfl rfl rfl (dl (dl (dl cw))) nP (aG (dm ?_)))))
 obtain rfl:=osi h
 exact aP (da (dV rfl Gw rfl)) bz ⟨rfl,rfl⟩
def fC (n:Nat):Ze→Option Ze:=Nat.rec (motive:=fun _=>Ze→Option Ze) (fun _=>none) (fun _ ih=>ed ih) n
def iS (p0:Ze):Option Ze:=fC FUEL p0
theorem nG (n:Nat):∀ {p0:Ze} {r:Ze},fC n p0=some r→PF 131 [.agg (aC p0)] (.agg (aC r)):=by
 induction n with
 | zero=>intros;rename_i h;exact nomatch h
 | succ n ih=>intros;rename_i h;exact nl (fun hr=>ih hr) h
theorem n5 {p0:Ze} {r:Ze} (h:iS p0=some r):PF 131 [.agg (aC p0)] (.agg (aC r)):=nG FUEL h
def bk (p0:(List Zi)) (p1:(List Zi)) (p2:(Zi→Zi→Option Bool)):Option Bool:=cond ((p0.length:Int) != (p1.length:Int)) (some false) ((aV (S:=Int) (T:=(Unit)⊕(_)) (fun v2=>cond (decide (v2<(p0.length:Int))) ((idx p0 v2).bind fun m6=>(idx p1 v2).bind fun m8=>(p2 m6 m8).bind fun x10=>cond (!x10) (some (.inr (.inr false))) (some (.inl (IntKind.i64.wrap (v2+1))))) (some (.inr (.inl ())))) FUEL 0).bind fun q=>match q with | .inl _=>some true | .inr e=>some e)
theorem dH {p0:(List Zi)} {p1:(List Zi)} {p2:(Zi→Zi→Option Bool)} {r:Bool} {g2:PV} (hg2:∀ {y0:Zi} {y1:Zi} {w:Bool},p2 y0 y1=some w→PFV g2 [.agg (d9 y0),.agg (d9 y1)] (pB w)) (h:bk p0 p1 p2=some r):PF 134 [pL Zi.enc p0,pL Zi.enc p1,g2] (pB r):=by
 unfold bk at h
 refine bd ?_
 refine dp Tryz.func134 rfl Tryz.ntmps134 Tryz.results134 rfl (aU [6] (by kernel_rfl) (co (bF [10,11,12,13] [(14,pB ((p0.length:Int) != (p1.length:Int)))] (by kernel_rfl) rfl h (fun hc1 h=>?_) fun hc1 h=>?_)))
 ·refine ae ?_
  refine cZ [(6,pB false)] (by kernel_rfl) (ap ?_)
  exact zz r h rfl
 refine ah ?_
 refine co (aj [(15,pL Zi.enc p0),(16,pI (p0.length:Int)),(17,pI 0)] (by kernel_rfl) (fa h fun q4 hq4 h=>?_))
 refine am (Y:=Unit×Unit) (fun (_,_)=>[]) (fun (_,_)=>[]) (fun (_,_)=>q4=Sum.inl ()) ?_ ?_
 ·refine aw ?_
  refine aB (Y:=Unit) (S:=Int) _ hq4 (fun _ v2=>[(1,pL Zi.enc p1),(2,g2),(15,pL Zi.enc p0),(16,pI (p0.length:Int)),(17,pI v2)]) (fun _ v2=>[]) () (lP rfl) bz ?_
  rintro _ v2 o τ hb3;(try dsimp only at hb3);dsimp only [au]
  refine ae (aj [(18,pB (decide (v2<(p0.length:Int))))] (by kernel_rfl) (ca (jG rfl hb3 (fun hc5 hb3=>?_) fun hc5 hb3=>?_)))
  ·refine ah ?_
   refine dq (aa hb3 fun m6 hm6 hb3=>af (aY 3 [] [20] [(19,pI v2),(21,.agg (d9 m6))] (cr 1 Zi.enc hm6 bh) (by kernel_rfl) (al rfl (aN (cs:=[pS ByteArray.empty,pI 0,pI 0,pN,pI 0,pI 0,pS ByteArray.empty,pN]) rfl rfl rfl rfl (fun b7=>aF 1 [(7,pI v2)] (by kernel_rfl) (aS rfl rfl (an (vs:=(d9 m6)) rfl rfl rfl rfl rfl cw zl8 (aG (cN hb3 fun m8 hm8 hb3=>af (aY 4 [] [22,23,24] [(25,.agg (d9 m8))] (cr 2 Zi.enc hm8 bh) (by kernel_rfl) (al rfl (aN (cs:=[pS ByteArray.empty,pI 0,pI 0,pN,pI 0,pI 0,pS ByteArray.empty,pN]) rfl rfl rfl rfl (fun b9=>aS rfl rfl (an (vs:=(d9 m8)) rfl rfl rfl rfl rfl cw zl8 (aG (cN hb3 fun x10 hx10 hb3=>aq [1,0] [26,27,28,29] [(30,pB (!x10))] (Bv 3 (hg2 hx10) bh) (by kernel_rfl) (cR rfl hb3 (fun hc11 hb3=>?_) fun hc11 hb3=>?_)))))))))))))))))
   ·refine ae ?_
    refine cZ [(6,pB false)] (by kernel_rfl) (dM ?_)
    refine az hb3 (fun ht=>?_);subst ht
    refine cS ?_
    exact zz r h rfl
   refine ah ?_
   refine dx (ai [31] [(17,pI (IntKind.i64.wrap (v2+1)))] (by kernel_rfl) ?_)
   exact aR hb3 () (lP rfl) bz
  refine aH ?_
  refine cd hb3 (fun ht=>ak rfl ?_)
  exact av ((),()) nC bz ht.symm
 rintro ⟨_,_⟩ τ hz;(try dsimp only at hz);subst q4;(try dsimp only at h);dsimp only [au]
 refine ae (cZ [(6,pB true)] (by kernel_rfl) ?_)
 exact zz r h rfl
def ee (p0:(List ByteArray)) (p1:(List ByteArray)):Option Bool:=cond ((p0.length:Int) != (p1.length:Int)) (some false) ((aV (S:=Int) (T:=(Unit)⊕(_)) (fun v2=>cond (decide (v2<(p0.length:Int))) ((idx p0 v2).bind fun m6=>(idx p1 v2).bind fun m7=>cond (!decide (m6=m7)) (some (.inr (.inr false))) (some (.inl (IntKind.i64.wrap (v2+1))))) (some (.inr (.inl ())))) FUEL 0).bind fun q=>match q with | .inl _=>some true | .inr e=>some e)
theorem lB {p0:(List ByteArray)} {p1:(List ByteArray)} {r:Bool}  (h:ee p0 p1=some r):PF 167 [pL eS p0,pL eS p1] (pB r):=by
 unfold ee at h
 refine bd ?_
 refine dp Tryz.func167 rfl Tryz.ntmps167 Tryz.results167 rfl (aU [4] (by kernel_rfl) (co (bF [6,7,8,9] [(10,pB ((p0.length:Int) != (p1.length:Int)))] (by kernel_rfl) rfl h (fun hc1 h=>?_) fun hc1 h=>?_)))
 ·refine ae ?_
  refine cZ [(4,pB false)] (by kernel_rfl) (ap ?_)
  exact zz r h rfl
 refine ah ?_
 refine co (ai [11] [(12,pI (p0.length:Int)),(13,pI 0)] (by kernel_rfl) (fa h fun q4 hq4 h=>?_))
 refine am (Y:=Unit×Unit) (fun (_,_)=>[]) (fun (_,_)=>[]) (fun (_,_)=>q4=Sum.inl ()) ?_ ?_
 ·refine aw ?_
  refine aB (Y:=Unit) (S:=Int) _ hq4 (fun _ v2=>[(0,pL eS p0),(1,pL eS p1),(12,pI (p0.length:Int)),(13,pI v2)]) (fun _ v2=>[]) () (iq rfl) bz ?_
  rintro _ v2 o τ hb3;(try dsimp only at hb3);dsimp only [au]
  refine ae (aj [(14,pB (decide (v2<(p0.length:Int))))] (by kernel_rfl) (ca (jG rfl hb3 (fun hc5 hb3=>?_) fun hc5 hb3=>?_)))
  ·refine ah ?_
   refine dq (ai [15] [(5,pI v2)] (by kernel_rfl) (ca (bj (ρd:=[]) [(0,0),(1,0),(2,0),(3,0),(4,0),(5,0),(6,0),(7,0),(8,0)] _ (List.Perm.refl _) (by kernel_rfl) rfl (aa hb3 fun m6 hm6 hb3=>aa hb3 fun m7 hm7 hb3=>bv 9 [] (rg 16 8) [(24,pB (!decide (m6=m7)))] (cr 2 eS hm6 (cr 6 eS hm7 bh)) (by kernel_rfl) (bB (cR rfl hb3 (fun hc8 hb3=>?_) fun hc8 hb3=>?_))))))
   ·refine ae ?_
    refine cZ [(4,pB false)] (by kernel_rfl) (dM ?_)
    refine az hb3 (fun ht=>?_);subst ht
    refine cS ?_
    exact zz r h rfl
   refine ah ?_
   refine dx (ai [25] [(13,pI (IntKind.i64.wrap (v2+1)))] (by kernel_rfl) ?_)
   exact aR hb3 () (iq rfl) bz
  refine aH ?_
  refine cd hb3 (fun ht=>ak rfl ?_)
  exact av ((),()) nC bz ht.symm
 rintro ⟨_,_⟩ τ hz;(try dsimp only at hz);subst q4;(try dsimp only at h);dsimp only [au]
 refine ae (cZ [(4,pB true)] (by kernel_rfl) ?_)
 exact zz r h rfl
def bo (p0:(List Ze)) (p1:(List Ze)) (p2:(Ze→Ze→Option Bool)):Option Bool:=cond ((p0.length:Int) != (p1.length:Int)) (some false) ((aV (S:=Int) (T:=(Unit)⊕(_)) (fun v2=>cond (decide (v2<(p0.length:Int))) ((idx p0 v2).bind fun m6=>(idx p1 v2).bind fun m8=>(p2 m6 m8).bind fun x10=>cond (!x10) (some (.inr (.inr false))) (some (.inl (IntKind.i64.wrap (v2+1))))) (some (.inr (.inl ())))) FUEL 0).bind fun q=>match q with | .inl _=>some true | .inr e=>some e)
theorem fb {p0:(List Ze)} {p1:(List Ze)} {p2:(Ze→Ze→Option Bool)} {r:Bool} {g2:PV} (hg2:∀ {y0:Ze} {y1:Ze} {w:Bool},p2 y0 y1=some w→PFV g2 [.agg (aC y0),.agg (aC y1)] (pB w)) (h:bo p0 p1 p2=some r):PF 168 [pL Ze.enc p0,pL Ze.enc p1,g2] (pB r):=by
 unfold bo at h
 refine bd ?_
 refine dp Tryz.func168 rfl Tryz.ntmps168 Tryz.results168 rfl (aU [6] (by kernel_rfl) (co (bF [10,11,12,13] [(14,pB ((p0.length:Int) != (p1.length:Int)))] (by kernel_rfl) rfl h (fun hc1 h=>?_) fun hc1 h=>?_)))
 ·refine ae ?_
  refine cZ [(6,pB false)] (by kernel_rfl) (ap ?_)
  exact zz r h rfl
 refine ah ?_
 refine co (aj [(15,pL Ze.enc p0),(16,pI (p0.length:Int)),(17,pI 0)] (by kernel_rfl) (fa h fun q4 hq4 h=>?_))
 refine am (Y:=Unit×Unit) (fun (_,_)=>[]) (fun (_,_)=>[]) (fun (_,_)=>q4=Sum.inl ()) ?_ ?_
 ·refine aw ?_
  refine aB (Y:=Unit) (S:=Int) _ hq4 (fun _ v2=>[(1,pL Ze.enc p1),(2,g2),(15,pL Ze.enc p0),(16,pI (p0.length:Int)),(17,pI v2)]) (fun _ v2=>[]) () (lP rfl) bz ?_
  rintro _ v2 o τ hb3;(try dsimp only at hb3);dsimp only [au]
  refine ae (aj [(18,pB (decide (v2<(p0.length:Int))))] (by kernel_rfl) (ca (jG rfl hb3 (fun hc5 hb3=>?_) fun hc5 hb3=>?_)))
  ·refine ah ?_
   refine dq (aa hb3 fun m6 hm6 hb3=>af (aY 3 [] [20] [(19,pI v2),(21,.agg (aC m6))] (pm 1 Ze.enc (Ze.enc_eq _) hm6 bh) (by kernel_rfl) (al rfl (aN (cs:=[pI 0,pI 0,pN,pI 0,pI 0,pS ByteArray.empty,pN]) rfl rfl rfl rfl (fun b7=>aF 1 [(7,pI v2)] (by kernel_rfl) (aS rfl rfl (an (vs:=(aC m6)) rfl rfl rfl rfl rfl cw nP (aG (cN hb3 fun m8 hm8 hb3=>af (aY 4 [] [22,23,24] [(25,.agg (aC m8))] (pm 2 Ze.enc (Ze.enc_eq _) hm8 bh) (by kernel_rfl) (al rfl (aN (cs:=[pI 0,pI 0,pN,pI 0,pI 0,pS ByteArray.empty,pN]) rfl rfl rfl rfl (fun b9=>aS rfl rfl (an (vs:=(aC m8)) rfl rfl rfl rfl rfl cw nP (aG (cN hb3 fun x10 hx10 hb3=>aq [1,0] [26,27,28,29] [(30,pB (!x10))] (Bv 3 (hg2 hx10) bh) (by kernel_rfl) (cR rfl hb3 (fun hc11 hb3=>?_) fun hc11 hb3=>?_)))))))))))))))))
   ·refine ae ?_
    refine cZ [(6,pB false)] (by kernel_rfl) (dM ?_)
    refine az hb3 (fun ht=>?_);subst ht
    refine cS ?_
    exact zz r h rfl
   refine ah ?_
   refine dx (ai [31] [(17,pI (IntKind.i64.wrap (v2+1)))] (by kernel_rfl) ?_)
   exact aR hb3 () (lP rfl) bz
  refine aH ?_
  refine cd hb3 (fun ht=>ak rfl ?_)
  exact av ((),()) nC bz ht.symm
 rintro ⟨_,_⟩ τ hz;(try dsimp only at hz);subst q4;(try dsimp only at h);dsimp only [au]
 refine ae (cZ [(6,pB true)] (by kernel_rfl) ?_)
 exact zz r h rfl
def ef (rec:Ze→Ze→Option Bool) (p0:Ze) (p1:Ze):Option Bool:=(gd (((((p0.Kind == p1.Kind)&&(p0.Digits == p1.Digits))&&(p0.Tolerance == p1.Tolerance))&&(p0.Limit == p1.Limit))&&(decide (p0.Name=p1.Name))) (ee p0.Except p1.Except)).bind fun x3=>(gd ((((((p0.Kind == p1.Kind)&&(p0.Digits == p1.Digits))&&(p0.Tolerance == p1.Tolerance))&&(p0.Limit == p1.Limit))&&(decide (p0.Name=p1.Name)))&&x3) (bo p0.Args p1.Args (fun y4 y5=>rec y4 y5))).bind fun x6=>some (((((((p0.Kind == p1.Kind)&&(p0.Digits == p1.Digits))&&(p0.Tolerance == p1.Tolerance))&&(p0.Limit == p1.Limit))&&(decide (p0.Name=p1.Name)))&&x3)&&x6)
theorem np {rec:Ze→Ze→Option Bool} (hrec:∀ {p0:Ze} {p1:Ze} {r:Bool},rec p0 p1=some r→PF 136 [.agg (aC p0),.agg (aC p1)] (pB r)) {p0:Ze} {p1:Ze} {r:Bool} (h:ef rec p0 p1=some r):PF 136 [.agg (aC p0),.agg (aC p1)] (pB r):=by
 unfold ef at h
 refine bd ?_
 refine dp Tryz.func136 rfl Tryz.ntmps136 Tryz.results136 rfl (cU rfl (bg (cs:=(aC p0)) rfl rfl (fun b1=>al rfl (bg (cs:=(aC p1)) rfl rfl (fun b2=>bc [4] (by kernel_rfl) (cN h fun x3 hx3 h=>aa h fun x6 hx6 h=>aq [1,0,1,0,1,0,1,0,1,0,1,0,1,0] (rg 5 47) [(4,pB (((((((p0.Kind == p1.Kind)&&(p0.Digits == p1.Digits))&&(p0.Tolerance == p1.Tolerance))&&(p0.Limit == p1.Limit))&&(decide (p0.Name=p1.Name)))&&x3)&&x6))] (dK 38 (fun hc=>lB (cA hx3 hc)) (dK 45 (fun hc=>fb (fun hr=>qY (hrec hr)) (cA hx6 hc)) bh)) (by kernel_rfl) (dm ?_)))))))
 exact zz r h rfl
def eg (n:Nat):Ze→Ze→Option Bool:=Nat.rec (motive:=fun _=>Ze→Ze→Option Bool) (fun _ _=>none) (fun _ ih=>ef ih) n
def iT (p0:Ze) (p1:Ze):Option Bool:=eg FUEL p0 p1
theorem nH (n:Nat):∀ {p0:Ze} {p1:Ze} {r:Bool},eg n p0 p1=some r→PF 136 [.agg (aC p0),.agg (aC p1)] (pB r):=by
 induction n with
 | zero=>intros;rename_i h;exact nomatch h
 | succ n ih=>intros;rename_i h;exact np (fun hr=>ih hr) h
theorem n7 {p0:Ze} {p1:Ze} {r:Bool} (h:iT p0 p1=some r):PF 136 [.agg (aC p0),.agg (aC p1)] (pB r):=nH FUEL h
def eF (p1:Int):Option (List ByteArray):=(DH 16 p1).bind fun _=>some []
theorem lR {p1:Int} {r:(List ByteArray)} (h:eF p1=some r):PCall 169 [.v (.slice none 0 0),pI p1] [] (fun pv ρ'=>∃ a c,pv=.v (.slice a r.length c)∧ρ'=[PRes.row a r.length c 9 1 (List.map eS r)]):=by
 unfold eF at h
 obtain ⟨u,hu,h⟩:=Option.bind_eq_some_iff.1 h
 obtain rfl:=osi h
 obtain ⟨hg0,hg1⟩:=FE hu
 have ew:IntKind.i64.wrap (p1 - IntKind.i64.wrap (((0:Nat):Int) - ((0:Nat):Int)))=p1:=xq hg0 hg1
 refine i4 Tryz.func169 rfl Tryz.ntmps169 Tryz.results169 rfl ?_
 (repeat refine ae ?_)
 refine aU [4] (by kernel_rfl) (aL ?_)
 (repeat refine ae ?_)
 refine ai [5] [(6,pB (decide (p1<0)))] (by kernel_rfl) (aL ?_)
 refine gN rfl (fun hc=>absurd (of_decide_eq_true hc) (by omega)) (fun hc=>?_)
 refine ah (aL ?_)
 (repeat refine ae ?_)
 refine af (aF 2 [(8,pI p1),(9,.v (.slice none 0 0))] (by kernel_rfl) (bx rfl rfl rfl (uq rfl rfl (.p rfl)) (ir [11,12,13,14] [(1,pI (IntKind.i64.wrap (p1 - IntKind.i64.wrap (((0:Nat):Int) - ((0:Nat):Int)))))] (by kernel_rfl) ?_)))
 rw [ew]
 refine aL ?_
 (repeat refine ae ?_)
 refine ai [15] [(16,pB (decide (0<p1)))] (by kernel_rfl) (aL ?_)
 refine gN rfl (fun hc=>?_) (fun hc=>?_)
 ·refine af ?_
  refine aF 2 [(17,.v (.slice none 0 0)),(18,.v (.slice none 0 0))] (by kernel_rfl) (bx rfl rfl rfl (uq rfl rfl (.p rfl)) (bx rfl rfl rfl (qA rfl rfl rfl (.p rfl) (.p rfl) rfl (Nat.zero_le _)) (aF 1 [(21,pI p1)] (by kernel_rfl) (uQ 9 1 ?_))))
  refine al rfl (Am rfl rfl rfl rfl rfl rfl rfl rfl (of_decide_eq_true hc) hu (by exact aJ) (fun a c hac=>?_))
  refine aF 2 [(23,.v (.slice none 0 0)),(24,pI 0)] (by kernel_rfl) (bx rfl rfl rfl (qA (k:=0) rfl rfl rfl (.p rfl) (.p rfl) rfl (Nat.zero_le _)) (aI [(0,.v (.slice a 0 c))] (by kernel_rfl) (aL ?_)))
  (repeat refine ae ?_)
  refine ai [26] [(4,.v (.slice a 0 c))] (by kernel_rfl) (dm ?_)
  exact aP (da (aO rfl)) cg ⟨_,_,rfl,rfl⟩
 refine ah ?_
 refine aL ?_
 (repeat refine ae ?_)
 refine ai [26] [(4,.v (.slice none 0 0))] (by kernel_rfl) (aL (bX 9 1 (bq ?_)))
 exact aP (da (aO rfl)) cg ⟨_,_,rfl,rfl⟩
def cY (p0:(List (List ByteArray))):Option (List ByteArray):=(aV (S:=Int×Int) (T:=(Int)) (fun (v1,v2)=>cond (decide (v2<(p0.length:Int))) ((idx p0 v2).bind fun m7=>cond (decide ((IntKind.i64.wrap (v1+(m7.length:Int)))<0)) (none) (some (.inl ((IntKind.i64.wrap (v1+(m7.length:Int))),(IntKind.i64.wrap (v2+1)))))) (some (.inr v1))) FUEL (0,0)).bind fun v3=>(eF v3).bind fun x9=>(aV (S:=(List ByteArray)×Int) (T:=((List ByteArray))) (fun (l14,v17)=>cond (decide (v17<(p0.length:Int))) ((idx p0 v17).bind fun m25=>(app 16 l14 m25).bind fun l26=>some (.inl (l26,(IntKind.i64.wrap (v17+1))))) (some (.inr l14))) FUEL (x9,0)).bind fun l21=>some l21
theorem kT {p0:(List (List ByteArray))} {r:(List ByteArray)}  (h:cY p0=some r):PCall 138 [pL (eL eS) p0] [] (fun pv ρ'=>∃ a c,pv=.v (.slice a r.length c)∧ρ'=[PRes.row a r.length c 9 1 (List.map eS r)]):=by
 unfold cY at h
 refine dp Tryz.func138 rfl Tryz.ntmps138 Tryz.results138 rfl (aU [2] (by kernel_rfl) (ca (aj [(3,pI 0)] (by kernel_rfl) (co (aj [(9,pL (eL eS) p0),(10,pI (p0.length:Int)),(11,pI 0)] (by kernel_rfl) (fa h fun q5 hq5 h=>?_))))))
 refine am (Y:=Unit×Int) (fun (_,v3)=>[(0,pL (eL eS) p0),(3,pI v3)]) (fun (_,v3)=>[]) (fun (_,v3)=>q5=v3) ?_ ?_
 ·refine aw ?_
  refine aB (Y:=Unit) (S:=Int×Int) _ hq5 (fun _ (v1,v2)=>[(0,pL (eL eS) p0),(3,pI v1),(9,pL (eL eS) p0),(10,pI (p0.length:Int)),(11,pI v2)]) (fun _ (v1,v2)=>[]) () (lP rfl) bz ?_
  rintro _ ⟨v1,v2⟩ o τ hb4;(try dsimp only at hb4);dsimp only [au]
  refine ae (aj [(12,pB (decide (v2<(p0.length:Int))))] (by kernel_rfl) (ca (jG rfl hb4 (fun hc6 hb4=>?_) fun hc6 hb4=>?_)))
  ·refine ah ?_
   refine dq (aa hb4 fun m7 hm7 hb4=>aq [] [13,14] [(5,pL eS m7)] (cr 0 (eL eS) hm7 bh) (by kernel_rfl) (ca (ai [15,16,17,18] [(3,pI (IntKind.i64.wrap (v1+(m7.length:Int))))] (by kernel_rfl) (ca (bF [19] [(20,pB (decide ((IntKind.i64.wrap (v1+(m7.length:Int)))<0)))] (by kernel_rfl) rfl hb4 (fun hc8 hb4=>?_) fun hc8 hb4=>?_)))))
   ·refine af ?_
    exact absurd hb4 (by simp)
   refine ah ?_
   refine dx (ai [22] [(11,pI (IntKind.i64.wrap (v2+1)))] (by kernel_rfl) ?_)
   exact aR hb4 () (lP rfl) bz
  refine aH ?_
  refine cd hb4 (fun ht=>ak rfl ?_)
  exact av ((),v1) (lL rfl) bz ht.symm
 rintro ⟨_,v3⟩ τ hz;(try dsimp only at hz);subst q5;(try dsimp only at h);dsimp only [au]
 refine ae (aa h fun x9 hx9 h=>af (aF 1 [(23,pI v3)] (by kernel_rfl) ?_))
 refine al rfl (bf rfl rfl (ρ1:=[]) (List.Perm.refl _) (lR hx9) ?_);rintro _ _ ⟨a10,c11,rfl,rfl⟩
 refine aI [(6,pO a10 x9.length c11)] (by kernel_rfl) (co (aj [(25,pL (eL eS) p0),(26,pI (p0.length:Int)),(27,pI 0)] (by kernel_rfl) (fa h fun q23 hq23 h=>?_)))
 refine am (Y:=(Option Addr×Nat)×((List ByteArray))) (fun ((a19,c20),l21)=>[(6,pO a19 l21.length c20)]) (fun ((a19,c20),l21)=>[PRes.row a19 l21.length c20 9 1 (List.map eS l21)]) (fun ((a19,c20),l21)=>q23=l21) ?_ ?_
 ·refine aw ?_
  refine aB (Y:=Option Addr×Nat) (S:=(List ByteArray)×Int) _ hq23 (fun (a15,c16) (l14,v17)=>[(6,pO a15 l14.length c16),(25,pL (eL eS) p0),(26,pI (p0.length:Int)),(27,pI v17)]) (fun (a15,c16) (l14,v17)=>[PRes.row a15 l14.length c16 9 1 (List.map eS l14)]) (a10,c11) (iq rfl) cg ?_
  rintro ⟨a15,c16⟩ ⟨l14,v17⟩ o τ hb22;(try dsimp only at hb22);dsimp only [au]
  refine ae (aj [(28,pB (decide (v17<(p0.length:Int))))] (by kernel_rfl) (ca (jG rfl hb22 (fun hc24 hb22=>?_) fun hc24 hb22=>?_)))
  ·refine ah ?_
   refine dq (aa hb22 fun m25 hm25 hb22=>aq [] [29,30] [(8,pL eS m25)] (cr 0 (eL eS) hm25 bh) (by kernel_rfl) (fa hb22 fun l26 hl26 hb22=>af (aF 2 [(31,pO a15 l14.length c16),(32,pL eS m25)] (by kernel_rfl) ?_)))
   refine al rfl (gn (enc:=eS) rfl rfl rfl rfl rfl (fun _=>rfl) rfl rfl rfl (by exact aJ) hl26 (fun a27 c28=>?_))
   refine aI [(6,pO a27 l26.length c28)] (by kernel_rfl) (dx (ai [34] [(27,pI (IntKind.i64.wrap (v17+1)))] (by kernel_rfl) ?_))
   exact aR hb22 (a27,c28) (iq rfl) cg
  refine aH ?_
  refine cd hb22 (fun ht=>ak rfl ?_)
  exact av ((a15,c16),l14) (qP rfl) cg ht.symm
 rintro ⟨⟨a19,c20⟩,l21⟩ τ hz;(try dsimp only at hz);subst q23;(try dsimp only at h);dsimp only [au]
 refine ae (ai [35] [(2,pO a19 l21.length c20)] (by kernel_rfl) (dm ?_))
 obtain rfl:=osi h
 exact aP (da (aO rfl)) cg ⟨_,_,rfl,rfl⟩
def dI (p0:(List ByteArray)):Option (List ByteArray):=cond (decide (((p0.length:Nat):Int)<2)) (some p0) ((aV (S:=Int) (T:=(Unit)⊕(_)) (fun v2=>cond (decide (v2<((p0.length:Nat):Int))) ((idx p0 v2).bind fun m7=>(idx p0 (IntKind.i64.wrap (v2 - 1))).bind fun m8=>cond (decide (m7=m8)) ((sub p0 v2 (p0.length:Int)).bind fun l10=>(aV (S:=(List ByteArray)×Int×Int) (T:=((List ByteArray)×Int)) (fun (l12,v13,v14)=>cond (decide (v14<((p0.length - v2.toNat:Nat):Int))) (((lw v14).bind fun u25=>(idx l12 (v2+v14)).bind fun m26=>(lw (IntKind.i64.wrap (v14 - 1))).bind fun u27=>(idx l12 (v2+(IntKind.i64.wrap (v14 - 1)))).bind fun m28=>cond (!decide (m26=m28)) ((lw v14).bind fun u30=>(idx l12 (v2+v14)).bind fun m31=>(idx l12 v13).bind fun m32=>some ((l12.set v13.toNat m31),(IntKind.i64.wrap (v13+1)))) (some (l12,v13))).bind fun (l22,v23)=>some (.inl (l22,v23,(IntKind.i64.wrap (v14+1))))) (some (.inr (l12,v13)))) FUEL (p0,v2,1)).bind fun (l16,v17)=>(sub l16 v17 (l16.length:Int)).bind fun l34=>(sub (List.take v17.toNat l16++List.replicate (p0.length - v17.toNat) ByteArray.empty) 0 v17).bind fun l35=>some (.inr (.inr l35))) (some (.inl (IntKind.i64.wrap (v2+1))))) (some (.inr (.inl ())))) FUEL 1).bind fun q=>match q with | .inl _=>some p0 | .inr e=>some e)
theorem kI {p0:(List ByteArray)} {a_0:Option Addr}  {n_0:Nat}  {c_0:Nat} {r:(List ByteArray)}  (h:dI p0=some r):PCall 140 [.v (.slice a_0 n_0 c_0)] [PRes.row a_0 n_0 c_0 9 1 (List.map eS p0)] (fun pv ρ'=>∃ a c,pv=.v (.slice a r.length c)∧ρ'=[PRes.row a r.length c 9 1 (List.map eS r)]):=by
 unfold dI at h
 refine i4 Tryz.func140 rfl Tryz.ntmps140 Tryz.results140 rfl ?_
 refine jT (enc:=eS) (xs:=p0) (a:=a_0) fy (fun hl ha=>?_);subst hl;clear ha
 refine ae (aU [2] (by kernel_rfl) (co (bF [6,7] [(8,pB (decide (((p0.length:Nat):Int)<2)))] (by kernel_rfl) rfl h (fun hc1 h=>?_) fun hc1 h=>?_)))
 ·refine ae ?_
  refine ai [9] [(2,pO a_0 p0.length c_0)] (by kernel_rfl) (dm (ap ?_))
  obtain rfl:=osi h
  exact aP (da (aO rfl)) cg ⟨_,_,rfl,rfl⟩
 refine ah ?_
 refine co (aj [(3,pI 1)] (by kernel_rfl) (fa h fun q5 hq5 h=>?_))
 refine am (Y:=Unit×Unit) (fun (_,_)=>[(0,pO a_0 p0.length c_0)]) (fun (_,_)=>[PRes.row a_0 p0.length c_0 9 1 (List.map eS p0)]) (fun (_,_)=>q5=Sum.inl ()) ?_ ?_
 ·refine aw ?_
  refine aB (Y:=Unit) (S:=Int) _ hq5 (fun _ v2=>[(0,pO a_0 p0.length c_0),(3,pI v2)]) (fun _ v2=>[PRes.row a_0 p0.length c_0 9 1 (List.map eS p0)]) () (lL rfl) cg ?_
  rintro _ v2 o τ hb4;(try dsimp only at hb4);dsimp only [au]
  refine cT (bF [10,11,12] [(13,pB (decide (v2<((p0.length:Nat):Int))))] (by kernel_rfl) rfl hb4 (fun hc6 hb4=>?_) fun hc6 hb4=>?_)
  ·refine ah ?_
   refine dq (bj (ρd:=[]) [(0,0),(1,0),(2,0),(3,0),(4,0),(5,0),(6,0),(7,0),(8,0),(9,0)] _ (List.Perm.refl _) (by kernel_rfl) rfl (aa hb4 fun m7 hm7 hb4=>gS 2 [(16,pO a_0 p0.length c_0),(17,pI v2)] (by kernel_rfl) (jS rfl rfl rfl (dA (enc:=eS) (xs:=p0) rfl rfl rfl (.p rfl) fy (.p rfl) (fun _=>hm7)) (jS rfl rfl rfl (cP (sz:=1) (p:=pS m7) (enc:=eS) (xs:=p0) (a:=a_0) v2 0 m7 rfl (.p rfl) rfl fy (fun _=>hm7) rfl) (aa hb4 fun m8 hm8 hb4=>mT 3 [21] [(20,pO a_0 p0.length c_0),(22,pI (IntKind.i64.wrap (v2 - 1)))] (by kernel_rfl) (jS rfl rfl rfl (dA (enc:=eS) (xs:=p0) rfl rfl rfl (.p rfl) fy (.p rfl) (fun _=>hm8)) (jS rfl rfl rfl (cP (sz:=1) (p:=pS m8) (enc:=eS) (xs:=p0) (a:=a_0) (IntKind.i64.wrap (v2 - 1)) 0 m8 rfl (.p rfl) rfl fy (fun _=>hm8) rfl) (gS 1 [(25,pB (decide (m7=m8)))] (by kernel_rfl) (bB (cR rfl hb4 (fun hc9 hb4=>?_) fun hc9 hb4=>?_))))))))))
   ·refine ae ?_
    refine aa hb4 fun l10 hl10 hb4=>af (aF 2 [(26,pO a_0 p0.length c_0),(27,pI v2)] (by kernel_rfl) (bx rfl rfl rfl (mQ (enc:=eS) (xs:=p0) rfl rfl rfl rfl rfl fy hl10) (aI [(4,pQ a_0 p0.length c_0 v2.toNat 1)] (by kernel_rfl) (co (aj [(5,pI 1)] (by kernel_rfl) (fa hb4 fun q19 hq19 hb4=>?_))))))
    refine am (Y:=Unit×((List ByteArray)×Int)) (fun (_,(l16,v17))=>[(0,pO a_0 p0.length c_0),(3,pI v17)]) (fun (_,(l16,v17))=>[PRes.row a_0 p0.length c_0 9 1 (List.map eS l16)]) (fun (_,(l16,v17))=>q19=(l16,v17)) ?_ ?_
    ·refine aw ?_
     refine aB (Y:=Unit) (S:=(List ByteArray)×Int×Int) _ hq19 (fun _ (l12,v13,v14)=>[(0,pO a_0 p0.length c_0),(3,pI v13),(4,pQ a_0 p0.length c_0 v2.toNat 1),(5,pI v14)]) (fun _ (l12,v13,v14)=>[PRes.row a_0 p0.length c_0 9 1 (List.map eS l12)]) () (iq rfl) cg ?_
     rintro _ ⟨l12,v13,v14⟩ o τ hb18;(try dsimp only at hb18);dsimp only [au]
     refine cT (bF [29,30,31] [(32,pB (decide (v14<((p0.length - v2.toNat:Nat):Int))))] (by kernel_rfl) rfl hb18 (fun hc20 hb18=>?_) fun hc20 hb18=>?_)
     ·refine ah ?_
      refine cN hb18 fun q24 hq24 hb18=>?_
      refine am (Y:=Unit×((List ByteArray)×Int)) (fun (_,(l22,v23))=>[(0,pO a_0 p0.length c_0),(3,pI v23),(4,pQ a_0 p0.length c_0 v2.toNat 1),(5,pI v14)]) (fun (_,(l22,v23))=>[PRes.row a_0 p0.length c_0 9 1 (List.map eS l22)]) (fun (_,(l22,v23))=>q24=(l22,v23)) ?_ ?_
      ·skip
       refine nX (bj (ρd:=[]) [(0,0),(1,0),(2,0),(3,0),(4,0),(5,0),(6,0),(7,0),(8,0),(9,0)] _ (List.Perm.refl _) (by kernel_rfl) rfl (aa hq24 fun u25 hu25 hq24=>aa hq24 fun m26 hm26 hq24=>gS 2 [(35,pQ a_0 p0.length c_0 v2.toNat 1),(36,pI v14)] (by kernel_rfl) (jS rfl rfl rfl (jH (enc:=eS) (xs:=l12) (i:=v2) rfl rfl rfl rfl rfl (gO hl10).1.1 (lx hu25) fy hm26) (jS rfl rfl rfl (cP (sz:=1) (p:=pS m26) (enc:=eS) (xs:=l12) (a:=a_0) (v2+v14) 0 m26 rfl (.p rfl) rfl fy (fun _=>hm26) rfl) (aa hq24 fun u27 hu27 hq24=>aa hq24 fun m28 hm28 hq24=>mT 3 [40] [(39,pQ a_0 p0.length c_0 v2.toNat 1),(41,pI (IntKind.i64.wrap (v14 - 1)))] (by kernel_rfl) (jS rfl rfl rfl (jH (enc:=eS) (xs:=l12) (i:=v2) rfl rfl rfl rfl rfl (gO hl10).1.1 (lx hu27) fy hm28) (jS rfl rfl rfl (cP (sz:=1) (p:=pS m28) (enc:=eS) (xs:=l12) (a:=a_0) (v2+(IntKind.i64.wrap (v14 - 1))) 0 m28 rfl (.p rfl) rfl fy (fun _=>hm28) rfl) (gS 1 [(44,pB (!decide (m26=m28)))] (by kernel_rfl) (bB (cR rfl hq24 (fun hc29 hq24=>?_) fun hc29 hq24=>?_))))))))))
       ·refine ae ?_
        refine aa hq24 fun u30 hu30 hq24=>aa hq24 fun m31 hm31 hq24=>af (aF 4 [(45,pO a_0 p0.length c_0),(46,pI v13),(47,pQ a_0 p0.length c_0 v2.toNat 1),(48,pI v14)] (by kernel_rfl) (bx rfl rfl rfl (jH (enc:=eS) (xs:=l12) (i:=v2) rfl rfl rfl rfl rfl (gO hl10).1.1 (lx hu30) fy hm31) (bx rfl rfl rfl (cP (sz:=1) (p:=pS m31) (enc:=eS) (xs:=l12) (a:=a_0) (v2+v14) 0 m31 rfl (.p rfl) rfl fy (fun _=>hm31) rfl) (aa hq24 fun m32 hm32 hq24=>bx rfl rfl rfl (dA (enc:=eS) (xs:=l12) rfl rfl rfl (.p rfl) fy (.p rfl) (fun _=>hm32)) (aS rfl rfl (rc (enc:=eS) (xs:=l12) (a:=a_0) v13 0 m32 m31 rfl rfl rfl rfl (fun _=>rfl) rfl rfl hm32 nD cw (aG (aL (ai [52,53] [(3,pI (IntKind.i64.wrap (v13+1)))] (by kernel_rfl) (aA ?_))))))))))
        obtain rfl:=osi hq24
        exact av ((),((l12.set v13.toNat m31),(IntKind.i64.wrap (v13+1)))) (iq rfl) cg rfl
       refine ah ?_
       refine aA ?_
       obtain rfl:=osi hq24
       exact av ((),(l12,v13)) (iq rfl) cg rfl
      rintro ⟨_,⟨l22,v23⟩⟩ τ hz;(try dsimp only at hz);subst q24;(try dsimp only at hb18);dsimp only [au]
      refine ai [33,34] [(5,pI (IntKind.i64.wrap (v14+1)))] (by kernel_rfl) ?_
      exact aR hb18 () (iq rfl) cg
     refine aH ?_
     refine cd hb18 (fun ht=>ak rfl ?_)
     exact av ((),(l12,v13)) (lL rfl) cg ht.symm
    rintro ⟨_,⟨l16,v17⟩⟩ τ hz;(try dsimp only at hz);subst q19;(try dsimp only at hb4);dsimp only [au]
    refine ae (aa hb4 fun l34 hl34 hb4=>af (aF 2 [(54,pO a_0 p0.length c_0),(55,pI v17)] (by kernel_rfl) (bx rfl rfl rfl (mQ (enc:=eS) (xs:=l16) rfl rfl rfl rfl rfl fy hl34) (aS rfl rfl (xn (enc:=eS) (xs:=l16) (z0:=ByteArray.empty) (i:=v17) rfl rfl rfl rfl hl34 rfl rfl rfl rfl cw (aG (cN hb4 fun l35 hl35 hb4=>af (aF 2 [(57,pO a_0 p0.length c_0),(58,pI v17)] (by kernel_rfl) ?_))))))))
    refine al rfl (sI (enc:=eS) (xs:=(List.take v17.toNat l16++List.replicate (p0.length - v17.toNat) ByteArray.empty)) rfl rfl rfl rfl rfl (by exact aJ) hl35 ?_)
    refine aI [(2,pO a_0 l35.length c_0)] (by kernel_rfl) (dm (dM ?_))
    refine az hb4 (fun ht=>?_);subst ht
    refine cS ?_
    obtain rfl:=osi h
    exact aP (da (aO rfl)) cg ⟨_,_,rfl,rfl⟩
   refine ah ?_
   refine dx (ai [14,15] [(3,pI (IntKind.i64.wrap (v2+1)))] (by kernel_rfl) ?_)
   exact aR hb4 () (lL rfl) cg
  refine aH ?_
  refine cd hb4 (fun ht=>ak rfl ?_)
  exact av ((),()) (qP rfl) cg ht.symm
 rintro ⟨_,_⟩ τ hz;(try dsimp only at hz);subst q5;(try dsimp only at h);dsimp only [au]
 refine ae (ai [60] [(2,pO a_0 p0.length c_0)] (by kernel_rfl) (dm ?_))
 obtain rfl:=osi h
 exact aP (da (aO rfl)) cg ⟨_,_,rfl,rfl⟩
def cV (p0:Zr) (p1:Zd) (p2:Int):Option Zf:=(aV (S:=Int) (T:=(Unit)⊕(_)) (fun v3=>cond (decide (v3<(p0.partners.length:Int))) ((idx p0.partners v3).bind fun m7=>cond ((fh p0.set_ (⟨p1.ID,m7⟩:Za)).getD false) (some (.inr (.inr (Zf.proved_ (⟨(⟨p1.Code,p2,true⟩:Zl),(⟨p1.ID,m7⟩:Za)⟩:Zq))))) (some (.inl (IntKind.i64.wrap (v3+1))))) (some (.inr (.inl ())))) FUEL 0).bind fun q=>match q with | .inl _=>some (Zf.plain_ (⟨(⟨p1.Code,p2,false⟩:Zl)⟩:Zs)) | .inr e=>some e
theorem iM {p0:Zr} {p1:Zd} {p2:Int} {m0_set_:Nat} {r:Zf}  (h:cV p0 p1 p2=some r):PCall 98 [.agg [pL eI p0.partners,.v (.map (some m0_set_))],.agg (aK p1),pI p2] [PRes.mp (some m0_set_) (iK Za.key vT p0.set_)] (fun pv ρ'=>pv=Zf.pv r∧ρ'=[PRes.mp (some m0_set_) (iK Za.key vT p0.set_)]):=by
 unfold cV at h
 refine dp Tryz.func98 rfl Tryz.ntmps98 Tryz.results98 rfl (cU rfl (bg (cs:=[pL eI p0.partners,.v (.map (some m0_set_))]) rfl rfl (fun b1=>al rfl (bg (cs:=(aK p1)) rfl rfl (fun b2=>bc [6] (by kernel_rfl) (co (aM [1] [10] [(11,pL eI p0.partners),(12,pI (p0.partners.length:Int)),(13,pI 0)] (by kernel_rfl) (fa h fun q5 hq5 h=>?_))))))))
 refine am (Y:=Unit×Unit) (fun (_,_)=>[(2,pI p2),(4,pP b2 0)]) (fun (_,_)=>[PRes.b b2 76 (aK p1),PRes.mp (some m0_set_) (iK Za.key vT p0.set_)]) (fun (_,_)=>q5=Sum.inl ()) ?_ ?_
 ·refine aw ?_
  refine aB (Y:=Unit) (S:=Int) _ hq5 (fun _ v3=>[(2,pI p2),(3,pP b1 0),(4,pP b2 0),(11,pL eI p0.partners),(12,pI (p0.partners.length:Int)),(13,pI v3)]) (fun _ v3=>[PRes.b b1 96 [pL eI p0.partners,.v (.map (some m0_set_))],PRes.b b2 76 (aK p1),PRes.mp (some m0_set_) (iK Za.key vT p0.set_)]) () (qG rfl) (ba (ar aJ) mE) ?_
  rintro _ v3 o τ hb4;(try dsimp only at hb4);dsimp only [au]
  refine ae (aj [(14,pB (decide (v3<(p0.partners.length:Int))))] (by kernel_rfl) (ca (jG rfl hb4 (fun hc6 hb4=>?_) fun hc6 hb4=>?_)))
  ·refine ah ?_
   refine dq (aa hb4 fun m7 hm7 hb4=>aq [] [15,16] [(8,pI m7)] (cr 0 eI hm7 bh) (by kernel_rfl) (ca (af (cj 4 [1] [17,18,19] [(20,.agg [pI p1.ID,pI m7])] (by kernel_rfl) (al rfl (aN (cs:=[pI 0,pI 0]) rfl rfl rfl rfl (fun b8=>aS rfl rfl (an (vs:=[pI p1.ID,pI m7]) rfl rfl rfl rfl rfl cw re (aG (ca (af (cj 3 [1,0] [21] [(22,.v (.map (some m0_set_))),(23,.agg [pI p1.ID,pI m7])] (by kernel_rfl) (bx rfl rfl rfl (show POpQ _ _ _ _ (pB ((fh p0.set_ (⟨p1.ID,m7⟩:Za)).getD false)) from DG (xs:=p0.set_) (k:=(⟨p1.ID,m7⟩:Za)) (ek:=Za.key) (vv:=vT) (z0:=false) rfl rfl rfl (fun _=>.v rfl) Za.kenc28 (.p rfl) (.p rfl) vn (vm Gw)) (aG (cR rfl hb4 (fun hc9 hb4=>?_) fun hc9 hb4=>?_)))))))))))))))
   ·refine ae ?_
    refine aM [2,0] (rg 25 7) [(6,Zf.pv (Zf.proved_ (⟨(⟨p1.Code,p2,true⟩:Zl),(⟨p1.ID,m7⟩:Za)⟩:Zq)))] (by kernel_rfl) (dm (dM ?_))
    refine az hb4 (fun ht=>?_);subst ht
    refine cS ?_
    obtain rfl:=osi h
    exact aP (da (aO rfl)) (ba (ar (ar (ar aJ))) bz) ⟨rfl,rfl⟩
   refine ah ?_
   refine dx (ai [32] [(13,pI (IntKind.i64.wrap (v3+1)))] (by kernel_rfl) ?_)
   exact aR hb4 () (qG rfl) (ba (ar aJ) (ba (ar aJ) (ba (ar aJ) bz)))
  refine aH ?_
  refine cd hb4 (fun ht=>ak rfl ?_)
  exact av ((),()) (lL rfl) (ba (ar aJ) (ba (ar aJ) bz)) ht.symm
 rintro ⟨_,_⟩ τ hz;(try dsimp only at hz);subst q5;(try dsimp only at h);dsimp only [au]
 refine ae (aM [0] (rg 33 6) [(6,Zf.pv (Zf.plain_ (⟨(⟨p1.Code,p2,false⟩:Zl)⟩:Zs)))] (by kernel_rfl) (dm ?_))
 obtain rfl:=osi h
 exact aP (da (aO rfl)) (ba (ar aJ) bz) ⟨rfl,rfl⟩
def gi (p0:Int):Option Int:=Option.bind (cond (decide (4294967296≤p0)) (some ((cC .u64 p0 32),32)) (some (p0,0))) (fun (v1,v2)=>Option.bind (cond (decide (65536≤v1)) (some ((cC .u64 v1 16),(IntKind.i64.wrap (v2+16)))) (some (v1,v2))) (fun (v5,v6)=>Option.bind (cond (decide (256≤v5)) (some ((cC .u64 v5 8),(IntKind.i64.wrap (v6+8)))) (some (v5,v6))) (fun (v9,v10)=>(idx (⟨#[0,1,2,2,3,3,3,3,4,4,4,4,4,4,4,4,5,5,5,5,5,5,5,5,5,5,5,5,5,5,5,5,6,6,6,6,6,6,6,6,6,6,6,6,6,6,6,6,6,6,6,6,6,6,6,6,6,6,6,6,6,6,6,6,7,7,7,7,7,7,7,7,7,7,7,7,7,7,7,7,7,7,7,7,7,7,7,7,7,7,7,7,7,7,7,7,7,7,7,7,7,7,7,7,7,7,7,7,7,7,7,7,7,7,7,7,7,7,7,7,7,7,7,7,7,7,7,7,8,8,8,8,8,8,8,8,8,8,8,8,8,8,8,8,8,8,8,8,8,8,8,8,8,8,8,8,8,8,8,8,8,8,8,8,8,8,8,8,8,8,8,8,8,8,8,8,8,8,8,8,8,8,8,8,8,8,8,8,8,8,8,8,8,8,8,8,8,8,8,8,8,8,8,8,8,8,8,8,8,8,8,8,8,8,8,8,8,8,8,8,8,8,8,8,8,8,8,8,8,8,8,8,8,8,8,8,8,8,8,8,8,8,8,8,8,8,8,8,8,8,8,8,8,8,8,8]⟩:ByteArray).data.toList (IntKind.u8.wrap v9)).bind fun c13=>lb ((IntKind.i64.wrap (v10+(IntKind.i64.wrap (c13.toNat:Int))))) (fun w14=>some w14))))
theorem rk {p0:Int} {r:Int}  (h:gi p0=some r):PF 151 [pU p0] (pI r):=by
 unfold gi at h
 refine bd ?_
 refine dp Tryz.func151 rfl Tryz.ntmps151 Tryz.results151 rfl (aj [(2,pI 0)] (by kernel_rfl) (co (ai [3] [(4,pB (decide (4294967296≤p0)))] (by kernel_rfl) (fa h fun q3 hq3 h=>?_))))
 refine am (Y:=Unit×(Int×Int)) (fun (_,(v1,v2))=>[(0,pU v1),(2,pI v2)]) (fun (_,(v1,v2))=>[]) (fun (_,(v1,v2))=>q3=(v1,v2)) ?_ ?_
 ·skip
  refine jG rfl hq3 (fun hc4 hq3=>?_) fun hc4 hq3=>?_
  ·refine ae ?_
   refine ai [5,6] [(0,pU (cC .u64 p0 32))] (by kernel_rfl) (aL (aj [(2,pI 32)] (by kernel_rfl) ?_))
   obtain rfl:=osi hq3
   exact av ((),((cC .u64 p0 32),32)) (lL rfl) bz rfl
  refine ah ?_
  obtain rfl:=osi hq3
  exact av ((),(p0,0)) (lL rfl) bz rfl
 rintro ⟨_,⟨v1,v2⟩⟩ τ hz;(try dsimp only at hz);subst q3;(try dsimp only at h);dsimp only [au]
 refine cT (ai [7] [(8,pB (decide (65536≤v1)))] (by kernel_rfl) (fa h fun q7 hq7 h=>?_))
 refine am (Y:=Unit×(Int×Int)) (fun (_,(v5,v6))=>[(0,pU v5),(2,pI v6)]) (fun (_,(v5,v6))=>[]) (fun (_,(v5,v6))=>q7=(v5,v6)) ?_ ?_
 ·skip
  refine jG rfl hq7 (fun hc8 hq7=>?_) fun hc8 hq7=>?_
  ·refine ae ?_
   refine ai [9,10] [(0,pU (cC .u64 v1 16))] (by kernel_rfl) (aL (ai [11,12] [(2,pI (IntKind.i64.wrap (v2+16)))] (by kernel_rfl) ?_))
   obtain rfl:=osi hq7
   exact av ((),((cC .u64 v1 16),(IntKind.i64.wrap (v2+16)))) (lL rfl) bz rfl
  refine ah ?_
  obtain rfl:=osi hq7
  exact av ((),(v1,v2)) (lL rfl) bz rfl
 rintro ⟨_,⟨v5,v6⟩⟩ τ hz;(try dsimp only at hz);subst q7;(try dsimp only at h);dsimp only [au]
 refine cT (ai [13] [(14,pB (decide (256≤v5)))] (by kernel_rfl) (fa h fun q11 hq11 h=>?_))
 refine am (Y:=Unit×(Int×Int)) (fun (_,(v9,v10))=>[(0,pU v9),(2,pI v10)]) (fun (_,(v9,v10))=>[]) (fun (_,(v9,v10))=>q11=(v9,v10)) ?_ ?_
 ·skip
  refine jG rfl hq11 (fun hc12 hq11=>?_) fun hc12 hq11=>?_
  ·refine ae ?_
   refine ai [15,16] [(0,pU (cC .u64 v5 8))] (by kernel_rfl) (aL (ai [17,18] [(2,pI (IntKind.i64.wrap (v6+8)))] (by kernel_rfl) ?_))
   obtain rfl:=osi hq11
   exact av ((),((cC .u64 v5 8),(IntKind.i64.wrap (v6+8)))) (lL rfl) bz rfl
  refine ah ?_
  obtain rfl:=osi hq11
  exact av ((),(v5,v6)) (lL rfl) bz rfl
 rintro ⟨_,⟨v9,v10⟩⟩ τ hz;(try dsimp only at hz);subst q11;(try dsimp only at h);dsimp only [au]
 refine ae (aa h fun c13 hc13 h=>?_)
 refine eV h ?_;clear h;intro w14 hw14 h
 refine af (aY 6 [] (rg 19 5) [(24,pI (IntKind.i64.wrap (v10+(IntKind.i64.wrap (c13.toNat:Int)))))] (fosx 3 (s:=(⟨#[0,1,2,2,3,3,3,3,4,4,4,4,4,4,4,4,5,5,5,5,5,5,5,5,5,5,5,5,5,5,5,5,6,6,6,6,6,6,6,6,6,6,6,6,6,6,6,6,6,6,6,6,6,6,6,6,6,6,6,6,6,6,6,6,7,7,7,7,7,7,7,7,7,7,7,7,7,7,7,7,7,7,7,7,7,7,7,7,7,7,7,7,7,7,7,7,7,7,7,7,7,7,7,7,7,7,7,7,7,7,7,7,7,7,7,7,7,7,7,7,7,7,7,7,7,7,7,7,8,8,8,8,8,8,8,8,8,8,8,8,8,8,8,8,8,8,8,8,8,8,8,8,8,8,8,8,8,8,8,8,8,8,8,8,8,8,8,8,8,8,8,8,8,8,8,8,8,8,8,8,8,8,8,8,8,8,8,8,8,8,8,8,8,8,8,8,8,8,8,8,8,8,8,8,8,8,8,8,8,8,8,8,8,8,8,8,8,8,8,8,8,8,8,8,8,8,8,8,8,8,8,8,8,8,8,8,8,8,8,8,8,8,8,8,8,8,8,8,8,8,8,8,8,8,8,8]⟩:ByteArray)) hc13 bh) (by kernel_rfl) (bx rfl rfl rfl (bD rfl (.p (congrArg (fun z=>PV.v (Value.int .i64 z)) hw14))) (aG (dm ?_))))
 exact zz r h rfl
def dE (p0:Int):Option Int:=(gi p0).bind fun x1=>some (IntKind.i64.wrap (64 - x1))
theorem mu {p0:Int} {r:Int}  (h:dE p0=some r):PF 213 [pU p0] (pI r):=by
 unfold dE at h
 refine bd ?_
 refine dp Tryz.func213 rfl Tryz.ntmps213 Tryz.results213 rfl (aU [2] (by kernel_rfl) (cN h fun x1 hx1 h=>aq [] [3,4,5] [(2,pI (IntKind.i64.wrap (64 - x1)))] (bi 1 (rk hx1) bh) (by kernel_rfl) (dm ?_)))
 exact zz r h rfl
def iv (p0:Int) (p1:Int) (p2:Int):Option (Int×Int):=cond (p2 == 0) (none) (cond (decide (p2≤p0)) (none) (cond (p0 == 0) ((nz p2).bind fun u4=>(nz p2).bind fun u5=>some ((IntKind.u64.wrap (Int.tdiv p1 p2)),(Int.tmod p1 p2))) ((dE p2).bind fun x6=>(lw (IntKind.u64.wrap x6)).bind fun u7=>lb ((cC .u64 (fB .u64 p2 (IntKind.u64.wrap x6)) 32)) (fun w8=>lb ((dw .u64 (fB .u64 p2 (IntKind.u64.wrap x6)) 4294967295)) (fun w9=>(lw (IntKind.u64.wrap x6)).bind fun u10=>(lw (IntKind.u64.wrap (64 - (IntKind.u64.wrap x6)))).bind fun u11=>lb ((ow .u64 (fB .u64 p0 (IntKind.u64.wrap x6)) (cC .u64 p1 (IntKind.u64.wrap (64 - (IntKind.u64.wrap x6)))))) (fun w12=>(lw (IntKind.u64.wrap x6)).bind fun u13=>lb ((cC .u64 (fB .u64 p1 (IntKind.u64.wrap x6)) 32)) (fun w14=>lb ((dw .u64 (fB .u64 p1 (IntKind.u64.wrap x6)) 4294967295)) (fun w15=>(nz w8).bind fun u16=>lb ((IntKind.u64.wrap (w12 - (IntKind.u64.wrap ((IntKind.u64.wrap (Int.tdiv w12 w8))*w8))))) (fun w17=>(aV (S:=Int×Int) (T:=(Int)) (fun (v18,v19)=>cond ((decide (4294967296≤v18))||(decide ((IntKind.u64.wrap ((IntKind.u64.wrap (4294967296*v19))+w14))<(IntKind.u64.wrap (v18*w9))))) (cond (decide (4294967296≤(IntKind.u64.wrap (v19+w8)))) (some (.inr (IntKind.u64.wrap (v18 - 1)))) (some (.inl ((IntKind.u64.wrap (v18 - 1)),(IntKind.u64.wrap (v19+w8)))))) (some (.inr v18))) FUEL ((IntKind.u64.wrap (Int.tdiv w12 w8)),w17)).bind fun v20=>lb ((IntKind.u64.wrap ((IntKind.u64.wrap ((IntKind.u64.wrap (w12*4294967296))+w14)) - (IntKind.u64.wrap (v20*(fB .u64 p2 (IntKind.u64.wrap x6))))))) (fun w25=>(nz w8).bind fun u26=>lb ((IntKind.u64.wrap (w25 - (IntKind.u64.wrap ((IntKind.u64.wrap (Int.tdiv w25 w8))*w8))))) (fun w27=>(aV (S:=Int×Int) (T:=(Int)) (fun (v28,v29)=>cond ((decide (4294967296≤v29))||(decide ((IntKind.u64.wrap ((IntKind.u64.wrap (4294967296*v28))+w15))<(IntKind.u64.wrap (v29*w9))))) (cond (decide (4294967296≤(IntKind.u64.wrap (v28+w8)))) (some (.inr (IntKind.u64.wrap (v29 - 1)))) (some (.inl ((IntKind.u64.wrap (v28+w8)),(IntKind.u64.wrap (v29 - 1)))))) (some (.inr v29))) FUEL (w27,(IntKind.u64.wrap (Int.tdiv w25 w8)))).bind fun v30=>(lw (IntKind.u64.wrap x6)).bind fun u35=>lb ((IntKind.u64.wrap ((IntKind.u64.wrap (v20*4294967296))+v30))) (fun w36=>lb ((cC .u64 (IntKind.u64.wrap ((IntKind.u64.wrap ((IntKind.u64.wrap (w25*4294967296))+w15)) - (IntKind.u64.wrap (v30*(fB .u64 p2 (IntKind.u64.wrap x6)))))) (IntKind.u64.wrap x6))) (fun w37=>some (w36,w37))))))))))))))
theorem rl {p0:Int} {p1:Int} {p2:Int} {r:(Int×Int)}  (h:iv p0 p1 p2=some r):PF 200 [pU p0,pU p1,pU p2] (.tup [pU r.1,pU r.2]):=by
 unfold iv at h
 refine bd ?_
 refine dp Tryz.func200 rfl Tryz.ntmps200 Tryz.results200 rfl (aU [6,7] (by kernel_rfl) (co (bF [19] [(20,pB (p2 == 0))] (by kernel_rfl) rfl h (fun hc1 h=>?_) fun hc1 h=>?_)))
 ·refine af ?_
  exact absurd h (by simp)
 refine ah ?_
 refine co (bF [22,23] [(24,pB (decide (p2≤p0)))] (by kernel_rfl) rfl h (fun hc2 h=>?_) fun hc2 h=>?_)
 ·refine af ?_
  exact absurd h (by simp)
 refine ah ?_
 refine co (bF [26] [(27,pB (p0 == 0))] (by kernel_rfl) rfl h (fun hc3 h=>?_) fun hc3 h=>?_)
 ·refine ae ?_
  refine bj (ρd:=[]) [(0,0),(1,0),(2,0),(3,0),(4,0),(5,0),(6,0),(7,0)] _ (List.Perm.refl _) (by kernel_rfl) rfl (aa h fun u4 hu4 h=>aa h fun u5 hu5 h=>bv 8 [] (rg 28 6) [(6,pU (IntKind.u64.wrap (Int.tdiv p1 p2))),(7,pU (Int.tmod p1 p2))] (DA 2 hu4 (DA 5 hu5 bh)) (by kernel_rfl) (bB (dm (ap ?_))))
  obtain rfl:=osi h
  exact aP (cD (aO rfl) (aO rfl)) bz ⟨rfl,rfl⟩
 refine ah ?_
 refine cN h fun x6 hx6 h=>aq [] [34,35,36] [(8,pU (IntKind.u64.wrap x6))] (bi 1 (mu hx6) bh) (by kernel_rfl) (cN h fun u7 hu7 h=>aq [] [37,38,39] [(2,pU (fB .u64 p2 (IntKind.u64.wrap x6)))] (tP 2 hu7 bh) (by kernel_rfl) (ca ?_))
 refine eV h ?_;clear h;intro w8 hw8 h
 refine af (cB 2 [40] [(41,pU (cC .u64 (fB .u64 p2 (IntKind.u64.wrap x6)) 32))] (by kernel_rfl) (bx rfl rfl rfl (bD rfl (.p (congrArg (fun z=>PV.v (Value.int .u64 z)) hw8))) (aG (ca ?_))))
 refine eV h ?_;clear h;intro w9 hw9 h
 refine af (cB 2 [42] [(43,pU (dw .u64 (fB .u64 p2 (IntKind.u64.wrap x6)) 4294967295))] (by kernel_rfl) (bx rfl rfl rfl (bD rfl (.p (congrArg (fun z=>PV.v (Value.int .u64 z)) hw9))) (aG (cN h fun u10 hu10 h=>aa h fun u11 hu11 h=>?_))))
 refine eV h ?_;clear h;intro w12 hw12 h
 refine af (aY 8 [] (rg 44 7) [(51,pU (ow .u64 (fB .u64 p0 (IntKind.u64.wrap x6)) (cC .u64 p1 (IntKind.u64.wrap (64 - (IntKind.u64.wrap x6))))))] (tP 2 hu10 (tP 6 hu11 bh)) (by kernel_rfl) (bx rfl rfl rfl (bD rfl (.p (congrArg (fun z=>PV.v (Value.int .u64 z)) hw12))) (aG (cN h fun u13 hu13 h=>aq [] [52,53,54] [(12,pU (fB .u64 p1 (IntKind.u64.wrap x6)))] (tP 2 hu13 bh) (by kernel_rfl) (ca ?_)))))
 refine eV h ?_;clear h;intro w14 hw14 h
 refine af (cB 2 [55] [(56,pU (cC .u64 (fB .u64 p1 (IntKind.u64.wrap x6)) 32))] (by kernel_rfl) (bx rfl rfl rfl (bD rfl (.p (congrArg (fun z=>PV.v (Value.int .u64 z)) hw14))) (aG (ca ?_))))
 refine eV h ?_;clear h;intro w15 hw15 h
 refine af (cB 2 [57] [(58,pU (dw .u64 (fB .u64 p1 (IntKind.u64.wrap x6)) 4294967295))] (by kernel_rfl) (bx rfl rfl rfl (bD rfl (.p (congrArg (fun z=>PV.v (Value.int .u64 z)) hw15))) (aG (cN h fun u16 hu16 h=>aq [] [59,60,61] [(15,pU (IntKind.u64.wrap (Int.tdiv w12 w8)))] (DA 2 hu16 bh) (by kernel_rfl) (ca ?_)))))
 refine eV h ?_;clear h;intro w17 hw17 h
 refine af (cB 5 [62,63,64,65] [(66,pU (IntKind.u64.wrap (w12 - (IntKind.u64.wrap ((IntKind.u64.wrap (Int.tdiv w12 w8))*w8)))))] (by kernel_rfl) (bx rfl rfl rfl (bD rfl (.p (congrArg (fun z=>PV.v (Value.int .u64 z)) hw17))) (aG (cN h fun q22 hq22 h=>?_))))
 refine am (Y:=Unit×Int) (fun (_,v20)=>[(2,pU (fB .u64 p2 (IntKind.u64.wrap x6))),(8,pU (IntKind.u64.wrap x6)),(9,pU w8),(10,pU w9),(11,pU w12),(13,pU w14),(14,pU w15),(15,pU v20)]) (fun (_,v20)=>[]) (fun (_,v20)=>q22=v20) ?_ ?_
 ·refine aw ?_
  refine aB (Y:=Unit) (S:=Int×Int) _ hq22 (fun _ (v18,v19)=>[(2,pU (fB .u64 p2 (IntKind.u64.wrap x6))),(8,pU (IntKind.u64.wrap x6)),(9,pU w8),(10,pU w9),(11,pU w12),(13,pU w14),(14,pU w15),(15,pU v18),(16,pU v19)]) (fun _ (v18,v19)=>[]) () (qS rfl) bz ?_
  rintro _ ⟨v18,v19⟩ o τ hb21;(try dsimp only at hb21);dsimp only [au]
  refine cT (bF (rg 67 11) [(78,pB ((decide (4294967296≤v18))||(decide ((IntKind.u64.wrap ((IntKind.u64.wrap (4294967296*v19))+w14))<(IntKind.u64.wrap (v18*w9))))))] (by kernel_rfl) rfl hb21 (fun hc23 hb21=>?_) fun hc23 hb21=>?_)
  ·refine ah ?_
   refine aL (nX (ai [79,80] [(15,pU (IntKind.u64.wrap (v18 - 1)))] (by kernel_rfl) (ca (ai [81,82,83] [(16,pU (IntKind.u64.wrap (v19+w8)))] (by kernel_rfl) (ca (bF [84] [(85,pB (decide (4294967296≤(IntKind.u64.wrap (v19+w8)))))] (by kernel_rfl) rfl hb21 (fun hc24 hb21=>?_) fun hc24 hb21=>?_))))))
   ·refine aH ?_
    refine pF rfl (mn hb21 (fun ht=>ak rfl ?_))
    exact av ((),(IntKind.u64.wrap (v18 - 1))) (qR rfl) bz ht.symm
   refine ah ?_
   refine aA ?_
   exact aR hb21 () (qS rfl) bz
  refine aH ?_
  refine cd hb21 (fun ht=>ak rfl ?_)
  exact av ((),v18) (qR rfl) bz ht.symm
 rintro ⟨_,v20⟩ τ hz;(try dsimp only at hz);subst q22;(try dsimp only at h);dsimp only [au]
 refine ae ?_
 refine eV h ?_;clear h;intro w25 hw25 h
 refine af (cB 8 (rg 86 7) [(93,pU (IntKind.u64.wrap ((IntKind.u64.wrap ((IntKind.u64.wrap (w12*4294967296))+w14)) - (IntKind.u64.wrap (v20*(fB .u64 p2 (IntKind.u64.wrap x6)))))))] (by kernel_rfl) (bx rfl rfl rfl (bD rfl (.p (congrArg (fun z=>PV.v (Value.int .u64 z)) hw25))) (aG (cN h fun u26 hu26 h=>aq [] [94,95,96] [(18,pU (IntKind.u64.wrap (Int.tdiv w25 w8)))] (DA 2 hu26 bh) (by kernel_rfl) (ca ?_)))))
 refine eV h ?_;clear h;intro w27 hw27 h
 refine af (cB 5 [97,98,99,100] [(101,pU (IntKind.u64.wrap (w25 - (IntKind.u64.wrap ((IntKind.u64.wrap (Int.tdiv w25 w8))*w8)))))] (by kernel_rfl) (bx rfl rfl rfl (bD rfl (.p (congrArg (fun z=>PV.v (Value.int .u64 z)) hw27))) (aG (cN h fun q32 hq32 h=>?_))))
 refine am (Y:=Unit×Int) (fun (_,v30)=>[(2,pU (fB .u64 p2 (IntKind.u64.wrap x6))),(8,pU (IntKind.u64.wrap x6)),(14,pU w15),(15,pU v20),(17,pU w25),(18,pU v30)]) (fun (_,v30)=>[]) (fun (_,v30)=>q32=v30) ?_ ?_
 ·refine aw ?_
  refine aB (Y:=Unit) (S:=Int×Int) _ hq32 (fun _ (v28,v29)=>[(2,pU (fB .u64 p2 (IntKind.u64.wrap x6))),(8,pU (IntKind.u64.wrap x6)),(9,pU w8),(10,pU w9),(14,pU w15),(15,pU v20),(16,pU v28),(17,pU w25),(18,pU v29)]) (fun _ (v28,v29)=>[]) () (qS rfl) bz ?_
  rintro _ ⟨v28,v29⟩ o τ hb31;(try dsimp only at hb31);dsimp only [au]
  refine cT (bF (rg 102 11) [(113,pB ((decide (4294967296≤v29))||(decide ((IntKind.u64.wrap ((IntKind.u64.wrap (4294967296*v28))+w15))<(IntKind.u64.wrap (v29*w9))))))] (by kernel_rfl) rfl hb31 (fun hc33 hb31=>?_) fun hc33 hb31=>?_)
  ·refine ah ?_
   refine aL (nX (ai [114,115] [(18,pU (IntKind.u64.wrap (v29 - 1)))] (by kernel_rfl) (ca (ai [116,117,118] [(16,pU (IntKind.u64.wrap (v28+w8)))] (by kernel_rfl) (ca (bF [119] [(120,pB (decide (4294967296≤(IntKind.u64.wrap (v28+w8)))))] (by kernel_rfl) rfl hb31 (fun hc34 hb31=>?_) fun hc34 hb31=>?_))))))
   ·refine aH ?_
    refine pF rfl (mn hb31 (fun ht=>ak rfl ?_))
    exact av ((),(IntKind.u64.wrap (v29 - 1))) (qG rfl) bz ht.symm
   refine ah ?_
   refine aA ?_
   exact aR hb31 () (qS rfl) bz
  refine aH ?_
  refine cd hb31 (fun ht=>ak rfl ?_)
  exact av ((),v29) (qG rfl) bz ht.symm
 rintro ⟨_,v30⟩ τ hz;(try dsimp only at hz);subst q32;(try dsimp only at h);dsimp only [au]
 refine ae (aa h fun u35 hu35 h=>?_)
 refine eV h ?_;clear h;intro w36 hw36 h
 refine af (aY 14 [] [121,122,123,125,126,127,128,129,130,131,132,133] [(124,pU (IntKind.u64.wrap ((IntKind.u64.wrap (v20*4294967296))+v30))),(134,pU (cC .u64 (IntKind.u64.wrap ((IntKind.u64.wrap ((IntKind.u64.wrap (w25*4294967296))+w15)) - (IntKind.u64.wrap (v30*(fB .u64 p2 (IntKind.u64.wrap x6)))))) (IntKind.u64.wrap x6)))] (tP 13 hu35 bh) (by kernel_rfl) (bx rfl rfl rfl (bD rfl (.p (congrArg (fun z=>PV.v (Value.int .u64 z)) hw36))) ?_))
 refine eV h ?_;clear h;intro w37 hw37 h
 refine bx rfl rfl rfl (bD rfl (.p (congrArg (fun z=>PV.v (Value.int .u64 z)) hw37))) (aG (dm ?_))
 obtain rfl:=osi h
 exact aP (cD (aO rfl) (aO rfl)) bz ⟨rfl,rfl⟩
def kp (p0:Int) (p1:Int) (p2:Int) (p3:Int):Option Bool:=cond (p3 == 1) (some (decide (0<p1))) (cond (p3 == 2) (some (decide ((IntKind.u64.wrap (p2 - p1))≤p1))) (cond (p3 == 3) (some ((decide ((IntKind.u64.wrap (p2 - p1))<p1))||((p1 == (IntKind.u64.wrap (p2 - p1)))&&((Int.tmod p0 2) == 1)))) (some false)))
theorem tR {p0:Int} {p1:Int} {p2:Int} {p3:Int} {r:Bool}  (h:kp p0 p1 p2 p3=some r):PF 201 [pU p0,pU p1,pU p2,pI p3] (pB r):=by
 unfold kp at h
 refine bd ?_
 refine dp Tryz.func201 rfl Tryz.ntmps201 Tryz.results201 rfl (aU [8] (by kernel_rfl) (ca (ai [10,11,12] [(9,pU (IntKind.u64.wrap (p2 - p1)))] (by kernel_rfl) (co (aj [(13,pI p3)] (by kernel_rfl) (aL (nX (bF [15] [(14,pB (p3 == 1))] (by kernel_rfl) rfl h (fun hc1 h=>?_) fun hc1 h=>?_))))))))
 ·refine ae ?_
  refine ai [16,17] [(8,pB (decide (0<p1)))] (by kernel_rfl) (dm (dM ?_))
  exact zz r h rfl
 refine ae ?_
 refine bF [19] [(18,pB (p3 == 2))] (by kernel_rfl) rfl h (fun hc2 h=>?_) fun hc2 h=>?_
 ·refine ae ?_
  refine ai [20,21,22] [(8,pB (decide ((IntKind.u64.wrap (p2 - p1))≤p1)))] (by kernel_rfl) (dm (dM ?_))
  exact zz r h rfl
 refine ae ?_
 refine bF [24] [(23,pB (p3 == 3))] (by kernel_rfl) rfl h (fun hc3 h=>?_) fun hc3 h=>?_
 ·refine ae ?_
  refine ai (rg 25 13) [(8,pB ((decide ((IntKind.u64.wrap (p2 - p1))<p1))||((p1 == (IntKind.u64.wrap (p2 - p1)))&&((Int.tmod p0 2) == 1))))] (by kernel_rfl) (dm (dM ?_))
  exact zz r h rfl
 refine ah ?_
 refine aA (ca (cZ [(8,pB false)] (by kernel_rfl) ?_))
 exact zz r h rfl
def n8 (p0:Zo) (p1:Int) (p2:Int):Option (Int×Int):=cond (((p1 == 0)||(decide (p2<0)))||(decide (3<p2))) (some ((0:Int),(2:Int))) (cond (decide (p1≤p0.Hi)) (some ((0:Int),(3:Int))) ((iv p0.Hi p0.Lo p1).bind fun x4=>(kp x4.1 x4.2 p1 p2).bind fun x5=>cond (!x5) (some (x4.1,(0:Int))) (cond (x4.1 == 18446744073709551615) (some ((0:Int),(3:Int))) (some ((IntKind.u64.wrap (x4.1+1)),(0:Int))))))
theorem yJ {p0:Zo} {p1:Int} {p2:Int} {r:(Int×Int)}  (h:n8 p0 p1 p2=some r):PF 171 [.agg [pU p0.Hi,pU p0.Lo],pU p1,pI p2] (.tup [pU r.1,pI r.2]):=by
 unfold n8 at h
 refine bd ?_
 refine dp Tryz.func171 rfl Tryz.ntmps171 Tryz.results171 rfl (cU rfl (bg (cs:=[pU p0.Hi,pU p0.Lo]) rfl rfl (fun b1=>bc [6,7] (by kernel_rfl) (co (bF (rg 10 9) [(19,pB (((p1 == 0)||(decide (p2<0)))||(decide (3<p2))))] (by kernel_rfl) rfl h (fun hc2 h=>?_) fun hc2 h=>?_)))))
 ·refine ae ?_
  refine cZ [(6,pU 0),(7,pI 2)] (by kernel_rfl) (ap ?_)
  obtain rfl:=osi h
  exact aP (cD (aO rfl) (aO rfl)) bz ⟨rfl,rfl⟩
 refine ah ?_
 refine co (aM [0] [20,21,22] [(23,pB (decide (p1≤p0.Hi)))] (by kernel_rfl) (cR rfl h (fun hc3 h=>?_) fun hc3 h=>?_))
 ·refine ae ?_
  refine cZ [(6,pU 0),(7,pI 3)] (by kernel_rfl) (ap ?_)
  obtain rfl:=osi h
  exact aP (cD (aO rfl) (aO rfl)) bz ⟨rfl,rfl⟩
 refine ah ?_
 refine cN h fun x4 hx4 h=>aq [0,0] ((rg 25 6)++[24,31,32]) [(8,pU x4.1),(9,pU x4.2)] (bi 5 (rl hx4) bh) (by kernel_rfl) (co (aa h fun x5 hx5 h=>aq [] (rg 33 5) [(38,pB (!x5))] (bi 4 (tR hx5) bh) (by kernel_rfl) (cR rfl h (fun hc6 h=>?_) fun hc6 h=>?_)))
 ·refine ae ?_
  refine ai [39] [(6,pU x4.1),(7,pI 0)] (by kernel_rfl) (dm (ap ?_))
  obtain rfl:=osi h
  exact aP (cD (aO rfl) (aO rfl)) bz ⟨rfl,rfl⟩
 refine ah ?_
 refine co (bF [40] [(41,pB (x4.1 == 18446744073709551615))] (by kernel_rfl) rfl h (fun hc7 h=>?_) fun hc7 h=>?_)
 ·refine ae ?_
  refine cZ [(6,pU 0),(7,pI 3)] (by kernel_rfl) (ap ?_)
  obtain rfl:=osi h
  exact aP (cD (aO rfl) (aO rfl)) bz ⟨rfl,rfl⟩
 refine ah ?_
 refine ca (ai [42,43] [(6,pU (IntKind.u64.wrap (x4.1+1))),(7,pI 0)] (by kernel_rfl) (dm ?_))
 obtain rfl:=osi h
 exact aP (cD (aO rfl) (aO rfl)) bz ⟨rfl,rfl⟩
def iw (p0:Int) (p1:Int):Option (Int×Int):=lb ((IntKind.u64.wrap ((dw .u64 p0 4294967295)*(dw .u64 p1 4294967295)))) (fun w1=>lb ((IntKind.u64.wrap ((IntKind.u64.wrap ((cC .u64 p0 32)*(dw .u64 p1 4294967295)))+(cC .u64 w1 32)))) (fun w2=>lb ((IntKind.u64.wrap ((dw .u64 w2 4294967295)+(IntKind.u64.wrap ((dw .u64 p0 4294967295)*(cC .u64 p1 32)))))) (fun w3=>lb ((IntKind.u64.wrap ((IntKind.u64.wrap ((IntKind.u64.wrap ((cC .u64 p0 32)*(cC .u64 p1 32)))+(cC .u64 w2 32)))+(cC .u64 w3 32)))) (fun w4=>some (w4,(IntKind.u64.wrap (p0*p1)))))))
theorem rm {p0:Int} {p1:Int} {r:(Int×Int)}  (h:iw p0 p1=some r):PF 202 [pU p0,pU p1] (.tup [pU r.1,pU r.2]):=by
 unfold iw at h
 refine bd ?_
 refine dp Tryz.func202 rfl Tryz.ntmps202 Tryz.results202 rfl (aU [4,5] (by kernel_rfl) (ca (ai [14,15] [(6,pU (dw .u64 p0 4294967295))] (by kernel_rfl) (ca (ai [16,17] [(7,pU (cC .u64 p0 32))] (by kernel_rfl) (ca (ai [18,19] [(8,pU (dw .u64 p1 4294967295))] (by kernel_rfl) (ca (ai [20,21] [(9,pU (cC .u64 p1 32))] (by kernel_rfl) (ca ?_))))))))))
 refine eV h ?_;clear h;intro w1 hw1 h
 refine af (cB 3 [22,23] [(24,pU (IntKind.u64.wrap ((dw .u64 p0 4294967295)*(dw .u64 p1 4294967295))))] (by kernel_rfl) (bx rfl rfl rfl (bD rfl (.p (congrArg (fun z=>PV.v (Value.int .u64 z)) hw1))) (aG (ca ?_))))
 refine eV h ?_;clear h;intro w2 hw2 h
 refine af (cB 6 (rg 25 5) [(30,pU (IntKind.u64.wrap ((IntKind.u64.wrap ((cC .u64 p0 32)*(dw .u64 p1 4294967295)))+(cC .u64 w1 32))))] (by kernel_rfl) (bx rfl rfl rfl (bD rfl (.p (congrArg (fun z=>PV.v (Value.int .u64 z)) hw2))) (aG (ca (ai [31,32] [(12,pU (dw .u64 w2 4294967295))] (by kernel_rfl) (ca (ai [33,34] [(13,pU (cC .u64 w2 32))] (by kernel_rfl) (ca ?_))))))))
 refine eV h ?_;clear h;intro w3 hw3 h
 refine af (cB 5 [35,36,37,38] [(39,pU (IntKind.u64.wrap ((dw .u64 w2 4294967295)+(IntKind.u64.wrap ((dw .u64 p0 4294967295)*(cC .u64 p1 32))))))] (by kernel_rfl) (bx rfl rfl rfl (bD rfl (.p (congrArg (fun z=>PV.v (Value.int .u64 z)) hw3))) (aG (ca ?_))))
 refine eV h ?_;clear h;intro w4 hw4 h
 refine af (cB 8 (rg 40 7) [(47,pU (IntKind.u64.wrap ((IntKind.u64.wrap ((IntKind.u64.wrap ((cC .u64 p0 32)*(cC .u64 p1 32)))+(cC .u64 w2 32)))+(cC .u64 w3 32))))] (by kernel_rfl) (bx rfl rfl rfl (bD rfl (.p (congrArg (fun z=>PV.v (Value.int .u64 z)) hw4))) (aG (ca (ai [48,49,50] [(5,pU (IntKind.u64.wrap (p0*p1)))] (by kernel_rfl) (dm ?_))))))
 obtain rfl:=osi h
 exact aP (cD (aO rfl) (aO rfl)) bz ⟨rfl,rfl⟩
def jU (p0:Int) (p1:Int):Option Zo:=(iw p0 p1).bind fun x2=>some (⟨x2.1,x2.2⟩:Zo)
theorem oQ {p0:Int} {p1:Int} {r:Zo}  (h:jU p0 p1=some r):PF 172 [pU p0,pU p1] (.agg [pU r.Hi,pU r.Lo]):=by
 unfold jU at h
 refine bd ?_
 refine dp Tryz.func172 rfl Tryz.ntmps172 Tryz.results172 rfl (cU rfl (aN (cs:=[pU 0,pU 0]) rfl rfl rfl rfl (fun b1=>aG (cN h fun x2 hx2 h=>aq [] [8,9,10,7,11,12] [(5,pU x2.1),(6,pU x2.2)] (bi 2 (rm hx2) bh) (by kernel_rfl) (ca (af (cB 3 [13,14] [(15,.agg [pU x2.1,pU x2.2])] (by kernel_rfl) (aS rfl rfl (an (vs:=[pU x2.1,pU x2.2]) rfl rfl rfl rfl rfl cw re (aG (dm ?_)))))))))))
 obtain rfl:=osi h
 exact aP (da (dV rfl fy rfl)) bz ⟨rfl,rfl⟩
def mv (p0:Int) (p1:Int) (p2:Int) (p3:Int):Option (Int×Int):=(jU p0 p1).bind fun x1=>(n8 x1 p2 p3).bind fun x2=>some (x2.1,x2.2)
theorem tS {p0:Int} {p1:Int} {p2:Int} {p3:Int} {r:(Int×Int)}  (h:mv p0 p1 p2 p3=some r):PF 141 [pU p0,pU p1,pU p2,pI p3] (.tup [pU r.1,pI r.2]):=by
 unfold mv at h
 refine bd ?_
 refine dp Tryz.func141 rfl Tryz.ntmps141 Tryz.results141 rfl (aU [8,9] (by kernel_rfl) (cN h fun x1 hx1 h=>aa h fun x2 hx2 h=>aq [] (rg 10 8) [(8,pU x2.1),(9,pI x2.2)] (bi 2 (oQ hx1) (bi 5 (yJ hx2) bh)) (by kernel_rfl) (dm ?_)))
 obtain rfl:=osi h
 exact aP (cD (aO rfl) (aO rfl)) bz ⟨rfl,rfl⟩
def fQ (p0:Int) (p1:Int) (p2:Int):Option Int:=(mv (IntKind.u64.wrap p0) (IntKind.u64.wrap p1) (IntKind.u64.wrap p2) 1).bind fun x1=>cond ((x1.2 != 0)||(decide (1000000000000<x1.1))) (some (1000000000000:Int)) (some (IntKind.i64.wrap x1.1))
theorem pA {p0:Int} {p1:Int} {p2:Int} {r:Int}  (h:fQ p0 p1 p2=some r):PF 99 [pI p0,pI p1,pI p2] (pI r):=by
 unfold fQ at h
 refine bd ?_
 refine dp Tryz.func99 rfl Tryz.ntmps99 Tryz.results99 rfl (aU [6] (by kernel_rfl) (cN h fun x1 hx1 h=>aq [] ((rg 10 7)++[9,17,18]) [(7,pU x1.1),(8,pI x1.2)] (bi 6 (tS hx1) bh) (by kernel_rfl) (co (bF (rg 19 5) [(24,pB ((x1.2 != 0)||(decide (1000000000000<x1.1))))] (by kernel_rfl) rfl h (fun hc2 h=>?_) fun hc2 h=>?_))))
 ·refine ae ?_
  refine cZ [(6,pI 1000000000000)] (by kernel_rfl) (ap ?_)
  exact zz r h rfl
 refine ah ?_
 refine ca (ai [25,26] [(6,pI (IntKind.i64.wrap x1.1))] (by kernel_rfl) (dm ?_))
 exact zz r h rfl
def mX (p0:(List Int)):Option Int:=(aV (S:=Int) (T:=(Unit)⊕(_)) (fun v1=>cond (decide (v1<(p0.length:Int))) ((idx p0 v1).bind fun m5=>cond (m5 != 0) (some (.inr (.inr m5))) (some (.inl (IntKind.i64.wrap (v1+1))))) (some (.inr (.inl ())))) FUEL 0).bind fun q=>match q with | .inl _=>some (0:Int) | .inr e=>some e
theorem wG {p0:(List Int)} {r:Int}  (h:mX p0=some r):PF 102 [pL eI p0] (pI r):=by
 unfold mX at h
 refine bd ?_
 refine dp Tryz.func102 rfl Tryz.ntmps102 Tryz.results102 rfl (aU [2] (by kernel_rfl) (ca (aj [(3,pI 0)] (by kernel_rfl) (co (aj [(6,pL eI p0),(7,pI (p0.length:Int)),(8,pI 0)] (by kernel_rfl) (fa h fun q3 hq3 h=>?_))))))
 refine am (Y:=Unit×Unit) (fun (_,_)=>[(3,pI 0)]) (fun (_,_)=>[]) (fun (_,_)=>q3=Sum.inl ()) ?_ ?_
 ·refine aw ?_
  refine aB (Y:=Unit) (S:=Int) _ hq3 (fun _ v1=>[(3,pI 0),(6,pL eI p0),(7,pI (p0.length:Int)),(8,pI v1)]) (fun _ v1=>[]) () (iq rfl) bz ?_
  rintro _ v1 o τ hb2;(try dsimp only at hb2);dsimp only [au]
  refine ae (aj [(9,pB (decide (v1<(p0.length:Int))))] (by kernel_rfl) (ca (jG rfl hb2 (fun hc4 hb2=>?_) fun hc4 hb2=>?_)))
  ·refine ah ?_
   refine dq (aa hb2 fun m5 hm5 hb2=>aq [] [10,11] [(5,pI m5)] (cr 0 eI hm5 bh) (by kernel_rfl) (ca (bF [12,13] [(14,pB (m5 != 0))] (by kernel_rfl) rfl hb2 (fun hc6 hb2=>?_) fun hc6 hb2=>?_)))
   ·refine ae ?_
    refine ai [15] [(2,pI m5)] (by kernel_rfl) (dm (dM ?_))
    refine az hb2 (fun ht=>?_);subst ht
    refine cS ?_
    exact zz r h rfl
   refine ah ?_
   refine dx (ai [16] [(8,pI (IntKind.i64.wrap (v1+1)))] (by kernel_rfl) ?_)
   exact aR hb2 () (iq rfl) bz
  refine aH ?_
  refine cd hb2 (fun ht=>ak rfl ?_)
  exact av ((),()) (qP rfl) bz ht.symm
 rintro ⟨_,_⟩ τ hz;(try dsimp only at hz);subst q3;(try dsimp only at h);dsimp only [au]
 refine ae (ai [17] [(2,pI 0)] (by kernel_rfl) (dm ?_))
 exact zz r h rfl
def eW (p0:Za) (p1:Za):Option Int:=(fj p0.Product p1.Product).bind fun x3=>(fj p0.Agreement p1.Agreement).bind fun x4=>(mX [x3,x4]).bind fun x6=>some x6
theorem mw {p0:Za} {p1:Za} {r:Int}  (h:eW p0 p1=some r):PF 50 [.agg [pI p0.Product,pI p0.Agreement],.agg [pI p1.Product,pI p1.Agreement]] (pI r):=by
 unfold eW at h
 refine bd ?_
 refine dp Tryz.func50 rfl Tryz.ntmps50 Tryz.results50 rfl (cU rfl (bg (cs:=[pI p0.Product,pI p0.Agreement]) rfl rfl (fun b1=>al rfl (bg (cs:=[pI p1.Product,pI p1.Agreement]) rfl rfl (fun b2=>bc [4] (by kernel_rfl) (ca (bj (ρd:=[]) [(0,0),(1,0),(2,0),(3,0),(5,0),(6,0),(7,0),(8,0),(4,1),(9,1),(10,1),(11,1),(12,0)] _ (List.Perm.refl _) (by kernel_rfl) rfl (aa h fun x3 hx3 h=>aa h fun x4 hx4 h=>bv 10 [1,0,1,0] [5,6,7,8,10,11,12,13] [(9,pI x3),(14,pI x4)] (bi 8 (jI hx3) (bi 9 (jI hx4) bh)) (by kernel_rfl) ?_))))))))
 refine jc rfl rfl rfl (pl_fz (bw rfl rfl rfl rfl rfl (fL rfl (fL rfl iP)) rfl rfl rfl rfl (fun b5=>⟨_,_,_,_,_,_,_,rfl,by (repeat (first | exact aJ | apply ar)),?_⟩)))
 refine aa h fun x6 hx6 h=>bv 2 [] [16] [(4,pI x6)] (bi 0 (wG hx6) bh) (by kernel_rfl) (bB (dm ?_))
 exact zz r h rfl
def bA (p0:(List Za)):Option (List Za):=cond (decide (((p0.length:Nat):Int)<2)) (some p0) ((aV (S:=Int) (T:=(Unit)⊕(_)) (fun v2=>cond (decide (v2<((p0.length:Nat):Int))) ((idx p0 v2).bind fun m7=>(idx p0 (IntKind.i64.wrap (v2 - 1))).bind fun m8=>cond (Za.eqb m7 m8) ((sub p0 v2 (p0.length:Int)).bind fun l10=>(aV (S:=(List Za)×Int×Int) (T:=((List Za)×Int)) (fun (l12,v13,v14)=>cond (decide (v14<((p0.length - v2.toNat:Nat):Int))) (((lw v14).bind fun u25=>(idx l12 (v2+v14)).bind fun m26=>(lw (IntKind.i64.wrap (v14 - 1))).bind fun u27=>(idx l12 (v2+(IntKind.i64.wrap (v14 - 1)))).bind fun m28=>cond (!(Za.eqb m26 m28)) ((lw v14).bind fun u30=>(idx l12 (v2+v14)).bind fun m31=>(idx l12 v13).bind fun m32=>some ((l12.set v13.toNat m31),(IntKind.i64.wrap (v13+1)))) (some (l12,v13))).bind fun (l22,v23)=>some (.inl (l22,v23,(IntKind.i64.wrap (v14+1))))) (some (.inr (l12,v13)))) FUEL (p0,v2,1)).bind fun (l16,v17)=>(sub l16 v17 (l16.length:Int)).bind fun l34=>(sub (List.take v17.toNat l16++List.replicate (p0.length - v17.toNat) (⟨(0:Int),(0:Int)⟩:Za)) 0 v17).bind fun l35=>some (.inr (.inr l35))) (some (.inl (IntKind.i64.wrap (v2+1))))) (some (.inr (.inl ())))) FUEL 1).bind fun q=>match q with | .inl _=>some p0 | .inr e=>some e)
theorem f9 {p0:(List Za)} {a_0:Option Addr}  {n_0:Nat}  {c_0:Nat} {r:(List Za)}  (h:bA p0=some r):PCall 51 [.v (.slice a_0 n_0 c_0)] [PRes.row a_0 n_0 c_0 28 2 (List.map Za.enc p0)] (fun pv ρ'=>∃ a c,pv=.v (.slice a r.length c)∧ρ'=[PRes.row a r.length c 28 2 (List.map Za.enc r)]):=by
 unfold bA at h
 refine i4 Tryz.func51 rfl Tryz.ntmps51 Tryz.results51 rfl ?_
 refine jT (enc:=Za.enc) (xs:=p0) (a:=a_0) fy (fun hl ha=>?_);subst hl;clear ha
 refine ae (aU [2] (by kernel_rfl) (co (bF [6,7] [(8,pB (decide (((p0.length:Nat):Int)<2)))] (by kernel_rfl) rfl h (fun hc1 h=>?_) fun hc1 h=>?_)))
 ·refine ae ?_
  refine ai [9] [(2,pO a_0 p0.length c_0)] (by kernel_rfl) (dm (ap ?_))
  obtain rfl:=osi h
  exact aP (da (aO rfl)) cg ⟨_,_,rfl,rfl⟩
 refine ah ?_
 refine co (aj [(3,pI 1)] (by kernel_rfl) (fa h fun q5 hq5 h=>?_))
 refine am (Y:=Unit×Unit) (fun (_,_)=>[(0,pO a_0 p0.length c_0)]) (fun (_,_)=>[PRes.row a_0 p0.length c_0 28 2 (List.map Za.enc p0)]) (fun (_,_)=>q5=Sum.inl ()) ?_ ?_
 ·refine aw ?_
  refine aB (Y:=Unit) (S:=Int) _ hq5 (fun _ v2=>[(0,pO a_0 p0.length c_0),(3,pI v2)]) (fun _ v2=>[PRes.row a_0 p0.length c_0 28 2 (List.map Za.enc p0)]) () (lL rfl) cg ?_
  rintro _ v2 o τ hb4;(try dsimp only at hb4);dsimp only [au]
  refine cT (bF [10,11,12] [(13,pB (decide (v2<((p0.length:Nat):Int))))] (by kernel_rfl) rfl hb4 (fun hc6 hb4=>?_) fun hc6 hb4=>?_)
  ·refine ah ?_
   refine dq (bj (ρd:=[]) [(0,0),(1,0),(2,0),(3,0),(4,0),(5,0),(6,0),(7,0),(8,0),(9,0)] _ (List.Perm.refl _) (by kernel_rfl) rfl (aa hb4 fun m7 hm7 hb4=>gS 2 [(16,pO a_0 p0.length c_0),(17,pI v2)] (by kernel_rfl) (jS rfl rfl rfl (dA (enc:=Za.enc) (xs:=p0) rfl rfl rfl (.p rfl) fy (.p rfl) (fun _=>hm7)) (jS rfl rfl rfl (cP (sz:=2) (p:=.agg [pI m7.Product,pI m7.Agreement]) (enc:=Za.enc) (xs:=p0) (a:=a_0) v2 0 m7 rfl (.p rfl) rfl fy (fun _=>hm7) rfl) (aa hb4 fun m8 hm8 hb4=>mT 3 [21] [(20,pO a_0 p0.length c_0),(22,pI (IntKind.i64.wrap (v2 - 1)))] (by kernel_rfl) (jS rfl rfl rfl (dA (enc:=Za.enc) (xs:=p0) rfl rfl rfl (.p rfl) fy (.p rfl) (fun _=>hm8)) (jS rfl rfl rfl (cP (sz:=2) (p:=.agg [pI m8.Product,pI m8.Agreement]) (enc:=Za.enc) (xs:=p0) (a:=a_0) (IntKind.i64.wrap (v2 - 1)) 0 m8 rfl (.p rfl) rfl fy (fun _=>hm8) rfl) (bv 1 [] [] [(25,pB (Za.eqb m7 m8))] (yC 0 Za.eqok28 bh) (by kernel_rfl) (bB (cR rfl hb4 (fun hc9 hb4=>?_) fun hc9 hb4=>?_))))))))))
   ·refine ae ?_
    refine aa hb4 fun l10 hl10 hb4=>af (aF 2 [(26,pO a_0 p0.length c_0),(27,pI v2)] (by kernel_rfl) (bx rfl rfl rfl (mQ (enc:=Za.enc) (xs:=p0) rfl rfl rfl rfl rfl fy hl10) (aI [(4,pQ a_0 p0.length c_0 v2.toNat 2)] (by kernel_rfl) (co (aj [(5,pI 1)] (by kernel_rfl) (fa hb4 fun q19 hq19 hb4=>?_))))))
    refine am (Y:=Unit×((List Za)×Int)) (fun (_,(l16,v17))=>[(0,pO a_0 p0.length c_0),(3,pI v17)]) (fun (_,(l16,v17))=>[PRes.row a_0 p0.length c_0 28 2 (List.map Za.enc l16)]) (fun (_,(l16,v17))=>q19=(l16,v17)) ?_ ?_
    ·refine aw ?_
     refine aB (Y:=Unit) (S:=(List Za)×Int×Int) _ hq19 (fun _ (l12,v13,v14)=>[(0,pO a_0 p0.length c_0),(3,pI v13),(4,pQ a_0 p0.length c_0 v2.toNat 2),(5,pI v14)]) (fun _ (l12,v13,v14)=>[PRes.row a_0 p0.length c_0 28 2 (List.map Za.enc l12)]) () (iq rfl) cg ?_
     rintro _ ⟨l12,v13,v14⟩ o τ hb18;(try dsimp only at hb18);dsimp only [au]
     refine cT (bF [29,30,31] [(32,pB (decide (v14<((p0.length - v2.toNat:Nat):Int))))] (by kernel_rfl) rfl hb18 (fun hc20 hb18=>?_) fun hc20 hb18=>?_)
     ·refine ah ?_
      refine cN hb18 fun q24 hq24 hb18=>?_
      refine am (Y:=Unit×((List Za)×Int)) (fun (_,(l22,v23))=>[(0,pO a_0 p0.length c_0),(3,pI v23),(4,pQ a_0 p0.length c_0 v2.toNat 2),(5,pI v14)]) (fun (_,(l22,v23))=>[PRes.row a_0 p0.length c_0 28 2 (List.map Za.enc l22)]) (fun (_,(l22,v23))=>q24=(l22,v23)) ?_ ?_
      ·skip
       refine nX (bj (ρd:=[]) [(0,0),(1,0),(2,0),(3,0),(4,0),(5,0),(6,0),(7,0),(8,0),(9,0)] _ (List.Perm.refl _) (by kernel_rfl) rfl (aa hq24 fun u25 hu25 hq24=>aa hq24 fun m26 hm26 hq24=>gS 2 [(35,pQ a_0 p0.length c_0 v2.toNat 2),(36,pI v14)] (by kernel_rfl) (jS rfl rfl rfl (jH (enc:=Za.enc) (xs:=l12) (i:=v2) rfl rfl rfl rfl rfl (gO hl10).1.1 (lx hu25) fy hm26) (jS rfl rfl rfl (cP (sz:=2) (p:=.agg [pI m26.Product,pI m26.Agreement]) (enc:=Za.enc) (xs:=l12) (a:=a_0) (v2+v14) 0 m26 rfl (.p rfl) rfl fy (fun _=>hm26) rfl) (aa hq24 fun u27 hu27 hq24=>aa hq24 fun m28 hm28 hq24=>mT 3 [40] [(39,pQ a_0 p0.length c_0 v2.toNat 2),(41,pI (IntKind.i64.wrap (v14 - 1)))] (by kernel_rfl) (jS rfl rfl rfl (jH (enc:=Za.enc) (xs:=l12) (i:=v2) rfl rfl rfl rfl rfl (gO hl10).1.1 (lx hu27) fy hm28) (jS rfl rfl rfl (cP (sz:=2) (p:=.agg [pI m28.Product,pI m28.Agreement]) (enc:=Za.enc) (xs:=l12) (a:=a_0) (v2+(IntKind.i64.wrap (v14 - 1))) 0 m28 rfl (.p rfl) rfl fy (fun _=>hm28) rfl) (bv 1 [] [] [(44,pB (!(Za.eqb m26 m28)))] (yC 0 Za.eqok28 bh) (by kernel_rfl) (bB (cR rfl hq24 (fun hc29 hq24=>?_) fun hc29 hq24=>?_))))))))))
       ·refine ae ?_
        refine aa hq24 fun u30 hu30 hq24=>aa hq24 fun m31 hm31 hq24=>af (aF 4 [(45,pO a_0 p0.length c_0),(46,pI v13),(47,pQ a_0 p0.length c_0 v2.toNat 2),(48,pI v14)] (by kernel_rfl) (bx rfl rfl rfl (jH (enc:=Za.enc) (xs:=l12) (i:=v2) rfl rfl rfl rfl rfl (gO hl10).1.1 (lx hu30) fy hm31) (bx rfl rfl rfl (cP (sz:=2) (p:=.agg [pI m31.Product,pI m31.Agreement]) (enc:=Za.enc) (xs:=l12) (a:=a_0) (v2+v14) 0 m31 rfl (.p rfl) rfl fy (fun _=>hm31) rfl) (aa hq24 fun m32 hm32 hq24=>bx rfl rfl rfl (dA (enc:=Za.enc) (xs:=l12) rfl rfl rfl (.p rfl) fy (.p rfl) (fun _=>hm32)) (aS rfl rfl (rc (enc:=Za.enc) (xs:=l12) (a:=a_0) v13 0 m32 m31 rfl rfl rfl rfl (fun _=>rfl) rfl rfl hm32 re cw (aG (aL (ai [52,53] [(3,pI (IntKind.i64.wrap (v13+1)))] (by kernel_rfl) (aA ?_))))))))))
        obtain rfl:=osi hq24
        exact av ((),((l12.set v13.toNat m31),(IntKind.i64.wrap (v13+1)))) (iq rfl) cg rfl
       refine ah ?_
       refine aA ?_
       obtain rfl:=osi hq24
       exact av ((),(l12,v13)) (iq rfl) cg rfl
      rintro ⟨_,⟨l22,v23⟩⟩ τ hz;(try dsimp only at hz);subst q24;(try dsimp only at hb18);dsimp only [au]
      refine ai [33,34] [(5,pI (IntKind.i64.wrap (v14+1)))] (by kernel_rfl) ?_
      exact aR hb18 () (iq rfl) cg
     refine aH ?_
     refine cd hb18 (fun ht=>ak rfl ?_)
     exact av ((),(l12,v13)) (lL rfl) cg ht.symm
    rintro ⟨_,⟨l16,v17⟩⟩ τ hz;(try dsimp only at hz);subst q19;(try dsimp only at hb4);dsimp only [au]
    refine ae (aa hb4 fun l34 hl34 hb4=>af (aF 2 [(54,pO a_0 p0.length c_0),(55,pI v17)] (by kernel_rfl) (bx rfl rfl rfl (mQ (enc:=Za.enc) (xs:=l16) rfl rfl rfl rfl rfl fy hl34) (aS rfl rfl (xn (enc:=Za.enc) (xs:=l16) (z0:=(⟨(0:Int),(0:Int)⟩:Za)) (i:=v17) rfl rfl rfl rfl hl34 rfl rfl rfl rfl cw (aG (cN hb4 fun l35 hl35 hb4=>af (aF 2 [(57,pO a_0 p0.length c_0),(58,pI v17)] (by kernel_rfl) ?_))))))))
    refine al rfl (sI (enc:=Za.enc) (xs:=(List.take v17.toNat l16++List.replicate (p0.length - v17.toNat) (⟨(0:Int),(0:Int)⟩:Za))) rfl rfl rfl rfl rfl (by exact aJ) hl35 ?_)
    refine aI [(2,pO a_0 l35.length c_0)] (by kernel_rfl) (dm (dM ?_))
    refine az hb4 (fun ht=>?_);subst ht
    refine cS ?_
    obtain rfl:=osi h
    exact aP (da (aO rfl)) cg ⟨_,_,rfl,rfl⟩
   refine ah ?_
   refine dx (ai [14,15] [(3,pI (IntKind.i64.wrap (v2+1)))] (by kernel_rfl) ?_)
   exact aR hb4 () (lL rfl) cg
  refine aH ?_
  refine cd hb4 (fun ht=>ak rfl ?_)
  exact av ((),()) (qP rfl) cg ht.symm
 rintro ⟨_,_⟩ τ hz;(try dsimp only at hz);subst q5;(try dsimp only at h);dsimp only [au]
 refine ae (ai [60] [(2,pO a_0 p0.length c_0)] (by kernel_rfl) (dm ?_))
 obtain rfl:=osi h
 exact aP (da (aO rfl)) cg ⟨_,_,rfl,rfl⟩
def gV (p0:Zq):Option Zl:=some p0.use
theorem mY {p0:Zq} {r:Zl}  (h:gV p0=some r):PF 240 [.agg [pS p0.use.Code,pI p0.use.Value,pB p0.use.Originating,pI p0.premise.Product,pI p0.premise.Agreement]] (.agg [pS r.Code,pI r.Value,pB r.Originating]):=by
 unfold gV at h
 refine bd ?_
 refine dp Tryz.func240 rfl Tryz.ntmps240 Tryz.results240 rfl (cU rfl (bg (cs:=[pS p0.use.Code,pI p0.use.Value,pB p0.use.Originating,pI p0.premise.Product,pI p0.premise.Agreement]) rfl rfl (fun b1=>al rfl (aN (cs:=[pS ByteArray.empty,pI 0,pB false]) rfl rfl rfl rfl (fun b2=>aG (ca (af (cj 2 [1] [3] [(4,.agg [pS p0.use.Code,pI p0.use.Value,pB p0.use.Originating])] (by kernel_rfl) (aS rfl rfl (an (vs:=[pS p0.use.Code,pI p0.use.Value,pB p0.use.Originating]) rfl rfl rfl rfl rfl cw zl3 (aG (dm ?_))))))))))))
 obtain rfl:=osi h
 exact aP (da (dV rfl fy rfl)) bz ⟨rfl,rfl⟩
def ic (p0:Zs):Option Zl:=some p0.use
theorem nq {p0:Zs} {r:Zl}  (h:ic p0=some r):PF 241 [.agg [pS p0.use.Code,pI p0.use.Value,pB p0.use.Originating]] (.agg [pS r.Code,pI r.Value,pB r.Originating]):=by
 unfold ic at h
 refine bd ?_
 refine dp Tryz.func241 rfl Tryz.ntmps241 Tryz.results241 rfl (cU rfl (bg (cs:=[pS p0.use.Code,pI p0.use.Value,pB p0.use.Originating]) rfl rfl (fun b1=>al rfl (aN (cs:=[pS ByteArray.empty,pI 0,pB false]) rfl rfl rfl rfl (fun b2=>aG (ca (af (cj 2 [1] [3] [(4,.agg [pS p0.use.Code,pI p0.use.Value,pB p0.use.Originating])] (by kernel_rfl) (aS rfl rfl (an (vs:=[pS p0.use.Code,pI p0.use.Value,pB p0.use.Originating]) rfl rfl rfl rfl rfl cw zl3 (aG (dm ?_))))))))))))
 obtain rfl:=osi h
 exact aP (da (dV rfl fy rfl)) bz ⟨rfl,rfl⟩
def Icumulation_supply_input (x:Zf)  : Option Zl:=match x with | .plain_ a=>ic a  | .proved_ a=>gV a
theorem Icumulation_supply_input_ok {x:Zf}  {w:Zl} (h:Icumulation_supply_input x  = some w):PFI x.pv "customs/cumulation.input" [] (.agg [pS w.Code,pI w.Value,pB w.Originating]):=by
 cases x with
 | plain_ a=>exact u9 ⟨fun _ _=>by kernel_rfl⟩ (nq h)
 | proved_ a=>exact u9 ⟨fun _ _=>by kernel_rfl⟩ (mY h)
def fR (p0:(List Zd)) (p1:Int):Option (Zd×Bool):=(aV (S:=Int) (T:=(Unit)⊕(_)) (fun v2=>cond (decide (v2<(p0.length:Int))) ((idx p0 v2).bind fun m6=>cond (m6.ID == p1) ((idx p0 v2).bind fun m8=>some (.inr (.inr (m8,true)))) (some (.inl (IntKind.i64.wrap (v2+1))))) (some (.inr (.inl ())))) FUEL 0).bind fun q=>match q with | .inl _=>some ((⟨0,ByteArray.empty,ByteArray.empty,0,false,[],[]⟩:Zd),false) | .inr e=>some e
theorem jn {p0:(List Zd)} {p1:Int} {r:(Zd×Bool)}  (h:fR p0 p1=some r):PF 53 [pL Zd.enc p0,pI p1] (.tup [.agg (aK r.1),pB r.2]):=by
 unfold fR at h
 refine bd ?_
 refine dp Tryz.func53 rfl Tryz.ntmps53 Tryz.results53 rfl (cU rfl (aN (cs:=[pI 0,pS ByteArray.empty,pS ByteArray.empty,pI 0,pB false,pN,pN]) rfl rfl rfl rfl (fun b1=>bc [5] (by kernel_rfl) (co (aj [(6,pI 0)] (by kernel_rfl) (fa h fun q4 hq4 h=>?_))))))
 refine am (Y:=Unit×Unit) (fun (_,_)=>[(4,pP b1 0)]) (fun (_,_)=>[PRes.b b1 76 [pI 0,pS ByteArray.empty,pS ByteArray.empty,pI 0,pB false,pN,pN]]) (fun (_,_)=>q4=Sum.inl ()) ?_ ?_
 ·refine aw ?_
  refine aB (Y:=Unit) (S:=Int) _ hq4 (fun _ v2=>[(0,pL Zd.enc p0),(1,pI p1),(4,pP b1 0),(6,pI v2)]) (fun _ v2=>[PRes.b b1 76 [pI 0,pS ByteArray.empty,pS ByteArray.empty,pI 0,pB false,pN,pN]]) () (iq rfl) cg ?_
  rintro _ v2 o τ hb3;(try dsimp only at hb3);dsimp only [au]
  refine cT (bF [7,8,9] [(10,pB (decide (v2<(p0.length:Int))))] (by kernel_rfl) rfl hb3 (fun hc5 hb3=>?_) fun hc5 hb3=>?_)
  ·refine ah ?_
   refine dq (aa hb3 fun m6 hm6 hb3=>aq [] (rg 13 6) [(19,pB (m6.ID == p1))] (cr 2 Zd.enc hm6 bh) (by kernel_rfl) (cR rfl hb3 (fun hc7 hb3=>?_) fun hc7 hb3=>?_))
   ·refine ae ?_
    refine aa hb3 fun m8 hm8 hb3=>af (aY 4 [] [20,21,22] [(23,.agg (aK m8))] (cr 2 Zd.enc hm8 bh) (by kernel_rfl) (aS rfl rfl (an (vs:=(aK m8)) rfl rfl rfl rfl rfl cw nP (aI [(5,pB true)] (by kernel_rfl) (dm (dM ?_))))))
    refine az hb3 (fun ht=>?_);subst ht
    refine cS ?_
    obtain rfl:=osi h
    exact aP (cD (dV rfl fy rfl) (aO rfl)) bz ⟨rfl,rfl⟩
   refine ah ?_
   refine dx (ai [11,12] [(6,pI (IntKind.i64.wrap (v2+1)))] (by kernel_rfl) ?_)
   exact aR hb3 () (iq rfl) cg
  refine aH ?_
  refine cd hb3 (fun ht=>ak rfl ?_)
  exact av ((),()) (qP rfl) cg ht.symm
 rintro ⟨_,_⟩ τ hz;(try dsimp only at hz);subst q4;(try dsimp only at h);dsimp only [au]
 refine ae (af (aF 1 [(24,.agg [pI 0,pS ByteArray.empty,pS ByteArray.empty,pI 0,pB false,pN,pN])] (by kernel_rfl) (aS rfl rfl (an (vs:=[pI 0,pS ByteArray.empty,pS ByteArray.empty,pI 0,pB false,pN,pN]) rfl rfl rfl rfl rfl cw nP (aI [(5,pB false)] (by kernel_rfl) (aL (df (k:=5) (b:=b1) rfl cw (df (k:=6) (b:=b1) rfl cw (bq ?_)))))))))
 obtain rfl:=osi h
 exact aP (cD (dV rfl fy rfl) (aO rfl)) bz ⟨rfl,rfl⟩
def fk (p0:(List Zb)) (p1:Int):Option (Zb×Bool):=(aV (S:=Int) (T:=(Unit)⊕(_)) (fun v2=>cond (decide (v2<(p0.length:Int))) ((idx p0 v2).bind fun m6=>cond (m6.ID == p1) ((idx p0 v2).bind fun m8=>some (.inr (.inr (m8,true)))) (some (.inl (IntKind.i64.wrap (v2+1))))) (some (.inr (.inl ())))) FUEL 0).bind fun q=>match q with | .inl _=>some ((⟨0,0,[],[]⟩:Zb),false) | .inr e=>some e
theorem jK {p0:(List Zb)} {p1:Int} {r:(Zb×Bool)}  (h:fk p0 p1=some r):PF 54 [pL Zb.enc p0,pI p1] (.tup [.agg (aD r.1),pB r.2]):=by
 unfold fk at h
 refine bd ?_
 refine dp Tryz.func54 rfl Tryz.ntmps54 Tryz.results54 rfl (cU rfl (aN (cs:=[pI 0,pI 0,pN,pN]) rfl rfl rfl rfl (fun b1=>bc [5] (by kernel_rfl) (co (aj [(6,pI 0)] (by kernel_rfl) (fa h fun q4 hq4 h=>?_))))))
 refine am (Y:=Unit×Unit) (fun (_,_)=>[(4,pP b1 0)]) (fun (_,_)=>[PRes.b b1 81 [pI 0,pI 0,pN,pN]]) (fun (_,_)=>q4=Sum.inl ()) ?_ ?_
 ·refine aw ?_
  refine aB (Y:=Unit) (S:=Int) _ hq4 (fun _ v2=>[(0,pL Zb.enc p0),(1,pI p1),(4,pP b1 0),(6,pI v2)]) (fun _ v2=>[PRes.b b1 81 [pI 0,pI 0,pN,pN]]) () (iq rfl) cg ?_
  rintro _ v2 o τ hb3;(try dsimp only at hb3);dsimp only [au]
  refine cT (bF [7,8,9] [(10,pB (decide (v2<(p0.length:Int))))] (by kernel_rfl) rfl hb3 (fun hc5 hb3=>?_) fun hc5 hb3=>?_)
  ·refine ah ?_
   refine dq (aa hb3 fun m6 hm6 hb3=>aq [] (rg 13 6) [(19,pB (m6.ID == p1))] (cr 2 Zb.enc hm6 bh) (by kernel_rfl) (cR rfl hb3 (fun hc7 hb3=>?_) fun hc7 hb3=>?_))
   ·refine ae ?_
    refine aa hb3 fun m8 hm8 hb3=>af (aY 4 [] [20,21,22] [(23,.agg (aD m8))] (cr 2 Zb.enc hm8 bh) (by kernel_rfl) (aS rfl rfl (an (vs:=(aD m8)) rfl rfl rfl rfl rfl cw yy (aI [(5,pB true)] (by kernel_rfl) (dm (dM ?_))))))
    refine az hb3 (fun ht=>?_);subst ht
    refine cS ?_
    obtain rfl:=osi h
    exact aP (cD (dV rfl fy rfl) (aO rfl)) bz ⟨rfl,rfl⟩
   refine ah ?_
   refine dx (ai [11,12] [(6,pI (IntKind.i64.wrap (v2+1)))] (by kernel_rfl) ?_)
   exact aR hb3 () (iq rfl) cg
  refine aH ?_
  refine cd hb3 (fun ht=>ak rfl ?_)
  exact av ((),()) (qP rfl) cg ht.symm
 rintro ⟨_,_⟩ τ hz;(try dsimp only at hz);subst q4;(try dsimp only at h);dsimp only [au]
 refine ae (af (aF 1 [(24,.agg [pI 0,pI 0,pN,pN])] (by kernel_rfl) (aS rfl rfl (an (vs:=[pI 0,pI 0,pN,pN]) rfl rfl rfl rfl rfl cw yy (aI [(5,pB false)] (by kernel_rfl) (aL (df (k:=2) (b:=b1) rfl cw (df (k:=3) (b:=b1) rfl cw (bq ?_)))))))))
 obtain rfl:=osi h
 exact aP (cD (dV rfl fy rfl) (aO rfl)) bz ⟨rfl,rfl⟩
def iH (p0:(List ByteArray)) (p1:ByteArray):Option Bool:=(aV (S:=Int) (T:=(Unit)⊕(_)) (fun v1=>cond (decide (v1<(p0.length:Int))) ((idx p0 v1).bind fun m5=>cond (decide (m5=p1)) (some (.inr (.inr true))) (some (.inl (IntKind.i64.wrap (v1+1))))) (some (.inr (.inl ())))) FUEL 0).bind fun q=>match q with | .inl _=>some false | .inr e=>some e
theorem i5 {p0:(List ByteArray)} {p1:ByteArray} {r:Bool}  (h:iH p0 p1=some r):PF 56 [pL eS p0,pS p1] (pB r):=by
 unfold iH at h
 refine bd ?_
 refine dp Tryz.func56 rfl Tryz.ntmps56 Tryz.results56 rfl (aU [4] (by kernel_rfl) (co (aj [(5,pI 0)] (by kernel_rfl) (fa h fun q3 hq3 h=>?_))))
 refine am (Y:=Unit×Unit) (fun (_,_)=>[]) (fun (_,_)=>[]) (fun (_,_)=>q3=Sum.inl ()) ?_ ?_
 ·refine aw ?_
  refine aB (Y:=Unit) (S:=Int) _ hq3 (fun _ v1=>[(0,pL eS p0),(1,pS p1),(5,pI v1)]) (fun _ v1=>[]) () (lM rfl) bz ?_
  rintro _ v1 o τ hb2;(try dsimp only at hb2);dsimp only [au]
  refine cT (bF [6,7,8] [(9,pB (decide (v1<(p0.length:Int))))] (by kernel_rfl) rfl hb2 (fun hc4 hb2=>?_) fun hc4 hb2=>?_)
  ·refine ah ?_
   refine dq (aa hb2 fun m5 hm5 hb2=>aq [] (rg 12 5) [(17,pB (decide (m5=p1)))] (cr 2 eS hm5 bh) (by kernel_rfl) (cR rfl hb2 (fun hc6 hb2=>?_) fun hc6 hb2=>?_))
   ·refine ae ?_
    refine cZ [(4,pB true)] (by kernel_rfl) (dM ?_)
    refine az hb2 (fun ht=>?_);subst ht
    refine cS ?_
    exact zz r h rfl
   refine ah ?_
   refine dx (ai [10,11] [(5,pI (IntKind.i64.wrap (v1+1)))] (by kernel_rfl) ?_)
   exact aR hb2 () (lM rfl) bz
  refine aH ?_
  refine cd hb2 (fun ht=>ak rfl ?_)
  exact av ((),()) nC bz ht.symm
 rintro ⟨_,_⟩ τ hz;(try dsimp only at hz);subst q3;(try dsimp only at h);dsimp only [au]
 refine ae (cZ [(4,pB false)] (by kernel_rfl) ?_)
 exact zz r h rfl
def ie (p0:ByteArray) (p1:ByteArray):Option Bool:=(gd (decide ((p1.size:Int)≤(p0.size:Int))) (ki p0 0 (p1.size:Int))).bind fun s1=>some ((decide ((p1.size:Int)≤(p0.size:Int)))&&(decide (s1=p1)))
theorem po {p0:ByteArray} {p1:ByteArray} {r:Bool}  (h:ie p0 p1=some r):PF 116 [pS p0,pS p1] (pB r):=by
 unfold ie at h
 refine bd ?_
 refine dp Tryz.func116 rfl Tryz.ntmps116 Tryz.results116 rfl (aU [4] (by kernel_rfl) (cN h fun s1 hs1 h=>aq [] (rg 5 13) [(4,pB ((decide ((p1.size:Int)≤(p0.size:Int)))&&(decide (s1=p1))))] (fossg 9 (cA hs1) bh) (by kernel_rfl) (dm ?_)))
 exact zz r h rfl
def gu (p0:Zb) (p1:ByteArray):Option (Ze×Bool):=(aV (S:=Int×Int) (T:=(Int)) (fun (v3,v4)=>cond (decide (v4<(p0.Rules.length:Int))) (((idx p0.Rules v4).bind fun m11=>(ie p1 m11.Prefix).bind fun x12=>(gd (x12&&(!(decide (v3<0)))) (idx p0.Rules v4)).bind fun m13=>(gd (x12&&(!(decide (v3<0)))) (idx p0.Rules v3)).bind fun m14=>cond (x12&&((decide (v3<0))||(decide ((m14.Prefix.size:Int)<(m13.Prefix.size:Int))))) (some v4) (some v3)).bind fun v9=>some (.inl (v9,(IntKind.i64.wrap (v4+1))))) (some (.inr v3))) FUEL ((-1),0)).bind fun v5=>cond (decide (v5<0)) (some ((⟨0,0,[],0,0,ByteArray.empty,[]⟩:Ze),false)) ((idx p0.Rules v5).bind fun m17=>some (m17.Rule,true))
theorem pq {p0:Zb} {p1:ByteArray} {r:(Ze×Bool)}  (h:gu p0 p1=some r):PF 69 [.agg (aD p0),pS p1] (.tup [.agg (aC r.1),pB r.2]):=by
 unfold gu at h
 refine bd ?_
 refine dp Tryz.func69 rfl Tryz.ntmps69 Tryz.results69 rfl (cU rfl (bg (cs:=(aD p0)) rfl rfl (fun b1=>al rfl (aN (cs:=[pI 0,pI 0,pN,pI 0,pI 0,pS ByteArray.empty,pN]) rfl rfl rfl rfl (fun b2=>bc [5] (by kernel_rfl) (ca (aj [(6,pI (-1))] (by kernel_rfl) (co (aj [(7,pI 0)] (by kernel_rfl) (fa h fun q7 hq7 h=>?_))))))))))
 refine am (Y:=Unit×Int) (fun (_,v5)=>[(2,pP b1 0),(4,pP b2 0),(6,pI v5)]) (fun (_,v5)=>[PRes.b b1 81 (aD p0),PRes.b b2 84 [pI 0,pI 0,pN,pI 0,pI 0,pS ByteArray.empty,pN]]) (fun (_,v5)=>q7=v5) ?_ ?_
 ·refine aw ?_
  refine aB (Y:=Unit) (S:=Int×Int) _ hq7 (fun _ (v3,v4)=>[(1,pS p1),(2,pP b1 0),(4,pP b2 0),(6,pI v3),(7,pI v4)]) (fun _ (v3,v4)=>[PRes.b b1 81 (aD p0),PRes.b b2 84 [pI 0,pI 0,pN,pI 0,pI 0,pS ByteArray.empty,pN]]) () (lP rfl) (ba (ar aJ) cg) ?_
  rintro _ ⟨v3,v4⟩ o τ hb6;(try dsimp only at hb6);dsimp only [au]
  refine cT (aM [0] [8,9,10,11] [(12,pB (decide (v4<(p0.Rules.length:Int))))] (by kernel_rfl) (cR rfl hb6 (fun hc8 hb6=>?_) fun hc8 hb6=>?_))
  ·refine ah ?_
   refine cN hb6 fun q10 hq10 hb6=>?_
   refine am (Y:=Unit×Int) (fun (_,v9)=>[(1,pS p1),(2,pP b1 0),(4,pP b2 0),(6,pI v9),(7,pI v4)]) (fun (_,v9)=>[PRes.b b1 81 (aD p0),PRes.b b2 84 [pI 0,pI 0,pN,pI 0,pI 0,pS ByteArray.empty,pN]]) (fun (_,v9)=>q10=v9) ?_ ?_
   ·skip
    refine nX (bj (ρd:=[]) [(0,0),(1,0),(2,0),(3,0),(4,0),(5,0),(6,0),(7,1),(8,0),(9,0),(10,0),(11,0),(12,0),(13,0),(14,0),(15,0),(16,0),(17,0),(18,0),(19,0),(20,0),(21,0),(22,0),(23,0),(24,0),(25,0),(26,0),(27,0),(28,0)] _ (List.Perm.refl _) (by kernel_rfl) rfl (aa hq10 fun m11 hm11 hq10=>aa hq10 fun x12 hx12 hq10=>aa hq10 fun m13 hm13 hq10=>aa hq10 fun m14 hm14 hq10=>bv 29 [0,0,0] (rg 15 28) [(43,pB (x12&&((decide (v3<0))||(decide ((m14.Prefix.size:Int)<(m13.Prefix.size:Int))))))] (cr 4 Zi.enc hm11 (bi 7 (po hx12) (eG 15 Zi.enc (cA hm13) (eG 22 Zi.enc (cA hm14) bh)))) (by kernel_rfl) (bB (cR rfl hq10 (fun hc15 hq10=>?_) fun hc15 hq10=>?_))))
    ·refine ai [44] [(6,pI v4)] (by kernel_rfl) ?_
     refine aA ?_
     obtain rfl:=osi hq10
     exact av ((),v4) (lP rfl) mE rfl
    refine ah ?_
    refine aA ?_
    obtain rfl:=osi hq10
    exact av ((),v3) (lP rfl) mE rfl
   rintro ⟨_,v9⟩ τ hz;(try dsimp only at hz);subst q10;(try dsimp only at hb6);dsimp only [au]
   refine ai [13,14] [(7,pI (IntKind.i64.wrap (v4+1)))] (by kernel_rfl) ?_
   exact aR hb6 () (lP rfl) mE
  refine aH ?_
  refine cd hb6 (fun ht=>ak rfl ?_)
  exact av ((),v3) (lM rfl) mE ht.symm
 rintro ⟨_,v5⟩ τ hz;(try dsimp only at hz);subst q7;(try dsimp only at h);dsimp only [au]
 refine cT (bF [45] [(46,pB (decide (v5<0)))] (by kernel_rfl) rfl h (fun hc16 h=>?_) fun hc16 h=>?_)
 ·refine ae ?_
  refine af (aF 1 [(47,.agg [pI 0,pI 0,pN,pI 0,pI 0,pS ByteArray.empty,pN])] (by kernel_rfl) (aS rfl rfl (an (vs:=[pI 0,pI 0,pN,pI 0,pI 0,pS ByteArray.empty,pN]) rfl rfl rfl rfl rfl (dl cw) nP (aI [(5,pB false)] (by kernel_rfl) (aL (df (k:=2) (b:=b2) rfl (dl cw) (df (k:=6) (b:=b2) rfl (dl cw) (bq (ap ?_)))))))))
  obtain rfl:=osi h
  exact aP (cD (dV rfl u3 rfl) (aO rfl)) bz ⟨rfl,rfl⟩
 refine ah ?_
 refine cN h fun m17 hm17 h=>af (aY 6 [0] (rg 48 5) [(53,.agg (aC m17.Rule))] (cr 3 Zi.enc hm17 bh) (by kernel_rfl) (aS rfl rfl (an (vs:=(aC m17.Rule)) rfl rfl rfl rfl rfl (dl cw) nP (aI [(5,pB true)] (by kernel_rfl) (dm ?_)))))
 obtain rfl:=osi h
 exact aP (cD (dV rfl u3 rfl) (aO rfl)) bz ⟨rfl,rfl⟩
def dO (p0:(List Zd)) (p1:(List Zb)) (p2:ByteArray) (p3:Za):Option Bool:=(fR p0 p3.Product).bind fun x2=>(fk p1 p3.Agreement).bind fun x4=>(gu x4.1 x2.1.Code).bind fun x6=>(gd (((x2.2&&x4.2)&&x6.2)&&(!decide (x2.1.Country=p2))) (iH x4.1.Parties x2.1.Country)).bind fun x8=>(gd ((((x2.2&&x4.2)&&x6.2)&&(!decide (x2.1.Country=p2)))&&x8) (iH x4.1.Parties p2)).bind fun x9=>some (((((x2.2&&x4.2)&&x6.2)&&(!decide (x2.1.Country=p2)))&&x8)&&x9)
theorem lZ {p0:(List Zd)} {p1:(List Zb)} {p2:ByteArray} {p3:Za} {r:Bool}  (h:dO p0 p1 p2 p3=some r):PF 52 [pL Zd.enc p0,pL Zb.enc p1,pS p2,.agg [pI p3.Product,pI p3.Agreement]] (pB r):=by
 unfold dO at h
 refine bd ?_
 refine dp Tryz.func52 rfl Tryz.ntmps52 Tryz.results52 rfl (cU rfl (bg (cs:=[pI p3.Product,pI p3.Agreement]) rfl rfl (fun b1=>bc [8] (by kernel_rfl) (cN h fun x2 hx2 h=>af (aY 7 [0] [16,17,18,19,15] [(20,.agg (aK x2.1)),(21,pB x2.2)] (bi 3 (jn hx2) bh) (by kernel_rfl) (al rfl (aN (cs:=[pI 0,pS ByteArray.empty,pS ByteArray.empty,pI 0,pB false,pN,pN]) rfl rfl rfl rfl (fun b3=>aS rfl rfl (an (vs:=(aK x2.1)) rfl rfl rfl rfl rfl cw nP (aI [(10,pB x2.2)] (by kernel_rfl) (cN h fun x4 hx4 h=>af (aY 7 [1] [23,24,25,26,22] [(27,.agg (aD x4.1)),(28,pB x4.2)] (bi 3 (jK hx4) bh) (by kernel_rfl) (al rfl (aN (cs:=[pI 0,pI 0,pN,pN]) rfl rfl rfl rfl (fun b5=>aS rfl rfl (an (vs:=(aD x4.1)) rfl rfl rfl rfl rfl cw yy (aI [(12,pB x4.2)] (by kernel_rfl) (cN h fun x6 hx6 h=>af (aY 7 [0,1] [30,31,32,33,29] [(34,.agg (aC x6.1)),(35,pB x6.2)] (bi 3 (pq hx6) bh) (by kernel_rfl) (al rfl (aN (cs:=[pI 0,pI 0,pN,pI 0,pI 0,pS ByteArray.empty,pN]) rfl rfl rfl rfl (fun b7=>aS rfl rfl (an (vs:=(aC x6.1)) rfl rfl rfl rfl rfl cw nP (aI [(14,pB x6.2)] (by kernel_rfl) (cN h fun x8 hx8 h=>aa h fun x9 hx9 h=>aq [2,1,2,1] (rg 36 26) [(8,pB (((((x2.2&&x4.2)&&x6.2)&&(!decide (x2.1.Country=p2)))&&x8)&&x9))] (dK 18 (fun hc=>i5 (cA hx8 hc)) (dK 24 (fun hc=>i5 (cA hx9 hc)) bh)) (by kernel_rfl) (dm ?_))))))))))))))))))))))))))
 exact zz r h rfl
def gw (p0:(List ByteArray)) (p1:(List ByteArray)):Option Bool:=cond ((p0.length:Int) != (p1.length:Int)) (some false) ((aV (S:=Int) (T:=(Unit)⊕(_)) (fun v2=>cond (decide (v2<(p0.length:Int))) ((idx p0 v2).bind fun m6=>(idx p1 v2).bind fun m7=>cond (!decide (m6=m7)) (some (.inr (.inr false))) (some (.inl (IntKind.i64.wrap (v2+1))))) (some (.inr (.inl ())))) FUEL 0).bind fun q=>match q with | .inl _=>some true | .inr e=>some e)
theorem pT {p0:(List ByteArray)} {p1:(List ByteArray)} {r:Bool}  (h:gw p0 p1=some r):PF 61 [pL eS p0,pL eS p1] (pB r):=by
 unfold gw at h
 refine bd ?_
 refine dp Tryz.func61 rfl Tryz.ntmps61 Tryz.results61 rfl (aU [4] (by kernel_rfl) (co (bF [6,7,8,9] [(10,pB ((p0.length:Int) != (p1.length:Int)))] (by kernel_rfl) rfl h (fun hc1 h=>?_) fun hc1 h=>?_)))
 ·refine ae ?_
  refine cZ [(4,pB false)] (by kernel_rfl) (ap ?_)
  exact zz r h rfl
 refine ah ?_
 refine co (aj [(5,pI 0)] (by kernel_rfl) (fa h fun q4 hq4 h=>?_))
 refine am (Y:=Unit×Unit) (fun (_,_)=>[]) (fun (_,_)=>[]) (fun (_,_)=>q4=Sum.inl ()) ?_ ?_
 ·refine aw ?_
  refine aB (Y:=Unit) (S:=Int) _ hq4 (fun _ v2=>[(0,pL eS p0),(1,pL eS p1),(5,pI v2)]) (fun _ v2=>[]) () (lM rfl) bz ?_
  rintro _ v2 o τ hb3;(try dsimp only at hb3);dsimp only [au]
  refine cT (bF [11,12,13] [(14,pB (decide (v2<(p0.length:Int))))] (by kernel_rfl) rfl hb3 (fun hc5 hb3=>?_) fun hc5 hb3=>?_)
  ·refine ah ?_
   refine dq (bj (ρd:=[]) [(0,0),(1,0),(2,0),(3,0),(4,0),(5,0),(6,0),(7,0),(8,0)] _ (List.Perm.refl _) (by kernel_rfl) rfl (aa hb3 fun m6 hm6 hb3=>aa hb3 fun m7 hm7 hb3=>bv 9 [] (rg 17 8) [(25,pB (!decide (m6=m7)))] (cr 2 eS hm6 (cr 6 eS hm7 bh)) (by kernel_rfl) (bB (cR rfl hb3 (fun hc8 hb3=>?_) fun hc8 hb3=>?_))))
   ·refine ae ?_
    refine cZ [(4,pB false)] (by kernel_rfl) (dM ?_)
    refine az hb3 (fun ht=>?_);subst ht
    refine cS ?_
    exact zz r h rfl
   refine ah ?_
   refine dx (ai [15,16] [(5,pI (IntKind.i64.wrap (v2+1)))] (by kernel_rfl) ?_)
   exact aR hb3 () (lM rfl) bz
  refine aH ?_
  refine cd hb3 (fun ht=>ak rfl ?_)
  exact av ((),()) nC bz ht.symm
 rintro ⟨_,_⟩ τ hz;(try dsimp only at hz);subst q4;(try dsimp only at h);dsimp only [au]
 refine ae (cZ [(4,pB true)] (by kernel_rfl) ?_)
 exact zz r h rfl
def gW (rec:Ze→Ze→Option Bool) (p0:Ze) (p1:Ze):Option Bool:=(gd (!(((((p0.Kind != p1.Kind)||(p0.Digits != p1.Digits))||(p0.Tolerance != p1.Tolerance))||(p0.Limit != p1.Limit))||(!decide (p0.Name=p1.Name)))) (gw p0.Except p1.Except)).bind fun x3=>cond (((((((p0.Kind != p1.Kind)||(p0.Digits != p1.Digits))||(p0.Tolerance != p1.Tolerance))||(p0.Limit != p1.Limit))||(!decide (p0.Name=p1.Name)))||(!x3))||((p0.Args.length:Int) != (p1.Args.length:Int))) (some false) ((aV (S:=Int) (T:=(Unit)⊕(_)) (fun v5=>cond (decide (v5<(p0.Args.length:Int))) ((idx p0.Args v5).bind fun m9=>(idx p1.Args v5).bind fun m10=>(rec m9 m10).bind fun x11=>cond (!x11) (some (.inr (.inr false))) (some (.inl (IntKind.i64.wrap (v5+1))))) (some (.inr (.inl ())))) FUEL 0).bind fun q=>match q with | .inl _=>some true | .inr e=>some e)
theorem qI {rec:Ze→Ze→Option Bool} (hrec:∀ {p0:Ze} {p1:Ze} {r:Bool},rec p0 p1=some r→PF 153 [.agg (aC p0),.agg (aC p1)] (pB r)) {p0:Ze} {p1:Ze} {r:Bool} (h:gW rec p0 p1=some r):PF 153 [.agg (aC p0),.agg (aC p1)] (pB r):=by
 unfold gW at h
 refine bd ?_
 refine dp Tryz.func153 rfl Tryz.ntmps153 Tryz.results153 rfl (cU rfl (bg (cs:=(aC p0)) rfl rfl (fun b1=>al rfl (bg (cs:=(aC p1)) rfl rfl (fun b2=>bc [4] (by kernel_rfl) (co (aa h fun x3 hx3 h=>aq [1,0,1,0,1,0,1,0,1,0,1,0,1,0] (rg 6 49) [(55,pB (((((((p0.Kind != p1.Kind)||(p0.Digits != p1.Digits))||(p0.Tolerance != p1.Tolerance))||(p0.Limit != p1.Limit))||(!decide (p0.Name=p1.Name)))||(!x3))||((p0.Args.length:Int) != (p1.Args.length:Int))))] (dK 38 (fun hc=>pT (cA hx3 hc)) bh) (by kernel_rfl) (cR rfl h (fun hc4 h=>?_) fun hc4 h=>?_))))))))
 ·refine ae ?_
  refine cZ [(4,pB false)] (by kernel_rfl) (ap ?_)
  exact zz r h rfl
 refine ah ?_
 refine co (aj [(5,pI 0)] (by kernel_rfl) (fa h fun q7 hq7 h=>?_))
 refine am (Y:=Unit×Unit) (fun (_,_)=>[]) (fun (_,_)=>[]) (fun (_,_)=>q7=Sum.inl ()) ?_ ?_
 ·refine aw ?_
  refine aB (Y:=Unit) (S:=Int) _ hq7 (fun _ v5=>[(2,pP b1 0),(3,pP b2 0),(5,pI v5)]) (fun _ v5=>[PRes.b b1 84 (aC p0),PRes.b b2 84 (aC p1)]) () (lM rfl) (ba (ar aJ) cg) ?_
  rintro _ v5 o τ hb6;(try dsimp only at hb6);dsimp only [au]
  refine cT (aM [0] [56,57,58,59] [(60,pB (decide (v5<(p0.Args.length:Int))))] (by kernel_rfl) (cR rfl hb6 (fun hc8 hb6=>?_) fun hc8 hb6=>?_))
  ·refine ah ?_
   refine dq (bj (ρd:=[]) [(0,0),(1,0),(2,0),(3,0),(4,0),(5,0),(6,0),(7,0),(8,0),(9,0),(10,1),(11,0)] _ (List.Perm.refl _) (by kernel_rfl) rfl (aa hb6 fun m9 hm9 hb6=>aa hb6 fun m10 hm10 hb6=>aa hb6 fun x11 hx11 hb6=>bv 12 [0,1] (rg 63 11) [(74,pB (!x11))] (pm 3 Ze.enc (Ze.enc_eq _) hm9 (pm 8 Ze.enc (Ze.enc_eq _) hm10 (bi 10 (hrec hx11) bh))) (by kernel_rfl) (bB (cR rfl hb6 (fun hc12 hb6=>?_) fun hc12 hb6=>?_))))
   ·refine ae ?_
    refine cZ [(4,pB false)] (by kernel_rfl) (dM ?_)
    refine az hb6 (fun ht=>?_);subst ht
    refine cS ?_
    exact zz r h rfl
   refine ah ?_
   refine dx (ai [61,62] [(5,pI (IntKind.i64.wrap (v5+1)))] (by kernel_rfl) ?_)
   exact aR hb6 () (lM rfl) mE
  refine aH ?_
  refine cd hb6 (fun ht=>ak rfl ?_)
  exact av ((),()) nC bz ht.symm
 rintro ⟨_,_⟩ τ hz;(try dsimp only at hz);subst q7;(try dsimp only at h);dsimp only [au]
 refine ae (cZ [(4,pB true)] (by kernel_rfl) ?_)
 exact zz r h rfl
def i6 (n:Nat):Ze→Ze→Option Bool:=Nat.rec (motive:=fun _=>Ze→Ze→Option Bool) (fun _ _=>none) (fun _ ih=>gW ih) n
def mZ (p0:Ze) (p1:Ze):Option Bool:=i6 FUEL p0 p1
theorem rn (n:Nat):∀ {p0:Ze} {p1:Ze} {r:Bool},i6 n p0 p1=some r→PF 153 [.agg (aC p0),.agg (aC p1)] (pB r):=by
 induction n with
 | zero=>intros;rename_i h;exact nomatch h
 | succ n ih=>intros;rename_i h;exact qI (fun hr=>ih hr) h
theorem rX {p0:Ze} {p1:Ze} {r:Bool} (h:mZ p0 p1=some r):PF 153 [.agg (aC p0),.agg (aC p1)] (pB r):=rn FUEL h
def iy (p0:(List Zi)) (p1:(List Zi)):Option Bool:=cond ((p0.length:Int) != (p1.length:Int)) (some false) ((aV (S:=Int) (T:=(Unit)⊕(_)) (fun v2=>cond (decide (v2<(p0.length:Int))) ((idx p0 v2).bind fun m6=>(idx p1 v2).bind fun m7=>(gd (!(!decide (m6.Prefix=m7.Prefix))) (idx p0 v2)).bind fun m8=>(gd (!(!decide (m6.Prefix=m7.Prefix))) (idx p1 v2)).bind fun m9=>(gd (!(!decide (m6.Prefix=m7.Prefix))) (mZ m8.Rule m9.Rule)).bind fun x10=>cond ((!decide (m6.Prefix=m7.Prefix))||(!x10)) (some (.inr (.inr false))) (some (.inl (IntKind.i64.wrap (v2+1))))) (some (.inr (.inl ())))) FUEL 0).bind fun q=>match q with | .inl _=>some true | .inr e=>some e)
theorem ro {p0:(List Zi)} {p1:(List Zi)} {r:Bool}  (h:iy p0 p1=some r):PF 104 [pL Zi.enc p0,pL Zi.enc p1] (pB r):=by
 unfold iy at h
 refine bd ?_
 refine dp Tryz.func104 rfl Tryz.ntmps104 Tryz.results104 rfl (aU [4] (by kernel_rfl) (co (bF [6,7,8,9] [(10,pB ((p0.length:Int) != (p1.length:Int)))] (by kernel_rfl) rfl h (fun hc1 h=>?_) fun hc1 h=>?_)))
 ·refine ae ?_
  refine cZ [(4,pB false)] (by kernel_rfl) (ap ?_)
  exact zz r h rfl
 refine ah ?_
 refine co (aj [(5,pI 0)] (by kernel_rfl) (fa h fun q4 hq4 h=>?_))
 refine am (Y:=Unit×Unit) (fun (_,_)=>[]) (fun (_,_)=>[]) (fun (_,_)=>q4=Sum.inl ()) ?_ ?_
 ·refine aw ?_
  refine aB (Y:=Unit) (S:=Int) _ hq4 (fun _ v2=>[(0,pL Zi.enc p0),(1,pL Zi.enc p1),(5,pI v2)]) (fun _ v2=>[]) () (lM rfl) bz ?_
  rintro _ v2 o τ hb3;(try dsimp only at hb3);dsimp only [au]
  refine cT (bF [11,12,13] [(14,pB (decide (v2<(p0.length:Int))))] (by kernel_rfl) rfl hb3 (fun hc5 hb3=>?_) fun hc5 hb3=>?_)
  ·refine ah ?_
   refine dq (bj (ρd:=[]) [(0,0),(1,0),(2,0),(3,0),(4,0),(5,0),(6,0),(7,0),(8,0),(9,0),(10,0),(11,0),(12,0),(13,0),(14,0),(15,0),(16,0),(17,0),(18,0),(19,0),(20,0),(21,0),(22,1),(23,0),(24,0)] _ (List.Perm.refl _) (by kernel_rfl) rfl (aa hb3 fun m6 hm6 hb3=>aa hb3 fun m7 hm7 hb3=>aa hb3 fun m8 hm8 hb3=>aa hb3 fun m9 hm9 hb3=>aa hb3 fun x10 hx10 hb3=>bv 25 [] (rg 17 24) [(41,pB ((!decide (m6.Prefix=m7.Prefix))||(!x10)))] (cr 2 Zi.enc hm6 (cr 7 Zi.enc hm7 (eG 14 Zi.enc (cA hm8) (eG 19 Zi.enc (cA hm9) (dK 22 (fun hc=>rX (cA hx10 hc)) bh))))) (by kernel_rfl) (bB (cR rfl hb3 (fun hc11 hb3=>?_) fun hc11 hb3=>?_))))
   ·refine ae ?_
    refine cZ [(4,pB false)] (by kernel_rfl) (dM ?_)
    refine az hb3 (fun ht=>?_);subst ht
    refine cS ?_
    exact zz r h rfl
   refine ah ?_
   refine dx (ai [15,16] [(5,pI (IntKind.i64.wrap (v2+1)))] (by kernel_rfl) ?_)
   exact aR hb3 () (lM rfl) bz
  refine aH ?_
  refine cd hb3 (fun ht=>ak rfl ?_)
  exact av ((),()) nC bz ht.symm
 rintro ⟨_,_⟩ τ hz;(try dsimp only at hz);subst q4;(try dsimp only at h);dsimp only [au]
 refine ae (cZ [(4,pB true)] (by kernel_rfl) ?_)
 exact zz r h rfl
def iU (p0:(List Zb)) (p1:Int) (p2:ByteArray) (p3:ByteArray):Option (List Int):=(fk p0 p1).bind fun x1=>cond (!x1.2) (some []) ((aV (S:=(List Int)×Int) (T:=((List Int))) (fun (l7,v10)=>cond ((decide (v10<(p0.length:Int)))&&(x1.1.Kind == 2)) (((idx p0 v10).bind fun m23=>(gd (m23.ID != p1) (iH m23.Parties p2)).bind fun x25=>(gd ((m23.ID != p1)&&x25) (iH m23.Parties p3)).bind fun x26=>(gd (((m23.ID != p1)&&x25)&&x26) (iy x1.1.Rules m23.Rules)).bind fun x27=>cond ((((m23.ID != p1)&&x25)&&x26)&&x27) ((app 8 l7 [m23.ID]).bind fun l31=>some l31) (some l7)).bind fun l21=>some (.inl (l21,(IntKind.i64.wrap (v10+1))))) (some (.inr l7))) FUEL ([p1],0)).bind fun l14=>some l14)
theorem rY {p0:(List Zb)} {p1:Int} {p2:ByteArray} {p3:ByteArray} {r:(List Int)}  (h:iU p0 p1 p2 p3=some r):PF 55 [pL Zb.enc p0,pI p1,pS p2,pS p3] (pL eI r):=by
 unfold iU at h
 refine bd ?_
 refine dp Tryz.func55 rfl Tryz.ntmps55 Tryz.results55 rfl (aU [8] (by kernel_rfl) (cN h fun x1 hx1 h=>af (aY 6 [] [15,16,17,14] [(18,.agg (aD x1.1)),(19,pB x1.2)] (bi 2 (jK hx1) bh) (by kernel_rfl) (al rfl (aN (cs:=[pI 0,pI 0,pN,pN]) rfl rfl rfl rfl (fun b2=>aS rfl rfl (an (vs:=(aD x1.1)) rfl rfl rfl rfl rfl cw yy (aI [(10,pB x1.2)] (by kernel_rfl) (co (bF [20] [(21,pB (!x1.2))] (by kernel_rfl) rfl h (fun hc3 h=>?_) fun hc3 h=>?_))))))))))
 ·refine ae ?_
  refine aj [(8,pN)] (by kernel_rfl) (aL (fz 8 rfl (bq (ap ?_))))
  exact zz r h rfl
 refine ah ?_
 refine ca (af (aF 1 [(22,pI p1)] (by kernel_rfl) (al rfl (bw rfl rfl rfl rfl rfl (fL rfl iP) rfl rfl rfl rfl (fun b4=>aI [(11,pO (some ⟨b4,0,none⟩) 1 1)] (by kernel_rfl) (co (aj [(12,pI 0)] (by kernel_rfl) (fa h fun q16 hq16 h=>?_))))))))
 refine am (Y:=(Option Addr×Nat)×((List Int))) (fun ((a12,c13),l14)=>[(11,pO a12 l14.length c13)]) (fun ((a12,c13),l14)=>[PRes.row a12 l14.length c13 3 1 (List.map eI l14)]) (fun ((a12,c13),l14)=>q16=l14) ?_ ?_
 ·refine aw ?_
  refine aB (Y:=Option Addr×Nat) (S:=(List Int)×Int) _ hq16 (fun (a8,c9) (l7,v10)=>[(0,pL Zb.enc p0),(1,pI p1),(2,pS p2),(3,pS p3),(9,pP b2 0),(11,pO a8 l7.length c9),(12,pI v10)]) (fun (a8,c9) (l7,v10)=>[PRes.b b2 81 (aD x1.1),PRes.row a8 l7.length c9 3 1 (List.map eI l7)]) ((some ⟨b4,0,none⟩),1) (qQ rfl) (ba (ar aJ) cg) ?_
  rintro ⟨a8,c9⟩ ⟨l7,v10⟩ o τ hb15;(try dsimp only at hb15);dsimp only [au]
  refine cT (aM [0] (rg 24 8) [(32,pB ((decide (v10<(p0.length:Int)))&&(x1.1.Kind == 2)))] (by kernel_rfl) (cR rfl hb15 (fun hc17 hb15=>?_) fun hc17 hb15=>?_))
  ·refine ah ?_
   refine cN hb15 fun q22 hq22 hb15=>?_
   refine am (Y:=(Option Addr×Nat)×((List Int))) (fun ((a19,c20),l21)=>[(0,pL Zb.enc p0),(1,pI p1),(2,pS p2),(3,pS p3),(9,pP b2 0),(11,pO a19 l21.length c20),(12,pI v10)]) (fun ((a19,c20),l21)=>[PRes.b b2 81 (aD x1.1),PRes.row a19 l21.length c20 3 1 (List.map eI l21)]) (fun ((a19,c20),l21)=>q22=l21) ?_ ?_
   ·skip
    refine nX (aa hq22 fun m23 hm23 hq22=>af (aY 4 [] [35,36,37] [(38,.agg (aD m23))] (cr 2 Zb.enc hm23 bh) (by kernel_rfl) (al rfl (aN (cs:=[pI 0,pI 0,pN,pN]) rfl rfl rfl rfl (fun b24=>aS rfl rfl (an (vs:=(aD m23)) rfl rfl rfl rfl rfl cw yy (aG (cN hq22 fun x25 hx25 hq22=>aa hq22 fun x26 hx26 hq22=>aa hq22 fun x27 hx27 hq22=>aq [0,0,0,1,0] (rg 39 22) [(61,pB ((((m23.ID != p1)&&x25)&&x26)&&x27))] (dK 8 (fun hc=>i5 (cA hx25 hc)) (dK 14 (fun hc=>i5 (cA hx26 hc)) (dK 21 (fun hc=>ro (cA hx27 hc)) bh))) (by kernel_rfl) (cR rfl hq22 (fun hc28 hq22=>?_) fun hc28 hq22=>?_)))))))))
    ·refine af ?_
     refine cj 3 [0] [63] [(62,pO a8 l7.length c9),(64,pI m23.ID)] (by kernel_rfl) (al rfl (bw rfl rfl rfl rfl rfl (fL rfl iP) rfl rfl rfl rfl (fun b29=>aa hq22 fun l31 hl31 hq22=>?_)))
     refine al rfl (bV (enc:=eI) rfl rfl rfl rfl rfl rfl rfl rfl rfl fy (by exact ar (ar (ar aJ))) hl31 (fun a32 c33=>?_))
     refine aI [(11,pO a32 l31.length c33)] (by kernel_rfl) (aA ?_)
     obtain rfl:=osi hq22
     exact av ((a32,c33),l31) (qQ rfl) (ba (ar (ar (ar aJ))) cg) rfl
    refine ah ?_
    refine aA ?_
    obtain rfl:=osi hq22
    exact av ((a8,c9),l7) (qQ rfl) (ba (ar aJ) (ba (ar aJ) bz)) rfl
   rintro ⟨⟨a19,c20⟩,l21⟩ τ hz;(try dsimp only at hz);subst q22;(try dsimp only at hb15);dsimp only [au]
   refine ai [33,34] [(12,pI (IntKind.i64.wrap (v10+1)))] (by kernel_rfl) ?_
   exact aR hb15 (a19,c20) (qQ rfl) mE
  refine aH ?_
  refine cd hb15 (fun ht=>ak rfl ?_)
  exact av ((a8,c9),l7) (qP rfl) (ba (ar aJ) bz) ht.symm
 rintro ⟨⟨a12,c13⟩,l14⟩ τ hz;(try dsimp only at hz);subst q16;(try dsimp only at h);dsimp only [au]
 refine ae (ai [67] [(8,pO a12 l14.length c13)] (by kernel_rfl) (aL ?_))
 refine dr (enc:=eI) (xs:=l14) 8 rfl (by exact aJ) ?_
 refine bq ?_
 exact zz r h rfl
def kU (p0:(List ByteArray)) (p1:ByteArray):Option (List ByteArray):=(aV (S:=Int) (T:=(ByteArray×Int)) (fun v1=>(gd (decide (v1<(p0.length:Int))) (idx p0 v1)).bind fun m6=>cond ((decide (v1<(p0.length:Int)))&&(Op.bytesLess m6.toList p1.toList)) (some (.inl (IntKind.i64.wrap (v1+1)))) (some (.inr (p1,v1)))) FUEL 0).bind fun (v2,v3)=>(gd (decide (v3<(p0.length:Int))) (idx p0 v3)).bind fun m8=>cond ((decide (v3<(p0.length:Int)))&&(decide (m8=v2))) (some p0) ((sub p0 0 v3).bind fun l10=>(sub p0 v3 (p0.length:Int)).bind fun l11=>(app 16 ([]:List ByteArray) l10).bind fun l14=>(app 16 l14 [v2]).bind fun l20=>(app 16 l20 l11).bind fun l24=>some l24)
theorem qT {p0:(List ByteArray)} {p1:ByteArray} {r:(List ByteArray)}  (h:kU p0 p1=some r):PF 105 [pL eS p0,pS p1] (pL eS r):=by
 unfold kU at h
 refine bd ?_
 refine dp Tryz.func105 rfl Tryz.ntmps105 Tryz.results105 rfl (aU [4] (by kernel_rfl) (ca (aj [(5,pI 0)] (by kernel_rfl) (cN h fun q5 hq5 h=>?_))))
 refine am (Y:=Unit×(ByteArray×Int)) (fun (_,(v2,v3))=>[(0,pL eS p0),(1,pS v2),(5,pI v3)]) (fun (_,(v2,v3))=>[]) (fun (_,(v2,v3))=>q5=(v2,v3)) ?_ ?_
 ·refine aw ?_
  refine aB (Y:=Unit) (S:=Int) _ hq5 (fun _ v1=>[(0,pL eS p0),(1,pS p1),(5,pI v1)]) (fun _ v1=>[]) () (lM rfl) bz ?_
  rintro _ v1 o τ hb4;(try dsimp only at hb4);dsimp only [au]
  refine cT (aa hb4 fun m6 hm6 hb4=>aq [] (rg 6 11) [(17,pB ((decide (v1<(p0.length:Int)))&&(Op.bytesLess m6.toList p1.toList)))] (eG 7 eS (cA hm6) bh) (by kernel_rfl) (cR rfl hb4 (fun hc7 hb4=>?_) fun hc7 hb4=>?_))
  ·refine ah ?_
   refine aL (aw (ai [18,19] [(5,pI (IntKind.i64.wrap (v1+1)))] (by kernel_rfl) (aA ?_)))
   exact aR hb4 () (lM rfl) bz
  refine aH ?_
  refine cd hb4 (fun ht=>ak rfl ?_)
  exact av ((),(p1,v1)) (lM rfl) bz ht.symm
 rintro ⟨_,⟨v2,v3⟩⟩ τ hz;(try dsimp only at hz);subst q5;(try dsimp only at h);dsimp only [au]
 refine cT (aa h fun m8 hm8 h=>aq [] (rg 20 11) [(31,pB ((decide (v3<(p0.length:Int)))&&(decide (m8=v2))))] (eG 7 eS (cA hm8) bh) (by kernel_rfl) (cR rfl h (fun hc9 h=>?_) fun hc9 h=>?_))
 ·refine ae ?_
  refine ai [32] [(4,pL eS p0)] (by kernel_rfl) (dm (ap ?_))
  exact zz r h rfl
 refine ah ?_
 refine ca (bj (ρd:=[]) [(1,0),(2,0),(3,0),(5,0),(6,3),(8,0),(9,0),(10,0),(0,1),(4,1),(6,2),(7,1),(11,1),(12,0)] _ (List.Perm.refl _) (by kernel_rfl) rfl (aa h fun l10 hl10 h=>bv 4 [] [34,35] [(36,pL eS l10),(38,pS v2)] (Ab 2 eS 1 (fun _=>rfl) hl10 bh) (by kernel_rfl) (zW (qu rfl rfl rfl rfl rfl (fL rfl iP) rfl rfl rfl) (aa h fun l11 hl11 h=>bv 3 [] [41,42] [(43,pL eS l11)] (Ab 2 eS 1 (fun _=>rfl) hl11 bh) (by kernel_rfl) (jc rfl rfl rfl (bw rfl rfl rfl rfl rfl iP rfl rfl rfl rfl (fun b12=>aa h fun l14 hl14 h=>?_)))))))
 refine jc rfl rfl rfl (gn (enc:=eS) rfl rfl rfl rfl rfl (fun _=>rfl) rfl rfl rfl (by exact aJ) hl14 (fun a15 c16=>?_))
 refine rS (qu rfl rfl rfl rfl rfl (fL rfl iP) rfl rfl rfl) (fun _=>rfl) rfl (fun b18=>aa h fun l20 hl20 h=>?_)
 refine jc rfl rfl rfl (zV (enc:=eS) rfl rfl rfl rfl rfl (fun _=>rfl) rfl rfl rfl rfl fy rfl (by exact ar aJ) hl20 (fun a21 c22=>?_))
 refine aa h fun l24 hl24 h=>?_
 refine jc rfl rfl rfl (gn (enc:=eS) rfl rfl rfl rfl rfl (fun _=>rfl) rfl rfl rfl (by exact aJ) hl24 (fun a25 c26=>?_))
 refine gS 1 [(4,pO a25 l24.length c26)] (by kernel_rfl) (bB (aL ?_))
 refine dr (enc:=eS) (xs:=l24) 4 rfl (by exact aJ) ?_
 refine bq ?_
 exact zz r h rfl
def jV (p0:(List ByteArray)) (p1:(List ByteArray)):Option (List ByteArray):=(aV (S:=(List ByteArray)×Int) (T:=((List ByteArray)×(List ByteArray))) (fun (l1,v2)=>cond (decide (v2<(p0.length:Int))) ((idx p0 v2).bind fun m8=>(kU l1 m8).bind fun x9=>some (.inl (x9,(IntKind.i64.wrap (v2+1))))) (some (.inr (p1,l1)))) FUEL ([],0)).bind fun (l3,l4)=>(aV (S:=(List ByteArray)×Int) (T:=((List ByteArray))) (fun (l10,v11)=>cond (decide (v11<(l3.length:Int))) ((idx l3 v11).bind fun m16=>(kU l10 m16).bind fun x17=>some (.inl (x17,(IntKind.i64.wrap (v11+1))))) (some (.inr l10))) FUEL (l4,0)).bind fun l12=>some l12
theorem vu {p0:(List ByteArray)} {p1:(List ByteArray)} {r:(List ByteArray)}  (h:jV p0 p1=some r):PF 57 [pL eS p0,pL eS p1] (pL eS r):=by
 unfold jV at h
 refine bd ?_
 refine dp Tryz.func57 rfl Tryz.ntmps57 Tryz.results57 rfl (aU [4] (by kernel_rfl) (ca (aj [(5,pN)] (by kernel_rfl) (co (aj [(6,pI 0)] (by kernel_rfl) (aL (fz 5 rfl (aa h fun q6 hq6 h=>?_))))))))
 refine am (Y:=Unit×((List ByteArray)×(List ByteArray))) (fun (_,(l3,l4))=>[(1,pL eS l3),(5,pL eS l4)]) (fun (_,(l3,l4))=>[]) (fun (_,(l3,l4))=>q6=(l3,l4)) ?_ ?_
 ·refine aw ?_
  refine aB (Y:=Unit) (S:=(List ByteArray)×Int) _ hq6 (fun _ (l1,v2)=>[(0,pL eS p0),(1,pL eS p1),(5,pL eS l1),(6,pI v2)]) (fun _ (l1,v2)=>[]) () (iq rfl) bz ?_
  rintro _ ⟨l1,v2⟩ o τ hb5;(try dsimp only at hb5);dsimp only [au]
  refine cT (bF [8,9,10] [(11,pB (decide (v2<(p0.length:Int))))] (by kernel_rfl) rfl hb5 (fun hc7 hb5=>?_) fun hc7 hb5=>?_)
  ·refine ah ?_
   refine ca (aw (aa hb5 fun m8 hm8 hb5=>aa hb5 fun x9 hx9 hb5=>aq [] (rg 14 6) [(5,pL eS x9)] (cr 3 eS hm8 (bi 5 (qT hx9) bh)) (by kernel_rfl) (dx (ai [12,13] [(6,pI (IntKind.i64.wrap (v2+1)))] (by kernel_rfl) ?_))))
   exact aR hb5 () (iq rfl) bz
  refine aH ?_
  refine cd hb5 (fun ht=>ak rfl ?_)
  exact av ((),(p1,l1)) (lL rfl) bz ht.symm
 rintro ⟨_,⟨l3,l4⟩⟩ τ hz;(try dsimp only at hz);subst q6;(try dsimp only at h);dsimp only [au]
 refine cT (aj [(7,pI 0)] (by kernel_rfl) (fa h fun q14 hq14 h=>?_))
 refine am (Y:=Unit×((List ByteArray))) (fun (_,l12)=>[(5,pL eS l12)]) (fun (_,l12)=>[]) (fun (_,l12)=>q14=l12) ?_ ?_
 ·refine aw ?_
  refine aB (Y:=Unit) (S:=(List ByteArray)×Int) _ hq14 (fun _ (l10,v11)=>[(1,pL eS l3),(5,pL eS l10),(7,pI v11)]) (fun _ (l10,v11)=>[]) () (lM rfl) bz ?_
  rintro _ ⟨l10,v11⟩ o τ hb13;(try dsimp only at hb13);dsimp only [au]
  refine cT (bF [20,21,22] [(23,pB (decide (v11<(l3.length:Int))))] (by kernel_rfl) rfl hb13 (fun hc15 hb13=>?_) fun hc15 hb13=>?_)
  ·refine ah ?_
   refine ca (aw (aa hb13 fun m16 hm16 hb13=>aa hb13 fun x17 hx17 hb13=>aq [] (rg 26 6) [(5,pL eS x17)] (cr 3 eS hm16 (bi 5 (qT hx17) bh)) (by kernel_rfl) (dx (ai [24,25] [(7,pI (IntKind.i64.wrap (v11+1)))] (by kernel_rfl) ?_))))
   exact aR hb13 () (lM rfl) bz
  refine aH ?_
  refine cd hb13 (fun ht=>ak rfl ?_)
  exact av ((),l10) (qP rfl) bz ht.symm
 rintro ⟨_,l12⟩ τ hz;(try dsimp only at hz);subst q14;(try dsimp only at h);dsimp only [au]
 refine ae (ai [32] [(4,pL eS l12)] (by kernel_rfl) (dm ?_))
 exact zz r h rfl
def dF (p0:(List Za)) (p1:Za):Option Bool:=(aV (S:=Int) (T:=(Unit)⊕(_)) (fun v2=>cond (decide (v2<(p0.length:Int))) ((idx p0 v2).bind fun m6=>cond (Za.eqb m6 p1) (some (.inr (.inr true))) (some (.inl (IntKind.i64.wrap (v2+1))))) (some (.inr (.inl ())))) FUEL 0).bind fun q=>match q with | .inl _=>some false | .inr e=>some e
theorem kq {p0:(List Za)} {p1:Za} {r:Bool}  (h:dF p0 p1=some r):PF 68 [pL Za.enc p0,.agg [pI p1.Product,pI p1.Agreement]] (pB r):=by
 unfold dF at h
 refine bd ?_
 refine dp Tryz.func68 rfl Tryz.ntmps68 Tryz.results68 rfl (cU rfl (bg (cs:=[pI p1.Product,pI p1.Agreement]) rfl rfl (fun b1=>bc [4] (by kernel_rfl) (co (aj [(5,pI 0)] (by kernel_rfl) (fa h fun q4 hq4 h=>?_))))))
 refine am (Y:=Unit×Unit) (fun (_,_)=>[]) (fun (_,_)=>[]) (fun (_,_)=>q4=Sum.inl ()) ?_ ?_
 ·refine aw ?_
  refine aB (Y:=Unit) (S:=Int) _ hq4 (fun _ v2=>[(0,pL Za.enc p0),(3,pP b1 0),(5,pI v2)]) (fun _ v2=>[PRes.b b1 28 [pI p1.Product,pI p1.Agreement]]) () (lM rfl) cg ?_
  rintro _ v2 o τ hb3;(try dsimp only at hb3);dsimp only [au]
  refine cT (bF [6,7,8] [(9,pB (decide (v2<(p0.length:Int))))] (by kernel_rfl) rfl hb3 (fun hc5 hb3=>?_) fun hc5 hb3=>?_)
  ·refine ah ?_
   refine dq (bj (ρd:=[]) [(0,0),(1,0),(2,0),(3,0),(4,0),(5,0)] _ (List.Perm.refl _) (by kernel_rfl) rfl (aa hb3 fun m6 hm6 hb3=>bv 6 [0] (rg 12 5) [(17,pB (Za.eqb m6 p1))] (cr 2 Za.enc hm6 (yC 5 Za.eqok28 bh)) (by kernel_rfl) (bB (cR rfl hb3 (fun hc7 hb3=>?_) fun hc7 hb3=>?_))))
   ·refine ae ?_
    refine cZ [(4,pB true)] (by kernel_rfl) (dM ?_)
    refine az hb3 (fun ht=>?_);subst ht
    refine cS ?_
    exact zz r h rfl
   refine ah ?_
   refine dx (ai [10,11] [(5,pI (IntKind.i64.wrap (v2+1)))] (by kernel_rfl) ?_)
   exact aR hb3 () (lM rfl) cg
  refine aH ?_
  refine cd hb3 (fun ht=>ak rfl ?_)
  exact av ((),()) nC bz ht.symm
 rintro ⟨_,_⟩ τ hz;(try dsimp only at hz);subst q4;(try dsimp only at h);dsimp only [au]
 refine ae (cZ [(4,pB false)] (by kernel_rfl) ?_)
 exact zz r h rfl
def iI (p0:(List Int)) (p1:Int) (p2:(List Za)):Option (Za×Bool):=(aV (S:=Int) (T:=(Unit)⊕(_)) (fun v2=>cond (decide (v2<(p0.length:Int))) ((idx p0 v2).bind fun m6=>(dF p2 (⟨p1,m6⟩:Za)).bind fun x8=>cond x8 (some (.inr (.inr ((⟨p1,m6⟩:Za),true)))) (some (.inl (IntKind.i64.wrap (v2+1))))) (some (.inr (.inl ())))) FUEL 0).bind fun q=>match q with | .inl _=>some ((⟨0,0⟩:Za),false) | .inr e=>some e
theorem n9 {p0:(List Int)} {p1:Int} {p2:(List Za)} {r:(Za×Bool)}  (h:iI p0 p1 p2=some r):PF 58 [pL eI p0,pI p1,pL Za.enc p2] (.tup [.agg [pI r.1.Product,pI r.1.Agreement],pB r.2]):=by
 unfold iI at h
 refine bd ?_
 refine dp Tryz.func58 rfl Tryz.ntmps58 Tryz.results58 rfl (cU rfl (aN (cs:=[pI 0,pI 0]) rfl rfl rfl rfl (fun b1=>bc [7] (by kernel_rfl) (co (aj [(8,pI 0)] (by kernel_rfl) (fa h fun q4 hq4 h=>?_))))))
 refine am (Y:=Unit×Unit) (fun (_,_)=>[(6,pP b1 0)]) (fun (_,_)=>[PRes.b b1 28 [pI 0,pI 0]]) (fun (_,_)=>q4=Sum.inl ()) ?_ ?_
 ·refine aw ?_
  refine aB (Y:=Unit) (S:=Int) _ hq4 (fun _ v2=>[(0,pL eI p0),(1,pI p1),(2,pL Za.enc p2),(6,pP b1 0),(8,pI v2)]) (fun _ v2=>[PRes.b b1 28 [pI 0,pI 0]]) () (lP rfl) cg ?_
  rintro _ v2 o τ hb3;(try dsimp only at hb3);dsimp only [au]
  refine cT (bF [10,11,12] [(13,pB (decide (v2<(p0.length:Int))))] (by kernel_rfl) rfl hb3 (fun hc5 hb3=>?_) fun hc5 hb3=>?_)
  ·refine ah ?_
   refine dq (aa hb3 fun m6 hm6 hb3=>af (aY 6 [] (rg 16 5) [(21,.agg [pI p1,pI m6])] (cr 3 eI hm6 bh) (by kernel_rfl) (al rfl (aN (cs:=[pI 0,pI 0]) rfl rfl rfl rfl (fun b7=>aS rfl rfl (an (vs:=[pI p1,pI m6]) rfl rfl rfl rfl rfl cw re (aG (cN hb3 fun x8 hx8 hb3=>aq [0] [22,23] [(24,pB x8)] (bi 2 (kq hx8) bh) (by kernel_rfl) (cR rfl hb3 (fun hc9 hb3=>?_) fun hc9 hb3=>?_)))))))))
   ·refine ae ?_
    refine af (fu 1 [0] [(25,.agg [pI p1,pI m6])] (by kernel_rfl) (aS rfl rfl (an (vs:=[pI p1,pI m6]) rfl rfl rfl rfl rfl (dl cw) re (aI [(7,pB true)] (by kernel_rfl) (dm (dM ?_))))))
    refine az hb3 (fun ht=>?_);subst ht
    refine cS ?_
    obtain rfl:=osi h
    exact aP (cD (dV rfl u3 rfl) (aO rfl)) bz ⟨rfl,rfl⟩
   refine ah ?_
   refine dx (ai [14,15] [(8,pI (IntKind.i64.wrap (v2+1)))] (by kernel_rfl) ?_)
   exact aR hb3 () (lP rfl) (ba (ar aJ) bz)
  refine aH ?_
  refine cd hb3 (fun ht=>ak rfl ?_)
  exact av ((),()) (qP rfl) cg ht.symm
 rintro ⟨_,_⟩ τ hz;(try dsimp only at hz);subst q4;(try dsimp only at h);dsimp only [au]
 refine ae (af (aF 1 [(26,.agg [pI 0,pI 0])] (by kernel_rfl) (aS rfl rfl (an (vs:=[pI 0,pI 0]) rfl rfl rfl rfl rfl cw re (aI [(7,pB false)] (by kernel_rfl) (dm ?_))))))
 obtain rfl:=osi h
 exact aP (cD (dV rfl fy rfl) (aO rfl)) bz ⟨rfl,rfl⟩
def kV (p0:Za) (p1:Za):Option Bool:=some ((decide (p0.Product<p1.Product))||((p0.Product == p1.Product)&&(decide (p0.Agreement<p1.Agreement))))
theorem wH {p0:Za} {p1:Za} {r:Bool}  (h:kV p0 p1=some r):PF 106 [.agg [pI p0.Product,pI p0.Agreement],.agg [pI p1.Product,pI p1.Agreement]] (pB r):=by
 unfold kV at h
 refine bd ?_
 refine dp Tryz.func106 rfl Tryz.ntmps106 Tryz.results106 rfl (cU rfl (bg (cs:=[pI p0.Product,pI p0.Agreement]) rfl rfl (fun b1=>al rfl (bg (cs:=[pI p1.Product,pI p1.Agreement]) rfl rfl (fun b2=>bc [4] (by kernel_rfl) (ca (aM [1,0,1,0,1,0] (rg 5 19) [(4,pB ((decide (p0.Product<p1.Product))||((p0.Product == p1.Product)&&(decide (p0.Agreement<p1.Agreement)))))] (by kernel_rfl) (dm ?_))))))))
 exact zz r h rfl
def fS (p0:(List Za)) (p1:Za):Option (List Za):=(dF p0 p1).bind fun x2=>cond x2 (some p0) ((aV (S:=Int) (T:=(Int)) (fun v4=>(gd (decide (v4<(p0.length:Int))) (idx p0 v4)).bind fun m8=>(gd (decide (v4<(p0.length:Int))) (kV m8 p1)).bind fun x9=>cond ((decide (v4<(p0.length:Int)))&&x9) (some (.inl (IntKind.i64.wrap (v4+1)))) (some (.inr v4))) FUEL 0).bind fun v5=>(sub p0 0 v5).bind fun l11=>(sub p0 v5 (p0.length:Int)).bind fun l12=>(app 16 ([]:List Za) l11).bind fun l15=>(app 16 l15 [p1]).bind fun l21=>(app 16 l21 l12).bind fun l25=>some l25)
theorem nI {p0:(List Za)} {p1:Za} {r:(List Za)}  (h:fS p0 p1=some r):PF 59 [pL Za.enc p0,.agg [pI p1.Product,pI p1.Agreement]] (pL Za.enc r):=by
 unfold fS at h
 refine bd ?_
 refine dp Tryz.func59 rfl Tryz.ntmps59 Tryz.results59 rfl (cU rfl (bg (cs:=[pI p1.Product,pI p1.Agreement]) rfl rfl (fun b1=>bc [4] (by kernel_rfl) (co (aa h fun x2 hx2 h=>aq [0] [6,7] [(8,pB x2)] (bi 2 (kq hx2) bh) (by kernel_rfl) (cR rfl h (fun hc3 h=>?_) fun hc3 h=>?_))))))
 ·refine ae ?_
  refine ai [9] [(4,pL Za.enc p0)] (by kernel_rfl) (dm (ap ?_))
  exact zz r h rfl
 refine ah ?_
 refine ca (aj [(5,pI 0)] (by kernel_rfl) (cN h fun q7 hq7 h=>?_))
 refine am (Y:=Unit×Int) (fun (_,v5)=>[(0,pL Za.enc p0),(3,pP b1 0),(5,pI v5)]) (fun (_,v5)=>[PRes.b b1 28 [pI p1.Product,pI p1.Agreement]]) (fun (_,v5)=>q7=v5) ?_ ?_
 ·refine aw ?_
  refine aB (Y:=Unit) (S:=Int) _ hq7 (fun _ v4=>[(0,pL Za.enc p0),(3,pP b1 0),(5,pI v4)]) (fun _ v4=>[PRes.b b1 28 [pI p1.Product,pI p1.Agreement]]) () (lM rfl) cg ?_
  rintro _ v4 o τ hb6;(try dsimp only at hb6);dsimp only [au]
  refine cT (bj (ρd:=[]) [(0,0),(1,0),(2,0),(3,0),(4,0),(5,0),(6,0),(7,0),(8,0),(9,0),(10,1),(11,0)] _ (List.Perm.refl _) (by kernel_rfl) rfl (aa hb6 fun m8 hm8 hb6=>aa hb6 fun x9 hx9 hb6=>bv 12 [0] (rg 10 11) [(21,pB ((decide (v4<(p0.length:Int)))&&x9))] (eG 7 Za.enc (cA hm8) (dK 10 (fun hc=>wH (cA hx9 hc)) bh)) (by kernel_rfl) (bB (cR rfl hb6 (fun hc10 hb6=>?_) fun hc10 hb6=>?_))))
  ·refine ah ?_
   refine aL (aw (ai [22,23] [(5,pI (IntKind.i64.wrap (v4+1)))] (by kernel_rfl) (aA ?_)))
   exact aR hb6 () (lM rfl) cg
  refine aH ?_
  refine cd hb6 (fun ht=>ak rfl ?_)
  exact av ((),v4) (lM rfl) cg ht.symm
 rintro ⟨_,v5⟩ τ hz;(try dsimp only at hz);subst q7;(try dsimp only at h);dsimp only [au]
 refine ae (bj (ρd:=[]) [(1,0),(2,0),(3,0),(5,0),(6,3),(8,0),(9,0),(10,0),(0,1),(4,1),(6,2),(7,1),(11,1),(12,0)] _ (List.Perm.refl _) (by kernel_rfl) rfl (aa h fun l11 hl11 h=>bv 4 [0] [25,26] [(27,pL Za.enc l11),(29,.agg [pI p1.Product,pI p1.Agreement])] (Ab 2 Za.enc 2 (fun _=>rfl) hl11 bh) (by kernel_rfl) (zW (qu rfl rfl rfl rfl rfl (fL rfl iP) rfl rfl rfl) (aa h fun l12 hl12 h=>bv 3 [] [32,33] [(34,pL Za.enc l12)] (Ab 2 Za.enc 2 (fun _=>rfl) hl12 bh) (by kernel_rfl) (jc rfl rfl rfl (bw rfl rfl rfl rfl rfl iP rfl rfl rfl rfl (fun b13=>aa h fun l15 hl15 h=>?_)))))))
 refine jc rfl rfl rfl (gn (enc:=Za.enc) rfl rfl rfl rfl rfl (fun _=>rfl) rfl rfl rfl (by exact aJ) hl15 (fun a16 c17=>?_))
 refine rS (qu rfl rfl rfl rfl rfl (fL rfl iP) rfl rfl rfl) (fun _=>rfl) rfl (fun b19=>aa h fun l21 hl21 h=>?_)
 refine jc rfl rfl rfl (zV (enc:=Za.enc) rfl rfl rfl rfl rfl (fun _=>rfl) rfl rfl rfl rfl fy rfl (by exact ar aJ) hl21 (fun a22 c23=>?_))
 refine aa h fun l25 hl25 h=>?_
 refine jc rfl rfl rfl (gn (enc:=Za.enc) rfl rfl rfl rfl rfl (fun _=>rfl) rfl rfl rfl (by exact aJ) hl25 (fun a26 c27=>?_))
 refine gS 1 [(4,pO a26 l25.length c27)] (by kernel_rfl) (bB (aL ?_))
 refine dr (enc:=Za.enc) (xs:=l25) 4 rfl (by exact aJ) ?_
 refine bq ?_
 exact zz r h rfl
def gX (p0:Zm) (p1:Zm):Option (Zm×Bool):=Option.bind (cond (decide ((IntKind.u64.wrap (p0.Lo+p1.Lo))<p0.Lo)) (lb ((IntKind.u64.wrap ((IntKind.u64.wrap (p0.Hi+p1.Hi))+1))) (fun w8=>some (w8,((decide ((IntKind.u64.wrap (p0.Hi+p1.Hi))<p0.Hi))||(w8 == 0))))) (some ((IntKind.u64.wrap (p0.Hi+p1.Hi)),(decide ((IntKind.u64.wrap (p0.Hi+p1.Hi))<p0.Hi))))) (fun (v4,v5)=>some ((⟨v4,(IntKind.u64.wrap (p0.Lo+p1.Lo))⟩:Zm),v5))
theorem my {p0:Zm} {p1:Zm} {r:(Zm×Bool)}  (h:gX p0 p1=some r):PF 155 [.agg [pU p0.Hi,pU p0.Lo],.agg [pU p1.Hi,pU p1.Lo]] (.tup [.agg [pU r.1.Hi,pU r.1.Lo],pB r.2]):=by
 unfold gX at h
 refine bd ?_
 refine dp Tryz.func155 rfl Tryz.ntmps155 Tryz.results155 rfl (cU rfl (bg (cs:=[pU p0.Hi,pU p0.Lo]) rfl rfl (fun b1=>al rfl (bg (cs:=[pU p1.Hi,pU p1.Lo]) rfl rfl (fun b2=>al rfl (aN (cs:=[pU 0,pU 0]) rfl rfl rfl rfl (fun b3=>bc [5] (by kernel_rfl) (ca (bj (ρd:=[]) [(0,0),(1,0),(2,0),(3,0),(4,0),(5,0),(6,0),(7,0),(8,0),(9,0),(10,0),(11,0)] _ (List.Perm.refl _) (by kernel_rfl) rfl (vr 12 [2,1,2,1] (rg 9 10) [(6,pU (IntKind.u64.wrap (p0.Lo+p1.Lo))),(7,pU (IntKind.u64.wrap (p0.Hi+p1.Hi)))] (by kernel_rfl) (bB (ca (aM [2] [19,20,21,22] [(8,pB (decide ((IntKind.u64.wrap (p0.Hi+p1.Hi))<p0.Hi)))] (by kernel_rfl) (co (aM [2] [23,24,25] [(26,pB (decide ((IntKind.u64.wrap (p0.Lo+p1.Lo))<p0.Lo)))] (by kernel_rfl) (fa h fun q6 hq6 h=>?_))))))))))))))))
 refine am (Y:=Unit×(Int×Bool)) (fun (_,(v4,v5))=>[(4,pP b3 0),(6,pU (IntKind.u64.wrap (p0.Lo+p1.Lo))),(7,pU v4),(8,pB v5)]) (fun (_,(v4,v5))=>[PRes.b b3 167 [pU 0,pU 0]]) (fun (_,(v4,v5))=>q6=(v4,v5)) ?_ ?_
 ·skip
  refine jG rfl hq6 (fun hc7 hq6=>?_) fun hc7 hq6=>?_
  ·refine ae ?_
   refine eV hq6 ?_;clear hq6;intro w8 hw8 hq6
   refine af (cB 2 [27] [(28,pU (IntKind.u64.wrap ((IntKind.u64.wrap (p0.Hi+p1.Hi))+1)))] (by kernel_rfl) (bx rfl rfl rfl (bD rfl (.p (congrArg (fun z=>PV.v (Value.int .u64 z)) hw8))) (aG (aL (ai (rg 29 5) [(8,pB ((decide ((IntKind.u64.wrap (p0.Hi+p1.Hi))<p0.Hi))||(w8 == 0)))] (by kernel_rfl) ?_)))))
   obtain rfl:=osi hq6
   exact av ((),(w8,((decide ((IntKind.u64.wrap (p0.Hi+p1.Hi))<p0.Hi))||(w8 == 0)))) (iq rfl) cg rfl
  refine ah ?_
  obtain rfl:=osi hq6
  exact av ((),((IntKind.u64.wrap (p0.Hi+p1.Hi)),(decide ((IntKind.u64.wrap (p0.Hi+p1.Hi))<p0.Hi)))) (iq rfl) cg rfl
 rintro ⟨_,⟨v4,v5⟩⟩ τ hz;(try dsimp only at hz);subst q6;(try dsimp only at h);dsimp only [au]
 refine ae (af (cB 4 [34,35] [(36,.agg [pU v4,pU (IntKind.u64.wrap (p0.Lo+p1.Lo))]),(37,pB v5)] (by kernel_rfl) (aS rfl rfl (an (vs:=[pU v4,pU (IntKind.u64.wrap (p0.Lo+p1.Lo))]) rfl rfl rfl rfl rfl cw re (aI [(5,pB v5)] (by kernel_rfl) (dm ?_))))))
 obtain rfl:=osi h
 exact aP (cD (dV rfl fy rfl) (aO rfl)) bz ⟨rfl,rfl⟩
def kr (p0:Zm) (p1:Int):Option (Zm×Int):=(aV (S:=Int×Int×Int×Int) (T:=(Int×Int×Int)) (fun (v4,v5,v6,v7)=>cond (decide (0≤v5)) (((lw (dw .i64 v5 63)).bind fun u18=>lb ((dw .u64 (cC .u64 p0.Lo (dw .i64 v5 63)) 1)) (fun w19=>Option.bind (cond (decide (63<v5)) ((lw (IntKind.i64.wrap (v5 - 64))).bind fun u23=>lb ((dw .u64 (cC .u64 p0.Hi (IntKind.i64.wrap (v5 - 64))) 1)) (fun w24=>some w24)) (some w19)) (fun v20=>(gX (⟨v6,v7⟩:Zm) (⟨v6,v7⟩:Zm)).bind fun x25=>cond (((cC .u64 v4 63) == 1)||(decide (p1≤(ow .u64 (fB .u64 v4 1) v20)))) (lb ((IntKind.u64.wrap ((ow .u64 (fB .u64 v4 1) v20) - p1))) (fun w27=>some (w27,x25.1.Hi,(ow .u64 x25.1.Lo 1)))) (some ((ow .u64 (fB .u64 v4 1) v20),x25.1.Hi,x25.1.Lo))))).bind fun (v14,v15,v16)=>some (.inl (v14,(IntKind.i64.wrap (v5 - 1)),v15,v16))) (some (.inr (v4,v6,v7)))) FUEL (0,127,0,0)).bind fun (v8,v9,v10)=>some ((⟨v9,v10⟩:Zm),v8)
theorem tT {p0:Zm} {p1:Int} {r:(Zm×Int)}  (h:kr p0 p1=some r):PF 154 [.agg [pU p0.Hi,pU p0.Lo],pU p1] (.tup [.agg [pU r.1.Hi,pU r.1.Lo],pU r.2]):=by
 unfold kr at h
 refine bd ?_
 refine dp Tryz.func154 rfl Tryz.ntmps154 Tryz.results154 rfl (cU rfl (bg (cs:=[pU p0.Hi,pU p0.Lo]) rfl rfl (fun b1=>al rfl (aN (cs:=[pU 0,pU 0]) rfl rfl rfl rfl (fun b2=>bc [5] (by kernel_rfl) (ca (af (aF 1 [(11,.agg [pU 0,pU 0])] (by kernel_rfl) (al rfl (aN (cs:=[pU 0,pU 0]) rfl rfl rfl rfl (fun b3=>aS rfl rfl (an (vs:=[pU 0,pU 0]) rfl rfl rfl rfl rfl cw re (aI [(7,pU 0)] (by kernel_rfl) (co (aj [(8,pI 127)] (by kernel_rfl) (fa h fun q12 hq12 h=>?_))))))))))))))))
 refine am (Y:=Unit×(Int×Int×Int)) (fun (_,(v8,v9,v10))=>[(4,pP b2 0),(6,pP b3 0),(7,pU v8)]) (fun (_,(v8,v9,v10))=>[PRes.b b2 167 [pU 0,pU 0],PRes.b b3 167 [pU v9,pU v10]]) (fun (_,(v8,v9,v10))=>q12=(v8,v9,v10)) ?_ ?_
 ·refine aw ?_
  refine aB (Y:=Unit) (S:=Int×Int×Int×Int) _ hq12 (fun _ (v4,v5,v6,v7)=>[(1,pU p1),(2,pP b1 0),(4,pP b2 0),(6,pP b3 0),(7,pU v4),(8,pI v5)]) (fun _ (v4,v5,v6,v7)=>[PRes.b b1 167 [pU p0.Hi,pU p0.Lo],PRes.b b2 167 [pU 0,pU 0],PRes.b b3 167 [pU v6,pU v7]]) () (qG rfl) (ba (ar (ar aJ)) (ba (ar aJ) cg)) ?_
  rintro _ ⟨v4,v5,v6,v7⟩ o τ hb11;(try dsimp only at hb11);dsimp only [au]
  refine cT (bF [12] [(13,pB (decide (0≤v5)))] (by kernel_rfl) rfl hb11 (fun hc13 hb11=>?_) fun hc13 hb11=>?_)
  ·refine ah ?_
   refine cN hb11 fun q17 hq17 hb11=>?_
   refine am (Y:=Unit×(Int×Int×Int)) (fun (_,(v14,v15,v16))=>[(1,pU p1),(2,pP b1 0),(4,pP b2 0),(6,pP b3 0),(7,pU v14),(8,pI v5)]) (fun (_,(v14,v15,v16))=>[PRes.b b1 167 [pU p0.Hi,pU p0.Lo],PRes.b b2 167 [pU 0,pU 0],PRes.b b3 167 [pU v15,pU v16]]) (fun (_,(v14,v15,v16))=>q17=(v14,v15,v16)) ?_ ?_
   ·skip
    refine nX (aa hq17 fun u18 hu18 hq17=>?_)
    refine eV hq17 ?_;clear hq17;intro w19 hw19 hq17
    refine af (aY 6 [0] (rg 16 5) [(21,pU (dw .u64 (cC .u64 p0.Lo (dw .i64 v5 63)) 1))] (tP 4 hu18 bh) (by kernel_rfl) (bx rfl rfl rfl (bD rfl (.p (congrArg (fun z=>PV.v (Value.int .u64 z)) hw19))) (aG (co (ai [22] [(23,pB (decide (63<v5)))] (by kernel_rfl) (fa hq17 fun q21 hq21 hq17=>?_))))))
    refine am (Y:=Unit×Int) (fun (_,v20)=>[(1,pU p1),(2,pP b1 0),(4,pP b2 0),(6,pP b3 0),(7,pU v4),(8,pI v5),(9,pU v20)]) (fun (_,v20)=>[PRes.b b1 167 [pU p0.Hi,pU p0.Lo],PRes.b b2 167 [pU 0,pU 0],PRes.b b3 167 [pU v6,pU v7]]) (fun (_,v20)=>q21=v20) ?_ ?_
    ·skip
     refine jG rfl hq21 (fun hc22 hq21=>?_) fun hc22 hq21=>?_
     ·refine aa hq21 ?_;clear hq21;intro u23 hu23 hq21
      refine eV hq21 ?_;clear hq21;intro w24 hw24 hq21
      refine af (aY 6 [0] (rg 24 5) [(29,pU (dw .u64 (cC .u64 p0.Hi (IntKind.i64.wrap (v5 - 64))) 1))] (tP 4 hu23 bh) (by kernel_rfl) (bx rfl rfl rfl (bD rfl (.p (congrArg (fun z=>PV.v (Value.int .u64 z)) hw24))) (aG ?_)))
      obtain rfl:=osi hq21
      exact av ((),w24) (qQ rfl) Cz rfl
     refine ah ?_
     obtain rfl:=osi hq21
     exact av ((),w19) (qQ rfl) Cz rfl
    rintro ⟨_,v20⟩ τ hz;(try dsimp only at hz);subst q21;(try dsimp only at hq17);dsimp only [au]
    refine ae (ai [30,31] [(10,pU (cC .u64 v4 63))] (by kernel_rfl) (ca (ai [32,33,34,35] [(7,pU (ow .u64 (fB .u64 v4 1) v20))] (by kernel_rfl) (cN hq17 fun x25 hx25 hq17=>af (aY 6 [2,2] [37,38,39,36,41] [(40,.agg [pU x25.1.Hi,pU x25.1.Lo])] (bi 2 (my hx25) bh) (by kernel_rfl) (aS rfl rfl (an (vs:=[pU x25.1.Hi,pU x25.1.Lo]) rfl rfl rfl rfl rfl (dl (dl cw)) re (aG (ca (bF (rg 42 6) [(48,pB (((cC .u64 v4 63) == 1)||(decide (p1≤(ow .u64 (fB .u64 v4 1) v20)))))] (by kernel_rfl) rfl hq17 (fun hc26 hq17=>?_) fun hc26 hq17=>?_))))))))))
    ·refine ae ?_
     refine eV hq17 ?_;clear hq17;intro w27 hw27 hq17
     refine af (cB 3 [49,50] [(51,pU (IntKind.u64.wrap ((ow .u64 (fB .u64 v4 1) v20) - p1)))] (by kernel_rfl) (bx rfl rfl rfl (bD rfl (.p (congrArg (fun z=>PV.v (Value.int .u64 z)) hw27))) (aG (aL (af (cj 4 [2] [52,53] [(54,pU (ow .u64 x25.1.Lo 1)),(55,pP b3 1)] (by kernel_rfl) (aS rfl rfl (an (vs:=[pU (ow .u64 x25.1.Lo 1)]) rfl rfl rfl rfl rfl (dl (dl cw)) (dZ nD) (aG (aA ?_))))))))))
     obtain rfl:=osi hq17
     exact av ((),(w27,x25.1.Hi,(ow .u64 x25.1.Lo 1))) (qG rfl) Cz rfl
    refine ah ?_
    refine aA ?_
    obtain rfl:=osi hq17
    exact av ((),((ow .u64 (fB .u64 v4 1) v20),x25.1.Hi,x25.1.Lo)) (qG rfl) Cz rfl
   rintro ⟨_,⟨v14,v15,v16⟩⟩ τ hz;(try dsimp only at hz);subst q17;(try dsimp only at hb11);dsimp only [au]
   refine ai [14,15] [(8,pI (IntKind.i64.wrap (v5 - 1)))] (by kernel_rfl) ?_
   exact aR hb11 () (qG rfl) Cz
  refine aH ?_
  refine cd hb11 (fun ht=>ak rfl ?_)
  exact av ((),(v4,v6,v7)) (lM rfl) (ba (ar aJ) (ba (ar aJ) bz)) ht.symm
 rintro ⟨_,⟨v8,v9,v10⟩⟩ τ hz;(try dsimp only at hz);subst q12;(try dsimp only at h);dsimp only [au]
 refine ae (af (fu 2 [1] [(56,.agg [pU v9,pU v10]),(57,pU v8)] (by kernel_rfl) (aS rfl rfl (an (vs:=[pU v9,pU v10]) rfl rfl rfl rfl rfl cw re (aI [(5,pU v8)] (by kernel_rfl) (dm ?_))))))
 obtain rfl:=osi h
 exact aP (cD (dV rfl fy rfl) (aO rfl)) bz ⟨rfl,rfl⟩
def oa (p0:Zm) (p1:Int) (p2:Int):Option (Int×Int):=cond (((p1 == 0)||(decide (p2<0)))||(decide (3<p2))) (some ((0:Int),(2:Int))) ((kr p0 p1).bind fun x3=>Option.bind (cond (p2 == 1) (some (decide (0<x3.2))) (cond (p2 == 2) (some (decide ((IntKind.u64.wrap (p1 - x3.2))≤x3.2))) (cond (p2 == 3) (some ((decide ((IntKind.u64.wrap (p1 - x3.2))<x3.2))||((x3.2 == (IntKind.u64.wrap (p1 - x3.2)))&&((dw .u64 x3.1.Lo 1) == 1)))) (some false)))) (fun v5=>Option.bind (cond v5 ((gX x3.1 (⟨0,1⟩:Zm)).bind fun x14=>some (x14.1.Hi,x14.1.Lo)) (some (x3.1.Hi,x3.1.Lo))) (fun (v10,v11)=>cond (decide (0<v10)) (some ((0:Int),(3:Int))) (some (v11,(0:Int))))))
theorem yK {p0:Zm} {p1:Int} {p2:Int} {r:(Int×Int)}  (h:oa p0 p1 p2=some r):PF 107 [.agg [pU p0.Hi,pU p0.Lo],pU p1,pI p2] (.tup [pU r.1,pI r.2]):=by
 unfold oa at h
 refine bd ?_
 refine dp Tryz.func107 rfl Tryz.ntmps107 Tryz.results107 rfl (cU rfl (bg (cs:=[pU p0.Hi,pU p0.Lo]) rfl rfl (fun b1=>bc [6,7] (by kernel_rfl) (co (bF (rg 11 9) [(20,pB (((p1 == 0)||(decide (p2<0)))||(decide (3<p2))))] (by kernel_rfl) rfl h (fun hc2 h=>?_) fun hc2 h=>?_)))))
 ·refine ae ?_
  refine cZ [(6,pU 0),(7,pI 2)] (by kernel_rfl) (ap ?_)
  obtain rfl:=osi h
  exact aP (cD (aO rfl) (aO rfl)) bz ⟨rfl,rfl⟩
 refine ah ?_
 refine cN h fun x3 hx3 h=>af (aY 6 [0] [22,23,24,21] [(25,.agg [pU x3.1.Hi,pU x3.1.Lo]),(26,pU x3.2)] (bi 2 (tT hx3) bh) (by kernel_rfl) (al rfl (aN (cs:=[pU 0,pU 0]) rfl rfl rfl rfl (fun b4=>aS rfl rfl (an (vs:=[pU x3.1.Hi,pU x3.1.Lo]) rfl rfl rfl rfl rfl cw re (aI [(9,pU x3.2)] (by kernel_rfl) (ca (aj [(10,pB false)] (by kernel_rfl) (co (aj [(27,pI p2)] (by kernel_rfl) (fa h fun q6 hq6 h=>?_)))))))))))
 refine am (Y:=Unit×Bool) (fun (_,v5)=>[(8,pP b4 0),(10,pB v5)]) (fun (_,v5)=>[PRes.b b4 167 [pU x3.1.Hi,pU x3.1.Lo]]) (fun (_,v5)=>q6=v5) ?_ ?_
 ·skip
  refine nX (bF [29] [(28,pB (p2 == 1))] (by kernel_rfl) rfl hq6 (fun hc7 hq6=>?_) fun hc7 hq6=>?_)
  ·refine ai [30,31] [(10,pB (decide (0<x3.2)))] (by kernel_rfl) ?_
   refine aA ?_
   obtain rfl:=osi hq6
   exact av ((),(decide (0<x3.2))) (lL rfl) cg rfl
  refine ae ?_
  refine bF [33] [(32,pB (p2 == 2))] (by kernel_rfl) rfl hq6 (fun hc8 hq6=>?_) fun hc8 hq6=>?_
  ·refine ai (rg 34 5) [(10,pB (decide ((IntKind.u64.wrap (p1 - x3.2))≤x3.2)))] (by kernel_rfl) ?_
   refine aA ?_
   obtain rfl:=osi hq6
   exact av ((),(decide ((IntKind.u64.wrap (p1 - x3.2))≤x3.2))) (lL rfl) cg rfl
  refine ae ?_
  refine bF [40] [(39,pB (p2 == 3))] (by kernel_rfl) rfl hq6 (fun hc9 hq6=>?_) fun hc9 hq6=>?_
  ·refine aM [0] (rg 41 18) [(10,pB ((decide ((IntKind.u64.wrap (p1 - x3.2))<x3.2))||((x3.2 == (IntKind.u64.wrap (p1 - x3.2)))&&((dw .u64 x3.1.Lo 1) == 1))))] (by kernel_rfl) ?_
   refine aA ?_
   obtain rfl:=osi hq6
   exact av ((),((decide ((IntKind.u64.wrap (p1 - x3.2))<x3.2))||((x3.2 == (IntKind.u64.wrap (p1 - x3.2)))&&((dw .u64 x3.1.Lo 1) == 1)))) (lL rfl) cg rfl
  refine ah ?_
  refine aA ?_
  obtain rfl:=osi hq6
  exact av ((),false) (lL rfl) cg rfl
 rintro ⟨_,v5⟩ τ hz;(try dsimp only at hz);subst q6;(try dsimp only at h);dsimp only [au]
 refine cT (aj [(59,pB v5)] (by kernel_rfl) (fa h fun q12 hq12 h=>?_))
 refine am (Y:=Unit×(Int×Int)) (fun (_,(v10,v11))=>[(8,pP b4 0)]) (fun (_,(v10,v11))=>[PRes.b b4 167 [pU v10,pU v11]]) (fun (_,(v10,v11))=>q12=(v10,v11)) ?_ ?_
 ·skip
  refine jG rfl hq12 (fun hc13 hq12=>?_) fun hc13 hq12=>?_
  ·refine aa hq12 ?_;clear hq12;intro x14 hx14 hq12
   refine af (aY 6 [0] [61,62,63,60,65] [(64,.agg [pU x14.1.Hi,pU x14.1.Lo])] (bi 2 (my hx14) bh) (by kernel_rfl) (aS rfl rfl (an (vs:=[pU x14.1.Hi,pU x14.1.Lo]) rfl rfl rfl rfl rfl cw re (aG ?_))))
   obtain rfl:=osi hq12
   exact av ((),(x14.1.Hi,x14.1.Lo)) (qP rfl) cg rfl
  refine ah ?_
  obtain rfl:=osi hq12
  exact av ((),(x3.1.Hi,x3.1.Lo)) (qP rfl) cg rfl
 rintro ⟨_,⟨v10,v11⟩⟩ τ hz;(try dsimp only at hz);subst q12;(try dsimp only at h);dsimp only [au]
 refine cT (aM [0] [66,67] [(68,pB (decide (0<v10)))] (by kernel_rfl) (cR rfl h (fun hc15 h=>?_) fun hc15 h=>?_))
 ·refine ae ?_
  refine cZ [(6,pU 0),(7,pI 3)] (by kernel_rfl) (ap ?_)
  obtain rfl:=osi h
  exact aP (cD (aO rfl) (aO rfl)) bz ⟨rfl,rfl⟩
 refine ah ?_
 refine ca (aM [0] [69,70] [(6,pU v11),(7,pI 0)] (by kernel_rfl) (dm ?_))
 obtain rfl:=osi h
 exact aP (cD (aO rfl) (aO rfl)) bz ⟨rfl,rfl⟩
def jW (p0:Int) (p1:Int):Option Zm:=(aV (S:=Int×Int×Int) (T:=(Int×Int)) (fun (v3,v4,v5)=>cond (decide (0≤v3)) (((gX (⟨v4,v5⟩:Zm) (⟨v4,v5⟩:Zm)).bind fun x14=>(lw v3).bind fun u15=>cond ((dw .u64 (cC .u64 p1 v3) 1) == 1) ((gX x14.1 (⟨0,p0⟩:Zm)).bind fun x17=>some (x17.1.Hi,x17.1.Lo)) (some (x14.1.Hi,x14.1.Lo))).bind fun (v11,v12)=>some (.inl ((IntKind.i64.wrap (v3 - 1)),v11,v12))) (some (.inr (v4,v5)))) FUEL (63,0,0)).bind fun (v6,v7)=>some (⟨v6,v7⟩:Zm)
theorem oR {p0:Int} {p1:Int} {r:Zm}  (h:jW p0 p1=some r):PF 108 [pU p0,pU p1] (.agg [pU r.Hi,pU r.Lo]):=by
 unfold jW at h
 refine bd ?_
 refine dp Tryz.func108 rfl Tryz.ntmps108 Tryz.results108 rfl (cU rfl (aN (cs:=[pU 0,pU 0]) rfl rfl rfl rfl (fun b1=>aG (ca (af (aF 1 [(7,.agg [pU 0,pU 0])] (by kernel_rfl) (al rfl (aN (cs:=[pU 0,pU 0]) rfl rfl rfl rfl (fun b2=>aS rfl rfl (an (vs:=[pU 0,pU 0]) rfl rfl rfl rfl rfl cw re (aG (co (aj [(6,pI 63)] (by kernel_rfl) (fa h fun q9 hq9 h=>?_))))))))))))))
 refine am (Y:=Unit×(Int×Int)) (fun (_,(v6,v7))=>[(4,pP b1 0),(5,pP b2 0)]) (fun (_,(v6,v7))=>[PRes.b b1 167 [pU 0,pU 0],PRes.b b2 167 [pU v6,pU v7]]) (fun (_,(v6,v7))=>q9=(v6,v7)) ?_ ?_
 ·refine aw ?_
  refine aB (Y:=Unit) (S:=Int×Int×Int) _ hq9 (fun _ (v3,v4,v5)=>[(0,pU p0),(1,pU p1),(4,pP b1 0),(5,pP b2 0),(6,pI v3)]) (fun _ (v3,v4,v5)=>[PRes.b b1 167 [pU 0,pU 0],PRes.b b2 167 [pU v4,pU v5]]) () (lP rfl) (ba (ar aJ) cg) ?_
  rintro _ ⟨v3,v4,v5⟩ o τ hb8;(try dsimp only at hb8);dsimp only [au]
  refine cT (bF [8] [(9,pB (decide (0≤v3)))] (by kernel_rfl) rfl hb8 (fun hc10 hb8=>?_) fun hc10 hb8=>?_)
  ·refine ah ?_
   refine cN hb8 fun q13 hq13 hb8=>?_
   refine am (Y:=Unit×(Int×Int)) (fun (_,(v11,v12))=>[(0,pU p0),(1,pU p1),(4,pP b1 0),(5,pP b2 0),(6,pI v3)]) (fun (_,(v11,v12))=>[PRes.b b1 167 [pU 0,pU 0],PRes.b b2 167 [pU v11,pU v12]]) (fun (_,(v11,v12))=>q13=(v11,v12)) ?_ ?_
   ·skip
    refine nX (aa hq13 fun x14 hx14 hq13=>af (aY 6 [1,1] [13,14,15,12,17] [(16,.agg [pU x14.1.Hi,pU x14.1.Lo])] (bi 2 (my hx14) bh) (by kernel_rfl) (aS rfl rfl (an (vs:=[pU x14.1.Hi,pU x14.1.Lo]) rfl rfl rfl rfl rfl (dl cw) re (aG (cN hq13 fun u15 hu15 hq13=>aq [] [18,19,20,21] [(22,pB ((dw .u64 (cC .u64 p1 v3) 1) == 1))] (tP 2 hu15 bh) (by kernel_rfl) (cR rfl hq13 (fun hc16 hq13=>?_) fun hc16 hq13=>?_)))))))
    ·refine aa hq13 ?_;clear hq13;intro x17 hx17 hq13
     refine af (aY 7 [1] [24,25,26,27,23,29] [(28,.agg [pU x17.1.Hi,pU x17.1.Lo])] (bi 3 (my hx17) bh) (by kernel_rfl) (aS rfl rfl (an (vs:=[pU x17.1.Hi,pU x17.1.Lo]) rfl rfl rfl rfl rfl (dl cw) re (aG (aA ?_)))))
     obtain rfl:=osi hq13
     exact av ((),(x17.1.Hi,x17.1.Lo)) (lP rfl) mE rfl
    refine ah ?_
    refine aA ?_
    obtain rfl:=osi hq13
    exact av ((),(x14.1.Hi,x14.1.Lo)) (lP rfl) mE rfl
   rintro ⟨_,⟨v11,v12⟩⟩ τ hz;(try dsimp only at hz);subst q13;(try dsimp only at hb8);dsimp only [au]
   refine ai [10,11] [(6,pI (IntKind.i64.wrap (v3 - 1)))] (by kernel_rfl) ?_
   exact aR hb8 () (lP rfl) mE
  refine aH ?_
  refine cd hb8 (fun ht=>ak rfl ?_)
  exact av ((),(v4,v5)) (lL rfl) mE ht.symm
 rintro ⟨_,⟨v6,v7⟩⟩ τ hz;(try dsimp only at hz);subst q9;(try dsimp only at h);dsimp only [au]
 refine ae (af (fu 1 [1] [(30,.agg [pU v6,pU v7])] (by kernel_rfl) (aS rfl rfl (an (vs:=[pU v6,pU v7]) rfl rfl rfl rfl rfl cw re (aG (dm ?_))))))
 obtain rfl:=osi h
 exact aP (da (dV rfl fy rfl)) bz ⟨rfl,rfl⟩
def ku (p0:Int) (p1:Int) (p2:Int) (p3:Int):Option (Int×Int):=(jW p0 p1).bind fun x1=>(oa x1 p2 p3).bind fun x2=>some (x2.1,x2.2)
theorem tU {p0:Int} {p1:Int} {p2:Int} {p3:Int} {r:(Int×Int)}  (h:ku p0 p1 p2 p3=some r):PF 60 [pU p0,pU p1,pU p2,pI p3] (.tup [pU r.1,pI r.2]):=by
 unfold ku at h
 refine bd ?_
 refine dp Tryz.func60 rfl Tryz.ntmps60 Tryz.results60 rfl (aU [8,9] (by kernel_rfl) (cN h fun x1 hx1 h=>aa h fun x2 hx2 h=>aq [] (rg 10 8) [(8,pU x2.1),(9,pI x2.2)] (bi 2 (oR hx1) (bi 5 (yK hx2) bh)) (by kernel_rfl) (dm ?_)))
 obtain rfl:=osi h
 exact aP (cD (aO rfl) (aO rfl)) bz ⟨rfl,rfl⟩
def ig (p0:(List Zd)) (p1:(List Zb)) (p2:ByteArray) (p3:Za) (p4:(List Za)):Option (Zn×(List Za)):=(dO p0 p1 p2 p3).bind fun x3=>cond (!x3) (some ((⟨ByteArray.empty,0,false,[],[]⟩:Zn),[])) ((fR p0 p3.Product).bind fun x5=>(fk p1 p3.Agreement).bind fun x7=>(iU p1 p3.Agreement x5.1.Country p2).bind fun x9=>(aV (S:=(List Za)×(List ByteArray)×Int×(List Zl)) (T:=((List Za)×(List ByteArray)×(List Zl))) (fun (l13,l14,v15,l17)=>cond (decide (v15<(x5.1.Inputs.length:Int))) (((idx x5.1.Inputs v15).bind fun m37=>(fR p0 m37.Product).bind fun x39=>(gd (x7.1.Kind == 3) (iH x7.1.Parties x39.1.Country)).bind fun x41=>Option.bind (cond ((x7.1.Kind == 3)&&x41) ((jV l14 x39.1.Processes).bind fun x46=>some x46) (some l14)) (fun l42=>(iI x9 x39.1.ID p4).bind fun x47=>Option.bind (cond x47.2 ((fS l13 x47.1).bind fun x53=>some x53) (some l13)) (fun l49=>cond ((x47.2||(!((x7.1.Kind == 3)&&x41)))||((x39.1.Inputs.length:Int) == 0)) ((app 32 l17 [(⟨x39.1.Code,m37.Value,x47.2⟩:Zl)]).bind fun l57=>some (l49,l42,l57)) ((aV (S:=(List Za)×Int×(List Zl)) (T:=((List Za)×(List Zl))) (fun (l61,v62,l64)=>cond (decide (v62<(x39.1.Inputs.length:Int))) ((idx x39.1.Inputs v62).bind fun m75=>(fR p0 m75.Product).bind fun x76=>(idx x39.1.Inputs v62).bind fun m78=>(ku (IntKind.u64.wrap m37.Value) (IntKind.u64.wrap m78.Value) (IntKind.u64.wrap x39.1.Price) 1).bind fun x79=>Option.bind (cond ((x79.2 == 0)&&(decide (x79.1<1000000000000))) (some (IntKind.i64.wrap x79.1)) (some 1000000000000)) (fun v80=>(iI x9 x76.1.ID p4).bind fun x84=>Option.bind (cond x84.2 ((fS l61 x84.1).bind fun x90=>some x90) (some l61)) (fun l86=>(app 32 l64 [(⟨x76.1.Code,v80,x84.2⟩:Zl)]).bind fun l93=>some (.inl (l86,(IntKind.i64.wrap (v62+1)),l93))))) (some (.inr (l61,l64)))) FUEL (l49,0,l17)).bind fun (l67,l71)=>some (l67,l42,l71))))).bind fun (l30,l31,l35)=>some (.inl (l30,l31,(IntKind.i64.wrap (v15+1)),l35))) (some (.inr (l13,l14,l17)))) FUEL (([]:List Za),x5.1.Processes,0,([]:List Zl))).bind fun (l20,l21,l25)=>(sub l21 0 (pu (l21.length:Int) 8)).bind fun l98=>some ((⟨x5.1.Code,x5.1.Price,x5.1.Obtained,l98,l25⟩:Zn),l20))
theorem tV {p0:(List Zd)} {p1:(List Zb)} {p2:ByteArray} {p3:Za} {p4:(List Za)} {r:(Zn×(List Za))}  (h:ig p0 p1 p2 p3 p4=some r):PF 18 [pL Zd.enc p0,pL Zb.enc p1,pS p2,.agg [pI p3.Product,pI p3.Agreement],pL Za.enc p4] (.tup [.agg (bC r.1),pL Za.enc r.2]):=by
 unfold ig at h
 refine bd ?_
 refine dp Tryz.func18 rfl Tryz.ntmps18 Tryz.results18 rfl (cU rfl (bg (cs:=[pI p3.Product,pI p3.Agreement]) rfl rfl (fun b1=>al rfl (aN (cs:=[pS ByteArray.empty,pI 0,pB false,pN,pN]) rfl rfl rfl rfl (fun b2=>bc [11] (by kernel_rfl) (co (aa h fun x3 hx3 h=>aq [1] (rg 35 5) [(40,pB (!x3))] (bi 4 (lZ hx3) bh) (by kernel_rfl) (cR rfl h (fun hc4 h=>?_) fun hc4 h=>?_))))))))
 ·refine ae ?_
  refine af (aF 1 [(41,.agg [pS ByteArray.empty,pI 0,pB false,pN,pN])] (by kernel_rfl) (aS rfl rfl (an (vs:=[pS ByteArray.empty,pI 0,pB false,pN,pN]) rfl rfl rfl rfl rfl cw Gy (aI [(11,pN)] (by kernel_rfl) (aL (df (k:=3) (b:=b2) rfl cw (df (k:=4) (b:=b2) rfl cw (fz 11 rfl (bq (ap ?_))))))))))
  obtain rfl:=osi h
  exact aP (cD (dV rfl fy rfl) (aO rfl)) bz ⟨rfl,rfl⟩
 refine ah ?_
 refine cN h fun x5 hx5 h=>af (aY 7 [1] [43,44,45,46,42] [(47,.agg (aK x5.1)),(48,pB x5.2)] (bi 3 (jn hx5) bh) (by kernel_rfl) (al rfl (aN (cs:=[pI 0,pS ByteArray.empty,pS ByteArray.empty,pI 0,pB false,pN,pN]) rfl rfl rfl rfl (fun b6=>aS rfl rfl (an (vs:=(aK x5.1)) rfl rfl rfl rfl rfl cw nP (bc [13] (by kernel_rfl) (cN h fun x7 hx7 h=>af (aY 7 [2] [50,51,52,53,49] [(54,.agg (aD x7.1)),(55,pB x7.2)] (bi 3 (jK hx7) bh) (by kernel_rfl) (al rfl (aN (cs:=[pI 0,pI 0,pN,pN]) rfl rfl rfl rfl (fun b8=>aS rfl rfl (an (vs:=(aD x7.1)) rfl rfl rfl rfl rfl cw yy (bc [15] (by kernel_rfl) (cN h fun x9 hx9 h=>aq [3,1] (rg 56 7) [(16,pL eI x9)] (bi 6 (rY hx9) bh) (by kernel_rfl) (ca (af (cj 7 [1,1,1] (rg 63 6) [(69,.agg [pS x5.1.Code,pI x5.1.Price,pB x5.1.Obtained,pN,pN])] (by kernel_rfl) (al rfl (bw rfl rfl rfl rfl rfl iP rfl rfl rfl rfl (fun b10=>al rfl (aN (cs:=[pS ByteArray.empty,pI 0,pB false,pN,pN]) rfl rfl rfl rfl (fun b12=>aS rfl rfl (an (vs:=[pS x5.1.Code,pI x5.1.Price,pB x5.1.Obtained,pN,pN]) rfl rfl rfl rfl rfl cw Gy (aI [(18,pO (some ⟨b10,0,none⟩) 0 0)] (by kernel_rfl) (ca (aM [3] [71,72] [(19,pL eS x5.1.Processes)] (by kernel_rfl) (co (aj [(20,pI 0)] (by kernel_rfl) (aL (bX 103 3 ?_))))))))))))))))))))))))))))))
 refine dr (enc:=Za.enc) (xs:=([]:List Za)) 18 rfl (by exact ar (ar aJ)) ?_
 refine aa h fun q27 hq27 h=>?_
 refine am (Y:=(Option Addr×Nat)×((List Za)×(List ByteArray)×(List Zl))) (fun ((a23,c24),(l20,l21,l25))=>[(10,pP b2 0),(17,pP b12 0),(18,pL Za.enc l20),(19,pL eS l21)]) (fun ((a23,c24),(l20,l21,l25))=>[PRes.b b12 36 [pS x5.1.Code,pI x5.1.Price,pB x5.1.Obtained,pN,pO a23 l25.length c24],PRes.b b2 36 [pS ByteArray.empty,pI 0,pB false,pN,pN],PRes.row a23 l25.length c24 103 3 (List.map Zl.enc l25)]) (fun ((a23,c24),(l20,l21,l25))=>q27=(l20,l21,l25)) ?_ ?_
 ·refine aw ?_
  refine aB (Y:=Option Addr×Nat) (S:=(List Za)×(List ByteArray)×Int×(List Zl)) _ hq27 (fun (a18,c19) (l13,l14,v15,l17)=>[(0,pL Zd.enc p0),(4,pL Za.enc p4),(10,pP b2 0),(12,pP b6 0),(14,pP b8 0),(16,pL eI x9),(17,pP b12 0),(18,pL Za.enc l13),(19,pL eS l14),(20,pI v15)]) (fun (a18,c19) (l13,l14,v15,l17)=>[PRes.b b12 36 [pS x5.1.Code,pI x5.1.Price,pB x5.1.Obtained,pN,pO a18 l17.length c19],PRes.b b2 36 [pS ByteArray.empty,pI 0,pB false,pN,pN],PRes.b b6 76 (aK x5.1),PRes.b b8 81 (aD x7.1),PRes.row a18 l17.length c19 103 3 (List.map Zl.enc l17)]) (none,0) (dU rfl (qS rfl)) (ba (ar (ar aJ)) (ba (ar (ar (ar (ar aJ)))) (ba (ar (ar (ar aJ))) (ba (ar (ar aJ)) (ba (ar aJ) bz))))) ?_
  rintro ⟨a18,c19⟩ ⟨l13,l14,v15,l17⟩ o τ hb26;(try dsimp only at hb26);dsimp only [au]
  refine cT (aM [2] [73,74,75,76] [(77,pB (decide (v15<(x5.1.Inputs.length:Int))))] (by kernel_rfl) (cR rfl hb26 (fun hc29 hb26=>?_) fun hc29 hb26=>?_))
  ·refine ah ?_
   refine cN hb26 fun q36 hq36 hb26=>?_
   refine am (Y:=(Option Addr×Nat)×((List Za)×(List ByteArray)×(List Zl))) (fun ((a33,c34),(l30,l31,l35))=>[(0,pL Zd.enc p0),(4,pL Za.enc p4),(10,pP b2 0),(12,pP b6 0),(14,pP b8 0),(16,pL eI x9),(17,pP b12 0),(18,pL Za.enc l30),(19,pL eS l31),(20,pI v15)]) (fun ((a33,c34),(l30,l31,l35))=>[PRes.b b12 36 [pS x5.1.Code,pI x5.1.Price,pB x5.1.Obtained,pN,pO a33 l35.length c34],PRes.b b2 36 [pS ByteArray.empty,pI 0,pB false,pN,pN],PRes.b b6 76 (aK x5.1),PRes.b b8 81 (aD x7.1),PRes.row a33 l35.length c34 103 3 (List.map Zl.enc l35)]) (fun ((a33,c34),(l30,l31,l35))=>q36=(l30,l31,l35)) ?_ ?_
   ·skip
    refine nX (aa hq36 fun m37 hm37 hq36=>af (aY 5 [2] [80,81,82,83] [(84,.agg [pI m37.Product,pI m37.Value])] (cr 3 Zg.enc hm37 bh) (by kernel_rfl) (al rfl (aN (cs:=[pI 0,pI 0]) rfl rfl rfl rfl (fun b38=>aS rfl rfl (an (vs:=[pI m37.Product,pI m37.Value]) rfl rfl rfl rfl rfl cw re (aG (cN hq36 fun x39 hx39 hq36=>af (aY 7 [0] [86,87,88,89,85] [(90,.agg (aK x39.1)),(91,pB x39.2)] (bi 3 (jn hx39) bh) (by kernel_rfl) (al rfl (aN (cs:=[pI 0,pS ByteArray.empty,pS ByteArray.empty,pI 0,pB false,pN,pN]) rfl rfl rfl rfl (fun b40=>aS rfl rfl (an (vs:=(aK x39.1)) rfl rfl rfl rfl rfl cw nP (bc [23] (by kernel_rfl) (cN hq36 fun x41 hx41 hq36=>aq [5,5,0] (rg 92 10) [(24,pB ((x7.1.Kind == 3)&&x41))] (dK 8 (fun hc=>i5 (cA hx41 hc)) bh) (by kernel_rfl) (co (aj [(102,pB ((x7.1.Kind == 3)&&x41))] (by kernel_rfl) (fa hq36 fun q44 hq44 hq36=>?_))))))))))))))))))
    refine am (Y:=Unit×((List ByteArray))) (fun (_,l42)=>[(0,pL Zd.enc p0),(4,pL Za.enc p4),(10,pP b2 0),(12,pP b6 0),(14,pP b8 0),(16,pL eI x9),(17,pP b12 0),(18,pL Za.enc l13),(19,pL eS l42),(20,pI v15),(21,pP b38 0),(22,pP b40 0),(24,pB ((x7.1.Kind == 3)&&x41))]) (fun (_,l42)=>[PRes.b b12 36 [pS x5.1.Code,pI x5.1.Price,pB x5.1.Obtained,pN,pO a18 l17.length c19],PRes.b b2 36 [pS ByteArray.empty,pI 0,pB false,pN,pN],PRes.b b38 78 [pI m37.Product,pI m37.Value],PRes.b b40 76 (aK x39.1),PRes.b b6 76 (aK x5.1),PRes.b b8 81 (aD x7.1),PRes.row a18 l17.length c19 103 3 (List.map Zl.enc l17)]) (fun (_,l42)=>q44=l42) ?_ ?_
    ·skip
     refine jG rfl hq44 (fun hc45 hq44=>?_) fun hc45 hq44=>?_
     ·refine aa hq44 ?_;clear hq44;intro x46 hx46 hq44
      refine aq [0] [103,104,105,106] [(19,pL eS x46)] (bi 3 (vu hx46) bh) (by kernel_rfl) ?_
      obtain rfl:=osi hq44
      exact av ((),x46) (dU rfl (dU rfl (dU rfl (dU rfl (qS rfl))))) (ba (ar (ar aJ)) (ba (ar (ar aJ)) (ba (ar aJ) Gx))) rfl
     refine ah ?_
     obtain rfl:=osi hq44
     exact av ((),l14) (dU rfl (dU rfl (dU rfl (dU rfl (qS rfl))))) (ba (ar (ar aJ)) (ba (ar (ar aJ)) (ba (ar aJ) Gx))) rfl
    rintro ⟨_,l42⟩ τ hz;(try dsimp only at hz);subst q44;(try dsimp only at hq36);dsimp only [au]
    refine ae (aa hq36 fun x47 hx47 hq36=>af (aY 8 [3] ((rg 108 5)++[107]) [(113,.agg [pI x47.1.Product,pI x47.1.Agreement]),(114,pB x47.2)] (bi 4 (n9 hx47) bh) (by kernel_rfl) (al rfl (aN (cs:=[pI 0,pI 0]) rfl rfl rfl rfl (fun b48=>aS rfl rfl (an (vs:=[pI x47.1.Product,pI x47.1.Agreement]) rfl rfl rfl rfl rfl cw re (aI [(26,pB x47.2)] (by kernel_rfl) (co (aj [(115,pB x47.2)] (by kernel_rfl) (fa hq36 fun q51 hq51 hq36=>?_))))))))))
    refine am (Y:=Unit×((List Za))) (fun (_,l49)=>[(0,pL Zd.enc p0),(4,pL Za.enc p4),(10,pP b2 0),(12,pP b6 0),(14,pP b8 0),(16,pL eI x9),(17,pP b12 0),(18,pL Za.enc l49),(19,pL eS l42),(20,pI v15),(21,pP b38 0),(22,pP b40 0),(24,pB ((x7.1.Kind == 3)&&x41)),(26,pB x47.2)]) (fun (_,l49)=>[PRes.b b12 36 [pS x5.1.Code,pI x5.1.Price,pB x5.1.Obtained,pN,pO a18 l17.length c19],PRes.b b2 36 [pS ByteArray.empty,pI 0,pB false,pN,pN],PRes.b b38 78 [pI m37.Product,pI m37.Value],PRes.b b40 76 (aK x39.1),PRes.b b6 76 (aK x5.1),PRes.b b8 81 (aD x7.1),PRes.row a18 l17.length c19 103 3 (List.map Zl.enc l17)]) (fun (_,l49)=>q51=l49) ?_ ?_
    ·skip
     refine jG rfl hq51 (fun hc52 hq51=>?_) fun hc52 hq51=>?_
     ·refine aa hq51 ?_;clear hq51;intro x53 hx53 hq51
      refine aq [0] [116,117,118] [(18,pL Za.enc x53)] (bi 2 (nI hx53) bh) (by kernel_rfl) ?_
      obtain rfl:=osi hq51
      exact av ((),x53) (dU rfl (dU rfl (dU rfl (dU rfl (dU rfl (qS rfl)))))) (ba (ar aJ) (ba (ar aJ) (ba (ar aJ) (ba (ar aJ) (ba (ar aJ) (ba (ar aJ) (ba (ar aJ) bz))))))) rfl
     refine ah ?_
     obtain rfl:=osi hq51
     exact av ((),l13) (dU rfl (dU rfl (dU rfl (dU rfl (dU rfl (qS rfl)))))) (ba (ar aJ) (ba (ar aJ) (ba (ar aJ) (ba (ar aJ) (ba (ar aJ) (ba (ar aJ) (ba (ar aJ) bz))))))) rfl
    rintro ⟨_,l49⟩ τ hz;(try dsimp only at hz);subst q51;(try dsimp only at hq36);dsimp only [au]
    refine cT (aM [3] (rg 119 10) [(129,pB ((x47.2||(!((x7.1.Kind == 3)&&x41)))||((x39.1.Inputs.length:Int) == 0)))] (by kernel_rfl) (cR rfl hq36 (fun hc54 hq36=>?_) fun hc54 hq36=>?_))
    ·refine ae ?_
     refine af (cj 8 [0,3,2] [130,132,133,134,135,136] [(131,pO a18 l17.length c19),(137,.agg [pS x39.1.Code,pI m37.Value,pB x47.2])] (by kernel_rfl) (al rfl (bw rfl rfl rfl rfl rfl (fL rfl iP) rfl rfl rfl rfl (fun b55=>aa hq36 fun l57 hl57 hq36=>?_))))
     refine al rfl (bV (enc:=Zl.enc) rfl rfl rfl rfl rfl rfl rfl rfl rfl fy (by exact ar (ar (ar (ar (ar (ar (ar aJ))))))) hl57 (fun a58 c59=>?_))
     refine aF 1 [(140,pP b12 4)] (by kernel_rfl) (aS rfl rfl (an (vs:=[pO a58 l57.length c59]) rfl rfl rfl rfl rfl (dl (dl cw)) (dZ (dZ (dZ (dZ nD)))) (aG (aL (aH (hY (ak rfl ?_)))))))
     obtain rfl:=osi hq36
     exact av ((a58,c59),(l49,l42,l57)) (dU rfl (qS rfl)) (ba (ar (ar aJ)) (ba (ar (ar aJ)) (ba (ar (ar (ar (ar aJ)))) (ba (ar (ar (ar (ar aJ)))) cg)))) rfl
    refine ah ?_
    refine ca (aj [(27,pI 0)] (by kernel_rfl) (fa hq36 fun q73 hq73 hq36=>?_))
    refine ip (Y:=(Option Addr×Nat)×((List Za)×(List Zl))) (fun ((a69,c70),(l67,l71))=>[(0,pL Zd.enc p0),(4,pL Za.enc p4),(10,pP b2 0),(12,pP b6 0),(14,pP b8 0),(16,pL eI x9),(17,pP b12 0),(18,pL Za.enc l67),(19,pL eS l42),(20,pI v15)]) (fun ((a69,c70),(l67,l71))=>[PRes.b b12 36 [pS x5.1.Code,pI x5.1.Price,pB x5.1.Obtained,pN,pO a69 l71.length c70],PRes.b b2 36 [pS ByteArray.empty,pI 0,pB false,pN,pN],PRes.b b6 76 (aK x5.1),PRes.b b8 81 (aD x7.1),PRes.row a69 l71.length c70 103 3 (List.map Zl.enc l71)]) (fun ((a69,c70),(l67,l71))=>q73=(l67,l71)) ?_ ?_
    ·refine aw ?_
     refine aB (Y:=Option Addr×Nat) (S:=(List Za)×Int×(List Zl)) _ hq73 (fun (a65,c66) (l61,v62,l64)=>[(0,pL Zd.enc p0),(4,pL Za.enc p4),(10,pP b2 0),(12,pP b6 0),(14,pP b8 0),(16,pL eI x9),(17,pP b12 0),(18,pL Za.enc l61),(19,pL eS l42),(20,pI v15),(21,pP b38 0),(22,pP b40 0),(27,pI v62)]) (fun (a65,c66) (l61,v62,l64)=>[PRes.b b12 36 [pS x5.1.Code,pI x5.1.Price,pB x5.1.Obtained,pN,pO a65 l64.length c66],PRes.b b2 36 [pS ByteArray.empty,pI 0,pB false,pN,pN],PRes.b b38 78 [pI m37.Product,pI m37.Value],PRes.b b40 76 (aK x39.1),PRes.b b6 76 (aK x5.1),PRes.b b8 81 (aD x7.1),PRes.row a65 l64.length c66 103 3 (List.map Zl.enc l64)]) (a18,c19) (dU rfl (dU rfl (dU rfl (dU rfl (qS rfl))))) (ba aJ zs6) ?_
     rintro ⟨a65,c66⟩ ⟨l61,v62,l64⟩ o τ hb72;(try dsimp only at hb72);dsimp only [au]
     refine cT (aM [3] [141,142,143,144] [(145,pB (decide (v62<(x39.1.Inputs.length:Int))))] (by kernel_rfl) (cR rfl hb72 (fun hc74 hb72=>?_) fun hc74 hb72=>?_))
     ·refine ah ?_
      refine dq (aa hb72 fun m75 hm75 hb72=>aa hb72 fun x76 hx76 hb72=>af (aY 11 [3] ((rg 149 8)++[148]) [(157,.agg (aK x76.1)),(158,pB x76.2)] (cr 4 Zg.enc hm75 (bi 7 (jn hx76) bh)) (by kernel_rfl) (al rfl (aN (cs:=[pI 0,pS ByteArray.empty,pS ByteArray.empty,pI 0,pB false,pN,pN]) rfl rfl rfl rfl (fun b77=>aS rfl rfl (an (vs:=(aK x76.1)) rfl rfl rfl rfl rfl cw nP (bc [29] (by kernel_rfl) (ca (bj (ρd:=[]) [(0,0),(1,0),(2,0),(3,0),(4,0),(5,0),(6,0),(7,0),(8,0),(9,0),(10,0),(11,0),(12,0),(13,1),(14,0),(15,0),(16,0),(17,0),(18,0)] _ (List.Perm.refl _) (by kernel_rfl) rfl (aa hb72 fun m78 hm78 hb72=>aa hb72 fun x79 hx79 hb72=>bv 19 [3,4,4] ((rg 160 14)++[159,174,175]) [(30,pU x79.1),(31,pI x79.2)] (cr 6 Zg.enc hm78 (bi 13 (tU hx79) bh)) (by kernel_rfl) (bB (ca (aj [(32,pI 1000000000000)] (by kernel_rfl) (co (ai (rg 176 5) [(181,pB ((x79.2 == 0)&&(decide (x79.1<1000000000000))))] (by kernel_rfl) (fa hb72 fun q82 hq82 hb72=>?_))))))))))))))))
      refine am (Y:=Unit×Int) (fun (_,v80)=>[(0,pL Zd.enc p0),(4,pL Za.enc p4),(10,pP b2 0),(12,pP b6 0),(14,pP b8 0),(16,pL eI x9),(17,pP b12 0),(18,pL Za.enc l61),(19,pL eS l42),(20,pI v15),(21,pP b38 0),(22,pP b40 0),(27,pI v62),(28,pP b77 0),(32,pI v80)]) (fun (_,v80)=>[PRes.b b12 36 [pS x5.1.Code,pI x5.1.Price,pB x5.1.Obtained,pN,pO a65 l64.length c66],PRes.b b2 36 [pS ByteArray.empty,pI 0,pB false,pN,pN],PRes.b b38 78 [pI m37.Product,pI m37.Value],PRes.b b40 76 (aK x39.1),PRes.b b6 76 (aK x5.1),PRes.b b77 76 (aK x76.1),PRes.b b8 81 (aD x7.1),PRes.row a65 l64.length c66 103 3 (List.map Zl.enc l64)]) (fun (_,v80)=>q82=v80) ?_ ?_
      ·skip
       refine jG rfl hq82 (fun hc83 hq82=>?_) fun hc83 hq82=>?_
       ·refine ai [182,183] [(32,pI (IntKind.i64.wrap x79.1))] (by kernel_rfl) ?_
        obtain rfl:=osi hq82
        exact av ((),(IntKind.i64.wrap x79.1)) (dU rfl (dU rfl (dU rfl (dU rfl (dU rfl (dU rfl (qS rfl))))))) (ba (ar aJ) (ba (ar aJ) (ba (ar aJ) (ba (ar aJ) (ba (ar aJ) Cz))))) rfl
       refine ah ?_
       obtain rfl:=osi hq82
       exact av ((),1000000000000) (dU rfl (dU rfl (dU rfl (dU rfl (dU rfl (dU rfl (qS rfl))))))) (ba (ar aJ) (ba (ar aJ) (ba (ar aJ) (ba (ar aJ) (ba (ar aJ) Cz))))) rfl
      rintro ⟨_,v80⟩ τ hz;(try dsimp only at hz);subst q82;(try dsimp only at hb72);dsimp only [au]
      refine ae (aa hb72 fun x84 hx84 hb72=>af (aY 8 [5] ((rg 185 5)++[184]) [(190,.agg [pI x84.1.Product,pI x84.1.Agreement]),(191,pB x84.2)] (bi 4 (n9 hx84) bh) (by kernel_rfl) (al rfl (aN (cs:=[pI 0,pI 0]) rfl rfl rfl rfl (fun b85=>aS rfl rfl (an (vs:=[pI x84.1.Product,pI x84.1.Agreement]) rfl rfl rfl rfl rfl cw re (aI [(34,pB x84.2)] (by kernel_rfl) (co (aj [(192,pB x84.2)] (by kernel_rfl) (fa hb72 fun q88 hq88 hb72=>?_))))))))))
      refine am (Y:=Unit×((List Za))) (fun (_,l86)=>[(0,pL Zd.enc p0),(4,pL Za.enc p4),(10,pP b2 0),(12,pP b6 0),(14,pP b8 0),(16,pL eI x9),(17,pP b12 0),(18,pL Za.enc l86),(19,pL eS l42),(20,pI v15),(21,pP b38 0),(22,pP b40 0),(27,pI v62),(28,pP b77 0),(32,pI v80),(34,pB x84.2)]) (fun (_,l86)=>[PRes.b b12 36 [pS x5.1.Code,pI x5.1.Price,pB x5.1.Obtained,pN,pO a65 l64.length c66],PRes.b b2 36 [pS ByteArray.empty,pI 0,pB false,pN,pN],PRes.b b38 78 [pI m37.Product,pI m37.Value],PRes.b b40 76 (aK x39.1),PRes.b b6 76 (aK x5.1),PRes.b b77 76 (aK x76.1),PRes.b b8 81 (aD x7.1),PRes.row a65 l64.length c66 103 3 (List.map Zl.enc l64)]) (fun (_,l86)=>q88=l86) ?_ ?_
      ·skip
       refine jG rfl hq88 (fun hc89 hq88=>?_) fun hc89 hq88=>?_
       ·refine aa hq88 ?_;clear hq88;intro x90 hx90 hq88
        refine aq [0] [193,194,195] [(18,pL Za.enc x90)] (bi 2 (nI hx90) bh) (by kernel_rfl) ?_
        obtain rfl:=osi hq88
        exact av ((),x90) (dU rfl (dU rfl (dU rfl (dU rfl (dU rfl (dU rfl (dU rfl (qS rfl)))))))) (ba (ar aJ) (ba (ar aJ) (ba (ar aJ) (ba (ar aJ) (ba (ar aJ) (ba (ar aJ) (ba (ar aJ) (ba (ar aJ) bz)))))))) rfl
       refine ah ?_
       obtain rfl:=osi hq88
       exact av ((),l61) (dU rfl (dU rfl (dU rfl (dU rfl (dU rfl (dU rfl (dU rfl (qS rfl)))))))) (ba (ar aJ) (ba (ar aJ) (ba (ar aJ) (ba (ar aJ) (ba (ar aJ) (ba (ar aJ) (ba (ar aJ) (ba (ar aJ) bz)))))))) rfl
      rintro ⟨_,l86⟩ τ hz;(try dsimp only at hz);subst q88;(try dsimp only at hb72);dsimp only [au]
      refine af (cj 7 [0,5] [196,198,199,200,201] [(197,pO a65 l64.length c66),(202,.agg [pS x76.1.Code,pI v80,pB x84.2])] (by kernel_rfl) (al rfl (bw rfl rfl rfl rfl rfl (fL rfl iP) rfl rfl rfl rfl (fun b91=>aa hb72 fun l93 hl93 hb72=>?_))))
      refine al rfl (bV (enc:=Zl.enc) rfl rfl rfl rfl rfl rfl rfl rfl rfl fy (by exact ar (ar (ar (ar (ar (ar (ar (ar aJ)))))))) hl93 (fun a94 c95=>?_))
      refine aF 1 [(205,pP b12 4)] (by kernel_rfl) (aS rfl rfl (an (vs:=[pO a94 l93.length c95]) rfl rfl rfl rfl rfl (dl (dl cw)) (dZ (dZ (dZ (dZ nD)))) (aG (dx (ai [146,147] [(27,pI (IntKind.i64.wrap (v62+1)))] (by kernel_rfl) ?_)))))
      exact aR hb72 (a94,c95) (dU rfl (dU rfl (dU rfl (dU rfl (qS rfl))))) (ba (ar (ar aJ)) (ba (ar (ar aJ)) (ba (ar (ar aJ)) (ba (ar (ar aJ)) (ba (ar (ar aJ)) (ba (ar (ar (ar aJ))) cg))))))
     refine aH ?_
     refine cd hb72 (fun ht=>ak rfl ?_)
     exact gE ((a65,c66),(l61,l64)) (dU rfl (qS rfl)) (ba aJ (ba aJ (ba (ar (ar aJ)) (ba (ar (ar aJ)) (ba (ar (ar aJ)) bz))))) ht.symm
    rintro ⟨⟨a69,c70⟩,⟨l67,l71⟩⟩ τ ρ1 hsub97 hz;(try dsimp only at hz hsub97);subst q73;(try dsimp only at hq36);dsimp only [au]
    refine aA ?_
    obtain rfl:=osi hq36
    exact av ((a69,c70),(l67,l42,l71)) (dU rfl (qS rfl)) (PSub.trans zs5 hsub97) rfl
   rintro ⟨⟨a33,c34⟩,⟨l30,l31,l35⟩⟩ τ hz;(try dsimp only at hz);subst q36;(try dsimp only at hb26);dsimp only [au]
   refine ai [78,79] [(20,pI (IntKind.i64.wrap (v15+1)))] (by kernel_rfl) ?_
   exact aR hb26 (a33,c34) (dU rfl (qS rfl)) zs5
  refine aH ?_
  refine cd hb26 (fun ht=>ak rfl ?_)
  exact av ((a18,c19),(l13,l14,l17)) (iq rfl) (ba aJ (ba aJ (ba (ar (ar aJ)) bz))) ht.symm
 rintro ⟨⟨a23,c24⟩,⟨l20,l21,l25⟩⟩ τ hz;(try dsimp only at hz);subst q27;(try dsimp only at h);dsimp only [au]
 refine ae (aa h fun l98 hl98 h=>af (aY 6 [] [206,207,208,209] [(210,pL eS l98),(211,pP b12 3)] (Ab 4 eS 1 (fun _=>rfl) hl98 bh) (by kernel_rfl) (aS rfl rfl (an (vs:=[pL eS l98]) rfl rfl rfl rfl rfl cw (dZ (dZ (dZ nD))) (aG (ca (af ?_)))))))
 refine mq (css:=List.map Zl.enc l25) (a:=a23) (by exact ar (ar aJ)) ?_
 refine jR (k:=4) (enc:=Zl.enc) (xs:=l25) (b:=b12) (a:=a23) rfl fy (dl cw) (fu 2 [1] [(212,.agg [pS x5.1.Code,pI x5.1.Price,pB x5.1.Obtained,pL eS l98,pL Zl.enc l25]),(213,pL Za.enc l20)] (by kernel_rfl) (aS rfl rfl (an (vs:=[pS x5.1.Code,pI x5.1.Price,pB x5.1.Obtained,pL eS l98,pL Zl.enc l25]) rfl rfl rfl rfl rfl (dl (dl cw)) Gy (aI [(11,pL Za.enc l20)] (by kernel_rfl) (dm ?_)))))
 obtain rfl:=osi h
 exact aP (cD (dV rfl uk rfl) (aO rfl)) bz ⟨rfl,rfl⟩
def gY (p0:(List Za)) (p1:(List Za)):Option Bool:=cond ((p0.length:Int) != (p1.length:Int)) (some false) ((aV (S:=Int) (T:=(Unit)⊕(_)) (fun v2=>cond (decide (v2<(p0.length:Int))) ((idx p0 v2).bind fun m6=>(idx p1 v2).bind fun m7=>cond (!(Za.eqb m6 m7)) (some (.inr (.inr false))) (some (.inl (IntKind.i64.wrap (v2+1))))) (some (.inr (.inl ())))) FUEL 0).bind fun q=>match q with | .inl _=>some true | .inr e=>some e)
theorem qJ {p0:(List Za)} {p1:(List Za)} {r:Bool}  (h:gY p0 p1=some r):PF 20 [pL Za.enc p0,pL Za.enc p1] (pB r):=by
 unfold gY at h
 refine bd ?_
 refine dp Tryz.func20 rfl Tryz.ntmps20 Tryz.results20 rfl (aU [4] (by kernel_rfl) (co (bF [6,7,8,9] [(10,pB ((p0.length:Int) != (p1.length:Int)))] (by kernel_rfl) rfl h (fun hc1 h=>?_) fun hc1 h=>?_)))
 ·refine ae ?_
  refine cZ [(4,pB false)] (by kernel_rfl) (ap ?_)
  exact zz r h rfl
 refine ah ?_
 refine co (aj [(5,pI 0)] (by kernel_rfl) (fa h fun q4 hq4 h=>?_))
 refine am (Y:=Unit×Unit) (fun (_,_)=>[]) (fun (_,_)=>[]) (fun (_,_)=>q4=Sum.inl ()) ?_ ?_
 ·refine aw ?_
  refine aB (Y:=Unit) (S:=Int) _ hq4 (fun _ v2=>[(0,pL Za.enc p0),(1,pL Za.enc p1),(5,pI v2)]) (fun _ v2=>[]) () (lM rfl) bz ?_
  rintro _ v2 o τ hb3;(try dsimp only at hb3);dsimp only [au]
  refine cT (bF [11,12,13] [(14,pB (decide (v2<(p0.length:Int))))] (by kernel_rfl) rfl hb3 (fun hc5 hb3=>?_) fun hc5 hb3=>?_)
  ·refine ah ?_
   refine dq (bj (ρd:=[]) [(0,0),(1,0),(2,0),(3,0),(4,0),(5,0),(6,0),(7,0),(8,0)] _ (List.Perm.refl _) (by kernel_rfl) rfl (aa hb3 fun m6 hm6 hb3=>aa hb3 fun m7 hm7 hb3=>bv 9 [] (rg 17 8) [(25,pB (!(Za.eqb m6 m7)))] (cr 2 Za.enc hm6 (cr 6 Za.enc hm7 (yC 8 Za.eqok28 bh))) (by kernel_rfl) (bB (cR rfl hb3 (fun hc8 hb3=>?_) fun hc8 hb3=>?_))))
   ·refine ae ?_
    refine cZ [(4,pB false)] (by kernel_rfl) (dM ?_)
    refine az hb3 (fun ht=>?_);subst ht
    refine cS ?_
    exact zz r h rfl
   refine ah ?_
   refine dx (ai [15,16] [(5,pI (IntKind.i64.wrap (v2+1)))] (by kernel_rfl) ?_)
   exact aR hb3 () (lM rfl) bz
  refine aH ?_
  refine cd hb3 (fun ht=>ak rfl ?_)
  exact av ((),()) nC bz ht.symm
 rintro ⟨_,_⟩ τ hz;(try dsimp only at hz);subst q4;(try dsimp only at h);dsimp only [au]
 refine ae (cZ [(4,pB true)] (by kernel_rfl) ?_)
 exact zz r h rfl
def e7 (p0:Int):Option Bool:=some ((decide (65≤p0))&&(decide (p0≤90)))
theorem jX {p0:Int} {r:Bool}  (h:e7 p0=some r):PF 120 [pY p0] (pB r):=by
 unfold e7 at h
 refine bd ?_
 refine dp Tryz.func120 rfl Tryz.ntmps120 Tryz.results120 rfl (aU [2] (by kernel_rfl) (ca (ai (rg 3 6) [(2,pB ((decide (65≤p0))&&(decide (p0≤90))))] (by kernel_rfl) (dm ?_))))
 exact zz r h rfl
def cq (p0:ByteArray):Option Bool:=(gd ((p0.size:Int) == 2) (idx p0.data.toList 0)).bind fun c1=>(gd ((p0.size:Int) == 2) (e7 (c1.toNat:Int))).bind fun x2=>(gd (((p0.size:Int) == 2)&&x2) (idx p0.data.toList 1)).bind fun c3=>(gd (((p0.size:Int) == 2)&&x2) (e7 (c3.toNat:Int))).bind fun x4=>some ((((p0.size:Int) == 2)&&x2)&&x4)
theorem fT {p0:ByteArray} {r:Bool}  (h:cq p0=some r):PF 72 [pS p0] (pB r):=by
 unfold cq at h
 refine bd ?_
 refine dp Tryz.func72 rfl Tryz.ntmps72 Tryz.results72 rfl (aU [2] (by kernel_rfl) (cN h fun c1 hc1 h=>aa h fun x2 hx2 h=>aa h fun c3 hc3 h=>aa h fun x4 hx4 h=>aq [] (rg 3 13) [(2,pB ((((p0.size:Int) == 2)&&x2)&&x4))] (tm 5 (cA hc1) (dK 6 (fun hc=>jX (cA hx2 hc)) (tm 10 (cA hc3) (dK 11 (fun hc=>jX (cA hx4 hc)) bh)))) (by kernel_rfl) (dm ?_)))
 exact zz r h rfl
def dP (p0:(List ByteArray)):Option Bool:=(aV (S:=Int) (T:=(Unit)⊕(_)) (fun v1=>cond (decide (v1<(p0.length:Int))) ((idx p0 v1).bind fun m5=>(cq m5).bind fun x6=>(gd ((!(!x6))&&(decide (0<v1))) (idx p0 (IntKind.i64.wrap (v1 - 1)))).bind fun m7=>cond ((!x6)||((decide (0<v1))&&(Op.bytesLess m5.toList m7.toList||decide (m5=m7)))) (some (.inr (.inr false))) (some (.inl (IntKind.i64.wrap (v1+1))))) (some (.inr (.inl ())))) FUEL 0).bind fun q=>match q with | .inl _=>some true | .inr e=>some e
theorem na {p0:(List ByteArray)} {r:Bool}  (h:dP p0=some r):PF 111 [pL eS p0] (pB r):=by
 unfold dP at h
 refine bd ?_
 refine dp Tryz.func111 rfl Tryz.ntmps111 Tryz.results111 rfl (aU [2] (by kernel_rfl) (co (aj [(5,pL eS p0),(6,pI (p0.length:Int)),(7,pI 0)] (by kernel_rfl) (fa h fun q3 hq3 h=>?_))))
 refine am (Y:=Unit×Unit) (fun (_,_)=>[]) (fun (_,_)=>[]) (fun (_,_)=>q3=Sum.inl ()) ?_ ?_
 ·refine aw ?_
  refine aB (Y:=Unit) (S:=Int) _ hq3 (fun _ v1=>[(0,pL eS p0),(5,pL eS p0),(6,pI (p0.length:Int)),(7,pI v1)]) (fun _ v1=>[]) () (iq rfl) bz ?_
  rintro _ v1 o τ hb2;(try dsimp only at hb2);dsimp only [au]
  refine ae (aj [(8,pB (decide (v1<(p0.length:Int))))] (by kernel_rfl) (ca (jG rfl hb2 (fun hc4 hb2=>?_) fun hc4 hb2=>?_)))
  ·refine ah ?_
   refine dq (aa hb2 fun m5 hm5 hb2=>aq [] [9,10,11] [(3,pI v1),(4,pS m5)] (cr 1 eS hm5 bh) (by kernel_rfl) (cN hb2 fun x6 hx6 hb2=>aa hb2 fun m7 hm7 hb2=>aq [] (rg 12 15) [(27,pB ((!x6)||((decide (0<v1))&&(Op.bytesLess m5.toList m7.toList||decide (m5=m7)))))] (bi 1 (fT hx6) (eG 11 eS (cA hm7) bh)) (by kernel_rfl) (cR rfl hb2 (fun hc8 hb2=>?_) fun hc8 hb2=>?_)))
   ·refine ae ?_
    refine cZ [(2,pB false)] (by kernel_rfl) (dM ?_)
    refine az hb2 (fun ht=>?_);subst ht
    refine cS ?_
    exact zz r h rfl
   refine ah ?_
   refine dx (ai [28] [(7,pI (IntKind.i64.wrap (v1+1)))] (by kernel_rfl) ?_)
   exact aR hb2 () (iq rfl) bz
  refine aH ?_
  refine cd hb2 (fun ht=>ak rfl ?_)
  exact av ((),()) nC bz ht.symm
 rintro ⟨_,_⟩ τ hz;(try dsimp only at hz);subst q3;(try dsimp only at h);dsimp only [au]
 refine ae (cZ [(2,pB true)] (by kernel_rfl) ?_)
 exact zz r h rfl
def eX (p0:ByteArray):Option Bool:=(gd ((p0.size:Int) == 2) (idx p0.data.toList 0)).bind fun c1=>(gd (((p0.size:Int) == 2)&&(decide (65≤(c1.toNat:Int)))) (idx p0.data.toList 0)).bind fun c2=>(gd ((((p0.size:Int) == 2)&&(decide (65≤(c1.toNat:Int))))&&(decide ((c2.toNat:Int)≤90))) (idx p0.data.toList 1)).bind fun c3=>(gd (((((p0.size:Int) == 2)&&(decide (65≤(c1.toNat:Int))))&&(decide ((c2.toNat:Int)≤90)))&&(decide (65≤(c3.toNat:Int)))) (idx p0.data.toList 1)).bind fun c4=>some ((((((p0.size:Int) == 2)&&(decide (65≤(c1.toNat:Int))))&&(decide ((c2.toNat:Int)≤90)))&&(decide (65≤(c3.toNat:Int))))&&(decide ((c4.toNat:Int)≤90)))
theorem kW {p0:ByteArray} {r:Bool}  (h:eX p0=some r):PF 67 [pS p0] (pB r):=by
 unfold eX at h
 refine bd ?_
 refine dp Tryz.func67 rfl Tryz.ntmps67 Tryz.results67 rfl (aU [2] (by kernel_rfl) (cN h fun c1 hc1 h=>aa h fun c2 hc2 h=>aa h fun c3 hc3 h=>aa h fun c4 hc4 h=>aq [] (rg 3 23) [(2,pB ((((((p0.size:Int) == 2)&&(decide (65≤(c1.toNat:Int))))&&(decide ((c2.toNat:Int)≤90)))&&(decide (65≤(c3.toNat:Int))))&&(decide ((c4.toNat:Int)≤90))))] (tm 5 (cA hc1) (tm 10 (cA hc2) (tm 15 (cA hc3) (tm 20 (cA hc4) bh)))) (by kernel_rfl) (dm ?_)))
 exact zz r h rfl
def gx (p0:ByteArray):Option Int:=(aV (S:=Int) (T:=(Unit)⊕(_)) (fun v1=>cond (decide (v1<(p0.size:Int))) ((idx p0.data.toList v1).bind fun c5=>(gd (!(decide ((c5.toNat:Int)<48))) (idx p0.data.toList v1)).bind fun c6=>cond ((decide ((c5.toNat:Int)<48))||(decide (57<(c6.toNat:Int)))) (some (.inr (.inr (0:Int)))) (some (.inl (IntKind.i64.wrap (v1+1))))) (some (.inr (.inl ())))) FUEL 0).bind fun q=>match q with | .inl _=>cond ((decide (8<(p0.size:Int)))||((Int.tmod (p0.size:Int) 2) == 1)) (some (0:Int)) (some (p0.size:Int)) | .inr e=>some e
theorem nc {p0:ByteArray} {r:Int}  (h:gx p0=some r):PF 113 [pS p0] (pI r):=by
 unfold gx at h
 refine bd ?_
 refine dp Tryz.func113 rfl Tryz.ntmps113 Tryz.results113 rfl (aU [2] (by kernel_rfl) (co (aj [(3,pI 0)] (by kernel_rfl) (fa h fun q3 hq3 h=>?_))))
 refine am (Y:=Unit×Unit) (fun (_,_)=>[(0,pS p0)]) (fun (_,_)=>[]) (fun (_,_)=>q3=Sum.inl ()) ?_ ?_
 ·refine aw ?_
  refine aB (Y:=Unit) (S:=Int) _ hq3 (fun _ v1=>[(0,pS p0),(3,pI v1)]) (fun _ v1=>[]) () (lL rfl) bz ?_
  rintro _ v1 o τ hb2;(try dsimp only at hb2);dsimp only [au]
  refine cT (bF [4,5,6] [(7,pB (decide (v1<(p0.size:Int))))] (by kernel_rfl) rfl hb2 (fun hc4 hb2=>?_) fun hc4 hb2=>?_)
  ·refine ah ?_
   refine dq (aa hb2 fun c5 hc5 hb2=>aa hb2 fun c6 hc6 hb2=>aq [] (rg 10 9) [(19,pB ((decide ((c5.toNat:Int)<48))||(decide (57<(c6.toNat:Int)))))] (fosx 2 hc5 (tm 7 (cA hc6) bh)) (by kernel_rfl) (cR rfl hb2 (fun hc7 hb2=>?_) fun hc7 hb2=>?_))
   ·refine ae ?_
    refine cZ [(2,pI 0)] (by kernel_rfl) (dM ?_)
    refine az hb2 (fun ht=>?_);subst ht
    refine cS ?_
    exact zz r h rfl
   refine ah ?_
   refine dx (ai [8,9] [(3,pI (IntKind.i64.wrap (v1+1)))] (by kernel_rfl) ?_)
   exact aR hb2 () (lL rfl) bz
  refine aH ?_
  refine cd hb2 (fun ht=>ak rfl ?_)
  exact av ((),()) (qP rfl) bz ht.symm
 rintro ⟨_,_⟩ τ hz;(try dsimp only at hz);subst q3;(try dsimp only at h);dsimp only [au]
 refine cT (bF (rg 20 8) [(28,pB ((decide (8<(p0.size:Int)))||((Int.tmod (p0.size:Int) 2) == 1)))] (by kernel_rfl) rfl h (fun hc8 h=>?_) fun hc8 h=>?_)
 ·refine ae ?_
  refine cZ [(2,pI 0)] (by kernel_rfl) (ap ?_)
  exact zz r h rfl
 refine ah ?_
 refine ca (ai [29,30] [(2,pI (p0.size:Int))] (by kernel_rfl) (dm ?_))
 exact zz r h rfl
def kX (p0:ByteArray):Option Bool:=(aV (S:=Int) (T:=(Unit)⊕(_)) (fun v1=>cond (decide (v1<(p0.size:Int))) ((idx p0.data.toList v1).bind fun c5=>(gd (!(decide ((c5.toNat:Int)<97))) (idx p0.data.toList v1)).bind fun c6=>cond ((decide ((c5.toNat:Int)<97))||(decide (122<(c6.toNat:Int)))) (some (.inr (.inr false))) (some (.inl (IntKind.i64.wrap (v1+1))))) (some (.inr (.inl ())))) FUEL 0).bind fun q=>match q with | .inl _=>some ((decide (1≤(p0.size:Int)))&&(decide ((p0.size:Int)≤12))) | .inr e=>some e
theorem qU {p0:ByteArray} {r:Bool}  (h:kX p0=some r):PF 157 [pS p0] (pB r):=by
 unfold kX at h
 refine bd ?_
 refine dp Tryz.func157 rfl Tryz.ntmps157 Tryz.results157 rfl (aU [2] (by kernel_rfl) (co (aj [(3,pI 0)] (by kernel_rfl) (fa h fun q3 hq3 h=>?_))))
 refine am (Y:=Unit×Unit) (fun (_,_)=>[(0,pS p0)]) (fun (_,_)=>[]) (fun (_,_)=>q3=Sum.inl ()) ?_ ?_
 ·refine aw ?_
  refine aB (Y:=Unit) (S:=Int) _ hq3 (fun _ v1=>[(0,pS p0),(3,pI v1)]) (fun _ v1=>[]) () (lL rfl) bz ?_
  rintro _ v1 o τ hb2;(try dsimp only at hb2);dsimp only [au]
  refine cT (bF [4,5,6] [(7,pB (decide (v1<(p0.size:Int))))] (by kernel_rfl) rfl hb2 (fun hc4 hb2=>?_) fun hc4 hb2=>?_)
  ·refine ah ?_
   refine dq (aa hb2 fun c5 hc5 hb2=>aa hb2 fun c6 hc6 hb2=>aq [] (rg 10 9) [(19,pB ((decide ((c5.toNat:Int)<97))||(decide (122<(c6.toNat:Int)))))] (fosx 2 hc5 (tm 7 (cA hc6) bh)) (by kernel_rfl) (cR rfl hb2 (fun hc7 hb2=>?_) fun hc7 hb2=>?_))
   ·refine ae ?_
    refine cZ [(2,pB false)] (by kernel_rfl) (dM ?_)
    refine az hb2 (fun ht=>?_);subst ht
    refine cS ?_
    exact zz r h rfl
   refine ah ?_
   refine dx (ai [8,9] [(3,pI (IntKind.i64.wrap (v1+1)))] (by kernel_rfl) ?_)
   exact aR hb2 () (lL rfl) bz
  refine aH ?_
  refine cd hb2 (fun ht=>ak rfl ?_)
  exact av ((),()) (qP rfl) bz ht.symm
 rintro ⟨_,_⟩ τ hz;(try dsimp only at hz);subst q3;(try dsimp only at h);dsimp only [au]
 refine ae (ai (rg 20 8) [(2,pB ((decide (1≤(p0.size:Int)))&&(decide ((p0.size:Int)≤12))))] (by kernel_rfl) (dm ?_))
 exact zz r h rfl
def lC (p0:(List ByteArray)):Option Bool:=(aV (S:=Int) (T:=(Unit)⊕(_)) (fun v1=>cond (decide (v1<(p0.length:Int))) ((idx p0 v1).bind fun m5=>(kX m5).bind fun x6=>(gd ((!(!x6))&&(decide (0<v1))) (idx p0 (IntKind.i64.wrap (v1 - 1)))).bind fun m7=>(gd ((!(!x6))&&(decide (0<v1))) (idx p0 v1)).bind fun m8=>cond ((!x6)||((decide (0<v1))&&(!Op.bytesLess m7.toList m8.toList))) (some (.inr (.inr false))) (some (.inl (IntKind.i64.wrap (v1+1))))) (some (.inr (.inl ())))) FUEL 0).bind fun q=>match q with | .inl _=>some (decide ((p0.length:Int)≤8)) | .inr e=>some e
theorem vw {p0:(List ByteArray)} {r:Bool}  (h:lC p0=some r):PF 114 [pL eS p0] (pB r):=by
 unfold lC at h
 refine bd ?_
 refine dp Tryz.func114 rfl Tryz.ntmps114 Tryz.results114 rfl (aU [2] (by kernel_rfl) (co (aj [(3,pI 0)] (by kernel_rfl) (fa h fun q3 hq3 h=>?_))))
 refine am (Y:=Unit×Unit) (fun (_,_)=>[(0,pL eS p0)]) (fun (_,_)=>[]) (fun (_,_)=>q3=Sum.inl ()) ?_ ?_
 ·refine aw ?_
  refine aB (Y:=Unit) (S:=Int) _ hq3 (fun _ v1=>[(0,pL eS p0),(3,pI v1)]) (fun _ v1=>[]) () (lL rfl) bz ?_
  rintro _ v1 o τ hb2;(try dsimp only at hb2);dsimp only [au]
  refine cT (bF [4,5,6] [(7,pB (decide (v1<(p0.length:Int))))] (by kernel_rfl) rfl hb2 (fun hc4 hb2=>?_) fun hc4 hb2=>?_)
  ·refine ah ?_
   refine dq (bj (ρd:=[]) [(0,0),(1,0),(2,0),(3,0),(4,1),(5,0),(6,0),(7,0),(8,0),(9,0),(10,0),(11,0),(12,0),(13,0),(14,0),(15,0),(16,0),(17,0),(18,0),(19,0),(20,0),(21,0)] _ (List.Perm.refl _) (by kernel_rfl) rfl (aa hb2 fun m5 hm5 hb2=>aa hb2 fun x6 hx6 hb2=>aa hb2 fun m7 hm7 hb2=>aa hb2 fun m8 hm8 hb2=>bv 22 [] (rg 10 21) [(31,pB ((!x6)||((decide (0<v1))&&(!Op.bytesLess m7.toList m8.toList))))] (cr 2 eS hm5 (bi 4 (qU hx6) (eG 13 eS (cA hm7) (eG 17 eS (cA hm8) bh)))) (by kernel_rfl) (bB (cR rfl hb2 (fun hc9 hb2=>?_) fun hc9 hb2=>?_))))
   ·refine ae ?_
    refine cZ [(2,pB false)] (by kernel_rfl) (dM ?_)
    refine az hb2 (fun ht=>?_);subst ht
    refine cS ?_
    exact zz r h rfl
   refine ah ?_
   refine dx (ai [8,9] [(3,pI (IntKind.i64.wrap (v1+1)))] (by kernel_rfl) ?_)
   exact aR hb2 () (lL rfl) bz
  refine aH ?_
  refine cd hb2 (fun ht=>ak rfl ?_)
  exact av ((),()) (qP rfl) bz ht.symm
 rintro ⟨_,_⟩ τ hz;(try dsimp only at hz);subst q3;(try dsimp only at h);dsimp only [au]
 refine ae (ai [32,33,34] [(2,pB (decide ((p0.length:Int)≤8)))] (by kernel_rfl) (dm ?_))
 exact zz r h rfl
def kY (p0:(List Zd)):Option Int:=cond (decide (64<(p0.length:Int))) (some (8:Int)) ((aV (S:=Int) (T:=(Unit)⊕(_)) (fun v2=>cond (decide (v2<(p0.length:Int))) ((idx p0 v2).bind fun m6=>cond ((decide (m6.ID<1))||(decide (1000000<m6.ID))) (some (.inr (.inr (2:Int)))) ((gd (decide (0<v2)) (idx p0 (IntKind.i64.wrap (v2 - 1)))).bind fun m9=>cond ((decide (0<v2))&&(decide (m6.ID≤m9.ID))) (some (.inr (.inr (9:Int)))) ((gx m6.Code).bind fun x11=>(gd (!(decide (x11<6))) (eX m6.Country)).bind fun x12=>(gd (!((decide (x11<6))||(!x12))) (lC m6.Processes)).bind fun x13=>cond (((decide (x11<6))||(!x12))||(!x13)) (some (.inr (.inr (1:Int)))) (cond ((decide (m6.Price<1))||(decide (1000000000000<m6.Price))) (some (.inr (.inr (2:Int)))) (cond (decide (8<(m6.Inputs.length:Int))) (some (.inr (.inr (8:Int)))) (cond (m6.Obtained&&(decide (0<(m6.Inputs.length:Int)))) (some (.inr (.inr (1:Int)))) ((aV (S:=Int) (T:=(Unit)⊕(_)) (fun v18=>cond (decide (v18<(m6.Inputs.length:Int))) ((gd (decide (0<v18)) (idx m6.Inputs v18)).bind fun m22=>(gd (decide (0<v18)) (idx m6.Inputs (IntKind.i64.wrap (v18 - 1)))).bind fun m23=>cond ((decide (0<v18))&&(decide (m22.Product≤m23.Product))) (some (.inr (.inr (.inr (.inr (9:Int)))))) ((idx m6.Inputs v18).bind fun m25=>(fR p0 m25.Product).bind fun x26=>cond (!x26.2) (some (.inr (.inr (.inr (.inr (6:Int)))))) ((idx m6.Inputs v18).bind fun m29=>(gd (!(decide (m29.Value<0))) (idx m6.Inputs v18)).bind fun m30=>cond ((decide (m29.Value<0))||(decide (1000000000000<m30.Value))) (some (.inr (.inr (.inr (.inr (2:Int)))))) (some (.inl (IntKind.i64.wrap (v18+1))))))) (some (.inr (.inl ())))) FUEL 0).bind fun q=>match q with | .inl _=>some (.inl (IntKind.i64.wrap (v2+1))) | .inr e=>some e))))))) (some (.inr (.inl ())))) FUEL 0).bind fun q=>match q with | .inl _=>some (0:Int) | .inr e=>some e)
theorem wI {p0:(List Zd)} {r:Int}  (h:kY p0=some r):PF 65 [pL Zd.enc p0] (pI r):=by
 unfold kY at h
 refine bd ?_
 refine dp Tryz.func65 rfl Tryz.ntmps65 Tryz.results65 rfl (aU [2] (by kernel_rfl) (co (bF [8,9] [(10,pB (decide (64<(p0.length:Int))))] (by kernel_rfl) rfl h (fun hc1 h=>?_) fun hc1 h=>?_)))
 ·refine ae ?_
  refine cZ [(2,pI 8)] (by kernel_rfl) (ap ?_)
  exact zz r h rfl
 refine ah ?_
 refine co (aj [(3,pI 0)] (by kernel_rfl) (fa h fun q4 hq4 h=>?_))
 refine am (Y:=Unit×Unit) (fun (_,_)=>[]) (fun (_,_)=>[]) (fun (_,_)=>q4=Sum.inl ()) ?_ ?_
 ·refine aw ?_
  refine aB (Y:=Unit) (S:=Int) _ hq4 (fun _ v2=>[(0,pL Zd.enc p0),(3,pI v2)]) (fun _ v2=>[]) () (lL rfl) bz ?_
  rintro _ v2 o τ hb3;(try dsimp only at hb3);dsimp only [au]
  refine cT (bF [11,12,13] [(14,pB (decide (v2<(p0.length:Int))))] (by kernel_rfl) rfl hb3 (fun hc5 hb3=>?_) fun hc5 hb3=>?_)
  ·refine ah ?_
   refine dq (aa hb3 fun m6 hm6 hb3=>af (aY 4 [] [17,18,19] [(20,.agg (aK m6))] (cr 2 Zd.enc hm6 bh) (by kernel_rfl) (al rfl (aN (cs:=[pI 0,pS ByteArray.empty,pS ByteArray.empty,pI 0,pB false,pN,pN]) rfl rfl rfl rfl (fun b7=>aS rfl rfl (an (vs:=(aK m6)) rfl rfl rfl rfl rfl cw nP (aG (dq (aM [0,0] (rg 22 8) [(21,pB ((decide (m6.ID<1))||(decide (1000000<m6.ID))))] (by kernel_rfl) (cR rfl hb3 (fun hc8 hb3=>?_) fun hc8 hb3=>?_))))))))))
   ·refine ae ?_
    refine cZ [(2,pI 2)] (by kernel_rfl) (dM (dM ?_))
    refine az hb3 (fun ht=>?_);subst ht
    refine cS ?_
    exact zz r h rfl
   refine ae ?_
   refine bj (ρd:=[]) [(0,0),(1,0),(2,0),(3,0),(4,0),(5,0),(6,0),(7,0),(8,0),(9,0),(10,0),(11,0),(12,0),(13,0)] _ (List.Perm.refl _) (by kernel_rfl) rfl (aa hb3 fun m9 hm9 hb3=>bv 14 [0] (rg 31 13) [(30,pB ((decide (0<v2))&&(decide (m6.ID≤m9.ID))))] (eG 8 Zd.enc (cA hm9) bh) (by kernel_rfl) (bB (cR rfl hb3 (fun hc10 hb3=>?_) fun hc10 hb3=>?_)))
   ·refine ae ?_
    refine cZ [(2,pI 9)] (by kernel_rfl) (dM (dM ?_))
    refine az hb3 (fun ht=>?_);subst ht
    refine cS ?_
    exact zz r h rfl
   refine ae ?_
   refine aa hb3 fun x11 hx11 hb3=>aa hb3 fun x12 hx12 hb3=>aa hb3 fun x13 hx13 hb3=>aq [0,0,0] (rg 45 16) [(44,pB (((decide (x11<6))||(!x12))||(!x13)))] (bi 2 (nc hx11) (dK 7 (fun hc=>kW (cA hx12 hc)) (dK 13 (fun hc=>vw (cA hx13 hc)) bh))) (by kernel_rfl) (cR rfl hb3 (fun hc14 hb3=>?_) fun hc14 hb3=>?_)
   ·refine ae ?_
    refine cZ [(2,pI 1)] (by kernel_rfl) (dM (dM ?_))
    refine az hb3 (fun ht=>?_);subst ht
    refine cS ?_
    exact zz r h rfl
   refine ae ?_
   refine aM [0,0] (rg 62 8) [(61,pB ((decide (m6.Price<1))||(decide (1000000000000<m6.Price))))] (by kernel_rfl) (cR rfl hb3 (fun hc15 hb3=>?_) fun hc15 hb3=>?_)
   ·refine ae ?_
    refine cZ [(2,pI 2)] (by kernel_rfl) (dM (dM ?_))
    refine az hb3 (fun ht=>?_);subst ht
    refine cS ?_
    exact zz r h rfl
   refine ae ?_
   refine aM [0] [71,72,73,74] [(70,pB (decide (8<(m6.Inputs.length:Int))))] (by kernel_rfl) (cR rfl hb3 (fun hc16 hb3=>?_) fun hc16 hb3=>?_)
   ·refine ae ?_
    refine cZ [(2,pI 8)] (by kernel_rfl) (dM (dM ?_))
    refine az hb3 (fun ht=>?_);subst ht
    refine cS ?_
    exact zz r h rfl
   refine ae ?_
   refine aM [0,0] (rg 76 8) [(75,pB (m6.Obtained&&(decide (0<(m6.Inputs.length:Int)))))] (by kernel_rfl) (cR rfl hb3 (fun hc17 hb3=>?_) fun hc17 hb3=>?_)
   ·refine ae ?_
    refine cZ [(2,pI 1)] (by kernel_rfl) (dM (dM ?_))
    refine az hb3 (fun ht=>?_);subst ht
    refine cS ?_
    exact zz r h rfl
   refine ah ?_
   refine aA (ca (aj [(5,pI 0)] (by kernel_rfl) (fa hb3 fun q20 hq20 hb3=>?_)))
   refine ip (Y:=Unit×Unit) (fun (_,_)=>[(0,pL Zd.enc p0),(3,pI v2)]) (fun (_,_)=>[]) (fun (_,_)=>q20=Sum.inl ()) ?_ ?_
   ·refine aw ?_
    refine aB (Y:=Unit) (S:=Int) _ hq20 (fun _ v18=>[(0,pL Zd.enc p0),(3,pI v2),(4,pP b7 0),(5,pI v18)]) (fun _ v18=>[PRes.b b7 76 (aK m6)]) () (iq rfl) cg ?_
    rintro _ v18 o τ hb19;(try dsimp only at hb19);dsimp only [au]
    refine cT (aM [0] [84,85,86,87] [(88,pB (decide (v18<(m6.Inputs.length:Int))))] (by kernel_rfl) (cR rfl hb19 (fun hc21 hb19=>?_) fun hc21 hb19=>?_))
    ·refine ah ?_
     refine dq (ae (bj (ρd:=[]) [(0,0),(1,0),(2,0),(3,0),(4,0),(5,0),(6,0),(7,0),(8,0),(9,0),(10,0),(11,0),(12,0),(13,0),(14,0),(15,0),(16,0),(17,0)] _ (List.Perm.refl _) (by kernel_rfl) rfl (aa hb19 fun m22 hm22 hb19=>aa hb19 fun m23 hm23 hb19=>bv 18 [0,0] (rg 91 17) [(108,pB ((decide (0<v18))&&(decide (m22.Product≤m23.Product))))] (eG 6 Zg.enc (cA hm22) (eG 13 Zg.enc (cA hm23) bh)) (by kernel_rfl) (bB (cR rfl hb19 (fun hc24 hb19=>?_) fun hc24 hb19=>?_)))))
     ·refine ae ?_
      refine cZ [(2,pI 9)] (by kernel_rfl) (ap (dM ?_))
      refine az hb19 (fun ht=>?_);subst ht
      refine cQ (gF (dM ?_))
      refine az hb3 (fun ht=>?_);subst ht
      refine cS ?_
      exact zz r h rfl
     refine ah ?_
     refine co (aa hb19 fun m25 hm25 hb19=>aa hb19 fun x26 hx26 hb19=>af (aY 11 [0] ((rg 110 8)++[109]) [(118,.agg (aK x26.1)),(119,pB x26.2)] (cr 4 Zg.enc hm25 (bi 7 (jn hx26) bh)) (by kernel_rfl) (al rfl (aN (cs:=[pI 0,pS ByteArray.empty,pS ByteArray.empty,pI 0,pB false,pN,pN]) rfl rfl rfl rfl (fun b27=>aS rfl rfl (an (vs:=(aK x26.1)) rfl rfl rfl rfl rfl cw nP (aI [(7,pB x26.2)] (by kernel_rfl) (ca (bF [120] [(121,pB (!x26.2))] (by kernel_rfl) rfl hb19 (fun hc28 hb19=>?_) fun hc28 hb19=>?_)))))))))
     ·refine ae ?_
      refine cZ [(2,pI 6)] (by kernel_rfl) (ap (dM ?_))
      refine az hb19 (fun ht=>?_);subst ht
      refine cQ (gF (dM ?_))
      refine az hb3 (fun ht=>?_);subst ht
      refine cS ?_
      exact zz r h rfl
     refine ah ?_
     refine cN hb19 fun m29 hm29 hb19=>aa hb19 fun m30 hm30 hb19=>aq [1,1] (rg 122 15) [(137,pB ((decide (m29.Value<0))||(decide (1000000000000<m30.Value))))] (cr 3 Zg.enc hm29 (eG 11 Zg.enc (cA hm30) bh)) (by kernel_rfl) (cR rfl hb19 (fun hc31 hb19=>?_) fun hc31 hb19=>?_)
     ·refine ae ?_
      refine cZ [(2,pI 2)] (by kernel_rfl) (dM ?_)
      refine az hb19 (fun ht=>?_);subst ht
      refine cQ (gF (dM ?_))
      refine az hb3 (fun ht=>?_);subst ht
      refine cS ?_
      exact zz r h rfl
     refine ah ?_
     refine dx (ai [89,90] [(5,pI (IntKind.i64.wrap (v18+1)))] (by kernel_rfl) ?_)
     exact aR hb19 () (iq rfl) (ba (ar aJ) bz)
    refine aH ?_
    refine cd hb19 (fun ht=>ak rfl ?_)
    exact gE ((),()) (lL rfl) bz ht.symm
   rintro ⟨_,_⟩ τ ρ1 hsub32 hz;(try dsimp only at hz hsub32);subst q20;(try dsimp only at hb3);dsimp only [au]
   refine dx (ml hsub32 (ai [15,16] [(3,pI (IntKind.i64.wrap (v2+1)))] (by kernel_rfl) ?_))
   exact aR hb3 () (lL rfl) bz
  refine aH ?_
  refine cd hb3 (fun ht=>ak rfl ?_)
  exact av ((),()) nC bz ht.symm
 rintro ⟨_,_⟩ τ hz;(try dsimp only at hz);subst q4;(try dsimp only at h);dsimp only [au]
 refine ae (cZ [(2,pI 0)] (by kernel_rfl) ?_)
 exact zz r h rfl
def jo (rec:Ze→Option Int) (p0:Ze):Option Int:=(aV (S:=Int×Int) (T:=(Int)) (fun (v2,v3)=>cond ((decide (v3<(p0.Args.length:Int)))&&(decide (v2≤32))) ((idx p0.Args v3).bind fun m8=>(rec m8).bind fun x9=>some (.inl ((IntKind.i64.wrap (v2+x9)),(IntKind.i64.wrap (v3+1))))) (some (.inr v2))) FUEL (1,0)).bind fun v4=>some (pu v4 33)
theorem sL {rec:Ze→Option Int} (hrec:∀ {p0:Ze} {r:Int},rec p0=some r→PF 158 [.agg (aC p0)] (pI r)) {p0:Ze} {r:Int} (h:jo rec p0=some r):PF 158 [.agg (aC p0)] (pI r):=by
 unfold jo at h
 refine bd ?_
 refine dp Tryz.func158 rfl Tryz.ntmps158 Tryz.results158 rfl (cU rfl (bg (cs:=(aC p0)) rfl rfl (fun b1=>bc [2] (by kernel_rfl) (ca (aj [(3,pI 1)] (by kernel_rfl) (co (aj [(4,pI 0)] (by kernel_rfl) (fa h fun q6 hq6 h=>?_))))))))
 refine am (Y:=Unit×Int) (fun (_,v4)=>[(3,pI v4)]) (fun (_,v4)=>[]) (fun (_,v4)=>q6=v4) ?_ ?_
 ·refine aw ?_
  refine aB (Y:=Unit) (S:=Int×Int) _ hq6 (fun _ (v2,v3)=>[(1,pP b1 0),(3,pI v2),(4,pI v3)]) (fun _ (v2,v3)=>[PRes.b b1 84 (aC p0)]) () (lM rfl) cg ?_
  rintro _ ⟨v2,v3⟩ o τ hb5;(try dsimp only at hb5);dsimp only [au]
  refine cT (aM [0] (rg 5 8) [(13,pB ((decide (v3<(p0.Args.length:Int)))&&(decide (v2≤32))))] (by kernel_rfl) (cR rfl hb5 (fun hc7 hb5=>?_) fun hc7 hb5=>?_))
  ·refine ah ?_
   refine ca (aw (aa hb5 fun m8 hm8 hb5=>aa hb5 fun x9 hx9 hb5=>aq [0] (rg 16 8) [(3,pI (IntKind.i64.wrap (v2+x9)))] (pm 4 Ze.enc (Ze.enc_eq _) hm8 (bi 6 (hrec hx9) bh)) (by kernel_rfl) (dx (ai [14,15] [(4,pI (IntKind.i64.wrap (v3+1)))] (by kernel_rfl) ?_))))
   exact aR hb5 () (lM rfl) cg
  refine aH ?_
  refine cd hb5 (fun ht=>ak rfl ?_)
  exact av ((),v2) (qP rfl) bz ht.symm
 rintro ⟨_,v4⟩ τ hz;(try dsimp only at hz);subst q6;(try dsimp only at h);dsimp only [au]
 refine ae (ai [24,25] [(2,pI (pu v4 33))] (by kernel_rfl) (dm ?_))
 exact zz r h rfl
def lp (n:Nat):Ze→Option Int:=Nat.rec (motive:=fun _=>Ze→Option Int) (fun _=>none) (fun _ ih=>jo ih) n
def pV (p0:Ze):Option Int:=lp FUEL p0
theorem tW (n:Nat):∀ {p0:Ze} {r:Int},lp n p0=some r→PF 158 [.agg (aC p0)] (pI r):=by
 induction n with
 | zero=>intros;rename_i h;exact nomatch h
 | succ n ih=>intros;rename_i h;exact sL (fun hr=>ih hr) h
theorem vx {p0:Ze} {r:Int} (h:pV p0=some r):PF 158 [.agg (aC p0)] (pI r):=tW FUEL h
def lD (p0:Ze):Option Bool:=cond (((!(p0.Kind == 2))&&(((p0.Digits != 0)||(decide (0<(p0.Except.length:Int))))||(p0.Tolerance != 0)))||((!(p0.Kind == 3))&&(p0.Limit != 0))) (some false) (some (((p0.Kind == 4)||(decide (p0.Name=(⟨#[]⟩:ByteArray))))&&(((p0.Kind == 5)||(p0.Kind == 6))||((p0.Args.length:Int) == 0))))
theorem vy {p0:Ze} {r:Bool}  (h:lD p0=some r):PF 185 [.agg (aC p0)] (pB r):=by
 unfold lD at h
 refine bd ?_
 refine dp Tryz.func185 rfl Tryz.ntmps185 Tryz.results185 rfl (cU rfl (bg (cs:=(aC p0)) rfl rfl (fun b1=>bc [2] (by kernel_rfl) (ca (bj (ρd:=[]) [(0,0),(1,0),(2,0),(3,0),(4,0),(5,0),(6,0),(7,0)] _ (List.Perm.refl _) (by kernel_rfl) rfl (vr 8 [0,0] (rg 6 6) [(3,pB (p0.Kind == 2)),(4,pB (p0.Kind == 3))] (by kernel_rfl) (bB (co (aM [0,0,0,0] (rg 12 26) [(38,pB (((!(p0.Kind == 2))&&(((p0.Digits != 0)||(decide (0<(p0.Except.length:Int))))||(p0.Tolerance != 0)))||((!(p0.Kind == 3))&&(p0.Limit != 0))))] (by kernel_rfl) (cR rfl h (fun hc2 h=>?_) fun hc2 h=>?_))))))))))
 ·refine ae ?_
  refine cZ [(2,pB false)] (by kernel_rfl) (ap ?_)
  exact zz r h rfl
 refine ah ?_
 refine ca (aM [0,0] (rg 39 8) [(5,pB ((p0.Kind == 5)||(p0.Kind == 6)))] (by kernel_rfl) (ca (aM [0,0,0] (rg 47 17) [(2,pB (((p0.Kind == 4)||(decide (p0.Name=(⟨#[]⟩:ByteArray))))&&(((p0.Kind == 5)||(p0.Kind == 6))||((p0.Args.length:Int) == 0))))] (by kernel_rfl) (dm ?_))))
 exact zz r h rfl
def jq (rec:Ze→Option Bool) (p0:Ze):Option Bool:=(lD p0).bind fun x2=>cond (!x2) (some false) (cond (p0.Kind == 1) (some true) (cond (p0.Kind == 2) ((aV (S:=Int) (T:=(Unit)⊕(_)) (fun v6=>cond (decide (v6<(p0.Except.length:Int))) ((idx p0.Except v6).bind fun m10=>(gx m10).bind fun x11=>(gd ((!(x11 == 0))&&(decide (0<v6))) (idx p0.Except (IntKind.i64.wrap (v6 - 1)))).bind fun m12=>(gd ((!(x11 == 0))&&(decide (0<v6))) (idx p0.Except v6)).bind fun m13=>cond ((x11 == 0)||((decide (0<v6))&&(!Op.bytesLess m12.toList m13.toList))) (some (.inr (.inr false))) (some (.inl (IntKind.i64.wrap (v6+1))))) (some (.inr (.inl ())))) FUEL 0).bind fun q=>match q with | .inl _=>some ((((((p0.Digits == 2)||(p0.Digits == 4))||(p0.Digits == 6))&&(decide ((p0.Except.length:Int)≤6)))&&(decide (0≤p0.Tolerance)))&&(decide (p0.Tolerance≤1000000))) | .inr e=>some e) (cond (p0.Kind == 3) (some ((decide (0≤p0.Limit))&&(decide (p0.Limit≤1000000)))) (cond (p0.Kind == 4) ((kX p0.Name).bind fun x17=>some x17) (Option.bind (cond (p0.Kind == 5) (some (p0.Kind == 5)) (some (p0.Kind == 6))) (fun v18=>cond v18 ((aV (S:=Int) (T:=(Unit)⊕(_)) (fun v22=>cond (decide (v22<(p0.Args.length:Int))) ((idx p0.Args v22).bind fun m26=>(gd (!(m26.Kind == p0.Kind)) (idx p0.Args v22)).bind fun m27=>(gd (!(m26.Kind == p0.Kind)) (rec m27)).bind fun x28=>cond ((m26.Kind == p0.Kind)||(!x28)) (some (.inr (.inr false))) (some (.inl (IntKind.i64.wrap (v22+1))))) (some (.inr (.inl ())))) FUEL 0).bind fun q=>match q with | .inl _=>some ((decide (2≤(p0.Args.length:Int)))&&(decide ((p0.Args.length:Int)≤6))) | .inr e=>some e) (some false)))))))
theorem sM {rec:Ze→Option Bool} (hrec:∀ {p0:Ze} {r:Bool},rec p0=some r→PF 159 [.agg (aC p0)] (pB r)) {p0:Ze} {r:Bool} (h:jq rec p0=some r):PF 159 [.agg (aC p0)] (pB r):=by
 unfold jq at h
 refine bd ?_
 refine dp Tryz.func159 rfl Tryz.ntmps159 Tryz.results159 rfl (cU rfl (bg (cs:=(aC p0)) rfl rfl (fun b1=>bc [2] (by kernel_rfl) (co (aa h fun x2 hx2 h=>aq [0] [5,6] [(7,pB (!x2))] (bi 1 (vy hx2) bh) (by kernel_rfl) (cR rfl h (fun hc3 h=>?_) fun hc3 h=>?_))))))
 ·refine ae ?_
  refine cZ [(2,pB false)] (by kernel_rfl) (ap ?_)
  exact zz r h rfl
 refine ah ?_
 refine co (aM [0] [8] [(9,pI p0.Kind)] (by kernel_rfl) (aL (nX (bF [11] [(10,pB (p0.Kind == 1))] (by kernel_rfl) rfl h (fun hc4 h=>?_) fun hc4 h=>?_))))
 ·refine ae ?_
  refine cZ [(2,pB true)] (by kernel_rfl) (dM ?_)
  exact zz r h rfl
 refine ae ?_
 refine bF [13] [(12,pB (p0.Kind == 2))] (by kernel_rfl) rfl h (fun hc5 h=>?_) fun hc5 h=>?_
 ·refine ae ?_
  refine ae (aj [(3,pI 0)] (by kernel_rfl) (fa h fun q8 hq8 h=>?_))
  refine am (Y:=Unit×Unit) (fun (_,_)=>[(1,pP b1 0)]) (fun (_,_)=>[PRes.b b1 84 (aC p0)]) (fun (_,_)=>q8=Sum.inl ()) ?_ ?_
  ·refine aw ?_
   refine aB (Y:=Unit) (S:=Int) _ hq8 (fun _ v6=>[(1,pP b1 0),(3,pI v6)]) (fun _ v6=>[PRes.b b1 84 (aC p0)]) () (lL rfl) cg ?_
   rintro _ v6 o τ hb7;(try dsimp only at hb7);dsimp only [au]
   refine cT (aM [0] [14,15,16,17] [(18,pB (decide (v6<(p0.Except.length:Int))))] (by kernel_rfl) (cR rfl hb7 (fun hc9 hb7=>?_) fun hc9 hb7=>?_))
   ·refine ah ?_
    refine dq (bj (ρd:=[]) [(0,0),(1,0),(2,0),(3,0),(4,0),(5,1),(6,0),(7,0),(8,0),(9,0),(10,0),(11,0),(12,0),(13,0),(14,0),(15,0),(16,0),(17,0),(18,0),(19,0),(20,0),(21,0),(22,0),(23,0),(24,0)] _ (List.Perm.refl _) (by kernel_rfl) rfl (aa hb7 fun m10 hm10 hb7=>aa hb7 fun x11 hx11 hb7=>aa hb7 fun m12 hm12 hb7=>aa hb7 fun m13 hm13 hb7=>bv 25 [0,0,0] (rg 21 24) [(45,pB ((x11 == 0)||((decide (0<v6))&&(!Op.bytesLess m12.toList m13.toList))))] (cr 3 eS hm10 (bi 5 (nc hx11) (eG 15 eS (cA hm12) (eG 20 eS (cA hm13) bh)))) (by kernel_rfl) (bB (cR rfl hb7 (fun hc14 hb7=>?_) fun hc14 hb7=>?_))))
    ·refine ae ?_
     refine cZ [(2,pB false)] (by kernel_rfl) (dM ?_)
     refine az hb7 (fun ht=>?_);subst ht
     refine cS (dM ?_)
     exact zz r h rfl
    refine ah ?_
    refine dx (ai [19,20] [(3,pI (IntKind.i64.wrap (v6+1)))] (by kernel_rfl) ?_)
    exact aR hb7 () (lL rfl) cg
   refine aH ?_
   refine cd hb7 (fun ht=>ak rfl ?_)
   exact av ((),()) (qP rfl) cg ht.symm
  rintro ⟨_,_⟩ τ hz;(try dsimp only at hz);subst q8;(try dsimp only at h);dsimp only [au]
  refine ae (aM [0,0,0,0,0,0] (rg 46 29) [(2,pB ((((((p0.Digits == 2)||(p0.Digits == 4))||(p0.Digits == 6))&&(decide ((p0.Except.length:Int)≤6)))&&(decide (0≤p0.Tolerance)))&&(decide (p0.Tolerance≤1000000))))] (by kernel_rfl) (dm (dM ?_)))
  exact zz r h rfl
 refine ae ?_
 refine bF [76] [(75,pB (p0.Kind == 3))] (by kernel_rfl) rfl h (fun hc15 h=>?_) fun hc15 h=>?_
 ·refine ae ?_
  refine aM [0,0] (rg 77 8) [(2,pB ((decide (0≤p0.Limit))&&(decide (p0.Limit≤1000000))))] (by kernel_rfl) (dm (dM ?_))
  exact zz r h rfl
 refine ae ?_
 refine bF [86] [(85,pB (p0.Kind == 4))] (by kernel_rfl) rfl h (fun hc16 h=>?_) fun hc16 h=>?_
 ·refine ae ?_
  refine aa h fun x17 hx17 h=>aq [0] [87,88,89] [(2,pB x17)] (bi 2 (qU hx17) bh) (by kernel_rfl) (dm (dM ?_))
  exact zz r h rfl
 refine ae ?_
 refine ae (ai [91] [(90,pB (p0.Kind == 5))] (by kernel_rfl) (fa h fun q19 hq19 h=>?_))
 refine am (Y:=Unit×Bool) (fun (_,v18)=>[(1,pP b1 0),(90,pB v18)]) (fun (_,v18)=>[PRes.b b1 84 (aC p0)]) (fun (_,v18)=>q19=v18) ?_ ?_
 ·skip
  refine jG rfl hq19 (fun hc20 hq19=>?_) fun hc20 hq19=>?_
  ·refine ah ?_
   obtain rfl:=osi hq19
   exact av ((),(p0.Kind == 5)) (lL rfl) cg rfl
  refine ai [92] [(90,pB (p0.Kind == 6))] (by kernel_rfl) ?_
  obtain rfl:=osi hq19
  exact av ((),(p0.Kind == 6)) (lL rfl) cg rfl
 rintro ⟨_,v18⟩ τ hz;(try dsimp only at hz);subst q19;(try dsimp only at h);dsimp only [au]
 refine jG rfl h (fun hc21 h=>?_) fun hc21 h=>?_
 ·refine ae ?_
  refine ae (aj [(4,pI 0)] (by kernel_rfl) (fa h fun q24 hq24 h=>?_))
  refine am (Y:=Unit×Unit) (fun (_,_)=>[(1,pP b1 0)]) (fun (_,_)=>[PRes.b b1 84 (aC p0)]) (fun (_,_)=>q24=Sum.inl ()) ?_ ?_
  ·refine aw ?_
   refine aB (Y:=Unit) (S:=Int) _ hq24 (fun _ v22=>[(1,pP b1 0),(4,pI v22)]) (fun _ v22=>[PRes.b b1 84 (aC p0)]) () (lL rfl) cg ?_
   rintro _ v22 o τ hb23;(try dsimp only at hb23);dsimp only [au]
   refine cT (aM [0] [93,94,95,96] [(97,pB (decide (v22<(p0.Args.length:Int))))] (by kernel_rfl) (cR rfl hb23 (fun hc25 hb23=>?_) fun hc25 hb23=>?_))
   ·refine ah ?_
    refine dq (bj (ρd:=[]) [(0,0),(1,0),(2,0),(3,0),(4,0),(5,0),(6,0),(7,0),(8,0),(9,0),(10,0),(11,0),(12,0),(13,0),(14,0),(15,1),(16,0),(17,0)] _ (List.Perm.refl _) (by kernel_rfl) rfl (aa hb23 fun m26 hm26 hb23=>aa hb23 fun m27 hm27 hb23=>aa hb23 fun x28 hx28 hb23=>bv 18 [0,0,0] (rg 100 17) [(117,pB ((m26.Kind == p0.Kind)||(!x28)))] (pm 3 Ze.enc (Ze.enc_eq _) hm26 (foixrg 13 Ze.enc (Ze.enc_eq _) (cA hm27) (dK 15 (fun hc=>hrec (cA hx28 hc)) bh))) (by kernel_rfl) (bB (cR rfl hb23 (fun hc29 hb23=>?_) fun hc29 hb23=>?_))))
    ·refine ae ?_
     refine cZ [(2,pB false)] (by kernel_rfl) (dM ?_)
     refine az hb23 (fun ht=>?_);subst ht
     refine cS (dM ?_)
     exact zz r h rfl
    refine ah ?_
    refine dx (ai [98,99] [(4,pI (IntKind.i64.wrap (v22+1)))] (by kernel_rfl) ?_)
    exact aR hb23 () (lL rfl) cg
   refine aH ?_
   refine cd hb23 (fun ht=>ak rfl ?_)
   exact av ((),()) (qP rfl) cg ht.symm
  rintro ⟨_,_⟩ τ hz;(try dsimp only at hz);subst q24;(try dsimp only at h);dsimp only [au]
  refine ae (aM [0,0] (rg 118 10) [(2,pB ((decide (2≤(p0.Args.length:Int)))&&(decide ((p0.Args.length:Int)≤6))))] (by kernel_rfl) (dm (dM ?_)))
  exact zz r h rfl
 refine ah ?_
 refine aA (ca (cZ [(2,pB false)] (by kernel_rfl) ?_))
 exact zz r h rfl
def lq (n:Nat):Ze→Option Bool:=Nat.rec (motive:=fun _=>Ze→Option Bool) (fun _=>none) (fun _ ih=>jq ih) n
def pW (p0:Ze):Option Bool:=lq FUEL p0
theorem tX (n:Nat):∀ {p0:Ze} {r:Bool},lq n p0=some r→PF 159 [.agg (aC p0)] (pB r):=by
 induction n with
 | zero=>intros;rename_i h;exact nomatch h
 | succ n ih=>intros;rename_i h;exact sM (fun hr=>ih hr) h
theorem vz {p0:Ze} {r:Bool} (h:pW p0=some r):PF 159 [.agg (aC p0)] (pB r):=tX FUEL h
def kZ (p0:Ze):Option Int:=(pV p0).bind fun x2=>cond (decide (32<x2)) (some (8:Int)) ((pW p0).bind fun x4=>cond (!x4) (some (1:Int)) (some (0:Int)))
theorem wJ {p0:Ze} {r:Int}  (h:kZ p0=some r):PF 115 [.agg (aC p0)] (pI r):=by
 unfold kZ at h
 refine bd ?_
 refine dp Tryz.func115 rfl Tryz.ntmps115 Tryz.results115 rfl (cU rfl (bg (cs:=(aC p0)) rfl rfl (fun b1=>bc [2] (by kernel_rfl) (co (aa h fun x2 hx2 h=>aq [0] [3,4] [(5,pB (decide (32<x2)))] (bi 1 (vx hx2) bh) (by kernel_rfl) (cR rfl h (fun hc3 h=>?_) fun hc3 h=>?_))))))
 ·refine ae ?_
  refine cZ [(2,pI 8)] (by kernel_rfl) (ap ?_)
  exact zz r h rfl
 refine ah ?_
 refine co (aa h fun x4 hx4 h=>aq [0] [6,7] [(8,pB (!x4))] (bi 1 (vz hx4) bh) (by kernel_rfl) (cR rfl h (fun hc5 h=>?_) fun hc5 h=>?_))
 ·refine ae ?_
  refine cZ [(2,pI 1)] (by kernel_rfl) (ap ?_)
  exact zz r h rfl
 refine ah ?_
 refine ca (cZ [(2,pI 0)] (by kernel_rfl) ?_)
 exact zz r h rfl
def fJ (p0:(List Zb)):Option Int:=cond (decide (8<(p0.length:Int))) (some (8:Int)) ((aV (S:=Int) (T:=(Unit)⊕(_)) (fun v2=>cond (decide (v2<(p0.length:Int))) ((idx p0 v2).bind fun m6=>cond ((((decide (m6.ID<1))||(decide (1000<m6.ID)))||(decide (m6.Kind<1)))||(decide (3<m6.Kind))) (some (.inr (.inr (2:Int)))) ((gd (decide (0<v2)) (idx p0 (IntKind.i64.wrap (v2 - 1)))).bind fun m9=>cond ((decide (0<v2))&&(decide (m6.ID≤m9.ID))) (some (.inr (.inr (9:Int)))) (cond ((decide (12<(m6.Parties.length:Int)))||(decide (12<(m6.Rules.length:Int)))) (some (.inr (.inr (8:Int)))) ((aV (S:=Int) (T:=(Unit)⊕(_)) (fun v12=>cond (decide (v12<(m6.Parties.length:Int))) ((idx m6.Parties v12).bind fun m16=>(eX m16).bind fun x17=>(gd ((!(!x17))&&(decide (0<v12))) (idx m6.Parties (IntKind.i64.wrap (v12 - 1)))).bind fun m18=>(gd ((!(!x17))&&(decide (0<v12))) (idx m6.Parties v12)).bind fun m19=>cond ((!x17)||((decide (0<v12))&&(!Op.bytesLess m18.toList m19.toList))) (some (.inr (.inr (.inr (.inr (1:Int)))))) (some (.inl (IntKind.i64.wrap (v12+1))))) (some (.inr (.inl ())))) FUEL 0).bind fun q=>match q with | .inl _=>(aV (S:=Int) (T:=(Unit)⊕(_)) (fun v21=>cond (decide (v21<(m6.Rules.length:Int))) ((idx m6.Rules v21).bind fun m25=>(gx m25.Prefix).bind fun x26=>cond (x26 == 0) (some (.inr (.inr (.inr (.inr (1:Int)))))) ((gd (decide (0<v21)) (idx m6.Rules (IntKind.i64.wrap (v21 - 1)))).bind fun m28=>(gd (decide (0<v21)) (idx m6.Rules v21)).bind fun m29=>cond ((decide (0<v21))&&(!Op.bytesLess m28.Prefix.toList m29.Prefix.toList)) (some (.inr (.inr (.inr (.inr (9:Int)))))) ((idx m6.Rules v21).bind fun m31=>(kZ m31.Rule).bind fun x32=>cond (x32 != 0) (some (.inr (.inr (.inr (.inr x32))))) (some (.inl (IntKind.i64.wrap (v21+1))))))) (some (.inr (.inl ())))) FUEL 0).bind (fun q=>match q with | .inl _=>some (.inl (IntKind.i64.wrap (v2+1))) | .inr e=>some e) | .inr e=>some e)))) (some (.inr (.inl ())))) FUEL 0).bind fun q=>match q with | .inl _=>some (0:Int) | .inr e=>some e)
theorem qK {p0:(List Zb)} {r:Int}  (h:fJ p0=some r):PF 66 [pL Zb.enc p0] (pI r):=by
 unfold fJ at h
 refine bd ?_
 refine dp Tryz.func66 rfl Tryz.ntmps66 Tryz.results66 rfl (aU [2] (by kernel_rfl) (co (bF [8,9] [(10,pB (decide (8<(p0.length:Int))))] (by kernel_rfl) rfl h (fun hc1 h=>?_) fun hc1 h=>?_)))
 ·refine ae ?_
  refine cZ [(2,pI 8)] (by kernel_rfl) (ap ?_)
  exact zz r h rfl
 refine ah ?_
 refine co (aj [(3,pI 0)] (by kernel_rfl) (fa h fun q4 hq4 h=>?_))
 refine am (Y:=Unit×Unit) (fun (_,_)=>[]) (fun (_,_)=>[]) (fun (_,_)=>q4=Sum.inl ()) ?_ ?_
 ·refine aw ?_
  refine aB (Y:=Unit) (S:=Int) _ hq4 (fun _ v2=>[(0,pL Zb.enc p0),(3,pI v2)]) (fun _ v2=>[]) () (lL rfl) bz ?_
  rintro _ v2 o τ hb3;(try dsimp only at hb3);dsimp only [au]
  refine cT (bF [11,12,13] [(14,pB (decide (v2<(p0.length:Int))))] (by kernel_rfl) rfl hb3 (fun hc5 hb3=>?_) fun hc5 hb3=>?_)
  ·refine ah ?_
   refine dq (aa hb3 fun m6 hm6 hb3=>af (aY 4 [] [17,18,19] [(20,.agg (aD m6))] (cr 2 Zb.enc hm6 bh) (by kernel_rfl) (al rfl (aN (cs:=[pI 0,pI 0,pN,pN]) rfl rfl rfl rfl (fun b7=>aS rfl rfl (an (vs:=(aD m6)) rfl rfl rfl rfl rfl cw yy (aG (dq (aM [0,0,0,0] (rg 22 18) [(21,pB ((((decide (m6.ID<1))||(decide (1000<m6.ID)))||(decide (m6.Kind<1)))||(decide (3<m6.Kind))))] (by kernel_rfl) (cR rfl hb3 (fun hc8 hb3=>?_) fun hc8 hb3=>?_))))))))))
   ·refine ae ?_
    refine cZ [(2,pI 2)] (by kernel_rfl) (dM (dM ?_))
    refine az hb3 (fun ht=>?_);subst ht
    refine cS ?_
    exact zz r h rfl
   refine ae ?_
   refine bj (ρd:=[]) [(0,0),(1,0),(2,0),(3,0),(4,0),(5,0),(6,0),(7,0),(8,0),(9,0),(10,0),(11,0),(12,0),(13,0)] _ (List.Perm.refl _) (by kernel_rfl) rfl (aa hb3 fun m9 hm9 hb3=>bv 14 [0] (rg 41 13) [(40,pB ((decide (0<v2))&&(decide (m6.ID≤m9.ID))))] (eG 8 Zb.enc (cA hm9) bh) (by kernel_rfl) (bB (cR rfl hb3 (fun hc10 hb3=>?_) fun hc10 hb3=>?_)))
   ·refine ae ?_
    refine cZ [(2,pI 9)] (by kernel_rfl) (dM (dM ?_))
    refine az hb3 (fun ht=>?_);subst ht
    refine cS ?_
    exact zz r h rfl
   refine ae ?_
   refine aM [0,0] (rg 55 10) [(54,pB ((decide (12<(m6.Parties.length:Int)))||(decide (12<(m6.Rules.length:Int)))))] (by kernel_rfl) (cR rfl hb3 (fun hc11 hb3=>?_) fun hc11 hb3=>?_)
   ·refine ae ?_
    refine cZ [(2,pI 8)] (by kernel_rfl) (dM (dM ?_))
    refine az hb3 (fun ht=>?_);subst ht
    refine cS ?_
    exact zz r h rfl
   refine ah ?_
   refine aA (co (aj [(5,pI 0)] (by kernel_rfl) (fa hb3 fun q14 hq14 hb3=>?_)))
   refine am (Y:=Unit×Unit) (fun (_,_)=>[(0,pL Zb.enc p0),(3,pI v2),(4,pP b7 0)]) (fun (_,_)=>[PRes.b b7 81 (aD m6)]) (fun (_,_)=>q14=Sum.inl ()) ?_ ?_
   ·refine aw ?_
    refine aB (Y:=Unit) (S:=Int) _ hq14 (fun _ v12=>[(0,pL Zb.enc p0),(3,pI v2),(4,pP b7 0),(5,pI v12)]) (fun _ v12=>[PRes.b b7 81 (aD m6)]) () (iq rfl) cg ?_
    rintro _ v12 o τ hb13;(try dsimp only at hb13);dsimp only [au]
    refine cT (aM [0] [65,66,67,68] [(69,pB (decide (v12<(m6.Parties.length:Int))))] (by kernel_rfl) (cR rfl hb13 (fun hc15 hb13=>?_) fun hc15 hb13=>?_))
    ·refine ah ?_
     refine dq (bj (ρd:=[]) [(0,0),(1,0),(2,0),(3,0),(4,0),(5,1),(6,0),(7,0),(8,0),(9,0),(10,0),(11,0),(12,0),(13,0),(14,0),(15,0),(16,0),(17,0),(18,0),(19,0),(20,0),(21,0),(22,0),(23,0),(24,0)] _ (List.Perm.refl _) (by kernel_rfl) rfl (aa hb13 fun m16 hm16 hb13=>aa hb13 fun x17 hx17 hb13=>aa hb13 fun m18 hm18 hb13=>aa hb13 fun m19 hm19 hb13=>bv 25 [0,0,0] (rg 72 24) [(96,pB ((!x17)||((decide (0<v12))&&(!Op.bytesLess m18.toList m19.toList))))] (cr 3 eS hm16 (bi 5 (kW hx17) (eG 15 eS (cA hm18) (eG 20 eS (cA hm19) bh)))) (by kernel_rfl) (bB (cR rfl hb13 (fun hc20 hb13=>?_) fun hc20 hb13=>?_))))
     ·refine ae ?_
      refine cZ [(2,pI 1)] (by kernel_rfl) (dM ?_)
      refine az hb13 (fun ht=>?_);subst ht
      refine cS (dM ?_)
      refine az hb3 (fun ht=>?_);subst ht
      refine cS ?_
      exact zz r h rfl
     refine ah ?_
     refine dx (ai [70,71] [(5,pI (IntKind.i64.wrap (v12+1)))] (by kernel_rfl) ?_)
     exact aR hb13 () (iq rfl) cg
    refine aH ?_
    refine cd hb13 (fun ht=>ak rfl ?_)
    exact av ((),()) (lM rfl) cg ht.symm
   rintro ⟨_,_⟩ τ hz;(try dsimp only at hz);subst q14;(try dsimp only at hb3);dsimp only [au]
   refine ae (aj [(6,pI 0)] (by kernel_rfl) (fa hb3 fun q23 hq23 hb3=>?_))
   refine ip (Y:=Unit×Unit) (fun (_,_)=>[(0,pL Zb.enc p0),(3,pI v2)]) (fun (_,_)=>[]) (fun (_,_)=>q23=Sum.inl ()) ?_ ?_
   ·refine aw ?_
    refine aB (Y:=Unit) (S:=Int) _ hq23 (fun _ v21=>[(0,pL Zb.enc p0),(3,pI v2),(4,pP b7 0),(6,pI v21)]) (fun _ v21=>[PRes.b b7 81 (aD m6)]) () (iq rfl) cg ?_
    rintro _ v21 o τ hb22;(try dsimp only at hb22);dsimp only [au]
    refine cT (aM [0] [97,98,99,100] [(101,pB (decide (v21<(m6.Rules.length:Int))))] (by kernel_rfl) (cR rfl hb22 (fun hc24 hb22=>?_) fun hc24 hb22=>?_))
    ·refine ah ?_
     refine dq (ae (aa hb22 fun m25 hm25 hb22=>aa hb22 fun x26 hx26 hb22=>aq [0] (rg 104 7) [(111,pB (x26 == 0))] (cr 3 Zi.enc hm25 (bi 6 (nc hx26) bh)) (by kernel_rfl) (cR rfl hb22 (fun hc27 hb22=>?_) fun hc27 hb22=>?_)))
     ·refine ae ?_
      refine cZ [(2,pI 1)] (by kernel_rfl) (ap (dM ?_))
      refine az hb22 (fun ht=>?_);subst ht
      refine cQ (gF (dM ?_))
      refine az hb3 (fun ht=>?_);subst ht
      refine cS ?_
      exact zz r h rfl
     refine ah ?_
     refine co (bj (ρd:=[]) [(0,0),(1,0),(2,0),(3,0),(4,0),(5,0),(6,0),(7,0),(8,0),(9,0),(10,0),(11,0),(12,0),(13,0),(14,0),(15,0),(16,0),(17,0)] _ (List.Perm.refl _) (by kernel_rfl) rfl (aa hb22 fun m28 hm28 hb22=>aa hb22 fun m29 hm29 hb22=>bv 18 [0,0] (rg 112 17) [(129,pB ((decide (0<v21))&&(!Op.bytesLess m28.Prefix.toList m29.Prefix.toList)))] (eG 7 Zi.enc (cA hm28) (eG 13 Zi.enc (cA hm29) bh)) (by kernel_rfl) (bB (cR rfl hb22 (fun hc30 hb22=>?_) fun hc30 hb22=>?_))))
     ·refine ae ?_
      refine cZ [(2,pI 9)] (by kernel_rfl) (ap (dM ?_))
      refine az hb22 (fun ht=>?_);subst ht
      refine cQ (gF (dM ?_))
      refine az hb3 (fun ht=>?_);subst ht
      refine cS ?_
      exact zz r h rfl
     refine ah ?_
     refine cN hb22 fun m31 hm31 hb22=>aa hb22 fun x32 hx32 hb22=>aq [0] (rg 130 7) [(7,pI x32)] (cr 3 Zi.enc hm31 (bi 6 (wJ hx32) bh)) (by kernel_rfl) (ca (bF [137] [(138,pB (x32 != 0))] (by kernel_rfl) rfl hb22 (fun hc33 hb22=>?_) fun hc33 hb22=>?_))
     ·refine ae ?_
      refine ai [139] [(2,pI x32)] (by kernel_rfl) (dm (dM ?_))
      refine az hb22 (fun ht=>?_);subst ht
      refine cQ (gF (dM ?_))
      refine az hb3 (fun ht=>?_);subst ht
      refine cS ?_
      exact zz r h rfl
     refine ah ?_
     refine dx (ai [102,103] [(6,pI (IntKind.i64.wrap (v21+1)))] (by kernel_rfl) ?_)
     exact aR hb22 () (iq rfl) cg
    refine aH ?_
    refine cd hb22 (fun ht=>ak rfl ?_)
    exact gE ((),()) (lL rfl) bz ht.symm
   rintro ⟨_,_⟩ τ ρ1 hsub34 hz;(try dsimp only at hz hsub34);subst q23;(try dsimp only at hb3);dsimp only [au]
   refine dx (ml hsub34 (ai [15,16] [(3,pI (IntKind.i64.wrap (v2+1)))] (by kernel_rfl) ?_))
   exact aR hb3 () (lL rfl) bz
  refine aH ?_
  refine cd hb3 (fun ht=>ak rfl ?_)
  exact av ((),()) nC bz ht.symm
 rintro ⟨_,_⟩ τ hz;(try dsimp only at hz);subst q4;(try dsimp only at h);dsimp only [au]
 refine ae (cZ [(2,pI 0)] (by kernel_rfl) ?_)
 exact zz r h rfl
def gZ (p0:Ze) (p1:Zn) (p2:Zl):Option Bool:=(ki p2.Code 0 p0.Digits).bind fun s4=>(ki p1.Code 0 p0.Digits).bind fun s5=>cond (decide (s4=s5)) (some true) ((aV (S:=Int) (T:=(Unit)⊕(_)) (fun v7=>cond (decide (v7<(p0.Except.length:Int))) ((idx p0.Except v7).bind fun m11=>(ie p2.Code m11).bind fun x12=>cond x12 (some (.inr (.inr true))) (some (.inl (IntKind.i64.wrap (v7+1))))) (some (.inr (.inl ())))) FUEL 0).bind fun q=>match q with | .inl _=>some false | .inr e=>some e)
theorem rZ {p0:Ze} {p1:Zn} {p2:Zl} {r:Bool}  (h:gZ p0 p1 p2=some r):PF 160 [.agg (aC p0),.agg (bC p1),.agg [pS p2.Code,pI p2.Value,pB p2.Originating]] (pB r):=by
 unfold gZ at h
 refine bd ?_
 refine dp Tryz.func160 rfl Tryz.ntmps160 Tryz.results160 rfl (cU rfl (bg (cs:=(aC p0)) rfl rfl (fun b1=>al rfl (bg (cs:=(bC p1)) rfl rfl (fun b2=>al rfl (bg (cs:=[pS p2.Code,pI p2.Value,pB p2.Originating]) rfl rfl (fun b3=>bc [6] (by kernel_rfl) (co (bj (ρd:=[]) [(0,0),(1,0),(2,0),(3,0),(4,0),(5,0),(6,0),(7,0),(8,0),(9,0),(10,0)] _ (List.Perm.refl _) (by kernel_rfl) rfl (aa h fun s4 hs4 h=>aa h fun s5 hs5 h=>bv 11 [0,2,1,2] (rg 8 10) [(18,pB (decide (s4=s5)))] (foss 4 hs4 (foss 9 hs5 bh)) (by kernel_rfl) (bB (cR rfl h (fun hc6 h=>?_) fun hc6 h=>?_))))))))))))
 ·refine ae ?_
  refine cZ [(6,pB true)] (by kernel_rfl) (ap ?_)
  exact zz r h rfl
 refine ah ?_
 refine co (aj [(7,pI 0)] (by kernel_rfl) (fa h fun q9 hq9 h=>?_))
 refine am (Y:=Unit×Unit) (fun (_,_)=>[]) (fun (_,_)=>[]) (fun (_,_)=>q9=Sum.inl ()) ?_ ?_
 ·refine aw ?_
  refine aB (Y:=Unit) (S:=Int) _ hq9 (fun _ v7=>[(3,pP b1 0),(5,pP b3 0),(7,pI v7)]) (fun _ v7=>[PRes.b b1 84 (aC p0),PRes.b b3 103 [pS p2.Code,pI p2.Value,pB p2.Originating]]) () (lM rfl) (ba (ar (ar aJ)) cg) ?_
  rintro _ v7 o τ hb8;(try dsimp only at hb8);dsimp only [au]
  refine cT (aM [0] [19,20,21,22] [(23,pB (decide (v7<(p0.Except.length:Int))))] (by kernel_rfl) (cR rfl hb8 (fun hc10 hb8=>?_) fun hc10 hb8=>?_))
  ·refine ah ?_
   refine dq (bj (ρd:=[]) [(0,0),(1,0),(2,0),(3,0),(4,0),(5,0),(6,0),(7,1)] _ (List.Perm.refl _) (by kernel_rfl) rfl (aa hb8 fun m11 hm11 hb8=>aa hb8 fun x12 hx12 hb8=>bv 8 [1,0] (rg 26 7) [(33,pB x12)] (cr 5 eS hm11 (bi 7 (po hx12) bh)) (by kernel_rfl) (bB (cR rfl hb8 (fun hc13 hb8=>?_) fun hc13 hb8=>?_))))
   ·refine ae ?_
    refine cZ [(6,pB true)] (by kernel_rfl) (dM ?_)
    refine az hb8 (fun ht=>?_);subst ht
    refine cS ?_
    exact zz r h rfl
   refine ah ?_
   refine dx (ai [24,25] [(7,pI (IntKind.i64.wrap (v7+1)))] (by kernel_rfl) ?_)
   exact aR hb8 () (lM rfl) mE
  refine aH ?_
  refine cd hb8 (fun ht=>ak rfl ?_)
  exact av ((),()) nC bz ht.symm
 rintro ⟨_,_⟩ τ hz;(try dsimp only at hz);subst q9;(try dsimp only at h);dsimp only [au]
 refine ae (cZ [(6,pB false)] (by kernel_rfl) ?_)
 exact zz r h rfl
def lc (p0:Zm) (p1:Zm):Option Bool:=some ((decide (p0.Hi<p1.Hi))||((p0.Hi == p1.Hi)&&(decide (p0.Lo<p1.Lo))))
theorem qV {p0:Zm} {p1:Zm} {r:Bool}  (h:lc p0 p1=some r):PF 208 [.agg [pU p0.Hi,pU p0.Lo],.agg [pU p1.Hi,pU p1.Lo]] (pB r):=by
 unfold lc at h
 refine bd ?_
 refine dp Tryz.func208 rfl Tryz.ntmps208 Tryz.results208 rfl (cU rfl (bg (cs:=[pU p0.Hi,pU p0.Lo]) rfl rfl (fun b1=>al rfl (bg (cs:=[pU p1.Hi,pU p1.Lo]) rfl rfl (fun b2=>bc [4] (by kernel_rfl) (ca (aM [1,0,1,0,1,0] (rg 5 19) [(4,pB ((decide (p0.Hi<p1.Hi))||((p0.Hi == p1.Hi)&&(decide (p0.Lo<p1.Lo)))))] (by kernel_rfl) (dm ?_))))))))
 exact zz r h rfl
def nu (p0:Zm) (p1:Zm):Option Int:=(lc p0 p1).bind fun x3=>cond x3 (some (-1)) ((lc p1 p0).bind fun x5=>cond x5 (some (1:Int)) (some (0:Int)))
theorem vA {p0:Zm} {p1:Zm} {r:Int}  (h:nu p0 p1=some r):PF 186 [.agg [pU p0.Hi,pU p0.Lo],.agg [pU p1.Hi,pU p1.Lo]] (pI r):=by
 unfold nu at h
 refine bd ?_
 refine dp Tryz.func186 rfl Tryz.ntmps186 Tryz.results186 rfl (cU rfl (bg (cs:=[pU p0.Hi,pU p0.Lo]) rfl rfl (fun b1=>al rfl (bg (cs:=[pU p1.Hi,pU p1.Lo]) rfl rfl (fun b2=>bc [4] (by kernel_rfl) (dq (aa h fun x3 hx3 h=>aq [1,0] [6,7,8] [(5,pB x3)] (bi 2 (qV hx3) bh) (by kernel_rfl) (cR rfl h (fun hc4 h=>?_) fun hc4 h=>?_))))))))
 ·refine ae ?_
  refine cZ [(4,pI (-1))] (by kernel_rfl) (dM ?_)
  exact zz r h rfl
 refine ae ?_
 refine aa h fun x5 hx5 h=>aq [0,1] [10,11,12] [(9,pB x5)] (bi 2 (qV hx5) bh) (by kernel_rfl) (cR rfl h (fun hc6 h=>?_) fun hc6 h=>?_)
 ·refine ae ?_
  refine cZ [(4,pI 1)] (by kernel_rfl) (dM ?_)
  exact zz r h rfl
 refine ah ?_
 refine aA (ca (cZ [(4,pI 0)] (by kernel_rfl) ?_))
 exact zz r h rfl
def i7 (p0:Int) (p1:Int) (p2:Int):Option Bool:=(jW (IntKind.u64.wrap p0) 1000000).bind fun x1=>(jW (IntKind.u64.wrap p1) (IntKind.u64.wrap p2)).bind fun x2=>(nu x1 x2).bind fun x3=>some (decide (x3≤0))
theorem pr {p0:Int} {p1:Int} {p2:Int} {r:Bool}  (h:i7 p0 p1 p2=some r):PF 161 [pI p0,pI p1,pI p2] (pB r):=by
 unfold i7 at h
 refine bd ?_
 refine dp Tryz.func161 rfl Tryz.ntmps161 Tryz.results161 rfl (aU [6] (by kernel_rfl) (cN h fun x1 hx1 h=>aa h fun x2 hx2 h=>aa h fun x3 hx3 h=>aq [] (rg 7 10) [(6,pB (decide (x3≤0)))] (bi 2 (oR hx1) (bi 7 (oR hx2) (bi 8 (vA hx3) bh))) (by kernel_rfl) (dm ?_)))
 exact zz r h rfl
def jr (rec:Ze→Zn→Option Bool) (p0:Ze) (p1:Zn):Option Bool:=(aV (S:=Int×Int×Int) (T:=(Int×Int)) (fun (v3,v4,v5)=>cond (decide (v5<(p1.Inputs.length:Int))) (((idx p1.Inputs v5).bind fun m14=>cond m14.Originating (some (v3,v4)) ((gd ((!(p0.Kind == 3))&&(p0.Kind == 2)) (gZ p0 p1 m14)).bind fun x17=>cond ((p0.Kind == 3)||((p0.Kind == 2)&&x17)) (some ((IntKind.i64.wrap (v3+m14.Value)),(IntKind.i64.wrap (v4+1)))) (some (v3,(IntKind.i64.wrap (v4+1)))))).bind fun (v11,v12)=>some (.inl (v11,v12,(IntKind.i64.wrap (v5+1))))) (some (.inr (v3,v4)))) FUEL (0,0,0)).bind fun (v6,v7)=>(aV (S:=Int×Int) (T:=(Int)) (fun (v19,v20)=>cond (decide (v20<(p0.Args.length:Int))) (((idx p0.Args v20).bind fun m27=>(rec m27 p1).bind fun x28=>cond x28 (some (IntKind.i64.wrap (v19+1))) (some v19)).bind fun v25=>some (.inl (v25,(IntKind.i64.wrap (v20+1))))) (some (.inr v19))) FUEL (0,0)).bind fun v21=>cond (p0.Kind == 1) (some (p1.Obtained&&(v7 == 0))) (cond (p0.Kind == 2) ((i7 v6 p0.Tolerance p1.Price).bind fun x32=>some x32) (cond (p0.Kind == 3) ((i7 v6 p0.Limit p1.Price).bind fun x34=>some x34) (cond (p0.Kind == 4) ((iH p1.Processes p0.Name).bind fun x36=>some x36) (cond (p0.Kind == 5) (some (v21 == (p0.Args.length:Int))) (some (decide (0<v21)))))))
theorem sN {rec:Ze→Zn→Option Bool} (hrec:∀ {p0:Ze} {p1:Zn} {r:Bool},rec p0 p1=some r→PF 117 [.agg (aC p0),.agg (bC p1)] (pB r)) {p0:Ze} {p1:Zn} {r:Bool} (h:jr rec p0 p1=some r):PF 117 [.agg (aC p0),.agg (bC p1)] (pB r):=by
 unfold jr at h
 refine bd ?_
 refine dp Tryz.func117 rfl Tryz.ntmps117 Tryz.results117 rfl (cU rfl (bg (cs:=(aC p0)) rfl rfl (fun b1=>al rfl (bg (cs:=(bC p1)) rfl rfl (fun b2=>bc [4] (by kernel_rfl) (ca (aj [(5,pI 0),(6,pI 0),(7,pI 0)] (by kernel_rfl) (co (aj [(8,pI 0)] (by kernel_rfl) (fa h fun q9 hq9 h=>?_))))))))))
 refine am (Y:=Unit×(Int×Int)) (fun (_,(v6,v7))=>[(2,pP b1 0),(3,pP b2 0),(5,pI v6),(6,pI v7),(7,pI 0)]) (fun (_,(v6,v7))=>[PRes.b b1 84 (aC p0),PRes.b b2 36 (bC p1)]) (fun (_,(v6,v7))=>q9=(v6,v7)) ?_ ?_
 ·refine aw ?_
  refine aB (Y:=Unit) (S:=Int×Int×Int) _ hq9 (fun _ (v3,v4,v5)=>[(2,pP b1 0),(3,pP b2 0),(5,pI v3),(6,pI v4),(7,pI 0),(8,pI v5)]) (fun _ (v3,v4,v5)=>[PRes.b b1 84 (aC p0),PRes.b b2 36 (bC p1)]) () (qG rfl) (ba (ar aJ) cg) ?_
  rintro _ ⟨v3,v4,v5⟩ o τ hb8;(try dsimp only at hb8);dsimp only [au]
  refine cT (aM [1] [11,12,13,14] [(15,pB (decide (v5<(p1.Inputs.length:Int))))] (by kernel_rfl) (cR rfl hb8 (fun hc10 hb8=>?_) fun hc10 hb8=>?_))
  ·refine ah ?_
   refine cN hb8 fun q13 hq13 hb8=>?_
   refine am (Y:=Unit×(Int×Int)) (fun (_,(v11,v12))=>[(2,pP b1 0),(3,pP b2 0),(5,pI v11),(6,pI v12),(7,pI 0),(8,pI v5)]) (fun (_,(v11,v12))=>[PRes.b b1 84 (aC p0),PRes.b b2 36 (bC p1)]) (fun (_,(v11,v12))=>q13=(v11,v12)) ?_ ?_
   ·skip
    refine nX (aa hq13 fun m14 hm14 hq13=>af (aY 5 [1] [18,19,20,21] [(22,.agg [pS m14.Code,pI m14.Value,pB m14.Originating])] (cr 3 Zl.enc hm14 bh) (by kernel_rfl) (al rfl (aN (cs:=[pS ByteArray.empty,pI 0,pB false]) rfl rfl rfl rfl (fun b15=>aS rfl rfl (an (vs:=[pS m14.Code,pI m14.Value,pB m14.Originating]) rfl rfl rfl rfl rfl cw zl3 (aG (co (aM [0] [23] [(24,pB m14.Originating)] (by kernel_rfl) (cR rfl hq13 (fun hc16 hq13=>?_) fun hc16 hq13=>?_))))))))))
    ·refine aH ?_
     refine hY (ak rfl ?_)
     obtain rfl:=osi hq13
     exact av ((),(v3,v4)) (qG rfl) (ba (ar aJ) (ba (ar aJ) bz)) rfl
    refine ah ?_
    refine ca (ai [25,26] [(6,pI (IntKind.i64.wrap (v4+1)))] (by kernel_rfl) (cN hq13 fun x17 hx17 hq13=>aq [1,1,1,2,0] (rg 27 13) [(40,pB ((p0.Kind == 3)||((p0.Kind == 2)&&x17)))] (dK 11 (fun hc=>rZ (cA hx17 hc)) bh) (by kernel_rfl) (cR rfl hq13 (fun hc18 hq13=>?_) fun hc18 hq13=>?_)))
    ·refine aM [0] [41,42,43,44] [(5,pI (IntKind.i64.wrap (v3+m14.Value)))] (by kernel_rfl) ?_
     refine aA ?_
     obtain rfl:=osi hq13
     exact av ((),((IntKind.i64.wrap (v3+m14.Value)),(IntKind.i64.wrap (v4+1)))) (qG rfl) (ba (ar aJ) (ba (ar aJ) bz)) rfl
    refine ah ?_
    refine aA ?_
    obtain rfl:=osi hq13
    exact av ((),(v3,(IntKind.i64.wrap (v4+1)))) (qG rfl) (ba (ar aJ) (ba (ar aJ) bz)) rfl
   rintro ⟨_,⟨v11,v12⟩⟩ τ hz;(try dsimp only at hz);subst q13;(try dsimp only at hb8);dsimp only [au]
   refine ai [16,17] [(8,pI (IntKind.i64.wrap (v5+1)))] (by kernel_rfl) ?_
   exact aR hb8 () (qG rfl) mE
  refine aH ?_
  refine cd hb8 (fun ht=>ak rfl ?_)
  exact av ((),(v3,v4)) (lP rfl) mE ht.symm
 rintro ⟨_,⟨v6,v7⟩⟩ τ hz;(try dsimp only at hz);subst q9;(try dsimp only at h);dsimp only [au]
 refine cT (aj [(10,pI 0)] (by kernel_rfl) (fa h fun q23 hq23 h=>?_))
 refine am (Y:=Unit×Int) (fun (_,v21)=>[(2,pP b1 0),(3,pP b2 0),(5,pI v6),(6,pI v7),(7,pI v21)]) (fun (_,v21)=>[PRes.b b1 84 (aC p0),PRes.b b2 36 (bC p1)]) (fun (_,v21)=>q23=v21) ?_ ?_
 ·refine aw ?_
  refine aB (Y:=Unit) (S:=Int×Int) _ hq23 (fun _ (v19,v20)=>[(2,pP b1 0),(3,pP b2 0),(5,pI v6),(6,pI v7),(7,pI v19),(10,pI v20)]) (fun _ (v19,v20)=>[PRes.b b1 84 (aC p0),PRes.b b2 36 (bC p1)]) () (qG rfl) mE ?_
  rintro _ ⟨v19,v20⟩ o τ hb22;(try dsimp only at hb22);dsimp only [au]
  refine cT (aM [0] [45,46,47,48] [(49,pB (decide (v20<(p0.Args.length:Int))))] (by kernel_rfl) (cR rfl hb22 (fun hc24 hb22=>?_) fun hc24 hb22=>?_))
  ·refine ah ?_
   refine cN hb22 fun q26 hq26 hb22=>?_
   refine am (Y:=Unit×Int) (fun (_,v25)=>[(2,pP b1 0),(3,pP b2 0),(5,pI v6),(6,pI v7),(7,pI v25),(10,pI v20)]) (fun (_,v25)=>[PRes.b b1 84 (aC p0),PRes.b b2 36 (bC p1)]) (fun (_,v25)=>q26=v25) ?_ ?_
   ·skip
    refine nX (bj (ρd:=[]) [(0,0),(1,0),(2,0),(3,0),(4,0),(5,0),(6,1)] _ (List.Perm.refl _) (by kernel_rfl) rfl (aa hq26 fun m27 hm27 hq26=>aa hq26 fun x28 hx28 hq26=>bv 7 [0,1] (rg 52 6) [(58,pB x28)] (pm 3 Ze.enc (Ze.enc_eq _) hm27 (bi 6 (hrec hx28) bh)) (by kernel_rfl) (bB (cR rfl hq26 (fun hc29 hq26=>?_) fun hc29 hq26=>?_))))
    ·refine ai [59,60] [(7,pI (IntKind.i64.wrap (v19+1)))] (by kernel_rfl) ?_
     refine aA ?_
     obtain rfl:=osi hq26
     exact av ((),(IntKind.i64.wrap (v19+1))) (qG rfl) mE rfl
    refine ah ?_
    refine aA ?_
    obtain rfl:=osi hq26
    exact av ((),v19) (qG rfl) mE rfl
   rintro ⟨_,v25⟩ τ hz;(try dsimp only at hz);subst q26;(try dsimp only at hb22);dsimp only [au]
   refine ai [50,51] [(10,pI (IntKind.i64.wrap (v20+1)))] (by kernel_rfl) ?_
   exact aR hb22 () (qG rfl) mE
  refine aH ?_
  refine cd hb22 (fun ht=>ak rfl ?_)
  exact av ((),v19) (lP rfl) mE ht.symm
 rintro ⟨_,v21⟩ τ hz;(try dsimp only at hz);subst q23;(try dsimp only at h);dsimp only [au]
 refine cT (aM [0] [61] [(62,pI p0.Kind)] (by kernel_rfl) (aL (nX (bF [64] [(63,pB (p0.Kind == 1))] (by kernel_rfl) rfl h (fun hc30 h=>?_) fun hc30 h=>?_))))
 ·refine ae ?_
  refine aM [1] (rg 65 6) [(4,pB (p1.Obtained&&(v7 == 0)))] (by kernel_rfl) (dm (dM ?_))
  exact zz r h rfl
 refine ae ?_
 refine bF [72] [(71,pB (p0.Kind == 2))] (by kernel_rfl) rfl h (fun hc31 h=>?_) fun hc31 h=>?_
 ·refine ae ?_
  refine aa h fun x32 hx32 h=>aq [0,1] (rg 73 6) [(4,pB x32)] (bi 5 (pr hx32) bh) (by kernel_rfl) (dm (dM ?_))
  exact zz r h rfl
 refine ae ?_
 refine bF [80] [(79,pB (p0.Kind == 3))] (by kernel_rfl) rfl h (fun hc33 h=>?_) fun hc33 h=>?_
 ·refine ae ?_
  refine aa h fun x34 hx34 h=>aq [0,1] (rg 81 6) [(4,pB x34)] (bi 5 (pr hx34) bh) (by kernel_rfl) (dm (dM ?_))
  exact zz r h rfl
 refine ae ?_
 refine bF [88] [(87,pB (p0.Kind == 4))] (by kernel_rfl) rfl h (fun hc35 h=>?_) fun hc35 h=>?_
 ·refine ae ?_
  refine aa h fun x36 hx36 h=>aq [1,0] (rg 89 5) [(4,pB x36)] (bi 4 (i5 hx36) bh) (by kernel_rfl) (dm (dM ?_))
  exact zz r h rfl
 refine ae ?_
 refine bF [95] [(94,pB (p0.Kind == 5))] (by kernel_rfl) rfl h (fun hc37 h=>?_) fun hc37 h=>?_
 ·refine ae ?_
  refine aM [0] (rg 96 5) [(4,pB (v21 == (p0.Args.length:Int)))] (by kernel_rfl) (dm (dM ?_))
  exact zz r h rfl
 refine ah ?_
 refine aA (ca (ai [101,102] [(4,pB (decide (0<v21)))] (by kernel_rfl) (dm ?_)))
 exact zz r h rfl
def lr (n:Nat):Ze→Zn→Option Bool:=Nat.rec (motive:=fun _=>Ze→Zn→Option Bool) (fun _ _=>none) (fun _ ih=>jr ih) n
def pX (p0:Ze) (p1:Zn):Option Bool:=lr FUEL p0 p1
theorem tY (n:Nat):∀ {p0:Ze} {p1:Zn} {r:Bool},lr n p0 p1=some r→PF 117 [.agg (aC p0),.agg (bC p1)] (pB r):=by
 induction n with
 | zero=>intros;rename_i h;exact nomatch h
 | succ n ih=>intros;rename_i h;exact sN (fun hr=>ih hr) h
theorem vB {p0:Ze} {p1:Zn} {r:Bool} (h:pX p0 p1=some r):PF 117 [.agg (aC p0),.agg (bC p1)] (pB r):=tY FUEL h
def iz (rec:Ze→Zn→Option ((List Int)×Bool)) (p0:Ze) (p1:Zn):Option ((List Int)×Bool):=(pX p0 p1).bind fun x3=>cond (!x3) (some ([],false)) ((aV (S:=(List Int)×Int) (T:=((List Int))⊕(_)) (fun (l6,v9)=>cond (decide (v9<(p0.Args.length:Int))) (Option.bind (α:=((List Int))⊕_) ((idx p0.Args v9).bind fun m23=>(rec m23 p1).bind fun x24=>cond (!x24.2) (some (.inl l6)) (cond (p0.Kind == 6) ((app 8 [v9] x24.1).bind fun l29=>some (.inr (.inr (.inr (l29,true))))) ((app 8 l6 x24.1).bind fun l33=>some (.inl l33)))) (fun q=>match q with | .inl l21=>some (.inl (l21,(IntKind.i64.wrap (v9+1)))) | .inr e=>some e)) (some (.inr (.inl l6)))) FUEL (([]:List Int),0)).bind fun q=>match q with | .inl l13=>some (l13,true) | .inr e=>some e)
theorem rp {rec:Ze→Zn→Option ((List Int)×Bool)} (hrec:∀ {p0:Ze} {p1:Zn} {r:((List Int)×Bool)},rec p0 p1=some r→PF 70 [.agg (aC p0),.agg (bC p1)] (.tup [pL eI r.1,pB r.2])) {p0:Ze} {p1:Zn} {r:((List Int)×Bool)} (h:iz rec p0 p1=some r):PF 70 [.agg (aC p0),.agg (bC p1)] (.tup [pL eI r.1,pB r.2]):=by
 unfold iz at h
 refine bd ?_
 refine dp Tryz.func70 rfl Tryz.ntmps70 Tryz.results70 rfl (cU rfl (bg (cs:=(aC p0)) rfl rfl (fun b1=>al rfl (bg (cs:=(bC p1)) rfl rfl (fun b2=>bc [4,5] (by kernel_rfl) (co (aa h fun x3 hx3 h=>aq [1,0] [10,11,12] [(13,pB (!x3))] (bi 2 (vB hx3) bh) (by kernel_rfl) (cR rfl h (fun hc4 h=>?_) fun hc4 h=>?_))))))))
 ·refine ae ?_
  refine aj [(4,pN),(5,pB false)] (by kernel_rfl) (aL (fz 4 rfl (bq (ap ?_))))
  obtain rfl:=osi h
  exact aP (cD (aO rfl) (aO rfl)) bz ⟨rfl,rfl⟩
 refine ah ?_
 refine ca (aj [(6,pN)] (by kernel_rfl) (co (aj [(7,pI 0)] (by kernel_rfl) (aL (bX 3 1 (aa h fun q15 hq15 h=>?_))))))
 refine am (Y:=(Option Addr×Nat)×((List Int))) (fun ((a11,c12),l13)=>[(6,pO a11 l13.length c12)]) (fun ((a11,c12),l13)=>[PRes.row a11 l13.length c12 3 1 (List.map eI l13)]) (fun ((a11,c12),l13)=>q15=Sum.inl l13) ?_ ?_
 ·refine aw ?_
  refine aB (Y:=Option Addr×Nat) (S:=(List Int)×Int) _ hq15 (fun (a7,c8) (l6,v9)=>[(2,pP b1 0),(3,pP b2 0),(6,pO a7 l6.length c8),(7,pI v9)]) (fun (a7,c8) (l6,v9)=>[PRes.b b1 84 (aC p0),PRes.b b2 36 (bC p1),PRes.row a7 l6.length c8 3 1 (List.map eI l6)]) (none,0) (iq rfl) (ba (ar (ar aJ)) (ba (ar aJ) cg)) ?_
  rintro ⟨a7,c8⟩ ⟨l6,v9⟩ o τ hb14;(try dsimp only at hb14);dsimp only [au]
  refine cT (aM [0] [14,15,16,17] [(18,pB (decide (v9<(p0.Args.length:Int))))] (by kernel_rfl) (cR rfl hb14 (fun hc17 hb14=>?_) fun hc17 hb14=>?_))
  ·refine ah ?_
   refine cN hb14 fun q22 hq22 hb14=>?_
   refine am (Y:=(Option Addr×Nat)×((List Int))) (fun ((a19,c20),l21)=>[(2,pP b1 0),(3,pP b2 0),(6,pO a19 l21.length c20),(7,pI v9)]) (fun ((a19,c20),l21)=>[PRes.b b1 84 (aC p0),PRes.b b2 36 (bC p1),PRes.row a19 l21.length c20 3 1 (List.map eI l21)]) (fun ((a19,c20),l21)=>q22=Sum.inl l21) ?_ ?_
   ·skip
    refine nX (bj (ρd:=[]) [(0,0),(1,0),(2,0),(3,0),(4,0),(5,0),(6,1),(7,0),(8,0),(9,0),(10,0),(11,0)] _ (List.Perm.refl _) (by kernel_rfl) rfl (aa hq22 fun m23 hm23 hq22=>aa hq22 fun x24 hx24 hq22=>bv 12 [0,1] ((rg 22 7)++[21,29,30]) [(8,pL eI x24.1),(9,pB x24.2)] (pm 3 Ze.enc (Ze.enc_eq _) hm23 (bi 6 (hrec hx24) bh)) (by kernel_rfl) (bB (co (bF [31] [(32,pB (!x24.2))] (by kernel_rfl) rfl hq22 (fun hc25 hq22=>?_) fun hc25 hq22=>?_)))))
    ·refine aH ?_
     refine hY (ak rfl ?_)
     obtain rfl:=osi hq22
     exact av ((a7,c8),l6) (iq rfl) Cz rfl
    refine ah ?_
    refine co (aM [0] [33,34] [(35,pB (p0.Kind == 6))] (by kernel_rfl) (cR rfl hq22 (fun hc26 hq22=>?_) fun hc26 hq22=>?_))
    ·refine ae ?_
     refine af (aF 1 [(36,pI v9)] (by kernel_rfl) (al rfl (bw rfl rfl rfl rfl rfl (fL rfl iP) rfl rfl rfl rfl (fun b27=>aa hq22 fun l29 hl29 hq22=>aF 1 [(38,pL eI x24.1)] (by kernel_rfl) ?_))))
     refine al rfl (gn (enc:=eI) rfl rfl rfl rfl rfl (fun _=>rfl) rfl rfl rfl (by exact aJ) hl29 (fun a30 c31=>?_))
     refine aI [(4,pO a30 l29.length c31),(5,pB true)] (by kernel_rfl) (aL ?_)
     refine dr (enc:=eI) (xs:=l29) 4 rfl (by exact aJ) ?_
     refine bq (ap (cS ?_))
     obtain rfl:=osi hq22
     refine az hb14 (fun ht=>?_);subst ht
     refine cS ?_
     obtain rfl:=osi h
     exact aP (cD (aO rfl) (aO rfl)) bz ⟨rfl,rfl⟩
    refine ah ?_
    refine fa hq22 fun l33 hl33 hq22=>af (aF 2 [(40,pO a7 l6.length c8),(41,pL eI x24.1)] (by kernel_rfl) ?_)
    refine al rfl (gn (enc:=eI) rfl rfl rfl rfl rfl (fun _=>rfl) rfl rfl rfl (by exact ar (ar aJ)) hl33 (fun a34 c35=>?_))
    refine aI [(6,pO a34 l33.length c35)] (by kernel_rfl) (aA ?_)
    obtain rfl:=osi hq22
    exact av ((a34,c35),l33) (iq rfl) (ba (ar aJ) (ba (ar aJ) cg)) rfl
   rintro ⟨⟨a19,c20⟩,l21⟩ τ hz;(try dsimp only at hz);subst q22;(try dsimp only at hb14);dsimp only [au]
   refine ai [19,20] [(7,pI (IntKind.i64.wrap (v9+1)))] (by kernel_rfl) ?_
   exact aR hb14 (a19,c20) (iq rfl) Cz
  refine aH ?_
  refine cd hb14 (fun ht=>ak rfl ?_)
  exact av ((a7,c8),l6) (qP rfl) (ba (ar (ar aJ)) bz) ht.symm
 rintro ⟨⟨a11,c12⟩,l13⟩ τ hz;(try dsimp only at hz);subst q15;(try dsimp only at h);dsimp only [au]
 refine ae (ai [43] [(4,pO a11 l13.length c12),(5,pB true)] (by kernel_rfl) (aL ?_))
 refine dr (enc:=eI) (xs:=l13) 4 rfl (by exact aJ) ?_
 refine bq ?_
 obtain rfl:=osi h
 exact aP (cD (aO rfl) (aO rfl)) bz ⟨rfl,rfl⟩
def iA (n:Nat):Ze→Zn→Option ((List Int)×Bool):=Nat.rec (motive:=fun _=>Ze→Zn→Option ((List Int)×Bool)) (fun _ _=>none) (fun _ ih=>iz ih) n
def js (p0:Ze) (p1:Zn):Option ((List Int)×Bool):=iA FUEL p0 p1
theorem r4 (n:Nat):∀ {p0:Ze} {p1:Zn} {r:((List Int)×Bool)},iA n p0 p1=some r→PF 70 [.agg (aC p0),.agg (bC p1)] (.tup [pL eI r.1,pB r.2]):=by
 induction n with
 | zero=>intros;rename_i h;exact nomatch h
 | succ n ih=>intros;rename_i h;exact rp (fun hr=>ih hr) h
theorem sO {p0:Ze} {p1:Zn} {r:((List Int)×Bool)} (h:js p0 p1=some r):PF 70 [.agg (aC p0),.agg (bC p1)] (.tup [pL eI r.1,pB r.2]):=r4 FUEL h
def jY (p0:(List Zd)) (p1:(List Zb)) (p2:ByteArray):Option ((List Zc)×Int):=(kY p0).bind fun x1=>cond (x1 != 0) (some ([],x1)) ((fJ p1).bind fun x3=>cond (x3 != 0) (some ([],x3)) ((eX p2).bind fun x5=>cond (!x5) (some ([],(1:Int))) ((aV (S:=(List Zc)×(List Za)×Bool) (T:=((List Zc))) (fun (l8,l11,v12)=>cond v12 ((aV (S:=(List Zc)×Bool×(List Za)×Int) (T:=((List Zc)×Bool×(List Za))) (fun (l22,v25,l26,v27)=>cond (decide (v27<(p0.length:Int))) ((aV (S:=(List Zc)×Bool×(List Za)×Int) (T:=((List Zc)×Bool×(List Za))) (fun (l38,v41,l42,v43)=>cond (decide (v43<(p1.length:Int))) (((idx p0 v27).bind fun m60=>(idx p1 v43).bind fun m61=>(dF l11 (⟨m60.ID,m61.ID⟩:Za)).bind fun x63=>(gd (!x63) (dO p0 p1 p2 (⟨m60.ID,m61.ID⟩:Za))).bind fun x64=>cond (x63||(!x64)) (some (l38,v41,l42)) ((ig p0 p1 p2 (⟨m60.ID,m61.ID⟩:Za) l11).bind fun x66=>(idx p1 v43).bind fun m68=>(idx p0 v27).bind fun m69=>(gu m68 m69.Code).bind fun x70=>(js x70.1 x66.1).bind fun x72=>cond x72.2 ((app 64 l38 [(⟨(⟨m60.ID,m61.ID⟩:Za),x72.1,x66.2⟩:Zc)]).bind fun l76=>(fS l42 (⟨m60.ID,m61.ID⟩:Za)).bind fun x80=>some (l76,true,x80)) (some (l38,v41,l42)))).bind fun (l56,v57,l58)=>some (.inl (l56,v57,l58,(IntKind.i64.wrap (v43+1))))) (some (.inr (l38,v41,l42)))) FUEL (l22,v25,l26,0)).bind fun (l47,v48,l49)=>some (.inl (l47,v48,l49,(IntKind.i64.wrap (v27+1))))) (some (.inr (l22,v25,l26)))) FUEL (l8,false,l11,0)).bind fun (l31,v32,l33)=>some (.inl (l31,l33,v32))) (some (.inr l8))) FUEL (([]:List Zc),[],true)).bind fun l16=>some (l16,(0:Int)))))
theorem vC {p0:(List Zd)} {p1:(List Zb)} {p2:ByteArray} {r:((List Zc)×Int)}  (h:jY p0 p1 p2=some r):PF 23 [pL Zd.enc p0,pL Zb.enc p1,pS p2] (.tup [pL Zc.enc r.1,pI r.2]):=by
 unfold jY at h
 refine bd ?_
 refine dp Tryz.func23 rfl Tryz.ntmps23 Tryz.results23 rfl (aU [6,7] (by kernel_rfl) (co (aa h fun x1 hx1 h=>aq [] [23,24] [(8,pI x1)] (bi 1 (wI hx1) bh) (by kernel_rfl) (ca (bF [25] [(26,pB (x1 != 0))] (by kernel_rfl) rfl h (fun hc2 h=>?_) fun hc2 h=>?_)))))
 ·refine ae ?_
  refine ai [27] [(6,pN),(7,pI x1)] (by kernel_rfl) (aL (fz 6 rfl (bq (ap ?_))))
  obtain rfl:=osi h
  exact aP (cD (aO rfl) (aO rfl)) bz ⟨rfl,rfl⟩
 refine ah ?_
 refine co (aa h fun x3 hx3 h=>aq [] [28,29] [(9,pI x3)] (bi 1 (qK hx3) bh) (by kernel_rfl) (ca (bF [30] [(31,pB (x3 != 0))] (by kernel_rfl) rfl h (fun hc4 h=>?_) fun hc4 h=>?_)))
 ·refine ae ?_
  refine ai [32] [(6,pN),(7,pI x3)] (by kernel_rfl) (aL (fz 6 rfl (bq (ap ?_))))
  obtain rfl:=osi h
  exact aP (cD (aO rfl) (aO rfl)) bz ⟨rfl,rfl⟩
 refine ah ?_
 refine co (aa h fun x5 hx5 h=>aq [] [33,34] [(35,pB (!x5))] (bi 1 (kW hx5) bh) (by kernel_rfl) (cR rfl h (fun hc6 h=>?_) fun hc6 h=>?_))
 ·refine ae ?_
  refine aj [(6,pN),(7,pI 1)] (by kernel_rfl) (aL (fz 6 rfl (bq (ap ?_))))
  obtain rfl:=osi h
  exact aP (cD (aO rfl) (aO rfl)) bz ⟨rfl,rfl⟩
 refine ah ?_
 refine ca (aj [(10,pN)] (by kernel_rfl) (ca (aj [(11,pN)] (by kernel_rfl) (co (aj [(12,pB true)] (by kernel_rfl) (aL (bX 61 4 (fz 11 rfl (aa h fun q18 hq18 h=>?_)))))))))
 refine am (Y:=(Option Addr×Nat)×((List Zc))) (fun ((a14,c15),l16)=>[(10,pO a14 l16.length c15)]) (fun ((a14,c15),l16)=>[PRes.row a14 l16.length c15 61 4 (List.map Zc.enc l16)]) (fun ((a14,c15),l16)=>q18=l16) ?_ ?_
 ·refine aw ?_
  refine aB (Y:=Option Addr×Nat) (S:=(List Zc)×(List Za)×Bool) _ hq18 (fun (a9,c10) (l8,l11,v12)=>[(0,pL Zd.enc p0),(1,pL Zb.enc p1),(2,pS p2),(10,pO a9 l8.length c10),(11,pL Za.enc l11),(12,pB v12)]) (fun (a9,c10) (l8,l11,v12)=>[PRes.row a9 l8.length c10 61 4 (List.map Zc.enc l8)]) (none,0) (qG rfl) cg ?_
  rintro ⟨a9,c10⟩ ⟨l8,l11,v12⟩ o τ hb17;(try dsimp only at hb17);dsimp only [au]
  refine cT (aj [(36,pB v12)] (by kernel_rfl) (cR rfl hb17 (fun hc20 hb17=>?_) fun hc20 hb17=>?_))
  ·refine ah ?_
   refine aL (nX (aj [(12,pB false)] (by kernel_rfl) (ca (ai [37] [(13,pL Za.enc l11)] (by kernel_rfl) (co (aj [(14,pI 0)] (by kernel_rfl) (fa hb17 fun q35 hq35 hb17=>?_)))))))
   refine am (Y:=(Option Addr×Nat)×((List Zc)×Bool×(List Za))) (fun ((a29,c30),(l31,v32,l33))=>[(0,pL Zd.enc p0),(1,pL Zb.enc p1),(2,pS p2),(10,pO a29 l31.length c30),(12,pB v32),(13,pL Za.enc l33)]) (fun ((a29,c30),(l31,v32,l33))=>[PRes.row a29 l31.length c30 61 4 (List.map Zc.enc l31)]) (fun ((a29,c30),(l31,v32,l33))=>q35=(l31,v32,l33)) ?_ ?_
   ·refine aw ?_
    refine aB (Y:=Option Addr×Nat) (S:=(List Zc)×Bool×(List Za)×Int) _ hq35 (fun (a23,c24) (l22,v25,l26,v27)=>[(0,pL Zd.enc p0),(1,pL Zb.enc p1),(2,pS p2),(10,pO a23 l22.length c24),(11,pL Za.enc l11),(12,pB v25),(13,pL Za.enc l26),(14,pI v27)]) (fun (a23,c24) (l22,v25,l26,v27)=>[PRes.row a23 l22.length c24 61 4 (List.map Zc.enc l22)]) (a9,c10) (qR rfl) cg ?_
    rintro ⟨a23,c24⟩ ⟨l22,v25,l26,v27⟩ o τ hb34;(try dsimp only at hb34);dsimp only [au]
    refine cT (bF [38,39,40] [(41,pB (decide (v27<(p0.length:Int))))] (by kernel_rfl) rfl hb34 (fun hc36 hb34=>?_) fun hc36 hb34=>?_)
    ·refine ah ?_
     refine dq (aj [(15,pI 0)] (by kernel_rfl) (fa hb34 fun q51 hq51 hb34=>?_))
     refine ip (Y:=(Option Addr×Nat)×((List Zc)×Bool×(List Za))) (fun ((a45,c46),(l47,v48,l49))=>[(0,pL Zd.enc p0),(1,pL Zb.enc p1),(2,pS p2),(10,pO a45 l47.length c46),(11,pL Za.enc l11),(12,pB v48),(13,pL Za.enc l49),(14,pI v27)]) (fun ((a45,c46),(l47,v48,l49))=>[PRes.row a45 l47.length c46 61 4 (List.map Zc.enc l47)]) (fun ((a45,c46),(l47,v48,l49))=>q51=(l47,v48,l49)) ?_ ?_
     ·refine aw ?_
      refine aB (Y:=Option Addr×Nat) (S:=(List Zc)×Bool×(List Za)×Int) _ hq51 (fun (a39,c40) (l38,v41,l42,v43)=>[(0,pL Zd.enc p0),(1,pL Zb.enc p1),(2,pS p2),(10,pO a39 l38.length c40),(11,pL Za.enc l11),(12,pB v41),(13,pL Za.enc l42),(14,pI v27),(15,pI v43)]) (fun (a39,c40) (l38,v41,l42,v43)=>[PRes.row a39 l38.length c40 61 4 (List.map Zc.enc l38)]) (a23,c24) (qS rfl) cg ?_
      rintro ⟨a39,c40⟩ ⟨l38,v41,l42,v43⟩ o τ hb50;(try dsimp only at hb50);dsimp only [au]
      refine cT (bF [44,45,46] [(47,pB (decide (v43<(p1.length:Int))))] (by kernel_rfl) rfl hb50 (fun hc52 hb50=>?_) fun hc52 hb50=>?_)
      ·refine ah ?_
       refine cN hb50 fun q59 hq59 hb50=>?_
       refine am (Y:=(Option Addr×Nat)×((List Zc)×Bool×(List Za))) (fun ((a54,c55),(l56,v57,l58))=>[(0,pL Zd.enc p0),(1,pL Zb.enc p1),(2,pS p2),(10,pO a54 l56.length c55),(11,pL Za.enc l11),(12,pB v57),(13,pL Za.enc l58),(14,pI v27),(15,pI v43)]) (fun ((a54,c55),(l56,v57,l58))=>[PRes.row a54 l56.length c55 61 4 (List.map Zc.enc l56)]) (fun ((a54,c55),(l56,v57,l58))=>q59=(l56,v57,l58)) ?_ ?_
       ·skip
        refine nX (bj (ρd:=[]) [(0,0),(1,0),(2,0),(3,0),(4,0),(5,0),(6,0),(7,0),(8,0),(9,0),(10,0),(11,1),(12,1)] _ (List.Perm.refl _) (by kernel_rfl) rfl (aa hq59 fun m60 hm60 hq59=>aa hq59 fun m61 hm61 hq59=>bv 10 [] [50,51,52,53,55,56,57,58] [(54,pI m60.ID),(59,pI m61.ID)] (cr 2 Zd.enc hm60 (cr 7 Zb.enc hm61 bh)) (by kernel_rfl) (jS rfl rfl rfl (qw (cs:=[pI m60.ID,pI m61.ID]) rfl rfl rfl rfl rfl rfl rfl (Cv rfl rfl rfl rfl nD (Cv rfl rfl rfl rfl (dZ nD) zfn))) (jc rfl rfl rfl (aN (cs:=[pI 0,pI 0]) rfl rfl rfl rfl (fun b62=>yw rfl rfl (an (vs:=[pI m60.ID,pI m61.ID]) rfl rfl rfl rfl rfl cw re (bB (co (aa hq59 fun x63 hx63 hq59=>aa hq59 fun x64 hx64 hq59=>aq [0,0] (rg 61 10) [(71,pB (x63||(!x64)))] (bi 2 (kq hx63) (dK 8 (fun hc=>lZ (cA hx64 hc)) bh)) (by kernel_rfl) (cR rfl hq59 (fun hc65 hq59=>?_) fun hc65 hq59=>?_)))))))))))
        ·refine aH ?_
         refine hY (ak rfl ?_)
         obtain rfl:=osi hq59
         exact av ((a39,c40),(l38,v41,l42)) (qS rfl) (ba (ar aJ) bz) rfl
        refine ah ?_
        refine cN hq59 fun x66 hx66 hq59=>af (aY 9 [0] ((rg 73 6)++[72]) [(79,.agg (bC x66.1)),(80,pL Za.enc x66.2)] (bi 5 (tV hx66) bh) (by kernel_rfl) (al rfl (aN (cs:=[pS ByteArray.empty,pI 0,pB false,pN,pN]) rfl rfl rfl rfl (fun b67=>aS rfl rfl (an (vs:=(bC x66.1)) rfl rfl rfl rfl rfl cw Gy (aI [(18,pL Za.enc x66.2)] (by kernel_rfl) (ca (bj (ρd:=[]) [(0,0),(1,0),(2,0),(3,0),(4,0),(5,0),(6,0),(7,0),(8,0),(9,1),(10,0),(11,0),(12,0),(13,2),(14,1),(15,0)] _ (List.Perm.refl _) (by kernel_rfl) rfl (aa hq59 fun m68 hm68 hq59=>aa hq59 fun m69 hm69 hq59=>aa hq59 fun x70 hx70 hq59=>bv 13 [] ((rg 82 10)++[81]) [(92,.agg (aC x70.1)),(93,pB x70.2)] (cr 2 Zb.enc hm68 (cr 6 Zd.enc hm69 (bi 9 (pq hx70) bh))) (by kernel_rfl) (rS (tl rfl rfl rfl rfl rfl) (fun _=>rfl) rfl (fun b71=>yw rfl rfl (an (vs:=(aC x70.1)) rfl rfl rfl rfl rfl cw nP (FF 1 [20] (by kernel_rfl) (bB (cN hq59 fun x72 hx72 hq59=>aq [0,1] [95,96,97,94,98,99] [(21,pL eI x72.1),(22,pB x72.2)] (bi 2 (sO hx72) bh) (by kernel_rfl) (ca (aj [(100,pB x72.2)] (by kernel_rfl) (cR rfl hq59 (fun hc73 hq59=>?_) fun hc73 hq59=>?_))))))))))))))))))
        ·refine ae ?_
         refine af (cj 5 [2] [102,103,104] [(101,pO a39 l38.length c40),(105,.agg [pI m60.ID,pI m61.ID,pL eI x72.1,pL Za.enc x66.2])] (by kernel_rfl) (al rfl (bw rfl rfl rfl rfl rfl (fL rfl iP) rfl rfl rfl rfl (fun b74=>aa hq59 fun l76 hl76 hq59=>?_))))
         refine al rfl (bV (enc:=Zc.enc) rfl rfl rfl rfl rfl rfl rfl rfl rfl fy (by exact ar (ar (ar (ar aJ)))) hl76 (fun a77 c78=>?_))
         refine aI [(10,pO a77 l76.length c78)] (by kernel_rfl) (fa hq59 fun x80 hx80 hq59=>aq [4] [108,109,110] [(13,pL Za.enc x80),(12,pB true)] (bi 2 (nI hx80) bh) (by kernel_rfl) (aA ?_))
         obtain rfl:=osi hq59
         exact av ((a77,c78),(l76,true,x80)) (qS rfl) cg rfl
        refine ah ?_
        refine aA ?_
        obtain rfl:=osi hq59
        exact av ((a39,c40),(l38,v41,l42)) (qS rfl) (ba (ar (ar (ar aJ))) bz) rfl
       rintro ⟨⟨a54,c55⟩,⟨l56,v57,l58⟩⟩ τ hz;(try dsimp only at hz);subst q59;(try dsimp only at hb50);dsimp only [au]
       refine ai [48,49] [(15,pI (IntKind.i64.wrap (v43+1)))] (by kernel_rfl) ?_
       exact aR hb50 (a54,c55) (qS rfl) cg
      refine aH ?_
      refine cd hb50 (fun ht=>ak rfl ?_)
      exact gE ((a39,c40),(l38,v41,l42)) (qR rfl) cg ht.symm
     rintro ⟨⟨a45,c46⟩,⟨l47,v48,l49⟩⟩ τ ρ1 hsub81 hz;(try dsimp only at hz hsub81);subst q51;(try dsimp only at hb34);dsimp only [au]
     refine dx (ml hsub81 (ai [42,43] [(14,pI (IntKind.i64.wrap (v27+1)))] (by kernel_rfl) ?_))
     exact aR hb34 (a45,c46) (qR rfl) cg
    refine aH ?_
    refine cd hb34 (fun ht=>ak rfl ?_)
    exact av ((a23,c24),(l22,v25,l26)) (qG rfl) cg ht.symm
   rintro ⟨⟨a29,c30⟩,⟨l31,v32,l33⟩⟩ τ hz;(try dsimp only at hz);subst q35;(try dsimp only at hb17);dsimp only [au]
   refine ai [111] [(11,pL Za.enc l33)] (by kernel_rfl) (aA ?_)
   exact aR hb17 (a29,c30) (qG rfl) cg
  refine aH ?_
  refine cd hb17 (fun ht=>ak rfl ?_)
  exact av ((a9,c10),l8) (qP rfl) cg ht.symm
 rintro ⟨⟨a14,c15⟩,l16⟩ τ hz;(try dsimp only at hz);subst q18;(try dsimp only at h);dsimp only [au]
 refine ae (ai [112] [(6,pO a14 l16.length c15),(7,pI 0)] (by kernel_rfl) (aL ?_))
 refine dr (enc:=Zc.enc) (xs:=l16) 6 rfl (by exact aJ) ?_
 refine bq ?_
 obtain rfl:=osi h
 exact aP (cD (aO rfl) (aO rfl)) bz ⟨rfl,rfl⟩
def bW (p0:(List Zd)) (p1:(Zd→Option Bool)):Option Int:=(aV (S:=Int) (T:=(Unit)⊕(_)) (fun v1=>cond (decide (v1<(p0.length:Int))) ((idx p0 v1).bind fun m5=>(p1 m5).bind fun x6=>cond x6 (some (.inr (.inr v1))) (some (.inl (IntKind.i64.wrap (v1+1))))) (some (.inr (.inl ())))) FUEL 0).bind fun q=>match q with | .inl _=>some (-1) | .inr e=>some e
theorem hX {p0:(List Zd)} {p1:(Zd→Option Bool)} {r:Int} {g1:PV} (hg1:∀ {y0:Zd} {w:Bool},p1 y0=some w→PFV g1 [.agg (aK y0)] (pB w)) (h:bW p0 p1=some r):PF 187 [pL Zd.enc p0,g1] (pI r):=by
 unfold bW at h
 refine bd ?_
 refine dp Tryz.func187 rfl Tryz.ntmps187 Tryz.results187 rfl (aU [4] (by kernel_rfl) (co (ai [6] [(7,pI (p0.length:Int)),(8,pI 0)] (by kernel_rfl) (fa h fun q3 hq3 h=>?_))))
 refine am (Y:=Unit×Unit) (fun (_,_)=>[]) (fun (_,_)=>[]) (fun (_,_)=>q3=Sum.inl ()) ?_ ?_
 ·refine aw ?_
  refine aB (Y:=Unit) (S:=Int) _ hq3 (fun _ v1=>[(0,pL Zd.enc p0),(1,g1),(7,pI (p0.length:Int)),(8,pI v1)]) (fun _ v1=>[]) () (iq rfl) bz ?_
  rintro _ v1 o τ hb2;(try dsimp only at hb2);dsimp only [au]
  refine ae (aj [(9,pB (decide (v1<(p0.length:Int))))] (by kernel_rfl) (ca (jG rfl hb2 (fun hc4 hb2=>?_) fun hc4 hb2=>?_)))
  ·refine ah ?_
   refine dq (ai [10] [(5,pI v1)] (by kernel_rfl) (cN hb2 fun m5 hm5 hb2=>aa hb2 fun x6 hx6 hb2=>aq [] (rg 11 5) [(16,pB x6)] (cr 3 Zd.enc hm5 (Bv 5 (hg1 hx6) bh)) (by kernel_rfl) (cR rfl hb2 (fun hc7 hb2=>?_) fun hc7 hb2=>?_)))
   ·refine ae ?_
    refine ai [17] [(4,pI v1)] (by kernel_rfl) (dm (dM ?_))
    refine az hb2 (fun ht=>?_);subst ht
    refine cS ?_
    exact zz r h rfl
   refine ah ?_
   refine dx (ai [18] [(8,pI (IntKind.i64.wrap (v1+1)))] (by kernel_rfl) ?_)
   exact aR hb2 () (iq rfl) bz
  refine aH ?_
  refine cd hb2 (fun ht=>ak rfl ?_)
  exact av ((),()) nC bz ht.symm
 rintro ⟨_,_⟩ τ hz;(try dsimp only at hz);subst q3;(try dsimp only at h);dsimp only [au]
 refine ae (cZ [(4,pI (-1))] (by kernel_rfl) ?_)
 exact zz r h rfl
def bK (p0:(List Zd)) (p1:(Zd→Option Bool)):Option Bool:=(bW p0 p1).bind fun x1=>some (decide (0≤x1))
theorem gG {p0:(List Zd)} {p1:(Zd→Option Bool)} {r:Bool} {g1:PV} (hg1:∀ {y0:Zd} {w:Bool},p1 y0=some w→PFV g1 [.agg (aK y0)] (pB w)) (h:bK p0 p1=some r):PF 162 [pL Zd.enc p0,g1] (pB r):=by
 unfold bK at h
 refine bd ?_
 refine dp Tryz.func162 rfl Tryz.ntmps162 Tryz.results162 rfl (aU [4] (by kernel_rfl) (cN h fun x1 hx1 h=>aq [] [5,6,7,8] [(4,pB (decide (0≤x1)))] (bi 2 (hX hg1 hx1) bh) (by kernel_rfl) (dm ?_)))
 exact zz r h rfl
def cG (p0:Zd) (p1:Zg):Option Bool:=some (p0.ID == p1.Product)
theorem ld {p0:Zd} {p1:Zg} {r:Bool}  (h:cG p0 p1=some r):PF 163 [.agg (aK p0),.ref [pI p1.Product,pI p1.Value] 0] (pB r):=by
 unfold cG at h
 refine bd ?_
 refine dp Tryz.func163 rfl Tryz.ntmps163 Tryz.results163 rfl (cU rfl (bg (cs:=(aK p0)) rfl rfl (fun b1=>bc [3] (by kernel_rfl) (ca (aM [0] (rg 4 5) [(3,pB (p0.ID == p1.Product))] (by kernel_rfl) (dm ?_))))))
 exact zz r h rfl
def dt (p0:(List Zd)) (p1:(List Zg)):Option Int:=(aV (S:=Int) (T:=(Unit)⊕(_)) (fun v1=>cond (decide (v1<(p1.length:Int))) ((idx p1 v1).bind fun m5=>(gd (decide (0<v1)) (idx p1 (IntKind.i64.wrap (v1 - 1)))).bind fun m7=>cond ((decide (0<v1))&&(decide (m5.Product≤m7.Product))) (some (.inr (.inr (9:Int)))) ((bK p0 (fun y9=>cG y9 m5)).bind fun x10=>cond (!x10) (some (.inr (.inr (6:Int)))) (cond ((decide (m5.Value<0))||(decide (1000000000000<m5.Value))) (some (.inr (.inr (2:Int)))) (some (.inl (IntKind.i64.wrap (v1+1))))))) (some (.inr (.inl ())))) FUEL 0).bind fun q=>match q with | .inl _=>some (0:Int) | .inr e=>some e
theorem lS {p0:(List Zd)} {p1:(List Zg)} {r:Int}  (h:dt p0 p1=some r):PF 119 [pL Zd.enc p0,pL Zg.enc p1] (pI r):=by
 unfold dt at h
 refine bd ?_
 refine dp Tryz.func119 rfl Tryz.ntmps119 Tryz.results119 rfl (aU [4] (by kernel_rfl) (co (aj [(7,pL Zg.enc p1),(8,pI (p1.length:Int)),(9,pI 0)] (by kernel_rfl) (fa h fun q3 hq3 h=>?_))))
 refine am (Y:=Unit×Unit) (fun (_,_)=>[]) (fun (_,_)=>[]) (fun (_,_)=>q3=Sum.inl ()) ?_ ?_
 ·refine aw ?_
  refine aB (Y:=Unit) (S:=Int) _ hq3 (fun _ v1=>[(0,pL Zd.enc p0),(1,pL Zg.enc p1),(7,pL Zg.enc p1),(8,pI (p1.length:Int)),(9,pI v1)]) (fun _ v1=>[]) () (lP rfl) bz ?_
  rintro _ v1 o τ hb2;(try dsimp only at hb2);dsimp only [au]
  refine ae (aj [(10,pB (decide (v1<(p1.length:Int))))] (by kernel_rfl) (ca (jG rfl hb2 (fun hc4 hb2=>?_) fun hc4 hb2=>?_)))
  ·refine ah ?_
   refine dq (aa hb2 fun m5 hm5 hb2=>af (aY 3 [] [12] [(11,pI v1),(13,.agg [pI m5.Product,pI m5.Value])] (cr 1 Zg.enc hm5 bh) (by kernel_rfl) (al rfl (aN (cs:=[pI 0,pI 0]) rfl rfl rfl rfl (fun b6=>aF 1 [(5,pI v1)] (by kernel_rfl) (aS rfl rfl (an (vs:=[pI m5.Product,pI m5.Value]) rfl rfl rfl rfl rfl cw re (aG (co (bj (ρd:=[]) [(0,0),(1,0),(2,0),(3,0),(4,0),(5,0),(6,0),(7,0),(8,0),(9,0),(10,0),(11,0),(12,0)] _ (List.Perm.refl _) (by kernel_rfl) rfl (aa hb2 fun m7 hm7 hb2=>bv 13 [0] (rg 14 12) [(26,pB ((decide (0<v1))&&(decide (m5.Product≤m7.Product))))] (eG 8 Zg.enc (cA hm7) bh) (by kernel_rfl) (bB (cR rfl hb2 (fun hc8 hb2=>?_) fun hc8 hb2=>?_)))))))))))))
   ·refine ae ?_
    refine cZ [(4,pI 9)] (by kernel_rfl) (ap (dM ?_))
    refine az hb2 (fun ht=>?_);subst ht
    refine cS ?_
    exact zz r h rfl
   refine ah ?_
   refine co (af (aF 1 [(27,pL Zd.enc p0)] (by kernel_rfl) ?_))
   refine oK 6 rfl (by exact aJ) ?_
   refine aa hb2 fun x10 hx10 hb2=>gI [] [28,29] [(30,pB (!x10))] (bi 1 (gG (fun hr=>qY (ld hr)) hx10) bh) (by kernel_rfl) (cR rfl hb2 (fun hc11 hb2=>?_) fun hc11 hb2=>?_)
   ·refine ae ?_
    refine cZ [(4,pI 6)] (by kernel_rfl) (ap (dM ?_))
    refine az hb2 (fun ht=>?_);subst ht
    refine cS ?_
    exact zz r h rfl
   refine ah ?_
   refine ca (bF (rg 31 7) [(38,pB ((decide (m5.Value<0))||(decide (1000000000000<m5.Value))))] (by kernel_rfl) rfl hb2 (fun hc12 hb2=>?_) fun hc12 hb2=>?_)
   ·refine ae ?_
    refine cZ [(4,pI 2)] (by kernel_rfl) (dM ?_)
    refine az hb2 (fun ht=>?_);subst ht
    refine cS ?_
    exact zz r h rfl
   refine ah ?_
   refine dx (ai [39] [(9,pI (IntKind.i64.wrap (v1+1)))] (by kernel_rfl) ?_)
   exact aR hb2 () (lP rfl) bz
  refine aH ?_
  refine cd hb2 (fun ht=>ak rfl ?_)
  exact av ((),()) nC bz ht.symm
 rintro ⟨_,_⟩ τ hz;(try dsimp only at hz);subst q3;(try dsimp only at h);dsimp only [au]
 refine ae (cZ [(4,pI 0)] (by kernel_rfl) ?_)
 exact zz r h rfl
def jt (rec:Ze→Option Zh) (p0:Ze):Option Zh:=(aV (S:=(List Zh)×Int) (T:=((List Zh))) (fun (l3,v6)=>cond (decide (v6<(p0.Args.length:Int))) ((idx p0.Args v6).bind fun m15=>(rec m15).bind fun x17=>(app 16 l3 [x17]).bind fun l20=>some (.inl (l20,(IntKind.i64.wrap (v6+1))))) (some (.inr l3))) FUEL (([]:List Zh),0)).bind fun l10=>cond (p0.Kind == 5) (some (Zh.every_ l10)) (cond (p0.Kind == 6) (some (Zh.some_ l10)) (some (Zh.single_ (⟨p0⟩:Zt))))
theorem sP {rec:Ze→Option Zh} (hrec:∀ {p0:Ze} {r:Zh},rec p0=some r→PF 127 [.agg (aC p0)] (Zh.pv r)) {p0:Ze} {r:Zh} (h:jt rec p0=some r):PF 127 [.agg (aC p0)] (Zh.pv r):=by
 unfold jt at h
 refine bd ?_
 refine dp Tryz.func127 rfl Tryz.ntmps127 Tryz.results127 rfl (cU rfl (bg (cs:=(aC p0)) rfl rfl (fun b1=>bc [2] (by kernel_rfl) (ca (aj [(3,pN)] (by kernel_rfl) (co (aM [0] [6] [(7,pL Ze.enc p0.Args),(8,pI (p0.Args.length:Int)),(9,pI 0)] (by kernel_rfl) (aL (bX 181 1 (aa h fun q12 hq12 h=>?_))))))))))
 refine am (Y:=(Option Addr×Nat)×((List Zh))) (fun ((a8,c9),l10)=>[(1,pP b1 0),(3,pO a8 l10.length c9)]) (fun ((a8,c9),l10)=>[PRes.b b1 84 (aC p0),PRes.row a8 l10.length c9 181 1 (List.map Zh.enc l10)]) (fun ((a8,c9),l10)=>q12=l10) ?_ ?_
 ·refine aw ?_
  refine aB (Y:=Option Addr×Nat) (S:=(List Zh)×Int) _ hq12 (fun (a4,c5) (l3,v6)=>[(1,pP b1 0),(3,pO a4 l3.length c5),(7,pL Ze.enc p0.Args),(8,pI (p0.Args.length:Int)),(9,pI v6)]) (fun (a4,c5) (l3,v6)=>[PRes.b b1 84 (aC p0),PRes.row a4 l3.length c5 181 1 (List.map Zh.enc l3)]) (none,0) (lP rfl) (ba (ar aJ) cg) ?_
  rintro ⟨a4,c5⟩ ⟨l3,v6⟩ o τ hb11;(try dsimp only at hb11);dsimp only [au]
  refine ae (aj [(10,pB (decide (v6<(p0.Args.length:Int))))] (by kernel_rfl) (ca (jG rfl hb11 (fun hc14 hb11=>?_) fun hc14 hb11=>?_)))
  ·refine ah ?_
   refine dq (aa hb11 fun m15 hm15 hb11=>af (aY 2 [] [11] [(12,.agg (aC m15))] (pm 0 Ze.enc (Ze.enc_eq _) hm15 bh) (by kernel_rfl) (al rfl (aN (cs:=[pI 0,pI 0,pN,pI 0,pI 0,pS ByteArray.empty,pN]) rfl rfl rfl rfl (fun b16=>aS rfl rfl (an (vs:=(aC m15)) rfl rfl rfl rfl rfl cw nP (aG (fa hb11 fun x17 hx17 hb11=>af (aY 3 [0] [14] [(13,pO a4 l3.length c5),(15,Zh.pv x17)] (bi 2 (hrec hx17) bh) (by kernel_rfl) (al rfl (bw rfl rfl rfl rfl rfl (fL rfl iP) rfl rfl rfl rfl (fun b18=>aa hb11 fun l20 hl20 hb11=>?_))))))))))))
   refine al rfl (bV (enc:=Zh.enc) rfl rfl rfl rfl rfl rfl rfl rfl rfl fy (by exact ar (ar (ar aJ))) hl20 (fun a21 c22=>?_))
   refine aI [(3,pO a21 l20.length c22)] (by kernel_rfl) (dx (ai [18] [(9,pI (IntKind.i64.wrap (v6+1)))] (by kernel_rfl) ?_))
   exact aR hb11 (a21,c22) (lP rfl) (ba (ar (ar (ar aJ))) cg)
  refine aH ?_
  refine cd hb11 (fun ht=>ak rfl ?_)
  exact av ((a4,c5),l3) (lL rfl) mE ht.symm
 rintro ⟨⟨a8,c9⟩,l10⟩ τ hz;(try dsimp only at hz);subst q12;(try dsimp only at h);dsimp only [au]
 refine cT (aM [0] [19] [(20,pI p0.Kind)] (by kernel_rfl) (aL (nX (bF [22] [(21,pB (p0.Kind == 5))] (by kernel_rfl) rfl h (fun hc24 h=>?_) fun hc24 h=>?_))))
 ·refine ae ?_
  refine af (aF 1 [(23,pO a8 l10.length c9)] (by kernel_rfl) ?_)
  refine fO (enc:=Zh.enc) (xs:=l10) 23 rfl (by exact ar aJ) ?_
  refine aF 1 [(24,.ifc 223 (pL Zh.enc l10))] (by kernel_rfl) (xo 24 rfl (Zh.pv_every_ l10) (aI [(2,Zh.pv (Zh.every_ l10))] (by kernel_rfl) (dm (dM ?_))))
  exact zz r h rfl
 refine ae ?_
 refine bF [26] [(25,pB (p0.Kind == 6))] (by kernel_rfl) rfl h (fun hc25 h=>?_) fun hc25 h=>?_
 ·refine ae ?_
  refine af (aF 1 [(27,pO a8 l10.length c9)] (by kernel_rfl) ?_)
  refine fO (enc:=Zh.enc) (xs:=l10) 27 rfl (by exact ar aJ) ?_
  refine aF 1 [(28,.ifc 224 (pL Zh.enc l10))] (by kernel_rfl) (xo 28 rfl (Zh.pv_some_ l10) (aI [(2,Zh.pv (Zh.some_ l10))] (by kernel_rfl) (dm (dM ?_))))
  exact zz r h rfl
 refine ah ?_
 refine aA (ca (aM [0] [29,30,31] [(2,Zh.pv (Zh.single_ (⟨p0⟩:Zt)))] (by kernel_rfl) (dm ?_)))
 exact zz r h rfl
def ju (n:Nat):Ze→Option Zh:=Nat.rec (motive:=fun _=>Ze→Option Zh) (fun _=>none) (fun _ ih=>jt ih) n
def tw (p0:Ze):Option Zh:=ju FUEL p0
theorem tZ (n:Nat):∀ {p0:Ze} {r:Zh},ju n p0=some r→PF 127 [.agg (aC p0)] (Zh.pv r):=by
 induction n with
 | zero=>intros;rename_i h;exact nomatch h
 | succ n ih=>intros;rename_i h;exact sP (fun hr=>ih hr) h
theorem vD {p0:Ze} {r:Zh} (h:tw p0=some r):PF 127 [.agg (aC p0)] (Zh.pv r):=tZ FUEL h
def cL (p0:(List ByteArray)) (p1:(ByteArray→Option Bool)):Option Int:=(aV (S:=Int) (T:=(Unit)⊕(_)) (fun v1=>cond (decide (v1<(p0.length:Int))) ((idx p0 v1).bind fun m5=>(p1 m5).bind fun x6=>cond x6 (some (.inr (.inr v1))) (some (.inl (IntKind.i64.wrap (v1+1))))) (some (.inr (.inl ())))) FUEL 0).bind fun q=>match q with | .inl _=>some (-1) | .inr e=>some e
theorem j9 {p0:(List ByteArray)} {p1:(ByteArray→Option Bool)} {r:Int} {g1:PV} (hg1:∀ {y0:ByteArray} {w:Bool},p1 y0=some w→PFV g1 [pS y0] (pB w)) (h:cL p0 p1=some r):PF 256 [pL eS p0,g1] (pI r):=by
 unfold cL at h
 refine bd ?_
 refine dp Tryz.func256 rfl Tryz.ntmps256 Tryz.results256 rfl (aU [4] (by kernel_rfl) (co (ai [6] [(7,pI (p0.length:Int)),(8,pI 0)] (by kernel_rfl) (fa h fun q3 hq3 h=>?_))))
 refine am (Y:=Unit×Unit) (fun (_,_)=>[]) (fun (_,_)=>[]) (fun (_,_)=>q3=Sum.inl ()) ?_ ?_
 ·refine aw ?_
  refine aB (Y:=Unit) (S:=Int) _ hq3 (fun _ v1=>[(0,pL eS p0),(1,g1),(7,pI (p0.length:Int)),(8,pI v1)]) (fun _ v1=>[]) () (iq rfl) bz ?_
  rintro _ v1 o τ hb2;(try dsimp only at hb2);dsimp only [au]
  refine ae (aj [(9,pB (decide (v1<(p0.length:Int))))] (by kernel_rfl) (ca (jG rfl hb2 (fun hc4 hb2=>?_) fun hc4 hb2=>?_)))
  ·refine ah ?_
   refine dq (ai [10] [(5,pI v1)] (by kernel_rfl) (cN hb2 fun m5 hm5 hb2=>aa hb2 fun x6 hx6 hb2=>aq [] (rg 11 5) [(16,pB x6)] (cr 3 eS hm5 (Bv 5 (hg1 hx6) bh)) (by kernel_rfl) (cR rfl hb2 (fun hc7 hb2=>?_) fun hc7 hb2=>?_)))
   ·refine ae ?_
    refine ai [17] [(4,pI v1)] (by kernel_rfl) (dm (dM ?_))
    refine az hb2 (fun ht=>?_);subst ht
    refine cS ?_
    exact zz r h rfl
   refine ah ?_
   refine dx (ai [18] [(8,pI (IntKind.i64.wrap (v1+1)))] (by kernel_rfl) ?_)
   exact aR hb2 () (iq rfl) bz
  refine aH ?_
  refine cd hb2 (fun ht=>ak rfl ?_)
  exact av ((),()) nC bz ht.symm
 rintro ⟨_,_⟩ τ hz;(try dsimp only at hz);subst q3;(try dsimp only at h);dsimp only [au]
 refine ae (cZ [(4,pI (-1))] (by kernel_rfl) ?_)
 exact zz r h rfl
def cu (p0:(List ByteArray)) (p1:(ByteArray→Option Bool)):Option Bool:=(cL p0 p1).bind fun x1=>some (decide (0≤x1))
theorem jf {p0:(List ByteArray)} {p1:(ByteArray→Option Bool)} {r:Bool} {g1:PV} (hg1:∀ {y0:ByteArray} {w:Bool},p1 y0=some w→PFV g1 [pS y0] (pB w)) (h:cu p0 p1=some r):PF 253 [pL eS p0,g1] (pB r):=by
 unfold cu at h
 refine bd ?_
 refine dp Tryz.func253 rfl Tryz.ntmps253 Tryz.results253 rfl (aU [4] (by kernel_rfl) (cN h fun x1 hx1 h=>aq [] [5,6,7,8] [(4,pB (decide (0≤x1)))] (bi 2 (j9 hg1 hx1) bh) (by kernel_rfl) (dm ?_)))
 exact zz r h rfl
def gj (p0:ByteArray) (p1:ByteArray):Option Bool:=(dy p1 p0).bind fun x1=>some x1
theorem rq {p0:ByteArray} {p1:ByteArray} {r:Bool}  (h:gj p0 p1=some r):PF 254 [pS p0,.ref [pS p1] 0] (pB r):=by
 unfold gj at h
 refine bd ?_
 refine dp Tryz.func254 rfl Tryz.ntmps254 Tryz.results254 rfl (aU [3] (by kernel_rfl) (cN h fun x1 hx1 h=>aq [] [4,5,6] [(3,pB x1)] (bi 2 (iR hx1) bh) (by kernel_rfl) (dm ?_)))
 exact zz r h rfl
def iJ (p0:Ze) (p1:ByteArray) (p2:ByteArray):Option Bool:=(ki p1 0 p0.Digits).bind fun s3=>(dy p2 s3).bind fun x4=>cond x4 (some true) ((cu p0.Except (fun y6=>gj y6 p2)).bind fun x7=>some x7)
theorem sQ {p0:Ze} {p1:ByteArray} {p2:ByteArray} {r:Bool}  (h:iJ p0 p1 p2=some r):PF 251 [.agg (aC p0),pS p1,pS p2] (pB r):=by
 unfold iJ at h
 refine bd ?_
 refine dp Tryz.func251 rfl Tryz.ntmps251 Tryz.results251 rfl (cU rfl (bg (cs:=(aC p0)) rfl rfl (fun b1=>al rfl (bg (cs:=[pS p2]) rfl rfl (fun b2=>bc [6] (by kernel_rfl) (co (bj (ρd:=[]) [(0,0),(1,0),(2,0),(3,0),(4,0),(5,1)] _ (List.Perm.refl _) (by kernel_rfl) rfl (aa h fun s3 hs3 h=>aa h fun x4 hx4 h=>bv 6 [0,1] (rg 7 5) [(12,pB x4)] (foss 4 hs3 (bi 5 (iR hx4) bh)) (by kernel_rfl) (bB (cR rfl h (fun hc5 h=>?_) fun hc5 h=>?_))))))))))
 ·refine ae ?_
  refine cZ [(6,pB true)] (by kernel_rfl) (ap ?_)
  exact zz r h rfl
 refine ah ?_
 refine ca (af (cj 2 [1] [13] [(14,pL eS p0.Except)] (by kernel_rfl) ?_))
 refine oK 5 rfl (by exact aJ) ?_
 refine aa h fun x7 hx7 h=>gI [] [15,16] [(6,pB x7)] (bi 1 (jf (fun hr=>qY (rq hr)) hx7) bh) (by kernel_rfl) (dm ?_)
 exact zz r h rfl
def gy (p0:Zo) (p1:Zo):Option Int:=cond ((decide (p0.Hi<p1.Hi))||((p0.Hi == p1.Hi)&&(decide (p0.Lo<p1.Lo)))) (some (-1)) (cond (Zo.eqb p0 p1) (some (0:Int)) (some (1:Int)))
theorem pZ {p0:Zo} {p1:Zo} {r:Int}  (h:gy p0 p1=some r):PF 255 [.agg [pU p0.Hi,pU p0.Lo],.agg [pU p1.Hi,pU p1.Lo]] (pI r):=by
 unfold gy at h
 refine bd ?_
 refine dp Tryz.func255 rfl Tryz.ntmps255 Tryz.results255 rfl (cU rfl (bg (cs:=[pU p0.Hi,pU p0.Lo]) rfl rfl (fun b1=>al rfl (bg (cs:=[pU p1.Hi,pU p1.Lo]) rfl rfl (fun b2=>bc [4] (by kernel_rfl) (dq (aM [1,0,1,0,1,0] (rg 6 19) [(5,pB ((decide (p0.Hi<p1.Hi))||((p0.Hi == p1.Hi)&&(decide (p0.Lo<p1.Lo)))))] (by kernel_rfl) (cR rfl h (fun hc3 h=>?_) fun hc3 h=>?_))))))))
 ·refine ae ?_
  refine cZ [(4,pI (-1))] (by kernel_rfl) (dM ?_)
  exact zz r h rfl
 refine ae ?_
 refine aq [1,0] [26,27,28] [(25,pB (Zo.eqb p0 p1))] (yC 2 Zo.eqok233 bh) (by kernel_rfl) (cR rfl h (fun hc4 h=>?_) fun hc4 h=>?_)
 ·refine ae ?_
  refine cZ [(4,pI 0)] (by kernel_rfl) (dM ?_)
  exact zz r h rfl
 refine ah ?_
 refine aA (ca (cZ [(4,pI 1)] (by kernel_rfl) ?_))
 exact zz r h rfl
def jZ (p0:Int) (p1:Int) (p2:Int):Option Bool:=(jU (IntKind.u64.wrap p0) 1000000).bind fun x1=>(jU (IntKind.u64.wrap p1) (IntKind.u64.wrap p2)).bind fun x3=>(gy x1 x3).bind fun x5=>some (decide (x5≤0))
theorem p6 {p0:Int} {p1:Int} {p2:Int} {r:Bool}  (h:jZ p0 p1 p2=some r):PF 252 [pI p0,pI p1,pI p2] (pB r):=by
 unfold jZ at h
 refine bd ?_
 refine dp Tryz.func252 rfl Tryz.ntmps252 Tryz.results252 rfl (aU [6] (by kernel_rfl) (cN h fun x1 hx1 h=>af (aY 3 [] [9,10] [(11,.agg [pU x1.Hi,pU x1.Lo])] (bi 2 (oQ hx1) bh) (by kernel_rfl) (al rfl (aN (cs:=[pU 0,pU 0]) rfl rfl rfl rfl (fun b2=>aS rfl rfl (an (vs:=[pU x1.Hi,pU x1.Lo]) rfl rfl rfl rfl rfl cw re (aG (cN h fun x3 hx3 h=>af (aY 5 [] [12,13,14,15] [(16,.agg [pU x3.Hi,pU x3.Lo])] (bi 4 (oQ hx3) bh) (by kernel_rfl) (al rfl (aN (cs:=[pU 0,pU 0]) rfl rfl rfl rfl (fun b4=>aS rfl rfl (an (vs:=[pU x3.Hi,pU x3.Lo]) rfl rfl rfl rfl rfl cw re (aG (cN h fun x5 hx5 h=>aq [1,0] [17,18,19,20] [(6,pB (decide (x5≤0)))] (bi 2 (pZ hx5) bh) (by kernel_rfl) (dm ?_)))))))))))))))))
 exact zz r h rfl
def rule_holds (p0:Ze) (p1:Zn):Option Bool:=(aV (S:=Int×Int×Int×Int) (T:=(Int×Int×Int)) (fun (v3,v4,v5,v6)=>cond (decide (v6<(p1.Inputs.length:Int))) (((idx p1.Inputs v6).bind fun m17=>cond m17.Originating (some (v3,v4,v5)) ((gd (p0.Kind == 2) (iJ p0 p1.Code m17.Code)).bind fun x20=>cond ((p0.Kind == 2)&&x20) (some ((IntKind.i64.wrap (v3+m17.Value)),(IntKind.i64.wrap (v4+m17.Value)),(IntKind.i64.wrap (v5+1)))) (some ((IntKind.i64.wrap (v3+m17.Value)),v4,(IntKind.i64.wrap (v5+1)))))).bind fun (v13,v14,v15)=>some (.inl (v13,v14,v15,(IntKind.i64.wrap (v6+1))))) (some (.inr (v3,v4,v5)))) FUEL (0,0,0,0)).bind fun (v7,v8,v9)=>cond (p0.Kind == 1) (some (p1.Obtained&&(v9 == 0))) (cond (p0.Kind == 2) ((jZ v8 p0.Tolerance p1.Price).bind fun x24=>some x24) (cond (p0.Kind == 3) ((jZ v7 p0.Limit p1.Price).bind fun x26=>some x26) (cond (p0.Kind == 4) ((bO p1.Processes p0.Name).bind fun x28=>some x28) (some false))))
theorem wK {p0:Ze} {p1:Zn} {r:Bool}  (h:rule_holds p0 p1=some r):PF 250 [.agg (aC p0),.agg (bC p1)] (pB r):=by
 unfold rule_holds at h
 refine bd ?_
 refine dp Tryz.func250 rfl Tryz.ntmps250 Tryz.results250 rfl (cU rfl (bg (cs:=(aC p0)) rfl rfl (fun b1=>al rfl (bg (cs:=(bC p1)) rfl rfl (fun b2=>bc [4] (by kernel_rfl) (ca (aj [(5,pI 0),(6,pI 0),(7,pI 0)] (by kernel_rfl) (co (aM [0] [10] [(11,pL Zl.enc p1.Inputs),(12,pI (p1.Inputs.length:Int)),(13,pI 0)] (by kernel_rfl) (fa h fun q11 hq11 h=>?_))))))))))
 refine am (Y:=Unit×(Int×Int×Int)) (fun (_,(v7,v8,v9))=>[(2,pP b1 0),(3,pP b2 0),(5,pI v7),(6,pI v8),(7,pI v9)]) (fun (_,(v7,v8,v9))=>[PRes.b b1 84 (aC p0),PRes.b b2 36 (bC p1)]) (fun (_,(v7,v8,v9))=>q11=(v7,v8,v9)) ?_ ?_
 ·refine aw ?_
  refine aB (Y:=Unit) (S:=Int×Int×Int×Int) _ hq11 (fun _ (v3,v4,v5,v6)=>[(2,pP b1 0),(3,pP b2 0),(5,pI v3),(6,pI v4),(7,pI v5),(11,pL Zl.enc p1.Inputs),(12,pI (p1.Inputs.length:Int)),(13,pI v6)]) (fun _ (v3,v4,v5,v6)=>[PRes.b b1 84 (aC p0),PRes.b b2 36 (bC p1)]) () (qR rfl) (ba (ar aJ) cg) ?_
  rintro _ ⟨v3,v4,v5,v6⟩ o τ hb10;(try dsimp only at hb10);dsimp only [au]
  refine ae (aj [(14,pB (decide (v6<(p1.Inputs.length:Int))))] (by kernel_rfl) (ca (jG rfl hb10 (fun hc12 hb10=>?_) fun hc12 hb10=>?_)))
  ·refine ah ?_
   refine cN hb10 fun q16 hq16 hb10=>?_
   refine am (Y:=Unit×(Int×Int×Int)) (fun (_,(v13,v14,v15))=>[(2,pP b1 0),(3,pP b2 0),(5,pI v13),(6,pI v14),(7,pI v15),(11,pL Zl.enc p1.Inputs),(12,pI (p1.Inputs.length:Int)),(13,pI v6)]) (fun (_,(v13,v14,v15))=>[PRes.b b1 84 (aC p0),PRes.b b2 36 (bC p1)]) (fun (_,(v13,v14,v15))=>q16=(v13,v14,v15)) ?_ ?_
   ·skip
    refine nX (aa hq16 fun m17 hm17 hq16=>af (aY 2 [] [15] [(16,.agg [pS m17.Code,pI m17.Value,pB m17.Originating])] (cr 0 Zl.enc hm17 bh) (by kernel_rfl) (al rfl (aN (cs:=[pS ByteArray.empty,pI 0,pB false]) rfl rfl rfl rfl (fun b18=>aS rfl rfl (an (vs:=[pS m17.Code,pI m17.Value,pB m17.Originating]) rfl rfl rfl rfl rfl cw zl3 (aG (co (aM [0] [17] [(18,pB m17.Originating)] (by kernel_rfl) (cR rfl hq16 (fun hc19 hq16=>?_) fun hc19 hq16=>?_))))))))))
    ·refine aH ?_
     refine hY (ak rfl ?_)
     obtain rfl:=osi hq16
     exact av ((),(v3,v4,v5)) (qR rfl) (ba (ar aJ) (ba (ar aJ) bz)) rfl
    refine ah ?_
    refine ca (ai [19,20] [(7,pI (IntKind.i64.wrap (v5+1)))] (by kernel_rfl) (ca (aM [0] [21,22,23,24] [(5,pI (IntKind.i64.wrap (v3+m17.Value)))] (by kernel_rfl) (cN hq16 fun x20 hx20 hq16=>aq [1,1,2,0] (rg 25 10) [(35,pB ((p0.Kind == 2)&&x20))] (dK 9 (fun hc=>sQ (cA hx20 hc)) bh) (by kernel_rfl) (cR rfl hq16 (fun hc21 hq16=>?_) fun hc21 hq16=>?_)))))
    ·refine aM [0] [36,37,38,39] [(6,pI (IntKind.i64.wrap (v4+m17.Value)))] (by kernel_rfl) ?_
     refine aA ?_
     obtain rfl:=osi hq16
     exact av ((),((IntKind.i64.wrap (v3+m17.Value)),(IntKind.i64.wrap (v4+m17.Value)),(IntKind.i64.wrap (v5+1)))) (qR rfl) (ba (ar aJ) (ba (ar aJ) bz)) rfl
    refine ah ?_
    refine aA ?_
    obtain rfl:=osi hq16
    exact av ((),((IntKind.i64.wrap (v3+m17.Value)),v4,(IntKind.i64.wrap (v5+1)))) (qR rfl) (ba (ar aJ) (ba (ar aJ) bz)) rfl
   rintro ⟨_,⟨v13,v14,v15⟩⟩ τ hz;(try dsimp only at hz);subst q16;(try dsimp only at hb10);dsimp only [au]
   refine ai [40] [(13,pI (IntKind.i64.wrap (v6+1)))] (by kernel_rfl) ?_
   exact aR hb10 () (qR rfl) mE
  refine aH ?_
  refine cd hb10 (fun ht=>ak rfl ?_)
  exact av ((),(v3,v4,v5)) (lP rfl) mE ht.symm
 rintro ⟨_,⟨v7,v8,v9⟩⟩ τ hz;(try dsimp only at hz);subst q11;(try dsimp only at h);dsimp only [au]
 refine cT (aM [0] [41] [(42,pI p0.Kind)] (by kernel_rfl) (aL (nX (bF [44] [(43,pB (p0.Kind == 1))] (by kernel_rfl) rfl h (fun hc22 h=>?_) fun hc22 h=>?_))))
 ·refine ae ?_
  refine aM [1] (rg 45 6) [(4,pB (p1.Obtained&&(v9 == 0)))] (by kernel_rfl) (dm (dM ?_))
  exact zz r h rfl
 refine ae ?_
 refine bF [52] [(51,pB (p0.Kind == 2))] (by kernel_rfl) rfl h (fun hc23 h=>?_) fun hc23 h=>?_
 ·refine ae ?_
  refine aa h fun x24 hx24 h=>aq [0,1] (rg 53 6) [(4,pB x24)] (bi 5 (p6 hx24) bh) (by kernel_rfl) (dm (dM ?_))
  exact zz r h rfl
 refine ae ?_
 refine bF [60] [(59,pB (p0.Kind == 3))] (by kernel_rfl) rfl h (fun hc25 h=>?_) fun hc25 h=>?_
 ·refine ae ?_
  refine aa h fun x26 hx26 h=>aq [0,1] (rg 61 6) [(4,pB x26)] (bi 5 (p6 hx26) bh) (by kernel_rfl) (dm (dM ?_))
  exact zz r h rfl
 refine ae ?_
 refine bF [68] [(67,pB (p0.Kind == 4))] (by kernel_rfl) rfl h (fun hc27 h=>?_) fun hc27 h=>?_
 ·refine ae ?_
  refine aa h fun x28 hx28 h=>aq [1,0] (rg 69 5) [(4,pB x28)] (bi 4 (cX hx28) bh) (by kernel_rfl) (dm (dM ?_))
  exact zz r h rfl
 refine ah ?_
 refine aA (ca (cZ [(4,pB false)] (by kernel_rfl) ?_))
 exact zz r h rfl
def e8 (rec:Zh→Zn→Option ((List Int)×Bool)) (p0:(List Zh)) (p1:Zn):Option ((List Int)×Bool):=(aV (S:=(List Int)×Int) (T:=((List Int))⊕(_)) (fun (l3,v6)=>cond (decide (v6<(p0.length:Int))) ((idx p0 v6).bind fun m15=>(rec m15 p1).bind fun x16=>cond (!x16.2) (some (.inr (.inr ([],false)))) ((app 8 l3 x16.1).bind fun l18=>some (.inl (l18,(IntKind.i64.wrap (v6+1)))))) (some (.inr (.inl l3)))) FUEL (([]:List Int),0)).bind fun q=>match q with | .inl l10=>some (l10,true) | .inr e=>some e
theorem od {rec:Zh→Zn→Option ((List Int)×Bool)} (hrec:∀ {x:Zh} {y0:Zn} {w:((List Int)×Bool)},rec x y0=some w→PFI x.pv "customs/rule.witness" [.agg (bC y0)] (.tup [pL eI w.1,pB w.2])) {p0:(List Zh)} {p1:Zn} {r:((List Int)×Bool)} (h:e8 rec p0 p1=some r):PF 243 [pL Zh.enc p0,.agg (bC p1)] (.tup [pL eI r.1,pB r.2]):=by
 unfold e8 at h
 refine bd ?_
 refine dp Tryz.func243 rfl Tryz.ntmps243 Tryz.results243 rfl (cU rfl (bg (cs:=(bC p1)) rfl rfl (fun b1=>bc [4,5] (by kernel_rfl) (ca (aj [(6,pN)] (by kernel_rfl) (co (aj [(11,pL Zh.enc p0),(12,pI (p0.length:Int)),(13,pI 0)] (by kernel_rfl) (aL (bX 3 1 (aa h fun q12 hq12 h=>?_))))))))))
 refine am (Y:=(Option Addr×Nat)×((List Int))) (fun ((a8,c9),l10)=>[(6,pO a8 l10.length c9)]) (fun ((a8,c9),l10)=>[PRes.row a8 l10.length c9 3 1 (List.map eI l10)]) (fun ((a8,c9),l10)=>q12=Sum.inl l10) ?_ ?_
 ·refine aw ?_
  refine aB (Y:=Option Addr×Nat) (S:=(List Int)×Int) _ hq12 (fun (a4,c5) (l3,v6)=>[(3,pP b1 0),(6,pO a4 l3.length c5),(11,pL Zh.enc p0),(12,pI (p0.length:Int)),(13,pI v6)]) (fun (a4,c5) (l3,v6)=>[PRes.b b1 36 (bC p1),PRes.row a4 l3.length c5 3 1 (List.map eI l3)]) (none,0) (lP rfl) (ba (ar aJ) cg) ?_
  rintro ⟨a4,c5⟩ ⟨l3,v6⟩ o τ hb11;(try dsimp only at hb11);dsimp only [au]
  refine ae (aj [(14,pB (decide (v6<(p0.length:Int))))] (by kernel_rfl) (ca (jG rfl hb11 (fun hc14 hb11=>?_) fun hc14 hb11=>?_)))
  ·refine ah ?_
   refine dq (aa hb11 fun m15 hm15 hb11=>aq [] [15,16] [(8,Zh.pv m15)] (cr 0 Zh.enc hm15 bh) (by kernel_rfl) (cN hb11 fun x16 hx16 hb11=>aq [0] [18,19,20,17,21,22] [(9,pL eI x16.1),(10,pB x16.2)] (foci 2 (hrec hx16) bh) (by kernel_rfl) (co (bF [23] [(24,pB (!x16.2))] (by kernel_rfl) rfl hb11 (fun hc17 hb11=>?_) fun hc17 hb11=>?_))))
   ·refine ae ?_
    refine aj [(4,pN),(5,pB false)] (by kernel_rfl) (aL (fz 4 rfl (bq (ap (dM ?_)))))
    refine az hb11 (fun ht=>?_);subst ht
    refine cS ?_
    obtain rfl:=osi h
    exact aP (cD (aO rfl) (aO rfl)) bz ⟨rfl,rfl⟩
   refine ah ?_
   refine fa hb11 fun l18 hl18 hb11=>af (aF 2 [(25,pO a4 l3.length c5),(26,pL eI x16.1)] (by kernel_rfl) ?_)
   refine al rfl (gn (enc:=eI) rfl rfl rfl rfl rfl (fun _=>rfl) rfl rfl rfl (by exact ar aJ) hl18 (fun a19 c20=>?_))
   refine aI [(6,pO a19 l18.length c20)] (by kernel_rfl) (dx (ai [28] [(13,pI (IntKind.i64.wrap (v6+1)))] (by kernel_rfl) ?_))
   exact aR hb11 (a19,c20) (lP rfl) (ba (ar aJ) cg)
  refine aH ?_
  refine cd hb11 (fun ht=>ak rfl ?_)
  exact av ((a4,c5),l3) (qP rfl) (ba (ar aJ) bz) ht.symm
 rintro ⟨⟨a8,c9⟩,l10⟩ τ hz;(try dsimp only at hz);subst q12;(try dsimp only at h);dsimp only [au]
 refine ae (ai [29] [(4,pO a8 l10.length c9),(5,pB true)] (by kernel_rfl) (aL ?_))
 refine dr (enc:=eI) (xs:=l10) 4 rfl (by exact aJ) ?_
 refine bq ?_
 obtain rfl:=osi h
 exact aP (cD (aO rfl) (aO rfl)) bz ⟨rfl,rfl⟩
def gJ (p1:Int):Option (List Int):=(DH 8 p1).bind fun _=>some []
theorem oS {p1:Int} {r:(List Int)} (h:gJ p1=some r):PCall 247 [.v (.slice none 0 0),pI p1] [] (fun pv ρ'=>∃ a c,pv=.v (.slice a r.length c)∧ρ'=[PRes.row a r.length c 3 1 (List.map eI r)]):=by
 unfold gJ at h
 obtain ⟨u,hu,h⟩:=Option.bind_eq_some_iff.1 h
 obtain rfl:=osi h
 obtain ⟨hg0,hg1⟩:=FE hu
 have ew:IntKind.i64.wrap (p1 - IntKind.i64.wrap (((0:Nat):Int) - ((0:Nat):Int)))=p1:=xq hg0 hg1
 refine i4 Tryz.func247 rfl Tryz.ntmps247 Tryz.results247 rfl ?_
 (repeat refine ae ?_)
 refine aU [4] (by kernel_rfl) (aL ?_)
 (repeat refine ae ?_)
 refine ai [5] [(6,pB (decide (p1<0)))] (by kernel_rfl) (aL ?_)
 refine gN rfl (fun hc=>absurd (of_decide_eq_true hc) (by omega)) (fun hc=>?_)
 refine ah (aL ?_)
 (repeat refine ae ?_)
 refine af (aF 2 [(8,pI p1),(9,.v (.slice none 0 0))] (by kernel_rfl) (bx rfl rfl rfl (uq rfl rfl (.p rfl)) (ir [11,12,13,14] [(1,pI (IntKind.i64.wrap (p1 - IntKind.i64.wrap (((0:Nat):Int) - ((0:Nat):Int)))))] (by kernel_rfl) ?_)))
 rw [ew]
 refine aL ?_
 (repeat refine ae ?_)
 refine ai [15] [(16,pB (decide (0<p1)))] (by kernel_rfl) (aL ?_)
 refine gN rfl (fun hc=>?_) (fun hc=>?_)
 ·refine af ?_
  refine aF 2 [(17,.v (.slice none 0 0)),(18,.v (.slice none 0 0))] (by kernel_rfl) (bx rfl rfl rfl (uq rfl rfl (.p rfl)) (bx rfl rfl rfl (qA rfl rfl rfl (.p rfl) (.p rfl) rfl (Nat.zero_le _)) (aF 1 [(21,pI p1)] (by kernel_rfl) (uQ 3 1 ?_))))
  refine al rfl (Am rfl rfl rfl rfl rfl rfl rfl rfl (of_decide_eq_true hc) hu (by exact aJ) (fun a c hac=>?_))
  refine aF 2 [(23,.v (.slice none 0 0)),(24,pI 0)] (by kernel_rfl) (bx rfl rfl rfl (qA (k:=0) rfl rfl rfl (.p rfl) (.p rfl) rfl (Nat.zero_le _)) (aI [(0,.v (.slice a 0 c))] (by kernel_rfl) (aL ?_)))
  (repeat refine ae ?_)
  refine ai [26] [(4,.v (.slice a 0 c))] (by kernel_rfl) (dm ?_)
  exact aP (da (aO rfl)) cg ⟨_,_,rfl,rfl⟩
 refine ah ?_
 refine aL ?_
 (repeat refine ae ?_)
 refine ai [26] [(4,.v (.slice none 0 0))] (by kernel_rfl) (aL (bX 3 1 (bq ?_)))
 exact aP (da (aO rfl)) cg ⟨_,_,rfl,rfl⟩
def dC (p0:(List (List Int))):Option (List Int):=(aV (S:=Int×Int) (T:=(Int)) (fun (v1,v2)=>cond (decide (v2<(p0.length:Int))) ((idx p0 v2).bind fun m7=>cond (decide ((IntKind.i64.wrap (v1+(m7.length:Int)))<0)) (none) (some (.inl ((IntKind.i64.wrap (v1+(m7.length:Int))),(IntKind.i64.wrap (v2+1)))))) (some (.inr v1))) FUEL (0,0)).bind fun v3=>(gJ v3).bind fun x9=>(aV (S:=(List Int)×Int) (T:=((List Int))) (fun (l14,v17)=>cond (decide (v17<(p0.length:Int))) ((idx p0 v17).bind fun m25=>(app 8 l14 m25).bind fun l26=>some (.inl (l26,(IntKind.i64.wrap (v17+1))))) (some (.inr l14))) FUEL (x9,0)).bind fun l21=>some l21
theorem nJ {p0:(List (List Int))} {r:(List Int)}  (h:dC p0=some r):PCall 246 [pL (eL eI) p0] [] (fun pv ρ'=>∃ a c,pv=.v (.slice a r.length c)∧ρ'=[PRes.row a r.length c 3 1 (List.map eI r)]):=by
 unfold dC at h
 refine dp Tryz.func246 rfl Tryz.ntmps246 Tryz.results246 rfl (aU [2] (by kernel_rfl) (ca (aj [(3,pI 0)] (by kernel_rfl) (co (aj [(9,pL (eL eI) p0),(10,pI (p0.length:Int)),(11,pI 0)] (by kernel_rfl) (fa h fun q5 hq5 h=>?_))))))
 refine am (Y:=Unit×Int) (fun (_,v3)=>[(0,pL (eL eI) p0),(3,pI v3)]) (fun (_,v3)=>[]) (fun (_,v3)=>q5=v3) ?_ ?_
 ·refine aw ?_
  refine aB (Y:=Unit) (S:=Int×Int) _ hq5 (fun _ (v1,v2)=>[(0,pL (eL eI) p0),(3,pI v1),(9,pL (eL eI) p0),(10,pI (p0.length:Int)),(11,pI v2)]) (fun _ (v1,v2)=>[]) () (lP rfl) bz ?_
  rintro _ ⟨v1,v2⟩ o τ hb4;(try dsimp only at hb4);dsimp only [au]
  refine ae (aj [(12,pB (decide (v2<(p0.length:Int))))] (by kernel_rfl) (ca (jG rfl hb4 (fun hc6 hb4=>?_) fun hc6 hb4=>?_)))
  ·refine ah ?_
   refine dq (aa hb4 fun m7 hm7 hb4=>aq [] [13,14] [(5,pL eI m7)] (cr 0 (eL eI) hm7 bh) (by kernel_rfl) (ca (ai [15,16,17,18] [(3,pI (IntKind.i64.wrap (v1+(m7.length:Int))))] (by kernel_rfl) (ca (bF [19] [(20,pB (decide ((IntKind.i64.wrap (v1+(m7.length:Int)))<0)))] (by kernel_rfl) rfl hb4 (fun hc8 hb4=>?_) fun hc8 hb4=>?_)))))
   ·refine af ?_
    exact absurd hb4 (by simp)
   refine ah ?_
   refine dx (ai [22] [(11,pI (IntKind.i64.wrap (v2+1)))] (by kernel_rfl) ?_)
   exact aR hb4 () (lP rfl) bz
  refine aH ?_
  refine cd hb4 (fun ht=>ak rfl ?_)
  exact av ((),v1) (lL rfl) bz ht.symm
 rintro ⟨_,v3⟩ τ hz;(try dsimp only at hz);subst q5;(try dsimp only at h);dsimp only [au]
 refine ae (aa h fun x9 hx9 h=>af (aF 1 [(23,pI v3)] (by kernel_rfl) ?_))
 refine al rfl (bf rfl rfl (ρ1:=[]) (List.Perm.refl _) (oS hx9) ?_);rintro _ _ ⟨a10,c11,rfl,rfl⟩
 refine aI [(6,pO a10 x9.length c11)] (by kernel_rfl) (co (aj [(25,pL (eL eI) p0),(26,pI (p0.length:Int)),(27,pI 0)] (by kernel_rfl) (fa h fun q23 hq23 h=>?_)))
 refine am (Y:=(Option Addr×Nat)×((List Int))) (fun ((a19,c20),l21)=>[(6,pO a19 l21.length c20)]) (fun ((a19,c20),l21)=>[PRes.row a19 l21.length c20 3 1 (List.map eI l21)]) (fun ((a19,c20),l21)=>q23=l21) ?_ ?_
 ·refine aw ?_
  refine aB (Y:=Option Addr×Nat) (S:=(List Int)×Int) _ hq23 (fun (a15,c16) (l14,v17)=>[(6,pO a15 l14.length c16),(25,pL (eL eI) p0),(26,pI (p0.length:Int)),(27,pI v17)]) (fun (a15,c16) (l14,v17)=>[PRes.row a15 l14.length c16 3 1 (List.map eI l14)]) (a10,c11) (iq rfl) cg ?_
  rintro ⟨a15,c16⟩ ⟨l14,v17⟩ o τ hb22;(try dsimp only at hb22);dsimp only [au]
  refine ae (aj [(28,pB (decide (v17<(p0.length:Int))))] (by kernel_rfl) (ca (jG rfl hb22 (fun hc24 hb22=>?_) fun hc24 hb22=>?_)))
  ·refine ah ?_
   refine dq (aa hb22 fun m25 hm25 hb22=>aq [] [29,30] [(8,pL eI m25)] (cr 0 (eL eI) hm25 bh) (by kernel_rfl) (fa hb22 fun l26 hl26 hb22=>af (aF 2 [(31,pO a15 l14.length c16),(32,pL eI m25)] (by kernel_rfl) ?_)))
   refine al rfl (gn (enc:=eI) rfl rfl rfl rfl rfl (fun _=>rfl) rfl rfl rfl (by exact aJ) hl26 (fun a27 c28=>?_))
   refine aI [(6,pO a27 l26.length c28)] (by kernel_rfl) (dx (ai [34] [(27,pI (IntKind.i64.wrap (v17+1)))] (by kernel_rfl) ?_))
   exact aR hb22 (a27,c28) (iq rfl) cg
  refine aH ?_
  refine cd hb22 (fun ht=>ak rfl ?_)
  exact av ((a15,c16),l14) (qP rfl) cg ht.symm
 rintro ⟨⟨a19,c20⟩,l21⟩ τ hz;(try dsimp only at hz);subst q23;(try dsimp only at h);dsimp only [au]
 refine ae (ai [35] [(2,pO a19 l21.length c20)] (by kernel_rfl) (dm ?_))
 obtain rfl:=osi h
 exact aP (da (aO rfl)) cg ⟨_,_,rfl,rfl⟩
def fw (rec:Zh→Zn→Option ((List Int)×Bool)) (p0:(List Zh)) (p1:Zn):Option ((List Int)×Bool):=(aV (S:=Int) (T:=(Unit)⊕(_)) (fun v2=>cond (decide (v2<(p0.length:Int))) ((idx p0 v2).bind fun m6=>(rec m6 p1).bind fun x7=>cond x7.2 ((dC [[v2],x7.1]).bind fun x13=>some (.inr (.inr (x13,true)))) (some (.inl (IntKind.i64.wrap (v2+1))))) (some (.inr (.inl ())))) FUEL 0).bind fun q=>match q with | .inl _=>some ([],false) | .inr e=>some e
theorem oT {rec:Zh→Zn→Option ((List Int)×Bool)} (hrec:∀ {x:Zh} {y0:Zn} {w:((List Int)×Bool)},rec x y0=some w→PFI x.pv "customs/rule.witness" [.agg (bC y0)] (.tup [pL eI w.1,pB w.2])) {p0:(List Zh)} {p1:Zn} {r:((List Int)×Bool)} (h:fw rec p0 p1=some r):PF 245 [pL Zh.enc p0,.agg (bC p1)] (.tup [pL eI r.1,pB r.2]):=by
 unfold fw at h
 refine bd ?_
 refine dp Tryz.func245 rfl Tryz.ntmps245 Tryz.results245 rfl (cU rfl (bg (cs:=(bC p1)) rfl rfl (fun b1=>bc [4,5] (by kernel_rfl) (co (aj [(10,pL Zh.enc p0),(11,pI (p0.length:Int)),(12,pI 0)] (by kernel_rfl) (fa h fun q4 hq4 h=>?_))))))
 refine am (Y:=Unit×Unit) (fun (_,_)=>[]) (fun (_,_)=>[]) (fun (_,_)=>q4=Sum.inl ()) ?_ ?_
 ·refine aw ?_
  refine aB (Y:=Unit) (S:=Int) _ hq4 (fun _ v2=>[(3,pP b1 0),(10,pL Zh.enc p0),(11,pI (p0.length:Int)),(12,pI v2)]) (fun _ v2=>[PRes.b b1 36 (bC p1)]) () (iq rfl) cg ?_
  rintro _ v2 o τ hb3;(try dsimp only at hb3);dsimp only [au]
  refine ae (aj [(13,pB (decide (v2<(p0.length:Int))))] (by kernel_rfl) (ca (jG rfl hb3 (fun hc5 hb3=>?_) fun hc5 hb3=>?_)))
  ·refine ah ?_
   refine dq (aa hb3 fun m6 hm6 hb3=>aq [] [14,15,16] [(6,pI v2),(7,Zh.pv m6)] (cr 1 Zh.enc hm6 bh) (by kernel_rfl) (cN hb3 fun x7 hx7 hb3=>aq [0] [18,19,20,17,21,22] [(8,pL eI x7.1),(9,pB x7.2)] (foci 2 (hrec hx7) bh) (by kernel_rfl) (ca (aj [(23,pB x7.2)] (by kernel_rfl) (cR rfl hb3 (fun hc8 hb3=>?_) fun hc8 hb3=>?_)))))
   ·refine ae ?_
    refine af (aF 1 [(24,pI v2)] (by kernel_rfl) (al rfl (bw rfl rfl rfl rfl rfl (fL rfl iP) rfl rfl rfl rfl (fun b9=>aF 1 [(26,pL eI x7.1)] (by kernel_rfl) ?_))))
    refine fO (enc:=eI) (xs:=[v2]) 25 rfl (by exact aJ) ?_
    refine al rfl (bw rfl rfl rfl rfl rfl (fL rfl (fL rfl iP)) rfl rfl rfl rfl (fun b11=>?_))
    refine fO (enc:=(eL eI)) (xs:=[[v2],x7.1]) 27 rfl (by exact aJ) ?_
    refine aa hb3 fun x13 hx13 hb3=>?_
    refine al rfl (bf rfl rfl (ρ1:=[]) (List.Perm.refl _) (nJ hx13) ?_);rintro _ _ ⟨a14,c15,rfl,rfl⟩
    refine aI [(4,pO a14 x13.length c15),(5,pB true)] (by kernel_rfl) (aL ?_)
    refine dr (enc:=eI) (xs:=x13) 4 rfl (by exact aJ) ?_
    refine bq (dM ?_)
    refine az hb3 (fun ht=>?_);subst ht
    refine cS ?_
    obtain rfl:=osi h
    exact aP (cD (aO rfl) (aO rfl)) bz ⟨rfl,rfl⟩
   refine ah ?_
   refine dx (ai [29] [(12,pI (IntKind.i64.wrap (v2+1)))] (by kernel_rfl) ?_)
   exact aR hb3 () (iq rfl) cg
  refine aH ?_
  refine cd hb3 (fun ht=>ak rfl ?_)
  exact av ((),()) nC bz ht.symm
 rintro ⟨_,_⟩ τ hz;(try dsimp only at hz);subst q4;(try dsimp only at h);dsimp only [au]
 refine ae (aj [(4,pN),(5,pB false)] (by kernel_rfl) (aL (fz 4 rfl (bq ?_))))
 obtain rfl:=osi h
 exact aP (cD (aO rfl) (aO rfl)) bz ⟨rfl,rfl⟩
end SX
end Go.Proofs.YtgmbmepakpcpaaaGreatDoor
