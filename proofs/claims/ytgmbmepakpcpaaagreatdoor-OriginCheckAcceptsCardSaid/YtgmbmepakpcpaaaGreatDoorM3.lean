/- A part of the proof: texts of the walk and of the plain laws, merged. No condition. -/
import Derived.Test.YtgmbmepakpcpaaaGreatDoorM2
set_option linter.unusedVariables false
set_option linter.unusedSimpArgs false
set_option maxHeartbeats 4000000
set_option maxRecDepth 100000
namespace Go.Proofs.YtgmbmepakpcpaaaGreatDoor
namespace SX
open Go
attribute [local irreducible] PWL PWC PWD POpL POpQ PEv PGuardIs PSub PPick PUpd PSplice PFill PLit PF PFV PCall FOk ga fa my nL jt lJ Cov PHolds aN idx app mk gd lb nz kZ DP sub jW dU qI vR fS cH py vU IntKind.wrap Int.tmod Int.tdiv Op.bytesLess strOfNums
def du (p0:Zb) (p1:ByteArray) (p2:ByteArray):Option Bool:=(bJ p0.Parties p1).bind fun x2=>(gd x2 (bJ p0.Parties p2)).bind fun x3=>some (x2&&x3)
theorem jd {p0:Zb} {p1:ByteArray} {p2:ByteArray} {r:Bool}  (h:du p0 p1 p2=some r):PF 88 [.agg (aS p0),pS p1,pS p2] (pB r):=by
 unfold du at h
 refine bv ?_
 refine fh Tryz.func88 rfl Tryz.ntmps88 Tryz.results88 rfl (aa (aj rfl (bu (cs:=(aS p0)) rfl rfl (fun b1=>bo [6] (by kernel_rfl) (dD h fun x2 hx2 h=>ae h fun x3 hx3 h=>av [0,0] (rg 7 10) [(6,pB (x2&&x3))] (bR 3 (cU hx2) (iW 8 (fun hc=>cU (gS hx3 hc)) bN)) (by kernel_rfl) (eD ?_))))))
 exact zz r h rfl
def fO (p0:ByteArray) (p1:ByteArray):Option Bool:=(gd (decide ((p1.size:Int)≤(p0.size:Int))) (jW p0 0 (p1.size:Int))).bind fun s1=>some ((decide ((p1.size:Int)≤(p0.size:Int)))&&(decide (s1=p1)))
theorem np {p0:ByteArray} {p1:ByteArray} {r:Bool}  (h:fO p0 p1=some r):PF 164 [pS p0,pS p1] (pB r):=by
 unfold fO at h
 refine bv ?_
 refine fh Tryz.func164 rfl Tryz.ntmps164 Tryz.results164 rfl (bd [4] (by kernel_rfl) (dD h fun s1 hs1 h=>av [] (rg 5 13) [(4,pB ((decide ((p1.size:Int)≤(p0.size:Int)))&&(decide (s1=p1))))] (fossg 9 (gS hs1) bN) (by kernel_rfl) (eD ?_)))
 exact zz r h rfl
def dq (p0:ByteArray) (p1:ByteArray):Option Bool:=(fO p0 p1).bind fun x1=>some x1
theorem iB {p0:ByteArray} {p1:ByteArray} {r:Bool}  (h:dq p0 p1=some r):PF 129 [pS p0,pS p1] (pB r):=by
 unfold dq at h
 refine bv ?_
 refine fh Tryz.func129 rfl Tryz.ntmps129 Tryz.results129 rfl (bd [4] (by kernel_rfl) (dD h fun x1 hx1 h=>av [] [5,6,7] [(4,pB x1)] (bR 2 (np hx1) bN) (by kernel_rfl) (eD ?_)))
 exact zz r h rfl
def j5 (rec:Ze→Int→Option Int) (p0:Ze) (p1:Int):Option Int:=(aN (S:=Int×Int) (T:=(Int)⊕(_)) (fun (v2,v3)=>cond (decide (v3<(p0.Args.length:Int))) ((idx p0.Args v3).bind fun m8=>cond (decide (p1≤v2)) (some (.inr (.inr p1))) ((rec m8 (IntKind.i64.wrap (p1 - v2))).bind fun x11=>some (.inl ((IntKind.i64.wrap (v2+x11)),(IntKind.i64.wrap (v3+1)))))) (some (.inr (.inl v2)))) FUEL (1,0)).bind fun q=>match q with | .inl v4=>some v4 | .inr e=>some e
theorem tG {rec:Ze→Int→Option Int} (hrec:∀ {p0:Ze} {p1:Int} {r:Int},rec p0 p1=some r→PF 165 [.agg (aT p0),pI p1] (pI r)) {p0:Ze} {p1:Int} {r:Int} (h:j5 rec p0 p1=some r):PF 165 [.agg (aT p0),pI p1] (pI r):=by
 unfold j5 at h
 refine bv ?_
 refine fh Tryz.func165 rfl Tryz.ntmps165 Tryz.results165 rfl (aa (aj rfl (bu (cs:=(aT p0)) rfl rfl (fun b1=>bo [4] (by kernel_rfl) (bP (al [(5,pI 1)] (by kernel_rfl) (dn (bj [0] [8] [(9,pL Ze.enc p0.Args),(10,pI (p0.Args.length:Int)),(11,pI 0)] (by kernel_rfl) (jB h fun q6 hq6 h=>?_)))))))))
 refine az (Y:=Unit×Int) (fun (_,v4)=>[(5,pI v4)]) (fun (_,v4)=>[]) (fun (_,v4)=>q6=Sum.inl v4) ?_ ?_
 ·refine aJ ?_
  refine aP (Y:=Unit) (S:=Int×Int) _ hq6 (fun _ (v2,v3)=>[(1,pI p1),(5,pI v2),(9,pL Ze.enc p0.Args),(10,pI (p0.Args.length:Int)),(11,pI v3)]) (fun _ (v2,v3)=>[]) () (nG rfl) cd ?_
  rintro _ ⟨v2,v3⟩ o τ hb5;(try dsimp only at hb5);dsimp only [aF]
  refine af (al [(12,pB (decide (v3<(p0.Args.length:Int))))] (by kernel_rfl) (bP (jX rfl hb5 (fun hc7 hb5=>?_) fun hc7 hb5=>?_)))
  ·refine ai ?_
   refine bP (iM (ae hb5 fun m8 hm8 hb5=>aa (bg 2 [] [13] [(14,.agg (aT m8))] (wy 0 Ze.enc (Ze.enc_eq _) hm8 bN) (by kernel_rfl) (aj rfl (aU (cs:=[pI 0,pI 0,pN,pI 0,pI 0,pS ByteArray.empty,pN]) rfl rfl rfl rfl (fun b9=>aW rfl rfl (an (vs:=(aT m8)) rfl rfl rfl rfl rfl cR qu (aq (dn (ah [15,16] [(17,pB (decide (p1≤v2)))] (by kernel_rfl) (cG rfl hb5 (fun hc10 hb5=>?_) fun hc10 hb5=>?_)))))))))))
   ·refine af ?_
    refine ah [18] [(4,pI p1)] (by kernel_rfl) (eD (am (ja ?_)))
    refine aX hb5 (fun ht=>?_);subst ht
    refine aC (aY ?_)
    exact zz r h rfl
   refine ai ?_
   refine jB hb5 fun x11 hx11 hb5=>av [0] (rg 19 7) [(5,pI (IntKind.i64.wrap (v2+x11)))] (bR 5 (hrec hx11) bN) (by kernel_rfl) (gC (ah [26] [(11,pI (IntKind.i64.wrap (v3+1)))] (by kernel_rfl) ?_))
   exact bh hb5 () (nG rfl) cd
  refine aV ?_
  refine aw (ap hb5 (fun ht=>au rfl ?_))
  exact aH ((),v2) (xF rfl) cd ht.symm
 rintro ⟨_,v4⟩ τ hz;(try dsimp only at hz);subst q6;(try dsimp only at h);dsimp only [aF]
 refine af (ah [27] [(4,pI v4)] (by kernel_rfl) (eD ?_))
 exact zz r h rfl
def lS (n:Nat):Ze→Int→Option Int:=Nat.rec (motive:=fun _=>Ze→Int→Option Int) (fun _ _=>none) (fun _ ih=>j5 ih) n
def qZ (p0:Ze) (p1:Int):Option Int:=lS FUEL p0 p1
theorem uW (n:Nat):∀ {p0:Ze} {p1:Int} {r:Int},lS n p0 p1=some r→PF 165 [.agg (aT p0),pI p1] (pI r):=by
 induction n with
 | zero=>intros;rename_i h;exact nomatch h
 | succ n ih=>intros;rename_i h;exact tG (fun hr=>ih hr) h
theorem vZ {p0:Ze} {p1:Int} {r:Int} (h:qZ p0 p1=some r):PF 165 [.agg (aT p0),pI p1] (pI r):=uW FUEL h
def mG (p0:Ze):Option Bool:=cond ((!(p0.Kind == 2))&&(((p0.Digits != 0)||(decide (0<(p0.Except.length:Int))))||(p0.Tolerance != 0))) (some false) (cond ((p0.Kind != 3)&&(p0.Limit != 0)) (some false) (cond ((p0.Kind != 4)&&(!decide (p0.Name=(⟨#[]⟩:ByteArray)))) (some false) (some (((p0.Kind == 5)||(p0.Kind == 6))||((p0.Args.length:Int) == 0)))))
theorem wa {p0:Ze} {r:Bool}  (h:mG p0=some r):PF 188 [.agg (aT p0)] (pB r):=by
 unfold mG at h
 refine bv ?_
 refine fh Tryz.func188 rfl Tryz.ntmps188 Tryz.results188 rfl (aa (aj rfl (bu (cs:=(aT p0)) rfl rfl (fun b1=>bo [2] (by kernel_rfl) (bP (bj [0] [5,6,7] [(3,pB (p0.Kind == 2))] (by kernel_rfl) (bP (bj [0,0] (rg 8 8) [(4,pB ((p0.Kind == 5)||(p0.Kind == 6)))] (by kernel_rfl) (bP (iM (bj [0,0,0] (rg 17 18) [(16,pB ((!(p0.Kind == 2))&&(((p0.Digits != 0)||(decide (0<(p0.Except.length:Int))))||(p0.Tolerance != 0))))] (by kernel_rfl) (cG rfl h (fun hc2 h=>?_) fun hc2 h=>?_))))))))))))
 ·refine af ?_
  refine fY [(2,pB false)] (by kernel_rfl) (ja ?_)
  exact zz r h rfl
 refine af ?_
 refine bj [0,0] (rg 36 8) [(35,pB ((p0.Kind != 3)&&(p0.Limit != 0)))] (by kernel_rfl) (cG rfl h (fun hc3 h=>?_) fun hc3 h=>?_)
 ·refine af ?_
  refine fY [(2,pB false)] (by kernel_rfl) (ja ?_)
  exact zz r h rfl
 refine af ?_
 refine bj [0,0] (rg 45 8) [(44,pB ((p0.Kind != 4)&&(!decide (p0.Name=(⟨#[]⟩:ByteArray)))))] (by kernel_rfl) (cG rfl h (fun hc4 h=>?_) fun hc4 h=>?_)
 ·refine af ?_
  refine fY [(2,pB false)] (by kernel_rfl) (ja ?_)
  exact zz r h rfl
 refine ai ?_
 refine aG (bP (bj [0] (rg 53 7) [(2,pB (((p0.Kind == 5)||(p0.Kind == 6))||((p0.Args.length:Int) == 0)))] (by kernel_rfl) (eD ?_)))
 exact zz r h rfl
def jm (p0:Int):Option Bool:=some ((decide (0≤p0))&&(decide (p0≤1000000)))
theorem mH {p0:Int} {r:Bool}  (h:jm p0=some r):PF 190 [pI p0] (pB r):=by
 unfold jm at h
 refine bv ?_
 refine fh Tryz.func190 rfl Tryz.ntmps190 Tryz.results190 rfl (bd [2] (by kernel_rfl) (bP (ah (rg 3 6) [(2,pB ((decide (0≤p0))&&(decide (p0≤1000000))))] (by kernel_rfl) (eD ?_))))
 exact zz r h rfl
def dZ (rec:Ze→Option Ze) (p0:Ze):Option Ze:=(bY p0.Except).bind fun x3=>(Dc 96 (p0.Args.length:Int)).bind fun u7=>(aN (S:=(List Ze)×Int) (T:=((List Ze))) (fun (l11,v14)=>cond (decide (v14<(p0.Args.length:Int))) ((idx p0.Args v14).bind fun m23=>(rec m23).bind fun x25=>(app 96 l11 [x25]).bind fun l28=>some (.inl (l28,(IntKind.i64.wrap (v14+1))))) (some (.inr l11))) FUEL (([]:List Ze),0)).bind fun l18=>some (⟨p0.Kind,p0.Digits,x3,p0.Tolerance,p0.Limit,p0.Name,l18⟩:Ze)
theorem mR {rec:Ze→Option Ze} (hrec:∀ {p0:Ze} {r:Ze},rec p0=some r→PF 131 [.agg (aT p0)] (.agg (aT r))) {p0:Ze} {r:Ze} (h:dZ rec p0=some r):PF 131 [.agg (aT p0)] (.agg (aT r)):=by
 unfold dZ at h
 refine bv ?_
 refine fh Tryz.func131 rfl Tryz.ntmps131 Tryz.results131 rfl (aa (aj rfl (bu (cs:=(aT p0)) rfl rfl (fun b1=>aj rfl (aU (cs:=[pI 0,pI 0,pN,pI 0,pI 0,pS ByteArray.empty,pN]) rfl rfl rfl rfl (fun b2=>aq (dD h fun x3 hx3 h=>aa (co 2 [1] [6] [(7,pL eS p0.Except)] (by kernel_rfl) ?_))))))))
 refine aj rfl (bc rfl rfl (ρ1:=[]) (List.Perm.refl _) (eV hx3) ?_);rintro _ _ ⟨a4,c5,rfl,rfl⟩
 refine ar 1 [(9,pP b1 2)] (by kernel_rfl) (aW rfl rfl (an (vs:=[pO a4 x3.length c5]) rfl rfl rfl rfl rfl (dh (dh cR)) (eg (eg og)) (aq (dD h fun u7 hu7 h=>aa (co 3 [2] [10,11] [(12,pI (p0.Args.length:Int))] (by kernel_rfl) (aj rfl (E7 rfl rfl rfl rfl rfl rfl rfl hu7 (fun b8=>aQ [(3,pO (some ⟨b8,0,none⟩) 0 ((p0.Args.length:Int).toNat))] (by kernel_rfl) (dn (bj [3] [14] [(15,pL Ze.enc p0.Args),(16,pI (p0.Args.length:Int)),(17,pI 0)] (by kernel_rfl) (jB h fun q21 hq21 h=>?_)))))))))))
 refine az (Y:=(Option Addr×Nat)×((List Ze))) (fun ((a16,c17),l18)=>[(1,pP b1 0),(2,pP b2 0),(3,pO a16 l18.length c17)]) (fun ((a16,c17),l18)=>[PRes.b b1 84 [pI p0.Kind,pI p0.Digits,pO a4 x3.length c5,pI p0.Tolerance,pI p0.Limit,pS p0.Name,pL Ze.enc p0.Args],PRes.b b2 84 [pI 0,pI 0,pN,pI 0,pI 0,pS ByteArray.empty,pN],PRes.row a16 l18.length c17 84 7 (List.map Ze.enc l18),PRes.row a4 x3.length c5 9 1 (List.map eS x3)]) (fun ((a16,c17),l18)=>q21=l18) ?_ ?_
 ·refine aJ ?_
  refine aP (Y:=Option Addr×Nat) (S:=(List Ze)×Int) _ hq21 (fun (a12,c13) (l11,v14)=>[(1,pP b1 0),(2,pP b2 0),(3,pO a12 l11.length c13),(15,pL Ze.enc p0.Args),(16,pI (p0.Args.length:Int)),(17,pI v14)]) (fun (a12,c13) (l11,v14)=>[PRes.b b1 84 [pI p0.Kind,pI p0.Digits,pO a4 x3.length c5,pI p0.Tolerance,pI p0.Limit,pS p0.Name,pL Ze.enc p0.Args],PRes.b b2 84 [pI 0,pI 0,pN,pI 0,pI 0,pS ByteArray.empty,pN],PRes.row a12 l11.length c13 84 7 (List.map Ze.enc l11),PRes.row a4 x3.length c5 9 1 (List.map eS x3)]) ((some ⟨b8,0,none⟩),(p0.Args.length:Int).toNat) (uH rfl) (be (ak (ak (ak aB))) (be (ak (ak aB)) sY)) ?_
  rintro ⟨a12,c13⟩ ⟨l11,v14⟩ o τ hb20;(try dsimp only at hb20);dsimp only [aF]
  refine af (al [(18,pB (decide (v14<(p0.Args.length:Int))))] (by kernel_rfl) (bP (jX rfl hb20 (fun hc22 hb20=>?_) fun hc22 hb20=>?_)))
  ·refine ai ?_
   refine bP (iM (ae hb20 fun m23 hm23 hb20=>aa (bg 2 [] [19] [(20,.agg (aT m23))] (wy 0 Ze.enc (Ze.enc_eq _) hm23 bN) (by kernel_rfl) (aj rfl (aU (cs:=[pI 0,pI 0,pN,pI 0,pI 0,pS ByteArray.empty,pN]) rfl rfl rfl rfl (fun b24=>aW rfl rfl (an (vs:=(aT m23)) rfl rfl rfl rfl rfl cR qu (aq (jB hb20 fun x25 hx25 hb20=>aa (bg 3 [0] [22] [(21,pO a12 l11.length c13),(23,.agg (aT x25))] (bR 2 (hrec hx25) bN) (by kernel_rfl) ?_))))))))))
   refine aj rfl (bI (css:=List.map Ze.enc [x25]) rfl rfl rfl rfl rfl (by (simp only [List.map_cons,List.map_nil,Ze.enc_eq];(repeat (first | exact jO | apply gw rfl)))) rfl (by (simp only [List.map_cons,List.map_nil,Ze.enc_eq];rfl)) rfl rfl (fun b26=>?_))
   refine ae hb20 fun l28 hl28 hb20=>?_
   refine aj rfl (bX (enc:=Ze.enc) rfl rfl rfl rfl rfl rfl rfl rfl rfl gx (by exact ak (ak (ak (ak aB)))) hl28 (fun a29 c30=>?_))
   refine aQ [(3,pO a29 l28.length c30)] (by kernel_rfl) (gC (ah [26] [(17,pI (IntKind.i64.wrap (v14+1)))] (by kernel_rfl) ?_))
   exact bh hb20 (a29,c30) (uH rfl) (be (ak (ak (ak aB))) (be (ak (ak (ak aB))) (be aB (be (ak (ak aB)) cd))))
  refine aV ?_
  refine aw (ap hb20 (fun ht=>au rfl ?_))
  exact aH ((a12,c13),l11) (AV rfl) F4 ht.symm
 rintro ⟨⟨a16,c17⟩,l18⟩ τ hz;(try dsimp only at hz);subst q21;(try dsimp only at h);dsimp only [aF]
 refine af (aa (ar 2 [(27,pO a16 l18.length c17),(28,pP b1 6)] (by kernel_rfl) (aW rfl rfl (an (vs:=[pO a16 l18.length c17]) rfl rfl rfl rfl rfl cR (eg (eg (eg (eg (eg (eg og)))))) (aq (bP (aa ?_)))))))
 refine mW (css:=List.map eS x3) (a:=a4) (by exact ak (ak (ak aB))) ?_
 refine kB (k:=2) (enc:=eS) (xs:=x3) (b:=b1) (a:=a4) rfl gx (dh cR) ?_
 refine mW (css:=List.map Ze.enc l18) (a:=a16) (by exact ak (ak (ak aB))) ?_
 refine kB (k:=6) (enc:=Ze.enc) (xs:=l18) (b:=b1) (a:=a16) rfl gx (dh (dh cR)) (gg 1 [2] [(29,.agg [pI p0.Kind,pI p0.Digits,pL eS x3,pI p0.Tolerance,pI p0.Limit,pS p0.Name,pL Ze.enc l18])] (by kernel_rfl) (aW rfl rfl (an (vs:=[pI p0.Kind,pI p0.Digits,pL eS x3,pI p0.Tolerance,pI p0.Limit,pS p0.Name,pL Ze.enc l18]) rfl rfl rfl rfl rfl (dh (dh (dh cR))) qu (aq (eD ?_)))))
 obtain rfl:=osi h
 exact aK (cN (gy rfl DQ rfl)) cd ⟨rfl,rfl⟩
def ft (n:Nat):Ze→Option Ze:=Nat.rec (motive:=fun _=>Ze→Option Ze) (fun _=>none) (fun _ ih=>dZ ih) n
def iC (p0:Ze):Option Ze:=ft FUEL p0
theorem nq (n:Nat):∀ {p0:Ze} {r:Ze},ft n p0=some r→PF 131 [.agg (aT p0)] (.agg (aT r)):=by
 induction n with
 | zero=>intros;rename_i h;exact nomatch h
 | succ n ih=>intros;rename_i h;exact mR (fun hr=>ih hr) h
theorem nS {p0:Ze} {r:Ze} (h:iC p0=some r):PF 131 [.agg (aT p0)] (.agg (aT r)):=nq FUEL h
def bk (p0:(List Zi)) (p1:(List Zi)) (p2:(Zi→Zi→Option Bool)):Option Bool:=cond ((p0.length:Int) != (p1.length:Int)) (some false) ((aN (S:=Int) (T:=(Unit)⊕(_)) (fun v2=>cond (decide (v2<(p0.length:Int))) ((idx p0 v2).bind fun m6=>(idx p1 v2).bind fun m8=>(p2 m6 m8).bind fun x10=>cond (!x10) (some (.inr (.inr false))) (some (.inl (IntKind.i64.wrap (v2+1))))) (some (.inr (.inl ())))) FUEL 0).bind fun q=>match q with | .inl _=>some true | .inr e=>some e)
theorem dF {p0:(List Zi)} {p1:(List Zi)} {p2:(Zi→Zi→Option Bool)} {r:Bool} {g2:PV} (hg2:∀ {y0:Zi} {y1:Zi} {w:Bool},p2 y0 y1=some w→PFV g2 [.agg (dY y0),.agg (dY y1)] (pB w)) (h:bk p0 p1 p2=some r):PF 134 [pL Zi.enc p0,pL Zi.enc p1,g2] (pB r):=by
 unfold bk at h
 refine bv ?_
 refine fh Tryz.func134 rfl Tryz.ntmps134 Tryz.results134 rfl (bd [6] (by kernel_rfl) (dn (ah [10,11,12,13] [(14,pB ((p0.length:Int) != (p1.length:Int)))] (by kernel_rfl) (cG rfl h (fun hc1 h=>?_) fun hc1 h=>?_))))
 ·refine af ?_
  refine fY [(6,pB false)] (by kernel_rfl) (am ?_)
  exact zz r h rfl
 refine ai ?_
 refine dn (al [(15,pL Zi.enc p0),(16,pI (p0.length:Int)),(17,pI 0)] (by kernel_rfl) (jB h fun q4 hq4 h=>?_))
 refine az (Y:=Unit×Unit) (fun (_,_)=>[]) (fun (_,_)=>[]) (fun (_,_)=>q4=Sum.inl ()) ?_ ?_
 ·refine aJ ?_
  refine aP (Y:=Unit) (S:=Int) _ hq4 (fun _ v2=>[(1,pL Zi.enc p1),(2,g2),(15,pL Zi.enc p0),(16,pI (p0.length:Int)),(17,pI v2)]) (fun _ v2=>[]) () (nG rfl) cd ?_
  rintro _ v2 o τ hb3;(try dsimp only at hb3);dsimp only [aF]
  refine af (al [(18,pB (decide (v2<(p0.length:Int))))] (by kernel_rfl) (bP (jX rfl hb3 (fun hc5 hb3=>?_) fun hc5 hb3=>?_)))
  ·refine ai ?_
   refine bP (iM (ae hb3 fun m6 hm6 hb3=>aa (bg 3 [] [20] [(19,pI v2),(21,.agg (dY m6))] (eO 1 Zi.enc hm6 bN) (by kernel_rfl) (aj rfl (aU (cs:=[pS ByteArray.empty,pI 0,pI 0,pN,pI 0,pI 0,pS ByteArray.empty,pN]) rfl rfl rfl rfl (fun b7=>ar 1 [(7,pI v2)] (by kernel_rfl) (aW rfl rfl (an (vs:=(dY m6)) rfl rfl rfl rfl rfl cR zl8 (aq (dD hb3 fun m8 hm8 hb3=>aa (bg 4 [] [22,23,24] [(25,.agg (dY m8))] (eO 2 Zi.enc hm8 bN) (by kernel_rfl) (aj rfl (aU (cs:=[pS ByteArray.empty,pI 0,pI 0,pN,pI 0,pI 0,pS ByteArray.empty,pN]) rfl rfl rfl rfl (fun b9=>aW rfl rfl (an (vs:=(dY m8)) rfl rfl rfl rfl rfl cR zl8 (aq (dD hb3 fun x10 hx10 hb3=>av [1,0] [26,27,28,29] [(30,pB (!x10))] (C5 3 (hg2 hx10) bN) (by kernel_rfl) (cG rfl hb3 (fun hc11 hb3=>?_) fun hc11 hb3=>?_))))))))))))))))))
   ·refine af ?_
    refine fY [(6,pB false)] (by kernel_rfl) (ja ?_)
    refine aX hb3 (fun ht=>?_);subst ht
    refine aC (aY ?_)
    exact zz r h rfl
   refine ai ?_
   refine gC (ah [31] [(17,pI (IntKind.i64.wrap (v2+1)))] (by kernel_rfl) ?_)
   exact bh hb3 () (nG rfl) cd
  refine aV ?_
  refine aw (ap hb3 (fun ht=>au rfl ?_))
  exact aH ((),()) rt cd ht.symm
 rintro ⟨_,_⟩ τ hz;(try dsimp only at hz);subst q4;(try dsimp only at h);dsimp only [aF]
 refine af (fY [(6,pB true)] (by kernel_rfl) ?_)
 exact zz r h rfl
def d9 (p0:(List ByteArray)) (p1:(List ByteArray)):Option Bool:=cond ((p0.length:Int) != (p1.length:Int)) (some false) ((aN (S:=Int) (T:=(Unit)⊕(_)) (fun v2=>cond (decide (v2<(p0.length:Int))) ((idx p0 v2).bind fun m6=>(idx p1 v2).bind fun m7=>cond (!decide (m6=m7)) (some (.inr (.inr false))) (some (.inl (IntKind.i64.wrap (v2+1))))) (some (.inr (.inl ())))) FUEL 0).bind fun q=>match q with | .inl _=>some true | .inr e=>some e)
theorem lh {p0:(List ByteArray)} {p1:(List ByteArray)} {r:Bool}  (h:d9 p0 p1=some r):PF 167 [pL eS p0,pL eS p1] (pB r):=by
 unfold d9 at h
 refine bv ?_
 refine fh Tryz.func167 rfl Tryz.ntmps167 Tryz.results167 rfl (bd [4] (by kernel_rfl) (dn (ah [6,7,8,9] [(10,pB ((p0.length:Int) != (p1.length:Int)))] (by kernel_rfl) (cG rfl h (fun hc1 h=>?_) fun hc1 h=>?_))))
 ·refine af ?_
  refine fY [(4,pB false)] (by kernel_rfl) (am ?_)
  exact zz r h rfl
 refine ai ?_
 refine dn (ah [11] [(12,pI (p0.length:Int)),(13,pI 0)] (by kernel_rfl) (jB h fun q4 hq4 h=>?_))
 refine az (Y:=Unit×Unit) (fun (_,_)=>[]) (fun (_,_)=>[]) (fun (_,_)=>q4=Sum.inl ()) ?_ ?_
 ·refine aJ ?_
  refine aP (Y:=Unit) (S:=Int) _ hq4 (fun _ v2=>[(0,pL eS p0),(1,pL eS p1),(12,pI (p0.length:Int)),(13,pI v2)]) (fun _ v2=>[]) () (kQ rfl) cd ?_
  rintro _ v2 o τ hb3;(try dsimp only at hb3);dsimp only [aF]
  refine af (al [(14,pB (decide (v2<(p0.length:Int))))] (by kernel_rfl) (bP (jX rfl hb3 (fun hc5 hb3=>?_) fun hc5 hb3=>?_)))
  ·refine ai ?_
   refine bP (iM (ah [15] [(5,pI v2)] (by kernel_rfl) (bP (cC (ρd:=[]) [(0,0),(1,0),(2,0),(3,0),(4,0),(5,0),(6,0),(7,0),(8,0)] _ (List.Perm.refl _) (by kernel_rfl) rfl (ae hb3 fun m6 hm6 hb3=>ae hb3 fun m7 hm7 hb3=>cP 9 [] (rg 16 8) [(24,pB (!decide (m6=m7)))] (eO 2 eS hm6 (eO 6 eS hm7 bN)) (by kernel_rfl) (da (cG rfl hb3 (fun hc8 hb3=>?_) fun hc8 hb3=>?_)))))))
   ·refine af ?_
    refine fY [(4,pB false)] (by kernel_rfl) (ja ?_)
    refine aX hb3 (fun ht=>?_);subst ht
    refine aC (aY ?_)
    exact zz r h rfl
   refine ai ?_
   refine gC (ah [25] [(13,pI (IntKind.i64.wrap (v2+1)))] (by kernel_rfl) ?_)
   exact bh hb3 () (kQ rfl) cd
  refine aV ?_
  refine aw (ap hb3 (fun ht=>au rfl ?_))
  exact aH ((),()) rt cd ht.symm
 rintro ⟨_,_⟩ τ hz;(try dsimp only at hz);subst q4;(try dsimp only at h);dsimp only [aF]
 refine af (fY [(4,pB true)] (by kernel_rfl) ?_)
 exact zz r h rfl
def bp (p0:(List Ze)) (p1:(List Ze)) (p2:(Ze→Ze→Option Bool)):Option Bool:=cond ((p0.length:Int) != (p1.length:Int)) (some false) ((aN (S:=Int) (T:=(Unit)⊕(_)) (fun v2=>cond (decide (v2<(p0.length:Int))) ((idx p0 v2).bind fun m6=>(idx p1 v2).bind fun m8=>(p2 m6 m8).bind fun x10=>cond (!x10) (some (.inr (.inr false))) (some (.inl (IntKind.i64.wrap (v2+1))))) (some (.inr (.inl ())))) FUEL 0).bind fun q=>match q with | .inl _=>some true | .inr e=>some e)
theorem e8 {p0:(List Ze)} {p1:(List Ze)} {p2:(Ze→Ze→Option Bool)} {r:Bool} {g2:PV} (hg2:∀ {y0:Ze} {y1:Ze} {w:Bool},p2 y0 y1=some w→PFV g2 [.agg (aT y0),.agg (aT y1)] (pB w)) (h:bp p0 p1 p2=some r):PF 168 [pL Ze.enc p0,pL Ze.enc p1,g2] (pB r):=by
 unfold bp at h
 refine bv ?_
 refine fh Tryz.func168 rfl Tryz.ntmps168 Tryz.results168 rfl (bd [6] (by kernel_rfl) (dn (ah [10,11,12,13] [(14,pB ((p0.length:Int) != (p1.length:Int)))] (by kernel_rfl) (cG rfl h (fun hc1 h=>?_) fun hc1 h=>?_))))
 ·refine af ?_
  refine fY [(6,pB false)] (by kernel_rfl) (am ?_)
  exact zz r h rfl
 refine ai ?_
 refine dn (al [(15,pL Ze.enc p0),(16,pI (p0.length:Int)),(17,pI 0)] (by kernel_rfl) (jB h fun q4 hq4 h=>?_))
 refine az (Y:=Unit×Unit) (fun (_,_)=>[]) (fun (_,_)=>[]) (fun (_,_)=>q4=Sum.inl ()) ?_ ?_
 ·refine aJ ?_
  refine aP (Y:=Unit) (S:=Int) _ hq4 (fun _ v2=>[(1,pL Ze.enc p1),(2,g2),(15,pL Ze.enc p0),(16,pI (p0.length:Int)),(17,pI v2)]) (fun _ v2=>[]) () (nG rfl) cd ?_
  rintro _ v2 o τ hb3;(try dsimp only at hb3);dsimp only [aF]
  refine af (al [(18,pB (decide (v2<(p0.length:Int))))] (by kernel_rfl) (bP (jX rfl hb3 (fun hc5 hb3=>?_) fun hc5 hb3=>?_)))
  ·refine ai ?_
   refine bP (iM (ae hb3 fun m6 hm6 hb3=>aa (bg 3 [] [20] [(19,pI v2),(21,.agg (aT m6))] (wy 1 Ze.enc (Ze.enc_eq _) hm6 bN) (by kernel_rfl) (aj rfl (aU (cs:=[pI 0,pI 0,pN,pI 0,pI 0,pS ByteArray.empty,pN]) rfl rfl rfl rfl (fun b7=>ar 1 [(7,pI v2)] (by kernel_rfl) (aW rfl rfl (an (vs:=(aT m6)) rfl rfl rfl rfl rfl cR qu (aq (dD hb3 fun m8 hm8 hb3=>aa (bg 4 [] [22,23,24] [(25,.agg (aT m8))] (wy 2 Ze.enc (Ze.enc_eq _) hm8 bN) (by kernel_rfl) (aj rfl (aU (cs:=[pI 0,pI 0,pN,pI 0,pI 0,pS ByteArray.empty,pN]) rfl rfl rfl rfl (fun b9=>aW rfl rfl (an (vs:=(aT m8)) rfl rfl rfl rfl rfl cR qu (aq (dD hb3 fun x10 hx10 hb3=>av [1,0] [26,27,28,29] [(30,pB (!x10))] (C5 3 (hg2 hx10) bN) (by kernel_rfl) (cG rfl hb3 (fun hc11 hb3=>?_) fun hc11 hb3=>?_))))))))))))))))))
   ·refine af ?_
    refine fY [(6,pB false)] (by kernel_rfl) (ja ?_)
    refine aX hb3 (fun ht=>?_);subst ht
    refine aC (aY ?_)
    exact zz r h rfl
   refine ai ?_
   refine gC (ah [31] [(17,pI (IntKind.i64.wrap (v2+1)))] (by kernel_rfl) ?_)
   exact bh hb3 () (nG rfl) cd
  refine aV ?_
  refine aw (ap hb3 (fun ht=>au rfl ?_))
  exact aH ((),()) rt cd ht.symm
 rintro ⟨_,_⟩ τ hz;(try dsimp only at hz);subst q4;(try dsimp only at h);dsimp only [aF]
 refine af (fY [(6,pB true)] (by kernel_rfl) ?_)
 exact zz r h rfl
def ed (rec:Ze→Ze→Option Bool) (p0:Ze) (p1:Ze):Option Bool:=(gd (((((p0.Kind == p1.Kind)&&(p0.Digits == p1.Digits))&&(p0.Tolerance == p1.Tolerance))&&(p0.Limit == p1.Limit))&&(decide (p0.Name=p1.Name))) (d9 p0.Except p1.Except)).bind fun x3=>(gd ((((((p0.Kind == p1.Kind)&&(p0.Digits == p1.Digits))&&(p0.Tolerance == p1.Tolerance))&&(p0.Limit == p1.Limit))&&(decide (p0.Name=p1.Name)))&&x3) (bp p0.Args p1.Args (fun y4 y5=>rec y4 y5))).bind fun x6=>some (((((((p0.Kind == p1.Kind)&&(p0.Digits == p1.Digits))&&(p0.Tolerance == p1.Tolerance))&&(p0.Limit == p1.Limit))&&(decide (p0.Name=p1.Name)))&&x3)&&x6)
theorem mS {rec:Ze→Ze→Option Bool} (hrec:∀ {p0:Ze} {p1:Ze} {r:Bool},rec p0 p1=some r→PF 136 [.agg (aT p0),.agg (aT p1)] (pB r)) {p0:Ze} {p1:Ze} {r:Bool} (h:ed rec p0 p1=some r):PF 136 [.agg (aT p0),.agg (aT p1)] (pB r):=by
 unfold ed at h
 refine bv ?_
 refine fh Tryz.func136 rfl Tryz.ntmps136 Tryz.results136 rfl (aa (aj rfl (bu (cs:=(aT p0)) rfl rfl (fun b1=>aj rfl (bu (cs:=(aT p1)) rfl rfl (fun b2=>bo [4] (by kernel_rfl) (dD h fun x3 hx3 h=>ae h fun x6 hx6 h=>av [1,0,1,0,1,0,1,0,1,0,1,0,1,0] (rg 5 47) [(4,pB (((((((p0.Kind == p1.Kind)&&(p0.Digits == p1.Digits))&&(p0.Tolerance == p1.Tolerance))&&(p0.Limit == p1.Limit))&&(decide (p0.Name=p1.Name)))&&x3)&&x6))] (iW 38 (fun hc=>lh (gS hx3 hc)) (iW 45 (fun hc=>e8 (fun hr=>sc (hrec hr)) (gS hx6 hc)) bN)) (by kernel_rfl) (eD ?_))))))))
 exact zz r h rfl
def ee (n:Nat):Ze→Ze→Option Bool:=Nat.rec (motive:=fun _=>Ze→Ze→Option Bool) (fun _ _=>none) (fun _ ih=>ed ih) n
def iD (p0:Ze) (p1:Ze):Option Bool:=ee FUEL p0 p1
theorem ns (n:Nat):∀ {p0:Ze} {p1:Ze} {r:Bool},ee n p0 p1=some r→PF 136 [.agg (aT p0),.agg (aT p1)] (pB r):=by
 induction n with
 | zero=>intros;rename_i h;exact nomatch h
 | succ n ih=>intros;rename_i h;exact mS (fun hr=>ih hr) h
theorem nT {p0:Ze} {p1:Ze} {r:Bool} (h:iD p0 p1=some r):PF 136 [.agg (aT p0),.agg (aT p1)] (pB r):=ns FUEL h
def eA (p1:Int):Option (List ByteArray):=(Dc 16 p1).bind fun _=>some []
theorem lB {p1:Int} {r:(List ByteArray)} (h:eA p1=some r):PCall 169 [.v (.slice none 0 0),pI p1] [] (fun pv ρ'=>∃ a c,pv=.v (.slice a r.length c)∧ρ'=[PRes.row a r.length c 9 1 (List.map eS r)]):=by
 unfold eA at h
 obtain ⟨u,hu,h⟩:=Option.bind_eq_some_iff.1 h
 obtain rfl:=osi h
 obtain ⟨hg0,hg1⟩:=Fd hu
 have ew:IntKind.i64.wrap (p1 - IntKind.i64.wrap (((0:Nat):Int) - ((0:Nat):Int)))=p1:=wI hg0 hg1
 refine jl Tryz.func169 rfl Tryz.ntmps169 Tryz.results169 rfl ?_
 (repeat refine af ?_)
 refine bd [4] (by kernel_rfl) (aM ?_)
 (repeat refine af ?_)
 refine ah [5] [(6,pB (decide (p1<0)))] (by kernel_rfl) (aM ?_)
 refine gI rfl (fun hc=>absurd (of_decide_eq_true hc) (by omega)) (fun hc=>?_)
 refine ai (aM ?_)
 (repeat refine af ?_)
 refine aa (ar 2 [(8,pI p1),(9,.v (.slice none 0 0))] (by kernel_rfl) (bz rfl rfl rfl (t8 rfl rfl (.p rfl)) (gf [11,12,13,14] [(1,pI (IntKind.i64.wrap (p1 - IntKind.i64.wrap (((0:Nat):Int) - ((0:Nat):Int)))))] (by kernel_rfl) ?_)))
 rw [ew]
 refine aM ?_
 (repeat refine af ?_)
 refine ah [15] [(16,pB (decide (0<p1)))] (by kernel_rfl) (aM ?_)
 refine gI rfl (fun hc=>?_) (fun hc=>?_)
 ·refine aa ?_
  refine ar 2 [(17,.v (.slice none 0 0)),(18,.v (.slice none 0 0))] (by kernel_rfl) (bz rfl rfl rfl (t8 rfl rfl (.p rfl)) (bz rfl rfl rfl (qz rfl rfl rfl (.p rfl) (.p rfl) rfl (Nat.zero_le _)) (ar 1 [(21,pI p1)] (by kernel_rfl) (uy 9 1 ?_))))
  refine aj rfl (zy rfl rfl rfl rfl rfl rfl rfl rfl (of_decide_eq_true hc) hu (by exact aB) (fun a c hac=>?_))
  refine ar 2 [(23,.v (.slice none 0 0)),(24,pI 0)] (by kernel_rfl) (bz rfl rfl rfl (qz (k:=0) rfl rfl rfl (.p rfl) (.p rfl) rfl (Nat.zero_le _)) (aQ [(0,.v (.slice a 0 c))] (by kernel_rfl) (aM ?_)))
  (repeat refine af ?_)
  refine ah [26] [(4,.v (.slice a 0 c))] (by kernel_rfl) (eD ?_)
  exact aK (cN (aL rfl)) dC ⟨_,_,rfl,rfl⟩
 refine ai ?_
 refine aM ?_
 (repeat refine af ?_)
 refine ah [26] [(4,.v (.slice none 0 0))] (by kernel_rfl) (aM (ca 9 1 (bV ?_)))
 exact aK (cN (aL rfl)) dC ⟨_,_,rfl,rfl⟩
def cV (p0:(List (List ByteArray))):Option (List ByteArray):=(aN (S:=Int×Int) (T:=(Int)) (fun (v1,v2)=>cond (decide (v2<(p0.length:Int))) ((idx p0 v2).bind fun m7=>cond (decide ((IntKind.i64.wrap (v1+(m7.length:Int)))<0)) (none) (some (.inl ((IntKind.i64.wrap (v1+(m7.length:Int))),(IntKind.i64.wrap (v2+1)))))) (some (.inr v1))) FUEL (0,0)).bind fun v3=>(eA v3).bind fun x9=>(aN (S:=(List ByteArray)×Int) (T:=((List ByteArray))) (fun (l14,v17)=>cond (decide (v17<(p0.length:Int))) ((idx p0 v17).bind fun m25=>(app 16 l14 m25).bind fun l26=>some (.inl (l26,(IntKind.i64.wrap (v17+1))))) (some (.inr l14))) FUEL (x9,0)).bind fun l21=>some l21
theorem kF {p0:(List (List ByteArray))} {r:(List ByteArray)}  (h:cV p0=some r):PCall 138 [pL (eL eS) p0] [] (fun pv ρ'=>∃ a c,pv=.v (.slice a r.length c)∧ρ'=[PRes.row a r.length c 9 1 (List.map eS r)]):=by
 unfold cV at h
 refine fh Tryz.func138 rfl Tryz.ntmps138 Tryz.results138 rfl (bd [2] (by kernel_rfl) (bP (al [(3,pI 0)] (by kernel_rfl) (dn (al [(9,pL (eL eS) p0),(10,pI (p0.length:Int)),(11,pI 0)] (by kernel_rfl) (jB h fun q5 hq5 h=>?_))))))
 refine az (Y:=Unit×Int) (fun (_,v3)=>[(0,pL (eL eS) p0),(3,pI v3)]) (fun (_,v3)=>[]) (fun (_,v3)=>q5=v3) ?_ ?_
 ·refine aJ ?_
  refine aP (Y:=Unit) (S:=Int×Int) _ hq5 (fun _ (v1,v2)=>[(0,pL (eL eS) p0),(3,pI v1),(9,pL (eL eS) p0),(10,pI (p0.length:Int)),(11,pI v2)]) (fun _ (v1,v2)=>[]) () (nG rfl) cd ?_
  rintro _ ⟨v1,v2⟩ o τ hb4;(try dsimp only at hb4);dsimp only [aF]
  refine af (al [(12,pB (decide (v2<(p0.length:Int))))] (by kernel_rfl) (bP (jX rfl hb4 (fun hc6 hb4=>?_) fun hc6 hb4=>?_)))
  ·refine ai ?_
   refine bP (iM (ae hb4 fun m7 hm7 hb4=>av [] [13,14] [(5,pL eS m7)] (eO 0 (eL eS) hm7 bN) (by kernel_rfl) (bP (ah [15,16,17,18] [(3,pI (IntKind.i64.wrap (v1+(m7.length:Int))))] (by kernel_rfl) (bP (ah [19] [(20,pB (decide ((IntKind.i64.wrap (v1+(m7.length:Int)))<0)))] (by kernel_rfl) (cG rfl hb4 (fun hc8 hb4=>?_) fun hc8 hb4=>?_)))))))
   ·refine aa ?_
    exact absurd hb4 (by simp)
   refine ai ?_
   refine gC (ah [22] [(11,pI (IntKind.i64.wrap (v2+1)))] (by kernel_rfl) ?_)
   exact bh hb4 () (nG rfl) cd
  refine aV ?_
  refine aw (ap hb4 (fun ht=>au rfl ?_))
  exact aH ((),v1) (sX rfl) cd ht.symm
 rintro ⟨_,v3⟩ τ hz;(try dsimp only at hz);subst q5;(try dsimp only at h);dsimp only [aF]
 refine af (ae h fun x9 hx9 h=>aa (ar 1 [(23,pI v3)] (by kernel_rfl) ?_))
 refine aj rfl (bc rfl rfl (ρ1:=[]) (List.Perm.refl _) (lB hx9) ?_);rintro _ _ ⟨a10,c11,rfl,rfl⟩
 refine aQ [(6,pO a10 x9.length c11)] (by kernel_rfl) (dn (al [(25,pL (eL eS) p0),(26,pI (p0.length:Int)),(27,pI 0)] (by kernel_rfl) (jB h fun q23 hq23 h=>?_)))
 refine az (Y:=(Option Addr×Nat)×((List ByteArray))) (fun ((a19,c20),l21)=>[(6,pO a19 l21.length c20)]) (fun ((a19,c20),l21)=>[PRes.row a19 l21.length c20 9 1 (List.map eS l21)]) (fun ((a19,c20),l21)=>q23=l21) ?_ ?_
 ·refine aJ ?_
  refine aP (Y:=Option Addr×Nat) (S:=(List ByteArray)×Int) _ hq23 (fun (a15,c16) (l14,v17)=>[(6,pO a15 l14.length c16),(25,pL (eL eS) p0),(26,pI (p0.length:Int)),(27,pI v17)]) (fun (a15,c16) (l14,v17)=>[PRes.row a15 l14.length c16 9 1 (List.map eS l14)]) (a10,c11) (kQ rfl) dC ?_
  rintro ⟨a15,c16⟩ ⟨l14,v17⟩ o τ hb22;(try dsimp only at hb22);dsimp only [aF]
  refine af (al [(28,pB (decide (v17<(p0.length:Int))))] (by kernel_rfl) (bP (jX rfl hb22 (fun hc24 hb22=>?_) fun hc24 hb22=>?_)))
  ·refine ai ?_
   refine bP (iM (ae hb22 fun m25 hm25 hb22=>av [] [29,30] [(8,pL eS m25)] (eO 0 (eL eS) hm25 bN) (by kernel_rfl) (jB hb22 fun l26 hl26 hb22=>aa (ar 2 [(31,pO a15 l14.length c16),(32,pL eS m25)] (by kernel_rfl) ?_))))
   refine aj rfl (kW (enc:=eS) rfl rfl rfl rfl rfl (fun _=>rfl) rfl rfl rfl (by exact aB) hl26 (fun a27 c28=>?_))
   refine aQ [(6,pO a27 l26.length c28)] (by kernel_rfl) (gC (ah [34] [(27,pI (IntKind.i64.wrap (v17+1)))] (by kernel_rfl) ?_))
   exact bh hb22 (a27,c28) (kQ rfl) dC
  refine aV ?_
  refine aw (ap hb22 (fun ht=>au rfl ?_))
  exact aH ((a15,c16),l14) (xF rfl) dC ht.symm
 rintro ⟨⟨a19,c20⟩,l21⟩ τ hz;(try dsimp only at hz);subst q23;(try dsimp only at h);dsimp only [aF]
 refine af (ah [35] [(2,pO a19 l21.length c20)] (by kernel_rfl) (eD ?_))
 obtain rfl:=osi h
 exact aK (cN (aL rfl)) dC ⟨_,_,rfl,rfl⟩
def dG (p0:(List ByteArray)):Option (List ByteArray):=cond (decide (((p0.length:Nat):Int)<2)) (some p0) ((aN (S:=Int) (T:=(Unit)⊕(_)) (fun v2=>cond (decide (v2<((p0.length:Nat):Int))) ((idx p0 v2).bind fun m7=>(idx p0 (IntKind.i64.wrap (v2 - 1))).bind fun m8=>cond (decide (m7=m8)) ((sub p0 v2 (p0.length:Int)).bind fun l10=>(aN (S:=(List ByteArray)×Int×Int) (T:=((List ByteArray)×Int)) (fun (l12,v13,v14)=>cond (decide (v14<((p0.length - v2.toNat:Nat):Int))) (((kZ v14).bind fun u25=>(idx l12 (v2+v14)).bind fun m26=>(kZ (IntKind.i64.wrap (v14 - 1))).bind fun u27=>(idx l12 (v2+(IntKind.i64.wrap (v14 - 1)))).bind fun m28=>cond (!decide (m26=m28)) ((kZ v14).bind fun u30=>(idx l12 (v2+v14)).bind fun m31=>(idx l12 v13).bind fun m32=>some ((l12.set v13.toNat m31),(IntKind.i64.wrap (v13+1)))) (some (l12,v13))).bind fun (l22,v23)=>some (.inl (l22,v23,(IntKind.i64.wrap (v14+1))))) (some (.inr (l12,v13)))) FUEL (p0,v2,1)).bind fun (l16,v17)=>(sub l16 v17 (l16.length:Int)).bind fun l34=>(sub (List.take v17.toNat l16++List.replicate (p0.length - v17.toNat) ByteArray.empty) 0 v17).bind fun l35=>some (.inr (.inr l35))) (some (.inl (IntKind.i64.wrap (v2+1))))) (some (.inr (.inl ())))) FUEL 1).bind fun q=>match q with | .inl _=>some p0 | .inr e=>some e)
theorem kr {p0:(List ByteArray)} {a_0:Option Addr}  {n_0:Nat}  {c_0:Nat} {r:(List ByteArray)}  (h:dG p0=some r):PCall 140 [.v (.slice a_0 n_0 c_0)] [PRes.row a_0 n_0 c_0 9 1 (List.map eS p0)] (fun pv ρ'=>∃ a c,pv=.v (.slice a r.length c)∧ρ'=[PRes.row a r.length c 9 1 (List.map eS r)]):=by
 unfold dG at h
 refine jl Tryz.func140 rfl Tryz.ntmps140 Tryz.results140 rfl ?_
 refine ld (enc:=eS) (xs:=p0) (a:=a_0) gx (fun hl ha=>?_);subst hl;clear ha
 refine af (bd [2] (by kernel_rfl) (dn (ah [6,7] [(8,pB (decide (((p0.length:Nat):Int)<2)))] (by kernel_rfl) (cG rfl h (fun hc1 h=>?_) fun hc1 h=>?_))))
 ·refine af ?_
  refine ah [9] [(2,pO a_0 p0.length c_0)] (by kernel_rfl) (eD (am ?_))
  obtain rfl:=osi h
  exact aK (cN (aL rfl)) dC ⟨_,_,rfl,rfl⟩
 refine ai ?_
 refine dn (al [(3,pI 1)] (by kernel_rfl) (jB h fun q5 hq5 h=>?_))
 refine az (Y:=Unit×Unit) (fun (_,_)=>[(0,pO a_0 p0.length c_0)]) (fun (_,_)=>[PRes.row a_0 p0.length c_0 9 1 (List.map eS p0)]) (fun (_,_)=>q5=Sum.inl ()) ?_ ?_
 ·refine aJ ?_
  refine aP (Y:=Unit) (S:=Int) _ hq5 (fun _ v2=>[(0,pO a_0 p0.length c_0),(3,pI v2)]) (fun _ v2=>[PRes.row a_0 p0.length c_0 9 1 (List.map eS p0)]) () (sX rfl) dC ?_
  rintro _ v2 o τ hb4;(try dsimp only at hb4);dsimp only [aF]
  refine af (af (ah [10,11,12] [(13,pB (decide (v2<((p0.length:Nat):Int))))] (by kernel_rfl) (cG rfl hb4 (fun hc6 hb4=>?_) fun hc6 hb4=>?_)))
  ·refine ai ?_
   refine bP (iM (cC (ρd:=[]) [(0,0),(1,0),(2,0),(3,0),(4,0),(5,0),(6,0),(7,0),(8,0),(9,0)] _ (List.Perm.refl _) (by kernel_rfl) rfl (ae hb4 fun m7 hm7 hb4=>iA 2 [(16,pO a_0 p0.length c_0),(17,pI v2)] (by kernel_rfl) (kX rfl rfl rfl (el (enc:=eS) (xs:=p0) rfl rfl rfl (.p rfl) gx (.p rfl) (fun _=>hm7)) (kX rfl rfl rfl (cX (sz:=1) (p:=pS m7) (enc:=eS) (xs:=p0) (a:=a_0) v2 0 m7 rfl (.p rfl) rfl gx (fun _=>hm7) rfl) (ae hb4 fun m8 hm8 hb4=>mD 3 [21] [(20,pO a_0 p0.length c_0),(22,pI (IntKind.i64.wrap (v2 - 1)))] (by kernel_rfl) (kX rfl rfl rfl (el (enc:=eS) (xs:=p0) rfl rfl rfl (.p rfl) gx (.p rfl) (fun _=>hm8)) (kX rfl rfl rfl (cX (sz:=1) (p:=pS m8) (enc:=eS) (xs:=p0) (a:=a_0) (IntKind.i64.wrap (v2 - 1)) 0 m8 rfl (.p rfl) rfl gx (fun _=>hm8) rfl) (iA 1 [(25,pB (decide (m7=m8)))] (by kernel_rfl) (da (cG rfl hb4 (fun hc9 hb4=>?_) fun hc9 hb4=>?_)))))))))))
   ·refine af ?_
    refine ae hb4 fun l10 hl10 hb4=>aa (ar 2 [(26,pO a_0 p0.length c_0),(27,pI v2)] (by kernel_rfl) (bz rfl rfl rfl (mB (enc:=eS) (xs:=p0) rfl rfl rfl rfl rfl gx hl10) (aQ [(4,pQ a_0 p0.length c_0 v2.toNat 1)] (by kernel_rfl) (dn (al [(5,pI 1)] (by kernel_rfl) (jB hb4 fun q19 hq19 hb4=>?_))))))
    refine az (Y:=Unit×((List ByteArray)×Int)) (fun (_,(l16,v17))=>[(0,pO a_0 p0.length c_0),(3,pI v17)]) (fun (_,(l16,v17))=>[PRes.row a_0 p0.length c_0 9 1 (List.map eS l16)]) (fun (_,(l16,v17))=>q19=(l16,v17)) ?_ ?_
    ·refine aJ ?_
     refine aP (Y:=Unit) (S:=(List ByteArray)×Int×Int) _ hq19 (fun _ (l12,v13,v14)=>[(0,pO a_0 p0.length c_0),(3,pI v13),(4,pQ a_0 p0.length c_0 v2.toNat 1),(5,pI v14)]) (fun _ (l12,v13,v14)=>[PRes.row a_0 p0.length c_0 9 1 (List.map eS l12)]) () (kQ rfl) dC ?_
     rintro _ ⟨l12,v13,v14⟩ o τ hb18;(try dsimp only at hb18);dsimp only [aF]
     refine af (af (ah [29,30,31] [(32,pB (decide (v14<((p0.length - v2.toNat:Nat):Int))))] (by kernel_rfl) (cG rfl hb18 (fun hc20 hb18=>?_) fun hc20 hb18=>?_)))
     ·refine ai ?_
      refine dD hb18 fun q24 hq24 hb18=>?_
      refine az (Y:=Unit×((List ByteArray)×Int)) (fun (_,(l22,v23))=>[(0,pO a_0 p0.length c_0),(3,pI v23),(4,pQ a_0 p0.length c_0 v2.toNat 1),(5,pI v14)]) (fun (_,(l22,v23))=>[PRes.row a_0 p0.length c_0 9 1 (List.map eS l22)]) (fun (_,(l22,v23))=>q24=(l22,v23)) ?_ ?_
      ·skip
       refine iM (cC (ρd:=[]) [(0,0),(1,0),(2,0),(3,0),(4,0),(5,0),(6,0),(7,0),(8,0),(9,0)] _ (List.Perm.refl _) (by kernel_rfl) rfl (ae hq24 fun u25 hu25 hq24=>ae hq24 fun m26 hm26 hq24=>iA 2 [(35,pQ a_0 p0.length c_0 v2.toNat 1),(36,pI v14)] (by kernel_rfl) (kX rfl rfl rfl (ju (enc:=eS) (xs:=l12) (i:=v2) rfl rfl rfl rfl rfl (gJ hl10).1.1 (lc hu25) gx hm26) (kX rfl rfl rfl (cX (sz:=1) (p:=pS m26) (enc:=eS) (xs:=l12) (a:=a_0) (v2+v14) 0 m26 rfl (.p rfl) rfl gx (fun _=>hm26) rfl) (ae hq24 fun u27 hu27 hq24=>ae hq24 fun m28 hm28 hq24=>mD 3 [40] [(39,pQ a_0 p0.length c_0 v2.toNat 1),(41,pI (IntKind.i64.wrap (v14 - 1)))] (by kernel_rfl) (kX rfl rfl rfl (ju (enc:=eS) (xs:=l12) (i:=v2) rfl rfl rfl rfl rfl (gJ hl10).1.1 (lc hu27) gx hm28) (kX rfl rfl rfl (cX (sz:=1) (p:=pS m28) (enc:=eS) (xs:=l12) (a:=a_0) (v2+(IntKind.i64.wrap (v14 - 1))) 0 m28 rfl (.p rfl) rfl gx (fun _=>hm28) rfl) (iA 1 [(44,pB (!decide (m26=m28)))] (by kernel_rfl) (da (cG rfl hq24 (fun hc29 hq24=>?_) fun hc29 hq24=>?_))))))))))
       ·refine af ?_
        refine ae hq24 fun u30 hu30 hq24=>ae hq24 fun m31 hm31 hq24=>aa (ar 4 [(45,pO a_0 p0.length c_0),(46,pI v13),(47,pQ a_0 p0.length c_0 v2.toNat 1),(48,pI v14)] (by kernel_rfl) (bz rfl rfl rfl (ju (enc:=eS) (xs:=l12) (i:=v2) rfl rfl rfl rfl rfl (gJ hl10).1.1 (lc hu30) gx hm31) (bz rfl rfl rfl (cX (sz:=1) (p:=pS m31) (enc:=eS) (xs:=l12) (a:=a_0) (v2+v14) 0 m31 rfl (.p rfl) rfl gx (fun _=>hm31) rfl) (ae hq24 fun m32 hm32 hq24=>bz rfl rfl rfl (el (enc:=eS) (xs:=l12) rfl rfl rfl (.p rfl) gx (.p rfl) (fun _=>hm32)) (aW rfl rfl (qV (enc:=eS) (xs:=l12) (a:=a_0) v13 0 m32 m31 rfl rfl rfl rfl (fun _=>rfl) rfl rfl hm32 og cR (aq (aM (ah [52,53] [(3,pI (IntKind.i64.wrap (v13+1)))] (by kernel_rfl) (aG ?_))))))))))
        obtain rfl:=osi hq24
        exact aH ((),((l12.set v13.toNat m31),(IntKind.i64.wrap (v13+1)))) (kQ rfl) dC rfl
       refine ai ?_
       refine aG ?_
       obtain rfl:=osi hq24
       exact aH ((),(l12,v13)) (kQ rfl) dC rfl
      rintro ⟨_,⟨l22,v23⟩⟩ τ hz;(try dsimp only at hz);subst q24;(try dsimp only at hb18);dsimp only [aF]
      refine ah [33,34] [(5,pI (IntKind.i64.wrap (v14+1)))] (by kernel_rfl) ?_
      exact bh hb18 () (kQ rfl) dC
     refine aV ?_
     refine aw (ap hb18 (fun ht=>au rfl ?_))
     exact aH ((),(l12,v13)) (sX rfl) dC ht.symm
    rintro ⟨_,⟨l16,v17⟩⟩ τ hz;(try dsimp only at hz);subst q19;(try dsimp only at hb4);dsimp only [aF]
    refine af (ae hb4 fun l34 hl34 hb4=>aa (ar 2 [(54,pO a_0 p0.length c_0),(55,pI v17)] (by kernel_rfl) (bz rfl rfl rfl (mB (enc:=eS) (xs:=l16) rfl rfl rfl rfl rfl gx hl34) (aW rfl rfl (wF (enc:=eS) (xs:=l16) (z0:=ByteArray.empty) (i:=v17) rfl rfl rfl rfl hl34 rfl rfl rfl rfl cR (aq (dD hb4 fun l35 hl35 hb4=>aa (ar 2 [(57,pO a_0 p0.length c_0),(58,pI v17)] (by kernel_rfl) ?_))))))))
    refine aj rfl (sr (enc:=eS) (xs:=(List.take v17.toNat l16++List.replicate (p0.length - v17.toNat) ByteArray.empty)) rfl rfl rfl rfl rfl (by exact aB) hl35 ?_)
    refine aQ [(2,pO a_0 l35.length c_0)] (by kernel_rfl) (eD (ja ?_))
    refine aX hb4 (fun ht=>?_);subst ht
    refine aC (aY ?_)
    obtain rfl:=osi h
    exact aK (cN (aL rfl)) dC ⟨_,_,rfl,rfl⟩
   refine ai ?_
   refine gC (ah [14,15] [(3,pI (IntKind.i64.wrap (v2+1)))] (by kernel_rfl) ?_)
   exact bh hb4 () (sX rfl) dC
  refine aV ?_
  refine aw (ap hb4 (fun ht=>au rfl ?_))
  exact aH ((),()) (xF rfl) dC ht.symm
 rintro ⟨_,_⟩ τ hz;(try dsimp only at hz);subst q5;(try dsimp only at h);dsimp only [aF]
 refine af (ah [60] [(2,pO a_0 p0.length c_0)] (by kernel_rfl) (eD ?_))
 obtain rfl:=osi h
 exact aK (cN (aL rfl)) dC ⟨_,_,rfl,rfl⟩
def cQ (p0:Zt) (p1:Zc) (p2:Int):Option Zd:=(aN (S:=Int) (T:=(Unit)⊕(_)) (fun v3=>cond (decide (v3<(p0.partners.length:Int))) ((idx p0.partners v3).bind fun m7=>cond ((eC p0.set_ (⟨p1.ID,m7⟩:Za)).getD false) (some (.inr (.inr (Zd.proved_ (⟨(⟨p1.Code,p2,true⟩:Zm),(⟨p1.ID,m7⟩:Za)⟩:Zq))))) (some (.inl (IntKind.i64.wrap (v3+1))))) (some (.inr (.inl ())))) FUEL 0).bind fun q=>match q with | .inl _=>some (Zd.plain_ (⟨(⟨p1.Code,p2,false⟩:Zm)⟩:Zu)) | .inr e=>some e
theorem iq {p0:Zt} {p1:Zc} {p2:Int} {m0_set_:Nat} {r:Zd}  (h:cQ p0 p1 p2=some r):PCall 98 [.agg [pL eI p0.partners,.v (.map (some m0_set_))],.agg (aZ p1),pI p2] [PRes.mp (some m0_set_) (e7 Za.key vT p0.set_)] (fun pv ρ'=>pv=Zd.pv r∧ρ'=[PRes.mp (some m0_set_) (e7 Za.key vT p0.set_)]):=by
 unfold cQ at h
 refine fh Tryz.func98 rfl Tryz.ntmps98 Tryz.results98 rfl (aa (aj rfl (bu (cs:=[pL eI p0.partners,.v (.map (some m0_set_))]) rfl rfl (fun b1=>aj rfl (bu (cs:=(aZ p1)) rfl rfl (fun b2=>bo [6] (by kernel_rfl) (dn (bj [1] [10] [(11,pL eI p0.partners),(12,pI (p0.partners.length:Int)),(13,pI 0)] (by kernel_rfl) (jB h fun q5 hq5 h=>?_)))))))))
 refine az (Y:=Unit×Unit) (fun (_,_)=>[(2,pI p2),(4,pP b2 0)]) (fun (_,_)=>[PRes.b b2 76 (aZ p1),PRes.mp (some m0_set_) (e7 Za.key vT p0.set_)]) (fun (_,_)=>q5=Sum.inl ()) ?_ ?_
 ·refine aJ ?_
  refine aP (Y:=Unit) (S:=Int) _ hq5 (fun _ v3=>[(2,pI p2),(3,pP b1 0),(4,pP b2 0),(11,pL eI p0.partners),(12,pI (p0.partners.length:Int)),(13,pI v3)]) (fun _ v3=>[PRes.b b1 96 [pL eI p0.partners,.v (.map (some m0_set_))],PRes.b b2 76 (aZ p1),PRes.mp (some m0_set_) (e7 Za.key vT p0.set_)]) () (uH rfl) (be (ak aB) sY) ?_
  rintro _ v3 o τ hb4;(try dsimp only at hb4);dsimp only [aF]
  refine af (al [(14,pB (decide (v3<(p0.partners.length:Int))))] (by kernel_rfl) (bP (jX rfl hb4 (fun hc6 hb4=>?_) fun hc6 hb4=>?_)))
  ·refine ai ?_
   refine bP (iM (ae hb4 fun m7 hm7 hb4=>av [] [15,16] [(8,pI m7)] (eO 0 eI hm7 bN) (by kernel_rfl) (bP (aa (co 4 [1] [17,18,19] [(20,.agg [pI p1.ID,pI m7])] (by kernel_rfl) (aj rfl (aU (cs:=[pI 0,pI 0]) rfl rfl rfl rfl (fun b8=>aW rfl rfl (an (vs:=[pI p1.ID,pI m7]) rfl rfl rfl rfl rfl cR AU (aq (bP (aa (co 3 [1,0] [21] [(22,.v (.map (some m0_set_))),(23,.agg [pI p1.ID,pI m7])] (by kernel_rfl) (bz rfl rfl rfl (show POpQ _ _ _ _ (pB ((eC p0.set_ (⟨p1.ID,m7⟩:Za)).getD false)) from wE (xs:=p0.set_) (k:=(⟨p1.ID,m7⟩:Za)) (ek:=Za.key) (vv:=vT) (z0:=false) rfl rfl rfl (fun _=>.v rfl) Za.kenc28 (.p rfl) (.p rfl) pC (rJ DQ)) (aq (cG rfl hb4 (fun hc9 hb4=>?_) fun hc9 hb4=>?_))))))))))))))))
   ·refine af ?_
    refine bj [2,0] (rg 25 7) [(6,Zd.pv (Zd.proved_ (⟨(⟨p1.Code,p2,true⟩:Zm),(⟨p1.ID,m7⟩:Za)⟩:Zq)))] (by kernel_rfl) (eD (ja ?_))
    refine aX hb4 (fun ht=>?_);subst ht
    refine aC (aY ?_)
    obtain rfl:=osi h
    exact aK (cN (aL rfl)) (be (ak (ak (ak aB))) cd) ⟨rfl,rfl⟩
   refine ai ?_
   refine gC (ah [32] [(13,pI (IntKind.i64.wrap (v3+1)))] (by kernel_rfl) ?_)
   exact bh hb4 () (uH rfl) (be (ak aB) (be (ak aB) (be (ak aB) cd)))
  refine aV ?_
  refine aw (ap hb4 (fun ht=>au rfl ?_))
  exact aH ((),()) (sX rfl) (be (ak aB) (be (ak aB) cd)) ht.symm
 rintro ⟨_,_⟩ τ hz;(try dsimp only at hz);subst q5;(try dsimp only at h);dsimp only [aF]
 refine af (bj [0] (rg 33 6) [(6,Zd.pv (Zd.plain_ (⟨(⟨p1.Code,p2,false⟩:Zm)⟩:Zu)))] (by kernel_rfl) (eD ?_))
 obtain rfl:=osi h
 exact aK (cN (aL rfl)) (be (ak aB) cd) ⟨rfl,rfl⟩
def fZ (p0:Int):Option Int:=Option.bind (cond (decide (4294967296≤p0)) (some ((cH .u64 p0 32),32)) (some (p0,0))) (fun (v1,v2)=>Option.bind (cond (decide (65536≤v1)) (some ((cH .u64 v1 16),(IntKind.i64.wrap (v2+16)))) (some (v1,v2))) (fun (v5,v6)=>Option.bind (cond (decide (256≤v5)) (some ((cH .u64 v5 8),(IntKind.i64.wrap (v6+8)))) (some (v5,v6))) (fun (v9,v10)=>(idx (⟨#[0,1,2,2,3,3,3,3,4,4,4,4,4,4,4,4,5,5,5,5,5,5,5,5,5,5,5,5,5,5,5,5,6,6,6,6,6,6,6,6,6,6,6,6,6,6,6,6,6,6,6,6,6,6,6,6,6,6,6,6,6,6,6,6,7,7,7,7,7,7,7,7,7,7,7,7,7,7,7,7,7,7,7,7,7,7,7,7,7,7,7,7,7,7,7,7,7,7,7,7,7,7,7,7,7,7,7,7,7,7,7,7,7,7,7,7,7,7,7,7,7,7,7,7,7,7,7,7,8,8,8,8,8,8,8,8,8,8,8,8,8,8,8,8,8,8,8,8,8,8,8,8,8,8,8,8,8,8,8,8,8,8,8,8,8,8,8,8,8,8,8,8,8,8,8,8,8,8,8,8,8,8,8,8,8,8,8,8,8,8,8,8,8,8,8,8,8,8,8,8,8,8,8,8,8,8,8,8,8,8,8,8,8,8,8,8,8,8,8,8,8,8,8,8,8,8,8,8,8,8,8,8,8,8,8,8,8,8,8,8,8,8,8,8,8,8,8,8,8,8,8,8,8,8,8,8]⟩:ByteArray).data.toList (IntKind.u8.wrap v9)).bind fun c13=>lb ((IntKind.i64.wrap (v10+(IntKind.i64.wrap (c13.toNat:Int))))) (fun w14=>some w14))))
theorem q9 {p0:Int} {r:Int}  (h:fZ p0=some r):PF 151 [pU p0] (pI r):=by
 unfold fZ at h
 refine bv ?_
 refine fh Tryz.func151 rfl Tryz.ntmps151 Tryz.results151 rfl (al [(2,pI 0)] (by kernel_rfl) (dn (ah [3] [(4,pB (decide (4294967296≤p0)))] (by kernel_rfl) (jB h fun q3 hq3 h=>?_))))
 refine az (Y:=Unit×(Int×Int)) (fun (_,(v1,v2))=>[(0,pU v1),(2,pI v2)]) (fun (_,(v1,v2))=>[]) (fun (_,(v1,v2))=>q3=(v1,v2)) ?_ ?_
 ·skip
  refine jX rfl hq3 (fun hc4 hq3=>?_) fun hc4 hq3=>?_
  ·refine af ?_
   refine ah [5,6] [(0,pU (cH .u64 p0 32))] (by kernel_rfl) (aM (al [(2,pI 32)] (by kernel_rfl) ?_))
   obtain rfl:=osi hq3
   exact aH ((),((cH .u64 p0 32),32)) (sX rfl) cd rfl
  refine ai ?_
  obtain rfl:=osi hq3
  exact aH ((),(p0,0)) (sX rfl) cd rfl
 rintro ⟨_,⟨v1,v2⟩⟩ τ hz;(try dsimp only at hz);subst q3;(try dsimp only at h);dsimp only [aF]
 refine af (af (ah [7] [(8,pB (decide (65536≤v1)))] (by kernel_rfl) (jB h fun q7 hq7 h=>?_)))
 refine az (Y:=Unit×(Int×Int)) (fun (_,(v5,v6))=>[(0,pU v5),(2,pI v6)]) (fun (_,(v5,v6))=>[]) (fun (_,(v5,v6))=>q7=(v5,v6)) ?_ ?_
 ·skip
  refine jX rfl hq7 (fun hc8 hq7=>?_) fun hc8 hq7=>?_
  ·refine af ?_
   refine ah [9,10] [(0,pU (cH .u64 v1 16))] (by kernel_rfl) (aM (ah [11,12] [(2,pI (IntKind.i64.wrap (v2+16)))] (by kernel_rfl) ?_))
   obtain rfl:=osi hq7
   exact aH ((),((cH .u64 v1 16),(IntKind.i64.wrap (v2+16)))) (sX rfl) cd rfl
  refine ai ?_
  obtain rfl:=osi hq7
  exact aH ((),(v1,v2)) (sX rfl) cd rfl
 rintro ⟨_,⟨v5,v6⟩⟩ τ hz;(try dsimp only at hz);subst q7;(try dsimp only at h);dsimp only [aF]
 refine af (af (ah [13] [(14,pB (decide (256≤v5)))] (by kernel_rfl) (jB h fun q11 hq11 h=>?_)))
 refine az (Y:=Unit×(Int×Int)) (fun (_,(v9,v10))=>[(0,pU v9),(2,pI v10)]) (fun (_,(v9,v10))=>[]) (fun (_,(v9,v10))=>q11=(v9,v10)) ?_ ?_
 ·skip
  refine jX rfl hq11 (fun hc12 hq11=>?_) fun hc12 hq11=>?_
  ·refine af ?_
   refine ah [15,16] [(0,pU (cH .u64 v5 8))] (by kernel_rfl) (aM (ah [17,18] [(2,pI (IntKind.i64.wrap (v6+8)))] (by kernel_rfl) ?_))
   obtain rfl:=osi hq11
   exact aH ((),((cH .u64 v5 8),(IntKind.i64.wrap (v6+8)))) (sX rfl) cd rfl
  refine ai ?_
  obtain rfl:=osi hq11
  exact aH ((),(v5,v6)) (sX rfl) cd rfl
 rintro ⟨_,⟨v9,v10⟩⟩ τ hz;(try dsimp only at hz);subst q11;(try dsimp only at h);dsimp only [aF]
 refine af (ae h fun c13 hc13 h=>?_)
 refine gb h ?_;clear h;intro w14 hw14 h
 refine aa (bg 6 [] (rg 19 5) [(24,pI (IntKind.i64.wrap (v10+(IntKind.i64.wrap (c13.toNat:Int)))))] (fosx 3 (s:=(⟨#[0,1,2,2,3,3,3,3,4,4,4,4,4,4,4,4,5,5,5,5,5,5,5,5,5,5,5,5,5,5,5,5,6,6,6,6,6,6,6,6,6,6,6,6,6,6,6,6,6,6,6,6,6,6,6,6,6,6,6,6,6,6,6,6,7,7,7,7,7,7,7,7,7,7,7,7,7,7,7,7,7,7,7,7,7,7,7,7,7,7,7,7,7,7,7,7,7,7,7,7,7,7,7,7,7,7,7,7,7,7,7,7,7,7,7,7,7,7,7,7,7,7,7,7,7,7,7,7,8,8,8,8,8,8,8,8,8,8,8,8,8,8,8,8,8,8,8,8,8,8,8,8,8,8,8,8,8,8,8,8,8,8,8,8,8,8,8,8,8,8,8,8,8,8,8,8,8,8,8,8,8,8,8,8,8,8,8,8,8,8,8,8,8,8,8,8,8,8,8,8,8,8,8,8,8,8,8,8,8,8,8,8,8,8,8,8,8,8,8,8,8,8,8,8,8,8,8,8,8,8,8,8,8,8,8,8,8,8,8,8,8,8,8,8,8,8,8,8,8,8,8,8,8,8,8,8]⟩:ByteArray)) hc13 bN) (by kernel_rfl) (bz rfl rfl rfl (bU rfl (.p (congrArg (fun z=>PV.v (Value.int .i64 z)) hw14))) (aq (eD ?_))))
 exact zz r h rfl
def dy (p0:Int):Option Int:=(fZ p0).bind fun x1=>some (IntKind.i64.wrap (64 - x1))
theorem lT {p0:Int} {r:Int}  (h:dy p0=some r):PF 213 [pU p0] (pI r):=by
 unfold dy at h
 refine bv ?_
 refine fh Tryz.func213 rfl Tryz.ntmps213 Tryz.results213 rfl (bd [2] (by kernel_rfl) (dD h fun x1 hx1 h=>av [] [3,4,5] [(2,pI (IntKind.i64.wrap (64 - x1)))] (bR 1 (q9 hx1) bN) (by kernel_rfl) (eD ?_)))
 exact zz r h rfl
def ic (p0:Int) (p1:Int) (p2:Int):Option (Int×Int):=cond (p2 == 0) (none) (cond (decide (p2≤p0)) (none) (cond (p0 == 0) ((nz p2).bind fun u4=>(nz p2).bind fun u5=>some ((IntKind.u64.wrap (Int.tdiv p1 p2)),(Int.tmod p1 p2))) ((dy p2).bind fun x6=>(kZ (IntKind.u64.wrap x6)).bind fun u7=>lb ((cH .u64 (fS .u64 p2 (IntKind.u64.wrap x6)) 32)) (fun w8=>lb ((dU .u64 (fS .u64 p2 (IntKind.u64.wrap x6)) 4294967295)) (fun w9=>(kZ (IntKind.u64.wrap x6)).bind fun u10=>(kZ (IntKind.u64.wrap (64 - (IntKind.u64.wrap x6)))).bind fun u11=>lb ((qI .u64 (fS .u64 p0 (IntKind.u64.wrap x6)) (cH .u64 p1 (IntKind.u64.wrap (64 - (IntKind.u64.wrap x6)))))) (fun w12=>(kZ (IntKind.u64.wrap x6)).bind fun u13=>lb ((cH .u64 (fS .u64 p1 (IntKind.u64.wrap x6)) 32)) (fun w14=>lb ((dU .u64 (fS .u64 p1 (IntKind.u64.wrap x6)) 4294967295)) (fun w15=>(nz w8).bind fun u16=>lb ((IntKind.u64.wrap (w12 - (IntKind.u64.wrap ((IntKind.u64.wrap (Int.tdiv w12 w8))*w8))))) (fun w17=>(aN (S:=Int×Int) (T:=(Int)) (fun (v18,v19)=>cond ((decide (4294967296≤v18))||(decide ((IntKind.u64.wrap ((IntKind.u64.wrap (4294967296*v19))+w14))<(IntKind.u64.wrap (v18*w9))))) (cond (decide (4294967296≤(IntKind.u64.wrap (v19+w8)))) (some (.inr (IntKind.u64.wrap (v18 - 1)))) (some (.inl ((IntKind.u64.wrap (v18 - 1)),(IntKind.u64.wrap (v19+w8)))))) (some (.inr v18))) FUEL ((IntKind.u64.wrap (Int.tdiv w12 w8)),w17)).bind fun v20=>lb ((IntKind.u64.wrap ((IntKind.u64.wrap ((IntKind.u64.wrap (w12*4294967296))+w14)) - (IntKind.u64.wrap (v20*(fS .u64 p2 (IntKind.u64.wrap x6))))))) (fun w25=>(nz w8).bind fun u26=>lb ((IntKind.u64.wrap (w25 - (IntKind.u64.wrap ((IntKind.u64.wrap (Int.tdiv w25 w8))*w8))))) (fun w27=>(aN (S:=Int×Int) (T:=(Int)) (fun (v28,v29)=>cond ((decide (4294967296≤v29))||(decide ((IntKind.u64.wrap ((IntKind.u64.wrap (4294967296*v28))+w15))<(IntKind.u64.wrap (v29*w9))))) (cond (decide (4294967296≤(IntKind.u64.wrap (v28+w8)))) (some (.inr (IntKind.u64.wrap (v29 - 1)))) (some (.inl ((IntKind.u64.wrap (v28+w8)),(IntKind.u64.wrap (v29 - 1)))))) (some (.inr v29))) FUEL (w27,(IntKind.u64.wrap (Int.tdiv w25 w8)))).bind fun v30=>(kZ (IntKind.u64.wrap x6)).bind fun u35=>lb ((IntKind.u64.wrap ((IntKind.u64.wrap (v20*4294967296))+v30))) (fun w36=>lb ((cH .u64 (IntKind.u64.wrap ((IntKind.u64.wrap ((IntKind.u64.wrap (w25*4294967296))+w15)) - (IntKind.u64.wrap (v30*(fS .u64 p2 (IntKind.u64.wrap x6)))))) (IntKind.u64.wrap x6))) (fun w37=>some (w36,w37))))))))))))))
theorem ra {p0:Int} {p1:Int} {p2:Int} {r:(Int×Int)}  (h:ic p0 p1 p2=some r):PF 200 [pU p0,pU p1,pU p2] (.tup [pU r.1,pU r.2]):=by
 unfold ic at h
 refine bv ?_
 refine fh Tryz.func200 rfl Tryz.ntmps200 Tryz.results200 rfl (bd [6,7] (by kernel_rfl) (dn (ah [19] [(20,pB (p2 == 0))] (by kernel_rfl) (cG rfl h (fun hc1 h=>?_) fun hc1 h=>?_))))
 ·refine aa ?_
  exact absurd h (by simp)
 refine ai ?_
 refine dn (ah [22,23] [(24,pB (decide (p2≤p0)))] (by kernel_rfl) (cG rfl h (fun hc2 h=>?_) fun hc2 h=>?_))
 ·refine aa ?_
  exact absurd h (by simp)
 refine ai ?_
 refine dn (ah [26] [(27,pB (p0 == 0))] (by kernel_rfl) (cG rfl h (fun hc3 h=>?_) fun hc3 h=>?_))
 ·refine af ?_
  refine cC (ρd:=[]) [(0,0),(1,0),(2,0),(3,0),(4,0),(5,0),(6,0),(7,0)] _ (List.Perm.refl _) (by kernel_rfl) rfl (ae h fun u4 hu4 h=>ae h fun u5 hu5 h=>cP 8 [] (rg 28 6) [(6,pU (IntKind.u64.wrap (Int.tdiv p1 p2))),(7,pU (Int.tmod p1 p2))] (C3 2 hu4 (C3 5 hu5 bN)) (by kernel_rfl) (da (eD (am ?_))))
  obtain rfl:=osi h
  exact aK (di (aL rfl) (aL rfl)) cd ⟨rfl,rfl⟩
 refine ai ?_
 refine dD h fun x6 hx6 h=>av [] [34,35,36] [(8,pU (IntKind.u64.wrap x6))] (bR 1 (lT hx6) bN) (by kernel_rfl) (dD h fun u7 hu7 h=>av [] [37,38,39] [(2,pU (fS .u64 p2 (IntKind.u64.wrap x6)))] (xJ 2 hu7 bN) (by kernel_rfl) (bP ?_))
 refine gb h ?_;clear h;intro w8 hw8 h
 refine aa (cu 2 [40] [(41,pU (cH .u64 (fS .u64 p2 (IntKind.u64.wrap x6)) 32))] (by kernel_rfl) (bz rfl rfl rfl (bU rfl (.p (congrArg (fun z=>PV.v (Value.int .u64 z)) hw8))) (aq (bP ?_))))
 refine gb h ?_;clear h;intro w9 hw9 h
 refine aa (cu 2 [42] [(43,pU (dU .u64 (fS .u64 p2 (IntKind.u64.wrap x6)) 4294967295))] (by kernel_rfl) (bz rfl rfl rfl (bU rfl (.p (congrArg (fun z=>PV.v (Value.int .u64 z)) hw9))) (aq (dD h fun u10 hu10 h=>ae h fun u11 hu11 h=>?_))))
 refine gb h ?_;clear h;intro w12 hw12 h
 refine aa (bg 8 [] (rg 44 7) [(51,pU (qI .u64 (fS .u64 p0 (IntKind.u64.wrap x6)) (cH .u64 p1 (IntKind.u64.wrap (64 - (IntKind.u64.wrap x6))))))] (xJ 2 hu10 (xJ 6 hu11 bN)) (by kernel_rfl) (bz rfl rfl rfl (bU rfl (.p (congrArg (fun z=>PV.v (Value.int .u64 z)) hw12))) (aq (dD h fun u13 hu13 h=>av [] [52,53,54] [(12,pU (fS .u64 p1 (IntKind.u64.wrap x6)))] (xJ 2 hu13 bN) (by kernel_rfl) (bP ?_)))))
 refine gb h ?_;clear h;intro w14 hw14 h
 refine aa (cu 2 [55] [(56,pU (cH .u64 (fS .u64 p1 (IntKind.u64.wrap x6)) 32))] (by kernel_rfl) (bz rfl rfl rfl (bU rfl (.p (congrArg (fun z=>PV.v (Value.int .u64 z)) hw14))) (aq (bP ?_))))
 refine gb h ?_;clear h;intro w15 hw15 h
 refine aa (cu 2 [57] [(58,pU (dU .u64 (fS .u64 p1 (IntKind.u64.wrap x6)) 4294967295))] (by kernel_rfl) (bz rfl rfl rfl (bU rfl (.p (congrArg (fun z=>PV.v (Value.int .u64 z)) hw15))) (aq (dD h fun u16 hu16 h=>av [] [59,60,61] [(15,pU (IntKind.u64.wrap (Int.tdiv w12 w8)))] (C3 2 hu16 bN) (by kernel_rfl) (bP ?_)))))
 refine gb h ?_;clear h;intro w17 hw17 h
 refine aa (cu 5 [62,63,64,65] [(66,pU (IntKind.u64.wrap (w12 - (IntKind.u64.wrap ((IntKind.u64.wrap (Int.tdiv w12 w8))*w8)))))] (by kernel_rfl) (bz rfl rfl rfl (bU rfl (.p (congrArg (fun z=>PV.v (Value.int .u64 z)) hw17))) (aq (dD h fun q22 hq22 h=>?_))))
 refine az (Y:=Unit×Int) (fun (_,v20)=>[(2,pU (fS .u64 p2 (IntKind.u64.wrap x6))),(8,pU (IntKind.u64.wrap x6)),(9,pU w8),(10,pU w9),(11,pU w12),(13,pU w14),(14,pU w15),(15,pU v20)]) (fun (_,v20)=>[]) (fun (_,v20)=>q22=v20) ?_ ?_
 ·refine aJ ?_
  refine aP (Y:=Unit) (S:=Int×Int) _ hq22 (fun _ (v18,v19)=>[(2,pU (fS .u64 p2 (IntKind.u64.wrap x6))),(8,pU (IntKind.u64.wrap x6)),(9,pU w8),(10,pU w9),(11,pU w12),(13,pU w14),(14,pU w15),(15,pU v18),(16,pU v19)]) (fun _ (v18,v19)=>[]) () (DR rfl) cd ?_
  rintro _ ⟨v18,v19⟩ o τ hb21;(try dsimp only at hb21);dsimp only [aF]
  refine af (af (ah (rg 67 11) [(78,pB ((decide (4294967296≤v18))||(decide ((IntKind.u64.wrap ((IntKind.u64.wrap (4294967296*v19))+w14))<(IntKind.u64.wrap (v18*w9))))))] (by kernel_rfl) (cG rfl hb21 (fun hc23 hb21=>?_) fun hc23 hb21=>?_)))
  ·refine ai ?_
   refine aM (iM (ah [79,80] [(15,pU (IntKind.u64.wrap (v18 - 1)))] (by kernel_rfl) (bP (ah [81,82,83] [(16,pU (IntKind.u64.wrap (v19+w8)))] (by kernel_rfl) (bP (ah [84] [(85,pB (decide (4294967296≤(IntKind.u64.wrap (v19+w8)))))] (by kernel_rfl) (cG rfl hb21 (fun hc24 hb21=>?_) fun hc24 hb21=>?_)))))))
   ·refine aV ?_
    refine pu rfl (ap hb21 (fun ht=>au rfl ?_))
    exact aH ((),(IntKind.u64.wrap (v18 - 1))) (qW rfl) cd ht.symm
   refine ai ?_
   refine aG ?_
   exact bh hb21 () (DR rfl) cd
  refine aV ?_
  refine aw (ap hb21 (fun ht=>au rfl ?_))
  exact aH ((),v18) (qW rfl) cd ht.symm
 rintro ⟨_,v20⟩ τ hz;(try dsimp only at hz);subst q22;(try dsimp only at h);dsimp only [aF]
 refine af ?_
 refine gb h ?_;clear h;intro w25 hw25 h
 refine aa (cu 8 (rg 86 7) [(93,pU (IntKind.u64.wrap ((IntKind.u64.wrap ((IntKind.u64.wrap (w12*4294967296))+w14)) - (IntKind.u64.wrap (v20*(fS .u64 p2 (IntKind.u64.wrap x6)))))))] (by kernel_rfl) (bz rfl rfl rfl (bU rfl (.p (congrArg (fun z=>PV.v (Value.int .u64 z)) hw25))) (aq (dD h fun u26 hu26 h=>av [] [94,95,96] [(18,pU (IntKind.u64.wrap (Int.tdiv w25 w8)))] (C3 2 hu26 bN) (by kernel_rfl) (bP ?_)))))
 refine gb h ?_;clear h;intro w27 hw27 h
 refine aa (cu 5 [97,98,99,100] [(101,pU (IntKind.u64.wrap (w25 - (IntKind.u64.wrap ((IntKind.u64.wrap (Int.tdiv w25 w8))*w8)))))] (by kernel_rfl) (bz rfl rfl rfl (bU rfl (.p (congrArg (fun z=>PV.v (Value.int .u64 z)) hw27))) (aq (dD h fun q32 hq32 h=>?_))))
 refine az (Y:=Unit×Int) (fun (_,v30)=>[(2,pU (fS .u64 p2 (IntKind.u64.wrap x6))),(8,pU (IntKind.u64.wrap x6)),(14,pU w15),(15,pU v20),(17,pU w25),(18,pU v30)]) (fun (_,v30)=>[]) (fun (_,v30)=>q32=v30) ?_ ?_
 ·refine aJ ?_
  refine aP (Y:=Unit) (S:=Int×Int) _ hq32 (fun _ (v28,v29)=>[(2,pU (fS .u64 p2 (IntKind.u64.wrap x6))),(8,pU (IntKind.u64.wrap x6)),(9,pU w8),(10,pU w9),(14,pU w15),(15,pU v20),(16,pU v28),(17,pU w25),(18,pU v29)]) (fun _ (v28,v29)=>[]) () (DR rfl) cd ?_
  rintro _ ⟨v28,v29⟩ o τ hb31;(try dsimp only at hb31);dsimp only [aF]
  refine af (af (ah (rg 102 11) [(113,pB ((decide (4294967296≤v29))||(decide ((IntKind.u64.wrap ((IntKind.u64.wrap (4294967296*v28))+w15))<(IntKind.u64.wrap (v29*w9))))))] (by kernel_rfl) (cG rfl hb31 (fun hc33 hb31=>?_) fun hc33 hb31=>?_)))
  ·refine ai ?_
   refine aM (iM (ah [114,115] [(18,pU (IntKind.u64.wrap (v29 - 1)))] (by kernel_rfl) (bP (ah [116,117,118] [(16,pU (IntKind.u64.wrap (v28+w8)))] (by kernel_rfl) (bP (ah [119] [(120,pB (decide (4294967296≤(IntKind.u64.wrap (v28+w8)))))] (by kernel_rfl) (cG rfl hb31 (fun hc34 hb31=>?_) fun hc34 hb31=>?_)))))))
   ·refine aV ?_
    refine pu rfl (ap hb31 (fun ht=>au rfl ?_))
    exact aH ((),(IntKind.u64.wrap (v29 - 1))) (uH rfl) cd ht.symm
   refine ai ?_
   refine aG ?_
   exact bh hb31 () (DR rfl) cd
  refine aV ?_
  refine aw (ap hb31 (fun ht=>au rfl ?_))
  exact aH ((),v29) (uH rfl) cd ht.symm
 rintro ⟨_,v30⟩ τ hz;(try dsimp only at hz);subst q32;(try dsimp only at h);dsimp only [aF]
 refine af (ae h fun u35 hu35 h=>?_)
 refine gb h ?_;clear h;intro w36 hw36 h
 refine aa (bg 14 [] [121,122,123,125,126,127,128,129,130,131,132,133] [(124,pU (IntKind.u64.wrap ((IntKind.u64.wrap (v20*4294967296))+v30))),(134,pU (cH .u64 (IntKind.u64.wrap ((IntKind.u64.wrap ((IntKind.u64.wrap (w25*4294967296))+w15)) - (IntKind.u64.wrap (v30*(fS .u64 p2 (IntKind.u64.wrap x6)))))) (IntKind.u64.wrap x6)))] (xJ 13 hu35 bN) (by kernel_rfl) (bz rfl rfl rfl (bU rfl (.p (congrArg (fun z=>PV.v (Value.int .u64 z)) hw36))) ?_))
 refine gb h ?_;clear h;intro w37 hw37 h
 refine bz rfl rfl rfl (bU rfl (.p (congrArg (fun z=>PV.v (Value.int .u64 z)) hw37))) (aq (eD ?_))
 obtain rfl:=osi h
 exact aK (di (aL rfl) (aL rfl)) cd ⟨rfl,rfl⟩
def j6 (p0:Int) (p1:Int) (p2:Int) (p3:Int):Option Bool:=cond (p3 == 1) (some (decide (0<p1))) (cond (p3 == 2) (some (decide ((IntKind.u64.wrap (p2 - p1))≤p1))) (cond (p3 == 3) (some ((decide ((IntKind.u64.wrap (p2 - p1))<p1))||((p1 == (IntKind.u64.wrap (p2 - p1)))&&((Int.tmod p0 2) == 1)))) (some false)))
theorem tH {p0:Int} {p1:Int} {p2:Int} {p3:Int} {r:Bool}  (h:j6 p0 p1 p2 p3=some r):PF 201 [pU p0,pU p1,pU p2,pI p3] (pB r):=by
 unfold j6 at h
 refine bv ?_
 refine fh Tryz.func201 rfl Tryz.ntmps201 Tryz.results201 rfl (bd [8] (by kernel_rfl) (bP (ah [10,11,12] [(9,pU (IntKind.u64.wrap (p2 - p1)))] (by kernel_rfl) (dn (al [(13,pI p3)] (by kernel_rfl) (aM (iM (ah [15] [(14,pB (p3 == 1))] (by kernel_rfl) (cG rfl h (fun hc1 h=>?_) fun hc1 h=>?_)))))))))
 ·refine af ?_
  refine ah [16,17] [(8,pB (decide (0<p1)))] (by kernel_rfl) (eD (ja ?_))
  exact zz r h rfl
 refine af ?_
 refine ah [19] [(18,pB (p3 == 2))] (by kernel_rfl) (cG rfl h (fun hc2 h=>?_) fun hc2 h=>?_)
 ·refine af ?_
  refine ah [20,21,22] [(8,pB (decide ((IntKind.u64.wrap (p2 - p1))≤p1)))] (by kernel_rfl) (eD (ja ?_))
  exact zz r h rfl
 refine af ?_
 refine ah [24] [(23,pB (p3 == 3))] (by kernel_rfl) (cG rfl h (fun hc3 h=>?_) fun hc3 h=>?_)
 ·refine af ?_
  refine ah (rg 25 13) [(8,pB ((decide ((IntKind.u64.wrap (p2 - p1))<p1))||((p1 == (IntKind.u64.wrap (p2 - p1)))&&((Int.tmod p0 2) == 1))))] (by kernel_rfl) (eD (ja ?_))
  exact zz r h rfl
 refine ai ?_
 refine aG (bP (fY [(8,pB false)] (by kernel_rfl) ?_))
 exact zz r h rfl
def nU (p0:Zo) (p1:Int) (p2:Int):Option (Int×Int):=cond (((p1 == 0)||(decide (p2<0)))||(decide (3<p2))) (some ((0:Int),(2:Int))) (cond (decide (p1≤p0.Hi)) (some ((0:Int),(3:Int))) ((ic p0.Hi p0.Lo p1).bind fun x4=>(j6 x4.1 x4.2 p1 p2).bind fun x5=>cond (!x5) (some (x4.1,(0:Int))) (cond (x4.1 == 18446744073709551615) (some ((0:Int),(3:Int))) (some ((IntKind.u64.wrap (x4.1+1)),(0:Int))))))
theorem xQ {p0:Zo} {p1:Int} {p2:Int} {r:(Int×Int)}  (h:nU p0 p1 p2=some r):PF 171 [.agg [pU p0.Hi,pU p0.Lo],pU p1,pI p2] (.tup [pU r.1,pI r.2]):=by
 unfold nU at h
 refine bv ?_
 refine fh Tryz.func171 rfl Tryz.ntmps171 Tryz.results171 rfl (aa (aj rfl (bu (cs:=[pU p0.Hi,pU p0.Lo]) rfl rfl (fun b1=>bo [6,7] (by kernel_rfl) (dn (ah (rg 10 9) [(19,pB (((p1 == 0)||(decide (p2<0)))||(decide (3<p2))))] (by kernel_rfl) (cG rfl h (fun hc2 h=>?_) fun hc2 h=>?_)))))))
 ·refine af ?_
  refine fY [(6,pU 0),(7,pI 2)] (by kernel_rfl) (am ?_)
  obtain rfl:=osi h
  exact aK (di (aL rfl) (aL rfl)) cd ⟨rfl,rfl⟩
 refine ai ?_
 refine dn (bj [0] [20,21,22] [(23,pB (decide (p1≤p0.Hi)))] (by kernel_rfl) (cG rfl h (fun hc3 h=>?_) fun hc3 h=>?_))
 ·refine af ?_
  refine fY [(6,pU 0),(7,pI 3)] (by kernel_rfl) (am ?_)
  obtain rfl:=osi h
  exact aK (di (aL rfl) (aL rfl)) cd ⟨rfl,rfl⟩
 refine ai ?_
 refine dD h fun x4 hx4 h=>av [0,0] ((rg 25 6)++[24,31,32]) [(8,pU x4.1),(9,pU x4.2)] (bR 5 (ra hx4) bN) (by kernel_rfl) (dn (ae h fun x5 hx5 h=>av [] (rg 33 5) [(38,pB (!x5))] (bR 4 (tH hx5) bN) (by kernel_rfl) (cG rfl h (fun hc6 h=>?_) fun hc6 h=>?_)))
 ·refine af ?_
  refine ah [39] [(6,pU x4.1),(7,pI 0)] (by kernel_rfl) (eD (am ?_))
  obtain rfl:=osi h
  exact aK (di (aL rfl) (aL rfl)) cd ⟨rfl,rfl⟩
 refine ai ?_
 refine dn (ah [40] [(41,pB (x4.1 == 18446744073709551615))] (by kernel_rfl) (cG rfl h (fun hc7 h=>?_) fun hc7 h=>?_))
 ·refine af ?_
  refine fY [(6,pU 0),(7,pI 3)] (by kernel_rfl) (am ?_)
  obtain rfl:=osi h
  exact aK (di (aL rfl) (aL rfl)) cd ⟨rfl,rfl⟩
 refine ai ?_
 refine bP (ah [42,43] [(6,pU (IntKind.u64.wrap (x4.1+1))),(7,pI 0)] (by kernel_rfl) (eD ?_))
 obtain rfl:=osi h
 exact aK (di (aL rfl) (aL rfl)) cd ⟨rfl,rfl⟩
def ie (p0:Int) (p1:Int):Option (Int×Int):=lb ((IntKind.u64.wrap ((dU .u64 p0 4294967295)*(dU .u64 p1 4294967295)))) (fun w1=>lb ((IntKind.u64.wrap ((IntKind.u64.wrap ((cH .u64 p0 32)*(dU .u64 p1 4294967295)))+(cH .u64 w1 32)))) (fun w2=>lb ((IntKind.u64.wrap ((dU .u64 w2 4294967295)+(IntKind.u64.wrap ((dU .u64 p0 4294967295)*(cH .u64 p1 32)))))) (fun w3=>lb ((IntKind.u64.wrap ((IntKind.u64.wrap ((IntKind.u64.wrap ((cH .u64 p0 32)*(cH .u64 p1 32)))+(cH .u64 w2 32)))+(cH .u64 w3 32)))) (fun w4=>some (w4,(IntKind.u64.wrap (p0*p1)))))))
theorem rb {p0:Int} {p1:Int} {r:(Int×Int)}  (h:ie p0 p1=some r):PF 202 [pU p0,pU p1] (.tup [pU r.1,pU r.2]):=by
 unfold ie at h
 refine bv ?_
 refine fh Tryz.func202 rfl Tryz.ntmps202 Tryz.results202 rfl (bd [4,5] (by kernel_rfl) (bP (ah [14,15] [(6,pU (dU .u64 p0 4294967295))] (by kernel_rfl) (bP (ah [16,17] [(7,pU (cH .u64 p0 32))] (by kernel_rfl) (bP (ah [18,19] [(8,pU (dU .u64 p1 4294967295))] (by kernel_rfl) (bP (ah [20,21] [(9,pU (cH .u64 p1 32))] (by kernel_rfl) (bP ?_))))))))))
 refine gb h ?_;clear h;intro w1 hw1 h
 refine aa (cu 3 [22,23] [(24,pU (IntKind.u64.wrap ((dU .u64 p0 4294967295)*(dU .u64 p1 4294967295))))] (by kernel_rfl) (bz rfl rfl rfl (bU rfl (.p (congrArg (fun z=>PV.v (Value.int .u64 z)) hw1))) (aq (bP ?_))))
 refine gb h ?_;clear h;intro w2 hw2 h
 refine aa (cu 6 (rg 25 5) [(30,pU (IntKind.u64.wrap ((IntKind.u64.wrap ((cH .u64 p0 32)*(dU .u64 p1 4294967295)))+(cH .u64 w1 32))))] (by kernel_rfl) (bz rfl rfl rfl (bU rfl (.p (congrArg (fun z=>PV.v (Value.int .u64 z)) hw2))) (aq (bP (ah [31,32] [(12,pU (dU .u64 w2 4294967295))] (by kernel_rfl) (bP (ah [33,34] [(13,pU (cH .u64 w2 32))] (by kernel_rfl) (bP ?_))))))))
 refine gb h ?_;clear h;intro w3 hw3 h
 refine aa (cu 5 [35,36,37,38] [(39,pU (IntKind.u64.wrap ((dU .u64 w2 4294967295)+(IntKind.u64.wrap ((dU .u64 p0 4294967295)*(cH .u64 p1 32))))))] (by kernel_rfl) (bz rfl rfl rfl (bU rfl (.p (congrArg (fun z=>PV.v (Value.int .u64 z)) hw3))) (aq (bP ?_))))
 refine gb h ?_;clear h;intro w4 hw4 h
 refine aa (cu 8 (rg 40 7) [(47,pU (IntKind.u64.wrap ((IntKind.u64.wrap ((IntKind.u64.wrap ((cH .u64 p0 32)*(cH .u64 p1 32)))+(cH .u64 w2 32)))+(cH .u64 w3 32))))] (by kernel_rfl) (bz rfl rfl rfl (bU rfl (.p (congrArg (fun z=>PV.v (Value.int .u64 z)) hw4))) (aq (bP (ah [48,49,50] [(5,pU (IntKind.u64.wrap (p0*p1)))] (by kernel_rfl) (eD ?_))))))
 obtain rfl:=osi h
 exact aK (di (aL rfl) (aL rfl)) cd ⟨rfl,rfl⟩
def jC (p0:Int) (p1:Int):Option Zo:=(ie p0 p1).bind fun x2=>some (⟨x2.1,x2.2⟩:Zo)
theorem oD {p0:Int} {p1:Int} {r:Zo}  (h:jC p0 p1=some r):PF 172 [pU p0,pU p1] (.agg [pU r.Hi,pU r.Lo]):=by
 unfold jC at h
 refine bv ?_
 refine fh Tryz.func172 rfl Tryz.ntmps172 Tryz.results172 rfl (aa (aj rfl (aU (cs:=[pU 0,pU 0]) rfl rfl rfl rfl (fun b1=>aq (dD h fun x2 hx2 h=>av [] [8,9,10,7,11,12] [(5,pU x2.1),(6,pU x2.2)] (bR 2 (rb hx2) bN) (by kernel_rfl) (bP (aa (cu 3 [13,14] [(15,.agg [pU x2.1,pU x2.2])] (by kernel_rfl) (aW rfl rfl (an (vs:=[pU x2.1,pU x2.2]) rfl rfl rfl rfl rfl cR AU (aq (eD ?_))))))))))))
 obtain rfl:=osi h
 exact aK (cN (gy rfl gx rfl)) cd ⟨rfl,rfl⟩
def lU (p0:Int) (p1:Int) (p2:Int) (p3:Int):Option (Int×Int):=(jC p0 p1).bind fun x1=>(nU x1 p2 p3).bind fun x2=>some (x2.1,x2.2)
theorem tI {p0:Int} {p1:Int} {p2:Int} {p3:Int} {r:(Int×Int)}  (h:lU p0 p1 p2 p3=some r):PF 141 [pU p0,pU p1,pU p2,pI p3] (.tup [pU r.1,pI r.2]):=by
 unfold lU at h
 refine bv ?_
 refine fh Tryz.func141 rfl Tryz.ntmps141 Tryz.results141 rfl (bd [8,9] (by kernel_rfl) (dD h fun x1 hx1 h=>ae h fun x2 hx2 h=>av [] (rg 10 8) [(8,pU x2.1),(9,pI x2.2)] (bR 2 (oD hx1) (bR 5 (xQ hx2) bN)) (by kernel_rfl) (eD ?_)))
 obtain rfl:=osi h
 exact aK (di (aL rfl) (aL rfl)) cd ⟨rfl,rfl⟩
def fG (p0:Int) (p1:Int) (p2:Int):Option Int:=(lU (IntKind.u64.wrap p0) (IntKind.u64.wrap p1) (IntKind.u64.wrap p2) 1).bind fun x1=>cond ((x1.2 != 0)||(decide (1000000000000<x1.1))) (some (1000000000000:Int)) (some (IntKind.i64.wrap x1.1))
theorem pg {p0:Int} {p1:Int} {p2:Int} {r:Int}  (h:fG p0 p1 p2=some r):PF 99 [pI p0,pI p1,pI p2] (pI r):=by
 unfold fG at h
 refine bv ?_
 refine fh Tryz.func99 rfl Tryz.ntmps99 Tryz.results99 rfl (bd [6] (by kernel_rfl) (dD h fun x1 hx1 h=>av [] ((rg 10 7)++[9,17,18]) [(7,pU x1.1),(8,pI x1.2)] (bR 6 (tI hx1) bN) (by kernel_rfl) (dn (ah (rg 19 5) [(24,pB ((x1.2 != 0)||(decide (1000000000000<x1.1))))] (by kernel_rfl) (cG rfl h (fun hc2 h=>?_) fun hc2 h=>?_)))))
 ·refine af ?_
  refine fY [(6,pI 1000000000000)] (by kernel_rfl) (am ?_)
  exact zz r h rfl
 refine ai ?_
 refine bP (ah [25,26] [(6,pI (IntKind.i64.wrap x1.1))] (by kernel_rfl) (eD ?_))
 exact zz r h rfl
def kG (p0:(List Int)):Option Int:=(aN (S:=Int) (T:=(Unit)⊕(_)) (fun v1=>cond (decide (v1<(p0.length:Int))) ((idx p0 v1).bind fun m5=>cond (m5 != 0) (some (.inr (.inr m5))) (some (.inl (IntKind.i64.wrap (v1+1))))) (some (.inr (.inl ())))) FUEL 0).bind fun q=>match q with | .inl _=>some (0:Int) | .inr e=>some e
theorem qN {p0:(List Int)} {r:Int}  (h:kG p0=some r):PF 102 [pL eI p0] (pI r):=by
 unfold kG at h
 refine bv ?_
 refine fh Tryz.func102 rfl Tryz.ntmps102 Tryz.results102 rfl (bd [2] (by kernel_rfl) (bP (al [(3,pI 0)] (by kernel_rfl) (dn (al [(6,pL eI p0),(7,pI (p0.length:Int)),(8,pI 0)] (by kernel_rfl) (jB h fun q3 hq3 h=>?_))))))
 refine az (Y:=Unit×Unit) (fun (_,_)=>[(3,pI 0)]) (fun (_,_)=>[]) (fun (_,_)=>q3=Sum.inl ()) ?_ ?_
 ·refine aJ ?_
  refine aP (Y:=Unit) (S:=Int) _ hq3 (fun _ v1=>[(3,pI 0),(6,pL eI p0),(7,pI (p0.length:Int)),(8,pI v1)]) (fun _ v1=>[]) () (kQ rfl) cd ?_
  rintro _ v1 o τ hb2;(try dsimp only at hb2);dsimp only [aF]
  refine af (al [(9,pB (decide (v1<(p0.length:Int))))] (by kernel_rfl) (bP (jX rfl hb2 (fun hc4 hb2=>?_) fun hc4 hb2=>?_)))
  ·refine ai ?_
   refine bP (iM (ae hb2 fun m5 hm5 hb2=>av [] [10,11] [(5,pI m5)] (eO 0 eI hm5 bN) (by kernel_rfl) (bP (ah [12,13] [(14,pB (m5 != 0))] (by kernel_rfl) (cG rfl hb2 (fun hc6 hb2=>?_) fun hc6 hb2=>?_)))))
   ·refine af ?_
    refine ah [15] [(2,pI m5)] (by kernel_rfl) (eD (ja ?_))
    refine aX hb2 (fun ht=>?_);subst ht
    refine aC (aY ?_)
    exact zz r h rfl
   refine ai ?_
   refine gC (ah [16] [(8,pI (IntKind.i64.wrap (v1+1)))] (by kernel_rfl) ?_)
   exact bh hb2 () (kQ rfl) cd
  refine aV ?_
  refine aw (ap hb2 (fun ht=>au rfl ?_))
  exact aH ((),()) (xF rfl) cd ht.symm
 rintro ⟨_,_⟩ τ hz;(try dsimp only at hz);subst q3;(try dsimp only at h);dsimp only [aF]
 refine af (ah [17] [(2,pI 0)] (by kernel_rfl) (eD ?_))
 exact zz r h rfl
def eP (p0:Za) (p1:Za):Option Int:=(dE p0.Product p1.Product).bind fun x3=>(dE p0.Agreement p1.Agreement).bind fun x4=>(kG [x3,x4]).bind fun x6=>some x6
theorem lV {p0:Za} {p1:Za} {r:Int}  (h:eP p0 p1=some r):PF 50 [.agg [pI p0.Product,pI p0.Agreement],.agg [pI p1.Product,pI p1.Agreement]] (pI r):=by
 unfold eP at h
 refine bv ?_
 refine fh Tryz.func50 rfl Tryz.ntmps50 Tryz.results50 rfl (aa (aj rfl (bu (cs:=[pI p0.Product,pI p0.Agreement]) rfl rfl (fun b1=>aj rfl (bu (cs:=[pI p1.Product,pI p1.Agreement]) rfl rfl (fun b2=>bo [4] (by kernel_rfl) (bP (cC (ρd:=[]) [(0,0),(1,0),(2,0),(3,0),(5,0),(6,0),(7,0),(8,0),(4,1),(9,1),(10,1),(11,1),(12,0)] _ (List.Perm.refl _) (by kernel_rfl) rfl (ae h fun x3 hx3 h=>ae h fun x4 hx4 h=>cP 10 [1,0,1,0] [5,6,7,8,10,11,12,13] [(9,pI x3),(14,pI x4)] (bR 8 (fF hx3) (bR 9 (fF hx4) bN)) (by kernel_rfl) ?_)))))))))
 refine kY rfl rfl rfl (pl_fz (bI rfl rfl rfl rfl rfl (gw rfl (gw rfl jO)) rfl rfl rfl rfl (fun b5=>⟨_,_,_,_,_,_,_,rfl,by (repeat (first | exact aB | apply ak)),?_⟩)))
 refine ae h fun x6 hx6 h=>cP 2 [] [16] [(4,pI x6)] (bR 0 (qN hx6) bN) (by kernel_rfl) (da (eD ?_))
 exact zz r h rfl
def bw (p0:(List Za)):Option (List Za):=cond (decide (((p0.length:Nat):Int)<2)) (some p0) ((aN (S:=Int) (T:=(Unit)⊕(_)) (fun v2=>cond (decide (v2<((p0.length:Nat):Int))) ((idx p0 v2).bind fun m7=>(idx p0 (IntKind.i64.wrap (v2 - 1))).bind fun m8=>cond (Za.eqb m7 m8) ((sub p0 v2 (p0.length:Int)).bind fun l10=>(aN (S:=(List Za)×Int×Int) (T:=((List Za)×Int)) (fun (l12,v13,v14)=>cond (decide (v14<((p0.length - v2.toNat:Nat):Int))) (((kZ v14).bind fun u25=>(idx l12 (v2+v14)).bind fun m26=>(kZ (IntKind.i64.wrap (v14 - 1))).bind fun u27=>(idx l12 (v2+(IntKind.i64.wrap (v14 - 1)))).bind fun m28=>cond (!(Za.eqb m26 m28)) ((kZ v14).bind fun u30=>(idx l12 (v2+v14)).bind fun m31=>(idx l12 v13).bind fun m32=>some ((l12.set v13.toNat m31),(IntKind.i64.wrap (v13+1)))) (some (l12,v13))).bind fun (l22,v23)=>some (.inl (l22,v23,(IntKind.i64.wrap (v14+1))))) (some (.inr (l12,v13)))) FUEL (p0,v2,1)).bind fun (l16,v17)=>(sub l16 v17 (l16.length:Int)).bind fun l34=>(sub (List.take v17.toNat l16++List.replicate (p0.length - v17.toNat) (⟨(0:Int),(0:Int)⟩:Za)) 0 v17).bind fun l35=>some (.inr (.inr l35))) (some (.inl (IntKind.i64.wrap (v2+1))))) (some (.inr (.inl ())))) FUEL 1).bind fun q=>match q with | .inl _=>some p0 | .inr e=>some e)
theorem dg {p0:(List Za)} {a_0:Option Addr}  {n_0:Nat}  {c_0:Nat} {r:(List Za)}  (h:bw p0=some r):PCall 51 [.v (.slice a_0 n_0 c_0)] [PRes.row a_0 n_0 c_0 28 2 (List.map Za.enc p0)] (fun pv ρ'=>∃ a c,pv=.v (.slice a r.length c)∧ρ'=[PRes.row a r.length c 28 2 (List.map Za.enc r)]):=by
 unfold bw at h
 refine jl Tryz.func51 rfl Tryz.ntmps51 Tryz.results51 rfl ?_
 refine ld (enc:=Za.enc) (xs:=p0) (a:=a_0) gx (fun hl ha=>?_);subst hl;clear ha
 refine af (bd [2] (by kernel_rfl) (dn (ah [6,7] [(8,pB (decide (((p0.length:Nat):Int)<2)))] (by kernel_rfl) (cG rfl h (fun hc1 h=>?_) fun hc1 h=>?_))))
 ·refine af ?_
  refine ah [9] [(2,pO a_0 p0.length c_0)] (by kernel_rfl) (eD (am ?_))
  obtain rfl:=osi h
  exact aK (cN (aL rfl)) dC ⟨_,_,rfl,rfl⟩
 refine ai ?_
 refine dn (al [(3,pI 1)] (by kernel_rfl) (jB h fun q5 hq5 h=>?_))
 refine az (Y:=Unit×Unit) (fun (_,_)=>[(0,pO a_0 p0.length c_0)]) (fun (_,_)=>[PRes.row a_0 p0.length c_0 28 2 (List.map Za.enc p0)]) (fun (_,_)=>q5=Sum.inl ()) ?_ ?_
 ·refine aJ ?_
  refine aP (Y:=Unit) (S:=Int) _ hq5 (fun _ v2=>[(0,pO a_0 p0.length c_0),(3,pI v2)]) (fun _ v2=>[PRes.row a_0 p0.length c_0 28 2 (List.map Za.enc p0)]) () (sX rfl) dC ?_
  rintro _ v2 o τ hb4;(try dsimp only at hb4);dsimp only [aF]
  refine af (af (ah [10,11,12] [(13,pB (decide (v2<((p0.length:Nat):Int))))] (by kernel_rfl) (cG rfl hb4 (fun hc6 hb4=>?_) fun hc6 hb4=>?_)))
  ·refine ai ?_
   refine bP (iM (cC (ρd:=[]) [(0,0),(1,0),(2,0),(3,0),(4,0),(5,0),(6,0),(7,0),(8,0),(9,0)] _ (List.Perm.refl _) (by kernel_rfl) rfl (ae hb4 fun m7 hm7 hb4=>iA 2 [(16,pO a_0 p0.length c_0),(17,pI v2)] (by kernel_rfl) (kX rfl rfl rfl (el (enc:=Za.enc) (xs:=p0) rfl rfl rfl (.p rfl) gx (.p rfl) (fun _=>hm7)) (kX rfl rfl rfl (cX (sz:=2) (p:=.agg [pI m7.Product,pI m7.Agreement]) (enc:=Za.enc) (xs:=p0) (a:=a_0) v2 0 m7 rfl (.p rfl) rfl gx (fun _=>hm7) rfl) (ae hb4 fun m8 hm8 hb4=>mD 3 [21] [(20,pO a_0 p0.length c_0),(22,pI (IntKind.i64.wrap (v2 - 1)))] (by kernel_rfl) (kX rfl rfl rfl (el (enc:=Za.enc) (xs:=p0) rfl rfl rfl (.p rfl) gx (.p rfl) (fun _=>hm8)) (kX rfl rfl rfl (cX (sz:=2) (p:=.agg [pI m8.Product,pI m8.Agreement]) (enc:=Za.enc) (xs:=p0) (a:=a_0) (IntKind.i64.wrap (v2 - 1)) 0 m8 rfl (.p rfl) rfl gx (fun _=>hm8) rfl) (cP 1 [] [] [(25,pB (Za.eqb m7 m8))] (foeq 0 Za.eqok28 bN) (by kernel_rfl) (da (cG rfl hb4 (fun hc9 hb4=>?_) fun hc9 hb4=>?_)))))))))))
   ·refine af ?_
    refine ae hb4 fun l10 hl10 hb4=>aa (ar 2 [(26,pO a_0 p0.length c_0),(27,pI v2)] (by kernel_rfl) (bz rfl rfl rfl (mB (enc:=Za.enc) (xs:=p0) rfl rfl rfl rfl rfl gx hl10) (aQ [(4,pQ a_0 p0.length c_0 v2.toNat 2)] (by kernel_rfl) (dn (al [(5,pI 1)] (by kernel_rfl) (jB hb4 fun q19 hq19 hb4=>?_))))))
    refine az (Y:=Unit×((List Za)×Int)) (fun (_,(l16,v17))=>[(0,pO a_0 p0.length c_0),(3,pI v17)]) (fun (_,(l16,v17))=>[PRes.row a_0 p0.length c_0 28 2 (List.map Za.enc l16)]) (fun (_,(l16,v17))=>q19=(l16,v17)) ?_ ?_
    ·refine aJ ?_
     refine aP (Y:=Unit) (S:=(List Za)×Int×Int) _ hq19 (fun _ (l12,v13,v14)=>[(0,pO a_0 p0.length c_0),(3,pI v13),(4,pQ a_0 p0.length c_0 v2.toNat 2),(5,pI v14)]) (fun _ (l12,v13,v14)=>[PRes.row a_0 p0.length c_0 28 2 (List.map Za.enc l12)]) () (kQ rfl) dC ?_
     rintro _ ⟨l12,v13,v14⟩ o τ hb18;(try dsimp only at hb18);dsimp only [aF]
     refine af (af (ah [29,30,31] [(32,pB (decide (v14<((p0.length - v2.toNat:Nat):Int))))] (by kernel_rfl) (cG rfl hb18 (fun hc20 hb18=>?_) fun hc20 hb18=>?_)))
     ·refine ai ?_
      refine dD hb18 fun q24 hq24 hb18=>?_
      refine az (Y:=Unit×((List Za)×Int)) (fun (_,(l22,v23))=>[(0,pO a_0 p0.length c_0),(3,pI v23),(4,pQ a_0 p0.length c_0 v2.toNat 2),(5,pI v14)]) (fun (_,(l22,v23))=>[PRes.row a_0 p0.length c_0 28 2 (List.map Za.enc l22)]) (fun (_,(l22,v23))=>q24=(l22,v23)) ?_ ?_
      ·skip
       refine iM (cC (ρd:=[]) [(0,0),(1,0),(2,0),(3,0),(4,0),(5,0),(6,0),(7,0),(8,0),(9,0)] _ (List.Perm.refl _) (by kernel_rfl) rfl (ae hq24 fun u25 hu25 hq24=>ae hq24 fun m26 hm26 hq24=>iA 2 [(35,pQ a_0 p0.length c_0 v2.toNat 2),(36,pI v14)] (by kernel_rfl) (kX rfl rfl rfl (ju (enc:=Za.enc) (xs:=l12) (i:=v2) rfl rfl rfl rfl rfl (gJ hl10).1.1 (lc hu25) gx hm26) (kX rfl rfl rfl (cX (sz:=2) (p:=.agg [pI m26.Product,pI m26.Agreement]) (enc:=Za.enc) (xs:=l12) (a:=a_0) (v2+v14) 0 m26 rfl (.p rfl) rfl gx (fun _=>hm26) rfl) (ae hq24 fun u27 hu27 hq24=>ae hq24 fun m28 hm28 hq24=>mD 3 [40] [(39,pQ a_0 p0.length c_0 v2.toNat 2),(41,pI (IntKind.i64.wrap (v14 - 1)))] (by kernel_rfl) (kX rfl rfl rfl (ju (enc:=Za.enc) (xs:=l12) (i:=v2) rfl rfl rfl rfl rfl (gJ hl10).1.1 (lc hu27) gx hm28) (kX rfl rfl rfl (cX (sz:=2) (p:=.agg [pI m28.Product,pI m28.Agreement]) (enc:=Za.enc) (xs:=l12) (a:=a_0) (v2+(IntKind.i64.wrap (v14 - 1))) 0 m28 rfl (.p rfl) rfl gx (fun _=>hm28) rfl) (cP 1 [] [] [(44,pB (!(Za.eqb m26 m28)))] (foeq 0 Za.eqok28 bN) (by kernel_rfl) (da (cG rfl hq24 (fun hc29 hq24=>?_) fun hc29 hq24=>?_))))))))))
       ·refine af ?_
        refine ae hq24 fun u30 hu30 hq24=>ae hq24 fun m31 hm31 hq24=>aa (ar 4 [(45,pO a_0 p0.length c_0),(46,pI v13),(47,pQ a_0 p0.length c_0 v2.toNat 2),(48,pI v14)] (by kernel_rfl) (bz rfl rfl rfl (ju (enc:=Za.enc) (xs:=l12) (i:=v2) rfl rfl rfl rfl rfl (gJ hl10).1.1 (lc hu30) gx hm31) (bz rfl rfl rfl (cX (sz:=2) (p:=.agg [pI m31.Product,pI m31.Agreement]) (enc:=Za.enc) (xs:=l12) (a:=a_0) (v2+v14) 0 m31 rfl (.p rfl) rfl gx (fun _=>hm31) rfl) (ae hq24 fun m32 hm32 hq24=>bz rfl rfl rfl (el (enc:=Za.enc) (xs:=l12) rfl rfl rfl (.p rfl) gx (.p rfl) (fun _=>hm32)) (aW rfl rfl (qV (enc:=Za.enc) (xs:=l12) (a:=a_0) v13 0 m32 m31 rfl rfl rfl rfl (fun _=>rfl) rfl rfl hm32 AU cR (aq (aM (ah [52,53] [(3,pI (IntKind.i64.wrap (v13+1)))] (by kernel_rfl) (aG ?_))))))))))
        obtain rfl:=osi hq24
        exact aH ((),((l12.set v13.toNat m31),(IntKind.i64.wrap (v13+1)))) (kQ rfl) dC rfl
       refine ai ?_
       refine aG ?_
       obtain rfl:=osi hq24
       exact aH ((),(l12,v13)) (kQ rfl) dC rfl
      rintro ⟨_,⟨l22,v23⟩⟩ τ hz;(try dsimp only at hz);subst q24;(try dsimp only at hb18);dsimp only [aF]
      refine ah [33,34] [(5,pI (IntKind.i64.wrap (v14+1)))] (by kernel_rfl) ?_
      exact bh hb18 () (kQ rfl) dC
     refine aV ?_
     refine aw (ap hb18 (fun ht=>au rfl ?_))
     exact aH ((),(l12,v13)) (sX rfl) dC ht.symm
    rintro ⟨_,⟨l16,v17⟩⟩ τ hz;(try dsimp only at hz);subst q19;(try dsimp only at hb4);dsimp only [aF]
    refine af (ae hb4 fun l34 hl34 hb4=>aa (ar 2 [(54,pO a_0 p0.length c_0),(55,pI v17)] (by kernel_rfl) (bz rfl rfl rfl (mB (enc:=Za.enc) (xs:=l16) rfl rfl rfl rfl rfl gx hl34) (aW rfl rfl (wF (enc:=Za.enc) (xs:=l16) (z0:=(⟨(0:Int),(0:Int)⟩:Za)) (i:=v17) rfl rfl rfl rfl hl34 rfl rfl rfl rfl cR (aq (dD hb4 fun l35 hl35 hb4=>aa (ar 2 [(57,pO a_0 p0.length c_0),(58,pI v17)] (by kernel_rfl) ?_))))))))
    refine aj rfl (sr (enc:=Za.enc) (xs:=(List.take v17.toNat l16++List.replicate (p0.length - v17.toNat) (⟨(0:Int),(0:Int)⟩:Za))) rfl rfl rfl rfl rfl (by exact aB) hl35 ?_)
    refine aQ [(2,pO a_0 l35.length c_0)] (by kernel_rfl) (eD (ja ?_))
    refine aX hb4 (fun ht=>?_);subst ht
    refine aC (aY ?_)
    obtain rfl:=osi h
    exact aK (cN (aL rfl)) dC ⟨_,_,rfl,rfl⟩
   refine ai ?_
   refine gC (ah [14,15] [(3,pI (IntKind.i64.wrap (v2+1)))] (by kernel_rfl) ?_)
   exact bh hb4 () (sX rfl) dC
  refine aV ?_
  refine aw (ap hb4 (fun ht=>au rfl ?_))
  exact aH ((),()) (xF rfl) dC ht.symm
 rintro ⟨_,_⟩ τ hz;(try dsimp only at hz);subst q5;(try dsimp only at h);dsimp only [aF]
 refine af (ah [60] [(2,pO a_0 p0.length c_0)] (by kernel_rfl) (eD ?_))
 obtain rfl:=osi h
 exact aK (cN (aL rfl)) dC ⟨_,_,rfl,rfl⟩
def gP (p0:Zq):Option Zm:=some p0.use
theorem mI {p0:Zq} {r:Zm}  (h:gP p0=some r):PF 240 [.agg [pS p0.use.Code,pI p0.use.Value,pB p0.use.Originating,pI p0.premise.Product,pI p0.premise.Agreement]] (.agg [pS r.Code,pI r.Value,pB r.Originating]):=by
 unfold gP at h
 refine bv ?_
 refine fh Tryz.func240 rfl Tryz.ntmps240 Tryz.results240 rfl (aa (aj rfl (bu (cs:=[pS p0.use.Code,pI p0.use.Value,pB p0.use.Originating,pI p0.premise.Product,pI p0.premise.Agreement]) rfl rfl (fun b1=>aj rfl (aU (cs:=[pS ByteArray.empty,pI 0,pB false]) rfl rfl rfl rfl (fun b2=>aq (bP (aa (co 2 [1] [3] [(4,.agg [pS p0.use.Code,pI p0.use.Value,pB p0.use.Originating])] (by kernel_rfl) (aW rfl rfl (an (vs:=[pS p0.use.Code,pI p0.use.Value,pB p0.use.Originating]) rfl rfl rfl rfl rfl cR zl3 (aq (eD ?_)))))))))))))
 obtain rfl:=osi h
 exact aK (cN (gy rfl gx rfl)) cd ⟨rfl,rfl⟩
def hC (p0:Zu):Option Zm:=some p0.use
theorem mT {p0:Zu} {r:Zm}  (h:hC p0=some r):PF 241 [.agg [pS p0.use.Code,pI p0.use.Value,pB p0.use.Originating]] (.agg [pS r.Code,pI r.Value,pB r.Originating]):=by
 unfold hC at h
 refine bv ?_
 refine fh Tryz.func241 rfl Tryz.ntmps241 Tryz.results241 rfl (aa (aj rfl (bu (cs:=[pS p0.use.Code,pI p0.use.Value,pB p0.use.Originating]) rfl rfl (fun b1=>aj rfl (aU (cs:=[pS ByteArray.empty,pI 0,pB false]) rfl rfl rfl rfl (fun b2=>aq (bP (aa (co 2 [1] [3] [(4,.agg [pS p0.use.Code,pI p0.use.Value,pB p0.use.Originating])] (by kernel_rfl) (aW rfl rfl (an (vs:=[pS p0.use.Code,pI p0.use.Value,pB p0.use.Originating]) rfl rfl rfl rfl rfl cR zl3 (aq (eD ?_)))))))))))))
 obtain rfl:=osi h
 exact aK (cN (gy rfl gx rfl)) cd ⟨rfl,rfl⟩
def Icumulation_supply_input (x:Zd)  : Option Zm:=match x with | .plain_ a=>hC a  | .proved_ a=>gP a
theorem Icumulation_supply_input_ok {x:Zd}  {w:Zm} (h:Icumulation_supply_input x  = some w):PFI x.pv "customs/cumulation.input" [] (.agg [pS w.Code,pI w.Value,pB w.Originating]):=by
 cases x with
 | plain_ a=>exact pz ⟨fun _ _=>by kernel_rfl⟩ (mT h)
 | proved_ a=>exact pz ⟨fun _ _=>by kernel_rfl⟩ (mI h)
def fH (p0:(List Zc)) (p1:Int):Option (Zc×Bool):=(aN (S:=Int) (T:=(Unit)⊕(_)) (fun v2=>cond (decide (v2<(p0.length:Int))) ((idx p0 v2).bind fun m6=>cond (m6.ID == p1) ((idx p0 v2).bind fun m8=>some (.inr (.inr (m8,true)))) (some (.inl (IntKind.i64.wrap (v2+1))))) (some (.inr (.inl ())))) FUEL 0).bind fun q=>match q with | .inl _=>some ((⟨0,ByteArray.empty,ByteArray.empty,0,false,[],[]⟩:Zc),false) | .inr e=>some e
def fj (p0:(List Zb)) (p1:Int):Option (Zb×Bool):=(aN (S:=Int) (T:=(Unit)⊕(_)) (fun v2=>cond (decide (v2<(p0.length:Int))) ((idx p0 v2).bind fun m6=>cond (m6.ID == p1) ((idx p0 v2).bind fun m8=>some (.inr (.inr (m8,true)))) (some (.inl (IntKind.i64.wrap (v2+1))))) (some (.inr (.inl ())))) FUEL 0).bind fun q=>match q with | .inl _=>some ((⟨0,0,[],[]⟩:Zb),false) | .inr e=>some e
def jD (p0:(List ByteArray)) (p1:ByteArray):Option Bool:=(aN (S:=Int) (T:=(Unit)⊕(_)) (fun v1=>cond (decide (v1<(p0.length:Int))) ((idx p0 v1).bind fun m5=>cond (decide (m5=p1)) (some (.inr (.inr true))) (some (.inl (IntKind.i64.wrap (v1+1))))) (some (.inr (.inl ())))) FUEL 0).bind fun q=>match q with | .inl _=>some false | .inr e=>some e
def j7 (p0:ByteArray) (p1:ByteArray):Option Bool:=(gd (decide ((p1.size:Int)≤(p0.size:Int))) (jW p0 0 (p1.size:Int))).bind fun s1=>some ((decide ((p1.size:Int)≤(p0.size:Int)))&&(decide (s1=p1)))
def gm (p0:Zb) (p1:ByteArray):Option (Ze×Bool):=(aN (S:=Int×Int) (T:=(Int)) (fun (v3,v4)=>cond (decide (v4<(p0.Rules.length:Int))) (((idx p0.Rules v4).bind fun m11=>(j7 p1 m11.Prefix).bind fun x12=>(gd (x12&&(!(decide (v3<0)))) (idx p0.Rules v4)).bind fun m13=>(gd (x12&&(!(decide (v3<0)))) (idx p0.Rules v3)).bind fun m14=>cond (x12&&((decide (v3<0))||(decide ((m14.Prefix.size:Int)<(m13.Prefix.size:Int))))) (some v4) (some v3)).bind fun v9=>some (.inl (v9,(IntKind.i64.wrap (v4+1))))) (some (.inr v3))) FUEL ((-1),0)).bind fun v5=>cond (decide (v5<0)) (some ((⟨0,0,[],0,0,ByteArray.empty,[]⟩:Ze),false)) ((idx p0.Rules v5).bind fun m17=>some (m17.Rule,true))
def dL (p0:(List Zc)) (p1:(List Zb)) (p2:ByteArray) (p3:Za):Option Bool:=(fH p0 p3.Product).bind fun x2=>(fj p1 p3.Agreement).bind fun x4=>(gm x4.1 x2.1.Code).bind fun x6=>(gd (((x2.2&&x4.2)&&x6.2)&&(!decide (x2.1.Country=p2))) (jD x4.1.Parties x2.1.Country)).bind fun x8=>(gd ((((x2.2&&x4.2)&&x6.2)&&(!decide (x2.1.Country=p2)))&&x8) (jD x4.1.Parties p2)).bind fun x9=>some (((((x2.2&&x4.2)&&x6.2)&&(!decide (x2.1.Country=p2)))&&x8)&&x9)
def j8 (p0:(List ByteArray)) (p1:(List ByteArray)):Option Bool:=cond ((p0.length:Int) != (p1.length:Int)) (some false) ((aN (S:=Int) (T:=(Unit)⊕(_)) (fun v2=>cond (decide (v2<(p0.length:Int))) ((idx p0 v2).bind fun m6=>(idx p1 v2).bind fun m7=>cond (!decide (m6=m7)) (some (.inr (.inr false))) (some (.inl (IntKind.i64.wrap (v2+1))))) (some (.inr (.inl ())))) FUEL 0).bind fun q=>match q with | .inl _=>some true | .inr e=>some e)
def kH (rec:Ze→Ze→Option Bool) (p0:Ze) (p1:Ze):Option Bool:=(gd (!(((((p0.Kind != p1.Kind)||(p0.Digits != p1.Digits))||(p0.Tolerance != p1.Tolerance))||(p0.Limit != p1.Limit))||(!decide (p0.Name=p1.Name)))) (j8 p0.Except p1.Except)).bind fun x3=>cond (((((((p0.Kind != p1.Kind)||(p0.Digits != p1.Digits))||(p0.Tolerance != p1.Tolerance))||(p0.Limit != p1.Limit))||(!decide (p0.Name=p1.Name)))||(!x3))||((p0.Args.length:Int) != (p1.Args.length:Int))) (some false) ((aN (S:=Int) (T:=(Unit)⊕(_)) (fun v5=>cond (decide (v5<(p0.Args.length:Int))) ((idx p0.Args v5).bind fun m9=>(idx p1.Args v5).bind fun m10=>(rec m9 m10).bind fun x11=>cond (!x11) (some (.inr (.inr false))) (some (.inl (IntKind.i64.wrap (v5+1))))) (some (.inr (.inl ())))) FUEL 0).bind fun q=>match q with | .inl _=>some true | .inr e=>some e)
def kI (n:Nat):Ze→Ze→Option Bool:=Nat.rec (motive:=fun _=>Ze→Ze→Option Bool) (fun _ _=>none) (fun _ ih=>kH ih) n
def pH (p0:Ze) (p1:Ze):Option Bool:=kI FUEL p0 p1
def lC (p0:(List Zi)) (p1:(List Zi)):Option Bool:=cond ((p0.length:Int) != (p1.length:Int)) (some false) ((aN (S:=Int) (T:=(Unit)⊕(_)) (fun v2=>cond (decide (v2<(p0.length:Int))) ((idx p0 v2).bind fun m6=>(idx p1 v2).bind fun m7=>(gd (!(!decide (m6.Prefix=m7.Prefix))) (idx p0 v2)).bind fun m8=>(gd (!(!decide (m6.Prefix=m7.Prefix))) (idx p1 v2)).bind fun m9=>(gd (!(!decide (m6.Prefix=m7.Prefix))) (pH m8.Rule m9.Rule)).bind fun x10=>cond ((!decide (m6.Prefix=m7.Prefix))||(!x10)) (some (.inr (.inr false))) (some (.inl (IntKind.i64.wrap (v2+1))))) (some (.inr (.inl ())))) FUEL 0).bind fun q=>match q with | .inl _=>some true | .inr e=>some e)
def mJ (p0:(List Zb)) (p1:Int) (p2:ByteArray) (p3:ByteArray):Option (List Int):=(fj p0 p1).bind fun x1=>cond (!x1.2) (some []) ((aN (S:=(List Int)×Int) (T:=((List Int))) (fun (l7,v10)=>cond ((decide (v10<(p0.length:Int)))&&(x1.1.Kind == 2)) (((idx p0 v10).bind fun m23=>(gd (m23.ID != p1) (jD m23.Parties p2)).bind fun x25=>(gd ((m23.ID != p1)&&x25) (jD m23.Parties p3)).bind fun x26=>(gd (((m23.ID != p1)&&x25)&&x26) (lC x1.1.Rules m23.Rules)).bind fun x27=>cond ((((m23.ID != p1)&&x25)&&x26)&&x27) ((app 8 l7 [m23.ID]).bind fun l31=>some l31) (some l7)).bind fun l21=>some (.inl (l21,(IntKind.i64.wrap (v10+1))))) (some (.inr l7))) FUEL ([p1],0)).bind fun l14=>some l14)
def oE (p0:(List ByteArray)) (p1:ByteArray):Option (List ByteArray):=(aN (S:=Int) (T:=(ByteArray×Int)) (fun v1=>(gd (decide (v1<(p0.length:Int))) (idx p0 v1)).bind fun m6=>cond ((decide (v1<(p0.length:Int)))&&(Op.bytesLess m6.toList p1.toList)) (some (.inl (IntKind.i64.wrap (v1+1)))) (some (.inr (p1,v1)))) FUEL 0).bind fun (v2,v3)=>(gd (decide (v3<(p0.length:Int))) (idx p0 v3)).bind fun m8=>cond ((decide (v3<(p0.length:Int)))&&(decide (m8=v2))) (some p0) ((sub p0 0 v3).bind fun l10=>(sub p0 v3 (p0.length:Int)).bind fun l11=>(app 16 ([]:List ByteArray) l10).bind fun l14=>(app 16 l14 [v2]).bind fun l20=>(app 16 l20 l11).bind fun l24=>some l24)
def mZ (p0:(List ByteArray)) (p1:(List ByteArray)):Option (List ByteArray):=(aN (S:=(List ByteArray)×Int) (T:=((List ByteArray)×(List ByteArray))) (fun (l1,v2)=>cond (decide (v2<(p0.length:Int))) ((idx p0 v2).bind fun m8=>(oE l1 m8).bind fun x9=>some (.inl (x9,(IntKind.i64.wrap (v2+1))))) (some (.inr (p1,l1)))) FUEL ([],0)).bind fun (l3,l4)=>(aN (S:=(List ByteArray)×Int) (T:=((List ByteArray))) (fun (l10,v11)=>cond (decide (v11<(l3.length:Int))) ((idx l3 v11).bind fun m16=>(oE l10 m16).bind fun x17=>some (.inl (x17,(IntKind.i64.wrap (v11+1))))) (some (.inr l10))) FUEL (l4,0)).bind fun l12=>some l12
def dc (p0:(List Za)) (p1:Za):Option Bool:=(aN (S:=Int) (T:=(Unit)⊕(_)) (fun v2=>cond (decide (v2<(p0.length:Int))) ((idx p0 v2).bind fun m6=>cond (Za.eqb m6 p1) (some (.inr (.inr true))) (some (.inl (IntKind.i64.wrap (v2+1))))) (some (.inr (.inl ())))) FUEL 0).bind fun q=>match q with | .inl _=>some false | .inr e=>some e
def kR (p0:(List Int)) (p1:Int) (p2:(List Za)):Option (Za×Bool):=(aN (S:=Int) (T:=(Unit)⊕(_)) (fun v2=>cond (decide (v2<(p0.length:Int))) ((idx p0 v2).bind fun m6=>(dc p2 (⟨p1,m6⟩:Za)).bind fun x8=>cond x8 (some (.inr (.inr ((⟨p1,m6⟩:Za),true)))) (some (.inl (IntKind.i64.wrap (v2+1))))) (some (.inr (.inl ())))) FUEL 0).bind fun q=>match q with | .inl _=>some ((⟨0,0⟩:Za),false) | .inr e=>some e
def oF (p0:Za) (p1:Za):Option Bool:=some ((decide (p0.Product<p1.Product))||((p0.Product == p1.Product)&&(decide (p0.Agreement<p1.Agreement))))
def fI (p0:(List Za)) (p1:Za):Option (List Za):=(dc p0 p1).bind fun x2=>cond x2 (some p0) ((aN (S:=Int) (T:=(Int)) (fun v4=>(gd (decide (v4<(p0.length:Int))) (idx p0 v4)).bind fun m8=>(gd (decide (v4<(p0.length:Int))) (oF m8 p1)).bind fun x9=>cond ((decide (v4<(p0.length:Int)))&&x9) (some (.inl (IntKind.i64.wrap (v4+1)))) (some (.inr v4))) FUEL 0).bind fun v5=>(sub p0 0 v5).bind fun l11=>(sub p0 v5 (p0.length:Int)).bind fun l12=>(app 16 ([]:List Za) l11).bind fun l15=>(app 16 l15 [p1]).bind fun l21=>(app 16 l21 l12).bind fun l25=>some l25)
def iQ (p0:Zn) (p1:Zn):Option (Zn×Bool):=Option.bind (cond (decide ((IntKind.u64.wrap (p0.Lo+p1.Lo))<p0.Lo)) (lb ((IntKind.u64.wrap ((IntKind.u64.wrap (p0.Hi+p1.Hi))+1))) (fun w8=>some (w8,((decide ((IntKind.u64.wrap (p0.Hi+p1.Hi))<p0.Hi))||(w8 == 0))))) (some ((IntKind.u64.wrap (p0.Hi+p1.Hi)),(decide ((IntKind.u64.wrap (p0.Hi+p1.Hi))<p0.Hi))))) (fun (v4,v5)=>some ((⟨v4,(IntKind.u64.wrap (p0.Lo+p1.Lo))⟩:Zn),v5))
def oG (p0:Zn) (p1:Int):Option (Zn×Int):=(aN (S:=Int×Int×Int×Int) (T:=(Int×Int×Int)) (fun (v4,v5,v6,v7)=>cond (decide (0≤v5)) (((kZ (dU .i64 v5 63)).bind fun u18=>lb ((dU .u64 (cH .u64 p0.Lo (dU .i64 v5 63)) 1)) (fun w19=>Option.bind (cond (decide (63<v5)) ((kZ (IntKind.i64.wrap (v5 - 64))).bind fun u23=>lb ((dU .u64 (cH .u64 p0.Hi (IntKind.i64.wrap (v5 - 64))) 1)) (fun w24=>some w24)) (some w19)) (fun v20=>(iQ (⟨v6,v7⟩:Zn) (⟨v6,v7⟩:Zn)).bind fun x25=>cond (((cH .u64 v4 63) == 1)||(decide (p1≤(qI .u64 (fS .u64 v4 1) v20)))) (lb ((IntKind.u64.wrap ((qI .u64 (fS .u64 v4 1) v20) - p1))) (fun w27=>some (w27,x25.1.Hi,(qI .u64 x25.1.Lo 1)))) (some ((qI .u64 (fS .u64 v4 1) v20),x25.1.Hi,x25.1.Lo))))).bind fun (v14,v15,v16)=>some (.inl (v14,(IntKind.i64.wrap (v5 - 1)),v15,v16))) (some (.inr (v4,v6,v7)))) FUEL (0,127,0,0)).bind fun (v8,v9,v10)=>some ((⟨v9,v10⟩:Zn),v8)
def sw (p0:Zn) (p1:Int) (p2:Int):Option (Int×Int):=cond (((p1 == 0)||(decide (p2<0)))||(decide (3<p2))) (some ((0:Int),(2:Int))) ((oG p0 p1).bind fun x3=>Option.bind (cond (p2 == 1) (some (decide (0<x3.2))) (cond (p2 == 2) (some (decide ((IntKind.u64.wrap (p1 - x3.2))≤x3.2))) (cond (p2 == 3) (some ((decide ((IntKind.u64.wrap (p1 - x3.2))<x3.2))||((x3.2 == (IntKind.u64.wrap (p1 - x3.2)))&&((dU .u64 x3.1.Lo 1) == 1)))) (some false)))) (fun v5=>Option.bind (cond v5 ((iQ x3.1 (⟨0,1⟩:Zn)).bind fun x14=>some (x14.1.Hi,x14.1.Lo)) (some (x3.1.Hi,x3.1.Lo))) (fun (v10,v11)=>cond (decide (0<v10)) (some ((0:Int),(3:Int))) (some (v11,(0:Int))))))
def mn (p0:Int) (p1:Int):Option Zn:=(aN (S:=Int×Int×Int) (T:=(Int×Int)) (fun (v3,v4,v5)=>cond (decide (0≤v3)) (((iQ (⟨v4,v5⟩:Zn) (⟨v4,v5⟩:Zn)).bind fun x14=>(kZ v3).bind fun u15=>cond ((dU .u64 (cH .u64 p1 v3) 1) == 1) ((iQ x14.1 (⟨0,p0⟩:Zn)).bind fun x17=>some (x17.1.Hi,x17.1.Lo)) (some (x14.1.Hi,x14.1.Lo))).bind fun (v11,v12)=>some (.inl ((IntKind.i64.wrap (v3 - 1)),v11,v12))) (some (.inr (v4,v5)))) FUEL (63,0,0)).bind fun (v6,v7)=>some (⟨v6,v7⟩:Zn)
def oH (p0:Int) (p1:Int) (p2:Int) (p3:Int):Option (Int×Int):=(mn p0 p1).bind fun x1=>(sw x1 p2 p3).bind fun x2=>some (x2.1,x2.2)
def hQ (p0:(List Zc)) (p1:(List Zb)) (p2:ByteArray) (p3:Za) (p4:(List Za)):Option (Zl×(List Za)):=(dL p0 p1 p2 p3).bind fun x3=>cond (!x3) (some ((⟨ByteArray.empty,0,false,[],[]⟩:Zl),[])) ((fH p0 p3.Product).bind fun x5=>(fj p1 p3.Agreement).bind fun x7=>(mJ p1 p3.Agreement x5.1.Country p2).bind fun x9=>(aN (S:=(List Za)×(List ByteArray)×Int×(List Zm)) (T:=((List Za)×(List ByteArray)×(List Zm))) (fun (l13,l14,v15,l17)=>cond (decide (v15<(x5.1.Inputs.length:Int))) (((idx x5.1.Inputs v15).bind fun m37=>(fH p0 m37.Product).bind fun x39=>(gd (x7.1.Kind == 3) (jD x7.1.Parties x39.1.Country)).bind fun x41=>Option.bind (cond ((x7.1.Kind == 3)&&x41) ((mZ l14 x39.1.Processes).bind fun x46=>some x46) (some l14)) (fun l42=>(kR x9 x39.1.ID p4).bind fun x47=>Option.bind (cond x47.2 ((fI l13 x47.1).bind fun x53=>some x53) (some l13)) (fun l49=>cond ((x47.2||(!((x7.1.Kind == 3)&&x41)))||((x39.1.Inputs.length:Int) == 0)) ((app 32 l17 [(⟨x39.1.Code,m37.Value,x47.2⟩:Zm)]).bind fun l57=>some (l49,l42,l57)) ((aN (S:=(List Za)×Int×(List Zm)) (T:=((List Za)×(List Zm))) (fun (l61,v62,l64)=>cond (decide (v62<(x39.1.Inputs.length:Int))) ((idx x39.1.Inputs v62).bind fun m75=>(fH p0 m75.Product).bind fun x76=>(idx x39.1.Inputs v62).bind fun m78=>(oH (IntKind.u64.wrap m37.Value) (IntKind.u64.wrap m78.Value) (IntKind.u64.wrap x39.1.Price) 1).bind fun x79=>Option.bind (cond ((x79.2 == 0)&&(decide (x79.1<1000000000000))) (some (IntKind.i64.wrap x79.1)) (some 1000000000000)) (fun v80=>(kR x9 x76.1.ID p4).bind fun x84=>Option.bind (cond x84.2 ((fI l61 x84.1).bind fun x90=>some x90) (some l61)) (fun l86=>(app 32 l64 [(⟨x76.1.Code,v80,x84.2⟩:Zm)]).bind fun l93=>some (.inl (l86,(IntKind.i64.wrap (v62+1)),l93))))) (some (.inr (l61,l64)))) FUEL (l49,0,l17)).bind fun (l67,l71)=>some (l67,l42,l71))))).bind fun (l30,l31,l35)=>some (.inl (l30,l31,(IntKind.i64.wrap (v15+1)),l35))) (some (.inr (l13,l14,l17)))) FUEL (([]:List Za),x5.1.Processes,0,([]:List Zm))).bind fun (l20,l21,l25)=>(sub l21 0 (py (l21.length:Int) 8)).bind fun l98=>some ((⟨x5.1.Code,x5.1.Price,x5.1.Obtained,l98,l25⟩:Zl),l20))
def iR (p0:(List Za)) (p1:(List Za)):Option Bool:=cond ((p0.length:Int) != (p1.length:Int)) (some false) ((aN (S:=Int) (T:=(Unit)⊕(_)) (fun v2=>cond (decide (v2<(p0.length:Int))) ((idx p0 v2).bind fun m6=>(idx p1 v2).bind fun m7=>cond (!(Za.eqb m6 m7)) (some (.inr (.inr false))) (some (.inl (IntKind.i64.wrap (v2+1))))) (some (.inr (.inl ())))) FUEL 0).bind fun q=>match q with | .inl _=>some true | .inr e=>some e)
def eW (p0:Int):Option Bool:=some ((decide (65≤p0))&&(decide (p0≤90)))
theorem jE {p0:Int} {r:Bool}  (h:eW p0=some r):PF 120 [pY p0] (pB r):=by
 unfold eW at h
 refine bv ?_
 refine fh Tryz.func120 rfl Tryz.ntmps120 Tryz.results120 rfl (bd [2] (by kernel_rfl) (bP (ah (rg 3 6) [(2,pB ((decide (65≤p0))&&(decide (p0≤90))))] (by kernel_rfl) (eD ?_))))
 exact zz r h rfl
def bQ (p0:ByteArray):Option Bool:=(gd ((p0.size:Int) == 2) (idx p0.data.toList 0)).bind fun c1=>(gd ((p0.size:Int) == 2) (eW (c1.toNat:Int))).bind fun x2=>(gd (((p0.size:Int) == 2)&&x2) (idx p0.data.toList 1)).bind fun c3=>(gd (((p0.size:Int) == 2)&&x2) (eW (c3.toNat:Int))).bind fun x4=>some ((((p0.size:Int) == 2)&&x2)&&x4)
theorem ef {p0:ByteArray} {r:Bool}  (h:bQ p0=some r):PF 72 [pS p0] (pB r):=by
 unfold bQ at h
 refine bv ?_
 refine fh Tryz.func72 rfl Tryz.ntmps72 Tryz.results72 rfl (bd [2] (by kernel_rfl) (dD h fun c1 hc1 h=>ae h fun x2 hx2 h=>ae h fun c3 hc3 h=>ae h fun x4 hx4 h=>av [] (rg 3 13) [(2,pB ((((p0.size:Int) == 2)&&x2)&&x4))] (fosxg 5 (gS hc1) (iW 6 (fun hc=>jE (gS hx2 hc)) (fosxg 10 (gS hc3) (iW 11 (fun hc=>jE (gS hx4 hc)) bN)))) (by kernel_rfl) (eD ?_)))
 exact zz r h rfl
def dM (p0:(List ByteArray)):Option Bool:=(aN (S:=Int) (T:=(Unit)⊕(_)) (fun v1=>cond (decide (v1<(p0.length:Int))) ((idx p0 v1).bind fun m5=>(bQ m5).bind fun x6=>(gd ((!(!x6))&&(decide (0<v1))) (idx p0 (IntKind.i64.wrap (v1 - 1)))).bind fun m7=>cond ((!x6)||((decide (0<v1))&&(Op.bytesLess m5.toList m7.toList||decide (m5=m7)))) (some (.inr (.inr false))) (some (.inl (IntKind.i64.wrap (v1+1))))) (some (.inr (.inl ())))) FUEL 0).bind fun q=>match q with | .inl _=>some true | .inr e=>some e
theorem mK {p0:(List ByteArray)} {r:Bool}  (h:dM p0=some r):PF 111 [pL eS p0] (pB r):=by
 unfold dM at h
 refine bv ?_
 refine fh Tryz.func111 rfl Tryz.ntmps111 Tryz.results111 rfl (bd [2] (by kernel_rfl) (dn (al [(5,pL eS p0),(6,pI (p0.length:Int)),(7,pI 0)] (by kernel_rfl) (jB h fun q3 hq3 h=>?_))))
 refine az (Y:=Unit×Unit) (fun (_,_)=>[]) (fun (_,_)=>[]) (fun (_,_)=>q3=Sum.inl ()) ?_ ?_
 ·refine aJ ?_
  refine aP (Y:=Unit) (S:=Int) _ hq3 (fun _ v1=>[(0,pL eS p0),(5,pL eS p0),(6,pI (p0.length:Int)),(7,pI v1)]) (fun _ v1=>[]) () (kQ rfl) cd ?_
  rintro _ v1 o τ hb2;(try dsimp only at hb2);dsimp only [aF]
  refine af (al [(8,pB (decide (v1<(p0.length:Int))))] (by kernel_rfl) (bP (jX rfl hb2 (fun hc4 hb2=>?_) fun hc4 hb2=>?_)))
  ·refine ai ?_
   refine bP (iM (ae hb2 fun m5 hm5 hb2=>av [] [9,10,11] [(3,pI v1),(4,pS m5)] (eO 1 eS hm5 bN) (by kernel_rfl) (dD hb2 fun x6 hx6 hb2=>ae hb2 fun m7 hm7 hb2=>av [] (rg 12 15) [(27,pB ((!x6)||((decide (0<v1))&&(Op.bytesLess m5.toList m7.toList||decide (m5=m7)))))] (bR 1 (ef hx6) (mX 11 eS (gS hm7) bN)) (by kernel_rfl) (cG rfl hb2 (fun hc8 hb2=>?_) fun hc8 hb2=>?_))))
   ·refine af ?_
    refine fY [(2,pB false)] (by kernel_rfl) (ja ?_)
    refine aX hb2 (fun ht=>?_);subst ht
    refine aC (aY ?_)
    exact zz r h rfl
   refine ai ?_
   refine gC (ah [28] [(7,pI (IntKind.i64.wrap (v1+1)))] (by kernel_rfl) ?_)
   exact bh hb2 () (kQ rfl) cd
  refine aV ?_
  refine aw (ap hb2 (fun ht=>au rfl ?_))
  exact aH ((),()) rt cd ht.symm
 rintro ⟨_,_⟩ τ hz;(try dsimp only at hz);subst q3;(try dsimp only at h);dsimp only [aF]
 refine af (fY [(2,pB true)] (by kernel_rfl) ?_)
 exact zz r h rfl
def gz (p0:ByteArray):Option Bool:=(gd ((p0.size:Int) == 2) (idx p0.data.toList 0)).bind fun c1=>(gd (((p0.size:Int) == 2)&&(decide (65≤(c1.toNat:Int)))) (idx p0.data.toList 0)).bind fun c2=>(gd ((((p0.size:Int) == 2)&&(decide (65≤(c1.toNat:Int))))&&(decide ((c2.toNat:Int)≤90))) (idx p0.data.toList 1)).bind fun c3=>(gd (((((p0.size:Int) == 2)&&(decide (65≤(c1.toNat:Int))))&&(decide ((c2.toNat:Int)≤90)))&&(decide (65≤(c3.toNat:Int)))) (idx p0.data.toList 1)).bind fun c4=>some ((((((p0.size:Int) == 2)&&(decide (65≤(c1.toNat:Int))))&&(decide ((c2.toNat:Int)≤90)))&&(decide (65≤(c3.toNat:Int))))&&(decide ((c4.toNat:Int)≤90)))
def iE (p0:ByteArray):Option Int:=(aN (S:=Int) (T:=(Unit)⊕(_)) (fun v1=>cond (decide (v1<(p0.size:Int))) ((idx p0.data.toList v1).bind fun c5=>(gd (!(decide ((c5.toNat:Int)<48))) (idx p0.data.toList v1)).bind fun c6=>cond ((decide ((c5.toNat:Int)<48))||(decide (57<(c6.toNat:Int)))) (some (.inr (.inr (0:Int)))) (some (.inl (IntKind.i64.wrap (v1+1))))) (some (.inr (.inl ())))) FUEL 0).bind fun q=>match q with | .inl _=>cond ((decide (8<(p0.size:Int)))||((Int.tmod (p0.size:Int) 2) == 1)) (some (0:Int)) (some (p0.size:Int)) | .inr e=>some e
def oI (p0:ByteArray):Option Bool:=(aN (S:=Int) (T:=(Unit)⊕(_)) (fun v1=>cond (decide (v1<(p0.size:Int))) ((idx p0.data.toList v1).bind fun c5=>(gd (!(decide ((c5.toNat:Int)<97))) (idx p0.data.toList v1)).bind fun c6=>cond ((decide ((c5.toNat:Int)<97))||(decide (122<(c6.toNat:Int)))) (some (.inr (.inr false))) (some (.inl (IntKind.i64.wrap (v1+1))))) (some (.inr (.inl ())))) FUEL 0).bind fun q=>match q with | .inl _=>some ((decide (1≤(p0.size:Int)))&&(decide ((p0.size:Int)≤12))) | .inr e=>some e
def pJ (p0:(List ByteArray)):Option Bool:=(aN (S:=Int) (T:=(Unit)⊕(_)) (fun v1=>cond (decide (v1<(p0.length:Int))) ((idx p0 v1).bind fun m5=>(oI m5).bind fun x6=>(gd ((!(!x6))&&(decide (0<v1))) (idx p0 (IntKind.i64.wrap (v1 - 1)))).bind fun m7=>(gd ((!(!x6))&&(decide (0<v1))) (idx p0 v1)).bind fun m8=>cond ((!x6)||((decide (0<v1))&&(!Op.bytesLess m7.toList m8.toList))) (some (.inr (.inr false))) (some (.inl (IntKind.i64.wrap (v1+1))))) (some (.inr (.inl ())))) FUEL 0).bind fun q=>match q with | .inl _=>some (decide ((p0.length:Int)≤8)) | .inr e=>some e
def oJ (p0:(List Zc)):Option Int:=cond (decide (64<(p0.length:Int))) (some (8:Int)) ((aN (S:=Int) (T:=(Unit)⊕(_)) (fun v2=>cond (decide (v2<(p0.length:Int))) ((idx p0 v2).bind fun m6=>cond ((decide (m6.ID<1))||(decide (1000000<m6.ID))) (some (.inr (.inr (2:Int)))) ((gd (decide (0<v2)) (idx p0 (IntKind.i64.wrap (v2 - 1)))).bind fun m9=>cond ((decide (0<v2))&&(decide (m6.ID≤m9.ID))) (some (.inr (.inr (9:Int)))) ((iE m6.Code).bind fun x11=>(gd (!(decide (x11<6))) (gz m6.Country)).bind fun x12=>(gd (!((decide (x11<6))||(!x12))) (pJ m6.Processes)).bind fun x13=>cond (((decide (x11<6))||(!x12))||(!x13)) (some (.inr (.inr (1:Int)))) (cond ((decide (m6.Price<1))||(decide (1000000000000<m6.Price))) (some (.inr (.inr (2:Int)))) (cond (decide (8<(m6.Inputs.length:Int))) (some (.inr (.inr (8:Int)))) (cond (m6.Obtained&&(decide (0<(m6.Inputs.length:Int)))) (some (.inr (.inr (1:Int)))) ((aN (S:=Int) (T:=(Unit)⊕(_)) (fun v18=>cond (decide (v18<(m6.Inputs.length:Int))) ((gd (decide (0<v18)) (idx m6.Inputs v18)).bind fun m22=>(gd (decide (0<v18)) (idx m6.Inputs (IntKind.i64.wrap (v18 - 1)))).bind fun m23=>cond ((decide (0<v18))&&(decide (m22.Product≤m23.Product))) (some (.inr (.inr (.inr (.inr (9:Int)))))) ((idx m6.Inputs v18).bind fun m25=>(fH p0 m25.Product).bind fun x26=>cond (!x26.2) (some (.inr (.inr (.inr (.inr (6:Int)))))) ((idx m6.Inputs v18).bind fun m29=>(gd (!(decide (m29.Value<0))) (idx m6.Inputs v18)).bind fun m30=>cond ((decide (m29.Value<0))||(decide (1000000000000<m30.Value))) (some (.inr (.inr (.inr (.inr (2:Int)))))) (some (.inl (IntKind.i64.wrap (v18+1))))))) (some (.inr (.inl ())))) FUEL 0).bind fun q=>match q with | .inl _=>some (.inl (IntKind.i64.wrap (v2+1))) | .inr e=>some e))))))) (some (.inr (.inl ())))) FUEL 0).bind fun q=>match q with | .inl _=>some (0:Int) | .inr e=>some e)
def nt (rec:Ze→Option Int) (p0:Ze):Option Int:=(aN (S:=Int×Int) (T:=(Int)) (fun (v2,v3)=>cond ((decide (v3<(p0.Args.length:Int)))&&(decide (v2≤32))) ((idx p0.Args v3).bind fun m8=>(rec m8).bind fun x9=>some (.inl ((IntKind.i64.wrap (v2+x9)),(IntKind.i64.wrap (v3+1))))) (some (.inr v2))) FUEL (1,0)).bind fun v4=>some (py v4 33)
def nu (n:Nat):Ze→Option Int:=Nat.rec (motive:=fun _=>Ze→Option Int) (fun _=>none) (fun _ ih=>nt ih) n
def td (p0:Ze):Option Int:=nu FUEL p0
def pK (p0:Ze):Option Bool:=cond (((!(p0.Kind == 2))&&(((p0.Digits != 0)||(decide (0<(p0.Except.length:Int))))||(p0.Tolerance != 0)))||((!(p0.Kind == 3))&&(p0.Limit != 0))) (some false) (some (((p0.Kind == 4)||(decide (p0.Name=(⟨#[]⟩:ByteArray))))&&(((p0.Kind == 5)||(p0.Kind == 6))||((p0.Args.length:Int) == 0))))
def nv (rec:Ze→Option Bool) (p0:Ze):Option Bool:=(pK p0).bind fun x2=>cond (!x2) (some false) (cond (p0.Kind == 1) (some true) (cond (p0.Kind == 2) ((aN (S:=Int) (T:=(Unit)⊕(_)) (fun v6=>cond (decide (v6<(p0.Except.length:Int))) ((idx p0.Except v6).bind fun m10=>(iE m10).bind fun x11=>(gd ((!(x11 == 0))&&(decide (0<v6))) (idx p0.Except (IntKind.i64.wrap (v6 - 1)))).bind fun m12=>(gd ((!(x11 == 0))&&(decide (0<v6))) (idx p0.Except v6)).bind fun m13=>cond ((x11 == 0)||((decide (0<v6))&&(!Op.bytesLess m12.toList m13.toList))) (some (.inr (.inr false))) (some (.inl (IntKind.i64.wrap (v6+1))))) (some (.inr (.inl ())))) FUEL 0).bind fun q=>match q with | .inl _=>some ((((((p0.Digits == 2)||(p0.Digits == 4))||(p0.Digits == 6))&&(decide ((p0.Except.length:Int)≤6)))&&(decide (0≤p0.Tolerance)))&&(decide (p0.Tolerance≤1000000))) | .inr e=>some e) (cond (p0.Kind == 3) (some ((decide (0≤p0.Limit))&&(decide (p0.Limit≤1000000)))) (cond (p0.Kind == 4) ((oI p0.Name).bind fun x17=>some x17) (Option.bind (cond (p0.Kind == 5) (some (p0.Kind == 5)) (some (p0.Kind == 6))) (fun v18=>cond v18 ((aN (S:=Int) (T:=(Unit)⊕(_)) (fun v22=>cond (decide (v22<(p0.Args.length:Int))) ((idx p0.Args v22).bind fun m26=>(gd (!(m26.Kind == p0.Kind)) (idx p0.Args v22)).bind fun m27=>(gd (!(m26.Kind == p0.Kind)) (rec m27)).bind fun x28=>cond ((m26.Kind == p0.Kind)||(!x28)) (some (.inr (.inr false))) (some (.inl (IntKind.i64.wrap (v22+1))))) (some (.inr (.inl ())))) FUEL 0).bind fun q=>match q with | .inl _=>some ((decide (2≤(p0.Args.length:Int)))&&(decide ((p0.Args.length:Int)≤6))) | .inr e=>some e) (some false)))))))
def nw (n:Nat):Ze→Option Bool:=Nat.rec (motive:=fun _=>Ze→Option Bool) (fun _=>none) (fun _ ih=>nv ih) n
def te (p0:Ze):Option Bool:=nw FUEL p0
def oK (p0:Ze):Option Int:=(td p0).bind fun x2=>cond (decide (32<x2)) (some (8:Int)) ((te p0).bind fun x4=>cond (!x4) (some (1:Int)) (some (0:Int)))
def iS (p0:(List Zb)):Option Int:=cond (decide (8<(p0.length:Int))) (some (8:Int)) ((aN (S:=Int) (T:=(Unit)⊕(_)) (fun v2=>cond (decide (v2<(p0.length:Int))) ((idx p0 v2).bind fun m6=>cond ((((decide (m6.ID<1))||(decide (1000<m6.ID)))||(decide (m6.Kind<1)))||(decide (3<m6.Kind))) (some (.inr (.inr (2:Int)))) ((gd (decide (0<v2)) (idx p0 (IntKind.i64.wrap (v2 - 1)))).bind fun m9=>cond ((decide (0<v2))&&(decide (m6.ID≤m9.ID))) (some (.inr (.inr (9:Int)))) (cond ((decide (12<(m6.Parties.length:Int)))||(decide (12<(m6.Rules.length:Int)))) (some (.inr (.inr (8:Int)))) ((aN (S:=Int) (T:=(Unit)⊕(_)) (fun v12=>cond (decide (v12<(m6.Parties.length:Int))) ((idx m6.Parties v12).bind fun m16=>(gz m16).bind fun x17=>(gd ((!(!x17))&&(decide (0<v12))) (idx m6.Parties (IntKind.i64.wrap (v12 - 1)))).bind fun m18=>(gd ((!(!x17))&&(decide (0<v12))) (idx m6.Parties v12)).bind fun m19=>cond ((!x17)||((decide (0<v12))&&(!Op.bytesLess m18.toList m19.toList))) (some (.inr (.inr (.inr (.inr (1:Int)))))) (some (.inl (IntKind.i64.wrap (v12+1))))) (some (.inr (.inl ())))) FUEL 0).bind fun q=>match q with | .inl _=>(aN (S:=Int) (T:=(Unit)⊕(_)) (fun v21=>cond (decide (v21<(m6.Rules.length:Int))) ((idx m6.Rules v21).bind fun m25=>(iE m25.Prefix).bind fun x26=>cond (x26 == 0) (some (.inr (.inr (.inr (.inr (1:Int)))))) ((gd (decide (0<v21)) (idx m6.Rules (IntKind.i64.wrap (v21 - 1)))).bind fun m28=>(gd (decide (0<v21)) (idx m6.Rules v21)).bind fun m29=>cond ((decide (0<v21))&&(!Op.bytesLess m28.Prefix.toList m29.Prefix.toList)) (some (.inr (.inr (.inr (.inr (9:Int)))))) ((idx m6.Rules v21).bind fun m31=>(oK m31.Rule).bind fun x32=>cond (x32 != 0) (some (.inr (.inr (.inr (.inr x32))))) (some (.inl (IntKind.i64.wrap (v21+1))))))) (some (.inr (.inl ())))) FUEL 0).bind (fun q=>match q with | .inl _=>some (.inl (IntKind.i64.wrap (v2+1))) | .inr e=>some e) | .inr e=>some e)))) (some (.inr (.inl ())))) FUEL 0).bind fun q=>match q with | .inl _=>some (0:Int) | .inr e=>some e)
def j9 (p0:Ze) (p1:Zl) (p2:Zm):Option Bool:=(jW p2.Code 0 p0.Digits).bind fun s4=>(jW p1.Code 0 p0.Digits).bind fun s5=>cond (decide (s4=s5)) (some true) ((aN (S:=Int) (T:=(Unit)⊕(_)) (fun v7=>cond (decide (v7<(p0.Except.length:Int))) ((idx p0.Except v7).bind fun m11=>(j7 p2.Code m11).bind fun x12=>cond x12 (some (.inr (.inr true))) (some (.inl (IntKind.i64.wrap (v7+1))))) (some (.inr (.inl ())))) FUEL 0).bind fun q=>match q with | .inl _=>some false | .inr e=>some e)
def oL (p0:Zn) (p1:Zn):Option Bool:=some ((decide (p0.Hi<p1.Hi))||((p0.Hi == p1.Hi)&&(decide (p0.Lo<p1.Lo))))
def tf (p0:Zn) (p1:Zn):Option Int:=(oL p0 p1).bind fun x3=>cond x3 (some (-1)) ((oL p1 p0).bind fun x5=>cond x5 (some (1:Int)) (some (0:Int)))
def lW (p0:Int) (p1:Int) (p2:Int):Option Bool:=(mn (IntKind.u64.wrap p0) 1000000).bind fun x1=>(mn (IntKind.u64.wrap p1) (IntKind.u64.wrap p2)).bind fun x2=>(tf x1 x2).bind fun x3=>some (decide (x3≤0))
def nx (rec:Ze→Zl→Option Bool) (p0:Ze) (p1:Zl):Option Bool:=(aN (S:=Int×Int×Int) (T:=(Int×Int)) (fun (v3,v4,v5)=>cond (decide (v5<(p1.Inputs.length:Int))) (((idx p1.Inputs v5).bind fun m14=>cond m14.Originating (some (v3,v4)) ((gd ((!(p0.Kind == 3))&&(p0.Kind == 2)) (j9 p0 p1 m14)).bind fun x17=>cond ((p0.Kind == 3)||((p0.Kind == 2)&&x17)) (some ((IntKind.i64.wrap (v3+m14.Value)),(IntKind.i64.wrap (v4+1)))) (some (v3,(IntKind.i64.wrap (v4+1)))))).bind fun (v11,v12)=>some (.inl (v11,v12,(IntKind.i64.wrap (v5+1))))) (some (.inr (v3,v4)))) FUEL (0,0,0)).bind fun (v6,v7)=>(aN (S:=Int×Int) (T:=(Int)) (fun (v19,v20)=>cond (decide (v20<(p0.Args.length:Int))) (((idx p0.Args v20).bind fun m27=>(rec m27 p1).bind fun x28=>cond x28 (some (IntKind.i64.wrap (v19+1))) (some v19)).bind fun v25=>some (.inl (v25,(IntKind.i64.wrap (v20+1))))) (some (.inr v19))) FUEL (0,0)).bind fun v21=>cond (p0.Kind == 1) (some (p1.Obtained&&(v7 == 0))) (cond (p0.Kind == 2) ((lW v6 p0.Tolerance p1.Price).bind fun x32=>some x32) (cond (p0.Kind == 3) ((lW v6 p0.Limit p1.Price).bind fun x34=>some x34) (cond (p0.Kind == 4) ((jD p1.Processes p0.Name).bind fun x36=>some x36) (cond (p0.Kind == 5) (some (v21 == (p0.Args.length:Int))) (some (decide (0<v21)))))))
def ny (n:Nat):Ze→Zl→Option Bool:=Nat.rec (motive:=fun _=>Ze→Zl→Option Bool) (fun _ _=>none) (fun _ ih=>nx ih) n
def pM (p0:Ze) (p1:Zl):Option Bool:=ny FUEL p0 p1
def lD (rec:Ze→Zl→Option ((List Int)×Bool)) (p0:Ze) (p1:Zl):Option ((List Int)×Bool):=(pM p0 p1).bind fun x3=>cond (!x3) (some ([],false)) ((aN (S:=(List Int)×Int) (T:=((List Int))⊕(_)) (fun (l6,v9)=>cond (decide (v9<(p0.Args.length:Int))) (Option.bind (α:=((List Int))⊕_) ((idx p0.Args v9).bind fun m23=>(rec m23 p1).bind fun x24=>cond (!x24.2) (some (.inl l6)) (cond (p0.Kind == 6) ((app 8 [v9] x24.1).bind fun l29=>some (.inr (.inr (.inr (l29,true))))) ((app 8 l6 x24.1).bind fun l33=>some (.inl l33)))) (fun q=>match q with | .inl l21=>some (.inl (l21,(IntKind.i64.wrap (v9+1)))) | .inr e=>some e)) (some (.inr (.inl l6)))) FUEL (([]:List Int),0)).bind fun q=>match q with | .inl l13=>some (l13,true) | .inr e=>some e)
def jn (n:Nat):Ze→Zl→Option ((List Int)×Bool):=Nat.rec (motive:=fun _=>Ze→Zl→Option ((List Int)×Bool)) (fun _ _=>none) (fun _ ih=>lD ih) n
def kS (p0:Ze) (p1:Zl):Option ((List Int)×Bool):=jn FUEL p0 p1
def ll (p0:(List Zc)) (p1:(List Zb)) (p2:ByteArray):Option ((List Zf)×Int):=(oJ p0).bind fun x1=>cond (x1 != 0) (some ([],x1)) ((iS p1).bind fun x3=>cond (x3 != 0) (some ([],x3)) ((gz p2).bind fun x5=>cond (!x5) (some ([],(1:Int))) ((aN (S:=(List Zf)×(List Za)×Bool) (T:=((List Zf))) (fun (l8,l11,v12)=>cond v12 ((aN (S:=(List Zf)×Bool×(List Za)×Int) (T:=((List Zf)×Bool×(List Za))) (fun (l22,v25,l26,v27)=>cond (decide (v27<(p0.length:Int))) ((aN (S:=(List Zf)×Bool×(List Za)×Int) (T:=((List Zf)×Bool×(List Za))) (fun (l38,v41,l42,v43)=>cond (decide (v43<(p1.length:Int))) (((idx p0 v27).bind fun m60=>(idx p1 v43).bind fun m61=>(dc l11 (⟨m60.ID,m61.ID⟩:Za)).bind fun x63=>(gd (!x63) (dL p0 p1 p2 (⟨m60.ID,m61.ID⟩:Za))).bind fun x64=>cond (x63||(!x64)) (some (l38,v41,l42)) ((hQ p0 p1 p2 (⟨m60.ID,m61.ID⟩:Za) l11).bind fun x66=>(idx p1 v43).bind fun m68=>(idx p0 v27).bind fun m69=>(gm m68 m69.Code).bind fun x70=>(kS x70.1 x66.1).bind fun x72=>cond x72.2 ((app 64 l38 [(⟨(⟨m60.ID,m61.ID⟩:Za),x72.1,x66.2⟩:Zf)]).bind fun l76=>(fI l42 (⟨m60.ID,m61.ID⟩:Za)).bind fun x80=>some (l76,true,x80)) (some (l38,v41,l42)))).bind fun (l56,v57,l58)=>some (.inl (l56,v57,l58,(IntKind.i64.wrap (v43+1))))) (some (.inr (l38,v41,l42)))) FUEL (l22,v25,l26,0)).bind fun (l47,v48,l49)=>some (.inl (l47,v48,l49,(IntKind.i64.wrap (v27+1))))) (some (.inr (l22,v25,l26)))) FUEL (l8,false,l11,0)).bind fun (l31,v32,l33)=>some (.inl (l31,l33,v32))) (some (.inr l8))) FUEL (([]:List Zf),[],true)).bind fun l16=>some (l16,(0:Int)))))
def bS (p0:(List Zc)) (p1:(Zc→Option Bool)):Option Int:=(aN (S:=Int) (T:=(Unit)⊕(_)) (fun v1=>cond (decide (v1<(p0.length:Int))) ((idx p0 v1).bind fun m5=>(p1 m5).bind fun x6=>cond x6 (some (.inr (.inr v1))) (some (.inl (IntKind.i64.wrap (v1+1))))) (some (.inr (.inl ())))) FUEL 0).bind fun q=>match q with | .inl _=>some (-1) | .inr e=>some e
theorem gT {p0:(List Zc)} {p1:(Zc→Option Bool)} {r:Int} {g1:PV} (hg1:∀ {y0:Zc} {w:Bool},p1 y0=some w→PFV g1 [.agg (aZ y0)] (pB w)) (h:bS p0 p1=some r):PF 187 [pL Zc.enc p0,g1] (pI r):=by
 unfold bS at h
 refine bv ?_
 refine fh Tryz.func187 rfl Tryz.ntmps187 Tryz.results187 rfl (bd [4] (by kernel_rfl) (dn (ah [6] [(7,pI (p0.length:Int)),(8,pI 0)] (by kernel_rfl) (jB h fun q3 hq3 h=>?_))))
 refine az (Y:=Unit×Unit) (fun (_,_)=>[]) (fun (_,_)=>[]) (fun (_,_)=>q3=Sum.inl ()) ?_ ?_
 ·refine aJ ?_
  refine aP (Y:=Unit) (S:=Int) _ hq3 (fun _ v1=>[(0,pL Zc.enc p0),(1,g1),(7,pI (p0.length:Int)),(8,pI v1)]) (fun _ v1=>[]) () (kQ rfl) cd ?_
  rintro _ v1 o τ hb2;(try dsimp only at hb2);dsimp only [aF]
  refine af (al [(9,pB (decide (v1<(p0.length:Int))))] (by kernel_rfl) (bP (jX rfl hb2 (fun hc4 hb2=>?_) fun hc4 hb2=>?_)))
  ·refine ai ?_
   refine bP (iM (ah [10] [(5,pI v1)] (by kernel_rfl) (dD hb2 fun m5 hm5 hb2=>ae hb2 fun x6 hx6 hb2=>av [] (rg 11 5) [(16,pB x6)] (eO 3 Zc.enc hm5 (C5 5 (hg1 hx6) bN)) (by kernel_rfl) (cG rfl hb2 (fun hc7 hb2=>?_) fun hc7 hb2=>?_))))
   ·refine af ?_
    refine ah [17] [(4,pI v1)] (by kernel_rfl) (eD (ja ?_))
    refine aX hb2 (fun ht=>?_);subst ht
    refine aC (aY ?_)
    exact zz r h rfl
   refine ai ?_
   refine gC (ah [18] [(8,pI (IntKind.i64.wrap (v1+1)))] (by kernel_rfl) ?_)
   exact bh hb2 () (kQ rfl) cd
  refine aV ?_
  refine aw (ap hb2 (fun ht=>au rfl ?_))
  exact aH ((),()) rt cd ht.symm
 rintro ⟨_,_⟩ τ hz;(try dsimp only at hz);subst q3;(try dsimp only at h);dsimp only [aF]
 refine af (fY [(4,pI (-1))] (by kernel_rfl) ?_)
 exact zz r h rfl
def bF (p0:(List Zc)) (p1:(Zc→Option Bool)):Option Bool:=(bS p0 p1).bind fun x1=>some (decide (0≤x1))
theorem gA {p0:(List Zc)} {p1:(Zc→Option Bool)} {r:Bool} {g1:PV} (hg1:∀ {y0:Zc} {w:Bool},p1 y0=some w→PFV g1 [.agg (aZ y0)] (pB w)) (h:bF p0 p1=some r):PF 162 [pL Zc.enc p0,g1] (pB r):=by
 unfold bF at h
 refine bv ?_
 refine fh Tryz.func162 rfl Tryz.ntmps162 Tryz.results162 rfl (bd [4] (by kernel_rfl) (dD h fun x1 hx1 h=>av [] [5,6,7,8] [(4,pB (decide (0≤x1)))] (bR 2 (gT hg1 hx1) bN) (by kernel_rfl) (eD ?_)))
 exact zz r h rfl
def cB (p0:Zc) (p1:Zh):Option Bool:=some (p0.ID == p1.Product)
theorem kJ {p0:Zc} {p1:Zh} {r:Bool}  (h:cB p0 p1=some r):PF 163 [.agg (aZ p0),.ref [pI p1.Product,pI p1.Value] 0] (pB r):=by
 unfold cB at h
 refine bv ?_
 refine fh Tryz.func163 rfl Tryz.ntmps163 Tryz.results163 rfl (aa (aj rfl (bu (cs:=(aZ p0)) rfl rfl (fun b1=>bo [3] (by kernel_rfl) (bP (bj [0] (rg 4 5) [(3,pB (p0.ID == p1.Product))] (by kernel_rfl) (eD ?_)))))))
 exact zz r h rfl
def dj (p0:(List Zc)) (p1:(List Zh)):Option Int:=(aN (S:=Int) (T:=(Unit)⊕(_)) (fun v1=>cond (decide (v1<(p1.length:Int))) ((idx p1 v1).bind fun m5=>(gd (decide (0<v1)) (idx p1 (IntKind.i64.wrap (v1 - 1)))).bind fun m7=>cond ((decide (0<v1))&&(decide (m5.Product≤m7.Product))) (some (.inr (.inr (9:Int)))) ((bF p0 (fun y9=>cB y9 m5)).bind fun x10=>cond (!x10) (some (.inr (.inr (6:Int)))) (cond ((decide (m5.Value<0))||(decide (1000000000000<m5.Value))) (some (.inr (.inr (2:Int)))) (some (.inl (IntKind.i64.wrap (v1+1))))))) (some (.inr (.inl ())))) FUEL 0).bind fun q=>match q with | .inl _=>some (0:Int) | .inr e=>some e
theorem lE {p0:(List Zc)} {p1:(List Zh)} {r:Int}  (h:dj p0 p1=some r):PF 119 [pL Zc.enc p0,pL Zh.enc p1] (pI r):=by
 unfold dj at h
 refine bv ?_
 refine fh Tryz.func119 rfl Tryz.ntmps119 Tryz.results119 rfl (bd [4] (by kernel_rfl) (dn (al [(7,pL Zh.enc p1),(8,pI (p1.length:Int)),(9,pI 0)] (by kernel_rfl) (jB h fun q3 hq3 h=>?_))))
 refine az (Y:=Unit×Unit) (fun (_,_)=>[]) (fun (_,_)=>[]) (fun (_,_)=>q3=Sum.inl ()) ?_ ?_
 ·refine aJ ?_
  refine aP (Y:=Unit) (S:=Int) _ hq3 (fun _ v1=>[(0,pL Zc.enc p0),(1,pL Zh.enc p1),(7,pL Zh.enc p1),(8,pI (p1.length:Int)),(9,pI v1)]) (fun _ v1=>[]) () (nG rfl) cd ?_
  rintro _ v1 o τ hb2;(try dsimp only at hb2);dsimp only [aF]
  refine af (al [(10,pB (decide (v1<(p1.length:Int))))] (by kernel_rfl) (bP (jX rfl hb2 (fun hc4 hb2=>?_) fun hc4 hb2=>?_)))
  ·refine ai ?_
   refine bP (iM (ae hb2 fun m5 hm5 hb2=>aa (bg 3 [] [12] [(11,pI v1),(13,.agg [pI m5.Product,pI m5.Value])] (eO 1 Zh.enc hm5 bN) (by kernel_rfl) (aj rfl (aU (cs:=[pI 0,pI 0]) rfl rfl rfl rfl (fun b6=>ar 1 [(5,pI v1)] (by kernel_rfl) (aW rfl rfl (an (vs:=[pI m5.Product,pI m5.Value]) rfl rfl rfl rfl rfl cR AU (aq (dn (cC (ρd:=[]) [(0,0),(1,0),(2,0),(3,0),(4,0),(5,0),(6,0),(7,0),(8,0),(9,0),(10,0),(11,0),(12,0)] _ (List.Perm.refl _) (by kernel_rfl) rfl (ae hb2 fun m7 hm7 hb2=>cP 13 [0] (rg 14 12) [(26,pB ((decide (0<v1))&&(decide (m5.Product≤m7.Product))))] (mX 8 Zh.enc (gS hm7) bN) (by kernel_rfl) (da (cG rfl hb2 (fun hc8 hb2=>?_) fun hc8 hb2=>?_))))))))))))))
   ·refine af ?_
    refine fY [(4,pI 9)] (by kernel_rfl) (am (ja ?_))
    refine aX hb2 (fun ht=>?_);subst ht
    refine aC (aY ?_)
    exact zz r h rfl
   refine ai ?_
   refine dn (aa (ar 1 [(27,pL Zc.enc p0)] (by kernel_rfl) ?_))
   refine qr 6 rfl (by exact aB) ?_
   refine ae hb2 fun x10 hx10 hb2=>gE [] [28,29] [(30,pB (!x10))] (bR 1 (gA (fun hr=>sc (kJ hr)) hx10) bN) (by kernel_rfl) (cG rfl hb2 (fun hc11 hb2=>?_) fun hc11 hb2=>?_)
   ·refine af ?_
    refine fY [(4,pI 6)] (by kernel_rfl) (am (ja ?_))
    refine aX hb2 (fun ht=>?_);subst ht
    refine aC (aY ?_)
    exact zz r h rfl
   refine ai ?_
   refine bP (ah (rg 31 7) [(38,pB ((decide (m5.Value<0))||(decide (1000000000000<m5.Value))))] (by kernel_rfl) (cG rfl hb2 (fun hc12 hb2=>?_) fun hc12 hb2=>?_))
   ·refine af ?_
    refine fY [(4,pI 2)] (by kernel_rfl) (ja ?_)
    refine aX hb2 (fun ht=>?_);subst ht
    refine aC (aY ?_)
    exact zz r h rfl
   refine ai ?_
   refine gC (ah [39] [(9,pI (IntKind.i64.wrap (v1+1)))] (by kernel_rfl) ?_)
   exact bh hb2 () (nG rfl) cd
  refine aV ?_
  refine aw (ap hb2 (fun ht=>au rfl ?_))
  exact aH ((),()) rt cd ht.symm
 rintro ⟨_,_⟩ τ hz;(try dsimp only at hz);subst q3;(try dsimp only at h);dsimp only [aF]
 refine af (fY [(4,pI 0)] (by kernel_rfl) ?_)
 exact zz r h rfl
def dl (p0:Za) (p1:Za):Option Int:=(dE p0.Product p1.Product).bind fun x3=>(dE p0.Agreement p1.Agreement).bind fun x4=>(kG [x3,x4]).bind fun x6=>some x6
theorem lF {p0:Za} {p1:Za} {r:Int}  (h:dl p0 p1=some r):PF 81 [.agg [pI p0.Product,pI p0.Agreement],.agg [pI p1.Product,pI p1.Agreement]] (pI r):=by
 unfold dl at h
 refine bv ?_
 refine fh Tryz.func81 rfl Tryz.ntmps81 Tryz.results81 rfl (aa (aj rfl (bu (cs:=[pI p0.Product,pI p0.Agreement]) rfl rfl (fun b1=>aj rfl (bu (cs:=[pI p1.Product,pI p1.Agreement]) rfl rfl (fun b2=>bo [4] (by kernel_rfl) (bP (cC (ρd:=[]) [(0,0),(1,0),(2,0),(3,0),(5,0),(6,0),(7,0),(8,0),(4,1),(9,1),(10,1),(11,1),(12,0)] _ (List.Perm.refl _) (by kernel_rfl) rfl (ae h fun x3 hx3 h=>ae h fun x4 hx4 h=>cP 10 [1,0,1,0] [5,6,7,8,10,11,12,13] [(9,pI x3),(14,pI x4)] (bR 8 (fF hx3) (bR 9 (fF hx4) bN)) (by kernel_rfl) ?_)))))))))
 refine kY rfl rfl rfl (pl_fz (bI rfl rfl rfl rfl rfl (gw rfl (gw rfl jO)) rfl rfl rfl rfl (fun b5=>⟨_,_,_,_,_,_,_,rfl,by (repeat (first | exact aB | apply ak)),?_⟩)))
 refine ae h fun x6 hx6 h=>cP 2 [] [16] [(4,pI x6)] (bR 0 (qN hx6) bN) (by kernel_rfl) (da (eD ?_))
 exact zz r h rfl
def dw (p0:Zs) (p1:Za):Option Bool:=some ((eC p0.claims p1).getD false)
theorem je {p0:Zs} {p1:Za} {m0_claims:Nat} {r:Bool}  (h:dw p0 p1=some r):PCall 121 [.agg [.v (.map (some m0_claims))],.agg [pI p1.Product,pI p1.Agreement]] [PRes.mp (some m0_claims) (e7 Za.key vT p0.claims)] (fun pv ρ'=>pv=pB r∧ρ'=[PRes.mp (some m0_claims) (e7 Za.key vT p0.claims)]):=by
 unfold dw at h
 refine fh Tryz.func121 rfl Tryz.ntmps121 Tryz.results121 rfl (aa (aj rfl (bu (cs:=[.v (.map (some m0_claims))]) rfl rfl (fun b1=>aj rfl (bu (cs:=[pI p1.Product,pI p1.Agreement]) rfl rfl (fun b2=>bo [4] (by kernel_rfl) (bP (aa (co 3 [1,0] [5] [(6,.v (.map (some m0_claims))),(7,.agg [pI p1.Product,pI p1.Agreement])] (by kernel_rfl) (bz rfl rfl rfl (show POpQ _ _ _ _ (pB ((eC p0.claims p1).getD false)) from wE (xs:=p0.claims) (k:=p1) (ek:=Za.key) (vv:=vT) (z0:=false) rfl rfl rfl (fun _=>.v rfl) Za.kenc28 (.p rfl) (.p rfl) pC (rJ sm)) (aQ [(4,pB ((eC p0.claims p1).getD false))] (by kernel_rfl) (eD ?_))))))))))))
 obtain rfl:=osi h
 exact aK (cN (aL rfl)) (be (ak (ak aB)) cd) ⟨rfl,rfl⟩
def bZ (p0:(List Za)) (p1:(List Za)):Option Bool:=cond ((p0.length:Int) != (p1.length:Int)) (some false) ((aN (S:=Int) (T:=(Unit)⊕(_)) (fun v2=>cond (decide (v2<(p0.length:Int))) ((idx p0 v2).bind fun m6=>(idx p1 v2).bind fun m7=>cond (!(Za.eqb m6 m7)) (some (.inr (.inr false))) (some (.inl (IntKind.i64.wrap (v2+1))))) (some (.inr (.inl ())))) FUEL 0).bind fun q=>match q with | .inl _=>some true | .inr e=>some e)
theorem gn {p0:(List Za)} {p1:(List Za)} {r:Bool}  (h:bZ p0 p1=some r):PF 122 [pL Za.enc p0,pL Za.enc p1] (pB r):=by
 unfold bZ at h
 refine bv ?_
 refine fh Tryz.func122 rfl Tryz.ntmps122 Tryz.results122 rfl (bd [4] (by kernel_rfl) (dn (ah [6,7,8,9] [(10,pB ((p0.length:Int) != (p1.length:Int)))] (by kernel_rfl) (cG rfl h (fun hc1 h=>?_) fun hc1 h=>?_))))
 ·refine af ?_
  refine fY [(4,pB false)] (by kernel_rfl) (am ?_)
  exact zz r h rfl
 refine ai ?_
 refine dn (ah [11] [(12,pI (p0.length:Int)),(13,pI 0)] (by kernel_rfl) (jB h fun q4 hq4 h=>?_))
 refine az (Y:=Unit×Unit) (fun (_,_)=>[]) (fun (_,_)=>[]) (fun (_,_)=>q4=Sum.inl ()) ?_ ?_
 ·refine aJ ?_
  refine aP (Y:=Unit) (S:=Int) _ hq4 (fun _ v2=>[(0,pL Za.enc p0),(1,pL Za.enc p1),(12,pI (p0.length:Int)),(13,pI v2)]) (fun _ v2=>[]) () (kQ rfl) cd ?_
  rintro _ v2 o τ hb3;(try dsimp only at hb3);dsimp only [aF]
  refine af (al [(14,pB (decide (v2<(p0.length:Int))))] (by kernel_rfl) (bP (jX rfl hb3 (fun hc5 hb3=>?_) fun hc5 hb3=>?_)))
  ·refine ai ?_
   refine bP (iM (ah [15] [(5,pI v2)] (by kernel_rfl) (bP (cC (ρd:=[]) [(0,0),(1,0),(2,0),(3,0),(4,0),(5,0),(6,0),(7,0),(8,0)] _ (List.Perm.refl _) (by kernel_rfl) rfl (ae hb3 fun m6 hm6 hb3=>ae hb3 fun m7 hm7 hb3=>cP 9 [] (rg 16 8) [(24,pB (!(Za.eqb m6 m7)))] (eO 2 Za.enc hm6 (eO 6 Za.enc hm7 (foeq 8 Za.eqok28 bN))) (by kernel_rfl) (da (cG rfl hb3 (fun hc8 hb3=>?_) fun hc8 hb3=>?_)))))))
   ·refine af ?_
    refine fY [(4,pB false)] (by kernel_rfl) (ja ?_)
    refine aX hb3 (fun ht=>?_);subst ht
    refine aC (aY ?_)
    exact zz r h rfl
   refine ai ?_
   refine gC (ah [25] [(13,pI (IntKind.i64.wrap (v2+1)))] (by kernel_rfl) ?_)
   exact bh hb3 () (kQ rfl) cd
  refine aV ?_
  refine aw (ap hb3 (fun ht=>au rfl ?_))
  exact aH ((),()) rt cd ht.symm
 rintro ⟨_,_⟩ τ hz;(try dsimp only at hz);subst q4;(try dsimp only at h);dsimp only [aF]
 refine af (fY [(4,pB true)] (by kernel_rfl) ?_)
 exact zz r h rfl
def jf (rec:Ze→Option Zg) (p0:Ze):Option Zg:=(aN (S:=(List Zg)×Int) (T:=((List Zg))) (fun (l3,v6)=>cond (decide (v6<(p0.Args.length:Int))) ((idx p0.Args v6).bind fun m15=>(rec m15).bind fun x17=>(app 16 l3 [x17]).bind fun l20=>some (.inl (l20,(IntKind.i64.wrap (v6+1))))) (some (.inr l3))) FUEL (([]:List Zg),0)).bind fun l10=>cond (p0.Kind == 5) (some (Zg.every_ l10)) (cond (p0.Kind == 6) (some (Zg.some_ l10)) (some (Zg.single_ (⟨p0⟩:Zr))))
theorem sy {rec:Ze→Option Zg} (hrec:∀ {p0:Ze} {r:Zg},rec p0=some r→PF 127 [.agg (aT p0)] (Zg.pv r)) {p0:Ze} {r:Zg} (h:jf rec p0=some r):PF 127 [.agg (aT p0)] (Zg.pv r):=by
 unfold jf at h
 refine bv ?_
 refine fh Tryz.func127 rfl Tryz.ntmps127 Tryz.results127 rfl (aa (aj rfl (bu (cs:=(aT p0)) rfl rfl (fun b1=>bo [2] (by kernel_rfl) (bP (al [(3,pN)] (by kernel_rfl) (dn (bj [0] [6] [(7,pL Ze.enc p0.Args),(8,pI (p0.Args.length:Int)),(9,pI 0)] (by kernel_rfl) (aM (ca 181 1 (ae h fun q12 hq12 h=>?_)))))))))))
 refine az (Y:=(Option Addr×Nat)×((List Zg))) (fun ((a8,c9),l10)=>[(1,pP b1 0),(3,pO a8 l10.length c9)]) (fun ((a8,c9),l10)=>[PRes.b b1 84 (aT p0),PRes.row a8 l10.length c9 181 1 (List.map Zg.enc l10)]) (fun ((a8,c9),l10)=>q12=l10) ?_ ?_
 ·refine aJ ?_
  refine aP (Y:=Option Addr×Nat) (S:=(List Zg)×Int) _ hq12 (fun (a4,c5) (l3,v6)=>[(1,pP b1 0),(3,pO a4 l3.length c5),(7,pL Ze.enc p0.Args),(8,pI (p0.Args.length:Int)),(9,pI v6)]) (fun (a4,c5) (l3,v6)=>[PRes.b b1 84 (aT p0),PRes.row a4 l3.length c5 181 1 (List.map Zg.enc l3)]) (none,0) (nG rfl) (be (ak aB) dC) ?_
  rintro ⟨a4,c5⟩ ⟨l3,v6⟩ o τ hb11;(try dsimp only at hb11);dsimp only [aF]
  refine af (al [(10,pB (decide (v6<(p0.Args.length:Int))))] (by kernel_rfl) (bP (jX rfl hb11 (fun hc14 hb11=>?_) fun hc14 hb11=>?_)))
  ·refine ai ?_
   refine bP (iM (ae hb11 fun m15 hm15 hb11=>aa (bg 2 [] [11] [(12,.agg (aT m15))] (wy 0 Ze.enc (Ze.enc_eq _) hm15 bN) (by kernel_rfl) (aj rfl (aU (cs:=[pI 0,pI 0,pN,pI 0,pI 0,pS ByteArray.empty,pN]) rfl rfl rfl rfl (fun b16=>aW rfl rfl (an (vs:=(aT m15)) rfl rfl rfl rfl rfl cR qu (aq (jB hb11 fun x17 hx17 hb11=>aa (bg 3 [0] [14] [(13,pO a4 l3.length c5),(15,Zg.pv x17)] (bR 2 (hrec hx17) bN) (by kernel_rfl) (aj rfl (bI rfl rfl rfl rfl rfl (gw rfl jO) rfl rfl rfl rfl (fun b18=>ae hb11 fun l20 hl20 hb11=>?_)))))))))))))
   refine aj rfl (bX (enc:=Zg.enc) rfl rfl rfl rfl rfl rfl rfl rfl rfl gx (by exact ak (ak (ak aB))) hl20 (fun a21 c22=>?_))
   refine aQ [(3,pO a21 l20.length c22)] (by kernel_rfl) (gC (ah [18] [(9,pI (IntKind.i64.wrap (v6+1)))] (by kernel_rfl) ?_))
   exact bh hb11 (a21,c22) (nG rfl) (be (ak (ak (ak aB))) dC)
  refine aV ?_
  refine aw (ap hb11 (fun ht=>au rfl ?_))
  exact aH ((a4,c5),l3) (sX rfl) sY ht.symm
 rintro ⟨⟨a8,c9⟩,l10⟩ τ hz;(try dsimp only at hz);subst q12;(try dsimp only at h);dsimp only [aF]
 refine af (af (bj [0] [19] [(20,pI p0.Kind)] (by kernel_rfl) (aM (iM (ah [22] [(21,pB (p0.Kind == 5))] (by kernel_rfl) (cG rfl h (fun hc24 h=>?_) fun hc24 h=>?_))))))
 ·refine af ?_
  refine aa (ar 1 [(23,pO a8 l10.length c9)] (by kernel_rfl) ?_)
  refine fC (enc:=Zg.enc) (xs:=l10) 23 rfl (by exact ak aB) ?_
  refine ar 1 [(24,.ifc 223 (pL Zg.enc l10))] (by kernel_rfl) (wG 24 rfl (Zg.pv_every_ l10) (aQ [(2,Zg.pv (Zg.every_ l10))] (by kernel_rfl) (eD (ja ?_))))
  exact zz r h rfl
 refine af ?_
 refine ah [26] [(25,pB (p0.Kind == 6))] (by kernel_rfl) (cG rfl h (fun hc25 h=>?_) fun hc25 h=>?_)
 ·refine af ?_
  refine aa (ar 1 [(27,pO a8 l10.length c9)] (by kernel_rfl) ?_)
  refine fC (enc:=Zg.enc) (xs:=l10) 27 rfl (by exact ak aB) ?_
  refine ar 1 [(28,.ifc 224 (pL Zg.enc l10))] (by kernel_rfl) (wG 28 rfl (Zg.pv_some_ l10) (aQ [(2,Zg.pv (Zg.some_ l10))] (by kernel_rfl) (eD (ja ?_))))
  exact zz r h rfl
 refine ai ?_
 refine aG (bP (bj [0] [29,30,31] [(2,Zg.pv (Zg.single_ (⟨p0⟩:Zr)))] (by kernel_rfl) (eD ?_)))
 exact zz r h rfl
def il (n:Nat):Ze→Option Zg:=Nat.rec (motive:=fun _=>Ze→Option Zg) (fun _=>none) (fun _ ih=>jf ih) n
def pR (p0:Ze):Option Zg:=il FUEL p0
theorem tJ (n:Nat):∀ {p0:Ze} {r:Zg},il n p0=some r→PF 127 [.agg (aT p0)] (Zg.pv r):=by
 induction n with
 | zero=>intros;rename_i h;exact nomatch h
 | succ n ih=>intros;rename_i h;exact sy (fun hr=>ih hr) h
theorem pT {p0:Ze} {r:Zg} (h:pR p0=some r):PF 127 [.agg (aT p0)] (Zg.pv r):=tJ FUEL h
def fk (rec:Zg→Zl→(List Int)→Option ((List Int)×Bool)) (p0:(List Zg)) (p1:Zl) (p2:(List Int)):Option ((List Int)×Bool):=(aN (S:=(List Int)×Int) (T:=((List Int))⊕(_)) (fun (l2,v3)=>cond (decide (v3<(p0.length:Int))) ((idx p0 v3).bind fun m8=>(rec m8 p1 l2).bind fun x9=>cond (!x9.2) (some (.inr (.inr ([],false)))) (some (.inl (x9.1,(IntKind.i64.wrap (v3+1)))))) (some (.inr (.inl l2)))) FUEL (p2,0)).bind fun q=>match q with | .inl l4=>some (l4,true) | .inr e=>some e
theorem oM {rec:Zg→Zl→(List Int)→Option ((List Int)×Bool)} (hrec:∀ {x:Zg} {y0:Zl} {y1:(List Int)} {w:((List Int)×Bool)},rec x y0 y1=some w→PFI x.pv "customs/rule.follow" [.agg (bL y0),pL eI y1] (.tup [pL eI w.1,pB w.2])) {p0:(List Zg)} {p1:Zl} {p2:(List Int)} {r:((List Int)×Bool)} (h:fk rec p0 p1 p2=some r):PF 242 [pL Zg.enc p0,.agg (bL p1),pL eI p2] (.tup [pL eI r.1,pB r.2]):=by
 unfold fk at h
 refine bv ?_
 refine fh Tryz.func242 rfl Tryz.ntmps242 Tryz.results242 rfl (aa (aj rfl (bu (cs:=(bL p1)) rfl rfl (fun b1=>bo [6,7] (by kernel_rfl) (dn (al [(12,pL Zg.enc p0),(13,pI (p0.length:Int)),(14,pI 0)] (by kernel_rfl) (jB h fun q6 hq6 h=>?_)))))))
 refine az (Y:=Unit×((List Int))) (fun (_,l4)=>[(2,pL eI l4)]) (fun (_,l4)=>[]) (fun (_,l4)=>q6=Sum.inl l4) ?_ ?_
 ·refine aJ ?_
  refine aP (Y:=Unit) (S:=(List Int)×Int) _ hq6 (fun _ (l2,v3)=>[(2,pL eI l2),(4,pP b1 0),(12,pL Zg.enc p0),(13,pI (p0.length:Int)),(14,pI v3)]) (fun _ (l2,v3)=>[PRes.b b1 36 (bL p1)]) () (nG rfl) dC ?_
  rintro _ ⟨l2,v3⟩ o τ hb5;(try dsimp only at hb5);dsimp only [aF]
  refine af (al [(15,pB (decide (v3<(p0.length:Int))))] (by kernel_rfl) (bP (jX rfl hb5 (fun hc7 hb5=>?_) fun hc7 hb5=>?_)))
  ·refine ai ?_
   refine bP (iM (ae hb5 fun m8 hm8 hb5=>av [] [16,17] [(9,Zg.pv m8)] (eO 0 Zg.enc hm8 bN) (by kernel_rfl) (dD hb5 fun x9 hx9 hb5=>av [0] [19,20,21,22,18,23,24] [(10,pL eI x9.1),(11,pB x9.2)] (C4 3 (hrec hx9) bN) (by kernel_rfl) (dn (ah [25] [(26,pB (!x9.2))] (by kernel_rfl) (cG rfl hb5 (fun hc10 hb5=>?_) fun hc10 hb5=>?_))))))
   ·refine af ?_
    refine al [(6,pN),(7,pB false)] (by kernel_rfl) (aM (iO 6 rfl (bV (am (ja ?_)))))
    refine aX hb5 (fun ht=>?_);subst ht
    refine aC (aY ?_)
    obtain rfl:=osi h
    exact aK (di (aL rfl) (aL rfl)) cd ⟨rfl,rfl⟩
   refine ai ?_
   refine aM (ah [27] [(2,pL eI x9.1)] (by kernel_rfl) (gC (ah [28] [(14,pI (IntKind.i64.wrap (v3+1)))] (by kernel_rfl) ?_)))
   exact bh hb5 () (nG rfl) dC
  refine aV ?_
  refine aw (ap hb5 (fun ht=>au rfl ?_))
  exact aH ((),l2) (xF rfl) cd ht.symm
 rintro ⟨_,l4⟩ τ hz;(try dsimp only at hz);subst q6;(try dsimp only at h);dsimp only [aF]
 refine af (ah [29] [(6,pL eI l4),(7,pB true)] (by kernel_rfl) (eD ?_))
 obtain rfl:=osi h
 exact aK (di (aL rfl) (aL rfl)) cd ⟨rfl,rfl⟩
def fJ (rec:Zg→Zl→(List Int)→Option ((List Int)×Bool)) (p0:(List Zg)) (p1:Zl) (p2:(List Int)):Option ((List Int)×Bool):=(gd (!((p2.length:Int) == 0)) (idx p2 0)).bind fun m2=>(gd (!(((p2.length:Int) == 0)||(decide (m2<0)))) (idx p2 0)).bind fun m3=>cond ((((p2.length:Int) == 0)||(decide (m2<0)))||(decide ((p0.length:Int)≤m3))) (some ([],false)) ((idx p2 0).bind fun m5=>(idx p0 m5).bind fun m6=>(sub p2 1 (p2.length:Int)).bind fun l7=>(rec m6 p1 l7).bind fun x8=>some (x8.1,x8.2))
theorem pj {rec:Zg→Zl→(List Int)→Option ((List Int)×Bool)} (hrec:∀ {x:Zg} {y0:Zl} {y1:(List Int)} {w:((List Int)×Bool)},rec x y0 y1=some w→PFI x.pv "customs/rule.follow" [.agg (bL y0),pL eI y1] (.tup [pL eI w.1,pB w.2])) {p0:(List Zg)} {p1:Zl} {p2:(List Int)} {r:((List Int)×Bool)} (h:fJ rec p0 p1 p2=some r):PF 244 [pL Zg.enc p0,.agg (bL p1),pL eI p2] (.tup [pL eI r.1,pB r.2]):=by
 unfold fJ at h
 refine bv ?_
 refine fh Tryz.func244 rfl Tryz.ntmps244 Tryz.results244 rfl (aa (aj rfl (bu (cs:=(bL p1)) rfl rfl (fun b1=>bo [6,7] (by kernel_rfl) (dn (ae h fun m2 hm2 h=>ae h fun m3 hm3 h=>av [] (rg 8 16) [(24,pB ((((p2.length:Int) == 0)||(decide (m2<0)))||(decide ((p0.length:Int)≤m3))))] (mX 5 eI (gS hm2) (mX 11 eI (gS hm3) bN)) (by kernel_rfl) (cG rfl h (fun hc4 h=>?_) fun hc4 h=>?_)))))))
 ·refine af ?_
  refine al [(6,pN),(7,pB false)] (by kernel_rfl) (aM (iO 6 rfl (bV (am ?_))))
  obtain rfl:=osi h
  exact aK (di (aL rfl) (aL rfl)) cd ⟨rfl,rfl⟩
 refine ai ?_
 refine bP (cC (ρd:=[]) [(0,0),(1,0),(2,0),(3,0),(4,0),(5,0),(6,0),(7,0),(8,0),(9,0),(10,0),(11,1),(12,0),(13,0),(14,0),(15,0)] _ (List.Perm.refl _) (by kernel_rfl) rfl (ae h fun m5 hm5 h=>ae h fun m6 hm6 h=>ae h fun l7 hl7 h=>ae h fun x8 hx8 h=>cP 16 [0] (rg 25 14) [(6,pL eI x8.1),(7,pB x8.2)] (eO 2 eI hm5 (eO 4 Zg.enc hm6 (fosl 8 eI 1 (fun _=>rfl) hl7 (C4 11 (hrec hx8) bN)))) (by kernel_rfl) (da (eD ?_))))
 obtain rfl:=osi h
 exact aK (di (aL rfl) (aL rfl)) cd ⟨rfl,rfl⟩
def cF (p0:(List ByteArray)) (p1:(ByteArray→Option Bool)):Option Int:=(aN (S:=Int) (T:=(Unit)⊕(_)) (fun v1=>cond (decide (v1<(p0.length:Int))) ((idx p0 v1).bind fun m5=>(p1 m5).bind fun x6=>cond x6 (some (.inr (.inr v1))) (some (.inl (IntKind.i64.wrap (v1+1))))) (some (.inr (.inl ())))) FUEL 0).bind fun q=>match q with | .inl _=>some (-1) | .inr e=>some e
theorem jN {p0:(List ByteArray)} {p1:(ByteArray→Option Bool)} {r:Int} {g1:PV} (hg1:∀ {y0:ByteArray} {w:Bool},p1 y0=some w→PFV g1 [pS y0] (pB w)) (h:cF p0 p1=some r):PF 256 [pL eS p0,g1] (pI r):=by
 unfold cF at h
 refine bv ?_
 refine fh Tryz.func256 rfl Tryz.ntmps256 Tryz.results256 rfl (bd [4] (by kernel_rfl) (dn (ah [6] [(7,pI (p0.length:Int)),(8,pI 0)] (by kernel_rfl) (jB h fun q3 hq3 h=>?_))))
 refine az (Y:=Unit×Unit) (fun (_,_)=>[]) (fun (_,_)=>[]) (fun (_,_)=>q3=Sum.inl ()) ?_ ?_
 ·refine aJ ?_
  refine aP (Y:=Unit) (S:=Int) _ hq3 (fun _ v1=>[(0,pL eS p0),(1,g1),(7,pI (p0.length:Int)),(8,pI v1)]) (fun _ v1=>[]) () (kQ rfl) cd ?_
  rintro _ v1 o τ hb2;(try dsimp only at hb2);dsimp only [aF]
  refine af (al [(9,pB (decide (v1<(p0.length:Int))))] (by kernel_rfl) (bP (jX rfl hb2 (fun hc4 hb2=>?_) fun hc4 hb2=>?_)))
  ·refine ai ?_
   refine bP (iM (ah [10] [(5,pI v1)] (by kernel_rfl) (dD hb2 fun m5 hm5 hb2=>ae hb2 fun x6 hx6 hb2=>av [] (rg 11 5) [(16,pB x6)] (eO 3 eS hm5 (C5 5 (hg1 hx6) bN)) (by kernel_rfl) (cG rfl hb2 (fun hc7 hb2=>?_) fun hc7 hb2=>?_))))
   ·refine af ?_
    refine ah [17] [(4,pI v1)] (by kernel_rfl) (eD (ja ?_))
    refine aX hb2 (fun ht=>?_);subst ht
    refine aC (aY ?_)
    exact zz r h rfl
   refine ai ?_
   refine gC (ah [18] [(8,pI (IntKind.i64.wrap (v1+1)))] (by kernel_rfl) ?_)
   exact bh hb2 () (kQ rfl) cd
  refine aV ?_
  refine aw (ap hb2 (fun ht=>au rfl ?_))
  exact aH ((),()) rt cd ht.symm
 rintro ⟨_,_⟩ τ hz;(try dsimp only at hz);subst q3;(try dsimp only at h);dsimp only [aF]
 refine af (fY [(4,pI (-1))] (by kernel_rfl) ?_)
 exact zz r h rfl
def cq (p0:(List ByteArray)) (p1:(ByteArray→Option Bool)):Option Bool:=(cF p0 p1).bind fun x1=>some (decide (0≤x1))
theorem i4 {p0:(List ByteArray)} {p1:(ByteArray→Option Bool)} {r:Bool} {g1:PV} (hg1:∀ {y0:ByteArray} {w:Bool},p1 y0=some w→PFV g1 [pS y0] (pB w)) (h:cq p0 p1=some r):PF 253 [pL eS p0,g1] (pB r):=by
 unfold cq at h
 refine bv ?_
 refine fh Tryz.func253 rfl Tryz.ntmps253 Tryz.results253 rfl (bd [4] (by kernel_rfl) (dD h fun x1 hx1 h=>av [] [5,6,7,8] [(4,pB (decide (0≤x1)))] (bR 2 (jN hg1 hx1) bN) (by kernel_rfl) (eD ?_)))
 exact zz r h rfl
def f0 (p0:ByteArray) (p1:ByteArray):Option Bool:=(dq p1 p0).bind fun x1=>some x1
theorem rc {p0:ByteArray} {p1:ByteArray} {r:Bool}  (h:f0 p0 p1=some r):PF 254 [pS p0,.ref [pS p1] 0] (pB r):=by
 unfold f0 at h
 refine bv ?_
 refine fh Tryz.func254 rfl Tryz.ntmps254 Tryz.results254 rfl (bd [3] (by kernel_rfl) (dD h fun x1 hx1 h=>av [] [4,5,6] [(3,pB x1)] (bR 2 (iB hx1) bN) (by kernel_rfl) (eD ?_)))
 exact zz r h rfl
def im (p0:Ze) (p1:ByteArray) (p2:ByteArray):Option Bool:=(jW p1 0 p0.Digits).bind fun s3=>(dq p2 s3).bind fun x4=>cond x4 (some true) ((cq p0.Except (fun y6=>f0 y6 p2)).bind fun x7=>some x7)
theorem sA {p0:Ze} {p1:ByteArray} {p2:ByteArray} {r:Bool}  (h:im p0 p1 p2=some r):PF 251 [.agg (aT p0),pS p1,pS p2] (pB r):=by
 unfold im at h
 refine bv ?_
 refine fh Tryz.func251 rfl Tryz.ntmps251 Tryz.results251 rfl (aa (aj rfl (bu (cs:=(aT p0)) rfl rfl (fun b1=>aj rfl (bu (cs:=[pS p2]) rfl rfl (fun b2=>bo [6] (by kernel_rfl) (dn (cC (ρd:=[]) [(0,0),(1,0),(2,0),(3,0),(4,0),(5,1)] _ (List.Perm.refl _) (by kernel_rfl) rfl (ae h fun s3 hs3 h=>ae h fun x4 hx4 h=>cP 6 [0,1] (rg 7 5) [(12,pB x4)] (foss 4 hs3 (bR 5 (iB hx4) bN)) (by kernel_rfl) (da (cG rfl h (fun hc5 h=>?_) fun hc5 h=>?_)))))))))))
 ·refine af ?_
  refine fY [(6,pB true)] (by kernel_rfl) (am ?_)
  exact zz r h rfl
 refine ai ?_
 refine bP (aa (co 2 [1] [13] [(14,pL eS p0.Except)] (by kernel_rfl) ?_))
 refine qr 5 rfl (by exact aB) ?_
 refine ae h fun x7 hx7 h=>gE [] [15,16] [(6,pB x7)] (bR 1 (i4 (fun hr=>sc (rc hr)) hx7) bN) (by kernel_rfl) (eD ?_)
 exact zz r h rfl
def gp (p0:Zo) (p1:Zo):Option Int:=cond ((decide (p0.Hi<p1.Hi))||((p0.Hi == p1.Hi)&&(decide (p0.Lo<p1.Lo)))) (some (-1)) (cond (Zo.eqb p0 p1) (some (0:Int)) (some (1:Int)))
theorem pV {p0:Zo} {p1:Zo} {r:Int}  (h:gp p0 p1=some r):PF 255 [.agg [pU p0.Hi,pU p0.Lo],.agg [pU p1.Hi,pU p1.Lo]] (pI r):=by
 unfold gp at h
 refine bv ?_
 refine fh Tryz.func255 rfl Tryz.ntmps255 Tryz.results255 rfl (aa (aj rfl (bu (cs:=[pU p0.Hi,pU p0.Lo]) rfl rfl (fun b1=>aj rfl (bu (cs:=[pU p1.Hi,pU p1.Lo]) rfl rfl (fun b2=>bo [4] (by kernel_rfl) (bP (iM (bj [1,0,1,0,1,0] (rg 6 19) [(5,pB ((decide (p0.Hi<p1.Hi))||((p0.Hi == p1.Hi)&&(decide (p0.Lo<p1.Lo)))))] (by kernel_rfl) (cG rfl h (fun hc3 h=>?_) fun hc3 h=>?_))))))))))
 ·refine af ?_
  refine fY [(4,pI (-1))] (by kernel_rfl) (ja ?_)
  exact zz r h rfl
 refine af ?_
 refine av [1,0] [26,27,28] [(25,pB (Zo.eqb p0 p1))] (foeq 2 Zo.eqok233 bN) (by kernel_rfl) (cG rfl h (fun hc4 h=>?_) fun hc4 h=>?_)
 ·refine af ?_
  refine fY [(4,pI 0)] (by kernel_rfl) (ja ?_)
  exact zz r h rfl
 refine ai ?_
 refine aG (bP (fY [(4,pI 1)] (by kernel_rfl) ?_))
 exact zz r h rfl
def jF (p0:Int) (p1:Int) (p2:Int):Option Bool:=(jC (IntKind.u64.wrap p0) 1000000).bind fun x1=>(jC (IntKind.u64.wrap p1) (IntKind.u64.wrap p2)).bind fun x3=>(gp x1 x3).bind fun x5=>some (decide (x5≤0))
theorem pW {p0:Int} {p1:Int} {p2:Int} {r:Bool}  (h:jF p0 p1 p2=some r):PF 252 [pI p0,pI p1,pI p2] (pB r):=by
 unfold jF at h
 refine bv ?_
 refine fh Tryz.func252 rfl Tryz.ntmps252 Tryz.results252 rfl (bd [6] (by kernel_rfl) (dD h fun x1 hx1 h=>aa (bg 3 [] [9,10] [(11,.agg [pU x1.Hi,pU x1.Lo])] (bR 2 (oD hx1) bN) (by kernel_rfl) (aj rfl (aU (cs:=[pU 0,pU 0]) rfl rfl rfl rfl (fun b2=>aW rfl rfl (an (vs:=[pU x1.Hi,pU x1.Lo]) rfl rfl rfl rfl rfl cR AU (aq (dD h fun x3 hx3 h=>aa (bg 5 [] [12,13,14,15] [(16,.agg [pU x3.Hi,pU x3.Lo])] (bR 4 (oD hx3) bN) (by kernel_rfl) (aj rfl (aU (cs:=[pU 0,pU 0]) rfl rfl rfl rfl (fun b4=>aW rfl rfl (an (vs:=[pU x3.Hi,pU x3.Lo]) rfl rfl rfl rfl rfl cR AU (aq (dD h fun x5 hx5 h=>av [1,0] [17,18,19,20] [(6,pB (decide (x5≤0)))] (bR 2 (pV hx5) bN) (by kernel_rfl) (eD ?_)))))))))))))))))
 exact zz r h rfl
def rule_holds (p0:Ze) (p1:Zl):Option Bool:=(aN (S:=Int×Int×Int×Int) (T:=(Int×Int×Int)) (fun (v3,v4,v5,v6)=>cond (decide (v6<(p1.Inputs.length:Int))) (((idx p1.Inputs v6).bind fun m17=>cond m17.Originating (some (v3,v4,v5)) ((gd (p0.Kind == 2) (im p0 p1.Code m17.Code)).bind fun x20=>cond ((p0.Kind == 2)&&x20) (some ((IntKind.i64.wrap (v3+m17.Value)),(IntKind.i64.wrap (v4+m17.Value)),(IntKind.i64.wrap (v5+1)))) (some ((IntKind.i64.wrap (v3+m17.Value)),v4,(IntKind.i64.wrap (v5+1)))))).bind fun (v13,v14,v15)=>some (.inl (v13,v14,v15,(IntKind.i64.wrap (v6+1))))) (some (.inr (v3,v4,v5)))) FUEL (0,0,0,0)).bind fun (v7,v8,v9)=>cond (p0.Kind == 1) (some (p1.Obtained&&(v9 == 0))) (cond (p0.Kind == 2) ((jF v8 p0.Tolerance p1.Price).bind fun x24=>some x24) (cond (p0.Kind == 3) ((jF v7 p0.Limit p1.Price).bind fun x26=>some x26) (cond (p0.Kind == 4) ((bJ p1.Processes p0.Name).bind fun x28=>some x28) (some false))))
theorem qO {p0:Ze} {p1:Zl} {r:Bool}  (h:rule_holds p0 p1=some r):PF 250 [.agg (aT p0),.agg (bL p1)] (pB r):=by
 unfold rule_holds at h
 refine bv ?_
 refine fh Tryz.func250 rfl Tryz.ntmps250 Tryz.results250 rfl (aa (aj rfl (bu (cs:=(aT p0)) rfl rfl (fun b1=>aj rfl (bu (cs:=(bL p1)) rfl rfl (fun b2=>bo [4] (by kernel_rfl) (bP (al [(5,pI 0),(6,pI 0),(7,pI 0)] (by kernel_rfl) (dn (bj [0] [10] [(11,pL Zm.enc p1.Inputs),(12,pI (p1.Inputs.length:Int)),(13,pI 0)] (by kernel_rfl) (jB h fun q11 hq11 h=>?_)))))))))))
 refine az (Y:=Unit×(Int×Int×Int)) (fun (_,(v7,v8,v9))=>[(2,pP b1 0),(3,pP b2 0),(5,pI v7),(6,pI v8),(7,pI v9)]) (fun (_,(v7,v8,v9))=>[PRes.b b1 84 (aT p0),PRes.b b2 36 (bL p1)]) (fun (_,(v7,v8,v9))=>q11=(v7,v8,v9)) ?_ ?_
 ·refine aJ ?_
  refine aP (Y:=Unit) (S:=Int×Int×Int×Int) _ hq11 (fun _ (v3,v4,v5,v6)=>[(2,pP b1 0),(3,pP b2 0),(5,pI v3),(6,pI v4),(7,pI v5),(11,pL Zm.enc p1.Inputs),(12,pI (p1.Inputs.length:Int)),(13,pI v6)]) (fun _ (v3,v4,v5,v6)=>[PRes.b b1 84 (aT p0),PRes.b b2 36 (bL p1)]) () (qW rfl) (be (ak aB) dC) ?_
  rintro _ ⟨v3,v4,v5,v6⟩ o τ hb10;(try dsimp only at hb10);dsimp only [aF]
  refine af (al [(14,pB (decide (v6<(p1.Inputs.length:Int))))] (by kernel_rfl) (bP (jX rfl hb10 (fun hc12 hb10=>?_) fun hc12 hb10=>?_)))
  ·refine ai ?_
   refine dD hb10 fun q16 hq16 hb10=>?_
   refine az (Y:=Unit×(Int×Int×Int)) (fun (_,(v13,v14,v15))=>[(2,pP b1 0),(3,pP b2 0),(5,pI v13),(6,pI v14),(7,pI v15),(11,pL Zm.enc p1.Inputs),(12,pI (p1.Inputs.length:Int)),(13,pI v6)]) (fun (_,(v13,v14,v15))=>[PRes.b b1 84 (aT p0),PRes.b b2 36 (bL p1)]) (fun (_,(v13,v14,v15))=>q16=(v13,v14,v15)) ?_ ?_
   ·skip
    refine iM (ae hq16 fun m17 hm17 hq16=>aa (bg 2 [] [15] [(16,.agg [pS m17.Code,pI m17.Value,pB m17.Originating])] (eO 0 Zm.enc hm17 bN) (by kernel_rfl) (aj rfl (aU (cs:=[pS ByteArray.empty,pI 0,pB false]) rfl rfl rfl rfl (fun b18=>aW rfl rfl (an (vs:=[pS m17.Code,pI m17.Value,pB m17.Originating]) rfl rfl rfl rfl rfl cR zl3 (aq (dn (bj [0] [17] [(18,pB m17.Originating)] (by kernel_rfl) (cG rfl hq16 (fun hc19 hq16=>?_) fun hc19 hq16=>?_))))))))))
    ·refine aV ?_
     refine aw (au rfl ?_)
     obtain rfl:=osi hq16
     exact aH ((),(v3,v4,v5)) (qW rfl) (be (ak aB) (be (ak aB) cd)) rfl
    refine ai ?_
    refine bP (ah [19,20] [(7,pI (IntKind.i64.wrap (v5+1)))] (by kernel_rfl) (bP (bj [0] [21,22,23,24] [(5,pI (IntKind.i64.wrap (v3+m17.Value)))] (by kernel_rfl) (dD hq16 fun x20 hx20 hq16=>av [1,1,2,0] (rg 25 10) [(35,pB ((p0.Kind == 2)&&x20))] (iW 9 (fun hc=>sA (gS hx20 hc)) bN) (by kernel_rfl) (cG rfl hq16 (fun hc21 hq16=>?_) fun hc21 hq16=>?_)))))
    ·refine bj [0] [36,37,38,39] [(6,pI (IntKind.i64.wrap (v4+m17.Value)))] (by kernel_rfl) ?_
     refine aG ?_
     obtain rfl:=osi hq16
     exact aH ((),((IntKind.i64.wrap (v3+m17.Value)),(IntKind.i64.wrap (v4+m17.Value)),(IntKind.i64.wrap (v5+1)))) (qW rfl) (be (ak aB) (be (ak aB) cd)) rfl
    refine ai ?_
    refine aG ?_
    obtain rfl:=osi hq16
    exact aH ((),((IntKind.i64.wrap (v3+m17.Value)),v4,(IntKind.i64.wrap (v5+1)))) (qW rfl) (be (ak aB) (be (ak aB) cd)) rfl
   rintro ⟨_,⟨v13,v14,v15⟩⟩ τ hz;(try dsimp only at hz);subst q16;(try dsimp only at hb10);dsimp only [aF]
   refine ah [40] [(13,pI (IntKind.i64.wrap (v6+1)))] (by kernel_rfl) ?_
   exact bh hb10 () (qW rfl) sY
  refine aV ?_
  refine aw (ap hb10 (fun ht=>au rfl ?_))
  exact aH ((),(v3,v4,v5)) (nG rfl) sY ht.symm
 rintro ⟨_,⟨v7,v8,v9⟩⟩ τ hz;(try dsimp only at hz);subst q11;(try dsimp only at h);dsimp only [aF]
 refine af (af (bj [0] [41] [(42,pI p0.Kind)] (by kernel_rfl) (aM (iM (ah [44] [(43,pB (p0.Kind == 1))] (by kernel_rfl) (cG rfl h (fun hc22 h=>?_) fun hc22 h=>?_))))))
 ·refine af ?_
  refine bj [1] (rg 45 6) [(4,pB (p1.Obtained&&(v9 == 0)))] (by kernel_rfl) (eD (ja ?_))
  exact zz r h rfl
 refine af ?_
 refine ah [52] [(51,pB (p0.Kind == 2))] (by kernel_rfl) (cG rfl h (fun hc23 h=>?_) fun hc23 h=>?_)
 ·refine af ?_
  refine ae h fun x24 hx24 h=>av [0,1] (rg 53 6) [(4,pB x24)] (bR 5 (pW hx24) bN) (by kernel_rfl) (eD (ja ?_))
  exact zz r h rfl
 refine af ?_
 refine ah [60] [(59,pB (p0.Kind == 3))] (by kernel_rfl) (cG rfl h (fun hc25 h=>?_) fun hc25 h=>?_)
 ·refine af ?_
  refine ae h fun x26 hx26 h=>av [0,1] (rg 61 6) [(4,pB x26)] (bR 5 (pW hx26) bN) (by kernel_rfl) (eD (ja ?_))
  exact zz r h rfl
 refine af ?_
 refine ah [68] [(67,pB (p0.Kind == 4))] (by kernel_rfl) (cG rfl h (fun hc27 h=>?_) fun hc27 h=>?_)
 ·refine af ?_
  refine ae h fun x28 hx28 h=>av [1,0] (rg 69 5) [(4,pB x28)] (bR 4 (cU hx28) bN) (by kernel_rfl) (eD (ja ?_))
  exact zz r h rfl
 refine ai ?_
 refine aG (bP (fY [(4,pB false)] (by kernel_rfl) ?_))
 exact zz r h rfl
def fK (p0:Zr) (p1:Zl) (p2:(List Int)):Option ((List Int)×Bool):=(rule_holds p0.rule p1).bind fun x3=>some (p2,x3)
theorem pm {p0:Zr} {p1:Zl} {p2:(List Int)} {r:((List Int)×Bool)}  (h:fK p0 p1 p2=some r):PF 248 [.agg (aT p0.rule),.agg (bL p1),pL eI p2] (.tup [pL eI r.1,pB r.2]):=by
 unfold fK at h
 refine bv ?_
 refine fh Tryz.func248 rfl Tryz.ntmps248 Tryz.results248 rfl (aa (aj rfl (bu (cs:=(aT p0.rule)) rfl rfl (fun b1=>aj rfl (bu (cs:=(bL p1)) rfl rfl (fun b2=>bo [6,7] (by kernel_rfl) (dD h fun x3 hx3 h=>av [1,0] (rg 8 5) [(6,pL eI p2),(7,pB x3)] (bR 4 (qO hx3) bN) (by kernel_rfl) (eD ?_))))))))
 obtain rfl:=osi h
 exact aK (di (aL rfl) (aL rfl)) cd ⟨rfl,rfl⟩
def Irule_test_follow_B (rec:Zg→Zl→(List Int)→Option ((List Int)×Bool)) (x:Zg) (y0:Zl) (y1:(List Int)):Option ((List Int)×Bool):=match x with | .single_ a=>fK a y0 y1 | .every_ a=>fk rec a y0 y1 | .some_ a=>fJ rec a y0 y1
theorem Irule_test_follow_B_ok {rec:Zg→Zl→(List Int)→Option ((List Int)×Bool)} (hrec:∀ {x:Zg} {y0:Zl} {y1:(List Int)} {w:((List Int)×Bool)},rec x y0 y1=some w→PFI x.pv "customs/rule.follow" [.agg (bL y0),pL eI y1] (.tup [pL eI w.1,pB w.2])) {x:Zg} {y0:Zl} {y1:(List Int)} {w:((List Int)×Bool)} (h:Irule_test_follow_B rec x y0 y1=some w):PFI x.pv "customs/rule.follow" [.agg (bL y0),pL eI y1] (.tup [pL eI w.1,pB w.2]):=by
 cases x with
 | single_ a=>rw [Zg.pv_single_];exact pz ⟨fun _ _=>by kernel_rfl⟩ (pm h)
 | every_ a=>rw [Zg.pv_every_];exact pz ⟨fun _ _=>by kernel_rfl⟩ (oM hrec h)
 | some_ a=>rw [Zg.pv_some_];exact pz ⟨fun _ _=>by kernel_rfl⟩ (pj hrec h)
def Irule_test_follow_F (n:Nat):Zg→Zl→(List Int)→Option ((List Int)×Bool):=Nat.rec (motive:=fun _=>Zg→Zl→(List Int)→Option ((List Int)×Bool)) (fun _ _ _=>none) (fun _ ih=>Irule_test_follow_B ih) n
def Irule_test_follow (x:Zg) (y0:Zl) (y1:(List Int)):Option ((List Int)×Bool):=Irule_test_follow_F FUEL x y0 y1
theorem Irule_test_follow_Fok (n:Nat):∀ {x:Zg} {y0:Zl} {y1:(List Int)} {w:((List Int)×Bool)},Irule_test_follow_F n x y0 y1=some w→PFI x.pv "customs/rule.follow" [.agg (bL y0),pL eI y1] (.tup [pL eI w.1,pB w.2]):=by
 induction n with
 | zero=>intros;rename_i h;exact nomatch h
 | succ n ih=>intros;rename_i h;exact Irule_test_follow_B_ok (fun hr=>ih hr) h
theorem Irule_test_follow_ok {x:Zg} {y0:Zl} {y1:(List Int)} {w:((List Int)×Bool)} (h:Irule_test_follow x y0 y1=some w):PFI x.pv "customs/rule.follow" [.agg (bL y0),pL eI y1] (.tup [pL eI w.1,pB w.2]):=Irule_test_follow_Fok FUEL h
def fP (p0:Zs) (p1:Za):Option (List (Za×Bool)):=some (nO p0.claims p1 true)
theorem nA {p0:Zs} {p1:Za} {m0_claims:Nat} {r:(List (Za×Bool))}  (h:fP p0 p1=some r):PCall 74 [.agg [.v (.map (some m0_claims))],.agg [pI p1.Product,pI p1.Agreement]] [PRes.mp (some m0_claims) (e7 Za.key vT p0.claims)] (fun pv ρ'=>pv=.tup []∧ρ'=[PRes.mp (some m0_claims) (e7 Za.key vT r)]):=by
 unfold fP at h
 refine fh Tryz.func74 rfl Tryz.ntmps74 Tryz.results74 rfl (aa (aj rfl (bu (cs:=[.v (.map (some m0_claims))]) rfl rfl (fun b1=>aj rfl (bu (cs:=[pI p1.Product,pI p1.Agreement]) rfl rfl (fun b2=>aq (aM (aa (co 3 [1,0] [4] [(5,.v (.map (some m0_claims))),(6,.agg [pI p1.Product,pI p1.Agreement])] (by kernel_rfl) (aW rfl rfl (lQ (xs:=p0.claims) (k:=p1) (ek:=Za.key) (vv:=vT) (v:=true) rfl rfl Za.kenc28 rfl rfl pC rfl (dh (dh cR)) (aq ?_))))))))))))
 obtain rfl:=osi h
 exact Er (rfl:PRV [] _ _ (.tup [])) (be (ak (ak aB)) cd) ⟨rfl,rfl⟩
def mL (rec:Ze→Zl→(List Int)→Option ((List Int)×Bool)) (p0:Ze) (p1:Zl) (p2:(List Int)):Option ((List Int)×Bool):=cond (p0.Kind == 5) ((aN (S:=(List Int)×Int) (T:=((List Int))⊕(_)) (fun (l4,v5)=>cond (decide (v5<(p0.Args.length:Int))) ((idx p0.Args v5).bind fun m10=>(rec m10 p1 l4).bind fun x11=>cond (!x11.2) (some (.inr (.inr ([],false)))) (some (.inl (x11.1,(IntKind.i64.wrap (v5+1)))))) (some (.inr (.inl l4)))) FUEL (p2,0)).bind fun q=>match q with | .inl l6=>some (l6,true) | .inr e=>some e) (cond (p0.Kind == 6) ((gd (!((p2.length:Int) == 0)) (idx p2 0)).bind fun m14=>(gd (!(((p2.length:Int) == 0)||(decide (m14<0)))) (idx p2 0)).bind fun m15=>cond ((((p2.length:Int) == 0)||(decide (m14<0)))||(decide ((p0.Args.length:Int)≤m15))) (some ([],false)) ((idx p2 0).bind fun m17=>(idx p0.Args m17).bind fun m18=>(sub p2 1 (p2.length:Int)).bind fun l19=>(rec m18 p1 l19).bind fun x20=>some (x20.1,x20.2))) ((pM p0 p1).bind fun x21=>some (p2,x21)))
def iH (n:Nat):Ze→Zl→(List Int)→Option ((List Int)×Bool):=Nat.rec (motive:=fun _=>Ze→Zl→(List Int)→Option ((List Int)×Bool)) (fun _ _ _=>none) (fun _ ih=>mL ih) n
def xR (p0:Ze) (p1:Zl) (p2:(List Int)):Option ((List Int)×Bool):=iH FUEL p0 p1 p2
def lX (p0:Ze) (p1:Zl) (p2:(List Int)):Option Bool:=(xR p0 p1 p2).bind fun x3=>some (x3.2&&((x3.1.length:Int) == 0))
def na (p0:(List Zc)) (p1:(List Zb)) (p2:ByteArray) (p3:(List Zf)):Option (Int×Int):=(ll p0 p1 p2).bind fun x1=>cond (x1.2 != 0) (some ((0:Int),x1.2)) ((aN (S:=(List Za)×Int) (T:=((List Zf))⊕(_)) (fun (l3,v4)=>cond (decide (v4<(p3.length:Int))) ((idx p3 v4).bind fun m9=>(dL p0 p1 p2 m9.Claim).bind fun x11=>(gd (!(!x11)) (dc l3 m9.Claim)).bind fun x12=>cond ((!x11)||x12) (some (.inr (.inr (v4,(10:Int))))) ((aN (S:=Int) (T:=(Unit)⊕(_)) (fun v14=>cond (decide (v14<(m9.Premises.length:Int))) ((idx m9.Premises v14).bind fun m18=>(dc l3 m18).bind fun x19=>cond (!x19) (some (.inr (.inr (.inr (.inr (v4,(10:Int))))))) (some (.inl (IntKind.i64.wrap (v14+1))))) (some (.inr (.inl ())))) FUEL 0).bind fun q=>match q with | .inl _=>(hQ p0 p1 p2 m9.Claim m9.Premises).bind (fun x21=>(fH p0 m9.Claim.Product).bind fun x23=>(fj p1 m9.Claim.Agreement).bind fun x25=>(gm x25.1 x23.1.Code).bind fun x27=>(iR x21.2 m9.Premises).bind fun x29=>(gd (!(!x29)) (lX x27.1 x21.1 m9.Path)).bind fun x30=>cond ((!x29)||(!x30)) (some (.inr (.inr (v4,(10:Int))))) ((fI l3 m9.Claim).bind fun x32=>some (.inl (x32,(IntKind.i64.wrap (v4+1)))))) | .inr e=>some e)) (some (.inr (.inl p3)))) FUEL ([],0)).bind fun q=>match q with | .inl l5=>some ((l5.length:Int),(0:Int)) | .inr e=>some e)
def eX (rec:Zg→Zl→Option ((List Int)×Bool)) (p0:(List Zg)) (p1:Zl):Option ((List Int)×Bool):=(aN (S:=(List Int)×Int) (T:=((List Int))⊕(_)) (fun (l3,v6)=>cond (decide (v6<(p0.length:Int))) ((idx p0 v6).bind fun m15=>(rec m15 p1).bind fun x16=>cond (!x16.2) (some (.inr (.inr ([],false)))) ((app 8 l3 x16.1).bind fun l18=>some (.inl (l18,(IntKind.i64.wrap (v6+1)))))) (some (.inr (.inl l3)))) FUEL (([]:List Int),0)).bind fun q=>match q with | .inl l10=>some (l10,true) | .inr e=>some e
theorem nV {rec:Zg→Zl→Option ((List Int)×Bool)} (hrec:∀ {x:Zg} {y0:Zl} {w:((List Int)×Bool)},rec x y0=some w→PFI x.pv "customs/rule.witness" [.agg (bL y0)] (.tup [pL eI w.1,pB w.2])) {p0:(List Zg)} {p1:Zl} {r:((List Int)×Bool)} (h:eX rec p0 p1=some r):PF 243 [pL Zg.enc p0,.agg (bL p1)] (.tup [pL eI r.1,pB r.2]):=by
 unfold eX at h
 refine bv ?_
 refine fh Tryz.func243 rfl Tryz.ntmps243 Tryz.results243 rfl (aa (aj rfl (bu (cs:=(bL p1)) rfl rfl (fun b1=>bo [4,5] (by kernel_rfl) (bP (al [(6,pN)] (by kernel_rfl) (dn (al [(11,pL Zg.enc p0),(12,pI (p0.length:Int)),(13,pI 0)] (by kernel_rfl) (aM (ca 3 1 (ae h fun q12 hq12 h=>?_)))))))))))
 refine az (Y:=(Option Addr×Nat)×((List Int))) (fun ((a8,c9),l10)=>[(6,pO a8 l10.length c9)]) (fun ((a8,c9),l10)=>[PRes.row a8 l10.length c9 3 1 (List.map eI l10)]) (fun ((a8,c9),l10)=>q12=Sum.inl l10) ?_ ?_
 ·refine aJ ?_
  refine aP (Y:=Option Addr×Nat) (S:=(List Int)×Int) _ hq12 (fun (a4,c5) (l3,v6)=>[(3,pP b1 0),(6,pO a4 l3.length c5),(11,pL Zg.enc p0),(12,pI (p0.length:Int)),(13,pI v6)]) (fun (a4,c5) (l3,v6)=>[PRes.b b1 36 (bL p1),PRes.row a4 l3.length c5 3 1 (List.map eI l3)]) (none,0) (nG rfl) (be (ak aB) dC) ?_
  rintro ⟨a4,c5⟩ ⟨l3,v6⟩ o τ hb11;(try dsimp only at hb11);dsimp only [aF]
  refine af (al [(14,pB (decide (v6<(p0.length:Int))))] (by kernel_rfl) (bP (jX rfl hb11 (fun hc14 hb11=>?_) fun hc14 hb11=>?_)))
  ·refine ai ?_
   refine bP (iM (ae hb11 fun m15 hm15 hb11=>av [] [15,16] [(8,Zg.pv m15)] (eO 0 Zg.enc hm15 bN) (by kernel_rfl) (dD hb11 fun x16 hx16 hb11=>av [0] [18,19,20,17,21,22] [(9,pL eI x16.1),(10,pB x16.2)] (C4 2 (hrec hx16) bN) (by kernel_rfl) (dn (ah [23] [(24,pB (!x16.2))] (by kernel_rfl) (cG rfl hb11 (fun hc17 hb11=>?_) fun hc17 hb11=>?_))))))
   ·refine af ?_
    refine al [(4,pN),(5,pB false)] (by kernel_rfl) (aM (iO 4 rfl (bV (am (ja ?_)))))
    refine aX hb11 (fun ht=>?_);subst ht
    refine aC (aY ?_)
    obtain rfl:=osi h
    exact aK (di (aL rfl) (aL rfl)) cd ⟨rfl,rfl⟩
   refine ai ?_
   refine jB hb11 fun l18 hl18 hb11=>aa (ar 2 [(25,pO a4 l3.length c5),(26,pL eI x16.1)] (by kernel_rfl) ?_)
   refine aj rfl (kW (enc:=eI) rfl rfl rfl rfl rfl (fun _=>rfl) rfl rfl rfl (by exact ak aB) hl18 (fun a19 c20=>?_))
   refine aQ [(6,pO a19 l18.length c20)] (by kernel_rfl) (gC (ah [28] [(13,pI (IntKind.i64.wrap (v6+1)))] (by kernel_rfl) ?_))
   exact bh hb11 (a19,c20) (nG rfl) (be (ak aB) dC)
  refine aV ?_
  refine aw (ap hb11 (fun ht=>au rfl ?_))
  exact aH ((a4,c5),l3) (xF rfl) (be (ak aB) cd) ht.symm
 rintro ⟨⟨a8,c9⟩,l10⟩ τ hz;(try dsimp only at hz);subst q12;(try dsimp only at h);dsimp only [aF]
 refine af (ah [29] [(4,pO a8 l10.length c9),(5,pB true)] (by kernel_rfl) (aM ?_))
 refine fB (enc:=eI) (xs:=l10) 4 rfl (by exact aB) ?_
 refine bV ?_
 obtain rfl:=osi h
 exact aK (di (aL rfl) (aL rfl)) cd ⟨rfl,rfl⟩
def gF (p1:Int):Option (List Int):=(Dc 8 p1).bind fun _=>some []
theorem oN {p1:Int} {r:(List Int)} (h:gF p1=some r):PCall 247 [.v (.slice none 0 0),pI p1] [] (fun pv ρ'=>∃ a c,pv=.v (.slice a r.length c)∧ρ'=[PRes.row a r.length c 3 1 (List.map eI r)]):=by
 unfold gF at h
 obtain ⟨u,hu,h⟩:=Option.bind_eq_some_iff.1 h
 obtain rfl:=osi h
 obtain ⟨hg0,hg1⟩:=Fd hu
 have ew:IntKind.i64.wrap (p1 - IntKind.i64.wrap (((0:Nat):Int) - ((0:Nat):Int)))=p1:=wI hg0 hg1
 refine jl Tryz.func247 rfl Tryz.ntmps247 Tryz.results247 rfl ?_
 (repeat refine af ?_)
 refine bd [4] (by kernel_rfl) (aM ?_)
 (repeat refine af ?_)
 refine ah [5] [(6,pB (decide (p1<0)))] (by kernel_rfl) (aM ?_)
 refine gI rfl (fun hc=>absurd (of_decide_eq_true hc) (by omega)) (fun hc=>?_)
 refine ai (aM ?_)
 (repeat refine af ?_)
 refine aa (ar 2 [(8,pI p1),(9,.v (.slice none 0 0))] (by kernel_rfl) (bz rfl rfl rfl (t8 rfl rfl (.p rfl)) (gf [11,12,13,14] [(1,pI (IntKind.i64.wrap (p1 - IntKind.i64.wrap (((0:Nat):Int) - ((0:Nat):Int)))))] (by kernel_rfl) ?_)))
 rw [ew]
 refine aM ?_
 (repeat refine af ?_)
 refine ah [15] [(16,pB (decide (0<p1)))] (by kernel_rfl) (aM ?_)
 refine gI rfl (fun hc=>?_) (fun hc=>?_)
 ·refine aa ?_
  refine ar 2 [(17,.v (.slice none 0 0)),(18,.v (.slice none 0 0))] (by kernel_rfl) (bz rfl rfl rfl (t8 rfl rfl (.p rfl)) (bz rfl rfl rfl (qz rfl rfl rfl (.p rfl) (.p rfl) rfl (Nat.zero_le _)) (ar 1 [(21,pI p1)] (by kernel_rfl) (uy 3 1 ?_))))
  refine aj rfl (zy rfl rfl rfl rfl rfl rfl rfl rfl (of_decide_eq_true hc) hu (by exact aB) (fun a c hac=>?_))
  refine ar 2 [(23,.v (.slice none 0 0)),(24,pI 0)] (by kernel_rfl) (bz rfl rfl rfl (qz (k:=0) rfl rfl rfl (.p rfl) (.p rfl) rfl (Nat.zero_le _)) (aQ [(0,.v (.slice a 0 c))] (by kernel_rfl) (aM ?_)))
  (repeat refine af ?_)
  refine ah [26] [(4,.v (.slice a 0 c))] (by kernel_rfl) (eD ?_)
  exact aK (cN (aL rfl)) dC ⟨_,_,rfl,rfl⟩
 refine ai ?_
 refine aM ?_
 (repeat refine af ?_)
 refine ah [26] [(4,.v (.slice none 0 0))] (by kernel_rfl) (aM (ca 3 1 (bV ?_)))
 exact aK (cN (aL rfl)) dC ⟨_,_,rfl,rfl⟩
def dx (p0:(List (List Int))):Option (List Int):=(aN (S:=Int×Int) (T:=(Int)) (fun (v1,v2)=>cond (decide (v2<(p0.length:Int))) ((idx p0 v2).bind fun m7=>cond (decide ((IntKind.i64.wrap (v1+(m7.length:Int)))<0)) (none) (some (.inl ((IntKind.i64.wrap (v1+(m7.length:Int))),(IntKind.i64.wrap (v2+1)))))) (some (.inr v1))) FUEL (0,0)).bind fun v3=>(gF v3).bind fun x9=>(aN (S:=(List Int)×Int) (T:=((List Int))) (fun (l14,v17)=>cond (decide (v17<(p0.length:Int))) ((idx p0 v17).bind fun m25=>(app 8 l14 m25).bind fun l26=>some (.inl (l26,(IntKind.i64.wrap (v17+1))))) (some (.inr l14))) FUEL (x9,0)).bind fun l21=>some l21
theorem nB {p0:(List (List Int))} {r:(List Int)}  (h:dx p0=some r):PCall 246 [pL (eL eI) p0] [] (fun pv ρ'=>∃ a c,pv=.v (.slice a r.length c)∧ρ'=[PRes.row a r.length c 3 1 (List.map eI r)]):=by
 unfold dx at h
 refine fh Tryz.func246 rfl Tryz.ntmps246 Tryz.results246 rfl (bd [2] (by kernel_rfl) (bP (al [(3,pI 0)] (by kernel_rfl) (dn (al [(9,pL (eL eI) p0),(10,pI (p0.length:Int)),(11,pI 0)] (by kernel_rfl) (jB h fun q5 hq5 h=>?_))))))
 refine az (Y:=Unit×Int) (fun (_,v3)=>[(0,pL (eL eI) p0),(3,pI v3)]) (fun (_,v3)=>[]) (fun (_,v3)=>q5=v3) ?_ ?_
 ·refine aJ ?_
  refine aP (Y:=Unit) (S:=Int×Int) _ hq5 (fun _ (v1,v2)=>[(0,pL (eL eI) p0),(3,pI v1),(9,pL (eL eI) p0),(10,pI (p0.length:Int)),(11,pI v2)]) (fun _ (v1,v2)=>[]) () (nG rfl) cd ?_
  rintro _ ⟨v1,v2⟩ o τ hb4;(try dsimp only at hb4);dsimp only [aF]
  refine af (al [(12,pB (decide (v2<(p0.length:Int))))] (by kernel_rfl) (bP (jX rfl hb4 (fun hc6 hb4=>?_) fun hc6 hb4=>?_)))
  ·refine ai ?_
   refine bP (iM (ae hb4 fun m7 hm7 hb4=>av [] [13,14] [(5,pL eI m7)] (eO 0 (eL eI) hm7 bN) (by kernel_rfl) (bP (ah [15,16,17,18] [(3,pI (IntKind.i64.wrap (v1+(m7.length:Int))))] (by kernel_rfl) (bP (ah [19] [(20,pB (decide ((IntKind.i64.wrap (v1+(m7.length:Int)))<0)))] (by kernel_rfl) (cG rfl hb4 (fun hc8 hb4=>?_) fun hc8 hb4=>?_)))))))
   ·refine aa ?_
    exact absurd hb4 (by simp)
   refine ai ?_
   refine gC (ah [22] [(11,pI (IntKind.i64.wrap (v2+1)))] (by kernel_rfl) ?_)
   exact bh hb4 () (nG rfl) cd
  refine aV ?_
  refine aw (ap hb4 (fun ht=>au rfl ?_))
  exact aH ((),v1) (sX rfl) cd ht.symm
 rintro ⟨_,v3⟩ τ hz;(try dsimp only at hz);subst q5;(try dsimp only at h);dsimp only [aF]
 refine af (ae h fun x9 hx9 h=>aa (ar 1 [(23,pI v3)] (by kernel_rfl) ?_))
 refine aj rfl (bc rfl rfl (ρ1:=[]) (List.Perm.refl _) (oN hx9) ?_);rintro _ _ ⟨a10,c11,rfl,rfl⟩
 refine aQ [(6,pO a10 x9.length c11)] (by kernel_rfl) (dn (al [(25,pL (eL eI) p0),(26,pI (p0.length:Int)),(27,pI 0)] (by kernel_rfl) (jB h fun q23 hq23 h=>?_)))
 refine az (Y:=(Option Addr×Nat)×((List Int))) (fun ((a19,c20),l21)=>[(6,pO a19 l21.length c20)]) (fun ((a19,c20),l21)=>[PRes.row a19 l21.length c20 3 1 (List.map eI l21)]) (fun ((a19,c20),l21)=>q23=l21) ?_ ?_
 ·refine aJ ?_
  refine aP (Y:=Option Addr×Nat) (S:=(List Int)×Int) _ hq23 (fun (a15,c16) (l14,v17)=>[(6,pO a15 l14.length c16),(25,pL (eL eI) p0),(26,pI (p0.length:Int)),(27,pI v17)]) (fun (a15,c16) (l14,v17)=>[PRes.row a15 l14.length c16 3 1 (List.map eI l14)]) (a10,c11) (kQ rfl) dC ?_
  rintro ⟨a15,c16⟩ ⟨l14,v17⟩ o τ hb22;(try dsimp only at hb22);dsimp only [aF]
  refine af (al [(28,pB (decide (v17<(p0.length:Int))))] (by kernel_rfl) (bP (jX rfl hb22 (fun hc24 hb22=>?_) fun hc24 hb22=>?_)))
  ·refine ai ?_
   refine bP (iM (ae hb22 fun m25 hm25 hb22=>av [] [29,30] [(8,pL eI m25)] (eO 0 (eL eI) hm25 bN) (by kernel_rfl) (jB hb22 fun l26 hl26 hb22=>aa (ar 2 [(31,pO a15 l14.length c16),(32,pL eI m25)] (by kernel_rfl) ?_))))
   refine aj rfl (kW (enc:=eI) rfl rfl rfl rfl rfl (fun _=>rfl) rfl rfl rfl (by exact aB) hl26 (fun a27 c28=>?_))
   refine aQ [(6,pO a27 l26.length c28)] (by kernel_rfl) (gC (ah [34] [(27,pI (IntKind.i64.wrap (v17+1)))] (by kernel_rfl) ?_))
   exact bh hb22 (a27,c28) (kQ rfl) dC
  refine aV ?_
  refine aw (ap hb22 (fun ht=>au rfl ?_))
  exact aH ((a15,c16),l14) (xF rfl) dC ht.symm
 rintro ⟨⟨a19,c20⟩,l21⟩ τ hz;(try dsimp only at hz);subst q23;(try dsimp only at h);dsimp only [aF]
 refine af (ah [35] [(2,pO a19 l21.length c20)] (by kernel_rfl) (eD ?_))
 obtain rfl:=osi h
 exact aK (cN (aL rfl)) dC ⟨_,_,rfl,rfl⟩
def fm (rec:Zg→Zl→Option ((List Int)×Bool)) (p0:(List Zg)) (p1:Zl):Option ((List Int)×Bool):=(aN (S:=Int) (T:=(Unit)⊕(_)) (fun v2=>cond (decide (v2<(p0.length:Int))) ((idx p0 v2).bind fun m6=>(rec m6 p1).bind fun x7=>cond x7.2 ((dx [[v2],x7.1]).bind fun x13=>some (.inr (.inr (x13,true)))) (some (.inl (IntKind.i64.wrap (v2+1))))) (some (.inr (.inl ())))) FUEL 0).bind fun q=>match q with | .inl _=>some ([],false) | .inr e=>some e
theorem oO {rec:Zg→Zl→Option ((List Int)×Bool)} (hrec:∀ {x:Zg} {y0:Zl} {w:((List Int)×Bool)},rec x y0=some w→PFI x.pv "customs/rule.witness" [.agg (bL y0)] (.tup [pL eI w.1,pB w.2])) {p0:(List Zg)} {p1:Zl} {r:((List Int)×Bool)} (h:fm rec p0 p1=some r):PF 245 [pL Zg.enc p0,.agg (bL p1)] (.tup [pL eI r.1,pB r.2]):=by
 unfold fm at h
 refine bv ?_
 refine fh Tryz.func245 rfl Tryz.ntmps245 Tryz.results245 rfl (aa (aj rfl (bu (cs:=(bL p1)) rfl rfl (fun b1=>bo [4,5] (by kernel_rfl) (dn (al [(10,pL Zg.enc p0),(11,pI (p0.length:Int)),(12,pI 0)] (by kernel_rfl) (jB h fun q4 hq4 h=>?_)))))))
 refine az (Y:=Unit×Unit) (fun (_,_)=>[]) (fun (_,_)=>[]) (fun (_,_)=>q4=Sum.inl ()) ?_ ?_
 ·refine aJ ?_
  refine aP (Y:=Unit) (S:=Int) _ hq4 (fun _ v2=>[(3,pP b1 0),(10,pL Zg.enc p0),(11,pI (p0.length:Int)),(12,pI v2)]) (fun _ v2=>[PRes.b b1 36 (bL p1)]) () (kQ rfl) dC ?_
  rintro _ v2 o τ hb3;(try dsimp only at hb3);dsimp only [aF]
  refine af (al [(13,pB (decide (v2<(p0.length:Int))))] (by kernel_rfl) (bP (jX rfl hb3 (fun hc5 hb3=>?_) fun hc5 hb3=>?_)))
  ·refine ai ?_
   refine bP (iM (ae hb3 fun m6 hm6 hb3=>av [] [14,15,16] [(6,pI v2),(7,Zg.pv m6)] (eO 1 Zg.enc hm6 bN) (by kernel_rfl) (dD hb3 fun x7 hx7 hb3=>av [0] [18,19,20,17,21,22] [(8,pL eI x7.1),(9,pB x7.2)] (C4 2 (hrec hx7) bN) (by kernel_rfl) (bP (al [(23,pB x7.2)] (by kernel_rfl) (cG rfl hb3 (fun hc8 hb3=>?_) fun hc8 hb3=>?_))))))
   ·refine af ?_
    refine aa (ar 1 [(24,pI v2)] (by kernel_rfl) (aj rfl (bI rfl rfl rfl rfl rfl (gw rfl jO) rfl rfl rfl rfl (fun b9=>ar 1 [(26,pL eI x7.1)] (by kernel_rfl) ?_))))
    refine fC (enc:=eI) (xs:=[v2]) 25 rfl (by exact aB) ?_
    refine aj rfl (bI rfl rfl rfl rfl rfl (gw rfl (gw rfl jO)) rfl rfl rfl rfl (fun b11=>?_))
    refine fC (enc:=(eL eI)) (xs:=[[v2],x7.1]) 27 rfl (by exact aB) ?_
    refine ae hb3 fun x13 hx13 hb3=>?_
    refine aj rfl (bc rfl rfl (ρ1:=[]) (List.Perm.refl _) (nB hx13) ?_);rintro _ _ ⟨a14,c15,rfl,rfl⟩
    refine aQ [(4,pO a14 x13.length c15),(5,pB true)] (by kernel_rfl) (aM ?_)
    refine fB (enc:=eI) (xs:=x13) 4 rfl (by exact aB) ?_
    refine bV (ja ?_)
    refine aX hb3 (fun ht=>?_);subst ht
    refine aC (aY ?_)
    obtain rfl:=osi h
    exact aK (di (aL rfl) (aL rfl)) cd ⟨rfl,rfl⟩
   refine ai ?_
   refine gC (ah [29] [(12,pI (IntKind.i64.wrap (v2+1)))] (by kernel_rfl) ?_)
   exact bh hb3 () (kQ rfl) dC
  refine aV ?_
  refine aw (ap hb3 (fun ht=>au rfl ?_))
  exact aH ((),()) rt cd ht.symm
 rintro ⟨_,_⟩ τ hz;(try dsimp only at hz);subst q4;(try dsimp only at h);dsimp only [aF]
 refine af (al [(4,pN),(5,pB false)] (by kernel_rfl) (aM (iO 4 rfl (bV ?_))))
 obtain rfl:=osi h
 exact aK (di (aL rfl) (aL rfl)) cd ⟨rfl,rfl⟩
def fp (p0:Zr) (p1:Zl):Option ((List Int)×Bool):=(rule_holds p0.rule p1).bind fun x3=>some ([],x3)
theorem oP {p0:Zr} {p1:Zl} {r:((List Int)×Bool)}  (h:fp p0 p1=some r):PF 249 [.agg (aT p0.rule),.agg (bL p1)] (.tup [pL eI r.1,pB r.2]):=by
 unfold fp at h
 refine bv ?_
 refine fh Tryz.func249 rfl Tryz.ntmps249 Tryz.results249 rfl (aa (aj rfl (bu (cs:=(aT p0.rule)) rfl rfl (fun b1=>aj rfl (bu (cs:=(bL p1)) rfl rfl (fun b2=>bo [4,5] (by kernel_rfl) (dD h fun x3 hx3 h=>av [1,0] [6,7,8,9] [(4,pN),(5,pB x3)] (bR 3 (qO hx3) bN) (by kernel_rfl) (aM (iO 4 rfl (bV ?_))))))))))
 obtain rfl:=osi h
 exact aK (di (aL rfl) (aL rfl)) cd ⟨rfl,rfl⟩
def Irule_test_witness_B (rec:Zg→Zl→Option ((List Int)×Bool)) (x:Zg) (y0:Zl):Option ((List Int)×Bool):=match x with | .single_ a=>fp a y0 | .every_ a=>eX rec a y0 | .some_ a=>fm rec a y0
theorem Irule_test_witness_B_ok {rec:Zg→Zl→Option ((List Int)×Bool)} (hrec:∀ {x:Zg} {y0:Zl} {w:((List Int)×Bool)},rec x y0=some w→PFI x.pv "customs/rule.witness" [.agg (bL y0)] (.tup [pL eI w.1,pB w.2])) {x:Zg} {y0:Zl} {w:((List Int)×Bool)} (h:Irule_test_witness_B rec x y0=some w):PFI x.pv "customs/rule.witness" [.agg (bL y0)] (.tup [pL eI w.1,pB w.2]):=by
 cases x with
 | single_ a=>rw [Zg.pv_single_];exact pz ⟨fun _ _=>by kernel_rfl⟩ (oP h)
 | every_ a=>rw [Zg.pv_every_];exact pz ⟨fun _ _=>by kernel_rfl⟩ (nV hrec h)
 | some_ a=>rw [Zg.pv_some_];exact pz ⟨fun _ _=>by kernel_rfl⟩ (oO hrec h)
def Irule_test_witness_F (n:Nat):Zg→Zl→Option ((List Int)×Bool):=Nat.rec (motive:=fun _=>Zg→Zl→Option ((List Int)×Bool)) (fun _ _=>none) (fun _ ih=>Irule_test_witness_B ih) n
def Irule_test_witness (x:Zg) (y0:Zl):Option ((List Int)×Bool):=Irule_test_witness_F FUEL x y0
theorem Irule_test_witness_Fok (n:Nat):∀ {x:Zg} {y0:Zl} {w:((List Int)×Bool)},Irule_test_witness_F n x y0=some w→PFI x.pv "customs/rule.witness" [.agg (bL y0)] (.tup [pL eI w.1,pB w.2]):=by
 induction n with
 | zero=>intros;rename_i h;exact nomatch h
 | succ n ih=>intros;rename_i h;exact Irule_test_witness_B_ok (fun hr=>ih hr) h
theorem Irule_test_witness_ok {x:Zg} {y0:Zl} {w:((List Int)×Bool)} (h:Irule_test_witness x y0=some w):PFI x.pv "customs/rule.witness" [.agg (bL y0)] (.tup [pL eI w.1,pB w.2]):=Irule_test_witness_Fok FUEL h
def eY (p0:(List Int)):Option (List Int):=app 8 ([]:List Int) p0
theorem nW {p0:(List Int)} {r:(List Int)} (h:eY p0=some r):PCall 82 [pL eI p0] [] (fun pv ρ'=>∃ a c,pv=.v (.slice a r.length c)∧ρ'=[PRes.row a r.length c 3 1 (List.map eI r)]):=by
 unfold eY at h
 refine jl Tryz.func82 rfl Tryz.ntmps82 Tryz.results82 rfl ?_
 (repeat refine af ?_)
 refine aa (bz rfl rfl rfl (bU (p:=.v (.slice none 0 0)) rfl (.p rfl)) (aq (aM ?_)))
 (repeat refine af ?_)
 refine aa (bz rfl rfl rfl (fb (p:=pL eI p0) rfl (.p rfl)) (qt rfl rfl rfl rfl rfl rfl (fun b hb=>aq (aM ?_))))
 refine gI rfl (fun hc=>?_) (fun hc=>?_)
 ·have e0:p0=[]:=List.map_eq_nil_iff.1 (hb hc)
  subst e0;obtain ⟨rfl,_⟩:=nM h
  (repeat refine af ?_)
  refine aa (bz rfl rfl rfl (bU (p:=.v (.slice none 0 0)) rfl (.p rfl)) (aq (aM (ca 3 1 (bV (am ?_))))))
  exact aK (cN (aL rfl)) dC ⟨_,_,rfl,rfl⟩
 refine ai ?_
 refine aM ?_
 (repeat refine af ?_)
 refine aa (aj rfl (bI rfl rfl rfl rfl rfl jO rfl rfl rfl rfl (fun b1=>bz rfl rfl rfl (fb (p:=pL eI p0) rfl (.p rfl)) ?_)))
 refine aj rfl (kW (enc:=eI) (xs:=([]:List Int)) rfl rfl rfl rfl rfl (fun _=>rfl) rfl rfl rfl (by exact aB) h (fun a c=>?_))
 refine bz rfl rfl rfl (bU (p:=.v (.slice a r.length c)) rfl (.p rfl)) (aq (eD ?_))
 exact aK (cN (aL rfl)) dC ⟨_,_,rfl,rfl⟩
theorem nX {p0:(List Int)} {r:(List Int)} (h:eY p0=some r):PF 82 [pL eI p0] (pL eI r):=E9 (nW h)
def bC (p0:(List Za)):Option (List Za):=app 16 ([]:List Za) p0
theorem gq {p0:(List Za)} {r:(List Za)} (h:bC p0=some r):PCall 83 [pL Za.enc p0] [] (fun pv ρ'=>∃ a c,pv=.v (.slice a r.length c)∧ρ'=[PRes.row a r.length c 28 2 (List.map Za.enc r)]):=by
 unfold bC at h
 refine jl Tryz.func83 rfl Tryz.ntmps83 Tryz.results83 rfl ?_
 (repeat refine af ?_)
 refine aa (bz rfl rfl rfl (bU (p:=.v (.slice none 0 0)) rfl (.p rfl)) (aq (aM ?_)))
 (repeat refine af ?_)
 refine aa (bz rfl rfl rfl (fb (p:=pL Za.enc p0) rfl (.p rfl)) (qt rfl rfl rfl rfl rfl rfl (fun b hb=>aq (aM ?_))))
 refine gI rfl (fun hc=>?_) (fun hc=>?_)
 ·have e0:p0=[]:=List.map_eq_nil_iff.1 (hb hc)
  subst e0;obtain ⟨rfl,_⟩:=nM h
  (repeat refine af ?_)
  refine aa (bz rfl rfl rfl (bU (p:=.v (.slice none 0 0)) rfl (.p rfl)) (aq (aM (ca 28 2 (bV (am ?_))))))
  exact aK (cN (aL rfl)) dC ⟨_,_,rfl,rfl⟩
 refine ai ?_
 refine aM ?_
 (repeat refine af ?_)
 refine aa (aj rfl (bI rfl rfl rfl rfl rfl jO rfl rfl rfl rfl (fun b1=>bz rfl rfl rfl (fb (p:=pL Za.enc p0) rfl (.p rfl)) ?_)))
 refine aj rfl (kW (enc:=Za.enc) (xs:=([]:List Za)) rfl rfl rfl rfl rfl (fun _=>rfl) rfl rfl rfl (by exact aB) h (fun a c=>?_))
 refine bz rfl rfl rfl (bU (p:=.v (.slice a r.length c)) rfl (.p rfl)) (aq (eD ?_))
 exact aK (cN (aL rfl)) dC ⟨_,_,rfl,rfl⟩
theorem gr {p0:(List Za)} {r:(List Za)} (h:bC p0=some r):PF 83 [pL Za.enc p0] (pL Za.enc r):=E9 (gq h)
def lm (p0:(List Zf)) (p1:Za):Option ((List Zf)×Int):=(aN (S:=Int×(List (Za×Int))) (T:=((List (Za×Int)))) (fun (v3,l4)=>cond (decide (v3<(p0.length:Int))) (((idx p0 v3).bind fun m11=>cond (!((eC l4 m11.Claim).isSome)) (some (nO l4 m11.Claim v3)) (some l4)).bind fun l9=>some (.inl ((IntKind.i64.wrap (v3+1)),l9))) (some (.inr l4))) FUEL (0,([]:List (Za×Int)))).bind fun l5=>(mk 1 false (p0.length:Int)).bind fun l14=>(aN (S:=(List Bool)×(List Za)) (T:=((List Bool))⊕(_)) (fun (l20,l22)=>cond (decide (0<((l22.length:Nat):Int))) ((idx l22 (IntKind.i64.wrap (((l22.length:Nat):Int) - 1))).bind fun m30=>(sub l22 0 (IntKind.i64.wrap (((l22.length:Nat):Int) - 1))).bind fun l31=>cond (!((eC l5 m30).isSome)) (some (.inr (.inr ([],(6:Int))))) ((idx l20 ((eC l5 m30).getD (0:Int))).bind fun m34=>cond (!m34) ((idx l20 ((eC l5 m30).getD (0:Int))).bind fun m36=>(idx p0 ((eC l5 m30).getD (0:Int))).bind fun m38=>(app 16 l31 m38.Premises).bind fun l39=>some (.inl ((l20.set ((eC l5 m30).getD (0:Int)).toNat true),l39))) (some (.inl (l20,l31))))) (some (.inr (.inl l20)))) FUEL (l14,[p1])).bind fun q=>match q with | .inl l26=>(aN (S:=(List Zf)×Int) (T:=((List Zf))) (fun (l44,v47)=>cond (decide (v47<(p0.length:Int))) (((idx p0 v47).bind fun m62=>(idx l26 v47).bind fun m64=>cond m64 ((eY m62.Path).bind fun x66=>(bC m62.Premises).bind fun x67=>(app 64 l44 [(⟨m62.Claim,x66,x67⟩:Zf)]).bind fun l70=>some l70) (some l44)).bind fun l60=>some (.inl (l60,(IntKind.i64.wrap (v47+1))))) (some (.inr l44))) FUEL (([]:List Zf),0)).bind (fun l51=>some (l51,(0:Int))) | .inr e=>some e
theorem uX {p0:(List Zf)} {p1:Za} {r:((List Zf)×Int)}  (h:lm p0 p1=some r):PF 35 [pL Zf.enc p0,.agg [pI p1.Product,pI p1.Agreement]] (.tup [pL Zf.enc r.1,pI r.2]):=by
 unfold lm at h
 refine bv ?_
 refine fh Tryz.func35 rfl Tryz.ntmps35 Tryz.results35 rfl (aa (aj rfl (bu (cs:=[pI p1.Product,pI p1.Agreement]) rfl rfl (fun b1=>bo [4,5] (by kernel_rfl) (bP (aa (aj rfl (mY Za.key vI rfl (fun b2=>aQ [(6,.v (.map (some b2)))] (by kernel_rfl) (dn (al [(19,pL Zf.enc p0),(20,pI (p0.length:Int)),(21,pI 0)] (by kernel_rfl) (jB h fun q7 hq7 h=>?_))))))))))))
 refine az (Y:=Unit×((List (Za×Int)))) (fun (_,l5)=>[(0,pL Zf.enc p0),(3,pP b1 0),(6,.v (.map (some b2)))]) (fun (_,l5)=>[PRes.b b1 28 [pI p1.Product,pI p1.Agreement],PRes.mp (some b2) (e7 Za.key vI l5)]) (fun (_,l5)=>q7=l5) ?_ ?_
 ·refine aJ ?_
  refine aP (Y:=Unit) (S:=Int×(List (Za×Int))) _ hq7 (fun _ (v3,l4)=>[(0,pL Zf.enc p0),(3,pP b1 0),(6,.v (.map (some b2))),(19,pL Zf.enc p0),(20,pI (p0.length:Int)),(21,pI v3)]) (fun _ (v3,l4)=>[PRes.b b1 28 [pI p1.Product,pI p1.Agreement],PRes.mp (some b2) (e7 Za.key vI l4)]) () (uH rfl) (be (ak aB) dC) ?_
  rintro _ ⟨v3,l4⟩ o τ hb6;(try dsimp only at hb6);dsimp only [aF]
  refine af (al [(22,pB (decide (v3<(p0.length:Int))))] (by kernel_rfl) (bP (jX rfl hb6 (fun hc8 hb6=>?_) fun hc8 hb6=>?_)))
  ·refine ai ?_
   refine dD hb6 fun q10 hq10 hb6=>?_
   refine az (Y:=Unit×((List (Za×Int)))) (fun (_,l9)=>[(0,pL Zf.enc p0),(3,pP b1 0),(6,.v (.map (some b2))),(19,pL Zf.enc p0),(20,pI (p0.length:Int)),(21,pI v3)]) (fun (_,l9)=>[PRes.b b1 28 [pI p1.Product,pI p1.Agreement],PRes.mp (some b2) (e7 Za.key vI l9)]) (fun (_,l9)=>q10=l9) ?_ ?_
   ·skip
    refine iM (ae hq10 fun m11 hm11 hq10=>aa (bg 3 [] [24] [(23,pI v3),(25,.agg (cE m11))] (eO 1 Zf.enc hm11 bN) (by kernel_rfl) (aj rfl (aU (cs:=[pI 0,pI 0,pN,pN]) rfl rfl rfl rfl (fun b12=>ar 1 [(7,pI v3)] (by kernel_rfl) (aW rfl rfl (an (vs:=(cE m11)) rfl rfl rfl rfl rfl cR AB (aq (bP (aa (co 3 [0] [28] [(27,.v (.map (some b2))),(29,.agg [pI m11.Claim.Product,pI m11.Claim.Agreement])] (by kernel_rfl) (bz rfl rfl rfl (show POpQ _ _ _ _ (.tup [pI ((eC l4 m11.Claim).getD (0:Int)),pB ((eC l4 m11.Claim).isSome)]) from s9 (xs:=l4) (k:=m11.Claim) (ek:=Za.key) (vv:=vI) (z0:=(0:Int)) rfl rfl rfl (fun _=>.v rfl) Za.kenc28 (.p rfl) (.p rfl) pC (rJ sm)) (gf [26,31,32,9] [(10,pB ((eC l4 m11.Claim).isSome))] (by kernel_rfl) (bP (ah [33] [(34,pB (!((eC l4 m11.Claim).isSome)))] (by kernel_rfl) (cG rfl hq10 (fun hc13 hq10=>?_) fun hc13 hq10=>?_))))))))))))))))
    ·refine aa ?_
     refine co 4 [0] [36] [(35,.v (.map (some b2))),(37,.agg [pI m11.Claim.Product,pI m11.Claim.Agreement]),(38,pI v3)] (by kernel_rfl) (aW rfl rfl (lQ (xs:=l4) (k:=m11.Claim) (ek:=Za.key) (vv:=vI) (v:=v3) rfl rfl Za.kenc28 rfl rfl pC rfl (dh (dh cR)) (aq (aG ?_))))
     obtain rfl:=osi hq10
     exact aH ((),(nO l4 m11.Claim v3)) (uH rfl) (be (ak aB) (be (ak aB) cd)) rfl
    refine ai ?_
    refine aG ?_
    obtain rfl:=osi hq10
    exact aH ((),l4) (uH rfl) (be (ak aB) (be (ak aB) cd)) rfl
   rintro ⟨_,l9⟩ τ hz;(try dsimp only at hz);subst q10;(try dsimp only at hb6);dsimp only [aF]
   refine ah [39] [(21,pI (IntKind.i64.wrap (v3+1)))] (by kernel_rfl) ?_
   exact bh hb6 () (uH rfl) sY
  refine aV ?_
  refine aw (ap hb6 (fun ht=>au rfl ?_))
  exact aH ((),l4) (AV rfl) sY ht.symm
 rintro ⟨_,l5⟩ τ hz;(try dsimp only at hz);subst q7;(try dsimp only at h);dsimp only [aF]
 refine af (ae h fun l14 hl14 h=>aa (cu 2 [40] [(41,pI (p0.length:Int))] (by kernel_rfl) (aj rfl (pl_make (enc:=eT) rfl rfl rfl rfl rfl rfl rfl rfl rfl hl14 (fun b15=>aQ [(11,pO (some ⟨b15,0,none⟩) l14.length l14.length)] (by kernel_rfl) (bP (aa (gg 1 [1] [(43,.agg [pI p1.Product,pI p1.Agreement])] (by kernel_rfl) (aj rfl (bI rfl rfl rfl rfl rfl (gw rfl jO) rfl rfl rfl rfl (fun b17=>aQ [(12,pO (some ⟨b17,0,none⟩) 1 1)] (by kernel_rfl) (dD h fun q28 hq28 h=>?_))))))))))))
 refine az (Y:=Unit×((List Bool))) (fun (_,l26)=>[(0,pL Zf.enc p0),(11,pO (some ⟨b15,0,none⟩) l14.length l14.length)]) (fun (_,l26)=>[PRes.row (some ⟨b15,0,none⟩) l14.length l14.length 4 1 (List.map eT l26)]) (fun (_,l26)=>q28=Sum.inl l26) ?_ ?_
 ·refine aJ ?_
  refine aP (Y:=Option Addr×Nat) (S:=(List Bool)×(List Za)) _ hq28 (fun (a23,c24) (l20,l22)=>[(0,pL Zf.enc p0),(6,.v (.map (some b2))),(11,pO (some ⟨b15,0,none⟩) l14.length l14.length),(12,pO a23 l22.length c24)]) (fun (a23,c24) (l20,l22)=>[PRes.mp (some b2) (e7 Za.key vI l5),PRes.row (some ⟨b15,0,none⟩) l14.length l14.length 4 1 (List.map eT l20),PRes.row a23 l22.length c24 28 2 (List.map Za.enc l22)]) ((some ⟨b17,0,none⟩),1) (kQ rfl) (be (ak (ak (ak aB))) (be (ak aB) dC)) ?_
  rintro ⟨a23,c24⟩ ⟨l20,l22⟩ o τ hb27;(try dsimp only at hb27);dsimp only [aF]
  refine af (af (ah [45,46] [(47,pB (decide (0<((l22.length:Nat):Int))))] (by kernel_rfl) (cG rfl hb27 (fun hc29 hb27=>?_) fun hc29 hb27=>?_)))
  ·refine ai ?_
   refine aM (iM (ae hb27 fun m30 hm30 hb27=>aa (cu 5 [51,52] [(49,.v (.map (some b2))),(50,pO a23 l22.length c24),(53,pI (IntKind.i64.wrap (((l22.length:Nat):Int) - 1)))] (by kernel_rfl) (bz rfl rfl rfl (el (enc:=Za.enc) (xs:=l22) rfl rfl rfl (.p rfl) sm (.p rfl) (fun _=>hm30)) (bz rfl rfl rfl (cX (sz:=2) (p:=.agg [pI m30.Product,pI m30.Agreement]) (enc:=Za.enc) (xs:=l22) (a:=a23) (IntKind.i64.wrap (((l22.length:Nat):Int) - 1)) 0 m30 rfl (.p rfl) rfl sm (fun _=>hm30) rfl) (bz rfl rfl rfl (show POpQ _ _ _ _ (.tup [pI ((eC l5 m30).getD (0:Int)),pB ((eC l5 m30).isSome)]) from s9 (xs:=l5) (k:=m30) (ek:=Za.key) (vv:=vI) (z0:=(0:Int)) rfl rfl rfl (fun _=>.v rfl) Za.kenc28 (.p rfl) (.p rfl) pC (rJ gx)) (gf [48,57,58] [(13,pI ((eC l5 m30).getD (0:Int))),(14,pB ((eC l5 m30).isSome))] (by kernel_rfl) (dD hb27 fun l31 hl31 hb27=>aa (cu 4 [60,61] [(59,pO a23 l22.length c24),(62,pI (IntKind.i64.wrap (((l22.length:Nat):Int) - 1)))] (by kernel_rfl) ?_)))))))))
   refine aj rfl (sr (enc:=Za.enc) (xs:=l22) rfl rfl rfl rfl rfl (by exact ak (ak aB)) hl31 ?_)
   refine aQ [(12,pO a23 l31.length c24)] (by kernel_rfl) (dn (ah [64] [(65,pB (!((eC l5 m30).isSome)))] (by kernel_rfl) (cG rfl hb27 (fun hc33 hb27=>?_) fun hc33 hb27=>?_)))
   ·refine af ?_
    refine al [(4,pN),(5,pI 6)] (by kernel_rfl) (aM (iO 4 rfl (bV (am (aC ?_)))))
    refine aX hb27 (fun ht=>?_);subst ht
    refine aC (aY ?_)
    obtain rfl:=osi h
    exact aK (di (aL rfl) (aL rfl)) cd ⟨rfl,rfl⟩
   refine ai ?_
   refine dD hb27 fun m34 hm34 hb27=>aa (ar 2 [(66,pO (some ⟨b15,0,none⟩) l14.length l14.length),(67,pI ((eC l5 m30).getD (0:Int)))] (by kernel_rfl) (bz rfl rfl rfl (el (enc:=eT) (xs:=l20) rfl rfl rfl (.p rfl) sm (.p rfl) (fun _=>hm34)) (bz rfl rfl rfl (cX (sz:=1) (p:=pB m34) (enc:=eT) (xs:=l20) (a:=(some ⟨b15,0,none⟩)) ((eC l5 m30).getD (0:Int)) 0 m34 rfl (.p rfl) rfl sm (fun _=>hm34) rfl) (aQ [(70,pB (!m34))] (by kernel_rfl) (cG rfl hb27 (fun hc35 hb27=>?_) fun hc35 hb27=>?_)))))
   ·refine af ?_
    refine ae hb27 fun m36 hm36 hb27=>aa (ar 2 [(71,pO (some ⟨b15,0,none⟩) l14.length l14.length),(72,pI ((eC l5 m30).getD (0:Int)))] (by kernel_rfl) (bz rfl rfl rfl (el (enc:=eT) (xs:=l20) rfl rfl rfl (.p rfl) sm (.p rfl) (fun _=>hm36)) (aW rfl rfl (qV (enc:=eT) (xs:=l20) (a:=(some ⟨b15,0,none⟩)) ((eC l5 m30).getD (0:Int)) 0 m36 true rfl rfl rfl rfl (fun _=>rfl) rfl rfl hm36 og (dh (dh cR)) (aq (jB hb27 fun m38 hm38 hb27=>ae hb27 fun l39 hl39 hb27=>aa (bg 6 [] [75,76,77,78] [(74,pO a23 l31.length c24),(79,pL Za.enc m38.Premises)] (eO 3 Zf.enc hm38 bN) (by kernel_rfl) ?_)))))))
    refine aj rfl (kW (enc:=Za.enc) rfl rfl rfl rfl rfl (fun _=>rfl) rfl rfl rfl (by exact aB) hl39 (fun a40 c41=>?_))
    refine aQ [(12,pO a40 l39.length c41)] (by kernel_rfl) (aG ?_)
    exact bh hb27 (a40,c41) (kQ rfl) (be (ak aB) (be (ak aB) dC))
   refine ai ?_
   refine aG ?_
   exact bh hb27 (a23,c24) (kQ rfl) (be (ak aB) (be (ak aB) dC))
  refine aV ?_
  refine aw (ap hb27 (fun ht=>au rfl ?_))
  exact aH ((),l20) (sX rfl) (be (ak aB) cd) ht.symm
 rintro ⟨_,l26⟩ τ hz;(try dsimp only at hz);subst q28;(try dsimp only at h);dsimp only [aF]
 refine af (al [(15,pN)] (by kernel_rfl) (dn (al [(81,pL Zf.enc p0),(82,pI (p0.length:Int)),(83,pI 0)] (by kernel_rfl) (aM (ca 61 4 (ae h fun q53 hq53 h=>?_))))))
 refine az (Y:=(Option Addr×Nat)×((List Zf))) (fun ((a49,c50),l51)=>[(15,pO a49 l51.length c50)]) (fun ((a49,c50),l51)=>[PRes.row a49 l51.length c50 61 4 (List.map Zf.enc l51)]) (fun ((a49,c50),l51)=>q53=l51) ?_ ?_
 ·refine aJ ?_
  refine aP (Y:=Option Addr×Nat) (S:=(List Zf)×Int) _ hq53 (fun (a45,c46) (l44,v47)=>[(11,pO (some ⟨b15,0,none⟩) l14.length l14.length),(15,pO a45 l44.length c46),(81,pL Zf.enc p0),(82,pI (p0.length:Int)),(83,pI v47)]) (fun (a45,c46) (l44,v47)=>[PRes.row (some ⟨b15,0,none⟩) l14.length l14.length 4 1 (List.map eT l26),PRes.row a45 l44.length c46 61 4 (List.map Zf.enc l44)]) (none,0) (nG rfl) (be (ak aB) dC) ?_
  rintro ⟨a45,c46⟩ ⟨l44,v47⟩ o τ hb52;(try dsimp only at hb52);dsimp only [aF]
  refine af (al [(84,pB (decide (v47<(p0.length:Int))))] (by kernel_rfl) (bP (jX rfl hb52 (fun hc55 hb52=>?_) fun hc55 hb52=>?_)))
  ·refine ai ?_
   refine dD hb52 fun q61 hq61 hb52=>?_
   refine az (Y:=(Option Addr×Nat)×((List Zf))) (fun ((a58,c59),l60)=>[(11,pO (some ⟨b15,0,none⟩) l14.length l14.length),(15,pO a58 l60.length c59),(81,pL Zf.enc p0),(82,pI (p0.length:Int)),(83,pI v47)]) (fun ((a58,c59),l60)=>[PRes.row (some ⟨b15,0,none⟩) l14.length l14.length 4 1 (List.map eT l26),PRes.row a58 l60.length c59 61 4 (List.map Zf.enc l60)]) (fun ((a58,c59),l60)=>q61=l60) ?_ ?_
   ·skip
    refine iM (ae hq61 fun m62 hm62 hq61=>aa (bg 3 [] [86] [(85,pI v47),(87,.agg (cE m62))] (eO 1 Zf.enc hm62 bN) (by kernel_rfl) (aj rfl (aU (cs:=[pI 0,pI 0,pN,pN]) rfl rfl rfl rfl (fun b63=>ar 1 [(16,pI v47)] (by kernel_rfl) (aW rfl rfl (an (vs:=(cE m62)) rfl rfl rfl rfl rfl cR AB (aq (dD hq61 fun m64 hm64 hq61=>aa (ar 2 [(88,pO (some ⟨b15,0,none⟩) l14.length l14.length),(89,pI v47)] (by kernel_rfl) (bz rfl rfl rfl (el (enc:=eT) (xs:=l26) rfl rfl rfl (.p rfl) tX (.p rfl) (fun _=>hm64)) (bz rfl rfl rfl (cX (sz:=1) (p:=pB m64) (enc:=eT) (xs:=l26) (a:=(some ⟨b15,0,none⟩)) v47 0 m64 rfl (.p rfl) rfl tX (fun _=>hm64) rfl) (aq (cG rfl hq61 (fun hc65 hq61=>?_) fun hc65 hq61=>?_))))))))))))))
    ·refine cC (ρd:=[PRes.row a45 _ _ _ _ _]) [(0,0),(1,0),(2,0),(3,0),(4,0),(6,0),(7,0),(5,1),(8,1),(9,0),(10,1),(11,1),(12,0)] _ (aA (ak (ak aB)) (List.Perm.refl _)) (by kernel_rfl) rfl ?_
     refine ae hq61 fun x66 hx66 hq61=>ae hq61 fun x67 hx67 hq61=>cP 9 [0,0,0] [93,95,96,98,99] [(92,pO a45 l44.length c46),(94,.agg [pI m62.Claim.Product,pI m62.Claim.Agreement]),(97,pL eI x66),(100,pL Za.enc x67)] (bR 7 (nX hx66) (bR 8 (gr hx67) bN)) (by kernel_rfl) (kX rfl rfl rfl (sk (cs:=[pI m62.Claim.Product,pI m62.Claim.Agreement,pL eI x66,pL Za.enc x67]) rfl rfl rfl rfl rfl rfl rfl (DO rfl rfl rfl rfl AU (DO rfl rfl rfl rfl (eg (eg og)) (DO rfl rfl rfl rfl (eg (eg (eg og))) zfn)))) (kY rfl rfl rfl (bI rfl rfl rfl rfl rfl (gw rfl jO) rfl rfl rfl rfl (fun b68=>ae hq61 fun l70 hl70 hq61=>?_))))
     refine kY rfl rfl rfl (bX (enc:=Zf.enc) rfl rfl rfl rfl rfl rfl rfl rfl rfl gx (by exact ak aB) hl70 (fun a71 c72=>?_))
     refine iA 1 [(15,pO a71 l70.length c72)] (by kernel_rfl) (da (aG ?_))
     obtain rfl:=osi hq61
     exact aH ((a71,c72),l70) (nG rfl) (be (ak (ak (ak aB))) dC) rfl
    refine ai ?_
    refine aG ?_
    obtain rfl:=osi hq61
    exact aH ((a45,c46),l44) (nG rfl) (be (ak aB) (be (ak aB) cd)) rfl
   rintro ⟨⟨a58,c59⟩,l60⟩ τ hz;(try dsimp only at hz);subst q61;(try dsimp only at hb52);dsimp only [aF]
   refine ah [104] [(83,pI (IntKind.i64.wrap (v47+1)))] (by kernel_rfl) ?_
   exact bh hb52 (a58,c59) (nG rfl) sY
  refine aV ?_
  refine aw (ap hb52 (fun ht=>au rfl ?_))
  exact aH ((a45,c46),l44) (xF rfl) (be (ak aB) cd) ht.symm
 rintro ⟨⟨a49,c50⟩,l51⟩ τ hz;(try dsimp only at hz);subst q53;(try dsimp only at h);dsimp only [aF]
 refine af (ah [105] [(4,pO a49 l51.length c50),(5,pI 0)] (by kernel_rfl) (aM ?_))
 refine fB (enc:=Zf.enc) (xs:=l51) 4 rfl (by exact aB) ?_
 refine bV ?_
 obtain rfl:=osi h
 exact aK (di (aL rfl) (aL rfl)) cd ⟨rfl,rfl⟩
end SX
namespace SX
open Go
abbrev bl (s:ByteArray):List UInt8:=s.data.toList
theorem bl_hi (s:ByteArray) (k:Nat):bl (s.extract 0 k)=(bl s).take k:=by simp [bl]
theorem bl_lo (s:ByteArray) (k:Nat):bl (s.extract k s.size)=(bl s).drop k:=by
  simp only [bl,ByteArray.data_extract,Array.toList_extract,List.extract_eq_take_drop]
  rw [List.take_of_length_le];simp
theorem lY (s:ByteArray):s.size=(bl s).length:=by simp [bl]
theorem bl_inj {s u:ByteArray} (h:bl s=bl u):s=u:=by
  obtain ⟨⟨x⟩⟩:=s;obtain ⟨⟨y⟩⟩:=u;simp [bl] at h;subst h;rfl
def ka (n:Nat):Bool:=decide (48≤n∧n≤57)
def fL (p:Nat→Bool):List Value:=(List.range 256).map fun i=>.bool (p i)
theorem fu (p:Nat→Bool):(fL p).length=256:=by simp [fL]
theorem lZ (p:Nat→Bool) {j:Nat} (h:j<256):(fL p)[j]?=some (.bool (p j)):=by simp [fL,h]
theorem xS (p q:Nat→Bool) {j:Nat} (h:∀ i,q i=(decide (i=j)||p i)):(fL p).set j (.bool true)=fL q:=by
  apply List.ext_getElem?
  intro i
  rw [List.getElem?_set]
  simp only [fu]
  rcases Nat.lt_or_ge i 256 with hi | hi
  · rw [lZ q hi,lZ p hi,h i]
    by_cases e:j=i
    · subst e;simp [hi]
    · rw [if_neg e];simp [show ¬ i=j from fun h=>e h.symm]
  · rw [List.getElem?_eq_none (by rw [fu];exact hi),List.getElem?_eq_none (by rw [fu];exact hi)]
    split
    · rw [if_neg (by omega)]
    · rfl
section
variable {o:Oper} {σ:Env} {ρ:List Res} {κ:Kr} {c:Bool} {x y:Operand} {K:Value→List Res→Kr→Prop}
theorem Sh.at1 {b k:Nat} {cs:List Value} {v:Value} (h:Sh κ b 0 cs) (hv:cs[k]?=some v):Sh κ b (0+k*1) [v]:=⟨h.1,fun j u hu=>by
  cases j with
  | zero=>simp at hu;subst hu;have:=h.2 k v hv;simpa using this
  | succ j=>simp at hu⟩
theorem zB {t b T sz by':Nat} {cs:List Value} {z:Value} {d:TypeDesc} (ho:o.op=.load t x) (hx:Ev σ c x (.pointer (some ⟨b,0,none⟩))) (hm:Res.b b T cs∈ρ) (hd:eR t=some d) (ha:lA d=true) (hi:fU t=some (z,sz,by')) (hl:cs.length=sz):OpQ c o σ ρ κ (.agg cs.toArray):=by
  refine wl ho hx hm ?_
  unfold jS
  simp only [hd,hi,ha,cond_true,List.drop_zero]
  rw [Nat.ble_eq_true_of_le (by omega)]
  simp [← hl]
end
attribute [local irreducible] WL WC WD OpL OpQ OpG Ev GuardIs AF lz D7 Call CallP midK uu Holds uf Sub Pick WS Step Lit Upd SetAt SpliceAt FillR Sh LateRun
theorem tg (κ:Kr) (b:Nat) (p:Nat→Bool) (m:Int) (hs:Sh κ b 0 (fL p)) (h0:0≤m) (h1:m≤255):CallP 204 [.pointer (some ⟨b,0,none⟩),.int .u8 m] κ fun v _=>v=.bool (p m.toNat):=by
  (unfold CallP;apply ot Tryz.func204 (F3 Tryz.func204 rfl) rfl Tryz.ntmps204 Tryz.results204 rfl)
  repeat (first | (first | (apply eM rfl rfl rfl;(focus (first | exact cb (v:=(.int _ _)) rfl (.p rfl) | exact cb (v:=(.pointer _)) rfl (.p rfl) | exact cx (v:=(.bool _)) rfl (.p rfl) | exact pr rfl (.p rfl)))) | apply dp) | (first | apply dT | apply bG | apply dR))
  apply eM rfl rfl rfl (wr (j:=m.toNat) rfl rfl rfl (.p rfl) (.p rfl) (fun _=>by omega) (fun _=>by omega))
  apply eM rfl rfl rfl (r8 rfl (.p rfl) (fun _=>(hs.mono (by (repeat (exact Kle.refl _)))).at1 (lZ p (by omega))) rfl)
  repeat (first | (first | (apply eM rfl rfl rfl;(focus (exact cx (v:=(.bool _)) rfl (.p rfl)))) | apply dp) | (first | apply dR | apply mt))
  exact nj (xo (v:=.bool _) rfl) .none ⟨rfl,rfl⟩
def jg:ByteArray:=⟨#[48,49,50,51,52,53,54,55,56,57]⟩
theorem xU:∀ {k:Nat},k<10→((jg.data.toList.getD k 0).toNat:Int)=48+(k:Int):=by decide
theorem Fe (κ:Kr):CallP 180 [.string jg] κ fun v _=>v=.tuple #[.agg (fL ka).toArray,.bool true]:=by
  (unfold CallP;apply ot Tryz.func180 (F3 Tryz.func180 rfl) rfl Tryz.ntmps180 Tryz.results180 rfl)
  repeat (first | (first | (apply eM rfl rfl rfl;(focus (first | exact cx (v:=(.int _ _)) rfl (.p rfl) | exact cx (v:=(.bool _)) rfl (.p rfl)))) | (apply yy rfl rfl rfl;apply wm rfl rfl;intro _ _ _) | apply dp) | (first | apply dT | apply bG | apply jR | apply dR))
  rename_i b2 κ1 _
  have e0:List.replicate 256 (Value.bool false)=fL (fun i=>decide (48≤i∧i<48+0)):=by
    apply List.ext_getElem?
    intro i
    rcases Nat.lt_or_ge i 256 with hi | hi
    · rw [lZ _ hi,List.getElem?_replicate,if_pos hi];congr 2;symm;rw [decide_eq_false_iff_not];omega
    · rw [List.getElem?_eq_none (by simpa using hi),List.getElem?_eq_none (by rw [fu];exact hi)]
  rw [e0]
  refine rB (X:=Nat) (fun k=>[(0,.string jg),(2,.pointer (some ⟨b2,0,none⟩)),(4,.int .i64 (k:Int))]) (fun k=>[Res.b b2 243 (fL fun i=>decide (48≤i∧i<48+k))]) (fun k _=>k≤10) (fun k=>10 - k) 0 (by (repeat (first | exact Holds.nil | apply Holds.cons rfl))) (by (repeat (first | exact Sub.nil | (apply Sub.cons;(focus (repeat (exact Pick.h))))))) (by omega) ?_
  intro k τ κ2 _ hk
  simp only [uf]
  repeat (first | (first | (apply eM rfl rfl rfl;(focus (first | exact cb (v:=(.int _ _)) rfl (.p rfl) | exact cb (v:=(.string _)) rfl (.p rfl) | exact om rfl (.p rfl) (.p rfl) rfl | exact mV rfl rfl (.p rfl)))) | apply dp) | (first | apply dT | apply bG | apply dR))
  apply xr rfl <;> intro hc
  · have hk10:k<10:=by
      have e:(jg.size:Int)=10:=rfl
      rw [e] at hc;omega
    repeat (first | (apply eM rfl rfl rfl;(focus (first | exact cb (v:=(.int _ _)) rfl (.p rfl) | exact cb (v:=(.string _)) rfl (.p rfl)))) | (first | apply dT | apply bG | apply jR | apply dR | apply jQ))
    apply eM rfl rfl rfl (nI (s:=jg) (j:=k) rfl rfl (.p rfl) (.p rfl) (fun _=>rfl) (fun _=>hk10))
    rw [xU hk10]
    repeat (first | (first | (apply eM rfl rfl rfl;(focus (first | exact cb (v:=(.int _ _)) rfl (.p rfl) | exact cx (v:=(.int _ _)) rfl (.p rfl) | exact om rfl (.p rfl) (.p rfl) rfl))) | apply dp) | (first | apply dT | apply bG | apply dR))
    apply DZ (by have:¬ (128:Int)≤48+(k:Int):=by omega
                 simp [ev,upd,this])
    repeat (first | (apply eM rfl rfl rfl;(focus (exact cb (v:=(.int _ _)) rfl (.p rfl)))) | (first | apply bG | apply dR | apply jQ))
    apply eM rfl rfl rfl (wr (j:=48+k) rfl rfl rfl (.p rfl) (.p rfl) (fun _=>by omega) (fun _=>by omega))
    apply BQ rfl rfl
    apply CT (v:=.bool true) rfl rfl rfl rfl rfl rfl (by (repeat (exact Upd.h))) (by rw [fu];omega)
    intro κ3 _
    have e1:(fL fun i=>decide (48≤i∧i<48+k)).set (0+(48+k)*1) (.bool true)=fL fun i=>decide (48≤i∧i<48+(k+1)) :=
      xS _ _ fun i=>by rw [Bool.eq_iff_iff];simp;omega
    rw [e1]
    repeat (first | (first | (apply eM rfl rfl rfl;(focus (first | exact cb (v:=(.int _ _)) rfl (.p rfl) | exact cx (v:=(.int _ _)) rfl (.p rfl) | exact oo rfl (.p rfl) (.p rfl) rfl (fun _=>by omega)))) | apply dp) | (first | apply bG | apply dR | apply qq))
    exact xn (k+1) (by (repeat (first | exact Holds.nil | apply Holds.cons rfl))) (by (repeat (first | exact Sub.nil | (apply Sub.cons;(focus (repeat (exact Pick.h))))))) (by omega) (by omega)
  · have hk10:k=10:=by
      have e:(jg.size:Int)=10:=rfl
      rw [e] at hc;omega
    subst hk10
    have e2:(fun i=>decide (48≤i∧i<48+10))=ka:=by funext i;simp only [ka];rw [Bool.eq_iff_iff];simp;omega
    rw [e2]
    apply oj;apply kz;apply jz;apply kA rfl;apply dR;apply dT;apply bG
    apply eM rfl rfl rfl (zB rfl (.p rfl) (by (repeat (exact List.Mem.head _))) rfl rfl rfl (fu _))
    apply BQ rfl rfl
    apply wn rfl rfl rfl rfl (fu _) (by simp [fL,Value.oneCell']) (by (repeat (exact Upd.h))) rfl
    intro κ3 _
    repeat (first | (first | (apply eM rfl rfl rfl;(focus (exact cx (v:=(.bool _)) rfl (.p rfl)))) | apply dp) | (first | apply dR | apply mt))
    refine nj (rv_2 (RV1.cell rfl (by (repeat (exact List.Mem.head _))) ?_) (rv1_t (v:=.bool _) rfl)) .none ⟨rfl,rfl⟩
    unfold jS
    simp only [show eR 243=some (.array 256 4) from rfl,show fU 243=some (.agg (List.replicate 256 (.bool false)).toArray,256,256) from rfl,lA,cond_true,List.drop_zero,fu]
    rw [List.take_of_length_le (by rw [fu];omega)];rfl
theorem ua {l:List UInt8} {j:Nat} (h:j<l.length):l.getD j 0=l[j]:=by simp [List.getD_eq_getElem?_getD,h]
theorem xV (κ:Kr) (b:Nat) (s:ByteArray) (hs:Sh κ b 0 (fL ka)) (hz:s.size≤1000000000):CallP 182 [.string s,.pointer (some ⟨b,0,none⟩)] κ fun v _=>∃ u k,v=.string u∧bl u=(bl s).take k∧k≤(bl s).length∧(∀ c∈(bl s).drop k,ka c.toNat=true)∧(∀ c,(bl u).getLast?=some c→ka c.toNat=false):=by
  (unfold CallP;apply ot Tryz.func182 (F3 Tryz.func182 rfl) rfl Tryz.ntmps182 Tryz.results182 rfl)
  repeat (first | (first | (apply eM rfl rfl rfl;(focus (exact cx (v:=(.string _)) rfl (.p rfl)))) | apply dp) | (first | apply dT | apply bG | apply jR | apply dR))
  refine rB (X:=ByteArray×Nat) (fun z=>[(0,.string z.1),(1,.pointer (some ⟨b,0,none⟩))]) (fun _=>[]) (fun z _=>bl z.1=(bl s).take z.2∧z.2≤(bl s).length∧∀ c∈(bl s).drop z.2,ka c.toNat=true) (fun z=>z.2) (s,(bl s).length) (by (repeat (first | exact Holds.nil | apply Holds.cons rfl))) (by (repeat (exact Sub.nil))) ⟨(List.take_length).symm,Nat.le_refl _,by rw [List.drop_length];simp⟩ ?_
  rw [lY] at hz
  rintro ⟨u,k⟩ τ κ2 _ ⟨h1,h2,h3⟩
  dsimp only at h1 h2 h3
  have hsz:u.size=k:=by rw [lY,h1,List.length_take];omega
  simp only [uf]
  repeat (first | (first | (apply eM rfl rfl rfl;(focus (first | exact cb (v:=(.string _)) rfl (.p rfl) | exact om rfl (.p rfl) (.p rfl) rfl | exact mV rfl rfl (.p rfl)))) | apply dp) | (first | apply dT | apply bG | apply dR))
  apply xr rfl <;> intro hc
  · have hk0:0<k:=by omega
    repeat (first | (apply eM rfl rfl rfl;(focus (first | exact cb (v:=(.pointer _)) rfl (.p rfl) | exact cb (v:=(.string _)) rfl (.p rfl) | exact oo rfl (.p rfl) (.p rfl) rfl (fun _=>by omega) | exact mV rfl rfl (.p rfl)))) | (first | apply dT | apply bG | apply jR | apply dR | apply jQ))
    apply eM rfl rfl rfl (nI (j:=k - 1) rfl rfl (.p rfl) (.p rfl) (fun _=>by omega) (fun _=>by omega))
    have hlast:(bl u).getLast?=some ((bl u).getD (k - 1) 0):=by
      rw [List.getLast?_eq_getElem?,← lY,hsz,ua (by rw [← lY];omega),List.getElem?_eq_getElem]
    apply yy rfl rfl rfl;apply mu rfl rfl (tg _ b ka ((u.data.toList.getD (k - 1) 0).toNat:Int) (hs.mono (by (repeat (assumption)))) (by omega) (by have:=(u.data.toList.getD (k - 1) 0).toNat_lt;omega))
    rintro v κ3 _ rfl
    repeat (first | (first | (apply eM rfl rfl rfl;(focus (exact AH rfl (.p rfl)))) | apply dp) | (apply dR))
    rw [Int.toNat_natCast]
    apply lN rfl <;> intro hb
    · repeat (first | (first | (apply eM rfl rfl rfl;(focus (first | exact cb (v:=(.string _)) rfl (.p rfl) | exact cx (v:=(.string _)) rfl (.p rfl)))) | apply dp) | (first | apply dT | apply bG | apply dR | apply mt | apply oj | apply kz | apply kA rfl | apply ut rfl | apply jz))
      refine nj (xo (v:=.string _) rfl) .none ⟨rfl,u,k,rfl,h1,h2,h3,fun c hc=>?_⟩
      rw [hlast] at hc;injection hc with hc;subst hc;simpa using hb
    · repeat (first | (apply eM rfl rfl rfl;(focus (first | exact cb (v:=(.string _)) rfl (.p rfl) | exact oo rfl (.p rfl) (.p rfl) rfl (fun _=>by omega) | exact mV rfl rfl (.p rfl)))) | (first | apply bG | apply dR | apply jQ))
      apply eM rfl rfl rfl (sV (h:=k - 1) rfl rfl (.p rfl) (.p rfl) (fun _=>by omega) (fun _=>by omega))
      repeat (first | (first | (apply eM rfl rfl rfl;(focus (exact cx (v:=(.string _)) rfl (.p rfl)))) | apply dp) | (apply qq))
      refine xn (u.extract 0 (k - 1),k - 1) (by (repeat (first | exact Holds.nil | apply Holds.cons rfl))) (by (repeat (exact Sub.nil))) ⟨?_,by ((try dsimp only at *) <;> omega),?_⟩ (by ((try dsimp only at *) <;> omega))
      · rw [bl_hi,h1,List.take_take];congr 1;omega
      · intro c hc
        rw [List.drop_eq_getElem_cons (by omega)] at hc
        rcases List.mem_cons.1 hc with rfl | hc
        · have e:(bl u).getD (k - 1) 0=(bl s)[k - 1]'(by omega):=by
            rw [ua (by rw [← lY];omega)];simp [h1]
          rw [← e];simpa using hb
        · rw [show k - 1+1=k by omega] at hc;exact h3 c hc
  · repeat (first | (first | (apply eM rfl rfl rfl;(focus (first | exact cb (v:=(.string _)) rfl (.p rfl) | exact cx (v:=(.string _)) rfl (.p rfl)))) | apply dp) | (first | apply dT | apply bG | apply dR | apply mt | apply oj | apply kz | apply kA rfl | apply jz))
    refine nj (xo (v:=.string _) rfl) .none ⟨rfl,u,k,rfl,h1,h2,h3,fun c hc'=>?_⟩
    have:bl u=[]:=List.eq_nil_of_length_eq_zero (by rw [← lY];omega)
    rw [this] at hc';cases hc'
end SX
namespace SX
open Go
attribute [local irreducible] WL WC WD OpL OpQ OpG Ev GuardIs AF lz D7 Call CallP midK uu Holds uf Sub Pick WS Step Lit Upd SetAt SpliceAt FillR Sh LateRun
theorem zC (κ:Kr) (b:Nat) (s:ByteArray) (hs:Sh κ b 0 (fL ka)):CallP 181 [.string s,.pointer (some ⟨b,0,none⟩)] κ fun v _=>∃ u k,v=.string u∧bl u=(bl s).drop k∧k≤(bl s).length∧(∀ c∈(bl s).take k,ka c.toNat=true)∧(∀ c,(bl u).head?=some c→ka c.toNat=false):=by
  (unfold CallP;apply ot Tryz.func181 (F3 Tryz.func181 rfl) rfl Tryz.ntmps181 Tryz.results181 rfl)
  repeat (first | (first | (apply eM rfl rfl rfl;(focus (exact cx (v:=(.string _)) rfl (.p rfl)))) | apply dp) | (first | apply dT | apply bG | apply jR | apply dR))
  refine rB (X:=ByteArray×Nat) (fun z=>[(0,.string z.1),(1,.pointer (some ⟨b,0,none⟩))]) (fun _=>[]) (fun z _=>bl z.1=(bl s).drop z.2∧z.2≤(bl s).length∧∀ c∈(bl s).take z.2,ka c.toNat=true) (fun z=>(bl s).length - z.2) (s,0) (by (repeat (first | exact Holds.nil | apply Holds.cons rfl))) (by (repeat (exact Sub.nil))) ⟨rfl,Nat.zero_le _,by simp⟩ ?_
  rintro ⟨u,k⟩ τ κ2 _ ⟨h1,h2,h3⟩
  dsimp only at h1 h2 h3
  have hsz:u.size=(bl s).length - k:=by rw [lY,h1,List.length_drop]
  simp only [uf]
  repeat (first | (first | (apply eM rfl rfl rfl;(focus (first | exact cb (v:=(.string _)) rfl (.p rfl) | exact om rfl (.p rfl) (.p rfl) rfl | exact mV rfl rfl (.p rfl)))) | apply dp) | (first | apply dT | apply bG | apply dR))
  apply xr rfl <;> intro hc
  · have hk0:k<(bl s).length:=by omega
    have hu0:0<(bl u).length:=by rw [← lY];omega
    repeat (first | (apply eM rfl rfl rfl;(focus (first | exact cb (v:=(.pointer _)) rfl (.p rfl) | exact cb (v:=(.string _)) rfl (.p rfl)))) | (first | apply dT | apply bG | apply jR | apply dR | apply jQ))
    apply eM rfl rfl rfl (nI (j:=0) rfl rfl (.p rfl) (.p rfl) (fun _=>by omega) (fun _=>by omega))
    have hhead:(bl u).head?=some ((bl u).getD 0 0):=by
      rw [List.head?_eq_getElem?,ua hu0,List.getElem?_eq_getElem hu0]
    apply yy rfl rfl rfl;apply mu rfl rfl (tg _ b ka ((u.data.toList.getD 0 0).toNat:Int) (hs.mono (by (repeat (assumption)))) (by omega) (by have:=(u.data.toList.getD 0 0).toNat_lt;omega))
    rintro v κ3 _ rfl
    repeat (first | (first | (apply eM rfl rfl rfl;(focus (exact AH rfl (.p rfl)))) | apply dp) | (apply dR))
    rw [Int.toNat_natCast]
    apply lN rfl <;> intro hb
    · repeat (first | (first | (apply eM rfl rfl rfl;(focus (first | exact cb (v:=(.string _)) rfl (.p rfl) | exact cx (v:=(.string _)) rfl (.p rfl)))) | apply dp) | (first | apply dT | apply bG | apply dR | apply mt | apply oj | apply kz | apply kA rfl | apply ut rfl | apply jz))
      refine nj (xo (v:=.string _) rfl) .none ⟨rfl,u,k,rfl,h1,h2,h3,fun c hc=>?_⟩
      rw [hhead] at hc;injection hc with hc;subst hc;simpa using hb
    · repeat (first | (apply eM rfl rfl rfl;(focus (exact cb (v:=(.string _)) rfl (.p rfl)))) | (first | apply bG | apply dR | apply jQ))
      apply eM rfl rfl rfl (sW (l:=1) rfl rfl (.p rfl) (.p rfl) (fun _=>by omega) (fun _=>by omega))
      repeat (first | (first | (apply eM rfl rfl rfl;(focus (exact cx (v:=(.string _)) rfl (.p rfl)))) | apply dp) | (apply qq))
      refine xn (u.extract 1 u.size,k+1) (by (repeat (first | exact Holds.nil | apply Holds.cons rfl))) (by (repeat (exact Sub.nil))) ⟨?_,by ((try dsimp only at *) <;> omega),?_⟩ (by ((try dsimp only at *) <;> omega))
      · rw [bl_lo,h1,List.drop_drop]
      · intro c hc
        rw [List.take_add_one] at hc
        rcases List.mem_append.1 hc with hc | hc
        · exact h3 c hc
        · have e:(bl u).getD 0 0=(bl s)[k]'hk0:=by rw [ua hu0];simp [h1]
          rw [List.getElem?_eq_getElem hk0] at hc
          simp only [Option.toList_some,List.mem_cons,List.not_mem_nil,or_false] at hc
          subst hc;rw [← e];simpa using hb
  · repeat (first | (first | (apply eM rfl rfl rfl;(focus (first | exact cb (v:=(.string _)) rfl (.p rfl) | exact cx (v:=(.string _)) rfl (.p rfl)))) | apply dp) | (first | apply dT | apply bG | apply dR | apply mt | apply oj | apply kz | apply kA rfl | apply jz))
    refine nj (xo (v:=.string _) rfl) .none ⟨rfl,u,k,rfl,h1,h2,h3,fun c hc'=>?_⟩
    have:bl u=[]:=List.eq_nil_of_length_eq_zero (by rw [← lY];omega)
    rw [this] at hc';cases hc'
def kK (s:ByteArray):Bool:=(bl s).all fun c=>ka c.toNat
theorem wJ {s:ByteArray}:s=⟨#[]⟩↔bl s=[]:=⟨fun h=>by rw [h],fun h=>bl_inj (by rw [h])⟩
theorem trim_ok (κ:Kr) (s:ByteArray) (hz:s.size≤1000000000):CallP 156 [.string s,.string jg] κ fun v _=>∃ u,v=.string u∧(u=⟨#[]⟩↔kK s=true):=by
  (unfold CallP;apply ot Tryz.func156 (F3 Tryz.func156 rfl) rfl Tryz.ntmps156 Tryz.results156 rfl)
  repeat (first | (first | (apply eM rfl rfl rfl;(focus (first | exact cb (v:=(.bool _)) rfl (.p rfl) | exact cb (v:=(.string _)) rfl (.p rfl) | exact cx (v:=(.string _)) rfl (.p rfl) | exact oq_or rfl (.p rfl) (.p rfl) (.g rfl) | exact xg rfl (.p rfl) (.p rfl) rfl))) | (apply uh;(focus (exact BP rfl rfl rfl));rfl;rfl;(focus (first | (apply cb (v:=(.string _)) rfl;(focus (exact Ev.p rfl))) | (apply xg rfl (by (focus (exact Ev.g rfl))) (by (focus (exact Ev.p rfl)));rfl)))) | apply dp) | (first | apply dT | apply bG | apply dR))
  apply lN rfl <;> intro hb
  · repeat (first | (first | (apply eM rfl rfl rfl;(focus (first | exact cb (v:=(.string _)) rfl (.p rfl) | exact cx (v:=(.string _)) rfl (.p rfl)))) | apply dp) | (first | apply dT | apply bG | apply dR | apply mt | apply sa))
    have:s=⟨#[]⟩:=by simpa [jg] using hb
    refine nj (xo (v:=.string _) rfl) .none ⟨rfl,s,rfl,?_⟩
    subst this;simp [kK,bl]
  · have hne:¬ bl s=[]:=fun h=>by rw [wJ.2 h] at hb;simp at hb
    repeat (first | (first | (apply eM rfl rfl rfl;(focus (first | exact cb (v:=(.bool _)) rfl (.p rfl) | exact cb (v:=(.string _)) rfl (.p rfl) | exact om rfl (.p rfl) (.p rfl) rfl | exact mV rfl rfl (.p rfl)))) | (apply uh;(focus (exact oh rfl rfl rfl));rfl;rfl;(focus (apply cb (v:=(.string _)) rfl;(focus (exact Ev.p rfl)))))) | (first | apply dT | apply bG | apply dR | apply jQ))
    apply uh;(focus (exact oh rfl rfl rfl));rfl;rfl;exact nI (s:=jg) (j:=0) rfl rfl (.g rfl) (.p rfl) (fun _=>rfl) (fun _=>by decide)
    repeat (first | (first | (apply eM rfl rfl rfl;(focus (exact AG rfl (.p rfl) (.p rfl) (.g rfl)))) | (apply uh;(focus (exact oh rfl rfl rfl));rfl;rfl;(focus (apply om rfl (by (focus (exact Ev.g rfl))) (by (focus (exact Ev.p rfl)));rfl))) | apply dp) | (apply dR))
    apply lN rfl <;> intro hb2
    · have e:(jg.size:Int)=10:=rfl
      rw [e] at hb2;simp at hb2
    repeat (first | (apply eM rfl rfl rfl;(focus (exact cb (v:=(.string _)) rfl (.p rfl)))) | (first | apply dT | apply bG | apply dR | apply jQ))
    refine wl_fun rfl rfl rfl rfl rfl (Fe _) fun κ1 _=>?_
    repeat (first | (first | (apply eM rfl rfl rfl;(focus (first | exact cb (v:=(.bool _)) rfl (.p rfl) | exact cb (v:=(.tuple _)) rfl (.p rfl) | exact cx (v:=(.bool _)) rfl (.p rfl) | exact ui rfl (.p rfl) rfl))) | (apply yy rfl rfl rfl;apply wm rfl rfl;intro _ _ _) | (apply BQ rfl rfl;apply wn rfl rfl rfl rfl rfl rfl;(focus (repeat (exact Upd.h)));rfl;intro _ _) | apply dp) | (first | apply dT | apply bG | apply dR))
    rename_i b5 _ _ _ _
    apply wc_pub (b:=b5) Pick.h rfl;intro κ3 _ hS hsays
    have hset:=Ej hS hsays
    apply DY rfl
    repeat (first | (apply eM rfl rfl rfl;(focus (exact cb (v:=(.string _)) rfl (.p rfl)))) | (first | apply dT | apply bG))
    apply yy rfl rfl rfl;apply mu rfl rfl (xV _ b5 s (hset.mono (by (repeat (exact Kle.refl _)))) hz)
    rintro v κ4 _ ⟨u,k,rfl,h1,h2,h3,h4⟩
    apply yy rfl rfl rfl;apply mu rfl rfl (zC _ b5 u (hset.mono (by (repeat (assumption)))))
    rintro v κ5 _ ⟨u2,k2,rfl,g1,g2,g3,g4⟩
    repeat (first | (first | (apply eM rfl rfl rfl;(focus (exact cx (v:=(.string _)) rfl (.p rfl)))) | apply dp) | (first | apply dR | apply mt | apply sa))
    refine nj (xo (v:=.string _) rfl) .none ⟨rfl,u2,rfl,?_⟩
    rw [wJ]
    unfold kK
    rw [List.all_eq_true]
    constructor
    · intro h
      have hk2:k2=(bl u).length:=by
        have:=congrArg List.length (g1.symm.trans h);simp only [List.length_drop,List.length_nil] at this;omega
      intro c hc
      rw [← List.take_append_drop k (bl s)] at hc
      rcases List.mem_append.1 hc with hc | hc
      · rw [← h1] at hc;rw [hk2,List.take_length] at g3;exact g3 c hc
      · exact h3 c hc
    · intro h
      have hu:bl u=[]:=by
        rcases List.eq_nil_or_concat (bl u) with hu | ⟨l,c,hu⟩
        · exact hu
        · have hc:=h4 c (by rw [hu];simp)
          have hm:c∈bl s:=List.mem_of_mem_take (i:=k) (by rw [← h1,hu];simp)
          rw [h c hm] at hc;cases hc
      rw [g1,hu];simp
def Glob (κ:Kr):Prop:=Sh κ 0 0 [.int .i64 2,.int .i64 4,.int .i64 6,.int .i64 8]
theorem Glob.mono {κ κ':Kr} (h:Glob κ) (k:Kle κ κ'):Glob κ':=Sh.mono h k
def dN (s:ByteArray):Int:=if (s.size=2∨s.size=4∨s.size=6∨s.size=8)∧kK s=true then (s.size:Int) else 0
theorem gv_some {c:Bool} {v:Value} {P:ByteArray→Prop} (h:c=true→∃ u,v=.string u∧P u):∃ u,gv c v=gv c (.string u)∧(c=true→P u):=by
  cases c
  · exact ⟨⟨#[]⟩,by rw [iv,iv],fun h=>by cases h⟩
  · obtain ⟨u,rfl,h2⟩:=h rfl;exact ⟨u,rfl,fun _=>h2⟩
theorem Ff (κ:Kr) (s:ByteArray) (hg:Glob κ):CallP 109 [.string s] κ fun v _=>v=.int .i64 (dN s):=by
  (unfold CallP;apply ot Tryz.func109 (F3 Tryz.func109 rfl) rfl Tryz.ntmps109 Tryz.results109 rfl)
  repeat (first | (first | (apply eM rfl rfl rfl;(focus (exact cx (v:=(.int _ _)) rfl (.p rfl)))) | apply dp) | (first | apply dT | apply bG | apply dR))
  apply eM rfl rfl rfl (r8 rfl (.p rfl) (fun _=>hg) rfl)
  repeat (first | (first | (apply eM rfl rfl rfl;(focus (exact cb (v:=(.int _ _)) rfl (.p rfl)))) | apply dp) | (first | apply jR | apply dR))
  refine rB (X:=Nat) (fun k=>[(0,.string s),(5,.agg #[.int .i64 2,.int .i64 4,.int .i64 6,.int .i64 8]),(6,.int .i64 (k:Int))]) (fun _=>[]) (fun k _=>k≤4∧∀ j,j<k→¬ (s.size=2*(j+1)∧kK s=true)) (fun k=>4 - k) 0 (by (repeat (first | exact Holds.nil | apply Holds.cons rfl))) (by (repeat (exact Sub.nil))) ⟨by omega,by omega⟩ ?_
  rintro k τ κ1 _ ⟨hk,hno⟩
  simp only [uf]
  repeat (first | (first | (apply eM rfl rfl rfl;(focus (exact om rfl (.p rfl) (.p rfl) rfl))) | apply dp) | (first | apply dT | apply bG | apply dR))
  apply xr rfl <;> intro hc
  · have hk4:k<4:=by omega
    repeat (first | apply dT | apply bG | apply jR | apply dR | apply jQ)
    apply eM rfl rfl rfl (CS (cs:=[.int .i64 2,.int .i64 4,.int .i64 6,.int .i64 8]) (v:=.int .i64 (2*((k:Int)+1))) (j:=k) rfl rfl rfl rfl rfl (.p rfl) (.p rfl) (fun _=>rfl) (fun _=>hk4) (fun _=>by
      have:k=0∨k=1∨k=2∨k=3:=by omega
      rcases this with rfl | rfl | rfl | rfl <;> rfl))
    repeat (first | (first | (apply eM rfl rfl rfl;(focus (first | exact cb (v:=(.int _ _)) rfl (.p rfl) | exact cb (v:=(.bool _)) rfl (.p rfl) | exact cb (v:=(.string _)) rfl (.p rfl) | exact cx (v:=(.int _ _)) rfl (.p rfl) | exact om rfl (.p rfl) (.p rfl) rfl | exact mV rfl rfl (.p rfl)))) | (apply uh;(focus (exact oh rfl rfl rfl));rfl;rfl;(focus (apply cb (v:=(.string _)) rfl;(focus (exact Ev.p rfl))))) | apply dp) | (first | apply dT | apply bG | apply dR))
    apply wl_g;(focus (exact oh rfl rfl rfl));rfl;rfl
    refine yD rfl (ar2 (.g rfl) (.p rfl)) (fun hcc=>trim_ok _ s (by simp at hcc;omega)) fun v κ2 _ hv=>?_
    obtain ⟨u,hu,hP⟩:=gv_some hv
    rw [hu]
    repeat (first | (first | (apply eM rfl rfl rfl;(focus (exact AG rfl (.p rfl) (.p rfl) (.g rfl)))) | (apply uh;(focus (exact oh rfl rfl rfl));rfl;rfl;(focus (apply xg rfl (by (focus (exact Ev.g rfl))) (by (focus (exact Ev.p rfl)));rfl))) | apply dp) | (apply dR))
    apply lN rfl <;> intro hb
    · simp only [Bool.and_eq_true,beq_iff_eq,decide_eq_true_eq] at hb
      have hd:kK s=true:=(hP (by simpa using hb.1)).1 hb.2
      repeat (first | (first | (apply eM rfl rfl rfl;(focus (first | exact cb (v:=(.int _ _)) rfl (.p rfl) | exact cx (v:=(.int _ _)) rfl (.p rfl)))) | apply dp) | (first | apply dT | apply bG | apply dR | apply mt | apply sa | apply yK | apply AJ))
      refine nj (xo (v:=.int _ _) rfl) .none ⟨rfl,?_⟩
      show Value.int .i64 (2*((k:Int)+1))=.int .i64 (dN s)
      unfold dN
      rw [if_pos ⟨by omega,hd⟩,← hb.1]
    · repeat (first | (first | (apply eM rfl rfl rfl;(focus (first | exact cb (v:=(.int _ _)) rfl (.p rfl) | exact oo rfl (.p rfl) (.p rfl) rfl (fun _=>by omega)))) | apply dp) | (first | apply bG | apply dR | apply jQ | apply qq))
      refine xn (k+1) (by (repeat (first | exact Holds.nil | apply Holds.cons rfl))) (by (repeat (exact Sub.nil))) ⟨by omega,fun j hj=>?_⟩ (by omega)
      rcases Nat.lt_or_ge j k with h | h
      · exact hno j h
      · have:j=k:=by omega
        subst this
        rintro ⟨h1,h2⟩
        have hcc:((s.size:Int) == 2*((j:Int)+1))=true:=by simp;omega
        have:=(hP (by simpa using hcc)).2 h2
        subst this
        rw [hcc] at hb;simp at hb
  · repeat (first | (first | (apply eM rfl rfl rfl;(focus (exact cx (v:=(.int _ _)) rfl (.p rfl)))) | apply dp) | (first | apply dT | apply bG | apply dR | apply mt | apply oj | apply kz | apply kA rfl | apply jz))
    refine nj (xo (v:=.int _ _) rfl) .none ⟨rfl,?_⟩
    show Value.int .i64 0=.int .i64 (dN s)
    unfold dN
    rw [if_neg]
    rintro ⟨h1,h2⟩
    have:k=4:=by omega
    subst this
    rcases h1 with h1 | h1 | h1 | h1
    · exact hno 0 (by omega) ⟨h1,h2⟩
    · exact hno 1 (by omega) ⟨h1,h2⟩
    · exact hno 2 (by omega) ⟨h1,h2⟩
    · exact hno 3 (by omega) ⟨h1,h2⟩
end SX
namespace SX
open Go
def dJ (p0:ByteArray):Option Int:=some (dN p0)
theorem fQ {p0:ByteArray} {r:Int} (h:dJ p0=some r):PF 109 [.v (.string p0)] (.v (.int .i64 r)):=fun κ args g ha=>by
 obtain ⟨v,ws,rfl,h1,h2⟩:=ha.cons_inv
 rw [h2.nil_inv,h1.val]
 have h:=Option.some.inj h;subst h
 exact (Ff κ p0 g).mono fun v κ' _ hv=>by subst hv;exact .v rfl
def itr (b:Nat) (s:ByteArray) (pos:Nat):Res:=⟨some b,fun o=>o=some (.stringIter s pos)⟩
theorem Fg {o:Oper} {σ:PEnv} {ρ:List PRes} {x:Operand} {t:Nat} {s:ByteArray} {K:PV→List PRes→Prop} (ho:o.op=.range t x) (hu:eR t=some .string) (hx:bt σ x=.v (.string s)) (h:∀ b,K (.v (.pointer (some ⟨b,0,none⟩))) (.raw (itr b s 0)::ρ)):POpL o σ ρ K:=fun κ σ' ρ' g hs hr β hi Nx hk=>by
 have e1:=hs.v1 hx
 have h1:=run_underlying (w:=κ.w) (bK hu)
 have hrun:(execOp (ev σ') o).run Tryz.prog κ.w=.ok (.value (.pointer (some ⟨κ.w.heap.size,0,none⟩))) (κ.w.alloc (.stringIter s 0)):=by
  simp [execOp,ho,e1,Instr.range,h1,run_newObj_alloc]
 rw [hrun]
 exact hk _ _ ⟨κ.w.alloc (.stringIter s 0),κ.S⟩ (hi.alloc _ (itr κ.w.heap.size s 0) rfl rfl) (e9 hi.fin _) ⟨_,_,.v rfl,.cons .raw (hr.mono (e9 hi.fin _)),h _⟩
theorem pl_next {o:Oper} {σ:PEnv} {ρ ρ1:List PRes} {x:Operand} {b pos:Nat} {s:ByteArray} {K:PV→List PRes→Prop} (ho:o.op=.next x true) (hx:bt σ x=.v (.pointer (some ⟨b,0,none⟩))) (hu:PUpd ρ (.raw (itr b s pos)) (.raw (itr b s (pos+(Utf8.decode s pos).2))) ρ1) (h1:pos<s.size→K (.tup [.v (.bool true),.v (.int .i64 (pos:Int)),.v (.int .i32 ((Utf8.decode s pos).1:Int))]) ρ1) (h2:s.size≤pos→K (.tup [.v (.bool false)]) ρ):POpL o σ ρ K:=fun κ σ' ρ' g hs hr β hi Nx hk=>by
 have e1:=hs.v1 hx
 have hr0:=hr
 obtain ⟨r0,l1,l2,rfl,h4,h5⟩:=hr.upd hu
 cases h4 with
 | raw =>
  have hb:κ.w.heap[b]?=some (.stringIter s pos):=hi.own (itr b s pos) (by simp)
  have hg:(getObj b).run Tryz.prog κ.w=.ok (.stringIter s pos) κ.w:=by simp [getObj,Sem.run,hb]
  have hset:∀ ob,(setObj b ob).run Tryz.prog κ.w=.ok () { κ.w with heap:=κ.w.heap.setIfInBounds b ob }:=fun ob=>by simp [setObj,Sem.run,hb]
  rcases Nat.lt_or_ge pos s.size with hlt | hge
  ·have hrun:(execOp (ev σ') o).run Tryz.prog κ.w=.ok (.value (.tuple #[.bool true,goInt pos,.int .i32 ((Utf8.decode s pos).1:Int)])) { κ.w with heap:=κ.w.heap.setIfInBounds b (.stringIter s (pos+(Utf8.decode s pos).2)) }:=by
    simp [execOp,ho,e1,Instr.next,hg,hlt,hset]
   rw [hrun]
   obtain ⟨i1,i2⟩:=hi.turn (r:=itr b s pos) (r':=itr b s (pos+(Utf8.decode s pos).2)) (b:=b) (w':={ κ.w with heap:=κ.w.heap.setIfInBounds b (.stringIter s (pos+(Utf8.decode s pos).2)) }) rfl rfl rfl (fun i hi=>sZ hi) (by simp) (s7 hb) rfl rfl rfl (Nat.le_refl _)
   exact hk _ _ _ i1 i2 ⟨_,ρ1,.tup (ws:=[_,_,_]) (.cons (.v rfl) (.cons (.v rfl) (.cons (.v rfl) .nil))),h5 _ _ i2 .raw,h1 hlt⟩
  ·have hrun:(execOp (ev σ') o).run Tryz.prog κ.w=.ok (.value (.tuple #[.bool false])) κ.w:=by
    simp [execOp,ho,e1,Instr.next,hg,Nat.not_lt.2 hge]
   rw [hrun]
   exact hk _ _ κ hi (.refl _) ⟨_,ρ,.tup (ws:=[_]) (.cons (.v rfl) .nil),hr0,h2 hge⟩
def jG (s:ByteArray) (pos:Nat):Option (Nat⊕Bool):=cond (Nat.blt pos s.size) (cond (decide (((Utf8.decode s pos).1:Int)<97)||decide (122<((Utf8.decode s pos).1:Int))) (some (.inr false)) (some (.inl (pos+(Utf8.decode s pos).2)))) (some (.inr true))
def kb (p0:ByteArray):Option Bool:=cond (decide ((p0.size:Int)<1)||decide (12<(p0.size:Int))) (some false) (aN (jG p0) FUEL 0)
attribute [local irreducible] PWL PWC PWD POpL POpQ PEv PGuardIs PSub PPick PUpd PSplice PFill PLit PF PFV PCall FOk ga fa my nL jt lJ Cov PHolds aN jG
theorem tK {p0:ByteArray} {r:Bool} (h:kb p0=some r):PF 110 [pS p0] (pB r):=by
 unfold kb at h
 refine bv ?_
 refine jl Tryz.func110 rfl Tryz.ntmps110 Tryz.results110 rfl ?_
 (repeat refine af ?_)
 refine av [] [2] [] bN (by kernel_rfl) ?_
 (repeat (first | apply aG | apply aM))
 (repeat refine af ?_)
 refine av [] [5,6,7,8,9,10,11] [(12,pB (decide ((p0.size:Int)<1)||decide (12<(p0.size:Int))))] bN (by kernel_rfl) ?_
 (repeat (first | apply aG | apply aM))
 (repeat refine af ?_)
 refine gI rfl (fun hc=>?_) (fun hc=>?_)
 ·replace h:=AQ hc h
  (repeat refine af ?_)
  refine av [] [] [(2,pB false)] bN (by kernel_rfl) ?_
  (repeat (first | apply aG | apply aM))
  (repeat refine af ?_)
  refine bV ?_
  (repeat (first | apply am | apply aC | apply aY | apply oA))
  obtain rfl:=Option.some.inj h
  exact aK (cN (aL rfl)) cd ⟨rfl,rfl⟩
 replace h:=AR hc h
 refine ai ?_
 (repeat (first | apply aG | apply aM))
 (repeat refine af ?_)
 refine aa ?_
 refine bg 1 [] [] [(13,pS p0)] bN (by kernel_rfl) ?_
 refine BX rfl rfl rfl (Fg rfl rfl rfl fun b=>?_)
 refine aq ?_
 (repeat (first | apply aG | apply aM))
 (repeat refine af ?_)
 refine az (Y:=Unit) (fun _=>[]) (fun _=>[]) (fun _=>r=true) ?_ ?_
 ·refine aJ ?_
  refine aP (Y:=Unit) (S:=Nat) _ h (fun _ _=>[(14,pP b 0)]) (fun _ pos=>[PRes.raw (itr b p0 pos)]) () (by (repeat (first | exact rt | apply iY rfl))) (by (repeat (first | exact cd | (apply be;(focus (repeat (first | exact aB | apply ak))))))) ?_
  rintro _ pos o τ hb;dsimp only [aF]
  unfold jG at hb
  (repeat refine af ?_)
  refine aa ?_
  refine BX rfl rfl rfl (pl_next rfl rfl cR (fun hlt=>?_) (fun hge=>?_))
  ·have hlt':Nat.blt pos p0.size=true:=by simp [Nat.blt];omega
   rw [hlt'] at hb;simp only [bT] at hb
   refine gE [] [] [(16,pB true)] bN (by kernel_rfl) ?_
   (repeat (first | apply aG | apply aM))
   (repeat refine af ?_)
   refine gI (p:=true) rfl (fun _=>?_) (fun hf=>by cases hf)
   refine ai ?_
   (repeat (first | apply aG | apply aM))
   (repeat refine af ?_)
   refine aJ ?_
   (repeat refine af ?_)
   refine av [] [17] [(4,.v (.int .i32 ((Utf8.decode p0 pos).1:Int)))] bN (by kernel_rfl) ?_
   (repeat (first | apply aG | apply aM))
   (repeat refine af ?_)
   refine av [] [18,19,20,21,22] [(23,pB (decide (((Utf8.decode p0 pos).1:Int)<97)||decide (122<((Utf8.decode p0 pos).1:Int))))] bN (by kernel_rfl) ?_
   (repeat (first | apply aG | apply aM))
   (repeat refine af ?_)
   refine gI rfl (fun hc2=>?_) (fun hc2=>?_)
   ·replace hb:=AQ hc2 hb
    (repeat refine af ?_)
    refine av [] [] [(2,pB false)] bN (by kernel_rfl) ?_
    (repeat (first | apply aG | apply aM))
    (repeat refine af ?_)
    refine bV ?_
    (repeat (first | apply am | apply aC | apply aY | apply oA))
    refine aX hb (fun ht=>?_);subst ht
    (repeat (first | apply am | apply aC | apply aY | apply oA))
    exact aK (cN (aL rfl)) cd ⟨rfl,rfl⟩
   replace hb:=AR hc2 hb
   refine ai ?_
   (repeat apply aG)
   exact bh hb () (by (repeat (first | exact rt | apply iY rfl))) (by (repeat (first | exact cd | (apply be;(focus (repeat (first | exact aB | apply ak)))))))
  have hge':Nat.blt pos p0.size=false:=by cases e:Nat.blt pos p0.size;rfl;exact absurd (Nat.le_of_ble_eq_true e) (by omega)
  rw [hge'] at hb;simp only [bx] at hb
  refine gE [] [] [(16,pB false)] bN (by kernel_rfl) ?_
  (repeat (first | apply aG | apply aM))
  (repeat refine af ?_)
  refine gI (p:=false) rfl (fun hf=>by cases hf) (fun _=>?_)
  refine aV ?_
  (repeat (first | apply aw | apply yU | apply yV | apply pu rfl))
  refine ap hb (fun ht=>?_)
  refine au rfl ?_
  exact aH () rt cd ht.symm
 rintro _ τ hz;subst hz;dsimp only [aF]
 (repeat refine af ?_)
 refine av [] [] [(2,pB true)] bN (by kernel_rfl) ?_
 (repeat (first | apply aG | apply aM))
 (repeat refine af ?_)
 refine bV ?_
 (repeat (first | apply am | apply aC | apply aY | apply oA))
 exact aK (cN (aL rfl)) cd ⟨rfl,rfl⟩
end SX
end Go.Proofs.YtgmbmepakpcpaaaGreatDoor
namespace Go.Proofs
open Go.Shelf
def Tryz.lSF_ren:Go.Shelf.Ren:=⟨fun | 6=>49 | 15=>101 | 14=>100 | 28=>150 | 29=>151 | 20=>142 | 21=>143 | 22=>144 | 23=>145 | 24=>146 | 25=>147 | 26=>148 | 27=>149 | 46=>173 | 47=>174 | 48=>175 | 49=>176 | 50=>177 | 57=>203 | n=>n,fun | 22=>31 | 24=>28 | 25=>109 | 3=>3 | 39=>49 | 0=>0 | 53=>206 | 55=>116 | 4=>4 | 46=>200 | 45=>199 | 50=>144 | 5=>5 | 9=>9 | 66=>235 | 70=>239 | 76=>259 | 77=>260 | n=>n,fun | n=>n⟩
theorem Tryz.lSF:Go.Proofs.SlLaysF0.n6 Tryz.prog Tryz.lSF_ren:={
 mixed:=by kernel_rfl
 f6:=⟨Tryz.f49.name,by decide,Tryz.func49.trans (congrArg some (by kernel_rfl))⟩
 f14:=⟨Tryz.f100.name,by decide,Tryz.func100.trans (congrArg some (by kernel_rfl))⟩
 f15:=Tryz.func101.trans (congrArg some (by kernel_rfl))
 f20:=⟨Tryz.f142.name,by decide,Tryz.func142.trans (congrArg some (by kernel_rfl))⟩
 f21:=⟨Tryz.f143.name,by decide,Tryz.func143.trans (congrArg some (by kernel_rfl))⟩
 f22:=⟨Tryz.f144.name,by decide,Tryz.func144.trans (congrArg some (by kernel_rfl))⟩
 f23:=⟨Tryz.f145.name,by decide,Tryz.func145.trans (congrArg some (by kernel_rfl))⟩
 f24:=⟨Tryz.f146.name,by decide,Tryz.func146.trans (congrArg some (by kernel_rfl))⟩
 f25:=⟨Tryz.f147.name,by decide,Tryz.func147.trans (congrArg some (by kernel_rfl))⟩
 f26:=⟨Tryz.f148.name,by decide,Tryz.func148.trans (congrArg some (by kernel_rfl))⟩
 f27:=⟨Tryz.f149.name,by decide,Tryz.func149.trans (congrArg some (by kernel_rfl))⟩
 f28:=Tryz.func150.trans (congrArg some (by kernel_rfl))
 f29:=Tryz.func151.trans (congrArg some (by kernel_rfl))
 f46:=⟨Tryz.f173.name,by decide,Tryz.func173.trans (congrArg some (by kernel_rfl))⟩
 f47:=Tryz.func174.trans (congrArg some (by kernel_rfl))
 f48:=Tryz.func175.trans (congrArg some (by kernel_rfl))
 f49:=⟨Tryz.f176.name,by decide,Tryz.func176.trans (congrArg some (by kernel_rfl))⟩
 f50:=⟨Tryz.f177.name,by decide,Tryz.func177.trans (congrArg some (by kernel_rfl))⟩
 f57:=⟨Tryz.f203.name,by decide,Tryz.func203.trans (congrArg some (by kernel_rfl))⟩
 t0:=Tryz.underlying0
 a0:=Tryz.isAgg0
 z0:=Tryz.sizeOf0
 v0:=Tryz.zeroValue0
 t3:=Tryz.underlying3
 a3:=Tryz.isAgg3
 z3:=Tryz.sizeOf3
 v3:=Tryz.zeroValue3
 t4:=Tryz.underlying4
 a4:=Tryz.isAgg4
 z4:=Tryz.sizeOf4
 v4:=Tryz.zeroValue4
 t5:=Tryz.underlying5
 a5:=Tryz.isAgg5
 z5:=Tryz.sizeOf5
 v5:=Tryz.zeroValue5
 t9:=Tryz.underlying9
 a9:=Tryz.isAgg9
 z9:=Tryz.sizeOf9
 v9:=Tryz.zeroValue9
 t22:=Tryz.underlying31
 a22:=Tryz.isAgg31
 z22:=Tryz.sizeOf31
 v22:=Tryz.zeroValue31
 t25:=Tryz.underlying109
 a25:=Tryz.isAgg109
 z25:=Tryz.sizeOf109
 v25:=Tryz.zeroValue109
 t39:=Tryz.underlying49
 a39:=Tryz.isAgg49
 z39:=Tryz.sizeOf49
 v39:=Tryz.zeroValue49
 t45:=Tryz.underlying199
 a45:=Tryz.isAgg199
 z45:=Tryz.sizeOf199
 v45:=Tryz.zeroValue199
 t46:=Tryz.underlying200
 a46:=Tryz.isAgg200
 z46:=Tryz.sizeOf200
 v46:=Tryz.zeroValue200
 t50:=Tryz.underlying144
 a50:=Tryz.isAgg144
 z50:=Tryz.sizeOf144
 v50:=Tryz.zeroValue144
 t53:=Tryz.underlying206
 a53:=Tryz.isAgg206
 z53:=Tryz.sizeOf206
 v53:=Tryz.zeroValue206
 t55:=Tryz.underlying116
 a55:=Tryz.isAgg116
 z55:=Tryz.sizeOf116
 v55:=Tryz.zeroValue116
 t66:=Tryz.underlying235
 a66:=Tryz.isAgg235
 z66:=Tryz.sizeOf235
 v66:=Tryz.zeroValue235
 t70:=Tryz.underlying239
 a70:=Tryz.isAgg239
 z70:=Tryz.sizeOf239
 v70:=Tryz.zeroValue239
 t76:=Tryz.underlying259
 a76:=Tryz.isAgg259
 z76:=Tryz.sizeOf259
 v76:=Tryz.zeroValue259
 t77:=Tryz.underlying260
 a77:=Tryz.isAgg260
 z77:=Tryz.sizeOf260
 v77:=Tryz.zeroValue260 }
end Go.Proofs
namespace Go.Proofs
open Go.Shelf
def Tryz.lSs_ren:Go.Shelf.Ren:=⟨fun | 190=>139 | 125=>101 | 258=>170 | 128=>150 | 129=>151 | 302=>191 | 303=>192 | 304=>193 | 305=>194 | 306=>195 | 307=>196 | 308=>197 | 309=>198 | 310=>199 | 333=>209 | 329=>174 | 330=>175 | 334=>210 | 335=>211 | 336=>212 | 344=>217 | n=>n,fun | 31=>33 | 9=>9 | 3=>3 | 46=>49 | 0=>0 | 51=>206 | 53=>116 | 4=>4 | 183=>200 | 182=>199 | 131=>144 | 5=>5 | 218=>235 | 222=>239 | 228=>259 | 229=>260 | n=>n,fun | n=>n⟩
theorem Tryz.lSs:Go.Proofs.Lays.n190 Tryz.prog Tryz.lSs_ren:={
 mixed:=by kernel_rfl
 f125:=Tryz.func101.trans (congrArg some (by kernel_rfl))
 f128:=Tryz.func150.trans (congrArg some (by kernel_rfl))
 f129:=Tryz.func151.trans (congrArg some (by kernel_rfl))
 f190:=Tryz.func139.trans (congrArg some (by kernel_rfl))
 f258:=Tryz.func170.trans (congrArg some (by kernel_rfl))
 f302:=Tryz.func191.trans (congrArg some (by kernel_rfl))
 f303:=Tryz.func192.trans (congrArg some (by kernel_rfl))
 f304:=Tryz.func193.trans (congrArg some (by kernel_rfl))
 f305:=Tryz.func194.trans (congrArg some (by kernel_rfl))
 f306:=Tryz.func195.trans (congrArg some (by kernel_rfl))
 f307:=Tryz.func196.trans (congrArg some (by kernel_rfl))
 f308:=Tryz.func197.trans (congrArg some (by kernel_rfl))
 f309:=Tryz.func198.trans (congrArg some (by kernel_rfl))
 f310:=Tryz.func199.trans (congrArg some (by kernel_rfl))
 f329:=Tryz.func174.trans (congrArg some (by kernel_rfl))
 f330:=Tryz.func175.trans (congrArg some (by kernel_rfl))
 f333:=Tryz.func209.trans (congrArg some (by kernel_rfl))
 f334:=Tryz.func210.trans (congrArg some (by kernel_rfl))
 f335:=Tryz.func211.trans (congrArg some (by kernel_rfl))
 f336:=Tryz.func212.trans (congrArg some (by kernel_rfl))
 f344:=Tryz.func217.trans (congrArg some (by kernel_rfl))
 t0:=Tryz.underlying0
 a0:=Tryz.isAgg0
 z0:=Tryz.sizeOf0
 v0:=Tryz.zeroValue0
 t3:=Tryz.underlying3
 a3:=Tryz.isAgg3
 z3:=Tryz.sizeOf3
 v3:=Tryz.zeroValue3
 t4:=Tryz.underlying4
 a4:=Tryz.isAgg4
 z4:=Tryz.sizeOf4
 v4:=Tryz.zeroValue4
 t5:=Tryz.underlying5
 a5:=Tryz.isAgg5
 z5:=Tryz.sizeOf5
 v5:=Tryz.zeroValue5
 t9:=Tryz.underlying9
 a9:=Tryz.isAgg9
 z9:=Tryz.sizeOf9
 v9:=Tryz.zeroValue9
 t31:=Tryz.underlying33
 a31:=Tryz.isAgg33
 z31:=Tryz.sizeOf33
 v31:=Tryz.zeroValue33
 t46:=Tryz.underlying49
 a46:=Tryz.isAgg49
 z46:=Tryz.sizeOf49
 v46:=Tryz.zeroValue49
 t51:=Tryz.underlying206
 a51:=Tryz.isAgg206
 z51:=Tryz.sizeOf206
 v51:=Tryz.zeroValue206
 t53:=Tryz.underlying116
 a53:=Tryz.isAgg116
 z53:=Tryz.sizeOf116
 v53:=Tryz.zeroValue116
 t131:=Tryz.underlying144
 a131:=Tryz.isAgg144
 z131:=Tryz.sizeOf144
 v131:=Tryz.zeroValue144
 t182:=Tryz.underlying199
 a182:=Tryz.isAgg199
 z182:=Tryz.sizeOf199
 v182:=Tryz.zeroValue199
 t183:=Tryz.underlying200
 a183:=Tryz.isAgg200
 z183:=Tryz.sizeOf200
 v183:=Tryz.zeroValue200
 t218:=Tryz.underlying235
 a218:=Tryz.isAgg235
 z218:=Tryz.sizeOf235
 v218:=Tryz.zeroValue235
 t222:=Tryz.underlying239
 a222:=Tryz.isAgg239
 z222:=Tryz.sizeOf239
 v222:=Tryz.zeroValue239
 t228:=Tryz.underlying259
 a228:=Tryz.isAgg259
 z228:=Tryz.sizeOf259
 v228:=Tryz.zeroValue259
 t229:=Tryz.underlying260
 a229:=Tryz.isAgg260
 z229:=Tryz.sizeOf260
 v229:=Tryz.zeroValue260 }
end Go.Proofs
namespace Go.Proofs.YtgmbmepakpcpaaaGreatDoor
namespace SX
open Go
section
variable {γ:Type} [Inhabited γ]
theorem wb (e:γ→Value) (D:Array γ) (cur:Array Value) (h:D.size≤cur.size):(Sort.putCells e 0 D cur).toList.take D.size=D.toList.map e:=by
 apply List.ext_getElem
 ·simp [Sort.putCells];omega
 intro i h1 h2
 have h3:i<D.size:=by simpa using h2
 simp [Sort.putCells,h3]
theorem zD {e:γ→Value} {w:World} {b:Nat} {D:Array γ} {cur:Array Value} {T:Nat} {fr:Nat×Nat} (h:w.heap[b]?=some (.cells cur T fr)):(Sort.putRow e w b 0 D).heap[b]?=some (.cells (Sort.putCells e 0 D cur) T fr):=by
 simp [Sort.putRow,Sort.mapBlock,Array.getElem?_modify,h,Sort.onCells]
theorem uY {e:γ→Value} {w:World} {b i:Nat} {D:Array γ} (h:i≠b):(Sort.putRow e w b 0 D).heap[i]?=w.heap[i]?:=by
 simp only [Sort.putRow,Sort.mapBlock,Array.getElem?_modify]
 rw [if_neg (fun e=>h e.symm)]
theorem re {β:Base} {l:List Res} {κ:Kr} {b n c T sz m:Nat} {css css':List (List Value)} {os:Array Obj} {e:γ→Value} {D:Array γ} (hi:Zp β (Res.row (some ⟨b,0,none⟩) n c T sz css::l) κ) (hF:D.toList.map e=css'.flatten) (hl:css'.length=n) (hw:∀ cs∈css',cs.length=sz) :
    Zp β (Res.row (some ⟨b,0,none⟩) n c T sz css'::l) ⟨Sort.grow (Sort.putRow e (Sort.ahead κ.w m) b 0 D) os,κ.S⟩∧Kle κ ⟨Sort.grow (Sort.putRow e (Sort.ahead κ.w m) b 0 D) os,κ.S⟩:=by
  have ho:=hi.own _ (List.mem_cons_self)
  obtain ⟨h1,h2,h3,h4,h5,cur,h6,h7,h8⟩:=ho
  have hD:D.size=n*sz:=by
    have:=congrArg List.length hF
    rw [List.length_map,eU hw,hl] at this
    simpa using this
  have hle:D.size≤cur.size:=by rw [hD,h7];exact Nat.mul_le_mul_right _ h4
  have t1:=hi.turn (r':=Res.row (some ⟨b,0,none⟩) n c T sz css') (l1:=[]) (b:=b) (w':=Sort.putRow e (Sort.ahead κ.w m) b 0 D) rfl rfl rfl (fun i hne=>uY hne) (by simp [Sort.putRow,Sort.mapBlock,Sort.ahead])
    ⟨h1,hl,hw,h4,h5,_,zD (w:=Sort.ahead κ.w m) h6,by simpa [Sort.putCells] using h7,by rw [← hD,wb e D cur hle,hF]⟩ rfl rfl rfl (by simp [Sort.putRow,Sort.mapBlock,Sort.ahead])
  have hh:=t1.1.own _ (List.mem_cons_self)
  have hb2:b<(Sort.putRow e (Sort.ahead κ.w m) b 0 D).heap.size:=by
    have:=(t1.1.blk _ (List.mem_cons_self) b rfl).1;exact this
  have hold:∀ i,i<(Sort.putRow e (Sort.ahead κ.w m) b 0 D).heap.size→(Sort.grow (Sort.putRow e (Sort.ahead κ.w m) b 0 D) os).heap[i]?=(Sort.putRow e (Sort.ahead κ.w m) b 0 D).heap[i]?:=fun i h=>by
    simp only [Sort.grow];rw [Array.getElem?_append_left h]
  have hh2:(Res.row (some ⟨b,0,none⟩) n c T sz css').holds (Sort.grow (Sort.putRow e (Sort.ahead κ.w m) b 0 D) os):=by
    have:(Sort.grow (Sort.putRow e (Sort.ahead κ.w m) b 0 D) os).heap[b]?=(Sort.putRow e (Sort.ahead κ.w m) b 0 D).heap[b]?:=hold b hb2
    unfold Res.holds at hh ⊢
    show (Res.row (some ⟨b,0,none⟩) n c T sz css').says (Sort.grow (Sort.putRow e (Sort.ahead κ.w m) b 0 D) os).heap[b]?
    rw [this];exact hh
  obtain ⟨i3,k3⟩:=t1.1.grow (r':=Res.row (some ⟨b,0,none⟩) n c T sz css') (w':=Sort.grow (Sort.putRow e (Sort.ahead κ.w m) b 0 D) os) ⟨rfl,rfl,rfl,by simp [Sort.grow],fun i h _=>hold i h⟩ (.inr (.inl rfl)) hh2 (AK hh2) (Nat.le_refl _)
  exact ⟨i3,t1.2.trans k3⟩
end
def iT (a b:ByteArray):Bool:=Op.bytesLess a.toList b.toList
theorem pX (a b:ByteArray):iT a b=decide (a.data.toList<b.data.toList):=by
 unfold iT;rw [bytesLess_eq,ByteArray.toList_eq,ByteArray.toList_eq]
theorem Cc {κ:Kr}:∀ {xs:List ByteArray} {dss:List (List Value)},Rpss κ (xs.map eS) dss→dss=xs.map fun s=>[.string s]
 | [],_,h=>h.nil_inv
 | x::xs,_,h=>by
  obtain ⟨d,ds,rfl,h1,h2⟩:=h.cons_inv
  obtain ⟨v,vs,rfl,h3,h4⟩:=h1.cons_inv
  rw [Cc h2,h4.nil_inv,h3.val];rfl
theorem uZ {κ:Kr}:∀ {xs:List ByteArray} {dss:List (List Value)},Rpss κ (xs.map eS) dss→∀ x∈xs,xx (.string x)=true
 | [],_,_=>by simp
 | x::xs,_,h=>by
  obtain ⟨d,ds,rfl,h1,h2⟩:=h.cons_inv
  obtain ⟨v,vs,rfl,h3,h4⟩:=h1.cons_inv
  intro y hy
  rcases List.mem_cons.1 hy with rfl | hy
  ·cases h3 with | v hq=>exact hq
  exact uZ h2 y hy
theorem u3 {κ:Kr}:∀ {xs:List ByteArray},(∀ x∈xs,xx (.string x)=true)→Rpss κ (xs.map eS) (xs.map fun s=>[.string s])
 | [],_=>.nil
 | x::xs,h=>.cons (.cons (.v (h x (by simp))) .nil) (u3 fun y hy=>h y (by simp [hy]))
theorem Fh (l:List ByteArray):(l.map fun s=>[Value.string s]).flatten=l.map Value.string:=by
 induction l with
 | nil=>rfl
 | cons x xs ih=>simp [ih]
def iX (l:List ByteArray):Option (List ByteArray):=some (lf iT l)
theorem nY {α:Type} {lt:α→α→Bool} (l:List α):(lf lt l).length=l.length:=kD.length_eq
theorem Bb (l:List ByteArray):(l.map fun s=>s.data.toList).mergeSort (fun x y=>decide (x≤y))=(lf iT l).map fun s=>s.data.toList:=by
 have key:∀ x y:List UInt8,decide (x≤y) = !decide (y<x):=fun x y=>by
  rw [← decide_not];exact decide_eq_decide.2 (by rw [List.not_lt])
 refine pD (lt:=fun x y=>decide (x<y)) (fun x y h1 h2=>?_) ?_ ?_ ?_
 ·have h1:=of_decide_eq_false h1;have h2:=of_decide_eq_false h2
  exact List.le_antisymm (List.not_lt.1 h2) (List.not_lt.1 h1)
 ·have h:=List.pairwise_mergeSort (le:=fun x y:List UInt8=>decide (x≤y)) (fun a b c h1 h2=>det (List.le_trans (of_decide_eq_true h1) (of_decide_eq_true h2))) (fun a b=>by
   rcases List.le_total a b with h | h
   ·simp [h]
   simp [h]) (l.map fun s=>s.data.toList)
  exact h.imp fun {a b} hab=>by rw [key] at hab;simpa using hab
 ·rw [List.pairwise_map]
  have h:=lR (lt:=iT) (fun x y z h1 h2=>by
   rw [pX] at *;exact det (List.lt_trans (of_decide_eq_true h1) (of_decide_eq_true h2))) (fun x y z h1 h2=>by
   rw [pX] at *;exact bD (List.not_lt.2 (List.le_trans (List.not_lt.1 (of_decide_eq_false h2)) (List.not_lt.1 (of_decide_eq_false h1))))) (fun x=>by rw [pX];exact bD (List.lt_irrefl _)) l
  exact h.imp fun {a b} hab=>by rw [← pX];exact hab
 exact (List.mergeSort_perm _ _).trans (kD.symm.map _)
theorem lG {p0 r:List ByteArray} (h:iX p0=some r) {a:Option Addr} {n c:Nat}:PCall 139 [.v (.slice a n c)] [PRes.row a n c 9 1 (List.map eS p0)] (fun pv ρ'=>pv=.tup []∧ρ'=[PRes.row a n c 9 1 (List.map eS r)]):=fun κ args ρ g ha hr=>by
 obtain rfl:=Option.some.inj h
 obtain ⟨v,ws,rfl,ha1,ha2⟩:=ha.cons_inv
 rw [ha2.nil_inv,ha1.val]
 obtain ⟨r0,l',rfl,hr1,hr2⟩:=hr.cons_inv
 have:=hr2.nil_inv;subst this
 refine ⟨(F3 Tryz.func139 rfl),fun hi=>?_⟩
 cases hr1 with
 | row hb ho hc =>
  have hok:=uZ hc
  have hd:=Cc hc;subst hd
  have how:=hi.own _ (List.mem_cons_self)
  cases a with
  | none =>
   obtain ⟨rfl,rfl,h3⟩:=how
   have hp:p0=[]:=List.map_eq_nil_iff.1 h3
   subst hp
   refine (Any.slices_Sort_string_none Tryz.lSs none 0 κ.w).mono fun e w' ⟨h1,h2⟩=>?_
   subst h1 h2
   exact ⟨_,_,κ,rfl,rfl,hi,.tup [],_,.tup .nil,.cons (.row hb ho (by exact .nil)) .nil,rfl,rfl⟩
  | some ad =>
   have how2:=how
   obtain ⟨h1,h2,h3,h4,h5,cur,h6,h7,h8⟩:=how
   obtain ⟨b,off,sp⟩:=ad
   injection h1 with h1a h1b h1c
   subst h1b h1c
   have hblk:b<κ.w.heap.size:=(hi.blk _ (List.mem_cons_self) b rfl).1
   have hn:n=(p0.map fun s=>s.data.toList).length:=by rw [← h2];simp
   have hH:Sort.Holds encStr κ.w b 0 (p0.map fun s=>s.data.toList).toArray:=by
    intro j hj
    have hj2:j<p0.length:=by simpa using hj
    rw [Fh,Nat.mul_one] at h8
    have hj3:cur.toList[j]?=some (Value.string p0[j]):=by
     have e:=congrArg (fun l=>l[j]?) h8
     simp only [List.getElem?_take,List.getElem?_map] at e
     rw [if_pos (by rw [← h2];simpa using hj2),List.getElem?_eq_getElem hj2] at e
     exact e
    have hj4:cur[j]?=some (Value.string p0[j]):=by rw [← Array.getElem?_toList];exact hj3
    constructor
    ·simp only [World.cell?,h6,Option.isSome_none,Bool.false_eq_true,if_false,Nat.zero_add]
     rw [hj4]
     congr 1
     simp [getElem!_pos,hj2]
    simp [World.frozen?,h6]
   rw [hn]
   refine (Any.slices_Sort_string Tryz.lSs b 0 c _ κ.w hH hblk (by rw [← hn];unfold maxLen at h5;omega)).mono fun e w' ⟨k1,m,os,k2⟩=>?_
   subst k1 k2
   obtain ⟨i1,i2⟩:=re (m:=m) (os:=os) (e:=encStr) (css':=(lf iT p0).map fun s=>[Value.string s]) (D:=((p0.map fun s=>s.data.toList).mergeSort fun x y=>decide (x≤y)).toArray) hi (by
    rw [Bb]
    generalize lf iT p0=q
    induction q with
    | nil=>rfl
    | cons x xs ih=>simp at ih ⊢;exact ih) (by rw [List.length_map,nY];rw [← h2];simp) (by simp)
   exact ⟨_,_,⟨_,κ.S⟩,rfl,rfl,i1,.tup [],_,.tup .nil,.cons (.row hb (by intro cs hcs;obtain ⟨q,_,rfl⟩:=List.mem_map.1 hcs;intro u hu;rw [List.mem_singleton.1 hu];rfl) (u3 fun y hy=>hok y (kD.mem_iff.1 hy))) .nil,rfl,by rw [← hn]⟩
theorem le_grow {κ κ':Kr} (h:Le [] κ κ'):∃ q os',κ'.w=Sort.grow (κ.w.drewN q) os':=by
 refine ⟨κ'.w.drawn - κ.w.drawn,κ'.w.heap.extract κ.w.heap.size κ'.w.heap.size,?_⟩
 have hz:=h.kle.size
 have hd:=h.drawn
 have e1:κ'.w.heap=κ.w.heap++κ'.w.heap.extract κ.w.heap.size κ'.w.heap.size:=by
  apply Array.ext_getElem?
  intro i
  rcases Nat.lt_or_ge i κ.w.heap.size with hi | hi
  ·rw [Array.getElem?_append_left hi];exact h.same i hi (by simp)
  rw [Array.getElem?_append_right hi,Array.getElem?_extract]
  split
  ·congr 1;omega
  rw [Array.getElem?_eq_none (by omega)]
 cases hw:κ'.w with
 | mk heap tape drawn os output =>
  have h2:=h.tape;have h3:=h.os;have h4:=h.output
  rw [hw] at e1 h2 h3 h4 hd
  simp only at e1 h2 h3 h4 hd
  simp only [Sort.grow,World.drewN]
  subst h2 h3 h4
  rw [← e1]
  congr 1;omega
theorem wK {γ:Type} [Inhabited γ] (enc:γ→List Value) (k:Nat) (hk:∀ x,(enc x).length=k):∀ L:List γ,(List.range (L.length*k)).map (fun t=>(enc L[t / k]!)[t % k]!)=(L.map enc).flatten
 | []=>by simp
 | x::xs=>by
  have ih:=wK enc k hk xs
  rcases Nat.eq_zero_or_pos k with h0 | h0
  ·subst h0
   have:∀ M:List γ,(M.map enc).flatten=[]:=fun M=>by
    rw [List.flatten_eq_nil_iff];intro l hl;obtain ⟨y,_,rfl⟩:=List.mem_map.1 hl;exact List.eq_nil_of_length_eq_zero (hk y)
   rw [this];simp
  rw [List.length_cons,Nat.add_mul,Nat.one_mul,Nat.add_comm,List.range_add,List.map_append,List.map_cons,List.flatten_cons,← ih,List.map_map]
  congr 1
  ·apply List.ext_getElem
   ·simp [hk]
   intro i h1 h2
   have hi:i<k:=by simpa using h1
   simp [Nat.div_eq_of_lt hi,Nat.mod_eq_of_lt hi,getElem!_pos,h2]
  apply List.map_congr_left
  intro t _
  simp only [Function.comp,Nat.add_div_left _ h0,Nat.add_mod_left]
  rfl
theorem u6 {γ:Type} [Inhabited γ] (enc:γ→List Value) (k:Nat) (hk:∀ x,(enc x).length=k) (d:Array γ):(Sort.flatK enc k d).toList.map id=(d.toList.map enc).flatten:=by
 rw [List.map_id,← wK enc k hk]
 simp only [Sort.flatK,Array.toList_map,Array.toList_range,Array.length_toList]
 apply List.map_congr_left
 intro t _
 congr 2
 simp [getElem!_def]
section
variable {α:Type} {enc:α→List PV} {encV:α→List Value}
theorem zF {κ:Kr} (hinv:∀ x ds,Rps κ (enc x) ds→ds=encV x):∀ {xs:List α} {dss:List (List Value)},Rpss κ (xs.map enc) dss→dss=xs.map encV
 | [],_,h=>h.nil_inv
 | x::xs,_,h=>by
  obtain ⟨d,ds,rfl,h1,h2⟩:=h.cons_inv
  rw [zF hinv h2,hinv _ _ h1];rfl
theorem th {κ:Kr} (hmk:∀ x,Rps κ (enc x) (encV x)):∀ {xs:List α},Rpss κ (xs.map enc) (xs.map encV)
 | []=>.nil
 | x::xs=>.cons (hmk x) (th hmk)
theorem callSF [Inhabited α] {f g T k:Nat} {ρs:Shelf.Ren} (L:SlLaysF0.n6 Tryz.prog ρs) (hf:ρs.f 6=f) (fOk:FnOk f) (gOk:FnOk g) (aE:∀ w,(isAgg (ρs.t 24)).run Tryz.prog w=.ok true w) (zE:∀ w,(Go.sizeOf (ρs.t 24)).run Tryz.prog w=.ok k w)
    (hk:∀ x,(encV x).length=k) (h1:∀ x,∀ v∈encV x,v.oneCell'=true) (hinv:∀ κ x ds,Rps κ (enc x) ds→ds=encV x) (hmk:∀ κ x,Rps κ (enc x) (encV x)) (cf:α→α→Int) (hO:Sort.SWO (ltOf cf)) (hT:∀ x y,ltOf cf x y=false→ltOf cf y x=false→x=y)
    (hcmp:∀ x y,PF g [.agg (enc x),.agg (enc y)] (pI (cf x y))) {p0:List α} {a:Option Addr} {n c:Nat}:PCall f [.v (.slice a n c),.fn g []] [PRes.row a n c T k (List.map enc p0)] (fun pv ρ'=>pv=.tup []∧ρ'=[PRes.row a n c T k (List.map enc (lf (ltOf cf) p0))]):=fun κ args ρ gk ha hr=>by
  subst hf
  obtain ⟨v,ws,rfl,ha1,ha2⟩:=ha.cons_inv
  obtain ⟨v2,ws2,rfl,ha3,ha4⟩:=ha2.cons_inv
  rw [ha4.nil_inv,ha1.val]
  have hv2:v2=.func (.func g) #[] #[]:=by
    cases ha3 with
    | fn h=>rw [h.nil_inv]
  subst hv2
  obtain ⟨r0,l',rfl,hr1,hr2⟩:=hr.cons_inv
  have:=hr2.nil_inv;subst this
  refine ⟨fOk,fun hi=>?_⟩
  have hn1:∀ l:List α,∀ cs∈l.map encV,cs.length=k:=fun l cs hcs=>by obtain ⟨q,_,rfl⟩:=List.mem_map.1 hcs;exact hk q
  cases hr1 with
  | row hb ho hc =>
    have hd:=zF (hinv κ) hc;subst hd
    have how:=hi.own _ (List.mem_cons_self)
    cases a with
    | none =>
      obtain ⟨rfl,rfl,h3⟩:=how
      have hp:p0=[]:=List.map_eq_nil_iff.1 h3
      subst hp
      refine (AnyF.slices_SortFunc_none L none 0 _ κ.w).mono fun e w' ⟨h1,h2⟩=>?_
      subst h1 h2
      exact ⟨_,_,κ,rfl,rfl,hi,.tup [],_,.tup .nil,.cons (.row hb ho (by exact .nil)) .nil,rfl,rfl⟩
    | some ad =>
      obtain ⟨q1,h2,h3,h4,h5,cur,h6,h7,h8⟩:=how
      obtain ⟨b,off,sp⟩:=ad
      injection q1 with h1a h1b h1c
      subst h1b h1c
      have hblk:b<κ.w.heap.size:=(hi.blk _ (List.mem_cons_self) b rfl).1
      have hn:n=p0.toArray.size:=by rw [← h2];simp
      have hz:(Sort.flatK encV k p0.toArray).size=n*k:=by rw [Sort.size_flatK,← hn]
      have hft:(Sort.flatK encV k p0.toArray).toList=cur.toList.take (n*k):=by
        rw [h8,← u6 encV k hk,List.map_id]
      have hH:Sort.HoldsK encV k κ.w b 0 p0.toArray:=by
        intro j hj
        have hj2:j<n*k:=by rw [← hz];exact hj
        have hj3:(Sort.flatK encV k p0.toArray)[j]?=cur[j]?:=by
          rw [← Array.getElem?_toList,hft,List.getElem?_take,if_pos hj2,Array.getElem?_toList]
        constructor
        · simp only [World.cell?,h6,Option.isSome_none,Bool.false_eq_true,if_false,Nat.zero_add]
          rw [← hj3,Array.getElem?_eq_getElem hj,getElem!_pos _ j hj];rfl
        simp [World.frozen?,h6]
      have hcl:CmpLays Tryz.prog g #[] encV k cf b 0 p0.toArray.size κ.w:=fun m os dk hs x y=>by
        obtain ⟨i1,k1⟩:=re (m:=m) (os:=os) (e:=id) (D:=Sort.flatK encV k dk) (css':=dk.toList.map encV) hi (u6 encV k hk dk) (by rw [List.length_map,Array.length_toList,hs,hn]) (hn1 _)
        have hc2:=hcmp x y ⟨_,κ.S⟩ [.agg (encV x).toArray,.agg (encV y).toArray] (gk.mono k1) (.cons (.agg (h1 x) (hmk _ x)) (.cons (.agg (h1 y) (hmk _ y)) .nil))
        refine (hc2.2 ⟨Le.refl _ _,i1.fin,by simp,by simp,List.Pairwise.nil⟩).mono fun e w' ⟨v,ρ',κ',g1,g2,g3,g4⟩=>?_
        obtain ⟨q,os',hq⟩:=le_grow g3.le
        subst g1 g2
        exact ⟨by rw [g4.2.val],q,os',hq⟩
      rw [hn]
      refine (AnyQ.slices_SortFunc_total L k aE zE encV hk h1 cf hO g #[] b 0 c p0.toArray κ.w (fun args w=>lO gOk args w) hcl hH hblk (by rw [← hn];unfold maxLen at h5;omega) hT).mono fun e w' ⟨k1,m,os,k2⟩=>?_
      have hso:(p0.toArray.toList.mergeSort fun x y => !(ltOf cf) y x)=lf (ltOf cf) p0:=by
        refine pD (lt:=ltOf cf) hT ?_ (lR hO.trans hO.ntrans hO.irrefl p0) ((List.mergeSort_perm _ _).trans kD.symm)
        have h:=List.pairwise_mergeSort (le:=fun x y:α => !(ltOf cf) y x) (fun a b c h1 h2=>by
          simp only [Bool.not_eq_true'] at h1 h2 ⊢;exact hO.ntrans _ _ _ h2 h1) (fun a b=>by
          cases e1:ltOf cf b a
          · simp
          cases e2:ltOf cf a b
          · simp
          have:=hO.trans _ _ _ e1 e2;rw [hO.irrefl] at this;cases this) p0
        exact h.imp fun {a b} hab=>by simpa using hab
      rw [hso] at k2
      subst k1 k2
      obtain ⟨i1,i2⟩:=re (m:=m) (os:=os) (e:=id) (css':=(lf (ltOf cf) p0).map encV) (D:=Sort.flatK encV k (lf (ltOf cf) p0).toArray) hi (u6 encV k hk _) (by rw [List.length_map,nY];rw [← h2];simp) (hn1 _)
      exact ⟨_,_,⟨_,κ.S⟩,rfl,rfl,i1,.tup [],_,.tup .nil,.cons (.row hb (by intro cs hcs;obtain ⟨q,_,rfl⟩:=List.mem_map.1 hcs;exact h1 q) (th (hmk _))) .nil,rfl,by rw [← hn]⟩
end
theorem Fi (a b:Int):dE a b=some (if a<b then -1 else if b<a then 1 else 0):=by
 unfold dE jc
 simp only [bne_self_eq_false,ba,bx]
 by_cases h:a<b
 ·rw [det h,if_pos h];rfl
 rw [bD h,if_neg h]
 by_cases h2:b<a
 ·rw [det h2,if_pos h2];rfl
 rw [bD h2,if_neg h2];rfl
theorem Fj (a b:Int):kG [a,b]=some (if a=0 then b else a):=by
 unfold kG
 refine (bA (l:=[a,b]) (by simp) (fun _ x=>cond (x != 0) (some (.inr x)) none) (.inl ()) (fun k hk=>?_) (by rw [cJ];rfl)).trans ?_
 ·rw [gV hk,bT,o8 (aD hk),bO hk (by simp)]
  cases ([a,b][k] != 0) <;> rfl
 rw [iz (fun x:Int=>x != 0) (fun x=>(Sum.inr x:Unit⊕Int))]
 by_cases ha:a=0
 ·subst ha
  by_cases hb:b=0
  ·subst hb;rfl
  simp [hb]
 simp [ha]
def bm (x y:Za):Bool:=decide (x.Product<y.Product)||(decide (x.Product=y.Product)&&decide (x.Agreement<y.Agreement))
def ma (x y:Za):Int:=if (if x.Product<y.Product then (-1:Int) else if y.Product<x.Product then 1 else 0)=0 then (if x.Agreement<y.Agreement then -1 else if y.Agreement<x.Agreement then 1 else 0) else (if x.Product<y.Product then -1 else if y.Product<x.Product then 1 else 0)
theorem ri:ltOf ma=bm:=by
 funext x y
 unfold ltOf ma bm
 rcases Int.lt_trichotomy x.Product y.Product with h | h | h
 ·rw [if_pos h];simp [h]
 ·simp only [h,Int.lt_irrefl,if_false,if_true,decide_false,decide_true,Bool.false_or,Bool.true_and]
  rcases Int.lt_trichotomy x.Agreement y.Agreement with h2 | h2 | h2
  ·rw [if_pos h2];simp [h2]
  ·simp [h2]
  rw [if_neg (by omega),if_pos h2];simp;omega
 have h1:¬ x.Product<y.Product:=by omega
 have h3:¬ x.Product=y.Product:=by omega
 simp [h,h1,h3]
theorem Df (x y:Za):eP x y=some (ma x y):=by
 unfold eP ma
 rw [Fi,Fi]
 simp only [ba,Fj]
theorem tj (x y:Za):bm x y=true↔x.Product<y.Product∨(x.Product=y.Product∧x.Agreement<y.Agreement):=by simp [bm]
theorem pZ (x y:Za):bm x y=false↔¬ (x.Product<y.Product∨(x.Product=y.Product∧x.Agreement<y.Agreement)):=by rw [← tj];simp
theorem tk (x:Za):bm x x=false:=by rw [pZ];omega
theorem u9 (x y z:Za):bm x y=true→bm y z=true→bm x z=true:=by simp only [tj];omega
theorem tl (x y z:Za):bm x y=false→bm y z=false→bm x z=false:=by simp only [pZ];omega
theorem tm (x y:Za):bm x y=false→bm y x=false→x=y:=by
 simp only [pZ];intro h1 h2
 cases x;cases y;simp at h1 h2 ⊢;omega
def br (l:List Za):Option (List Za):=some (lf bm l)
theorem bW {p0 r:List Za} (h:br p0=some r) {a:Option Addr} {n c:Nat}:PCall 49 [.v (.slice a n c),.fn 50 []] [PRes.row a n c 28 2 (List.map Za.enc p0)] (fun pv ρ'=>pv=.tup []∧ρ'=[PRes.row a n c 28 2 (List.map Za.enc r)]):=by
 obtain rfl:=Option.some.inj h
 rw [← ri]
 exact callSF Tryz.lSF rfl (F3 Tryz.func49 rfl) (F3 Tryz.func50 rfl) Tryz.isAgg28 Tryz.sizeOf28 (encV:=fun x=>[.int .i64 x.Product,.int .i64 x.Agreement]) (fun _=>rfl)
  (fun x v hv=>by simp at hv;rcases hv with rfl | rfl <;> rfl) (fun κ x ds h=>by
   obtain ⟨v,ws,rfl,h1,h2⟩:=h.cons_inv
   obtain ⟨v2,ws2,rfl,h3,h4⟩:=h2.cons_inv
   rw [h1.val,h3.val,h4.nil_inv]) (fun κ x=>.cons (.v rfl) (.cons (.v rfl) .nil)) ma
  (by rw [ri];exact ⟨tk,u9,tl⟩) (by rw [ri];exact tm) (fun x y=>lV (Df x y))
theorem Bc (x y:Za):dl x y=some (ma x y):=by
 unfold dl ma
 rw [Fi,Fi]
 simp only [ba,Fj]
end SX
end Go.Proofs.YtgmbmepakpcpaaaGreatDoor
