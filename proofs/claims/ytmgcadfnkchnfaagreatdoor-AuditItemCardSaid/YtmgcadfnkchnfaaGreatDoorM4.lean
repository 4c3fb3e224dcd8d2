/- A part of the proof: texts of the walk and of the plain laws, merged. No condition. -/
import Derived.Test.YtmgcadfnkchnfaaGreatDoorM3
set_option linter.unusedVariables false
set_option linter.unusedSimpArgs false
set_option maxHeartbeats 4000000
set_option maxRecDepth 100000
namespace Go.Proofs.YtmgcadfnkchnfaaGreatDoor
namespace SX
open Go
attribute [local irreducible] PWL PWC PWD POpL POpQ PEv PGuardIs PSub PPick PUpd PSplice PFill PLit PF PFV PCall FOk fb fL mG nQ kX ld Cov PHolds bu idx app mk gd lb nz oO Ci sub nq ez oN uQ eX cV ex dN IntKind.wrap Int.tmod Int.tdiv Op.bytesLess strOfNums
def fy (p0:ByteArray) (p1:ByteArray):Option Bool:=(gd (decide ((p1.size:Int)≤(p0.size:Int))) (nq p0 0 (p1.size:Int))).bind fun s1=>some ((decide ((p1.size:Int)≤(p0.size:Int)))&&(decide (s1=p1)))
theorem mz {p0:ByteArray} {p1:ByteArray} {r:Bool}  (h:fy p0 p1=some r):PF 174 [pS p0,pS p1] (pB r):=by
 unfold fy at h
 refine bo ?_
 refine dZ Tryz.func174 rfl Tryz.ntmps174 Tryz.results174 rfl (bh [4] (by kernel_rfl) (dV h fun s1 hs1 h=>aB [] (rg 5 13) [(4,pB ((decide ((p1.size:Int)≤(p0.size:Int)))&&(decide (s1=p1))))] (fossg 9 (cY hs1) bL) (by kernel_rfl) (dC ?_)))
 exact zz r h rfl
def fO (p0:ByteArray) (p1:ByteArray):Option Bool:=(fy p0 p1).bind fun x1=>some x1
theorem oa {p0:ByteArray} {p1:ByteArray} {r:Bool}  (h:fO p0 p1=some r):PF 141 [pS p0,pS p1] (pB r):=by
 unfold fO at h
 refine bo ?_
 refine dZ Tryz.func141 rfl Tryz.ntmps141 Tryz.results141 rfl (bh [4] (by kernel_rfl) (dV h fun x1 hx1 h=>aB [] [5,6,7] [(4,pB x1)] (bw 2 (mz hx1) bL) (by kernel_rfl) (dC ?_)))
 exact zz r h rfl
def ec (p0:(List ByteArray)) (p1:ByteArray):Option Int:=(bu (S:=Int) (T:=(Unit)⊕(_)) (fun v1=>cond (decide (v1<(p0.length:Int))) ((idx p0 v1).bind fun m5=>cond (decide (p1=m5)) (some (.inr (.inr v1))) (some (.inl (IntKind.i64.wrap (v1+1))))) (some (.inr (.inl ())))) FUEL 0).bind fun q=>match q with | .inl _=>some (-1) | .inr e=>some e
theorem kO {p0:(List ByteArray)} {p1:ByteArray} {r:Int}  (h:ec p0 p1=some r):PF 175 [pL eS p0,pS p1] (pI r):=by
 unfold ec at h
 refine bo ?_
 refine dZ Tryz.func175 rfl Tryz.ntmps175 Tryz.results175 rfl (bh [4] (by kernel_rfl) (cQ (an [6] [(7,pI (p0.length:Int)),(8,pI 0)] (by kernel_rfl) (ga h fun q3 hq3 h=>?_))))
 refine av (Y:=Unit×Unit) (fun (_,_)=>[]) (fun (_,_)=>[]) (fun (_,_)=>q3=Sum.inl ()) ?_ ?_
 ·refine aR ?_
  refine aZ (Y:=Unit) (S:=Int) _ hq3 (fun _ v1=>[(0,pL eS p0),(1,pS p1),(7,pI (p0.length:Int)),(8,pI v1)]) (fun _ v1=>[]) () (iP rfl) bZ ?_
  rintro _ v1 o τ hb2;(try dsimp only at hb2);dsimp only [aK]
  refine ah (ap [(9,pB (decide (v1<(p0.length:Int))))] (by kernel_rfl) (cw (kU rfl hb2 (fun hc4 hb2=>?_) fun hc4 hb2=>?_)))
  ·refine ae ?_
   refine cw (jX (an [10] [(5,pI v1)] (by kernel_rfl) (dV hb2 fun m5 hm5 hb2=>aB [] (rg 11 5) [(16,pB (decide (p1=m5)))] (fC 3 eS hm5 bL) (by kernel_rfl) (dW rfl hb2 (fun hc6 hb2=>?_) fun hc6 hb2=>?_))))
   ·refine ah ?_
    refine an [17] [(4,pI v1)] (by kernel_rfl) (dC (au (aO ?_)))
    refine bH hb2 (fun ht=>?_);subst ht
    refine au (bz ?_)
    exact zz r h rfl
   refine ae ?_
   refine aq (aW (an [18] [(8,pI (IntKind.i64.wrap (v1+1)))] (by kernel_rfl) ?_))
   exact bt hb2 () (iP rfl) bZ
  refine bc ?_
  refine aP (aJ hb2 (fun ht=>aM rfl ?_))
  exact am ((),()) sL bZ ht.symm
 rintro ⟨_,_⟩ τ hz;(try dsimp only at hz);subst q3;(try dsimp only at h);dsimp only [aK]
 refine ah (ap [(4,pI (-1))] (by kernel_rfl) (dC ?_))
 exact zz r h rfl
def cW (p0:(List ByteArray)) (p1:ByteArray):Option Bool:=(ec p0 p1).bind fun x1=>some (decide (0≤x1))
theorem jM {p0:(List ByteArray)} {p1:ByteArray} {r:Bool}  (h:cW p0 p1=some r):PF 142 [pL eS p0,pS p1] (pB r):=by
 unfold cW at h
 refine bo ?_
 refine dZ Tryz.func142 rfl Tryz.ntmps142 Tryz.results142 rfl (bh [4] (by kernel_rfl) (dV h fun x1 hx1 h=>aB [] [5,6,7,8] [(4,pB (decide (0≤x1)))] (bw 2 (kO hx1) bL) (by kernel_rfl) (dC ?_)))
 exact zz r h rfl
def ed (p0:Zb) (p1:ByteArray) (p2:ByteArray) (p3:Int) (p4:Int):Option Bool:=(ja p0 p4).bind fun x2=>(gd x2 (fO p1 p0.Prefix)).bind fun x3=>(gd ((x2&&x3)&&(!((p0.Origins.length:Int) == 0))) (cW p0.Origins p2)).bind fun x4=>some (((x2&&x3)&&(((p0.Origins.length:Int) == 0)||x4))&&((p0.Company == 0)||(p0.Company == p3)))
theorem qv {p0:Zb} {p1:ByteArray} {p2:ByteArray} {p3:Int} {p4:Int} {r:Bool}  (h:ed p0 p1 p2 p3 p4=some r):PF 116 [.agg (bk p0),pS p1,pS p2,pI p3,pI p4] (pB r):=by
 unfold ed at h
 refine bo ?_
 refine dZ Tryz.func116 rfl Tryz.ntmps116 Tryz.results116 rfl (dj rfl (bC (cs:=(bk p0)) rfl rfl (fun b1=>br [10] (by kernel_rfl) (dV h fun x2 hx2 h=>aa h fun x3 hx3 h=>aa h fun x4 hx4 h=>aB [0,0,0,0,0,0] (rg 11 32) [(10,pB (((x2&&x3)&&(((p0.Origins.length:Int) == 0)||x4))&&((p0.Company == 0)||(p0.Company == p3))))] (bw 2 (pz hx2) (eU 7 (fun hc=>oa (cY hx3 hc)) (eU 18 (fun hc=>jM (cY hx4 hc)) bL))) (by kernel_rfl) (dC ?_)))))
 exact zz r h rfl
def dF (p0:Zb) (p1:Zb):Option Bool:=cond ((p0.Prefix.size:Int) != (p1.Prefix.size:Int)) (some (decide ((p1.Prefix.size:Int)<(p0.Prefix.size:Int)))) (cond ((p0.Company != 0) != (p1.Company != 0)) (some (p0.Company != 0)) (cond ((p0.Origins.length:Int) != (p1.Origins.length:Int)) (some (((p1.Origins.length:Int) == 0)||(((p0.Origins.length:Int) != 0)&&(decide ((p0.Origins.length:Int)<(p1.Origins.length:Int)))))) (some (decide (p1.ID<p0.ID)))))
theorem oR {p0:Zb} {p1:Zb} {r:Bool}  (h:dF p0 p1=some r):PF 117 [.agg (bk p0),.agg (bk p1)] (pB r):=by
 unfold dF at h
 refine bo ?_
 refine dZ Tryz.func117 rfl Tryz.ntmps117 Tryz.results117 rfl (dj rfl (bC (cs:=(bk p0)) rfl rfl (fun b1=>aF rfl (bC (cs:=(bk p1)) rfl rfl (fun b2=>br [4] (by kernel_rfl) (cQ (aV [1,0] (rg 5 6) [(11,pB ((p0.Prefix.size:Int) != (p1.Prefix.size:Int)))] (by kernel_rfl) (dW rfl h (fun hc3 h=>?_) fun hc3 h=>?_))))))))
 ·refine ah ?_
  refine aV [1,0] (rg 12 7) [(4,pB (decide ((p1.Prefix.size:Int)<(p0.Prefix.size:Int))))] (by kernel_rfl) (ua ?_)
  exact zz r h rfl
 refine ae ?_
 refine cQ (aV [1,0] (rg 19 6) [(25,pB ((p0.Company != 0) != (p1.Company != 0)))] (by kernel_rfl) (dW rfl h (fun hc4 h=>?_) fun hc4 h=>?_))
 ·refine ah ?_
  refine aV [1] [26,27,28] [(4,pB (p0.Company != 0))] (by kernel_rfl) (ua ?_)
  exact zz r h rfl
 refine ae ?_
 refine cQ (aV [1,0] (rg 29 6) [(35,pB ((p0.Origins.length:Int) != (p1.Origins.length:Int)))] (by kernel_rfl) (dW rfl h (fun hc5 h=>?_) fun hc5 h=>?_))
 ·refine ah ?_
  refine aV [0,1,1,0] (rg 36 19) [(4,pB (((p1.Origins.length:Int) == 0)||(((p0.Origins.length:Int) != 0)&&(decide ((p0.Origins.length:Int)<(p1.Origins.length:Int))))))] (by kernel_rfl) (ua ?_)
  exact zz r h rfl
 refine ae ?_
 refine cw (aV [1,0] (rg 55 5) [(4,pB (decide (p1.ID<p0.ID)))] (by kernel_rfl) (dC ?_))
 exact zz r h rfl
def cA (p0:(List ByteArray)):Option (List ByteArray):=app 16 ([]:List ByteArray) p0
theorem kQ {p0:(List ByteArray)} {r:(List ByteArray)} (h:cA p0=some r):PCall 118 [pL eS p0] [] (fun pv ρ'=>∃ a c,pv=.v (.slice a r.length c)∧ρ'=[PRes.row a r.length c 9 1 (List.map eS r)]):=by
 unfold cA at h
 refine ky Tryz.func118 rfl Tryz.ntmps118 Tryz.results118 rfl ?_
 (repeat refine ah ?_)
 refine aj (bM rfl rfl rfl (be (p:=.v (.slice none 0 0)) rfl (.p rfl)) (ar (aW ?_)))
 (repeat refine ah ?_)
 refine aj (bM rfl rfl rfl (cM (p:=pL eS p0) rfl (.p rfl)) (ri rfl rfl rfl rfl rfl rfl (fun b hb=>ar (aW ?_))))
 refine qd rfl (fun hc=>?_) (fun hc=>?_)
 ·have e0:p0=[]:=List.map_eq_nil_iff.1 (hb hc)
  subst e0;obtain ⟨rfl,_⟩:=mH h
  (repeat refine ah ?_)
  refine aj (bM rfl rfl rfl (be (p:=.v (.slice none 0 0)) rfl (.p rfl)) (ar (aW (fj 9 1 (cd (aO ?_))))))
  exact aI (fM (aD rfl)) cq ⟨_,_,rfl,rfl⟩
 refine ae ?_
 refine aW ?_
 (repeat refine ah ?_)
 refine dj rfl (bg rfl rfl rfl rfl rfl eY rfl rfl rfl rfl (fun b1=>bM rfl rfl rfl (cM (p:=pL eS p0) rfl (.p rfl)) ?_))
 refine aF rfl (aS (enc:=eS) (xs:=([]:List ByteArray)) rfl rfl rfl rfl rfl (fun _=>rfl) rfl rfl rfl (by exact aN) h (fun a c=>?_))
 refine bM rfl rfl rfl (be (p:=.v (.slice a r.length c)) rfl (.p rfl)) (ar (dC ?_))
 exact aI (fM (aD rfl)) cq ⟨_,_,rfl,rfl⟩
def ft (p0:(List Zb)) (p1:ByteArray) (p2:ByteArray) (p3:Int) (p4:Int):Option (List Zb):=(bu (S:=(List Zb)×Int) (T:=((List Zb))) (fun (l2,v5)=>cond (decide (v5≤6)) (((bu (S:=Int×Int) (T:=(Int)) (fun (v19,v20)=>cond (decide (v20<(p0.length:Int))) (((idx p0 v20).bind fun m29=>(gd (m29.Kind == v5) (ed m29 p1 p2 p3 p4)).bind fun x31=>(gd (((m29.Kind == v5)&&x31)&&(!(decide (v19<0)))) (idx p0 v19)).bind fun m32=>(gd (((m29.Kind == v5)&&x31)&&(!(decide (v19<0)))) (dF m29 m32)).bind fun x33=>cond (((m29.Kind == v5)&&x31)&&((decide (v19<0))||x33)) (some v20) (some v19)).bind fun v27=>some (.inl (v27,(IntKind.i64.wrap (v20+1))))) (some (.inr v19))) FUEL ((-1),0)).bind fun v22=>cond (decide (0≤v22)) ((idx p0 v22).bind fun m36=>(cA m36.Origins).bind fun x38=>(app 144 l2 [(⟨m36.ID,m36.Kind,m36.Prefix,x38,m36.Company,m36.From,m36.To,m36.Registered,m36.Duty⟩:Zb)]).bind fun l44=>some l44) (some l2)).bind fun l17=>some (.inl (l17,(IntKind.i64.wrap (v5+1))))) (some (.inr l2))) FUEL (([]:List Zb),1)).bind fun l9=>some l9
theorem nK {p0:(List Zb)} {p1:ByteArray} {p2:ByteArray} {p3:Int} {p4:Int} {r:(List Zb)}  (h:ft p0 p1 p2 p3 p4=some r):PF 77 [pL Zb.enc p0,pS p1,pS p2,pI p3,pI p4] (pL Zb.enc r):=by
 unfold ft at h
 refine bo ?_
 refine dZ Tryz.func77 rfl Tryz.ntmps77 Tryz.results77 rfl (bh [10] (by kernel_rfl) (cw (ap [(11,pN)] (by kernel_rfl) (cQ (ap [(12,pI 1)] (by kernel_rfl) (aW (fj 68 15 (aa h fun q11 hq11 h=>?_))))))))
 refine av (Y:=(Option Addr×Nat)×((List Zb))) (fun ((a7,c8),l9)=>[(11,pO a7 l9.length c8)]) (fun ((a7,c8),l9)=>[PRes.row a7 l9.length c8 68 15 (List.map Zb.enc l9)]) (fun ((a7,c8),l9)=>q11=l9) ?_ ?_
 ·refine aR ?_
  refine aZ (Y:=Option Addr×Nat) (S:=(List Zb)×Int) _ hq11 (fun (a3,c4) (l2,v5)=>[(0,pL Zb.enc p0),(1,pS p1),(2,pS p2),(3,pI p3),(4,pI p4),(11,pO a3 l2.length c4),(12,pI v5)]) (fun (a3,c4) (l2,v5)=>[PRes.row a3 l2.length c4 68 15 (List.map Zb.enc l2)]) (none,0) (tM rfl) cq ?_
  rintro ⟨a3,c4⟩ ⟨l2,v5⟩ o τ hb10;(try dsimp only at hb10);dsimp only [aK]
  refine gh (bU [17] [(18,pB (decide (v5≤6)))] (by kernel_rfl) rfl hb10 (fun hc13 hb10=>?_) fun hc13 hb10=>?_)
  ·refine ae ?_
   refine dV hb10 fun q18 hq18 hb10=>?_
   refine av (Y:=(Option Addr×Nat)×((List Zb))) (fun ((a15,c16),l17)=>[(0,pL Zb.enc p0),(1,pS p1),(2,pS p2),(3,pI p3),(4,pI p4),(11,pO a15 l17.length c16),(12,pI v5)]) (fun ((a15,c16),l17)=>[PRes.row a15 l17.length c16 68 15 (List.map Zb.enc l17)]) (fun ((a15,c16),l17)=>q18=l17) ?_ ?_
   ·skip
    refine jX (ap [(13,pI (-1))] (by kernel_rfl) (cQ (ap [(21,pL Zb.enc p0),(22,pI (p0.length:Int)),(23,pI 0)] (by kernel_rfl) (ga hq18 fun q24 hq24 hq18=>?_))))
    refine av (Y:=Unit×Int) (fun (_,v22)=>[(0,pL Zb.enc p0),(1,pS p1),(2,pS p2),(3,pI p3),(4,pI p4),(11,pO a3 l2.length c4),(12,pI v5),(13,pI v22)]) (fun (_,v22)=>[PRes.row a3 l2.length c4 68 15 (List.map Zb.enc l2)]) (fun (_,v22)=>q24=v22) ?_ ?_
    ·refine aR ?_
     refine aZ (Y:=Unit) (S:=Int×Int) _ hq24 (fun _ (v19,v20)=>[(0,pL Zb.enc p0),(1,pS p1),(2,pS p2),(3,pI p3),(4,pI p4),(11,pO a3 l2.length c4),(12,pI v5),(13,pI v19),(21,pL Zb.enc p0),(22,pI (p0.length:Int)),(23,pI v20)]) (fun _ (v19,v20)=>[PRes.row a3 l2.length c4 68 15 (List.map Zb.enc l2)]) () (gu rfl (gu rfl (qi rfl))) cq ?_
     rintro _ ⟨v19,v20⟩ o τ hb23;(try dsimp only at hb23);dsimp only [aK]
     refine ah (ap [(24,pB (decide (v20<(p0.length:Int))))] (by kernel_rfl) (cw (kU rfl hb23 (fun hc25 hb23=>?_) fun hc25 hb23=>?_)))
     ·refine ae ?_
      refine dV hb23 fun q28 hq28 hb23=>?_
      refine av (Y:=Unit×Int) (fun (_,v27)=>[(0,pL Zb.enc p0),(1,pS p1),(2,pS p2),(3,pI p3),(4,pI p4),(11,pO a3 l2.length c4),(12,pI v5),(13,pI v27),(21,pL Zb.enc p0),(22,pI (p0.length:Int)),(23,pI v20)]) (fun (_,v27)=>[PRes.row a3 l2.length c4 68 15 (List.map Zb.enc l2)]) (fun (_,v27)=>q28=v27) ?_ ?_
      ·skip
       refine jX (aa hq28 fun m29 hm29 hq28=>aj (bp 3 [] [26] [(25,pI v20),(27,.agg (bk m29))] (fC 1 Zb.enc hm29 bL) (by kernel_rfl) (aF rfl (aY (cs:=[pI 0,pI 0,pS ByteArray.empty,pN,pI 0,pI 0,pI 0,pI 0,pI 0,pI 0,pI 0,pB false,pI 0,pB false,pI 0]) rfl rfl rfl rfl (fun b30=>bE 1 [(14,pI v20)] (by kernel_rfl) (aH rfl rfl (ag (vs:=(bk m29)) rfl rfl rfl rfl rfl bB (eH (eH (eH (eH (eH (eH C6)))))) (ar (cw (bN (ρd:=[]) [(0,0),(1,0),(2,0),(3,0),(4,0),(5,0),(6,0),(7,0),(8,0),(9,0),(10,1),(11,0),(12,0),(13,0),(14,0),(15,0),(16,0),(17,0),(18,0),(19,0),(20,0),(21,1),(22,0),(23,0)] _ (List.Perm.refl _) (by kernel_rfl) rfl (aa hq28 fun x31 hx31 hq28=>aa hq28 fun m32 hm32 hq28=>aa hq28 fun x33 hx33 hq28=>cr 24 [0,0,0] (rg 28 23) [(51,pB (((m29.Kind == v5)&&x31)&&((decide (v19<0))||x33)))] (eU 10 (fun hc=>qv (cY hx31 hc)) (jW 19 Zb.enc (cY hm32) (eU 21 (fun hc=>oR (cY hx33 hc)) bL))) (by kernel_rfl) (cC (dW rfl hq28 (fun hc34 hq28=>?_) fun hc34 hq28=>?_)))))))))))))
       ·refine an [52] [(13,pI v20)] (by kernel_rfl) ?_
        refine aq ?_
        obtain rfl:=osi hq28
        exact am ((),v20) (gu rfl (gu rfl (qi rfl))) (bq (aC aN) bZ) rfl
       refine ae ?_
       refine aq ?_
       obtain rfl:=osi hq28
       exact am ((),v19) (gu rfl (gu rfl (qi rfl))) (bq (aC aN) bZ) rfl
      rintro ⟨_,v27⟩ τ hz;(try dsimp only at hz);subst q28;(try dsimp only at hb23);dsimp only [aK]
      refine an [53] [(23,pI (IntKind.i64.wrap (v20+1)))] (by kernel_rfl) ?_
      exact bt hb23 () (gu rfl (gu rfl (qi rfl))) cq
     refine bc ?_
     refine aP (aJ hb23 (fun ht=>aM rfl ?_))
     exact am ((),v19) (EA rfl) cq ht.symm
    rintro ⟨_,v22⟩ τ hz;(try dsimp only at hz);subst q24;(try dsimp only at hq18);dsimp only [aK]
    refine ah (bU [54] [(55,pB (decide (0≤v22)))] (by kernel_rfl) rfl hq18 (fun hc35 hq18=>?_) fun hc35 hq18=>?_)
    ·refine ah ?_
     refine aa hq18 fun m36 hm36 hq18=>aj (bp 4 [] [56,57,58] [(59,.agg (bk m36))] (fC 2 Zb.enc hm36 bL) (by kernel_rfl) (aF rfl (aY (cs:=[pI 0,pI 0,pS ByteArray.empty,pN,pI 0,pI 0,pI 0,pI 0,pI 0,pI 0,pI 0,pB false,pI 0,pB false,pI 0]) rfl rfl rfl rfl (fun b37=>aH rfl rfl (ag (vs:=(bk m36)) rfl rfl rfl rfl rfl bB (eH (eH (eH (eH (eH (eH C6)))))) (ar (dV hq18 fun x38 hx38 hq18=>aj (cI 2 [0] [60] [(61,pL eS m36.Origins)] (by kernel_rfl) ?_))))))))
     refine aF rfl (bi rfl rfl (ρ1:=[]) (List.Perm.refl _) (kQ hx38) ?_);rintro _ _ ⟨a39,c40,rfl,rfl⟩
     refine bE 1 [(63,pP b37 3)] (by kernel_rfl) (aH rfl rfl (ag (vs:=[pO a39 x38.length c40]) rfl rfl rfl rfl rfl (bx bB) (bf (bf (bf cN))) (ar (aW (cP 1 [(64,pO a3 l2.length c4)] (by kernel_rfl) ?_)))))
     refine nk (css:=List.map eS x38) (a:=a39) (by exact aN) ?_
     refine ka (k:=3) (enc:=eS) (xs:=x38) (b:=b37) (a:=a39) rfl dt (bx bB) (dY 1 [1] [(65,.agg [pI m36.ID,pI m36.Kind,pS m36.Prefix,pL eS x38,pI m36.Company,pI m36.From,pI m36.To,pI m36.Registered,pI m36.Duty.Rate,pI m36.Duty.Amount,pI m36.Duty.Per,pB m36.Duty.HasMost,pI m36.Duty.Most,pB m36.Duty.HasLeast,pI m36.Duty.Least])] (by kernel_rfl) (aF rfl (bg rfl rfl rfl rfl rfl (dI rfl eY) rfl rfl rfl rfl (fun b42=>aa hq18 fun l44 hl44 hq18=>?_))))
     refine aF rfl (bd (enc:=Zb.enc) rfl rfl rfl rfl rfl rfl rfl rfl rfl dt (by exact aC (aC (aC aN))) hl44 (fun a45 c46=>?_))
     refine aL [(11,pO a45 l44.length c46)] (by kernel_rfl) (aq ?_)
     obtain rfl:=osi hq18
     exact am ((a45,c46),l44) (tM rfl) cq rfl
    refine ae ?_
    refine aq ?_
    obtain rfl:=osi hq18
    exact am ((a3,c4),l2) (tM rfl) cq rfl
   rintro ⟨⟨a15,c16⟩,l17⟩ τ hz;(try dsimp only at hz);subst q18;(try dsimp only at hb10);dsimp only [aK]
   refine an [19,20] [(12,pI (IntKind.i64.wrap (v5+1)))] (by kernel_rfl) ?_
   exact bt hb10 (a15,c16) (tM rfl) cq
  refine bc ?_
  refine aP (aJ hb10 (fun ht=>aM rfl ?_))
  exact am ((a3,c4),l2) (nG rfl) cq ht.symm
 rintro ⟨⟨a7,c8⟩,l9⟩ τ hz;(try dsimp only at hz);subst q11;(try dsimp only at h);dsimp only [aK]
 refine ah (an [68] [(10,pO a7 l9.length c8)] (by kernel_rfl) (aW ?_))
 refine ij (enc:=Zb.enc) (xs:=l9) 10 rfl (by exact aN) ?_
 refine cd ?_
 exact zz r h rfl
def cJ (p0:(List Zb)) (p1:(Zb→Option Bool)):Option Int:=(bu (S:=Int) (T:=(Unit)⊕(_)) (fun v1=>cond (decide (v1<(p0.length:Int))) ((idx p0 v1).bind fun m5=>(p1 m5).bind fun x6=>cond x6 (some (.inr (.inr v1))) (some (.inl (IntKind.i64.wrap (v1+1))))) (some (.inr (.inl ())))) FUEL 0).bind fun q=>match q with | .inl _=>some (-1) | .inr e=>some e
theorem gw {p0:(List Zb)} {p1:(Zb→Option Bool)} {r:Int} {g1:PV} (hg1:∀ {y0:Zb} {w:Bool},p1 y0=some w→PFV g1 [.agg (bk y0)] (pB w)) (h:cJ p0 p1=some r):PF 119 [pL Zb.enc p0,g1] (pI r):=by
 unfold cJ at h
 refine bo ?_
 refine dZ Tryz.func119 rfl Tryz.ntmps119 Tryz.results119 rfl (bh [4] (by kernel_rfl) (cQ (an [6] [(7,pI (p0.length:Int)),(8,pI 0)] (by kernel_rfl) (ga h fun q3 hq3 h=>?_))))
 refine av (Y:=Unit×Unit) (fun (_,_)=>[]) (fun (_,_)=>[]) (fun (_,_)=>q3=Sum.inl ()) ?_ ?_
 ·refine aR ?_
  refine aZ (Y:=Unit) (S:=Int) _ hq3 (fun _ v1=>[(0,pL Zb.enc p0),(1,g1),(7,pI (p0.length:Int)),(8,pI v1)]) (fun _ v1=>[]) () (iP rfl) bZ ?_
  rintro _ v1 o τ hb2;(try dsimp only at hb2);dsimp only [aK]
  refine ah (ap [(9,pB (decide (v1<(p0.length:Int))))] (by kernel_rfl) (cw (kU rfl hb2 (fun hc4 hb2=>?_) fun hc4 hb2=>?_)))
  ·refine ae ?_
   refine cw (jX (an [10] [(5,pI v1)] (by kernel_rfl) (dV hb2 fun m5 hm5 hb2=>aa hb2 fun x6 hx6 hb2=>aB [] (rg 11 5) [(16,pB x6)] (fC 3 Zb.enc hm5 (BH 5 (hg1 hx6) bL)) (by kernel_rfl) (dW rfl hb2 (fun hc7 hb2=>?_) fun hc7 hb2=>?_))))
   ·refine ah ?_
    refine an [17] [(4,pI v1)] (by kernel_rfl) (dC (au (aO ?_)))
    refine bH hb2 (fun ht=>?_);subst ht
    refine au (bz ?_)
    exact zz r h rfl
   refine ae ?_
   refine aq (aW (an [18] [(8,pI (IntKind.i64.wrap (v1+1)))] (by kernel_rfl) ?_))
   exact bt hb2 () (iP rfl) bZ
  refine bc ?_
  refine aP (aJ hb2 (fun ht=>aM rfl ?_))
  exact am ((),()) sL bZ ht.symm
 rintro ⟨_,_⟩ τ hz;(try dsimp only at hz);subst q3;(try dsimp only at h);dsimp only [aK]
 refine ah (ap [(4,pI (-1))] (by kernel_rfl) (dC ?_))
 exact zz r h rfl
def bP (p0:(List Zb)) (p1:(Zb→Option Bool)):Option Bool:=(cJ p0 p1).bind fun x1=>some (decide (0≤x1))
theorem fV {p0:(List Zb)} {p1:(Zb→Option Bool)} {r:Bool} {g1:PV} (hg1:∀ {y0:Zb} {w:Bool},p1 y0=some w→PFV g1 [.agg (bk y0)] (pB w)) (h:bP p0 p1=some r):PF 78 [pL Zb.enc p0,g1] (pB r):=by
 unfold bP at h
 refine bo ?_
 refine dZ Tryz.func78 rfl Tryz.ntmps78 Tryz.results78 rfl (bh [4] (by kernel_rfl) (dV h fun x1 hx1 h=>aB [] [5,6,7,8] [(4,pB (decide (0≤x1)))] (bw 2 (gw hg1 hx1) bL) (by kernel_rfl) (dC ?_)))
 exact zz r h rfl
def gT (p0:Zb):Option Bool:=some (p0.Kind == 1)
theorem pA {p0:Zb} {r:Bool}  (h:gT p0=some r):PF 79 [.agg (bk p0)] (pB r):=by
 unfold gT at h
 refine bo ?_
 refine dZ Tryz.func79 rfl Tryz.ntmps79 Tryz.results79 rfl (dj rfl (bC (cs:=(bk p0)) rfl rfl (fun b1=>br [2] (by kernel_rfl) (cw (aV [0] [3,4,5] [(2,pB (p0.Kind == 1))] (by kernel_rfl) (dC ?_))))))
 exact zz r h rfl
def gU (p0:Int) (p1:(List Int)):Option Int:=cond (decide (1000<(p1.length:Int))) (some (8:Int)) (cond ((decide (p0<0))||(decide (1000000000000<p0))) (some (2:Int)) ((bu (S:=Int) (T:=(Unit)⊕(_)) (fun v3=>cond (decide (v3<(p1.length:Int))) ((idx p1 v3).bind fun m7=>cond ((decide (m7<0))||(decide (1000000000000<m7))) (some (.inr (.inr (2:Int)))) (some (.inl (IntKind.i64.wrap (v3+1))))) (some (.inr (.inl ())))) FUEL 0).bind fun q=>match q with | .inl _=>cond (((p1.length:Int) == 0)&&(decide (0<p0))) (some (7:Int)) (some (0:Int)) | .inr e=>some e))
theorem pC {p0:Int} {p1:(List Int)} {r:Int}  (h:gU p0 p1=some r):PF 143 [pI p0,pL eI p1] (pI r):=by
 unfold gU at h
 refine bo ?_
 refine dZ Tryz.func143 rfl Tryz.ntmps143 Tryz.results143 rfl (bh [4] (by kernel_rfl) (cQ (bU [7,8] [(9,pB (decide (1000<(p1.length:Int))))] (by kernel_rfl) rfl h (fun hc1 h=>?_) fun hc1 h=>?_)))
 ·refine ah ?_
  refine dq [(4,pI 8)] (by kernel_rfl) ?_
  exact zz r h rfl
 refine ae ?_
 refine cQ (bU (rg 10 5) [(15,pB ((decide (p0<0))||(decide (1000000000000<p0))))] (by kernel_rfl) rfl h (fun hc2 h=>?_) fun hc2 h=>?_)
 ·refine ah ?_
  refine dq [(4,pI 2)] (by kernel_rfl) ?_
  exact zz r h rfl
 refine ae ?_
 refine cQ (ap [(16,pL eI p1),(17,pI (p1.length:Int)),(18,pI 0)] (by kernel_rfl) (ga h fun q5 hq5 h=>?_))
 refine av (Y:=Unit×Unit) (fun (_,_)=>[(0,pI p0),(1,pL eI p1)]) (fun (_,_)=>[]) (fun (_,_)=>q5=Sum.inl ()) ?_ ?_
 ·refine aR ?_
  refine aZ (Y:=Unit) (S:=Int) _ hq5 (fun _ v3=>[(0,pI p0),(1,pL eI p1),(16,pL eI p1),(17,pI (p1.length:Int)),(18,pI v3)]) (fun _ v3=>[]) () (mv rfl) bZ ?_
  rintro _ v3 o τ hb4;(try dsimp only at hb4);dsimp only [aK]
  refine ah (ap [(19,pB (decide (v3<(p1.length:Int))))] (by kernel_rfl) (cw (kU rfl hb4 (fun hc6 hb4=>?_) fun hc6 hb4=>?_)))
  ·refine ae ?_
   refine cw (jX (aa hb4 fun m7 hm7 hb4=>aB [] [20,21] [(6,pI m7)] (fC 0 eI hm7 bL) (by kernel_rfl) (cw (bU (rg 22 5) [(27,pB ((decide (m7<0))||(decide (1000000000000<m7))))] (by kernel_rfl) rfl hb4 (fun hc8 hb4=>?_) fun hc8 hb4=>?_))))
   ·refine ah ?_
    refine ap [(4,pI 2)] (by kernel_rfl) (dC (au (aO ?_)))
    refine bH hb4 (fun ht=>?_);subst ht
    refine au (bz ?_)
    exact zz r h rfl
   refine ae ?_
   refine aq (aW (an [28] [(18,pI (IntKind.i64.wrap (v3+1)))] (by kernel_rfl) ?_))
   exact bt hb4 () (mv rfl) bZ
  refine bc ?_
  refine aP (aJ hb4 (fun ht=>aM rfl ?_))
  exact am ((),()) (eN rfl) bZ ht.symm
 rintro ⟨_,_⟩ τ hz;(try dsimp only at hz);subst q5;(try dsimp only at h);dsimp only [aK]
 refine gh (bU (rg 29 6) [(35,pB (((p1.length:Int) == 0)&&(decide (0<p0))))] (by kernel_rfl) rfl h (fun hc9 h=>?_) fun hc9 h=>?_)
 ·refine ah ?_
  refine dq [(4,pI 7)] (by kernel_rfl) ?_
  exact zz r h rfl
 refine ae ?_
 refine cw (ap [(4,pI 0)] (by kernel_rfl) (dC ?_))
 exact zz r h rfl
def gV (p0:(List Int)):Option Int:=(bu (S:=Int×Int) (T:=(Int)) (fun (v1,v2)=>cond (decide (v2<(p0.length:Int))) ((idx p0 v2).bind fun m7=>some (.inl ((IntKind.i64.wrap (v1+m7)),(IntKind.i64.wrap (v2+1))))) (some (.inr v1))) FUEL (0,0)).bind fun v3=>some v3
theorem pD {p0:(List Int)} {r:Int}  (h:gV p0=some r):PF 144 [pL eI p0] (pI r):=by
 unfold gV at h
 refine bo ?_
 refine dZ Tryz.func144 rfl Tryz.ntmps144 Tryz.results144 rfl (bh [2] (by kernel_rfl) (cw (ap [(3,pI 0)] (by kernel_rfl) (cQ (ap [(6,pL eI p0),(7,pI (p0.length:Int)),(8,pI 0)] (by kernel_rfl) (ga h fun q5 hq5 h=>?_))))))
 refine av (Y:=Unit×Int) (fun (_,v3)=>[(3,pI v3)]) (fun (_,v3)=>[]) (fun (_,v3)=>q5=v3) ?_ ?_
 ·refine aR ?_
  refine aZ (Y:=Unit) (S:=Int×Int) _ hq5 (fun _ (v1,v2)=>[(3,pI v1),(6,pL eI p0),(7,pI (p0.length:Int)),(8,pI v2)]) (fun _ (v1,v2)=>[]) () (iP rfl) bZ ?_
  rintro _ ⟨v1,v2⟩ o τ hb4;(try dsimp only at hb4);dsimp only [aK]
  refine ah (ap [(9,pB (decide (v2<(p0.length:Int))))] (by kernel_rfl) (cw (kU rfl hb4 (fun hc6 hb4=>?_) fun hc6 hb4=>?_)))
  ·refine ae ?_
   refine cw (jX (aa hb4 fun m7 hm7 hb4=>aB [] [10,11] [(5,pI m7)] (fC 0 eI hm7 bL) (by kernel_rfl) (aW (an [12,13,14] [(3,pI (IntKind.i64.wrap (v1+m7)))] (by kernel_rfl) (aq (aW (an [15] [(8,pI (IntKind.i64.wrap (v2+1)))] (by kernel_rfl) ?_)))))))
   exact bt hb4 () (iP rfl) bZ
  refine bc ?_
  refine aP (aJ hb4 (fun ht=>aM rfl ?_))
  exact am ((),v1) (nG rfl) bZ ht.symm
 rintro ⟨_,v3⟩ τ hz;(try dsimp only at hz);subst q5;(try dsimp only at h);dsimp only [aK]
 refine ah (an [16] [(2,pI v3)] (by kernel_rfl) (dC ?_))
 exact zz r h rfl
def gW (p0:Int) (p1:Int):Option (Int×Int):=lb ((IntKind.u64.wrap ((ez .u64 p0 4294967295)*(ez .u64 p1 4294967295)))) (fun w1=>lb ((IntKind.u64.wrap ((IntKind.u64.wrap ((cV .u64 p0 32)*(ez .u64 p1 4294967295)))+(cV .u64 w1 32)))) (fun w2=>lb ((IntKind.u64.wrap ((ez .u64 w2 4294967295)+(IntKind.u64.wrap ((ez .u64 p0 4294967295)*(cV .u64 p1 32)))))) (fun w3=>lb ((IntKind.u64.wrap ((IntKind.u64.wrap ((IntKind.u64.wrap ((cV .u64 p0 32)*(cV .u64 p1 32)))+(cV .u64 w2 32)))+(cV .u64 w3 32)))) (fun w4=>some (w4,(IntKind.u64.wrap (p0*p1)))))))
theorem pE {p0:Int} {p1:Int} {r:(Int×Int)}  (h:gW p0 p1=some r):PF 180 [pU p0,pU p1] (.tup [pU r.1,pU r.2]):=by
 unfold gW at h
 refine bo ?_
 refine dZ Tryz.func180 rfl Tryz.ntmps180 Tryz.results180 rfl (bh [4,5] (by kernel_rfl) (cw (an [14,15] [(6,pU (ez .u64 p0 4294967295))] (by kernel_rfl) (cw (an [16,17] [(7,pU (cV .u64 p0 32))] (by kernel_rfl) (cw (an [18,19] [(8,pU (ez .u64 p1 4294967295))] (by kernel_rfl) (cw (an [20,21] [(9,pU (cV .u64 p1 32))] (by kernel_rfl) (cw ?_))))))))))
 refine dr h ?_;clear h;intro w1 hw1 h
 refine aj (bO 3 [22,23] [(24,pU (IntKind.u64.wrap ((ez .u64 p0 4294967295)*(ez .u64 p1 4294967295))))] (by kernel_rfl) (bM rfl rfl rfl (be rfl (.p (congrArg (fun z=>PV.v (Value.int .u64 z)) hw1))) (ar (cw ?_))))
 refine dr h ?_;clear h;intro w2 hw2 h
 refine aj (bO 6 (rg 25 5) [(30,pU (IntKind.u64.wrap ((IntKind.u64.wrap ((cV .u64 p0 32)*(ez .u64 p1 4294967295)))+(cV .u64 w1 32))))] (by kernel_rfl) (bM rfl rfl rfl (be rfl (.p (congrArg (fun z=>PV.v (Value.int .u64 z)) hw2))) (ar (cw (an [31,32] [(12,pU (ez .u64 w2 4294967295))] (by kernel_rfl) (cw (an [33,34] [(13,pU (cV .u64 w2 32))] (by kernel_rfl) (cw ?_))))))))
 refine dr h ?_;clear h;intro w3 hw3 h
 refine aj (bO 5 [35,36,37,38] [(39,pU (IntKind.u64.wrap ((ez .u64 w2 4294967295)+(IntKind.u64.wrap ((ez .u64 p0 4294967295)*(cV .u64 p1 32))))))] (by kernel_rfl) (bM rfl rfl rfl (be rfl (.p (congrArg (fun z=>PV.v (Value.int .u64 z)) hw3))) (ar (cw ?_))))
 refine dr h ?_;clear h;intro w4 hw4 h
 refine aj (bO 8 (rg 40 7) [(47,pU (IntKind.u64.wrap ((IntKind.u64.wrap ((IntKind.u64.wrap ((cV .u64 p0 32)*(cV .u64 p1 32)))+(cV .u64 w2 32)))+(cV .u64 w3 32))))] (by kernel_rfl) (bM rfl rfl rfl (be rfl (.p (congrArg (fun z=>PV.v (Value.int .u64 z)) hw4))) (ar (cw (an [48,49,50] [(5,pU (IntKind.u64.wrap (p0*p1)))] (by kernel_rfl) (dC ?_))))))
 obtain rfl:=osi h
 exact aI (bD (aD rfl) (aD rfl)) bZ ⟨rfl,rfl⟩
def iD (p0:Int) (p1:Int):Option Zi:=(gW p0 p1).bind fun x2=>some (⟨x2.1,x2.2⟩:Zi)
theorem lm {p0:Int} {p1:Int} {r:Zi}  (h:iD p0 p1=some r):PF 150 [pU p0,pU p1] (.agg [pU r.Hi,pU r.Lo]):=by
 unfold iD at h
 refine bo ?_
 refine dZ Tryz.func150 rfl Tryz.ntmps150 Tryz.results150 rfl (dj rfl (aY (cs:=[pU 0,pU 0]) rfl rfl rfl rfl (fun b1=>ar (dV h fun x2 hx2 h=>aB [] [8,9,10,7,11,12] [(5,pU x2.1),(6,pU x2.2)] (bw 2 (pE hx2) bL) (by kernel_rfl) (cw (aj (bO 3 [13,14] [(15,.agg [pU x2.1,pU x2.2])] (by kernel_rfl) (aH rfl rfl (ag (vs:=[pU x2.1,pU x2.2]) rfl rfl rfl rfl rfl bB nC (ar (dC ?_)))))))))))
 obtain rfl:=osi h
 exact aI (fM (cg rfl dt rfl)) bZ ⟨rfl,rfl⟩
def eQ (p0:Int):Option Int:=Option.bind (cond (decide (4294967296≤p0)) (some ((cV .u64 p0 32),32)) (some (p0,0))) (fun (v1,v2)=>Option.bind (cond (decide (65536≤v1)) (some ((cV .u64 v1 16),(IntKind.i64.wrap (v2+16)))) (some (v1,v2))) (fun (v5,v6)=>Option.bind (cond (decide (256≤v5)) (some ((cV .u64 v5 8),(IntKind.i64.wrap (v6+8)))) (some (v5,v6))) (fun (v9,v10)=>(idx (⟨#[0,1,2,2,3,3,3,3,4,4,4,4,4,4,4,4,5,5,5,5,5,5,5,5,5,5,5,5,5,5,5,5,6,6,6,6,6,6,6,6,6,6,6,6,6,6,6,6,6,6,6,6,6,6,6,6,6,6,6,6,6,6,6,6,7,7,7,7,7,7,7,7,7,7,7,7,7,7,7,7,7,7,7,7,7,7,7,7,7,7,7,7,7,7,7,7,7,7,7,7,7,7,7,7,7,7,7,7,7,7,7,7,7,7,7,7,7,7,7,7,7,7,7,7,7,7,7,7,8,8,8,8,8,8,8,8,8,8,8,8,8,8,8,8,8,8,8,8,8,8,8,8,8,8,8,8,8,8,8,8,8,8,8,8,8,8,8,8,8,8,8,8,8,8,8,8,8,8,8,8,8,8,8,8,8,8,8,8,8,8,8,8,8,8,8,8,8,8,8,8,8,8,8,8,8,8,8,8,8,8,8,8,8,8,8,8,8,8,8,8,8,8,8,8,8,8,8,8,8,8,8,8,8,8,8,8,8,8,8,8,8,8,8,8,8,8,8,8,8,8,8,8,8,8,8,8]⟩:ByteArray).data.toList (IntKind.u8.wrap v9)).bind fun c13=>lb ((IntKind.i64.wrap (v10+(IntKind.i64.wrap (c13.toNat:Int))))) (fun w14=>some w14))))
theorem lP {p0:Int} {r:Int}  (h:eQ p0=some r):PF 111 [pU p0] (pI r):=by
 unfold eQ at h
 refine bo ?_
 refine dZ Tryz.func111 rfl Tryz.ntmps111 Tryz.results111 rfl (ap [(2,pI 0)] (by kernel_rfl) (cQ (an [3] [(4,pB (decide (4294967296≤p0)))] (by kernel_rfl) (ga h fun q3 hq3 h=>?_))))
 refine av (Y:=Unit×(Int×Int)) (fun (_,(v1,v2))=>[(0,pU v1),(2,pI v2)]) (fun (_,(v1,v2))=>[]) (fun (_,(v1,v2))=>q3=(v1,v2)) ?_ ?_
 ·skip
  refine kU rfl hq3 (fun hc4 hq3=>?_) fun hc4 hq3=>?_
  ·refine ah ?_
   refine an [5,6] [(0,pU (cV .u64 p0 32))] (by kernel_rfl) (aW (ap [(2,pI 32)] (by kernel_rfl) ?_))
   obtain rfl:=osi hq3
   exact am ((),((cV .u64 p0 32),32)) (eN rfl) bZ rfl
  refine ae ?_
  obtain rfl:=osi hq3
  exact am ((),(p0,0)) (eN rfl) bZ rfl
 rintro ⟨_,⟨v1,v2⟩⟩ τ hz;(try dsimp only at hz);subst q3;(try dsimp only at h);dsimp only [aK]
 refine gh (an [7] [(8,pB (decide (65536≤v1)))] (by kernel_rfl) (ga h fun q7 hq7 h=>?_))
 refine av (Y:=Unit×(Int×Int)) (fun (_,(v5,v6))=>[(0,pU v5),(2,pI v6)]) (fun (_,(v5,v6))=>[]) (fun (_,(v5,v6))=>q7=(v5,v6)) ?_ ?_
 ·skip
  refine kU rfl hq7 (fun hc8 hq7=>?_) fun hc8 hq7=>?_
  ·refine ah ?_
   refine an [9,10] [(0,pU (cV .u64 v1 16))] (by kernel_rfl) (aW (an [11,12] [(2,pI (IntKind.i64.wrap (v2+16)))] (by kernel_rfl) ?_))
   obtain rfl:=osi hq7
   exact am ((),((cV .u64 v1 16),(IntKind.i64.wrap (v2+16)))) (eN rfl) bZ rfl
  refine ae ?_
  obtain rfl:=osi hq7
  exact am ((),(v1,v2)) (eN rfl) bZ rfl
 rintro ⟨_,⟨v5,v6⟩⟩ τ hz;(try dsimp only at hz);subst q7;(try dsimp only at h);dsimp only [aK]
 refine gh (an [13] [(14,pB (decide (256≤v5)))] (by kernel_rfl) (ga h fun q11 hq11 h=>?_))
 refine av (Y:=Unit×(Int×Int)) (fun (_,(v9,v10))=>[(0,pU v9),(2,pI v10)]) (fun (_,(v9,v10))=>[]) (fun (_,(v9,v10))=>q11=(v9,v10)) ?_ ?_
 ·skip
  refine kU rfl hq11 (fun hc12 hq11=>?_) fun hc12 hq11=>?_
  ·refine ah ?_
   refine an [15,16] [(0,pU (cV .u64 v5 8))] (by kernel_rfl) (aW (an [17,18] [(2,pI (IntKind.i64.wrap (v6+8)))] (by kernel_rfl) ?_))
   obtain rfl:=osi hq11
   exact am ((),((cV .u64 v5 8),(IntKind.i64.wrap (v6+8)))) (eN rfl) bZ rfl
  refine ae ?_
  obtain rfl:=osi hq11
  exact am ((),(v5,v6)) (eN rfl) bZ rfl
 rintro ⟨_,⟨v9,v10⟩⟩ τ hz;(try dsimp only at hz);subst q11;(try dsimp only at h);dsimp only [aK]
 refine ah (aa h fun c13 hc13 h=>?_)
 refine dr h ?_;clear h;intro w14 hw14 h
 refine aj (bp 6 [] (rg 19 5) [(24,pI (IntKind.i64.wrap (v10+(IntKind.i64.wrap (c13.toNat:Int)))))] (Dd 3 (s:=(⟨#[0,1,2,2,3,3,3,3,4,4,4,4,4,4,4,4,5,5,5,5,5,5,5,5,5,5,5,5,5,5,5,5,6,6,6,6,6,6,6,6,6,6,6,6,6,6,6,6,6,6,6,6,6,6,6,6,6,6,6,6,6,6,6,6,7,7,7,7,7,7,7,7,7,7,7,7,7,7,7,7,7,7,7,7,7,7,7,7,7,7,7,7,7,7,7,7,7,7,7,7,7,7,7,7,7,7,7,7,7,7,7,7,7,7,7,7,7,7,7,7,7,7,7,7,7,7,7,7,8,8,8,8,8,8,8,8,8,8,8,8,8,8,8,8,8,8,8,8,8,8,8,8,8,8,8,8,8,8,8,8,8,8,8,8,8,8,8,8,8,8,8,8,8,8,8,8,8,8,8,8,8,8,8,8,8,8,8,8,8,8,8,8,8,8,8,8,8,8,8,8,8,8,8,8,8,8,8,8,8,8,8,8,8,8,8,8,8,8,8,8,8,8,8,8,8,8,8,8,8,8,8,8,8,8,8,8,8,8,8,8,8,8,8,8,8,8,8,8,8,8,8,8,8,8,8,8]⟩:ByteArray)) hc13 bL) (by kernel_rfl) (bM rfl rfl rfl (be rfl (.p (congrArg (fun z=>PV.v (Value.int .i64 z)) hw14))) (ar (dC ?_))))
 exact zz r h rfl
def dL (p0:Int):Option Int:=(eQ p0).bind fun x1=>some (IntKind.i64.wrap (64 - x1))
theorem ln {p0:Int} {r:Int}  (h:dL p0=some r):PF 194 [pU p0] (pI r):=by
 unfold dL at h
 refine bo ?_
 refine dZ Tryz.func194 rfl Tryz.ntmps194 Tryz.results194 rfl (bh [2] (by kernel_rfl) (dV h fun x1 hx1 h=>aB [] [3,4,5] [(2,pI (IntKind.i64.wrap (64 - x1)))] (bw 1 (lP hx1) bL) (by kernel_rfl) (dC ?_)))
 exact zz r h rfl
def fI (p0:Int) (p1:Int) (p2:Int):Option (Int×Int):=cond (p2 == 0) (none) (cond (decide (p2≤p0)) (none) (cond (p0 == 0) ((nz p2).bind fun u4=>(nz p2).bind fun u5=>some ((IntKind.u64.wrap (Int.tdiv p1 p2)),(Int.tmod p1 p2))) ((dL p2).bind fun x6=>(oO (IntKind.u64.wrap x6)).bind fun u7=>lb ((cV .u64 (eX .u64 p2 (IntKind.u64.wrap x6)) 32)) (fun w8=>lb ((ez .u64 (eX .u64 p2 (IntKind.u64.wrap x6)) 4294967295)) (fun w9=>(oO (IntKind.u64.wrap x6)).bind fun u10=>(oO (IntKind.u64.wrap (64 - (IntKind.u64.wrap x6)))).bind fun u11=>lb ((oN .u64 (eX .u64 p0 (IntKind.u64.wrap x6)) (cV .u64 p1 (IntKind.u64.wrap (64 - (IntKind.u64.wrap x6)))))) (fun w12=>(oO (IntKind.u64.wrap x6)).bind fun u13=>lb ((cV .u64 (eX .u64 p1 (IntKind.u64.wrap x6)) 32)) (fun w14=>lb ((ez .u64 (eX .u64 p1 (IntKind.u64.wrap x6)) 4294967295)) (fun w15=>(nz w8).bind fun u16=>lb ((IntKind.u64.wrap (w12 - (IntKind.u64.wrap ((IntKind.u64.wrap (Int.tdiv w12 w8))*w8))))) (fun w17=>(bu (S:=Int×Int) (T:=(Int)) (fun (v18,v19)=>cond ((decide (4294967296≤v18))||(decide ((IntKind.u64.wrap ((IntKind.u64.wrap (4294967296*v19))+w14))<(IntKind.u64.wrap (v18*w9))))) (cond (decide (4294967296≤(IntKind.u64.wrap (v19+w8)))) (some (.inr (IntKind.u64.wrap (v18 - 1)))) (some (.inl ((IntKind.u64.wrap (v18 - 1)),(IntKind.u64.wrap (v19+w8)))))) (some (.inr v18))) FUEL ((IntKind.u64.wrap (Int.tdiv w12 w8)),w17)).bind fun v20=>lb ((IntKind.u64.wrap ((IntKind.u64.wrap ((IntKind.u64.wrap (w12*4294967296))+w14)) - (IntKind.u64.wrap (v20*(eX .u64 p2 (IntKind.u64.wrap x6))))))) (fun w25=>(nz w8).bind fun u26=>lb ((IntKind.u64.wrap (w25 - (IntKind.u64.wrap ((IntKind.u64.wrap (Int.tdiv w25 w8))*w8))))) (fun w27=>(bu (S:=Int×Int) (T:=(Int)) (fun (v28,v29)=>cond ((decide (4294967296≤v29))||(decide ((IntKind.u64.wrap ((IntKind.u64.wrap (4294967296*v28))+w15))<(IntKind.u64.wrap (v29*w9))))) (cond (decide (4294967296≤(IntKind.u64.wrap (v28+w8)))) (some (.inr (IntKind.u64.wrap (v29 - 1)))) (some (.inl ((IntKind.u64.wrap (v28+w8)),(IntKind.u64.wrap (v29 - 1)))))) (some (.inr v29))) FUEL (w27,(IntKind.u64.wrap (Int.tdiv w25 w8)))).bind fun v30=>(oO (IntKind.u64.wrap x6)).bind fun u35=>lb ((IntKind.u64.wrap ((IntKind.u64.wrap (v20*4294967296))+v30))) (fun w36=>lb ((cV .u64 (IntKind.u64.wrap ((IntKind.u64.wrap ((IntKind.u64.wrap (w25*4294967296))+w15)) - (IntKind.u64.wrap (v30*(eX .u64 p2 (IntKind.u64.wrap x6)))))) (IntKind.u64.wrap x6))) (fun w37=>some (w36,w37))))))))))))))
theorem lQ {p0:Int} {p1:Int} {p2:Int} {r:(Int×Int)}  (h:fI p0 p1 p2=some r):PF 182 [pU p0,pU p1,pU p2] (.tup [pU r.1,pU r.2]):=by
 unfold fI at h
 refine bo ?_
 refine dZ Tryz.func182 rfl Tryz.ntmps182 Tryz.results182 rfl (bh [6,7] (by kernel_rfl) (cQ (bU [19] [(20,pB (p2 == 0))] (by kernel_rfl) rfl h (fun hc1 h=>?_) fun hc1 h=>?_)))
 ·refine aj ?_
  exact absurd h (by simp)
 refine ae ?_
 refine cQ (bU [22,23] [(24,pB (decide (p2≤p0)))] (by kernel_rfl) rfl h (fun hc2 h=>?_) fun hc2 h=>?_)
 ·refine aj ?_
  exact absurd h (by simp)
 refine ae ?_
 refine cQ (bU [26] [(27,pB (p0 == 0))] (by kernel_rfl) rfl h (fun hc3 h=>?_) fun hc3 h=>?_)
 ·refine ah ?_
  refine bN (ρd:=[]) [(0,0),(1,0),(2,0),(3,0),(4,0),(5,0),(6,0),(7,0)] _ (List.Perm.refl _) (by kernel_rfl) rfl (aa h fun u4 hu4 h=>aa h fun u5 hu5 h=>cr 8 [] (rg 28 6) [(6,pU (IntKind.u64.wrap (Int.tdiv p1 p2))),(7,pU (Int.tmod p1 p2))] (zF 2 hu4 (zF 5 hu5 bL)) (by kernel_rfl) (cC (ua ?_)))
  obtain rfl:=osi h
  exact aI (bD (aD rfl) (aD rfl)) bZ ⟨rfl,rfl⟩
 refine ae ?_
 refine dV h fun x6 hx6 h=>aB [] [34,35,36] [(8,pU (IntKind.u64.wrap x6))] (bw 1 (ln hx6) bL) (by kernel_rfl) (dV h fun u7 hu7 h=>aB [] [37,38,39] [(2,pU (eX .u64 p2 (IntKind.u64.wrap x6)))] (wG 2 hu7 bL) (by kernel_rfl) (cw ?_))
 refine dr h ?_;clear h;intro w8 hw8 h
 refine aj (bO 2 [40] [(41,pU (cV .u64 (eX .u64 p2 (IntKind.u64.wrap x6)) 32))] (by kernel_rfl) (bM rfl rfl rfl (be rfl (.p (congrArg (fun z=>PV.v (Value.int .u64 z)) hw8))) (ar (cw ?_))))
 refine dr h ?_;clear h;intro w9 hw9 h
 refine aj (bO 2 [42] [(43,pU (ez .u64 (eX .u64 p2 (IntKind.u64.wrap x6)) 4294967295))] (by kernel_rfl) (bM rfl rfl rfl (be rfl (.p (congrArg (fun z=>PV.v (Value.int .u64 z)) hw9))) (ar (dV h fun u10 hu10 h=>aa h fun u11 hu11 h=>?_))))
 refine dr h ?_;clear h;intro w12 hw12 h
 refine aj (bp 8 [] (rg 44 7) [(51,pU (oN .u64 (eX .u64 p0 (IntKind.u64.wrap x6)) (cV .u64 p1 (IntKind.u64.wrap (64 - (IntKind.u64.wrap x6))))))] (wG 2 hu10 (wG 6 hu11 bL)) (by kernel_rfl) (bM rfl rfl rfl (be rfl (.p (congrArg (fun z=>PV.v (Value.int .u64 z)) hw12))) (ar (dV h fun u13 hu13 h=>aB [] [52,53,54] [(12,pU (eX .u64 p1 (IntKind.u64.wrap x6)))] (wG 2 hu13 bL) (by kernel_rfl) (cw ?_)))))
 refine dr h ?_;clear h;intro w14 hw14 h
 refine aj (bO 2 [55] [(56,pU (cV .u64 (eX .u64 p1 (IntKind.u64.wrap x6)) 32))] (by kernel_rfl) (bM rfl rfl rfl (be rfl (.p (congrArg (fun z=>PV.v (Value.int .u64 z)) hw14))) (ar (cw ?_))))
 refine dr h ?_;clear h;intro w15 hw15 h
 refine aj (bO 2 [57] [(58,pU (ez .u64 (eX .u64 p1 (IntKind.u64.wrap x6)) 4294967295))] (by kernel_rfl) (bM rfl rfl rfl (be rfl (.p (congrArg (fun z=>PV.v (Value.int .u64 z)) hw15))) (ar (dV h fun u16 hu16 h=>aB [] [59,60,61] [(15,pU (IntKind.u64.wrap (Int.tdiv w12 w8)))] (zF 2 hu16 bL) (by kernel_rfl) (cw ?_)))))
 refine dr h ?_;clear h;intro w17 hw17 h
 refine aj (bO 5 [62,63,64,65] [(66,pU (IntKind.u64.wrap (w12 - (IntKind.u64.wrap ((IntKind.u64.wrap (Int.tdiv w12 w8))*w8)))))] (by kernel_rfl) (bM rfl rfl rfl (be rfl (.p (congrArg (fun z=>PV.v (Value.int .u64 z)) hw17))) (ar (dV h fun q22 hq22 h=>?_))))
 refine av (Y:=Unit×Int) (fun (_,v20)=>[(2,pU (eX .u64 p2 (IntKind.u64.wrap x6))),(8,pU (IntKind.u64.wrap x6)),(9,pU w8),(10,pU w9),(11,pU w12),(13,pU w14),(14,pU w15),(15,pU v20)]) (fun (_,v20)=>[]) (fun (_,v20)=>q22=v20) ?_ ?_
 ·refine aR ?_
  refine aZ (Y:=Unit) (S:=Int×Int) _ hq22 (fun _ (v18,v19)=>[(2,pU (eX .u64 p2 (IntKind.u64.wrap x6))),(8,pU (IntKind.u64.wrap x6)),(9,pU w8),(10,pU w9),(11,pU w12),(13,pU w14),(14,pU w15),(15,pU v18),(16,pU v19)]) (fun _ (v18,v19)=>[]) () (qi rfl) bZ ?_
  rintro _ ⟨v18,v19⟩ o τ hb21;(try dsimp only at hb21);dsimp only [aK]
  refine gh (bU (rg 67 11) [(78,pB ((decide (4294967296≤v18))||(decide ((IntKind.u64.wrap ((IntKind.u64.wrap (4294967296*v19))+w14))<(IntKind.u64.wrap (v18*w9))))))] (by kernel_rfl) rfl hb21 (fun hc23 hb21=>?_) fun hc23 hb21=>?_)
  ·refine ae ?_
   refine aW (jX (an [79,80] [(15,pU (IntKind.u64.wrap (v18 - 1)))] (by kernel_rfl) (cw (an [81,82,83] [(16,pU (IntKind.u64.wrap (v19+w8)))] (by kernel_rfl) (cw (bU [84] [(85,pB (decide (4294967296≤(IntKind.u64.wrap (v19+w8)))))] (by kernel_rfl) rfl hb21 (fun hc24 hb21=>?_) fun hc24 hb21=>?_))))))
   ·refine bc ?_
    refine rU rfl (aJ hb21 (fun ht=>aM rfl ?_))
    exact am ((),(IntKind.u64.wrap (v18 - 1))) (EA rfl) bZ ht.symm
   refine ae ?_
   refine aq ?_
   exact bt hb21 () (qi rfl) bZ
  refine bc ?_
  refine aP (aJ hb21 (fun ht=>aM rfl ?_))
  exact am ((),v18) (EA rfl) bZ ht.symm
 rintro ⟨_,v20⟩ τ hz;(try dsimp only at hz);subst q22;(try dsimp only at h);dsimp only [aK]
 refine ah ?_
 refine dr h ?_;clear h;intro w25 hw25 h
 refine aj (bO 8 (rg 86 7) [(93,pU (IntKind.u64.wrap ((IntKind.u64.wrap ((IntKind.u64.wrap (w12*4294967296))+w14)) - (IntKind.u64.wrap (v20*(eX .u64 p2 (IntKind.u64.wrap x6)))))))] (by kernel_rfl) (bM rfl rfl rfl (be rfl (.p (congrArg (fun z=>PV.v (Value.int .u64 z)) hw25))) (ar (dV h fun u26 hu26 h=>aB [] [94,95,96] [(18,pU (IntKind.u64.wrap (Int.tdiv w25 w8)))] (zF 2 hu26 bL) (by kernel_rfl) (cw ?_)))))
 refine dr h ?_;clear h;intro w27 hw27 h
 refine aj (bO 5 [97,98,99,100] [(101,pU (IntKind.u64.wrap (w25 - (IntKind.u64.wrap ((IntKind.u64.wrap (Int.tdiv w25 w8))*w8)))))] (by kernel_rfl) (bM rfl rfl rfl (be rfl (.p (congrArg (fun z=>PV.v (Value.int .u64 z)) hw27))) (ar (dV h fun q32 hq32 h=>?_))))
 refine av (Y:=Unit×Int) (fun (_,v30)=>[(2,pU (eX .u64 p2 (IntKind.u64.wrap x6))),(8,pU (IntKind.u64.wrap x6)),(14,pU w15),(15,pU v20),(17,pU w25),(18,pU v30)]) (fun (_,v30)=>[]) (fun (_,v30)=>q32=v30) ?_ ?_
 ·refine aR ?_
  refine aZ (Y:=Unit) (S:=Int×Int) _ hq32 (fun _ (v28,v29)=>[(2,pU (eX .u64 p2 (IntKind.u64.wrap x6))),(8,pU (IntKind.u64.wrap x6)),(9,pU w8),(10,pU w9),(14,pU w15),(15,pU v20),(16,pU v28),(17,pU w25),(18,pU v29)]) (fun _ (v28,v29)=>[]) () (qi rfl) bZ ?_
  rintro _ ⟨v28,v29⟩ o τ hb31;(try dsimp only at hb31);dsimp only [aK]
  refine gh (bU (rg 102 11) [(113,pB ((decide (4294967296≤v29))||(decide ((IntKind.u64.wrap ((IntKind.u64.wrap (4294967296*v28))+w15))<(IntKind.u64.wrap (v29*w9))))))] (by kernel_rfl) rfl hb31 (fun hc33 hb31=>?_) fun hc33 hb31=>?_)
  ·refine ae ?_
   refine aW (jX (an [114,115] [(18,pU (IntKind.u64.wrap (v29 - 1)))] (by kernel_rfl) (cw (an [116,117,118] [(16,pU (IntKind.u64.wrap (v28+w8)))] (by kernel_rfl) (cw (bU [119] [(120,pB (decide (4294967296≤(IntKind.u64.wrap (v28+w8)))))] (by kernel_rfl) rfl hb31 (fun hc34 hb31=>?_) fun hc34 hb31=>?_))))))
   ·refine bc ?_
    refine rU rfl (aJ hb31 (fun ht=>aM rfl ?_))
    exact am ((),(IntKind.u64.wrap (v29 - 1))) (tL rfl) bZ ht.symm
   refine ae ?_
   refine aq ?_
   exact bt hb31 () (qi rfl) bZ
  refine bc ?_
  refine aP (aJ hb31 (fun ht=>aM rfl ?_))
  exact am ((),v29) (tL rfl) bZ ht.symm
 rintro ⟨_,v30⟩ τ hz;(try dsimp only at hz);subst q32;(try dsimp only at h);dsimp only [aK]
 refine ah (aa h fun u35 hu35 h=>?_)
 refine dr h ?_;clear h;intro w36 hw36 h
 refine aj (bp 14 [] [121,122,123,125,126,127,128,129,130,131,132,133] [(124,pU (IntKind.u64.wrap ((IntKind.u64.wrap (v20*4294967296))+v30))),(134,pU (cV .u64 (IntKind.u64.wrap ((IntKind.u64.wrap ((IntKind.u64.wrap (w25*4294967296))+w15)) - (IntKind.u64.wrap (v30*(eX .u64 p2 (IntKind.u64.wrap x6)))))) (IntKind.u64.wrap x6)))] (wG 13 hu35 bL) (by kernel_rfl) (bM rfl rfl rfl (be rfl (.p (congrArg (fun z=>PV.v (Value.int .u64 z)) hw36))) ?_))
 refine dr h ?_;clear h;intro w37 hw37 h
 refine bM rfl rfl rfl (be rfl (.p (congrArg (fun z=>PV.v (Value.int .u64 z)) hw37))) (ar (dC ?_))
 obtain rfl:=osi h
 exact aI (bD (aD rfl) (aD rfl)) bZ ⟨rfl,rfl⟩
def jN (p0:Int) (p1:Int) (p2:Int) (p3:Int):Option Bool:=cond (p3 == 1) (some (decide (0<p1))) (cond (p3 == 2) (some (decide ((IntKind.u64.wrap (p2 - p1))≤p1))) (cond (p3 == 3) (some ((decide ((IntKind.u64.wrap (p2 - p1))<p1))||((p1 == (IntKind.u64.wrap (p2 - p1)))&&((Int.tmod p0 2) == 1)))) (some false)))
theorem sr {p0:Int} {p1:Int} {p2:Int} {p3:Int} {r:Bool}  (h:jN p0 p1 p2 p3=some r):PF 183 [pU p0,pU p1,pU p2,pI p3] (pB r):=by
 unfold jN at h
 refine bo ?_
 refine dZ Tryz.func183 rfl Tryz.ntmps183 Tryz.results183 rfl (bh [8] (by kernel_rfl) (cw (an [10,11,12] [(9,pU (IntKind.u64.wrap (p2 - p1)))] (by kernel_rfl) (cQ (ap [(13,pI p3)] (by kernel_rfl) (aW (jX (bU [15] [(14,pB (p3 == 1))] (by kernel_rfl) rfl h (fun hc1 h=>?_) fun hc1 h=>?_))))))))
 ·refine ah ?_
  refine an [16,17] [(8,pB (decide (0<p1)))] (by kernel_rfl) (dC (au (aO ?_)))
  exact zz r h rfl
 refine ah ?_
 refine bU [19] [(18,pB (p3 == 2))] (by kernel_rfl) rfl h (fun hc2 h=>?_) fun hc2 h=>?_
 ·refine ah ?_
  refine an [20,21,22] [(8,pB (decide ((IntKind.u64.wrap (p2 - p1))≤p1)))] (by kernel_rfl) (dC (au (aO ?_)))
  exact zz r h rfl
 refine ah ?_
 refine bU [24] [(23,pB (p3 == 3))] (by kernel_rfl) rfl h (fun hc3 h=>?_) fun hc3 h=>?_
 ·refine ah ?_
  refine an (rg 25 13) [(8,pB ((decide ((IntKind.u64.wrap (p2 - p1))<p1))||((p1 == (IntKind.u64.wrap (p2 - p1)))&&((Int.tmod p0 2) == 1))))] (by kernel_rfl) (dC (au (aO ?_)))
  exact zz r h rfl
 refine ae ?_
 refine aq (cw (ap [(8,pB false)] (by kernel_rfl) (dC ?_)))
 exact zz r h rfl
def kn (p0:Zi) (p1:Int) (p2:Int):Option (Int×Int):=cond (((p1 == 0)||(decide (p2<0)))||(decide (3<p2))) (some ((0:Int),(2:Int))) (cond (decide (p1≤p0.Hi)) (some ((0:Int),(3:Int))) ((fI p0.Hi p0.Lo p1).bind fun x4=>(jN x4.1 x4.2 p1 p2).bind fun x5=>cond (!x5) (some (x4.1,(0:Int))) (cond (x4.1 == 18446744073709551615) (some ((0:Int),(3:Int))) (some ((IntKind.u64.wrap (x4.1+1)),(0:Int))))))
theorem qw {p0:Zi} {p1:Int} {p2:Int} {r:(Int×Int)}  (h:kn p0 p1 p2=some r):PF 153 [.agg [pU p0.Hi,pU p0.Lo],pU p1,pI p2] (.tup [pU r.1,pI r.2]):=by
 unfold kn at h
 refine bo ?_
 refine dZ Tryz.func153 rfl Tryz.ntmps153 Tryz.results153 rfl (dj rfl (bC (cs:=[pU p0.Hi,pU p0.Lo]) rfl rfl (fun b1=>br [6,7] (by kernel_rfl) (cQ (bU (rg 10 9) [(19,pB (((p1 == 0)||(decide (p2<0)))||(decide (3<p2))))] (by kernel_rfl) rfl h (fun hc2 h=>?_) fun hc2 h=>?_)))))
 ·refine ah ?_
  refine dq [(6,pU 0),(7,pI 2)] (by kernel_rfl) ?_
  obtain rfl:=osi h
  exact aI (bD (aD rfl) (aD rfl)) bZ ⟨rfl,rfl⟩
 refine ae ?_
 refine cQ (aV [0] [20,21,22] [(23,pB (decide (p1≤p0.Hi)))] (by kernel_rfl) (dW rfl h (fun hc3 h=>?_) fun hc3 h=>?_))
 ·refine ah ?_
  refine dq [(6,pU 0),(7,pI 3)] (by kernel_rfl) ?_
  obtain rfl:=osi h
  exact aI (bD (aD rfl) (aD rfl)) bZ ⟨rfl,rfl⟩
 refine ae ?_
 refine dV h fun x4 hx4 h=>aB [0,0] ((rg 25 6)++[24,31,32]) [(8,pU x4.1),(9,pU x4.2)] (bw 5 (lQ hx4) bL) (by kernel_rfl) (cQ (aa h fun x5 hx5 h=>aB [] (rg 33 5) [(38,pB (!x5))] (bw 4 (sr hx5) bL) (by kernel_rfl) (dW rfl h (fun hc6 h=>?_) fun hc6 h=>?_)))
 ·refine ah ?_
  refine an [39] [(6,pU x4.1),(7,pI 0)] (by kernel_rfl) (ua ?_)
  obtain rfl:=osi h
  exact aI (bD (aD rfl) (aD rfl)) bZ ⟨rfl,rfl⟩
 refine ae ?_
 refine cQ (bU [40] [(41,pB (x4.1 == 18446744073709551615))] (by kernel_rfl) rfl h (fun hc7 h=>?_) fun hc7 h=>?_)
 ·refine ah ?_
  refine dq [(6,pU 0),(7,pI 3)] (by kernel_rfl) ?_
  obtain rfl:=osi h
  exact aI (bD (aD rfl) (aD rfl)) bZ ⟨rfl,rfl⟩
 refine ae ?_
 refine cw (an [42,43] [(6,pU (IntKind.u64.wrap (x4.1+1))),(7,pI 0)] (by kernel_rfl) (dC ?_))
 obtain rfl:=osi h
 exact aI (bD (aD rfl) (aD rfl)) bZ ⟨rfl,rfl⟩
def jO (p0:Int) (p1:Int) (p2:Int) (p3:Int):Option (Int×Int):=(iD p0 p1).bind fun x1=>(kn x1 p2 p3).bind fun x2=>some (x2.1,x2.2)
theorem su {p0:Int} {p1:Int} {p2:Int} {p3:Int} {r:(Int×Int)}  (h:jO p0 p1 p2 p3=some r):PF 145 [pU p0,pU p1,pU p2,pI p3] (.tup [pU r.1,pI r.2]):=by
 unfold jO at h
 refine bo ?_
 refine dZ Tryz.func145 rfl Tryz.ntmps145 Tryz.results145 rfl (bh [8,9] (by kernel_rfl) (dV h fun x1 hx1 h=>aa h fun x2 hx2 h=>aB [] (rg 10 8) [(8,pU x2.1),(9,pI x2.2)] (bw 2 (lm hx1) (bw 5 (qw hx2) bL)) (by kernel_rfl) (dC ?_)))
 obtain rfl:=osi h
 exact aI (bD (aD rfl) (aD rfl)) bZ ⟨rfl,rfl⟩
def jb (p0:Int) (p1:Int) (p2:Int):Option Int:=(nz p2).bind fun u1=>(fI (Int.tmod p0 p2) p1 p2).bind fun x2=>some x2.2
theorem pF {p0:Int} {p1:Int} {p2:Int} {r:Int}  (h:jb p0 p1 p2=some r):PF 176 [pU p0,pU p1,pU p2] (pU r):=by
 unfold jb at h
 refine bo ?_
 refine dZ Tryz.func176 rfl Tryz.ntmps176 Tryz.results176 rfl (bh [6] (by kernel_rfl) (dV h fun u1 hu1 h=>aa h fun x2 hx2 h=>aB [] ((rg 10 6)++[9,16,17,7]) [(8,pU x2.2)] (zF 2 hu1 (bw 5 (lQ hx2) bL)) (by kernel_rfl) (cw (an [18] [(6,pU x2.2)] (by kernel_rfl) (dC ?_)))))
 exact zz r h rfl
def jP (p0:Int) (p1:Int) (p2:Int):Option Int:=cond (p2 == 0) (some (0:Int)) ((iD p0 p1).bind fun x2=>(jb x2.Hi x2.Lo p2).bind fun x4=>some x4)
theorem sv {p0:Int} {p1:Int} {p2:Int} {r:Int}  (h:jP p0 p1 p2=some r):PF 146 [pU p0,pU p1,pU p2] (pU r):=by
 unfold jP at h
 refine bo ?_
 refine dZ Tryz.func146 rfl Tryz.ntmps146 Tryz.results146 rfl (bh [6] (by kernel_rfl) (cQ (bU [8] [(9,pB (p2 == 0))] (by kernel_rfl) rfl h (fun hc1 h=>?_) fun hc1 h=>?_)))
 ·refine ah ?_
  refine dq [(6,pU 0)] (by kernel_rfl) ?_
  exact zz r h rfl
 refine ae ?_
 refine dV h fun x2 hx2 h=>aj (bp 3 [] [10,11] [(12,.agg [pU x2.Hi,pU x2.Lo])] (bw 2 (lm hx2) bL) (by kernel_rfl) (aF rfl (aY (cs:=[pU 0,pU 0]) rfl rfl rfl rfl (fun b3=>aH rfl rfl (ag (vs:=[pU x2.Hi,pU x2.Lo]) rfl rfl rfl rfl rfl bB nC (ar (dV h fun x4 hx4 h=>aB [0,0] (rg 13 6) [(6,pU x4)] (bw 5 (pF hx4) bL) (by kernel_rfl) (dC ?_))))))))
 exact zz r h rfl
def gm (p0:Int):Option Bool:=some (p0 != p0)
theorem lf {p0:Int} {r:Bool}  (h:gm p0=some r):PF 192 [pU p0] (pB r):=by
 unfold gm at h
 refine bo ?_
 refine dZ Tryz.func192 rfl Tryz.ntmps192 Tryz.results192 rfl (bh [2] (by kernel_rfl) (cw (an [3,4,5] [(2,pB (p0 != p0))] (by kernel_rfl) (dC ?_))))
 exact zz r h rfl
def fu (p0:Int) (p1:Int):Option Int:=(gm p0).bind fun x1=>(gm p1).bind fun x2=>cond x1 (cond x2 (some (0:Int)) (some (-1))) (cond x2 (some (1:Int)) (cond (decide (p0<p1)) (some (-1)) (cond (decide (p1<p0)) (some (1:Int)) (some (0:Int)))))
theorem nL {p0:Int} {p1:Int} {r:Int}  (h:fu p0 p1=some r):PF 177 [pU p0,pU p1] (pI r):=by
 unfold fu at h
 refine bo ?_
 refine dZ Tryz.func177 rfl Tryz.ntmps177 Tryz.results177 rfl (bh [4] (by kernel_rfl) (dV h fun x1 hx1 h=>aB [] [7,8] [(5,pB x1)] (bw 1 (lf hx1) bL) (by kernel_rfl) (dV h fun x2 hx2 h=>aB [] [9,10] [(6,pB x2)] (bw 1 (lf hx2) bL) (by kernel_rfl) (cQ (ap [(11,pB x1)] (by kernel_rfl) (dW rfl h (fun hc3 h=>?_) fun hc3 h=>?_))))))
 ·refine ah ?_
  refine ah (ap [(12,pB x2)] (by kernel_rfl) (dW rfl h (fun hc4 h=>?_) fun hc4 h=>?_))
  ·refine ah ?_
   refine dq [(4,pI 0)] (by kernel_rfl) (aO ?_)
   exact zz r h rfl
  refine ae ?_
  refine cw (dq [(4,pI (-1))] (by kernel_rfl) ?_)
  exact zz r h rfl
 refine ae ?_
 refine cQ (ap [(13,pB x2)] (by kernel_rfl) (dW rfl h (fun hc5 h=>?_) fun hc5 h=>?_))
 ·refine ah ?_
  refine dq [(4,pI 1)] (by kernel_rfl) ?_
  exact zz r h rfl
 refine ae ?_
 refine cQ (bU [14,15] [(16,pB (decide (p0<p1)))] (by kernel_rfl) rfl h (fun hc6 h=>?_) fun hc6 h=>?_)
 ·refine ah ?_
  refine dq [(4,pI (-1))] (by kernel_rfl) ?_
  exact zz r h rfl
 refine ae ?_
 refine cQ (bU [17,18] [(19,pB (decide (p1<p0)))] (by kernel_rfl) rfl h (fun hc7 h=>?_) fun hc7 h=>?_)
 ·refine ah ?_
  refine dq [(4,pI 1)] (by kernel_rfl) ?_
  exact zz r h rfl
 refine ae ?_
 refine cw (ap [(4,pI 0)] (by kernel_rfl) (dC ?_))
 exact zz r h rfl
def iE (p0:Zc) (p1:Zc):Option Int:=(fu p1.rest p0.rest).bind fun x3=>cond (x3 != 0) (some x3) ((dB p0.index_ p1.index_).bind fun x5=>some x5)
theorem oS {p0:Zc} {p1:Zc} {r:Int}  (h:iE p0 p1=some r):PF 147 [.agg [pI p0.index_,pU p0.share,pU p0.rest],.agg [pI p1.index_,pU p1.share,pU p1.rest]] (pI r):=by
 unfold iE at h
 refine bo ?_
 refine dZ Tryz.func147 rfl Tryz.ntmps147 Tryz.results147 rfl (dj rfl (bC (cs:=[pI p0.index_,pU p0.share,pU p0.rest]) rfl rfl (fun b1=>aF rfl (bC (cs:=[pI p1.index_,pU p1.share,pU p1.rest]) rfl rfl (fun b2=>br [4] (by kernel_rfl) (cQ (aa h fun x3 hx3 h=>aB [0,1] (rg 6 5) [(5,pI x3)] (bw 4 (nL hx3) bL) (by kernel_rfl) (cw (bU [11] [(12,pB (x3 != 0))] (by kernel_rfl) rfl h (fun hc4 h=>?_) fun hc4 h=>?_)))))))))
 ·refine ah ?_
  refine an [13] [(4,pI x3)] (by kernel_rfl) (ua ?_)
  exact zz r h rfl
 refine ae ?_
 refine dV h fun x5 hx5 h=>aB [1,0] (rg 14 5) [(4,pI x5)] (bw 4 (gA hx5) bL) (by kernel_rfl) (dC ?_)
 exact zz r h rfl
def lc (p0:Int):Option Int:=Option.bind (cond (decide (65536≤p0)) (some ((cV .u32 p0 16),16)) (some (p0,0))) (fun (v1,v2)=>Option.bind (cond (decide (256≤v1)) (some ((cV .u32 v1 8),(IntKind.i64.wrap (v2+8)))) (some (v1,v2))) (fun (v5,v6)=>(idx (⟨#[0,1,2,2,3,3,3,3,4,4,4,4,4,4,4,4,5,5,5,5,5,5,5,5,5,5,5,5,5,5,5,5,6,6,6,6,6,6,6,6,6,6,6,6,6,6,6,6,6,6,6,6,6,6,6,6,6,6,6,6,6,6,6,6,7,7,7,7,7,7,7,7,7,7,7,7,7,7,7,7,7,7,7,7,7,7,7,7,7,7,7,7,7,7,7,7,7,7,7,7,7,7,7,7,7,7,7,7,7,7,7,7,7,7,7,7,7,7,7,7,7,7,7,7,7,7,7,7,8,8,8,8,8,8,8,8,8,8,8,8,8,8,8,8,8,8,8,8,8,8,8,8,8,8,8,8,8,8,8,8,8,8,8,8,8,8,8,8,8,8,8,8,8,8,8,8,8,8,8,8,8,8,8,8,8,8,8,8,8,8,8,8,8,8,8,8,8,8,8,8,8,8,8,8,8,8,8,8,8,8,8,8,8,8,8,8,8,8,8,8,8,8,8,8,8,8,8,8,8,8,8,8,8,8,8,8,8,8,8,8,8,8,8,8,8,8,8,8,8,8,8,8,8,8,8,8]⟩:ByteArray).data.toList (IntKind.u8.wrap v5)).bind fun c9=>lb ((IntKind.i64.wrap (v6+(IntKind.i64.wrap (c9.toNat:Int))))) (fun w10=>some w10)))
theorem pG {p0:Int} {r:Int}  (h:lc p0=some r):PF 110 [.v (.int .u32 p0)] (pI r):=by
 unfold lc at h
 refine bo ?_
 refine dZ Tryz.func110 rfl Tryz.ntmps110 Tryz.results110 rfl (ap [(2,pI 0)] (by kernel_rfl) (cQ (an [3] [(4,pB (decide (65536≤p0)))] (by kernel_rfl) (ga h fun q3 hq3 h=>?_))))
 refine av (Y:=Unit×(Int×Int)) (fun (_,(v1,v2))=>[(0,.v (.int .u32 v1)),(2,pI v2)]) (fun (_,(v1,v2))=>[]) (fun (_,(v1,v2))=>q3=(v1,v2)) ?_ ?_
 ·skip
  refine kU rfl hq3 (fun hc4 hq3=>?_) fun hc4 hq3=>?_
  ·refine ah ?_
   refine an [5,6] [(0,.v (.int .u32 (cV .u32 p0 16)))] (by kernel_rfl) (aW (ap [(2,pI 16)] (by kernel_rfl) ?_))
   obtain rfl:=osi hq3
   exact am ((),((cV .u32 p0 16),16)) (eN rfl) bZ rfl
  refine ae ?_
  obtain rfl:=osi hq3
  exact am ((),(p0,0)) (eN rfl) bZ rfl
 rintro ⟨_,⟨v1,v2⟩⟩ τ hz;(try dsimp only at hz);subst q3;(try dsimp only at h);dsimp only [aK]
 refine gh (an [7] [(8,pB (decide (256≤v1)))] (by kernel_rfl) (ga h fun q7 hq7 h=>?_))
 refine av (Y:=Unit×(Int×Int)) (fun (_,(v5,v6))=>[(0,.v (.int .u32 v5)),(2,pI v6)]) (fun (_,(v5,v6))=>[]) (fun (_,(v5,v6))=>q7=(v5,v6)) ?_ ?_
 ·skip
  refine kU rfl hq7 (fun hc8 hq7=>?_) fun hc8 hq7=>?_
  ·refine ah ?_
   refine an [9,10] [(0,.v (.int .u32 (cV .u32 v1 8)))] (by kernel_rfl) (aW (an [11,12] [(2,pI (IntKind.i64.wrap (v2+8)))] (by kernel_rfl) ?_))
   obtain rfl:=osi hq7
   exact am ((),((cV .u32 v1 8),(IntKind.i64.wrap (v2+8)))) (eN rfl) bZ rfl
  refine ae ?_
  obtain rfl:=osi hq7
  exact am ((),(v1,v2)) (eN rfl) bZ rfl
 rintro ⟨_,⟨v5,v6⟩⟩ τ hz;(try dsimp only at hz);subst q7;(try dsimp only at h);dsimp only [aK]
 refine ah (aa h fun c9 hc9 h=>?_)
 refine dr h ?_;clear h;intro w10 hw10 h
 refine aj (bp 6 [] (rg 13 5) [(18,pI (IntKind.i64.wrap (v6+(IntKind.i64.wrap (c9.toNat:Int)))))] (Dd 3 (s:=(⟨#[0,1,2,2,3,3,3,3,4,4,4,4,4,4,4,4,5,5,5,5,5,5,5,5,5,5,5,5,5,5,5,5,6,6,6,6,6,6,6,6,6,6,6,6,6,6,6,6,6,6,6,6,6,6,6,6,6,6,6,6,6,6,6,6,7,7,7,7,7,7,7,7,7,7,7,7,7,7,7,7,7,7,7,7,7,7,7,7,7,7,7,7,7,7,7,7,7,7,7,7,7,7,7,7,7,7,7,7,7,7,7,7,7,7,7,7,7,7,7,7,7,7,7,7,7,7,7,7,8,8,8,8,8,8,8,8,8,8,8,8,8,8,8,8,8,8,8,8,8,8,8,8,8,8,8,8,8,8,8,8,8,8,8,8,8,8,8,8,8,8,8,8,8,8,8,8,8,8,8,8,8,8,8,8,8,8,8,8,8,8,8,8,8,8,8,8,8,8,8,8,8,8,8,8,8,8,8,8,8,8,8,8,8,8,8,8,8,8,8,8,8,8,8,8,8,8,8,8,8,8,8,8,8,8,8,8,8,8,8,8,8,8,8,8,8,8,8,8,8,8,8,8,8,8,8,8]⟩:ByteArray)) hc9 bL) (by kernel_rfl) (bM rfl rfl rfl (be rfl (.p (congrArg (fun z=>PV.v (Value.int .i64 z)) hw10))) (ar (dC ?_))))
 exact zz r h rfl
def kA (p0:Int):Option Int:=cond false ((lc (IntKind.u32.wrap p0)).bind fun x2=>some x2) ((eQ p0).bind fun x3=>some x3)
theorem rq {p0:Int} {r:Int}  (h:kA p0=some r):PF 73 [pU p0] (pI r):=by
 unfold kA at h
 refine bo ?_
 refine dZ Tryz.func73 rfl Tryz.ntmps73 Tryz.results73 rfl (bh [2] (by kernel_rfl) (cw (kU rfl h (fun hc1 h=>?_) fun hc1 h=>?_)))
 ·refine ah ?_
  refine aa h fun x2 hx2 h=>aB [] [3,4,5] [(2,pI x2)] (bw 2 (pG hx2) bL) (by kernel_rfl) (ua ?_)
  exact zz r h rfl
 refine ae ?_
 refine dV h fun x3 hx3 h=>aB [] [6,7] [(2,pI x3)] (bw 1 (lP hx3) bL) (by kernel_rfl) (dC ?_)
 exact zz r h rfl
def bJ (p0:(List Zc)) (p1:Int) (p2:Int) (p3:(Zc→Zc→Option Int)):Option (List Zc):=(bu (S:=(List Zc)×Int) (T:=((List Zc))) (fun (l2,v3)=>cond (decide (v3<p2)) ((bu (S:=(List Zc)×Int) (T:=((List Zc))) (fun (l10,v11)=>(gd (decide (p1<v11)) (idx l10 v11)).bind fun m16=>(gd (decide (p1<v11)) (idx l10 (IntKind.i64.wrap (v11 - 1)))).bind fun m17=>(gd (decide (p1<v11)) (p3 m16 m17)).bind fun x18=>cond ((decide (p1<v11))&&(decide (x18<0))) ((idx l10 (IntKind.i64.wrap (v11 - 1))).bind fun m22=>(idx l10 v11).bind fun m23=>(idx l10 v11).bind fun m24=>(idx (l10.set v11.toNat m22) (IntKind.i64.wrap (v11 - 1))).bind fun m26=>some (.inl (((l10.set v11.toNat m22).set (IntKind.i64.wrap (v11 - 1)).toNat m23),(IntKind.i64.wrap (v11 - 1))))) (some (.inr l10))) FUEL (l2,v3)).bind fun l13=>some (.inl (l13,(IntKind.i64.wrap (v3+1))))) (some (.inr l2))) FUEL (p0,(IntKind.i64.wrap (p1+1)))).bind fun l5=>some l5
theorem fD {p0:(List Zc)} {p1:Int} {p2:Int} {p3:(Zc→Zc→Option Int)} {a_0:Option Addr}  {n_0:Nat}  {c_0:Nat} {r:(List Zc)} {g3:PV} (hg3:∀ {y0:Zc} {y1:Zc} {w:Int},p3 y0 y1=some w→PFV g3 [.agg [pI y0.index_,pU y0.share,pU y0.rest],.agg [pI y1.index_,pU y1.share,pU y1.rest]] (pI w)) (h:bJ p0 p1 p2 p3=some r):PCall 199 [.v (.slice a_0 n_0 c_0),pI p1,pI p2,g3] [PRes.row a_0 n_0 c_0 200 3 (List.map Zc.enc p0)] (fun pv ρ'=>pv=.tup []∧ρ'=[PRes.row a_0 n_0 c_0 200 3 (List.map Zc.enc r)]):=by
 unfold bJ at h
 refine ky Tryz.func199 rfl Tryz.ntmps199 Tryz.results199 rfl ?_
 refine jn (enc:=Zc.enc) (xs:=p0) (a:=a_0) dt (fun hl ha=>?_);subst hl;clear ha
 refine ah (an [10,11] [(8,pI (IntKind.i64.wrap (p1+1)))] (by kernel_rfl) (ga h fun q7 hq7 h=>?_))
 refine kG (Y:=Unit×((List Zc))) (fun (_,l5)=>[]) (fun (_,l5)=>[PRes.row a_0 p0.length c_0 200 3 (List.map Zc.enc l5)]) (fun (_,l5)=>q7=l5) ?_ ?_
 ·refine aR ?_
  refine aZ (Y:=Unit) (S:=(List Zc)×Int) _ hq7 (fun _ (l2,v3)=>[(0,pO a_0 p0.length c_0),(1,pI p1),(2,pI p2),(3,g3),(8,pI v3)]) (fun _ (l2,v3)=>[PRes.row a_0 p0.length c_0 200 3 (List.map Zc.enc l2)]) () (mv rfl) cq ?_
  rintro _ ⟨l2,v3⟩ o τ hb6;(try dsimp only at hb6);dsimp only [aK]
  refine gh (bU [12,13] [(14,pB (decide (v3<p2)))] (by kernel_rfl) rfl hb6 (fun hc8 hb6=>?_) fun hc8 hb6=>?_)
  ·refine ae ?_
   refine cw (jX (an [17] [(9,pI v3)] (by kernel_rfl) (ga hb6 fun q15 hq15 hb6=>?_)))
   refine kG (Y:=Unit×((List Zc))) (fun (_,l13)=>[(0,pO a_0 p0.length c_0),(1,pI p1),(2,pI p2),(3,g3),(8,pI v3)]) (fun (_,l13)=>[PRes.row a_0 p0.length c_0 200 3 (List.map Zc.enc l13)]) (fun (_,l13)=>q15=l13) ?_ ?_
   ·refine aR ?_
    refine aZ (Y:=Unit) (S:=(List Zc)×Int) _ hq15 (fun _ (l10,v11)=>[(0,pO a_0 p0.length c_0),(1,pI p1),(2,pI p2),(3,g3),(8,pI v3),(9,pI v11)]) (fun _ (l10,v11)=>[PRes.row a_0 p0.length c_0 200 3 (List.map Zc.enc l10)]) () (tL rfl) cq ?_
    rintro _ ⟨l10,v11⟩ o τ hb14;(try dsimp only at hb14);dsimp only [aK]
    refine gh (bN (ρd:=[]) [(0,0),(1,0),(2,0),(3,0),(4,0),(5,0),(6,0),(7,0),(8,0),(9,0),(10,0),(11,0),(12,0),(13,0),(14,1),(15,0),(16,0)] _ (List.Perm.refl _) (by kernel_rfl) rfl (aa hb14 fun m16 hm16 hb14=>t8 7 [18,19,20] [(21,pB (decide (p1<v11))),(22,pgv (decide (p1<v11)) (g3)),(23,pgv (decide (p1<v11)) (pO a_0 p0.length c_0)),(24,pgv (decide (p1<v11)) (pI v11))] (by kernel_rfl) (mu (dX rfl rfl rfl) rfl rfl (cm (enc:=Zc.enc) (xs:=l10) rfl rfl rfl (.g rfl) dt (.g rfl) (cY hm16)) (mu (dX rfl rfl rfl) rfl rfl (cn (sz:=3) (p:=.agg [pI m16.index_,pU m16.share,pU m16.rest]) (enc:=Zc.enc) (xs:=l10) (a:=a_0) v11 0 m16 rfl (.g rfl) rfl dt (cY hm16) rfl) (aa hb14 fun m17 hm17 hb14=>t8 3 [28] [(27,pgv (decide (p1<v11)) (pO a_0 p0.length c_0)),(29,pgv (decide (p1<v11)) (pI (IntKind.i64.wrap (v11 - 1))))] (by kernel_rfl) (mu (dX rfl rfl rfl) rfl rfl (cm (enc:=Zc.enc) (xs:=l10) rfl rfl rfl (.g rfl) dt (.g rfl) (cY hm17)) (mu (dX rfl rfl rfl) rfl rfl (cn (sz:=3) (p:=.agg [pI m17.index_,pU m17.share,pU m17.rest]) (enc:=Zc.enc) (xs:=l10) (a:=a_0) (IntKind.i64.wrap (v11 - 1)) 0 m17 rfl (.g rfl) rfl dt (cY hm17) rfl) (aa hb14 fun x18 hx18 hb14=>zy (dX rfl rfl rfl) rfl rfl rfl (.g rfl) (tI (.g rfl) (tI (.g rfl) BD)) (fun hc=>hg3 (cY hx18 hc)) (mu (dX rfl rfl rfl) rfl rfl (wv rfl (.g rfl) (.p rfl) rfl) (rV rfl rfl rfl (po rfl (.p rfl) (.p rfl) (.g rfl)) (cC (dW rfl hb14 (fun hc19 hb14=>?_) fun hc19 hb14=>?_))))))))))))
    ·refine ae ?_
     refine cw (aR (jn (enc:=Zc.enc) (xs:=l10) (a:=a_0) dt (fun hl20 ha21=>aa hb14 fun m22 hm22 hb14=>aa hb14 fun m23 hm23 hb14=>aa hb14 fun m24 hm24 hb14=>aa hb14 fun m26 hm26 hb14=>?_)))
     refine kG (Y:=Unit) (fun _=>[(0,pO a_0 p0.length c_0),(1,pI p1),(2,pI p2),(3,g3),(8,pI v3),(9,pI v11)]) (fun _=>[PRes.row a_0 p0.length c_0 200 3 (List.map Zc.enc ((l10.set v11.toNat m22).set (IntKind.i64.wrap (v11 - 1)).toNat m23))]) (fun _=>True) ?_ ?_
     ·refine hU (ρd:=[PRes.row a_0 _ _ _ _ _]) _ (List.Perm.refl _) ?_
      refine az 0 (by kernel_rfl) rfl rfl rfl rfl (cM (p:=pO a_0 p0.length c_0) rfl (.p rfl)) (az 1 (by kernel_rfl) rfl rfl rfl rfl (cM (p:=pI v11) rfl (.p rfl)) (az 2 (by kernel_rfl) rfl rfl rfl rfl (cM (p:=pO a_0 p0.length c_0) rfl (.p rfl)) (az 3 (by kernel_rfl) rfl rfl rfl rfl (cM (p:=pI v11) rfl (.p rfl)) (az 4 (by kernel_rfl) rfl rfl rfl rfl (gM rfl (.p rfl) (.p rfl) rfl) (az 5 (by kernel_rfl) rfl rfl rfl rfl (cM (p:=pO a_0 p0.length c_0) rfl (.p rfl)) (az 6 (by kernel_rfl) rfl rfl rfl rfl (cM (p:=pI v11) rfl (.p rfl)) (az 7 (by kernel_rfl) rfl rfl rfl rfl (gM rfl (.p rfl) (.p rfl) rfl) ?_)))))))
      refine az 8 (by kernel_rfl) rfl rfl rfl rfl (lx (xs:=l10) (by first | exact hl20 | rfl | (simp only [List.length_set];exact hl20) | simp only [List.length_set]) ha21 rfl rfl rfl (.p rfl) (.p rfl) (fun _=>hm22)) ?_
      refine az 10 (by kernel_rfl) rfl rfl rfl rfl (cM (p:=pO a_0 p0.length c_0) rfl (.p rfl)) (az 11 (by kernel_rfl) rfl rfl rfl rfl (cM (p:=pI v11) rfl (.p rfl)) ?_)
      refine az 12 (by kernel_rfl) rfl rfl rfl rfl (lx (xs:=l10) (by first | exact hl20 | rfl | (simp only [List.length_set];exact hl20) | simp only [List.length_set]) ha21 rfl rfl rfl (.p rfl) (.p rfl) (fun _=>hm23)) ?_
      refine bA 9 13 (by kernel_rfl) ?_ ?_
      ·skip
       refine af rfl rfl rfl rfl (bX (cn (sz:=3) (p:=.agg [pI m22.index_,pU m22.share,pU m22.rest]) (enc:=Zc.enc) (xs:=l10) (a:=a_0) (IntKind.i64.wrap (v11 - 1)) 0 m22 rfl (.p rfl) rfl dt (fun _=>hm22) rfl) (ai 13 (by kernel_rfl) (af rfl rfl rfl rfl (bX (cn (sz:=3) (p:=.agg [pI m23.index_,pU m23.share,pU m23.rest]) (enc:=Zc.enc) (xs:=l10) (a:=a_0) v11 0 m23 rfl (.p rfl) rfl dt (fun _=>hm23) rfl) ?_))))
       refine az 14 (by kernel_rfl) rfl rfl rfl rfl (lx (xs:=l10) (by first | exact hl20 | rfl | (simp only [List.length_set];exact hl20) | simp only [List.length_set]) ha21 rfl rfl rfl (.p rfl) (.p rfl) (fun _=>hm24)) ?_
       refine ai 15 (by kernel_rfl) (aQ rfl rfl rfl (fk (enc:=Zc.enc) (xs:=l10) (a:=a_0) v11 0 m24 m22 rfl rfl rfl rfl (fun _=>rfl) rfl rfl hm24 AC bB ?_))
       refine az 16 (by kernel_rfl) rfl rfl rfl rfl (lx (xs:=(l10.set v11.toNat m22)) (by first | exact hl20 | rfl | (simp only [List.length_set];exact hl20) | simp only [List.length_set]) ha21 rfl rfl rfl (.p rfl) (.p rfl) (fun _=>hm26)) ?_
       refine ai 17 (by kernel_rfl) (aQ rfl rfl rfl (fk (enc:=Zc.enc) (xs:=(l10.set v11.toNat m22)) (a:=a_0) (IntKind.i64.wrap (v11 - 1)) 0 m26 m23 rfl rfl rfl rfl (fun _=>rfl) rfl rfl hm26 AC bB (aT (by kernel_rfl) ?_)))
       exact fB () (tL rfl) cq trivial
      skip
      refine af rfl rfl rfl rfl (bX (cn (sz:=3) (p:=.agg [pI m23.index_,pU m23.share,pU m23.rest]) (enc:=Zc.enc) (xs:=l10) (a:=a_0) v11 0 m23 rfl (.p rfl) rfl dt (fun _=>hm23) rfl) (ai 9 (by kernel_rfl) (af rfl rfl rfl rfl (bX (cn (sz:=3) (p:=.agg [pI m22.index_,pU m22.share,pU m22.rest]) (enc:=Zc.enc) (xs:=l10) (a:=a_0) (IntKind.i64.wrap (v11 - 1)) 0 m22 rfl (.p rfl) rfl dt (fun _=>hm22) rfl) ?_))))
      refine az 14 (by kernel_rfl) rfl rfl rfl rfl (lx (xs:=l10) (by first | exact hl20 | rfl | (simp only [List.length_set];exact hl20) | simp only [List.length_set]) ha21 rfl rfl rfl (.p rfl) (.p rfl) (fun _=>hm24)) ?_
      refine ai 15 (by kernel_rfl) (aQ rfl rfl rfl (fk (enc:=Zc.enc) (xs:=l10) (a:=a_0) v11 0 m24 m22 rfl rfl rfl rfl (fun _=>rfl) rfl rfl hm24 AC bB ?_))
      refine az 16 (by kernel_rfl) rfl rfl rfl rfl (lx (xs:=(l10.set v11.toNat m22)) (by first | exact hl20 | rfl | (simp only [List.length_set];exact hl20) | simp only [List.length_set]) ha21 rfl rfl rfl (.p rfl) (.p rfl) (fun _=>hm26)) ?_
      refine ai 17 (by kernel_rfl) (aQ rfl rfl rfl (fk (enc:=Zc.enc) (xs:=(l10.set v11.toNat m22)) (a:=a_0) (IntKind.i64.wrap (v11 - 1)) 0 m26 m23 rfl rfl rfl rfl (fun _=>rfl) rfl rfl hm26 AC bB (aT (by kernel_rfl) ?_)))
      exact fB () (tL rfl) cq trivial
     rintro _ τ ρ1 hsub28 _;(try dsimp only at hsub28);dsimp only [aK]
     refine aq (aW (oC hsub28 (an [35,36] [(9,pI (IntKind.i64.wrap (v11 - 1)))] (by kernel_rfl) ?_)))
     exact bt hb14 () (tL rfl) cq
    refine bc ?_
    refine aP (aJ hb14 (fun ht=>aM rfl ?_))
    exact fB ((),l10) (mv rfl) cq ht.symm
   rintro ⟨_,l13⟩ τ ρ1 hsub29 hz;(try dsimp only at hz hsub29);subst q15;(try dsimp only at hb6);dsimp only [aK]
   refine aq (aW (oC hsub29 (an [15,16] [(8,pI (IntKind.i64.wrap (v3+1)))] (by kernel_rfl) ?_)))
   exact bt hb6 () (mv rfl) cq
  refine bc ?_
  refine aP (aJ hb6 (fun ht=>aM rfl ?_))
  exact fB ((),l2) sL cq ht.symm
 rintro ⟨_,l5⟩ τ ρ1 hsub30 hz;(try dsimp only at hz hsub30);subst q7;(try dsimp only at h);dsimp only [aK]
 obtain rfl:=osi h
 exact tD (rfl:PRV [] _ _ (.tup [])) (PSub.trans cq hsub30) ⟨rfl,rfl⟩
def bI (p0:(List Zc)) (p1:Int) (p2:Int) (p3:Int) (p4:(Zc→Zc→Option Int)):Option (List Zc):=(bu (S:=Unit) (T:=(Unit)⊕(_)) (fun _=>cond (decide ((IntKind.i64.wrap (p2 - p1))≤12)) ((bJ p0 p1 p2 p4).bind fun x4=>some (.inr (.inr x4))) (cond (p3 == 0) (none) (cond (!true) (none) (none)))) FUEL ()).bind fun q=>match q with | .inl _=>none | .inr e=>some e
theorem gE {p0:(List Zc)} {p1:Int} {p2:Int} {p3:Int} {p4:(Zc→Zc→Option Int)} {a_0:Option Addr}  {n_0:Nat}  {c_0:Nat} {r:(List Zc)} {g4:PV} (hg4:∀ {y0:Zc} {y1:Zc} {w:Int},p4 y0 y1=some w→PFV g4 [.agg [pI y0.index_,pU y0.share,pU y0.rest],.agg [pI y1.index_,pU y1.share,pU y1.rest]] (pI w)) (h:bI p0 p1 p2 p3 p4=some r):PCall 193 [.v (.slice a_0 n_0 c_0),pI p1,pI p2,pI p3,g4] [PRes.row a_0 n_0 c_0 200 3 (List.map Zc.enc p0)] (fun pv ρ'=>pv=.tup []∧ρ'=[PRes.row a_0 n_0 c_0 200 3 (List.map Zc.enc r)]):=by
 unfold bI at h
 refine ky Tryz.func193 rfl Tryz.ntmps193 Tryz.results193 rfl ?_
 refine jn (enc:=Zc.enc) (xs:=p0) (a:=a_0) dt (fun hl ha=>?_);subst hl;clear ha
 refine ah (ap [(10,pB true)] (by kernel_rfl) (cw (ap [(11,pB true)] (by kernel_rfl) (ga h fun q2 hq2 h=>aR ?_))))
 refine aZ (Y:=Unit) (S:=Unit) _ hq2 (fun _ _=>[(0,pO a_0 p0.length c_0),(1,pI p1),(2,pI p2),(3,pI p3),(4,g4),(10,pB true),(11,pB true)]) (fun _ _=>[PRes.row a_0 p0.length c_0 200 3 (List.map Zc.enc p0)]) () (tM rfl) cq ?_
 rintro _ _ o τ hb1;(try dsimp only at hb1);dsimp only [aK]
 refine jX (an [21,22,23] [(12,pI (IntKind.i64.wrap (p2 - p1)))] (by kernel_rfl) (cQ (bU [24] [(25,pB (decide ((IntKind.i64.wrap (p2 - p1))≤12)))] (by kernel_rfl) rfl hb1 (fun hc3 hb1=>?_) fun hc3 hb1=>?_)))
 ·refine ah ?_
  refine aa hb1 fun x4 hx4 hb1=>cP 4 [(26,pO a_0 p0.length c_0),(27,pI p1),(28,pI p2),(29,g4)] (by kernel_rfl) ?_
  refine aF rfl (bi rfl rfl (ρ1:=[_]) (aX (by exact aN) (List.Perm.refl _)) (fD hg4 hx4) ?_);rintro _ _ ⟨rfl,rfl⟩
  refine ar (ua (au ?_))
  refine bH hb1 (fun ht=>?_);subst ht
  refine au ?_
  obtain rfl:=osi h
  exact aI (rfl:PRV [] _ _ (.tup [])) cq ⟨rfl,rfl⟩
 refine ae ?_
 refine cQ (bU [31] [(32,pB (p3 == 0))] (by kernel_rfl) rfl hb1 (fun hc5 hb1=>?_) fun hc5 hb1=>?_)
 ·refine ah ?_
  refine cP 4 [(33,pO a_0 p0.length c_0),(34,pI p1),(35,pI p2),(36,g4)] (by kernel_rfl) ?_
  exact absurd hb1 (by simp)
 refine ae ?_
 refine cQ (bU [38] [(39,pB (!true))] (by kernel_rfl) rfl hb1 (fun hc6 hb1=>?_) fun hc6 hb1=>?_)
 ·refine ah ?_
  refine cP 4 [(40,pO a_0 p0.length c_0),(41,pI p1),(42,pI p2),(43,g4)] (by kernel_rfl) ?_
  exact absurd hb1 (by simp)
 refine ae ?_
 refine cw (cP 4 [(48,pO a_0 p0.length c_0),(49,pI p1),(50,pI p2),(51,g4)] (by kernel_rfl) ?_)
 exact absurd hb1 (by simp)
def bR (p0:(List Zc)) (p1:(Zc→Zc→Option Int)):Option (List Zc):=(kA (IntKind.u64.wrap ((p0.length:Nat):Int))).bind fun x1=>(bI p0 0 ((p0.length:Nat):Int) x1 p1).bind fun x2=>some x2
theorem eR {p0:(List Zc)} {p1:(Zc→Zc→Option Int)} {a_0:Option Addr}  {n_0:Nat}  {c_0:Nat} {r:(List Zc)} {g1:PV} (hg1:∀ {y0:Zc} {y1:Zc} {w:Int},p1 y0 y1=some w→PFV g1 [.agg [pI y0.index_,pU y0.share,pU y0.rest],.agg [pI y1.index_,pU y1.share,pU y1.rest]] (pI w)) (h:bR p0 p1=some r):PCall 178 [.v (.slice a_0 n_0 c_0),g1] [PRes.row a_0 n_0 c_0 200 3 (List.map Zc.enc p0)] (fun pv ρ'=>pv=.tup []∧ρ'=[PRes.row a_0 n_0 c_0 200 3 (List.map Zc.enc r)]):=by
 unfold bR at h
 refine ky Tryz.func178 rfl Tryz.ntmps178 Tryz.results178 rfl ?_
 refine jn (enc:=Zc.enc) (xs:=p0) (a:=a_0) dt (fun hl ha=>?_);subst hl;clear ha
 refine ah (an [5,6] [(4,pI ((p0.length:Nat):Int))] (by kernel_rfl) (ga h fun x1 hx1 h=>aa h fun x2 hx2 h=>aj (bp 6 [] [9,10] [(7,pO a_0 p0.length c_0),(8,pI ((p0.length:Nat):Int)),(11,pI x1),(12,g1)] (bw 4 (rq hx1) bL) (by kernel_rfl) ?_)))
 refine aF rfl (bi rfl rfl (ρ1:=[_]) (aX (by exact aN) (List.Perm.refl _)) (gE hg1 hx2) ?_);rintro _ _ ⟨rfl,rfl⟩
 refine ar ?_
 obtain rfl:=osi h
 exact tD (rfl:PRV [] _ _ (.tup [])) cq ⟨rfl,rfl⟩
def cu (p0:Zc) (p1:Zc) (p2:Zn):Option Int:=(iE p0 p1).bind fun x3=>some x3
theorem lp {p0:Zc} {p1:Zc} {p2:Zn} {r:Int}  (h:cu p0 p1 p2=some r):PF 179 [.agg [pI p0.index_,pU p0.share,pU p0.rest],.agg [pI p1.index_,pU p1.share,pU p1.rest],.ref [.fn 147 []] 0] (pI r):=by
 unfold cu at h
 refine bo ?_
 refine dZ Tryz.func179 rfl Tryz.ntmps179 Tryz.results179 rfl (dj rfl (bC (cs:=[pI p0.index_,pU p0.share,pU p0.rest]) rfl rfl (fun b1=>aF rfl (bC (cs:=[pI p1.index_,pU p1.share,pU p1.rest]) rfl rfl (fun b2=>br [5] (by kernel_rfl) (dV h fun x3 hx3 h=>aB [1,0] (rg 6 5) [(5,pI x3)] (BH 4 (nj (pargs:=[.agg [pI p0.index_,pU p0.share,pU p0.rest],.agg [pI p1.index_,pU p1.share,pU p1.rest]]) (caps:=[]) (oS hx3)) bL) (by kernel_rfl) (dC ?_)))))))
 exact zz r h rfl
def ee (p0:Zn) (p1:(List Zc)):Option (List Zc):=(bR p1 (fun y2 y3=>cu y2 y3 (⟨()⟩:Zn))).bind fun x4=>some x4
theorem lV {p0:Zn} {p1:(List Zc)} {a_1:Option Addr}  {n_1:Nat}  {c_1:Nat} {r:(List Zc)}  (h:ee p0 p1=some r):PCall 148 [.agg [.fn 147 []],.v (.slice a_1 n_1 c_1)] [PRes.row a_1 n_1 c_1 200 3 (List.map Zc.enc p1)] (fun pv ρ'=>pv=.tup []∧ρ'=[PRes.row a_1 n_1 c_1 200 3 (List.map Zc.enc r)]):=by
 unfold ee at h
 refine ky Tryz.func148 rfl Tryz.ntmps148 Tryz.results148 rfl ?_
 refine jn (enc:=Zc.enc) (xs:=p1) (a:=a_1) dt (fun hl ha=>?_);subst hl;clear ha
 refine ah (dj rfl (bC (cs:=[.fn 147 []]) rfl rfl (fun b1=>ar (aW (cP 1 [(4,pO a_1 p1.length c_1)] (by kernel_rfl) ?_)))))
 refine nl 2 rfl (by exact aN) ?_
 refine aa h fun x4 hx4 h=>bE 1 [(5,.fn 179 [.ref [.fn 147 []] 0])] (by kernel_rfl) ?_
 refine aF rfl (bi rfl rfl (ρ1:=[_]) (aX (by exact aC aN) (List.Perm.refl _)) (eR (fun hr=>nj (lp hr)) hx4) ?_);rintro _ _ ⟨rfl,rfl⟩
 refine ar ?_
 obtain rfl:=osi h
 exact tD (rfl:PRV [] _ _ (.tup [])) cq ⟨rfl,rfl⟩
def fJ (p0:Int) (p1:(List Int)):Option ((List Int)×Int):=(gU p0 p1).bind fun x1=>cond (x1 != 0) (some ([],x1)) ((gV p1).bind fun x3=>Option.bind (cond (x3 == 0) (some (p1.length:Int)) (some x3)) (fun v4=>(mk 24 (⟨(0:Int),(0:Int),(0:Int)⟩:Zc) (p1.length:Int)).bind fun l7=>(bu (S:=Int×(List Zc)×Int) (T:=(Int×(List Zc))) (fun (v10,l12,v13)=>cond (decide (v13<(p1.length:Int))) ((idx p1 v13).bind fun m20=>Option.bind (cond (x3 == 0) (some 1) (some m20)) (fun v22=>(jO (IntKind.u64.wrap p0) (IntKind.u64.wrap v22) (IntKind.u64.wrap v4) 0).bind fun x25=>(jP (IntKind.u64.wrap p0) (IntKind.u64.wrap v22) (IntKind.u64.wrap v4)).bind fun x26=>(idx l12 v13).bind fun m27=>lb ((IntKind.i64.wrap (v10 - (IntKind.i64.wrap x25.1)))) (fun w29=>some (.inl (w29,(l12.set v13.toNat (⟨v13,x25.1,x26⟩:Zc)),(IntKind.i64.wrap (v13+1))))))) (some (.inr (v10,l12)))) FUEL (p0,l7,0)).bind fun (v14,l16)=>(ee (⟨()⟩:Zn) l16).bind fun x30=>(mk 8 (0:Int) (p1.length:Int)).bind fun l31=>(bu (S:=(List Int)×Int) (T:=((List Int))) (fun (l35,v36)=>cond (decide (v36<((l7.length:Nat):Int))) (((idx x30 v36).bind fun m46=>(idx l35 m46.index_).bind fun m48=>cond (decide (v36<v14)) ((idx (l35.set m46.index_.toNat (IntKind.i64.wrap m46.share)) m46.index_).bind fun m51=>(idx (l35.set m46.index_.toNat (IntKind.i64.wrap m46.share)) m46.index_).bind fun m52=>some ((l35.set m46.index_.toNat (IntKind.i64.wrap m46.share)).set m46.index_.toNat (IntKind.i64.wrap (m51+1)))) (some (l35.set m46.index_.toNat (IntKind.i64.wrap m46.share)))).bind fun l43=>some (.inl (l43,(IntKind.i64.wrap (v36+1))))) (some (.inr l35))) FUEL (l31,0)).bind fun l38=>some (l38,(0:Int))))
theorem pH {p0:Int} {p1:(List Int)} {r:((List Int)×Int)}  (h:fJ p0 p1=some r):PF 120 [pI p0,pL eI p1] (.tup [pL eI r.1,pI r.2]):=by
 unfold fJ at h
 refine bo ?_
 refine dZ Tryz.func120 rfl Tryz.ntmps120 Tryz.results120 rfl (bh [4,5] (by kernel_rfl) (cQ (aa h fun x1 hx1 h=>aB [] [19,20,21] [(6,pI x1)] (bw 2 (pC hx1) bL) (by kernel_rfl) (cw (bU [22] [(23,pB (x1 != 0))] (by kernel_rfl) rfl h (fun hc2 h=>?_) fun hc2 h=>?_)))))
 ·refine ah ?_
  refine an [24] [(4,pN),(5,pI x1)] (by kernel_rfl) (aW (qe 4 rfl (cd (aO ?_))))
  obtain rfl:=osi h
  exact aI (bD (aD rfl) (aD rfl)) bZ ⟨rfl,rfl⟩
 refine ae ?_
 refine dV h fun x3 hx3 h=>aB [] [25,26] [(7,pI x3)] (bw 1 (pD hx3) bL) (by kernel_rfl) (cw (an [27,28] [(8,pB (x3 == 0))] (by kernel_rfl) (cQ (ap [(29,pB (x3 == 0))] (by kernel_rfl) (ga h fun q5 hq5 h=>?_)))))
 refine av (Y:=Unit×Int) (fun (_,v4)=>[(0,pI p0),(1,pL eI p1),(7,pI v4),(8,pB (x3 == 0))]) (fun (_,v4)=>[]) (fun (_,v4)=>q5=v4) ?_ ?_
 ·skip
  refine kU rfl hq5 (fun hc6 hq5=>?_) fun hc6 hq5=>?_
  ·refine an [30,31] [(7,pI (p1.length:Int))] (by kernel_rfl) ?_
   obtain rfl:=osi hq5
   exact am ((),(p1.length:Int)) (iP rfl) bZ rfl
  refine ae ?_
  obtain rfl:=osi hq5
  exact am ((),x3) (iP rfl) bZ rfl
 rintro ⟨_,v4⟩ τ hz;(try dsimp only at hz);subst q5;(try dsimp only at h);dsimp only [aK]
 refine ah (an [32] [(9,pI p0)] (by kernel_rfl) (dV h fun l7 hl7 h=>aj (bO 2 [33] [(34,pI (p1.length:Int))] (by kernel_rfl) (aF rfl (oE (enc:=Zc.enc) rfl rfl rfl rfl rfl rfl rfl rfl rfl hl7 (fun b8=>aL [(10,pO (some ⟨b8,0,none⟩) l7.length l7.length)] (by kernel_rfl) (cQ (ap [(36,pL eI p1),(37,pI (p1.length:Int)),(38,pI 0)] (by kernel_rfl) (ga h fun q18 hq18 h=>?_)))))))))
 refine av (Y:=Unit×(Int×(List Zc))) (fun (_,(v14,l16))=>[(1,pL eI p1),(9,pI v14),(10,pO (some ⟨b8,0,none⟩) l7.length l7.length)]) (fun (_,(v14,l16))=>[PRes.row (some ⟨b8,0,none⟩) l7.length l7.length 200 3 (List.map Zc.enc l16)]) (fun (_,(v14,l16))=>q18=(v14,l16)) ?_ ?_
 ·refine aR ?_
  refine aZ (Y:=Unit) (S:=Int×(List Zc)×Int) _ hq18 (fun _ (v10,l12,v13)=>[(0,pI p0),(1,pL eI p1),(7,pI v4),(8,pB (x3 == 0)),(9,pI v10),(10,pO (some ⟨b8,0,none⟩) l7.length l7.length),(36,pL eI p1),(37,pI (p1.length:Int)),(38,pI v13)]) (fun _ (v10,l12,v13)=>[PRes.row (some ⟨b8,0,none⟩) l7.length l7.length 200 3 (List.map Zc.enc l12)]) () (qi rfl) cq ?_
  rintro _ ⟨v10,l12,v13⟩ o τ hb17;(try dsimp only at hb17);dsimp only [aK]
  refine ah (ap [(39,pB (decide (v13<(p1.length:Int))))] (by kernel_rfl) (cw (kU rfl hb17 (fun hc19 hb17=>?_) fun hc19 hb17=>?_)))
  ·refine ae ?_
   refine cw (jX (aa hb17 fun m20 hm20 hb17=>aB [] [40,41,42] [(11,pI v13),(12,pI m20)] (fC 1 eI hm20 bL) (by kernel_rfl) (cQ (ap [(43,pB (x3 == 0))] (by kernel_rfl) (ga hb17 fun q23 hq23 hb17=>?_)))))
   refine av (Y:=Unit×Int) (fun (_,v22)=>[(0,pI p0),(1,pL eI p1),(7,pI v4),(8,pB (x3 == 0)),(9,pI v10),(10,pO (some ⟨b8,0,none⟩) l7.length l7.length),(11,pI v13),(12,pI v22),(36,pL eI p1),(37,pI (p1.length:Int)),(38,pI v13)]) (fun (_,v22)=>[PRes.row (some ⟨b8,0,none⟩) l7.length l7.length 200 3 (List.map Zc.enc l12)]) (fun (_,v22)=>q23=v22) ?_ ?_
   ·skip
    refine kU rfl hq23 (fun hc24 hq23=>?_) fun hc24 hq23=>?_
    ·refine ap [(12,pI 1)] (by kernel_rfl) ?_
     obtain rfl:=osi hq23
     exact am ((),1) (gu rfl (gu rfl (qi rfl))) cq rfl
    refine ae ?_
    obtain rfl:=osi hq23
    exact am ((),m20) (gu rfl (gu rfl (qi rfl))) cq rfl
   rintro ⟨_,v22⟩ τ hz;(try dsimp only at hz);subst q23;(try dsimp only at hb17);dsimp only [aK]
   refine ah (aa hb17 fun x25 hx25 hb17=>aB [] ((rg 45 7)++[44,52,53,14]) [(13,pU x25.1)] (bw 6 (su hx25) bL) (by kernel_rfl) (dV hb17 fun x26 hx26 hb17=>aB [] (rg 54 7) [(15,pU x26)] (bw 6 (sv hx26) bL) (by kernel_rfl) (dV hb17 fun m27 hm27 hb17=>aj (bO 6 [63,64,65] [(61,pO (some ⟨b8,0,none⟩) l7.length l7.length),(62,pI v13),(66,.agg [pI v13,pU x25.1,pU x26])] (by kernel_rfl) (bM rfl rfl rfl (cm (enc:=Zc.enc) (xs:=l12) rfl rfl rfl (.p rfl) dt (.p rfl) (fun _=>hm27)) (aH rfl rfl (fk (enc:=Zc.enc) (xs:=l12) (a:=(some ⟨b8,0,none⟩)) v13 0 m27 (⟨v13,x25.1,x26⟩:Zc) rfl rfl rfl rfl (fun _=>rfl) rfl rfl hm27 AC bB (ar (aW ?_)))))))))
   refine dr hb17 ?_;clear hb17;intro w29 hw29 hb17
   refine aj (bO 4 [68,69,70] [(71,pI (IntKind.i64.wrap (v10 - (IntKind.i64.wrap x25.1))))] (by kernel_rfl) (bM rfl rfl rfl (be rfl (.p (congrArg (fun z=>PV.v (Value.int .i64 z)) hw29))) (ar (aq (aW (an [72] [(38,pI (IntKind.i64.wrap (v13+1)))] (by kernel_rfl) ?_))))))
   exact bt hb17 () (qi rfl) cq
  refine bc ?_
  refine aP (aJ hb17 (fun ht=>aM rfl ?_))
  exact am ((),(v10,l12)) (kH rfl) cq ht.symm
 rintro ⟨_,⟨v14,l16⟩⟩ τ hz;(try dsimp only at hz);subst q18;(try dsimp only at h);dsimp only [aK]
 refine ah (aa h fun x30 hx30 h=>cP 2 [(73,.agg [.fn 147 []]),(74,pO (some ⟨b8,0,none⟩) l7.length l7.length)] (by kernel_rfl) ?_)
 refine aF rfl (bi rfl rfl (ρ1:=[_]) (aX (by exact aN) (List.Perm.refl _)) (lV hx30) ?_);rintro _ _ ⟨rfl,rfl⟩
 refine ar (dV h fun l31 hl31 h=>aj (bO 2 [76] [(77,pI (p1.length:Int))] (by kernel_rfl) (aF rfl (oE (enc:=eI) rfl rfl rfl rfl rfl rfl rfl rfl rfl hl31 (fun b32=>aL [(16,pO (some ⟨b32,0,none⟩) l31.length l31.length)] (by kernel_rfl) (cQ (ap [(79,pO (some ⟨b8,0,none⟩) l7.length l7.length),(80,pI ((l7.length:Nat):Int)),(81,pI 0)] (by kernel_rfl) (ga h fun q40 hq40 h=>?_))))))))
 refine av (Y:=Unit×((List Int))) (fun (_,l38)=>[(16,pO (some ⟨b32,0,none⟩) l31.length l31.length)]) (fun (_,l38)=>[PRes.row (some ⟨b32,0,none⟩) l31.length l31.length 3 1 (List.map eI l38)]) (fun (_,l38)=>q40=l38) ?_ ?_
 ·refine aR ?_
  refine aZ (Y:=Unit) (S:=(List Int)×Int) _ hq40 (fun _ (l35,v36)=>[(9,pI v14),(16,pO (some ⟨b32,0,none⟩) l31.length l31.length),(79,pO (some ⟨b8,0,none⟩) l7.length l7.length),(80,pI ((l7.length:Nat):Int)),(81,pI v36)]) (fun _ (l35,v36)=>[PRes.row (some ⟨b8,0,none⟩) l7.length l7.length 200 3 (List.map Zc.enc x30),PRes.row (some ⟨b32,0,none⟩) l31.length l31.length 3 1 (List.map eI l35)]) () (mv rfl) (bq (aC aN) cq) ?_
  rintro _ ⟨l35,v36⟩ o τ hb39;(try dsimp only at hb39);dsimp only [aK]
  refine ah (ap [(82,pB (decide (v36<((l7.length:Nat):Int))))] (by kernel_rfl) (cw (kU rfl hb39 (fun hc41 hb39=>?_) fun hc41 hb39=>?_)))
  ·refine ae ?_
   refine dV hb39 fun q45 hq45 hb39=>?_
   refine av (Y:=Unit×((List Int))) (fun (_,l43)=>[(9,pI v14),(16,pO (some ⟨b32,0,none⟩) l31.length l31.length),(79,pO (some ⟨b8,0,none⟩) l7.length l7.length),(80,pI ((l7.length:Nat):Int)),(81,pI v36)]) (fun (_,l43)=>[PRes.row (some ⟨b32,0,none⟩) l31.length l31.length 3 1 (List.map eI l43),PRes.row (some ⟨b8,0,none⟩) l7.length l7.length 200 3 (List.map Zc.enc x30)]) (fun (_,l43)=>q45=l43) ?_ ?_
   ·skip
    refine jX (aa hq45 fun m46 hm46 hq45=>cP 1 [(83,pI v36)] (by kernel_rfl) (bM rfl rfl rfl (cm (enc:=Zc.enc) (xs:=x30) rfl rfl rfl (.p rfl) dt (.p rfl) (fun _=>hm46)) (bM rfl rfl rfl (cn (sz:=3) (p:=.agg [pI m46.index_,pU m46.share,pU m46.rest]) (enc:=Zc.enc) (xs:=x30) (a:=(some ⟨b8,0,none⟩)) v36 0 m46 rfl (.p rfl) rfl dt (fun _=>hm46) rfl) (aF rfl (aY (cs:=[pI 0,pU 0,pU 0]) rfl rfl rfl rfl (fun b47=>bE 1 [(17,pI v36)] (by kernel_rfl) (aH rfl rfl (ag (vs:=[pI m46.index_,pU m46.share,pU m46.rest]) rfl rfl rfl rfl rfl bB AC (ar (dV hq45 fun m48 hm48 hq45=>aj (cI 6 [0,0] [87,89,90] [(86,pO (some ⟨b32,0,none⟩) l31.length l31.length),(88,pI m46.index_),(91,pI (IntKind.i64.wrap m46.share))] (by kernel_rfl) (bM rfl rfl rfl (cm (enc:=eI) (xs:=l35) rfl rfl rfl (.p rfl) kb (.p rfl) (fun _=>hm48)) (aH rfl rfl (fk (enc:=eI) (xs:=l35) (a:=(some ⟨b32,0,none⟩)) m46.index_ 0 m48 (IntKind.i64.wrap m46.share) rfl rfl rfl rfl (fun _=>rfl) rfl rfl hm48 cN (bx (bx bB)) (ar (cw (bU [93,94] [(95,pB (decide (v36<v14)))] (by kernel_rfl) rfl hq45 (fun hc50 hq45=>?_) fun hc50 hq45=>?_)))))))))))))))))
    ·refine aa hq45 ?_;clear hq45;intro m51 hm51 hq45
     refine aj (cI 3 [0] [97] [(96,pO (some ⟨b32,0,none⟩) l31.length l31.length),(98,pI m46.index_)] (by kernel_rfl) (bM rfl rfl rfl (cm (enc:=eI) (xs:=(l35.set m46.index_.toNat (IntKind.i64.wrap m46.share))) rfl rfl rfl (.p rfl) kb (.p rfl) (fun _=>hm51)) (bM rfl rfl rfl (cn (sz:=1) (p:=pI m51) (enc:=eI) (xs:=(l35.set m46.index_.toNat (IntKind.i64.wrap m46.share))) (a:=(some ⟨b32,0,none⟩)) m46.index_ 0 m51 rfl (.p rfl) rfl kb (fun _=>hm51) rfl) (aa hq45 fun m52 hm52 hq45=>bE 1 [(101,pI (IntKind.i64.wrap (m51+1)))] (by kernel_rfl) (bM rfl rfl rfl (cm (enc:=eI) (xs:=(l35.set m46.index_.toNat (IntKind.i64.wrap m46.share))) rfl rfl rfl (.p rfl) kb (.p rfl) (fun _=>hm52)) (aH rfl rfl (fk (enc:=eI) (xs:=(l35.set m46.index_.toNat (IntKind.i64.wrap m46.share))) (a:=(some ⟨b32,0,none⟩)) m46.index_ 0 m52 (IntKind.i64.wrap (m51+1)) rfl rfl rfl rfl (fun _=>rfl) rfl rfl hm52 cN (bx (bx bB)) (ar (aq ?_)))))))))
     obtain rfl:=osi hq45
     exact am ((),((l35.set m46.index_.toNat (IntKind.i64.wrap m46.share)).set m46.index_.toNat (IntKind.i64.wrap (m51+1)))) (mv rfl) (bq (aC (aC aN)) (bq (aC aN) bZ)) rfl
    refine ae ?_
    refine aq ?_
    obtain rfl:=osi hq45
    exact am ((),(l35.set m46.index_.toNat (IntKind.i64.wrap m46.share))) (mv rfl) (bq (aC (aC aN)) (bq (aC aN) bZ)) rfl
   rintro ⟨_,l43⟩ τ hz;(try dsimp only at hz);subst q45;(try dsimp only at hb39);dsimp only [aK]
   refine an [103] [(81,pI (IntKind.i64.wrap (v36+1)))] (by kernel_rfl) ?_
   exact bt hb39 () (mv rfl) (bq (aC aN) cq)
  refine bc ?_
  refine aP (aJ hb39 (fun ht=>aM rfl ?_))
  exact am ((),l35) (nG rfl) (bq (aC aN) bZ) ht.symm
 rintro ⟨_,l38⟩ τ hz;(try dsimp only at hz);subst q40;(try dsimp only at h);dsimp only [aK]
 refine ah (an [104] [(4,pO (some ⟨b32,0,none⟩) l31.length l31.length),(5,pI 0)] (by kernel_rfl) (aW ?_))
 refine ij (enc:=eI) (xs:=l38) 4 rfl (by exact aN) ?_
 refine cd ?_
 obtain rfl:=osi h
 exact aI (bD (aD rfl) (aD rfl)) bZ ⟨rfl,rfl⟩
def dR (p0:(List Int)):Option (List Int):=app 8 ([]:List Int) p0
theorem mU {p0:(List Int)} {r:(List Int)} (h:dR p0=some r):PCall 121 [pL eI p0] [] (fun pv ρ'=>∃ a c,pv=.v (.slice a r.length c)∧ρ'=[PRes.row a r.length c 3 1 (List.map eI r)]):=by
 unfold dR at h
 refine ky Tryz.func121 rfl Tryz.ntmps121 Tryz.results121 rfl ?_
 (repeat refine ah ?_)
 refine aj (bM rfl rfl rfl (be (p:=.v (.slice none 0 0)) rfl (.p rfl)) (ar (aW ?_)))
 (repeat refine ah ?_)
 refine aj (bM rfl rfl rfl (cM (p:=pL eI p0) rfl (.p rfl)) (ri rfl rfl rfl rfl rfl rfl (fun b hb=>ar (aW ?_))))
 refine qd rfl (fun hc=>?_) (fun hc=>?_)
 ·have e0:p0=[]:=List.map_eq_nil_iff.1 (hb hc)
  subst e0;obtain ⟨rfl,_⟩:=mH h
  (repeat refine ah ?_)
  refine aj (bM rfl rfl rfl (be (p:=.v (.slice none 0 0)) rfl (.p rfl)) (ar (aW (fj 3 1 (cd (aO ?_))))))
  exact aI (fM (aD rfl)) cq ⟨_,_,rfl,rfl⟩
 refine ae ?_
 refine aW ?_
 (repeat refine ah ?_)
 refine dj rfl (bg rfl rfl rfl rfl rfl eY rfl rfl rfl rfl (fun b1=>bM rfl rfl rfl (cM (p:=pL eI p0) rfl (.p rfl)) ?_))
 refine aF rfl (aS (enc:=eI) (xs:=([]:List Int)) rfl rfl rfl rfl rfl (fun _=>rfl) rfl rfl rfl (by exact aN) h (fun a c=>?_))
 refine bM rfl rfl rfl (be (p:=.v (.slice a r.length c)) rfl (.p rfl)) (ar (dC ?_))
 exact aI (fM (aD rfl)) cq ⟨_,_,rfl,rfl⟩
def iu (p0:Zj):Option ((List Zg)×Int):=Option.bind (α:=((List Int))⊕_) (cond (decide (0<p0.Quantity)) ((fJ p0.Value [p0.Granted,(IntKind.i64.wrap (p0.Quantity - p0.Granted))]).bind fun x9=>cond (x9.2 != 0) (some (.inr ([],x9.2))) (some (.inl x9.1))) (some (.inl [0,p0.Value]))) (fun q=>match q with | .inl l4=>Option.bind (cond p0.Proof ((app 8 [1,2] [3]).bind fun l21=>some l21) (some [1,2])) (fun l16=>Option.bind (cond (decide (0<p0.Granted)) ((idx l4 0).bind fun m32=>(dR l16).bind fun x33=>(app 8 x33 [4]).bind fun l39=>(app 40 ([]:List Zg) [(⟨p0.Granted,m32,l39⟩:Zg)]).bind fun l44=>some l44) (some ([]:(List Zg)))) (fun l28=>Option.bind (cond ((decide (0<(IntKind.i64.wrap (p0.Quantity - p0.Granted))))||(p0.Quantity == 0)) ((idx l4 1).bind fun m54=>(app 40 l28 [(⟨(IntKind.i64.wrap (p0.Quantity - p0.Granted)),m54,l16⟩:Zg)]).bind fun l57=>some l57) (some l28)) (fun l51=>(app 40 l51 [(⟨p0.Quantity,p0.Value,[5]⟩:Zg),(⟨p0.Quantity,p0.Value,[6]⟩:Zg)]).bind fun l67=>some (l67,(0:Int))))) | .inr e=>some e)
theorem qy {p0:Zj} {r:((List Zg)×Int)}  (h:iu p0=some r):PF 80 [.agg (ck p0)] (.tup [pL Zg.enc r.1,pI r.2]):=by
 unfold iu at h
 refine bo ?_
 refine dZ Tryz.func80 rfl Tryz.ntmps80 Tryz.results80 rfl (dj rfl (bC (cs:=(ck p0)) rfl rfl (fun b1=>br [2,3] (by kernel_rfl) (cw (aV [0,0] (rg 9 5) [(4,pI (IntKind.i64.wrap (p0.Quantity - p0.Granted)))] (by kernel_rfl) (cw (aj (cI 2 [0] [14] [(15,pI p0.Value)] (by kernel_rfl) (aF rfl (bg rfl rfl rfl rfl rfl (dI rfl (dI rfl eY)) rfl rfl rfl rfl (fun b2=>aL [(5,pO (some ⟨b2,0,none⟩) 2 2)] (by kernel_rfl) (cQ (aV [1] [17,18] [(19,pB (decide (0<p0.Quantity)))] (by kernel_rfl) (ga h fun q5 hq5 h=>?_))))))))))))))
 refine av (Y:=Unit×((List Int))) (fun (_,l4)=>[(1,pP b1 0),(4,pI (IntKind.i64.wrap (p0.Quantity - p0.Granted))),(5,pL eI l4)]) (fun (_,l4)=>[PRes.b b1 32 (ck p0)]) (fun (_,l4)=>q5=Sum.inl l4) ?_ ?_
 ·skip
  refine kU rfl hq5 (fun hc6 hq5=>?_) fun hc6 hq5=>?_
  ·refine ah ?_
   refine bh [6] (by kernel_rfl) (cw (aj (cI 5 [1,1] [21,23] [(22,pI p0.Value),(24,pI p0.Granted),(25,pI (IntKind.i64.wrap (p0.Quantity - p0.Granted)))] (by kernel_rfl) (aF rfl (bg rfl rfl rfl rfl rfl (dI rfl (dI rfl eY)) rfl rfl rfl rfl (fun b7=>?_))))))
   refine jG (enc:=eI) (xs:=[p0.Granted,(IntKind.i64.wrap (p0.Quantity - p0.Granted))]) 26 rfl (by exact aN) ?_
   refine aa hq5 fun x9 hx9 hq5=>kz [] [27,20,28,29] [(5,pL eI x9.1),(6,pI x9.2)] (bw 0 (pH hx9) bL) (by kernel_rfl) (cw (bU [30] [(31,pB (x9.2 != 0))] (by kernel_rfl) rfl hq5 (fun hc10 hq5=>?_) fun hc10 hq5=>?_))
   ·refine ah ?_
    refine an [32] [(2,pN),(3,pI x9.2)] (by kernel_rfl) (aW (qe 2 rfl (cd (bz ?_))))
    obtain rfl:=osi hq5
    obtain rfl:=osi h
    exact aI (bD (aD rfl) (aD rfl)) bZ ⟨rfl,rfl⟩
   refine ae ?_
   obtain rfl:=osi hq5
   exact am ((),x9.1) (kH rfl) (bq (aC (aC aN)) bZ) rfl
  refine ae ?_
  refine jg (qg (enc:=eI) (xs:=[0,p0.Value]) 5 rfl (by exact aN)) ?_
  obtain rfl:=osi hq5
  exact am ((),[0,p0.Value]) (kH rfl) (bq (aC aN) bZ) rfl
 rintro ⟨_,l4⟩ τ hz;(try dsimp only at hz);subst q5;(try dsimp only at h);dsimp only [aK]
 refine ah (dj rfl (bg rfl rfl rfl rfl rfl (dI rfl (dI rfl eY)) rfl rfl rfl rfl (fun b11=>aL [(7,pO (some ⟨b11,0,none⟩) 2 2)] (by kernel_rfl) (cQ (aV [1] [34] [(35,pB p0.Proof)] (by kernel_rfl) (ga h fun q17 hq17 h=>?_))))))
 refine av (Y:=(Option Addr×Nat)×((List Int))) (fun ((a14,c15),l16)=>[(1,pP b1 0),(4,pI (IntKind.i64.wrap (p0.Quantity - p0.Granted))),(5,pL eI l4),(7,pO a14 l16.length c15)]) (fun ((a14,c15),l16)=>[PRes.b b1 32 (ck p0),PRes.row a14 l16.length c15 3 1 (List.map eI l16)]) (fun ((a14,c15),l16)=>q17=l16) ?_ ?_
 ·skip
  refine kU rfl hq17 (fun hc18 hq17=>?_) fun hc18 hq17=>?_
  ·refine aj ?_
   refine bE 1 [(36,pO (some ⟨b11,0,none⟩) 2 2)] (by kernel_rfl) (aF rfl (bg rfl rfl rfl rfl rfl (dI rfl eY) rfl rfl rfl rfl (fun b19=>aa hq17 fun l21 hl21 hq17=>?_)))
   refine aF rfl (bd (enc:=eI) rfl rfl rfl rfl rfl rfl rfl rfl rfl dt (by exact aC aN) hl21 (fun a22 c23=>?_))
   refine aL [(7,pO a22 l21.length c23)] (by kernel_rfl) ?_
   obtain rfl:=osi hq17
   exact am ((a22,c23),l21) (iP rfl) (bq (aC (aC aN)) cq) rfl
  refine ae ?_
  obtain rfl:=osi hq17
  exact am (((some ⟨b11,0,none⟩),2),[1,2]) (iP rfl) (bq (aC aN) cq) rfl
 rintro ⟨⟨a14,c15⟩,l16⟩ τ hz;(try dsimp only at hz);subst q17;(try dsimp only at h);dsimp only [aK]
 refine ah (ap [(8,pN)] (by kernel_rfl) (cQ (aV [0] [39,40] [(41,pB (decide (0<p0.Granted)))] (by kernel_rfl) (ga h fun q29 hq29 h=>?_))))
 refine av (Y:=(Option Addr×Nat)×((List Zg))) (fun ((a26,c27),l28)=>[(1,pP b1 0),(4,pI (IntKind.i64.wrap (p0.Quantity - p0.Granted))),(5,pL eI l4),(7,pL eI l16),(8,pO a26 l28.length c27)]) (fun ((a26,c27),l28)=>[PRes.b b1 32 (ck p0),PRes.row a26 l28.length c27 141 3 (List.map Zg.enc l28)]) (fun ((a26,c27),l28)=>q29=l28) ?_ ?_
 ·skip
  refine kU rfl hq29 (fun hc30 hq29=>?_) fun hc30 hq29=>?_
  ·refine ij (enc:=eI) (xs:=l16) 7 rfl (by exact aC aN) ?_
   refine fj 141 3 (bN (ρd:=[PRes.row none _ _ _ _ _]) [(8,3),(0,0),(1,0),(2,0),(3,0),(4,0),(5,0),(6,0),(7,1),(8,2),(9,1),(10,0),(11,1),(12,1),(13,0)] _ (List.Perm.refl _) (by kernel_rfl) rfl (xX (oD rfl rfl rfl rfl rfl (dI rfl eY) rfl rfl rfl) (aa hq29 fun m32 hm32 hq29=>aa hq29 fun x33 hx33 hq29=>cr 7 [1] [43,45,46] [(42,pO none 0 0),(44,pI p0.Granted),(47,pI m32),(48,pL eI l16)] (fC 4 eI hm32 bL) (by kernel_rfl) ?_)))
   refine mI rfl rfl rfl (bi rfl rfl (ρ1:=[]) (List.Perm.refl _) (mU hx33) ?_);rintro _ _ ⟨a34,c35,rfl,rfl⟩
   refine nU (oD rfl rfl rfl rfl rfl (dI rfl eY) rfl rfl rfl) (fun _=>rfl) rfl (fun b37=>aa hq29 fun l39 hl39 hq29=>?_)
   refine mI rfl rfl rfl (mJ (xW (enc:=eI) rfl rfl rfl rfl rfl (fun _=>rfl) rfl rfl rfl rfl dt rfl (by exact aC aN) hl39 (fun a40 c41=>⟨_,_,_,_,_,_,_,rfl,by (repeat (first | exact aN | apply aC)),?_⟩)))
   refine rV rfl rfl rfl (eM (cs:=[pI p0.Granted,pI m32,pL eI l39]) rfl rfl rfl rfl rfl rfl rfl (nm rfl rfl rfl rfl cN (nm rfl rfl rfl rfl (bf cN) (nm rfl rfl rfl rfl (bf (bf cN)) Ay)))) (mI rfl rfl rfl (bg rfl rfl rfl rfl rfl (dI rfl eY) rfl rfl rfl rfl (fun b42=>aa hq29 fun l44 hl44 hq29=>?_)))
   refine mI rfl rfl rfl (bd (enc:=Zg.enc) rfl rfl rfl rfl rfl rfl rfl rfl rfl dt (by exact aC (aC aN)) hl44 (fun a45 c46=>?_))
   refine jJ 1 [(8,pO a45 l44.length c46)] (by kernel_rfl) (cC ?_)
   obtain rfl:=osi hq29
   exact am ((a45,c46),l44) (mv rfl) (bq (aC (aC (aC (aC aN)))) cq) rfl
  refine ae ?_
  refine jg (qg (enc:=eI) (xs:=l16) 7 rfl (by exact aC aN)) ?_
  refine jg (tJ 141 3) ?_
  obtain rfl:=osi hq29
  exact am ((none,0),([]:(List Zg))) (mv rfl) (bq (aC (aC aN)) cq) rfl
 rintro ⟨⟨a26,c27⟩,l28⟩ τ hz;(try dsimp only at hz);subst q29;(try dsimp only at h);dsimp only [aK]
 refine gh (aV [0] (rg 55 6) [(61,pB ((decide (0<(IntKind.i64.wrap (p0.Quantity - p0.Granted))))||(p0.Quantity == 0)))] (by kernel_rfl) (ga h fun q52 hq52 h=>?_))
 refine av (Y:=(Option Addr×Nat)×((List Zg))) (fun ((a49,c50),l51)=>[(1,pP b1 0),(8,pO a49 l51.length c50)]) (fun ((a49,c50),l51)=>[PRes.b b1 32 (ck p0),PRes.row a49 l51.length c50 141 3 (List.map Zg.enc l51)]) (fun ((a49,c50),l51)=>q52=l51) ?_ ?_
 ·skip
  refine kU rfl hq52 (fun hc53 hq52=>?_) fun hc53 hq52=>?_
  ·refine aa hq52 ?_;clear hq52;intro m54 hm54 hq52
   refine aj (bp 7 [] (rg 63 5) [(62,pO a26 l28.length c27),(68,.agg [pI (IntKind.i64.wrap (p0.Quantity - p0.Granted)),pI m54,pL eI l16])] (fC 3 eI hm54 bL) (by kernel_rfl) (aF rfl (bg rfl rfl rfl rfl rfl (dI rfl eY) rfl rfl rfl rfl (fun b55=>aa hq52 fun l57 hl57 hq52=>?_))))
   refine aF rfl (bd (enc:=Zg.enc) rfl rfl rfl rfl rfl rfl rfl rfl rfl dt (by exact aC (aC aN)) hl57 (fun a58 c59=>?_))
   refine aL [(8,pO a58 l57.length c59)] (by kernel_rfl) ?_
   obtain rfl:=osi hq52
   exact am ((a58,c59),l57) (eN rfl) (bq (aC (aC aN)) cq) rfl
  refine ae ?_
  obtain rfl:=osi hq52
  exact am ((a26,c27),l28) (eN rfl) sM rfl
 rintro ⟨⟨a49,c50⟩,l51⟩ τ hz;(try dsimp only at hz);subst q52;(try dsimp only at h);dsimp only [aK]
 refine ah (aj (cI 5 [0,0] [72,74] [(71,pO a49 l51.length c50),(73,pI p0.Quantity),(75,pI p0.Value)] (by kernel_rfl) (aF rfl (bg rfl rfl rfl rfl rfl (dI rfl eY) rfl rfl rfl rfl (fun b61=>?_)))))
 refine jG (enc:=eI) (xs:=[5]) 76 rfl (by exact aN) ?_
 refine cI 5 [1,1] [78,80] [(77,.agg [pI p0.Quantity,pI p0.Value,pL eI [5]]),(79,pI p0.Quantity),(81,pI p0.Value)] (by kernel_rfl) (aF rfl (bg rfl rfl rfl rfl rfl (dI rfl eY) rfl rfl rfl rfl (fun b63=>?_)))
 refine jG (enc:=eI) (xs:=[6]) 82 rfl (by exact aN) ?_
 refine bE 1 [(83,.agg [pI p0.Quantity,pI p0.Value,pL eI [6]])] (by kernel_rfl) (aF rfl (bg rfl rfl rfl rfl rfl (dI rfl (dI rfl eY)) rfl rfl rfl rfl (fun b65=>aa h fun l67 hl67 h=>?_)))
 refine aF rfl (bd (enc:=Zg.enc) rfl rfl rfl rfl rfl rfl rfl rfl rfl dt (by exact aC (aC (aC (aC aN)))) hl67 (fun a68 c69=>?_))
 refine aL [(2,pO a68 l67.length c69),(3,pI 0)] (by kernel_rfl) (aW ?_)
 refine ij (enc:=Zg.enc) (xs:=l67) 2 rfl (by exact aN) ?_
 refine cd ?_
 obtain rfl:=osi h
 exact aI (bD (aD rfl) (aD rfl)) bZ ⟨rfl,rfl⟩
def dM (p0:Int) (p1:Int) (p2:Int):Option Zi:=(iD (IntKind.u64.wrap ((IntKind.u64.wrap p0)*(IntKind.u64.wrap p1))) p2).bind fun x2=>some x2
theorem fw {p0:Int} {p1:Int} {p2:Int} {r:Zi}  (h:dM p0 p1 p2=some r):PF 149 [pI p0,.ref [pI p1] 0,.ref [pU p2] 0] (.agg [pU r.Hi,pU r.Lo]):=by
 unfold dM at h
 refine bo ?_
 refine dZ Tryz.func149 rfl Tryz.ntmps149 Tryz.results149 rfl (dj rfl (aY (cs:=[pU 0,pU 0]) rfl rfl rfl rfl (fun b1=>ar (dV h fun x2 hx2 h=>aj (bp 7 [] (rg 5 6) [(11,.agg [pU x2.Hi,pU x2.Lo])] (bw 6 (lm hx2) bL) (by kernel_rfl) (aH rfl rfl (ag (vs:=[pU x2.Hi,pU x2.Lo]) rfl rfl rfl rfl rfl bB nC (ar (dC ?_)))))))))
 obtain rfl:=osi h
 exact aI (fM (cg rfl dt rfl)) bZ ⟨rfl,rfl⟩
def mV (p0:Zi) (p1:Zi):Option (Zi×Int):=(gN p0.Lo p1.Lo 0).bind fun x4=>(gN p0.Hi p1.Hi x4.2).bind fun x5=>cond (x5.2 != 0) (some ((⟨0,0⟩:Zi),(3:Int))) (some ((⟨x5.1,x4.1⟩:Zi),(0:Int)))
theorem wR {p0:Zi} {p1:Zi} {r:(Zi×Int)}  (h:mV p0 p1=some r):PF 151 [.agg [pU p0.Hi,pU p0.Lo],.agg [pU p1.Hi,pU p1.Lo]] (.tup [.agg [pU r.1.Hi,pU r.1.Lo],pI r.2]):=by
 unfold mV at h
 refine bo ?_
 refine dZ Tryz.func151 rfl Tryz.ntmps151 Tryz.results151 rfl (dj rfl (bC (cs:=[pU p0.Hi,pU p0.Lo]) rfl rfl (fun b1=>aF rfl (bC (cs:=[pU p1.Hi,pU p1.Lo]) rfl rfl (fun b2=>aF rfl (aY (cs:=[pU 0,pU 0]) rfl rfl rfl rfl (fun b3=>br [5] (by kernel_rfl) (dV h fun x4 hx4 h=>aj (cI 4 [2,1] [10,12] [(11,pU p0.Lo),(13,pU p1.Lo)] (by kernel_rfl) (aF rfl (ya rfl rfl hx4 (lJ [9,15,16] [(6,pU x4.1),(7,pU x4.2)] (by kernel_rfl) (dV h fun x5 hx5 h=>aj (cI 5 [2,1] [18,20] [(19,pU p0.Hi),(21,pU p1.Hi),(22,pU x4.2)] (by kernel_rfl) (aF rfl (ya rfl rfl hx5 (lJ [17,24,25] [(8,pU x5.1),(7,pU x5.2)] (by kernel_rfl) (cQ (bU [26] [(27,pB (x5.2 != 0))] (by kernel_rfl) rfl h (fun hc6 h=>?_) fun hc6 h=>?_)))))))))))))))))))
 ·refine ah ?_
  refine cP 1 [(28,.agg [pU 0,pU 0])] (by kernel_rfl) (aH rfl rfl (ag (vs:=[pU 0,pU 0]) rfl rfl rfl rfl rfl bB nC (aL [(5,pI 3)] (by kernel_rfl) (ua ?_))))
  obtain rfl:=osi h
  exact aI (bD (cg rfl dt rfl) (aD rfl)) bZ ⟨rfl,rfl⟩
 refine ae ?_
 refine cw (aj (bO 3 [29,30] [(31,.agg [pU x5.1,pU x4.1])] (by kernel_rfl) (aH rfl rfl (ag (vs:=[pU x5.1,pU x4.1]) rfl rfl rfl rfl rfl bB nC (aL [(5,pI 0)] (by kernel_rfl) (dC ?_))))))
 obtain rfl:=osi h
 exact aI (bD (cg rfl dt rfl) (aD rfl)) bZ ⟨rfl,rfl⟩
def dm (p0:Zi) (p1:Zi):Option Int:=cond ((decide (p0.Hi<p1.Hi))||((p0.Hi == p1.Hi)&&(decide (p0.Lo<p1.Lo)))) (some (-1)) (cond (Zi.eqb p0 p1) (some (0:Int)) (some (1:Int)))
theorem kR {p0:Zi} {p1:Zi} {r:Int}  (h:dm p0 p1=some r):PF 152 [.agg [pU p0.Hi,pU p0.Lo],.agg [pU p1.Hi,pU p1.Lo]] (pI r):=by
 unfold dm at h
 refine bo ?_
 refine dZ Tryz.func152 rfl Tryz.ntmps152 Tryz.results152 rfl (dj rfl (bC (cs:=[pU p0.Hi,pU p0.Lo]) rfl rfl (fun b1=>aF rfl (bC (cs:=[pU p1.Hi,pU p1.Lo]) rfl rfl (fun b2=>br [4] (by kernel_rfl) (cw (jX (aV [1,0,1,0,1,0] (rg 6 19) [(5,pB ((decide (p0.Hi<p1.Hi))||((p0.Hi == p1.Hi)&&(decide (p0.Lo<p1.Lo)))))] (by kernel_rfl) (dW rfl h (fun hc3 h=>?_) fun hc3 h=>?_)))))))))
 ·refine ah ?_
  refine ap [(4,pI (-1))] (by kernel_rfl) (dC (au (aO ?_)))
  exact zz r h rfl
 refine ah ?_
 refine aB [1,0] [26,27,28] [(25,pB (Zi.eqb p0 p1))] (De 2 Zi.eqok205 bL) (by kernel_rfl) (dW rfl h (fun hc4 h=>?_) fun hc4 h=>?_)
 ·refine ah ?_
  refine ap [(4,pI 0)] (by kernel_rfl) (dC (au (aO ?_)))
  exact zz r h rfl
 refine ae ?_
 refine aq (cw (ap [(4,pI 1)] (by kernel_rfl) (dC ?_)))
 exact zz r h rfl
def fc (p0:Zm) (p1:Int) (p2:Int):Option (Int×Int):=(cT p0).bind fun x3=>cond (x3 != 0) (some ((0:Int),x3)) (cond ((((decide (p1<0))||(decide (1000000000000<p1)))||(decide (p2<0)))||(decide (1000000000<p2))) (some ((0:Int),(2:Int))) ((dM p0.Rate p1 (IntKind.u64.wrap (dN p0.Per 1))).bind fun x7=>(iD (IntKind.u64.wrap ((IntKind.u64.wrap p0.Amount)*(IntKind.u64.wrap p2))) 1000000).bind fun x8=>(mV x7 x8).bind fun x9=>cond (x9.2 != 0) (some ((0:Int),(3:Int))) ((gd p0.HasMost (dM p0.Most p1 (IntKind.u64.wrap (dN p0.Per 1)))).bind fun x12=>(gd p0.HasMost (dm x9.1 x12)).bind fun x13=>Option.bind (cond (p0.HasMost&&(decide (0<x13))) ((dM p0.Most p1 (IntKind.u64.wrap (dN p0.Per 1))).bind fun x18=>some (x18.Hi,x18.Lo)) (some (x9.1.Hi,x9.1.Lo))) (fun (v14,v15)=>(gd p0.HasLeast (dM p0.Least p1 (IntKind.u64.wrap (dN p0.Per 1)))).bind fun x19=>(gd p0.HasLeast (dm (⟨v14,v15⟩:Zi) x19)).bind fun x20=>Option.bind (cond (p0.HasLeast&&(decide (x20<0))) ((dM p0.Least p1 (IntKind.u64.wrap (dN p0.Per 1))).bind fun x25=>some (x25.Hi,x25.Lo)) (some (v14,v15))) (fun (v21,v22)=>(kn (⟨v21,v22⟩:Zi) (IntKind.u64.wrap (1000000*(IntKind.u64.wrap (dN p0.Per 1)))) 2).bind fun x26=>cond ((x26.2 != 0)||(decide (1000000000000<x26.1))) (some ((0:Int),(3:Int))) (some ((IntKind.i64.wrap x26.1),(0:Int))))))))
theorem rt {p0:Zm} {p1:Int} {p2:Int} {r:(Int×Int)}  (h:fc p0 p1 p2=some r):PF 122 [.agg (jI p0),pI p1,pI p2] (.tup [pI r.1,pI r.2]):=by
 unfold fc at h
 refine bo ?_
 refine dZ Tryz.func122 rfl Tryz.ntmps122 Tryz.results122 rfl (dj rfl (bC (cs:=(jI p0)) rfl rfl (fun b1=>aF rfl (bC (cs:=[pI p1]) rfl rfl (fun b2=>br [6,7] (by kernel_rfl) (cQ (aa h fun x3 hx3 h=>aB [1] [14,15] [(8,pI x3)] (bw 1 (mT hx3) bL) (by kernel_rfl) (cw (bU [16] [(17,pB (x3 != 0))] (by kernel_rfl) rfl h (fun hc4 h=>?_) fun hc4 h=>?_)))))))))
 ·refine ah ?_
  refine an [18] [(6,pI 0),(7,pI x3)] (by kernel_rfl) (ua ?_)
  obtain rfl:=osi h
  exact aI (bD (aD rfl) (aD rfl)) bZ ⟨rfl,rfl⟩
 refine ae ?_
 refine cQ (aV [0,0] (rg 19 13) [(32,pB ((((decide (p1<0))||(decide (1000000000000<p1)))||(decide (p2<0)))||(decide (1000000000<p2))))] (by kernel_rfl) (dW rfl h (fun hc5 h=>?_) fun hc5 h=>?_))
 ·refine ah ?_
  refine dq [(6,pI 0),(7,pI 2)] (by kernel_rfl) ?_
  obtain rfl:=osi h
  exact aI (bD (aD rfl) (aD rfl)) bZ ⟨rfl,rfl⟩
 refine ae ?_
 refine cw (aj (cI 4 [1] [33,34,35] [(36,pU (IntKind.u64.wrap (dN p0.Per 1)))] (by kernel_rfl) (aF rfl (aY (cs:=[pU 0]) rfl rfl rfl rfl (fun b6=>aH rfl rfl (ag (vs:=[pU (IntKind.u64.wrap (dN p0.Per 1))]) rfl rfl rfl rfl rfl bB cN (ar (cw (aj ?_)))))))))
 refine nl 4 rfl (by exact aC aN) ?_
 refine nl 9 rfl (by exact aC aN) ?_
 refine lJ [37] [(10,.fn 149 [.ref [pI p1] 0,.ref [pU (IntKind.u64.wrap (dN p0.Per 1))] 0])] (by kernel_rfl) (cw (bN (ρd:=[]) [(0,0),(1,0),(2,0),(4,0),(5,0),(6,0),(7,0),(8,0),(9,0),(3,1),(10,1),(11,1),(12,0),(13,0),(14,0),(15,2),(16,1),(17,0)] _ (List.Perm.refl _) (by kernel_rfl) rfl (aa h fun x7 hx7 h=>aa h fun x8 hx8 h=>aa h fun x9 hx9 h=>cr 15 [2,2] [39,40,41,43,44,45,46,47,48,42,49,50,38] [(51,.agg [pU x9.1.Hi,pU x9.1.Lo]),(52,pI x9.2)] (BH 9 (nj (pargs:=[pI p0.Rate]) (caps:=[.ref [pI p1] 0,.ref [pU (IntKind.u64.wrap (dN p0.Per 1))] 0]) (fw hx7)) (bw 10 (lm hx8) (bw 11 (wR hx9) bL))) (by kernel_rfl) (nU (nS rfl rfl rfl rfl rfl) (fun _=>rfl) rfl (fun b10=>np rfl rfl (ag (vs:=[pU x9.1.Hi,pU x9.1.Lo]) rfl rfl rfl rfl rfl bB nC (jJ 1 [(12,pI x9.2)] (by kernel_rfl) (cC (cQ (bU [53] [(54,pB (x9.2 != 0))] (by kernel_rfl) rfl h (fun hc11 h=>?_) fun hc11 h=>?_))))))))))
 ·refine ah ?_
  refine dq [(6,pI 0),(7,pI 3)] (by kernel_rfl) ?_
  obtain rfl:=osi h
  exact aI (bD (aD rfl) (aD rfl)) bZ ⟨rfl,rfl⟩
 refine ae ?_
 refine cQ (bN (ρd:=[]) [(0,0),(1,0),(2,0),(3,0),(4,0),(5,0),(6,0),(7,1),(8,1),(9,0),(10,0)] _ (List.Perm.refl _) (by kernel_rfl) rfl (aa h fun x12 hx12 h=>aa h fun x13 hx13 h=>cr 11 [3,0,3] (rg 55 10) [(65,pB (p0.HasMost&&(decide (0<x13))))] (Df 7 (fun hc=>nj (pargs:=[pI p0.Most]) (caps:=[.ref [pI p1] 0,.ref [pU (IntKind.u64.wrap (dN p0.Per 1))] 0]) (fw (cY hx12 hc))) (eU 8 (fun hc=>kR (cY hx13 hc)) bL)) (by kernel_rfl) (cC (ga h fun q16 hq16 h=>?_))))
 refine av (Y:=Unit×(Int×Int)) (fun (_,(v14,v15))=>[(3,pP b1 0),(9,.ref [pU (IntKind.u64.wrap (dN p0.Per 1))] 0),(10,.fn 149 [.ref [pI p1] 0,.ref [pU (IntKind.u64.wrap (dN p0.Per 1))] 0]),(11,pP b10 0)]) (fun (_,(v14,v15))=>[PRes.b b1 66 (jI p0),PRes.b b10 205 [pU v14,pU v15]]) (fun (_,(v14,v15))=>q16=(v14,v15)) ?_ ?_
 ·skip
  refine kU rfl hq16 (fun hc17 hq16=>?_) fun hc17 hq16=>?_
  ·refine aa hq16 ?_;clear hq16;intro x18 hx18 hq16
   refine aj (bp 4 [3] [66,67,68] [(69,.agg [pU x18.Hi,pU x18.Lo])] (BH 3 (nj (pargs:=[pI p0.Most]) (caps:=[.ref [pI p1] 0,.ref [pU (IntKind.u64.wrap (dN p0.Per 1))] 0]) (fw hx18)) bL) (by kernel_rfl) (aH rfl rfl (ag (vs:=[pU x18.Hi,pU x18.Lo]) rfl rfl rfl rfl rfl bB nC (ar ?_))))
   obtain rfl:=osi hq16
   exact am ((),(x18.Hi,x18.Lo)) (iP rfl) (bq (aC (aC (aC aN))) cq) rfl
  refine ae ?_
  obtain rfl:=osi hq16
  exact am ((),(x9.1.Hi,x9.1.Lo)) (iP rfl) (bq (aC (aC (aC aN))) cq) rfl
 rintro ⟨_,⟨v14,v15⟩⟩ τ hz;(try dsimp only at hz);subst q16;(try dsimp only at h);dsimp only [aK]
 refine gh (bN (ρd:=[]) [(0,0),(1,0),(2,0),(3,0),(4,0),(5,0),(6,0),(7,1),(8,1),(9,0),(10,0)] _ (List.Perm.refl _) (by kernel_rfl) rfl (aa h fun x19 hx19 h=>aa h fun x20 hx20 h=>cr 11 [0,1,0] (rg 70 10) [(80,pB (p0.HasLeast&&(decide (x20<0))))] (Df 7 (fun hc=>nj (pargs:=[pI p0.Least]) (caps:=[.ref [pI p1] 0,.ref [pU (IntKind.u64.wrap (dN p0.Per 1))] 0]) (fw (cY hx19 hc))) (eU 8 (fun hc=>kR (cY hx20 hc)) bL)) (by kernel_rfl) (cC (ga h fun q23 hq23 h=>?_))))
 refine av (Y:=Unit×(Int×Int)) (fun (_,(v21,v22))=>[(9,.ref [pU (IntKind.u64.wrap (dN p0.Per 1))] 0),(11,pP b10 0)]) (fun (_,(v21,v22))=>[PRes.b b10 205 [pU v21,pU v22]]) (fun (_,(v21,v22))=>q23=(v21,v22)) ?_ ?_
 ·skip
  refine kU rfl hq23 (fun hc24 hq23=>?_) fun hc24 hq23=>?_
  ·refine aa hq23 ?_;clear hq23;intro x25 hx25 hq23
   refine aj (bp 4 [0] [81,82,83] [(84,.agg [pU x25.Hi,pU x25.Lo])] (BH 3 (nj (pargs:=[pI p0.Least]) (caps:=[.ref [pI p1] 0,.ref [pU (IntKind.u64.wrap (dN p0.Per 1))] 0]) (fw hx25)) bL) (by kernel_rfl) (aH rfl rfl (ag (vs:=[pU x25.Hi,pU x25.Lo]) rfl rfl rfl rfl rfl (bx bB) nC (ar ?_))))
   obtain rfl:=osi hq23
   exact am ((),(x25.Hi,x25.Lo)) (eN rfl) (bq (aC aN) bZ) rfl
  refine ae ?_
  obtain rfl:=osi hq23
  exact am ((),(v14,v15)) (eN rfl) (bq (aC aN) bZ) rfl
 rintro ⟨_,⟨v21,v22⟩⟩ τ hz;(try dsimp only at hz);subst q23;(try dsimp only at h);dsimp only [aK]
 refine ah (aa h fun x26 hx26 h=>aB [0] [86,87,88,89,85,90,91] [(13,pU x26.1),(12,pI x26.2)] (bw 3 (qw hx26) bL) (by kernel_rfl) (cQ (bU (rg 92 5) [(97,pB ((x26.2 != 0)||(decide (1000000000000<x26.1))))] (by kernel_rfl) rfl h (fun hc27 h=>?_) fun hc27 h=>?_)))
 ·refine ah ?_
  refine dq [(6,pI 0),(7,pI 3)] (by kernel_rfl) ?_
  obtain rfl:=osi h
  exact aI (bD (aD rfl) (aD rfl)) bZ ⟨rfl,rfl⟩
 refine ae ?_
 refine cw (an [98,99] [(6,pI (IntKind.i64.wrap x26.1)),(7,pI 0)] (by kernel_rfl) (dC ?_))
 obtain rfl:=osi h
 exact aI (bD (aD rfl) (aD rfl)) bZ ⟨rfl,rfl⟩
def ff (p0:(List Zb)) (p1:Zg):Option (Zd×Bool×Int):=(bu (S:=Bool×Int×Int×Int×Int×Int×Int) (T:=(Bool×Int×Int×Int×Int×Int)⊕(_)) (fun (v4,v5,v6,v7,v8,v9,v10)=>cond (decide (v5<(p1.kinds.length:Int))) ((idx p1.kinds v5).bind fun m20=>(bu (S:=Bool×Int×Int×Int×Int×Int×Int) (T:=(Bool×Int×Int×Int×Int×Int)⊕(_)) (fun (v21,v22,v23,v24,v25,v26,v27)=>cond (decide (v22<(p0.length:Int))) (Option.bind (α:=(Bool×Int×Int×Int×Int×Int)⊕_) ((idx p0 v22).bind fun m44=>cond (m44.Kind != m20) (some (.inl (v21,v23,v24,v25,v26,v27))) ((fc m44.Duty p1.value p1.quantity).bind fun x47=>cond (x47.2 != 0) (some (.inr (.inr (.inr (.inr (.inr ((⟨0,0,0,0,0⟩:Zd),false,x47.2))))))) (cond ((!v21)||(decide (x47.1<v27))) (some (.inl (true,m44.Kind,m44.ID,p1.quantity,p1.value,x47.1))) (some (.inl (v21,v23,v24,v25,v26,v27)))))) (fun q=>match q with | .inl (v37,v38,v39,v40,v41,v42)=>some (.inl (v37,(IntKind.i64.wrap (v22+1)),v38,v39,v40,v41,v42)) | .inr e=>some e)) (some (.inr (.inl (v21,v23,v24,v25,v26,v27))))) FUEL (v4,0,v6,v7,v8,v9,v10)).bind fun q=>match q with | .inl (v28,v29,v30,v31,v32,v33)=>some (.inl (v28,(IntKind.i64.wrap (v5+1)),v29,v30,v31,v32,v33)) | .inr e=>some e) (some (.inr (.inl (v4,v6,v7,v8,v9,v10))))) FUEL (false,0,0,0,0,0,0)).bind fun q=>match q with | .inl (v11,v12,v13,v14,v15,v16)=>some ((⟨v12,v13,v14,v15,v16⟩:Zd),v11,(0:Int)) | .inr e=>some e
theorem oT {p0:(List Zb)} {p1:Zg} {r:(Zd×Bool×Int)}  (h:ff p0 p1=some r):PF 81 [pL Zb.enc p0,.agg [pI p1.quantity,pI p1.value,pL eI p1.kinds]] (.tup [.agg [pI r.1.Kind,pI r.1.Measure,pI r.1.Quantity,pI r.1.Value,pI r.1.Amount],pB r.2.1,pI r.2.2]):=by
 unfold ff at h
 refine bo ?_
 refine dZ Tryz.func81 rfl Tryz.ntmps81 Tryz.results81 rfl (dj rfl (bC (cs:=[pI p1.quantity,pI p1.value,pL eI p1.kinds]) rfl rfl (fun b1=>aF rfl (aY (cs:=[pI 0,pI 0,pI 0,pI 0,pI 0]) rfl rfl rfl rfl (fun b2=>br [5,6] (by kernel_rfl) (cw (dj rfl (aY (cs:=[pI 0,pI 0,pI 0,pI 0,pI 0]) rfl rfl rfl rfl (fun b3=>ar (cw (ap [(8,pB false)] (by kernel_rfl) (cQ (aV [2] [15] [(16,pL eI p1.kinds),(17,pI (p1.kinds.length:Int)),(18,pI 0)] (by kernel_rfl) (ga h fun q18 hq18 h=>?_))))))))))))))
 refine av (Y:=Unit×(Bool×Int×Int×Int×Int×Int)) (fun (_,(v11,v12,v13,v14,v15,v16))=>[(4,pP b2 0),(7,pP b3 0),(8,pB v11)]) (fun (_,(v11,v12,v13,v14,v15,v16))=>[PRes.b b2 37 [pI 0,pI 0,pI 0,pI 0,pI 0],PRes.b b3 37 [pI v12,pI v13,pI v14,pI v15,pI v16]]) (fun (_,(v11,v12,v13,v14,v15,v16))=>q18=Sum.inl (v11,v12,v13,v14,v15,v16)) ?_ ?_
 ·refine aR ?_
  refine aZ (Y:=Unit) (S:=Bool×Int×Int×Int×Int×Int×Int) _ hq18 (fun _ (v4,v5,v6,v7,v8,v9,v10)=>[(0,pL Zb.enc p0),(3,pP b1 0),(4,pP b2 0),(7,pP b3 0),(8,pB v4),(16,pL eI p1.kinds),(17,pI (p1.kinds.length:Int)),(18,pI v5)]) (fun _ (v4,v5,v6,v7,v8,v9,v10)=>[PRes.b b1 141 [pI p1.quantity,pI p1.value,pL eI p1.kinds],PRes.b b2 37 [pI 0,pI 0,pI 0,pI 0,pI 0],PRes.b b3 37 [pI v6,pI v7,pI v8,pI v9,pI v10]]) () (EA rfl) (bq (aC (aC aN)) (bq (aC aN) cq)) ?_
  rintro _ ⟨v4,v5,v6,v7,v8,v9,v10⟩ o τ hb17;(try dsimp only at hb17);dsimp only [aK]
  refine ah (ap [(19,pB (decide (v5<(p1.kinds.length:Int))))] (by kernel_rfl) (cw (kU rfl hb17 (fun hc19 hb17=>?_) fun hc19 hb17=>?_)))
  ·refine ae ?_
   refine cw (jX (aa hb17 fun m20 hm20 hb17=>aB [] [20,21] [(10,pI m20)] (fC 0 eI hm20 bL) (by kernel_rfl) (cw (ap [(22,pL Zb.enc p0),(23,pI (p0.length:Int)),(24,pI 0)] (by kernel_rfl) (ga hb17 fun q35 hq35 hb17=>?_)))))
   refine kG (Y:=Unit×(Bool×Int×Int×Int×Int×Int)) (fun (_,(v28,v29,v30,v31,v32,v33))=>[(0,pL Zb.enc p0),(3,pP b1 0),(4,pP b2 0),(7,pP b3 0),(8,pB v28),(16,pL eI p1.kinds),(17,pI (p1.kinds.length:Int)),(18,pI v5)]) (fun (_,(v28,v29,v30,v31,v32,v33))=>[PRes.b b1 141 [pI p1.quantity,pI p1.value,pL eI p1.kinds],PRes.b b2 37 [pI 0,pI 0,pI 0,pI 0,pI 0],PRes.b b3 37 [pI v29,pI v30,pI v31,pI v32,pI v33]]) (fun (_,(v28,v29,v30,v31,v32,v33))=>q35=Sum.inl (v28,v29,v30,v31,v32,v33)) ?_ ?_
   ·refine aR ?_
    refine aZ (Y:=Unit) (S:=Bool×Int×Int×Int×Int×Int×Int) _ hq35 (fun _ (v21,v22,v23,v24,v25,v26,v27)=>[(0,pL Zb.enc p0),(3,pP b1 0),(4,pP b2 0),(7,pP b3 0),(8,pB v21),(10,pI m20),(16,pL eI p1.kinds),(17,pI (p1.kinds.length:Int)),(18,pI v5),(22,pL Zb.enc p0),(23,pI (p0.length:Int)),(24,pI v22)]) (fun _ (v21,v22,v23,v24,v25,v26,v27)=>[PRes.b b1 141 [pI p1.quantity,pI p1.value,pL eI p1.kinds],PRes.b b2 37 [pI 0,pI 0,pI 0,pI 0,pI 0],PRes.b b3 37 [pI v23,pI v24,pI v25,pI v26,pI v27]]) () (gu rfl (gu rfl (gu rfl (qi rfl)))) kY ?_
    rintro _ ⟨v21,v22,v23,v24,v25,v26,v27⟩ o τ hb34;(try dsimp only at hb34);dsimp only [aK]
    refine ah (ap [(25,pB (decide (v22<(p0.length:Int))))] (by kernel_rfl) (cw (kU rfl hb34 (fun hc36 hb34=>?_) fun hc36 hb34=>?_)))
    ·refine ae ?_
     refine dV hb34 fun q43 hq43 hb34=>?_
     refine av (Y:=Unit×(Bool×Int×Int×Int×Int×Int)) (fun (_,(v37,v38,v39,v40,v41,v42))=>[(0,pL Zb.enc p0),(3,pP b1 0),(4,pP b2 0),(7,pP b3 0),(8,pB v37),(10,pI m20),(16,pL eI p1.kinds),(17,pI (p1.kinds.length:Int)),(18,pI v5),(22,pL Zb.enc p0),(23,pI (p0.length:Int)),(24,pI v22)]) (fun (_,(v37,v38,v39,v40,v41,v42))=>[PRes.b b1 141 [pI p1.quantity,pI p1.value,pL eI p1.kinds],PRes.b b2 37 [pI 0,pI 0,pI 0,pI 0,pI 0],PRes.b b3 37 [pI v38,pI v39,pI v40,pI v41,pI v42]]) (fun (_,(v37,v38,v39,v40,v41,v42))=>q43=Sum.inl (v37,v38,v39,v40,v41,v42)) ?_ ?_
     ·skip
      refine jX (aa hq43 fun m44 hm44 hq43=>aj (bp 2 [] [26] [(27,.agg (bk m44))] (fC 0 Zb.enc hm44 bL) (by kernel_rfl) (aF rfl (aY (cs:=[pI 0,pI 0,pS ByteArray.empty,pN,pI 0,pI 0,pI 0,pI 0,pI 0,pI 0,pI 0,pB false,pI 0,pB false,pI 0]) rfl rfl rfl rfl (fun b45=>aH rfl rfl (ag (vs:=(bk m44)) rfl rfl rfl rfl rfl bB (eH (eH (eH (eH (eH (eH C6)))))) (ar (cQ (aV [0] [28,29,30] [(31,pB (m44.Kind != m20))] (by kernel_rfl) (dW rfl hq43 (fun hc46 hq43=>?_) fun hc46 hq43=>?_))))))))))
      ·refine bc ?_
       refine aP (aM rfl ?_)
       obtain rfl:=osi hq43
       exact am ((),(v21,v23,v24,v25,v26,v27)) (gu rfl (gu rfl (gu rfl (qi rfl)))) (bq (aC aN) (bq (aC aN) (bq (aC aN) bZ))) rfl
      refine ae ?_
      refine dV hq43 fun x47 hx47 hq43=>aB [0,1,1] ((rg 33 7)++[32,40,41]) [(13,pI x47.1),(14,pI x47.2)] (bw 6 (rt hx47) bL) (by kernel_rfl) (cQ (bU [42] [(43,pB (x47.2 != 0))] (by kernel_rfl) rfl hq43 (fun hc48 hq43=>?_) fun hc48 hq43=>?_))
      ·refine ah ?_
       refine cP 2 [(44,.agg [pI 0,pI 0,pI 0,pI 0,pI 0]),(45,pI x47.2)] (by kernel_rfl) (aH rfl rfl (ag (vs:=[pI 0,pI 0,pI 0,pI 0,pI 0]) rfl rfl rfl rfl rfl (bx (bx bB)) zl5 (aL [(5,pB false),(6,pI x47.2)] (by kernel_rfl) (ua (au (bz ?_))))))
       obtain rfl:=osi hq43
       refine bH hb34 (fun ht=>?_);subst ht
       refine au (jh (au (aO ?_)))
       refine bH hb17 (fun ht=>?_);subst ht
       refine au (bz ?_)
       obtain rfl:=osi h
       exact aI (prv_3 (cg rfl kb rfl) (aD rfl) (aD rfl)) bZ ⟨rfl,rfl⟩
      refine ae ?_
      refine cw (aV [3] (rg 46 7) [(53,pB ((!v21)||(decide (x47.1<v27))))] (by kernel_rfl) (dW rfl hq43 (fun hc49 hq43=>?_) fun hc49 hq43=>?_))
      ·refine ah ?_
       refine aj (cI 10 [0,0,1,1] (rg 54 9) [(63,.agg [pI m44.Kind,pI m44.ID,pI p1.quantity,pI p1.value,pI x47.1])] (by kernel_rfl) (aH rfl rfl (ag (vs:=[pI m44.Kind,pI m44.ID,pI p1.quantity,pI p1.value,pI x47.1]) rfl rfl rfl rfl rfl (bx (bx (bx bB))) zl5 (ar (aW (ap [(8,pB true)] (by kernel_rfl) (aq ?_)))))))
       obtain rfl:=osi hq43
       exact am ((),(true,m44.Kind,m44.ID,p1.quantity,p1.value,x47.1)) (gu rfl (gu rfl (gu rfl (qi rfl)))) (bq (aC aN) (bq (aC aN) (bq (aC aN) bZ))) rfl
      refine ae ?_
      refine aq ?_
      obtain rfl:=osi hq43
      exact am ((),(v21,v23,v24,v25,v26,v27)) (gu rfl (gu rfl (gu rfl (qi rfl)))) (bq (aC aN) (bq (aC aN) (bq (aC aN) bZ))) rfl
     rintro ⟨_,⟨v37,v38,v39,v40,v41,v42⟩⟩ τ hz;(try dsimp only at hz);subst q43;(try dsimp only at hb34);dsimp only [aK]
     refine an [64] [(24,pI (IntKind.i64.wrap (v22+1)))] (by kernel_rfl) ?_
     exact bt hb34 () (gu rfl (gu rfl (gu rfl (qi rfl)))) kY
    refine bc ?_
    refine aP (aJ hb34 (fun ht=>aM rfl ?_))
    exact fB ((),(v21,v23,v24,v25,v26,v27)) (EA rfl) kY ht.symm
   rintro ⟨_,⟨v28,v29,v30,v31,v32,v33⟩⟩ τ ρ1 hsub50 hz;(try dsimp only at hz hsub50);subst q35;(try dsimp only at hb17);dsimp only [aK]
   refine aq (aW (oC hsub50 (an [65] [(18,pI (IntKind.i64.wrap (v5+1)))] (by kernel_rfl) ?_)))
   exact bt hb17 () (EA rfl) kY
  refine bc ?_
  refine aP (aJ hb17 (fun ht=>aM rfl ?_))
  exact am ((),(v4,v6,v7,v8,v9,v10)) (kH rfl) (bq (aC aN) (bq (aC aN) bZ)) ht.symm
 rintro ⟨_,⟨v11,v12,v13,v14,v15,v16⟩⟩ τ hz;(try dsimp only at hz);subst q18;(try dsimp only at h);dsimp only [aK]
 refine ah (aj (dY 2 [1] [(66,.agg [pI v12,pI v13,pI v14,pI v15,pI v16]),(67,pB v11)] (by kernel_rfl) (aH rfl rfl (ag (vs:=[pI v12,pI v13,pI v14,pI v15,pI v16]) rfl rfl rfl rfl rfl bB zl5 (aL [(5,pB v11),(6,pI 0)] (by kernel_rfl) (dC ?_))))))
 obtain rfl:=osi h
 exact aI (prv_3 (cg rfl dt rfl) (aD rfl) (aD rfl)) bZ ⟨rfl,rfl⟩
def jq (p0:ByteArray):Option Int:=(bu (S:=Int) (T:=(Unit)⊕(_)) (fun v1=>cond (decide (v1<(p0.size:Int))) ((idx p0.data.toList v1).bind fun c5=>(gd (!(decide ((c5.toNat:Int)<48))) (idx p0.data.toList v1)).bind fun c6=>cond ((decide ((c5.toNat:Int)<48))||(decide (57<(c6.toNat:Int)))) (some (.inr (.inr (0:Int)))) (some (.inl (IntKind.i64.wrap (v1+1))))) (some (.inr (.inl ())))) FUEL 0).bind fun q=>match q with | .inl _=>cond ((decide (8<(p0.size:Int)))||((Int.tmod (p0.size:Int) 2) == 1)) (some (0:Int)) (some (p0.size:Int)) | .inr e=>some e
theorem ob {p0:ByteArray} {r:Int}  (h:jq p0=some r):PF 59 [pS p0] (pI r):=by
 unfold jq at h
 refine bo ?_
 refine dZ Tryz.func59 rfl Tryz.ntmps59 Tryz.results59 rfl (bh [2] (by kernel_rfl) (cQ (ap [(3,pI 0)] (by kernel_rfl) (ga h fun q3 hq3 h=>?_))))
 refine av (Y:=Unit×Unit) (fun (_,_)=>[(0,pS p0)]) (fun (_,_)=>[]) (fun (_,_)=>q3=Sum.inl ()) ?_ ?_
 ·refine aR ?_
  refine aZ (Y:=Unit) (S:=Int) _ hq3 (fun _ v1=>[(0,pS p0),(3,pI v1)]) (fun _ v1=>[]) () (eN rfl) bZ ?_
  rintro _ v1 o τ hb2;(try dsimp only at hb2);dsimp only [aK]
  refine gh (bU [4,5,6] [(7,pB (decide (v1<(p0.size:Int))))] (by kernel_rfl) rfl hb2 (fun hc4 hb2=>?_) fun hc4 hb2=>?_)
  ·refine ae ?_
   refine cw (jX (aa hb2 fun c5 hc5 hb2=>aa hb2 fun c6 hc6 hb2=>aB [] (rg 10 9) [(19,pB ((decide ((c5.toNat:Int)<48))||(decide (57<(c6.toNat:Int)))))] (Dd 2 hc5 (mK 7 (cY hc6) bL)) (by kernel_rfl) (dW rfl hb2 (fun hc7 hb2=>?_) fun hc7 hb2=>?_)))
   ·refine ah ?_
    refine ap [(2,pI 0)] (by kernel_rfl) (dC (au (aO ?_)))
    refine bH hb2 (fun ht=>?_);subst ht
    refine au (bz ?_)
    exact zz r h rfl
   refine ae ?_
   refine aq (aW (an [8,9] [(3,pI (IntKind.i64.wrap (v1+1)))] (by kernel_rfl) ?_))
   exact bt hb2 () (eN rfl) bZ
  refine bc ?_
  refine aP (aJ hb2 (fun ht=>aM rfl ?_))
  exact am ((),()) (nG rfl) bZ ht.symm
 rintro ⟨_,_⟩ τ hz;(try dsimp only at hz);subst q3;(try dsimp only at h);dsimp only [aK]
 refine gh (bU (rg 20 8) [(28,pB ((decide (8<(p0.size:Int)))||((Int.tmod (p0.size:Int) 2) == 1)))] (by kernel_rfl) rfl h (fun hc8 h=>?_) fun hc8 h=>?_)
 ·refine ah ?_
  refine dq [(2,pI 0)] (by kernel_rfl) ?_
  exact zz r h rfl
 refine ae ?_
 refine cw (an [29,30] [(2,pI (p0.size:Int))] (by kernel_rfl) (dC ?_))
 exact zz r h rfl
def iX (p0:Int) (p1:Int):Option Bool:=some ((decide (0≤p0))&&(decide (p0≤p1)))
theorem jr {p0:Int} {p1:Int} {r:Bool}  (h:iX p0 p1=some r):PF 66 [pI p0,pI p1] (pB r):=by
 unfold iX at h
 refine bo ?_
 refine dZ Tryz.func66 rfl Tryz.ntmps66 Tryz.results66 rfl (bh [4] (by kernel_rfl) (cw (an (rg 5 7) [(4,pB ((decide (0≤p0))&&(decide (p0≤p1))))] (by kernel_rfl) (dC ?_))))
 exact zz r h rfl
def ko (p0:Zm):Option Int:=(iX p0.Rate 10000000).bind fun x2=>(gd (!(!x2)) (iX p0.Amount 100000000)).bind fun x3=>(gd (!((((!x2)||(!x3))||((decide (0<p0.Amount))&&((decide (p0.Per<1))||(decide (1000000<p0.Per)))))||((p0.Amount == 0)&&(p0.Per != 0)))) (iX p0.Most 10000000)).bind fun x4=>(gd (!(((((!x2)||(!x3))||((decide (0<p0.Amount))&&((decide (p0.Per<1))||(decide (1000000<p0.Per)))))||((p0.Amount == 0)&&(p0.Per != 0)))||(!x4))) (iX p0.Least 10000000)).bind fun x5=>cond ((((((!x2)||(!x3))||((decide (0<p0.Amount))&&((decide (p0.Per<1))||(decide (1000000<p0.Per)))))||((p0.Amount == 0)&&(p0.Per != 0)))||(!x4))||(!x5)) (some (2:Int)) (cond ((((p0.Most != 0)&&(!p0.HasMost))||((p0.Least != 0)&&(!p0.HasLeast)))||((p0.HasMost&&p0.HasLeast)&&(decide (p0.Most<p0.Least)))) (some (1:Int)) (some (0:Int)))
theorem o8 {p0:Zm} {r:Int}  (h:ko p0=some r):PF 65 [.agg (jI p0)] (pI r):=by
 unfold ko at h
 refine bo ?_
 refine dZ Tryz.func65 rfl Tryz.ntmps65 Tryz.results65 rfl (dj rfl (bC (cs:=(jI p0)) rfl rfl (fun b1=>br [2] (by kernel_rfl) (cQ (aa h fun x2 hx2 h=>aa h fun x3 hx3 h=>aa h fun x4 hx4 h=>aa h fun x5 hx5 h=>aB [0,0,0,0,0,0,0,0,0] (rg 3 46) [(49,pB ((((((!x2)||(!x3))||((decide (0<p0.Amount))&&((decide (p0.Per<1))||(decide (1000000<p0.Per)))))||((p0.Amount == 0)&&(p0.Per != 0)))||(!x4))||(!x5)))] (bw 2 (jr hx2) (eU 7 (fun hc=>jr (cY hx3 hc)) (eU 38 (fun hc=>jr (cY hx4 hc)) (eU 44 (fun hc=>jr (cY hx5 hc)) bL)))) (by kernel_rfl) (dW rfl h (fun hc6 h=>?_) fun hc6 h=>?_))))))
 ·refine ah ?_
  refine dq [(2,pI 2)] (by kernel_rfl) ?_
  exact zz r h rfl
 refine ae ?_
 refine cQ (aV [0,0,0,0,0,0,0,0] (rg 50 32) [(82,pB ((((p0.Most != 0)&&(!p0.HasMost))||((p0.Least != 0)&&(!p0.HasLeast)))||((p0.HasMost&&p0.HasLeast)&&(decide (p0.Most<p0.Least)))))] (by kernel_rfl) (dW rfl h (fun hc7 h=>?_) fun hc7 h=>?_))
 ·refine ah ?_
  refine dq [(2,pI 1)] (by kernel_rfl) ?_
  exact zz r h rfl
 refine ae ?_
 refine cw (ap [(2,pI 0)] (by kernel_rfl) (dC ?_))
 exact zz r h rfl
def kp (p0:Zb):Option (Int×Bool):=cond ((((((decide (p0.ID<1))||(decide (1000000<p0.ID)))||(decide (p0.Kind<1)))||(decide (6<p0.Kind)))||(decide (p0.Company<0)))||(decide (999<p0.Company))) (some ((2:Int),false)) ((jq p0.Prefix).bind fun x3=>cond (x3 == 0) (some ((1:Int),false)) (cond (decide (20<(p0.Origins.length:Int))) (some ((8:Int),false)) ((bu (S:=Int) (T:=(Unit)⊕(_)) (fun v6=>cond (decide (v6<(p0.Origins.length:Int))) ((idx p0.Origins v6).bind fun m10=>(dK m10).bind fun x11=>(gd ((!(!x11))&&(decide (0<v6))) (idx p0.Origins (IntKind.i64.wrap (v6 - 1)))).bind fun m12=>(gd ((!(!x11))&&(decide (0<v6))) (idx p0.Origins v6)).bind fun m13=>cond ((!x11)||((decide (0<v6))&&(!Op.bytesLess m12.toList m13.toList))) (some (.inr (.inr ((1:Int),false)))) (some (.inl (IntKind.i64.wrap (v6+1))))) (some (.inr (.inl ())))) FUEL 0).bind fun q=>match q with | .inl _=>cond (((((decide (p0.From<0))||(decide (p0.To≤p0.From)))||(decide (36525<p0.To)))||(decide (p0.Registered<(-1))))||(decide (p0.From<p0.Registered))) (some ((2:Int),false)) ((ko p0.Duty).bind fun x16=>some (x16,(x16 == 0))) | .inr e=>some e)))
theorem wS {p0:Zb} {r:(Int×Bool)}  (h:kp p0=some r):PF 58 [.agg (bk p0)] (.tup [pI r.1,pB r.2]):=by
 unfold kp at h
 refine bo ?_
 refine dZ Tryz.func58 rfl Tryz.ntmps58 Tryz.results58 rfl (dj rfl (bC (cs:=(bk p0)) rfl rfl (fun b1=>br [2,3] (by kernel_rfl) (cw (aV [0,0,0,0,0,0] (rg 7 28) [(4,pB ((((((decide (p0.ID<1))||(decide (1000000<p0.ID)))||(decide (p0.Kind<1)))||(decide (6<p0.Kind)))||(decide (p0.Company<0)))||(decide (999<p0.Company))))] (by kernel_rfl) (cQ (ap [(35,pB ((((((decide (p0.ID<1))||(decide (1000000<p0.ID)))||(decide (p0.Kind<1)))||(decide (6<p0.Kind)))||(decide (p0.Company<0)))||(decide (999<p0.Company))))] (by kernel_rfl) (dW rfl h (fun hc2 h=>?_) fun hc2 h=>?_))))))))
 ·refine ah ?_
  refine dq [(2,pI 2),(3,pB false)] (by kernel_rfl) ?_
  obtain rfl:=osi h
  exact aI (bD (aD rfl) (aD rfl)) bZ ⟨rfl,rfl⟩
 refine ae ?_
 refine cQ (aa h fun x3 hx3 h=>aB [0] [36,37,38] [(39,pB (x3 == 0))] (bw 2 (ob hx3) bL) (by kernel_rfl) (dW rfl h (fun hc4 h=>?_) fun hc4 h=>?_))
 ·refine ah ?_
  refine dq [(2,pI 1),(3,pB false)] (by kernel_rfl) ?_
  obtain rfl:=osi h
  exact aI (bD (aD rfl) (aD rfl)) bZ ⟨rfl,rfl⟩
 refine ae ?_
 refine cQ (aV [0] [40,41,42] [(43,pB (decide (20<(p0.Origins.length:Int))))] (by kernel_rfl) (dW rfl h (fun hc5 h=>?_) fun hc5 h=>?_))
 ·refine ah ?_
  refine dq [(2,pI 8),(3,pB false)] (by kernel_rfl) ?_
  obtain rfl:=osi h
  exact aI (bD (aD rfl) (aD rfl)) bZ ⟨rfl,rfl⟩
 refine ae ?_
 refine cQ (ap [(5,pI 0)] (by kernel_rfl) (ga h fun q8 hq8 h=>?_))
 refine av (Y:=Unit×Unit) (fun (_,_)=>[(1,pP b1 0)]) (fun (_,_)=>[PRes.b b1 68 (bk p0)]) (fun (_,_)=>q8=Sum.inl ()) ?_ ?_
 ·refine aR ?_
  refine aZ (Y:=Unit) (S:=Int) _ hq8 (fun _ v6=>[(1,pP b1 0),(5,pI v6)]) (fun _ v6=>[PRes.b b1 68 (bk p0)]) () (eN rfl) cq ?_
  rintro _ v6 o τ hb7;(try dsimp only at hb7);dsimp only [aK]
  refine gh (aV [0] [44,45,46,47] [(48,pB (decide (v6<(p0.Origins.length:Int))))] (by kernel_rfl) (dW rfl hb7 (fun hc9 hb7=>?_) fun hc9 hb7=>?_))
  ·refine ae ?_
   refine cw (jX (bN (ρd:=[]) [(0,0),(1,0),(2,0),(3,0),(4,0),(5,1),(6,0),(7,0),(8,0),(9,0),(10,0),(11,0),(12,0),(13,0),(14,0),(15,0),(16,0),(17,0),(18,0),(19,0),(20,0),(21,0),(22,0),(23,0),(24,0)] _ (List.Perm.refl _) (by kernel_rfl) rfl (aa hb7 fun m10 hm10 hb7=>aa hb7 fun x11 hx11 hb7=>aa hb7 fun m12 hm12 hb7=>aa hb7 fun m13 hm13 hb7=>cr 25 [0,0,0] (rg 51 24) [(75,pB ((!x11)||((decide (0<v6))&&(!Op.bytesLess m12.toList m13.toList))))] (fC 3 eS hm10 (bw 5 (kg hx11) (jW 15 eS (cY hm12) (jW 20 eS (cY hm13) bL)))) (by kernel_rfl) (cC (dW rfl hb7 (fun hc14 hb7=>?_) fun hc14 hb7=>?_)))))
   ·refine ah ?_
    refine ap [(2,pI 1),(3,pB false)] (by kernel_rfl) (dC (au (aO ?_)))
    refine bH hb7 (fun ht=>?_);subst ht
    refine au (bz ?_)
    obtain rfl:=osi h
    exact aI (bD (aD rfl) (aD rfl)) bZ ⟨rfl,rfl⟩
   refine ae ?_
   refine aq (aW (an [49,50] [(5,pI (IntKind.i64.wrap (v6+1)))] (by kernel_rfl) ?_))
   exact bt hb7 () (eN rfl) cq
  refine bc ?_
  refine aP (aJ hb7 (fun ht=>aM rfl ?_))
  exact am ((),()) (nG rfl) cq ht.symm
 rintro ⟨_,_⟩ τ hz;(try dsimp only at hz);subst q8;(try dsimp only at h);dsimp only [aK]
 refine gh (aV [0,0,0,0,0,0,0] (rg 76 26) [(102,pB (((((decide (p0.From<0))||(decide (p0.To≤p0.From)))||(decide (36525<p0.To)))||(decide (p0.Registered<(-1))))||(decide (p0.From<p0.Registered))))] (by kernel_rfl) (dW rfl h (fun hc15 h=>?_) fun hc15 h=>?_))
 ·refine ah ?_
  refine dq [(2,pI 2),(3,pB false)] (by kernel_rfl) ?_
  obtain rfl:=osi h
  exact aI (bD (aD rfl) (aD rfl)) bZ ⟨rfl,rfl⟩
 refine ae ?_
 refine dV h fun x16 hx16 h=>aB [0] [103,104,105] [(6,pI x16)] (bw 2 (o8 hx16) bL) (by kernel_rfl) (cw (an [106,107,108] [(2,pI x16),(3,pB (x16 == 0))] (by kernel_rfl) (dC ?_)))
 obtain rfl:=osi h
 exact aI (bD (aD rfl) (aD rfl)) bZ ⟨rfl,rfl⟩
def iv (p0:(List Zb)):Option Int:=cond (decide (300<(p0.length:Int))) (some (8:Int)) ((bu (S:=Int) (T:=(Unit)⊕(_)) (fun v2=>cond (decide (v2<(p0.length:Int))) ((idx p0 v2).bind fun m6=>cond ((((((decide (m6.ID<1))||(decide (1000000<m6.ID)))||(decide (m6.Kind<1)))||(decide (6<m6.Kind)))||(decide (m6.Company<0)))||(decide (999<m6.Company))) (some (.inr (.inr (2:Int)))) ((gd (decide (0<v2)) (idx p0 (IntKind.i64.wrap (v2 - 1)))).bind fun m9=>cond ((decide (0<v2))&&(decide (m6.ID≤m9.ID))) (some (.inr (.inr (9:Int)))) ((kp m6).bind fun x11=>cond (x11.1 != 0) (some (.inr (.inr x11.1))) (some (.inl (IntKind.i64.wrap (v2+1))))))) (some (.inr (.inl ())))) FUEL 0).bind fun q=>match q with | .inl _=>some (0:Int) | .inr e=>some e)
theorem qz {p0:(List Zb)} {r:Int}  (h:iv p0=some r):PF 26 [pL Zb.enc p0] (pI r):=by
 unfold iv at h
 refine bo ?_
 refine dZ Tryz.func26 rfl Tryz.ntmps26 Tryz.results26 rfl (bh [2] (by kernel_rfl) (cQ (bU [7,8] [(9,pB (decide (300<(p0.length:Int))))] (by kernel_rfl) rfl h (fun hc1 h=>?_) fun hc1 h=>?_)))
 ·refine ah ?_
  refine dq [(2,pI 8)] (by kernel_rfl) ?_
  exact zz r h rfl
 refine ae ?_
 refine cQ (ap [(3,pI 0)] (by kernel_rfl) (ga h fun q4 hq4 h=>?_))
 refine av (Y:=Unit×Unit) (fun (_,_)=>[]) (fun (_,_)=>[]) (fun (_,_)=>q4=Sum.inl ()) ?_ ?_
 ·refine aR ?_
  refine aZ (Y:=Unit) (S:=Int) _ hq4 (fun _ v2=>[(0,pL Zb.enc p0),(3,pI v2)]) (fun _ v2=>[]) () (eN rfl) bZ ?_
  rintro _ v2 o τ hb3;(try dsimp only at hb3);dsimp only [aK]
  refine gh (bU [10,11,12] [(13,pB (decide (v2<(p0.length:Int))))] (by kernel_rfl) rfl hb3 (fun hc5 hb3=>?_) fun hc5 hb3=>?_)
  ·refine ae ?_
   refine cw (jX (aa hb3 fun m6 hm6 hb3=>aj (bp 4 [] [16,17,18] [(19,.agg (bk m6))] (fC 2 Zb.enc hm6 bL) (by kernel_rfl) (aF rfl (aY (cs:=[pI 0,pI 0,pS ByteArray.empty,pN,pI 0,pI 0,pI 0,pI 0,pI 0,pI 0,pI 0,pB false,pI 0,pB false,pI 0]) rfl rfl rfl rfl (fun b7=>aH rfl rfl (ag (vs:=(bk m6)) rfl rfl rfl rfl rfl bB (eH (eH (eH (eH (eH (eH C6)))))) (ar (cQ (aV [0,0,0,0,0,0] (rg 20 27) [(47,pB ((((((decide (m6.ID<1))||(decide (1000000<m6.ID)))||(decide (m6.Kind<1)))||(decide (6<m6.Kind)))||(decide (m6.Company<0)))||(decide (999<m6.Company))))] (by kernel_rfl) (dW rfl hb3 (fun hc8 hb3=>?_) fun hc8 hb3=>?_)))))))))))
   ·refine ah ?_
    refine dq [(2,pI 2)] (by kernel_rfl) (au (aO ?_))
    refine bH hb3 (fun ht=>?_);subst ht
    refine au (bz ?_)
    exact zz r h rfl
   refine ae ?_
   refine cQ (bN (ρd:=[]) [(0,0),(1,0),(2,0),(3,0),(4,0),(5,0),(6,0),(7,0),(8,0),(9,0),(10,0),(11,0),(12,0)] _ (List.Perm.refl _) (by kernel_rfl) rfl (aa hb3 fun m9 hm9 hb3=>cr 13 [0] (rg 48 12) [(60,pB ((decide (0<v2))&&(decide (m6.ID≤m9.ID))))] (jW 8 Zb.enc (cY hm9) bL) (by kernel_rfl) (cC (dW rfl hb3 (fun hc10 hb3=>?_) fun hc10 hb3=>?_))))
   ·refine ah ?_
    refine dq [(2,pI 9)] (by kernel_rfl) (au (aO ?_))
    refine bH hb3 (fun ht=>?_);subst ht
    refine au (bz ?_)
    exact zz r h rfl
   refine ae ?_
   refine dV hb3 fun x11 hx11 hb3=>aB [0] [62,63,61,64,65,6] [(5,pI x11.1)] (bw 1 (wS hx11) bL) (by kernel_rfl) (cw (bU [66] [(67,pB (x11.1 != 0))] (by kernel_rfl) rfl hb3 (fun hc12 hb3=>?_) fun hc12 hb3=>?_))
   ·refine ah ?_
    refine an [68] [(2,pI x11.1)] (by kernel_rfl) (dC (au (aO ?_)))
    refine bH hb3 (fun ht=>?_);subst ht
    refine au (bz ?_)
    exact zz r h rfl
   refine ae ?_
   refine aq (aW (an [14,15] [(3,pI (IntKind.i64.wrap (v2+1)))] (by kernel_rfl) ?_))
   exact bt hb3 () (eN rfl) bZ
  refine bc ?_
  refine aP (aJ hb3 (fun ht=>aM rfl ?_))
  exact am ((),()) sL bZ ht.symm
 rintro ⟨_,_⟩ τ hz;(try dsimp only at hz);subst q4;(try dsimp only at h);dsimp only [aK]
 refine ah (ap [(2,pI 0)] (by kernel_rfl) (dC ?_))
 exact zz r h rfl
def ji (p0:Zj):Option Int:=(jq p0.Code).bind fun x2=>(gd (!(x2 != 8)) (dK p0.Origin)).bind fun x3=>cond ((x2 != 8)||(!x3)) (some (1:Int)) (cond ((((((((((decide (p0.Company<0))||(decide (999<p0.Company)))||(decide (p0.Day<0)))||(decide (36524<p0.Day)))||(decide (p0.Quantity<0)))||(decide (1000000000<p0.Quantity)))||(decide (p0.Value<0)))||(decide (1000000000000<p0.Value)))||(decide (p0.Granted<0)))||(decide (p0.Quantity<p0.Granted))) (some (2:Int)) (some (0:Int)))
theorem uV {p0:Zj} {r:Int}  (h:ji p0=some r):PF 27 [.agg (ck p0)] (pI r):=by
 unfold ji at h
 refine bo ?_
 refine dZ Tryz.func27 rfl Tryz.ntmps27 Tryz.results27 rfl (dj rfl (bC (cs:=(ck p0)) rfl rfl (fun b1=>br [2] (by kernel_rfl) (cQ (aa h fun x2 hx2 h=>aa h fun x3 hx3 h=>aB [0,0] (rg 3 9) [(12,pB ((x2 != 8)||(!x3)))] (bw 2 (ob hx2) (eU 7 (fun hc=>kg (cY hx3 hc)) bL)) (by kernel_rfl) (dW rfl h (fun hc4 h=>?_) fun hc4 h=>?_))))))
 ·refine ah ?_
  refine dq [(2,pI 1)] (by kernel_rfl) ?_
  exact zz r h rfl
 refine ae ?_
 refine cQ (aV [0,0,0,0,0,0,0,0,0,0,0] (rg 13 49) [(62,pB ((((((((((decide (p0.Company<0))||(decide (999<p0.Company)))||(decide (p0.Day<0)))||(decide (36524<p0.Day)))||(decide (p0.Quantity<0)))||(decide (1000000000<p0.Quantity)))||(decide (p0.Value<0)))||(decide (1000000000000<p0.Value)))||(decide (p0.Granted<0)))||(decide (p0.Quantity<p0.Granted))))] (by kernel_rfl) (dW rfl h (fun hc5 h=>?_) fun hc5 h=>?_))
 ·refine ah ?_
  refine dq [(2,pI 2)] (by kernel_rfl) ?_
  exact zz r h rfl
 refine ae ?_
 refine cw (ap [(2,pI 0)] (by kernel_rfl) (dC ?_))
 exact zz r h rfl
def fg (p0:Zf) (p1:Zf):Option (Zf×Bool):=Option.bind (cond (decide ((IntKind.u64.wrap (p0.Lo+p1.Lo))<p0.Lo)) (lb ((IntKind.u64.wrap ((IntKind.u64.wrap (p0.Hi+p1.Hi))+1))) (fun w8=>some (w8,((decide ((IntKind.u64.wrap (p0.Hi+p1.Hi))<p0.Hi))||(w8 == 0))))) (some ((IntKind.u64.wrap (p0.Hi+p1.Hi)),(decide ((IntKind.u64.wrap (p0.Hi+p1.Hi))<p0.Hi))))) (fun (v4,v5)=>some ((⟨v4,(IntKind.u64.wrap (p0.Lo+p1.Lo))⟩:Zf),v5))
theorem jQ {p0:Zf} {p1:Zf} {r:(Zf×Bool)}  (h:fg p0 p1=some r):PF 67 [.agg [pU p0.Hi,pU p0.Lo],.agg [pU p1.Hi,pU p1.Lo]] (.tup [.agg [pU r.1.Hi,pU r.1.Lo],pB r.2]):=by
 unfold fg at h
 refine bo ?_
 refine dZ Tryz.func67 rfl Tryz.ntmps67 Tryz.results67 rfl (dj rfl (bC (cs:=[pU p0.Hi,pU p0.Lo]) rfl rfl (fun b1=>aF rfl (bC (cs:=[pU p1.Hi,pU p1.Lo]) rfl rfl (fun b2=>aF rfl (aY (cs:=[pU 0,pU 0]) rfl rfl rfl rfl (fun b3=>br [5] (by kernel_rfl) (cw (bN (ρd:=[]) [(0,0),(1,0),(2,0),(3,0),(4,0),(5,0),(6,0),(7,0),(8,0),(9,0),(10,0),(11,0)] _ (List.Perm.refl _) (by kernel_rfl) rfl (t7 12 [2,1,2,1] (rg 9 10) [(6,pU (IntKind.u64.wrap (p0.Lo+p1.Lo))),(7,pU (IntKind.u64.wrap (p0.Hi+p1.Hi)))] (by kernel_rfl) (cC (cw (aV [2] [19,20,21,22] [(8,pB (decide ((IntKind.u64.wrap (p0.Hi+p1.Hi))<p0.Hi)))] (by kernel_rfl) (cQ (aV [2] [23,24,25] [(26,pB (decide ((IntKind.u64.wrap (p0.Lo+p1.Lo))<p0.Lo)))] (by kernel_rfl) (ga h fun q6 hq6 h=>?_))))))))))))))))
 refine av (Y:=Unit×(Int×Bool)) (fun (_,(v4,v5))=>[(4,pP b3 0),(6,pU (IntKind.u64.wrap (p0.Lo+p1.Lo))),(7,pU v4),(8,pB v5)]) (fun (_,(v4,v5))=>[PRes.b b3 112 [pU 0,pU 0]]) (fun (_,(v4,v5))=>q6=(v4,v5)) ?_ ?_
 ·skip
  refine kU rfl hq6 (fun hc7 hq6=>?_) fun hc7 hq6=>?_
  ·refine ah ?_
   refine dr hq6 ?_;clear hq6;intro w8 hw8 hq6
   refine aj (bO 2 [27] [(28,pU (IntKind.u64.wrap ((IntKind.u64.wrap (p0.Hi+p1.Hi))+1)))] (by kernel_rfl) (bM rfl rfl rfl (be rfl (.p (congrArg (fun z=>PV.v (Value.int .u64 z)) hw8))) (ar (aW (an (rg 29 5) [(8,pB ((decide ((IntKind.u64.wrap (p0.Hi+p1.Hi))<p0.Hi))||(w8 == 0)))] (by kernel_rfl) ?_)))))
   obtain rfl:=osi hq6
   exact am ((),(w8,((decide ((IntKind.u64.wrap (p0.Hi+p1.Hi))<p0.Hi))||(w8 == 0)))) (iP rfl) cq rfl
  refine ae ?_
  obtain rfl:=osi hq6
  exact am ((),((IntKind.u64.wrap (p0.Hi+p1.Hi)),(decide ((IntKind.u64.wrap (p0.Hi+p1.Hi))<p0.Hi)))) (iP rfl) cq rfl
 rintro ⟨_,⟨v4,v5⟩⟩ τ hz;(try dsimp only at hz);subst q6;(try dsimp only at h);dsimp only [aK]
 refine ah (aj (bO 4 [34,35] [(36,.agg [pU v4,pU (IntKind.u64.wrap (p0.Lo+p1.Lo))]),(37,pB v5)] (by kernel_rfl) (aH rfl rfl (ag (vs:=[pU v4,pU (IntKind.u64.wrap (p0.Lo+p1.Lo))]) rfl rfl rfl rfl rfl bB nC (aL [(5,pB v5)] (by kernel_rfl) (dC ?_))))))
 obtain rfl:=osi h
 exact aI (bD (cg rfl dt rfl) (aD rfl)) bZ ⟨rfl,rfl⟩
def gF (p0:Zf) (p1:Int):Option (Zf×Int):=(bu (S:=Int×Int×Int×Int) (T:=(Int×Int×Int)) (fun (v4,v5,v6,v7)=>cond (decide (0≤v5)) (((oO (ez .i64 v5 63)).bind fun u18=>lb ((ez .u64 (cV .u64 p0.Lo (ez .i64 v5 63)) 1)) (fun w19=>Option.bind (cond (decide (63<v5)) ((oO (IntKind.i64.wrap (v5 - 64))).bind fun u23=>lb ((ez .u64 (cV .u64 p0.Hi (IntKind.i64.wrap (v5 - 64))) 1)) (fun w24=>some w24)) (some w19)) (fun v20=>(fg (⟨v6,v7⟩:Zf) (⟨v6,v7⟩:Zf)).bind fun x25=>cond (((cV .u64 v4 63) == 1)||(decide (p1≤(oN .u64 (eX .u64 v4 1) v20)))) (lb ((IntKind.u64.wrap ((oN .u64 (eX .u64 v4 1) v20) - p1))) (fun w27=>some (w27,x25.1.Hi,(oN .u64 x25.1.Lo 1)))) (some ((oN .u64 (eX .u64 v4 1) v20),x25.1.Hi,x25.1.Lo))))).bind fun (v14,v15,v16)=>some (.inl (v14,(IntKind.i64.wrap (v5 - 1)),v15,v16))) (some (.inr (v4,v6,v7)))) FUEL (0,127,0,0)).bind fun (v8,v9,v10)=>some ((⟨v9,v10⟩:Zf),v8)
theorem nE {p0:Zf} {p1:Int} {r:(Zf×Int)}  (h:gF p0 p1=some r):PF 61 [.agg [pU p0.Hi,pU p0.Lo],pU p1] (.tup [.agg [pU r.1.Hi,pU r.1.Lo],pU r.2]):=by
 unfold gF at h
 refine bo ?_
 refine dZ Tryz.func61 rfl Tryz.ntmps61 Tryz.results61 rfl (dj rfl (bC (cs:=[pU p0.Hi,pU p0.Lo]) rfl rfl (fun b1=>aF rfl (aY (cs:=[pU 0,pU 0]) rfl rfl rfl rfl (fun b2=>br [5] (by kernel_rfl) (cw (cP 1 [(11,.agg [pU 0,pU 0])] (by kernel_rfl) (aF rfl (aY (cs:=[pU 0,pU 0]) rfl rfl rfl rfl (fun b3=>aH rfl rfl (ag (vs:=[pU 0,pU 0]) rfl rfl rfl rfl rfl bB nC (aL [(7,pU 0)] (by kernel_rfl) (cQ (ap [(8,pI 127)] (by kernel_rfl) (ga h fun q12 hq12 h=>?_)))))))))))))))
 refine av (Y:=Unit×(Int×Int×Int)) (fun (_,(v8,v9,v10))=>[(4,pP b2 0),(6,pP b3 0),(7,pU v8)]) (fun (_,(v8,v9,v10))=>[PRes.b b2 112 [pU 0,pU 0],PRes.b b3 112 [pU v9,pU v10]]) (fun (_,(v8,v9,v10))=>q12=(v8,v9,v10)) ?_ ?_
 ·refine aR ?_
  refine aZ (Y:=Unit) (S:=Int×Int×Int×Int) _ hq12 (fun _ (v4,v5,v6,v7)=>[(1,pU p1),(2,pP b1 0),(4,pP b2 0),(6,pP b3 0),(7,pU v4),(8,pI v5)]) (fun _ (v4,v5,v6,v7)=>[PRes.b b1 112 [pU p0.Hi,pU p0.Lo],PRes.b b2 112 [pU 0,pU 0],PRes.b b3 112 [pU v6,pU v7]]) () (tL rfl) (bq (aC (aC aN)) (bq (aC aN) cq)) ?_
  rintro _ ⟨v4,v5,v6,v7⟩ o τ hb11;(try dsimp only at hb11);dsimp only [aK]
  refine gh (bU [12] [(13,pB (decide (0≤v5)))] (by kernel_rfl) rfl hb11 (fun hc13 hb11=>?_) fun hc13 hb11=>?_)
  ·refine ae ?_
   refine dV hb11 fun q17 hq17 hb11=>?_
   refine av (Y:=Unit×(Int×Int×Int)) (fun (_,(v14,v15,v16))=>[(1,pU p1),(2,pP b1 0),(4,pP b2 0),(6,pP b3 0),(7,pU v14),(8,pI v5)]) (fun (_,(v14,v15,v16))=>[PRes.b b1 112 [pU p0.Hi,pU p0.Lo],PRes.b b2 112 [pU 0,pU 0],PRes.b b3 112 [pU v15,pU v16]]) (fun (_,(v14,v15,v16))=>q17=(v14,v15,v16)) ?_ ?_
   ·skip
    refine jX (aa hq17 fun u18 hu18 hq17=>?_)
    refine dr hq17 ?_;clear hq17;intro w19 hw19 hq17
    refine aj (bp 6 [0] (rg 16 5) [(21,pU (ez .u64 (cV .u64 p0.Lo (ez .i64 v5 63)) 1))] (wG 4 hu18 bL) (by kernel_rfl) (bM rfl rfl rfl (be rfl (.p (congrArg (fun z=>PV.v (Value.int .u64 z)) hw19))) (ar (cQ (an [22] [(23,pB (decide (63<v5)))] (by kernel_rfl) (ga hq17 fun q21 hq21 hq17=>?_))))))
    refine av (Y:=Unit×Int) (fun (_,v20)=>[(1,pU p1),(2,pP b1 0),(4,pP b2 0),(6,pP b3 0),(7,pU v4),(8,pI v5),(9,pU v20)]) (fun (_,v20)=>[PRes.b b1 112 [pU p0.Hi,pU p0.Lo],PRes.b b2 112 [pU 0,pU 0],PRes.b b3 112 [pU v6,pU v7]]) (fun (_,v20)=>q21=v20) ?_ ?_
    ·skip
     refine kU rfl hq21 (fun hc22 hq21=>?_) fun hc22 hq21=>?_
     ·refine aa hq21 ?_;clear hq21;intro u23 hu23 hq21
      refine dr hq21 ?_;clear hq21;intro w24 hw24 hq21
      refine aj (bp 6 [0] (rg 24 5) [(29,pU (ez .u64 (cV .u64 p0.Hi (IntKind.i64.wrap (v5 - 64))) 1))] (wG 4 hu23 bL) (by kernel_rfl) (bM rfl rfl rfl (be rfl (.p (congrArg (fun z=>PV.v (Value.int .u64 z)) hw24))) (ar ?_)))
      obtain rfl:=osi hq21
      exact am ((),w24) (tM rfl) kY rfl
     refine ae ?_
     obtain rfl:=osi hq21
     exact am ((),w19) (tM rfl) kY rfl
    rintro ⟨_,v20⟩ τ hz;(try dsimp only at hz);subst q21;(try dsimp only at hq17);dsimp only [aK]
    refine ah (an [30,31] [(10,pU (cV .u64 v4 63))] (by kernel_rfl) (cw (an [32,33,34,35] [(7,pU (oN .u64 (eX .u64 v4 1) v20))] (by kernel_rfl) (dV hq17 fun x25 hx25 hq17=>aj (bp 6 [2,2] [37,38,39,36,41] [(40,.agg [pU x25.1.Hi,pU x25.1.Lo])] (bw 2 (jQ hx25) bL) (by kernel_rfl) (aH rfl rfl (ag (vs:=[pU x25.1.Hi,pU x25.1.Lo]) rfl rfl rfl rfl rfl (bx (bx bB)) nC (ar (cw (bU (rg 42 6) [(48,pB (((cV .u64 v4 63) == 1)||(decide (p1≤(oN .u64 (eX .u64 v4 1) v20)))))] (by kernel_rfl) rfl hq17 (fun hc26 hq17=>?_) fun hc26 hq17=>?_))))))))))
    ·refine ah ?_
     refine dr hq17 ?_;clear hq17;intro w27 hw27 hq17
     refine aj (bO 3 [49,50] [(51,pU (IntKind.u64.wrap ((oN .u64 (eX .u64 v4 1) v20) - p1)))] (by kernel_rfl) (bM rfl rfl rfl (be rfl (.p (congrArg (fun z=>PV.v (Value.int .u64 z)) hw27))) (ar (aW (aj (cI 4 [2] [52,53] [(54,pU (oN .u64 x25.1.Lo 1)),(55,pP b3 1)] (by kernel_rfl) (aH rfl rfl (ag (vs:=[pU (oN .u64 x25.1.Lo 1)]) rfl rfl rfl rfl rfl (bx (bx bB)) (bf cN) (ar (aq ?_))))))))))
     obtain rfl:=osi hq17
     exact am ((),(w27,x25.1.Hi,(oN .u64 x25.1.Lo 1))) (tL rfl) kY rfl
    refine ae ?_
    refine aq ?_
    obtain rfl:=osi hq17
    exact am ((),((oN .u64 (eX .u64 v4 1) v20),x25.1.Hi,x25.1.Lo)) (tL rfl) kY rfl
   rintro ⟨_,⟨v14,v15,v16⟩⟩ τ hz;(try dsimp only at hz);subst q17;(try dsimp only at hb11);dsimp only [aK]
   refine an [14,15] [(8,pI (IntKind.i64.wrap (v5 - 1)))] (by kernel_rfl) ?_
   exact bt hb11 () (tL rfl) kY
  refine bc ?_
  refine aP (aJ hb11 (fun ht=>aM rfl ?_))
  exact am ((),(v4,v6,v7)) (kH rfl) (bq (aC aN) (bq (aC aN) bZ)) ht.symm
 rintro ⟨_,⟨v8,v9,v10⟩⟩ τ hz;(try dsimp only at hz);subst q12;(try dsimp only at h);dsimp only [aK]
 refine ah (aj (dY 2 [1] [(56,.agg [pU v9,pU v10]),(57,pU v8)] (by kernel_rfl) (aH rfl rfl (ag (vs:=[pU v9,pU v10]) rfl rfl rfl rfl rfl bB nC (aL [(5,pU v8)] (by kernel_rfl) (dC ?_))))))
 obtain rfl:=osi h
 exact aI (bD (cg rfl dt rfl) (aD rfl)) bZ ⟨rfl,rfl⟩
def iH (p0:Int) (p1:Int):Option Zf:=(bu (S:=Int×Int×Int) (T:=(Int×Int)) (fun (v3,v4,v5)=>cond (decide (0≤v3)) (((fg (⟨v4,v5⟩:Zf) (⟨v4,v5⟩:Zf)).bind fun x14=>(oO v3).bind fun u15=>cond ((ez .u64 (cV .u64 p1 v3) 1) == 1) ((fg x14.1 (⟨0,p0⟩:Zf)).bind fun x17=>some (x17.1.Hi,x17.1.Lo)) (some (x14.1.Hi,x14.1.Lo))).bind fun (v11,v12)=>some (.inl ((IntKind.i64.wrap (v3 - 1)),v11,v12))) (some (.inr (v4,v5)))) FUEL (63,0,0)).bind fun (v6,v7)=>some (⟨v6,v7⟩:Zf)
theorem nu {p0:Int} {p1:Int} {r:Zf}  (h:iH p0 p1=some r):PF 62 [pU p0,pU p1] (.agg [pU r.Hi,pU r.Lo]):=by
 unfold iH at h
 refine bo ?_
 refine dZ Tryz.func62 rfl Tryz.ntmps62 Tryz.results62 rfl (dj rfl (aY (cs:=[pU 0,pU 0]) rfl rfl rfl rfl (fun b1=>ar (cw (cP 1 [(7,.agg [pU 0,pU 0])] (by kernel_rfl) (aF rfl (aY (cs:=[pU 0,pU 0]) rfl rfl rfl rfl (fun b2=>aH rfl rfl (ag (vs:=[pU 0,pU 0]) rfl rfl rfl rfl rfl bB nC (ar (cQ (ap [(6,pI 63)] (by kernel_rfl) (ga h fun q9 hq9 h=>?_)))))))))))))
 refine av (Y:=Unit×(Int×Int)) (fun (_,(v6,v7))=>[(4,pP b1 0),(5,pP b2 0)]) (fun (_,(v6,v7))=>[PRes.b b1 112 [pU 0,pU 0],PRes.b b2 112 [pU v6,pU v7]]) (fun (_,(v6,v7))=>q9=(v6,v7)) ?_ ?_
 ·refine aR ?_
  refine aZ (Y:=Unit) (S:=Int×Int×Int) _ hq9 (fun _ (v3,v4,v5)=>[(0,pU p0),(1,pU p1),(4,pP b1 0),(5,pP b2 0),(6,pI v3)]) (fun _ (v3,v4,v5)=>[PRes.b b1 112 [pU 0,pU 0],PRes.b b2 112 [pU v4,pU v5]]) () (mv rfl) (bq (aC aN) cq) ?_
  rintro _ ⟨v3,v4,v5⟩ o τ hb8;(try dsimp only at hb8);dsimp only [aK]
  refine gh (bU [8] [(9,pB (decide (0≤v3)))] (by kernel_rfl) rfl hb8 (fun hc10 hb8=>?_) fun hc10 hb8=>?_)
  ·refine ae ?_
   refine dV hb8 fun q13 hq13 hb8=>?_
   refine av (Y:=Unit×(Int×Int)) (fun (_,(v11,v12))=>[(0,pU p0),(1,pU p1),(4,pP b1 0),(5,pP b2 0),(6,pI v3)]) (fun (_,(v11,v12))=>[PRes.b b1 112 [pU 0,pU 0],PRes.b b2 112 [pU v11,pU v12]]) (fun (_,(v11,v12))=>q13=(v11,v12)) ?_ ?_
   ·skip
    refine jX (aa hq13 fun x14 hx14 hq13=>aj (bp 6 [1,1] [13,14,15,12,17] [(16,.agg [pU x14.1.Hi,pU x14.1.Lo])] (bw 2 (jQ hx14) bL) (by kernel_rfl) (aH rfl rfl (ag (vs:=[pU x14.1.Hi,pU x14.1.Lo]) rfl rfl rfl rfl rfl (bx bB) nC (ar (dV hq13 fun u15 hu15 hq13=>aB [] [18,19,20,21] [(22,pB ((ez .u64 (cV .u64 p1 v3) 1) == 1))] (wG 2 hu15 bL) (by kernel_rfl) (dW rfl hq13 (fun hc16 hq13=>?_) fun hc16 hq13=>?_)))))))
    ·refine aa hq13 ?_;clear hq13;intro x17 hx17 hq13
     refine aj (bp 7 [1] [24,25,26,27,23,29] [(28,.agg [pU x17.1.Hi,pU x17.1.Lo])] (bw 3 (jQ hx17) bL) (by kernel_rfl) (aH rfl rfl (ag (vs:=[pU x17.1.Hi,pU x17.1.Lo]) rfl rfl rfl rfl rfl (bx bB) nC (ar (aq ?_)))))
     obtain rfl:=osi hq13
     exact am ((),(x17.1.Hi,x17.1.Lo)) (mv rfl) sM rfl
    refine ae ?_
    refine aq ?_
    obtain rfl:=osi hq13
    exact am ((),(x14.1.Hi,x14.1.Lo)) (mv rfl) sM rfl
   rintro ⟨_,⟨v11,v12⟩⟩ τ hz;(try dsimp only at hz);subst q13;(try dsimp only at hb8);dsimp only [aK]
   refine an [10,11] [(6,pI (IntKind.i64.wrap (v3 - 1)))] (by kernel_rfl) ?_
   exact bt hb8 () (mv rfl) sM
  refine bc ?_
  refine aP (aJ hb8 (fun ht=>aM rfl ?_))
  exact am ((),(v4,v5)) (eN rfl) sM ht.symm
 rintro ⟨_,⟨v6,v7⟩⟩ τ hz;(try dsimp only at hz);subst q9;(try dsimp only at h);dsimp only [aK]
 refine ah (aj (dY 1 [1] [(30,.agg [pU v6,pU v7])] (by kernel_rfl) (aH rfl rfl (ag (vs:=[pU v6,pU v7]) rfl rfl rfl rfl rfl bB nC (ar (dC ?_))))))
 obtain rfl:=osi h
 exact aI (fM (cg rfl dt rfl)) bZ ⟨rfl,rfl⟩
def js (p0:Int) (p1:(List Int)):Option ((List Int)×Int):=cond (decide (1000<(p1.length:Int))) (some ([],(8:Int))) ((bu (S:=Bool×Int) (T:=(Bool)) (fun (v2,v3)=>cond (decide (v3<(p1.length:Int))) ((gd (!v2) (idx p1 v3)).bind fun m8=>(gd (!(v2||(decide (m8<0)))) (idx p1 v3)).bind fun m9=>some (.inl (((v2||(decide (m8<0)))||(decide (1000000000000<m9))),(IntKind.i64.wrap (v3+1))))) (some (.inr v2))) FUEL (((decide (p0<0))||(decide (1000000000000<p0))),0)).bind fun v4=>cond v4 (some ([],(2:Int))) (cond (((p1.length:Int) == 0)&&(decide (0<p0))) (some ([],(7:Int))) ((bu (S:=Int×Int) (T:=(Int)) (fun (v12,v13)=>cond (decide (v13<(p1.length:Int))) ((idx p1 v13).bind fun m18=>some (.inl ((IntKind.i64.wrap (v12+m18)),(IntKind.i64.wrap (v13+1))))) (some (.inr v12))) FUEL (0,0)).bind fun v14=>(mk 8 (0:Int) (p1.length:Int)).bind fun l19=>(mk 8 (0:Int) (p1.length:Int)).bind fun l22=>(bu (S:=(List Int)×(List Int)×Int×Int) (T:=((List Int)×(List Int)×Int)) (fun (l26,l28,v29,v30)=>cond (decide (v30<(p1.length:Int))) ((idx p1 v30).bind fun m39=>Option.bind (cond (v14 == 0) (some (1,(p1.length:Int))) (some (m39,v14))) (fun (v42,v43)=>(iH (IntKind.u64.wrap p0) (IntKind.u64.wrap v42)).bind fun x46=>(gF x46 (IntKind.u64.wrap v43)).bind fun x47=>(idx l26 v30).bind fun m49=>(idx l28 v30).bind fun m51=>(idx (l26.set v30.toNat (IntKind.i64.wrap x47.1.Lo)) v30).bind fun m53=>some (.inl ((l26.set v30.toNat (IntKind.i64.wrap x47.1.Lo)),(l28.set v30.toNat (IntKind.i64.wrap x47.2)),(IntKind.i64.wrap (v29 - m53)),(IntKind.i64.wrap (v30+1)))))) (some (.inr (l26,l28,v29)))) FUEL (l19,l22,p0,0)).bind fun (l32,l34,v35)=>(bu (S:=(List Int)×(List Int)×Int) (T:=((List Int))) (fun (l55,l57,v58)=>cond (decide (0<v58)) ((bu (S:=Int×Int) (T:=(Int)) (fun (v64,v65)=>cond (decide (v65<((l22.length:Nat):Int))) (((idx l57 v65).bind fun m76=>(idx l57 v64).bind fun m77=>cond (decide (m77<m76)) (some v65) (some v64)).bind fun v74=>some (.inl (v74,(IntKind.i64.wrap (v65+1))))) (some (.inr v64))) FUEL (0,1)).bind fun v68=>(idx l55 v68).bind fun m79=>(idx l55 v68).bind fun m80=>(idx l57 v68).bind fun m82=>some (.inl ((l55.set v68.toNat (IntKind.i64.wrap (m79+1))),(l57.set v68.toNat (-1)),(IntKind.i64.wrap (v58 - 1))))) (some (.inr l55))) FUEL (l32,l34,v35)).bind fun l60=>some (l60,(0:Int)))))
theorem ug {p0:Int} {p1:(List Int)} {r:((List Int)×Int)}  (h:js p0 p1=some r):PF 28 [pI p0,pL eI p1] (.tup [pL eI r.1,pI r.2]):=by
 unfold js at h
 refine bo ?_
 refine dZ Tryz.func28 rfl Tryz.ntmps28 Tryz.results28 rfl (bh [4,5] (by kernel_rfl) (cQ (bU [20,21] [(22,pB (decide (1000<(p1.length:Int))))] (by kernel_rfl) rfl h (fun hc1 h=>?_) fun hc1 h=>?_)))
 ·refine ah ?_
  refine ap [(4,pN),(5,pI 8)] (by kernel_rfl) (aW (qe 4 rfl (cd (aO ?_))))
  obtain rfl:=osi h
  exact aI (bD (aD rfl) (aD rfl)) bZ ⟨rfl,rfl⟩
 refine ae ?_
 refine cw (an (rg 23 6) [(6,pB ((decide (p0<0))||(decide (1000000000000<p0)))),(7,pI 0)] (by kernel_rfl) (cQ (ap [(8,pI 0)] (by kernel_rfl) (ga h fun q6 hq6 h=>?_))))
 refine av (Y:=Unit×Bool) (fun (_,v4)=>[(0,pI p0),(1,pL eI p1),(6,pB v4),(7,pI 0)]) (fun (_,v4)=>[]) (fun (_,v4)=>q6=v4) ?_ ?_
 ·refine aR ?_
  refine aZ (Y:=Unit) (S:=Bool×Int) _ hq6 (fun _ (v2,v3)=>[(0,pI p0),(1,pL eI p1),(6,pB v2),(7,pI 0),(8,pI v3)]) (fun _ (v2,v3)=>[]) () (mv rfl) bZ ?_
  rintro _ ⟨v2,v3⟩ o τ hb5;(try dsimp only at hb5);dsimp only [aK]
  refine gh (bU [29,30,31] [(32,pB (decide (v3<(p1.length:Int))))] (by kernel_rfl) rfl hb5 (fun hc7 hb5=>?_) fun hc7 hb5=>?_)
  ·refine ae ?_
   refine cw (aR (aa hb5 fun m8 hm8 hb5=>aa hb5 fun m9 hm9 hb5=>aB [] (rg 35 15) [(6,pB ((v2||(decide (m8<0)))||(decide (1000000000000<m9))))] (jW 4 eI (cY hm8) (jW 11 eI (cY hm9) bL)) (by kernel_rfl) (aq (aW (an [33,34] [(8,pI (IntKind.i64.wrap (v3+1)))] (by kernel_rfl) ?_)))))
   exact bt hb5 () (mv rfl) bZ
  refine bc ?_
  refine aP (aJ hb5 (fun ht=>aM rfl ?_))
  exact am ((),v2) (iP rfl) bZ ht.symm
 rintro ⟨_,v4⟩ τ hz;(try dsimp only at hz);subst q6;(try dsimp only at h);dsimp only [aK]
 refine gh (ap [(50,pB v4)] (by kernel_rfl) (dW rfl h (fun hc10 h=>?_) fun hc10 h=>?_))
 ·refine ah ?_
  refine ap [(4,pN),(5,pI 2)] (by kernel_rfl) (aW (qe 4 rfl (cd (aO ?_))))
  obtain rfl:=osi h
  exact aI (bD (aD rfl) (aD rfl)) bZ ⟨rfl,rfl⟩
 refine ae ?_
 refine cQ (bU (rg 51 6) [(57,pB (((p1.length:Int) == 0)&&(decide (0<p0))))] (by kernel_rfl) rfl h (fun hc11 h=>?_) fun hc11 h=>?_)
 ·refine ah ?_
  refine ap [(4,pN),(5,pI 7)] (by kernel_rfl) (aW (qe 4 rfl (cd (aO ?_))))
  obtain rfl:=osi h
  exact aI (bD (aD rfl) (aD rfl)) bZ ⟨rfl,rfl⟩
 refine ae ?_
 refine cQ (ap [(9,pI 0)] (by kernel_rfl) (ga h fun q16 hq16 h=>?_))
 refine av (Y:=Unit×Int) (fun (_,v14)=>[(0,pI p0),(1,pL eI p1),(7,pI v14)]) (fun (_,v14)=>[]) (fun (_,v14)=>q16=v14) ?_ ?_
 ·refine aR ?_
  refine aZ (Y:=Unit) (S:=Int×Int) _ hq16 (fun _ (v12,v13)=>[(0,pI p0),(1,pL eI p1),(7,pI v12),(9,pI v13)]) (fun _ (v12,v13)=>[]) () (iP rfl) bZ ?_
  rintro _ ⟨v12,v13⟩ o τ hb15;(try dsimp only at hb15);dsimp only [aK]
  refine gh (bU [58,59,60] [(61,pB (decide (v13<(p1.length:Int))))] (by kernel_rfl) rfl hb15 (fun hc17 hb15=>?_) fun hc17 hb15=>?_)
  ·refine ae ?_
   refine cw (aR (aa hb15 fun m18 hm18 hb15=>aB [] (rg 64 6) [(7,pI (IntKind.i64.wrap (v12+m18)))] (fC 3 eI hm18 bL) (by kernel_rfl) (aq (aW (an [62,63] [(9,pI (IntKind.i64.wrap (v13+1)))] (by kernel_rfl) ?_)))))
   exact bt hb15 () (iP rfl) bZ
  refine bc ?_
  refine aP (aJ hb15 (fun ht=>aM rfl ?_))
  exact am ((),v12) (kH rfl) bZ ht.symm
 rintro ⟨_,v14⟩ τ hz;(try dsimp only at hz);subst q16;(try dsimp only at h);dsimp only [aK]
 refine ah (aa h fun l19 hl19 h=>aa h fun l22 hl22 h=>?_)
 refine av (Y:=Nat×Nat) (fun (b20,b23)=>[(0,pI p0),(1,pL eI p1),(7,pI v14),(10,pO (some ⟨b20,0,none⟩) l19.length l19.length),(11,pO (some ⟨b23,0,none⟩) l22.length l22.length),(12,pI p0)]) (fun (b20,b23)=>[PRes.row (some ⟨b20,0,none⟩) l19.length l19.length 3 1 (List.map eI l19),PRes.row (some ⟨b23,0,none⟩) l22.length l22.length 3 1 (List.map eI l22)]) (fun _=>True) ?_ ?_
 ·refine hU (ρd:=[]) _ (List.Perm.refl _) ?_
  refine az 0 (by kernel_rfl) rfl rfl rfl rfl (cM (p:=pL eI p1) rfl (.p rfl)) (az 1 (by kernel_rfl) rfl rfl rfl rfl (Az (enc:=eI) rfl rfl (.p rfl)) (az 3 (by kernel_rfl) rfl rfl rfl rfl (cM (p:=pL eI p1) rfl (.p rfl)) (az 4 (by kernel_rfl) rfl rfl rfl rfl (Az (enc:=eI) rfl rfl (.p rfl)) (az 6 (by kernel_rfl) rfl rfl rfl rfl (cM (p:=pI p0) rfl (.p rfl)) ?_))))
  refine bA 2 5 (by kernel_rfl) ?_ ?_
  ·skip
   refine af rfl rfl rfl rfl (oE (enc:=eI) rfl rfl rfl rfl rfl rfl rfl rfl rfl hl19 (fun b20=>az 7 (by kernel_rfl) rfl rfl rfl rfl (be (p:=pO (some ⟨b20,0,none⟩) l19.length l19.length) rfl (.p rfl)) (ai 5 (by kernel_rfl) (af rfl rfl rfl rfl (oE (enc:=eI) rfl rfl rfl rfl rfl rfl rfl rfl rfl hl22 (fun b23=>az 8 (by kernel_rfl) rfl rfl rfl rfl (be (p:=pO (some ⟨b23,0,none⟩) l22.length l22.length) rfl (.p rfl)) (az 9 (by kernel_rfl) rfl rfl rfl rfl (be (p:=pI p0) rfl (.p rfl)) (aT (by kernel_rfl) ?_))))))))
   exact am (b20,b23) (tL rfl) (bq (aC aN) cq) trivial
  skip
  refine af rfl rfl rfl rfl (oE (enc:=eI) rfl rfl rfl rfl rfl rfl rfl rfl rfl hl22 (fun b23=>ai 2 (by kernel_rfl) (af rfl rfl rfl rfl (oE (enc:=eI) rfl rfl rfl rfl rfl rfl rfl rfl rfl hl19 (fun b20=>az 7 (by kernel_rfl) rfl rfl rfl rfl (be (p:=pO (some ⟨b20,0,none⟩) l19.length l19.length) rfl (.p rfl)) (az 8 (by kernel_rfl) rfl rfl rfl rfl (be (p:=pO (some ⟨b23,0,none⟩) l22.length l22.length) rfl (.p rfl)) (az 9 (by kernel_rfl) rfl rfl rfl rfl (be (p:=pI p0) rfl (.p rfl)) (aT (by kernel_rfl) ?_))))))))
  exact am (b20,b23) (tL rfl) sM trivial
 rintro ⟨b20,b23⟩ τ _;dsimp only [aK]
 refine gh (ap [(13,pI 0)] (by kernel_rfl) (ga h fun q37 hq37 h=>?_))
 refine av (Y:=Unit×((List Int)×(List Int)×Int)) (fun (_,(l32,l34,v35))=>[(10,pO (some ⟨b20,0,none⟩) l19.length l19.length),(11,pO (some ⟨b23,0,none⟩) l22.length l22.length),(12,pI v35)]) (fun (_,(l32,l34,v35))=>[PRes.row (some ⟨b20,0,none⟩) l19.length l19.length 3 1 (List.map eI l32),PRes.row (some ⟨b23,0,none⟩) l22.length l22.length 3 1 (List.map eI l34)]) (fun (_,(l32,l34,v35))=>q37=(l32,l34,v35)) ?_ ?_
 ·refine aR ?_
  refine aZ (Y:=Unit) (S:=(List Int)×(List Int)×Int×Int) _ hq37 (fun _ (l26,l28,v29,v30)=>[(0,pI p0),(1,pL eI p1),(7,pI v14),(10,pO (some ⟨b20,0,none⟩) l19.length l19.length),(11,pO (some ⟨b23,0,none⟩) l22.length l22.length),(12,pI v29),(13,pI v30)]) (fun _ (l26,l28,v29,v30)=>[PRes.row (some ⟨b20,0,none⟩) l19.length l19.length 3 1 (List.map eI l26),PRes.row (some ⟨b23,0,none⟩) l22.length l22.length 3 1 (List.map eI l28)]) () (tM rfl) sM ?_
  rintro _ ⟨l26,l28,v29,v30⟩ o τ hb36;(try dsimp only at hb36);dsimp only [aK]
  refine gh (bU [77,78,79] [(80,pB (decide (v30<(p1.length:Int))))] (by kernel_rfl) rfl hb36 (fun hc38 hb36=>?_) fun hc38 hb36=>?_)
  ·refine ae ?_
   refine cw (jX (aa hb36 fun m39 hm39 hb36=>aB [] (rg 83 5) [(14,pI m39),(15,pI v14)] (fC 2 eI hm39 bL) (by kernel_rfl) (cQ (an [88] [(89,pB (v14 == 0))] (by kernel_rfl) (ga hb36 fun q44 hq44 hb36=>?_)))))
   refine av (Y:=Unit×(Int×Int)) (fun (_,(v42,v43))=>[(0,pI p0),(1,pL eI p1),(7,pI v14),(10,pO (some ⟨b20,0,none⟩) l19.length l19.length),(11,pO (some ⟨b23,0,none⟩) l22.length l22.length),(12,pI v29),(13,pI v30),(14,pI v42),(15,pI v43)]) (fun (_,(v42,v43))=>[PRes.row (some ⟨b20,0,none⟩) l19.length l19.length 3 1 (List.map eI l26),PRes.row (some ⟨b23,0,none⟩) l22.length l22.length 3 1 (List.map eI l28)]) (fun (_,(v42,v43))=>q44=(v42,v43)) ?_ ?_
   ·skip
    refine kU rfl hq44 (fun hc45 hq44=>?_) fun hc45 hq44=>?_
    ·refine an [90,91] [(14,pI 1),(15,pI (p1.length:Int))] (by kernel_rfl) ?_
     obtain rfl:=osi hq44
     exact am ((),(1,(p1.length:Int))) (qi rfl) sM rfl
    refine ae ?_
    obtain rfl:=osi hq44
    exact am ((),(m39,v14)) (qi rfl) sM rfl
   rintro ⟨_,⟨v42,v43⟩⟩ τ hz;(try dsimp only at hz);subst q44;(try dsimp only at hb36);dsimp only [aK]
   refine ah (aa hb36 fun x46 hx46 hb36=>aa hb36 fun x47 hx47 hb36=>aj (bp 11 [] ((rg 93 8)++[92]) [(101,.agg [pU x47.1.Hi,pU x47.1.Lo]),(102,pU x47.2)] (bw 4 (nu hx46) (bw 7 (nE hx47) bL)) (by kernel_rfl) (aF rfl (aY (cs:=[pU 0,pU 0]) rfl rfl rfl rfl (fun b48=>aH rfl rfl (ag (vs:=[pU x47.1.Hi,pU x47.1.Lo]) rfl rfl rfl rfl rfl bB nC (aL [(17,pU x47.2)] (by kernel_rfl) (dV hb36 fun m49 hm49 hb36=>aj (cI 9 [0] [107,108,110] [(103,pO (some ⟨b20,0,none⟩) l19.length l19.length),(104,pI v30),(105,pO (some ⟨b23,0,none⟩) l22.length l22.length),(106,pI v30),(109,pI (IntKind.i64.wrap x47.1.Lo)),(111,pI (IntKind.i64.wrap x47.2))] (by kernel_rfl) (bM rfl rfl rfl (cm (enc:=eI) (xs:=l26) rfl rfl rfl (.p rfl) fR (.p rfl) (fun _=>hm49)) (aH rfl rfl (fk (enc:=eI) (xs:=l26) (a:=(some ⟨b20,0,none⟩)) v30 0 m49 (IntKind.i64.wrap x47.1.Lo) rfl rfl rfl rfl (fun _=>rfl) rfl rfl hm49 cN (bx bB) (aa hb36 fun m51 hm51 hb36=>bM rfl rfl rfl (cm (enc:=eI) (xs:=l28) rfl rfl rfl (.p rfl) kb (.p rfl) (fun _=>hm51)) (aH rfl rfl (fk (enc:=eI) (xs:=l28) (a:=(some ⟨b23,0,none⟩)) v30 0 m51 (IntKind.i64.wrap x47.2) rfl rfl rfl rfl (fun _=>rfl) rfl rfl hm51 cN (bx (bx bB)) (ar (ga hb36 fun m53 hm53 hb36=>cP 3 [(114,pI v29),(115,pO (some ⟨b20,0,none⟩) l19.length l19.length),(116,pI v30)] (by kernel_rfl) (bM rfl rfl rfl (cm (enc:=eI) (xs:=(l26.set v30.toNat (IntKind.i64.wrap x47.1.Lo))) rfl rfl rfl (.p rfl) fR (.p rfl) (fun _=>hm53)) (bM rfl rfl rfl (cn (sz:=1) (p:=pI m53) (enc:=eI) (xs:=(l26.set v30.toNat (IntKind.i64.wrap x47.1.Lo))) (a:=(some ⟨b20,0,none⟩)) v30 0 m53 rfl (.p rfl) rfl fR (fun _=>hm53) rfl) (lJ [119] [(12,pI (IntKind.i64.wrap (v29 - m53)))] (by kernel_rfl) (aq (aW (an [81,82] [(13,pI (IntKind.i64.wrap (v30+1)))] (by kernel_rfl) ?_)))))))))))))))))))))))
   exact bt hb36 () (tM rfl) (bq (aC aN) (bq (aC aN) bZ))
  refine bc ?_
  refine aP (aJ hb36 (fun ht=>aM rfl ?_))
  exact am ((),(l26,l28,v29)) (kH rfl) sM ht.symm
 rintro ⟨_,⟨l32,l34,v35⟩⟩ τ hz;(try dsimp only at hz);subst q37;(try dsimp only at h);dsimp only [aK]
 refine ah (aa h fun q62 hq62 h=>?_)
 refine av (Y:=Unit×((List Int))) (fun (_,l60)=>[(10,pO (some ⟨b20,0,none⟩) l19.length l19.length)]) (fun (_,l60)=>[PRes.row (some ⟨b20,0,none⟩) l19.length l19.length 3 1 (List.map eI l60)]) (fun (_,l60)=>q62=l60) ?_ ?_
 ·refine aR ?_
  refine aZ (Y:=Unit) (S:=(List Int)×(List Int)×Int) _ hq62 (fun _ (l55,l57,v58)=>[(10,pO (some ⟨b20,0,none⟩) l19.length l19.length),(11,pO (some ⟨b23,0,none⟩) l22.length l22.length),(12,pI v58)]) (fun _ (l55,l57,v58)=>[PRes.row (some ⟨b20,0,none⟩) l19.length l19.length 3 1 (List.map eI l55),PRes.row (some ⟨b23,0,none⟩) l22.length l22.length 3 1 (List.map eI l57)]) () (kH rfl) sM ?_
  rintro _ ⟨l55,l57,v58⟩ o τ hb61;(try dsimp only at hb61);dsimp only [aK]
  refine gh (bU [120] [(121,pB (decide (0<v58)))] (by kernel_rfl) rfl hb61 (fun hc63 hb61=>?_) fun hc63 hb61=>?_)
  ·refine ae ?_
   refine cw (jX (ap [(18,pI 0)] (by kernel_rfl) (cQ (ap [(19,pI 1)] (by kernel_rfl) (ga hb61 fun q70 hq70 hb61=>?_)))))
   refine av (Y:=Unit×Int) (fun (_,v68)=>[(10,pO (some ⟨b20,0,none⟩) l19.length l19.length),(11,pO (some ⟨b23,0,none⟩) l22.length l22.length),(12,pI v58),(18,pI v68)]) (fun (_,v68)=>[PRes.row (some ⟨b20,0,none⟩) l19.length l19.length 3 1 (List.map eI l55),PRes.row (some ⟨b23,0,none⟩) l22.length l22.length 3 1 (List.map eI l57)]) (fun (_,v68)=>q70=v68) ?_ ?_
   ·refine aR ?_
    refine aZ (Y:=Unit) (S:=Int×Int) _ hq70 (fun _ (v64,v65)=>[(10,pO (some ⟨b20,0,none⟩) l19.length l19.length),(11,pO (some ⟨b23,0,none⟩) l22.length l22.length),(12,pI v58),(18,pI v64),(19,pI v65)]) (fun _ (v64,v65)=>[PRes.row (some ⟨b20,0,none⟩) l19.length l19.length 3 1 (List.map eI l55),PRes.row (some ⟨b23,0,none⟩) l22.length l22.length 3 1 (List.map eI l57)]) () (mv rfl) sM ?_
    rintro _ ⟨v64,v65⟩ o τ hb69;(try dsimp only at hb69);dsimp only [aK]
    refine gh (bU [124,125,126] [(127,pB (decide (v65<((l22.length:Nat):Int))))] (by kernel_rfl) rfl hb69 (fun hc71 hb69=>?_) fun hc71 hb69=>?_)
    ·refine ae ?_
     refine dV hb69 fun q75 hq75 hb69=>?_
     refine av (Y:=Unit×Int) (fun (_,v74)=>[(10,pO (some ⟨b20,0,none⟩) l19.length l19.length),(11,pO (some ⟨b23,0,none⟩) l22.length l22.length),(12,pI v58),(18,pI v74),(19,pI v65)]) (fun (_,v74)=>[PRes.row (some ⟨b20,0,none⟩) l19.length l19.length 3 1 (List.map eI l55),PRes.row (some ⟨b23,0,none⟩) l22.length l22.length 3 1 (List.map eI l57)]) (fun (_,v74)=>q75=v74) ?_ ?_
     ·skip
      refine jX (bN (ρd:=[]) [(0,0),(1,0),(2,0),(3,0),(4,0),(5,0),(6,0),(7,0),(8,0)] _ (List.Perm.refl _) (by kernel_rfl) rfl (aa hq75 fun m76 hm76 hq75=>jJ 2 [(130,pO (some ⟨b23,0,none⟩) l22.length l22.length),(131,pI v65)] (by kernel_rfl) (rV rfl rfl rfl (cm (enc:=eI) (xs:=l57) rfl rfl rfl (.p rfl) fR (.p rfl) (fun _=>hm76)) (rV rfl rfl rfl (cn (sz:=1) (p:=pI m76) (enc:=eI) (xs:=l57) (a:=(some ⟨b23,0,none⟩)) v65 0 m76 rfl (.p rfl) rfl fR (fun _=>hm76) rfl) (aa hq75 fun m77 hm77 hq75=>jJ 2 [(134,pO (some ⟨b23,0,none⟩) l22.length l22.length),(135,pI v64)] (by kernel_rfl) (rV rfl rfl rfl (cm (enc:=eI) (xs:=l57) rfl rfl rfl (.p rfl) fR (.p rfl) (fun _=>hm77)) (rV rfl rfl rfl (cn (sz:=1) (p:=pI m77) (enc:=eI) (xs:=l57) (a:=(some ⟨b23,0,none⟩)) v64 0 m77 rfl (.p rfl) rfl fR (fun _=>hm77) rfl) (jJ 1 [(138,pB (decide (m77<m76)))] (by kernel_rfl) (cC (dW rfl hq75 (fun hc78 hq75=>?_) fun hc78 hq75=>?_))))))))))
      ·refine an [139] [(18,pI v65)] (by kernel_rfl) ?_
       refine aq ?_
       obtain rfl:=osi hq75
       exact am ((),v65) (mv rfl) sM rfl
      refine ae ?_
      refine aq ?_
      obtain rfl:=osi hq75
      exact am ((),v64) (mv rfl) sM rfl
     rintro ⟨_,v74⟩ τ hz;(try dsimp only at hz);subst q75;(try dsimp only at hb69);dsimp only [aK]
     refine an [128,129] [(19,pI (IntKind.i64.wrap (v65+1)))] (by kernel_rfl) ?_
     exact bt hb69 () (mv rfl) sM
    refine bc ?_
    refine aP (aJ hb69 (fun ht=>aM rfl ?_))
    exact am ((),v64) (iP rfl) sM ht.symm
   rintro ⟨_,v68⟩ τ hz;(try dsimp only at hz);subst q70;(try dsimp only at hb61);dsimp only [aK]
   refine ah (aa hb61 fun m79 hm79 hb61=>cP 2 [(140,pO (some ⟨b20,0,none⟩) l19.length l19.length),(141,pI v68)] (by kernel_rfl) (bM rfl rfl rfl (cm (enc:=eI) (xs:=l55) rfl rfl rfl (.p rfl) dt (.p rfl) (fun _=>hm79)) (bM rfl rfl rfl (cn (sz:=1) (p:=pI m79) (enc:=eI) (xs:=l55) (a:=(some ⟨b20,0,none⟩)) v68 0 m79 rfl (.p rfl) rfl dt (fun _=>hm79) rfl) (aa hb61 fun m80 hm80 hb61=>bE 1 [(144,pI (IntKind.i64.wrap (m79+1)))] (by kernel_rfl) (bM rfl rfl rfl (cm (enc:=eI) (xs:=l55) rfl rfl rfl (.p rfl) dt (.p rfl) (fun _=>hm80)) (aH rfl rfl (fk (enc:=eI) (xs:=l55) (a:=(some ⟨b20,0,none⟩)) v68 0 m80 (IntKind.i64.wrap (m79+1)) rfl rfl rfl rfl (fun _=>rfl) rfl rfl hm80 cN bB (ar (ga hb61 fun m82 hm82 hb61=>cP 2 [(146,pO (some ⟨b23,0,none⟩) l22.length l22.length),(147,pI v68)] (by kernel_rfl) (bM rfl rfl rfl (cm (enc:=eI) (xs:=l57) rfl rfl rfl (.p rfl) fR (.p rfl) (fun _=>hm82)) (aH rfl rfl (fk (enc:=eI) (xs:=l57) (a:=(some ⟨b23,0,none⟩)) v68 0 m82 (-1) rfl rfl rfl rfl (fun _=>rfl) rfl rfl hm82 cN (bx bB) (ar (aq (aW (an [122,123] [(12,pI (IntKind.i64.wrap (v58 - 1)))] (by kernel_rfl) ?_))))))))))))))))
   exact bt hb61 () (kH rfl) sM
  refine bc ?_
  refine aP (aJ hb61 (fun ht=>aM rfl ?_))
  exact am ((),l55) (nG rfl) cq ht.symm
 rintro ⟨_,l60⟩ τ hz;(try dsimp only at hz);subst q62;(try dsimp only at h);dsimp only [aK]
 refine ah (an [149] [(4,pO (some ⟨b20,0,none⟩) l19.length l19.length),(5,pI 0)] (by kernel_rfl) (aW ?_))
 refine ij (enc:=eI) (xs:=l60) 4 rfl (by exact aN) ?_
 refine cd ?_
 obtain rfl:=osi h
 exact aI (bD (aD rfl) (aD rfl)) bZ ⟨rfl,rfl⟩
def kB (p0:Zb) (p1:Int):Option Bool:=some (((decide (p0.From≤p1))&&(decide (p1<p0.To)))||(((decide (0≤p0.Registered))&&(decide (p0.Registered≤p1)))&&(decide (p1<p0.From))))
theorem ru {p0:Zb} {p1:Int} {r:Bool}  (h:kB p0 p1=some r):PF 99 [.agg (bk p0),pI p1] (pB r):=by
 unfold kB at h
 refine bo ?_
 refine dZ Tryz.func99 rfl Tryz.ntmps99 Tryz.results99 rfl (dj rfl (bC (cs:=(bk p0)) rfl rfl (fun b1=>br [4] (by kernel_rfl) (cw (aV [0,0,0,0,0] (rg 5 27) [(4,pB (((decide (p0.From≤p1))&&(decide (p1<p0.To)))||(((decide (0≤p0.Registered))&&(decide (p0.Registered≤p1)))&&(decide (p1<p0.From)))))] (by kernel_rfl) (dC ?_))))))
 exact zz r h rfl
def iI (p0:ByteArray) (p1:ByteArray):Option Bool:=(gd (decide ((p1.size:Int)≤(p0.size:Int))) (nq p0 0 (p1.size:Int))).bind fun s1=>some ((decide ((p1.size:Int)≤(p0.size:Int)))&&(decide (s1=p1)))
theorem sw {p0:ByteArray} {p1:ByteArray} {r:Bool}  (h:iI p0 p1=some r):PF 100 [pS p0,pS p1] (pB r):=by
 unfold iI at h
 refine bo ?_
 refine dZ Tryz.func100 rfl Tryz.ntmps100 Tryz.results100 rfl (bh [4] (by kernel_rfl) (dV h fun s1 hs1 h=>aB [] (rg 5 13) [(4,pB ((decide ((p1.size:Int)≤(p0.size:Int)))&&(decide (s1=p1))))] (fossg 9 (cY hs1) bL) (by kernel_rfl) (dC ?_)))
 exact zz r h rfl
def mW (p0:(List ByteArray)) (p1:ByteArray):Option Bool:=(bu (S:=Int) (T:=(Unit)⊕(_)) (fun v1=>cond (decide (v1<(p0.length:Int))) ((idx p0 v1).bind fun m5=>cond (decide (m5=p1)) (some (.inr (.inr true))) (some (.inl (IntKind.i64.wrap (v1+1))))) (some (.inr (.inl ())))) FUEL 0).bind fun q=>match q with | .inl _=>some false | .inr e=>some e
theorem wT {p0:(List ByteArray)} {p1:ByteArray} {r:Bool}  (h:mW p0 p1=some r):PF 101 [pL eS p0,pS p1] (pB r):=by
 unfold mW at h
 refine bo ?_
 refine dZ Tryz.func101 rfl Tryz.ntmps101 Tryz.results101 rfl (bh [4] (by kernel_rfl) (cQ (ap [(5,pI 0)] (by kernel_rfl) (ga h fun q3 hq3 h=>?_))))
 refine av (Y:=Unit×Unit) (fun (_,_)=>[]) (fun (_,_)=>[]) (fun (_,_)=>q3=Sum.inl ()) ?_ ?_
 ·refine aR ?_
  refine aZ (Y:=Unit) (S:=Int) _ hq3 (fun _ v1=>[(0,pL eS p0),(1,pS p1),(5,pI v1)]) (fun _ v1=>[]) () (kH rfl) bZ ?_
  rintro _ v1 o τ hb2;(try dsimp only at hb2);dsimp only [aK]
  refine gh (bU [6,7,8] [(9,pB (decide (v1<(p0.length:Int))))] (by kernel_rfl) rfl hb2 (fun hc4 hb2=>?_) fun hc4 hb2=>?_)
  ·refine ae ?_
   refine cw (jX (aa hb2 fun m5 hm5 hb2=>aB [] (rg 12 5) [(17,pB (decide (m5=p1)))] (fC 2 eS hm5 bL) (by kernel_rfl) (dW rfl hb2 (fun hc6 hb2=>?_) fun hc6 hb2=>?_)))
   ·refine ah ?_
    refine ap [(4,pB true)] (by kernel_rfl) (dC (au (aO ?_)))
    refine bH hb2 (fun ht=>?_);subst ht
    refine au (bz ?_)
    exact zz r h rfl
   refine ae ?_
   refine aq (aW (an [10,11] [(5,pI (IntKind.i64.wrap (v1+1)))] (by kernel_rfl) ?_))
   exact bt hb2 () (kH rfl) bZ
  refine bc ?_
  refine aP (aJ hb2 (fun ht=>aM rfl ?_))
  exact am ((),()) sL bZ ht.symm
 rintro ⟨_,_⟩ τ hz;(try dsimp only at hz);subst q3;(try dsimp only at h);dsimp only [aK]
 refine ah (ap [(4,pB false)] (by kernel_rfl) (dC ?_))
 exact zz r h rfl
def gG (p0:Zb) (p1:ByteArray) (p2:ByteArray) (p3:Int) (p4:Int):Option Bool:=(kB p0 p4).bind fun x2=>(gd x2 (iI p1 p0.Prefix)).bind fun x3=>(gd ((x2&&x3)&&(!((p0.Origins.length:Int) == 0))) (mW p0.Origins p2)).bind fun x4=>some (((x2&&x3)&&(((p0.Origins.length:Int) == 0)||x4))&&((p0.Company == 0)||(p0.Company == p3)))
theorem sy {p0:Zb} {p1:ByteArray} {p2:ByteArray} {p3:Int} {p4:Int} {r:Bool}  (h:gG p0 p1 p2 p3 p4=some r):PF 63 [.agg (bk p0),pS p1,pS p2,pI p3,pI p4] (pB r):=by
 unfold gG at h
 refine bo ?_
 refine dZ Tryz.func63 rfl Tryz.ntmps63 Tryz.results63 rfl (dj rfl (bC (cs:=(bk p0)) rfl rfl (fun b1=>br [10] (by kernel_rfl) (dV h fun x2 hx2 h=>aa h fun x3 hx3 h=>aa h fun x4 hx4 h=>aB [0,0,0,0,0,0] (rg 11 32) [(10,pB (((x2&&x3)&&(((p0.Origins.length:Int) == 0)||x4))&&((p0.Company == 0)||(p0.Company == p3))))] (bw 2 (ru hx2) (eU 7 (fun hc=>sw (cY hx3 hc)) (eU 18 (fun hc=>wT (cY hx4 hc)) bL))) (by kernel_rfl) (dC ?_)))))
 exact zz r h rfl
def fW (p0:Zb):Option Int:=Option.bind (cond (decide (0<(p0.Origins.length:Int))) (some (p0.Origins.length:Int)) (some 21)) (fun v2=>Option.bind (cond (p0.Company != 0) (some 1) (some 0)) (fun v5=>lb ((IntKind.i64.wrap ((IntKind.i64.wrap ((IntKind.i64.wrap ((IntKind.i64.wrap ((IntKind.i64.wrap ((IntKind.i64.wrap ((IntKind.i64.wrap ((p0.Prefix.size:Int)*2))+v5))*100))+50)) - v2))*10000000))+p0.ID))) (fun w8=>some w8)))
theorem o9 {p0:Zb} {r:Int}  (h:fW p0=some r):PF 64 [.agg (bk p0)] (pI r):=by
 unfold fW at h
 refine bo ?_
 refine dZ Tryz.func64 rfl Tryz.ntmps64 Tryz.results64 rfl (dj rfl (bC (cs:=(bk p0)) rfl rfl (fun b1=>br [2] (by kernel_rfl) (cw (ap [(3,pI 21)] (by kernel_rfl) (cQ (aV [0] [5,6,7] [(8,pB (decide (0<(p0.Origins.length:Int))))] (by kernel_rfl) (ga h fun q3 hq3 h=>?_))))))))
 refine av (Y:=Unit×Int) (fun (_,v2)=>[(1,pP b1 0),(3,pI v2)]) (fun (_,v2)=>[PRes.b b1 68 (bk p0)]) (fun (_,v2)=>q3=v2) ?_ ?_
 ·skip
  refine kU rfl hq3 (fun hc4 hq3=>?_) fun hc4 hq3=>?_
  ·refine aV [0] [9,10,11] [(3,pI (p0.Origins.length:Int))] (by kernel_rfl) ?_
   obtain rfl:=osi hq3
   exact am ((),(p0.Origins.length:Int)) (eN rfl) cq rfl
  refine ae ?_
  obtain rfl:=osi hq3
  exact am ((),21) (eN rfl) cq rfl
 rintro ⟨_,v2⟩ τ hz;(try dsimp only at hz);subst q3;(try dsimp only at h);dsimp only [aK]
 refine ah (ap [(4,pI 0)] (by kernel_rfl) (cQ (aV [0] [12,13] [(14,pB (p0.Company != 0))] (by kernel_rfl) (ga h fun q6 hq6 h=>?_))))
 refine av (Y:=Unit×Int) (fun (_,v5)=>[(1,pP b1 0),(3,pI v2),(4,pI v5)]) (fun (_,v5)=>[PRes.b b1 68 (bk p0)]) (fun (_,v5)=>q6=v5) ?_ ?_
 ·skip
  refine kU rfl hq6 (fun hc7 hq6=>?_) fun hc7 hq6=>?_
  ·refine ap [(4,pI 1)] (by kernel_rfl) ?_
   obtain rfl:=osi hq6
   exact am ((),1) (kH rfl) cq rfl
  refine ae ?_
  obtain rfl:=osi hq6
  exact am ((),0) (kH rfl) cq rfl
 rintro ⟨_,v5⟩ τ hz;(try dsimp only at hz);subst q6;(try dsimp only at h);dsimp only [aK]
 refine ah ?_
 refine dr h ?_;clear h;intro w8 hw8 h
 refine aj (cI 14 [0,0] (rg 15 13) [(28,pI (IntKind.i64.wrap ((IntKind.i64.wrap ((IntKind.i64.wrap ((IntKind.i64.wrap ((IntKind.i64.wrap ((IntKind.i64.wrap ((IntKind.i64.wrap ((p0.Prefix.size:Int)*2))+v5))*100))+50)) - v2))*10000000))+p0.ID)))] (by kernel_rfl) (bM rfl rfl rfl (be rfl (.p (congrArg (fun z=>PV.v (Value.int .i64 z)) hw8))) (ar (dC ?_))))
 exact zz r h rfl
def iY (p0:(List Zb)) (p1:Int) (p2:ByteArray) (p3:ByteArray) (p4:Int) (p5:Int):Option (Zb×Bool):=(bu (S:=Int×Int) (T:=(Int)) (fun (v2,v3)=>cond (decide (v3<(p0.length:Int))) (((idx p0 v3).bind fun m10=>(gd (m10.Kind == p1) (idx p0 v3)).bind fun m11=>(gd (m10.Kind == p1) (gG m11 p2 p3 p4 p5)).bind fun x12=>(gd (((m10.Kind == p1)&&x12)&&(!(decide (v2<0)))) (idx p0 v3)).bind fun m13=>(gd (((m10.Kind == p1)&&x12)&&(!(decide (v2<0)))) (idx p0 v2)).bind fun m14=>(gd (((m10.Kind == p1)&&x12)&&(!(decide (v2<0)))) (fW m13)).bind fun x15=>(gd (((m10.Kind == p1)&&x12)&&(!(decide (v2<0)))) (fW m14)).bind fun x16=>cond (((m10.Kind == p1)&&x12)&&((decide (v2<0))||(decide (x16<x15)))) (some v3) (some v2)).bind fun v8=>some (.inl (v8,(IntKind.i64.wrap (v3+1))))) (some (.inr v2))) FUEL ((-1),0)).bind fun v4=>cond (decide (v4<0)) (some ((⟨0,0,ByteArray.empty,[],0,0,0,0,(⟨0,0,0,false,0,false,0⟩:Zm)⟩:Zb),false)) ((idx p0 v4).bind fun m19=>some (m19,true))
theorem od {p0:(List Zb)} {p1:Int} {p2:ByteArray} {p3:ByteArray} {p4:Int} {p5:Int} {r:(Zb×Bool)}  (h:iY p0 p1 p2 p3 p4 p5=some r):PF 29 [pL Zb.enc p0,pI p1,pS p2,pS p3,pI p4,pI p5] (.tup [.agg (bk r.1),pB r.2]):=by
 unfold iY at h
 refine bo ?_
 refine dZ Tryz.func29 rfl Tryz.ntmps29 Tryz.results29 rfl (dj rfl (aY (cs:=[pI 0,pI 0,pS ByteArray.empty,pN,pI 0,pI 0,pI 0,pI 0,pI 0,pI 0,pI 0,pB false,pI 0,pB false,pI 0]) rfl rfl rfl rfl (fun b1=>br [13] (by kernel_rfl) (cw (ap [(14,pI (-1))] (by kernel_rfl) (cQ (ap [(15,pI 0)] (by kernel_rfl) (ga h fun q6 hq6 h=>?_))))))))
 refine av (Y:=Unit×Int) (fun (_,v4)=>[(0,pL Zb.enc p0),(12,pP b1 0),(14,pI v4)]) (fun (_,v4)=>[PRes.b b1 68 [pI 0,pI 0,pS ByteArray.empty,pN,pI 0,pI 0,pI 0,pI 0,pI 0,pI 0,pI 0,pB false,pI 0,pB false,pI 0]]) (fun (_,v4)=>q6=v4) ?_ ?_
 ·refine aR ?_
  refine aZ (Y:=Unit) (S:=Int×Int) _ hq6 (fun _ (v2,v3)=>[(0,pL Zb.enc p0),(1,pI p1),(2,pS p2),(3,pS p3),(4,pI p4),(5,pI p5),(12,pP b1 0),(14,pI v2),(15,pI v3)]) (fun _ (v2,v3)=>[PRes.b b1 68 [pI 0,pI 0,pS ByteArray.empty,pN,pI 0,pI 0,pI 0,pI 0,pI 0,pI 0,pI 0,pB false,pI 0,pB false,pI 0]]) () (qi rfl) cq ?_
  rintro _ ⟨v2,v3⟩ o τ hb5;(try dsimp only at hb5);dsimp only [aK]
  refine gh (bU [16,17,18] [(19,pB (decide (v3<(p0.length:Int))))] (by kernel_rfl) rfl hb5 (fun hc7 hb5=>?_) fun hc7 hb5=>?_)
  ·refine ae ?_
   refine dV hb5 fun q9 hq9 hb5=>?_
   refine av (Y:=Unit×Int) (fun (_,v8)=>[(0,pL Zb.enc p0),(1,pI p1),(2,pS p2),(3,pS p3),(4,pI p4),(5,pI p5),(12,pP b1 0),(14,pI v8),(15,pI v3)]) (fun (_,v8)=>[PRes.b b1 68 [pI 0,pI 0,pS ByteArray.empty,pN,pI 0,pI 0,pI 0,pI 0,pI 0,pI 0,pI 0,pB false,pI 0,pB false,pI 0]]) (fun (_,v8)=>q9=v8) ?_ ?_
   ·skip
    refine jX (bN (ρd:=[]) [(0,0),(1,0),(2,0),(3,0),(4,0),(5,0),(6,0),(7,0),(8,0),(9,0),(10,0),(11,0),(12,0),(13,0),(14,0),(15,0),(16,1),(17,0),(18,0),(19,0),(20,0),(21,0),(22,0),(23,0),(24,0),(25,0),(27,0),(28,0),(29,0),(30,0),(26,1),(31,1),(32,0),(33,0),(34,0)] _ (List.Perm.refl _) (by kernel_rfl) rfl (aa hq9 fun m10 hm10 hq9=>aa hq9 fun m11 hm11 hq9=>aa hq9 fun x12 hx12 hq9=>aa hq9 fun m13 hm13 hq9=>aa hq9 fun m14 hm14 hq9=>aa hq9 fun x15 hx15 hq9=>aa hq9 fun x16 hx16 hq9=>cr 35 [] ((rg 22 26)++[49,50,51,52,48,53,54,55]) [(56,pB (((m10.Kind == p1)&&x12)&&((decide (v2<0))||(decide (x16<x15)))))] (fC 2 Zb.enc hm10 (jW 10 Zb.enc (cY hm11) (eU 16 (fun hc=>sy (cY hx12 hc)) (jW 24 Zb.enc (cY hm13) (jW 28 Zb.enc (cY hm14) (eU 30 (fun hc=>o9 (cY hx15 hc)) (eU 31 (fun hc=>o9 (cY hx16 hc)) bL))))))) (by kernel_rfl) (cC (dW rfl hq9 (fun hc17 hq9=>?_) fun hc17 hq9=>?_))))
    ·refine an [57] [(14,pI v3)] (by kernel_rfl) ?_
     refine aq ?_
     obtain rfl:=osi hq9
     exact am ((),v3) (qi rfl) cq rfl
    refine ae ?_
    refine aq ?_
    obtain rfl:=osi hq9
    exact am ((),v2) (qi rfl) cq rfl
   rintro ⟨_,v8⟩ τ hz;(try dsimp only at hz);subst q9;(try dsimp only at hb5);dsimp only [aK]
   refine an [20,21] [(15,pI (IntKind.i64.wrap (v3+1)))] (by kernel_rfl) ?_
   exact bt hb5 () (qi rfl) cq
  refine bc ?_
  refine aP (aJ hb5 (fun ht=>aM rfl ?_))
  exact am ((),v2) (kH rfl) cq ht.symm
 rintro ⟨_,v4⟩ τ hz;(try dsimp only at hz);subst q6;(try dsimp only at h);dsimp only [aK]
 refine gh (bU [58] [(59,pB (decide (v4<0)))] (by kernel_rfl) rfl h (fun hc18 h=>?_) fun hc18 h=>?_)
 ·refine ah ?_
  refine cP 1 [(60,.agg [pI 0,pI 0,pS ByteArray.empty,pN,pI 0,pI 0,pI 0,pI 0,pI 0,pI 0,pI 0,pB false,pI 0,pB false,pI 0])] (by kernel_rfl) (aH rfl rfl (ag (vs:=[pI 0,pI 0,pS ByteArray.empty,pN,pI 0,pI 0,pI 0,pI 0,pI 0,pI 0,pI 0,pB false,pI 0,pB false,pI 0]) rfl rfl rfl rfl rfl bB (eH (eH (eH (eH (eH (eH C6)))))) (aL [(13,pB false)] (by kernel_rfl) (aW (di (k:=3) (b:=b1) rfl bB (cd (aO ?_)))))))
  obtain rfl:=osi h
  exact aI (bD (cg rfl dt rfl) (aD rfl)) bZ ⟨rfl,rfl⟩
 refine ae ?_
 refine dV h fun m19 hm19 h=>aj (bp 4 [] [61,62,63] [(64,.agg (bk m19))] (fC 2 Zb.enc hm19 bL) (by kernel_rfl) (aH rfl rfl (ag (vs:=(bk m19)) rfl rfl rfl rfl rfl bB (eH (eH (eH (eH (eH (eH C6)))))) (aL [(13,pB true)] (by kernel_rfl) (dC ?_)))))
 obtain rfl:=osi h
 exact aI (bD (cg rfl dt rfl) (aD rfl)) bZ ⟨rfl,rfl⟩
def eZ (p0:Int) (p1:Int) (p2:Int):Option Zf:=(iH (IntKind.u64.wrap ((IntKind.u64.wrap p0)*(IntKind.u64.wrap p1))) (IntKind.u64.wrap p2)).bind fun x2=>some x2
theorem gX {p0:Int} {p1:Int} {p2:Int} {r:Zf}  (h:eZ p0 p1 p2=some r):PF 68 [pI p0,pI p1,pI p2] (.agg [pU r.Hi,pU r.Lo]):=by
 unfold eZ at h
 refine bo ?_
 refine dZ Tryz.func68 rfl Tryz.ntmps68 Tryz.results68 rfl (dj rfl (aY (cs:=[pU 0,pU 0]) rfl rfl rfl rfl (fun b1=>ar (dV h fun x2 hx2 h=>aj (bp 8 [] (rg 7 7) [(14,.agg [pU x2.Hi,pU x2.Lo])] (bw 7 (nu hx2) bL) (by kernel_rfl) (aH rfl rfl (ag (vs:=[pU x2.Hi,pU x2.Lo]) rfl rfl rfl rfl rfl bB nC (ar (dC ?_)))))))))
 obtain rfl:=osi h
 exact aI (fM (cg rfl dt rfl)) bZ ⟨rfl,rfl⟩
def gH (p0:Zf) (p1:Zf):Option Bool:=some ((decide (p0.Hi<p1.Hi))||((p0.Hi == p1.Hi)&&(decide (p0.Lo<p1.Lo))))
theorem pb {p0:Zf} {p1:Zf} {r:Bool}  (h:gH p0 p1=some r):PF 69 [.agg [pU p0.Hi,pU p0.Lo],.agg [pU p1.Hi,pU p1.Lo]] (pB r):=by
 unfold gH at h
 refine bo ?_
 refine dZ Tryz.func69 rfl Tryz.ntmps69 Tryz.results69 rfl (dj rfl (bC (cs:=[pU p0.Hi,pU p0.Lo]) rfl rfl (fun b1=>aF rfl (bC (cs:=[pU p1.Hi,pU p1.Lo]) rfl rfl (fun b2=>br [4] (by kernel_rfl) (cw (aV [1,0,1,0,1,0] (rg 5 19) [(4,pB ((decide (p0.Hi<p1.Hi))||((p0.Hi == p1.Hi)&&(decide (p0.Lo<p1.Lo)))))] (by kernel_rfl) (dC ?_))))))))
 exact zz r h rfl
def lz (p0:Zf) (p1:Int) (p2:Int):Option (Int×Int):=cond (((p1 == 0)||(decide (p2<0)))||(decide (3<p2))) (some ((0:Int),(2:Int))) ((gF p0 p1).bind fun x3=>Option.bind (cond (p2 == 1) (some (decide (0<x3.2))) (cond (p2 == 2) (some (decide ((IntKind.u64.wrap (p1 - x3.2))≤x3.2))) (cond (p2 == 3) (some ((decide ((IntKind.u64.wrap (p1 - x3.2))<x3.2))||((x3.2 == (IntKind.u64.wrap (p1 - x3.2)))&&((ez .u64 x3.1.Lo 1) == 1)))) (some false)))) (fun v5=>Option.bind (cond v5 ((fg x3.1 (⟨0,1⟩:Zf)).bind fun x14=>some (x14.1.Hi,x14.1.Lo)) (some (x3.1.Hi,x3.1.Lo))) (fun (v10,v11)=>cond (decide (0<v10)) (some ((0:Int),(3:Int))) (some (v11,(0:Int))))))
theorem wU {p0:Zf} {p1:Int} {p2:Int} {r:(Int×Int)}  (h:lz p0 p1 p2=some r):PF 70 [.agg [pU p0.Hi,pU p0.Lo],pU p1,pI p2] (.tup [pU r.1,pI r.2]):=by
 unfold lz at h
 refine bo ?_
 refine dZ Tryz.func70 rfl Tryz.ntmps70 Tryz.results70 rfl (dj rfl (bC (cs:=[pU p0.Hi,pU p0.Lo]) rfl rfl (fun b1=>br [6,7] (by kernel_rfl) (cQ (bU (rg 11 9) [(20,pB (((p1 == 0)||(decide (p2<0)))||(decide (3<p2))))] (by kernel_rfl) rfl h (fun hc2 h=>?_) fun hc2 h=>?_)))))
 ·refine ah ?_
  refine dq [(6,pU 0),(7,pI 2)] (by kernel_rfl) ?_
  obtain rfl:=osi h
  exact aI (bD (aD rfl) (aD rfl)) bZ ⟨rfl,rfl⟩
 refine ae ?_
 refine dV h fun x3 hx3 h=>aj (bp 6 [0] [22,23,24,21] [(25,.agg [pU x3.1.Hi,pU x3.1.Lo]),(26,pU x3.2)] (bw 2 (nE hx3) bL) (by kernel_rfl) (aF rfl (aY (cs:=[pU 0,pU 0]) rfl rfl rfl rfl (fun b4=>aH rfl rfl (ag (vs:=[pU x3.1.Hi,pU x3.1.Lo]) rfl rfl rfl rfl rfl bB nC (aL [(9,pU x3.2)] (by kernel_rfl) (cw (ap [(10,pB false)] (by kernel_rfl) (cQ (ap [(27,pI p2)] (by kernel_rfl) (ga h fun q6 hq6 h=>?_)))))))))))
 refine av (Y:=Unit×Bool) (fun (_,v5)=>[(8,pP b4 0),(10,pB v5)]) (fun (_,v5)=>[PRes.b b4 112 [pU x3.1.Hi,pU x3.1.Lo]]) (fun (_,v5)=>q6=v5) ?_ ?_
 ·skip
  refine jX (bU [29] [(28,pB (p2 == 1))] (by kernel_rfl) rfl hq6 (fun hc7 hq6=>?_) fun hc7 hq6=>?_)
  ·refine an [30,31] [(10,pB (decide (0<x3.2)))] (by kernel_rfl) ?_
   refine aq ?_
   obtain rfl:=osi hq6
   exact am ((),(decide (0<x3.2))) (eN rfl) cq rfl
  refine ah ?_
  refine bU [33] [(32,pB (p2 == 2))] (by kernel_rfl) rfl hq6 (fun hc8 hq6=>?_) fun hc8 hq6=>?_
  ·refine an (rg 34 5) [(10,pB (decide ((IntKind.u64.wrap (p1 - x3.2))≤x3.2)))] (by kernel_rfl) ?_
   refine aq ?_
   obtain rfl:=osi hq6
   exact am ((),(decide ((IntKind.u64.wrap (p1 - x3.2))≤x3.2))) (eN rfl) cq rfl
  refine ah ?_
  refine bU [40] [(39,pB (p2 == 3))] (by kernel_rfl) rfl hq6 (fun hc9 hq6=>?_) fun hc9 hq6=>?_
  ·refine aV [0] (rg 41 18) [(10,pB ((decide ((IntKind.u64.wrap (p1 - x3.2))<x3.2))||((x3.2 == (IntKind.u64.wrap (p1 - x3.2)))&&((ez .u64 x3.1.Lo 1) == 1))))] (by kernel_rfl) ?_
   refine aq ?_
   obtain rfl:=osi hq6
   exact am ((),((decide ((IntKind.u64.wrap (p1 - x3.2))<x3.2))||((x3.2 == (IntKind.u64.wrap (p1 - x3.2)))&&((ez .u64 x3.1.Lo 1) == 1)))) (eN rfl) cq rfl
  refine ae ?_
  refine aq ?_
  obtain rfl:=osi hq6
  exact am ((),false) (eN rfl) cq rfl
 rintro ⟨_,v5⟩ τ hz;(try dsimp only at hz);subst q6;(try dsimp only at h);dsimp only [aK]
 refine gh (ap [(59,pB v5)] (by kernel_rfl) (ga h fun q12 hq12 h=>?_))
 refine av (Y:=Unit×(Int×Int)) (fun (_,(v10,v11))=>[(8,pP b4 0)]) (fun (_,(v10,v11))=>[PRes.b b4 112 [pU v10,pU v11]]) (fun (_,(v10,v11))=>q12=(v10,v11)) ?_ ?_
 ·skip
  refine kU rfl hq12 (fun hc13 hq12=>?_) fun hc13 hq12=>?_
  ·refine aa hq12 ?_;clear hq12;intro x14 hx14 hq12
   refine aj (bp 6 [0] [61,62,63,60,65] [(64,.agg [pU x14.1.Hi,pU x14.1.Lo])] (bw 2 (jQ hx14) bL) (by kernel_rfl) (aH rfl rfl (ag (vs:=[pU x14.1.Hi,pU x14.1.Lo]) rfl rfl rfl rfl rfl bB nC (ar ?_))))
   obtain rfl:=osi hq12
   exact am ((),(x14.1.Hi,x14.1.Lo)) (nG rfl) cq rfl
  refine ae ?_
  obtain rfl:=osi hq12
  exact am ((),(x3.1.Hi,x3.1.Lo)) (nG rfl) cq rfl
 rintro ⟨_,⟨v10,v11⟩⟩ τ hz;(try dsimp only at hz);subst q12;(try dsimp only at h);dsimp only [aK]
 refine gh (aV [0] [66,67] [(68,pB (decide (0<v10)))] (by kernel_rfl) (dW rfl h (fun hc15 h=>?_) fun hc15 h=>?_))
 ·refine ah ?_
  refine dq [(6,pU 0),(7,pI 3)] (by kernel_rfl) ?_
  obtain rfl:=osi h
  exact aI (bD (aD rfl) (aD rfl)) bZ ⟨rfl,rfl⟩
 refine ae ?_
 refine cw (aV [0] [69,70] [(6,pU v11),(7,pI 0)] (by kernel_rfl) (dC ?_))
 obtain rfl:=osi h
 exact aI (bD (aD rfl) (aD rfl)) bZ ⟨rfl,rfl⟩
def eg (p0:Zm) (p1:Int) (p2:Int):Option (Int×Int):=(ko p0).bind fun x2=>cond (x2 != 0) (some ((0:Int),x2)) ((iX p1 1000000000000).bind fun x4=>(gd (!(!x4)) (iX p2 1000000000)).bind fun x5=>cond ((!x4)||(!x5)) (some ((0:Int),(2:Int))) ((eZ p0.Rate p1 (dN p0.Per 1)).bind fun x7=>(iH (IntKind.u64.wrap ((IntKind.u64.wrap p0.Amount)*(IntKind.u64.wrap p2))) 1000000).bind fun x8=>(fg x7 x8).bind fun x9=>(gd p0.HasMost (eZ p0.Most p1 (dN p0.Per 1))).bind fun x11=>(gd p0.HasMost (gH x11 x9.1)).bind fun x12=>Option.bind (cond (p0.HasMost&&x12) ((eZ p0.Most p1 (dN p0.Per 1)).bind fun x17=>some (x17.Hi,x17.Lo)) (some (x9.1.Hi,x9.1.Lo))) (fun (v13,v14)=>(gd p0.HasLeast (eZ p0.Least p1 (dN p0.Per 1))).bind fun x18=>(gd p0.HasLeast (gH (⟨v13,v14⟩:Zf) x18)).bind fun x19=>Option.bind (cond (p0.HasLeast&&x19) ((eZ p0.Least p1 (dN p0.Per 1)).bind fun x24=>some (x24.Hi,x24.Lo)) (some (v13,v14))) (fun (v20,v21)=>(lz (⟨v20,v21⟩:Zf) (IntKind.u64.wrap ((IntKind.u64.wrap (dN p0.Per 1))*1000000)) 2).bind fun x25=>cond ((x25.2 != 0)||(decide (1000000000000<x25.1))) (some ((0:Int),(3:Int))) (some ((IntKind.i64.wrap x25.1),(0:Int)))))))
theorem mg {p0:Zm} {p1:Int} {p2:Int} {r:(Int×Int)}  (h:eg p0 p1 p2=some r):PF 30 [.agg (jI p0),pI p1,pI p2] (.tup [pI r.1,pI r.2]):=by
 unfold eg at h
 refine bo ?_
 refine dZ Tryz.func30 rfl Tryz.ntmps30 Tryz.results30 rfl (dj rfl (bC (cs:=(jI p0)) rfl rfl (fun b1=>br [6,7] (by kernel_rfl) (cQ (aa h fun x2 hx2 h=>aB [0] [14,15] [(8,pI x2)] (bw 1 (o8 hx2) bL) (by kernel_rfl) (cw (bU [16] [(17,pB (x2 != 0))] (by kernel_rfl) rfl h (fun hc3 h=>?_) fun hc3 h=>?_)))))))
 ·refine ah ?_
  refine an [18] [(6,pI 0),(7,pI x2)] (by kernel_rfl) (ua ?_)
  obtain rfl:=osi h
  exact aI (bD (aD rfl) (aD rfl)) bZ ⟨rfl,rfl⟩
 refine ae ?_
 refine cQ (aa h fun x4 hx4 h=>aa h fun x5 hx5 h=>aB [] (rg 19 7) [(26,pB ((!x4)||(!x5)))] (bw 1 (jr hx4) (eU 5 (fun hc=>jr (cY hx5 hc)) bL)) (by kernel_rfl) (dW rfl h (fun hc6 h=>?_) fun hc6 h=>?_))
 ·refine ah ?_
  refine dq [(6,pI 0),(7,pI 2)] (by kernel_rfl) ?_
  obtain rfl:=osi h
  exact aI (bD (aD rfl) (aD rfl)) bZ ⟨rfl,rfl⟩
 refine ae ?_
 refine cw (aV [0] [27,28,29] [(9,pI (dN p0.Per 1))] (by kernel_rfl) (cw (bN (ρd:=[]) [(0,0),(1,0),(2,0),(3,0),(5,0),(6,0),(7,0),(8,0),(9,0),(10,0),(4,1),(11,1),(12,1),(13,0),(14,0),(15,0),(16,2),(17,1),(18,0)] _ (List.Perm.refl _) (by kernel_rfl) rfl (aa h fun x7 hx7 h=>aa h fun x8 hx8 h=>aa h fun x9 hx9 h=>cr 16 [0,0] [31,32,33,34,36,37,38,39,40,41,35,42,43,30] [(44,.agg [pU x9.1.Hi,pU x9.1.Lo]),(45,pB x9.2)] (bw 10 (gX hx7) (bw 11 (nu hx8) (bw 12 (jQ hx9) bL))) (by kernel_rfl) (nU (nS rfl rfl rfl rfl rfl) (fun _=>rfl) rfl (fun b10=>np rfl rfl (ag (vs:=[pU x9.1.Hi,pU x9.1.Lo]) rfl rfl rfl rfl rfl bB nC (Dx 1 [11] (by kernel_rfl) (cC (cQ (bN (ρd:=[]) [(0,0),(1,0),(2,0),(3,0),(4,0),(5,0),(6,0),(8,0),(7,1),(9,1),(10,0)] _ (List.Perm.refl _) (by kernel_rfl) rfl (aa h fun x11 hx11 h=>aa h fun x12 hx12 h=>cr 11 [1,1,0] ((rg 46 7)++[54,53,55]) [(56,pB (p0.HasMost&&x12))] (eU 8 (fun hc=>gX (cY hx11 hc)) (eU 9 (fun hc=>pb (cY hx12 hc)) bL)) (by kernel_rfl) (cC (ga h fun q15 hq15 h=>?_))))))))))))))
 refine av (Y:=Unit×(Int×Int)) (fun (_,(v13,v14))=>[(1,pI p1),(3,pP b1 0),(9,pI (dN p0.Per 1)),(10,pP b10 0)]) (fun (_,(v13,v14))=>[PRes.b b1 66 (jI p0),PRes.b b10 112 [pU v13,pU v14]]) (fun (_,(v13,v14))=>q15=(v13,v14)) ?_ ?_
 ·skip
  refine kU rfl hq15 (fun hc16 hq15=>?_) fun hc16 hq15=>?_
  ·refine aa hq15 ?_;clear hq15;intro x17 hx17 hq15
   refine aj (bp 5 [1] [57,58,59,60] [(61,.agg [pU x17.Hi,pU x17.Lo])] (bw 4 (gX hx17) bL) (by kernel_rfl) (aH rfl rfl (ag (vs:=[pU x17.Hi,pU x17.Lo]) rfl rfl rfl rfl rfl bB nC (ar ?_))))
   obtain rfl:=osi hq15
   exact am ((),(x17.Hi,x17.Lo)) (iP rfl) (bq (aC aN) cq) rfl
  refine ae ?_
  obtain rfl:=osi hq15
  exact am ((),(x9.1.Hi,x9.1.Lo)) (iP rfl) (bq (aC aN) cq) rfl
 rintro ⟨_,⟨v13,v14⟩⟩ τ hz;(try dsimp only at hz);subst q15;(try dsimp only at h);dsimp only [aK]
 refine gh (bN (ρd:=[]) [(0,0),(1,0),(2,0),(3,0),(4,0),(5,0),(6,0),(7,0),(8,1),(9,1),(10,0)] _ (List.Perm.refl _) (by kernel_rfl) rfl (aa h fun x18 hx18 h=>aa h fun x19 hx19 h=>cr 11 [0,1,0] (rg 62 10) [(72,pB (p0.HasLeast&&x19))] (eU 8 (fun hc=>gX (cY hx18 hc)) (eU 9 (fun hc=>pb (cY hx19 hc)) bL)) (by kernel_rfl) (cC (ga h fun q22 hq22 h=>?_))))
 refine av (Y:=Unit×(Int×Int)) (fun (_,(v20,v21))=>[(9,pI (dN p0.Per 1)),(10,pP b10 0)]) (fun (_,(v20,v21))=>[PRes.b b10 112 [pU v20,pU v21]]) (fun (_,(v20,v21))=>q22=(v20,v21)) ?_ ?_
 ·skip
  refine kU rfl hq22 (fun hc23 hq22=>?_) fun hc23 hq22=>?_
  ·refine aa hq22 ?_;clear hq22;intro x24 hx24 hq22
   refine aj (bp 5 [0] [73,74,75,76] [(77,.agg [pU x24.Hi,pU x24.Lo])] (bw 4 (gX hx24) bL) (by kernel_rfl) (aH rfl rfl (ag (vs:=[pU x24.Hi,pU x24.Lo]) rfl rfl rfl rfl rfl (bx bB) nC (ar ?_))))
   obtain rfl:=osi hq22
   exact am ((),(x24.Hi,x24.Lo)) (eN rfl) (bq (aC aN) bZ) rfl
  refine ae ?_
  obtain rfl:=osi hq22
  exact am ((),(v13,v14)) (eN rfl) (bq (aC aN) bZ) rfl
 rintro ⟨_,⟨v20,v21⟩⟩ τ hz;(try dsimp only at hz);subst q22;(try dsimp only at h);dsimp only [aK]
 refine ah (aa h fun x25 hx25 h=>aB [0] ((rg 79 5)++[78,84,85]) [(12,pU x25.1),(13,pI x25.2)] (bw 4 (wU hx25) bL) (by kernel_rfl) (cQ (bU (rg 86 5) [(91,pB ((x25.2 != 0)||(decide (1000000000000<x25.1))))] (by kernel_rfl) rfl h (fun hc26 h=>?_) fun hc26 h=>?_)))
 ·refine ah ?_
  refine dq [(6,pI 0),(7,pI 3)] (by kernel_rfl) ?_
  obtain rfl:=osi h
  exact aI (bD (aD rfl) (aD rfl)) bZ ⟨rfl,rfl⟩
 refine ae ?_
 refine cw (an [92,93] [(6,pI (IntKind.i64.wrap x25.1)),(7,pI 0)] (by kernel_rfl) (dC ?_))
 obtain rfl:=osi h
 exact aI (bD (aD rfl) (aD rfl)) bZ ⟨rfl,rfl⟩
def jR (p0:(List Zb)) (p1:Zj):Option (Zq×Int):=(iv p0).bind fun x3=>cond (x3 != 0) (some ((⟨[],0⟩:Zq),x3)) ((ji p1).bind fun x5=>cond (x5 != 0) (some ((⟨[],0⟩:Zq),x5)) (Option.bind (cond (decide (0<p1.Quantity)) ((js p1.Value [p1.Granted,(IntKind.i64.wrap (p1.Quantity - p1.Granted))]).bind fun x14=>some x14.1) (some [0,p1.Value])) (fun l11=>(iY p0 1 p1.Code p1.Origin p1.Company p1.Day).bind fun x15=>cond (!x15.2) (some ((⟨[],0⟩:Zq),(7:Int))) ((bu (S:=Bool×Int×(List Zd)) (T:=(Bool×(List Zd))) (fun (v19,v20,l22)=>cond (decide (v20<2)) (((idx [p1.Granted,(IntKind.i64.wrap (p1.Quantity - p1.Granted))] v20).bind fun m40=>cond ((m40 == 0)&&((v20 == 0)||(decide (0<p1.Quantity)))) (some (v19,l22)) ((bu (S:=Bool×Int×Int×Int×Int×Int×Int) (T:=(Bool×Int×Int×Int×Int×Int)) (fun (v43,v44,v45,v46,v47,v48,v49)=>cond (decide (v44≤4)) (((iY p0 v44 p1.Code p1.Origin p1.Company p1.Day).bind fun x68=>cond (((!x68.2)||((v44 == 3)&&(!p1.Proof)))||((v44 == 4)&&(v20 == 1))) (some (v43,v45,v46,v47,v48,v49)) ((idx l11 v20).bind fun m71=>(idx [p1.Granted,(IntKind.i64.wrap (p1.Quantity - p1.Granted))] v20).bind fun m72=>(eg x68.1.Duty m71 m72).bind fun x73=>cond ((v44 == 1)||(decide (x73.1<v49))) ((idx [p1.Granted,(IntKind.i64.wrap (p1.Quantity - p1.Granted))] v20).bind fun m75=>(idx l11 v20).bind fun m76=>some ((v43||(x73.2 != 0)),v44,x68.1.ID,m75,m76,x73.1)) (some ((v43||(x73.2 != 0)),v45,v46,v47,v48,v49)))).bind fun (v60,v62,v63,v64,v65,v66)=>some (.inl (v60,(IntKind.i64.wrap (v44+1)),v62,v63,v64,v65,v66))) (some (.inr (v43,v45,v46,v47,v48,v49)))) FUEL (v19,1,0,0,0,0,0)).bind fun (v50,v52,v53,v54,v55,v56)=>(app 40 l22 [(⟨v52,v53,v54,v55,v56⟩:Zd)]).bind fun l79=>some (v50,l79))).bind fun (v34,l38)=>some (.inl (v34,(IntKind.i64.wrap (v20+1)),l38))) (some (.inr (v19,l22)))) FUEL (false,0,([]:List Zd))).bind fun (v25,l29)=>(bu (S:=Bool×Int×(List Zd)) (T:=(Bool×(List Zd))) (fun (v83,v84,l86)=>cond (decide (v84≤6)) (((iY p0 v84 p1.Code p1.Origin p1.Company p1.Day).bind fun x103=>cond x103.2 ((eg x103.1.Duty p1.Value p1.Quantity).bind fun x106=>(app 40 l86 [(⟨v84,x103.1.ID,p1.Quantity,p1.Value,x106.1⟩:Zd)]).bind fun l109=>some ((v83||(x106.2 != 0)),l109)) (some (v83,l86))).bind fun (v97,l101)=>some (.inl (v97,(IntKind.i64.wrap (v84+1)),l101))) (some (.inr (v83,l86)))) FUEL (v25,5,l29)).bind fun (v89,l93)=>(bu (S:=Int×Int) (T:=(Int)) (fun (v113,v114)=>cond (decide (v113<((l93.length:Nat):Int))) ((idx l93 v113).bind fun m120=>some (.inl ((IntKind.i64.wrap (v113+1)),(IntKind.i64.wrap (v114+m120.Amount))))) (some (.inr v114))) FUEL (0,0)).bind fun v116=>cond (v89||(decide (1000000000000<v116))) (some ((⟨[],0⟩:Zq),(3:Int))) (some ((⟨l93,v116⟩:Zq),(0:Int)))))))
theorem sA {p0:(List Zb)} {p1:Zj} {r:(Zq×Int)}  (h:jR p0 p1=some r):PF 7 [pL Zb.enc p0,.agg (ck p1)] (.tup [.agg [pL Zd.enc r.1.Lines,pI r.1.Total],pI r.2]):=by
 unfold jR at h
 refine bo ?_
 refine dZ Tryz.func7 rfl Tryz.ntmps7 Tryz.results7 rfl (dj rfl (bC (cs:=(ck p1)) rfl rfl (fun b1=>aF rfl (aY (cs:=[pN,pI 0]) rfl rfl rfl rfl (fun b2=>br [5] (by kernel_rfl) (cQ (aa h fun x3 hx3 h=>aB [] [27,28] [(6,pI x3)] (bw 1 (qz hx3) bL) (by kernel_rfl) (cw (bU [29] [(30,pB (x3 != 0))] (by kernel_rfl) rfl h (fun hc4 h=>?_) fun hc4 h=>?_)))))))))
 ·refine ah ?_
  refine cP 2 [(31,.agg [pN,pI 0]),(32,pI x3)] (by kernel_rfl) (aH rfl rfl (ag (vs:=[pN,pI 0]) rfl rfl rfl rfl rfl bB nC (aL [(5,pI x3)] (by kernel_rfl) (aW (di (k:=0) (b:=b2) rfl bB (cd (aO ?_)))))))
  obtain rfl:=osi h
  exact aI (bD (cg rfl dt rfl) (aD rfl)) bZ ⟨rfl,rfl⟩
 refine ae ?_
 refine cQ (aa h fun x5 hx5 h=>aB [1] [33,34] [(7,pI x5)] (bw 1 (uV hx5) bL) (by kernel_rfl) (cw (bU [35] [(36,pB (x5 != 0))] (by kernel_rfl) rfl h (fun hc6 h=>?_) fun hc6 h=>?_)))
 ·refine ah ?_
  refine cP 2 [(37,.agg [pN,pI 0]),(38,pI x5)] (by kernel_rfl) (aH rfl rfl (ag (vs:=[pN,pI 0]) rfl rfl rfl rfl rfl bB nC (aL [(5,pI x5)] (by kernel_rfl) (aW (di (k:=0) (b:=b2) rfl bB (cd (aO ?_)))))))
  obtain rfl:=osi h
  exact aI (bD (cg rfl dt rfl) (aD rfl)) bZ ⟨rfl,rfl⟩
 refine ae ?_
 refine cw ?_
 refine av (Y:=Nat×Nat) (fun (b7,b9)=>[(0,pL Zb.enc p0),(3,pP b1 0),(4,pP b2 0),(8,pO (some ⟨b7,0,none⟩) 2 2),(9,pO (some ⟨b9,0,none⟩) 2 2)]) (fun (b7,b9)=>[PRes.b b1 32 (ck p1),PRes.b b2 25 [pN,pI 0],PRes.row (some ⟨b9,0,none⟩) 2 2 3 1 (List.map eI [0,p1.Value]),PRes.row (some ⟨b7,0,none⟩) 2 2 3 1 (List.map eI [p1.Granted,(IntKind.i64.wrap (p1.Quantity - p1.Granted))])]) (fun _=>True) ?_ ?_
 ·refine hU (ρd:=[]) _ (List.Perm.refl _) ?_
  refine az 0 (by kernel_rfl) rfl rfl rfl rfl (ak rfl rfl rfl rfl rfl (.p rfl)) (az 1 (by kernel_rfl) rfl rfl rfl rfl (aw (p:=pI p1.Granted) rfl (.p rfl) fR rfl) (az 2 (by kernel_rfl) rfl rfl rfl rfl (ak rfl rfl rfl rfl rfl (.p rfl)) (az 3 (by kernel_rfl) rfl rfl rfl rfl (aw (p:=pI p1.Quantity) rfl (.p rfl) fR rfl) (az 4 (by kernel_rfl) rfl rfl rfl rfl (ak rfl rfl rfl rfl rfl (.p rfl)) (az 5 (by kernel_rfl) rfl rfl rfl rfl (aw (p:=pI p1.Granted) rfl (.p rfl) fR rfl) (az 6 (by kernel_rfl) rfl rfl rfl rfl (gM rfl (.p rfl) (.p rfl) rfl) (az 8 (by kernel_rfl) rfl rfl rfl rfl (ak rfl rfl rfl rfl rfl (.p rfl)) (az 9 (by kernel_rfl) rfl rfl rfl rfl (aw (p:=pI p1.Value) rfl (.p rfl) fR rfl) ?_))))))))
  refine bA 7 10 (by kernel_rfl) ?_ ?_
  ·skip
   refine af rfl rfl rfl rfl (bg rfl rfl rfl rfl rfl (dI rfl (dI rfl eY)) rfl rfl rfl rfl (fun b7=>az 11 (by kernel_rfl) rfl rfl rfl rfl (be (p:=pO (some ⟨b7,0,none⟩) 2 2) rfl (.p rfl)) (ai 10 (by kernel_rfl) (af rfl rfl rfl rfl (bg rfl rfl rfl rfl rfl (dI rfl (dI rfl eY)) rfl rfl rfl rfl (fun b9=>az 12 (by kernel_rfl) rfl rfl rfl rfl (be (p:=pO (some ⟨b9,0,none⟩) 2 2) rfl (.p rfl)) (aT (by kernel_rfl) ?_)))))))
   exact am (b7,b9) (mv rfl) (bq (aC (aC (aC aN))) (bq (aC (aC aN)) sM)) trivial
  skip
  refine af rfl rfl rfl rfl (bg rfl rfl rfl rfl rfl (dI rfl (dI rfl eY)) rfl rfl rfl rfl (fun b9=>ai 7 (by kernel_rfl) (af rfl rfl rfl rfl (bg rfl rfl rfl rfl rfl (dI rfl (dI rfl eY)) rfl rfl rfl rfl (fun b7=>az 11 (by kernel_rfl) rfl rfl rfl rfl (be (p:=pO (some ⟨b7,0,none⟩) 2 2) rfl (.p rfl)) (az 12 (by kernel_rfl) rfl rfl rfl rfl (be (p:=pO (some ⟨b9,0,none⟩) 2 2) rfl (.p rfl)) (aT (by kernel_rfl) ?_)))))))
  exact am (b7,b9) (mv rfl) (bq (aC (aC (aC aN))) (bq (aC (aC aN)) (bq (aC aN) cq))) trivial
 rintro ⟨b7,b9⟩ τ _;dsimp only [aK]
 refine gh (aV [0] [50,51] [(52,pB (decide (0<p1.Quantity)))] (by kernel_rfl) (ga h fun q12 hq12 h=>?_))
 refine av (Y:=Unit×((List Int))) (fun (_,l11)=>[(0,pL Zb.enc p0),(3,pP b1 0),(4,pP b2 0),(8,pL eI [p1.Granted,(IntKind.i64.wrap (p1.Quantity - p1.Granted))]),(9,pL eI l11)]) (fun (_,l11)=>[PRes.b b1 32 (ck p1),PRes.b b2 25 [pN,pI 0]]) (fun (_,l11)=>q12=l11) ?_ ?_
 ·skip
  refine kU rfl hq12 (fun hc13 hq12=>?_) fun hc13 hq12=>?_
  ·refine aj ?_
   refine cI 3 [0] [54] [(55,pI p1.Value),(56,pO (some ⟨b7,0,none⟩) 2 2)] (by kernel_rfl) ?_
   refine jG (enc:=eI) (xs:=[p1.Granted,(IntKind.i64.wrap (p1.Quantity - p1.Granted))]) 56 rfl (by exact aC (aC (aC aN))) ?_
   refine aa hq12 fun x14 hx14 hq12=>kz [] [57,53,58,59] [(9,pL eI x14.1)] (bw 0 (ug hx14) bL) (by kernel_rfl) (jg (C1 (enc:=eI) (xs:=[p1.Granted,(IntKind.i64.wrap (p1.Quantity - p1.Granted))]) 8 rfl dt) ?_)
   obtain rfl:=osi hq12
   exact am ((),x14.1) (mv rfl) (bq (aC aN) (bq (aC aN) bZ)) rfl
  refine ae ?_
  refine jg (qg (enc:=eI) (xs:=[p1.Granted,(IntKind.i64.wrap (p1.Quantity - p1.Granted))]) 8 rfl (by exact aC (aC (aC aN)))) ?_
  refine jg (qg (enc:=eI) (xs:=[0,p1.Value]) 9 rfl (by exact aC (aC (aC aN)))) ?_
  obtain rfl:=osi hq12
  exact am ((),[0,p1.Value]) (mv rfl) (bq (aC (aC aN)) (bq (aC (aC aN)) bZ)) rfl
 rintro ⟨_,l11⟩ τ hz;(try dsimp only at hz);subst q12;(try dsimp only at h);dsimp only [aK]
 refine gh (aa h fun x15 hx15 h=>aj (bp 13 [0,0,0,0] ((rg 61 10)++[60]) [(71,.agg (bk x15.1)),(72,pB x15.2)] (bw 9 (od hx15) bL) (by kernel_rfl) (aF rfl (aY (cs:=[pI 0,pI 0,pS ByteArray.empty,pN,pI 0,pI 0,pI 0,pI 0,pI 0,pI 0,pI 0,pB false,pI 0,pB false,pI 0]) rfl rfl rfl rfl (fun b16=>aH rfl rfl (ag (vs:=(bk x15.1)) rfl rfl rfl rfl rfl bB (eH (eH (eH (eH (eH (eH C6)))))) (aL [(11,pB x15.2)] (by kernel_rfl) (cw (bU [73] [(74,pB (!x15.2))] (by kernel_rfl) rfl h (fun hc17 h=>?_) fun hc17 h=>?_)))))))))
 ·refine ah ?_
  refine cP 1 [(75,.agg [pN,pI 0])] (by kernel_rfl) (aH rfl rfl (ag (vs:=[pN,pI 0]) rfl rfl rfl rfl rfl (bx (bx bB)) nC (aL [(5,pI 7)] (by kernel_rfl) (aW (di (k:=0) (b:=b2) rfl (bx (bx bB)) (cd (aO ?_)))))))
  obtain rfl:=osi h
  exact aI (bD (cg rfl kb rfl) (aD rfl)) bZ ⟨rfl,rfl⟩
 refine ae ?_
 refine cw (cP 1 [(76,.agg [pN,pI 0])] (by kernel_rfl) (aF rfl (aY (cs:=[pN,pI 0]) rfl rfl rfl rfl (fun b18=>aH rfl rfl (ag (vs:=[pN,pI 0]) rfl rfl rfl rfl rfl bB nC (aL [(13,pB false)] (by kernel_rfl) (cQ (ap [(14,pI 0)] (by kernel_rfl) (aW (fj 37 5 (aa h fun q31 hq31 h=>?_)))))))))))
 refine av (Y:=(Option Addr×Nat)×(Bool×(List Zd))) (fun ((a27,c28),(v25,l29))=>[(0,pL Zb.enc p0),(3,pP b1 0),(4,pP b2 0),(12,pP b18 0),(13,pB v25)]) (fun ((a27,c28),(v25,l29))=>[PRes.b b1 32 (ck p1),PRes.b b18 25 [pO a27 l29.length c28,pI 0],PRes.b b2 25 [pN,pI 0],PRes.row a27 l29.length c28 37 5 (List.map Zd.enc l29)]) (fun ((a27,c28),(v25,l29))=>q31=(v25,l29)) ?_ ?_
 ·refine aR ?_
  refine aZ (Y:=Option Addr×Nat) (S:=Bool×Int×(List Zd)) _ hq31 (fun (a23,c24) (v19,v20,l22)=>[(0,pL Zb.enc p0),(3,pP b1 0),(4,pP b2 0),(8,pL eI [p1.Granted,(IntKind.i64.wrap (p1.Quantity - p1.Granted))]),(9,pL eI l11),(12,pP b18 0),(13,pB v19),(14,pI v20)]) (fun (a23,c24) (v19,v20,l22)=>[PRes.b b1 32 (ck p1),PRes.b b18 25 [pO a23 l22.length c24,pI 0],PRes.b b2 25 [pN,pI 0],PRes.row a23 l22.length c24 37 5 (List.map Zd.enc l22)]) (none,0) (EA rfl) (bq (aC (aC (aC aN))) (bq (aC aN) (bq (aC (aC aN)) cq))) ?_
  rintro ⟨a23,c24⟩ ⟨v19,v20,l22⟩ o τ hb30;(try dsimp only at hb30);dsimp only [aK]
  refine gh (bU [77] [(78,pB (decide (v20<2)))] (by kernel_rfl) rfl hb30 (fun hc33 hb30=>?_) fun hc33 hb30=>?_)
  ·refine ae ?_
   refine dV hb30 fun q39 hq39 hb30=>?_
   refine av (Y:=(Option Addr×Nat)×(Bool×(List Zd))) (fun ((a36,c37),(v34,l38))=>[(0,pL Zb.enc p0),(3,pP b1 0),(4,pP b2 0),(8,pL eI [p1.Granted,(IntKind.i64.wrap (p1.Quantity - p1.Granted))]),(9,pL eI l11),(12,pP b18 0),(13,pB v34),(14,pI v20)]) (fun ((a36,c37),(v34,l38))=>[PRes.b b1 32 (ck p1),PRes.b b18 25 [pO a36 l38.length c37,pI 0],PRes.b b2 25 [pN,pI 0],PRes.row a36 l38.length c37 37 5 (List.map Zd.enc l38)]) (fun ((a36,c37),(v34,l38))=>q39=(v34,l38)) ?_ ?_
   ·skip
    refine aR (gh (aa hq39 fun m40 hm40 hq39=>aB [0] (rg 81 13) [(94,pB ((m40 == 0)&&((v20 == 0)||(decide (0<p1.Quantity)))))] (fC 2 eI hm40 bL) (by kernel_rfl) (dW rfl hq39 (fun hc41 hq39=>?_) fun hc41 hq39=>?_)))
    ·refine bc ?_
     refine aP (aM rfl ?_)
     obtain rfl:=osi hq39
     exact am ((a23,c24),(v19,l22)) (EA rfl) wC rfl
    refine ae ?_
    refine cw (cP 1 [(95,.agg [pI 0,pI 0,pI 0,pI 0,pI 0])] (by kernel_rfl) (aF rfl (aY (cs:=[pI 0,pI 0,pI 0,pI 0,pI 0]) rfl rfl rfl rfl (fun b42=>aH rfl rfl (ag (vs:=[pI 0,pI 0,pI 0,pI 0,pI 0]) rfl rfl rfl rfl rfl bB zl5 (ar (cQ (ap [(16,pI 1)] (by kernel_rfl) (ga hq39 fun q58 hq58 hq39=>?_)))))))))
    refine av (Y:=Unit×(Bool×Int×Int×Int×Int×Int)) (fun (_,(v50,v52,v53,v54,v55,v56))=>[(0,pL Zb.enc p0),(3,pP b1 0),(4,pP b2 0),(8,pL eI [p1.Granted,(IntKind.i64.wrap (p1.Quantity - p1.Granted))]),(9,pL eI l11),(12,pP b18 0),(13,pB v50),(14,pI v20),(15,pP b42 0)]) (fun (_,(v50,v52,v53,v54,v55,v56))=>[PRes.b b1 32 (ck p1),PRes.b b18 25 [pO a23 l22.length c24,pI 0],PRes.b b2 25 [pN,pI 0],PRes.b b42 37 [pI v52,pI v53,pI v54,pI v55,pI v56],PRes.row a23 l22.length c24 37 5 (List.map Zd.enc l22)]) (fun (_,(v50,v52,v53,v54,v55,v56))=>q58=(v50,v52,v53,v54,v55,v56)) ?_ ?_
    ·refine aR ?_
     refine aZ (Y:=Unit) (S:=Bool×Int×Int×Int×Int×Int×Int) _ hq58 (fun _ (v43,v44,v45,v46,v47,v48,v49)=>[(0,pL Zb.enc p0),(3,pP b1 0),(4,pP b2 0),(8,pL eI [p1.Granted,(IntKind.i64.wrap (p1.Quantity - p1.Granted))]),(9,pL eI l11),(12,pP b18 0),(13,pB v43),(14,pI v20),(15,pP b42 0),(16,pI v44)]) (fun _ (v43,v44,v45,v46,v47,v48,v49)=>[PRes.b b1 32 (ck p1),PRes.b b18 25 [pO a23 l22.length c24,pI 0],PRes.b b2 25 [pN,pI 0],PRes.b b42 37 [pI v45,pI v46,pI v47,pI v48,pI v49],PRes.row a23 l22.length c24 37 5 (List.map Zd.enc l22)]) () (gu rfl (qi rfl)) (bq (aC aN) (bq (aC aN) (bq (aC aN) sM))) ?_
     rintro _ ⟨v43,v44,v45,v46,v47,v48,v49⟩ o τ hb57;(try dsimp only at hb57);dsimp only [aK]
     refine gh (bU [96] [(97,pB (decide (v44≤4)))] (by kernel_rfl) rfl hb57 (fun hc59 hb57=>?_) fun hc59 hb57=>?_)
     ·refine ae ?_
      refine dV hb57 fun q67 hq67 hb57=>?_
      refine av (Y:=Unit×(Bool×Int×Int×Int×Int×Int)) (fun (_,(v60,v62,v63,v64,v65,v66))=>[(0,pL Zb.enc p0),(3,pP b1 0),(4,pP b2 0),(8,pL eI [p1.Granted,(IntKind.i64.wrap (p1.Quantity - p1.Granted))]),(9,pL eI l11),(12,pP b18 0),(13,pB v60),(14,pI v20),(15,pP b42 0),(16,pI v44)]) (fun (_,(v60,v62,v63,v64,v65,v66))=>[PRes.b b1 32 (ck p1),PRes.b b18 25 [pO a23 l22.length c24,pI 0],PRes.b b2 25 [pN,pI 0],PRes.b b42 37 [pI v62,pI v63,pI v64,pI v65,pI v66],PRes.row a23 l22.length c24 37 5 (List.map Zd.enc l22)]) (fun (_,(v60,v62,v63,v64,v65,v66))=>q67=(v60,v62,v63,v64,v65,v66)) ?_ ?_
      ·skip
       refine jX (aa hq67 fun x68 hx68 hq67=>aj (bp 14 [0,0,0,0] ((rg 101 11)++[100]) [(112,.agg (bk x68.1)),(113,pB x68.2)] (bw 10 (od hx68) bL) (by kernel_rfl) (aF rfl (aY (cs:=[pI 0,pI 0,pS ByteArray.empty,pN,pI 0,pI 0,pI 0,pI 0,pI 0,pI 0,pI 0,pB false,pI 0,pB false,pI 0]) rfl rfl rfl rfl (fun b69=>aH rfl rfl (ag (vs:=(bk x68.1)) rfl rfl rfl rfl rfl bB (eH (eH (eH (eH (eH (eH C6)))))) (aL [(18,pB x68.2)] (by kernel_rfl) (cQ (aV [1] (rg 114 18) [(132,pB (((!x68.2)||((v44 == 3)&&(!p1.Proof)))||((v44 == 4)&&(v20 == 1))))] (by kernel_rfl) (dW rfl hq67 (fun hc70 hq67=>?_) fun hc70 hq67=>?_))))))))))
       ·refine bc ?_
        refine aP (aM rfl ?_)
        obtain rfl:=osi hq67
        exact am ((),(v43,v45,v46,v47,v48,v49)) (gu rfl (qi rfl)) (bq (aC aN) (bq (aC aN) (bq (aC aN) (bq (aC aN) (bq (aC aN) bZ))))) rfl
       refine ae ?_
       refine cw (bN (ρd:=[]) [(0,0),(1,0),(2,0),(3,0),(4,0),(5,0),(6,0),(7,0),(8,0),(9,0),(10,1),(11,0),(12,0),(13,0),(14,0),(15,0)] _ (List.Perm.refl _) (by kernel_rfl) rfl (aa hq67 fun m71 hm71 hq67=>aa hq67 fun m72 hm72 hq67=>aa hq67 fun x73 hx73 hq67=>cr 16 [0] ((rg 134 11)++[133,145,146]) [(19,pI x73.1),(20,pI x73.2)] (fC 4 eI hm71 (fC 8 eI hm72 (bw 10 (mg hx73) bL))) (by kernel_rfl) (cC (cw (an (rg 147 5) [(13,pB (v43||(x73.2 != 0)))] (by kernel_rfl) (cw (aV [4] (rg 152 7) [(159,pB ((v44 == 1)||(decide (x73.1<v49))))] (by kernel_rfl) (dW rfl hq67 (fun hc74 hq67=>?_) fun hc74 hq67=>?_))))))))
       ·refine bN (ρd:=[PRes.b b42 _ _]) [(0,0),(1,0),(2,0),(3,0),(4,0),(5,0),(6,0),(7,0),(8,0),(9,0),(10,0),(11,0),(12,0),(13,1)] _ (aX (aC (aC (aC (aC aN)))) (List.Perm.refl _)) (by kernel_rfl) rfl ?_
        refine aa hq67 fun m75 hm75 hq67=>aa hq67 fun m76 hm76 hq67=>cr 12 [0] [161,163,164,165,167,168,169] [(160,pI v44),(162,pI x68.1.ID),(166,pI m75),(170,pI m76),(171,pI x73.1)] (fC 5 eI hm75 (fC 9 eI hm76 bL)) (by kernel_rfl) (rV rfl rfl rfl (eM (cs:=[pI v44,pI x68.1.ID,pI m75,pI m76,pI x73.1]) rfl rfl rfl rfl rfl rfl rfl (nm rfl rfl rfl rfl cN (nm rfl rfl rfl rfl (bf cN) (nm rfl rfl rfl rfl (bf (bf cN)) (nm rfl rfl rfl rfl (bf (bf (bf cN))) (nm rfl rfl rfl rfl (bf (bf (bf (bf cN)))) Ay)))))) (np rfl rfl (ag (vs:=[pI v44,pI x68.1.ID,pI m75,pI m76,pI x73.1]) rfl rfl rfl rfl rfl bB zl5 (cC (aq ?_)))))
        obtain rfl:=osi hq67
        exact am ((),((v43||(x73.2 != 0)),v44,x68.1.ID,m75,m76,x73.1)) (gu rfl (qi rfl)) (bq (aC (aC aN)) (bq (aC (aC aN)) (bq (aC (aC aN)) (bq aN (bq (aC aN) bZ))))) rfl
       refine ae ?_
       refine aq ?_
       obtain rfl:=osi hq67
       exact am ((),((v43||(x73.2 != 0)),v45,v46,v47,v48,v49)) (gu rfl (qi rfl)) (bq (aC aN) (bq (aC aN) (bq (aC aN) (bq (aC aN) (bq (aC aN) bZ))))) rfl
      rintro ⟨_,⟨v60,v62,v63,v64,v65,v66⟩⟩ τ hz;(try dsimp only at hz);subst q67;(try dsimp only at hb57);dsimp only [aK]
      refine an [98,99] [(16,pI (IntKind.i64.wrap (v44+1)))] (by kernel_rfl) ?_
      exact bt hb57 () (gu rfl (qi rfl)) zs5
     refine bc ?_
     refine aP (aJ hb57 (fun ht=>aM rfl ?_))
     exact am ((),(v43,v45,v46,v47,v48,v49)) (qi rfl) zs5 ht.symm
    rintro ⟨_,⟨v50,v52,v53,v54,v55,v56⟩⟩ τ hz;(try dsimp only at hz);subst q58;(try dsimp only at hq39);dsimp only [aK]
    refine aj (cI 3 [1,3] [173] [(174,pO a23 l22.length c24),(175,.agg [pI v52,pI v53,pI v54,pI v55,pI v56])] (by kernel_rfl) (aF rfl (bg rfl rfl rfl rfl rfl (dI rfl eY) rfl rfl rfl rfl (fun b77=>aa hq39 fun l79 hl79 hq39=>?_))))
    refine aF rfl (bd (enc:=Zd.enc) rfl rfl rfl rfl rfl rfl rfl rfl rfl dt (by exact aC (aC (aC (aC (aC aN))))) hl79 (fun a80 c81=>?_))
    refine bE 1 [(178,pP b18 0)] (by kernel_rfl) (aH rfl rfl (ag (vs:=[pO a80 l79.length c81]) rfl rfl rfl rfl rfl (bx (bx (bx bB))) cN (ar (aq ?_))))
    obtain rfl:=osi hq39
    exact am ((a80,c81),(v50,l79)) (EA rfl) (bq (aC (aC aN)) (bq (aC (aC aN)) (bq (aC (aC aN)) cq))) rfl
   rintro ⟨⟨a36,c37⟩,⟨v34,l38⟩⟩ τ hz;(try dsimp only at hz);subst q39;(try dsimp only at hb30);dsimp only [aK]
   refine an [79,80] [(14,pI (IntKind.i64.wrap (v20+1)))] (by kernel_rfl) ?_
   exact bt hb30 (a36,c37) (EA rfl) wC
  refine bc ?_
  refine aP (aJ hb30 (fun ht=>aM rfl ?_))
  exact am ((a23,c24),(v19,l22)) (mv rfl) wC ht.symm
 rintro ⟨⟨a27,c28⟩,⟨v25,l29⟩⟩ τ hz;(try dsimp only at hz);subst q31;(try dsimp only at h);dsimp only [aK]
 refine gh (ap [(21,pI 5)] (by kernel_rfl) (ga h fun q95 hq95 h=>?_))
 refine av (Y:=(Option Addr×Nat)×(Bool×(List Zd))) (fun ((a91,c92),(v89,l93))=>[(4,pP b2 0),(12,pP b18 0),(13,pB v89)]) (fun ((a91,c92),(v89,l93))=>[PRes.b b18 25 [pO a91 l93.length c92,pI 0],PRes.b b2 25 [pN,pI 0],PRes.row a91 l93.length c92 37 5 (List.map Zd.enc l93)]) (fun ((a91,c92),(v89,l93))=>q95=(v89,l93)) ?_ ?_
 ·refine aR ?_
  refine aZ (Y:=Option Addr×Nat) (S:=Bool×Int×(List Zd)) _ hq95 (fun (a87,c88) (v83,v84,l86)=>[(0,pL Zb.enc p0),(3,pP b1 0),(4,pP b2 0),(12,pP b18 0),(13,pB v83),(21,pI v84)]) (fun (a87,c88) (v83,v84,l86)=>[PRes.b b1 32 (ck p1),PRes.b b18 25 [pO a87 l86.length c88,pI 0],PRes.b b2 25 [pN,pI 0],PRes.row a87 l86.length c88 37 5 (List.map Zd.enc l86)]) (a27,c28) (tL rfl) wC ?_
  rintro ⟨a87,c88⟩ ⟨v83,v84,l86⟩ o τ hb94;(try dsimp only at hb94);dsimp only [aK]
  refine gh (bU [179] [(180,pB (decide (v84≤6)))] (by kernel_rfl) rfl hb94 (fun hc96 hb94=>?_) fun hc96 hb94=>?_)
  ·refine ae ?_
   refine dV hb94 fun q102 hq102 hb94=>?_
   refine av (Y:=(Option Addr×Nat)×(Bool×(List Zd))) (fun ((a99,c100),(v97,l101))=>[(0,pL Zb.enc p0),(3,pP b1 0),(4,pP b2 0),(12,pP b18 0),(13,pB v97),(21,pI v84)]) (fun ((a99,c100),(v97,l101))=>[PRes.b b1 32 (ck p1),PRes.b b18 25 [pO a99 l101.length c100,pI 0],PRes.b b2 25 [pN,pI 0],PRes.row a99 l101.length c100 37 5 (List.map Zd.enc l101)]) (fun ((a99,c100),(v97,l101))=>q102=(v97,l101)) ?_ ?_
   ·skip
    refine jX (aa hq102 fun x103 hx103 hq102=>aj (bp 14 [0,0,0,0] ((rg 184 11)++[183]) [(195,.agg (bk x103.1)),(196,pB x103.2)] (bw 10 (od hx103) bL) (by kernel_rfl) (aF rfl (aY (cs:=[pI 0,pI 0,pS ByteArray.empty,pN,pI 0,pI 0,pI 0,pI 0,pI 0,pI 0,pI 0,pB false,pI 0,pB false,pI 0]) rfl rfl rfl rfl (fun b104=>aH rfl rfl (ag (vs:=(bk x103.1)) rfl rfl rfl rfl rfl bB (eH (eH (eH (eH (eH (eH C6)))))) (aL [(23,pB x103.2)] (by kernel_rfl) (cw (ap [(197,pB x103.2)] (by kernel_rfl) (dW rfl hq102 (fun hc105 hq102=>?_) fun hc105 hq102=>?_))))))))))
    ·refine ah ?_
     refine aa hq102 fun x106 hx106 hq102=>aB [0,1,1] ((rg 199 7)++[198,206,207]) [(24,pI x106.1),(25,pI x106.2)] (bw 6 (mg hx106) bL) (by kernel_rfl) (cw (an (rg 208 5) [(13,pB (v83||(x106.2 != 0)))] (by kernel_rfl) (aW (aj (cI 11 [2,0,1,1] [213,215,216,217,218,219,220,221,222] [(214,pO a87 l86.length c88),(223,.agg [pI v84,pI x103.1.ID,pI p1.Quantity,pI p1.Value,pI x106.1])] (by kernel_rfl) (aF rfl (bg rfl rfl rfl rfl rfl (dI rfl eY) rfl rfl rfl rfl (fun b107=>aa hq102 fun l109 hl109 hq102=>?_))))))))
     refine aF rfl (bd (enc:=Zd.enc) rfl rfl rfl rfl rfl rfl rfl rfl rfl dt (by exact aC (aC (aC (aC (aC aN))))) hl109 (fun a110 c111=>?_))
     refine bE 1 [(226,pP b18 0)] (by kernel_rfl) (aH rfl rfl (ag (vs:=[pO a110 l109.length c111]) rfl rfl rfl rfl rfl (bx (bx (bx (bx bB)))) cN (ar (aq ?_))))
     obtain rfl:=osi hq102
     exact am ((a110,c111),((v83||(x106.2 != 0)),l109)) (tL rfl) (bq (aC (aC (aC aN))) (bq (aC (aC (aC aN))) (bq (aC (aC (aC aN))) cq))) rfl
    refine ae ?_
    refine aq ?_
    obtain rfl:=osi hq102
    exact am ((a87,c88),(v83,l86)) (tL rfl) (bq (aC aN) (bq (aC aN) (bq (aC aN) (bq (aC aN) bZ)))) rfl
   rintro ⟨⟨a99,c100⟩,⟨v97,l101⟩⟩ τ hz;(try dsimp only at hz);subst q102;(try dsimp only at hb94);dsimp only [aK]
   refine an [181,182] [(21,pI (IntKind.i64.wrap (v84+1)))] (by kernel_rfl) ?_
   exact bt hb94 (a99,c100) (tL rfl) wC
  refine bc ?_
  refine aP (aJ hb94 (fun ht=>aM rfl ?_))
  exact am ((a87,c88),(v83,l86)) (kH rfl) (bq (aC aN) (bq (aC aN) (bq (aC aN) bZ))) ht.symm
 rintro ⟨⟨a91,c92⟩,⟨v89,l93⟩⟩ τ hz;(try dsimp only at hz);subst q95;(try dsimp only at h);dsimp only [aK]
 refine gh (ap [(26,pI 0)] (by kernel_rfl) (ga h fun q118 hq118 h=>?_))
 refine av (Y:=Unit×Int) (fun (_,v116)=>[(4,pP b2 0),(12,pP b18 0),(13,pB v89)]) (fun (_,v116)=>[PRes.b b18 25 [pO a91 l93.length c92,pI v116],PRes.b b2 25 [pN,pI 0],PRes.row a91 l93.length c92 37 5 (List.map Zd.enc l93)]) (fun (_,v116)=>q118=v116) ?_ ?_
 ·refine aR ?_
  refine aZ (Y:=Unit) (S:=Int×Int) _ hq118 (fun _ (v113,v114)=>[(4,pP b2 0),(12,pP b18 0),(13,pB v89),(26,pI v113)]) (fun _ (v113,v114)=>[PRes.b b18 25 [pO a91 l93.length c92,pI v114],PRes.b b2 25 [pN,pI 0],PRes.row a91 l93.length c92 37 5 (List.map Zd.enc l93)]) () (iP rfl) kY ?_
  rintro _ ⟨v113,v114⟩ o τ hb117;(try dsimp only at hb117);dsimp only [aK]
  refine gh (aV [0] [227,228,229,230] [(231,pB (decide (v113<((l93.length:Nat):Int))))] (by kernel_rfl) (dW rfl hb117 (fun hc119 hb117=>?_) fun hc119 hb117=>?_))
  ·refine ae ?_
   refine cw (aR (aa hb117 fun m120 hm120 hb117=>?_))
   refine kG (Y:=Unit) (fun _=>[(4,pP b2 0),(12,pP b18 0),(13,pB v89),(26,pI v113)]) (fun _=>[PRes.b b18 25 [pO a91 l93.length c92,pI (IntKind.i64.wrap (v114+m120.Amount))],PRes.b b2 25 [pN,pI 0],PRes.row a91 l93.length c92 37 5 (List.map Zd.enc l93)]) (fun _=>True) ?_ ?_
   ·refine hU (ρd:=[PRes.b b18 _ _]) _ (List.Perm.refl _) ?_
    refine az 0 (by kernel_rfl) rfl rfl rfl rfl (ak rfl rfl rfl rfl rfl (.p rfl)) (az 2 (by kernel_rfl) rfl rfl rfl rfl (ak rfl rfl rfl rfl rfl (.p rfl)) (az 4 (by kernel_rfl) rfl rfl rfl rfl (cM (p:=pI v113) rfl (.p rfl)) ?_))
    refine bA 1 3 (by kernel_rfl) ?_ ?_
    ·skip
     refine af rfl rfl rfl rfl (bX (aw (p:=pI v114) rfl (.p rfl) dt rfl) (ai 3 (by kernel_rfl) (af rfl rfl rfl rfl (bX (aw (p:=pO a91 l93.length c92) rfl (.p rfl) dt rfl) (az 5 (by kernel_rfl) rfl rfl rfl rfl (cm (enc:=Zd.enc) (xs:=l93) rfl rfl rfl (.p rfl) fR (.p rfl) (fun _=>hm120)) (az 6 (by kernel_rfl) rfl rfl rfl rfl (ak rfl rfl rfl rfl rfl (.p rfl)) (az 7 (by kernel_rfl) rfl rfl rfl rfl (cn (sz:=5) (p:=pI m120.Amount) (enc:=Zd.enc) (xs:=l93) (a:=a91) v113 4 m120 rfl (.p rfl) rfl fR (fun _=>hm120) rfl) (az 8 (by kernel_rfl) rfl rfl rfl rfl (gM rfl (.p rfl) (.p rfl) rfl) (az 9 (by kernel_rfl) rfl rfl rfl rfl (ak rfl rfl rfl rfl rfl (.p rfl)) (ai 10 (by kernel_rfl) (aQ rfl rfl rfl (ag (vs:=[pI (IntKind.i64.wrap (v114+m120.Amount))]) rfl rfl rfl rfl rfl bB (bf cN) (aT (by kernel_rfl) ?_)))))))))))))
     exact fB () (iP rfl) kY trivial
    skip
    refine af rfl rfl rfl rfl (bX (aw (p:=pO a91 l93.length c92) rfl (.p rfl) dt rfl) (az 5 (by kernel_rfl) rfl rfl rfl rfl (cm (enc:=Zd.enc) (xs:=l93) rfl rfl rfl (.p rfl) fR (.p rfl) (fun _=>hm120)) (az 6 (by kernel_rfl) rfl rfl rfl rfl (ak rfl rfl rfl rfl rfl (.p rfl)) (az 7 (by kernel_rfl) rfl rfl rfl rfl (cn (sz:=5) (p:=pI m120.Amount) (enc:=Zd.enc) (xs:=l93) (a:=a91) v113 4 m120 rfl (.p rfl) rfl fR (fun _=>hm120) rfl) (ai 1 (by kernel_rfl) (af rfl rfl rfl rfl (bX (aw (p:=pI v114) rfl (.p rfl) dt rfl) (az 8 (by kernel_rfl) rfl rfl rfl rfl (gM rfl (.p rfl) (.p rfl) rfl) (az 9 (by kernel_rfl) rfl rfl rfl rfl (ak rfl rfl rfl rfl rfl (.p rfl)) (ai 10 (by kernel_rfl) (aQ rfl rfl rfl (ag (vs:=[pI (IntKind.i64.wrap (v114+m120.Amount))]) rfl rfl rfl rfl rfl bB (bf cN) (aT (by kernel_rfl) ?_)))))))))))))
    exact fB () (iP rfl) kY trivial
   rintro _ τ ρ1 hsub121 _;(try dsimp only at hsub121);dsimp only [aK]
   refine aq (aW (oC hsub121 (an [232,233] [(26,pI (IntKind.i64.wrap (v113+1)))] (by kernel_rfl) ?_)))
   exact bt hb117 () (iP rfl) kY
  refine bc ?_
  refine aP (aJ hb117 (fun ht=>aM rfl ?_))
  exact am ((),v114) (kH rfl) kY ht.symm
 rintro ⟨_,v116⟩ τ hz;(try dsimp only at hz);subst q118;(try dsimp only at h);dsimp only [aK]
 refine gh (aV [0] (rg 244 5) [(249,pB (v89||(decide (1000000000000<v116))))] (by kernel_rfl) (dW rfl h (fun hc122 h=>?_) fun hc122 h=>?_))
 ·refine ah ?_
  refine cP 1 [(250,.agg [pN,pI 0])] (by kernel_rfl) (aH rfl rfl (ag (vs:=[pN,pI 0]) rfl rfl rfl rfl rfl (bx bB) nC (aL [(5,pI 3)] (by kernel_rfl) (aW (di (k:=0) (b:=b2) rfl (bx bB) (cd (aO ?_)))))))
  obtain rfl:=osi h
  exact aI (bD (cg rfl fR rfl) (aD rfl)) bZ ⟨rfl,rfl⟩
 refine ae ?_
 refine cw (aj ?_)
 refine nk (css:=List.map Zd.enc l93) (a:=a91) (by exact aC (aC aN)) ?_
 refine ka (k:=0) (enc:=Zd.enc) (xs:=l93) (b:=b18) (a:=a91) rfl dt (bx bB) (dY 1 [1] [(251,.agg [pL Zd.enc l93,pI v116])] (by kernel_rfl) (aH rfl rfl (ag (vs:=[pL Zd.enc l93,pI v116]) rfl rfl rfl rfl rfl (bx (bx bB)) nC (aL [(5,pI 0)] (by kernel_rfl) (dC ?_)))))
 obtain rfl:=osi h
 exact aI (bD (cg rfl kb rfl) (aD rfl)) bZ ⟨rfl,rfl⟩
def kS (p0:(List Zb)) (p1:Zj):Option (Int×Int):=(jR p0 p1).bind fun x2=>some (x2.1.Total,x2.2)
theorem uh {p0:(List Zb)} {p1:Zj} {r:(Int×Int)}  (h:kS p0 p1=some r):PF 55 [pL Zb.enc p0,.agg (ck p1)] (.tup [pI r.1,pI r.2]):=by
 unfold kS at h
 refine bo ?_
 refine dZ Tryz.func55 rfl Tryz.ntmps55 Tryz.results55 rfl (dj rfl (bC (cs:=(ck p1)) rfl rfl (fun b1=>br [4,5] (by kernel_rfl) (dV h fun x2 hx2 h=>aj (bp 6 [0] [9,10,11,8] [(12,.agg [pL Zd.enc x2.1.Lines,pI x2.1.Total]),(13,pI x2.2)] (bw 2 (sA hx2) bL) (by kernel_rfl) (aF rfl (aY (cs:=[pN,pI 0]) rfl rfl rfl rfl (fun b3=>aH rfl rfl (ag (vs:=[pL Zd.enc x2.1.Lines,pI x2.1.Total]) rfl rfl rfl rfl rfl bB nC (aL [(7,pI x2.2)] (by kernel_rfl) (cw (aV [0] [14,15,16] [(4,pI x2.1.Total),(5,pI x2.2)] (by kernel_rfl) (dC ?_)))))))))))))
 obtain rfl:=osi h
 exact aI (bD (aD rfl) (aD rfl)) bZ ⟨rfl,rfl⟩
def iJ (p0:(List Zb)) (p1:Zk):Option Int:=(gD p1).bind fun x2=>cond (!x2.2) (some (0:Int)) ((kS p0 x2.1).bind fun x5=>cond (x5.2 != 0) (some (0:Int)) (some x5.1))
theorem sB {p0:(List Zb)} {p1:Zk} {r:Int}  (h:iJ p0 p1=some r):PF 22 [pL Zb.enc p0,.agg (bj p1)] (pI r):=by
 unfold iJ at h
 refine bo ?_
 refine dZ Tryz.func22 rfl Tryz.ntmps22 Tryz.results22 rfl (dj rfl (bC (cs:=(bj p1)) rfl rfl (fun b1=>br [4] (by kernel_rfl) (dV h fun x2 hx2 h=>aj (bp 5 [0] [10,11,9] [(12,.agg (ck x2.1)),(13,pB x2.2)] (bw 1 (o7 hx2) bL) (by kernel_rfl) (aF rfl (aY (cs:=[pS ByteArray.empty,pS ByteArray.empty,pB false,pI 0,pI 0,pI 0,pI 0,pI 0]) rfl rfl rfl rfl (fun b3=>aH rfl rfl (ag (vs:=(ck x2.1)) rfl rfl rfl rfl rfl bB AD (aL [(6,pB x2.2)] (by kernel_rfl) (cQ (bU [14] [(15,pB (!x2.2))] (by kernel_rfl) rfl h (fun hc4 h=>?_) fun hc4 h=>?_))))))))))))
 ·refine ah ?_
  refine dq [(4,pI 0)] (by kernel_rfl) ?_
  exact zz r h rfl
 refine ae ?_
 refine dV h fun x5 hx5 h=>aB [0] [17,18,19,16,20,21] [(7,pI x5.1),(8,pI x5.2)] (bw 2 (uh hx5) bL) (by kernel_rfl) (cQ (bU [22] [(23,pB (x5.2 != 0))] (by kernel_rfl) rfl h (fun hc6 h=>?_) fun hc6 h=>?_))
 ·refine ah ?_
  refine dq [(4,pI 0)] (by kernel_rfl) ?_
  exact zz r h rfl
 refine ae ?_
 refine cw (an [24] [(4,pI x5.1)] (by kernel_rfl) (dC ?_))
 exact zz r h rfl
end SX
namespace SX
open Go
theorem iK {S T:Type} {body:S→Option (S⊕T)} (P:S→Prop) (μ:S→Nat) (Q:T→Prop) (step:∀ s,P s→(∃ s',body s=some (.inl s')∧P s'∧μ s'<μ s)∨∃ t,body s=some (.inr t)∧Q t):∀ (N:Nat) (s:S),P s→μ s<N→∃ t,bu body N s=some t∧Q t:=by
 intro N
 induction N with
 | zero=>intro s _ h;exact absurd h (Nat.not_lt_zero _)
 | succ N ih =>
  intro s hp hm
  rw [gz]
  rcases step s hp with ⟨s',h1,h2,h3⟩ | ⟨t,h1,h2⟩
  ·rw [h1];exact ih s' h2 (by omega)
  rw [h1];exact ⟨t,rfl,h2⟩
def Y {α:Type} (x:Option α) (P:α→Prop):Prop:=∃ a,x=some a∧P a
section
variable {α β S T:Type} {x y:Option α} {P P':α→Prop} {Q:β→Prop} {f:α→Option β} {a:α} {c:Bool}
theorem Y.bind (h:Y x P) (k:∀ a,P a→Y (f a) Q):Y (x.bind f) Q:=by
 obtain ⟨a,h1,h2⟩:=h;rw [h1];exact k a h2
theorem Y.ret (h:P a):Y (some a) P:=⟨a,rfl,h⟩
theorem Y.mono (h:Y x P) (k:∀ a,P a→P' a):Y x P':=by obtain ⟨a,h1,h2⟩:=h;exact ⟨a,h1,k a h2⟩
theorem Y.cond (h:c=true→Y x P) (k:c=false→Y y P):Y (cond c x y) P:=by cases c;exact k rfl;exact h rfl
theorem Y.eq {r:α} (h:x=some r) (k:Y (f r) Q):Y (x.bind f) Q:=by rw [h];exact k
theorem Y.loop {body:S→Option (S⊕T)} {R:T→Prop} {s:S} (I:S→Prop) (μ:S→Nat) (h0:I s) (hm:μ s≤1267650600228229401496703205000) (step:∀ s,I s→Y (body s) (fun o=>match o with | .inl s'=>I s'∧μ s'<μ s | .inr t=>R t)):Y (bu body FUEL s) R:=by
 obtain ⟨t,h1,h2⟩:=iK (body:=body) I μ R (fun s hs=>by
  obtain ⟨o,k1,k2⟩:=step s hs
  cases o with
  | inl s'=>exact .inl ⟨s',k1,k2⟩
  | inr t=>exact .inr ⟨t,k1,k2⟩) FUEL s h0 (ip hm)
 exact ⟨t,h1,h2⟩
theorem Y.idx {xs:List α} {i:Int} {n:Nat} (h:i=(n:Int)) (hn:n<xs.length) (k:Y (f xs[n]) Q):Y ((idx xs i).bind f) Q:=by subst h;rw [bV hn];exact k
theorem Y.is {v:α} (h:Y x (fun a=>a=v)):x=some v:=by obtain ⟨a,h1,rfl⟩:=h;exact h1
end
theorem rx (a n:Int) (h1:1≤n) (h2:n≤4611686018427387904):∃ r,fN a n=some r∧0≤r∧r<n:=by
 have hl:=Int.tmod_lt_of_pos a (show 0<n by omega)
 have hl2:=Int.tmod_lt_of_pos (-a) (show 0<n by omega)
 rw [Int.neg_tmod] at hl2
 unfold fN nz lb
 rw [if_neg (by omega),cj (by omega) (by omega)]
 exact ⟨_,rfl,Int.tmod_nonneg _ (by omega),Int.tmod_lt_of_pos _ (by omega)⟩
def SOK (p:Ze):Prop:=0≤p.I∧p.I≤p.L.length∧p.L.length≤1000000000000000
theorem ei {p:Ze} (hp:SOK p) (n:Int) (h1:1≤n) (h2:n≤4611686018427387904):∃ r q,aG p n=some (r,q)∧0≤r∧r<n∧SOK q:=by
 obtain ⟨a1,a2,a3⟩:=hp
 unfold aG
 by_cases h:(p.L.length:Int)≤p.I
 ·rw [det h];exact ⟨_,_,rfl,by omega,by omega,a1,a2,a3⟩
 rw [cD h,cj (r:=p.I+1) (by omega) (by omega),cj (by omega) (by omega)]
 simp only [eu]
 have e:idx p.L (p.I+1 - 1)=some (p.L[p.I.toNat]'(by omega)):=by
  unfold idx;rw [if_pos (by omega)]
  have:(p.I+1 - 1).toNat=p.I.toNat:=by omega
  rw [this];exact List.getElem?_eq_getElem _
 rw [bS e]
 obtain ⟨r,h3,h4,h5⟩:=rx (p.L[p.I.toNat]'(by omega)) n h1 h2
 rw [bS h3]
 exact ⟨_,_,rfl,h4,h5,by simp only;omega,by simp only;omega,a3⟩
theorem Dy (l:List Int) (n:Int) (h:0≤n) (h2:n≤1000):∃ m,lK l n=some m∧(m.length:Int)≤n:=by
 unfold lK
 by_cases h1:n<(l.length:Int)
 ·rw [det h1]
  have e:sub l 0 n=some ((l.take n.toNat).drop 0):=by unfold sub;rw [if_pos (by omega)];rfl
  simp only [dG];rw [bS e];exact ⟨_,rfl,by simp;omega⟩
 rw [cD h1];exact ⟨_,rfl,by omega⟩
theorem kq {p:Ze} (hp:SOK p) (n:Int) (h1:1≤n) (h2:n≤4611686018427387904):Y (aG p n) (fun r=>0≤r.1∧r.1<n∧SOK r.2):=by
 obtain ⟨r,q,h3,h4,h5,h6⟩:=ei hp n h1 h2;exact ⟨(r,q),h3,h4,h5,h6⟩
theorem cut_Y (l:List Int) (n:Int) (h:0≤n) (h2:n≤1000):Y (lK l n) (fun m=>SOK ⟨m,0⟩):=by
 obtain ⟨m,h3,h4⟩:=Dy l n h h2
 exact ⟨m,h3,by dsimp only;omega,by dsimp only;omega,by dsimp only;omega⟩
def qA (y:Int):Bool:=(Int.tmod y 4 == 0)&&((Int.tmod y 100 != 0)||(Int.tmod y 400 == 0))
def ry (y:Int):Int:=cond (qA y) 366 365
def iZ (y:Int) (m:Nat):Int:=cond (m == 1&&qA y) 29 (kf.getD m 0)
def yb:Nat→Int
 | 0=>0
 | n+1=>yb n+ry (2000+n)
def mb (y:Int):Nat→Int
 | 0=>0
 | m+1=>mb y m+iZ y m
theorem nv (y:Int):365≤ry y∧ry y≤366:=by unfold ry;cases qA y <;> simp
theorem iM (y:Int) (m:Nat) (h:m≤11):28≤iZ y m∧iZ y m≤31:=by
 unfold iZ
 cases qA y <;> (rcases (by omega:m=0∨m=1∨m=2∨m=3∨m=4∨m=5∨m=6∨m=7∨m=8∨m=9∨m=10∨m=11) with h | h | h | h | h | h | h | h | h | h | h | h <;> subst h <;> decide)
theorem sR (y:Int):mb y 12=ry y:=by
 unfold ry
 simp only [mb,iZ]
 cases qA y <;> decide
theorem sS (y:Int):∀ {m k:Nat},m≤k→k≤12→mb y m≤mb y k:=by
 intro m k h hk
 induction k with
 | zero =>
  have:m=0:=by omega
  subst this;exact Int.le_refl _
 | succ k ih =>
  rcases Nat.lt_or_ge m (k+1) with h1 | h1
  ·have:=ih (by omega) (by omega);have:=iM y k (by omega);simp only [mb];omega
  have:m=k+1:=by omega
  subst this;exact Int.le_refl _
theorem vu (y:Int) {m:Nat} (h:m≤12):0≤mb y m:=by have:=sS y (Nat.zero_le m) h;simpa [mb] using this
theorem AK (y:Int) {m:Nat} (h:m≤12):mb y m≤366:=by have:=sS y h (Nat.le_refl _);have:=nv y;rw [sR] at *;omega
theorem sT {m k:Nat} (h:m≤k):yb m≤yb k:=by
 induction k with
 | zero =>
  have:m=0:=by omega
  subst this;exact Int.le_refl _
 | succ k ih =>
  rcases Nat.lt_or_ge m (k+1) with h1 | h1
  ·have:=ih (by omega);have:=nv (2000+k);simp only [yb];omega
  have:m=k+1:=by omega
  subst this;exact Int.le_refl _
theorem zL:yb 100=36525:=by kernel_rfl
theorem yb_3:yb 3=1096:=by kernel_rfl
theorem vw (n:Nat):0≤yb n:=by have:=sT (Nat.zero_le n);simpa [yb] using this
theorem AL {n:Nat} (h:n≤100):yb n≤36525:=by have:=sT h;rw [zL] at this;exact this
structure Dec (day:Int) (n m:Nat) (d:Int):Prop where
 n99:n≤99
 m11:m≤11
 d0:0≤d
 dl:d<iZ (2000+n) m
 sum:day=yb n+mb (2000+n) m+d
theorem Dec.uniq {day:Int} {n m n' m':Nat} {d d':Int} (h:Dec day n m d) (g:Dec day n' m' d'):n=n'∧m=m'∧d=d':=by
 have key:∀ {n m n' m':Nat} {d d':Int},Dec day n m d→Dec day n' m' d'→¬ n<n':=fun {n m n' m' d d'} h g hlt=>by
  have h1:=sT (show n+1≤n' from hlt)
  have h2:=sS (2000+(n:Int)) (show m+1≤12 by have:=h.m11;omega) (Nat.le_refl _)
  rw [sR] at h2
  have h3:=vu (2000+(n':Int)) (show m'≤12 by have:=g.m11;omega)
  have:=h.dl;have:=h.sum;have:=g.sum;have:=g.d0
  simp only [yb,mb] at h1 h2;omega
 have hn:n=n':=by have:=key h g;have:=key g h;omega
 subst hn
 have key2:∀ {m m':Nat} {d d':Int},Dec day n m d→Dec day n m' d'→¬ m<m':=fun {m m' d d'} h g hlt=>by
  have h1:=sS (2000+(n:Int)) (show m+1≤m' from hlt) (by have:=g.m11;omega)
  have:=h.dl;have:=h.sum;have:=g.sum;have:=g.d0
  simp only [mb] at h1;omega
 have hm:m=m':=by have:=key2 h g;have:=key2 g h;omega
 subst hm
 have:=h.sum;have:=g.sum
 exact ⟨rfl,rfl,by omega⟩
theorem AM (y:Int):dd y=some (ry y):=by
 unfold dd hZ ry qA
 simp only [dn]
 cases ((Int.tmod y 4 == 0)&&((Int.tmod y 100 != 0)||(Int.tmod y 400 == 0))) <;> rfl
theorem qB (y:Int) (m:Nat) (h:m≤11):cG y ((m:Int)+1)=some (iZ y m):=by
 unfold cG hZ iZ qA
 have e1:(((m:Int)+1) == 2)=(m == 1):=by rw [Bool.eq_iff_iff];simp;omega
 have e2:idx kf (IntKind.i64.wrap ((m:Int)+1 - 1))=some (kf.getD m 0):=by
  rw [cj (by omega) (by omega),show (m:Int)+1 - 1=(m:Int) by omega,bV (show m<kf.length by unfold kf;simp;omega),ns]
 rw [e1,e2]
 cases (m == 1) <;> cases ((Int.tmod y 4 == 0)&&((Int.tmod y 100 != 0)||(Int.tmod y 400 == 0))) <;> rfl
theorem of_Y {day:Int} (h0:0≤day) (h1:day≤36524):Y (kM day) (fun r=>∃ (n m:Nat) (d:Int),r=(⟨2000+(n:Int),(m:Int)+1,d+1⟩,0)∧Dec day n m d):=by
 unfold kM jL
 rw [det h0,det h1]
 simp only [dn,Bool.and_self,Bool.not_true,eu]
 refine Y.bind (P:=fun s=>∃ n:Nat,n≤99∧s.2=2000+(n:Int)∧s.1+yb n=day∧0≤s.1∧s.1<ry (2000+n)) ?_ ?_
 ·refine Y.loop (fun s:Int×Int=>∃ n:Nat,n≤99∧s.2=2000+(n:Int)∧s.1+yb n=day∧0≤s.1) (fun s=>(s.1).toNat) ⟨0,by omega,rfl,by simp [yb],h0⟩ (by dsimp only;omega) ?_
  rintro ⟨a,b⟩ ⟨n,hn,hb,hs,ha⟩
  dsimp only at hb hs ha ⊢
  subst hb
  simp only [AM,dn]
  have hy:=nv (2000+(n:Int))
  refine Y.cond (fun hc=>?_) (fun hc=>Y.ret ⟨n,hn,rfl,hs,ha,by have:=of_decide_eq_false hc;omega⟩)
  have hc:=of_decide_eq_true hc
  have hn2:n+1≤99:=by
   rcases Nat.lt_or_ge n 99 with h | h
   ·exact h
   have:n=99:=by omega
   subst this
   have e:yb 100=yb 99+ry (2000+(99:Nat)):=rfl
   rw [zL] at e;omega
  have:=vw n
  refine Y.ret ⟨⟨n+1,hn2,?_,?_,?_⟩,?_⟩
  ·show IntKind.i64.wrap _=_;rw [cj (by omega) (by omega)];omega
  ·show IntKind.i64.wrap _+_=_;rw [cj (by omega) (by omega)];simp only [yb];omega
  ·show 0≤IntKind.i64.wrap _;rw [cj (by omega) (by omega)];omega
  show (IntKind.i64.wrap _).toNat<_;rw [cj (by omega) (by omega)];omega
 rintro ⟨a,b⟩ ⟨n,hn,hb,hs,ha,hl⟩
 dsimp only at hb hs ha hl ⊢
 subst hb
 refine Y.bind (P:=fun s=>∃ m:Nat,m≤11∧s.2=(m:Int)+1∧s.1+mb (2000+n) m=a∧0≤s.1∧s.1<iZ (2000+n) m) ?_ ?_
 ·refine Y.loop (fun s:Int×Int=>∃ m:Nat,m≤11∧s.2=(m:Int)+1∧s.1+mb (2000+n) m=a∧0≤s.1) (fun s=>(s.1).toNat) ⟨0,by omega,rfl,by simp [mb],ha⟩ (by dsimp only;have:=nv (2000+(n:Int));omega) ?_
  rintro ⟨u,v⟩ ⟨m,hm,hv,hu,h2⟩
  dsimp only at hv hu h2 ⊢
  subst hv
  simp only [qB _ m hm,dn]
  have hy:=iM (2000+(n:Int)) m hm
  have:=nv (2000+(n:Int))
  refine Y.cond (fun hc=>?_) (fun hc=>Y.ret ⟨m,hm,rfl,hu,h2,by have:=of_decide_eq_false hc;omega⟩)
  have hc:=of_decide_eq_true hc
  have hm2:m+1≤11:=by
   rcases Nat.lt_or_ge m 11 with h | h
   ·exact h
   have:m=11:=by omega
   subst this
   have e:mb (2000+(n:Int)) 12=mb (2000+(n:Int)) 11+iZ (2000+(n:Int)) 11:=rfl
   rw [sR] at e;omega
  have:=vu (2000+(n:Int)) (show m≤12 by omega)
  refine Y.ret ⟨⟨m+1,hm2,?_,?_,?_⟩,?_⟩
  ·show IntKind.i64.wrap _=_;rw [cj (by omega) (by omega)];omega
  ·show IntKind.i64.wrap _+_=_;rw [cj (by omega) (by omega)];simp only [mb];omega
  ·show 0≤IntKind.i64.wrap _;rw [cj (by omega) (by omega)];omega
  show (IntKind.i64.wrap _).toNat<_;rw [cj (by omega) (by omega)];omega
 rintro ⟨u,v⟩ ⟨m,hm,hv,hu,h2,h3⟩
 dsimp only at hv hu h2 h3 ⊢
 subst hv
 have:=iM (2000+(n:Int)) m hm
 exact Y.ret ⟨n,m,u,by rw [cj (by omega) (by omega)],hn,hm,h2,h3,by omega⟩
theorem BM {n m:Nat} {dom:Int} (hn:n≤99) (hm:m≤11) (h1:1≤dom) (h2:dom≤iZ (2000+n) m):gP ⟨2000+(n:Int),(m:Int)+1,dom⟩=some (dom - 1+yb n+mb (2000+n) m,0):=by
 have hl:=iM (2000+(n:Int)) m hm
 unfold gP
 dsimp only
 rw [cD (by omega:¬ 2000+(n:Int)<2000),cD (by omega:¬ (2100:Int)≤2000+(n:Int)),cD (by omega:¬ (m:Int)+1<1),cD (by omega:¬ (12:Int)<(m:Int)+1),cD (by omega:¬ dom<1)]
 simp only [Bool.or_self,eu,Bool.not_false,Bool.false_or,dH,qB _ m hm,dn]
 rw [cD (by omega:¬ iZ (2000+(n:Int)) m<dom),eu,cj (r:=dom - 1) (by omega) (by omega)]
 have hyb:=AL (show n≤100 by omega)
 have e1:=Y.is (Y.loop (body:=fun (v5,v6)=>cond (decide (v6<2000+(n:Int))) (Option.bind (dd v6) (fun x11=>some (.inl ((IntKind.i64.wrap (v5+x11)),(IntKind.i64.wrap (v6+1)))))) (some (.inr v5))) (R:=fun t=>t=dom - 1+yb n) (s:=(dom - 1,2000)) (fun s:Int×Int=>∃ k:Nat,k≤n∧s=(dom - 1+yb k,2000+(k:Int))) (fun s=>(2000+(n:Int) - s.2).toNat) ⟨0,by omega,by simp [yb]⟩ (by dsimp only;omega) (by
  rintro s ⟨k,hk,rfl⟩
  dsimp only
  simp only [AM,dn]
  have:=AL (show k≤100 by omega);have:=vw k;have:=nv (2000+(k:Int))
  refine Y.cond (fun hc=>?_) (fun hc=>Y.ret ?_)
  ·have hc:=of_decide_eq_true hc
   refine Y.ret ⟨⟨k+1,by omega,?_⟩,?_⟩
   ·rw [cj (by omega) (by omega),cj (by omega) (by omega)];simp only [yb];congr 1 <;> omega
   show (2000+(n:Int) - IntKind.i64.wrap _).toNat<_;rw [cj (by omega) (by omega)];omega
  have hc:=of_decide_eq_false hc
  have:k=n:=by omega
  subst this;rfl))
 rw [bS e1]
 have hmb:=AK (2000+(n:Int)) (show m≤12 by omega)
 have e2:=Y.is (Y.loop (body:=fun (v12,v13)=>cond (decide (v13<(m:Int)+1)) (Option.bind (cG (2000+(n:Int)) v13) (fun x18=>some (.inl ((IntKind.i64.wrap (v12+x18)),(IntKind.i64.wrap (v13+1)))))) (some (.inr v12))) (R:=fun t=>t=dom - 1+yb n+mb (2000+n) m) (s:=(dom - 1+yb n,1)) (fun s:Int×Int=>∃ k:Nat,k≤m∧s=(dom - 1+yb n+mb (2000+n) k,(k:Int)+1)) (fun s=>((m:Int)+1 - s.2).toNat) ⟨0,by omega,by simp [mb]⟩ (by dsimp only;omega) (by
  rintro s ⟨k,hk,rfl⟩
  dsimp only
  have:=vw n;have:=vu (2000+(n:Int)) (show k≤12 by omega);have:=AK (2000+(n:Int)) (show k≤12 by omega)
  refine Y.cond (fun hc=>?_) (fun hc=>Y.ret ?_)
  ·have hc:=of_decide_eq_true hc
   have:=iM (2000+(n:Int)) k (by omega)
   rw [qB _ k (by omega),dn]
   refine Y.ret ⟨⟨k+1,by omega,?_⟩,?_⟩
   ·rw [cj (by omega) (by omega),cj (by omega) (by omega)];simp only [mb];congr 1 <;> omega
   show ((m:Int)+1 - IntKind.i64.wrap _).toNat<_;rw [cj (by omega) (by omega)];omega
  have hc:=of_decide_eq_false hc
  have:k=m:=by omega
  subst this;rfl))
 rw [bS e2]
def rz (n m:Nat) (d:Int):Int×Int:=cond (Nat.ble 97 n) (0,3) (ex (d+1) (iZ (2000+(n+3:Nat)) m) - 1+yb (n+3)+mb (2000+(n+3:Nat)) m,0)
theorem Dz {day:Int} {n m:Nat} {d:Int} (h0:0≤day) (h1:day≤36524) (hd:Dec day n m d):dO day 36=some (rz n m d):=by
 obtain ⟨r,e,n',m',d',rfl,hd'⟩:=of_Y h0 h1
 obtain ⟨u1,u2,u3⟩:=hd.uniq hd'
 subst u1 u2 u3
 have hn:=hd.n99;have hm:=hd.m11;have hd0:=hd.d0;have hdl:=hd.dl
 unfold dO rz
 rw [bS e]
 dsimp only
 have w:IntKind.i64.wrap (IntKind.i64.wrap (IntKind.i64.wrap (IntKind.i64.wrap (IntKind.i64.wrap (2000+(n:Int) - 2000)*12)+((m:Int)+1)) - 1)+36)=12*(n:Int)+(m:Int)+36:=by
  rw [cj (r:=2000+(n:Int) - 2000) (by omega) (by omega),cj (r:=(2000+(n:Int) - 2000)*12) (by omega) (by omega),cj (r:=(2000+(n:Int) - 2000)*12+((m:Int)+1)) (by omega) (by omega),cj (r:=(2000+(n:Int) - 2000)*12+((m:Int)+1) - 1) (by omega) (by omega),cj (by omega) (by omega)];omega
 unfold lb
 rw [w]
 have c0:((0:Int) != 0||decide ((36:Int) < -1200)||decide ((1200:Int)<36))=false:=by decide
 dsimp only
 rw [c0,eu,cD (by omega:¬ 12*(n:Int)+(m:Int)+36<0),Bool.false_or]
 rcases Nat.lt_or_ge n 97 with hlt | hge
 ·rw [cD (by omega:¬ (1200:Int)≤12*(n:Int)+(m:Int)+36),eu]
  rw [Int.tdiv_eq_ediv_of_nonneg (by omega),Int.tmod_eq_emod_of_nonneg (by omega)]
  rw [cj (r:=(12*(n:Int)+(m:Int)+36) / 12) (by omega) (by omega),cj (r:=2000+(12*(n:Int)+(m:Int)+36) / 12) (by omega) (by omega),cj (r:=(12*(n:Int)+(m:Int)+36) % 12+1) (by omega) (by omega)]
  have e1:2000+(12*(n:Int)+(m:Int)+36) / 12=2000+((n+3:Nat):Int):=by omega
  have e2:(12*(n:Int)+(m:Int)+36) % 12+1=(m:Int)+1:=by omega
  rw [e1,e2,qB _ m hm,dn]
  have hl:=iM (2000+((n+3:Nat):Int)) m hm
  have hle:1≤ex (d+1) (iZ (2000+((n+3:Nat):Int)) m)∧ex (d+1) (iZ (2000+((n+3:Nat):Int)) m)≤iZ (2000+((n+3:Nat):Int)) m:=by unfold ex;split <;> omega
  rw [bS (BM (n:=n+3) (by omega) hm hle.1 hle.2)]
  rw [show Nat.ble 97 n=false by rw [Bool.eq_false_iff];intro h;have:=Nat.le_of_ble_eq_true h;omega]
  rfl
 rw [det (by omega:(1200:Int)≤12*(n:Int)+(m:Int)+36),dG,Nat.ble_eq_true_of_le hge];rfl
theorem addS_ge {n m:Nat} {d:Int} (hm:m≤11) (hd:0≤d):(rz n m d).2=0→30≤(rz n m d).1:=by
 unfold rz
 cases Nat.ble 97 n
 ·intro _
  simp only [eu]
  have h1:=sT (show 3≤n+3 by omega)
  rw [yb_3] at h1
  have h2:=vu (2000+((n+3:Nat):Int)) (show m≤12 by omega)
  have h3:=iM (2000+((n+3:Nat):Int)) m hm
  have h4:1≤ex (d+1) (iZ (2000+((n+3:Nat):Int)) m):=by unfold ex;split <;> omega
  omega
 intro h;simp at h
section
variable {γ:Type} [Inhabited γ]
theorem uW (e:γ→Value) (D:Array γ) (cur:Array Value) (h:D.size≤cur.size):(Sort.putCells e 0 D cur).toList.take D.size=D.toList.map e:=by
 apply List.ext_getElem
 ·simp [Sort.putCells];omega
 intro i h1 h2
 have h3:i<D.size:=by simpa using h2
 simp [Sort.putCells,h3]
theorem yo {e:γ→Value} {w:World} {b:Nat} {D:Array γ} {cur:Array Value} {T:Nat} {fr:Nat×Nat} (h:w.heap[b]?=some (.cells cur T fr)):(Sort.putRow e w b 0 D).heap[b]?=some (.cells (Sort.putCells e 0 D cur) T fr):=by
 simp [Sort.putRow,Sort.mapBlock,Array.getElem?_modify,h,Sort.onCells]
theorem ui {e:γ→Value} {w:World} {b i:Nat} {D:Array γ} (h:i≠b):(Sort.putRow e w b 0 D).heap[i]?=w.heap[i]?:=by
 simp only [Sort.putRow,Sort.mapBlock,Array.getElem?_modify]
 rw [if_neg (fun e=>h e.symm)]
theorem uj {β:Base} {l:List Res} {κ:Kr} {b n c T sz m:Nat} {css css':List (List Value)} {os:Array Obj} {e:γ→Value} {D:Array γ} (hi:Zl β (Res.row (some ⟨b,0,none⟩) n c T sz css::l) κ) (hF:D.toList.map e=css'.flatten) (hl:css'.length=n) (hw:∀ cs∈css',cs.length=sz) :
    Zl β (Res.row (some ⟨b,0,none⟩) n c T sz css'::l) ⟨Sort.grow (Sort.putRow e (Sort.ahead κ.w m) b 0 D) os,κ.S⟩∧Kle κ ⟨Sort.grow (Sort.putRow e (Sort.ahead κ.w m) b 0 D) os,κ.S⟩:=by
  have ho:=hi.own _ (List.mem_cons_self)
  obtain ⟨h1,h2,h3,h4,h5,cur,h6,h7,h8⟩:=ho
  have hD:D.size=n*sz:=by
    have:=congrArg List.length hF
    rw [List.length_map,eG hw,hl] at this
    simpa using this
  have hle:D.size≤cur.size:=by rw [hD,h7];exact Nat.mul_le_mul_right _ h4
  have t1:=hi.turn (r':=Res.row (some ⟨b,0,none⟩) n c T sz css') (l1:=[]) (b:=b) (w':=Sort.putRow e (Sort.ahead κ.w m) b 0 D) rfl rfl rfl (fun i hne=>ui hne) (by simp [Sort.putRow,Sort.mapBlock,Sort.ahead])
    ⟨h1,hl,hw,h4,h5,_,yo (w:=Sort.ahead κ.w m) h6,by simpa [Sort.putCells] using h7,by rw [← hD,uW e D cur hle,hF]⟩ rfl rfl rfl (by simp [Sort.putRow,Sort.mapBlock,Sort.ahead])
  have hh:=t1.1.own _ (List.mem_cons_self)
  have hb2:b<(Sort.putRow e (Sort.ahead κ.w m) b 0 D).heap.size:=by
    have:=(t1.1.blk _ (List.mem_cons_self) b rfl).1;exact this
  have hold:∀ i,i<(Sort.putRow e (Sort.ahead κ.w m) b 0 D).heap.size→(Sort.grow (Sort.putRow e (Sort.ahead κ.w m) b 0 D) os).heap[i]?=(Sort.putRow e (Sort.ahead κ.w m) b 0 D).heap[i]?:=fun i h=>by
    simp only [Sort.grow];rw [Array.getElem?_append_left h]
  have hh2:(Res.row (some ⟨b,0,none⟩) n c T sz css').holds (Sort.grow (Sort.putRow e (Sort.ahead κ.w m) b 0 D) os):=by
    have:(Sort.grow (Sort.putRow e (Sort.ahead κ.w m) b 0 D) os).heap[b]?=(Sort.putRow e (Sort.ahead κ.w m) b 0 D).heap[b]?:=hold b hb2
    unfold Res.holds at hh ⊢
    show (Res.row (some ⟨b,0,none⟩) n c T sz css').says (Sort.grow (Sort.putRow e (Sort.ahead κ.w m) b 0 D) os).heap[b]?
    rw [this];exact hh
  obtain ⟨i3,k3⟩:=t1.1.grow (r':=Res.row (some ⟨b,0,none⟩) n c T sz css') (w':=Sort.grow (Sort.putRow e (Sort.ahead κ.w m) b 0 D) os) ⟨rfl,rfl,rfl,by simp [Sort.grow],fun i h _=>hold i h⟩ (.inr (.inl rfl)) hh2 (CG hh2) (Nat.le_refl _)
  exact ⟨i3,t1.2.trans k3⟩
end
theorem rA {α:Type} {lt:α→α→Bool} (l:List α):(fY lt l).length=l.length:=nr.length_eq
theorem le_grow {κ κ':Kr} (h:Le [] κ κ'):∃ q os',κ'.w=Sort.grow (κ.w.drewN q) os':=by
 refine ⟨κ'.w.drawn - κ.w.drawn,κ'.w.heap.extract κ.w.heap.size κ'.w.heap.size,?_⟩
 have hz:=h.kle.size
 have hd:=h.drawn rfl
 have e1:κ'.w.heap=κ.w.heap++κ'.w.heap.extract κ.w.heap.size κ'.w.heap.size:=by
  apply Array.ext_getElem?
  intro i
  rcases Nat.lt_or_ge i κ.w.heap.size with hi | hi
  ·rw [Array.getElem?_append_left hi];exact h.same i hi (by simp)
  rw [Array.getElem?_append_right hi,Array.getElem?_extract]
  split
  ·congr 1;omega
  rw [Array.getElem?_eq_none (by omega)]
 cases hw:κ'.w with
 | mk heap tape drawn os output =>
  have h2:=h.tape;have h3:=h.os;have h4:=h.output
  rw [hw] at e1 h2 h3 h4 hd
  simp only at e1 h2 h3 h4 hd
  simp only [Sort.grow,World.drewN]
  subst h2 h3 h4
  rw [← e1]
  congr 1;omega
theorem vx {γ:Type} [Inhabited γ] (enc:γ→List Value) (k:Nat) (hk:∀ x,(enc x).length=k):∀ L:List γ,(List.range (L.length*k)).map (fun t=>(enc L[t / k]!)[t % k]!)=(L.map enc).flatten
 | []=>by simp
 | x::xs=>by
  have ih:=vx enc k hk xs
  rcases Nat.eq_zero_or_pos k with h0 | h0
  ·subst h0
   have:∀ M:List γ,(M.map enc).flatten=[]:=fun M=>by
    rw [List.flatten_eq_nil_iff];intro l hl;obtain ⟨y,_,rfl⟩:=List.mem_map.1 hl;exact List.eq_nil_of_length_eq_zero (hk y)
   rw [this];simp
  rw [List.length_cons,Nat.add_mul,Nat.one_mul,Nat.add_comm,List.range_add,List.map_append,List.map_cons,List.flatten_cons,← ih,List.map_map]
  congr 1
  ·apply List.ext_getElem
   ·simp [hk]
   intro i h1 h2
   have hi:i<k:=by simpa using h1
   simp [Nat.div_eq_of_lt hi,Nat.mod_eq_of_lt hi,getElem!_pos,h2]
  apply List.map_congr_left
  intro t _
  simp only [Function.comp,Nat.add_div_left _ h0,Nat.add_mod_left]
  rfl
theorem uk {γ:Type} [Inhabited γ] (enc:γ→List Value) (k:Nat) (hk:∀ x,(enc x).length=k) (d:Array γ):(Sort.flatK enc k d).toList.map id=(d.toList.map enc).flatten:=by
 rw [List.map_id,← vx enc k hk]
 simp only [Sort.flatK,Array.toList_map,Array.toList_range,Array.length_toList]
 apply List.map_congr_left
 intro t _
 congr 2
 simp [getElem!_def]
section
variable {α:Type} {enc:α→List PV} {encV:α→List Value}
theorem yp {κ:Kr} (hinv:∀ x ds,Rps κ (enc x) ds→ds=encV x):∀ {xs:List α} {dss:List (List Value)},Rpss κ (xs.map enc) dss→dss=xs.map encV
 | [],_,h=>h.nil_inv
 | x::xs,_,h=>by
  obtain ⟨d,ds,rfl,h1,h2⟩:=h.cons_inv
  rw [yp hinv h2,hinv _ _ h1];rfl
theorem r8 {κ:Kr} (hmk:∀ x,Rps κ (enc x) (encV x)):∀ {xs:List α},Rpss κ (xs.map enc) (xs.map encV)
 | []=>.nil
 | x::xs=>.cons (hmk x) (r8 hmk)
theorem callSF [Inhabited α] {f g T k:Nat} {ρs:Shelf.Ren} (L:SlLaysF0.n6 Tryz.prog ρs) (hf:ρs.f 6=f) (fOk:FnOk f) (gOk:FnOk g) (aE:∀ w,(isAgg (ρs.t 24)).run Tryz.prog w=.ok true w) (zE:∀ w,(Go.sizeOf (ρs.t 24)).run Tryz.prog w=.ok k w)
    (hk:∀ x,(encV x).length=k) (h1:∀ x,∀ v∈encV x,v.oneCell'=true) (hinv:∀ κ x ds,Rps κ (enc x) ds→ds=encV x) (hmk:∀ κ x,Rps κ (enc x) (encV x)) (cf:α→α→Int) (hO:Sort.SWO (ltOf cf)) (hT:∀ x y,ltOf cf x y=false→ltOf cf y x=false→x=y)
    (hcmp:∀ x y,PF g [.agg (enc x),.agg (enc y)] (pI (cf x y))) {p0:List α} {a:Option Addr} {n c:Nat}:PCall f [.v (.slice a n c),.fn g []] [PRes.row a n c T k (List.map enc p0)] (fun pv ρ'=>pv=.tup []∧ρ'=[PRes.row a n c T k (List.map enc (fY (ltOf cf) p0))]):=fun κ args ρ gk ha hr=>by
  subst hf
  obtain ⟨v,ws,rfl,ha1,ha2⟩:=ha.cons_inv
  obtain ⟨v2,ws2,rfl,ha3,ha4⟩:=ha2.cons_inv
  rw [ha4.nil_inv,ha1.val]
  have hv2:v2=.func (.func g) #[] #[]:=by
    cases ha3 with
    | fn h=>rw [h.nil_inv]
  subst hv2
  obtain ⟨r0,l',rfl,hr1,hr2⟩:=hr.cons_inv
  have:=hr2.nil_inv;subst this
  refine ⟨fOk,fun hi=>?_⟩
  have hn1:∀ l:List α,∀ cs∈l.map encV,cs.length=k:=fun l cs hcs=>by obtain ⟨q,_,rfl⟩:=List.mem_map.1 hcs;exact hk q
  cases hr1 with
  | row hb ho hc =>
    have hd:=yp (hinv κ) hc;subst hd
    have how:=hi.own _ (List.mem_cons_self)
    cases a with
    | none =>
      obtain ⟨rfl,rfl,h3⟩:=how
      have hp:p0=[]:=List.map_eq_nil_iff.1 h3
      subst hp
      refine (AnyF.slices_SortFunc_none L none 0 _ κ.w).mono fun e w' ⟨h1,h2⟩=>?_
      subst h1 h2
      exact ⟨_,_,κ,rfl,rfl,hi,.tup [],_,.tup .nil,.cons (.row hb ho (by exact .nil)) .nil,rfl,rfl⟩
    | some ad =>
      obtain ⟨q1,h2,h3,h4,h5,cur,h6,h7,h8⟩:=how
      obtain ⟨b,off,sp⟩:=ad
      injection q1 with h1a h1b h1c
      subst h1b h1c
      have hblk:b<κ.w.heap.size:=(hi.blk _ (List.mem_cons_self) b rfl).1
      have hn:n=p0.toArray.size:=by rw [← h2];simp
      have hz:(Sort.flatK encV k p0.toArray).size=n*k:=by rw [Sort.size_flatK,← hn]
      have hft:(Sort.flatK encV k p0.toArray).toList=cur.toList.take (n*k):=by
        rw [h8,← uk encV k hk,List.map_id]
      have hH:Sort.HoldsK encV k κ.w b 0 p0.toArray:=by
        intro j hj
        have hj2:j<n*k:=by rw [← hz];exact hj
        have hj3:(Sort.flatK encV k p0.toArray)[j]?=cur[j]?:=by
          rw [← Array.getElem?_toList,hft,List.getElem?_take,if_pos hj2,Array.getElem?_toList]
        constructor
        · simp only [World.cell?,h6,Option.isSome_none,Bool.false_eq_true,if_false,Nat.zero_add]
          rw [← hj3,Array.getElem?_eq_getElem hj,getElem!_pos _ j hj];rfl
        simp [World.frozen?,h6]
      have hcl:CmpLays Tryz.prog g #[] encV k cf b 0 p0.toArray.size κ.w:=fun m os dk hs x y=>by
        obtain ⟨i1,k1⟩:=uj (m:=m) (os:=os) (e:=id) (D:=Sort.flatK encV k dk) (css':=dk.toList.map encV) hi (uk encV k hk dk) (by rw [List.length_map,Array.length_toList,hs,hn]) (hn1 _)
        have hc2:=hcmp x y ⟨_,κ.S⟩ [.agg (encV x).toArray,.agg (encV y).toArray] (gk.mono k1) (.cons (.agg (h1 x) (hmk _ x)) (.cons (.agg (h1 y) (hmk _ y)) .nil))
        refine (hc2.2 ⟨Le.refl _ _,i1.fin,by simp,by simp,List.Pairwise.nil⟩).mono fun e w' ⟨v,ρ',κ',g1,g2,g3,g4⟩=>?_
        obtain ⟨q,os',hq⟩:=le_grow g3.le
        subst g1 g2
        exact ⟨by rw [g4.2.val],q,os',hq⟩
      rw [hn]
      refine (AnyQ.slices_SortFunc_total L k aE zE encV hk h1 cf hO g #[] b 0 c p0.toArray κ.w (fun args w=>jD gOk args w) hcl hH hblk (by rw [← hn];unfold maxLen at h5;omega) hT).mono fun e w' ⟨k1,m,os,k2⟩=>?_
      have hso:(p0.toArray.toList.mergeSort fun x y => !(ltOf cf) y x)=fY (ltOf cf) p0:=by
        refine rY (lt:=ltOf cf) hT ?_ (qn hO.trans hO.ntrans hO.irrefl p0) ((List.mergeSort_perm _ _).trans nr.symm)
        have h:=List.pairwise_mergeSort (le:=fun x y:α => !(ltOf cf) y x) (fun a b c h1 h2=>by
          simp only [Bool.not_eq_true'] at h1 h2 ⊢;exact hO.ntrans _ _ _ h2 h1) (fun a b=>by
          cases e1:ltOf cf b a
          · simp
          cases e2:ltOf cf a b
          · simp
          have:=hO.trans _ _ _ e1 e2;rw [hO.irrefl] at this;cases this) p0
        exact h.imp fun {a b} hab=>by simpa using hab
      rw [hso] at k2
      subst k1 k2
      obtain ⟨i1,i2⟩:=uj (m:=m) (os:=os) (e:=id) (css':=(fY (ltOf cf) p0).map encV) (D:=Sort.flatK encV k (fY (ltOf cf) p0).toArray) hi (uk encV k hk _) (by rw [List.length_map,rA];rw [← h2];simp) (hn1 _)
      exact ⟨_,_,⟨_,κ.S⟩,rfl,rfl,i1,.tup [],_,.tup .nil,.cons (.row hb (by intro cs hcs;obtain ⟨q,_,rfl⟩:=List.mem_map.1 hcs;exact h1 q) (r8 (hmk _))) .nil,rfl,by rw [← hn]⟩
end
end SX
end Go.Proofs.YtmgcadfnkchnfaaGreatDoor
namespace Go.Proofs
open Go.Shelf
def Tryz.lSD_ren:Go.Shelf.Ren:=⟨fun | 6=>91 | 15=>73 | 14=>127 | 28=>110 | 29=>111 | 20=>155 | 21=>156 | 22=>157 | 23=>158 | 24=>159 | 25=>160 | 26=>161 | 27=>162 | 46=>185 | 47=>134 | 48=>135 | 49=>186 | 50=>187 | 57=>195 | n=>n,fun | 22=>41 | 24=>93 | 25=>101 | 3=>3 | 39=>132 | 0=>0 | 53=>173 | 55=>110 | 4=>4 | 46=>167 | 45=>166 | 50=>129 | 5=>5 | 9=>9 | 66=>184 | 70=>188 | 76=>218 | 77=>219 | n=>n,fun | n=>n⟩
theorem Tryz.lSD:Go.Proofs.SlLaysF0.n6 Tryz.prog Tryz.lSD_ren:={
 mixed:=by kernel_rfl
 f6:=⟨Tryz.f91.name,by decide,Tryz.func91.trans (congrArg some (by kernel_rfl))⟩
 f14:=⟨Tryz.f127.name,by decide,Tryz.func127.trans (congrArg some (by kernel_rfl))⟩
 f15:=Tryz.func73.trans (congrArg some (by kernel_rfl))
 f20:=⟨Tryz.f155.name,by decide,Tryz.func155.trans (congrArg some (by kernel_rfl))⟩
 f21:=⟨Tryz.f156.name,by decide,Tryz.func156.trans (congrArg some (by kernel_rfl))⟩
 f22:=⟨Tryz.f157.name,by decide,Tryz.func157.trans (congrArg some (by kernel_rfl))⟩
 f23:=⟨Tryz.f158.name,by decide,Tryz.func158.trans (congrArg some (by kernel_rfl))⟩
 f24:=⟨Tryz.f159.name,by decide,Tryz.func159.trans (congrArg some (by kernel_rfl))⟩
 f25:=⟨Tryz.f160.name,by decide,Tryz.func160.trans (congrArg some (by kernel_rfl))⟩
 f26:=⟨Tryz.f161.name,by decide,Tryz.func161.trans (congrArg some (by kernel_rfl))⟩
 f27:=⟨Tryz.f162.name,by decide,Tryz.func162.trans (congrArg some (by kernel_rfl))⟩
 f28:=Tryz.func110.trans (congrArg some (by kernel_rfl))
 f29:=Tryz.func111.trans (congrArg some (by kernel_rfl))
 f46:=⟨Tryz.f185.name,by decide,Tryz.func185.trans (congrArg some (by kernel_rfl))⟩
 f47:=Tryz.func134.trans (congrArg some (by kernel_rfl))
 f48:=Tryz.func135.trans (congrArg some (by kernel_rfl))
 f49:=⟨Tryz.f186.name,by decide,Tryz.func186.trans (congrArg some (by kernel_rfl))⟩
 f50:=⟨Tryz.f187.name,by decide,Tryz.func187.trans (congrArg some (by kernel_rfl))⟩
 f57:=⟨Tryz.f195.name,by decide,Tryz.func195.trans (congrArg some (by kernel_rfl))⟩
 t0:=Tryz.underlying0
 a0:=Tryz.isAgg0
 z0:=Tryz.sizeOf0
 v0:=Tryz.zeroValue0
 t3:=Tryz.underlying3
 a3:=Tryz.isAgg3
 z3:=Tryz.sizeOf3
 v3:=Tryz.zeroValue3
 t4:=Tryz.underlying4
 a4:=Tryz.isAgg4
 z4:=Tryz.sizeOf4
 v4:=Tryz.zeroValue4
 t5:=Tryz.underlying5
 a5:=Tryz.isAgg5
 z5:=Tryz.sizeOf5
 v5:=Tryz.zeroValue5
 t9:=Tryz.underlying9
 a9:=Tryz.isAgg9
 z9:=Tryz.sizeOf9
 v9:=Tryz.zeroValue9
 t22:=Tryz.underlying41
 a22:=Tryz.isAgg41
 z22:=Tryz.sizeOf41
 v22:=Tryz.zeroValue41
 t25:=Tryz.underlying101
 a25:=Tryz.isAgg101
 z25:=Tryz.sizeOf101
 v25:=Tryz.zeroValue101
 t39:=Tryz.underlying132
 a39:=Tryz.isAgg132
 z39:=Tryz.sizeOf132
 v39:=Tryz.zeroValue132
 t45:=Tryz.underlying166
 a45:=Tryz.isAgg166
 z45:=Tryz.sizeOf166
 v45:=Tryz.zeroValue166
 t46:=Tryz.underlying167
 a46:=Tryz.isAgg167
 z46:=Tryz.sizeOf167
 v46:=Tryz.zeroValue167
 t50:=Tryz.underlying129
 a50:=Tryz.isAgg129
 z50:=Tryz.sizeOf129
 v50:=Tryz.zeroValue129
 t53:=Tryz.underlying173
 a53:=Tryz.isAgg173
 z53:=Tryz.sizeOf173
 v53:=Tryz.zeroValue173
 t55:=Tryz.underlying110
 a55:=Tryz.isAgg110
 z55:=Tryz.sizeOf110
 v55:=Tryz.zeroValue110
 t66:=Tryz.underlying184
 a66:=Tryz.isAgg184
 z66:=Tryz.sizeOf184
 v66:=Tryz.zeroValue184
 t70:=Tryz.underlying188
 a70:=Tryz.isAgg188
 z70:=Tryz.sizeOf188
 v70:=Tryz.zeroValue188
 t76:=Tryz.underlying218
 a76:=Tryz.isAgg218
 z76:=Tryz.sizeOf218
 v76:=Tryz.zeroValue218
 t77:=Tryz.underlying219
 a77:=Tryz.isAgg219
 z77:=Tryz.sizeOf219
 v77:=Tryz.zeroValue219 }
end Go.Proofs
set_option maxRecDepth 100000
namespace Go.Proofs.YtmgcadfnkchnfaaGreatDoor
namespace SX
open Go Go.RowKit
structure Keep (S:Nat→Prop) (A B:World):Prop where
 size:A.heap.size≤B.heap.size
 os:B.os=A.os
 tape:B.tape=A.tape
 output:B.output=A.output
 drawn:DrGo A.drawn B.drawn
 blk:∀ b,S b→B.heap[b]?=A.heap[b]?
theorem Keep.refl (S:Nat→Prop) (A:World):Keep S A A:=⟨Nat.le_refl _,rfl,rfl,rfl,.refl _,fun _ _=>rfl⟩
theorem Keep.trans {S:Nat→Prop} {A B C:World} (h:Keep S A B) (k:Keep S B C):Keep S A C :=
 ⟨Nat.le_trans h.size k.size,k.os.trans h.os,k.tape.trans h.tape,k.output.trans h.output,h.drawn.trans k.drawn,fun b hb=>(k.blk b hb).trans (h.blk b hb)⟩
theorem Keep.mono {S T:Nat→Prop} {A B:World} (h:Keep S A B) (k:∀ b,T b→S b):Keep T A B:=⟨h.size,h.os,h.tape,h.output,h.drawn,fun b hb=>h.blk b (k b hb)⟩
theorem Keep.put {S:Nat→Prop} {A:World} {l:Nat} (o:Obj) (h:¬ S l):Keep S A (A.putObj l o) :=
 ⟨by simp [World.putObj],rfl,rfl,rfl,.refl _,fun b hb=>World.putObj_heap_other fun e=>h (e ▸ hb)⟩
theorem Keep.alloc {S:Nat→Prop} {A:World} (o:Obj) (h:∀ b,S b→b<A.heap.size):Keep S A (A.alloc o) :=
 ⟨by rw [World.size_alloc];omega,rfl,rfl,rfl,.refl _,fun b hb=>Below.heap_alloc _ _ _ (h b hb)⟩
def Gr (A B:World):Prop:=Keep (fun b=>b<A.heap.size) A B
def TT (T:Nat→Prop) (A B:World):Nat→Prop:=fun b=>T b∨(A.heap.size≤b∧b<B.heap.size)
def StN {α:Type} (J:α→World→Prop):Prop:=∀ s A B,J s A→Gr A B→J s B
def SeqS {α:Type} (gf:Nat) (lb:Array Value) (encs:α→Array Value) (S:Nat→Prop) (xs:List α) (w0:World):Prop :=
 ∀ (l:Nat) (J:(Nat→Prop)→List α→World→Prop) (Jx:List α→World→Prop) (W:World),Keep S w0 W→(∀ T,StN (J T))→StN Jx →
  (∀ (T:Nat→Prop) (pre:List α) (x:α) (suf:List α) (A W1:World),xs=pre++x::suf→J T pre A→Gr A W1→YieldAt Fence.wide 0 Tryz.prog l (encs x) W1 fun e W' =>
   (e=.returned (.bool true)∧J (TT T A W1) (pre++[x]) W'∧Keep (fun b=>S b∨TT T A W1 b) W1 W')∨(e=.returned (.bool false)∧Jx (pre++[x]) W'∧Keep (fun b=>S b∨TT T A W1 b) W1 W')) →
  J (fun _=>False) [] W→Calls Tryz.prog gf (#[.func (.yield l) #[] #[]]++lb) W fun e W'=>(∃ v,e=.returned v)∧((∃ T,J T xs W')∨∃ pre suf,xs=pre++suf∧Jx pre W')
def DA (D:Nat):Deferred:={ target:=.collected D,args:=#[] }
def roundK {α:Type} (T:Nat→Prop) (I:List α→World→Prop) (Ix:Code→List α→World→Prop) (xs:List α) (W:World):Exit→Act→World→Prop:=fun e _ W'=>Keep T W W'∧match e with
 | .normal=>I xs W'
 | .ret=>Ix .ret xs W'
 | .exit id=>Ix (.exit id) xs W'
 | .goto t=>Ix (.goto t) xs W'
 | .panic _=>False
 | .outgrown=>False
theorem DB {α:Type} {g:Operand} {ps:Array Tmp} {assign body:Code} {Q:Exit→Act→World→Prop} {a:Act} {w:World} {gf:Nat} {lb:Array Value} (hg:a.eval g=.func (.func gf) #[] lb) (hok:FnOk gf)
    {encs:α→Array Value} {S:Nat→Prop} {xs:List α} (hseq:SeqS gf lb encs S xs w) (hS:∀ b,S b→b<w.heap.size) (hps:∀ x,(encs x).size=ps.size)
    (I:(Nat→Prop)→List α→World→Prop) (Ix:Code→List α→World→Prop) (A:(Nat→Prop)→List α→α→Act→World→Prop) (hI:∀ T,StN (I T)) (hIe:∀ T pre B W,I T pre B→Gr B W→I (TT T B W) pre W) (hIx:∀ c,StN (Ix c))
    (hIl:∀ T pre W o,I T pre W→I T pre (W.putObj (w.heap.size+1) o)) (hIxl:∀ c pre W o,Ix c pre W→Ix c pre (W.putObj (w.heap.size+1) o)) (hAl:∀ T pre x a' W o,A T pre x a' W→A T pre x a' (W.putObj (w.heap.size+1) o)) (h0:I (fun _=>False) [] w)
    (hassign:∀ (T:Nat→Prop) (pre:List α) (x:α) (suf:List α) (W:World),xs=pre++x::suf→I T pre W→(∀ b,T b→b<W.heap.size)→w.heap.size+1<W.heap.size→∀ K:Act→World→Prop,(∀ a' W',Keep (fun b=>(S b∨T b)∨b=w.heap.size∨b=w.heap.size+1) W W'→A T pre x a' W'→K a' W') →
      assign.wpIn (Fence.wide.inRound (w.heap.size+1)) 0 Tryz.prog (Exit.then K fun _ _ _=>False) { tmps:=(ps.zip (encs x)).foldl (fun t (p,v)=>t.setIfInBounds p v) a.tmps,defers:=[] } W)
    (hbody:∀ (T:Nat→Prop) (pre:List α) (x:α) (suf:List α) (a':Act) (W:World),xs=pre++x::suf→A T pre x a' W→(∀ b,T b→b<W.heap.size)→w.heap.size+1<W.heap.size →
      body.wpIn (Fence.wide.inRound (w.heap.size+1)) 0 Tryz.prog (roundK (fun b=>(S b∨T b)∨b=w.heap.size∨b=w.heap.size+1) (I T) Ix (pre++[x]) W) a' W)
    (hdone:∀ T W,I T xs W→w.heap.size<W.heap.size→W.heap[w.heap.size]?=some (.deferred (some []))→Q .normal { a with defers:=DA w.heap.size::a.defers } W)
    (hstop:∀ c pre suf W,xs=pre++suf→Ix c pre W→w.heap.size<W.heap.size→W.heap[w.heap.size]?=some (.deferred (some []))→c.wp Tryz.prog Q { a with defers:=DA w.heap.size::a.defers } W) :
    (Code.rangeFunc g ps assign body).wp Tryz.prog Q a w:=by
  refine wpIn_wide (n:=0).1 (wpIn_rangeFunc ?_)
  intro fn hfn
  obtain ⟨rec,hrec⟩:∃ rec:LoopState→Option Code→Loop,rec=fun st pe=>{ state:=st,pending:=pe,fn,tmps:=a.tmps,params:=ps,assign,body,defers:=w.heap.size }:=⟨_,rfl⟩
  obtain ⟨W1,hW1⟩:∃ W1,(w.alloc (.deferred (some []))).alloc (.loop (rec .ready none))=W1:=⟨_,rfl⟩
  have hL1:W1.heap[w.heap.size+1]?=some (.loop (rec .ready none)):=by
    rw [← hW1];have:=World.alloc_heap_new (w.alloc (.deferred (some []))) (.loop (rec .ready none));rwa [World.size_alloc] at this
  have hK1:W1.heap[w.heap.size]?=some (.deferred (some [])):=by
    rw [← hW1];exact (Below.heap_alloc _ _ _ (by simp)).trans (World.alloc_heap_new w _)
  have hG:Gr w W1:=by
    rw [← hW1]
    exact (Keep.alloc _ fun b hb=>hb).trans (Keep.alloc _ fun b hb=>by rw [World.size_alloc];omega)
  have hnS:¬ S (w.heap.size+1):=fun h=>by have:=hS _ h;omega
  refine ⟨w.heap.size+1,[DA w.heap.size],W1,{ target:=.fn (.func gf) lb,args:=#[.func (.yield (w.heap.size+1)) #[] #[]] },W1,gf,
    #[.func (.yield (w.heap.size+1)) #[] #[]]++lb,W1,?_,?_,fun _ _=>trivial,?_,fun h=>(by cases h),?_⟩
  · rw [← hW1,hrec];exact run_enterLoop_outer _ _ _ _ _
  · simp only [resolve,hg]
    simp [go_sem]
  · simp [invoke,go_sem,jD hok]
  refine callsIn_wide.2 ((hseq (w.heap.size+1)
      (fun T pre W=>I T pre W∧W.heap[w.heap.size+1]?=some (.loop (rec .ready none))∧W.heap[w.heap.size]?=some (.deferred (some []))∧∀ b,T b→w.heap.size+1<b∧b<W.heap.size)
      (fun pre W=>∃ c,Ix c pre W∧W.heap[w.heap.size+1]?=some (.loop (rec .done (some c)))∧W.heap[w.heap.size]?=some (.deferred (some [])))
      W1 (hG.mono fun b hb=>hS b hb) ?_ ?_ ?_ ⟨hI _ _ _ _ h0 hG,hL1,hK1,fun _ h=>h.elim⟩).mono ?_)
  · rintro T s A B ⟨h1,h2,h3,h4⟩ hg
    exact ⟨hI _ _ _ _ h1 hg,(hg.blk _ (Array.getElem?_eq_some_iff.1 h2).1).trans h2,(hg.blk _ (Array.getElem?_eq_some_iff.1 h3).1).trans h3,fun b hb=>⟨(h4 b hb).1,Nat.lt_of_lt_of_le (h4 b hb).2 hg.size⟩⟩
  · rintro s A B ⟨c,h1,h2,h3⟩ hg
    exact ⟨c,hIx c _ _ _ h1 hg,(hg.blk _ (Array.getElem?_eq_some_iff.1 h2).1).trans h2,(hg.blk _ (Array.getElem?_eq_some_iff.1 h3).1).trans h3⟩
  · rintro T pre x suf B W hxs ⟨hi0,hl0,hk0,hT0⟩ hBW
    have hltB:w.heap.size+1<B.heap.size:=(Array.getElem?_eq_some_iff.1 hl0).1
    have hi:=hIe _ _ _ _ hi0 hBW
    have hl:=(hBW.blk _ hltB).trans hl0
    have hk:=(hBW.blk _ (show w.heap.size<B.heap.size by omega)).trans hk0
    have hT:∀ b,TT T B W b→w.heap.size+1<b∧b<W.heap.size:=fun b hb=>by
      rcases hb with hb | hb
      · exact ⟨(hT0 b hb).1,Nat.lt_of_lt_of_le (hT0 b hb).2 hBW.size⟩
      exact ⟨by omega,hb.2⟩
    generalize TT T B W=T' at *
    have hlt:w.heap.size+1<W.heap.size:=(Array.getElem?_eq_some_iff.1 hl).1
    have hy:=run_yield (P:=Tryz.prog) (args:=encs x) hl (by rw [hrec];exact hps x)
    rw [hrec] at hy
    refine ⟨fn,_,assign,body,hy,roundIn_of_wpIn trivial (hassign T' pre x suf W hxs hi (fun b hb=>(hT b hb).2) hlt _ fun a' W2 hk2 hA=>?_)⟩
    have hl2:W2.heap[w.heap.size+1]?=some (.loop (rec .ready none)):=(hk2.blk _ (.inr (.inr rfl))).trans hl
    have hd2:W2.heap[w.heap.size]?=some (.deferred (some [])):=(hk2.blk _ (.inr (.inl rfl))).trans hk
    have hlt2:=(Array.getElem?_eq_some_iff.1 hl2).1
    refine ⟨_,run_beginRound hl2 (by rw [hrec]),?_⟩
    have hl3:(W2.putObj (w.heap.size+1) (.loop { rec .ready none with state:=.busy })).heap[w.heap.size+1]?=some (.loop { rec .ready none with state:=.busy }):=World.putObj_heap_same hlt2
    have hd3:(W2.putObj (w.heap.size+1) (.loop { rec .ready none with state:=.busy })).heap[w.heap.size]?=some (.deferred (some [])):=(World.putObj_heap_other (by omega)).trans hd2
    refine wpIn_mono (hbody T' pre x suf a' _ hxs (hAl _ _ _ _ _ _ hA) (fun b hb=>by have:=Nat.lt_of_lt_of_le (hT b hb).2 hk2.size;simpa [World.putObj] using this) (by simpa [World.putObj] using hlt2)) ?_
    have hnT:¬ (S (w.heap.size+1)∨T' (w.heap.size+1)):=fun h=>h.elim hnS fun h=>by have:=(hT _ h).1;omega
    have hkS:Keep (fun b=>S b∨T' b) W (W2.putObj (w.heap.size+1) (.loop { rec .ready none with state:=.busy })):=(hk2.mono fun b hb=>.inl hb).trans (.put _ hnT)
    have fin:∀ (jump:Option Code) (W3:World),Keep (fun b=>(S b∨T' b)∨b=w.heap.size∨b=w.heap.size+1) (W2.putObj (w.heap.size+1) (.loop { rec .ready none with state:=.busy })) W3 →
        (Instr.endRound (w.heap.size+1) jump).run Tryz.prog W3=.ok (.bool jump.isNone) (W3.putObj (w.heap.size+1) (.loop (rec (if jump.isNone then .ready else .done) jump))) ∧
        (W3.putObj (w.heap.size+1) (.loop (rec (if jump.isNone then .ready else .done) jump))).heap[w.heap.size+1]?=some (.loop (rec (if jump.isNone then .ready else .done) jump)) ∧
        (W3.putObj (w.heap.size+1) (.loop (rec (if jump.isNone then .ready else .done) jump))).heap[w.heap.size]?=some (.deferred (some [])):=fun jump W3 hk3=>by
      have hl4:=(hk3.blk _ (.inr (.inr rfl))).trans hl3
      have:=run_endRound (P:=Tryz.prog) jump hl4
      rw [hrec] at this ⊢
      exact ⟨this,World.putObj_heap_same (Array.getElem?_eq_some_iff.1 hl4).1,(World.putObj_heap_other (by omega)).trans ((hk3.blk _ (.inr (.inl rfl))).trans hd3)⟩
    rintro e a3 W3 ⟨hk3,hp⟩
    cases e with
    | normal =>
      obtain ⟨hr,hl4,hd4⟩:=fin none W3 hk3
      refine ⟨_,_,hr,.inl ⟨rfl,⟨hIl _ _ _ _ hp,hl4,hd4,fun b hb=>⟨(hT b hb).1,?_⟩⟩,hkS.trans ((hk3.mono fun b hb=>.inl hb).trans (.put _ hnT))⟩⟩
      have:=Nat.lt_of_lt_of_le (hT b hb).2 (hkS.trans (hk3.mono fun b hb=>.inl hb)).size
      simpa [World.putObj] using this
    | ret =>
      obtain ⟨hr,hl4,hd4⟩:=fin (some .ret) W3 hk3
      exact ⟨_,_,hr,.inr ⟨rfl,⟨.ret,hIxl _ _ _ _ hp,hl4,hd4⟩,hkS.trans ((hk3.mono fun b hb=>.inl hb).trans (.put _ hnT))⟩⟩
    | exit id =>
      obtain ⟨hr,hl4,hd4⟩:=fin (some (.exit id)) W3 hk3
      exact ⟨_,_,hr,.inr ⟨rfl,⟨.exit id,hIxl _ _ _ _ hp,hl4,hd4⟩,hkS.trans ((hk3.mono fun b hb=>.inl hb).trans (.put _ hnT))⟩⟩
    | goto t =>
      obtain ⟨hr,hl4,hd4⟩:=fin (some (.goto t)) W3 hk3
      exact ⟨_,_,hr,.inr ⟨rfl,⟨.goto t,hIxl _ _ _ _ hp,hl4,hd4⟩,hkS.trans ((hk3.mono fun b hb=>.inl hb).trans (.put _ hnT))⟩⟩
    | panic ch=>exact hp.elim
    | outgrown=>exact hp.elim
  rintro e W2 ⟨⟨v,rfl⟩,(⟨T,hi,hl,hk,_⟩ | ⟨pre,suf,hxs,c,hi,hl,hk⟩)⟩
  · exact ⟨none,_,by have:=run_endLoop (P:=Tryz.prog) hl (by rw [hrec];simp);rw [hrec] at this;exact this,hdone T _ (hIl _ _ _ _ hi) (by have:=(Array.getElem?_eq_some_iff.1 hk).1;simpa [World.putObj] using this) ((World.putObj_heap_other (by omega)).trans hk)⟩
  exact ⟨some c,_,by have:=run_endLoop (P:=Tryz.prog) hl (by rw [hrec];simp);rw [hrec] at this;exact this,wpIn_wide.2 (hstop c pre suf _ hxs (hIxl _ _ _ _ hi) (by have:=(Array.getElem?_eq_some_iff.1 hk).1;simpa [World.putObj] using this) ((World.putObj_heap_other (by omega)).trans hk))⟩
end SX
end Go.Proofs.YtmgcadfnkchnfaaGreatDoor
set_option maxRecDepth 100000
namespace Go.Proofs.YtmgcadfnkchnfaaGreatDoor
namespace SX
open Go Go.RowKit
def BN (D:Nat):Res:=⟨some D,fun o=>o=some (.deferred (some []))⟩
def AN (Ds:List Nat):List Res:=Ds.map BN
def cls (Ds:List Nat):List Deferred:=Ds.map DA
theorem DC {k:Kr} {M:List Nat} {ro ro':Option Nat} {ρ:List Res} {κ:Kr} (h:Zl ⟨k,M,ro⟩ ρ κ):Zl ⟨k,M,ro'⟩ ρ κ:=⟨⟨h.le.kle,h.le.same,h.le.shNew,h.le.os,h.le.tape,h.le.output,h.le.drawn⟩,h.fin,h.own,h.blk,h.nd⟩
theorem ul {β:Base} {ρ:List Res} {W W':World} {S T:Nat→Prop} (h:Zl β ρ ⟨W,S⟩) (k:Keep T W W') (hS:∀ b,S b→T b) (hρ:∀ r∈ρ,∀ b,r.blk=some b→T b) (hM:∀ b,b<β.k0.w.heap.size→b ∉ β.M→T b):Zl β ρ ⟨W',S⟩∧Kle ⟨W,S⟩ ⟨W',S⟩:=by
 have hk:Kle ⟨W,S⟩ ⟨W',S⟩:=⟨k.size,fun _ h=>h,fun b hb=>k.blk b (hS b hb)⟩
 refine ⟨⟨⟨h.le.kle.trans hk,fun b hb hm=>(k.blk b (hM b hb hm)).trans (h.le.same b hb hm),h.le.shNew,k.os.trans h.le.os,k.tape.trans h.le.tape,k.output.trans h.le.output,h.le.drawn.trans k.drawn⟩,fun b hb=>Nat.lt_of_lt_of_le (h.fin b hb) k.size,fun r hr=>Res.holds_of (h.own r hr) fun b hb=>k.blk b (hρ r hr b hb),fun r hr b hb=>?_,h.nd⟩,hk⟩
 obtain ⟨h1,h2,h3⟩:=h.blk r hr b hb
 exact ⟨Nat.lt_of_lt_of_le h1 k.size,h2,h3⟩
theorem DD {β:Base} {ρ:List Res} {W W':World} {S:Nat→Prop} (h:Zl β ρ ⟨W,S⟩) (k:Gr W W'):Zl β ρ ⟨W',S⟩∧Kle ⟨W,S⟩ ⟨W',S⟩ :=
 ul h k h.fin (fun r hr b hb=>(h.blk r hr b hb).1) fun b hb _=>Nat.lt_of_lt_of_le hb h.le.kle.size
theorem AO {β:Base} {ρ:List Res} {W:World} {S:Nat→Prop} {l:Nat} (o:Obj) (h:Zl β ρ ⟨W,S⟩) (hS:∀ b,S b→b≠l) (hρ:∀ r∈ρ,∀ b,r.blk=some b→b≠l) (hl:β.k0.w.heap.size≤l):Zl β ρ ⟨W.putObj l o,S⟩∧Kle ⟨W,S⟩ ⟨W.putObj l o,S⟩ :=
 ul (T:=fun b=>b≠l) h (.put o fun h=>h rfl) hS hρ fun b hb _ e=>by omega
def Rst (β:Base) (κ0:Kr) (Ds:List Nat) (T:Nat→Prop) (ρp:List PRes) (W:World):Prop :=
 ∃ S' ρ',Zl β (ρ'++AN Ds) ⟨W,S'⟩∧RRels ⟨W,S'⟩ ρp ρ'∧Kle κ0 ⟨W,S'⟩∧(∀ b,S' b→b≠κ0.w.heap.size∧b≠κ0.w.heap.size+1)∧∀ r∈ρ',∀ b,r.blk=some b→(b≠κ0.w.heap.size∧b≠κ0.w.heap.size+1)∧¬ T b
def Ast (β:Base) (κ0:Kr) (Ds:List Nat) (T:Nat→Prop) (n:Nat) (σp:PEnv) (ρp:List PRes) (a:Act) (W:World):Prop :=
 ∃ S' ρ' σ',Zl β (ρ'++AN Ds) ⟨W,S'⟩∧RRels ⟨W,S'⟩ ρp ρ'∧Kle κ0 ⟨W,S'⟩∧(∀ b,S' b→b≠κ0.w.heap.size∧b≠κ0.w.heap.size+1)∧(∀ r∈ρ',∀ b,r.blk=some b→(b≠κ0.w.heap.size∧b≠κ0.w.heap.size+1)∧¬ T b)∧Sim ⟨W,S'⟩ σp σ'∧Rel [] n a σ'
section
variable {β:Base} {κ0:Kr} {Ds:List Nat} {T:Nat→Prop} {ρp:List PRes} {W W':World} {n:Nat} {σp:PEnv} {a:Act}
theorem AP {r:Res} (h:r∈AN Ds):∃ D∈Ds,r=BN D:=by obtain ⟨D,h1,rfl⟩:=List.mem_map.1 h;exact ⟨D,h1,rfl⟩
theorem Rst.gr (h:Rst β κ0 Ds T ρp W) (k:Gr W W'):Rst β κ0 Ds T ρp W':=by
 obtain ⟨S',ρ',h1,h2,h3,h4,h5⟩:=h
 obtain ⟨g1,g2⟩:=DD h1 k
 exact ⟨S',ρ',g1,h2.mono g2,h3.trans g2,h4,h5⟩
theorem Rst.ext (h:Rst β κ0 Ds T ρp W) (k:Gr W W'):Rst β κ0 Ds (TT T W W') ρp W':=by
 obtain ⟨S',ρ',h1,h2,h3,h4,h5⟩:=h
 obtain ⟨g1,g2⟩:=DD h1 k
 refine ⟨S',ρ',g1,h2.mono g2,h3.trans g2,h4,fun r hr b hb=>⟨(h5 r hr b hb).1,fun hT=>?_⟩⟩
 have hlt:b<W.heap.size:=(h1.blk r (List.mem_append.2 (.inl hr)) b hb).1
 rcases hT with hT | hT
 ·exact (h5 r hr b hb).2 hT
 omega
theorem vy {ρ':List Res} (hDs:∀ D∈Ds,D<κ0.w.heap.size) (h5:∀ r∈ρ',∀ b,r.blk=some b→(b≠κ0.w.heap.size∧b≠κ0.w.heap.size+1)∧¬ T b):∀ r∈ρ'++AN Ds,∀ b,r.blk=some b→b≠κ0.w.heap.size+1:=fun r hr b hb=>by
 rcases List.mem_append.1 hr with hr | hr
 ·exact (h5 r hr b hb).1.2
 obtain ⟨D,hD,rfl⟩:=AP hr
 have:=hDs D hD
 injection hb with hb;omega
theorem Rst.put (o:Obj) (hDs:∀ D∈Ds,D<κ0.w.heap.size) (hl:β.k0.w.heap.size≤κ0.w.heap.size) (h:Rst β κ0 Ds T ρp W):Rst β κ0 Ds T ρp (W.putObj (κ0.w.heap.size+1) o):=by
 obtain ⟨S',ρ',h1,h2,h3,h4,h5⟩:=h
 obtain ⟨g1,g2⟩:=AO o h1 (fun b hb=>(h4 b hb).2) (vy hDs h5) (by omega)
 exact ⟨S',ρ',g1,h2.mono g2,h3.trans g2,h4,h5⟩
theorem Ast.put (o:Obj) (hDs:∀ D∈Ds,D<κ0.w.heap.size) (hl:β.k0.w.heap.size≤κ0.w.heap.size) (h:Ast β κ0 Ds T n σp ρp a W):Ast β κ0 Ds T n σp ρp a (W.putObj (κ0.w.heap.size+1) o):=by
 obtain ⟨S',ρ',σ',h1,h2,h3,h4,h5,h6,h7⟩:=h
 obtain ⟨g1,g2⟩:=AO o h1 (fun b hb=>(h4 b hb).2) (vy hDs h5) (by omega)
 exact ⟨S',ρ',σ',g1,h2.mono g2,h3.trans g2,h4,h5,h6.mono g2,h7⟩
theorem Ast.rst (h:Ast β κ0 Ds T n σp ρp a W):Rst β κ0 Ds T ρp W:=by
 obtain ⟨S',ρ',σ',h1,h2,h3,h4,h5,_⟩:=h
 exact ⟨S',ρ',h1,h2,h3,h4,h5⟩
theorem Rst.sub {ρq:List PRes} (h:Rst β κ0 Ds T ρp W) (hs:PSub ρq ρp):Rst β κ0 Ds T ρq W:=by
 obtain ⟨S',ρ',h1,h2,h3,h4,h5⟩:=h
 obtain ⟨ρ'',k1,k2⟩:=h2.sub hs
 obtain ⟨l,hl⟩:=k1
 refine ⟨S',ρ'',(h1.perm (?_:(ρ'++AN Ds).Perm ((ρ''++AN Ds)++l))).sub (List.sublist_append_left _ _),k2,h3,h4,fun r hr=>h5 r (hl.mem_iff.2 (List.mem_append.2 (.inl hr)))⟩
 rw [List.append_assoc]
 exact (List.Perm.append_right _ hl).trans (by rw [List.append_assoc];exact List.Perm.append_left _ List.perm_append_comm)
theorem um {c:Code} {Kx:Exit→PPost} {S0:Nat→Prop} {Q:Exit→Act→World→Prop} (hn:lE c=true) (hc:PWC n c Kx σp ρp) (g:GOK κ0) (hS0:∀ b,S0 b→κ0.S b) (hT:∀ b,T b→b<W.heap.size) (hW:κ0.w.heap.size+1<W.heap.size) (h:Ast β κ0 Ds T n σp ρp a W)
    (hQ:∀ e a' W' σp' ρp',Kx e σp' ρp'→Ast β κ0 Ds T n σp' ρp' a' W'→Keep (fun b=>(S0 b∨T b)∨b=κ0.w.heap.size∨b=κ0.w.heap.size+1) W W'→Q e a' W'):c.wpIn (Fence.wide.inRound (κ0.w.heap.size+1)) 0 Tryz.prog Q a W:=by
  obtain ⟨S',ρ',σ',h1,h2,h3,h4,h5,h6,h7⟩:=h
  refine hc ⟨⟨W,S'⟩,kC ρ',some (κ0.w.heap.size+1)⟩ ⟨W,S'⟩ σ' ρ' (g.mono h3) h6 h2 (DC h1.split) a h7 Q (fun e a' σ'' ρ'' κ'' g1 g2 g3 ⟨σp',ρp',k1,k2,k3⟩=>?_) hn
  refine hQ e a' κ''.w σp' ρp' k3 ⟨κ''.S,ρ'',σ'',h1.join (DC g2),k2,h3.trans g3,fun b hb=>?_,fun r hr b hb=>?_,k1,g1⟩ ⟨g3.size,g2.le.os,g2.le.tape,g2.le.output,g2.le.drawn,fun b hb=>?_⟩
  · rcases g2.le.shNew b hb with hS | hge | hm
    · exact h4 b hS
    · have:W.heap.size≤b:=hge
      omega
    obtain ⟨r,hr,hrb⟩:=kD hm;exact (h5 r hr b hrb).1
  · rcases (g2.blk r hr b hb).2.2 with hge | hm
    · have hge:W.heap.size≤b:=hge
      exact ⟨by omega,fun h=>by have:=hT b h;omega⟩
    obtain ⟨r,hr,hrb⟩:=kD hm;exact h5 r hr b hrb
  have nin:∀ b,T b∨b=κ0.w.heap.size∨b=κ0.w.heap.size+1→b ∉ kC ρ':=fun b hb hm=>by
    obtain ⟨r,hr,hrb⟩:=kD hm
    have:=h5 r hr b hrb
    rcases hb with hb | hb
    · exact this.2 hb
    omega
  rcases hb with (hb | hb) | hb
  · exact g3.keep b (h3.sh b (hS0 b hb))
  · exact g2.le.same b (hT b hb) (nin b (.inl hb))
  exact g2.le.same b (show b<W.heap.size by omega) (nin b (.inr hb))
end
def lR {X S T:Type} (f:S→X→Option (S⊕T)):S→List X→Option (S⊕T)
 | s,[]=>some (.inl s)
 | s,x::xs=>match f s x with | none=>none | some (.inl s')=>lR f s' xs | some (.inr t)=>some (.inr t)
def xvs {X:Type} (xv:X→Value) (x:X):Array Value:=#[xv x]
def PSeq {X:Type} (gf:Nat) (caps:List PV) (xp:X→PV) (xs:List X):Prop :=
 FnOk gf∧∀ κ lb,GOK κ→(∀ b,κ.S b→b<κ.w.heap.size)→Rps κ caps lb→∃ xv:X→Value,(∀ x∈xs,∀ κ',Rp κ' (xp x) (xv x))∧SeqS gf lb.toArray (xvs xv) κ.S xs κ.w
abbrev QPost:=Exit→PEnv→List PRes→List Nat→Prop
def PWQ (n:Nat) (c:Code) (K:QPost) (σp:PEnv) (ρp:List PRes) (Ds:List Nat):Prop :=
 ∀ κ0 ρ0 κ σ ρ,GOK κ→Sim κ σp σ→RRels κ ρp ρ→Zl ⟨κ0,kC ρ0,none⟩ (ρ++AN Ds) κ→∀ a,Rel (cls Ds) n a σ→∀ Q:Exit→Act→World→Prop,
  (∀ e a' σ' ρ' κ' σq ρq Es,GOK κ'→Rel (cls Es) n a' σ'→Zl ⟨κ0,kC ρ0,none⟩ (ρ'++AN Es) κ'→Sim κ' σq σ'→RRels κ' ρq ρ'→K e σq ρq Es→Q e a' κ'.w)→c.wp Tryz.prog Q a κ.w
section
variable {n:Nat} {x y:Code} {K:QPost} {σ:PEnv} {ρ:List PRes} {Ds:List Nat}
theorem iw (h:PWC n x (fun e σ ρ=>K e σ ρ Ds) σ ρ):PWQ n x K σ ρ Ds:=fun κ0 ρ0 κ σ' ρ' g hs hr hi a ha Q hq =>
 h ⟨κ,kC ρ',none⟩ κ σ' ρ' g hs hr hi.split a ha _ fun e a' σ'' ρ'' κ'' g1 g2 g3 ⟨σp,ρp,k1,k2,k3⟩=>hq e a' σ'' ρ'' κ'' σp ρp Ds (g.mono g3) g1 (hi.join g2) k1 k2 k3
def AQ (n:Nat) (y:Code) (K:QPost):QPost:=fun e σ ρ Ds=>match e with
 | .normal=>PWQ n y K σ ρ Ds
 | e=>K e σ ρ Ds
theorem eO (h:PWQ n x (AQ n y K) σ ρ Ds):PWQ n (.seq x y) K σ ρ Ds:=fun κ0 ρ0 κ σ' ρ' g hs hr hi a ha Q hq =>
 wp_seq (h κ0 ρ0 κ σ' ρ' g hs hr hi a ha _ fun e a' σ'' ρ'' κ'' σp ρp Es g1 g2 g3 k1 k2 k3=>by
  cases e with
  | normal=>exact k3 κ0 ρ0 κ'' σ'' ρ'' g1 k1 k2 g3 a' g2 Q hq
  | _=>exact hq _ a' σ'' ρ'' κ'' σp ρp Es g1 g2 g3 k1 k2 k3)
theorem eP (h:PWQ n y K σ ρ Ds):AQ n y K .normal σ ρ Ds:=h
theorem jt (h:K .ret σ ρ Ds):AQ n y K .ret σ ρ Ds:=h
def fin (w:World) (Ds:List Nat):World:=Ds.foldl (fun w D=>w.putObj D (.deferred none)) w
theorem yq:∀ (Ds:List Nat) (w:World),Keep (fun b=>b ∉ Ds) w (fin w Ds)
 | [],w=>.refl _ _
 | D::Ds,w=>(Keep.put (S:=fun b=>b ∉ D::Ds) _ fun h=>h (by simp)).trans ((yq Ds _).mono fun b hb=>fun h=>hb (by simp [h]))
theorem vz {fn:Func} {tmps:Array Value} {R:Ending→World→Prop}:∀ (Ds:List Nat) (w:World),Ds.Nodup→(∀ D∈Ds,w.heap[D]?=some (.deferred (some [])))→(∃ v,(results fn tmps).run Tryz.prog (fin w Ds)=.ok v (fin w Ds)∧R (.returned v) (fin w Ds))→LeavesInM Fence.wide 0 Tryz.prog fn tmps R (cls Ds) .returning w
 | [],w,_,_,h=>h
 | D::Ds,w,hnd,hD,h=>by
  have hnd:=List.nodup_cons.1 hnd
  refine ⟨by simp,.inl ⟨D,_,rfl,run_takeDeferred (hD D (by simp)),vz Ds _ hnd.2 (fun E hE=>?_) h⟩⟩
  exact (World.putObj_heap_other (by intro e;subst e;exact hnd.1 hE)).trans (hD E (by simp [hE]))
theorem wV {f n:Nat} {fn:Func} {c:Code} {pargs:List PV} {rs:List ResultVar} {ρp:List PRes} {R:PV→List PRes→Prop} (hf:Tryz.prog.funcs[f]?=some fn) (hok:FnOk f) (hb:fn.body=some c) (hn:fn.ntmps=n) (hres:fn.results=rs.toArray) (hsz:Nat.ble pargs.length n=true)
    (h:PWQ n c (fun e σ ρ _=>ld rs R e σ ρ) (tB pargs) ρp []):PCall f pargs ρp R:=fun κ args ρ g ha hr =>
  ⟨hok,fun hi=>callsIn_wide.1 (callsIn_of_wp_marks (F:=Fence.wide) (n:=0) hf hb trivial (wpIn_wide.2 (by
    have hrel:=tf args.toArray n (by simpa [ha.len] using Nat.le_of_ble_eq_true hsz)
    rw [hn]
    refine h κ ρ κ _ ρ g (sim0 ha) hr (by simpa [AN] using hi) _ hrel _ ?_
    intro e a' σ' ρ' κ' σp ρq Ds _ h1 h2 k1 k2 k3
    have key:(∃ p ρ',PRV rs σp ρq p∧PSub ρ' ρq∧R p ρ')→LeavesInM Fence.wide 0 Tryz.prog fn a'.tmps (fun e w'=>∃ v ρ' κ',e=Ending.returned v∧w'=κ'.w∧Zl ⟨κ,kC ρ,none⟩ ρ' κ'∧∃ pv ρp',Rp κ' pv v∧RRels κ' ρp' ρ'∧R pv ρp') a'.defers .returning κ'.w:=fun ⟨p,ρ3,j1,j2,j3⟩=>by
      obtain ⟨v,i1,i2⟩:=prv k1 k2 j1
      obtain ⟨r',i3,i4⟩:=k2.sub j2
      have hnd:=List.pairwise_append.1 h2.nd
      have hDs:Ds.Nodup:=by
        have:=hnd.2.1
        unfold AN at this
        rw [List.pairwise_map] at this
        exact this.imp fun h e=>h _ rfl (by rw [e];rfl)
      have hDb:∀ D∈Ds,BN D∈ρ'++AN Ds:=fun D hD=>List.mem_append.2 (.inr (List.mem_map.2 ⟨D,hD,rfl⟩))
      have hav:∀ r∈ρ',∀ b,r.blk=some b→b ∉ Ds:=fun r hr b hb hm=>hnd.2.2 r hr (BN b) (List.mem_map.2 ⟨b,hm,rfl⟩) b hb rfl
      have hi':Zl ⟨κ,kC ρ,none⟩ ρ' κ':=h2.sub (List.sublist_append_left _ _)
      obtain ⟨q1,q2⟩:=ul (W':=fin κ'.w Ds) (S:=κ'.S) hi' (yq Ds κ'.w) (fun b hb hm=>(h2.blk _ (hDb b hm) b rfl).2.1 hb) hav fun b hb hm hD=>by
        rcases (h2.blk _ (hDb b hD) b rfl).2.2 with q | q
        · exact absurd hb (Nat.not_lt.2 q)
        exact hm q
      rw [h1.2.1]
      refine vz Ds κ'.w hDs (fun D hD=>h2.own _ (hDb D hD)) ⟨v,zi hres ⟨h1.1,rfl,h1.2.2⟩ q1 i1,v,r',⟨fin κ'.w Ds,κ'.S⟩,rfl,rfl,q1.subm i3,p,ρ3,i2.mono q2,i4.mono q2,j3⟩
    cases e with
    | ret=>exact key k3
    | normal=>exact key k3
    | _=>exact k3.elim)))⟩
end
end SX
end Go.Proofs.YtmgcadfnkchnfaaGreatDoor
set_option maxRecDepth 100000
namespace Go.Proofs.YtmgcadfnkchnfaaGreatDoor
namespace SX
open Go Go.RowKit
def DE {X Y S T:Type} (step:S→X→Option (S⊕T)) (R:Y→S→List PRes) (R':T→List PRes) (r:S⊕T) (suf:List X):Exit→PPost:=fun e _ ρ=>match e with
 | .normal=>∃ y s,lR step s suf=some r∧PSub (R y s) ρ
 | .ret=>∃ t,r=.inr t∧PSub (R' t) ρ
 | _=>False
def asgK (n:Nat) (body:Code) (K:Exit→PPost):Exit→PPost:=fun e σ ρ=>match e with
 | .normal=>PWC n body K σ ρ
 | _=>False
theorem DF {β:Base} {ρ:List Res} {κ:Kr} {D:Nat} (h:Zl β ρ κ) (hD:κ.w.heap[D]?=some (.deferred (some []))) (hS:¬ κ.S D) (hρ:∀ r∈ρ,r.blk≠some D) (hM:β.k0.w.heap.size≤D):Zl β (BN D::ρ) κ :=
 ⟨h.le,h.fin,fun r hr=>by
  rcases List.mem_cons.1 hr with rfl | hr
  ·exact hD
  ·exact h.own r hr,fun r hr b hb=>by
  rcases List.mem_cons.1 hr with rfl | hr
  ·injection hb with hb;subst hb;exact ⟨(Array.getElem?_eq_some_iff.1 hD).1,hS,.inl hM⟩
  exact h.blk r hr b hb,List.Pairwise.cons (fun r hr b hb e=>by injection hb with hb;subst hb;exact hρ r hr e) h.nd⟩
section
variable {X Y S T:Type} {n p:Nat} {g:Operand} {assign body:Code} {K:QPost} {σ:PEnv} {ρ:List PRes} {Ds:List Nat} {gf:Nat} {caps:List PV} {xp:X→PV} {xs:List X} {step:S→X→Option (S⊕T)} {s0:S} {r:S⊕T} {R:Y→S→List PRes} {R':T→List PRes} {y0:Y}
theorem lA (hr:lR step s0 xs=some r) (hg:bG σ g=.fn gf caps) (hseq:PSeq gf caps xp xs) (hp:Nat.blt p n=true) (hna:lE assign=true) (hnb:lE body=true) (h0:PSub (R y0 s0) ρ)
    (round:∀ y s x suf,lR step s (x::suf)=some r→PWC n assign (asgK n body (DE step R R' r suf)) (fe σ p (xp x)) (R y s))
    (done:∀ y s D,r=.inl s→K .normal σ (R y s) (D::Ds)) (stop:∀ t D,r=.inr t→K .ret σ (R' t) (D::Ds)):PWQ n (.rangeFunc g #[p] assign body) K σ ρ Ds:=fun κ0 ρ0 κ σ' ρ' gk hs hrr hi a ha Q hq=>by
  obtain ⟨lb,hlb,hcap⟩:∃ lb:List Value,ev σ' g=.func (.func gf) #[] lb.toArray∧Rps κ caps lb:=by
    have:=hs.ev g
    rw [hg] at this
    generalize ev σ' g=v at *
    cases this with
    | fn hc=>exact ⟨_,rfl,hc⟩
  obtain ⟨hok,hsq⟩:=hseq
  obtain ⟨xv,hxv,hS⟩:=hsq κ lb gk hi.fin hcap
  have hDs:∀ D∈Ds,D<κ.w.heap.size:=fun D hD=>(hi.blk (BN D) (List.mem_append.2 (.inr (List.mem_map.2 ⟨D,hD,rfl⟩))) D rfl).1
  have hl:κ0.w.heap.size≤κ.w.heap.size:=hi.le.kle.size
  have hst:Rst ⟨κ0,kC ρ0,none⟩ κ Ds (fun _=>False) ρ κ.w:=⟨κ.S,ρ',hi,hrr,.refl _,fun b hb=>by
    have:=hi.fin b hb
    omega,fun r hr b hb=>by
    have:=(hi.blk r (List.mem_append.2 (.inl hr)) b hb).1
    exact ⟨by omega,fun h=>h⟩⟩
  have goOn:∀ (T:Nat→Prop) (ρq:List PRes) (W:World),Rst ⟨κ0,kC ρ0,none⟩ κ Ds T ρq W→W.heap[κ.w.heap.size]?=some (.deferred (some []))→∃ ρ'' κ'',κ''.w=W∧GOK κ''∧Sim κ'' σ σ'∧RRels κ'' ρq ρ''∧Zl ⟨κ0,kC ρ0,none⟩ (ρ''++AN (κ.w.heap.size::Ds)) κ'':=fun T ρq W ⟨S',ρ'',h1,h2,h3,h4,h5⟩ hD=>by
    refine ⟨ρ'',⟨W,S'⟩,rfl,gk.mono h3,hs.mono h3,h2,(DF h1 hD (fun h=>(h4 _ h).1 rfl) (fun r hr e=>?_) hl).perm ?_⟩
    · rcases List.mem_append.1 hr with hr | hr
      · exact (h5 r hr _ e).1.1 rfl
      obtain ⟨D,hD,rfl⟩:=AP hr
      have:=hDs D hD
      injection e with e;omega
    exact List.perm_middle.symm
  have hrel:Rel (cls (κ.w.heap.size::Ds)) n { a with defers:=DA κ.w.heap.size::a.defers } σ':=⟨ha.1,by rw [ha.2.1];rfl,ha.2.2⟩
  refine DB (S:=κ.S) (xs:=xs) (encs:=xvs xv) (by rw [ha.eval,hlb]) hok hS hi.fin (fun _=>rfl)
    (fun T pre W=>∃ suf y s,xs=pre++suf∧lR step s suf=some r∧Rst ⟨κ0,kC ρ0,none⟩ κ Ds T (R y s) W)
    (fun c _ W=>c=.ret∧∃ t T,r=.inr t∧Rst ⟨κ0,kC ρ0,none⟩ κ Ds T (R' t) W)
    (fun T pre x a' W=>∃ suf σp ρp,xs=pre++x::suf∧PWC n body (DE step R R' r suf) σp ρp∧Ast ⟨κ0,kC ρ0,none⟩ κ Ds T n σp ρp a' W)
    (fun T pre A B ⟨suf,y,s,h1,h2,h3⟩ hg=>⟨suf,y,s,h1,h2,h3.gr hg⟩) (fun T pre A B ⟨suf,y,s,h1,h2,h3⟩ hg=>⟨suf,y,s,h1,h2,h3.ext hg⟩) (fun c pre A B ⟨h1,t,T,h2,h3⟩ hg=>⟨h1,t,T,h2,h3.gr hg⟩)
    (fun T pre W o ⟨suf,y,s,h1,h2,h3⟩=>⟨suf,y,s,h1,h2,h3.put o hDs hl⟩) (fun c pre W o ⟨h1,t,T,h2,h3⟩=>⟨h1,t,T,h2,h3.put o hDs hl⟩)
    (fun T pre x a' W o ⟨suf,σp,ρp,h1,h2,h3⟩=>⟨suf,σp,ρp,h1,h2,h3.put o hDs hl⟩) ⟨xs,y0,s0,rfl,hr,hst.sub h0⟩ ?_ ?_ ?_ ?_
  · rintro T pre x suf W hxs ⟨suf',y,s,e1,e2,S',ρ'',h1,h2,h3,h4,h5⟩ hT hW Kx hK
    have e3:suf'=x::suf:=List.append_cancel_left (e1.symm.trans hxs)
    subst e3
    have hx:x∈xs:=by rw [hxs];simp
    refine um hna (round y s x suf e2) gk (fun b h=>h) hT hW (a:=_) ⟨S',ρ'',upd σ' p (xv x),h1,h2,h3,h4,h5,(hs.mono h3).upd (hxv x hx _),?_⟩ fun e a' W' σp' ρp' hk hA hkeep=>?_
    · have hr0:Rel [] n { tmps:=a.tmps,defers:=[] } σ':=⟨ha.1,rfl,ha.2.2⟩
      have h1:=hr0.put (d:=some p) hp (xv x)
      simpa [xvs,Act.put,mZ] using h1
    cases e with
    | normal=>exact hK a' W' hkeep ⟨suf,σp',ρp',hxs,hk,hA⟩
    | _=>exact hk.elim
  · rintro T pre x suf a' W hxs ⟨suf',σp,ρp,e1,e2,e3⟩ hT hW
    have e4:x::suf'=x::suf:=List.append_cancel_left (e1.symm.trans hxs)
    injection e4 with _ e4
    subst e4
    refine um hnb e2 gk (fun b h=>h) hT hW e3 fun e a'' W' σp' ρp' hk hA hkeep=>⟨hkeep,?_⟩
    cases e with
    | normal=>obtain ⟨y,s,k1,k2⟩:=hk;exact ⟨_,y,s,by rw [hxs];simp,k1,hA.rst.sub k2⟩
    | ret=>obtain ⟨t,k1,k2⟩:=hk;exact ⟨rfl,t,T,k1,hA.rst.sub k2⟩
    | _=>exact hk.elim
  · rintro T W ⟨suf,y,s,e1,e2,e3⟩ _ hD
    have e4:suf=[]:=by have:=congrArg List.length e1;rw [List.length_append] at this;exact List.eq_nil_of_length_eq_zero (by omega)
    subst e4
    obtain ⟨ρ'',κ'',rfl,k1,k2,k3,k4⟩:=goOn _ _ W e3 hD
    exact hq _ _ σ' ρ'' κ'' σ (R y s) _ k1 hrel k4 k2 k3 (done y s _ (Option.some.inj e2).symm)
  rintro c pre suf W _ ⟨rfl,t,T,e2,e3⟩ _ hD
  obtain ⟨ρ'',κ'',rfl,k1,k2,k3,k4⟩:=goOn _ _ W e3 hD
  exact wp_ret (hq _ _ σ' ρ'' κ'' σ (R' t) _ k1 hrel k4 k2 k3 (stop t _ e2))
def qC (id:Nat) (K:QPost):QPost:=fun e σ ρ Ds=>match e with
 | .exit id'=>cond (Nat.beq id' id) (K .normal σ ρ Ds) (K (.exit id') σ ρ Ds)
 | e=>K e σ ρ Ds
theorem lB {x:Code} {id:Nat} (h:PWQ n x (qC id K) σ ρ Ds):PWQ n (.block id x) K σ ρ Ds:=fun κ0 ρ0 κ σ' ρ' g hs hr hi a ha Q hq =>
 wp_block (h κ0 ρ0 κ σ' ρ' g hs hr hi a ha _ fun e a' σ'' ρ'' κ'' σp ρp Es g1 g2 g3 k1 k2 k3=>by
  cases e with
  | exit id' =>
   simp only [qC] at k3
   simp only [Exit.inBlock]
   cases hb:Nat.beq id' id
   ·have hne:id'≠id:=fun h=>by rw [h] at hb;simp at hb
    rw [hb] at k3;rw [if_neg hne];exact hq _ a' σ'' ρ'' κ'' σp ρp Es g1 g2 g3 k1 k2 k3
   ·have he:=Nat.eq_of_beq_eq_true hb
    rw [hb] at k3;rw [if_pos he];exact hq _ a' σ'' ρ'' κ'' σp ρp Es g1 g2 g3 k1 k2 k3
  | _=>exact hq _ a' σ'' ρ'' κ'' σp ρp Es g1 g2 g3 k1 k2 k3)
theorem lC {id:Nat} (h:K .normal σ ρ Ds):qC id K .normal σ ρ Ds:=h
theorem ia {id:Nat} (h:K .ret σ ρ Ds):qC id K .ret σ ρ Ds:=h
theorem rB {n:Nat} {Kb:Exit→PPost} (h:PWC n body Kb σ ρ):asgK n body Kb .normal σ ρ:=h
theorem BO {s:S} {x:X} {suf:List X} (h:lR step s (x::suf)=some r):∃ o,step s x=some o∧((∃ s',o=.inl s'∧lR step s' suf=some r)∨∃ t,o=.inr t∧r=.inr t):=by
 unfold lR at h
 cases ho:step s x with
 | none=>rw [ho] at h;cases h
 | some o =>
  rw [ho] at h
  cases o with
  | inl s'=>exact ⟨_,rfl,.inl ⟨s',rfl,h⟩⟩
  | inr t=>exact ⟨_,rfl,.inr ⟨t,rfl,(Option.some.inj h).symm⟩⟩
def rndK (step:S→X→Option (S⊕T)) (r o:S⊕T) (suf:List X):Prop:=(∃ s',o=.inl s'∧lR step s' suf=some r)∨∃ t,o=.inr t∧r=.inr t
theorem rC {s:S} {x:X} {suf:List X} (h:lR step s (x::suf)=some r):∃ o,step s x=some o∧rndK step r o suf:=BO h
theorem qD {suf:List X} {o:S⊕T} {s:S} (h:some (Sum.inl s)=some o) (hk:rndK step r o suf) (y:Y) (hs:PSub (R y s) ρ):DE step R R' r suf .normal σ ρ:=by
 obtain rfl:=Option.some.inj h
 rcases hk with ⟨s',h1,h2⟩ | ⟨t,h1,_⟩
 ·injection h1 with h1;subst h1;exact ⟨y,s,h2,hs⟩
 cases h1
theorem pk_rngR {suf:List X} {o:S⊕T} {t:T} (h:some (Sum.inr t)=some o) (hk:rndK step r o suf) (hs:PSub (R' t) ρ):DE step R R' r suf .ret σ ρ:=by
 obtain rfl:=Option.some.inj h
 rcases hk with ⟨s',h1,h2⟩ | ⟨t',h1,h2⟩
 ·cases h1
 injection h1 with h1;subst h1;exact ⟨t,h2,hs⟩
theorem pwq_sub {c:Code} {ρ':List PRes} (hs:PSub ρ' ρ) (h:PWQ n c K σ ρ' Ds):PWQ n c K σ ρ Ds:=fun κ0 ρ0 κ σ' ρ1 g hm hr hi=>by
 obtain ⟨ρ2,⟨l,hl⟩,k2⟩:=hr.sub hs
 refine h κ0 ρ0 κ σ' ρ2 g hm k2 ((hi.perm (?_:(ρ1++AN Ds).Perm ((ρ2++AN Ds)++l))).sub (List.sublist_append_left _ _))
 rw [List.append_assoc]
 exact (List.Perm.append_right _ hl).trans (by rw [List.append_assoc];exact List.Perm.append_left _ List.perm_append_comm)
end
theorem yr {n:Nat} {K:QPost} {σ:PEnv} {ρ:List PRes} {Ds:List Nat} {α:Type} {enc:α→List PV} {xs:List α} {c:Code} {a:Option Addr} {m cp T' sz:Nat} (hm:PRes.row a m cp T' sz (xs.map enc)∈ρ) (h:xs.length=m→(0<m→a=some ⟨rc a,0,none⟩)→PWQ n c K σ ρ Ds):PWQ n c K σ ρ Ds:=fun κ0 ρ0 κ σ' ρ' g hs hr hi=>by
 obtain ⟨r,hr1,hr2⟩:=hr.mem hm
 cases hr2 with
 | row hb ho hc =>
  have h1:=hi.own _ (List.mem_append.2 (.inl hr1))
  have e1:=(kF h1).2.1;have e2:=hc.len;rw [List.length_map] at e2
  exact h (by omega) (fun h0=>nT h1 h0) κ0 ρ0 κ σ' ρ' g hs hr hi
end SX
end Go.Proofs.YtmgcadfnkchnfaaGreatDoor
