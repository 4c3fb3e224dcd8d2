/- A part of the proof: texts of the walk and of the plain laws, merged. No condition. -/
import Derived.Test.YtmgcadfnkchnfaaGreatDoorM2
set_option linter.unusedVariables false
set_option linter.unusedSimpArgs false
set_option maxHeartbeats 4000000
set_option maxRecDepth 100000
namespace Go.Proofs.YtmgcadfnkchnfaaGreatDoor
namespace SX
open Go
attribute [local irreducible] PWL PWC PWD POpL POpQ PEv PGuardIs PSub PPick PUpd PSplice PFill PLit PF PFV PCall FOk fX fp lA mR jP jS Cov PHolds aV idx app mk gd lb nz nH Bi sub mn ec qG tu eR cw eT dt IntKind.wrap Int.tmod Int.tdiv Op.bytesLess strOfNums
def eN (p0:ByteArray) (p1:ByteArray):Option Bool:=(gd (decide ((p1.size:Int)≤(p0.size:Int))) (mn p0 0 (p1.size:Int))).bind fun s1=>some ((decide ((p1.size:Int)≤(p0.size:Int)))&&(decide (s1=p1)))
theorem lu {p0:ByteArray} {p1:ByteArray} {r:Bool}  (h:eN p0 p1=some r):PF 174 [pS p0,pS p1] (pB r):=by
 unfold eN at h
 refine bm ?_
 refine fy Tryz.func174 rfl Tryz.ntmps174 Tryz.results174 rfl (aU [4] (by kernel_rfl) (fk h fun s1 hs1 h=>aw [] (rg 5 13) [(4,pB ((decide ((p1.size:Int)≤(p0.size:Int)))&&(decide (s1=p1))))] (fossg 9 (gF hs1) bZ) (by kernel_rfl) (ej ?_)))
 exact zz r h rfl
def fc (p0:ByteArray) (p1:ByteArray):Option Bool:=(eN p0 p1).bind fun x1=>some x1
theorem mZ {p0:ByteArray} {p1:ByteArray} {r:Bool}  (h:fc p0 p1=some r):PF 141 [pS p0,pS p1] (pB r):=by
 unfold fc at h
 refine bm ?_
 refine fy Tryz.func141 rfl Tryz.ntmps141 Tryz.results141 rfl (aU [4] (by kernel_rfl) (fk h fun x1 hx1 h=>aw [] [5,6,7] [(4,pB x1)] (bK 2 (lu hx1) bZ) (by kernel_rfl) (ej ?_)))
 exact zz r h rfl
def dA (p0:(List ByteArray)) (p1:ByteArray):Option Int:=(aV (S:=Int) (T:=(Unit)⊕(_)) (fun v1=>cond (decide (v1<(p0.length:Int))) ((idx p0 v1).bind fun m5=>cond (decide (p1=m5)) (some (.inr (.inr v1))) (some (.inl (IntKind.i64.wrap (v1+1))))) (some (.inr (.inl ())))) FUEL 0).bind fun q=>match q with | .inl _=>some (-1) | .inr e=>some e
theorem jI {p0:(List ByteArray)} {p1:ByteArray} {r:Int}  (h:dA p0 p1=some r):PF 175 [pL eS p0,pS p1] (pI r):=by
 unfold dA at h
 refine bm ?_
 refine fy Tryz.func175 rfl Tryz.ntmps175 Tryz.results175 rfl (aU [4] (by kernel_rfl) (dQ (ah [6] [(7,pI (p0.length:Int)),(8,pI 0)] (by kernel_rfl) (ar (aa h fun q3 hq3 h=>?_)))))
 refine aJ (Y:=Unit×Unit) (fun (_,_)=>[]) (fun (_,_)=>[]) (fun (_,_)=>q3=Sum.inl ()) ?_ ?_
 ·refine au ?_
  refine bt (Y:=Unit) (S:=Int) _ hq3 (fun _ v1=>[(0,pL eS p0),(1,pS p1),(7,pI (p0.length:Int)),(8,pI v1)]) (fun _ v1=>[]) () (mN rfl) cM ?_
  rintro _ v1 o τ hb2;(try dsimp only at hb2);dsimp only [aM]
  refine af (ai [(9,pB (decide (v1<(p0.length:Int))))] (by kernel_rfl) (cL (lE rfl hb2 (fun hc4 hb2=>?_) fun hc4 hb2=>?_)))
  ·refine ag ?_
   refine cL (au (af (ah [10] [(5,pI v1)] (by kernel_rfl) (fk hb2 fun m5 hm5 hb2=>aw [] (rg 11 5) [(16,pB (decide (p1=m5)))] (jX 3 eS hm5 bZ) (by kernel_rfl) (cY rfl hb2 (fun hc6 hb2=>?_) fun hc6 hb2=>?_)))))
   ·refine af ?_
    refine ah [17] [(4,pI v1)] (by kernel_rfl) (ej (av (aK ?_)))
    refine bU hb2 (fun ht=>?_);subst ht
    refine av (bz ?_)
    exact zz r h rfl
   refine ag ?_
   refine aA (ar (ah [18] [(8,pI (IntKind.i64.wrap (v1+1)))] (by kernel_rfl) ?_))
   exact ck hb2 () (mN rfl) cM
  refine bA ?_
  refine aW (aQ hb2 (fun ht=>aS rfl ?_))
  exact az ((),()) tq cM ht.symm
 rintro ⟨_,_⟩ τ hz;(try dsimp only at hz);subst q3;(try dsimp only at h);dsimp only [aM]
 refine af (ai [(4,pI (-1))] (by kernel_rfl) (ej ?_))
 exact zz r h rfl
def cr (p0:(List ByteArray)) (p1:ByteArray):Option Bool:=(dA p0 p1).bind fun x1=>some (decide (0≤x1))
theorem iW {p0:(List ByteArray)} {p1:ByteArray} {r:Bool}  (h:cr p0 p1=some r):PF 142 [pL eS p0,pS p1] (pB r):=by
 unfold cr at h
 refine bm ?_
 refine fy Tryz.func142 rfl Tryz.ntmps142 Tryz.results142 rfl (aU [4] (by kernel_rfl) (fk h fun x1 hx1 h=>aw [] [5,6,7,8] [(4,pB (decide (0≤x1)))] (bK 2 (jI hx1) bZ) (by kernel_rfl) (ej ?_)))
 exact zz r h rfl
def dB (p0:Zb) (p1:ByteArray) (p2:ByteArray) (p3:Int) (p4:Int):Option Bool:=(ie p0 p4).bind fun x2=>(gd x2 (fc p1 p0.Prefix)).bind fun x3=>(gd ((x2&&x3)&&(!((p0.Origins.length:Int) == 0))) (cr p0.Origins p2)).bind fun x4=>some (((x2&&x3)&&(((p0.Origins.length:Int) == 0)||x4))&&((p0.Company == 0)||(p0.Company == p3)))
theorem o5 {p0:Zb} {p1:ByteArray} {p2:ByteArray} {p3:Int} {p4:Int} {r:Bool}  (h:dB p0 p1 p2 p3 p4=some r):PF 116 [.agg (ce p0),pS p1,pS p2,pI p3,pI p4] (pB r):=by
 unfold dB at h
 refine bm ?_
 refine fy Tryz.func116 rfl Tryz.ntmps116 Tryz.results116 rfl (ae (ak rfl (bV (cs:=(ce p0)) rfl rfl (fun b1=>bY [10] (by kernel_rfl) (fk h fun x2 hx2 h=>aa h fun x3 hx3 h=>aa h fun x4 hx4 h=>aw [0,0,0,0,0,0] (rg 11 32) [(10,pB (((x2&&x3)&&(((p0.Origins.length:Int) == 0)||x4))&&((p0.Company == 0)||(p0.Company == p3))))] (bK 2 (oe hx2) (kU 7 (fun hc=>mZ (gF hx3 hc)) (kU 18 (fun hc=>iW (gF hx4 hc)) bZ))) (by kernel_rfl) (ej ?_))))))
 exact zz r h rfl
def cW (p0:Zb) (p1:Zb):Option Bool:=cond ((p0.Prefix.size:Int) != (p1.Prefix.size:Int)) (some (decide ((p1.Prefix.size:Int)<(p0.Prefix.size:Int)))) (cond ((p0.Company != 0) != (p1.Company != 0)) (some (p0.Company != 0)) (cond ((p0.Origins.length:Int) != (p1.Origins.length:Int)) (some (((p1.Origins.length:Int) == 0)||(((p0.Origins.length:Int) != 0)&&(decide ((p0.Origins.length:Int)<(p1.Origins.length:Int)))))) (some (decide (p1.ID<p0.ID)))))
theorem nK {p0:Zb} {p1:Zb} {r:Bool}  (h:cW p0 p1=some r):PF 117 [.agg (ce p0),.agg (ce p1)] (pB r):=by
 unfold cW at h
 refine bm ?_
 refine fy Tryz.func117 rfl Tryz.ntmps117 Tryz.results117 rfl (ae (ak rfl (bV (cs:=(ce p0)) rfl rfl (fun b1=>ak rfl (bV (cs:=(ce p1)) rfl rfl (fun b2=>bY [4] (by kernel_rfl) (dQ (aY [1,0] (rg 5 6) [(11,pB ((p0.Prefix.size:Int) != (p1.Prefix.size:Int)))] (by kernel_rfl) (cY rfl h (fun hc3 h=>?_) fun hc3 h=>?_)))))))))
 ·refine af ?_
  refine aY [1,0] (rg 12 7) [(4,pB (decide ((p1.Prefix.size:Int)<(p0.Prefix.size:Int))))] (by kernel_rfl) (ip ?_)
  exact zz r h rfl
 refine ag ?_
 refine dQ (aY [1,0] (rg 19 6) [(25,pB ((p0.Company != 0) != (p1.Company != 0)))] (by kernel_rfl) (cY rfl h (fun hc4 h=>?_) fun hc4 h=>?_))
 ·refine af ?_
  refine aY [1] [26,27,28] [(4,pB (p0.Company != 0))] (by kernel_rfl) (ip ?_)
  exact zz r h rfl
 refine ag ?_
 refine dQ (aY [1,0] (rg 29 6) [(35,pB ((p0.Origins.length:Int) != (p1.Origins.length:Int)))] (by kernel_rfl) (cY rfl h (fun hc5 h=>?_) fun hc5 h=>?_))
 ·refine af ?_
  refine aY [0,1,1,0] (rg 36 19) [(4,pB (((p1.Origins.length:Int) == 0)||(((p0.Origins.length:Int) != 0)&&(decide ((p0.Origins.length:Int)<(p1.Origins.length:Int))))))] (by kernel_rfl) (ip ?_)
  exact zz r h rfl
 refine ag ?_
 refine cL (aY [1,0] (rg 55 5) [(4,pB (decide (p1.ID<p0.ID)))] (by kernel_rfl) (ej ?_))
 exact zz r h rfl
def bF (p0:(List ByteArray)):Option (List ByteArray):=app 16 ([]:List ByteArray) p0
theorem jJ {p0:(List ByteArray)} {r:(List ByteArray)} (h:bF p0=some r):PCall 118 [pL eS p0] [] (fun pv ρ'=>∃ a c,pv=.v (.slice a r.length c)∧ρ'=[PRes.row a r.length c 9 1 (List.map eS r)]):=by
 unfold bF at h
 refine jy Tryz.func118 rfl Tryz.ntmps118 Tryz.results118 rfl ?_
 (repeat refine af ?_)
 refine ae (cd rfl rfl rfl (bc (p:=.v (.slice none 0 0)) rfl (.p rfl)) (ap (ar ?_)))
 (repeat refine af ?_)
 refine ae (cd rfl rfl rfl (cm (p:=pL eS p0) rfl (.p rfl)) (p6 rfl rfl rfl rfl rfl rfl (fun b hb=>ap (ar ?_))))
 refine oN rfl (fun hc=>?_) (fun hc=>?_)
 ·have e0:p0=[]:=List.map_eq_nil_iff.1 (hb hc)
  subst e0;obtain ⟨rfl,_⟩:=lC h
  (repeat refine af ?_)
  refine ae (cd rfl rfl rfl (bc (p:=.v (.slice none 0 0)) rfl (.p rfl)) (ap (ar (fO 9 1 (cC (aK ?_))))))
  exact aG (fL (aI rfl)) dN ⟨_,_,rfl,rfl⟩
 refine ag ?_
 refine ar ?_
 (repeat refine af ?_)
 refine ae (ak rfl (bT rfl rfl rfl rfl rfl kg rfl rfl rfl rfl (fun b1=>cd rfl rfl rfl (cm (p:=pL eS p0) rfl (.p rfl)) ?_)))
 refine ak rfl (sb (enc:=eS) (xs:=([]:List ByteArray)) rfl rfl rfl rfl rfl (fun _=>rfl) rfl rfl rfl (by exact bd) h (fun a c=>?_))
 refine cd rfl rfl rfl (bc (p:=.v (.slice a r.length c)) rfl (.p rfl)) (ap (ej ?_))
 exact aG (fL (aI rfl)) dN ⟨_,_,rfl,rfl⟩
def eE (p0:(List Zb)) (p1:ByteArray) (p2:ByteArray) (p3:Int) (p4:Int):Option (List Zb):=(aV (S:=(List Zb)×Int) (T:=((List Zb))) (fun (l2,v5)=>cond (decide (v5≤6)) (((aV (S:=Int×Int) (T:=(Int)) (fun (v19,v20)=>cond (decide (v20<(p0.length:Int))) (((idx p0 v20).bind fun m29=>(gd (m29.Kind == v5) (dB m29 p1 p2 p3 p4)).bind fun x31=>(gd (((m29.Kind == v5)&&x31)&&(!(decide (v19<0)))) (idx p0 v19)).bind fun m32=>(gd (((m29.Kind == v5)&&x31)&&(!(decide (v19<0)))) (cW m29 m32)).bind fun x33=>cond (((m29.Kind == v5)&&x31)&&((decide (v19<0))||x33)) (some v20) (some v19)).bind fun v27=>some (.inl (v27,(IntKind.i64.wrap (v20+1))))) (some (.inr v19))) FUEL ((-1),0)).bind fun v22=>cond (decide (0≤v22)) ((idx p0 v22).bind fun m36=>(bF m36.Origins).bind fun x38=>(app 144 l2 [(⟨m36.ID,m36.Kind,m36.Prefix,x38,m36.Company,m36.From,m36.To,m36.Registered,m36.Duty⟩:Zb)]).bind fun l44=>some l44) (some l2)).bind fun l17=>some (.inl (l17,(IntKind.i64.wrap (v5+1))))) (some (.inr l2))) FUEL (([]:List Zb),1)).bind fun l9=>some l9
theorem mL {p0:(List Zb)} {p1:ByteArray} {p2:ByteArray} {p3:Int} {p4:Int} {r:(List Zb)}  (h:eE p0 p1 p2 p3 p4=some r):PF 77 [pL Zb.enc p0,pS p1,pS p2,pI p3,pI p4] (pL Zb.enc r):=by
 unfold eE at h
 refine bm ?_
 refine fy Tryz.func77 rfl Tryz.ntmps77 Tryz.results77 rfl (aU [10] (by kernel_rfl) (cL (ai [(11,pN)] (by kernel_rfl) (dQ (ai [(12,pI 1)] (by kernel_rfl) (ar (fO 68 15 (aa h fun q11 hq11 h=>?_))))))))
 refine aJ (Y:=(Option Addr×Nat)×((List Zb))) (fun ((a7,c8),l9)=>[(11,pO a7 l9.length c8)]) (fun ((a7,c8),l9)=>[PRes.row a7 l9.length c8 68 15 (List.map Zb.enc l9)]) (fun ((a7,c8),l9)=>q11=l9) ?_ ?_
 ·refine au ?_
  refine bt (Y:=Option Addr×Nat) (S:=(List Zb)×Int) _ hq11 (fun (a3,c4) (l2,v5)=>[(0,pL Zb.enc p0),(1,pS p1),(2,pS p2),(3,pI p3),(4,pI p4),(11,pO a3 l2.length c4),(12,pI v5)]) (fun (a3,c4) (l2,v5)=>[PRes.row a3 l2.length c4 68 15 (List.map Zb.enc l2)]) (none,0) (Bj rfl) dN ?_
  rintro ⟨a3,c4⟩ ⟨l2,v5⟩ o τ hb10;(try dsimp only at hb10);dsimp only [aM]
  refine af (af (ah [17] [(18,pB (decide (v5≤6)))] (by kernel_rfl) (cY rfl hb10 (fun hc13 hb10=>?_) fun hc13 hb10=>?_)))
  ·refine ag ?_
   refine fk hb10 fun q18 hq18 hb10=>?_
   refine aJ (Y:=(Option Addr×Nat)×((List Zb))) (fun ((a15,c16),l17)=>[(0,pL Zb.enc p0),(1,pS p1),(2,pS p2),(3,pI p3),(4,pI p4),(11,pO a15 l17.length c16),(12,pI v5)]) (fun ((a15,c16),l17)=>[PRes.row a15 l17.length c16 68 15 (List.map Zb.enc l17)]) (fun ((a15,c16),l17)=>q18=l17) ?_ ?_
   ·skip
    refine au (af (ai [(13,pI (-1))] (by kernel_rfl) (dQ (ai [(21,pL Zb.enc p0),(22,pI (p0.length:Int)),(23,pI 0)] (by kernel_rfl) (ar (aa hq18 fun q24 hq24 hq18=>?_))))))
    refine aJ (Y:=Unit×Int) (fun (_,v22)=>[(0,pL Zb.enc p0),(1,pS p1),(2,pS p2),(3,pI p3),(4,pI p4),(11,pO a3 l2.length c4),(12,pI v5),(13,pI v22)]) (fun (_,v22)=>[PRes.row a3 l2.length c4 68 15 (List.map Zb.enc l2)]) (fun (_,v22)=>q24=v22) ?_ ?_
    ·refine au ?_
     refine bt (Y:=Unit) (S:=Int×Int) _ hq24 (fun _ (v19,v20)=>[(0,pL Zb.enc p0),(1,pS p1),(2,pS p2),(3,pI p3),(4,pI p4),(11,pO a3 l2.length c4),(12,pI v5),(13,pI v19),(21,pL Zb.enc p0),(22,pI (p0.length:Int)),(23,pI v20)]) (fun _ (v19,v20)=>[PRes.row a3 l2.length c4 68 15 (List.map Zb.enc l2)]) () (fY rfl (fY rfl (wG rfl))) dN ?_
     rintro _ ⟨v19,v20⟩ o τ hb23;(try dsimp only at hb23);dsimp only [aM]
     refine af (ai [(24,pB (decide (v20<(p0.length:Int))))] (by kernel_rfl) (cL (lE rfl hb23 (fun hc25 hb23=>?_) fun hc25 hb23=>?_)))
     ·refine ag ?_
      refine fk hb23 fun q28 hq28 hb23=>?_
      refine aJ (Y:=Unit×Int) (fun (_,v27)=>[(0,pL Zb.enc p0),(1,pS p1),(2,pS p2),(3,pI p3),(4,pI p4),(11,pO a3 l2.length c4),(12,pI v5),(13,pI v27),(21,pL Zb.enc p0),(22,pI (p0.length:Int)),(23,pI v20)]) (fun (_,v27)=>[PRes.row a3 l2.length c4 68 15 (List.map Zb.enc l2)]) (fun (_,v27)=>q28=v27) ?_ ?_
      ·skip
       refine au (af (aa hq28 fun m29 hm29 hq28=>ae (bC 3 [] [26] [(25,pI v20),(27,.agg (ce m29))] (jX 1 Zb.enc hm29 bZ) (by kernel_rfl) (ak rfl (aX (cs:=[pI 0,pI 0,pS ByteArray.empty,pN,pI 0,pI 0,pI 0,pI 0,pI 0,pI 0,pI 0,pB false,pI 0,pB false,pI 0]) rfl rfl rfl rfl (fun b30=>aq 1 [(14,pI v20)] (by kernel_rfl) (aH rfl rfl (aj (vs:=(ce m29)) rfl rfl rfl rfl rfl cA (gE (gE (gE (gE (gE (gE zl9)))))) (ap (cL (du (ρd:=[]) [(0,0),(1,0),(2,0),(3,0),(4,0),(5,0),(6,0),(7,0),(8,0),(9,0),(10,1),(11,0),(12,0),(13,0),(14,0),(15,0),(16,0),(17,0),(18,0),(19,0),(20,0),(21,1),(22,0),(23,0)] _ (List.Perm.refl _) (by kernel_rfl) rfl (aa hq28 fun x31 hx31 hq28=>aa hq28 fun m32 hm32 hq28=>aa hq28 fun x33 hx33 hq28=>dJ 24 [0,0,0] (rg 28 23) [(51,pB (((m29.Kind == v5)&&x31)&&((decide (v19<0))||x33)))] (kU 10 (fun hc=>o5 (gF hx31 hc)) (tT 19 Zb.enc (gF hm32) (kU 21 (fun hc=>nK (gF hx33 hc)) bZ))) (by kernel_rfl) (ef (cY rfl hq28 (fun hc34 hq28=>?_) fun hc34 hq28=>?_))))))))))))))
       ·refine ah [52] [(13,pI v20)] (by kernel_rfl) ?_
        refine aA ?_
        obtain rfl:=osi hq28
        exact az ((),v20) (fY rfl (fY rfl (wG rfl))) (cR (ba bd) cM) rfl
       refine ag ?_
       refine aA ?_
       obtain rfl:=osi hq28
       exact az ((),v19) (fY rfl (fY rfl (wG rfl))) (cR (ba bd) cM) rfl
      rintro ⟨_,v27⟩ τ hz;(try dsimp only at hz);subst q28;(try dsimp only at hb23);dsimp only [aM]
      refine ah [53] [(23,pI (IntKind.i64.wrap (v20+1)))] (by kernel_rfl) ?_
      exact ck hb23 () (fY rfl (fY rfl (wG rfl))) dN
     refine bA ?_
     refine aW (aQ hb23 (fun ht=>aS rfl ?_))
     exact az ((),v19) (zh8 rfl) dN ht.symm
    rintro ⟨_,v22⟩ τ hz;(try dsimp only at hz);subst q24;(try dsimp only at hq18);dsimp only [aM]
    refine af (ah [54] [(55,pB (decide (0≤v22)))] (by kernel_rfl) (cY rfl hq18 (fun hc35 hq18=>?_) fun hc35 hq18=>?_))
    ·refine af ?_
     refine aa hq18 fun m36 hm36 hq18=>ae (bC 4 [] [56,57,58] [(59,.agg (ce m36))] (jX 2 Zb.enc hm36 bZ) (by kernel_rfl) (ak rfl (aX (cs:=[pI 0,pI 0,pS ByteArray.empty,pN,pI 0,pI 0,pI 0,pI 0,pI 0,pI 0,pI 0,pB false,pI 0,pB false,pI 0]) rfl rfl rfl rfl (fun b37=>aH rfl rfl (aj (vs:=(ce m36)) rfl rfl rfl rfl rfl cA (gE (gE (gE (gE (gE (gE zl9)))))) (ap (fk hq18 fun x38 hx38 hq18=>ae (cH 2 [0] [60] [(61,pL eS m36.Origins)] (by kernel_rfl) ?_))))))))
     refine ak rfl (aL rfl rfl (ρ1:=[]) (List.Perm.refl _) (jJ hx38) ?_);rintro _ _ ⟨a39,c40,rfl,rfl⟩
     refine aq 1 [(63,pP b37 3)] (by kernel_rfl) (aH rfl rfl (aj (vs:=[pO a39 x38.length c40]) rfl rfl rfl rfl rfl (cG cA) (bP (bP (bP ed))) (ap (ar (ae (aq 1 [(64,pO a3 l2.length c4)] (by kernel_rfl) ?_))))))
     refine oP (css:=List.map eS x38) (a:=a39) (by exact bd) ?_
     refine lB (k:=3) (enc:=eS) (xs:=x38) (b:=b37) (a:=a39) rfl fH (cG cA) (hZ 1 [1] [(65,.agg [pI m36.ID,pI m36.Kind,pS m36.Prefix,pL eS x38,pI m36.Company,pI m36.From,pI m36.To,pI m36.Registered,pI m36.Duty.Rate,pI m36.Duty.Amount,pI m36.Duty.Per,pB m36.Duty.HasMost,pI m36.Duty.Most,pB m36.Duty.HasLeast,pI m36.Duty.Least])] (by kernel_rfl) (ak rfl (bT rfl rfl rfl rfl rfl (ez rfl kg) rfl rfl rfl rfl (fun b42=>aa hq18 fun l44 hl44 hq18=>?_))))
     refine ak rfl (fb (enc:=Zb.enc) rfl rfl rfl rfl rfl rfl rfl rfl rfl fH (by exact ba (ba (ba bd))) hl44 (fun a45 c46=>?_))
     refine aD [(11,pO a45 l44.length c46)] (by kernel_rfl) (aA ?_)
     obtain rfl:=osi hq18
     exact az ((a45,c46),l44) (Bj rfl) dN rfl
    refine ag ?_
    refine aA ?_
    obtain rfl:=osi hq18
    exact az ((a3,c4),l2) (Bj rfl) dN rfl
   rintro ⟨⟨a15,c16⟩,l17⟩ τ hz;(try dsimp only at hz);subst q18;(try dsimp only at hb10);dsimp only [aM]
   refine ah [19,20] [(12,pI (IntKind.i64.wrap (v5+1)))] (by kernel_rfl) ?_
   exact ck hb10 (a15,c16) (Bj rfl) dN
  refine bA ?_
  refine aW (aQ hb10 (fun ht=>aS rfl ?_))
  exact az ((a3,c4),l2) (wF rfl) dN ht.symm
 rintro ⟨⟨a7,c8⟩,l9⟩ τ hz;(try dsimp only at hz);subst q11;(try dsimp only at h);dsimp only [aM]
 refine af (ah [68] [(10,pO a7 l9.length c8)] (by kernel_rfl) (ar ?_))
 refine iQ (enc:=Zb.enc) (xs:=l9) 10 rfl (by exact bd) ?_
 refine cC ?_
 exact zz r h rfl
def bR (p0:(List Zb)) (p1:(Zb→Option Bool)):Option Int:=(aV (S:=Int) (T:=(Unit)⊕(_)) (fun v1=>cond (decide (v1<(p0.length:Int))) ((idx p0 v1).bind fun m5=>(p1 m5).bind fun x6=>cond x6 (some (.inr (.inr v1))) (some (.inl (IntKind.i64.wrap (v1+1))))) (some (.inr (.inl ())))) FUEL 0).bind fun q=>match q with | .inl _=>some (-1) | .inr e=>some e
theorem fI {p0:(List Zb)} {p1:(Zb→Option Bool)} {r:Int} {g1:PV} (hg1:∀ {y0:Zb} {w:Bool},p1 y0=some w→PFV g1 [.agg (ce y0)] (pB w)) (h:bR p0 p1=some r):PF 119 [pL Zb.enc p0,g1] (pI r):=by
 unfold bR at h
 refine bm ?_
 refine fy Tryz.func119 rfl Tryz.ntmps119 Tryz.results119 rfl (aU [4] (by kernel_rfl) (dQ (ah [6] [(7,pI (p0.length:Int)),(8,pI 0)] (by kernel_rfl) (ar (aa h fun q3 hq3 h=>?_)))))
 refine aJ (Y:=Unit×Unit) (fun (_,_)=>[]) (fun (_,_)=>[]) (fun (_,_)=>q3=Sum.inl ()) ?_ ?_
 ·refine au ?_
  refine bt (Y:=Unit) (S:=Int) _ hq3 (fun _ v1=>[(0,pL Zb.enc p0),(1,g1),(7,pI (p0.length:Int)),(8,pI v1)]) (fun _ v1=>[]) () (mN rfl) cM ?_
  rintro _ v1 o τ hb2;(try dsimp only at hb2);dsimp only [aM]
  refine af (ai [(9,pB (decide (v1<(p0.length:Int))))] (by kernel_rfl) (cL (lE rfl hb2 (fun hc4 hb2=>?_) fun hc4 hb2=>?_)))
  ·refine ag ?_
   refine cL (au (af (ah [10] [(5,pI v1)] (by kernel_rfl) (fk hb2 fun m5 hm5 hb2=>aa hb2 fun x6 hx6 hb2=>aw [] (rg 11 5) [(16,pB x6)] (jX 3 Zb.enc hm5 (AG 5 (hg1 hx6) bZ)) (by kernel_rfl) (cY rfl hb2 (fun hc7 hb2=>?_) fun hc7 hb2=>?_)))))
   ·refine af ?_
    refine ah [17] [(4,pI v1)] (by kernel_rfl) (ej (av (aK ?_)))
    refine bU hb2 (fun ht=>?_);subst ht
    refine av (bz ?_)
    exact zz r h rfl
   refine ag ?_
   refine aA (ar (ah [18] [(8,pI (IntKind.i64.wrap (v1+1)))] (by kernel_rfl) ?_))
   exact ck hb2 () (mN rfl) cM
  refine bA ?_
  refine aW (aQ hb2 (fun ht=>aS rfl ?_))
  exact az ((),()) tq cM ht.symm
 rintro ⟨_,_⟩ τ hz;(try dsimp only at hz);subst q3;(try dsimp only at h);dsimp only [aM]
 refine af (ai [(4,pI (-1))] (by kernel_rfl) (ej ?_))
 exact zz r h rfl
def bj (p0:(List Zb)) (p1:(Zb→Option Bool)):Option Bool:=(bR p0 p1).bind fun x1=>some (decide (0≤x1))
theorem fh {p0:(List Zb)} {p1:(Zb→Option Bool)} {r:Bool} {g1:PV} (hg1:∀ {y0:Zb} {w:Bool},p1 y0=some w→PFV g1 [.agg (ce y0)] (pB w)) (h:bj p0 p1=some r):PF 78 [pL Zb.enc p0,g1] (pB r):=by
 unfold bj at h
 refine bm ?_
 refine fy Tryz.func78 rfl Tryz.ntmps78 Tryz.results78 rfl (aU [4] (by kernel_rfl) (fk h fun x1 hx1 h=>aw [] [5,6,7,8] [(4,pB (decide (0≤x1)))] (bK 2 (fI hg1 hx1) bZ) (by kernel_rfl) (ej ?_)))
 exact zz r h rfl
def gh (p0:Zb):Option Bool:=some (p0.Kind == 1)
theorem og {p0:Zb} {r:Bool}  (h:gh p0=some r):PF 79 [.agg (ce p0)] (pB r):=by
 unfold gh at h
 refine bm ?_
 refine fy Tryz.func79 rfl Tryz.ntmps79 Tryz.results79 rfl (ae (ak rfl (bV (cs:=(ce p0)) rfl rfl (fun b1=>bY [2] (by kernel_rfl) (cL (aY [0] [3,4,5] [(2,pB (p0.Kind == 1))] (by kernel_rfl) (ej ?_)))))))
 exact zz r h rfl
def gi (p0:Int) (p1:(List Int)):Option Int:=cond (decide (1000<(p1.length:Int))) (some (8:Int)) (cond ((decide (p0<0))||(decide (1000000000000<p0))) (some (2:Int)) ((aV (S:=Int) (T:=(Unit)⊕(_)) (fun v3=>cond (decide (v3<(p1.length:Int))) ((idx p1 v3).bind fun m7=>cond ((decide (m7<0))||(decide (1000000000000<m7))) (some (.inr (.inr (2:Int)))) (some (.inl (IntKind.i64.wrap (v3+1))))) (some (.inr (.inl ())))) FUEL 0).bind fun q=>match q with | .inl _=>cond (((p1.length:Int) == 0)&&(decide (0<p0))) (some (7:Int)) (some (0:Int)) | .inr e=>some e))
theorem oh {p0:Int} {p1:(List Int)} {r:Int}  (h:gi p0 p1=some r):PF 143 [pI p0,pL eI p1] (pI r):=by
 unfold gi at h
 refine bm ?_
 refine fy Tryz.func143 rfl Tryz.ntmps143 Tryz.results143 rfl (aU [4] (by kernel_rfl) (dQ (ah [7,8] [(9,pB (decide (1000<(p1.length:Int))))] (by kernel_rfl) (cY rfl h (fun hc1 h=>?_) fun hc1 h=>?_))))
 ·refine af ?_
  refine ai [(4,pI 8)] (by kernel_rfl) (ip ?_)
  exact zz r h rfl
 refine ag ?_
 refine dQ (ah (rg 10 5) [(15,pB ((decide (p0<0))||(decide (1000000000000<p0))))] (by kernel_rfl) (cY rfl h (fun hc2 h=>?_) fun hc2 h=>?_))
 ·refine af ?_
  refine ai [(4,pI 2)] (by kernel_rfl) (ip ?_)
  exact zz r h rfl
 refine ag ?_
 refine dQ (ai [(16,pL eI p1),(17,pI (p1.length:Int)),(18,pI 0)] (by kernel_rfl) (ar (aa h fun q5 hq5 h=>?_)))
 refine aJ (Y:=Unit×Unit) (fun (_,_)=>[(0,pI p0),(1,pL eI p1)]) (fun (_,_)=>[]) (fun (_,_)=>q5=Sum.inl ()) ?_ ?_
 ·refine au ?_
  refine bt (Y:=Unit) (S:=Int) _ hq5 (fun _ v3=>[(0,pI p0),(1,pL eI p1),(16,pL eI p1),(17,pI (p1.length:Int)),(18,pI v3)]) (fun _ v3=>[]) () (si rfl) cM ?_
  rintro _ v3 o τ hb4;(try dsimp only at hb4);dsimp only [aM]
  refine af (ai [(19,pB (decide (v3<(p1.length:Int))))] (by kernel_rfl) (cL (lE rfl hb4 (fun hc6 hb4=>?_) fun hc6 hb4=>?_)))
  ·refine ag ?_
   refine cL (au (af (aa hb4 fun m7 hm7 hb4=>aw [] [20,21] [(6,pI m7)] (jX 0 eI hm7 bZ) (by kernel_rfl) (cL (ah (rg 22 5) [(27,pB ((decide (m7<0))||(decide (1000000000000<m7))))] (by kernel_rfl) (cY rfl hb4 (fun hc8 hb4=>?_) fun hc8 hb4=>?_))))))
   ·refine af ?_
    refine ai [(4,pI 2)] (by kernel_rfl) (ej (av (aK ?_)))
    refine bU hb4 (fun ht=>?_);subst ht
    refine av (bz ?_)
    exact zz r h rfl
   refine ag ?_
   refine aA (ar (ah [28] [(18,pI (IntKind.i64.wrap (v3+1)))] (by kernel_rfl) ?_))
   exact ck hb4 () (si rfl) cM
  refine bA ?_
  refine aW (aQ hb4 (fun ht=>aS rfl ?_))
  exact az ((),()) (pH rfl) cM ht.symm
 rintro ⟨_,_⟩ τ hz;(try dsimp only at hz);subst q5;(try dsimp only at h);dsimp only [aM]
 refine af (af (ah (rg 29 6) [(35,pB (((p1.length:Int) == 0)&&(decide (0<p0))))] (by kernel_rfl) (cY rfl h (fun hc9 h=>?_) fun hc9 h=>?_)))
 ·refine af ?_
  refine ai [(4,pI 7)] (by kernel_rfl) (ip ?_)
  exact zz r h rfl
 refine ag ?_
 refine cL (ai [(4,pI 0)] (by kernel_rfl) (ej ?_))
 exact zz r h rfl
def gj (p0:(List Int)):Option Int:=(aV (S:=Int×Int) (T:=(Int)) (fun (v1,v2)=>cond (decide (v2<(p0.length:Int))) ((idx p0 v2).bind fun m7=>some (.inl ((IntKind.i64.wrap (v1+m7)),(IntKind.i64.wrap (v2+1))))) (some (.inr v1))) FUEL (0,0)).bind fun v3=>some v3
theorem oj {p0:(List Int)} {r:Int}  (h:gj p0=some r):PF 144 [pL eI p0] (pI r):=by
 unfold gj at h
 refine bm ?_
 refine fy Tryz.func144 rfl Tryz.ntmps144 Tryz.results144 rfl (aU [2] (by kernel_rfl) (cL (ai [(3,pI 0)] (by kernel_rfl) (dQ (ai [(6,pL eI p0),(7,pI (p0.length:Int)),(8,pI 0)] (by kernel_rfl) (ar (aa h fun q5 hq5 h=>?_)))))))
 refine aJ (Y:=Unit×Int) (fun (_,v3)=>[(3,pI v3)]) (fun (_,v3)=>[]) (fun (_,v3)=>q5=v3) ?_ ?_
 ·refine au ?_
  refine bt (Y:=Unit) (S:=Int×Int) _ hq5 (fun _ (v1,v2)=>[(3,pI v1),(6,pL eI p0),(7,pI (p0.length:Int)),(8,pI v2)]) (fun _ (v1,v2)=>[]) () (mN rfl) cM ?_
  rintro _ ⟨v1,v2⟩ o τ hb4;(try dsimp only at hb4);dsimp only [aM]
  refine af (ai [(9,pB (decide (v2<(p0.length:Int))))] (by kernel_rfl) (cL (lE rfl hb4 (fun hc6 hb4=>?_) fun hc6 hb4=>?_)))
  ·refine ag ?_
   refine cL (au (af (aa hb4 fun m7 hm7 hb4=>aw [] [10,11] [(5,pI m7)] (jX 0 eI hm7 bZ) (by kernel_rfl) (ar (ah [12,13,14] [(3,pI (IntKind.i64.wrap (v1+m7)))] (by kernel_rfl) (aA (ar (ah [15] [(8,pI (IntKind.i64.wrap (v2+1)))] (by kernel_rfl) ?_))))))))
   exact ck hb4 () (mN rfl) cM
  refine bA ?_
  refine aW (aQ hb4 (fun ht=>aS rfl ?_))
  exact az ((),v1) (wF rfl) cM ht.symm
 rintro ⟨_,v3⟩ τ hz;(try dsimp only at hz);subst q5;(try dsimp only at h);dsimp only [aM]
 refine af (ah [16] [(2,pI v3)] (by kernel_rfl) (ej ?_))
 exact zz r h rfl
def gm (p0:Int) (p1:Int):Option (Int×Int):=lb ((IntKind.u64.wrap ((ec .u64 p0 4294967295)*(ec .u64 p1 4294967295)))) (fun w1=>lb ((IntKind.u64.wrap ((IntKind.u64.wrap ((cw .u64 p0 32)*(ec .u64 p1 4294967295)))+(cw .u64 w1 32)))) (fun w2=>lb ((IntKind.u64.wrap ((ec .u64 w2 4294967295)+(IntKind.u64.wrap ((ec .u64 p0 4294967295)*(cw .u64 p1 32)))))) (fun w3=>lb ((IntKind.u64.wrap ((IntKind.u64.wrap ((IntKind.u64.wrap ((cw .u64 p0 32)*(cw .u64 p1 32)))+(cw .u64 w2 32)))+(cw .u64 w3 32)))) (fun w4=>some (w4,(IntKind.u64.wrap (p0*p1)))))))
theorem ol {p0:Int} {p1:Int} {r:(Int×Int)}  (h:gm p0 p1=some r):PF 180 [pU p0,pU p1] (.tup [pU r.1,pU r.2]):=by
 unfold gm at h
 refine bm ?_
 refine fy Tryz.func180 rfl Tryz.ntmps180 Tryz.results180 rfl (aU [4,5] (by kernel_rfl) (cL (ah [14,15] [(6,pU (ec .u64 p0 4294967295))] (by kernel_rfl) (cL (ah [16,17] [(7,pU (cw .u64 p0 32))] (by kernel_rfl) (cL (ah [18,19] [(8,pU (ec .u64 p1 4294967295))] (by kernel_rfl) (cL (ah [20,21] [(9,pU (cw .u64 p1 32))] (by kernel_rfl) (cL ?_))))))))))
 refine dV h ?_;clear h;intro w1 hw1 h
 refine ae (bQ 3 [22,23] [(24,pU (IntKind.u64.wrap ((ec .u64 p0 4294967295)*(ec .u64 p1 4294967295))))] (by kernel_rfl) (cd rfl rfl rfl (bc rfl (.p (congrArg (fun z=>PV.v (Value.int .u64 z)) hw1))) (ap (cL ?_))))
 refine dV h ?_;clear h;intro w2 hw2 h
 refine ae (bQ 6 (rg 25 5) [(30,pU (IntKind.u64.wrap ((IntKind.u64.wrap ((cw .u64 p0 32)*(ec .u64 p1 4294967295)))+(cw .u64 w1 32))))] (by kernel_rfl) (cd rfl rfl rfl (bc rfl (.p (congrArg (fun z=>PV.v (Value.int .u64 z)) hw2))) (ap (cL (ah [31,32] [(12,pU (ec .u64 w2 4294967295))] (by kernel_rfl) (cL (ah [33,34] [(13,pU (cw .u64 w2 32))] (by kernel_rfl) (cL ?_))))))))
 refine dV h ?_;clear h;intro w3 hw3 h
 refine ae (bQ 5 [35,36,37,38] [(39,pU (IntKind.u64.wrap ((ec .u64 w2 4294967295)+(IntKind.u64.wrap ((ec .u64 p0 4294967295)*(cw .u64 p1 32))))))] (by kernel_rfl) (cd rfl rfl rfl (bc rfl (.p (congrArg (fun z=>PV.v (Value.int .u64 z)) hw3))) (ap (cL ?_))))
 refine dV h ?_;clear h;intro w4 hw4 h
 refine ae (bQ 8 (rg 40 7) [(47,pU (IntKind.u64.wrap ((IntKind.u64.wrap ((IntKind.u64.wrap ((cw .u64 p0 32)*(cw .u64 p1 32)))+(cw .u64 w2 32)))+(cw .u64 w3 32))))] (by kernel_rfl) (cd rfl rfl rfl (bc rfl (.p (congrArg (fun z=>PV.v (Value.int .u64 z)) hw4))) (ap (cL (ah [48,49,50] [(5,pU (IntKind.u64.wrap (p0*p1)))] (by kernel_rfl) (ej ?_))))))
 obtain rfl:=osi h
 exact aG (cK (aI rfl) (aI rfl)) cM ⟨rfl,rfl⟩
def gQ (p0:Int) (p1:Int):Option Zi:=(gm p0 p1).bind fun x2=>some (⟨x2.1,x2.2⟩:Zi)
theorem j0 {p0:Int} {p1:Int} {r:Zi}  (h:gQ p0 p1=some r):PF 150 [pU p0,pU p1] (.agg [pU r.Hi,pU r.Lo]):=by
 unfold gQ at h
 refine bm ?_
 refine fy Tryz.func150 rfl Tryz.ntmps150 Tryz.results150 rfl (ae (ak rfl (aX (cs:=[pU 0,pU 0]) rfl rfl rfl rfl (fun b1=>ap (fk h fun x2 hx2 h=>aw [] [8,9,10,7,11,12] [(5,pU x2.1),(6,pU x2.2)] (bK 2 (ol hx2) bZ) (by kernel_rfl) (cL (ae (bQ 3 [13,14] [(15,.agg [pU x2.1,pU x2.2])] (by kernel_rfl) (aH rfl rfl (aj (vs:=[pU x2.1,pU x2.2]) rfl rfl rfl rfl rfl cA xJ (ap (ej ?_))))))))))))
 obtain rfl:=osi h
 exact aG (fL (cZ rfl fH rfl)) cM ⟨rfl,rfl⟩
def dY (p0:Int):Option Int:=Option.bind (cond (decide (4294967296≤p0)) (some ((cw .u64 p0 32),32)) (some (p0,0))) (fun (v1,v2)=>Option.bind (cond (decide (65536≤v1)) (some ((cw .u64 v1 16),(IntKind.i64.wrap (v2+16)))) (some (v1,v2))) (fun (v5,v6)=>Option.bind (cond (decide (256≤v5)) (some ((cw .u64 v5 8),(IntKind.i64.wrap (v6+8)))) (some (v5,v6))) (fun (v9,v10)=>(idx (⟨#[0,1,2,2,3,3,3,3,4,4,4,4,4,4,4,4,5,5,5,5,5,5,5,5,5,5,5,5,5,5,5,5,6,6,6,6,6,6,6,6,6,6,6,6,6,6,6,6,6,6,6,6,6,6,6,6,6,6,6,6,6,6,6,6,7,7,7,7,7,7,7,7,7,7,7,7,7,7,7,7,7,7,7,7,7,7,7,7,7,7,7,7,7,7,7,7,7,7,7,7,7,7,7,7,7,7,7,7,7,7,7,7,7,7,7,7,7,7,7,7,7,7,7,7,7,7,7,7,8,8,8,8,8,8,8,8,8,8,8,8,8,8,8,8,8,8,8,8,8,8,8,8,8,8,8,8,8,8,8,8,8,8,8,8,8,8,8,8,8,8,8,8,8,8,8,8,8,8,8,8,8,8,8,8,8,8,8,8,8,8,8,8,8,8,8,8,8,8,8,8,8,8,8,8,8,8,8,8,8,8,8,8,8,8,8,8,8,8,8,8,8,8,8,8,8,8,8,8,8,8,8,8,8,8,8,8,8,8,8,8,8,8,8,8,8,8,8,8,8,8,8,8,8,8,8,8]⟩:ByteArray).data.toList (IntKind.u8.wrap v9)).bind fun c13=>lb ((IntKind.i64.wrap (v10+(IntKind.i64.wrap (c13.toNat:Int))))) (fun w14=>some w14))))
theorem kE {p0:Int} {r:Int}  (h:dY p0=some r):PF 111 [pU p0] (pI r):=by
 unfold dY at h
 refine bm ?_
 refine fy Tryz.func111 rfl Tryz.ntmps111 Tryz.results111 rfl (ai [(2,pI 0)] (by kernel_rfl) (dQ (ah [3] [(4,pB (decide (4294967296≤p0)))] (by kernel_rfl) (ar (aa h fun q3 hq3 h=>?_)))))
 refine aJ (Y:=Unit×(Int×Int)) (fun (_,(v1,v2))=>[(0,pU v1),(2,pI v2)]) (fun (_,(v1,v2))=>[]) (fun (_,(v1,v2))=>q3=(v1,v2)) ?_ ?_
 ·skip
  refine lE rfl hq3 (fun hc4 hq3=>?_) fun hc4 hq3=>?_
  ·refine af ?_
   refine ah [5,6] [(0,pU (cw .u64 p0 32))] (by kernel_rfl) (ar (ai [(2,pI 32)] (by kernel_rfl) ?_))
   obtain rfl:=osi hq3
   exact az ((),((cw .u64 p0 32),32)) (pH rfl) cM rfl
  refine ag ?_
  obtain rfl:=osi hq3
  exact az ((),(p0,0)) (pH rfl) cM rfl
 rintro ⟨_,⟨v1,v2⟩⟩ τ hz;(try dsimp only at hz);subst q3;(try dsimp only at h);dsimp only [aM]
 refine af (af (ah [7] [(8,pB (decide (65536≤v1)))] (by kernel_rfl) (ar (aa h fun q7 hq7 h=>?_))))
 refine aJ (Y:=Unit×(Int×Int)) (fun (_,(v5,v6))=>[(0,pU v5),(2,pI v6)]) (fun (_,(v5,v6))=>[]) (fun (_,(v5,v6))=>q7=(v5,v6)) ?_ ?_
 ·skip
  refine lE rfl hq7 (fun hc8 hq7=>?_) fun hc8 hq7=>?_
  ·refine af ?_
   refine ah [9,10] [(0,pU (cw .u64 v1 16))] (by kernel_rfl) (ar (ah [11,12] [(2,pI (IntKind.i64.wrap (v2+16)))] (by kernel_rfl) ?_))
   obtain rfl:=osi hq7
   exact az ((),((cw .u64 v1 16),(IntKind.i64.wrap (v2+16)))) (pH rfl) cM rfl
  refine ag ?_
  obtain rfl:=osi hq7
  exact az ((),(v1,v2)) (pH rfl) cM rfl
 rintro ⟨_,⟨v5,v6⟩⟩ τ hz;(try dsimp only at hz);subst q7;(try dsimp only at h);dsimp only [aM]
 refine af (af (ah [13] [(14,pB (decide (256≤v5)))] (by kernel_rfl) (ar (aa h fun q11 hq11 h=>?_))))
 refine aJ (Y:=Unit×(Int×Int)) (fun (_,(v9,v10))=>[(0,pU v9),(2,pI v10)]) (fun (_,(v9,v10))=>[]) (fun (_,(v9,v10))=>q11=(v9,v10)) ?_ ?_
 ·skip
  refine lE rfl hq11 (fun hc12 hq11=>?_) fun hc12 hq11=>?_
  ·refine af ?_
   refine ah [15,16] [(0,pU (cw .u64 v5 8))] (by kernel_rfl) (ar (ah [17,18] [(2,pI (IntKind.i64.wrap (v6+8)))] (by kernel_rfl) ?_))
   obtain rfl:=osi hq11
   exact az ((),((cw .u64 v5 8),(IntKind.i64.wrap (v6+8)))) (pH rfl) cM rfl
  refine ag ?_
  obtain rfl:=osi hq11
  exact az ((),(v5,v6)) (pH rfl) cM rfl
 rintro ⟨_,⟨v9,v10⟩⟩ τ hz;(try dsimp only at hz);subst q11;(try dsimp only at h);dsimp only [aM]
 refine af (aa h fun c13 hc13 h=>?_)
 refine dV h ?_;clear h;intro w14 hw14 h
 refine ae (bC 6 [] (rg 19 5) [(24,pI (IntKind.i64.wrap (v10+(IntKind.i64.wrap (c13.toNat:Int)))))] (fosx 3 (s:=(⟨#[0,1,2,2,3,3,3,3,4,4,4,4,4,4,4,4,5,5,5,5,5,5,5,5,5,5,5,5,5,5,5,5,6,6,6,6,6,6,6,6,6,6,6,6,6,6,6,6,6,6,6,6,6,6,6,6,6,6,6,6,6,6,6,6,7,7,7,7,7,7,7,7,7,7,7,7,7,7,7,7,7,7,7,7,7,7,7,7,7,7,7,7,7,7,7,7,7,7,7,7,7,7,7,7,7,7,7,7,7,7,7,7,7,7,7,7,7,7,7,7,7,7,7,7,7,7,7,7,8,8,8,8,8,8,8,8,8,8,8,8,8,8,8,8,8,8,8,8,8,8,8,8,8,8,8,8,8,8,8,8,8,8,8,8,8,8,8,8,8,8,8,8,8,8,8,8,8,8,8,8,8,8,8,8,8,8,8,8,8,8,8,8,8,8,8,8,8,8,8,8,8,8,8,8,8,8,8,8,8,8,8,8,8,8,8,8,8,8,8,8,8,8,8,8,8,8,8,8,8,8,8,8,8,8,8,8,8,8,8,8,8,8,8,8,8,8,8,8,8,8,8,8,8,8,8,8]⟩:ByteArray)) hc13 bZ) (by kernel_rfl) (cd rfl rfl rfl (bc rfl (.p (congrArg (fun z=>PV.v (Value.int .i64 z)) hw14))) (ap (ej ?_))))
 exact zz r h rfl
def db (p0:Int):Option Int:=(dY p0).bind fun x1=>some (IntKind.i64.wrap (64 - x1))
theorem j5 {p0:Int} {r:Int}  (h:db p0=some r):PF 194 [pU p0] (pI r):=by
 unfold db at h
 refine bm ?_
 refine fy Tryz.func194 rfl Tryz.ntmps194 Tryz.results194 rfl (aU [2] (by kernel_rfl) (fk h fun x1 hx1 h=>aw [] [3,4,5] [(2,pI (IntKind.i64.wrap (64 - x1)))] (bK 1 (kE hx1) bZ) (by kernel_rfl) (ej ?_)))
 exact zz r h rfl
def eZ (p0:Int) (p1:Int) (p2:Int):Option (Int×Int):=cond (p2 == 0) (none) (cond (decide (p2≤p0)) (none) (cond (p0 == 0) ((nz p2).bind fun u4=>(nz p2).bind fun u5=>some ((IntKind.u64.wrap (Int.tdiv p1 p2)),(Int.tmod p1 p2))) ((db p2).bind fun x6=>(nH (IntKind.u64.wrap x6)).bind fun u7=>lb ((cw .u64 (eR .u64 p2 (IntKind.u64.wrap x6)) 32)) (fun w8=>lb ((ec .u64 (eR .u64 p2 (IntKind.u64.wrap x6)) 4294967295)) (fun w9=>(nH (IntKind.u64.wrap x6)).bind fun u10=>(nH (IntKind.u64.wrap (64 - (IntKind.u64.wrap x6)))).bind fun u11=>lb ((qG .u64 (eR .u64 p0 (IntKind.u64.wrap x6)) (cw .u64 p1 (IntKind.u64.wrap (64 - (IntKind.u64.wrap x6)))))) (fun w12=>(nH (IntKind.u64.wrap x6)).bind fun u13=>lb ((cw .u64 (eR .u64 p1 (IntKind.u64.wrap x6)) 32)) (fun w14=>lb ((ec .u64 (eR .u64 p1 (IntKind.u64.wrap x6)) 4294967295)) (fun w15=>(nz w8).bind fun u16=>lb ((IntKind.u64.wrap (w12 - (IntKind.u64.wrap ((IntKind.u64.wrap (Int.tdiv w12 w8))*w8))))) (fun w17=>(aV (S:=Int×Int) (T:=(Int)) (fun (v18,v19)=>cond ((decide (4294967296≤v18))||(decide ((IntKind.u64.wrap ((IntKind.u64.wrap (4294967296*v19))+w14))<(IntKind.u64.wrap (v18*w9))))) (cond (decide (4294967296≤(IntKind.u64.wrap (v19+w8)))) (some (.inr (IntKind.u64.wrap (v18 - 1)))) (some (.inl ((IntKind.u64.wrap (v18 - 1)),(IntKind.u64.wrap (v19+w8)))))) (some (.inr v18))) FUEL ((IntKind.u64.wrap (Int.tdiv w12 w8)),w17)).bind fun v20=>lb ((IntKind.u64.wrap ((IntKind.u64.wrap ((IntKind.u64.wrap (w12*4294967296))+w14)) - (IntKind.u64.wrap (v20*(eR .u64 p2 (IntKind.u64.wrap x6))))))) (fun w25=>(nz w8).bind fun u26=>lb ((IntKind.u64.wrap (w25 - (IntKind.u64.wrap ((IntKind.u64.wrap (Int.tdiv w25 w8))*w8))))) (fun w27=>(aV (S:=Int×Int) (T:=(Int)) (fun (v28,v29)=>cond ((decide (4294967296≤v29))||(decide ((IntKind.u64.wrap ((IntKind.u64.wrap (4294967296*v28))+w15))<(IntKind.u64.wrap (v29*w9))))) (cond (decide (4294967296≤(IntKind.u64.wrap (v28+w8)))) (some (.inr (IntKind.u64.wrap (v29 - 1)))) (some (.inl ((IntKind.u64.wrap (v28+w8)),(IntKind.u64.wrap (v29 - 1)))))) (some (.inr v29))) FUEL (w27,(IntKind.u64.wrap (Int.tdiv w25 w8)))).bind fun v30=>(nH (IntKind.u64.wrap x6)).bind fun u35=>lb ((IntKind.u64.wrap ((IntKind.u64.wrap (v20*4294967296))+v30))) (fun w36=>lb ((cw .u64 (IntKind.u64.wrap ((IntKind.u64.wrap ((IntKind.u64.wrap (w25*4294967296))+w15)) - (IntKind.u64.wrap (v30*(eR .u64 p2 (IntKind.u64.wrap x6)))))) (IntKind.u64.wrap x6))) (fun w37=>some (w36,w37))))))))))))))
theorem kF {p0:Int} {p1:Int} {p2:Int} {r:(Int×Int)}  (h:eZ p0 p1 p2=some r):PF 182 [pU p0,pU p1,pU p2] (.tup [pU r.1,pU r.2]):=by
 unfold eZ at h
 refine bm ?_
 refine fy Tryz.func182 rfl Tryz.ntmps182 Tryz.results182 rfl (aU [6,7] (by kernel_rfl) (dQ (ah [19] [(20,pB (p2 == 0))] (by kernel_rfl) (cY rfl h (fun hc1 h=>?_) fun hc1 h=>?_))))
 ·refine ae ?_
  exact absurd h (by simp)
 refine ag ?_
 refine dQ (ah [22,23] [(24,pB (decide (p2≤p0)))] (by kernel_rfl) (cY rfl h (fun hc2 h=>?_) fun hc2 h=>?_))
 ·refine ae ?_
  exact absurd h (by simp)
 refine ag ?_
 refine dQ (ah [26] [(27,pB (p0 == 0))] (by kernel_rfl) (cY rfl h (fun hc3 h=>?_) fun hc3 h=>?_))
 ·refine af ?_
  refine du (ρd:=[]) [(0,0),(1,0),(2,0),(3,0),(4,0),(5,0),(6,0),(7,0)] _ (List.Perm.refl _) (by kernel_rfl) rfl (aa h fun u4 hu4 h=>aa h fun u5 hu5 h=>dJ 8 [] (rg 28 6) [(6,pU (IntKind.u64.wrap (Int.tdiv p1 p2))),(7,pU (Int.tmod p1 p2))] (yi 2 hu4 (yi 5 hu5 bZ)) (by kernel_rfl) (ef (ip ?_)))
  obtain rfl:=osi h
  exact aG (cK (aI rfl) (aI rfl)) cM ⟨rfl,rfl⟩
 refine ag ?_
 refine fk h fun x6 hx6 h=>aw [] [34,35,36] [(8,pU (IntKind.u64.wrap x6))] (bK 1 (j5 hx6) bZ) (by kernel_rfl) (fk h fun u7 hu7 h=>aw [] [37,38,39] [(2,pU (eR .u64 p2 (IntKind.u64.wrap x6)))] (AF 2 hu7 bZ) (by kernel_rfl) (cL ?_))
 refine dV h ?_;clear h;intro w8 hw8 h
 refine ae (bQ 2 [40] [(41,pU (cw .u64 (eR .u64 p2 (IntKind.u64.wrap x6)) 32))] (by kernel_rfl) (cd rfl rfl rfl (bc rfl (.p (congrArg (fun z=>PV.v (Value.int .u64 z)) hw8))) (ap (cL ?_))))
 refine dV h ?_;clear h;intro w9 hw9 h
 refine ae (bQ 2 [42] [(43,pU (ec .u64 (eR .u64 p2 (IntKind.u64.wrap x6)) 4294967295))] (by kernel_rfl) (cd rfl rfl rfl (bc rfl (.p (congrArg (fun z=>PV.v (Value.int .u64 z)) hw9))) (ap (fk h fun u10 hu10 h=>aa h fun u11 hu11 h=>?_))))
 refine dV h ?_;clear h;intro w12 hw12 h
 refine ae (bC 8 [] (rg 44 7) [(51,pU (qG .u64 (eR .u64 p0 (IntKind.u64.wrap x6)) (cw .u64 p1 (IntKind.u64.wrap (64 - (IntKind.u64.wrap x6))))))] (AF 2 hu10 (AF 6 hu11 bZ)) (by kernel_rfl) (cd rfl rfl rfl (bc rfl (.p (congrArg (fun z=>PV.v (Value.int .u64 z)) hw12))) (ap (fk h fun u13 hu13 h=>aw [] [52,53,54] [(12,pU (eR .u64 p1 (IntKind.u64.wrap x6)))] (AF 2 hu13 bZ) (by kernel_rfl) (cL ?_)))))
 refine dV h ?_;clear h;intro w14 hw14 h
 refine ae (bQ 2 [55] [(56,pU (cw .u64 (eR .u64 p1 (IntKind.u64.wrap x6)) 32))] (by kernel_rfl) (cd rfl rfl rfl (bc rfl (.p (congrArg (fun z=>PV.v (Value.int .u64 z)) hw14))) (ap (cL ?_))))
 refine dV h ?_;clear h;intro w15 hw15 h
 refine ae (bQ 2 [57] [(58,pU (ec .u64 (eR .u64 p1 (IntKind.u64.wrap x6)) 4294967295))] (by kernel_rfl) (cd rfl rfl rfl (bc rfl (.p (congrArg (fun z=>PV.v (Value.int .u64 z)) hw15))) (ap (fk h fun u16 hu16 h=>aw [] [59,60,61] [(15,pU (IntKind.u64.wrap (Int.tdiv w12 w8)))] (yi 2 hu16 bZ) (by kernel_rfl) (cL ?_)))))
 refine dV h ?_;clear h;intro w17 hw17 h
 refine ae (bQ 5 [62,63,64,65] [(66,pU (IntKind.u64.wrap (w12 - (IntKind.u64.wrap ((IntKind.u64.wrap (Int.tdiv w12 w8))*w8)))))] (by kernel_rfl) (cd rfl rfl rfl (bc rfl (.p (congrArg (fun z=>PV.v (Value.int .u64 z)) hw17))) (ap (fk h fun q22 hq22 h=>?_))))
 refine aJ (Y:=Unit×Int) (fun (_,v20)=>[(2,pU (eR .u64 p2 (IntKind.u64.wrap x6))),(8,pU (IntKind.u64.wrap x6)),(9,pU w8),(10,pU w9),(11,pU w12),(13,pU w14),(14,pU w15),(15,pU v20)]) (fun (_,v20)=>[]) (fun (_,v20)=>q22=v20) ?_ ?_
 ·refine au ?_
  refine bt (Y:=Unit) (S:=Int×Int) _ hq22 (fun _ (v18,v19)=>[(2,pU (eR .u64 p2 (IntKind.u64.wrap x6))),(8,pU (IntKind.u64.wrap x6)),(9,pU w8),(10,pU w9),(11,pU w12),(13,pU w14),(14,pU w15),(15,pU v18),(16,pU v19)]) (fun _ (v18,v19)=>[]) () (wG rfl) cM ?_
  rintro _ ⟨v18,v19⟩ o τ hb21;(try dsimp only at hb21);dsimp only [aM]
  refine af (af (ah (rg 67 11) [(78,pB ((decide (4294967296≤v18))||(decide ((IntKind.u64.wrap ((IntKind.u64.wrap (4294967296*v19))+w14))<(IntKind.u64.wrap (v18*w9))))))] (by kernel_rfl) (cY rfl hb21 (fun hc23 hb21=>?_) fun hc23 hb21=>?_)))
  ·refine ag ?_
   refine ar (au (af (ah [79,80] [(15,pU (IntKind.u64.wrap (v18 - 1)))] (by kernel_rfl) (cL (ah [81,82,83] [(16,pU (IntKind.u64.wrap (v19+w8)))] (by kernel_rfl) (cL (ah [84] [(85,pB (decide (4294967296≤(IntKind.u64.wrap (v19+w8)))))] (by kernel_rfl) (cY rfl hb21 (fun hc24 hb21=>?_) fun hc24 hb21=>?_))))))))
   ·refine bA ?_
    refine qF rfl (aQ hb21 (fun ht=>aS rfl ?_))
    exact az ((),(IntKind.u64.wrap (v18 - 1))) (zh8 rfl) cM ht.symm
   refine ag ?_
   refine aA ?_
   exact ck hb21 () (wG rfl) cM
  refine bA ?_
  refine aW (aQ hb21 (fun ht=>aS rfl ?_))
  exact az ((),v18) (zh8 rfl) cM ht.symm
 rintro ⟨_,v20⟩ τ hz;(try dsimp only at hz);subst q22;(try dsimp only at h);dsimp only [aM]
 refine af ?_
 refine dV h ?_;clear h;intro w25 hw25 h
 refine ae (bQ 8 (rg 86 7) [(93,pU (IntKind.u64.wrap ((IntKind.u64.wrap ((IntKind.u64.wrap (w12*4294967296))+w14)) - (IntKind.u64.wrap (v20*(eR .u64 p2 (IntKind.u64.wrap x6)))))))] (by kernel_rfl) (cd rfl rfl rfl (bc rfl (.p (congrArg (fun z=>PV.v (Value.int .u64 z)) hw25))) (ap (fk h fun u26 hu26 h=>aw [] [94,95,96] [(18,pU (IntKind.u64.wrap (Int.tdiv w25 w8)))] (yi 2 hu26 bZ) (by kernel_rfl) (cL ?_)))))
 refine dV h ?_;clear h;intro w27 hw27 h
 refine ae (bQ 5 [97,98,99,100] [(101,pU (IntKind.u64.wrap (w25 - (IntKind.u64.wrap ((IntKind.u64.wrap (Int.tdiv w25 w8))*w8)))))] (by kernel_rfl) (cd rfl rfl rfl (bc rfl (.p (congrArg (fun z=>PV.v (Value.int .u64 z)) hw27))) (ap (fk h fun q32 hq32 h=>?_))))
 refine aJ (Y:=Unit×Int) (fun (_,v30)=>[(2,pU (eR .u64 p2 (IntKind.u64.wrap x6))),(8,pU (IntKind.u64.wrap x6)),(14,pU w15),(15,pU v20),(17,pU w25),(18,pU v30)]) (fun (_,v30)=>[]) (fun (_,v30)=>q32=v30) ?_ ?_
 ·refine au ?_
  refine bt (Y:=Unit) (S:=Int×Int) _ hq32 (fun _ (v28,v29)=>[(2,pU (eR .u64 p2 (IntKind.u64.wrap x6))),(8,pU (IntKind.u64.wrap x6)),(9,pU w8),(10,pU w9),(14,pU w15),(15,pU v20),(16,pU v28),(17,pU w25),(18,pU v29)]) (fun _ (v28,v29)=>[]) () (wG rfl) cM ?_
  rintro _ ⟨v28,v29⟩ o τ hb31;(try dsimp only at hb31);dsimp only [aM]
  refine af (af (ah (rg 102 11) [(113,pB ((decide (4294967296≤v29))||(decide ((IntKind.u64.wrap ((IntKind.u64.wrap (4294967296*v28))+w15))<(IntKind.u64.wrap (v29*w9))))))] (by kernel_rfl) (cY rfl hb31 (fun hc33 hb31=>?_) fun hc33 hb31=>?_)))
  ·refine ag ?_
   refine ar (au (af (ah [114,115] [(18,pU (IntKind.u64.wrap (v29 - 1)))] (by kernel_rfl) (cL (ah [116,117,118] [(16,pU (IntKind.u64.wrap (v28+w8)))] (by kernel_rfl) (cL (ah [119] [(120,pB (decide (4294967296≤(IntKind.u64.wrap (v28+w8)))))] (by kernel_rfl) (cY rfl hb31 (fun hc34 hb31=>?_) fun hc34 hb31=>?_))))))))
   ·refine bA ?_
    refine qF rfl (aQ hb31 (fun ht=>aS rfl ?_))
    exact az ((),(IntKind.u64.wrap (v29 - 1))) (AC rfl) cM ht.symm
   refine ag ?_
   refine aA ?_
   exact ck hb31 () (wG rfl) cM
  refine bA ?_
  refine aW (aQ hb31 (fun ht=>aS rfl ?_))
  exact az ((),v29) (AC rfl) cM ht.symm
 rintro ⟨_,v30⟩ τ hz;(try dsimp only at hz);subst q32;(try dsimp only at h);dsimp only [aM]
 refine af (aa h fun u35 hu35 h=>?_)
 refine dV h ?_;clear h;intro w36 hw36 h
 refine ae (bC 14 [] [121,122,123,125,126,127,128,129,130,131,132,133] [(124,pU (IntKind.u64.wrap ((IntKind.u64.wrap (v20*4294967296))+v30))),(134,pU (cw .u64 (IntKind.u64.wrap ((IntKind.u64.wrap ((IntKind.u64.wrap (w25*4294967296))+w15)) - (IntKind.u64.wrap (v30*(eR .u64 p2 (IntKind.u64.wrap x6)))))) (IntKind.u64.wrap x6)))] (AF 13 hu35 bZ) (by kernel_rfl) (cd rfl rfl rfl (bc rfl (.p (congrArg (fun z=>PV.v (Value.int .u64 z)) hw36))) ?_))
 refine dV h ?_;clear h;intro w37 hw37 h
 refine cd rfl rfl rfl (bc rfl (.p (congrArg (fun z=>PV.v (Value.int .u64 z)) hw37))) (ap (ej ?_))
 obtain rfl:=osi h
 exact aG (cK (aI rfl) (aI rfl)) cM ⟨rfl,rfl⟩
def iX (p0:Int) (p1:Int) (p2:Int) (p3:Int):Option Bool:=cond (p3 == 1) (some (decide (0<p1))) (cond (p3 == 2) (some (decide ((IntKind.u64.wrap (p2 - p1))≤p1))) (cond (p3 == 3) (some ((decide ((IntKind.u64.wrap (p2 - p1))<p1))||((p1 == (IntKind.u64.wrap (p2 - p1)))&&((Int.tmod p0 2) == 1)))) (some false)))
theorem qX {p0:Int} {p1:Int} {p2:Int} {p3:Int} {r:Bool}  (h:iX p0 p1 p2 p3=some r):PF 183 [pU p0,pU p1,pU p2,pI p3] (pB r):=by
 unfold iX at h
 refine bm ?_
 refine fy Tryz.func183 rfl Tryz.ntmps183 Tryz.results183 rfl (aU [8] (by kernel_rfl) (cL (ah [10,11,12] [(9,pU (IntKind.u64.wrap (p2 - p1)))] (by kernel_rfl) (dQ (ai [(13,pI p3)] (by kernel_rfl) (ar (au (af (ah [15] [(14,pB (p3 == 1))] (by kernel_rfl) (cY rfl h (fun hc1 h=>?_) fun hc1 h=>?_))))))))))
 ·refine af ?_
  refine ah [16,17] [(8,pB (decide (0<p1)))] (by kernel_rfl) (ej (av (aK ?_)))
  exact zz r h rfl
 refine af ?_
 refine ah [19] [(18,pB (p3 == 2))] (by kernel_rfl) (cY rfl h (fun hc2 h=>?_) fun hc2 h=>?_)
 ·refine af ?_
  refine ah [20,21,22] [(8,pB (decide ((IntKind.u64.wrap (p2 - p1))≤p1)))] (by kernel_rfl) (ej (av (aK ?_)))
  exact zz r h rfl
 refine af ?_
 refine ah [24] [(23,pB (p3 == 3))] (by kernel_rfl) (cY rfl h (fun hc3 h=>?_) fun hc3 h=>?_)
 ·refine af ?_
  refine ah (rg 25 13) [(8,pB ((decide ((IntKind.u64.wrap (p2 - p1))<p1))||((p1 == (IntKind.u64.wrap (p2 - p1)))&&((Int.tmod p0 2) == 1))))] (by kernel_rfl) (ej (av (aK ?_)))
  exact zz r h rfl
 refine ag ?_
 refine aA (cL (ai [(8,pB false)] (by kernel_rfl) (ej ?_)))
 exact zz r h rfl
def jq (p0:Zi) (p1:Int) (p2:Int):Option (Int×Int):=cond (((p1 == 0)||(decide (p2<0)))||(decide (3<p2))) (some ((0:Int),(2:Int))) (cond (decide (p1≤p0.Hi)) (some ((0:Int),(3:Int))) ((eZ p0.Hi p0.Lo p1).bind fun x4=>(iX x4.1 x4.2 p1 p2).bind fun x5=>cond (!x5) (some (x4.1,(0:Int))) (cond (x4.1 == 18446744073709551615) (some ((0:Int),(3:Int))) (some ((IntKind.u64.wrap (x4.1+1)),(0:Int))))))
theorem o6 {p0:Zi} {p1:Int} {p2:Int} {r:(Int×Int)}  (h:jq p0 p1 p2=some r):PF 153 [.agg [pU p0.Hi,pU p0.Lo],pU p1,pI p2] (.tup [pU r.1,pI r.2]):=by
 unfold jq at h
 refine bm ?_
 refine fy Tryz.func153 rfl Tryz.ntmps153 Tryz.results153 rfl (ae (ak rfl (bV (cs:=[pU p0.Hi,pU p0.Lo]) rfl rfl (fun b1=>bY [6,7] (by kernel_rfl) (dQ (ah (rg 10 9) [(19,pB (((p1 == 0)||(decide (p2<0)))||(decide (3<p2))))] (by kernel_rfl) (cY rfl h (fun hc2 h=>?_) fun hc2 h=>?_)))))))
 ·refine af ?_
  refine ai [(6,pU 0),(7,pI 2)] (by kernel_rfl) (ip ?_)
  obtain rfl:=osi h
  exact aG (cK (aI rfl) (aI rfl)) cM ⟨rfl,rfl⟩
 refine ag ?_
 refine dQ (aY [0] [20,21,22] [(23,pB (decide (p1≤p0.Hi)))] (by kernel_rfl) (cY rfl h (fun hc3 h=>?_) fun hc3 h=>?_))
 ·refine af ?_
  refine ai [(6,pU 0),(7,pI 3)] (by kernel_rfl) (ip ?_)
  obtain rfl:=osi h
  exact aG (cK (aI rfl) (aI rfl)) cM ⟨rfl,rfl⟩
 refine ag ?_
 refine fk h fun x4 hx4 h=>aw [0,0] ((rg 25 6)++[24,31,32]) [(8,pU x4.1),(9,pU x4.2)] (bK 5 (kF hx4) bZ) (by kernel_rfl) (dQ (aa h fun x5 hx5 h=>aw [] (rg 33 5) [(38,pB (!x5))] (bK 4 (qX hx5) bZ) (by kernel_rfl) (cY rfl h (fun hc6 h=>?_) fun hc6 h=>?_)))
 ·refine af ?_
  refine ah [39] [(6,pU x4.1),(7,pI 0)] (by kernel_rfl) (ip ?_)
  obtain rfl:=osi h
  exact aG (cK (aI rfl) (aI rfl)) cM ⟨rfl,rfl⟩
 refine ag ?_
 refine dQ (ah [40] [(41,pB (x4.1 == 18446744073709551615))] (by kernel_rfl) (cY rfl h (fun hc7 h=>?_) fun hc7 h=>?_))
 ·refine af ?_
  refine ai [(6,pU 0),(7,pI 3)] (by kernel_rfl) (ip ?_)
  obtain rfl:=osi h
  exact aG (cK (aI rfl) (aI rfl)) cM ⟨rfl,rfl⟩
 refine ag ?_
 refine cL (ah [42,43] [(6,pU (IntKind.u64.wrap (x4.1+1))),(7,pI 0)] (by kernel_rfl) (ej ?_))
 obtain rfl:=osi h
 exact aG (cK (aI rfl) (aI rfl)) cM ⟨rfl,rfl⟩
def iY (p0:Int) (p1:Int) (p2:Int) (p3:Int):Option (Int×Int):=(gQ p0 p1).bind fun x1=>(jq x1 p2 p3).bind fun x2=>some (x2.1,x2.2)
theorem qY {p0:Int} {p1:Int} {p2:Int} {p3:Int} {r:(Int×Int)}  (h:iY p0 p1 p2 p3=some r):PF 145 [pU p0,pU p1,pU p2,pI p3] (.tup [pU r.1,pI r.2]):=by
 unfold iY at h
 refine bm ?_
 refine fy Tryz.func145 rfl Tryz.ntmps145 Tryz.results145 rfl (aU [8,9] (by kernel_rfl) (fk h fun x1 hx1 h=>aa h fun x2 hx2 h=>aw [] (rg 10 8) [(8,pU x2.1),(9,pI x2.2)] (bK 2 (j0 hx1) (bK 5 (o6 hx2) bZ)) (by kernel_rfl) (ej ?_)))
 obtain rfl:=osi h
 exact aG (cK (aI rfl) (aI rfl)) cM ⟨rfl,rfl⟩
def ig (p0:Int) (p1:Int) (p2:Int):Option Int:=(nz p2).bind fun u1=>(eZ (Int.tmod p0 p2) p1 p2).bind fun x2=>some x2.2
theorem om {p0:Int} {p1:Int} {p2:Int} {r:Int}  (h:ig p0 p1 p2=some r):PF 176 [pU p0,pU p1,pU p2] (pU r):=by
 unfold ig at h
 refine bm ?_
 refine fy Tryz.func176 rfl Tryz.ntmps176 Tryz.results176 rfl (aU [6] (by kernel_rfl) (fk h fun u1 hu1 h=>aa h fun x2 hx2 h=>aw [] ((rg 10 6)++[9,16,17,7]) [(8,pU x2.2)] (yi 2 hu1 (bK 5 (kF hx2) bZ)) (by kernel_rfl) (cL (ah [18] [(6,pU x2.2)] (by kernel_rfl) (ej ?_)))))
 exact zz r h rfl
def iZ (p0:Int) (p1:Int) (p2:Int):Option Int:=cond (p2 == 0) (some (0:Int)) ((gQ p0 p1).bind fun x2=>(ig x2.Hi x2.Lo p2).bind fun x4=>some x4)
theorem qZ {p0:Int} {p1:Int} {p2:Int} {r:Int}  (h:iZ p0 p1 p2=some r):PF 146 [pU p0,pU p1,pU p2] (pU r):=by
 unfold iZ at h
 refine bm ?_
 refine fy Tryz.func146 rfl Tryz.ntmps146 Tryz.results146 rfl (aU [6] (by kernel_rfl) (dQ (ah [8] [(9,pB (p2 == 0))] (by kernel_rfl) (cY rfl h (fun hc1 h=>?_) fun hc1 h=>?_))))
 ·refine af ?_
  refine ai [(6,pU 0)] (by kernel_rfl) (ip ?_)
  exact zz r h rfl
 refine ag ?_
 refine fk h fun x2 hx2 h=>ae (bC 3 [] [10,11] [(12,.agg [pU x2.Hi,pU x2.Lo])] (bK 2 (j0 hx2) bZ) (by kernel_rfl) (ak rfl (aX (cs:=[pU 0,pU 0]) rfl rfl rfl rfl (fun b3=>aH rfl rfl (aj (vs:=[pU x2.Hi,pU x2.Lo]) rfl rfl rfl rfl rfl cA xJ (ap (fk h fun x4 hx4 h=>aw [0,0] (rg 13 6) [(6,pU x4)] (bK 5 (om hx4) bZ) (by kernel_rfl) (ej ?_))))))))
 exact zz r h rfl
def fB (p0:Int):Option Bool:=some (p0 != p0)
theorem jT {p0:Int} {r:Bool}  (h:fB p0=some r):PF 192 [pU p0] (pB r):=by
 unfold fB at h
 refine bm ?_
 refine fy Tryz.func192 rfl Tryz.ntmps192 Tryz.results192 rfl (aU [2] (by kernel_rfl) (cL (ah [3,4,5] [(2,pB (p0 != p0))] (by kernel_rfl) (ej ?_))))
 exact zz r h rfl
def eF (p0:Int) (p1:Int):Option Int:=(fB p0).bind fun x1=>(fB p1).bind fun x2=>cond x1 (cond x2 (some (0:Int)) (some (-1))) (cond x2 (some (1:Int)) (cond (decide (p0<p1)) (some (-1)) (cond (decide (p1<p0)) (some (1:Int)) (some (0:Int)))))
theorem mM {p0:Int} {p1:Int} {r:Int}  (h:eF p0 p1=some r):PF 177 [pU p0,pU p1] (pI r):=by
 unfold eF at h
 refine bm ?_
 refine fy Tryz.func177 rfl Tryz.ntmps177 Tryz.results177 rfl (aU [4] (by kernel_rfl) (fk h fun x1 hx1 h=>aw [] [7,8] [(5,pB x1)] (bK 1 (jT hx1) bZ) (by kernel_rfl) (fk h fun x2 hx2 h=>aw [] [9,10] [(6,pB x2)] (bK 1 (jT hx2) bZ) (by kernel_rfl) (dQ (ai [(11,pB x1)] (by kernel_rfl) (cY rfl h (fun hc3 h=>?_) fun hc3 h=>?_))))))
 ·refine af ?_
  refine af (ai [(12,pB x2)] (by kernel_rfl) (cY rfl h (fun hc4 h=>?_) fun hc4 h=>?_))
  ·refine af ?_
   refine ai [(4,pI 0)] (by kernel_rfl) (ip (aK ?_))
   exact zz r h rfl
  refine ag ?_
  refine cL (ai [(4,pI (-1))] (by kernel_rfl) (ip ?_))
  exact zz r h rfl
 refine ag ?_
 refine dQ (ai [(13,pB x2)] (by kernel_rfl) (cY rfl h (fun hc5 h=>?_) fun hc5 h=>?_))
 ·refine af ?_
  refine ai [(4,pI 1)] (by kernel_rfl) (ip ?_)
  exact zz r h rfl
 refine ag ?_
 refine dQ (ah [14,15] [(16,pB (decide (p0<p1)))] (by kernel_rfl) (cY rfl h (fun hc6 h=>?_) fun hc6 h=>?_))
 ·refine af ?_
  refine ai [(4,pI (-1))] (by kernel_rfl) (ip ?_)
  exact zz r h rfl
 refine ag ?_
 refine dQ (ah [17,18] [(19,pB (decide (p1<p0)))] (by kernel_rfl) (cY rfl h (fun hc7 h=>?_) fun hc7 h=>?_))
 ·refine af ?_
  refine ai [(4,pI 1)] (by kernel_rfl) (ip ?_)
  exact zz r h rfl
 refine ag ?_
 refine cL (ai [(4,pI 0)] (by kernel_rfl) (ej ?_))
 exact zz r h rfl
def gS (p0:Zc) (p1:Zc):Option Int:=(eF p1.rest p0.rest).bind fun x3=>cond (x3 != 0) (some x3) ((cS p0.index_ p1.index_).bind fun x5=>some x5)
theorem nL {p0:Zc} {p1:Zc} {r:Int}  (h:gS p0 p1=some r):PF 147 [.agg [pI p0.index_,pU p0.share,pU p0.rest],.agg [pI p1.index_,pU p1.share,pU p1.rest]] (pI r):=by
 unfold gS at h
 refine bm ?_
 refine fy Tryz.func147 rfl Tryz.ntmps147 Tryz.results147 rfl (ae (ak rfl (bV (cs:=[pI p0.index_,pU p0.share,pU p0.rest]) rfl rfl (fun b1=>ak rfl (bV (cs:=[pI p1.index_,pU p1.share,pU p1.rest]) rfl rfl (fun b2=>bY [4] (by kernel_rfl) (dQ (aa h fun x3 hx3 h=>aw [0,1] (rg 6 5) [(5,pI x3)] (bK 4 (mM hx3) bZ) (by kernel_rfl) (cL (ah [11] [(12,pB (x3 != 0))] (by kernel_rfl) (cY rfl h (fun hc4 h=>?_) fun hc4 h=>?_)))))))))))
 ·refine af ?_
  refine ah [13] [(4,pI x3)] (by kernel_rfl) (ip ?_)
  exact zz r h rfl
 refine ag ?_
 refine fk h fun x5 hx5 h=>aw [1,0] (rg 14 5) [(4,pI x5)] (bK 4 (fP hx5) bZ) (by kernel_rfl) (ej ?_)
 exact zz r h rfl
def jR (p0:Int):Option Int:=Option.bind (cond (decide (65536≤p0)) (some ((cw .u32 p0 16),16)) (some (p0,0))) (fun (v1,v2)=>Option.bind (cond (decide (256≤v1)) (some ((cw .u32 v1 8),(IntKind.i64.wrap (v2+8)))) (some (v1,v2))) (fun (v5,v6)=>(idx (⟨#[0,1,2,2,3,3,3,3,4,4,4,4,4,4,4,4,5,5,5,5,5,5,5,5,5,5,5,5,5,5,5,5,6,6,6,6,6,6,6,6,6,6,6,6,6,6,6,6,6,6,6,6,6,6,6,6,6,6,6,6,6,6,6,6,7,7,7,7,7,7,7,7,7,7,7,7,7,7,7,7,7,7,7,7,7,7,7,7,7,7,7,7,7,7,7,7,7,7,7,7,7,7,7,7,7,7,7,7,7,7,7,7,7,7,7,7,7,7,7,7,7,7,7,7,7,7,7,7,8,8,8,8,8,8,8,8,8,8,8,8,8,8,8,8,8,8,8,8,8,8,8,8,8,8,8,8,8,8,8,8,8,8,8,8,8,8,8,8,8,8,8,8,8,8,8,8,8,8,8,8,8,8,8,8,8,8,8,8,8,8,8,8,8,8,8,8,8,8,8,8,8,8,8,8,8,8,8,8,8,8,8,8,8,8,8,8,8,8,8,8,8,8,8,8,8,8,8,8,8,8,8,8,8,8,8,8,8,8,8,8,8,8,8,8,8,8,8,8,8,8,8,8,8,8,8,8]⟩:ByteArray).data.toList (IntKind.u8.wrap v5)).bind fun c9=>lb ((IntKind.i64.wrap (v6+(IntKind.i64.wrap (c9.toNat:Int))))) (fun w10=>some w10)))
theorem oo {p0:Int} {r:Int}  (h:jR p0=some r):PF 110 [.v (.int .u32 p0)] (pI r):=by
 unfold jR at h
 refine bm ?_
 refine fy Tryz.func110 rfl Tryz.ntmps110 Tryz.results110 rfl (ai [(2,pI 0)] (by kernel_rfl) (dQ (ah [3] [(4,pB (decide (65536≤p0)))] (by kernel_rfl) (ar (aa h fun q3 hq3 h=>?_)))))
 refine aJ (Y:=Unit×(Int×Int)) (fun (_,(v1,v2))=>[(0,.v (.int .u32 v1)),(2,pI v2)]) (fun (_,(v1,v2))=>[]) (fun (_,(v1,v2))=>q3=(v1,v2)) ?_ ?_
 ·skip
  refine lE rfl hq3 (fun hc4 hq3=>?_) fun hc4 hq3=>?_
  ·refine af ?_
   refine ah [5,6] [(0,.v (.int .u32 (cw .u32 p0 16)))] (by kernel_rfl) (ar (ai [(2,pI 16)] (by kernel_rfl) ?_))
   obtain rfl:=osi hq3
   exact az ((),((cw .u32 p0 16),16)) (pH rfl) cM rfl
  refine ag ?_
  obtain rfl:=osi hq3
  exact az ((),(p0,0)) (pH rfl) cM rfl
 rintro ⟨_,⟨v1,v2⟩⟩ τ hz;(try dsimp only at hz);subst q3;(try dsimp only at h);dsimp only [aM]
 refine af (af (ah [7] [(8,pB (decide (256≤v1)))] (by kernel_rfl) (ar (aa h fun q7 hq7 h=>?_))))
 refine aJ (Y:=Unit×(Int×Int)) (fun (_,(v5,v6))=>[(0,.v (.int .u32 v5)),(2,pI v6)]) (fun (_,(v5,v6))=>[]) (fun (_,(v5,v6))=>q7=(v5,v6)) ?_ ?_
 ·skip
  refine lE rfl hq7 (fun hc8 hq7=>?_) fun hc8 hq7=>?_
  ·refine af ?_
   refine ah [9,10] [(0,.v (.int .u32 (cw .u32 v1 8)))] (by kernel_rfl) (ar (ah [11,12] [(2,pI (IntKind.i64.wrap (v2+8)))] (by kernel_rfl) ?_))
   obtain rfl:=osi hq7
   exact az ((),((cw .u32 v1 8),(IntKind.i64.wrap (v2+8)))) (pH rfl) cM rfl
  refine ag ?_
  obtain rfl:=osi hq7
  exact az ((),(v1,v2)) (pH rfl) cM rfl
 rintro ⟨_,⟨v5,v6⟩⟩ τ hz;(try dsimp only at hz);subst q7;(try dsimp only at h);dsimp only [aM]
 refine af (aa h fun c9 hc9 h=>?_)
 refine dV h ?_;clear h;intro w10 hw10 h
 refine ae (bC 6 [] (rg 13 5) [(18,pI (IntKind.i64.wrap (v6+(IntKind.i64.wrap (c9.toNat:Int)))))] (fosx 3 (s:=(⟨#[0,1,2,2,3,3,3,3,4,4,4,4,4,4,4,4,5,5,5,5,5,5,5,5,5,5,5,5,5,5,5,5,6,6,6,6,6,6,6,6,6,6,6,6,6,6,6,6,6,6,6,6,6,6,6,6,6,6,6,6,6,6,6,6,7,7,7,7,7,7,7,7,7,7,7,7,7,7,7,7,7,7,7,7,7,7,7,7,7,7,7,7,7,7,7,7,7,7,7,7,7,7,7,7,7,7,7,7,7,7,7,7,7,7,7,7,7,7,7,7,7,7,7,7,7,7,7,7,8,8,8,8,8,8,8,8,8,8,8,8,8,8,8,8,8,8,8,8,8,8,8,8,8,8,8,8,8,8,8,8,8,8,8,8,8,8,8,8,8,8,8,8,8,8,8,8,8,8,8,8,8,8,8,8,8,8,8,8,8,8,8,8,8,8,8,8,8,8,8,8,8,8,8,8,8,8,8,8,8,8,8,8,8,8,8,8,8,8,8,8,8,8,8,8,8,8,8,8,8,8,8,8,8,8,8,8,8,8,8,8,8,8,8,8,8,8,8,8,8,8,8,8,8,8,8,8]⟩:ByteArray)) hc9 bZ) (by kernel_rfl) (cd rfl rfl rfl (bc rfl (.p (congrArg (fun z=>PV.v (Value.int .i64 z)) hw10))) (ap (ej ?_))))
 exact zz r h rfl
def jz (p0:Int):Option Int:=cond false ((jR (IntKind.u32.wrap p0)).bind fun x2=>some x2) ((dY p0).bind fun x3=>some x3)
theorem qb {p0:Int} {r:Int}  (h:jz p0=some r):PF 73 [pU p0] (pI r):=by
 unfold jz at h
 refine bm ?_
 refine fy Tryz.func73 rfl Tryz.ntmps73 Tryz.results73 rfl (aU [2] (by kernel_rfl) (cL (lE rfl h (fun hc1 h=>?_) fun hc1 h=>?_)))
 ·refine af ?_
  refine aa h fun x2 hx2 h=>aw [] [3,4,5] [(2,pI x2)] (bK 2 (oo hx2) bZ) (by kernel_rfl) (ip ?_)
  exact zz r h rfl
 refine ag ?_
 refine fk h fun x3 hx3 h=>aw [] [6,7] [(2,pI x3)] (bK 1 (kE hx3) bZ) (by kernel_rfl) (ej ?_)
 exact zz r h rfl
def bh (p0:(List Zc)) (p1:Int) (p2:Int) (p3:(Zc→Zc→Option Int)):Option (List Zc):=(aV (S:=(List Zc)×Int) (T:=((List Zc))) (fun (l2,v3)=>cond (decide (v3<p2)) ((aV (S:=(List Zc)×Int) (T:=((List Zc))) (fun (l10,v11)=>(gd (decide (p1<v11)) (idx l10 v11)).bind fun m16=>(gd (decide (p1<v11)) (idx l10 (IntKind.i64.wrap (v11 - 1)))).bind fun m17=>(gd (decide (p1<v11)) (p3 m16 m17)).bind fun x18=>cond ((decide (p1<v11))&&(decide (x18<0))) ((idx l10 (IntKind.i64.wrap (v11 - 1))).bind fun m22=>(idx l10 v11).bind fun m23=>(idx l10 v11).bind fun m24=>(idx (l10.set v11.toNat m22) (IntKind.i64.wrap (v11 - 1))).bind fun m26=>some (.inl (((l10.set v11.toNat m22).set (IntKind.i64.wrap (v11 - 1)).toNat m23),(IntKind.i64.wrap (v11 - 1))))) (some (.inr l10))) FUEL (l2,v3)).bind fun l13=>some (.inl (l13,(IntKind.i64.wrap (v3+1))))) (some (.inr l2))) FUEL (p0,(IntKind.i64.wrap (p1+1)))).bind fun l5=>some l5
theorem eV {p0:(List Zc)} {p1:Int} {p2:Int} {p3:(Zc→Zc→Option Int)} {a_0:Option Addr}  {n_0:Nat}  {c_0:Nat} {r:(List Zc)} {g3:PV} (hg3:∀ {y0:Zc} {y1:Zc} {w:Int},p3 y0 y1=some w→PFV g3 [.agg [pI y0.index_,pU y0.share,pU y0.rest],.agg [pI y1.index_,pU y1.share,pU y1.rest]] (pI w)) (h:bh p0 p1 p2 p3=some r):PCall 199 [.v (.slice a_0 n_0 c_0),pI p1,pI p2,g3] [PRes.row a_0 n_0 c_0 200 3 (List.map Zc.enc p0)] (fun pv ρ'=>pv=.tup []∧ρ'=[PRes.row a_0 n_0 c_0 200 3 (List.map Zc.enc r)]):=by
 unfold bh at h
 refine jy Tryz.func199 rfl Tryz.ntmps199 Tryz.results199 rfl ?_
 refine iw (enc:=Zc.enc) (xs:=p0) (a:=a_0) fH (fun hl ha=>?_);subst hl;clear ha
 refine af (ah [10,11] [(8,pI (IntKind.i64.wrap (p1+1)))] (by kernel_rfl) (ar (aa h fun q7 hq7 h=>?_)))
 refine ky (Y:=Unit×((List Zc))) (fun (_,l5)=>[]) (fun (_,l5)=>[PRes.row a_0 p0.length c_0 200 3 (List.map Zc.enc l5)]) (fun (_,l5)=>q7=l5) ?_ ?_
 ·refine au ?_
  refine bt (Y:=Unit) (S:=(List Zc)×Int) _ hq7 (fun _ (l2,v3)=>[(0,pO a_0 p0.length c_0),(1,pI p1),(2,pI p2),(3,g3),(8,pI v3)]) (fun _ (l2,v3)=>[PRes.row a_0 p0.length c_0 200 3 (List.map Zc.enc l2)]) () (si rfl) dN ?_
  rintro _ ⟨l2,v3⟩ o τ hb6;(try dsimp only at hb6);dsimp only [aM]
  refine af (af (ah [12,13] [(14,pB (decide (v3<p2)))] (by kernel_rfl) (cY rfl hb6 (fun hc8 hb6=>?_) fun hc8 hb6=>?_)))
  ·refine ag ?_
   refine cL (au (af (ah [17] [(9,pI v3)] (by kernel_rfl) (ar (aa hb6 fun q15 hq15 hb6=>?_)))))
   refine ky (Y:=Unit×((List Zc))) (fun (_,l13)=>[(0,pO a_0 p0.length c_0),(1,pI p1),(2,pI p2),(3,g3),(8,pI v3)]) (fun (_,l13)=>[PRes.row a_0 p0.length c_0 200 3 (List.map Zc.enc l13)]) (fun (_,l13)=>q15=l13) ?_ ?_
   ·refine au ?_
    refine bt (Y:=Unit) (S:=(List Zc)×Int) _ hq15 (fun _ (l10,v11)=>[(0,pO a_0 p0.length c_0),(1,pI p1),(2,pI p2),(3,g3),(8,pI v3),(9,pI v11)]) (fun _ (l10,v11)=>[PRes.row a_0 p0.length c_0 200 3 (List.map Zc.enc l10)]) () (AC rfl) dN ?_
    rintro _ ⟨l10,v11⟩ o τ hb14;(try dsimp only at hb14);dsimp only [aM]
    refine af (af (du (ρd:=[]) [(0,0),(1,0),(2,0),(3,0),(4,0),(5,0),(6,0),(7,0),(8,0),(9,0),(10,0),(11,0),(12,0),(13,0),(14,1),(15,0),(16,0)] _ (List.Perm.refl _) (by kernel_rfl) rfl (aa hb14 fun m16 hm16 hb14=>wT 7 [18,19,20] [(21,pB (decide (p1<v11))),(22,pgv (decide (p1<v11)) (g3)),(23,pgv (decide (p1<v11)) (pO a_0 p0.length c_0)),(24,pgv (decide (p1<v11)) (pI v11))] (by kernel_rfl) (pX (gD rfl rfl rfl) rfl rfl (dU (enc:=Zc.enc) (xs:=l10) rfl rfl rfl (.g rfl) fH (.g rfl) (gF hm16)) (pX (gD rfl rfl rfl) rfl rfl (cX (sz:=3) (p:=.agg [pI m16.index_,pU m16.share,pU m16.rest]) (enc:=Zc.enc) (xs:=l10) (a:=a_0) v11 0 m16 rfl (.g rfl) rfl fH (gF hm16) rfl) (aa hb14 fun m17 hm17 hb14=>wT 3 [28] [(27,pgv (decide (p1<v11)) (pO a_0 p0.length c_0)),(29,pgv (decide (p1<v11)) (pI (IntKind.i64.wrap (v11 - 1))))] (by kernel_rfl) (pX (gD rfl rfl rfl) rfl rfl (dU (enc:=Zc.enc) (xs:=l10) rfl rfl rfl (.g rfl) fH (.g rfl) (gF hm17)) (pX (gD rfl rfl rfl) rfl rfl (cX (sz:=3) (p:=.agg [pI m17.index_,pU m17.share,pU m17.rest]) (enc:=Zc.enc) (xs:=l10) (a:=a_0) (IntKind.i64.wrap (v11 - 1)) 0 m17 rfl (.g rfl) rfl fH (gF hm17) rfl) (aa hb14 fun x18 hx18 hb14=>yc (gD rfl rfl rfl) rfl rfl rfl (.g rfl) (se (.g rfl) (se (.g rfl) Az)) (fun hc=>hg3 (gF hx18 hc)) (pX (gD rfl rfl rfl) rfl rfl (BX rfl (.g rfl) (.p rfl) rfl) (pwd_q rfl rfl rfl (r7 rfl (.p rfl) (.p rfl) (.g rfl)) (ef (cY rfl hb14 (fun hc19 hb14=>?_) fun hc19 hb14=>?_)))))))))))))
    ·refine ag ?_
     refine cL (au (iw (enc:=Zc.enc) (xs:=l10) (a:=a_0) fH (fun hl20 ha21=>aa hb14 fun m22 hm22 hb14=>aa hb14 fun m23 hm23 hb14=>aa hb14 fun m24 hm24 hb14=>aa hb14 fun m26 hm26 hb14=>?_)))
     refine ky (Y:=Unit) (fun _=>[(0,pO a_0 p0.length c_0),(1,pI p1),(2,pI p2),(3,g3),(8,pI v3),(9,pI v11)]) (fun _=>[PRes.row a_0 p0.length c_0 200 3 (List.map Zc.enc ((l10.set v11.toNat m22).set (IntKind.i64.wrap (v11 - 1)).toNat m23))]) (fun _=>True) ?_ ?_
     ·refine kh (ρd:=[PRes.row a_0 _ _ _ _ _]) _ (List.Perm.refl _) ?_
      refine bu 0 (by kernel_rfl) rfl rfl rfl rfl (cm (p:=pO a_0 p0.length c_0) rfl (.p rfl)) (bu 1 (by kernel_rfl) rfl rfl rfl rfl (cm (p:=pI v11) rfl (.p rfl)) (bu 2 (by kernel_rfl) rfl rfl rfl rfl (cm (p:=pO a_0 p0.length c_0) rfl (.p rfl)) (bu 3 (by kernel_rfl) rfl rfl rfl rfl (cm (p:=pI v11) rfl (.p rfl)) (bu 4 (by kernel_rfl) rfl rfl rfl rfl (iR rfl (.p rfl) (.p rfl) rfl) (bu 5 (by kernel_rfl) rfl rfl rfl rfl (cm (p:=pO a_0 p0.length c_0) rfl (.p rfl)) (bu 6 (by kernel_rfl) rfl rfl rfl rfl (cm (p:=pI v11) rfl (.p rfl)) (bu 7 (by kernel_rfl) rfl rfl rfl rfl (iR rfl (.p rfl) (.p rfl) rfl) ?_)))))))
      refine bu 8 (by kernel_rfl) rfl rfl rfl rfl (ki (xs:=l10) (by first | exact hl20 | rfl | (simp only [List.length_set];exact hl20) | simp only [List.length_set]) ha21 rfl rfl rfl (.p rfl) (.p rfl) (fun _=>hm22)) ?_
      refine bu 10 (by kernel_rfl) rfl rfl rfl rfl (cm (p:=pO a_0 p0.length c_0) rfl (.p rfl)) (bu 11 (by kernel_rfl) rfl rfl rfl rfl (cm (p:=pI v11) rfl (.p rfl)) ?_)
      refine bu 12 (by kernel_rfl) rfl rfl rfl rfl (ki (xs:=l10) (by first | exact hl20 | rfl | (simp only [List.length_set];exact hl20) | simp only [List.length_set]) ha21 rfl rfl rfl (.p rfl) (.p rfl) (fun _=>hm23)) ?_
      refine eM 9 13 (by kernel_rfl) ?_ ?_
      ·skip
       refine aT rfl rfl rfl rfl (eU (cX (sz:=3) (p:=.agg [pI m22.index_,pU m22.share,pU m22.rest]) (enc:=Zc.enc) (xs:=l10) (a:=a_0) (IntKind.i64.wrap (v11 - 1)) 0 m22 rfl (.p rfl) rfl fH (fun _=>hm22) rfl) (aN 13 (by kernel_rfl) (aT rfl rfl rfl rfl (eU (cX (sz:=3) (p:=.agg [pI m23.index_,pU m23.share,pU m23.rest]) (enc:=Zc.enc) (xs:=l10) (a:=a_0) v11 0 m23 rfl (.p rfl) rfl fH (fun _=>hm23) rfl) ?_))))
       refine bu 14 (by kernel_rfl) rfl rfl rfl rfl (ki (xs:=l10) (by first | exact hl20 | rfl | (simp only [List.length_set];exact hl20) | simp only [List.length_set]) ha21 rfl rfl rfl (.p rfl) (.p rfl) (fun _=>hm24)) ?_
       refine aN 15 (by kernel_rfl) (bq rfl rfl rfl (im (enc:=Zc.enc) (xs:=l10) (a:=a_0) v11 0 m24 m22 rfl rfl rfl rfl (fun _=>rfl) rfl rfl hm24 B9 cA ?_))
       refine bu 16 (by kernel_rfl) rfl rfl rfl rfl (ki (xs:=(l10.set v11.toNat m22)) (by first | exact hl20 | rfl | (simp only [List.length_set];exact hl20) | simp only [List.length_set]) ha21 rfl rfl rfl (.p rfl) (.p rfl) (fun _=>hm26)) ?_
       refine aN 17 (by kernel_rfl) (bq rfl rfl rfl (im (enc:=Zc.enc) (xs:=(l10.set v11.toNat m22)) (a:=a_0) (IntKind.i64.wrap (v11 - 1)) 0 m26 m23 rfl rfl rfl rfl (fun _=>rfl) rfl rfl hm26 B9 cA (cq (by kernel_rfl) ?_)))
       exact fw () (AC rfl) dN trivial
      skip
      refine aT rfl rfl rfl rfl (eU (cX (sz:=3) (p:=.agg [pI m23.index_,pU m23.share,pU m23.rest]) (enc:=Zc.enc) (xs:=l10) (a:=a_0) v11 0 m23 rfl (.p rfl) rfl fH (fun _=>hm23) rfl) (aN 9 (by kernel_rfl) (aT rfl rfl rfl rfl (eU (cX (sz:=3) (p:=.agg [pI m22.index_,pU m22.share,pU m22.rest]) (enc:=Zc.enc) (xs:=l10) (a:=a_0) (IntKind.i64.wrap (v11 - 1)) 0 m22 rfl (.p rfl) rfl fH (fun _=>hm22) rfl) ?_))))
      refine bu 14 (by kernel_rfl) rfl rfl rfl rfl (ki (xs:=l10) (by first | exact hl20 | rfl | (simp only [List.length_set];exact hl20) | simp only [List.length_set]) ha21 rfl rfl rfl (.p rfl) (.p rfl) (fun _=>hm24)) ?_
      refine aN 15 (by kernel_rfl) (bq rfl rfl rfl (im (enc:=Zc.enc) (xs:=l10) (a:=a_0) v11 0 m24 m22 rfl rfl rfl rfl (fun _=>rfl) rfl rfl hm24 B9 cA ?_))
      refine bu 16 (by kernel_rfl) rfl rfl rfl rfl (ki (xs:=(l10.set v11.toNat m22)) (by first | exact hl20 | rfl | (simp only [List.length_set];exact hl20) | simp only [List.length_set]) ha21 rfl rfl rfl (.p rfl) (.p rfl) (fun _=>hm26)) ?_
      refine aN 17 (by kernel_rfl) (bq rfl rfl rfl (im (enc:=Zc.enc) (xs:=(l10.set v11.toNat m22)) (a:=a_0) (IntKind.i64.wrap (v11 - 1)) 0 m26 m23 rfl rfl rfl rfl (fun _=>rfl) rfl rfl hm26 B9 cA (cq (by kernel_rfl) ?_)))
      exact fw () (AC rfl) dN trivial
     rintro _ τ ρ1 hsub28 _;(try dsimp only at hsub28);dsimp only [aM]
     refine aA (ar (oO hsub28 (ah [35,36] [(9,pI (IntKind.i64.wrap (v11 - 1)))] (by kernel_rfl) ?_)))
     exact ck hb14 () (AC rfl) dN
    refine bA ?_
    refine aW (aQ hb14 (fun ht=>aS rfl ?_))
    exact fw ((),l10) (si rfl) dN ht.symm
   rintro ⟨_,l13⟩ τ ρ1 hsub29 hz;(try dsimp only at hz hsub29);subst q15;(try dsimp only at hb6);dsimp only [aM]
   refine aA (ar (oO hsub29 (ah [15,16] [(8,pI (IntKind.i64.wrap (v3+1)))] (by kernel_rfl) ?_)))
   exact ck hb6 () (si rfl) dN
  refine bA ?_
  refine aW (aQ hb6 (fun ht=>aS rfl ?_))
  exact fw ((),l2) tq dN ht.symm
 rintro ⟨_,l5⟩ τ ρ1 hsub30 hz;(try dsimp only at hz hsub30);subst q7;(try dsimp only at h);dsimp only [aM]
 obtain rfl:=osi h
 exact rY (rfl:PRV [] _ _ (.tup [])) (PSub.trans dN hsub30) ⟨rfl,rfl⟩
def bf (p0:(List Zc)) (p1:Int) (p2:Int) (p3:Int) (p4:(Zc→Zc→Option Int)):Option (List Zc):=(aV (S:=Unit) (T:=(Unit)⊕(_)) (fun _=>cond (decide ((IntKind.i64.wrap (p2 - p1))≤12)) ((bh p0 p1 p2 p4).bind fun x4=>some (.inr (.inr x4))) (cond (p3 == 0) (none) (cond (!true) (none) (none)))) FUEL ()).bind fun q=>match q with | .inl _=>none | .inr e=>some e
theorem fR {p0:(List Zc)} {p1:Int} {p2:Int} {p3:Int} {p4:(Zc→Zc→Option Int)} {a_0:Option Addr}  {n_0:Nat}  {c_0:Nat} {r:(List Zc)} {g4:PV} (hg4:∀ {y0:Zc} {y1:Zc} {w:Int},p4 y0 y1=some w→PFV g4 [.agg [pI y0.index_,pU y0.share,pU y0.rest],.agg [pI y1.index_,pU y1.share,pU y1.rest]] (pI w)) (h:bf p0 p1 p2 p3 p4=some r):PCall 193 [.v (.slice a_0 n_0 c_0),pI p1,pI p2,pI p3,g4] [PRes.row a_0 n_0 c_0 200 3 (List.map Zc.enc p0)] (fun pv ρ'=>pv=.tup []∧ρ'=[PRes.row a_0 n_0 c_0 200 3 (List.map Zc.enc r)]):=by
 unfold bf at h
 refine jy Tryz.func193 rfl Tryz.ntmps193 Tryz.results193 rfl ?_
 refine iw (enc:=Zc.enc) (xs:=p0) (a:=a_0) fH (fun hl ha=>?_);subst hl;clear ha
 refine af (ai [(10,pB true)] (by kernel_rfl) (cL (ai [(11,pB true)] (by kernel_rfl) (ar (aa h fun q2 hq2 h=>au ?_)))))
 refine bt (Y:=Unit) (S:=Unit) _ hq2 (fun _ _=>[(0,pO a_0 p0.length c_0),(1,pI p1),(2,pI p2),(3,pI p3),(4,g4),(10,pB true),(11,pB true)]) (fun _ _=>[PRes.row a_0 p0.length c_0 200 3 (List.map Zc.enc p0)]) () (Bj rfl) dN ?_
 rintro _ _ o τ hb1;(try dsimp only at hb1);dsimp only [aM]
 refine au (af (ah [21,22,23] [(12,pI (IntKind.i64.wrap (p2 - p1)))] (by kernel_rfl) (dQ (ah [24] [(25,pB (decide ((IntKind.i64.wrap (p2 - p1))≤12)))] (by kernel_rfl) (cY rfl hb1 (fun hc3 hb1=>?_) fun hc3 hb1=>?_)))))
 ·refine af ?_
  refine aa hb1 fun x4 hx4 hb1=>ae (aq 4 [(26,pO a_0 p0.length c_0),(27,pI p1),(28,pI p2),(29,g4)] (by kernel_rfl) ?_)
  refine ak rfl (aL rfl rfl (ρ1:=[_]) (aB (by exact bd) (List.Perm.refl _)) (eV hg4 hx4) ?_);rintro _ _ ⟨rfl,rfl⟩
  refine ap (ip (av ?_))
  refine bU hb1 (fun ht=>?_);subst ht
  refine av ?_
  obtain rfl:=osi h
  exact aG (rfl:PRV [] _ _ (.tup [])) dN ⟨rfl,rfl⟩
 refine ag ?_
 refine dQ (ah [31] [(32,pB (p3 == 0))] (by kernel_rfl) (cY rfl hb1 (fun hc5 hb1=>?_) fun hc5 hb1=>?_))
 ·refine af ?_
  refine ae (aq 4 [(33,pO a_0 p0.length c_0),(34,pI p1),(35,pI p2),(36,g4)] (by kernel_rfl) ?_)
  exact absurd hb1 (by simp)
 refine ag ?_
 refine dQ (ah [38] [(39,pB (!true))] (by kernel_rfl) (cY rfl hb1 (fun hc6 hb1=>?_) fun hc6 hb1=>?_))
 ·refine af ?_
  refine ae (aq 4 [(40,pO a_0 p0.length c_0),(41,pI p1),(42,pI p2),(43,g4)] (by kernel_rfl) ?_)
  exact absurd hb1 (by simp)
 refine ag ?_
 refine cL (ae (aq 4 [(48,pO a_0 p0.length c_0),(49,pI p1),(50,pI p2),(51,g4)] (by kernel_rfl) ?_))
 exact absurd hb1 (by simp)
def bk (p0:(List Zc)) (p1:(Zc→Zc→Option Int)):Option (List Zc):=(jz (IntKind.u64.wrap ((p0.length:Nat):Int))).bind fun x1=>(bf p0 0 ((p0.length:Nat):Int) x1 p1).bind fun x2=>some x2
theorem dZ {p0:(List Zc)} {p1:(Zc→Zc→Option Int)} {a_0:Option Addr}  {n_0:Nat}  {c_0:Nat} {r:(List Zc)} {g1:PV} (hg1:∀ {y0:Zc} {y1:Zc} {w:Int},p1 y0 y1=some w→PFV g1 [.agg [pI y0.index_,pU y0.share,pU y0.rest],.agg [pI y1.index_,pU y1.share,pU y1.rest]] (pI w)) (h:bk p0 p1=some r):PCall 178 [.v (.slice a_0 n_0 c_0),g1] [PRes.row a_0 n_0 c_0 200 3 (List.map Zc.enc p0)] (fun pv ρ'=>pv=.tup []∧ρ'=[PRes.row a_0 n_0 c_0 200 3 (List.map Zc.enc r)]):=by
 unfold bk at h
 refine jy Tryz.func178 rfl Tryz.ntmps178 Tryz.results178 rfl ?_
 refine iw (enc:=Zc.enc) (xs:=p0) (a:=a_0) fH (fun hl ha=>?_);subst hl;clear ha
 refine af (ah [5,6] [(4,pI ((p0.length:Nat):Int))] (by kernel_rfl) (ar (aa h fun x1 hx1 h=>aa h fun x2 hx2 h=>ae (bC 6 [] [9,10] [(7,pO a_0 p0.length c_0),(8,pI ((p0.length:Nat):Int)),(11,pI x1),(12,g1)] (bK 4 (qb hx1) bZ) (by kernel_rfl) ?_))))
 refine ak rfl (aL rfl rfl (ρ1:=[_]) (aB (by exact bd) (List.Perm.refl _)) (fR hg1 hx2) ?_);rintro _ _ ⟨rfl,rfl⟩
 refine ap ?_
 obtain rfl:=osi h
 exact rY (rfl:PRV [] _ _ (.tup [])) dN ⟨rfl,rfl⟩
def bD (p0:Zc) (p1:Zc) (p2:Zn):Option Int:=(gS p0 p1).bind fun x3=>some x3
theorem j6 {p0:Zc} {p1:Zc} {p2:Zn} {r:Int}  (h:bD p0 p1 p2=some r):PF 179 [.agg [pI p0.index_,pU p0.share,pU p0.rest],.agg [pI p1.index_,pU p1.share,pU p1.rest],.ref [.fn 147 []] 0] (pI r):=by
 unfold bD at h
 refine bm ?_
 refine fy Tryz.func179 rfl Tryz.ntmps179 Tryz.results179 rfl (ae (ak rfl (bV (cs:=[pI p0.index_,pU p0.share,pU p0.rest]) rfl rfl (fun b1=>ak rfl (bV (cs:=[pI p1.index_,pU p1.share,pU p1.rest]) rfl rfl (fun b2=>bY [5] (by kernel_rfl) (fk h fun x3 hx3 h=>aw [1,0] (rg 6 5) [(5,pI x3)] (AG 4 (mg (pargs:=[.agg [pI p0.index_,pU p0.share,pU p0.rest],.agg [pI p1.index_,pU p1.share,pU p1.rest]]) (caps:=[]) (nL hx3)) bZ) (by kernel_rfl) (ej ?_))))))))
 exact zz r h rfl
def dC (p0:Zn) (p1:(List Zc)):Option (List Zc):=(bk p1 (fun y2 y3=>bD y2 y3 (⟨()⟩:Zn))).bind fun x4=>some x4
theorem kQ {p0:Zn} {p1:(List Zc)} {a_1:Option Addr}  {n_1:Nat}  {c_1:Nat} {r:(List Zc)}  (h:dC p0 p1=some r):PCall 148 [.agg [.fn 147 []],.v (.slice a_1 n_1 c_1)] [PRes.row a_1 n_1 c_1 200 3 (List.map Zc.enc p1)] (fun pv ρ'=>pv=.tup []∧ρ'=[PRes.row a_1 n_1 c_1 200 3 (List.map Zc.enc r)]):=by
 unfold dC at h
 refine jy Tryz.func148 rfl Tryz.ntmps148 Tryz.results148 rfl ?_
 refine iw (enc:=Zc.enc) (xs:=p1) (a:=a_1) fH (fun hl ha=>?_);subst hl;clear ha
 refine af (ae (ak rfl (bV (cs:=[.fn 147 []]) rfl rfl (fun b1=>ap (ar (ae (aq 1 [(4,pO a_1 p1.length c_1)] (by kernel_rfl) ?_)))))))
 refine mi 2 rfl (by exact bd) ?_
 refine aa h fun x4 hx4 h=>aq 1 [(5,.fn 179 [.ref [.fn 147 []] 0])] (by kernel_rfl) ?_
 refine ak rfl (aL rfl rfl (ρ1:=[_]) (aB (by exact ba bd) (List.Perm.refl _)) (dZ (fun hr=>mg (j6 hr)) hx4) ?_);rintro _ _ ⟨rfl,rfl⟩
 refine ap ?_
 obtain rfl:=osi h
 exact rY (rfl:PRV [] _ _ (.tup [])) dN ⟨rfl,rfl⟩
def e8 (p0:Int) (p1:(List Int)):Option ((List Int)×Int):=(gi p0 p1).bind fun x1=>cond (x1 != 0) (some ([],x1)) ((gj p1).bind fun x3=>Option.bind (cond (x3 == 0) (some (p1.length:Int)) (some x3)) (fun v4=>(mk 24 (⟨(0:Int),(0:Int),(0:Int)⟩:Zc) (p1.length:Int)).bind fun l7=>(aV (S:=Int×(List Zc)×Int) (T:=(Int×(List Zc))) (fun (v10,l12,v13)=>cond (decide (v13<(p1.length:Int))) ((idx p1 v13).bind fun m20=>Option.bind (cond (x3 == 0) (some 1) (some m20)) (fun v22=>(iY (IntKind.u64.wrap p0) (IntKind.u64.wrap v22) (IntKind.u64.wrap v4) 0).bind fun x25=>(iZ (IntKind.u64.wrap p0) (IntKind.u64.wrap v22) (IntKind.u64.wrap v4)).bind fun x26=>(idx l12 v13).bind fun m27=>lb ((IntKind.i64.wrap (v10 - (IntKind.i64.wrap x25.1)))) (fun w29=>some (.inl (w29,(l12.set v13.toNat (⟨v13,x25.1,x26⟩:Zc)),(IntKind.i64.wrap (v13+1))))))) (some (.inr (v10,l12)))) FUEL (p0,l7,0)).bind fun (v14,l16)=>(dC (⟨()⟩:Zn) l16).bind fun x30=>(mk 8 (0:Int) (p1.length:Int)).bind fun l31=>(aV (S:=(List Int)×Int) (T:=((List Int))) (fun (l35,v36)=>cond (decide (v36<((l7.length:Nat):Int))) (((idx x30 v36).bind fun m46=>(idx l35 m46.index_).bind fun m48=>cond (decide (v36<v14)) ((idx (l35.set m46.index_.toNat (IntKind.i64.wrap m46.share)) m46.index_).bind fun m51=>(idx (l35.set m46.index_.toNat (IntKind.i64.wrap m46.share)) m46.index_).bind fun m52=>some ((l35.set m46.index_.toNat (IntKind.i64.wrap m46.share)).set m46.index_.toNat (IntKind.i64.wrap (m51+1)))) (some (l35.set m46.index_.toNat (IntKind.i64.wrap m46.share)))).bind fun l43=>some (.inl (l43,(IntKind.i64.wrap (v36+1))))) (some (.inr l35))) FUEL (l31,0)).bind fun l38=>some (l38,(0:Int))))
theorem oq {p0:Int} {p1:(List Int)} {r:((List Int)×Int)}  (h:e8 p0 p1=some r):PF 120 [pI p0,pL eI p1] (.tup [pL eI r.1,pI r.2]):=by
 unfold e8 at h
 refine bm ?_
 refine fy Tryz.func120 rfl Tryz.ntmps120 Tryz.results120 rfl (aU [4,5] (by kernel_rfl) (dQ (aa h fun x1 hx1 h=>aw [] [19,20,21] [(6,pI x1)] (bK 2 (oh hx1) bZ) (by kernel_rfl) (cL (ah [22] [(23,pB (x1 != 0))] (by kernel_rfl) (cY rfl h (fun hc2 h=>?_) fun hc2 h=>?_))))))
 ·refine af ?_
  refine ah [24] [(4,pN),(5,pI x1)] (by kernel_rfl) (ar (zg 4 rfl (cC (aK ?_))))
  obtain rfl:=osi h
  exact aG (cK (aI rfl) (aI rfl)) cM ⟨rfl,rfl⟩
 refine ag ?_
 refine fk h fun x3 hx3 h=>aw [] [25,26] [(7,pI x3)] (bK 1 (oj hx3) bZ) (by kernel_rfl) (cL (ah [27,28] [(8,pB (x3 == 0))] (by kernel_rfl) (dQ (ai [(29,pB (x3 == 0))] (by kernel_rfl) (ar (aa h fun q5 hq5 h=>?_))))))
 refine aJ (Y:=Unit×Int) (fun (_,v4)=>[(0,pI p0),(1,pL eI p1),(7,pI v4),(8,pB (x3 == 0))]) (fun (_,v4)=>[]) (fun (_,v4)=>q5=v4) ?_ ?_
 ·skip
  refine lE rfl hq5 (fun hc6 hq5=>?_) fun hc6 hq5=>?_
  ·refine ah [30,31] [(7,pI (p1.length:Int))] (by kernel_rfl) ?_
   obtain rfl:=osi hq5
   exact az ((),(p1.length:Int)) (mN rfl) cM rfl
  refine ag ?_
  obtain rfl:=osi hq5
  exact az ((),x3) (mN rfl) cM rfl
 rintro ⟨_,v4⟩ τ hz;(try dsimp only at hz);subst q5;(try dsimp only at h);dsimp only [aM]
 refine af (ah [32] [(9,pI p0)] (by kernel_rfl) (fk h fun l7 hl7 h=>ae (bQ 2 [33] [(34,pI (p1.length:Int))] (by kernel_rfl) (ak rfl (zi (enc:=Zc.enc) rfl rfl rfl rfl rfl rfl rfl rfl rfl hl7 (fun b8=>aD [(10,pO (some ⟨b8,0,none⟩) l7.length l7.length)] (by kernel_rfl) (dQ (ai [(36,pL eI p1),(37,pI (p1.length:Int)),(38,pI 0)] (by kernel_rfl) (ar (aa h fun q18 hq18 h=>?_))))))))))
 refine aJ (Y:=Unit×(Int×(List Zc))) (fun (_,(v14,l16))=>[(1,pL eI p1),(9,pI v14),(10,pO (some ⟨b8,0,none⟩) l7.length l7.length)]) (fun (_,(v14,l16))=>[PRes.row (some ⟨b8,0,none⟩) l7.length l7.length 200 3 (List.map Zc.enc l16)]) (fun (_,(v14,l16))=>q18=(v14,l16)) ?_ ?_
 ·refine au ?_
  refine bt (Y:=Unit) (S:=Int×(List Zc)×Int) _ hq18 (fun _ (v10,l12,v13)=>[(0,pI p0),(1,pL eI p1),(7,pI v4),(8,pB (x3 == 0)),(9,pI v10),(10,pO (some ⟨b8,0,none⟩) l7.length l7.length),(36,pL eI p1),(37,pI (p1.length:Int)),(38,pI v13)]) (fun _ (v10,l12,v13)=>[PRes.row (some ⟨b8,0,none⟩) l7.length l7.length 200 3 (List.map Zc.enc l12)]) () (wG rfl) dN ?_
  rintro _ ⟨v10,l12,v13⟩ o τ hb17;(try dsimp only at hb17);dsimp only [aM]
  refine af (ai [(39,pB (decide (v13<(p1.length:Int))))] (by kernel_rfl) (cL (lE rfl hb17 (fun hc19 hb17=>?_) fun hc19 hb17=>?_)))
  ·refine ag ?_
   refine cL (au (af (aa hb17 fun m20 hm20 hb17=>aw [] [40,41,42] [(11,pI v13),(12,pI m20)] (jX 1 eI hm20 bZ) (by kernel_rfl) (dQ (ai [(43,pB (x3 == 0))] (by kernel_rfl) (ar (aa hb17 fun q23 hq23 hb17=>?_)))))))
   refine aJ (Y:=Unit×Int) (fun (_,v22)=>[(0,pI p0),(1,pL eI p1),(7,pI v4),(8,pB (x3 == 0)),(9,pI v10),(10,pO (some ⟨b8,0,none⟩) l7.length l7.length),(11,pI v13),(12,pI v22),(36,pL eI p1),(37,pI (p1.length:Int)),(38,pI v13)]) (fun (_,v22)=>[PRes.row (some ⟨b8,0,none⟩) l7.length l7.length 200 3 (List.map Zc.enc l12)]) (fun (_,v22)=>q23=v22) ?_ ?_
   ·skip
    refine lE rfl hq23 (fun hc24 hq23=>?_) fun hc24 hq23=>?_
    ·refine ai [(12,pI 1)] (by kernel_rfl) ?_
     obtain rfl:=osi hq23
     exact az ((),1) (fY rfl (fY rfl (wG rfl))) dN rfl
    refine ag ?_
    obtain rfl:=osi hq23
    exact az ((),m20) (fY rfl (fY rfl (wG rfl))) dN rfl
   rintro ⟨_,v22⟩ τ hz;(try dsimp only at hz);subst q23;(try dsimp only at hb17);dsimp only [aM]
   refine af (aa hb17 fun x25 hx25 hb17=>aw [] ((rg 45 7)++[44,52,53,14]) [(13,pU x25.1)] (bK 6 (qY hx25) bZ) (by kernel_rfl) (fk hb17 fun x26 hx26 hb17=>aw [] (rg 54 7) [(15,pU x26)] (bK 6 (qZ hx26) bZ) (by kernel_rfl) (fk hb17 fun m27 hm27 hb17=>ae (bQ 6 [63,64,65] [(61,pO (some ⟨b8,0,none⟩) l7.length l7.length),(62,pI v13),(66,.agg [pI v13,pU x25.1,pU x26])] (by kernel_rfl) (cd rfl rfl rfl (dU (enc:=Zc.enc) (xs:=l12) rfl rfl rfl (.p rfl) fH (.p rfl) (fun _=>hm27)) (aH rfl rfl (im (enc:=Zc.enc) (xs:=l12) (a:=(some ⟨b8,0,none⟩)) v13 0 m27 (⟨v13,x25.1,x26⟩:Zc) rfl rfl rfl rfl (fun _=>rfl) rfl rfl hm27 B9 cA (ap (ar ?_)))))))))
   refine dV hb17 ?_;clear hb17;intro w29 hw29 hb17
   refine ae (bQ 4 [68,69,70] [(71,pI (IntKind.i64.wrap (v10 - (IntKind.i64.wrap x25.1))))] (by kernel_rfl) (cd rfl rfl rfl (bc rfl (.p (congrArg (fun z=>PV.v (Value.int .i64 z)) hw29))) (ap (aA (ar (ah [72] [(38,pI (IntKind.i64.wrap (v13+1)))] (by kernel_rfl) ?_))))))
   exact ck hb17 () (wG rfl) dN
  refine bA ?_
  refine aW (aQ hb17 (fun ht=>aS rfl ?_))
  exact az ((),(v10,l12)) (mD rfl) dN ht.symm
 rintro ⟨_,⟨v14,l16⟩⟩ τ hz;(try dsimp only at hz);subst q18;(try dsimp only at h);dsimp only [aM]
 refine af (aa h fun x30 hx30 h=>ae (aq 2 [(73,.agg [.fn 147 []]),(74,pO (some ⟨b8,0,none⟩) l7.length l7.length)] (by kernel_rfl) ?_))
 refine ak rfl (aL rfl rfl (ρ1:=[_]) (aB (by exact bd) (List.Perm.refl _)) (kQ hx30) ?_);rintro _ _ ⟨rfl,rfl⟩
 refine ap (fk h fun l31 hl31 h=>ae (bQ 2 [76] [(77,pI (p1.length:Int))] (by kernel_rfl) (ak rfl (zi (enc:=eI) rfl rfl rfl rfl rfl rfl rfl rfl rfl hl31 (fun b32=>aD [(16,pO (some ⟨b32,0,none⟩) l31.length l31.length)] (by kernel_rfl) (dQ (ai [(79,pO (some ⟨b8,0,none⟩) l7.length l7.length),(80,pI ((l7.length:Nat):Int)),(81,pI 0)] (by kernel_rfl) (ar (aa h fun q40 hq40 h=>?_)))))))))
 refine aJ (Y:=Unit×((List Int))) (fun (_,l38)=>[(16,pO (some ⟨b32,0,none⟩) l31.length l31.length)]) (fun (_,l38)=>[PRes.row (some ⟨b32,0,none⟩) l31.length l31.length 3 1 (List.map eI l38)]) (fun (_,l38)=>q40=l38) ?_ ?_
 ·refine au ?_
  refine bt (Y:=Unit) (S:=(List Int)×Int) _ hq40 (fun _ (l35,v36)=>[(9,pI v14),(16,pO (some ⟨b32,0,none⟩) l31.length l31.length),(79,pO (some ⟨b8,0,none⟩) l7.length l7.length),(80,pI ((l7.length:Nat):Int)),(81,pI v36)]) (fun _ (l35,v36)=>[PRes.row (some ⟨b8,0,none⟩) l7.length l7.length 200 3 (List.map Zc.enc x30),PRes.row (some ⟨b32,0,none⟩) l31.length l31.length 3 1 (List.map eI l35)]) () (si rfl) (cR (ba bd) dN) ?_
  rintro _ ⟨l35,v36⟩ o τ hb39;(try dsimp only at hb39);dsimp only [aM]
  refine af (ai [(82,pB (decide (v36<((l7.length:Nat):Int))))] (by kernel_rfl) (cL (lE rfl hb39 (fun hc41 hb39=>?_) fun hc41 hb39=>?_)))
  ·refine ag ?_
   refine fk hb39 fun q45 hq45 hb39=>?_
   refine aJ (Y:=Unit×((List Int))) (fun (_,l43)=>[(9,pI v14),(16,pO (some ⟨b32,0,none⟩) l31.length l31.length),(79,pO (some ⟨b8,0,none⟩) l7.length l7.length),(80,pI ((l7.length:Nat):Int)),(81,pI v36)]) (fun (_,l43)=>[PRes.row (some ⟨b32,0,none⟩) l31.length l31.length 3 1 (List.map eI l43),PRes.row (some ⟨b8,0,none⟩) l7.length l7.length 200 3 (List.map Zc.enc x30)]) (fun (_,l43)=>q45=l43) ?_ ?_
   ·skip
    refine au (af (aa hq45 fun m46 hm46 hq45=>ae (aq 1 [(83,pI v36)] (by kernel_rfl) (cd rfl rfl rfl (dU (enc:=Zc.enc) (xs:=x30) rfl rfl rfl (.p rfl) fH (.p rfl) (fun _=>hm46)) (cd rfl rfl rfl (cX (sz:=3) (p:=.agg [pI m46.index_,pU m46.share,pU m46.rest]) (enc:=Zc.enc) (xs:=x30) (a:=(some ⟨b8,0,none⟩)) v36 0 m46 rfl (.p rfl) rfl fH (fun _=>hm46) rfl) (ak rfl (aX (cs:=[pI 0,pU 0,pU 0]) rfl rfl rfl rfl (fun b47=>aq 1 [(17,pI v36)] (by kernel_rfl) (aH rfl rfl (aj (vs:=[pI m46.index_,pU m46.share,pU m46.rest]) rfl rfl rfl rfl rfl cA B9 (ap (fk hq45 fun m48 hm48 hq45=>ae (cH 6 [0,0] [87,89,90] [(86,pO (some ⟨b32,0,none⟩) l31.length l31.length),(88,pI m46.index_),(91,pI (IntKind.i64.wrap m46.share))] (by kernel_rfl) (cd rfl rfl rfl (dU (enc:=eI) (xs:=l35) rfl rfl rfl (.p rfl) Dz (.p rfl) (fun _=>hm48)) (aH rfl rfl (im (enc:=eI) (xs:=l35) (a:=(some ⟨b32,0,none⟩)) m46.index_ 0 m48 (IntKind.i64.wrap m46.share) rfl rfl rfl rfl (fun _=>rfl) rfl rfl hm48 ed (cG (cG cA)) (ap (cL (ah [93,94] [(95,pB (decide (v36<v14)))] (by kernel_rfl) (cY rfl hq45 (fun hc50 hq45=>?_) fun hc50 hq45=>?_))))))))))))))))))))
    ·refine aa hq45 ?_;clear hq45;intro m51 hm51 hq45
     refine ae (cH 3 [0] [97] [(96,pO (some ⟨b32,0,none⟩) l31.length l31.length),(98,pI m46.index_)] (by kernel_rfl) (cd rfl rfl rfl (dU (enc:=eI) (xs:=(l35.set m46.index_.toNat (IntKind.i64.wrap m46.share))) rfl rfl rfl (.p rfl) Dz (.p rfl) (fun _=>hm51)) (cd rfl rfl rfl (cX (sz:=1) (p:=pI m51) (enc:=eI) (xs:=(l35.set m46.index_.toNat (IntKind.i64.wrap m46.share))) (a:=(some ⟨b32,0,none⟩)) m46.index_ 0 m51 rfl (.p rfl) rfl Dz (fun _=>hm51) rfl) (aa hq45 fun m52 hm52 hq45=>aq 1 [(101,pI (IntKind.i64.wrap (m51+1)))] (by kernel_rfl) (cd rfl rfl rfl (dU (enc:=eI) (xs:=(l35.set m46.index_.toNat (IntKind.i64.wrap m46.share))) rfl rfl rfl (.p rfl) Dz (.p rfl) (fun _=>hm52)) (aH rfl rfl (im (enc:=eI) (xs:=(l35.set m46.index_.toNat (IntKind.i64.wrap m46.share))) (a:=(some ⟨b32,0,none⟩)) m46.index_ 0 m52 (IntKind.i64.wrap (m51+1)) rfl rfl rfl rfl (fun _=>rfl) rfl rfl hm52 ed (cG (cG cA)) (ap (aA ?_)))))))))
     obtain rfl:=osi hq45
     exact az ((),((l35.set m46.index_.toNat (IntKind.i64.wrap m46.share)).set m46.index_.toNat (IntKind.i64.wrap (m51+1)))) (si rfl) (cR (ba (ba bd)) (cR (ba bd) cM)) rfl
    refine ag ?_
    refine aA ?_
    obtain rfl:=osi hq45
    exact az ((),(l35.set m46.index_.toNat (IntKind.i64.wrap m46.share))) (si rfl) (cR (ba (ba bd)) (cR (ba bd) cM)) rfl
   rintro ⟨_,l43⟩ τ hz;(try dsimp only at hz);subst q45;(try dsimp only at hb39);dsimp only [aM]
   refine ah [103] [(81,pI (IntKind.i64.wrap (v36+1)))] (by kernel_rfl) ?_
   exact ck hb39 () (si rfl) (cR (ba bd) dN)
  refine bA ?_
  refine aW (aQ hb39 (fun ht=>aS rfl ?_))
  exact az ((),l35) (wF rfl) (cR (ba bd) cM) ht.symm
 rintro ⟨_,l38⟩ τ hz;(try dsimp only at hz);subst q40;(try dsimp only at h);dsimp only [aM]
 refine af (ah [104] [(4,pO (some ⟨b32,0,none⟩) l31.length l31.length),(5,pI 0)] (by kernel_rfl) (ar ?_))
 refine iQ (enc:=eI) (xs:=l38) 4 rfl (by exact bd) ?_
 refine cC ?_
 obtain rfl:=osi h
 exact aG (cK (aI rfl) (aI rfl)) cM ⟨rfl,rfl⟩
def dj (p0:(List Int)):Option (List Int):=app 8 ([]:List Int) p0
theorem lP {p0:(List Int)} {r:(List Int)} (h:dj p0=some r):PCall 121 [pL eI p0] [] (fun pv ρ'=>∃ a c,pv=.v (.slice a r.length c)∧ρ'=[PRes.row a r.length c 3 1 (List.map eI r)]):=by
 unfold dj at h
 refine jy Tryz.func121 rfl Tryz.ntmps121 Tryz.results121 rfl ?_
 (repeat refine af ?_)
 refine ae (cd rfl rfl rfl (bc (p:=.v (.slice none 0 0)) rfl (.p rfl)) (ap (ar ?_)))
 (repeat refine af ?_)
 refine ae (cd rfl rfl rfl (cm (p:=pL eI p0) rfl (.p rfl)) (p6 rfl rfl rfl rfl rfl rfl (fun b hb=>ap (ar ?_))))
 refine oN rfl (fun hc=>?_) (fun hc=>?_)
 ·have e0:p0=[]:=List.map_eq_nil_iff.1 (hb hc)
  subst e0;obtain ⟨rfl,_⟩:=lC h
  (repeat refine af ?_)
  refine ae (cd rfl rfl rfl (bc (p:=.v (.slice none 0 0)) rfl (.p rfl)) (ap (ar (fO 3 1 (cC (aK ?_))))))
  exact aG (fL (aI rfl)) dN ⟨_,_,rfl,rfl⟩
 refine ag ?_
 refine ar ?_
 (repeat refine af ?_)
 refine ae (ak rfl (bT rfl rfl rfl rfl rfl kg rfl rfl rfl rfl (fun b1=>cd rfl rfl rfl (cm (p:=pL eI p0) rfl (.p rfl)) ?_)))
 refine ak rfl (sb (enc:=eI) (xs:=([]:List Int)) rfl rfl rfl rfl rfl (fun _=>rfl) rfl rfl rfl (by exact bd) h (fun a c=>?_))
 refine cd rfl rfl rfl (bc (p:=.v (.slice a r.length c)) rfl (.p rfl)) (ap (ej ?_))
 exact aG (fL (aI rfl)) dN ⟨_,_,rfl,rfl⟩
def gK (p0:Zj):Option ((List Zf)×Int):=Option.bind (α:=((List Int))⊕_) (cond (decide (0<p0.Quantity)) ((e8 p0.Value [p0.Granted,(IntKind.i64.wrap (p0.Quantity - p0.Granted))]).bind fun x9=>cond (x9.2 != 0) (some (.inr ([],x9.2))) (some (.inl x9.1))) (some (.inl [0,p0.Value]))) (fun q=>match q with | .inl l4=>Option.bind (cond p0.Proof ((app 8 [1,2] [3]).bind fun l21=>some l21) (some [1,2])) (fun l16=>Option.bind (cond (decide (0<p0.Granted)) ((idx l4 0).bind fun m32=>(dj l16).bind fun x33=>(app 8 x33 [4]).bind fun l39=>(app 40 ([]:List Zf) [(⟨p0.Granted,m32,l39⟩:Zf)]).bind fun l44=>some l44) (some ([]:(List Zf)))) (fun l28=>Option.bind (cond ((decide (0<(IntKind.i64.wrap (p0.Quantity - p0.Granted))))||(p0.Quantity == 0)) ((idx l4 1).bind fun m54=>(app 40 l28 [(⟨(IntKind.i64.wrap (p0.Quantity - p0.Granted)),m54,l16⟩:Zf)]).bind fun l57=>some l57) (some l28)) (fun l51=>(app 40 l51 [(⟨p0.Quantity,p0.Value,[5]⟩:Zf),(⟨p0.Quantity,p0.Value,[6]⟩:Zf)]).bind fun l67=>some (l67,(0:Int))))) | .inr e=>some e)
theorem o7 {p0:Zj} {r:((List Zf)×Int)}  (h:gK p0=some r):PF 80 [.agg (dw p0)] (.tup [pL Zf.enc r.1,pI r.2]):=by
 unfold gK at h
 refine bm ?_
 refine fy Tryz.func80 rfl Tryz.ntmps80 Tryz.results80 rfl (ae (ak rfl (bV (cs:=(dw p0)) rfl rfl (fun b1=>bY [2,3] (by kernel_rfl) (cL (aY [0,0] (rg 9 5) [(4,pI (IntKind.i64.wrap (p0.Quantity - p0.Granted)))] (by kernel_rfl) (cL (ae (cH 2 [0] [14] [(15,pI p0.Value)] (by kernel_rfl) (ak rfl (bT rfl rfl rfl rfl rfl (ez rfl (ez rfl kg)) rfl rfl rfl rfl (fun b2=>aD [(5,pO (some ⟨b2,0,none⟩) 2 2)] (by kernel_rfl) (dQ (aY [1] [17,18] [(19,pB (decide (0<p0.Quantity)))] (by kernel_rfl) (ar (aa h fun q5 hq5 h=>?_))))))))))))))))
 refine aJ (Y:=Unit×((List Int))) (fun (_,l4)=>[(1,pP b1 0),(4,pI (IntKind.i64.wrap (p0.Quantity - p0.Granted))),(5,pL eI l4)]) (fun (_,l4)=>[PRes.b b1 32 (dw p0)]) (fun (_,l4)=>q5=Sum.inl l4) ?_ ?_
 ·skip
  refine lE rfl hq5 (fun hc6 hq5=>?_) fun hc6 hq5=>?_
  ·refine af ?_
   refine aU [6] (by kernel_rfl) (cL (ae (cH 5 [1,1] [21,23] [(22,pI p0.Value),(24,pI p0.Granted),(25,pI (IntKind.i64.wrap (p0.Quantity - p0.Granted)))] (by kernel_rfl) (ak rfl (bT rfl rfl rfl rfl rfl (ez rfl (ez rfl kg)) rfl rfl rfl rfl (fun b7=>?_))))))
   refine jE (enc:=eI) (xs:=[p0.Granted,(IntKind.i64.wrap (p0.Quantity - p0.Granted))]) 26 rfl (by exact bd) ?_
   refine aa hq5 fun x9 hx9 hq5=>jY [] [27,20,28,29] [(5,pL eI x9.1),(6,pI x9.2)] (bK 0 (oq hx9) bZ) (by kernel_rfl) (cL (ah [30] [(31,pB (x9.2 != 0))] (by kernel_rfl) (cY rfl hq5 (fun hc10 hq5=>?_) fun hc10 hq5=>?_)))
   ·refine af ?_
    refine ah [32] [(2,pN),(3,pI x9.2)] (by kernel_rfl) (ar (zg 2 rfl (cC (bz ?_))))
    obtain rfl:=osi hq5
    obtain rfl:=osi h
    exact aG (cK (aI rfl) (aI rfl)) cM ⟨rfl,rfl⟩
   refine ag ?_
   obtain rfl:=osi hq5
   exact az ((),x9.1) (mD rfl) (cR (ba (ba bd)) cM) rfl
  refine ag ?_
  refine mh (wC (enc:=eI) (xs:=[0,p0.Value]) 5 rfl (by exact bd)) ?_
  obtain rfl:=osi hq5
  exact az ((),[0,p0.Value]) (mD rfl) (cR (ba bd) cM) rfl
 rintro ⟨_,l4⟩ τ hz;(try dsimp only at hz);subst q5;(try dsimp only at h);dsimp only [aM]
 refine af (ae (ak rfl (bT rfl rfl rfl rfl rfl (ez rfl (ez rfl kg)) rfl rfl rfl rfl (fun b11=>aD [(7,pO (some ⟨b11,0,none⟩) 2 2)] (by kernel_rfl) (dQ (aY [1] [34] [(35,pB p0.Proof)] (by kernel_rfl) (ar (aa h fun q17 hq17 h=>?_))))))))
 refine aJ (Y:=(Option Addr×Nat)×((List Int))) (fun ((a14,c15),l16)=>[(1,pP b1 0),(4,pI (IntKind.i64.wrap (p0.Quantity - p0.Granted))),(5,pL eI l4),(7,pO a14 l16.length c15)]) (fun ((a14,c15),l16)=>[PRes.b b1 32 (dw p0),PRes.row a14 l16.length c15 3 1 (List.map eI l16)]) (fun ((a14,c15),l16)=>q17=l16) ?_ ?_
 ·skip
  refine lE rfl hq17 (fun hc18 hq17=>?_) fun hc18 hq17=>?_
  ·refine ae ?_
   refine aq 1 [(36,pO (some ⟨b11,0,none⟩) 2 2)] (by kernel_rfl) (ak rfl (bT rfl rfl rfl rfl rfl (ez rfl kg) rfl rfl rfl rfl (fun b19=>aa hq17 fun l21 hl21 hq17=>?_)))
   refine ak rfl (fb (enc:=eI) rfl rfl rfl rfl rfl rfl rfl rfl rfl fH (by exact ba bd) hl21 (fun a22 c23=>?_))
   refine aD [(7,pO a22 l21.length c23)] (by kernel_rfl) ?_
   obtain rfl:=osi hq17
   exact az ((a22,c23),l21) (mN rfl) (cR (ba (ba bd)) dN) rfl
  refine ag ?_
  obtain rfl:=osi hq17
  exact az (((some ⟨b11,0,none⟩),2),[1,2]) (mN rfl) (cR (ba bd) dN) rfl
 rintro ⟨⟨a14,c15⟩,l16⟩ τ hz;(try dsimp only at hz);subst q17;(try dsimp only at h);dsimp only [aM]
 refine af (ai [(8,pN)] (by kernel_rfl) (dQ (aY [0] [39,40] [(41,pB (decide (0<p0.Granted)))] (by kernel_rfl) (ar (aa h fun q29 hq29 h=>?_)))))
 refine aJ (Y:=(Option Addr×Nat)×((List Zf))) (fun ((a26,c27),l28)=>[(1,pP b1 0),(4,pI (IntKind.i64.wrap (p0.Quantity - p0.Granted))),(5,pL eI l4),(7,pL eI l16),(8,pO a26 l28.length c27)]) (fun ((a26,c27),l28)=>[PRes.b b1 32 (dw p0),PRes.row a26 l28.length c27 141 3 (List.map Zf.enc l28)]) (fun ((a26,c27),l28)=>q29=l28) ?_ ?_
 ·skip
  refine lE rfl hq29 (fun hc30 hq29=>?_) fun hc30 hq29=>?_
  ·refine iQ (enc:=eI) (xs:=l16) 7 rfl (by exact ba bd) ?_
   refine fO 141 3 (du (ρd:=[PRes.row none _ _ _ _ _]) [(8,3),(0,0),(1,0),(2,0),(3,0),(4,0),(5,0),(6,0),(7,1),(8,2),(9,1),(10,0),(11,1),(12,1),(13,0)] _ (List.Perm.refl _) (by kernel_rfl) rfl (B3 (tR rfl rfl rfl rfl rfl (ez rfl kg) rfl rfl rfl) (aa hq29 fun m32 hm32 hq29=>aa hq29 fun x33 hx33 hq29=>dJ 7 [1] [43,45,46] [(42,pO none 0 0),(44,pI p0.Granted),(47,pI m32),(48,pL eI l16)] (jX 4 eI hm32 bZ) (by kernel_rfl) ?_)))
   refine oQ rfl rfl rfl (aL rfl rfl (ρ1:=[]) (List.Perm.refl _) (lP hx33) ?_);rintro _ _ ⟨a34,c35,rfl,rfl⟩
   refine wz (tR rfl rfl rfl rfl rfl (ez rfl kg) rfl rfl rfl) (fun _=>rfl) rfl (fun b37=>aa hq29 fun l39 hl39 hq29=>?_)
   refine oQ rfl rfl rfl (lD (B2 (enc:=eI) rfl rfl rfl rfl rfl (fun _=>rfl) rfl rfl rfl rfl fH rfl (by exact ba bd) hl39 (fun a40 c41=>⟨_,_,_,_,_,_,_,rfl,by (repeat (first | exact bd | apply ba)),?_⟩)))
   refine pwd_q rfl rfl rfl (eu (cs:=[pI p0.Granted,pI m32,pL eI l39]) rfl rfl rfl rfl rfl rfl rfl (nw rfl rfl rfl rfl ed (nw rfl rfl rfl rfl (bP ed) (nw rfl rfl rfl rfl (bP (bP ed)) Ax)))) (oQ rfl rfl rfl (bT rfl rfl rfl rfl rfl (ez rfl kg) rfl rfl rfl rfl (fun b42=>aa hq29 fun l44 hl44 hq29=>?_)))
   refine oQ rfl rfl rfl (fb (enc:=Zf.enc) rfl rfl rfl rfl rfl rfl rfl rfl rfl fH (by exact ba (ba bd)) hl44 (fun a45 c46=>?_))
   refine oZ 1 [(8,pO a45 l44.length c46)] (by kernel_rfl) (ef ?_)
   obtain rfl:=osi hq29
   exact az ((a45,c46),l44) (si rfl) (cR (ba (ba (ba (ba bd)))) dN) rfl
  refine ag ?_
  refine mh (wC (enc:=eI) (xs:=l16) 7 rfl (by exact ba bd)) ?_
  refine mh (sf 141 3) ?_
  obtain rfl:=osi hq29
  exact az ((none,0),([]:(List Zf))) (si rfl) (cR (ba (ba bd)) dN) rfl
 rintro ⟨⟨a26,c27⟩,l28⟩ τ hz;(try dsimp only at hz);subst q29;(try dsimp only at h);dsimp only [aM]
 refine af (af (aY [0] (rg 55 6) [(61,pB ((decide (0<(IntKind.i64.wrap (p0.Quantity - p0.Granted))))||(p0.Quantity == 0)))] (by kernel_rfl) (ar (aa h fun q52 hq52 h=>?_))))
 refine aJ (Y:=(Option Addr×Nat)×((List Zf))) (fun ((a49,c50),l51)=>[(1,pP b1 0),(8,pO a49 l51.length c50)]) (fun ((a49,c50),l51)=>[PRes.b b1 32 (dw p0),PRes.row a49 l51.length c50 141 3 (List.map Zf.enc l51)]) (fun ((a49,c50),l51)=>q52=l51) ?_ ?_
 ·skip
  refine lE rfl hq52 (fun hc53 hq52=>?_) fun hc53 hq52=>?_
  ·refine aa hq52 ?_;clear hq52;intro m54 hm54 hq52
   refine ae (bC 7 [] (rg 63 5) [(62,pO a26 l28.length c27),(68,.agg [pI (IntKind.i64.wrap (p0.Quantity - p0.Granted)),pI m54,pL eI l16])] (jX 3 eI hm54 bZ) (by kernel_rfl) (ak rfl (bT rfl rfl rfl rfl rfl (ez rfl kg) rfl rfl rfl rfl (fun b55=>aa hq52 fun l57 hl57 hq52=>?_))))
   refine ak rfl (fb (enc:=Zf.enc) rfl rfl rfl rfl rfl rfl rfl rfl rfl fH (by exact ba (ba bd)) hl57 (fun a58 c59=>?_))
   refine aD [(8,pO a58 l57.length c59)] (by kernel_rfl) ?_
   obtain rfl:=osi hq52
   exact az ((a58,c59),l57) (pH rfl) (cR (ba (ba bd)) dN) rfl
  refine ag ?_
  obtain rfl:=osi hq52
  exact az ((a26,c27),l28) (pH rfl) zs2 rfl
 rintro ⟨⟨a49,c50⟩,l51⟩ τ hz;(try dsimp only at hz);subst q52;(try dsimp only at h);dsimp only [aM]
 refine af (ae (cH 5 [0,0] [72,74] [(71,pO a49 l51.length c50),(73,pI p0.Quantity),(75,pI p0.Value)] (by kernel_rfl) (ak rfl (bT rfl rfl rfl rfl rfl (ez rfl kg) rfl rfl rfl rfl (fun b61=>?_)))))
 refine jE (enc:=eI) (xs:=[5]) 76 rfl (by exact bd) ?_
 refine cH 5 [1,1] [78,80] [(77,.agg [pI p0.Quantity,pI p0.Value,pL eI [5]]),(79,pI p0.Quantity),(81,pI p0.Value)] (by kernel_rfl) (ak rfl (bT rfl rfl rfl rfl rfl (ez rfl kg) rfl rfl rfl rfl (fun b63=>?_)))
 refine jE (enc:=eI) (xs:=[6]) 82 rfl (by exact bd) ?_
 refine aq 1 [(83,.agg [pI p0.Quantity,pI p0.Value,pL eI [6]])] (by kernel_rfl) (ak rfl (bT rfl rfl rfl rfl rfl (ez rfl (ez rfl kg)) rfl rfl rfl rfl (fun b65=>aa h fun l67 hl67 h=>?_)))
 refine ak rfl (fb (enc:=Zf.enc) rfl rfl rfl rfl rfl rfl rfl rfl rfl fH (by exact ba (ba (ba (ba bd)))) hl67 (fun a68 c69=>?_))
 refine aD [(2,pO a68 l67.length c69),(3,pI 0)] (by kernel_rfl) (ar ?_)
 refine iQ (enc:=Zf.enc) (xs:=l67) 2 rfl (by exact bd) ?_
 refine cC ?_
 obtain rfl:=osi h
 exact aG (cK (aI rfl) (aI rfl)) cM ⟨rfl,rfl⟩
def dd (p0:Int) (p1:Int) (p2:Int):Option Zi:=(gQ (IntKind.u64.wrap ((IntKind.u64.wrap p0)*(IntKind.u64.wrap p1))) p2).bind fun x2=>some x2
theorem eG {p0:Int} {p1:Int} {p2:Int} {r:Zi}  (h:dd p0 p1 p2=some r):PF 149 [pI p0,.ref [pI p1] 0,.ref [pU p2] 0] (.agg [pU r.Hi,pU r.Lo]):=by
 unfold dd at h
 refine bm ?_
 refine fy Tryz.func149 rfl Tryz.ntmps149 Tryz.results149 rfl (ae (ak rfl (aX (cs:=[pU 0,pU 0]) rfl rfl rfl rfl (fun b1=>ap (fk h fun x2 hx2 h=>ae (bC 7 [] (rg 5 6) [(11,.agg [pU x2.Hi,pU x2.Lo])] (bK 6 (j0 hx2) bZ) (by kernel_rfl) (aH rfl rfl (aj (vs:=[pU x2.Hi,pU x2.Lo]) rfl rfl rfl rfl rfl cA xJ (ap (ej ?_))))))))))
 obtain rfl:=osi h
 exact aG (fL (cZ rfl fH rfl)) cM ⟨rfl,rfl⟩
def lQ (p0:Zi) (p1:Zi):Option (Zi×Int):=(ga p0.Lo p1.Lo 0).bind fun x4=>(ga p0.Hi p1.Hi x4.2).bind fun x5=>cond (x5.2 != 0) (some ((⟨0,0⟩:Zi),(3:Int))) (some ((⟨x5.1,x4.1⟩:Zi),(0:Int)))
theorem vo {p0:Zi} {p1:Zi} {r:(Zi×Int)}  (h:lQ p0 p1=some r):PF 151 [.agg [pU p0.Hi,pU p0.Lo],.agg [pU p1.Hi,pU p1.Lo]] (.tup [.agg [pU r.1.Hi,pU r.1.Lo],pI r.2]):=by
 unfold lQ at h
 refine bm ?_
 refine fy Tryz.func151 rfl Tryz.ntmps151 Tryz.results151 rfl (ae (ak rfl (bV (cs:=[pU p0.Hi,pU p0.Lo]) rfl rfl (fun b1=>ak rfl (bV (cs:=[pU p1.Hi,pU p1.Lo]) rfl rfl (fun b2=>ak rfl (aX (cs:=[pU 0,pU 0]) rfl rfl rfl rfl (fun b3=>bY [5] (by kernel_rfl) (fk h fun x4 hx4 h=>ae (cH 4 [2,1] [10,12] [(11,pU p0.Lo),(13,pU p1.Lo)] (by kernel_rfl) (ak rfl (wE rfl rfl hx4 (lJ [9,15,16] [(6,pU x4.1),(7,pU x4.2)] (by kernel_rfl) (fk h fun x5 hx5 h=>ae (cH 5 [2,1] [18,20] [(19,pU p0.Hi),(21,pU p1.Hi),(22,pU x4.2)] (by kernel_rfl) (ak rfl (wE rfl rfl hx5 (lJ [17,24,25] [(8,pU x5.1),(7,pU x5.2)] (by kernel_rfl) (dQ (ah [26] [(27,pB (x5.2 != 0))] (by kernel_rfl) (cY rfl h (fun hc6 h=>?_) fun hc6 h=>?_)))))))))))))))))))))
 ·refine af ?_
  refine ae (aq 1 [(28,.agg [pU 0,pU 0])] (by kernel_rfl) (aH rfl rfl (aj (vs:=[pU 0,pU 0]) rfl rfl rfl rfl rfl cA xJ (aD [(5,pI 3)] (by kernel_rfl) (ip ?_)))))
  obtain rfl:=osi h
  exact aG (cK (cZ rfl fH rfl) (aI rfl)) cM ⟨rfl,rfl⟩
 refine ag ?_
 refine cL (ae (bQ 3 [29,30] [(31,.agg [pU x5.1,pU x4.1])] (by kernel_rfl) (aH rfl rfl (aj (vs:=[pU x5.1,pU x4.1]) rfl rfl rfl rfl rfl cA xJ (aD [(5,pI 0)] (by kernel_rfl) (ej ?_))))))
 obtain rfl:=osi h
 exact aG (cK (cZ rfl fH rfl) (aI rfl)) cM ⟨rfl,rfl⟩
def cI (p0:Zi) (p1:Zi):Option Int:=cond ((decide (p0.Hi<p1.Hi))||((p0.Hi == p1.Hi)&&(decide (p0.Lo<p1.Lo)))) (some (-1)) (cond (Zi.eqb p0 p1) (some (0:Int)) (some (1:Int)))
theorem jK {p0:Zi} {p1:Zi} {r:Int}  (h:cI p0 p1=some r):PF 152 [.agg [pU p0.Hi,pU p0.Lo],.agg [pU p1.Hi,pU p1.Lo]] (pI r):=by
 unfold cI at h
 refine bm ?_
 refine fy Tryz.func152 rfl Tryz.ntmps152 Tryz.results152 rfl (ae (ak rfl (bV (cs:=[pU p0.Hi,pU p0.Lo]) rfl rfl (fun b1=>ak rfl (bV (cs:=[pU p1.Hi,pU p1.Lo]) rfl rfl (fun b2=>bY [4] (by kernel_rfl) (cL (au (af (aY [1,0,1,0,1,0] (rg 6 19) [(5,pB ((decide (p0.Hi<p1.Hi))||((p0.Hi == p1.Hi)&&(decide (p0.Lo<p1.Lo)))))] (by kernel_rfl) (cY rfl h (fun hc3 h=>?_) fun hc3 h=>?_)))))))))))
 ·refine af ?_
  refine ai [(4,pI (-1))] (by kernel_rfl) (ej (av (aK ?_)))
  exact zz r h rfl
 refine af ?_
 refine aw [1,0] [26,27,28] [(25,pB (Zi.eqb p0 p1))] (foeq 2 Zi.eqok205 bZ) (by kernel_rfl) (cY rfl h (fun hc4 h=>?_) fun hc4 h=>?_)
 ·refine af ?_
  refine ai [(4,pI 0)] (by kernel_rfl) (ej (av (aK ?_)))
  exact zz r h rfl
 refine ag ?_
 refine aA (cL (ai [(4,pI 1)] (by kernel_rfl) (ej ?_)))
 exact zz r h rfl
def eo (p0:Zl) (p1:Int) (p2:Int):Option (Int×Int):=(cn p0).bind fun x3=>cond (x3 != 0) (some ((0:Int),x3)) (cond ((((decide (p1<0))||(decide (1000000000000<p1)))||(decide (p2<0)))||(decide (1000000000<p2))) (some ((0:Int),(2:Int))) ((dd p0.Rate p1 (IntKind.u64.wrap (dt p0.Per 1))).bind fun x7=>(gQ (IntKind.u64.wrap ((IntKind.u64.wrap p0.Amount)*(IntKind.u64.wrap p2))) 1000000).bind fun x8=>(lQ x7 x8).bind fun x9=>cond (x9.2 != 0) (some ((0:Int),(3:Int))) ((gd p0.HasMost (dd p0.Most p1 (IntKind.u64.wrap (dt p0.Per 1)))).bind fun x12=>(gd p0.HasMost (cI x9.1 x12)).bind fun x13=>Option.bind (cond (p0.HasMost&&(decide (0<x13))) ((dd p0.Most p1 (IntKind.u64.wrap (dt p0.Per 1))).bind fun x18=>some (x18.Hi,x18.Lo)) (some (x9.1.Hi,x9.1.Lo))) (fun (v14,v15)=>(gd p0.HasLeast (dd p0.Least p1 (IntKind.u64.wrap (dt p0.Per 1)))).bind fun x19=>(gd p0.HasLeast (cI (⟨v14,v15⟩:Zi) x19)).bind fun x20=>Option.bind (cond (p0.HasLeast&&(decide (x20<0))) ((dd p0.Least p1 (IntKind.u64.wrap (dt p0.Per 1))).bind fun x25=>some (x25.Hi,x25.Lo)) (some (v14,v15))) (fun (v21,v22)=>(jq (⟨v21,v22⟩:Zi) (IntKind.u64.wrap (1000000*(IntKind.u64.wrap (dt p0.Per 1)))) 2).bind fun x26=>cond ((x26.2 != 0)||(decide (1000000000000<x26.1))) (some ((0:Int),(3:Int))) (some ((IntKind.i64.wrap x26.1),(0:Int))))))))
theorem qc {p0:Zl} {p1:Int} {p2:Int} {r:(Int×Int)}  (h:eo p0 p1 p2=some r):PF 122 [.agg (nB p0),pI p1,pI p2] (.tup [pI r.1,pI r.2]):=by
 unfold eo at h
 refine bm ?_
 refine fy Tryz.func122 rfl Tryz.ntmps122 Tryz.results122 rfl (ae (ak rfl (bV (cs:=(nB p0)) rfl rfl (fun b1=>ak rfl (bV (cs:=[pI p1]) rfl rfl (fun b2=>bY [6,7] (by kernel_rfl) (dQ (aa h fun x3 hx3 h=>aw [1] [14,15] [(8,pI x3)] (bK 1 (lO hx3) bZ) (by kernel_rfl) (cL (ah [16] [(17,pB (x3 != 0))] (by kernel_rfl) (cY rfl h (fun hc4 h=>?_) fun hc4 h=>?_)))))))))))
 ·refine af ?_
  refine ah [18] [(6,pI 0),(7,pI x3)] (by kernel_rfl) (ip ?_)
  obtain rfl:=osi h
  exact aG (cK (aI rfl) (aI rfl)) cM ⟨rfl,rfl⟩
 refine ag ?_
 refine dQ (aY [0,0] (rg 19 13) [(32,pB ((((decide (p1<0))||(decide (1000000000000<p1)))||(decide (p2<0)))||(decide (1000000000<p2))))] (by kernel_rfl) (cY rfl h (fun hc5 h=>?_) fun hc5 h=>?_))
 ·refine af ?_
  refine ai [(6,pI 0),(7,pI 2)] (by kernel_rfl) (ip ?_)
  obtain rfl:=osi h
  exact aG (cK (aI rfl) (aI rfl)) cM ⟨rfl,rfl⟩
 refine ag ?_
 refine cL (ae (cH 4 [1] [33,34,35] [(36,pU (IntKind.u64.wrap (dt p0.Per 1)))] (by kernel_rfl) (ak rfl (aX (cs:=[pU 0]) rfl rfl rfl rfl (fun b6=>aH rfl rfl (aj (vs:=[pU (IntKind.u64.wrap (dt p0.Per 1))]) rfl rfl rfl rfl rfl cA ed (ap (cL (ae ?_)))))))))
 refine mi 4 rfl (by exact ba bd) ?_
 refine mi 9 rfl (by exact ba bd) ?_
 refine lJ [37] [(10,.fn 149 [.ref [pI p1] 0,.ref [pU (IntKind.u64.wrap (dt p0.Per 1))] 0])] (by kernel_rfl) (cL (du (ρd:=[]) [(0,0),(1,0),(2,0),(4,0),(5,0),(6,0),(7,0),(8,0),(9,0),(3,1),(10,1),(11,1),(12,0),(13,0),(14,0),(15,2),(16,1),(17,0)] _ (List.Perm.refl _) (by kernel_rfl) rfl (aa h fun x7 hx7 h=>aa h fun x8 hx8 h=>aa h fun x9 hx9 h=>dJ 15 [2,2] [39,40,41,43,44,45,46,47,48,42,49,50,38] [(51,.agg [pU x9.1.Hi,pU x9.1.Lo]),(52,pI x9.2)] (AG 9 (mg (pargs:=[pI p0.Rate]) (caps:=[.ref [pI p1] 0,.ref [pU (IntKind.u64.wrap (dt p0.Per 1))] 0]) (eG hx7)) (bK 10 (j0 hx8) (bK 11 (vo hx9) bZ))) (by kernel_rfl) (wz (wy rfl rfl rfl rfl rfl) (fun _=>rfl) rfl (fun b10=>va rfl rfl (aj (vs:=[pU x9.1.Hi,pU x9.1.Lo]) rfl rfl rfl rfl rfl cA xJ (oZ 1 [(12,pI x9.2)] (by kernel_rfl) (ef (dQ (ah [53] [(54,pB (x9.2 != 0))] (by kernel_rfl) (cY rfl h (fun hc11 h=>?_) fun hc11 h=>?_)))))))))))
 ·refine af ?_
  refine ai [(6,pI 0),(7,pI 3)] (by kernel_rfl) (ip ?_)
  obtain rfl:=osi h
  exact aG (cK (aI rfl) (aI rfl)) cM ⟨rfl,rfl⟩
 refine ag ?_
 refine dQ (du (ρd:=[]) [(0,0),(1,0),(2,0),(3,0),(4,0),(5,0),(6,0),(7,1),(8,1),(9,0),(10,0)] _ (List.Perm.refl _) (by kernel_rfl) rfl (aa h fun x12 hx12 h=>aa h fun x13 hx13 h=>dJ 11 [3,0,3] (rg 55 10) [(65,pB (p0.HasMost&&(decide (0<x13))))] (Cg 7 (fun hc=>mg (pargs:=[pI p0.Most]) (caps:=[.ref [pI p1] 0,.ref [pU (IntKind.u64.wrap (dt p0.Per 1))] 0]) (eG (gF hx12 hc))) (kU 8 (fun hc=>jK (gF hx13 hc)) bZ)) (by kernel_rfl) (ef (ar (aa h fun q16 hq16 h=>?_)))))
 refine aJ (Y:=Unit×(Int×Int)) (fun (_,(v14,v15))=>[(3,pP b1 0),(9,.ref [pU (IntKind.u64.wrap (dt p0.Per 1))] 0),(10,.fn 149 [.ref [pI p1] 0,.ref [pU (IntKind.u64.wrap (dt p0.Per 1))] 0]),(11,pP b10 0)]) (fun (_,(v14,v15))=>[PRes.b b1 66 (nB p0),PRes.b b10 205 [pU v14,pU v15]]) (fun (_,(v14,v15))=>q16=(v14,v15)) ?_ ?_
 ·skip
  refine lE rfl hq16 (fun hc17 hq16=>?_) fun hc17 hq16=>?_
  ·refine aa hq16 ?_;clear hq16;intro x18 hx18 hq16
   refine ae (bC 4 [3] [66,67,68] [(69,.agg [pU x18.Hi,pU x18.Lo])] (AG 3 (mg (pargs:=[pI p0.Most]) (caps:=[.ref [pI p1] 0,.ref [pU (IntKind.u64.wrap (dt p0.Per 1))] 0]) (eG hx18)) bZ) (by kernel_rfl) (aH rfl rfl (aj (vs:=[pU x18.Hi,pU x18.Lo]) rfl rfl rfl rfl rfl cA xJ (ap ?_))))
   obtain rfl:=osi hq16
   exact az ((),(x18.Hi,x18.Lo)) (mN rfl) (cR (ba (ba (ba bd))) dN) rfl
  refine ag ?_
  obtain rfl:=osi hq16
  exact az ((),(x9.1.Hi,x9.1.Lo)) (mN rfl) (cR (ba (ba (ba bd))) dN) rfl
 rintro ⟨_,⟨v14,v15⟩⟩ τ hz;(try dsimp only at hz);subst q16;(try dsimp only at h);dsimp only [aM]
 refine af (af (du (ρd:=[]) [(0,0),(1,0),(2,0),(3,0),(4,0),(5,0),(6,0),(7,1),(8,1),(9,0),(10,0)] _ (List.Perm.refl _) (by kernel_rfl) rfl (aa h fun x19 hx19 h=>aa h fun x20 hx20 h=>dJ 11 [0,1,0] (rg 70 10) [(80,pB (p0.HasLeast&&(decide (x20<0))))] (Cg 7 (fun hc=>mg (pargs:=[pI p0.Least]) (caps:=[.ref [pI p1] 0,.ref [pU (IntKind.u64.wrap (dt p0.Per 1))] 0]) (eG (gF hx19 hc))) (kU 8 (fun hc=>jK (gF hx20 hc)) bZ)) (by kernel_rfl) (ef (ar (aa h fun q23 hq23 h=>?_))))))
 refine aJ (Y:=Unit×(Int×Int)) (fun (_,(v21,v22))=>[(9,.ref [pU (IntKind.u64.wrap (dt p0.Per 1))] 0),(11,pP b10 0)]) (fun (_,(v21,v22))=>[PRes.b b10 205 [pU v21,pU v22]]) (fun (_,(v21,v22))=>q23=(v21,v22)) ?_ ?_
 ·skip
  refine lE rfl hq23 (fun hc24 hq23=>?_) fun hc24 hq23=>?_
  ·refine aa hq23 ?_;clear hq23;intro x25 hx25 hq23
   refine ae (bC 4 [0] [81,82,83] [(84,.agg [pU x25.Hi,pU x25.Lo])] (AG 3 (mg (pargs:=[pI p0.Least]) (caps:=[.ref [pI p1] 0,.ref [pU (IntKind.u64.wrap (dt p0.Per 1))] 0]) (eG hx25)) bZ) (by kernel_rfl) (aH rfl rfl (aj (vs:=[pU x25.Hi,pU x25.Lo]) rfl rfl rfl rfl rfl (cG cA) xJ (ap ?_))))
   obtain rfl:=osi hq23
   exact az ((),(x25.Hi,x25.Lo)) (pH rfl) (cR (ba bd) cM) rfl
  refine ag ?_
  obtain rfl:=osi hq23
  exact az ((),(v14,v15)) (pH rfl) (cR (ba bd) cM) rfl
 rintro ⟨_,⟨v21,v22⟩⟩ τ hz;(try dsimp only at hz);subst q23;(try dsimp only at h);dsimp only [aM]
 refine af (aa h fun x26 hx26 h=>aw [0] [86,87,88,89,85,90,91] [(13,pU x26.1),(12,pI x26.2)] (bK 3 (o6 hx26) bZ) (by kernel_rfl) (dQ (ah (rg 92 5) [(97,pB ((x26.2 != 0)||(decide (1000000000000<x26.1))))] (by kernel_rfl) (cY rfl h (fun hc27 h=>?_) fun hc27 h=>?_))))
 ·refine af ?_
  refine ai [(6,pI 0),(7,pI 3)] (by kernel_rfl) (ip ?_)
  obtain rfl:=osi h
  exact aG (cK (aI rfl) (aI rfl)) cM ⟨rfl,rfl⟩
 refine ag ?_
 refine cL (ah [98,99] [(6,pI (IntKind.i64.wrap x26.1)),(7,pI 0)] (by kernel_rfl) (ej ?_))
 obtain rfl:=osi h
 exact aG (cK (aI rfl) (aI rfl)) cM ⟨rfl,rfl⟩
def ew (p0:(List Zb)) (p1:Zf):Option (Zd×Bool×Int):=(aV (S:=Bool×Int×Int×Int×Int×Int×Int) (T:=(Bool×Int×Int×Int×Int×Int)⊕(_)) (fun (v4,v5,v6,v7,v8,v9,v10)=>cond (decide (v5<(p1.kinds.length:Int))) ((idx p1.kinds v5).bind fun m20=>(aV (S:=Bool×Int×Int×Int×Int×Int×Int) (T:=(Bool×Int×Int×Int×Int×Int)⊕(_)) (fun (v21,v22,v23,v24,v25,v26,v27)=>cond (decide (v22<(p0.length:Int))) (Option.bind (α:=(Bool×Int×Int×Int×Int×Int)⊕_) ((idx p0 v22).bind fun m44=>cond (m44.Kind != m20) (some (.inl (v21,v23,v24,v25,v26,v27))) ((eo m44.Duty p1.value p1.quantity).bind fun x47=>cond (x47.2 != 0) (some (.inr (.inr (.inr (.inr (.inr ((⟨0,0,0,0,0⟩:Zd),false,x47.2))))))) (cond ((!v21)||(decide (x47.1<v27))) (some (.inl (true,m44.Kind,m44.ID,p1.quantity,p1.value,x47.1))) (some (.inl (v21,v23,v24,v25,v26,v27)))))) (fun q=>match q with | .inl (v37,v38,v39,v40,v41,v42)=>some (.inl (v37,(IntKind.i64.wrap (v22+1)),v38,v39,v40,v41,v42)) | .inr e=>some e)) (some (.inr (.inl (v21,v23,v24,v25,v26,v27))))) FUEL (v4,0,v6,v7,v8,v9,v10)).bind fun q=>match q with | .inl (v28,v29,v30,v31,v32,v33)=>some (.inl (v28,(IntKind.i64.wrap (v5+1)),v29,v30,v31,v32,v33)) | .inr e=>some e) (some (.inr (.inl (v4,v6,v7,v8,v9,v10))))) FUEL (false,0,0,0,0,0,0)).bind fun q=>match q with | .inl (v11,v12,v13,v14,v15,v16)=>some ((⟨v12,v13,v14,v15,v16⟩:Zd),v11,(0:Int)) | .inr e=>some e
theorem nM {p0:(List Zb)} {p1:Zf} {r:(Zd×Bool×Int)}  (h:ew p0 p1=some r):PF 81 [pL Zb.enc p0,.agg [pI p1.quantity,pI p1.value,pL eI p1.kinds]] (.tup [.agg [pI r.1.Kind,pI r.1.Measure,pI r.1.Quantity,pI r.1.Value,pI r.1.Amount],pB r.2.1,pI r.2.2]):=by
 unfold ew at h
 refine bm ?_
 refine fy Tryz.func81 rfl Tryz.ntmps81 Tryz.results81 rfl (ae (ak rfl (bV (cs:=[pI p1.quantity,pI p1.value,pL eI p1.kinds]) rfl rfl (fun b1=>ak rfl (aX (cs:=[pI 0,pI 0,pI 0,pI 0,pI 0]) rfl rfl rfl rfl (fun b2=>bY [5,6] (by kernel_rfl) (cL (ae (ak rfl (aX (cs:=[pI 0,pI 0,pI 0,pI 0,pI 0]) rfl rfl rfl rfl (fun b3=>ap (cL (ai [(8,pB false)] (by kernel_rfl) (dQ (aY [2] [15] [(16,pL eI p1.kinds),(17,pI (p1.kinds.length:Int)),(18,pI 0)] (by kernel_rfl) (ar (aa h fun q18 hq18 h=>?_)))))))))))))))))
 refine aJ (Y:=Unit×(Bool×Int×Int×Int×Int×Int)) (fun (_,(v11,v12,v13,v14,v15,v16))=>[(4,pP b2 0),(7,pP b3 0),(8,pB v11)]) (fun (_,(v11,v12,v13,v14,v15,v16))=>[PRes.b b2 37 [pI 0,pI 0,pI 0,pI 0,pI 0],PRes.b b3 37 [pI v12,pI v13,pI v14,pI v15,pI v16]]) (fun (_,(v11,v12,v13,v14,v15,v16))=>q18=Sum.inl (v11,v12,v13,v14,v15,v16)) ?_ ?_
 ·refine au ?_
  refine bt (Y:=Unit) (S:=Bool×Int×Int×Int×Int×Int×Int) _ hq18 (fun _ (v4,v5,v6,v7,v8,v9,v10)=>[(0,pL Zb.enc p0),(3,pP b1 0),(4,pP b2 0),(7,pP b3 0),(8,pB v4),(16,pL eI p1.kinds),(17,pI (p1.kinds.length:Int)),(18,pI v5)]) (fun _ (v4,v5,v6,v7,v8,v9,v10)=>[PRes.b b1 141 [pI p1.quantity,pI p1.value,pL eI p1.kinds],PRes.b b2 37 [pI 0,pI 0,pI 0,pI 0,pI 0],PRes.b b3 37 [pI v6,pI v7,pI v8,pI v9,pI v10]]) () (zh8 rfl) (cR (ba (ba bd)) (cR (ba bd) dN)) ?_
  rintro _ ⟨v4,v5,v6,v7,v8,v9,v10⟩ o τ hb17;(try dsimp only at hb17);dsimp only [aM]
  refine af (ai [(19,pB (decide (v5<(p1.kinds.length:Int))))] (by kernel_rfl) (cL (lE rfl hb17 (fun hc19 hb17=>?_) fun hc19 hb17=>?_)))
  ·refine ag ?_
   refine cL (au (af (aa hb17 fun m20 hm20 hb17=>aw [] [20,21] [(10,pI m20)] (jX 0 eI hm20 bZ) (by kernel_rfl) (cL (ai [(22,pL Zb.enc p0),(23,pI (p0.length:Int)),(24,pI 0)] (by kernel_rfl) (ar (aa hb17 fun q35 hq35 hb17=>?_)))))))
   refine ky (Y:=Unit×(Bool×Int×Int×Int×Int×Int)) (fun (_,(v28,v29,v30,v31,v32,v33))=>[(0,pL Zb.enc p0),(3,pP b1 0),(4,pP b2 0),(7,pP b3 0),(8,pB v28),(16,pL eI p1.kinds),(17,pI (p1.kinds.length:Int)),(18,pI v5)]) (fun (_,(v28,v29,v30,v31,v32,v33))=>[PRes.b b1 141 [pI p1.quantity,pI p1.value,pL eI p1.kinds],PRes.b b2 37 [pI 0,pI 0,pI 0,pI 0,pI 0],PRes.b b3 37 [pI v29,pI v30,pI v31,pI v32,pI v33]]) (fun (_,(v28,v29,v30,v31,v32,v33))=>q35=Sum.inl (v28,v29,v30,v31,v32,v33)) ?_ ?_
   ·refine au ?_
    refine bt (Y:=Unit) (S:=Bool×Int×Int×Int×Int×Int×Int) _ hq35 (fun _ (v21,v22,v23,v24,v25,v26,v27)=>[(0,pL Zb.enc p0),(3,pP b1 0),(4,pP b2 0),(7,pP b3 0),(8,pB v21),(10,pI m20),(16,pL eI p1.kinds),(17,pI (p1.kinds.length:Int)),(18,pI v5),(22,pL Zb.enc p0),(23,pI (p0.length:Int)),(24,pI v22)]) (fun _ (v21,v22,v23,v24,v25,v26,v27)=>[PRes.b b1 141 [pI p1.quantity,pI p1.value,pL eI p1.kinds],PRes.b b2 37 [pI 0,pI 0,pI 0,pI 0,pI 0],PRes.b b3 37 [pI v23,pI v24,pI v25,pI v26,pI v27]]) () (fY rfl (fY rfl (fY rfl (wG rfl)))) qH ?_
    rintro _ ⟨v21,v22,v23,v24,v25,v26,v27⟩ o τ hb34;(try dsimp only at hb34);dsimp only [aM]
    refine af (ai [(25,pB (decide (v22<(p0.length:Int))))] (by kernel_rfl) (cL (lE rfl hb34 (fun hc36 hb34=>?_) fun hc36 hb34=>?_)))
    ·refine ag ?_
     refine fk hb34 fun q43 hq43 hb34=>?_
     refine aJ (Y:=Unit×(Bool×Int×Int×Int×Int×Int)) (fun (_,(v37,v38,v39,v40,v41,v42))=>[(0,pL Zb.enc p0),(3,pP b1 0),(4,pP b2 0),(7,pP b3 0),(8,pB v37),(10,pI m20),(16,pL eI p1.kinds),(17,pI (p1.kinds.length:Int)),(18,pI v5),(22,pL Zb.enc p0),(23,pI (p0.length:Int)),(24,pI v22)]) (fun (_,(v37,v38,v39,v40,v41,v42))=>[PRes.b b1 141 [pI p1.quantity,pI p1.value,pL eI p1.kinds],PRes.b b2 37 [pI 0,pI 0,pI 0,pI 0,pI 0],PRes.b b3 37 [pI v38,pI v39,pI v40,pI v41,pI v42]]) (fun (_,(v37,v38,v39,v40,v41,v42))=>q43=Sum.inl (v37,v38,v39,v40,v41,v42)) ?_ ?_
     ·skip
      refine au (af (aa hq43 fun m44 hm44 hq43=>ae (bC 2 [] [26] [(27,.agg (ce m44))] (jX 0 Zb.enc hm44 bZ) (by kernel_rfl) (ak rfl (aX (cs:=[pI 0,pI 0,pS ByteArray.empty,pN,pI 0,pI 0,pI 0,pI 0,pI 0,pI 0,pI 0,pB false,pI 0,pB false,pI 0]) rfl rfl rfl rfl (fun b45=>aH rfl rfl (aj (vs:=(ce m44)) rfl rfl rfl rfl rfl cA (gE (gE (gE (gE (gE (gE zl9)))))) (ap (dQ (aY [0] [28,29,30] [(31,pB (m44.Kind != m20))] (by kernel_rfl) (cY rfl hq43 (fun hc46 hq43=>?_) fun hc46 hq43=>?_)))))))))))
      ·refine bA ?_
       refine aW (aS rfl ?_)
       obtain rfl:=osi hq43
       exact az ((),(v21,v23,v24,v25,v26,v27)) (fY rfl (fY rfl (fY rfl (wG rfl)))) (cR (ba bd) (cR (ba bd) (cR (ba bd) cM))) rfl
      refine ag ?_
      refine fk hq43 fun x47 hx47 hq43=>aw [0,1,1] ((rg 33 7)++[32,40,41]) [(13,pI x47.1),(14,pI x47.2)] (bK 6 (qc hx47) bZ) (by kernel_rfl) (dQ (ah [42] [(43,pB (x47.2 != 0))] (by kernel_rfl) (cY rfl hq43 (fun hc48 hq43=>?_) fun hc48 hq43=>?_)))
      ·refine af ?_
       refine ae (aq 2 [(44,.agg [pI 0,pI 0,pI 0,pI 0,pI 0]),(45,pI x47.2)] (by kernel_rfl) (aH rfl rfl (aj (vs:=[pI 0,pI 0,pI 0,pI 0,pI 0]) rfl rfl rfl rfl rfl (cG (cG cA)) zl5 (aD [(5,pB false),(6,pI x47.2)] (by kernel_rfl) (ip (av (bz ?_)))))))
       obtain rfl:=osi hq43
       refine bU hb34 (fun ht=>?_);subst ht
       refine av (il (av (aK ?_)))
       refine bU hb17 (fun ht=>?_);subst ht
       refine av (bz ?_)
       obtain rfl:=osi h
       exact aG (prv_3 (cZ rfl Dz rfl) (aI rfl) (aI rfl)) cM ⟨rfl,rfl⟩
      refine ag ?_
      refine cL (aY [3] (rg 46 7) [(53,pB ((!v21)||(decide (x47.1<v27))))] (by kernel_rfl) (cY rfl hq43 (fun hc49 hq43=>?_) fun hc49 hq43=>?_))
      ·refine af ?_
       refine ae (cH 10 [0,0,1,1] (rg 54 9) [(63,.agg [pI m44.Kind,pI m44.ID,pI p1.quantity,pI p1.value,pI x47.1])] (by kernel_rfl) (aH rfl rfl (aj (vs:=[pI m44.Kind,pI m44.ID,pI p1.quantity,pI p1.value,pI x47.1]) rfl rfl rfl rfl rfl (cG (cG (cG cA))) zl5 (ap (ar (ai [(8,pB true)] (by kernel_rfl) (aA ?_)))))))
       obtain rfl:=osi hq43
       exact az ((),(true,m44.Kind,m44.ID,p1.quantity,p1.value,x47.1)) (fY rfl (fY rfl (fY rfl (wG rfl)))) (cR (ba bd) (cR (ba bd) (cR (ba bd) cM))) rfl
      refine ag ?_
      refine aA ?_
      obtain rfl:=osi hq43
      exact az ((),(v21,v23,v24,v25,v26,v27)) (fY rfl (fY rfl (fY rfl (wG rfl)))) (cR (ba bd) (cR (ba bd) (cR (ba bd) cM))) rfl
     rintro ⟨_,⟨v37,v38,v39,v40,v41,v42⟩⟩ τ hz;(try dsimp only at hz);subst q43;(try dsimp only at hb34);dsimp only [aM]
     refine ah [64] [(24,pI (IntKind.i64.wrap (v22+1)))] (by kernel_rfl) ?_
     exact ck hb34 () (fY rfl (fY rfl (fY rfl (wG rfl)))) qH
    refine bA ?_
    refine aW (aQ hb34 (fun ht=>aS rfl ?_))
    exact fw ((),(v21,v23,v24,v25,v26,v27)) (zh8 rfl) qH ht.symm
   rintro ⟨_,⟨v28,v29,v30,v31,v32,v33⟩⟩ τ ρ1 hsub50 hz;(try dsimp only at hz hsub50);subst q35;(try dsimp only at hb17);dsimp only [aM]
   refine aA (ar (oO hsub50 (ah [65] [(18,pI (IntKind.i64.wrap (v5+1)))] (by kernel_rfl) ?_)))
   exact ck hb17 () (zh8 rfl) qH
  refine bA ?_
  refine aW (aQ hb17 (fun ht=>aS rfl ?_))
  exact az ((),(v4,v6,v7,v8,v9,v10)) (mD rfl) (cR (ba bd) (cR (ba bd) cM)) ht.symm
 rintro ⟨_,⟨v11,v12,v13,v14,v15,v16⟩⟩ τ hz;(try dsimp only at hz);subst q18;(try dsimp only at h);dsimp only [aM]
 refine af (ae (hZ 2 [1] [(66,.agg [pI v12,pI v13,pI v14,pI v15,pI v16]),(67,pB v11)] (by kernel_rfl) (aH rfl rfl (aj (vs:=[pI v12,pI v13,pI v14,pI v15,pI v16]) rfl rfl rfl rfl rfl cA zl5 (aD [(5,pB v11),(6,pI 0)] (by kernel_rfl) (ej ?_))))))
 obtain rfl:=osi h
 exact aG (prv_3 (cZ rfl fH rfl) (aI rfl) (aI rfl)) cM ⟨rfl,rfl⟩
def kX (p0:ByteArray):Option Int:=(aV (S:=Int) (T:=(Unit)⊕(_)) (fun v1=>cond (decide (v1<(p0.size:Int))) ((idx p0.data.toList v1).bind fun c5=>(gd (!(decide ((c5.toNat:Int)<48))) (idx p0.data.toList v1)).bind fun c6=>cond ((decide ((c5.toNat:Int)<48))||(decide (57<(c6.toNat:Int)))) (some (.inr (.inr (0:Int)))) (some (.inl (IntKind.i64.wrap (v1+1))))) (some (.inr (.inl ())))) FUEL 0).bind fun q=>match q with | .inl _=>cond ((decide (8<(p0.size:Int)))||((Int.tmod (p0.size:Int) 2) == 1)) (some (0:Int)) (some (p0.size:Int)) | .inr e=>some e
def jL (p0:Int) (p1:Int):Option Bool:=some ((decide (0≤p0))&&(decide (p0≤p1)))
def mw (p0:Zl):Option Int:=(jL p0.Rate 10000000).bind fun x2=>(gd (!(!x2)) (jL p0.Amount 100000000)).bind fun x3=>(gd (!((((!x2)||(!x3))||((decide (0<p0.Amount))&&((decide (p0.Per<1))||(decide (1000000<p0.Per)))))||((p0.Amount == 0)&&(p0.Per != 0)))) (jL p0.Most 10000000)).bind fun x4=>(gd (!(((((!x2)||(!x3))||((decide (0<p0.Amount))&&((decide (p0.Per<1))||(decide (1000000<p0.Per)))))||((p0.Amount == 0)&&(p0.Per != 0)))||(!x4))) (jL p0.Least 10000000)).bind fun x5=>cond ((((((!x2)||(!x3))||((decide (0<p0.Amount))&&((decide (p0.Per<1))||(decide (1000000<p0.Per)))))||((p0.Amount == 0)&&(p0.Per != 0)))||(!x4))||(!x5)) (some (2:Int)) (cond ((((p0.Most != 0)&&(!p0.HasMost))||((p0.Least != 0)&&(!p0.HasLeast)))||((p0.HasMost&&p0.HasLeast)&&(decide (p0.Most<p0.Least)))) (some (1:Int)) (some (0:Int)))
def lR (p0:Zb):Option (Int×Bool):=cond ((((((decide (p0.ID<1))||(decide (1000000<p0.ID)))||(decide (p0.Kind<1)))||(decide (6<p0.Kind)))||(decide (p0.Company<0)))||(decide (999<p0.Company))) (some ((2:Int),false)) ((kX p0.Prefix).bind fun x3=>cond (x3 == 0) (some ((1:Int),false)) (cond (decide (20<(p0.Origins.length:Int))) (some ((8:Int),false)) ((aV (S:=Int) (T:=(Unit)⊕(_)) (fun v6=>cond (decide (v6<(p0.Origins.length:Int))) ((idx p0.Origins v6).bind fun m10=>(dP m10).bind fun x11=>(gd ((!(!x11))&&(decide (0<v6))) (idx p0.Origins (IntKind.i64.wrap (v6 - 1)))).bind fun m12=>(gd ((!(!x11))&&(decide (0<v6))) (idx p0.Origins v6)).bind fun m13=>cond ((!x11)||((decide (0<v6))&&(!Op.bytesLess m12.toList m13.toList))) (some (.inr (.inr ((1:Int),false)))) (some (.inl (IntKind.i64.wrap (v6+1))))) (some (.inr (.inl ())))) FUEL 0).bind fun q=>match q with | .inl _=>cond (((((decide (p0.From<0))||(decide (p0.To≤p0.From)))||(decide (36525<p0.To)))||(decide (p0.Registered<(-1))))||(decide (p0.From<p0.Registered))) (some ((2:Int),false)) ((mw p0.Duty).bind fun x16=>some (x16,(x16 == 0))) | .inr e=>some e)))
def kG (p0:(List Zb)):Option Int:=cond (decide (300<(p0.length:Int))) (some (8:Int)) ((aV (S:=Int) (T:=(Unit)⊕(_)) (fun v2=>cond (decide (v2<(p0.length:Int))) ((idx p0 v2).bind fun m6=>cond ((((((decide (m6.ID<1))||(decide (1000000<m6.ID)))||(decide (m6.Kind<1)))||(decide (6<m6.Kind)))||(decide (m6.Company<0)))||(decide (999<m6.Company))) (some (.inr (.inr (2:Int)))) ((gd (decide (0<v2)) (idx p0 (IntKind.i64.wrap (v2 - 1)))).bind fun m9=>cond ((decide (0<v2))&&(decide (m6.ID≤m9.ID))) (some (.inr (.inr (9:Int)))) ((lR m6).bind fun x11=>cond (x11.1 != 0) (some (.inr (.inr x11.1))) (some (.inl (IntKind.i64.wrap (v2+1))))))) (some (.inr (.inl ())))) FUEL 0).bind fun q=>match q with | .inl _=>some (0:Int) | .inr e=>some e)
def kH (p0:Zj):Option Int:=(kX p0.Code).bind fun x2=>(gd (!(x2 != 8)) (dP p0.Origin)).bind fun x3=>cond ((x2 != 8)||(!x3)) (some (1:Int)) (cond ((((((((((decide (p0.Company<0))||(decide (999<p0.Company)))||(decide (p0.Day<0)))||(decide (36524<p0.Day)))||(decide (p0.Quantity<0)))||(decide (1000000000<p0.Quantity)))||(decide (p0.Value<0)))||(decide (1000000000000<p0.Value)))||(decide (p0.Granted<0)))||(decide (p0.Quantity<p0.Granted))) (some (2:Int)) (some (0:Int)))
def fC (p0:Zg) (p1:Zg):Option (Zg×Bool):=Option.bind (cond (decide ((IntKind.u64.wrap (p0.Lo+p1.Lo))<p0.Lo)) (lb ((IntKind.u64.wrap ((IntKind.u64.wrap (p0.Hi+p1.Hi))+1))) (fun w8=>some (w8,((decide ((IntKind.u64.wrap (p0.Hi+p1.Hi))<p0.Hi))||(w8 == 0))))) (some ((IntKind.u64.wrap (p0.Hi+p1.Hi)),(decide ((IntKind.u64.wrap (p0.Hi+p1.Hi))<p0.Hi))))) (fun (v4,v5)=>some ((⟨v4,(IntKind.u64.wrap (p0.Lo+p1.Lo))⟩:Zg),v5))
def i7 (p0:Zg) (p1:Int):Option (Zg×Int):=(aV (S:=Int×Int×Int×Int) (T:=(Int×Int×Int)) (fun (v4,v5,v6,v7)=>cond (decide (0≤v5)) (((nH (ec .i64 v5 63)).bind fun u18=>lb ((ec .u64 (cw .u64 p0.Lo (ec .i64 v5 63)) 1)) (fun w19=>Option.bind (cond (decide (63<v5)) ((nH (IntKind.i64.wrap (v5 - 64))).bind fun u23=>lb ((ec .u64 (cw .u64 p0.Hi (IntKind.i64.wrap (v5 - 64))) 1)) (fun w24=>some w24)) (some w19)) (fun v20=>(fC (⟨v6,v7⟩:Zg) (⟨v6,v7⟩:Zg)).bind fun x25=>cond (((cw .u64 v4 63) == 1)||(decide (p1≤(qG .u64 (eR .u64 v4 1) v20)))) (lb ((IntKind.u64.wrap ((qG .u64 (eR .u64 v4 1) v20) - p1))) (fun w27=>some (w27,x25.1.Hi,(qG .u64 x25.1.Lo 1)))) (some ((qG .u64 (eR .u64 v4 1) v20),x25.1.Hi,x25.1.Lo))))).bind fun (v14,v15,v16)=>some (.inl (v14,(IntKind.i64.wrap (v5 - 1)),v15,v16))) (some (.inr (v4,v6,v7)))) FUEL (0,127,0,0)).bind fun (v8,v9,v10)=>some ((⟨v9,v10⟩:Zg),v8)
def jr (p0:Int) (p1:Int):Option Zg:=(aV (S:=Int×Int×Int) (T:=(Int×Int)) (fun (v3,v4,v5)=>cond (decide (0≤v3)) (((fC (⟨v4,v5⟩:Zg) (⟨v4,v5⟩:Zg)).bind fun x14=>(nH v3).bind fun u15=>cond ((ec .u64 (cw .u64 p1 v3) 1) == 1) ((fC x14.1 (⟨0,p0⟩:Zg)).bind fun x17=>some (x17.1.Hi,x17.1.Lo)) (some (x14.1.Hi,x14.1.Lo))).bind fun (v11,v12)=>some (.inl ((IntKind.i64.wrap (v3 - 1)),v11,v12))) (some (.inr (v4,v5)))) FUEL (63,0,0)).bind fun (v6,v7)=>some (⟨v6,v7⟩:Zg)
def kY (p0:Int) (p1:(List Int)):Option ((List Int)×Int):=cond (decide (1000<(p1.length:Int))) (some ([],(8:Int))) ((aV (S:=Bool×Int) (T:=(Bool)) (fun (v2,v3)=>cond (decide (v3<(p1.length:Int))) ((gd (!v2) (idx p1 v3)).bind fun m8=>(gd (!(v2||(decide (m8<0)))) (idx p1 v3)).bind fun m9=>some (.inl (((v2||(decide (m8<0)))||(decide (1000000000000<m9))),(IntKind.i64.wrap (v3+1))))) (some (.inr v2))) FUEL (((decide (p0<0))||(decide (1000000000000<p0))),0)).bind fun v4=>cond v4 (some ([],(2:Int))) (cond (((p1.length:Int) == 0)&&(decide (0<p0))) (some ([],(7:Int))) ((aV (S:=Int×Int) (T:=(Int)) (fun (v12,v13)=>cond (decide (v13<(p1.length:Int))) ((idx p1 v13).bind fun m18=>some (.inl ((IntKind.i64.wrap (v12+m18)),(IntKind.i64.wrap (v13+1))))) (some (.inr v12))) FUEL (0,0)).bind fun v14=>(mk 8 (0:Int) (p1.length:Int)).bind fun l19=>(mk 8 (0:Int) (p1.length:Int)).bind fun l22=>(aV (S:=(List Int)×(List Int)×Int×Int) (T:=((List Int)×(List Int)×Int)) (fun (l26,l28,v29,v30)=>cond (decide (v30<(p1.length:Int))) ((idx p1 v30).bind fun m39=>Option.bind (cond (v14 == 0) (some (1,(p1.length:Int))) (some (m39,v14))) (fun (v42,v43)=>(jr (IntKind.u64.wrap p0) (IntKind.u64.wrap v42)).bind fun x46=>(i7 x46 (IntKind.u64.wrap v43)).bind fun x47=>(idx l26 v30).bind fun m49=>(idx l28 v30).bind fun m51=>(idx (l26.set v30.toNat (IntKind.i64.wrap x47.1.Lo)) v30).bind fun m53=>some (.inl ((l26.set v30.toNat (IntKind.i64.wrap x47.1.Lo)),(l28.set v30.toNat (IntKind.i64.wrap x47.2)),(IntKind.i64.wrap (v29 - m53)),(IntKind.i64.wrap (v30+1)))))) (some (.inr (l26,l28,v29)))) FUEL (l19,l22,p0,0)).bind fun (l32,l34,v35)=>(aV (S:=(List Int)×(List Int)×Int) (T:=((List Int))) (fun (l55,l57,v58)=>cond (decide (0<v58)) ((aV (S:=Int×Int) (T:=(Int)) (fun (v64,v65)=>cond (decide (v65<((l22.length:Nat):Int))) (((idx l57 v65).bind fun m76=>(idx l57 v64).bind fun m77=>cond (decide (m77<m76)) (some v65) (some v64)).bind fun v74=>some (.inl (v74,(IntKind.i64.wrap (v65+1))))) (some (.inr v64))) FUEL (0,1)).bind fun v68=>(idx l55 v68).bind fun m79=>(idx l55 v68).bind fun m80=>(idx l57 v68).bind fun m82=>some (.inl ((l55.set v68.toNat (IntKind.i64.wrap (m79+1))),(l57.set v68.toNat (-1)),(IntKind.i64.wrap (v58 - 1))))) (some (.inr l55))) FUEL (l32,l34,v35)).bind fun l60=>some (l60,(0:Int)))))
def nQ (p0:Zb) (p1:Int):Option Bool:=some (((decide (p0.From≤p1))&&(decide (p1<p0.To)))||(((decide (0≤p0.Registered))&&(decide (p0.Registered≤p1)))&&(decide (p1<p0.From))))
def j7 (p0:ByteArray) (p1:ByteArray):Option Bool:=(gd (decide ((p1.size:Int)≤(p0.size:Int))) (mn p0 0 (p1.size:Int))).bind fun s1=>some ((decide ((p1.size:Int)≤(p0.size:Int)))&&(decide (s1=p1)))
def qd (p0:(List ByteArray)) (p1:ByteArray):Option Bool:=(aV (S:=Int) (T:=(Unit)⊕(_)) (fun v1=>cond (decide (v1<(p0.length:Int))) ((idx p0 v1).bind fun m5=>cond (decide (m5=p1)) (some (.inr (.inr true))) (some (.inl (IntKind.i64.wrap (v1+1))))) (some (.inr (.inl ())))) FUEL 0).bind fun q=>match q with | .inl _=>some false | .inr e=>some e
def i9 (p0:Zb) (p1:ByteArray) (p2:ByteArray) (p3:Int) (p4:Int):Option Bool:=(nQ p0 p4).bind fun x2=>(gd x2 (j7 p1 p0.Prefix)).bind fun x3=>(gd ((x2&&x3)&&(!((p0.Origins.length:Int) == 0))) (qd p0.Origins p2)).bind fun x4=>some (((x2&&x3)&&(((p0.Origins.length:Int) == 0)||x4))&&((p0.Company == 0)||(p0.Company == p3)))
def gM (p0:Zb):Option Int:=Option.bind (cond (decide (0<(p0.Origins.length:Int))) (some (p0.Origins.length:Int)) (some 21)) (fun v2=>Option.bind (cond (p0.Company != 0) (some 1) (some 0)) (fun v5=>lb ((IntKind.i64.wrap ((IntKind.i64.wrap ((IntKind.i64.wrap ((IntKind.i64.wrap ((IntKind.i64.wrap ((IntKind.i64.wrap ((IntKind.i64.wrap ((p0.Prefix.size:Int)*2))+v5))*100))+50)) - v2))*10000000))+p0.ID))) (fun w8=>some w8)))
def jM (p0:(List Zb)) (p1:Int) (p2:ByteArray) (p3:ByteArray) (p4:Int) (p5:Int):Option (Zb×Bool):=(aV (S:=Int×Int) (T:=(Int)) (fun (v2,v3)=>cond (decide (v3<(p0.length:Int))) (((idx p0 v3).bind fun m10=>(gd (m10.Kind == p1) (idx p0 v3)).bind fun m11=>(gd (m10.Kind == p1) (i9 m11 p2 p3 p4 p5)).bind fun x12=>(gd (((m10.Kind == p1)&&x12)&&(!(decide (v2<0)))) (idx p0 v3)).bind fun m13=>(gd (((m10.Kind == p1)&&x12)&&(!(decide (v2<0)))) (idx p0 v2)).bind fun m14=>(gd (((m10.Kind == p1)&&x12)&&(!(decide (v2<0)))) (gM m13)).bind fun x15=>(gd (((m10.Kind == p1)&&x12)&&(!(decide (v2<0)))) (gM m14)).bind fun x16=>cond (((m10.Kind == p1)&&x12)&&((decide (v2<0))||(decide (x16<x15)))) (some v3) (some v2)).bind fun v8=>some (.inl (v8,(IntKind.i64.wrap (v3+1))))) (some (.inr v2))) FUEL ((-1),0)).bind fun v4=>cond (decide (v4<0)) (some ((⟨0,0,ByteArray.empty,[],0,0,0,0,(⟨0,0,0,false,0,false,0⟩:Zl)⟩:Zb),false)) ((idx p0 v4).bind fun m19=>some (m19,true))
def fS (p0:Int) (p1:Int) (p2:Int):Option Zg:=(jr (IntKind.u64.wrap ((IntKind.u64.wrap p0)*(IntKind.u64.wrap p1))) (IntKind.u64.wrap p2)).bind fun x2=>some x2
def iq (p0:Zg) (p1:Zg):Option Bool:=some ((decide (p0.Hi<p1.Hi))||((p0.Hi == p1.Hi)&&(decide (p0.Lo<p1.Lo))))
def nC (p0:Zg) (p1:Int) (p2:Int):Option (Int×Int):=cond (((p1 == 0)||(decide (p2<0)))||(decide (3<p2))) (some ((0:Int),(2:Int))) ((i7 p0 p1).bind fun x3=>Option.bind (cond (p2 == 1) (some (decide (0<x3.2))) (cond (p2 == 2) (some (decide ((IntKind.u64.wrap (p1 - x3.2))≤x3.2))) (cond (p2 == 3) (some ((decide ((IntKind.u64.wrap (p1 - x3.2))<x3.2))||((x3.2 == (IntKind.u64.wrap (p1 - x3.2)))&&((ec .u64 x3.1.Lo 1) == 1)))) (some false)))) (fun v5=>Option.bind (cond v5 ((fC x3.1 (⟨0,1⟩:Zg)).bind fun x14=>some (x14.1.Hi,x14.1.Lo)) (some (x3.1.Hi,x3.1.Lo))) (fun (v10,v11)=>cond (decide (0<v10)) (some ((0:Int),(3:Int))) (some (v11,(0:Int))))))
def eH (p0:Zl) (p1:Int) (p2:Int):Option (Int×Int):=(mw p0).bind fun x2=>cond (x2 != 0) (some ((0:Int),x2)) ((jL p1 1000000000000).bind fun x4=>(gd (!(!x4)) (jL p2 1000000000)).bind fun x5=>cond ((!x4)||(!x5)) (some ((0:Int),(2:Int))) ((fS p0.Rate p1 (dt p0.Per 1)).bind fun x7=>(jr (IntKind.u64.wrap ((IntKind.u64.wrap p0.Amount)*(IntKind.u64.wrap p2))) 1000000).bind fun x8=>(fC x7 x8).bind fun x9=>(gd p0.HasMost (fS p0.Most p1 (dt p0.Per 1))).bind fun x11=>(gd p0.HasMost (iq x11 x9.1)).bind fun x12=>Option.bind (cond (p0.HasMost&&x12) ((fS p0.Most p1 (dt p0.Per 1)).bind fun x17=>some (x17.Hi,x17.Lo)) (some (x9.1.Hi,x9.1.Lo))) (fun (v13,v14)=>(gd p0.HasLeast (fS p0.Least p1 (dt p0.Per 1))).bind fun x18=>(gd p0.HasLeast (iq (⟨v13,v14⟩:Zg) x18)).bind fun x19=>Option.bind (cond (p0.HasLeast&&x19) ((fS p0.Least p1 (dt p0.Per 1)).bind fun x24=>some (x24.Hi,x24.Lo)) (some (v13,v14))) (fun (v20,v21)=>(nC (⟨v20,v21⟩:Zg) (IntKind.u64.wrap ((IntKind.u64.wrap (dt p0.Per 1))*1000000)) 2).bind fun x25=>cond ((x25.2 != 0)||(decide (1000000000000<x25.1))) (some ((0:Int),(3:Int))) (some ((IntKind.i64.wrap x25.1),(0:Int)))))))
def my (p0:(List Zb)) (p1:Zj):Option (Zq×Int):=(kG p0).bind fun x3=>cond (x3 != 0) (some ((⟨[],0⟩:Zq),x3)) ((kH p1).bind fun x5=>cond (x5 != 0) (some ((⟨[],0⟩:Zq),x5)) (Option.bind (cond (decide (0<p1.Quantity)) ((kY p1.Value [p1.Granted,(IntKind.i64.wrap (p1.Quantity - p1.Granted))]).bind fun x14=>some x14.1) (some [0,p1.Value])) (fun l11=>(jM p0 1 p1.Code p1.Origin p1.Company p1.Day).bind fun x15=>cond (!x15.2) (some ((⟨[],0⟩:Zq),(7:Int))) ((aV (S:=Bool×Int×(List Zd)) (T:=(Bool×(List Zd))) (fun (v19,v20,l22)=>cond (decide (v20<2)) (((idx [p1.Granted,(IntKind.i64.wrap (p1.Quantity - p1.Granted))] v20).bind fun m40=>cond ((m40 == 0)&&((v20 == 0)||(decide (0<p1.Quantity)))) (some (v19,l22)) ((aV (S:=Bool×Int×Int×Int×Int×Int×Int) (T:=(Bool×Int×Int×Int×Int×Int)) (fun (v43,v44,v45,v46,v47,v48,v49)=>cond (decide (v44≤4)) (((jM p0 v44 p1.Code p1.Origin p1.Company p1.Day).bind fun x68=>cond (((!x68.2)||((v44 == 3)&&(!p1.Proof)))||((v44 == 4)&&(v20 == 1))) (some (v43,v45,v46,v47,v48,v49)) ((idx l11 v20).bind fun m71=>(idx [p1.Granted,(IntKind.i64.wrap (p1.Quantity - p1.Granted))] v20).bind fun m72=>(eH x68.1.Duty m71 m72).bind fun x73=>cond ((v44 == 1)||(decide (x73.1<v49))) ((idx [p1.Granted,(IntKind.i64.wrap (p1.Quantity - p1.Granted))] v20).bind fun m75=>(idx l11 v20).bind fun m76=>some ((v43||(x73.2 != 0)),v44,x68.1.ID,m75,m76,x73.1)) (some ((v43||(x73.2 != 0)),v45,v46,v47,v48,v49)))).bind fun (v60,v62,v63,v64,v65,v66)=>some (.inl (v60,(IntKind.i64.wrap (v44+1)),v62,v63,v64,v65,v66))) (some (.inr (v43,v45,v46,v47,v48,v49)))) FUEL (v19,1,0,0,0,0,0)).bind fun (v50,v52,v53,v54,v55,v56)=>(app 40 l22 [(⟨v52,v53,v54,v55,v56⟩:Zd)]).bind fun l79=>some (v50,l79))).bind fun (v34,l38)=>some (.inl (v34,(IntKind.i64.wrap (v20+1)),l38))) (some (.inr (v19,l22)))) FUEL (false,0,([]:List Zd))).bind fun (v25,l29)=>(aV (S:=Bool×Int×(List Zd)) (T:=(Bool×(List Zd))) (fun (v83,v84,l86)=>cond (decide (v84≤6)) (((jM p0 v84 p1.Code p1.Origin p1.Company p1.Day).bind fun x103=>cond x103.2 ((eH x103.1.Duty p1.Value p1.Quantity).bind fun x106=>(app 40 l86 [(⟨v84,x103.1.ID,p1.Quantity,p1.Value,x106.1⟩:Zd)]).bind fun l109=>some ((v83||(x106.2 != 0)),l109)) (some (v83,l86))).bind fun (v97,l101)=>some (.inl (v97,(IntKind.i64.wrap (v84+1)),l101))) (some (.inr (v83,l86)))) FUEL (v25,5,l29)).bind fun (v89,l93)=>(aV (S:=Int×Int) (T:=(Int)) (fun (v113,v114)=>cond (decide (v113<((l93.length:Nat):Int))) ((idx l93 v113).bind fun m120=>some (.inl ((IntKind.i64.wrap (v113+1)),(IntKind.i64.wrap (v114+m120.Amount))))) (some (.inr v114))) FUEL (0,0)).bind fun v116=>cond (v89||(decide (1000000000000<v116))) (some ((⟨[],0⟩:Zq),(3:Int))) (some ((⟨l93,v116⟩:Zq),(0:Int)))))))
def qL (p0:(List Zb)) (p1:Zj):Option (Int×Int):=(my p0 p1).bind fun x2=>some (x2.1.Total,x2.2)
end SX
namespace SX
open Go
theorem gT {S T:Type} {body:S→Option (S⊕T)} (P:S→Prop) (μ:S→Nat) (Q:T→Prop) (step:∀ s,P s→(∃ s',body s=some (.inl s')∧P s'∧μ s'<μ s)∨∃ t,body s=some (.inr t)∧Q t):∀ (N:Nat) (s:S),P s→μ s<N→∃ t,aV body N s=some t∧Q t:=by
 intro N
 induction N with
 | zero=>intro s _ h;exact absurd h (Nat.not_lt_zero _)
 | succ N ih =>
  intro s hp hm
  rw [fN]
  rcases step s hp with ⟨s',h1,h2,h3⟩ | ⟨t,h1,h2⟩
  ·rw [h1];exact ih s' h2 (by omega)
  rw [h1];exact ⟨t,rfl,h2⟩
def Y {α:Type} (x:Option α) (P:α→Prop):Prop:=∃ a,x=some a∧P a
section
variable {α β S T:Type} {x y:Option α} {P P':α→Prop} {Q:β→Prop} {f:α→Option β} {a:α} {c:Bool}
theorem Y.bind (h:Y x P) (k:∀ a,P a→Y (f a) Q):Y (x.bind f) Q:=by
 obtain ⟨a,h1,h2⟩:=h;rw [h1];exact k a h2
theorem Y.ret (h:P a):Y (some a) P:=⟨a,rfl,h⟩
theorem Y.mono (h:Y x P) (k:∀ a,P a→P' a):Y x P':=by obtain ⟨a,h1,h2⟩:=h;exact ⟨a,h1,k a h2⟩
theorem Y.cond (h:c=true→Y x P) (k:c=false→Y y P):Y (cond c x y) P:=by cases c;exact k rfl;exact h rfl
theorem Y.eq {r:α} (h:x=some r) (k:Y (f r) Q):Y (x.bind f) Q:=by rw [h];exact k
theorem Y.loop {body:S→Option (S⊕T)} {R:T→Prop} {s:S} (I:S→Prop) (μ:S→Nat) (h0:I s) (hm:μ s≤1267650600228229401496703205000) (step:∀ s,I s→Y (body s) (fun o=>match o with | .inl s'=>I s'∧μ s'<μ s | .inr t=>R t)):Y (aV body FUEL s) R:=by
 obtain ⟨t,h1,h2⟩:=gT (body:=body) I μ R (fun s hs=>by
  obtain ⟨o,k1,k2⟩:=step s hs
  cases o with
  | inl s'=>exact .inl ⟨s',k1,k2⟩
  | inr t=>exact .inr ⟨t,k1,k2⟩) FUEL s h0 (gH hm)
 exact ⟨t,h1,h2⟩
theorem Y.idx {xs:List α} {i:Int} {n:Nat} (h:i=(n:Int)) (hn:n<xs.length) (k:Y (f xs[n]) Q):Y ((idx xs i).bind f) Q:=by subst h;rw [bp hn];exact k
theorem Y.is {v:α} (h:Y x (fun a=>a=v)):x=some v:=by obtain ⟨a,h1,rfl⟩:=h;exact h1
end
theorem t6 (a n:Int) (h1:1≤n) (h2:n≤4611686018427387904):∃ r,iy a n=some r∧0≤r∧r<n:=by
 have hl:=Int.tmod_lt_of_pos a (show 0<n by omega)
 have hl2:=Int.tmod_lt_of_pos (-a) (show 0<n by omega)
 rw [Int.neg_tmod] at hl2
 unfold iy nz lb
 rw [if_neg (by omega),bw (by omega) (by omega)]
 exact ⟨_,rfl,Int.tmod_nonneg _ (by omega),Int.tmod_lt_of_pos _ (by omega)⟩
def SOK (p:Ze):Prop:=0≤p.I∧p.I≤p.L.length∧p.L.length≤1000000000000000
theorem dD {p:Ze} (hp:SOK p) (n:Int) (h1:1≤n) (h2:n≤4611686018427387904):∃ r q,an p n=some (r,q)∧0≤r∧r<n∧SOK q:=by
 obtain ⟨a1,a2,a3⟩:=hp
 unfold an
 by_cases h:(p.L.length:Int)≤p.I
 ·rw [det h];exact ⟨_,_,rfl,by omega,by omega,a1,a2,a3⟩
 rw [bH h,bw (r:=p.I+1) (by omega) (by omega),bw (by omega) (by omega)]
 simp only [dn]
 have e:idx p.L (p.I+1 - 1)=some (p.L[p.I.toNat]'(by omega)):=by
  unfold idx;rw [if_pos (by omega)]
  have:(p.I+1 - 1).toNat=p.I.toNat:=by omega
  rw [this];exact List.getElem?_eq_getElem _
 rw [bo e]
 obtain ⟨r,h3,h4,h5⟩:=t6 (p.L[p.I.toNat]'(by omega)) n h1 h2
 rw [bo h3]
 exact ⟨_,_,rfl,h4,h5,by simp only;omega,by simp only;omega,a3⟩
theorem Cy (l:List Int) (n:Int) (h:0≤n) (h2:n≤1000):∃ m,kA l n=some m∧(m.length:Int)≤n:=by
 unfold kA
 by_cases h1:n<(l.length:Int)
 ·rw [det h1]
  have e:sub l 0 n=some ((l.take n.toNat).drop 0):=by unfold sub;rw [if_pos (by omega)];rfl
  simp only [cQ];rw [bo e];exact ⟨_,rfl,by simp;omega⟩
 rw [bH h1];exact ⟨_,rfl,by omega⟩
theorem js {p:Ze} (hp:SOK p) (n:Int) (h1:1≤n) (h2:n≤4611686018427387904):Y (an p n) (fun r=>0≤r.1∧r.1<n∧SOK r.2):=by
 obtain ⟨r,q,h3,h4,h5,h6⟩:=dD hp n h1 h2;exact ⟨(r,q),h3,h4,h5,h6⟩
theorem cut_Y (l:List Int) (n:Int) (h:0≤n) (h2:n≤1000):Y (kA l n) (fun m=>SOK ⟨m,0⟩):=by
 obtain ⟨m,h3,h4⟩:=Cy l n h h2
 exact ⟨m,h3,by dsimp only;omega,by dsimp only;omega,by dsimp only;omega⟩
def o8 (y:Int):Bool:=(Int.tmod y 4 == 0)&&((Int.tmod y 100 != 0)||(Int.tmod y 400 == 0))
def qe (y:Int):Int:=cond (o8 y) 366 365
def ia (y:Int) (m:Nat):Int:=cond (m == 1&&o8 y) 29 (jn.getD m 0)
def yb:Nat→Int
 | 0=>0
 | n+1=>yb n+qe (2000+n)
def mb (y:Int):Nat→Int
 | 0=>0
 | m+1=>mb y m+ia y m
theorem mz (y:Int):365≤qe y∧qe y≤366:=by unfold qe;cases o8 y <;> simp
theorem gU (y:Int) (m:Nat) (h:m≤11):28≤ia y m∧ia y m≤31:=by
 unfold ia
 cases o8 y <;> (rcases (by omega:m=0∨m=1∨m=2∨m=3∨m=4∨m=5∨m=6∨m=7∨m=8∨m=9∨m=10∨m=11) with h | h | h | h | h | h | h | h | h | h | h | h <;> subst h <;> decide)
theorem rt (y:Int):mb y 12=qe y:=by
 unfold qe
 simp only [mb,ia]
 cases o8 y <;> decide
theorem ru (y:Int):∀ {m k:Nat},m≤k→k≤12→mb y m≤mb y k:=by
 intro m k h hk
 induction k with
 | zero =>
  have:m=0:=by omega
  subst this;exact Int.le_refl _
 | succ k ih =>
  rcases Nat.lt_or_ge m (k+1) with h1 | h1
  ·have:=ih (by omega) (by omega);have:=gU y k (by omega);simp only [mb];omega
  have:m=k+1:=by omega
  subst this;exact Int.le_refl _
theorem t7 (y:Int) {m:Nat} (h:m≤12):0≤mb y m:=by have:=ru y (Nat.zero_le m) h;simpa [mb] using this
theorem zu (y:Int) {m:Nat} (h:m≤12):mb y m≤366:=by have:=ru y h (Nat.le_refl _);have:=mz y;rw [rt] at *;omega
theorem rx {m k:Nat} (h:m≤k):yb m≤yb k:=by
 induction k with
 | zero =>
  have:m=0:=by omega
  subst this;exact Int.le_refl _
 | succ k ih =>
  rcases Nat.lt_or_ge m (k+1) with h1 | h1
  ·have:=ih (by omega);have:=mz (2000+k);simp only [yb];omega
  have:m=k+1:=by omega
  subst this;exact Int.le_refl _
theorem yp:yb 100=36525:=by kernel_rfl
theorem yb_3:yb 3=1096:=by kernel_rfl
theorem t8 (n:Nat):0≤yb n:=by have:=rx (Nat.zero_le n);simpa [yb] using this
theorem zw {n:Nat} (h:n≤100):yb n≤36525:=by have:=rx h;rw [yp] at this;exact this
structure Dec (day:Int) (n m:Nat) (d:Int):Prop where
 n99:n≤99
 m11:m≤11
 d0:0≤d
 dl:d<ia (2000+n) m
 sum:day=yb n+mb (2000+n) m+d
theorem Dec.uniq {day:Int} {n m n' m':Nat} {d d':Int} (h:Dec day n m d) (g:Dec day n' m' d'):n=n'∧m=m'∧d=d':=by
 have key:∀ {n m n' m':Nat} {d d':Int},Dec day n m d→Dec day n' m' d'→¬ n<n':=fun {n m n' m' d d'} h g hlt=>by
  have h1:=rx (show n+1≤n' from hlt)
  have h2:=ru (2000+(n:Int)) (show m+1≤12 by have:=h.m11;omega) (Nat.le_refl _)
  rw [rt] at h2
  have h3:=t7 (2000+(n':Int)) (show m'≤12 by have:=g.m11;omega)
  have:=h.dl;have:=h.sum;have:=g.sum;have:=g.d0
  simp only [yb,mb] at h1 h2;omega
 have hn:n=n':=by have:=key h g;have:=key g h;omega
 subst hn
 have key2:∀ {m m':Nat} {d d':Int},Dec day n m d→Dec day n m' d'→¬ m<m':=fun {m m' d d'} h g hlt=>by
  have h1:=ru (2000+(n:Int)) (show m+1≤m' from hlt) (by have:=g.m11;omega)
  have:=h.dl;have:=h.sum;have:=g.sum;have:=g.d0
  simp only [mb] at h1;omega
 have hm:m=m':=by have:=key2 h g;have:=key2 g h;omega
 subst hm
 have:=h.sum;have:=g.sum
 exact ⟨rfl,rfl,by omega⟩
theorem zx (y:Int):cE y=some (qe y):=by
 unfold cE gu qe o8
 simp only [cJ]
 cases ((Int.tmod y 4 == 0)&&((Int.tmod y 100 != 0)||(Int.tmod y 400 == 0))) <;> rfl
theorem o9 (y:Int) (m:Nat) (h:m≤11):bN y ((m:Int)+1)=some (ia y m):=by
 unfold bN gu ia o8
 have e1:(((m:Int)+1) == 2)=(m == 1):=by rw [Bool.eq_iff_iff];simp;omega
 have e2:idx jn (IntKind.i64.wrap ((m:Int)+1 - 1))=some (jn.getD m 0):=by
  rw [bw (by omega) (by omega),show (m:Int)+1 - 1=(m:Int) by omega,bp (show m<jn.length by unfold jn;simp;omega),mr]
 rw [e1,e2]
 cases (m == 1) <;> cases ((Int.tmod y 4 == 0)&&((Int.tmod y 100 != 0)||(Int.tmod y 400 == 0))) <;> rfl
theorem of_Y {day:Int} (h0:0≤day) (h1:day≤36524):Y (jG day) (fun r=>∃ (n m:Nat) (d:Int),r=(⟨2000+(n:Int),(m:Int)+1,d+1⟩,0)∧Dec day n m d):=by
 unfold jG iU
 rw [det h0,det h1]
 simp only [cJ,Bool.and_self,Bool.not_true,dn]
 refine Y.bind (P:=fun s=>∃ n:Nat,n≤99∧s.2=2000+(n:Int)∧s.1+yb n=day∧0≤s.1∧s.1<qe (2000+n)) ?_ ?_
 ·refine Y.loop (fun s:Int×Int=>∃ n:Nat,n≤99∧s.2=2000+(n:Int)∧s.1+yb n=day∧0≤s.1) (fun s=>(s.1).toNat) ⟨0,by omega,rfl,by simp [yb],h0⟩ (by dsimp only;omega) ?_
  rintro ⟨a,b⟩ ⟨n,hn,hb,hs,ha⟩
  dsimp only at hb hs ha ⊢
  subst hb
  simp only [zx,cJ]
  have hy:=mz (2000+(n:Int))
  refine Y.cond (fun hc=>?_) (fun hc=>Y.ret ⟨n,hn,rfl,hs,ha,by have:=of_decide_eq_false hc;omega⟩)
  have hc:=of_decide_eq_true hc
  have hn2:n+1≤99:=by
   rcases Nat.lt_or_ge n 99 with h | h
   ·exact h
   have:n=99:=by omega
   subst this
   have e:yb 100=yb 99+qe (2000+(99:Nat)):=rfl
   rw [yp] at e;omega
  have:=t8 n
  refine Y.ret ⟨⟨n+1,hn2,?_,?_,?_⟩,?_⟩
  ·show IntKind.i64.wrap _=_;rw [bw (by omega) (by omega)];omega
  ·show IntKind.i64.wrap _+_=_;rw [bw (by omega) (by omega)];simp only [yb];omega
  ·show 0≤IntKind.i64.wrap _;rw [bw (by omega) (by omega)];omega
  show (IntKind.i64.wrap _).toNat<_;rw [bw (by omega) (by omega)];omega
 rintro ⟨a,b⟩ ⟨n,hn,hb,hs,ha,hl⟩
 dsimp only at hb hs ha hl ⊢
 subst hb
 refine Y.bind (P:=fun s=>∃ m:Nat,m≤11∧s.2=(m:Int)+1∧s.1+mb (2000+n) m=a∧0≤s.1∧s.1<ia (2000+n) m) ?_ ?_
 ·refine Y.loop (fun s:Int×Int=>∃ m:Nat,m≤11∧s.2=(m:Int)+1∧s.1+mb (2000+n) m=a∧0≤s.1) (fun s=>(s.1).toNat) ⟨0,by omega,rfl,by simp [mb],ha⟩ (by dsimp only;have:=mz (2000+(n:Int));omega) ?_
  rintro ⟨u,v⟩ ⟨m,hm,hv,hu,h2⟩
  dsimp only at hv hu h2 ⊢
  subst hv
  simp only [o9 _ m hm,cJ]
  have hy:=gU (2000+(n:Int)) m hm
  have:=mz (2000+(n:Int))
  refine Y.cond (fun hc=>?_) (fun hc=>Y.ret ⟨m,hm,rfl,hu,h2,by have:=of_decide_eq_false hc;omega⟩)
  have hc:=of_decide_eq_true hc
  have hm2:m+1≤11:=by
   rcases Nat.lt_or_ge m 11 with h | h
   ·exact h
   have:m=11:=by omega
   subst this
   have e:mb (2000+(n:Int)) 12=mb (2000+(n:Int)) 11+ia (2000+(n:Int)) 11:=rfl
   rw [rt] at e;omega
  have:=t7 (2000+(n:Int)) (show m≤12 by omega)
  refine Y.ret ⟨⟨m+1,hm2,?_,?_,?_⟩,?_⟩
  ·show IntKind.i64.wrap _=_;rw [bw (by omega) (by omega)];omega
  ·show IntKind.i64.wrap _+_=_;rw [bw (by omega) (by omega)];simp only [mb];omega
  ·show 0≤IntKind.i64.wrap _;rw [bw (by omega) (by omega)];omega
  show (IntKind.i64.wrap _).toNat<_;rw [bw (by omega) (by omega)];omega
 rintro ⟨u,v⟩ ⟨m,hm,hv,hu,h2,h3⟩
 dsimp only at hv hu h2 h3 ⊢
 subst hv
 have:=gU (2000+(n:Int)) m hm
 exact Y.ret ⟨n,m,u,by rw [bw (by omega) (by omega)],hn,hm,h2,h3,by omega⟩
theorem AL {n m:Nat} {dom:Int} (hn:n≤99) (hm:m≤11) (h1:1≤dom) (h2:dom≤ia (2000+n) m):gc ⟨2000+(n:Int),(m:Int)+1,dom⟩=some (dom - 1+yb n+mb (2000+n) m,0):=by
 have hl:=gU (2000+(n:Int)) m hm
 unfold gc
 dsimp only
 rw [bH (by omega:¬ 2000+(n:Int)<2000),bH (by omega:¬ (2100:Int)≤2000+(n:Int)),bH (by omega:¬ (m:Int)+1<1),bH (by omega:¬ (12:Int)<(m:Int)+1),bH (by omega:¬ dom<1)]
 simp only [Bool.or_self,dn,Bool.not_false,Bool.false_or,de,o9 _ m hm,cJ]
 rw [bH (by omega:¬ ia (2000+(n:Int)) m<dom),dn,bw (r:=dom - 1) (by omega) (by omega)]
 have hyb:=zw (show n≤100 by omega)
 have e1:=Y.is (Y.loop (body:=fun (v5,v6)=>cond (decide (v6<2000+(n:Int))) (Option.bind (cE v6) (fun x11=>some (.inl ((IntKind.i64.wrap (v5+x11)),(IntKind.i64.wrap (v6+1)))))) (some (.inr v5))) (R:=fun t=>t=dom - 1+yb n) (s:=(dom - 1,2000)) (fun s:Int×Int=>∃ k:Nat,k≤n∧s=(dom - 1+yb k,2000+(k:Int))) (fun s=>(2000+(n:Int) - s.2).toNat) ⟨0,by omega,by simp [yb]⟩ (by dsimp only;omega) (by
  rintro s ⟨k,hk,rfl⟩
  dsimp only
  simp only [zx,cJ]
  have:=zw (show k≤100 by omega);have:=t8 k;have:=mz (2000+(k:Int))
  refine Y.cond (fun hc=>?_) (fun hc=>Y.ret ?_)
  ·have hc:=of_decide_eq_true hc
   refine Y.ret ⟨⟨k+1,by omega,?_⟩,?_⟩
   ·rw [bw (by omega) (by omega),bw (by omega) (by omega)];simp only [yb];congr 1 <;> omega
   show (2000+(n:Int) - IntKind.i64.wrap _).toNat<_;rw [bw (by omega) (by omega)];omega
  have hc:=of_decide_eq_false hc
  have:k=n:=by omega
  subst this;rfl))
 rw [bo e1]
 have hmb:=zu (2000+(n:Int)) (show m≤12 by omega)
 have e2:=Y.is (Y.loop (body:=fun (v12,v13)=>cond (decide (v13<(m:Int)+1)) (Option.bind (bN (2000+(n:Int)) v13) (fun x18=>some (.inl ((IntKind.i64.wrap (v12+x18)),(IntKind.i64.wrap (v13+1)))))) (some (.inr v12))) (R:=fun t=>t=dom - 1+yb n+mb (2000+n) m) (s:=(dom - 1+yb n,1)) (fun s:Int×Int=>∃ k:Nat,k≤m∧s=(dom - 1+yb n+mb (2000+n) k,(k:Int)+1)) (fun s=>((m:Int)+1 - s.2).toNat) ⟨0,by omega,by simp [mb]⟩ (by dsimp only;omega) (by
  rintro s ⟨k,hk,rfl⟩
  dsimp only
  have:=t8 n;have:=t7 (2000+(n:Int)) (show k≤12 by omega);have:=zu (2000+(n:Int)) (show k≤12 by omega)
  refine Y.cond (fun hc=>?_) (fun hc=>Y.ret ?_)
  ·have hc:=of_decide_eq_true hc
   have:=gU (2000+(n:Int)) k (by omega)
   rw [o9 _ k (by omega),cJ]
   refine Y.ret ⟨⟨k+1,by omega,?_⟩,?_⟩
   ·rw [bw (by omega) (by omega),bw (by omega) (by omega)];simp only [mb];congr 1 <;> omega
   show ((m:Int)+1 - IntKind.i64.wrap _).toNat<_;rw [bw (by omega) (by omega)];omega
  have hc:=of_decide_eq_false hc
  have:k=m:=by omega
  subst this;rfl))
 rw [bo e2]
def qf (n m:Nat) (d:Int):Int×Int:=cond (Nat.ble 97 n) (0,3) (eT (d+1) (ia (2000+(n+3:Nat)) m) - 1+yb (n+3)+mb (2000+(n+3:Nat)) m,0)
theorem Cz {day:Int} {n m:Nat} {d:Int} (h0:0≤day) (h1:day≤36524) (hd:Dec day n m d):dg day 36=some (qf n m d):=by
 obtain ⟨r,e,n',m',d',rfl,hd'⟩:=of_Y h0 h1
 obtain ⟨u1,u2,u3⟩:=hd.uniq hd'
 subst u1 u2 u3
 have hn:=hd.n99;have hm:=hd.m11;have hd0:=hd.d0;have hdl:=hd.dl
 unfold dg qf
 rw [bo e]
 dsimp only
 have w:IntKind.i64.wrap (IntKind.i64.wrap (IntKind.i64.wrap (IntKind.i64.wrap (IntKind.i64.wrap (2000+(n:Int) - 2000)*12)+((m:Int)+1)) - 1)+36)=12*(n:Int)+(m:Int)+36:=by
  rw [bw (r:=2000+(n:Int) - 2000) (by omega) (by omega),bw (r:=(2000+(n:Int) - 2000)*12) (by omega) (by omega),bw (r:=(2000+(n:Int) - 2000)*12+((m:Int)+1)) (by omega) (by omega),bw (r:=(2000+(n:Int) - 2000)*12+((m:Int)+1) - 1) (by omega) (by omega),bw (by omega) (by omega)];omega
 unfold lb
 rw [w]
 have c0:((0:Int) != 0||decide ((36:Int) < -1200)||decide ((1200:Int)<36))=false:=by decide
 dsimp only
 rw [c0,dn,bH (by omega:¬ 12*(n:Int)+(m:Int)+36<0),Bool.false_or]
 rcases Nat.lt_or_ge n 97 with hlt | hge
 ·rw [bH (by omega:¬ (1200:Int)≤12*(n:Int)+(m:Int)+36),dn]
  rw [Int.tdiv_eq_ediv_of_nonneg (by omega),Int.tmod_eq_emod_of_nonneg (by omega)]
  rw [bw (r:=(12*(n:Int)+(m:Int)+36) / 12) (by omega) (by omega),bw (r:=2000+(12*(n:Int)+(m:Int)+36) / 12) (by omega) (by omega),bw (r:=(12*(n:Int)+(m:Int)+36) % 12+1) (by omega) (by omega)]
  have e1:2000+(12*(n:Int)+(m:Int)+36) / 12=2000+((n+3:Nat):Int):=by omega
  have e2:(12*(n:Int)+(m:Int)+36) % 12+1=(m:Int)+1:=by omega
  rw [e1,e2,o9 _ m hm,cJ]
  have hl:=gU (2000+((n+3:Nat):Int)) m hm
  have hle:1≤eT (d+1) (ia (2000+((n+3:Nat):Int)) m)∧eT (d+1) (ia (2000+((n+3:Nat):Int)) m)≤ia (2000+((n+3:Nat):Int)) m:=by unfold eT;split <;> omega
  rw [bo (AL (n:=n+3) (by omega) hm hle.1 hle.2)]
  rw [show Nat.ble 97 n=false by rw [Bool.eq_false_iff];intro h;have:=Nat.le_of_ble_eq_true h;omega]
  rfl
 rw [det (by omega:(1200:Int)≤12*(n:Int)+(m:Int)+36),cQ,Nat.ble_eq_true_of_le hge];rfl
theorem addS_ge {n m:Nat} {d:Int} (hm:m≤11) (hd:0≤d):(qf n m d).2=0→30≤(qf n m d).1:=by
 unfold qf
 cases Nat.ble 97 n
 ·intro _
  simp only [dn]
  have h1:=rx (show 3≤n+3 by omega)
  rw [yb_3] at h1
  have h2:=t7 (2000+((n+3:Nat):Int)) (show m≤12 by omega)
  have h3:=gU (2000+((n+3:Nat):Int)) m hm
  have h4:1≤eT (d+1) (ia (2000+((n+3:Nat):Int)) m):=by unfold eT;split <;> omega
  omega
 intro h;simp at h
section
variable {γ:Type} [Inhabited γ]
theorem tA (e:γ→Value) (D:Array γ) (cur:Array Value) (h:D.size≤cur.size):(Sort.putCells e 0 D cur).toList.take D.size=D.toList.map e:=by
 apply List.ext_getElem
 ·simp [Sort.putCells];omega
 intro i h1 h2
 have h3:i<D.size:=by simpa using h2
 simp [Sort.putCells,h3]
theorem wU {e:γ→Value} {w:World} {b:Nat} {D:Array γ} {cur:Array Value} {T:Nat} {fr:Nat×Nat} (h:w.heap[b]?=some (.cells cur T fr)):(Sort.putRow e w b 0 D).heap[b]?=some (.cells (Sort.putCells e 0 D cur) T fr):=by
 simp [Sort.putRow,Sort.mapBlock,Array.getElem?_modify,h,Sort.onCells]
theorem sI {e:γ→Value} {w:World} {b i:Nat} {D:Array γ} (h:i≠b):(Sort.putRow e w b 0 D).heap[i]?=w.heap[i]?:=by
 simp only [Sort.putRow,Sort.mapBlock,Array.getElem?_modify]
 rw [if_neg (fun e=>h e.symm)]
theorem sJ {β:Base} {l:List Res} {κ:Kr} {b n c T sz m:Nat} {css css':List (List Value)} {os:Array Obj} {e:γ→Value} {D:Array γ} (hi:Zk β (Res.row (some ⟨b,0,none⟩) n c T sz css::l) κ) (hF:D.toList.map e=css'.flatten) (hl:css'.length=n) (hw:∀ cs∈css',cs.length=sz) :
    Zk β (Res.row (some ⟨b,0,none⟩) n c T sz css'::l) ⟨Sort.grow (Sort.putRow e (Sort.ahead κ.w m) b 0 D) os,κ.S⟩∧Kle κ ⟨Sort.grow (Sort.putRow e (Sort.ahead κ.w m) b 0 D) os,κ.S⟩:=by
  have ho:=hi.own _ (List.mem_cons_self)
  obtain ⟨h1,h2,h3,h4,h5,cur,h6,h7,h8⟩:=ho
  have hD:D.size=n*sz:=by
    have:=congrArg List.length hF
    rw [List.length_map,dR hw,hl] at this
    simpa using this
  have hle:D.size≤cur.size:=by rw [hD,h7];exact Nat.mul_le_mul_right _ h4
  have t1:=hi.turn (r':=Res.row (some ⟨b,0,none⟩) n c T sz css') (l1:=[]) (b:=b) (w':=Sort.putRow e (Sort.ahead κ.w m) b 0 D) rfl rfl rfl (fun i hne=>sI hne) (by simp [Sort.putRow,Sort.mapBlock,Sort.ahead])
    ⟨h1,hl,hw,h4,h5,_,wU (w:=Sort.ahead κ.w m) h6,by simpa [Sort.putCells] using h7,by rw [← hD,tA e D cur hle,hF]⟩ rfl rfl rfl (by simp [Sort.putRow,Sort.mapBlock,Sort.ahead])
  have hh:=t1.1.own _ (List.mem_cons_self)
  have hb2:b<(Sort.putRow e (Sort.ahead κ.w m) b 0 D).heap.size:=by
    have:=(t1.1.blk _ (List.mem_cons_self) b rfl).1;exact this
  have hold:∀ i,i<(Sort.putRow e (Sort.ahead κ.w m) b 0 D).heap.size→(Sort.grow (Sort.putRow e (Sort.ahead κ.w m) b 0 D) os).heap[i]?=(Sort.putRow e (Sort.ahead κ.w m) b 0 D).heap[i]?:=fun i h=>by
    simp only [Sort.grow];rw [Array.getElem?_append_left h]
  have hh2:(Res.row (some ⟨b,0,none⟩) n c T sz css').holds (Sort.grow (Sort.putRow e (Sort.ahead κ.w m) b 0 D) os):=by
    have:(Sort.grow (Sort.putRow e (Sort.ahead κ.w m) b 0 D) os).heap[b]?=(Sort.putRow e (Sort.ahead κ.w m) b 0 D).heap[b]?:=hold b hb2
    unfold Res.holds at hh ⊢
    show (Res.row (some ⟨b,0,none⟩) n c T sz css').says (Sort.grow (Sort.putRow e (Sort.ahead κ.w m) b 0 D) os).heap[b]?
    rw [this];exact hh
  obtain ⟨i3,k3⟩:=t1.1.grow (r':=Res.row (some ⟨b,0,none⟩) n c T sz css') (w':=Sort.grow (Sort.putRow e (Sort.ahead κ.w m) b 0 D) os) ⟨rfl,rfl,rfl,by simp [Sort.grow],fun i h _=>hold i h⟩ (.inr (.inl rfl)) hh2 (BH hh2) (Nat.le_refl _)
  exact ⟨i3,t1.2.trans k3⟩
end
theorem qg {α:Type} {lt:α→α→Bool} (l:List α):(fi lt l).length=l.length:=mq.length_eq
theorem le_grow {κ κ':Kr} (h:Le [] κ κ'):∃ q os',κ'.w=Sort.grow (κ.w.drewN q) os':=by
 refine ⟨κ'.w.drawn - κ.w.drawn,κ'.w.heap.extract κ.w.heap.size κ'.w.heap.size,?_⟩
 have hz:=h.kle.size
 have hd:=h.drawn rfl
 have e1:κ'.w.heap=κ.w.heap++κ'.w.heap.extract κ.w.heap.size κ'.w.heap.size:=by
  apply Array.ext_getElem?
  intro i
  rcases Nat.lt_or_ge i κ.w.heap.size with hi | hi
  ·rw [Array.getElem?_append_left hi];exact h.same i hi (by simp)
  rw [Array.getElem?_append_right hi,Array.getElem?_extract]
  split
  ·congr 1;omega
  rw [Array.getElem?_eq_none (by omega)]
 cases hw:κ'.w with
 | mk heap tape drawn os output =>
  have h2:=h.tape;have h3:=h.os;have h4:=h.output
  rw [hw] at e1 h2 h3 h4 hd
  simp only at e1 h2 h3 h4 hd
  simp only [Sort.grow,World.drewN]
  subst h2 h3 h4
  rw [← e1]
  congr 1;omega
theorem ua {γ:Type} [Inhabited γ] (enc:γ→List Value) (k:Nat) (hk:∀ x,(enc x).length=k):∀ L:List γ,(List.range (L.length*k)).map (fun t=>(enc L[t / k]!)[t % k]!)=(L.map enc).flatten
 | []=>by simp
 | x::xs=>by
  have ih:=ua enc k hk xs
  rcases Nat.eq_zero_or_pos k with h0 | h0
  ·subst h0
   have:∀ M:List γ,(M.map enc).flatten=[]:=fun M=>by
    rw [List.flatten_eq_nil_iff];intro l hl;obtain ⟨y,_,rfl⟩:=List.mem_map.1 hl;exact List.eq_nil_of_length_eq_zero (hk y)
   rw [this];simp
  rw [List.length_cons,Nat.add_mul,Nat.one_mul,Nat.add_comm,List.range_add,List.map_append,List.map_cons,List.flatten_cons,← ih,List.map_map]
  congr 1
  ·apply List.ext_getElem
   ·simp [hk]
   intro i h1 h2
   have hi:i<k:=by simpa using h1
   simp [Nat.div_eq_of_lt hi,Nat.mod_eq_of_lt hi,getElem!_pos,h2]
  apply List.map_congr_left
  intro t _
  simp only [Function.comp,Nat.add_div_left _ h0,Nat.add_mod_left]
  rfl
theorem sK {γ:Type} [Inhabited γ] (enc:γ→List Value) (k:Nat) (hk:∀ x,(enc x).length=k) (d:Array γ):(Sort.flatK enc k d).toList.map id=(d.toList.map enc).flatten:=by
 rw [List.map_id,← ua enc k hk]
 simp only [Sort.flatK,Array.toList_map,Array.toList_range,Array.length_toList]
 apply List.map_congr_left
 intro t _
 congr 2
 simp [getElem!_def]
section
variable {α:Type} {enc:α→List PV} {encV:α→List Value}
theorem wV {κ:Kr} (hinv:∀ x ds,Rps κ (enc x) ds→ds=encV x):∀ {xs:List α} {dss:List (List Value)},Rpss κ (xs.map enc) dss→dss=xs.map encV
 | [],_,h=>h.nil_inv
 | x::xs,_,h=>by
  obtain ⟨d,ds,rfl,h1,h2⟩:=h.cons_inv
  rw [wV hinv h2,hinv _ _ h1];rfl
theorem qM {κ:Kr} (hmk:∀ x,Rps κ (enc x) (encV x)):∀ {xs:List α},Rpss κ (xs.map enc) (xs.map encV)
 | []=>.nil
 | x::xs=>.cons (hmk x) (qM hmk)
theorem callSF [Inhabited α] {f g T k:Nat} {ρs:Shelf.Ren} (L:SlLaysF0.n6 Tryz.prog ρs) (hf:ρs.f 6=f) (fOk:FnOk f) (gOk:FnOk g) (aE:∀ w,(isAgg (ρs.t 24)).run Tryz.prog w=.ok true w) (zE:∀ w,(Go.sizeOf (ρs.t 24)).run Tryz.prog w=.ok k w)
    (hk:∀ x,(encV x).length=k) (h1:∀ x,∀ v∈encV x,v.oneCell'=true) (hinv:∀ κ x ds,Rps κ (enc x) ds→ds=encV x) (hmk:∀ κ x,Rps κ (enc x) (encV x)) (cf:α→α→Int) (hO:Sort.SWO (ltOf cf)) (hT:∀ x y,ltOf cf x y=false→ltOf cf y x=false→x=y)
    (hcmp:∀ x y,PF g [.agg (enc x),.agg (enc y)] (pI (cf x y))) {p0:List α} {a:Option Addr} {n c:Nat}:PCall f [.v (.slice a n c),.fn g []] [PRes.row a n c T k (List.map enc p0)] (fun pv ρ'=>pv=.tup []∧ρ'=[PRes.row a n c T k (List.map enc (fi (ltOf cf) p0))]):=fun κ args ρ gk ha hr=>by
  subst hf
  obtain ⟨v,ws,rfl,ha1,ha2⟩:=ha.cons_inv
  obtain ⟨v2,ws2,rfl,ha3,ha4⟩:=ha2.cons_inv
  rw [ha4.nil_inv,ha1.val]
  have hv2:v2=.func (.func g) #[] #[]:=by
    cases ha3 with
    | fn h=>rw [h.nil_inv]
  subst hv2
  obtain ⟨r0,l',rfl,hr1,hr2⟩:=hr.cons_inv
  have:=hr2.nil_inv;subst this
  refine ⟨fOk,fun hi=>?_⟩
  have hn1:∀ l:List α,∀ cs∈l.map encV,cs.length=k:=fun l cs hcs=>by obtain ⟨q,_,rfl⟩:=List.mem_map.1 hcs;exact hk q
  cases hr1 with
  | row hb ho hc =>
    have hd:=wV (hinv κ) hc;subst hd
    have how:=hi.own _ (List.mem_cons_self)
    cases a with
    | none =>
      obtain ⟨rfl,rfl,h3⟩:=how
      have hp:p0=[]:=List.map_eq_nil_iff.1 h3
      subst hp
      refine (AnyF.slices_SortFunc_none L none 0 _ κ.w).mono fun e w' ⟨h1,h2⟩=>?_
      subst h1 h2
      exact ⟨_,_,κ,rfl,rfl,hi,.tup [],_,.tup .nil,.cons (.row hb ho (by exact .nil)) .nil,rfl,rfl⟩
    | some ad =>
      obtain ⟨q1,h2,h3,h4,h5,cur,h6,h7,h8⟩:=how
      obtain ⟨b,off,sp⟩:=ad
      injection q1 with h1a h1b h1c
      subst h1b h1c
      have hblk:b<κ.w.heap.size:=(hi.blk _ (List.mem_cons_self) b rfl).1
      have hn:n=p0.toArray.size:=by rw [← h2];simp
      have hz:(Sort.flatK encV k p0.toArray).size=n*k:=by rw [Sort.size_flatK,← hn]
      have hft:(Sort.flatK encV k p0.toArray).toList=cur.toList.take (n*k):=by
        rw [h8,← sK encV k hk,List.map_id]
      have hH:Sort.HoldsK encV k κ.w b 0 p0.toArray:=by
        intro j hj
        have hj2:j<n*k:=by rw [← hz];exact hj
        have hj3:(Sort.flatK encV k p0.toArray)[j]?=cur[j]?:=by
          rw [← Array.getElem?_toList,hft,List.getElem?_take,if_pos hj2,Array.getElem?_toList]
        constructor
        · simp only [World.cell?,h6,Option.isSome_none,Bool.false_eq_true,if_false,Nat.zero_add]
          rw [← hj3,Array.getElem?_eq_getElem hj,getElem!_pos _ j hj];rfl
        simp [World.frozen?,h6]
      have hcl:CmpLays Tryz.prog g #[] encV k cf b 0 p0.toArray.size κ.w:=fun m os dk hs x y=>by
        obtain ⟨i1,k1⟩:=sJ (m:=m) (os:=os) (e:=id) (D:=Sort.flatK encV k dk) (css':=dk.toList.map encV) hi (sK encV k hk dk) (by rw [List.length_map,Array.length_toList,hs,hn]) (hn1 _)
        have hc2:=hcmp x y ⟨_,κ.S⟩ [.agg (encV x).toArray,.agg (encV y).toArray] (gk.mono k1) (.cons (.agg (h1 x) (hmk _ x)) (.cons (.agg (h1 y) (hmk _ y)) .nil))
        refine (hc2.2 ⟨Le.refl _ _,i1.fin,by simp,by simp,List.Pairwise.nil⟩).mono fun e w' ⟨v,ρ',κ',g1,g2,g3,g4⟩=>?_
        obtain ⟨q,os',hq⟩:=le_grow g3.le
        subst g1 g2
        exact ⟨by rw [g4.2.val],q,os',hq⟩
      rw [hn]
      refine (AnyQ.slices_SortFunc_total L k aE zE encV hk h1 cf hO g #[] b 0 c p0.toArray κ.w (fun args w=>iN gOk args w) hcl hH hblk (by rw [← hn];unfold maxLen at h5;omega) hT).mono fun e w' ⟨k1,m,os,k2⟩=>?_
      have hso:(p0.toArray.toList.mergeSort fun x y => !(ltOf cf) y x)=fi (ltOf cf) p0:=by
        refine qI (lt:=ltOf cf) hT ?_ (oU hO.trans hO.ntrans hO.irrefl p0) ((List.mergeSort_perm _ _).trans mq.symm)
        have h:=List.pairwise_mergeSort (le:=fun x y:α => !(ltOf cf) y x) (fun a b c h1 h2=>by
          simp only [Bool.not_eq_true'] at h1 h2 ⊢;exact hO.ntrans _ _ _ h2 h1) (fun a b=>by
          cases e1:ltOf cf b a
          · simp
          cases e2:ltOf cf a b
          · simp
          have:=hO.trans _ _ _ e1 e2;rw [hO.irrefl] at this;cases this) p0
        exact h.imp fun {a b} hab=>by simpa using hab
      rw [hso] at k2
      subst k1 k2
      obtain ⟨i1,i2⟩:=sJ (m:=m) (os:=os) (e:=id) (css':=(fi (ltOf cf) p0).map encV) (D:=Sort.flatK encV k (fi (ltOf cf) p0).toArray) hi (sK encV k hk _) (by rw [List.length_map,qg];rw [← h2];simp) (hn1 _)
      exact ⟨_,_,⟨_,κ.S⟩,rfl,rfl,i1,.tup [],_,.tup .nil,.cons (.row hb (by intro cs hcs;obtain ⟨q,_,rfl⟩:=List.mem_map.1 hcs;exact h1 q) (qM (hmk _))) .nil,rfl,by rw [← hn]⟩
end
end SX
end Go.Proofs.YtmgcadfnkchnfaaGreatDoor
namespace Go.Proofs
open Go.Shelf
def Tryz.lSD_ren:Go.Shelf.Ren:=⟨fun | 6=>91 | 15=>73 | 14=>127 | 28=>110 | 29=>111 | 20=>155 | 21=>156 | 22=>157 | 23=>158 | 24=>159 | 25=>160 | 26=>161 | 27=>162 | 46=>185 | 47=>134 | 48=>135 | 49=>186 | 50=>187 | 57=>195 | n=>n,fun | 22=>41 | 24=>93 | 25=>101 | 3=>3 | 39=>132 | 0=>0 | 53=>173 | 55=>110 | 4=>4 | 46=>167 | 45=>166 | 50=>129 | 5=>5 | 9=>9 | 66=>184 | 70=>188 | 76=>218 | 77=>219 | n=>n,fun | n=>n⟩
theorem Tryz.lSD:Go.Proofs.SlLaysF0.n6 Tryz.prog Tryz.lSD_ren:={
 mixed:=by kernel_rfl
 f6:=⟨Tryz.f91.name,by decide,Tryz.func91.trans (congrArg some (by kernel_rfl))⟩
 f14:=⟨Tryz.f127.name,by decide,Tryz.func127.trans (congrArg some (by kernel_rfl))⟩
 f15:=Tryz.func73.trans (congrArg some (by kernel_rfl))
 f20:=⟨Tryz.f155.name,by decide,Tryz.func155.trans (congrArg some (by kernel_rfl))⟩
 f21:=⟨Tryz.f156.name,by decide,Tryz.func156.trans (congrArg some (by kernel_rfl))⟩
 f22:=⟨Tryz.f157.name,by decide,Tryz.func157.trans (congrArg some (by kernel_rfl))⟩
 f23:=⟨Tryz.f158.name,by decide,Tryz.func158.trans (congrArg some (by kernel_rfl))⟩
 f24:=⟨Tryz.f159.name,by decide,Tryz.func159.trans (congrArg some (by kernel_rfl))⟩
 f25:=⟨Tryz.f160.name,by decide,Tryz.func160.trans (congrArg some (by kernel_rfl))⟩
 f26:=⟨Tryz.f161.name,by decide,Tryz.func161.trans (congrArg some (by kernel_rfl))⟩
 f27:=⟨Tryz.f162.name,by decide,Tryz.func162.trans (congrArg some (by kernel_rfl))⟩
 f28:=Tryz.func110.trans (congrArg some (by kernel_rfl))
 f29:=Tryz.func111.trans (congrArg some (by kernel_rfl))
 f46:=⟨Tryz.f185.name,by decide,Tryz.func185.trans (congrArg some (by kernel_rfl))⟩
 f47:=Tryz.func134.trans (congrArg some (by kernel_rfl))
 f48:=Tryz.func135.trans (congrArg some (by kernel_rfl))
 f49:=⟨Tryz.f186.name,by decide,Tryz.func186.trans (congrArg some (by kernel_rfl))⟩
 f50:=⟨Tryz.f187.name,by decide,Tryz.func187.trans (congrArg some (by kernel_rfl))⟩
 f57:=⟨Tryz.f195.name,by decide,Tryz.func195.trans (congrArg some (by kernel_rfl))⟩
 t0:=Tryz.underlying0
 a0:=Tryz.isAgg0
 z0:=Tryz.sizeOf0
 v0:=Tryz.zeroValue0
 t3:=Tryz.underlying3
 a3:=Tryz.isAgg3
 z3:=Tryz.sizeOf3
 v3:=Tryz.zeroValue3
 t4:=Tryz.underlying4
 a4:=Tryz.isAgg4
 z4:=Tryz.sizeOf4
 v4:=Tryz.zeroValue4
 t5:=Tryz.underlying5
 a5:=Tryz.isAgg5
 z5:=Tryz.sizeOf5
 v5:=Tryz.zeroValue5
 t9:=Tryz.underlying9
 a9:=Tryz.isAgg9
 z9:=Tryz.sizeOf9
 v9:=Tryz.zeroValue9
 t22:=Tryz.underlying41
 a22:=Tryz.isAgg41
 z22:=Tryz.sizeOf41
 v22:=Tryz.zeroValue41
 t25:=Tryz.underlying101
 a25:=Tryz.isAgg101
 z25:=Tryz.sizeOf101
 v25:=Tryz.zeroValue101
 t39:=Tryz.underlying132
 a39:=Tryz.isAgg132
 z39:=Tryz.sizeOf132
 v39:=Tryz.zeroValue132
 t45:=Tryz.underlying166
 a45:=Tryz.isAgg166
 z45:=Tryz.sizeOf166
 v45:=Tryz.zeroValue166
 t46:=Tryz.underlying167
 a46:=Tryz.isAgg167
 z46:=Tryz.sizeOf167
 v46:=Tryz.zeroValue167
 t50:=Tryz.underlying129
 a50:=Tryz.isAgg129
 z50:=Tryz.sizeOf129
 v50:=Tryz.zeroValue129
 t53:=Tryz.underlying173
 a53:=Tryz.isAgg173
 z53:=Tryz.sizeOf173
 v53:=Tryz.zeroValue173
 t55:=Tryz.underlying110
 a55:=Tryz.isAgg110
 z55:=Tryz.sizeOf110
 v55:=Tryz.zeroValue110
 t66:=Tryz.underlying184
 a66:=Tryz.isAgg184
 z66:=Tryz.sizeOf184
 v66:=Tryz.zeroValue184
 t70:=Tryz.underlying188
 a70:=Tryz.isAgg188
 z70:=Tryz.sizeOf188
 v70:=Tryz.zeroValue188
 t76:=Tryz.underlying218
 a76:=Tryz.isAgg218
 z76:=Tryz.sizeOf218
 v76:=Tryz.zeroValue218
 t77:=Tryz.underlying219
 a77:=Tryz.isAgg219
 z77:=Tryz.sizeOf219
 v77:=Tryz.zeroValue219 }
end Go.Proofs
set_option maxRecDepth 100000
namespace Go.Proofs.YtmgcadfnkchnfaaGreatDoor
namespace SX
open Go Go.RowKit
structure Keep (S:Nat→Prop) (A B:World):Prop where
 size:A.heap.size≤B.heap.size
 os:B.os=A.os
 tape:B.tape=A.tape
 output:B.output=A.output
 drawn:DrGo A.drawn B.drawn
 blk:∀ b,S b→B.heap[b]?=A.heap[b]?
theorem Keep.refl (S:Nat→Prop) (A:World):Keep S A A:=⟨Nat.le_refl _,rfl,rfl,rfl,.refl _,fun _ _=>rfl⟩
theorem Keep.trans {S:Nat→Prop} {A B C:World} (h:Keep S A B) (k:Keep S B C):Keep S A C :=
 ⟨Nat.le_trans h.size k.size,k.os.trans h.os,k.tape.trans h.tape,k.output.trans h.output,h.drawn.trans k.drawn,fun b hb=>(k.blk b hb).trans (h.blk b hb)⟩
theorem Keep.mono {S T:Nat→Prop} {A B:World} (h:Keep S A B) (k:∀ b,T b→S b):Keep T A B:=⟨h.size,h.os,h.tape,h.output,h.drawn,fun b hb=>h.blk b (k b hb)⟩
theorem Keep.put {S:Nat→Prop} {A:World} {l:Nat} (o:Obj) (h:¬ S l):Keep S A (A.putObj l o) :=
 ⟨by simp [World.putObj],rfl,rfl,rfl,.refl _,fun b hb=>World.putObj_heap_other fun e=>h (e ▸ hb)⟩
theorem Keep.alloc {S:Nat→Prop} {A:World} (o:Obj) (h:∀ b,S b→b<A.heap.size):Keep S A (A.alloc o) :=
 ⟨by rw [World.size_alloc];omega,rfl,rfl,rfl,.refl _,fun b hb=>Below.heap_alloc _ _ _ (h b hb)⟩
def Gr (A B:World):Prop:=Keep (fun b=>b<A.heap.size) A B
def TT (T:Nat→Prop) (A B:World):Nat→Prop:=fun b=>T b∨(A.heap.size≤b∧b<B.heap.size)
def StN {α:Type} (J:α→World→Prop):Prop:=∀ s A B,J s A→Gr A B→J s B
def SeqS {α:Type} (gf:Nat) (lb:Array Value) (encs:α→Array Value) (S:Nat→Prop) (xs:List α) (w0:World):Prop :=
 ∀ (l:Nat) (J:(Nat→Prop)→List α→World→Prop) (Jx:List α→World→Prop) (W:World),Keep S w0 W→(∀ T,StN (J T))→StN Jx →
  (∀ (T:Nat→Prop) (pre:List α) (x:α) (suf:List α) (A W1:World),xs=pre++x::suf→J T pre A→Gr A W1→YieldAt Fence.wide 0 Tryz.prog l (encs x) W1 fun e W' =>
   (e=.returned (.bool true)∧J (TT T A W1) (pre++[x]) W'∧Keep (fun b=>S b∨TT T A W1 b) W1 W')∨(e=.returned (.bool false)∧Jx (pre++[x]) W'∧Keep (fun b=>S b∨TT T A W1 b) W1 W')) →
  J (fun _=>False) [] W→Calls Tryz.prog gf (#[.func (.yield l) #[] #[]]++lb) W fun e W'=>(∃ v,e=.returned v)∧((∃ T,J T xs W')∨∃ pre suf,xs=pre++suf∧Jx pre W')
def CA (D:Nat):Deferred:={ target:=.collected D,args:=#[] }
def roundK {α:Type} (T:Nat→Prop) (I:List α→World→Prop) (Ix:Code→List α→World→Prop) (xs:List α) (W:World):Exit→Act→World→Prop:=fun e _ W'=>Keep T W W'∧match e with
 | .normal=>I xs W'
 | .ret=>Ix .ret xs W'
 | .exit id=>Ix (.exit id) xs W'
 | .goto t=>Ix (.goto t) xs W'
 | .panic _=>False
 | .outgrown=>False
theorem CB {α:Type} {g:Operand} {ps:Array Tmp} {assign body:Code} {Q:Exit→Act→World→Prop} {a:Act} {w:World} {gf:Nat} {lb:Array Value} (hg:a.eval g=.func (.func gf) #[] lb) (hok:FnOk gf)
    {encs:α→Array Value} {S:Nat→Prop} {xs:List α} (hseq:SeqS gf lb encs S xs w) (hS:∀ b,S b→b<w.heap.size) (hps:∀ x,(encs x).size=ps.size)
    (I:(Nat→Prop)→List α→World→Prop) (Ix:Code→List α→World→Prop) (A:(Nat→Prop)→List α→α→Act→World→Prop) (hI:∀ T,StN (I T)) (hIe:∀ T pre B W,I T pre B→Gr B W→I (TT T B W) pre W) (hIx:∀ c,StN (Ix c))
    (hIl:∀ T pre W o,I T pre W→I T pre (W.putObj (w.heap.size+1) o)) (hIxl:∀ c pre W o,Ix c pre W→Ix c pre (W.putObj (w.heap.size+1) o)) (hAl:∀ T pre x a' W o,A T pre x a' W→A T pre x a' (W.putObj (w.heap.size+1) o)) (h0:I (fun _=>False) [] w)
    (hassign:∀ (T:Nat→Prop) (pre:List α) (x:α) (suf:List α) (W:World),xs=pre++x::suf→I T pre W→(∀ b,T b→b<W.heap.size)→w.heap.size+1<W.heap.size→∀ K:Act→World→Prop,(∀ a' W',Keep (fun b=>(S b∨T b)∨b=w.heap.size∨b=w.heap.size+1) W W'→A T pre x a' W'→K a' W') →
      assign.wpIn (Fence.wide.inRound (w.heap.size+1)) 0 Tryz.prog (Exit.then K fun _ _ _=>False) { tmps:=(ps.zip (encs x)).foldl (fun t (p,v)=>t.setIfInBounds p v) a.tmps,defers:=[] } W)
    (hbody:∀ (T:Nat→Prop) (pre:List α) (x:α) (suf:List α) (a':Act) (W:World),xs=pre++x::suf→A T pre x a' W→(∀ b,T b→b<W.heap.size)→w.heap.size+1<W.heap.size →
      body.wpIn (Fence.wide.inRound (w.heap.size+1)) 0 Tryz.prog (roundK (fun b=>(S b∨T b)∨b=w.heap.size∨b=w.heap.size+1) (I T) Ix (pre++[x]) W) a' W)
    (hdone:∀ T W,I T xs W→w.heap.size<W.heap.size→W.heap[w.heap.size]?=some (.deferred (some []))→Q .normal { a with defers:=CA w.heap.size::a.defers } W)
    (hstop:∀ c pre suf W,xs=pre++suf→Ix c pre W→w.heap.size<W.heap.size→W.heap[w.heap.size]?=some (.deferred (some []))→c.wp Tryz.prog Q { a with defers:=CA w.heap.size::a.defers } W) :
    (Code.rangeFunc g ps assign body).wp Tryz.prog Q a w:=by
  refine wpIn_wide (n:=0).1 (wpIn_rangeFunc ?_)
  intro fn hfn
  obtain ⟨rec,hrec⟩:∃ rec:LoopState→Option Code→Loop,rec=fun st pe=>{ state:=st,pending:=pe,fn,tmps:=a.tmps,params:=ps,assign,body,defers:=w.heap.size }:=⟨_,rfl⟩
  obtain ⟨W1,hW1⟩:∃ W1,(w.alloc (.deferred (some []))).alloc (.loop (rec .ready none))=W1:=⟨_,rfl⟩
  have hL1:W1.heap[w.heap.size+1]?=some (.loop (rec .ready none)):=by
    rw [← hW1];have:=World.alloc_heap_new (w.alloc (.deferred (some []))) (.loop (rec .ready none));rwa [World.size_alloc] at this
  have hK1:W1.heap[w.heap.size]?=some (.deferred (some [])):=by
    rw [← hW1];exact (Below.heap_alloc _ _ _ (by simp)).trans (World.alloc_heap_new w _)
  have hG:Gr w W1:=by
    rw [← hW1]
    exact (Keep.alloc _ fun b hb=>hb).trans (Keep.alloc _ fun b hb=>by rw [World.size_alloc];omega)
  have hnS:¬ S (w.heap.size+1):=fun h=>by have:=hS _ h;omega
  refine ⟨w.heap.size+1,[CA w.heap.size],W1,{ target:=.fn (.func gf) lb,args:=#[.func (.yield (w.heap.size+1)) #[] #[]] },W1,gf,
    #[.func (.yield (w.heap.size+1)) #[] #[]]++lb,W1,?_,?_,fun _ _=>trivial,?_,fun h=>(by cases h),?_⟩
  · rw [← hW1,hrec];exact run_enterLoop_outer _ _ _ _ _
  · simp only [resolve,hg]
    simp [go_sem]
  · simp [invoke,go_sem,iN hok]
  refine callsIn_wide.2 ((hseq (w.heap.size+1)
      (fun T pre W=>I T pre W∧W.heap[w.heap.size+1]?=some (.loop (rec .ready none))∧W.heap[w.heap.size]?=some (.deferred (some []))∧∀ b,T b→w.heap.size+1<b∧b<W.heap.size)
      (fun pre W=>∃ c,Ix c pre W∧W.heap[w.heap.size+1]?=some (.loop (rec .done (some c)))∧W.heap[w.heap.size]?=some (.deferred (some [])))
      W1 (hG.mono fun b hb=>hS b hb) ?_ ?_ ?_ ⟨hI _ _ _ _ h0 hG,hL1,hK1,fun _ h=>h.elim⟩).mono ?_)
  · rintro T s A B ⟨h1,h2,h3,h4⟩ hg
    exact ⟨hI _ _ _ _ h1 hg,(hg.blk _ (Array.getElem?_eq_some_iff.1 h2).1).trans h2,(hg.blk _ (Array.getElem?_eq_some_iff.1 h3).1).trans h3,fun b hb=>⟨(h4 b hb).1,Nat.lt_of_lt_of_le (h4 b hb).2 hg.size⟩⟩
  · rintro s A B ⟨c,h1,h2,h3⟩ hg
    exact ⟨c,hIx c _ _ _ h1 hg,(hg.blk _ (Array.getElem?_eq_some_iff.1 h2).1).trans h2,(hg.blk _ (Array.getElem?_eq_some_iff.1 h3).1).trans h3⟩
  · rintro T pre x suf B W hxs ⟨hi0,hl0,hk0,hT0⟩ hBW
    have hltB:w.heap.size+1<B.heap.size:=(Array.getElem?_eq_some_iff.1 hl0).1
    have hi:=hIe _ _ _ _ hi0 hBW
    have hl:=(hBW.blk _ hltB).trans hl0
    have hk:=(hBW.blk _ (show w.heap.size<B.heap.size by omega)).trans hk0
    have hT:∀ b,TT T B W b→w.heap.size+1<b∧b<W.heap.size:=fun b hb=>by
      rcases hb with hb | hb
      · exact ⟨(hT0 b hb).1,Nat.lt_of_lt_of_le (hT0 b hb).2 hBW.size⟩
      exact ⟨by omega,hb.2⟩
    generalize TT T B W=T' at *
    have hlt:w.heap.size+1<W.heap.size:=(Array.getElem?_eq_some_iff.1 hl).1
    have hy:=run_yield (P:=Tryz.prog) (args:=encs x) hl (by rw [hrec];exact hps x)
    rw [hrec] at hy
    refine ⟨fn,_,assign,body,hy,roundIn_of_wpIn trivial (hassign T' pre x suf W hxs hi (fun b hb=>(hT b hb).2) hlt _ fun a' W2 hk2 hA=>?_)⟩
    have hl2:W2.heap[w.heap.size+1]?=some (.loop (rec .ready none)):=(hk2.blk _ (.inr (.inr rfl))).trans hl
    have hd2:W2.heap[w.heap.size]?=some (.deferred (some [])):=(hk2.blk _ (.inr (.inl rfl))).trans hk
    have hlt2:=(Array.getElem?_eq_some_iff.1 hl2).1
    refine ⟨_,run_beginRound hl2 (by rw [hrec]),?_⟩
    have hl3:(W2.putObj (w.heap.size+1) (.loop { rec .ready none with state:=.busy })).heap[w.heap.size+1]?=some (.loop { rec .ready none with state:=.busy }):=World.putObj_heap_same hlt2
    have hd3:(W2.putObj (w.heap.size+1) (.loop { rec .ready none with state:=.busy })).heap[w.heap.size]?=some (.deferred (some [])):=(World.putObj_heap_other (by omega)).trans hd2
    refine wpIn_mono (hbody T' pre x suf a' _ hxs (hAl _ _ _ _ _ _ hA) (fun b hb=>by have:=Nat.lt_of_lt_of_le (hT b hb).2 hk2.size;simpa [World.putObj] using this) (by simpa [World.putObj] using hlt2)) ?_
    have hnT:¬ (S (w.heap.size+1)∨T' (w.heap.size+1)):=fun h=>h.elim hnS fun h=>by have:=(hT _ h).1;omega
    have hkS:Keep (fun b=>S b∨T' b) W (W2.putObj (w.heap.size+1) (.loop { rec .ready none with state:=.busy })):=(hk2.mono fun b hb=>.inl hb).trans (.put _ hnT)
    have fin:∀ (jump:Option Code) (W3:World),Keep (fun b=>(S b∨T' b)∨b=w.heap.size∨b=w.heap.size+1) (W2.putObj (w.heap.size+1) (.loop { rec .ready none with state:=.busy })) W3 →
        (Instr.endRound (w.heap.size+1) jump).run Tryz.prog W3=.ok (.bool jump.isNone) (W3.putObj (w.heap.size+1) (.loop (rec (if jump.isNone then .ready else .done) jump))) ∧
        (W3.putObj (w.heap.size+1) (.loop (rec (if jump.isNone then .ready else .done) jump))).heap[w.heap.size+1]?=some (.loop (rec (if jump.isNone then .ready else .done) jump)) ∧
        (W3.putObj (w.heap.size+1) (.loop (rec (if jump.isNone then .ready else .done) jump))).heap[w.heap.size]?=some (.deferred (some [])):=fun jump W3 hk3=>by
      have hl4:=(hk3.blk _ (.inr (.inr rfl))).trans hl3
      have:=run_endRound (P:=Tryz.prog) jump hl4
      rw [hrec] at this ⊢
      exact ⟨this,World.putObj_heap_same (Array.getElem?_eq_some_iff.1 hl4).1,(World.putObj_heap_other (by omega)).trans ((hk3.blk _ (.inr (.inl rfl))).trans hd3)⟩
    rintro e a3 W3 ⟨hk3,hp⟩
    cases e with
    | normal =>
      obtain ⟨hr,hl4,hd4⟩:=fin none W3 hk3
      refine ⟨_,_,hr,.inl ⟨rfl,⟨hIl _ _ _ _ hp,hl4,hd4,fun b hb=>⟨(hT b hb).1,?_⟩⟩,hkS.trans ((hk3.mono fun b hb=>.inl hb).trans (.put _ hnT))⟩⟩
      have:=Nat.lt_of_lt_of_le (hT b hb).2 (hkS.trans (hk3.mono fun b hb=>.inl hb)).size
      simpa [World.putObj] using this
    | ret =>
      obtain ⟨hr,hl4,hd4⟩:=fin (some .ret) W3 hk3
      exact ⟨_,_,hr,.inr ⟨rfl,⟨.ret,hIxl _ _ _ _ hp,hl4,hd4⟩,hkS.trans ((hk3.mono fun b hb=>.inl hb).trans (.put _ hnT))⟩⟩
    | exit id =>
      obtain ⟨hr,hl4,hd4⟩:=fin (some (.exit id)) W3 hk3
      exact ⟨_,_,hr,.inr ⟨rfl,⟨.exit id,hIxl _ _ _ _ hp,hl4,hd4⟩,hkS.trans ((hk3.mono fun b hb=>.inl hb).trans (.put _ hnT))⟩⟩
    | goto t =>
      obtain ⟨hr,hl4,hd4⟩:=fin (some (.goto t)) W3 hk3
      exact ⟨_,_,hr,.inr ⟨rfl,⟨.goto t,hIxl _ _ _ _ hp,hl4,hd4⟩,hkS.trans ((hk3.mono fun b hb=>.inl hb).trans (.put _ hnT))⟩⟩
    | panic ch=>exact hp.elim
    | outgrown=>exact hp.elim
  rintro e W2 ⟨⟨v,rfl⟩,(⟨T,hi,hl,hk,_⟩ | ⟨pre,suf,hxs,c,hi,hl,hk⟩)⟩
  · exact ⟨none,_,by have:=run_endLoop (P:=Tryz.prog) hl (by rw [hrec];simp);rw [hrec] at this;exact this,hdone T _ (hIl _ _ _ _ hi) (by have:=(Array.getElem?_eq_some_iff.1 hk).1;simpa [World.putObj] using this) ((World.putObj_heap_other (by omega)).trans hk)⟩
  exact ⟨some c,_,by have:=run_endLoop (P:=Tryz.prog) hl (by rw [hrec];simp);rw [hrec] at this;exact this,wpIn_wide.2 (hstop c pre suf _ hxs (hIxl _ _ _ _ hi) (by have:=(Array.getElem?_eq_some_iff.1 hk).1;simpa [World.putObj] using this) ((World.putObj_heap_other (by omega)).trans hk))⟩
end SX
end Go.Proofs.YtmgcadfnkchnfaaGreatDoor
set_option maxRecDepth 100000
namespace Go.Proofs.YtmgcadfnkchnfaaGreatDoor
namespace SX
open Go Go.RowKit
def AM (D:Nat):Res:=⟨some D,fun o=>o=some (.deferred (some []))⟩
def zy (Ds:List Nat):List Res:=Ds.map AM
def cls (Ds:List Nat):List Deferred:=Ds.map CA
theorem CC {k:Kr} {M:List Nat} {ro ro':Option Nat} {ρ:List Res} {κ:Kr} (h:Zk ⟨k,M,ro⟩ ρ κ):Zk ⟨k,M,ro'⟩ ρ κ:=⟨⟨h.le.kle,h.le.same,h.le.shNew,h.le.os,h.le.tape,h.le.output,h.le.drawn⟩,h.fin,h.own,h.blk,h.nd⟩
theorem sL {β:Base} {ρ:List Res} {W W':World} {S T:Nat→Prop} (h:Zk β ρ ⟨W,S⟩) (k:Keep T W W') (hS:∀ b,S b→T b) (hρ:∀ r∈ρ,∀ b,r.blk=some b→T b) (hM:∀ b,b<β.k0.w.heap.size→b ∉ β.M→T b):Zk β ρ ⟨W',S⟩∧Kle ⟨W,S⟩ ⟨W',S⟩:=by
 have hk:Kle ⟨W,S⟩ ⟨W',S⟩:=⟨k.size,fun _ h=>h,fun b hb=>k.blk b (hS b hb)⟩
 refine ⟨⟨⟨h.le.kle.trans hk,fun b hb hm=>(k.blk b (hM b hb hm)).trans (h.le.same b hb hm),h.le.shNew,k.os.trans h.le.os,k.tape.trans h.le.tape,k.output.trans h.le.output,h.le.drawn.trans k.drawn⟩,fun b hb=>Nat.lt_of_lt_of_le (h.fin b hb) k.size,fun r hr=>Res.holds_of (h.own r hr) fun b hb=>k.blk b (hρ r hr b hb),fun r hr b hb=>?_,h.nd⟩,hk⟩
 obtain ⟨h1,h2,h3⟩:=h.blk r hr b hb
 exact ⟨Nat.lt_of_lt_of_le h1 k.size,h2,h3⟩
theorem CD {β:Base} {ρ:List Res} {W W':World} {S:Nat→Prop} (h:Zk β ρ ⟨W,S⟩) (k:Gr W W'):Zk β ρ ⟨W',S⟩∧Kle ⟨W,S⟩ ⟨W',S⟩ :=
 sL h k h.fin (fun r hr b hb=>(h.blk r hr b hb).1) fun b hb _=>Nat.lt_of_lt_of_le hb h.le.kle.size
theorem zA {β:Base} {ρ:List Res} {W:World} {S:Nat→Prop} {l:Nat} (o:Obj) (h:Zk β ρ ⟨W,S⟩) (hS:∀ b,S b→b≠l) (hρ:∀ r∈ρ,∀ b,r.blk=some b→b≠l) (hl:β.k0.w.heap.size≤l):Zk β ρ ⟨W.putObj l o,S⟩∧Kle ⟨W,S⟩ ⟨W.putObj l o,S⟩ :=
 sL (T:=fun b=>b≠l) h (.put o fun h=>h rfl) hS hρ fun b hb _ e=>by omega
def Rst (β:Base) (κ0:Kr) (Ds:List Nat) (T:Nat→Prop) (ρp:List PRes) (W:World):Prop :=
 ∃ S' ρ',Zk β (ρ'++zy Ds) ⟨W,S'⟩∧RRels ⟨W,S'⟩ ρp ρ'∧Kle κ0 ⟨W,S'⟩∧(∀ b,S' b→b≠κ0.w.heap.size∧b≠κ0.w.heap.size+1)∧∀ r∈ρ',∀ b,r.blk=some b→(b≠κ0.w.heap.size∧b≠κ0.w.heap.size+1)∧¬ T b
def Ast (β:Base) (κ0:Kr) (Ds:List Nat) (T:Nat→Prop) (n:Nat) (σp:PEnv) (ρp:List PRes) (a:Act) (W:World):Prop :=
 ∃ S' ρ' σ',Zk β (ρ'++zy Ds) ⟨W,S'⟩∧RRels ⟨W,S'⟩ ρp ρ'∧Kle κ0 ⟨W,S'⟩∧(∀ b,S' b→b≠κ0.w.heap.size∧b≠κ0.w.heap.size+1)∧(∀ r∈ρ',∀ b,r.blk=some b→(b≠κ0.w.heap.size∧b≠κ0.w.heap.size+1)∧¬ T b)∧Sim ⟨W,S'⟩ σp σ'∧Rel [] n a σ'
section
variable {β:Base} {κ0:Kr} {Ds:List Nat} {T:Nat→Prop} {ρp:List PRes} {W W':World} {n:Nat} {σp:PEnv} {a:Act}
theorem zB {r:Res} (h:r∈zy Ds):∃ D∈Ds,r=AM D:=by obtain ⟨D,h1,rfl⟩:=List.mem_map.1 h;exact ⟨D,h1,rfl⟩
theorem Rst.gr (h:Rst β κ0 Ds T ρp W) (k:Gr W W'):Rst β κ0 Ds T ρp W':=by
 obtain ⟨S',ρ',h1,h2,h3,h4,h5⟩:=h
 obtain ⟨g1,g2⟩:=CD h1 k
 exact ⟨S',ρ',g1,h2.mono g2,h3.trans g2,h4,h5⟩
theorem Rst.ext (h:Rst β κ0 Ds T ρp W) (k:Gr W W'):Rst β κ0 Ds (TT T W W') ρp W':=by
 obtain ⟨S',ρ',h1,h2,h3,h4,h5⟩:=h
 obtain ⟨g1,g2⟩:=CD h1 k
 refine ⟨S',ρ',g1,h2.mono g2,h3.trans g2,h4,fun r hr b hb=>⟨(h5 r hr b hb).1,fun hT=>?_⟩⟩
 have hlt:b<W.heap.size:=(h1.blk r (List.mem_append.2 (.inl hr)) b hb).1
 rcases hT with hT | hT
 ·exact (h5 r hr b hb).2 hT
 omega
theorem ub {ρ':List Res} (hDs:∀ D∈Ds,D<κ0.w.heap.size) (h5:∀ r∈ρ',∀ b,r.blk=some b→(b≠κ0.w.heap.size∧b≠κ0.w.heap.size+1)∧¬ T b):∀ r∈ρ'++zy Ds,∀ b,r.blk=some b→b≠κ0.w.heap.size+1:=fun r hr b hb=>by
 rcases List.mem_append.1 hr with hr | hr
 ·exact (h5 r hr b hb).1.2
 obtain ⟨D,hD,rfl⟩:=zB hr
 have:=hDs D hD
 injection hb with hb;omega
theorem Rst.put (o:Obj) (hDs:∀ D∈Ds,D<κ0.w.heap.size) (hl:β.k0.w.heap.size≤κ0.w.heap.size) (h:Rst β κ0 Ds T ρp W):Rst β κ0 Ds T ρp (W.putObj (κ0.w.heap.size+1) o):=by
 obtain ⟨S',ρ',h1,h2,h3,h4,h5⟩:=h
 obtain ⟨g1,g2⟩:=zA o h1 (fun b hb=>(h4 b hb).2) (ub hDs h5) (by omega)
 exact ⟨S',ρ',g1,h2.mono g2,h3.trans g2,h4,h5⟩
theorem Ast.put (o:Obj) (hDs:∀ D∈Ds,D<κ0.w.heap.size) (hl:β.k0.w.heap.size≤κ0.w.heap.size) (h:Ast β κ0 Ds T n σp ρp a W):Ast β κ0 Ds T n σp ρp a (W.putObj (κ0.w.heap.size+1) o):=by
 obtain ⟨S',ρ',σ',h1,h2,h3,h4,h5,h6,h7⟩:=h
 obtain ⟨g1,g2⟩:=zA o h1 (fun b hb=>(h4 b hb).2) (ub hDs h5) (by omega)
 exact ⟨S',ρ',σ',g1,h2.mono g2,h3.trans g2,h4,h5,h6.mono g2,h7⟩
theorem Ast.rst (h:Ast β κ0 Ds T n σp ρp a W):Rst β κ0 Ds T ρp W:=by
 obtain ⟨S',ρ',σ',h1,h2,h3,h4,h5,_⟩:=h
 exact ⟨S',ρ',h1,h2,h3,h4,h5⟩
theorem Rst.sub {ρq:List PRes} (h:Rst β κ0 Ds T ρp W) (hs:PSub ρq ρp):Rst β κ0 Ds T ρq W:=by
 obtain ⟨S',ρ',h1,h2,h3,h4,h5⟩:=h
 obtain ⟨ρ'',k1,k2⟩:=h2.sub hs
 obtain ⟨l,hl⟩:=k1
 refine ⟨S',ρ'',(h1.perm (?_:(ρ'++zy Ds).Perm ((ρ''++zy Ds)++l))).sub (List.sublist_append_left _ _),k2,h3,h4,fun r hr=>h5 r (hl.mem_iff.2 (List.mem_append.2 (.inl hr)))⟩
 rw [List.append_assoc]
 exact (List.Perm.append_right _ hl).trans (by rw [List.append_assoc];exact List.Perm.append_left _ List.perm_append_comm)
theorem sM {c:Code} {Kx:Exit→PPost} {S0:Nat→Prop} {Q:Exit→Act→World→Prop} (hn:kp c=true) (hc:PWC n c Kx σp ρp) (g:GOK κ0) (hS0:∀ b,S0 b→κ0.S b) (hT:∀ b,T b→b<W.heap.size) (hW:κ0.w.heap.size+1<W.heap.size) (h:Ast β κ0 Ds T n σp ρp a W)
    (hQ:∀ e a' W' σp' ρp',Kx e σp' ρp'→Ast β κ0 Ds T n σp' ρp' a' W'→Keep (fun b=>(S0 b∨T b)∨b=κ0.w.heap.size∨b=κ0.w.heap.size+1) W W'→Q e a' W'):c.wpIn (Fence.wide.inRound (κ0.w.heap.size+1)) 0 Tryz.prog Q a W:=by
  obtain ⟨S',ρ',σ',h1,h2,h3,h4,h5,h6,h7⟩:=h
  refine hc ⟨⟨W,S'⟩,jA ρ',some (κ0.w.heap.size+1)⟩ ⟨W,S'⟩ σ' ρ' (g.mono h3) h6 h2 (CC h1.split) a h7 Q (fun e a' σ'' ρ'' κ'' g1 g2 g3 ⟨σp',ρp',k1,k2,k3⟩=>?_) hn
  refine hQ e a' κ''.w σp' ρp' k3 ⟨κ''.S,ρ'',σ'',h1.join (CC g2),k2,h3.trans g3,fun b hb=>?_,fun r hr b hb=>?_,k1,g1⟩ ⟨g3.size,g2.le.os,g2.le.tape,g2.le.output,g2.le.drawn,fun b hb=>?_⟩
  · rcases g2.le.shNew b hb with hS | hge | hm
    · exact h4 b hS
    · have:W.heap.size≤b:=hge
      omega
    obtain ⟨r,hr,hrb⟩:=jB hm;exact (h5 r hr b hrb).1
  · rcases (g2.blk r hr b hb).2.2 with hge | hm
    · have hge:W.heap.size≤b:=hge
      exact ⟨by omega,fun h=>by have:=hT b h;omega⟩
    obtain ⟨r,hr,hrb⟩:=jB hm;exact h5 r hr b hrb
  have nin:∀ b,T b∨b=κ0.w.heap.size∨b=κ0.w.heap.size+1→b ∉ jA ρ':=fun b hb hm=>by
    obtain ⟨r,hr,hrb⟩:=jB hm
    have:=h5 r hr b hrb
    rcases hb with hb | hb
    · exact this.2 hb
    omega
  rcases hb with (hb | hb) | hb
  · exact g3.keep b (h3.sh b (hS0 b hb))
  · exact g2.le.same b (hT b hb) (nin b (.inl hb))
  exact g2.le.same b (show b<W.heap.size by omega) (nin b (.inr hb))
end
def kI {X S T:Type} (f:S→X→Option (S⊕T)):S→List X→Option (S⊕T)
 | s,[]=>some (.inl s)
 | s,x::xs=>match f s x with | none=>none | some (.inl s')=>kI f s' xs | some (.inr t)=>some (.inr t)
def xvs {X:Type} (xv:X→Value) (x:X):Array Value:=#[xv x]
def PSeq {X:Type} (gf:Nat) (caps:List PV) (xp:X→PV) (xs:List X):Prop :=
 FnOk gf∧∀ κ lb,GOK κ→(∀ b,κ.S b→b<κ.w.heap.size)→Rps κ caps lb→∃ xv:X→Value,(∀ x∈xs,∀ κ',Rp κ' (xp x) (xv x))∧SeqS gf lb.toArray (xvs xv) κ.S xs κ.w
abbrev QPost:=Exit→PEnv→List PRes→List Nat→Prop
def PWQ (n:Nat) (c:Code) (K:QPost) (σp:PEnv) (ρp:List PRes) (Ds:List Nat):Prop :=
 ∀ κ0 ρ0 κ σ ρ,GOK κ→Sim κ σp σ→RRels κ ρp ρ→Zk ⟨κ0,jA ρ0,none⟩ (ρ++zy Ds) κ→∀ a,Rel (cls Ds) n a σ→∀ Q:Exit→Act→World→Prop,
  (∀ e a' σ' ρ' κ' σq ρq Es,GOK κ'→Rel (cls Es) n a' σ'→Zk ⟨κ0,jA ρ0,none⟩ (ρ'++zy Es) κ'→Sim κ' σq σ'→RRels κ' ρq ρ'→K e σq ρq Es→Q e a' κ'.w)→c.wp Tryz.prog Q a κ.w
section
variable {n:Nat} {x y:Code} {K:QPost} {σ:PEnv} {ρ:List PRes} {Ds:List Nat}
theorem gN (h:PWC n x (fun e σ ρ=>K e σ ρ Ds) σ ρ):PWQ n x K σ ρ Ds:=fun κ0 ρ0 κ σ' ρ' g hs hr hi a ha Q hq =>
 h ⟨κ,jA ρ',none⟩ κ σ' ρ' g hs hr hi.split a ha _ fun e a' σ'' ρ'' κ'' g1 g2 g3 ⟨σp,ρp,k1,k2,k3⟩=>hq e a' σ'' ρ'' κ'' σp ρp Ds (g.mono g3) g1 (hi.join g2) k1 k2 k3
def zC (n:Nat) (y:Code) (K:QPost):QPost:=fun e σ ρ Ds=>match e with
 | .normal=>PWQ n y K σ ρ Ds
 | e=>K e σ ρ Ds
theorem dW (h:PWQ n x (zC n y K) σ ρ Ds):PWQ n (.seq x y) K σ ρ Ds:=fun κ0 ρ0 κ σ' ρ' g hs hr hi a ha Q hq =>
 wp_seq (h κ0 ρ0 κ σ' ρ' g hs hr hi a ha _ fun e a' σ'' ρ'' κ'' σp ρp Es g1 g2 g3 k1 k2 k3=>by
  cases e with
  | normal=>exact k3 κ0 ρ0 κ'' σ'' ρ'' g1 k1 k2 g3 a' g2 Q hq
  | _=>exact hq _ a' σ'' ρ'' κ'' σp ρp Es g1 g2 g3 k1 k2 k3)
theorem dX (h:PWQ n y K σ ρ Ds):zC n y K .normal σ ρ Ds:=h
theorem iA (h:K .ret σ ρ Ds):zC n y K .ret σ ρ Ds:=h
def fin (w:World) (Ds:List Nat):World:=Ds.foldl (fun w D=>w.putObj D (.deferred none)) w
theorem wW:∀ (Ds:List Nat) (w:World),Keep (fun b=>b ∉ Ds) w (fin w Ds)
 | [],w=>.refl _ _
 | D::Ds,w=>(Keep.put (S:=fun b=>b ∉ D::Ds) _ fun h=>h (by simp)).trans ((wW Ds _).mono fun b hb=>fun h=>hb (by simp [h]))
theorem uc {fn:Func} {tmps:Array Value} {R:Ending→World→Prop}:∀ (Ds:List Nat) (w:World),Ds.Nodup→(∀ D∈Ds,w.heap[D]?=some (.deferred (some [])))→(∃ v,(results fn tmps).run Tryz.prog (fin w Ds)=.ok v (fin w Ds)∧R (.returned v) (fin w Ds))→LeavesInM Fence.wide 0 Tryz.prog fn tmps R (cls Ds) .returning w
 | [],w,_,_,h=>h
 | D::Ds,w,hnd,hD,h=>by
  have hnd:=List.nodup_cons.1 hnd
  refine ⟨by simp,.inl ⟨D,_,rfl,run_takeDeferred (hD D (by simp)),uc Ds _ hnd.2 (fun E hE=>?_) h⟩⟩
  exact (World.putObj_heap_other (by intro e;subst e;exact hnd.1 hE)).trans (hD E (by simp [hE]))
theorem vp {f n:Nat} {fn:Func} {c:Code} {pargs:List PV} {rs:List ResultVar} {ρp:List PRes} {R:PV→List PRes→Prop} (hf:Tryz.prog.funcs[f]?=some fn) (hok:FnOk f) (hb:fn.body=some c) (hn:fn.ntmps=n) (hres:fn.results=rs.toArray) (hsz:Nat.ble pargs.length n=true)
    (h:PWQ n c (fun e σ ρ _=>jS rs R e σ ρ) (rW pargs) ρp []):PCall f pargs ρp R:=fun κ args ρ g ha hr =>
  ⟨hok,fun hi=>callsIn_wide.1 (callsIn_of_wp_marks (F:=Fence.wide) (n:=0) hf hb trivial (wpIn_wide.2 (by
    have hrel:=rG args.toArray n (by simpa [ha.len] using Nat.le_of_ble_eq_true hsz)
    rw [hn]
    refine h κ ρ κ _ ρ g (sim0 ha) hr (by simpa [zy] using hi) _ hrel _ ?_
    intro e a' σ' ρ' κ' σp ρq Ds _ h1 h2 k1 k2 k3
    have key:(∃ p ρ',PRV rs σp ρq p∧PSub ρ' ρq∧R p ρ')→LeavesInM Fence.wide 0 Tryz.prog fn a'.tmps (fun e w'=>∃ v ρ' κ',e=Ending.returned v∧w'=κ'.w∧Zk ⟨κ,jA ρ,none⟩ ρ' κ'∧∃ pv ρp',Rp κ' pv v∧RRels κ' ρp' ρ'∧R pv ρp') a'.defers .returning κ'.w:=fun ⟨p,ρ3,j1,j2,j3⟩=>by
      obtain ⟨v,i1,i2⟩:=prv k1 k2 j1
      obtain ⟨r',i3,i4⟩:=k2.sub j2
      have hnd:=List.pairwise_append.1 h2.nd
      have hDs:Ds.Nodup:=by
        have:=hnd.2.1
        unfold zy at this
        rw [List.pairwise_map] at this
        exact this.imp fun h e=>h _ rfl (by rw [e];rfl)
      have hDb:∀ D∈Ds,AM D∈ρ'++zy Ds:=fun D hD=>List.mem_append.2 (.inr (List.mem_map.2 ⟨D,hD,rfl⟩))
      have hav:∀ r∈ρ',∀ b,r.blk=some b→b ∉ Ds:=fun r hr b hb hm=>hnd.2.2 r hr (AM b) (List.mem_map.2 ⟨b,hm,rfl⟩) b hb rfl
      have hi':Zk ⟨κ,jA ρ,none⟩ ρ' κ':=h2.sub (List.sublist_append_left _ _)
      obtain ⟨q1,q2⟩:=sL (W':=fin κ'.w Ds) (S:=κ'.S) hi' (wW Ds κ'.w) (fun b hb hm=>(h2.blk _ (hDb b hm) b rfl).2.1 hb) hav fun b hb hm hD=>by
        rcases (h2.blk _ (hDb b hD) b rfl).2.2 with q | q
        · exact absurd hb (Nat.not_lt.2 q)
        exact hm q
      rw [h1.2.1]
      refine uc Ds κ'.w hDs (fun D hD=>h2.own _ (hDb D hD)) ⟨v,xP hres ⟨h1.1,rfl,h1.2.2⟩ q1 i1,v,r',⟨fin κ'.w Ds,κ'.S⟩,rfl,rfl,q1.subm i3,p,ρ3,i2.mono q2,i4.mono q2,j3⟩
    cases e with
    | ret=>exact key k3
    | normal=>exact key k3
    | _=>exact k3.elim)))⟩
end
end SX
end Go.Proofs.YtmgcadfnkchnfaaGreatDoor
set_option maxRecDepth 100000
namespace Go.Proofs.YtmgcadfnkchnfaaGreatDoor
namespace SX
open Go Go.RowKit
def CE {X Y S T:Type} (step:S→X→Option (S⊕T)) (R:Y→S→List PRes) (R':T→List PRes) (r:S⊕T) (suf:List X):Exit→PPost:=fun e _ ρ=>match e with
 | .normal=>∃ y s,kI step s suf=some r∧PSub (R y s) ρ
 | .ret=>∃ t,r=.inr t∧PSub (R' t) ρ
 | _=>False
def asgK (n:Nat) (body:Code) (K:Exit→PPost):Exit→PPost:=fun e σ ρ=>match e with
 | .normal=>PWC n body K σ ρ
 | _=>False
theorem CF {β:Base} {ρ:List Res} {κ:Kr} {D:Nat} (h:Zk β ρ κ) (hD:κ.w.heap[D]?=some (.deferred (some []))) (hS:¬ κ.S D) (hρ:∀ r∈ρ,r.blk≠some D) (hM:β.k0.w.heap.size≤D):Zk β (AM D::ρ) κ :=
 ⟨h.le,h.fin,fun r hr=>by
  rcases List.mem_cons.1 hr with rfl | hr
  ·exact hD
  ·exact h.own r hr,fun r hr b hb=>by
  rcases List.mem_cons.1 hr with rfl | hr
  ·injection hb with hb;subst hb;exact ⟨(Array.getElem?_eq_some_iff.1 hD).1,hS,.inl hM⟩
  exact h.blk r hr b hb,List.Pairwise.cons (fun r hr b hb e=>by injection hb with hb;subst hb;exact hρ r hr e) h.nd⟩
section
variable {X Y S T:Type} {n p:Nat} {g:Operand} {assign body:Code} {K:QPost} {σ:PEnv} {ρ:List PRes} {Ds:List Nat} {gf:Nat} {caps:List PV} {xp:X→PV} {xs:List X} {step:S→X→Option (S⊕T)} {s0:S} {r:S⊕T} {R:Y→S→List PRes} {R':T→List PRes} {y0:Y}
theorem kj (hr:kI step s0 xs=some r) (hg:be σ g=.fn gf caps) (hseq:PSeq gf caps xp xs) (hp:Nat.blt p n=true) (hna:kp assign=true) (hnb:kp body=true) (h0:PSub (R y0 s0) ρ)
    (round:∀ y s x suf,kI step s (x::suf)=some r→PWC n assign (asgK n body (CE step R R' r suf)) (eP σ p (xp x)) (R y s))
    (done:∀ y s D,r=.inl s→K .normal σ (R y s) (D::Ds)) (stop:∀ t D,r=.inr t→K .ret σ (R' t) (D::Ds)):PWQ n (.rangeFunc g #[p] assign body) K σ ρ Ds:=fun κ0 ρ0 κ σ' ρ' gk hs hrr hi a ha Q hq=>by
  obtain ⟨lb,hlb,hcap⟩:∃ lb:List Value,ev σ' g=.func (.func gf) #[] lb.toArray∧Rps κ caps lb:=by
    have:=hs.ev g
    rw [hg] at this
    generalize ev σ' g=v at *
    cases this with
    | fn hc=>exact ⟨_,rfl,hc⟩
  obtain ⟨hok,hsq⟩:=hseq
  obtain ⟨xv,hxv,hS⟩:=hsq κ lb gk hi.fin hcap
  have hDs:∀ D∈Ds,D<κ.w.heap.size:=fun D hD=>(hi.blk (AM D) (List.mem_append.2 (.inr (List.mem_map.2 ⟨D,hD,rfl⟩))) D rfl).1
  have hl:κ0.w.heap.size≤κ.w.heap.size:=hi.le.kle.size
  have hst:Rst ⟨κ0,jA ρ0,none⟩ κ Ds (fun _=>False) ρ κ.w:=⟨κ.S,ρ',hi,hrr,.refl _,fun b hb=>by
    have:=hi.fin b hb
    omega,fun r hr b hb=>by
    have:=(hi.blk r (List.mem_append.2 (.inl hr)) b hb).1
    exact ⟨by omega,fun h=>h⟩⟩
  have goOn:∀ (T:Nat→Prop) (ρq:List PRes) (W:World),Rst ⟨κ0,jA ρ0,none⟩ κ Ds T ρq W→W.heap[κ.w.heap.size]?=some (.deferred (some []))→∃ ρ'' κ'',κ''.w=W∧GOK κ''∧Sim κ'' σ σ'∧RRels κ'' ρq ρ''∧Zk ⟨κ0,jA ρ0,none⟩ (ρ''++zy (κ.w.heap.size::Ds)) κ'':=fun T ρq W ⟨S',ρ'',h1,h2,h3,h4,h5⟩ hD=>by
    refine ⟨ρ'',⟨W,S'⟩,rfl,gk.mono h3,hs.mono h3,h2,(CF h1 hD (fun h=>(h4 _ h).1 rfl) (fun r hr e=>?_) hl).perm ?_⟩
    · rcases List.mem_append.1 hr with hr | hr
      · exact (h5 r hr _ e).1.1 rfl
      obtain ⟨D,hD,rfl⟩:=zB hr
      have:=hDs D hD
      injection e with e;omega
    exact List.perm_middle.symm
  have hrel:Rel (cls (κ.w.heap.size::Ds)) n { a with defers:=CA κ.w.heap.size::a.defers } σ':=⟨ha.1,by rw [ha.2.1];rfl,ha.2.2⟩
  refine CB (S:=κ.S) (xs:=xs) (encs:=xvs xv) (by rw [ha.eval,hlb]) hok hS hi.fin (fun _=>rfl)
    (fun T pre W=>∃ suf y s,xs=pre++suf∧kI step s suf=some r∧Rst ⟨κ0,jA ρ0,none⟩ κ Ds T (R y s) W)
    (fun c _ W=>c=.ret∧∃ t T,r=.inr t∧Rst ⟨κ0,jA ρ0,none⟩ κ Ds T (R' t) W)
    (fun T pre x a' W=>∃ suf σp ρp,xs=pre++x::suf∧PWC n body (CE step R R' r suf) σp ρp∧Ast ⟨κ0,jA ρ0,none⟩ κ Ds T n σp ρp a' W)
    (fun T pre A B ⟨suf,y,s,h1,h2,h3⟩ hg=>⟨suf,y,s,h1,h2,h3.gr hg⟩) (fun T pre A B ⟨suf,y,s,h1,h2,h3⟩ hg=>⟨suf,y,s,h1,h2,h3.ext hg⟩) (fun c pre A B ⟨h1,t,T,h2,h3⟩ hg=>⟨h1,t,T,h2,h3.gr hg⟩)
    (fun T pre W o ⟨suf,y,s,h1,h2,h3⟩=>⟨suf,y,s,h1,h2,h3.put o hDs hl⟩) (fun c pre W o ⟨h1,t,T,h2,h3⟩=>⟨h1,t,T,h2,h3.put o hDs hl⟩)
    (fun T pre x a' W o ⟨suf,σp,ρp,h1,h2,h3⟩=>⟨suf,σp,ρp,h1,h2,h3.put o hDs hl⟩) ⟨xs,y0,s0,rfl,hr,hst.sub h0⟩ ?_ ?_ ?_ ?_
  · rintro T pre x suf W hxs ⟨suf',y,s,e1,e2,S',ρ'',h1,h2,h3,h4,h5⟩ hT hW Kx hK
    have e3:suf'=x::suf:=List.append_cancel_left (e1.symm.trans hxs)
    subst e3
    have hx:x∈xs:=by rw [hxs];simp
    refine sM hna (round y s x suf e2) gk (fun b h=>h) hT hW (a:=_) ⟨S',ρ'',upd σ' p (xv x),h1,h2,h3,h4,h5,(hs.mono h3).upd (hxv x hx _),?_⟩ fun e a' W' σp' ρp' hk hA hkeep=>?_
    · have hr0:Rel [] n { tmps:=a.tmps,defers:=[] } σ':=⟨ha.1,rfl,ha.2.2⟩
      have h1:=hr0.put (d:=some p) hp (xv x)
      simpa [xvs,Act.put,lU] using h1
    cases e with
    | normal=>exact hK a' W' hkeep ⟨suf,σp',ρp',hxs,hk,hA⟩
    | _=>exact hk.elim
  · rintro T pre x suf a' W hxs ⟨suf',σp,ρp,e1,e2,e3⟩ hT hW
    have e4:x::suf'=x::suf:=List.append_cancel_left (e1.symm.trans hxs)
    injection e4 with _ e4
    subst e4
    refine sM hnb e2 gk (fun b h=>h) hT hW e3 fun e a'' W' σp' ρp' hk hA hkeep=>⟨hkeep,?_⟩
    cases e with
    | normal=>obtain ⟨y,s,k1,k2⟩:=hk;exact ⟨_,y,s,by rw [hxs];simp,k1,hA.rst.sub k2⟩
    | ret=>obtain ⟨t,k1,k2⟩:=hk;exact ⟨rfl,t,T,k1,hA.rst.sub k2⟩
    | _=>exact hk.elim
  · rintro T W ⟨suf,y,s,e1,e2,e3⟩ _ hD
    have e4:suf=[]:=by have:=congrArg List.length e1;rw [List.length_append] at this;exact List.eq_nil_of_length_eq_zero (by omega)
    subst e4
    obtain ⟨ρ'',κ'',rfl,k1,k2,k3,k4⟩:=goOn _ _ W e3 hD
    exact hq _ _ σ' ρ'' κ'' σ (R y s) _ k1 hrel k4 k2 k3 (done y s _ (Option.some.inj e2).symm)
  rintro c pre suf W _ ⟨rfl,t,T,e2,e3⟩ _ hD
  obtain ⟨ρ'',κ'',rfl,k1,k2,k3,k4⟩:=goOn _ _ W e3 hD
  exact wp_ret (hq _ _ σ' ρ'' κ'' σ (R' t) _ k1 hrel k4 k2 k3 (stop t _ e2))
def pb (id:Nat) (K:QPost):QPost:=fun e σ ρ Ds=>match e with
 | .exit id'=>cond (Nat.beq id' id) (K .normal σ ρ Ds) (K (.exit id') σ ρ Ds)
 | e=>K e σ ρ Ds
theorem km {x:Code} {id:Nat} (h:PWQ n x (pb id K) σ ρ Ds):PWQ n (.block id x) K σ ρ Ds:=fun κ0 ρ0 κ σ' ρ' g hs hr hi a ha Q hq =>
 wp_block (h κ0 ρ0 κ σ' ρ' g hs hr hi a ha _ fun e a' σ'' ρ'' κ'' σp ρp Es g1 g2 g3 k1 k2 k3=>by
  cases e with
  | exit id' =>
   simp only [pb] at k3
   simp only [Exit.inBlock]
   cases hb:Nat.beq id' id
   ·have hne:id'≠id:=fun h=>by rw [h] at hb;simp at hb
    rw [hb] at k3;rw [if_neg hne];exact hq _ a' σ'' ρ'' κ'' σp ρp Es g1 g2 g3 k1 k2 k3
   ·have he:=Nat.eq_of_beq_eq_true hb
    rw [hb] at k3;rw [if_pos he];exact hq _ a' σ'' ρ'' κ'' σp ρp Es g1 g2 g3 k1 k2 k3
  | _=>exact hq _ a' σ'' ρ'' κ'' σp ρp Es g1 g2 g3 k1 k2 k3)
theorem kn {id:Nat} (h:K .normal σ ρ Ds):pb id K .normal σ ρ Ds:=h
theorem gw {id:Nat} (h:K .ret σ ρ Ds):pb id K .ret σ ρ Ds:=h
theorem qi {n:Nat} {Kb:Exit→PPost} (h:PWC n body Kb σ ρ):asgK n body Kb .normal σ ρ:=h
theorem AN {s:S} {x:X} {suf:List X} (h:kI step s (x::suf)=some r):∃ o,step s x=some o∧((∃ s',o=.inl s'∧kI step s' suf=some r)∨∃ t,o=.inr t∧r=.inr t):=by
 unfold kI at h
 cases ho:step s x with
 | none=>rw [ho] at h;cases h
 | some o =>
  rw [ho] at h
  cases o with
  | inl s'=>exact ⟨_,rfl,.inl ⟨s',rfl,h⟩⟩
  | inr t=>exact ⟨_,rfl,.inr ⟨t,rfl,(Option.some.inj h).symm⟩⟩
def rndK (step:S→X→Option (S⊕T)) (r o:S⊕T) (suf:List X):Prop:=(∃ s',o=.inl s'∧kI step s' suf=some r)∨∃ t,o=.inr t∧r=.inr t
theorem qj {s:S} {x:X} {suf:List X} (h:kI step s (x::suf)=some r):∃ o,step s x=some o∧rndK step r o suf:=AN h
theorem pg {suf:List X} {o:S⊕T} {s:S} (h:some (Sum.inl s)=some o) (hk:rndK step r o suf) (y:Y) (hs:PSub (R y s) ρ):CE step R R' r suf .normal σ ρ:=by
 obtain rfl:=Option.some.inj h
 rcases hk with ⟨s',h1,h2⟩ | ⟨t,h1,_⟩
 ·injection h1 with h1;subst h1;exact ⟨y,s,h2,hs⟩
 cases h1
theorem pk_rngR {suf:List X} {o:S⊕T} {t:T} (h:some (Sum.inr t)=some o) (hk:rndK step r o suf) (hs:PSub (R' t) ρ):CE step R R' r suf .ret σ ρ:=by
 obtain rfl:=Option.some.inj h
 rcases hk with ⟨s',h1,h2⟩ | ⟨t',h1,h2⟩
 ·cases h1
 injection h1 with h1;subst h1;exact ⟨t,h2,hs⟩
theorem pwq_sub {c:Code} {ρ':List PRes} (hs:PSub ρ' ρ) (h:PWQ n c K σ ρ' Ds):PWQ n c K σ ρ Ds:=fun κ0 ρ0 κ σ' ρ1 g hm hr hi=>by
 obtain ⟨ρ2,⟨l,hl⟩,k2⟩:=hr.sub hs
 refine h κ0 ρ0 κ σ' ρ2 g hm k2 ((hi.perm (?_:(ρ1++zy Ds).Perm ((ρ2++zy Ds)++l))).sub (List.sublist_append_left _ _))
 rw [List.append_assoc]
 exact (List.Perm.append_right _ hl).trans (by rw [List.append_assoc];exact List.Perm.append_left _ List.perm_append_comm)
end
theorem wX {n:Nat} {K:QPost} {σ:PEnv} {ρ:List PRes} {Ds:List Nat} {α:Type} {enc:α→List PV} {xs:List α} {c:Code} {a:Option Addr} {m cp T' sz:Nat} (hm:PRes.row a m cp T' sz (xs.map enc)∈ρ) (h:xs.length=m→(0<m→a=some ⟨u6 a,0,none⟩)→PWQ n c K σ ρ Ds):PWQ n c K σ ρ Ds:=fun κ0 ρ0 κ σ' ρ' g hs hr hi=>by
 obtain ⟨r,hr1,hr2⟩:=hr.mem hm
 cases hr2 with
 | row hb ho hc =>
  have h1:=hi.own _ (List.mem_append.2 (.inl hr1))
  have e1:=(jD h1).2.1;have e2:=hc.len;rw [List.length_map] at e2
  exact h (by omega) (fun h0=>mT h1 h0) κ0 ρ0 κ σ' ρ' g hs hr hi
end SX
end Go.Proofs.YtmgcadfnkchnfaaGreatDoor
set_option maxRecDepth 100000
namespace Go.Proofs.YtmgcadfnkchnfaaGreatDoor
namespace SX
open Go Go.RowKit
theorem op_inW {o:Oper} {K K':Act→World→Prop} {Q1:Act→World→Prop} {Q:Exit→Act→World→Prop} {a:Act} {w:World} (hk:∀ a w,K a w→K' a w) (h:o.wp Tryz.prog a w K (NP Q1)):o.wpIn Fence.wide 0 Tryz.prog a w K' Q:=by
  refine ⟨fun _ _=>trivial,?_⟩
  rw [show Fence.wide.round=none from rfl,Oper.semAt_none]
  unfold Oper.wp at h
  generalize (execOp a.eval o).run Tryz.prog w=r at *
  cases r with
  | ok v w' =>
    cases v <;> simp only [Oper.upon,Oper.uponIn] at h ⊢ <;> first
      | exact hk _ _ h
      | exact ⟨fun h=>(by cases h),CallsIn.mono (callsIn_wide.2 h) fun e w'' he=>by
          cases e with
          | returned v=>exact hk _ _ he
          | panicked c=>exact absurd he.1 (by simp)
          | outgrown=>exact absurd he lV⟩
      | exact ⟨fun h=>(by cases h),fun c cs _=>let ⟨v,w',r,s⟩:=h c cs;⟨v,w',hk _ _ r,stepsIn_wide.2 s⟩⟩
      | exact h.elim
  | halt v w'=>cases v <;> simp only [Oper.upon,Oper.uponIn] at h ⊢ <;> first
      | exact h.elim
      | exact absurd h.1 (by simp)
theorem pj {ops:Array Oper} {Q1:Act→World→Prop} {Q:Exit→Act→World→Prop} {rest:List Oper} (hk:∀ a w,Q1 a w→wpListIn Fence.wide 0 Tryz.prog ops Q rest a w):∀ (l:List Oper) (a:Act) (w:World),wpList Tryz.prog ops (NP Q1) l a w→wpListIn Fence.wide 0 Tryz.prog ops Q (l++rest) a w
 | [],a,w,h=>hk a w h.2
 | o::l,a,w,h=>by
  unfold wpList at h
  rw [List.cons_append]
  unfold wpListIn
  split
  ·rename_i hw
   rw [if_pos hw] at h
   rcases h with h | h
   ·exact op_inW (fun a w=>pj hk l a w) h
   exact absurd h.2 lV
  rename_i hw
  rw [if_neg hw] at h
  exact ⟨fun _ _=>trivial,pj hk l _ w h⟩
theorem tB {o:Oper} {a:Act} {w:World} {t arg:Operand} {ts:Array Nat} {l:Nat} {v:Value} {fn:FuncId} {tmps:Array Value} {assign body:Code} (ho:o.op=.call { callee:=.value t,args:=#[arg],argTypes:=ts }) (ht:a.eval t=.func (.yield l) #[] #[]) (hv:a.eval arg=v)
    (hy:(Instr.yield l #[v]).run Tryz.prog w=.ok (.round l fn tmps assign body) w):(execOp a.eval o).run Tryz.prog w=.ok (.round l fn tmps assign body) w:=by
  subst hv
  unfold execOp
  simp only [ho,ht,resolve,Deferred.ofValue,Sem.run_bind,Sem.run_pure,Result.andThen_ok,invoke]
  simpa using hy
structure Yld {X:Type} (l:Nat) (J:(Nat→Prop)→List X→World→Prop) (Jx:List X→World→Prop) (S0:Nat→Prop) (xs:List X) (xp:X→PV) (xv:X→Value):Prop where
  st:∀ T,StN (J T)
  stx:StN Jx
  yl:∀ (T:Nat→Prop) (pre:List X) (x:X) (suf:List X) (A W1:World),xs=pre++x::suf→J T pre A→Gr A W1→YieldAt Fence.wide 0 Tryz.prog l (xvs xv x) W1 fun e W' =>
      (e=.returned (.bool true)∧J (TT T A W1) (pre++[x]) W'∧Keep (fun b=>S0 b∨TT T A W1 b) W1 W')∨(e=.returned (.bool false)∧Jx (pre++[x]) W'∧Keep (fun b=>S0 b∨TT T A W1 b) W1 W')
  un:∀ x κ v,Rp κ (xp x) v→v=xv x
section
variable {X:Type} (l:Nat) (J:(Nat→Prop)→List X→World→Prop) (Jx:List X→World→Prop) (S0:Nat→Prop) (xs:List X)
def JJ:List X⊕List X→(Nat→Prop)→World→Prop
 | .inl pre,T,W=>J T pre W
 | .inr pre,_,W=>Jx pre W∧∃ suf,xs=pre++suf
abbrev IPost (X:Type):=Exit→PEnv→List PRes→List X⊕List X→Prop
def PWI (n:Nat) (c:Code) (K:IPost X) (σp:PEnv) (ρp:List PRes) (P:List X⊕List X):Prop :=
 ∀ κA (T:Nat→Prop) κ σ ρ,GOK κ→Sim κ σp σ→RRels κ ρp ρ→Zk ⟨κA,[],none⟩ ρ κ→(∀ b,κA.S b→S0 b∨T b)→JJ J Jx xs P T κA.w→∀ a,Rel [] n a σ→∀ Q:Exit→Act→World→Prop,
  (∀ e a' κB (T':Nat→Prop) σ' ρ' κ' σq ρq P',GOK κ'→Rel [] n a' σ'→Zk ⟨κB,[],none⟩ ρ' κ'→(∀ b,κB.S b→S0 b∨T' b)→Sim κ' σq σ'→RRels κ' ρq ρ'→JJ J Jx xs P' T' κB.w→K e σq ρq P'→Q e a' κ'.w)→c.wp Tryz.prog Q a κ.w
end
section
variable {X:Type} {l:Nat} {J:(Nat→Prop)→List X→World→Prop} {Jx:List X→World→Prop} {S0:Nat→Prop} {xs:List X} {xp:X→PV} {xv:X→Value} {n:Nat} {x y:Code} {K:IPost X} {σ:PEnv} {ρ:List PRes} {P:List X⊕List X}
theorem gx (h:PWC n x (fun e σ ρ=>K e σ ρ P) σ ρ):PWI J Jx S0 xs n x K σ ρ P:=fun κA T κ σ' ρ' g hs hr hi hA hJ a ha Q hq =>
 h ⟨κA,[],none⟩ κ σ' ρ' g hs hr hi a ha _ fun e a' σ'' ρ'' κ'' g1 g2 g3 ⟨σp,ρp,k1,k2,k3⟩=>hq e a' κA T σ'' ρ'' κ'' σp ρp P (g.mono g3) g1 g2 hA k1 k2 hJ k3
def CG (J:(Nat→Prop)→List X→World→Prop) (Jx:List X→World→Prop) (S0:Nat→Prop) (xs:List X) (n:Nat) (y:Code) (K:IPost X):IPost X:=fun e σ ρ P=>match e with
 | .normal=>PWI J Jx S0 xs n y K σ ρ P
 | e=>K e σ ρ P
theorem ii (h:PWI J Jx S0 xs n x (CG J Jx S0 xs n y K) σ ρ P):PWI J Jx S0 xs n (.seq x y) K σ ρ P:=fun κA T κ σ' ρ' g hs hr hi hA hJ a ha Q hq =>
 wp_seq (h κA T κ σ' ρ' g hs hr hi hA hJ a ha _ fun e a' κB T' σ'' ρ'' κ'' σp ρp P' g1 g2 g3 g4 k1 k2 k3 k4=>by
  cases e with
  | normal=>exact k4 κB T' κ'' σ'' ρ'' g1 k1 k2 g3 g4 k3 a' g2 Q hq
  | _=>exact hq _ a' κB T' σ'' ρ'' κ'' σp ρp P' g1 g2 g3 g4 k1 k2 k3 k4)
def pm (id:Nat) (K:IPost X):IPost X:=fun e σ ρ P=>match e with
 | .exit id'=>cond (Nat.beq id' id) (K .normal σ ρ P) (K (.exit id') σ ρ P)
 | e=>K e σ ρ P
theorem nD {id:Nat} (h:PWI J Jx S0 xs n x (pm id K) σ ρ P):PWI J Jx S0 xs n (.block id x) K σ ρ P:=fun κA T κ σ' ρ' g hs hr hi hA hJ a ha Q hq =>
 wp_block (h κA T κ σ' ρ' g hs hr hi hA hJ a ha _ fun e a' κB T' σ'' ρ'' κ'' σp ρp P' g1 g2 g3 g4 k1 k2 k3 k4=>by
  cases e with
  | exit id' =>
   simp only [pm] at k4
   simp only [Exit.inBlock]
   cases hb:Nat.beq id' id
   ·have hne:id'≠id:=fun h=>by rw [h] at hb;simp at hb
    rw [hb] at k4;rw [if_neg hne];exact hq _ a' κB T' σ'' ρ'' κ'' σp ρp P' g1 g2 g3 g4 k1 k2 k3 k4
   ·have he:=Nat.eq_of_beq_eq_true hb
    rw [hb] at k4;rw [if_pos he];exact hq _ a' κB T' σ'' ρ'' κ'' σp ρp P' g1 g2 g3 g4 k1 k2 k3 k4
  | _=>exact hq _ a' κB T' σ'' ρ'' κ'' σp ρp P' g1 g2 g3 g4 k1 k2 k3 k4)
theorem kJ {c:Operand} {p:Bool} (hc:be σ c=.v (.bool p)) (ht:p=true→PWI J Jx S0 xs n x K σ ρ P) (hf:p=false→PWI J Jx S0 xs n y K σ ρ P):PWI J Jx S0 xs n (.cond c x y) K σ ρ P:=fun κA T κ σ' ρ' g hs hr hi hA hJ a ha Q hq=>by
 have hv:=hs.ev c
 rw [hc] at hv
 exact wp_cond_split (t:=p) (by rw [ha.eval];exact hv.val) (fun h=>ht h κA T κ σ' ρ' g hs hr hi hA hJ a ha Q hq) (fun h=>hf h κA T κ σ' ρ' g hs hr hi hA hJ a ha Q hq)
theorem wY {Z:Type} (L:Z→List (Nat×PV)) (R:Z→List X⊕List X) (μ:Z→Nat) (z0:Z) (h0:PHolds σ (L z0)) (hP:P=R z0)
    (round:∀ z τ,PWI J Jx S0 xs n x (fun e σ ρ P=>match e with | .normal=>∃ z',PHolds σ (L z')∧P=R z'∧μ z'<μ z | e=>K e σ ρ P) (aM τ (L z)) [] (R z)):PWI J Jx S0 xs n (.loop x) K σ ρ P:=fun κA T κ σ' ρ' g hs hr hi hA hJ a ha Q hq=>by
  subst hP
  refine vT (ro:=none) (fun z a w=>∃ κA T κ σp σ',w=κ.w∧GOK κ∧Sim κ σp σ'∧PHolds σp (L z)∧Zk ⟨κA,[],none⟩ [] κ∧(∀ b,κA.S b→S0 b∨T b)∧JJ J Jx xs (R z) T κA.w∧Rel [] n a σ') μ z0 ⟨κA,T,κ,σ,σ',rfl,g,hs,h0,hi.sub (List.nil_sublist _),hA,hJ,ha⟩ fun z a w ⟨κA,T,κ,σp,σ',hw,g,hs,hL,hi,hA,hJ,ha⟩=>?_
  subst hw
  refine round z σp κA T κ σ' [] g (by rw [kx hL];exact hs) .nil hi hA hJ a ha _ fun e a' κB T' σ'' ρ'' κ'' σq ρq P' g1 g2 g3 g4 k1 k2 k3 k4=>?_
  cases e with
  | normal =>
    obtain ⟨z',h1,h2,h3⟩:=k4
    subst h2
    exact ⟨z',⟨κB,T',κ'',σq,σ'',rfl,g1,k1,h1,g3.sub (List.nil_sublist _),g4,k3,g2⟩,h3⟩
  | _=>exact hq _ a' κB T' σ'' ρ'' κ'' σq ρq P' g1 g2 g3 g4 k1 k2 k3 k4
def YK (l:Nat) (J:(Nat→Prop)→List X→World→Prop) (Jx:List X→World→Prop) (S0:Nat→Prop) (xs:List X) (xp:X→PV) (n:Nat) (ops:Array Oper) (y:Oper) (l2:List Oper) (K:IPost X) (pre:List X):PPost:=fun σ ρ =>
 ∃ c d,∃ pval:Bool→PV,PGuardIs ops σ y c∧y.dst=some d∧Nat.blt d n=true∧(∀ b,c=true→pval b=pB b)∧(∀ b,c=false→pval b=.v undef) ∧
  (c=true→∃ t arg ts x suf,y.op=.call { callee:=.value t,args:=#[arg],argTypes:=ts }∧be σ t=.v (.func (.yield l) #[] #[])∧be σ arg=xp x∧xs=pre++x::suf ∧
   PWL n ops l2 (fun σ ρ=>K .normal σ ρ (.inl (pre++[x]))) (eP σ d (pval true)) []∧PWL n ops l2 (fun σ ρ=>K .normal σ ρ (.inr (pre++[x]))) (eP σ d (pval false)) []) ∧
  (c=false→PWL n ops l2 (fun σ ρ=>K .normal σ ρ (.inl pre)) (eP σ d (pval true)) ρ)
theorem CH {id:Nat} {l1 l2:List Oper} {o:Oper} {pre:List X} (hY:Yld l J Jx S0 xs xp xv) (h:PWL n (l1++o::l2).toArray l1 (YK l J Jx S0 xs xp n (l1++o::l2).toArray o l2 K pre) σ ρ):PWI J Jx S0 xs n (.region id (l1++o::l2).toArray false) K σ ρ (.inl pre):=fun κA T κ σ' ρ' g hs hr hi hA hJ a ha Q hq=>by
 refine wpIn_wide (n:=0).1 (wpIn_region_lit (pj (fun a w hQ=>hQ) l1 a κ.w (h ⟨κA,[],none⟩ κ σ' ρ' g hs hr hi a ha (NP fun a w=>wpListIn Fence.wide 0 Tryz.prog (l1++o::l2).toArray Q (o::l2) a w) fun a' σ1 ρ1 κ1 g1 g2 g3 ⟨σp,ρp,k1,k2,k3⟩=>⟨rfl,?_⟩)))
 obtain ⟨c,d,pval,hg,hd,hlt,hpt,hpf,hT,hF⟩:=k3
 have gk:=g.mono g3
 have rest:∀ (P':List X⊕List X) (κB:Kr) (T':Nat→Prop) (σq:PEnv) (ρq:List PRes) (σ2:Env) (ρ2:List Res) (κ2:Kr) (a2:Act),PWL n (l1++o::l2).toArray l2 (fun σ ρ=>K .normal σ ρ P') σq ρq→GOK κ2→Sim κ2 σq σ2→RRels κ2 ρq ρ2→Zk ⟨κB,[],none⟩ ρ2 κ2→(∀ b,κB.S b→S0 b∨T' b)→JJ J Jx xs P' T' κB.w→Rel [] n a2 σ2→wpListIn Fence.wide 0 Tryz.prog (l1++o::l2).toArray Q l2 a2 κ2.w:=fun P' κB T' σq ρq σ2 ρ2 κ2 a2 hl q1 q2 q3 q4 q5 q6 q7=>by
  have:=pj (Q:=Q) (rest:=[]) (fun a w hQ=>hQ) l2 a2 κ2.w (hl ⟨κB,[],none⟩ κ2 σ2 ρ2 q1 q2 q3 q4 a2 q7 (NP fun a w=>Q .normal a w) fun a' σ3 ρ3 κ3 j1 j2 j3 ⟨σr,ρr,i1,i2,i3⟩=>⟨rfl,hq .normal a' κB T' σ3 ρ3 κ3 σr ρr P' (q1.mono j3) j1 j2 q5 i1 i2 q6 i3⟩)
  rwa [List.append_nil] at this
 have hwant:=hg κ1 σ1 k1
 unfold GuardIs at hwant
 unfold wpListIn
 rw [ij g1,hwant]
 cases c with
 | false =>
  rw [if_neg (by simp)]
  have hundef:Rp κ1 (pval true) undef:=by rw [hpf _ rfl];exact Rp.v (x:=undef) rfl
  refine ⟨fun _ _=>trivial,rest (.inl pre) κA T _ ρp _ ρ1 κ1 _ (hF rfl) gk (k1.upd (d:=d) hundef) k2 g2 hA hJ ?_⟩
  have:=g1.put (d:=o.dst) (ex hd hlt) undef
  rwa [dL hd] at this
 | true =>
  rw [if_pos rfl]
  obtain ⟨t,arg,ts,x,suf,ho,ht,harg,hxs,hA1,hA2⟩:=hT rfl
  have hev:a'.eval=ev σ1:=g1.eval
  have htv:a'.eval t=.func (.yield l) #[] #[]:=by rw [hev];have:=k1.ev t;rw [ht] at this;exact this.val
  have hav:a'.eval arg=xv x:=by rw [hev];exact hY.un x κ1 _ (by have:=k1.ev arg;rwa [harg] at this)
  have hGr:Gr κA.w κ1.w:=⟨g2.le.kle.size,g2.le.os,g2.le.tape,g2.le.output,g2.le.drawn,fun b hb=>g2.le.same b hb (by simp)⟩
  obtain ⟨fn,tmps,assign,body,hy,hR⟩:=hY.yl T pre x suf κA.w κ1.w hxs hJ hGr
  refine ⟨fun _ _=>trivial,?_⟩
  rw [show Fence.wide.round=none from rfl,Oper.semAt_none,tB ho htv hav hy,Oper.uponIn_round]
  refine ⟨fun h=>(by cases h),RoundIn.mono hR ?_⟩
  have hS:∀ b,κ1.S b→S0 b∨TT T κA.w κ1.w b:=fun b hb=>by
   rcases g2.le.shNew b hb with h | h | h
   ·rcases hA b h with h | h
    ·exact .inl h
    exact .inr (.inl h)
   ·exact .inr (.inr ⟨h,g2.fin b hb⟩)
   exact absurd h (by simp)
  have fin2:∀ (bv:Bool) (W':World) (P':List X⊕List X),Keep (fun b=>S0 b∨TT T κA.w κ1.w b) κ1.w W'→JJ J Jx xs P' (TT T κA.w κ1.w) W'→PWL n (l1++o::l2).toArray l2 (fun σ ρ=>K .normal σ ρ P') (eP σp d (pval bv)) []→wpListIn Fence.wide 0 Tryz.prog (l1++o::l2).toArray Q l2 (a'.put o.dst (.bool bv)) W':=fun bv W' P' hK' hJ' hl=>by
   have hk:Kle κ1 ⟨W',κ1.S⟩:=⟨hK'.size,fun _ h=>h,fun b hb=>hK'.blk b (hS b hb)⟩
   have hb:Rp ⟨W',κ1.S⟩ (pval bv) (.bool bv):=by rw [hpt _ rfl];exact Rp.v (x:=.bool bv) rfl
   have h2:=g1.put (d:=o.dst) (ex hd hlt) (.bool bv)
   rw [dL hd] at h2
   exact rest P' ⟨W',κ1.S⟩ (TT T κA.w κ1.w) _ [] (upd σ1 d (.bool bv)) [] ⟨W',κ1.S⟩ (a'.put o.dst (.bool bv)) hl (gk.mono hk) ((k1.mono hk).upd (d:=d) hb) .nil ⟨.refl _ _,fun b hb=>Nat.lt_of_lt_of_le (g2.fin b hb) hK'.size,fun r hr=>(by cases hr),fun r hr=>(by cases hr),.nil⟩ hS hJ' h2
  rintro e W' (⟨rfl,hJ',hK'⟩ | ⟨rfl,hJ',hK'⟩)
  ·exact fin2 true W' (.inl (pre++[x])) hK' hJ' hA1
  exact fin2 false W' (.inr (pre++[x])) hK' ⟨hJ',suf,by rw [hxs];simp⟩ hA2
theorem ud {id:Nat} {L:List Oper} (k:Nat) {l2:List Oper} {o:Oper} {pre:List X} (hk:L.drop k=o::l2) (hY:Yld l J Jx S0 xs xp xv) (h:PWL n L.toArray (L.take k) (YK l J Jx S0 xs xp n L.toArray o l2 K pre) σ ρ):PWI J Jx S0 xs n (.region id L.toArray false) K σ ρ (.inl pre):=by
 have e:L=L.take k++o::l2:=by rw [← hk,List.take_append_drop]
 generalize L.take k=l1 at *
 subst e
 exact CH hY h
theorem ft (h:PWI J Jx S0 xs n y K σ ρ P):CG J Jx S0 xs n y K .normal σ ρ P:=h
theorem pn {id:Nat} (h:K (.exit id) σ ρ P):CG J Jx S0 xs n y K (.exit id) σ ρ P:=h
theorem qk {id:Nat} (h:K .normal σ ρ P):pm id K .normal σ ρ P:=h
theorem po {id:Nat} (h:K .normal σ ρ P):pm id K (.exit id) σ ρ P:=by
 unfold pm;simp only [show Nat.beq id id=true by simp,cQ];exact h
def itK (xs:List X):IPost X:=fun e _ _ P=>(e=.ret∨e=.normal)∧(P=.inl xs∨∃ pre,P=.inr pre)
end
theorem zD {X:Type} {gf n:Nat} {fn:Func} {c:Code} {caps:List PV} {xp:X→PV} {xs:List X} (xv:X→Value) (hf:Tryz.prog.funcs[gf]?=some fn) (hok:FnOk gf) (hb:fn.body=some c) (hn:fn.ntmps=n) (hres:fn.results=([]:List ResultVar).toArray) (hsz:Nat.ble (caps.length+1) n=true)
    (hx:∀ κ lb,Rps κ caps lb→∀ x∈xs,∀ κ',Rp κ' (xp x) (xv x)) (hun:∀ x κ v,Rp κ (xp x) v→v=xv x)
    (h:∀ l J Jx S0,Yld l J Jx S0 xs xp xv→PWI J Jx S0 xs n c (itK xs) (rW (.v (.func (.yield l) #[] #[])::caps)) [] (.inl [])):PSeq gf caps xp xs :=
  ⟨hok,fun κ lb g hfin hcap=>⟨xv,hx κ lb hcap,fun l J Jx W hkeep hst hstx hyl h0=>by
    have hk:Kle κ ⟨W,κ.S⟩:=⟨hkeep.size,fun _ h=>h,fun b hb=>hkeep.blk b hb⟩
    have hargs:Rps ⟨W,κ.S⟩ (.v (.func (.yield l) #[] #[])::caps) (.func (.yield l) #[] #[]::lb):=.cons (.v (x:=.func (.yield l) #[] #[]) rfl) (hcap.mono hk)
    have e:(#[.func (.yield l) #[] #[]]++lb.toArray:Array Value)=(Value.func (.yield l) #[] #[]::lb).toArray:=by simp
    rw [e]
    have hrel:=rG (Value.func (.yield l) #[] #[]::lb).toArray n (by have:=Nat.le_of_ble_eq_true hsz;have h2:=hcap.len;simp;omega)
    refine calls_of_wp hf hb ?_
    rw [hn]
    refine h l J Jx κ.S ⟨hst,hstx,hyl,hun⟩ ⟨W,κ.S⟩ (fun _=>False) ⟨W,κ.S⟩ _ [] (g.mono hk) (sim0 hargs) .nil ⟨.refl _ _,fun b hb=>Nat.lt_of_lt_of_le (hfin b hb) hkeep.size,fun r hr=>(by cases hr),fun r hr=>(by cases hr),.nil⟩ (fun b hb=>.inl hb) h0 _ hrel _ ?_
    intro e a' κB T' σ' ρ' κ' σq ρq P' g1 g2 g3 g4 k1 k2 k3 ⟨ke,kP⟩
    have hGr:Gr κB.w κ'.w:=⟨g3.le.kle.size,g3.le.os,g3.le.tape,g3.le.output,g3.le.drawn,fun b hb=>g3.le.same b hb (by simp)⟩
    have key:(∃ T,J T xs κ'.w)∨∃ pre suf,xs=pre++suf∧Jx pre κ'.w:=by
      rcases kP with rfl | ⟨pre,rfl⟩
      · exact .inl ⟨T',hst T' _ _ _ k3 hGr⟩
      obtain ⟨h1,suf,h2⟩:=k3;exact .inr ⟨pre,suf,h2,hstx _ _ _ h1 hGr⟩
    have fin:a'.defers=[]∧∃ v,(results fn a'.tmps).run Tryz.prog κ'.w=.ok v κ'.w∧((∃ v',Ending.returned v=.returned v')∧((∃ T,J T xs κ'.w)∨∃ pre suf,xs=pre++suf∧Jx pre κ'.w)) :=
      ⟨g2.2.1,.tuple #[],xP hres g2 g3 rfl,⟨_,rfl⟩,key⟩
    rcases ke with rfl | rfl
    · exact fin
    exact fin⟩⟩
end SX
end Go.Proofs.YtmgcadfnkchnfaaGreatDoor
set_option maxRecDepth 100000
namespace Go.Proofs.YtmgcadfnkchnfaaGreatDoor
namespace SX
open Go Go.RowKit
attribute [local irreducible] PWL PWC PWD POpL POpQ PEv PGuardIs PSub PPick PUpd PSplice PFill PLit PF PFV PCall FOk fX fp lA mR jP jS Cov PHolds aV idx app mk gd lb nz nH Bi sub mn ec qG tu eR cw eT dt IntKind.wrap Int.tmod Int.tdiv Op.bytesLess strOfNums
def DFp (x:Za):PV:=.agg (aF x)
def DFv (x:Za):Value:=.agg [.int .i64 x.From,.int .i64 x.Number,.int .i64 x.Day,.int .i64 x.Kind,.string x.Country,.int .i64 x.Amount,.int .i64 x.Company].toArray
theorem ry {x:Za} {κ:Kr} {ds:List Value} (h:Rps κ (Za.enc x) ds):ds=[.int .i64 x.From,.int .i64 x.Number,.int .i64 x.Day,.int .i64 x.Kind,.string x.Country,.int .i64 x.Amount,.int .i64 x.Company]∧pV (.string x.Country)=true:=by
 unfold Za.enc at h
 cases h with | cons h1 h=>cases h with | cons h2 h=>cases h with | cons h3 h=>cases h with | cons h4 h=>cases h with | cons h5 h=>cases h with | cons h6 h=>cases h with | cons h7 h=>cases h with | nil =>
  rw [h1.val,h2.val,h3.val,h4.val,h5.val,h6.val,h7.val]
  exact ⟨rfl,by have:=h5.val;subst this;exact h5.ok⟩
theorem df_un (x:Za) (κ:Kr) (v:Value) (h:Rp κ (DFp x) v):v=DFv x:=by
 unfold DFp at h
 cases h with
 | agg h1 h=>rw [(ry (x:=x) h).1];rfl
theorem df_rp {x:Za} {κ κ':Kr} {ds:List Value} (h:Rps κ (Za.enc x) ds) (h1:One ds):Rp κ' (DFp x) (DFv x):=by
 obtain ⟨e,hok⟩:=ry h
 subst e
 refine .agg h1 ?_
 exact .cons (.v (x:=.int .i64 _) rfl) (.cons (.v (x:=.int .i64 _) rfl) (.cons (.v (x:=.int .i64 _) rfl) (.cons (.v (x:=.int .i64 _) rfl) (.cons (.v hok) (.cons (.v (x:=.int .i64 _) rfl) (.cons (.v (x:=.int .i64 _) rfl) .nil))))))
theorem zF {κ:Kr}:∀ {xs:List Za} {css:List (List Value)},Rpss κ (xs.map Za.enc) css→Ones css→∀ x∈xs,∀ κ',Rp κ' (DFp x) (DFv x)
 | [],_,_,_,_,hx,_=>by cases hx
 | y::xs,_,.cons h hs,h1,x,hx,κ'=>by
  rcases List.mem_cons.1 hx with rfl | hx
  ·exact df_rp h (h1 _ (by simp))
  exact zF hs (fun d hd=>h1 d (by simp [hd])) x hx κ'
theorem CI {κ:Kr} {xs:List Za} {caps:List PV} {lb:List Value} (h:Rps κ (.ref [pL Za.enc xs] 0::caps) lb):∀ x∈xs,∀ κ',Rp κ' (DFp x) (DFv x):=by
 cases h with | cons h _=>cases h with | ref _ _ hs=>cases hs with | cons h _=>cases h with | slc _ _ h1 hs=>exact zF hs h1
theorem wZ {ops:Array Oper} {σ:PEnv} {o:Oper} (h:o.guard=none):PGuardIs ops σ o true:=by unfold PGuardIs;exact fun κ σ' hm=>rI h
theorem AO {σ:PEnv} {c:Bool} {x:Operand} {p:PV} (h:be σ x=p):PEv σ c x p:=by unfold PEv;exact fun _=>h
theorem ue {σ:PEnv} {c:Bool} {x:Operand} {p:PV} (h:be σ x=pgv c p):PEv σ c x p:=by unfold PEv;intro hc;rw [h,hc];exact hX _
theorem CJ {α:Type} {xs:List α} {k:Nat} (h:k<xs.length):idx xs (k:Int)=some xs[k]:=by
 unfold idx;rw [if_pos (by omega)];simp [h]
theorem i64n {k n:Nat} (hk:k<n) (hn:n≤140737488355328):IntKind.i64.wrap ((k:Int)+1)=((k+1:Nat):Int):=by
 rw [oF (by omega)];omega
theorem yq {p1:List Za} (hb:p1.length≤140737488355328):PSeq 92 [.ref [pL Za.enc p1] 0] DFp p1:=by
 refine zD DFv Tryz.func92 (xQ Tryz.func92 rfl) rfl Tryz.ntmps92 Tryz.results92 rfl (fun κ lb h=>CI h) df_un fun l J Jx S0 hY=>?_
 refine ii (gx ?_)
 refine aw [] [] [(5,pL Za.enc p1),(6,pI (p1.length:Int)),(7,pI 0)] bZ (by kernel_rfl) (ft ?_)
 refine nD ?_
 refine wY (Z:={ i:Nat // i≤p1.length }) (fun i=>[(0,.v (.func (.yield l) #[] #[])),(5,pL Za.enc p1),(6,pI (p1.length:Int)),(7,pI (i.1:Int))]) (fun i=>.inl (p1.take i.1)) (fun i=>p1.length - i.1) ⟨0,Nat.zero_le _⟩ (by (repeat (first | exact tq | apply fY rfl))) rfl ?_
 rintro ⟨i,hi⟩ τ;dsimp only [aM]
 refine ii (gx ?_)
 refine aw [] [] [(8,pB (decide ((i:Int)<(p1.length:Int))))] bZ (by kernel_rfl) (ft ?_)
 refine ii (kJ rfl (fun hc=>gx ?_) fun hc=>gx ?_)
 ·have hlt:i<p1.length:=by have:=of_decide_eq_true hc;omega
  refine ag (ft ?_)
  refine ii (nD (ii (gx ?_)))
  have hm5:=CJ hlt
  have hxs:p1=p1.take i++p1[i]::p1.drop (i+1):=by rw [List.getElem_cons_drop];simp
  have htk:p1.take (i+1)=p1.take i++[p1[i]]:=by rw [List.take_add_one,List.getElem?_eq_getElem hlt];rfl
  generalize p1[i]=m5 at *
  refine ae ?_
  refine bC 2 [] [9] [(10,.agg (aF m5))] (jX 0 Za.enc hm5 bZ) (by kernel_rfl) ?_
  refine rX rfl rfl rfl (aX (cs:=[pI 0,pI 0,pI 0,pI 0,pS ByteArray.empty,pI 0,pI 0]) rfl rfl rfl rfl (fun b6=>?_))
  refine aH rfl rfl (aj (vs:=(aF m5)) rfl rfl rfl rfl rfl (by (repeat (first | exact cA | apply cG))) (by (repeat (first | exact Dy | apply gE | apply bP))) ?_)
  refine ap (ft ?_)
  refine ii (ud 2 rfl hY ?_)
  refine jY [0] [] [(11,.v (.func (.yield l) #[] #[])),(12,.agg (aF m5))] bZ (by kernel_rfl) ?_
  refine ⟨true,13,pB,wZ rfl,rfl,rfl,fun _ _=>rfl,fun _ h=>(by cases h),fun _=>⟨.tmp 11,.tmp 12,_,m5,_,rfl,rfl,rfl,hxs,?_,?_⟩,fun h=>(by cases h)⟩
  ·refine jY [] [13] [(14,pB (!true))] bZ (by kernel_rfl) (ft ?_)
   refine kJ rfl (fun hc=>(by cases hc)) fun _=>gx (ag (qk (ft (gx ?_))))
   refine aw [] [15] [(7,pI (IntKind.i64.wrap ((i:Int)+1)))] bZ (by kernel_rfl) ?_
   rw [i64n hlt hb]
   refine ⟨⟨i+1,hlt⟩,(by (repeat (first | exact tq | apply fY rfl))),?_,(by show p1.length - (i+1)<p1.length - i;omega)⟩
   show Sum.inl _=Sum.inl (p1.take (i+1))
   rw [htk]
  refine jY [] [13] [(14,pB (!false))] bZ (by kernel_rfl) (ft ?_)
  refine kJ rfl (fun hc=>gx (cC ?_)) fun hc=>(by cases hc)
  exact ⟨.inl rfl,.inr ⟨_,rfl⟩⟩
 have hge:i=p1.length:=by have:=of_decide_eq_false hc;omega
 subst hge
 refine bA (pn ?_)
 refine po ?_
 rw [List.take_length]
 exact ⟨.inr rfl,.inl rfl⟩
def lS (p1:List Za) (p2 p3:Int):List Za:=p1.filter fun x=>(x.Kind == p2)&&(decide (x.Day≤p3))
theorem yr {p1:List Za} {p2 p3:Int} (hb:p1.length≤140737488355328):PSeq 93 [.ref [pL Za.enc p1] 0,.ref [pI p2] 0,.ref [pI p3] 0] DFp (lS p1 p2 p3):=by
 refine zD DFv Tryz.func93 (xQ Tryz.func93 rfl) rfl Tryz.ntmps93 Tryz.results93 rfl (fun κ lb h x hx=>CI h x (List.mem_filter.1 hx).1) df_un fun l J Jx S0 hY=>?_
 refine ii (gx ?_)
 refine aw [] [] [(7,pL Za.enc p1),(8,pI (p1.length:Int)),(9,pI 0)] bZ (by kernel_rfl) (ft ?_)
 refine nD ?_
 refine wY (Z:={ i:Nat // i≤p1.length }) (fun i=>[(0,.v (.func (.yield l) #[] #[])),(2,.ref [pI p2] 0),(3,.ref [pI p3] 0),(7,pL Za.enc p1),(8,pI (p1.length:Int)),(9,pI (i.1:Int))]) (fun i=>.inl (lS (p1.take i.1) p2 p3)) (fun i=>p1.length - i.1) ⟨0,Nat.zero_le _⟩ (by (repeat (first | exact tq | apply fY rfl))) rfl ?_
 rintro ⟨i,hi⟩ τ;dsimp only [aM]
 refine ii (gx ?_)
 refine aw [] [] [(10,pB (decide ((i:Int)<(p1.length:Int))))] bZ (by kernel_rfl) (ft ?_)
 refine ii (kJ rfl (fun hc=>gx ?_) fun hc=>gx ?_)
 ·have hlt:i<p1.length:=by have:=of_decide_eq_true hc;omega
  refine ag (ft ?_)
  refine ii (nD (ii (gx ?_)))
  have hm5:=CJ hlt
  have hxs:p1=p1.take i++p1[i]::p1.drop (i+1):=by rw [List.getElem_cons_drop];simp
  have htk:p1.take (i+1)=p1.take i++[p1[i]]:=by rw [List.take_add_one,List.getElem?_eq_getElem hlt];rfl
  generalize p1[i]=m5 at *
  have htk2:lS (p1.take (i+1)) p2 p3=cond ((m5.Kind == p2)&&(decide (m5.Day≤p3))) (lS (p1.take i) p2 p3++[m5]) (lS (p1.take i) p2 p3):=by
   rw [htk];unfold lS;rw [List.filter_append,List.filter_cons];cases ((m5.Kind == p2)&&(decide (m5.Day≤p3))) <;> simp
  refine ae ?_
  refine bC 2 [] [11] [(12,.agg (aF m5))] (jX 0 Za.enc hm5 bZ) (by kernel_rfl) ?_
  refine rX rfl rfl rfl (aX (cs:=[pI 0,pI 0,pI 0,pI 0,pS ByteArray.empty,pI 0,pI 0]) rfl rfl rfl rfl (fun b6=>?_))
  refine aH rfl rfl (aj (vs:=(aF m5)) rfl rfl rfl rfl rfl (by (repeat (first | exact cA | apply cG))) (by (repeat (first | exact Dy | apply gE | apply bP))) ?_)
  refine ap (ft ?_)
  refine ii (ud 13 rfl hY ?_)
  refine jY [0,0,0] [13,14,15,16,17,18,19,20,21,22] [(23,pB ((m5.Kind == p2)&&(decide (m5.Day≤p3)))),(24,pgv ((m5.Kind == p2)&&(decide (m5.Day≤p3))) (.v (.func (.yield l) #[] #[]))),(25,pgv ((m5.Kind == p2)&&(decide (m5.Day≤p3))) (.agg (aF m5)))] bZ (by kernel_rfl) ?_
  refine ⟨(m5.Kind == p2)&&(decide (m5.Day≤p3)),26,fun b=>pgv ((m5.Kind == p2)&&(decide (m5.Day≤p3))) (pB b),gD rfl rfl rfl,rfl,rfl,fun b h=>by rw [h];exact hX _,fun b h=>by rw [h];exact pW _,fun hC=>⟨.tmp 24,.tmp 25,_,m5,lS (p1.drop (i+1)) p2 p3,rfl,?_,?_,?_,?_,?_⟩,fun hC=>?_⟩
  ·show pgv _ _=_;rw [hC];exact hX _
  ·show pgv _ _=_;rw [hC];exact hX _
  ·conv=>lhs;rw [hxs]
   unfold lS;rw [List.filter_append,List.filter_cons,hC];rfl
  ·refine uW (c:=(m5.Kind == p2)&&(decide (m5.Day≤p3))) (gD rfl rfl rfl) rfl rfl (uY (p:=true) rfl (ue rfl)) ?_
   refine cd rfl rfl rfl (r7 (p:=(m5.Kind == p2)&&(decide (m5.Day≤p3))) (q := !true) rfl (AO rfl) (AO rfl) (ue rfl)) (ap (ft ?_))
   refine kJ rfl (fun hc=>absurd hc (by simp)) fun _=>gx (ag (qk (ft (gx ?_))))
   refine aw [] [29] [(9,pI (IntKind.i64.wrap ((i:Int)+1)))] bZ (by kernel_rfl) ?_
   rw [i64n hlt hb]
   refine ⟨⟨i+1,hlt⟩,(by (repeat (first | exact tq | apply fY rfl))),?_,(by show p1.length - (i+1)<p1.length - i;omega)⟩
   show Sum.inl _=Sum.inl (lS (p1.take (i+1)) p2 p3)
   rw [htk2,hC];rfl
  ·refine uW (c:=(m5.Kind == p2)&&(decide (m5.Day≤p3))) (gD rfl rfl rfl) rfl rfl (uY (p:=false) rfl (ue rfl)) ?_
   refine cd rfl rfl rfl (r7 (p:=(m5.Kind == p2)&&(decide (m5.Day≤p3))) (q := !false) rfl (AO rfl) (AO rfl) (ue rfl)) (ap (ft ?_))
   refine kJ rfl (fun hc=>gx (cC ?_)) fun hc=>absurd hc (by rw [hC];simp)
   exact ⟨.inl rfl,.inr ⟨_,rfl⟩⟩
  refine uW (c:=(m5.Kind == p2)&&(decide (m5.Day≤p3))) (gD rfl rfl rfl) rfl rfl (uY (p:=true) rfl (ue rfl)) ?_
  refine cd rfl rfl rfl (r7 (p:=(m5.Kind == p2)&&(decide (m5.Day≤p3))) (q := !true) rfl (AO rfl) (AO rfl) (ue rfl)) (ap (ft ?_))
  refine kJ rfl (fun hc=>absurd hc (by simp)) fun _=>gx (ag (qk (ft (gx ?_))))
  refine aw [] [29] [(9,pI (IntKind.i64.wrap ((i:Int)+1)))] bZ (by kernel_rfl) ?_
  rw [i64n hlt hb]
  refine ⟨⟨i+1,hlt⟩,(by (repeat (first | exact tq | apply fY rfl))),?_,(by show p1.length - (i+1)<p1.length - i;omega)⟩
  show Sum.inl _=Sum.inl (lS (p1.take (i+1)) p2 p3)
  rw [htk2,hC];rfl
 have hge:i=p1.length:=by have:=of_decide_eq_false hc;omega
 subst hge
 refine bA (pn ?_)
 refine po ?_
 rw [List.take_length]
 exact ⟨.inr rfl,.inl rfl⟩
end SX
end Go.Proofs.YtmgcadfnkchnfaaGreatDoor
namespace Go.Proofs.YtmgcadfnkchnfaaGreatDoor
namespace SX
open Go
def qm (a b:Int):Int:=if a<b then -1 else if b<a then 1 else 0
theorem vq (a b:Int):cS a b=some (qm a b):=by
 unfold cS gt qm
 simp only [bne_self_eq_false,cJ,dn]
 by_cases h:a<b
 ·rw [det h,if_pos h];rfl
 rw [bH h,if_neg h]
 by_cases h2:b<a
 ·rw [det h2,if_pos h2];rfl
 rw [bH h2,if_neg h2];rfl
theorem CK (a b:Int):jo [a,b]=some (if a=0 then b else a):=by
 unfold jo
 refine (lG (l:=[a,b]) (by simp) (fun _ x=>cond (x != 0) (some (.inr x)) none) (.inl ()) (fun k hk=>?_) (by rw [kO];rfl)).trans ?_
 ·rw [tp hk,cQ,bo (bp hk),gV hk (by simp)]
  cases ([a,b][k] != 0) <;> rfl
 rw [sw (fun x:Int=>x != 0) (fun x=>(Sum.inr x:Unit⊕Int))]
 by_cases ha:a=0
 ·subst ha
  by_cases hb:b=0
  ·subst hb;rfl
  simp [hb]
 simp [ha]
def jf (x y:Za):Int:=if qm x.From y.From=0 then qm x.Number y.Number else qm x.From y.From
def uf (x y:Za):Int:=if qm x.Day y.Day=0 then jf x y else qm x.Day y.Day
theorem pq (x y:Za):dz x y=some (jf x y):=by
 unfold dz jf
 rw [vq,vq]
 simp only [cJ,CK]
theorem CL (x y:Za):kW x y=some (uf x y):=by
 unfold kW uf
 rw [vq,pq]
 simp only [cJ,CK]
def cT (x y:Za):Bool:=decide (x.From<y.From)||(decide (x.From=y.From)&&decide (x.Number<y.Number))
def cO (x y:Za):Bool:=decide (x.Day<y.Day)||(decide (x.Day=y.Day)&&cT x y)
theorem sN (a b:Int):qm a b<0↔a<b:=by unfold qm;split <;> (try split) <;> omega
theorem iB (a b:Int):qm a b=0↔a=b:=by unfold qm;split <;> (try split) <;> omega
theorem qn (x y:Za):decide (jf x y<0)=cT x y:=by
 unfold jf cT
 by_cases h:x.From=y.From
 ·rw [if_pos ((iB _ _).2 h),decide_eq_decide.2 (sN _ _),det h,bH (by omega:¬ x.From<y.From)];rfl
 rw [if_neg (fun e=>h ((iB _ _).1 e)),bH h,show decide (qm x.From y.From<0)=decide (x.From<y.From) from decide_eq_decide.2 (sN _ _)];simp
theorem CM:ltOf uf=cO:=by
 funext x y
 unfold ltOf uf cO
 by_cases h:x.Day=y.Day
 ·rw [if_pos ((iB _ _).2 h),qn,det h,bH (by omega:¬ x.Day<y.Day)];rfl
 rw [if_neg (fun e=>h ((iB _ _).1 e)),bH h,show decide (qm x.Day y.Day<0)=decide (x.Day<y.Day) from decide_eq_decide.2 (sN _ _)];simp
theorem jt (x y:Za):cO x y=true↔x.Day<y.Day∨(x.Day=y.Day∧(x.From<y.From∨(x.From=y.From∧x.Number<y.Number))):=by simp [cO,cT]
theorem ug (x y:Za):cO x y=false↔¬ (x.Day<y.Day∨(x.Day=y.Day∧(x.From<y.From∨(x.From=y.From∧x.Number<y.Number)))):=by rw [← jt];simp
theorem nE (x:Za):cO x x=false:=by rw [ug];omega
theorem sO (x y z:Za):cO x y=true→cO y z=true→cO x z=true:=by simp only [jt];omega
theorem AP (x y z:Za):cO x y=false→cO y z=false→cO x z=false:=by simp only [ug];omega
def DA:List Za→Bool
 | []=>true
 | x::l=>l.all (fun y=>cO x y||cO y x)&&DA l
theorem zG:∀ {l:List Za},DA l=true→∀ x∈l,∀ y∈l,cO x y=false→cO y x=false→x=y
 | [],_,_,hx,_,_,_,_=>by cases hx
 | z::l,h,x,hx0,y,hy0,h1,h2=>by
  simp only [DA,Bool.and_eq_true,List.all_eq_true,Bool.or_eq_true] at h
  rcases List.mem_cons.1 hx0 with rfl | hx
  ·rcases List.mem_cons.1 hy0 with hy | hy
   ·exact hy.symm
   rcases h.1 y hy with e | e
   ·rw [e] at h1;cases h1
   rw [e] at h2;cases h2
  rcases List.mem_cons.1 hy0 with e0 | hy
  ·subst e0
   rcases h.1 x hx with e | e
   ·rw [e] at h2;cases h2
   rw [e] at h1;cases h1
  exact zG h.2 x hx y hy h1 h2
theorem zH {α β:Type} {lt:α→α→Bool} {lt':β→β→Bool} {f:β→α} (h:∀ a b,lt (f a) (f b)=lt' a b) (x:β):∀ l:List β,(mI lt' x l).map f=mI lt (f x) (l.map f)
 | []=>rfl
 | y::l=>by
  rw [List.map_cons,mI,mI,h]
  cases lt' y x
  ·rfl
  simp only [cQ,List.map_cons,zH h x l]
theorem uh {α β:Type} {lt:α→α→Bool} {lt':β→β→Bool} {f:β→α} (h:∀ a b,lt (f a) (f b)=lt' a b):∀ l:List β,(fi lt' l).map f=fi lt (l.map f)
 | []=>rfl
 | x::l=>by rw [fi,zH h,uh h l,List.map_cons,fi]
def bi (l:List Za):Option (List Za):=cond (DA l) (some (fi cO l)) none
def CN (x:Za):List Value:=[.int .i64 x.From,.int .i64 x.Number,.int .i64 x.Day,.int .i64 x.Kind,.string x.Country,.int .i64 x.Amount,.int .i64 x.Company]
theorem CO {κ:Kr}:∀ {xs:List Za} {css:List (List Value)},Rpss κ (xs.map Za.enc) css→∀ x∈xs,pV (.string x.Country)=true
 | [],_,_,_,hx=>by cases hx
 | y::xs,_,.cons h hs,x,hx=>by
  rcases List.mem_cons.1 hx with rfl | hx
  ·exact (ry h).2
  exact CO hs x hx
theorem dT {p0 r:List Za} (h:bi p0=some r) {a:Option Addr} {n c:Nat}:PCall 91 [.v (.slice a n c),.fn 50 []] [PRes.row a n c 93 7 (List.map Za.enc p0)] (fun pv ρ'=>pv=.tup []∧ρ'=[PRes.row a n c 93 7 (List.map Za.enc r)]):=fun κ args ρ gk ha hr=>by
 unfold bi at h
 cases hd:DA p0 with
 | false=>rw [hd] at h;cases h
 | true =>
 rw [hd] at h
 obtain rfl:=Option.some.inj h
 have hok:∀ x∈p0,pV (.string x.Country)=true:=by
  cases hr with | cons hr1 _=>cases hr1 with | row _ _ hc=>exact CO hc
 obtain ⟨q,hq,hp,z,hz,hzo⟩:∃ q:List Za,DA q=true∧(∀ x∈p0,x∈q)∧∃ z∈q,pV (.string z.Country)=true:=by
  cases p0 with
  | nil=>exact ⟨[⟨0,0,0,0,ByteArray.empty,0,0⟩],rfl,(fun x hx=>nomatch hx),_,List.mem_singleton.2 rfl,rfl⟩
  | cons y l=>exact ⟨y::l,hd,(fun x hx=>hx),y,by simp,hok y (by simp)⟩
 have hsub:∀ x∈p0,x∈q∧pV (.string x.Country)=true:=fun x hx=>⟨hp x hx,hok x hx⟩
 letI:Inhabited { x:Za // x∈q∧pV (.string x.Country)=true }:=⟨⟨z,hz,hzo⟩⟩
 have hlt:(ltOf fun x y:{ x:Za // x∈q∧pV (.string x.Country)=true }=>uf x.1 y.1)=fun x y=>cO x.1 y.1:=by
  funext x y;rw [← CM];rfl
 have e1:(p0.pmap Subtype.mk hsub).map (fun x=>x.1)=p0:=by rw [List.map_pmap];simp
 have e2:(fi (fun x y:{ x:Za // x∈q∧pV (.string x.Country)=true }=>cO x.1 y.1) (p0.pmap Subtype.mk hsub)).map (fun x=>x.1)=fi cO p0:=by
  rw [uh (lt:=cO) (fun _ _=>rfl),e1]
 have key:=callSF (α:={ x:Za // x∈q∧pV (.string x.Country)=true }) (T:=93) (enc:=fun x=>Za.enc x.1) (encV:=fun x=>CN x.1) Tryz.lSD rfl (xQ Tryz.func91 rfl) (xQ Tryz.func50 rfl) Tryz.isAgg93 Tryz.sizeOf93 (fun _=>rfl)
  (fun x v hv=>by unfold CN at hv;simp only [List.mem_cons,List.not_mem_nil,or_false] at hv;rcases hv with rfl | rfl | rfl | rfl | rfl | rfl | rfl <;> rfl) (fun κ x ds h=>(ry h).1) (fun κ x=>.cons (.v rfl) (.cons (.v rfl) (.cons (.v rfl) (.cons (.v rfl) (.cons (.v x.2.2) (.cons (.v rfl) (.cons (.v rfl) .nil)))))))
  (fun x y=>uf x.1 y.1) (by rw [hlt];exact ⟨fun x=>nE _,fun x y z=>sO _ _ _,fun x y z=>AP _ _ _⟩) (by rw [hlt];exact fun x y h1 h2=>Subtype.ext (zG hq _ x.2.1 _ y.2.1 h1 h2)) (fun x y=>sE (CL x.1 y.1)) (p0:=p0.pmap Subtype.mk hsub) (a:=a) (n:=n) (c:=c)
 rw [hlt] at key
 have m1:∀ l:List { x:Za // x∈q∧pV (.string x.Country)=true },List.map (fun x=>Za.enc x.1) l=List.map Za.enc (l.map fun x=>x.1):=fun l=>by rw [List.map_map];rfl
 rw [m1,m1,e1,e2] at key
 exact key κ args ρ gk ha hr
abbrev bl (s:ByteArray):List UInt8:=s.data.toList
theorem bl_hi (s:ByteArray) (k:Nat):bl (s.extract 0 k)=(bl s).take k:=by simp [bl]
theorem bl_lo (s:ByteArray) (k:Nat):bl (s.extract k s.size)=(bl s).drop k:=by
  simp only [bl,ByteArray.data_extract,Array.toList_extract,List.extract_eq_take_drop]
  rw [List.take_of_length_le];simp
theorem j8 (s:ByteArray):s.size=(bl s).length:=by simp [bl]
theorem bl_inj {s u:ByteArray} (h:bl s=bl u):s=u:=by
  obtain ⟨⟨x⟩⟩:=s;obtain ⟨⟨y⟩⟩:=u;simp [bl] at h;subst h;rfl
def jg (n:Nat):Bool:=decide (48≤n∧n≤57)
def eJ (p:Nat→Bool):List Value:=(List.range 256).map fun i=>.bool (p i)
theorem eg (p:Nat→Bool):(eJ p).length=256:=by simp [eJ]
theorem j9 (p:Nat→Bool) {j:Nat} (h:j<256):(eJ p)[j]?=some (.bool (p j)):=by simp [eJ,h]
theorem vr (p q:Nat→Bool) {j:Nat} (h:∀ i,q i=(decide (i=j)||p i)):(eJ p).set j (.bool true)=eJ q:=by
  apply List.ext_getElem?
  intro i
  rw [List.getElem?_set]
  simp only [eg]
  rcases Nat.lt_or_ge i 256 with hi | hi
  · rw [j9 q hi,j9 p hi,h i]
    by_cases e:j=i
    · subst e;simp [hi]
    · rw [if_neg e];simp [show ¬ i=j from fun h=>e h.symm]
  · rw [List.getElem?_eq_none (by rw [eg];exact hi),List.getElem?_eq_none (by rw [eg];exact hi)]
    split
    · rw [if_neg (by omega)]
    · rfl
section
variable {o:Oper} {σ:Env} {ρ:List Res} {κ:Kr} {c:Bool} {x y:Operand} {K:Value→List Res→Kr→Prop}
theorem Sh.at1 {b k:Nat} {cs:List Value} {v:Value} (h:Sh κ b 0 cs) (hv:cs[k]?=some v):Sh κ b (0+k*1) [v]:=⟨h.1,fun j u hu=>by
  cases j with
  | zero=>simp at hu;subst hu;have:=h.2 k v hv;simpa using this
  | succ j=>simp at hu⟩
theorem w6 {t b T sz by':Nat} {cs:List Value} {z:Value} {d:TypeDesc} (ho:o.op=.load t x) (hx:Ev σ c x (.pointer (some ⟨b,0,none⟩))) (hm:Res.b b T cs∈ρ) (hd:eK t=some d) (ha:ku d=true) (hi:fj t=some (z,sz,by')) (hl:cs.length=sz):OpQ c o σ ρ κ (.agg cs.toArray):=by
  refine tH ho hx hm ?_
  unfold iM
  simp only [hd,hi,ha,cond_true,List.drop_zero]
  rw [Nat.ble_eq_true_of_le (by omega)]
  simp [← hl]
end
attribute [local irreducible] WL WC WD OpL OpQ OpG Ev GuardIs xN jN Bz Call CallP midK rU Holds rE Sub Pick WS Step Lit Upd SetAt SpliceAt FillR Sh LateRun
theorem qN (κ:Kr) (b:Nat) (p:Nat→Bool) (m:Int) (hs:Sh κ b 0 (eJ p)) (h0:0≤m) (h1:m≤255):CallP 188 [.pointer (some ⟨b,0,none⟩),.int .u8 m] κ fun v _=>v=.bool (p m.toNat):=by
  (unfold CallP;apply kT Tryz.func188 (xQ Tryz.func188 rfl) rfl Tryz.ntmps188 Tryz.results188 rfl)
  repeat (first | (first | (apply bx rfl rfl rfl;(focus (first | exact aC (v:=(.int _ _)) rfl (.p rfl) | exact aC (v:=(.pointer _)) rfl (.p rfl) | exact br (v:=(.bool _)) rfl (.p rfl) | exact mP rfl (.p rfl)))) | apply bO) | (first | apply bJ | apply aP | apply dr))
  apply bx rfl rfl rfl (pT (j:=m.toNat) rfl rfl rfl (.p rfl) (.p rfl) (fun _=>by omega) (fun _=>by omega))
  apply bx rfl rfl rfl (pM rfl (.p rfl) (fun _=>(hs.mono (by (repeat (exact Kle.refl _)))).at1 (j9 p (by omega))) rfl)
  repeat (first | (first | (apply bx rfl rfl rfl;(focus (exact br (v:=(.bool _)) rfl (.p rfl)))) | apply bO) | (first | apply dr | apply iI))
  exact jl (uQ (v:=.bool _) rfl) .none ⟨rfl,rfl⟩
def ib:ByteArray:=⟨#[48,49,50,51,52,53,54,55,56,57]⟩
theorem vt:∀ {k:Nat},k<10→((ib.data.toList.getD k 0).toNat:Int)=48+(k:Int):=by decide
theorem CP (κ:Kr):CallP 169 [.string ib] κ fun v _=>v=.tuple #[.agg (eJ jg).toArray,.bool true]:=by
  (unfold CallP;apply kT Tryz.func169 (xQ Tryz.func169 rfl) rfl Tryz.ntmps169 Tryz.results169 rfl)
  repeat (first | (first | (apply bx rfl rfl rfl;(focus (first | exact br (v:=(.int _ _)) rfl (.p rfl) | exact br (v:=(.bool _)) rfl (.p rfl)))) | (apply qT rfl rfl rfl;apply tI rfl rfl;intro _ _ _) | apply bO) | (first | apply bJ | apply aP | apply iJ | apply dr))
  rename_i b2 κ1 _
  have e0:List.replicate 256 (Value.bool false)=eJ (fun i=>decide (48≤i∧i<48+0)):=by
    apply List.ext_getElem?
    intro i
    rcases Nat.lt_or_ge i 256 with hi | hi
    · rw [j9 _ hi,List.getElem?_replicate,if_pos hi];congr 2;symm;rw [decide_eq_false_iff_not];omega
    · rw [List.getElem?_eq_none (by simpa using hi),List.getElem?_eq_none (by rw [eg];exact hi)]
  rw [e0]
  refine oL (X:=Nat) (fun k=>[(0,.string ib),(2,.pointer (some ⟨b2,0,none⟩)),(4,.int .i64 (k:Int))]) (fun k=>[Res.b b2 223 (eJ fun i=>decide (48≤i∧i<48+k))]) (fun k _=>k≤10) (fun k=>10 - k) 0 (by (repeat (first | exact Holds.nil | apply Holds.cons rfl))) (by (repeat (first | exact Sub.nil | (apply Sub.cons;(focus (repeat (exact Pick.h))))))) (by omega) ?_
  intro k τ κ2 _ hk
  simp only [rE]
  repeat (first | (first | (apply bx rfl rfl rfl;(focus (first | exact aC (v:=(.int _ _)) rfl (.p rfl) | exact aC (v:=(.string _)) rfl (.p rfl) | exact jO rfl (.p rfl) (.p rfl) rfl | exact kS rfl rfl (.p rfl)))) | apply bO) | (first | apply bJ | apply aP | apply dr))
  apply uR rfl <;> intro hc
  · have hk10:k<10:=by
      have e:(ib.size:Int)=10:=rfl
      rw [e] at hc;omega
    repeat (first | (apply bx rfl rfl rfl;(focus (first | exact aC (v:=(.int _ _)) rfl (.p rfl) | exact aC (v:=(.string _)) rfl (.p rfl)))) | (first | apply bJ | apply aP | apply iJ | apply dr | apply gy))
    apply bx rfl rfl rfl (lx (s:=ib) (j:=k) rfl rfl (.p rfl) (.p rfl) (fun _=>rfl) (fun _=>hk10))
    rw [vt hk10]
    repeat (first | (first | (apply bx rfl rfl rfl;(focus (first | exact aC (v:=(.int _ _)) rfl (.p rfl) | exact br (v:=(.int _ _)) rfl (.p rfl) | exact jO rfl (.p rfl) (.p rfl) rfl))) | apply bO) | (first | apply bJ | apply aP | apply dr))
    apply vW (by have:¬ (128:Int)≤48+(k:Int):=by omega
                 simp [ev,upd,this])
    repeat (first | (apply bx rfl rfl rfl;(focus (exact aC (v:=(.int _ _)) rfl (.p rfl)))) | (first | apply aP | apply dr | apply gy))
    apply bx rfl rfl rfl (pT (j:=48+k) rfl rfl rfl (.p rfl) (.p rfl) (fun _=>by omega) (fun _=>by omega))
    apply yZ rfl rfl
    apply Ap (v:=.bool true) rfl rfl rfl rfl rfl rfl (by (repeat (exact Upd.h))) (by rw [eg];omega)
    intro κ3 _
    have e1:(eJ fun i=>decide (48≤i∧i<48+k)).set (0+(48+k)*1) (.bool true)=eJ fun i=>decide (48≤i∧i<48+(k+1)) :=
      vr _ _ fun i=>by rw [Bool.eq_iff_iff];simp;omega
    rw [e1]
    repeat (first | (first | (apply bx rfl rfl rfl;(focus (first | exact aC (v:=(.int _ _)) rfl (.p rfl) | exact br (v:=(.int _ _)) rfl (.p rfl) | exact ey rfl (.p rfl) (.p rfl) rfl (fun _=>by omega)))) | apply bO) | (first | apply aP | apply dr | apply nv))
    exact uP (k+1) (by (repeat (first | exact Holds.nil | apply Holds.cons rfl))) (by (repeat (first | exact Sub.nil | (apply Sub.cons;(focus (repeat (exact Pick.h))))))) (by omega) (by omega)
  · have hk10:k=10:=by
      have e:(ib.size:Int)=10:=rfl
      rw [e] at hc;omega
    subst hk10
    have e2:(fun i=>decide (48≤i∧i<48+10))=jg:=by funext i;simp only [jg];rw [Bool.eq_iff_iff];simp;omega
    rw [e2]
    apply lX;apply jj;apply iv;apply jk rfl;apply dr;apply bJ;apply aP
    apply bx rfl rfl rfl (w6 rfl (.p rfl) (by (repeat (exact List.Mem.head _))) rfl rfl rfl (eg _))
    apply yZ rfl rfl
    apply tJ rfl rfl rfl rfl (eg _) (by simp [eJ,Value.oneCell']) (by (repeat (exact Upd.h))) rfl
    intro κ3 _
    repeat (first | (first | (apply bx rfl rfl rfl;(focus (exact br (v:=(.bool _)) rfl (.p rfl)))) | apply bO) | (first | apply dr | apply iI))
    refine jl (rv_2 (RV1.cell rfl (by (repeat (exact List.Mem.head _))) ?_) (rv1_t (v:=.bool _) rfl)) .none ⟨rfl,rfl⟩
    unfold iM
    simp only [show eK 223=some (.array 256 4) from rfl,show fj 223=some (.agg (List.replicate 256 (.bool false)).toArray,256,256) from rfl,ku,cond_true,List.drop_zero,eg]
    rw [List.take_of_length_le (by rw [eg];omega)];rfl
theorem rz {l:List UInt8} {j:Nat} (h:j<l.length):l.getD j 0=l[j]:=by simp [List.getD_eq_getElem?_getD,h]
theorem vu (κ:Kr) (b:Nat) (s:ByteArray) (hs:Sh κ b 0 (eJ jg)) (hz:s.size≤1000000000):CallP 171 [.string s,.pointer (some ⟨b,0,none⟩)] κ fun v _=>∃ u k,v=.string u∧bl u=(bl s).take k∧k≤(bl s).length∧(∀ c∈(bl s).drop k,jg c.toNat=true)∧(∀ c,(bl u).getLast?=some c→jg c.toNat=false):=by
  (unfold CallP;apply kT Tryz.func171 (xQ Tryz.func171 rfl) rfl Tryz.ntmps171 Tryz.results171 rfl)
  repeat (first | (first | (apply bx rfl rfl rfl;(focus (exact br (v:=(.string _)) rfl (.p rfl)))) | apply bO) | (first | apply bJ | apply aP | apply iJ | apply dr))
  refine oL (X:=ByteArray×Nat) (fun z=>[(0,.string z.1),(1,.pointer (some ⟨b,0,none⟩))]) (fun _=>[]) (fun z _=>bl z.1=(bl s).take z.2∧z.2≤(bl s).length∧∀ c∈(bl s).drop z.2,jg c.toNat=true) (fun z=>z.2) (s,(bl s).length) (by (repeat (first | exact Holds.nil | apply Holds.cons rfl))) (by (repeat (exact Sub.nil))) ⟨(List.take_length).symm,Nat.le_refl _,by rw [List.drop_length];simp⟩ ?_
  rw [j8] at hz
  rintro ⟨u,k⟩ τ κ2 _ ⟨h1,h2,h3⟩
  dsimp only at h1 h2 h3
  have hsz:u.size=k:=by rw [j8,h1,List.length_take];omega
  simp only [rE]
  repeat (first | (first | (apply bx rfl rfl rfl;(focus (first | exact aC (v:=(.string _)) rfl (.p rfl) | exact jO rfl (.p rfl) (.p rfl) rfl | exact kS rfl rfl (.p rfl)))) | apply bO) | (first | apply bJ | apply aP | apply dr))
  apply uR rfl <;> intro hc
  · have hk0:0<k:=by omega
    repeat (first | (apply bx rfl rfl rfl;(focus (first | exact aC (v:=(.pointer _)) rfl (.p rfl) | exact aC (v:=(.string _)) rfl (.p rfl) | exact ey rfl (.p rfl) (.p rfl) rfl (fun _=>by omega) | exact kS rfl rfl (.p rfl)))) | (first | apply bJ | apply aP | apply iJ | apply dr | apply gy))
    apply bx rfl rfl rfl (lx (j:=k - 1) rfl rfl (.p rfl) (.p rfl) (fun _=>by omega) (fun _=>by omega))
    have hlast:(bl u).getLast?=some ((bl u).getD (k - 1) 0):=by
      rw [List.getLast?_eq_getElem?,← j8,hsz,rz (by rw [← j8];omega),List.getElem?_eq_getElem]
    apply qT rfl rfl rfl;apply kv rfl rfl (qN _ b jg ((u.data.toList.getD (k - 1) 0).toNat:Int) (hs.mono (by (repeat (assumption)))) (by omega) (by have:=(u.data.toList.getD (k - 1) 0).toNat_lt;omega))
    rintro v κ3 _ rfl
    repeat (first | (first | (apply bx rfl rfl rfl;(focus (exact uD rfl (.p rfl)))) | apply bO) | (apply dr))
    rw [Int.toNat_natCast]
    apply iK rfl <;> intro hb
    · repeat (first | (first | (apply bx rfl rfl rfl;(focus (first | exact aC (v:=(.string _)) rfl (.p rfl) | exact br (v:=(.string _)) rfl (.p rfl)))) | apply bO) | (first | apply bJ | apply aP | apply dr | apply iI | apply lX | apply jj | apply jk rfl | apply rT rfl | apply iv))
      refine jl (uQ (v:=.string _) rfl) .none ⟨rfl,u,k,rfl,h1,h2,h3,fun c hc=>?_⟩
      rw [hlast] at hc;injection hc with hc;subst hc;simpa using hb
    · repeat (first | (apply bx rfl rfl rfl;(focus (first | exact aC (v:=(.string _)) rfl (.p rfl) | exact ey rfl (.p rfl) (.p rfl) rfl (fun _=>by omega) | exact kS rfl rfl (.p rfl)))) | (first | apply aP | apply dr | apply gy))
      apply bx rfl rfl rfl (qD (h:=k - 1) rfl rfl (.p rfl) (.p rfl) (fun _=>by omega) (fun _=>by omega))
      repeat (first | (first | (apply bx rfl rfl rfl;(focus (exact br (v:=(.string _)) rfl (.p rfl)))) | apply bO) | (apply nv))
      refine uP (u.extract 0 (k - 1),k - 1) (by (repeat (first | exact Holds.nil | apply Holds.cons rfl))) (by (repeat (exact Sub.nil))) ⟨?_,by ((try dsimp only at *) <;> omega),?_⟩ (by ((try dsimp only at *) <;> omega))
      · rw [bl_hi,h1,List.take_take];congr 1;omega
      · intro c hc
        rw [List.drop_eq_getElem_cons (by omega)] at hc
        rcases List.mem_cons.1 hc with rfl | hc
        · have e:(bl u).getD (k - 1) 0=(bl s)[k - 1]'(by omega):=by
            rw [rz (by rw [← j8];omega)];simp [h1]
          rw [← e];simpa using hb
        · rw [show k - 1+1=k by omega] at hc;exact h3 c hc
  · repeat (first | (first | (apply bx rfl rfl rfl;(focus (first | exact aC (v:=(.string _)) rfl (.p rfl) | exact br (v:=(.string _)) rfl (.p rfl)))) | apply bO) | (first | apply bJ | apply aP | apply dr | apply iI | apply lX | apply jj | apply jk rfl | apply iv))
    refine jl (uQ (v:=.string _) rfl) .none ⟨rfl,u,k,rfl,h1,h2,h3,fun c hc'=>?_⟩
    have:bl u=[]:=List.eq_nil_of_length_eq_zero (by rw [← j8];omega)
    rw [this] at hc';cases hc'
end SX
namespace SX
open Go
attribute [local irreducible] WL WC WD OpL OpQ OpG Ev GuardIs xN jN Bz Call CallP midK rU Holds rE Sub Pick WS Step Lit Upd SetAt SpliceAt FillR Sh LateRun
theorem w7 (κ:Kr) (b:Nat) (s:ByteArray) (hs:Sh κ b 0 (eJ jg)):CallP 170 [.string s,.pointer (some ⟨b,0,none⟩)] κ fun v _=>∃ u k,v=.string u∧bl u=(bl s).drop k∧k≤(bl s).length∧(∀ c∈(bl s).take k,jg c.toNat=true)∧(∀ c,(bl u).head?=some c→jg c.toNat=false):=by
  (unfold CallP;apply kT Tryz.func170 (xQ Tryz.func170 rfl) rfl Tryz.ntmps170 Tryz.results170 rfl)
  repeat (first | (first | (apply bx rfl rfl rfl;(focus (exact br (v:=(.string _)) rfl (.p rfl)))) | apply bO) | (first | apply bJ | apply aP | apply iJ | apply dr))
  refine oL (X:=ByteArray×Nat) (fun z=>[(0,.string z.1),(1,.pointer (some ⟨b,0,none⟩))]) (fun _=>[]) (fun z _=>bl z.1=(bl s).drop z.2∧z.2≤(bl s).length∧∀ c∈(bl s).take z.2,jg c.toNat=true) (fun z=>(bl s).length - z.2) (s,0) (by (repeat (first | exact Holds.nil | apply Holds.cons rfl))) (by (repeat (exact Sub.nil))) ⟨rfl,Nat.zero_le _,by simp⟩ ?_
  rintro ⟨u,k⟩ τ κ2 _ ⟨h1,h2,h3⟩
  dsimp only at h1 h2 h3
  have hsz:u.size=(bl s).length - k:=by rw [j8,h1,List.length_drop]
  simp only [rE]
  repeat (first | (first | (apply bx rfl rfl rfl;(focus (first | exact aC (v:=(.string _)) rfl (.p rfl) | exact jO rfl (.p rfl) (.p rfl) rfl | exact kS rfl rfl (.p rfl)))) | apply bO) | (first | apply bJ | apply aP | apply dr))
  apply uR rfl <;> intro hc
  · have hk0:k<(bl s).length:=by omega
    have hu0:0<(bl u).length:=by rw [← j8];omega
    repeat (first | (apply bx rfl rfl rfl;(focus (first | exact aC (v:=(.pointer _)) rfl (.p rfl) | exact aC (v:=(.string _)) rfl (.p rfl)))) | (first | apply bJ | apply aP | apply iJ | apply dr | apply gy))
    apply bx rfl rfl rfl (lx (j:=0) rfl rfl (.p rfl) (.p rfl) (fun _=>by omega) (fun _=>by omega))
    have hhead:(bl u).head?=some ((bl u).getD 0 0):=by
      rw [List.head?_eq_getElem?,rz hu0,List.getElem?_eq_getElem hu0]
    apply qT rfl rfl rfl;apply kv rfl rfl (qN _ b jg ((u.data.toList.getD 0 0).toNat:Int) (hs.mono (by (repeat (assumption)))) (by omega) (by have:=(u.data.toList.getD 0 0).toNat_lt;omega))
    rintro v κ3 _ rfl
    repeat (first | (first | (apply bx rfl rfl rfl;(focus (exact uD rfl (.p rfl)))) | apply bO) | (apply dr))
    rw [Int.toNat_natCast]
    apply iK rfl <;> intro hb
    · repeat (first | (first | (apply bx rfl rfl rfl;(focus (first | exact aC (v:=(.string _)) rfl (.p rfl) | exact br (v:=(.string _)) rfl (.p rfl)))) | apply bO) | (first | apply bJ | apply aP | apply dr | apply iI | apply lX | apply jj | apply jk rfl | apply rT rfl | apply iv))
      refine jl (uQ (v:=.string _) rfl) .none ⟨rfl,u,k,rfl,h1,h2,h3,fun c hc=>?_⟩
      rw [hhead] at hc;injection hc with hc;subst hc;simpa using hb
    · repeat (first | (apply bx rfl rfl rfl;(focus (exact aC (v:=(.string _)) rfl (.p rfl)))) | (first | apply aP | apply dr | apply gy))
      apply bx rfl rfl rfl (qE (l:=1) rfl rfl (.p rfl) (.p rfl) (fun _=>by omega) (fun _=>by omega))
      repeat (first | (first | (apply bx rfl rfl rfl;(focus (exact br (v:=(.string _)) rfl (.p rfl)))) | apply bO) | (apply nv))
      refine uP (u.extract 1 u.size,k+1) (by (repeat (first | exact Holds.nil | apply Holds.cons rfl))) (by (repeat (exact Sub.nil))) ⟨?_,by ((try dsimp only at *) <;> omega),?_⟩ (by ((try dsimp only at *) <;> omega))
      · rw [bl_lo,h1,List.drop_drop]
      · intro c hc
        rw [List.take_add_one] at hc
        rcases List.mem_append.1 hc with hc | hc
        · exact h3 c hc
        · have e:(bl u).getD 0 0=(bl s)[k]'hk0:=by rw [rz hu0];simp [h1]
          rw [List.getElem?_eq_getElem hk0] at hc
          simp only [Option.toList_some,List.mem_cons,List.not_mem_nil,or_false] at hc
          subst hc;rw [← e];simpa using hb
  · repeat (first | (first | (apply bx rfl rfl rfl;(focus (first | exact aC (v:=(.string _)) rfl (.p rfl) | exact br (v:=(.string _)) rfl (.p rfl)))) | apply bO) | (first | apply bJ | apply aP | apply dr | apply iI | apply lX | apply jj | apply jk rfl | apply iv))
    refine jl (uQ (v:=.string _) rfl) .none ⟨rfl,u,k,rfl,h1,h2,h3,fun c hc'=>?_⟩
    have:bl u=[]:=List.eq_nil_of_length_eq_zero (by rw [← j8];omega)
    rw [this] at hc';cases hc'
def kK (s:ByteArray):Bool:=(bl s).all fun c=>jg c.toNat
theorem ui {s:ByteArray}:s=⟨#[]⟩↔bl s=[]:=⟨fun h=>by rw [h],fun h=>bl_inj (by rw [h])⟩
theorem trim_ok (κ:Kr) (s:ByteArray) (hz:s.size≤1000000000):CallP 138 [.string s,.string ib] κ fun v _=>∃ u,v=.string u∧(u=⟨#[]⟩↔kK s=true):=by
  (unfold CallP;apply kT Tryz.func138 (xQ Tryz.func138 rfl) rfl Tryz.ntmps138 Tryz.results138 rfl)
  repeat (first | (first | (apply bx rfl rfl rfl;(focus (first | exact aC (v:=(.bool _)) rfl (.p rfl) | exact aC (v:=(.string _)) rfl (.p rfl) | exact br (v:=(.string _)) rfl (.p rfl) | exact oq_or rfl (.p rfl) (.p rfl) (.g rfl) | exact uF rfl (.p rfl) (.p rfl) rfl))) | (apply rJ;(focus (exact yY rfl rfl rfl));rfl;rfl;(focus (first | (apply aC (v:=(.string _)) rfl;(focus (exact Ev.p rfl))) | (apply uF rfl (by (focus (exact Ev.g rfl))) (by (focus (exact Ev.p rfl)));rfl)))) | apply bO) | (first | apply bJ | apply aP | apply dr))
  apply iK rfl <;> intro hb
  · repeat (first | (first | (apply bx rfl rfl rfl;(focus (first | exact aC (v:=(.string _)) rfl (.p rfl) | exact br (v:=(.string _)) rfl (.p rfl)))) | apply bO) | (first | apply bJ | apply aP | apply dr | apply iI | apply pR))
    have:s=⟨#[]⟩:=by simpa [ib] using hb
    refine jl (uQ (v:=.string _) rfl) .none ⟨rfl,s,rfl,?_⟩
    subst this;simp [kK,bl]
  · have hne:¬ bl s=[]:=fun h=>by rw [ui.2 h] at hb;simp at hb
    repeat (first | (first | (apply bx rfl rfl rfl;(focus (first | exact aC (v:=(.bool _)) rfl (.p rfl) | exact aC (v:=(.string _)) rfl (.p rfl) | exact jO rfl (.p rfl) (.p rfl) rfl | exact kS rfl rfl (.p rfl)))) | (apply rJ;(focus (exact lW rfl rfl rfl));rfl;rfl;(focus (apply aC (v:=(.string _)) rfl;(focus (exact Ev.p rfl)))))) | (first | apply bJ | apply aP | apply dr | apply gy))
    apply rJ;(focus (exact lW rfl rfl rfl));rfl;rfl;exact lx (s:=ib) (j:=0) rfl rfl (.g rfl) (.p rfl) (fun _=>rfl) (fun _=>by decide)
    repeat (first | (first | (apply bx rfl rfl rfl;(focus (exact xO rfl (.p rfl) (.p rfl) (.g rfl)))) | (apply rJ;(focus (exact lW rfl rfl rfl));rfl;rfl;(focus (apply jO rfl (by (focus (exact Ev.g rfl))) (by (focus (exact Ev.p rfl)));rfl))) | apply bO) | (apply dr))
    apply iK rfl <;> intro hb2
    · have e:(ib.size:Int)=10:=rfl
      rw [e] at hb2;simp at hb2
    repeat (first | (apply bx rfl rfl rfl;(focus (exact aC (v:=(.string _)) rfl (.p rfl)))) | (first | apply bJ | apply aP | apply dr | apply gy))
    refine wl_fun rfl rfl rfl rfl rfl (CP _) fun κ1 _=>?_
    repeat (first | (first | (apply bx rfl rfl rfl;(focus (first | exact aC (v:=(.bool _)) rfl (.p rfl) | exact aC (v:=(.tuple _)) rfl (.p rfl) | exact br (v:=(.bool _)) rfl (.p rfl) | exact rK rfl (.p rfl) rfl))) | (apply qT rfl rfl rfl;apply tI rfl rfl;intro _ _ _) | (apply yZ rfl rfl;apply tJ rfl rfl rfl rfl rfl rfl;(focus (repeat (exact Upd.h)));rfl;intro _ _) | apply bO) | (first | apply bJ | apply aP | apply dr))
    rename_i b5 _ _ _ _
    apply wc_pub (b:=b5) Pick.h rfl;intro κ3 _ hS hsays
    have hset:=BM hS hsays
    apply vV rfl
    repeat (first | (apply bx rfl rfl rfl;(focus (exact aC (v:=(.string _)) rfl (.p rfl)))) | (first | apply bJ | apply aP))
    apply qT rfl rfl rfl;apply kv rfl rfl (vu _ b5 s (hset.mono (by (repeat (exact Kle.refl _)))) hz)
    rintro v κ4 _ ⟨u,k,rfl,h1,h2,h3,h4⟩
    apply qT rfl rfl rfl;apply kv rfl rfl (w7 _ b5 u (hset.mono (by (repeat (assumption)))))
    rintro v κ5 _ ⟨u2,k2,rfl,g1,g2,g3,g4⟩
    repeat (first | (first | (apply bx rfl rfl rfl;(focus (exact br (v:=(.string _)) rfl (.p rfl)))) | apply bO) | (first | apply dr | apply iI | apply pR))
    refine jl (uQ (v:=.string _) rfl) .none ⟨rfl,u2,rfl,?_⟩
    rw [ui]
    unfold kK
    rw [List.all_eq_true]
    constructor
    · intro h
      have hk2:k2=(bl u).length:=by
        have:=congrArg List.length (g1.symm.trans h);simp only [List.length_drop,List.length_nil] at this;omega
      intro c hc
      rw [← List.take_append_drop k (bl s)] at hc
      rcases List.mem_append.1 hc with hc | hc
      · rw [← h1] at hc;rw [hk2,List.take_length] at g3;exact g3 c hc
      · exact h3 c hc
    · intro h
      have hu:bl u=[]:=by
        rcases List.eq_nil_or_concat (bl u) with hu | ⟨l,c,hu⟩
        · exact hu
        · have hc:=h4 c (by rw [hu];simp)
          have hm:c∈bl s:=List.mem_of_mem_take (i:=k) (by rw [← h1,hu];simp)
          rw [h c hm] at hc;cases hc
      rw [g1,hu];simp
def Glob (κ:Kr):Prop:=Sh κ 0 0 [.int .i64 2,.int .i64 4,.int .i64 6,.int .i64 8]
theorem Glob.mono {κ κ':Kr} (h:Glob κ) (k:Kle κ κ'):Glob κ':=Sh.mono h k
def gA (s:ByteArray):Int:=if (s.size=2∨s.size=4∨s.size=6∨s.size=8)∧kK s=true then (s.size:Int) else 0
theorem gv_some {c:Bool} {v:Value} {P:ByteArray→Prop} (h:c=true→∃ u,v=.string u∧P u):∃ u,gv c v=gv c (.string u)∧(c=true→P u):=by
  cases c
  · exact ⟨⟨#[]⟩,by rw [gC,gC],fun h=>by cases h⟩
  · obtain ⟨u,rfl,h2⟩:=h rfl;exact ⟨u,rfl,fun _=>h2⟩
theorem CQ (κ:Kr) (s:ByteArray) (hg:Glob κ):CallP 112 [.string s] κ fun v _=>v=.int .i64 (gA s):=by
  (unfold CallP;apply kT Tryz.func112 (xQ Tryz.func112 rfl) rfl Tryz.ntmps112 Tryz.results112 rfl)
  repeat (first | (first | (apply bx rfl rfl rfl;(focus (exact br (v:=(.int _ _)) rfl (.p rfl)))) | apply bO) | (first | apply bJ | apply aP | apply dr))
  apply bx rfl rfl rfl (pM rfl (.p rfl) (fun _=>hg) rfl)
  repeat (first | (first | (apply bx rfl rfl rfl;(focus (exact aC (v:=(.int _ _)) rfl (.p rfl)))) | apply bO) | (first | apply iJ | apply dr))
  refine oL (X:=Nat) (fun k=>[(0,.string s),(5,.agg #[.int .i64 2,.int .i64 4,.int .i64 6,.int .i64 8]),(6,.int .i64 (k:Int))]) (fun _=>[]) (fun k _=>k≤4∧∀ j,j<k→¬ (s.size=2*(j+1)∧kK s=true)) (fun k=>4 - k) 0 (by (repeat (first | exact Holds.nil | apply Holds.cons rfl))) (by (repeat (exact Sub.nil))) ⟨by omega,by omega⟩ ?_
  rintro k τ κ1 _ ⟨hk,hno⟩
  simp only [rE]
  repeat (first | (first | (apply bx rfl rfl rfl;(focus (exact jO rfl (.p rfl) (.p rfl) rfl))) | apply bO) | (first | apply bJ | apply aP | apply dr))
  apply uR rfl <;> intro hc
  · have hk4:k<4:=by omega
    repeat (first | apply bJ | apply aP | apply iJ | apply dr | apply gy)
    apply bx rfl rfl rfl (Ao (cs:=[.int .i64 2,.int .i64 4,.int .i64 6,.int .i64 8]) (v:=.int .i64 (2*((k:Int)+1))) (j:=k) rfl rfl rfl rfl rfl (.p rfl) (.p rfl) (fun _=>rfl) (fun _=>hk4) (fun _=>by
      have:k=0∨k=1∨k=2∨k=3:=by omega
      rcases this with rfl | rfl | rfl | rfl <;> rfl))
    repeat (first | (first | (apply bx rfl rfl rfl;(focus (first | exact aC (v:=(.int _ _)) rfl (.p rfl) | exact aC (v:=(.bool _)) rfl (.p rfl) | exact aC (v:=(.string _)) rfl (.p rfl) | exact br (v:=(.int _ _)) rfl (.p rfl) | exact jO rfl (.p rfl) (.p rfl) rfl | exact kS rfl rfl (.p rfl)))) | (apply rJ;(focus (exact lW rfl rfl rfl));rfl;rfl;(focus (apply aC (v:=(.string _)) rfl;(focus (exact Ev.p rfl))))) | apply bO) | (first | apply bJ | apply aP | apply dr))
    apply wl_g;(focus (exact lW rfl rfl rfl));rfl;rfl
    refine vZ rfl (ar2 (.g rfl) (.p rfl)) (fun hcc=>trim_ok _ s (by simp at hcc;omega)) fun v κ2 _ hv=>?_
    obtain ⟨u,hu,hP⟩:=gv_some hv
    rw [hu]
    repeat (first | (first | (apply bx rfl rfl rfl;(focus (exact xO rfl (.p rfl) (.p rfl) (.g rfl)))) | (apply rJ;(focus (exact lW rfl rfl rfl));rfl;rfl;(focus (apply uF rfl (by (focus (exact Ev.g rfl))) (by (focus (exact Ev.p rfl)));rfl))) | apply bO) | (apply dr))
    apply iK rfl <;> intro hb
    · simp only [Bool.and_eq_true,beq_iff_eq,decide_eq_true_eq] at hb
      have hd:kK s=true:=(hP (by simpa using hb.1)).1 hb.2
      repeat (first | (first | (apply bx rfl rfl rfl;(focus (first | exact aC (v:=(.int _ _)) rfl (.p rfl) | exact br (v:=(.int _ _)) rfl (.p rfl)))) | apply bO) | (first | apply bJ | apply aP | apply dr | apply iI | apply pR | apply wh | apply xU))
      refine jl (uQ (v:=.int _ _) rfl) .none ⟨rfl,?_⟩
      show Value.int .i64 (2*((k:Int)+1))=.int .i64 (gA s)
      unfold gA
      rw [if_pos ⟨by omega,hd⟩,← hb.1]
    · repeat (first | (first | (apply bx rfl rfl rfl;(focus (first | exact aC (v:=(.int _ _)) rfl (.p rfl) | exact ey rfl (.p rfl) (.p rfl) rfl (fun _=>by omega)))) | apply bO) | (first | apply aP | apply dr | apply gy | apply nv))
      refine uP (k+1) (by (repeat (first | exact Holds.nil | apply Holds.cons rfl))) (by (repeat (exact Sub.nil))) ⟨by omega,fun j hj=>?_⟩ (by omega)
      rcases Nat.lt_or_ge j k with h | h
      · exact hno j h
      · have:j=k:=by omega
        subst this
        rintro ⟨h1,h2⟩
        have hcc:((s.size:Int) == 2*((j:Int)+1))=true:=by simp;omega
        have:=(hP (by simpa using hcc)).2 h2
        subst this
        rw [hcc] at hb;simp at hb
  · repeat (first | (first | (apply bx rfl rfl rfl;(focus (exact br (v:=(.int _ _)) rfl (.p rfl)))) | apply bO) | (first | apply bJ | apply aP | apply dr | apply iI | apply lX | apply jj | apply jk rfl | apply iv))
    refine jl (uQ (v:=.int _ _) rfl) .none ⟨rfl,?_⟩
    show Value.int .i64 0=.int .i64 (gA s)
    unfold gA
    rw [if_neg]
    rintro ⟨h1,h2⟩
    have:k=4:=by omega
    subst this
    rcases h1 with h1 | h1 | h1 | h1
    · exact hno 0 (by omega) ⟨h1,h2⟩
    · exact hno 1 (by omega) ⟨h1,h2⟩
    · exact hno 2 (by omega) ⟨h1,h2⟩
    · exact hno 3 (by omega) ⟨h1,h2⟩
end SX
namespace SX
open Go
def dh (p0:ByteArray):Option Int:=some (gA p0)
theorem jh {p0:ByteArray} {r:Int} (h:dh p0=some r):PF 112 [.v (.string p0)] (.v (.int .i64 r)):=fun κ args g ha=>by
 obtain ⟨v,ws,rfl,h1,h2⟩:=ha.cons_inv
 rw [h2.nil_inv,h1.val]
 have h:=Option.some.inj h;subst h
 exact (CQ κ p0 (gok_len g)).mono fun v κ' _ hv=>by subst hv;exact .v rfl
end SX
end Go.Proofs.YtmgcadfnkchnfaaGreatDoor
set_option maxRecDepth 100000
namespace Go.Proofs.YtmgcadfnkchnfaaGreatDoor
namespace SX
open Go Go.RowKit
attribute [local irreducible] PWL PWC PWD POpL POpQ PEv PGuardIs PSub PPick PUpd PSplice PFill PLit PF PFV PCall FOk fX fp lA mR jP jS Cov PHolds aV idx app mk gd lb nz nH Bi sub mn ec qG tu eR cw eT dt IntKind.wrap Int.tmod Int.tdiv Op.bytesLess strOfNums
def qo (l:List Za):Bool:=Nat.ble l.length 140737488355328
def bB (p0:List Za):Option (List Za):=cond (qo p0) (some p0) none
def ei (p0:List Za) (p1 p2:Int):Option (List Za):=cond (qo p0) (some (lS p0 p1 p2)) none
theorem xa {l:List Za} {x r:List Za} (h:cond (qo l) (some x) none=some r):l.length≤140737488355328∧x=r:=by
 cases hc:qo l with
 | false=>rw [hc] at h;cases h
 | true=>rw [hc] at h;exact ⟨Nat.le_of_ble_eq_true hc,Option.some.inj h⟩
theorem fJ {p0 r:List Za} (h:bB p0=some r):PSeq 92 [.ref [pL Za.enc p0] 0] DFp r:=by
 obtain ⟨hb,rfl⟩:=xa h;exact yq hb
theorem fD {p0 r:List Za} {p1 p2:Int} (h:ei p0 p1 p2=some r):PSeq 93 [.ref [pL Za.enc p0] 0,.ref [pI p1] 0,.ref [pI p2] 0] DFp r:=by
 obtain ⟨hb,rfl⟩:=xa h;exact yr hb
theorem fT {p0 r:List Za} (h:bB p0=some r):PF 49 [pL Za.enc p0] (.fn 92 [.ref [pL Za.enc p0] 0]):=by
 refine bm ?_
 refine jy Tryz.func49 rfl Tryz.ntmps49 Tryz.results49 rfl ?_
 refine af ?_
 refine ae ?_
 refine rX rfl rfl rfl (bV (cs:=[pL Za.enc p0]) rfl rfl (fun b1=>?_))
 refine cd rfl rfl rfl (bc (p:=.v .nilFunc) rfl (.p rfl)) ?_
 refine ap ?_
 refine ar ?_
 refine af ?_
 refine ae ?_
 refine mi 1 rfl (by (repeat (first | exact bd | apply ba))) ?_
 refine cd rfl rfl rfl (mU rfl) ?_
 refine cd rfl rfl rfl (bc (p:=.fn 92 [.ref [pL Za.enc p0] 0]) rfl (.p rfl)) ?_
 refine ap ?_
 refine ar ?_
 refine cC ?_
 exact aG (fL (aI rfl)) cM ⟨rfl,rfl⟩
theorem gn {p0 r:List Za} {p1 p2:Int} (h:ei p0 p1 p2=some r):PF 51 [pL Za.enc p0,pI p1,pI p2] (.fn 93 [.ref [pL Za.enc p0] 0,.ref [pI p1] 0,.ref [pI p2] 0]):=by
 refine bm ?_
 refine jy Tryz.func51 rfl Tryz.ntmps51 Tryz.results51 rfl ?_
 refine af ?_
 refine ae ?_
 refine rX rfl rfl rfl (bV (cs:=[pL Za.enc p0]) rfl rfl (fun b1=>?_))
 refine rX rfl rfl rfl (bV (cs:=[pI p1]) rfl rfl (fun b2=>?_))
 refine rX rfl rfl rfl (bV (cs:=[pI p2]) rfl rfl (fun b3=>?_))
 refine cd rfl rfl rfl (bc (p:=.v .nilFunc) rfl (.p rfl)) ?_
 refine ap ?_
 refine ar ?_
 refine af ?_
 refine ae ?_
 refine mi 3 rfl (by (repeat (first | exact bd | apply ba))) ?_
 refine mi 4 rfl (by (repeat (first | exact bd | apply ba))) ?_
 refine mi 5 rfl (by (repeat (first | exact bd | apply ba))) ?_
 refine cd rfl rfl rfl (mU rfl) ?_
 refine cd rfl rfl rfl (bc (p:=.fn 93 [.ref [pL Za.enc p0] 0,.ref [pI p1] 0,.ref [pI p2] 0]) rfl (.p rfl)) ?_
 refine ap ?_
 refine ar ?_
 refine cC ?_
 exact aG (fL (aI rfl)) cM ⟨rfl,rfl⟩
end SX
end Go.Proofs.YtmgcadfnkchnfaaGreatDoor
set_option maxRecDepth 100000
namespace Go.Proofs.YtmgcadfnkchnfaaGreatDoor
namespace SX
open Go Go.RowKit
section
variable {β:Base} {o:Oper} {σ:Env} {ρ:List Res} {κ:Kr} {c:Bool} {x y:Operand}
theorem sP {r r':Res} {l:List Res} (h:Zk β (r::l) κ) (hb:r'.blk=r.blk) (hs:r'.holds κ.w):Zk β (r'::l) κ :=
 ⟨h.le,h.fin,fun s hs'=>by
  rcases List.mem_cons.1 hs' with rfl | hs'
  ·exact hs
  ·exact h.own s (by simp [hs']),fun s hs' b hbs=>by
  rcases List.mem_cons.1 hs' with rfl | hs'
  ·exact h.blk r (by simp) b (hb ▸ hbs)
  exact h.blk s (by simp [hs']) b hbs,List.Pairwise.cons (fun s hs' b hbs=>(List.pairwise_cons.1 h.nd).1 s hs' b (hb ▸ hbs)) (List.pairwise_cons.1 h.nd).2⟩
theorem zI {m b n cp T sz:Nat} {css:List (List Value)} {l:List Res} {X:Code} {K:Exit→Post} (hp:Pick ρ (Res.row (some ⟨b,0,none⟩) n cp T sz css) l)
    (h:∀ junk,n≤cp→cp≤maxLen→css.length=n→(∀ cs∈css,cs.length=sz)→(css.flatten++junk).length=cp*sz→WC β m X K σ (Res.b b T (css.flatten++junk)::l) κ):WC β m X K σ ρ κ:=fun hi=>by
  have hi2:=hi.perm hp
  obtain ⟨_,h2,h3,h4,h5,cur,h6,h7,h8⟩:=hi2.own _ (List.mem_cons_self)
  have e:css.flatten++cur.toList.drop (n*sz)=cur.toList:=by rw [← h8,List.take_append_drop]
  refine h (cur.toList.drop (n*sz)) h4 h5 h2 h3 (by rw [e];simpa using h7) (sP hi2 rfl ?_)
  show _=some _
  rw [h6,e]
theorem uj {b n cp T sz:Nat} {cs:List Value} {css:List (List Value)} {l:List Res} (hp:Pick ρ (Res.b b T cs) l) (h2:css.length=n) (h3:∀ cs∈css,cs.length=sz) (h4:n≤cp) (h5:cp≤maxLen) (h7:cs.length=cp*sz) (h8:cs.take (n*sz)=css.flatten) :
    Shift ρ κ [Res.row (some ⟨b,0,none⟩) n cp T sz css] κ:=⟨rfl,fun β hi=>⟨by
  have hi2:=hi.perm hp
  have hb:κ.w.heap[b]?=some (.cells cs.toArray T (0,0)):=hi2.own _ (List.mem_cons_self)
  have:=sP (r':=Res.row (some ⟨b,0,none⟩) n cp T sz css) hi2 rfl ⟨rfl,h2,h3,h4,h5,cs.toArray,hb,by simpa using h7,by simpa using h8⟩
  exact this.sub (List.singleton_sublist.2 (by simp)),.refl _⟩⟩
theorem vw {w:World} {b off T dl dc sl sc m t ty E sz by':Nat} {cs vs:List Value} {sa:Option Addr} {z:Value} (hu:eK t=some (.slice E)) (hi:fj E=some (z,sz,by')) (hb:w.heap[b]?=some (.cells cs.toArray T (0,0))) (hm:Nat.min sl dl=m) (hv:vs.length=m*sz)
    (hsrc:∃ ad,sa=some ad∧∀ j u,vs[j]?=some u→w.cell? (ad.add j)=some u) (h1:vs.all Value.oneCell'=true) (hl:off+vs.length≤cs.length) :
    ∃ w',(Builtin.copy_ #[t,t] ty #[.slice (some ⟨b,off,none⟩) dl dc,.slice sa sl sc]).run Tryz.prog w=.ok (.int .i64 (m:Int)) w'∧(∀ i,i≠b→w'.heap[i]?=w.heap[i]?)∧w'.heap.size=w.heap.size∧w'.heap[b]?=some (.cells (cs.take off++vs++cs.drop (off+vs.length)).toArray T (0,0))∧w'.os=w.os∧w'.tape=w.tape∧w'.output=w.output:=by
  obtain ⟨w',hrun,g⟩:=ln hb hl h1
  obtain ⟨ad,rfl,hcell⟩:=hsrc
  refine ⟨w',?_,g⟩
  have hf:=run_firstCells_some (P:=Tryz.prog) w sz m ad sl sc vs hv hcell
  simp only [Builtin.copy_,Sem.run_bind,run_underlying (bI hu),Result.andThen_ok,Builtin.lenOf,Sem.run_pure,hm,cu hi,hf]
  simp [hm,hf,hrun,goInt,Builtin.lenOf,run_underlying (bI hu),cu hi]
theorem pr {K:Value→List Res→Kr→Prop} {d s:Operand} {b off T dl dc sl sc m t E sz by':Nat} {cs vs:List Value} {sa:Option Addr} {z:Value} {ρ':List Res} (ho:o.op=.call { callee:=.builtin .copy,args:=#[d,s],argTypes:=#[t,t] }) (hu:eK t=some (.slice E)) (hi:fj E=some (z,sz,by'))
    (hd:ev σ d=.slice (some ⟨b,off,none⟩) dl dc) (hs:ev σ s=.slice sa sl sc) (hm:Nat.min sl dl=m) (hv:vs.length=m*sz) (hsrc:∀ w,Stab ρ κ w→∃ ad,sa=some ad∧∀ j u,vs[j]?=some u→w.cell? (ad.add j)=some u) (h1:vs.all Value.oneCell'=true) (hl:off+vs.length≤cs.length)
    (hup:Upd ρ (Res.b b T cs) (Res.b b T (cs.take off++vs++cs.drop (off+vs.length))) ρ') (h:∀ κ',Kle κ κ'→K (.int .i64 (m:Int)) ρ' κ'):OpL o σ ρ κ K:=fun β hinv Nx hk=>by
  obtain ⟨l1,l2,hρ,hρ'⟩:=hup
  have hb:κ.w.heap[b]?=some (.cells cs.toArray T (0,0)):=hinv.own (Res.b b T cs) (by rw [hρ];simp)
  obtain ⟨w',hrun,g1,g2,g3,g4,g5,g6⟩:=vw (ty:=o.type) hu hi hb hm hv (hsrc _ hinv.stab) h1 hl
  unfold execOp
  simp only [ho,resolve,invoke,builtin,Sem.run_bind,Sem.run_pure,Result.andThen_ok,List.map_toArray,List.map_cons,List.map_nil,hd,hs]
  rw [hrun]
  simp only [Result.andThen_ok,OutV]
  obtain ⟨hi',hk'⟩:=hinv.turn (r:=Res.b b T cs) (r':=Res.b b T (cs.take off++vs++cs.drop (off+vs.length))) hρ rfl rfl g1 g2 g3 g4 g5 g6 (nr _ _ _ _ _ hrun)
  rw [← hρ'] at hi'
  exact hk _ _ _ hi' hk' (h _ hk')
theorem nR (z:Array Value) (n:Nat):(Builtin.zeroCells z n).size=n*z.size:=by simp [Builtin.zeroCells]
theorem na {w:World} {t tn ty E sz by' n c k:Nat} {z:Value} {a:Addr} {vs:List Value} (hu:eK t=some (.slice E)) (hx:eK tn=some (.int .i64)) (hi:fj E=some (z,sz,by')) (hz:0<sz) (hby:by'≤1000) (hk:0<k) (hc:c<n+k) (hn:n+k≤201)
    (hv:vs.length=n*sz) (hsrc:∀ j u,vs[j]?=some u→w.cell? (a.add j)=some u) :
    (Builtin.append_ #[t,tn] ty #[.slice (some a) n c,.int .i64 (k:Int)]).run Tryz.prog w =
      .ok (.slice (some ⟨w.heap.size,0,none⟩) (n+k) (grownCap w (n+k) c E)) (w.drew.alloc (.cells (vs.toArray++Builtin.zeroCells z.cells k++Builtin.zeroCells z.cells (grownCap w (n+k) c E - (n+k))) E)):=by
  obtain ⟨i,hinf,hz0,hsz,hbyt⟩:=nt hi
  have hw:IntKind.i64.wrap (k:Int)=k:=oF (by omega)
  have hf:=run_firstCells_some (P:=Tryz.prog) w.drew sz n a n c vs hv hsrc
  have hb1:¬ (281474976710656<(k:Int)*(i.bytes:Int)):=by
    rw [hbyt]
    have:k*by'≤201*1000:=Nat.mul_le_mul (by omega) hby
    have e:(k:Int)*(by':Int)=((k*by':Nat):Int):=by simp
    omega
  have hnc:¬ (n+k≤c):=by omega
  have hb2:¬ (281474976710656<Builtin.nextslicecap (n+k) c*i.bytes):=by
    rw [hbyt]
    have hle:Builtin.nextslicecap (n+k) c≤402:=by
      unfold Builtin.nextslicecap
      split
      · omega
      rw [if_pos (by omega)];omega
    have:Builtin.nextslicecap (n+k) c*by'≤402*1000:=Nat.mul_le_mul hle hby
    omega
  have h63:¬ (9223372036854775807<((n:Int)+(k:Int))):=by omega
  have hks:¬ (k=0∨sz=0):=by omega
  have hk0:¬ ((k:Int)<0):=by omega
  simp [Builtin.append_,run_underlying (bI hu),run_underlying (bI hx),cu hi,typeInfo,zeroValue,hinf,hz0,asInt,asIntOf,hw,hk0,hb1,hb2,hnc,h63,hks,Question.forced,newRow,grownCap,hf]
  intro h;exact absurd (Nat.mul_eq_zero.1 h) hks
theorem ol_appZ {K:Value→List Res→Kr→Prop} {s:Operand} {t tn E sz by' n cp k:Nat} {z:Value} {a:Addr} {vs:List Value} (ho:o.op=.call { callee:=.builtin .append,args:=#[s,x],argTypes:=#[t,tn] }) (hu:eK t=some (.slice E)) (hx:eK tn=some (.int .i64)) (hi:fj E=some (z,sz,by')) (hz:0<sz) (hzs:z.cells.size=sz) (hby:by'≤1000) (hk:0<k) (hc:cp<n+k) (hn:n+k≤201)
    (hs:ev σ s=.slice (some a) n cp) (hxv:ev σ x=.int .i64 (k:Int)) (hv:vs.length=n*sz) (hsrc:∀ w,Stab ρ κ w→∀ j u,vs[j]?=some u→w.cell? (a.add j)=some u)
    (h:∀ b c' zs κ',Kle κ κ'→n+k≤c'→c'≤maxLen→(vs++zs).length=c'*sz→K (.slice (some ⟨b,0,none⟩) (n+k) c') (Res.b b E (vs++zs)::ρ) κ'):OpL o σ ρ κ K:=fun β hinv Nx hK=>by
  have hrun:=na (ty:=o.type) hu hx hi hz hby hk hc hn hv (hsrc _ hinv.stab)
  unfold execOp
  simp only [ho,resolve,invoke,builtin,Sem.run_bind,Sem.run_pure,Result.andThen_ok,List.map_toArray,List.map_cons,List.map_nil,hs,hxv]
  rw [hrun]
  simp only [Result.andThen_ok,OutV]
  have hge:=grownCap_ge κ.w (n+k) cp E
  have hle:=grownCap_le_maxLen κ.w (n+k) cp E (by unfold maxLen;omega)
  generalize grownCap κ.w (n+k) cp E=g at *
  have e:(vs.toArray++Builtin.zeroCells z.cells k++Builtin.zeroCells z.cells (g - (n+k)))=(vs++((Builtin.zeroCells z.cells k).toList++(Builtin.zeroCells z.cells (g - (n+k))).toList)).toArray:=by
    rw [← List.append_assoc];simp
  rw [e]
  have hk1:Kle κ ⟨κ.w.drew,κ.S⟩:=⟨Nat.le_refl _,fun _ h=>h,fun _ _=>rfl⟩
  have hi2:Zk β ρ ⟨κ.w.drew,κ.S⟩:=hinv.drew
  have hlen:(vs++((Builtin.zeroCells z.cells k).toList++(Builtin.zeroCells z.cells (g - (n+k))).toList)).length=g*sz:=by
    have l1:(Builtin.zeroCells z.cells k).toList.length=k*sz:=by rw [Array.length_toList,nR,hzs]
    have l2:(Builtin.zeroCells z.cells (g - (n+k))).toList.length=(g - (n+k))*sz:=by rw [Array.length_toList,nR,hzs]
    rw [List.length_append,List.length_append,l1,l2,hv,← Nat.add_mul,← Nat.add_mul]
    congr 1;omega
  have hi3:=hi2.alloc (.cells (vs++((Builtin.zeroCells z.cells k).toList++(Builtin.zeroCells z.cells (g - (n+k))).toList)).toArray E) (Res.b κ.w.heap.size E (vs++((Builtin.zeroCells z.cells k).toList++(Builtin.zeroCells z.cells (g - (n+k))).toList))) rfl rfl
  have hk2:=hk1.trans (fu hi2.fin (.cells (vs++((Builtin.zeroCells z.cells k).toList++(Builtin.zeroCells z.cells (g - (n+k))).toList)).toArray E))
  exact hK _ _ _ hi3 hk2 (h κ.w.heap.size g _ _ hk2 hge hle hlen)
theorem xb {f t r E sz by' vb b off la ca lb' cb Tv T:Nat} {ts:Array Nat} {fn:Func} {z:Value} {cv cs:List Value} (ho:o.op=.call { callee:=.value (.func f),args:=#[x,y],argTypes:=ts }) (hf:Tryz.prog.funcs[f]?=some fn) (hname:(fn.name == "runtime.NumGoroutine")=false) (hb:fn.body.isNone=true) (hn:Extern.findNext fn=none) (he:Extern.find fn=some (Extern.SlicesOverlaps.overlaps #[t,t] #[r]))
    (hu:eK t=some (.slice E)) (hi:fj E=some (z,sz,by')) (hx:ev σ x=.slice (some ⟨vb,0,none⟩) la ca) (hy:ev σ y=.slice (some ⟨b,off,none⟩) lb' cb) (hne:vb≠b) (hm1:Res.b vb Tv cv∈ρ) (hm2:Res.b b T cs∈ρ) (hcs:cs.length≠0):OpQ true o σ ρ κ (.bool false):=fun _ w hs=>by
  have h1:w.heap[vb]?=some (.cells cv.toArray Tv (0,0)):=hs.own _ hm1
  have h2:w.heap[b]?=some (.cells cs.toArray T (0,0)):=hs.own _ hm2
  have hrun:=Lib.run_overlaps_apart (P:=Tryz.prog) w t r E (bI hu) sz (cu hi) ⟨vb,0,none⟩ ⟨b,off,none⟩ la ca lb' cb hne Tv T cv.length cs.length (by simp [World.shape?,h1]) (by simp [World.shape?,h2]) hcs (by simp [World.frozen?,h1]) (by simp [World.frozen?,h1])
  unfold execOp
  have hfv:ev σ (.func f)=.func (.func f) #[] #[]:=rfl
  simp only [ho,hfv,resolve,Deferred.ofValue,Sem.run_bind,Sem.run_pure,Result.andThen_ok,invoke,List.map_toArray,List.map_cons,List.map_nil,hx,hy]
  simp [run_callFunc_extern hf hname hb hn he,hrun,Result.andThen]
theorem sQ {m n cp T sz:Nat} {a:Option Addr} {css:List (List Value)} {l:List Res} {X:Code} {K:Exit→Post} (hp:Pick ρ (Res.row a n cp T sz css) l) (h1:a=none→n=0→cp=0→css=[]→WC β m X K σ ρ κ) (h2:∀ b,a=some ⟨b,0,none⟩→css.length=n→WC β m X K σ ρ κ):WC β m X K σ ρ κ:=fun hi=>by
 have hr:=(hi.perm hp).own _ (List.mem_cons_self)
 cases a with
 | none=>obtain ⟨e1,e2,e3⟩:=hr;exact h1 rfl e1 e2 e3 hi
 | some ad=>obtain ⟨e1,e2,_⟩:=hr;exact h2 ad.block (by rw [← e1]) e2 hi
end
end SX
end Go.Proofs.YtmgcadfnkchnfaaGreatDoor
set_option maxRecDepth 100000
namespace Go.Proofs.YtmgcadfnkchnfaaGreatDoor
namespace SX
open Go Go.RowKit
attribute [local irreducible] WL WD OpL OpQ IntKind.wrap
theorem add_off (b k:Nat):(⟨b,0,none⟩:Addr).add k=⟨b,k,none⟩:=by rw [fa,Nat.zero_add]
theorem slo {b n cp k sz:Nat} (h:k<cp):(Value.slice (if cp=k then some ⟨b,0,none⟩ else (some (⟨b,0,none⟩:Addr)).map (·.add (k*sz))) (n - k) (cp - k))=.slice (some ⟨b,k*sz,none⟩) (n - k) (cp - k):=by
 rw [if_neg (by omega)];simp only [Option.map_some,add_off]
theorem sR {w:World} {b off T j:Nat} {cs:List Value} {u:Value} (h:w.heap[b]?=some (.cells cs.toArray T (0,0))) (hu:cs[off+j]?=some u):w.cell? ((⟨b,off,none⟩:Addr).add j)=some u:=by
 rw [fa,hU h];exact hu
def q8 (css:List (List Value)) (i:Nat) (vs:List Value):List (List Value):=css.take i++[vs]++css.drop i
theorem xc {css:List (List Value)} {i:Nat} {vs:List Value} (hi:i≤css.length):(q8 css i vs).length=css.length+1:=by unfold q8;simp;omega
theorem xd {sz:Nat} {css:List (List Value)} {i:Nat} {vs:List Value} (h:∀ c∈css,c.length=sz) (hv:vs.length=sz):∀ c∈q8 css i vs,c.length=sz:=fun c hc=>by
 unfold q8 at hc
 rcases List.mem_append.1 hc with hc | hc
 ·rcases List.mem_append.1 hc with hc | hc
  ·exact h c (List.mem_of_mem_take hc)
  rw [List.mem_singleton.1 hc];exact hv
 exact h c (List.mem_of_mem_drop hc)
theorem uk {sz:Nat} {css:List (List Value)} {i:Nat} {vs:List Value} (h:∀ c∈css,c.length=sz) (hi:i≤css.length):(q8 css i vs).flatten=css.flatten.take (i*sz)++vs++css.flatten.drop (i*sz):=by
 unfold q8;rw [List.flatten_append,List.flatten_append,← tO h hi,← tP h hi];simp
theorem copies1 {A V D cs:List Value} {p q:Nat} (hA:cs.take p=A) (hp:A.length=p) (hV:V.length=q) (hl:p+q+D.length≤cs.length) :
    (cs.take p++V++cs.drop (p+V.length)).take (p+q)++D++(cs.take p++V++cs.drop (p+V.length)).drop (p+q+D.length)=A++V++D++cs.drop (p+q+D.length):=by
  have h1:(A++V).length=p+q:=by rw [List.length_append,hp,hV]
  rw [hA,hV,List.take_append_of_le_length (by omega),List.take_of_length_le (by omega),List.drop_append,List.drop_eq_nil_of_le (by omega),List.nil_append,List.drop_drop,h1]
  congr 2;omega
theorem copies2 {A V D cs:List Value} {p q:Nat} (hA:cs.take p=A) (hp:A.length=p) (hV:V.length=q) (hl:p+q+D.length≤cs.length) :
    (cs.take (p+q)++D++cs.drop (p+q+D.length)).take p++V++(cs.take (p+q)++D++cs.drop (p+q+D.length)).drop (p+V.length)=A++V++D++cs.drop (p+q+D.length):=by
  have h1:(cs.take (p+q)).length=p+q:=by rw [List.length_take];omega
  rw [List.append_assoc (cs.take (p+q)),List.take_append_of_le_length (by omega),List.take_take,Nat.min_eq_left (by omega),hA,hV,List.drop_append,List.drop_eq_nil_of_le (by omega),List.nil_append,h1,Nat.sub_self,List.drop_zero]
  simp
theorem AQ {β:Base} {m n cp T sz:Nat} {a:Option Addr} {css:List (List Value)} {l ρ:List Res} {X:Code} {K:Exit→Post} {σ:Env} {κ:Kr} (hp:Pick ρ (Res.row a n cp T sz css) l) (h:css.length=n→WC β m X K σ ρ κ):WC β m X K σ ρ κ :=
 sQ hp (fun _ h0 _ he=>h (by rw [he,h0];rfl)) fun _ _ hl=>h hl
theorem wc_ne {β:Base} {m b b':Nat} {r r':Res} {l ρ:List Res} {X:Code} {K:Exit→Post} {σ:Env} {κ:Kr} (hp:ρ.Perm (r::r'::l)) (hb:r.blk=some b) (hb':r'.blk=some b') (h:b≠b'→WC β m X K σ ρ κ):WC β m X K σ ρ κ:=by
 unfold WC
 exact fun hi=>h (fun e=>(List.pairwise_cons.1 (hi.perm hp).nd).1 r' (by simp) b hb (e ▸ hb')) hi
theorem xe {l:List Value} (k:Nat) (h:l.all Value.oneCell'=true):(l.drop k).all Value.oneCell'=true:=List.all_eq_true.2 fun x hx=>List.all_eq_true.1 h x (List.mem_of_mem_drop hx)
theorem xf {css:List (List Value)} (h:∀ d∈css,d.all Value.oneCell'=true):css.flatten.all Value.oneCell'=true:=List.all_eq_true.2 fun x hx=>by
 obtain ⟨d,hd,hx⟩:=List.mem_flatten.1 hx
 exact List.all_eq_true.1 (h d hd) x hx
theorem xg {κ:Kr} {a:Option Addr} {n c i vb:Nat} {css:List (List Value)} {vs:List Value} (hin:i≤n) (hn:n≤200) (hvs:vs.length=7) (hv1:vs.all Value.oneCell'=true) (hc1:∀ d∈css,d.all Value.oneCell'=true) :
    Call 89 [.slice a n c,.int .i64 (i:Int),.slice (some ⟨vb,0,none⟩) 1 1] [Res.row a n c 93 7 css,Res.b vb 93 vs] κ fun v ρ' _=>∃ a' c',v=.slice a' (n+1) c'∧ρ'=[Res.row a' (n+1) c' 93 7 (q8 css i vs)]:=by
  refine kT Tryz.func89 (xQ Tryz.func89 rfl) rfl Tryz.ntmps89 Tryz.results89 rfl ?_
  refine AQ Pick.h fun hcl=>?_
  refine bJ ?_
  refine aP ?_
  refine bx rfl rfl rfl (br rfl (.p rfl)) ?_
  refine bO ?_
  refine bJ ?_
  refine aP ?_
  refine bx rfl rfl rfl (aC rfl (.p rfl)) ?_
  refine bx rfl rfl rfl (aC rfl (.p rfl)) ?_
  refine bx rfl rfl rfl (fM (k:=i) rfl rfl rfl (.p rfl) (.p rfl) (fun _=>rfl) (fun _=>hin)) ?_
  refine bO ?_
  refine bJ ?_
  refine aP ?_
  refine bx rfl rfl rfl (aC rfl (.p rfl)) ?_
  refine bx rfl rfl rfl (uG rfl rfl (.p rfl)) ?_
  refine bx rfl rfl rfl (br rfl (.p rfl)) ?_
  refine bO ?_
  refine bJ ?_
  refine bJ ?_
  refine aP ?_
  refine bx rfl rfl rfl (aC rfl (.p rfl)) ?_
  refine bx rfl rfl rfl (jO (r:=false) rfl (.p rfl) (.p rfl) rfl) ?_
  refine bO ?_
  refine vW rfl (gy ?_)
  refine bJ ?_
  refine aP ?_
  refine bx rfl rfl rfl (aC rfl (.p rfl)) ?_
  refine bx rfl rfl rfl (uG rfl rfl (.p rfl)) ?_
  refine bx rfl rfl rfl (br rfl (.p rfl)) ?_
  refine bO ?_
  refine bJ ?_
  refine bJ ?_
  refine aP ?_
  refine bx rfl rfl rfl (aC rfl (.p rfl)) ?_
  refine bx rfl rfl rfl (aC rfl (.p rfl)) ?_
  refine bx rfl rfl rfl (jO (r:=((i:Int) == (n:Int))) rfl (.p rfl) (.p rfl) rfl) ?_
  refine bO ?_
  refine iK rfl (fun heq=>?_) (fun hne=>?_)
  · have heq:i=n:=by have:=of_decide_eq_true (p:=(i:Int)=(n:Int)) (by simpa using heq);omega
    subst heq
    refine bJ ?_
    refine aP ?_
    refine bx rfl rfl rfl (aC rfl (.p rfl)) ?_
    refine bx rfl rfl rfl (aC rfl (.p rfl)) ?_
    refine qT rfl rfl rfl (tN (css2:=[vs]) rfl rfl rfl rfl rfl rfl rfl Pick.h (rd_b (b:=vb) (T:=93) (cs:=vs) (by simp) rfl (by simpa using hvs) (by simp)) (by simpa using hv1) ⟨by omega,by omega⟩ fun a' c' κ' hk=>?_)
    refine bx rfl rfl rfl (br rfl (.p rfl)) ?_
    refine bO ?_
    refine iI ?_
    refine jl rfl (Shift.drop (ρ':=[Res.row a' (i+1) c' 93 7 (css++[vs])]) (List.singleton_sublist.2 (by simp))) ⟨a',c',rfl,?_⟩
    unfold q8;rw [List.take_of_length_le (by omega),List.drop_eq_nil_of_le (by omega),List.append_nil]
  refine gy ?_
  have hlt:i<n:=by have:=of_decide_eq_false (p:=(i:Int)=(n:Int)) (by simpa using hne);omega
  refine sQ Pick.h (fun _ h0 _ _=>absurd h0 (by omega)) fun b ha _=>?_
  subst ha
  refine bJ ?_
  refine bJ ?_
  refine aP ?_
  refine bx rfl rfl rfl (aC rfl (.p rfl)) ?_
  refine bx rfl rfl rfl (aC rfl (.p rfl)) ?_
  refine bx rfl rfl rfl (ey rfl (.p rfl) (.p rfl) rfl (fun _=>⟨by omega,by omega⟩)) ?_
  refine bx rfl rfl rfl (aC rfl (.p rfl)) ?_
  refine bx rfl rfl rfl (oq_cap rfl rfl (.p rfl)) ?_
  refine bx rfl rfl rfl (jO (r:=decide ((c:Int)<(n:Int)+1)) rfl (.p rfl) (.p rfl) rfl) ?_
  refine bO ?_
  refine iK rfl (fun hgt=>?_) (fun hle=>?_)
  · have hgt:c<n+1:=by have:=of_decide_eq_true hgt;omega
    refine zI Pick.h fun junk hnc hcm hcl2 hw hjl=>?_
    have hfl:css.flatten.length=n*7:=by rw [dR hw,hcl]
    refine bJ ?_
    refine aP ?_
    refine bx rfl rfl rfl (aC rfl (.p rfl)) ?_
    refine bx rfl rfl rfl (aC rfl (.p rfl)) ?_
    refine bx rfl rfl rfl (nV (k:=i) rfl rfl rfl (.p rfl) (.p rfl) (fun _=>rfl) (fun _=>by omega)) ?_
    refine bx rfl rfl rfl (aC rfl (.p rfl)) ?_
    refine bx rfl rfl rfl (aC rfl (.p rfl)) ?_
    refine bx rfl rfl rfl (ey rfl (.p rfl) (.p rfl) rfl (fun _=>⟨by omega,by omega⟩)) ?_
    refine bx rfl rfl rfl (aC rfl (.p rfl)) ?_
    refine bx rfl rfl rfl (ey rfl (.p rfl) (.p rfl) rfl (fun _=>⟨by omega,by omega⟩)) ?_
    refine qT rfl rfl rfl (ol_appZ (n:=i) (k:=n+1 - i) (vs:=css.flatten.take (i*7)) rfl rfl rfl rfl (by omega) rfl (by omega) (by omega) (by omega) (by omega) rfl (by show Value.int .i64 _=_;congr 1;omega) (by rw [List.length_take,hfl];omega) (fun w hs j u hu=>sR (hs.own (Res.b b 93 (css.flatten++junk)) (by simp)) (by have hj:j<i*7:=(by have:=(List.getElem?_eq_some_iff.1 hu).1;rw [List.length_take] at this;omega);rw [Nat.zero_add,List.getElem?_append_left (by omega)];rwa [List.getElem?_take_of_lt hj] at hu)) fun b2 c' zs κ' hk' hge hle' hzl=>?_)
    refine bx rfl rfl rfl (br rfl (.p rfl)) ?_
    refine bO ?_
    refine bJ ?_
    refine aP ?_
    refine bx rfl rfl rfl (aC rfl (.p rfl)) ?_
    refine bx rfl rfl rfl (aC rfl (.p rfl)) ?_
    refine bx rfl rfl rfl (fM (k:=i) rfl rfl rfl (.p rfl) (.p rfl) (fun _=>rfl) (fun _=>by omega)) ?_
    refine bx rfl rfl rfl (aC rfl (.p rfl)) ?_
    refine qT rfl rfl rfl (pr (m:=1) (vs:=vs) (b:=b2) (off:=i*7) rfl rfl rfl (slo (by omega)) rfl (by simp [Nat.min_def];omega) (by rw [hvs]) (fun w hs=>⟨_,rfl,fun j u hu=>sR (hs.own (Res.b vb 93 vs) (by simp)) (by rw [Nat.zero_add];exact hu)⟩) hv1 (by rw [hzl,hvs];omega) Upd.h fun κ2 hk2=>?_)
    refine bO ?_
    have hdl:(css.flatten.drop (i*7)).length=(n - i)*7:=by rw [List.length_drop,hfl];omega
    have hall:css.flatten.all Value.oneCell'=true:=xf hc1
    refine bJ ?_
    refine uO (ρs:=[]) [(0,0),(1,0),(2,0),(3,0),(4,0),(5,0),(6,0),(7,0),(8,1)] (by rw [List.append_nil]) (by kernel_rfl) rfl fun κ3 hk3=>?_
    refine mQ rfl rfl rfl (aC rfl (.p rfl)) ?_
    refine mQ rfl rfl rfl (aC rfl (.p rfl)) ?_
    refine mQ rfl rfl rfl (aC rfl (.p rfl)) ?_
    refine mQ rfl rfl rfl (ey rfl (.p rfl) (.p rfl) rfl (fun _=>⟨by omega,by omega⟩)) ?_
    refine mQ rfl rfl rfl (fM (k:=i+1) rfl rfl rfl (.p rfl) (.p rfl) (fun _=>by omega) (fun _=>by omega)) ?_
    refine mQ rfl rfl rfl (aC rfl (.p rfl)) ?_
    refine mQ rfl rfl rfl (aC rfl (.p rfl)) ?_
    refine mQ rfl rfl rfl (fM (k:=i) rfl rfl rfl (.p rfl) (.p rfl) (fun _=>rfl) (fun _=>by omega)) ?_
    refine wd_l rfl rfl rfl fun κ4 hk4=>pr (m:=n - i) (vs:=css.flatten.drop (i*7)) (b:=b2) (off:=(i+1)*7) rfl rfl rfl (slo (by omega)) (slo (by omega)) (by simp [Nat.min_def];omega) hdl (fun w hs=>⟨_,rfl,fun j u hu=>sR (hs.own (Res.b b 93 (css.flatten++junk)) (by simp)) (by have hj:j<(n - i)*7:=(by have:=(List.getElem?_eq_some_iff.1 hu).1;rw [hdl] at this;exact this);rw [List.getElem?_append_left (by omega)];rwa [List.getElem?_drop] at hu)⟩) (xe _ hall) (by rw [hdl];simp only [List.length_append,List.length_take,List.length_drop,hvs] at hzl ⊢;omega) Upd.h fun κ5 hk5=>?_
    refine ⟨_,(List.append_nil _).symm,xS fun κ6 hk6=>?_⟩
    refine bJ ?_
    refine aP ?_
    refine bx rfl rfl rfl (aC rfl (.p rfl)) ?_
    refine bx rfl rfl rfl (br rfl (.p rfl)) ?_
    refine bO ?_
    refine iI ?_
    have hA:(css.flatten.take (i*7)++zs).take (i*7)=css.flatten.take (i*7):=by rw [List.take_append_of_le_length (by rw [List.length_take,hfl];omega),List.take_of_length_le (by rw [List.length_take];omega)]
    have hAl:(css.flatten.take (i*7)).length=i*7:=by rw [List.length_take,hfl];omega
    have hcs:=copies1 (D:=css.flatten.drop (i*7)) hA hAl hvs (by rw [hdl,hzl];omega)
    rw [show i*7+7=(i+1)*7 by omega] at hcs
    have hen:i+(n+1 - i)=n+1:=by omega
    refine jl (v:=.slice (some ⟨b2,0,none⟩) (n+1) c') (by show Value.slice _ _ _=_;rw [hen]) (uj (n:=n+1) (cp:=c') (sz:=7) (css:=q8 css i vs) Pick.h (by rw [xc (by omega),hcl]) (xd hw hvs) (by omega) hle' ?_ ?_) ⟨_,_,rfl,rfl⟩
    · rw [hcs];simp only [List.length_append,List.length_drop,hAl,hvs,hdl,hzl];omega
    rw [hcs,uk hw (by omega),List.take_append_of_le_length (by simp only [List.length_append,hAl,hvs,hdl];omega),List.take_of_length_le (by simp only [List.length_append,hAl,hvs,hdl];omega)]
  refine gy ?_
  have hle:n+1≤c:=by have:=of_decide_eq_false hle;omega
  refine zI Pick.h fun junk hnc hcm hcl2 hw hjl=>?_
  refine wc_ne (b:=b) (b':=vb) (List.Perm.refl _) rfl rfl fun hbv=>?_
  have hfl:css.flatten.length=n*7:=by rw [dR hw,hcl]
  have hdl:(css.flatten.drop (i*7)).length=(n - i)*7:=by rw [List.length_drop,hfl];omega
  have hall:css.flatten.all Value.oneCell'=true:=xf hc1
  refine bJ ?_
  refine aP ?_
  refine bx rfl rfl rfl (aC rfl (.p rfl)) ?_
  refine bx rfl rfl rfl (aC rfl (.p rfl)) ?_
  refine bx rfl rfl rfl (aC rfl (.p rfl)) ?_
  refine bx rfl rfl rfl (ey rfl (.p rfl) (.p rfl) rfl (fun _=>⟨by omega,by omega⟩)) ?_
  refine bx rfl rfl rfl (nV (k:=n+1) rfl rfl rfl (.p rfl) (.p rfl) (fun _=>by omega) (fun _=>by omega)) ?_
  refine bx rfl rfl rfl (br rfl (.p rfl)) ?_
  refine bO ?_
  refine bJ ?_
  refine bJ ?_
  refine aP ?_
  refine bx rfl rfl rfl (aC rfl (.p rfl)) ?_
  refine bx rfl rfl rfl (aC rfl (.p rfl)) ?_
  refine bx rfl rfl rfl (aC rfl (.p rfl)) ?_
  refine bx rfl rfl rfl (aC rfl (.p rfl)) ?_
  refine bx rfl rfl rfl (ey rfl (.p rfl) (.p rfl) rfl (fun _=>⟨by omega,by omega⟩)) ?_
  refine bx rfl rfl rfl (fM (k:=i+1) rfl rfl rfl (.p rfl) (.p rfl) (fun _=>by omega) (fun _=>by omega)) ?_
  refine bx rfl rfl rfl (xb (t:=41) (r:=4) (E:=93) (Tv:=93) (T:=93) (cv:=vs) (cs:=css.flatten++junk) rfl Tryz.func124 (by kernel_rfl) (by kernel_rfl) (by kernel_rfl) (by kernel_rfl) rfl rfl rfl (slo (by omega)) (fun e=>hbv e.symm) (by simp) (by simp) (by rw [hjl];omega)) ?_
  refine bx rfl rfl rfl (uD rfl (.p rfl)) ?_
  refine bO ?_
  refine vV rfl ?_
  refine bJ ?_
  refine uO (ρs:=[]) [(0,0),(1,0),(2,0),(3,0),(4,0),(5,0),(6,0),(7,0),(8,1)] (by rw [List.append_nil]) (by kernel_rfl) rfl fun κ3 hk3=>?_
  refine mQ rfl rfl rfl (aC rfl (.p rfl)) ?_
  refine mQ rfl rfl rfl (aC rfl (.p rfl)) ?_
  refine mQ rfl rfl rfl (aC rfl (.p rfl)) ?_
  refine mQ rfl rfl rfl (ey rfl (.p rfl) (.p rfl) rfl (fun _=>⟨by omega,by omega⟩)) ?_
  refine mQ rfl rfl rfl (fM (k:=i+1) rfl rfl rfl (.p rfl) (.p rfl) (fun _=>by omega) (fun _=>by omega)) ?_
  refine mQ rfl rfl rfl (aC rfl (.p rfl)) ?_
  refine mQ rfl rfl rfl (aC rfl (.p rfl)) ?_
  refine mQ rfl rfl rfl (fM (k:=i) rfl rfl rfl (.p rfl) (.p rfl) (fun _=>rfl) (fun _=>by omega)) ?_
  refine wd_l rfl rfl rfl fun κ4 hk4=>pr (m:=n - i) (vs:=css.flatten.drop (i*7)) (b:=b) (off:=(i+1)*7) rfl rfl rfl (slo (by omega)) (slo (by omega)) (by simp [Nat.min_def];omega) hdl (fun w hs=>⟨_,rfl,fun j u hu=>sR (hs.own (Res.b b 93 (css.flatten++junk)) (by simp)) (by have hj:j<(n - i)*7:=(by have:=(List.getElem?_eq_some_iff.1 hu).1;rw [hdl] at this;exact this);rw [List.getElem?_append_left (by omega)];rwa [List.getElem?_drop] at hu)⟩) (xe _ hall) (by rw [hdl,hjl];omega) Upd.h fun κ5 hk5=>?_
  refine ⟨_,(List.append_nil _).symm,xS fun κ6 hk6=>?_⟩
  refine bJ ?_
  refine aP ?_
  refine bx rfl rfl rfl (aC rfl (.p rfl)) ?_
  refine bx rfl rfl rfl (aC rfl (.p rfl)) ?_
  refine bx rfl rfl rfl (fM (k:=i) rfl rfl rfl (.p rfl) (.p rfl) (fun _=>rfl) (fun _=>by omega)) ?_
  refine bx rfl rfl rfl (aC rfl (.p rfl)) ?_
  refine qT rfl rfl rfl (pr (m:=1) (vs:=vs) (b:=b) (off:=i*7) rfl rfl rfl (slo (by omega)) rfl (by simp [Nat.min_def];omega) (by rw [hvs]) (fun w hs=>⟨_,rfl,fun j u hu=>sR (hs.own (Res.b vb 93 vs) (by simp)) (by rw [Nat.zero_add];exact hu)⟩) hv1 (by simp only [List.length_append,List.length_take,List.length_drop,hdl,hvs] at hjl ⊢;omega) Upd.h fun κ2 hk2=>?_)
  refine bO ?_
  refine bJ ?_
  refine aP ?_
  refine bx rfl rfl rfl (aC rfl (.p rfl)) ?_
  refine bx rfl rfl rfl (br rfl (.p rfl)) ?_
  refine bO ?_
  refine iI ?_
  have hA:(css.flatten++junk).take (i*7)=css.flatten.take (i*7):=by rw [List.take_append_of_le_length (by omega)]
  have hAl:(css.flatten.take (i*7)).length=i*7:=by rw [List.length_take,hfl];omega
  have hcs:=copies2 (D:=css.flatten.drop (i*7)) hA hAl hvs (by rw [hdl,hjl];omega)
  rw [show i*7+7=(i+1)*7 by omega] at hcs
  refine jl (v:=.slice (some ⟨b,0,none⟩) (n+1) c) rfl (uj (n:=n+1) (cp:=c) (sz:=7) (css:=q8 css i vs) Pick.h (by rw [xc (by omega),hcl]) (xd hw hvs) (by omega) hcm ?_ ?_) ⟨_,_,rfl,rfl⟩
  · rw [hcs];simp only [List.length_append,List.length_drop,hAl,hvs,hdl] at hjl ⊢;omega
  rw [hcs,uk hw (by omega),List.take_append_of_le_length (by simp only [List.length_append,hAl,hvs,hdl];omega),List.take_of_length_le (by simp only [List.length_append,hAl,hvs,hdl];omega)]
end SX
end Go.Proofs.YtmgcadfnkchnfaaGreatDoor
set_option maxRecDepth 100000
namespace Go.Proofs.YtmgcadfnkchnfaaGreatDoor
namespace SX
open Go Go.RowKit
theorem AR {f:Nat} {args:List Value} {ρ ρ':List Res} {κ:Kr} {R:Value→List Res→Kr→Prop} (hb:jA ρ=jA ρ') (h:∀ β,Zk β ρ κ→Zk β ρ' κ) (hc:Call f args ρ' κ R):Call f args ρ κ R:=⟨hc.1,fun hi=>by
 rw [hb] at hi ⊢;exact hc.2 (h _ hi)⟩
theorem inv_lit {β:Base} {κ:Kr} {r:Res} {vb T sz:Nat} {vs:List Value} (hv:vs.length=sz) (hi:Zk β [r,Res.row (some ⟨vb,0,none⟩) 1 1 T sz [vs]] κ):Zk β [r,Res.b vb T vs] κ:=by
 have hi2:=hi.perm (List.Perm.swap _ _ _)
 obtain ⟨_,_,_,_,_,cur,h6,h7,h8⟩:=hi2.own _ (List.mem_cons_self)
 have e:cur.toList=vs:=by
  have h8:cur.toList.take (1*sz)=[vs].flatten:=h8
  rw [List.take_of_length_le (by simp [h7])] at h8
  simpa using h8
 refine (sP hi2 (r':=Res.b vb T vs) rfl ?_).perm (List.Perm.swap _ _ _)
 show _=some _
 rw [h6,← e]
theorem sS {κ:Kr}:∀ {p q:List (List PV)} {v w:List (List Value)},Rpss κ p v→Rpss κ q w→Rpss κ (p++q) (v++w)
 | _,_,_,_,.nil,h=>h
 | _,_,_,_,.cons h hs,g=>.cons h (sS hs g)
theorem ul {κ:Kr}:∀ {p:List (List PV)} {v:List (List Value)} (i:Nat),Rpss κ p v→Rpss κ (p.take i) (v.take i)
 | _,_,0,_=>.nil
 | _,_,_+1,.nil=>.nil
 | _,_,i+1,.cons h hs=>.cons h (ul i hs)
theorem um {κ:Kr}:∀ {p:List (List PV)} {v:List (List Value)} (i:Nat),Rpss κ p v→Rpss κ (p.drop i) (v.drop i)
 | _,_,0,h=>h
 | _,_,_+1,.nil=>.nil
 | _,_,i+1,.cons h hs=>um i hs
def bg (p0:List Za) (p1:Int) (p2:List Za):Option (List Za):=match p2 with
 | [x]=>if 0≤p1∧p1.toNat≤p0.length∧p0.length≤200 then some (p0.take p1.toNat++[x]++p0.drop p1.toNat) else none
 | _=>none
theorem fK {p0:List Za} {p1:Int} {x:Za} {r:List Za} (h:bg p0 p1 [x]=some r) {a:Option Addr} {c vb:Nat} :
    PCall 89 [pO a p0.length c,pI p1,pO (some ⟨vb,0,none⟩) 1 1] [.row a p0.length c 93 7 (List.map Za.enc p0),.row (some ⟨vb,0,none⟩) 1 1 93 7 [Za.enc x]] (fun pv ρ'=>∃ a' c',pv=pO a' r.length c'∧ρ'=[PRes.row a' r.length c' 93 7 (List.map Za.enc r)]):=fun κ args ρ g ha hr=>by
  unfold bg at h
  dsimp only at h
  split at h
  rotate_left
  · cases h
  rename_i hc
  obtain ⟨h0,h1,h2⟩:=hc
  obtain rfl:=Option.some.inj h
  obtain ⟨i,rfl⟩:∃ i:Nat,p1=(i:Int):=⟨p1.toNat,by omega⟩
  rw [Int.toNat_natCast] at *
  cases ha with | cons ha1 ha=>cases ha with | cons ha2 ha=>cases ha with | cons ha3 ha=>cases ha with | nil =>
  have e1:=ha1.val;have e2:=ha2.val;have e3:=ha3.val
  subst e1;subst e2;subst e3
  cases hr with | cons hr1 hr=>cases hr with | cons hr2 hr=>cases hr with | nil =>
  cases hr1 with | @row _ _ _ _ _ _ dss hb1 ho1 hp1 =>
  cases hr2 with | @row _ _ _ _ _ _ dss2 hb2 ho2 hp2 =>
  cases hp2 with | cons hp2 hn=>cases hn with | nil =>
  rename_i vs
  have hvl:vs.length=7:=by have:=hp2.len;exact this.symm
  refine AR (ρ':=[Res.row a p0.length c 93 7 dss,Res.b vb 93 vs]) rfl (fun β hi=>inv_lit hvl hi) ?_
  refine (xg h1 h2 hvl (List.all_eq_true.2 fun u hu=>ho2 vs (by simp) u hu) (fun d hd=>List.all_eq_true.2 fun u hu=>ho1 d hd u hu)).mono fun v ρ' κ' hk ⟨a',c',e4,e5⟩=>?_
  subst e4;subst e5
  have hlen:(p0.take i++[x]++p0.drop i).length=p0.length+1:=by simp;omega
  refine ⟨pO a' (p0.length+1) c',[PRes.row a' (p0.length+1) c' 93 7 (List.map Za.enc (p0.take i++[x]++p0.drop i))],.v rfl,.cons (.row (by omega) ?_ ?_) .nil,a',c',by rw [hlen],by rw [hlen]⟩
  · intro d hd u hu
    unfold q8 at hd
    rcases List.mem_append.1 hd with hd | hd
    · rcases List.mem_append.1 hd with hd | hd
      · exact ho1 d (List.mem_of_mem_take hd) u hu
      rw [List.mem_singleton.1 hd] at hu;exact ho2 vs (by simp) u hu
    exact ho1 d (List.mem_of_mem_drop hd) u hu
  unfold q8
  rw [List.map_append,List.map_append,List.map_take,List.map_drop]
  exact sS (sS (ul i (hp1.mono hk)) (.cons (hp2.mono hk) .nil)) (um i (hp1.mono hk))
theorem fU {p0:List Za} {p1:Int} {p2:List Za} {r:List Za} (h:bg p0 p1 p2=some r) {a:Option Addr} {c vb:Nat} :
    PCall 89 [.v (.slice a p0.length c),pI p1,.v (.slice (some ⟨vb,0,none⟩) 1 1)] [.row a p0.length c 93 7 (List.map Za.enc p0),.row (some ⟨vb,0,none⟩) 1 1 93 7 (List.map Za.enc p2)] (fun pv ρ'=>∃ a c,pv=.v (.slice a r.length c)∧ρ'=[PRes.row a r.length c 93 7 (List.map Za.enc r)]):=by
  match p2,h with
  | [x],h=>exact fK h
end SX
end Go.Proofs.YtmgcadfnkchnfaaGreatDoor
