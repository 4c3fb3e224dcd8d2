/- A part of the proof: texts of the walk and of the plain laws, merged. No condition. -/
import Derived.Test.YtmgcadfnkchnfaaGreatDoorM3
set_option linter.unusedVariables false
set_option linter.unusedSimpArgs false
set_option maxHeartbeats 4000000
set_option maxRecDepth 100000
namespace Go.Proofs.YtmgcadfnkchnfaaGreatDoor
namespace SX
open Go
attribute [local irreducible] PWL PWC PWD POpL POpQ PEv PGuardIs PSub PPick PUpd PSplice PFill PLit PF PFV PCall FOk fX fp lA mR jP jS Cov PHolds aV idx app mk gd lb nz nH Bi sub mn ec qG tu eR cw eT dt IntKind.wrap Int.tmod Int.tdiv Op.bytesLess strOfNums
attribute [local irreducible] PWQ zC pb CE asgK kI PSeq
def bM (p0:(List Za)) (p1:(List Za)):Option (List Za):=(kI (S:=(List Za)) (T:=Empty) (fun l3 x8=>(app 64 l3 [x8]).bind fun l13=>some (.inl l13)) p0 p1).bind fun q=>match q with | .inl l3=>some l3 | .inr e=>e.elim
theorem fm {p0:(List Za)} {p1:(List Za)} {a_0:Option Addr}  {n_0:Nat}  {c_0:Nat} {r:(List Za)} {gf1:Nat} {cs1:List PV} (hg1:PSeq gf1 cs1 DFp p1) (h:bM p0 p1=some r):PCall 126 [.v (.slice a_0 n_0 c_0),.fn gf1 cs1] [PRes.row a_0 n_0 c_0 93 7 (List.map Za.enc p0)] (fun pv ρ'=>∃ a c,pv=.v (.slice a r.length c)∧ρ'=[PRes.row a r.length c 93 7 (List.map Za.enc r)]):=by
 unfold bM at h
 refine vp Tryz.func126 (xQ Tryz.func126 rfl) rfl Tryz.ntmps126 Tryz.results126 rfl ?_
 refine wX (enc:=Za.enc) (xs:=p0) (a:=a_0) fH (fun hl ha=>?_);subst hl;clear ha
 refine dW (gN (ae (ak rfl (bV (cs:=[pO a_0 p0.length c_0]) rfl rfl (fun b1=>bY [4] (by kernel_rfl) (dX (dW (dW (gN (ai [(6,.fn gf1 cs1)] (by kernel_rfl) (dX (km (aa h fun q7 hq7 h=>?_)))))))))))))
 refine kj (Y:=Option Addr×Nat) (y0:=(a_0,c_0)) (R:=fun (a4,c5) l3=>[PRes.b b1 41 [pO a4 l3.length c5],PRes.row a4 l3.length c5 93 7 (List.map Za.enc l3)]) (R':=fun t=>[]) hq7 rfl hg1 rfl (by kernel_rfl) (by kernel_rfl) zs2 ?_ ?_ ?_
 ·rintro ⟨a4,c5⟩ l3 x8 suf hs;obtain ⟨o,ho6,hk9⟩:=qj hs;clear hs;(try dsimp only at ho6);(try dsimp only [DFp])
  refine ae (ak rfl (aX (cs:=[pI 0,pI 0,pI 0,pI 0,pS ByteArray.empty,pI 0,pI 0]) rfl rfl rfl rfl (fun b10=>aH rfl rfl (aj (vs:=(aF x8)) rfl rfl rfl rfl rfl cA zl7 (ap (qi (au (ae (hZ 2 [1,0] [(8,pO a4 l3.length c5),(9,.agg (aF x8))] (by kernel_rfl) (ak rfl (bT rfl rfl rfl rfl rfl (ez rfl kg) rfl rfl rfl rfl (fun b11=>aa ho6 fun l13 hl13 ho6=>?_))))))))))))
  refine ak rfl (fb (enc:=Za.enc) rfl rfl rfl rfl rfl rfl rfl rfl rfl fH (by exact ba (ba (ba bd))) hl13 (fun a14 c15=>?_))
  refine aH rfl rfl (aj (vs:=[pO a14 l13.length c15]) rfl rfl rfl rfl rfl (cG (cG (cG cA))) ed (ap (aA ?_)))
  exact pg ho6 hk9 (a14,c15) (cR (ba (ba (ba bd))) dN)
 ·rintro ⟨a4,c5⟩ l3 D hr;subst hr;(try dsimp only at h);(try dsimp only)
  refine kn (dX (gN (af (aY [0] [12] [(4,pO a4 l3.length c5)] (by kernel_rfl) (ej ?_)))))
  (repeat (first | apply aK | apply av | apply bz | apply il | apply iA | apply gw))
  obtain rfl:=osi h
  exact aG (fL (aI rfl)) (cR (ba bd) cM) ⟨_,_,rfl,rfl⟩
 rintro t;exact t.elim
def dq (p0:(List Za)):Option (List Za):=(bM ([]:List Za) p0).bind fun x2=>some x2
theorem ju {p0:(List Za)} {r:(List Za)} {gf0:Nat} {cs0:List PV} (hg0:PSeq gf0 cs0 DFp p0) (h:dq p0=some r):PCall 90 [.fn gf0 cs0] [] (fun pv ρ'=>∃ a c,pv=.v (.slice a r.length c)∧ρ'=[PRes.row a r.length c 93 7 (List.map Za.enc r)]):=by
 unfold dq at h
 refine fy Tryz.func90 rfl Tryz.ntmps90 Tryz.results90 rfl (aU [2] (by kernel_rfl) (cL (ae (aq 1 [(3,.fn gf0 cs0)] (by kernel_rfl) (rZ 93 7 (aa h fun x2 hx2 h=>?_))))))
 refine ak rfl (aL rfl rfl (ρ1:=[_]) (aB (by exact bd) (List.Perm.refl _)) (fm hg0 hx2) ?_);rintro _ _ ⟨a3,c4,rfl,rfl⟩
 refine aD [(2,pO a3 x2.length c4)] (by kernel_rfl) (ej ?_)
 obtain rfl:=osi h
 exact aG (fL (aI rfl)) dN ⟨_,_,rfl,rfl⟩
def cj (p0:(List Za)):Option (List Za):=(dq p0).bind fun x1=>(bi x1).bind fun x5=>some x5
theorem iH {p0:(List Za)} {r:(List Za)} {gf0:Nat} {cs0:List PV} (hg0:PSeq gf0 cs0 DFp p0) (h:cj p0=some r):PCall 48 [.fn gf0 cs0,.fn 50 []] [] (fun pv ρ'=>∃ a c,pv=.v (.slice a r.length c)∧ρ'=[PRes.row a r.length c 93 7 (List.map Za.enc r)]):=by
 unfold cj at h
 refine fy Tryz.func48 rfl Tryz.ntmps48 Tryz.results48 rfl (aU [4] (by kernel_rfl) (fk h fun x1 hx1 h=>ae (aq 1 [(6,.fn gf0 cs0)] (by kernel_rfl) ?_)))
 refine ak rfl (aL rfl rfl (ρ1:=[]) (List.Perm.refl _) (ju hg0 hx1) ?_);rintro _ _ ⟨a2,c3,rfl,rfl⟩
 refine aD [(5,pO a2 x1.length c3)] (by kernel_rfl) (fk h fun x5 hx5 h=>ae (aq 2 [(8,pO a2 x1.length c3),(9,.fn 50 [])] (by kernel_rfl) ?_))
 refine ak rfl (aL rfl rfl (ρ1:=[_]) (aB (by exact bd) (List.Perm.refl _)) (dT hx5) ?_);rintro _ _ ⟨rfl,rfl⟩
 refine ap (cL (ah [11] [(4,pO a2 x1.length c3)] (by kernel_rfl) (ar ?_)))
 refine iw (enc:=Za.enc) (xs:=x5) (a:=a2) fH (fun hl6 ha7=>?_);rw [← hl6];clear ha7
 refine cC ?_
 obtain rfl:=osi h
 exact aG (fL (aI rfl)) dN ⟨_,_,rfl,rfl⟩
def ja (p0:Zm) (p1:(List Za)) (p2:Za):Option Zj:=(dg p2.Day 36).bind fun x4=>Option.bind (cond (x4.2 != 0) (some 36524) (some x4.1)) (fun v5=>(ei p1 2 v5).bind fun x10=>(kI (S:=Bool) (T:=Empty) (fun v11 x14=>some (.inl true)) false x10).bind fun q=>match q with | .inl v11=>(ei p1 3 v5).bind (fun x16=>(kI (S:=Int) (T:=Empty) (fun v17 x20=>some (.inl x20.Amount)) p2.Amount x16).bind fun q=>match q with | .inl v17=>(ei p1 4 v5).bind (fun x23=>(kI (S:=ByteArray) (T:=Empty) (fun v24 x27=>some (.inl x27.Country)) p2.Country x23).bind fun q=>match q with | .inl v24=>(ei p0.Facts 5 36524).bind (fun x30=>(kI (S:=Int) (T:=Empty) (fun v31 x34=>some (.inl (eT p0.Units x34.Amount))) 0 x30).bind fun q=>match q with | .inl v31=>some (⟨p0.Code,v24,v11,p2.Company,p2.Day,p0.Units,v17,v31⟩:Zj) | .inr e=>e.elim) | .inr e=>e.elim) | .inr e=>e.elim) | .inr e=>e.elim)
theorem ra {p0:Zm} {p1:(List Za)} {p2:Za} {r:Zj}  (h:ja p0 p1 p2=some r):PF 52 [.agg (bL p0),pL Za.enc p1,.agg (aF p2)] (.agg (dw r)):=by
 unfold ja at h
 refine bm ?_
 refine vp Tryz.func52 (xQ Tryz.func52 rfl) rfl Tryz.ntmps52 Tryz.results52 rfl (dW (gN (ae (ak rfl (bV (cs:=(bL p0)) rfl rfl (fun b1=>ak rfl (bV (cs:=(aF p2)) rfl rfl (fun b2=>ak rfl (aX (cs:=[pS ByteArray.empty,pS ByteArray.empty,pB false,pI 0,pI 0,pI 0,pI 0,pI 0]) rfl rfl rfl rfl (fun b3=>ap (dX (dW (gN (aa h fun x4 hx4 h=>aw [1] [14,15,16,13,17,18] [(7,pI x4.1),(8,pI x4.2)] (bK 2 (mK hx4) bZ) (by kernel_rfl) (dX (dW (gN (aa h fun q6 hq6 h=>?_))))))))))))))))))
 refine ky (Y:=Unit×Int) (fun (_,v5)=>[(1,pL Za.enc p1),(3,pP b1 0),(5,pP b2 0),(6,pP b3 0),(7,pI v5)]) (fun (_,v5)=>[PRes.b b1 43 (bL p0),PRes.b b2 93 (aF p2),PRes.b b3 32 [pS ByteArray.empty,pS ByteArray.empty,pB false,pI 0,pI 0,pI 0,pI 0,pI 0]]) (fun (_,v5)=>q6=v5) ?_ ?_
 ·skip
  refine af (ah [19] [(20,pB (x4.2 != 0))] (by kernel_rfl) (cY rfl hq6 (fun hc7 hq6=>?_) fun hc7 hq6=>?_))
  ·refine ai [(7,pI 36524)] (by kernel_rfl) ?_
   obtain rfl:=osi hq6
   exact fw ((),36524) (si rfl) (cR (ba (ba bd)) (cR (ba bd) dN)) rfl
  refine ag ?_
  obtain rfl:=osi hq6
  exact fw ((),x4.1) (si rfl) (cR (ba (ba bd)) (cR (ba bd) dN)) rfl
 rintro ⟨_,v5⟩ τ ρ1 hsub8 hz;(try dsimp only at hz hsub8);subst q6;(try dsimp only at h);dsimp only [aM]
 refine dX (pwq_sub hsub8 (dW (gN (ae (cH 13 [0,1,1,1,0,1] (rg 21 12) [(33,.agg [pS p0.Code,pS p2.Country,pB false,pI p2.Company,pI p2.Day,pI p0.Units,pI p2.Amount,pI 0])] (by kernel_rfl) (ak rfl (aX (cs:=[pS ByteArray.empty,pS ByteArray.empty,pB false,pI 0,pI 0,pI 0,pI 0,pI 0]) rfl rfl rfl rfl (fun b9=>aH rfl rfl (aj (vs:=[pS p0.Code,pS p2.Country,pB false,pI p2.Company,pI p2.Day,pI p0.Units,pI p2.Amount,pI 0]) rfl rfl rfl rfl rfl cA zl8 (ap (dX (dW (dW (gN (aa h fun x10 hx10 h=>aw [] [34,35] [(36,.fn 93 [.ref [pL Za.enc p1] 0,.ref [pI 2] 0,.ref [pI v5] 0])] (bK 2 (gn hx10) bZ) (by kernel_rfl) (dX (km (aa h fun q13 hq13 h=>?_))))))))))))))))))
 refine kj (Y:=Unit) (y0:=()) (R:=fun _ v11=>[PRes.b b1 43 (bL p0),PRes.b b2 93 (aF p2),PRes.b b3 32 [pS ByteArray.empty,pS ByteArray.empty,pB false,pI 0,pI 0,pI 0,pI 0,pI 0],PRes.b b9 32 [pS p0.Code,pS p2.Country,pB v11,pI p2.Company,pI p2.Day,pI p0.Units,pI p2.Amount,pI 0]]) (R':=fun t=>[]) hq13 rfl (fD hx10) rfl (by kernel_rfl) (by kernel_rfl) (cR (ba bd) (cR (ba bd) (cR (ba bd) dN))) ?_ ?_ ?_
 ·rintro _ v11 x14 suf hs;obtain ⟨o,ho12,hk15⟩:=qj hs;clear hs;(try dsimp only at ho12);(try dsimp only [DFp])
  refine ag (qi (au (ae (aq 1 [(38,pP b9 2)] (by kernel_rfl) (aH rfl rfl (aj (vs:=[pB true]) rfl rfl rfl rfl rfl (cG (cG (cG cA))) (bP (bP ed)) (ap (aA ?_))))))))
  exact pg ho12 hk15 () zs4
 ·rintro _ v11 D hr;subst hr;(try dsimp only at h);(try dsimp only)
  refine kn (dX (dW (dW (gN (aa h fun x16 hx16 h=>aw [] [39,40] [(41,.fn 93 [.ref [pL Za.enc p1] 0,.ref [pI 3] 0,.ref [pI v5] 0])] (bK 2 (gn hx16) bZ) (by kernel_rfl) (dX (km (aa h fun q19 hq19 h=>?_))))))))
  refine kj (Y:=Unit) (y0:=()) (R:=fun _ v17=>[PRes.b b1 43 (bL p0),PRes.b b2 93 (aF p2),PRes.b b3 32 [pS ByteArray.empty,pS ByteArray.empty,pB false,pI 0,pI 0,pI 0,pI 0,pI 0],PRes.b b9 32 [pS p0.Code,pS p2.Country,pB v11,pI p2.Company,pI p2.Day,pI p0.Units,pI v17,pI 0]]) (R':=fun t=>[]) hq19 rfl (fD hx16) rfl (by kernel_rfl) (by kernel_rfl) zs4 ?_ ?_ ?_
  ·rintro _ v17 x20 suf hs;obtain ⟨o,ho18,hk21⟩:=qj hs;clear hs;(try dsimp only at ho18);(try dsimp only [DFp])
   refine ae (ak rfl (aX (cs:=[pI 0,pI 0,pI 0,pI 0,pS ByteArray.empty,pI 0,pI 0]) rfl rfl rfl rfl (fun b22=>aH rfl rfl (aj (vs:=(aF x20)) rfl rfl rfl rfl rfl cA zl7 (ap (qi (au (ae (cH 3 [0] [43] [(44,pI x20.Amount),(45,pP b9 6)] (by kernel_rfl) (aH rfl rfl (aj (vs:=[pI x20.Amount]) rfl rfl rfl rfl rfl (cG (cG (cG (cG cA)))) (bP (bP (bP (bP (bP (bP ed)))))) (ap (aA ?_)))))))))))))
   exact pg ho18 hk21 () (cR (ba bd) (cR (ba bd) (cR (ba bd) (cR (ba bd) cM))))
  ·rintro _ v17 D hr;subst hr;(try dsimp only at h);(try dsimp only)
   refine kn (dX (dW (dW (gN (aa h fun x23 hx23 h=>aw [] [46,47] [(48,.fn 93 [.ref [pL Za.enc p1] 0,.ref [pI 4] 0,.ref [pI v5] 0])] (bK 2 (gn hx23) bZ) (by kernel_rfl) (dX (km (aa h fun q26 hq26 h=>?_))))))))
   refine kj (Y:=Unit) (y0:=()) (R:=fun _ v24=>[PRes.b b1 43 (bL p0),PRes.b b2 93 (aF p2),PRes.b b3 32 [pS ByteArray.empty,pS ByteArray.empty,pB false,pI 0,pI 0,pI 0,pI 0,pI 0],PRes.b b9 32 [pS p0.Code,pS v24,pB v11,pI p2.Company,pI p2.Day,pI p0.Units,pI v17,pI 0]]) (R':=fun t=>[]) hq26 rfl (fD hx23) rfl (by kernel_rfl) (by kernel_rfl) zs4 ?_ ?_ ?_
   ·rintro _ v24 x27 suf hs;obtain ⟨o,ho25,hk28⟩:=qj hs;clear hs;(try dsimp only at ho25);(try dsimp only [DFp])
    refine ae (ak rfl (aX (cs:=[pI 0,pI 0,pI 0,pI 0,pS ByteArray.empty,pI 0,pI 0]) rfl rfl rfl rfl (fun b29=>aH rfl rfl (aj (vs:=(aF x27)) rfl rfl rfl rfl rfl cA zl7 (ap (qi (au (ae (cH 3 [0] [50] [(51,pS x27.Country),(52,pP b9 1)] (by kernel_rfl) (aH rfl rfl (aj (vs:=[pS x27.Country]) rfl rfl rfl rfl rfl (cG (cG (cG (cG cA)))) (bP ed) (ap (aA ?_)))))))))))))
    exact pg ho25 hk28 () (cR (ba bd) (cR (ba bd) (cR (ba bd) (cR (ba bd) cM))))
   ·rintro _ v24 D hr;subst hr;(try dsimp only at h);(try dsimp only)
    refine kn (dX (dW (dW (gN (aa h fun x30 hx30 h=>aw [0] [53,54] [(55,.fn 93 [.ref [pL Za.enc p0.Facts] 0,.ref [pI 5] 0,.ref [pI 36524] 0])] (bK 2 (gn hx30) bZ) (by kernel_rfl) (dX (km (aa h fun q33 hq33 h=>?_))))))))
    refine kj (Y:=Unit) (y0:=()) (R:=fun _ v31=>[PRes.b b1 43 (bL p0),PRes.b b2 93 (aF p2),PRes.b b3 32 [pS ByteArray.empty,pS ByteArray.empty,pB false,pI 0,pI 0,pI 0,pI 0,pI 0],PRes.b b9 32 [pS p0.Code,pS v24,pB v11,pI p2.Company,pI p2.Day,pI p0.Units,pI v17,pI v31]]) (R':=fun t=>[]) hq33 rfl (fD hx30) rfl (by kernel_rfl) (by kernel_rfl) zs4 ?_ ?_ ?_
    ·rintro _ v31 x34 suf hs;obtain ⟨o,ho32,hk35⟩:=qj hs;clear hs;(try dsimp only at ho32);(try dsimp only [DFp])
     refine ae (ak rfl (aX (cs:=[pI 0,pI 0,pI 0,pI 0,pS ByteArray.empty,pI 0,pI 0]) rfl rfl rfl rfl (fun b36=>aH rfl rfl (aj (vs:=(aF x34)) rfl rfl rfl rfl rfl cA zl7 (ap (qi (au (ae (cH 6 [1,0] [57,58,59,60] [(61,pI (eT p0.Units x34.Amount)),(62,pP b9 7)] (by kernel_rfl) (aH rfl rfl (aj (vs:=[pI (eT p0.Units x34.Amount)]) rfl rfl rfl rfl rfl (cG (cG (cG (cG cA)))) (bP (bP (bP (bP (bP (bP (bP ed))))))) (ap (aA ?_)))))))))))))
     exact pg ho32 hk35 () (cR (ba bd) (cR (ba bd) (cR (ba bd) (cR (ba bd) cM))))
    ·rintro _ v31 D hr;subst hr;(try dsimp only at h);(try dsimp only)
     refine kn (dX (gN (af (ae (hZ 1 [3] [(63,.agg [pS p0.Code,pS v24,pB v11,pI p2.Company,pI p2.Day,pI p0.Units,pI v17,pI v31])] (by kernel_rfl) (aH rfl rfl (aj (vs:=[pS p0.Code,pS v24,pB v11,pI p2.Company,pI p2.Day,pI p0.Units,pI v17,pI v31]) rfl rfl rfl rfl rfl (cG (cG cA)) zl8 (ap (ej ?_)))))))))
     (repeat (first | apply aK | apply av | apply bz | apply il | apply iA | apply gw))
     obtain rfl:=osi h
     exact aG (fL (cZ rfl Dz rfl)) cM ⟨rfl,rfl⟩
    rintro t;exact t.elim
   rintro t;exact t.elim
  rintro t;exact t.elim
 rintro t;exact t.elim
def fV (p0:Zm):Option (Zj×Bool):=(fA p0).bind fun x4=>cond (x4 != 0) (some ((⟨ByteArray.empty,ByteArray.empty,false,0,0,0,0,0⟩:Zj),false)) ((bB p0.Facts).bind fun x6=>(cj x6 ).bind fun x7=>(ei x7 1 36524).bind fun x12=>(kI (S:=Unit) (T:=(Zj×Bool)) (fun _ x15=>(ja p0 x7 x15).bind fun x18=>some (.inr (x18,true))) () x12).bind fun q=>match q with | .inl _=>some ((⟨ByteArray.empty,ByteArray.empty,false,0,0,0,0,0⟩:Zj),false) | .inr e=>some e)
theorem lv {p0:Zm} {r:(Zj×Bool)}  (h:fV p0=some r):PF 19 [.agg (bL p0)] (.tup [.agg (dw r.1),pB r.2]):=by
 unfold fV at h
 refine bm ?_
 refine vp Tryz.func19 (xQ Tryz.func19 rfl) rfl Tryz.ntmps19 Tryz.results19 rfl (dW (gN (ae (ak rfl (bV (cs:=(bL p0)) rfl rfl (fun b1=>ak rfl (aX (cs:=[pS ByteArray.empty,pS ByteArray.empty,pB false,pI 0,pI 0,pI 0,pI 0,pI 0]) rfl rfl rfl rfl (fun b2=>ak rfl (aX (cs:=[pB false]) rfl rfl rfl rfl (fun b3=>ap (dX (dW (gN (af (aa h fun x4 hx4 h=>aw [2] [6,7] [(8,pB (x4 != 0))] (bK 1 (kV hx4) bZ) (by kernel_rfl) (cY rfl h (fun hc5 h=>?_) fun hc5 h=>?_))))))))))))))))
 ·refine af ?_
  refine ae (aq 1 [(9,.agg [pS ByteArray.empty,pS ByteArray.empty,pB false,pI 0,pI 0,pI 0,pI 0,pI 0])] (by kernel_rfl) (aH rfl rfl (aj (vs:=[pS ByteArray.empty,pS ByteArray.empty,pB false,pI 0,pI 0,pI 0,pI 0,pI 0]) rfl rfl rfl rfl rfl (cG cA) zl8 (aH rfl rfl (aj (vs:=[pB false]) rfl rfl rfl rfl rfl cA ed (ap (ej ?_)))))))
  (repeat (first | apply aK | apply av | apply bz | apply il | apply iA | apply gw))
  obtain rfl:=osi h
  exact aG (cK (cZ rfl tS rfl) (cZ rfl fH rfl)) cM ⟨rfl,rfl⟩
 refine ag ?_
 refine dX (dW (gN (aa h fun x6 hx6 h=>aa h fun x7 hx7 h=>ae (bC 3 [2] [10,11] [(12,.fn 92 [.ref [pL Za.enc p0.Facts] 0])] (bK 2 (fT hx6) bZ) (by kernel_rfl) ?_))))
 refine ak rfl (aL rfl rfl (ρ1:=[]) (List.Perm.refl _) (iH (fJ hx6) hx7) ?_);rintro _ _ ⟨a8,c9,rfl,rfl⟩
 refine ak rfl (aX (cs:=[pN]) rfl rfl rfl rfl (fun b11=>aH rfl rfl (aj (vs:=[pO a8 x7.length c9]) rfl rfl rfl rfl rfl cA ed (ap (dX (dW (dW (gN (ae (hZ 1 [0] [(14,pO a8 x7.length c9)] (by kernel_rfl) ?_))))))))))
 refine jE (enc:=Za.enc) (xs:=x7) 14 rfl (by exact ba bd) ?_
 refine aa h fun x12 hx12 h=>bC 1 [] [] [(15,.fn 93 [.ref [pL Za.enc x7] 0,.ref [pI 1] 0,.ref [pI 36524] 0])] (bK 0 (gn hx12) bZ) (by kernel_rfl) (lB (k:=0) (enc:=Za.enc) (xs:=x7) (b:=b11) (a:=a8) rfl fH (cG cA) (ap (dX (km (aa h fun q14 hq14 h=>?_)))))
 refine kj (Y:=Unit) (y0:=()) (R:=fun _ _=>[PRes.b b1 43 (bL p0),PRes.b b11 41 [pL Za.enc x7],PRes.b b2 32 [pS ByteArray.empty,pS ByteArray.empty,pB false,pI 0,pI 0,pI 0,pI 0,pI 0],PRes.b b3 4 [pB false]]) (R':=fun t=>[PRes.b b2 32 (dw t.1),PRes.b b3 4 [pB t.2]]) hq14 rfl (fD hx12) rfl (by kernel_rfl) (by kernel_rfl) (cR (ba (ba (ba (ba bd)))) (cR (ba bd) (cR (ba (ba bd)) (cR (ba bd) cM)))) ?_ ?_ ?_
 ·rintro _ _ x15 suf hs;obtain ⟨o,ho13,hk16⟩:=qj hs;clear hs;(try dsimp only at ho13);(try dsimp only [DFp])
  refine ae (ak rfl (aX (cs:=[pI 0,pI 0,pI 0,pI 0,pS ByteArray.empty,pI 0,pI 0]) rfl rfl rfl rfl (fun b17=>aH rfl rfl (aj (vs:=(aF x15)) rfl rfl rfl rfl rfl cA zl7 (ap (qi (au (af (aa ho13 fun x18 hx18 ho13=>ae (bC 4 [1,2,0] [17,18,19] [(20,.agg (dw x18))] (bK 3 (ra hx18) bZ) (by kernel_rfl) (aH rfl rfl (aj (vs:=(dw x18)) rfl rfl rfl rfl rfl (cG (cG (cG cA))) zl8 (aH rfl rfl (aj (vs:=[pB true]) rfl rfl rfl rfl rfl (cG (cG (cG (cG cA)))) ed (ap (ej ?_))))))))))))))))
  (repeat (first | apply aK | apply av | apply bz | apply il | apply iA | apply gw))
  exact pk_rngR ho13 hk16 (cR (ba (ba (ba bd))) (cR (ba (ba (ba bd))) cM))
 ·rintro _ _ D hr;subst hr;(try dsimp only at h);(try dsimp only)
  refine kn (dX (gN (af (ae (aq 1 [(21,.agg [pS ByteArray.empty,pS ByteArray.empty,pB false,pI 0,pI 0,pI 0,pI 0,pI 0])] (by kernel_rfl) (aH rfl rfl (aj (vs:=[pS ByteArray.empty,pS ByteArray.empty,pB false,pI 0,pI 0,pI 0,pI 0,pI 0]) rfl rfl rfl rfl rfl (cG (cG cA)) zl8 (aH rfl rfl (aj (vs:=[pB false]) rfl rfl rfl rfl rfl (cG (cG (cG cA))) ed (ap (ej ?_)))))))))))
  (repeat (first | apply aK | apply av | apply bz | apply il | apply iA | apply gw))
  obtain rfl:=osi h
  exact aG (cK (cZ rfl Dz rfl) (cZ rfl zm3 rfl)) cM ⟨rfl,rfl⟩
 rintro t D hr;subst hr;(try dsimp only at h);(try dsimp only)
 (repeat (first | apply aK | apply av | apply bz | apply il | apply iA | apply gw))
 obtain rfl:=osi h
 exact aG (cK (cZ rfl fH rfl) (cZ rfl tS rfl)) cM ⟨rfl,rfl⟩
def dH (p0:Zm) (p1:Za):Option (Zm×Int):=(fA p0).bind fun x4=>cond (x4 != 0) (some ((⟨0,ByteArray.empty,0,[]⟩:Zm),x4)) ((eY p1).bind fun x6=>cond (!x6) (some ((⟨0,ByteArray.empty,0,[]⟩:Zm),(2:Int))) ((aO p0.Facts p1 (fun y8 y9=>dz y8 y9)).bind fun x10=>(gd x10.2 (idx p0.Facts x10.1)).bind fun m11=>cond (x10.2&&(!(Za.eqb m11 p1))) (some ((⟨0,ByteArray.empty,0,[]⟩:Zm),(14:Int))) (cond ((!x10.2)&&(decide (200≤(p0.Facts.length:Int)))) (some ((⟨0,ByteArray.empty,0,[]⟩:Zm),(8:Int))) ((bE p0.Facts).bind fun x14=>Option.bind (cond (!x10.2) ((bg x14 x10.1 [p1]).bind fun x26=>some x26) (some x14)) (fun l21=>some ((⟨p0.Source,p0.Code,p0.Units,l21⟩:Zm),(0:Int)))))))
theorem jb {p0:Zm} {p1:Za} {r:(Zm×Int)}  (h:dH p0 p1=some r):PF 45 [.agg (bL p0),.agg (aF p1)] (.tup [.agg (bL r.1),pI r.2]):=by
 unfold dH at h
 refine bm ?_
 refine fy Tryz.func45 rfl Tryz.ntmps45 Tryz.results45 rfl (ae (ak rfl (bV (cs:=(bL p0)) rfl rfl (fun b1=>ak rfl (bV (cs:=(aF p1)) rfl rfl (fun b2=>ak rfl (aX (cs:=[pI 0,pS ByteArray.empty,pI 0,pN]) rfl rfl rfl rfl (fun b3=>bY [5] (by kernel_rfl) (dQ (aa h fun x4 hx4 h=>aw [2] [9,10] [(6,pI x4)] (bK 1 (kV hx4) bZ) (by kernel_rfl) (cL (ah [11] [(12,pB (x4 != 0))] (by kernel_rfl) (cY rfl h (fun hc5 h=>?_) fun hc5 h=>?_)))))))))))))
 ·refine af ?_
  refine ae (aq 2 [(13,.agg [pI 0,pS ByteArray.empty,pI 0,pN]),(14,pI x4)] (by kernel_rfl) (aH rfl rfl (aj (vs:=[pI 0,pS ByteArray.empty,pI 0,pN]) rfl rfl rfl rfl rfl cA yd (aD [(5,pI x4)] (by kernel_rfl) (ar (f0 (k:=3) (b:=b3) rfl cA (cC (aK ?_))))))))
  obtain rfl:=osi h
  exact aG (cK (cZ rfl fH rfl) (aI rfl)) cM ⟨rfl,rfl⟩
 refine ag ?_
 refine dQ (aa h fun x6 hx6 h=>aw [1] [15,16] [(17,pB (!x6))] (bK 1 (kD hx6) bZ) (by kernel_rfl) (cY rfl h (fun hc7 h=>?_) fun hc7 h=>?_))
 ·refine af ?_
  refine ae (aq 1 [(18,.agg [pI 0,pS ByteArray.empty,pI 0,pN])] (by kernel_rfl) (aH rfl rfl (aj (vs:=[pI 0,pS ByteArray.empty,pI 0,pN]) rfl rfl rfl rfl rfl cA yd (aD [(5,pI 2)] (by kernel_rfl) (ar (f0 (k:=3) (b:=b3) rfl cA (cC (aK ?_))))))))
  obtain rfl:=osi h
  exact aG (cK (cZ rfl fH rfl) (aI rfl)) cM ⟨rfl,rfl⟩
 refine ag ?_
 refine fk h fun x10 hx10 h=>aw [2,1] [20,21,22,23,19,24,25] [(7,pI x10.1),(8,pB x10.2)] (bK 3 (di (fun hr=>mg (iT hr)) hx10) bZ) (by kernel_rfl) (dQ (du (ρd:=[]) [(0,0),(1,0),(2,0),(3,0),(4,0),(5,0),(6,0),(7,0),(8,0),(9,0)] _ (List.Perm.refl _) (by kernel_rfl) rfl (aa h fun m11 hm11 h=>dJ 10 [2,1] (rg 26 9) [(35,pB (x10.2&&(!(Za.eqb m11 p1))))] (tT 5 Za.enc (gF hm11) (foeq 8 Za.eqok93 bZ)) (by kernel_rfl) (ef (cY rfl h (fun hc12 h=>?_) fun hc12 h=>?_)))))
 ·refine af ?_
  refine ae (aq 1 [(36,.agg [pI 0,pS ByteArray.empty,pI 0,pN])] (by kernel_rfl) (aH rfl rfl (aj (vs:=[pI 0,pS ByteArray.empty,pI 0,pN]) rfl rfl rfl rfl rfl cA yd (aD [(5,pI 14)] (by kernel_rfl) (ar (f0 (k:=3) (b:=b3) rfl cA (cC (aK ?_))))))))
  obtain rfl:=osi h
  exact aG (cK (cZ rfl fH rfl) (aI rfl)) cM ⟨rfl,rfl⟩
 refine ag ?_
 refine dQ (aY [2] (rg 37 7) [(44,pB ((!x10.2)&&(decide (200≤(p0.Facts.length:Int)))))] (by kernel_rfl) (cY rfl h (fun hc13 h=>?_) fun hc13 h=>?_))
 ·refine af ?_
  refine ae (aq 1 [(45,.agg [pI 0,pS ByteArray.empty,pI 0,pN])] (by kernel_rfl) (aH rfl rfl (aj (vs:=[pI 0,pS ByteArray.empty,pI 0,pN]) rfl rfl rfl rfl rfl cA yd (aD [(5,pI 8)] (by kernel_rfl) (ar (f0 (k:=3) (b:=b3) rfl cA (cC (aK ?_))))))))
  obtain rfl:=osi h
  exact aG (cK (cZ rfl fH rfl) (aI rfl)) cM ⟨rfl,rfl⟩
 refine ag ?_
 refine fk h fun x14 hx14 h=>ae (cH 2 [2] [46] [(47,pL Za.enc p0.Facts)] (by kernel_rfl) ?_)
 refine ak rfl (aL rfl rfl (ρ1:=[]) (List.Perm.refl _) (gg hx14) ?_);rintro _ _ ⟨a15,c16,rfl,rfl⟩
 refine aq 1 [(49,pP b1 3)] (by kernel_rfl) (aH rfl rfl (aj (vs:=[pO a15 x14.length c16]) rfl rfl rfl rfl rfl (cG (cG (cG cA))) (bP (bP (bP ed))) (ap (dQ (ah [50] [(51,pB (!x10.2))] (by kernel_rfl) (ar (aa h fun q22 hq22 h=>?_)))))))
 refine aJ (Y:=(Option Addr×Nat)×((List Za))) (fun ((a19,c20),l21)=>[(2,pP b1 0),(4,pP b3 0)]) (fun ((a19,c20),l21)=>[PRes.b b1 43 [pI p0.Source,pS p0.Code,pI p0.Units,pO a19 l21.length c20],PRes.b b3 43 [pI 0,pS ByteArray.empty,pI 0,pN],PRes.row a19 l21.length c20 93 7 (List.map Za.enc l21)]) (fun ((a19,c20),l21)=>q22=l21) ?_ ?_
 ·skip
  refine lE rfl hq22 (fun hc23 hq22=>?_) fun hc23 hq22=>?_
  ·refine ae ?_
   refine cH 4 [3,2] [52] [(53,pO a15 x14.length c16),(54,pI x10.1),(55,.agg (aF p1))] (by kernel_rfl) (ak rfl (bT rfl rfl rfl rfl rfl (ez rfl kg) rfl rfl rfl rfl (fun b24=>aa hq22 fun x26 hx26 hq22=>?_)))
   refine ak rfl (aL rfl rfl (ρ1:=[_,_]) (aB (by exact ba bd) (aB (by exact bd) (List.Perm.refl _))) (fU hx26) ?_);rintro _ _ ⟨a27,c28,rfl,rfl⟩
   refine aq 1 [(58,pP b1 3)] (by kernel_rfl) (aH rfl rfl (aj (vs:=[pO a27 x26.length c28]) rfl rfl rfl rfl rfl (cG (cG (cG cA))) (bP (bP (bP ed))) (ap ?_)))
   obtain rfl:=osi hq22
   exact az ((a27,c28),x26) (pH rfl) (cR (ba (ba (ba bd))) (cR (ba bd) dN)) rfl
  refine ag ?_
  obtain rfl:=osi hq22
  exact az ((a15,c16),x14) (pH rfl) (cR (ba (ba (ba bd))) (cR (ba bd) dN)) rfl
 rintro ⟨⟨a19,c20⟩,l21⟩ τ hz;(try dsimp only at hz);subst q22;(try dsimp only at h);dsimp only [aM]
 refine af (ae ?_)
 refine oP (css:=List.map Za.enc l21) (a:=a19) (by exact ba (ba bd)) ?_
 refine lB (k:=3) (enc:=Za.enc) (xs:=l21) (b:=b1) (a:=a19) rfl fH (cG cA) (hZ 1 [1] [(59,.agg [pI p0.Source,pS p0.Code,pI p0.Units,pL Za.enc l21])] (by kernel_rfl) (aH rfl rfl (aj (vs:=[pI p0.Source,pS p0.Code,pI p0.Units,pL Za.enc l21]) rfl rfl rfl rfl rfl (cG (cG cA)) yd (aD [(5,pI 0)] (by kernel_rfl) (ej ?_)))))
 obtain rfl:=osi h
 exact aG (cK (cZ rfl Dz rfl) (aI rfl)) cM ⟨rfl,rfl⟩
def kZ  : Option Bool:=(lM 7 (⟨#[49,48,48,48,48,48,48,48]⟩:ByteArray) 10).bind fun x1=>(dH x1.1 (⟨100,2,900,3,ByteArray.empty,80,0⟩:Za)).bind fun x3=>(dH x3.1 (⟨100,1,5,1,(⟨#[65,65]⟩:ByteArray),100,0⟩:Za)).bind fun x4=>(dH x4.1 (⟨100,3,1300,3,ByteArray.empty,70,0⟩:Za)).bind fun x5=>(fV x5.1).bind fun x6=>some ((((((x1.2 == 0)&&(x3.2 == 0))&&(x4.2 == 0))&&(x5.2 == 0))&&x6.2)&&(Zj.eqb x6.1 (⟨(⟨#[49,48,48,48,48,48,48,48]⟩:ByteArray),(⟨#[65,65]⟩:ByteArray),false,0,5,10,80,0⟩:Zj)))
theorem sT  {r:Bool}  (h:kZ  = some r):PF 17 [] (pB r):=by
 unfold kZ at h
 refine bm ?_
 refine fy Tryz.func17 rfl Tryz.ntmps17 Tryz.results17 rfl (aU [0] (by kernel_rfl) (fk h fun x1 hx1 h=>ae (bC 4 [] [9,8] [(10,.agg (bL x1.1)),(11,pI x1.2)] (bK 0 (o4 hx1) bZ) (by kernel_rfl) (ak rfl (aX (cs:=[pI 0,pS ByteArray.empty,pI 0,pN]) rfl rfl rfl rfl (fun b2=>aH rfl rfl (aj (vs:=(bL x1.1)) rfl rfl rfl rfl rfl cA yd (aD [(2,pI x1.2)] (by kernel_rfl) (fk h fun x3 hx3 h=>ae (bC 6 [0] [13,14,15,12] [(16,.agg (bL x3.1)),(17,pI x3.2)] (bK 2 (jb hx3) bZ) (by kernel_rfl) (aH rfl rfl (aj (vs:=(bL x3.1)) rfl rfl rfl rfl rfl cA yd (aD [(3,pI x3.2)] (by kernel_rfl) (fk h fun x4 hx4 h=>ae (bC 6 [0] [19,20,21,18] [(22,.agg (bL x4.1)),(23,pI x4.2)] (bK 2 (jb hx4) bZ) (by kernel_rfl) (aH rfl rfl (aj (vs:=(bL x4.1)) rfl rfl rfl rfl rfl cA yd (aD [(4,pI x4.2)] (by kernel_rfl) (fk h fun x5 hx5 h=>ae (bC 6 [0] [25,26,27,24] [(28,.agg (bL x5.1)),(29,pI x5.2)] (bK 2 (jb hx5) bZ) (by kernel_rfl) (aH rfl rfl (aj (vs:=(bL x5.1)) rfl rfl rfl rfl rfl cA yd (aD [(5,pI x5.2)] (by kernel_rfl) (fk h fun x6 hx6 h=>ae (bC 5 [0] [31,32,30] [(33,.agg (dw x6.1)),(34,pB x6.2)] (bK 1 (lv hx6) bZ) (by kernel_rfl) (ak rfl (aX (cs:=[pS ByteArray.empty,pS ByteArray.empty,pB false,pI 0,pI 0,pI 0,pI 0,pI 0]) rfl rfl rfl rfl (fun b7=>aH rfl rfl (aj (vs:=(dw x6.1)) rfl rfl rfl rfl rfl cA zl8 (aD [(7,pB x6.2)] (by kernel_rfl) ?_))))))))))))))))))))))))))))))
 refine cL (aw [0] (rg 35 22) [(0,pB ((((((x1.2 == 0)&&(x3.2 == 0))&&(x4.2 == 0))&&(x5.2 == 0))&&x6.2)&&(Zj.eqb x6.1 (⟨(⟨#[49,48,48,48,48,48,48,48]⟩:ByteArray),(⟨#[65,65]⟩:ByteArray),false,0,5,10,80,0⟩:Zj))))] (foeq 20 Zj.eqok32 bZ) (by kernel_rfl) (ej ?_))
 exact zz r h rfl
def fE (p0:(List Zb)):Option Int:=cond (decide (300<(p0.length:Int))) (some (8:Int)) ((aV (S:=Int) (T:=(Unit)⊕(_)) (fun v2=>cond (decide (v2<(p0.length:Int))) ((idx p0 v2).bind fun m6=>cond ((((((decide (m6.ID<1))||(decide (1000000<m6.ID)))||(decide (m6.Kind<1)))||(decide (6<m6.Kind)))||(decide (m6.Company<0)))||(decide (999<m6.Company))) (some (.inr (.inr (2:Int)))) ((gd (decide (0<v2)) (idx p0 (IntKind.i64.wrap (v2 - 1)))).bind fun m9=>cond ((decide (0<v2))&&(decide (m6.ID≤m9.ID))) (some (.inr (.inr (9:Int)))) ((dh m6.Prefix).bind fun x11=>cond (x11 == 0) (some (.inr (.inr (1:Int)))) (cond (decide (20<(m6.Origins.length:Int))) (some (.inr (.inr (8:Int)))) ((cN m6.Origins).bind fun x14=>cond (!x14) (some (.inr (.inr (1:Int)))) (cond (((((decide (m6.From<0))||(decide (m6.To≤m6.From)))||(decide (36525<m6.To)))||(decide (m6.Registered<(-1))))||(decide (m6.From<m6.Registered))) (some (.inr (.inr (2:Int)))) ((cn m6.Duty).bind fun x17=>cond (x17 != 0) (some (.inr (.inr x17))) (some (.inl (IntKind.i64.wrap (v2+1))))))))))) (some (.inr (.inl ())))) FUEL 0).bind fun q=>match q with | .inl _=>some (0:Int) | .inr e=>some e)
theorem nN {p0:(List Zb)} {r:Int}  (h:fE p0=some r):PF 75 [pL Zb.enc p0] (pI r):=by
 unfold fE at h
 refine bm ?_
 refine fy Tryz.func75 rfl Tryz.ntmps75 Tryz.results75 rfl (aU [2] (by kernel_rfl) (dQ (ah [6,7] [(8,pB (decide (300<(p0.length:Int))))] (by kernel_rfl) (cY rfl h (fun hc1 h=>?_) fun hc1 h=>?_))))
 ·refine af ?_
  refine ai [(2,pI 8)] (by kernel_rfl) (ip ?_)
  exact zz r h rfl
 refine ag ?_
 refine dQ (ai [(9,pL Zb.enc p0),(10,pI (p0.length:Int)),(11,pI 0)] (by kernel_rfl) (ar (aa h fun q4 hq4 h=>?_)))
 refine aJ (Y:=Unit×Unit) (fun (_,_)=>[]) (fun (_,_)=>[]) (fun (_,_)=>q4=Sum.inl ()) ?_ ?_
 ·refine au ?_
  refine bt (Y:=Unit) (S:=Int) _ hq4 (fun _ v2=>[(0,pL Zb.enc p0),(9,pL Zb.enc p0),(10,pI (p0.length:Int)),(11,pI v2)]) (fun _ v2=>[]) () (mN rfl) cM ?_
  rintro _ v2 o τ hb3;(try dsimp only at hb3);dsimp only [aM]
  refine af (ai [(12,pB (decide (v2<(p0.length:Int))))] (by kernel_rfl) (cL (lE rfl hb3 (fun hc5 hb3=>?_) fun hc5 hb3=>?_)))
  ·refine ag ?_
   refine cL (au (af (aa hb3 fun m6 hm6 hb3=>ae (bC 3 [] [14] [(13,pI v2),(15,.agg (ce m6))] (jX 1 Zb.enc hm6 bZ) (by kernel_rfl) (ak rfl (aX (cs:=[pI 0,pI 0,pS ByteArray.empty,pN,pI 0,pI 0,pI 0,pI 0,pI 0,pI 0,pI 0,pB false,pI 0,pB false,pI 0]) rfl rfl rfl rfl (fun b7=>aq 1 [(3,pI v2)] (by kernel_rfl) (aH rfl rfl (aj (vs:=(ce m6)) rfl rfl rfl rfl rfl cA (gE (gE (gE (gE (gE (gE zl9)))))) (ap (dQ (aY [0,0,0,0,0,0] (rg 16 27) [(43,pB ((((((decide (m6.ID<1))||(decide (1000000<m6.ID)))||(decide (m6.Kind<1)))||(decide (6<m6.Kind)))||(decide (m6.Company<0)))||(decide (999<m6.Company))))] (by kernel_rfl) (cY rfl hb3 (fun hc8 hb3=>?_) fun hc8 hb3=>?_)))))))))))))
   ·refine af ?_
    refine ai [(2,pI 2)] (by kernel_rfl) (ip (av (aK ?_)))
    refine bU hb3 (fun ht=>?_);subst ht
    refine av (bz ?_)
    exact zz r h rfl
   refine ag ?_
   refine dQ (du (ρd:=[]) [(0,0),(1,0),(2,0),(3,0),(4,0),(5,0),(6,0),(7,0),(8,0),(9,0),(10,0),(11,0),(12,0)] _ (List.Perm.refl _) (by kernel_rfl) rfl (aa hb3 fun m9 hm9 hb3=>dJ 13 [0] (rg 44 12) [(56,pB ((decide (0<v2))&&(decide (m6.ID≤m9.ID))))] (tT 8 Zb.enc (gF hm9) bZ) (by kernel_rfl) (ef (cY rfl hb3 (fun hc10 hb3=>?_) fun hc10 hb3=>?_))))
   ·refine af ?_
    refine ai [(2,pI 9)] (by kernel_rfl) (ip (av (aK ?_)))
    refine bU hb3 (fun ht=>?_);subst ht
    refine av (bz ?_)
    exact zz r h rfl
   refine ag ?_
   refine dQ (aa hb3 fun x11 hx11 hb3=>aw [0] [57,58,59] [(60,pB (x11 == 0))] (bK 2 (jh hx11) bZ) (by kernel_rfl) (cY rfl hb3 (fun hc12 hb3=>?_) fun hc12 hb3=>?_))
   ·refine af ?_
    refine ai [(2,pI 1)] (by kernel_rfl) (ip (av (aK ?_)))
    refine bU hb3 (fun ht=>?_);subst ht
    refine av (bz ?_)
    exact zz r h rfl
   refine ag ?_
   refine dQ (aY [0] [61,62,63] [(64,pB (decide (20<(m6.Origins.length:Int))))] (by kernel_rfl) (cY rfl hb3 (fun hc13 hb3=>?_) fun hc13 hb3=>?_))
   ·refine af ?_
    refine ai [(2,pI 8)] (by kernel_rfl) (ip (av (aK ?_)))
    refine bU hb3 (fun ht=>?_);subst ht
    refine av (bz ?_)
    exact zz r h rfl
   refine ag ?_
   refine dQ (aa hb3 fun x14 hx14 hb3=>aw [0] [65,66,67] [(68,pB (!x14))] (bK 2 (lN hx14) bZ) (by kernel_rfl) (cY rfl hb3 (fun hc15 hb3=>?_) fun hc15 hb3=>?_))
   ·refine af ?_
    refine ai [(2,pI 1)] (by kernel_rfl) (ip (av (aK ?_)))
    refine bU hb3 (fun ht=>?_);subst ht
    refine av (bz ?_)
    exact zz r h rfl
   refine ag ?_
   refine dQ (aY [0,0,0,0,0,0,0] (rg 69 26) [(95,pB (((((decide (m6.From<0))||(decide (m6.To≤m6.From)))||(decide (36525<m6.To)))||(decide (m6.Registered<(-1))))||(decide (m6.From<m6.Registered))))] (by kernel_rfl) (cY rfl hb3 (fun hc16 hb3=>?_) fun hc16 hb3=>?_))
   ·refine af ?_
    refine ai [(2,pI 2)] (by kernel_rfl) (ip (av (aK ?_)))
    refine bU hb3 (fun ht=>?_);subst ht
    refine av (bz ?_)
    exact zz r h rfl
   refine ag ?_
   refine fk hb3 fun x17 hx17 hb3=>aw [0] [96,97,98] [(5,pI x17)] (bK 2 (lO hx17) bZ) (by kernel_rfl) (cL (ah [99] [(100,pB (x17 != 0))] (by kernel_rfl) (cY rfl hb3 (fun hc18 hb3=>?_) fun hc18 hb3=>?_)))
   ·refine af ?_
    refine ah [101] [(2,pI x17)] (by kernel_rfl) (ej (av (aK ?_)))
    refine bU hb3 (fun ht=>?_);subst ht
    refine av (bz ?_)
    exact zz r h rfl
   refine ag ?_
   refine aA (ar (ah [102] [(11,pI (IntKind.i64.wrap (v2+1)))] (by kernel_rfl) ?_))
   exact ck hb3 () (mN rfl) cM
  refine bA ?_
  refine aW (aQ hb3 (fun ht=>aS rfl ?_))
  exact az ((),()) tq cM ht.symm
 rintro ⟨_,_⟩ τ hz;(try dsimp only at hz);subst q4;(try dsimp only at h);dsimp only [aM]
 refine af (ai [(2,pI 0)] (by kernel_rfl) (ej ?_))
 exact zz r h rfl
def cB (p0:Zj):Option Int:=(dh p0.Code).bind fun x2=>(gd (!(x2 != 8)) (cg p0.Origin)).bind fun x3=>cond ((x2 != 8)||(!x3)) (some (1:Int)) (cond ((((((((((decide (p0.Company<0))||(decide (999<p0.Company)))||(decide (p0.Day<0)))||(decide (36524<p0.Day)))||(decide (p0.Quantity<0)))||(decide (1000000000<p0.Quantity)))||(decide (p0.Value<0)))||(decide (1000000000000<p0.Value)))||(decide (p0.Granted<0)))||(decide (p0.Quantity<p0.Granted))) (some (2:Int)) (some (0:Int)))
theorem ot {p0:Zj} {r:Int}  (h:cB p0=some r):PF 76 [.agg (dw p0)] (pI r):=by
 unfold cB at h
 refine bm ?_
 refine fy Tryz.func76 rfl Tryz.ntmps76 Tryz.results76 rfl (ae (ak rfl (bV (cs:=(dw p0)) rfl rfl (fun b1=>bY [2] (by kernel_rfl) (dQ (aa h fun x2 hx2 h=>aa h fun x3 hx3 h=>aw [0,0] (rg 3 9) [(12,pB ((x2 != 8)||(!x3)))] (bK 2 (jh hx2) (kU 7 (fun hc=>gJ (gF hx3 hc)) bZ)) (by kernel_rfl) (cY rfl h (fun hc4 h=>?_) fun hc4 h=>?_)))))))
 ·refine af ?_
  refine ai [(2,pI 1)] (by kernel_rfl) (ip ?_)
  exact zz r h rfl
 refine ag ?_
 refine dQ (aY [0,0,0,0,0,0,0,0,0,0,0] (rg 13 49) [(62,pB ((((((((((decide (p0.Company<0))||(decide (999<p0.Company)))||(decide (p0.Day<0)))||(decide (36524<p0.Day)))||(decide (p0.Quantity<0)))||(decide (1000000000<p0.Quantity)))||(decide (p0.Value<0)))||(decide (1000000000000<p0.Value)))||(decide (p0.Granted<0)))||(decide (p0.Quantity<p0.Granted))))] (by kernel_rfl) (cY rfl h (fun hc5 h=>?_) fun hc5 h=>?_))
 ·refine af ?_
  refine ai [(2,pI 2)] (by kernel_rfl) (ip ?_)
  exact zz r h rfl
 refine ag ?_
 refine cL (ai [(2,pI 0)] (by kernel_rfl) (ej ?_))
 exact zz r h rfl
def ic (p0:(List Zb)) (p1:Zj):Option (Zq×Int):=(fE p0).bind fun x3=>cond (x3 != 0) (some ((⟨[],0⟩:Zq),x3)) ((cB p1).bind fun x5=>cond (x5 != 0) (some ((⟨[],0⟩:Zq),x5)) ((eE p0 p1.Code p1.Origin p1.Company p1.Day).bind fun x7=>(bj x7 (fun y8=>gh y8)).bind fun x9=>cond (!x9) (some ((⟨[],0⟩:Zq),(7:Int))) ((gK p1).bind fun x11=>cond (x11.2 != 0) (some ((⟨[],0⟩:Zq),x11.2)) ((aV (S:=Int×(List Zd)×Int) (T:=((List Zd)×Int)⊕(_)) (fun (v14,l16,v19)=>cond (decide (v14<(x11.1.length:Int))) (Option.bind (α:=((List Zd)×Int)⊕_) ((idx x11.1 v14).bind fun m35=>(ew x7 m35).bind fun x37=>cond (x37.2.2 != 0) (some (.inr (.inr (.inr ((⟨[],0⟩:Zq),x37.2.2))))) (cond x37.2.1 ((app 40 l16 [x37.1]).bind fun l43=>some (.inl (l43,(IntKind.i64.wrap (v19+x37.1.Amount))))) (some (.inl (l16,v19))))) (fun q=>match q with | .inl (l32,v33)=>some (.inl ((IntKind.i64.wrap (v14+1)),l32,v33)) | .inr e=>some e)) (some (.inr (.inl (l16,v19))))) FUEL (0,([]:List Zd),0)).bind fun q=>match q with | .inl (l23,v24)=>cond (decide (1000000000000<v24)) (some ((⟨[],0⟩:Zq),(3:Int))) (some ((⟨l23,v24⟩:Zq),(0:Int))) | .inr e=>some e))))
theorem qp {p0:(List Zb)} {p1:Zj} {r:(Zq×Int)}  (h:ic p0 p1=some r):PF 42 [pL Zb.enc p0,.agg (dw p1)] (.tup [.agg [pL Zd.enc r.1.Lines,pI r.1.Total],pI r.2]):=by
 unfold ic at h
 refine bm ?_
 refine fy Tryz.func42 rfl Tryz.ntmps42 Tryz.results42 rfl (ae (ak rfl (bV (cs:=(dw p1)) rfl rfl (fun b1=>ak rfl (aX (cs:=[pN,pI 0]) rfl rfl rfl rfl (fun b2=>bY [5] (by kernel_rfl) (dQ (aa h fun x3 hx3 h=>aw [] [17,18] [(6,pI x3)] (bK 1 (nN hx3) bZ) (by kernel_rfl) (cL (ah [19] [(20,pB (x3 != 0))] (by kernel_rfl) (cY rfl h (fun hc4 h=>?_) fun hc4 h=>?_)))))))))))
 ·refine af ?_
  refine ae (aq 2 [(21,.agg [pN,pI 0]),(22,pI x3)] (by kernel_rfl) (aH rfl rfl (aj (vs:=[pN,pI 0]) rfl rfl rfl rfl rfl cA xJ (aD [(5,pI x3)] (by kernel_rfl) (ar (f0 (k:=0) (b:=b2) rfl cA (cC (aK ?_))))))))
  obtain rfl:=osi h
  exact aG (cK (cZ rfl fH rfl) (aI rfl)) cM ⟨rfl,rfl⟩
 refine ag ?_
 refine dQ (aa h fun x5 hx5 h=>aw [1] [23,24] [(7,pI x5)] (bK 1 (ot hx5) bZ) (by kernel_rfl) (cL (ah [25] [(26,pB (x5 != 0))] (by kernel_rfl) (cY rfl h (fun hc6 h=>?_) fun hc6 h=>?_))))
 ·refine af ?_
  refine ae (aq 2 [(27,.agg [pN,pI 0]),(28,pI x5)] (by kernel_rfl) (aH rfl rfl (aj (vs:=[pN,pI 0]) rfl rfl rfl rfl rfl cA xJ (aD [(5,pI x5)] (by kernel_rfl) (ar (f0 (k:=0) (b:=b2) rfl cA (cC (aK ?_))))))))
  obtain rfl:=osi h
  exact aG (cK (cZ rfl fH rfl) (aI rfl)) cM ⟨rfl,rfl⟩
 refine ag ?_
 refine fk h fun x7 hx7 h=>aw [1,1,1,1] (rg 29 10) [(8,pL Zb.enc x7)] (bK 9 (mL hx7) bZ) (by kernel_rfl) (dQ (aa h fun x9 hx9 h=>aw [] [39,40] [(41,pB (!x9))] (bK 1 (fh (fun hr=>mg (og hr)) hx9) bZ) (by kernel_rfl) (cY rfl h (fun hc10 h=>?_) fun hc10 h=>?_)))
 ·refine af ?_
  refine ae (aq 1 [(42,.agg [pN,pI 0])] (by kernel_rfl) (aH rfl rfl (aj (vs:=[pN,pI 0]) rfl rfl rfl rfl rfl cA xJ (aD [(5,pI 7)] (by kernel_rfl) (ar (f0 (k:=0) (b:=b2) rfl cA (cC (aK ?_))))))))
  obtain rfl:=osi h
  exact aG (cK (cZ rfl fH rfl) (aI rfl)) cM ⟨rfl,rfl⟩
 refine ag ?_
 refine fk h fun x11 hx11 h=>aw [1] [44,45,43,46,47] [(9,pL Zf.enc x11.1),(10,pI x11.2)] (bK 1 (o7 hx11) bZ) (by kernel_rfl) (dQ (ah [48] [(49,pB (x11.2 != 0))] (by kernel_rfl) (cY rfl h (fun hc12 h=>?_) fun hc12 h=>?_)))
 ·refine af ?_
  refine ae (aq 2 [(50,.agg [pN,pI 0]),(51,pI x11.2)] (by kernel_rfl) (aH rfl rfl (aj (vs:=[pN,pI 0]) rfl rfl rfl rfl rfl cA xJ (aD [(5,pI x11.2)] (by kernel_rfl) (ar (f0 (k:=0) (b:=b2) rfl cA (cC (aK ?_))))))))
  obtain rfl:=osi h
  exact aG (cK (cZ rfl fH rfl) (aI rfl)) cM ⟨rfl,rfl⟩
 refine ag ?_
 refine cL (ae (ak rfl (aX (cs:=[pN,pI 0]) rfl rfl rfl rfl (fun b13=>ap (dQ (ai [(52,pL Zf.enc x11.1),(53,pI (x11.1.length:Int)),(54,pI 0)] (by kernel_rfl) (ar (fO 37 5 (aa h fun q26 hq26 h=>?_)))))))))
 refine aJ (Y:=(Option Addr×Nat)×((List Zd)×Int)) (fun ((a21,c22),(l23,v24))=>[(4,pP b2 0),(11,pP b13 0)]) (fun ((a21,c22),(l23,v24))=>[PRes.b b13 25 [pO a21 l23.length c22,pI v24],PRes.b b2 25 [pN,pI 0],PRes.row a21 l23.length c22 37 5 (List.map Zd.enc l23)]) (fun ((a21,c22),(l23,v24))=>q26=Sum.inl (l23,v24)) ?_ ?_
 ·refine au ?_
  refine bt (Y:=Option Addr×Nat) (S:=Int×(List Zd)×Int) _ hq26 (fun (a17,c18) (v14,l16,v19)=>[(4,pP b2 0),(8,pL Zb.enc x7),(11,pP b13 0),(52,pL Zf.enc x11.1),(53,pI (x11.1.length:Int)),(54,pI v14)]) (fun (a17,c18) (v14,l16,v19)=>[PRes.b b13 25 [pO a17 l16.length c18,pI v19],PRes.b b2 25 [pN,pI 0],PRes.row a17 l16.length c18 37 5 (List.map Zd.enc l16)]) (none,0) (AC rfl) (cR (ba bd) (cR (ba bd) dN)) ?_
  rintro ⟨a17,c18⟩ ⟨v14,l16,v19⟩ o τ hb25;(try dsimp only at hb25);dsimp only [aM]
  refine af (ai [(55,pB (decide (v14<(x11.1.length:Int))))] (by kernel_rfl) (cL (lE rfl hb25 (fun hc28 hb25=>?_) fun hc28 hb25=>?_)))
  ·refine ag ?_
   refine fk hb25 fun q34 hq34 hb25=>?_
   refine aJ (Y:=(Option Addr×Nat)×((List Zd)×Int)) (fun ((a30,c31),(l32,v33))=>[(4,pP b2 0),(8,pL Zb.enc x7),(11,pP b13 0),(52,pL Zf.enc x11.1),(53,pI (x11.1.length:Int)),(54,pI v14)]) (fun ((a30,c31),(l32,v33))=>[PRes.b b13 25 [pO a30 l32.length c31,pI v33],PRes.b b2 25 [pN,pI 0],PRes.row a30 l32.length c31 37 5 (List.map Zd.enc l32)]) (fun ((a30,c31),(l32,v33))=>q34=Sum.inl (l32,v33)) ?_ ?_
   ·skip
    refine au (af (aa hq34 fun m35 hm35 hq34=>ae (bC 2 [] [56] [(57,.agg [pI m35.quantity,pI m35.value,pL eI m35.kinds])] (jX 0 Zf.enc hm35 bZ) (by kernel_rfl) (ak rfl (aX (cs:=[pI 0,pI 0,pN]) rfl rfl rfl rfl (fun b36=>aH rfl rfl (aj (vs:=[pI m35.quantity,pI m35.value,pL eI m35.kinds]) rfl rfl rfl rfl rfl cA B9 (ap (fk hq34 fun x37 hx37 hq34=>ae (bC 7 [0] [59,60,61,58] [(62,.agg [pI x37.1.Kind,pI x37.1.Measure,pI x37.1.Quantity,pI x37.1.Value,pI x37.1.Amount]),(63,pB x37.2.1),(64,pI x37.2.2)] (bK 2 (nM hx37) bZ) (by kernel_rfl) (ak rfl (aX (cs:=[pI 0,pI 0,pI 0,pI 0,pI 0]) rfl rfl rfl rfl (fun b38=>aH rfl rfl (aj (vs:=[pI x37.1.Kind,pI x37.1.Measure,pI x37.1.Quantity,pI x37.1.Value,pI x37.1.Amount]) rfl rfl rfl rfl rfl cA zl5 (aD [(15,pB x37.2.1),(16,pI x37.2.2)] (by kernel_rfl) (dQ (ah [65] [(66,pB (x37.2.2 != 0))] (by kernel_rfl) (cY rfl hq34 (fun hc39 hq34=>?_) fun hc39 hq34=>?_))))))))))))))))))
    ·refine af ?_
     refine ae (aq 2 [(67,.agg [pN,pI 0]),(68,pI x37.2.2)] (by kernel_rfl) (aH rfl rfl (aj (vs:=[pN,pI 0]) rfl rfl rfl rfl rfl (cG (cG (cG cA))) xJ (aD [(5,pI x37.2.2)] (by kernel_rfl) (ar (f0 (k:=0) (b:=b2) rfl (cG (cG (cG cA))) (cC (aK (av (bz ?_))))))))))
     obtain rfl:=osi hq34
     refine bU hb25 (fun ht=>?_);subst ht
     refine av (bz ?_)
     obtain rfl:=osi h
     exact aG (cK (cZ rfl zm3 rfl) (aI rfl)) cM ⟨rfl,rfl⟩
    refine ag ?_
    refine cL (ai [(69,pB x37.2.1)] (by kernel_rfl) (cY rfl hq34 (fun hc40 hq34=>?_) fun hc40 hq34=>?_))
    ·refine af ?_
     refine ae (cH 3 [2,0] [70] [(71,pO a17 l16.length c18),(72,.agg [pI x37.1.Kind,pI x37.1.Measure,pI x37.1.Quantity,pI x37.1.Value,pI x37.1.Amount])] (by kernel_rfl) (ak rfl (bT rfl rfl rfl rfl rfl (ez rfl kg) rfl rfl rfl rfl (fun b41=>aa hq34 fun l43 hl43 hq34=>?_))))
     refine ak rfl (fb (enc:=Zd.enc) rfl rfl rfl rfl rfl rfl rfl rfl rfl fH (by exact ba (ba (ba (ba (ba bd))))) hl43 (fun a44 c45=>?_))
     refine aq 1 [(75,pP b13 0)] (by kernel_rfl) (aH rfl rfl (aj (vs:=[pO a44 l43.length c45]) rfl rfl rfl rfl rfl (cG (cG (cG (cG cA)))) ed (ap (ar (ae (cH 6 [4,2] [76,77,78,79] [(80,pI (IntKind.i64.wrap (v19+x37.1.Amount))),(81,pP b13 1)] (by kernel_rfl) (aH rfl rfl (aj (vs:=[pI (IntKind.i64.wrap (v19+x37.1.Amount))]) rfl rfl rfl rfl rfl (cG (cG (cG (cG cA)))) (bP ed) (ap (aA ?_))))))))))
     obtain rfl:=osi hq34
     exact az ((a44,c45),(l43,(IntKind.i64.wrap (v19+x37.1.Amount)))) (AC rfl) (cR (ba (ba (ba (ba bd)))) (cR (ba (ba (ba (ba bd)))) dN)) rfl
    refine ag ?_
    refine aA ?_
    obtain rfl:=osi hq34
    exact az ((a17,c18),(l16,v19)) (AC rfl) (cR (ba (ba bd)) (cR (ba (ba bd)) (cR (ba (ba bd)) cM))) rfl
   rintro ⟨⟨a30,c31⟩,⟨l32,v33⟩⟩ τ hz;(try dsimp only at hz);subst q34;(try dsimp only at hb25);dsimp only [aM]
   refine ah [82] [(54,pI (IntKind.i64.wrap (v14+1)))] (by kernel_rfl) ?_
   exact ck hb25 (a30,c31) (AC rfl) qH
  refine bA ?_
  refine aW (aQ hb25 (fun ht=>aS rfl ?_))
  exact az ((a17,c18),(l16,v19)) (pH rfl) qH ht.symm
 rintro ⟨⟨a21,c22⟩,⟨l23,v24⟩⟩ τ hz;(try dsimp only at hz);subst q26;(try dsimp only at h);dsimp only [aM]
 refine af (af (aY [0] [83,84] [(85,pB (decide (1000000000000<v24)))] (by kernel_rfl) (cY rfl h (fun hc47 h=>?_) fun hc47 h=>?_)))
 ·refine af ?_
  refine ae (aq 1 [(86,.agg [pN,pI 0])] (by kernel_rfl) (aH rfl rfl (aj (vs:=[pN,pI 0]) rfl rfl rfl rfl rfl (cG cA) xJ (aD [(5,pI 3)] (by kernel_rfl) (ar (f0 (k:=0) (b:=b2) rfl (cG cA) (cC (aK ?_))))))))
  obtain rfl:=osi h
  exact aG (cK (cZ rfl tS rfl) (aI rfl)) cM ⟨rfl,rfl⟩
 refine ag ?_
 refine cL (ae ?_)
 refine oP (css:=List.map Zd.enc l23) (a:=a21) (by exact ba (ba bd)) ?_
 refine lB (k:=0) (enc:=Zd.enc) (xs:=l23) (b:=b13) (a:=a21) rfl fH (cG cA) (hZ 1 [1] [(87,.agg [pL Zd.enc l23,pI v24])] (by kernel_rfl) (aH rfl rfl (aj (vs:=[pL Zd.enc l23,pI v24]) rfl rfl rfl rfl rfl (cG (cG cA)) xJ (aD [(5,pI 0)] (by kernel_rfl) (ej ?_)))))
 obtain rfl:=osi h
 exact aG (cK (cZ rfl Dz rfl) (aI rfl)) cM ⟨rfl,rfl⟩
def fe (p0:(List Zb)) (p1:Zj):Option (Int×Int):=(ic p0 p1).bind fun x2=>some (x2.1.Total,x2.2)
theorem mE {p0:(List Zb)} {p1:Zj} {r:(Int×Int)}  (h:fe p0 p1=some r):PF 25 [pL Zb.enc p0,.agg (dw p1)] (.tup [pI r.1,pI r.2]):=by
 unfold fe at h
 refine bm ?_
 refine fy Tryz.func25 rfl Tryz.ntmps25 Tryz.results25 rfl (ae (ak rfl (bV (cs:=(dw p1)) rfl rfl (fun b1=>bY [4,5] (by kernel_rfl) (fk h fun x2 hx2 h=>ae (bC 6 [0] [9,10,11,8] [(12,.agg [pL Zd.enc x2.1.Lines,pI x2.1.Total]),(13,pI x2.2)] (bK 2 (qp hx2) bZ) (by kernel_rfl) (ak rfl (aX (cs:=[pN,pI 0]) rfl rfl rfl rfl (fun b3=>aH rfl rfl (aj (vs:=[pL Zd.enc x2.1.Lines,pI x2.1.Total]) rfl rfl rfl rfl rfl cA xJ (aD [(7,pI x2.2)] (by kernel_rfl) (cL (aY [0] [14,15,16] [(4,pI x2.1.Total),(5,pI x2.2)] (by kernel_rfl) (ej ?_))))))))))))))
 obtain rfl:=osi h
 exact aG (cK (aI rfl) (aI rfl)) cM ⟨rfl,rfl⟩
def jc (p0:(List Zb)) (p1:Zm):Option Int:=(fV p1).bind fun x2=>cond (!x2.2) (some (0:Int)) ((fe p0 x2.1).bind fun x5=>cond (x5.2 != 0) (some (0:Int)) (some x5.1))
theorem rb {p0:(List Zb)} {p1:Zm} {r:Int}  (h:jc p0 p1=some r):PF 21 [pL Zb.enc p0,.agg (bL p1)] (pI r):=by
 unfold jc at h
 refine bm ?_
 refine fy Tryz.func21 rfl Tryz.ntmps21 Tryz.results21 rfl (ae (ak rfl (bV (cs:=(bL p1)) rfl rfl (fun b1=>bY [4] (by kernel_rfl) (fk h fun x2 hx2 h=>ae (bC 5 [0] [10,11,9] [(12,.agg (dw x2.1)),(13,pB x2.2)] (bK 1 (lv hx2) bZ) (by kernel_rfl) (ak rfl (aX (cs:=[pS ByteArray.empty,pS ByteArray.empty,pB false,pI 0,pI 0,pI 0,pI 0,pI 0]) rfl rfl rfl rfl (fun b3=>aH rfl rfl (aj (vs:=(dw x2.1)) rfl rfl rfl rfl rfl cA zl8 (aD [(6,pB x2.2)] (by kernel_rfl) (dQ (ah [14] [(15,pB (!x2.2))] (by kernel_rfl) (cY rfl h (fun hc4 h=>?_) fun hc4 h=>?_))))))))))))))
 ·refine af ?_
  refine ai [(4,pI 0)] (by kernel_rfl) (ip ?_)
  exact zz r h rfl
 refine ag ?_
 refine fk h fun x5 hx5 h=>aw [0] [17,18,19,16,20,21] [(7,pI x5.1),(8,pI x5.2)] (bK 2 (mE hx5) bZ) (by kernel_rfl) (dQ (ah [22] [(23,pB (x5.2 != 0))] (by kernel_rfl) (cY rfl h (fun hc6 h=>?_) fun hc6 h=>?_)))
 ·refine af ?_
  refine ai [(4,pI 0)] (by kernel_rfl) (ip ?_)
  exact zz r h rfl
 refine ag ?_
 refine cL (ah [24] [(4,pI x5.1)] (by kernel_rfl) (ej ?_))
 exact zz r h rfl
def kL (p0:Int) (p1:(List Za)):Option (Zm×Bool):=(lM 7 (⟨#[49,48,48,48,48,48,48,48]⟩:ByteArray) p0).bind fun x2=>(aV (S:=Int×Int×Int×ByteArray×Int×(List Za)) (T:=(Int×Int×ByteArray×Int×(List Za))) (fun (v4,v5,v6,v7,v8,l9)=>cond ((decide (v5<(p1.length:Int)))&&(v4 == 0)) ((idx p1 v5).bind fun m18=>(dH (⟨v6,v7,v8,l9⟩:Zm) m18).bind fun x19=>some (.inl (x19.2,(IntKind.i64.wrap (v5+1)),x19.1.Source,x19.1.Code,x19.1.Units,x19.1.Facts))) (some (.inr (v4,v6,v7,v8,l9)))) FUEL (x2.2,0,x2.1.Source,x2.1.Code,x2.1.Units,x2.1.Facts)).bind fun (v10,v11,v12,v13,l14)=>some ((⟨v11,v12,v13,l14⟩:Zm),(v10 == 0))
theorem tC {p0:Int} {p1:(List Za)} {r:(Zm×Bool)}  (h:kL p0 p1=some r):PF 23 [pI p0,pL Za.enc p1] (.tup [.agg (bL r.1),pB r.2]):=by
 unfold kL at h
 refine bm ?_
 refine fy Tryz.func23 rfl Tryz.ntmps23 Tryz.results23 rfl (ae (ak rfl (aX (cs:=[pI 0,pS ByteArray.empty,pI 0,pN]) rfl rfl rfl rfl (fun b1=>bY [5] (by kernel_rfl) (fk h fun x2 hx2 h=>ae (bC 5 [] [10,11,9] [(12,.agg (bL x2.1)),(13,pI x2.2)] (bK 1 (o4 hx2) bZ) (by kernel_rfl) (ak rfl (aX (cs:=[pI 0,pS ByteArray.empty,pI 0,pN]) rfl rfl rfl rfl (fun b3=>aH rfl rfl (aj (vs:=(bL x2.1)) rfl rfl rfl rfl rfl cA yd (aD [(7,pI x2.2)] (by kernel_rfl) (dQ (ai [(8,pI 0)] (by kernel_rfl) (ar (aa h fun q16 hq16 h=>?_)))))))))))))))
 refine aJ (Y:=Unit×(Int×Int×ByteArray×Int×(List Za))) (fun (_,(v10,v11,v12,v13,l14))=>[(4,pP b1 0),(6,pP b3 0),(7,pI v10)]) (fun (_,(v10,v11,v12,v13,l14))=>[PRes.b b1 43 [pI 0,pS ByteArray.empty,pI 0,pN],PRes.b b3 43 [pI v11,pS v12,pI v13,pL Za.enc l14]]) (fun (_,(v10,v11,v12,v13,l14))=>q16=(v10,v11,v12,v13,l14)) ?_ ?_
 ·refine au ?_
  refine bt (Y:=Unit) (S:=Int×Int×Int×ByteArray×Int×(List Za)) _ hq16 (fun _ (v4,v5,v6,v7,v8,l9)=>[(1,pL Za.enc p1),(4,pP b1 0),(6,pP b3 0),(7,pI v4),(8,pI v5)]) (fun _ (v4,v5,v6,v7,v8,l9)=>[PRes.b b1 43 [pI 0,pS ByteArray.empty,pI 0,pN],PRes.b b3 43 [pI v6,pS v7,pI v8,pL Za.enc l9]]) () (si rfl) (cR (ba bd) dN) ?_
  rintro _ ⟨v4,v5,v6,v7,v8,l9⟩ o τ hb15;(try dsimp only at hb15);dsimp only [aM]
  refine af (af (ah (rg 14 7) [(21,pB ((decide (v5<(p1.length:Int)))&&(v4 == 0)))] (by kernel_rfl) (cY rfl hb15 (fun hc17 hb15=>?_) fun hc17 hb15=>?_)))
  ·refine ag ?_
   refine cL (au (aa hb15 fun m18 hm18 hb15=>aa hb15 fun x19 hx19 hb15=>kh (ρd:=[PRes.b b3 _ _]) _ (aB (ba bd) (List.Perm.refl _)) (bu 1 (by kernel_rfl) rfl rfl rfl rfl (cm (p:=pL Za.enc p1) rfl (.p rfl)) (bu 2 (by kernel_rfl) rfl rfl rfl rfl (cm (p:=pI v5) rfl (.p rfl)) (bu 3 (by kernel_rfl) rfl rfl rfl rfl (fZ (enc:=Za.enc) rfl rfl rfl (fun _=>rfl) (.p rfl) (.p rfl) (fun _=>hm18)) (bu 4 (by kernel_rfl) rfl rfl rfl rfl (ep (p:=.agg (aF m18)) rfl (.p rfl) rfl) (aN 0 (by kernel_rfl) (aT rfl rfl rfl rfl (eU (bX (p:=.agg [pI v6,pS v7,pI v8,pL Za.enc l9]) rfl (.p rfl) fH rfl) (aN 5 (by kernel_rfl) (eA rfl rfl rfl rfl rfl rfl (jb hx19) (bu 6 (by kernel_rfl) rfl rfl rfl rfl (cm (p:=.tup [.agg (bL x19.1),pI x19.2]) rfl (.p rfl)) (bu 7 (by kernel_rfl) rfl rfl rfl rfl (mj (p:=.agg (bL x19.1)) rfl (.p rfl) rfl) (bu 8 (by kernel_rfl) rfl rfl rfl rfl (mj (p:=pI x19.2) rfl (.p rfl) rfl) (aN 9 (by kernel_rfl) (bq rfl rfl rfl (aj (vs:=(bL x19.1)) rfl rfl rfl rfl rfl cA yd (bu 10 (by kernel_rfl) rfl rfl rfl rfl (bc (p:=pI x19.2) rfl (.p rfl)) (cq (by kernel_rfl) (aA (ar (ah [22,23] [(8,pI (IntKind.i64.wrap (v5+1)))] (by kernel_rfl) ?_))))))))))))))))))))))
   exact ck hb15 () (si rfl) (cR (ba bd) dN)
  refine bA ?_
  refine aW (aQ hb15 (fun ht=>aS rfl ?_))
  exact az ((),(v4,v6,v7,v8,l9)) (mD rfl) zs2 ht.symm
 rintro ⟨_,⟨v10,v11,v12,v13,l14⟩⟩ τ hz;(try dsimp only at hz);subst q16;(try dsimp only at h);dsimp only [aM]
 refine af (ae (cH 3 [1] [34] [(33,.agg [pI v11,pS v12,pI v13,pL Za.enc l14]),(35,pB (v10 == 0))] (by kernel_rfl) (aH rfl rfl (aj (vs:=[pI v11,pS v12,pI v13,pL Za.enc l14]) rfl rfl rfl rfl rfl cA yd (aD [(5,pB (v10 == 0))] (by kernel_rfl) (ej ?_))))))
 obtain rfl:=osi h
 exact aG (cK (cZ rfl fH rfl) (aI rfl)) cM ⟨rfl,rfl⟩
def gB (p0:(List Int)) (p1:(List Int)) (p2:Int):Option Bool:=(iy p2 50).bind fun x1=>(gI p0).bind fun x2=>(kL (IntKind.i64.wrap (1+x1)) x2).bind fun x3=>(jH).bind fun x5=>Option.bind (cond (decide (0<(p1.length:Int))) ((gq p1).bind fun x9=>some x9) (some x5.Measures)) (fun l6=>(fV x3.1).bind fun x10=>Option.bind (cond x10.2 ((fe l6 x10.1).bind fun x15=>cond (x15.2 == 0) (some x15.1) (some 0)) (some 0)) (fun v12=>(gd x3.2 (jc l6 x3.1)).bind fun x17=>(gd (x3.2&&(x17 == v12)) (kZ)).bind fun x18=>some ((x3.2&&(x17 == v12))&&x18)))
theorem nc {p0:(List Int)} {p1:(List Int)} {p2:Int} {r:Bool}  (h:gB p0 p1 p2=some r):PF 6 [pL eI p0,pL eI p1,pI p2] (pB r):=by
 unfold gB at h
 refine bm ?_
 refine fy Tryz.func6 rfl Tryz.ntmps6 Tryz.results6 rfl (aU [6] (by kernel_rfl) (fk h fun x1 hx1 h=>aa h fun x2 hx2 h=>aa h fun x3 hx3 h=>ae (bC 9 [] ((rg 16 6)++[15]) [(22,.agg (bL x3.1)),(23,pB x3.2)] (bK 1 (mX hx1) (bK 4 (o1 hx2) (bK 5 (tC hx3) bZ))) (by kernel_rfl) (ak rfl (aX (cs:=[pI 0,pS ByteArray.empty,pI 0,pN]) rfl rfl rfl rfl (fun b4=>aH rfl rfl (aj (vs:=(bL x3.1)) rfl rfl rfl rfl rfl cA yd (aD [(8,pB x3.2)] (by kernel_rfl) (fk h fun x5 hx5 h=>aw [] [24,25] [(9,pL Zb.enc x5.Measures)] (bK 0 (sG hx5) bZ) (by kernel_rfl) (dQ (ah [26,27] [(28,pB (decide (0<(p1.length:Int))))] (by kernel_rfl) (ar (aa h fun q7 hq7 h=>?_)))))))))))))
 refine aJ (Y:=Unit×((List Zb))) (fun (_,l6)=>[(7,pP b4 0),(8,pB x3.2),(9,pL Zb.enc l6)]) (fun (_,l6)=>[PRes.b b4 43 (bL x3.1)]) (fun (_,l6)=>q7=l6) ?_ ?_
 ·skip
  refine lE rfl hq7 (fun hc8 hq7=>?_) fun hc8 hq7=>?_
  ·refine aa hq7 ?_;clear hq7;intro x9 hx9 hq7
   refine aw [] [29,30] [(9,pL Zb.enc x9)] (bK 1 (qa hx9) bZ) (by kernel_rfl) ?_
   obtain rfl:=osi hq7
   exact az ((),x9) (mD rfl) dN rfl
  refine ag ?_
  obtain rfl:=osi hq7
  exact az ((),x5.Measures) (mD rfl) dN rfl
 rintro ⟨_,l6⟩ τ hz;(try dsimp only at hz);subst q7;(try dsimp only at h);dsimp only [aM]
 refine af (aa h fun x10 hx10 h=>ae (bC 5 [0] [32,33,31] [(34,.agg (dw x10.1)),(35,pB x10.2)] (bK 1 (lv hx10) bZ) (by kernel_rfl) (ak rfl (aX (cs:=[pS ByteArray.empty,pS ByteArray.empty,pB false,pI 0,pI 0,pI 0,pI 0,pI 0]) rfl rfl rfl rfl (fun b11=>aH rfl rfl (aj (vs:=(dw x10.1)) rfl rfl rfl rfl rfl cA zl8 (aD [(11,pB x10.2)] (by kernel_rfl) (cL (ai [(12,pI 0)] (by kernel_rfl) (dQ (ai [(36,pB x10.2)] (by kernel_rfl) (ar (aa h fun q13 hq13 h=>?_)))))))))))))
 refine aJ (Y:=Unit×Int) (fun (_,v12)=>[(7,pP b4 0),(8,pB x3.2),(9,pL Zb.enc l6),(12,pI v12)]) (fun (_,v12)=>[PRes.b b4 43 (bL x3.1)]) (fun (_,v12)=>q13=v12) ?_ ?_
 ·skip
  refine lE rfl hq13 (fun hc14 hq13=>?_) fun hc14 hq13=>?_
  ·refine af ?_
   refine aa hq13 fun x15 hx15 hq13=>aw [0] [38,39,40,37,41,42] [(13,pI x15.1),(14,pI x15.2)] (bK 2 (mE hx15) bZ) (by kernel_rfl) (cL (ah [43] [(44,pB (x15.2 == 0))] (by kernel_rfl) (cY rfl hq13 (fun hc16 hq13=>?_) fun hc16 hq13=>?_)))
   ·refine ah [45] [(12,pI x15.1)] (by kernel_rfl) ?_
    obtain rfl:=osi hq13
    exact az ((),x15.1) (mN rfl) (cR (ba bd) cM) rfl
   refine ag ?_
   obtain rfl:=osi hq13
   exact az ((),0) (mN rfl) (cR (ba bd) cM) rfl
  refine ag ?_
  obtain rfl:=osi hq13
  exact az ((),0) (mN rfl) (cR (ba bd) cM) rfl
 rintro ⟨_,v12⟩ τ hz;(try dsimp only at hz);subst q13;(try dsimp only at h);dsimp only [aM]
 refine af (aa h fun x17 hx17 h=>aa h fun x18 hx18 h=>aw [0] (rg 46 11) [(6,pB ((x3.2&&(x17 == v12))&&x18))] (kU 4 (fun hc=>rb (gF hx17 hc)) (kU 9 (fun hc=>sT (gF hx18 hc)) bZ)) (by kernel_rfl) (ej ?_))
 exact zz r h rfl
end SX
namespace SX
open Go
def Digs (l:List Int):Prop:=∀ x∈l,48≤x∧x≤57
def U64 (a:Int):Prop:=0≤a∧a<18446744073709551616
theorem wu (a:Int):IntKind.u64.wrap a=a % 18446744073709551616:=rfl
theorem cU {a:Int} (h:U64 a):IntKind.u64.wrap a=a:=by rw [wu];unfold U64 at h;omega
theorem bv64 {a:Int} (h:U64 a):(BitVec.ofInt 64 a).toNat=a.toNat:=by
 rw [BitVec.toNat_ofInt];unfold U64 at h;omega
theorem zJ {a b:Int} (ha:U64 a) (hb:U64 b):ec .u64 a b=((a.toNat &&& b.toNat:Nat):Int):=by
 have hlt:a.toNat &&& b.toNat<18446744073709551616:=Nat.lt_of_le_of_lt Nat.and_le_left (by unfold U64 at ha;omega)
 have e:ec .u64 a b=IntKind.u64.wrap (((BitVec.ofInt 64 a &&& BitVec.ofInt 64 b).toNat:Nat):Int):=rfl
 rw [e,BitVec.toNat_and,bv64 ha,bv64 hb,cU]
 exact ⟨by omega,by omega⟩
theorem CR {a b:Int} (ha:U64 a) (hb:U64 b):qG .u64 a b=((a.toNat ||| b.toNat:Nat):Int):=by
 have hlt:a.toNat ||| b.toNat<2 ^ 64:=Nat.or_lt_two_pow (by unfold U64 at ha;omega) (by unfold U64 at hb;omega)
 have e:qG .u64 a b=IntKind.u64.wrap (((BitVec.ofInt 64 a ||| BitVec.ofInt 64 b).toNat:Nat):Int):=rfl
 rw [e,BitVec.toNat_or,bv64 ha,bv64 hb,cU]
 exact ⟨by omega,by omega⟩
theorem ne {a:Int} (h:U64 a):ec .u64 a 4294967295=a % 4294967296:=by
 rw [zJ h ⟨by omega,by omega⟩]
 have:a.toNat &&& (4294967295:Int).toNat=a.toNat % 4294967296:=Nat.and_two_pow_sub_one_eq_mod (n:=32) a.toNat
 rw [this];unfold U64 at h;omega
theorem sU {a:Int} (h:U64 a):ec .u64 a 1=a % 2:=by
 rw [zJ h ⟨by omega,by omega⟩]
 have:a.toNat &&& (1:Int).toNat=a.toNat % 2:=Nat.and_two_pow_sub_one_eq_mod (n:=1) a.toNat
 rw [this];unfold U64 at h;omega
theorem zK {a:Int}:cw .u64 a 32=a / 4294967296:=Int.fdiv_eq_ediv_of_nonneg a (show (0:Int)≤4294967296 by omega)
theorem mul64 {a b:Int} (ha:U64 a) (hb:U64 b):∃ h l,gm a b=some (h,l)∧U64 h∧U64 l∧h*18446744073709551616+l=a*b:=by
 unfold gm lb
 rw [ne ha,ne hb]
 simp only [zK]
 unfold U64 at ha hb
 have ea:a=4294967296*(a / 4294967296)+a % 4294967296:=by omega
 have eb:b=4294967296*(b / 4294967296)+b % 4294967296:=by omega
 have h1:0≤a / 4294967296∧a / 4294967296<4294967296:=by omega
 have h2:0≤a % 4294967296∧a % 4294967296<4294967296:=by omega
 have h3:0≤b / 4294967296∧b / 4294967296<4294967296:=by omega
 have h4:0≤b % 4294967296∧b % 4294967296<4294967296:=by omega
 generalize a / 4294967296=x1 at *
 generalize a % 4294967296=x0 at *
 generalize b / 4294967296=y1 at *
 generalize b % 4294967296=y0 at *
 subst ea eb
 have p00:0≤x0*y0∧x0*y0≤4294967295*4294967295:=⟨Int.mul_nonneg h2.1 h4.1,Int.mul_le_mul (by omega) (by omega) h4.1 (by omega)⟩
 have p01:0≤x0*y1∧x0*y1≤4294967295*4294967295:=⟨Int.mul_nonneg h2.1 h3.1,Int.mul_le_mul (by omega) (by omega) h3.1 (by omega)⟩
 have p10:0≤x1*y0∧x1*y0≤4294967295*4294967295:=⟨Int.mul_nonneg h1.1 h4.1,Int.mul_le_mul (by omega) (by omega) h4.1 (by omega)⟩
 have p11:0≤x1*y1∧x1*y1≤4294967295*4294967295:=⟨Int.mul_nonneg h1.1 h3.1,Int.mul_le_mul (by omega) (by omega) h3.1 (by omega)⟩
 have e:(4294967296*x1+x0)*(4294967296*y1+y0)=18446744073709551616*(x1*y1)+4294967296*(x1*y0)+4294967296*(x0*y1)+x0*y0:=by
  rw [Int.add_mul,Int.mul_add,Int.mul_add]
  have t1:4294967296*x1*(4294967296*y1)=18446744073709551616*(x1*y1):=by
   rw [Int.mul_assoc,← Int.mul_assoc x1,Int.mul_comm x1 4294967296,Int.mul_assoc 4294967296 x1,← Int.mul_assoc];rfl
  have t2:4294967296*x1*y0=4294967296*(x1*y0):=Int.mul_assoc _ _ _
  have t3:x0*(4294967296*y1)=4294967296*(x0*y1):=by rw [← Int.mul_assoc,Int.mul_comm x0,Int.mul_assoc]
  rw [t1,t2,t3];omega
 rw [e]
 generalize x0*y0=p at *
 generalize x0*y1=q at *
 generalize x1*y0=r at *
 generalize x1*y1=s at *
 refine ⟨_,_,rfl,?_,?_,?_⟩
 all_goals simp only [wu,U64]
 all_goals first | omega | (rw [ne (by unfold U64;omega)];omega)
def rv (w:Zg):Int:=w.Hi*18446744073709551616+w.Lo
def RW (w:Zg):Prop:=U64 w.Hi∧U64 w.Lo
theorem pt {p q:Zg} (hp:RW p) (hq:RW q):∃ w b,fC p q=some (w,b)∧RW w∧(rv p+rv q<340282366920938463463374607431768211456→rv w=rv p+rv q):=by
 obtain ⟨ph,pl⟩:=p;obtain ⟨qh,ql⟩:=q
 obtain ⟨⟨a1,a2⟩,⟨a3,a4⟩⟩:=hp
 obtain ⟨⟨b1,b2⟩,⟨b3,b4⟩⟩:=hq
 simp only at a1 a2 a3 a4 b1 b2 b3 b4
 unfold fC lb
 dsimp only
 by_cases h:IntKind.u64.wrap (pl+ql)<pl
 ·rw [det h]
  simp only [cQ,cJ]
  refine ⟨_,_,rfl,?_,?_⟩
  ·simp only [RW,U64,wu];omega
  rw [wu] at h;simp only [rv,wu];omega
 rw [bH h]
 simp only [dn,cJ]
 refine ⟨_,_,rfl,?_,?_⟩
 ·simp only [RW,U64,wu];omega
 rw [wu] at h;simp only [rv,wu];omega
theorem mA {a n:Int} (h:n.toNat≤64):cw .u64 a n=a / 2 ^ n.toNat:=by
 have e:cw .u64 a n=a.fdiv (2 ^ min n.toNat 64):=rfl
 rw [e,Nat.min_eq_left h]
 exact Int.fdiv_eq_ediv_of_nonneg a (Int.le_of_lt (Int.pow_pos (by omega)))
theorem uo (b:Int) (k:Nat):b / 2 ^ k=2*(b / 2 ^ (k+1))+b / 2 ^ k % 2:=by
 have:b / 2 ^ (k+1)=b / 2 ^ k / 2:=by rw [Int.pow_succ,Int.ediv_ediv_of_nonneg (Int.le_of_lt (Int.pow_pos (by omega)))]
 rw [this];omega
theorem zL {a b:Int} (ha:U64 a) (hb:U64 b):∃ w,jr a b=some w∧RW w∧rv w=a*b:=by
 unfold jr
 obtain ⟨t,h5,h6⟩:=gT (body:=fun (v3,v4,v5)=>cond (decide (0≤v3)) (Option.bind (Option.bind (fC (⟨v4,v5⟩:Zg) (⟨v4,v5⟩:Zg)) (fun x14=>Option.bind (nH v3) (fun u15=>cond ((ec .u64 (cw .u64 b v3) 1) == 1) (Option.bind (fC x14.1 (⟨0,a⟩:Zg)) (fun x17=>some (x17.1.Hi,x17.1.Lo))) (some (x14.1.Hi,x14.1.Lo))))) (fun (v11,v12)=>some (.inl ((IntKind.i64.wrap (v3 - 1)),v11,v12)))) (some (.inr (v4,v5))))
  (fun s:Int×Int×Int => -1≤s.1∧s.1≤63∧RW ⟨s.2.1,s.2.2⟩∧rv ⟨s.2.1,s.2.2⟩=a*(b / 2 ^ (s.1+1).toNat)) (fun s=>(s.1+1).toNat) (fun t:Int×Int=>RW ⟨t.1,t.2⟩∧rv ⟨t.1,t.2⟩=a*b)
  (fun s hs=>by
   obtain ⟨v,x,y⟩:=s
   obtain ⟨a1,a2,a3,a4⟩:=hs
   dsimp only at a1 a2 a3 a4 ⊢
   by_cases h0:0≤v
   ·left
    obtain ⟨k,rfl⟩:∃ k:Nat,v=(k:Int):=⟨v.toNat,by omega⟩
    have ek:((k:Int)+1).toNat=k+1:=by omega
    rw [ek] at a4
    have hs:=uo b k
    have hbk:0≤b / 2 ^ k:=Int.ediv_nonneg hb.1 (Int.le_of_lt (Int.pow_pos (by omega)))
    have hbk2:b / 2 ^ k≤b:=Int.ediv_le_self _ hb.1
    have hm:a*(b / 2 ^ k)=2*(a*(b / 2 ^ (k+1)))+a*(b / 2 ^ k % 2):=by
     have:=congrArg (a * ·) hs
     simp only [Int.mul_add] at this
     rw [this,← Int.mul_assoc,Int.mul_comm a 2,Int.mul_assoc]
    have hle:a*(b / 2 ^ k)≤18446744073709551615*18446744073709551615:=Int.mul_le_mul (by unfold U64 at ha;omega) (by unfold U64 at hb;omega) hbk (by omega)
    have hnn:0≤a*(b / 2 ^ k % 2):=Int.mul_nonneg ha.1 (by omega)
    rw [det h0]
    simp only [cQ]
    obtain ⟨w,o,c1,c2,c3⟩:=pt a3 a3
    have c3:=c3 (by omega)
    rw [bo c1]
    have hg:nH (k:Int)=some ():=by unfold nH;rw [if_pos h0]
    rw [bo hg,mA (by omega),Int.toNat_natCast,sU ⟨hbk,by unfold U64 at hb;omega⟩,bw (by omega) (by omega)]
    rcases (by omega:b / 2 ^ k % 2=0∨b / 2 ^ k % 2=1) with e | e
    ·rw [e] at hm ⊢
     refine ⟨_,rfl,⟨by dsimp only;omega,by dsimp only;omega,c2,?_⟩,by dsimp only;omega⟩
     have:((k:Int) - 1+1).toNat=k:=by omega
     dsimp only;rw [this,hm];show rv w=_;omega
    rw [e] at hm ⊢
    obtain ⟨w2,o2,d1,d2,d3⟩:=pt (p:=w) (q:=⟨0,a⟩) c2 ⟨⟨by simp,by simp⟩,ha⟩
    have e0:rv ⟨0,a⟩=a:=by simp [rv]
    rw [e0] at d3
    have d3:=d3 (by omega)
    simp only [beq_self_eq_true,cQ]
    rw [bo d1]
    refine ⟨_,rfl,⟨by dsimp only;omega,by dsimp only;omega,d2,?_⟩,by dsimp only;omega⟩
    have:((k:Int) - 1+1).toNat=k:=by omega
    dsimp only;rw [this,hm];show rv w2=_;omega
   right
   rw [bH h0]
   have:v = -1:=by omega
   subst this
   refine ⟨_,rfl,a3,?_⟩
   rw [a4];simp)
  FUEL (63,0,0) ⟨by simp,by simp,⟨⟨by simp,by simp⟩,⟨by simp,by simp⟩⟩,by
   have:b / 18446744073709551616=0:=Int.ediv_eq_zero_of_lt hb.1 hb.2
   simp [rv,this]⟩ (gH (by simp))
 obtain ⟨t1,t2⟩:=t
 rw [bo h5]
 exact ⟨_,rfl,h6.1,h6.2⟩
theorem iand63:∀ {n:Nat},n<128→ec .i64 (n:Int) 63=((n % 64:Nat):Int):=by decide
theorem CS {a:Int} (h:U64 a):eR .u64 a 1=(2*a) % 18446744073709551616:=by
 have e:eR .u64 a 1=IntKind.u64.wrap (a*2):=rfl
 rw [e,wu,Int.mul_comm]
theorem zM {a b:Int} (ha:U64 a) (h2:a % 2=0) (hb:b=0∨b=1):qG .u64 a b=a+b:=by
 rw [CR ha (by rcases hb with rfl | rfl <;> exact ⟨by omega,by omega⟩)]
 unfold U64 at ha
 rcases hb with rfl | rfl
 ·simp;omega
 have:a.toNat ||| (1:Int).toNat=a.toNat+1:=by
  have e:a.toNat=2 ^ 1*(a.toNat / 2):=by omega
  have:=Nat.two_pow_add_eq_or_of_lt (i:=1) (b:=1) (by omega) (a.toNat / 2)
  rw [← e] at this
  exact this.symm
 rw [this];omega
theorem bit_lo {h l:Int} (hl:U64 l) {k:Nat} (hk:k<64):(h*18446744073709551616+l) / 2 ^ k % 2=l / 2 ^ k % 2:=by
 have e:(18446744073709551616:Int)=2 ^ k*(2*2 ^ (63 - k)):=by
  have:(2:Int) ^ k*(2*2 ^ (63 - k))=2 ^ (k+(1+(63 - k))):=by rw [Int.pow_add,Int.pow_add];rfl
  rw [this,show k+(1+(63 - k))=64 by omega];rfl
 have hp:(2:Int) ^ k≠0:=Int.ne_of_gt (Int.pow_pos (by omega))
 rw [e,show h*(2 ^ k*(2*2 ^ (63 - k)))+l=l+2 ^ k*(2*(h*2 ^ (63 - k))) by rw [Int.add_comm,Int.mul_left_comm h,Int.mul_left_comm h 2],Int.add_mul_ediv_left _ _ hp,Int.add_mul_emod_self_left]
theorem bit_hi {h l:Int} (hl:U64 l) {k:Nat} (hk:64≤k):(h*18446744073709551616+l) / 2 ^ k=h / 2 ^ (k - 64):=by
 have e:(2:Int) ^ k=18446744073709551616*2 ^ (k - 64):=by
  have:(18446744073709551616:Int)*2 ^ (k - 64)=2 ^ (64+(k - 64)):=by rw [Int.pow_add];rfl
  rw [this,show 64+(k - 64)=k by omega]
 rw [e,← Int.ediv_ediv_of_nonneg (by omega)]
 congr 1
 unfold U64 at hl;omega
theorem sV {p:Zg} {d:Int} (hp:RW p) (hd:U64 d) (h1:1≤d):∃ q r,i7 p d=some (q,r)∧RW q∧rv q=rv p / d∧r=rv p % d:=by
 have hN:0≤rv p∧rv p<340282366920938463463374607431768211456:=by obtain ⟨⟨a,b⟩,⟨c,e⟩⟩:=hp;unfold rv;omega
 unfold i7
 obtain ⟨t,h5,h6⟩:=gT (body:=fun (v4,v5,v6,v7)=>cond (decide (0≤v5)) (Option.bind (Option.bind (nH (ec .i64 v5 63)) (fun u18=>lb ((ec .u64 (cw .u64 p.Lo (ec .i64 v5 63)) 1)) (fun w19=>Option.bind (cond (decide (63<v5)) (Option.bind (nH (IntKind.i64.wrap (v5 - 64))) (fun u23=>lb ((ec .u64 (cw .u64 p.Hi (IntKind.i64.wrap (v5 - 64))) 1)) (fun w24=>some w24))) (some w19)) (fun v20=>Option.bind (fC (⟨v6,v7⟩:Zg) (⟨v6,v7⟩:Zg)) (fun x25=>cond (((cw .u64 v4 63) == 1)||(decide (d≤(qG .u64 (eR .u64 v4 1) v20)))) (lb ((IntKind.u64.wrap ((qG .u64 (eR .u64 v4 1) v20) - d))) (fun w27=>some (w27,x25.1.Hi,(qG .u64 x25.1.Lo 1)))) (some ((qG .u64 (eR .u64 v4 1) v20),x25.1.Hi,x25.1.Lo))))))) (fun (v14,v15,v16)=>some (.inl (v14,(IntKind.i64.wrap (v5 - 1)),v15,v16)))) (some (.inr (v4,v6,v7))))
  (fun s:Int×Int×Int×Int => -1≤s.2.1∧s.2.1≤127∧RW ⟨s.2.2.1,s.2.2.2⟩∧0≤s.1∧s.1<d∧rv p / 2 ^ (s.2.1+1).toNat=rv ⟨s.2.2.1,s.2.2.2⟩ * d+s.1) (fun s=>(s.2.1+1).toNat) (fun t:Int×Int×Int=>RW ⟨t.2.1,t.2.2⟩∧0≤t.1∧t.1<d∧rv p=rv ⟨t.2.1,t.2.2⟩ * d+t.1)
  (fun s hs=>by
   obtain ⟨v4,v5,x,y⟩:=s
   obtain ⟨a1,a2,a3,a4,a5,a6⟩:=hs
   dsimp only at a1 a2 a3 a4 a5 a6 ⊢
   by_cases h0:0≤v5
   ·left
    obtain ⟨k,rfl⟩:∃ k:Nat,v5=(k:Int):=⟨v5.toNat,by omega⟩
    have ek:((k:Int)+1).toNat=k+1:=by omega
    rw [ek] at a6
    have hs:=uo (rv p) k
    generalize hbit:rv p / 2 ^ k % 2=bit at hs
    have hb01:bit=0∨bit=1:=by omega
    rw [det h0,iand63 (by omega)]
    simp only [cQ]
    have hg:nH ((k % 64:Nat):Int)=some ():=by unfold nH;rw [if_pos (by omega)]
    rw [bo hg]
    unfold lb
    have hv:(cond (decide (63<(k:Int))) (Option.bind (nH (IntKind.i64.wrap ((k:Int) - 64))) (fun _=>some (ec .u64 (cw .u64 p.Hi (IntKind.i64.wrap ((k:Int) - 64))) 1))) (some (ec .u64 (cw .u64 p.Lo ((k % 64:Nat):Int)) 1)))=some bit:=by
     by_cases hk:63<(k:Int)
     ·rw [det hk,bw (by omega) (by omega)]
      have hg2:nH ((k:Int) - 64)=some ():=by unfold nH;rw [if_pos (by omega)]
      simp only [cQ]
      rw [bo hg2,mA (by omega),show ((k:Int) - 64).toNat=k - 64 by omega,sU ⟨Int.ediv_nonneg hp.1.1 (Int.le_of_lt (Int.pow_pos (by omega))),Int.lt_of_le_of_lt (Int.ediv_le_self _ hp.1.1) hp.1.2⟩,← hbit]
      unfold rv;rw [bit_hi hp.2 (by omega)]
     rw [bH hk]
     simp only [dn]
     rw [mA (by omega),Int.toNat_natCast,Nat.mod_eq_of_lt (by omega),sU ⟨Int.ediv_nonneg hp.2.1 (Int.le_of_lt (Int.pow_pos (by omega))),Int.lt_of_le_of_lt (Int.ediv_le_self _ hp.2.1) hp.2.2⟩,← hbit]
     unfold rv;rw [bit_lo hp.2 (by omega)]
    dsimp only
    rw [bo hv]
    obtain ⟨w,o,c1,c2,c3⟩:=pt a3 a3
    have hq0:0≤rv ⟨x,y⟩:=by obtain ⟨⟨b1,b2⟩,⟨b3,b4⟩⟩:=a3;unfold rv;dsimp only at *;omega
    have hqd:rv ⟨x,y⟩≤rv ⟨x,y⟩ * d:=by have:=Int.mul_le_mul_of_nonneg_left h1 hq0;omega
    have hle:rv p / 2 ^ k≤rv p:=Int.ediv_le_self _ hN.1
    have c3:=c3 (by omega)
    rw [bo c1]
    have hu4:U64 v4:=⟨a4,by unfold U64 at hd;omega⟩
    have hsh:cw .u64 v4 63=v4 / 9223372036854775808:=mA (by omega)
    have hlow:qG .u64 (eR .u64 v4 1) bit=(2*v4) % 18446744073709551616+bit:=by rw [CS hu4];exact zM ⟨by omega,by omega⟩ (by omega) hb01
    rw [hlow,hsh,bw (by omega) (by omega)]
    have ekk:((k:Int) - 1+1).toNat=k:=by omega
    unfold U64 at hd hu4
    by_cases hT:d≤2*v4+bit
    ·have hc:((v4 / 9223372036854775808 == 1)||decide (d≤(2*v4) % 18446744073709551616+bit))=true:=by
      simp only [Bool.or_eq_true,beq_iff_eq,decide_eq_true_eq];omega
     rw [hc]
     simp only [cQ]
     obtain ⟨⟨e1,e2⟩,⟨e3,e4⟩⟩:=c2
     have hev:w.Lo % 2=0:=by unfold rv at c3;dsimp only at c3;omega
     rw [zM ⟨e3,e4⟩ hev (.inr rfl),wu]
     refine ⟨_,rfl,⟨by dsimp only;omega,by dsimp only;omega,⟨⟨e1,e2⟩,⟨by dsimp only;omega,by dsimp only;omega⟩⟩,by dsimp only;omega,by dsimp only;omega,?_⟩,by dsimp only;omega⟩
     dsimp only
     rw [ekk,hs,a6]
     have e5:rv ⟨w.Hi,w.Lo+1⟩=2*rv ⟨x,y⟩+1:=by unfold rv at c3 ⊢;dsimp only at c3 ⊢;omega
     rw [e5,Int.add_mul,Int.mul_assoc];omega
    ·have hc:((v4 / 9223372036854775808 == 1)||decide (d≤(2*v4) % 18446744073709551616+bit))=false:=by
      simp only [Bool.or_eq_false_iff,beq_eq_false_iff_ne,decide_eq_false_iff_not];omega
     rw [hc]
     simp only [dn]
     refine ⟨_,rfl,⟨by dsimp only;omega,by dsimp only;omega,c2,by dsimp only;omega,by dsimp only;omega,?_⟩,by dsimp only;omega⟩
     dsimp only
     rw [ekk,hs,a6,show rv ⟨w.Hi,w.Lo⟩=2*rv ⟨x,y⟩ by show rv w=_;omega,Int.mul_assoc];omega
   right
   rw [bH h0]
   have:v5 = -1:=by omega
   subst this
   refine ⟨_,rfl,a3,a4,a5,?_⟩
   rw [← a6];simp)
  FUEL (0,127,0,0) ⟨by simp,by simp,⟨⟨by simp,by simp⟩,⟨by simp,by simp⟩⟩,by simp,by simp;omega,by
   have:rv p / 340282366920938463463374607431768211456=0:=Int.ediv_eq_zero_of_lt hN.1 hN.2
   simp [rv] at this ⊢;exact this⟩ (gH (by simp))
 obtain ⟨t1,t2,t3⟩:=t
 rw [bo h5]
 obtain ⟨g1,g2,g3,g4⟩:=h6
 dsimp only at g1 g2 g3 g4
 have gd:rv p / d=rv ⟨t2,t3⟩:=by
  rw [g4,Int.add_comm,Int.add_mul_ediv_right _ _ (by omega),Int.ediv_eq_zero_of_lt g2 g3,Int.zero_add]
 refine ⟨_,_,rfl,g1,gd.symm,?_⟩
 have:=Int.emod_add_mul_ediv (rv p) d
 rw [gd,Int.mul_comm] at this
 omega
structure KnInv (u u1 y1 y0 q rh:Int):Prop where
 eq:u=q*y1+rh
 r0:0≤rh
 r1:rh<4294967296
 q0:0≤q
 q1:q≤4294967297
 up:u*4294967296+u1<q*(y1*4294967296+y0)+(y1*4294967296+y0)
section
variable {u u1 y1 y0 q rh:Int} (hu:0≤u) (huy:u<y1*4294967296+y0) (h1:0≤u1) (h1':u1<4294967296) (hy:2147483648≤y1) (hy':y1<4294967296) (hz:0≤y0) (hz':y0<4294967296)
include hu huy h1 h1' hy hy' hz hz'
theorem pu:KnInv u u1 y1 y0 (u / y1) (u % y1):=by
 have hq0:0≤u / y1:=Int.ediv_nonneg hu (by omega)
 have hr0:=Int.emod_nonneg u (show y1≠0 by omega)
 have hr1:=Int.emod_lt_of_pos u (show 0<y1 by omega)
 have he:=Int.emod_add_mul_ediv u y1
 rw [Int.mul_comm] at he
 have hz2:0≤u / y1*y0:=Int.mul_nonneg hq0 hz
 refine ⟨by omega,hr0,by omega,hq0,?_,?_⟩
 ·apply Int.le_of_lt_add_one
  apply Int.ediv_lt_of_lt_mul (by omega)
  omega
 rw [Int.mul_add,← Int.mul_assoc];omega
theorem rA (i:KnInv u u1 y1 y0 q rh) (h:4294967296≤q∨4294967296*rh+u1<q*y0):u*4294967296+u1<q*(y1*4294967296+y0)∧1≤q:=by
 have e:=i.eq
 have hlt:u*4294967296+u1<q*(y1*4294967296+y0):=by
  rcases h with h | h
  ·have:4294967296*(y1*4294967296+y0)≤q*(y1*4294967296+y0):=Int.mul_le_mul_of_nonneg_right h (by omega)
   omega
  rw [Int.mul_add,← Int.mul_assoc];omega
 refine ⟨hlt,?_⟩
 have hq:=i.q0
 by_cases hq0:q=0
 ·subst hq0;rw [Int.zero_mul] at hlt;omega
 omega
theorem zN (i:KnInv u u1 y1 y0 q rh) (h:4294967296≤q∨4294967296*rh+u1<q*y0) (h2:rh+y1<4294967296):KnInv u u1 y1 y0 (q - 1) (rh+y1):=by
 obtain ⟨hlt,hq⟩:=rA hu huy h1 h1' hy hy' hz hz' i h
 have:=i.eq;have:=i.r0;have:=i.q1
 refine ⟨by rw [Int.sub_mul];omega,by omega,h2,by omega,by omega,?_⟩
 rw [Int.sub_mul];omega
theorem zO (i:KnInv u u1 y1 y0 q rh) (h:4294967296≤q∨4294967296*rh+u1<q*y0) (h2:4294967296≤rh+y1):(q - 1)*(y1*4294967296+y0)≤u*4294967296+u1∧u*4294967296+u1<(q - 1)*(y1*4294967296+y0)+(y1*4294967296+y0):=by
 obtain ⟨hlt,hq⟩:=rA hu huy h1 h1' hy hy' hz hz' i h
 have e:=i.eq;have:=i.r0;have hq1:=i.q1
 refine ⟨?_,by rw [Int.sub_mul];omega⟩
 have hz2:(q - 1)*y0≤4294967296*4294967295:=Int.mul_le_mul (by omega) (by omega) hz (by omega)
 rw [Int.mul_add,← Int.mul_assoc]
 rw [Int.sub_mul q 1 y1]
 omega
omit hu huy h1 h1' hy hy' hz hz' in
theorem xh (i:KnInv u u1 y1 y0 q rh) (h:¬ (4294967296≤q∨4294967296*rh+u1<q*y0)):q*(y1*4294967296+y0)≤u*4294967296+u1:=by
 have e:=i.eq
 rw [Int.mul_add,← Int.mul_assoc];omega
end
section
variable {u u1 y1 y0:Int} (hu:0≤u) (huy:u<y1*4294967296+y0) (h1:0≤u1) (h1':u1<4294967296) (hy:2147483648≤y1) (hy':y1<4294967296) (hz:0≤y0) (hz':y0<4294967296)
include hu huy h1 h1' hy hy' hz hz'
omit hu huy hy hy' in
theorem zP {q rh:Int} (i:KnInv u u1 y1 y0 q rh):((decide (4294967296≤q))||(decide ((IntKind.u64.wrap ((IntKind.u64.wrap (4294967296*rh))+u1))<(IntKind.u64.wrap (q*y0)))))=decide (4294967296≤q∨4294967296*rh+u1<q*y0):=by
 have:=i.r0;have:=i.r1;have:=i.q0
 rw [cU (a:=4294967296*rh) ⟨by omega,by omega⟩,cU (a:=4294967296*rh+u1) ⟨by omega,by omega⟩]
 by_cases hq:4294967296≤q
 ·rw [det hq,det (Or.inl hq)];rfl
 have hp:q*y0≤4294967295*4294967295:=Int.mul_le_mul (by omega) (by omega) hz (by omega)
 have hp0:0≤q*y0:=Int.mul_nonneg (by omega) hz
 rw [cU (a:=q*y0) ⟨hp0,by omega⟩,bH hq,Bool.false_or]
 congr 1
 exact propext ⟨.inr,fun h=>h.resolve_left hq⟩
omit hy hy' hz hz' in
theorem vx {q:Int} (h0:0≤q) (h2:q*(y1*4294967296+y0)≤u*4294967296+u1):q<4294967296:=by
 have:q*(y1*4294967296+y0)<4294967296*(y1*4294967296+y0):=by omega
 exact Int.lt_of_mul_lt_mul_right this (by omega)
def KQ (u u1 y1 y0 q:Int):Prop:=0≤q∧q<4294967296∧q*(y1*4294967296+y0)≤u*4294967296+u1∧u*4294967296+u1<q*(y1*4294967296+y0)+(y1*4294967296+y0)
theorem CT:∃ q,aV (S:=Int×Int) (T:=(Int)) (fun (v18,v19)=>cond ((decide (4294967296≤v18))||(decide ((IntKind.u64.wrap ((IntKind.u64.wrap (4294967296*v19))+u1))<(IntKind.u64.wrap (v18*y0))))) (cond (decide (4294967296≤(IntKind.u64.wrap (v19+y1)))) (some (.inr (IntKind.u64.wrap (v18 - 1)))) (some (.inl ((IntKind.u64.wrap (v18 - 1)),(IntKind.u64.wrap (v19+y1)))))) (some (.inr v18))) FUEL (u / y1,u % y1)=some q∧KQ u u1 y1 y0 q:=by
 refine gT (fun s:Int×Int=>KnInv u u1 y1 y0 s.1 s.2) (fun s=>s.1.toNat) (KQ u u1 y1 y0) ?_ FUEL _ (pu hu huy h1 h1' hy hy' hz hz') ?_
 ·rintro ⟨q,rh⟩ i
  dsimp only at i ⊢
  rw [zP h1 h1' hz hz' i]
  have i0:=i.r0;have i1:=i.r1;have i2:=i.q0;have i3:=i.q1
  by_cases h:4294967296≤q∨4294967296*rh+u1<q*y0
  ·rw [det h]
   obtain ⟨_,hq1⟩:=rA hu huy h1 h1' hy hy' hz hz' i h
   rw [cU (a:=rh+y1) ⟨by omega,by omega⟩,cU (a:=q - 1) ⟨by omega,by omega⟩]
   by_cases h2:4294967296≤rh+y1
   ·rw [det h2];right
    obtain ⟨e1,e2⟩:=zO hu huy h1 h1' hy hy' hz hz' i h h2
    exact ⟨_,rfl,by omega,vx hu huy h1 h1' (by omega) e1,e1,e2⟩
   rw [bH h2];left
   exact ⟨_,rfl,zN hu huy h1 h1' hy hy' hz hz' i h (by omega),by dsimp only;omega⟩
  rw [bH h];right
  have e1:=xh i h
  exact ⟨_,rfl,i2,vx hu huy h1 h1' i2 e1,e1,i.up⟩
 have:=(pu hu huy h1 h1' hy hy' hz hz').q1
 exact gH (by dsimp only;omega)
theorem CU:∃ q,aV (S:=Int×Int) (T:=(Int)) (fun (v28,v29)=>cond ((decide (4294967296≤v29))||(decide ((IntKind.u64.wrap ((IntKind.u64.wrap (4294967296*v28))+u1))<(IntKind.u64.wrap (v29*y0))))) (cond (decide (4294967296≤(IntKind.u64.wrap (v28+y1)))) (some (.inr (IntKind.u64.wrap (v29 - 1)))) (some (.inl ((IntKind.u64.wrap (v28+y1)),(IntKind.u64.wrap (v29 - 1)))))) (some (.inr v29))) FUEL (u % y1,u / y1)=some q∧KQ u u1 y1 y0 q:=by
 refine gT (fun s:Int×Int=>KnInv u u1 y1 y0 s.2 s.1) (fun s=>s.2.toNat) (KQ u u1 y1 y0) ?_ FUEL _ (pu hu huy h1 h1' hy hy' hz hz') ?_
 ·rintro ⟨rh,q⟩ i
  dsimp only at i ⊢
  rw [zP h1 h1' hz hz' i]
  have i0:=i.r0;have i1:=i.r1;have i2:=i.q0;have i3:=i.q1
  by_cases h:4294967296≤q∨4294967296*rh+u1<q*y0
  ·rw [det h]
   obtain ⟨_,hq1⟩:=rA hu huy h1 h1' hy hy' hz hz' i h
   rw [cU (a:=rh+y1) ⟨by omega,by omega⟩,cU (a:=q - 1) ⟨by omega,by omega⟩]
   by_cases h2:4294967296≤rh+y1
   ·rw [det h2];right
    obtain ⟨e1,e2⟩:=zO hu huy h1 h1' hy hy' hz hz' i h h2
    exact ⟨_,rfl,by omega,vx hu huy h1 h1' (by omega) e1,e1,e2⟩
   rw [bH h2];left
   exact ⟨_,rfl,zN hu huy h1 h1' hy hy' hz hz' i h (by omega),by dsimp only;omega⟩
  rw [bH h];right
  have e1:=xh i h
  exact ⟨_,rfl,i2,vx hu huy h1 h1' i2 e1,e1,i.up⟩
 have:=(pu hu huy h1 h1' hy hy' hz hz').q1
 exact gH (by dsimp only;omega)
end
theorem AS {a v:Int} {k n:Nat} (h:v=a / 2 ^ k) (hn:1≤n) (l:2 ^ (n - 1)≤v) (g:v<2 ^ n):2 ^ (k+n - 1)≤a∧a<2 ^ (k+n):=by
 have hp:(0:Int)<2 ^ k:=Int.pow_pos (by omega)
 have e1:=Int.ediv_mul_le a (Int.ne_of_gt hp)
 have e2:=Int.lt_ediv_add_one_mul_self a hp
 rw [← h] at e1 e2
 constructor
 ·rw [show k+n - 1=(n - 1)+k by omega,Int.pow_add]
  exact Int.le_trans (Int.mul_le_mul_of_nonneg_right l (Int.le_of_lt hp)) e1
 rw [show k+n=n+k by omega,Int.pow_add]
 exact Int.lt_of_lt_of_le e2 (Int.mul_le_mul_of_nonneg_right (by omega) (Int.le_of_lt hp))
def yt:ByteArray:=⟨#[0,1,2,2,3,3,3,3,4,4,4,4,4,4,4,4,5,5,5,5,5,5,5,5,5,5,5,5,5,5,5,5,6,6,6,6,6,6,6,6,6,6,6,6,6,6,6,6,6,6,6,6,6,6,6,6,6,6,6,6,6,6,6,6,7,7,7,7,7,7,7,7,7,7,7,7,7,7,7,7,7,7,7,7,7,7,7,7,7,7,7,7,7,7,7,7,7,7,7,7,7,7,7,7,7,7,7,7,7,7,7,7,7,7,7,7,7,7,7,7,7,7,7,7,7,7,7,7,8,8,8,8,8,8,8,8,8,8,8,8,8,8,8,8,8,8,8,8,8,8,8,8,8,8,8,8,8,8,8,8,8,8,8,8,8,8,8,8,8,8,8,8,8,8,8,8,8,8,8,8,8,8,8,8,8,8,8,8,8,8,8,8,8,8,8,8,8,8,8,8,8,8,8,8,8,8,8,8,8,8,8,8,8,8,8,8,8,8,8,8,8,8,8,8,8,8,8,8,8,8,8,8,8,8,8,8,8,8,8,8,8,8,8,8,8,8,8,8,8,8,8,8,8,8,8,8]⟩
theorem yu:∀ v:Fin 256,(match idx yt.data.toList (v.val:Int) with | some c=>decide (1≤v.val→1≤c.toNat∧2 ^ (c.toNat - 1)≤v.val)&&decide (v.val<2 ^ c.toNat)&&decide (c.toNat≤8) | none=>false)=true:=by decide
theorem AT {v:Int} (h0:0≤v) (h1:v<256):∃ c,idx yt.data.toList v=some c∧(1≤v→1≤c.toNat∧2 ^ (c.toNat - 1)≤v)∧v<2 ^ c.toNat∧c.toNat≤8:=by
 obtain ⟨k,rfl⟩:∃ k:Nat,v=(k:Int):=⟨v.toNat,by omega⟩
 have:=yu ⟨k,by omega⟩
 split at this
 ·rename_i c hc
  simp only [Bool.and_eq_true,decide_eq_true_eq] at this
  obtain ⟨⟨a,b⟩,d⟩:=this
  refine ⟨c,hc,fun h=>⟨(a (by omega)).1,?_⟩,?_,d⟩
  ·have:=(a (by omega)).2;exact_mod_cast this
  exact_mod_cast b
 cases this
theorem len64 {a:Int} (ha:U64 a) (h1:1≤a):∃ n:Nat,dY a=some (n:Int)∧1≤n∧n≤64∧2 ^ (n - 1)≤a∧a<2 ^ n:=by
 have key:∃ (k:Nat) (v:Int),k≤56∧v=a / 2 ^ k∧1≤v∧v<256∧dY a=Option.bind (idx yt.data.toList (IntKind.u8.wrap v)) (fun c13=>lb ((IntKind.i64.wrap ((k:Int)+(IntKind.i64.wrap (c13.toNat:Int))))) (fun w14=>some w14)):=by
  unfold U64 at ha
  have s32:∀ x:Int,cw .u64 x 32=x / 4294967296:=fun x=>mA (by decide)
  have s16:∀ x:Int,cw .u64 x 16=x / 65536:=fun x=>mA (by decide)
  have s8:∀ x:Int,cw .u64 x 8=x / 256:=fun x=>mA (by decide)
  unfold dY
  simp only [s32,s16,s8]
  by_cases c1:4294967296≤a
  ·rw [det c1]
   simp only [cQ,cJ]
   by_cases c2:65536≤a / 4294967296
   ·rw [det c2]
    simp only [cQ,cJ]
    by_cases c3:256≤a / 4294967296 / 65536
    ·rw [det c3]
     exact ⟨56,a / 4294967296 / 65536 / 256,by omega,by simp only [Int.reducePow];omega,by omega,by omega,rfl⟩
    rw [bH c3]
    exact ⟨48,a / 4294967296 / 65536,by omega,by simp only [Int.reducePow];omega,by omega,by omega,rfl⟩
   rw [bH c2]
   simp only [dn,cJ]
   by_cases c3:256≤a / 4294967296
   ·rw [det c3]
    exact ⟨40,a / 4294967296 / 256,by omega,by simp only [Int.reducePow];omega,by omega,by omega,rfl⟩
   rw [bH c3]
   exact ⟨32,a / 4294967296,by omega,by simp only [Int.reducePow],by omega,by omega,rfl⟩
  rw [bH c1]
  simp only [dn,cJ]
  by_cases c2:65536≤a
  ·rw [det c2]
   simp only [cQ,cJ]
   by_cases c3:256≤a / 65536
   ·rw [det c3]
    exact ⟨24,a / 65536 / 256,by omega,by simp only [Int.reducePow];omega,by omega,by omega,rfl⟩
   rw [bH c3]
   exact ⟨16,a / 65536,by omega,by simp only [Int.reducePow],by omega,by omega,rfl⟩
  rw [bH c2]
  simp only [dn,cJ]
  by_cases c3:256≤a
  ·rw [det c3]
   exact ⟨8,a / 256,by omega,by simp only [Int.reducePow],by omega,by omega,rfl⟩
  rw [bH c3]
  exact ⟨0,a,by omega,by simp,by omega,by omega,rfl⟩
 obtain ⟨k,v,k1,k2,k3,k4,k5⟩:=key
 obtain ⟨c,c1,c2,c3,c4⟩:=AT (v:=v) (by omega) k4
 obtain ⟨c5,c6⟩:=c2 k3
 obtain ⟨l1,l2⟩:=AS k2 c5 c6 c3
 rw [k5,uT (by omega),bo c1]
 unfold lb
 rw [bw (r:=(c.toNat:Int)) (by omega) (by omega),bw (by omega) (by omega)]
 exact ⟨k+c.toNat,by simp,by omega,by omega,l1,l2⟩
theorem lz64 {a:Int} (ha:U64 a) (h1:1≤a):∃ s:Nat,db a=some (s:Int)∧s≤63∧9223372036854775808≤a*2 ^ s∧a*2 ^ s<18446744073709551616:=by
 obtain ⟨n,e1,e2,e3,e4,e5⟩:=len64 ha h1
 unfold db
 rw [bo e1,bw (by omega) (by omega)]
 refine ⟨64 - n,by congr 1;omega,by omega,?_,?_⟩
 ·have:=Int.mul_le_mul_of_nonneg_right e4 (Int.le_of_lt (show (0:Int)<2 ^ (64 - n) from Int.pow_pos (by decide)))
  rw [← Int.pow_add,show n - 1+(64 - n)=63 by omega] at this
  exact this
 have:=Int.mul_lt_mul_of_pos_right e5 (show (0:Int)<2 ^ (64 - n) from Int.pow_pos (by decide))
 rw [← Int.pow_add,show n+(64 - n)=64 by omega] at this
 exact this
theorem yv {b:Int} (h:0≤b):nH b=some ():=by unfold nH;rw [if_pos h]
theorem yw {a:Int} {s:Nat} (h:s≤64):eR .u64 a (s:Int)=IntKind.u64.wrap (a*2 ^ s):=by
 have e:eR .u64 a (s:Int)=IntKind.u64.wrap (a*2 ^ min (s:Int).toNat 64):=rfl
 rw [e,Int.toNat_natCast,Nat.min_eq_left h]
theorem ior_sh {h b:Int} {s:Nat} (hh:0≤h) (hb:0≤b) (hb2:b<2 ^ s) (h1:U64 (h*2 ^ s)) (h2:U64 b):qG .u64 (h*2 ^ s) b=h*2 ^ s+b:=by
 rw [CR h1 h2]
 obtain ⟨x,rfl⟩:∃ k:Nat,h=(k:Int):=⟨h.toNat,by omega⟩
 obtain ⟨z,rfl⟩:∃ k:Nat,b=(k:Int):=⟨b.toNat,by omega⟩
 have e:((x:Int)*2 ^ s)=((2 ^ s*x:Nat):Int):=by push_cast;exact Int.mul_comm _ _
 have hz:z<2 ^ s:=by exact_mod_cast hb2
 rw [e,Int.toNat_natCast,Int.toNat_natCast,← Nat.two_pow_add_eq_or_of_lt hz]
 rfl
theorem dm_of {n q r y:Int} (e:n=q*y+r) (h0:0≤r) (h1:r<y):n / y=q∧n % y=r:=by
 have gd:n / y=q:=by
  rw [e,Int.add_comm,Int.add_mul_ediv_right _ _ (by omega),Int.ediv_eq_zero_of_lt h0 h1,Int.zero_add]
 refine ⟨gd,?_⟩
 have:=Int.emod_add_mul_ediv n y
 rw [gd,Int.mul_comm] at this
 omega
theorem div64 {hi lo y:Int} (h1:U64 hi) (h2:U64 lo) (h3:U64 y) (h4:hi<y):eZ hi lo y=some ((hi*18446744073709551616+lo) / y,(hi*18446744073709551616+lo) % y):=by
 have hi0:=h1.1
 have hlo:=h2.1
 have hy1:1≤y:=by omega
 unfold eZ
 have cy:(y == 0)=false:=by simp;omega
 rw [cy,bH (show ¬ y≤hi by omega)]
 simp only [dn]
 by_cases hz:hi=0
 ·subst hz
  have:((0:Int) == 0)=true:=rfl
  rw [this]
  simp only [cQ]
  rw [bo (zt (show y≠0 by omega)),bo (zt (show y≠0 by omega)),Int.tdiv_eq_ediv_of_nonneg hlo,Int.tmod_eq_emod_of_nonneg hlo]
  have:lo / y≤lo:=Int.ediv_le_self _ hlo
  rw [cU ⟨Int.ediv_nonneg hlo (by omega),by have:=h2.2;omega⟩]
  simp
 have cz:(hi == 0)=false:=by simp;exact hz
 rw [cz]
 simp only [dn]
 obtain ⟨s,e1,e2,e3,e4⟩:=lz64 h3 hy1
 have hP:(0:Int)<2 ^ s:=Int.pow_pos (by omega)
 have hM:(0:Int)<2 ^ (64 - s):=Int.pow_pos (by omega)
 have hPM:(2:Int) ^ s*2 ^ (64 - s)=18446744073709551616:=by rw [← Int.pow_add,show s+(64 - s)=64 by omega];rfl
 have hhP:hi*2 ^ s<y*2 ^ s:=Int.mul_lt_mul_of_pos_right h4 hP
 have hhP0:0≤hi*2 ^ s:=Int.mul_nonneg hi0 (by omega)
 have hqd0:0≤lo / 2 ^ (64 - s):=Int.ediv_nonneg hlo (by omega)
 have hqd1:lo / 2 ^ (64 - s)<2 ^ s:=by
  apply Int.ediv_lt_of_lt_mul hM
  rw [hPM];exact h2.2
 have hPle:(2:Int) ^ s≤18446744073709551616:=by rw [← hPM];have:=Int.mul_le_mul_of_nonneg_left (show (1:Int)≤2 ^ (64 - s) by omega) (Int.le_of_lt hP);omega
 have f1:IntKind.u64.wrap (s:Int)=(s:Int):=cU ⟨by omega,by omega⟩
 have f2:IntKind.u64.wrap (64 - (s:Int))=((64 - s:Nat):Int):=by rw [cU ⟨by omega,by omega⟩];omega
 have f3:eR .u64 y (s:Int)=y*2 ^ s:=by rw [yw (by omega),cU ⟨by omega,e4⟩]
 have f4:eR .u64 hi (s:Int)=hi*2 ^ s:=by rw [yw (by omega),cU ⟨hhP0,by omega⟩]
 have f5:cw .u64 lo ((64 - s:Nat):Int)=lo / 2 ^ (64 - s):=by rw [mA (by omega),Int.toNat_natCast]
 have f6:eR .u64 lo (s:Int)=(lo*2 ^ s) % 18446744073709551616:=by rw [yw (by omega),wu]
 have f7:qG .u64 (hi*2 ^ s) (lo / 2 ^ (64 - s))=hi*2 ^ s+lo / 2 ^ (64 - s):=ior_sh hi0 hqd0 hqd1 ⟨hhP0,by omega⟩ ⟨hqd0,by omega⟩
 rw [bo e1]
 simp only [lb,f1,f2,f3,f4,f5,f6,f7,yv (Int.natCast_nonneg s),yv (Int.natCast_nonneg (64 - s)),cJ,zK]
 have hN:(hi*18446744073709551616+lo)*2 ^ s=(hi*2 ^ s+lo / 2 ^ (64 - s))*18446744073709551616+(lo*2 ^ s) % 18446744073709551616:=by
  have g1:=Int.emod_add_mul_ediv lo (2 ^ (64 - s))
  have g2:lo*2 ^ s=lo % 2 ^ (64 - s)*2 ^ s+18446744073709551616*(lo / 2 ^ (64 - s)):=by
   have:=congrArg (· * (2:Int) ^ s) g1
   simp only [Int.add_mul] at this
   rw [← this,← hPM]
   rw [Int.mul_assoc,Int.mul_comm (lo / 2 ^ (64 - s)),← Int.mul_assoc,Int.mul_comm (2 ^ (64 - s)),Int.mul_assoc]
  have g3:0≤lo % 2 ^ (64 - s)*2 ^ s:=Int.mul_nonneg (Int.emod_nonneg _ (by omega)) (by omega)
  have g4:lo % 2 ^ (64 - s)*2 ^ s<18446744073709551616:=by
   rw [← hPM,Int.mul_comm (2 ^ s)]
   exact Int.mul_lt_mul_of_pos_right (Int.emod_lt_of_pos _ hM) hP
  rw [Int.add_mul,Int.mul_right_comm hi]
  generalize lo % 2 ^ (64 - s)*2 ^ s=A at *
  generalize lo / 2 ^ (64 - s)=B at *
  generalize lo*2 ^ s=C at *
  generalize hi*2 ^ s=D at *
  omega
 have hu0:0≤hi*2 ^ s+lo / 2 ^ (64 - s):=by omega
 have huy:hi*2 ^ s+lo / 2 ^ (64 - s)<y*2 ^ s:=by
  have:(hi+1)*2 ^ s≤y*2 ^ s:=Int.mul_le_mul_of_nonneg_right (by omega) (by omega)
  rw [Int.add_mul] at this;omega
 have hU0:0≤(lo*2 ^ s) % 18446744073709551616:=by omega
 have hU1:(lo*2 ^ s) % 18446744073709551616<18446744073709551616:=by omega
 have hfin:∀ q R:Int,(hi*18446744073709551616+lo)*2 ^ s=q*(y*2 ^ s)+R→0≤R→R<y*2 ^ s→(hi*18446744073709551616+lo) / y=q∧(hi*18446744073709551616+lo) % y=R / 2 ^ s:=by
  intro q R hq hR0 hR1
  have hr:R=(hi*18446744073709551616+lo - q*y)*2 ^ s:=by rw [Int.sub_mul,Int.mul_assoc q];omega
  have hd:R / 2 ^ s=hi*18446744073709551616+lo - q*y:=by rw [hr];exact Int.mul_ediv_cancel _ (by omega)
  rw [hd]
  generalize hi*18446744073709551616+lo=n at *
  have:0≤n - q*y:=by
   by_cases hc:0≤n - q*y
   ·exact hc
   have:=Int.mul_le_mul_of_nonneg_right (show n - q*y ≤ -1 by omega) (Int.le_of_lt hP);omega
  have:n - q*y<y:=by
   apply Int.lt_of_mul_lt_mul_right (a:=2 ^ s) _ (by omega)
   omega
  exact dm_of (by omega) (by assumption) (by assumption)
 generalize (hi*18446744073709551616+lo)*2 ^ s=NP at *
 generalize hYe:y*2 ^ s=Y at *
 generalize hi*2 ^ s+lo / 2 ^ (64 - s)=u at *
 generalize (lo*2 ^ s) % 18446744073709551616=U at *
 rw [ne (a:=Y) ⟨by omega,e4⟩,ne (a:=U) ⟨hU0,hU1⟩]
 have k1:Y / 4294967296*4294967296+Y % 4294967296=Y:=by omega
 have k2:2147483648≤Y / 4294967296:=by omega
 have k3:Y / 4294967296<4294967296:=by omega
 have k4:0≤Y % 4294967296:=by omega
 have k5:Y % 4294967296<4294967296:=by omega
 have k6:0≤U / 4294967296:=by omega
 have k7:U / 4294967296<4294967296:=by omega
 have k8:0≤U % 4294967296:=by omega
 have k9:U % 4294967296<4294967296:=by omega
 have k10:U=U / 4294967296*4294967296+U % 4294967296:=by omega
 generalize U / 4294967296=u1 at *
 generalize U % 4294967296=u0 at *
 generalize Y / 4294967296=y1 at *
 generalize Y % 4294967296=y0 at *
 have dv:∀ v:Int,0≤v→v<Y→IntKind.u64.wrap (Int.tdiv v y1)=v / y1∧IntKind.u64.wrap (v - IntKind.u64.wrap (v / y1*y1))=v % y1:=by
  intro v v0 v1
  have:=Int.ediv_le_self y1 v0
  have q0:=Int.ediv_nonneg v0 (show 0≤y1 by omega)
  have m0:=Int.emod_nonneg v (show y1≠0 by omega)
  have m1:=Int.emod_lt_of_pos v (show 0<y1 by omega)
  have e:=Int.emod_add_mul_ediv v y1
  rw [Int.mul_comm] at e
  rw [Int.tdiv_eq_ediv_of_nonneg v0,cU (a:=v / y1) ⟨q0,by omega⟩]
  refine ⟨rfl,?_⟩
  have:0≤v / y1*y1:=Int.mul_nonneg q0 (by omega)
  rw [cU (a:=v / y1*y1) ⟨this,by omega⟩,cU ⟨by omega,by omega⟩]
  omega
 have hnz:nz y1=some ():=zt (by omega)
 obtain ⟨d1,d2⟩:=dv u hu0 huy
 simp only [hnz,d1,d2,cJ]
 obtain ⟨q1,l1,l2,l3,l4,l5⟩:=CT (u:=u) (u1:=u1) (y1:=y1) (y0:=y0) hu0 (by omega) k6 k7 k2 k3 k4 k5
 rw [k1] at l4 l5
 rw [bo l1]
 have w25:IntKind.u64.wrap (IntKind.u64.wrap (IntKind.u64.wrap (u*4294967296)+u1) - IntKind.u64.wrap (q1*Y))=u*4294967296+u1 - q1*Y:=by
  simp only [wu]
  generalize q1*Y=z at *
  omega
 simp only [w25]
 have v0:0≤u*4294967296+u1 - q1*Y:=by omega
 have v1:u*4294967296+u1 - q1*Y<Y:=by omega
 have hv:u*4294967296+u1=q1*Y+(u*4294967296+u1 - q1*Y):=by omega
 generalize u*4294967296+u1 - q1*Y=v at *
 obtain ⟨d3,d4⟩:=dv v v0 v1
 simp only [d3,d4]
 obtain ⟨q0,m1,m2,m3,m4,m5⟩:=CU (u:=v) (u1:=u0) (y1:=y1) (y0:=y0) v0 (by omega) k8 k9 k2 k3 k4 k5
 rw [k1] at m4 m5
 rw [bo m1]
 have w36:IntKind.u64.wrap (IntKind.u64.wrap (q1*4294967296)+q0)=q1*4294967296+q0:=by simp only [wu];omega
 have w37:IntKind.u64.wrap (IntKind.u64.wrap (IntKind.u64.wrap (v*4294967296)+u0) - IntKind.u64.wrap (q0*Y))=v*4294967296+u0 - q0*Y:=by
  simp only [wu]
  generalize q0*Y=z at *
  omega
 rw [w36,w37,mA (by omega),Int.toNat_natCast]
 obtain ⟨g1,g2⟩:=hfin (q1*4294967296+q0) (v*4294967296+u0 - q0*Y) (by
  rw [hN,k10,Int.add_mul,Int.mul_right_comm]
  generalize q1*Y=z at *
  generalize q0*Y=z0 at *
  omega) (by omega) (by omega)
 rw [g1,g2]
def xv (w:Zi):Int:=w.Hi*18446744073709551616+w.Lo
def XW (w:Zi):Prop:=U64 w.Hi∧U64 w.Lo
theorem qq {a b:Int} (ha:U64 a) (hb:U64 b):∃ w,gQ a b=some w∧XW w∧xv w=a*b:=by
 obtain ⟨h,l,e1,e2,e3,e4⟩:=mul64 ha hb
 unfold gQ;rw [bo e1]
 exact ⟨_,rfl,⟨e2,e3⟩,e4⟩
theorem pz {a b c:Int} (ha:U64 a) (hb:U64 b) (hc:U64 c) (h1:1≤c):iZ a b c=some (a*b % c):=by
 unfold iZ
 have cc:(c == 0)=false:=by simp;omega
 rw [cc];simp only [dn]
 obtain ⟨w,e1,e2,e3⟩:=qq ha hb
 rw [bo e1]
 unfold ig
 have hm0:0≤w.Hi % c:=Int.emod_nonneg _ (by omega)
 have hm1:w.Hi % c<c:=Int.emod_lt_of_pos _ (by omega)
 rw [bo (zt (show c≠0 by omega)),Int.tmod_eq_emod_of_nonneg e2.1.1,bo (div64 ⟨hm0,by have:=hc.2;omega⟩ e2.2 hc hm1)]
 simp only [cJ]
 congr 1
 rw [← e3,xv,Int.add_emod,Int.mul_emod,Int.emod_emod,← Int.mul_emod,← Int.add_emod]
def vQ (n c m:Int):Int:=if m=2∧c≤2*(n % c) then n / c+1 else n / c
theorem uq {w:Zi} {c m:Int} (hw:XW w) (hc:U64 c) (h1:1≤c) (hm:m=0∨m=2):jq w c m=some (if vQ (xv w) c m<18446744073709551616 then (vQ (xv w) c m,0) else (0,3)):=by
 unfold jq
 have hc0:((((c == 0)||(decide (m<0)))||(decide (3<m))):Bool)=false:=by
  rcases hm with rfl | rfl <;> simp <;> omega
 rw [hc0];simp only [dn]
 have hn0:0≤xv w:=by unfold xv;have:=hw.1.1;have:=hw.2.1;omega
 have hr0:0≤xv w % c:=Int.emod_nonneg _ (by omega)
 have hr1:xv w % c<c:=Int.emod_lt_of_pos _ (by omega)
 have hle:xv w / c≤vQ (xv w) c m:=by unfold vQ;split <;> omega
 by_cases h:c≤w.Hi
 ·rw [det h]
  have:18446744073709551616≤xv w / c:=by
   apply Int.le_ediv_of_mul_le (by omega)
   have:=Int.mul_le_mul_of_nonneg_left h (show (0:Int)≤18446744073709551616 by omega)
   unfold xv;have:=hw.2.1;omega
  rw [if_neg (by omega)];rfl
 rw [bH h]
 simp only [dn]
 have e:=div64 hw.1 hw.2 hc (by omega)
 rw [show w.Hi*18446744073709551616+w.Lo=xv w from rfl] at e
 rw [bo e]
 have hq:xv w / c<18446744073709551616:=by
  apply Int.ediv_lt_of_lt_mul (by omega)
  have:=Int.mul_le_mul_of_nonneg_right (show w.Hi+1≤c by omega) (show (0:Int)≤18446744073709551616 by omega)
  unfold xv;have:=hw.2.2;rw [Int.mul_comm 18446744073709551616];omega
 have hq0:0≤xv w / c:=Int.ediv_nonneg hn0 (by omega)
 dsimp only
 have er:iX (xv w / c) (xv w % c) c m=some (decide (m=2∧c≤2*(xv w % c))):=by
  unfold iX
  rw [cU (a:=c - xv w % c) ⟨by omega,by have:=hc.2;omega⟩]
  rcases hm with rfl | rfl
  ·simp
  simp;omega
 rw [bo er]
 unfold vQ
 by_cases hu:m=2∧c≤2*(xv w % c)
 ·rw [det hu,if_pos hu]
  simp only [Bool.not_true,dn]
  by_cases hx:xv w / c=18446744073709551615
  ·rw [hx];rfl
  have:(xv w / c == 18446744073709551615)=false:=by simp;exact hx
  rw [this,if_pos (by omega),cU ⟨by omega,by omega⟩];rfl
 rw [bH hu,if_neg hu,if_pos hq];rfl
theorem ref_div {w:Zg} {c m:Int} (hw:RW w) (hc:U64 c) (h1:1≤c) (hm:m=0∨m=2):nC w c m=some (if vQ (rv w) c m<18446744073709551616 then (vQ (rv w) c m,0) else (0,3)):=by
 unfold nC
 have hc0:((((c == 0)||(decide (m<0)))||(decide (3<m))):Bool)=false:=by
  rcases hm with rfl | rfl <;> simp <;> omega
 rw [hc0];simp only [dn]
 have hn0:0≤rv w:=by unfold rv;have:=hw.1.1;have:=hw.2.1;omega
 have hn1:rv w<340282366920938463463374607431768211456:=by unfold rv;have:=hw.1.2;have:=hw.2.2;omega
 have hr0:0≤rv w % c:=Int.emod_nonneg _ (by omega)
 have hr1:rv w % c<c:=Int.emod_lt_of_pos _ (by omega)
 obtain ⟨q,r,e1,e2,e3,e4⟩:=sV hw hc h1
 rw [bo e1]
 dsimp only
 have er:(cond (m == 1) (some (decide (0<r))) (cond (m == 2) (some (decide ((IntKind.u64.wrap (c - r))≤r))) (cond (m == 3) (some ((decide ((IntKind.u64.wrap (c - r))<r))||((r == (IntKind.u64.wrap (c - r)))&&((ec .u64 q.Lo 1) == 1)))) (some false))))=some (decide (m=2∧c≤2*(rv w % c))):=by
  rw [e4,cU (a:=c - rv w % c) ⟨by omega,by have:=hc.2;omega⟩]
  rcases hm with rfl | rfl
  ·simp
  simp;omega
 rw [bo er]
 have hq0:0≤rv w / c:=Int.ediv_nonneg hn0 (by omega)
 unfold vQ
 have hfin:∀ z:Zg,RW z→(cond (decide (0<z.Hi)) (some ((0:Int),(3:Int))) (some (z.Lo,0)))=some (if rv z<18446744073709551616 then (rv z,0) else (0,3)):=by
  intro z hz
  obtain ⟨⟨a1,a2⟩,⟨a3,a4⟩⟩:=hz
  by_cases h:0<z.Hi
  ·rw [det h,if_neg (by unfold rv;omega)];rfl
  have:rv z=z.Lo:=by unfold rv;omega
  rw [bH h,this,if_pos a4];rfl
 by_cases hu:m=2∧c≤2*(rv w % c)
 ·rw [det hu,if_pos hu]
  obtain ⟨z,b,f1,f2,f3⟩:=pt (p:=q) (q:=⟨0,1⟩) e2 ⟨⟨by simp,by simp⟩,⟨by simp,by simp⟩⟩
  have hone:rv ⟨0,1⟩=1:=rfl
  have:rv w / c≤rv w:=Int.ediv_le_self _ hn0
  have hc2:2≤c:=by omega
  have t1:=Int.ediv_mul_le (rv w) (show c≠0 by omega)
  have t2:=Int.mul_le_mul_of_nonneg_left hc2 hq0
  rw [hone,e3] at f3
  have f3:=f3 (by omega)
  simp only [cQ]
  rw [bo f1]
  simp only [cJ]
  rw [hfin z f2,f3]
 rw [bH hu,if_neg hu]
 simp only [dn,cJ]
 rw [hfin q e2,e3]
def W:Int:=18446744073709551616
def xw (n:Int):Zi:=⟨n / 18446744073709551616,n % 18446744073709551616⟩
def rw' (n:Int):Zg:=⟨n / 18446744073709551616,n % 18446744073709551616⟩
def U128 (n:Int):Prop:=0≤n∧n<340282366920938463463374607431768211456
theorem xw_ok {n:Int} (h:U128 n):XW (xw n)∧xv (xw n)=n:=by unfold U128 at h;unfold XW xv xw U64;dsimp only;omega
theorem zQ {n:Int} (h:U128 n):RW (rw' n)∧rv (rw' n)=n:=by unfold U128 at h;unfold RW rv rw' U64;dsimp only;omega
theorem xw_of {w:Zi} (h:XW w):w=xw (xv w)∧U128 (xv w):=by
 obtain ⟨a,b⟩:=w
 unfold XW U64 at h;unfold xw xv U128;dsimp only at *
 refine ⟨?_,by omega⟩
 congr 1 <;> omega
theorem rw_of {w:Zg} (h:RW w):w=rw' (rv w)∧U128 (rv w):=by
 obtain ⟨a,b⟩:=w
 unfold RW U64 at h;unfold rw' rv U128;dsimp only at *
 refine ⟨?_,by omega⟩
 congr 1 <;> omega
theorem xmul {a b:Int} (ha:U64 a) (hb:U64 b):gQ a b=some (xw (a*b)):=by
 obtain ⟨w,e1,e2,e3⟩:=qq ha hb
 rw [e1,← e3];exact congrArg some (xw_of e2).1
theorem rmul {a b:Int} (ha:U64 a) (hb:U64 b):jr a b=some (rw' (a*b)):=by
 obtain ⟨w,e1,e2,e3⟩:=zL ha hb
 rw [e1,← e3];exact congrArg some (rw_of e2).1
theorem xadd {a b:Int} (ha:U128 a) (hb:U128 b) (h:U128 (a+b)):lQ (xw a) (xw b)=some (xw (a+b),0):=by
 unfold U128 at *
 unfold lQ ga xw
 dsimp only
 rw [if_pos (by omega)]
 simp only [cJ]
 rw [if_pos (by omega)]
 simp only [cJ]
 have:((a / 18446744073709551616+b / 18446744073709551616+(a % 18446744073709551616+b % 18446744073709551616+0) / 18446744073709551616) / 18446744073709551616 != 0)=false:=by simp;omega
 rw [this]
 simp only [dn]
 congr 3 <;> omega
theorem radd {a b:Int} (ha:U128 a) (hb:U128 b) (h:U128 (a+b)):∃ o,fC (rw' a) (rw' b)=some (rw' (a+b),o):=by
 obtain ⟨a1,a2⟩:=zQ ha
 obtain ⟨b1,b2⟩:=zQ hb
 obtain ⟨w,o,e1,e2,e3⟩:=pt a1 b1
 rw [a2,b2] at e3
 have e3:=e3 h.2
 rw [e1,← e3,← (rw_of e2).1];exact ⟨_,rfl⟩
theorem xcmp {a b:Int} (ha:U128 a) (hb:U128 b):cI (xw a) (xw b)=some (if a<b then -1 else if a=b then 0 else 1):=by
 unfold U128 at *
 unfold cI xw Zi.eqb
 dsimp only
 by_cases h:a<b
 ·have:((decide (a / 18446744073709551616<b / 18446744073709551616))||((a / 18446744073709551616 == b / 18446744073709551616)&&(decide (a % 18446744073709551616<b % 18446744073709551616))))=true:=by
   simp only [Bool.or_eq_true,Bool.and_eq_true,decide_eq_true_eq,beq_iff_eq];omega
  rw [this,if_pos h];rfl
 ·have:((decide (a / 18446744073709551616<b / 18446744073709551616))||((a / 18446744073709551616 == b / 18446744073709551616)&&(decide (a % 18446744073709551616<b % 18446744073709551616))))=false:=by
   simp only [Bool.or_eq_false_iff,Bool.and_eq_false_iff,decide_eq_false_iff_not,beq_eq_false_iff_ne];omega
  rw [this,if_neg h]
  simp only [dn]
  by_cases h2:a=b
  ·subst h2;simp
  rw [if_neg h2]
  have:((a / 18446744073709551616 == b / 18446744073709551616)&&(a % 18446744073709551616 == b % 18446744073709551616))=false:=by
   simp only [Bool.and_eq_false_iff,beq_eq_false_iff_ne];omega
  simp [this]
theorem rless {a b:Int} (ha:U128 a) (hb:U128 b):iq (rw' a) (rw' b)=some (decide (a<b)):=by
 unfold U128 at *
 unfold iq rw'
 dsimp only
 congr 1
 by_cases h:a<b
 ·rw [det h];simp only [Bool.or_eq_true,Bool.and_eq_true,decide_eq_true_eq,beq_iff_eq];omega
 rw [bH h];simp only [Bool.or_eq_false_iff,Bool.and_eq_false_iff,decide_eq_false_iff_not,beq_eq_false_iff_ne];omega
theorem xdiv {n c:Int} (h:U128 n) (hc:U64 c) (h1:1≤c):jq (xw n) c 2=some (if vQ n c 2<18446744073709551616 then (vQ n c 2,0) else (0,3)):=by
 have:=uq (xw_ok h).1 hc h1 (.inr rfl);rw [(xw_ok h).2] at this;exact this
theorem rdiv {n c:Int} (h:U128 n) (hc:U64 c) (h1:1≤c):nC (rw' n) c 2=some (if vQ n c 2<18446744073709551616 then (vQ n c 2,0) else (0,3)):=by
 have:=ref_div (zQ h).1 hc h1 (.inr rfl);rw [(zQ h).2] at this;exact this
structure DutyOK (d:Zl):Prop where
 r0:0≤d.Rate
 r1:d.Rate≤10000000
 a0:0≤d.Amount
 a1:d.Amount≤100000000
 p0:0≤d.Per
 p1:d.Per≤1000000
 m0:0≤d.Most
 m1:d.Most≤10000000
 l0:0≤d.Least
 l1:d.Least≤10000000
theorem mB (d:Zl):∃ e,cn d=some e∧(e=0→DutyOK d)∧(e=0∨e=1∨e=2):=by
 unfold cn
 by_cases h1:((((decide (d.Rate<0))||(decide (10000000<d.Rate)))||(decide (d.Amount<0)))||(decide (100000000<d.Amount)))=true
 ·rw [h1];exact ⟨_,rfl,by simp,by simp⟩
 rw [Bool.eq_false_iff.2 h1]
 by_cases h2:(((decide (0<d.Amount))&&((decide (d.Per<1))||(decide (1000000<d.Per))))||((d.Amount == 0)&&(d.Per != 0)))=true
 ·rw [h2];exact ⟨_,rfl,by simp,by simp⟩
 rw [Bool.eq_false_iff.2 h2]
 by_cases h3:((((decide (d.Most<0))||(decide (10000000<d.Most)))||(decide (d.Least<0)))||(decide (10000000<d.Least)))=true
 ·rw [h3];exact ⟨_,rfl,by simp,by simp⟩
 rw [Bool.eq_false_iff.2 h3]
 simp at h1 h2 h3
 have ok:DutyOK d:=by constructor <;> omega
 simp only [dn]
 cases h4:(((d.Most != 0)&&(!d.HasMost))||((d.Least != 0)&&(!d.HasLeast)))
 ·cases h5:((d.HasMost&&d.HasLeast)&&(decide (d.Most<d.Least)))
  ·exact ⟨_,rfl,fun _=>ok,by simp⟩
  exact ⟨_,rfl,by simp,by simp⟩
 exact ⟨_,rfl,by simp,by simp⟩
theorem zR (d:Zl):mw d=cn d:=by
 unfold mw cn jL gd
 have t1:((decide (0≤d.Rate))&&(decide (d.Rate≤10000000))) = !((decide (d.Rate<0))||(decide (10000000<d.Rate))):=by
  rw [Bool.not_or,← decide_not,← decide_not];simp
 have t2:((decide (0≤d.Amount))&&(decide (d.Amount≤100000000))) = !((decide (d.Amount<0))||(decide (100000000<d.Amount))):=by
  rw [Bool.not_or,← decide_not,← decide_not];simp
 have t3:((decide (0≤d.Most))&&(decide (d.Most≤10000000))) = !((decide (d.Most<0))||(decide (10000000<d.Most))):=by
  rw [Bool.not_or,← decide_not,← decide_not];simp
 have t4:((decide (0≤d.Least))&&(decide (d.Least≤10000000))) = !((decide (d.Least<0))||(decide (10000000<d.Least))):=by
  rw [Bool.not_or,← decide_not,← decide_not];simp
 rw [t1,t2,t3,t4,Bool.or_assoc ((decide (d.Rate<0))||(decide (10000000<d.Rate))),Bool.or_assoc ((decide (d.Most<0))||(decide (10000000<d.Most)))]
 generalize ((decide (d.Rate<0))||(decide (10000000<d.Rate)))=a
 generalize ((decide (d.Amount<0))||(decide (100000000<d.Amount)))=b
 generalize ((decide (d.Most<0))||(decide (10000000<d.Most)))=c
 generalize ((decide (d.Least<0))||(decide (10000000<d.Least)))=e
 generalize ((decide (0<d.Amount))&&((decide (d.Per<1))||(decide (1000000<d.Per))))=f
 generalize ((d.Amount == 0)&&(d.Per != 0))=g
 generalize (((d.Most != 0)&&(!d.HasMost))||((d.Least != 0)&&(!d.HasLeast)))=i
 generalize ((d.HasMost&&d.HasLeast)&&(decide (d.Most<d.Least)))=j
 cases a <;> cases b <;> cases c <;> cases e <;> cases f <;> cases g <;> cases i <;> cases j <;> rfl
def nS (d:Zl) (v q:Int):Int :=
 let p:=dt d.Per 1
 let s:=d.Rate*v*p+d.Amount*q*1000000
 let s:=if d.HasMost=true∧d.Most*v*p<s then d.Most*v*p else s
 if d.HasLeast=true∧s<d.Least*v*p then d.Least*v*p else s
def mC (d:Zl) (v q:Int):Int×Int:=if vQ (nS d v q) (1000000*dt d.Per 1) 2≤1000000000000 then (vQ (nS d v q) (1000000*dt d.Per 1) 2,0) else (0,3)
theorem xstepM {β:Type} {b:Bool} {s m:Int} {k:Int×Int→Option β} (hs:U128 s) (hm:U128 m):Option.bind (gd b (some (xw m))) (fun x12=>Option.bind (gd b (cI (xw s) x12)) (fun x13=>Option.bind (cond (b&&(decide (0<x13))) (Option.bind (some (xw m)) (fun x18=>some (x18.Hi,x18.Lo))) (some ((xw s).Hi,(xw s).Lo))) k))=k ((xw (if b=true∧m<s then m else s)).Hi,(xw (if b=true∧m<s then m else s)).Lo):=by
 cases b
 ·simp [gd]
 simp only [gd,cQ,cJ,Bool.true_and]
 rw [xcmp hs hm]
 simp only [cJ,true_and]
 by_cases h:m<s
 ·rw [if_neg (by omega),if_neg (by omega),if_pos h];rfl
 rw [if_neg h]
 by_cases h2:s<m
 ·rw [if_pos h2];rfl
 rw [if_neg h2,if_pos (by omega)];rfl
theorem xstepL {β:Type} {b:Bool} {s m:Int} {k:Int×Int→Option β} (hs:U128 s) (hm:U128 m):Option.bind (gd b (some (xw m))) (fun x12=>Option.bind (gd b (cI ⟨(xw s).Hi,(xw s).Lo⟩ x12)) (fun x13=>Option.bind (cond (b&&(decide (x13<0))) (Option.bind (some (xw m)) (fun x18=>some (x18.Hi,x18.Lo))) (some ((xw s).Hi,(xw s).Lo))) k))=k ((xw (if b=true∧s<m then m else s)).Hi,(xw (if b=true∧s<m then m else s)).Lo):=by
 cases b
 ·simp [gd]
 simp only [gd,cQ,cJ,Bool.true_and]
 rw [show cI ⟨(xw s).Hi,(xw s).Lo⟩ (xw m)=_ from xcmp hs hm]
 simp only [cJ,true_and]
 by_cases h:s<m
 ·rw [if_pos h,if_pos h];rfl
 rw [if_neg h,if_neg h]
 split <;> rfl
theorem rstepM {β:Type} {b:Bool} {s m:Int} {k:Int×Int→Option β} (hs:U128 s) (hm:U128 m):Option.bind (cond b (some (rw' m)) (some default)) (fun x12=>Option.bind (cond b (iq x12 (rw' s)) (some default)) (fun x13=>Option.bind (cond (b&&x13) (Option.bind (some (rw' m)) (fun x18=>some (x18.Hi,x18.Lo))) (some ((rw' s).Hi,(rw' s).Lo))) k))=k ((rw' (if b=true∧m<s then m else s)).Hi,(rw' (if b=true∧m<s then m else s)).Lo):=by
 cases b
 ·simp
 simp only [cQ,cJ,Bool.true_and]
 rw [rless hm hs]
 simp only [cJ,true_and]
 by_cases h:m<s
 ·rw [det h,if_pos h];rfl
 rw [bH h,if_neg h];rfl
theorem rstepL {β:Type} {b:Bool} {s m:Int} {k:Int×Int→Option β} (hs:U128 s) (hm:U128 m):Option.bind (cond b (some (rw' m)) (some default)) (fun x12=>Option.bind (cond b (iq ⟨(rw' s).Hi,(rw' s).Lo⟩ x12) (some default)) (fun x13=>Option.bind (cond (b&&x13) (Option.bind (some (rw' m)) (fun x18=>some (x18.Hi,x18.Lo))) (some ((rw' s).Hi,(rw' s).Lo))) k))=k ((rw' (if b=true∧s<m then m else s)).Hi,(rw' (if b=true∧s<m then m else s)).Lo):=by
 cases b
 ·simp
 simp only [cQ,cJ,Bool.true_and]
 rw [show iq ⟨(rw' s).Hi,(rw' s).Lo⟩ (rw' m)=_ from rless hs hm]
 simp only [cJ,true_and]
 by_cases h:s<m
 ·rw [det h,if_pos h];rfl
 rw [bH h,if_neg h];rfl
theorem ou {n c:Int} (h:0≤n) (hc:1≤c):0≤vQ n c 2:=by
 have:=Int.ediv_nonneg h (show 0≤c by omega)
 unfold vQ;split <;> omega
theorem evFin (r:Int) (h:0≤r):(Option.bind (some (if r<18446744073709551616 then (r,(0:Int)) else (0,3))) (fun x26=>cond ((x26.2 != 0)||(decide (1000000000000<x26.1))) (some ((0:Int),(3:Int))) (some ((IntKind.i64.wrap x26.1),0))))=some (if r≤1000000000000 then (r,0) else (0,3)):=by
 by_cases h1:r≤1000000000000
 ·rw [if_pos (by omega),if_pos h1]
  simp only [cJ]
  rw [bH (by omega),bw (by omega) (by omega)];rfl
 rw [if_neg h1]
 by_cases h2:r<18446744073709551616
 ·rw [if_pos h2]
  simp only [cJ]
  rw [det (by omega),Bool.or_true];rfl
 rw [if_neg h2];rfl
section
variable {d:Zl} {v q:Int} (hd:DutyOK d) (hv:0≤v) (hv':v≤1000000000000) (hq:0≤q) (hq':q≤1000000000)
include hv hv' in
theorem CV {r:Int} (h0:0≤r) (h1:r≤10000000):U64 (r*v)∧0≤r*v∧r*v≤10000000000000000000:=by
 have a:=Int.mul_nonneg h0 hv
 have b:r*v≤10000000*1000000000000:=Int.mul_le_mul h1 hv' hv (by omega)
 exact ⟨⟨a,by omega⟩,a,by omega⟩
include hq hq' in
theorem CW {r:Int} (h0:0≤r) (h1:r≤100000000):U64 (r*q)∧0≤r*q∧r*q≤100000000000000000:=by
 have a:=Int.mul_nonneg h0 hq
 have b:r*q≤100000000*1000000000:=Int.mul_le_mul h1 hq' hq (by omega)
 exact ⟨⟨a,by omega⟩,a,by omega⟩
include hd in
theorem AU:1≤dt d.Per 1∧dt d.Per 1≤1000000:=by
 have:=hd.p0;have:=hd.p1;unfold dt;split <;> omega
include hd hv hv' in
theorem pA {r:Int} (h0:0≤r) (h1:r≤10000000):U128 (r*v*dt d.Per 1)∧r*v*dt d.Per 1≤10000000000000000000000000:=by
 obtain ⟨_,a,b⟩:=CV hv hv' h0 h1
 obtain ⟨p0,p1⟩:=AU hd
 have c:=Int.mul_nonneg a (show 0≤dt d.Per 1 by omega)
 have e:r*v*dt d.Per 1≤10000000000000000000*1000000:=Int.mul_le_mul b p1 (by omega) (by omega)
 exact ⟨⟨c,by omega⟩,by omega⟩
include hd hv hv' in
theorem CX {r:Int} (h0:0≤r) (h1:r≤10000000):dd r v (IntKind.u64.wrap (dt d.Per 1))=some (xw (r*v*dt d.Per 1)):=by
 obtain ⟨a,_,_⟩:=CV hv hv' h0 h1
 obtain ⟨p0,p1⟩:=AU hd
 unfold dd
 rw [cU (a:=r) ⟨h0,by omega⟩,cU (a:=v) ⟨hv,by omega⟩,cU a,cU (a:=dt d.Per 1) ⟨by omega,by omega⟩,xmul a ⟨by omega,by omega⟩];rfl
include hd hv hv' in
theorem CY {r:Int} (h0:0≤r) (h1:r≤10000000):fS r v (dt d.Per 1)=some (rw' (r*v*dt d.Per 1)):=by
 obtain ⟨a,_,_⟩:=CV hv hv' h0 h1
 obtain ⟨p0,p1⟩:=AU hd
 unfold fS
 rw [cU (a:=r) ⟨h0,by omega⟩,cU (a:=v) ⟨hv,by omega⟩,cU a,cU (a:=dt d.Per 1) ⟨by omega,by omega⟩,rmul a ⟨by omega,by omega⟩];rfl
include hd hv hv' hq hq'
theorem sW:U128 (nS d v q)∧nS d v q≤20000000000000000000000000:=by
 obtain ⟨⟨a1,_⟩,a3⟩:=pA hd hv hv' hd.r0 hd.r1
 obtain ⟨⟨b1,_⟩,b3⟩:=pA hd hv hv' hd.m0 hd.m1
 obtain ⟨⟨c1,_⟩,c3⟩:=pA hd hv hv' hd.l0 hd.l1
 obtain ⟨_,e1,e2⟩:=CW hq hq' hd.a0 hd.a1
 unfold nS U128
 dsimp only
 split <;> split <;> omega
theorem AV (hval:cn d=some 0):eo d v q=some (mC d v q):=by
 obtain ⟨A,a3⟩:=pA hd hv hv' hd.r0 hd.r1
 obtain ⟨B,b3⟩:=pA hd hv hv' hd.m0 hd.m1
 obtain ⟨C,c3⟩:=pA hd hv hv' hd.l0 hd.l1
 obtain ⟨e0,e1,e2⟩:=CW hq hq' hd.a0 hd.a1
 obtain ⟨p0,p1⟩:=AU hd
 obtain ⟨G,_⟩:=sW hd hv hv' hq hq'
 have ha0:=hd.a0;have ha1:=hd.a1
 have E:U128 (d.Amount*q*1000000):=⟨by omega,by omega⟩
 have F:U128 (d.Rate*v*dt d.Per 1+d.Amount*q*1000000):=⟨by have:=A.1;omega,by omega⟩
 unfold eo
 rw [bo hval]
 have hc:((((decide (v<0))||(decide (1000000000000<v)))||(decide (q<0)))||(decide (1000000000<q)))=false:=by simp;omega
 rw [hc,CX hd hv hv' hd.r0 hd.r1,cU (a:=d.Amount) ⟨ha0,by omega⟩,cU (a:=q) ⟨hq,by omega⟩,cU e0,xmul e0 ⟨by omega,by omega⟩]
 simp only [bne_self_eq_false,dn,cJ]
 rw [xadd A E F]
 simp only [bne_self_eq_false,dn,cJ]
 rw [CX hd hv hv' hd.m0 hd.m1,CX hd hv hv' hd.l0 hd.l1,xstepM F B]
 dsimp only
 rw [xstepL (by split <;> assumption) C]
 dsimp only
 rw [cU (a:=dt d.Per 1) ⟨by omega,by omega⟩,cU (a:=1000000*dt d.Per 1) ⟨by omega,by omega⟩]
 have:=xdiv G (c:=1000000*dt d.Per 1) ⟨by omega,by omega⟩ (by omega)
 unfold nS at this
 dsimp only at this
 erw [this]
 unfold mC nS
 dsimp only
 exact evFin _ (ou G.1 (by omega))
theorem xi (hval:cn d=some 0):eH d v q=some (mC d v q):=by
 obtain ⟨A,a3⟩:=pA hd hv hv' hd.r0 hd.r1
 obtain ⟨B,b3⟩:=pA hd hv hv' hd.m0 hd.m1
 obtain ⟨C,c3⟩:=pA hd hv hv' hd.l0 hd.l1
 obtain ⟨e0,e1,e2⟩:=CW hq hq' hd.a0 hd.a1
 obtain ⟨p0,p1⟩:=AU hd
 obtain ⟨G,_⟩:=sW hd hv hv' hq hq'
 have ha0:=hd.a0;have ha1:=hd.a1
 have E:U128 (d.Amount*q*1000000):=⟨by omega,by omega⟩
 have F:U128 (d.Rate*v*dt d.Per 1+d.Amount*q*1000000):=⟨by have:=A.1;omega,by omega⟩
 unfold eH
 rw [zR,bo hval]
 unfold jL
 have hc1:((decide (0≤v))&&(decide (v≤1000000000000)))=true:=by simp;omega
 have hc2:((decide (0≤q))&&(decide (q≤1000000000)))=true:=by simp;omega
 rw [hc1,hc2]
 simp only [bne_self_eq_false,dn,cJ,Bool.not_true,Bool.not_false,gd,cQ,Bool.or_self]
 rw [CY hd hv hv' hd.r0 hd.r1,cU (a:=d.Amount) ⟨ha0,by omega⟩,cU (a:=q) ⟨hq,by omega⟩,cU e0,rmul e0 ⟨by omega,by omega⟩]
 obtain ⟨o,hadd⟩:=radd A E F
 simp only [cJ]
 rw [hadd]
 simp only [cJ]
 rw [CY hd hv hv' hd.m0 hd.m1,CY hd hv hv' hd.l0 hd.l1]
 rw [rstepM F B]
 dsimp only
 rw [rstepL (by split <;> assumption) C]
 dsimp only
 rw [cU (a:=dt d.Per 1) ⟨by omega,by omega⟩,Int.mul_comm (dt d.Per 1) 1000000,cU (a:=1000000*dt d.Per 1) ⟨by omega,by omega⟩]
 have:=rdiv G (c:=1000000*dt d.Per 1) ⟨by omega,by omega⟩ (by omega)
 unfold nS at this
 dsimp only at this
 erw [this]
 unfold mC nS
 dsimp only
 exact evFin _ (ou G.1 (by omega))
end
theorem evN_ok (d:Zl) (v q:Int) (h:0≤nS d v q) (hp:1≤dt d.Per 1):((mC d v q).2=0∧0≤(mC d v q).1∧(mC d v q).1≤1000000000000)∨((mC d v q).2=3∧(mC d v q).1=0):=by
 have:=ou (c:=1000000*dt d.Per 1) h (by omega)
 unfold mC;split
 ·left;dsimp only;omega
 right;exact ⟨rfl,rfl⟩
theorem bG {S T β:Type} {body:S→Option (S⊕T)} {N:Nat} {s:S} (s':S) {k:T→Option β} (h:body s=some (.inl s')):(aV body (N+1) s).bind k=(aV body N s').bind k:=by rw [fN,h]
theorem cP {S T β:Type} {body:S→Option (S⊕T)} {N:Nat} {s:S} (t:T) {k:T→Option β} (h:body s=some (.inr t)):(aV body (N+1) s).bind k=k t:=by rw [fN,h];rfl
theorem ur:FUEL=1267650600228229401496703205367+9:=rfl
structure ShareOK (t g r:Int):Prop where
 t0:0≤t
 t1:t≤1000000000000
 g0:0≤g
 g1:g≤1000000000000
 r0:0≤r
 r1:r≤1000000000000
 s1:1≤g+r
def fF (t g r:Int):Int:=t - t*g / (g+r) - t*r / (g+r)
def jd (t g r:Int):Int×Int:=if fF t g r=1 then (if t*g % (g+r)<t*r % (g+r) then (t*g / (g+r),t*r / (g+r)+1) else (t*g / (g+r)+1,t*r / (g+r))) else (t*g / (g+r),t*r / (g+r))
structure ShareFacts (t g r:Int):Prop where
 a0:0≤t*g / (g+r)
 a1:t*g / (g+r)≤t
 b0:0≤t*r / (g+r)
 b1:t*r / (g+r)≤t
 c0:0≤t*g % (g+r)
 c1:t*g % (g+r)<g+r
 d0:0≤t*r % (g+r)
 d1:t*r % (g+r)<g+r
 l01:fF t g r=0∨fF t g r=1
section
variable {t g r:Int} (h:ShareOK t g r)
include h
theorem ow:ShareFacts t g r:=by
 obtain ⟨t0,t1,g0,g1,r0,r1,s1⟩:=h
 have p1:=Int.mul_nonneg t0 g0
 have p2:=Int.mul_nonneg t0 r0
 have e1:=Int.emod_add_mul_ediv (t*g) (g+r)
 have e2:=Int.emod_add_mul_ediv (t*r) (g+r)
 have a0:=Int.ediv_nonneg p1 (show 0≤g+r by omega)
 have b0:=Int.ediv_nonneg p2 (show 0≤g+r by omega)
 have c0:=Int.emod_nonneg (t*g) (show g+r≠0 by omega)
 have d0:=Int.emod_nonneg (t*r) (show g+r≠0 by omega)
 have c1:=Int.emod_lt_of_pos (t*g) (show 0<g+r by omega)
 have d1:=Int.emod_lt_of_pos (t*r) (show 0<g+r by omega)
 have hs:t*(g+r)=t*g+t*r:=Int.mul_add _ _ _
 have key:(g+r)*fF t g r=t*g % (g+r)+t*r % (g+r):=by
  unfold fF
  rw [Int.mul_sub,Int.mul_sub,Int.mul_comm (g+r) t]
  generalize t*g / (g+r)=x at *
  generalize t*r / (g+r)=y at *
  generalize (g+r)*x=X at *
  generalize (g+r)*y=Y at *
  omega
 have l0:0≤fF t g r:=by
  by_cases hc:0≤fF t g r
  ·exact hc
  have:=Int.mul_le_mul_of_nonneg_left (show fF t g r ≤ -1 by omega) (show 0≤g+r by omega);omega
 have l1:fF t g r≤1:=by
  by_cases hc:fF t g r≤1
  ·exact hc
  have:=Int.mul_le_mul_of_nonneg_left (show 2≤fF t g r by omega) (show 0≤g+r by omega);omega
 refine ⟨a0,?_,b0,?_,c0,c1,d0,d1,by omega⟩
 ·unfold fF at l0;omega
 unfold fF at l0;omega
theorem AW:(jd t g r).1+(jd t g r).2=t∧0≤(jd t g r).1∧(jd t g r).1≤1000000000000∧0≤(jd t g r).2∧(jd t g r).2≤1000000000000:=by
 obtain ⟨a0,a1,b0,b1,c0,c1,d0,d1,l01⟩:=ow h
 have:=h.t1
 have hl:fF t g r=t - t*g / (g+r) - t*r / (g+r):=rfl
 unfold jd
 split
 ·split <;> (dsimp only;omega)
 dsimp only;omega
theorem zS {w:Int} (hw:0≤w) (hw1:w≤1000000000000) (hle:t*w / (g+r)≤t):iY t w (g+r) 0=some (t*w / (g+r),0):=by
 obtain ⟨t0,t1,g0,g1,r0,r1,s1⟩:=h
 unfold iY
 obtain ⟨z,e1,e2,e3⟩:=qq (a:=t) (b:=w) ⟨by omega,by omega⟩ ⟨by omega,by omega⟩
 rw [bo e1,uq e2 (c:=g+r) ⟨by omega,by omega⟩ s1 (.inl rfl),e3]
 have:vQ (t*w) (g+r) 0=t*w / (g+r):=by unfold vQ;rw [if_neg (by omega)]
 rw [this,if_pos (by omega)]
 rfl
theorem CZ {w:Int} (hw:0≤w) (hw1:w≤1000000000000) (hle:t*w / (g+r)≤t):∃ z q,jr t w=some z∧i7 z (g+r)=some (q,t*w % (g+r))∧q.Lo=t*w / (g+r):=by
 obtain ⟨t0,t1,g0,g1,r0,r1,s1⟩:=h
 obtain ⟨z,e1,e2,e3⟩:=zL (a:=t) (b:=w) ⟨by omega,by omega⟩ ⟨by omega,by omega⟩
 obtain ⟨q,m,f1,f2,f3,f4⟩:=sV e2 (d:=g+r) ⟨by omega,by omega⟩ s1
 rw [e3] at f3 f4
 refine ⟨z,q,e1,by rw [f1,f4],?_⟩
 obtain ⟨⟨x1,x2⟩,⟨x3,x4⟩⟩:=f2
 unfold rv at f3;omega
theorem check2:gi t [g,r]=some 0:=by
 obtain ⟨t0,t1,g0,g1,r0,r1,s1⟩:=h
 unfold gi
 rw [show decide ((1000:Int)<(([g,r]:List Int).length:Int))=false from rfl,show ((decide (t<0))||(decide (1000000000000<t)))=false by simp;omega,ur]
 simp only [dn]
 refine (bG 1 ?_).trans ((bG 2 ?_).trans ((cP (.inl ()) ?_).trans ?_))
 ·rw [show decide ((0:Int)<(([g,r]:List Int).length:Int))=true from rfl,bo (show idx [g,r] 0=some g from rfl),show ((decide (g<0))||(decide (1000000000000<g)))=false by simp;omega];rfl
 ·rw [show decide ((1:Int)<(([g,r]:List Int).length:Int))=true from rfl,bo (show idx [g,r] 1=some r from rfl),show ((decide (r<0))||(decide (1000000000000<r)))=false by simp;omega];rfl
 ·rfl
 rfl
theorem sum2:gj [g,r]=some (g+r):=by
 obtain ⟨t0,t1,g0,g1,r0,r1,s1⟩:=h
 unfold gj
 rw [ur]
 refine (bG (g,1) ?_).trans ((bG (g+r,2) ?_).trans ((cP (g+r) ?_).trans ?_))
 ·dsimp only
  rw [show decide ((0:Int)<(([g,r]:List Int).length:Int))=true from rfl,bo (show idx [g,r] 0=some g from rfl),bw (by omega) (by omega),Int.zero_add];rfl
 ·dsimp only
  rw [show decide ((1:Int)<(([g,r]:List Int).length:Int))=true from rfl,bo (show idx [g,r] 1=some r from rfl),bw (by omega) (by omega)];rfl
 ·rfl
 rfl
end
theorem cmpI (a b:Int):cS a b=some (if a<b then -1 else if b<a then 1 else 0):=by
 unfold cS gt
 simp only [bne_self_eq_false,cJ,dn]
 by_cases h:a<b
 ·rw [det h,if_pos h];rfl
 rw [bH h,if_neg h]
 by_cases h2:b<a
 ·rw [det h2,if_pos h2];rfl
 rw [bH h2,if_neg h2];rfl
theorem cmpU (a b:Int):eF a b=some (if a<b then -1 else if b<a then 1 else 0):=by
 unfold eF fB
 simp only [bne_self_eq_false,cJ,dn]
 by_cases h:a<b
 ·rw [det h,if_pos h];rfl
 rw [bH h,if_neg h]
 by_cases h2:b<a
 ·rw [det h2,if_pos h2];rfl
 rw [bH h2,if_neg h2];rfl
theorem len2:jz 2=some 2:=by kernel_rfl
theorem sort2 (s0 m0 s1 m1:Int):dC (⟨()⟩:Zn) [⟨0,s0,m0⟩,⟨1,s1,m1⟩]=some (if m0<m1 then [⟨1,s1,m1⟩,⟨0,s0,m0⟩] else [⟨0,s0,m0⟩,⟨1,s1,m1⟩]):=by
 have hby:bD ⟨1,s1,m1⟩ ⟨0,s0,m0⟩ (⟨()⟩:Zn)=some (if m0<m1 then -1 else 1):=by
  unfold bD gS
  rw [cmpU,cmpI]
  dsimp only
  by_cases h:m0<m1
  ·rw [if_pos h,if_pos h];rfl
  rw [if_neg h,if_neg h]
  by_cases h2:m1<m0
  ·rw [if_pos h2];rfl
  rw [if_neg h2];rfl
 unfold dC bk
 rw [show IntKind.u64.wrap ((([(⟨0,s0,m0⟩:Zc),⟨1,s1,m1⟩]:List Zc).length:Nat):Int)=2 from rfl,bo len2]
 have hins:bh [⟨0,s0,m0⟩,⟨1,s1,m1⟩] 0 2 (fun y2 y3=>bD y2 y3 (⟨()⟩:Zn))=some (if m0<m1 then [⟨1,s1,m1⟩,⟨0,s0,m0⟩] else [⟨0,s0,m0⟩,⟨1,s1,m1⟩]):=by
  unfold bh
  rw [ur]
  refine (bG (if m0<m1 then [⟨1,s1,m1⟩,⟨0,s0,m0⟩] else [⟨0,s0,m0⟩,⟨1,s1,m1⟩],2) ?_).trans ((cP _ ?_).trans rfl)
  ·show Option.bind (aV _ _ (([⟨0,s0,m0⟩,⟨1,s1,m1⟩]:List Zc),(1:Int))) _=_
   by_cases h:m0<m1
   ·rw [if_pos h] at hby ⊢
    refine (bG ([⟨1,s1,m1⟩,⟨0,s0,m0⟩],0) ?_).trans ((cP [⟨1,s1,m1⟩,⟨0,s0,m0⟩] ?_).trans rfl)
    ·show Option.bind (gd true (bD ⟨1,s1,m1⟩ ⟨0,s0,m0⟩ (⟨()⟩:Zn))) _=_
     rw [hby];rfl
    rfl
   rw [if_neg h] at hby ⊢
   refine (cP [⟨0,s0,m0⟩,⟨1,s1,m1⟩] ?_).trans rfl
   show Option.bind (gd true (bD ⟨1,s1,m1⟩ ⟨0,s0,m0⟩ (⟨()⟩:Zn))) _=_
   rw [hby];rfl
  rfl
 have hpdq:bf [⟨0,s0,m0⟩,⟨1,s1,m1⟩] 0 2 2 (fun y2 y3=>bD y2 y3 (⟨()⟩:Zn))=some (if m0<m1 then [⟨1,s1,m1⟩,⟨0,s0,m0⟩] else [⟨0,s0,m0⟩,⟨1,s1,m1⟩]):=by
  unfold bf
  rw [ur]
  refine (cP (.inr (if m0<m1 then [⟨1,s1,m1⟩,⟨0,s0,m0⟩] else [⟨0,s0,m0⟩,⟨1,s1,m1⟩])) ?_).trans rfl
  rw [show decide (IntKind.i64.wrap ((2:Int) - 0)≤12)=true from rfl,hins];rfl
 show Option.bind (Option.bind (bf [⟨0,s0,m0⟩,⟨1,s1,m1⟩] 0 2 2 _) _) _=_
 rw [hpdq];rfl
section
variable {t g r:Int} (h:ShareOK t g r)
include h
theorem yx:e8 t [g,r]=some ([(jd t g r).1,(jd t g r).2],0):=by
 obtain ⟨a0,a1,b0,b1,c0,c1,d0,d1,l01⟩:=ow h
 have md1:=zS h h.g0 h.g1 a1
 have md2:=zS h h.r0 h.r1 b1
 have hc:=check2 h
 have hsum:=sum2 h
 obtain ⟨t0,t1,g0,g1,r0,r1,s1⟩:=h
 have mm1:=pz (a:=t) (b:=g) (c:=g+r) ⟨by omega,by omega⟩ ⟨by omega,by omega⟩ ⟨by omega,by omega⟩ s1
 have mm2:=pz (a:=t) (b:=r) (c:=g+r) ⟨by omega,by omega⟩ ⟨by omega,by omega⟩ ⟨by omega,by omega⟩ s1
 unfold e8
 rw [bo hc]
 simp only [bne_self_eq_false,dn]
 rw [bo hsum]
 have hz:(g+r == 0)=false:=by simp;omega
 rw [hz]
 simp only [dn,cJ]
 rw [bo (show mk 24 (⟨(0:Int),(0:Int),(0:Int)⟩:Zc) (([g,r]:List Int).length:Int)=some [⟨0,0,0⟩,⟨0,0,0⟩] from rfl),ur]
 have ws:IntKind.u64.wrap (g+r)=g+r:=cU ⟨by omega,by omega⟩
 have wt:IntKind.u64.wrap t=t:=cU ⟨by omega,by omega⟩
 have wg:IntKind.u64.wrap g=g:=cU ⟨by omega,by omega⟩
 have wr:IntKind.u64.wrap r=r:=cU ⟨by omega,by omega⟩
 have i1:IntKind.i64.wrap (t*g / (g+r))=t*g / (g+r):=bw (by omega) (by omega)
 have i2:IntKind.i64.wrap (t*r / (g+r))=t*r / (g+r):=bw (by omega) (by omega)
 have i3:IntKind.i64.wrap (t - t*g / (g+r))=t - t*g / (g+r):=bw (by omega) (by omega)
 have i4:IntKind.i64.wrap (t - t*g / (g+r) - t*r / (g+r))=fF t g r:=bw (by omega) (by omega)
 refine (bG (t - t*g / (g+r),[⟨0,t*g / (g+r),t*g % (g+r)⟩,⟨0,0,0⟩],1) ?_).trans ((bG (fF t g r,[⟨0,t*g / (g+r),t*g % (g+r)⟩,⟨1,t*r / (g+r),t*r % (g+r)⟩],2) ?_).trans ((cP (fF t g r,[⟨0,t*g / (g+r),t*g % (g+r)⟩,⟨1,t*r / (g+r),t*r % (g+r)⟩]) ?_).trans ?_))
 ·dsimp only
  rw [show decide ((0:Int)<(([g,r]:List Int).length:Int))=true from rfl,ws,wt]
  simp only [cQ]
  rw [bo (show idx [g,r] 0=some g from rfl),wg,bo md1,bo mm1]
  dsimp only [lb]
  rw [i1,i3];rfl
 ·dsimp only
  rw [show decide ((1:Int)<(([g,r]:List Int).length:Int))=true from rfl,ws,wt]
  simp only [cQ]
  rw [bo (show idx [g,r] 1=some r from rfl),wr,bo md2,bo mm2]
  dsimp only [lb]
  rw [i2,i4];rfl
 ·rfl
 dsimp only
 rw [bo (sort2 _ _ _ _),bo (show mk 8 (0:Int) (([g,r]:List Int).length:Int)=some [0,0] from rfl)]
 have w1:IntKind.i64.wrap (t*g / (g+r)+1)=t*g / (g+r)+1:=bw (by omega) (by omega)
 have w2:IntKind.i64.wrap (t*r / (g+r)+1)=t*r / (g+r)+1:=bw (by omega) (by omega)
 unfold jd
 generalize t*g / (g+r)=x0 at *
 generalize t*r / (g+r)=x1 at *
 generalize t*g % (g+r)=m0 at *
 generalize t*r % (g+r)=m1 at *
 rcases l01 with l | l <;> rw [l] <;> by_cases hm:m0<m1
 ·simp only [if_pos hm]
  refine (bG ([0,x1],1) ?_).trans ((bG ([x0,x1],2) ?_).trans ((cP [x0,x1] ?_).trans rfl))
  ·show some (Sum.inl ([0,IntKind.i64.wrap x1],1))=_;rw [i2]
  ·show some (Sum.inl ([IntKind.i64.wrap x0,x1],2))=_;rw [i1]
  rfl
 ·simp only [if_neg hm]
  refine (bG ([x0,0],1) ?_).trans ((bG ([x0,x1],2) ?_).trans ((cP [x0,x1] ?_).trans rfl))
  ·show some (Sum.inl ([IntKind.i64.wrap x0,0],1))=_;rw [i1]
  ·show some (Sum.inl ([x0,IntKind.i64.wrap x1],2))=_;rw [i2]
  rfl
 ·simp only [if_pos hm]
  refine (bG ([0,x1+1],1) ?_).trans ((bG ([x0,x1+1],2) ?_).trans ((cP [x0,x1+1] ?_).trans rfl))
  ·show some (Sum.inl ([0,IntKind.i64.wrap (IntKind.i64.wrap x1+1)],1))=_;rw [i2,w2]
  ·show some (Sum.inl ([IntKind.i64.wrap x0,x1+1],2))=_;rw [i1]
  rfl
 simp only [if_neg hm]
 refine (bG ([x0+1,0],1) ?_).trans ((bG ([x0+1,x1],2) ?_).trans ((cP [x0+1,x1] ?_).trans rfl))
 ·show some (Sum.inl ([IntKind.i64.wrap (IntKind.i64.wrap x0+1),0],1))=_;rw [i1,w1]
 ·show some (Sum.inl ([x0+1,IntKind.i64.wrap x1],2))=_;rw [i2]
 rfl
end
section
variable {t g r:Int} (h:ShareOK t g r)
include h
theorem AX:kY t [g,r]=some ([(jd t g r).1,(jd t g r).2],0):=by
 obtain ⟨a0,a1,b0,b1,c0,c1,d0,d1,l01⟩:=ow h
 obtain ⟨z1,q1,u1,u2,u3⟩:=CZ h h.g0 h.g1 a1
 obtain ⟨z2,q2,v1,v2,v3⟩:=CZ h h.r0 h.r1 b1
 obtain ⟨t0,t1,g0,g1,r0,r1,s1⟩:=h
 unfold kY
 rw [show decide ((1000:Int)<(([g,r]:List Int).length:Int))=false from rfl,show ((decide (t<0))||(decide (1000000000000<t)))=false by simp;omega,ur]
 simp only [dn]
 refine (bG (false,1) ?_).trans ((bG (false,2) ?_).trans ((cP false ?_).trans ?_))
 ·dsimp only
  rw [show decide ((0:Int)<(([g,r]:List Int).length:Int))=true from rfl]
  simp only [cQ]
  rw [bo (show gd (!false) (idx [g,r] 0)=some g from rfl),bH (show ¬ g<0 by omega),bo (show gd (!(false||false)) (idx [g,r] 0)=some g from rfl),bH (show ¬ 1000000000000<g by omega)];rfl
 ·dsimp only
  rw [show decide ((1:Int)<(([g,r]:List Int).length:Int))=true from rfl]
  simp only [cQ]
  rw [bo (show gd (!false) (idx [g,r] 1)=some r from rfl),bH (show ¬ r<0 by omega),bo (show gd (!(false||false)) (idx [g,r] 1)=some r from rfl),bH (show ¬ 1000000000000<r by omega)];rfl
 ·rfl
 rw [show ((([g,r]:List Int).length:Int) == 0)=false from rfl,Bool.false_and,dn,dn]
 refine (bG (g,1) ?_).trans ((bG (g+r,2) ?_).trans ((cP (g+r) ?_).trans ?_))
 ·dsimp only
  rw [show decide ((0:Int)<(([g,r]:List Int).length:Int))=true from rfl,bo (show idx [g,r] 0=some g from rfl),bw (by omega) (by omega),Int.zero_add];rfl
 ·dsimp only
  rw [show decide ((1:Int)<(([g,r]:List Int).length:Int))=true from rfl,bo (show idx [g,r] 1=some r from rfl),bw (by omega) (by omega)];rfl
 ·rfl
 rw [bo (show mk 8 (0:Int) (([g,r]:List Int).length:Int)=some [0,0] from rfl),bo (show mk 8 (0:Int) (([g,r]:List Int).length:Int)=some [0,0] from rfl)]
 have hz:(g+r == 0)=false:=by simp;omega
 have hcg:(cond (g+r == 0) (some ((1:Int),(([g,r]:List Int).length:Int))) (some (g,g+r)))=some (g,g+r):=by rw [hz];rfl
 have hcr:(cond (g+r == 0) (some ((1:Int),(([g,r]:List Int).length:Int))) (some (r,g+r)))=some (r,g+r):=by rw [hz];rfl
 have ws:IntKind.u64.wrap (g+r)=g+r:=cU ⟨by omega,by omega⟩
 have wt:IntKind.u64.wrap t=t:=cU ⟨by omega,by omega⟩
 have wg:IntKind.u64.wrap g=g:=cU ⟨by omega,by omega⟩
 have wr:IntKind.u64.wrap r=r:=cU ⟨by omega,by omega⟩
 have i1:IntKind.i64.wrap (t*g / (g+r))=t*g / (g+r):=bw (by omega) (by omega)
 have i2:IntKind.i64.wrap (t*r / (g+r))=t*r / (g+r):=bw (by omega) (by omega)
 have i3:IntKind.i64.wrap (t - t*g / (g+r))=t - t*g / (g+r):=bw (by omega) (by omega)
 have i4:IntKind.i64.wrap (t - t*g / (g+r) - t*r / (g+r))=fF t g r:=bw (by omega) (by omega)
 have i5:IntKind.i64.wrap (t*g % (g+r))=t*g % (g+r):=bw (by omega) (by omega)
 have i6:IntKind.i64.wrap (t*r % (g+r))=t*r % (g+r):=bw (by omega) (by omega)
 refine (bG ([t*g / (g+r),0],[t*g % (g+r),0],t - t*g / (g+r),1) ?_).trans ((bG ([t*g / (g+r),t*r / (g+r)],[t*g % (g+r),t*r % (g+r)],fF t g r,2) ?_).trans ((cP ([t*g / (g+r),t*r / (g+r)],[t*g % (g+r),t*r % (g+r)],fF t g r) ?_).trans ?_))
 ·dsimp only
  rw [show decide ((0:Int)<(([g,r]:List Int).length:Int))=true from rfl,wt,cQ]
  rw [bo (show idx [g,r] 0=some g from rfl),bo hcg]
  dsimp only
  rw [ws,wg,bo u1,bo u2,u3]
  dsimp only
  rw [i1,i5]
  show some (Sum.inl ([t*g / (g+r),0],[t*g % (g+r),0],IntKind.i64.wrap (t - t*g / (g+r)),1))=_
  rw [i3]
 ·dsimp only
  rw [show decide ((1:Int)<(([g,r]:List Int).length:Int))=true from rfl,wt,cQ]
  rw [bo (show idx [g,r] 1=some r from rfl),bo hcr]
  dsimp only
  rw [ws,wr,bo v1,bo v2,v3]
  dsimp only
  rw [i2,i6]
  show some (Sum.inl ([t*g / (g+r),t*r / (g+r)],[t*g % (g+r),t*r % (g+r)],IntKind.i64.wrap (t - t*g / (g+r) - t*r / (g+r)),2))=_
  rw [i4]
 ·rfl
 dsimp only
 have w1:IntKind.i64.wrap (t*g / (g+r)+1)=t*g / (g+r)+1:=bw (by omega) (by omega)
 have w2:IntKind.i64.wrap (t*r / (g+r)+1)=t*r / (g+r)+1:=bw (by omega) (by omega)
 unfold jd
 generalize t*g / (g+r)=x0 at *
 generalize t*r / (g+r)=x1 at *
 generalize t*g % (g+r)=m0 at *
 generalize t*r % (g+r)=m1 at *
 rcases l01 with l | l <;> rw [l]
 ·exact (cP [x0,x1] rfl).trans rfl
 by_cases hm:m0<m1
 ·simp only [if_pos hm]
  refine (bG ([x0,x1+1],[m0,-1],0) ?_).trans ((cP [x0,x1+1] ?_).trans rfl)
  ·refine (bG (1,2) ?_).trans ((cP 1 ?_).trans ?_)
   ·show Option.bind (Option.bind (some m1) (fun m76=>Option.bind (some m0) (fun m77=>cond (decide (m77<m76)) (some 1) (some 0)))) _=_
    simp only [cJ]
    rw [det hm];rfl
   ·rfl
   show some (Sum.inl ([x0,IntKind.i64.wrap (x1+1)],[m0,-1],0))=_
   rw [w2]
  rfl
 simp only [if_neg hm]
 refine (bG ([x0+1,x1],[-1,m1],0) ?_).trans ((cP [x0+1,x1] ?_).trans rfl)
 ·refine (bG (0,2) ?_).trans ((cP 0 ?_).trans ?_)
  ·show Option.bind (Option.bind (some m1) (fun m76=>Option.bind (some m0) (fun m77=>cond (decide (m77<m76)) (some 1) (some 0)))) _=_
   simp only [cJ]
   rw [bH hm];rfl
  ·rfl
  show some (Sum.inl ([IntKind.i64.wrap (x0+1),x1],[-1,m1],0))=_
  rw [w1]
 rfl
end
theorem ix0 {α:Type} {a b:α}:idx [a,b] 0=some a:=rfl
theorem ix1 {α:Type} {a b:α}:idx [a,b] 1=some b:=rfl
theorem cond_ex {α:Type} (c:Bool) (x y:α):∃ r,cond c (some x) (some y)=some r∧cond c (some x) (some y)=some r:=by cases c <;> exact ⟨_,rfl,rfl⟩
theorem cap_eq (c:Int):dS c=some (decide (65≤c)&&decide (c≤90)):=rfl
def kR (s:ByteArray):Bool:=match s.data.toList with | [a,b]=>decide (65≤(a.toNat:Int))&&decide ((a.toNat:Int)≤90)&&decide (65≤(b.toNat:Int))&&decide ((b.toNat:Int)≤90) | _=>false
theorem sX {s:ByteArray} (h:((s.size:Int) == 2)=true):∃ a b,s.data.toList=[a,b]:=by
 have h2:s.data.toList.length=2:=by
  have:=eq_of_beq h
  rw [Array.length_toList];have e:s.size=s.data.size:=rfl;omega
 match hd:s.data.toList,h2 with
 | [a,b],_=>exact ⟨a,b,rfl⟩
theorem vy {s:ByteArray} (h:((s.size:Int) == 2)=false):kR s=false:=by
 unfold kR
 split
 ·rename_i a b hd
  have e:s.size=s.data.toList.length:=by rw [Array.length_toList];rfl
  rw [hd] at e
  have e2:(s.size:Int)=2:=by rw [e];rfl
  rw [e2] at h;cases h
 rfl
theorem lw (s:ByteArray):cg s=some (kR s):=by
 unfold cg
 cases h:((s.size:Int) == 2)
 ·rw [vy h];rfl
 obtain ⟨a,b,hd⟩:=sX h
 simp only [Bool.true_and,de,cap_eq]
 rw [hd]
 simp only [kR,hd]
 rw [bo ix0]
 simp only [cJ]
 cases h1:(decide (65≤(a.toNat:Int))&&decide ((a.toNat:Int)≤90))
 ·rfl
 simp only [de,Bool.true_and];rw [bo ix1];rfl
theorem lc (s:ByteArray):dP s=some (kR s):=by
 unfold dP
 cases h:((s.size:Int) == 2)
 ·rw [vy h];rfl
 obtain ⟨a,b,hd⟩:=sX h
 simp only [Bool.true_and,de]
 rw [hd]
 simp only [kR,hd]
 rw [bo ix0]
 cases h1:decide (65≤(a.toNat:Int))
 ·rfl
 simp only [de,Bool.true_and];rw [bo ix0]
 cases h2:decide ((a.toNat:Int)≤90)
 ·rfl
 simp only [de,Bool.true_and];rw [bo ix1]
 cases h3:decide (65≤(b.toNat:Int))
 ·rfl
 simp only [de,Bool.true_and];rw [bo ix1]
theorem qr (s:ByteArray) (hs:s.size≤140737488355328):kX s=some (gA s):=by
 have hz:s.size=s.data.toList.length:=by rw [Array.length_toList];rfl
 unfold kX
 obtain ⟨t,h5,h6⟩:=gT (body:=fun v1=>cond (decide (v1<(s.size:Int))) (Option.bind (idx s.data.toList v1) (fun c5=>Option.bind (gd (!(decide ((c5.toNat:Int)<48))) (idx s.data.toList v1)) (fun c6=>cond ((decide ((c5.toNat:Int)<48))||(decide (57<(c6.toNat:Int)))) (some (.inr (.inr 0))) (some (.inl (IntKind.i64.wrap (v1+1))))))) (some (.inr (.inl ()))))
  (fun v:Int=>0≤v∧v≤s.size∧∀ j,(h:j<s.data.toList.length)→(j:Int)<v→jg (s.data.toList[j]).toNat=true) (fun v=>(s.size:Int).toNat - v.toNat) (fun t:Unit⊕Int=>(t=.inl ()∧kK s=true)∨(t=.inr 0∧kK s=false))
  (fun v hv=>by
   obtain ⟨a1,a2,a3⟩:=hv
   by_cases hl:v<(s.size:Int)
   ·rw [det hl];simp only [cQ]
    obtain ⟨k,rfl⟩:∃ k:Nat,v=(k:Int):=⟨v.toNat,by omega⟩
    have hk:k<s.data.toList.length:=by omega
    rw [bo (bp hk)]
    by_cases hd:jg (s.data.toList[k]).toNat=true
    ·left
     have hd2:=hd
     simp only [jg,decide_eq_true_eq] at hd2
     rw [bH (show ¬ ((s.data.toList[k].toNat:Nat):Int)<48 by omega)]
     simp only [Bool.not_false,de,Bool.false_or]
     rw [bo (bp hk),bH (show ¬ 57<((s.data.toList[k].toNat:Nat):Int) by omega)]
     simp only [dn]
     rw [bw (by omega) (by omega)]
     refine ⟨_,rfl,⟨by omega,by omega,fun j h1 h2=>?_⟩,by omega⟩
     by_cases hj:j=k
     ·subst hj;exact hd
     exact a3 j h1 (by omega)
    right
    refine ⟨.inr 0,?_,.inr ⟨rfl,?_⟩⟩
    ·have hd2:=hd
     simp only [jg,decide_eq_true_eq] at hd2
     by_cases h48:((s.data.toList[k].toNat:Nat):Int)<48
     ·rw [det h48];rfl
     rw [bH h48]
     simp only [Bool.not_false,de,Bool.false_or]
     rw [bo (bp hk),det (show 57<((s.data.toList[k].toNat:Nat):Int) by omega)];rfl
    cases ha:kK s
    ·rfl
    exfalso;apply hd
    unfold kK bl at ha
    exact List.all_eq_true.1 ha _ (List.getElem_mem hk)
   right
   rw [bH hl]
   refine ⟨.inl (),rfl,.inl ⟨rfl,?_⟩⟩
   unfold kK bl
   rw [List.all_eq_true]
   intro c hc
   obtain ⟨j,hj,rfl⟩:=List.getElem_of_mem hc
   exact a3 j hj (by omega))
  FUEL 0 ⟨by omega,by omega,fun j _ h=>by omega⟩ (gH (by omega))
 rw [bo h5]
 unfold gA
 rcases h6 with ⟨rfl,h⟩ | ⟨rfl,h⟩
 ·simp only [h,and_true]
  by_cases h8:(8:Int)<(s.size:Int)
  ·rw [det h8,if_neg (by omega)];rfl
  rw [bH h8]
  simp only [Bool.false_or]
  have e:Int.tmod (s.size:Int) 2=(s.size:Int) % 2:=Int.tmod_eq_emod_of_nonneg (by omega)
  rw [e]
  by_cases hp:(s.size:Int) % 2=1
  ·rw [hp,if_neg (by omega)];rfl
  have:((s.size:Int) % 2 == 1)=false:=by simpa using hp
  rw [this]
  by_cases h0:s.size=0
  ·rw [if_neg (by omega),h0];rfl
  rw [if_pos (by omega)];rfl
 simp [h]
theorem xj (m:Zj) (h:m.Code.size≤140737488355328):∃ r,cB m=some r∧kH m=some r:=by
 have e1:dh m.Code=some (gA m.Code):=rfl
 have e:cB m=kH m:=by
  unfold cB kH
  rw [e1,qr _ h,lw,lc]
 rw [e]
 unfold kH
 rw [bo (qr _ h)]
 have:∃ b,gd (!(gA m.Code != 8)) (dP m.Origin)=some b:=by rw [lc];cases (!(gA m.Code != 8)) <;> exact ⟨_,rfl⟩
 obtain ⟨b,hb⟩:=this
 rw [bo hb]
 cases ((gA m.Code != 8)||(!b))
 ·simp only [dn]
  exact cond_ex _ _ _
 exact ⟨_,rfl,rfl⟩
structure Good (m:Zj):Prop where
 code:∃ l,m.Code=strOfNums l∧l.length=8∧Digs l
 orig:kR m.Origin=true
 comp:0≤m.Company∧m.Company≤999
 day:0≤m.Day∧m.Day≤36524
 quant:0≤m.Quantity∧m.Quantity≤1000000000
 value:0≤m.Value∧m.Value≤1000000000000
 grant:0≤m.Granted∧m.Granted≤m.Quantity
theorem Good.size {m:Zj} (h:Good m):m.Code.size=8:=by
 obtain ⟨l,e,h1,_⟩:=h.code
 rw [e];simp [strOfNums,ByteArray.size,h1]
theorem yy {k:Int} (h1:0≤k) (h2:k<6) {l:List ByteArray} (hl:da=some l):∃ s,idx l k=some s∧kR s=true:=by
 have hl:=Option.some.inj hl;subst hl
 obtain ⟨n,rfl⟩:∃ n:Nat,k=(n:Int):=⟨k.toNat,by omega⟩
 match n,(show n<6 by omega) with
 | 0,_=>exact ⟨_,rfl,rfl⟩
 | 1,_=>exact ⟨_,rfl,rfl⟩
 | 2,_=>exact ⟨_,rfl,rfl⟩
 | 3,_=>exact ⟨_,rfl,rfl⟩
 | 4,_=>exact ⟨_,rfl,rfl⟩
 | 5,_=>exact ⟨_,rfl,rfl⟩
theorem run_inl {α A R:Type} {f:Nat→α→A→A⊕R} (Q:α→Prop) (hf:∀ k x a a',f k x a=.inl a'→Q x):∀ (l:List α) (k:Nat) (a a':A),run f l k a=.inl a'→∀ x∈l,Q x:=by
 intro l
 induction l with
 | nil=>intro k a a' _ x hx;cases hx
 | cons y ys ih =>
  intro k a a' h x hx
  rw [dK] at h
  cases hfy:f k y a with
  | inl b=>rw [hfy] at h;cases hx with
   | head=>exact hf _ _ _ _ hfy
   | tail _ hx=>exact ih _ _ _ h x hx
  | inr r=>rw [hfy] at h;change Sum.inr r=_ at h;cases h
def yz (l:List ByteArray) (k:Nat) (x:ByteArray):Bool := !kR x||(decide (0<k) && !Op.bytesLess (l.getD (k - 1) x).toList x.toList)
def sY (l:List ByteArray):Unit⊕Unit:=run (fun k x _=>if yz l k x then .inr () else .inl ()) l 0 ()
theorem vz (l:List ByteArray) (hl:l.length≤4611686018427387904):cN l=some (match sY l with | .inl _=>true | .inr _=>false):=by
 unfold cN
 obtain ⟨e,_⟩:=eC (T:=Unit⊕Bool) hl (body:=fun v1=>cond (decide (v1<(l.length:Int))) (Option.bind (idx l v1) (fun m5=>Option.bind (cg m5) (fun x6=>Option.bind (gd ((!(!x6))&&(decide (0<v1))) (idx l (IntKind.i64.wrap (v1 - 1)))) (fun m7=>cond ((!x6)||((decide (0<v1))&&(Op.bytesLess m5.toList m7.toList||decide (m5=m7)))) (some (.inr (.inr false))) (some (.inl (IntKind.i64.wrap (v1+1)))))))) (some (.inr (.inl ()))))
  (fun i (_:Unit)=>i) (fun k x _=>if yz l k x then .inr () else .inl ()) (fun _=>.inl ()) (fun (_:Unit)=>.inr false) (fun _ _=>True) (by
   intro k hk a _
   refine ⟨?_,fun _ _=>trivial⟩
   try dsimp only
   rw [tp hk,cQ,bo (bp hk),lw,gV hk hl,cJ]
   unfold yz
   cases hc:kR l[k]
   ·rfl
   by_cases h0:0<k
   ·rw [det (show (0:Int)<(k:Int) by omega),det h0]
    simp only [Bool.not_true,Bool.not_false,Bool.true_and,Bool.false_or]
    rw [de,bo (oV h0 hk hl),mr (by omega),str_tot]
    cases Op.bytesLess (l[k-1]'(by omega)).toList l[k].toList <;> rfl
   rw [bH (show ¬ (0:Int)<(k:Int) by omega),bH h0];rfl)
  (by intro a _;(try dsimp only);rw [kO];rfl) () trivial
 rw [bo e]
 unfold sY
 cases run (fun k x _=>if yz l k x then Sum.inr () else Sum.inl ()) l 0 () <;> rfl
def vA (l:List ByteArray) (s:ByteArray):Bool:=l.any fun x=>decide (s=x)
theorem pC (l:List ByteArray) (s:ByteArray):vA l s=true↔s∈l:=by
 unfold vA;simp
theorem xk (l:List ByteArray) (s:ByteArray) (hl:l.length≤4611686018427387904):cr l s=some (vA l s)∧qd l s=some (vA l s):=by
 have hrun:∀ (g:Nat→Int) (xs:List ByteArray) (k:Nat),(∃ j,run (fun k x (_:Unit)=>if s=x then Sum.inr (g k) else Sum.inl ()) xs k ()=.inr (g j)∧s∈xs)∨(run (fun k x (_:Unit)=>if s=x then Sum.inr (g k) else Sum.inl ()) xs k ()=.inl ()∧s ∉ xs):=by
  intro g xs
  induction xs with
  | nil=>intro k;right;exact ⟨rfl,by simp⟩
  | cons y ys ih =>
   intro k
   rw [dK]
   by_cases h:s=y
   ·simp only [if_pos h];left;exact ⟨k,rfl,by simp [h]⟩
   simp only [if_neg h]
   rcases ih (k+1) with ⟨j,h1,h2⟩ | ⟨h1,h2⟩
   ·left;exact ⟨j,h1,by simp [h2]⟩
   right;exact ⟨h1,by simp [h,h2]⟩
 constructor
 ·unfold cr dA
  obtain ⟨e,_⟩:=eC (T:=Unit⊕Int) hl (body:=fun v1=>cond (decide (v1<(l.length:Int))) (Option.bind (idx l v1) (fun m5=>cond (decide (s=m5)) (some (.inr (.inr v1))) (some (.inl (IntKind.i64.wrap (v1+1)))))) (some (.inr (.inl ()))))
   (fun i (_:Unit)=>i) (fun k x _=>if s=x then .inr (k:Int) else .inl ()) (fun _=>.inl ()) (fun (r:Int)=>.inr r) (fun _ _=>True) (by
    intro k hk a _
    refine ⟨?_,fun _ _=>trivial⟩
    try dsimp only
    rw [tp hk,cQ,bo (bp hk),gV hk hl]
    by_cases h:s=l[k]
    ·rw [det h,if_pos h];rfl
    rw [bH h,if_neg h];rfl)
   (by intro a _;(try dsimp only);rw [kO];rfl) () trivial
  rw [bo e]
  rcases hrun (fun k=>(k:Int)) l 0 with ⟨j,h1,h2⟩ | ⟨h1,h2⟩
  ·rw [h1,(pC l s).2 h2]
   show some (decide ((0:Int)≤(j:Int)))=_
   rw [det (by omega)]
  rw [h1,show vA l s=false from Bool.eq_false_iff.2 (fun h=>h2 ((pC l s).1 h))];rfl
 unfold qd
 obtain ⟨e,_⟩:=eC (T:=Unit⊕Bool) hl (body:=fun v1=>cond (decide (v1<(l.length:Int))) (Option.bind (idx l v1) (fun m5=>cond (decide (m5=s)) (some (.inr (.inr true))) (some (.inl (IntKind.i64.wrap (v1+1)))))) (some (.inr (.inl ()))))
  (fun i (_:Unit)=>i) (fun k x _=>if s=x then .inr (k:Int) else .inl ()) (fun _=>.inl ()) (fun (r:Int)=>.inr true) (fun _ _=>True) (by
   intro k hk a _
   refine ⟨?_,fun _ _=>trivial⟩
   try dsimp only
   rw [tp hk,cQ,bo (bp hk),gV hk hl]
   by_cases h:s=l[k]
   ·rw [det h.symm,if_pos h];rfl
   rw [bH (fun h'=>h h'.symm),if_neg h];rfl)
  (by intro a _;(try dsimp only);rw [kO];rfl) () trivial
 rw [bo e]
 rcases hrun (fun k=>(k:Int)) l 0 with ⟨j,h1,h2⟩ | ⟨h1,h2⟩
 ·rw [h1,(pC l s).2 h2];try rfl
 rw [h1,show vA l s=false from Bool.eq_false_iff.2 (fun h=>h2 ((pC l s).1 h))];rfl
structure MOK (m:Zb):Prop where
 id0:1≤m.ID
 id1:m.ID≤1000000
 k0:1≤m.Kind
 k1:m.Kind≤6
 c0:0≤m.Company
 pre:m.Prefix.size≤8
 orig:m.Origins.length≤20
 reg : -1≤m.Registered
 duty:cn m.Duty=some 0
def pfx (s p:ByteArray):Bool:=decide ((p.size:Int)≤(s.size:Int))&&decide (s.extract 0 p.size=p)
theorem C0 (s p:ByteArray):j7 s p=some (pfx s p):=by
 unfold j7 pfx
 by_cases h:(p.size:Int)≤(s.size:Int)
 ·rw [det h,de]
  have e:mn s 0 (p.size:Int)=some (s.extract 0 p.size):=by unfold mn;rw [if_pos (by omega)];rfl
  rw [bo e]
 rw [bH h];rfl
theorem vB (s p:ByteArray):fc s p=some (pfx s p):=by
 unfold fc
 rw [show eN s p=j7 s p from rfl,C0];rfl
def cov (m:Zb) (code origin:ByteArray) (company day:Int):Bool:=(((((decide (m.From≤day))&&(decide (day<m.To)))||(((decide (0≤m.Registered))&&(decide (m.Registered≤day)))&&(decide (day<m.From))))&&pfx code m.Prefix)&&(((m.Origins.length:Int) == 0)||vA m.Origins origin))&&((m.Company == 0)||(m.Company == company))
theorem yA (m:Zb) (hm:m.Origins.length≤4611686018427387904) (code origin:ByteArray) (company day:Int):i9 m code origin company day=some (cov m code origin company day):=by
 unfold i9 nQ cov
 rw [cJ,C0,(xk m.Origins origin hm).2]
 generalize (((decide (m.From≤day))&&(decide (day<m.To)))||(((decide (0≤m.Registered))&&(decide (m.Registered≤day)))&&(decide (day<m.From))))=a
 generalize pfx code m.Prefix=b
 generalize ((m.Origins.length:Int) == 0)=c
 generalize vA m.Origins origin=d
 generalize ((m.Company == 0)||(m.Company == company))=e
 cases a <;> cases b <;> cases c <;> cases d <;> cases e <;> rfl
theorem xl (m:Zb) (hm:m.Origins.length≤4611686018427387904) (hr : -1≤m.Registered) (code origin:ByteArray) (company day:Int):dB m code origin company day=some (cov m code origin company day):=by
 unfold dB ie cov
 have:(m.Registered != (-1))=decide (0≤m.Registered):=by
  by_cases h:m.Registered = -1
  ·rw [h];rfl
  rw [det (by omega)];simp [h]
 rw [cJ,vB,(xk m.Origins origin hm).1,this]
 generalize (((decide (m.From≤day))&&(decide (day<m.To)))||(((decide (0≤m.Registered))&&(decide (m.Registered≤day)))&&(decide (day<m.From))))=a
 generalize pfx code m.Prefix=b
 generalize ((m.Origins.length:Int) == 0)=c
 generalize vA m.Origins origin=d
 generalize ((m.Company == 0)||(m.Company == company))=e
 cases a <;> cases b <;> cases c <;> cases d <;> cases e <;> rfl
def nf (m:Zb):Int:=(((m.Prefix.size:Int)*2+(if m.Company=0 then 0 else 1))*100+50 - (if m.Origins.length=0 then 21 else (m.Origins.length:Int)))*10000000+m.ID
theorem zT {m:Zb} (h:MOK m):gM m=some (nf m):=by
 obtain ⟨a1,a2,a3,a4,a5,a6,a7,a8,a9⟩:=h
 unfold gM nf
 have e1:(cond (decide (0<(m.Origins.length:Int))) (some (m.Origins.length:Int)) (some 21))=some (if m.Origins.length=0 then 21 else (m.Origins.length:Int)):=by
  by_cases h:m.Origins.length=0
  ·rw [h];rfl
  rw [det (by omega),if_neg h];rfl
 have e2:(cond (m.Company != 0) (some (1:Int)) (some 0))=some (if m.Company=0 then 0 else 1):=by
  by_cases h:m.Company=0
  ·rw [h];rfl
  rw [if_neg h,show (m.Company != 0)=true by simp [h]];rfl
 rw [bo e1,bo e2]
 have b1:(0:Int)≤(if m.Origins.length=0 then 21 else (m.Origins.length:Int))∧(if m.Origins.length=0 then 21 else (m.Origins.length:Int))≤21:=by split <;> omega
 have b2:(0:Int)≤(if m.Company=0 then 0 else 1)∧(if m.Company=0 then (0:Int) else 1)≤1:=by split <;> omega
 generalize (if m.Origins.length=0 then 21 else (m.Origins.length:Int))=n at *
 generalize (if m.Company=0 then (0:Int) else 1)=c at *
 unfold lb
 have hz:(m.Prefix.size:Int)≤8:=by omega
 have hz0:0≤(m.Prefix.size:Int):=by omega
 generalize (m.Prefix.size:Int)=z at *
 rw [bw (r:=z*2) (by omega) (by omega),bw (r:=z*2+c) (by omega) (by omega),bw (r:=(z*2+c)*100) (by omega) (by omega),bw (r:=(z*2+c)*100+50) (by omega) (by omega),bw (r:=(z*2+c)*100+50 - n) (by omega) (by omega),bw (r:=((z*2+c)*100+50 - n)*10000000) (by omega) (by omega),bw (by omega) (by omega)]
theorem xm {x y:Zb} (hx:MOK x) (hy:MOK y):cW x y=some (decide (nf y<nf x)):=by
 obtain ⟨a1,a2,a3,a4,a5,a6,a7,a8,a9⟩:=hx
 obtain ⟨b1,b2,b3,b4,b5,b6,b7,b8,b9⟩:=hy
 unfold cW nf
 have nx:(x.Origins.length=0∧(if x.Origins.length=0 then 21 else (x.Origins.length:Int))=21)∨(x.Origins.length≠0∧(if x.Origins.length=0 then 21 else (x.Origins.length:Int))=(x.Origins.length:Int)):=by split <;> omega
 have ny:(y.Origins.length=0∧(if y.Origins.length=0 then 21 else (y.Origins.length:Int))=21)∨(y.Origins.length≠0∧(if y.Origins.length=0 then 21 else (y.Origins.length:Int))=(y.Origins.length:Int)):=by split <;> omega
 have cx:(x.Company=0∧(if x.Company=0 then (0:Int) else 1)=0)∨(x.Company≠0∧(if x.Company=0 then (0:Int) else 1)=1):=by split <;> omega
 have cy:(y.Company=0∧(if y.Company=0 then (0:Int) else 1)=0)∨(y.Company≠0∧(if y.Company=0 then (0:Int) else 1)=1):=by split <;> omega
 generalize (if x.Origins.length=0 then 21 else (x.Origins.length:Int))=ox at *
 generalize (if y.Origins.length=0 then 21 else (y.Origins.length:Int))=oy at *
 generalize (if x.Company=0 then (0:Int) else 1)=px at *
 generalize (if y.Company=0 then (0:Int) else 1)=py at *
 have dx:(x.Company != 0)=decide (px=1):=by
  rw [Bool.eq_iff_iff];simp only [bne_iff_ne,decide_eq_true_eq];omega
 have dy:(y.Company != 0)=decide (py=1):=by
  rw [Bool.eq_iff_iff];simp only [bne_iff_ne,decide_eq_true_eq];omega
 rw [dx,dy]
 by_cases h1:(x.Prefix.size:Int)=(y.Prefix.size:Int)
 ·rw [show ((x.Prefix.size:Int) != (y.Prefix.size:Int))=false by rw [h1];simp,dn]
  by_cases h2:px=py
  ·rw [h2,bne_self_eq_false,dn]
   by_cases h3:(x.Origins.length:Int)=(y.Origins.length:Int)
   ·rw [show ((x.Origins.length:Int) != (y.Origins.length:Int))=false by rw [h3];simp,dn]
    congr 1
    apply decide_eq_decide.2
    omega
   rw [show ((x.Origins.length:Int) != (y.Origins.length:Int))=true from bne_iff_ne.2 h3,cQ]
   congr 1
   rw [Bool.eq_iff_iff];simp only [Bool.or_eq_true,Bool.and_eq_true,beq_iff_eq,bne_iff_ne,decide_eq_true_eq];omega
  have:(decide (px=1) != decide (py=1))=true:=by
   rw [bne_iff_ne];intro h
   have:=decide_eq_decide.1 h;omega
  rw [this,cQ]
  congr 1
  apply decide_eq_decide.2
  omega
 rw [show ((x.Prefix.size:Int) != (y.Prefix.size:Int))=true from bne_iff_ne.2 h1,cQ]
 congr 1
 apply decide_eq_decide.2
 omega
theorem xn {R:Type} (l:List ByteArray) (hl:l.length≤4611686018427387904) (k:Unit⊕(Int×Bool)→Option R):Option.bind (aV (S:=Int) (T:=(Unit)⊕(_)) (fun v6=>cond (decide (v6<(l.length:Int))) (Option.bind (idx l v6) (fun m10=>Option.bind (dP m10) (fun x11=>Option.bind (gd ((!(!x11))&&(decide (0<v6))) (idx l (IntKind.i64.wrap (v6 - 1)))) (fun m12=>Option.bind (gd ((!(!x11))&&(decide (0<v6))) (idx l v6)) (fun m13=>cond ((!x11)||((decide (0<v6))&&(!Op.bytesLess m12.toList m13.toList))) (some (.inr (.inr (1,false)))) (some (.inl (IntKind.i64.wrap (v6+1))))))))) (some (.inr (.inl ())))) FUEL 0) k=k (match sY l with | .inl _=>.inl () | .inr _=>.inr (1,false)):=by
 obtain ⟨e,_⟩:=eC (T:=Unit⊕(Int×Bool)) hl (body:=fun v6=>cond (decide (v6<(l.length:Int))) (Option.bind (idx l v6) (fun m10=>Option.bind (dP m10) (fun x11=>Option.bind (gd ((!(!x11))&&(decide (0<v6))) (idx l (IntKind.i64.wrap (v6 - 1)))) (fun m12=>Option.bind (gd ((!(!x11))&&(decide (0<v6))) (idx l v6)) (fun m13=>cond ((!x11)||((decide (0<v6))&&(!Op.bytesLess m12.toList m13.toList))) (some (.inr (.inr (1,false)))) (some (.inl (IntKind.i64.wrap (v6+1))))))))) (some (.inr (.inl ()))))
  (fun i (_:Unit)=>i) (fun k x _=>if yz l k x then .inr () else .inl ()) (fun _=>.inl ()) (fun (_:Unit)=>.inr (1,false)) (fun _ _=>True) (by
   intro k hk a _
   refine ⟨?_,fun _ _=>trivial⟩
   rw [tp hk,cQ,bo (bp hk),lc,gV hk hl,cJ]
   unfold yz
   cases hc:kR l[k]
   ·rfl
   by_cases h0:0<k
   ·rw [det (show (0:Int)<(k:Int) by omega),det h0]
    simp only [Bool.not_true,Bool.not_false,Bool.true_and,Bool.false_or]
    rw [de,bo (oV h0 hk hl),de,bo (bp hk),mr (by omega)]
    cases Op.bytesLess (l[k-1]'(by omega)).toList l[k].toList <;> rfl
   rw [bH (show ¬ (0:Int)<(k:Int) by omega),bH h0];rfl)
  (by intro a _;rw [kO];rfl) () trivial
 rw [bo e]
 unfold sY
 cases run (fun k x _=>if yz l k x then Sum.inr () else Sum.inl ()) l 0 () <;> rfl
def yB (m:Zb):Bool:=((((((decide (m.ID<1))||(decide (1000000<m.ID)))||(decide (m.Kind<1)))||(decide (6<m.Kind)))||(decide (m.Company<0)))||(decide (999<m.Company)))
def AY (m:Zb):Bool:=(((((decide (m.From<0))||(decide (m.To≤m.From)))||(decide (36525<m.To)))||(decide (m.Registered<(-1))))||(decide (m.From<m.Registered)))
def rc (m:Zb):Int:=if gA m.Prefix=0 then 1 else if 20<m.Origins.length then 8 else match sY m.Origins with | .inr _=>1 | .inl _=>if AY m then 2 else (cn m.Duty).getD 0
def re (l:List Zb) (k:Nat) (m:Zb):Int:=if yB m then 2 else if 0<k∧m.ID≤(l.getD (k - 1) m).ID then 9 else rc m
theorem yC {s:ByteArray} (h:gA s≠0):s.size≤8:=by
 unfold gA at h;split at h
 ·rename_i h;omega
 exact absurd rfl h
theorem mErr_ok {l:List Zb} {k:Nat} {m:Zb} (h:re l k m=0):MOK m:=by
 unfold re at h
 split at h
 ·cases h
 rename_i hf
 split at h
 ·cases h
 unfold rc at h
 split at h
 ·cases h
 rename_i hl
 split at h
 ·cases h
 rename_i ho
 split at h
 ·cases h
 split at h
 ·cases h
 rename_i hd
 simp [yB] at hf
 simp [AY] at hd
 obtain ⟨e,e1,e2,_⟩:=mB m.Duty
 rw [e1] at h
 have:e=0:=h
 subst this
 exact ⟨by omega,by omega,by omega,by omega,by omega,yC hl,by omega,by omega,e1⟩
theorem one_ok (m:Zb) (hp:m.Prefix.size≤140737488355328) (hf:yB m=false):lR m=some (rc m,(rc m == 0)):=by
 unfold lR rc
 rw [show (((((((decide (m.ID<1))||(decide (1000000<m.ID)))||(decide (m.Kind<1)))||(decide (6<m.Kind)))||(decide (m.Company<0)))||(decide (999<m.Company))):Bool)=false from hf,dn,bo (qr _ hp)]
 by_cases h1:gA m.Prefix=0
 ·rw [if_pos h1,h1];rfl
 rw [if_neg h1,show (gA m.Prefix == 0)=false by simp [h1],dn]
 by_cases h2:20<m.Origins.length
 ·rw [if_pos h2,det (by omega)];rfl
 rw [if_neg h2,bH (by omega),dn,xn _ (by omega)]
 cases sY m.Origins with
 | inr u=>rfl
 | inl u =>
  show cond (((((decide (m.From<0))||(decide (m.To≤m.From)))||(decide (36525<m.To)))||(decide (m.Registered<(-1))))||(decide (m.From<m.Registered))) _ _=_
  rw [show (((((decide (m.From<0))||(decide (m.To≤m.From)))||(decide (36525<m.To)))||(decide (m.Registered<(-1))))||(decide (m.From<m.Registered)))=AY m from rfl]
  dsimp only
  cases AY m
  ·obtain ⟨e,e1,_⟩:=mB m.Duty
   rw [dn,zR,e1];rfl
  rfl
theorem run_inr {α A R:Type} {f:Nat→α→A→A⊕R} (Q:R→Prop) (hf:∀ k x a r,f k x a=.inr r→Q r):∀ (l:List α) (k:Nat) (a:A) (r:R),run f l k a=.inr r→Q r:=by
 intro l
 induction l with
 | nil=>intro k a r h;cases h
 | cons y ys ih =>
  intro k a r h
  rw [dK] at h
  cases hfy:f k y a with
  | inl b=>rw [hfy] at h;exact ih _ _ _ h
  | inr r'=>rw [hfy] at h;change Sum.inr r'=Sum.inr r at h;injection h with h;exact h ▸ hf _ _ _ _ hfy
def mF (l:List Zb) (k:Nat) (m:Zb) (_:Unit):Unit⊕Int:=if re l k m=0 then .inl () else .inr (re l k m)
def ld (l:List Zb):Int:=if 300<l.length then 8 else match run (mF l) l 0 () with | .inl _=>0 | .inr r=>r
theorem xo {l:List Zb} (h:ld l=0):l.length≤300∧∀ m∈l,MOK m:=by
 unfold ld at h
 split at h
 ·cases h
 refine ⟨by omega,?_⟩
 cases hr:run (mF l) l 0 () with
 | inl a =>
  refine run_inl MOK ?_ l 0 () a hr
  intro k x a a' hx
  unfold mF at hx;split at hx
  ·exact mErr_ok (by assumption)
  ·cases hx
 | inr r =>
  rw [hr] at h
  have:r≠0:=run_inr (fun r=>r≠0) (by
   intro k x a r hx
   unfold mF at hx;split at hx
   ·cases hx
   injection hx with hx;rw [← hx];assumption) l 0 () r hr
  exact absurd h this
theorem tD (l:List Zb):fE l=some (ld l):=by
 unfold fE ld
 by_cases h:300<l.length
 ·rw [det (by omega),if_pos h];rfl
 rw [bH (by omega),if_neg h,dn]
 have hl:l.length≤4611686018427387904:=by omega
 obtain ⟨e,_⟩:=eC (T:=Unit⊕Int) hl (body:=fun v2=>cond (decide (v2<(l.length:Int))) (Option.bind (idx l v2) (fun m6=>cond ((((((decide (m6.ID<1))||(decide (1000000<m6.ID)))||(decide (m6.Kind<1)))||(decide (6<m6.Kind)))||(decide (m6.Company<0)))||(decide (999<m6.Company))) (some (.inr (.inr 2))) (Option.bind (gd (decide (0<v2)) (idx l (IntKind.i64.wrap (v2 - 1)))) (fun m9=>cond ((decide (0<v2))&&(decide (m6.ID≤m9.ID))) (some (.inr (.inr 9))) (Option.bind (dh m6.Prefix) (fun x11=>cond (x11 == 0) (some (.inr (.inr 1))) (cond (decide (20<(m6.Origins.length:Int))) (some (.inr (.inr 8))) (Option.bind (cN m6.Origins) (fun x14=>cond (!x14) (some (.inr (.inr 1))) (cond (((((decide (m6.From<0))||(decide (m6.To≤m6.From)))||(decide (36525<m6.To)))||(decide (m6.Registered<(-1))))||(decide (m6.From<m6.Registered))) (some (.inr (.inr 2))) (Option.bind (cn m6.Duty) (fun x17=>cond (x17 != 0) (some (.inr (.inr x17))) (some (.inl (IntKind.i64.wrap (v2+1)))))))))))))))) (some (.inr (.inl ()))))
  (fun i (_:Unit)=>i) (mF l) (fun _=>.inl ()) (fun r=>.inr r) (fun _ _=>True) (by
   intro k hk a _
   refine ⟨?_,fun _ _=>trivial⟩
   rw [tp hk,cQ,bo (bp hk),gV hk hl]
   have fin:∀ z:Option (Int⊕(Unit⊕Int)),z=some (if re l k l[k]=0 then Sum.inl ((k+1:Nat):Int) else Sum.inr (Sum.inr (re l k l[k])))→z=some (outc (fun _=>((k+1:Nat):Int)) (fun r=>Sum.inr r) (mF l k l[k] a)):=by
    intro z hz
    rw [hz];unfold mF
    by_cases h:re l k l[k]=0
    ·rw [if_pos h,if_pos h];rfl
    rw [if_neg h,if_neg h];rfl
   refine fin _ ?_
   unfold re
   rw [show (((((((decide (l[k].ID<1))||(decide (1000000<l[k].ID)))||(decide (l[k].Kind<1)))||(decide (6<l[k].Kind)))||(decide (l[k].Company<0)))||(decide (999<l[k].Company))):Bool)=yB l[k] from rfl]
   cases hf:yB l[k]
   case true=>rfl
   rw [dn]
   have hrest:∀ c:Bool,(c=true↔0<k∧l[k].ID≤(l.getD (k - 1) l[k]).ID)→cond c (some (Sum.inr (Sum.inr 9)):Option (Int⊕(Unit⊕Int))) (Option.bind (dh l[k].Prefix) (fun x11=>cond (x11 == 0) (some (.inr (.inr 1))) (cond (decide (20<(l[k].Origins.length:Int))) (some (.inr (.inr 8))) (Option.bind (cN l[k].Origins) (fun x14=>cond (!x14) (some (.inr (.inr 1))) (cond (((((decide (l[k].From<0))||(decide (l[k].To≤l[k].From)))||(decide (36525<l[k].To)))||(decide (l[k].Registered<(-1))))||(decide (l[k].From<l[k].Registered))) (some (.inr (.inr 2))) (Option.bind (cn l[k].Duty) (fun x17=>cond (x17 != 0) (some (.inr (.inr x17))) (some (.inl ((k+1:Nat):Int)))))))))))=some (if (if false=true then 2 else if 0<k∧l[k].ID≤(l.getD (k - 1) l[k]).ID then 9 else rc l[k])=0 then Sum.inl ((k+1:Nat):Int) else Sum.inr (Sum.inr (if false=true then 2 else if 0<k∧l[k].ID≤(l.getD (k - 1) l[k]).ID then 9 else rc l[k]))):=by
    intro c hc
    rw [if_neg (show ¬ false=true by decide)]
    cases c
    case true=>rw [if_pos (hc.1 rfl)];rfl
    have hn:¬ (0<k∧l[k].ID≤(l.getD (k - 1) l[k]).ID):=fun h=>by have:=hc.2 h;cases this
    rw [if_neg hn,dn]
    show cond (gA l[k].Prefix == 0) _ _=_
    unfold rc
    by_cases h1:gA l[k].Prefix=0
    ·rw [if_pos h1,h1];rfl
    rw [if_neg h1,show (gA l[k].Prefix == 0)=false by simp [h1],dn]
    by_cases h2:20<l[k].Origins.length
    ·rw [if_pos h2,det (by omega)];rfl
    rw [if_neg h2,bH (by omega),dn,vz _ (by omega)]
    cases sY l[k].Origins with
    | inr u=>rfl
    | inl u =>
     show cond (((((decide (l[k].From<0))||(decide (l[k].To≤l[k].From)))||(decide (36525<l[k].To)))||(decide (l[k].Registered<(-1))))||(decide (l[k].From<l[k].Registered))) _ _=_
     rw [show (((((decide (l[k].From<0))||(decide (l[k].To≤l[k].From)))||(decide (36525<l[k].To)))||(decide (l[k].Registered<(-1))))||(decide (l[k].From<l[k].Registered)))=AY l[k] from rfl]
     dsimp only
     cases AY l[k]
     ·obtain ⟨e,e1,_⟩:=mB l[k].Duty
      rw [dn,e1,cJ]
      by_cases h3:e=0
      ·subst h3;rfl
      rw [show (e != 0)=true by simp [h3]]
      show _=some (if e=0 then Sum.inl ((k+1:Nat):Int) else Sum.inr (Sum.inr e))
      rw [if_neg h3];rfl
     rfl
   by_cases h0:0<k
   ·rw [det (show (0:Int)<(k:Int) by omega),de,bo (oV h0 hk hl),Bool.true_and]
    refine hrest _ ?_
    rw [mr (by omega)];simp [h0]
   rw [bH (show ¬ (0:Int)<(k:Int) by omega),kz,cJ,Bool.false_and]
   exact hrest false (by simp [h0]))
  (by intro a _;rw [kO];rfl) () trivial
 rw [bo e]
 cases run (mF l) l 0 () <;> rfl
theorem vC (l:List Zb) (hp:∀ m∈l,m.Prefix.size≤140737488355328):kG l=some (ld l):=by
 unfold kG ld
 by_cases h:300<l.length
 ·rw [det (by omega),if_pos h];rfl
 rw [bH (by omega),if_neg h,dn]
 have hl:l.length≤4611686018427387904:=by omega
 obtain ⟨e,_⟩:=eC (T:=Unit⊕Int) hl (body:=fun v2=>cond (decide (v2<(l.length:Int))) (Option.bind (idx l v2) (fun m6=>cond ((((((decide (m6.ID<1))||(decide (1000000<m6.ID)))||(decide (m6.Kind<1)))||(decide (6<m6.Kind)))||(decide (m6.Company<0)))||(decide (999<m6.Company))) (some (.inr (.inr 2))) (Option.bind (gd (decide (0<v2)) (idx l (IntKind.i64.wrap (v2 - 1)))) (fun m9=>cond ((decide (0<v2))&&(decide (m6.ID≤m9.ID))) (some (.inr (.inr 9))) (Option.bind (lR m6) (fun x11=>cond (x11.1 != 0) (some (.inr (.inr x11.1))) (some (.inl (IntKind.i64.wrap (v2+1)))))))))) (some (.inr (.inl ()))))
  (fun i (_:Unit)=>i) (mF l) (fun _=>.inl ()) (fun r=>.inr r) (fun _ _=>True) (by
   intro k hk a _
   refine ⟨?_,fun _ _=>trivial⟩
   rw [tp hk,cQ,bo (bp hk),gV hk hl]
   have fin:∀ z:Option (Int⊕(Unit⊕Int)),z=some (if re l k l[k]=0 then Sum.inl ((k+1:Nat):Int) else Sum.inr (Sum.inr (re l k l[k])))→z=some (outc (fun _=>((k+1:Nat):Int)) (fun r=>Sum.inr r) (mF l k l[k] a)):=by
    intro z hz
    rw [hz];unfold mF
    by_cases h:re l k l[k]=0
    ·rw [if_pos h,if_pos h];rfl
    rw [if_neg h,if_neg h];rfl
   refine fin _ ?_
   unfold re
   rw [show (((((((decide (l[k].ID<1))||(decide (1000000<l[k].ID)))||(decide (l[k].Kind<1)))||(decide (6<l[k].Kind)))||(decide (l[k].Company<0)))||(decide (999<l[k].Company))):Bool)=yB l[k] from rfl]
   cases hf:yB l[k]
   case true=>rfl
   rw [dn,if_neg (show ¬ false=true by decide)]
   have hrest:∀ c:Bool,(c=true↔0<k∧l[k].ID≤(l.getD (k - 1) l[k]).ID)→cond c (some (Sum.inr (Sum.inr 9)):Option (Int⊕(Unit⊕Int))) (Option.bind (lR l[k]) (fun x11=>cond (x11.1 != 0) (some (.inr (.inr x11.1))) (some (.inl ((k+1:Nat):Int)))))=some (if (if 0<k∧l[k].ID≤(l.getD (k - 1) l[k]).ID then 9 else rc l[k])=0 then Sum.inl ((k+1:Nat):Int) else Sum.inr (Sum.inr (if 0<k∧l[k].ID≤(l.getD (k - 1) l[k]).ID then 9 else rc l[k]))):=by
    intro c hc
    cases c
    case true=>rw [if_pos (hc.1 rfl)];rfl
    have hn:¬ (0<k∧l[k].ID≤(l.getD (k - 1) l[k]).ID):=fun h=>by have:=hc.2 h;cases this
    rw [if_neg hn,dn,bo (one_ok _ (hp _ (List.getElem_mem hk)) hf)]
    by_cases h3:rc l[k]=0
    ·rw [if_pos h3,h3];rfl
    rw [if_neg h3,show (rc l[k] != 0)=true by simp [h3]];rfl
   by_cases h0:0<k
   ·rw [det (show (0:Int)<(k:Int) by omega),de,bo (oV h0 hk hl),Bool.true_and]
    refine hrest _ ?_
    rw [mr (by omega)];simp [h0]
   rw [bH (show ¬ (0:Int)<(k:Int) by omega),kz,cJ,Bool.false_and]
   exact hrest false (by simp [h0]))
  (by intro a _;rw [kO];rfl) () trivial
 rw [bo e]
 cases run (mF l) l 0 () <;> rfl
theorem vD {α:Type} {l:List α} {b:Int} (h0:0≤b) (h1:b<l.length):idx l b=some (l[b.toNat]'(by omega)):=by
 obtain ⟨k,rfl⟩:∃ k:Nat,b=(k:Int):=⟨b.toNat,by omega⟩
 exact bp (by omega)
def bS (kind:Int) (code origin:ByteArray) (company day:Int) (m:Zb):Bool:=(m.Kind == kind)&&cov m code origin company day
def sZ (l:List Zb) (c:Zb→Bool) (k:Nat) (m:Zb) (b:Int):Int:=if c m=true∧(b<0∨nf (l.getD b.toNat m)<nf m) then (k:Int) else b
def zU (l:List Zb) (c:Zb→Bool) (k:Nat) (m:Zb) (b:Int):Int⊕Unit:=.inl (sZ l c k m b)
def ng (l:List Zb) (c:Zb→Bool):Int:=tw id (fun _ => -1) (run (zU l c) l 0 (-1))
def lf (l:List Zb) (c:Zb→Bool):Option Zb:=if ng l c<0 then none else l[(ng l c).toNat]?
def BP (l:List Zb) (c:Zb→Bool) (k:Nat) (b:Int):Prop := -1≤b∧b<(k:Int)∧(0≤b→∃ m,l[b.toNat]?=some m∧c m=true)
def zeroM:Zb:=⟨0,0,ByteArray.empty,[],0,0,0,0,(⟨0,0,0,false,0,false,0⟩:Zl)⟩
theorem zV {l:List Zb} {c:Zb→Bool} {k:Nat} (hk:k<l.length) {b:Int} (h:BP l c k b):BP l c (k+1) (sZ l c k l[k] b):=by
 obtain ⟨a1,a2,a3⟩:=h
 unfold sZ
 split
 ·rename_i h
  exact ⟨by omega,by omega,fun _=>⟨l[k],by simp,h.1⟩⟩
 exact ⟨a1,by omega,a3⟩
theorem C1 (l:List Zb) (c:Zb→Bool):∀ (xs:List Zb) (k:Nat) (b:Int),∃ b',run (zU l c) xs k b=.inl b':=by
 intro xs
 induction xs with
 | nil=>intro k b;exact ⟨b,rfl⟩
 | cons x xs ih=>intro k b;exact ih (k+1) _
def ka (acc:List Zb) (o:Option Zb):List Zb:=acc++o.toList
theorem nh (acc:List Zb) (o:Option Zb):(ka acc o).length≤acc.length+1:=by
 unfold ka;cases o <;> simp
section
variable {l:List Zb} (hl:l.length≤300) (hm:∀ m∈l,MOK m) (kind:Int) (code origin:ByteArray) (company day:Int)
include hl hm
theorem zW:aV (S:=Int×Int) (T:=(Int)) (fun (v5,v6)=>cond (decide (v6<(l.length:Int))) (Option.bind (Option.bind (idx l v6) (fun m13=>Option.bind (gd (m13.Kind == kind) (idx l v6)) (fun m14=>Option.bind (gd (m13.Kind == kind) (i9 m14 code origin company day)) (fun x15=>Option.bind (gd (((m13.Kind == kind)&&x15)&&(!(decide (v5<0)))) (idx l v6)) (fun m16=>Option.bind (gd (((m13.Kind == kind)&&x15)&&(!(decide (v5<0)))) (idx l v5)) (fun m17=>Option.bind (gd (((m13.Kind == kind)&&x15)&&(!(decide (v5<0)))) (gM m16)) (fun x18=>Option.bind (gd (((m13.Kind == kind)&&x15)&&(!(decide (v5<0)))) (gM m17)) (fun x19=>cond (((m13.Kind == kind)&&x15)&&((decide (v5<0))||(decide (x19<x18)))) (some v6) (some v5))))))))) (fun v11=>some (.inl (v11,(IntKind.i64.wrap (v6+1)))))) (some (.inr v5))) FUEL ((-1),0)=some (ng l (bS kind code origin company day))∧BP l (bS kind code origin company day) l.length (ng l (bS kind code origin company day)):=by
 have hl':l.length≤4611686018427387904:=by omega
 obtain ⟨e,e2⟩:=eC (S:=Int×Int) (T:=Int) hl' (body:=fun (v5,v6)=>cond (decide (v6<(l.length:Int))) (Option.bind (Option.bind (idx l v6) (fun m13=>Option.bind (gd (m13.Kind == kind) (idx l v6)) (fun m14=>Option.bind (gd (m13.Kind == kind) (i9 m14 code origin company day)) (fun x15=>Option.bind (gd (((m13.Kind == kind)&&x15)&&(!(decide (v5<0)))) (idx l v6)) (fun m16=>Option.bind (gd (((m13.Kind == kind)&&x15)&&(!(decide (v5<0)))) (idx l v5)) (fun m17=>Option.bind (gd (((m13.Kind == kind)&&x15)&&(!(decide (v5<0)))) (gM m16)) (fun x18=>Option.bind (gd (((m13.Kind == kind)&&x15)&&(!(decide (v5<0)))) (gM m17)) (fun x19=>cond (((m13.Kind == kind)&&x15)&&((decide (v5<0))||(decide (x19<x18)))) (some v6) (some v5))))))))) (fun v11=>some (.inl (v11,(IntKind.i64.wrap (v6+1)))))) (some (.inr v5)))
  (fun i b=>(b,i)) (zU l (bS kind code origin company day)) id (fun _ => -1) (BP l (bS kind code origin company day)) (by
   intro k hk b hb
   refine ⟨?_,fun a' h=>by injection h with h;rw [← h];exact zV hk hb⟩
   have mk:=hm _ (List.getElem_mem hk)
   dsimp only
   rw [tp hk,cQ,bo (bp hk),gV hk hl']
   show Option.bind _ _=some (Sum.inl (sZ l (bS kind code origin company day) k l[k] b,((k+1:Nat):Int)))
   unfold sZ bS
   cases hkd:(l[k].Kind == kind)
   ·rfl
   rw [de,bo (bp hk),de,yA _ (by have:=mk.orig;omega)]
   rw [cJ]
   cases hc:cov l[k] code origin company day
   ·rfl
   by_cases hb0:b<0
   ·rw [det hb0,if_pos ⟨rfl,.inl hb0⟩];rfl
   obtain ⟨b1,b2,b3⟩:=hb
   have hbl:b<l.length:=by omega
   have mb:=hm _ (List.getElem_mem (show b.toNat<l.length by omega))
   rw [bH hb0]
   simp only [Bool.not_false,Bool.and_self,Bool.true_and,Bool.false_or]
   rw [de,bo (bp hk),de,bo (vD (by omega) hbl),de,bo (zT mk),de,bo (zT mb),mr (by omega)]
   by_cases hr:nf (l[b.toNat]'(by omega))<nf l[k]
   ·rw [det hr,if_pos ⟨trivial,.inr hr⟩];rfl
   rw [bH hr,if_neg (fun h=>h.2.elim hb0 hr)];rfl)
  (by intro b _;dsimp only;rw [kO];rfl) (-1) ⟨by omega,by omega,fun h=>absurd h (by omega)⟩
 refine ⟨e,?_⟩
 obtain ⟨b',hb'⟩:=C1 l (bS kind code origin company day) l 0 (-1)
 have:=e2 b' hb'
 unfold ng;rw [hb'];exact this
theorem C2:aV (S:=Int×Int) (T:=(Int)) (fun (v22,v23)=>cond (decide (v23<(l.length:Int))) (Option.bind (Option.bind (idx l v23) (fun m32=>Option.bind (gd (m32.Kind == kind) (dB m32 code origin company day)) (fun x34=>Option.bind (gd (((m32.Kind == kind)&&x34)&&(!(decide (v22<0)))) (idx l v22)) (fun m35=>Option.bind (gd (((m32.Kind == kind)&&x34)&&(!(decide (v22<0)))) (cW m32 m35)) (fun x36=>cond (((m32.Kind == kind)&&x34)&&((decide (v22<0))||x36)) (some v23) (some v22)))))) (fun v30=>some (.inl (v30,(IntKind.i64.wrap (v23+1)))))) (some (.inr v22))) FUEL ((-1),0)=some (ng l (bS kind code origin company day)):=by
 have hl':l.length≤4611686018427387904:=by omega
 obtain ⟨e,e2⟩:=eC (S:=Int×Int) (T:=Int) hl' (body:=fun (v22,v23)=>cond (decide (v23<(l.length:Int))) (Option.bind (Option.bind (idx l v23) (fun m32=>Option.bind (gd (m32.Kind == kind) (dB m32 code origin company day)) (fun x34=>Option.bind (gd (((m32.Kind == kind)&&x34)&&(!(decide (v22<0)))) (idx l v22)) (fun m35=>Option.bind (gd (((m32.Kind == kind)&&x34)&&(!(decide (v22<0)))) (cW m32 m35)) (fun x36=>cond (((m32.Kind == kind)&&x34)&&((decide (v22<0))||x36)) (some v23) (some v22)))))) (fun v30=>some (.inl (v30,(IntKind.i64.wrap (v23+1)))))) (some (.inr v22)))
  (fun i b=>(b,i)) (zU l (bS kind code origin company day)) id (fun _ => -1) (BP l (bS kind code origin company day)) (by
   intro k hk b hb
   refine ⟨?_,fun a' h=>by injection h with h;rw [← h];exact zV hk hb⟩
   have mk:=hm _ (List.getElem_mem hk)
   dsimp only
   rw [tp hk,cQ,bo (bp hk),gV hk hl']
   show Option.bind _ _=some (Sum.inl (sZ l (bS kind code origin company day) k l[k] b,((k+1:Nat):Int)))
   unfold sZ bS
   cases hkd:(l[k].Kind == kind)
   ·rfl
   rw [de,xl _ (by have:=mk.orig;omega) mk.reg]
   rw [cJ]
   cases hc:cov l[k] code origin company day
   ·rfl
   by_cases hb0:b<0
   ·rw [det hb0,if_pos ⟨rfl,.inl hb0⟩];rfl
   obtain ⟨b1,b2,b3⟩:=hb
   have hbl:b<l.length:=by omega
   have mb:=hm _ (List.getElem_mem (show b.toNat<l.length by omega))
   rw [bH hb0]
   simp only [Bool.not_false,Bool.and_self,Bool.true_and,Bool.false_or]
   rw [de,bo (vD (by omega) hbl),de,bo (xm mk mb),mr (by omega)]
   by_cases hr:nf (l[b.toNat]'(by omega))<nf l[k]
   ·rw [det hr,if_pos ⟨trivial,.inr hr⟩];rfl
   rw [bH hr,if_neg (fun h=>h.2.elim hb0 hr)];rfl)
  (by intro b _;dsimp only;rw [kO];rfl) (-1) ⟨by omega,by omega,fun h=>absurd h (by omega)⟩
 exact e
theorem qt:(lf l (bS kind code origin company day)=none∧ng l (bS kind code origin company day)<0)∨∃ m,lf l (bS kind code origin company day)=some m∧0≤ng l (bS kind code origin company day)∧idx l (ng l (bS kind code origin company day))=some m∧MOK m∧m.Kind=kind∧m∈l:=by
 obtain ⟨_,b1,b2,b3⟩:=zW hl hm kind code origin company day
 unfold lf
 by_cases h:ng l (bS kind code origin company day)<0
 ·left;rw [if_pos h];exact ⟨rfl,h⟩
 right
 rw [if_neg h]
 obtain ⟨m,h1,h2⟩:=b3 (by omega)
 have hmem:=List.mem_of_getElem? h1
 refine ⟨m,h1,by omega,?_,hm m hmem,?_,hmem⟩
 ·unfold idx;rw [if_pos (by omega)];exact h1
 unfold bS at h2;simp only [Bool.and_eq_true,beq_iff_eq] at h2;exact h2.1
theorem yD:jM l kind code origin company day=some (match lf l (bS kind code origin company day) with | none=>(zeroM,false) | some m=>(m,true)):=by
 unfold jM
 rw [bo (zW hl hm kind code origin company day).1]
 rcases qt hl hm kind code origin company day with ⟨h1,h2⟩ | ⟨m,h1,h2,h3,_⟩
 ·rw [h1,det h2];rfl
 rw [h1,bH (by omega),dn,bo h3]
theorem AZ (acc:List Zb) (ha:acc.length≤10):(Option.bind (some (ng l (bS kind code origin company day))) (fun v25=>cond (decide (0≤v25)) (Option.bind (idx l v25) (fun m39=>Option.bind (bF m39.Origins) (fun x41=>Option.bind (app 144 acc [(⟨m39.ID,m39.Kind,m39.Prefix,x41,m39.Company,m39.From,m39.To,m39.Registered,m39.Duty⟩:Zb)]) (fun l47=>some l47)))) (some acc)))=some (ka acc (lf l (bS kind code origin company day))):=by
 rw [cJ]
 rcases qt hl hm kind code origin company day with ⟨h1,h2⟩ | ⟨m,h1,h2,h3,h4,_⟩
 ·rw [h1,bH (by omega)];simp [ka]
 rw [h1,det h2,cQ,bo h3]
 have:=h4.orig
 have e1:bF m.Origins=some m.Origins:=by
  unfold bF app;rw [if_pos (by simp;omega)];rfl
 have e2:app 144 acc [m]=some (acc++[m]):=by unfold app;rw [if_pos (by simp;omega)]
 rw [bo e1,show (⟨m.ID,m.Kind,m.Prefix,m.Origins,m.Company,m.From,m.To,m.Registered,m.Duty⟩:Zb)=m from rfl,bo e2];rfl
end
def ri (l:List Zb) (code origin:ByteArray) (company day:Int):List Zb:=ka (ka (ka (ka (ka (ka [] (lf l (bS 1 code origin company day))) (lf l (bS 2 code origin company day))) (lf l (bS 3 code origin company day))) (lf l (bS 4 code origin company day))) (lf l (bS 5 code origin company day))) (lf l (bS 6 code origin company day))
theorem yE {l:List Zb} (hl:l.length≤300) (hm:∀ m∈l,MOK m) (code origin:ByteArray) (company day:Int):eE l code origin company day=some (ri l code origin company day):=by
  unfold eE
  have hfu:FUEL=1267650600228229401496703205367+9:=rfl
  have hstep:∀ (N:Nat) (acc:List Zb) (k:Int),1≤k→k≤6→acc.length≤10→∀ {β:Type} (c:List Zb→Option β),
      (aV (S:=(List Zb)×Int) (T:=((List Zb))) (fun (l5,v8)=>cond (decide (v8≤6)) (Option.bind (Option.bind (aV (S:=Int×Int) (T:=(Int)) (fun (v22,v23)=>cond (decide (v23<(l.length:Int))) (Option.bind (Option.bind (idx l v23) (fun m32=>Option.bind (gd (m32.Kind == v8) (dB m32 code origin company day)) (fun x34=>Option.bind (gd (((m32.Kind == v8)&&x34)&&(!(decide (v22<0)))) (idx l v22)) (fun m35=>Option.bind (gd (((m32.Kind == v8)&&x34)&&(!(decide (v22<0)))) (cW m32 m35)) (fun x36=>cond (((m32.Kind == v8)&&x34)&&((decide (v22<0))||x36)) (some v23) (some v22)))))) (fun v30=>some (.inl (v30,(IntKind.i64.wrap (v23+1)))))) (some (.inr v22))) FUEL ((-1),0)) (fun v25=>cond (decide (0≤v25)) (Option.bind (idx l v25) (fun m39=>Option.bind (bF m39.Origins) (fun x41=>Option.bind (app 144 l5 [(⟨m39.ID,m39.Kind,m39.Prefix,x41,m39.Company,m39.From,m39.To,m39.Registered,m39.Duty⟩:Zb)]) (fun l47=>some l47)))) (some l5))) (fun l20=>some (.inl (l20,(IntKind.i64.wrap (v8+1)))))) (some (.inr l5))) (N+1) (acc,k)).bind c=(aV (S:=(List Zb)×Int) (T:=((List Zb))) (fun (l5,v8)=>cond (decide (v8≤6)) (Option.bind (Option.bind (aV (S:=Int×Int) (T:=(Int)) (fun (v22,v23)=>cond (decide (v23<(l.length:Int))) (Option.bind (Option.bind (idx l v23) (fun m32=>Option.bind (gd (m32.Kind == v8) (dB m32 code origin company day)) (fun x34=>Option.bind (gd (((m32.Kind == v8)&&x34)&&(!(decide (v22<0)))) (idx l v22)) (fun m35=>Option.bind (gd (((m32.Kind == v8)&&x34)&&(!(decide (v22<0)))) (cW m32 m35)) (fun x36=>cond (((m32.Kind == v8)&&x34)&&((decide (v22<0))||x36)) (some v23) (some v22)))))) (fun v30=>some (.inl (v30,(IntKind.i64.wrap (v23+1)))))) (some (.inr v22))) FUEL ((-1),0)) (fun v25=>cond (decide (0≤v25)) (Option.bind (idx l v25) (fun m39=>Option.bind (bF m39.Origins) (fun x41=>Option.bind (app 144 l5 [(⟨m39.ID,m39.Kind,m39.Prefix,x41,m39.Company,m39.From,m39.To,m39.Registered,m39.Duty⟩:Zb)]) (fun l47=>some l47)))) (some l5))) (fun l20=>some (.inl (l20,(IntKind.i64.wrap (v8+1)))))) (some (.inr l5))) N (ka acc (lf l (bS k code origin company day)),k+1)).bind c:=by
    intro N acc k k0 k1 ha β c
    refine bG _ ?_
    dsimp only
    rw [det k1,cQ,C2 hl hm k code origin company day,AZ hl hm k code origin company day acc ha,cJ,bw (by omega) (by omega)]
  have l1:=nh [] (lf l (bS 1 code origin company day))
  have l2:=nh (ka [] (lf l (bS 1 code origin company day))) (lf l (bS 2 code origin company day))
  have l3:=nh (ka (ka [] (lf l (bS 1 code origin company day))) (lf l (bS 2 code origin company day))) (lf l (bS 3 code origin company day))
  have l4:=nh (ka (ka (ka [] (lf l (bS 1 code origin company day))) (lf l (bS 2 code origin company day))) (lf l (bS 3 code origin company day))) (lf l (bS 4 code origin company day))
  have l5:=nh (ka (ka (ka (ka [] (lf l (bS 1 code origin company day))) (lf l (bS 2 code origin company day))) (lf l (bS 3 code origin company day))) (lf l (bS 4 code origin company day))) (lf l (bS 5 code origin company day))
  simp only [List.length_nil] at l1
  refine (hstep 1267650600228229401496703205375 [] 1 (by omega) (by omega) (by simp) _).trans ?_
  refine (hstep 1267650600228229401496703205374 _ 2 (by omega) (by omega) (by omega) _).trans ?_
  refine (hstep 1267650600228229401496703205373 _ 3 (by omega) (by omega) (by omega) _).trans ?_
  refine (hstep 1267650600228229401496703205372 _ 4 (by omega) (by omega) (by omega) _).trans ?_
  refine (hstep 1267650600228229401496703205371 _ 5 (by omega) (by omega) (by omega) _).trans ?_
  refine (hstep 1267650600228229401496703205370 _ 6 (by omega) (by omega) (by omega) _).trans ?_
  exact (cP (ri l code origin company day) rfl)
abbrev LS:=Bool×Int×Int×Int×Int×Int
def zX:Zd:=⟨0,0,0,0,0⟩
def lg (q v:Int) (st:LS) (m:Zb):LS⊕Int :=
 if (mC m.Duty v q).2≠0 then .inr (mC m.Duty v q).2 else if st.1=false∨(mC m.Duty v q).1<st.2.2.2.2.2 then .inl (true,m.Kind,m.ID,q,v,(mC m.Duty v q).1) else .inl st
def je (q v:Int) (o:Option Zb) (st:LS):LS⊕Int:=match o with | none=>.inl st | some m=>lg q v st m
def fG (kind q v:Int) (_:Nat) (m:Zb) (st:LS):LS⊕Int:=if m.Kind=kind then lg q v st m else .inl st
def qu (ms:List Zb) (q v:Int) (_:Nat) (k:Int) (st:LS):LS⊕Int:=run (fG k q v) ms 0 st
def zY (ms:List Zb) (q v:Int) (ks:List Int):LS⊕Int:=run (qu ms q v) ks 0 (false,0,0,0,0,0)
def ni (st:LS):Zd:=⟨st.2.1,st.2.2.1,st.2.2.2.1,st.2.2.2.2.1,st.2.2.2.2.2⟩
section
variable {ms:List Zb} (hl:ms.length≤300) (hm:∀ m∈ms,MOK m) {q v:Int} (hv:0≤v) (hv':v≤1000000000000) (hq:0≤q) (hq':q≤1000000000)
include hl hm hv hv' hq hq'
theorem C3 (ks:List Int) (hks:ks.length≤10):ew ms ⟨q,v,ks⟩=some (tw (fun st=>(ni st,st.1,0)) (fun e=>(zX,false,e)) (zY ms q v ks)):=by
 unfold ew
 have inner:∀ (kind:Int) (st:LS),aV (S:=Bool×Int×Int×Int×Int×Int×Int) (T:=(Bool×Int×Int×Int×Int×Int)⊕((Bool×Int×Int×Int×Int×Int×Int)⊕((Bool×Int×Int×Int×Int×Int)⊕(Zd×Bool×Int)))) (fun (v21,v22,v23,v24,v25,v26,v27)=>cond (decide (v22<(ms.length:Int))) (Option.bind (α:=(Bool×Int×Int×Int×Int×Int)⊕_) (Option.bind (idx ms v22) (fun m44=>cond (m44.Kind != kind) (some (.inl (v21,v23,v24,v25,v26,v27))) (Option.bind (eo m44.Duty v q) (fun x47=>cond (x47.2 != 0) (some (.inr (.inr (.inr (.inr (.inr ((⟨0,0,0,0,0⟩:Zd),false,x47.2))))))) (cond ((!v21)||(decide (x47.1<v27))) (some (.inl (true,m44.Kind,m44.ID,q,v,x47.1))) (some (.inl (v21,v23,v24,v25,v26,v27)))))))) (fun q=>match q with | .inl (v37,v38,v39,v40,v41,v42)=>some (.inl (v37,(IntKind.i64.wrap (v22+1)),v38,v39,v40,v41,v42)) | .inr e=>some e)) (some (.inr (.inl (v21,v23,v24,v25,v26,v27))))) FUEL (st.1,0,st.2.1,st.2.2.1,st.2.2.2.1,st.2.2.2.2.1,st.2.2.2.2.2)=some (tw (fun st=>.inl st) (fun e=>.inr (.inr (.inr (zX,false,e)))) (run (fG kind q v) ms 0 st)):=by
  intro kind st
  have hl':ms.length≤4611686018427387904:=by omega
  exact (eC (S:=Bool×Int×Int×Int×Int×Int×Int) (T:=(Bool×Int×Int×Int×Int×Int)⊕((Bool×Int×Int×Int×Int×Int×Int)⊕((Bool×Int×Int×Int×Int×Int)⊕(Zd×Bool×Int)))) hl' (body:=fun (v21,v22,v23,v24,v25,v26,v27)=>cond (decide (v22<(ms.length:Int))) (Option.bind (α:=(Bool×Int×Int×Int×Int×Int)⊕_) (Option.bind (idx ms v22) (fun m44=>cond (m44.Kind != kind) (some (.inl (v21,v23,v24,v25,v26,v27))) (Option.bind (eo m44.Duty v q) (fun x47=>cond (x47.2 != 0) (some (.inr (.inr (.inr (.inr (.inr ((⟨0,0,0,0,0⟩:Zd),false,x47.2))))))) (cond ((!v21)||(decide (x47.1<v27))) (some (.inl (true,m44.Kind,m44.ID,q,v,x47.1))) (some (.inl (v21,v23,v24,v25,v26,v27)))))))) (fun q=>match q with | .inl (v37,v38,v39,v40,v41,v42)=>some (.inl (v37,(IntKind.i64.wrap (v22+1)),v38,v39,v40,v41,v42)) | .inr e=>some e)) (some (.inr (.inl (v21,v23,v24,v25,v26,v27)))))
   (fun i (st:LS)=>(st.1,i,st.2.1,st.2.2.1,st.2.2.2.1,st.2.2.2.2.1,st.2.2.2.2.2)) (fG kind q v) (fun st=>.inl st) (fun e=>.inr (.inr (.inr (zX,false,e)))) (fun _ _=>True) (by
    intro k hk st _
    refine ⟨?_,fun _ _=>trivial⟩
    have mk:=hm _ (List.getElem_mem hk)
    obtain ⟨e0,e1,e2,_⟩:=mB ms[k].Duty
    rw [mk.duty] at e1
    have hd:=e2 (Option.some.inj e1).symm
    dsimp only
    rw [tp hk,cQ,bo (bp hk),AV hd hv hv' hq hq' mk.duty,gV hk hl',cJ]
    unfold fG lg
    by_cases h1:ms[k].Kind=kind
    ·rw [if_pos h1,show (ms[k].Kind != kind)=false by simp [h1],dn]
     by_cases h2:(mC ms[k].Duty v q).2=0
     ·rw [if_neg (by simp [h2]),show ((mC ms[k].Duty v q).2 != 0)=false by simp [h2],dn]
      by_cases h3:st.1=false∨(mC ms[k].Duty v q).1<st.2.2.2.2.2
      ·rw [if_pos h3,show ((!st.1)||(decide ((mC ms[k].Duty v q).1<st.2.2.2.2.2)))=true by simp;exact h3];rfl
      rw [if_neg h3,show ((!st.1)||(decide ((mC ms[k].Duty v q).1<st.2.2.2.2.2)))=false by
       rw [Bool.eq_false_iff];intro h;apply h3;simpa using h];rfl
     rw [if_pos h2,show ((mC ms[k].Duty v q).2 != 0)=true by simp [h2]];rfl
    rw [if_neg h1,show (ms[k].Kind != kind)=true by simp [h1]];rfl)
   (by intro st _;dsimp only;rw [kO];rfl) st trivial).1
 have hk':ks.length≤4611686018427387904:=by omega
 obtain ⟨e,_⟩:=eC (S:=Bool×Int×Int×Int×Int×Int×Int) (T:=(Bool×Int×Int×Int×Int×Int)⊕(Zd×Bool×Int)) hk' (body:=fun (v4,v5,v6,v7,v8,v9,v10)=>cond (decide (v5<(ks.length:Int))) (Option.bind (idx ks v5) (fun m20=>Option.bind (aV (S:=Bool×Int×Int×Int×Int×Int×Int) (T:=(Bool×Int×Int×Int×Int×Int)⊕(_)) (fun (v21,v22,v23,v24,v25,v26,v27)=>cond (decide (v22<(ms.length:Int))) (Option.bind (α:=(Bool×Int×Int×Int×Int×Int)⊕_) (Option.bind (idx ms v22) (fun m44=>cond (m44.Kind != m20) (some (.inl (v21,v23,v24,v25,v26,v27))) (Option.bind (eo m44.Duty v q) (fun x47=>cond (x47.2 != 0) (some (.inr (.inr (.inr (.inr (.inr ((⟨0,0,0,0,0⟩:Zd),false,x47.2))))))) (cond ((!v21)||(decide (x47.1<v27))) (some (.inl (true,m44.Kind,m44.ID,q,v,x47.1))) (some (.inl (v21,v23,v24,v25,v26,v27)))))))) (fun q=>match q with | .inl (v37,v38,v39,v40,v41,v42)=>some (.inl (v37,(IntKind.i64.wrap (v22+1)),v38,v39,v40,v41,v42)) | .inr e=>some e)) (some (.inr (.inl (v21,v23,v24,v25,v26,v27))))) FUEL (v4,0,v6,v7,v8,v9,v10)) (fun q=>match q with | .inl (v28,v29,v30,v31,v32,v33)=>some (.inl (v28,(IntKind.i64.wrap (v5+1)),v29,v30,v31,v32,v33)) | .inr e=>some e))) (some (.inr (.inl (v4,v6,v7,v8,v9,v10)))))
  (fun i (st:LS)=>(st.1,i,st.2.1,st.2.2.1,st.2.2.2.1,st.2.2.2.2.1,st.2.2.2.2.2)) (qu ms q v) (fun st=>.inl st) (fun e=>.inr (zX,false,e)) (fun _ _=>True) (by
   intro k hk st _
   refine ⟨?_,fun _ _=>trivial⟩
   dsimp only
   rw [tp hk,cQ,bo (bp hk),inner,gV hk hk',cJ]
   unfold qu
   cases run (fG ks[k] q v) ms 0 st <;> rfl)
  (by intro st _;dsimp only;rw [kO];rfl) (false,0,0,0,0,0) trivial
 dsimp only
 erw [bo e]
 unfold zY
 cases run (qu ms q v) ks 0 (false,0,0,0,0,0) <;> rfl
end
def ee (x:Zj):Int×Int:=if 0<x.Quantity then jd x.Value x.Granted (x.Quantity - x.Granted) else (0,x.Value)
def dI (x:Zj):List Int:=if x.Proof=true then [1,2,3] else [1,2]
def gZ (x:Zj):List Zf:=(if 0<x.Granted then [⟨x.Granted,(ee x).1,dI x++[4]⟩] else [])++(if 0<x.Quantity - x.Granted∨x.Quantity=0 then [⟨x.Quantity - x.Granted,(ee x).2,dI x⟩] else [])++[⟨x.Quantity,x.Value,[5]⟩,⟨x.Quantity,x.Value,[6]⟩]
structure Zt (x:Zj):Prop where
 q0:0≤x.Quantity
 q1:x.Quantity≤1000000000
 v0:0≤x.Value
 v1:x.Value≤1000000000000
 g0:0≤x.Granted
 g1:x.Granted≤x.Quantity
theorem itOK {x:Zj} (h:cB x=some 0):Zt x:=by
 unfold cB at h
 rw [show dh x.Code=some (gA x.Code) from rfl,lw,cJ] at h
 have:∃ b,gd (!(gA x.Code != 8)) (some (kR x.Origin))=some b:=by cases (!(gA x.Code != 8)) <;> exact ⟨_,rfl⟩
 obtain ⟨b,hb⟩:=this
 rw [bo hb] at h
 cases hc:((gA x.Code != 8)||(!b))
 ·rw [hc,dn] at h
  cases hd:(((((((((((decide (x.Company<0))||(decide (999<x.Company)))||(decide (x.Day<0)))||(decide (36524<x.Day)))||(decide (x.Quantity<0)))||(decide (1000000000<x.Quantity)))||(decide (x.Value<0)))||(decide (1000000000000<x.Value)))||(decide (x.Granted<0)))||(decide (x.Quantity<x.Granted))):Bool)
  ·simp at hd
   exact ⟨by omega,by omega,by omega,by omega,by omega,by omega⟩
  rw [hd] at h;cases h
 rw [hc] at h;cases h
theorem vE {x:Zj} (h:Zt x):(ee x).1+(ee x).2=x.Value∧0≤(ee x).1∧(ee x).1≤1000000000000∧0≤(ee x).2∧(ee x).2≤1000000000000:=by
 obtain ⟨q0,q1,v0,v1,g0,g1⟩:=h
 unfold ee
 split
 ·exact AW ⟨v0,v1,g0,by omega,by omega,by omega,by omega⟩
 dsimp only;omega
theorem C4 {x:Zj} (h:Zt x):gK x=some (gZ x,0):=by
  have hok:=h
  obtain ⟨q0,q1,v0,v1,g0,g1⟩:=h
  unfold gK
  rw [bw (r:=x.Quantity - x.Granted) (by omega) (by omega)]
  have e1:(cond (decide (0<x.Quantity)) (Option.bind (e8 x.Value [x.Granted,x.Quantity - x.Granted]) (fun x9=>cond (x9.2 != 0) (some (.inr (([]:List Zf),x9.2))) (some (.inl x9.1)))) (some (.inl [0,x.Value])))=some (Sum.inl [(ee x).1,(ee x).2]:List Int⊕(List Zf×Int)):=by
    unfold ee
    by_cases hq:0<x.Quantity
    · rw [det hq,if_pos hq,cQ,bo (yx ⟨v0,v1,g0,by omega,by omega,by omega,by omega⟩)];rfl
    rw [bH hq,if_neg hq];rfl
  rw [bo e1]
  dsimp only
  have e2:(cond x.Proof (Option.bind (app 8 [1,2] [3]) (fun l21=>some l21)) (some [1,2]))=some (dI x):=by
    unfold dI;cases x.Proof <;> rfl
  rw [bo e2]
  have hk3:(dI x).length≤3:=by unfold dI;split <;> simp
  have e3:dj (dI x)=some (dI x):=by unfold dj app;rw [if_pos (by simp;omega)];rfl
  have e4:app 8 (dI x) [4]=some (dI x++[4]):=by unfold app;rw [if_pos (by simp;omega)]
  have e5:(cond (decide (0<x.Granted)) (Option.bind (idx [(ee x).1,(ee x).2] 0) (fun m32=>Option.bind (dj (dI x)) (fun x33=>Option.bind (app 8 x33 [4]) (fun l39=>Option.bind (app 40 ([]:List Zf) [(⟨x.Granted,m32,l39⟩:Zf)]) (fun l44=>some l44))))) (some ([]:(List Zf))))=some (if 0<x.Granted then [⟨x.Granted,(ee x).1,dI x++[4]⟩] else []):=by
    by_cases hg:0<x.Granted
    · rw [det hg,if_pos hg,cQ,bo ix0,bo e3,bo e4];rfl
    rw [bH hg,if_neg hg];rfl
  rw [bo e5]
  have e6:∀ p:List Zf,p.length≤1→(cond ((decide (0<x.Quantity - x.Granted))||(x.Quantity == 0)) (Option.bind (idx [(ee x).1,(ee x).2] 1) (fun m54=>Option.bind (app 40 p [(⟨x.Quantity - x.Granted,m54,dI x⟩:Zf)]) (fun l57=>some l57))) (some p))=some (p++(if 0<x.Quantity - x.Granted∨x.Quantity=0 then [⟨x.Quantity - x.Granted,(ee x).2,dI x⟩] else [])):=by
    intro p hp
    by_cases hg:0<x.Quantity - x.Granted∨x.Quantity=0
    · rw [if_pos hg,show ((decide (0<x.Quantity - x.Granted))||(x.Quantity == 0))=true by simpa using hg,cQ,bo ix1]
      have:app 40 p [(⟨x.Quantity - x.Granted,(ee x).2,dI x⟩:Zf)]=some (p++[⟨x.Quantity - x.Granted,(ee x).2,dI x⟩]):=by unfold app;rw [if_pos (by simp;omega)]
      rw [bo this]
    rw [if_neg hg,show ((decide (0<x.Quantity - x.Granted))||(x.Quantity == 0))=false by rw [Bool.eq_false_iff];intro h;apply hg;simpa using h,dn,List.append_nil]
  have hp1:(if 0<x.Granted then [(⟨x.Granted,(ee x).1,dI x++[4]⟩:Zf)] else []).length≤1:=by split <;> simp
  rw [bo (e6 _ hp1)]
  have e7:∀ p:List Zf,p.length≤2→app 40 p [(⟨x.Quantity,x.Value,[5]⟩:Zf),(⟨x.Quantity,x.Value,[6]⟩:Zf)]=some (p++[⟨x.Quantity,x.Value,[5]⟩,⟨x.Quantity,x.Value,[6]⟩]):=by
    intro p hp;unfold app;rw [if_pos (by simp;omega)]
  rw [bo (e7 _ (by rw [List.length_append];have:(if 0<x.Quantity - x.Granted∨x.Quantity=0 then [(⟨x.Quantity - x.Granted,(ee x).2,dI x⟩:Zf)] else []).length≤1:=by split <;> simp
                   omega))]
  rfl
abbrev xq (p:LS⊕Int) (f:LS→LS⊕Int):LS⊕Int:=gb p f
def vF:LS:=(false,0,0,0,0,0)
def iC (o:Int→Option Zb) (q v:Int):List Int→LS→LS⊕Int
 | [],st=>.inl st
 | k::ks,st=>xq (je q v (o k) st) (iC o q v ks)
def oK (l:List Zb) (x:Zj) (k:Int):Option Zb:=lf l (bS k x.Code x.Origin x.Company x.Day)
theorem jv {k q v:Int}:∀ (a b:List Zb) (j:Nat) (st:LS),run (fG k q v) (a++b) j st=xq (run (fG k q v) a j st) (run (fG k q v) b 0):=by
 have shift:∀ (b:List Zb) (j i:Nat) (st:LS),run (fG k q v) b j st=run (fG k q v) b i st:=by
  intro b
  induction b with
  | nil=>intro j i st;rfl
  | cons y ys ih =>
   intro j i st
   rw [dK,dK]
   have:fG k q v j y st=fG k q v i y st:=rfl
   rw [this]
   cases fG k q v i y st with
   | inl a'=>exact ih _ _ _
   | inr r=>rfl
 intro a
 induction a with
 | nil=>intro b j st;exact shift b j 0 st
 | cons y ys ih =>
  intro b j st
  rw [List.cons_append,dK,dK]
  cases fG k q v j y st with
  | inl a'=>exact ih b _ _
  | inr r=>rfl
theorem bindR_l {A B R:Type} (a:A) (g:A→B⊕R):gb (.inl a) g=g a:=rfl
theorem nF (p:LS⊕Int):gb p (fun s=>.inl s)=p:=by cases p <;> rfl
section
variable {l:List Zb} (hl:l.length≤300) (hm:∀ m∈l,MOK m) (x:Zj)
include hl hm
theorem nj (k:Int):oK l x k=none∨∃ m,oK l x k=some m∧MOK m∧m.Kind=k∧m∈l:=by
 rcases qt hl hm k x.Code x.Origin x.Company x.Day with ⟨h1,_⟩ | ⟨m,h1,_,_,h2,h3,h4⟩
 ·exact .inl h1
 exact .inr ⟨m,h1,h2,h3,h4⟩
theorem ko (k k' q v:Int):run (fG k q v) (oK l x k').toList 0=fun st=>if k'=k then je q v (oK l x k) st else .inl st:=by
 funext st
 rcases nj hl hm x k' with h | ⟨m,h,_,h2,_⟩
 ·by_cases e:k'=k
  ·subst e;rw [h,if_pos rfl];rfl
  rw [h,if_neg e];rfl
 rw [h]
 show gb (fG k q v 0 m st) (run (fG k q v) [] 1)=_
 unfold fG
 by_cases e:k'=k
 ·subst e;rw [h,if_pos h2,if_pos rfl]
  show _=lg q v st m
  cases lg q v st m <;> rfl
 rw [if_neg (by rw [h2];exact e),if_neg e];rfl
theorem A0 {k:Int} (h1:1≤k) (h6:k≤6) (q v:Int) (st:LS):run (fG k q v) (ri l x.Code x.Origin x.Company x.Day) 0 st=je q v (oK l x k) st:=by
 unfold ri ka
 rw [jv,jv,jv,jv,jv,jv]
 rw [show lf l (bS 1 x.Code x.Origin x.Company x.Day)=oK l x 1 from rfl,show lf l (bS 2 x.Code x.Origin x.Company x.Day)=oK l x 2 from rfl,show lf l (bS 3 x.Code x.Origin x.Company x.Day)=oK l x 3 from rfl,show lf l (bS 4 x.Code x.Origin x.Company x.Day)=oK l x 4 from rfl,show lf l (bS 5 x.Code x.Origin x.Company x.Day)=oK l x 5 from rfl,show lf l (bS 6 x.Code x.Origin x.Company x.Day)=oK l x 6 from rfl]
 rw [ko hl hm x k 1,ko hl hm x k 2,ko hl hm x k 3,ko hl hm x k 4,ko hl hm x k 5,ko hl hm x k 6]
 have hk:k=1∨k=2∨k=3∨k=4∨k=5∨k=6:=by omega
 have base:run (fG k q v) [] 0 st=.inl st:=rfl
 rw [base]
 rcases hk with rfl | rfl | rfl | rfl | rfl | rfl <;> simp [bindR_l,nF]
theorem yF (q v:Int) (ks:List Int) (hks:∀ k∈ks,1≤k∧k≤6):zY (ri l x.Code x.Origin x.Company x.Day) q v ks=iC (oK l x) q v ks vF:=by
 unfold zY
 have:∀ (ks:List Int) (j:Nat) (st:LS),(∀ k∈ks,1≤k∧k≤6)→run (qu (ri l x.Code x.Origin x.Company x.Day) q v) ks j st=iC (oK l x) q v ks st:=by
  intro ks
  induction ks with
  | nil=>intro j st _;rfl
  | cons k ks ih =>
   intro j st h
   have hk:=h k (by simp)
   rw [dK]
   show _=xq (je q v (oK l x k) st) (iC (oK l x) q v ks)
   unfold qu
   rw [A0 hl hm x hk.1 hk.2]
   cases je q v (oK l x k) st with
   | inl s=>exact ih _ _ (fun k' h'=>h k' (by simp [h']))
   | inr e=>rfl
 exact this ks 0 _ hks
theorem xr:(ri l x.Code x.Origin x.Company x.Day).length≤300∧∀ m∈ri l x.Code x.Origin x.Company x.Day,MOK m:=by
 have key:∀ k,(∀ m∈(lf l (bS k x.Code x.Origin x.Company x.Day)).toList,MOK m)∧(lf l (bS k x.Code x.Origin x.Company x.Day)).toList.length≤1:=by
  intro k
  rcases nj hl hm x k with h | ⟨m,h,h2,_⟩
  ·rw [show lf l (bS k x.Code x.Origin x.Company x.Day)=none from h];simp
  rw [show lf l (bS k x.Code x.Origin x.Company x.Day)=some m from h];simp;exact h2
 unfold ri ka
 constructor
 ·simp only [List.length_append,List.length_nil]
  have:=(key 1).2;have:=(key 2).2;have:=(key 3).2;have:=(key 4).2;have:=(key 5).2;have:=(key 6).2
  omega
 intro m h
 simp only [List.mem_append,List.not_mem_nil,false_or] at h
 rcases h with ((((h | h) | h) | h) | h) | h
 ·exact (key 1).1 m h
 ·exact (key 2).1 m h
 ·exact (key 3).1 m h
 ·exact (key 4).1 m h
 ·exact (key 5).1 m h
 exact (key 6).1 m h
end
theorem vG (ms:List Zb) (hl:ms.length≤4611686018427387904):bj ms (fun y8=>gh y8)=some (ms.any fun m=>m.Kind == 1):=by
 unfold bj bR
 obtain ⟨e,_⟩:=eC (T:=Unit⊕Int) hl (body:=fun v1=>cond (decide (v1<(ms.length:Int))) (Option.bind (idx ms v1) (fun m5=>Option.bind ((fun y8=>gh y8) m5) (fun x6=>cond x6 (some (.inr (.inr v1))) (some (.inl (IntKind.i64.wrap (v1+1))))))) (some (.inr (.inl ()))))
  (fun i (_:Unit)=>i) (fun k m _=>if m.Kind == 1 then .inr (k:Int) else .inl ()) (fun _=>.inl ()) (fun r=>.inr r) (fun _ _=>True) (by
   intro k hk a _
   refine ⟨?_,fun _ _=>trivial⟩
   rw [tp hk,cQ,bo (bp hk),gV hk hl]
   show Option.bind (some (ms[k].Kind == 1)) _=_
   rw [cJ]
   cases (ms[k].Kind == 1) <;> rfl)
  (by intro a _;rw [kO];rfl) () trivial
 rw [bo e]
 have hrun:∀ (xs:List Zb) (k:Nat),(∃ j:Nat,run (fun k (m:Zb) (_:Unit)=>if m.Kind == 1 then Sum.inr (k:Int) else Sum.inl ()) xs k ()=.inr (j:Int)∧(xs.any fun m=>m.Kind == 1)=true)∨(run (fun k (m:Zb) (_:Unit)=>if m.Kind == 1 then Sum.inr (k:Int) else Sum.inl ()) xs k ()=.inl ()∧(xs.any fun m=>m.Kind == 1)=false):=by
  intro xs
  induction xs with
  | nil=>intro k;right;exact ⟨rfl,rfl⟩
  | cons y ys ih =>
   intro k
   rw [dK]
   rw [List.any_cons]
   cases hy:(y.Kind == 1)
   ·exact ih (k+1)
   left;exact ⟨k,rfl,rfl⟩
 rcases hrun ms 0 with ⟨j,h1,h2⟩ | ⟨h1,h2⟩
 ·rw [h1,h2];show some (decide ((0:Int)≤(j:Int)))=_;rw [det (by omega)]
 rw [h1,h2];rfl
def us (x:Zj):Int:=(cB x).getD 0
def A1 (e:Int):Zq×Int:=(⟨[],0⟩,e)
def ff (o:Int→Option Zb) (_:Nat) (p:Zf) (st:List Zd×Int):(List Zd×Int)⊕Int:=match iC o p.quantity p.value p.kinds vF with | .inr e=>.inr e | .inl s=>.inl (if s.1=true then (st.1++[ni s],st.2+s.2.2.2.2.2) else st)
def C5 (st:List Zd×Int):Zq×Int:=if 1000000000000<st.2 then A1 3 else (⟨st.1,st.2⟩,0)
def lh (l:List Zb) (x:Zj):Zq×Int:=if ld l≠0 then A1 (ld l) else if us x≠0 then A1 (us x) else if oK l x 1=none then A1 7 else tw C5 A1 (run (ff (oK l x)) (gZ x) 0 ([],0))
def AmtOK (st:LS):Prop:=0≤st.2.2.2.2.2∧st.2.2.2.2.2≤1000000000000
structure PartOK (p:Zf):Prop where
 v0:0≤p.value
 v1:p.value≤1000000000000
 q0:0≤p.quantity
 q1:p.quantity≤1000000000
 kl:p.kinds.length≤10
 kr:∀ k∈p.kinds,1≤k∧k≤6
theorem A2 (x:Zj):(dI x).length≤3∧∀ k∈dI x,1≤k∧k≤6:=by
 unfold dI;split <;> refine ⟨by simp,?_⟩ <;> intro k hk <;> simp at hk <;> omega
theorem A3 {x:Zj} (h:Zt x):(gZ x).length≤4∧∀ p∈gZ x,PartOK p:=by
 obtain ⟨s,a0,a1,b0,b1⟩:=vE h
 obtain ⟨k1,k2⟩:=A2 x
 obtain ⟨q0,q1,v0,v1,g0,g1⟩:=h
 unfold gZ
 constructor
 ·simp only [List.length_append,List.length_cons,List.length_nil]
  split <;> split <;> simp
 intro p hp
 simp only [List.mem_append,List.mem_cons,List.not_mem_nil,or_false] at hp
 rcases hp with (hp | hp) | hp | hp
 ·split at hp
  ·simp only [List.mem_cons,List.not_mem_nil,or_false] at hp;subst hp
   refine ⟨a0,a1,by dsimp only;omega,by dsimp only;omega,by simp;omega,?_⟩
   intro k hk
   simp only [List.mem_append,List.mem_cons,List.not_mem_nil,or_false] at hk
   rcases hk with hk | rfl
   ·exact k2 k hk
   omega
  cases hp
 ·split at hp
  ·simp only [List.mem_cons,List.not_mem_nil,or_false] at hp;subst hp
   exact ⟨b0,b1,by dsimp only;omega,by dsimp only;omega,by dsimp only;omega,k2⟩
  cases hp
 ·subst hp;exact ⟨v0,v1,q0,q1,by simp,by intro k hk;simp at hk;omega⟩
 subst hp;exact ⟨v0,v1,q0,q1,by simp,by intro k hk;simp at hk;omega⟩
theorem rB {m:Zb} (h:MOK m) {q v:Int} (hv:0≤v) (hv':v≤1000000000000) (hq:0≤q) (hq':q≤1000000000):((mC m.Duty v q).2=0∧0≤(mC m.Duty v q).1∧(mC m.Duty v q).1≤1000000000000)∨((mC m.Duty v q).2=3∧(mC m.Duty v q).1=0):=by
 obtain ⟨e,e1,e2,_⟩:=mB m.Duty
 rw [h.duty] at e1
 have hd:=e2 (Option.some.inj e1).symm
 exact evN_ok m.Duty v q (sW hd hv hv' hq hq').1.1 (AU hd).1
theorem A4 {o:Option Zb} (ho:∀ m,o=some m→MOK m) {q v:Int} (hv:0≤v) (hv':v≤1000000000000) (hq:0≤q) (hq':q≤1000000000) {st:LS} (h:AmtOK st):(∃ s,je q v o st=.inl s∧AmtOK s∧(st.1=true→s.1=true)∧(o≠none→s.1=true))∨je q v o st=.inr 3:=by
 cases o with
 | none=>left;exact ⟨st,rfl,h,id,fun h=>absurd rfl h⟩
 | some m =>
  have:=rB (ho m rfl) hv hv' hq hq'
  show (∃ s,lg q v st m=.inl s∧_)∨lg q v st m=.inr 3
  unfold lg
  rcases this with ⟨a,b,c⟩ | ⟨a,b⟩
  ·left
   rw [if_neg (by simp [a])]
   by_cases hc:st.1=false∨(mC m.Duty v q).1<st.2.2.2.2.2
   ·rw [if_pos hc];exact ⟨_,rfl,⟨b,c⟩,fun _=>rfl,fun _=>rfl⟩
   rw [if_neg hc];exact ⟨_,rfl,h,id,fun _=>by cases hs:st.1;exact absurd (.inl hs) hc;rfl⟩
  right;rw [if_pos (by simp [a]),a]
theorem A5 {o:Int→Option Zb} (ho:∀ k m,o k=some m→MOK m) {q v:Int} (hv:0≤v) (hv':v≤1000000000000) (hq:0≤q) (hq':q≤1000000000):∀ (ks:List Int) (st:LS),AmtOK st→(∃ s,iC o q v ks st=.inl s∧AmtOK s∧(st.1=true→s.1=true))∨iC o q v ks st=.inr 3:=by
 intro ks
 induction ks with
 | nil=>intro st h;left;exact ⟨st,rfl,h,id⟩
 | cons k ks ih =>
  intro st h
  show (∃ s,xq (je q v (o k) st) (iC o q v ks)=.inl s∧_)∨xq (je q v (o k) st) (iC o q v ks)=.inr 3
  rcases A4 (ho k) hv hv' hq hq' h with ⟨s,h1,h2,h3,_⟩ | h1
  ·rw [h1]
   rcases ih s h2 with ⟨s',g1,g2,g3⟩ | g1
   ·left;exact ⟨s',g1,g2,fun h=>g3 (h3 h)⟩
   right;exact g1
  rw [h1];right;rfl
theorem C6 {l:List Zb} (hl:l.length≤300) (hm:∀ m∈l,MOK m) (x:Zj):((ri l x.Code x.Origin x.Company x.Day).any fun m=>m.Kind == 1)=decide (oK l x 1≠none):=by
 have key:∀ k,((lf l (bS k x.Code x.Origin x.Company x.Day)).toList.any fun m=>m.Kind == 1)=decide (k=1∧oK l x k≠none):=by
  intro k
  rcases nj hl hm x k with h | ⟨m,h,_,h2,_⟩
  ·rw [show lf l (bS k x.Code x.Origin x.Company x.Day)=none from h,h];simp
  rw [show lf l (bS k x.Code x.Origin x.Company x.Day)=some m from h,h];simp [h2]
  by_cases e:k=1 <;> simp [e]
 unfold ri ka
 simp only [List.any_append,List.any_nil,Bool.false_or,key]
 simp
theorem xt (l:List Zb) (x:Zj) (hx:∃ e,cB x=some e):ic l x=some (lh l x):=by
 obtain ⟨e,he⟩:=hx
 unfold ic lh
 have hie:us x=e:=by unfold us;rw [he];rfl
 rw [bo (tD l),he,hie]
 rcases Decidable.em (¬ ld l=0) with h1 | h1
 ·rw [if_pos h1,show (ld l != 0)=true by simp [h1]];rfl
 have h1:=Decidable.not_not.1 h1
 obtain ⟨hl,hm⟩:=xo h1
 rw [if_neg (by simp [h1]),show (ld l != 0)=false by simp [h1],dn,cJ]
 rcases Decidable.em (¬ e=0) with h2 | h2
 ·rw [if_pos h2,show (e != 0)=true by simp [h2]];rfl
 have h2:=Decidable.not_not.1 h2
 subst h2
 have hit:=itOK he
 rw [if_neg (by simp),bne_self_eq_false,dn,bo (yE hl hm _ _ _ _),bo (vG _ (by have:=(xr hl hm x).1;omega)),C6 hl hm x]
 by_cases h3:oK l x 1=none
 ·rw [if_pos h3,bH (by simp [h3])];rfl
 rw [if_neg h3,det h3,Bool.not_true,dn,bo (C4 hit),bne_self_eq_false,dn]
 obtain ⟨pl,pa⟩:=A3 hit
 have hpl:(gZ x).length≤4611686018427387904:=by omega
 have ho:∀ k m,oK l x k=some m→MOK m:=by
  intro k m h
  rcases nj hl hm x k with h' | ⟨m',h',h2,_⟩
  ·rw [h'] at h;cases h
  rw [h'] at h;injection h with h;exact h ▸ h2
 obtain ⟨e,_⟩:=eC (S:=Int×(List Zd)×Int) (T:=((List Zd)×Int)⊕(Zq×Int)) hpl (body:=fun (v14,l16,v19)=>cond (decide (v14<((gZ x).length:Int))) (Option.bind (α:=((List Zd)×Int)⊕_) (Option.bind (idx (gZ x) v14) (fun m35=>Option.bind (ew (ri l x.Code x.Origin x.Company x.Day) m35) (fun x37=>cond (x37.2.2 != 0) (some (.inr (.inr (.inr ((⟨[],0⟩:Zq),x37.2.2))))) (cond x37.2.1 (Option.bind (app 40 l16 [x37.1]) (fun l43=>some (.inl (l43,(IntKind.i64.wrap (v19+x37.1.Amount)))))) (some (.inl (l16,v19))))))) (fun q=>match q with | .inl (l32,v33)=>some (.inl ((IntKind.i64.wrap (v14+1)),l32,v33)) | .inr e=>some e)) (some (.inr (.inl (l16,v19)))))
  (fun i (st:List Zd×Int)=>(i,st.1,st.2)) (ff (oK l x)) (fun st=>.inl st) (fun e=>.inr (A1 e)) (fun k st=>st.1.length≤k∧0≤st.2∧st.2≤k*1000000000000) (by
   intro k hk st ⟨s1,s2,s3⟩
   have pk:=pa _ (List.getElem_mem hk)
   obtain ⟨a1,a2⟩:=xr hl hm x
   have hle:=C3 a1 a2 pk.v0 pk.v1 pk.q0 pk.q1 _ pk.kl
   rw [yF hl hm x _ _ _ pk.kr] at hle
   have hch:=A5 ho pk.v0 pk.v1 pk.q0 pk.q1 (gZ x)[k].kinds vF ⟨by unfold vF;simp,by unfold vF;simp⟩
   dsimp only
   rw [tp hk,cQ,bo (bp hk),show (gZ x)[k]=⟨(gZ x)[k].quantity,(gZ x)[k].value,(gZ x)[k].kinds⟩ from rfl,hle,gV hk hpl,cJ]
   unfold ff
   rcases hch with ⟨s,g1,g2,_⟩ | g1
   ·rw [g1]
    dsimp only [tw]
    obtain ⟨b1,b2⟩:=g2
    cases hs:s.1
    ·refine ⟨rfl,fun a' h=>?_⟩
     injection h with h;subst h
     simp;omega
    have hap:app 40 st.1 [ni s]=some (st.1++[ni s]):=by unfold app;rw [if_pos (by simp;omega)]
    rw [bne_self_eq_false,dn,cQ,bo hap]
    have hw:IntKind.i64.wrap (st.2+(ni s).Amount)=st.2+s.2.2.2.2.2:=bw (by show -9223372036854775808≤st.2+s.2.2.2.2.2;omega) (by show st.2+s.2.2.2.2.2≤9223372036854775807;omega)
    rw [hw]
    refine ⟨rfl,fun a' h=>?_⟩
    injection h with h;subst h
    simp;omega
   rw [g1]
   exact ⟨rfl,fun a' h=>by cases h⟩)
  (by intro st _;dsimp only;rw [kO];rfl) ([],0) ⟨by simp,by simp,by simp⟩
 refine (bo e).trans ?_
 cases hr:run (ff (oK l x)) (gZ x) 0 ([],0) with
 | inr e=>rfl
 | inl st =>
  show cond (decide (1000000000000<st.2)) _ _=some (C5 st)
  unfold C5
  by_cases h:1000000000000<st.2
  ·rw [det h,if_pos h];rfl
  rw [bH h,if_neg h];rfl
theorem oz {o:Int→Option Zb} {q v k:Int}:∀ (ks:List Int) (st:LS),iC o q v (ks++[k]) st=gb (iC o q v ks st) (je q v (o k)):=by
 intro ks
 induction ks with
 | nil=>intro st;show gb (je q v (o k) st) (fun s=>.inl s)=je q v (o k) st;exact nF _
 | cons j ks ih =>
  intro st
  show gb (je q v (o j) st) (iC o q v (ks++[k]))=gb (gb (je q v (o j) st) (iC o q v ks)) _
  cases je q v (o j) st with
  | inl s=>exact ih s
  | inr e=>rfl
def fg (skip:Bool) (o:Option Zb) (k q v:Int) (r:LS):LS:=match o with
 | none=>r
 | some m=>if skip=true then r else if k=1∨(mC m.Duty v q).1<r.2.2.2.2.2 then (r.1||((mC m.Duty v q).2 != 0),k,m.ID,q,v,(mC m.Duty v q).1) else (r.1||((mC m.Duty v q).2 != 0),r.2)
def LRel (p:LS⊕Int) (ov:Bool) (r:LS):Prop:=(∃ s:LS,p=.inl s∧s.1=true∧r=(ov,s.2)∧AmtOK s)∨(p=.inr 3∧r.1=true)
section
variable {o:Int→Option Zb} (ho:∀ k m,o k=some m→MOK m∧m.Kind=k) {q v:Int} (hv:0≤v) (hv':v≤1000000000000) (hq:0≤q) (hq':q≤1000000000)
include ho hv hv' hq hq'
theorem A6 {m:Zb} (h:o 1=some m) (ov:Bool):LRel (je q v (o 1) vF) ov (fg false (o 1) 1 q v (ov,0,0,0,0,0)):=by
 obtain ⟨mk,kd⟩:=ho 1 m h
 rw [h]
 show LRel (lg q v vF m) ov _
 unfold lg fg
 dsimp only
 rw [if_neg (show ¬ false=true by decide),if_pos (Or.inl rfl)]
 rcases rB mk hv hv' hq hq' with ⟨a,b,c⟩ | ⟨a,b⟩
 ·rw [if_neg (by simp [a]),if_pos (Or.inl (show vF.1=false from rfl)),a,kd]
  left;exact ⟨_,rfl,rfl,by simp,⟨b,c⟩⟩
 rw [if_pos (by simp [a]),a];right;exact ⟨rfl,by simp⟩
theorem tc {p:LS⊕Int} {ov:Bool} {r:LS} (h:LRel p ov r) {k:Int} (hk:k≠1):LRel (gb p (je q v (o k))) ov (fg false (o k) k q v r):=by
 cases hok:o k with
 | none =>
  rcases h with ⟨s,h1,h2,h3,h4⟩ | ⟨h1,h2⟩
  ·subst h1;left;exact ⟨s,rfl,h2,h3,h4⟩
  ·subst h1;right;exact ⟨rfl,h2⟩
 | some m =>
  obtain ⟨mk,kd⟩:=ho k m hok
  show LRel _ ov (if false=true then r else if k=1∨(mC m.Duty v q).1<r.2.2.2.2.2 then _ else _)
  rw [if_neg (show ¬ false=true by decide)]
  rcases h with ⟨s,h1,h2,h3,h4⟩ | ⟨h1,h2⟩
  ·subst h1;subst h3
   show LRel (lg q v s m) ov _
   unfold lg
   rcases rB mk hv hv' hq hq' with ⟨a,b,c⟩ | ⟨a,b⟩
   ·rw [if_neg (by simp [a])]
    by_cases hlt:(mC m.Duty v q).1<s.2.2.2.2.2
    ·rw [if_pos (Or.inr hlt),if_pos (Or.inr hlt),a,kd]
     left;exact ⟨_,rfl,rfl,by simp,⟨b,c⟩⟩
    rw [if_neg (by rw [h2];simp [hlt]),if_neg (by simp [hk,hlt]),a]
    left;exact ⟨_,rfl,h2,by simp,h4⟩
   rw [if_pos (by simp [a]),a];right
   refine ⟨rfl,?_⟩
   split <;> simp
  subst h1;right
  refine ⟨rfl,?_⟩
  split <;> simp [h2]
omit ho hv hv' hq hq' in
theorem xu {p:LS⊕Int} {ov:Bool} {r:LS} (h:LRel p ov r) {k:Int}:LRel p ov (fg true (o k) k q v r):=by
 cases o k with
 | none=>exact h
 | some m=>exact h
def qv (o:Int→Option Zb) (q v:Int) (no3 no4:Bool) (ov:Bool):LS:=fg no4 (o 4) 4 q v (fg no3 (o 3) 3 q v (fg false (o 2) 2 q v (fg false (o 1) 1 q v (ov,0,0,0,0,0))))
theorem td {m:Zb} (h:o 1=some m) (x:Zj) (no4:Bool) (ov:Bool):LRel (iC o q v (dI x++if no4=true then [] else [4]) vF) ov (qv o q v (!x.Proof) no4 ov):=by
 have r1:LRel (iC o q v [1] vF) ov (fg false (o 1) 1 q v (ov,0,0,0,0,0)):=by
  show LRel (gb (je q v (o 1) vF) (fun s=>.inl s)) _ _
  rw [nF]
  exact A6 ho hv hv' hq hq' h ov
 have r2:LRel (iC o q v [1,2] vF) ov (fg false (o 2) 2 q v (fg false (o 1) 1 q v (ov,0,0,0,0,0))):=by
  rw [show ([1,2]:List Int)=[1]++[2] from rfl,oz]
  exact tc ho hv hv' hq hq' r1 (by omega)
 have r3:LRel (iC o q v (dI x) vF) ov (fg (!x.Proof) (o 3) 3 q v (fg false (o 2) 2 q v (fg false (o 1) 1 q v (ov,0,0,0,0,0)))):=by
  unfold dI
  cases x.Proof
  ·rw [if_neg (by simp)];exact xu r2
  rw [if_pos rfl,show ([1,2,3]:List Int)=[1,2]++[3] from rfl,oz]
  exact tc ho hv hv' hq hq' r2 (by omega)
 unfold qv
 cases no4
 ·rw [if_neg (by simp),oz];exact tc ho hv hv' hq hq' r3 (by omega)
 rw [if_pos rfl,List.append_nil];exact xu r3
end
section
variable {l:List Zb} (hl:l.length≤300) (hm:∀ m∈l,MOK m) (x:Zj)
include hl hm
theorem C7:∀ k m,oK l x k=some m→MOK m∧m.Kind=k:=by
 intro k m h
 rcases nj hl hm x k with h' | ⟨m',h',h2,h3,_⟩
 ·rw [h'] at h;cases h
 rw [h'] at h;injection h with h;exact h ▸ ⟨h2,h3⟩
theorem ut {gr vs:List Int} {i q v:Int} (hq2:idx gr i=some q) (hv2:idx vs i=some v) (hv:0≤v) (hv':v≤1000000000000) (hq:0≤q) (hq':q≤1000000000) (ov:Bool) {β:Type} (c:LS→Option β) :
    Option.bind (aV (S:=Bool×Int×Int×Int×Int×Int×Int) (T:=(Bool×Int×Int×Int×Int×Int)) (fun (v43,v44,v45,v46,v47,v48,v49)=>cond (decide (v44≤4)) (Option.bind (Option.bind (jM l v44 x.Code x.Origin x.Company x.Day) (fun x68=>cond (((!x68.2)||((v44 == 3)&&(!x.Proof)))||((v44 == 4)&&(i == 1))) (some (v43,v45,v46,v47,v48,v49)) (Option.bind (idx vs i) (fun m71=>Option.bind (idx gr i) (fun m72=>Option.bind (eH x68.1.Duty m71 m72) (fun x73=>cond ((v44 == 1)||(decide (x73.1<v49))) (Option.bind (idx gr i) (fun m75=>Option.bind (idx vs i) (fun m76=>some ((v43||(x73.2 != 0)),v44,x68.1.ID,m75,m76,x73.1)))) (some ((v43||(x73.2 != 0)),v45,v46,v47,v48,v49)))))))) (fun (v60,v62,v63,v64,v65,v66)=>some (.inl (v60,(IntKind.i64.wrap (v44+1)),v62,v63,v64,v65,v66)))) (some (.inr (v43,v45,v46,v47,v48,v49)))) FUEL (ov,1,0,0,0,0,0)) c=c (qv (oK l x) q v (!x.Proof) (i == 1) ov):=by
  have one:∀ (k:Int) (hk:k≤4) (hk0:1≤k) (r:LS),(fun (v43,v44,v45,v46,v47,v48,v49)=>cond (decide (v44≤4)) (Option.bind (Option.bind (jM l v44 x.Code x.Origin x.Company x.Day) (fun x68=>cond (((!x68.2)||((v44 == 3)&&(!x.Proof)))||((v44 == 4)&&(i == 1))) (some (v43,v45,v46,v47,v48,v49)) (Option.bind (idx vs i) (fun m71=>Option.bind (idx gr i) (fun m72=>Option.bind (eH x68.1.Duty m71 m72) (fun x73=>cond ((v44 == 1)||(decide (x73.1<v49))) (Option.bind (idx gr i) (fun m75=>Option.bind (idx vs i) (fun m76=>some ((v43||(x73.2 != 0)),v44,x68.1.ID,m75,m76,x73.1)))) (some ((v43||(x73.2 != 0)),v45,v46,v47,v48,v49)))))))) (fun (v60,v62,v63,v64,v65,v66)=>some (.inl (v60,(IntKind.i64.wrap (v44+1)),v62,v63,v64,v65,v66)))) (some (.inr (v43,v45,v46,v47,v48,v49))):Bool×Int×Int×Int×Int×Int×Int→Option ((Bool×Int×Int×Int×Int×Int×Int)⊕(Bool×Int×Int×Int×Int×Int))) (r.1,k,r.2)=some (.inl ((fg (((k == 3)&&(!x.Proof))||((k == 4)&&(i == 1))) (oK l x k) k q v r).1,k+1,(fg (((k == 3)&&(!x.Proof))||((k == 4)&&(i == 1))) (oK l x k) k q v r).2)):=by
    intro k hk hk0 r
    obtain ⟨r1,r2,r3,r4,r5,r6⟩:=r
    dsimp only
    rw [det hk,cQ,bo (yD hl hm k x.Code x.Origin x.Company x.Day),show lf l (bS k x.Code x.Origin x.Company x.Day)=oK l x k from rfl,bw (by omega) (by omega)]
    cases hok:oK l x k with
    | none=>rfl
    | some m =>
      obtain ⟨mk,_⟩:=C7 hl hm x k m hok
      obtain ⟨e0,e1,e2,_⟩:=mB m.Duty
      rw [mk.duty] at e1
      have hd:=e2 (Option.some.inj e1).symm
      dsimp only
      rw [Bool.not_true,Bool.false_or]
      unfold fg
      dsimp only
      cases (((k == 3)&&(!x.Proof))||((k == 4)&&(i == 1)))
      · rw [dn,bo hv2,bo hq2,bo (xi hd hv hv' hq hq' mk.duty),bo hq2,bo hv2,if_neg (show ¬ false=true by decide)]
        by_cases hc:k=1∨(mC m.Duty v q).1<r6
        · rw [if_pos hc,show ((k == 1)||decide ((mC m.Duty v q).1<r6))=true by simpa using hc];rfl
        rw [if_neg hc,show ((k == 1)||decide ((mC m.Duty v q).1<r6))=false by rw [Bool.eq_false_iff];intro h;apply hc;simpa using h];rfl
      rfl
  unfold qv
  refine (bG (N:=1267650600228229401496703205375) _ (one 1 (by omega) (by omega) (ov,0,0,0,0,0))).trans ?_
  refine (bG (N:=1267650600228229401496703205374) _ (one 2 (by omega) (by omega) _)).trans ?_
  refine (bG (N:=1267650600228229401496703205373) _ (one 3 (by omega) (by omega) _)).trans ?_
  refine (bG (N:=1267650600228229401496703205372) _ (one 4 (by omega) (by omega) _)).trans ?_
  refine (cP (N:=1267650600228229401496703205371) _ rfl).trans ?_
  have b1:((((1:Int) == 3)&&(!x.Proof))||(((1:Int) == 4)&&(i == 1)))=false:=rfl
  have b2:((((2:Int) == 3)&&(!x.Proof))||(((2:Int) == 4)&&(i == 1)))=false:=rfl
  have b3:((((3:Int) == 3)&&(!x.Proof))||(((3:Int) == 4)&&(i == 1))) = !x.Proof:=by cases x.Proof <;> rfl
  have b4:((((4:Int) == 3)&&(!x.Proof))||(((4:Int) == 4)&&(i == 1)))=(i == 1):=by cases (i == 1) <;> rfl
  rw [b1,b2,b3,b4]
end
theorem rC {α A R:Type} {f:Nat→α→A→A⊕R} (hf:∀ j i y a,f j y a=f i y a):∀ (a b:List α) (j:Nat) (st:A),run f (a++b) j st=gb (run f a j st) (run f b 0):=by
 have shift:∀ (b:List α) (j i:Nat) (st:A),run f b j st=run f b i st:=by
  intro b
  induction b with
  | nil=>intro j i st;rfl
  | cons y ys ih =>
   intro j i st
   rw [dK,dK,hf j i y st]
   cases f i y st with
   | inl a'=>exact ih _ _ _
   | inr r=>rfl
 intro a
 induction a with
 | nil=>intro b j st;exact shift b j 0 st
 | cons y ys ih =>
  intro b j st
  rw [List.cons_append,dK,dK]
  cases f j y st with
  | inl a'=>exact ih b _ _
  | inr r=>rfl
theorem xx {A R:Type} (p:A⊕R):gb p (fun s=>.inl s)=p:=by cases p <;> rfl
theorem pD {α A R:Type} {f:Nat→α→A→A⊕R} (y:α):run f [y] 0=f 0 y:=by
 funext st;rw [dK];exact xx _
def sumF (_:Nat) (y:Zd) (t:Int):Int⊕Unit:=.inl (IntKind.i64.wrap (t+y.Amount))
def C8 (ls:List Zd):Int:=tw id (fun _=>0) (run sumF ls 0 0)
theorem A7 (ls:List Zd) (y:Zd):C8 (ls++[y])=IntKind.i64.wrap (C8 ls+y.Amount):=by
 unfold C8
 rw [rC (fun _ _ _ _=>rfl),pD]
 cases h:run sumF ls 0 0 with
 | inl t=>rfl
 | inr u =>
  exact absurd h (by
   have:∀ (ls:List Zd) (k:Nat) (t:Int),∃ t',run sumF ls k t=.inl t':=by
    intro ls
    induction ls with
    | nil=>intro k t;exact ⟨t,rfl⟩
    | cons z zs ih=>intro k t;exact ih _ _
   obtain ⟨t',h'⟩:=this ls 0 0
   rw [h'];intro h;cases h)
def RelO (n:Nat) (p:(List Zd×Int)⊕Int) (r:Bool×List Zd):Prop:=r.2.length≤n∧((∃ st,p=.inl st∧r=(false,st.1)∧C8 st.1=st.2∧0≤st.2∧st.2≤(n:Int)*1000000000000)∨(p=.inr 3∧r.1=true))
theorem RelO.up {n m:Nat} (h:n≤m) {p:(List Zd×Int)⊕Int} {r:Bool×List Zd} (hr:RelO n p r):RelO m p r:=by
 obtain ⟨a,b⟩:=hr
 refine ⟨by omega,?_⟩
 rcases b with ⟨st,h1,h2,h3,h4,h5⟩ | b
 ·left;exact ⟨st,h1,h2,h3,h4,by omega⟩
 right;exact b
theorem vH {n:Nat} (hn:n≤10) {p:(List Zd×Int)⊕Int} {r:Bool×List Zd} (h:RelO n p r) {o:Int→Option Zb} {j:Nat} {q v:Int} {ks:List Int} {rr:LS} (hc:LRel (iC o q v ks vF) r.1 rr):RelO (n+1) (gb p (ff o j ⟨q,v,ks⟩)) (rr.1,r.2++[ni rr]):=by
 obtain ⟨a,b⟩:=h
 refine ⟨by simp;omega,?_⟩
 rcases b with ⟨st,h1,h2,h3,h4,h5⟩ | ⟨h1,h2⟩
 ·subst h1;subst h2
  rcases hc with ⟨s,g1,g2,g3,g4⟩ | ⟨g1,g2⟩
  ·left
   subst g3
   refine ⟨(st.1++[ni s],st.2+s.2.2.2.2.2),?_,rfl,?_,?_,?_⟩
   ·show ff o j ⟨q,v,ks⟩ st=_
    unfold ff
    dsimp only
    rw [g1];dsimp only;rw [if_pos g2]
   ·rw [A7,h3]
    exact bw (by show -9223372036854775808≤st.2+s.2.2.2.2.2;have:=g4.1;omega) (by show st.2+s.2.2.2.2.2≤9223372036854775807;have:=g4.2;omega)
   ·have:=g4.1;dsimp only;omega
   have:=g4.2;dsimp only;omega
  right
  refine ⟨?_,g2⟩
  show ff o j ⟨q,v,ks⟩ st=_
  unfold ff
  dsimp only
  rw [g1]
 right
 subst h1
 refine ⟨rfl,?_⟩
 rcases hc with ⟨s,g1,g2,g3,g4⟩ | ⟨g1,g2⟩
 ·rw [g3];exact h2
 exact g2
def eO (o:Int→Option Zb) (k q v:Int) (r:Bool×List Zd):Bool×List Zd:=match o k with
 | none=>r
 | some m=>(r.1||((mC m.Duty v q).2 != 0),r.2++[⟨k,m.ID,q,v,(mC m.Duty v q).1⟩])
theorem xy {n:Nat} (hn:n≤10) {p:(List Zd×Int)⊕Int} {r:Bool×List Zd} (h:RelO n p r) {o:Int→Option Zb} (ho:∀ k m,o k=some m→MOK m∧m.Kind=k) {j:Nat} {q v k:Int} (hv:0≤v) (hv':v≤1000000000000) (hq:0≤q) (hq':q≤1000000000):RelO (n+1) (gb p (ff o j ⟨q,v,[k]⟩)) (eO o k q v r):=by
 have hch:iC o q v [k] vF=je q v (o k) vF:=nF _
 unfold eO
 cases hok:o k with
 | none =>
  dsimp only
  have e:∀ st,ff o j ⟨q,v,[k]⟩ st=.inl st:=by
   intro st;unfold ff;dsimp only;rw [hch,hok];rfl
  have:gb p (ff o j ⟨q,v,[k]⟩)=p:=by
   cases p with
   | inl st=>exact e st
   | inr e=>rfl
  rw [this];exact h.up (by omega)
 | some m =>
  obtain ⟨mk,kd⟩:=ho k m hok
  dsimp only
  have hr:LRel (iC o q v [k] vF) r.1 (r.1||((mC m.Duty v q).2 != 0),k,m.ID,q,v,(mC m.Duty v q).1):=by
   rw [hch,hok]
   show LRel (lg q v vF m) _ _
   unfold lg
   rcases rB mk hv hv' hq hq' with ⟨a,b,c⟩ | ⟨a,b⟩
   ·rw [if_neg (by simp [a]),if_pos (Or.inl (show vF.1=false from rfl)),a,kd]
    left;exact ⟨_,rfl,rfl,by simp,⟨b,c⟩⟩
   rw [if_pos (by simp [a]),a];right;exact ⟨rfl,by simp⟩
  exact vH hn h hr
def dE (o:Int→Option Zb) (x:Zj) (q v:Int) (skip no4:Bool) (r:Bool×List Zd):Bool×List Zd:=if skip=true then r else ((qv o q v (!x.Proof) no4 r.1).1,r.2++[ni (qv o q v (!x.Proof) no4 r.1)])
section
variable {l:List Zb} (hl:l.length≤300) (hm:∀ m∈l,MOK m) {x:Zj} (hx:Zt x) {m1:Zb} (h1:oK l x 1=some m1)
include hl hm hx h1
def te (l:List Zb) (x:Zj):Bool×List Zd:=eO (oK l x) 6 x.Quantity x.Value (eO (oK l x) 5 x.Quantity x.Value (dE (oK l x) x (x.Quantity - x.Granted) (ee x).2 (((x.Quantity - x.Granted) == 0)&&(decide (0<x.Quantity))) true (dE (oK l x) x x.Granted (ee x).1 (x.Granted == 0) false (false,[]))))
theorem rel_all:RelO 4 (run (ff (oK l x)) (gZ x) 0 ([],0)) (te l x):=by
 have ho:=C7 hl hm x
 obtain ⟨s,a0,a1,b0,b1⟩:=vE hx
 obtain ⟨q0,q1,v0,v1,g0,g1⟩:=hx
 unfold gZ te
 rw [rC (fun _ _ _ _=>rfl),rC (fun _ _ _ _=>rfl)]
 have start:RelO 0 (.inl ([],0)) (false,[]):=⟨by simp,.inl ⟨_,rfl,rfl,rfl,by simp,by simp⟩⟩
 have p1:RelO 1 (run (ff (oK l x)) (if 0<x.Granted then [⟨x.Granted,(ee x).1,dI x++[4]⟩] else []) 0 ([],0)) (dE (oK l x) x x.Granted (ee x).1 (x.Granted == 0) false (false,[])):=by
  unfold dE
  by_cases hg:0<x.Granted
  ·rw [if_pos hg,if_neg (by simp;omega),pD]
   exact vH (p:=.inl ([],0)) (j:=0) (by omega) start (td ho a0 a1 g0 (by omega) h1 x false false)
  rw [if_neg hg,if_pos (by simp;omega)];exact start.up (by omega)
 have p2:RelO 2 (gb (run (ff (oK l x)) (if 0<x.Granted then [⟨x.Granted,(ee x).1,dI x++[4]⟩] else []) 0 ([],0)) (run (ff (oK l x)) (if 0<x.Quantity - x.Granted∨x.Quantity=0 then [⟨x.Quantity - x.Granted,(ee x).2,dI x⟩] else []) 0)) (dE (oK l x) x (x.Quantity - x.Granted) (ee x).2 (((x.Quantity - x.Granted) == 0)&&(decide (0<x.Quantity))) true (dE (oK l x) x x.Granted (ee x).1 (x.Granted == 0) false (false,[]))):=by
  generalize dE (oK l x) x x.Granted (ee x).1 (x.Granted == 0) false (false,[])=r1 at *
  generalize run (ff (oK l x)) (if 0<x.Granted then [⟨x.Granted,(ee x).1,dI x++[4]⟩] else []) 0 ([],0)=pp at *
  unfold dE
  by_cases hg:0<x.Quantity - x.Granted∨x.Quantity=0
  ·rw [if_pos hg,show (((x.Quantity - x.Granted) == 0)&&(decide (0<x.Quantity)))=false by rw [Bool.and_eq_false_iff];simp only [beq_eq_false_iff_ne,decide_eq_false_iff_not];omega,if_neg (show ¬ false=true by decide),pD]
   have:=td ho b0 b1 (show 0≤x.Quantity - x.Granted by omega) (by omega) h1 x true r1.1
   rw [if_pos rfl,List.append_nil] at this
   exact vH (j:=0) (by omega) p1 this
  rw [if_neg hg,show (((x.Quantity - x.Granted) == 0)&&(decide (0<x.Quantity)))=true by rw [Bool.and_eq_true];simp only [beq_iff_eq,decide_eq_true_eq];omega,if_pos rfl]
  have:(run (ff (oK l x)) [] 0)=fun st=>.inl st:=rfl
  rw [this,xx];exact p1.up (by omega)
 have e56:∀ st,run (ff (oK l x)) [⟨x.Quantity,x.Value,[5]⟩,⟨x.Quantity,x.Value,[6]⟩] 0 st=gb (ff (oK l x) 0 ⟨x.Quantity,x.Value,[5]⟩ st) (ff (oK l x) 0 ⟨x.Quantity,x.Value,[6]⟩):=by
  intro st
  rw [show ([⟨x.Quantity,x.Value,[5]⟩,⟨x.Quantity,x.Value,[6]⟩]:List Zf)=[⟨x.Quantity,x.Value,[5]⟩]++[⟨x.Quantity,x.Value,[6]⟩] from rfl,rC (fun _ _ _ _=>rfl),pD,pD]
 have p3:=xy (by omega) p2 ho (j:=0) (k:=5) v0 v1 q0 q1
 have p4:=xy (by omega) p3 ho (j:=0) (k:=6) v0 v1 q0 q1
 rw [show run (ff (oK l x)) [⟨x.Quantity,x.Value,[5]⟩,⟨x.Quantity,x.Value,[6]⟩] 0=fun st=>gb (ff (oK l x) 0 ⟨x.Quantity,x.Value,[5]⟩ st) (ff (oK l x) 0 ⟨x.Quantity,x.Value,[6]⟩) from funext e56]
 have assoc:∀ p:(List Zd×Int)⊕Int,gb (gb p (ff (oK l x) 0 ⟨x.Quantity,x.Value,[5]⟩)) (ff (oK l x) 0 ⟨x.Quantity,x.Value,[6]⟩)=gb p (fun st=>gb (ff (oK l x) 0 ⟨x.Quantity,x.Value,[5]⟩ st) (ff (oK l x) 0 ⟨x.Quantity,x.Value,[6]⟩)):=by
  intro p;cases p <;> rfl
 rw [assoc] at p4
 exact p4
end
theorem qO (o:Int→Option Zb) (x:Zj) (q v:Int) (skip no4:Bool) (r:Bool×List Zd):(dE o x q v skip no4 r).2.length≤r.2.length+1:=by
 unfold dE;split <;> simp
theorem xz (o:Int→Option Zb) (k q v:Int) (r:Bool×List Zd):(eO o k q v r).2.length≤r.2.length+1:=by
 unfold eO;split <;> simp
theorem C9 (ls:List Zd) (hl:ls.length≤100) {β:Type} (c:Int→Option β):Option.bind (aV (S:=Int×Int) (T:=(Int)) (fun (v113,v114)=>cond (decide (v113<((ls.length:Nat):Int))) (Option.bind (idx ls v113) (fun m120=>some (.inl ((IntKind.i64.wrap (v113+1)),(IntKind.i64.wrap (v114+m120.Amount)))))) (some (.inr v114))) FUEL (0,0)) c=c (C8 ls):=by
 have hl':ls.length≤4611686018427387904:=by omega
 obtain ⟨e,_⟩:=eC (S:=Int×Int) (T:=Int) hl' (body:=fun (v113,v114)=>cond (decide (v113<((ls.length:Nat):Int))) (Option.bind (idx ls v113) (fun m120=>some (.inl ((IntKind.i64.wrap (v113+1)),(IntKind.i64.wrap (v114+m120.Amount)))))) (some (.inr v114)))
  (fun i t=>(i,t)) sumF id (fun _=>0) (fun _ _=>True) (by
   intro k hk t _
   refine ⟨?_,fun _ _=>trivial⟩
   dsimp only
   rw [tp hk,cQ,bo (bp hk),gV hk hl'];rfl)
  (by intro t _;dsimp only;rw [kO];rfl) 0 trivial
 exact bo e
theorem yG (l:List Zb) (x:Zj) (hp:∀ m∈l,m.Prefix.size≤140737488355328) (hc:x.Code.size≤140737488355328):my l x=some (lh l x):=by
 obtain ⟨e,he,he2⟩:=xj x hc
 unfold my lh
 have hie:us x=e:=by unfold us;rw [he];rfl
 rw [bo (vC l hp),he2,hie]
 rcases Decidable.em (¬ ld l=0) with h1 | h1
 ·rw [if_pos h1,show (ld l != 0)=true by simp [h1]];rfl
 have h1:=Decidable.not_not.1 h1
 obtain ⟨hl,hm⟩:=xo h1
 rw [if_neg (by simp [h1]),show (ld l != 0)=false by simp [h1],dn,cJ]
 rcases Decidable.em (¬ e=0) with h2 | h2
 ·rw [if_pos h2,show (e != 0)=true by simp [h2]];rfl
 have h2:=Decidable.not_not.1 h2
 subst h2
 have hit:=itOK he
 obtain ⟨s,a0,a1,b0,b1⟩:=vE hit
 have hit':=hit
 obtain ⟨q0,q1,v0,v1,g0,g1⟩:=hit'
 rw [if_neg (by simp),bne_self_eq_false,dn,bw (r:=x.Quantity - x.Granted) (by omega) (by omega)]
 have e1:(cond (decide (0<x.Quantity)) (Option.bind (kY x.Value [x.Granted,x.Quantity - x.Granted]) (fun x14=>some x14.1)) (some [0,x.Value]))=some [(ee x).1,(ee x).2]:=by
  unfold ee
  by_cases hq:0<x.Quantity
  ·rw [det hq,if_pos hq,cQ,bo (AX ⟨v0,v1,g0,by omega,by omega,by omega,by omega⟩)]
  rw [bH hq,if_neg hq];rfl
 rw [bo e1,bo (yD hl hm 1 x.Code x.Origin x.Company x.Day),show lf l (bS 1 x.Code x.Origin x.Company x.Day)=oK l x 1 from rfl]
 cases hok:oK l x 1 with
 | none=>rw [if_pos rfl];rfl
 | some m1 =>
 rw [if_neg (by simp)]
 dsimp only
 rw [Bool.not_true,dn]
 have all:=rel_all hl hm hit hok
 have ho:=C7 hl hm x
 have hr1:(dE (oK l x) x x.Granted (ee x).1 (x.Granted == 0) false (false,[])).2.length≤1:=qO _ _ _ _ _ _ _
 have hr2:(dE (oK l x) x (x.Quantity - x.Granted) (ee x).2 (((x.Quantity - x.Granted) == 0)&&(decide (0<x.Quantity))) true (dE (oK l x) x x.Granted (ee x).1 (x.Granted == 0) false (false,[]))).2.length≤2:=Nat.le_trans (qO _ _ _ _ _ _ _) (by omega)
 refine (bG (N:=1267650600228229401496703205375) ((dE (oK l x) x x.Granted (ee x).1 (x.Granted == 0) false (false,[])).1,1,(dE (oK l x) x x.Granted (ee x).1 (x.Granted == 0) false (false,[])).2) ?_).trans ?_
 ·dsimp only
  rw [show decide ((0:Int)<2)=true from rfl,cQ,bo ix0,show (((0:Int) == 0)||(decide (0<x.Quantity)))=true from rfl,Bool.and_true]
  unfold dE
  cases (x.Granted == 0)
  ·rw [dn,ut hl hm x (gr:=[x.Granted,x.Quantity - x.Granted]) (vs:=[(ee x).1,(ee x).2]) (i:=0) ix0 ix0 a0 a1 g0 (by omega)]
   rfl
  rfl
 generalize hr1e:dE (oK l x) x x.Granted (ee x).1 (x.Granted == 0) false (false,[])=r1 at *
 refine (bG (N:=1267650600228229401496703205374) ((dE (oK l x) x (x.Quantity - x.Granted) (ee x).2 (((x.Quantity - x.Granted) == 0)&&(decide (0<x.Quantity))) true r1).1,2,(dE (oK l x) x (x.Quantity - x.Granted) (ee x).2 (((x.Quantity - x.Granted) == 0)&&(decide (0<x.Quantity))) true r1).2) ?_).trans ?_
 ·dsimp only
  rw [show decide ((1:Int)<2)=true from rfl,cQ,bo ix1,show (((1:Int) == 0)||(decide (0<x.Quantity)))=decide (0<x.Quantity) from rfl]
  unfold dE
  cases (((x.Quantity - x.Granted) == 0)&&(decide (0<x.Quantity)))
  ·rw [dn,ut hl hm x (gr:=[x.Granted,x.Quantity - x.Granted]) (vs:=[(ee x).1,(ee x).2]) (i:=1) ix1 ix1 b0 b1 (show 0≤x.Quantity - x.Granted by omega) (by omega)]
   have hap:∀ y:Zd,app 40 r1.2 [y]=some (r1.2++[y]):=by intro y;unfold app;rw [if_pos (by simp;omega)]
   rw [bo (hap _)];rfl
  rfl
 refine (cP (N:=1267650600228229401496703205373) (dE (oK l x) x (x.Quantity - x.Granted) (ee x).2 (((x.Quantity - x.Granted) == 0)&&(decide (0<x.Quantity))) true r1) rfl).trans ?_
 have hall:te l x=eO (oK l x) 6 x.Quantity x.Value (eO (oK l x) 5 x.Quantity x.Value (dE (oK l x) x (x.Quantity - x.Granted) (ee x).2 (((x.Quantity - x.Granted) == 0)&&(decide (0<x.Quantity))) true r1)):=by
  unfold te;rw [hr1e]
 generalize dE (oK l x) x (x.Quantity - x.Granted) (ee x).2 (((x.Quantity - x.Granted) == 0)&&(decide (0<x.Quantity))) true r1=r2 at *
 have more:∀ (k:Int) (_:k=5∨k=6) (r:Bool×List Zd) (_:r.2.length≤10),(Option.bind (Option.bind (jM l k x.Code x.Origin x.Company x.Day) (fun x103=>cond x103.2 (Option.bind (eH x103.1.Duty x.Value x.Quantity) (fun x106=>Option.bind (app 40 r.2 [(⟨k,x103.1.ID,x.Quantity,x.Value,x106.1⟩:Zd)]) (fun l109=>some ((r.1||(x106.2 != 0)),l109)))) (some (r.1,r.2)))) (fun (v97,l101)=>some (Sum.inl (v97,(IntKind.i64.wrap (k+1)),l101))))=some (Sum.inl ((eO (oK l x) k x.Quantity x.Value r).1,k+1,(eO (oK l x) k x.Quantity x.Value r).2):(Bool×Int×List Zd)⊕(Bool×List Zd)):=by
  intro k hk r hr
  rw [bo (yD hl hm k x.Code x.Origin x.Company x.Day),show lf l (bS k x.Code x.Origin x.Company x.Day)=oK l x k from rfl,bw (by omega) (by omega)]
  unfold eO
  cases hokk:oK l x k with
  | none=>rfl
  | some m =>
   obtain ⟨mk,_⟩:=ho k m hokk
   obtain ⟨e0,e1,e2,_⟩:=mB m.Duty
   rw [mk.duty] at e1
   have hd:=e2 (Option.some.inj e1).symm
   have hap:∀ y:Zd,app 40 r.2 [y]=some (r.2++[y]):=by intro y;unfold app;rw [if_pos (by simp;omega)]
   dsimp only
   rw [cQ,bo (xi hd v0 v1 q0 q1 mk.duty),bo (hap _)];rfl
 have hm5:(eO (oK l x) 5 x.Quantity x.Value r2).2.length≤3:=Nat.le_trans (xz _ _ _ _ _) (by omega)
 refine (bG (N:=1267650600228229401496703205375) ((eO (oK l x) 5 x.Quantity x.Value r2).1,6,(eO (oK l x) 5 x.Quantity x.Value r2).2) ?_).trans ?_
 ·exact more 5 (.inl rfl) r2 (by omega)
 generalize eO (oK l x) 5 x.Quantity x.Value r2=r3 at *
 refine (bG (N:=1267650600228229401496703205374) ((eO (oK l x) 6 x.Quantity x.Value r3).1,7,(eO (oK l x) 6 x.Quantity x.Value r3).2) ?_).trans ?_
 ·exact more 6 (.inr rfl) r3 (by omega)
 refine (cP (N:=1267650600228229401496703205373) (eO (oK l x) 6 x.Quantity x.Value r3) rfl).trans ?_
 rw [← hall]
 obtain ⟨al,ac⟩:=all
 refine (C9 (te l x).2 (by omega) _).trans ?_
 rcases ac with ⟨st,k1,k2,k3,k4,k5⟩ | ⟨k1,k2⟩
 ·rw [k1,k2,k3]
  show cond (false||decide (1000000000000<st.2)) _ _=some (C5 st)
  unfold C5
  by_cases h:1000000000000<st.2
  ·rw [det h,if_pos h];rfl
  rw [bH h,if_neg h];rfl
 rw [k1,k2];rfl
theorem Da {p:Ze} (hp:SOK p) {n:Nat} (hn:n=2∨n=4∨n=6∨n=8):∃ l q,fz p (n:Int)=some (strOfNums l,q)∧l.length=n∧Digs l∧SOK q:=by
 unfold fz
 obtain ⟨r,q,h1,h2,h3,h4⟩:=dD hp 2 (by omega) (by omega)
 rw [bo h1]
 simp only
 rw [bw (by omega) (by omega),uT (by omega)]
 obtain ⟨t,h5,h6⟩:=gT (body:=fun (l5,l8,v9)=>cond (decide (((l5.length:Nat):Int)<(n:Int))) (Option.bind (an (⟨l8,v9⟩:Ze) 3) (fun x19=>Option.bind (app 1 l5 [48,(IntKind.u8.wrap (IntKind.i64.wrap (49+x19.1)))]) (fun l22=>some (.inl (l22,x19.2.L,x19.2.I))))) (some (.inr (l5,l8,v9))))
  (fun s:List Int×List Int×Int=>(∃ j,s.1.length=2*j)∧2≤s.1.length∧s.1.length≤n∧Digs s.1∧SOK ⟨s.2.1,s.2.2⟩) (fun s=>8 - s.1.length) (fun t:List Int×List Int×Int=>t.1.length=n∧Digs t.1∧SOK ⟨t.2.1,t.2.2⟩)
  (fun s hs=>by
   obtain ⟨l,l8,v9⟩:=s
   obtain ⟨⟨j,a0⟩,a1,a1',a2,a3⟩:=hs
   simp only at a0 a1 a1' a2 a3 ⊢
   by_cases hl:((l.length:Nat):Int)<(n:Int)
   ·left
    rw [det hl];simp only [cQ]
    obtain ⟨r,q,b1,b2,b3,b4⟩:=dD a3 3 (by omega) (by omega)
    rw [bo b1];simp only
    rw [bw (by omega) (by omega),uT (by omega)]
    have e:app 1 l [48,49+r]=some (l++[48,49+r]):=by unfold app;rw [if_pos];simp;omega
    rw [bo e]
    refine ⟨_,rfl,⟨⟨j+1,by simp only [List.length_append,List.length_cons,List.length_nil];omega⟩,by simp only [List.length_append,List.length_cons,List.length_nil];omega,by simp only [List.length_append,List.length_cons,List.length_nil];omega,?_,b4⟩,by simp only [List.length_append,List.length_cons,List.length_nil];omega⟩
    intro x hx
    simp only [List.mem_append,List.mem_cons,List.not_mem_nil,or_false] at hx
    rcases hx with hx | rfl | rfl
    ·exact a2 x hx
    ·omega
    omega
   right
   rw [bH hl]
   exact ⟨_,rfl,by show l.length=n;omega,a2,a3⟩)
  FUEL ([57,52+r],q.L,q.I) ⟨⟨1,rfl⟩,by simp,by simp;omega,by intro x hx;simp only [List.mem_cons,List.not_mem_nil,or_false] at hx;omega,h4⟩ (gH (by simp))
 obtain ⟨l,l8,v9⟩:=t
 rw [bo h5]
 exact ⟨_,_,rfl,h6.1,h6.2.1,h6.2.2⟩
theorem vI {p:Ze} (hp:SOK p):∃ r q,cD p=some (r,q)∧0≤r∧r≤1010000∧SOK q:=by
 unfold cD
 obtain ⟨a,q,h1,h2,h3,h4⟩:=dD hp 4 (by omega) (by omega)
 rw [bo h1]
 dsimp only
 cases decide (0<a)
 ·obtain ⟨b,q2,g1,g2,g3,g4⟩:=dD h4 1000001 (by omega) (by omega)
  rw [dn,bo g1]
  exact ⟨_,_,rfl,g2,by omega,g4⟩
 obtain ⟨b,q2,g1,g2,g3,g4⟩:=dD h4 101 (by omega) (by omega)
 rw [cQ,bo g1]
 dsimp only
 rw [bw (by omega) (by omega)]
 exact ⟨_,_,rfl,by omega,by omega,g4⟩
theorem vJ {p:Ze} (hp:SOK p):∃ d q,cV p=some (d,q)∧SOK q:=by
 unfold cV
 obtain ⟨a,q1,h1,h2,h3,h4⟩:=dD hp 3 (by omega) (by omega)
 rw [bo h1]
 have k1:∃ l v w,(cond (decide (0<(a,q1).1)) (Option.bind (cD (a,q1).2) (fun x9=>some (x9.2.L,x9.2.I,(IntKind.i64.wrap (Int.tdiv x9.1 4))))) (some ((a,q1).2.L,(a,q1).2.I,0)))=some (l,v,w)∧SOK ⟨l,v⟩:=by
  cases decide (0<(a,q1).1)
  ·exact ⟨_,_,_,rfl,h4⟩
  obtain ⟨r,q,g1,_,_,g2⟩:=vI h4
  dsimp only
  rw [cQ,bo g1];exact ⟨_,_,_,rfl,g2⟩
 obtain ⟨l,v,w,k1,k2⟩:=k1
 rw [bo k1]
 dsimp only
 obtain ⟨a2,q2,h1,h2,h3,h4⟩:=dD k2 3 (by omega) (by omega)
 rw [bo h1]
 have k3:∃ (l:List Int) (v w z:Int),(cond ((a2,q2).1 == 1) (Option.bind (an (a2,q2).2 500) (fun x17=>Option.bind (an x17.2 5) (fun x20=>Option.bind (idx [1,100,1000,1000000,7] x20.1) (fun m21=>some (x20.2.L,x20.2.I,(IntKind.i64.wrap (1+x17.1)),m21))))) (some ((a2,q2).2.L,(a2,q2).2.I,0,0)))=some (l,v,w,z)∧SOK ⟨l,v⟩:=by
  cases ((a2,q2).1 == 1)
  ·exact ⟨_,_,_,_,rfl,h4⟩
  obtain ⟨r,q,g1,g2,g3,g4⟩:=dD h4 500 (by omega) (by omega)
  obtain ⟨r',q',f1,f2,f3,f4⟩:=dD g4 5 (by omega) (by omega)
  dsimp only
  rw [cQ,bo g1,bo f1]
  dsimp only
  rw [bo (vD (l:=[1,100,1000,1000000,7]) f2 (by simp;omega))]
  exact ⟨_,_,_,_,rfl,f4⟩
 obtain ⟨l,v,w,z,k3,k4⟩:=k3
 rw [bo k3]
 dsimp only
 obtain ⟨a3,q3,h1,h2,h3,h4⟩:=dD k4 4 (by omega) (by omega)
 rw [bo h1]
 have k5:∃ l v w z,(cond ((a3,q3).1 == 1) (Option.bind (cD (a3,q3).2) (fun x30=>some (x30.2.L,x30.2.I,true,x30.1))) (some ((a3,q3).2.L,(a3,q3).2.I,false,0)))=some (l,v,w,z)∧SOK ⟨l,v⟩:=by
  cases ((a3,q3).1 == 1)
  ·exact ⟨_,_,_,_,rfl,h4⟩
  obtain ⟨r,q,g1,_,_,g2⟩:=vI h4
  dsimp only
  rw [cQ,bo g1];exact ⟨_,_,_,_,rfl,g2⟩
 obtain ⟨l,v,w5,z5,k5,k6⟩:=k5
 rw [bo k5]
 dsimp only
 obtain ⟨a4,q4,h1,h2,h3,h4⟩:=dD k6 4 (by omega) (by omega)
 rw [bo h1]
 have k7:∃ l v w z,(cond ((a4,q4).1 == 1) (Option.bind (cD (a4,q4).2) (fun x38=>cond w5 (some (x38.2.L,x38.2.I,true,(eT (IntKind.i64.wrap (Int.tdiv x38.1 8)) z5))) (some (x38.2.L,x38.2.I,true,(IntKind.i64.wrap (Int.tdiv x38.1 8)))))) (some ((a4,q4).2.L,(a4,q4).2.I,false,0)))=some (l,v,w,z)∧SOK ⟨l,v⟩:=by
  cases ((a4,q4).1 == 1)
  ·exact ⟨_,_,_,_,rfl,h4⟩
  obtain ⟨r,q,g1,_,_,g2⟩:=vI h4
  dsimp only
  rw [cQ,bo g1]
  cases w5
  ·exact ⟨_,_,_,_,rfl,g2⟩
  exact ⟨_,_,_,_,rfl,g2⟩
 obtain ⟨l,v,w,z,k7,k8⟩:=k7
 rw [bo k7]
 exact ⟨_,_,rfl,k8⟩
theorem Db {S T β:Type} {body:S→Option (S⊕T)} {k:T→Option β} {s:S} {Z:Option β→Prop} (P:S→Prop) (μ:S→Nat) (Q:T→Prop) (hs:P s) (hμ:μ s<FUEL) (hk:∀ t,Q t→Z (k t)) (step:∀ s,P s→(∃ s',body s=some (.inl s')∧P s'∧μ s'<μ s)∨∃ t,body s=some (.inr t)∧Q t):Z ((aV body FUEL s).bind k):=by
 obtain ⟨t,e,h⟩:=gT P μ Q step FUEL s hs hμ
 rw [bo e];exact hk t h
theorem A8 (b:Int):∃ t,aV (S:=Int×(List ByteArray)) (T:=((List ByteArray))) (fun (v60,l62)=>cond ((decide (v60<3))&&(decide (7<b))) (Option.bind (Option.bind (nH v60) (fun u80=>cond ((ec .i64 (cw .i64 b v60) 1) == 1) (Option.bind (da) (fun x82=>Option.bind (idx x82 v60) (fun m83=>Option.bind (app 16 l62 [m83]) (fun l86=>some l86)))) (some l62))) (fun l78=>some (.inl ((IntKind.i64.wrap (v60+1)),l78)))) (some (.inr l62))) FUEL (0,([]:List ByteArray))=some t∧t.length≤3:=by
 refine gT (fun s:Int×List ByteArray=>0≤s.1∧s.1≤3∧(s.2.length:Int)≤s.1) (fun s=>(3 - s.1).toNat) (fun t:List ByteArray=>t.length≤3) ?_ FUEL (0,[]) ⟨by simp,by simp,by simp⟩ (gH (by simp))
 rintro ⟨k,ls⟩ ⟨h1,h2,h3⟩
 dsimp only at h1 h2 h3 ⊢
 by_cases hk:k<3
 ·cases decide (7<b)
  ·right;rw [Bool.and_false];exact ⟨_,rfl,by omega⟩
  left
  rw [det hk,Bool.and_true,cQ,bo (yv h1),bw (by omega) (by omega)]
  cases ((ec .i64 (cw .i64 b k) 1) == 1)
  ·exact ⟨_,rfl,⟨by dsimp only;omega,by dsimp only;omega,by dsimp only;omega⟩,by dsimp only;omega⟩
  obtain ⟨s,hs,_⟩:=yy (k:=k) h1 (by omega) (l:=[(⟨#[65,65]⟩:ByteArray),(⟨#[66,66]⟩:ByteArray),(⟨#[67,67]⟩:ByteArray),(⟨#[68,68]⟩:ByteArray),(⟨#[69,69]⟩:ByteArray),(⟨#[70,70]⟩:ByteArray)]) rfl
  have ha:app 16 ls [s]=some (ls++[s]):=by unfold app;rw [if_pos (by simp;omega)]
  rw [cQ,bo (show da=some [(⟨#[65,65]⟩:ByteArray),(⟨#[66,66]⟩:ByteArray),(⟨#[67,67]⟩:ByteArray),(⟨#[68,68]⟩:ByteArray),(⟨#[69,69]⟩:ByteArray),(⟨#[70,70]⟩:ByteArray)] from rfl),bo hs,bo ha]
  exact ⟨_,rfl,⟨by dsimp only;omega,by dsimp only;omega,by simp;omega⟩,by dsimp only;omega⟩
 right
 rw [bH hk];exact ⟨_,rfl,by omega⟩
theorem yH (l:List Int):(strOfNums l).size=l.length:=by simp [strOfNums,ByteArray.size]
def MsB (n:Nat) (ms:List Zb):Prop:=ms.length≤n∧∀ m∈ms,m.Prefix.size≤8
theorem xA (p:List Int):∃ ms,gq p=some ms∧MsB 15 ms:=by
 unfold gq
 obtain ⟨x,h1,h2⟩:=Cy p 300 (by omega) (by omega)
 rw [bo h1]
 have hs:SOK ⟨x,0⟩:=⟨by simp,by simp,by simp only;omega⟩
 obtain ⟨a,q,h3,h4,h5,h6⟩:=dD hs 8 (by omega) (by omega)
 rw [bo h3]
 have k1:∃ ms l v,(cond (decide (0<(a,q).1)) (Option.bind (cV (a,q).2) (fun x12=>Option.bind (cV x12.2) (fun x13=>Option.bind (app 144 ([]:List Zb) [(⟨1,1,(⟨#[57,52]⟩:ByteArray),[],0,0,36525,(-1),x12.1⟩:Zb),(⟨2,1,(⟨#[57,53]⟩:ByteArray),[],0,0,25,(-1),x13.1⟩:Zb)]) (fun l17=>some (l17,x13.2.L,x13.2.I))))) (some (([]:(List Zb)),(a,q).2.L,(a,q).2.I)))=some (ms,l,v)∧SOK ⟨l,v⟩∧MsB 2 ms:=by
  cases decide (0<(a,q).1)
  ·exact ⟨_,_,_,rfl,h6,by simp,by intro m h;cases h⟩
  obtain ⟨d,q1,g1,g2⟩:=vJ h6
  obtain ⟨d',q2,f1,f2⟩:=vJ g2
  dsimp only
  rw [cQ,bo g1,bo f1]
  refine ⟨_,_,_,rfl,f2,by simp,?_⟩
  intro m hm
  simp only [List.nil_append,List.mem_cons,List.not_mem_nil,or_false] at hm
  rcases hm with rfl | rfl <;> (show (2:Nat)≤8;omega)
 obtain ⟨ms,l,v,k1,k2,k3⟩:=k1
 rw [bo k1]
 dsimp only
 obtain ⟨n,q2,h1,h2,h3,h4⟩:=dD k2 13 (by omega) (by omega)
 rw [bo h1]
 refine Db (Z:=fun o=>∃ ms,o=some ms∧MsB 15 ms) (fun s:List Zb×Int×List Int×Int=>0≤s.2.1∧s.2.1≤n∧SOK ⟨s.2.2.1,s.2.2.2⟩∧MsB (2+s.2.1.toNat) s.1) (fun s=>(13 - s.2.1).toNat) (MsB 15) ⟨by simp,by simp;omega,h4,by simpa using k3⟩ (gH (by simp)) (fun t ht=>⟨t,rfl,ht⟩) ?_
 rintro ⟨ms,i,ll,vv⟩ ⟨a1,a2,a3,a4⟩
 dsimp only at a1 a2 a3 a4 ⊢
 by_cases hi:i<n
 ·left
  rw [det hi,cQ]
  obtain ⟨b1,s1,c1,d1,e1,f1⟩:=dD a3 6 (by omega) (by omega)
  rw [bo c1];dsimp only
  obtain ⟨b2,s2,c2,d2,e2,f2⟩:=dD f1 4 (by omega) (by omega)
  rw [bo c2];dsimp only
  rw [bw (r:=2*b2) (by omega) (by omega),bw (r:=2+2*b2) (by omega) (by omega)]
  obtain ⟨cl,s3,c3,d3,e3,f3⟩:=Da f2 (n:=(2+2*b2).toNat) (by omega)
  rw [show (((2+2*b2).toNat:Nat):Int)=2+2*b2 by omega] at c3
  rw [bo c3];dsimp only
  obtain ⟨b4,s4,c4,d4,e4,f4⟩:=dD f3 20 (by omega) (by omega)
  rw [bo c4];dsimp only
  obtain ⟨b5,s5,c5,f5⟩:=vJ f4
  rw [bo c5];dsimp only
  obtain ⟨b6,s6,c6,d6,e6,f6⟩:=dD f5 30 (by omega) (by omega)
  rw [bo c6];dsimp only
  obtain ⟨b7,s7,c7,d7,e7,f7⟩:=dD f6 3 (by omega) (by omega)
  rw [bo c7];dsimp only
  rw [bw (r:=b4+1) (by omega) (by omega)]
  have k8:∃ l v w,(cond (b7 == 1) (Option.bind (an s7 (b4+1)) (fun x50=>some (x50.2.L,x50.2.I,x50.1))) (some (s7.L,s7.I,(-1))))=some (l,v,w)∧SOK ⟨l,v⟩:=by
   cases (b7 == 1)
   ·exact ⟨_,_,_,rfl,f7⟩
   obtain ⟨r,q,g1,_,_,g2⟩:=dD f7 (b4+1) (by omega) (by omega)
   rw [cQ,bo g1];exact ⟨_,_,_,rfl,g2⟩
  obtain ⟨l8,v8,w8,k8,f8⟩:=k8
  rw [bo k8];dsimp only
  obtain ⟨b9,s9,c9,d9,e9,f9⟩:=dD f8 3 (by omega) (by omega)
  rw [bo c9];dsimp only
  have k10:∃ l v w,(cond (b9 == 1) (Option.bind (an s9 2) (fun x58=>some (x58.2.L,x58.2.I,(IntKind.i64.wrap (1+x58.1))))) (some (s9.L,s9.I,0)))=some (l,v,w)∧SOK ⟨l,v⟩:=by
   cases (b9 == 1)
   ·exact ⟨_,_,_,rfl,f9⟩
   obtain ⟨r,q,g1,_,_,g2⟩:=dD f9 2 (by omega) (by omega)
   rw [cQ,bo g1];exact ⟨_,_,_,rfl,g2⟩
  obtain ⟨l10,v10,w10,k10,f10⟩:=k10
  rw [bo k10];dsimp only
  obtain ⟨b11,s11,c11,d11,e11,f11⟩:=dD f10 16 (by omega) (by omega)
  rw [bo c11];dsimp only
  obtain ⟨t,c12,d12⟩:=A8 b11
  rw [bo c12]
  have hap:∀ m:Zb,app 144 ms [m]=some (ms++[m]):=by
   intro m;have:=a4.1;unfold app;rw [if_pos (by simp;omega)]
  rw [bo (hap _)]
  rw [bw (r:=i+1) (by omega) (by omega)]
  refine ⟨_,rfl,⟨by dsimp only;omega,by dsimp only;omega,f11,?_⟩,by dsimp only;omega⟩
  refine ⟨by have:=a4.1;simp;omega,?_⟩
  intro m hm
  simp only [List.mem_append,List.mem_cons,List.not_mem_nil,or_false] at hm
  rcases hm with hm | rfl
  ·exact a4.2 m hm
  show (strOfNums cl).size≤8;rw [yH];omega
 right
 rw [bH hi]
 exact ⟨_,rfl,by have:=a4.1;omega,a4.2⟩
theorem yI (l:List Zb) (x:Zj) (hx:∃ e,cB x=some e):fe l x=some ((lh l x).1.Total,(lh l x).2):=by
 unfold fe;rw [bo (xt l x hx)]
theorem yJ (s:ByteArray):dM s=some (kR s):=by
 unfold dM
 cases hs:((s.size:Int) == 2) with
 | false=>rw [vy hs];rfl
 | true =>
  obtain ⟨a,b,hd⟩:=sX hs
  have e0:idx s.data.toList 0=some a:=by rw [hd];rfl
  have e1:idx s.data.toList 1=some b:=by rw [hd];rfl
  rw [e0,e1]
  have hc:kR s=(decide (65≤(a.toNat:Int))&&decide ((a.toNat:Int)≤90)&&decide (65≤(b.toNat:Int))&&decide ((b.toNat:Int)≤90)):=by unfold kR;rw [hd]
  rw [hc]
  simp only [de,cJ,Bool.true_and]
  cases h1:decide (65≤(a.toNat:Int)) <;> cases h2:decide ((a.toNat:Int)≤90) <;> cases h3:decide (65≤(b.toNat:Int)) <;> simp [de,kz,h1,h2,h3]
def li (x:Za) (v3 v4:Int) (v5:Bool):Bool:=cond ((v5 && !kR x.Country)||(!v5 && !decide (x.Country=(⟨#[]⟩:ByteArray)))) false (decide (0≤x.Amount)&&decide (x.Amount≤v3)&&decide (0≤x.Company)&&decide (x.Company≤v4))
def nT (x:Za):Bool:=cond (x.Kind == 1) (li x 1000000000000 999 true) (cond (x.Kind == 2) (li x 0 0 false) (cond (x.Kind == 3) (li x 1000000000000 0 false) (cond (x.Kind == 4) (li x 0 0 true) (cond (x.Kind == 5) (li x 1000000000 0 false) false))))
def gW (x:Za):Bool:=cond (decide (x.From<0)||decide (999<x.From)||decide (x.Number<1)||decide (1000000000<x.Number)||decide (x.Day<0)||decide (36524<x.Day)) false (nT x)
theorem vK (x:Za):eY x=some (gW x):=by
 have hT:∀ (v3 v4:Int) (v5:Bool),(Option.bind (gd v5 (dM x.Country)) (fun x12=>cond ((v5&&(!x12))||((!v5)&&(!decide (x.Country=(⟨#[]⟩:ByteArray))))) (some false) (some ((((decide (0≤x.Amount))&&(decide (x.Amount≤v3)))&&(decide (0≤x.Company)))&&(decide (x.Company≤v4))))))=some (li x v3 v4 v5):=fun v3 v4 v5=>by
  rw [yJ]
  unfold li
  cases v5
  ·rw [kz]
   simp only [cJ,Bool.false_and,Bool.not_false,Bool.true_and,Bool.false_or]
   cases (!decide (x.Country=(⟨#[]⟩:ByteArray))) <;> rfl
  rw [de]
  simp only [cJ,Bool.true_and,Bool.not_true,Bool.false_and,Bool.or_false]
  cases (!kR x.Country) <;> rfl
 unfold eY gW nT
 cases (decide (x.From<0)||decide (999<x.From)||decide (x.Number<1)||decide (1000000000<x.Number)||decide (x.Day<0)||decide (36524<x.Day))
 ·simp only [dn]
  cases x.Kind == 1
  ·cases x.Kind == 2
   ·cases x.Kind == 3
    ·cases x.Kind == 4
     ·cases x.Kind == 5
      ·rfl
      simp only [dn,cQ,cJ];exact hT _ _ _
     simp only [dn,cQ,cJ];exact hT _ _ _
    simp only [dn,cQ,cJ];exact hT _ _ _
   simp only [dn,cQ,cJ];exact hT _ _ _
  simp only [cQ,cJ];exact hT _ _ _
 rfl
theorem uu {x:Za} (h:gW x=true):0≤x.Day∧x.Day≤36524:=by
 unfold gW at h
 cases hc:(decide (x.From<0)||decide (999<x.From)||decide (x.Number<1)||decide (1000000000<x.Number)||decide (x.Day<0)||decide (36524<x.Day)) with
 | true=>rw [hc] at h;cases h
 | false=>simp only [Bool.or_eq_false_iff,decide_eq_false_iff_not] at hc;omega
def tf (l:List UInt8):Bool:=l.all fun c => !(decide ((c.toNat:Int)<48)||decide (57<(c.toNat:Int)))
def nk (s:Int) (c:ByteArray) (u:Int):Bool:=cond (decide (s<1)||decide (1000000<s)||decide (u<1)||decide (1000000000<u)||((c.size:Int) != 8)) false (tf c.data.toList)
theorem zZ (s:Int) (c:ByteArray) (u:Int):eX s c u=some (nk s c u):=by
 unfold eX nk
 cases hc:(decide (s<1)||decide (1000000<s)||decide (u<1)||decide (1000000000<u)||((c.size:Int) != 8)) with
 | true=>rfl
 | false =>
  simp only [dn]
  have hs:c.data.toList.length=8:=by
   simp only [Bool.or_eq_false_iff,bne_eq_false_iff_eq] at hc
   have:=hc.2;rw [Array.length_toList];have e:c.size=c.data.size:=rfl;omega
  have e:(c.size:Int)=(c.data.toList.length:Int):=by rw [Array.length_toList];rfl
  rw [e]
  refine (lG (l:=c.data.toList) (by omega) (fun _ b=>cond (!(decide ((b.toNat:Int)<48)||decide (57<(b.toNat:Int)))) none (some (.inr false))) (.inl ()) (fun k hk=>?_) (by rw [kO];rfl)).trans ?_
  ·simp only [tp hk,cQ,bp hk,cJ,gV hk (show c.data.toList.length≤4611686018427387904 by omega)]
   cases decide (((c.data.toList[k]).toNat:Int)<48)
   ·simp only [Bool.not_false,de,cJ,Bool.false_or]
    cases decide (57<((c.data.toList[k]).toNat:Int)) <;> rfl
   simp only [Bool.not_true,kz,cJ,Bool.true_or];rfl
  rw [lH]
  unfold tf
  cases c.data.toList.all fun b => !(decide ((b.toNat:Int)<48)||decide (57<(b.toNat:Int))) <;> rfl
def tg {α:Type} (p:α→α→Bool):List α→Bool
 | []=>true
 | [_]=>true
 | x::y::l=>p x y&&tg p (y::l)
theorem xB {α T:Type} {l:List α} (hl:l.length≤4611686018427387904) {body:Int→Option (Int⊕T)} (p:α→α→Bool) (t e:T)
    (hstep:∀ (k:Nat) (hk:k+1<l.length),body ((k:Int)+1)=some (cond (p l[k] l[k+1]) (.inl ((k:Int)+2)) (.inr t))) (hend:∀ k:Int,(l.length:Int)≤k→1≤k→k≤(l.length:Int)+1→body k=some (.inr e)):aV body FUEL 1=some (cond (tg p l) e t):=by
  have main:∀ (m k N:Nat),m+k+1=l.length→m<N→aV body N ((k:Int)+1)=some (cond (tg p (l.drop k)) e t):=by
    intro m
    induction m with
    | zero =>
      intro k N hk hN
      obtain ⟨N,rfl⟩:∃ M,N=M+1:=⟨N - 1,by omega⟩
      have hd:l.drop k=[l[k]'(by omega)]:=by rw [List.drop_eq_getElem_cons (by omega),List.drop_of_length_le (by omega)]
      rw [fN,hend _ (by omega) (by omega) (by omega),hd];rfl
    | succ m ih =>
      intro k N hk hN
      obtain ⟨N,rfl⟩:∃ M,N=M+1:=⟨N - 1,by omega⟩
      have hd:l.drop k=l[k]'(by omega)::l[k+1]'(by omega)::l.drop (k+2):=by rw [List.drop_eq_getElem_cons (by omega),List.drop_eq_getElem_cons (by omega)]
      have hd2:l.drop (k+1)=l[k+1]'(by omega)::l.drop (k+2):=by rw [List.drop_eq_getElem_cons (by omega)]
      rw [fN,hstep k (by omega),hd,tg,← hd2]
      cases p (l[k]'(by omega)) (l[k+1]'(by omega))
      · rfl
      simp only [cQ,Bool.true_and]
      have:=ih (k+1) N (by omega) (by omega)
      rw [show ((k+1:Nat):Int)+1=(k:Int)+2 by omega] at this
      exact this
  cases l with
  | nil =>
    obtain ⟨N,hN⟩:∃ N,FUEL=N+1:=⟨FUEL - 1,by unfold FUEL;omega⟩
    rw [hN,fN,hend 1 (by simp) (by omega) (by simp)];rfl
  | cons x xs=>exact main xs.length 0 FUEL (by simp) (gH (by simp at hl;omega))
def Dc (l:List Za):Bool:=tg cT l
theorem iD (x y:Za):cT x y=true↔x.From<y.From∨(x.From=y.From∧x.Number<y.Number):=by simp [cT]
theorem uv (x y:Za):cT x y=false↔¬ (x.From<y.From∨(x.From=y.From∧x.Number<y.Number)):=by rw [← iD];simp
theorem nl (x y z:Za):cT x y=true→cT y z=true→cT x z=true:=by simp only [iD];omega
theorem yK {α:Type} {p:α→α→Bool} (tr:∀ x y z,p x y=true→p y z=true→p x z=true):∀ {l:List α},tg p l=true↔l.Pairwise (fun x y=>p x y=true)
 | []=>by simp [tg]
 | [x]=>by simp [tg]
 | x::y::l=>by
  rw [tg,Bool.and_eq_true,yK tr,List.pairwise_cons (a:=x)]
  constructor
  ·rintro ⟨h1,h2⟩
   refine ⟨fun z hz=>?_,h2⟩
   rcases List.mem_cons.1 hz with rfl | hz
   ·exact h1
   exact tr _ _ _ h1 ((List.pairwise_cons.1 h2).1 z hz)
  rintro ⟨h1,h2⟩;exact ⟨h1 y (by simp),h2⟩
def th (f:Zm):Int:=cond (!nk f.Source f.Code f.Units) 2 (cond (decide (200<(f.Facts.length:Int))) 8 (cond (f.Facts.all gW) (cond (Dc f.Facts) 0 9) 2))
theorem lj (f:Zm):fA f=some (th f):=by
 unfold fA th
 rw [zZ,cJ]
 cases nk f.Source f.Code f.Units with
 | false=>rfl
 | true =>
  simp only [Bool.not_true,dn]
  cases hl:decide (200<(f.Facts.length:Int)) with
  | true=>rfl
  | false =>
   have hl:=of_decide_eq_false hl
   simp only [dn]
   refine (lG (l:=f.Facts) (by omega) (fun _ x=>cond (gW x) none (some (.inr (2:Int)))) (.inl ()) (fun k hk=>?_) (by rw [kO];rfl)).trans ?_
   ·simp only [tp hk,cQ,bp hk,cJ,gV hk (show f.Facts.length≤4611686018427387904 by omega),vK]
    cases gW f.Facts[k] <;> rfl
   rw [lH]
   cases hv:f.Facts.all gW with
   | false=>rfl
   | true =>
    simp only [cQ,Option.getD_none]
    rw [xB (l:=f.Facts) (by omega) cT (.inr (9:Int)) (.inl ()) (fun k hk=>?_) (fun k h1 h2 h3=>?_)]
    ·unfold Dc;cases tg cT f.Facts <;> rfl
    ·rw [det (by omega:(k:Int)+1<(f.Facts.length:Int)),cQ,bw (r:=(k:Int)+1 - 1) (by omega) (by omega),show (k:Int)+1 - 1=(k:Int) by omega,show (k:Int)+1=((k+1:Nat):Int) by omega,bp (show k<f.Facts.length by omega),bp hk]
     simp only [cJ,pq]
     rw [bw (by omega) (by omega)]
     have e:decide (0≤jf f.Facts[k] f.Facts[k+1]) = !cT f.Facts[k] f.Facts[k+1]:=by rw [← qn,← decide_not];exact decide_eq_decide.2 (by omega)
     rw [e]
     cases cT f.Facts[k] f.Facts[k+1]
     ·rfl
     show some (Sum.inl _)=some (Sum.inl _);congr 2 <;> omega
    rw [bH (by omega)];rfl
structure FileOk (f:Zm):Prop where
 head:nk f.Source f.Code f.Units=true
 len:f.Facts.length≤200
 val:∀ x∈f.Facts,gW x=true
 asc:f.Facts.Pairwise (fun x y=>cT x y=true)
theorem nm (f:Zm):th f=0↔FileOk f:=by
 unfold th
 cases h1:nk f.Source f.Code f.Units with
 | false=>exact ⟨fun h=>by simp at h,fun h=>by rw [h.head] at h1;cases h1⟩
 | true =>
  cases h2:decide (200<(f.Facts.length:Int)) with
  | true=>exact ⟨fun h=>by simp at h,fun h=>by have:=h.len;have:=of_decide_eq_true h2;omega⟩
  | false =>
   have h2:=of_decide_eq_false h2
   cases h3:f.Facts.all gW with
   | false=>exact ⟨fun h=>by simp at h,fun h=>by rw [List.all_eq_true.2 h.val] at h3;cases h3⟩
   | true =>
    cases h4:Dc f.Facts with
    | false=>exact ⟨fun h=>by simp at h,fun h=>by unfold Dc at h4;rw [(yK nl).2 h.asc] at h4;cases h4⟩
    | true=>exact ⟨fun _=>⟨h1,by omega,List.all_eq_true.1 h3,(yK nl).1 h4⟩,fun _=>rfl⟩
theorem half_u (x:Nat) (h:x≤10000000):IntKind.i64.wrap (cw .u64 (IntKind.u64.wrap (IntKind.i64.wrap (x:Int))) 1)=((x / 2:Nat):Int):=by
 rw [bw (r:=(x:Int)) (by omega) (by omega),u64s (by omega) (by omega)]
 have:cw .u64 (x:Int) 1=(x:Int) / 2:=Int.fdiv_eq_ediv_of_nonneg _ (by decide)
 rw [this,bw (by omega) (by omega)];omega
theorem kM (x y:Za):jf x y=0↔x.From=y.From∧x.Number=y.Number:=by
 unfold jf
 by_cases h:x.From=y.From
 ·rw [if_pos ((iB _ _).2 h),iB];exact ⟨fun e=>⟨h,e⟩,fun e=>e.2⟩
 rw [if_neg (fun e=>h ((iB _ _).1 e)),iB];exact ⟨fun e=>absurd e h,fun e=>absurd e.1 h⟩
structure Low (l:List Za) (x:Za) (j:Nat):Prop where
 le:j≤l.length
 lo:∀ (k:Nat) (y:Za),l[k]?=some y→k<j→cT y x=true
 hi:∀ (k:Nat) (y:Za),l[k]?=some y→j≤k→cT y x=false
theorem z6:∀ {l:List Za} {x:Za} {j:Nat},Low l x j→l.take j++[x]++l.drop j=mI cT x l
 | [],x,j,h=>by
  have:=h.le;simp only [List.length_nil] at this;have:j=0:=by omega
  subst this;rfl
 | y::l,x,0,h=>by
  have:=h.hi 0 y rfl (Nat.le_refl _)
  unfold mI;rw [this];rfl
 | y::l,x,j+1,h=>by
  have h1:=h.lo 0 y rfl (by omega)
  have ih:=z6 (l:=l) (x:=x) (j:=j) ⟨by have:=h.le;simp at this;omega,fun k z hz hk=>h.lo (k+1) z (by simpa using hz) (by omega),fun k z hz hk=>h.hi (k+1) z (by simpa using hz) (by omega)⟩
  unfold mI;rw [h1,cQ,← ih];rfl
theorem uw {l:List Za} (x:Za) (hl:l.length≤200) (hs:l.Pairwise fun a b=>cT a b=true):∃ j:Nat,Low l x j∧aO l x (fun y8 y9=>dz y8 y9)=some ((j:Int),match l[j]? with | some y=>jf y x == 0 | none=>false):=by
 unfold aO
 have hloop:Y (aV (S:=Int×Int) (T:=(Int)) (fun (v2,v3)=>cond (decide (v2<v3)) (lb ((IntKind.i64.wrap (cw .u64 (IntKind.u64.wrap (IntKind.i64.wrap (v2+v3))) 1))) (fun w8=>Option.bind (idx l w8) (fun m9=>Option.bind (dz m9 x) (fun x10=>cond (decide (x10<0)) (some (.inl ((IntKind.i64.wrap (w8+1)),v3))) (some (.inl (v2,w8))))))) (some (.inr v2))) FUEL (0,(l.length:Int))) (fun t=>∃ j:Nat,t=(j:Int)∧Low l x j):=by
  refine Y.loop (fun s:Int×Int=>∃ i j:Nat,s.1=(i:Int)∧s.2=(j:Int)∧i≤j∧j≤l.length∧(∀ (k:Nat) (p:Za),l[k]?=some p→k<i→cT p x=true)∧(∀ (k:Nat) (p:Za),l[k]?=some p→j≤k→cT p x=false)) (fun s=>(s.2 - s.1).toNat) ⟨0,l.length,rfl,rfl,by omega,by omega,fun k p _ hk=>absurd hk (Nat.not_lt_zero _),fun k p hp hk=>by have:=(List.getElem?_eq_some_iff.1 hp).1;omega⟩ (by dsimp only;omega) fun s hs'=>?_
  obtain ⟨a,b⟩:=s
  obtain ⟨i,j,rfl,rfl,h1,h2,h3,h4⟩:=hs'
  dsimp only
  refine Y.cond (fun hc=>?_) (fun hc=>Y.ret ⟨i,rfl,by omega,h3,fun k p hp hk=>h4 k p hp (by have:=of_decide_eq_false hc;omega)⟩)
  have hc:i<j:=by have:=of_decide_eq_true hc;omega
  unfold lb
  rw [show (i:Int)+(j:Int)=((i+j:Nat):Int) by omega,half_u _ (by omega)]
  have hm:(i+j) / 2<l.length:=by omega
  have pw:=List.pairwise_iff_getElem.1 hs
  refine Y.idx rfl hm (Y.eq (pq _ _) ?_)
  rw [qn]
  cases hlt:cT l[(i+j) / 2] x with
  | true =>
   refine Y.ret ⟨⟨(i+j) / 2+1,j,?_,rfl,by omega,h2,fun k p hp hk=>?_,h4⟩,?_⟩
   ·show IntKind.i64.wrap _=_;rw [bw (by omega) (by omega)];omega
   ·obtain ⟨hk2,rfl⟩:=List.getElem?_eq_some_iff.1 hp
    rcases Nat.lt_or_ge k ((i+j) / 2) with h5 | h5
    ·exact nl _ _ _ (pw k ((i+j) / 2) hk2 hm h5) hlt
    have e:k=(i+j) / 2:=by omega
    subst e;exact hlt
   ·show ((j:Int) - IntKind.i64.wrap _).toNat<_;rw [bw (by omega) (by omega)];omega
  | false =>
   refine Y.ret ⟨⟨i,(i+j) / 2,rfl,rfl,by omega,by omega,h3,fun k p hp hk=>?_⟩,by dsimp only;omega⟩
   obtain ⟨hk2,rfl⟩:=List.getElem?_eq_some_iff.1 hp
   rcases Nat.lt_or_ge ((i+j) / 2) k with h5 | h5
   ·have h6:=pw ((i+j) / 2) k hm hk2 h5
    cases h7:cT l[k] x with
    | false=>rfl
    | true=>rw [nl _ _ _ h6 h7] at hlt;cases hlt
   have e:k=(i+j) / 2:=by omega
   subst e;exact hlt
 obtain ⟨t,e,j,rfl,hj⟩:=hloop
 refine ⟨j,hj,?_⟩
 rw [bo e]
 rcases Nat.lt_or_ge j l.length with hjl | hjl
 ·rw [det (by omega:(j:Int)<(l.length:Int)),de,bp hjl,cJ,de];dsimp only;rw [pq,cJ,List.getElem?_eq_getElem hjl];rfl
 rw [bH (by omega:¬ (j:Int)<(l.length:Int)),kz]
 simp only [cJ,kz]
 rw [List.getElem?_eq_none hjl];rfl
theorem vL {x z:Za} {l:List Za}:z∈mI cT x l↔z=x∨z∈l:=by rw [jF.mem_iff,List.mem_cons]
theorem z7 {x:Za} {l:List Za}:(mI cT x l).length=l.length+1:=by rw [jF.length_eq,List.length_cons]
theorem z8 {x:Za}:∀ {l:List Za},(∀ y∈l,jf y x≠0)→l.Pairwise (fun a b=>cT a b=true)→(mI cT x l).Pairwise (fun a b=>cT a b=true)
 | [],_,_=>by simp [mI]
 | y::l,hx,h=>by
  obtain ⟨h1,h2⟩:=List.pairwise_cons.1 h
  unfold mI
  cases hy:cT y x with
  | true =>
   simp only [cQ]
   refine List.pairwise_cons.2 ⟨fun z hz=>?_,z8 (fun y hy=>hx y (by simp [hy])) h2⟩
   rcases vL.1 hz with rfl | hz
   ·exact hy
   ·exact h1 z hz
  | false =>
   simp only [dn]
   have hxy:cT x y=true:=by
    have:=hx y (by simp)
    rw [Ne,kM] at this
    rw [uv] at hy;rw [iD];omega
   refine List.pairwise_cons.2 ⟨fun z hz=>?_,h⟩
   rcases List.mem_cons.1 hz with rfl | hz
   ·exact hxy
   exact nl _ _ _ hxy (h1 z hz)
def zFile:Zm:=⟨0,ByteArray.empty,0,[]⟩
theorem xC {l:List Za} (h:l.length≤1000):bE l=some l:=by
 unfold bE
 rw [p9 (by simp;omega) (by simp;omega)];rfl
theorem A9 {l:List Za} {x:Za} {j:Nat} (h:j≤l.length) (hl:l.length≤200):bg l (j:Int) [x]=some (l.take j++[x]++l.drop j):=by
 unfold bg
 dsimp only
 rw [if_pos ⟨by omega,by simpa using h,hl⟩];simp
theorem pick_of {l:List Za} {x:Za} {j:Nat} (hj:Low l x j) (hs:l.Pairwise fun a b=>cT a b=true) {y:Za} (hy:y∈l) (hk:jf y x=0):l[j]?=some y:=by
 obtain ⟨k,hkl,rfl⟩:=List.getElem_of_mem hy
 have hz:=(kM _ _).1 hk
 have h1:¬ k<j:=fun h=>by have:=hj.lo k _ (List.getElem?_eq_getElem hkl) h;rw [iD] at this;omega
 have h2:¬ j<k:=fun h=>by
  have h3:=List.pairwise_iff_getElem.1 hs j k (by omega) hkl h
  have h4:=hj.hi j _ (List.getElem?_eq_getElem (by omega)) (Nat.le_refl _)
  rw [iD] at h3;rw [uv] at h4;omega
 have:k=j:=by omega
 subst this;exact List.getElem?_eq_getElem hkl
theorem Dd {f:Zm} {x:Za} (hf:FileOk f) (hx:x∈f.Facts):dH f x=some (f,0):=by
 obtain ⟨j,hj,e⟩:=uw x hf.len hf.asc
 have hp:=pick_of hj hf.asc hx ((kM _ _).2 ⟨rfl,rfl⟩)
 obtain ⟨hjl,hje⟩:=List.getElem?_eq_some_iff.1 hp
 unfold dH
 rw [lj,(nm f).2 hf,cJ,show ((0:Int) != 0)=false from rfl,dn,vK,hf.val x hx,cJ,Bool.not_true,dn,bo e,hp]
 have h0:(jf x x == 0)=true:=by rw [(kM _ _).2 ⟨rfl,rfl⟩];rfl
 simp only [h0,de,bp hjl,cJ,hje]
 have h1:Za.eqb x x=true:=Za.eqb_iff.2 rfl
 rw [h1]
 simp only [Bool.not_true,Bool.and_false,Bool.false_and,dn,xC (show f.Facts.length≤1000 by have:=hf.len;omega),cJ]
theorem Ba {f:Zm} {x:Za} (hf:FileOk f) (hv:gW x=true) (hl:f.Facts.length<200) (hx:∀ y∈f.Facts,jf y x≠0):dH f x=some (⟨f.Source,f.Code,f.Units,mI cT x f.Facts⟩,0):=by
 obtain ⟨j,hj,e⟩:=uw x hf.len hf.asc
 have hn:(match f.Facts[j]? with | some y=>jf y x == 0 | none=>false)=false:=by
  split
  ·rename_i y hy;have:=hx y (List.mem_of_getElem? hy);simpa using this
  rfl
 unfold dH
 rw [lj,(nm f).2 hf,cJ,show ((0:Int) != 0)=false from rfl,dn,vK,hv,cJ,Bool.not_true,dn,bo e,hn]
 simp only [kz,cJ,Bool.false_and,dn,Bool.not_false,Bool.true_and]
 rw [bH (by omega:¬ (200:Int)≤(f.Facts.length:Int)),dn,xC (by omega),cJ,cQ,A9 hj.le (by omega),z6 hj]
 rfl
theorem De {f:Zm} {x:Za} (hf:FileOk f) (hv:gW x=true) (hl:f.Facts.length<200) (hx:∀ y∈f.Facts,jf y x≠0):FileOk ⟨f.Source,f.Code,f.Units,mI cT x f.Facts⟩ :=
 ⟨hf.head,by dsimp only;rw [z7];omega,fun z hz=>by rcases vL.1 hz with rfl | hz;exact hv;exact hf.val z hz,z8 hx hf.asc⟩
def vM (l:List Za) (x:Za):List Za:=cond (decide (x∈l)) l (mI cT x l)
theorem Df {l:List Za} {x z:Za}:z∈vM l x↔z=x∨z∈l:=by
 unfold vM
 cases h:decide (x∈l) with
 | true =>
  have h:=of_decide_eq_true h
  simp only [cQ];exact ⟨.inr,fun h'=>h'.elim (fun e=>e ▸ h) id⟩
 | false=>simp only [dn];exact vL
theorem Dg {l:List Za} {x:Za}:(vM l x).length≤l.length+1:=by
 unfold vM
 cases decide (x∈l)
 ·simp only [dn,z7];exact Nat.le_refl _
 simp only [cQ];omega
theorem Bb {f:Zm} {x:Za} (hf:FileOk f) (hv:gW x=true) (hl:f.Facts.length<200) (hx:∀ y∈f.Facts,jf y x=0→y=x):dH f x=some (⟨f.Source,f.Code,f.Units,vM f.Facts x⟩,0)∧FileOk ⟨f.Source,f.Code,f.Units,vM f.Facts x⟩:=by
 unfold vM
 cases h:decide (x∈f.Facts) with
 | true=>exact ⟨Dd hf (of_decide_eq_true h),hf⟩
 | false =>
  have h:=of_decide_eq_false h
  have hn:∀ y∈f.Facts,jf y x≠0:=fun y hy e=>h (hx y hy e ▸ hy)
  exact ⟨Ba hf hv hl hn,De hf hv hl hn⟩
structure Agr (L:List Za):Prop where
 len:L.length≤100
 val:∀ x∈L,gW x=true
 key:∀ x∈L,∀ y∈L,jf x y=0→x=y
def ux (L:List Za):List Za:=L.foldl vM []
def np:ByteArray:=⟨#[49,48,48,48,48,48,48,48]⟩
theorem head1 {u:Int} (h1:1≤u) (h2:u≤1000):nk 7 np u=true:=by
 unfold nk
 rw [bH (by omega:¬ u<1),bH (by omega:¬ (1000000000:Int)<u)]
 rfl
theorem file_eq {L:List Za} {u:Int} (hL:Agr L) (h1:1≤u) (h2:u≤1000):kL u L=some (⟨7,np,u,ux L⟩,true)∧FileOk ⟨7,np,u,ux L⟩∧(ux L).length≤L.length∧∀ z,z∈ux L↔z∈L:=by
 have h0:FileOk ⟨7,np,u,[]⟩:=⟨head1 h1 h2,by simp,(fun x hx=>nomatch hx),List.Pairwise.nil⟩
 have hlen:=hL.len
 unfold kL lM
 rw [show (⟨#[49,48,48,48,48,48,48,48]⟩:ByteArray)=np from rfl,zZ,head1 h1 h2]
 simp only [cJ,Bool.not_true,dn]
 have key:=nA (β:=Zm×Bool) (l:=L) (by omega) (body:=fun (v4,v5,v6,v7,v8,l9)=>cond ((decide (v5<(L.length:Int)))&&(v4 == 0)) (Option.bind (idx L v5) (fun m18=>Option.bind (dH (⟨v6,v7,v8,l9⟩:Zm) m18) (fun x19=>some (.inl (x19.2,(IntKind.i64.wrap (v5+1)),x19.1.Source,x19.1.Code,x19.1.Units,x19.1.Facts))))) (some (.inr (v4,v6,v7,v8,l9))))
  (k:=fun (v10,v11,v12,v13,l14)=>some ((⟨v11,v12,v13,l14⟩:Zm),(v10 == 0))) (fun i (a:List Za)=>((0:Int),i,(7:Int),np,u,a)) vM (fun a=>((0:Int),(7:Int),np,u,a)) (fun k a=>FileOk ⟨7,np,u,a⟩∧a.length≤k∧(∀ z,z∈a↔z∈L.take k)) [] ⟨h0,by simp,fun z=>by simp⟩ (fun k hk a ⟨p1,p2,p3⟩=>by
   have hx:L[k]∈L:=List.getElem_mem hk
   obtain ⟨e1,e2⟩:=Bb (x:=L[k]) p1 (hL.val _ hx) (by dsimp only;omega) (fun y hy=>hL.key y (List.mem_of_mem_take ((p3 y).1 hy)) _ hx)
   dsimp only at e1 e2 ⊢
   rw [tp hk,show (((0:Int) == 0)=true) from rfl,Bool.and_self,cQ,bp hk,cJ,e1,cJ,gV hk (by omega)]
   refine ⟨rfl,e2,by have:=Dg (l:=a) (x:=L[k]);omega,fun z=>?_⟩
   rw [Df,p3,List.take_add_one,List.getElem?_eq_getElem hk,List.mem_append,Option.toList_some,List.mem_singleton]
   exact or_comm) (fun a _=>by dsimp only;rw [kO];rfl)
 obtain ⟨e,p1,p2,p3⟩:=key
 refine ⟨e,p1,p2,fun z=>?_⟩
 have:=p3 z
 rw [List.take_length] at this
 exact this
theorem lT {X S T:Type} (f:S→X→S):∀ (xs:List X) (s:S),kI (T:=T) (fun s x=>some (.inl (f s x))) s xs=some (.inl (xs.foldl f s))
 | [],_=>rfl
 | x::xs,s=>by rw [kI];exact lT f xs (f s x)
theorem xD {T:Type}:∀ (xs l:List Za),(l.length+xs.length)≤100000→kI (T:=T) (fun l3 x8=>Option.bind (app 64 l3 [x8]) (fun l13=>some (.inl l13))) l xs=some (.inl (l++xs))
 | [],l,_=>by rw [kI,List.append_nil]
 | x::xs,l,h=>by
  simp only [List.length_cons] at h
  rw [kI,p9 (by simp;omega) (by simp;omega),cJ]
  dsimp only
  rw [xD xs (l++[x]) (by simp;omega)];simp
theorem yL:∀ {l:List Za},l.Pairwise (fun a b=>cT a b=true)→DA l=true
 | [],_=>rfl
 | x::l,h=>by
  obtain ⟨h1,h2⟩:=List.pairwise_cons.1 h
  rw [DA,Bool.and_eq_true,List.all_eq_true]
  refine ⟨fun y hy=>?_,yL h2⟩
  have:=h1 y hy
  rw [iD] at this
  rw [Bool.or_eq_true,jt,jt];omega
theorem Bc {l:List Za} (h:l.Pairwise (fun a b=>cT a b=true)) (hl:l.length≤1000):cj l=some (fi cO l):=by
 unfold cj dq bM bi
 rw [xD (T:=Empty) l [] (by simp;omega)]
 simp only [cJ,List.nil_append,yL h,cQ]
theorem qw {l:List Za} (k d:Int) (hl:l.length≤1000):ei l k d=some (lS l k d):=by
 unfold ei
 rw [show qo l=true from Nat.ble_eq_true_of_le (by omega)];rfl
theorem Bd {l:List Za} (hl:l.length≤1000):bB l=some l:=by
 unfold bB
 rw [show qo l=true from Nat.ble_eq_true_of_le (by omega)];rfl
def mG (day:Int):Int:=match dg day 36 with | some r=>cond (r.2 != 0) 36524 r.1 | none=>0
theorem last_eq {day:Int} (h0:0≤day) (h1:day≤36524):(∃ r,dg day 36=some r∧mG day=cond (r.2 != 0) 36524 r.1)∧30≤mG day:=by
 obtain ⟨_,_,n,m,d,_,hd⟩:=of_Y h0 h1
 have e:=Cz h0 h1 hd
 have g:=addS_ge (n:=n) hd.m11 hd.d0
 have e2:mG day=cond ((qf n m d).2 != 0) 36524 (qf n m d).1:=by unfold mG;rw [e]
 refine ⟨⟨_,e,e2⟩,?_⟩
 rw [e2]
 cases hc:((qf n m d).2 != 0) with
 | true=>simp
 | false=>simp only [dn];exact g (by simpa using hc)
def zItem:Zj:=⟨ByteArray.empty,ByteArray.empty,false,0,0,0,0,0⟩
def rD (f:Zm) (S:List Za) (d:Za):Zj :=
 ⟨f.Code,(lS S 4 (mG d.Day)).foldl (fun _ x=>x.Country) d.Country,(lS S 2 (mG d.Day)).foldl (fun _ _=>true) false,d.Company,d.Day,f.Units,(lS S 3 (mG d.Day)).foldl (fun _ x=>x.Amount) d.Amount,(lS f.Facts 5 36524).foldl (fun _ x=>eT f.Units x.Amount) 0⟩
theorem Be {f:Zm} {S:List Za} {d:Za} (h0:0≤d.Day) (h1:d.Day≤36524) (hS:S.length≤1000) (hF:f.Facts.length≤1000):ja f S d=some (rD f S d):=by
 obtain ⟨⟨r,e,e2⟩,_⟩:=last_eq h0 h1
 unfold ja rD
 have e3:(cond (r.2 != 0) (some 36524) (some r.1):Option Int)=some (mG d.Day):=by rw [e2];cases (r.2 != 0) <;> rfl
 rw [bo e]
 simp only [e3,cJ,qw _ _ hS,qw _ _ hF]
 rw [lT (fun _ _=>true)]
 simp only [cJ]
 rw [lT (fun (_:Int) (x:Za)=>x.Amount)]
 simp only [cJ]
 rw [lT (fun (_:ByteArray) (x:Za)=>x.Country)]
 simp only [cJ]
 rw [lT (fun (_:Int) (x:Za)=>eT f.Units x.Amount)]
 rfl
def qP (f:Zm):Zj×Bool:=match lS (fi cO f.Facts) 1 36524 with
 | []=>(zItem,false)
 | d::_=>(rD f (fi cO f.Facts) d,true)
theorem nG {l:List Za} {z:Za}:z∈fi cO l↔z∈l:=mq.mem_iff
theorem item_eq {f:Zm} (hf:FileOk f):fV f=some (qP f):=by
 have hl:f.Facts.length≤1000:=by have:=hf.len;omega
 have hS:(fi cO f.Facts).length≤1000:=by rw [qg];exact hl
 unfold fV qP
 rw [lj,(nm f).2 hf,cJ,show ((0:Int) != 0)=false from rfl,dn,Bd hl,cJ,Bc hf.asc hl,cJ,qw _ _ hS,cJ]
 cases hk:lS (fi cO f.Facts) 1 36524 with
 | nil=>rfl
 | cons d l =>
  have hd:d∈f.Facts:=by
   have:d∈lS (fi cO f.Facts) 1 36524:=by rw [hk];simp
   exact nG.1 (List.mem_filter.1 this).1
  have hv:=uu (hf.val d hd)
  rw [kI,Be hv.1 hv.2 hS hl];rfl
theorem small_Y {p:Ze} (hp:SOK p) (few n:Int) (h1:1≤few) (h2:few≤n) (h3:n≤4611686018427387904):Y (kB p few n) (fun r=>0≤r.1∧r.1<n∧SOK r.2):=by
 unfold kB
 refine (js hp 5 (by omega) (by omega)).bind fun a ⟨_,_,k3⟩=>?_
 refine Y.cond (fun _=>?_) (fun _=>?_)
 ·exact (js k3 n (by omega) h3).bind fun b ⟨j1,j2,j3⟩=>Y.ret ⟨j1,j2,j3⟩
 exact (js k3 few h1 (by omega)).bind fun b ⟨j1,j2,j3⟩=>Y.ret ⟨j1,by dsimp only;omega,j3⟩
structure MF (i:Nat) (x:Za):Prop where
 val:gW x=true
 frm:0≤x.From∧x.From≤200
 num:x.Number=((i:Int)*5+2) % 17+1
def cts:List ByteArray:=[⟨#[65,65]⟩,⟨#[66,66]⟩,⟨#[67,67]⟩,⟨#[68,68]⟩,⟨#[69,69]⟩,⟨#[70,70]⟩]
theorem Dh:∀ s∈cts,kR s=true:=List.all_eq_true.1 (by kernel_rfl:cts.all kR=true)
theorem fact_mk {F N D K A C:Int} {s:ByteArray} (h1:0≤F∧F≤200) (h2:1≤N∧N≤17) (h3:0≤D∧D≤36524) (hk:nT ⟨F,N,D,K,s,A,C⟩=true):gW ⟨F,N,D,K,s,A,C⟩=true:=by
 unfold gW
 dsimp only
 rw [bH (by omega:¬ F<0),bH (by omega:¬ (999:Int)<F),bH (by omega:¬ N<1),bH (by omega:¬ (1000000000:Int)<N),bH (by omega:¬ D<0),bH (by omega:¬ (36524:Int)<D)]
 exact hk
theorem qy:decide (ByteArray.empty=(⟨#[]⟩:ByteArray))=true:=by decide
theorem facts_Y (l:List Int):Y (gI l) (fun xs=>xs.length≤14∧∀ (i:Nat) (x:Za),xs[i]?=some x→MF i x):=by
 unfold gI
 refine (cut_Y l 80 (by omega) (by omega)).bind fun c hc=>?_
 refine Y.bind (P:=fun xs=>xs.length≤14∧∀ (i:Nat) (x:Za),xs[i]?=some x→MF i x) ?_ (fun xs h=>Y.ret h)
 refine Y.loop (fun s:(List Za)×(List Int)×Int=>SOK ⟨s.2.1,s.2.2⟩∧s.1.length≤14∧∀ (i:Nat) (x:Za),s.1[i]?=some x→MF i x) (fun s=>14 - s.1.length) ⟨hc,by simp,fun i x h=>by simp at h⟩ (by dsimp only;omega) ?_
 rintro ⟨a,b,c⟩ ⟨h1,h2,h3⟩
 dsimp only at h1 h2 h3 ⊢
 unfold gP
 simp only [cJ]
 refine Y.cond (fun hcond=>?_) (fun _=>Y.ret ⟨h2,h3⟩)
 have hlt:a.length<14:=by simp only [Bool.and_eq_true,decide_eq_true_eq] at hcond;omega
 refine (js h1 3 (by omega) (by omega)).bind fun x18 ⟨p1,p2,p3⟩=>?_
 refine (js p3 30 (by omega) (by omega)).bind fun x19 ⟨q1,q2,q3⟩=>?_
 refine (js q3 5 (by omega) (by omega)).bind fun x20 ⟨r1,r2,r3⟩=>?_
 refine (js r3 8 (by omega) (by omega)).bind fun x22 ⟨s1,s2,s3⟩=>?_
 refine Y.bind (P:=fun r:List Int×Int×Int=>SOK ⟨r.1,r.2.1⟩∧0≤r.2.2∧r.2.2≤36524) ?_ ?_
 ·refine Y.cond (fun _=>?_) (fun _=>Y.ret ⟨s3,q1,by dsimp only;omega⟩)
  exact (js s3 2500 (by omega) (by omega)).bind fun x29 ⟨t1,t2,t3⟩=>Y.ret ⟨t3,t1,by dsimp only;omega⟩
 rintro ⟨l24,v25,v26⟩ ⟨t1,t2,t3⟩
 dsimp only at t1 t2 t3 ⊢
 rw [bw (r:=1+x20.1) (by omega) (by omega)]
 refine Y.bind (P:=fun r:List Int×Int×ByteArray×Int×Int=>SOK ⟨r.1,r.2.1⟩∧∀ F N D,nT ⟨F,N,D,1+x20.1,r.2.2.1,r.2.2.2.1,r.2.2.2.2⟩=true) ?_ ?_
 ·refine Y.cond (fun hk=>?_) (fun hk=>?_)
  ·unfold da
   refine Y.eq rfl ?_
   refine (js t1 3 (by omega) (by omega)).bind fun x39 ⟨u1,u2,u3⟩=>?_
   refine Y.idx (xs:=cts) (n:=x39.1.toNat) (by omega) (by show x39.1.toNat<6;omega) ?_
   refine (small_Y u3 5000 1000000000001 (by omega) (by omega) (by omega)).bind fun x41 ⟨w1,w2,w3⟩=>?_
   refine (js w3 3 (by omega) (by omega)).bind fun x42 ⟨z1,z2,z3⟩=>Y.ret ⟨z3,fun F N D=>?_⟩
   have hs:kR (cts[x39.1.toNat]'(by show x39.1.toNat<6;omega))=true:=Dh _ (List.getElem_mem _)
   unfold nT li
   dsimp only
   rw [hk,cQ,hs,det (by omega:0≤x41.1),det (by omega:x41.1≤1000000000000),det z1,det (by omega:x42.1≤999)];rfl
  refine Y.cond (fun hk3=>?_) (fun hk3=>?_)
  ·refine (js t1 6000 (by omega) (by omega)).bind fun x44 ⟨u1,u2,u3⟩=>Y.ret ⟨u3,fun F N D=>?_⟩
   have e:1+x20.1=3:=eq_of_beq hk3
   unfold nT li
   dsimp only
   rw [e,qy,det u1,det (by omega:x44.1≤1000000000000)];rfl
  refine Y.cond (fun hk4=>?_) (fun hk4=>?_)
  ·unfold da
   refine Y.eq rfl ?_
   refine (js t1 3 (by omega) (by omega)).bind fun x47 ⟨u1,u2,u3⟩=>?_
   refine Y.idx (xs:=cts) (n:=x47.1.toNat) (by omega) (by show x47.1.toNat<6;omega) (Y.ret ⟨u3,fun F N D=>?_⟩)
   have e:1+x20.1=4:=eq_of_beq hk4
   have hs:kR (cts[x47.1.toNat]'(by show x47.1.toNat<6;omega))=true:=Dh _ (List.getElem_mem _)
   unfold nT li
   dsimp only
   rw [e,hs];rfl
  refine Y.cond (fun hk5=>?_) (fun hk5=>?_)
  ·refine (js t1 40 (by omega) (by omega)).bind fun x50 ⟨u1,u2,u3⟩=>Y.ret ⟨u3,fun F N D=>?_⟩
   have e:1+x20.1=5:=eq_of_beq hk5
   unfold nT li
   dsimp only
   rw [e,qy,det u1,det (by omega:x50.1≤1000000000)];rfl
  refine Y.ret ⟨t1,fun F N D=>?_⟩
  have e:1+x20.1=2:=by
   have k1:¬ 1+x20.1=1:=by simpa using hk
   have k3:¬ 1+x20.1=3:=by simpa using hk3
   have k4:¬ 1+x20.1=4:=by simpa using hk4
   have k5:¬ 1+x20.1=5:=by simpa using hk5
   omega
  unfold nT li
  dsimp only
  rw [e,qy];rfl
 rintro ⟨l31,v32,v33,v34,v35⟩ ⟨u1,u2⟩
 dsimp only at u1 u2 ⊢
 rw [p9 (by simp;omega) (by simp;omega),cJ]
 refine Y.ret ⟨⟨u1,by simp;omega,fun i x hx=>?_⟩,by simp;omega⟩
 rcases Nat.lt_or_ge i a.length with hi | hi
 ·rw [List.getElem?_append_left hi] at hx;exact h3 i x hx
 rw [List.getElem?_append_right hi] at hx
 have hi2:i=a.length:=by
  have:=(List.getElem?_eq_some_iff.1 hx).1;simp at this;omega
 subst hi2
 rw [Nat.sub_self,List.getElem?_cons_zero] at hx
 obtain rfl:=Option.some.inj hx
 have e1:IntKind.i64.wrap (x18.1*100)=x18.1*100:=bw (by omega) (by omega)
 have e2:IntKind.i64.wrap (Int.tmod (IntKind.i64.wrap (IntKind.i64.wrap ((a.length:Int)*5)+2)) 17+1)=((a.length:Int)*5+2) % 17+1:=by
  rw [bw (r:=(a.length:Int)*5) (by omega) (by omega),bw (r:=(a.length:Int)*5+2) (by omega) (by omega),Int.tmod_eq_emod_of_nonneg (by omega),bw (by omega) (by omega)]
 rw [e1,e2]
 exact ⟨fact_mk (by omega) (by omega) ⟨t2,t3⟩ (u2 _ _ _),by dsimp only;omega,rfl⟩
theorem Bf {xs:List Za} (h1:xs.length≤14) (h2:∀ (i:Nat) (x:Za),xs[i]?=some x→MF i x):Agr xs:=by
 refine ⟨by omega,fun x hx=>?_,fun x hx y hy he=>?_⟩
 ·obtain ⟨i,hi,rfl⟩:=List.getElem_of_mem hx
  exact (h2 i _ (List.getElem?_eq_getElem hi)).val
 obtain ⟨i,hi,rfl⟩:=List.getElem_of_mem hx
 obtain ⟨j,hj,rfl⟩:=List.getElem_of_mem hy
 have e:=((kM _ _).1 he).2
 rw [(h2 i _ (List.getElem?_eq_getElem hi)).num,(h2 j _ (List.getElem?_eq_getElem hj)).num] at e
 have:i=j:=by omega
 subst this;rfl
theorem pE (y:Int) (m:Nat) (h:m≤11):eD y ((m:Int)+1)=some (ia y m):=by
 unfold eD ia o8
 rcases (by omega:m=0∨m=1∨m=2∨m=3∨m=4∨m=5∨m=6∨m=7∨m=8∨m=9∨m=10∨m=11) with h | h | h | h | h | h | h | h | h | h | h | h <;> subst h <;> cases ((Int.tmod y 4 == 0)&&((Int.tmod y 100 != 0)||(Int.tmod y 400 == 0))) <;> rfl
theorem rof_Y {day:Int} (h0:0≤day) (h1:day≤36524):Y (sH day) (fun r=>∃ (n m:Nat) (d:Int),r=(⟨2000+(n:Int),(m:Int)+1,d+1⟩,0)∧Dec day n m d):=by
 unfold sH tZ
 rw [det h0,det h1]
 simp only [cJ,Bool.and_self,Bool.not_true,dn]
 refine Y.bind (P:=fun s:Int×Int×Int=>∃ (n m:Nat) (d:Int),s=(d,2000+(n:Int),(m:Int)+1)∧Dec day n m d) ?_ ?_
 ·refine Y.loop (fun s:Int×Int×Int=>∃ (n m:Nat) (d:Int),s=(d,2000+(n:Int),(m:Int)+1)∧n≤99∧m≤11∧0≤d∧day=yb n+mb (2000+n) m+d) (fun s=>(s.1).toNat) ⟨0,0,day,rfl,by omega,by omega,h0,by simp [yb,mb]⟩ (by dsimp only;omega) ?_
  rintro s ⟨n,m,d,rfl,hn,hm,hd,hs⟩
  dsimp only
  simp only [pE _ m hm,cJ]
  have hl:=gU (2000+(n:Int)) m hm
  have hy:=t8 n
  have hb:=t7 (2000+(n:Int)) (show m≤12 by omega)
  refine Y.cond (fun hc=>?_) (fun hc=>Y.ret ⟨n,m,d,rfl,hn,hm,hd,by have:=of_decide_eq_false hc;omega,hs⟩)
  have hc:=of_decide_eq_true hc
  rw [bw (r:=(m:Int)+1+1) (by omega) (by omega),bw (r:=d - ia (2000+(n:Int)) m) (by omega) (by omega),bw (r:=2000+(n:Int)+1) (by omega) (by omega)]
  refine Y.cond (fun hk=>?_) (fun hk=>?_)
  ·have hk:=of_decide_eq_true hk
   have:m=11:=by omega
   subst this
   have e:mb (2000+(n:Int)) 12=mb (2000+(n:Int)) 11+ia (2000+(n:Int)) 11:=rfl
   rw [rt] at e
   have hn2:n+1≤99:=by
    rcases Nat.lt_or_ge n 99 with h | h
    ·exact h
    have:n=99:=by omega
    subst this
    have e2:yb 100=yb 99+qe (2000+(99:Nat)):=rfl
    rw [yp] at e2;omega
   refine Y.ret ⟨⟨n+1,0,d - ia (2000+(n:Int)) 11,by congr 2 <;> omega,hn2,by omega,by omega,?_⟩,by dsimp only;omega⟩
   simp only [yb,mb];omega
  have hk:=of_decide_eq_false hk
  refine Y.ret ⟨⟨n,m+1,d - ia (2000+(n:Int)) m,rfl,hn,by omega,by omega,?_⟩,by dsimp only;omega⟩
  simp only [mb];omega
 rintro s ⟨n,m,d,rfl,hd⟩
 dsimp only
 have:=gU (2000+(n:Int)) m hd.m11
 have:=hd.d0;have:=hd.dl
 exact Y.ret ⟨n,m,d,by rw [bw (by omega) (by omega)],hd⟩
theorem Di (y:Int):eD y 2=some (ia y 1):=pE y 1 (by omega)
theorem Dj (y:Int):337+ia y 1=qe y:=by unfold ia qe;cases o8 y <;> rfl
theorem yM {n m:Nat} {dom:Int} (hn:n≤99) (hm:m≤11) (h1:1≤dom) (h2:dom≤ia (2000+n) m):iV ⟨2000+(n:Int),(m:Int)+1,dom⟩=some (dom - 1+yb n+mb (2000+n) m,0):=by
 have hl:=gU (2000+(n:Int)) m hm
 unfold iV
 dsimp only
 rw [bH (by omega:¬ 2000+(n:Int)<2000),bH (by omega:¬ (2099:Int)<2000+(n:Int)),bH (by omega:¬ (m:Int)+1<1),bH (by omega:¬ (12:Int)<(m:Int)+1),bH (by omega:¬ dom<1)]
 simp only [Bool.or_self,Bool.not_false,de,pE _ m hm,cJ,Bool.false_or]
 rw [bH (by omega:¬ ia (2000+(n:Int)) m<dom),dn,bw (r:=dom - 1) (by omega) (by omega)]
 have hyb:=zw (show n≤100 by omega)
 have e1:=Y.is (Y.loop (body:=fun (v4,v5)=>cond (decide (v5<2000+(n:Int))) (Option.bind (eD v5 2) (fun x10=>lb ((IntKind.i64.wrap ((IntKind.i64.wrap (v4+337))+x10))) (fun w11=>some (.inl (w11,(IntKind.i64.wrap (v5+1))))))) (some (.inr v4))) (R:=fun t=>t=dom - 1+yb n) (s:=(dom - 1,2000)) (fun s:Int×Int=>∃ k:Nat,k≤n∧s=(dom - 1+yb k,2000+(k:Int))) (fun s=>(2000+(n:Int) - s.2).toNat) ⟨0,by omega,by simp [yb]⟩ (by dsimp only;omega) (by
  rintro s ⟨k,hk,rfl⟩
  dsimp only
  simp only [Di,cJ]
  have:=zw (show k≤100 by omega);have:=t8 k;have:=mz (2000+(k:Int));have h7:=Dj (2000+(k:Int));have:=gU (2000+(k:Int)) 1 (by omega)
  refine Y.cond (fun hc=>?_) (fun hc=>Y.ret ?_)
  ·have hc:=of_decide_eq_true hc
   unfold lb
   refine Y.ret ⟨⟨k+1,by omega,?_⟩,?_⟩
   ·rw [bw (r:=dom - 1+yb k+337) (by omega) (by omega),bw (by omega) (by omega),bw (by omega) (by omega)];simp only [yb];congr 1 <;> omega
   show (2000+(n:Int) - IntKind.i64.wrap _).toNat<_;rw [bw (by omega) (by omega)];omega
  have hc:=of_decide_eq_false hc
  have:k=n:=by omega
  subst this;rfl))
 rw [bo e1]
 have hmb:=zu (2000+(n:Int)) (show m≤12 by omega)
 have e2:=Y.is (Y.loop (body:=fun (v12,v13)=>cond (decide (v13<(m:Int)+1)) (Option.bind (eD (2000+(n:Int)) v13) (fun x18=>some (.inl ((IntKind.i64.wrap (v12+x18)),(IntKind.i64.wrap (v13+1)))))) (some (.inr v12))) (R:=fun t=>t=dom - 1+yb n+mb (2000+n) m) (s:=(dom - 1+yb n,1)) (fun s:Int×Int=>∃ k:Nat,k≤m∧s=(dom - 1+yb n+mb (2000+n) k,(k:Int)+1)) (fun s=>((m:Int)+1 - s.2).toNat) ⟨0,by omega,by simp [mb]⟩ (by dsimp only;omega) (by
  rintro s ⟨k,hk,rfl⟩
  dsimp only
  have:=t8 n;have:=t7 (2000+(n:Int)) (show k≤12 by omega);have:=zu (2000+(n:Int)) (show k≤12 by omega)
  refine Y.cond (fun hc=>?_) (fun hc=>Y.ret ?_)
  ·have hc:=of_decide_eq_true hc
   have:=gU (2000+(n:Int)) k (by omega)
   rw [pE _ k (by omega),cJ]
   refine Y.ret ⟨⟨k+1,by omega,?_⟩,?_⟩
   ·rw [bw (by omega) (by omega),bw (by omega) (by omega)];simp only [mb];congr 1 <;> omega
   show ((m:Int)+1 - IntKind.i64.wrap _).toNat<_;rw [bw (by omega) (by omega)];omega
  have hc:=of_decide_eq_false hc
  have:k=m:=by omega
  subst this;rfl))
 rw [bo e2]
theorem radd_eq {day:Int} {n m:Nat} {d:Int} (h0:0≤day) (h1:day≤36524) (hd:Dec day n m d):jQ day 36=some (qf n m d):=by
 obtain ⟨r,e,n',m',d',rfl,hd'⟩:=rof_Y h0 h1
 obtain ⟨u1,u2,u3⟩:=hd.uniq hd'
 subst u1 u2 u3
 have hn:=hd.n99;have hm:=hd.m11;have hd0:=hd.d0;have hdl:=hd.dl
 unfold jQ qf
 rw [bo e]
 dsimp only
 have w:IntKind.i64.wrap (IntKind.i64.wrap (IntKind.i64.wrap (IntKind.i64.wrap (12*(2000+(n:Int)))+((m:Int)+1)) - 1)+36)=12*(2000+(n:Int))+(m:Int)+36:=by
  rw [bw (r:=12*(2000+(n:Int))) (by omega) (by omega),bw (r:=12*(2000+(n:Int))+((m:Int)+1)) (by omega) (by omega),bw (r:=12*(2000+(n:Int))+((m:Int)+1) - 1) (by omega) (by omega),bw (by omega) (by omega)];omega
 unfold lb
 rw [w]
 have c0:((0:Int) != 0||decide ((36:Int) < -1200)||decide ((1200:Int)<36))=false:=by decide
 dsimp only
 rw [c0,dn]
 rw [Int.tdiv_eq_ediv_of_nonneg (by omega),Int.tmod_eq_emod_of_nonneg (by omega)]
 rw [bw (r:=(12*(2000+(n:Int))+(m:Int)+36) / 12) (by omega) (by omega),bw (r:=(12*(2000+(n:Int))+(m:Int)+36) % 12+1) (by omega) (by omega)]
 have e1:(12*(2000+(n:Int))+(m:Int)+36) / 12=2000+((n+3:Nat):Int):=by omega
 have e2:(12*(2000+(n:Int))+(m:Int)+36) % 12+1=(m:Int)+1:=by omega
 rw [e1,e2,pE _ m hm,cJ]
 have hl:=gU (2000+((n+3:Nat):Int)) m hm
 have hle:1≤eT (d+1) (ia (2000+((n+3:Nat):Int)) m)∧eT (d+1) (ia (2000+((n+3:Nat):Int)) m)≤ia (2000+((n+3:Nat):Int)) m:=by unfold eT;split <;> omega
 rcases Nat.lt_or_ge n 97 with hlt | hge
 ·rw [bo (yM (n:=n+3) (by omega) hm hle.1 hle.2)]
  rw [show Nat.ble 97 n=false by rw [Bool.eq_false_iff];intro h;have:=Nat.le_of_ble_eq_true h;omega]
  rfl
 have e3:iV ⟨2000+((n+3:Nat):Int),(m:Int)+1,eT (d+1) (ia (2000+((n+3:Nat):Int)) m)⟩=some (0,2):=by
  unfold iV
  dsimp only
  rw [det (by omega:(2099:Int)<2000+((n+3:Nat):Int))]
  simp only [Bool.or_true,Bool.true_or,Bool.not_true,kz,cJ,cQ]
 rw [bo e3,Nat.ble_eq_true_of_le hge];rfl
theorem Dk {s:ByteArray} (hs:s.size≤140737488355328):mY s=some (tf s.data.toList&&((s.size:Int) == 8)):=by
 have hb:s.data.toList.length≤4611686018427387904:=by rw [Array.length_toList];have e:s.size=s.data.size:=rfl;omega
 unfold mY
 have e:(s.size:Int)=(s.data.toList.length:Int):=by rw [Array.length_toList];rfl
 rw [e]
 refine (lG (l:=s.data.toList) hb (fun _ b=>cond (!(decide ((b.toNat:Int)<48)||decide (57<(b.toNat:Int)))) none (some (.inr false))) (.inl ()) (fun k hk=>?_) (by rw [kO];rfl)).trans ?_
 ·simp only [tp hk,cQ,bp hk,cJ,gV hk hb]
  cases decide (((s.data.toList[k]).toNat:Int)<48)
  ·simp only [Bool.not_false,de,cJ,Bool.false_or]
   cases decide (57<((s.data.toList[k]).toNat:Int)) <;> rfl
  simp only [Bool.not_true,kz,cJ,Bool.true_or];rfl
 rw [lH]
 unfold tf
 cases s.data.toList.all fun b => !(decide ((b.toNat:Int)<48)||decide (57<(b.toNat:Int))) <;> rfl
theorem yN {s u:Int} {c:ByteArray} (hc:c.size≤140737488355328):lr s c u=some (cond (nk s c u) (⟨s,c,u,[]⟩,0) (zFile,2)):=by
 unfold lr nk
 rw [Dk hc]
 cases h1:(decide (s<1)||decide (1000000<s)) with
 | true =>
  rw [Bool.not_true,kz]
  simp only [cJ,Bool.true_or,cQ]
  rfl
 | false =>
  rw [Bool.not_false,de,cJ]
  simp only [Bool.false_or]
  rw [show ((c.size:Int) != 8) = !((c.size:Int) == 8) from rfl]
  cases decide (u<1) <;> cases decide (1000000000<u) <;> cases ((c.size:Int) == 8) <;> cases tf c.data.toList <;> rfl
theorem Dl (x:Za):nZ x=some (gW x):=by
 have hT:∀ (v3 v4:Int) (v5:Bool),(Option.bind (gd v5 (dP x.Country)) (fun x11=>cond ((v5&&(!x11))||((!v5)&&(!decide (x.Country=(⟨#[]⟩:ByteArray))))) (some false) (some ((((decide (0≤x.Amount))&&(decide (x.Amount≤v3)))&&(decide (0≤x.Company)))&&(decide (x.Company≤v4))))))=some (li x v3 v4 v5):=fun v3 v4 v5=>by
  rw [lc]
  unfold li
  cases v5
  ·rw [kz]
   simp only [cJ,Bool.false_and,Bool.not_false,Bool.true_and,Bool.false_or]
   cases (!decide (x.Country=(⟨#[]⟩:ByteArray))) <;> rfl
  rw [de]
  simp only [cJ,Bool.true_and,Bool.not_true,Bool.false_and,Bool.or_false]
  cases (!kR x.Country) <;> rfl
 unfold nZ gW
 cases (decide (x.From<0)||decide (999<x.From)||decide (x.Number<1)||decide (1000000000<x.Number)||decide (x.Day<0)||decide (36524<x.Day)) with
 | true=>rfl
 | false =>
  simp only [Bool.false_or,dn]
  unfold nT
  by_cases h1:x.Kind=1
  ·simp only [h1];exact hT 1000000000000 999 true
  by_cases h2:x.Kind=2
  ·simp only [h2];exact hT 0 0 false
  by_cases h3:x.Kind=3
  ·simp only [h3];exact hT 1000000000000 0 false
  by_cases h4:x.Kind=4
  ·simp only [h4];exact hT 0 0 true
  by_cases h5:x.Kind=5
  ·simp only [h5];exact hT 1000000000 0 false
  have hr:(decide (x.Kind<1)||decide (5<x.Kind))=true:=by simp;omega
  rw [hr,cQ,beq_false_of_ne h1,beq_false_of_ne h2,beq_false_of_ne h3,beq_false_of_ne h4,beq_false_of_ne h5];rfl
theorem yO (x y:Za):mu x y=some (cT x y):=by
 unfold mu cT
 rw [show (x.From == y.From)=decide (x.From=y.From) from rfl]
theorem xE (f:Zm) (hc:f.Code.size≤140737488355328):oa f=some (th f):=by
 unfold oa th
 rw [yN hc,cJ]
 cases nk f.Source f.Code f.Units with
 | false=>rfl
 | true =>
  simp only [Bool.not_true,dn,cQ]
  rw [show ((0:Int) != 0)=false from rfl,dn]
  cases hl:decide (200<(f.Facts.length:Int)) with
  | true=>rfl
  | false =>
   have hl:=of_decide_eq_false hl
   simp only [dn]
   refine (lG (l:=f.Facts) (by omega) (fun _ x=>cond (gW x) none (some (.inr (2:Int)))) (.inl ()) (fun k hk=>?_) (by rw [kO];rfl)).trans ?_
   ·simp only [tp hk,cQ,bp hk,cJ,gV hk (show f.Facts.length≤4611686018427387904 by omega),Dl]
    cases gW f.Facts[k] <;> rfl
   rw [lH]
   cases hv:f.Facts.all gW with
   | false=>rfl
   | true =>
    simp only [cQ,Option.getD_none]
    rw [xB (l:=f.Facts) (by omega) cT (.inr (9:Int)) (.inl ()) (fun k hk=>?_) (fun k h1 h2 h3=>?_)]
    ·unfold Dc;cases tg cT f.Facts <;> rfl
    ·rw [det (by omega:(k:Int)+1<(f.Facts.length:Int)),cQ,bw (r:=(k:Int)+1 - 1) (by omega) (by omega),show (k:Int)+1 - 1=(k:Int) by omega,show (k:Int)+1=((k+1:Nat):Int) by omega,bp (show k<f.Facts.length by omega),bp hk]
     simp only [cJ,yO]
     rw [bw (by omega) (by omega)]
     cases cT f.Facts[k] f.Facts[k+1]
     ·rfl
     show some (Sum.inl _)=some (Sum.inl _);congr 2 <;> omega
    rw [bH (by omega)];rfl
def xK (a b:Za):Bool:=decide (a.Day≤b.Day)
def iE (l:List Za) (x:Za):Nat:=(l.takeWhile fun y=>xK y x).length
theorem uy:∀ (l:List Za) (x:Za),l.take (iE l x)++[x]++l.drop (iE l x)=mI xK x l
 | [],_=>rfl
 | y::l,x=>by
  have ih:=uy l x
  unfold iE at *
  rw [List.takeWhile_cons,mI]
  cases h:xK y x with
  | true=>simp only [if_true,cQ,List.length_cons,List.take_succ_cons,List.drop_succ_cons,List.cons_append];rw [← ih]
  | false=>simp
theorem ti (l:List Za) (x:Za):iE l x≤l.length:=by
 unfold iE;exact (List.takeWhile_sublist _).length_le
theorem Dm {l:List Za} {x:Za} {k:Nat} (hk:k<l.length) (h:k<iE l x):xK l[k] x=true:=by
 induction l generalizing k with
 | nil=>simp at hk
 | cons y l ih =>
  unfold iE at h
  rw [List.takeWhile_cons] at h
  cases hy:xK y x with
  | false=>rw [hy] at h;simp at h
  | true =>
   rw [hy] at h
   simp only [if_true,List.length_cons] at h
   cases k with
   | zero=>exact hy
   | succ k=>exact ih (by simpa using hk) (by unfold iE;omega)
theorem Dn {l:List Za} {x:Za} (hk:iE l x<l.length):xK l[iE l x] x=false:=by
 induction l with
 | nil=>simp at hk
 | cons y l ih =>
  cases hy:xK y x with
  | false =>
   have:iE (y::l) x=0:=by unfold iE;rw [List.takeWhile_cons,hy];rfl
   simp only [this,List.getElem_cons_zero];exact hy
  | true =>
   have e:iE (y::l) x=iE l x+1:=by unfold iE;rw [List.takeWhile_cons,hy];rfl
   simp only [e,List.getElem_cons_succ]
   exact ih (by rw [e] at hk;simpa using hk)
theorem yP {l F:List Za} {k:Nat} (hk:k<F.length) (hl:l.length≤1000):aV (S:=Int) (T:=(Int)) (fun v18=>Option.bind (gd (decide (v18<((l.length:Nat):Int))) (idx l v18)) (fun m23=>Option.bind (gd (decide (v18<((l.length:Nat):Int))) (idx F (k:Int))) (fun m24=>cond ((decide (v18<((l.length:Nat):Int)))&&(decide (m23.Day≤m24.Day))) (some (.inl (IntKind.i64.wrap (v18+1)))) (some (.inr v18))))) FUEL 0=some ((iE l F[k]:Nat):Int):=by
 refine Y.is (Y.loop (fun s:Int=>∃ j:Nat,s=(j:Int)∧j≤iE l F[k]) (fun s=>(iE l F[k] - s).toNat) ⟨0,rfl,Nat.zero_le _⟩ (by have:=ti l F[k];omega) ?_)
 rintro s ⟨j,rfl,hj⟩
 have hle:=ti l F[k]
 rcases Nat.lt_or_ge j (iE l F[k]) with h | h
 ·have hjl:j<l.length:=by omega
  rw [det (by omega:(j:Int)<(l.length:Int)),de,bp hjl,cJ,de,bp hk,cJ]
  have:=Dm hjl h
  unfold xK at this
  rw [this,Bool.and_self,cQ]
  refine Y.ret ⟨⟨j+1,?_,h⟩,?_⟩
  ·rw [bw (by omega) (by omega)];omega
  rw [bw (by omega) (by omega)];omega
 have e:j=iE l F[k]:=by omega
 rcases Nat.lt_or_ge j l.length with hjl | hjl
 ·rw [det (by omega:(j:Int)<(l.length:Int)),de,bp hjl,cJ,de,bp hk,cJ]
  have h2:xK l[j] F[k]=false:=by subst e;exact Dn hjl
  unfold xK at h2
  rw [h2,Bool.and_false,dn]
  exact Y.ret (by rw [e])
 rw [bH (by omega:¬ (j:Int)<(l.length:Int)),kz]
 simp only [cJ,kz,Bool.false_and,dn]
 exact Y.ret (by rw [e])
theorem uz {lt lt':Za→Za→Bool} {x:Za}:∀ {l:List Za},(∀ y∈l,lt y x=lt' y x)→mI lt x l=mI lt' x l
 | [],_=>rfl
 | y::l,h=>by rw [mI,mI,h y (by simp),uz fun z hz=>h z (by simp [hz])]
theorem oA {x:Za}:∀ {l:List Za},(∀ y∈l,cO x y=true∨cO y x=true)→l.Pairwise (fun a b=>cO a b=true)→(mI cO x l).Pairwise (fun a b=>cO a b=true)
 | [],_,_=>by simp [mI]
 | y::l,hx,h=>by
  obtain ⟨h1,h2⟩:=List.pairwise_cons.1 h
  unfold mI
  cases hy:cO y x with
  | true =>
   simp only [cQ]
   refine List.pairwise_cons.2 ⟨fun z hz=>?_,oA (fun y hy=>hx y (by simp [hy])) h2⟩
   rcases List.mem_cons.1 (jF.mem_iff.1 hz) with rfl | hz
   ·exact hy
   ·exact h1 z hz
  | false =>
   simp only [dn]
   have hxy:cO x y=true:=by
    rcases hx y (by simp) with e | e
    ·exact e
    rw [e] at hy;cases hy
   refine List.pairwise_cons.2 ⟨fun z hz=>?_,h⟩
   rcases List.mem_cons.1 hz with rfl | hz
   ·exact hxy
   exact sO _ _ _ hxy (h1 z hz)
theorem pF:∀ {l:List Za},DA l=true→(fi cO l).Pairwise (fun a b=>cO a b=true)
 | [],_=>List.Pairwise.nil
 | x::l,h=>by
  simp only [DA,Bool.and_eq_true,List.all_eq_true,Bool.or_eq_true] at h
  rw [fi]
  exact oA (fun y hy=>h.1 y (nG.1 hy)) (pF h.2)
theorem tj:∀ {l m:List Za},l.Pairwise (fun a b=>cO a b=true)→m.Pairwise (fun a b=>cO a b=true)→(∀ z,z∈l↔z∈m)→l=m
 | [],[],_,_,_=>rfl
 | [],y::m,_,_,h=>absurd ((h y).2 (by simp)) (by simp)
 | x::l,[],_,_,h=>absurd ((h x).1 (by simp)) (by simp)
 | x::l,y::m,h1,h2,h=>by
  obtain ⟨a1,a2⟩:=List.pairwise_cons.1 h1
  obtain ⟨b1,b2⟩:=List.pairwise_cons.1 h2
  have hxy:x=y:=by
   rcases List.mem_cons.1 ((h x).1 (by simp)) with e | hx
   ·exact e
   rcases List.mem_cons.1 ((h y).2 (by simp)) with e | hy
   ·exact e.symm
   have k:=sO _ _ _ (b1 x hx) (a1 y hy);rw [nE] at k;cases k
  subst hxy
  congr 1
  refine tj a2 b2 fun z=>⟨fun hz=>?_,fun hz=>?_⟩
  ·rcases List.mem_cons.1 ((h z).1 (by simp [hz])) with e | hz2
   ·subst e;have k:=a1 z hz;rw [nE] at k;cases k
   exact hz2
  rcases List.mem_cons.1 ((h z).2 (by simp [hz])) with e | hz2
  ·subst e;have k:=b1 z hz;rw [nE] at k;cases k
  exact hz2
theorem xF {F:List Za} (h:F.Pairwise (fun a b=>cT a b=true)):F.foldl (fun l x=>mI xK x l) []=fi cO F:=by
 have key:∀ (P R:List Za) (acc:List Za),(P++R).Pairwise (fun a b=>cT a b=true)→acc.Pairwise (fun a b=>cO a b=true)→(∀ z,z∈acc↔z∈P)→(R.foldl (fun l x=>mI xK x l) acc).Pairwise (fun a b=>cO a b=true)∧∀ z,z∈R.foldl (fun l x=>mI xK x l) acc↔z∈P++R:=by
  intro P R
  induction R generalizing P with
  | nil=>intro acc _ h2 h3;exact ⟨h2,by simpa using h3⟩
  | cons x R ih =>
   intro acc h1 h2 h3
   have hlt:∀ y∈acc,cT y x=true:=fun y hy=>(List.pairwise_append.1 h1).2.2 y ((h3 y).1 hy) x (by simp)
   have e:mI xK x acc=mI cO x acc:=uz fun y hy=>by
    have:=hlt y hy
    rw [iD] at this
    rw [Bool.eq_iff_iff,jt];unfold xK;rw [decide_eq_true_eq];omega
   rw [List.foldl_cons,e]
   have h4:(P++[x]++R).Pairwise (fun a b=>cT a b=true):=by rw [List.append_assoc];exact h1
   have:=ih (P++[x]) (mI cO x acc) h4 (oA (fun y hy=>by
    have:=hlt y hy
    rw [iD] at this
    rw [jt,jt];omega) h2) (fun z=>by rw [jF.mem_iff,List.mem_cons,h3,List.mem_append,List.mem_singleton];exact or_comm)
   rw [List.append_assoc] at this
   exact this
 obtain ⟨k1,k2⟩:=key [] F [] h List.Pairwise.nil (fun z=>Iff.rfl)
 exact tj k1 (pF (yL h)) fun z=>by rw [k2,nG];rfl
theorem yQ {l:List Za} (hl:l.length≤1000):Y (aV (S:=Int×Int) (T:=(Int)) (fun (v46,v47)=>cond (decide (0≤v47)) (Option.bind (Option.bind (idx l v47) (fun m56=>cond (m56.Kind == 1) (some v47) (some v46))) (fun v54=>some (.inl (v54,(IntKind.i64.wrap (v47 - 1)))))) (some (.inr v46))) FUEL ((-1),IntKind.i64.wrap (((l.length:Nat):Int) - 1))) (fun t=>(t = -1∧∀ y∈l,(y.Kind == 1)=false)∨∃ (j:Nat) (hj:j<l.length),t=(j:Int)∧(l[j].Kind == 1)=true∧∀ y∈l.take j,(y.Kind == 1)=false):=by
 rw [bw (by omega) (by omega)]
 refine Y.loop (fun s:Int×Int=>∃ k:Nat,k≤l.length∧s.2=(k:Int) - 1∧((s.1 = -1∧∀ y∈l.drop k,(y.Kind == 1)=false)∨∃ (j:Nat) (hj:j<l.length),k≤j∧s.1=(j:Int)∧(l[j].Kind == 1)=true∧∀ y∈(l.take j).drop k,(y.Kind == 1)=false)) (fun s=>(s.2+1).toNat) ⟨l.length,Nat.le_refl _,rfl,.inl ⟨rfl,fun y hy=>by simp at hy⟩⟩ (by dsimp only;omega) ?_
 rintro ⟨a,b⟩ ⟨k,hk,hb,hs⟩
 dsimp only at hb hs ⊢
 subst hb
 cases k with
 | zero =>
  refine Y.cond (fun hc=>absurd (of_decide_eq_true hc) (by omega)) (fun _=>Y.ret ?_)
  rcases hs with ⟨h1,h2⟩ | ⟨j,hj,_,h2,h3,h4⟩
  ·exact .inl ⟨h1,by simpa using h2⟩
  ·exact .inr ⟨j,hj,h2,h3,by simpa using h4⟩
 | succ k =>
  have hkl:k<l.length:=by omega
  rw [det (by omega:(0:Int)≤((k+1:Nat):Int) - 1),cQ,show ((k+1:Nat):Int) - 1=(k:Int) by omega,bp hkl,cJ,bw (by omega) (by omega)]
  cases hK:(l[k].Kind == 1) with
  | true =>
   refine Y.ret ⟨⟨k,by omega,rfl,.inr ⟨k,hkl,Nat.le_refl _,rfl,hK,fun y hy=>?_⟩⟩,by dsimp only;omega⟩
   rw [List.drop_eq_nil_of_le (by rw [List.length_take];omega)] at hy;cases hy
  | false =>
   refine Y.ret ⟨⟨k,by omega,rfl,?_⟩,by dsimp only;omega⟩
   rcases hs with ⟨h1,h2⟩ | ⟨j,hj,h0,h2,h3,h4⟩
   ·refine .inl ⟨h1,fun y hy=>?_⟩
    rw [List.drop_eq_getElem_cons hkl] at hy
    rcases List.mem_cons.1 hy with rfl | hy
    ·exact hK
    exact h2 y hy
   refine .inr ⟨j,hj,by omega,h2,h3,fun y hy=>?_⟩
   have hkt:k<(l.take j).length:=by rw [List.length_take];omega
   rw [List.drop_eq_getElem_cons hkt] at hy
   rcases List.mem_cons.1 hy with rfl | hy
   ·rw [List.getElem_take];exact hK
   exact h4 y hy
def Aa (L:Int) (s:ByteArray×Bool×Int) (x:Za):ByteArray×Bool×Int :=
 cond (decide (x.Day≤L)) (cond (x.Kind == 2) (s.1,true,s.2.2) (cond (x.Kind == 3) (s.1,s.2.1,x.Amount) (cond (x.Kind == 4) (x.Country,s.2.1,s.2.2) s))) s
theorem tk (L:Int):∀ (l:List Za) (s:ByteArray×Bool×Int),l.foldl (Aa L) s=((lS l 4 L).foldl (fun _ x=>x.Country) s.1,(lS l 2 L).foldl (fun _ _=>true) s.2.1,(lS l 3 L).foldl (fun _ x=>x.Amount) s.2.2)
 | [],_=>rfl
 | x::l,s=>by
  rw [List.foldl_cons,tk L l]
  have hof:∀ k,lS (x::l) k L=cond ((x.Kind == k)&&decide (x.Day≤L)) (x::lS l k L) (lS l k L):=fun k=>by
   unfold lS;rw [List.filter_cons];cases ((x.Kind == k)&&decide (x.Day≤L)) <;> rfl
  rw [hof,hof,hof]
  unfold Aa
  cases decide (x.Day≤L)
  ·simp only [Bool.and_false,dn]
  simp only [Bool.and_true,cQ]
  by_cases h2:x.Kind=2
  ·rw [h2];rfl
  rw [beq_false_of_ne h2]
  by_cases h3:x.Kind=3
  ·rw [h3];rfl
  rw [beq_false_of_ne h3]
  by_cases h4:x.Kind=4
  ·rw [h4];rfl
  rw [beq_false_of_ne h4];rfl
theorem tl (u:Int):∀ (l:List Za) (s:Int),(∀ x∈l,x.Day≤36524)→l.foldl (fun s x=>cond (x.Kind == 5) (eT u x.Amount) s) s=(lS l 5 36524).foldl (fun _ x=>eT u x.Amount) s
 | [],_,_=>rfl
 | x::l,s,h=>by
  rw [List.foldl_cons,tl u l _ fun y hy=>h y (by simp [hy])]
  have hof:lS (x::l) 5 36524=cond (x.Kind == 5) (x::lS l 5 36524) (lS l 5 36524):=by
   unfold lS;rw [List.filter_cons,det (h x (by simp)),Bool.and_true];cases (x.Kind == 5) <;> rfl
  rw [hof]
  cases (x.Kind == 5) <;> rfl
theorem Do {f:Zm} (hf:FileOk f) (hc:f.Code.size≤140737488355328):mv f=some (qP f):=by
  have hl:f.Facts.length≤200:=hf.len
  have hSl:(fi cO f.Facts).length=f.Facts.length:=qg _
  have hday:∀ x∈f.Facts,0≤x.Day∧x.Day≤36524:=fun x hx=>uu (hf.val x hx)
  unfold mv
  rw [xE f hc,(nm f).2 hf,cJ,show ((0:Int) != 0)=false from rfl,dn]
  refine (nA (l:=f.Facts) (by omega) (fun i (a:List Za)=>(a,i)) (fun l x=>mI xK x l) (fun a=>a) (fun k a=>a.length=k) [] rfl (fun k hk a ha=>by
      refine ⟨?_,by rw [jF.length_eq,List.length_cons,ha]⟩
      dsimp only
      have hh:=ti a f.Facts[k]
      rw [tp hk,cQ,yP hk (by omega),cJ,show (0:Int)=((0:Nat):Int) from rfl,Cu (Nat.zero_le _) hh,cJ,bp hk,cJ,Cu hh (Nat.le_refl _),cJ]
      simp only [List.drop_zero,List.take_length]
      rw [p9 (by simp;omega) (by simp;omega),cJ,p9 (by simp;omega) (by simp;omega),cJ,p9 (by simp;omega) (by simp;omega),cJ,gV hk (by omega),List.nil_append,uy]) (fun a _=>by dsimp only;rw [kO];rfl)).1.trans ?_
  rw [xF hf.asc]
  have hS:∀ x∈fi cO f.Facts,0≤x.Day∧x.Day≤36524:=fun x hx=>hday x (nG.1 hx)
  unfold qP
  generalize fi cO f.Facts=S at *
  unfold lb
  dsimp only
  obtain ⟨t,et,ht⟩:=yQ (l:=S) (by omega)
  rw [bo et]
  rcases ht with ⟨rfl,hno⟩ | ⟨j,hj,rfl,hK,hno⟩
  · have e:lS S 1 36524=[]:=by
      unfold lS
      exact List.filter_eq_nil_iff.2 fun x hx=>by rw [hno x hx];simp
    rw [e];rfl
  · have e:∃ r,lS S 1 36524=S[j]::r:=by
      have e1:S=S.take j++S[j]::S.drop (j+1):=by rw [List.getElem_cons_drop];simp
      have e2:lS (S.take j) 1 36524=[]:=by
        unfold lS
        exact List.filter_eq_nil_iff.2 fun x hx=>by rw [hno x hx];simp
      have e3:lS S 1 36524=lS (S.take j) 1 36524++lS (S[j]::S.drop (j+1)) 1 36524:=by
        conv=>lhs;rw [e1]
        unfold lS;rw [List.filter_append]
      rw [e3,e2,List.nil_append]
      unfold lS
      rw [List.filter_cons_of_pos (by rw [hK,det (hS _ (List.getElem_mem hj)).2];rfl)]
      exact ⟨_,rfl⟩
    obtain ⟨r,e⟩:=e
    rw [e]
    dsimp only
    have hd:=hS _ (List.getElem_mem hj)
    rw [bH (by omega:¬ (j:Int)<0),dn,bp hj,cJ]
    obtain ⟨_,_,n,m,d,_,hdec⟩:=of_Y hd.1 hd.2
    have hlast:mG S[j].Day=cond ((qf n m d).2 != 0) 36524 (qf n m d).1:=by unfold mG;rw [Cz hd.1 hd.2 hdec]
    rw [radd_eq hd.1 hd.2 hdec,cJ]
    unfold rD
    generalize qf n m d=q at *
    have step:∀ (x:Za),x.Day≤36524→decide (x.Day≤mG S[j].Day) = !((q.2 == 0)&&decide (q.1<x.Day)):=fun x hx=>by
      rw [hlast,show (q.2 != 0) = !(q.2 == 0) from rfl]
      cases (q.2 == 0)
      · simp only [Bool.not_false,cQ,Bool.false_and];exact det hx
      simp only [Bool.not_true,dn,Bool.true_and]
      rw [← decide_not];exact decide_eq_decide.2 (by omega)
    generalize hd0:S[j]=d0 at *
    refine (nA (l:=S) (by omega) (fun i (a:ByteArray×Bool×Int)=>(i,a.1,a.2.1,a.2.2)) (Aa (mG d0.Day)) (fun a=>a) (fun _ _=>True) (d0.Country,false,d0.Amount) trivial (fun k hk a _=>⟨by
        obtain ⟨c,p,v⟩:=a
        have hx:=(hS _ (List.getElem_mem hk)).2
        have hst:=step _ hx
        dsimp only
        rw [tp hk,cQ,gV hk (by omega)]
        have hin:(Option.bind (idx S (k:Int)) (fun m80=>cond (m80.Kind == 2) (some (c,true,v)) (cond (m80.Kind == 3) (Option.bind (idx S (k:Int)) (fun m83=>some (c,p,m83.Amount))) (cond (m80.Kind == 4) (Option.bind (idx S (k:Int)) (fun m85=>some (m85.Country,p,v))) (some (c,p,v))))))=some (cond (S[k].Kind == 2) (c,true,v) (cond (S[k].Kind == 3) (c,p,S[k].Amount) (cond (S[k].Kind == 4) (S[k].Country,p,v) (c,p,v)))):=by
          rw [bp hk]
          simp only [cJ]
          cases (S[k].Kind == 2) <;> cases (S[k].Kind == 3) <;> cases (S[k].Kind == 4) <;> rfl
        unfold Aa
        rw [hst]
        cases hq:(q.2 == 0) with
        | false =>
          rw [kz,cJ]
          simp only [Bool.false_and,dn,Bool.not_false,cQ]
          rw [hin,cJ]
        | true =>
          rw [de,bp hk,cJ]
          simp only [Bool.true_and]
          cases decide (q.1<S[k].Day) with
          | true=>rfl
          | false =>
            simp only [dn,Bool.not_false,cQ]
            rw [bp hk] at hin
            rw [hin,cJ],trivial⟩) (fun a _=>by dsimp only;rw [kO];rfl)).1.trans ?_
    rw [tk]
    dsimp only
    refine (nA (l:=f.Facts) (by omega) (fun i (a:Int)=>(i,a)) (fun s x=>cond (x.Kind == 5) (eT f.Units x.Amount) s) (fun a=>a) (fun _ _=>True) 0 trivial (fun k hk a _=>⟨by
        dsimp only
        rw [tp hk,cQ,gV hk (by omega),bp hk,cJ]
        cases (f.Facts[k].Kind == 5)
        · rfl
        simp only [cQ,cJ],trivial⟩) (fun a _=>by dsimp only;rw [kO];rfl)).1.trans ?_
    rw [tl f.Units f.Facts 0 fun x hx=>(hday x hx).2]
end SX
end Go.Proofs.YtmgcadfnkchnfaaGreatDoor
