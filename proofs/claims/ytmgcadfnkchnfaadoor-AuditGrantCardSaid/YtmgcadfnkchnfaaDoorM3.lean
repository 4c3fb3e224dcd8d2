/- AuditGrant: for every input the law returns true, and each argument reads afterwards as it read before. Conditions: the package variables are as the program's text lays them (the card ties them). -/
import Derived.Test.YtmgcadfnkchnfaaDoorM2
import Derived.Test.YtmgcadfnkchnfaaDoorL3q
set_option linter.unusedVariables false
set_option linter.unusedSimpArgs false
set_option maxHeartbeats 4000000
set_option maxRecDepth 100000
namespace Go.Proofs.YtmgcadfnkchnfaaDoor
namespace SX
open Go
attribute [local irreducible] PWL PWC PWD POpL POpQ PEv PGuardIs PSub PPick PUpd PSplice PFill PLit PF PFV PCall FOk fG eg jF jG fR gw Cov PHolds bZ idx app mk gd lb nz ge0 cat sub kx pD ior pE nN i5 de pF IntKind.wrap Int.tmod Int.tdiv Op.bytesLess strOfNums
attribute [local irreducible] PWQ oT ia rX asgK eO PSeq
def aK (p0:(List Za)) (p1:(List Za)):Option (List Za):=(eO (S:=(List Za)) (T:=Empty) (fun l3 x8=>(app 64 l3 [x8]).bind fun l13=>some (.inl l13)) p0 p1).bind fun q=>match q with | .inl l3=>some l3 | .inr e=>e.elim
theorem ce {p0:(List Za)} {p1:(List Za)} {a_0:Option Addr}  {n_0:Nat}  {c_0:Nat} {r:(List Za)} {gf1:Nat} {cs1:List PV} (hg1:PSeq gf1 cs1 DFp p1) (h:aK p0 p1=some r):PCall 42 [.v (.slice a_0 n_0 c_0),.fn gf1 cs1] [PRes.row a_0 n_0 c_0 28 7 (List.map Za.enc p0)] (fun pv ρ'=>∃ a c,pv=.v (.slice a r.length c)∧ρ'=[PRes.row a r.length c 28 7 (List.map Za.enc r)]):=by
 unfold aK at h
 refine lV Tryd.func42 (fnk Tryd.func42 rfl) rfl Tryd.ntmps42 Tryd.results42 rfl ?_
 refine ng (enc:=Za.enc) (xs:=p0) (a:=a_0) fU (fun hl ha=>?_);subst hl;clear ha
 refine bG (cZ (af (ar rfl (cG (cs:=[pO a_0 p0.length c_0]) rfl rfl (fun b1=>cY [4] (by kernel_rfl) (bH (bG (bG (cZ (am [(6,.fn gf1 cs1)] (by kernel_rfl) (bH (eB (aa h fun q7 hq7 h=>?_)))))))))))))
 refine eA (Y:=Option Addr×Nat) (y0:=(a_0,c_0)) (R:=fun (a4,c5) l3=>[PRes.b b1 24 [pO a4 l3.length c5],PRes.row a4 l3.length c5 28 7 (List.map Za.enc l3)]) (R':=fun t=>[]) hq7 rfl hg1 rfl (by kernel_rfl) (by kernel_rfl) zs2 ?_ ?_ ?_
 ·rintro ⟨a4,c5⟩ l3 x8 suf hs;obtain ⟨o,ho6,hk9⟩:=iD hs;clear hs;(try dsimp only at ho6);(try dsimp only [DFp])
  refine af (ar rfl (aT (cs:=[pI 0,pI 0,pI 0,pI 0,pS ByteArray.empty,pI 0,pI 0]) rfl rfl rfl rfl (fun b10=>aB rfl rfl (ag (vs:=(ah x8)) rfl rfl rfl rfl rfl cS zl7 (aw (iC (aH (af (fY 2 [1,0] [(8,pO a4 l3.length c5),(9,.agg (ah x8))] (by kernel_rfl) (ar rfl (gD rfl rfl rfl rfl rfl (pH rfl zin) rfl rfl rfl rfl (fun b11=>aa ho6 fun l13 hl13 ho6=>?_))))))))))))
  refine ar rfl (mF (enc:=Za.enc) rfl rfl rfl rfl rfl rfl rfl rfl rfl fU (by exact cU (cU (cU cz))) hl13 (fun a14 c15=>?_))
  refine aB rfl rfl (ag (vs:=[pO a14 l13.length c15]) rfl rfl rfl rfl rfl (em (em (em cS))) gH (aw (aC ?_)))
  exact ib ho6 hk9 (a14,c15) (er (cU (cU (cU cz))) eo)
 ·rintro ⟨a4,c5⟩ l3 D hr;subst hr;(try dsimp only at h);(try dsimp only)
  refine eC (bH (cZ (ae (cq [0] [12] [(4,pO a4 l3.length c5)] (by kernel_rfl) (dV ?_)))))
  (repeat (first | apply al | apply aU | apply bO | apply d8 | apply dH | apply cR))
  obtain rfl:=osi h
  exact aN (eJ (aV rfl)) (er (cU cz) eR) ⟨_,_,rfl,rfl⟩
 rintro t;exact t.elim
def bm (p0:(List Za)):Option (List Za):=(aK ([]:List Za) p0).bind fun x2=>some x2
theorem ec {p0:(List Za)} {r:(List Za)} {gf0:Nat} {cs0:List PV} (hg0:PSeq gf0 cs0 DFp p0) (h:bm p0=some r):PCall 32 [.fn gf0 cs0] [] (fun pv ρ'=>∃ a c,pv=.v (.slice a r.length c)∧ρ'=[PRes.row a r.length c 28 7 (List.map Za.enc r)]):=by
 unfold bm at h
 refine aP Tryd.func32 rfl Tryd.ntmps32 Tryd.results32 rfl (ae (bg [2] (by kernel_rfl) (bF (af (aR 1 [(3,.fn gf0 cs0)] (by kernel_rfl) (nM 28 7 (aa h fun x2 hx2 h=>?_)))))))
 refine ar rfl (bf rfl rfl (ρ1:=[_]) (aX (by exact cz) (List.Perm.refl _)) (ce hg0 hx2) ?_);rintro _ _ ⟨a3,c4,rfl,rfl⟩
 refine aM [(2,pO a3 x2.length c4)] (by kernel_rfl) (dV ?_)
 obtain rfl:=osi h
 exact aN (eJ (aV rfl)) eo ⟨_,_,rfl,rfl⟩
def aS (p0:(List Za)):Option (List Za):=(bm p0).bind fun x1=>(av x1).bind fun x5=>some x5
theorem dL {p0:(List Za)} {r:(List Za)} {gf0:Nat} {cs0:List PV} (hg0:PSeq gf0 cs0 DFp p0) (h:aS p0=some r):PCall 21 [.fn gf0 cs0,.fn 23 []] [] (fun pv ρ'=>∃ a c,pv=.v (.slice a r.length c)∧ρ'=[PRes.row a r.length c 28 7 (List.map Za.enc r)]):=by
 unfold aS at h
 refine aP Tryd.func21 rfl Tryd.ntmps21 Tryd.results21 rfl (ae (bg [4] (by kernel_rfl) (bF (aa h fun x1 hx1 h=>af (aR 1 [(6,.fn gf0 cs0)] (by kernel_rfl) ?_)))))
 refine ar rfl (bf rfl rfl (ρ1:=[]) (List.Perm.refl _) (ec hg0 hx1) ?_);rintro _ _ ⟨a2,c3,rfl,rfl⟩
 refine aM [(5,pO a2 x1.length c3)] (by kernel_rfl) (bF (aa h fun x5 hx5 h=>af (aR 2 [(8,pO a2 x1.length c3),(9,.fn 23 [])] (by kernel_rfl) ?_)))
 refine ar rfl (bf rfl rfl (ρ1:=[_]) (aX (by exact cz) (List.Perm.refl _)) (bD hx5) ?_);rintro _ _ ⟨rfl,rfl⟩
 refine aw (bF (an [11] [(4,pO a2 x1.length c3)] (by kernel_rfl) (ai ?_)))
 refine mL (enc:=Za.enc) (xs:=x5) (a:=a2) fU (fun hl6 ha7=>?_);rw [← hl6];clear ha7
 refine cF ?_
 obtain rfl:=osi h
 exact aN (eJ (aV rfl)) eo ⟨_,_,rfl,rfl⟩
def dZ (p0:Zd) (p1:(List Za)) (p2:Za):Option Ze:=(bi p2.Day 36).bind fun x4=>Option.bind (cond (x4.2 != 0) (some 36524) (some x4.1)) (fun v5=>(bM p1 2 v5).bind fun x10=>(eO (S:=Bool) (T:=Empty) (fun v11 x14=>some (.inl true)) false x10).bind fun q=>match q with | .inl v11=>(bM p1 3 v5).bind (fun x16=>(eO (S:=Int) (T:=Empty) (fun v17 x20=>some (.inl x20.Amount)) p2.Amount x16).bind fun q=>match q with | .inl v17=>(bM p1 4 v5).bind (fun x23=>(eO (S:=ByteArray) (T:=Empty) (fun v24 x27=>some (.inl x27.Country)) p2.Country x23).bind fun q=>match q with | .inl v24=>(bM p0.Facts 5 36524).bind (fun x30=>(eO (S:=Int) (T:=Empty) (fun v31 x34=>some (.inl (de p0.Units x34.Amount))) 0 x30).bind fun q=>match q with | .inl v31=>some (⟨p0.Code,v24,v11,p2.Company,p2.Day,p0.Units,v17,v31⟩:Ze) | .inr e=>e.elim) | .inr e=>e.elim) | .inr e=>e.elim) | .inr e=>e.elim)
theorem ja {p0:Zd} {p1:(List Za)} {p2:Za} {r:Ze}  (h:dZ p0 p1 p2=some r):PF 25 [.agg (aJ p0),pL Za.enc p1,.agg (ah p2)] (.agg (dw r)):=by
 unfold dZ at h
 refine bP ?_
 refine lV Tryd.func25 (fnk Tryd.func25 rfl) rfl Tryd.ntmps25 Tryd.results25 rfl (bG (cZ (af (ar rfl (cG (cs:=(aJ p0)) rfl rfl (fun b1=>ar rfl (cG (cs:=(ah p2)) rfl rfl (fun b2=>ar rfl (aT (cs:=[pS ByteArray.empty,pS ByteArray.empty,pB false,pI 0,pI 0,pI 0,pI 0,pI 0]) rfl rfl rfl rfl (fun b3=>aw (bH (bG (cZ (aa h fun x4 hx4 h=>aG [1] [14,15,16,13,17,18] [(7,pI x4.1),(8,pI x4.2)] (bB 2 (fL hx4) bT) (by kernel_rfl) (bH (bG (cZ (aa h fun q6 hq6 h=>?_))))))))))))))))))
 refine ra (Y:=Unit×Int) (fun (_,v5)=>[(1,pL Za.enc p1),(3,pP b1 0),(5,pP b2 0),(6,pP b3 0),(7,pI v5)]) (fun (_,v5)=>[PRes.b b1 30 (aJ p0),PRes.b b2 28 (ah p2),PRes.b b3 34 [pS ByteArray.empty,pS ByteArray.empty,pB false,pI 0,pI 0,pI 0,pI 0,pI 0]]) (fun (_,v5)=>q6=v5) ?_ ?_
 ·skip
  refine ae (an [19] [(20,pB (x4.2 != 0))] (by kernel_rfl) (ai (d6 rfl hq6 (fun hc7 hq6=>?_) fun hc7 hq6=>?_)))
  ·refine am [(7,pI 36524)] (by kernel_rfl) ?_
   obtain rfl:=osi hq6
   exact rb ((),36524) (zh5 rfl) (er (cU (cU cz)) (er (cU cz) eo)) rfl
  refine ak ?_
  obtain rfl:=osi hq6
  exact rb ((),x4.1) (zh5 rfl) (er (cU (cU cz)) (er (cU cz) eo)) rfl
 rintro ⟨_,v5⟩ τ ρ1 hsub8 hz;(try dsimp only at hz hsub8);subst q6;(try dsimp only at h);dsimp only [bj]
 refine bH (pwq_sub hsub8 (bG (cZ (af (dT 13 [0,1,1,1,0,1] (rg 21 12) [(33,.agg [pS p0.Code,pS p2.Country,pB false,pI p2.Company,pI p2.Day,pI p0.Units,pI p2.Amount,pI 0])] (by kernel_rfl) (ar rfl (aT (cs:=[pS ByteArray.empty,pS ByteArray.empty,pB false,pI 0,pI 0,pI 0,pI 0,pI 0]) rfl rfl rfl rfl (fun b9=>aB rfl rfl (ag (vs:=[pS p0.Code,pS p2.Country,pB false,pI p2.Company,pI p2.Day,pI p0.Units,pI p2.Amount,pI 0]) rfl rfl rfl rfl rfl cS zl8 (aw (bH (bG (bG (cZ (aa h fun x10 hx10 h=>aG [] [34,35] [(36,.fn 37 [.ref [pL Za.enc p1] 0,.ref [pI 2] 0,.ref [pI v5] 0])] (bB 2 (cP hx10) bT) (by kernel_rfl) (bH (eB (aa h fun q13 hq13 h=>?_))))))))))))))))))
 refine eA (Y:=Unit) (y0:=()) (R:=fun _ v11=>[PRes.b b1 30 (aJ p0),PRes.b b2 28 (ah p2),PRes.b b3 34 [pS ByteArray.empty,pS ByteArray.empty,pB false,pI 0,pI 0,pI 0,pI 0,pI 0],PRes.b b9 34 [pS p0.Code,pS p2.Country,pB v11,pI p2.Company,pI p2.Day,pI p0.Units,pI p2.Amount,pI 0]]) (R':=fun t=>[]) hq13 rfl (cx hx10) rfl (by kernel_rfl) (by kernel_rfl) (er (cU cz) (er (cU cz) (er (cU cz) eo))) ?_ ?_ ?_
 ·rintro _ v11 x14 suf hs;obtain ⟨o,ho12,hk15⟩:=iD hs;clear hs;(try dsimp only at ho12);(try dsimp only [DFp])
  refine ak (iC (aH (af (aR 1 [(38,pP b9 2)] (by kernel_rfl) (aB rfl rfl (ag (vs:=[pB true]) rfl rfl rfl rfl rfl (em (em (em cS))) (cC (cC gH)) (aw (aC ?_))))))))
  exact ib ho12 hk15 () zs4
 ·rintro _ v11 D hr;subst hr;(try dsimp only at h);(try dsimp only)
  refine eC (bH (bG (bG (cZ (aa h fun x16 hx16 h=>aG [] [39,40] [(41,.fn 37 [.ref [pL Za.enc p1] 0,.ref [pI 3] 0,.ref [pI v5] 0])] (bB 2 (cP hx16) bT) (by kernel_rfl) (bH (eB (aa h fun q19 hq19 h=>?_))))))))
  refine eA (Y:=Unit) (y0:=()) (R:=fun _ v17=>[PRes.b b1 30 (aJ p0),PRes.b b2 28 (ah p2),PRes.b b3 34 [pS ByteArray.empty,pS ByteArray.empty,pB false,pI 0,pI 0,pI 0,pI 0,pI 0],PRes.b b9 34 [pS p0.Code,pS p2.Country,pB v11,pI p2.Company,pI p2.Day,pI p0.Units,pI v17,pI 0]]) (R':=fun t=>[]) hq19 rfl (cx hx16) rfl (by kernel_rfl) (by kernel_rfl) zs4 ?_ ?_ ?_
  ·rintro _ v17 x20 suf hs;obtain ⟨o,ho18,hk21⟩:=iD hs;clear hs;(try dsimp only at ho18);(try dsimp only [DFp])
   refine af (ar rfl (aT (cs:=[pI 0,pI 0,pI 0,pI 0,pS ByteArray.empty,pI 0,pI 0]) rfl rfl rfl rfl (fun b22=>aB rfl rfl (ag (vs:=(ah x20)) rfl rfl rfl rfl rfl cS zl7 (aw (iC (aH (af (dT 3 [0] [43] [(44,pI x20.Amount),(45,pP b9 6)] (by kernel_rfl) (aB rfl rfl (ag (vs:=[pI x20.Amount]) rfl rfl rfl rfl rfl (em (em (em (em cS)))) (cC (cC (cC (cC (cC (cC gH)))))) (aw (aC ?_)))))))))))))
   exact ib ho18 hk21 () (er (cU cz) (er (cU cz) (er (cU cz) (er (cU cz) eR))))
  ·rintro _ v17 D hr;subst hr;(try dsimp only at h);(try dsimp only)
   refine eC (bH (bG (bG (cZ (aa h fun x23 hx23 h=>aG [] [46,47] [(48,.fn 37 [.ref [pL Za.enc p1] 0,.ref [pI 4] 0,.ref [pI v5] 0])] (bB 2 (cP hx23) bT) (by kernel_rfl) (bH (eB (aa h fun q26 hq26 h=>?_))))))))
   refine eA (Y:=Unit) (y0:=()) (R:=fun _ v24=>[PRes.b b1 30 (aJ p0),PRes.b b2 28 (ah p2),PRes.b b3 34 [pS ByteArray.empty,pS ByteArray.empty,pB false,pI 0,pI 0,pI 0,pI 0,pI 0],PRes.b b9 34 [pS p0.Code,pS v24,pB v11,pI p2.Company,pI p2.Day,pI p0.Units,pI v17,pI 0]]) (R':=fun t=>[]) hq26 rfl (cx hx23) rfl (by kernel_rfl) (by kernel_rfl) zs4 ?_ ?_ ?_
   ·rintro _ v24 x27 suf hs;obtain ⟨o,ho25,hk28⟩:=iD hs;clear hs;(try dsimp only at ho25);(try dsimp only [DFp])
    refine af (ar rfl (aT (cs:=[pI 0,pI 0,pI 0,pI 0,pS ByteArray.empty,pI 0,pI 0]) rfl rfl rfl rfl (fun b29=>aB rfl rfl (ag (vs:=(ah x27)) rfl rfl rfl rfl rfl cS zl7 (aw (iC (aH (af (dT 3 [0] [50] [(51,pS x27.Country),(52,pP b9 1)] (by kernel_rfl) (aB rfl rfl (ag (vs:=[pS x27.Country]) rfl rfl rfl rfl rfl (em (em (em (em cS)))) (cC gH) (aw (aC ?_)))))))))))))
    exact ib ho25 hk28 () (er (cU cz) (er (cU cz) (er (cU cz) (er (cU cz) eR))))
   ·rintro _ v24 D hr;subst hr;(try dsimp only at h);(try dsimp only)
    refine eC (bH (bG (bG (cZ (aa h fun x30 hx30 h=>aG [0] [53,54] [(55,.fn 37 [.ref [pL Za.enc p0.Facts] 0,.ref [pI 5] 0,.ref [pI 36524] 0])] (bB 2 (cP hx30) bT) (by kernel_rfl) (bH (eB (aa h fun q33 hq33 h=>?_))))))))
    refine eA (Y:=Unit) (y0:=()) (R:=fun _ v31=>[PRes.b b1 30 (aJ p0),PRes.b b2 28 (ah p2),PRes.b b3 34 [pS ByteArray.empty,pS ByteArray.empty,pB false,pI 0,pI 0,pI 0,pI 0,pI 0],PRes.b b9 34 [pS p0.Code,pS v24,pB v11,pI p2.Company,pI p2.Day,pI p0.Units,pI v17,pI v31]]) (R':=fun t=>[]) hq33 rfl (cx hx30) rfl (by kernel_rfl) (by kernel_rfl) zs4 ?_ ?_ ?_
    ·rintro _ v31 x34 suf hs;obtain ⟨o,ho32,hk35⟩:=iD hs;clear hs;(try dsimp only at ho32);(try dsimp only [DFp])
     refine af (ar rfl (aT (cs:=[pI 0,pI 0,pI 0,pI 0,pS ByteArray.empty,pI 0,pI 0]) rfl rfl rfl rfl (fun b36=>aB rfl rfl (ag (vs:=(ah x34)) rfl rfl rfl rfl rfl cS zl7 (aw (iC (aH (af (dT 6 [1,0] [57,58,59,60] [(61,pI (de p0.Units x34.Amount)),(62,pP b9 7)] (by kernel_rfl) (aB rfl rfl (ag (vs:=[pI (de p0.Units x34.Amount)]) rfl rfl rfl rfl rfl (em (em (em (em cS)))) (cC (cC (cC (cC (cC (cC (cC gH))))))) (aw (aC ?_)))))))))))))
     exact ib ho32 hk35 () (er (cU cz) (er (cU cz) (er (cU cz) (er (cU cz) eR))))
    ·rintro _ v31 D hr;subst hr;(try dsimp only at h);(try dsimp only)
     refine eC (bH (cZ (ae (af (fY 1 [3] [(63,.agg [pS p0.Code,pS v24,pB v11,pI p2.Company,pI p2.Day,pI p0.Units,pI v17,pI v31])] (by kernel_rfl) (aB rfl rfl (ag (vs:=[pS p0.Code,pS v24,pB v11,pI p2.Company,pI p2.Day,pI p0.Units,pI v17,pI v31]) rfl rfl rfl rfl rfl (em (em cS)) zl8 (aw (dV ?_)))))))))
     (repeat (first | apply al | apply aU | apply bO | apply d8 | apply dH | apply cR))
     obtain rfl:=osi h
     exact aN (eJ (cX rfl zm2 rfl)) eR ⟨rfl,rfl⟩
    rintro t;exact t.elim
   rintro t;exact t.elim
  rintro t;exact t.elim
 rintro t;exact t.elim
def dD (p0:Zd):Option (Ze×Bool):=(cw p0).bind fun x4=>cond (x4 != 0) (some ((⟨ByteArray.empty,ByteArray.empty,false,0,0,0,0,0⟩:Ze),false)) ((aD p0.Facts).bind fun x6=>(aS x6 ).bind fun x7=>(bM x7 1 36524).bind fun x12=>(eO (S:=Unit) (T:=(Ze×Bool)) (fun _ x15=>(dZ p0 x7 x15).bind fun x18=>some (.inr (x18,true))) () x12).bind fun q=>match q with | .inl _=>some ((⟨ByteArray.empty,ByteArray.empty,false,0,0,0,0,0⟩:Ze),false) | .inr e=>some e)
theorem fa {p0:Zd} {r:(Ze×Bool)}  (h:dD p0=some r):PF 10 [.agg (aJ p0)] (.tup [.agg (dw r.1),pB r.2]):=by
 unfold dD at h
 refine bP ?_
 refine lV Tryd.func10 (fnk Tryd.func10 rfl) rfl Tryd.ntmps10 Tryd.results10 rfl (bG (cZ (af (ar rfl (cG (cs:=(aJ p0)) rfl rfl (fun b1=>ar rfl (aT (cs:=[pS ByteArray.empty,pS ByteArray.empty,pB false,pI 0,pI 0,pI 0,pI 0,pI 0]) rfl rfl rfl rfl (fun b2=>ar rfl (aT (cs:=[pB false]) rfl rfl rfl rfl (fun b3=>aw (bH (bG (cZ (ae (aa h fun x4 hx4 h=>aG [2] [6,7] [(8,pB (x4 != 0))] (bB 1 (eX hx4) bT) (by kernel_rfl) (ai (d6 rfl h (fun hc5 h=>?_) fun hc5 h=>?_)))))))))))))))))
 ·refine ae ?_
  refine af (aR 1 [(9,.agg [pS ByteArray.empty,pS ByteArray.empty,pB false,pI 0,pI 0,pI 0,pI 0,pI 0])] (by kernel_rfl) (aB rfl rfl (ag (vs:=[pS ByteArray.empty,pS ByteArray.empty,pB false,pI 0,pI 0,pI 0,pI 0,pI 0]) rfl rfl rfl rfl rfl (em cS) zl8 (aB rfl rfl (ag (vs:=[pB false]) rfl rfl rfl rfl rfl cS gH (aw (dV ?_)))))))
  (repeat (first | apply al | apply aU | apply bO | apply d8 | apply dH | apply cR))
  obtain rfl:=osi h
  exact aN (dG (cX rfl zm1 rfl) (cX rfl fU rfl)) eR ⟨rfl,rfl⟩
 refine ak ?_
 refine bH (bG (cZ (aa h fun x6 hx6 h=>aa h fun x7 hx7 h=>af (bc 3 [2] [10,11] [(12,.fn 34 [.ref [pL Za.enc p0.Facts] 0])] (bB 2 (cJ hx6) bT) (by kernel_rfl) ?_))))
 refine ar rfl (bf rfl rfl (ρ1:=[]) (List.Perm.refl _) (dL (cA hx6) hx7) ?_);rintro _ _ ⟨a8,c9,rfl,rfl⟩
 refine ar rfl (aT (cs:=[pN]) rfl rfl rfl rfl (fun b11=>aB rfl rfl (ag (vs:=[pO a8 x7.length c9]) rfl rfl rfl rfl rfl cS gH (aw (bH (bG (bG (cZ (af (fY 1 [0] [(14,pO a8 x7.length c9)] (by kernel_rfl) ?_))))))))))
 refine ri (enc:=Za.enc) (xs:=x7) 14 rfl (by exact cU cz) ?_
 refine aa h fun x12 hx12 h=>bc 1 [] [] [(15,.fn 37 [.ref [pL Za.enc x7] 0,.ref [pI 1] 0,.ref [pI 36524] 0])] (bB 0 (cP hx12) bT) (by kernel_rfl) (kO (k:=0) (enc:=Za.enc) (xs:=x7) (b:=b11) (a:=a8) rfl fU (em cS) (aw (bH (eB (aa h fun q14 hq14 h=>?_)))))
 refine eA (Y:=Unit) (y0:=()) (R:=fun _ _=>[PRes.b b1 30 (aJ p0),PRes.b b11 24 [pL Za.enc x7],PRes.b b2 34 [pS ByteArray.empty,pS ByteArray.empty,pB false,pI 0,pI 0,pI 0,pI 0,pI 0],PRes.b b3 4 [pB false]]) (R':=fun t=>[PRes.b b2 34 (dw t.1),PRes.b b3 4 [pB t.2]]) hq14 rfl (cx hx12) rfl (by kernel_rfl) (by kernel_rfl) (er (cU (cU (cU (cU cz)))) (er (cU cz) (er (cU (cU cz)) (er (cU cz) eR)))) ?_ ?_ ?_
 ·rintro _ _ x15 suf hs;obtain ⟨o,ho13,hk16⟩:=iD hs;clear hs;(try dsimp only at ho13);(try dsimp only [DFp])
  refine af (ar rfl (aT (cs:=[pI 0,pI 0,pI 0,pI 0,pS ByteArray.empty,pI 0,pI 0]) rfl rfl rfl rfl (fun b17=>aB rfl rfl (ag (vs:=(ah x15)) rfl rfl rfl rfl rfl cS zl7 (aw (iC (aH (ae (aa ho13 fun x18 hx18 ho13=>af (bc 4 [1,2,0] [17,18,19] [(20,.agg (dw x18))] (bB 3 (ja hx18) bT) (by kernel_rfl) (aB rfl rfl (ag (vs:=(dw x18)) rfl rfl rfl rfl rfl (em (em (em cS))) zl8 (aB rfl rfl (ag (vs:=[pB true]) rfl rfl rfl rfl rfl (em (em (em (em cS)))) gH (aw (dV ?_))))))))))))))))
  (repeat (first | apply al | apply aU | apply bO | apply d8 | apply dH | apply cR))
  exact pk_rngR ho13 hk16 (er (cU (cU (cU cz))) (er (cU (cU (cU cz))) eR))
 ·rintro _ _ D hr;subst hr;(try dsimp only at h);(try dsimp only)
  refine eC (bH (cZ (ae (af (aR 1 [(21,.agg [pS ByteArray.empty,pS ByteArray.empty,pB false,pI 0,pI 0,pI 0,pI 0,pI 0])] (by kernel_rfl) (aB rfl rfl (ag (vs:=[pS ByteArray.empty,pS ByteArray.empty,pB false,pI 0,pI 0,pI 0,pI 0,pI 0]) rfl rfl rfl rfl rfl (em (em cS)) zl8 (aB rfl rfl (ag (vs:=[pB false]) rfl rfl rfl rfl rfl (em (em (em cS))) gH (aw (dV ?_)))))))))))
  (repeat (first | apply al | apply aU | apply bO | apply d8 | apply dH | apply cR))
  obtain rfl:=osi h
  exact aN (dG (cX rfl zm2 rfl) (cX rfl zm3 rfl)) eR ⟨rfl,rfl⟩
 rintro t D hr;subst hr;(try dsimp only at h);(try dsimp only)
 (repeat (first | apply al | apply aU | apply bO | apply d8 | apply dH | apply cR))
 obtain rfl:=osi h
 exact aN (dG (cX rfl fU rfl) (cX rfl zm1 rfl)) eR ⟨rfl,rfl⟩
def bd (p0:Zd) (p1:Za):Option (Zd×Int):=(cw p0).bind fun x4=>cond (x4 != 0) (some ((⟨0,ByteArray.empty,0,[]⟩:Zd),x4)) ((bU p1).bind fun x6=>cond (!x6) (some ((⟨0,ByteArray.empty,0,[]⟩:Zd),(2:Int))) ((aj p0.Facts p1 (fun y8 y9=>br y8 y9)).bind fun x10=>(gd x10.2 (idx p0.Facts x10.1)).bind fun m11=>cond (x10.2&&(!(Za.eqb m11 p1))) (some ((⟨0,ByteArray.empty,0,[]⟩:Zd),(14:Int))) (cond ((!x10.2)&&(decide (200≤(p0.Facts.length:Int)))) (some ((⟨0,ByteArray.empty,0,[]⟩:Zd),(8:Int))) ((aI p0.Facts).bind fun x14=>Option.bind (cond (!x10.2) ((au x14 x10.1 [p1]).bind fun x26=>some x26) (some x14)) (fun l21=>some ((⟨p0.Source,p0.Code,p0.Units,l21⟩:Zd),(0:Int)))))))
theorem cy {p0:Zd} {p1:Za} {r:(Zd×Int)}  (h:bd p0 p1=some r):PF 13 [.agg (aJ p0),.agg (ah p1)] (.tup [.agg (aJ r.1),pI r.2]):=by
 unfold bd at h
 refine bP ?_
 refine aP Tryd.func13 rfl Tryd.ntmps13 Tryd.results13 rfl (ae (af (ar rfl (cG (cs:=(aJ p0)) rfl rfl (fun b1=>ar rfl (cG (cs:=(ah p1)) rfl rfl (fun b2=>ar rfl (aT (cs:=[pI 0,pS ByteArray.empty,pI 0,pN]) rfl rfl rfl rfl (fun b3=>cY [5] (by kernel_rfl) (bF (ae (aa h fun x4 hx4 h=>aG [2] [9,10] [(6,pI x4)] (bB 1 (eX hx4) bT) (by kernel_rfl) (bF (an [11] [(12,pB (x4 != 0))] (by kernel_rfl) (ai (d6 rfl h (fun hc5 h=>?_) fun hc5 h=>?_))))))))))))))))
 ·refine ae ?_
  refine af (aR 2 [(13,.agg [pI 0,pS ByteArray.empty,pI 0,pN]),(14,pI x4)] (by kernel_rfl) (aB rfl rfl (ag (vs:=[pI 0,pS ByteArray.empty,pI 0,pN]) rfl rfl rfl rfl rfl cS mM (aM [(5,pI x4)] (by kernel_rfl) (ai (ff (k:=3) (b:=b3) rfl cS (cF (al ?_))))))))
  obtain rfl:=osi h
  exact aN (dG (cX rfl fU rfl) (aV rfl)) eR ⟨rfl,rfl⟩
 refine ak ?_
 refine bF (ae (aa h fun x6 hx6 h=>aG [1] [15,16] [(17,pB (!x6))] (bB 1 (eM hx6) bT) (by kernel_rfl) (ai (d6 rfl h (fun hc7 h=>?_) fun hc7 h=>?_))))
 ·refine ae ?_
  refine af (aR 1 [(18,.agg [pI 0,pS ByteArray.empty,pI 0,pN])] (by kernel_rfl) (aB rfl rfl (ag (vs:=[pI 0,pS ByteArray.empty,pI 0,pN]) rfl rfl rfl rfl rfl cS mM (aM [(5,pI 2)] (by kernel_rfl) (ai (ff (k:=3) (b:=b3) rfl cS (cF (al ?_))))))))
  obtain rfl:=osi h
  exact aN (dG (cX rfl fU rfl) (aV rfl)) eR ⟨rfl,rfl⟩
 refine ak ?_
 refine bF (aa h fun x10 hx10 h=>aG [2,1] [20,21,22,23,19,24,25] [(7,pI x10.1),(8,pB x10.2)] (bB 3 (bk (fun hr=>pfv_of (dX hr)) hx10) bT) (by kernel_rfl) (bF (ae (cW (ρd:=[]) [(0,0),(1,0),(2,0),(3,0),(4,0),(5,0),(6,0),(7,0),(8,0),(9,0)] _ (List.Perm.refl _) (by kernel_rfl) rfl (aa h fun m11 hm11 h=>cV 10 [2,1] (rg 26 9) [(35,pB (x10.2&&(!(Za.eqb m11 p1))))] (rC 5 Za.enc (i7 hm11) (foeq 8 Za.eqok28 bT)) (by kernel_rfl) (dQ (ai (d6 rfl h (fun hc12 h=>?_) fun hc12 h=>?_))))))))
 ·refine ae ?_
  refine af (aR 1 [(36,.agg [pI 0,pS ByteArray.empty,pI 0,pN])] (by kernel_rfl) (aB rfl rfl (ag (vs:=[pI 0,pS ByteArray.empty,pI 0,pN]) rfl rfl rfl rfl rfl cS mM (aM [(5,pI 14)] (by kernel_rfl) (ai (ff (k:=3) (b:=b3) rfl cS (cF (al ?_))))))))
  obtain rfl:=osi h
  exact aN (dG (cX rfl fU rfl) (aV rfl)) eR ⟨rfl,rfl⟩
 refine ak ?_
 refine bF (ae (cq [2] (rg 37 7) [(44,pB ((!x10.2)&&(decide (200≤(p0.Facts.length:Int)))))] (by kernel_rfl) (ai (d6 rfl h (fun hc13 h=>?_) fun hc13 h=>?_))))
 ·refine ae ?_
  refine af (aR 1 [(45,.agg [pI 0,pS ByteArray.empty,pI 0,pN])] (by kernel_rfl) (aB rfl rfl (ag (vs:=[pI 0,pS ByteArray.empty,pI 0,pN]) rfl rfl rfl rfl rfl cS mM (aM [(5,pI 8)] (by kernel_rfl) (ai (ff (k:=3) (b:=b3) rfl cS (cF (al ?_))))))))
  obtain rfl:=osi h
  exact aN (dG (cX rfl fU rfl) (aV rfl)) eR ⟨rfl,rfl⟩
 refine ak ?_
 refine bF (aa h fun x14 hx14 h=>af (dT 2 [2] [46] [(47,pL Za.enc p0.Facts)] (by kernel_rfl) ?_))
 refine ar rfl (bf rfl rfl (ρ1:=[]) (List.Perm.refl _) (cN hx14) ?_);rintro _ _ ⟨a15,c16,rfl,rfl⟩
 refine aR 1 [(49,pP b1 3)] (by kernel_rfl) (aB rfl rfl (ag (vs:=[pO a15 x14.length c16]) rfl rfl rfl rfl rfl (em (em (em cS))) (cC (cC (cC gH))) (aw (bF (ae (an [50] [(51,pB (!x10.2))] (by kernel_rfl) (ai (aa h fun q22 hq22 h=>?_))))))))
 refine bx (Y:=(Option Addr×Nat)×((List Za))) (fun ((a19,c20),l21)=>[(2,pP b1 0),(4,pP b3 0)]) (fun ((a19,c20),l21)=>[PRes.b b1 30 [pI p0.Source,pS p0.Code,pI p0.Units,pO a19 l21.length c20],PRes.b b3 30 [pI 0,pS ByteArray.empty,pI 0,pN],PRes.row a19 l21.length c20 28 7 (List.map Za.enc l21)]) (fun ((a19,c20),l21)=>q22=l21) ?_ ?_
 ·skip
  refine d6 rfl hq22 (fun hc23 hq22=>?_) fun hc23 hq22=>?_
  ·refine af ?_
   refine dT 4 [3,2] [52] [(53,pO a15 x14.length c16),(54,pI x10.1),(55,.agg (ah p1))] (by kernel_rfl) (ar rfl (gD rfl rfl rfl rfl rfl (pH rfl zin) rfl rfl rfl rfl (fun b24=>aa hq22 fun x26 hx26 hq22=>?_)))
   refine ar rfl (bf rfl rfl (ρ1:=[_,_]) (aX (by exact cU cz) (aX (by exact cz) (List.Perm.refl _))) (cK hx26) ?_);rintro _ _ ⟨a27,c28,rfl,rfl⟩
   refine aR 1 [(58,pP b1 3)] (by kernel_rfl) (aB rfl rfl (ag (vs:=[pO a27 x26.length c28]) rfl rfl rfl rfl rfl (em (em (em cS))) (cC (cC (cC gH))) (aw ?_)))
   obtain rfl:=osi hq22
   exact aY ((a27,c28),x26) (zh2 rfl) (er (cU (cU (cU cz))) (er (cU cz) eo)) rfl
  refine ak ?_
  obtain rfl:=osi hq22
  exact aY ((a15,c16),x14) (zh2 rfl) (er (cU (cU (cU cz))) (er (cU cz) eo)) rfl
 rintro ⟨⟨a19,c20⟩,l21⟩ τ hz;(try dsimp only at hz);subst q22;(try dsimp only at h);dsimp only [bj]
 refine ae (af ?_)
 refine oC (css:=List.map Za.enc l21) (a:=a19) (by exact cU (cU cz)) ?_
 refine kO (k:=3) (enc:=Za.enc) (xs:=l21) (b:=b1) (a:=a19) rfl fU (em cS) (fY 1 [1] [(59,.agg [pI p0.Source,pS p0.Code,pI p0.Units,pL Za.enc l21])] (by kernel_rfl) (aB rfl rfl (ag (vs:=[pI p0.Source,pS p0.Code,pI p0.Units,pL Za.enc l21]) rfl rfl rfl rfl rfl (em (em cS)) mM (aM [(5,pI 0)] (by kernel_rfl) (dV ?_)))))
 obtain rfl:=osi h
 exact aN (dG (cX rfl zm2 rfl) (aV rfl)) eR ⟨rfl,rfl⟩
def eZ  : Option Bool:=(fk 7 (⟨#[49,48,48,48,48,48,48,48]⟩:ByteArray) 10).bind fun x1=>(bd x1.1 (⟨100,2,900,3,ByteArray.empty,80,0⟩:Za)).bind fun x3=>(bd x3.1 (⟨100,1,5,1,(⟨#[65,65]⟩:ByteArray),100,0⟩:Za)).bind fun x4=>(bd x4.1 (⟨100,3,1300,3,ByteArray.empty,70,0⟩:Za)).bind fun x5=>(dD x5.1).bind fun x6=>some ((((((x1.2 == 0)&&(x3.2 == 0))&&(x4.2 == 0))&&(x5.2 == 0))&&x6.2)&&(Ze.eqb x6.1 (⟨(⟨#[49,48,48,48,48,48,48,48]⟩:ByteArray),(⟨#[65,65]⟩:ByteArray),false,0,5,10,80,0⟩:Ze)))
theorem kl  {r:Bool}  (h:eZ  = some r):PF 12 [] (pB r):=by
 unfold eZ at h
 refine bP ?_
 refine aP Tryd.func12 rfl Tryd.ntmps12 Tryd.results12 rfl (ae (bg [0] (by kernel_rfl) (bF (aa h fun x1 hx1 h=>af (bc 4 [] [9,8] [(10,.agg (aJ x1.1)),(11,pI x1.2)] (bB 0 (hX hx1) bT) (by kernel_rfl) (ar rfl (aT (cs:=[pI 0,pS ByteArray.empty,pI 0,pN]) rfl rfl rfl rfl (fun b2=>aB rfl rfl (ag (vs:=(aJ x1.1)) rfl rfl rfl rfl rfl cS mM (aM [(2,pI x1.2)] (by kernel_rfl) (bF (aa h fun x3 hx3 h=>af (bc 6 [0] [13,14,15,12] [(16,.agg (aJ x3.1)),(17,pI x3.2)] (bB 2 (cy hx3) bT) (by kernel_rfl) (aB rfl rfl (ag (vs:=(aJ x3.1)) rfl rfl rfl rfl rfl cS mM (aM [(3,pI x3.2)] (by kernel_rfl) (bF (aa h fun x4 hx4 h=>af (bc 6 [0] [19,20,21,18] [(22,.agg (aJ x4.1)),(23,pI x4.2)] (bB 2 (cy hx4) bT) (by kernel_rfl) (aB rfl rfl (ag (vs:=(aJ x4.1)) rfl rfl rfl rfl rfl cS mM (aM [(4,pI x4.2)] (by kernel_rfl) (bF (aa h fun x5 hx5 h=>af (bc 6 [0] [25,26,27,24] [(28,.agg (aJ x5.1)),(29,pI x5.2)] (bB 2 (cy hx5) bT) (by kernel_rfl) (aB rfl rfl (ag (vs:=(aJ x5.1)) rfl rfl rfl rfl rfl cS mM (aM [(5,pI x5.2)] (by kernel_rfl) (bF (aa h fun x6 hx6 h=>af (bc 5 [0] [31,32,30] [(33,.agg (dw x6.1)),(34,pB x6.2)] (bB 1 (fa hx6) bT) (by kernel_rfl) (ar rfl (aT (cs:=[pS ByteArray.empty,pS ByteArray.empty,pB false,pI 0,pI 0,pI 0,pI 0,pI 0]) rfl rfl rfl rfl (fun b7=>aB rfl rfl (ag (vs:=(dw x6.1)) rfl rfl rfl rfl rfl cS zl8 (aM [(7,pB x6.2)] (by kernel_rfl) ?_))))))))))))))))))))))))))))))))))))
 refine bF (aG [0] (rg 35 22) [(0,pB ((((((x1.2 == 0)&&(x3.2 == 0))&&(x4.2 == 0))&&(x5.2 == 0))&&x6.2)&&(Ze.eqb x6.1 (⟨(⟨#[49,48,48,48,48,48,48,48]⟩:ByteArray),(⟨#[65,65]⟩:ByteArray),false,0,5,10,80,0⟩:Ze))))] (foeq 20 Ze.eqok34 bT) (by kernel_rfl) (dV ?_))
 exact zz r h rfl
def ed (p0:Int) (p1:(List Za)):Option (Zd×Bool):=(fk 7 (⟨#[49,48,48,48,48,48,48,48]⟩:ByteArray) p0).bind fun x2=>(bZ (S:=Int×Int×Int×ByteArray×Int×(List Za)) (T:=(Int×Int×ByteArray×Int×(List Za))) (fun (v4,v5,v6,v7,v8,l9)=>cond ((decide (v5<(p1.length:Int)))&&(v4 == 0)) ((idx p1 v5).bind fun m18=>(bd (⟨v6,v7,v8,l9⟩:Zd) m18).bind fun x19=>some (.inl (x19.2,(IntKind.i64.wrap (v5+1)),x19.1.Source,x19.1.Code,x19.1.Units,x19.1.Facts))) (some (.inr (v4,v6,v7,v8,l9)))) FUEL (x2.2,0,x2.1.Source,x2.1.Code,x2.1.Units,x2.1.Facts)).bind fun (v10,v11,v12,v13,l14)=>some ((⟨v11,v12,v13,l14⟩:Zd),(v10 == 0))
theorem kD {p0:Int} {p1:(List Za)} {r:(Zd×Bool)}  (h:ed p0 p1=some r):PF 9 [pI p0,pL Za.enc p1] (.tup [.agg (aJ r.1),pB r.2]):=by
 unfold ed at h
 refine bP ?_
 refine aP Tryd.func9 rfl Tryd.ntmps9 Tryd.results9 rfl (ae (af (ar rfl (aT (cs:=[pI 0,pS ByteArray.empty,pI 0,pN]) rfl rfl rfl rfl (fun b1=>cY [5] (by kernel_rfl) (bF (aa h fun x2 hx2 h=>af (bc 5 [] [10,11,9] [(12,.agg (aJ x2.1)),(13,pI x2.2)] (bB 1 (hX hx2) bT) (by kernel_rfl) (ar rfl (aT (cs:=[pI 0,pS ByteArray.empty,pI 0,pN]) rfl rfl rfl rfl (fun b3=>aB rfl rfl (ag (vs:=(aJ x2.1)) rfl rfl rfl rfl rfl cS mM (aM [(7,pI x2.2)] (by kernel_rfl) (bF (ae (am [(8,pI 0)] (by kernel_rfl) (ai (aa h fun q16 hq16 h=>?_))))))))))))))))))
 refine bx (Y:=Unit×(Int×Int×ByteArray×Int×(List Za))) (fun (_,(v10,v11,v12,v13,l14))=>[(4,pP b1 0),(6,pP b3 0),(7,pI v10)]) (fun (_,(v10,v11,v12,v13,l14))=>[PRes.b b1 30 [pI 0,pS ByteArray.empty,pI 0,pN],PRes.b b3 30 [pI v11,pS v12,pI v13,pL Za.enc l14]]) (fun (_,(v10,v11,v12,v13,l14))=>q16=(v10,v11,v12,v13,l14)) ?_ ?_
 ·refine aH ?_
  refine ck (Y:=Unit) (S:=Int×Int×Int×ByteArray×Int×(List Za)) _ hq16 (fun _ (v4,v5,v6,v7,v8,l9)=>[(1,pL Za.enc p1),(4,pP b1 0),(6,pP b3 0),(7,pI v4),(8,pI v5)]) (fun _ (v4,v5,v6,v7,v8,l9)=>[PRes.b b1 30 [pI 0,pS ByteArray.empty,pI 0,pN],PRes.b b3 30 [pI v6,pS v7,pI v8,pL Za.enc l9]]) () (zh5 rfl) (er (cU cz) eo) ?_
  rintro _ ⟨v4,v5,v6,v7,v8,l9⟩ o τ hb15;(try dsimp only at hb15);dsimp only [bj]
  refine ae (ae (an (rg 14 7) [(21,pB ((decide (v5<(p1.length:Int)))&&(v4 == 0)))] (by kernel_rfl) (ai (d6 rfl hb15 (fun hc17 hb15=>?_) fun hc17 hb15=>?_))))
  ·refine ak ?_
   refine bF (aH (aa hb15 fun m18 hm18 hb15=>aa hb15 fun x19 hx19 hb15=>kR (ρd:=[PRes.b b3 _ _]) _ (aX (cU cz) (List.Perm.refl _)) (cm 1 (by kernel_rfl) rfl rfl rfl rfl (fy (p:=pL Za.enc p1) rfl (.p rfl)) (cm 2 (by kernel_rfl) rfl rfl rfl rfl (fy (p:=pI v5) rfl (.p rfl)) (cm 3 (by kernel_rfl) rfl rfl rfl rfl (rn (enc:=Za.enc) rfl rfl rfl (fun _=>rfl) (.p rfl) (.p rfl) (fun _=>hm18)) (cm 4 (by kernel_rfl) rfl rfl rfl rfl (kQ (p:=.agg (ah m18)) rfl (.p rfl) rfl) (bq 0 (by kernel_rfl) (bL rfl rfl rfl rfl (fI (aZ (p:=.agg [pI v6,pS v7,pI v8,pL Za.enc l9]) rfl (.p rfl) fU rfl) (bq 5 (by kernel_rfl) (cH rfl rfl rfl rfl rfl rfl (cy hx19) (cm 6 (by kernel_rfl) rfl rfl rfl rfl (fy (p:=.tup [.agg (aJ x19.1),pI x19.2]) rfl (.p rfl)) (cm 7 (by kernel_rfl) rfl rfl rfl rfl (fz (p:=.agg (aJ x19.1)) rfl (.p rfl) rfl) (cm 8 (by kernel_rfl) rfl rfl rfl rfl (fz (p:=pI x19.2) rfl (.p rfl) rfl) (bq 9 (by kernel_rfl) (dS rfl rfl rfl (ag (vs:=(aJ x19.1)) rfl rfl rfl rfl rfl cS mM (cm 10 (by kernel_rfl) rfl rfl rfl rfl (bN (p:=pI x19.2) rfl (.p rfl)) (dR (by kernel_rfl) (aC (ai (an [22,23] [(8,pI (IntKind.i64.wrap (v5+1)))] (by kernel_rfl) ?_))))))))))))))))))))))
   exact dv hb15 () (zh5 rfl) (er (cU cz) eo)
  refine cj ?_
  refine bz (bp hb15 (fun ht=>bA rfl ?_))
  exact aY ((),(v4,v6,v7,v8,l9)) (oF rfl) zs2 ht.symm
 rintro ⟨_,⟨v10,v11,v12,v13,l14⟩⟩ τ hz;(try dsimp only at hz);subst q16;(try dsimp only at h);dsimp only [bj]
 refine ae (af (dT 3 [1] [34] [(33,.agg [pI v11,pS v12,pI v13,pL Za.enc l14]),(35,pB (v10 == 0))] (by kernel_rfl) (aB rfl rfl (ag (vs:=[pI v11,pS v12,pI v13,pL Za.enc l14]) rfl rfl rfl rfl rfl cS mM (aM [(5,pB (v10 == 0))] (by kernel_rfl) (dV ?_))))))
 obtain rfl:=osi h
 exact aN (dG (cX rfl fU rfl) (aV rfl)) eR ⟨rfl,rfl⟩
def dh (p0:(List Int)) (p1:Int) (p2:Int) (p3:Int):Option Bool:=(cd p1 50).bind fun x1=>(cd p2 60).bind fun x2=>(cd p3 60).bind fun x3=>(cu p0).bind fun x4=>(ed (IntKind.i64.wrap (1+x1)) x4).bind fun x5=>(bd x5.1 (⟨900,2,0,5,ByteArray.empty,x2,0⟩:Za)).bind fun x7=>(bd x7.1 (⟨900,1,9,5,ByteArray.empty,x3,0⟩:Za)).bind fun x9=>(dD x5.1).bind fun x10=>(dD x9.1).bind fun x12=>cond ((((!x5.2)||(x7.2 != 0))||(x9.2 != 0))||(x10.2 != x12.2)) (some false) (Option.bind (cond x10.2 (some (de (IntKind.i64.wrap (1+x1)) x2)) (some x10.1.Granted)) (fun v15=>(gd (Ze.eqb (⟨x10.1.Code,x10.1.Origin,x10.1.Proof,x10.1.Company,x10.1.Day,x10.1.Quantity,x10.1.Value,v15⟩:Ze) x12.1) (eZ)).bind fun x18=>some ((Ze.eqb (⟨x10.1.Code,x10.1.Origin,x10.1.Proof,x10.1.Company,x10.1.Day,x10.1.Quantity,x10.1.Value,v15⟩:Ze) x12.1)&&x18)))
theorem gq {p0:(List Int)} {p1:Int} {p2:Int} {p3:Int} {r:Bool}  (h:dh p0 p1 p2 p3=some r):PF 5 [pL eI p0,pI p1,pI p2,pI p3] (pB r):=by
 unfold dh at h
 refine bP ?_
 refine aP Tryd.func5 rfl Tryd.ntmps5 Tryd.results5 rfl (ae (bg [8] (by kernel_rfl) (bF (aa h fun x1 hx1 h=>aa h fun x2 hx2 h=>aa h fun x3 hx3 h=>aG [] (rg 18 7) [(1,pI (IntKind.i64.wrap (1+x1))),(2,pI x2),(3,pI x3)] (bB 1 (dW hx1) (bB 4 (dW hx2) (bB 6 (dW hx3) bT))) (by kernel_rfl) (bF (aa h fun x4 hx4 h=>aa h fun x5 hx5 h=>af (bc 7 [] [26,27,28,29,25] [(30,.agg (aJ x5.1)),(31,pB x5.2)] (bB 2 (hB hx4) (bB 3 (kD hx5) bT)) (by kernel_rfl) (ar rfl (aT (cs:=[pI 0,pS ByteArray.empty,pI 0,pN]) rfl rfl rfl rfl (fun b6=>aB rfl rfl (ag (vs:=(aJ x5.1)) rfl rfl rfl rfl rfl cS mM (aM [(10,pB x5.2)] (by kernel_rfl) (bF (aa h fun x7 hx7 h=>af (bc 7 [0] [33,34,35,36,32] [(37,.agg (aJ x7.1)),(38,pI x7.2)] (bB 3 (cy hx7) bT) (by kernel_rfl) (ar rfl (aT (cs:=[pI 0,pS ByteArray.empty,pI 0,pN]) rfl rfl rfl rfl (fun b8=>aB rfl rfl (ag (vs:=(aJ x7.1)) rfl rfl rfl rfl rfl cS mM (aM [(12,pI x7.2)] (by kernel_rfl) (bF (aa h fun x9 hx9 h=>af (bc 7 [0] [40,41,42,43,39] [(44,.agg (aJ x9.1)),(45,pI x9.2)] (bB 3 (cy hx9) bT) (by kernel_rfl) (aB rfl rfl (ag (vs:=(aJ x9.1)) rfl rfl rfl rfl rfl cS mM (aM [(13,pI x9.2)] (by kernel_rfl) (bF (aa h fun x10 hx10 h=>af (bc 5 [1] [47,48,46] [(49,.agg (dw x10.1)),(50,pB x10.2)] (bB 1 (fa hx10) bT) (by kernel_rfl) (ar rfl (aT (cs:=[pS ByteArray.empty,pS ByteArray.empty,pB false,pI 0,pI 0,pI 0,pI 0,pI 0]) rfl rfl rfl rfl (fun b11=>aB rfl rfl (ag (vs:=(dw x10.1)) rfl rfl rfl rfl rfl cS zl8 ?_)))))))))))))))))))))))))))))))))
 refine aM [(15,pB x10.2)] (by kernel_rfl) (bF (aa h fun x12 hx12 h=>af (bc 5 [1] [52,53,51] [(54,.agg (dw x12.1)),(55,pB x12.2)] (bB 1 (fa hx12) bT) (by kernel_rfl) (ar rfl (aT (cs:=[pS ByteArray.empty,pS ByteArray.empty,pB false,pI 0,pI 0,pI 0,pI 0,pI 0]) rfl rfl rfl rfl (fun b13=>aB rfl rfl (ag (vs:=(dw x12.1)) rfl rfl rfl rfl rfl cS zl8 (aM [(17,pB x12.2)] (by kernel_rfl) (bF (ae (an (rg 56 14) [(70,pB ((((!x5.2)||(x7.2 != 0))||(x9.2 != 0))||(x10.2 != x12.2)))] (by kernel_rfl) (ai (d6 rfl h (fun hc14 h=>?_) fun hc14 h=>?_)))))))))))))
 ·refine ae ?_
  refine am [(8,pB false)] (by kernel_rfl) (dV (al ?_))
  exact zz r h rfl
 refine ak ?_
 refine bF (ae (am [(71,pB x10.2)] (by kernel_rfl) (ai (aa h fun q16 hq16 h=>?_))))
 refine bx (Y:=Unit×Int) (fun (_,v15)=>[(14,pP b11 0),(16,pP b13 0)]) (fun (_,v15)=>[PRes.b b11 34 [pS x10.1.Code,pS x10.1.Origin,pB x10.1.Proof,pI x10.1.Company,pI x10.1.Day,pI x10.1.Quantity,pI x10.1.Value,pI v15],PRes.b b13 34 (dw x12.1)]) (fun (_,v15)=>q16=v15) ?_ ?_
 ·skip
  refine d6 rfl hq16 (fun hc17 hq16=>?_) fun hc17 hq16=>?_
  ·refine af ?_
   refine dU 4 [72,73] [(74,pI (de (IntKind.i64.wrap (1+x1)) x2)),(75,pP b11 7)] (by kernel_rfl) (aB rfl rfl (ag (vs:=[pI (de (IntKind.i64.wrap (1+x1)) x2)]) rfl rfl rfl rfl rfl (em cS) (cC (cC (cC (cC (cC (cC (cC gH))))))) (aw ?_)))
   obtain rfl:=osi hq16
   exact aY ((),(de (IntKind.i64.wrap (1+x1)) x2)) (zh2 rfl) (er (cU cz) eo) rfl
  refine ak ?_
  obtain rfl:=osi hq16
  exact aY ((),x10.1.Granted) (zh2 rfl) (er (cU cz) eo) rfl
 rintro ⟨_,v15⟩ τ hz;(try dsimp only at hz);subst q16;(try dsimp only at h);dsimp only [bj]
 refine ae (aa h fun x18 hx18 h=>aG [0,1] (rg 76 6) [(8,pB ((Ze.eqb (⟨x10.1.Code,x10.1.Origin,x10.1.Proof,x10.1.Company,x10.1.Day,x10.1.Quantity,x10.1.Value,v15⟩:Ze) x12.1)&&x18))] (foeq 2 Ze.eqok34 (oJ 4 (fun hc=>kl (i7 hx18 hc)) bT)) (by kernel_rfl) (dV ?_))
 exact zz r h rfl
end SX
namespace SX
open Go
def km (s:ByteArray):Bool:=match s.data.toList with | [a,b]=>decide (65≤(a.toNat:Int))&&decide ((a.toNat:Int)≤90)&&decide (65≤(b.toNat:Int))&&decide ((b.toNat:Int)≤90) | _=>false
theorem se {s:ByteArray} (h:((s.size:Int) == 2)=true):∃ a b,s.data.toList=[a,b]:=by
 have h2:s.data.toList.length=2:=by
  have:=eq_of_beq h
  rw [Array.length_toList];have e:s.size=s.data.size:=rfl;omega
 match hd:s.data.toList,h2 with
 | [a,b],_=>exact ⟨a,b,rfl⟩
theorem not_two {s:ByteArray} (h:((s.size:Int) == 2)=false):km s=false:=by
 unfold km
 split
 ·rename_i a b hd
  have:s.data.toList.length=2:=by rw [hd];rfl
  rw [Array.length_toList] at this
  have e:s.size=s.data.size:=rfl
  have:(s.size:Int)=2:=by omega
  rw [this] at h;cases h
 rfl
theorem oe (s:ByteArray):bw s=some (km s):=by
 unfold bw
 cases hs:((s.size:Int) == 2) with
 | false=>rw [not_two hs];rfl
 | true =>
  obtain ⟨a,b,hd⟩:=se hs
  have e0:idx s.data.toList 0=some a:=by rw [hd];rfl
  have e1:idx s.data.toList 1=some b:=by rw [hd];rfl
  rw [e0,e1]
  have hc:km s=(decide (65≤(a.toNat:Int))&&decide ((a.toNat:Int)≤90)&&decide (65≤(b.toNat:Int))&&decide ((b.toNat:Int)≤90)):=by unfold km;rw [hd]
  rw [hc]
  simp only [gY,d7,Bool.true_and]
  cases h1:decide (65≤(a.toNat:Int)) <;> cases h2:decide ((a.toNat:Int)≤90) <;> cases h3:decide (65≤(b.toNat:Int)) <;> simp [gY,kV,h1,h2,h3]
def fm (x:Za) (v3 v4:Int) (v5:Bool):Bool:=cond ((v5 && !km x.Country)||(!v5 && !decide (x.Country=(⟨#[]⟩:ByteArray)))) false (decide (0≤x.Amount)&&decide (x.Amount≤v3)&&decide (0≤x.Company)&&decide (x.Company≤v4))
def gz (x:Za):Bool:=cond (x.Kind == 1) (fm x 1000000000000 999 true) (cond (x.Kind == 2) (fm x 0 0 false) (cond (x.Kind == 3) (fm x 1000000000000 0 false) (cond (x.Kind == 4) (fm x 0 0 true) (cond (x.Kind == 5) (fm x 1000000000 0 false) false))))
def du (x:Za):Bool:=cond (decide (x.From<0)||decide (999<x.From)||decide (x.Number<1)||decide (1000000000<x.Number)||decide (x.Day<0)||decide (36524<x.Day)) false (gz x)
theorem lX (x:Za):bU x=some (du x):=by
 have hT:∀ (v3 v4:Int) (v5:Bool),(Option.bind (gd v5 (bw x.Country)) (fun x12=>cond ((v5&&(!x12))||((!v5)&&(!decide (x.Country=(⟨#[]⟩:ByteArray))))) (some false) (some ((((decide (0≤x.Amount))&&(decide (x.Amount≤v3)))&&(decide (0≤x.Company)))&&(decide (x.Company≤v4))))))=some (fm x v3 v4 v5):=fun v3 v4 v5=>by
  rw [oe]
  unfold fm
  cases v5
  ·rw [kV]
   simp only [d7,Bool.false_and,Bool.not_false,Bool.true_and,Bool.false_or]
   cases (!decide (x.Country=(⟨#[]⟩:ByteArray))) <;> rfl
  rw [gY]
  simp only [d7,Bool.true_and,Bool.not_true,Bool.false_and,Bool.or_false]
  cases (!km x.Country) <;> rfl
 unfold bU du gz
 cases (decide (x.From<0)||decide (999<x.From)||decide (x.Number<1)||decide (1000000000<x.Number)||decide (x.Day<0)||decide (36524<x.Day))
 ·simp only [eT]
  cases x.Kind == 1
  ·cases x.Kind == 2
   ·cases x.Kind == 3
    ·cases x.Kind == 4
     ·cases x.Kind == 5
      ·rfl
      simp only [eT,dM,d7];exact hT _ _ _
     simp only [eT,dM,d7];exact hT _ _ _
    simp only [eT,dM,d7];exact hT _ _ _
   simp only [eT,dM,d7];exact hT _ _ _
  simp only [dM,d7];exact hT _ _ _
 rfl
theorem qa {x:Za} (h:du x=true):0≤x.Day∧x.Day≤36524:=by
 unfold du at h
 cases hc:(decide (x.From<0)||decide (999<x.From)||decide (x.Number<1)||decide (1000000000<x.Number)||decide (x.Day<0)||decide (36524<x.Day)) with
 | true=>rw [hc] at h;cases h
 | false=>simp only [Bool.or_eq_false_iff,decide_eq_false_iff_not] at hc;omega
def sf (l:List UInt8):Bool:=l.all fun c => !(decide ((c.toNat:Int)<48)||decide (57<(c.toNat:Int)))
def iV (s:Int) (c:ByteArray) (u:Int):Bool:=cond (decide (s<1)||decide (1000000<s)||decide (u<1)||decide (1000000000<u)||((c.size:Int) != 8)) false (sf c.data.toList)
theorem oZ (s:Int) (c:ByteArray) (u:Int):bV s c u=some (iV s c u):=by
 unfold bV iV
 cases hc:(decide (s<1)||decide (1000000<s)||decide (u<1)||decide (1000000000<u)||((c.size:Int) != 8)) with
 | true=>rfl
 | false =>
  simp only [eT]
  have hs:c.data.toList.length=8:=by
   simp only [Bool.or_eq_false_iff,bne_eq_false_iff_eq] at hc
   have:=hc.2;rw [Array.length_toList];have e:c.size=c.data.size:=rfl;omega
  have e:(c.size:Int)=(c.data.toList.length:Int):=by rw [Array.length_toList];rfl
  rw [e]
  refine (iA (l:=c.data.toList) (by omega) (fun _ b=>cond (!(decide ((b.toNat:Int)<48)||decide (57<(b.toNat:Int)))) none (some (.inr false))) (.inl ()) (fun k hk=>?_) (by rw [dnlt];rfl)).trans ?_
  ·simp only [dlt hk,dM,ei hk,d7,oN hk (show c.data.toList.length≤4611686018427387904 by omega)]
   cases decide (((c.data.toList[k]).toNat:Int)<48)
   ·simp only [Bool.not_false,gY,d7,Bool.false_or]
    cases decide (57<((c.data.toList[k]).toNat:Int)) <;> rfl
   simp only [Bool.not_true,kV,d7,Bool.true_or];rfl
  rw [iB]
  unfold sf
  cases c.data.toList.all fun b => !(decide ((b.toNat:Int)<48)||decide (57<(b.toNat:Int))) <;> rfl
def kE {α:Type} (p:α→α→Bool):List α→Bool
 | []=>true
 | [_]=>true
 | x::y::l=>p x y&&kE p (y::l)
theorem sg {α T:Type} {l:List α} (hl:l.length≤4611686018427387904) {body:Int→Option (Int⊕T)} (p:α→α→Bool) (t e:T)
    (hstep:∀ (k:Nat) (hk:k+1<l.length),body ((k:Int)+1)=some (cond (p l[k] l[k+1]) (.inl ((k:Int)+2)) (.inr t))) (hend:∀ k:Int,(l.length:Int)≤k→1≤k→k≤(l.length:Int)+1→body k=some (.inr e)):bZ body FUEL 1=some (cond (kE p l) e t):=by
  have main:∀ (m k N:Nat),m+k+1=l.length→m<N→bZ body N ((k:Int)+1)=some (cond (kE p (l.drop k)) e t):=by
    intro m
    induction m with
    | zero =>
      intro k N hk hN
      obtain ⟨N,rfl⟩:∃ M,N=M+1:=⟨N - 1,by omega⟩
      have hd:l.drop k=[l[k]'(by omega)]:=by rw [List.drop_eq_getElem_cons (by omega),List.drop_of_length_le (by omega)]
      rw [dB,hend _ (by omega) (by omega) (by omega),hd];rfl
    | succ m ih =>
      intro k N hk hN
      obtain ⟨N,rfl⟩:∃ M,N=M+1:=⟨N - 1,by omega⟩
      have hd:l.drop k=l[k]'(by omega)::l[k+1]'(by omega)::l.drop (k+2):=by rw [List.drop_eq_getElem_cons (by omega),List.drop_eq_getElem_cons (by omega)]
      have hd2:l.drop (k+1)=l[k+1]'(by omega)::l.drop (k+2):=by rw [List.drop_eq_getElem_cons (by omega)]
      rw [dB,hstep k (by omega),hd,kE,← hd2]
      cases p (l[k]'(by omega)) (l[k+1]'(by omega))
      · rfl
      simp only [dM,Bool.true_and]
      have:=ih (k+1) N (by omega) (by omega)
      rw [show ((k+1:Nat):Int)+1=(k:Int)+2 by omega] at this
      exact this
  cases l with
  | nil =>
    obtain ⟨N,hN⟩:∃ N,FUEL=N+1:=⟨FUEL - 1,by unfold FUEL;omega⟩
    rw [hN,dB,hend 1 (by simp) (by omega) (by simp)];rfl
  | cons x xs=>exact main xs.length 0 FUEL (by simp) (jY (by simp at hl;omega))
def ascN (l:List Za):Bool:=kE aQ l
theorem dK (x y:Za):aQ x y=true↔x.From<y.From∨(x.From=y.From∧x.Number<y.Number):=by simp [aQ]
theorem iK (x y:Za):aQ x y=false↔¬ (x.From<y.From∨(x.From=y.From∧x.Number<y.Number)):=by rw [← dK];simp
theorem f7 (x y z:Za):aQ x y=true→aQ y z=true→aQ x z=true:=by simp only [dK];omega
theorem og {α:Type} {p:α→α→Bool} (tr:∀ x y z,p x y=true→p y z=true→p x z=true):∀ {l:List α},kE p l=true↔l.Pairwise (fun x y=>p x y=true)
 | []=>by simp [kE]
 | [x]=>by simp [kE]
 | x::y::l=>by
  rw [kE,Bool.and_eq_true,og tr,List.pairwise_cons (a:=x)]
  constructor
  ·rintro ⟨h1,h2⟩
   refine ⟨fun z hz=>?_,h2⟩
   rcases List.mem_cons.1 hz with rfl | hz
   ·exact h1
   exact tr _ _ _ h1 ((List.pairwise_cons.1 h2).1 z hz)
  rintro ⟨h1,h2⟩;exact ⟨h1 y (by simp),h2⟩
def o1 (f:Zd):Int:=cond (!iV f.Source f.Code f.Units) 2 (cond (decide (200<(f.Facts.length:Int))) 8 (cond (f.Facts.all du) (cond (ascN f.Facts) 0 9) 2))
theorem f8 (f:Zd):cw f=some (o1 f):=by
 unfold cw o1
 rw [oZ,d7]
 cases iV f.Source f.Code f.Units with
 | false=>rfl
 | true =>
  simp only [Bool.not_true,eT]
  cases hl:decide (200<(f.Facts.length:Int)) with
  | true=>rfl
  | false =>
   have hl:=of_decide_eq_false hl
   simp only [eT]
   refine (iA (l:=f.Facts) (by omega) (fun _ x=>cond (du x) none (some (.inr (2:Int)))) (.inl ()) (fun k hk=>?_) (by rw [dnlt];rfl)).trans ?_
   ·simp only [dlt hk,dM,ei hk,d7,oN hk (show f.Facts.length≤4611686018427387904 by omega),lX]
    cases du f.Facts[k] <;> rfl
   rw [iB]
   cases hv:f.Facts.all du with
   | false=>rfl
   | true =>
    simp only [dM,Option.getD_none]
    rw [sg (l:=f.Facts) (by omega) aQ (.inr (9:Int)) (.inl ()) (fun k hk=>?_) (fun k h1 h2 h3=>?_)]
    ·unfold ascN;cases kE aQ f.Facts <;> rfl
    ·rw [det (by omega:(k:Int)+1<(f.Facts.length:Int)),dM,co (r:=(k:Int)+1 - 1) (by omega) (by omega),show (k:Int)+1 - 1=(k:Int) by omega,show (k:Int)+1=((k+1:Nat):Int) by omega,ei (show k<f.Facts.length by omega),ei hk]
     simp only [d7,ij]
     rw [co (by omega) (by omega)]
     have e:decide (0≤dI f.Facts[k] f.Facts[k+1]) = !aQ f.Facts[k] f.Facts[k+1]:=by rw [← iI,← decide_not];exact decide_eq_decide.2 (by omega)
     rw [e]
     cases aQ f.Facts[k] f.Facts[k+1]
     ·rfl
     show some (Sum.inl _)=some (Sum.inl _);congr 2 <;> omega
    rw [dy (by omega)];rfl
structure FileOk (f:Zd):Prop where
 head:iV f.Source f.Code f.Units=true
 len:f.Facts.length≤200
 val:∀ x∈f.Facts,du x=true
 asc:f.Facts.Pairwise (fun x y=>aQ x y=true)
theorem kn (f:Zd):o1 f=0↔FileOk f:=by
 unfold o1
 cases h1:iV f.Source f.Code f.Units with
 | false=>exact ⟨fun h=>by simp at h,fun h=>by rw [h.head] at h1;cases h1⟩
 | true =>
  cases h2:decide (200<(f.Facts.length:Int)) with
  | true=>exact ⟨fun h=>by simp at h,fun h=>by have:=h.len;have:=of_decide_eq_true h2;omega⟩
  | false =>
   have h2:=of_decide_eq_false h2
   cases h3:f.Facts.all du with
   | false=>exact ⟨fun h=>by simp at h,fun h=>by rw [List.all_eq_true.2 h.val] at h3;cases h3⟩
   | true =>
    cases h4:ascN f.Facts with
    | false=>exact ⟨fun h=>by simp at h,fun h=>by unfold ascN at h4;rw [(og f7).2 h.asc] at h4;cases h4⟩
    | true=>exact ⟨fun _=>⟨h1,by omega,List.all_eq_true.1 h3,(og f7).1 h4⟩,fun _=>rfl⟩
theorem half_u (x:Nat) (h:x≤10000000):IntKind.i64.wrap (i5 .u64 (IntKind.u64.wrap (IntKind.i64.wrap (x:Int))) 1)=((x / 2:Nat):Int):=by
 rw [co (r:=(x:Int)) (by omega) (by omega),u64s (by omega) (by omega)]
 have:i5 .u64 (x:Int) 1=(x:Int) / 2:=Int.fdiv_eq_ediv_of_nonneg _ (by decide)
 rw [this,co (by omega) (by omega)];omega
theorem dE (x y:Za):dI x y=0↔x.From=y.From∧x.Number=y.Number:=by
 unfold dI
 by_cases h:x.From=y.From
 ·rw [if_pos ((dJ _ _).2 h),dJ];exact ⟨fun e=>⟨h,e⟩,fun e=>e.2⟩
 rw [if_neg (fun e=>h ((dJ _ _).1 e)),dJ];exact ⟨fun e=>absurd e h,fun e=>absurd e.1 h⟩
structure Low (l:List Za) (x:Za) (j:Nat):Prop where
 le:j≤l.length
 lo:∀ (k:Nat) (y:Za),l[k]?=some y→k<j→aQ y x=true
 hi:∀ (k:Nat) (y:Za),l[k]?=some y→j≤k→aQ y x=false
theorem o2:∀ {l:List Za} {x:Za} {j:Nat},Low l x j→l.take j++[x]++l.drop j=ez aQ x l
 | [],x,j,h=>by
  have:=h.le;simp only [List.length_nil] at this;have:j=0:=by omega
  subst this;rfl
 | y::l,x,0,h=>by
  have:=h.hi 0 y rfl (Nat.le_refl _)
  unfold ez;rw [this];rfl
 | y::l,x,j+1,h=>by
  have h1:=h.lo 0 y rfl (by omega)
  have ih:=o2 (l:=l) (x:=x) (j:=j) ⟨by have:=h.le;simp at this;omega,fun k z hz hk=>h.lo (k+1) z (by simpa using hz) (by omega),fun k z hz hk=>h.hi (k+1) z (by simpa using hz) (by omega)⟩
  unfold ez;rw [h1,dM,← ih];rfl
theorem lm {l:List Za} (x:Za) (hl:l.length≤200) (hs:l.Pairwise fun a b=>aQ a b=true):∃ j:Nat,Low l x j∧aj l x (fun y8 y9=>br y8 y9)=some ((j:Int),match l[j]? with | some y=>dI y x == 0 | none=>false):=by
 unfold aj
 have hloop:Y (bZ (S:=Int×Int) (T:=(Int)) (fun (v2,v3)=>cond (decide (v2<v3)) (lb ((IntKind.i64.wrap (i5 .u64 (IntKind.u64.wrap (IntKind.i64.wrap (v2+v3))) 1))) (fun w8=>Option.bind (idx l w8) (fun m9=>Option.bind (br m9 x) (fun x10=>cond (decide (x10<0)) (some (.inl ((IntKind.i64.wrap (w8+1)),v3))) (some (.inl (v2,w8))))))) (some (.inr v2))) FUEL (0,(l.length:Int))) (fun t=>∃ j:Nat,t=(j:Int)∧Low l x j):=by
  refine Y.loop (fun s:Int×Int=>∃ i j:Nat,s.1=(i:Int)∧s.2=(j:Int)∧i≤j∧j≤l.length∧(∀ (k:Nat) (p:Za),l[k]?=some p→k<i→aQ p x=true)∧(∀ (k:Nat) (p:Za),l[k]?=some p→j≤k→aQ p x=false)) (fun s=>(s.2 - s.1).toNat) ⟨0,l.length,rfl,rfl,by omega,by omega,fun k p _ hk=>absurd hk (Nat.not_lt_zero _),fun k p hp hk=>by have:=(List.getElem?_eq_some_iff.1 hp).1;omega⟩ (by dsimp only;omega) fun s hs'=>?_
  obtain ⟨a,b⟩:=s
  obtain ⟨i,j,rfl,rfl,h1,h2,h3,h4⟩:=hs'
  dsimp only
  refine Y.cond (fun hc=>?_) (fun hc=>Y.ret ⟨i,rfl,by omega,h3,fun k p hp hk=>h4 k p hp (by have:=of_decide_eq_false hc;omega)⟩)
  have hc:i<j:=by have:=of_decide_eq_true hc;omega
  unfold lb
  rw [show (i:Int)+(j:Int)=((i+j:Nat):Int) by omega,half_u _ (by omega)]
  have hm:(i+j) / 2<l.length:=by omega
  have pw:=List.pairwise_iff_getElem.1 hs
  refine Y.idx rfl hm (Y.eq (ij _ _) ?_)
  rw [iI]
  cases hlt:aQ l[(i+j) / 2] x with
  | true =>
   refine Y.ret ⟨⟨(i+j) / 2+1,j,?_,rfl,by omega,h2,fun k p hp hk=>?_,h4⟩,?_⟩
   ·show IntKind.i64.wrap _=_;rw [co (by omega) (by omega)];omega
   ·obtain ⟨hk2,rfl⟩:=List.getElem?_eq_some_iff.1 hp
    rcases Nat.lt_or_ge k ((i+j) / 2) with h5 | h5
    ·exact f7 _ _ _ (pw k ((i+j) / 2) hk2 hm h5) hlt
    have e:k=(i+j) / 2:=by omega
    subst e;exact hlt
   ·show ((j:Int) - IntKind.i64.wrap _).toNat<_;rw [co (by omega) (by omega)];omega
  | false =>
   refine Y.ret ⟨⟨i,(i+j) / 2,rfl,rfl,by omega,by omega,h3,fun k p hp hk=>?_⟩,by dsimp only;omega⟩
   obtain ⟨hk2,rfl⟩:=List.getElem?_eq_some_iff.1 hp
   rcases Nat.lt_or_ge ((i+j) / 2) k with h5 | h5
   ·have h6:=pw ((i+j) / 2) k hm hk2 h5
    cases h7:aQ l[k] x with
    | false=>rfl
    | true=>rw [f7 _ _ _ h6 h7] at hlt;cases hlt
   have e:k=(i+j) / 2:=by omega
   subst e;exact hlt
 obtain ⟨t,e,j,rfl,hj⟩:=hloop
 refine ⟨j,hj,?_⟩
 rw [kv e]
 rcases Nat.lt_or_ge j l.length with hjl | hjl
 ·rw [det (by omega:(j:Int)<(l.length:Int)),gY,ei hjl,d7,gY];dsimp only;rw [ij,d7,List.getElem?_eq_getElem hjl];rfl
 rw [dy (by omega:¬ (j:Int)<(l.length:Int)),kV]
 simp only [d7,kV]
 rw [List.getElem?_eq_none hjl];rfl
theorem jm {x z:Za} {l:List Za}:z∈ez aQ x l↔z=x∨z∈l:=by rw [fX.mem_iff,List.mem_cons]
theorem lY {x:Za} {l:List Za}:(ez aQ x l).length=l.length+1:=by rw [fX.length_eq,List.length_cons]
theorem o3 {x:Za}:∀ {l:List Za},(∀ y∈l,dI y x≠0)→l.Pairwise (fun a b=>aQ a b=true)→(ez aQ x l).Pairwise (fun a b=>aQ a b=true)
 | [],_,_=>by simp [ez]
 | y::l,hx,h=>by
  obtain ⟨h1,h2⟩:=List.pairwise_cons.1 h
  unfold ez
  cases hy:aQ y x with
  | true =>
   simp only [dM]
   refine List.pairwise_cons.2 ⟨fun z hz=>?_,o3 (fun y hy=>hx y (by simp [hy])) h2⟩
   rcases jm.1 hz with rfl | hz
   ·exact hy
   ·exact h1 z hz
  | false =>
   simp only [eT]
   have hxy:aQ x y=true:=by
    have:=hx y (by simp)
    rw [Ne,dE] at this
    rw [iK] at hy;rw [dK];omega
   refine List.pairwise_cons.2 ⟨fun z hz=>?_,h⟩
   rcases List.mem_cons.1 hz with rfl | hz
   ·exact hxy
   exact f7 _ _ _ hxy (h1 z hz)
theorem nu {l:List Za} (h:l.length≤1000):aI l=some l:=by
 unfold aI
 rw [oa (by simp;omega) (by simp;omega)];rfl
theorem qb {l:List Za} {x:Za} {j:Nat} (h:j≤l.length) (hl:l.length≤200):au l (j:Int) [x]=some (l.take j++[x]++l.drop j):=by
 unfold au
 dsimp only
 rw [if_pos ⟨by omega,by simpa using h,hl⟩];simp
theorem pick_of {l:List Za} {x:Za} {j:Nat} (hj:Low l x j) (hs:l.Pairwise fun a b=>aQ a b=true) {y:Za} (hy:y∈l) (hk:dI y x=0):l[j]?=some y:=by
 obtain ⟨k,hkl,rfl⟩:=List.getElem_of_mem hy
 have hz:=(dE _ _).1 hk
 have h1:¬ k<j:=fun h=>by have:=hj.lo k _ (List.getElem?_eq_getElem hkl) h;rw [dK] at this;omega
 have h2:¬ j<k:=fun h=>by
  have h3:=List.pairwise_iff_getElem.1 hs j k (by omega) hkl h
  have h4:=hj.hi j _ (List.getElem?_eq_getElem (by omega)) (Nat.le_refl _)
  rw [dK] at h3;rw [iK] at h4;omega
 have:k=j:=by omega
 subst this;exact List.getElem?_eq_getElem hkl
theorem si {f:Zd} {x:Za} (hf:FileOk f) (hx:x∈f.Facts):bd f x=some (f,0):=by
 obtain ⟨j,hj,e⟩:=lm x hf.len hf.asc
 have hp:=pick_of hj hf.asc hx ((dE _ _).2 ⟨rfl,rfl⟩)
 obtain ⟨hjl,hje⟩:=List.getElem?_eq_some_iff.1 hp
 unfold bd
 rw [f8,(kn f).2 hf,d7,show ((0:Int) != 0)=false from rfl,eT,lX,hf.val x hx,d7,Bool.not_true,eT,kv e,hp]
 have h0:(dI x x == 0)=true:=by rw [(dE _ _).2 ⟨rfl,rfl⟩];rfl
 simp only [h0,gY,ei hjl,d7,hje]
 have h1:Za.eqb x x=true:=Za.eqb_iff.2 rfl
 rw [h1]
 simp only [Bool.not_true,Bool.and_false,Bool.false_and,eT,nu (show f.Facts.length≤1000 by have:=hf.len;omega),d7]
theorem iM {f:Zd} {x:Za} (hf:FileOk f) (hv:du x=true) (hl:f.Facts.length<200) (hx:∀ y∈f.Facts,dI y x≠0):bd f x=some (⟨f.Source,f.Code,f.Units,ez aQ x f.Facts⟩,0):=by
 obtain ⟨j,hj,e⟩:=lm x hf.len hf.asc
 have hn:(match f.Facts[j]? with | some y=>dI y x == 0 | none=>false)=false:=by
  split
  ·rename_i y hy;have:=hx y (List.mem_of_getElem? hy);simpa using this
  rfl
 unfold bd
 rw [f8,(kn f).2 hf,d7,show ((0:Int) != 0)=false from rfl,eT,lX,hv,d7,Bool.not_true,eT,kv e,hn]
 simp only [kV,d7,Bool.false_and,eT,Bool.not_false,Bool.true_and]
 rw [dy (by omega:¬ (200:Int)≤(f.Facts.length:Int)),eT,nu (by omega),d7,dM,qb hj.le (by omega),o2 hj]
 rfl
theorem ko {f:Zd} {x:Za} (hf:FileOk f) (hv:du x=true) (hl:f.Facts.length<200) (hx:∀ y∈f.Facts,dI y x≠0):FileOk ⟨f.Source,f.Code,f.Units,ez aQ x f.Facts⟩ :=
 ⟨hf.head,by dsimp only;rw [lY];omega,fun z hz=>by rcases jm.1 hz with rfl | hz;exact hv;exact hf.val z hz,o3 hx hf.asc⟩
def lZ (l:List Za) (x:Za):List Za:=cond (decide (x∈l)) l (ez aQ x l)
theorem sj {l:List Za} {x z:Za}:z∈lZ l x↔z=x∨z∈l:=by
 unfold lZ
 cases h:decide (x∈l) with
 | true =>
  have h:=of_decide_eq_true h
  simp only [dM];exact ⟨.inr,fun h'=>h'.elim (fun e=>e ▸ h) id⟩
 | false=>simp only [eT];exact jm
theorem sk {l:List Za} {x:Za}:(lZ l x).length≤l.length+1:=by
 unfold lZ
 cases decide (x∈l)
 ·simp only [eT,lY];exact Nat.le_refl _
 simp only [dM];omega
theorem qc {f:Zd} {x:Za} (hf:FileOk f) (hv:du x=true) (hl:f.Facts.length<200) (hx:∀ y∈f.Facts,dI y x=0→y=x):bd f x=some (⟨f.Source,f.Code,f.Units,lZ f.Facts x⟩,0)∧FileOk ⟨f.Source,f.Code,f.Units,lZ f.Facts x⟩:=by
 unfold lZ
 cases h:decide (x∈f.Facts) with
 | true=>exact ⟨si hf (of_decide_eq_true h),hf⟩
 | false =>
  have h:=of_decide_eq_false h
  have hn:∀ y∈f.Facts,dI y x≠0:=fun y hy e=>h (hx y hy e ▸ hy)
  exact ⟨iM hf hv hl hn,ko hf hv hl hn⟩
structure Agr (L:List Za):Prop where
 len:L.length≤100
 val:∀ x∈L,du x=true
 key:∀ x∈L,∀ y∈L,dI x y=0→x=y
def o4 (L:List Za):List Za:=L.foldl lZ []
def iW:ByteArray:=⟨#[49,48,48,48,48,48,48,48]⟩
theorem head1 {u:Int} (h1:1≤u) (h2:u≤1000):iV 7 iW u=true:=by
 unfold iV
 rw [dy (by omega:¬ u<1),dy (by omega:¬ (1000000000:Int)<u)]
 rfl
theorem file_eq {L:List Za} {u:Int} (hL:Agr L) (h1:1≤u) (h2:u≤1000):ed u L=some (⟨7,iW,u,o4 L⟩,true)∧FileOk ⟨7,iW,u,o4 L⟩∧(o4 L).length≤L.length∧∀ z,z∈o4 L↔z∈L:=by
 have h0:FileOk ⟨7,iW,u,[]⟩:=⟨head1 h1 h2,by simp,(fun x hx=>nomatch hx),List.Pairwise.nil⟩
 have hlen:=hL.len
 unfold ed fk
 rw [show (⟨#[49,48,48,48,48,48,48,48]⟩:ByteArray)=iW from rfl,oZ,head1 h1 h2]
 simp only [d7,Bool.not_true,eT]
 have key:=pX (β:=Zd×Bool) (l:=L) (by omega) (body:=fun (v4,v5,v6,v7,v8,l9)=>cond ((decide (v5<(L.length:Int)))&&(v4 == 0)) (Option.bind (idx L v5) (fun m18=>Option.bind (bd (⟨v6,v7,v8,l9⟩:Zd) m18) (fun x19=>some (.inl (x19.2,(IntKind.i64.wrap (v5+1)),x19.1.Source,x19.1.Code,x19.1.Units,x19.1.Facts))))) (some (.inr (v4,v6,v7,v8,l9))))
  (k:=fun (v10,v11,v12,v13,l14)=>some ((⟨v11,v12,v13,l14⟩:Zd),(v10 == 0))) (fun i (a:List Za)=>((0:Int),i,(7:Int),iW,u,a)) lZ (fun a=>((0:Int),(7:Int),iW,u,a)) (fun k a=>FileOk ⟨7,iW,u,a⟩∧a.length≤k∧(∀ z,z∈a↔z∈L.take k)) [] ⟨h0,by simp,fun z=>by simp⟩ (fun k hk a ⟨p1,p2,p3⟩=>by
   have hx:L[k]∈L:=List.getElem_mem hk
   obtain ⟨e1,e2⟩:=qc (x:=L[k]) p1 (hL.val _ hx) (by dsimp only;omega) (fun y hy=>hL.key y (List.mem_of_mem_take ((p3 y).1 hy)) _ hx)
   dsimp only at e1 e2 ⊢
   rw [dlt hk,show (((0:Int) == 0)=true) from rfl,Bool.and_self,dM,ei hk,d7,e1,d7,oN hk (by omega)]
   refine ⟨rfl,e2,by have:=sk (l:=a) (x:=L[k]);omega,fun z=>?_⟩
   rw [sj,p3,List.take_add_one,List.getElem?_eq_getElem hk,List.mem_append,Option.toList_some,List.mem_singleton]
   exact or_comm) (fun a _=>by dsimp only;rw [dnlt];rfl)
 obtain ⟨e,p1,p2,p3⟩:=key
 refine ⟨e,p1,p2,fun z=>?_⟩
 have:=p3 z
 rw [List.take_length] at this
 exact this
theorem fp {X S T:Type} (f:S→X→S):∀ (xs:List X) (s:S),eO (T:=T) (fun s x=>some (.inl (f s x))) s xs=some (.inl (xs.foldl f s))
 | [],_=>rfl
 | x::xs,s=>by rw [eO];exact fp f xs (f s x)
theorem nv {T:Type}:∀ (xs l:List Za),(l.length+xs.length)≤100000→eO (T:=T) (fun l3 x8=>Option.bind (app 64 l3 [x8]) (fun l13=>some (.inl l13))) l xs=some (.inl (l++xs))
 | [],l,_=>by rw [eO,List.append_nil]
 | x::xs,l,h=>by
  simp only [List.length_cons] at h
  rw [eO,oa (by simp;omega) (by simp;omega),d7]
  dsimp only
  rw [nv xs (l++[x]) (by simp;omega)];simp
theorem sm:∀ {l:List Za},l.Pairwise (fun a b=>aQ a b=true)→dif l=true
 | [],_=>rfl
 | x::l,h=>by
  obtain ⟨h1,h2⟩:=List.pairwise_cons.1 h
  rw [dif,Bool.and_eq_true,List.all_eq_true]
  refine ⟨fun y hy=>?_,sm h2⟩
  have:=h1 y hy
  rw [dK] at this
  rw [Bool.or_eq_true,gj,gj];omega
theorem qd {l:List Za} (h:l.Pairwise (fun a b=>aQ a b=true)) (hl:l.length≤1000):aS l=some (bK bC l):=by
 unfold aS bm aK av
 rw [nv (T:=Empty) l [] (by simp;omega)]
 simp only [d7,List.nil_append,sm h,dM]
theorem iN {l:List Za} (k d:Int) (hl:l.length≤1000):bM l k d=some (gF l k d):=by
 unfold bM
 rw [show iJ l=true from Nat.ble_eq_true_of_le (by omega)];rfl
theorem qe {l:List Za} (hl:l.length≤1000):aD l=some l:=by
 unfold aD
 rw [show iJ l=true from Nat.ble_eq_true_of_le (by omega)];rfl
def iX (day:Int):Int:=match bi day 36 with | some r=>cond (r.2 != 0) 36524 r.1 | none=>0
theorem last_eq {day:Int} (h0:0≤day) (h1:day≤36524):(∃ r,bi day 36=some r∧iX day=cond (r.2 != 0) 36524 r.1)∧30≤iX day:=by
 obtain ⟨_,_,n,m,d,_,hd⟩:=of_Y h0 h1
 have e:=add_eq h0 h1 hd
 have g:=addS_ge (n:=n) hd.m11 hd.d0
 have e2:iX day=cond ((na n m d).2 != 0) 36524 (na n m d).1:=by unfold iX;rw [e]
 refine ⟨⟨_,e,e2⟩,?_⟩
 rw [e2]
 cases hc:((na n m d).2 != 0) with
 | true=>simp
 | false=>simp only [eT];exact g (by simpa using hc)
def zItem:Ze:=⟨ByteArray.empty,ByteArray.empty,false,0,0,0,0,0⟩
def jn (f:Zd) (S:List Za) (d:Za):Ze :=
 ⟨f.Code,(gF S 4 (iX d.Day)).foldl (fun _ x=>x.Country) d.Country,(gF S 2 (iX d.Day)).foldl (fun _ _=>true) false,d.Company,d.Day,f.Units,(gF S 3 (iX d.Day)).foldl (fun _ x=>x.Amount) d.Amount,(gF f.Facts 5 36524).foldl (fun _ x=>de f.Units x.Amount) 0⟩
theorem qf {f:Zd} {S:List Za} {d:Za} (h0:0≤d.Day) (h1:d.Day≤36524) (hS:S.length≤1000) (hF:f.Facts.length≤1000):dZ f S d=some (jn f S d):=by
 obtain ⟨⟨r,e,e2⟩,_⟩:=last_eq h0 h1
 unfold dZ jn
 have e3:(cond (r.2 != 0) (some 36524) (some r.1):Option Int)=some (iX d.Day):=by rw [e2];cases (r.2 != 0) <;> rfl
 rw [kv e]
 simp only [e3,d7,iN _ _ hS,iN _ _ hF]
 rw [fp (fun _ _=>true)]
 simp only [d7]
 rw [fp (fun (_:Int) (x:Za)=>x.Amount)]
 simp only [d7]
 rw [fp (fun (_:ByteArray) (x:Za)=>x.Country)]
 simp only [d7]
 rw [fp (fun (_:Int) (x:Za)=>de f.Units x.Amount)]
 rfl
def di (f:Zd):Ze×Bool:=match gF (bK bC f.Facts) 1 36524 with
 | []=>(zItem,false)
 | d::_=>(jn f (bK bC f.Facts) d,true)
theorem qg {l:List Za} {z:Za}:z∈bK bC l↔z∈l:=fC.mem_iff
theorem o5 {f:Zd} (hf:FileOk f):dD f=some (di f):=by
 have hl:f.Facts.length≤1000:=by have:=hf.len;omega
 have hS:(bK bC f.Facts).length≤1000:=by rw [kW];exact hl
 unfold dD di
 rw [f8,(kn f).2 hf,d7,show ((0:Int) != 0)=false from rfl,eT,qe hl,d7,qd hf.asc hl,d7,iN _ _ hS,d7]
 cases hk:gF (bK bC f.Facts) 1 36524 with
 | nil=>rfl
 | cons d l =>
  have hd:d∈f.Facts:=by
   have:d∈gF (bK bC f.Facts) 1 36524:=by rw [hk];simp
   exact qg.1 (List.mem_filter.1 this).1
  have hv:=qa (hf.val d hd)
  rw [eO,qf hv.1 hv.2 hS hl];rfl
theorem eQ {α:Type} {lt:α→α→Bool} {p:α→Bool} {x:α} (hx:p x=false):∀ l:List α,(ez lt x l).filter p=l.filter p
 | []=>by simp [ez,hx]
 | y::l=>by
  unfold ez
  cases lt y x
  ·simp only [eT];rw [List.filter_cons_of_neg (by simp [hx])]
  simp only [dM,List.filter_cons,eQ hx l]
theorem sn {α:Type} {lt:α→α→Bool} {x:α}:∀ {l:List α},(∀ y∈l,lt y x=false)→ez lt x l=x::l
 | [],_=>rfl
 | y::l,h=>by unfold ez;rw [h y (by simp)];rfl
theorem f9 {α:Type} {lt:α→α→Bool} {p:α→Bool} (hn:∀ x y z,lt x y=false→lt y z=false→lt x z=false) {x:α} (hx:p x=true):∀ {l:List α},l.Pairwise (fun a b=>lt b a=false)→(ez lt x l).filter p=ez lt x (l.filter p)
 | [],_=>by simp [ez,hx]
 | y::l,h=>by
  obtain ⟨h1,h2⟩:=List.pairwise_cons.1 h
  rw [ez]
  cases hy:lt y x with
  | true =>
   simp only [dM,List.filter_cons,f9 hn hx h2]
   cases hp:p y
   ·rfl
   ·simp only [if_true];rw [ez,hy];rfl
  | false =>
   simp only [eT]
   rw [List.filter_cons_of_pos hx,sn]
   intro z hz
   rcases List.mem_cons.1 (List.mem_filter.1 hz).1 with rfl | hz2
   ·exact hy
   exact hn z y x (h1 z hz2) hy
theorem fF {α:Type} {lt:α→α→Bool} {p:α→Bool} (htr:∀ x y z,lt x y=true→lt y z=true→lt x z=true) (hnt:∀ x y z,lt x y=false→lt y z=false→lt x z=false) (hir:∀ x,lt x x=false):∀ l:List α,(bK lt l).filter p=bK lt (l.filter p)
 | []=>rfl
 | x::l=>by
  rw [bK]
  cases hx:p x with
  | false=>rw [eQ hx,List.filter_cons_of_neg (by simp [hx]),fF htr hnt hir l]
  | true=>rw [f9 hnt hx (fD htr hnt hir l),List.filter_cons_of_pos hx,bK,fF htr hnt hir l]
theorem nw (l:List Za) (k d:Int):gF (bK bC l) k d=bK bC (gF l k d):=fF nj lf ld l
theorem ofK_ins {l:List Za} {x:Za} {k d:Int} (h:(x.Kind == k)=false):gF (ez aQ x l) k d=gF l k d:=eQ (by rw [h];rfl) l
theorem il {l:List Za} {x:Za} {k d:Int} (h:(x.Kind == k)=false):gF (bK bC (ez aQ x l)) k d=gF (bK bC l) k d:=by rw [nw,nw,ofK_ins h]
theorem l5 {x:Za}:∀ {l m:List Za},(∀ z∈l,aQ z x=true)→ez aQ x (l++m)=l++ez aQ x m
 | [],_,_=>rfl
 | y::l,m,h=>by rw [List.cons_append,ez,h y (by simp),dM,l5 (fun z hz=>h z (by simp [hz]))];rfl
theorem small_Y {p:Zc} (hp:SOK p) (few n:Int) (h1:1≤few) (h2:few≤n) (h3:n≤4611686018427387904):Y (eK p few n) (fun r=>0≤r.1∧r.1<n∧SOK r.2):=by
 unfold eK
 refine (eb hp 5 (by omega) (by omega)).bind fun a ⟨_,_,k3⟩=>?_
 refine Y.cond (fun _=>?_) (fun _=>?_)
 ·exact (eb k3 n (by omega) h3).bind fun b ⟨j1,j2,j3⟩=>Y.ret ⟨j1,j2,j3⟩
 exact (eb k3 few h1 (by omega)).bind fun b ⟨j1,j2,j3⟩=>Y.ret ⟨j1,by dsimp only;omega,j3⟩
structure MF (i:Nat) (x:Za):Prop where
 val:du x=true
 frm:0≤x.From∧x.From≤200
 num:x.Number=((i:Int)*5+2) % 17+1
def cts:List ByteArray:=[⟨#[65,65]⟩,⟨#[66,66]⟩,⟨#[67,67]⟩,⟨#[68,68]⟩,⟨#[69,69]⟩,⟨#[70,70]⟩]
theorem so:∀ s∈cts,km s=true:=List.all_eq_true.1 (by kernel_rfl:cts.all km=true)
theorem fact_mk {F N D K A C:Int} {s:ByteArray} (h1:0≤F∧F≤200) (h2:1≤N∧N≤17) (h3:0≤D∧D≤36524) (hk:gz ⟨F,N,D,K,s,A,C⟩=true):du ⟨F,N,D,K,s,A,C⟩=true:=by
 unfold du
 dsimp only
 rw [dy (by omega:¬ F<0),dy (by omega:¬ (999:Int)<F),dy (by omega:¬ N<1),dy (by omega:¬ (1000000000:Int)<N),dy (by omega:¬ D<0),dy (by omega:¬ (36524:Int)<D)]
 exact hk
theorem gm:decide (ByteArray.empty=(⟨#[]⟩:ByteArray))=true:=by decide
theorem facts_Y (l:List Int):Y (cu l) (fun xs=>xs.length≤14∧∀ (i:Nat) (x:Za),xs[i]?=some x→MF i x):=by
 unfold cu
 refine (cut_Y l 80 (by omega) (by omega)).bind fun c hc=>?_
 refine Y.bind (P:=fun xs=>xs.length≤14∧∀ (i:Nat) (x:Za),xs[i]?=some x→MF i x) ?_ (fun xs h=>Y.ret h)
 refine Y.loop (fun s:(List Za)×(List Int)×Int=>SOK ⟨s.2.1,s.2.2⟩∧s.1.length≤14∧∀ (i:Nat) (x:Za),s.1[i]?=some x→MF i x) (fun s=>14 - s.1.length) ⟨hc,by simp,fun i x h=>by simp at h⟩ (by dsimp only;omega) ?_
 rintro ⟨a,b,c⟩ ⟨h1,h2,h3⟩
 dsimp only at h1 h2 h3 ⊢
 unfold dg
 simp only [d7]
 refine Y.cond (fun hcond=>?_) (fun _=>Y.ret ⟨h2,h3⟩)
 have hlt:a.length<14:=by simp only [Bool.and_eq_true,decide_eq_true_eq] at hcond;omega
 refine (eb h1 3 (by omega) (by omega)).bind fun x18 ⟨p1,p2,p3⟩=>?_
 refine (eb p3 30 (by omega) (by omega)).bind fun x19 ⟨q1,q2,q3⟩=>?_
 refine (eb q3 5 (by omega) (by omega)).bind fun x20 ⟨r1,r2,r3⟩=>?_
 refine (eb r3 8 (by omega) (by omega)).bind fun x22 ⟨s1,s2,s3⟩=>?_
 refine Y.bind (P:=fun r:List Int×Int×Int=>SOK ⟨r.1,r.2.1⟩∧0≤r.2.2∧r.2.2≤36524) ?_ ?_
 ·refine Y.cond (fun _=>?_) (fun _=>Y.ret ⟨s3,q1,by dsimp only;omega⟩)
  exact (eb s3 2500 (by omega) (by omega)).bind fun x29 ⟨t1,t2,t3⟩=>Y.ret ⟨t3,t1,by dsimp only;omega⟩
 rintro ⟨l24,v25,v26⟩ ⟨t1,t2,t3⟩
 dsimp only at t1 t2 t3 ⊢
 rw [co (r:=1+x20.1) (by omega) (by omega)]
 refine Y.bind (P:=fun r:List Int×Int×ByteArray×Int×Int=>SOK ⟨r.1,r.2.1⟩∧∀ F N D,gz ⟨F,N,D,1+x20.1,r.2.2.1,r.2.2.2.1,r.2.2.2.2⟩=true) ?_ ?_
 ·refine Y.cond (fun hk=>?_) (fun hk=>?_)
  ·unfold cr
   refine Y.eq rfl ?_
   refine (eb t1 3 (by omega) (by omega)).bind fun x39 ⟨u1,u2,u3⟩=>?_
   refine Y.idx (xs:=cts) (n:=x39.1.toNat) (by omega) (by show x39.1.toNat<6;omega) ?_
   refine (small_Y u3 5000 1000000000001 (by omega) (by omega) (by omega)).bind fun x41 ⟨w1,w2,w3⟩=>?_
   refine (eb w3 3 (by omega) (by omega)).bind fun x42 ⟨z1,z2,z3⟩=>Y.ret ⟨z3,fun F N D=>?_⟩
   have hs:km (cts[x39.1.toNat]'(by show x39.1.toNat<6;omega))=true:=so _ (List.getElem_mem _)
   unfold gz fm
   dsimp only
   rw [hk,dM,hs,det (by omega:0≤x41.1),det (by omega:x41.1≤1000000000000),det z1,det (by omega:x42.1≤999)];rfl
  refine Y.cond (fun hk3=>?_) (fun hk3=>?_)
  ·refine (eb t1 6000 (by omega) (by omega)).bind fun x44 ⟨u1,u2,u3⟩=>Y.ret ⟨u3,fun F N D=>?_⟩
   have e:1+x20.1=3:=eq_of_beq hk3
   unfold gz fm
   dsimp only
   rw [e,gm,det u1,det (by omega:x44.1≤1000000000000)];rfl
  refine Y.cond (fun hk4=>?_) (fun hk4=>?_)
  ·unfold cr
   refine Y.eq rfl ?_
   refine (eb t1 3 (by omega) (by omega)).bind fun x47 ⟨u1,u2,u3⟩=>?_
   refine Y.idx (xs:=cts) (n:=x47.1.toNat) (by omega) (by show x47.1.toNat<6;omega) (Y.ret ⟨u3,fun F N D=>?_⟩)
   have e:1+x20.1=4:=eq_of_beq hk4
   have hs:km (cts[x47.1.toNat]'(by show x47.1.toNat<6;omega))=true:=so _ (List.getElem_mem _)
   unfold gz fm
   dsimp only
   rw [e,hs];rfl
  refine Y.cond (fun hk5=>?_) (fun hk5=>?_)
  ·refine (eb t1 40 (by omega) (by omega)).bind fun x50 ⟨u1,u2,u3⟩=>Y.ret ⟨u3,fun F N D=>?_⟩
   have e:1+x20.1=5:=eq_of_beq hk5
   unfold gz fm
   dsimp only
   rw [e,gm,det u1,det (by omega:x50.1≤1000000000)];rfl
  refine Y.ret ⟨t1,fun F N D=>?_⟩
  have e:1+x20.1=2:=by
   have k1:¬ 1+x20.1=1:=by simpa using hk
   have k3:¬ 1+x20.1=3:=by simpa using hk3
   have k4:¬ 1+x20.1=4:=by simpa using hk4
   have k5:¬ 1+x20.1=5:=by simpa using hk5
   omega
  unfold gz fm
  dsimp only
  rw [e,gm];rfl
 rintro ⟨l31,v32,v33,v34,v35⟩ ⟨u1,u2⟩
 dsimp only at u1 u2 ⊢
 rw [oa (by simp;omega) (by simp;omega),d7]
 refine Y.ret ⟨⟨u1,by simp;omega,fun i x hx=>?_⟩,by simp;omega⟩
 rcases Nat.lt_or_ge i a.length with hi | hi
 ·rw [List.getElem?_append_left hi] at hx;exact h3 i x hx
 rw [List.getElem?_append_right hi] at hx
 have hi2:i=a.length:=by
  have:=(List.getElem?_eq_some_iff.1 hx).1;simp at this;omega
 subst hi2
 rw [Nat.sub_self,List.getElem?_cons_zero] at hx
 obtain rfl:=Option.some.inj hx
 have e1:IntKind.i64.wrap (x18.1*100)=x18.1*100:=co (by omega) (by omega)
 have e2:IntKind.i64.wrap (Int.tmod (IntKind.i64.wrap (IntKind.i64.wrap ((a.length:Int)*5)+2)) 17+1)=((a.length:Int)*5+2) % 17+1:=by
  rw [co (r:=(a.length:Int)*5) (by omega) (by omega),co (r:=(a.length:Int)*5+2) (by omega) (by omega),Int.tmod_eq_emod_of_nonneg (by omega),co (by omega) (by omega)]
 rw [e1,e2]
 exact ⟨fact_mk (by omega) (by omega) ⟨t2,t3⟩ (u2 _ _ _),by dsimp only;omega,rfl⟩
theorem qh {xs:List Za} (h1:xs.length≤14) (h2:∀ (i:Nat) (x:Za),xs[i]?=some x→MF i x):Agr xs:=by
 refine ⟨by omega,fun x hx=>?_,fun x hx y hy he=>?_⟩
 ·obtain ⟨i,hi,rfl⟩:=List.getElem_of_mem hx
  exact (h2 i _ (List.getElem?_eq_getElem hi)).val
 obtain ⟨i,hi,rfl⟩:=List.getElem_of_mem hx
 obtain ⟨j,hj,rfl⟩:=List.getElem_of_mem hy
 have e:=((dE _ _).1 he).2
 rw [(h2 i _ (List.getElem?_eq_getElem hi)).num,(h2 j _ (List.getElem?_eq_getElem hj)).num] at e
 have:i=j:=by omega
 subst this;rfl
theorem oh {xs:List Za} (h2:∀ (i:Nat) (x:Za),xs[i]?=some x→MF i x):∀ x∈xs,x.From≤200:=fun x hx=>by
 obtain ⟨i,hi,rfl⟩:=List.getElem_of_mem hx
 exact (h2 i _ (List.getElem?_eq_getElem hi)).frm.2
theorem awake31:eZ=some true:=by kernel_rfl
theorem units_Y (u:Int):Y (cd u 50) (fun r=>∃ n:Int,IntKind.i64.wrap (1+r)=n∧1≤n∧n≤1000):=by
 obtain ⟨r,e,h1,h2⟩:=gg u 50 (by omega) (by omega)
 exact ⟨r,e,1+r,co (by omega) (by omega),by omega,by omega⟩
structure Fil (f:Zd) (u:Int):Prop where
 ok:FileOk f
 units:f.Units=u
 len:f.Facts.length≤14
 frm:∀ x∈f.Facts,x.From≤200
theorem file_Y (l:List Int) {u:Int} (h1:1≤u) (h2:u≤1000):Y (cu l) (fun fs=>Y (ed u fs) (fun r=>r.2=true∧Fil r.1 u)):=by
 obtain ⟨fs,e3,hf1,hf2⟩:=facts_Y l
 obtain ⟨f1,f2,f3,f4⟩:=file_eq (qh hf1 hf2) h1 h2
 exact ⟨fs,e3,_,f1,rfl,f2,rfl,by dsimp only;omega,fun x hx=>oh hf2 x ((f4 x).1 hx)⟩
theorem far_ne {f:Zd} {u:Int} (h:Fil f u) {x:Za} (hx:x.From=900):∀ y∈f.Facts,dI y x≠0:=fun y hy e=>by
 have:=((dE _ _).1 e).1;have:=h.frm y hy;omega
theorem sq {n d a:Int} (hn:n=1∨n=2) (hd:0≤d∧d≤9) (h:0≤a∧a<60):du ⟨900,n,d,5,ByteArray.empty,a,0⟩=true:=by
 unfold du gz fm
 dsimp only
 rw [dy (by omega:¬ n<1),dy (by omega:¬ (1000000000:Int)<n),dy (by omega:¬ d<0),dy (by omega:¬ (36524:Int)<d),gm,det h.1,det (by omega:a≤1000000000)];rfl
theorem kp (m0:List Int) (m1 m2 m3:Int) {κ:Kr} {v0 v1 v2 v3:List Value} (_:Rps κ (eL eI m0) v0) (_:Rps κ (eI m1) v1) (_:Rps κ (eI m2) v2) (_:Rps κ (eI m3) v3):dh m0 m1 m2 m3=some true:=by
 obtain ⟨r,e1,u,e2,hu1,hu2⟩:=units_Y m1
 obtain ⟨n,e3,hn1,hn2⟩:=gg m2 60 (by omega) (by omega)
 obtain ⟨m,e3',hm1,hm2⟩:=gg m3 60 (by omega) (by omega)
 obtain ⟨fs,e4,⟨⟨f,b⟩,e5,hb,hF⟩⟩:=file_Y m0 hu1 hu2
 dsimp only at hb hF
 subst hb
 have hun:=hF.units
 generalize hx:(⟨900,2,0,5,ByteArray.empty,n,0⟩:Za)=x
 generalize hy:(⟨900,1,9,5,ByteArray.empty,m,0⟩:Za)=y
 have xk:x.Kind=5∧x.From=900∧x.Number=2∧x.Amount=n∧x.Day=0:=by subst hx;exact ⟨rfl,rfl,rfl,rfl,rfl⟩
 have yk:y.Kind=5∧y.From=900∧y.Number=1∧y.Day=9:=by subst hy;exact ⟨rfl,rfl,rfl,rfl⟩
 have hvx:du x=true:=by subst hx;exact sq (.inr rfl) (by omega) ⟨hn1,hn2⟩
 have hvy:du y=true:=by subst hy;exact sq (.inl rfl) (by omega) ⟨hm1,hm2⟩
 have hnx:=far_ne hF (x:=x) xk.2.1
 have hl:f.Facts.length<200:=by have:=hF.len;omega
 have e6:=iM hF.ok hvx hl hnx
 have hG:=ko hF.ok hvx hl hnx
 have hny:∀ z∈ez aQ x f.Facts,dI z y≠0:=fun z hz e=>by
  have e:=(dE _ _).1 e
  rcases jm.1 hz with rfl | hz
  ·omega
  have:=hF.frm z hz;omega
 have hl2:(ez aQ x f.Facts).length<200:=by rw [lY];have:=hF.len;omega
 have e7:=iM hG hvy hl2 hny
 have hH:=ko hG hvy hl2 hny
 dsimp only at e7 hH
 have lx:∀ z∈f.Facts,aQ z x=true:=fun z hz=>by rw [dK];have:=hF.frm z hz;omega
 have ly:∀ z∈f.Facts,aQ z y=true:=fun z hz=>by rw [dK];have:=hF.frm z hz;omega
 have hyx:aQ x y=false:=by rw [iK];omega
 have hlist:ez aQ y (ez aQ x f.Facts)=f.Facts++[y,x]:=by
  have h1:ez aQ x f.Facts=f.Facts++[x]:=by have:=l5 (x:=x) (m:=[]) lx;rwa [List.append_nil] at this
  rw [h1,l5 ly]
  congr 1
  rw [ez,hyx];rfl
 unfold dh
 rw [kv e1,kv e3,kv e3',kv e4,e2,kv e5]
 dsimp only
 rw [hx,hy,kv e6]
 dsimp only
 rw [kv e7]
 dsimp only
 rw [o5 hF.ok,d7,o5 hH,d7]
 have nk:∀ k:Int,k≠5→(x.Kind == k)=false∧(y.Kind == k)=false:=fun k hk=>by rw [xk.1,yk.1];simp;omega
 have k1:∀ k:Int,k≠5→∀ D,gF (bK bC (ez aQ y (ez aQ x f.Facts))) k D=gF (bK bC f.Facts) k D:=fun k hk D=>by rw [il (nk k hk).2,il (nk k hk).1]
 have key:(di f).2=(di ⟨f.Source,f.Code,f.Units,ez aQ y (ez aQ x f.Facts)⟩).2∧(di ⟨f.Source,f.Code,f.Units,ez aQ y (ez aQ x f.Facts)⟩).1=⟨(di f).1.Code,(di f).1.Origin,(di f).1.Proof,(di f).1.Company,(di f).1.Day,(di f).1.Quantity,(di f).1.Value,cond (di f).2 (de u n) (di f).1.Granted⟩:=by
  unfold di
  dsimp only
  rw [k1 1 (by omega)]
  cases hk:gF (bK bC f.Facts) 1 36524 with
  | nil=>exact ⟨rfl,rfl⟩
  | cons z l =>
   refine ⟨rfl,?_⟩
   unfold jn
   dsimp only
   rw [k1 2 (by omega),k1 3 (by omega),k1 4 (by omega),hlist]
   have e8:gF (f.Facts++[y,x]) 5 36524=gF f.Facts 5 36524++[y,x]:=by
    unfold gF
    rw [List.filter_append]
    congr 1
    rw [List.filter_cons_of_pos (by rw [yk.1,yk.2.2.2];rfl),List.filter_cons_of_pos (by rw [xk.1,xk.2.2.2.2];rfl)];rfl
   rw [e8,List.foldl_append,List.foldl_cons,List.foldl_cons,List.foldl_nil,xk.2.2.2.1,hun]
   rfl
 rw [key.2,← key.1]
 have h0:((!true)||((0:Int) != 0)||((0:Int) != 0)||(di f).2 != (di f).2)=false:=by simp
 rw [h0,eT]
 have h1:(cond (di f).2 (some (de u n)) (some (di f).1.Granted):Option Int)=some (cond (di f).2 (de u n) (di f).1.Granted):=by cases (di f).2 <;> rfl
 rw [kv h1,Ze.eqb_iff.2 rfl,gY,awake31];rfl
def k0 (W:World):Kr:=⟨W,fun b=>b<W.heap.size⟩
theorem gG {t:Nat} {z:Value} {s b:Nat} (h:dj t=some (z,s,b)):Tryd.prog.cellsOf t=s∧Tryd.prog.bytesOf t=b:=by
 obtain ⟨i,h1,h2,h3,h4⟩:=gM h
 constructor
 ·simp [Program.cellsOf,h1,h3]
 simp [Program.bytesOf,h1,h4]
def Light {H:Type} (t:Nat) (d:DataW H):Prop:=∀ n∈d.weights Tryd.prog t,n≤reachBytes
theorem sr {H:Type} (d:DataW H):1≤Rows.uptoBulk d:=by
 cases d with
 | lit l=>cases l <;> simp [Rows.uptoBulk]
 | nil=>simp [Rows.uptoBulk]
 | ptr d=>simp [Rows.uptoBulk]
 | slice elems spare=>simp [Rows.uptoBulk]
 | agg parts=>simp [Rows.uptoBulk]
 | iface t d=>simp [Rows.uptoBulk]
 | map entries=>simp [Rows.uptoBulk]
 | held h=>simp [Rows.uptoBulk]
theorem qi {H:Type} {d:DataW H} {l:List (DataW H)} (h:d∈l):Rows.uptoBulk d≤Rows.uptoBulkAll l:=by
 induction l with
 | nil=>cases h
 | cons x r ih =>
  simp only [Rows.uptoBulkAll]
  cases List.mem_cons.1 h with
  | inl e=>subst e;omega
  | inr e=>have:=ih e;omega
theorem su {H:Type} (l:List (DataW H)):l.length≤Rows.uptoBulkAll l:=by
 induction l with
 | nil=>simp [Rows.uptoBulkAll]
 | cons x r ih=>have:=sr x;simp only [Rows.uptoBulkAll,List.length_cons];omega
def Opens {H:Type} (eh:TypeId×Value→H) {α:Type} (n:Nat) (t:Nat) (e:α→List PV) (B:α→Prop):Prop :=
 ∀ (W:World) (fuel:Nat) (cs:List Value) (x:DataW H×List MemPlace),DataW.trod eh Tryd.prog W 0 (fun _=>true) true fuel t cs=some x→Light t x.1→Rows.uptoBulk x.1≤n→∃ m,Rps (k0 W) (e m) cs∧One cs∧B m
section
variable {H:Type} {eh:TypeId×Value→H} {nb:Nat}
theorem one1 {v:Value} (h:v.oneCell'=true):One [v]:=fun u hu=>by rw [List.mem_singleton.1 hu];exact h
theorem qj {t:Nat} {k:IntKind} (h:cL t=some (.int k)):Opens eh nb t (fun x:Int=>[.v (.int k x)]) (fun _=>True):=fun W fuel cs x hx _ _=>by
 obtain ⟨n,rfl,_,_⟩:=DataW.trod_int (aO h) hx
 exact ⟨n,.cons (.v rfl) .nil,one1 rfl,trivial⟩
theorem ga {e:Nat}:∀ {l:List (DataW H)} {d:DataW H} {n:Nat},d∈l→n∈d.weights Tryd.prog e→n∈DataW.weightsAll Tryd.prog e l
 | d'::l,d,n,hd,hn=>by
  simp only [DataW.weightsAll,List.mem_append]
  rcases List.mem_cons.1 hd with rfl | hd
  ·exact .inl hn
  exact .inr (ga hd hn)
theorem o6 {α β:Type} {R:α→β→Prop}:∀ (l:List β),(∀ b∈l,∃ a,R a b)→∃ la:List α,la.length=l.length∧∀ (i:Nat) (b:β),l[i]?=some b→∃ a,la[i]?=some a∧R a b
 | [],_=>⟨[],rfl,fun i b h=>by simp at h⟩
 | b::l,h=>by
  obtain ⟨a,ha⟩:=h b (by simp)
  obtain ⟨la,h1,h2⟩:=o6 l fun b hb=>h b (by simp [hb])
  refine ⟨a::la,by simp [h1],fun i b' hb=>?_⟩
  cases i with
  | zero=>simp only [List.getElem?_cons_zero,bI] at hb;subst hb;exact ⟨a,rfl,ha⟩
  | succ i=>simp only [List.getElem?_cons_succ] at hb ⊢;exact h2 i b' hb
def OpensN {H:Type} (eh:TypeId×Value→H) {α:Type} (N n:Nat) (t:Nat) (e:α→List PV) (B:α→Prop):Prop :=
 ∀ (W:World) (fuel:Nat) (cs:List Value) (x:DataW H×List MemPlace),fuel<N→DataW.trod eh Tryd.prog W 0 (fun _=>true) true fuel t cs=some x→Light t x.1→Rows.uptoBulk x.1≤n→∃ m,Rps (k0 W) (e m) cs∧One cs∧B m
theorem l6 {α:Type} {N t E sz by':Nat} {z:Value} {e:α→List PV} {B:α→Prop} (hu:cL t=some (.slice E)) (hi:dj E=some (z,sz,by')) (h0:Nat.blt 0 sz=true) (hb0:Nat.blt 0 by'=true) (hE:OpensN eh N nb E e B):OpensN eh (N+1) nb t (eL e) (fun l=>l.length*by'≤140737488355328∧l.length≤nb∧∀ x∈l,B x):=fun W fuel cs x hfu hx hw hbk=>by
 obtain ⟨hcz,hby⟩:=gG hi
 have hsz:0<sz:=by have:=h0;simp [Nat.blt] at this;omega
 have hbp:0<by':=by have:=hb0;simp [Nat.blt] at this;omega
 rcases DataW.trod_slice (aO hu) hx with ⟨rfl,_⟩ | ⟨a,len,cap,elems,rest,n,rfl,rfl,rfl,_,hl,hm,hlen,hel,_,_⟩
 ·exact ⟨[],.cons (.slc (sz:=sz) (css:=[]) Sl.nil (Nat.zero_le _) (fun _ h=>by cases h) .nil) .nil,one1 rfl,by simp,Nat.zero_le _,fun _ h=>by cases h⟩
 rw [hcz] at hel
 have hwl:(elems.length+rest.length)*by'≤reachBytes:=by
  have:=hw ((elems.length+rest.length)*by') (by simp only [DataW.weights,aO hu,hby,List.length_map];exact List.mem_cons_self)
  exact this
 have hn:len≤140737488355328:=by
  unfold reachBytes at hwl
  have:elems.length*1≤(elems.length+rest.length)*by':=Nat.mul_le_mul (by omega) (by omega)
  omega
 have hcells:∀ i∈List.range len,∃ p:α×List Value,W.cells? 0 (a.add (i*sz)) sz=some p.2∧Rps (k0 W) (e p.1) p.2∧One p.2∧B p.1:=fun i hi'=>by
  have hi':i<len:=List.mem_range.1 hi'
  have h1:=hel i hi'
  have hlt:i<elems.length:=by omega
  rw [List.getElem?_eq_getElem hlt] at h1
  obtain ⟨cs,h2,h3⟩:=Option.bind_eq_some_iff.1 h1
  obtain ⟨m,k1,k2,k3⟩:=hE W n cs _ (by omega) h3 (fun q hq=>hw q (by
   simp only [DataW.weights,aO hu]
   exact List.mem_cons_of_mem _ (List.mem_append.2 (.inl (ga (List.mem_map.2 ⟨_,List.getElem_mem hlt,rfl⟩) hq))))) (by
   have h9:=qi (l:=elems.map (·.1)) (List.mem_map.2 ⟨_,List.getElem_mem hlt,rfl⟩)
   simp only [Rows.uptoBulk] at hbk
   omega)
  exact ⟨(m,cs),h2,k1,k2,k3⟩
 obtain ⟨ps,g1,g2⟩:=o6 (R:=fun (p:α×List Value) i=>W.cells? 0 (a.add (i*sz)) sz=some p.2∧Rps (k0 W) (e p.1) p.2∧One p.2∧B p.1) (List.range len) hcells
 rw [List.length_range] at g1
 have g3:∀ (i:Nat) (p:α×List Value),ps[i]?=some p→W.cells? 0 (a.add (i*sz)) sz=some p.2∧Rps (k0 W) (e p.1) p.2∧One p.2∧B p.1:=fun i p hp=>by
  have hlt:=(List.getElem?_eq_some_iff.1 hp).1
  obtain ⟨p',h1,h2⟩:=g2 i i (by rw [List.getElem?_range (by omega)])
  rw [hp] at h1;injection h1 with h1;subst h1;exact h2
 have hps:(ps.map (·.1)).length=len:=by simp [g1]
 refine ⟨ps.map (·.1),?_,one1 rfl,?_,?_,?_⟩
 rotate_left
 ·rw [hps]
  have h9:len*by'≤(elems.length+rest.length)*by':=Nat.mul_le_mul_right _ (by omega)
  unfold reachBytes at hwl
  omega
 ·rw [hps]
  have h9:=su (elems.map (·.1))
  rw [List.length_map] at h9
  simp only [Rows.uptoBulk] at hbk
  omega
 ·intro x hx
  obtain ⟨p,hp,rfl⟩:=List.mem_map.1 hx
  obtain ⟨i,hi',rfl⟩:=List.getElem_of_mem hp
  exact (g3 i _ (List.getElem?_eq_getElem hi')).2.2.2
 unfold eL;rw [hps]
 refine .cons (.slc (sz:=sz) (css:=ps.map (·.2)) ⟨by simp [g1],hl,?_,?_⟩ hn ?_ ?_) .nil
 ·intro c hc
  obtain ⟨p,hp,rfl⟩:=List.mem_map.1 hc
  obtain ⟨i,hi',rfl⟩:=List.getElem_of_mem hp
  exact (World.cells?_some (g3 i _ (List.getElem?_eq_getElem hi')).1).2.1
 ·intro hpos
  have hp0:0<ps.length:=by omega
  have hc0:=(World.cells?_some (g3 0 _ (List.getElem?_eq_getElem hp0)).1)
  have hread:=hc0.2.2 0 hsz
  have hspot:a.spot=none:=by
   have hlt:0<(ps[0]).2.length:=by rw [hc0.2.1];exact hsz
   rw [List.getElem?_eq_getElem hlt] at hread
   unfold World.cell? at hread
   cases hs:a.spot with
   | none=>rfl
   | some q =>
    have hsp:((a.add (0*sz)).add 0).spot.isSome=true:=by simp [Addr.add,hs]
    split at hread
    ·rw [if_pos hsp] at hread;cases hread
    cases hread
  obtain ⟨ab,ao,asp⟩:=a
  simp only at hspot;subst hspot
  refine ⟨ab,ao,rfl,fun j c hj=>?_⟩
  rw [List.getElem?_map] at hj
  cases hpj:ps[j]? with
  | none=>rw [hpj] at hj;cases hj
  | some p =>
   rw [hpj] at hj;simp only [Option.map_some,bI] at hj;subst hj
   have hcj:=World.cells?_some (g3 j p hpj).1
   refine ⟨?_,fun i u hu'=>?_⟩
   ·have h1:=hcj.2.2 0 hsz
    have hlt:0<p.2.length:=by rw [hcj.2.1];exact hsz
    rw [List.getElem?_eq_getElem hlt,bX,bX] at h1
    unfold World.cell? at h1
    split at h1
    ·rename_i heq
     have:=fx heq
     exact this
    cases h1
   have hlt:i<sz:=by have:=(List.getElem?_eq_some_iff.1 hu').1;omega
   have h1:=hcj.2.2 i hlt
   rw [bX,bX] at h1
   rw [← hu'];exact h1
 ·intro c hc
  obtain ⟨p,hp,rfl⟩:=List.mem_map.1 hc
  obtain ⟨i,hi',rfl⟩:=List.getElem_of_mem hp
  exact (g3 i _ (List.getElem?_eq_getElem hi')).2.2.1
 have:∀ (l:List (α×List Value)),(∀ p∈l,Rps (k0 W) (e p.1) p.2)→Rpss (k0 W) ((l.map (·.1)).map e) (l.map (·.2)):=fun l=>by
  induction l with
  | nil=>exact fun _=>.nil
  | cons p l ih=>exact fun h=>.cons (h p (by simp)) (ih fun q hq=>h q (by simp [hq]))
 refine this ps fun p hp=>?_
 obtain ⟨i,hi',rfl⟩:=List.getElem_of_mem hp
 exact (g3 i _ (List.getElem?_eq_getElem hi')).2.1
theorem nx {α:Type} {t E sz by':Nat} {z:Value} {e:α→List PV} {B:α→Prop} (hu:cL t=some (.slice E)) (hi:dj E=some (z,sz,by')) (h0:Nat.blt 0 sz=true) (hb0:Nat.blt 0 by'=true) (hE:Opens eh nb E e B):Opens eh nb t (eL e) (fun l=>l.length*by'≤140737488355328∧l.length≤nb∧∀ x∈l,B x):=fun W fuel cs x hx hw =>
 l6 (N:=fuel) hu hi h0 hb0 (fun W' f' cs' x' _=>hE W' f' cs' x') W fuel cs x (Nat.lt_succ_self _) hx hw
end
end SX
end Go.Proofs.YtmgcadfnkchnfaaDoor
set_option maxRecDepth 100000
namespace Go.Proofs.YtmgcadfnkchnfaaDoor
open Go Go.ChangeShapes Go.WideShapes Go.RowKit
namespace SX
theorem own_ok:ownKnob Tryd.prog.godebug=none:=by kernel_rfl
theorem oj:laidOutB Tryd.prog=true:=by kernel_rfl
def kq:List (String×DataW Unit):=[("customs/calendar.monthLengths",Rows.laid_customs_calendar_monthLengths)]
mutual
def cellsD:DataW Unit→List Value
 | .lit (.int k n)=>[.int k n]
 | .agg ds=>o7 ds
 | _=>[]
def o7:List (DataW Unit)→List Value
 | []=>[]
 | d::r=>cellsD d++o7 r
end
def bl:Array Value:=#[.int .i64 31,.int .i64 28,.int .i64 31,.int .i64 30,.int .i64 31,.int .i64 30,.int .i64 31,.int .i64 31,.int .i64 30,.int .i64 31,.int .i64 30,.int .i64 31]
def layAt (h:Array Obj) (g:Nat) (cs:Array Value):Array Obj:=h.modify g fun | .cells _ t frozen=>.cells cs t frozen | o=>o
noncomputable def laidWorld (os:Os):World :=
 { World.holding Tryd.prog os ⟨#[],#[],[]⟩ with heap:=layAt (World.holding Tryd.prog os ⟨#[],#[],[]⟩).heap 0 bl }
theorem kr:(kq.filter fun x=>x.2.handleName?.isSome)=[]:=by kernel_rfl
def sv (w:World):MemPlace→Bool
 | .cell b off=>match w.heap[b]? with
  | some (.cells c _ (0,0))=>match c[off]? with | some (.iface _ _)=>false | _=>true
  | _=>false
 | _=>true
theorem ol {w:World} {ps:List MemPlace} (h:ps.all (sv w)=true):∀ b off,MemPlace.cell b off∈ps→(∃ c t,w.heap[b]?=some (.cells c t (0,0)))∧∀ u v,w.cell? ⟨b,off,none⟩=some (.iface u v)→Value.okWide Tryd.prog w .any 0 u v:=fun b off hm=>by
 have:=List.all_eq_true.1 h _ hm
 unfold sv at this
 split at this
 ·rename_i b' off' e
  injection e with e1 e2;subst e1;subst e2
  split at this
  ·rename_i c t heq
   refine ⟨⟨c,t,heq⟩,fun u v hc=>?_⟩
   simp only [World.cell?,heq] at hc
   split at this
   ·cases this
   rename_i hno;exact absurd hc (by simpa using hno u v)
  cases this
 rename_i hno;exact absurd rfl (hno b off)
theorem kF (os:Os) (args:Array Value):laidMetH Tryd.prog kq ((laidWorld os).forCall (fun _ _=>0) ⟨#[],args,[]⟩).memory:=by
 unfold laidMetH
 rw [kr]
 refine ⟨_,⟨0,97,bl,8,[],_,by kernel_rfl,by kernel_rfl,by kernel_rfl,by kernel_rfl,rfl,rfl⟩,?_,?_⟩
 ·exact of_decide_eq_true (by kernel_rfl)
 exact ol (by kernel_rfl)
theorem bu {H:Type} {eh:TypeId×Value→H} {P:Program} {w:World} {base:Nat} {sp:Nat→Bool} {held:Bool} {fuel:Nat} {t:TypeId} {k:IntKind} {c:Value} {y:DataW H×List MemPlace} (ht:P.underlying t=some (.int k)) (h:DataW.trod eh P w base sp held fuel t [c]=some y):∃ n,c=.int k n∧y=(.lit (.int k n),[]):=by
 obtain ⟨n,h1,h2,_⟩:=DataW.trod_int ht h
 injection h1 with h1 _
 exact ⟨n,h1,h2⟩
theorem laid_ml {W:World} (h:laidMetH Tryd.prog kq W):Sh (k0 W) 0 0 [.int .i64 31,.int .i64 28,.int .i64 31,.int .i64 30,.int .i64 31,.int .i64 30,.int .i64 31,.int .i64 31,.int .i64 30,.int .i64 31,.int .i64 30,.int .i64 31]:=by
 unfold laidMetH at h
 rw [kr] at h
 obtain ⟨ps,⟨g,t,cs,fuel,p,q,hg,ht,hvar,hd,_,_⟩,_⟩:=h
 obtain rfl:=Option.some.inj ((show Tryd.prog.globalNamed "customs/calendar.monthLengths" = some 0 by kernel_rfl).symm.trans hg)
 obtain rfl:=Option.some.inj ((show (Tryd.prog.globals[0]?).map (·.type)=some 97 by kernel_rfl).symm.trans ht)
 have hcs:cs=bl:=by
  obtain ⟨l⟩:=cs
  cases fuel with
  | zero=>simp [DataW.trod] at hd
  | succ fuel =>
   have hc1:=(gG (t:=97) rfl).1
   have hc2:=(gG (t:=3) rfl).1
   have hu1:Tryd.prog.underlying 97=some (.array 12 3):=aO rfl
   simp only [DataW.trod,hu1,hc1,hc2] at hd
   split at hd
   ·rename_i hl
    obtain ⟨c0,c1,c2,c3,c4,c5,c6,c7,c8,c9,c10,c11,rfl⟩:∃ c0 c1 c2 c3 c4 c5 c6 c7 c8 c9 c10 c11,l=[c0,c1,c2,c3,c4,c5,c6,c7,c8,c9,c10,c11]:=by
     match l,hl with
     | [a0,a1,a2,a3,a4,a5,a6,a7,a8,a9,a10,a11],_=>exact ⟨a0,a1,a2,a3,a4,a5,a6,a7,a8,a9,a10,a11,rfl⟩
    have e:List.range 12=[0,1,2,3,4,5,6,7,8,9,10,11]:=rfl
    rw [e] at hd
    simp only [Option.map_eq_some_iff,List.mapM_cons,List.mapM_nil,Option.bind_eq_bind,Option.bind_eq_some_iff,Option.pure_def,bI] at hd
    obtain ⟨xs,⟨y0,h0,_,⟨y1,h1,_,⟨y2,h2,_,⟨y3,h3,_,⟨y4,h4,_,⟨y5,h5,_,⟨y6,h6,_,⟨y7,h7,_,⟨y8,h8,_,⟨y9,h9,_,⟨y10,h10,_,⟨y11,h11,_,rfl,rfl⟩,rfl⟩,rfl⟩,rfl⟩,rfl⟩,rfl⟩,rfl⟩,rfl⟩,rfl⟩,rfl⟩,rfl⟩,rfl⟩,hx⟩:=hd
    have hui:Tryd.prog.underlying 3=some (.int .i64):=aO rfl
    obtain ⟨n0,rfl,rfl⟩:=bu hui h0
    obtain ⟨n1,rfl,rfl⟩:=bu hui h1
    obtain ⟨n2,rfl,rfl⟩:=bu hui h2
    obtain ⟨n3,rfl,rfl⟩:=bu hui h3
    obtain ⟨n4,rfl,rfl⟩:=bu hui h4
    obtain ⟨n5,rfl,rfl⟩:=bu hui h5
    obtain ⟨n6,rfl,rfl⟩:=bu hui h6
    obtain ⟨n7,rfl,rfl⟩:=bu hui h7
    obtain ⟨n8,rfl,rfl⟩:=bu hui h8
    obtain ⟨n9,rfl,rfl⟩:=bu hui h9
    obtain ⟨n10,rfl,rfl⟩:=bu hui h10
    obtain ⟨n11,rfl,rfl⟩:=bu hui h11
    simp [Rows.laid_customs_calendar_monthLengths] at hx
    obtain ⟨⟨rfl,rfl,rfl,rfl,rfl,rfl,rfl,rfl,rfl,rfl,rfl,rfl⟩,_⟩:=hx
    rfl
   cases hd
 subst hcs
 have hcell:∀ j u,bl[j]?=some u→W.cell? ⟨0,j,none⟩=some u:=fun j u hu=>by
  have:=World.var?_cell hg hvar j
  rw [this];exact hu
 refine ⟨?_,fun j u hu=>?_⟩
 ·have h0:=hcell 0 _ rfl
  unfold World.cell? at h0
  split at h0
  ·rename_i heq;exact fx heq
  cases h0
 rw [Nat.zero_add];exact hcell j u (by simpa [bl] using hu)
theorem ny {W:World} (h:laidMetH Tryd.prog kq W):GOK (k0 W):=laid_ml h
end SX
end Go.Proofs.YtmgcadfnkchnfaaDoor
set_option maxRecDepth 100000
namespace Go.Proofs.YtmgcadfnkchnfaaDoor
open Go Go.ChangeShapes Go.WideShapes Go.RowKit
namespace SX
theorem inv0 (W:World):Zb ⟨k0 W,[],none⟩ [] (k0 W):=⟨.refl _ _,fun _ h=>h,(fun _ h=>by cases h),(fun _ h=>by cases h),.nil⟩
theorem sw {W:World} {ρ:List Res} {κ:Kr} (h:Zb ⟨k0 W,[],none⟩ ρ κ):Below W.heap.size W κ.w:=⟨h.le.os,h.le.tape,h.le.output,h.le.kle.size,fun k hk=>h.le.same k hk (by simp)⟩
section
variable {H:Type} {eh:TypeId×Value→H}
theorem kG {W W':World} (hb:Below W.heap.size W W') {ts:List TypeId} (hr:∀ t∈ts,Tryd.prog.readableRec t=true∧t<Tryd.prog.types.size):∀ {vs:List Value} {ds:List (DataW H)} {ps:List MemPlace},DataW.TrodAll eh Tryd.prog W 0 (fun _=>true) true ts vs ds ps→(∀ p∈ps,p.block<W.heap.size)→DataW.TrodAll eh Tryd.prog W' 0 (fun b=>decide (b<W.heap.size)) true ts vs ds ps:=by
 induction ts with
 | nil=>intro vs ds ps h _;cases vs <;> cases ds <;> first | exact h | cases h
 | cons t ts ih =>
  intro vs ds ps h hlt
  cases vs with
  | nil=>cases h
  | cons v vs =>
   cases ds with
   | nil=>cases h
   | cons d ds =>
    obtain ⟨p,q,h1,h2,e⟩:=h
    have ht:=hr t (by simp)
    exact ⟨p,q,Below.trod oj ht.1 ht.2 h1 hb (fun x hx=>hlt x (by rw [e];simp [hx])),ih (fun u hu=>hr u (by simp [hu])) h2 (fun x hx=>hlt x (by rw [e];simp [hx])),e⟩
theorem readB {ts:List TypeId} (h:(ts.all fun t=>Tryd.prog.readableRec t&&Nat.blt t Tryd.prog.types.size)=true):∀ t∈ts,Tryd.prog.readableRec t=true∧t<Tryd.prog.types.size:=fun t ht=>by
 have:=List.all_eq_true.1 h t ht
 rw [Bool.and_eq_true] at this
 exact ⟨this.1,by have h2:=this.2;exact Nat.le_of_ble_eq_true h2⟩
theorem sy {f tb:Nat} {fn:Func} {s:ChangeSpec} {W:World} {args:Array Value} {ds gs:List (DataW H)} {before:List MemPlace} {pargs:List PV}
    (hrd:∀ t∈fn.params.toList,Tryd.prog.readableRec t=true∧t<Tryd.prog.types.size) (hres:fn.resultTypes=#[tb]) (hub:Tryd.prog.underlying tb=some .bool) (hvars:s.vars=[])
    (hspec:s.fn H ds={ results:=[.lit (.bool true)],args:=ds }) (hW:DataW.Whole eh Tryd.prog fn.params.toList s.vars false W args.toList ds gs before) (hG:GOK (k0 W)) (hargs:Rps (k0 W) pargs args.toList) (hPF:PF f pargs (.v (.bool true))) :
    Calls Tryd.prog f args W fun e W'=>∃ v,e=.returned v∧s.post eh Tryd.prog fn false true false false W args v W':=by
  have hc:=(hPF (k0 W) args.toList hG hargs).2 (inv0 W)
  have e:args.toList.toArray=args:=by simp
  rw [e] at hc
  refine Calls.mono hc fun en W' ⟨v,ρ',κ',h1,h2,h3,h4,h5⟩=>⟨v,h1,?_⟩
  subst h2
  have hv:=h5.val
  subst hv
  have hb:=sw h3
  have hW':=hW
  obtain ⟨p,q,hA,hV,rfl,hfz,hnd⟩:=hW
  rw [hvars] at hV
  obtain ⟨rfl,rfl⟩:gs=[]∧q=[]:=by
    cases gs with
    | nil=>exact ⟨rfl,hV⟩
    | cons g r=>exact absurd hV (by intro h;cases h)
  refine ⟨ds,[],_,[],p,[],hW',?_,?_,?_,hb.frame _,fun h=>by cases h⟩
  · rw [List.append_nil,hspec,hres];exact trodAll_mk1 (shut_bool hub true)
  · rw [List.append_nil,hspec];exact kG hb hrd hA (DataW.TrodAll.lt hA)
  rw [hvars,List.append_nil,hspec];rfl
theorem trodAll_cons {W:World} {t:TypeId} {ts:List TypeId} {vs:List Value} {ds:List (DataW H)} {ps:List MemPlace} (h:DataW.TrodAll eh Tryd.prog W 0 (fun _=>true) true (t::ts) vs ds ps):∃ v vs' d ds' p q,vs=v::vs'∧ds=d::ds'∧DataW.Trod eh Tryd.prog W 0 (fun _=>true) true t v d p∧DataW.TrodAll eh Tryd.prog W 0 (fun _=>true) true ts vs' ds' q:=by
 cases vs with
 | nil=>cases h
 | cons v vs =>
  cases ds with
  | nil=>cases h
  | cons d ds=>obtain ⟨p,q,h1,h2,_⟩:=h;exact ⟨v,vs,d,ds,p,q,rfl,rfl,h1,h2⟩
theorem trodAll_nil {W:World} {vs:List Value} {ds:List (DataW H)} {ps:List MemPlace} (h:DataW.TrodAll eh Tryd.prog W 0 (fun _=>true) true [] vs ds ps):vs=[]∧ds=[]:=by
 cases vs <;> cases ds <;> first | exact ⟨rfl,rfl⟩ | cases h
theorem nA {l:Array TypeId} (h:(l.toList.all fun t => !Tryd.prog.wantsStandIn t)=true) {j:Nat} {t:TypeId} (ht:l[j]?=some t):Tryd.prog.wantsStandIn t=false:=by
 have:=List.all_eq_true.1 h t (by have:=Array.mem_of_getElem? ht;simpa using this)
 simpa using this
theorem light_head {t:Nat} {ts:List Nat} {d:DataW H} {ds:List (DataW H)} (h:(DataW.weightsEach Tryd.prog (t::ts) (d::ds)).all (· ≤ reachBytes)=true):Light t d∧(DataW.weightsEach Tryd.prog ts ds).all (· ≤ reachBytes)=true:=by
 simp only [DataW.weightsEach,List.all_append,Bool.and_eq_true] at h
 exact ⟨fun n hn=>by simpa using List.all_eq_true.1 h.1 n hn,h.2⟩
def ku:TypeDesc→Bool
 | .int _ | .bool | .string | .slice _=>true
 | _=>false
theorem not_agg {W:World} {r:Reach} {base t:Nat} {v:Value} {D:TypeDesc} (hu:cL t=some D) (hD:ku D=true) (h:Value.okWide Tryd.prog W r base t v):∀ cs,v.cells.toList=[cs]→v=cs:=fun cs he=>by
 cases v with
 | agg arr =>
  exfalso
  unfold Value.okWide at h
  rw [aO hu] at h
  cases D <;> first | (revert hD;simp [ku];done) | (simp only at h;unfold Cell.okWide at h;rw [aO hu] at h;simp only at h;unfold Cell.ok at h;rw [aO hu] at h;simp at h)
 | _=>simpa [Value.cells] using he
theorem jo {nb:Nat} {W:World} {r:Reach} {base t:Nat} {v:Value} {D:TypeDesc} {α:Type} {e:α→List PV} {B:α→Prop} {d:DataW H} {ps:List MemPlace} (hu:cL t=some D) (hD:ku D=true) (hO:Opens eh nb t e B) (h1:∀ m,∃ p,e m=[p]) (h:Value.okWide Tryd.prog W r base t v) (hd:DataW.Trod eh Tryd.prog W 0 (fun _=>true) true t v d ps) (hl:Light t d) (hn:Rows.uptoBulk d≤nb):∃ m,Rps (k0 W) (e m) [v]∧B m:=by
 obtain ⟨fuel,hf⟩:=hd
 obtain ⟨m,h2,_,h9⟩:=hO W fuel _ _ hf hl hn
 refine ⟨m,?_,h9⟩
 obtain ⟨p,hp⟩:=h1 m
 rw [hp] at h2
 generalize hc:v.cells.toList=cs at h2
 obtain ⟨w,ws,rfl,h3,h4⟩:=h2.cons_inv
 rw [h4.nil_inv] at hc
 rw [not_agg hu hD h w hc,hp]
 exact .cons h3 .nil
end
end SX
end Go.Proofs.YtmgcadfnkchnfaaDoor
namespace Go.Proofs.YtmgcadfnkchnfaaDoor
namespace SX
open Go
def bd3:Nat→Int→Prop:=fun _ _=>True
theorem op3 {H:Type} {eh:TypeId×Value→H} {nb:Nat}:Opens eh nb 3 eI (bd3 nb):=qj rfl
def bd22:Nat→(List Int)→Prop:=fun n l=>l.length*8≤140737488355328∧l.length≤n∧∀ x∈l,bd3 n x
theorem op22 {H:Type} {eh:TypeId×Value→H} {nb:Nat}:Opens eh nb 22 (eL eI) (bd22 nb):=nx rfl rfl rfl rfl op3
end SX
end Go.Proofs.YtmgcadfnkchnfaaDoor
set_option maxRecDepth 100000
namespace Go.Proofs.YtmgcadfnkchnfaaDoor
open Go Go.ChangeShapes Go.WideShapes Go.RowKit
open SX
theorem auditGrant_lifted (os:Os) (started:os.Started) (H:Type) (enc:TypeId×Value→H) :
    ReturnsInHanded {} Tryd.checked os 5 .any (fun w args=>(Rows.auditGrantSpec.pre enc Tryd.prog Tryd.f5 [] false w args∧laidMetH Tryd.prog kq w)∧sizedMet enc Tryd.prog Tryd.f5 (OpenSpec.ofChange Rows.auditGrantSpec) false w args)
      (Rows.auditGrantSpec.post enc Tryd.prog Tryd.f5 false true false false):=by
  refine returnsInHanded_of_change_and (C:=Tryd.checked) (X:=fun w _=>laidMetH Tryd.prog kq w) (fun _ _ _ hh h=>h.of_heap hh) own_ok started (by kernel_rfl) Tryd.func5
    (ChangeSpec.witness_at (enc:=enc) (C:=Tryd.checked) (os:=os) (X:=fun w _=>laidMetH Tryd.prog kq w) false (laidWorld os) #[.slice none 0 0,.int .i64 0,.int .i64 0,.int .i64 0] 8 rfl (by kernel_rfl) (by kernel_rfl) (by kernel_rfl) (by kernel_rfl) (by kernel_rfl) (kF os _)) ?_
  intro W base args ds gs before hval0 hW _ hwt hL _
  have hval:∀ (j:Nat) t v,Tryd.f5.params[j]?=some t→args[j]?=some v→Value.okWide Tryd.prog W .any base t v:=hval0
  have hW2:=hW
  obtain ⟨p,q,hA0,hV0,rfl,_,_⟩:=hW
  have hA:DataW.TrodAll enc Tryd.prog W 0 (fun _=>true) true [22,3,3,3] args.toList ds p:=hA0
  obtain ⟨rfl,rfl⟩:gs=[]∧q=[]:=by
    cases gs with
    | nil=>exact ⟨rfl,hV0⟩
    | cons g r=>exact absurd hV0 (by intro h;cases h)
  generalize hargs:args.toList=vs at hA
  have hval2:∀ (j:Nat) t v,[22,3,3,3][j]?=some t→vs[j]?=some v→Value.okWide Tryd.prog W .any base t v:=fun j t v h1 h2=>hval j t v (by rw [Tryd.params5];simpa using h1) (by rw [← hargs] at h2;simpa using h2)
  obtain ⟨v0,vs0,d0,ds0,p0,q0,rfl,rfl,h0,hA⟩:=SX.trodAll_cons hA
  obtain ⟨v1,vs1,d1,ds1,p1,q1,rfl,rfl,h1,hA⟩:=SX.trodAll_cons hA
  obtain ⟨v2,vs2,d2,ds2,p2,q2,rfl,rfl,h2,hA⟩:=SX.trodAll_cons hA
  obtain ⟨v3,vs3,d3,ds3,p3,q3,rfl,rfl,h3,hA⟩:=SX.trodAll_cons hA
  obtain ⟨rfl,rfl⟩:=SX.trodAll_nil hA
  have hw:(DataW.weightsEach Tryd.prog [22,3,3,3] [d0,d1,d2,d3]).all (· ≤ reachBytes)=true:=hwt
  obtain ⟨l0,hw⟩:=SX.light_head hw
  obtain ⟨m0,s0,b0⟩:=jo rfl rfl op22 (fun _=>⟨_,rfl⟩) (hval2 0 22 v0 rfl rfl) h0 l0 (Nat.le_refl _)
  obtain ⟨l1,hw⟩:=SX.light_head hw
  obtain ⟨m1,s1,b1⟩:=jo rfl rfl op3 (fun _=>⟨_,rfl⟩) (hval2 1 3 v1 rfl rfl) h1 l1 (Nat.le_refl _)
  obtain ⟨l2,hw⟩:=SX.light_head hw
  obtain ⟨m2,s2,b2⟩:=jo rfl rfl op3 (fun _=>⟨_,rfl⟩) (hval2 2 3 v2 rfl rfl) h2 l2 (Nat.le_refl _)
  obtain ⟨l3,hw⟩:=SX.light_head hw
  obtain ⟨m3,s3,b3⟩:=jo rfl rfl op3 (fun _=>⟨_,rfl⟩) (hval2 3 3 v3 rfl rfl) h3 l3 (Nat.le_refl _)
  exact sy (readB (by kernel_rfl)) rfl (aO rfl) rfl (by simp [Rows.auditGrantSpec]) hW2 (ny hL) (by rw [hargs];exact (s0.app (s1.app (s2.app s3)))) (gq (kp m0 m1 m2 m3 s0 s1 s2 s3))
theorem auditGrant_holds:Rows.AuditGrantSaid :=
 OpenClaim.holds_of_wide 5 Tryd.f5 rfl rfl rfl rfl rfl rfl rfl ⟨rfl,rfl,rfl,rfl,rfl⟩ rfl rfl rfl rfl rfl auditGrant_named Tryd.func5 auditGrant_closed
  (of_decide_eq_true (by kernel_rfl)) (by unfold Func.isWrapper;rw [if_neg (of_decide_eq_false (by kernel_rfl))];exact ⟨rfl,rfl⟩)
  (fun os started H enc _=>auditGrant_lifted os started H enc)
theorem auditGrant_card:Rows.AuditGrantCardSaid :=
 Claim7.holds_tied_plain_at .later [] [.data] true (true, "723a3f8763fe671da25107c76aac54823bbe3c8059532a2e32ae3f83261a369c") false
  auditGrant_holds (fun _ h=>by cases h) (by as_aux_lemma=>kernel_rfl) (fun _ h=>by cases h) auditGrant_row_tie rfl ⟨rfl,rfl⟩ fp_main rfl
  (fun f fn hf hfn=>by
   obtain rfl:f=5:=Option.some.inj ((show Tryd.prog.funcNamed "customs/customslaw31.AuditGrant" = some 5 from auditGrant_named).symm.trans hf) |>.symm
   obtain rfl:fn=Tryd.f5:=(Option.some.inj (Tryd.func5.symm.trans hfn)).symm
   exact ⟨fp_looks,fun j t ht=>by
    rw [Tryd.params5] at ht
    exact nA (by as_aux_lemma=>kernel_rfl) ht⟩)
  auditGrant_goes
#print axioms auditGrant_card
end Go.Proofs.YtmgcadfnkchnfaaDoor
