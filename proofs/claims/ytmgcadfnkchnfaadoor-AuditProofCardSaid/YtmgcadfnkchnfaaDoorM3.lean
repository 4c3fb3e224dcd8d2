/- AuditProof: for every input the law returns true, and each argument reads afterwards as it read before. Conditions: the package variables are as the program's text lays them (the card ties them). -/
import Derived.Test.YtmgcadfnkchnfaaDoorM2
import Derived.Test.YtmgcadfnkchnfaaDoorL2q
set_option linter.unusedVariables false
set_option linter.unusedSimpArgs false
set_option maxHeartbeats 4000000
set_option maxRecDepth 100000
namespace Go.Proofs.YtmgcadfnkchnfaaDoor
namespace SX
open Go
attribute [local irreducible] PWL PWC PWD POpL POpQ PEv PGuardIs PSub PPick PUpd PSplice PFill PLit PF PFV PCall FOk fE ed jA jB fQ gq Cov PHolds bY idx app mk gd lb nz ge0 cat sub ko pA ior pC nI iX dY pD IntKind.wrap Int.tmod Int.tdiv Op.bytesLess strOfNums
attribute [local irreducible] PWQ oO hX rT asgK eN PSeq
def aJ (p0:(List Za)) (p1:(List Za)):Option (List Za):=(eN (S:=(List Za)) (T:=Empty) (fun l3 x8=>(app 64 l3 [x8]).bind fun l13=>some (.inl l13)) p0 p1).bind fun q=>match q with | .inl l3=>some l3 | .inr e=>e.elim
theorem cd {p0:(List Za)} {p1:(List Za)} {a_0:Option Addr}  {n_0:Nat}  {c_0:Nat} {r:(List Za)} {gf1:Nat} {cs1:List PV} (hg1:PSeq gf1 cs1 DFp p1) (h:aJ p0 p1=some r):PCall 42 [.v (.slice a_0 n_0 c_0),.fn gf1 cs1] [PRes.row a_0 n_0 c_0 28 7 (List.map Za.enc p0)] (fun pv ρ'=>∃ a c,pv=.v (.slice a r.length c)∧ρ'=[PRes.row a r.length c 28 7 (List.map Za.enc r)]):=by
 unfold aJ at h
 refine lR Tryd.func42 (fnk Tryd.func42 rfl) rfl Tryd.ntmps42 Tryd.results42 rfl ?_
 refine m7 (enc:=Za.enc) (xs:=p0) (a:=a_0) fT (fun hl ha=>?_);subst hl;clear ha
 refine bF (cY (af (ar rfl (cE (cs:=[pO a_0 p0.length c_0]) rfl rfl (fun b1=>cX [4] (by kernel_rfl) (bG (bF (bF (cY (am [(6,.fn gf1 cs1)] (by kernel_rfl) (bG (ex (aa h fun q7 hq7 h=>?_)))))))))))))
 refine ew (Y:=Option Addr×Nat) (y0:=(a_0,c_0)) (R:=fun (a4,c5) l3=>[PRes.b b1 24 [pO a4 l3.length c5],PRes.row a4 l3.length c5 28 7 (List.map Za.enc l3)]) (R':=fun t=>[]) hq7 rfl hg1 rfl (by kernel_rfl) (by kernel_rfl) zs2 ?_ ?_ ?_
 ·rintro ⟨a4,c5⟩ l3 x8 suf hs;obtain ⟨o,ho6,hk9⟩:=iB hs;clear hs;(try dsimp only at ho6);(try dsimp only [DFp])
  refine af (ar rfl (aS (cs:=[pI 0,pI 0,pI 0,pI 0,pS ByteArray.empty,pI 0,pI 0]) rfl rfl rfl rfl (fun b10=>aF rfl rfl (ag (vs:=(ah x8)) rfl rfl rfl rfl rfl cS zl7 (aw (iA (aH (af (fX 2 [1,0] [(8,pO a4 l3.length c5),(9,.agg (ah x8))] (by kernel_rfl) (ar rfl (gB rfl rfl rfl rfl rfl (pF rfl zin) rfl rfl rfl rfl (fun b11=>aa ho6 fun l13 hl13 ho6=>?_))))))))))))
  refine ar rfl (mA (enc:=Za.enc) rfl rfl rfl rfl rfl rfl rfl rfl rfl fT (by exact cU (cU (cU cz))) hl13 (fun a14 c15=>?_))
  refine aF rfl rfl (ag (vs:=[pO a14 l13.length c15]) rfl rfl rfl rfl rfl (ei (ei (ei cS))) gE (aw (aB ?_)))
  exact hZ ho6 hk9 (a14,c15) (eE (cU (cU (cU cz))) em)
 ·rintro ⟨a4,c5⟩ l3 D hr;subst hr;(try dsimp only at h);(try dsimp only)
  refine ey (bG (cY (ae (co [0] [12] [(4,pO a4 l3.length c5)] (by kernel_rfl) (dO ?_)))))
  (repeat (first | apply al | apply aT | apply bO | apply dX | apply dD | apply cP))
  obtain rfl:=osi h
  exact aN (eG (aU rfl)) (eE (cU cz) eQ) ⟨_,_,rfl,rfl⟩
 rintro t;exact t.elim
def bm (p0:(List Za)):Option (List Za):=(aJ ([]:List Za) p0).bind fun x2=>some x2
theorem d8 {p0:(List Za)} {r:(List Za)} {gf0:Nat} {cs0:List PV} (hg0:PSeq gf0 cs0 DFp p0) (h:bm p0=some r):PCall 32 [.fn gf0 cs0] [] (fun pv ρ'=>∃ a c,pv=.v (.slice a r.length c)∧ρ'=[PRes.row a r.length c 28 7 (List.map Za.enc r)]):=by
 unfold bm at h
 refine aP Tryd.func32 rfl Tryd.ntmps32 Tryd.results32 rfl (ae (bd [2] (by kernel_rfl) (bJ (af (aQ 1 [(3,.fn gf0 cs0)] (by kernel_rfl) (nH 28 7 (aa h fun x2 hx2 h=>?_)))))))
 refine ar rfl (bc rfl rfl (ρ1:=[_]) (aW (by exact cz) (List.Perm.refl _)) (cd hg0 hx2) ?_);rintro _ _ ⟨a3,c4,rfl,rfl⟩
 refine aM [(2,pO a3 x2.length c4)] (by kernel_rfl) (dO ?_)
 obtain rfl:=osi h
 exact aN (eG (aU rfl)) em ⟨_,_,rfl,rfl⟩
def aR (p0:(List Za)):Option (List Za):=(bm p0).bind fun x1=>(av x1).bind fun x5=>some x5
theorem dF {p0:(List Za)} {r:(List Za)} {gf0:Nat} {cs0:List PV} (hg0:PSeq gf0 cs0 DFp p0) (h:aR p0=some r):PCall 21 [.fn gf0 cs0,.fn 23 []] [] (fun pv ρ'=>∃ a c,pv=.v (.slice a r.length c)∧ρ'=[PRes.row a r.length c 28 7 (List.map Za.enc r)]):=by
 unfold aR at h
 refine aP Tryd.func21 rfl Tryd.ntmps21 Tryd.results21 rfl (ae (bd [4] (by kernel_rfl) (bJ (aa h fun x1 hx1 h=>af (aQ 1 [(6,.fn gf0 cs0)] (by kernel_rfl) ?_)))))
 refine ar rfl (bc rfl rfl (ρ1:=[]) (List.Perm.refl _) (d8 hg0 hx1) ?_);rintro _ _ ⟨a2,c3,rfl,rfl⟩
 refine aM [(5,pO a2 x1.length c3)] (by kernel_rfl) (bJ (aa h fun x5 hx5 h=>af (aQ 2 [(8,pO a2 x1.length c3),(9,.fn 23 [])] (by kernel_rfl) ?_)))
 refine ar rfl (bc rfl rfl (ρ1:=[_]) (aW (by exact cz) (List.Perm.refl _)) (bD hx5) ?_);rintro _ _ ⟨rfl,rfl⟩
 refine aw (bJ (an [11] [(4,pO a2 x1.length c3)] (by kernel_rfl) (ai ?_)))
 refine mG (enc:=Za.enc) (xs:=x5) (a:=a2) fT (fun hl6 ha7=>?_);rw [← hl6];clear ha7
 refine cD ?_
 obtain rfl:=osi h
 exact aN (eG (aU rfl)) em ⟨_,_,rfl,rfl⟩
def dS (p0:Zd) (p1:(List Za)) (p2:Za):Option Ze:=(bh p2.Day 36).bind fun x4=>Option.bind (cond (x4.2 != 0) (some 36524) (some x4.1)) (fun v5=>(bM p1 2 v5).bind fun x10=>(eN (S:=Bool) (T:=Empty) (fun v11 x14=>some (.inl true)) false x10).bind fun q=>match q with | .inl v11=>(bM p1 3 v5).bind (fun x16=>(eN (S:=Int) (T:=Empty) (fun v17 x20=>some (.inl x20.Amount)) p2.Amount x16).bind fun q=>match q with | .inl v17=>(bM p1 4 v5).bind (fun x23=>(eN (S:=ByteArray) (T:=Empty) (fun v24 x27=>some (.inl x27.Country)) p2.Country x23).bind fun q=>match q with | .inl v24=>(bM p0.Facts 5 36524).bind (fun x30=>(eN (S:=Int) (T:=Empty) (fun v31 x34=>some (.inl (dY p0.Units x34.Amount))) 0 x30).bind fun q=>match q with | .inl v31=>some (⟨p0.Code,v24,v11,p2.Company,p2.Day,p0.Units,v17,v31⟩:Ze) | .inr e=>e.elim) | .inr e=>e.elim) | .inr e=>e.elim) | .inr e=>e.elim)
theorem i5 {p0:Zd} {p1:(List Za)} {p2:Za} {r:Ze}  (h:dS p0 p1 p2=some r):PF 25 [.agg (aL p0),pL Za.enc p1,.agg (ah p2)] (.agg (du r)):=by
 unfold dS at h
 refine bP ?_
 refine lR Tryd.func25 (fnk Tryd.func25 rfl) rfl Tryd.ntmps25 Tryd.results25 rfl (bF (cY (af (ar rfl (cE (cs:=(aL p0)) rfl rfl (fun b1=>ar rfl (cE (cs:=(ah p2)) rfl rfl (fun b2=>ar rfl (aS (cs:=[pS ByteArray.empty,pS ByteArray.empty,pB false,pI 0,pI 0,pI 0,pI 0,pI 0]) rfl rfl rfl rfl (fun b3=>aw (bG (bF (cY (aa h fun x4 hx4 h=>aG [1] [14,15,16,13,17,18] [(7,pI x4.1),(8,pI x4.2)] (bI 2 (fK hx4) bZ) (by kernel_rfl) (bG (bF (cY (aa h fun q6 hq6 h=>?_))))))))))))))))))
 refine qX (Y:=Unit×Int) (fun (_,v5)=>[(1,pL Za.enc p1),(3,pP b1 0),(5,pP b2 0),(6,pP b3 0),(7,pI v5)]) (fun (_,v5)=>[PRes.b b1 30 (aL p0),PRes.b b2 28 (ah p2),PRes.b b3 34 [pS ByteArray.empty,pS ByteArray.empty,pB false,pI 0,pI 0,pI 0,pI 0,pI 0]]) (fun (_,v5)=>q6=v5) ?_ ?_
 ·skip
  refine ae (an [19] [(20,pB (x4.2 != 0))] (by kernel_rfl) (ai (dV rfl hq6 (fun hc7 hq6=>?_) fun hc7 hq6=>?_)))
  ·refine am [(7,pI 36524)] (by kernel_rfl) ?_
   obtain rfl:=osi hq6
   exact qY ((),36524) (zh5 rfl) (eE (cU (cU cz)) (eE (cU cz) em)) rfl
  refine ak ?_
  obtain rfl:=osi hq6
  exact qY ((),x4.1) (zh5 rfl) (eE (cU (cU cz)) (eE (cU cz) em)) rfl
 rintro ⟨_,v5⟩ τ ρ1 hsub8 hz;(try dsimp only at hz hsub8);subst q6;(try dsimp only at h);dsimp only [bi]
 refine bG (pwq_sub hsub8 (bF (cY (af (dN 13 [0,1,1,1,0,1] (rg 21 12) [(33,.agg [pS p0.Code,pS p2.Country,pB false,pI p2.Company,pI p2.Day,pI p0.Units,pI p2.Amount,pI 0])] (by kernel_rfl) (ar rfl (aS (cs:=[pS ByteArray.empty,pS ByteArray.empty,pB false,pI 0,pI 0,pI 0,pI 0,pI 0]) rfl rfl rfl rfl (fun b9=>aF rfl rfl (ag (vs:=[pS p0.Code,pS p2.Country,pB false,pI p2.Company,pI p2.Day,pI p0.Units,pI p2.Amount,pI 0]) rfl rfl rfl rfl rfl cS zl8 (aw (bG (bF (bF (cY (aa h fun x10 hx10 h=>aG [] [34,35] [(36,.fn 37 [.ref [pL Za.enc p1] 0,.ref [pI 2] 0,.ref [pI v5] 0])] (bI 2 (cN hx10) bZ) (by kernel_rfl) (bG (ex (aa h fun q13 hq13 h=>?_))))))))))))))))))
 refine ew (Y:=Unit) (y0:=()) (R:=fun _ v11=>[PRes.b b1 30 (aL p0),PRes.b b2 28 (ah p2),PRes.b b3 34 [pS ByteArray.empty,pS ByteArray.empty,pB false,pI 0,pI 0,pI 0,pI 0,pI 0],PRes.b b9 34 [pS p0.Code,pS p2.Country,pB v11,pI p2.Company,pI p2.Day,pI p0.Units,pI p2.Amount,pI 0]]) (R':=fun t=>[]) hq13 rfl (cw hx10) rfl (by kernel_rfl) (by kernel_rfl) (eE (cU cz) (eE (cU cz) (eE (cU cz) em))) ?_ ?_ ?_
 ·rintro _ v11 x14 suf hs;obtain ⟨o,ho12,hk15⟩:=iB hs;clear hs;(try dsimp only at ho12);(try dsimp only [DFp])
  refine ak (iA (aH (af (aQ 1 [(38,pP b9 2)] (by kernel_rfl) (aF rfl rfl (ag (vs:=[pB true]) rfl rfl rfl rfl rfl (ei (ei (ei cS))) (cQ (cQ gE)) (aw (aB ?_))))))))
  exact hZ ho12 hk15 () zs4
 ·rintro _ v11 D hr;subst hr;(try dsimp only at h);(try dsimp only)
  refine ey (bG (bF (bF (cY (aa h fun x16 hx16 h=>aG [] [39,40] [(41,.fn 37 [.ref [pL Za.enc p1] 0,.ref [pI 3] 0,.ref [pI v5] 0])] (bI 2 (cN hx16) bZ) (by kernel_rfl) (bG (ex (aa h fun q19 hq19 h=>?_))))))))
  refine ew (Y:=Unit) (y0:=()) (R:=fun _ v17=>[PRes.b b1 30 (aL p0),PRes.b b2 28 (ah p2),PRes.b b3 34 [pS ByteArray.empty,pS ByteArray.empty,pB false,pI 0,pI 0,pI 0,pI 0,pI 0],PRes.b b9 34 [pS p0.Code,pS p2.Country,pB v11,pI p2.Company,pI p2.Day,pI p0.Units,pI v17,pI 0]]) (R':=fun t=>[]) hq19 rfl (cw hx16) rfl (by kernel_rfl) (by kernel_rfl) zs4 ?_ ?_ ?_
  ·rintro _ v17 x20 suf hs;obtain ⟨o,ho18,hk21⟩:=iB hs;clear hs;(try dsimp only at ho18);(try dsimp only [DFp])
   refine af (ar rfl (aS (cs:=[pI 0,pI 0,pI 0,pI 0,pS ByteArray.empty,pI 0,pI 0]) rfl rfl rfl rfl (fun b22=>aF rfl rfl (ag (vs:=(ah x20)) rfl rfl rfl rfl rfl cS zl7 (aw (iA (aH (af (dN 3 [0] [43] [(44,pI x20.Amount),(45,pP b9 6)] (by kernel_rfl) (aF rfl rfl (ag (vs:=[pI x20.Amount]) rfl rfl rfl rfl rfl (ei (ei (ei (ei cS)))) (cQ (cQ (cQ (cQ (cQ (cQ gE)))))) (aw (aB ?_)))))))))))))
   exact hZ ho18 hk21 () (eE (cU cz) (eE (cU cz) (eE (cU cz) (eE (cU cz) eQ))))
  ·rintro _ v17 D hr;subst hr;(try dsimp only at h);(try dsimp only)
   refine ey (bG (bF (bF (cY (aa h fun x23 hx23 h=>aG [] [46,47] [(48,.fn 37 [.ref [pL Za.enc p1] 0,.ref [pI 4] 0,.ref [pI v5] 0])] (bI 2 (cN hx23) bZ) (by kernel_rfl) (bG (ex (aa h fun q26 hq26 h=>?_))))))))
   refine ew (Y:=Unit) (y0:=()) (R:=fun _ v24=>[PRes.b b1 30 (aL p0),PRes.b b2 28 (ah p2),PRes.b b3 34 [pS ByteArray.empty,pS ByteArray.empty,pB false,pI 0,pI 0,pI 0,pI 0,pI 0],PRes.b b9 34 [pS p0.Code,pS v24,pB v11,pI p2.Company,pI p2.Day,pI p0.Units,pI v17,pI 0]]) (R':=fun t=>[]) hq26 rfl (cw hx23) rfl (by kernel_rfl) (by kernel_rfl) zs4 ?_ ?_ ?_
   ·rintro _ v24 x27 suf hs;obtain ⟨o,ho25,hk28⟩:=iB hs;clear hs;(try dsimp only at ho25);(try dsimp only [DFp])
    refine af (ar rfl (aS (cs:=[pI 0,pI 0,pI 0,pI 0,pS ByteArray.empty,pI 0,pI 0]) rfl rfl rfl rfl (fun b29=>aF rfl rfl (ag (vs:=(ah x27)) rfl rfl rfl rfl rfl cS zl7 (aw (iA (aH (af (dN 3 [0] [50] [(51,pS x27.Country),(52,pP b9 1)] (by kernel_rfl) (aF rfl rfl (ag (vs:=[pS x27.Country]) rfl rfl rfl rfl rfl (ei (ei (ei (ei cS)))) (cQ gE) (aw (aB ?_)))))))))))))
    exact hZ ho25 hk28 () (eE (cU cz) (eE (cU cz) (eE (cU cz) (eE (cU cz) eQ))))
   ·rintro _ v24 D hr;subst hr;(try dsimp only at h);(try dsimp only)
    refine ey (bG (bF (bF (cY (aa h fun x30 hx30 h=>aG [0] [53,54] [(55,.fn 37 [.ref [pL Za.enc p0.Facts] 0,.ref [pI 5] 0,.ref [pI 36524] 0])] (bI 2 (cN hx30) bZ) (by kernel_rfl) (bG (ex (aa h fun q33 hq33 h=>?_))))))))
    refine ew (Y:=Unit) (y0:=()) (R:=fun _ v31=>[PRes.b b1 30 (aL p0),PRes.b b2 28 (ah p2),PRes.b b3 34 [pS ByteArray.empty,pS ByteArray.empty,pB false,pI 0,pI 0,pI 0,pI 0,pI 0],PRes.b b9 34 [pS p0.Code,pS v24,pB v11,pI p2.Company,pI p2.Day,pI p0.Units,pI v17,pI v31]]) (R':=fun t=>[]) hq33 rfl (cw hx30) rfl (by kernel_rfl) (by kernel_rfl) zs4 ?_ ?_ ?_
    ·rintro _ v31 x34 suf hs;obtain ⟨o,ho32,hk35⟩:=iB hs;clear hs;(try dsimp only at ho32);(try dsimp only [DFp])
     refine af (ar rfl (aS (cs:=[pI 0,pI 0,pI 0,pI 0,pS ByteArray.empty,pI 0,pI 0]) rfl rfl rfl rfl (fun b36=>aF rfl rfl (ag (vs:=(ah x34)) rfl rfl rfl rfl rfl cS zl7 (aw (iA (aH (af (dN 6 [1,0] [57,58,59,60] [(61,pI (dY p0.Units x34.Amount)),(62,pP b9 7)] (by kernel_rfl) (aF rfl rfl (ag (vs:=[pI (dY p0.Units x34.Amount)]) rfl rfl rfl rfl rfl (ei (ei (ei (ei cS)))) (cQ (cQ (cQ (cQ (cQ (cQ (cQ gE))))))) (aw (aB ?_)))))))))))))
     exact hZ ho32 hk35 () (eE (cU cz) (eE (cU cz) (eE (cU cz) (eE (cU cz) eQ))))
    ·rintro _ v31 D hr;subst hr;(try dsimp only at h);(try dsimp only)
     refine ey (bG (cY (ae (af (fX 1 [3] [(63,.agg [pS p0.Code,pS v24,pB v11,pI p2.Company,pI p2.Day,pI p0.Units,pI v17,pI v31])] (by kernel_rfl) (aF rfl rfl (ag (vs:=[pS p0.Code,pS v24,pB v11,pI p2.Company,pI p2.Day,pI p0.Units,pI v17,pI v31]) rfl rfl rfl rfl rfl (ei (ei cS)) zl8 (aw (dO ?_)))))))))
     (repeat (first | apply al | apply aT | apply bO | apply dX | apply dD | apply cP))
     obtain rfl:=osi h
     exact aN (eG (cW rfl zm2 rfl)) eQ ⟨rfl,rfl⟩
    rintro t;exact t.elim
   rintro t;exact t.elim
  rintro t;exact t.elim
 rintro t;exact t.elim
def dA (p0:Zd):Option (Ze×Bool):=(cu p0).bind fun x4=>cond (x4 != 0) (some ((⟨ByteArray.empty,ByteArray.empty,false,0,0,0,0,0⟩:Ze),false)) ((aC p0.Facts).bind fun x6=>(aR x6 ).bind fun x7=>(bM x7 1 36524).bind fun x12=>(eN (S:=Unit) (T:=(Ze×Bool)) (fun _ x15=>(dS p0 x7 x15).bind fun x18=>some (.inr (x18,true))) () x12).bind fun q=>match q with | .inl _=>some ((⟨ByteArray.empty,ByteArray.empty,false,0,0,0,0,0⟩:Ze),false) | .inr e=>some e)
theorem e7 {p0:Zd} {r:(Ze×Bool)}  (h:dA p0=some r):PF 10 [.agg (aL p0)] (.tup [.agg (du r.1),pB r.2]):=by
 unfold dA at h
 refine bP ?_
 refine lR Tryd.func10 (fnk Tryd.func10 rfl) rfl Tryd.ntmps10 Tryd.results10 rfl (bF (cY (af (ar rfl (cE (cs:=(aL p0)) rfl rfl (fun b1=>ar rfl (aS (cs:=[pS ByteArray.empty,pS ByteArray.empty,pB false,pI 0,pI 0,pI 0,pI 0,pI 0]) rfl rfl rfl rfl (fun b2=>ar rfl (aS (cs:=[pB false]) rfl rfl rfl rfl (fun b3=>aw (bG (bF (cY (ae (aa h fun x4 hx4 h=>aG [2] [6,7] [(8,pB (x4 != 0))] (bI 1 (eW hx4) bZ) (by kernel_rfl) (ai (dV rfl h (fun hc5 h=>?_) fun hc5 h=>?_)))))))))))))))))
 ·refine ae ?_
  refine af (aQ 1 [(9,.agg [pS ByteArray.empty,pS ByteArray.empty,pB false,pI 0,pI 0,pI 0,pI 0,pI 0])] (by kernel_rfl) (aF rfl rfl (ag (vs:=[pS ByteArray.empty,pS ByteArray.empty,pB false,pI 0,pI 0,pI 0,pI 0,pI 0]) rfl rfl rfl rfl rfl (ei cS) zl8 (aF rfl rfl (ag (vs:=[pB false]) rfl rfl rfl rfl rfl cS gE (aw (dO ?_)))))))
  (repeat (first | apply al | apply aT | apply bO | apply dX | apply dD | apply cP))
  obtain rfl:=osi h
  exact aN (dC (cW rfl zm1 rfl) (cW rfl fT rfl)) eQ ⟨rfl,rfl⟩
 refine ak ?_
 refine bG (bF (cY (aa h fun x6 hx6 h=>aa h fun x7 hx7 h=>af (bg 3 [2] [10,11] [(12,.fn 34 [.ref [pL Za.enc p0.Facts] 0])] (bI 2 (cH hx6) bZ) (by kernel_rfl) ?_))))
 refine ar rfl (bc rfl rfl (ρ1:=[]) (List.Perm.refl _) (dF (cx hx6) hx7) ?_);rintro _ _ ⟨a8,c9,rfl,rfl⟩
 refine ar rfl (aS (cs:=[pN]) rfl rfl rfl rfl (fun b11=>aF rfl rfl (ag (vs:=[pO a8 x7.length c9]) rfl rfl rfl rfl rfl cS gE (aw (bG (bF (bF (cY (af (fX 1 [0] [(14,pO a8 x7.length c9)] (by kernel_rfl) ?_))))))))))
 refine rb (enc:=Za.enc) (xs:=x7) 14 rfl (by exact cU cz) ?_
 refine aa h fun x12 hx12 h=>bg 1 [] [] [(15,.fn 37 [.ref [pL Za.enc x7] 0,.ref [pI 1] 0,.ref [pI 36524] 0])] (bI 0 (cN hx12) bZ) (by kernel_rfl) (kH (k:=0) (enc:=Za.enc) (xs:=x7) (b:=b11) (a:=a8) rfl fT (ei cS) (aw (bG (ex (aa h fun q14 hq14 h=>?_)))))
 refine ew (Y:=Unit) (y0:=()) (R:=fun _ _=>[PRes.b b1 30 (aL p0),PRes.b b11 24 [pL Za.enc x7],PRes.b b2 34 [pS ByteArray.empty,pS ByteArray.empty,pB false,pI 0,pI 0,pI 0,pI 0,pI 0],PRes.b b3 4 [pB false]]) (R':=fun t=>[PRes.b b2 34 (du t.1),PRes.b b3 4 [pB t.2]]) hq14 rfl (cw hx12) rfl (by kernel_rfl) (by kernel_rfl) (eE (cU (cU (cU (cU cz)))) (eE (cU cz) (eE (cU (cU cz)) (eE (cU cz) eQ)))) ?_ ?_ ?_
 ·rintro _ _ x15 suf hs;obtain ⟨o,ho13,hk16⟩:=iB hs;clear hs;(try dsimp only at ho13);(try dsimp only [DFp])
  refine af (ar rfl (aS (cs:=[pI 0,pI 0,pI 0,pI 0,pS ByteArray.empty,pI 0,pI 0]) rfl rfl rfl rfl (fun b17=>aF rfl rfl (ag (vs:=(ah x15)) rfl rfl rfl rfl rfl cS zl7 (aw (iA (aH (ae (aa ho13 fun x18 hx18 ho13=>af (bg 4 [1,2,0] [17,18,19] [(20,.agg (du x18))] (bI 3 (i5 hx18) bZ) (by kernel_rfl) (aF rfl rfl (ag (vs:=(du x18)) rfl rfl rfl rfl rfl (ei (ei (ei cS))) zl8 (aF rfl rfl (ag (vs:=[pB true]) rfl rfl rfl rfl rfl (ei (ei (ei (ei cS)))) gE (aw (dO ?_))))))))))))))))
  (repeat (first | apply al | apply aT | apply bO | apply dX | apply dD | apply cP))
  exact pk_rngR ho13 hk16 (eE (cU (cU (cU cz))) (eE (cU (cU (cU cz))) eQ))
 ·rintro _ _ D hr;subst hr;(try dsimp only at h);(try dsimp only)
  refine ey (bG (cY (ae (af (aQ 1 [(21,.agg [pS ByteArray.empty,pS ByteArray.empty,pB false,pI 0,pI 0,pI 0,pI 0,pI 0])] (by kernel_rfl) (aF rfl rfl (ag (vs:=[pS ByteArray.empty,pS ByteArray.empty,pB false,pI 0,pI 0,pI 0,pI 0,pI 0]) rfl rfl rfl rfl rfl (ei (ei cS)) zl8 (aF rfl rfl (ag (vs:=[pB false]) rfl rfl rfl rfl rfl (ei (ei (ei cS))) gE (aw (dO ?_)))))))))))
  (repeat (first | apply al | apply aT | apply bO | apply dX | apply dD | apply cP))
  obtain rfl:=osi h
  exact aN (dC (cW rfl zm2 rfl) (cW rfl zm3 rfl)) eQ ⟨rfl,rfl⟩
 rintro t D hr;subst hr;(try dsimp only at h);(try dsimp only)
 (repeat (first | apply al | apply aT | apply bO | apply dX | apply dD | apply cP))
 obtain rfl:=osi h
 exact aN (dC (cW rfl fT rfl) (cW rfl zm1 rfl)) eQ ⟨rfl,rfl⟩
def bk (p0:Zd) (p1:Za):Option (Zd×Int):=(cu p0).bind fun x4=>cond (x4 != 0) (some ((⟨0,ByteArray.empty,0,[]⟩:Zd),x4)) ((bT p1).bind fun x6=>cond (!x6) (some ((⟨0,ByteArray.empty,0,[]⟩:Zd),(2:Int))) ((aj p0.Facts p1 (fun y8 y9=>br y8 y9)).bind fun x10=>(gd x10.2 (idx p0.Facts x10.1)).bind fun m11=>cond (x10.2&&(!(Za.eqb m11 p1))) (some ((⟨0,ByteArray.empty,0,[]⟩:Zd),(14:Int))) (cond ((!x10.2)&&(decide (200≤(p0.Facts.length:Int)))) (some ((⟨0,ByteArray.empty,0,[]⟩:Zd),(8:Int))) ((aI p0.Facts).bind fun x14=>Option.bind (cond (!x10.2) ((au x14 x10.1 [p1]).bind fun x26=>some x26) (some x14)) (fun l21=>some ((⟨p0.Source,p0.Code,p0.Units,l21⟩:Zd),(0:Int)))))))
theorem cZ {p0:Zd} {p1:Za} {r:(Zd×Int)}  (h:bk p0 p1=some r):PF 13 [.agg (aL p0),.agg (ah p1)] (.tup [.agg (aL r.1),pI r.2]):=by
 unfold bk at h
 refine bP ?_
 refine aP Tryd.func13 rfl Tryd.ntmps13 Tryd.results13 rfl (ae (af (ar rfl (cE (cs:=(aL p0)) rfl rfl (fun b1=>ar rfl (cE (cs:=(ah p1)) rfl rfl (fun b2=>ar rfl (aS (cs:=[pI 0,pS ByteArray.empty,pI 0,pN]) rfl rfl rfl rfl (fun b3=>cX [5] (by kernel_rfl) (bJ (ae (aa h fun x4 hx4 h=>aG [2] [9,10] [(6,pI x4)] (bI 1 (eW hx4) bZ) (by kernel_rfl) (bJ (an [11] [(12,pB (x4 != 0))] (by kernel_rfl) (ai (dV rfl h (fun hc5 h=>?_) fun hc5 h=>?_))))))))))))))))
 ·refine ae ?_
  refine af (aQ 2 [(13,.agg [pI 0,pS ByteArray.empty,pI 0,pN]),(14,pI x4)] (by kernel_rfl) (aF rfl rfl (ag (vs:=[pI 0,pS ByteArray.empty,pI 0,pN]) rfl rfl rfl rfl rfl cS nu (aM [(5,pI x4)] (by kernel_rfl) (ai (fb (k:=3) (b:=b3) rfl cS (cD (al ?_))))))))
  obtain rfl:=osi h
  exact aN (dC (cW rfl fT rfl) (aU rfl)) eQ ⟨rfl,rfl⟩
 refine ak ?_
 refine bJ (ae (aa h fun x6 hx6 h=>aG [1] [15,16] [(17,pB (!x6))] (bI 1 (eK hx6) bZ) (by kernel_rfl) (ai (dV rfl h (fun hc7 h=>?_) fun hc7 h=>?_))))
 ·refine ae ?_
  refine af (aQ 1 [(18,.agg [pI 0,pS ByteArray.empty,pI 0,pN])] (by kernel_rfl) (aF rfl rfl (ag (vs:=[pI 0,pS ByteArray.empty,pI 0,pN]) rfl rfl rfl rfl rfl cS nu (aM [(5,pI 2)] (by kernel_rfl) (ai (fb (k:=3) (b:=b3) rfl cS (cD (al ?_))))))))
  obtain rfl:=osi h
  exact aN (dC (cW rfl fT rfl) (aU rfl)) eQ ⟨rfl,rfl⟩
 refine ak ?_
 refine bJ (aa h fun x10 hx10 h=>aG [2,1] [20,21,22,23,19,24,25] [(7,pI x10.1),(8,pB x10.2)] (bI 3 (bj (fun hr=>pfv_of (dP hr)) hx10) bZ) (by kernel_rfl) (bJ (ae (cV (ρd:=[]) [(0,0),(1,0),(2,0),(3,0),(4,0),(5,0),(6,0),(7,0),(8,0),(9,0)] _ (List.Perm.refl _) (by kernel_rfl) rfl (aa h fun m11 hm11 h=>cT 10 [2,1] (rg 26 9) [(35,pB (x10.2&&(!(Za.eqb m11 p1))))] (ry 5 Za.enc (iZ hm11) (foeq 8 Za.eqok28 bZ)) (by kernel_rfl) (dK (ai (dV rfl h (fun hc12 h=>?_) fun hc12 h=>?_))))))))
 ·refine ae ?_
  refine af (aQ 1 [(36,.agg [pI 0,pS ByteArray.empty,pI 0,pN])] (by kernel_rfl) (aF rfl rfl (ag (vs:=[pI 0,pS ByteArray.empty,pI 0,pN]) rfl rfl rfl rfl rfl cS nu (aM [(5,pI 14)] (by kernel_rfl) (ai (fb (k:=3) (b:=b3) rfl cS (cD (al ?_))))))))
  obtain rfl:=osi h
  exact aN (dC (cW rfl fT rfl) (aU rfl)) eQ ⟨rfl,rfl⟩
 refine ak ?_
 refine bJ (ae (co [2] (rg 37 7) [(44,pB ((!x10.2)&&(decide (200≤(p0.Facts.length:Int)))))] (by kernel_rfl) (ai (dV rfl h (fun hc13 h=>?_) fun hc13 h=>?_))))
 ·refine ae ?_
  refine af (aQ 1 [(45,.agg [pI 0,pS ByteArray.empty,pI 0,pN])] (by kernel_rfl) (aF rfl rfl (ag (vs:=[pI 0,pS ByteArray.empty,pI 0,pN]) rfl rfl rfl rfl rfl cS nu (aM [(5,pI 8)] (by kernel_rfl) (ai (fb (k:=3) (b:=b3) rfl cS (cD (al ?_))))))))
  obtain rfl:=osi h
  exact aN (dC (cW rfl fT rfl) (aU rfl)) eQ ⟨rfl,rfl⟩
 refine ak ?_
 refine bJ (aa h fun x14 hx14 h=>af (dN 2 [2] [46] [(47,pL Za.enc p0.Facts)] (by kernel_rfl) ?_))
 refine ar rfl (bc rfl rfl (ρ1:=[]) (List.Perm.refl _) (cL hx14) ?_);rintro _ _ ⟨a15,c16,rfl,rfl⟩
 refine aQ 1 [(49,pP b1 3)] (by kernel_rfl) (aF rfl rfl (ag (vs:=[pO a15 x14.length c16]) rfl rfl rfl rfl rfl (ei (ei (ei cS))) (cQ (cQ (cQ gE))) (aw (bJ (ae (an [50] [(51,pB (!x10.2))] (by kernel_rfl) (ai (aa h fun q22 hq22 h=>?_))))))))
 refine bz (Y:=(Option Addr×Nat)×((List Za))) (fun ((a19,c20),l21)=>[(2,pP b1 0),(4,pP b3 0)]) (fun ((a19,c20),l21)=>[PRes.b b1 30 [pI p0.Source,pS p0.Code,pI p0.Units,pO a19 l21.length c20],PRes.b b3 30 [pI 0,pS ByteArray.empty,pI 0,pN],PRes.row a19 l21.length c20 28 7 (List.map Za.enc l21)]) (fun ((a19,c20),l21)=>q22=l21) ?_ ?_
 ·skip
  refine dV rfl hq22 (fun hc23 hq22=>?_) fun hc23 hq22=>?_
  ·refine af ?_
   refine dN 4 [3,2] [52] [(53,pO a15 x14.length c16),(54,pI x10.1),(55,.agg (ah p1))] (by kernel_rfl) (ar rfl (gB rfl rfl rfl rfl rfl (pF rfl zin) rfl rfl rfl rfl (fun b24=>aa hq22 fun x26 hx26 hq22=>?_)))
   refine ar rfl (bc rfl rfl (ρ1:=[_,_]) (aW (by exact cU cz) (aW (by exact cz) (List.Perm.refl _))) (cI hx26) ?_);rintro _ _ ⟨a27,c28,rfl,rfl⟩
   refine aQ 1 [(58,pP b1 3)] (by kernel_rfl) (aF rfl rfl (ag (vs:=[pO a27 x26.length c28]) rfl rfl rfl rfl rfl (ei (ei (ei cS))) (cQ (cQ (cQ gE))) (aw ?_)))
   obtain rfl:=osi hq22
   exact aX ((a27,c28),x26) (zh2 rfl) (eE (cU (cU (cU cz))) (eE (cU cz) em)) rfl
  refine ak ?_
  obtain rfl:=osi hq22
  exact aX ((a15,c16),x14) (zh2 rfl) (eE (cU (cU (cU cz))) (eE (cU cz) em)) rfl
 rintro ⟨⟨a19,c20⟩,l21⟩ τ hz;(try dsimp only at hz);subst q22;(try dsimp only at h);dsimp only [bi]
 refine ae (af ?_)
 refine ox (css:=List.map Za.enc l21) (a:=a19) (by exact cU (cU cz)) ?_
 refine kH (k:=3) (enc:=Za.enc) (xs:=l21) (b:=b1) (a:=a19) rfl fT (ei cS) (fX 1 [1] [(59,.agg [pI p0.Source,pS p0.Code,pI p0.Units,pL Za.enc l21])] (by kernel_rfl) (aF rfl rfl (ag (vs:=[pI p0.Source,pS p0.Code,pI p0.Units,pL Za.enc l21]) rfl rfl rfl rfl rfl (ei (ei cS)) nu (aM [(5,pI 0)] (by kernel_rfl) (dO ?_)))))
 obtain rfl:=osi h
 exact aN (dC (cW rfl zm2 rfl) (aU rfl)) eQ ⟨rfl,rfl⟩
def eY  : Option Bool:=(fh 7 (⟨#[49,48,48,48,48,48,48,48]⟩:ByteArray) 10).bind fun x1=>(bk x1.1 (⟨100,2,900,3,ByteArray.empty,80,0⟩:Za)).bind fun x3=>(bk x3.1 (⟨100,1,5,1,(⟨#[65,65]⟩:ByteArray),100,0⟩:Za)).bind fun x4=>(bk x4.1 (⟨100,3,1300,3,ByteArray.empty,70,0⟩:Za)).bind fun x5=>(dA x5.1).bind fun x6=>some ((((((x1.2 == 0)&&(x3.2 == 0))&&(x4.2 == 0))&&(x5.2 == 0))&&x6.2)&&(Ze.eqb x6.1 (⟨(⟨#[49,48,48,48,48,48,48,48]⟩:ByteArray),(⟨#[65,65]⟩:ByteArray),false,0,5,10,80,0⟩:Ze)))
theorem kf  {r:Bool}  (h:eY  = some r):PF 12 [] (pB r):=by
 unfold eY at h
 refine bP ?_
 refine aP Tryd.func12 rfl Tryd.ntmps12 Tryd.results12 rfl (ae (bd [0] (by kernel_rfl) (bJ (aa h fun x1 hx1 h=>af (bg 4 [] [9,8] [(10,.agg (aL x1.1)),(11,pI x1.2)] (bI 0 (hB hx1) bZ) (by kernel_rfl) (ar rfl (aS (cs:=[pI 0,pS ByteArray.empty,pI 0,pN]) rfl rfl rfl rfl (fun b2=>aF rfl rfl (ag (vs:=(aL x1.1)) rfl rfl rfl rfl rfl cS nu (aM [(2,pI x1.2)] (by kernel_rfl) (bJ (aa h fun x3 hx3 h=>af (bg 6 [0] [13,14,15,12] [(16,.agg (aL x3.1)),(17,pI x3.2)] (bI 2 (cZ hx3) bZ) (by kernel_rfl) (aF rfl rfl (ag (vs:=(aL x3.1)) rfl rfl rfl rfl rfl cS nu (aM [(3,pI x3.2)] (by kernel_rfl) (bJ (aa h fun x4 hx4 h=>af (bg 6 [0] [19,20,21,18] [(22,.agg (aL x4.1)),(23,pI x4.2)] (bI 2 (cZ hx4) bZ) (by kernel_rfl) (aF rfl rfl (ag (vs:=(aL x4.1)) rfl rfl rfl rfl rfl cS nu (aM [(4,pI x4.2)] (by kernel_rfl) (bJ (aa h fun x5 hx5 h=>af (bg 6 [0] [25,26,27,24] [(28,.agg (aL x5.1)),(29,pI x5.2)] (bI 2 (cZ hx5) bZ) (by kernel_rfl) (aF rfl rfl (ag (vs:=(aL x5.1)) rfl rfl rfl rfl rfl cS nu (aM [(5,pI x5.2)] (by kernel_rfl) (bJ (aa h fun x6 hx6 h=>af (bg 5 [0] [31,32,30] [(33,.agg (du x6.1)),(34,pB x6.2)] (bI 1 (e7 hx6) bZ) (by kernel_rfl) (ar rfl (aS (cs:=[pS ByteArray.empty,pS ByteArray.empty,pB false,pI 0,pI 0,pI 0,pI 0,pI 0]) rfl rfl rfl rfl (fun b7=>aF rfl rfl (ag (vs:=(du x6.1)) rfl rfl rfl rfl rfl cS zl8 (aM [(7,pB x6.2)] (by kernel_rfl) ?_))))))))))))))))))))))))))))))))))))
 refine bJ (aG [0] (rg 35 22) [(0,pB ((((((x1.2 == 0)&&(x3.2 == 0))&&(x4.2 == 0))&&(x5.2 == 0))&&x6.2)&&(Ze.eqb x6.1 (⟨(⟨#[49,48,48,48,48,48,48,48]⟩:ByteArray),(⟨#[65,65]⟩:ByteArray),false,0,5,10,80,0⟩:Ze))))] (foeq 20 Ze.eqok34 bZ) (by kernel_rfl) (dO ?_))
 exact zz r h rfl
def d9 (p0:Int) (p1:(List Za)):Option (Zd×Bool):=(fh 7 (⟨#[49,48,48,48,48,48,48,48]⟩:ByteArray) p0).bind fun x2=>(bY (S:=Int×Int×Int×ByteArray×Int×(List Za)) (T:=(Int×Int×ByteArray×Int×(List Za))) (fun (v4,v5,v6,v7,v8,l9)=>cond ((decide (v5<(p1.length:Int)))&&(v4 == 0)) ((idx p1 v5).bind fun m18=>(bk (⟨v6,v7,v8,l9⟩:Zd) m18).bind fun x19=>some (.inl (x19.2,(IntKind.i64.wrap (v5+1)),x19.1.Source,x19.1.Code,x19.1.Units,x19.1.Facts))) (some (.inr (v4,v6,v7,v8,l9)))) FUEL (x2.2,0,x2.1.Source,x2.1.Code,x2.1.Units,x2.1.Facts)).bind fun (v10,v11,v12,v13,l14)=>some ((⟨v11,v12,v13,l14⟩:Zd),(v10 == 0))
theorem kw {p0:Int} {p1:(List Za)} {r:(Zd×Bool)}  (h:d9 p0 p1=some r):PF 9 [pI p0,pL Za.enc p1] (.tup [.agg (aL r.1),pB r.2]):=by
 unfold d9 at h
 refine bP ?_
 refine aP Tryd.func9 rfl Tryd.ntmps9 Tryd.results9 rfl (ae (af (ar rfl (aS (cs:=[pI 0,pS ByteArray.empty,pI 0,pN]) rfl rfl rfl rfl (fun b1=>cX [5] (by kernel_rfl) (bJ (aa h fun x2 hx2 h=>af (bg 5 [] [10,11,9] [(12,.agg (aL x2.1)),(13,pI x2.2)] (bI 1 (hB hx2) bZ) (by kernel_rfl) (ar rfl (aS (cs:=[pI 0,pS ByteArray.empty,pI 0,pN]) rfl rfl rfl rfl (fun b3=>aF rfl rfl (ag (vs:=(aL x2.1)) rfl rfl rfl rfl rfl cS nu (aM [(7,pI x2.2)] (by kernel_rfl) (bJ (ae (am [(8,pI 0)] (by kernel_rfl) (ai (aa h fun q16 hq16 h=>?_))))))))))))))))))
 refine bz (Y:=Unit×(Int×Int×ByteArray×Int×(List Za))) (fun (_,(v10,v11,v12,v13,l14))=>[(4,pP b1 0),(6,pP b3 0),(7,pI v10)]) (fun (_,(v10,v11,v12,v13,l14))=>[PRes.b b1 30 [pI 0,pS ByteArray.empty,pI 0,pN],PRes.b b3 30 [pI v11,pS v12,pI v13,pL Za.enc l14]]) (fun (_,(v10,v11,v12,v13,l14))=>q16=(v10,v11,v12,v13,l14)) ?_ ?_
 ·refine aH ?_
  refine cj (Y:=Unit) (S:=Int×Int×Int×ByteArray×Int×(List Za)) _ hq16 (fun _ (v4,v5,v6,v7,v8,l9)=>[(1,pL Za.enc p1),(4,pP b1 0),(6,pP b3 0),(7,pI v4),(8,pI v5)]) (fun _ (v4,v5,v6,v7,v8,l9)=>[PRes.b b1 30 [pI 0,pS ByteArray.empty,pI 0,pN],PRes.b b3 30 [pI v6,pS v7,pI v8,pL Za.enc l9]]) () (zh5 rfl) (eE (cU cz) em) ?_
  rintro _ ⟨v4,v5,v6,v7,v8,l9⟩ o τ hb15;(try dsimp only at hb15);dsimp only [bi]
  refine ae (ae (an (rg 14 7) [(21,pB ((decide (v5<(p1.length:Int)))&&(v4 == 0)))] (by kernel_rfl) (ai (dV rfl hb15 (fun hc17 hb15=>?_) fun hc17 hb15=>?_))))
  ·refine ak ?_
   refine bJ (aH (aa hb15 fun m18 hm18 hb15=>aa hb15 fun x19 hx19 hb15=>kJ (ρd:=[PRes.b b3 _ _]) _ (aW (cU cz) (List.Perm.refl _)) (ck 1 (by kernel_rfl) rfl rfl rfl rfl (fu (p:=pL Za.enc p1) rfl (.p rfl)) (ck 2 (by kernel_rfl) rfl rfl rfl rfl (fu (p:=pI v5) rfl (.p rfl)) (ck 3 (by kernel_rfl) rfl rfl rfl rfl (rj (enc:=Za.enc) rfl rfl rfl (fun _=>rfl) (.p rfl) (.p rfl) (fun _=>hm18)) (ck 4 (by kernel_rfl) rfl rfl rfl rfl (kI (p:=.agg (ah m18)) rfl (.p rfl) rfl) (bq 0 (by kernel_rfl) (bL rfl rfl rfl rfl (fG (aY (p:=.agg [pI v6,pS v7,pI v8,pL Za.enc l9]) rfl (.p rfl) fT rfl) (bq 5 (by kernel_rfl) (cF rfl rfl rfl rfl rfl rfl (cZ hx19) (ck 6 (by kernel_rfl) rfl rfl rfl rfl (fu (p:=.tup [.agg (aL x19.1),pI x19.2]) rfl (.p rfl)) (ck 7 (by kernel_rfl) rfl rfl rfl rfl (fw (p:=.agg (aL x19.1)) rfl (.p rfl) rfl) (ck 8 (by kernel_rfl) rfl rfl rfl rfl (fw (p:=pI x19.2) rfl (.p rfl) rfl) (bq 9 (by kernel_rfl) (dM rfl rfl rfl (ag (vs:=(aL x19.1)) rfl rfl rfl rfl rfl cS nu (ck 10 (by kernel_rfl) rfl rfl rfl rfl (bN (p:=pI x19.2) rfl (.p rfl)) (dL (by kernel_rfl) (aB (ai (an [22,23] [(8,pI (IntKind.i64.wrap (v5+1)))] (by kernel_rfl) ?_))))))))))))))))))))))
   exact dt hb15 () (zh5 rfl) (eE (cU cz) em)
  refine cg ?_
  refine bA (bp hb15 (fun ht=>bB rfl ?_))
  exact aX ((),(v4,v6,v7,v8,l9)) (oA rfl) zs2 ht.symm
 rintro ⟨_,⟨v10,v11,v12,v13,l14⟩⟩ τ hz;(try dsimp only at hz);subst q16;(try dsimp only at h);dsimp only [bi]
 refine ae (af (dN 3 [1] [34] [(33,.agg [pI v11,pS v12,pI v13,pL Za.enc l14]),(35,pB (v10 == 0))] (by kernel_rfl) (aF rfl rfl (ag (vs:=[pI v11,pS v12,pI v13,pL Za.enc l14]) rfl rfl rfl rfl rfl cS nu (aM [(5,pB (v10 == 0))] (by kernel_rfl) (dO ?_))))))
 obtain rfl:=osi h
 exact aN (dC (cW rfl fT rfl) (aU rfl)) eQ ⟨rfl,rfl⟩
def dg (p0:(List Int)) (p1:Int) (p2:Int):Option Bool:=(cA p1 50).bind fun x1=>(cA p2 30).bind fun x2=>(cr p0).bind fun x3=>(d9 (IntKind.i64.wrap (1+x1)) x3).bind fun x4=>(bk x4.1 (⟨900,1,x2,2,ByteArray.empty,0,0⟩:Za)).bind fun x6=>(dA x4.1).bind fun x8=>(dA x6.1).bind fun x10=>cond (((!x4.2)||(x6.2 != 0))||(x8.2 != x10.2)) (some false) (Option.bind (cond x8.2 (some true) (some x8.1.Proof)) (fun v13=>(gd (Ze.eqb (⟨x8.1.Code,x8.1.Origin,v13,x8.1.Company,x8.1.Day,x8.1.Quantity,x8.1.Value,x8.1.Granted⟩:Ze) x10.1) (eY)).bind fun x16=>some ((Ze.eqb (⟨x8.1.Code,x8.1.Origin,v13,x8.1.Company,x8.1.Day,x8.1.Quantity,x8.1.Value,x8.1.Granted⟩:Ze) x10.1)&&x16)))
theorem gm {p0:(List Int)} {p1:Int} {p2:Int} {r:Bool}  (h:dg p0 p1 p2=some r):PF 4 [pL eI p0,pI p1,pI p2] (pB r):=by
 unfold dg at h
 refine bP ?_
 refine aP Tryd.func4 rfl Tryd.ntmps4 Tryd.results4 rfl (ae (bd [6] (by kernel_rfl) (bJ (aa h fun x1 hx1 h=>aa h fun x2 hx2 h=>aG [] (rg 15 5) [(1,pI (IntKind.i64.wrap (1+x1))),(2,pI x2)] (bI 1 (eH hx1) (bI 4 (eH hx2) bZ)) (by kernel_rfl) (bJ (aa h fun x3 hx3 h=>aa h fun x4 hx4 h=>af (bg 7 [] [21,22,23,24,20] [(25,.agg (aL x4.1)),(26,pB x4.2)] (bI 2 (gZ hx3) (bI 3 (kw hx4) bZ)) (by kernel_rfl) (ar rfl (aS (cs:=[pI 0,pS ByteArray.empty,pI 0,pN]) rfl rfl rfl rfl (fun b5=>aF rfl rfl (ag (vs:=(aL x4.1)) rfl rfl rfl rfl rfl cS nu (aM [(8,pB x4.2)] (by kernel_rfl) (bJ (aa h fun x6 hx6 h=>af (bg 7 [0] [28,29,30,31,27] [(32,.agg (aL x6.1)),(33,pI x6.2)] (bI 3 (cZ hx6) bZ) (by kernel_rfl) (ar rfl (aS (cs:=[pI 0,pS ByteArray.empty,pI 0,pN]) rfl rfl rfl rfl (fun b7=>aF rfl rfl (ag (vs:=(aL x6.1)) rfl rfl rfl rfl rfl cS nu (aM [(10,pI x6.2)] (by kernel_rfl) (bJ (aa h fun x8 hx8 h=>af (bg 5 [1] [35,36,34] [(37,.agg (du x8.1)),(38,pB x8.2)] (bI 1 (e7 hx8) bZ) (by kernel_rfl) (ar rfl (aS (cs:=[pS ByteArray.empty,pS ByteArray.empty,pB false,pI 0,pI 0,pI 0,pI 0,pI 0]) rfl rfl rfl rfl (fun b9=>aF rfl rfl (ag (vs:=(du x8.1)) rfl rfl rfl rfl rfl cS zl8 (aM [(12,pB x8.2)] (by kernel_rfl) (bJ (aa h fun x10 hx10 h=>af (bg 5 [1] [40,41,39] [(42,.agg (du x10.1)),(43,pB x10.2)] (bI 1 (e7 hx10) bZ) (by kernel_rfl) (ar rfl (aS (cs:=[pS ByteArray.empty,pS ByteArray.empty,pB false,pI 0,pI 0,pI 0,pI 0,pI 0]) rfl rfl rfl rfl (fun b11=>aF rfl rfl (ag (vs:=(du x10.1)) rfl rfl rfl rfl rfl cS zl8 ?_)))))))))))))))))))))))))))))))))))
 refine aM [(14,pB x10.2)] (by kernel_rfl) (bJ (ae (an (rg 44 10) [(54,pB (((!x4.2)||(x6.2 != 0))||(x8.2 != x10.2)))] (by kernel_rfl) (ai (dV rfl h (fun hc12 h=>?_) fun hc12 h=>?_)))))
 ·refine ae ?_
  refine am [(6,pB false)] (by kernel_rfl) (dO (al ?_))
  exact zz r h rfl
 refine ak ?_
 refine bJ (ae (am [(55,pB x8.2)] (by kernel_rfl) (ai (aa h fun q14 hq14 h=>?_))))
 refine bz (Y:=Unit×Bool) (fun (_,v13)=>[(11,pP b9 0),(13,pP b11 0)]) (fun (_,v13)=>[PRes.b b11 34 (du x10.1),PRes.b b9 34 [pS x8.1.Code,pS x8.1.Origin,pB v13,pI x8.1.Company,pI x8.1.Day,pI x8.1.Quantity,pI x8.1.Value,pI x8.1.Granted]]) (fun (_,v13)=>q14=v13) ?_ ?_
 ·skip
  refine dV rfl hq14 (fun hc15 hq14=>?_) fun hc15 hq14=>?_
  ·refine af ?_
   refine aQ 1 [(56,pP b9 2)] (by kernel_rfl) (aF rfl rfl (ag (vs:=[pB true]) rfl rfl rfl rfl rfl (ei cS) (cQ (cQ gE)) (aw ?_)))
   obtain rfl:=osi hq14
   exact aX ((),true) (zh2 rfl) zs2 rfl
  refine ak ?_
  obtain rfl:=osi hq14
  exact aX ((),x8.1.Proof) (zh2 rfl) zs2 rfl
 rintro ⟨_,v13⟩ τ hz;(try dsimp only at hz);subst q14;(try dsimp only at h);dsimp only [bi]
 refine ae (aa h fun x16 hx16 h=>aG [1,0] (rg 57 6) [(6,pB ((Ze.eqb (⟨x8.1.Code,x8.1.Origin,v13,x8.1.Company,x8.1.Day,x8.1.Quantity,x8.1.Value,x8.1.Granted⟩:Ze) x10.1)&&x16))] (foeq 2 Ze.eqok34 (oE 4 (fun hc=>kf (iZ hx16 hc)) bZ)) (by kernel_rfl) (dO ?_))
 exact zz r h rfl
end SX
namespace SX
open Go
def kg (s:ByteArray):Bool:=match s.data.toList with | [a,b]=>decide (65≤(a.toNat:Int))&&decide ((a.toNat:Int)≤90)&&decide (65≤(b.toNat:Int))&&decide ((b.toNat:Int)≤90) | _=>false
theorem r8 {s:ByteArray} (h:((s.size:Int) == 2)=true):∃ a b,s.data.toList=[a,b]:=by
 have h2:s.data.toList.length=2:=by
  have:=eq_of_beq h
  rw [Array.length_toList];have e:s.size=s.data.size:=rfl;omega
 match hd:s.data.toList,h2 with
 | [a,b],_=>exact ⟨a,b,rfl⟩
theorem not_two {s:ByteArray} (h:((s.size:Int) == 2)=false):kg s=false:=by
 unfold kg
 split
 ·rename_i a b hd
  have:s.data.toList.length=2:=by rw [hd];rfl
  rw [Array.length_toList] at this
  have e:s.size=s.data.size:=rfl
  have:(s.size:Int)=2:=by omega
  rw [this] at h;cases h
 rfl
theorem nY (s:ByteArray):bx s=some (kg s):=by
 unfold bx
 cases hs:((s.size:Int) == 2) with
 | false=>rw [not_two hs];rfl
 | true =>
  obtain ⟨a,b,hd⟩:=r8 hs
  have e0:idx s.data.toList 0=some a:=by rw [hd];rfl
  have e1:idx s.data.toList 1=some b:=by rw [hd];rfl
  rw [e0,e1]
  have hc:kg s=(decide (65≤(a.toNat:Int))&&decide ((a.toNat:Int)≤90)&&decide (65≤(b.toNat:Int))&&decide ((b.toNat:Int)≤90)):=by unfold kg;rw [hd]
  rw [hc]
  simp only [gW,dW,Bool.true_and]
  cases h1:decide (65≤(a.toNat:Int)) <;> cases h2:decide ((a.toNat:Int)≤90) <;> cases h3:decide (65≤(b.toNat:Int)) <;> simp [gW,kO,h1,h2,h3]
def fi (x:Za) (v3 v4:Int) (v5:Bool):Bool:=cond ((v5 && !kg x.Country)||(!v5 && !decide (x.Country=(⟨#[]⟩:ByteArray)))) false (decide (0≤x.Amount)&&decide (x.Amount≤v3)&&decide (0≤x.Company)&&decide (x.Company≤v4))
def gw (x:Za):Bool:=cond (x.Kind == 1) (fi x 1000000000000 999 true) (cond (x.Kind == 2) (fi x 0 0 false) (cond (x.Kind == 3) (fi x 1000000000000 0 false) (cond (x.Kind == 4) (fi x 0 0 true) (cond (x.Kind == 5) (fi x 1000000000 0 false) false))))
def dT (x:Za):Bool:=cond (decide (x.From<0)||decide (999<x.From)||decide (x.Number<1)||decide (1000000000<x.Number)||decide (x.Day<0)||decide (36524<x.Day)) false (gw x)
theorem lT (x:Za):bT x=some (dT x):=by
 have hT:∀ (v3 v4:Int) (v5:Bool),(Option.bind (gd v5 (bx x.Country)) (fun x12=>cond ((v5&&(!x12))||((!v5)&&(!decide (x.Country=(⟨#[]⟩:ByteArray))))) (some false) (some ((((decide (0≤x.Amount))&&(decide (x.Amount≤v3)))&&(decide (0≤x.Company)))&&(decide (x.Company≤v4))))))=some (fi x v3 v4 v5):=fun v3 v4 v5=>by
  rw [nY]
  unfold fi
  cases v5
  ·rw [kO]
   simp only [dW,Bool.false_and,Bool.not_false,Bool.true_and,Bool.false_or]
   cases (!decide (x.Country=(⟨#[]⟩:ByteArray))) <;> rfl
  rw [gW]
  simp only [dW,Bool.true_and,Bool.not_true,Bool.false_and,Bool.or_false]
  cases (!kg x.Country) <;> rfl
 unfold bT dT gw
 cases (decide (x.From<0)||decide (999<x.From)||decide (x.Number<1)||decide (1000000000<x.Number)||decide (x.Day<0)||decide (36524<x.Day))
 ·simp only [eR]
  cases x.Kind == 1
  ·cases x.Kind == 2
   ·cases x.Kind == 3
    ·cases x.Kind == 4
     ·cases x.Kind == 5
      ·rfl
      simp only [eR,dU,dW];exact hT _ _ _
     simp only [eR,dU,dW];exact hT _ _ _
    simp only [eR,dU,dW];exact hT _ _ _
   simp only [eR,dU,dW];exact hT _ _ _
  simp only [dU,dW];exact hT _ _ _
 rfl
theorem lf {x:Za} (h:dT x=true):0≤x.Day∧x.Day≤36524:=by
 unfold dT at h
 cases hc:(decide (x.From<0)||decide (999<x.From)||decide (x.Number<1)||decide (1000000000<x.Number)||decide (x.Day<0)||decide (36524<x.Day)) with
 | true=>rw [hc] at h;cases h
 | false=>simp only [Bool.or_eq_false_iff,decide_eq_false_iff_not] at hc;omega
def r9 (l:List UInt8):Bool:=l.all fun c => !(decide ((c.toNat:Int)<48)||decide (57<(c.toNat:Int)))
def iS (s:Int) (c:ByteArray) (u:Int):Bool:=cond (decide (s<1)||decide (1000000<s)||decide (u<1)||decide (1000000000<u)||((c.size:Int) != 8)) false (r9 c.data.toList)
theorem oU (s:Int) (c:ByteArray) (u:Int):bU s c u=some (iS s c u):=by
 unfold bU iS
 cases hc:(decide (s<1)||decide (1000000<s)||decide (u<1)||decide (1000000000<u)||((c.size:Int) != 8)) with
 | true=>rfl
 | false =>
  simp only [eR]
  have hs:c.data.toList.length=8:=by
   simp only [Bool.or_eq_false_iff,bne_eq_false_iff_eq] at hc
   have:=hc.2;rw [Array.length_toList];have e:c.size=c.data.size:=rfl;omega
  have e:(c.size:Int)=(c.data.toList.length:Int):=by rw [Array.length_toList];rfl
  rw [e]
  refine (iw (l:=c.data.toList) (by omega) (fun _ b=>cond (!(decide ((b.toNat:Int)<48)||decide (57<(b.toNat:Int)))) none (some (.inr false))) (.inl ()) (fun k hk=>?_) (by rw [dnlt];rfl)).trans ?_
  ·simp only [dlt hk,dU,ee hk,dW,oI hk (show c.data.toList.length≤4611686018427387904 by omega)]
   cases decide (((c.data.toList[k]).toNat:Int)<48)
   ·simp only [Bool.not_false,gW,dW,Bool.false_or]
    cases decide (57<((c.data.toList[k]).toNat:Int)) <;> rfl
   simp only [Bool.not_true,kO,dW,Bool.true_or];rfl
  rw [iy]
  unfold r9
  cases c.data.toList.all fun b => !(decide ((b.toNat:Int)<48)||decide (57<(b.toNat:Int))) <;> rfl
def kx {α:Type} (p:α→α→Bool):List α→Bool
 | []=>true
 | [_]=>true
 | x::y::l=>p x y&&kx p (y::l)
theorem sb {α T:Type} {l:List α} (hl:l.length≤4611686018427387904) {body:Int→Option (Int⊕T)} (p:α→α→Bool) (t e:T)
    (hstep:∀ (k:Nat) (hk:k+1<l.length),body ((k:Int)+1)=some (cond (p l[k] l[k+1]) (.inl ((k:Int)+2)) (.inr t))) (hend:∀ k:Int,(l.length:Int)≤k→1≤k→k≤(l.length:Int)+1→body k=some (.inr e)):bY body FUEL 1=some (cond (kx p l) e t):=by
  have main:∀ (m k N:Nat),m+k+1=l.length→m<N→bY body N ((k:Int)+1)=some (cond (kx p (l.drop k)) e t):=by
    intro m
    induction m with
    | zero =>
      intro k N hk hN
      obtain ⟨N,rfl⟩:∃ M,N=M+1:=⟨N - 1,by omega⟩
      have hd:l.drop k=[l[k]'(by omega)]:=by rw [List.drop_eq_getElem_cons (by omega),List.drop_of_length_le (by omega)]
      rw [dy,hend _ (by omega) (by omega) (by omega),hd];rfl
    | succ m ih =>
      intro k N hk hN
      obtain ⟨N,rfl⟩:∃ M,N=M+1:=⟨N - 1,by omega⟩
      have hd:l.drop k=l[k]'(by omega)::l[k+1]'(by omega)::l.drop (k+2):=by rw [List.drop_eq_getElem_cons (by omega),List.drop_eq_getElem_cons (by omega)]
      have hd2:l.drop (k+1)=l[k+1]'(by omega)::l.drop (k+2):=by rw [List.drop_eq_getElem_cons (by omega)]
      rw [dy,hstep k (by omega),hd,kx,← hd2]
      cases p (l[k]'(by omega)) (l[k+1]'(by omega))
      · rfl
      simp only [dU,Bool.true_and]
      have:=ih (k+1) N (by omega) (by omega)
      rw [show ((k+1:Nat):Int)+1=(k:Int)+2 by omega] at this
      exact this
  cases l with
  | nil =>
    obtain ⟨N,hN⟩:∃ N,FUEL=N+1:=⟨FUEL - 1,by unfold FUEL;omega⟩
    rw [hN,dy,hend 1 (by simp) (by omega) (by simp)];rfl
  | cons x xs=>exact main xs.length 0 FUEL (by simp) (jT (by simp at hl;omega))
def ascN (l:List Za):Bool:=kx be l
theorem ez (x y:Za):be x y=true↔x.From<y.From∨(x.From=y.From∧x.Number<y.Number):=by simp [be]
theorem lg (x y:Za):be x y=false↔¬ (x.From<y.From∨(x.From=y.From∧x.Number<y.Number)):=by rw [← ez];simp
theorem f0 (x y z:Za):be x y=true→be y z=true→be x z=true:=by simp only [ez];omega
theorem nZ {α:Type} {p:α→α→Bool} (tr:∀ x y z,p x y=true→p y z=true→p x z=true):∀ {l:List α},kx p l=true↔l.Pairwise (fun x y=>p x y=true)
 | []=>by simp [kx]
 | [x]=>by simp [kx]
 | x::y::l=>by
  rw [kx,Bool.and_eq_true,nZ tr,List.pairwise_cons (a:=x)]
  constructor
  ·rintro ⟨h1,h2⟩
   refine ⟨fun z hz=>?_,h2⟩
   rcases List.mem_cons.1 hz with rfl | hz
   ·exact h1
   exact tr _ _ _ h1 ((List.pairwise_cons.1 h2).1 z hz)
  rintro ⟨h1,h2⟩;exact ⟨h1 y (by simp),h2⟩
def oV (f:Zd):Int:=cond (!iS f.Source f.Code f.Units) 2 (cond (decide (200<(f.Facts.length:Int))) 8 (cond (f.Facts.all dT) (cond (ascN f.Facts) 0 9) 2))
theorem f5 (f:Zd):cu f=some (oV f):=by
 unfold cu oV
 rw [oU,dW]
 cases iS f.Source f.Code f.Units with
 | false=>rfl
 | true =>
  simp only [Bool.not_true,eR]
  cases hl:decide (200<(f.Facts.length:Int)) with
  | true=>rfl
  | false =>
   have hl:=of_decide_eq_false hl
   simp only [eR]
   refine (iw (l:=f.Facts) (by omega) (fun _ x=>cond (dT x) none (some (.inr (2:Int)))) (.inl ()) (fun k hk=>?_) (by rw [dnlt];rfl)).trans ?_
   ·simp only [dlt hk,dU,ee hk,dW,oI hk (show f.Facts.length≤4611686018427387904 by omega),lT]
    cases dT f.Facts[k] <;> rfl
   rw [iy]
   cases hv:f.Facts.all dT with
   | false=>rfl
   | true =>
    simp only [dU,Option.getD_none]
    rw [sb (l:=f.Facts) (by omega) be (.inr (9:Int)) (.inl ()) (fun k hk=>?_) (fun k h1 h2 h3=>?_)]
    ·unfold ascN;cases kx be f.Facts <;> rfl
    ·rw [det (by omega:(k:Int)+1<(f.Facts.length:Int)),dU,cn (r:=(k:Int)+1 - 1) (by omega) (by omega),show (k:Int)+1 - 1=(k:Int) by omega,show (k:Int)+1=((k+1:Nat):Int) by omega,ee (show k<f.Facts.length by omega),ee hk]
     simp only [dW,ig]
     rw [cn (by omega) (by omega)]
     have e:decide (0≤dR f.Facts[k] f.Facts[k+1]) = !be f.Facts[k] f.Facts[k+1]:=by rw [← iE,← decide_not];exact decide_eq_decide.2 (by omega)
     rw [e]
     cases be f.Facts[k] f.Facts[k+1]
     ·rfl
     show some (Sum.inl _)=some (Sum.inl _);congr 2 <;> omega
    rw [dG (by omega)];rfl
structure FileOk (f:Zd):Prop where
 head:iS f.Source f.Code f.Units=true
 len:f.Facts.length≤200
 val:∀ x∈f.Facts,dT x=true
 asc:f.Facts.Pairwise (fun x y=>be x y=true)
theorem kh (f:Zd):oV f=0↔FileOk f:=by
 unfold oV
 cases h1:iS f.Source f.Code f.Units with
 | false=>exact ⟨fun h=>by simp at h,fun h=>by rw [h.head] at h1;cases h1⟩
 | true =>
  cases h2:decide (200<(f.Facts.length:Int)) with
  | true=>exact ⟨fun h=>by simp at h,fun h=>by have:=h.len;have:=of_decide_eq_true h2;omega⟩
  | false =>
   have h2:=of_decide_eq_false h2
   cases h3:f.Facts.all dT with
   | false=>exact ⟨fun h=>by simp at h,fun h=>by rw [List.all_eq_true.2 h.val] at h3;cases h3⟩
   | true =>
    cases h4:ascN f.Facts with
    | false=>exact ⟨fun h=>by simp at h,fun h=>by unfold ascN at h4;rw [(nZ f0).2 h.asc] at h4;cases h4⟩
    | true=>exact ⟨fun _=>⟨h1,by omega,List.all_eq_true.1 h3,(nZ f0).1 h4⟩,fun _=>rfl⟩
theorem half_u (x:Nat) (h:x≤10000000):IntKind.i64.wrap (iX .u64 (IntKind.u64.wrap (IntKind.i64.wrap (x:Int))) 1)=((x / 2:Nat):Int):=by
 rw [cn (r:=(x:Int)) (by omega) (by omega),u64s (by omega) (by omega)]
 have:iX .u64 (x:Int) 1=(x:Int) / 2:=Int.fdiv_eq_ediv_of_nonneg _ (by decide)
 rw [this,cn (by omega) (by omega)];omega
theorem ea (x y:Za):dR x y=0↔x.From=y.From∧x.Number=y.Number:=by
 unfold dR
 by_cases h:x.From=y.From
 ·rw [if_pos ((dE _ _).2 h),dE];exact ⟨fun e=>⟨h,e⟩,fun e=>e.2⟩
 rw [if_neg (fun e=>h ((dE _ _).1 e)),dE];exact ⟨fun e=>absurd e h,fun e=>absurd e.1 h⟩
structure Low (l:List Za) (x:Za) (j:Nat):Prop where
 le:j≤l.length
 lo:∀ (k:Nat) (y:Za),l[k]?=some y→k<j→be y x=true
 hi:∀ (k:Nat) (y:Za),l[k]?=some y→j≤k→be y x=false
theorem oW:∀ {l:List Za} {x:Za} {j:Nat},Low l x j→l.take j++[x]++l.drop j=fI be x l
 | [],x,j,h=>by
  have:=h.le;simp only [List.length_nil] at this;have:j=0:=by omega
  subst this;rfl
 | y::l,x,0,h=>by
  have:=h.hi 0 y rfl (Nat.le_refl _)
  unfold fI;rw [this];rfl
 | y::l,x,j+1,h=>by
  have h1:=h.lo 0 y rfl (by omega)
  have ih:=oW (l:=l) (x:=x) (j:=j) ⟨by have:=h.le;simp at this;omega,fun k z hz hk=>h.lo (k+1) z (by simpa using hz) (by omega),fun k z hz hk=>h.hi (k+1) z (by simpa using hz) (by omega)⟩
  unfold fI;rw [h1,dU,← ih];rfl
theorem lh {l:List Za} (x:Za) (hl:l.length≤200) (hs:l.Pairwise fun a b=>be a b=true):∃ j:Nat,Low l x j∧aj l x (fun y8 y9=>br y8 y9)=some ((j:Int),match l[j]? with | some y=>dR y x == 0 | none=>false):=by
 unfold aj
 have hloop:Y (bY (S:=Int×Int) (T:=(Int)) (fun (v2,v3)=>cond (decide (v2<v3)) (lb ((IntKind.i64.wrap (iX .u64 (IntKind.u64.wrap (IntKind.i64.wrap (v2+v3))) 1))) (fun w8=>Option.bind (idx l w8) (fun m9=>Option.bind (br m9 x) (fun x10=>cond (decide (x10<0)) (some (.inl ((IntKind.i64.wrap (w8+1)),v3))) (some (.inl (v2,w8))))))) (some (.inr v2))) FUEL (0,(l.length:Int))) (fun t=>∃ j:Nat,t=(j:Int)∧Low l x j):=by
  refine Y.loop (fun s:Int×Int=>∃ i j:Nat,s.1=(i:Int)∧s.2=(j:Int)∧i≤j∧j≤l.length∧(∀ (k:Nat) (p:Za),l[k]?=some p→k<i→be p x=true)∧(∀ (k:Nat) (p:Za),l[k]?=some p→j≤k→be p x=false)) (fun s=>(s.2 - s.1).toNat) ⟨0,l.length,rfl,rfl,by omega,by omega,fun k p _ hk=>absurd hk (Nat.not_lt_zero _),fun k p hp hk=>by have:=(List.getElem?_eq_some_iff.1 hp).1;omega⟩ (by dsimp only;omega) fun s hs'=>?_
  obtain ⟨a,b⟩:=s
  obtain ⟨i,j,rfl,rfl,h1,h2,h3,h4⟩:=hs'
  dsimp only
  refine Y.cond (fun hc=>?_) (fun hc=>Y.ret ⟨i,rfl,by omega,h3,fun k p hp hk=>h4 k p hp (by have:=of_decide_eq_false hc;omega)⟩)
  have hc:i<j:=by have:=of_decide_eq_true hc;omega
  unfold lb
  rw [show (i:Int)+(j:Int)=((i+j:Nat):Int) by omega,half_u _ (by omega)]
  have hm:(i+j) / 2<l.length:=by omega
  have pw:=List.pairwise_iff_getElem.1 hs
  refine Y.idx rfl hm (Y.eq (ig _ _) ?_)
  rw [iE]
  cases hlt:be l[(i+j) / 2] x with
  | true =>
   refine Y.ret ⟨⟨(i+j) / 2+1,j,?_,rfl,by omega,h2,fun k p hp hk=>?_,h4⟩,?_⟩
   ·show IntKind.i64.wrap _=_;rw [cn (by omega) (by omega)];omega
   ·obtain ⟨hk2,rfl⟩:=List.getElem?_eq_some_iff.1 hp
    rcases Nat.lt_or_ge k ((i+j) / 2) with h5 | h5
    ·exact f0 _ _ _ (pw k ((i+j) / 2) hk2 hm h5) hlt
    have e:k=(i+j) / 2:=by omega
    subst e;exact hlt
   ·show ((j:Int) - IntKind.i64.wrap _).toNat<_;rw [cn (by omega) (by omega)];omega
  | false =>
   refine Y.ret ⟨⟨i,(i+j) / 2,rfl,rfl,by omega,by omega,h3,fun k p hp hk=>?_⟩,by dsimp only;omega⟩
   obtain ⟨hk2,rfl⟩:=List.getElem?_eq_some_iff.1 hp
   rcases Nat.lt_or_ge ((i+j) / 2) k with h5 | h5
   ·have h6:=pw ((i+j) / 2) k hm hk2 h5
    cases h7:be l[k] x with
    | false=>rfl
    | true=>rw [f0 _ _ _ h6 h7] at hlt;cases hlt
   have e:k=(i+j) / 2:=by omega
   subst e;exact hlt
 obtain ⟨t,e,j,rfl,hj⟩:=hloop
 refine ⟨j,hj,?_⟩
 rw [kN e]
 rcases Nat.lt_or_ge j l.length with hjl | hjl
 ·rw [det (by omega:(j:Int)<(l.length:Int)),gW,ee hjl,dW,gW];dsimp only;rw [ig,dW,List.getElem?_eq_getElem hjl];rfl
 rw [dG (by omega:¬ (j:Int)<(l.length:Int)),kO]
 simp only [dW,kO]
 rw [List.getElem?_eq_none hjl];rfl
theorem ji {x z:Za} {l:List Za}:z∈fI be x l↔z=x∨z∈l:=by rw [fW.mem_iff,List.mem_cons]
theorem oX {x:Za} {l:List Za}:(fI be x l).length=l.length+1:=by rw [fW.length_eq,List.length_cons]
theorem oY {x:Za}:∀ {l:List Za},(∀ y∈l,dR y x≠0)→l.Pairwise (fun a b=>be a b=true)→(fI be x l).Pairwise (fun a b=>be a b=true)
 | [],_,_=>by simp [fI]
 | y::l,hx,h=>by
  obtain ⟨h1,h2⟩:=List.pairwise_cons.1 h
  unfold fI
  cases hy:be y x with
  | true =>
   simp only [dU]
   refine List.pairwise_cons.2 ⟨fun z hz=>?_,oY (fun y hy=>hx y (by simp [hy])) h2⟩
   rcases ji.1 hz with rfl | hz
   ·exact hy
   ·exact h1 z hz
  | false =>
   simp only [eR]
   have hxy:be x y=true:=by
    have:=hx y (by simp)
    rw [Ne,ea] at this
    rw [lg] at hy;rw [ez];omega
   refine List.pairwise_cons.2 ⟨fun z hz=>?_,h⟩
   rcases List.mem_cons.1 hz with rfl | hz
   ·exact hxy
   exact f0 _ _ _ hxy (h1 z hz)
theorem nl {l:List Za} (h:l.length≤1000):aI l=some l:=by
 unfold aI
 rw [nV (by simp;omega) (by simp;omega)];rfl
theorem p8 {l:List Za} {x:Za} {j:Nat} (h:j≤l.length) (hl:l.length≤200):au l (j:Int) [x]=some (l.take j++[x]++l.drop j):=by
 unfold au
 dsimp only
 rw [if_pos ⟨by omega,by simpa using h,hl⟩];simp
theorem pick_of {l:List Za} {x:Za} {j:Nat} (hj:Low l x j) (hs:l.Pairwise fun a b=>be a b=true) {y:Za} (hy:y∈l) (hk:dR y x=0):l[j]?=some y:=by
 obtain ⟨k,hkl,rfl⟩:=List.getElem_of_mem hy
 have hz:=(ea _ _).1 hk
 have h1:¬ k<j:=fun h=>by have:=hj.lo k _ (List.getElem?_eq_getElem hkl) h;rw [ez] at this;omega
 have h2:¬ j<k:=fun h=>by
  have h3:=List.pairwise_iff_getElem.1 hs j k (by omega) hkl h
  have h4:=hj.hi j _ (List.getElem?_eq_getElem (by omega)) (Nat.le_refl _)
  rw [ez] at h3;rw [lg] at h4;omega
 have:k=j:=by omega
 subst this;exact List.getElem?_eq_getElem hkl
theorem sd {f:Zd} {x:Za} (hf:FileOk f) (hx:x∈f.Facts):bk f x=some (f,0):=by
 obtain ⟨j,hj,e⟩:=lh x hf.len hf.asc
 have hp:=pick_of hj hf.asc hx ((ea _ _).2 ⟨rfl,rfl⟩)
 obtain ⟨hjl,hje⟩:=List.getElem?_eq_some_iff.1 hp
 unfold bk
 rw [f5,(kh f).2 hf,dW,show ((0:Int) != 0)=false from rfl,eR,lT,hf.val x hx,dW,Bool.not_true,eR,kN e,hp]
 have h0:(dR x x == 0)=true:=by rw [(ea _ _).2 ⟨rfl,rfl⟩];rfl
 simp only [h0,gW,ee hjl,dW,hje]
 have h1:Za.eqb x x=true:=Za.eqb_iff.2 rfl
 rw [h1]
 simp only [Bool.not_true,Bool.and_false,Bool.false_and,eR,nl (show f.Facts.length≤1000 by have:=hf.len;omega),dW]
theorem li {f:Zd} {x:Za} (hf:FileOk f) (hv:dT x=true) (hl:f.Facts.length<200) (hx:∀ y∈f.Facts,dR y x≠0):bk f x=some (⟨f.Source,f.Code,f.Units,fI be x f.Facts⟩,0):=by
 obtain ⟨j,hj,e⟩:=lh x hf.len hf.asc
 have hn:(match f.Facts[j]? with | some y=>dR y x == 0 | none=>false)=false:=by
  split
  ·rename_i y hy;have:=hx y (List.mem_of_getElem? hy);simpa using this
  rfl
 unfold bk
 rw [f5,(kh f).2 hf,dW,show ((0:Int) != 0)=false from rfl,eR,lT,hv,dW,Bool.not_true,eR,kN e,hn]
 simp only [kO,dW,Bool.false_and,eR,Bool.not_false,Bool.true_and]
 rw [dG (by omega:¬ (200:Int)≤(f.Facts.length:Int)),eR,nl (by omega),dW,dU,p8 hj.le (by omega),oW hj]
 rfl
theorem nm {f:Zd} {x:Za} (hf:FileOk f) (hv:dT x=true) (hl:f.Facts.length<200) (hx:∀ y∈f.Facts,dR y x≠0):FileOk ⟨f.Source,f.Code,f.Units,fI be x f.Facts⟩ :=
 ⟨hf.head,by dsimp only;rw [oX];omega,fun z hz=>by rcases ji.1 hz with rfl | hz;exact hv;exact hf.val z hz,oY hx hf.asc⟩
def lU (l:List Za) (x:Za):List Za:=cond (decide (x∈l)) l (fI be x l)
theorem se {l:List Za} {x z:Za}:z∈lU l x↔z=x∨z∈l:=by
 unfold lU
 cases h:decide (x∈l) with
 | true =>
  have h:=of_decide_eq_true h
  simp only [dU];exact ⟨.inr,fun h'=>h'.elim (fun e=>e ▸ h) id⟩
 | false=>simp only [eR];exact ji
theorem sf {l:List Za} {x:Za}:(lU l x).length≤l.length+1:=by
 unfold lU
 cases decide (x∈l)
 ·simp only [eR,oX];exact Nat.le_refl _
 simp only [dU];omega
theorem p9 {f:Zd} {x:Za} (hf:FileOk f) (hv:dT x=true) (hl:f.Facts.length<200) (hx:∀ y∈f.Facts,dR y x=0→y=x):bk f x=some (⟨f.Source,f.Code,f.Units,lU f.Facts x⟩,0)∧FileOk ⟨f.Source,f.Code,f.Units,lU f.Facts x⟩:=by
 unfold lU
 cases h:decide (x∈f.Facts) with
 | true=>exact ⟨sd hf (of_decide_eq_true h),hf⟩
 | false =>
  have h:=of_decide_eq_false h
  have hn:∀ y∈f.Facts,dR y x≠0:=fun y hy e=>h (hx y hy e ▸ hy)
  exact ⟨li hf hv hl hn,nm hf hv hl hn⟩
structure Agr (L:List Za):Prop where
 len:L.length≤100
 val:∀ x∈L,dT x=true
 key:∀ x∈L,∀ y∈L,dR x y=0→x=y
def oZ (L:List Za):List Za:=L.foldl lU []
def iT:ByteArray:=⟨#[49,48,48,48,48,48,48,48]⟩
theorem head1 {u:Int} (h1:1≤u) (h2:u≤1000):iS 7 iT u=true:=by
 unfold iS
 rw [dG (by omega:¬ u<1),dG (by omega:¬ (1000000000:Int)<u)]
 rfl
theorem file_eq {L:List Za} {u:Int} (hL:Agr L) (h1:1≤u) (h2:u≤1000):d9 u L=some (⟨7,iT,u,oZ L⟩,true)∧FileOk ⟨7,iT,u,oZ L⟩∧(oZ L).length≤L.length∧∀ z,z∈oZ L↔z∈L:=by
 have h0:FileOk ⟨7,iT,u,[]⟩:=⟨head1 h1 h2,by simp,(fun x hx=>nomatch hx),List.Pairwise.nil⟩
 have hlen:=hL.len
 unfold d9 fh
 rw [show (⟨#[49,48,48,48,48,48,48,48]⟩:ByteArray)=iT from rfl,oU,head1 h1 h2]
 simp only [dW,Bool.not_true,eR]
 have key:=pV (β:=Zd×Bool) (l:=L) (by omega) (body:=fun (v4,v5,v6,v7,v8,l9)=>cond ((decide (v5<(L.length:Int)))&&(v4 == 0)) (Option.bind (idx L v5) (fun m18=>Option.bind (bk (⟨v6,v7,v8,l9⟩:Zd) m18) (fun x19=>some (.inl (x19.2,(IntKind.i64.wrap (v5+1)),x19.1.Source,x19.1.Code,x19.1.Units,x19.1.Facts))))) (some (.inr (v4,v6,v7,v8,l9))))
  (k:=fun (v10,v11,v12,v13,l14)=>some ((⟨v11,v12,v13,l14⟩:Zd),(v10 == 0))) (fun i (a:List Za)=>((0:Int),i,(7:Int),iT,u,a)) lU (fun a=>((0:Int),(7:Int),iT,u,a)) (fun k a=>FileOk ⟨7,iT,u,a⟩∧a.length≤k∧(∀ z,z∈a↔z∈L.take k)) [] ⟨h0,by simp,fun z=>by simp⟩ (fun k hk a ⟨p1,p2,p3⟩=>by
   have hx:L[k]∈L:=List.getElem_mem hk
   obtain ⟨e1,e2⟩:=p9 (x:=L[k]) p1 (hL.val _ hx) (by dsimp only;omega) (fun y hy=>hL.key y (List.mem_of_mem_take ((p3 y).1 hy)) _ hx)
   dsimp only at e1 e2 ⊢
   rw [dlt hk,show (((0:Int) == 0)=true) from rfl,Bool.and_self,dU,ee hk,dW,e1,dW,oI hk (by omega)]
   refine ⟨rfl,e2,by have:=sf (l:=a) (x:=L[k]);omega,fun z=>?_⟩
   rw [se,p3,List.take_add_one,List.getElem?_eq_getElem hk,List.mem_append,Option.toList_some,List.mem_singleton]
   exact or_comm) (fun a _=>by dsimp only;rw [dnlt];rfl)
 obtain ⟨e,p1,p2,p3⟩:=key
 refine ⟨e,p1,p2,fun z=>?_⟩
 have:=p3 z
 rw [List.take_length] at this
 exact this
theorem fj {X S T:Type} (f:S→X→S):∀ (xs:List X) (s:S),eN (T:=T) (fun s x=>some (.inl (f s x))) s xs=some (.inl (xs.foldl f s))
 | [],_=>rfl
 | x::xs,s=>by rw [eN];exact fj f xs (f s x)
theorem np {T:Type}:∀ (xs l:List Za),(l.length+xs.length)≤100000→eN (T:=T) (fun l3 x8=>Option.bind (app 64 l3 [x8]) (fun l13=>some (.inl l13))) l xs=some (.inl (l++xs))
 | [],l,_=>by rw [eN,List.append_nil]
 | x::xs,l,h=>by
  simp only [List.length_cons] at h
  rw [eN,nV (by simp;omega) (by simp;omega),dW]
  dsimp only
  rw [np xs (l++[x]) (by simp;omega)];simp
theorem sg:∀ {l:List Za},l.Pairwise (fun a b=>be a b=true)→dif l=true
 | [],_=>rfl
 | x::l,h=>by
  obtain ⟨h1,h2⟩:=List.pairwise_cons.1 h
  rw [dif,Bool.and_eq_true,List.all_eq_true]
  refine ⟨fun y hy=>?_,sg h2⟩
  have:=h1 y hy
  rw [ez] at this
  rw [Bool.or_eq_true,gg,gg];omega
theorem qa {l:List Za} (h:l.Pairwise (fun a b=>be a b=true)) (hl:l.length≤1000):aR l=some (bC bw l):=by
 unfold aR bm aJ av
 rw [np (T:=Empty) l [] (by simp;omega)]
 simp only [dW,List.nil_append,sg h,dU]
theorem iI {l:List Za} (k d:Int) (hl:l.length≤1000):bM l k d=some (gF l k d):=by
 unfold bM
 rw [show iH l=true from Nat.ble_eq_true_of_le (by omega)];rfl
theorem qb {l:List Za} (hl:l.length≤1000):aC l=some l:=by
 unfold aC
 rw [show iH l=true from Nat.ble_eq_true_of_le (by omega)];rfl
def gx (day:Int):Int:=match bh day 36 with | some r=>cond (r.2 != 0) 36524 r.1 | none=>0
theorem o1 {day:Int} (h0:0≤day) (h1:day≤36524):(∃ r,bh day 36=some r∧gx day=cond (r.2 != 0) 36524 r.1)∧30≤gx day:=by
 obtain ⟨_,_,n,m,d,_,hd⟩:=of_Y h0 h1
 have e:=add_eq h0 h1 hd
 have g:=addS_ge (n:=n) hd.m11 hd.d0
 have e2:gx day=cond ((mX n m d).2 != 0) 36524 (mX n m d).1:=by unfold gx;rw [e]
 refine ⟨⟨_,e,e2⟩,?_⟩
 rw [e2]
 cases hc:((mX n m d).2 != 0) with
 | true=>simp
 | false=>simp only [eR];exact g (by simpa using hc)
def zItem:Ze:=⟨ByteArray.empty,ByteArray.empty,false,0,0,0,0,0⟩
def jj (f:Zd) (S:List Za) (d:Za):Ze :=
 ⟨f.Code,(gF S 4 (gx d.Day)).foldl (fun _ x=>x.Country) d.Country,(gF S 2 (gx d.Day)).foldl (fun _ _=>true) false,d.Company,d.Day,f.Units,(gF S 3 (gx d.Day)).foldl (fun _ x=>x.Amount) d.Amount,(gF f.Facts 5 36524).foldl (fun _ x=>dY f.Units x.Amount) 0⟩
theorem qc {f:Zd} {S:List Za} {d:Za} (h0:0≤d.Day) (h1:d.Day≤36524) (hS:S.length≤1000) (hF:f.Facts.length≤1000):dS f S d=some (jj f S d):=by
 obtain ⟨⟨r,e,e2⟩,_⟩:=o1 h0 h1
 unfold dS jj
 have e3:(cond (r.2 != 0) (some 36524) (some r.1):Option Int)=some (gx d.Day):=by rw [e2];cases (r.2 != 0) <;> rfl
 rw [kN e]
 simp only [e3,dW,iI _ _ hS,iI _ _ hF]
 rw [fj (fun _ _=>true)]
 simp only [dW]
 rw [fj (fun (_:Int) (x:Za)=>x.Amount)]
 simp only [dW]
 rw [fj (fun (_:ByteArray) (x:Za)=>x.Country)]
 simp only [dW]
 rw [fj (fun (_:Int) (x:Za)=>dY f.Units x.Amount)]
 rfl
def dh (f:Zd):Ze×Bool:=match gF (bC bw f.Facts) 1 36524 with
 | []=>(zItem,false)
 | d::_=>(jj f (bC bw f.Facts) d,true)
theorem iJ {l:List Za} {z:Za}:z∈bC bw l↔z∈l:=fz.mem_iff
theorem o2 {f:Zd} (hf:FileOk f):dA f=some (dh f):=by
 have hl:f.Facts.length≤1000:=by have:=hf.len;omega
 have hS:(bC bw f.Facts).length≤1000:=by rw [kQ];exact hl
 unfold dA dh
 rw [f5,(kh f).2 hf,dW,show ((0:Int) != 0)=false from rfl,eR,qb hl,dW,qa hf.asc hl,dW,iI _ _ hS,dW]
 cases hk:gF (bC bw f.Facts) 1 36524 with
 | nil=>rfl
 | cons d l =>
  have hd:d∈f.Facts:=by
   have:d∈gF (bC bw f.Facts) 1 36524:=by rw [hk];simp
   exact iJ.1 (List.mem_filter.1 this).1
  have hv:=lf (hf.val d hd)
  rw [eN,qc hv.1 hv.2 hS hl];rfl
theorem eP {α:Type} {lt:α→α→Bool} {p:α→Bool} {x:α} (hx:p x=false):∀ l:List α,(fI lt x l).filter p=l.filter p
 | []=>by simp [fI,hx]
 | y::l=>by
  unfold fI
  cases lt y x
  ·simp only [eR];rw [List.filter_cons_of_neg (by simp [hx])]
  simp only [dU,List.filter_cons,eP hx l]
theorem si {α:Type} {lt:α→α→Bool} {x:α}:∀ {l:List α},(∀ y∈l,lt y x=false)→fI lt x l=x::l
 | [],_=>rfl
 | y::l,h=>by unfold fI;rw [h y (by simp)];rfl
theorem f7 {α:Type} {lt:α→α→Bool} {p:α→Bool} (hn:∀ x y z,lt x y=false→lt y z=false→lt x z=false) {x:α} (hx:p x=true):∀ {l:List α},l.Pairwise (fun a b=>lt b a=false)→(fI lt x l).filter p=fI lt x (l.filter p)
 | [],_=>by simp [fI,hx]
 | y::l,h=>by
  obtain ⟨h1,h2⟩:=List.pairwise_cons.1 h
  rw [fI]
  cases hy:lt y x with
  | true =>
   simp only [dU,List.filter_cons,f7 hn hx h2]
   cases hp:p y
   ·rfl
   ·simp only [if_true];rw [fI,hy];rfl
  | false =>
   simp only [eR]
   rw [List.filter_cons_of_pos hx,si]
   intro z hz
   rcases List.mem_cons.1 (List.mem_filter.1 hz).1 with rfl | hz2
   ·exact hy
   exact hn z y x (h1 z hz2) hy
theorem fC {α:Type} {lt:α→α→Bool} {p:α→Bool} (htr:∀ x y z,lt x y=true→lt y z=true→lt x z=true) (hnt:∀ x y z,lt x y=false→lt y z=false→lt x z=false) (hir:∀ x,lt x x=false):∀ l:List α,(bC lt l).filter p=bC lt (l.filter p)
 | []=>rfl
 | x::l=>by
  rw [bC]
  cases hx:p x with
  | false=>rw [eP hx,List.filter_cons_of_neg (by simp [hx]),fC htr hnt hir l]
  | true=>rw [f7 hnt hx (fA htr hnt hir l),List.filter_cons_of_pos hx,bC,fC htr hnt hir l]
theorem nq (l:List Za) (k d:Int):gF (bC bw l) k d=bC bw (gF l k d):=fC nc kZ kY l
theorem o3 {l:List Za} {x:Za} {k d:Int} (h:(x.Kind == k)=false):gF (fI be x l) k d=gF l k d:=eP (by rw [h];rfl) l
theorem fD {l:List Za} {x:Za} {k d:Int} (h:(x.Kind == k)=false):gF (bC bw (fI be x l)) k d=gF (bC bw l) k d:=by rw [nq,nq,o3 h]
theorem lj {X:Type}:∀ {l:List X} {b:Bool},l≠[]→l.foldl (fun _ _=>true) b=true
 | [],_,h=>absurd rfl h
 | [_],_,_=>rfl
 | _::y::l,_,_=>by rw [List.foldl_cons];exact lj (l:=y::l) (by simp)
theorem small_Y {p:Zc} (hp:SOK p) (few n:Int) (h1:1≤few) (h2:few≤n) (h3:n≤4611686018427387904):Y (eJ p few n) (fun r=>0≤r.1∧r.1<n∧SOK r.2):=by
 unfold eJ
 refine (d7 hp 5 (by omega) (by omega)).bind fun a ⟨_,_,k3⟩=>?_
 refine Y.cond (fun _=>?_) (fun _=>?_)
 ·exact (d7 k3 n (by omega) h3).bind fun b ⟨j1,j2,j3⟩=>Y.ret ⟨j1,j2,j3⟩
 exact (d7 k3 few h1 (by omega)).bind fun b ⟨j1,j2,j3⟩=>Y.ret ⟨j1,by dsimp only;omega,j3⟩
structure MF (i:Nat) (x:Za):Prop where
 val:dT x=true
 frm:0≤x.From∧x.From≤200
 num:x.Number=((i:Int)*5+2) % 17+1
def cts:List ByteArray:=[⟨#[65,65]⟩,⟨#[66,66]⟩,⟨#[67,67]⟩,⟨#[68,68]⟩,⟨#[69,69]⟩,⟨#[70,70]⟩]
theorem sj:∀ s∈cts,kg s=true:=List.all_eq_true.1 (by kernel_rfl:cts.all kg=true)
theorem fact_mk {F N D K A C:Int} {s:ByteArray} (h1:0≤F∧F≤200) (h2:1≤N∧N≤17) (h3:0≤D∧D≤36524) (hk:gw ⟨F,N,D,K,s,A,C⟩=true):dT ⟨F,N,D,K,s,A,C⟩=true:=by
 unfold dT
 dsimp only
 rw [dG (by omega:¬ F<0),dG (by omega:¬ (999:Int)<F),dG (by omega:¬ N<1),dG (by omega:¬ (1000000000:Int)<N),dG (by omega:¬ D<0),dG (by omega:¬ (36524:Int)<D)]
 exact hk
theorem gh:decide (ByteArray.empty=(⟨#[]⟩:ByteArray))=true:=by decide
theorem facts_Y (l:List Int):Y (cr l) (fun xs=>xs.length≤14∧∀ (i:Nat) (x:Za),xs[i]?=some x→MF i x):=by
 unfold cr
 refine (cut_Y l 80 (by omega) (by omega)).bind fun c hc=>?_
 refine Y.bind (P:=fun xs=>xs.length≤14∧∀ (i:Nat) (x:Za),xs[i]?=some x→MF i x) ?_ (fun xs h=>Y.ret h)
 refine Y.loop (fun s:(List Za)×(List Int)×Int=>SOK ⟨s.2.1,s.2.2⟩∧s.1.length≤14∧∀ (i:Nat) (x:Za),s.1[i]?=some x→MF i x) (fun s=>14 - s.1.length) ⟨hc,by simp,fun i x h=>by simp at h⟩ (by dsimp only;omega) ?_
 rintro ⟨a,b,c⟩ ⟨h1,h2,h3⟩
 dsimp only at h1 h2 h3 ⊢
 unfold de
 simp only [dW]
 refine Y.cond (fun hcond=>?_) (fun _=>Y.ret ⟨h2,h3⟩)
 have hlt:a.length<14:=by simp only [Bool.and_eq_true,decide_eq_true_eq] at hcond;omega
 refine (d7 h1 3 (by omega) (by omega)).bind fun x18 ⟨p1,p2,p3⟩=>?_
 refine (d7 p3 30 (by omega) (by omega)).bind fun x19 ⟨q1,q2,q3⟩=>?_
 refine (d7 q3 5 (by omega) (by omega)).bind fun x20 ⟨r1,r2,r3⟩=>?_
 refine (d7 r3 8 (by omega) (by omega)).bind fun x22 ⟨s1,s2,s3⟩=>?_
 refine Y.bind (P:=fun r:List Int×Int×Int=>SOK ⟨r.1,r.2.1⟩∧0≤r.2.2∧r.2.2≤36524) ?_ ?_
 ·refine Y.cond (fun _=>?_) (fun _=>Y.ret ⟨s3,q1,by dsimp only;omega⟩)
  exact (d7 s3 2500 (by omega) (by omega)).bind fun x29 ⟨t1,t2,t3⟩=>Y.ret ⟨t3,t1,by dsimp only;omega⟩
 rintro ⟨l24,v25,v26⟩ ⟨t1,t2,t3⟩
 dsimp only at t1 t2 t3 ⊢
 rw [cn (r:=1+x20.1) (by omega) (by omega)]
 refine Y.bind (P:=fun r:List Int×Int×ByteArray×Int×Int=>SOK ⟨r.1,r.2.1⟩∧∀ F N D,gw ⟨F,N,D,1+x20.1,r.2.2.1,r.2.2.2.1,r.2.2.2.2⟩=true) ?_ ?_
 ·refine Y.cond (fun hk=>?_) (fun hk=>?_)
  ·unfold cq
   refine Y.eq rfl ?_
   refine (d7 t1 3 (by omega) (by omega)).bind fun x39 ⟨u1,u2,u3⟩=>?_
   refine Y.idx (xs:=cts) (n:=x39.1.toNat) (by omega) (by show x39.1.toNat<6;omega) ?_
   refine (small_Y u3 5000 1000000000001 (by omega) (by omega) (by omega)).bind fun x41 ⟨w1,w2,w3⟩=>?_
   refine (d7 w3 3 (by omega) (by omega)).bind fun x42 ⟨z1,z2,z3⟩=>Y.ret ⟨z3,fun F N D=>?_⟩
   have hs:kg (cts[x39.1.toNat]'(by show x39.1.toNat<6;omega))=true:=sj _ (List.getElem_mem _)
   unfold gw fi
   dsimp only
   rw [hk,dU,hs,det (by omega:0≤x41.1),det (by omega:x41.1≤1000000000000),det z1,det (by omega:x42.1≤999)];rfl
  refine Y.cond (fun hk3=>?_) (fun hk3=>?_)
  ·refine (d7 t1 6000 (by omega) (by omega)).bind fun x44 ⟨u1,u2,u3⟩=>Y.ret ⟨u3,fun F N D=>?_⟩
   have e:1+x20.1=3:=eq_of_beq hk3
   unfold gw fi
   dsimp only
   rw [e,gh,det u1,det (by omega:x44.1≤1000000000000)];rfl
  refine Y.cond (fun hk4=>?_) (fun hk4=>?_)
  ·unfold cq
   refine Y.eq rfl ?_
   refine (d7 t1 3 (by omega) (by omega)).bind fun x47 ⟨u1,u2,u3⟩=>?_
   refine Y.idx (xs:=cts) (n:=x47.1.toNat) (by omega) (by show x47.1.toNat<6;omega) (Y.ret ⟨u3,fun F N D=>?_⟩)
   have e:1+x20.1=4:=eq_of_beq hk4
   have hs:kg (cts[x47.1.toNat]'(by show x47.1.toNat<6;omega))=true:=sj _ (List.getElem_mem _)
   unfold gw fi
   dsimp only
   rw [e,hs];rfl
  refine Y.cond (fun hk5=>?_) (fun hk5=>?_)
  ·refine (d7 t1 40 (by omega) (by omega)).bind fun x50 ⟨u1,u2,u3⟩=>Y.ret ⟨u3,fun F N D=>?_⟩
   have e:1+x20.1=5:=eq_of_beq hk5
   unfold gw fi
   dsimp only
   rw [e,gh,det u1,det (by omega:x50.1≤1000000000)];rfl
  refine Y.ret ⟨t1,fun F N D=>?_⟩
  have e:1+x20.1=2:=by
   have k1:¬ 1+x20.1=1:=by simpa using hk
   have k3:¬ 1+x20.1=3:=by simpa using hk3
   have k4:¬ 1+x20.1=4:=by simpa using hk4
   have k5:¬ 1+x20.1=5:=by simpa using hk5
   omega
  unfold gw fi
  dsimp only
  rw [e,gh];rfl
 rintro ⟨l31,v32,v33,v34,v35⟩ ⟨u1,u2⟩
 dsimp only at u1 u2 ⊢
 rw [nV (by simp;omega) (by simp;omega),dW]
 refine Y.ret ⟨⟨u1,by simp;omega,fun i x hx=>?_⟩,by simp;omega⟩
 rcases Nat.lt_or_ge i a.length with hi | hi
 ·rw [List.getElem?_append_left hi] at hx;exact h3 i x hx
 rw [List.getElem?_append_right hi] at hx
 have hi2:i=a.length:=by
  have:=(List.getElem?_eq_some_iff.1 hx).1;simp at this;omega
 subst hi2
 rw [Nat.sub_self,List.getElem?_cons_zero] at hx
 obtain rfl:=Option.some.inj hx
 have e1:IntKind.i64.wrap (x18.1*100)=x18.1*100:=cn (by omega) (by omega)
 have e2:IntKind.i64.wrap (Int.tmod (IntKind.i64.wrap (IntKind.i64.wrap ((a.length:Int)*5)+2)) 17+1)=((a.length:Int)*5+2) % 17+1:=by
  rw [cn (r:=(a.length:Int)*5) (by omega) (by omega),cn (r:=(a.length:Int)*5+2) (by omega) (by omega),Int.tmod_eq_emod_of_nonneg (by omega),cn (by omega) (by omega)]
 rw [e1,e2]
 exact ⟨fact_mk (by omega) (by omega) ⟨t2,t3⟩ (u2 _ _ _),by dsimp only;omega,rfl⟩
theorem qd {xs:List Za} (h1:xs.length≤14) (h2:∀ (i:Nat) (x:Za),xs[i]?=some x→MF i x):Agr xs:=by
 refine ⟨by omega,fun x hx=>?_,fun x hx y hy he=>?_⟩
 ·obtain ⟨i,hi,rfl⟩:=List.getElem_of_mem hx
  exact (h2 i _ (List.getElem?_eq_getElem hi)).val
 obtain ⟨i,hi,rfl⟩:=List.getElem_of_mem hx
 obtain ⟨j,hj,rfl⟩:=List.getElem_of_mem hy
 have e:=((ea _ _).1 he).2
 rw [(h2 i _ (List.getElem?_eq_getElem hi)).num,(h2 j _ (List.getElem?_eq_getElem hj)).num] at e
 have:i=j:=by omega
 subst this;rfl
theorem oa {xs:List Za} (h2:∀ (i:Nat) (x:Za),xs[i]?=some x→MF i x):∀ x∈xs,x.From≤200:=fun x hx=>by
 obtain ⟨i,hi,rfl⟩:=List.getElem_of_mem hx
 exact (h2 i _ (List.getElem?_eq_getElem hi)).frm.2
theorem awake31:eY=some true:=by kernel_rfl
theorem units_Y (u:Int):Y (cA u 50) (fun r=>∃ n:Int,IntKind.i64.wrap (1+r)=n∧1≤n∧n≤1000):=by
 obtain ⟨r,e,h1,h2⟩:=iz u 50 (by omega) (by omega)
 exact ⟨r,e,1+r,cn (by omega) (by omega),by omega,by omega⟩
structure Fil (f:Zd) (u:Int):Prop where
 ok:FileOk f
 units:f.Units=u
 len:f.Facts.length≤14
 frm:∀ x∈f.Facts,x.From≤200
theorem file_Y (l:List Int) {u:Int} (h1:1≤u) (h2:u≤1000):Y (cr l) (fun fs=>Y (d9 u fs) (fun r=>r.2=true∧Fil r.1 u)):=by
 obtain ⟨fs,e3,hf1,hf2⟩:=facts_Y l
 obtain ⟨f1,f2,f3,f4⟩:=file_eq (qd hf1 hf2) h1 h2
 exact ⟨fs,e3,_,f1,rfl,f2,rfl,by dsimp only;omega,fun x hx=>oa hf2 x ((f4 x).1 hx)⟩
theorem far_ne {f:Zd} {u:Int} (h:Fil f u) {x:Za} (hx:x.From=900):∀ y∈f.Facts,dR y x≠0:=fun y hy e=>by
 have:=((ea _ _).1 e).1;have:=h.frm y hy;omega
theorem vproof {d:Int} (h:0≤d∧d<30):dT ⟨900,1,d,2,ByteArray.empty,0,0⟩=true:=by
 unfold dT gw fi
 dsimp only
 rw [dG (by omega:¬ d<0),dG (by omega:¬ (36524:Int)<d),gh];rfl
theorem ki (m0:List Int) (m1 m2:Int) {κ:Kr} {v0 v1 v2:List Value} (_:Rps κ (eL eI m0) v0) (_:Rps κ (eI m1) v1) (_:Rps κ (eI m2) v2):dg m0 m1 m2=some true:=by
 obtain ⟨r,e1,u,e2,hu1,hu2⟩:=units_Y m1
 obtain ⟨d,e3,hd1,hd2⟩:=iz m2 30 (by omega) (by omega)
 obtain ⟨fs,e4,⟨⟨f,b⟩,e5,hb,hF⟩⟩:=file_Y m0 hu1 hu2
 dsimp only at hb hF
 subst hb
 have hv:=vproof ⟨hd1,hd2⟩
 have hne:=far_ne hF (x:=⟨900,1,d,2,ByteArray.empty,0,0⟩) rfl
 have hl:f.Facts.length<200:=by have:=hF.len;omega
 have e6:=li hF.ok hv hl hne
 have hG:=nm hF.ok hv hl hne
 unfold dg
 rw [kN e1,kN e3,kN e4,e2,kN e5]
 dsimp only
 rw [kN e6]
 dsimp only
 rw [o2 hF.ok,dW,o2 hG,dW]
 have k1:gF (bC bw (fI be ⟨900,1,d,2,ByteArray.empty,0,0⟩ f.Facts)) 1 36524=gF (bC bw f.Facts) 1 36524:=fD rfl
 have key:(dh f).2=(dh ⟨f.Source,f.Code,f.Units,fI be ⟨900,1,d,2,ByteArray.empty,0,0⟩ f.Facts⟩).2∧(dh ⟨f.Source,f.Code,f.Units,fI be ⟨900,1,d,2,ByteArray.empty,0,0⟩ f.Facts⟩).1=⟨(dh f).1.Code,(dh f).1.Origin,cond (dh f).2 true (dh f).1.Proof,(dh f).1.Company,(dh f).1.Day,(dh f).1.Quantity,(dh f).1.Value,(dh f).1.Granted⟩:=by
  unfold dh
  dsimp only
  rw [k1]
  cases hk:gF (bC bw f.Facts) 1 36524 with
  | nil=>exact ⟨rfl,rfl⟩
  | cons z l =>
   refine ⟨rfl,?_⟩
   have hz:z∈f.Facts:=by
    have:z∈gF (bC bw f.Facts) 1 36524:=by rw [hk];simp
    exact iJ.1 (List.mem_filter.1 this).1
   have hvz:=lf (hF.ok.val z hz)
   have h30:=(o1 hvz.1 hvz.2).2
   have hmem:(⟨900,1,d,2,ByteArray.empty,0,0⟩:Za)∈gF (bC bw (fI be ⟨900,1,d,2,ByteArray.empty,0,0⟩ f.Facts)) 2 (gx z.Day) :=
    List.mem_filter.2 ⟨iJ.2 (ji.2 (.inl rfl)),by rw [det (by omega:d≤gx z.Day)];rfl⟩
   unfold jj
   dsimp only
   rw [fD (k:=3) rfl,fD (k:=4) rfl,o3 (k:=5) rfl,lj (List.ne_nil_of_mem hmem)]
   rfl
 rw [key.2,← key.1]
 have h0:((!true)||((0:Int) != 0)||(dh f).2 != (dh f).2)=false:=by simp
 rw [h0,eR]
 have h1:(cond (dh f).2 (some true) (some (dh f).1.Proof):Option Bool)=some (cond (dh f).2 true (dh f).1.Proof):=by cases (dh f).2 <;> rfl
 rw [kN h1,Ze.eqb_iff.2 rfl,gW,awake31];rfl
def k0 (W:World):Kr:=⟨W,fun b=>b<W.heap.size⟩
theorem gD {t:Nat} {z:Value} {s b:Nat} (h:di t=some (z,s,b)):Tryd.prog.cellsOf t=s∧Tryd.prog.bytesOf t=b:=by
 obtain ⟨i,h1,h2,h3,h4⟩:=gJ h
 constructor
 ·simp [Program.cellsOf,h1,h3]
 simp [Program.bytesOf,h1,h4]
def Light {H:Type} (t:Nat) (d:DataW H):Prop:=∀ n∈d.weights Tryd.prog t,n≤reachBytes
theorem sk {H:Type} (d:DataW H):1≤Rows.uptoBulk d:=by
 cases d with
 | lit l=>cases l <;> simp [Rows.uptoBulk]
 | nil=>simp [Rows.uptoBulk]
 | ptr d=>simp [Rows.uptoBulk]
 | slice elems spare=>simp [Rows.uptoBulk]
 | agg parts=>simp [Rows.uptoBulk]
 | iface t d=>simp [Rows.uptoBulk]
 | map entries=>simp [Rows.uptoBulk]
 | held h=>simp [Rows.uptoBulk]
theorem qe {H:Type} {d:DataW H} {l:List (DataW H)} (h:d∈l):Rows.uptoBulk d≤Rows.uptoBulkAll l:=by
 induction l with
 | nil=>cases h
 | cons x r ih =>
  simp only [Rows.uptoBulkAll]
  cases List.mem_cons.1 h with
  | inl e=>subst e;omega
  | inr e=>have:=ih e;omega
theorem sm {H:Type} (l:List (DataW H)):l.length≤Rows.uptoBulkAll l:=by
 induction l with
 | nil=>simp [Rows.uptoBulkAll]
 | cons x r ih=>have:=sk x;simp only [Rows.uptoBulkAll,List.length_cons];omega
def Opens {H:Type} (eh:TypeId×Value→H) {α:Type} (n:Nat) (t:Nat) (e:α→List PV) (B:α→Prop):Prop :=
 ∀ (W:World) (fuel:Nat) (cs:List Value) (x:DataW H×List MemPlace),DataW.trod eh Tryd.prog W 0 (fun _=>true) true fuel t cs=some x→Light t x.1→Rows.uptoBulk x.1≤n→∃ m,Rps (k0 W) (e m) cs∧One cs∧B m
section
variable {H:Type} {eh:TypeId×Value→H} {nb:Nat}
theorem one1 {v:Value} (h:v.oneCell'=true):One [v]:=fun u hu=>by rw [List.mem_singleton.1 hu];exact h
theorem qf {t:Nat} {k:IntKind} (h:cJ t=some (.int k)):Opens eh nb t (fun x:Int=>[.v (.int k x)]) (fun _=>True):=fun W fuel cs x hx _ _=>by
 obtain ⟨n,rfl,_,_⟩:=DataW.trod_int (aO h) hx
 exact ⟨n,.cons (.v rfl) .nil,one1 rfl,trivial⟩
theorem f8 {e:Nat}:∀ {l:List (DataW H)} {d:DataW H} {n:Nat},d∈l→n∈d.weights Tryd.prog e→n∈DataW.weightsAll Tryd.prog e l
 | d'::l,d,n,hd,hn=>by
  simp only [DataW.weightsAll,List.mem_append]
  rcases List.mem_cons.1 hd with rfl | hd
  ·exact .inl hn
  exact .inr (f8 hd hn)
theorem o4 {α β:Type} {R:α→β→Prop}:∀ (l:List β),(∀ b∈l,∃ a,R a b)→∃ la:List α,la.length=l.length∧∀ (i:Nat) (b:β),l[i]?=some b→∃ a,la[i]?=some a∧R a b
 | [],_=>⟨[],rfl,fun i b h=>by simp at h⟩
 | b::l,h=>by
  obtain ⟨a,ha⟩:=h b (by simp)
  obtain ⟨la,h1,h2⟩:=o4 l fun b hb=>h b (by simp [hb])
  refine ⟨a::la,by simp [h1],fun i b' hb=>?_⟩
  cases i with
  | zero=>simp only [List.getElem?_cons_zero,bH] at hb;subst hb;exact ⟨a,rfl,ha⟩
  | succ i=>simp only [List.getElem?_cons_succ] at hb ⊢;exact h2 i b' hb
def OpensN {H:Type} (eh:TypeId×Value→H) {α:Type} (N n:Nat) (t:Nat) (e:α→List PV) (B:α→Prop):Prop :=
 ∀ (W:World) (fuel:Nat) (cs:List Value) (x:DataW H×List MemPlace),fuel<N→DataW.trod eh Tryd.prog W 0 (fun _=>true) true fuel t cs=some x→Light t x.1→Rows.uptoBulk x.1≤n→∃ m,Rps (k0 W) (e m) cs∧One cs∧B m
theorem lV {α:Type} {N t E sz by':Nat} {z:Value} {e:α→List PV} {B:α→Prop} (hu:cJ t=some (.slice E)) (hi:di E=some (z,sz,by')) (h0:Nat.blt 0 sz=true) (hb0:Nat.blt 0 by'=true) (hE:OpensN eh N nb E e B):OpensN eh (N+1) nb t (eL e) (fun l=>l.length*by'≤140737488355328∧l.length≤nb∧∀ x∈l,B x):=fun W fuel cs x hfu hx hw hbk=>by
 obtain ⟨hcz,hby⟩:=gD hi
 have hsz:0<sz:=by have:=h0;simp [Nat.blt] at this;omega
 have hbp:0<by':=by have:=hb0;simp [Nat.blt] at this;omega
 rcases DataW.trod_slice (aO hu) hx with ⟨rfl,_⟩ | ⟨a,len,cap,elems,rest,n,rfl,rfl,rfl,_,hl,hm,hlen,hel,_,_⟩
 ·exact ⟨[],.cons (.slc (sz:=sz) (css:=[]) Sl.nil (Nat.zero_le _) (fun _ h=>by cases h) .nil) .nil,one1 rfl,by simp,Nat.zero_le _,fun _ h=>by cases h⟩
 rw [hcz] at hel
 have hwl:(elems.length+rest.length)*by'≤reachBytes:=by
  have:=hw ((elems.length+rest.length)*by') (by simp only [DataW.weights,aO hu,hby,List.length_map];exact List.mem_cons_self)
  exact this
 have hn:len≤140737488355328:=by
  unfold reachBytes at hwl
  have:elems.length*1≤(elems.length+rest.length)*by':=Nat.mul_le_mul (by omega) (by omega)
  omega
 have hcells:∀ i∈List.range len,∃ p:α×List Value,W.cells? 0 (a.add (i*sz)) sz=some p.2∧Rps (k0 W) (e p.1) p.2∧One p.2∧B p.1:=fun i hi'=>by
  have hi':i<len:=List.mem_range.1 hi'
  have h1:=hel i hi'
  have hlt:i<elems.length:=by omega
  rw [List.getElem?_eq_getElem hlt] at h1
  obtain ⟨cs,h2,h3⟩:=Option.bind_eq_some_iff.1 h1
  obtain ⟨m,k1,k2,k3⟩:=hE W n cs _ (by omega) h3 (fun q hq=>hw q (by
   simp only [DataW.weights,aO hu]
   exact List.mem_cons_of_mem _ (List.mem_append.2 (.inl (f8 (List.mem_map.2 ⟨_,List.getElem_mem hlt,rfl⟩) hq))))) (by
   have h9:=qe (l:=elems.map (·.1)) (List.mem_map.2 ⟨_,List.getElem_mem hlt,rfl⟩)
   simp only [Rows.uptoBulk] at hbk
   omega)
  exact ⟨(m,cs),h2,k1,k2,k3⟩
 obtain ⟨ps,g1,g2⟩:=o4 (R:=fun (p:α×List Value) i=>W.cells? 0 (a.add (i*sz)) sz=some p.2∧Rps (k0 W) (e p.1) p.2∧One p.2∧B p.1) (List.range len) hcells
 rw [List.length_range] at g1
 have g3:∀ (i:Nat) (p:α×List Value),ps[i]?=some p→W.cells? 0 (a.add (i*sz)) sz=some p.2∧Rps (k0 W) (e p.1) p.2∧One p.2∧B p.1:=fun i p hp=>by
  have hlt:=(List.getElem?_eq_some_iff.1 hp).1
  obtain ⟨p',h1,h2⟩:=g2 i i (by rw [List.getElem?_range (by omega)])
  rw [hp] at h1;injection h1 with h1;subst h1;exact h2
 have hps:(ps.map (·.1)).length=len:=by simp [g1]
 refine ⟨ps.map (·.1),?_,one1 rfl,?_,?_,?_⟩
 rotate_left
 ·rw [hps]
  have h9:len*by'≤(elems.length+rest.length)*by':=Nat.mul_le_mul_right _ (by omega)
  unfold reachBytes at hwl
  omega
 ·rw [hps]
  have h9:=sm (elems.map (·.1))
  rw [List.length_map] at h9
  simp only [Rows.uptoBulk] at hbk
  omega
 ·intro x hx
  obtain ⟨p,hp,rfl⟩:=List.mem_map.1 hx
  obtain ⟨i,hi',rfl⟩:=List.getElem_of_mem hp
  exact (g3 i _ (List.getElem?_eq_getElem hi')).2.2.2
 unfold eL;rw [hps]
 refine .cons (.slc (sz:=sz) (css:=ps.map (·.2)) ⟨by simp [g1],hl,?_,?_⟩ hn ?_ ?_) .nil
 ·intro c hc
  obtain ⟨p,hp,rfl⟩:=List.mem_map.1 hc
  obtain ⟨i,hi',rfl⟩:=List.getElem_of_mem hp
  exact (World.cells?_some (g3 i _ (List.getElem?_eq_getElem hi')).1).2.1
 ·intro hpos
  have hp0:0<ps.length:=by omega
  have hc0:=(World.cells?_some (g3 0 _ (List.getElem?_eq_getElem hp0)).1)
  have hread:=hc0.2.2 0 hsz
  have hspot:a.spot=none:=by
   have hlt:0<(ps[0]).2.length:=by rw [hc0.2.1];exact hsz
   rw [List.getElem?_eq_getElem hlt] at hread
   unfold World.cell? at hread
   cases hs:a.spot with
   | none=>rfl
   | some q =>
    have hsp:((a.add (0*sz)).add 0).spot.isSome=true:=by simp [Addr.add,hs]
    split at hread
    ·rw [if_pos hsp] at hread;cases hread
    cases hread
  obtain ⟨ab,ao,asp⟩:=a
  simp only at hspot;subst hspot
  refine ⟨ab,ao,rfl,fun j c hj=>?_⟩
  rw [List.getElem?_map] at hj
  cases hpj:ps[j]? with
  | none=>rw [hpj] at hj;cases hj
  | some p =>
   rw [hpj] at hj;simp only [Option.map_some,bH] at hj;subst hj
   have hcj:=World.cells?_some (g3 j p hpj).1
   refine ⟨?_,fun i u hu'=>?_⟩
   ·have h1:=hcj.2.2 0 hsz
    have hlt:0<p.2.length:=by rw [hcj.2.1];exact hsz
    rw [List.getElem?_eq_getElem hlt,bW,bW] at h1
    unfold World.cell? at h1
    split at h1
    ·rename_i heq
     have:=ft heq
     exact this
    cases h1
   have hlt:i<sz:=by have:=(List.getElem?_eq_some_iff.1 hu').1;omega
   have h1:=hcj.2.2 i hlt
   rw [bW,bW] at h1
   rw [← hu'];exact h1
 ·intro c hc
  obtain ⟨p,hp,rfl⟩:=List.mem_map.1 hc
  obtain ⟨i,hi',rfl⟩:=List.getElem_of_mem hp
  exact (g3 i _ (List.getElem?_eq_getElem hi')).2.2.1
 have:∀ (l:List (α×List Value)),(∀ p∈l,Rps (k0 W) (e p.1) p.2)→Rpss (k0 W) ((l.map (·.1)).map e) (l.map (·.2)):=fun l=>by
  induction l with
  | nil=>exact fun _=>.nil
  | cons p l ih=>exact fun h=>.cons (h p (by simp)) (ih fun q hq=>h q (by simp [hq]))
 refine this ps fun p hp=>?_
 obtain ⟨i,hi',rfl⟩:=List.getElem_of_mem hp
 exact (g3 i _ (List.getElem?_eq_getElem hi')).2.1
theorem nr {α:Type} {t E sz by':Nat} {z:Value} {e:α→List PV} {B:α→Prop} (hu:cJ t=some (.slice E)) (hi:di E=some (z,sz,by')) (h0:Nat.blt 0 sz=true) (hb0:Nat.blt 0 by'=true) (hE:Opens eh nb E e B):Opens eh nb t (eL e) (fun l=>l.length*by'≤140737488355328∧l.length≤nb∧∀ x∈l,B x):=fun W fuel cs x hx hw =>
 lV (N:=fuel) hu hi h0 hb0 (fun W' f' cs' x' _=>hE W' f' cs' x') W fuel cs x (Nat.lt_succ_self _) hx hw
end
end SX
end Go.Proofs.YtmgcadfnkchnfaaDoor
set_option maxRecDepth 100000
namespace Go.Proofs.YtmgcadfnkchnfaaDoor
open Go Go.ChangeShapes Go.WideShapes Go.RowKit
namespace SX
theorem own_ok:ownKnob Tryd.prog.godebug=none:=by kernel_rfl
theorem ob:laidOutB Tryd.prog=true:=by kernel_rfl
def kj:List (String×DataW Unit):=[("customs/calendar.monthLengths",Rows.laid_customs_calendar_monthLengths)]
mutual
def cellsD:DataW Unit→List Value
 | .lit (.int k n)=>[.int k n]
 | .agg ds=>o5 ds
 | _=>[]
def o5:List (DataW Unit)→List Value
 | []=>[]
 | d::r=>cellsD d++o5 r
end
def bl:Array Value:=#[.int .i64 31,.int .i64 28,.int .i64 31,.int .i64 30,.int .i64 31,.int .i64 30,.int .i64 31,.int .i64 31,.int .i64 30,.int .i64 31,.int .i64 30,.int .i64 31]
def layAt (h:Array Obj) (g:Nat) (cs:Array Value):Array Obj:=h.modify g fun | .cells _ t frozen=>.cells cs t frozen | o=>o
noncomputable def laidWorld (os:Os):World :=
 { World.holding Tryd.prog os ⟨#[],#[],[]⟩ with heap:=layAt (World.holding Tryd.prog os ⟨#[],#[],[]⟩).heap 0 bl }
theorem kl:(kj.filter fun x=>x.2.handleName?.isSome)=[]:=by kernel_rfl
def sn (w:World):MemPlace→Bool
 | .cell b off=>match w.heap[b]? with
  | some (.cells c _ (0,0))=>match c[off]? with | some (.iface _ _)=>false | _=>true
  | _=>false
 | _=>true
theorem od {w:World} {ps:List MemPlace} (h:ps.all (sn w)=true):∀ b off,MemPlace.cell b off∈ps→(∃ c t,w.heap[b]?=some (.cells c t (0,0)))∧∀ u v,w.cell? ⟨b,off,none⟩=some (.iface u v)→Value.okWide Tryd.prog w .any 0 u v:=fun b off hm=>by
 have:=List.all_eq_true.1 h _ hm
 unfold sn at this
 split at this
 ·rename_i b' off' e
  injection e with e1 e2;subst e1;subst e2
  split at this
  ·rename_i c t heq
   refine ⟨⟨c,t,heq⟩,fun u v hc=>?_⟩
   simp only [World.cell?,heq] at hc
   split at this
   ·cases this
   rename_i hno;exact absurd hc (by simpa using hno u v)
  cases this
 rename_i hno;exact absurd rfl (hno b off)
theorem ky (os:Os) (args:Array Value):laidMetH Tryd.prog kj ((laidWorld os).forCall (fun _ _=>0) ⟨#[],args,[]⟩).memory:=by
 unfold laidMetH
 rw [kl]
 refine ⟨_,⟨0,97,bl,8,[],_,by kernel_rfl,by kernel_rfl,by kernel_rfl,by kernel_rfl,rfl,rfl⟩,?_,?_⟩
 ·exact of_decide_eq_true (by kernel_rfl)
 exact od (by kernel_rfl)
theorem bu {H:Type} {eh:TypeId×Value→H} {P:Program} {w:World} {base:Nat} {sp:Nat→Bool} {held:Bool} {fuel:Nat} {t:TypeId} {k:IntKind} {c:Value} {y:DataW H×List MemPlace} (ht:P.underlying t=some (.int k)) (h:DataW.trod eh P w base sp held fuel t [c]=some y):∃ n,c=.int k n∧y=(.lit (.int k n),[]):=by
 obtain ⟨n,h1,h2,_⟩:=DataW.trod_int ht h
 injection h1 with h1 _
 exact ⟨n,h1,h2⟩
theorem laid_ml {W:World} (h:laidMetH Tryd.prog kj W):Sh (k0 W) 0 0 [.int .i64 31,.int .i64 28,.int .i64 31,.int .i64 30,.int .i64 31,.int .i64 30,.int .i64 31,.int .i64 31,.int .i64 30,.int .i64 31,.int .i64 30,.int .i64 31]:=by
 unfold laidMetH at h
 rw [kl] at h
 obtain ⟨ps,⟨g,t,cs,fuel,p,q,hg,ht,hvar,hd,_,_⟩,_⟩:=h
 obtain rfl:=Option.some.inj ((show Tryd.prog.globalNamed "customs/calendar.monthLengths" = some 0 by kernel_rfl).symm.trans hg)
 obtain rfl:=Option.some.inj ((show (Tryd.prog.globals[0]?).map (·.type)=some 97 by kernel_rfl).symm.trans ht)
 have hcs:cs=bl:=by
  obtain ⟨l⟩:=cs
  cases fuel with
  | zero=>simp [DataW.trod] at hd
  | succ fuel =>
   have hc1:=(gD (t:=97) rfl).1
   have hc2:=(gD (t:=3) rfl).1
   have hu1:Tryd.prog.underlying 97=some (.array 12 3):=aO rfl
   simp only [DataW.trod,hu1,hc1,hc2] at hd
   split at hd
   ·rename_i hl
    obtain ⟨c0,c1,c2,c3,c4,c5,c6,c7,c8,c9,c10,c11,rfl⟩:∃ c0 c1 c2 c3 c4 c5 c6 c7 c8 c9 c10 c11,l=[c0,c1,c2,c3,c4,c5,c6,c7,c8,c9,c10,c11]:=by
     match l,hl with
     | [a0,a1,a2,a3,a4,a5,a6,a7,a8,a9,a10,a11],_=>exact ⟨a0,a1,a2,a3,a4,a5,a6,a7,a8,a9,a10,a11,rfl⟩
    have e:List.range 12=[0,1,2,3,4,5,6,7,8,9,10,11]:=rfl
    rw [e] at hd
    simp only [Option.map_eq_some_iff,List.mapM_cons,List.mapM_nil,Option.bind_eq_bind,Option.bind_eq_some_iff,Option.pure_def,bH] at hd
    obtain ⟨xs,⟨y0,h0,_,⟨y1,h1,_,⟨y2,h2,_,⟨y3,h3,_,⟨y4,h4,_,⟨y5,h5,_,⟨y6,h6,_,⟨y7,h7,_,⟨y8,h8,_,⟨y9,h9,_,⟨y10,h10,_,⟨y11,h11,_,rfl,rfl⟩,rfl⟩,rfl⟩,rfl⟩,rfl⟩,rfl⟩,rfl⟩,rfl⟩,rfl⟩,rfl⟩,rfl⟩,rfl⟩,hx⟩:=hd
    have hui:Tryd.prog.underlying 3=some (.int .i64):=aO rfl
    obtain ⟨n0,rfl,rfl⟩:=bu hui h0
    obtain ⟨n1,rfl,rfl⟩:=bu hui h1
    obtain ⟨n2,rfl,rfl⟩:=bu hui h2
    obtain ⟨n3,rfl,rfl⟩:=bu hui h3
    obtain ⟨n4,rfl,rfl⟩:=bu hui h4
    obtain ⟨n5,rfl,rfl⟩:=bu hui h5
    obtain ⟨n6,rfl,rfl⟩:=bu hui h6
    obtain ⟨n7,rfl,rfl⟩:=bu hui h7
    obtain ⟨n8,rfl,rfl⟩:=bu hui h8
    obtain ⟨n9,rfl,rfl⟩:=bu hui h9
    obtain ⟨n10,rfl,rfl⟩:=bu hui h10
    obtain ⟨n11,rfl,rfl⟩:=bu hui h11
    simp [Rows.laid_customs_calendar_monthLengths] at hx
    obtain ⟨⟨rfl,rfl,rfl,rfl,rfl,rfl,rfl,rfl,rfl,rfl,rfl,rfl⟩,_⟩:=hx
    rfl
   cases hd
 subst hcs
 have hcell:∀ j u,bl[j]?=some u→W.cell? ⟨0,j,none⟩=some u:=fun j u hu=>by
  have:=World.var?_cell hg hvar j
  rw [this];exact hu
 refine ⟨?_,fun j u hu=>?_⟩
 ·have h0:=hcell 0 _ rfl
  unfold World.cell? at h0
  split at h0
  ·rename_i heq;exact ft heq
  cases h0
 rw [Nat.zero_add];exact hcell j u (by simpa [bl] using hu)
theorem ns {W:World} (h:laidMetH Tryd.prog kj W):GOK (k0 W):=laid_ml h
end SX
end Go.Proofs.YtmgcadfnkchnfaaDoor
set_option maxRecDepth 100000
namespace Go.Proofs.YtmgcadfnkchnfaaDoor
open Go Go.ChangeShapes Go.WideShapes Go.RowKit
namespace SX
theorem inv0 (W:World):Zb ⟨k0 W,[],none⟩ [] (k0 W):=⟨.refl _ _,fun _ h=>h,(fun _ h=>by cases h),(fun _ h=>by cases h),.nil⟩
theorem so {W:World} {ρ:List Res} {κ:Kr} (h:Zb ⟨k0 W,[],none⟩ ρ κ):Below W.heap.size W κ.w:=⟨h.le.os,h.le.tape,h.le.output,h.le.kle.size,fun k hk=>h.le.same k hk (by simp)⟩
section
variable {H:Type} {eh:TypeId×Value→H}
theorem kz {W W':World} (hb:Below W.heap.size W W') {ts:List TypeId} (hr:∀ t∈ts,Tryd.prog.readableRec t=true∧t<Tryd.prog.types.size):∀ {vs:List Value} {ds:List (DataW H)} {ps:List MemPlace},DataW.TrodAll eh Tryd.prog W 0 (fun _=>true) true ts vs ds ps→(∀ p∈ps,p.block<W.heap.size)→DataW.TrodAll eh Tryd.prog W' 0 (fun b=>decide (b<W.heap.size)) true ts vs ds ps:=by
 induction ts with
 | nil=>intro vs ds ps h _;cases vs <;> cases ds <;> first | exact h | cases h
 | cons t ts ih =>
  intro vs ds ps h hlt
  cases vs with
  | nil=>cases h
  | cons v vs =>
   cases ds with
   | nil=>cases h
   | cons d ds =>
    obtain ⟨p,q,h1,h2,e⟩:=h
    have ht:=hr t (by simp)
    exact ⟨p,q,Below.trod ob ht.1 ht.2 h1 hb (fun x hx=>hlt x (by rw [e];simp [hx])),ih (fun u hu=>hr u (by simp [hu])) h2 (fun x hx=>hlt x (by rw [e];simp [hx])),e⟩
theorem readB {ts:List TypeId} (h:(ts.all fun t=>Tryd.prog.readableRec t&&Nat.blt t Tryd.prog.types.size)=true):∀ t∈ts,Tryd.prog.readableRec t=true∧t<Tryd.prog.types.size:=fun t ht=>by
 have:=List.all_eq_true.1 h t ht
 rw [Bool.and_eq_true] at this
 exact ⟨this.1,by have h2:=this.2;exact Nat.le_of_ble_eq_true h2⟩
theorem sq {f tb:Nat} {fn:Func} {s:ChangeSpec} {W:World} {args:Array Value} {ds gs:List (DataW H)} {before:List MemPlace} {pargs:List PV}
    (hrd:∀ t∈fn.params.toList,Tryd.prog.readableRec t=true∧t<Tryd.prog.types.size) (hres:fn.resultTypes=#[tb]) (hub:Tryd.prog.underlying tb=some .bool) (hvars:s.vars=[])
    (hspec:s.fn H ds={ results:=[.lit (.bool true)],args:=ds }) (hW:DataW.Whole eh Tryd.prog fn.params.toList s.vars false W args.toList ds gs before) (hG:GOK (k0 W)) (hargs:Rps (k0 W) pargs args.toList) (hPF:PF f pargs (.v (.bool true))) :
    Calls Tryd.prog f args W fun e W'=>∃ v,e=.returned v∧s.post eh Tryd.prog fn false true false false W args v W':=by
  have hc:=(hPF (k0 W) args.toList hG hargs).2 (inv0 W)
  have e:args.toList.toArray=args:=by simp
  rw [e] at hc
  refine Calls.mono hc fun en W' ⟨v,ρ',κ',h1,h2,h3,h4,h5⟩=>⟨v,h1,?_⟩
  subst h2
  have hv:=h5.val
  subst hv
  have hb:=so h3
  have hW':=hW
  obtain ⟨p,q,hA,hV,rfl,hfz,hnd⟩:=hW
  rw [hvars] at hV
  obtain ⟨rfl,rfl⟩:gs=[]∧q=[]:=by
    cases gs with
    | nil=>exact ⟨rfl,hV⟩
    | cons g r=>exact absurd hV (by intro h;cases h)
  refine ⟨ds,[],_,[],p,[],hW',?_,?_,?_,hb.frame _,fun h=>by cases h⟩
  · rw [List.append_nil,hspec,hres];exact trodAll_mk1 (shut_bool hub true)
  · rw [List.append_nil,hspec];exact kz hb hrd hA (DataW.TrodAll.lt hA)
  rw [hvars,List.append_nil,hspec];rfl
theorem trodAll_cons {W:World} {t:TypeId} {ts:List TypeId} {vs:List Value} {ds:List (DataW H)} {ps:List MemPlace} (h:DataW.TrodAll eh Tryd.prog W 0 (fun _=>true) true (t::ts) vs ds ps):∃ v vs' d ds' p q,vs=v::vs'∧ds=d::ds'∧DataW.Trod eh Tryd.prog W 0 (fun _=>true) true t v d p∧DataW.TrodAll eh Tryd.prog W 0 (fun _=>true) true ts vs' ds' q:=by
 cases vs with
 | nil=>cases h
 | cons v vs =>
  cases ds with
  | nil=>cases h
  | cons d ds=>obtain ⟨p,q,h1,h2,_⟩:=h;exact ⟨v,vs,d,ds,p,q,rfl,rfl,h1,h2⟩
theorem trodAll_nil {W:World} {vs:List Value} {ds:List (DataW H)} {ps:List MemPlace} (h:DataW.TrodAll eh Tryd.prog W 0 (fun _=>true) true [] vs ds ps):vs=[]∧ds=[]:=by
 cases vs <;> cases ds <;> first | exact ⟨rfl,rfl⟩ | cases h
theorem nt {l:Array TypeId} (h:(l.toList.all fun t => !Tryd.prog.wantsStandIn t)=true) {j:Nat} {t:TypeId} (ht:l[j]?=some t):Tryd.prog.wantsStandIn t=false:=by
 have:=List.all_eq_true.1 h t (by have:=Array.mem_of_getElem? ht;simpa using this)
 simpa using this
theorem light_head {t:Nat} {ts:List Nat} {d:DataW H} {ds:List (DataW H)} (h:(DataW.weightsEach Tryd.prog (t::ts) (d::ds)).all (· ≤ reachBytes)=true):Light t d∧(DataW.weightsEach Tryd.prog ts ds).all (· ≤ reachBytes)=true:=by
 simp only [DataW.weightsEach,List.all_append,Bool.and_eq_true] at h
 exact ⟨fun n hn=>by simpa using List.all_eq_true.1 h.1 n hn,h.2⟩
def km:TypeDesc→Bool
 | .int _ | .bool | .string | .slice _=>true
 | _=>false
theorem not_agg {W:World} {r:Reach} {base t:Nat} {v:Value} {D:TypeDesc} (hu:cJ t=some D) (hD:km D=true) (h:Value.okWide Tryd.prog W r base t v):∀ cs,v.cells.toList=[cs]→v=cs:=fun cs he=>by
 cases v with
 | agg arr =>
  exfalso
  unfold Value.okWide at h
  rw [aO hu] at h
  cases D <;> first | (revert hD;simp [km];done) | (simp only at h;unfold Cell.okWide at h;rw [aO hu] at h;simp only at h;unfold Cell.ok at h;rw [aO hu] at h;simp at h)
 | _=>simpa [Value.cells] using he
theorem lW {nb:Nat} {W:World} {r:Reach} {base t:Nat} {v:Value} {D:TypeDesc} {α:Type} {e:α→List PV} {B:α→Prop} {d:DataW H} {ps:List MemPlace} (hu:cJ t=some D) (hD:km D=true) (hO:Opens eh nb t e B) (h1:∀ m,∃ p,e m=[p]) (h:Value.okWide Tryd.prog W r base t v) (hd:DataW.Trod eh Tryd.prog W 0 (fun _=>true) true t v d ps) (hl:Light t d) (hn:Rows.uptoBulk d≤nb):∃ m,Rps (k0 W) (e m) [v]∧B m:=by
 obtain ⟨fuel,hf⟩:=hd
 obtain ⟨m,h2,_,h9⟩:=hO W fuel _ _ hf hl hn
 refine ⟨m,?_,h9⟩
 obtain ⟨p,hp⟩:=h1 m
 rw [hp] at h2
 generalize hc:v.cells.toList=cs at h2
 obtain ⟨w,ws,rfl,h3,h4⟩:=h2.cons_inv
 rw [h4.nil_inv] at hc
 rw [not_agg hu hD h w hc,hp]
 exact .cons h3 .nil
end
end SX
end Go.Proofs.YtmgcadfnkchnfaaDoor
namespace Go.Proofs.YtmgcadfnkchnfaaDoor
namespace SX
open Go
def bd3:Nat→Int→Prop:=fun _ _=>True
theorem op3 {H:Type} {eh:TypeId×Value→H} {nb:Nat}:Opens eh nb 3 eI (bd3 nb):=qf rfl
def bd22:Nat→(List Int)→Prop:=fun n l=>l.length*8≤140737488355328∧l.length≤n∧∀ x∈l,bd3 n x
theorem op22 {H:Type} {eh:TypeId×Value→H} {nb:Nat}:Opens eh nb 22 (eL eI) (bd22 nb):=nr rfl rfl rfl rfl op3
end SX
end Go.Proofs.YtmgcadfnkchnfaaDoor
set_option maxRecDepth 100000
namespace Go.Proofs.YtmgcadfnkchnfaaDoor
open Go Go.ChangeShapes Go.WideShapes Go.RowKit
open SX
theorem auditProof_lifted (os:Os) (started:os.Started) (H:Type) (enc:TypeId×Value→H) :
    ReturnsInHanded {} Tryd.checked os 4 .any (fun w args=>(Rows.auditProofSpec.pre enc Tryd.prog Tryd.f4 [] false w args∧laidMetH Tryd.prog kj w)∧sizedMet enc Tryd.prog Tryd.f4 (OpenSpec.ofChange Rows.auditProofSpec) false w args)
      (Rows.auditProofSpec.post enc Tryd.prog Tryd.f4 false true false false):=by
  refine returnsInHanded_of_change_and (C:=Tryd.checked) (X:=fun w _=>laidMetH Tryd.prog kj w) (fun _ _ _ hh h=>h.of_heap hh) own_ok started (by kernel_rfl) Tryd.func4
    (ChangeSpec.witness_at (enc:=enc) (C:=Tryd.checked) (os:=os) (X:=fun w _=>laidMetH Tryd.prog kj w) false (laidWorld os) #[.slice none 0 0,.int .i64 0,.int .i64 0] 8 rfl (by kernel_rfl) (by kernel_rfl) (by kernel_rfl) (by kernel_rfl) (by kernel_rfl) (ky os _)) ?_
  intro W base args ds gs before hval0 hW _ hwt hL _
  have hval:∀ (j:Nat) t v,Tryd.f4.params[j]?=some t→args[j]?=some v→Value.okWide Tryd.prog W .any base t v:=hval0
  have hW2:=hW
  obtain ⟨p,q,hA0,hV0,rfl,_,_⟩:=hW
  have hA:DataW.TrodAll enc Tryd.prog W 0 (fun _=>true) true [22,3,3] args.toList ds p:=hA0
  obtain ⟨rfl,rfl⟩:gs=[]∧q=[]:=by
    cases gs with
    | nil=>exact ⟨rfl,hV0⟩
    | cons g r=>exact absurd hV0 (by intro h;cases h)
  generalize hargs:args.toList=vs at hA
  have hval2:∀ (j:Nat) t v,[22,3,3][j]?=some t→vs[j]?=some v→Value.okWide Tryd.prog W .any base t v:=fun j t v h1 h2=>hval j t v (by rw [Tryd.params4];simpa using h1) (by rw [← hargs] at h2;simpa using h2)
  obtain ⟨v0,vs0,d0,ds0,p0,q0,rfl,rfl,h0,hA⟩:=SX.trodAll_cons hA
  obtain ⟨v1,vs1,d1,ds1,p1,q1,rfl,rfl,h1,hA⟩:=SX.trodAll_cons hA
  obtain ⟨v2,vs2,d2,ds2,p2,q2,rfl,rfl,h2,hA⟩:=SX.trodAll_cons hA
  obtain ⟨rfl,rfl⟩:=SX.trodAll_nil hA
  have hw:(DataW.weightsEach Tryd.prog [22,3,3] [d0,d1,d2]).all (· ≤ reachBytes)=true:=hwt
  obtain ⟨l0,hw⟩:=SX.light_head hw
  obtain ⟨m0,s0,b0⟩:=lW rfl rfl op22 (fun _=>⟨_,rfl⟩) (hval2 0 22 v0 rfl rfl) h0 l0 (Nat.le_refl _)
  obtain ⟨l1,hw⟩:=SX.light_head hw
  obtain ⟨m1,s1,b1⟩:=lW rfl rfl op3 (fun _=>⟨_,rfl⟩) (hval2 1 3 v1 rfl rfl) h1 l1 (Nat.le_refl _)
  obtain ⟨l2,hw⟩:=SX.light_head hw
  obtain ⟨m2,s2,b2⟩:=lW rfl rfl op3 (fun _=>⟨_,rfl⟩) (hval2 2 3 v2 rfl rfl) h2 l2 (Nat.le_refl _)
  exact sq (readB (by kernel_rfl)) rfl (aO rfl) rfl (by simp [Rows.auditProofSpec]) hW2 (ns hL) (by rw [hargs];exact (s0.app (s1.app s2))) (gm (ki m0 m1 m2 s0 s1 s2))
theorem auditProof_holds:Rows.AuditProofSaid :=
 OpenClaim.holds_of_wide 4 Tryd.f4 rfl rfl rfl rfl rfl rfl rfl ⟨rfl,rfl,rfl,rfl,rfl⟩ rfl rfl rfl rfl rfl auditProof_named Tryd.func4 auditProof_closed
  (of_decide_eq_true (by kernel_rfl)) (by unfold Func.isWrapper;rw [if_neg (of_decide_eq_false (by kernel_rfl))];exact ⟨rfl,rfl⟩)
  (fun os started H enc _=>auditProof_lifted os started H enc)
theorem auditProof_card:Rows.AuditProofCardSaid :=
 Claim7.holds_tied_plain_at .later [] [.data] true (true, "723a3f8763fe671da25107c76aac54823bbe3c8059532a2e32ae3f83261a369c") false
  auditProof_holds (fun _ h=>by cases h) (by as_aux_lemma=>kernel_rfl) (fun _ h=>by cases h) auditProof_row_tie rfl ⟨rfl,rfl⟩ fp_main rfl
  (fun f fn hf hfn=>by
   obtain rfl:f=4:=Option.some.inj ((show Tryd.prog.funcNamed "customs/customslaw31.AuditProof" = some 4 from auditProof_named).symm.trans hf) |>.symm
   obtain rfl:fn=Tryd.f4:=(Option.some.inj (Tryd.func4.symm.trans hfn)).symm
   exact ⟨fp_looks,fun j t ht=>by
    rw [Tryd.params4] at ht
    exact nt (by as_aux_lemma=>kernel_rfl) ht⟩)
  auditProof_goes
#print axioms auditProof_card
end Go.Proofs.YtmgcadfnkchnfaaDoor
