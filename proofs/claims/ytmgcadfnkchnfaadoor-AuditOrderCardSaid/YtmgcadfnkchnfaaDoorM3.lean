/- AuditOrder: for every input the law returns true, and each argument reads afterwards as it read before. Conditions: the package variables are as the program's text lays them (the card ties them). -/
import Derived.Test.YtmgcadfnkchnfaaDoorM2
import Derived.Test.YtmgcadfnkchnfaaDoorL1q
set_option linter.unusedVariables false
set_option linter.unusedSimpArgs false
set_option maxHeartbeats 4000000
set_option maxRecDepth 100000
namespace Go.Proofs.YtmgcadfnkchnfaaDoor
namespace SX
open Go
attribute [local irreducible] PWL PWC PWD POpL POpQ PEv PGuardIs PSub PPick PUpd PSplice PFill PLit PF PFV PCall FOk fH ef jF jG fT gq Cov PHolds bG idx app mk gd lb nz ge0 cat sub kw py ior pz nM i7 d9 pA IntKind.wrap Int.tmod Int.tdiv Op.bytesLess strOfNums
attribute [local irreducible] PWQ oN ia r4 asgK eR PSeq
def aL (p0:(List Za)) (p1:(List Za)):Option (List Za):=(eR (S:=(List Za)) (T:=Empty) (fun l3 x8=>(app 64 l3 [x8]).bind fun l13=>some (.inl l13)) p0 p1).bind fun q=>match q with | .inl l3=>some l3 | .inr e=>e.elim
theorem co {p0:(List Za)} {p1:(List Za)} {a_0:Option Addr}  {n_0:Nat}  {c_0:Nat} {r:(List Za)} {gf1:Nat} {cs1:List PV} (hg1:PSeq gf1 cs1 DFp p1) (h:aL p0 p1=some r):PCall 42 [.v (.slice a_0 n_0 c_0),.fn gf1 cs1] [PRes.row a_0 n_0 c_0 28 7 (List.map Za.enc p0)] (fun pv ρ'=>∃ a c,pv=.v (.slice a r.length c)∧ρ'=[PRes.row a r.length c 28 7 (List.map Za.enc r)]):=by
 unfold aL at h
 refine lU Tryd.func42 (fnk Tryd.func42 rfl) rfl Tryd.ntmps42 Tryd.results42 rfl ?_
 refine ng (enc:=Za.enc) (xs:=p0) (a:=a_0) fI (fun hl ha=>?_);subst hl;clear ha
 refine bH (db (af (ap rfl (bY (cs:=[pO a_0 p0.length c_0]) rfl rfl (fun b1=>cN [4] (by kernel_rfl) (bI (bH (bH (db (al [(6,.fn gf1 cs1)] (by kernel_rfl) (bI (eB (aa h fun q7 hq7 h=>?_)))))))))))))
 refine eA (Y:=Option Addr×Nat) (y0:=(a_0,c_0)) (R:=fun (a4,c5) l3=>[PRes.b b1 24 [pO a4 l3.length c5],PRes.row a4 l3.length c5 28 7 (List.map Za.enc l3)]) (R':=fun t=>[]) hq7 rfl hg1 rfl (by kernel_rfl) (by kernel_rfl) zs2 ?_ ?_ ?_
 ·rintro ⟨a4,c5⟩ l3 x8 suf hs;obtain ⟨o,ho6,hk9⟩:=iD hs;clear hs;(try dsimp only at ho6);(try dsimp only [DFp])
  refine af (ap rfl (aT (cs:=[pI 0,pI 0,pI 0,pI 0,pS ByteArray.empty,pI 0,pI 0]) rfl rfl rfl rfl (fun b10=>aI rfl rfl (ai (vs:=(ah x8)) rfl rfl rfl rfl rfl cU zl7 (aB (iC (ar (af (fY 2 [1,0] [(8,pO a4 l3.length c5),(9,.agg (ah x8))] (by kernel_rfl) (ap rfl (eM rfl rfl rfl rfl rfl (nx rfl rq) rfl rfl rfl rfl (fun b11=>aa ho6 fun l13 hl13 ho6=>?_))))))))))))
  refine ap rfl (ff (enc:=Za.enc) rfl rfl rfl rfl rfl rfl rfl rfl rfl fI (by exact bS (bS (bS bN))) hl13 (fun a14 c15=>?_))
  refine aI rfl rfl (ai (vs:=[pO a14 l13.length c15]) rfl rfl rfl rfl rfl (ep (ep (ep cU))) gQ (aB (aw ?_)))
  exact ib ho6 hk9 (a14,c15) (dZ (bS (bS (bS bN))) dX)
 ·rintro ⟨a4,c5⟩ l3 D hr;subst hr;(try dsimp only at h);(try dsimp only)
  refine eC (bI (db (ae (bT [0] [12] [(4,pO a4 l3.length c5)] (by kernel_rfl) (dH ?_)))))
  (repeat (first | apply am | apply aP | apply bK | apply d8 | apply dF | apply cS))
  obtain rfl:=osi h
  exact aQ (eJ (aV rfl)) (dZ (bS bN) ez) ⟨_,_,rfl,rfl⟩
 rintro t;exact t.elim
def bp (p0:(List Za)):Option (List Za):=(aL ([]:List Za) p0).bind fun x2=>some x2
theorem ec {p0:(List Za)} {r:(List Za)} {gf0:Nat} {cs0:List PV} (hg0:PSeq gf0 cs0 DFp p0) (h:bp p0=some r):PCall 32 [.fn gf0 cs0] [] (fun pv ρ'=>∃ a c,pv=.v (.slice a r.length c)∧ρ'=[PRes.row a r.length c 28 7 (List.map Za.enc r)]):=by
 unfold bp at h
 refine aO Tryd.func32 rfl Tryd.ntmps32 Tryd.results32 rfl (ae (bf [2] (by kernel_rfl) (bA (af (aN 1 [(3,.fn gf0 cs0)] (by kernel_rfl) (nL 28 7 (aa h fun x2 hx2 h=>?_)))))))
 refine ap rfl (be rfl rfl (ρ1:=[_]) (aW (by exact bN) (List.Perm.refl _)) (co hg0 hx2) ?_);rintro _ _ ⟨a3,c4,rfl,rfl⟩
 refine aJ [(2,pO a3 x2.length c4)] (by kernel_rfl) (dH ?_)
 obtain rfl:=osi h
 exact aQ (eJ (aV rfl)) dX ⟨_,_,rfl,rfl⟩
def aS (p0:(List Za)):Option (List Za):=(bp p0).bind fun x1=>(aA x1).bind fun x5=>some x5
theorem dI {p0:(List Za)} {r:(List Za)} {gf0:Nat} {cs0:List PV} (hg0:PSeq gf0 cs0 DFp p0) (h:aS p0=some r):PCall 21 [.fn gf0 cs0,.fn 23 []] [] (fun pv ρ'=>∃ a c,pv=.v (.slice a r.length c)∧ρ'=[PRes.row a r.length c 28 7 (List.map Za.enc r)]):=by
 unfold aS at h
 refine aO Tryd.func21 rfl Tryd.ntmps21 Tryd.results21 rfl (ae (bf [4] (by kernel_rfl) (bA (aa h fun x1 hx1 h=>af (aN 1 [(6,.fn gf0 cs0)] (by kernel_rfl) ?_)))))
 refine ap rfl (be rfl rfl (ρ1:=[]) (List.Perm.refl _) (ec hg0 hx1) ?_);rintro _ _ ⟨a2,c3,rfl,rfl⟩
 refine aJ [(5,pO a2 x1.length c3)] (by kernel_rfl) (bA (aa h fun x5 hx5 h=>af (aN 2 [(8,pO a2 x1.length c3),(9,.fn 23 [])] (by kernel_rfl) ?_)))
 refine ap rfl (be rfl rfl (ρ1:=[_]) (aW (by exact bN) (List.Perm.refl _)) (bE hx5) ?_);rintro _ _ ⟨rfl,rfl⟩
 refine aB (bA (an [11] [(4,pO a2 x1.length c3)] (by kernel_rfl) (ag ?_)))
 refine mK (enc:=Za.enc) (xs:=x5) (a:=a2) fI (fun hl6 ha7=>?_);rw [← hl6];clear ha7
 refine cq ?_
 obtain rfl:=osi h
 exact aQ (eJ (aV rfl)) dX ⟨_,_,rfl,rfl⟩
def dV (p0:Zd) (p1:(List Za)) (p2:Za):Option Ze:=(bk p2.Day 36).bind fun x4=>Option.bind (cond (x4.2 != 0) (some 36524) (some x4.1)) (fun v5=>(bP p1 2 v5).bind fun x10=>(eR (S:=Bool) (T:=Empty) (fun v11 x14=>some (.inl true)) false x10).bind fun q=>match q with | .inl v11=>(bP p1 3 v5).bind (fun x16=>(eR (S:=Int) (T:=Empty) (fun v17 x20=>some (.inl x20.Amount)) p2.Amount x16).bind fun q=>match q with | .inl v17=>(bP p1 4 v5).bind (fun x23=>(eR (S:=ByteArray) (T:=Empty) (fun v24 x27=>some (.inl x27.Country)) p2.Country x23).bind fun q=>match q with | .inl v24=>(bP p0.Facts 5 36524).bind (fun x30=>(eR (S:=Int) (T:=Empty) (fun v31 x34=>some (.inl (d9 p0.Units x34.Amount))) 0 x30).bind fun q=>match q with | .inl v31=>some (⟨p0.Code,v24,v11,p2.Company,p2.Day,p0.Units,v17,v31⟩:Ze) | .inr e=>e.elim) | .inr e=>e.elim) | .inr e=>e.elim) | .inr e=>e.elim)
theorem jb {p0:Zd} {p1:(List Za)} {p2:Za} {r:Ze}  (h:dV p0 p1 p2=some r):PF 25 [.agg (aH p0),pL Za.enc p1,.agg (ah p2)] (.agg (dQ r)):=by
 unfold dV at h
 refine bQ ?_
 refine lU Tryd.func25 (fnk Tryd.func25 rfl) rfl Tryd.ntmps25 Tryd.results25 rfl (bH (db (af (ap rfl (bY (cs:=(aH p0)) rfl rfl (fun b1=>ap rfl (bY (cs:=(ah p2)) rfl rfl (fun b2=>ap rfl (aT (cs:=[pS ByteArray.empty,pS ByteArray.empty,pB false,pI 0,pI 0,pI 0,pI 0,pI 0]) rfl rfl rfl rfl (fun b3=>aB (bI (bH (db (aa h fun x4 hx4 h=>aD [1] [14,15,16,13,17,18] [(7,pI x4.1),(8,pI x4.2)] (bL 2 (fO hx4) bU) (by kernel_rfl) (bI (bH (db (aa h fun q6 hq6 h=>?_))))))))))))))))))
 refine rb (Y:=Unit×Int) (fun (_,v5)=>[(1,pL Za.enc p1),(3,pP b1 0),(5,pP b2 0),(6,pP b3 0),(7,pI v5)]) (fun (_,v5)=>[PRes.b b1 30 (aH p0),PRes.b b2 28 (ah p2),PRes.b b3 34 [pS ByteArray.empty,pS ByteArray.empty,pB false,pI 0,pI 0,pI 0,pI 0,pI 0]]) (fun (_,v5)=>q6=v5) ?_ ?_
 ·skip
  refine ae (an [19] [(20,pB (x4.2 != 0))] (by kernel_rfl) (ag (dJ rfl hq6 (fun hc7 hq6=>?_) fun hc7 hq6=>?_)))
  ·refine al [(7,pI 36524)] (by kernel_rfl) ?_
   obtain rfl:=osi hq6
   exact rc ((),36524) (zh5 rfl) (dZ (bS (bS bN)) (dZ (bS bN) dX)) rfl
  refine aj ?_
  obtain rfl:=osi hq6
  exact rc ((),x4.1) (zh5 rfl) (dZ (bS (bS bN)) (dZ (bS bN) dX)) rfl
 rintro ⟨_,v5⟩ τ ρ1 hsub8 hz;(try dsimp only at hz hsub8);subst q6;(try dsimp only at h);dsimp only [aZ]
 refine bI (pwq_sub hsub8 (bH (db (af (dR 13 [0,1,1,1,0,1] (rg 21 12) [(33,.agg [pS p0.Code,pS p2.Country,pB false,pI p2.Company,pI p2.Day,pI p0.Units,pI p2.Amount,pI 0])] (by kernel_rfl) (ap rfl (aT (cs:=[pS ByteArray.empty,pS ByteArray.empty,pB false,pI 0,pI 0,pI 0,pI 0,pI 0]) rfl rfl rfl rfl (fun b9=>aI rfl rfl (ai (vs:=[pS p0.Code,pS p2.Country,pB false,pI p2.Company,pI p2.Day,pI p0.Units,pI p2.Amount,pI 0]) rfl rfl rfl rfl rfl cU zl8 (aB (bI (bH (bH (db (aa h fun x10 hx10 h=>aD [] [34,35] [(36,.fn 37 [.ref [pL Za.enc p1] 0,.ref [pI 2] 0,.ref [pI v5] 0])] (bL 2 (cQ hx10) bU) (by kernel_rfl) (bI (eB (aa h fun q13 hq13 h=>?_))))))))))))))))))
 refine eA (Y:=Unit) (y0:=()) (R:=fun _ v11=>[PRes.b b1 30 (aH p0),PRes.b b2 28 (ah p2),PRes.b b3 34 [pS ByteArray.empty,pS ByteArray.empty,pB false,pI 0,pI 0,pI 0,pI 0,pI 0],PRes.b b9 34 [pS p0.Code,pS p2.Country,pB v11,pI p2.Company,pI p2.Day,pI p0.Units,pI p2.Amount,pI 0]]) (R':=fun t=>[]) hq13 rfl (cC hx10) rfl (by kernel_rfl) (by kernel_rfl) (dZ (bS bN) (dZ (bS bN) (dZ (bS bN) dX))) ?_ ?_ ?_
 ·rintro _ v11 x14 suf hs;obtain ⟨o,ho12,hk15⟩:=iD hs;clear hs;(try dsimp only at ho12);(try dsimp only [DFp])
  refine aj (iC (ar (af (aN 1 [(38,pP b9 2)] (by kernel_rfl) (aI rfl rfl (ai (vs:=[pB true]) rfl rfl rfl rfl rfl (ep (ep (ep cU))) (cV (cV gQ)) (aB (aw ?_))))))))
  exact ib ho12 hk15 () zs4
 ·rintro _ v11 D hr;subst hr;(try dsimp only at h);(try dsimp only)
  refine eC (bI (bH (bH (db (aa h fun x16 hx16 h=>aD [] [39,40] [(41,.fn 37 [.ref [pL Za.enc p1] 0,.ref [pI 3] 0,.ref [pI v5] 0])] (bL 2 (cQ hx16) bU) (by kernel_rfl) (bI (eB (aa h fun q19 hq19 h=>?_))))))))
  refine eA (Y:=Unit) (y0:=()) (R:=fun _ v17=>[PRes.b b1 30 (aH p0),PRes.b b2 28 (ah p2),PRes.b b3 34 [pS ByteArray.empty,pS ByteArray.empty,pB false,pI 0,pI 0,pI 0,pI 0,pI 0],PRes.b b9 34 [pS p0.Code,pS p2.Country,pB v11,pI p2.Company,pI p2.Day,pI p0.Units,pI v17,pI 0]]) (R':=fun t=>[]) hq19 rfl (cC hx16) rfl (by kernel_rfl) (by kernel_rfl) zs4 ?_ ?_ ?_
  ·rintro _ v17 x20 suf hs;obtain ⟨o,ho18,hk21⟩:=iD hs;clear hs;(try dsimp only at ho18);(try dsimp only [DFp])
   refine af (ap rfl (aT (cs:=[pI 0,pI 0,pI 0,pI 0,pS ByteArray.empty,pI 0,pI 0]) rfl rfl rfl rfl (fun b22=>aI rfl rfl (ai (vs:=(ah x20)) rfl rfl rfl rfl rfl cU zl7 (aB (iC (ar (af (dR 3 [0] [43] [(44,pI x20.Amount),(45,pP b9 6)] (by kernel_rfl) (aI rfl rfl (ai (vs:=[pI x20.Amount]) rfl rfl rfl rfl rfl (ep (ep (ep (ep cU)))) (cV (cV (cV (cV (cV (cV gQ)))))) (aB (aw ?_)))))))))))))
   exact ib ho18 hk21 () (dZ (bS bN) (dZ (bS bN) (dZ (bS bN) (dZ (bS bN) ez))))
  ·rintro _ v17 D hr;subst hr;(try dsimp only at h);(try dsimp only)
   refine eC (bI (bH (bH (db (aa h fun x23 hx23 h=>aD [] [46,47] [(48,.fn 37 [.ref [pL Za.enc p1] 0,.ref [pI 4] 0,.ref [pI v5] 0])] (bL 2 (cQ hx23) bU) (by kernel_rfl) (bI (eB (aa h fun q26 hq26 h=>?_))))))))
   refine eA (Y:=Unit) (y0:=()) (R:=fun _ v24=>[PRes.b b1 30 (aH p0),PRes.b b2 28 (ah p2),PRes.b b3 34 [pS ByteArray.empty,pS ByteArray.empty,pB false,pI 0,pI 0,pI 0,pI 0,pI 0],PRes.b b9 34 [pS p0.Code,pS v24,pB v11,pI p2.Company,pI p2.Day,pI p0.Units,pI v17,pI 0]]) (R':=fun t=>[]) hq26 rfl (cC hx23) rfl (by kernel_rfl) (by kernel_rfl) zs4 ?_ ?_ ?_
   ·rintro _ v24 x27 suf hs;obtain ⟨o,ho25,hk28⟩:=iD hs;clear hs;(try dsimp only at ho25);(try dsimp only [DFp])
    refine af (ap rfl (aT (cs:=[pI 0,pI 0,pI 0,pI 0,pS ByteArray.empty,pI 0,pI 0]) rfl rfl rfl rfl (fun b29=>aI rfl rfl (ai (vs:=(ah x27)) rfl rfl rfl rfl rfl cU zl7 (aB (iC (ar (af (dR 3 [0] [50] [(51,pS x27.Country),(52,pP b9 1)] (by kernel_rfl) (aI rfl rfl (ai (vs:=[pS x27.Country]) rfl rfl rfl rfl rfl (ep (ep (ep (ep cU)))) (cV gQ) (aB (aw ?_)))))))))))))
    exact ib ho25 hk28 () (dZ (bS bN) (dZ (bS bN) (dZ (bS bN) (dZ (bS bN) ez))))
   ·rintro _ v24 D hr;subst hr;(try dsimp only at h);(try dsimp only)
    refine eC (bI (bH (bH (db (aa h fun x30 hx30 h=>aD [0] [53,54] [(55,.fn 37 [.ref [pL Za.enc p0.Facts] 0,.ref [pI 5] 0,.ref [pI 36524] 0])] (bL 2 (cQ hx30) bU) (by kernel_rfl) (bI (eB (aa h fun q33 hq33 h=>?_))))))))
    refine eA (Y:=Unit) (y0:=()) (R:=fun _ v31=>[PRes.b b1 30 (aH p0),PRes.b b2 28 (ah p2),PRes.b b3 34 [pS ByteArray.empty,pS ByteArray.empty,pB false,pI 0,pI 0,pI 0,pI 0,pI 0],PRes.b b9 34 [pS p0.Code,pS v24,pB v11,pI p2.Company,pI p2.Day,pI p0.Units,pI v17,pI v31]]) (R':=fun t=>[]) hq33 rfl (cC hx30) rfl (by kernel_rfl) (by kernel_rfl) zs4 ?_ ?_ ?_
    ·rintro _ v31 x34 suf hs;obtain ⟨o,ho32,hk35⟩:=iD hs;clear hs;(try dsimp only at ho32);(try dsimp only [DFp])
     refine af (ap rfl (aT (cs:=[pI 0,pI 0,pI 0,pI 0,pS ByteArray.empty,pI 0,pI 0]) rfl rfl rfl rfl (fun b36=>aI rfl rfl (ai (vs:=(ah x34)) rfl rfl rfl rfl rfl cU zl7 (aB (iC (ar (af (dR 6 [1,0] [57,58,59,60] [(61,pI (d9 p0.Units x34.Amount)),(62,pP b9 7)] (by kernel_rfl) (aI rfl rfl (ai (vs:=[pI (d9 p0.Units x34.Amount)]) rfl rfl rfl rfl rfl (ep (ep (ep (ep cU)))) (cV (cV (cV (cV (cV (cV (cV gQ))))))) (aB (aw ?_)))))))))))))
     exact ib ho32 hk35 () (dZ (bS bN) (dZ (bS bN) (dZ (bS bN) (dZ (bS bN) ez))))
    ·rintro _ v31 D hr;subst hr;(try dsimp only at h);(try dsimp only)
     refine eC (bI (db (ae (af (fY 1 [3] [(63,.agg [pS p0.Code,pS v24,pB v11,pI p2.Company,pI p2.Day,pI p0.Units,pI v17,pI v31])] (by kernel_rfl) (aI rfl rfl (ai (vs:=[pS p0.Code,pS v24,pB v11,pI p2.Company,pI p2.Day,pI p0.Units,pI v17,pI v31]) rfl rfl rfl rfl rfl (ep (ep cU)) zl8 (aB (dH ?_)))))))))
     (repeat (first | apply am | apply aP | apply bK | apply d8 | apply dF | apply cS))
     obtain rfl:=osi h
     exact aQ (eJ (cX rfl zm2 rfl)) ez ⟨rfl,rfl⟩
    rintro t;exact t.elim
   rintro t;exact t.elim
  rintro t;exact t.elim
 rintro t;exact t.elim
def dC (p0:Zd):Option (Ze×Bool):=(cB p0).bind fun x4=>cond (x4 != 0) (some ((⟨ByteArray.empty,ByteArray.empty,false,0,0,0,0,0⟩:Ze),false)) ((aF p0.Facts).bind fun x6=>(aS x6 ).bind fun x7=>(bP x7 1 36524).bind fun x12=>(eR (S:=Unit) (T:=(Ze×Bool)) (fun _ x15=>(dV p0 x7 x15).bind fun x18=>some (.inr (x18,true))) () x12).bind fun q=>match q with | .inl _=>some ((⟨ByteArray.empty,ByteArray.empty,false,0,0,0,0,0⟩:Ze),false) | .inr e=>some e)
theorem e8 {p0:Zd} {r:(Ze×Bool)}  (h:dC p0=some r):PF 10 [.agg (aH p0)] (.tup [.agg (dQ r.1),pB r.2]):=by
 unfold dC at h
 refine bQ ?_
 refine lU Tryd.func10 (fnk Tryd.func10 rfl) rfl Tryd.ntmps10 Tryd.results10 rfl (bH (db (af (ap rfl (bY (cs:=(aH p0)) rfl rfl (fun b1=>ap rfl (aT (cs:=[pS ByteArray.empty,pS ByteArray.empty,pB false,pI 0,pI 0,pI 0,pI 0,pI 0]) rfl rfl rfl rfl (fun b2=>ap rfl (aT (cs:=[pB false]) rfl rfl rfl rfl (fun b3=>aB (bI (bH (db (ae (aa h fun x4 hx4 h=>aD [2] [6,7] [(8,pB (x4 != 0))] (bL 1 (eY hx4) bU) (by kernel_rfl) (ag (dJ rfl h (fun hc5 h=>?_) fun hc5 h=>?_)))))))))))))))))
 ·refine ae ?_
  refine af (aN 1 [(9,.agg [pS ByteArray.empty,pS ByteArray.empty,pB false,pI 0,pI 0,pI 0,pI 0,pI 0])] (by kernel_rfl) (aI rfl rfl (ai (vs:=[pS ByteArray.empty,pS ByteArray.empty,pB false,pI 0,pI 0,pI 0,pI 0,pI 0]) rfl rfl rfl rfl rfl (ep cU) zl8 (aI rfl rfl (ai (vs:=[pB false]) rfl rfl rfl rfl rfl cU gQ (aB (dH ?_)))))))
  (repeat (first | apply am | apply aP | apply bK | apply d8 | apply dF | apply cS))
  obtain rfl:=osi h
  exact aQ (dE (cX rfl zm1 rfl) (cX rfl fI rfl)) ez ⟨rfl,rfl⟩
 refine aj ?_
 refine bI (bH (db (aa h fun x6 hx6 h=>aa h fun x7 hx7 h=>af (bh 3 [2] [10,11] [(12,.fn 34 [.ref [pL Za.enc p0.Facts] 0])] (bL 2 (cK hx6) bU) (by kernel_rfl) ?_))))
 refine ap rfl (be rfl rfl (ρ1:=[]) (List.Perm.refl _) (dI (cD hx6) hx7) ?_);rintro _ _ ⟨a8,c9,rfl,rfl⟩
 refine ap rfl (aT (cs:=[pN]) rfl rfl rfl rfl (fun b11=>aI rfl rfl (ai (vs:=[pO a8 x7.length c9]) rfl rfl rfl rfl rfl cU gQ (aB (bI (bH (bH (db (af (fY 1 [0] [(14,pO a8 x7.length c9)] (by kernel_rfl) ?_))))))))))
 refine mE (enc:=Za.enc) (xs:=x7) 14 rfl (by exact bS bN) ?_
 refine aa h fun x12 hx12 h=>bh 1 [] [] [(15,.fn 37 [.ref [pL Za.enc x7] 0,.ref [pI 1] 0,.ref [pI 36524] 0])] (bL 0 (cQ hx12) bU) (by kernel_rfl) (kO (k:=0) (enc:=Za.enc) (xs:=x7) (b:=b11) (a:=a8) rfl fI (ep cU) (aB (bI (eB (aa h fun q14 hq14 h=>?_)))))
 refine eA (Y:=Unit) (y0:=()) (R:=fun _ _=>[PRes.b b1 30 (aH p0),PRes.b b11 24 [pL Za.enc x7],PRes.b b2 34 [pS ByteArray.empty,pS ByteArray.empty,pB false,pI 0,pI 0,pI 0,pI 0,pI 0],PRes.b b3 4 [pB false]]) (R':=fun t=>[PRes.b b2 34 (dQ t.1),PRes.b b3 4 [pB t.2]]) hq14 rfl (cC hx12) rfl (by kernel_rfl) (by kernel_rfl) (dZ (bS (bS (bS (bS bN)))) (dZ (bS bN) (dZ (bS (bS bN)) (dZ (bS bN) ez)))) ?_ ?_ ?_
 ·rintro _ _ x15 suf hs;obtain ⟨o,ho13,hk16⟩:=iD hs;clear hs;(try dsimp only at ho13);(try dsimp only [DFp])
  refine af (ap rfl (aT (cs:=[pI 0,pI 0,pI 0,pI 0,pS ByteArray.empty,pI 0,pI 0]) rfl rfl rfl rfl (fun b17=>aI rfl rfl (ai (vs:=(ah x15)) rfl rfl rfl rfl rfl cU zl7 (aB (iC (ar (ae (aa ho13 fun x18 hx18 ho13=>af (bh 4 [1,2,0] [17,18,19] [(20,.agg (dQ x18))] (bL 3 (jb hx18) bU) (by kernel_rfl) (aI rfl rfl (ai (vs:=(dQ x18)) rfl rfl rfl rfl rfl (ep (ep (ep cU))) zl8 (aI rfl rfl (ai (vs:=[pB true]) rfl rfl rfl rfl rfl (ep (ep (ep (ep cU)))) gQ (aB (dH ?_))))))))))))))))
  (repeat (first | apply am | apply aP | apply bK | apply d8 | apply dF | apply cS))
  exact pk_rngR ho13 hk16 (dZ (bS (bS (bS bN))) (dZ (bS (bS (bS bN))) ez))
 ·rintro _ _ D hr;subst hr;(try dsimp only at h);(try dsimp only)
  refine eC (bI (db (ae (af (aN 1 [(21,.agg [pS ByteArray.empty,pS ByteArray.empty,pB false,pI 0,pI 0,pI 0,pI 0,pI 0])] (by kernel_rfl) (aI rfl rfl (ai (vs:=[pS ByteArray.empty,pS ByteArray.empty,pB false,pI 0,pI 0,pI 0,pI 0,pI 0]) rfl rfl rfl rfl rfl (ep (ep cU)) zl8 (aI rfl rfl (ai (vs:=[pB false]) rfl rfl rfl rfl rfl (ep (ep (ep cU))) gQ (aB (dH ?_)))))))))))
  (repeat (first | apply am | apply aP | apply bK | apply d8 | apply dF | apply cS))
  obtain rfl:=osi h
  exact aQ (dE (cX rfl zm2 rfl) (cX rfl zm3 rfl)) ez ⟨rfl,rfl⟩
 rintro t D hr;subst hr;(try dsimp only at h);(try dsimp only)
 (repeat (first | apply am | apply aP | apply bK | apply d8 | apply dF | apply cS))
 obtain rfl:=osi h
 exact aQ (dE (cX rfl fI rfl) (cX rfl zm1 rfl)) ez ⟨rfl,rfl⟩
def bx (p0:Zd) (p1:Za):Option (Zd×Int):=(cB p0).bind fun x4=>cond (x4 != 0) (some ((⟨0,ByteArray.empty,0,[]⟩:Zd),x4)) ((cd p1).bind fun x6=>cond (!x6) (some ((⟨0,ByteArray.empty,0,[]⟩:Zd),(2:Int))) ((ak p0.Facts p1 (fun y8 y9=>bt y8 y9)).bind fun x10=>(gd x10.2 (idx p0.Facts x10.1)).bind fun m11=>cond (x10.2&&(!(Za.eqb m11 p1))) (some ((⟨0,ByteArray.empty,0,[]⟩:Zd),(14:Int))) (cond ((!x10.2)&&(decide (200≤(p0.Facts.length:Int)))) (some ((⟨0,ByteArray.empty,0,[]⟩:Zd),(8:Int))) ((aK p0.Facts).bind fun x14=>Option.bind (cond (!x10.2) ((av x14 x10.1 [p1]).bind fun x26=>some x26) (some x14)) (fun l21=>some ((⟨p0.Source,p0.Code,p0.Units,l21⟩:Zd),(0:Int)))))))
theorem dW {p0:Zd} {p1:Za} {r:(Zd×Int)}  (h:bx p0 p1=some r):PF 13 [.agg (aH p0),.agg (ah p1)] (.tup [.agg (aH r.1),pI r.2]):=by
 unfold bx at h
 refine bQ ?_
 refine aO Tryd.func13 rfl Tryd.ntmps13 Tryd.results13 rfl (ae (af (ap rfl (bY (cs:=(aH p0)) rfl rfl (fun b1=>ap rfl (bY (cs:=(ah p1)) rfl rfl (fun b2=>ap rfl (aT (cs:=[pI 0,pS ByteArray.empty,pI 0,pN]) rfl rfl rfl rfl (fun b3=>cN [5] (by kernel_rfl) (bA (ae (aa h fun x4 hx4 h=>aD [2] [9,10] [(6,pI x4)] (bL 1 (eY hx4) bU) (by kernel_rfl) (bA (an [11] [(12,pB (x4 != 0))] (by kernel_rfl) (ag (dJ rfl h (fun hc5 h=>?_) fun hc5 h=>?_))))))))))))))))
 ·refine ae ?_
  refine af (aN 2 [(13,.agg [pI 0,pS ByteArray.empty,pI 0,pN]),(14,pI x4)] (by kernel_rfl) (aI rfl rfl (ai (vs:=[pI 0,pS ByteArray.empty,pI 0,pN]) rfl rfl rfl rfl rfl cU ny (aJ [(5,pI x4)] (by kernel_rfl) (ag (fg (k:=3) (b:=b3) rfl cU (cq (am ?_))))))))
  obtain rfl:=osi h
  exact aQ (dE (cX rfl fI rfl) (aV rfl)) ez ⟨rfl,rfl⟩
 refine aj ?_
 refine bA (ae (aa h fun x6 hx6 h=>aD [1] [15,16] [(17,pB (!x6))] (bL 1 (eP hx6) bU) (by kernel_rfl) (ag (dJ rfl h (fun hc7 h=>?_) fun hc7 h=>?_))))
 ·refine ae ?_
  refine af (aN 1 [(18,.agg [pI 0,pS ByteArray.empty,pI 0,pN])] (by kernel_rfl) (aI rfl rfl (ai (vs:=[pI 0,pS ByteArray.empty,pI 0,pN]) rfl rfl rfl rfl rfl cU ny (aJ [(5,pI 2)] (by kernel_rfl) (ag (fg (k:=3) (b:=b3) rfl cU (cq (am ?_))))))))
  obtain rfl:=osi h
  exact aQ (dE (cX rfl fI rfl) (aV rfl)) ez ⟨rfl,rfl⟩
 refine aj ?_
 refine bA (aa h fun x10 hx10 h=>aD [2,1] [20,21,22,23,19,24,25] [(7,pI x10.1),(8,pB x10.2)] (bL 3 (bm (fun hr=>pfv_of (dS hr)) hx10) bU) (by kernel_rfl) (bA (ae (cx (ρd:=[]) [(0,0),(1,0),(2,0),(3,0),(4,0),(5,0),(6,0),(7,0),(8,0),(9,0)] _ (List.Perm.refl _) (by kernel_rfl) rfl (aa h fun m11 hm11 h=>cu 10 [2,1] (rg 26 9) [(35,pB (x10.2&&(!(Za.eqb m11 p1))))] (rD 5 Za.enc (iy hm11) (foeq 8 Za.eqok28 bU)) (by kernel_rfl) (dh (ag (dJ rfl h (fun hc12 h=>?_) fun hc12 h=>?_))))))))
 ·refine ae ?_
  refine af (aN 1 [(36,.agg [pI 0,pS ByteArray.empty,pI 0,pN])] (by kernel_rfl) (aI rfl rfl (ai (vs:=[pI 0,pS ByteArray.empty,pI 0,pN]) rfl rfl rfl rfl rfl cU ny (aJ [(5,pI 14)] (by kernel_rfl) (ag (fg (k:=3) (b:=b3) rfl cU (cq (am ?_))))))))
  obtain rfl:=osi h
  exact aQ (dE (cX rfl fI rfl) (aV rfl)) ez ⟨rfl,rfl⟩
 refine aj ?_
 refine bA (ae (bT [2] (rg 37 7) [(44,pB ((!x10.2)&&(decide (200≤(p0.Facts.length:Int)))))] (by kernel_rfl) (ag (dJ rfl h (fun hc13 h=>?_) fun hc13 h=>?_))))
 ·refine ae ?_
  refine af (aN 1 [(45,.agg [pI 0,pS ByteArray.empty,pI 0,pN])] (by kernel_rfl) (aI rfl rfl (ai (vs:=[pI 0,pS ByteArray.empty,pI 0,pN]) rfl rfl rfl rfl rfl cU ny (aJ [(5,pI 8)] (by kernel_rfl) (ag (fg (k:=3) (b:=b3) rfl cU (cq (am ?_))))))))
  obtain rfl:=osi h
  exact aQ (dE (cX rfl fI rfl) (aV rfl)) ez ⟨rfl,rfl⟩
 refine aj ?_
 refine bA (aa h fun x14 hx14 h=>af (dR 2 [2] [46] [(47,pL Za.enc p0.Facts)] (by kernel_rfl) ?_))
 refine ap rfl (be rfl rfl (ρ1:=[]) (List.Perm.refl _) (cO hx14) ?_);rintro _ _ ⟨a15,c16,rfl,rfl⟩
 refine aN 1 [(49,pP b1 3)] (by kernel_rfl) (aI rfl rfl (ai (vs:=[pO a15 x14.length c16]) rfl rfl rfl rfl rfl (ep (ep (ep cU))) (cV (cV (cV gQ))) (aB (bA (ae (an [50] [(51,pB (!x10.2))] (by kernel_rfl) (ag (aa h fun q22 hq22 h=>?_))))))))
 refine bl (Y:=(Option Addr×Nat)×((List Za))) (fun ((a19,c20),l21)=>[(2,pP b1 0),(4,pP b3 0)]) (fun ((a19,c20),l21)=>[PRes.b b1 30 [pI p0.Source,pS p0.Code,pI p0.Units,pO a19 l21.length c20],PRes.b b3 30 [pI 0,pS ByteArray.empty,pI 0,pN],PRes.row a19 l21.length c20 28 7 (List.map Za.enc l21)]) (fun ((a19,c20),l21)=>q22=l21) ?_ ?_
 ·skip
  refine dJ rfl hq22 (fun hc23 hq22=>?_) fun hc23 hq22=>?_
  ·refine af ?_
   refine dR 4 [3,2] [52] [(53,pO a15 x14.length c16),(54,pI x10.1),(55,.agg (ah p1))] (by kernel_rfl) (ap rfl (eM rfl rfl rfl rfl rfl (nx rfl rq) rfl rfl rfl rfl (fun b24=>aa hq22 fun x26 hx26 hq22=>?_)))
   refine ap rfl (be rfl rfl (ρ1:=[_,_]) (aW (by exact bS bN) (aW (by exact bN) (List.Perm.refl _))) (cL hx26) ?_);rintro _ _ ⟨a27,c28,rfl,rfl⟩
   refine aN 1 [(58,pP b1 3)] (by kernel_rfl) (aI rfl rfl (ai (vs:=[pO a27 x26.length c28]) rfl rfl rfl rfl rfl (ep (ep (ep cU))) (cV (cV (cV gQ))) (aB ?_)))
   obtain rfl:=osi hq22
   exact aY ((a27,c28),x26) (zh2 rfl) (dZ (bS (bS (bS bN))) (dZ (bS bN) dX)) rfl
  refine aj ?_
  obtain rfl:=osi hq22
  exact aY ((a15,c16),x14) (zh2 rfl) (dZ (bS (bS (bS bN))) (dZ (bS bN) dX)) rfl
 rintro ⟨⟨a19,c20⟩,l21⟩ τ hz;(try dsimp only at hz);subst q22;(try dsimp only at h);dsimp only [aZ]
 refine ae (af ?_)
 refine oz (css:=List.map Za.enc l21) (a:=a19) (by exact bS (bS bN)) ?_
 refine kO (k:=3) (enc:=Za.enc) (xs:=l21) (b:=b1) (a:=a19) rfl fI (ep cU) (fY 1 [1] [(59,.agg [pI p0.Source,pS p0.Code,pI p0.Units,pL Za.enc l21])] (by kernel_rfl) (aI rfl rfl (ai (vs:=[pI p0.Source,pS p0.Code,pI p0.Units,pL Za.enc l21]) rfl rfl rfl rfl rfl (ep (ep cU)) ny (aJ [(5,pI 0)] (by kernel_rfl) (dH ?_)))))
 obtain rfl:=osi h
 exact aQ (dE (cX rfl zm2 rfl) (aV rfl)) ez ⟨rfl,rfl⟩
def e6  : Option Bool:=(fm 7 (⟨#[49,48,48,48,48,48,48,48]⟩:ByteArray) 10).bind fun x1=>(bx x1.1 (⟨100,2,900,3,ByteArray.empty,80,0⟩:Za)).bind fun x3=>(bx x3.1 (⟨100,1,5,1,(⟨#[65,65]⟩:ByteArray),100,0⟩:Za)).bind fun x4=>(bx x4.1 (⟨100,3,1300,3,ByteArray.empty,70,0⟩:Za)).bind fun x5=>(dC x5.1).bind fun x6=>some ((((((x1.2 == 0)&&(x3.2 == 0))&&(x4.2 == 0))&&(x5.2 == 0))&&x6.2)&&(Ze.eqb x6.1 (⟨(⟨#[49,48,48,48,48,48,48,48]⟩:ByteArray),(⟨#[65,65]⟩:ByteArray),false,0,5,10,80,0⟩:Ze)))
theorem km  {r:Bool}  (h:e6  = some r):PF 12 [] (pB r):=by
 unfold e6 at h
 refine bQ ?_
 refine aO Tryd.func12 rfl Tryd.ntmps12 Tryd.results12 rfl (ae (bf [0] (by kernel_rfl) (bA (aa h fun x1 hx1 h=>af (bh 4 [] [9,8] [(10,.agg (aH x1.1)),(11,pI x1.2)] (bL 0 (hX hx1) bU) (by kernel_rfl) (ap rfl (aT (cs:=[pI 0,pS ByteArray.empty,pI 0,pN]) rfl rfl rfl rfl (fun b2=>aI rfl rfl (ai (vs:=(aH x1.1)) rfl rfl rfl rfl rfl cU ny (aJ [(2,pI x1.2)] (by kernel_rfl) (bA (aa h fun x3 hx3 h=>af (bh 6 [0] [13,14,15,12] [(16,.agg (aH x3.1)),(17,pI x3.2)] (bL 2 (dW hx3) bU) (by kernel_rfl) (aI rfl rfl (ai (vs:=(aH x3.1)) rfl rfl rfl rfl rfl cU ny (aJ [(3,pI x3.2)] (by kernel_rfl) (bA (aa h fun x4 hx4 h=>af (bh 6 [0] [19,20,21,18] [(22,.agg (aH x4.1)),(23,pI x4.2)] (bL 2 (dW hx4) bU) (by kernel_rfl) (aI rfl rfl (ai (vs:=(aH x4.1)) rfl rfl rfl rfl rfl cU ny (aJ [(4,pI x4.2)] (by kernel_rfl) (bA (aa h fun x5 hx5 h=>af (bh 6 [0] [25,26,27,24] [(28,.agg (aH x5.1)),(29,pI x5.2)] (bL 2 (dW hx5) bU) (by kernel_rfl) (aI rfl rfl (ai (vs:=(aH x5.1)) rfl rfl rfl rfl rfl cU ny (aJ [(5,pI x5.2)] (by kernel_rfl) (bA (aa h fun x6 hx6 h=>af (bh 5 [0] [31,32,30] [(33,.agg (dQ x6.1)),(34,pB x6.2)] (bL 1 (e8 hx6) bU) (by kernel_rfl) (ap rfl (aT (cs:=[pS ByteArray.empty,pS ByteArray.empty,pB false,pI 0,pI 0,pI 0,pI 0,pI 0]) rfl rfl rfl rfl (fun b7=>aI rfl rfl (ai (vs:=(dQ x6.1)) rfl rfl rfl rfl rfl cU zl8 (aJ [(7,pB x6.2)] (by kernel_rfl) ?_))))))))))))))))))))))))))))))))))))
 refine bA (aD [0] (rg 35 22) [(0,pB ((((((x1.2 == 0)&&(x3.2 == 0))&&(x4.2 == 0))&&(x5.2 == 0))&&x6.2)&&(Ze.eqb x6.1 (⟨(⟨#[49,48,48,48,48,48,48,48]⟩:ByteArray),(⟨#[65,65]⟩:ByteArray),false,0,5,10,80,0⟩:Ze))))] (foeq 20 Ze.eqok34 bU) (by kernel_rfl) (dH ?_))
 exact zz r h rfl
def ed (p0:Int) (p1:(List Za)):Option (Zd×Bool):=(fm 7 (⟨#[49,48,48,48,48,48,48,48]⟩:ByteArray) p0).bind fun x2=>(bG (S:=Int×Int×Int×ByteArray×Int×(List Za)) (T:=(Int×Int×ByteArray×Int×(List Za))) (fun (v4,v5,v6,v7,v8,l9)=>cond ((decide (v5<(p1.length:Int)))&&(v4 == 0)) ((idx p1 v5).bind fun m18=>(bx (⟨v6,v7,v8,l9⟩:Zd) m18).bind fun x19=>some (.inl (x19.2,(IntKind.i64.wrap (v5+1)),x19.1.Source,x19.1.Code,x19.1.Units,x19.1.Facts))) (some (.inr (v4,v6,v7,v8,l9)))) FUEL (x2.2,0,x2.1.Source,x2.1.Code,x2.1.Units,x2.1.Facts)).bind fun (v10,v11,v12,v13,l14)=>some ((⟨v11,v12,v13,l14⟩:Zd),(v10 == 0))
theorem gx {p0:Int} {p1:(List Za)} {r:(Zd×Bool)}  (h:ed p0 p1=some r):PF 9 [pI p0,pL Za.enc p1] (.tup [.agg (aH r.1),pB r.2]):=by
 unfold ed at h
 refine bQ ?_
 refine aO Tryd.func9 rfl Tryd.ntmps9 Tryd.results9 rfl (ae (af (ap rfl (aT (cs:=[pI 0,pS ByteArray.empty,pI 0,pN]) rfl rfl rfl rfl (fun b1=>cN [5] (by kernel_rfl) (bA (aa h fun x2 hx2 h=>af (bh 5 [] [10,11,9] [(12,.agg (aH x2.1)),(13,pI x2.2)] (bL 1 (hX hx2) bU) (by kernel_rfl) (ap rfl (aT (cs:=[pI 0,pS ByteArray.empty,pI 0,pN]) rfl rfl rfl rfl (fun b3=>aI rfl rfl (ai (vs:=(aH x2.1)) rfl rfl rfl rfl rfl cU ny (aJ [(7,pI x2.2)] (by kernel_rfl) (bA (ae (al [(8,pI 0)] (by kernel_rfl) (ag (aa h fun q16 hq16 h=>?_))))))))))))))))))
 refine bl (Y:=Unit×(Int×Int×ByteArray×Int×(List Za))) (fun (_,(v10,v11,v12,v13,l14))=>[(4,pP b1 0),(6,pP b3 0),(7,pI v10)]) (fun (_,(v10,v11,v12,v13,l14))=>[PRes.b b1 30 [pI 0,pS ByteArray.empty,pI 0,pN],PRes.b b3 30 [pI v11,pS v12,pI v13,pL Za.enc l14]]) (fun (_,(v10,v11,v12,v13,l14))=>q16=(v10,v11,v12,v13,l14)) ?_ ?_
 ·refine ar ?_
  refine bB (Y:=Unit) (S:=Int×Int×Int×ByteArray×Int×(List Za)) _ hq16 (fun _ (v4,v5,v6,v7,v8,l9)=>[(1,pL Za.enc p1),(4,pP b1 0),(6,pP b3 0),(7,pI v4),(8,pI v5)]) (fun _ (v4,v5,v6,v7,v8,l9)=>[PRes.b b1 30 [pI 0,pS ByteArray.empty,pI 0,pN],PRes.b b3 30 [pI v6,pS v7,pI v8,pL Za.enc l9]]) () (zh5 rfl) (dZ (bS bN) dX) ?_
  rintro _ ⟨v4,v5,v6,v7,v8,l9⟩ o τ hb15;(try dsimp only at hb15);dsimp only [aZ]
  refine ae (ae (an (rg 14 7) [(21,pB ((decide (v5<(p1.length:Int)))&&(v4 == 0)))] (by kernel_rfl) (ag (dJ rfl hb15 (fun hc17 hb15=>?_) fun hc17 hb15=>?_))))
  ·refine aj ?_
   refine bA (ar (aa hb15 fun m18 hm18 hb15=>aa hb15 fun x19 hx19 hb15=>kR (ρd:=[PRes.b b3 _ _]) _ (aW (bS bN) (List.Perm.refl _)) (cy 1 (by kernel_rfl) rfl rfl rfl rfl (fA (p:=pL Za.enc p1) rfl (.p rfl)) (cy 2 (by kernel_rfl) rfl rfl rfl rfl (fA (p:=pI v5) rfl (.p rfl)) (cy 3 (by kernel_rfl) rfl rfl rfl rfl (rn (enc:=Za.enc) rfl rfl rfl (fun _=>rfl) (.p rfl) (.p rfl) (fun _=>hm18)) (cy 4 (by kernel_rfl) rfl rfl rfl rfl (kQ (p:=.agg (ah m18)) rfl (.p rfl) rfl) (bs 0 (by kernel_rfl) (bO rfl rfl rfl rfl (fL (bd (p:=.agg [pI v6,pS v7,pI v8,pL Za.enc l9]) rfl (.p rfl) fI rfl) (bs 5 (by kernel_rfl) (cI rfl rfl rfl rfl rfl rfl (dW hx19) (cy 6 (by kernel_rfl) rfl rfl rfl rfl (fA (p:=.tup [.agg (aH x19.1),pI x19.2]) rfl (.p rfl)) (cy 7 (by kernel_rfl) rfl rfl rfl rfl (fB (p:=.agg (aH x19.1)) rfl (.p rfl) rfl) (cy 8 (by kernel_rfl) rfl rfl rfl rfl (fB (p:=pI x19.2) rfl (.p rfl) rfl) (bs 9 (by kernel_rfl) (dP rfl rfl rfl (ai (vs:=(aH x19.1)) rfl rfl rfl rfl rfl cU ny (cy 10 (by kernel_rfl) rfl rfl rfl rfl (bR (p:=pI x19.2) rfl (.p rfl)) (dO (by kernel_rfl) (aw (ag (an [22,23] [(8,pI (IntKind.i64.wrap (v5+1)))] (by kernel_rfl) ?_))))))))))))))))))))))
   exact cr hb15 () (zh5 rfl) (dZ (bS bN) dX)
  refine bD ?_
  refine ba (aU hb15 (fun ht=>bc rfl ?_))
  exact aY ((),(v4,v6,v7,v8,l9)) (kS rfl) zs2 ht.symm
 rintro ⟨_,⟨v10,v11,v12,v13,l14⟩⟩ τ hz;(try dsimp only at hz);subst q16;(try dsimp only at h);dsimp only [aZ]
 refine ae (af (dR 3 [1] [34] [(33,.agg [pI v11,pS v12,pI v13,pL Za.enc l14]),(35,pB (v10 == 0))] (by kernel_rfl) (aI rfl rfl (ai (vs:=[pI v11,pS v12,pI v13,pL Za.enc l14]) rfl rfl rfl rfl rfl cU ny (aJ [(5,pB (v10 == 0))] (by kernel_rfl) (dH ?_))))))
 obtain rfl:=osi h
 exact aQ (dE (cX rfl fI rfl) (aV rfl)) ez ⟨rfl,rfl⟩
def dj (p0:(List Int)) (p1:(List Int)) (p2:Int):Option Bool:=(cY p2 50).bind fun x1=>(cZ p0).bind fun x2=>(eO (x2.length:Int) p1).bind fun x3=>(bG (S:=(List Za)×Int) (T:=((List Za))) (fun (l5,v8)=>cond (decide (v8<(x3.length:Int))) ((idx x3 v8).bind fun m17=>(idx x2 m17).bind fun m18=>(app 64 l5 [m18]).bind fun l21=>some (.inl (l21,(IntKind.i64.wrap (v8+1))))) (some (.inr l5))) FUEL (([]:List Za),0)).bind fun l12=>(ed (IntKind.i64.wrap (1+x1)) x2).bind fun x25=>(app 64 l12 l12).bind fun l27=>(ed (IntKind.i64.wrap (1+x1)) l27).bind fun x31=>(dC x25.1).bind fun x33=>(dC x31.1).bind fun x35=>(gd (x25.2&&x31.2) (da x25.1 x31.1)).bind fun x37=>(gd ((((x25.2&&x31.2)&&x37)&&(Ze.eqb x33.1 x35.1))&&(x33.2 == x35.2)) (e6)).bind fun x38=>some (((((x25.2&&x31.2)&&x37)&&(Ze.eqb x33.1 x35.1))&&(x33.2 == x35.2))&&x38)
theorem gm {p0:(List Int)} {p1:(List Int)} {p2:Int} {r:Bool}  (h:dj p0 p1 p2=some r):PF 3 [pL eI p0,pL eI p1,pI p2] (pB r):=by
 unfold dj at h
 refine bQ ?_
 refine aO Tryd.func3 rfl Tryd.ntmps3 Tryd.results3 rfl (ae (bf [6] (by kernel_rfl) (bA (aa h fun x1 hx1 h=>aD [] [19,20,21] [(2,pI (IntKind.i64.wrap (1+x1)))] (bL 1 (fZ hx1) bU) (by kernel_rfl) (bA (aa h fun x2 hx2 h=>aD [] [22,23] [(7,pL Za.enc x2)] (bL 1 (gZ hx2) bU) (by kernel_rfl) (bA (al [(8,pN)] (by kernel_rfl) (bA (aa h fun x3 hx3 h=>aD [] [24,25,26,27] [(9,pL eI x3)] (bL 3 (kA hx3) bU) (by kernel_rfl) (bA (ae (al [(10,pI 0)] (by kernel_rfl) (ag (eK 28 7 (aa h fun q14 hq14 h=>?_))))))))))))))))
 refine bl (Y:=(Option Addr×Nat)×((List Za))) (fun ((a10,c11),l12)=>[(2,pI (IntKind.i64.wrap (1+x1))),(7,pL Za.enc x2),(8,pO a10 l12.length c11)]) (fun ((a10,c11),l12)=>[PRes.row a10 l12.length c11 28 7 (List.map Za.enc l12)]) (fun ((a10,c11),l12)=>q14=l12) ?_ ?_
 ·refine ar ?_
  refine bB (Y:=Option Addr×Nat) (S:=(List Za)×Int) _ hq14 (fun (a6,c7) (l5,v8)=>[(2,pI (IntKind.i64.wrap (1+x1))),(7,pL Za.enc x2),(8,pO a6 l5.length c7),(9,pL eI x3),(10,pI v8)]) (fun (a6,c7) (l5,v8)=>[PRes.row a6 l5.length c7 28 7 (List.map Za.enc l5)]) (none,0) (zh5 rfl) dX ?_
  rintro ⟨a6,c7⟩ ⟨l5,v8⟩ o τ hb13;(try dsimp only at hb13);dsimp only [aZ]
  refine ae (ae (an [28,29,30] [(31,pB (decide (v8<(x3.length:Int))))] (by kernel_rfl) (ag (dJ rfl hb13 (fun hc16 hb13=>?_) fun hc16 hb13=>?_))))
  ·refine aj ?_
   refine bA (ar (aa hb13 fun m17 hm17 hb13=>aa hb13 fun m18 hm18 hb13=>af (bh 8 [] (rg 35 6) [(34,pO a6 l5.length c7),(41,.agg (ah m18))] (gU 4 eI hm17 (gU 6 Za.enc hm18 bU)) (by kernel_rfl) (ap rfl (eM rfl rfl rfl rfl rfl (nx rfl rq) rfl rfl rfl rfl (fun b19=>aa hb13 fun l21 hl21 hb13=>?_))))))
   refine ap rfl (ff (enc:=Za.enc) rfl rfl rfl rfl rfl rfl rfl rfl rfl fI (by exact bS bN) hl21 (fun a22 c23=>?_))
   refine aJ [(8,pO a22 l21.length c23)] (by kernel_rfl) (aw (ag (an [32,33] [(10,pI (IntKind.i64.wrap (v8+1)))] (by kernel_rfl) ?_)))
   exact cr hb13 (a22,c23) (zh5 rfl) dX
  refine bD ?_
  refine ba (aU hb13 (fun ht=>bc rfl ?_))
  exact aY ((a6,c7),l5) (kS rfl) dX ht.symm
 rintro ⟨⟨a10,c11⟩,l12⟩ τ hz;(try dsimp only at hz);subst q14;(try dsimp only at h);dsimp only [aZ]
 refine ae (aa h fun x25 hx25 h=>af (bh 6 [] [45,46,47,44] [(48,.agg (aH x25.1)),(49,pB x25.2)] (bL 2 (gx hx25) bU) (by kernel_rfl) (ap rfl (aT (cs:=[pI 0,pS ByteArray.empty,pI 0,pN]) rfl rfl rfl rfl (fun b26=>aI rfl rfl (ai (vs:=(aH x25.1)) rfl rfl rfl rfl rfl cU ny (aJ [(12,pB x25.2)] (by kernel_rfl) (bA (aa h fun l27 hl27 h=>af (aN 3 [(51,pI (IntKind.i64.wrap (1+x1))),(52,pO a10 l12.length c11),(53,pO a10 l12.length c11)] (by kernel_rfl) ?_))))))))))
 refine ap rfl (ff (enc:=Za.enc) rfl rfl rfl rfl rfl rfl rfl rfl rfl zm1 (by exact bS bN) hl27 (fun a28 c29=>?_))
 refine mE (enc:=Za.enc) (xs:=l27) 54 rfl (by exact bN) ?_
 refine aa h fun x31 hx31 h=>bh 4 [] [55,50] [(56,.agg (aH x31.1)),(57,pB x31.2)] (bL 0 (gx hx31) bU) (by kernel_rfl) (ap rfl (aT (cs:=[pI 0,pS ByteArray.empty,pI 0,pN]) rfl rfl rfl rfl (fun b32=>aI rfl rfl (ai (vs:=(aH x31.1)) rfl rfl rfl rfl rfl cU ny (aJ [(14,pB x31.2)] (by kernel_rfl) (bA (aa h fun x33 hx33 h=>af (bh 5 [2] [59,60,58] [(61,.agg (dQ x33.1)),(62,pB x33.2)] (bL 1 (e8 hx33) bU) (by kernel_rfl) (ap rfl (aT (cs:=[pS ByteArray.empty,pS ByteArray.empty,pB false,pI 0,pI 0,pI 0,pI 0,pI 0]) rfl rfl rfl rfl (fun b34=>aI rfl rfl (ai (vs:=(dQ x33.1)) rfl rfl rfl rfl rfl cU zl8 (aJ [(16,pB x33.2)] (by kernel_rfl) (bA (aa h fun x35 hx35 h=>af (bh 5 [1] [64,65,63] [(66,.agg (dQ x35.1)),(67,pB x35.2)] (bL 1 (e8 hx35) bU) (by kernel_rfl) (ap rfl (aT (cs:=[pS ByteArray.empty,pS ByteArray.empty,pB false,pI 0,pI 0,pI 0,pI 0,pI 0]) rfl rfl rfl rfl (fun b36=>aI rfl rfl (ai (vs:=(dQ x35.1)) rfl rfl rfl rfl rfl cU zl8 (aJ [(18,pB x35.2)] (by kernel_rfl) (bA (aa h fun x37 hx37 h=>aa h fun x38 hx38 h=>aD [4,2,1,0] (rg 68 22) [(6,pB (((((x25.2&&x31.2)&&x37)&&(Ze.eqb x33.1 x35.1))&&(x33.2 == x35.2))&&x38))] (mQ 7 (fun hc=>hU (iy hx37 hc)) (foeq 12 Ze.eqok34 (mQ 20 (fun hc=>km (iy hx38 hc)) bU))) (by kernel_rfl) (dH ?_))))))))))))))))))))))))
 exact zz r h rfl
end SX
namespace SX
open Go
def kn (s:ByteArray):Bool:=match s.data.toList with | [a,b]=>decide (65≤(a.toNat:Int))&&decide ((a.toNat:Int)≤90)&&decide (65≤(b.toNat:Int))&&decide ((b.toNat:Int)≤90) | _=>false
theorem sj {s:ByteArray} (h:((s.size:Int) == 2)=true):∃ a b,s.data.toList=[a,b]:=by
 have h2:s.data.toList.length=2:=by
  have:=eq_of_beq h
  rw [Array.length_toList];have e:s.size=s.data.size:=rfl;omega
 match hd:s.data.toList,h2 with
 | [a,b],_=>exact ⟨a,b,rfl⟩
theorem not_two {s:ByteArray} (h:((s.size:Int) == 2)=false):kn s=false:=by
 unfold kn
 split
 ·rename_i a b hd
  have:s.data.toList.length=2:=by rw [hd];rfl
  rw [Array.length_toList] at this
  have e:s.size=s.data.size:=rfl
  have:(s.size:Int)=2:=by omega
  rw [this] at h;cases h
 rfl
theorem ob (s:ByteArray):bC s=some (kn s):=by
 unfold bC
 cases hs:((s.size:Int) == 2) with
 | false=>rw [not_two hs];rfl
 | true =>
  obtain ⟨a,b,hd⟩:=sj hs
  have e0:idx s.data.toList 0=some a:=by rw [hd];rfl
  have e1:idx s.data.toList 1=some b:=by rw [hd];rfl
  rw [e0,e1]
  have hc:kn s=(decide (65≤(a.toNat:Int))&&decide ((a.toNat:Int)≤90)&&decide (65≤(b.toNat:Int))&&decide ((b.toNat:Int)≤90)):=by unfold kn;rw [hd]
  rw [hc]
  simp only [gt,dp,Bool.true_and]
  cases h1:decide (65≤(a.toNat:Int)) <;> cases h2:decide ((a.toNat:Int)≤90) <;> cases h3:decide (65≤(b.toNat:Int)) <;> simp [gt,kW,h1,h2,h3]
def fJ (x:Za) (v3 v4:Int) (v5:Bool):Bool:=cond ((v5 && !kn x.Country)||(!v5 && !decide (x.Country=(⟨#[]⟩:ByteArray)))) false (decide (0≤x.Amount)&&decide (x.Amount≤v3)&&decide (0≤x.Company)&&decide (x.Company≤v4))
def il (x:Za):Bool:=cond (x.Kind == 1) (fJ x 1000000000000 999 true) (cond (x.Kind == 2) (fJ x 0 0 false) (cond (x.Kind == 3) (fJ x 1000000000000 0 false) (cond (x.Kind == 4) (fJ x 0 0 true) (cond (x.Kind == 5) (fJ x 1000000000 0 false) false))))
def eo (x:Za):Bool:=cond (decide (x.From<0)||decide (999<x.From)||decide (x.Number<1)||decide (1000000000<x.Number)||decide (x.Day<0)||decide (36524<x.Day)) false (il x)
theorem lX (x:Za):cd x=some (eo x):=by
 have hT:∀ (v3 v4:Int) (v5:Bool),(Option.bind (gd v5 (bC x.Country)) (fun x12=>cond ((v5&&(!x12))||((!v5)&&(!decide (x.Country=(⟨#[]⟩:ByteArray))))) (some false) (some ((((decide (0≤x.Amount))&&(decide (x.Amount≤v3)))&&(decide (0≤x.Company)))&&(decide (x.Company≤v4))))))=some (fJ x v3 v4 v5):=fun v3 v4 v5=>by
  rw [ob]
  unfold fJ
  cases v5
  ·rw [kW]
   simp only [dp,Bool.false_and,Bool.not_false,Bool.true_and,Bool.false_or]
   cases (!decide (x.Country=(⟨#[]⟩:ByteArray))) <;> rfl
  rw [gt]
  simp only [dp,Bool.true_and,Bool.not_true,Bool.false_and,Bool.or_false]
  cases (!kn x.Country) <;> rfl
 unfold cd eo il
 cases (decide (x.From<0)||decide (999<x.From)||decide (x.Number<1)||decide (1000000000<x.Number)||decide (x.Day<0)||decide (36524<x.Day))
 ·simp only [e9]
  cases x.Kind == 1
  ·cases x.Kind == 2
   ·cases x.Kind == 3
    ·cases x.Kind == 4
     ·cases x.Kind == 5
      ·rfl
      simp only [e9,dY,dp];exact hT _ _ _
     simp only [e9,dY,dp];exact hT _ _ _
    simp only [e9,dY,dp];exact hT _ _ _
   simp only [e9,dY,dp];exact hT _ _ _
  simp only [dY,dp];exact hT _ _ _
 rfl
theorem qa {x:Za} (h:eo x=true):0≤x.Day∧x.Day≤36524:=by
 unfold eo at h
 cases hc:(decide (x.From<0)||decide (999<x.From)||decide (x.Number<1)||decide (1000000000<x.Number)||decide (x.Day<0)||decide (36524<x.Day)) with
 | true=>rw [hc] at h;cases h
 | false=>simp only [Bool.or_eq_false_iff,decide_eq_false_iff_not] at hc;omega
def sk (l:List UInt8):Bool:=l.all fun c => !(decide ((c.toNat:Int)<48)||decide (57<(c.toNat:Int)))
def iX (s:Int) (c:ByteArray) (u:Int):Bool:=cond (decide (s<1)||decide (1000000<s)||decide (u<1)||decide (1000000000<u)||((c.size:Int) != 8)) false (sk c.data.toList)
theorem oT (s:Int) (c:ByteArray) (u:Int):ce s c u=some (iX s c u):=by
 unfold ce iX
 cases hc:(decide (s<1)||decide (1000000<s)||decide (u<1)||decide (1000000000<u)||((c.size:Int) != 8)) with
 | true=>rfl
 | false =>
  simp only [e9]
  have hs:c.data.toList.length=8:=by
   simp only [Bool.or_eq_false_iff,bne_eq_false_iff_eq] at hc
   have:=hc.2;rw [Array.length_toList];have e:c.size=c.data.size:=rfl;omega
  have e:(c.size:Int)=(c.data.toList.length:Int):=by rw [Array.length_toList];rfl
  rw [e]
  refine (ga (l:=c.data.toList) (by omega) (fun _ b=>cond (!(decide ((b.toNat:Int)<48)||decide (57<(b.toNat:Int)))) none (some (.inr false))) (.inl ()) (fun k hk=>?_) (by rw [rR];rfl)).trans ?_
  ·simp only [dlt hk,dY,cm hk,dp,mX hk (show c.data.toList.length≤4611686018427387904 by omega)]
   cases decide (((c.data.toList[k]).toNat:Int)<48)
   ·simp only [Bool.not_false,gt,dp,Bool.false_or]
    cases decide (57<((c.data.toList[k]).toNat:Int)) <;> rfl
   simp only [Bool.not_true,kW,dp,Bool.true_or];rfl
  rw [gb]
  unfold sk
  cases c.data.toList.all fun b => !(decide ((b.toNat:Int)<48)||decide (57<(b.toNat:Int))) <;> rfl
def kE {α:Type} (p:α→α→Bool):List α→Bool
 | []=>true
 | [_]=>true
 | x::y::l=>p x y&&kE p (y::l)
theorem sm {α T:Type} {l:List α} (hl:l.length≤4611686018427387904) {body:Int→Option (Int⊕T)} (p:α→α→Bool) (t e:T)
    (hstep:∀ (k:Nat) (hk:k+1<l.length),body ((k:Int)+1)=some (cond (p l[k] l[k+1]) (.inl ((k:Int)+2)) (.inr t))) (hend:∀ k:Int,(l.length:Int)≤k→1≤k→k≤(l.length:Int)+1→body k=some (.inr e)):bG body FUEL 1=some (cond (kE p l) e t):=by
  have main:∀ (m k N:Nat),m+k+1=l.length→m<N→bG body N ((k:Int)+1)=some (cond (kE p (l.drop k)) e t):=by
    intro m
    induction m with
    | zero =>
      intro k N hk hN
      obtain ⟨N,rfl⟩:∃ M,N=M+1:=⟨N - 1,by omega⟩
      have hd:l.drop k=[l[k]'(by omega)]:=by rw [List.drop_eq_getElem_cons (by omega),List.drop_of_length_le (by omega)]
      rw [dA,hend _ (by omega) (by omega) (by omega),hd];rfl
    | succ m ih =>
      intro k N hk hN
      obtain ⟨N,rfl⟩:∃ M,N=M+1:=⟨N - 1,by omega⟩
      have hd:l.drop k=l[k]'(by omega)::l[k+1]'(by omega)::l.drop (k+2):=by rw [List.drop_eq_getElem_cons (by omega),List.drop_eq_getElem_cons (by omega)]
      have hd2:l.drop (k+1)=l[k+1]'(by omega)::l.drop (k+2):=by rw [List.drop_eq_getElem_cons (by omega)]
      rw [dA,hstep k (by omega),hd,kE,← hd2]
      cases p (l[k]'(by omega)) (l[k+1]'(by omega))
      · rfl
      simp only [dY,Bool.true_and]
      have:=ih (k+1) N (by omega) (by omega)
      rw [show ((k+1:Nat):Int)+1=(k:Int)+2 by omega] at this
      exact this
  cases l with
  | nil =>
    obtain ⟨N,hN⟩:∃ N,FUEL=N+1:=⟨FUEL - 1,by unfold FUEL;omega⟩
    rw [hN,dA,hend 1 (by simp) (by omega) (by simp)];rfl
  | cons x xs=>exact main xs.length 0 FUEL (by simp) (jY (by simp at hl;omega))
def ascN (l:List Za):Bool:=kE br l
theorem eD (x y:Za):br x y=true↔x.From<y.From∨(x.From=y.From∧x.Number<y.Number):=by simp [br]
theorem iK (x y:Za):br x y=false↔¬ (x.From<y.From∨(x.From=y.From∧x.Number<y.Number)):=by rw [← eD];simp
theorem fp (x y z:Za):br x y=true→br y z=true→br x z=true:=by simp only [eD];omega
theorem iM (x:Za):br x x=false:=by rw [iK];omega
theorem od {α:Type} {p:α→α→Bool} (tr:∀ x y z,p x y=true→p y z=true→p x z=true):∀ {l:List α},kE p l=true↔l.Pairwise (fun x y=>p x y=true)
 | []=>by simp [kE]
 | [x]=>by simp [kE]
 | x::y::l=>by
  rw [kE,Bool.and_eq_true,od tr,List.pairwise_cons (a:=x)]
  constructor
  ·rintro ⟨h1,h2⟩
   refine ⟨fun z hz=>?_,h2⟩
   rcases List.mem_cons.1 hz with rfl | hz
   ·exact h1
   exact tr _ _ _ h1 ((List.pairwise_cons.1 h2).1 z hz)
  rintro ⟨h1,h2⟩;exact ⟨h1 y (by simp),h2⟩
def oU (f:Zd):Int:=cond (!iX f.Source f.Code f.Units) 2 (cond (decide (200<(f.Facts.length:Int))) 8 (cond (f.Facts.all eo) (cond (ascN f.Facts) 0 9) 2))
theorem f5 (f:Zd):cB f=some (oU f):=by
 unfold cB oU
 rw [oT,dp]
 cases iX f.Source f.Code f.Units with
 | false=>rfl
 | true =>
  simp only [Bool.not_true,e9]
  cases hl:decide (200<(f.Facts.length:Int)) with
  | true=>rfl
  | false =>
   have hl:=of_decide_eq_false hl
   simp only [e9]
   refine (ga (l:=f.Facts) (by omega) (fun _ x=>cond (eo x) none (some (.inr (2:Int)))) (.inl ()) (fun k hk=>?_) (by rw [rR];rfl)).trans ?_
   ·simp only [dlt hk,dY,cm hk,dp,mX hk (show f.Facts.length≤4611686018427387904 by omega),lX]
    cases eo f.Facts[k] <;> rfl
   rw [gb]
   cases hv:f.Facts.all eo with
   | false=>rfl
   | true =>
    simp only [dY,Option.getD_none]
    rw [sm (l:=f.Facts) (by omega) br (.inr (9:Int)) (.inl ()) (fun k hk=>?_) (fun k h1 h2 h3=>?_)]
    ·unfold ascN;cases kE br f.Facts <;> rfl
    ·rw [det (by omega:(k:Int)+1<(f.Facts.length:Int)),dY,bV (r:=(k:Int)+1 - 1) (by omega) (by omega),show (k:Int)+1 - 1=(k:Int) by omega,show (k:Int)+1=((k+1:Nat):Int) by omega,cm (show k<f.Facts.length by omega),cm hk]
     simp only [dp,ij]
     rw [bV (by omega) (by omega)]
     have e:decide (0≤d6 f.Facts[k] f.Facts[k+1]) = !br f.Facts[k] f.Facts[k+1]:=by rw [← iI,← decide_not];exact decide_eq_decide.2 (by omega)
     rw [e]
     cases br f.Facts[k] f.Facts[k+1]
     ·rfl
     show some (Sum.inl _)=some (Sum.inl _);congr 2 <;> omega
    rw [d7 (by omega)];rfl
structure FileOk (f:Zd):Prop where
 head:iX f.Source f.Code f.Units=true
 len:f.Facts.length≤200
 val:∀ x∈f.Facts,eo x=true
 asc:f.Facts.Pairwise (fun x y=>br x y=true)
theorem ko (f:Zd):oU f=0↔FileOk f:=by
 unfold oU
 cases h1:iX f.Source f.Code f.Units with
 | false=>exact ⟨fun h=>by simp at h,fun h=>by rw [h.head] at h1;cases h1⟩
 | true =>
  cases h2:decide (200<(f.Facts.length:Int)) with
  | true=>exact ⟨fun h=>by simp at h,fun h=>by have:=h.len;have:=of_decide_eq_true h2;omega⟩
  | false =>
   have h2:=of_decide_eq_false h2
   cases h3:f.Facts.all eo with
   | false=>exact ⟨fun h=>by simp at h,fun h=>by rw [List.all_eq_true.2 h.val] at h3;cases h3⟩
   | true =>
    cases h4:ascN f.Facts with
    | false=>exact ⟨fun h=>by simp at h,fun h=>by unfold ascN at h4;rw [(od fp).2 h.asc] at h4;cases h4⟩
    | true=>exact ⟨fun _=>⟨h1,by omega,List.all_eq_true.1 h3,(od fp).1 h4⟩,fun _=>rfl⟩
theorem half_u (x:Nat) (h:x≤10000000):IntKind.i64.wrap (i7 .u64 (IntKind.u64.wrap (IntKind.i64.wrap (x:Int))) 1)=((x / 2:Nat):Int):=by
 rw [bV (r:=(x:Int)) (by omega) (by omega),u64s (by omega) (by omega)]
 have:i7 .u64 (x:Int) 1=(x:Int) / 2:=Int.fdiv_eq_ediv_of_nonneg _ (by decide)
 rw [this,bV (by omega) (by omega)];omega
theorem eU (x y:Za):d6 x y=0↔x.From=y.From∧x.Number=y.Number:=by
 unfold d6
 by_cases h:x.From=y.From
 ·rw [if_pos ((dG _ _).2 h),dG];exact ⟨fun e=>⟨h,e⟩,fun e=>e.2⟩
 rw [if_neg (fun e=>h ((dG _ _).1 e)),dG];exact ⟨fun e=>absurd e h,fun e=>absurd e.1 h⟩
structure Low (l:List Za) (x:Za) (j:Nat):Prop where
 le:j≤l.length
 lo:∀ (k:Nat) (y:Za),l[k]?=some y→k<j→br y x=true
 hi:∀ (k:Nat) (y:Za),l[k]?=some y→j≤k→br y x=false
theorem oV:∀ {l:List Za} {x:Za} {j:Nat},Low l x j→l.take j++[x]++l.drop j=kx br x l
 | [],x,j,h=>by
  have:=h.le;simp only [List.length_nil] at this;have:j=0:=by omega
  subst this;rfl
 | y::l,x,0,h=>by
  have:=h.hi 0 y rfl (Nat.le_refl _)
  unfold kx;rw [this];rfl
 | y::l,x,j+1,h=>by
  have h1:=h.lo 0 y rfl (by omega)
  have ih:=oV (l:=l) (x:=x) (j:=j) ⟨by have:=h.le;simp at this;omega,fun k z hz hk=>h.lo (k+1) z (by simpa using hz) (by omega),fun k z hz hk=>h.hi (k+1) z (by simpa using hz) (by omega)⟩
  unfold kx;rw [h1,dY,← ih];rfl
theorem lm {l:List Za} (x:Za) (hl:l.length≤200) (hs:l.Pairwise fun a b=>br a b=true):∃ j:Nat,Low l x j∧ak l x (fun y8 y9=>bt y8 y9)=some ((j:Int),match l[j]? with | some y=>d6 y x == 0 | none=>false):=by
 unfold ak
 have hloop:Y (bG (S:=Int×Int) (T:=(Int)) (fun (v2,v3)=>cond (decide (v2<v3)) (lb ((IntKind.i64.wrap (i7 .u64 (IntKind.u64.wrap (IntKind.i64.wrap (v2+v3))) 1))) (fun w8=>Option.bind (idx l w8) (fun m9=>Option.bind (bt m9 x) (fun x10=>cond (decide (x10<0)) (some (.inl ((IntKind.i64.wrap (w8+1)),v3))) (some (.inl (v2,w8))))))) (some (.inr v2))) FUEL (0,(l.length:Int))) (fun t=>∃ j:Nat,t=(j:Int)∧Low l x j):=by
  refine Y.loop (fun s:Int×Int=>∃ i j:Nat,s.1=(i:Int)∧s.2=(j:Int)∧i≤j∧j≤l.length∧(∀ (k:Nat) (p:Za),l[k]?=some p→k<i→br p x=true)∧(∀ (k:Nat) (p:Za),l[k]?=some p→j≤k→br p x=false)) (fun s=>(s.2 - s.1).toNat) ⟨0,l.length,rfl,rfl,by omega,by omega,fun k p _ hk=>absurd hk (Nat.not_lt_zero _),fun k p hp hk=>by have:=(List.getElem?_eq_some_iff.1 hp).1;omega⟩ (by dsimp only;omega) fun s hs'=>?_
  obtain ⟨a,b⟩:=s
  obtain ⟨i,j,rfl,rfl,h1,h2,h3,h4⟩:=hs'
  dsimp only
  refine Y.cond (fun hc=>?_) (fun hc=>Y.ret ⟨i,rfl,by omega,h3,fun k p hp hk=>h4 k p hp (by have:=of_decide_eq_false hc;omega)⟩)
  have hc:i<j:=by have:=of_decide_eq_true hc;omega
  unfold lb
  rw [show (i:Int)+(j:Int)=((i+j:Nat):Int) by omega,half_u _ (by omega)]
  have hm:(i+j) / 2<l.length:=by omega
  have pw:=List.pairwise_iff_getElem.1 hs
  refine Y.idx rfl hm (Y.eq (ij _ _) ?_)
  rw [iI]
  cases hlt:br l[(i+j) / 2] x with
  | true =>
   refine Y.ret ⟨⟨(i+j) / 2+1,j,?_,rfl,by omega,h2,fun k p hp hk=>?_,h4⟩,?_⟩
   ·show IntKind.i64.wrap _=_;rw [bV (by omega) (by omega)];omega
   ·obtain ⟨hk2,rfl⟩:=List.getElem?_eq_some_iff.1 hp
    rcases Nat.lt_or_ge k ((i+j) / 2) with h5 | h5
    ·exact fp _ _ _ (pw k ((i+j) / 2) hk2 hm h5) hlt
    have e:k=(i+j) / 2:=by omega
    subst e;exact hlt
   ·show ((j:Int) - IntKind.i64.wrap _).toNat<_;rw [bV (by omega) (by omega)];omega
  | false =>
   refine Y.ret ⟨⟨i,(i+j) / 2,rfl,rfl,by omega,by omega,h3,fun k p hp hk=>?_⟩,by dsimp only;omega⟩
   obtain ⟨hk2,rfl⟩:=List.getElem?_eq_some_iff.1 hp
   rcases Nat.lt_or_ge ((i+j) / 2) k with h5 | h5
   ·have h6:=pw ((i+j) / 2) k hm hk2 h5
    cases h7:br l[k] x with
    | false=>rfl
    | true=>rw [fp _ _ _ h6 h7] at hlt;cases hlt
   have e:k=(i+j) / 2:=by omega
   subst e;exact hlt
 obtain ⟨t,e,j,rfl,hj⟩:=hloop
 refine ⟨j,hj,?_⟩
 rw [ky e]
 rcases Nat.lt_or_ge j l.length with hjl | hjl
 ·rw [det (by omega:(j:Int)<(l.length:Int)),gt,cm hjl,dp,gt];dsimp only;rw [ij,dp,List.getElem?_eq_getElem hjl];rfl
 rw [d7 (by omega:¬ (j:Int)<(l.length:Int)),kW]
 simp only [dp,kW]
 rw [List.getElem?_eq_none hjl];rfl
theorem lY {x z:Za} {l:List Za}:z∈kx br x l↔z=x∨z∈l:=by rw [fX.mem_iff,List.mem_cons]
theorem oW {x:Za} {l:List Za}:(kx br x l).length=l.length+1:=by rw [fX.length_eq,List.length_cons]
theorem oX {x:Za}:∀ {l:List Za},(∀ y∈l,d6 y x≠0)→l.Pairwise (fun a b=>br a b=true)→(kx br x l).Pairwise (fun a b=>br a b=true)
 | [],_,_=>by simp [kx]
 | y::l,hx,h=>by
  obtain ⟨h1,h2⟩:=List.pairwise_cons.1 h
  unfold kx
  cases hy:br y x with
  | true =>
   simp only [dY]
   refine List.pairwise_cons.2 ⟨fun z hz=>?_,oX (fun y hy=>hx y (by simp [hy])) h2⟩
   rcases lY.1 hz with rfl | hz
   ·exact hy
   ·exact h1 z hz
  | false =>
   simp only [e9]
   have hxy:br x y=true:=by
    have:=hx y (by simp)
    rw [Ne,eU] at this
    rw [iK] at hy;rw [eD];omega
   refine List.pairwise_cons.2 ⟨fun z hz=>?_,h⟩
   rcases List.mem_cons.1 hz with rfl | hz
   ·exact hxy
   exact fp _ _ _ hxy (h1 z hz)
theorem ns {l:List Za} (h:l.length≤1000):aK l=some l:=by
 unfold aK
 rw [fF (by simp;omega) (by simp;omega)];rfl
theorem qb {l:List Za} {x:Za} {j:Nat} (h:j≤l.length) (hl:l.length≤200):av l (j:Int) [x]=some (l.take j++[x]++l.drop j):=by
 unfold av
 dsimp only
 rw [if_pos ⟨by omega,by simpa using h,hl⟩];simp
theorem pick_of {l:List Za} {x:Za} {j:Nat} (hj:Low l x j) (hs:l.Pairwise fun a b=>br a b=true) {y:Za} (hy:y∈l) (hk:d6 y x=0):l[j]?=some y:=by
 obtain ⟨k,hkl,rfl⟩:=List.getElem_of_mem hy
 have hz:=(eU _ _).1 hk
 have h1:¬ k<j:=fun h=>by have:=hj.lo k _ (List.getElem?_eq_getElem hkl) h;rw [eD] at this;omega
 have h2:¬ j<k:=fun h=>by
  have h3:=List.pairwise_iff_getElem.1 hs j k (by omega) hkl h
  have h4:=hj.hi j _ (List.getElem?_eq_getElem (by omega)) (Nat.le_refl _)
  rw [eD] at h3;rw [iK] at h4;omega
 have:k=j:=by omega
 subst this;exact List.getElem?_eq_getElem hkl
theorem sn {f:Zd} {x:Za} (hf:FileOk f) (hx:x∈f.Facts):bx f x=some (f,0):=by
 obtain ⟨j,hj,e⟩:=lm x hf.len hf.asc
 have hp:=pick_of hj hf.asc hx ((eU _ _).2 ⟨rfl,rfl⟩)
 obtain ⟨hjl,hje⟩:=List.getElem?_eq_some_iff.1 hp
 unfold bx
 rw [f5,(ko f).2 hf,dp,show ((0:Int) != 0)=false from rfl,e9,lX,hf.val x hx,dp,Bool.not_true,e9,ky e,hp]
 have h0:(d6 x x == 0)=true:=by rw [(eU _ _).2 ⟨rfl,rfl⟩];rfl
 simp only [h0,gt,cm hjl,dp,hje]
 have h1:Za.eqb x x=true:=Za.eqb_iff.2 rfl
 rw [h1]
 simp only [Bool.not_true,Bool.and_false,Bool.false_and,e9,ns (show f.Facts.length≤1000 by have:=hf.len;omega),dp]
theorem qc {f:Zd} {x:Za} (hf:FileOk f) (hv:eo x=true) (hl:f.Facts.length<200) (hx:∀ y∈f.Facts,d6 y x≠0):bx f x=some (⟨f.Source,f.Code,f.Units,kx br x f.Facts⟩,0):=by
 obtain ⟨j,hj,e⟩:=lm x hf.len hf.asc
 have hn:(match f.Facts[j]? with | some y=>d6 y x == 0 | none=>false)=false:=by
  split
  ·rename_i y hy;have:=hx y (List.mem_of_getElem? hy);simpa using this
  rfl
 unfold bx
 rw [f5,(ko f).2 hf,dp,show ((0:Int) != 0)=false from rfl,e9,lX,hv,dp,Bool.not_true,e9,ky e,hn]
 simp only [kW,dp,Bool.false_and,e9,Bool.not_false,Bool.true_and]
 rw [d7 (by omega:¬ (200:Int)≤(f.Facts.length:Int)),e9,ns (by omega),dp,dY,qb hj.le (by omega),oV hj]
 rfl
theorem so {f:Zd} {x:Za} (hf:FileOk f) (hv:eo x=true) (hl:f.Facts.length<200) (hx:∀ y∈f.Facts,d6 y x≠0):FileOk ⟨f.Source,f.Code,f.Units,kx br x f.Facts⟩ :=
 ⟨hf.head,by dsimp only;rw [oW];omega,fun z hz=>by rcases lY.1 hz with rfl | hz;exact hv;exact hf.val z hz,oX hx hf.asc⟩
def lZ (l:List Za) (x:Za):List Za:=cond (decide (x∈l)) l (kx br x l)
theorem sq {l:List Za} {x z:Za}:z∈lZ l x↔z=x∨z∈l:=by
 unfold lZ
 cases h:decide (x∈l) with
 | true =>
  have h:=of_decide_eq_true h
  simp only [dY];exact ⟨.inr,fun h'=>h'.elim (fun e=>e ▸ h) id⟩
 | false=>simp only [e9];exact lY
theorem sr {l:List Za} {x:Za}:(lZ l x).length≤l.length+1:=by
 unfold lZ
 cases decide (x∈l)
 ·simp only [e9,oW];exact Nat.le_refl _
 simp only [dY];omega
theorem qd {f:Zd} {x:Za} (hf:FileOk f) (hv:eo x=true) (hl:f.Facts.length<200) (hx:∀ y∈f.Facts,d6 y x=0→y=x):bx f x=some (⟨f.Source,f.Code,f.Units,lZ f.Facts x⟩,0)∧FileOk ⟨f.Source,f.Code,f.Units,lZ f.Facts x⟩:=by
 unfold lZ
 cases h:decide (x∈f.Facts) with
 | true=>exact ⟨sn hf (of_decide_eq_true h),hf⟩
 | false =>
  have h:=of_decide_eq_false h
  have hn:∀ y∈f.Facts,d6 y x≠0:=fun y hy e=>h (hx y hy e ▸ hy)
  exact ⟨qc hf hv hl hn,so hf hv hl hn⟩
structure Agr (L:List Za):Prop where
 len:L.length≤100
 val:∀ x∈L,eo x=true
 key:∀ x∈L,∀ y∈L,d6 x y=0→x=y
def iY (L:List Za):List Za:=L.foldl lZ []
def gy:ByteArray:=⟨#[49,48,48,48,48,48,48,48]⟩
theorem head1 {u:Int} (h1:1≤u) (h2:u≤1000):iX 7 gy u=true:=by
 unfold iX
 rw [d7 (by omega:¬ u<1),d7 (by omega:¬ (1000000000:Int)<u)]
 rfl
theorem jn {L:List Za} {u:Int} (hL:Agr L) (h1:1≤u) (h2:u≤1000):ed u L=some (⟨7,gy,u,iY L⟩,true)∧FileOk ⟨7,gy,u,iY L⟩∧(iY L).length≤L.length∧∀ z,z∈iY L↔z∈L:=by
 have h0:FileOk ⟨7,gy,u,[]⟩:=⟨head1 h1 h2,by simp,(fun x hx=>nomatch hx),List.Pairwise.nil⟩
 have hlen:=hL.len
 unfold ed fm
 rw [show (⟨#[49,48,48,48,48,48,48,48]⟩:ByteArray)=gy from rfl,oT,head1 h1 h2]
 simp only [dp,Bool.not_true,e9]
 have key:=pV (β:=Zd×Bool) (l:=L) (by omega) (body:=fun (v4,v5,v6,v7,v8,l9)=>cond ((decide (v5<(L.length:Int)))&&(v4 == 0)) (Option.bind (idx L v5) (fun m18=>Option.bind (bx (⟨v6,v7,v8,l9⟩:Zd) m18) (fun x19=>some (.inl (x19.2,(IntKind.i64.wrap (v5+1)),x19.1.Source,x19.1.Code,x19.1.Units,x19.1.Facts))))) (some (.inr (v4,v6,v7,v8,l9))))
  (k:=fun (v10,v11,v12,v13,l14)=>some ((⟨v11,v12,v13,l14⟩:Zd),(v10 == 0))) (fun i (a:List Za)=>((0:Int),i,(7:Int),gy,u,a)) lZ (fun a=>((0:Int),(7:Int),gy,u,a)) (fun k a=>FileOk ⟨7,gy,u,a⟩∧a.length≤k∧(∀ z,z∈a↔z∈L.take k)) [] ⟨h0,by simp,fun z=>by simp⟩ (fun k hk a ⟨p1,p2,p3⟩=>by
   have hx:L[k]∈L:=List.getElem_mem hk
   obtain ⟨e1,e2⟩:=qd (x:=L[k]) p1 (hL.val _ hx) (by dsimp only;omega) (fun y hy=>hL.key y (List.mem_of_mem_take ((p3 y).1 hy)) _ hx)
   dsimp only at e1 e2 ⊢
   rw [dlt hk,show (((0:Int) == 0)=true) from rfl,Bool.and_self,dY,cm hk,dp,e1,dp,mX hk (by omega)]
   refine ⟨rfl,e2,by have:=sr (l:=a) (x:=L[k]);omega,fun z=>?_⟩
   rw [sq,p3,List.take_add_one,List.getElem?_eq_getElem hk,List.mem_append,Option.toList_some,List.mem_singleton]
   exact or_comm) (fun a _=>by dsimp only;rw [rR];rfl)
 obtain ⟨e,p1,p2,p3⟩:=key
 refine ⟨e,p1,p2,fun z=>?_⟩
 have:=p3 z
 rw [List.take_length] at this
 exact this
theorem oY:∀ {l m:List Za},l.Pairwise (fun a b=>br a b=true)→m.Pairwise (fun a b=>br a b=true)→(∀ z,z∈l↔z∈m)→l=m
 | [],[],_,_,_=>rfl
 | [],y::m,_,_,h=>absurd ((h y).2 (by simp)) (by simp)
 | x::l,[],_,_,h=>absurd ((h x).1 (by simp)) (by simp)
 | x::l,y::m,h1,h2,h=>by
  obtain ⟨a1,a2⟩:=List.pairwise_cons.1 h1
  obtain ⟨b1,b2⟩:=List.pairwise_cons.1 h2
  have hxy:x=y:=by
   rcases List.mem_cons.1 ((h x).1 (by simp)) with e | hx
   ·exact e
   rcases List.mem_cons.1 ((h y).2 (by simp)) with e | hy
   ·exact e.symm
   have k:=fp _ _ _ (b1 x hx) (a1 y hy);rw [iM] at k;cases k
  subst hxy
  congr 1
  refine oY a2 b2 fun z=>⟨fun hz=>?_,fun hz=>?_⟩
  ·rcases List.mem_cons.1 ((h z).1 (by simp [hz])) with e | hz2
   ·subst e;have k:=a1 z hz;rw [iM] at k;cases k
   exact hz2
  rcases List.mem_cons.1 ((h z).2 (by simp [hz])) with e | hz2
  ·subst e;have k:=b1 z hz;rw [iM] at k;cases k
  exact hz2
theorem qe {L M:List Za} {u:Int} (hL:Agr L) (hM:Agr M) (h1:1≤u) (h2:u≤1000) (h:∀ z,z∈L↔z∈M):iY L=iY M:=by
 obtain ⟨_,a1,_,a2⟩:=jn hL h1 h2
 obtain ⟨_,b1,_,b2⟩:=jn hM h1 h2
 exact oY a1.asc b1.asc fun z=>by rw [a2,b2,h]
theorem same_eq (f:Zd) (h:f.Facts.length≤100000):da f f=some true:=by
 unfold da
 have e1:((((f.Source != f.Source)||(!decide (f.Code=f.Code)))||(f.Units != f.Units))||((f.Facts.length:Int) != (f.Facts.length:Int)))=false:=by simp
 rw [e1,e9]
 refine (ga (l:=f.Facts) (by omega) (fun _ x=>cond (Za.eqb x x) none (some (.inr false))) (.inl ()) (fun k hk=>?_) (by rw [rR];rfl)).trans ?_
 ·rw [dlt hk,dY,cm hk,mX hk (by omega)]
  simp only [dp]
  cases Za.eqb f.Facts[k] f.Facts[k] <;> rfl
 rw [gb (fun x:Za=>Za.eqb x x),show (f.Facts.all fun x=>Za.eqb x x)=true from List.all_eq_true.2 fun x _=>Za.eqb_iff.2 rfl];rfl
theorem ft {X S T:Type} (f:S→X→S):∀ (xs:List X) (s:S),eR (T:=T) (fun s x=>some (.inl (f s x))) s xs=some (.inl (xs.foldl f s))
 | [],_=>rfl
 | x::xs,s=>by rw [eR];exact ft f xs (f s x)
theorem nt {T:Type}:∀ (xs l:List Za),(l.length+xs.length)≤100000→eR (T:=T) (fun l3 x8=>Option.bind (app 64 l3 [x8]) (fun l13=>some (.inl l13))) l xs=some (.inl (l++xs))
 | [],l,_=>by rw [eR,List.append_nil]
 | x::xs,l,h=>by
  simp only [List.length_cons] at h
  rw [eR,fF (by simp;omega) (by simp;omega),dp]
  dsimp only
  rw [nt xs (l++[x]) (by simp;omega)];simp
theorem su:∀ {l:List Za},l.Pairwise (fun a b=>br a b=true)→dif l=true
 | [],_=>rfl
 | x::l,h=>by
  obtain ⟨h1,h2⟩:=List.pairwise_cons.1 h
  rw [dif,Bool.and_eq_true,List.all_eq_true]
  refine ⟨fun y hy=>?_,su h2⟩
  have:=h1 y hy
  rw [eD] at this
  rw [Bool.or_eq_true,gh,gh];omega
theorem qf {l:List Za} (h:l.Pairwise (fun a b=>br a b=true)) (hl:l.length≤1000):aS l=some (dn cn l):=by
 unfold aS bp aL aA
 rw [nt (T:=Empty) l [] (by simp;omega)]
 simp only [dp,List.nil_append,su h,dY]
theorem iN {l:List Za} (k d:Int) (hl:l.length≤1000):bP l k d=some (lV l k d):=by
 unfold bP
 rw [show iJ l=true from Nat.ble_eq_true_of_le (by omega)];rfl
theorem qg {l:List Za} (hl:l.length≤1000):aF l=some l:=by
 unfold aF
 rw [show iJ l=true from Nat.ble_eq_true_of_le (by omega)];rfl
def iZ (day:Int):Int:=match bk day 36 with | some r=>cond (r.2 != 0) 36524 r.1 | none=>0
theorem last_eq {day:Int} (h0:0≤day) (h1:day≤36524):(∃ r,bk day 36=some r∧iZ day=cond (r.2 != 0) 36524 r.1)∧30≤iZ day:=by
 obtain ⟨_,_,n,m,d,_,hd⟩:=of_Y h0 h1
 have e:=add_eq h0 h1 hd
 have g:=addS_ge (n:=n) hd.m11 hd.d0
 have e2:iZ day=cond ((na n m d).2 != 0) 36524 (na n m d).1:=by unfold iZ;rw [e]
 refine ⟨⟨_,e,e2⟩,?_⟩
 rw [e2]
 cases hc:((na n m d).2 != 0) with
 | true=>simp
 | false=>simp only [e9];exact g (by simpa using hc)
def zItem:Ze:=⟨ByteArray.empty,ByteArray.empty,false,0,0,0,0,0⟩
def l6 (f:Zd) (S:List Za) (d:Za):Ze :=
 ⟨f.Code,(lV S 4 (iZ d.Day)).foldl (fun _ x=>x.Country) d.Country,(lV S 2 (iZ d.Day)).foldl (fun _ _=>true) false,d.Company,d.Day,f.Units,(lV S 3 (iZ d.Day)).foldl (fun _ x=>x.Amount) d.Amount,(lV f.Facts 5 36524).foldl (fun _ x=>d9 f.Units x.Amount) 0⟩
theorem qh {f:Zd} {S:List Za} {d:Za} (h0:0≤d.Day) (h1:d.Day≤36524) (hS:S.length≤1000) (hF:f.Facts.length≤1000):dV f S d=some (l6 f S d):=by
 obtain ⟨⟨r,e,e2⟩,_⟩:=last_eq h0 h1
 unfold dV l6
 have e3:(cond (r.2 != 0) (some 36524) (some r.1):Option Int)=some (iZ d.Day):=by rw [e2];cases (r.2 != 0) <;> rfl
 rw [ky e]
 simp only [e3,dp,iN _ _ hS,iN _ _ hF]
 rw [ft (fun _ _=>true)]
 simp only [dp]
 rw [ft (fun (_:Int) (x:Za)=>x.Amount)]
 simp only [dp]
 rw [ft (fun (_:ByteArray) (x:Za)=>x.Country)]
 simp only [dp]
 rw [ft (fun (_:Int) (x:Za)=>d9 f.Units x.Amount)]
 rfl
def oZ (f:Zd):Ze×Bool:=match lV (dn cn f.Facts) 1 36524 with
 | []=>(zItem,false)
 | d::_=>(l6 f (dn cn f.Facts) d,true)
theorem qi {l:List Za} {z:Za}:z∈dn cn l↔z∈l:=fE.mem_iff
theorem item_eq {f:Zd} (hf:FileOk f):dC f=some (oZ f):=by
 have hl:f.Facts.length≤1000:=by have:=hf.len;omega
 have hS:(dn cn f.Facts).length≤1000:=by rw [kY];exact hl
 unfold dC oZ
 rw [f5,(ko f).2 hf,dp,show ((0:Int) != 0)=false from rfl,e9,qg hl,dp,qf hf.asc hl,dp,iN _ _ hS,dp]
 cases hk:lV (dn cn f.Facts) 1 36524 with
 | nil=>rfl
 | cons d l =>
  have hd:d∈f.Facts:=by
   have:d∈lV (dn cn f.Facts) 1 36524:=by rw [hk];simp
   exact qi.1 (List.mem_filter.1 this).1
  have hv:=qa (hf.val d hd)
  rw [eR,qh hv.1 hv.2 hS hl];rfl
theorem small_Y {p:Zc} (hp:SOK p) (few n:Int) (h1:1≤few) (h2:few≤n) (h3:n≤4611686018427387904):Y (eN p few n) (fun r=>0≤r.1∧r.1<n∧SOK r.2):=by
 unfold eN
 refine (dU hp 5 (by omega) (by omega)).bind fun a ⟨_,_,k3⟩=>?_
 refine Y.cond (fun _=>?_) (fun _=>?_)
 ·exact (dU k3 n (by omega) h3).bind fun b ⟨j1,j2,j3⟩=>Y.ret ⟨j1,j2,j3⟩
 exact (dU k3 few h1 (by omega)).bind fun b ⟨j1,j2,j3⟩=>Y.ret ⟨j1,by dsimp only;omega,j3⟩
structure MF (i:Nat) (x:Za):Prop where
 val:eo x=true
 frm:0≤x.From∧x.From≤200
 num:x.Number=((i:Int)*5+2) % 17+1
def cts:List ByteArray:=[⟨#[65,65]⟩,⟨#[66,66]⟩,⟨#[67,67]⟩,⟨#[68,68]⟩,⟨#[69,69]⟩,⟨#[70,70]⟩]
theorem sv:∀ s∈cts,kn s=true:=List.all_eq_true.1 (by kernel_rfl:cts.all kn=true)
theorem fact_mk {F N D K A C:Int} {s:ByteArray} (h1:0≤F∧F≤200) (h2:1≤N∧N≤17) (h3:0≤D∧D≤36524) (hk:il ⟨F,N,D,K,s,A,C⟩=true):eo ⟨F,N,D,K,s,A,C⟩=true:=by
 unfold eo
 dsimp only
 rw [d7 (by omega:¬ F<0),d7 (by omega:¬ (999:Int)<F),d7 (by omega:¬ N<1),d7 (by omega:¬ (1000000000:Int)<N),d7 (by omega:¬ D<0),d7 (by omega:¬ (36524:Int)<D)]
 exact hk
theorem iO:decide (ByteArray.empty=(⟨#[]⟩:ByteArray))=true:=by decide
theorem facts_Y (l:List Int):Y (cZ l) (fun xs=>xs.length≤14∧∀ (i:Nat) (x:Za),xs[i]?=some x→MF i x):=by
 unfold cZ
 refine (cut_Y l 80 (by omega) (by omega)).bind fun c hc=>?_
 refine Y.bind (P:=fun xs=>xs.length≤14∧∀ (i:Nat) (x:Za),xs[i]?=some x→MF i x) ?_ (fun xs h=>Y.ret h)
 refine Y.loop (fun s:(List Za)×(List Int)×Int=>SOK ⟨s.2.1,s.2.2⟩∧s.1.length≤14∧∀ (i:Nat) (x:Za),s.1[i]?=some x→MF i x) (fun s=>14 - s.1.length) ⟨hc,by simp,fun i x h=>by simp at h⟩ (by dsimp only;omega) ?_
 rintro ⟨a,b,c⟩ ⟨h1,h2,h3⟩
 dsimp only at h1 h2 h3 ⊢
 unfold di
 simp only [dp]
 refine Y.cond (fun hcond=>?_) (fun _=>Y.ret ⟨h2,h3⟩)
 have hlt:a.length<14:=by simp only [Bool.and_eq_true,decide_eq_true_eq] at hcond;omega
 refine (dU h1 3 (by omega) (by omega)).bind fun x18 ⟨p1,p2,p3⟩=>?_
 refine (dU p3 30 (by omega) (by omega)).bind fun x19 ⟨q1,q2,q3⟩=>?_
 refine (dU q3 5 (by omega) (by omega)).bind fun x20 ⟨r1,r2,r3⟩=>?_
 refine (dU r3 8 (by omega) (by omega)).bind fun x22 ⟨s1,s2,s3⟩=>?_
 refine Y.bind (P:=fun r:List Int×Int×Int=>SOK ⟨r.1,r.2.1⟩∧0≤r.2.2∧r.2.2≤36524) ?_ ?_
 ·refine Y.cond (fun _=>?_) (fun _=>Y.ret ⟨s3,q1,by dsimp only;omega⟩)
  exact (dU s3 2500 (by omega) (by omega)).bind fun x29 ⟨t1,t2,t3⟩=>Y.ret ⟨t3,t1,by dsimp only;omega⟩
 rintro ⟨l24,v25,v26⟩ ⟨t1,t2,t3⟩
 dsimp only at t1 t2 t3 ⊢
 rw [bV (r:=1+x20.1) (by omega) (by omega)]
 refine Y.bind (P:=fun r:List Int×Int×ByteArray×Int×Int=>SOK ⟨r.1,r.2.1⟩∧∀ F N D,il ⟨F,N,D,1+x20.1,r.2.2.1,r.2.2.2.1,r.2.2.2.2⟩=true) ?_ ?_
 ·refine Y.cond (fun hk=>?_) (fun hk=>?_)
  ·unfold cA
   refine Y.eq rfl ?_
   refine (dU t1 3 (by omega) (by omega)).bind fun x39 ⟨u1,u2,u3⟩=>?_
   refine Y.idx (xs:=cts) (n:=x39.1.toNat) (by omega) (by show x39.1.toNat<6;omega) ?_
   refine (small_Y u3 5000 1000000000001 (by omega) (by omega) (by omega)).bind fun x41 ⟨w1,w2,w3⟩=>?_
   refine (dU w3 3 (by omega) (by omega)).bind fun x42 ⟨z1,z2,z3⟩=>Y.ret ⟨z3,fun F N D=>?_⟩
   have hs:kn (cts[x39.1.toNat]'(by show x39.1.toNat<6;omega))=true:=sv _ (List.getElem_mem _)
   unfold il fJ
   dsimp only
   rw [hk,dY,hs,det (by omega:0≤x41.1),det (by omega:x41.1≤1000000000000),det z1,det (by omega:x42.1≤999)];rfl
  refine Y.cond (fun hk3=>?_) (fun hk3=>?_)
  ·refine (dU t1 6000 (by omega) (by omega)).bind fun x44 ⟨u1,u2,u3⟩=>Y.ret ⟨u3,fun F N D=>?_⟩
   have e:1+x20.1=3:=eq_of_beq hk3
   unfold il fJ
   dsimp only
   rw [e,iO,det u1,det (by omega:x44.1≤1000000000000)];rfl
  refine Y.cond (fun hk4=>?_) (fun hk4=>?_)
  ·unfold cA
   refine Y.eq rfl ?_
   refine (dU t1 3 (by omega) (by omega)).bind fun x47 ⟨u1,u2,u3⟩=>?_
   refine Y.idx (xs:=cts) (n:=x47.1.toNat) (by omega) (by show x47.1.toNat<6;omega) (Y.ret ⟨u3,fun F N D=>?_⟩)
   have e:1+x20.1=4:=eq_of_beq hk4
   have hs:kn (cts[x47.1.toNat]'(by show x47.1.toNat<6;omega))=true:=sv _ (List.getElem_mem _)
   unfold il fJ
   dsimp only
   rw [e,hs];rfl
  refine Y.cond (fun hk5=>?_) (fun hk5=>?_)
  ·refine (dU t1 40 (by omega) (by omega)).bind fun x50 ⟨u1,u2,u3⟩=>Y.ret ⟨u3,fun F N D=>?_⟩
   have e:1+x20.1=5:=eq_of_beq hk5
   unfold il fJ
   dsimp only
   rw [e,iO,det u1,det (by omega:x50.1≤1000000000)];rfl
  refine Y.ret ⟨t1,fun F N D=>?_⟩
  have e:1+x20.1=2:=by
   have k1:¬ 1+x20.1=1:=by simpa using hk
   have k3:¬ 1+x20.1=3:=by simpa using hk3
   have k4:¬ 1+x20.1=4:=by simpa using hk4
   have k5:¬ 1+x20.1=5:=by simpa using hk5
   omega
  unfold il fJ
  dsimp only
  rw [e,iO];rfl
 rintro ⟨l31,v32,v33,v34,v35⟩ ⟨u1,u2⟩
 dsimp only at u1 u2 ⊢
 rw [fF (by simp;omega) (by simp;omega),dp]
 refine Y.ret ⟨⟨u1,by simp;omega,fun i x hx=>?_⟩,by simp;omega⟩
 rcases Nat.lt_or_ge i a.length with hi | hi
 ·rw [List.getElem?_append_left hi] at hx;exact h3 i x hx
 rw [List.getElem?_append_right hi] at hx
 have hi2:i=a.length:=by
  have:=(List.getElem?_eq_some_iff.1 hx).1;simp at this;omega
 subst hi2
 rw [Nat.sub_self,List.getElem?_cons_zero] at hx
 obtain rfl:=Option.some.inj hx
 have e1:IntKind.i64.wrap (x18.1*100)=x18.1*100:=bV (by omega) (by omega)
 have e2:IntKind.i64.wrap (Int.tmod (IntKind.i64.wrap (IntKind.i64.wrap ((a.length:Int)*5)+2)) 17+1)=((a.length:Int)*5+2) % 17+1:=by
  rw [bV (r:=(a.length:Int)*5) (by omega) (by omega),bV (r:=(a.length:Int)*5+2) (by omega) (by omega),Int.tmod_eq_emod_of_nonneg (by omega),bV (by omega) (by omega)]
 rw [e1,e2]
 exact ⟨fact_mk (by omega) (by omega) ⟨t2,t3⟩ (u2 _ _ _),by dsimp only;omega,rfl⟩
theorem qj {xs:List Za} (h1:xs.length≤14) (h2:∀ (i:Nat) (x:Za),xs[i]?=some x→MF i x):Agr xs:=by
 refine ⟨by omega,fun x hx=>?_,fun x hx y hy he=>?_⟩
 ·obtain ⟨i,hi,rfl⟩:=List.getElem_of_mem hx
  exact (h2 i _ (List.getElem?_eq_getElem hi)).val
 obtain ⟨i,hi,rfl⟩:=List.getElem_of_mem hx
 obtain ⟨j,hj,rfl⟩:=List.getElem_of_mem hy
 have e:=((eU _ _).1 he).2
 rw [(h2 i _ (List.getElem?_eq_getElem hi)).num,(h2 j _ (List.getElem?_eq_getElem hj)).num] at e
 have:i=j:=by omega
 subst this;rfl
def qm (n:Nat):List Int:=(List.range n).map fun k:Nat=>(k:Int)
theorem sw (n:Nat):qm (n+1)=qm n++[(n:Int)]:=by unfold qm;rw [List.range_succ,List.map_append];rfl
theorem im (n:Nat):(qm n).length=n:=by simp [qm]
theorem o1 {n:Nat} {x:Int}:x∈qm n↔∃ k:Nat,k<n∧x=(k:Int):=by
 unfold qm;rw [List.mem_map]
 exact ⟨fun ⟨k,h1,h2⟩=>⟨k,List.mem_range.1 h1,h2.symm⟩,fun ⟨k,h1,h2⟩=>⟨k,List.mem_range.2 h1,h2.symm⟩⟩
theorem order_Y {n:Nat} {l:List Int} (hn:n≤1000) (hl:l.length≤140737488355328):Y (eO (n:Int) l) (fun o=>o.Perm (qm n)):=by
 unfold eO
 refine Y.bind (P:=fun r=>r=qm n) ?_ ?_
 ·refine Y.loop (fun s:List Int×Int=>∃ k:Nat,k≤n∧s=(qm k,(k:Int))) (fun s=>(n - s.2).toNat) ⟨0,by omega,rfl⟩ (by dsimp only;omega) ?_
  rintro s ⟨k,hk,rfl⟩
  dsimp only
  refine Y.cond (fun hc=>?_) (fun hc=>Y.ret ?_)
  ·have hc:=of_decide_eq_true hc
   rw [fF (by rw [im];simp;omega) (by rw [im];simp;omega),dp]
   refine Y.ret ⟨⟨k+1,by omega,?_⟩,?_⟩
   ·rw [sw,bV (by omega) (by omega)];congr 1 <;> omega
   show ((n:Int) - IntKind.i64.wrap _).toNat<_;rw [bV (by omega) (by omega)];omega
  have hc:=of_decide_eq_false hc
  have:k=n:=by omega
  subst this;rfl
 rintro r rfl
 refine Y.bind (P:=fun o=>o.Perm (qm n)) ?_ (fun o h=>Y.ret h)
 refine Y.loop (fun s:List Int×List Int×List Int×Int=>SOK ⟨s.2.2.1,s.2.2.2⟩∧(s.2.1++s.1).Perm (qm n)) (fun s=>s.1.length) ⟨⟨by dsimp only;omega,by dsimp only;omega,by dsimp only;omega⟩,by simp⟩ (by dsimp only;rw [im];omega) ?_
 rintro ⟨a,b,c,d⟩ ⟨h1,h2⟩
 dsimp only at h1 h2 ⊢
 have hlen:=h2.length_eq
 rw [List.length_append,im] at hlen
 refine Y.cond (fun hc=>?_) (fun hc=>?_)
 ·have hc:0<a.length:=by have:=of_decide_eq_true hc;omega
  refine (dU h1 (a.length:Int) (by omega) (by omega)).bind fun x ⟨k1,k2,k3⟩=>?_
  obtain ⟨q,hq⟩:∃ q:Nat,x.1=(q:Int):=⟨x.1.toNat,by omega⟩
  rw [hq] at k2 ⊢
  have hqa:q<a.length:=by omega
  rw [cm hqa,dp,fF (by simp;omega) (by simp;omega),dp]
  rw [show (0:Int)=((0:Nat):Int) from rfl,rS (Nat.zero_le q) (by omega),dp,bV (by omega) (by omega),show (q:Int)+1=((q+1:Nat):Int) by omega,rS (by omega) (Nat.le_refl _),dp]
  rw [fF (by simp;omega) (by simp;omega),dp,fF (by simp;omega) (by simp;omega),dp]
  refine Y.ret ⟨⟨k3,?_⟩,by simp;omega⟩
  dsimp only
  simp only [List.drop_zero,List.nil_append,List.take_length]
  refine List.Perm.trans ?_ h2
  have e:a=a.take q++a[q]::a.drop (q+1):=by rw [List.getElem_cons_drop];simp
  conv=>rhs;rw [e]
  rw [List.append_assoc]
  refine List.Perm.append_left b ?_
  rw [List.singleton_append];exact List.perm_middle.symm
 have hc:a.length=0:=by have:=of_decide_eq_false hc;omega
 have ha:=List.eq_nil_of_length_eq_zero hc
 subst ha
 refine Y.ret ?_
 rwa [List.append_nil] at h2
theorem len_of {α:Type} {e:α→List PV} {m:List α} {κ:Kr} {v:List Value} (h:Rps κ (eL e m) v):m.length≤140737488355328:=by
 unfold eL at h
 cases h with | cons h _=>cases h with | slc _ hb _ _=>exact hb
theorem awake31:e6=some true:=by kernel_rfl
theorem units_Y (u:Int):Y (cY u 50) (fun r=>∃ n:Int,IntKind.i64.wrap (1+r)=n∧1≤n∧n≤1000):=by
 obtain ⟨r,e,h1,h2⟩:=kX u 50 (by omega) (by omega)
 exact ⟨r,e,1+r,bV (by omega) (by omega),by omega,by omega⟩
theorem kp (m0 m1:List Int) (m2:Int) {κ:Kr} {v0 v1 v2:List Value} (_:Rps κ (eL eI m0) v0) (s1:Rps κ (eL eI m1) v1) (_:Rps κ (eI m2) v2):dj m0 m1 m2=some true:=by
 have hl1:=len_of s1
 obtain ⟨r,e1,u,e2,hu1,hu2⟩:=units_Y m2
 obtain ⟨fs,e3,hf1,hf2⟩:=facts_Y m0
 have hA:=qj hf1 hf2
 obtain ⟨o,e4,ho⟩:=order_Y (n:=fs.length) (l:=m1) (by omega) hl1
 have hol:o.length=fs.length:=by rw [ho.length_eq,im]
 have hin:∀ x∈o,∃ k:Nat,k<fs.length∧x=(k:Int):=fun x hx=>o1.1 (ho.mem_iff.1 hx)
 unfold dj
 rw [ky e1,ky e3,ky e4,e2]
 have hloop:Y (bG (S:=(List Za)×Int) (T:=((List Za))) (fun (l5,v8)=>cond (decide (v8<(o.length:Int))) (Option.bind (idx o v8) (fun m17=>Option.bind (idx fs m17) (fun m18=>Option.bind (app 64 l5 [m18]) (fun l21=>some (.inl (l21,(IntKind.i64.wrap (v8+1)))))))) (some (.inr l5))) FUEL (([]:List Za),0)) (fun t=>t.length=o.length∧∀ z,z∈t↔∃ k∈o,idx fs k=some z):=by
  refine Y.loop (fun s:List Za×Int=>∃ k:Nat,k≤o.length∧s.2=(k:Int)∧s.1.length=k∧∀ z,z∈s.1↔∃ x∈o.take k,idx fs x=some z) (fun s=>(o.length - s.2).toNat) ⟨0,by omega,rfl,rfl,fun z=>by simp⟩ (by dsimp only;omega) ?_
  rintro ⟨a,b⟩ ⟨k,hk,hb,ha,hz⟩
  dsimp only at hb ha hz ⊢
  subst hb
  refine Y.cond (fun hc=>?_) (fun hc=>Y.ret ?_)
  ·have hc:k<o.length:=by have:=of_decide_eq_true hc;omega
   obtain ⟨j,hj,hoj⟩:=hin _ (List.getElem_mem hc)
   rw [cm hc,dp,hoj,cm hj,dp,fF (by simp;omega) (by simp;omega),dp]
   refine Y.ret ⟨⟨k+1,by omega,?_,by simp [ha],fun z=>?_⟩,?_⟩
   ·show IntKind.i64.wrap _=_;rw [bV (by omega) (by omega)];omega
   ·rw [List.mem_append,hz,List.mem_singleton,List.take_add_one,List.getElem?_eq_getElem hc,Option.toList_some]
    constructor
    ·rintro (⟨x,hx,e⟩ | rfl)
     ·exact ⟨x,List.mem_append.2 (.inl hx),e⟩
     exact ⟨o[k],List.mem_append.2 (.inr (by simp)),by rw [hoj,cm hj]⟩
    rintro ⟨x,hx,e⟩
    rcases List.mem_append.1 hx with hx | hx
    ·exact .inl ⟨x,hx,e⟩
    rw [List.mem_singleton] at hx;subst hx
    rw [hoj,cm hj] at e;exact .inr (Option.some.inj e).symm
   show ((o.length:Int) - IntKind.i64.wrap _).toNat<_;rw [bV (by omega) (by omega)];omega
  have hc:=of_decide_eq_false hc
  have:k=o.length:=by omega
  subst this
  exact ⟨ha,fun z=>by rw [hz,List.take_length]⟩
 obtain ⟨t,et,ht1,ht2⟩:=hloop
 rw [ky et]
 have hmem:∀ z,z∈t↔z∈fs:=fun z=>by
  rw [ht2]
  constructor
  ·rintro ⟨x,_,e⟩
   exact List.mem_of_getElem? (el e).2
  intro hz
  obtain ⟨k,hk,rfl⟩:=List.getElem_of_mem hz
  exact ⟨(k:Int),ho.mem_iff.2 (o1.2 ⟨k,hk,rfl⟩),cm hk⟩
 have hmem2:∀ z,z∈t++t↔z∈fs:=fun z=>by rw [List.mem_append,hmem];simp
 have hB:Agr (t++t):=⟨by simp;omega,fun x hx=>hA.val x ((hmem2 x).1 hx),fun x hx y hy=>hA.key x ((hmem2 x).1 hx) y ((hmem2 y).1 hy)⟩
 obtain ⟨f1,f2,f3,_⟩:=jn hA hu1 hu2
 obtain ⟨g1,_,_,_⟩:=jn hB hu1 hu2
 have hcan:=qe hA hB hu1 hu2 (fun z=>(hmem2 z).symm)
 rw [ky f1,fF (by omega) (by omega),dp,ky g1,← hcan]
 simp only [item_eq f2,dp,Bool.and_self,gt]
 rw [ky (same_eq _ (by dsimp only;omega))]
 have h1:Ze.eqb (oZ ⟨7,gy,u,iY fs⟩).1 (oZ ⟨7,gy,u,iY fs⟩).1=true:=Ze.eqb_iff.2 rfl
 rw [h1,beq_self_eq_true]
 simp only [Bool.and_self,gt,awake31,dp]
structure Fil (f:Zd) (u:Int):Prop where
 ok:FileOk f
 units:f.Units=u
 len:f.Facts.length≤14
 frm:∀ x∈f.Facts,x.From≤200
def k0 (W:World):Kr:=⟨W,fun b=>b<W.heap.size⟩
theorem gC {t:Nat} {z:Value} {s b:Nat} (h:dm t=some (z,s,b)):Tryd.prog.cellsOf t=s∧Tryd.prog.bytesOf t=b:=by
 obtain ⟨i,h1,h2,h3,h4⟩:=gG h
 constructor
 ·simp [Program.cellsOf,h1,h3]
 simp [Program.bytesOf,h1,h4]
def Light {H:Type} (t:Nat) (d:DataW H):Prop:=∀ n∈d.weights Tryd.prog t,n≤reachBytes
theorem sy {H:Type} (d:DataW H):1≤Rows.uptoBulk d:=by
 cases d with
 | lit l=>cases l <;> simp [Rows.uptoBulk]
 | nil=>simp [Rows.uptoBulk]
 | ptr d=>simp [Rows.uptoBulk]
 | slice elems spare=>simp [Rows.uptoBulk]
 | agg parts=>simp [Rows.uptoBulk]
 | iface t d=>simp [Rows.uptoBulk]
 | map entries=>simp [Rows.uptoBulk]
 | held h=>simp [Rows.uptoBulk]
theorem qk {H:Type} {d:DataW H} {l:List (DataW H)} (h:d∈l):Rows.uptoBulk d≤Rows.uptoBulkAll l:=by
 induction l with
 | nil=>cases h
 | cons x r ih =>
  simp only [Rows.uptoBulkAll]
  cases List.mem_cons.1 h with
  | inl e=>subst e;omega
  | inr e=>have:=ih e;omega
theorem sA {H:Type} (l:List (DataW H)):l.length≤Rows.uptoBulkAll l:=by
 induction l with
 | nil=>simp [Rows.uptoBulkAll]
 | cons x r ih=>have:=sy x;simp only [Rows.uptoBulkAll,List.length_cons];omega
def Opens {H:Type} (eh:TypeId×Value→H) {α:Type} (n:Nat) (t:Nat) (e:α→List PV) (B:α→Prop):Prop :=
 ∀ (W:World) (fuel:Nat) (cs:List Value) (x:DataW H×List MemPlace),DataW.trod eh Tryd.prog W 0 (fun _=>true) true fuel t cs=some x→Light t x.1→Rows.uptoBulk x.1≤n→∃ m,Rps (k0 W) (e m) cs∧One cs∧B m
section
variable {H:Type} {eh:TypeId×Value→H} {nb:Nat}
theorem one1 {v:Value} (h:v.oneCell'=true):One [v]:=fun u hu=>by rw [List.mem_singleton.1 hu];exact h
theorem ql {t:Nat} {k:IntKind} (h:cF t=some (.int k)):Opens eh nb t (fun x:Int=>[.v (.int k x)]) (fun _=>True):=fun W fuel cs x hx _ _=>by
 obtain ⟨n,rfl,_,_⟩:=DataW.trod_int (aR h) hx
 exact ⟨n,.cons (.v rfl) .nil,one1 rfl,trivial⟩
theorem f7 {e:Nat}:∀ {l:List (DataW H)} {d:DataW H} {n:Nat},d∈l→n∈d.weights Tryd.prog e→n∈DataW.weightsAll Tryd.prog e l
 | d'::l,d,n,hd,hn=>by
  simp only [DataW.weightsAll,List.mem_append]
  rcases List.mem_cons.1 hd with rfl | hd
  ·exact .inl hn
  exact .inr (f7 hd hn)
theorem o2 {α β:Type} {R:α→β→Prop}:∀ (l:List β),(∀ b∈l,∃ a,R a b)→∃ la:List α,la.length=l.length∧∀ (i:Nat) (b:β),l[i]?=some b→∃ a,la[i]?=some a∧R a b
 | [],_=>⟨[],rfl,fun i b h=>by simp at h⟩
 | b::l,h=>by
  obtain ⟨a,ha⟩:=h b (by simp)
  obtain ⟨la,h1,h2⟩:=o2 l fun b hb=>h b (by simp [hb])
  refine ⟨a::la,by simp [h1],fun i b' hb=>?_⟩
  cases i with
  | zero=>simp only [List.getElem?_cons_zero,bJ] at hb;subst hb;exact ⟨a,rfl,ha⟩
  | succ i=>simp only [List.getElem?_cons_succ] at hb ⊢;exact h2 i b' hb
def OpensN {H:Type} (eh:TypeId×Value→H) {α:Type} (N n:Nat) (t:Nat) (e:α→List PV) (B:α→Prop):Prop :=
 ∀ (W:World) (fuel:Nat) (cs:List Value) (x:DataW H×List MemPlace),fuel<N→DataW.trod eh Tryd.prog W 0 (fun _=>true) true fuel t cs=some x→Light t x.1→Rows.uptoBulk x.1≤n→∃ m,Rps (k0 W) (e m) cs∧One cs∧B m
theorem l8 {α:Type} {N t E sz by':Nat} {z:Value} {e:α→List PV} {B:α→Prop} (hu:cF t=some (.slice E)) (hi:dm E=some (z,sz,by')) (h0:Nat.blt 0 sz=true) (hb0:Nat.blt 0 by'=true) (hE:OpensN eh N nb E e B):OpensN eh (N+1) nb t (eL e) (fun l=>l.length*by'≤140737488355328∧l.length≤nb∧∀ x∈l,B x):=fun W fuel cs x hfu hx hw hbk=>by
 obtain ⟨hcz,hby⟩:=gC hi
 have hsz:0<sz:=by have:=h0;simp [Nat.blt] at this;omega
 have hbp:0<by':=by have:=hb0;simp [Nat.blt] at this;omega
 rcases DataW.trod_slice (aR hu) hx with ⟨rfl,_⟩ | ⟨a,len,cap,elems,rest,n,rfl,rfl,rfl,_,hl,hm,hlen,hel,_,_⟩
 ·exact ⟨[],.cons (.slc (sz:=sz) (css:=[]) Sl.nil (Nat.zero_le _) (fun _ h=>by cases h) .nil) .nil,one1 rfl,by simp,Nat.zero_le _,fun _ h=>by cases h⟩
 rw [hcz] at hel
 have hwl:(elems.length+rest.length)*by'≤reachBytes:=by
  have:=hw ((elems.length+rest.length)*by') (by simp only [DataW.weights,aR hu,hby,List.length_map];exact List.mem_cons_self)
  exact this
 have hn:len≤140737488355328:=by
  unfold reachBytes at hwl
  have:elems.length*1≤(elems.length+rest.length)*by':=Nat.mul_le_mul (by omega) (by omega)
  omega
 have hcells:∀ i∈List.range len,∃ p:α×List Value,W.cells? 0 (a.add (i*sz)) sz=some p.2∧Rps (k0 W) (e p.1) p.2∧One p.2∧B p.1:=fun i hi'=>by
  have hi':i<len:=List.mem_range.1 hi'
  have h1:=hel i hi'
  have hlt:i<elems.length:=by omega
  rw [List.getElem?_eq_getElem hlt] at h1
  obtain ⟨cs,h2,h3⟩:=Option.bind_eq_some_iff.1 h1
  obtain ⟨m,k1,k2,k3⟩:=hE W n cs _ (by omega) h3 (fun q hq=>hw q (by
   simp only [DataW.weights,aR hu]
   exact List.mem_cons_of_mem _ (List.mem_append.2 (.inl (f7 (List.mem_map.2 ⟨_,List.getElem_mem hlt,rfl⟩) hq))))) (by
   have h9:=qk (l:=elems.map (·.1)) (List.mem_map.2 ⟨_,List.getElem_mem hlt,rfl⟩)
   simp only [Rows.uptoBulk] at hbk
   omega)
  exact ⟨(m,cs),h2,k1,k2,k3⟩
 obtain ⟨ps,g1,g2⟩:=o2 (R:=fun (p:α×List Value) i=>W.cells? 0 (a.add (i*sz)) sz=some p.2∧Rps (k0 W) (e p.1) p.2∧One p.2∧B p.1) (List.range len) hcells
 rw [List.length_range] at g1
 have g3:∀ (i:Nat) (p:α×List Value),ps[i]?=some p→W.cells? 0 (a.add (i*sz)) sz=some p.2∧Rps (k0 W) (e p.1) p.2∧One p.2∧B p.1:=fun i p hp=>by
  have hlt:=(List.getElem?_eq_some_iff.1 hp).1
  obtain ⟨p',h1,h2⟩:=g2 i i (by rw [List.getElem?_range (by omega)])
  rw [hp] at h1;injection h1 with h1;subst h1;exact h2
 have hps:(ps.map (·.1)).length=len:=by simp [g1]
 refine ⟨ps.map (·.1),?_,one1 rfl,?_,?_,?_⟩
 rotate_left
 ·rw [hps]
  have h9:len*by'≤(elems.length+rest.length)*by':=Nat.mul_le_mul_right _ (by omega)
  unfold reachBytes at hwl
  omega
 ·rw [hps]
  have h9:=sA (elems.map (·.1))
  rw [List.length_map] at h9
  simp only [Rows.uptoBulk] at hbk
  omega
 ·intro x hx
  obtain ⟨p,hp,rfl⟩:=List.mem_map.1 hx
  obtain ⟨i,hi',rfl⟩:=List.getElem_of_mem hp
  exact (g3 i _ (List.getElem?_eq_getElem hi')).2.2.2
 unfold eL;rw [hps]
 refine .cons (.slc (sz:=sz) (css:=ps.map (·.2)) ⟨by simp [g1],hl,?_,?_⟩ hn ?_ ?_) .nil
 ·intro c hc
  obtain ⟨p,hp,rfl⟩:=List.mem_map.1 hc
  obtain ⟨i,hi',rfl⟩:=List.getElem_of_mem hp
  exact (World.cells?_some (g3 i _ (List.getElem?_eq_getElem hi')).1).2.1
 ·intro hpos
  have hp0:0<ps.length:=by omega
  have hc0:=(World.cells?_some (g3 0 _ (List.getElem?_eq_getElem hp0)).1)
  have hread:=hc0.2.2 0 hsz
  have hspot:a.spot=none:=by
   have hlt:0<(ps[0]).2.length:=by rw [hc0.2.1];exact hsz
   rw [List.getElem?_eq_getElem hlt] at hread
   unfold World.cell? at hread
   cases hs:a.spot with
   | none=>rfl
   | some q =>
    have hsp:((a.add (0*sz)).add 0).spot.isSome=true:=by simp [Addr.add,hs]
    split at hread
    ·rw [if_pos hsp] at hread;cases hread
    cases hread
  obtain ⟨ab,ao,asp⟩:=a
  simp only at hspot;subst hspot
  refine ⟨ab,ao,rfl,fun j c hj=>?_⟩
  rw [List.getElem?_map] at hj
  cases hpj:ps[j]? with
  | none=>rw [hpj] at hj;cases hj
  | some p =>
   rw [hpj] at hj;simp only [Option.map_some,bJ] at hj;subst hj
   have hcj:=World.cells?_some (g3 j p hpj).1
   refine ⟨?_,fun i u hu'=>?_⟩
   ·have h1:=hcj.2.2 0 hsz
    have hlt:0<p.2.length:=by rw [hcj.2.1];exact hsz
    rw [List.getElem?_eq_getElem hlt,cj,cj] at h1
    unfold World.cell? at h1
    split at h1
    ·rename_i heq
     have:=fz heq
     exact this
    cases h1
   have hlt:i<sz:=by have:=(List.getElem?_eq_some_iff.1 hu').1;omega
   have h1:=hcj.2.2 i hlt
   rw [cj,cj] at h1
   rw [← hu'];exact h1
 ·intro c hc
  obtain ⟨p,hp,rfl⟩:=List.mem_map.1 hc
  obtain ⟨i,hi',rfl⟩:=List.getElem_of_mem hp
  exact (g3 i _ (List.getElem?_eq_getElem hi')).2.2.1
 have:∀ (l:List (α×List Value)),(∀ p∈l,Rps (k0 W) (e p.1) p.2)→Rpss (k0 W) ((l.map (·.1)).map e) (l.map (·.2)):=fun l=>by
  induction l with
  | nil=>exact fun _=>.nil
  | cons p l ih=>exact fun h=>.cons (h p (by simp)) (ih fun q hq=>h q (by simp [hq]))
 refine this ps fun p hp=>?_
 obtain ⟨i,hi',rfl⟩:=List.getElem_of_mem hp
 exact (g3 i _ (List.getElem?_eq_getElem hi')).2.1
theorem nu {α:Type} {t E sz by':Nat} {z:Value} {e:α→List PV} {B:α→Prop} (hu:cF t=some (.slice E)) (hi:dm E=some (z,sz,by')) (h0:Nat.blt 0 sz=true) (hb0:Nat.blt 0 by'=true) (hE:Opens eh nb E e B):Opens eh nb t (eL e) (fun l=>l.length*by'≤140737488355328∧l.length≤nb∧∀ x∈l,B x):=fun W fuel cs x hx hw =>
 l8 (N:=fuel) hu hi h0 hb0 (fun W' f' cs' x' _=>hE W' f' cs' x') W fuel cs x (Nat.lt_succ_self _) hx hw
end
end SX
end Go.Proofs.YtmgcadfnkchnfaaDoor
set_option maxRecDepth 100000
namespace Go.Proofs.YtmgcadfnkchnfaaDoor
open Go Go.ChangeShapes Go.WideShapes Go.RowKit
namespace SX
theorem own_ok:ownKnob Tryd.prog.godebug=none:=by kernel_rfl
theorem oe:laidOutB Tryd.prog=true:=by kernel_rfl
def kq:List (String×DataW Unit):=[("customs/calendar.monthLengths",Rows.laid_customs_calendar_monthLengths)]
mutual
def cellsD:DataW Unit→List Value
 | .lit (.int k n)=>[.int k n]
 | .agg ds=>o3 ds
 | _=>[]
def o3:List (DataW Unit)→List Value
 | []=>[]
 | d::r=>cellsD d++o3 r
end
def bo:Array Value:=#[.int .i64 31,.int .i64 28,.int .i64 31,.int .i64 30,.int .i64 31,.int .i64 30,.int .i64 31,.int .i64 31,.int .i64 30,.int .i64 31,.int .i64 30,.int .i64 31]
def layAt (h:Array Obj) (g:Nat) (cs:Array Value):Array Obj:=h.modify g fun | .cells _ t frozen=>.cells cs t frozen | o=>o
noncomputable def laidWorld (os:Os):World :=
 { World.holding Tryd.prog os ⟨#[],#[],[]⟩ with heap:=layAt (World.holding Tryd.prog os ⟨#[],#[],[]⟩).heap 0 bo }
theorem kr:(kq.filter fun x=>x.2.handleName?.isSome)=[]:=by kernel_rfl
def sB (w:World):MemPlace→Bool
 | .cell b off=>match w.heap[b]? with
  | some (.cells c _ (0,0))=>match c[off]? with | some (.iface _ _)=>false | _=>true
  | _=>false
 | _=>true
theorem og {w:World} {ps:List MemPlace} (h:ps.all (sB w)=true):∀ b off,MemPlace.cell b off∈ps→(∃ c t,w.heap[b]?=some (.cells c t (0,0)))∧∀ u v,w.cell? ⟨b,off,none⟩=some (.iface u v)→Value.okWide Tryd.prog w .any 0 u v:=fun b off hm=>by
 have:=List.all_eq_true.1 h _ hm
 unfold sB at this
 split at this
 ·rename_i b' off' e
  injection e with e1 e2;subst e1;subst e2
  split at this
  ·rename_i c t heq
   refine ⟨⟨c,t,heq⟩,fun u v hc=>?_⟩
   simp only [World.cell?,heq] at hc
   split at this
   ·cases this
   rename_i hno;exact absurd hc (by simpa using hno u v)
  cases this
 rename_i hno;exact absurd rfl (hno b off)
theorem kF (os:Os) (args:Array Value):laidMetH Tryd.prog kq ((laidWorld os).forCall (fun _ _=>0) ⟨#[],args,[]⟩).memory:=by
 unfold laidMetH
 rw [kr]
 refine ⟨_,⟨0,97,bo,8,[],_,by kernel_rfl,by kernel_rfl,by kernel_rfl,by kernel_rfl,rfl,rfl⟩,?_,?_⟩
 ·exact of_decide_eq_true (by kernel_rfl)
 exact og (by kernel_rfl)
theorem bz {H:Type} {eh:TypeId×Value→H} {P:Program} {w:World} {base:Nat} {sp:Nat→Bool} {held:Bool} {fuel:Nat} {t:TypeId} {k:IntKind} {c:Value} {y:DataW H×List MemPlace} (ht:P.underlying t=some (.int k)) (h:DataW.trod eh P w base sp held fuel t [c]=some y):∃ n,c=.int k n∧y=(.lit (.int k n),[]):=by
 obtain ⟨n,h1,h2,_⟩:=DataW.trod_int ht h
 injection h1 with h1 _
 exact ⟨n,h1,h2⟩
theorem laid_ml {W:World} (h:laidMetH Tryd.prog kq W):Sh (k0 W) 0 0 [.int .i64 31,.int .i64 28,.int .i64 31,.int .i64 30,.int .i64 31,.int .i64 30,.int .i64 31,.int .i64 31,.int .i64 30,.int .i64 31,.int .i64 30,.int .i64 31]:=by
 unfold laidMetH at h
 rw [kr] at h
 obtain ⟨ps,⟨g,t,cs,fuel,p,q,hg,ht,hvar,hd,_,_⟩,_⟩:=h
 obtain rfl:=Option.some.inj ((show Tryd.prog.globalNamed "customs/calendar.monthLengths" = some 0 by kernel_rfl).symm.trans hg)
 obtain rfl:=Option.some.inj ((show (Tryd.prog.globals[0]?).map (·.type)=some 97 by kernel_rfl).symm.trans ht)
 have hcs:cs=bo:=by
  obtain ⟨l⟩:=cs
  cases fuel with
  | zero=>simp [DataW.trod] at hd
  | succ fuel =>
   have hc1:=(gC (t:=97) rfl).1
   have hc2:=(gC (t:=3) rfl).1
   have hu1:Tryd.prog.underlying 97=some (.array 12 3):=aR rfl
   simp only [DataW.trod,hu1,hc1,hc2] at hd
   split at hd
   ·rename_i hl
    obtain ⟨c0,c1,c2,c3,c4,c5,c6,c7,c8,c9,c10,c11,rfl⟩:∃ c0 c1 c2 c3 c4 c5 c6 c7 c8 c9 c10 c11,l=[c0,c1,c2,c3,c4,c5,c6,c7,c8,c9,c10,c11]:=by
     match l,hl with
     | [a0,a1,a2,a3,a4,a5,a6,a7,a8,a9,a10,a11],_=>exact ⟨a0,a1,a2,a3,a4,a5,a6,a7,a8,a9,a10,a11,rfl⟩
    have e:List.range 12=[0,1,2,3,4,5,6,7,8,9,10,11]:=rfl
    rw [e] at hd
    simp only [Option.map_eq_some_iff,List.mapM_cons,List.mapM_nil,Option.bind_eq_bind,Option.bind_eq_some_iff,Option.pure_def,bJ] at hd
    obtain ⟨xs,⟨y0,h0,_,⟨y1,h1,_,⟨y2,h2,_,⟨y3,h3,_,⟨y4,h4,_,⟨y5,h5,_,⟨y6,h6,_,⟨y7,h7,_,⟨y8,h8,_,⟨y9,h9,_,⟨y10,h10,_,⟨y11,h11,_,rfl,rfl⟩,rfl⟩,rfl⟩,rfl⟩,rfl⟩,rfl⟩,rfl⟩,rfl⟩,rfl⟩,rfl⟩,rfl⟩,rfl⟩,hx⟩:=hd
    have hui:Tryd.prog.underlying 3=some (.int .i64):=aR rfl
    obtain ⟨n0,rfl,rfl⟩:=bz hui h0
    obtain ⟨n1,rfl,rfl⟩:=bz hui h1
    obtain ⟨n2,rfl,rfl⟩:=bz hui h2
    obtain ⟨n3,rfl,rfl⟩:=bz hui h3
    obtain ⟨n4,rfl,rfl⟩:=bz hui h4
    obtain ⟨n5,rfl,rfl⟩:=bz hui h5
    obtain ⟨n6,rfl,rfl⟩:=bz hui h6
    obtain ⟨n7,rfl,rfl⟩:=bz hui h7
    obtain ⟨n8,rfl,rfl⟩:=bz hui h8
    obtain ⟨n9,rfl,rfl⟩:=bz hui h9
    obtain ⟨n10,rfl,rfl⟩:=bz hui h10
    obtain ⟨n11,rfl,rfl⟩:=bz hui h11
    simp [Rows.laid_customs_calendar_monthLengths] at hx
    obtain ⟨⟨rfl,rfl,rfl,rfl,rfl,rfl,rfl,rfl,rfl,rfl,rfl,rfl⟩,_⟩:=hx
    rfl
   cases hd
 subst hcs
 have hcell:∀ j u,bo[j]?=some u→W.cell? ⟨0,j,none⟩=some u:=fun j u hu=>by
  have:=World.var?_cell hg hvar j
  rw [this];exact hu
 refine ⟨?_,fun j u hu=>?_⟩
 ·have h0:=hcell 0 _ rfl
  unfold World.cell? at h0
  split at h0
  ·rename_i heq;exact fz heq
  cases h0
 rw [Nat.zero_add];exact hcell j u (by simpa [bo] using hu)
theorem nv {W:World} (h:laidMetH Tryd.prog kq W):GOK (k0 W):=laid_ml h
end SX
end Go.Proofs.YtmgcadfnkchnfaaDoor
set_option maxRecDepth 100000
namespace Go.Proofs.YtmgcadfnkchnfaaDoor
open Go Go.ChangeShapes Go.WideShapes Go.RowKit
namespace SX
theorem inv0 (W:World):Zb ⟨k0 W,[],none⟩ [] (k0 W):=⟨.refl _ _,fun _ h=>h,(fun _ h=>by cases h),(fun _ h=>by cases h),.nil⟩
theorem sC {W:World} {ρ:List Res} {κ:Kr} (h:Zb ⟨k0 W,[],none⟩ ρ κ):Below W.heap.size W κ.w:=⟨h.le.os,h.le.tape,h.le.output,h.le.kle.size,fun k hk=>h.le.same k hk (by simp)⟩
section
variable {H:Type} {eh:TypeId×Value→H}
theorem kG {W W':World} (hb:Below W.heap.size W W') {ts:List TypeId} (hr:∀ t∈ts,Tryd.prog.readableRec t=true∧t<Tryd.prog.types.size):∀ {vs:List Value} {ds:List (DataW H)} {ps:List MemPlace},DataW.TrodAll eh Tryd.prog W 0 (fun _=>true) true ts vs ds ps→(∀ p∈ps,p.block<W.heap.size)→DataW.TrodAll eh Tryd.prog W' 0 (fun b=>decide (b<W.heap.size)) true ts vs ds ps:=by
 induction ts with
 | nil=>intro vs ds ps h _;cases vs <;> cases ds <;> first | exact h | cases h
 | cons t ts ih =>
  intro vs ds ps h hlt
  cases vs with
  | nil=>cases h
  | cons v vs =>
   cases ds with
   | nil=>cases h
   | cons d ds =>
    obtain ⟨p,q,h1,h2,e⟩:=h
    have ht:=hr t (by simp)
    exact ⟨p,q,Below.trod oe ht.1 ht.2 h1 hb (fun x hx=>hlt x (by rw [e];simp [hx])),ih (fun u hu=>hr u (by simp [hu])) h2 (fun x hx=>hlt x (by rw [e];simp [hx])),e⟩
theorem readB {ts:List TypeId} (h:(ts.all fun t=>Tryd.prog.readableRec t&&Nat.blt t Tryd.prog.types.size)=true):∀ t∈ts,Tryd.prog.readableRec t=true∧t<Tryd.prog.types.size:=fun t ht=>by
 have:=List.all_eq_true.1 h t ht
 rw [Bool.and_eq_true] at this
 exact ⟨this.1,by have h2:=this.2;exact Nat.le_of_ble_eq_true h2⟩
theorem sD {f tb:Nat} {fn:Func} {s:ChangeSpec} {W:World} {args:Array Value} {ds gs:List (DataW H)} {before:List MemPlace} {pargs:List PV}
    (hrd:∀ t∈fn.params.toList,Tryd.prog.readableRec t=true∧t<Tryd.prog.types.size) (hres:fn.resultTypes=#[tb]) (hub:Tryd.prog.underlying tb=some .bool) (hvars:s.vars=[])
    (hspec:s.fn H ds={ results:=[.lit (.bool true)],args:=ds }) (hW:DataW.Whole eh Tryd.prog fn.params.toList s.vars false W args.toList ds gs before) (hG:GOK (k0 W)) (hargs:Rps (k0 W) pargs args.toList) (hPF:PF f pargs (.v (.bool true))) :
    Calls Tryd.prog f args W fun e W'=>∃ v,e=.returned v∧s.post eh Tryd.prog fn false true false false W args v W':=by
  have hc:=(hPF (k0 W) args.toList hG hargs).2 (inv0 W)
  have e:args.toList.toArray=args:=by simp
  rw [e] at hc
  refine Calls.mono hc fun en W' ⟨v,ρ',κ',h1,h2,h3,h4,h5⟩=>⟨v,h1,?_⟩
  subst h2
  have hv:=h5.val
  subst hv
  have hb:=sC h3
  have hW':=hW
  obtain ⟨p,q,hA,hV,rfl,hfz,hnd⟩:=hW
  rw [hvars] at hV
  obtain ⟨rfl,rfl⟩:gs=[]∧q=[]:=by
    cases gs with
    | nil=>exact ⟨rfl,hV⟩
    | cons g r=>exact absurd hV (by intro h;cases h)
  refine ⟨ds,[],_,[],p,[],hW',?_,?_,?_,hb.frame _,fun h=>by cases h⟩
  · rw [List.append_nil,hspec,hres];exact trodAll_mk1 (shut_bool hub true)
  · rw [List.append_nil,hspec];exact kG hb hrd hA (DataW.TrodAll.lt hA)
  rw [hvars,List.append_nil,hspec];rfl
theorem trodAll_cons {W:World} {t:TypeId} {ts:List TypeId} {vs:List Value} {ds:List (DataW H)} {ps:List MemPlace} (h:DataW.TrodAll eh Tryd.prog W 0 (fun _=>true) true (t::ts) vs ds ps):∃ v vs' d ds' p q,vs=v::vs'∧ds=d::ds'∧DataW.Trod eh Tryd.prog W 0 (fun _=>true) true t v d p∧DataW.TrodAll eh Tryd.prog W 0 (fun _=>true) true ts vs' ds' q:=by
 cases vs with
 | nil=>cases h
 | cons v vs =>
  cases ds with
  | nil=>cases h
  | cons d ds=>obtain ⟨p,q,h1,h2,_⟩:=h;exact ⟨v,vs,d,ds,p,q,rfl,rfl,h1,h2⟩
theorem trodAll_nil {W:World} {vs:List Value} {ds:List (DataW H)} {ps:List MemPlace} (h:DataW.TrodAll eh Tryd.prog W 0 (fun _=>true) true [] vs ds ps):vs=[]∧ds=[]:=by
 cases vs <;> cases ds <;> first | exact ⟨rfl,rfl⟩ | cases h
theorem nw {l:Array TypeId} (h:(l.toList.all fun t => !Tryd.prog.wantsStandIn t)=true) {j:Nat} {t:TypeId} (ht:l[j]?=some t):Tryd.prog.wantsStandIn t=false:=by
 have:=List.all_eq_true.1 h t (by have:=Array.mem_of_getElem? ht;simpa using this)
 simpa using this
theorem light_head {t:Nat} {ts:List Nat} {d:DataW H} {ds:List (DataW H)} (h:(DataW.weightsEach Tryd.prog (t::ts) (d::ds)).all (· ≤ reachBytes)=true):Light t d∧(DataW.weightsEach Tryd.prog ts ds).all (· ≤ reachBytes)=true:=by
 simp only [DataW.weightsEach,List.all_append,Bool.and_eq_true] at h
 exact ⟨fun n hn=>by simpa using List.all_eq_true.1 h.1 n hn,h.2⟩
def ku:TypeDesc→Bool
 | .int _ | .bool | .string | .slice _=>true
 | _=>false
theorem not_agg {W:World} {r:Reach} {base t:Nat} {v:Value} {D:TypeDesc} (hu:cF t=some D) (hD:ku D=true) (h:Value.okWide Tryd.prog W r base t v):∀ cs,v.cells.toList=[cs]→v=cs:=fun cs he=>by
 cases v with
 | agg arr =>
  exfalso
  unfold Value.okWide at h
  rw [aR hu] at h
  cases D <;> first | (revert hD;simp [ku];done) | (simp only at h;unfold Cell.okWide at h;rw [aR hu] at h;simp only at h;unfold Cell.ok at h;rw [aR hu] at h;simp at h)
 | _=>simpa [Value.cells] using he
theorem ma {nb:Nat} {W:World} {r:Reach} {base t:Nat} {v:Value} {D:TypeDesc} {α:Type} {e:α→List PV} {B:α→Prop} {d:DataW H} {ps:List MemPlace} (hu:cF t=some D) (hD:ku D=true) (hO:Opens eh nb t e B) (h1:∀ m,∃ p,e m=[p]) (h:Value.okWide Tryd.prog W r base t v) (hd:DataW.Trod eh Tryd.prog W 0 (fun _=>true) true t v d ps) (hl:Light t d) (hn:Rows.uptoBulk d≤nb):∃ m,Rps (k0 W) (e m) [v]∧B m:=by
 obtain ⟨fuel,hf⟩:=hd
 obtain ⟨m,h2,_,h9⟩:=hO W fuel _ _ hf hl hn
 refine ⟨m,?_,h9⟩
 obtain ⟨p,hp⟩:=h1 m
 rw [hp] at h2
 generalize hc:v.cells.toList=cs at h2
 obtain ⟨w,ws,rfl,h3,h4⟩:=h2.cons_inv
 rw [h4.nil_inv] at hc
 rw [not_agg hu hD h w hc,hp]
 exact .cons h3 .nil
end
end SX
end Go.Proofs.YtmgcadfnkchnfaaDoor
namespace Go.Proofs.YtmgcadfnkchnfaaDoor
namespace SX
open Go
def bd3:Nat→Int→Prop:=fun _ _=>True
theorem op3 {H:Type} {eh:TypeId×Value→H} {nb:Nat}:Opens eh nb 3 eI (bd3 nb):=ql rfl
def bd22:Nat→(List Int)→Prop:=fun n l=>l.length*8≤140737488355328∧l.length≤n∧∀ x∈l,bd3 n x
theorem op22 {H:Type} {eh:TypeId×Value→H} {nb:Nat}:Opens eh nb 22 (eL eI) (bd22 nb):=nu rfl rfl rfl rfl op3
end SX
end Go.Proofs.YtmgcadfnkchnfaaDoor
set_option maxRecDepth 100000
namespace Go.Proofs.YtmgcadfnkchnfaaDoor
open Go Go.ChangeShapes Go.WideShapes Go.RowKit
open SX
theorem auditOrder_lifted (os:Os) (started:os.Started) (H:Type) (enc:TypeId×Value→H) :
    ReturnsInHanded {} Tryd.checked os 3 .any (fun w args=>(Rows.auditOrderSpec.pre enc Tryd.prog Tryd.f3 [] false w args∧laidMetH Tryd.prog kq w)∧sizedMet enc Tryd.prog Tryd.f3 (OpenSpec.ofChange Rows.auditOrderSpec) false w args)
      (Rows.auditOrderSpec.post enc Tryd.prog Tryd.f3 false true false false):=by
  refine returnsInHanded_of_change_and (C:=Tryd.checked) (X:=fun w _=>laidMetH Tryd.prog kq w) (fun _ _ _ hh h=>h.of_heap hh) own_ok started (by kernel_rfl) Tryd.func3
    (ChangeSpec.witness_at (enc:=enc) (C:=Tryd.checked) (os:=os) (X:=fun w _=>laidMetH Tryd.prog kq w) false (laidWorld os) #[.slice none 0 0,.slice none 0 0,.int .i64 0] 8 rfl (by kernel_rfl) (by kernel_rfl) (by kernel_rfl) (by kernel_rfl) (by kernel_rfl) (kF os _)) ?_
  intro W base args ds gs before hval0 hW _ hwt hL _
  have hval:∀ (j:Nat) t v,Tryd.f3.params[j]?=some t→args[j]?=some v→Value.okWide Tryd.prog W .any base t v:=hval0
  have hW2:=hW
  obtain ⟨p,q,hA0,hV0,rfl,_,_⟩:=hW
  have hA:DataW.TrodAll enc Tryd.prog W 0 (fun _=>true) true [22,22,3] args.toList ds p:=hA0
  obtain ⟨rfl,rfl⟩:gs=[]∧q=[]:=by
    cases gs with
    | nil=>exact ⟨rfl,hV0⟩
    | cons g r=>exact absurd hV0 (by intro h;cases h)
  generalize hargs:args.toList=vs at hA
  have hval2:∀ (j:Nat) t v,[22,22,3][j]?=some t→vs[j]?=some v→Value.okWide Tryd.prog W .any base t v:=fun j t v h1 h2=>hval j t v (by rw [Tryd.params3];simpa using h1) (by rw [← hargs] at h2;simpa using h2)
  obtain ⟨v0,vs0,d0,ds0,p0,q0,rfl,rfl,h0,hA⟩:=SX.trodAll_cons hA
  obtain ⟨v1,vs1,d1,ds1,p1,q1,rfl,rfl,h1,hA⟩:=SX.trodAll_cons hA
  obtain ⟨v2,vs2,d2,ds2,p2,q2,rfl,rfl,h2,hA⟩:=SX.trodAll_cons hA
  obtain ⟨rfl,rfl⟩:=SX.trodAll_nil hA
  have hw:(DataW.weightsEach Tryd.prog [22,22,3] [d0,d1,d2]).all (· ≤ reachBytes)=true:=hwt
  obtain ⟨l0,hw⟩:=SX.light_head hw
  obtain ⟨m0,s0,b0⟩:=ma rfl rfl op22 (fun _=>⟨_,rfl⟩) (hval2 0 22 v0 rfl rfl) h0 l0 (Nat.le_refl _)
  obtain ⟨l1,hw⟩:=SX.light_head hw
  obtain ⟨m1,s1,b1⟩:=ma rfl rfl op22 (fun _=>⟨_,rfl⟩) (hval2 1 22 v1 rfl rfl) h1 l1 (Nat.le_refl _)
  obtain ⟨l2,hw⟩:=SX.light_head hw
  obtain ⟨m2,s2,b2⟩:=ma rfl rfl op3 (fun _=>⟨_,rfl⟩) (hval2 2 3 v2 rfl rfl) h2 l2 (Nat.le_refl _)
  exact sD (readB (by kernel_rfl)) rfl (aR rfl) rfl (by simp [Rows.auditOrderSpec]) hW2 (nv hL) (by rw [hargs];exact (s0.app (s1.app s2))) (gm (kp m0 m1 m2 s0 s1 s2))
theorem auditOrder_holds:Rows.AuditOrderSaid :=
 OpenClaim.holds_of_wide 3 Tryd.f3 rfl rfl rfl rfl rfl rfl rfl ⟨rfl,rfl,rfl,rfl,rfl⟩ rfl rfl rfl rfl rfl auditOrder_named Tryd.func3 auditOrder_closed
  (of_decide_eq_true (by kernel_rfl)) (by unfold Func.isWrapper;rw [if_neg (of_decide_eq_false (by kernel_rfl))];exact ⟨rfl,rfl⟩)
  (fun os started H enc _=>auditOrder_lifted os started H enc)
theorem auditOrder_card:Rows.AuditOrderCardSaid :=
 Claim7.holds_tied_plain_at .later [] [.data] true (true, "723a3f8763fe671da25107c76aac54823bbe3c8059532a2e32ae3f83261a369c") false
  auditOrder_holds (fun _ h=>by cases h) (by as_aux_lemma=>kernel_rfl) (fun _ h=>by cases h) auditOrder_row_tie rfl ⟨rfl,rfl⟩ fp_main rfl
  (fun f fn hf hfn=>by
   obtain rfl:f=3:=Option.some.inj ((show Tryd.prog.funcNamed "customs/customslaw31.AuditOrder" = some 3 from auditOrder_named).symm.trans hf) |>.symm
   obtain rfl:fn=Tryd.f3:=(Option.some.inj (Tryd.func3.symm.trans hfn)).symm
   exact ⟨fp_looks,fun j t ht=>by
    rw [Tryd.params3] at ht
    exact nw (by as_aux_lemma=>kernel_rfl) ht⟩)
  auditOrder_goes
#print axioms auditOrder_card
end Go.Proofs.YtmgcadfnkchnfaaDoor
