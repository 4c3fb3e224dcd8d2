/- A part of the proof: texts of the walk and of the plain laws, merged. No condition. -/
import Derived.Test.YthbphcbhedmnoaaGreatDoorM2
set_option linter.unusedVariables false
set_option linter.unusedSimpArgs false
set_option maxHeartbeats 4000000
set_option maxRecDepth 100000
namespace Go.Proofs.YthbphcbhedmnoaaGreatDoor
namespace SX
open Go
attribute [local irreducible] PWL PWC PWD POpL POpQ PEv PGuardIs PSub PPick PUpd PSplice PFill PLit PF PFV PCall FOk dg ce ew eM dG ex Cov PHolds bs idx app mk gd lb nz mn oF sub gt dW oA jc dK cg gF dX IntKind.wrap Int.tmod Int.tdiv Op.bytesLess strOfNums
def bj (p0:(List Zb)) (p1:(Zb→Zb→Option Int)):Option (List Zb):=(gx (IntKind.u64.wrap ((p0.length:Nat):Int))).bind fun x1=>(bJ p0 0 ((p0.length:Nat):Int) x1 p1).bind fun x2=>some x2
theorem cz {p0:(List Zb)} {p1:(Zb→Zb→Option Int)} {a_0:Option Addr}  {n_0:Nat}  {c_0:Nat} {r:(List Zb)} {g1:PV} (hg1:∀ {y0:Zb} {y1:Zb} {w:Int},p1 y0 y1=some w→PFV g1 [.agg [pI y0.index_,pU y0.share,pU y0.rest],.agg [pI y1.index_,pU y1.share,pU y1.rest]] (pI w)) (h:bj p0 p1=some r):PCall 182 [.v (.slice a_0 n_0 c_0),g1] [PRes.row a_0 n_0 c_0 244 3 (List.map Zb.enc p0)] (fun pv ρ'=>pv=.tup []∧ρ'=[PRes.row a_0 n_0 c_0 244 3 (List.map Zb.enc r)]):=by
 unfold bj at h
 refine aL Tryz.func182 rfl Tryz.ntmps182 Tryz.results182 rfl ?_
 refine cW (enc:=Zb.enc) (xs:=p0) (a:=a_0) gc (fun hl ha=>?_);subst hl;clear ha
 refine ag (am [5,6] [(4,pI ((p0.length:Nat):Int))] (by kernel_rfl) (az (ae h fun x1 hx1 h=>ae h fun x2 hx2 h=>aj (br 6 [] [9,10] [(7,pO a_0 p0.length c_0),(8,pI ((p0.length:Nat):Int)),(11,pI x1),(12,g1)] (cu 4 (kn hx1) bV) (by kernel_rfl) ?_))))
 refine aK rfl (dM rfl rfl (ρ1:=[_]) (bM (by exact aF) (List.Perm.refl _)) (dx hg1 hx2) ?_);rintro _ _ ⟨rfl,rfl⟩
 refine aH ?_
 obtain rfl:=osi h
 exact iq (rfl:PRV [] _ _ (.tup [])) fK ⟨rfl,rfl⟩
def de (p0:Zb) (p1:Zb) (p2:Zj):Option Int:=(eY p0 p1).bind fun x3=>some x3
theorem fP {p0:Zb} {p1:Zb} {p2:Zj} {r:Int}  (h:de p0 p1 p2=some r):PF 183 [.agg [pI p0.index_,pU p0.share,pU p0.rest],.agg [pI p1.index_,pU p1.share,pU p1.rest],.ref [.fn 142 []] 0] (pI r):=by
 unfold de at h
 refine bC ?_
 refine aL Tryz.func183 rfl Tryz.ntmps183 Tryz.results183 rfl (ag (aj (aK rfl (bY (cs:=[pI p0.index_,pU p0.share,pU p0.rest]) rfl rfl (fun b1=>aK rfl (bY (cs:=[pI p1.index_,pU p1.share,pU p1.rest]) rfl rfl (fun b2=>cb [5] (by kernel_rfl) (bx (ae h fun x3 hx3 h=>aG [1,0] (rg 6 5) [(5,pI x3)] (tg 4 (im (pargs:=[.agg [pI p0.index_,pU p0.share,pU p0.rest],.agg [pI p1.index_,pU p1.share,pU p1.rest]]) (caps:=[]) (iT hx3)) bV) (by kernel_rfl) (ec ?_))))))))))
 exact zz r h rfl
def dy (p0:Zj) (p1:(List Zb)):Option (List Zb):=(bj p1 (fun y2 y3=>de y2 y3 (⟨()⟩:Zj))).bind fun x4=>some x4
theorem gf {p0:Zj} {p1:(List Zb)} {a_1:Option Addr}  {n_1:Nat}  {c_1:Nat} {r:(List Zb)}  (h:dy p0 p1=some r):PCall 143 [.agg [.fn 142 []],.v (.slice a_1 n_1 c_1)] [PRes.row a_1 n_1 c_1 244 3 (List.map Zb.enc p1)] (fun pv ρ'=>pv=.tup []∧ρ'=[PRes.row a_1 n_1 c_1 244 3 (List.map Zb.enc r)]):=by
 unfold dy at h
 refine aL Tryz.func143 rfl Tryz.ntmps143 Tryz.results143 rfl ?_
 refine cW (enc:=Zb.enc) (xs:=p1) (a:=a_1) gc (fun hl ha=>?_);subst hl;clear ha
 refine ag (aj (aK rfl (bY (cs:=[.fn 142 []]) rfl rfl (fun b1=>aH (az (aj (bp 1 [(4,pO a_1 p1.length c_1)] (by kernel_rfl) ?_)))))))
 refine nB 2 rfl (by exact aF) ?_
 refine ae h fun x4 hx4 h=>bp 1 [(5,.fn 183 [.ref [.fn 142 []] 0])] (by kernel_rfl) ?_
 refine aK rfl (dM rfl rfl (ρ1:=[_]) (bM (by exact aC aF) (List.Perm.refl _)) (cz (fun hr=>im (fP hr)) hx4) ?_);rintro _ _ ⟨rfl,rfl⟩
 refine aH ?_
 obtain rfl:=osi h
 exact iq (rfl:PRV [] _ _ (.tup [])) fK ⟨rfl,rfl⟩
def fD (p0:Int) (p1:(List Int)):Option ((List Int)×Int):=(fz p0 p1).bind fun x1=>cond (x1 != 0) (some ([],x1)) ((fA p1).bind fun x3=>Option.bind (cond (x3 == 0) (some (p1.length:Int)) (some x3)) (fun v4=>(mk 24 (⟨(0:Int),(0:Int),(0:Int)⟩:Zb) (p1.length:Int)).bind fun l7=>(bs (S:=Int×(List Zb)×Int) (T:=(Int×(List Zb))) (fun (v10,l12,v13)=>cond (decide (v13<(p1.length:Int))) ((idx p1 v13).bind fun m20=>Option.bind (cond (x3 == 0) (some 1) (some m20)) (fun v22=>(hY (IntKind.u64.wrap p0) (IntKind.u64.wrap v22) (IntKind.u64.wrap v4) 0).bind fun x25=>(hZ (IntKind.u64.wrap p0) (IntKind.u64.wrap v22) (IntKind.u64.wrap v4)).bind fun x26=>(idx l12 v13).bind fun m27=>lb ((IntKind.i64.wrap (v10 - (IntKind.i64.wrap x25.1)))) (fun w29=>some (.inl (w29,(l12.set v13.toNat (⟨v13,x25.1,x26⟩:Zb)),(IntKind.i64.wrap (v13+1))))))) (some (.inr (v10,l12)))) FUEL (p0,l7,0)).bind fun (v14,l16)=>(dy (⟨()⟩:Zj) l16).bind fun x30=>(mk 8 (0:Int) (p1.length:Int)).bind fun l31=>(bs (S:=(List Int)×Int) (T:=((List Int))) (fun (l35,v36)=>cond (decide (v36<((l7.length:Nat):Int))) (((idx x30 v36).bind fun m46=>(idx l35 m46.index_).bind fun m48=>cond (decide (v36<v14)) ((idx (l35.set m46.index_.toNat (IntKind.i64.wrap m46.share)) m46.index_).bind fun m51=>(idx (l35.set m46.index_.toNat (IntKind.i64.wrap m46.share)) m46.index_).bind fun m52=>some ((l35.set m46.index_.toNat (IntKind.i64.wrap m46.share)).set m46.index_.toNat (IntKind.i64.wrap (m51+1)))) (some (l35.set m46.index_.toNat (IntKind.i64.wrap m46.share)))).bind fun l43=>some (.inl (l43,(IntKind.i64.wrap (v36+1))))) (some (.inr l35))) FUEL (l31,0)).bind fun l38=>some (l38,(0:Int))))
theorem jq {p0:Int} {p1:(List Int)} {r:((List Int)×Int)}  (h:fD p0 p1=some r):PF 110 [pI p0,pL eI p1] (.tup [pL eI r.1,pI r.2]):=by
 unfold fD at h
 refine bC ?_
 refine aL Tryz.func110 rfl Tryz.ntmps110 Tryz.results110 rfl (ag (bi [4,5] (by kernel_rfl) (dE (ae h fun x1 hx1 h=>aG [] [19,20,21] [(6,pI x1)] (cu 2 (jl hx1) bV) (by kernel_rfl) (bx (am [22] [(23,pB (x1 != 0))] (by kernel_rfl) (cZ rfl h (fun hc2 h=>?_) fun hc2 h=>?_)))))))
 ·refine ag ?_
  refine am [24] [(4,pN),(5,pI x1)] (by kernel_rfl) (az (qN 4 rfl (cV (aU ?_))))
  obtain rfl:=osi h
  exact bg (dh (aZ rfl) (aZ rfl)) be ⟨rfl,rfl⟩
 refine ap ?_
 refine bx (ae h fun x3 hx3 h=>aG [] [25,26] [(7,pI x3)] (cu 1 (jm hx3) bV) (by kernel_rfl) (bx (am [27,28] [(8,pB (x3 == 0))] (by kernel_rfl) (dE (ar [(29,pB (x3 == 0))] (by kernel_rfl) (az (ae h fun q5 hq5 h=>?_)))))))
 refine aQ (Y:=Unit×Int) (fun (_,v4)=>[(0,pI p0),(1,pL eI p1),(7,pI v4),(8,pB (x3 == 0))]) (fun (_,v4)=>[]) (fun (_,v4)=>q5=v4) ?_ ?_
 ·skip
  refine jg rfl hq5 (fun hc6 hq5=>?_) fun hc6 hq5=>?_
  ·refine am [30,31] [(7,pI (p1.length:Int))] (by kernel_rfl) ?_
   obtain rfl:=osi hq5
   exact aq ((),(p1.length:Int)) (kO rfl) be rfl
  refine ap ?_
  obtain rfl:=osi hq5
  exact aq ((),x3) (kO rfl) be rfl
 rintro ⟨_,v4⟩ τ hz;(try dsimp only at hz);subst q5;(try dsimp only at h);dsimp only [aT]
 refine ag (am [32] [(9,pI p0)] (by kernel_rfl) (bx (ae h fun l7 hl7 h=>aj (cj 2 [33] [(34,pI (p1.length:Int))] (by kernel_rfl) (aK rfl (qQ (enc:=Zb.enc) rfl rfl rfl rfl rfl rfl rfl rfl rfl hl7 (fun b8=>bB [(10,pO (some ⟨b8,0,none⟩) l7.length l7.length)] (by kernel_rfl) (dE (ar [(36,pL eI p1),(37,pI (p1.length:Int)),(38,pI 0)] (by kernel_rfl) (az (ae h fun q18 hq18 h=>?_)))))))))))
 refine aQ (Y:=Unit×(Int×(List Zb))) (fun (_,(v14,l16))=>[(1,pL eI p1),(9,pI v14),(10,pO (some ⟨b8,0,none⟩) l7.length l7.length)]) (fun (_,(v14,l16))=>[PRes.row (some ⟨b8,0,none⟩) l7.length l7.length 244 3 (List.map Zb.enc l16)]) (fun (_,(v14,l16))=>q18=(v14,l16)) ?_ ?_
 ·refine aA ?_
  refine bf (Y:=Unit) (S:=Int×(List Zb)×Int) _ hq18 (fun _ (v10,l12,v13)=>[(0,pI p0),(1,pL eI p1),(7,pI v4),(8,pB (x3 == 0)),(9,pI v10),(10,pO (some ⟨b8,0,none⟩) l7.length l7.length),(36,pL eI p1),(37,pI (p1.length:Int)),(38,pI v13)]) (fun _ (v10,l12,v13)=>[PRes.row (some ⟨b8,0,none⟩) l7.length l7.length 244 3 (List.map Zb.enc l12)]) () (oO rfl) fK ?_
  rintro _ ⟨v10,l12,v13⟩ o τ hb17;(try dsimp only at hb17);dsimp only [aT]
  refine ag (ar [(39,pB (decide (v13<(p1.length:Int))))] (by kernel_rfl) (bx (jg rfl hb17 (fun hc19 hb17=>?_) fun hc19 hb17=>?_)))
  ·refine ap ?_
   refine bx (aA (ag (ae hb17 fun m20 hm20 hb17=>aG [] [40,41,42] [(11,pI v13),(12,pI m20)] (gu 1 eI hm20 bV) (by kernel_rfl) (dE (ar [(43,pB (x3 == 0))] (by kernel_rfl) (az (ae hb17 fun q23 hq23 hb17=>?_)))))))
   refine aQ (Y:=Unit×Int) (fun (_,v22)=>[(0,pI p0),(1,pL eI p1),(7,pI v4),(8,pB (x3 == 0)),(9,pI v10),(10,pO (some ⟨b8,0,none⟩) l7.length l7.length),(11,pI v13),(12,pI v22),(36,pL eI p1),(37,pI (p1.length:Int)),(38,pI v13)]) (fun (_,v22)=>[PRes.row (some ⟨b8,0,none⟩) l7.length l7.length 244 3 (List.map Zb.enc l12)]) (fun (_,v22)=>q23=v22) ?_ ?_
   ·skip
    refine jg rfl hq23 (fun hc24 hq23=>?_) fun hc24 hq23=>?_
    ·refine ar [(12,pI 1)] (by kernel_rfl) ?_
     obtain rfl:=osi hq23
     exact aq ((),1) (bq rfl (bq rfl (oO rfl))) fK rfl
    refine ap ?_
    obtain rfl:=osi hq23
    exact aq ((),m20) (bq rfl (bq rfl (oO rfl))) fK rfl
   rintro ⟨_,v22⟩ τ hz;(try dsimp only at hz);subst q23;(try dsimp only at hb17);dsimp only [aT]
   refine ag (ae hb17 fun x25 hx25 hb17=>aG [] ((rg 45 7)++[44,52,53,14]) [(13,pU x25.1)] (cu 6 (kR hx25) bV) (by kernel_rfl) (bx (ae hb17 fun x26 hx26 hb17=>aG [] (rg 54 7) [(15,pU x26)] (cu 6 (kS hx26) bV) (by kernel_rfl) (bx (ae hb17 fun m27 hm27 hb17=>aj (cj 6 [63,64,65] [(61,pO (some ⟨b8,0,none⟩) l7.length l7.length),(62,pI v13),(66,.agg [pI v13,pU x25.1,pU x26])] (by kernel_rfl) (bK rfl rfl rfl (cn (enc:=Zb.enc) (xs:=l12) rfl rfl rfl (.p rfl) gc (.p rfl) (fun _=>hm27)) (bF rfl rfl (db (enc:=Zb.enc) (xs:=l12) (a:=(some ⟨b8,0,none⟩)) v13 0 m27 (⟨v13,x25.1,x26⟩:Zb) rfl rfl rfl rfl (fun _=>rfl) rfl rfl hm27 zl3 aY (aH (az ?_)))))))))))
   refine cK hb17 ?_;clear hb17;intro w29 hw29 hb17
   refine aj (cj 4 [68,69,70] [(71,pI (IntKind.i64.wrap (v10 - (IntKind.i64.wrap x25.1))))] (by kernel_rfl) (bK rfl rfl rfl (bo rfl (.p (congrArg (fun z=>PV.v (Value.int .i64 z)) hw29))) (aH (av (az (am [72] [(38,pI (IntKind.i64.wrap (v13+1)))] (by kernel_rfl) ?_))))))
   exact bN hb17 () (oO rfl) fK
  refine bk ?_
  refine aV (aM hb17 (fun ht=>aR rfl ?_))
  exact aq ((),(v10,l12)) (s5 rfl) fK ht.symm
 rintro ⟨_,⟨v14,l16⟩⟩ τ hz;(try dsimp only at hz);subst q18;(try dsimp only at h);dsimp only [aT]
 refine ag (ae h fun x30 hx30 h=>aj (bp 2 [(73,.agg [.fn 142 []]),(74,pO (some ⟨b8,0,none⟩) l7.length l7.length)] (by kernel_rfl) ?_))
 refine aK rfl (dM rfl rfl (ρ1:=[_]) (bM (by exact aF) (List.Perm.refl _)) (gf hx30) ?_);rintro _ _ ⟨rfl,rfl⟩
 refine aH (bx (ae h fun l31 hl31 h=>aj (cj 2 [76] [(77,pI (p1.length:Int))] (by kernel_rfl) (aK rfl (qQ (enc:=eI) rfl rfl rfl rfl rfl rfl rfl rfl rfl hl31 (fun b32=>bB [(16,pO (some ⟨b32,0,none⟩) l31.length l31.length)] (by kernel_rfl) (dE (ar [(79,pO (some ⟨b8,0,none⟩) l7.length l7.length),(80,pI ((l7.length:Nat):Int)),(81,pI 0)] (by kernel_rfl) (az (ae h fun q40 hq40 h=>?_))))))))))
 refine aQ (Y:=Unit×((List Int))) (fun (_,l38)=>[(16,pO (some ⟨b32,0,none⟩) l31.length l31.length)]) (fun (_,l38)=>[PRes.row (some ⟨b32,0,none⟩) l31.length l31.length 3 1 (List.map eI l38)]) (fun (_,l38)=>q40=l38) ?_ ?_
 ·refine aA ?_
  refine bf (Y:=Unit) (S:=(List Int)×Int) _ hq40 (fun _ (l35,v36)=>[(9,pI v14),(16,pO (some ⟨b32,0,none⟩) l31.length l31.length),(79,pO (some ⟨b8,0,none⟩) l7.length l7.length),(80,pI ((l7.length:Nat):Int)),(81,pI v36)]) (fun _ (l35,v36)=>[PRes.row (some ⟨b8,0,none⟩) l7.length l7.length 244 3 (List.map Zb.enc x30),PRes.row (some ⟨b32,0,none⟩) l31.length l31.length 3 1 (List.map eI l35)]) () (rM rfl) (bv (aC aF) fK) ?_
  rintro _ ⟨l35,v36⟩ o τ hb39;(try dsimp only at hb39);dsimp only [aT]
  refine ag (ar [(82,pB (decide (v36<((l7.length:Nat):Int))))] (by kernel_rfl) (bx (jg rfl hb39 (fun hc41 hb39=>?_) fun hc41 hb39=>?_)))
  ·refine ap ?_
   refine bx (ae hb39 fun q45 hq45 hb39=>?_)
   refine aQ (Y:=Unit×((List Int))) (fun (_,l43)=>[(9,pI v14),(16,pO (some ⟨b32,0,none⟩) l31.length l31.length),(79,pO (some ⟨b8,0,none⟩) l7.length l7.length),(80,pI ((l7.length:Nat):Int)),(81,pI v36)]) (fun (_,l43)=>[PRes.row (some ⟨b32,0,none⟩) l31.length l31.length 3 1 (List.map eI l43),PRes.row (some ⟨b8,0,none⟩) l7.length l7.length 244 3 (List.map Zb.enc x30)]) (fun (_,l43)=>q45=l43) ?_ ?_
   ·skip
    refine aA (ag (ae hq45 fun m46 hm46 hq45=>aj (bp 1 [(83,pI v36)] (by kernel_rfl) (bK rfl rfl rfl (cn (enc:=Zb.enc) (xs:=x30) rfl rfl rfl (.p rfl) gc (.p rfl) (fun _=>hm46)) (bK rfl rfl rfl (bR (sz:=3) (p:=.agg [pI m46.index_,pU m46.share,pU m46.rest]) (enc:=Zb.enc) (xs:=x30) (a:=(some ⟨b8,0,none⟩)) v36 0 m46 rfl (.p rfl) rfl gc (fun _=>hm46) rfl) (aK rfl (an (cs:=[pI 0,pU 0,pU 0]) rfl rfl rfl rfl (fun b47=>bp 1 [(17,pI v36)] (by kernel_rfl) (bF rfl rfl (ah (vs:=[pI m46.index_,pU m46.share,pU m46.rest]) rfl rfl rfl rfl rfl aY zl3 (aH (bx (ae hq45 fun m48 hm48 hq45=>aj (dn 6 [0,0] [87,89,90] [(86,pO (some ⟨b32,0,none⟩) l31.length l31.length),(88,pI m46.index_),(91,pI (IntKind.i64.wrap m46.share))] (by kernel_rfl) (bK rfl rfl rfl (cn (enc:=eI) (xs:=l35) rfl rfl rfl (.p rfl) zm2 (.p rfl) (fun _=>hm48)) (bF rfl rfl (db (enc:=eI) (xs:=l35) (a:=(some ⟨b32,0,none⟩)) m46.index_ 0 m48 (IntKind.i64.wrap m46.share) rfl rfl rfl rfl (fun _=>rfl) rfl rfl hm48 rL (ba (ba aY)) (aH (bx (am [93,94] [(95,pB (decide (v36<v14)))] (by kernel_rfl) (cZ rfl hq45 (fun hc50 hq45=>?_) fun hc50 hq45=>?_)))))))))))))))))))))
    ·refine ae hq45 ?_;clear hq45;intro m51 hm51 hq45
     refine aj (dn 3 [0] [97] [(96,pO (some ⟨b32,0,none⟩) l31.length l31.length),(98,pI m46.index_)] (by kernel_rfl) (bK rfl rfl rfl (cn (enc:=eI) (xs:=(l35.set m46.index_.toNat (IntKind.i64.wrap m46.share))) rfl rfl rfl (.p rfl) zm2 (.p rfl) (fun _=>hm51)) (bK rfl rfl rfl (bR (sz:=1) (p:=pI m51) (enc:=eI) (xs:=(l35.set m46.index_.toNat (IntKind.i64.wrap m46.share))) (a:=(some ⟨b32,0,none⟩)) m46.index_ 0 m51 rfl (.p rfl) rfl zm2 (fun _=>hm51) rfl) (ae hq45 fun m52 hm52 hq45=>bp 1 [(101,pI (IntKind.i64.wrap (m51+1)))] (by kernel_rfl) (bK rfl rfl rfl (cn (enc:=eI) (xs:=(l35.set m46.index_.toNat (IntKind.i64.wrap m46.share))) rfl rfl rfl (.p rfl) zm2 (.p rfl) (fun _=>hm52)) (bF rfl rfl (db (enc:=eI) (xs:=(l35.set m46.index_.toNat (IntKind.i64.wrap m46.share))) (a:=(some ⟨b32,0,none⟩)) m46.index_ 0 m52 (IntKind.i64.wrap (m51+1)) rfl rfl rfl rfl (fun _=>rfl) rfl rfl hm52 rL (ba (ba aY)) (aH (av ?_)))))))))
     obtain rfl:=osi hq45
     exact aq ((),((l35.set m46.index_.toNat (IntKind.i64.wrap m46.share)).set m46.index_.toNat (IntKind.i64.wrap (m51+1)))) (rM rfl) (bv (aC (aC aF)) (bv (aC aF) be)) rfl
    refine ap ?_
    refine av ?_
    obtain rfl:=osi hq45
    exact aq ((),(l35.set m46.index_.toNat (IntKind.i64.wrap m46.share))) (rM rfl) (bv (aC (aC aF)) (bv (aC aF) be)) rfl
   rintro ⟨_,l43⟩ τ hz;(try dsimp only at hz);subst q45;(try dsimp only at hb39);dsimp only [aT]
   refine am [103] [(81,pI (IntKind.i64.wrap (v36+1)))] (by kernel_rfl) ?_
   exact bN hb39 () (rM rfl) (bv (aC aF) fK)
  refine bk ?_
  refine aV (aM hb39 (fun ht=>aR rfl ?_))
  exact aq ((),l35) (zh1 rfl) (bv (aC aF) be) ht.symm
 rintro ⟨_,l38⟩ τ hz;(try dsimp only at hz);subst q40;(try dsimp only at h);dsimp only [aT]
 refine ag (am [104] [(4,pO (some ⟨b32,0,none⟩) l31.length l31.length),(5,pI 0)] (by kernel_rfl) (az ?_))
 refine fi (enc:=eI) (xs:=l38) 4 rfl (by exact aF) ?_
 refine cV ?_
 obtain rfl:=osi h
 exact bg (dh (aZ rfl) (aZ rfl)) be ⟨rfl,rfl⟩
def dQ (p0:(List Int)):Option (List Int):=app 8 ([]:List Int) p0
theorem gM {p0:(List Int)} {r:(List Int)} (h:dQ p0=some r):PCall 111 [pL eI p0] [] (fun pv ρ'=>∃ a c,pv=.v (.slice a r.length c)∧ρ'=[PRes.row a r.length c 3 1 (List.map eI r)]):=by
 unfold dQ at h
 refine aL Tryz.func111 rfl Tryz.ntmps111 Tryz.results111 rfl ?_
 (repeat refine ag ?_)
 refine aj (bK rfl rfl rfl (bo (p:=.v (.slice none 0 0)) rfl (.p rfl)) (aH (az ?_)))
 (repeat refine ag ?_)
 refine aj (bK rfl rfl rfl (bm (p:=pL eI p0) rfl (.p rfl)) (mL rfl rfl rfl rfl rfl rfl (fun b hb=>aH (az ?_))))
 refine dV rfl (fun hc=>?_) (fun hc=>?_)
 ·have e0:p0=[]:=List.map_eq_nil_iff.1 (hb hc)
  subst e0;obtain ⟨rfl,_⟩:=iu h
  (repeat refine ag ?_)
  refine aj (bK rfl rfl rfl (bo (p:=.v (.slice none 0 0)) rfl (.p rfl)) (aH (az (da 3 1 (cV (aU ?_))))))
  exact bg (iY (aZ rfl)) fK ⟨_,_,rfl,rfl⟩
 refine ap ?_
 refine az ?_
 (repeat refine ag ?_)
 refine aj (aK rfl (aS rfl rfl rfl rfl rfl dH rfl rfl rfl rfl (fun b1=>bK rfl rfl rfl (bm (p:=pL eI p0) rfl (.p rfl)) ?_)))
 refine aK rfl (al (enc:=eI) (xs:=([]:List Int)) rfl rfl rfl rfl rfl (fun _=>rfl) rfl rfl rfl (by exact aF) h (fun a c=>?_))
 refine bK rfl rfl rfl (bo (p:=.v (.slice a r.length c)) rfl (.p rfl)) (aH (ec ?_))
 exact bg (iY (aZ rfl)) fK ⟨_,_,rfl,rfl⟩
def f9 (p0:Zp):Option ((List Zf)×Int):=Option.bind (α:=((List Int))⊕_) (cond (decide (0<p0.Quantity)) ((fD p0.Value [p0.Granted,(IntKind.i64.wrap (p0.Quantity - p0.Granted))]).bind fun x9=>cond (x9.2 != 0) (some (.inr ([],x9.2))) (some (.inl x9.1))) (some (.inl [0,p0.Value]))) (fun q=>match q with | .inl l4=>Option.bind (cond p0.Proof ((app 8 [1,2] [3]).bind fun l21=>some l21) (some [1,2])) (fun l16=>Option.bind (cond (decide (0<p0.Granted)) ((idx l4 0).bind fun m32=>(dQ l16).bind fun x33=>(app 8 x33 [4]).bind fun l39=>(app 40 ([]:List Zf) [(⟨p0.Granted,m32,l39⟩:Zf)]).bind fun l44=>some l44) (some ([]:(List Zf)))) (fun l28=>Option.bind (cond ((decide (0<(IntKind.i64.wrap (p0.Quantity - p0.Granted))))||(p0.Quantity == 0)) ((idx l4 1).bind fun m54=>(app 40 l28 [(⟨(IntKind.i64.wrap (p0.Quantity - p0.Granted)),m54,l16⟩:Zf)]).bind fun l57=>some l57) (some l28)) (fun l51=>(app 40 l51 [(⟨p0.Quantity,p0.Value,[5]⟩:Zf),(⟨p0.Quantity,p0.Value,[6]⟩:Zf)]).bind fun l67=>some (l67,(0:Int))))) | .inr e=>some e)
theorem jV {p0:Zp} {r:((List Zf)×Int)}  (h:f9 p0=some r):PF 71 [.agg (eb p0)] (.tup [pL Zf.enc r.1,pI r.2]):=by
 unfold f9 at h
 refine bC ?_
 refine aL Tryz.func71 rfl Tryz.ntmps71 Tryz.results71 rfl (ag (aj (aK rfl (bY (cs:=(eb p0)) rfl rfl (fun b1=>cb [2,3] (by kernel_rfl) (bx (bc [0,0] (rg 9 5) [(4,pI (IntKind.i64.wrap (p0.Quantity - p0.Granted)))] (by kernel_rfl) (bx (aj (dn 2 [0] [14] [(15,pI p0.Value)] (by kernel_rfl) (aK rfl (aS rfl rfl rfl rfl rfl (dA rfl (dA rfl dH)) rfl rfl rfl rfl (fun b2=>bB [(5,pO (some ⟨b2,0,none⟩) 2 2)] (by kernel_rfl) (dE (bc [1] [17,18] [(19,pB (decide (0<p0.Quantity)))] (by kernel_rfl) (az (ae h fun q5 hq5 h=>?_)))))))))))))))))
 refine aQ (Y:=Unit×((List Int))) (fun (_,l4)=>[(1,pP b1 0),(4,pI (IntKind.i64.wrap (p0.Quantity - p0.Granted))),(5,pL eI l4)]) (fun (_,l4)=>[PRes.b b1 32 (eb p0)]) (fun (_,l4)=>q5=Sum.inl l4) ?_ ?_
 ·skip
  refine jg rfl hq5 (fun hc6 hq5=>?_) fun hc6 hq5=>?_
  ·refine ag ?_
   refine bi [6] (by kernel_rfl) (bx (aj (dn 5 [1,1] [21,23] [(22,pI p0.Value),(24,pI p0.Granted),(25,pI (IntKind.i64.wrap (p0.Quantity - p0.Granted)))] (by kernel_rfl) (aK rfl (aS rfl rfl rfl rfl rfl (dA rfl (dA rfl dH)) rfl rfl rfl rfl (fun b7=>?_))))))
   refine jD (enc:=eI) (xs:=[p0.Granted,(IntKind.i64.wrap (p0.Quantity - p0.Granted))]) 26 rfl (by exact aF) ?_
   refine ae hq5 fun x9 hx9 hq5=>fM [] [27,20,28,29] [(5,pL eI x9.1),(6,pI x9.2)] (cu 0 (jq hx9) bV) (by kernel_rfl) (bx (am [30] [(31,pB (x9.2 != 0))] (by kernel_rfl) (cZ rfl hq5 (fun hc10 hq5=>?_) fun hc10 hq5=>?_)))
   ·refine ag ?_
    refine am [32] [(2,pN),(3,pI x9.2)] (by kernel_rfl) (az (qN 2 rfl (cV (bz ?_))))
    obtain rfl:=osi hq5
    obtain rfl:=osi h
    exact bg (dh (aZ rfl) (aZ rfl)) be ⟨rfl,rfl⟩
   refine ap ?_
   obtain rfl:=osi hq5
   exact aq ((),x9.1) (s5 rfl) (bv (aC (aC aF)) be) rfl
  refine ap ?_
  refine i9 (oI (enc:=eI) (xs:=[0,p0.Value]) 5 rfl (by exact aF)) ?_
  obtain rfl:=osi hq5
  exact aq ((),[0,p0.Value]) (s5 rfl) (bv (aC aF) be) rfl
 rintro ⟨_,l4⟩ τ hz;(try dsimp only at hz);subst q5;(try dsimp only at h);dsimp only [aT]
 refine ag (aj (aK rfl (aS rfl rfl rfl rfl rfl (dA rfl (dA rfl dH)) rfl rfl rfl rfl (fun b11=>bB [(7,pO (some ⟨b11,0,none⟩) 2 2)] (by kernel_rfl) (dE (bc [1] [34] [(35,pB p0.Proof)] (by kernel_rfl) (az (ae h fun q17 hq17 h=>?_))))))))
 refine aQ (Y:=(Option Addr×Nat)×((List Int))) (fun ((a14,c15),l16)=>[(1,pP b1 0),(4,pI (IntKind.i64.wrap (p0.Quantity - p0.Granted))),(5,pL eI l4),(7,pO a14 l16.length c15)]) (fun ((a14,c15),l16)=>[PRes.b b1 32 (eb p0),PRes.row a14 l16.length c15 3 1 (List.map eI l16)]) (fun ((a14,c15),l16)=>q17=l16) ?_ ?_
 ·skip
  refine jg rfl hq17 (fun hc18 hq17=>?_) fun hc18 hq17=>?_
  ·refine aj ?_
   refine bp 1 [(36,pO (some ⟨b11,0,none⟩) 2 2)] (by kernel_rfl) (aK rfl (aS rfl rfl rfl rfl rfl (dA rfl dH) rfl rfl rfl rfl (fun b19=>ae hq17 fun l21 hl21 hq17=>?_)))
   refine aK rfl (dY (enc:=eI) rfl rfl rfl rfl rfl rfl rfl rfl rfl gc (by exact aC aF) hl21 (fun a22 c23=>?_))
   refine bB [(7,pO a22 l21.length c23)] (by kernel_rfl) ?_
   obtain rfl:=osi hq17
   exact aq ((a22,c23),l21) (kO rfl) (bv (aC (aC aF)) fK) rfl
  refine ap ?_
  obtain rfl:=osi hq17
  exact aq (((some ⟨b11,0,none⟩),2),[1,2]) (kO rfl) (bv (aC aF) fK) rfl
 rintro ⟨⟨a14,c15⟩,l16⟩ τ hz;(try dsimp only at hz);subst q17;(try dsimp only at h);dsimp only [aT]
 refine ag (ar [(8,pN)] (by kernel_rfl) (dE (bc [0] [39,40] [(41,pB (decide (0<p0.Granted)))] (by kernel_rfl) (az (ae h fun q29 hq29 h=>?_)))))
 refine aQ (Y:=(Option Addr×Nat)×((List Zf))) (fun ((a26,c27),l28)=>[(1,pP b1 0),(4,pI (IntKind.i64.wrap (p0.Quantity - p0.Granted))),(5,pL eI l4),(7,pL eI l16),(8,pO a26 l28.length c27)]) (fun ((a26,c27),l28)=>[PRes.b b1 32 (eb p0),PRes.row a26 l28.length c27 153 3 (List.map Zf.enc l28)]) (fun ((a26,c27),l28)=>q29=l28) ?_ ?_
 ·skip
  refine jg rfl hq29 (fun hc30 hq29=>?_) fun hc30 hq29=>?_
  ·refine fi (enc:=eI) (xs:=l16) 7 rfl (by exact aC aF) ?_
   refine da 153 3 (cF (ρd:=[PRes.row none _ _ _ _ _]) [(8,3),(0,0),(1,0),(2,0),(3,0),(4,0),(5,0),(6,0),(7,1),(8,2),(9,1),(10,0),(11,1),(12,1),(13,0)] _ (List.Perm.refl _) (by kernel_rfl) rfl (oE (iN rfl rfl rfl rfl rfl (dA rfl dH) rfl rfl rfl) (ae hq29 fun m32 hm32 hq29=>ae hq29 fun x33 hx33 hq29=>cL 7 [1] [43,45,46] [(42,pO none 0 0),(44,pI p0.Granted),(47,pI m32),(48,pL eI l16)] (gu 4 eI hm32 bV) (by kernel_rfl) ?_)))
   refine iZ rfl rfl rfl (dM rfl rfl (ρ1:=[]) (List.Perm.refl _) (gM hx33) ?_);rintro _ _ ⟨a34,c35,rfl,rfl⟩
   refine lD (iN rfl rfl rfl rfl rfl (dA rfl dH) rfl rfl rfl) (fun _=>rfl) rfl (fun b37=>ae hq29 fun l39 hl39 hq29=>?_)
   refine iZ rfl rfl rfl (pl_fz (oD (enc:=eI) rfl rfl rfl rfl rfl (fun _=>rfl) rfl rfl rfl rfl gc rfl (by exact aC aF) hl39 (fun a40 c41=>⟨_,_,_,_,_,_,_,rfl,by (repeat (first | exact aF | apply aC)),?_⟩)))
   refine mJ rfl rfl rfl (ak (cs:=[pI p0.Granted,pI m32,pL eI l39]) rfl rfl rfl rfl rfl rfl rfl (bO rfl rfl rfl rfl rL (bO rfl rfl rfl rfl (aI rL) (bO rfl rfl rfl rfl (aI (aI rL)) bQ)))) (iZ rfl rfl rfl (aS rfl rfl rfl rfl rfl (dA rfl dH) rfl rfl rfl rfl (fun b42=>ae hq29 fun l44 hl44 hq29=>?_)))
   refine iZ rfl rfl rfl (dY (enc:=Zf.enc) rfl rfl rfl rfl rfl rfl rfl rfl rfl gc (by exact aC (aC aF)) hl44 (fun a45 c46=>?_))
   refine jQ 1 [(8,pO a45 l44.length c46)] (by kernel_rfl) (dv ?_)
   obtain rfl:=osi hq29
   exact aq ((a45,c46),l44) (rM rfl) (bv (aC (aC (aC (aC aF)))) fK) rfl
  refine ap ?_
  refine i9 (oI (enc:=eI) (xs:=l16) 7 rfl (by exact aC aF)) ?_
  refine i9 (qb 153 3) ?_
  obtain rfl:=osi hq29
  exact aq ((none,0),([]:(List Zf))) (rM rfl) (bv (aC (aC aF)) fK) rfl
 rintro ⟨⟨a26,c27⟩,l28⟩ τ hz;(try dsimp only at hz);subst q29;(try dsimp only at h);dsimp only [aT]
 refine ag (ag (bc [0] (rg 55 6) [(61,pB ((decide (0<(IntKind.i64.wrap (p0.Quantity - p0.Granted))))||(p0.Quantity == 0)))] (by kernel_rfl) (az (ae h fun q52 hq52 h=>?_))))
 refine aQ (Y:=(Option Addr×Nat)×((List Zf))) (fun ((a49,c50),l51)=>[(1,pP b1 0),(8,pO a49 l51.length c50)]) (fun ((a49,c50),l51)=>[PRes.b b1 32 (eb p0),PRes.row a49 l51.length c50 153 3 (List.map Zf.enc l51)]) (fun ((a49,c50),l51)=>q52=l51) ?_ ?_
 ·skip
  refine jg rfl hq52 (fun hc53 hq52=>?_) fun hc53 hq52=>?_
  ·refine ae hq52 ?_;clear hq52;intro m54 hm54 hq52
   refine aj (br 7 [] (rg 63 5) [(62,pO a26 l28.length c27),(68,.agg [pI (IntKind.i64.wrap (p0.Quantity - p0.Granted)),pI m54,pL eI l16])] (gu 3 eI hm54 bV) (by kernel_rfl) (aK rfl (aS rfl rfl rfl rfl rfl (dA rfl dH) rfl rfl rfl rfl (fun b55=>ae hq52 fun l57 hl57 hq52=>?_))))
   refine aK rfl (dY (enc:=Zf.enc) rfl rfl rfl rfl rfl rfl rfl rfl rfl gc (by exact aC (aC aF)) hl57 (fun a58 c59=>?_))
   refine bB [(8,pO a58 l57.length c59)] (by kernel_rfl) ?_
   obtain rfl:=osi hq52
   exact aq ((a58,c59),l57) (oM rfl) (bv (aC (aC aF)) fK) rfl
  refine ap ?_
  obtain rfl:=osi hq52
  exact aq ((a26,c27),l28) (oM rfl) zs2 rfl
 rintro ⟨⟨a49,c50⟩,l51⟩ τ hz;(try dsimp only at hz);subst q52;(try dsimp only at h);dsimp only [aT]
 refine ag (aj (dn 5 [0,0] [72,74] [(71,pO a49 l51.length c50),(73,pI p0.Quantity),(75,pI p0.Value)] (by kernel_rfl) (aK rfl (aS rfl rfl rfl rfl rfl (dA rfl dH) rfl rfl rfl rfl (fun b61=>?_)))))
 refine jD (enc:=eI) (xs:=[5]) 76 rfl (by exact aF) ?_
 refine dn 5 [1,1] [78,80] [(77,.agg [pI p0.Quantity,pI p0.Value,pL eI [5]]),(79,pI p0.Quantity),(81,pI p0.Value)] (by kernel_rfl) (aK rfl (aS rfl rfl rfl rfl rfl (dA rfl dH) rfl rfl rfl rfl (fun b63=>?_)))
 refine jD (enc:=eI) (xs:=[6]) 82 rfl (by exact aF) ?_
 refine bp 1 [(83,.agg [pI p0.Quantity,pI p0.Value,pL eI [6]])] (by kernel_rfl) (aK rfl (aS rfl rfl rfl rfl rfl (dA rfl (dA rfl dH)) rfl rfl rfl rfl (fun b65=>ae h fun l67 hl67 h=>?_)))
 refine aK rfl (dY (enc:=Zf.enc) rfl rfl rfl rfl rfl rfl rfl rfl rfl gc (by exact aC (aC (aC (aC aF)))) hl67 (fun a68 c69=>?_))
 refine bB [(2,pO a68 l67.length c69),(3,pI 0)] (by kernel_rfl) (az ?_)
 refine fi (enc:=Zf.enc) (xs:=l67) 2 rfl (by exact aF) ?_
 refine cV ?_
 obtain rfl:=osi h
 exact bg (dh (aZ rfl) (aZ rfl)) be ⟨rfl,rfl⟩
def cA (p0:Int) (p1:Int) (p2:Int):Option Ze:=(fU (IntKind.u64.wrap ((IntKind.u64.wrap p0)*(IntKind.u64.wrap p1))) p2).bind fun x2=>some x2
theorem cI {p0:Int} {p1:Int} {p2:Int} {r:Ze}  (h:cA p0 p1 p2=some r):PF 144 [pI p0,.ref [pI p1] 0,.ref [pU p2] 0] (.agg [pU r.Hi,pU r.Lo]):=by
 unfold cA at h
 refine bC ?_
 refine aL Tryz.func144 rfl Tryz.ntmps144 Tryz.results144 rfl (ag (aj (aK rfl (an (cs:=[pU 0,pU 0]) rfl rfl rfl rfl (fun b1=>aH (bx (ae h fun x2 hx2 h=>aj (br 7 [] (rg 5 6) [(11,.agg [pU x2.Hi,pU x2.Lo])] (cu 6 (fN hx2) bV) (by kernel_rfl) (bF rfl rfl (ah (vs:=[pU x2.Hi,pU x2.Lo]) rfl rfl rfl rfl rfl aY oN (aH (ec ?_))))))))))))
 obtain rfl:=osi h
 exact bg (iY (eU rfl gc rfl)) be ⟨rfl,rfl⟩
def ko (p0:Ze) (p1:Ze):Option (Ze×Int):=(ea p0.Lo p1.Lo 0).bind fun x4=>(ea p0.Hi p1.Hi x4.2).bind fun x5=>cond (x5.2 != 0) (some ((⟨0,0⟩:Ze),(3:Int))) (some ((⟨x5.1,x4.1⟩:Ze),(0:Int)))
theorem nS {p0:Ze} {p1:Ze} {r:(Ze×Int)}  (h:ko p0 p1=some r):PF 146 [.agg [pU p0.Hi,pU p0.Lo],.agg [pU p1.Hi,pU p1.Lo]] (.tup [.agg [pU r.1.Hi,pU r.1.Lo],pI r.2]):=by
 unfold ko at h
 refine bC ?_
 refine aL Tryz.func146 rfl Tryz.ntmps146 Tryz.results146 rfl (ag (aj (aK rfl (bY (cs:=[pU p0.Hi,pU p0.Lo]) rfl rfl (fun b1=>aK rfl (bY (cs:=[pU p1.Hi,pU p1.Lo]) rfl rfl (fun b2=>aK rfl (an (cs:=[pU 0,pU 0]) rfl rfl rfl rfl (fun b3=>cb [5] (by kernel_rfl) (bx (ae h fun x4 hx4 h=>aj (dn 4 [2,1] [10,12] [(11,pU p0.Lo),(13,pU p1.Lo)] (by kernel_rfl) (aK rfl (oL rfl rfl hx4 (lX [9,15,16] [(6,pU x4.1),(7,pU x4.2)] (by kernel_rfl) (bx (ae h fun x5 hx5 h=>aj (dn 5 [2,1] [18,20] [(19,pU p0.Hi),(21,pU p1.Hi),(22,pU x4.2)] (by kernel_rfl) (aK rfl (oL rfl rfl hx5 (lX [17,24,25] [(8,pU x5.1),(7,pU x5.2)] (by kernel_rfl) (dE (am [26] [(27,pB (x5.2 != 0))] (by kernel_rfl) (cZ rfl h (fun hc6 h=>?_) fun hc6 h=>?_))))))))))))))))))))))))
 ·refine ag ?_
  refine aj (bp 1 [(28,.agg [pU 0,pU 0])] (by kernel_rfl) (bF rfl rfl (ah (vs:=[pU 0,pU 0]) rfl rfl rfl rfl rfl aY oN (bB [(5,pI 3)] (by kernel_rfl) (gb ?_)))))
  obtain rfl:=osi h
  exact bg (dh (eU rfl gc rfl) (aZ rfl)) be ⟨rfl,rfl⟩
 refine ap ?_
 refine bx (aj (cj 3 [29,30] [(31,.agg [pU x5.1,pU x4.1])] (by kernel_rfl) (bF rfl rfl (ah (vs:=[pU x5.1,pU x4.1]) rfl rfl rfl rfl rfl aY oN (bB [(5,pI 0)] (by kernel_rfl) (ec ?_))))))
 obtain rfl:=osi h
 exact bg (dh (eU rfl gc rfl) (aZ rfl)) be ⟨rfl,rfl⟩
def dJ (p0:Ze) (p1:Ze):Option Int:=cond ((decide (p0.Hi<p1.Hi))||((p0.Hi == p1.Hi)&&(decide (p0.Lo<p1.Lo)))) (some (-1)) (cond (Ze.eqb p0 p1) (some (0:Int)) (some (1:Int)))
theorem fp {p0:Ze} {p1:Ze} {r:Int}  (h:dJ p0 p1=some r):PF 147 [.agg [pU p0.Hi,pU p0.Lo],.agg [pU p1.Hi,pU p1.Lo]] (pI r):=by
 unfold dJ at h
 refine bC ?_
 refine aL Tryz.func147 rfl Tryz.ntmps147 Tryz.results147 rfl (ag (aj (aK rfl (bY (cs:=[pU p0.Hi,pU p0.Lo]) rfl rfl (fun b1=>aK rfl (bY (cs:=[pU p1.Hi,pU p1.Lo]) rfl rfl (fun b2=>cb [4] (by kernel_rfl) (bx (aA (ag (bc [1,0,1,0,1,0] (rg 6 19) [(5,pB ((decide (p0.Hi<p1.Hi))||((p0.Hi == p1.Hi)&&(decide (p0.Lo<p1.Lo)))))] (by kernel_rfl) (cZ rfl h (fun hc3 h=>?_) fun hc3 h=>?_))))))))))))
 ·refine ag ?_
  refine ar [(4,pI (-1))] (by kernel_rfl) (ec (aB (aU ?_)))
  exact zz r h rfl
 refine ag ?_
 refine aG [1,0] [26,27,28] [(25,pB (Ze.eqb p0 p1))] (foeq 2 Ze.eqok249 bV) (by kernel_rfl) (cZ rfl h (fun hc4 h=>?_) fun hc4 h=>?_)
 ·refine ag ?_
  refine ar [(4,pI 0)] (by kernel_rfl) (ec (aB (aU ?_)))
  exact zz r h rfl
 refine ap ?_
 refine av (bx (ar [(4,pI 1)] (by kernel_rfl) (ec ?_)))
 exact zz r h rfl
def gz (p0:Zo) (p1:Int) (p2:Int):Option (Int×Int):=(fc p0).bind fun x3=>cond (x3 != 0) (some ((0:Int),x3)) (cond ((((decide (p1<0))||(decide (1000000000000<p1)))||(decide (p2<0)))||(decide (1000000000<p2))) (some ((0:Int),(2:Int))) ((cA p0.Rate p1 (IntKind.u64.wrap (dX p0.Per 1))).bind fun x7=>(fU (IntKind.u64.wrap ((IntKind.u64.wrap p0.Amount)*(IntKind.u64.wrap p2))) 1000000).bind fun x8=>(ko x7 x8).bind fun x9=>cond (x9.2 != 0) (some ((0:Int),(3:Int))) ((gd p0.HasMost (cA p0.Most p1 (IntKind.u64.wrap (dX p0.Per 1)))).bind fun x12=>(gd p0.HasMost (dJ x9.1 x12)).bind fun x13=>Option.bind (cond (p0.HasMost&&(decide (0<x13))) ((cA p0.Most p1 (IntKind.u64.wrap (dX p0.Per 1))).bind fun x18=>some (x18.Hi,x18.Lo)) (some (x9.1.Hi,x9.1.Lo))) (fun (v14,v15)=>(gd p0.HasLeast (cA p0.Least p1 (IntKind.u64.wrap (dX p0.Per 1)))).bind fun x19=>(gd p0.HasLeast (dJ (⟨v14,v15⟩:Ze) x19)).bind fun x20=>Option.bind (cond (p0.HasLeast&&(decide (x20<0))) ((cA p0.Least p1 (IntKind.u64.wrap (dX p0.Per 1))).bind fun x25=>some (x25.Hi,x25.Lo)) (some (v14,v15))) (fun (v21,v22)=>(iP (⟨v21,v22⟩:Ze) (IntKind.u64.wrap (1000000*(IntKind.u64.wrap (dX p0.Per 1)))) 2).bind fun x26=>cond ((x26.2 != 0)||(decide (1000000000000<x26.1))) (some ((0:Int),(3:Int))) (some ((IntKind.i64.wrap x26.1),(0:Int))))))))
theorem kp {p0:Zo} {p1:Int} {p2:Int} {r:(Int×Int)}  (h:gz p0 p1 p2=some r):PF 112 [.agg [pI p0.Rate,pI p0.Amount,pI p0.Per,pB p0.HasMost,pI p0.Most,pB p0.HasLeast,pI p0.Least],pI p1,pI p2] (.tup [pI r.1,pI r.2]):=by
 unfold gz at h
 refine bC ?_
 refine aL Tryz.func112 rfl Tryz.ntmps112 Tryz.results112 rfl (ag (aj (aK rfl (bY (cs:=[pI p0.Rate,pI p0.Amount,pI p0.Per,pB p0.HasMost,pI p0.Most,pB p0.HasLeast,pI p0.Least]) rfl rfl (fun b1=>aK rfl (bY (cs:=[pI p1]) rfl rfl (fun b2=>cb [6,7] (by kernel_rfl) (dE (ae h fun x3 hx3 h=>aG [1] [14,15] [(8,pI x3)] (cu 1 (gK hx3) bV) (by kernel_rfl) (bx (am [16] [(17,pB (x3 != 0))] (by kernel_rfl) (cZ rfl h (fun hc4 h=>?_) fun hc4 h=>?_))))))))))))
 ·refine ag ?_
  refine am [18] [(6,pI 0),(7,pI x3)] (by kernel_rfl) (gb ?_)
  obtain rfl:=osi h
  exact bg (dh (aZ rfl) (aZ rfl)) be ⟨rfl,rfl⟩
 refine ap ?_
 refine dE (bc [0,0] (rg 19 13) [(32,pB ((((decide (p1<0))||(decide (1000000000000<p1)))||(decide (p2<0)))||(decide (1000000000<p2))))] (by kernel_rfl) (cZ rfl h (fun hc5 h=>?_) fun hc5 h=>?_))
 ·refine ag ?_
  refine ar [(6,pI 0),(7,pI 2)] (by kernel_rfl) (gb ?_)
  obtain rfl:=osi h
  exact bg (dh (aZ rfl) (aZ rfl)) be ⟨rfl,rfl⟩
 refine ap ?_
 refine bx (aj (dn 4 [1] [33,34,35] [(36,pU (IntKind.u64.wrap (dX p0.Per 1)))] (by kernel_rfl) (aK rfl (an (cs:=[pU 0]) rfl rfl rfl rfl (fun b6=>bF rfl rfl (ah (vs:=[pU (IntKind.u64.wrap (dX p0.Per 1))]) rfl rfl rfl rfl rfl aY rL (aH (bx (aj ?_)))))))))
 refine nB 4 rfl (by exact aC aF) ?_
 refine nB 9 rfl (by exact aC aF) ?_
 refine lX [37] [(10,.fn 144 [.ref [pI p1] 0,.ref [pU (IntKind.u64.wrap (dX p0.Per 1))] 0])] (by kernel_rfl) (bx (cF (ρd:=[]) [(0,0),(1,0),(2,0),(4,0),(5,0),(6,0),(7,0),(8,0),(9,0),(3,1),(10,1),(11,1),(12,0),(13,0),(14,0),(15,2),(16,1),(17,0)] _ (List.Perm.refl _) (by kernel_rfl) rfl (ae h fun x7 hx7 h=>ae h fun x8 hx8 h=>ae h fun x9 hx9 h=>cL 15 [2,2] [39,40,41,43,44,45,46,47,48,42,49,50,38] [(51,.agg [pU x9.1.Hi,pU x9.1.Lo]),(52,pI x9.2)] (tg 9 (im (pargs:=[pI p0.Rate]) (caps:=[.ref [pI p1] 0,.ref [pU (IntKind.u64.wrap (dX p0.Per 1))] 0]) (cI hx7)) (cu 10 (fN hx8) (cu 11 (nS hx9) bV))) (by kernel_rfl) (lD (oC rfl rfl rfl rfl rfl) (fun _=>rfl) rfl (fun b10=>pwd_l0 rfl rfl (ah (vs:=[pU x9.1.Hi,pU x9.1.Lo]) rfl rfl rfl rfl rfl aY oN (jQ 1 [(12,pI x9.2)] (by kernel_rfl) (dv (dE (am [53] [(54,pB (x9.2 != 0))] (by kernel_rfl) (cZ rfl h (fun hc11 h=>?_) fun hc11 h=>?_)))))))))))
 ·refine ag ?_
  refine ar [(6,pI 0),(7,pI 3)] (by kernel_rfl) (gb ?_)
  obtain rfl:=osi h
  exact bg (dh (aZ rfl) (aZ rfl)) be ⟨rfl,rfl⟩
 refine ap ?_
 refine dE (cF (ρd:=[]) [(0,0),(1,0),(2,0),(3,0),(4,0),(5,0),(6,0),(7,1),(8,1),(9,0),(10,0)] _ (List.Perm.refl _) (by kernel_rfl) rfl (ae h fun x12 hx12 h=>ae h fun x13 hx13 h=>cL 11 [3,0,3] (rg 55 10) [(65,pB (p0.HasMost&&(decide (0<x13))))] (focvg 7 (fun hc=>im (pargs:=[pI p0.Most]) (caps:=[.ref [pI p1] 0,.ref [pU (IntKind.u64.wrap (dX p0.Per 1))] 0]) (cI (dU hx12 hc))) (i0 8 (fun hc=>fp (dU hx13 hc)) bV)) (by kernel_rfl) (dv (az (ae h fun q16 hq16 h=>?_)))))
 refine aQ (Y:=Unit×(Int×Int)) (fun (_,(v14,v15))=>[(3,pP b1 0),(9,.ref [pU (IntKind.u64.wrap (dX p0.Per 1))] 0),(10,.fn 144 [.ref [pI p1] 0,.ref [pU (IntKind.u64.wrap (dX p0.Per 1))] 0]),(11,pP b10 0)]) (fun (_,(v14,v15))=>[PRes.b b1 67 [pI p0.Rate,pI p0.Amount,pI p0.Per,pB p0.HasMost,pI p0.Most,pB p0.HasLeast,pI p0.Least],PRes.b b10 249 [pU v14,pU v15]]) (fun (_,(v14,v15))=>q16=(v14,v15)) ?_ ?_
 ·skip
  refine jg rfl hq16 (fun hc17 hq16=>?_) fun hc17 hq16=>?_
  ·refine ae hq16 ?_;clear hq16;intro x18 hx18 hq16
   refine aj (br 4 [3] [66,67,68] [(69,.agg [pU x18.Hi,pU x18.Lo])] (tg 3 (im (pargs:=[pI p0.Most]) (caps:=[.ref [pI p1] 0,.ref [pU (IntKind.u64.wrap (dX p0.Per 1))] 0]) (cI hx18)) bV) (by kernel_rfl) (bF rfl rfl (ah (vs:=[pU x18.Hi,pU x18.Lo]) rfl rfl rfl rfl rfl aY oN (aH ?_))))
   obtain rfl:=osi hq16
   exact aq ((),(x18.Hi,x18.Lo)) (kO rfl) (bv (aC (aC (aC aF))) fK) rfl
  refine ap ?_
  obtain rfl:=osi hq16
  exact aq ((),(x9.1.Hi,x9.1.Lo)) (kO rfl) (bv (aC (aC (aC aF))) fK) rfl
 rintro ⟨_,⟨v14,v15⟩⟩ τ hz;(try dsimp only at hz);subst q16;(try dsimp only at h);dsimp only [aT]
 refine ag (ag (cF (ρd:=[]) [(0,0),(1,0),(2,0),(3,0),(4,0),(5,0),(6,0),(7,1),(8,1),(9,0),(10,0)] _ (List.Perm.refl _) (by kernel_rfl) rfl (ae h fun x19 hx19 h=>ae h fun x20 hx20 h=>cL 11 [0,1,0] (rg 70 10) [(80,pB (p0.HasLeast&&(decide (x20<0))))] (focvg 7 (fun hc=>im (pargs:=[pI p0.Least]) (caps:=[.ref [pI p1] 0,.ref [pU (IntKind.u64.wrap (dX p0.Per 1))] 0]) (cI (dU hx19 hc))) (i0 8 (fun hc=>fp (dU hx20 hc)) bV)) (by kernel_rfl) (dv (az (ae h fun q23 hq23 h=>?_))))))
 refine aQ (Y:=Unit×(Int×Int)) (fun (_,(v21,v22))=>[(9,.ref [pU (IntKind.u64.wrap (dX p0.Per 1))] 0),(11,pP b10 0)]) (fun (_,(v21,v22))=>[PRes.b b10 249 [pU v21,pU v22]]) (fun (_,(v21,v22))=>q23=(v21,v22)) ?_ ?_
 ·skip
  refine jg rfl hq23 (fun hc24 hq23=>?_) fun hc24 hq23=>?_
  ·refine ae hq23 ?_;clear hq23;intro x25 hx25 hq23
   refine aj (br 4 [0] [81,82,83] [(84,.agg [pU x25.Hi,pU x25.Lo])] (tg 3 (im (pargs:=[pI p0.Least]) (caps:=[.ref [pI p1] 0,.ref [pU (IntKind.u64.wrap (dX p0.Per 1))] 0]) (cI hx25)) bV) (by kernel_rfl) (bF rfl rfl (ah (vs:=[pU x25.Hi,pU x25.Lo]) rfl rfl rfl rfl rfl (ba aY) oN (aH ?_))))
   obtain rfl:=osi hq23
   exact aq ((),(x25.Hi,x25.Lo)) (oM rfl) (bv (aC aF) be) rfl
  refine ap ?_
  obtain rfl:=osi hq23
  exact aq ((),(v14,v15)) (oM rfl) (bv (aC aF) be) rfl
 rintro ⟨_,⟨v21,v22⟩⟩ τ hz;(try dsimp only at hz);subst q23;(try dsimp only at h);dsimp only [aT]
 refine ag (ae h fun x26 hx26 h=>aG [0] [86,87,88,89,85,90,91] [(13,pU x26.1),(12,pI x26.2)] (cu 3 (jU hx26) bV) (by kernel_rfl) (dE (am (rg 92 5) [(97,pB ((x26.2 != 0)||(decide (1000000000000<x26.1))))] (by kernel_rfl) (cZ rfl h (fun hc27 h=>?_) fun hc27 h=>?_))))
 ·refine ag ?_
  refine ar [(6,pI 0),(7,pI 3)] (by kernel_rfl) (gb ?_)
  obtain rfl:=osi h
  exact bg (dh (aZ rfl) (aZ rfl)) be ⟨rfl,rfl⟩
 refine ap ?_
 refine bx (am [98,99] [(6,pI (IntKind.i64.wrap x26.1)),(7,pI 0)] (by kernel_rfl) (ec ?_))
 obtain rfl:=osi h
 exact bg (dh (aZ rfl) (aZ rfl)) be ⟨rfl,rfl⟩
def eZ (p0:(List Zd)) (p1:Zf):Option (Za×Bool×Int):=(bs (S:=Bool×Int×Int×Int×Int×Int×Int) (T:=(Bool×Int×Int×Int×Int×Int)⊕(_)) (fun (v4,v5,v6,v7,v8,v9,v10)=>cond (decide (v5<(p1.kinds.length:Int))) ((idx p1.kinds v5).bind fun m20=>(bs (S:=Bool×Int×Int×Int×Int×Int×Int) (T:=(Bool×Int×Int×Int×Int×Int)⊕(_)) (fun (v21,v22,v23,v24,v25,v26,v27)=>cond (decide (v22<(p0.length:Int))) (Option.bind (α:=(Bool×Int×Int×Int×Int×Int)⊕_) ((idx p0 v22).bind fun m44=>cond (m44.Kind != m20) (some (.inl (v21,v23,v24,v25,v26,v27))) ((gz m44.Duty p1.value p1.quantity).bind fun x47=>cond (x47.2 != 0) (some (.inr (.inr (.inr (.inr (.inr ((⟨0,0,0,0,0⟩:Za),false,x47.2))))))) (cond ((!v21)||(decide (x47.1<v27))) (some (.inl (true,m44.Kind,m44.ID,p1.quantity,p1.value,x47.1))) (some (.inl (v21,v23,v24,v25,v26,v27)))))) (fun q=>match q with | .inl (v37,v38,v39,v40,v41,v42)=>some (.inl (v37,(IntKind.i64.wrap (v22+1)),v38,v39,v40,v41,v42)) | .inr e=>some e)) (some (.inr (.inl (v21,v23,v24,v25,v26,v27))))) FUEL (v4,0,v6,v7,v8,v9,v10)).bind fun q=>match q with | .inl (v28,v29,v30,v31,v32,v33)=>some (.inl (v28,(IntKind.i64.wrap (v5+1)),v29,v30,v31,v32,v33)) | .inr e=>some e) (some (.inr (.inl (v4,v6,v7,v8,v9,v10))))) FUEL (false,0,0,0,0,0,0)).bind fun q=>match q with | .inl (v11,v12,v13,v14,v15,v16)=>some ((⟨v12,v13,v14,v15,v16⟩:Za),v11,(0:Int)) | .inr e=>some e
theorem iU {p0:(List Zd)} {p1:Zf} {r:(Za×Bool×Int)}  (h:eZ p0 p1=some r):PF 72 [pL Zd.enc p0,.agg [pI p1.quantity,pI p1.value,pL eI p1.kinds]] (.tup [.agg (bU r.1),pB r.2.1,pI r.2.2]):=by
 unfold eZ at h
 refine bC ?_
 refine aL Tryz.func72 rfl Tryz.ntmps72 Tryz.results72 rfl (ag (aj (aK rfl (bY (cs:=[pI p1.quantity,pI p1.value,pL eI p1.kinds]) rfl rfl (fun b1=>aK rfl (an (cs:=[pI 0,pI 0,pI 0,pI 0,pI 0]) rfl rfl rfl rfl (fun b2=>cb [5,6] (by kernel_rfl) (bx (aj (aK rfl (an (cs:=[pI 0,pI 0,pI 0,pI 0,pI 0]) rfl rfl rfl rfl (fun b3=>aH (bx (ar [(8,pB false)] (by kernel_rfl) (dE (bc [2] [15] [(16,pL eI p1.kinds),(17,pI (p1.kinds.length:Int)),(18,pI 0)] (by kernel_rfl) (az (ae h fun q18 hq18 h=>?_))))))))))))))))))
 refine aQ (Y:=Unit×(Bool×Int×Int×Int×Int×Int)) (fun (_,(v11,v12,v13,v14,v15,v16))=>[(4,pP b2 0),(7,pP b3 0),(8,pB v11)]) (fun (_,(v11,v12,v13,v14,v15,v16))=>[PRes.b b2 37 [pI 0,pI 0,pI 0,pI 0,pI 0],PRes.b b3 37 [pI v12,pI v13,pI v14,pI v15,pI v16]]) (fun (_,(v11,v12,v13,v14,v15,v16))=>q18=Sum.inl (v11,v12,v13,v14,v15,v16)) ?_ ?_
 ·refine aA ?_
  refine bf (Y:=Unit) (S:=Bool×Int×Int×Int×Int×Int×Int) _ hq18 (fun _ (v4,v5,v6,v7,v8,v9,v10)=>[(0,pL Zd.enc p0),(3,pP b1 0),(4,pP b2 0),(7,pP b3 0),(8,pB v4),(16,pL eI p1.kinds),(17,pI (p1.kinds.length:Int)),(18,pI v5)]) (fun _ (v4,v5,v6,v7,v8,v9,v10)=>[PRes.b b1 153 [pI p1.quantity,pI p1.value,pL eI p1.kinds],PRes.b b2 37 [pI 0,pI 0,pI 0,pI 0,pI 0],PRes.b b3 37 [pI v6,pI v7,pI v8,pI v9,pI v10]]) () (zh8 rfl) (bv (aC (aC aF)) (bv (aC aF) fK)) ?_
  rintro _ ⟨v4,v5,v6,v7,v8,v9,v10⟩ o τ hb17;(try dsimp only at hb17);dsimp only [aT]
  refine ag (ar [(19,pB (decide (v5<(p1.kinds.length:Int))))] (by kernel_rfl) (bx (jg rfl hb17 (fun hc19 hb17=>?_) fun hc19 hb17=>?_)))
  ·refine ap ?_
   refine bx (aA (ag (ae hb17 fun m20 hm20 hb17=>aG [] [20,21] [(10,pI m20)] (gu 0 eI hm20 bV) (by kernel_rfl) (bx (ar [(22,pL Zd.enc p0),(23,pI (p0.length:Int)),(24,pI 0)] (by kernel_rfl) (az (ae hb17 fun q35 hq35 hb17=>?_)))))))
   refine ip (Y:=Unit×(Bool×Int×Int×Int×Int×Int)) (fun (_,(v28,v29,v30,v31,v32,v33))=>[(0,pL Zd.enc p0),(3,pP b1 0),(4,pP b2 0),(7,pP b3 0),(8,pB v28),(16,pL eI p1.kinds),(17,pI (p1.kinds.length:Int)),(18,pI v5)]) (fun (_,(v28,v29,v30,v31,v32,v33))=>[PRes.b b1 153 [pI p1.quantity,pI p1.value,pL eI p1.kinds],PRes.b b2 37 [pI 0,pI 0,pI 0,pI 0,pI 0],PRes.b b3 37 [pI v29,pI v30,pI v31,pI v32,pI v33]]) (fun (_,(v28,v29,v30,v31,v32,v33))=>q35=Sum.inl (v28,v29,v30,v31,v32,v33)) ?_ ?_
   ·refine aA ?_
    refine bf (Y:=Unit) (S:=Bool×Int×Int×Int×Int×Int×Int) _ hq35 (fun _ (v21,v22,v23,v24,v25,v26,v27)=>[(0,pL Zd.enc p0),(3,pP b1 0),(4,pP b2 0),(7,pP b3 0),(8,pB v21),(10,pI m20),(16,pL eI p1.kinds),(17,pI (p1.kinds.length:Int)),(18,pI v5),(22,pL Zd.enc p0),(23,pI (p0.length:Int)),(24,pI v22)]) (fun _ (v21,v22,v23,v24,v25,v26,v27)=>[PRes.b b1 153 [pI p1.quantity,pI p1.value,pL eI p1.kinds],PRes.b b2 37 [pI 0,pI 0,pI 0,pI 0,pI 0],PRes.b b3 37 [pI v23,pI v24,pI v25,pI v26,pI v27]]) () (bq rfl (bq rfl (bq rfl (oO rfl)))) zs3 ?_
    rintro _ ⟨v21,v22,v23,v24,v25,v26,v27⟩ o τ hb34;(try dsimp only at hb34);dsimp only [aT]
    refine ag (ar [(25,pB (decide (v22<(p0.length:Int))))] (by kernel_rfl) (bx (jg rfl hb34 (fun hc36 hb34=>?_) fun hc36 hb34=>?_)))
    ·refine ap ?_
     refine bx (ae hb34 fun q43 hq43 hb34=>?_)
     refine aQ (Y:=Unit×(Bool×Int×Int×Int×Int×Int)) (fun (_,(v37,v38,v39,v40,v41,v42))=>[(0,pL Zd.enc p0),(3,pP b1 0),(4,pP b2 0),(7,pP b3 0),(8,pB v37),(10,pI m20),(16,pL eI p1.kinds),(17,pI (p1.kinds.length:Int)),(18,pI v5),(22,pL Zd.enc p0),(23,pI (p0.length:Int)),(24,pI v22)]) (fun (_,(v37,v38,v39,v40,v41,v42))=>[PRes.b b1 153 [pI p1.quantity,pI p1.value,pL eI p1.kinds],PRes.b b2 37 [pI 0,pI 0,pI 0,pI 0,pI 0],PRes.b b3 37 [pI v38,pI v39,pI v40,pI v41,pI v42]]) (fun (_,(v37,v38,v39,v40,v41,v42))=>q43=Sum.inl (v37,v38,v39,v40,v41,v42)) ?_ ?_
     ·skip
      refine aA (ag (ae hq43 fun m44 hm44 hq43=>aj (br 2 [] [26] [(27,.agg (bA m44))] (gu 0 Zd.enc hm44 bV) (by kernel_rfl) (aK rfl (an (cs:=[pI 0,pI 0,pS ByteArray.empty,pN,pI 0,pI 0,pI 0,pI 0,pI 0,pI 0,pI 0,pB false,pI 0,pB false,pI 0]) rfl rfl rfl rfl (fun b45=>bF rfl rfl (ah (vs:=(bA m44)) rfl rfl rfl rfl rfl aY (aD (aD (aD (aD (aD (aD zl9)))))) (aH (dE (bc [0] [28,29,30] [(31,pB (m44.Kind != m20))] (by kernel_rfl) (cZ rfl hq43 (fun hc46 hq43=>?_) fun hc46 hq43=>?_)))))))))))
      ·refine bk ?_
       refine aV (aR rfl ?_)
       obtain rfl:=osi hq43
       exact aq ((),(v21,v23,v24,v25,v26,v27)) (bq rfl (bq rfl (bq rfl (oO rfl)))) (bv (aC aF) (bv (aC aF) (bv (aC aF) be))) rfl
      refine ap ?_
      refine bx (ae hq43 fun x47 hx47 hq43=>aG [0,1,1] ((rg 33 7)++[32,40,41]) [(13,pI x47.1),(14,pI x47.2)] (cu 6 (kp hx47) bV) (by kernel_rfl) (dE (am [42] [(43,pB (x47.2 != 0))] (by kernel_rfl) (cZ rfl hq43 (fun hc48 hq43=>?_) fun hc48 hq43=>?_))))
      ·refine ag ?_
       refine aj (bp 2 [(44,.agg [pI 0,pI 0,pI 0,pI 0,pI 0]),(45,pI x47.2)] (by kernel_rfl) (bF rfl rfl (ah (vs:=[pI 0,pI 0,pI 0,pI 0,pI 0]) rfl rfl rfl rfl rfl (ba (ba aY)) zl5 (bB [(5,pB false),(6,pI x47.2)] (by kernel_rfl) (gb (aB (bz ?_)))))))
       obtain rfl:=osi hq43
       refine bE hb34 (fun ht=>?_);subst ht
       refine aB (ja (aB (aU ?_)))
       refine bE hb17 (fun ht=>?_);subst ht
       refine aB (bz ?_)
       obtain rfl:=osi h
       exact bg (prv_3 (eU rfl zm2 rfl) (aZ rfl) (aZ rfl)) be ⟨rfl,rfl⟩
      refine ap ?_
      refine bx (bc [3] (rg 46 7) [(53,pB ((!v21)||(decide (x47.1<v27))))] (by kernel_rfl) (cZ rfl hq43 (fun hc49 hq43=>?_) fun hc49 hq43=>?_))
      ·refine ag ?_
       refine aj (dn 10 [0,0,1,1] (rg 54 9) [(63,.agg [pI m44.Kind,pI m44.ID,pI p1.quantity,pI p1.value,pI x47.1])] (by kernel_rfl) (bF rfl rfl (ah (vs:=[pI m44.Kind,pI m44.ID,pI p1.quantity,pI p1.value,pI x47.1]) rfl rfl rfl rfl rfl (ba (ba (ba aY))) zl5 (aH (az (ar [(8,pB true)] (by kernel_rfl) (av ?_)))))))
       obtain rfl:=osi hq43
       exact aq ((),(true,m44.Kind,m44.ID,p1.quantity,p1.value,x47.1)) (bq rfl (bq rfl (bq rfl (oO rfl)))) (bv (aC aF) (bv (aC aF) (bv (aC aF) be))) rfl
      refine ap ?_
      refine av ?_
      obtain rfl:=osi hq43
      exact aq ((),(v21,v23,v24,v25,v26,v27)) (bq rfl (bq rfl (bq rfl (oO rfl)))) (bv (aC aF) (bv (aC aF) (bv (aC aF) be))) rfl
     rintro ⟨_,⟨v37,v38,v39,v40,v41,v42⟩⟩ τ hz;(try dsimp only at hz);subst q43;(try dsimp only at hb34);dsimp only [aT]
     refine am [64] [(24,pI (IntKind.i64.wrap (v22+1)))] (by kernel_rfl) ?_
     exact bN hb34 () (bq rfl (bq rfl (bq rfl (oO rfl)))) zs3
    refine bk ?_
    refine aV (aM hb34 (fun ht=>aR rfl ?_))
    exact i7 ((),(v21,v23,v24,v25,v26,v27)) (zh8 rfl) zs3 ht.symm
   rintro ⟨_,⟨v28,v29,v30,v31,v32,v33⟩⟩ τ ρ1 hsub50 hz;(try dsimp only at hz hsub50);subst q35;(try dsimp only at hb17);dsimp only [aT]
   refine av (az (jC hsub50 (am [65] [(18,pI (IntKind.i64.wrap (v5+1)))] (by kernel_rfl) ?_)))
   exact bN hb17 () (zh8 rfl) zs3
  refine bk ?_
  refine aV (aM hb17 (fun ht=>aR rfl ?_))
  exact aq ((),(v4,v6,v7,v8,v9,v10)) (s5 rfl) (bv (aC aF) (bv (aC aF) be)) ht.symm
 rintro ⟨_,⟨v11,v12,v13,v14,v15,v16⟩⟩ τ hz;(try dsimp only at hz);subst q18;(try dsimp only at h);dsimp only [aT]
 refine ag (aj (iz 2 [1] [(66,.agg [pI v12,pI v13,pI v14,pI v15,pI v16]),(67,pB v11)] (by kernel_rfl) (bF rfl rfl (ah (vs:=[pI v12,pI v13,pI v14,pI v15,pI v16]) rfl rfl rfl rfl rfl aY zl5 (bB [(5,pB v11),(6,pI 0)] (by kernel_rfl) (ec ?_))))))
 obtain rfl:=osi h
 exact bg (prv_3 (eU rfl gc rfl) (aZ rfl) (aZ rfl)) be ⟨rfl,rfl⟩
end SX
namespace SX
open Go
attribute [local irreducible] PWL PWC PWD POpL POpQ PEv PGuardIs PSub PPick PUpd PSplice PFill PLit PF PFV PCall FOk dg ce ew eM dG ex Cov PHolds bs idx app mk gd lb nz mn oF sub gt dW oA jc dK cg gF dX IntKind.wrap Int.tmod Int.tdiv Op.bytesLess strOfNums
end SX
namespace SX
open Go
attribute [local irreducible] PWL PWC PWD POpL POpQ PEv PGuardIs PSub PPick PUpd PSplice PFill PLit PF PFV PCall FOk dg ce ew eM dG ex Cov PHolds bs idx app mk gd lb nz mn oF sub gt dW oA jc dK cg gF dX IntKind.wrap Int.tmod Int.tdiv Op.bytesLess strOfNums
end SX
namespace SX
open Go
abbrev bl (s:ByteArray):List UInt8:=s.data.toList
theorem bl_hi (s:ByteArray) (k:Nat):bl (s.extract 0 k)=(bl s).take k:=by simp [bl]
theorem bl_lo (s:ByteArray) (k:Nat):bl (s.extract k s.size)=(bl s).drop k:=by
  simp only [bl,ByteArray.data_extract,Array.toList_extract,List.extract_eq_take_drop]
  rw [List.take_of_length_le];simp
theorem fQ (s:ByteArray):s.size=(bl s).length:=by simp [bl]
theorem bl_inj {s u:ByteArray} (h:bl s=bl u):s=u:=by
  obtain ⟨⟨x⟩⟩:=s;obtain ⟨⟨y⟩⟩:=u;simp [bl] at h;subst h;rfl
def gm (n:Nat):Bool:=decide (48≤n∧n≤57)
def cJ (p:Nat→Bool):List Value:=(List.range 256).map fun i=>.bool (p i)
theorem cB (p:Nat→Bool):(cJ p).length=256:=by simp [cJ]
theorem fR (p:Nat→Bool) {j:Nat} (h:j<256):(cJ p)[j]?=some (.bool (p j)):=by simp [cJ,h]
theorem nT (p q:Nat→Bool) {j:Nat} (h:∀ i,q i=(decide (i=j)||p i)):(cJ p).set j (.bool true)=cJ q:=by
  apply List.ext_getElem?
  intro i
  rw [List.getElem?_set]
  simp only [cB]
  rcases Nat.lt_or_ge i 256 with hi | hi
  · rw [fR q hi,fR p hi,h i]
    by_cases e:j=i
    · subst e;simp [hi]
    · rw [if_neg e];simp [show ¬ i=j from fun h=>e h.symm]
  · rw [List.getElem?_eq_none (by rw [cB];exact hi),List.getElem?_eq_none (by rw [cB];exact hi)]
    split
    · rw [if_neg (by omega)]
    · rfl
section
variable {o:Oper} {σ:Env} {ρ:List Res} {κ:Kr} {c:Bool} {x y:Operand} {K:Value→List Res→Kr→Prop}
theorem Sh.at1 {b k:Nat} {cs:List Value} {v:Value} (h:Sh κ b 0 cs) (hv:cs[k]?=some v):Sh κ b (0+k*1) [v]:=⟨h.1,fun j u hu=>by
  cases j with
  | zero=>simp at hu;subst hu;have:=h.2 k v hv;simpa using this
  | succ j=>simp at hu⟩
theorem pj {t b T sz by':Nat} {cs:List Value} {z:Value} {d:TypeDesc} (ho:o.op=.load t x) (hx:Ev σ c x (.pointer (some ⟨b,0,none⟩))) (hm:Res.b b T cs∈ρ) (hd:cE t=some d) (ha:fu d=true) (hi:c5 t=some (z,sz,by')) (hl:cs.length=sz):OpQ c o σ ρ κ (.agg cs.toArray):=by
  refine my ho hx hm ?_
  unfold eD
  simp only [hd,hi,ha,cond_true,List.drop_zero]
  rw [Nat.ble_eq_true_of_le (by omega)]
  simp [← hl]
end
attribute [local irreducible] WL WC WD OpL OpQ OpG Ev GuardIs pQ ft sB Call CallP midK ly Holds k8 Sub Pick WS Step Lit Upd SetAt SpliceAt FillR Sh LateRun
theorem kG (κ:Kr) (b:Nat) (p:Nat→Bool) (m:Int) (hs:Sh κ b 0 (cJ p)) (h0:0≤m) (h1:m≤255):CallP 198 [.pointer (some ⟨b,0,none⟩),.int .u8 m] κ fun v _=>v=.bool (p m.toNat):=by
  (unfold CallP;apply gY Tryz.func198 (fnk Tryz.func198 rfl) rfl Tryz.ntmps198 Tryz.results198 rfl)
  repeat (first | (first | (apply cq rfl rfl rfl;(focus (first | exact bh (v:=(.int _ _)) rfl (.p rfl) | exact bh (v:=(.pointer _)) rfl (.p rfl) | exact bu (v:=(.bool _)) rfl (.p rfl) | exact il rfl (.p rfl)))) | apply bT) | (first | apply ca | apply aX | apply bZ))
  apply cq rfl rfl rfl (mE (j:=m.toNat) rfl rfl rfl (.p rfl) (.p rfl) (fun _=>by omega) (fun _=>by omega))
  apply cq rfl rfl rfl (j6 rfl (.p rfl) (fun _=>(hs.mono (by (repeat (exact Kle.refl _)))).at1 (fR p (by omega))) rfl)
  repeat (first | (first | (apply cq rfl rfl rfl;(focus (exact bu (v:=(.bool _)) rfl (.p rfl)))) | apply bT) | (first | apply bZ | apply fV))
  exact gr (nr (v:=.bool _) rfl) .none ⟨rfl,rfl⟩
def d9:ByteArray:=⟨#[48,49,50,51,52,53,54,55,56,57]⟩
theorem nU:∀ {k:Nat},k<10→((d9.data.toList.getD k 0).toNat:Int)=48+(k:Int):=by decide
theorem tD (κ:Kr):CallP 175 [.string d9] κ fun v _=>v=.tuple #[.agg (cJ gm).toArray,.bool true]:=by
  (unfold CallP;apply gY Tryz.func175 (fnk Tryz.func175 rfl) rfl Tryz.ntmps175 Tryz.results175 rfl)
  repeat (first | (first | (apply cq rfl rfl rfl;(focus (first | exact bu (v:=(.int _ _)) rfl (.p rfl) | exact bu (v:=(.bool _)) rfl (.p rfl)))) | (apply n5 rfl rfl rfl;apply mz rfl rfl;intro _ _ _) | apply bT) | (first | apply ca | apply aX | apply eC | apply bZ))
  rename_i b2 κ1 _
  have e0:List.replicate 256 (Value.bool false)=cJ (fun i=>decide (48≤i∧i<48+0)):=by
    apply List.ext_getElem?
    intro i
    rcases Nat.lt_or_ge i 256 with hi | hi
    · rw [fR _ hi,List.getElem?_replicate,if_pos hi];congr 2;symm;rw [decide_eq_false_iff_not];omega
    · rw [List.getElem?_eq_none (by simpa using hi),List.getElem?_eq_none (by rw [cB];exact hi)]
  rw [e0]
  refine jA (X:=Nat) (fun k=>[(0,.string d9),(2,.pointer (some ⟨b2,0,none⟩)),(4,.int .i64 (k:Int))]) (fun k=>[Res.b b2 279 (cJ fun i=>decide (48≤i∧i<48+k))]) (fun k _=>k≤10) (fun k=>10 - k) 0 (by (repeat (first | exact Holds.nil | apply Holds.cons rfl))) (by (repeat (first | exact Sub.nil | (apply Sub.cons;(focus (repeat (exact Pick.h))))))) (by omega) ?_
  intro k τ κ2 _ hk
  simp only [k8]
  repeat (first | (first | (apply cq rfl rfl rfl;(focus (first | exact bh (v:=(.int _ _)) rfl (.p rfl) | exact bh (v:=(.string _)) rfl (.p rfl) | exact gV rfl (.p rfl) (.p rfl) rfl | exact gg rfl rfl (.p rfl)))) | apply bT) | (first | apply ca | apply aX | apply bZ))
  apply ns rfl <;> intro hc
  · have hk10:k<10:=by
      have e:(d9.size:Int)=10:=rfl
      rw [e] at hc;omega
    repeat (first | (apply cq rfl rfl rfl;(focus (first | exact bh (v:=(.int _ _)) rfl (.p rfl) | exact bh (v:=(.string _)) rfl (.p rfl)))) | (first | apply ca | apply aX | apply eC | apply bZ | apply eB))
    apply cq rfl rfl rfl (gA (s:=d9) (j:=k) rfl rfl (.p rfl) (.p rfl) (fun _=>rfl) (fun _=>hk10))
    rw [nU hk10]
    repeat (first | (first | (apply cq rfl rfl rfl;(focus (first | exact bh (v:=(.int _ _)) rfl (.p rfl) | exact bu (v:=(.int _ _)) rfl (.p rfl) | exact gV rfl (.p rfl) (.p rfl) rfl))) | apply bT) | (first | apply ca | apply aX | apply bZ))
    apply so (by have:¬ (128:Int)≤48+(k:Int):=by omega
                 simp [ev,upd,this])
    repeat (first | (apply cq rfl rfl rfl;(focus (exact bh (v:=(.int _ _)) rfl (.p rfl)))) | (first | apply aX | apply bZ | apply eB))
    apply cq rfl rfl rfl (mE (j:=48+k) rfl rfl rfl (.p rfl) (.p rfl) (fun _=>by omega) (fun _=>by omega))
    apply qE rfl rfl
    apply rC (v:=.bool true) rfl rfl rfl rfl rfl rfl (by (repeat (exact Upd.h))) (by rw [cB];omega)
    intro κ3 _
    have e1:(cJ fun i=>decide (48≤i∧i<48+k)).set (0+(48+k)*1) (.bool true)=cJ fun i=>decide (48≤i∧i<48+(k+1)) :=
      nT _ _ fun i=>by rw [Bool.eq_iff_iff];simp;omega
    rw [e1]
    repeat (first | (first | (apply cq rfl rfl rfl;(focus (first | exact bh (v:=(.int _ _)) rfl (.p rfl) | exact bu (v:=(.int _ _)) rfl (.p rfl) | exact gW rfl (.p rfl) (.p rfl) rfl (fun _=>by omega)))) | apply bT) | (first | apply aX | apply bZ | apply iM))
    exact nq (k+1) (by (repeat (first | exact Holds.nil | apply Holds.cons rfl))) (by (repeat (first | exact Sub.nil | (apply Sub.cons;(focus (repeat (exact Pick.h))))))) (by omega) (by omega)
  · have hk10:k=10:=by
      have e:(d9.size:Int)=10:=rfl
      rw [e] at hc;omega
    subst hk10
    have e2:(fun i=>decide (48≤i∧i<48+10))=gm:=by funext i;simp only [gm];rw [Bool.eq_iff_iff];simp;omega
    rw [e2]
    apply gU;apply eQ;apply eu;apply eR rfl;apply bZ;apply ca;apply aX
    apply cq rfl rfl rfl (pj rfl (.p rfl) (by (repeat (exact List.Mem.head _))) rfl rfl rfl (cB _))
    apply qE rfl rfl
    apply mA rfl rfl rfl rfl (cB _) (by simp [cJ,Value.oneCell']) (by (repeat (exact Upd.h))) rfl
    intro κ3 _
    repeat (first | (first | (apply cq rfl rfl rfl;(focus (exact bu (v:=(.bool _)) rfl (.p rfl)))) | apply bT) | (first | apply bZ | apply fV))
    refine gr (rv_2 (RV1.cell rfl (by (repeat (exact List.Mem.head _))) ?_) (rv1_t (v:=.bool _) rfl)) .none ⟨rfl,rfl⟩
    unfold eD
    simp only [show cE 279=some (.array 256 4) from rfl,show c5 279=some (.agg (List.replicate 256 (.bool false)).toArray,256,256) from rfl,fu,cond_true,List.drop_zero,cB]
    rw [List.take_of_length_le (by rw [cB];omega)];rfl
theorem k7 {l:List UInt8} {j:Nat} (h:j<l.length):l.getD j 0=l[j]:=by simp [List.getD_eq_getElem?_getD,h]
theorem nV (κ:Kr) (b:Nat) (s:ByteArray) (hs:Sh κ b 0 (cJ gm)) (hz:s.size≤1000000000):CallP 177 [.string s,.pointer (some ⟨b,0,none⟩)] κ fun v _=>∃ u k,v=.string u∧bl u=(bl s).take k∧k≤(bl s).length∧(∀ c∈(bl s).drop k,gm c.toNat=true)∧(∀ c,(bl u).getLast?=some c→gm c.toNat=false):=by
  (unfold CallP;apply gY Tryz.func177 (fnk Tryz.func177 rfl) rfl Tryz.ntmps177 Tryz.results177 rfl)
  repeat (first | (first | (apply cq rfl rfl rfl;(focus (exact bu (v:=(.string _)) rfl (.p rfl)))) | apply bT) | (first | apply ca | apply aX | apply eC | apply bZ))
  refine jA (X:=ByteArray×Nat) (fun z=>[(0,.string z.1),(1,.pointer (some ⟨b,0,none⟩))]) (fun _=>[]) (fun z _=>bl z.1=(bl s).take z.2∧z.2≤(bl s).length∧∀ c∈(bl s).drop z.2,gm c.toNat=true) (fun z=>z.2) (s,(bl s).length) (by (repeat (first | exact Holds.nil | apply Holds.cons rfl))) (by (repeat (exact Sub.nil))) ⟨(List.take_length).symm,Nat.le_refl _,by rw [List.drop_length];simp⟩ ?_
  rw [fQ] at hz
  rintro ⟨u,k⟩ τ κ2 _ ⟨h1,h2,h3⟩
  dsimp only at h1 h2 h3
  have hsz:u.size=k:=by rw [fQ,h1,List.length_take];omega
  simp only [k8]
  repeat (first | (first | (apply cq rfl rfl rfl;(focus (first | exact bh (v:=(.string _)) rfl (.p rfl) | exact gV rfl (.p rfl) (.p rfl) rfl | exact gg rfl rfl (.p rfl)))) | apply bT) | (first | apply ca | apply aX | apply bZ))
  apply ns rfl <;> intro hc
  · have hk0:0<k:=by omega
    repeat (first | (apply cq rfl rfl rfl;(focus (first | exact bh (v:=(.pointer _)) rfl (.p rfl) | exact bh (v:=(.string _)) rfl (.p rfl) | exact gW rfl (.p rfl) (.p rfl) rfl (fun _=>by omega) | exact gg rfl rfl (.p rfl)))) | (first | apply ca | apply aX | apply eC | apply bZ | apply eB))
    apply cq rfl rfl rfl (gA (j:=k - 1) rfl rfl (.p rfl) (.p rfl) (fun _=>by omega) (fun _=>by omega))
    have hlast:(bl u).getLast?=some ((bl u).getD (k - 1) 0):=by
      rw [List.getLast?_eq_getElem?,← fQ,hsz,k7 (by rw [← fQ];omega),List.getElem?_eq_getElem]
    apply n5 rfl rfl rfl;apply fW rfl rfl (kG _ b gm ((u.data.toList.getD (k - 1) 0).toNat:Int) (hs.mono (by (repeat (assumption)))) (by omega) (by have:=(u.data.toList.getD (k - 1) 0).toNat_lt;omega))
    rintro v κ3 _ rfl
    repeat (first | (first | (apply cq rfl rfl rfl;(focus (exact pT rfl (.p rfl)))) | apply bT) | (apply bZ))
    rw [Int.toNat_natCast]
    apply fI rfl <;> intro hb
    · repeat (first | (first | (apply cq rfl rfl rfl;(focus (first | exact bh (v:=(.string _)) rfl (.p rfl) | exact bu (v:=(.string _)) rfl (.p rfl)))) | apply bT) | (first | apply ca | apply aX | apply bZ | apply fV | apply gU | apply eQ | apply eR rfl | apply lx rfl | apply eu))
      refine gr (nr (v:=.string _) rfl) .none ⟨rfl,u,k,rfl,h1,h2,h3,fun c hc=>?_⟩
      rw [hlast] at hc;injection hc with hc;subst hc;simpa using hb
    · repeat (first | (apply cq rfl rfl rfl;(focus (first | exact bh (v:=(.string _)) rfl (.p rfl) | exact gW rfl (.p rfl) (.p rfl) rfl (fun _=>by omega) | exact gg rfl rfl (.p rfl)))) | (first | apply aX | apply bZ | apply eB))
      apply cq rfl rfl rfl (kC (h:=k - 1) rfl rfl (.p rfl) (.p rfl) (fun _=>by omega) (fun _=>by omega))
      repeat (first | (first | (apply cq rfl rfl rfl;(focus (exact bu (v:=(.string _)) rfl (.p rfl)))) | apply bT) | (apply iM))
      refine nq (u.extract 0 (k - 1),k - 1) (by (repeat (first | exact Holds.nil | apply Holds.cons rfl))) (by (repeat (exact Sub.nil))) ⟨?_,by ((try dsimp only at *) <;> omega),?_⟩ (by ((try dsimp only at *) <;> omega))
      · rw [bl_hi,h1,List.take_take];congr 1;omega
      · intro c hc
        rw [List.drop_eq_getElem_cons (by omega)] at hc
        rcases List.mem_cons.1 hc with rfl | hc
        · have e:(bl u).getD (k - 1) 0=(bl s)[k - 1]'(by omega):=by
            rw [k7 (by rw [← fQ];omega)];simp [h1]
          rw [← e];simpa using hb
        · rw [show k - 1+1=k by omega] at hc;exact h3 c hc
  · repeat (first | (first | (apply cq rfl rfl rfl;(focus (first | exact bh (v:=(.string _)) rfl (.p rfl) | exact bu (v:=(.string _)) rfl (.p rfl)))) | apply bT) | (first | apply ca | apply aX | apply bZ | apply fV | apply gU | apply eQ | apply eR rfl | apply eu))
    refine gr (nr (v:=.string _) rfl) .none ⟨rfl,u,k,rfl,h1,h2,h3,fun c hc'=>?_⟩
    have:bl u=[]:=List.eq_nil_of_length_eq_zero (by rw [← fQ];omega)
    rw [this] at hc';cases hc'
end SX
namespace SX
open Go
attribute [local irreducible] WL WC WD OpL OpQ OpG Ev GuardIs pQ ft sB Call CallP midK ly Holds k8 Sub Pick WS Step Lit Upd SetAt SpliceAt FillR Sh LateRun
theorem pl (κ:Kr) (b:Nat) (s:ByteArray) (hs:Sh κ b 0 (cJ gm)):CallP 176 [.string s,.pointer (some ⟨b,0,none⟩)] κ fun v _=>∃ u k,v=.string u∧bl u=(bl s).drop k∧k≤(bl s).length∧(∀ c∈(bl s).take k,gm c.toNat=true)∧(∀ c,(bl u).head?=some c→gm c.toNat=false):=by
  (unfold CallP;apply gY Tryz.func176 (fnk Tryz.func176 rfl) rfl Tryz.ntmps176 Tryz.results176 rfl)
  repeat (first | (first | (apply cq rfl rfl rfl;(focus (exact bu (v:=(.string _)) rfl (.p rfl)))) | apply bT) | (first | apply ca | apply aX | apply eC | apply bZ))
  refine jA (X:=ByteArray×Nat) (fun z=>[(0,.string z.1),(1,.pointer (some ⟨b,0,none⟩))]) (fun _=>[]) (fun z _=>bl z.1=(bl s).drop z.2∧z.2≤(bl s).length∧∀ c∈(bl s).take z.2,gm c.toNat=true) (fun z=>(bl s).length - z.2) (s,0) (by (repeat (first | exact Holds.nil | apply Holds.cons rfl))) (by (repeat (exact Sub.nil))) ⟨rfl,Nat.zero_le _,by simp⟩ ?_
  rintro ⟨u,k⟩ τ κ2 _ ⟨h1,h2,h3⟩
  dsimp only at h1 h2 h3
  have hsz:u.size=(bl s).length - k:=by rw [fQ,h1,List.length_drop]
  simp only [k8]
  repeat (first | (first | (apply cq rfl rfl rfl;(focus (first | exact bh (v:=(.string _)) rfl (.p rfl) | exact gV rfl (.p rfl) (.p rfl) rfl | exact gg rfl rfl (.p rfl)))) | apply bT) | (first | apply ca | apply aX | apply bZ))
  apply ns rfl <;> intro hc
  · have hk0:k<(bl s).length:=by omega
    have hu0:0<(bl u).length:=by rw [← fQ];omega
    repeat (first | (apply cq rfl rfl rfl;(focus (first | exact bh (v:=(.pointer _)) rfl (.p rfl) | exact bh (v:=(.string _)) rfl (.p rfl)))) | (first | apply ca | apply aX | apply eC | apply bZ | apply eB))
    apply cq rfl rfl rfl (gA (j:=0) rfl rfl (.p rfl) (.p rfl) (fun _=>by omega) (fun _=>by omega))
    have hhead:(bl u).head?=some ((bl u).getD 0 0):=by
      rw [List.head?_eq_getElem?,k7 hu0,List.getElem?_eq_getElem hu0]
    apply n5 rfl rfl rfl;apply fW rfl rfl (kG _ b gm ((u.data.toList.getD 0 0).toNat:Int) (hs.mono (by (repeat (assumption)))) (by omega) (by have:=(u.data.toList.getD 0 0).toNat_lt;omega))
    rintro v κ3 _ rfl
    repeat (first | (first | (apply cq rfl rfl rfl;(focus (exact pT rfl (.p rfl)))) | apply bT) | (apply bZ))
    rw [Int.toNat_natCast]
    apply fI rfl <;> intro hb
    · repeat (first | (first | (apply cq rfl rfl rfl;(focus (first | exact bh (v:=(.string _)) rfl (.p rfl) | exact bu (v:=(.string _)) rfl (.p rfl)))) | apply bT) | (first | apply ca | apply aX | apply bZ | apply fV | apply gU | apply eQ | apply eR rfl | apply lx rfl | apply eu))
      refine gr (nr (v:=.string _) rfl) .none ⟨rfl,u,k,rfl,h1,h2,h3,fun c hc=>?_⟩
      rw [hhead] at hc;injection hc with hc;subst hc;simpa using hb
    · repeat (first | (apply cq rfl rfl rfl;(focus (exact bh (v:=(.string _)) rfl (.p rfl)))) | (first | apply aX | apply bZ | apply eB))
      apply cq rfl rfl rfl (kD (l:=1) rfl rfl (.p rfl) (.p rfl) (fun _=>by omega) (fun _=>by omega))
      repeat (first | (first | (apply cq rfl rfl rfl;(focus (exact bu (v:=(.string _)) rfl (.p rfl)))) | apply bT) | (apply iM))
      refine nq (u.extract 1 u.size,k+1) (by (repeat (first | exact Holds.nil | apply Holds.cons rfl))) (by (repeat (exact Sub.nil))) ⟨?_,by ((try dsimp only at *) <;> omega),?_⟩ (by ((try dsimp only at *) <;> omega))
      · rw [bl_lo,h1,List.drop_drop]
      · intro c hc
        rw [List.take_add_one] at hc
        rcases List.mem_append.1 hc with hc | hc
        · exact h3 c hc
        · have e:(bl u).getD 0 0=(bl s)[k]'hk0:=by rw [k7 hu0];simp [h1]
          rw [List.getElem?_eq_getElem hk0] at hc
          simp only [Option.toList_some,List.mem_cons,List.not_mem_nil,or_false] at hc
          subst hc;rw [← e];simpa using hb
  · repeat (first | (first | (apply cq rfl rfl rfl;(focus (first | exact bh (v:=(.string _)) rfl (.p rfl) | exact bu (v:=(.string _)) rfl (.p rfl)))) | apply bT) | (first | apply ca | apply aX | apply bZ | apply fV | apply gU | apply eQ | apply eR rfl | apply eu))
    refine gr (nr (v:=.string _) rfl) .none ⟨rfl,u,k,rfl,h1,h2,h3,fun c hc'=>?_⟩
    have:bl u=[]:=List.eq_nil_of_length_eq_zero (by rw [← fQ];omega)
    rw [this] at hc';cases hc'
def kq (s:ByteArray):Bool:=(bl s).all fun c=>gm c.toNat
theorem mU {s:ByteArray}:s=⟨#[]⟩↔bl s=[]:=⟨fun h=>by rw [h],fun h=>bl_inj (by rw [h])⟩
theorem trim_ok (κ:Kr) (s:ByteArray) (hz:s.size≤1000000000):CallP 136 [.string s,.string d9] κ fun v _=>∃ u,v=.string u∧(u=⟨#[]⟩↔kq s=true):=by
  (unfold CallP;apply gY Tryz.func136 (fnk Tryz.func136 rfl) rfl Tryz.ntmps136 Tryz.results136 rfl)
  repeat (first | (first | (apply cq rfl rfl rfl;(focus (first | exact bh (v:=(.bool _)) rfl (.p rfl) | exact bh (v:=(.string _)) rfl (.p rfl) | exact bu (v:=(.string _)) rfl (.p rfl) | exact oq_or rfl (.p rfl) (.p rfl) (.g rfl) | exact ng rfl (.p rfl) (.p rfl) rfl))) | (apply lg;(focus (exact qD rfl rfl rfl));rfl;rfl;(focus (first | (apply bh (v:=(.string _)) rfl;(focus (exact Ev.p rfl))) | (apply ng rfl (by (focus (exact Ev.g rfl))) (by (focus (exact Ev.p rfl)));rfl)))) | apply bT) | (first | apply ca | apply aX | apply bZ))
  apply fI rfl <;> intro hb
  · repeat (first | (first | (apply cq rfl rfl rfl;(focus (first | exact bh (v:=(.string _)) rfl (.p rfl) | exact bu (v:=(.string _)) rfl (.p rfl)))) | apply bT) | (first | apply ca | apply aX | apply bZ | apply fV | apply j8))
    have:s=⟨#[]⟩:=by simpa [d9] using hb
    refine gr (nr (v:=.string _) rfl) .none ⟨rfl,s,rfl,?_⟩
    subst this;simp [kq,bl]
  · have hne:¬ bl s=[]:=fun h=>by rw [mU.2 h] at hb;simp at hb
    repeat (first | (first | (apply cq rfl rfl rfl;(focus (first | exact bh (v:=(.bool _)) rfl (.p rfl) | exact bh (v:=(.string _)) rfl (.p rfl) | exact gV rfl (.p rfl) (.p rfl) rfl | exact gg rfl rfl (.p rfl)))) | (apply lg;(focus (exact gT rfl rfl rfl));rfl;rfl;(focus (apply bh (v:=(.string _)) rfl;(focus (exact Ev.p rfl)))))) | (first | apply ca | apply aX | apply bZ | apply eB))
    apply lg;(focus (exact gT rfl rfl rfl));rfl;rfl;exact gA (s:=d9) (j:=0) rfl rfl (.g rfl) (.p rfl) (fun _=>rfl) (fun _=>by decide)
    repeat (first | (first | (apply cq rfl rfl rfl;(focus (exact pR rfl (.p rfl) (.p rfl) (.g rfl)))) | (apply lg;(focus (exact gT rfl rfl rfl));rfl;rfl;(focus (apply gV rfl (by (focus (exact Ev.g rfl))) (by (focus (exact Ev.p rfl)));rfl))) | apply bT) | (apply bZ))
    apply fI rfl <;> intro hb2
    · have e:(d9.size:Int)=10:=rfl
      rw [e] at hb2;simp at hb2
    repeat (first | (apply cq rfl rfl rfl;(focus (exact bh (v:=(.string _)) rfl (.p rfl)))) | (first | apply ca | apply aX | apply bZ | apply eB))
    refine wl_fun rfl rfl rfl rfl rfl (tD _) fun κ1 _=>?_
    repeat (first | (first | (apply cq rfl rfl rfl;(focus (first | exact bh (v:=(.bool _)) rfl (.p rfl) | exact bh (v:=(.tuple _)) rfl (.p rfl) | exact bu (v:=(.bool _)) rfl (.p rfl) | exact lh rfl (.p rfl) rfl))) | (apply n5 rfl rfl rfl;apply mz rfl rfl;intro _ _ _) | (apply qE rfl rfl;apply mA rfl rfl rfl rfl rfl rfl;(focus (repeat (exact Upd.h)));rfl;intro _ _) | apply bT) | (first | apply ca | apply aX | apply bZ))
    rename_i b5 _ _ _ _
    apply wc_pub (b:=b5) Pick.h rfl;intro κ3 _ hS hsays
    have hset:=sN hS hsays
    apply sn rfl
    repeat (first | (apply cq rfl rfl rfl;(focus (exact bh (v:=(.string _)) rfl (.p rfl)))) | (first | apply ca | apply aX))
    apply n5 rfl rfl rfl;apply fW rfl rfl (nV _ b5 s (hset.mono (by (repeat (exact Kle.refl _)))) hz)
    rintro v κ4 _ ⟨u,k,rfl,h1,h2,h3,h4⟩
    apply n5 rfl rfl rfl;apply fW rfl rfl (pl _ b5 u (hset.mono (by (repeat (assumption)))))
    rintro v κ5 _ ⟨u2,k2,rfl,g1,g2,g3,g4⟩
    repeat (first | (first | (apply cq rfl rfl rfl;(focus (exact bu (v:=(.string _)) rfl (.p rfl)))) | apply bT) | (first | apply bZ | apply fV | apply j8))
    refine gr (nr (v:=.string _) rfl) .none ⟨rfl,u2,rfl,?_⟩
    rw [mU]
    unfold kq
    rw [List.all_eq_true]
    constructor
    · intro h
      have hk2:k2=(bl u).length:=by
        have:=congrArg List.length (g1.symm.trans h);simp only [List.length_drop,List.length_nil] at this;omega
      intro c hc
      rw [← List.take_append_drop k (bl s)] at hc
      rcases List.mem_append.1 hc with hc | hc
      · rw [← h1] at hc;rw [hk2,List.take_length] at g3;exact g3 c hc
      · exact h3 c hc
    · intro h
      have hu:bl u=[]:=by
        rcases List.eq_nil_or_concat (bl u) with hu | ⟨l,c,hu⟩
        · exact hu
        · have hc:=h4 c (by rw [hu];simp)
          have hm:c∈bl s:=List.mem_of_mem_take (i:=k) (by rw [← h1,hu];simp)
          rw [h c hm] at hc;cases hc
      rw [g1,hu];simp
def Glob (κ:Kr):Prop:=Sh κ 0 0 [.int .i64 2,.int .i64 4,.int .i64 6,.int .i64 8]
theorem Glob.mono {κ κ':Kr} (h:Glob κ) (k:Kle κ κ'):Glob κ':=Sh.mono h k
def lY (s:ByteArray):Int:=if (s.size=2∨s.size=4∨s.size=6∨s.size=8)∧kq s=true then (s.size:Int) else 0
theorem gv_some {c:Bool} {v:Value} {P:ByteArray→Prop} (h:c=true→∃ u,v=.string u∧P u):∃ u,gv c v=gv c (.string u)∧(c=true→P u):=by
  cases c
  · exact ⟨⟨#[]⟩,by rw [dL,dL],fun h=>by cases h⟩
  · obtain ⟨u,rfl,h2⟩:=h rfl;exact ⟨u,rfl,fun _=>h2⟩
theorem tE (κ:Kr) (s:ByteArray) (hg:Glob κ):CallP 103 [.string s] κ fun v _=>v=.int .i64 (lY s):=by
  (unfold CallP;apply gY Tryz.func103 (fnk Tryz.func103 rfl) rfl Tryz.ntmps103 Tryz.results103 rfl)
  repeat (first | (first | (apply cq rfl rfl rfl;(focus (exact bu (v:=(.int _ _)) rfl (.p rfl)))) | apply bT) | (first | apply ca | apply aX | apply bZ))
  apply cq rfl rfl rfl (j6 rfl (.p rfl) (fun _=>hg) rfl)
  repeat (first | (first | (apply cq rfl rfl rfl;(focus (exact bh (v:=(.int _ _)) rfl (.p rfl)))) | apply bT) | (first | apply eC | apply bZ))
  refine jA (X:=Nat) (fun k=>[(0,.string s),(5,.agg #[.int .i64 2,.int .i64 4,.int .i64 6,.int .i64 8]),(6,.int .i64 (k:Int))]) (fun _=>[]) (fun k _=>k≤4∧∀ j,j<k→¬ (s.size=2*(j+1)∧kq s=true)) (fun k=>4 - k) 0 (by (repeat (first | exact Holds.nil | apply Holds.cons rfl))) (by (repeat (exact Sub.nil))) ⟨by omega,by omega⟩ ?_
  rintro k τ κ1 _ ⟨hk,hno⟩
  simp only [k8]
  repeat (first | (first | (apply cq rfl rfl rfl;(focus (exact gV rfl (.p rfl) (.p rfl) rfl))) | apply bT) | (first | apply ca | apply aX | apply bZ))
  apply ns rfl <;> intro hc
  · have hk4:k<4:=by omega
    repeat (first | apply ca | apply aX | apply eC | apply bZ | apply eB)
    apply cq rfl rfl rfl (rB (cs:=[.int .i64 2,.int .i64 4,.int .i64 6,.int .i64 8]) (v:=.int .i64 (2*((k:Int)+1))) (j:=k) rfl rfl rfl rfl rfl (.p rfl) (.p rfl) (fun _=>rfl) (fun _=>hk4) (fun _=>by
      have:k=0∨k=1∨k=2∨k=3:=by omega
      rcases this with rfl | rfl | rfl | rfl <;> rfl))
    repeat (first | (first | (apply cq rfl rfl rfl;(focus (first | exact bh (v:=(.int _ _)) rfl (.p rfl) | exact bh (v:=(.bool _)) rfl (.p rfl) | exact bh (v:=(.string _)) rfl (.p rfl) | exact bu (v:=(.int _ _)) rfl (.p rfl) | exact gV rfl (.p rfl) (.p rfl) rfl | exact gg rfl rfl (.p rfl)))) | (apply lg;(focus (exact gT rfl rfl rfl));rfl;rfl;(focus (apply bh (v:=(.string _)) rfl;(focus (exact Ev.p rfl))))) | apply bT) | (first | apply ca | apply aX | apply bZ))
    apply wl_g;(focus (exact gT rfl rfl rfl));rfl;rfl
    refine oa rfl (ar2 (.g rfl) (.p rfl)) (fun hcc=>trim_ok _ s (by simp at hcc;omega)) fun v κ2 _ hv=>?_
    obtain ⟨u,hu,hP⟩:=gv_some hv
    rw [hu]
    repeat (first | (first | (apply cq rfl rfl rfl;(focus (exact pR rfl (.p rfl) (.p rfl) (.g rfl)))) | (apply lg;(focus (exact gT rfl rfl rfl));rfl;rfl;(focus (apply ng rfl (by (focus (exact Ev.g rfl))) (by (focus (exact Ev.p rfl)));rfl))) | apply bT) | (apply bZ))
    apply fI rfl <;> intro hb
    · simp only [Bool.and_eq_true,beq_iff_eq,decide_eq_true_eq] at hb
      have hd:kq s=true:=(hP (by simpa using hb.1)).1 hb.2
      repeat (first | (first | (apply cq rfl rfl rfl;(focus (first | exact bh (v:=(.int _ _)) rfl (.p rfl) | exact bu (v:=(.int _ _)) rfl (.p rfl)))) | apply bT) | (first | apply ca | apply aX | apply bZ | apply fV | apply j8 | apply ol | apply pW))
      refine gr (nr (v:=.int _ _) rfl) .none ⟨rfl,?_⟩
      show Value.int .i64 (2*((k:Int)+1))=.int .i64 (lY s)
      unfold lY
      rw [if_pos ⟨by omega,hd⟩,← hb.1]
    · repeat (first | (first | (apply cq rfl rfl rfl;(focus (first | exact bh (v:=(.int _ _)) rfl (.p rfl) | exact gW rfl (.p rfl) (.p rfl) rfl (fun _=>by omega)))) | apply bT) | (first | apply aX | apply bZ | apply eB | apply iM))
      refine nq (k+1) (by (repeat (first | exact Holds.nil | apply Holds.cons rfl))) (by (repeat (exact Sub.nil))) ⟨by omega,fun j hj=>?_⟩ (by omega)
      rcases Nat.lt_or_ge j k with h | h
      · exact hno j h
      · have:j=k:=by omega
        subst this
        rintro ⟨h1,h2⟩
        have hcc:((s.size:Int) == 2*((j:Int)+1))=true:=by simp;omega
        have:=(hP (by simpa using hcc)).2 h2
        subst this
        rw [hcc] at hb;simp at hb
  · repeat (first | (first | (apply cq rfl rfl rfl;(focus (exact bu (v:=(.int _ _)) rfl (.p rfl)))) | apply bT) | (first | apply ca | apply aX | apply bZ | apply fV | apply gU | apply eQ | apply eR rfl | apply eu))
    refine gr (nr (v:=.int _ _) rfl) .none ⟨rfl,?_⟩
    show Value.int .i64 0=.int .i64 (lY s)
    unfold lY
    rw [if_neg]
    rintro ⟨h1,h2⟩
    have:k=4:=by omega
    subst this
    rcases h1 with h1 | h1 | h1 | h1
    · exact hno 0 (by omega) ⟨h1,h2⟩
    · exact hno 1 (by omega) ⟨h1,h2⟩
    · exact hno 2 (by omega) ⟨h1,h2⟩
    · exact hno 3 (by omega) ⟨h1,h2⟩
end SX
namespace SX
open Go
def eo (p0:ByteArray):Option Int:=some (lY p0)
theorem eN {p0:ByteArray} {r:Int} (h:eo p0=some r):PF 103 [.v (.string p0)] (.v (.int .i64 r)):=fun κ args g ha=>by
 obtain ⟨v,ws,rfl,h1,h2⟩:=ha.cons_inv
 rw [h2.nil_inv,h1.val]
 have h:=Option.some.inj h;subst h
 exact (tE κ p0 (gok_len g)).mono fun v κ' _ hv=>by subst hv;exact .v rfl
def pm (s:ByteArray) (pos:Nat):Option (Nat⊕Bool):=cond (Nat.blt pos s.size) (cond (decide (((Utf8.decode s pos).1:Int)<97)||decide (122<((Utf8.decode s pos).1:Int))) (some (.inr false)) (some (.inl (pos+(Utf8.decode s pos).2)))) (some (.inr true))
attribute [local irreducible] PWL PWC PWD POpL POpQ PEv PGuardIs PSub PPick PUpd PSplice PFill PLit PF PFV PCall FOk dg ce ew eM dG ex Cov PHolds bs pm
end SX
namespace SX
open Go
section
variable {γ:Type} [Inhabited γ]
theorem mt (e:γ→Value) (D:Array γ) (cur:Array Value) (h:D.size≤cur.size):(Sort.putCells e 0 D cur).toList.take D.size=D.toList.map e:=by
 apply List.ext_getElem
 ·simp [Sort.putCells];omega
 intro i h1 h2
 have h3:i<D.size:=by simpa using h2
 simp [Sort.putCells,h3]
theorem pn {e:γ→Value} {w:World} {b:Nat} {D:Array γ} {cur:Array Value} {T:Nat} {fr:Nat×Nat} (h:w.heap[b]?=some (.cells cur T fr)):(Sort.putRow e w b 0 D).heap[b]?=some (.cells (Sort.putCells e 0 D cur) T fr):=by
 simp [Sort.putRow,Sort.mapBlock,Array.getElem?_modify,h,Sort.onCells]
theorem lZ {e:γ→Value} {w:World} {b i:Nat} {D:Array γ} (h:i≠b):(Sort.putRow e w b 0 D).heap[i]?=w.heap[i]?:=by
 simp only [Sort.putRow,Sort.mapBlock,Array.getElem?_modify]
 rw [if_neg (fun e=>h e.symm)]
theorem l3 {β:Base} {l:List Res} {κ:Kr} {b n c T sz m:Nat} {css css':List (List Value)} {os:Array Obj} {e:γ→Value} {D:Array γ} (hi:Zg β (Res.row (some ⟨b,0,none⟩) n c T sz css::l) κ) (hF:D.toList.map e=css'.flatten) (hl:css'.length=n) (hw:∀ cs∈css',cs.length=sz) :
    Zg β (Res.row (some ⟨b,0,none⟩) n c T sz css'::l) ⟨Sort.grow (Sort.putRow e (Sort.ahead κ.w m) b 0 D) os,κ.S⟩∧Kle κ ⟨Sort.grow (Sort.putRow e (Sort.ahead κ.w m) b 0 D) os,κ.S⟩:=by
  have ho:=hi.own _ (List.mem_cons_self)
  obtain ⟨h1,h2,h3,h4,h5,cur,h6,h7,h8⟩:=ho
  have hD:D.size=n*sz:=by
    have:=congrArg List.length hF
    rw [List.length_map,cU hw,hl] at this
    simpa using this
  have hle:D.size≤cur.size:=by rw [hD,h7];exact Nat.mul_le_mul_right _ h4
  have t1:=hi.turn (r':=Res.row (some ⟨b,0,none⟩) n c T sz css') (l1:=[]) (b:=b) (w':=Sort.putRow e (Sort.ahead κ.w m) b 0 D) rfl rfl rfl (fun i hne=>lZ hne) (by simp [Sort.putRow,Sort.mapBlock,Sort.ahead])
    ⟨h1,hl,hw,h4,h5,_,pn (w:=Sort.ahead κ.w m) h6,by simpa [Sort.putCells] using h7,by rw [← hD,mt e D cur hle,hF]⟩ rfl rfl rfl (by simp [Sort.putRow,Sort.mapBlock,Sort.ahead])
  have hh:=t1.1.own _ (List.mem_cons_self)
  have hb2:b<(Sort.putRow e (Sort.ahead κ.w m) b 0 D).heap.size:=by
    have:=(t1.1.blk _ (List.mem_cons_self) b rfl).1;exact this
  have hold:∀ i,i<(Sort.putRow e (Sort.ahead κ.w m) b 0 D).heap.size→(Sort.grow (Sort.putRow e (Sort.ahead κ.w m) b 0 D) os).heap[i]?=(Sort.putRow e (Sort.ahead κ.w m) b 0 D).heap[i]?:=fun i h=>by
    simp only [Sort.grow];rw [Array.getElem?_append_left h]
  have hh2:(Res.row (some ⟨b,0,none⟩) n c T sz css').holds (Sort.grow (Sort.putRow e (Sort.ahead κ.w m) b 0 D) os):=by
    have:(Sort.grow (Sort.putRow e (Sort.ahead κ.w m) b 0 D) os).heap[b]?=(Sort.putRow e (Sort.ahead κ.w m) b 0 D).heap[b]?:=hold b hb2
    unfold Res.holds at hh ⊢
    show (Res.row (some ⟨b,0,none⟩) n c T sz css').says (Sort.grow (Sort.putRow e (Sort.ahead κ.w m) b 0 D) os).heap[b]?
    rw [this];exact hh
  obtain ⟨i3,k3⟩:=t1.1.grow (r':=Res.row (some ⟨b,0,none⟩) n c T sz css') (w':=Sort.grow (Sort.putRow e (Sort.ahead κ.w m) b 0 D) os) ⟨rfl,rfl,rfl,by simp [Sort.grow],fun i h _=>hold i h⟩ (.inr (.inl rfl)) hh2 (sJ hh2) (Nat.le_refl _)
  exact ⟨i3,t1.2.trans k3⟩
end
theorem rV {α:Type} {lt:α→α→Bool} (l:List α):(gj lt l).length=l.length:=eW.length_eq
theorem le_grow {κ κ':Kr} (h:Le [] κ κ'):∃ q os',κ'.w=Sort.grow (κ.w.drewN q) os':=by
 refine ⟨κ'.w.drawn - κ.w.drawn,κ'.w.heap.extract κ.w.heap.size κ'.w.heap.size,?_⟩
 have hz:=h.kle.size
 have hd:=h.drawn rfl
 have e1:κ'.w.heap=κ.w.heap++κ'.w.heap.extract κ.w.heap.size κ'.w.heap.size:=by
  apply Array.ext_getElem?
  intro i
  rcases Nat.lt_or_ge i κ.w.heap.size with hi | hi
  ·rw [Array.getElem?_append_left hi];exact h.same i hi (by simp)
  rw [Array.getElem?_append_right hi,Array.getElem?_extract]
  split
  ·congr 1;omega
  rw [Array.getElem?_eq_none (by omega)]
 cases hw:κ'.w with
 | mk heap tape drawn os output =>
  have h2:=h.tape;have h3:=h.os;have h4:=h.output
  rw [hw] at e1 h2 h3 h4 hd
  simp only at e1 h2 h3 h4 hd
  simp only [Sort.grow,World.drewN]
  subst h2 h3 h4
  rw [← e1]
  congr 1;omega
theorem mV {γ:Type} [Inhabited γ] (enc:γ→List Value) (k:Nat) (hk:∀ x,(enc x).length=k):∀ L:List γ,(List.range (L.length*k)).map (fun t=>(enc L[t / k]!)[t % k]!)=(L.map enc).flatten
 | []=>by simp
 | x::xs=>by
  have ih:=mV enc k hk xs
  rcases Nat.eq_zero_or_pos k with h0 | h0
  ·subst h0
   have:∀ M:List γ,(M.map enc).flatten=[]:=fun M=>by
    rw [List.flatten_eq_nil_iff];intro l hl;obtain ⟨y,_,rfl⟩:=List.mem_map.1 hl;exact List.eq_nil_of_length_eq_zero (hk y)
   rw [this];simp
  rw [List.length_cons,Nat.add_mul,Nat.one_mul,Nat.add_comm,List.range_add,List.map_append,List.map_cons,List.flatten_cons,← ih,List.map_map]
  congr 1
  ·apply List.ext_getElem
   ·simp [hk]
   intro i h1 h2
   have hi:i<k:=by simpa using h1
   simp [Nat.div_eq_of_lt hi,Nat.mod_eq_of_lt hi,getElem!_pos,h2]
  apply List.map_congr_left
  intro t _
  simp only [Function.comp,Nat.add_div_left _ h0,Nat.add_mod_left]
  rfl
theorem l6 {γ:Type} [Inhabited γ] (enc:γ→List Value) (k:Nat) (hk:∀ x,(enc x).length=k) (d:Array γ):(Sort.flatK enc k d).toList.map id=(d.toList.map enc).flatten:=by
 rw [List.map_id,← mV enc k hk]
 simp only [Sort.flatK,Array.toList_map,Array.toList_range,Array.length_toList]
 apply List.map_congr_left
 intro t _
 congr 2
 simp [getElem!_def]
section
variable {α:Type} {enc:α→List PV} {encV:α→List Value}
theorem po {κ:Kr} (hinv:∀ x ds,Rps κ (enc x) ds→ds=encV x):∀ {xs:List α} {dss:List (List Value)},Rpss κ (xs.map enc) dss→dss=xs.map encV
 | [],_,h=>h.nil_inv
 | x::xs,_,h=>by
  obtain ⟨d,ds,rfl,h1,h2⟩:=h.cons_inv
  rw [po hinv h2,hinv _ _ h1];rfl
theorem kH {κ:Kr} (hmk:∀ x,Rps κ (enc x) (encV x)):∀ {xs:List α},Rpss κ (xs.map enc) (xs.map encV)
 | []=>.nil
 | x::xs=>.cons (hmk x) (kH hmk)
theorem callSF [Inhabited α] {f g T k:Nat} {ρs:Shelf.Ren} (L:SlLaysF0.n6 Tryz.prog ρs) (hf:ρs.f 6=f) (fOk:FnOk f) (gOk:FnOk g) (aE:∀ w,(isAgg (ρs.t 24)).run Tryz.prog w=.ok true w) (zE:∀ w,(Go.sizeOf (ρs.t 24)).run Tryz.prog w=.ok k w)
    (hk:∀ x,(encV x).length=k) (h1:∀ x,∀ v∈encV x,v.oneCell'=true) (hinv:∀ κ x ds,Rps κ (enc x) ds→ds=encV x) (hmk:∀ κ x,Rps κ (enc x) (encV x)) (cf:α→α→Int) (hO:Sort.SWO (ltOf cf)) (hT:∀ x y,ltOf cf x y=false→ltOf cf y x=false→x=y)
    (hcmp:∀ x y,PF g [.agg (enc x),.agg (enc y)] (pI (cf x y))) {p0:List α} {a:Option Addr} {n c:Nat}:PCall f [.v (.slice a n c),.fn g []] [PRes.row a n c T k (List.map enc p0)] (fun pv ρ'=>pv=.tup []∧ρ'=[PRes.row a n c T k (List.map enc (gj (ltOf cf) p0))]):=fun κ args ρ gk ha hr=>by
  subst hf
  obtain ⟨v,ws,rfl,ha1,ha2⟩:=ha.cons_inv
  obtain ⟨v2,ws2,rfl,ha3,ha4⟩:=ha2.cons_inv
  rw [ha4.nil_inv,ha1.val]
  have hv2:v2=.func (.func g) #[] #[]:=by
    cases ha3 with
    | fn h=>rw [h.nil_inv]
  subst hv2
  obtain ⟨r0,l',rfl,hr1,hr2⟩:=hr.cons_inv
  have:=hr2.nil_inv;subst this
  refine ⟨fOk,fun hi=>?_⟩
  have hn1:∀ l:List α,∀ cs∈l.map encV,cs.length=k:=fun l cs hcs=>by obtain ⟨q,_,rfl⟩:=List.mem_map.1 hcs;exact hk q
  cases hr1 with
  | row hb ho hc =>
    have hd:=po (hinv κ) hc;subst hd
    have how:=hi.own _ (List.mem_cons_self)
    cases a with
    | none =>
      obtain ⟨rfl,rfl,h3⟩:=how
      have hp:p0=[]:=List.map_eq_nil_iff.1 h3
      subst hp
      refine (AnyF.slices_SortFunc_none L none 0 _ κ.w).mono fun e w' ⟨h1,h2⟩=>?_
      subst h1 h2
      exact ⟨_,_,κ,rfl,rfl,hi,.tup [],_,.tup .nil,.cons (.row hb ho (by exact .nil)) .nil,rfl,rfl⟩
    | some ad =>
      obtain ⟨q1,h2,h3,h4,h5,cur,h6,h7,h8⟩:=how
      obtain ⟨b,off,sp⟩:=ad
      injection q1 with h1a h1b h1c
      subst h1b h1c
      have hblk:b<κ.w.heap.size:=(hi.blk _ (List.mem_cons_self) b rfl).1
      have hn:n=p0.toArray.size:=by rw [← h2];simp
      have hz:(Sort.flatK encV k p0.toArray).size=n*k:=by rw [Sort.size_flatK,← hn]
      have hft:(Sort.flatK encV k p0.toArray).toList=cur.toList.take (n*k):=by
        rw [h8,← l6 encV k hk,List.map_id]
      have hH:Sort.HoldsK encV k κ.w b 0 p0.toArray:=by
        intro j hj
        have hj2:j<n*k:=by rw [← hz];exact hj
        have hj3:(Sort.flatK encV k p0.toArray)[j]?=cur[j]?:=by
          rw [← Array.getElem?_toList,hft,List.getElem?_take,if_pos hj2,Array.getElem?_toList]
        constructor
        · simp only [World.cell?,h6,Option.isSome_none,Bool.false_eq_true,if_false,Nat.zero_add]
          rw [← hj3,Array.getElem?_eq_getElem hj,getElem!_pos _ j hj];rfl
        simp [World.frozen?,h6]
      have hcl:CmpLays Tryz.prog g #[] encV k cf b 0 p0.toArray.size κ.w:=fun m os dk hs x y=>by
        obtain ⟨i1,k1⟩:=l3 (m:=m) (os:=os) (e:=id) (D:=Sort.flatK encV k dk) (css':=dk.toList.map encV) hi (l6 encV k hk dk) (by rw [List.length_map,Array.length_toList,hs,hn]) (hn1 _)
        have hc2:=hcmp x y ⟨_,κ.S⟩ [.agg (encV x).toArray,.agg (encV y).toArray] (gk.mono k1) (.cons (.agg (h1 x) (hmk _ x)) (.cons (.agg (h1 y) (hmk _ y)) .nil))
        refine (hc2.2 ⟨Le.refl _ _,i1.fin,by simp,by simp,List.Pairwise.nil⟩).mono fun e w' ⟨v,ρ',κ',g1,g2,g3,g4⟩=>?_
        obtain ⟨q,os',hq⟩:=le_grow g3.le
        subst g1 g2
        exact ⟨by rw [g4.2.val],q,os',hq⟩
      rw [hn]
      refine (AnyQ.slices_SortFunc_total L k aE zE encV hk h1 cf hO g #[] b 0 c p0.toArray κ.w (fun args w=>fJ gOk args w) hcl hH hblk (by rw [← hn];unfold maxLen at h5;omega) hT).mono fun e w' ⟨k1,m,os,k2⟩=>?_
      have hso:(p0.toArray.toList.mergeSort fun x y => !(ltOf cf) y x)=gj (ltOf cf) p0:=by
        refine kF (lt:=ltOf cf) hT ?_ (jN hO.trans hO.ntrans hO.irrefl p0) ((List.mergeSort_perm _ _).trans eW.symm)
        have h:=List.pairwise_mergeSort (le:=fun x y:α => !(ltOf cf) y x) (fun a b c h1 h2=>by
          simp only [Bool.not_eq_true'] at h1 h2 ⊢;exact hO.ntrans _ _ _ h2 h1) (fun a b=>by
          cases e1:ltOf cf b a
          · simp
          cases e2:ltOf cf a b
          · simp
          have:=hO.trans _ _ _ e1 e2;rw [hO.irrefl] at this;cases this) p0
        exact h.imp fun {a b} hab=>by simpa using hab
      rw [hso] at k2
      subst k1 k2
      obtain ⟨i1,i2⟩:=l3 (m:=m) (os:=os) (e:=id) (css':=(gj (ltOf cf) p0).map encV) (D:=Sort.flatK encV k (gj (ltOf cf) p0).toArray) hi (l6 encV k hk _) (by rw [List.length_map,rV];rw [← h2];simp) (hn1 _)
      exact ⟨_,_,⟨_,κ.S⟩,rfl,rfl,i1,.tup [],_,.tup .nil,.cons (.row hb (by intro cs hcs;obtain ⟨q,_,rfl⟩:=List.mem_map.1 hcs;exact h1 q) (kH (hmk _))) .nil,rfl,by rw [← hn]⟩
end
end SX
end Go.Proofs.YthbphcbhedmnoaaGreatDoor
namespace Go.Proofs
open Go.Shelf
end Go.Proofs
namespace Go.Proofs.YthbphcbhedmnoaaGreatDoor
namespace SX
open Go
theorem cmpI (a b:Int):cy a b=some (if a<b then -1 else if b<a then 1 else 0):=by
 unfold cy dZ
 simp only [bne_self_eq_false,fH,js]
 by_cases h:a<b
 ·rw [det h,if_pos h];rfl
 rw [rk h,if_neg h]
 by_cases h2:b<a
 ·rw [det h2,if_pos h2];rfl
 rw [rk h2,if_neg h2];rfl
theorem cmpOr2 (a b:Int):f5 [a,b]=some (if a=0 then b else a):=by
 unfold f5
 refine (mT (l:=[a,b]) (by simp) (fun _ x=>cond (x != 0) (some (.inr x)) none) (.inl ()) (fun k hk=>?_) (by rw [rU];rfl)).trans ?_
 ·rw [dlt hk,eA,bnd (eH hk),mS hk (by simp)]
  cases ([a,b][k] != 0) <;> rfl
 rw [lV (fun x:Int=>x != 0) (fun x=>(Sum.inr x:Unit⊕Int))]
 by_cases ha:a=0
 ·subst ha
  by_cases hb:b=0
  ·subst hb;rfl
  simp [hb]
 simp [ha]
end SX
end Go.Proofs.YthbphcbhedmnoaaGreatDoor
namespace Go.Proofs
open Go.Shelf
end Go.Proofs
namespace Go.Proofs.YthbphcbhedmnoaaGreatDoor
namespace SX
open Go
def ltS (a b:ByteArray):Bool:=Op.bytesLess a.toList b.toList
end SX
namespace SX
open Go
attribute [local irreducible] PWL PWC PWD POpL POpQ PEv PGuardIs PSub PPick PUpd PSplice PFill PLit PF PFV PCall FOk dg ce ew eM dG ex Cov PHolds bs idx app mk gd lb nz mn oF sub gt dW oA jc dK cg gF dX IntKind.wrap Int.tmod Int.tdiv Op.bytesLess strOfNums
def e7 (p0:(List Zd)):Option Int:=cond (decide (300<(p0.length:Int))) (some (8:Int)) ((bs (S:=Int) (T:=(Unit)⊕(_)) (fun v2=>cond (decide (v2<(p0.length:Int))) ((idx p0 v2).bind fun m6=>cond ((((((decide (m6.ID<1))||(decide (1000000<m6.ID)))||(decide (m6.Kind<1)))||(decide (6<m6.Kind)))||(decide (m6.Company<0)))||(decide (999<m6.Company))) (some (.inr (.inr (2:Int)))) ((gd (decide (0<v2)) (idx p0 (IntKind.i64.wrap (v2 - 1)))).bind fun m9=>cond ((decide (0<v2))&&(decide (m6.ID≤m9.ID))) (some (.inr (.inr (9:Int)))) ((eo m6.Prefix).bind fun x11=>cond (x11 == 0) (some (.inr (.inr (1:Int)))) (cond (decide (20<(m6.Origins.length:Int))) (some (.inr (.inr (8:Int)))) ((dP m6.Origins).bind fun x14=>cond (!x14) (some (.inr (.inr (1:Int)))) (cond (((((decide (m6.From<0))||(decide (m6.To≤m6.From)))||(decide (36525<m6.To)))||(decide (m6.Registered<(-1))))||(decide (m6.From<m6.Registered))) (some (.inr (.inr (2:Int)))) ((fc m6.Duty).bind fun x17=>cond (x17 != 0) (some (.inr (.inr x17))) (some (.inl (IntKind.i64.wrap (v2+1))))))))))) (some (.inr (.inl ())))) FUEL 0).bind fun q=>match q with | .inl _=>some (0:Int) | .inr e=>some e)
theorem iV {p0:(List Zd)} {r:Int}  (h:e7 p0=some r):PF 66 [pL Zd.enc p0] (pI r):=by
 unfold e7 at h
 refine bC ?_
 refine aL Tryz.func66 rfl Tryz.ntmps66 Tryz.results66 rfl (ag (bi [2] (by kernel_rfl) (dE (am [6,7] [(8,pB (decide (300<(p0.length:Int))))] (by kernel_rfl) (cZ rfl h (fun hc1 h=>?_) fun hc1 h=>?_)))))
 ·refine ag ?_
  refine ar [(2,pI 8)] (by kernel_rfl) (gb ?_)
  exact zz r h rfl
 refine ap ?_
 refine dE (ar [(9,pL Zd.enc p0),(10,pI (p0.length:Int)),(11,pI 0)] (by kernel_rfl) (az (ae h fun q4 hq4 h=>?_)))
 refine aQ (Y:=Unit×Unit) (fun (_,_)=>[]) (fun (_,_)=>[]) (fun (_,_)=>q4=Sum.inl ()) ?_ ?_
 ·refine aA ?_
  refine bf (Y:=Unit) (S:=Int) _ hq4 (fun _ v2=>[(0,pL Zd.enc p0),(9,pL Zd.enc p0),(10,pI (p0.length:Int)),(11,pI v2)]) (fun _ v2=>[]) () (kO rfl) be ?_
  rintro _ v2 o τ hb3;(try dsimp only at hb3);dsimp only [aT]
  refine ag (ar [(12,pB (decide (v2<(p0.length:Int))))] (by kernel_rfl) (bx (jg rfl hb3 (fun hc5 hb3=>?_) fun hc5 hb3=>?_)))
  ·refine ap ?_
   refine bx (aA (ag (ae hb3 fun m6 hm6 hb3=>aj (br 3 [] [14] [(13,pI v2),(15,.agg (bA m6))] (gu 1 Zd.enc hm6 bV) (by kernel_rfl) (aK rfl (an (cs:=[pI 0,pI 0,pS ByteArray.empty,pN,pI 0,pI 0,pI 0,pI 0,pI 0,pI 0,pI 0,pB false,pI 0,pB false,pI 0]) rfl rfl rfl rfl (fun b7=>bp 1 [(3,pI v2)] (by kernel_rfl) (bF rfl rfl (ah (vs:=(bA m6)) rfl rfl rfl rfl rfl aY (aD (aD (aD (aD (aD (aD zl9)))))) (aH (dE (bc [0,0,0,0,0,0] (rg 16 27) [(43,pB ((((((decide (m6.ID<1))||(decide (1000000<m6.ID)))||(decide (m6.Kind<1)))||(decide (6<m6.Kind)))||(decide (m6.Company<0)))||(decide (999<m6.Company))))] (by kernel_rfl) (cZ rfl hb3 (fun hc8 hb3=>?_) fun hc8 hb3=>?_)))))))))))))
   ·refine ag ?_
    refine ar [(2,pI 2)] (by kernel_rfl) (gb (aB (aU ?_)))
    refine bE hb3 (fun ht=>?_);subst ht
    refine aB (bz ?_)
    exact zz r h rfl
   refine ap ?_
   refine dE (cF (ρd:=[]) [(0,0),(1,0),(2,0),(3,0),(4,0),(5,0),(6,0),(7,0),(8,0),(9,0),(10,0),(11,0),(12,0)] _ (List.Perm.refl _) (by kernel_rfl) rfl (ae hb3 fun m9 hm9 hb3=>cL 13 [0] (rg 44 12) [(56,pB ((decide (0<v2))&&(decide (m6.ID≤m9.ID))))] (qX 8 Zd.enc (dU hm9) bV) (by kernel_rfl) (dv (cZ rfl hb3 (fun hc10 hb3=>?_) fun hc10 hb3=>?_))))
   ·refine ag ?_
    refine ar [(2,pI 9)] (by kernel_rfl) (gb (aB (aU ?_)))
    refine bE hb3 (fun ht=>?_);subst ht
    refine aB (bz ?_)
    exact zz r h rfl
   refine ap ?_
   refine dE (ae hb3 fun x11 hx11 hb3=>aG [0] [57,58,59] [(60,pB (x11 == 0))] (cu 2 (eN hx11) bV) (by kernel_rfl) (cZ rfl hb3 (fun hc12 hb3=>?_) fun hc12 hb3=>?_))
   ·refine ag ?_
    refine ar [(2,pI 1)] (by kernel_rfl) (gb (aB (aU ?_)))
    refine bE hb3 (fun ht=>?_);subst ht
    refine aB (bz ?_)
    exact zz r h rfl
   refine ap ?_
   refine dE (bc [0] [61,62,63] [(64,pB (decide (20<(m6.Origins.length:Int))))] (by kernel_rfl) (cZ rfl hb3 (fun hc13 hb3=>?_) fun hc13 hb3=>?_))
   ·refine ag ?_
    refine ar [(2,pI 8)] (by kernel_rfl) (gb (aB (aU ?_)))
    refine bE hb3 (fun ht=>?_);subst ht
    refine aB (bz ?_)
    exact zz r h rfl
   refine ap ?_
   refine dE (ae hb3 fun x14 hx14 hb3=>aG [0] [65,66,67] [(68,pB (!x14))] (cu 2 (gJ hx14) bV) (by kernel_rfl) (cZ rfl hb3 (fun hc15 hb3=>?_) fun hc15 hb3=>?_))
   ·refine ag ?_
    refine ar [(2,pI 1)] (by kernel_rfl) (gb (aB (aU ?_)))
    refine bE hb3 (fun ht=>?_);subst ht
    refine aB (bz ?_)
    exact zz r h rfl
   refine ap ?_
   refine dE (bc [0,0,0,0,0,0,0] (rg 69 26) [(95,pB (((((decide (m6.From<0))||(decide (m6.To≤m6.From)))||(decide (36525<m6.To)))||(decide (m6.Registered<(-1))))||(decide (m6.From<m6.Registered))))] (by kernel_rfl) (cZ rfl hb3 (fun hc16 hb3=>?_) fun hc16 hb3=>?_))
   ·refine ag ?_
    refine ar [(2,pI 2)] (by kernel_rfl) (gb (aB (aU ?_)))
    refine bE hb3 (fun ht=>?_);subst ht
    refine aB (bz ?_)
    exact zz r h rfl
   refine ap ?_
   refine bx (ae hb3 fun x17 hx17 hb3=>aG [0] [96,97,98] [(5,pI x17)] (cu 2 (gK hx17) bV) (by kernel_rfl) (bx (am [99] [(100,pB (x17 != 0))] (by kernel_rfl) (cZ rfl hb3 (fun hc18 hb3=>?_) fun hc18 hb3=>?_))))
   ·refine ag ?_
    refine am [101] [(2,pI x17)] (by kernel_rfl) (ec (aB (aU ?_)))
    refine bE hb3 (fun ht=>?_);subst ht
    refine aB (bz ?_)
    exact zz r h rfl
   refine ap ?_
   refine av (az (am [102] [(11,pI (IntKind.i64.wrap (v2+1)))] (by kernel_rfl) ?_))
   exact bN hb3 () (kO rfl) be
  refine bk ?_
  refine aV (aM hb3 (fun ht=>aR rfl ?_))
  exact aq ((),()) bX be ht.symm
 rintro ⟨_,_⟩ τ hz;(try dsimp only at hz);subst q4;(try dsimp only at h);dsimp only [aT]
 refine ag (ar [(2,pI 0)] (by kernel_rfl) (ec ?_))
 exact zz r h rfl
def fE (p0:Zp):Option Int:=(eo p0.Code).bind fun x2=>(gd (!(x2 != 8)) (cx p0.Origin)).bind fun x3=>cond ((x2 != 8)||(!x3)) (some (1:Int)) (cond ((((((((((decide (p0.Company<0))||(decide (999<p0.Company)))||(decide (p0.Day<0)))||(decide (36524<p0.Day)))||(decide (p0.Quantity<0)))||(decide (1000000000<p0.Quantity)))||(decide (p0.Value<0)))||(decide (1000000000000<p0.Value)))||(decide (p0.Granted<0)))||(decide (p0.Quantity<p0.Granted))) (some (2:Int)) (some (0:Int)))
theorem jr {p0:Zp} {r:Int}  (h:fE p0=some r):PF 67 [.agg (eb p0)] (pI r):=by
 unfold fE at h
 refine bC ?_
 refine aL Tryz.func67 rfl Tryz.ntmps67 Tryz.results67 rfl (ag (aj (aK rfl (bY (cs:=(eb p0)) rfl rfl (fun b1=>cb [2] (by kernel_rfl) (dE (ae h fun x2 hx2 h=>ae h fun x3 hx3 h=>aG [0,0] (rg 3 9) [(12,pB ((x2 != 8)||(!x3)))] (cu 2 (eN hx2) (i0 7 (fun hc=>dO (dU hx3 hc)) bV)) (by kernel_rfl) (cZ rfl h (fun hc4 h=>?_) fun hc4 h=>?_))))))))
 ·refine ag ?_
  refine ar [(2,pI 1)] (by kernel_rfl) (gb ?_)
  exact zz r h rfl
 refine ap ?_
 refine dE (bc [0,0,0,0,0,0,0,0,0,0,0] (rg 13 49) [(62,pB ((((((((((decide (p0.Company<0))||(decide (999<p0.Company)))||(decide (p0.Day<0)))||(decide (36524<p0.Day)))||(decide (p0.Quantity<0)))||(decide (1000000000<p0.Quantity)))||(decide (p0.Value<0)))||(decide (1000000000000<p0.Value)))||(decide (p0.Granted<0)))||(decide (p0.Quantity<p0.Granted))))] (by kernel_rfl) (cZ rfl h (fun hc5 h=>?_) fun hc5 h=>?_))
 ·refine ag ?_
  refine ar [(2,pI 2)] (by kernel_rfl) (gb ?_)
  exact zz r h rfl
 refine ap ?_
 refine bx (ar [(2,pI 0)] (by kernel_rfl) (ec ?_))
 exact zz r h rfl
def fe (p0:(List Zd)) (p1:Zp):Option (Zn×Int):=(e7 p0).bind fun x3=>cond (x3 != 0) (some ((⟨[],0⟩:Zn),x3)) ((fE p1).bind fun x5=>cond (x5 != 0) (some ((⟨[],0⟩:Zn),x5)) ((el p0 p1.Code p1.Origin p1.Company p1.Day).bind fun x7=>(bD x7 (fun y8=>fy y8)).bind fun x9=>cond (!x9) (some ((⟨[],0⟩:Zn),(7:Int))) ((f9 p1).bind fun x11=>cond (x11.2 != 0) (some ((⟨[],0⟩:Zn),x11.2)) ((bs (S:=Int×(List Za)×Int) (T:=((List Za)×Int)⊕(_)) (fun (v14,l16,v19)=>cond (decide (v14<(x11.1.length:Int))) (Option.bind (α:=((List Za)×Int)⊕_) ((idx x11.1 v14).bind fun m35=>(eZ x7 m35).bind fun x37=>cond (x37.2.2 != 0) (some (.inr (.inr (.inr ((⟨[],0⟩:Zn),x37.2.2))))) (cond x37.2.1 ((app 40 l16 [x37.1]).bind fun l43=>some (.inl (l43,(IntKind.i64.wrap (v19+x37.1.Amount))))) (some (.inl (l16,v19))))) (fun q=>match q with | .inl (l32,v33)=>some (.inl ((IntKind.i64.wrap (v14+1)),l32,v33)) | .inr e=>some e)) (some (.inr (.inl (l16,v19))))) FUEL (0,([]:List Za),0)).bind fun q=>match q with | .inl (l23,v24)=>cond (decide (1000000000000<v24)) (some ((⟨[],0⟩:Zn),(3:Int))) (some ((⟨l23,v24⟩:Zn),(0:Int))) | .inr e=>some e))))
theorem gN {p0:(List Zd)} {p1:Zp} {r:(Zn×Int)}  (h:fe p0 p1=some r):PF 36 [pL Zd.enc p0,.agg (eb p1)] (.tup [.agg [pL Za.enc r.1.Lines,pI r.1.Total],pI r.2]):=by
 unfold fe at h
 refine bC ?_
 refine aL Tryz.func36 rfl Tryz.ntmps36 Tryz.results36 rfl (ag (aj (aK rfl (bY (cs:=(eb p1)) rfl rfl (fun b1=>aK rfl (an (cs:=[pN,pI 0]) rfl rfl rfl rfl (fun b2=>cb [5] (by kernel_rfl) (dE (ae h fun x3 hx3 h=>aG [] [17,18] [(6,pI x3)] (cu 1 (iV hx3) bV) (by kernel_rfl) (bx (am [19] [(20,pB (x3 != 0))] (by kernel_rfl) (cZ rfl h (fun hc4 h=>?_) fun hc4 h=>?_))))))))))))
 ·refine ag ?_
  refine aj (bp 2 [(21,.agg [pN,pI 0]),(22,pI x3)] (by kernel_rfl) (bF rfl rfl (ah (vs:=[pN,pI 0]) rfl rfl rfl rfl rfl aY oN (bB [(5,pI x3)] (by kernel_rfl) (az (gG (k:=0) (b:=b2) rfl aY (cV (aU ?_))))))))
  obtain rfl:=osi h
  exact bg (dh (eU rfl gc rfl) (aZ rfl)) be ⟨rfl,rfl⟩
 refine ap ?_
 refine dE (ae h fun x5 hx5 h=>aG [1] [23,24] [(7,pI x5)] (cu 1 (jr hx5) bV) (by kernel_rfl) (bx (am [25] [(26,pB (x5 != 0))] (by kernel_rfl) (cZ rfl h (fun hc6 h=>?_) fun hc6 h=>?_))))
 ·refine ag ?_
  refine aj (bp 2 [(27,.agg [pN,pI 0]),(28,pI x5)] (by kernel_rfl) (bF rfl rfl (ah (vs:=[pN,pI 0]) rfl rfl rfl rfl rfl aY oN (bB [(5,pI x5)] (by kernel_rfl) (az (gG (k:=0) (b:=b2) rfl aY (cV (aU ?_))))))))
  obtain rfl:=osi h
  exact bg (dh (eU rfl gc rfl) (aZ rfl)) be ⟨rfl,rfl⟩
 refine ap ?_
 refine bx (ae h fun x7 hx7 h=>aG [1,1,1,1] (rg 29 10) [(8,pL Zd.enc x7)] (cu 9 (ie hx7) bV) (by kernel_rfl) (dE (ae h fun x9 hx9 h=>aG [] [39,40] [(41,pB (!x9))] (cu 1 (dc (fun hr=>im (jk hr)) hx9) bV) (by kernel_rfl) (cZ rfl h (fun hc10 h=>?_) fun hc10 h=>?_))))
 ·refine ag ?_
  refine aj (bp 1 [(42,.agg [pN,pI 0])] (by kernel_rfl) (bF rfl rfl (ah (vs:=[pN,pI 0]) rfl rfl rfl rfl rfl aY oN (bB [(5,pI 7)] (by kernel_rfl) (az (gG (k:=0) (b:=b2) rfl aY (cV (aU ?_))))))))
  obtain rfl:=osi h
  exact bg (dh (eU rfl gc rfl) (aZ rfl)) be ⟨rfl,rfl⟩
 refine ap ?_
 refine bx (ae h fun x11 hx11 h=>aG [1] [44,45,43,46,47] [(9,pL Zf.enc x11.1),(10,pI x11.2)] (cu 1 (jV hx11) bV) (by kernel_rfl) (dE (am [48] [(49,pB (x11.2 != 0))] (by kernel_rfl) (cZ rfl h (fun hc12 h=>?_) fun hc12 h=>?_))))
 ·refine ag ?_
  refine aj (bp 2 [(50,.agg [pN,pI 0]),(51,pI x11.2)] (by kernel_rfl) (bF rfl rfl (ah (vs:=[pN,pI 0]) rfl rfl rfl rfl rfl aY oN (bB [(5,pI x11.2)] (by kernel_rfl) (az (gG (k:=0) (b:=b2) rfl aY (cV (aU ?_))))))))
  obtain rfl:=osi h
  exact bg (dh (eU rfl gc rfl) (aZ rfl)) be ⟨rfl,rfl⟩
 refine ap ?_
 refine bx (aj (aK rfl (an (cs:=[pN,pI 0]) rfl rfl rfl rfl (fun b13=>aH (dE (ar [(52,pL Zf.enc x11.1),(53,pI (x11.1.length:Int)),(54,pI 0)] (by kernel_rfl) (az (da 37 5 (ae h fun q26 hq26 h=>?_)))))))))
 refine aQ (Y:=(Option Addr×Nat)×((List Za)×Int)) (fun ((a21,c22),(l23,v24))=>[(4,pP b2 0),(11,pP b13 0)]) (fun ((a21,c22),(l23,v24))=>[PRes.b b13 25 [pO a21 l23.length c22,pI v24],PRes.b b2 25 [pN,pI 0],PRes.row a21 l23.length c22 37 5 (List.map Za.enc l23)]) (fun ((a21,c22),(l23,v24))=>q26=Sum.inl (l23,v24)) ?_ ?_
 ·refine aA ?_
  refine bf (Y:=Option Addr×Nat) (S:=Int×(List Za)×Int) _ hq26 (fun (a17,c18) (v14,l16,v19)=>[(4,pP b2 0),(8,pL Zd.enc x7),(11,pP b13 0),(52,pL Zf.enc x11.1),(53,pI (x11.1.length:Int)),(54,pI v14)]) (fun (a17,c18) (v14,l16,v19)=>[PRes.b b13 25 [pO a17 l16.length c18,pI v19],PRes.b b2 25 [pN,pI 0],PRes.row a17 l16.length c18 37 5 (List.map Za.enc l16)]) (none,0) (tS rfl) (bv (aC aF) (bv (aC aF) fK)) ?_
  rintro ⟨a17,c18⟩ ⟨v14,l16,v19⟩ o τ hb25;(try dsimp only at hb25);dsimp only [aT]
  refine ag (ar [(55,pB (decide (v14<(x11.1.length:Int))))] (by kernel_rfl) (bx (jg rfl hb25 (fun hc28 hb25=>?_) fun hc28 hb25=>?_)))
  ·refine ap ?_
   refine bx (ae hb25 fun q34 hq34 hb25=>?_)
   refine aQ (Y:=(Option Addr×Nat)×((List Za)×Int)) (fun ((a30,c31),(l32,v33))=>[(4,pP b2 0),(8,pL Zd.enc x7),(11,pP b13 0),(52,pL Zf.enc x11.1),(53,pI (x11.1.length:Int)),(54,pI v14)]) (fun ((a30,c31),(l32,v33))=>[PRes.b b13 25 [pO a30 l32.length c31,pI v33],PRes.b b2 25 [pN,pI 0],PRes.row a30 l32.length c31 37 5 (List.map Za.enc l32)]) (fun ((a30,c31),(l32,v33))=>q34=Sum.inl (l32,v33)) ?_ ?_
   ·skip
    refine aA (ag (ae hq34 fun m35 hm35 hq34=>aj (br 2 [] [56] [(57,.agg [pI m35.quantity,pI m35.value,pL eI m35.kinds])] (gu 0 Zf.enc hm35 bV) (by kernel_rfl) (aK rfl (an (cs:=[pI 0,pI 0,pN]) rfl rfl rfl rfl (fun b36=>bF rfl rfl (ah (vs:=[pI m35.quantity,pI m35.value,pL eI m35.kinds]) rfl rfl rfl rfl rfl aY zl3 (aH (bx (ae hq34 fun x37 hx37 hq34=>aj (br 7 [0] [59,60,61,58] [(62,.agg (bU x37.1)),(63,pB x37.2.1),(64,pI x37.2.2)] (cu 2 (iU hx37) bV) (by kernel_rfl) (aK rfl (an (cs:=[pI 0,pI 0,pI 0,pI 0,pI 0]) rfl rfl rfl rfl (fun b38=>bF rfl rfl (ah (vs:=(bU x37.1)) rfl rfl rfl rfl rfl aY zl5 (bB [(15,pB x37.2.1),(16,pI x37.2.2)] (by kernel_rfl) (dE (am [65] [(66,pB (x37.2.2 != 0))] (by kernel_rfl) (cZ rfl hq34 (fun hc39 hq34=>?_) fun hc39 hq34=>?_)))))))))))))))))))
    ·refine ag ?_
     refine aj (bp 2 [(67,.agg [pN,pI 0]),(68,pI x37.2.2)] (by kernel_rfl) (bF rfl rfl (ah (vs:=[pN,pI 0]) rfl rfl rfl rfl rfl (ba (ba (ba aY))) oN (bB [(5,pI x37.2.2)] (by kernel_rfl) (az (gG (k:=0) (b:=b2) rfl (ba (ba (ba aY))) (cV (aU (aB (bz ?_))))))))))
     obtain rfl:=osi hq34
     refine bE hb25 (fun ht=>?_);subst ht
     refine aB (bz ?_)
     obtain rfl:=osi h
     exact bg (dh (eU rfl zm3 rfl) (aZ rfl)) be ⟨rfl,rfl⟩
    refine ap ?_
    refine bx (ar [(69,pB x37.2.1)] (by kernel_rfl) (cZ rfl hq34 (fun hc40 hq34=>?_) fun hc40 hq34=>?_))
    ·refine ag ?_
     refine aj (dn 3 [2,0] [70] [(71,pO a17 l16.length c18),(72,.agg (bU x37.1))] (by kernel_rfl) (aK rfl (aS rfl rfl rfl rfl rfl (dA rfl dH) rfl rfl rfl rfl (fun b41=>ae hq34 fun l43 hl43 hq34=>?_))))
     refine aK rfl (dY (enc:=Za.enc) rfl rfl rfl rfl rfl rfl rfl rfl rfl gc (by exact aC (aC (aC (aC (aC aF))))) hl43 (fun a44 c45=>?_))
     refine bp 1 [(75,pP b13 0)] (by kernel_rfl) (bF rfl rfl (ah (vs:=[pO a44 l43.length c45]) rfl rfl rfl rfl rfl (ba (ba (ba (ba aY)))) rL (aH (az (aj (dn 6 [4,2] [76,77,78,79] [(80,pI (IntKind.i64.wrap (v19+x37.1.Amount))),(81,pP b13 1)] (by kernel_rfl) (bF rfl rfl (ah (vs:=[pI (IntKind.i64.wrap (v19+x37.1.Amount))]) rfl rfl rfl rfl rfl (ba (ba (ba (ba aY)))) (aI rL) (aH (av ?_))))))))))
     obtain rfl:=osi hq34
     exact aq ((a44,c45),(l43,(IntKind.i64.wrap (v19+x37.1.Amount)))) (tS rfl) (bv (aC (aC (aC (aC aF)))) (bv (aC (aC (aC (aC aF)))) fK)) rfl
    refine ap ?_
    refine av ?_
    obtain rfl:=osi hq34
    exact aq ((a17,c18),(l16,v19)) (tS rfl) (bv (aC (aC aF)) (bv (aC (aC aF)) (bv (aC (aC aF)) be))) rfl
   rintro ⟨⟨a30,c31⟩,⟨l32,v33⟩⟩ τ hz;(try dsimp only at hz);subst q34;(try dsimp only at hb25);dsimp only [aT]
   refine am [82] [(54,pI (IntKind.i64.wrap (v14+1)))] (by kernel_rfl) ?_
   exact bN hb25 (a30,c31) (tS rfl) zs3
  refine bk ?_
  refine aV (aM hb25 (fun ht=>aR rfl ?_))
  exact aq ((a17,c18),(l16,v19)) (oM rfl) zs3 ht.symm
 rintro ⟨⟨a21,c22⟩,⟨l23,v24⟩⟩ τ hz;(try dsimp only at hz);subst q26;(try dsimp only at h);dsimp only [aT]
 refine ag (ag (bc [0] [83,84] [(85,pB (decide (1000000000000<v24)))] (by kernel_rfl) (cZ rfl h (fun hc47 h=>?_) fun hc47 h=>?_)))
 ·refine ag ?_
  refine aj (bp 1 [(86,.agg [pN,pI 0])] (by kernel_rfl) (bF rfl rfl (ah (vs:=[pN,pI 0]) rfl rfl rfl rfl rfl (ba aY) oN (bB [(5,pI 3)] (by kernel_rfl) (az (gG (k:=0) (b:=b2) rfl (ba aY) (cV (aU ?_))))))))
  obtain rfl:=osi h
  exact bg (dh (eU rfl rK rfl) (aZ rfl)) be ⟨rfl,rfl⟩
 refine ap ?_
 refine bx (aj ?_)
 refine nx (css:=List.map Za.enc l23) (a:=a21) (by exact aC (aC aF)) ?_
 refine mH (k:=0) (enc:=Za.enc) (xs:=l23) (b:=b13) (a:=a21) rfl gc (ba aY) (iz 1 [1] [(87,.agg [pL Za.enc l23,pI v24])] (by kernel_rfl) (bF rfl rfl (ah (vs:=[pL Za.enc l23,pI v24]) rfl rfl rfl rfl rfl (ba (ba aY)) oN (bB [(5,pI 0)] (by kernel_rfl) (ec ?_)))))
 obtain rfl:=osi h
 exact bg (dh (eU rfl zm2 rfl) (aZ rfl)) be ⟨rfl,rfl⟩
def ia (p0:(List Zd)) (p1:Zp):Option (Int×Int):=(fe p0 p1).bind fun x2=>some (x2.1.Total,x2.2)
theorem kT {p0:(List Zd)} {p1:Zp} {r:(Int×Int)}  (h:ia p0 p1=some r):PF 37 [pL Zd.enc p0,.agg (eb p1)] (.tup [pI r.1,pI r.2]):=by
 unfold ia at h
 refine bC ?_
 refine aL Tryz.func37 rfl Tryz.ntmps37 Tryz.results37 rfl (ag (aj (aK rfl (bY (cs:=(eb p1)) rfl rfl (fun b1=>cb [4,5] (by kernel_rfl) (bx (ae h fun x2 hx2 h=>aj (br 6 [0] [9,10,11,8] [(12,.agg [pL Za.enc x2.1.Lines,pI x2.1.Total]),(13,pI x2.2)] (cu 2 (gN hx2) bV) (by kernel_rfl) (aK rfl (an (cs:=[pN,pI 0]) rfl rfl rfl rfl (fun b3=>bF rfl rfl (ah (vs:=[pL Za.enc x2.1.Lines,pI x2.1.Total]) rfl rfl rfl rfl rfl aY oN (bB [(7,pI x2.2)] (by kernel_rfl) (bx (bc [0] [14,15,16] [(4,pI x2.1.Total),(5,pI x2.2)] (by kernel_rfl) (ec ?_))))))))))))))))
 obtain rfl:=osi h
 exact bg (dh (aZ rfl) (aZ rfl)) be ⟨rfl,rfl⟩
def gn  : Option Bool:=(fe [(⟨1,1,(⟨#[57,52]⟩:ByteArray),[],0,0,100,(-1),(⟨50000,0,0,false,0,false,0⟩:Zo)⟩:Zd),(⟨2,3,(⟨#[57,52]⟩:ByteArray),[],0,0,100,(-1),(⟨0,0,0,false,0,false,0⟩:Zo)⟩:Zd)] (⟨(⟨#[57,52,48,49,51,48,48,48]⟩:ByteArray),(⟨#[65,65]⟩:ByteArray),false,0,0,10,10000,0⟩:Zp)).bind fun x4=>(ia [(⟨1,1,(⟨#[57,52]⟩:ByteArray),[],0,0,100,(-1),(⟨50000,0,0,false,0,false,0⟩:Zo)⟩:Zd),(⟨2,3,(⟨#[57,52]⟩:ByteArray),[],0,0,100,(-1),(⟨0,0,0,false,0,false,0⟩:Zo)⟩:Zd)] (⟨(⟨#[57,52,48,49,51,48,48,48]⟩:ByteArray),(⟨#[65,65]⟩:ByteArray),true,0,0,10,10000,0⟩:Zp)).bind fun x6=>some (((((x4.2 == 0)&&(x6.2 == 0))&&(x4.1.Total == 500))&&((x4.1.Lines.length:Int) == 1))&&(x6.1 == 0))
theorem l8  {r:Bool}  (h:gn  = some r):PF 12 [] (pB r):=by
 unfold gn at h
 refine bC ?_
 refine aL Tryz.func12 rfl Tryz.ntmps12 Tryz.results12 rfl (ag (bi [0] (by kernel_rfl) (bx (aj (cj 3 [7] [(8,.agg [pI 1,pI 1,pS (⟨#[57,52]⟩:ByteArray),pN,pI 0,pI 0,pI 100,pI (-1),pI 50000,pI 0,pI 0,pB false,pI 0,pB false,pI 0]),(9,.agg [pI 2,pI 3,pS (⟨#[57,52]⟩:ByteArray),pN,pI 0,pI 0,pI 100,pI (-1),pI 0,pI 0,pI 0,pB false,pI 0,pB false,pI 0])] (by kernel_rfl) (lI 8 3 rfl rfl (lI 9 3 rfl rfl (aK rfl (aS rfl rfl rfl rfl rfl (dA rfl (dA rfl dH)) rfl rfl rfl rfl (fun b1=>bB [(1,pO (some ⟨b1,0,none⟩) 2 2)] (by kernel_rfl) (bx (aj (bp 1 [(11,.agg [pS (⟨#[57,52,48,49,51,48,48,48]⟩:ByteArray),pS (⟨#[65,65]⟩:ByteArray),pB false,pI 0,pI 0,pI 10,pI 10000,pI 0])] (by kernel_rfl) (aK rfl (an (cs:=[pS ByteArray.empty,pS ByteArray.empty,pB false,pI 0,pI 0,pI 0,pI 0,pI 0]) rfl rfl rfl rfl (fun b3=>bF rfl rfl (ah (vs:=[pS (⟨#[57,52,48,49,51,48,48,48]⟩:ByteArray),pS (⟨#[65,65]⟩:ByteArray),pB false,pI 0,pI 0,pI 10,pI 10000,pI 0]) rfl rfl rfl rfl rfl aY zl8 (aH (bx (aj (iz 2 [0] [(13,pO (some ⟨b1,0,none⟩) 2 2),(14,.agg [pS (⟨#[57,52,48,49,51,48,48,48]⟩:ByteArray),pS (⟨#[65,65]⟩:ByteArray),pB false,pI 0,pI 0,pI 10,pI 10000,pI 0])] (by kernel_rfl) ?_)))))))))))))))))))))
 refine jD (enc:=Zd.enc) (xs:=[(⟨1,1,(⟨#[57,52]⟩:ByteArray),[],0,0,100,(-1),(⟨50000,0,0,false,0,false,0⟩:Zo)⟩:Zd),(⟨2,3,(⟨#[57,52]⟩:ByteArray),[],0,0,100,(-1),(⟨0,0,0,false,0,false,0⟩:Zo)⟩:Zd)]) 13 rfl (by exact aC aF) ?_
 refine ae h fun x4 hx4 h=>br 4 [] [15,12] [(16,.agg [pL Za.enc x4.1.Lines,pI x4.1.Total]),(17,pI x4.2)] (cu 0 (gN hx4) bV) (by kernel_rfl) (aK rfl (an (cs:=[pN,pI 0]) rfl rfl rfl rfl (fun b5=>bF rfl rfl (ah (vs:=[pL Za.enc x4.1.Lines,pI x4.1.Total]) rfl rfl rfl rfl rfl aY oN (bB [(4,pI x4.2)] (by kernel_rfl) (bx (aj (bp 1 [(18,pP b3 2)] (by kernel_rfl) (bF rfl rfl (ah (vs:=[pB true]) rfl rfl rfl rfl rfl (ba (ba aY)) (aI (aI rL)) (aH (bx (aj (iz 2 [2] [(20,pO (some ⟨b1,0,none⟩) 2 2),(21,.agg [pS (⟨#[57,52,48,49,51,48,48,48]⟩:ByteArray),pS (⟨#[65,65]⟩:ByteArray),pB true,pI 0,pI 0,pI 10,pI 10000,pI 0])] (by kernel_rfl) (oz (enc:=Zd.enc) (xs:=[(⟨1,1,(⟨#[57,52]⟩:ByteArray),[],0,0,100,(-1),(⟨50000,0,0,false,0,false,0⟩:Zo)⟩:Zd),(⟨2,3,(⟨#[57,52]⟩:ByteArray),[],0,0,100,(-1),(⟨0,0,0,false,0,false,0⟩:Zo)⟩:Zd)]) 20 rfl rK (ae h fun x6 hx6 h=>fM [] [22,19,23,24] [(5,pI x6.1),(6,pI x6.2)] (cu 0 (kT hx6) bV) (by kernel_rfl) (bx (bc [0,0] (rg 25 21) [(0,pB (((((x4.2 == 0)&&(x6.2 == 0))&&(x4.1.Total == 500))&&((x4.1.Lines.length:Int) == 1))&&(x6.1 == 0)))] (by kernel_rfl) (ec ?_)))))))))))))))))))
 exact zz r h rfl
end SX
namespace SX
open Go
attribute [local irreducible] PWL PWC PWD POpL POpQ PEv PGuardIs PSub PPick PUpd PSplice PFill PLit PF PFV PCall FOk dg ce ew eM dG ex Cov PHolds bs idx app mk gd lb nz mn oF sub gt dW oA jc dK cg gF dX IntKind.wrap Int.tmod Int.tdiv Op.bytesLess strOfNums
end SX
namespace SX
open Go
section
variable {β:Base} {κ κ2:Kr} {l l2:List Res}
end
section
variable {o:Oper} {σ:PEnv} {ρ ρ2:List PRes} {f:Nat} {ts:Array Nat} {x:Operand} {l:List Operand} {pargs:List PV} {α:Type} {enc:α→List PV} {xs:List α} {a:Option Addr} {m c T sz:Nat} {KV:PV→List PRes→Prop}
end
attribute [local irreducible] PWL PWC PWD POpL POpQ PEv PGuardIs PSub PPick PUpd PSplice PFill PLit PF PFV PCall FOk dg ce ew eM dG ex Cov PHolds bs idx app mk gd lb nz mn oF sub gt dW oA jc dK cg gF dX IntKind.wrap Int.tmod Int.tdiv Op.bytesLess strOfNums
end SX
namespace SX
open Go
theorem rW {S T:Type} {body:S→Option (S⊕T)} (P:S→Prop) (μ:S→Nat) (Q:T→Prop) (step:∀ s,P s→(∃ s',body s=some (.inl s')∧P s'∧μ s'<μ s)∨∃ t,body s=some (.inr t)∧Q t):∀ (N:Nat) (s:S),P s→μ s<N→∃ t,bs body N s=some t∧Q t:=by
 intro N
 induction N with
 | zero=>intro s _ h;exact absurd h (Nat.not_lt_zero _)
 | succ N ih =>
  intro s hp hm
  rw [hQ]
  rcases step s hp with ⟨s',h1,h2,h3⟩ | ⟨t,h1,h2⟩
  ·rw [h1];exact ih s' h2 (by omega)
  rw [h1];exact ⟨t,rfl,h2⟩
def letter (c:UInt8):Bool:=decide (97≤c.toNat)&&decide (c.toNat≤122)
def wordB (s:ByteArray):Bool:=decide (1≤s.size)&&decide (s.size≤12)&&s.data.toList.all letter
def ascB (lt:ByteArray→ByteArray→Bool):List ByteArray→Bool
 | []=>true
 | [_]=>true
 | a::b::l=>lt a b&&ascB lt (b::l)
def StrsOk (l:List ByteArray):Prop:=l.length≤140737488355328∧∀ s∈l,s.size≤140737488355328
mutual
def dep:Zl→Nat
 | ⟨_,_,_,_,_,_,l⟩=>1+tF l
def tF:List Zl→Nat
 | []=>0
 | a::l=>max (dep a) (tF l)
end
mutual
def cnt:Zl→Nat
 | ⟨_,_,_,_,_,_,l⟩=>1+tG l
def tG:List Zl→Nat
 | []=>0
 | a::l=>cnt a+tG l
end
mutual
theorem dep_cnt:∀ r:Zl,dep r≤cnt r
 | ⟨_,_,_,_,_,_,l⟩=>by rw [dep,cnt];have:=mW l;omega
theorem mW:∀ l:List Zl,tF l≤tG l
 | []=>by rw [tF,tG];exact Nat.le_refl _
 | a::l=>by rw [tF,tG];have h1:=dep_cnt a;have h2:=mW l;omega
end
inductive ROk:Zl→Prop
 | mk (r:Zl) (h1:StrsOk r.Except) (h2:r.Name.size≤140737488355328) (h3:r.Args.length≤140737488355328) (h4:∀ a∈r.Args,ROk a):ROk r
theorem ROk.len {r:Zl} (h:ROk r):r.Args.length≤140737488355328:=by cases h;assumption
def lev (s:ByteArray):Bool := !(lY s == 0)
def codesB (l:List ByteArray):Bool:=decide (l.length≤6)&&(l.all lev&&ascB ltS l)
def mil (n:Int):Bool:=decide (0≤n)&&decide (n≤1000000)
def plainB (r:Zl):Bool:=(r.Kind == 2||(r.Digits == 0&&r.Except.isEmpty&&r.Tolerance == 0))&&(r.Kind == 3||r.Limit == 0)&&(r.Kind == 4||decide (r.Name=⟨#[]⟩))&&(r.Kind == 5||r.Kind == 6||r.Args.isEmpty)
def leafB (r:Zl):Bool:=cond (r.Kind == 1) true (cond (r.Kind == 2) ((r.Digits == 2||r.Digits == 4||r.Digits == 6)&&codesB r.Except&&mil r.Tolerance) (cond (r.Kind == 3) (mil r.Limit) (cond (r.Kind == 4) (wordB r.Name) false)))
mutual
def ruleB:Zl→Bool
 | ⟨k,d,e,t,m,n,l⟩=>plainB ⟨k,d,e,t,m,n,l⟩&&cond (k == 5||k == 6) (decide (2≤l.length)&&decide (l.length≤6)&&tH k l) (leafB ⟨k,d,e,t,m,n,l⟩)
def tH (k:Int):List Zl→Bool
 | []=>true
 | a::l=>(!(a.Kind == k)&&ruleB a)&&tH k l
end

structure RFOk (x:Zw):Prop where
 pre:x.Prefix.size≤140737488355328
 rule:ROk x.Rule
 deep:dep x.Rule≤1000
structure AOk (a:Zu):Prop where
 par:StrsOk a.Parties
 len:a.Rules.length≤140737488355328
 rules:∀ x∈a.Rules,RFOk x
structure ASOk (l:List Zu):Prop where
 len:l.length≤140737488355328
 all:∀ a∈l,AOk a
def Y {α:Type} (x:Option α) (P:α→Prop):Prop:=∃ a,x=some a∧P a
section
variable {α β S T:Type} {x y:Option α} {P P':α→Prop} {Q:β→Prop} {f:α→Option β} {a:α} {c:Bool}
theorem Y.bind (h:Y x P) (k:∀ a,P a→Y (f a) Q):Y (x.bind f) Q:=by
 obtain ⟨a,h1,h2⟩:=h;rw [h1];exact k a h2
theorem Y.ret (h:P a):Y (some a) P:=⟨a,rfl,h⟩
theorem Y.mono (h:Y x P) (k:∀ a,P a→P' a):Y x P':=by obtain ⟨a,h1,h2⟩:=h;exact ⟨a,h1,k a h2⟩
theorem Y.cond (h:c=true→Y x P) (k:c=false→Y y P):Y (cond c x y) P:=by cases c;exact k rfl;exact h rfl
theorem Y.eq {r:α} (h:x=some r) (k:Y (f r) Q):Y (x.bind f) Q:=by rw [h];exact k
theorem Y.loop {body:S→Option (S⊕T)} {R:T→Prop} {s:S} (I:S→Prop) (μ:S→Nat) (h0:I s) (hm:μ s≤1267650600228229401496703205000) (step:∀ s,I s→Y (body s) (fun o=>match o with | .inl s'=>I s'∧μ s'<μ s | .inr t=>R t)):Y (bs body FUEL s) R:=by
 obtain ⟨t,h1,h2⟩:=rW (body:=body) I μ R (fun s hs=>by
  obtain ⟨o,k1,k2⟩:=step s hs
  cases o with
  | inl s'=>exact .inl ⟨s',k1,k2⟩
  | inr t=>exact .inr ⟨t,k1,k2⟩) FUEL s h0 (pg hm)
 exact ⟨t,h1,h2⟩
theorem Y.idx {xs:List α} {i:Int} {n:Nat} (h:i=(n:Int)) (hn:n<xs.length) (k:Y (f xs[n]) Q):Y ((idx xs i).bind f) Q:=by subst h;rw [eH hn];exact k
end
theorem rX (a n:Int) (h1:1≤n) (h2:n≤4611686018427387904):∃ r,du a n=some r∧0≤r∧r<n:=by
 have hl:=Int.tmod_lt_of_pos a (show 0<n by omega)
 have hl2:=Int.tmod_lt_of_pos (-a) (show 0<n by omega)
 rw [Int.neg_tmod] at hl2
 unfold du nz lb
 rw [if_neg (by omega),pb (by omega) (by omega)]
 exact ⟨_,rfl,Int.tmod_nonneg _ (by omega),Int.tmod_lt_of_pos _ (by omega)⟩
theorem tI (a n:Int) (h1:1≤n) (h2:n≤4611686018427387904):Y (du a n) (fun r=>0≤r∧r<n):=rX a n h1 h2
structure Good (r:Zl) (m:Nat):Prop where
 ok:ROk r
 valid:ruleB r=true
 size:cnt r≤m
end SX
end Go.Proofs.YthbphcbhedmnoaaGreatDoor
namespace Go.Proofs
open Go.Shelf
def Tryz.lSA_ren:Go.Shelf.Ren:=⟨fun | 6=>31 | 15=>64 | 14=>63 | 28=>101 | 29=>102 | 20=>93 | 21=>94 | 22=>95 | 23=>96 | 24=>97 | 25=>98 | 26=>99 | 27=>100 | 46=>131 | 47=>132 | 48=>133 | 49=>134 | 50=>135 | 57=>172 | n=>n,fun | 22=>81 | 24=>87 | 25=>90 | 3=>3 | 39=>144 | 0=>0 | 53=>203 | 55=>122 | 4=>4 | 46=>197 | 45=>196 | 50=>141 | 5=>5 | 9=>9 | 66=>229 | 70=>233 | 76=>274 | 77=>275 | n=>n,fun | n=>n⟩
theorem Tryz.lSA:Go.Proofs.SlLaysF0.n6 Tryz.prog Tryz.lSA_ren:={
 mixed:=by kernel_rfl
 f6:=⟨Tryz.f31.name,by decide,Tryz.func31.trans (congrArg some (by kernel_rfl))⟩
 f14:=⟨Tryz.f63.name,by decide,Tryz.func63.trans (congrArg some (by kernel_rfl))⟩
 f15:=Tryz.func64.trans (congrArg some (by kernel_rfl))
 f20:=⟨Tryz.f93.name,by decide,Tryz.func93.trans (congrArg some (by kernel_rfl))⟩
 f21:=⟨Tryz.f94.name,by decide,Tryz.func94.trans (congrArg some (by kernel_rfl))⟩
 f22:=⟨Tryz.f95.name,by decide,Tryz.func95.trans (congrArg some (by kernel_rfl))⟩
 f23:=⟨Tryz.f96.name,by decide,Tryz.func96.trans (congrArg some (by kernel_rfl))⟩
 f24:=⟨Tryz.f97.name,by decide,Tryz.func97.trans (congrArg some (by kernel_rfl))⟩
 f25:=⟨Tryz.f98.name,by decide,Tryz.func98.trans (congrArg some (by kernel_rfl))⟩
 f26:=⟨Tryz.f99.name,by decide,Tryz.func99.trans (congrArg some (by kernel_rfl))⟩
 f27:=⟨Tryz.f100.name,by decide,Tryz.func100.trans (congrArg some (by kernel_rfl))⟩
 f28:=Tryz.func101.trans (congrArg some (by kernel_rfl))
 f29:=Tryz.func102.trans (congrArg some (by kernel_rfl))
 f46:=⟨Tryz.f131.name,by decide,Tryz.func131.trans (congrArg some (by kernel_rfl))⟩
 f47:=Tryz.func132.trans (congrArg some (by kernel_rfl))
 f48:=Tryz.func133.trans (congrArg some (by kernel_rfl))
 f49:=⟨Tryz.f134.name,by decide,Tryz.func134.trans (congrArg some (by kernel_rfl))⟩
 f50:=⟨Tryz.f135.name,by decide,Tryz.func135.trans (congrArg some (by kernel_rfl))⟩
 f57:=⟨Tryz.f172.name,by decide,Tryz.func172.trans (congrArg some (by kernel_rfl))⟩
 t0:=Tryz.underlying0
 a0:=Tryz.isAgg0
 z0:=Tryz.sizeOf0
 v0:=Tryz.zeroValue0
 t3:=Tryz.underlying3
 a3:=Tryz.isAgg3
 z3:=Tryz.sizeOf3
 v3:=Tryz.zeroValue3
 t4:=Tryz.underlying4
 a4:=Tryz.isAgg4
 z4:=Tryz.sizeOf4
 v4:=Tryz.zeroValue4
 t5:=Tryz.underlying5
 a5:=Tryz.isAgg5
 z5:=Tryz.sizeOf5
 v5:=Tryz.zeroValue5
 t9:=Tryz.underlying9
 a9:=Tryz.isAgg9
 z9:=Tryz.sizeOf9
 v9:=Tryz.zeroValue9
 t22:=Tryz.underlying81
 a22:=Tryz.isAgg81
 z22:=Tryz.sizeOf81
 v22:=Tryz.zeroValue81
 t25:=Tryz.underlying90
 a25:=Tryz.isAgg90
 z25:=Tryz.sizeOf90
 v25:=Tryz.zeroValue90
 t39:=Tryz.underlying144
 a39:=Tryz.isAgg144
 z39:=Tryz.sizeOf144
 v39:=Tryz.zeroValue144
 t45:=Tryz.underlying196
 a45:=Tryz.isAgg196
 z45:=Tryz.sizeOf196
 v45:=Tryz.zeroValue196
 t46:=Tryz.underlying197
 a46:=Tryz.isAgg197
 z46:=Tryz.sizeOf197
 v46:=Tryz.zeroValue197
 t50:=Tryz.underlying141
 a50:=Tryz.isAgg141
 z50:=Tryz.sizeOf141
 v50:=Tryz.zeroValue141
 t53:=Tryz.underlying203
 a53:=Tryz.isAgg203
 z53:=Tryz.sizeOf203
 v53:=Tryz.zeroValue203
 t55:=Tryz.underlying122
 a55:=Tryz.isAgg122
 z55:=Tryz.sizeOf122
 v55:=Tryz.zeroValue122
 t66:=Tryz.underlying229
 a66:=Tryz.isAgg229
 z66:=Tryz.sizeOf229
 v66:=Tryz.zeroValue229
 t70:=Tryz.underlying233
 a70:=Tryz.isAgg233
 z70:=Tryz.sizeOf233
 v70:=Tryz.zeroValue233
 t76:=Tryz.underlying274
 a76:=Tryz.isAgg274
 z76:=Tryz.sizeOf274
 v76:=Tryz.zeroValue274
 t77:=Tryz.underlying275
 a77:=Tryz.isAgg275
 z77:=Tryz.sizeOf275
 v77:=Tryz.zeroValue275 }
end Go.Proofs
namespace Go.Proofs.YthbphcbhedmnoaaGreatDoor
namespace SX
open Go
def bI (x y:Zc):Bool:=decide (x.kind<y.kind)||(decide (x.kind=y.kind)&&decide (x.measure<y.measure))
def pq (x y:Zc):Int:=if (if x.kind<y.kind then (-1:Int) else if y.kind<x.kind then 1 else 0)=0 then (if x.measure<y.measure then -1 else if y.measure<x.measure then 1 else 0) else (if x.kind<y.kind then -1 else if y.kind<x.kind then 1 else 0)
theorem ma:ltOf pq=bI:=by
 funext x y
 unfold ltOf pq bI
 rcases Int.lt_trichotomy x.kind y.kind with h | h | h
 ·rw [if_pos h];simp [h]
 ·simp only [h,Int.lt_irrefl,if_false,if_true,decide_false,decide_true,Bool.false_or,Bool.true_and]
  rcases Int.lt_trichotomy x.measure y.measure with h2 | h2 | h2
  ·rw [if_pos h2];simp [h2]
  ·simp [h2]
  rw [if_neg (by omega),if_pos h2];simp;omega
 have h1:¬ x.kind<y.kind:=by omega
 have h3:¬ x.kind=y.kind:=by omega
 simp [h,h1,h3]
theorem cmpAcc (x y:Zc):di x y=some (pq x y):=by
 unfold di pq
 rw [cmpI,cmpI]
 simp only [fH,cmpOr2]
theorem mX (x y:Zc):bI x y=true↔x.kind<y.kind∨(x.kind=y.kind∧x.measure<y.measure):=by simp [bI]
theorem kr (x y:Zc):bI x y=false↔¬ (x.kind<y.kind∨(x.kind=y.kind∧x.measure<y.measure)):=by rw [← mX];simp
theorem gO (x:Zc):bI x x=false:=by rw [kr];omega
theorem jW (x y z:Zc):bI x y=true→bI y z=true→bI x z=true:=by simp only [mX];omega
theorem rY (x y z:Zc):bI x y=false→bI y z=false→bI x z=false:=by simp only [kr];omega
theorem ku (x y:Zc):bI x y=false→bI y x=false→x=y:=by
 simp only [kr];intro h1 h2
 cases x;cases y;simp at h1 h2 ⊢;omega
def q8 (l:List Zc):Option (List Zc):=some (gj bI l)
theorem qv {p0 r:List Zc} (h:q8 p0=some r) {a:Option Addr} {n c:Nat}:PCall 31 [.v (.slice a n c),.fn 32 []] [PRes.row a n c 87 2 (List.map Zc.enc p0)] (fun pv ρ'=>pv=.tup []∧ρ'=[PRes.row a n c 87 2 (List.map Zc.enc r)]):=by
 obtain rfl:=Option.some.inj h
 rw [← ma]
 exact callSF Tryz.lSA rfl (fnk Tryz.func31 rfl) (fnk Tryz.func32 rfl) Tryz.isAgg87 Tryz.sizeOf87 (encV:=fun x=>[.int .i64 x.kind,.int .i64 x.measure]) (fun _=>rfl)
  (fun x v hv=>by simp at hv;rcases hv with rfl | rfl <;> rfl) (fun κ x ds h=>by
   obtain ⟨v,ws,rfl,h1,h2⟩:=h.cons_inv
   obtain ⟨v2,ws2,rfl,h3,h4⟩:=h2.cons_inv
   rw [h1.val,h3.val,h4.nil_inv]) (fun κ x=>.cons (.v rfl) (.cons (.v rfl) .nil)) pq
  (by rw [ma];exact ⟨gO,jW,rY⟩) (by rw [ma];exact ku) (fun x y=>hU (cmpAcc x y))
section
variable {o:Oper} {c:Bool} {x y:Operand}
theorem rZ {σ:Env} {ρ:List Res} {κ:Kr} {t t' kt et:Nat} {mo:Option Nat} (ho:o.op=.binOp .eql t x y t') (hu:cE t=some (.map kt et)) (hx:Ev σ c x (.map mo)) (hy:Ev σ c y (.map none)):OpQ c o σ ρ κ (.bool mo.isNone):=fun hc w _=>by
 simp only [execOp,ho,hx hc,hy hc,Sem.run_bind]
 simp [eqGuard,run_eql_map_nil w t kt et mo (bd hu)]
theorem mY {σ:PEnv} {ρ:List PRes} {t t' kt et:Nat} {mo:Option Nat} (ho:o.op=.binOp .eql t x y t') (hu:cE t=some (.map kt et)) (hx:PEv σ c x (.v (.map mo))) (hy:PEv σ c y (.v (.map none))):POpQ c o σ ρ (.v (.bool mo.isNone)):=fun _ _ _ _ hs _=>⟨_,fun _=>.v rfl,rZ ho hu (hs.ve hx) (hs.ve hy)⟩
theorem qw {n:Nat} {z:Code} {K:Exit→PPost} {σ:PEnv} {ρ:List PRes} {KT VT:Type} {ek:KT→Value} {vv:VT→PV} {xs:List (KT×VT)} (hm:PRes.mp none (dw ek vv xs)∈ρ) (h:xs=[]→PWC n z K σ ρ):PWC n z K σ ρ:=fun β κ σ' ρ' g hs hr hi=>by
 obtain ⟨es,clock,h1,h2,h3,h4⟩:=jL hm κ ρ' hr
 have e:=h2 rfl
 subst e
 refine h ?_ β κ σ' ρ' g hs hr hi
 cases xs with
 | nil=>rfl
 | cons q l =>
  generalize hz:dw ek vv (q::l)=z at h4
  cases h4
  exact absurd hz (by simp [dw])
end
attribute [local irreducible] PWL PWC PWD POpL POpQ PEv PGuardIs PSub PPick PUpd PSplice PFill PLit PF PFV PCall FOk dg ce ew eM dG ex Cov PHolds bs idx app mk gd lb nz mn oF sub gt dW oA jc dK cg gF dX IntKind.wrap Int.tmod Int.tdiv Op.bytesLess strOfNums
def iC (ks:List Zc) (ms:List (Zc×Int)) (k:Zc) (n:Int):Option (List Zc×List (Zc×Int)):=Option.bind (cond (!(bP ms k).isSome) (app 16 ks [k]) (some ks)) (fun l=>some (l,jJ ms k (IntKind.i64.wrap ((bP ms k).getD 0+n))))
theorem tJ {b:Nat} {a:Option Addr} {c:Nat} {mo:Option Nat} {ks:List Zc} {ms:List (Zc×Int)} {k:Zc} {n:Int} {r:List Zc×List (Zc×Int)} (h:iC ks ms k n=some r):PCall 30 [pP b 0,.agg [pI k.kind,pI k.measure],pI n] [PRes.b b 84 [pO a ks.length c,.v (.map mo)],PRes.row a ks.length c 87 2 (ks.map Zc.enc),PRes.mp mo (dw Zc.key vI ms)] (fun pv ρ'=>pv=.tup []∧∃ a' c' b',ρ'=[PRes.b b 84 [pO a' r.1.length c',.v (.map (some b'))],PRes.row a' r.1.length c' 87 2 (r.1.map Zc.enc),PRes.mp (some b') (dw Zc.key vI r.2)]):=by
 unfold iC at h
 refine aL Tryz.func30 rfl Tryz.ntmps30 Tryz.results30 rfl ?_
 refine ag ?_
 refine aj ?_
 refine gh rfl rfl rfl (bY (cs:=[pI k.kind,pI k.measure]) rfl rfl (fun b4=>?_))
 refine aH ?_
 (repeat (first | apply av | apply az))
 refine ag ?_
 refine aQ (Y:=Nat) (fun _=>[(0,pP b 0),(2,pI n),(4,pP b4 0)]) (fun mb=>[PRes.b b 84 [pO a ks.length c,.v (.map (some mb))],PRes.b b4 87 [pI k.kind,pI k.measure],PRes.row a ks.length c 87 2 (ks.map Zc.enc),PRes.mp (some mb) (dw Zc.key vI ms)]) (fun _=>True) ?_ ?_
 ·cases mo with
  | none =>
   refine qw (ek:=Zc.key) (vv:=vI) (xs:=ms) (by (repeat (first | exact List.Mem.head _ | apply List.Mem.tail))) (fun e=>?_)
   subst e
   refine ag ?_
   refine aj ?_
   refine br 4 [1] [8,9,10] [(11,.v (.map none))] bV (by kernel_rfl) ?_
   refine bK rfl rfl rfl (mY (mo:=none) rfl rfl (.p rfl) (.p rfl)) ?_
   refine aH ?_
   (repeat (first | apply av | apply az))
   refine dV (p:=true) rfl (fun _=>?_) (fun h=>nomatch h)
   refine aj ?_
   refine br 1 [] [] [(13,pP b 0)] bV (by kernel_rfl) ?_
   refine gh rfl rfl rfl (o9 Zc.key vI rfl (fun mb=>?_))
   refine br 2 [] [15] [(16,pP b 1)] bV (by kernel_rfl) ?_
   refine bF rfl rfl (ah (vs:=[.v (.map (some mb))]) rfl rfl rfl rfl rfl (by (repeat (first | exact aY | apply ba))) (by (repeat (first | exact aJ | apply aD | apply aI))) ?_)
   refine aH ?_
   exact aq mb (by (repeat (first | exact bX | apply bq rfl))) (by (repeat (first | exact be | (apply bv;(focus (repeat (first | exact aF | apply aC))))))) trivial
  | some mb =>
   refine ag ?_
   refine aj ?_
   refine br 4 [1] [8,9,10] [(11,.v (.map (some mb)))] bV (by kernel_rfl) ?_
   refine bK rfl rfl rfl (mY (mo:=some mb) rfl rfl (.p rfl) (.p rfl)) ?_
   refine aH ?_
   (repeat (first | apply av | apply az))
   refine dV (p:=false) rfl (fun h=>nomatch h) (fun _=>?_)
   refine ap ?_
   exact aq mb (by (repeat (first | exact bX | apply bq rfl))) (by (repeat (first | exact be | (apply bv;(focus (repeat (first | exact aF | apply aC))))))) trivial
 rintro mb τ _;dsimp only [aT]
 refine ae h ?_;clear h;intro l hl h
 refine ag ?_
 refine ag ?_
 refine cF (ρd:=[PRes.mp _ _]) [(0,0),(1,0),(2,0),(3,0),(4,0),(5,1),(6,0),(7,0),(8,0),(9,0),(10,0)] _ (by (repeat (first | exact List.Perm.refl _ | (refine bM (by (repeat (first | exact aF | apply aC))) ?_)))) (by kernel_rfl) rfl ?_
 refine cL 5 [0,1] [18,19,20] [(21,.v (.map (some mb))),(22,.agg [pI k.kind,pI k.measure])] bV (by kernel_rfl) ?_
 refine iZ rfl rfl rfl (kN (show POpQ _ _ _ _ (.tup [vI ((bP ms k).getD 0),.v (.bool (bP ms k).isSome)]) from o8 (xs:=ms) (k:=k) (ek:=Zc.key) (vv:=vI) (z0:=0) rfl rfl rfl (fun _=>.v rfl) Zc.kenc87 (.p rfl) (.p rfl) km (jL (by (repeat (first | exact List.Mem.head _ | apply List.Mem.tail))))) ?_)
 refine cL 5 [] [17,24,25] [(6,vI ((bP ms k).getD 0)),(7,pB (bP ms k).isSome)] bV (by kernel_rfl) ?_
 refine dv ?_
 (repeat (first | apply av | apply az))
 refine ag ?_
 refine aG [] [26] [(27,pB (!(bP ms k).isSome))] bV (by kernel_rfl) ?_
 (repeat (first | apply av | apply az))
 refine aQ (Y:=Option Addr×Nat) (fun _=>[(0,pP b 0),(2,pI n),(4,pP b4 0)]) (fun (a',c')=>[PRes.b b 84 [pO a' l.length c',.v (.map (some mb))],PRes.b b4 87 [pI k.kind,pI k.measure],PRes.row a' l.length c' 87 2 (l.map Zc.enc),PRes.mp (some mb) (dw Zc.key vI ms)]) (fun _=>True) ?_ ?_
 ·refine dV rfl (fun hc=>?_) (fun hc=>?_)
  ·replace hl:=j9 hc hl
   refine eV (ρd:=[PRes.b b _ _,PRes.row a _ _ _ _ _]) _ (by (repeat (first | exact List.Perm.refl _ | (refine bM (by (repeat (first | exact aF | apply aC))) ?_)))) ?_
   refine au 0 (by kernel_rfl) rfl rfl rfl rfl (bm (p:=pP b 0) rfl (.p rfl)) ?_
   refine au 1 (by kernel_rfl) rfl rfl rfl rfl (bm (p:=pP b 0) rfl (.p rfl)) ?_
   refine au 2 (by kernel_rfl) rfl rfl rfl rfl (fj rfl (.p rfl)) ?_
   refine au 3 (by kernel_rfl) rfl rfl rfl rfl (a8 rfl rfl rfl rfl rfl (.p rfl)) ?_
   refine au 5 (by kernel_rfl) rfl rfl rfl rfl (cC (p:=.agg [pI k.kind,pI k.measure]) rfl (.p rfl) (by (repeat (first | exact List.Mem.head _ | apply List.Mem.tail))) rfl) ?_
   refine aP 4 6 (by kernel_rfl) ?_ ?_
   ·skip
    refine af rfl rfl rfl rfl (kN (cC (p:=pO a ks.length c) rfl (.p rfl) (by (repeat (first | exact List.Mem.head _ | apply List.Mem.tail))) rfl) ?_)
    refine aa 6 (by kernel_rfl) ?_
    refine af rfl rfl rfl rfl (aS rfl rfl rfl rfl rfl (by (repeat (first | exact dH | apply dA rfl))) rfl rfl rfl rfl (fun bL=>?_))
    refine aa 7 (by kernel_rfl) ?_
    refine af rfl rfl rfl rfl (dY (enc:=Zc.enc) rfl rfl rfl rfl rfl rfl rfl rfl rfl (by (repeat (first | exact List.Mem.head _ | apply List.Mem.tail))) (by (repeat (first | exact aF | apply aC))) hl (fun a' c'=>?_))
    refine au 8 (by kernel_rfl) rfl rfl rfl rfl (fj rfl (.p rfl)) ?_
    refine au 9 (by kernel_rfl) rfl rfl rfl rfl (a8 rfl rfl rfl rfl rfl (.p rfl)) ?_
    refine aa 10 (by kernel_rfl) ?_
    refine ai rfl rfl rfl (ah (vs:=[pO a' l.length c']) rfl rfl rfl rfl rfl (by (repeat (first | exact aY | apply ba))) (by (repeat (first | exact aJ | apply aD | apply aI))) ?_)
    refine aw (by kernel_rfl) ?_
    exact aq (a',c') (by (repeat (first | exact bX | apply bq rfl))) (by (repeat (first | exact be | (apply bv;(focus (repeat (first | exact aF | apply aC))))))) trivial
   skip
   refine af rfl rfl rfl rfl (aS rfl rfl rfl rfl rfl (by (repeat (first | exact dH | apply dA rfl))) rfl rfl rfl rfl (fun bL=>?_))
   refine aa 4 (by kernel_rfl) ?_
   refine af rfl rfl rfl rfl (kN (cC (p:=pO a ks.length c) rfl (.p rfl) (by (repeat (first | exact List.Mem.head _ | apply List.Mem.tail))) rfl) ?_)
   refine aa 7 (by kernel_rfl) ?_
   refine af rfl rfl rfl rfl (dY (enc:=Zc.enc) rfl rfl rfl rfl rfl rfl rfl rfl rfl (by (repeat (first | exact List.Mem.head _ | apply List.Mem.tail))) (by (repeat (first | exact aF | apply aC))) hl (fun a' c'=>?_))
   refine au 8 (by kernel_rfl) rfl rfl rfl rfl (fj rfl (.p rfl)) ?_
   refine au 9 (by kernel_rfl) rfl rfl rfl rfl (a8 rfl rfl rfl rfl rfl (.p rfl)) ?_
   refine aa 10 (by kernel_rfl) ?_
   refine ai rfl rfl rfl (ah (vs:=[pO a' l.length c']) rfl rfl rfl rfl rfl (by (repeat (first | exact aY | apply ba))) (by (repeat (first | exact aJ | apply aD | apply aI))) ?_)
   refine aw (by kernel_rfl) ?_
   exact aq (a',c') (by (repeat (first | exact bX | apply bq rfl))) (by (repeat (first | exact be | (apply bv;(focus (repeat (first | exact aF | apply aC))))))) trivial
  replace hl:=ka hc hl
  obtain rfl:=Option.some.inj hl
  refine ap ?_
  exact aq (a,c) (by (repeat (first | exact bX | apply bq rfl))) (by (repeat (first | exact be | (apply bv;(focus (repeat (first | exact aF | apply aC))))))) trivial
 rintro ⟨a',c'⟩ τ _;dsimp only [aT]
 (try refine az ?_)
 refine eV (ρd:=[PRes.mp _ _]) _ (by (repeat (first | exact List.Perm.refl _ | (refine bM (by (repeat (first | exact aF | apply aC))) ?_)))) ?_
 refine au 0 (by kernel_rfl) rfl rfl rfl rfl (bm (p:=pP b 0) rfl (.p rfl)) ?_
 refine au 1 (by kernel_rfl) rfl rfl rfl rfl (fj rfl (.p rfl)) ?_
 refine au 2 (by kernel_rfl) rfl rfl rfl rfl (a8 rfl rfl rfl rfl rfl (.p rfl)) ?_
 refine au 3 (by kernel_rfl) rfl rfl rfl rfl (cC (p:=.v (.map (some mb))) rfl (.p rfl) (by (repeat (first | exact List.Mem.head _ | apply List.Mem.tail))) rfl) ?_
 refine au 4 (by kernel_rfl) rfl rfl rfl rfl (cC (p:=.agg [pI k.kind,pI k.measure]) rfl (.p rfl) (by (repeat (first | exact List.Mem.head _ | apply List.Mem.tail))) rfl) ?_
 refine au 6 (by kernel_rfl) rfl rfl rfl rfl (bm (p:=pI n) rfl (.p rfl)) ?_
 refine aP 5 8 (by kernel_rfl) ?_ ?_
 ·skip
  refine af rfl rfl rfl rfl (kN (show POpQ _ _ _ _ (vI ((bP ms k).getD 0)) from kj (xs:=ms) (k:=k) (ek:=Zc.key) (vv:=vI) (z0:=0) rfl rfl rfl (fun _=>.v rfl) Zc.kenc87 (.p rfl) (.p rfl) km (jL (by (repeat (first | exact List.Mem.head _ | apply List.Mem.tail))))) ?_)
  refine au 7 (by kernel_rfl) rfl rfl rfl rfl (fY rfl (.p rfl) (.p rfl) rfl) ?_
  refine aa 8 (by kernel_rfl) ?_
  refine af rfl rfl rfl rfl (kE (xs:=ms) (k:=k) (ek:=Zc.key) (vv:=vI) (z0:=0) rfl rfl rfl (fun _=>.v rfl) Zc.kenc87 rfl rfl km (by (repeat (first | exact aF | apply aC))) (fun nn=>?_))
  refine au 9 (by kernel_rfl) rfl rfl rfl rfl (hR (p:=.v (.int .i64 ((nn:Nat):Int))) rfl (.p rfl) rfl) ?_
  refine aa 10 (by kernel_rfl) ?_
  refine ai rfl rfl rfl (i4 (xs:=ms) (k:=k) (z0:=0) (v:=IntKind.i64.wrap ((bP ms k).getD 0+n)) (ek:=Zc.key) (vv:=vI) rfl rfl rfl rfl (by (repeat (first | exact aF | apply aC))) (.inr trivial) ?_)
  refine aw (by kernel_rfl) ?_
  obtain rfl:=Option.some.inj h
  exact iq (rfl:PRV [] _ _ (.tup [])) (by (repeat (first | exact be | (apply bv;(focus (repeat (first | exact aF | apply aC))))))) ⟨rfl,_,_,_,rfl⟩
 skip
 refine af rfl rfl rfl rfl (kE (xs:=ms) (k:=k) (ek:=Zc.key) (vv:=vI) (z0:=0) rfl rfl rfl (fun _=>.v rfl) Zc.kenc87 rfl rfl km (by (repeat (first | exact aF | apply aC))) (fun nn=>?_))
 refine au 9 (by kernel_rfl) rfl rfl rfl rfl (hR (p:=.v (.int .i64 ((nn:Nat):Int))) rfl (.p rfl) rfl) ?_
 refine aa 5 (by kernel_rfl) ?_
 refine af rfl rfl rfl rfl (kN (show POpQ _ _ _ _ (vI ((bP ms k).getD 0)) from pa (xs:=ms) (k:=k) (ek:=Zc.key) (vv:=vI) (z0:=0) rfl rfl rfl (fun _=>.v rfl) Zc.kenc87 (.p rfl) (.p rfl) km (by (repeat (first | exact List.Mem.head _ | apply List.Mem.tail)))) ?_)
 refine au 7 (by kernel_rfl) rfl rfl rfl rfl (fY rfl (.p rfl) (.p rfl) rfl) ?_
 refine aa 10 (by kernel_rfl) ?_
 refine ai rfl rfl rfl (i4 (xs:=ms) (k:=k) (z0:=0) (v:=IntKind.i64.wrap ((bP ms k).getD 0+n)) (ek:=Zc.key) (vv:=vI) rfl rfl rfl rfl (by (repeat (first | exact aF | apply aC))) (.inr trivial) ?_)
 refine aw (by kernel_rfl) ?_
 obtain rfl:=Option.some.inj h
 exact iq (rfl:PRV [] _ _ (.tup [])) (by (repeat (first | exact be | (apply bv;(focus (repeat (first | exact aF | apply aC))))))) ⟨rfl,_,_,_,rfl⟩
end SX
namespace SX
open Go
theorem Zg.nilmap {β:Base} {ρ:List Res} {κ:Kr} (h:Zg β ρ κ):Zg β (Res.mp none [] 0::ρ) κ :=
 ⟨h.le,h.fin,fun r hr=>by
  rcases List.mem_cons.1 hr with rfl | hr
  ·exact trivial
  ·exact h.own r hr,fun r hr=>by
  rcases List.mem_cons.1 hr with rfl | hr
  ·intro b hb;cases hb
  exact h.blk r hr,List.pairwise_cons.2 ⟨fun s _ b hb=>(by cases hb),h.nd⟩⟩
theorem qy {n:Nat} {z:Code} {K:Exit→PPost} {σ:PEnv} {ρ:List PRes} {KT VT:Type} (ek:KT→Value) (vv:VT→PV) (h:PWC n z K σ (PRes.mp none (dw ek vv [])::ρ)):PWC n z K σ ρ:=fun β κ σ' ρ' g hs hr hi=>h β κ σ' _ g hs (.cons (.mp (clock:=0) (fun _=>rfl) ⟨.nil,.nil,fun e h=>by cases h⟩ .nil) hr) hi.nilmap
attribute [local irreducible] PWL PWC PWD POpL POpQ PEv PGuardIs PSub PPick PUpd PSplice PFill PLit PF PFV PCall FOk dg ce ew eM dG ex Cov PHolds bs idx app mk gd lb nz mn oF sub gt dW oA jc dK cg gF dX IntKind.wrap Int.tmod Int.tdiv Op.bytesLess strOfNums
def gP (sg:Int→Int) (l:List Za) (s:List Zc×List (Zc×Int)):Option (List Zc×List (Zc×Int)):=bs (S:=List Zc×List (Zc×Int)×Int) (T:=List Zc×List (Zc×Int)) (fun (ks,ms,i)=>cond (decide (i<(l.length:Int))) (Option.bind (idx l i) (fun x=>Option.bind (iC ks ms ⟨x.Kind,x.Measure⟩ (sg x.Amount)) (fun r=>some (.inl (r.1,r.2,IntKind.i64.wrap (i+1)))))) (some (.inr (ks,ms)))) FUEL (s.1,s.2,0)
def jX (n:Nat) (ks:List Zc) (ms:List (Zc×Int)):Option (List Za):=bs (S:=List Za×Int) (T:=List Za) (fun (l,i)=>cond (decide (i<(n:Int))) (Option.bind (idx ks i) (fun k=>Option.bind (cond ((bP ms k).getD 0 != 0) (app 40 l [(⟨k.kind,k.measure,0,0,(bP ms k).getD 0⟩:Za)]) (some l)) (fun l'=>some (.inl (l',IntKind.i64.wrap (i+1)))))) (some (.inr l))) FUEL ([],0)
def cY (p0 p1:Zn):Option (List Za):=Option.bind (gP (fun v=>IntKind.i64.wrap (0 - v)) p0.Lines ([],[])) (fun q1=>Option.bind (gP (fun v=>v) p1.Lines q1) (fun q2=>Option.bind (q8 q2.1) (fun ks=>Option.bind (jX q2.1.length ks q2.2) (fun l=>some l))))
theorem iD {p0 p1:Zn} {r:List Za} (h:cY p0 p1=some r):PF 9 [.agg [pL Za.enc p0.Lines,pI p0.Total],.agg [pL Za.enc p1.Lines,pI p1.Total]] (pL Za.enc r):=by
 unfold cY at h
 refine bC ?_
 refine aL Tryz.func9 rfl Tryz.ntmps9 Tryz.results9 rfl ?_
 refine ag ?_
 refine aj ?_
 refine gh rfl rfl rfl (bY (cs:=[pL Za.enc p0.Lines,pI p0.Total]) rfl rfl (fun b2=>?_))
 refine gh rfl rfl rfl (bY (cs:=[pL Za.enc p1.Lines,pI p1.Total]) rfl rfl (fun b3=>?_))
 refine fM [] [] [(4,pN)] bV (by kernel_rfl) ?_
 (repeat (first | apply av | apply az))
 refine ag ?_
 refine aj ?_
 refine gh rfl rfl rfl (an (cs:=[pN,.v (.map none)]) rfl rfl rfl rfl (fun b5=>?_))
 refine aH ?_
 (repeat (first | apply av | apply az))
 refine da 87 2 ?_
 refine qy Zc.key vI ?_
 refine ag ?_
 refine ag ?_
 refine aG [4] [14] [(15,pL Za.enc p0.Lines),(16,pI (p0.Lines.length:Int)),(17,pI 0)] bV (by kernel_rfl) ?_
 (repeat (first | apply av | apply az))
 refine ae h ?_;clear h;intro q1 hq1 h;unfold gP at hq1;dsimp only at hq1
 refine aQ (Y:=(Option Addr×Nat×Option Nat)×(List Zc×List (Zc×Int))) (fun _=>[(3,pP b3 0),(5,pP b5 0)]) (fun ((a,c,mo),(ks,ms))=>[PRes.b b3 25 [pL Za.enc p1.Lines,pI p1.Total],PRes.b b5 84 [pO a ks.length c,.v (.map mo)],PRes.row a ks.length c 87 2 (ks.map Zc.enc),PRes.mp mo (dw Zc.key vI ms)]) (fun (_,z)=>q1=z) ?_ ?_
 ·refine aA ?_
  refine bf (Y:=Option Addr×Nat×Option Nat) (S:=List Zc×List (Zc×Int)×Int) _ hq1 (fun _ (_,_,i)=>[(3,pP b3 0),(5,pP b5 0),(15,pL Za.enc p0.Lines),(16,pI (p0.Lines.length:Int)),(17,pI i)]) (fun (a,c,mo) (ks,ms,_)=>[PRes.b b3 25 [pL Za.enc p1.Lines,pI p1.Total],PRes.b b5 84 [pO a ks.length c,.v (.map mo)],PRes.row a ks.length c 87 2 (ks.map Zc.enc),PRes.mp mo (dw Zc.key vI ms)]) (none,0,none) (by (repeat (first | exact bX | apply bq rfl))) (by (repeat (first | exact be | (apply bv;(focus (repeat (first | exact aF | apply aC))))))) ?_
  rintro ⟨a,c,mo⟩ ⟨ks,ms,i⟩ o τ hb;(try dsimp only at hb);dsimp only [aT]
  refine ag ?_
  refine aG [] [] [(18,pB (decide (i<(p0.Lines.length:Int))))] bV (by kernel_rfl) ?_
  (repeat (first | apply av | apply az))
  refine ag ?_
  refine dV rfl (fun hc=>?_) (fun hc=>?_)
  ·replace hb:=j9 hc hb
   refine ap ?_
   (repeat (first | apply av | apply az))
   refine ae hb ?_;clear hb;intro x hx hb
   refine ae hb ?_;clear hb;intro r1 hr1 hb
   refine ag ?_
   refine aA ?_
   refine ag ?_
   refine aj ?_
   refine br 2 [] [19] [(20,.agg (Za.enc x))] (gu 0 Za.enc hx bV) (by kernel_rfl) ?_
   refine gh rfl rfl rfl (an (cs:=[pI 0,pI 0,pI 0,pI 0,pI 0]) rfl rfl rfl rfl (fun b7=>?_))
   refine bF rfl rfl (ah (vs:=(bU x)) rfl rfl rfl rfl rfl (by (repeat (first | exact aY | apply ba))) (by (repeat (first | exact aJ | apply aD | apply aI))) ?_)
   refine aH ?_
   (repeat (first | apply av | apply az))
   refine aj ?_
   refine br 8 [0,0,0] [21,22,23,24,26,27] [(25,.agg [pI x.Kind,pI x.Measure]),(28,pI (IntKind.i64.wrap (0 - x.Amount)))] bV (by kernel_rfl) ?_
   refine gh rfl rfl rfl (dM rfl rfl (ρ1:=[_,_,_]) (bM (by (repeat (first | exact aF | apply aC))) (bM (by (repeat (first | exact aF | apply aC))) (bM (by (repeat (first | exact aF | apply aC))) (List.Perm.refl _)))) (tJ hr1) ?_);rintro _ _ ⟨rfl,a',c',mb,rfl⟩
   refine aH ?_
   (repeat (first | apply av | apply az))
   refine aG [] [30] [(17,pI (IntKind.i64.wrap (i+1)))] bV (by kernel_rfl) ?_
   (repeat apply av)
   exact bN hb (a',c',some mb) (by (repeat (first | exact bX | apply bq rfl))) (by (repeat (first | exact be | (apply bv;(focus (repeat (first | exact aF | apply aC)))))))
  replace hb:=ka hc hb
  refine bk ?_
  (repeat (first | apply aV | apply fg | apply fh | apply dN rfl))
  refine aM hb (fun ht=>?_)
  refine aR rfl ?_
  exact aq ((a,c,mo),(ks,ms)) (by (repeat (first | exact bX | apply bq rfl))) (by (repeat (first | exact be | (apply bv;(focus (repeat (first | exact aF | apply aC))))))) ht.symm
 rintro ⟨⟨a,c,mo⟩,⟨ks,ms⟩⟩ τ hz;(try dsimp only at hz);subst hz;(try dsimp only at h);dsimp only [aT]
 refine ag ?_
 refine ag ?_
 refine aG [0] [31] [(32,pL Za.enc p1.Lines),(33,pI (p1.Lines.length:Int)),(34,pI 0)] bV (by kernel_rfl) ?_
 (repeat (first | apply av | apply az))
 refine ae h ?_;clear h;intro q2 hq2 h;unfold gP at hq2;dsimp only at hq2
 refine aQ (Y:=(Option Addr×Nat×Option Nat)×(List Zc×List (Zc×Int))) (fun _=>[(5,pP b5 0)]) (fun ((a,c,mo),(ks,ms))=>[PRes.b b5 84 [pO a ks.length c,.v (.map mo)],PRes.row a ks.length c 87 2 (ks.map Zc.enc),PRes.mp mo (dw Zc.key vI ms)]) (fun (_,z)=>q2=z) ?_ ?_
 ·refine aA ?_
  refine bf (Y:=Option Addr×Nat×Option Nat) (S:=List Zc×List (Zc×Int)×Int) _ hq2 (fun _ (_,_,i)=>[(5,pP b5 0),(32,pL Za.enc p1.Lines),(33,pI (p1.Lines.length:Int)),(34,pI i)]) (fun (a,c,mo) (ks,ms,_)=>[PRes.b b5 84 [pO a ks.length c,.v (.map mo)],PRes.row a ks.length c 87 2 (ks.map Zc.enc),PRes.mp mo (dw Zc.key vI ms)]) (a,c,mo) (by (repeat (first | exact bX | apply bq rfl))) (by (repeat (first | exact be | (apply bv;(focus (repeat (first | exact aF | apply aC))))))) ?_
  rintro ⟨a,c,mo⟩ ⟨ks,ms,i⟩ o τ hb;(try dsimp only at hb);dsimp only [aT]
  refine ag ?_
  refine aG [] [] [(35,pB (decide (i<(p1.Lines.length:Int))))] bV (by kernel_rfl) ?_
  (repeat (first | apply av | apply az))
  refine ag ?_
  refine dV rfl (fun hc=>?_) (fun hc=>?_)
  ·replace hb:=j9 hc hb
   refine ap ?_
   (repeat (first | apply av | apply az))
   refine ae hb ?_;clear hb;intro x hx hb
   refine ae hb ?_;clear hb;intro r1 hr1 hb
   refine ag ?_
   refine aA ?_
   refine ag ?_
   refine aj ?_
   refine br 2 [] [36] [(37,.agg (Za.enc x))] (gu 0 Za.enc hx bV) (by kernel_rfl) ?_
   refine gh rfl rfl rfl (an (cs:=[pI 0,pI 0,pI 0,pI 0,pI 0]) rfl rfl rfl rfl (fun b9=>?_))
   refine bF rfl rfl (ah (vs:=(bU x)) rfl rfl rfl rfl rfl (by (repeat (first | exact aY | apply ba))) (by (repeat (first | exact aJ | apply aD | apply aI))) ?_)
   refine aH ?_
   (repeat (first | apply av | apply az))
   refine aj ?_
   refine br 7 [0,0,0] [38,39,40,41,43] [(42,.agg [pI x.Kind,pI x.Measure]),(44,pI x.Amount)] bV (by kernel_rfl) ?_
   refine gh rfl rfl rfl (dM rfl rfl (ρ1:=[_,_,_]) (bM (by (repeat (first | exact aF | apply aC))) (bM (by (repeat (first | exact aF | apply aC))) (bM (by (repeat (first | exact aF | apply aC))) (List.Perm.refl _)))) (tJ hr1) ?_);rintro _ _ ⟨rfl,a',c',mb,rfl⟩
   refine aH ?_
   (repeat (first | apply av | apply az))
   refine aG [] [46] [(34,pI (IntKind.i64.wrap (i+1)))] bV (by kernel_rfl) ?_
   (repeat apply av)
   exact bN hb (a',c',some mb) (by (repeat (first | exact bX | apply bq rfl))) (by (repeat (first | exact be | (apply bv;(focus (repeat (first | exact aF | apply aC)))))))
  replace hb:=ka hc hb
  refine bk ?_
  (repeat (first | apply aV | apply fg | apply fh | apply dN rfl))
  refine aM hb (fun ht=>?_)
  refine aR rfl ?_
  exact aq ((a,c,mo),(ks,ms)) (by (repeat (first | exact bX | apply bq rfl))) (by (repeat (first | exact be | (apply bv;(focus (repeat (first | exact aF | apply aC))))))) ht.symm
 rintro ⟨⟨a,c,mo⟩,⟨ks,ms⟩⟩ τ hz;(try dsimp only at hz);subst hz;(try dsimp only at h);dsimp only [aT]
 refine ae h ?_;clear h;intro kz hkz h
 refine ae h ?_;clear h;intro lo hlo h;unfold jX at hlo;dsimp only at hlo
 refine ag ?_
 refine aj ?_
 refine br 2 [0] [47] [(48,pO a ks.length c)] bV (by kernel_rfl) ?_
 refine gh rfl rfl rfl (dM rfl rfl (ρ1:=[_]) (bM (by (repeat (first | exact aF | apply aC))) (List.Perm.refl _)) (qv hkz) ?_);rintro _ _ ⟨rfl,rfl⟩
 refine aH ?_
 (repeat (first | apply av | apply az))
 refine da 37 5 ?_
 refine ag ?_
 refine aG [] [] [(10,pN)] bV (by kernel_rfl) ?_
 (repeat (first | apply av | apply az))
 refine ag ?_
 refine ag ?_
 refine aG [2] [50] [(51,pO a ks.length c),(52,pI ((ks.length:Nat):Int)),(53,pI 0)] bV (by kernel_rfl) ?_
 (repeat (first | apply av | apply az))
 refine aQ (Y:=(Option Addr×Nat)×List Za) (fun ((aO,cO),l)=>[(10,pO aO l.length cO)]) (fun ((aO,cO),l)=>[PRes.row aO l.length cO 37 5 (l.map Za.enc)]) (fun (_,z)=>lo=z) ?_ ?_
 ·refine aA ?_
  refine bf (Y:=Option Addr×Nat) (S:=List Za×Int) _ hlo (fun (aO,cO) (l,i)=>[(5,pP b5 0),(10,pO aO l.length cO),(51,pO a ks.length c),(52,pI ((ks.length:Nat):Int)),(53,pI i)]) (fun (aO,cO) (l,_)=>[PRes.b b5 84 [pO a ks.length c,.v (.map mo)],PRes.row a ks.length c 87 2 (kz.map Zc.enc),PRes.mp mo (dw Zc.key vI ms),PRes.row aO l.length cO 37 5 (l.map Za.enc)]) (none,0) (by (repeat (first | exact bX | apply bq rfl))) (by (repeat (first | exact be | (apply bv;(focus (repeat (first | exact aF | apply aC))))))) ?_
  rintro ⟨aO,cO⟩ ⟨l,i⟩ o τ hb;(try dsimp only at hb);dsimp only [aT]
  refine ag ?_
  refine aG [] [] [(54,pB (decide (i<((ks.length:Nat):Int))))] bV (by kernel_rfl) ?_
  (repeat (first | apply av | apply az))
  refine ag ?_
  refine dV rfl (fun hc=>?_) (fun hc=>?_)
  ·replace hb:=j9 hc hb
   refine ap ?_
   (repeat (first | apply av | apply az))
   refine ae hb ?_;clear hb;intro k hk hb
   refine ae hb ?_;clear hb;intro l' hl' hb
   refine ag ?_
   refine aA ?_
   refine ag ?_
   refine aj ?_
   refine bK rfl rfl rfl (cn (enc:=Zc.enc) (xs:=kz) rfl rfl rfl (.p rfl) (by (repeat (first | exact List.Mem.head _ | apply List.Mem.tail))) (.p rfl) (fun _=>hk)) ?_
   refine bK rfl rfl rfl (bR (sz:=2) (p:=.agg [pI k.kind,pI k.measure]) (enc:=Zc.enc) (xs:=kz) (a:=a) i 0 k rfl (.p rfl) rfl (by (repeat (first | exact List.Mem.head _ | apply List.Mem.tail))) (fun _=>hk) rfl) ?_
   refine gh rfl rfl rfl (an (cs:=[pI 0,pI 0]) rfl rfl rfl rfl (fun b12=>?_))
   refine bF rfl rfl (ah (vs:=[pI k.kind,pI k.measure]) rfl rfl rfl rfl rfl (by (repeat (first | exact aY | apply ba))) (by (repeat (first | exact aJ | apply aD | apply aI))) ?_)
   refine aH ?_
   (repeat (first | apply av | apply az))
   refine ag ?_
   refine aj ?_
   refine br 3 [1,0] [57] [(58,.v (.map mo)),(59,.agg [pI k.kind,pI k.measure])] bV (by kernel_rfl) ?_
   refine bK rfl rfl rfl (show POpQ _ _ _ _ (vI ((bP ms k).getD 0)) from kj (xs:=ms) (k:=k) (ek:=Zc.key) (vv:=vI) (z0:=0) rfl rfl rfl (fun _=>.v rfl) Zc.kenc87 (.p rfl) (.p rfl) km (jL (by (repeat (first | exact List.Mem.head _ | apply List.Mem.tail))))) ?_
   refine fM [] [] [(13,pI ((bP ms k).getD 0))] bV (by kernel_rfl) ?_
   (repeat (first | apply av | apply az))
   refine ag ?_
   refine aG [] [61] [(62,pB ((bP ms k).getD 0 != 0))] bV (by kernel_rfl) ?_
   (repeat (first | apply av | apply az))
   refine ip (Y:=Option Addr×Nat) (fun (aN,cN)=>[(5,pP b5 0),(10,pO aN l'.length cN),(51,pO a ks.length c),(52,pI ((ks.length:Nat):Int)),(53,pI i)]) (fun (aN,cN)=>[PRes.b b5 84 [pO a ks.length c,.v (.map mo)],PRes.row a ks.length c 87 2 (kz.map Zc.enc),PRes.mp mo (dw Zc.key vI ms),PRes.row aN l'.length cN 37 5 (l'.map Za.enc)]) (fun _=>True) ?_ ?_
   ·refine dV rfl (fun hd=>?_) (fun hd=>?_)
    ·replace hl':=j9 hd hl'
     refine aj ?_
     refine br 6 [0,0] [64,66] [(63,pO aO l.length cO),(65,pI k.kind),(67,pI k.measure),(68,pI ((bP ms k).getD 0))] bV (by kernel_rfl) ?_
     refine bK rfl rfl rfl (oB (cs:=[pI k.kind,pI k.measure,pI 0,pI 0,pI ((bP ms k).getD 0)]) rfl rfl rfl rfl rfl rfl rfl (by (repeat (first | exact bQ | (apply bO rfl rfl rfl rfl;(focus (repeat (first | exact aJ | apply aD | apply aI)))))))) ?_
     refine gh rfl rfl rfl (aS rfl rfl rfl rfl rfl (by (repeat (first | exact dH | apply dA rfl))) rfl rfl rfl rfl (fun bL=>?_))
     refine gh rfl rfl rfl (dY (enc:=Za.enc) rfl rfl rfl rfl rfl rfl rfl rfl rfl (by (repeat (first | exact List.Mem.head _ | apply List.Mem.tail))) (by (repeat (first | exact aF | apply aC))) hl' (fun aN cN=>?_))
     refine fM [] [] [(10,pO aN l'.length cN)] bV (by kernel_rfl) ?_
     exact i7 (aN,cN) (by (repeat (first | exact bX | apply bq rfl))) (by (repeat (first | exact be | (apply bv;(focus (repeat (first | exact aF | apply aC))))))) trivial
    replace hl':=ka hd hl'
    obtain rfl:=Option.some.inj hl'
    refine ap ?_
    exact i7 (aO,cO) (by (repeat (first | exact bX | apply bq rfl))) (by (repeat (first | exact be | (apply bv;(focus (repeat (first | exact aF | apply aC))))))) trivial
   rintro ⟨aN,cN⟩ τ ρ1 hsub _;(try dsimp only at hsub);dsimp only [aT]
   (repeat (first | apply av | apply az))
   refine aG [] [72] [(53,pI (IntKind.i64.wrap (i+1)))] bV (by kernel_rfl) ?_
   (repeat apply av)
   exact bN hb (aN,cN) (by (repeat (first | exact bX | apply bq rfl))) (PSub.trans (by (repeat (first | exact be | (apply bv;(focus (repeat (first | exact aF | apply aC))))))) hsub)
  replace hb:=ka hc hb
  refine bk ?_
  (repeat (first | apply aV | apply fg | apply fh | apply dN rfl))
  refine aM hb (fun ht=>?_)
  refine aR rfl ?_
  exact aq ((aO,cO),l) (by (repeat (first | exact bX | apply bq rfl))) (by (repeat (first | exact be | (apply bv;(focus (repeat (first | exact aF | apply aC))))))) ht.symm
 rintro ⟨⟨aO,cO⟩,l⟩ τ hz;(try dsimp only at hz);subst hz;(try dsimp only at h);dsimp only [aT]
 refine ag ?_
 refine aG [] [73] [(4,pO aO lo.length cO)] bV (by kernel_rfl) ?_
 (repeat (first | apply av | apply az))
 refine fi (enc:=Za.enc) (xs:=lo) 4 rfl (by (repeat (first | exact aF | apply aC))) ?_
 refine cV ?_
 (repeat (first | apply aU | apply aB | apply bz | apply ja))
 obtain rfl:=Option.some.inj h
 exact bg (iY (aZ rfl)) be ⟨rfl,rfl⟩
end SX
namespace SX
open Go
attribute [local irreducible] PWL PWC PWD POpL POpQ PEv PGuardIs PSub PPick PUpd PSplice PFill PLit PF PFV PCall FOk dg ce ew eM dG ex Cov PHolds bs idx app mk gd lb nz mn oF sub gt dW oA jc dK cg gF dX IntKind.wrap Int.tmod Int.tdiv Op.bytesLess strOfNums
end SX
end Go.Proofs.YthbphcbhedmnoaaGreatDoor
