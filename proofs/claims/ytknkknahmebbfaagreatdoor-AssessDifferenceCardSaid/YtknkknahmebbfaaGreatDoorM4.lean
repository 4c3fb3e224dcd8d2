/- AssessDifference: for every input the law returns true, and each argument reads afterwards as it read before. Conditions: the package variables are as the program's text lays them (the card ties them). -/
import Derived.Test.YtknkknahmebbfaaGreatDoorM3
import Derived.Test.YtknkknahmebbfaaGreatDoorL1q
set_option linter.unusedVariables false
set_option linter.unusedSimpArgs false
set_option maxHeartbeats 4000000
set_option maxRecDepth 100000
namespace Go.Proofs.YtknkknahmebbfaaGreatDoor
namespace SX
open Go
attribute [local irreducible] PWL PWC PWD POpL POpQ PEv PGuardIs PSub PPick PUpd PSplice PFill PLit PF PFV PCall FOk ee eu jI kF iY jn Cov PHolds bk idx app mk gd lb nz lG xQ sub kv dd mj ry dV co mC cX IntKind.wrap Int.tmod Int.tdiv Op.bytesLess strOfNums
def gS (p0:(List Zc)):Option Int:=cond (decide (300<(p0.length:Int))) (some (8:Int)) ((bk (S:=Int) (T:=(Unit)⊕(_)) (fun v2=>cond (decide (v2<(p0.length:Int))) ((idx p0 v2).bind fun m6=>cond ((((((decide (m6.ID<1))||(decide (1000000<m6.ID)))||(decide (m6.Kind<1)))||(decide (6<m6.Kind)))||(decide (m6.Company<0)))||(decide (999<m6.Company))) (some (.inr (.inr (2:Int)))) ((gd (decide (0<v2)) (idx p0 (IntKind.i64.wrap (v2 - 1)))).bind fun m9=>cond ((decide (0<v2))&&(decide (m6.ID≤m9.ID))) (some (.inr (.inr (9:Int)))) ((cY m6.Prefix).bind fun x11=>cond (x11 == 0) (some (.inr (.inr (1:Int)))) (cond (decide (20<(m6.Origins.length:Int))) (some (.inr (.inr (8:Int)))) ((fh m6.Origins).bind fun x14=>cond (!x14) (some (.inr (.inr (1:Int)))) (cond (((((decide (m6.From<0))||(decide (m6.To≤m6.From)))||(decide (36525<m6.To)))||(decide (m6.Registered<(-1))))||(decide (m6.From<m6.Registered))) (some (.inr (.inr (2:Int)))) ((cE m6.Duty).bind fun x17=>cond (x17 != 0) (some (.inr (.inr x17))) (some (.inl (IntKind.i64.wrap (v2+1))))))))))) (some (.inr (.inl ())))) FUEL 0).bind fun q=>match q with | .inl _=>some (0:Int) | .inr e=>some e)
theorem lC {p0:(List Zc)} {r:Int}  (h:gS p0=some r):PF 47 [pL Zc.enc p0] (pI r):=by
 unfold gS at h
 refine bi ?_
 refine eg Tryz.func47 rfl Tryz.ntmps47 Tryz.results47 rfl (bf [2] (by kernel_rfl) (cH (ah [6,7] [(8,pB (decide (300<(p0.length:Int))))] (by kernel_rfl) (bZ rfl h (fun hc1 h=>?_) fun hc1 h=>?_))))
 ·refine af ?_
  refine ai [(2,pI 8)] (by kernel_rfl) (fB ?_)
  exact zz r h rfl
 refine ag ?_
 refine cH (ai [(9,pL Zc.enc p0),(10,pI (p0.length:Int)),(11,pI 0)] (by kernel_rfl) (fu h fun q4 hq4 h=>?_))
 refine av (Y:=Unit×Unit) (fun (_,_)=>[]) (fun (_,_)=>[]) (fun (_,_)=>q4=Sum.inl ()) ?_ ?_
 ·refine an ?_
  refine aY (Y:=Unit) (S:=Int) _ hq4 (fun _ v2=>[(0,pL Zc.enc p0),(9,pL Zc.enc p0),(10,pI (p0.length:Int)),(11,pI v2)]) (fun _ v2=>[]) () (kf rfl) bD ?_
  rintro _ v2 o τ hb3;(try dsimp only at hb3);dsimp only [aF]
  refine af (ai [(12,pB (decide (v2<(p0.length:Int))))] (by kernel_rfl) (bN (iQ rfl hb3 (fun hc5 hb3=>?_) fun hc5 hb3=>?_)))
  ·refine ag ?_
   refine bN (an (af (aa hb3 fun m6 hm6 hb3=>ae (bd 3 [] [14] [(13,pI v2),(15,.agg (aU m6))] (eH 1 Zc.enc hm6 bA) (by kernel_rfl) (ar rfl (be (cs:=[pI 0,pI 0,pS ByteArray.empty,pN,pI 0,pI 0,pI 0,pI 0,pI 0,pI 0,pI 0,pB false,pI 0,pB false,pI 0]) rfl rfl rfl rfl (fun b7=>aA 1 [(3,pI v2)] (by kernel_rfl) (aQ rfl rfl (ak (vs:=(aU m6)) rfl rfl rfl rfl rfl cn (dg (dg (dg (dg (dg (dg xX)))))) (az (cH (aT [0,0,0,0,0,0] (rg 16 27) [(43,pB ((((((decide (m6.ID<1))||(decide (1000000<m6.ID)))||(decide (m6.Kind<1)))||(decide (6<m6.Kind)))||(decide (m6.Company<0)))||(decide (999<m6.Company))))] (by kernel_rfl) (bZ rfl hb3 (fun hc8 hb3=>?_) fun hc8 hb3=>?_)))))))))))))
   ·refine af ?_
    refine ai [(2,pI 2)] (by kernel_rfl) (fB (aw (aP ?_)))
    refine bp hb3 (fun ht=>?_);subst ht
    refine aw (bt ?_)
    exact zz r h rfl
   refine ag ?_
   refine cH (bH (ρd:=[]) [(0,0),(1,0),(2,0),(3,0),(4,0),(5,0),(6,0),(7,0),(8,0),(9,0),(10,0),(11,0),(12,0)] _ (List.Perm.refl _) (by kernel_rfl) rfl (aa hb3 fun m9 hm9 hb3=>bV 13 [0] (rg 44 12) [(56,pB ((decide (0<v2))&&(decide (m6.ID≤m9.ID))))] (hY 8 Zc.enc (cB hm9) bA) (by kernel_rfl) (ce (bZ rfl hb3 (fun hc10 hb3=>?_) fun hc10 hb3=>?_))))
   ·refine af ?_
    refine ai [(2,pI 9)] (by kernel_rfl) (fB (aw (aP ?_)))
    refine bp hb3 (fun ht=>?_);subst ht
    refine aw (bt ?_)
    exact zz r h rfl
   refine ag ?_
   refine cH (aa hb3 fun x11 hx11 hb3=>aD [0] [57,58,59] [(60,pB (x11 == 0))] (bz 2 (gC hx11) bA) (by kernel_rfl) (bZ rfl hb3 (fun hc12 hb3=>?_) fun hc12 hb3=>?_))
   ·refine af ?_
    refine ai [(2,pI 1)] (by kernel_rfl) (fB (aw (aP ?_)))
    refine bp hb3 (fun ht=>?_);subst ht
    refine aw (bt ?_)
    exact zz r h rfl
   refine ag ?_
   refine cH (aT [0] [61,62,63] [(64,pB (decide (20<(m6.Origins.length:Int))))] (by kernel_rfl) (bZ rfl hb3 (fun hc13 hb3=>?_) fun hc13 hb3=>?_))
   ·refine af ?_
    refine ai [(2,pI 8)] (by kernel_rfl) (fB (aw (aP ?_)))
    refine bp hb3 (fun ht=>?_);subst ht
    refine aw (bt ?_)
    exact zz r h rfl
   refine ag ?_
   refine cH (aa hb3 fun x14 hx14 hb3=>aD [0] [65,66,67] [(68,pB (!x14))] (bz 2 (jQ hx14) bA) (by kernel_rfl) (bZ rfl hb3 (fun hc15 hb3=>?_) fun hc15 hb3=>?_))
   ·refine af ?_
    refine ai [(2,pI 1)] (by kernel_rfl) (fB (aw (aP ?_)))
    refine bp hb3 (fun ht=>?_);subst ht
    refine aw (bt ?_)
    exact zz r h rfl
   refine ag ?_
   refine cH (aT [0,0,0,0,0,0,0] (rg 69 26) [(95,pB (((((decide (m6.From<0))||(decide (m6.To≤m6.From)))||(decide (36525<m6.To)))||(decide (m6.Registered<(-1))))||(decide (m6.From<m6.Registered))))] (by kernel_rfl) (bZ rfl hb3 (fun hc16 hb3=>?_) fun hc16 hb3=>?_))
   ·refine af ?_
    refine ai [(2,pI 2)] (by kernel_rfl) (fB (aw (aP ?_)))
    refine bp hb3 (fun ht=>?_);subst ht
    refine aw (bt ?_)
    exact zz r h rfl
   refine ag ?_
   refine eo hb3 fun x17 hx17 hb3=>aD [0] [96,97,98] [(5,pI x17)] (bz 2 (jR hx17) bA) (by kernel_rfl) (bN (ah [99] [(100,pB (x17 != 0))] (by kernel_rfl) (bZ rfl hb3 (fun hc18 hb3=>?_) fun hc18 hb3=>?_)))
   ·refine af ?_
    refine ah [101] [(2,pI x17)] (by kernel_rfl) (dB (aw (aP ?_)))
    refine bp hb3 (fun ht=>?_);subst ht
    refine aw (bt ?_)
    exact zz r h rfl
   refine ag ?_
   refine aj (aH (ah [102] [(11,pI (IntKind.i64.wrap (v2+1)))] (by kernel_rfl) ?_))
   exact bm hb3 () (kf rfl) bD
  refine ba ?_
  refine aI (aB hb3 (fun ht=>aG rfl ?_))
  exact au ((),()) lw bD ht.symm
 rintro ⟨_,_⟩ τ hz;(try dsimp only at hz);subst q4;(try dsimp only at h);dsimp only [aF]
 refine af (ai [(2,pI 0)] (by kernel_rfl) (dB ?_))
 exact zz r h rfl
def bP (p0:Zj):Option Int:=(cY p0.Code).bind fun x2=>(gd (!(x2 != 8)) (cj p0.Origin)).bind fun x3=>cond ((x2 != 8)||(!x3)) (some (1:Int)) (cond ((((((((((decide (p0.Company<0))||(decide (999<p0.Company)))||(decide (p0.Day<0)))||(decide (36524<p0.Day)))||(decide (p0.Quantity<0)))||(decide (1000000000<p0.Quantity)))||(decide (p0.Value<0)))||(decide (1000000000000<p0.Value)))||(decide (p0.Granted<0)))||(decide (p0.Quantity<p0.Granted))) (some (2:Int)) (some (0:Int)))
theorem ma {p0:Zj} {r:Int}  (h:bP p0=some r):PF 48 [.agg (cw p0)] (pI r):=by
 unfold bP at h
 refine bi ?_
 refine eg Tryz.func48 rfl Tryz.ntmps48 Tryz.results48 rfl (ae (ar rfl (bB (cs:=(cw p0)) rfl rfl (fun b1=>bu [2] (by kernel_rfl) (cH (aa h fun x2 hx2 h=>aa h fun x3 hx3 h=>aD [0,0] (rg 3 9) [(12,pB ((x2 != 8)||(!x3)))] (bz 2 (gC hx2) (eJ 7 (fun hc=>fg (cB hx3 hc)) bA)) (by kernel_rfl) (bZ rfl h (fun hc4 h=>?_) fun hc4 h=>?_)))))))
 ·refine af ?_
  refine ai [(2,pI 1)] (by kernel_rfl) (fB ?_)
  exact zz r h rfl
 refine ag ?_
 refine cH (aT [0,0,0,0,0,0,0,0,0,0,0] (rg 13 49) [(62,pB ((((((((((decide (p0.Company<0))||(decide (999<p0.Company)))||(decide (p0.Day<0)))||(decide (36524<p0.Day)))||(decide (p0.Quantity<0)))||(decide (1000000000<p0.Quantity)))||(decide (p0.Value<0)))||(decide (1000000000000<p0.Value)))||(decide (p0.Granted<0)))||(decide (p0.Quantity<p0.Granted))))] (by kernel_rfl) (bZ rfl h (fun hc5 h=>?_) fun hc5 h=>?_))
 ·refine af ?_
  refine ai [(2,pI 2)] (by kernel_rfl) (fB ?_)
  exact zz r h rfl
 refine ag ?_
 refine bN (ai [(2,pI 0)] (by kernel_rfl) (dB ?_))
 exact zz r h rfl
def gZ (p0:(List Zc)) (p1:Zj):Option (Zl×Int):=(gS p0).bind fun x3=>cond (x3 != 0) (some ((⟨[],0⟩:Zl),x3)) ((bP p1).bind fun x5=>cond (x5 != 0) (some ((⟨[],0⟩:Zl),x5)) ((fQ p0 p1.Code p1.Origin p1.Company p1.Day).bind fun x7=>(bS x7 (fun y8=>im y8)).bind fun x9=>cond (!x9) (some ((⟨[],0⟩:Zl),(7:Int))) ((jb p1).bind fun x11=>cond (x11.2 != 0) (some ((⟨[],0⟩:Zl),x11.2)) ((bk (S:=Int×(List Za)×Int) (T:=((List Za)×Int)⊕(_)) (fun (v14,l16,v19)=>cond (decide (v14<(x11.1.length:Int))) (Option.bind (α:=((List Za)×Int)⊕_) ((idx x11.1 v14).bind fun m35=>(gQ x7 m35).bind fun x37=>cond (x37.2.2 != 0) (some (.inr (.inr (.inr ((⟨[],0⟩:Zl),x37.2.2))))) (cond x37.2.1 ((app 40 l16 [x37.1]).bind fun l43=>some (.inl (l43,(IntKind.i64.wrap (v19+x37.1.Amount))))) (some (.inl (l16,v19))))) (fun q=>match q with | .inl (l32,v33)=>some (.inl ((IntKind.i64.wrap (v14+1)),l32,v33)) | .inr e=>some e)) (some (.inr (.inl (l16,v19))))) FUEL (0,([]:List Za),0)).bind fun q=>match q with | .inl (l23,v24)=>cond (decide (1000000000000<v24)) (some ((⟨[],0⟩:Zl),(3:Int))) (some ((⟨l23,v24⟩:Zl),(0:Int))) | .inr e=>some e))))
theorem jU {p0:(List Zc)} {p1:Zj} {r:(Zl×Int)}  (h:gZ p0 p1=some r):PF 27 [pL Zc.enc p0,.agg (cw p1)] (.tup [.agg [pL Za.enc r.1.Lines,pI r.1.Total],pI r.2]):=by
 unfold gZ at h
 refine bi ?_
 refine eg Tryz.func27 rfl Tryz.ntmps27 Tryz.results27 rfl (ae (ar rfl (bB (cs:=(cw p1)) rfl rfl (fun b1=>ar rfl (be (cs:=[pN,pI 0]) rfl rfl rfl rfl (fun b2=>bu [5] (by kernel_rfl) (cH (aa h fun x3 hx3 h=>aD [] [17,18] [(6,pI x3)] (bz 1 (lC hx3) bA) (by kernel_rfl) (bN (ah [19] [(20,pB (x3 != 0))] (by kernel_rfl) (bZ rfl h (fun hc4 h=>?_) fun hc4 h=>?_)))))))))))
 ·refine af ?_
  refine ae (aA 2 [(21,.agg [pN,pI 0]),(22,pI x3)] (by kernel_rfl) (aQ rfl rfl (ak (vs:=[pN,pI 0]) rfl rfl rfl rfl rfl cn jV (aL [(5,pI x3)] (by kernel_rfl) (aH (fa (k:=0) (b:=b2) rfl cn (cu (aP ?_))))))))
  obtain rfl:=osi h
  exact aM (bR (dh rfl eD rfl) (aK rfl)) bD ⟨rfl,rfl⟩
 refine ag ?_
 refine cH (aa h fun x5 hx5 h=>aD [1] [23,24] [(7,pI x5)] (bz 1 (ma hx5) bA) (by kernel_rfl) (bN (ah [25] [(26,pB (x5 != 0))] (by kernel_rfl) (bZ rfl h (fun hc6 h=>?_) fun hc6 h=>?_))))
 ·refine af ?_
  refine ae (aA 2 [(27,.agg [pN,pI 0]),(28,pI x5)] (by kernel_rfl) (aQ rfl rfl (ak (vs:=[pN,pI 0]) rfl rfl rfl rfl rfl cn jV (aL [(5,pI x5)] (by kernel_rfl) (aH (fa (k:=0) (b:=b2) rfl cn (cu (aP ?_))))))))
  obtain rfl:=osi h
  exact aM (bR (dh rfl eD rfl) (aK rfl)) bD ⟨rfl,rfl⟩
 refine ag ?_
 refine eo h fun x7 hx7 h=>aD [1,1,1,1] (rg 29 10) [(8,pL Zc.enc x7)] (bz 9 (kx hx7) bA) (by kernel_rfl) (cH (aa h fun x9 hx9 h=>aD [] [39,40] [(41,pB (!x9))] (bz 1 (dX (fun hr=>kE (lV hr)) hx9) bA) (by kernel_rfl) (bZ rfl h (fun hc10 h=>?_) fun hc10 h=>?_)))
 ·refine af ?_
  refine ae (aA 1 [(42,.agg [pN,pI 0])] (by kernel_rfl) (aQ rfl rfl (ak (vs:=[pN,pI 0]) rfl rfl rfl rfl rfl cn jV (aL [(5,pI 7)] (by kernel_rfl) (aH (fa (k:=0) (b:=b2) rfl cn (cu (aP ?_))))))))
  obtain rfl:=osi h
  exact aM (bR (dh rfl eD rfl) (aK rfl)) bD ⟨rfl,rfl⟩
 refine ag ?_
 refine eo h fun x11 hx11 h=>aD [1] [44,45,43,46,47] [(9,pL Zg.enc x11.1),(10,pI x11.2)] (bz 1 (mY hx11) bA) (by kernel_rfl) (cH (ah [48] [(49,pB (x11.2 != 0))] (by kernel_rfl) (bZ rfl h (fun hc12 h=>?_) fun hc12 h=>?_)))
 ·refine af ?_
  refine ae (aA 2 [(50,.agg [pN,pI 0]),(51,pI x11.2)] (by kernel_rfl) (aQ rfl rfl (ak (vs:=[pN,pI 0]) rfl rfl rfl rfl rfl cn jV (aL [(5,pI x11.2)] (by kernel_rfl) (aH (fa (k:=0) (b:=b2) rfl cn (cu (aP ?_))))))))
  obtain rfl:=osi h
  exact aM (bR (dh rfl eD rfl) (aK rfl)) bD ⟨rfl,rfl⟩
 refine ag ?_
 refine bN (ae (ar rfl (be (cs:=[pN,pI 0]) rfl rfl rfl rfl (fun b13=>az (cH (ai [(52,pL Zg.enc x11.1),(53,pI (x11.1.length:Int)),(54,pI 0)] (by kernel_rfl) (aH (dn 37 5 (aa h fun q26 hq26 h=>?_)))))))))
 refine av (Y:=(Option Addr×Nat)×((List Za)×Int)) (fun ((a21,c22),(l23,v24))=>[(4,pP b2 0),(11,pP b13 0)]) (fun ((a21,c22),(l23,v24))=>[PRes.b b13 25 [pO a21 l23.length c22,pI v24],PRes.b b2 25 [pN,pI 0],PRes.row a21 l23.length c22 37 5 (List.map Za.enc l23)]) (fun ((a21,c22),(l23,v24))=>q26=Sum.inl (l23,v24)) ?_ ?_
 ·refine an ?_
  refine aY (Y:=Option Addr×Nat) (S:=Int×(List Za)×Int) _ hq26 (fun (a17,c18) (v14,l16,v19)=>[(4,pP b2 0),(8,pL Zc.enc x7),(11,pP b13 0),(52,pL Zg.enc x11.1),(53,pI (x11.1.length:Int)),(54,pI v14)]) (fun (a17,c18) (v14,l16,v19)=>[PRes.b b13 25 [pO a17 l16.length c18,pI v19],PRes.b b2 25 [pN,pI 0],PRes.row a17 l16.length c18 37 5 (List.map Za.enc l16)]) (none,0) (qj rfl) (bv (aR aZ) (bv (aR aZ) dx)) ?_
  rintro ⟨a17,c18⟩ ⟨v14,l16,v19⟩ o τ hb25;(try dsimp only at hb25);dsimp only [aF]
  refine af (ai [(55,pB (decide (v14<(x11.1.length:Int))))] (by kernel_rfl) (bN (iQ rfl hb25 (fun hc28 hb25=>?_) fun hc28 hb25=>?_)))
  ·refine ag ?_
   refine eo hb25 fun q34 hq34 hb25=>?_
   refine av (Y:=(Option Addr×Nat)×((List Za)×Int)) (fun ((a30,c31),(l32,v33))=>[(4,pP b2 0),(8,pL Zc.enc x7),(11,pP b13 0),(52,pL Zg.enc x11.1),(53,pI (x11.1.length:Int)),(54,pI v14)]) (fun ((a30,c31),(l32,v33))=>[PRes.b b13 25 [pO a30 l32.length c31,pI v33],PRes.b b2 25 [pN,pI 0],PRes.row a30 l32.length c31 37 5 (List.map Za.enc l32)]) (fun ((a30,c31),(l32,v33))=>q34=Sum.inl (l32,v33)) ?_ ?_
   ·skip
    refine an (af (aa hq34 fun m35 hm35 hq34=>ae (bd 2 [] [56] [(57,.agg [pI m35.quantity,pI m35.value,pL eI m35.kinds])] (eH 0 Zg.enc hm35 bA) (by kernel_rfl) (ar rfl (be (cs:=[pI 0,pI 0,pN]) rfl rfl rfl rfl (fun b36=>aQ rfl rfl (ak (vs:=[pI m35.quantity,pI m35.value,pL eI m35.kinds]) rfl rfl rfl rfl rfl cn zl3 (az (eo hq34 fun x37 hx37 hq34=>ae (bd 7 [0] [59,60,61,58] [(62,.agg (cD x37.1)),(63,pB x37.2.1),(64,pI x37.2.2)] (bz 2 (lB hx37) bA) (by kernel_rfl) (ar rfl (be (cs:=[pI 0,pI 0,pI 0,pI 0,pI 0]) rfl rfl rfl rfl (fun b38=>aQ rfl rfl (ak (vs:=(cD x37.1)) rfl rfl rfl rfl rfl cn zl5 (aL [(15,pB x37.2.1),(16,pI x37.2.2)] (by kernel_rfl) (cH (ah [65] [(66,pB (x37.2.2 != 0))] (by kernel_rfl) (bZ rfl hq34 (fun hc39 hq34=>?_) fun hc39 hq34=>?_))))))))))))))))))
    ·refine af ?_
     refine ae (aA 2 [(67,.agg [pN,pI 0]),(68,pI x37.2.2)] (by kernel_rfl) (aQ rfl rfl (ak (vs:=[pN,pI 0]) rfl rfl rfl rfl rfl (cA (cA (cA cn))) jV (aL [(5,pI x37.2.2)] (by kernel_rfl) (aH (fa (k:=0) (b:=b2) rfl (cA (cA (cA cn))) (cu (aP (aw (bt ?_))))))))))
     obtain rfl:=osi hq34
     refine bp hb25 (fun ht=>?_);subst ht
     refine aw (bt ?_)
     obtain rfl:=osi h
     exact aM (bR (dh rfl zm3 rfl) (aK rfl)) bD ⟨rfl,rfl⟩
    refine ag ?_
    refine bN (ai [(69,pB x37.2.1)] (by kernel_rfl) (bZ rfl hq34 (fun hc40 hq34=>?_) fun hc40 hq34=>?_))
    ·refine af ?_
     refine ae (cq 3 [2,0] [70] [(71,pO a17 l16.length c18),(72,.agg (cD x37.1))] (by kernel_rfl) (ar rfl (bW rfl rfl rfl rfl rfl (eW rfl jD) rfl rfl rfl rfl (fun b41=>aa hq34 fun l43 hl43 hq34=>?_))))
     refine ar rfl (cV (enc:=Za.enc) rfl rfl rfl rfl rfl rfl rfl rfl rfl eD (by exact aR (aR (aR (aR (aR aZ))))) hl43 (fun a44 c45=>?_))
     refine aA 1 [(75,pP b13 0)] (by kernel_rfl) (aQ rfl rfl (ak (vs:=[pO a44 l43.length c45]) rfl rfl rfl rfl rfl (cA (cA (cA (cA cn)))) eX (az (aH (ae (cq 6 [4,2] [76,77,78,79] [(80,pI (IntKind.i64.wrap (v19+x37.1.Amount))),(81,pP b13 1)] (by kernel_rfl) (aQ rfl rfl (ak (vs:=[pI (IntKind.i64.wrap (v19+x37.1.Amount))]) rfl rfl rfl rfl rfl (cA (cA (cA (cA cn)))) (bQ eX) (az (aj ?_))))))))))
     obtain rfl:=osi hq34
     exact au ((a44,c45),(l43,(IntKind.i64.wrap (v19+x37.1.Amount)))) (qj rfl) (bv (aR (aR (aR (aR aZ)))) (bv (aR (aR (aR (aR aZ)))) dx)) rfl
    refine ag ?_
    refine aj ?_
    obtain rfl:=osi hq34
    exact au ((a17,c18),(l16,v19)) (qj rfl) (bv (aR (aR aZ)) (bv (aR (aR aZ)) (bv (aR (aR aZ)) bD))) rfl
   rintro ⟨⟨a30,c31⟩,⟨l32,v33⟩⟩ τ hz;(try dsimp only at hz);subst q34;(try dsimp only at hb25);dsimp only [aF]
   refine ah [82] [(54,pI (IntKind.i64.wrap (v14+1)))] (by kernel_rfl) ?_
   exact bm hb25 (a30,c31) (qj rfl) mH
  refine ba ?_
  refine aI (aB hb25 (fun ht=>aG rfl ?_))
  exact au ((a17,c18),(l16,v19)) (ke rfl) mH ht.symm
 rintro ⟨⟨a21,c22⟩,⟨l23,v24⟩⟩ τ hz;(try dsimp only at hz);subst q26;(try dsimp only at h);dsimp only [aF]
 refine fW (aT [0] [83,84] [(85,pB (decide (1000000000000<v24)))] (by kernel_rfl) (bZ rfl h (fun hc47 h=>?_) fun hc47 h=>?_))
 ·refine af ?_
  refine ae (aA 1 [(86,.agg [pN,pI 0])] (by kernel_rfl) (aQ rfl rfl (ak (vs:=[pN,pI 0]) rfl rfl rfl rfl rfl (cA cn) jV (aL [(5,pI 3)] (by kernel_rfl) (aH (fa (k:=0) (b:=b2) rfl (cA cn) (cu (aP ?_))))))))
  obtain rfl:=osi h
  exact aM (bR (dh rfl iZ rfl) (aK rfl)) bD ⟨rfl,rfl⟩
 refine ag ?_
 refine bN (ae ?_)
 refine mA (css:=List.map Za.enc l23) (a:=a21) (by exact aR (aR aZ)) ?_
 refine lm (k:=0) (enc:=Za.enc) (xs:=l23) (b:=b13) (a:=a21) rfl eD (cA cn) (fe 1 [1] [(87,.agg [pL Za.enc l23,pI v24])] (by kernel_rfl) (aQ rfl rfl (ak (vs:=[pL Za.enc l23,pI v24]) rfl rfl rfl rfl rfl (cA (cA cn)) jV (aL [(5,pI 0)] (by kernel_rfl) (dB ?_)))))
 obtain rfl:=osi h
 exact aM (bR (dh rfl zd rfl) (aK rfl)) bD ⟨rfl,rfl⟩
def kn (p0:(List Zc)) (p1:Zj):Option (Int×Int):=(gZ p0 p1).bind fun x2=>some (x2.1.Total,x2.2)
theorem ox {p0:(List Zc)} {p1:Zj} {r:(Int×Int)}  (h:kn p0 p1=some r):PF 28 [pL Zc.enc p0,.agg (cw p1)] (.tup [pI r.1,pI r.2]):=by
 unfold kn at h
 refine bi ?_
 refine eg Tryz.func28 rfl Tryz.ntmps28 Tryz.results28 rfl (ae (ar rfl (bB (cs:=(cw p1)) rfl rfl (fun b1=>bu [4,5] (by kernel_rfl) (eo h fun x2 hx2 h=>ae (bd 6 [0] [9,10,11,8] [(12,.agg [pL Za.enc x2.1.Lines,pI x2.1.Total]),(13,pI x2.2)] (bz 2 (jU hx2) bA) (by kernel_rfl) (ar rfl (be (cs:=[pN,pI 0]) rfl rfl rfl rfl (fun b3=>aQ rfl rfl (ak (vs:=[pL Za.enc x2.1.Lines,pI x2.1.Total]) rfl rfl rfl rfl rfl cn jV (aL [(7,pI x2.2)] (by kernel_rfl) (bN (aT [0] [14,15,16] [(4,pI x2.1.Total),(5,pI x2.2)] (by kernel_rfl) (dB ?_))))))))))))))
 obtain rfl:=osi h
 exact aM (bR (aK rfl) (aK rfl)) bD ⟨rfl,rfl⟩
def js  : Option Bool:=(gZ [(⟨1,1,(⟨#[57,52]⟩:ByteArray),[],0,0,100,(-1),(⟨50000,0,0,false,0,false,0⟩:Zk)⟩:Zc),(⟨2,3,(⟨#[57,52]⟩:ByteArray),[],0,0,100,(-1),(⟨0,0,0,false,0,false,0⟩:Zk)⟩:Zc)] (⟨(⟨#[57,52,48,49,51,48,48,48]⟩:ByteArray),(⟨#[65,65]⟩:ByteArray),false,0,0,10,10000,0⟩:Zj)).bind fun x4=>(kn [(⟨1,1,(⟨#[57,52]⟩:ByteArray),[],0,0,100,(-1),(⟨50000,0,0,false,0,false,0⟩:Zk)⟩:Zc),(⟨2,3,(⟨#[57,52]⟩:ByteArray),[],0,0,100,(-1),(⟨0,0,0,false,0,false,0⟩:Zk)⟩:Zc)] (⟨(⟨#[57,52,48,49,51,48,48,48]⟩:ByteArray),(⟨#[65,65]⟩:ByteArray),true,0,0,10,10000,0⟩:Zj)).bind fun x6=>some (((((x4.2 == 0)&&(x6.2 == 0))&&(x4.1.Total == 500))&&((x4.1.Lines.length:Int) == 1))&&(x6.1 == 0))
theorem pV  {r:Bool}  (h:js  = some r):PF 10 [] (pB r):=by
 unfold js at h
 refine bi ?_
 refine eg Tryz.func10 rfl Tryz.ntmps10 Tryz.results10 rfl (bf [0] (by kernel_rfl) (bN (ae (bY 3 [7] [(8,.agg [pI 1,pI 1,pS (⟨#[57,52]⟩:ByteArray),pN,pI 0,pI 0,pI 100,pI (-1),pI 50000,pI 0,pI 0,pB false,pI 0,pB false,pI 0]),(9,.agg [pI 2,pI 3,pS (⟨#[57,52]⟩:ByteArray),pN,pI 0,pI 0,pI 100,pI (-1),pI 0,pI 0,pI 0,pB false,pI 0,pB false,pI 0])] (by kernel_rfl) (kb 8 3 rfl rfl (kb 9 3 rfl rfl (ar rfl (bW rfl rfl rfl rfl rfl (eW rfl (eW rfl jD)) rfl rfl rfl rfl (fun b1=>aL [(1,pO (some ⟨b1,0,none⟩) 2 2)] (by kernel_rfl) (bN (ae (aA 1 [(11,.agg [pS (⟨#[57,52,48,49,51,48,48,48]⟩:ByteArray),pS (⟨#[65,65]⟩:ByteArray),pB false,pI 0,pI 0,pI 10,pI 10000,pI 0])] (by kernel_rfl) (ar rfl (be (cs:=[pS ByteArray.empty,pS ByteArray.empty,pB false,pI 0,pI 0,pI 0,pI 0,pI 0]) rfl rfl rfl rfl (fun b3=>aQ rfl rfl (ak (vs:=[pS (⟨#[57,52,48,49,51,48,48,48]⟩:ByteArray),pS (⟨#[65,65]⟩:ByteArray),pB false,pI 0,pI 0,pI 10,pI 10000,pI 0]) rfl rfl rfl rfl rfl cn zl8 (az (bN (ae (fe 2 [0] [(13,pO (some ⟨b1,0,none⟩) 2 2),(14,.agg [pS (⟨#[57,52,48,49,51,48,48,48]⟩:ByteArray),pS (⟨#[65,65]⟩:ByteArray),pB false,pI 0,pI 0,pI 10,pI 10000,pI 0])] (by kernel_rfl) ?_))))))))))))))))))))
 refine kK (enc:=Zc.enc) (xs:=[(⟨1,1,(⟨#[57,52]⟩:ByteArray),[],0,0,100,(-1),(⟨50000,0,0,false,0,false,0⟩:Zk)⟩:Zc),(⟨2,3,(⟨#[57,52]⟩:ByteArray),[],0,0,100,(-1),(⟨0,0,0,false,0,false,0⟩:Zk)⟩:Zc)]) 13 rfl (by exact aR aZ) ?_
 refine aa h fun x4 hx4 h=>bd 4 [] [15,12] [(16,.agg [pL Za.enc x4.1.Lines,pI x4.1.Total]),(17,pI x4.2)] (bz 0 (jU hx4) bA) (by kernel_rfl) (ar rfl (be (cs:=[pN,pI 0]) rfl rfl rfl rfl (fun b5=>aQ rfl rfl (ak (vs:=[pL Za.enc x4.1.Lines,pI x4.1.Total]) rfl rfl rfl rfl rfl cn jV (aL [(4,pI x4.2)] (by kernel_rfl) (bN (ae (aA 1 [(18,pP b3 2)] (by kernel_rfl) (aQ rfl rfl (ak (vs:=[pB true]) rfl rfl rfl rfl rfl (cA (cA cn)) (bQ (bQ eX)) (az (bN (ae (fe 2 [2] [(20,pO (some ⟨b1,0,none⟩) 2 2),(21,.agg [pS (⟨#[57,52,48,49,51,48,48,48]⟩:ByteArray),pS (⟨#[65,65]⟩:ByteArray),pB true,pI 0,pI 0,pI 10,pI 10000,pI 0])] (by kernel_rfl) (sT (enc:=Zc.enc) (xs:=[(⟨1,1,(⟨#[57,52]⟩:ByteArray),[],0,0,100,(-1),(⟨50000,0,0,false,0,false,0⟩:Zk)⟩:Zc),(⟨2,3,(⟨#[57,52]⟩:ByteArray),[],0,0,100,(-1),(⟨0,0,0,false,0,false,0⟩:Zk)⟩:Zc)]) 20 rfl iZ (aa h fun x6 hx6 h=>gX [] [22,19,23,24] [(5,pI x6.1),(6,pI x6.2)] (bz 0 (ox hx6) bA) (by kernel_rfl) (bN (aT [0,0] (rg 25 21) [(0,pB (((((x4.2 == 0)&&(x6.2 == 0))&&(x4.1.Total == 500))&&((x4.1.Lines.length:Int) == 1))&&(x6.1 == 0)))] (by kernel_rfl) (dB ?_)))))))))))))))))))
 exact zz r h rfl
def cR (p0:(List Int)) (p1:(List Int)) (p2:(List Int)) (p3:(List Int)):Option Bool:=(eO p0).bind fun x1=>(iS p2).bind fun x2=>(fz x1 x2).bind fun x3=>(eO p1).bind fun x5=>(iS p3).bind fun x6=>(fz x5 x6).bind fun x7=>(cQ x3.1 x7.1).bind fun x9=>(cQ x7.1 x3.1).bind fun x10=>(el x3.1 x7.1).bind fun x11=>(eM x9 x11).bind fun x12=>cond ((!x12)||((x10.length:Int) != (x9.length:Int))) (some false) ((bk (S:=Int×Int) (T:=(Int)⊕(_)) (fun (v14,v15)=>cond (decide (v15<(x9.length:Int))) ((idx x9 v15).bind fun m20=>(idx x10 v15).bind fun m21=>(idx x9 v15).bind fun m22=>(gd (!(m21.Amount != (IntKind.i64.wrap (0 - m22.Amount)))) (idx x10 v15)).bind fun m23=>(gd (!(m21.Amount != (IntKind.i64.wrap (0 - m22.Amount)))) (idx x9 v15)).bind fun m24=>(gd (!((m21.Amount != (IntKind.i64.wrap (0 - m22.Amount)))||(m23.Kind != m24.Kind))) (idx x10 v15)).bind fun m25=>(gd (!((m21.Amount != (IntKind.i64.wrap (0 - m22.Amount)))||(m23.Kind != m24.Kind))) (idx x9 v15)).bind fun m26=>(gd (!(((m21.Amount != (IntKind.i64.wrap (0 - m22.Amount)))||(m23.Kind != m24.Kind))||(m25.Measure != m26.Measure))) (idx x9 v15)).bind fun m27=>cond ((((m21.Amount != (IntKind.i64.wrap (0 - m22.Amount)))||(m23.Kind != m24.Kind))||(m25.Measure != m26.Measure))||(m27.Amount == 0)) (some (.inr (.inr false))) (some (.inl ((IntKind.i64.wrap (v14+m20.Amount)),(IntKind.i64.wrap (v15+1)))))) (some (.inr (.inl v14)))) FUEL (0,0)).bind fun q=>match q with | .inl v16=>(gd (v16 == (IntKind.i64.wrap (x7.1.Total - x3.1.Total))) (cQ x3.1 x3.1)).bind (fun x29=>(gd ((v16 == (IntKind.i64.wrap (x7.1.Total - x3.1.Total)))&&((x29.length:Int) == 0)) (js)).bind fun x30=>some (((v16 == (IntKind.i64.wrap (x7.1.Total - x3.1.Total)))&&((x29.length:Int) == 0))&&x30)) | .inr e=>some e)
theorem jk {p0:(List Int)} {p1:(List Int)} {p2:(List Int)} {p3:(List Int)} {r:Bool}  (h:cR p0 p1 p2 p3=some r):PF 3 [pL eI p0,pL eI p1,pL eI p2,pL eI p3] (pB r):=by
 unfold cR at h
 refine bi ?_
 refine eg Tryz.func3 rfl Tryz.ntmps3 Tryz.results3 rfl (bf [8] (by kernel_rfl) (eo h fun x1 hx1 h=>aa h fun x2 hx2 h=>aa h fun x3 hx3 h=>ae (bd 8 [] ((rg 18 5)++[17]) [(23,.agg [pL Za.enc x3.1.Lines,pI x3.1.Total]),(24,pI x3.2)] (bz 1 (jO hx1) (bz 3 (mU hx2) (bz 4 (ku hx3) bA))) (by kernel_rfl) (ar rfl (be (cs:=[pN,pI 0]) rfl rfl rfl rfl (fun b4=>aQ rfl rfl (ak (vs:=[pL Za.enc x3.1.Lines,pI x3.1.Total]) rfl rfl rfl rfl rfl cn jV (bu [10] (by kernel_rfl) (eo h fun x5 hx5 h=>aa h fun x6 hx6 h=>aa h fun x7 hx7 h=>ae (bd 8 [] ((rg 26 5)++[25]) [(31,.agg [pL Za.enc x7.1.Lines,pI x7.1.Total]),(32,pI x7.2)] (bz 1 (jO hx5) (bz 3 (mU hx6) (bz 4 (ku hx7) bA))) (by kernel_rfl) (ar rfl (be (cs:=[pN,pI 0]) rfl rfl rfl rfl (fun b8=>aQ rfl rfl (ak (vs:=[pL Za.enc x7.1.Lines,pI x7.1.Total]) rfl rfl rfl rfl rfl cn jV (bu [12] (by kernel_rfl) (bN (bH (ρd:=[]) [(0,0),(1,0),(3,0),(4,0),(2,1),(5,1),(6,0),(7,0)] _ (List.Perm.refl _) (by kernel_rfl) rfl (aa h fun x9 hx9 h=>aa h fun x10 hx10 h=>bV 8 [1,0,0,1] [33,34,36,37,35,38] [(13,pL Za.enc x9),(14,pL Za.enc x10)] (bz 4 (fj hx9) (bz 5 (fj hx10) bA)) (by kernel_rfl) (ce (cH (aa h fun x11 hx11 h=>aa h fun x12 hx12 h=>aD [1,0] (rg 39 12) [(51,pB ((!x12)||((x10.length:Int) != (x9.length:Int))))] (bz 3 (ly hx11) (bz 4 (lT hx12) bA)) (by kernel_rfl) (bZ rfl h (fun hc13 h=>?_) fun hc13 h=>?_))))))))))))))))))))))
 ·refine af ?_
  refine ai [(8,pB false)] (by kernel_rfl) (fB ?_)
  exact zz r h rfl
 refine ag ?_
 refine bN (ai [(15,pI 0)] (by kernel_rfl) (cH (ai [(16,pI 0)] (by kernel_rfl) (fu h fun q18 hq18 h=>?_))))
 refine av (Y:=Unit×Int) (fun (_,v16)=>[(9,pP b4 0),(11,pP b8 0),(15,pI v16)]) (fun (_,v16)=>[PRes.b b4 25 [pL Za.enc x3.1.Lines,pI x3.1.Total],PRes.b b8 25 [pL Za.enc x7.1.Lines,pI x7.1.Total]]) (fun (_,v16)=>q18=Sum.inl v16) ?_ ?_
 ·refine an ?_
  refine aY (Y:=Unit) (S:=Int×Int) _ hq18 (fun _ (v14,v15)=>[(9,pP b4 0),(11,pP b8 0),(13,pL Za.enc x9),(14,pL Za.enc x10),(15,pI v14),(16,pI v15)]) (fun _ (v14,v15)=>[PRes.b b4 25 [pL Za.enc x3.1.Lines,pI x3.1.Total],PRes.b b8 25 [pL Za.enc x7.1.Lines,pI x7.1.Total]]) () (qj rfl) (bv (aR aZ) dx) ?_
  rintro _ ⟨v14,v15⟩ o τ hb17;(try dsimp only at hb17);dsimp only [aF]
  refine fW (ah [52,53,54] [(55,pB (decide (v15<(x9.length:Int))))] (by kernel_rfl) (bZ rfl hb17 (fun hc19 hb17=>?_) fun hc19 hb17=>?_))
  ·refine ag ?_
   refine bN (an (af (aa hb17 fun m20 hm20 hb17=>aD [] (rg 58 7) [(15,pI (IntKind.i64.wrap (v14+m20.Amount)))] (eH 3 Za.enc hm20 bA) (by kernel_rfl) (bN (bH (ρd:=[]) [(0,0),(1,0),(2,0),(3,0),(4,0),(5,0),(6,0),(7,0),(8,0),(9,0),(10,0),(11,0),(12,0),(13,0),(14,0),(15,0),(16,0),(17,0),(18,0),(19,0),(20,0),(21,0),(22,0),(23,0),(24,0),(25,0),(26,0),(27,0),(28,0),(29,0),(30,0),(31,0),(32,0),(33,0),(34,0),(35,0),(36,0),(37,0),(38,0),(39,0),(40,0),(41,0),(42,0),(43,0),(44,0),(45,0)] _ (List.Perm.refl _) (by kernel_rfl) rfl (aa hb17 fun m21 hm21 hb17=>aa hb17 fun m22 hm22 hb17=>aa hb17 fun m23 hm23 hb17=>aa hb17 fun m24 hm24 hb17=>aa hb17 fun m25 hm25 hb17=>aa hb17 fun m26 hm26 hb17=>aa hb17 fun m27 hm27 hb17=>bV 46 [] (rg 65 45) [(110,pB ((((m21.Amount != (IntKind.i64.wrap (0 - m22.Amount)))||(m23.Kind != m24.Kind))||(m25.Measure != m26.Measure))||(m27.Amount == 0)))] (eH 2 Za.enc hm21 (eH 7 Za.enc hm22 (hY 15 Za.enc (cB hm23) (hY 20 Za.enc (cB hm24) (hY 28 Za.enc (cB hm25) (hY 33 Za.enc (cB hm26) (hY 41 Za.enc (cB hm27) bA))))))) (by kernel_rfl) (ce (bZ rfl hb17 (fun hc28 hb17=>?_) fun hc28 hb17=>?_))))))))
   ·refine af ?_
    refine ai [(8,pB false)] (by kernel_rfl) (dB (aw (aP ?_)))
    refine bp hb17 (fun ht=>?_);subst ht
    refine aw (bt ?_)
    exact zz r h rfl
   refine ag ?_
   refine aj (aH (ah [56,57] [(16,pI (IntKind.i64.wrap (v15+1)))] (by kernel_rfl) ?_))
   exact bm hb17 () (qj rfl) ml
  refine ba ?_
  refine aI (aB hb17 (fun ht=>aG rfl ?_))
  exact au ((),v14) (jh rfl) ml ht.symm
 rintro ⟨_,v16⟩ τ hz;(try dsimp only at hz);subst q18;(try dsimp only at h);dsimp only [aF]
 refine af (aa h fun x29 hx29 h=>aa h fun x30 hx30 h=>aD [1,0,0,0] (rg 111 17) [(8,pB (((v16 == (IntKind.i64.wrap (x7.1.Total - x3.1.Total)))&&((x29.length:Int) == 0))&&x30))] (eJ 10 (fun hc=>fj (cB hx29 hc)) (eJ 15 (fun hc=>pV (cB hx30 hc)) bA)) (by kernel_rfl) (dB ?_))
 exact zz r h rfl
end SX
namespace SX
open Go
def kl (x:Za):Zb:=⟨x.Kind,x.Measure⟩
def nl (k:Zb) (v:Int):Za:=⟨k.kind,k.measure,0,0,v⟩
def up (x:Za) (v:Int):Za:=⟨x.Kind,x.Measure,x.Quantity,x.Value,IntKind.i64.wrap (x.Amount+v)⟩
def cI:List Za→Zb→Int→List Za
 | [],k,v=>[up (nl k 0) v]
 | x::l,k,v=>cond (bF (kl x) k) (x::cI l k v) (cond (decide (kl x=k)) (up x v::l) (up (nl k 0) v::x::l))
def hd (l:List Za) (k:Zb):Nat:=(l.takeWhile fun y=>bF (kl y) k).length
theorem hd_le:∀ (l:List Za) (k:Zb),hd l k≤l.length
 | [],_=>Nat.zero_le _
 | x::l,k=>by
  unfold hd
  rw [List.takeWhile_cons]
  cases bF (kl x) k
  ·exact Nat.zero_le _
  exact Nat.succ_le_succ (hd_le l k)
theorem hd_lt:∀ {l:List Za} {k:Zb} {j:Nat} (hj:j<l.length),j<hd l k→bF (kl l[j]) k=true
 | x::l,k,j,hj,h=>by
  unfold hd at h
  rw [List.takeWhile_cons] at h
  cases hx:bF (kl x) k with
  | false=>rw [hx] at h;exact absurd h (Nat.not_lt_zero _)
  | true =>
   rw [hx] at h
   cases j with
   | zero=>exact hx
   | succ j=>exact hd_lt (l:=l) (by simpa using hj) (by simpa [hd] using h)
theorem hd_at:∀ {l:List Za} {k:Zb} (hj:hd l k<l.length),bF (kl (l[hd l k]'hj)) k=false
 | x::l,k,hj=>by
  cases hx:bF (kl x) k with
  | false =>
   have e:hd (x::l) k=0:=by unfold hd;rw [List.takeWhile_cons,hx];rfl
   simp only [e,List.getElem_cons_zero];exact hx
  | true =>
   have e:hd (x::l) k=hd l k+1:=by unfold hd;rw [List.takeWhile_cons,hx];rfl
   simp only [e,List.getElem_cons_succ]
   exact hd_at (l:=l) (by rw [e] at hj;simpa using hj)
theorem vC (v:Int):∀ (l:List Za) (k:Zb),cI l k v=l.take (hd l k)++(match l.drop (hd l k) with | []=>[up (nl k 0) v] | y::r=>cond (decide (kl y=k)) (up y v::r) (up (nl k 0) v::y::r))
 | [],k=>rfl
 | x::l,k=>by
  cases hx:bF (kl x) k with
  | false =>
   have e:hd (x::l) k=0:=by unfold hd;rw [List.takeWhile_cons,hx];rfl
   rw [cI,hx,e]
   rfl
  | true =>
   have e:hd (x::l) k=hd l k+1:=by unfold hd;rw [List.takeWhile_cons,hx];rfl
   rw [cI,hx,e,cZ,vC v l k]
   rfl
theorem yE (x y:Za):bF (kl x) (kl y)=(decide (x.Kind<y.Kind)||(decide (x.Kind=y.Kind)&&decide (x.Measure<y.Measure))):=rfl
theorem rZ {l:List Za} (x:Za) (v:Int) {j:Nat} (hj:j≤l.length) (hl:l.length≤1000):(Option.bind (Option.bind (sub l 0 (j:Int)) (fun l19=>Option.bind (sub l (j:Int) (l.length:Int)) (fun l20=>Option.bind (app 40 ([]:List Za) l19) (fun l23=>Option.bind (app 40 l23 [(⟨x.Kind,x.Measure,0,0,0⟩:Za)]) (fun l29=>Option.bind (app 40 l29 l20) (fun l33=>some l33)))))) (fun l16=>Option.bind (idx l16 (j:Int)) (fun m39=>Option.bind (idx l16 (j:Int)) (fun m40=>some (l16.set (j:Int).toNat (⟨m40.Kind,m40.Measure,m40.Quantity,m40.Value,(IntKind.i64.wrap (m39.Amount+v))⟩:Za))))))=some (l.take j++up (nl (kl x) 0) v::l.drop j):=by
 have hm:min j l.length=j:=by omega
 have hlen:(l.take j).length=j:=by rw [List.length_take];exact hm
 have hs0:sub l 0 (j:Int)=some (l.take j):=by have:=yx (xs:=l) (Nat.zero_le j) hj;simpa using this
 rw [hs0,ft,yx hj (Nat.le_refl _),ft]
 simp only [List.take_length]
 rw [nE (by simp;omega) (by simp;omega),ft,nE (by simp;omega) (by simp;omega),ft,nE (by simp;omega) (by simp;omega),ft,ft,List.nil_append,List.append_assoc]
 have hi:idx (l.take j++([(⟨x.Kind,x.Measure,0,0,0⟩:Za)]++l.drop j)) (j:Int)=some ⟨x.Kind,x.Measure,0,0,0⟩:=by
  unfold idx
  rw [if_pos (by omega),Int.toNat_natCast,List.getElem?_append_right (by omega),hlen,Nat.sub_self];rfl
 rw [hi,ft,ft,Int.toNat_natCast,List.set_append_right (h:=by omega),hlen,Nat.sub_self]
 rfl
theorem add_old {l:List Za} (v:Int) {j:Nat} (hj:j<l.length):(Option.bind (idx l (j:Int)) (fun m39=>Option.bind (idx l (j:Int)) (fun m40=>some (l.set (j:Int).toNat (⟨m40.Kind,m40.Measure,m40.Quantity,m40.Value,(IntKind.i64.wrap (m39.Amount+v))⟩:Za)))))=some (l.take j++up l[j] v::l.drop (j+1)):=by
 rw [cC hj,ft,ft,Int.toNat_natCast,List.set_eq_take_append_cons_drop,if_pos hj];rfl
theorem yF {l:List Za} (x:Za) (s:Int) (hl:l.length≤1000):f0 l x s=some (cI l (kl x) (IntKind.i64.wrap (s*x.Amount))):=by
 have hle:=hd_le l (kl x)
 have key:Y (f0 l x s) (fun r=>r=cI l (kl x) (IntKind.i64.wrap (s*x.Amount))):=by
  unfold f0
  refine Y.bind (P:=fun t:Int=>t=((hd l (kl x):Nat):Int)) ?_ ?_
  ·refine Y.loop (fun t:Int=>∃ j:Nat,t=(j:Int)∧j≤hd l (kl x)) (fun t=>(hd l (kl x) - t).toNat) ⟨0,rfl,Nat.zero_le _⟩ (by omega) ?_
   rintro t ⟨j,rfl,hj⟩
   rcases Nat.lt_or_ge j l.length with h | h
   ·rw [det (by omega:(j:Int)<((l.length:Nat):Int)),dD,cC h]
    simp only [ft,Bool.true_and]
    have hlt:(decide (l[j].Kind<x.Kind)||((l[j].Kind == x.Kind)&&decide (l[j].Measure<x.Measure)))=bF (kl l[j]) (kl x):=by
     rw [yE];rfl
    have hgo:∀ b:Bool,b=bF (kl l[j]) (kl x)→(b=true∧j<hd l (kl x))∨(b=false∧j=hd l (kl x)):=by
     intro b hb
     rcases Nat.lt_or_ge j (hd l (kl x)) with hj2 | hj2
     ·exact .inl ⟨by rw [hb,hd_lt h hj2],hj2⟩
     have e:j=hd l (kl x):=by omega
     refine .inr ⟨?_,e⟩
     subst e
     rw [hb,hd_at h]
    cases h1:decide (l[j].Kind<x.Kind) with
    | true =>
     simp only [Bool.not_true,pG,ft,Bool.false_and,Bool.true_or]
     rcases hgo true (by rw [← hlt,h1];rfl) with ⟨e,h5⟩ | ⟨e,h5⟩
     ·rw [e,cZ,cy (by omega) (by omega)];exact Y.ret ⟨⟨j+1,by omega,h5⟩,by omega⟩
     ·rw [e,eY];exact Y.ret (by omega)
    | false =>
     simp only [Bool.not_false,dD,ft,Bool.true_and,Bool.false_or]
     cases h2:(l[j].Kind == x.Kind) with
     | true =>
      simp only [dD,ft,Bool.true_and]
      rcases hgo (decide (l[j].Measure<x.Measure)) (by rw [← hlt,h1,h2];simp) with ⟨e,h5⟩ | ⟨e,h5⟩
      ·rw [e,cZ,cy (by omega) (by omega)];exact Y.ret ⟨⟨j+1,by omega,h5⟩,by omega⟩
      ·rw [e,eY];exact Y.ret (by omega)
     | false =>
      simp only [pG,ft,Bool.false_and]
      rcases hgo false (by rw [← hlt,h1,h2];rfl) with ⟨e,h5⟩ | ⟨e,h5⟩
      ·rw [e,cZ,cy (by omega) (by omega)];exact Y.ret ⟨⟨j+1,by omega,h5⟩,by omega⟩
      rw [e,eY];exact Y.ret (by omega)
   rw [cU (by omega:¬ (j:Int)<((l.length:Nat):Int)),pG]
   simp only [ft,pG,Bool.false_and,eY]
   exact Y.ret (by omega)
  rintro t rfl
  rw [vC]
  generalize hj:hd l (kl x)=j at hle ⊢
  rcases Nat.lt_or_ge j l.length with h | h
  ·have hne:((j:Int) == ((l.length:Nat):Int))=false:=by simp;omega
   rw [List.drop_eq_getElem_cons h]
   dsimp only
   have hkl:decide (kl l[j]=kl x)=((l[j].Kind == x.Kind)&&(l[j].Measure == x.Measure)):=by
    rw [Bool.eq_iff_iff,decide_eq_true_eq,Bool.and_eq_true,beq_iff_eq,beq_iff_eq]
    unfold kl
    constructor
    ·intro e;cases e':l[j];rw [e'] at e;simp at e;exact e
    intro e;rw [e.1,e.2]
   rw [hne,Bool.not_false,dD,cC h,ft,Bool.false_or,hkl,show (l[j].Kind != x.Kind) = !(l[j].Kind == x.Kind) from rfl]
   cases h1:(l[j].Kind == x.Kind) with
   | false =>
    simp only [Bool.not_false,Bool.not_true,pG,ft,Bool.true_or,cZ,Bool.false_and,eY]
    rw [rZ x _ hle hl,List.drop_eq_getElem_cons h]
    exact Y.ret rfl
   | true =>
    simp only [Bool.not_true,Bool.not_false,dD,ft,Bool.false_or,Bool.true_and]
    rw [show (l[j].Measure != x.Measure) = !(l[j].Measure == x.Measure) from rfl]
    cases h2:(l[j].Measure == x.Measure) with
    | false =>
     simp only [Bool.not_false,cZ,eY]
     rw [rZ x _ hle hl,List.drop_eq_getElem_cons h]
     exact Y.ret rfl
    | true =>
     simp only [Bool.not_true,eY,cZ,ft]
     rw [add_old _ h]
     exact Y.ret rfl
  have:j=l.length:=by omega
  subst this
  have hne:(((l.length:Nat):Int) == ((l.length:Nat):Int))=true:=by simp
  simp only [hne,Bool.not_true,pG,ft,Bool.true_or,cZ]
  rw [rZ x _ (Nat.le_refl _) hl,List.drop_length]
  exact Y.ret rfl
 obtain ⟨r,e,rfl⟩:=key
 exact e
theorem kl_up (x:Za) (v:Int):kl (up x v)=kl x:=rfl
theorem jd (v:Int):∀ {l:List Za} {k:Zb} {z:Za},l.Pairwise (fun a b=>bF (kl a) (kl b)=true)→(z∈cI l k v↔(z∈l∧kl z≠k)∨(∃ x∈l,kl x=k∧z=up x v)∨((∀ x∈l,kl x≠k)∧z=up (nl k 0) v))
 | [],k,z,_=>by simp [cI]
 | x::l,k,z,h=>by
  obtain ⟨h1,h2⟩:=List.pairwise_cons.1 h
  have ih:=jd v (l:=l) (k:=k) (z:=z) h2
  rw [cI]
  cases hx:bF (kl x) k with
  | true =>
   have hne:kl x≠k:=fun e=>by rw [e,gc] at hx;cases hx
   rw [cZ,List.mem_cons,ih]
   constructor
   ·rintro (rfl | ⟨a,b⟩ | ⟨y,a,b,c⟩ | ⟨a,b⟩)
    ·exact .inl ⟨by simp,hne⟩
    ·exact .inl ⟨by simp [a],b⟩
    ·exact .inr (.inl ⟨y,by simp [a],b,c⟩)
    exact .inr (.inr ⟨fun y hy=>by rcases List.mem_cons.1 hy with rfl | hy;exact hne;exact a y hy,b⟩)
   ·rintro (⟨a,b⟩ | ⟨y,a,b,c⟩ | ⟨a,b⟩)
    ·rcases List.mem_cons.1 a with rfl | a
     ·exact .inl rfl
     exact .inr (.inl ⟨a,b⟩)
    ·rcases List.mem_cons.1 a with rfl | a
     ·exact absurd b hne
     exact .inr (.inr (.inl ⟨y,a,b,c⟩))
    ·exact .inr (.inr (.inr ⟨fun y hy=>a y (by simp [hy]),b⟩))
  | false =>
   have hge:∀ y∈l,kl y≠k:=fun y hy e=>by have:=h1 y hy;rw [e,hx] at this;cases this
   rw [eY]
   by_cases e:kl x=k
   ·rw [det e,cZ,List.mem_cons]
    constructor
    ·rintro (rfl | a)
     ·exact .inr (.inl ⟨x,by simp,e,rfl⟩)
     exact .inl ⟨by simp [a],hge z a⟩
    rintro (⟨a,b⟩ | ⟨y,a,b,c⟩ | ⟨a,b⟩)
    ·rcases List.mem_cons.1 a with rfl | a
     ·exact absurd e b
     exact .inr a
    ·rcases List.mem_cons.1 a with rfl | a
     ·exact .inl c
     exact absurd b (hge y a)
    exact absurd e (a x (by simp))
   rw [cU e,eY,List.mem_cons]
   have hall:∀ y∈x::l,kl y≠k:=fun y hy=>by rcases List.mem_cons.1 hy with rfl | hy;exact e;exact hge y hy
   constructor
   ·rintro (rfl | a)
    ·exact .inr (.inr ⟨hall,rfl⟩)
    exact .inl ⟨a,hall z a⟩
   rintro (⟨a,b⟩ | ⟨y,a,b,c⟩ | ⟨a,b⟩)
   ·exact .inr a
   ·exact absurd b (hall y a)
   exact .inl b
theorem pW (v:Int):∀ {l:List Za} {k:Zb} {z:Za},z∈cI l k v→kl z=k∨∃ x∈l,kl z=kl x
 | [],k,z,h=>by
  rw [cI,List.mem_singleton] at h;subst h;exact .inl rfl
 | x::l,k,z,h=>by
  rw [cI] at h
  cases hx:bF (kl x) k with
  | true =>
   rw [hx,cZ] at h
   rcases List.mem_cons.1 h with rfl | h
   ·exact .inr ⟨z,by simp,rfl⟩
   ·rcases pW v h with e | ⟨y,hy,e⟩
    ·exact .inl e
    ·exact .inr ⟨y,by simp [hy],e⟩
  | false =>
   rw [hx,eY] at h
   by_cases e:kl x=k
   ·rw [det e,cZ] at h
    rcases List.mem_cons.1 h with rfl | h
    ·exact .inl e
    exact .inr ⟨z,by simp [h],rfl⟩
   rw [cU e,eY] at h
   rcases List.mem_cons.1 h with rfl | h
   ·exact .inl rfl
   exact .inr ⟨z,h,rfl⟩
theorem tI (v:Int):∀ {l:List Za} {k:Zb},l.Pairwise (fun a b=>bF (kl a) (kl b)=true)→(cI l k v).Pairwise (fun a b=>bF (kl a) (kl b)=true)
 | [],k,_=>by simp [cI]
 | x::l,k,h=>by
  obtain ⟨h1,h2⟩:=List.pairwise_cons.1 h
  rw [cI]
  cases hx:bF (kl x) k with
  | true =>
   rw [cZ]
   refine List.pairwise_cons.2 ⟨fun z hz=>?_,tI v h2⟩
   rcases pW v hz with e | ⟨y,hy,e⟩
   ·rw [e];exact hx
   ·rw [e];exact h1 y hy
  | false =>
   rw [eY]
   by_cases e:kl x=k
   ·rw [det e,cZ]
    exact List.pairwise_cons.2 ⟨fun z hz=>h1 z hz,h2⟩
   rw [cU e,eY]
   have hk:bF k (kl x)=true:=by
    cases h3:bF k (kl x) with
    | true=>rfl
    | false=>exact absurd (lu _ _ hx h3) e
   refine List.pairwise_cons.2 ⟨fun z hz=>?_,h⟩
   rcases List.mem_cons.1 hz with rfl | hz
   ·exact hk
   exact jc _ _ _ hk (h1 z hz)
theorem tJ {K V:Type} [DecidableEq K]:∀ (xs:List (K×V)) (k k':K) (v:V),cr (mM xs k v) k'=if k=k' then some v else cr xs k'
 | [],k,k',v=>by simp [mM,cr]
 | (a,w)::r,k,k',v=>by
  unfold mM
  by_cases h:a=k
  ·rw [if_pos h]
   subst h
   unfold cr
   by_cases h2:a=k'
   ·simp [h2]
   simp [h2]
  rw [if_neg h]
  unfold cr
  rw [tJ r k k' v]
  by_cases h2:a=k'
  ·subst h2
   rw [if_pos rfl,if_pos rfl,if_neg (fun e=>h e.symm)]
  rw [if_neg h2,if_neg h2]
abbrev Tly:=List Zb×List (Zb×Int)
def tf (s:Tly) (k:Zb) (v:Int):Tly:=(cond (cr s.2 k).isSome s.1 (s.1++[k]),mM s.2 k (IntKind.i64.wrap ((cr s.2 k).getD 0+v)))
theorem tK {s:Tly} (k:Zb) (v:Int) (h:s.1.length≤1000):kX s.1 s.2 k v=some (tf s k v):=by
 unfold kX tf
 cases (cr s.2 k).isSome
 ·rw [Bool.not_false,cZ,nE (by simp;omega) (by simp;omega),ft];rfl
 rfl
theorem yG (s:Tly) (k:Zb) (v:Int):(tf s k v).1.length≤s.1.length+1:=by
 unfold tf
 cases (cr s.2 k).isSome <;> simp
theorem tL (v:Int):∀ (l:List Za) (k:Zb),(cI l k v).length≤l.length+1
 | [],_=>by simp [cI]
 | x::l,k=>by
  rw [cI]
  have:=tL v l k
  cases bF (kl x) k <;> cases decide (kl x=k) <;> simp <;> omega
structure Zo (s:Tly) (l:List Za):Prop where
 asc:l.Pairwise (fun a b=>bF (kl a) (kl b)=true)
 nd:s.1.Nodup
 mem:∀ k,k∈s.1↔∃ x∈l,kl x=k
 has:∀ k,k∈s.1↔(cr s.2 k).isSome=true
 val:∀ x∈l,x=nl (kl x) ((cr s.2 (kl x)).getD 0)
theorem Zo.nil:Zo ([],[]) []:=⟨List.Pairwise.nil,List.nodup_nil,fun k=>by simp,fun k=>by simp [cr],fun x h=>by cases h⟩
theorem tf_mem (s:Tly) (k:Zb) (v:Int) (hh:∀ k,k∈s.1↔(cr s.2 k).isSome=true) (k':Zb):k'∈(tf s k v).1↔k'=k∨k'∈s.1:=by
 unfold tf
 cases h:(cr s.2 k).isSome with
 | true =>
  rw [cZ]
  constructor
  ·exact .inr
  ·rintro (rfl | h2)
   ·exact (hh _).2 h
   ·exact h2
 | false=>rw [eY,List.mem_append,List.mem_singleton];exact or_comm
theorem Zo.step {s:Tly} {l:List Za} (h:Zo s l) (k:Zb) (v:Int):Zo (tf s k v) (cI l k v):=by
 have hm:=tf_mem s k v h.has
 have hget:∀ k',cr (tf s k v).2 k'=if k=k' then some (IntKind.i64.wrap ((cr s.2 k).getD 0+v)) else cr s.2 k':=fun k'=>tJ _ _ _ _
 refine ⟨tI v h.asc,?_,fun k'=>?_,fun k'=>?_,fun z hz=>?_⟩
 ·unfold tf
  cases h2:(cr s.2 k).isSome with
  | true=>exact h.nd
  | false =>
   rw [eY]
   refine List.nodup_append.2 ⟨h.nd,by simp,fun a ha b hb e=>?_⟩
   rw [List.mem_singleton] at hb
   subst e hb
   rw [(h.has _).1 ha] at h2;cases h2
 ·rw [hm,h.mem]
  constructor
  ·intro hk
   by_cases hex:∃ x∈l,kl x=k
   ·obtain ⟨x,hx,e⟩:=hex
    rcases hk with rfl | ⟨y,hy,e2⟩
    ·exact ⟨up x v,(jd v h.asc).2 (.inr (.inl ⟨x,hx,e,rfl⟩)),e⟩
    by_cases e3:kl y=k
    ·exact ⟨up y v,(jd v h.asc).2 (.inr (.inl ⟨y,hy,e3,rfl⟩)),e2⟩
    exact ⟨y,(jd v h.asc).2 (.inl ⟨hy,e3⟩),e2⟩
   have hno:∀ x∈l,kl x≠k:=fun x hx e=>hex ⟨x,hx,e⟩
   rcases hk with rfl | ⟨y,hy,e2⟩
   ·exact ⟨up (nl k' 0) v,(jd v h.asc).2 (.inr (.inr ⟨hno,rfl⟩)),rfl⟩
   exact ⟨y,(jd v h.asc).2 (.inl ⟨hy,hno y hy⟩),e2⟩
  rintro ⟨z,hz,rfl⟩
  rcases pW v hz with e | ⟨x,hx,e⟩
  ·exact .inl e
  exact .inr ⟨x,hx,e.symm⟩
 ·rw [hm,hget]
  by_cases e:k=k'
  ·subst e;simp
  rw [if_neg e,← h.has]
  constructor
  ·rintro (rfl | h2)
   ·exact absurd rfl e
   exact h2
  exact .inr
 rw [hget]
 rcases (jd v h.asc).1 hz with ⟨a,b⟩ | ⟨x,a,b,rfl⟩ | ⟨a,rfl⟩
 ·rw [if_neg (fun e=>b e.symm)];exact h.val z a
 ·rw [if_pos (by rw [kl_up];exact b.symm)]
  have hx:=h.val x a
  have e1:x.Quantity=0:=by rw [hx];rfl
  have e2:x.Value=0:=by rw [hx];rfl
  have e3:x.Amount=(cr s.2 k).getD 0:=by rw [hx,b];rfl
  unfold up nl kl
  dsimp only
  rw [e1,e2,e3];rfl
 have hk:kl (up (nl k 0) v)=k:=rfl
 rw [hk,if_pos rfl]
 have hno:(cr s.2 k).isSome=false:=by
  cases h2:(cr s.2 k).isSome with
  | false=>rfl
  | true =>
   obtain ⟨x,hx,e⟩:=(h.mem k).1 ((h.has k).2 h2)
   exact absurd e (a x hx)
 have e0:cr s.2 k=none:=by cases h3:cr s.2 k with | none=>rfl | some w=>rw [h3] at hno;cases hno
 rw [e0];rfl
def k0 (W:World):Kr:=⟨W,fun b=>b<W.heap.size⟩
theorem mg {t:Nat} {z:Value} {s b:Nat} (h:dU t=some (z,s,b)):Tryz.prog.cellsOf t=s∧Tryz.prog.bytesOf t=b:=by
 obtain ⟨i,h1,h2,h3,h4⟩:=mr h
 constructor
 ·simp [Program.cellsOf,h1,h3]
 simp [Program.bytesOf,h1,h4]
def Light {H:Type} (t:Nat) (d:DataW H):Prop:=∀ n∈d.weights Tryz.prog t,n≤reachBytes
theorem yH {H:Type} (d:DataW H):1≤Rows.uptoBulk d:=by
 cases d with
 | lit l=>cases l <;> simp [Rows.uptoBulk]
 | nil=>simp [Rows.uptoBulk]
 | ptr d=>simp [Rows.uptoBulk]
 | slice elems spare=>simp [Rows.uptoBulk]
 | agg parts=>simp [Rows.uptoBulk]
 | iface t d=>simp [Rows.uptoBulk]
 | map entries=>simp [Rows.uptoBulk]
 | held h=>simp [Rows.uptoBulk]
theorem wI {H:Type} {d:DataW H} {l:List (DataW H)} (h:d∈l):Rows.uptoBulk d≤Rows.uptoBulkAll l:=by
 induction l with
 | nil=>cases h
 | cons x r ih =>
  simp only [Rows.uptoBulkAll]
  cases List.mem_cons.1 h with
  | inl e=>subst e;omega
  | inr e=>have:=ih e;omega
theorem yI {H:Type} (l:List (DataW H)):l.length≤Rows.uptoBulkAll l:=by
 induction l with
 | nil=>simp [Rows.uptoBulkAll]
 | cons x r ih=>have:=yH x;simp only [Rows.uptoBulkAll,List.length_cons];omega
def Opens {H:Type} (eh:TypeId×Value→H) {α:Type} (n:Nat) (t:Nat) (e:α→List PV) (B:α→Prop):Prop :=
 ∀ (W:World) (fuel:Nat) (cs:List Value) (x:DataW H×List MemPlace),DataW.trod eh Tryz.prog W 0 (fun _=>true) true fuel t cs=some x→Light t x.1→Rows.uptoBulk x.1≤n→∃ m,Rps (k0 W) (e m) cs∧One cs∧B m
section
variable {H:Type} {eh:TypeId×Value→H} {nb:Nat}
theorem one1 {v:Value} (h:v.oneCell'=true):One [v]:=fun u hu=>by rw [List.mem_singleton.1 hu];exact h
theorem wJ {t:Nat} {k:IntKind} (h:dv t=some (.int k)):Opens eh nb t (fun x:Int=>[.v (.int k x)]) (fun _=>True):=fun W fuel cs x hx _ _=>by
 obtain ⟨n,rfl,_,_⟩:=DataW.trod_int (br h) hx
 exact ⟨n,.cons (.v rfl) .nil,one1 rfl,trivial⟩
theorem kY {e:Nat}:∀ {l:List (DataW H)} {d:DataW H} {n:Nat},d∈l→n∈d.weights Tryz.prog e→n∈DataW.weightsAll Tryz.prog e l
 | d'::l,d,n,hd,hn=>by
  simp only [DataW.weightsAll,List.mem_append]
  rcases List.mem_cons.1 hd with rfl | hd
  ·exact .inl hn
  exact .inr (kY hd hn)
theorem vD {α β:Type} {R:α→β→Prop}:∀ (l:List β),(∀ b∈l,∃ a,R a b)→∃ la:List α,la.length=l.length∧∀ (i:Nat) (b:β),l[i]?=some b→∃ a,la[i]?=some a∧R a b
 | [],_=>⟨[],rfl,fun i b h=>by simp at h⟩
 | b::l,h=>by
  obtain ⟨a,ha⟩:=h b (by simp)
  obtain ⟨la,h1,h2⟩:=vD l fun b hb=>h b (by simp [hb])
  refine ⟨a::la,by simp [h1],fun i b' hb=>?_⟩
  cases i with
  | zero=>simp only [List.getElem?_cons_zero,da] at hb;subst hb;exact ⟨a,rfl,ha⟩
  | succ i=>simp only [List.getElem?_cons_succ] at hb ⊢;exact h2 i b' hb
def OpensN {H:Type} (eh:TypeId×Value→H) {α:Type} (N n:Nat) (t:Nat) (e:α→List PV) (B:α→Prop):Prop :=
 ∀ (W:World) (fuel:Nat) (cs:List Value) (x:DataW H×List MemPlace),fuel<N→DataW.trod eh Tryz.prog W 0 (fun _=>true) true fuel t cs=some x→Light t x.1→Rows.uptoBulk x.1≤n→∃ m,Rps (k0 W) (e m) cs∧One cs∧B m
theorem r7 {α:Type} {N t E sz by':Nat} {z:Value} {e:α→List PV} {B:α→Prop} (hu:dv t=some (.slice E)) (hi:dU E=some (z,sz,by')) (h0:Nat.blt 0 sz=true) (hb0:Nat.blt 0 by'=true) (hE:OpensN eh N nb E e B):OpensN eh (N+1) nb t (eL e) (fun l=>l.length*by'≤140737488355328∧l.length≤nb∧∀ x∈l,B x):=fun W fuel cs x hfu hx hw hbk=>by
 obtain ⟨hcz,hby⟩:=mg hi
 have hsz:0<sz:=by have:=h0;simp [Nat.blt] at this;omega
 have hbp:0<by':=by have:=hb0;simp [Nat.blt] at this;omega
 rcases DataW.trod_slice (br hu) hx with ⟨rfl,_⟩ | ⟨a,len,cap,elems,rest,n,rfl,rfl,rfl,_,hl,hm,hlen,hel,_,_⟩
 ·exact ⟨[],.cons (.slc (sz:=sz) (css:=[]) Sl.nil (Nat.zero_le _) (fun _ h=>by cases h) .nil) .nil,one1 rfl,by simp,Nat.zero_le _,fun _ h=>by cases h⟩
 rw [hcz] at hel
 have hwl:(elems.length+rest.length)*by'≤reachBytes:=by
  have:=hw ((elems.length+rest.length)*by') (by simp only [DataW.weights,br hu,hby,List.length_map];exact List.mem_cons_self)
  exact this
 have hn:len≤140737488355328:=by
  unfold reachBytes at hwl
  have:elems.length*1≤(elems.length+rest.length)*by':=Nat.mul_le_mul (by omega) (by omega)
  omega
 have hcells:∀ i∈List.range len,∃ p:α×List Value,W.cells? 0 (a.add (i*sz)) sz=some p.2∧Rps (k0 W) (e p.1) p.2∧One p.2∧B p.1:=fun i hi'=>by
  have hi':i<len:=List.mem_range.1 hi'
  have h1:=hel i hi'
  have hlt:i<elems.length:=by omega
  rw [List.getElem?_eq_getElem hlt] at h1
  obtain ⟨cs,h2,h3⟩:=Option.bind_eq_some_iff.1 h1
  obtain ⟨m,k1,k2,k3⟩:=hE W n cs _ (by omega) h3 (fun q hq=>hw q (by
   simp only [DataW.weights,br hu]
   exact List.mem_cons_of_mem _ (List.mem_append.2 (.inl (kY (List.mem_map.2 ⟨_,List.getElem_mem hlt,rfl⟩) hq))))) (by
   have h9:=wI (l:=elems.map (·.1)) (List.mem_map.2 ⟨_,List.getElem_mem hlt,rfl⟩)
   simp only [Rows.uptoBulk] at hbk
   omega)
  exact ⟨(m,cs),h2,k1,k2,k3⟩
 obtain ⟨ps,g1,g2⟩:=vD (R:=fun (p:α×List Value) i=>W.cells? 0 (a.add (i*sz)) sz=some p.2∧Rps (k0 W) (e p.1) p.2∧One p.2∧B p.1) (List.range len) hcells
 rw [List.length_range] at g1
 have g3:∀ (i:Nat) (p:α×List Value),ps[i]?=some p→W.cells? 0 (a.add (i*sz)) sz=some p.2∧Rps (k0 W) (e p.1) p.2∧One p.2∧B p.1:=fun i p hp=>by
  have hlt:=(List.getElem?_eq_some_iff.1 hp).1
  obtain ⟨p',h1,h2⟩:=g2 i i (by rw [List.getElem?_range (by omega)])
  rw [hp] at h1;injection h1 with h1;subst h1;exact h2
 have hps:(ps.map (·.1)).length=len:=by simp [g1]
 refine ⟨ps.map (·.1),?_,one1 rfl,?_,?_,?_⟩
 rotate_left
 ·rw [hps]
  have h9:len*by'≤(elems.length+rest.length)*by':=Nat.mul_le_mul_right _ (by omega)
  unfold reachBytes at hwl
  omega
 ·rw [hps]
  have h9:=yI (elems.map (·.1))
  rw [List.length_map] at h9
  simp only [Rows.uptoBulk] at hbk
  omega
 ·intro x hx
  obtain ⟨p,hp,rfl⟩:=List.mem_map.1 hx
  obtain ⟨i,hi',rfl⟩:=List.getElem_of_mem hp
  exact (g3 i _ (List.getElem?_eq_getElem hi')).2.2.2
 unfold eL;rw [hps]
 refine .cons (.slc (sz:=sz) (css:=ps.map (·.2)) ⟨by simp [g1],hl,?_,?_⟩ hn ?_ ?_) .nil
 ·intro c hc
  obtain ⟨p,hp,rfl⟩:=List.mem_map.1 hc
  obtain ⟨i,hi',rfl⟩:=List.getElem_of_mem hp
  exact (World.cells?_some (g3 i _ (List.getElem?_eq_getElem hi')).1).2.1
 ·intro hpos
  have hp0:0<ps.length:=by omega
  have hc0:=(World.cells?_some (g3 0 _ (List.getElem?_eq_getElem hp0)).1)
  have hread:=hc0.2.2 0 hsz
  have hspot:a.spot=none:=by
   have hlt:0<(ps[0]).2.length:=by rw [hc0.2.1];exact hsz
   rw [List.getElem?_eq_getElem hlt] at hread
   unfold World.cell? at hread
   cases hs:a.spot with
   | none=>rfl
   | some q =>
    have hsp:((a.add (0*sz)).add 0).spot.isSome=true:=by simp [Addr.add,hs]
    split at hread
    ·rw [if_pos hsp] at hread;cases hread
    cases hread
  obtain ⟨ab,ao,asp⟩:=a
  simp only at hspot;subst hspot
  refine ⟨ab,ao,rfl,fun j c hj=>?_⟩
  rw [List.getElem?_map] at hj
  cases hpj:ps[j]? with
  | none=>rw [hpj] at hj;cases hj
  | some p =>
   rw [hpj] at hj;simp only [Option.map_some,da] at hj;subst hj
   have hcj:=World.cells?_some (g3 j p hpj).1
   refine ⟨?_,fun i u hu'=>?_⟩
   ·have h1:=hcj.2.2 0 hsz
    have hlt:0<p.2.length:=by rw [hcj.2.1];exact hsz
    rw [List.getElem?_eq_getElem hlt,eF,eF] at h1
    unfold World.cell? at h1
    split at h1
    ·rename_i heq
     have:=j8 heq
     exact this
    cases h1
   have hlt:i<sz:=by have:=(List.getElem?_eq_some_iff.1 hu').1;omega
   have h1:=hcj.2.2 i hlt
   rw [eF,eF] at h1
   rw [← hu'];exact h1
 ·intro c hc
  obtain ⟨p,hp,rfl⟩:=List.mem_map.1 hc
  obtain ⟨i,hi',rfl⟩:=List.getElem_of_mem hp
  exact (g3 i _ (List.getElem?_eq_getElem hi')).2.2.1
 have:∀ (l:List (α×List Value)),(∀ p∈l,Rps (k0 W) (e p.1) p.2)→Rpss (k0 W) ((l.map (·.1)).map e) (l.map (·.2)):=fun l=>by
  induction l with
  | nil=>exact fun _=>.nil
  | cons p l ih=>exact fun h=>.cons (h p (by simp)) (ih fun q hq=>h q (by simp [hq]))
 refine this ps fun p hp=>?_
 obtain ⟨i,hi',rfl⟩:=List.getElem_of_mem hp
 exact (g3 i _ (List.getElem?_eq_getElem hi')).2.1
theorem tM {α:Type} {t E sz by':Nat} {z:Value} {e:α→List PV} {B:α→Prop} (hu:dv t=some (.slice E)) (hi:dU E=some (z,sz,by')) (h0:Nat.blt 0 sz=true) (hb0:Nat.blt 0 by'=true) (hE:Opens eh nb E e B):Opens eh nb t (eL e) (fun l=>l.length*by'≤140737488355328∧l.length≤nb∧∀ x∈l,B x):=fun W fuel cs x hx hw =>
 r7 (N:=fuel) hu hi h0 hb0 (fun W' f' cs' x' _=>hE W' f' cs' x') W fuel cs x (Nat.lt_succ_self _) hx hw
end
end SX
end Go.Proofs.YtknkknahmebbfaaGreatDoor
set_option maxRecDepth 100000
namespace Go.Proofs.YtknkknahmebbfaaGreatDoor
open Go Go.ChangeShapes Go.WideShapes Go.RowKit
namespace SX
theorem own_ok:ownKnob Tryz.prog.godebug=none:=by kernel_rfl
theorem uX:laidOutB Tryz.prog=true:=by kernel_rfl
def qP:List (String×DataW Unit):=[("unicode/utf8.acceptRanges",Rows.laid_unicode_utf8_acceptRanges),("customs/nomenclature.lengths",Rows.laid_customs_nomenclature_lengths),("unicode/utf8.first",Rows.laid_unicode_utf8_first)]
mutual
def uY:DataW Unit→List Value
 | .lit (.int k n)=>[.int k n]
 | .agg ds=>vE ds
 | _=>[]
def vE:List (DataW Unit)→List Value
 | []=>[]
 | d::r=>uY d++vE r
end
def c_acc:Array Value:=(uY Rows.laid_unicode_utf8_acceptRanges).toArray
def tN:Array Value:=#[.int .i64 2,.int .i64 4,.int .i64 6,.int .i64 8]
def vF:Array Value:=(uY Rows.laid_unicode_utf8_first).toArray
def yJ (h:Array Obj) (g:Nat) (cs:Array Value):Array Obj:=h.modify g fun | .cells _ t frozen=>.cells cs t frozen | o=>o
noncomputable def laidWorld (os:Os):World :=
 { World.holding Tryz.prog os ⟨#[],#[],[]⟩ with heap:=yJ (yJ (yJ (World.holding Tryz.prog os ⟨#[],#[],[]⟩).heap 4 c_acc) 0 tN) 3 vF }
theorem pX:(qP.filter fun x=>x.2.handleName?.isSome)=[]:=by kernel_rfl
def yK (w:World):MemPlace→Bool
 | .cell b off=>match w.heap[b]? with
  | some (.cells c _ (0,0))=>match c[off]? with | some (.iface _ _)=>false | _=>true
  | _=>false
 | _=>true
theorem uZ {w:World} {ps:List MemPlace} (h:ps.all (yK w)=true):∀ b off,MemPlace.cell b off∈ps→(∃ c t,w.heap[b]?=some (.cells c t (0,0)))∧∀ u v,w.cell? ⟨b,off,none⟩=some (.iface u v)→Value.okWide Tryz.prog w .any 0 u v:=fun b off hm=>by
 have:=List.all_eq_true.1 h _ hm
 unfold yK at this
 split at this
 ·rename_i b' off' e
  injection e with e1 e2;subst e1;subst e2
  split at this
  ·rename_i c t heq
   refine ⟨⟨c,t,heq⟩,fun u v hc=>?_⟩
   simp only [World.cell?,heq] at hc
   split at this
   ·cases this
   rename_i hno;exact absurd hc (by simpa using hno u v)
  cases this
 rename_i hno;exact absurd rfl (hno b off)
theorem qq (os:Os) (args:Array Value):laidMetH Tryz.prog qP ((laidWorld os).forCall (fun _ _=>0) ⟨#[],args,[]⟩).memory:=by
 unfold laidMetH
 rw [pX]
 refine ⟨_,⟨4,191,c_acc,8,[],_,by kernel_rfl,by kernel_rfl,by kernel_rfl,by kernel_rfl,⟨0,136,tN,8,[],_,by kernel_rfl,by kernel_rfl,by kernel_rfl,by kernel_rfl,⟨3,188,vF,8,[],_,by kernel_rfl,by kernel_rfl,by kernel_rfl,by kernel_rfl,rfl,rfl⟩,rfl⟩,rfl⟩,?_,?_⟩
 ·exact of_decide_eq_true (by kernel_rfl)
 exact uZ (by kernel_rfl)
theorem jt {H:Type} {eh:TypeId×Value→H} {P:Program} {w:World} {base:Nat} {sp:Nat→Bool} {held:Bool} {fuel:Nat} {t:TypeId} {k:IntKind} {c:Value} {y:DataW H×List MemPlace} (ht:P.underlying t=some (.int k)) (h:DataW.trod eh P w base sp held fuel t [c]=some y):∃ n,c=.int k n∧y=(.lit (.int k n),[]):=by
 obtain ⟨n,h1,h2,_⟩:=DataW.trod_int ht h
 injection h1 with h1 _
 exact ⟨n,h1,h2⟩
theorem tO {W:World} (h:laidMetH Tryz.prog qP W):GOK (k0 W):=by
 unfold laidMetH at h
 rw [pX] at h
 obtain ⟨ps,⟨_,_,_,_,_,_,_,_,_,_,⟨g,t,cs,fuel,p,q,hg,ht,hvar,hd,_,_⟩,_⟩,_⟩:=h
 obtain rfl:=Option.some.inj ((show Tryz.prog.globalNamed "customs/nomenclature.lengths" = some 0 by kernel_rfl).symm.trans hg)
 obtain rfl:=Option.some.inj ((show (Tryz.prog.globals[0]?).map (·.type)=some 136 by kernel_rfl).symm.trans ht)
 have hcs:cs=tN:=by
  obtain ⟨l⟩:=cs
  cases fuel with
  | zero=>simp [DataW.trod] at hd
  | succ fuel =>
   have hc1:=(mg (t:=136) rfl).1
   have hc2:=(mg (t:=3) rfl).1
   have hu1:Tryz.prog.underlying 136=some (.array 4 3):=br rfl
   simp only [DataW.trod,hu1,hc1,hc2] at hd
   split at hd
   ·rename_i hl
    obtain ⟨c0,c1,c2,c3,rfl⟩:∃ c0 c1 c2 c3,l=[c0,c1,c2,c3]:=by
     match l,hl with
     | [a,b,c,d],_=>exact ⟨a,b,c,d,rfl⟩
    have e:List.range 4=[0,1,2,3]:=rfl
    rw [e] at hd
    simp only [Option.map_eq_some_iff,List.mapM_cons,List.mapM_nil,Option.bind_eq_bind,Option.bind_eq_some_iff,Option.pure_def,da] at hd
    obtain ⟨xs,⟨y0,h0,_,⟨y1,h1,_,⟨y2,h2,_,⟨y3,h3,_,rfl,rfl⟩,rfl⟩,rfl⟩,rfl⟩,hx⟩:=hd
    have hui:Tryz.prog.underlying 3=some (.int .i64):=br rfl
    obtain ⟨n0,rfl,rfl⟩:=jt hui h0
    obtain ⟨n1,rfl,rfl⟩:=jt hui h1
    obtain ⟨n2,rfl,rfl⟩:=jt hui h2
    obtain ⟨n3,rfl,rfl⟩:=jt hui h3
    simp [Rows.laid_customs_nomenclature_lengths] at hx
    obtain ⟨⟨rfl,rfl,rfl,rfl⟩,_⟩:=hx
    rfl
   cases hd
 subst hcs
 have hcell:∀ j u,tN[j]?=some u→W.cell? ⟨0,j,none⟩=some u:=fun j u hu=>by
  have:=World.var?_cell hg hvar j
  rw [this];exact hu
 refine ⟨?_,fun j u hu=>?_⟩
 ·have h0:=hcell 0 _ rfl
  unfold World.cell? at h0
  split at h0
  ·rename_i heq;exact j8 heq
  cases h0
 rw [Nat.zero_add];exact hcell j u (by simpa [tN] using hu)
end SX
end Go.Proofs.YtknkknahmebbfaaGreatDoor
set_option maxRecDepth 100000
namespace Go.Proofs.YtknkknahmebbfaaGreatDoor
open Go Go.ChangeShapes Go.WideShapes Go.RowKit
namespace SX
theorem inv0 (W:World):Zi ⟨k0 W,[],none⟩ [] (k0 W):=⟨.refl _ _,fun _ h=>h,(fun _ h=>by cases h),(fun _ h=>by cases h),.nil⟩
theorem yL {W:World} {ρ:List Res} {κ:Kr} (h:Zi ⟨k0 W,[],none⟩ ρ κ):Below W.heap.size W κ.w:=⟨h.le.os,h.le.tape,h.le.output,h.le.kle.size,fun k hk=>h.le.same k hk (by simp)⟩
section
variable {H:Type} {eh:TypeId×Value→H}
theorem qr {W W':World} (hb:Below W.heap.size W W') {ts:List TypeId} (hr:∀ t∈ts,Tryz.prog.readableRec t=true∧t<Tryz.prog.types.size):∀ {vs:List Value} {ds:List (DataW H)} {ps:List MemPlace},DataW.TrodAll eh Tryz.prog W 0 (fun _=>true) true ts vs ds ps→(∀ p∈ps,p.block<W.heap.size)→DataW.TrodAll eh Tryz.prog W' 0 (fun b=>decide (b<W.heap.size)) true ts vs ds ps:=by
 induction ts with
 | nil=>intro vs ds ps h _;cases vs <;> cases ds <;> first | exact h | cases h
 | cons t ts ih =>
  intro vs ds ps h hlt
  cases vs with
  | nil=>cases h
  | cons v vs =>
   cases ds with
   | nil=>cases h
   | cons d ds =>
    obtain ⟨p,q,h1,h2,e⟩:=h
    have ht:=hr t (by simp)
    exact ⟨p,q,Below.trod uX ht.1 ht.2 h1 hb (fun x hx=>hlt x (by rw [e];simp [hx])),ih (fun u hu=>hr u (by simp [hu])) h2 (fun x hx=>hlt x (by rw [e];simp [hx])),e⟩
theorem readB {ts:List TypeId} (h:(ts.all fun t=>Tryz.prog.readableRec t&&Nat.blt t Tryz.prog.types.size)=true):∀ t∈ts,Tryz.prog.readableRec t=true∧t<Tryz.prog.types.size:=fun t ht=>by
 have:=List.all_eq_true.1 h t ht
 rw [Bool.and_eq_true] at this
 exact ⟨this.1,by have h2:=this.2;exact Nat.le_of_ble_eq_true h2⟩
theorem yM {f tb:Nat} {fn:Func} {s:ChangeSpec} {W:World} {args:Array Value} {ds gs:List (DataW H)} {before:List MemPlace} {pargs:List PV}
    (hrd:∀ t∈fn.params.toList,Tryz.prog.readableRec t=true∧t<Tryz.prog.types.size) (hres:fn.resultTypes=#[tb]) (hub:Tryz.prog.underlying tb=some .bool) (hvars:s.vars=[])
    (hspec:s.fn H ds={ results:=[.lit (.bool true)],args:=ds }) (hW:DataW.Whole eh Tryz.prog fn.params.toList s.vars false W args.toList ds gs before) (hG:GOK (k0 W)) (hargs:Rps (k0 W) pargs args.toList) (hPF:PF f pargs (.v (.bool true))) :
    Calls Tryz.prog f args W fun e W'=>∃ v,e=.returned v∧s.post eh Tryz.prog fn false true false false W args v W':=by
  have hc:=(hPF (k0 W) args.toList hG hargs).2 (inv0 W)
  have e:args.toList.toArray=args:=by simp
  rw [e] at hc
  refine Calls.mono hc fun en W' ⟨v,ρ',κ',h1,h2,h3,h4,h5⟩=>⟨v,h1,?_⟩
  subst h2
  have hv:=h5.val
  subst hv
  have hb:=yL h3
  have hW':=hW
  obtain ⟨p,q,hA,hV,rfl,hfz,hnd⟩:=hW
  rw [hvars] at hV
  obtain ⟨rfl,rfl⟩:gs=[]∧q=[]:=by
    cases gs with
    | nil=>exact ⟨rfl,hV⟩
    | cons g r=>exact absurd hV (by intro h;cases h)
  refine ⟨ds,[],_,[],p,[],hW',?_,?_,?_,hb.frame _,fun h=>by cases h⟩
  · rw [List.append_nil,hspec,hres];exact trodAll_mk1 (shut_bool hub true)
  · rw [List.append_nil,hspec];exact qr hb hrd hA (DataW.TrodAll.lt hA)
  rw [hvars,List.append_nil,hspec];rfl
theorem trodAll_cons {W:World} {t:TypeId} {ts:List TypeId} {vs:List Value} {ds:List (DataW H)} {ps:List MemPlace} (h:DataW.TrodAll eh Tryz.prog W 0 (fun _=>true) true (t::ts) vs ds ps):∃ v vs' d ds' p q,vs=v::vs'∧ds=d::ds'∧DataW.Trod eh Tryz.prog W 0 (fun _=>true) true t v d p∧DataW.TrodAll eh Tryz.prog W 0 (fun _=>true) true ts vs' ds' q:=by
 cases vs with
 | nil=>cases h
 | cons v vs =>
  cases ds with
  | nil=>cases h
  | cons d ds=>obtain ⟨p,q,h1,h2,_⟩:=h;exact ⟨v,vs,d,ds,p,q,rfl,rfl,h1,h2⟩
theorem trodAll_nil {W:World} {vs:List Value} {ds:List (DataW H)} {ps:List MemPlace} (h:DataW.TrodAll eh Tryz.prog W 0 (fun _=>true) true [] vs ds ps):vs=[]∧ds=[]:=by
 cases vs <;> cases ds <;> first | exact ⟨rfl,rfl⟩ | cases h
theorem tP {l:Array TypeId} (h:(l.toList.all fun t => !Tryz.prog.wantsStandIn t)=true) {j:Nat} {t:TypeId} (ht:l[j]?=some t):Tryz.prog.wantsStandIn t=false:=by
 have:=List.all_eq_true.1 h t (by have:=Array.mem_of_getElem? ht;simpa using this)
 simpa using this
theorem light_head {t:Nat} {ts:List Nat} {d:DataW H} {ds:List (DataW H)} (h:(DataW.weightsEach Tryz.prog (t::ts) (d::ds)).all (· ≤ reachBytes)=true):Light t d∧(DataW.weightsEach Tryz.prog ts ds).all (· ≤ reachBytes)=true:=by
 simp only [DataW.weightsEach,List.all_append,Bool.and_eq_true] at h
 exact ⟨fun n hn=>by simpa using List.all_eq_true.1 h.1 n hn,h.2⟩
def pZ:TypeDesc→Bool
 | .int _ | .bool | .string | .slice _=>true
 | _=>false
theorem not_agg {W:World} {r:Reach} {base t:Nat} {v:Value} {D:TypeDesc} (hu:dv t=some D) (hD:pZ D=true) (h:Value.okWide Tryz.prog W r base t v):∀ cs,v.cells.toList=[cs]→v=cs:=fun cs he=>by
 cases v with
 | agg arr =>
  exfalso
  unfold Value.okWide at h
  rw [br hu] at h
  cases D <;> first | (revert hD;simp [pZ];done) | (simp only at h;unfold Cell.okWide at h;rw [br hu] at h;simp only at h;unfold Cell.ok at h;rw [br hu] at h;simp at h)
 | _=>simpa [Value.cells] using he
theorem oG {nb:Nat} {W:World} {r:Reach} {base t:Nat} {v:Value} {D:TypeDesc} {α:Type} {e:α→List PV} {B:α→Prop} {d:DataW H} {ps:List MemPlace} (hu:dv t=some D) (hD:pZ D=true) (hO:Opens eh nb t e B) (h1:∀ m,∃ p,e m=[p]) (h:Value.okWide Tryz.prog W r base t v) (hd:DataW.Trod eh Tryz.prog W 0 (fun _=>true) true t v d ps) (hl:Light t d) (hn:Rows.uptoBulk d≤nb):∃ m,Rps (k0 W) (e m) [v]∧B m:=by
 obtain ⟨fuel,hf⟩:=hd
 obtain ⟨m,h2,_,h9⟩:=hO W fuel _ _ hf hl hn
 refine ⟨m,?_,h9⟩
 obtain ⟨p,hp⟩:=h1 m
 rw [hp] at h2
 generalize hc:v.cells.toList=cs at h2
 obtain ⟨w,ws,rfl,h3,h4⟩:=h2.cons_inv
 rw [h4.nil_inv] at hc
 rw [not_agg hu hD h w hc,hp]
 exact .cons h3 .nil
end
end SX
end Go.Proofs.YtknkknahmebbfaaGreatDoor
namespace Go.Proofs.YtknkknahmebbfaaGreatDoor
namespace SX
open Go
theorem vG {α:Type} (x:Option α):Option.bind x (fun t=>some t)=x:=by cases x <;> rfl
theorem vH {A:List Za} (f g:Int→Int) (hfg:∀ x∈A,f x.Amount=g x.Amount) {s:Tly} {l:List Za} (h:Zo s l):Zo (A.foldl (fun s x=>tf s (kl x) (f x.Amount)) s) (A.foldl (fun l x=>cI l (kl x) (g x.Amount)) l):=by
 induction A generalizing s l with
 | nil=>exact h
 | cons x A ih =>
  rw [List.foldl_cons,List.foldl_cons,← hfg x (by simp)]
  exact ih (fun y hy=>hfg y (by simp [hy])) (h.step _ _)
theorem oa (f:Int→Int) (A:List Za) (s:Tly) (h:s.1.length+A.length≤1000):jT f A s=some (A.foldl (fun s x=>tf s (kl x) (f x.Amount)) s):=by
 unfold jT
 rw [← vG (bk _ _ _)]
 refine (jK (l:=A) (by omega) (fun i (a:Tly)=>(a.1,a.2,i)) (fun s x=>tf s (kl x) (f x.Amount)) (fun a=>a) (fun k a=>a.1.length≤s.1.length+k) s (Nat.le_refl _) (fun k hk a ha=>⟨?_,?_⟩) (fun a _=>by dsimp only;rw [nD];rfl)).1
 ·dsimp only
  rw [wD hk,cZ,cC hk,ft]
  have e:=tK (s:=a) (kl A[k]) (f A[k].Amount) (by omega)
  unfold kl at e
  rw [e,ft,jJ hk (by omega)];rfl
 have:=yG a (kl A[k]) (f A[k].Amount);omega
theorem gT {β:Type} (sg:Int) (A:List Za) (l:List Za) (h:l.length+A.length≤1000) (K:List Za→Option β):Option.bind (bk (S:=(List Za)×Int) (T:=((List Za))) (fun (l4,v7)=>cond (decide (v7<(A.length:Int))) (Option.bind (idx A v7) (fun m16=>Option.bind (f0 l4 m16 sg) (fun x17=>some (.inl (x17,(IntKind.i64.wrap (v7+1))))))) (some (.inr l4))) FUEL (l,0)) K=K (A.foldl (fun l x=>cI l (kl x) (IntKind.i64.wrap (sg*x.Amount))) l)∧(A.foldl (fun l x=>cI l (kl x) (IntKind.i64.wrap (sg*x.Amount))) l).length≤l.length+A.length:=by
 refine jK (l:=A) (by omega) (fun i (a:List Za)=>(a,i)) (fun l x=>cI l (kl x) (IntKind.i64.wrap (sg*x.Amount))) (fun a=>a) (fun k a=>a.length≤l.length+k) l (Nat.le_refl _) (fun k hk a ha=>⟨?_,?_⟩) (fun a _=>by dsimp only;rw [nD];rfl)
 ·dsimp only
  rw [wD hk,cZ,cC hk,ft,yF _ _ (by omega),ft,jJ hk (by omega)]
 have:=tL (IntKind.i64.wrap (sg*A[k].Amount)) a (kl A[k]);omega
def fk (l:List Za) (x:Za):List Za:=cond (x.Amount != 0) (l++[x]) l
theorem nK (l:List Za) (x:Za):(fk l x).length≤l.length+1:=by unfold fk;cases x.Amount != 0 <;> simp
theorem wK {β:Type} (A:List Za) (h:A.length≤1000) (K:List Za→Option β):Option.bind (bk (S:=(List Za)×Int) (T:=((List Za))) (fun (l39,v42)=>cond (decide (v42<((A.length:Nat):Int))) (Option.bind (Option.bind (idx A v42) (fun m57=>cond (m57.Amount != 0) (Option.bind (idx A v42) (fun m59=>Option.bind (app 40 l39 [m59]) (fun l62=>some l62))) (some l39))) (fun l55=>some (.inl (l55,(IntKind.i64.wrap (v42+1)))))) (some (.inr l39))) FUEL (([]:List Za),0)) K=K (A.foldl fk []):=by
 refine (jK (l:=A) (by omega) (fun i (a:List Za)=>(a,i)) fk (fun a=>a) (fun k a=>a.length≤k) [] (Nat.le_refl _) (fun k hk a ha=>⟨?_,?_⟩) (fun a _=>by dsimp only;rw [nD];rfl)).1
 ·dsimp only
  rw [wD hk,cZ,cC hk,ft,jJ hk (by omega)]
  unfold fk
  cases (A[k].Amount != 0)
  ·rfl
  rw [cZ,cZ,ft,nE (by simp;omega) (by simp;omega)];rfl
 have:=nK a A[k];omega
theorem ob {x:Zb}:∀ {l:List Zb},x ∉ l→l.Pairwise (fun a b=>bF a b=true)→(ins bF x l).Pairwise (fun a b=>bF a b=true)
 | [],_,_=>by simp [ins]
 | y::l,hx,h=>by
  obtain ⟨h1,h2⟩:=List.pairwise_cons.1 h
  unfold ins
  cases hy:bF y x with
  | true =>
   simp only [cZ]
   refine List.pairwise_cons.2 ⟨fun z hz=>?_,ob (fun e=>hx (by simp [e])) h2⟩
   rcases List.mem_cons.1 (mP.mem_iff.1 hz) with rfl | hz
   ·exact hy
   ·exact h1 z hz
  | false =>
   simp only [eY]
   have hxy:bF x y=true:=by
    cases h3:bF x y with
    | true=>rfl
    | false=>exact absurd (lu _ _ h3 hy) (fun e=>hx (by rw [e];simp))
   refine List.pairwise_cons.2 ⟨fun z hz=>?_,h⟩
   rcases List.mem_cons.1 hz with rfl | hz
   ·exact hxy
   exact jc _ _ _ hxy (h1 z hz)
theorem lL:∀ {l:List Zb},l.Nodup→(jq bF l).Pairwise (fun a b=>bF a b=true)
 | [],_=>List.Pairwise.nil
 | x::l,h=>by
  obtain ⟨h1,h2⟩:=List.nodup_cons.1 h
  rw [jq]
  exact ob (fun e=>h1 (gK.mem_iff.1 e)) (lL h2)
theorem extA:∀ {l m:List Zb},l.Pairwise (fun a b=>bF a b=true)→m.Pairwise (fun a b=>bF a b=true)→(∀ z,z∈l↔z∈m)→l=m
 | [],[],_,_,_=>rfl
 | [],y::m,_,_,h=>absurd ((h y).2 (by simp)) (by simp)
 | x::l,[],_,_,h=>absurd ((h x).1 (by simp)) (by simp)
 | x::l,y::m,h1,h2,h=>by
  obtain ⟨a1,a2⟩:=List.pairwise_cons.1 h1
  obtain ⟨b1,b2⟩:=List.pairwise_cons.1 h2
  have hxy:x=y:=by
   rcases List.mem_cons.1 ((h x).1 (by simp)) with e | hx
   ·exact e
   rcases List.mem_cons.1 ((h y).2 (by simp)) with e | hy
   ·exact e.symm
   have k:=jc _ _ _ (b1 x hx) (a1 y hy);rw [gc] at k;cases k
  subst hxy
  congr 1
  refine extA a2 b2 fun z=>⟨fun hz=>?_,fun hz=>?_⟩
  ·rcases List.mem_cons.1 ((h z).1 (by simp [hz])) with e | hz2
   ·subst e;have k:=a1 z hz;rw [gc] at k;cases k
   exact hz2
  rcases List.mem_cons.1 ((h z).2 (by simp [hz])) with e | hz2
  ·subst e;have k:=b1 z hz;rw [gc] at k;cases k
  exact hz2
theorem Zo.keys {s:Tly} {l:List Za} (h:Zo s l):jq bF s.1=l.map kl:=by
 refine extA (lL h.nd) (List.pairwise_map.2 h.asc) fun z=>?_
 rw [gK.mem_iff,h.mem,List.mem_map]
theorem out_eq {s:Tly} {l:List Za} (h:Zo s l) (hl:l.length≤1000):mZ s.1.length (jq bF s.1) s.2=some (l.foldl fk []):=by
 have hn:s.1.length=l.length:=by have:=congrArg List.length h.keys;rw [gK.length_eq,List.length_map] at this;exact this
 unfold mZ
 rw [hn,h.keys,← vG (bk _ _ _)]
 refine (jK (l:=l) (by omega) (fun i (a:List Za)=>(a,i)) fk (fun a=>a) (fun k a=>a.length≤k) [] (Nat.le_refl _) (fun k hk a ha=>⟨?_,?_⟩) (fun a _=>by dsimp only;rw [nD];rfl)).1
 ·dsimp only
  have hi:idx (l.map kl) (k:Int)=some (kl l[k]):=by
   rw [cC (by rw [List.length_map];exact hk),List.getElem_map]
  have hv:=h.val l[k] (List.getElem_mem hk)
  have ha2:l[k].Amount=(cr s.2 (kl l[k])).getD 0:=by
   generalize l[k]=x at hv;rw [hv];rfl
  rw [wD hk,cZ,hi,ft,jJ hk (by omega),← ha2]
  unfold fk
  have hx:(⟨(kl l[k]).kind,(kl l[k]).measure,0,0,l[k].Amount⟩:Za)=l[k]:=by
   rw [ha2];exact hv.symm
  rw [hx]
  cases (l[k].Amount != 0)
  ·rfl
  rw [cZ,cZ,nE (by simp;omega) (by simp;omega)];rfl
 have:=nK a l[k];omega
def eU (A B:List Za):List Za:=B.foldl (fun l x=>cI l (kl x) (IntKind.i64.wrap (1*x.Amount))) (A.foldl (fun l x=>cI l (kl x) (IntKind.i64.wrap (-1*x.Amount))) [])
theorem p6 (f:Int→Int):∀ (A:List Za) (s:Tly),(A.foldl (fun s x=>tf s (kl x) (f x.Amount)) s).1.length≤s.1.length+A.length
 | [],s=>Nat.le_refl _
 | x::A,s=>by
  have h1:=p6 f A (tf s (kl x) (f x.Amount))
  have h2:=yG s (kl x) (f x.Amount)
  rw [List.foldl_cons,List.length_cons];omega
theorem nL (a b:Zl) (h1:a.Lines.length≤200) (h2:b.Lines.length≤200) (hb:∀ x∈b.Lines,-9223372036854775808≤x.Amount∧x.Amount≤9223372036854775807):cQ a b=some ((eU a.Lines b.Lines).foldl fk [])∧el a b=some ((eU a.Lines b.Lines).foldl fk []):=by
 have q1:=gT (β:=List Za) (-1) a.Lines [] (by simp;omega) (fun x=>some x)
 have l1:=q1.2
 rw [List.length_nil,Nat.zero_add] at l1
 have l2:=(gT (β:=List Za) 1 b.Lines (a.Lines.foldl (fun l x=>cI l (kl x) (IntKind.i64.wrap (-1*x.Amount))) []) (by omega) (fun x=>some x)).2
 have hlen:(eU a.Lines b.Lines).length≤1000:=by unfold eU;omega
 have hA:=vH (A:=a.Lines) (fun v=>IntKind.i64.wrap (0 - v)) (fun v=>IntKind.i64.wrap (-1*v)) (fun x _=>by congr 1;omega) Zo.nil
 have hB:=vH (A:=b.Lines) (fun v=>v) (fun v=>IntKind.i64.wrap (1*v)) (fun x hx=>by rw [Int.one_mul,cy (hb x hx).1 (hb x hx).2]) hA
 have hl:=p6 (fun v=>IntKind.i64.wrap (0 - v)) a.Lines ([],[])
 rw [show (([],[]):Tly).1.length=0 from rfl,Nat.zero_add] at hl
 constructor
 ·unfold cQ
  rw [oa _ _ _ (by simp;omega),ft,oa _ _ _ (by omega),ft]
  show Option.bind (some (jq bF _)) _=_
  rw [ft,out_eq hB hlen,ft];rfl
 unfold el
 rw [(gT (-1) a.Lines [] (by simp;omega) _).1,(gT 1 b.Lines _ (by omega) _).1]
 exact wK (eU a.Lines b.Lines) hlen _
theorem tQ {α T:Type}:∀ (l:List α) (i:Nat),mR (fun _ _=>(none:Option T)) l i=none
 | [],_=>rfl
 | _::l,i=>by rw [mR];exact tQ l (i+1)
theorem wL (l:List Za) (h:l.length≤100000):eM l l=some true:=by
 unfold eM
 rw [bne_self_eq_false,eY]
 refine (qK (l:=l) (by omega) (fun _ _=>none) (.inl ()) (fun k hk=>?_) (by rw [nD];rfl)).trans ?_
 ·rw [wD hk,cZ,cC hk,ft,ft,Za.eqb_iff.2 rfl,jJ hk (by omega)];rfl
 rw [tQ];rfl
def tot:List Za→Int
 | []=>0
 | x::l=>x.Amount+tot l
theorem r8:∀ l m:List Za,tot (l++m)=tot l+tot m
 | [],m=>by simp [tot]
 | x::l,m=>by rw [List.cons_append,tot,tot,r8 l m];omega
theorem tR:∀ (A l:List Za),tot (A.foldl fk l)=tot l+tot A
 | [],l=>by simp [tot]
 | x::A,l=>by
  rw [List.foldl_cons,tR A,tot]
  unfold fk
  cases h:(x.Amount != 0) with
  | true=>rw [cZ,r8];simp only [tot];omega
  | false =>
   have:x.Amount=0:=by simpa using h
   rw [eY];omega
theorem tS {v N:Int} (hN:0≤N∧N≤1000000000000000) (hv : -1000000000000000≤v∧v≤1000000000000000):∀ (l:List Za) (k:Zb),(∀ x∈l,-N≤x.Amount∧x.Amount≤N)→tot (cI l k v)=tot l+v
 | [],k,_=>by
  rw [cI]
  simp only [tot,up,nl]
  rw [cy (by omega) (by omega)];omega
 | x::l,k,h=>by
  have hx:=h x (by simp)
  have ih:=tS hN hv l k fun y hy=>h y (by simp [hy])
  rw [cI]
  cases bF (kl x) k with
  | true=>rw [cZ,tot,tot,ih];omega
  | false =>
   rw [eY]
   cases decide (kl x=k) with
   | true =>
    rw [cZ,tot,tot]
    simp only [up]
    rw [cy (by omega) (by omega)];omega
   | false =>
    rw [eY]
    simp only [tot,up,nl]
    rw [cy (by omega) (by omega)];omega
def neg (x:Za):Za:=⟨x.Kind,x.Measure,x.Quantity,x.Value,-x.Amount⟩
theorem tT {v N:Int} (hN:0≤N∧N≤1000000000000000) (hv : -1000000000000000≤v∧v≤1000000000000000):∀ (l:List Za) (k:Zb),(∀ x∈l,-N≤x.Amount∧x.Amount≤N)→cI (l.map neg) k (-v)=(cI l k v).map neg
 | [],k,_=>by
  rw [List.map_nil,cI,cI]
  simp only [up,nl,neg,List.map_cons,List.map_nil]
  rw [cy (by omega) (by omega),cy (by omega) (by omega)]
  congr 2;omega
 | x::l,k,h=>by
  have hx:=h x (by simp)
  have ih:=tT hN hv l k fun y hy=>h y (by simp [hy])
  have hk:kl (neg x)=kl x:=rfl
  rw [List.map_cons,cI,cI,hk,ih]
  cases bF (kl x) k with
  | true=>rfl
  | false =>
   simp only [eY]
   cases decide (kl x=k) with
   | true =>
    simp only [cZ,List.map_cons,up,neg]
    rw [cy (by omega) (by omega),cy (by omega) (by omega)]
    congr 2;omega
   | false =>
    simp only [eY,List.map_cons,up,nl,neg]
    rw [cy (by omega) (by omega),cy (by omega) (by omega)]
    congr 2;omega
theorem lt_anti {a b:Zb} (h:bF a b=true):bF b a=false:=by
 cases h2:bF b a with
 | false=>rfl
 | true=>have:=jc _ _ _ h h2;rw [gc] at this;cases this
theorem r9 (a b:Zb):bF a b=true∨a=b∨bF b a=true:=by
 cases h:bF a b with
 | true=>exact .inl rfl
 | false =>
  cases h2:bF b a with
  | true=>exact .inr (.inr rfl)
  | false=>exact .inr (.inl (lu _ _ h h2))
theorem dA {x:Za} {k:Zb} (h:bF (kl x) k=true) (l:List Za) (v:Int):cI (x::l) k v=x::cI l k v:=by rw [cI,h];rfl
theorem dH {x:Za} {k:Zb} (e:kl x=k) (l:List Za) (v:Int):cI (x::l) k v=up x v::l:=by subst e;rw [cI,gc,eY,det rfl];rfl
theorem dl {x:Za} {k:Zb} (h:bF k (kl x)=true) (l:List Za) (v:Int):cI (x::l) k v=up (nl k 0) v::x::l:=by
 have e:decide (kl x=k)=false:=cU fun e=>by rw [e,gc] at h;cases h
 rw [cI,lt_anti h,e];rfl
theorem qQ {v w N:Int} (hN:0≤N∧N≤1000000000000000) (hv : -1000000000000000≤v∧v≤1000000000000000) (hw : -1000000000000000≤w∧w≤1000000000000000):∀ (l:List Za) (k m:Zb),(∀ x∈l,-N≤x.Amount∧x.Amount≤N)→cI (cI l k v) m w=cI (cI l m w) k v
 | [],k,m,_=>by
  rcases r9 k m with h | rfl | h
  ·rw [cI,cI,dA (x:=up (nl k 0) v) h,dl (x:=up (nl m 0) w) h];rfl
  ·rw [cI,cI,dH (show kl (up (nl k 0) v)=k from rfl),dH (show kl (up (nl k 0) w)=k from rfl)]
   simp only [up,nl]
   rw [cy (r:=0+v) (by omega) (by omega),cy (r:=0+w) (by omega) (by omega)]
   congr 3;omega
  ·rw [cI,cI,dl (x:=up (nl k 0) v) h,dA (x:=up (nl m 0) w) h];rfl
 | x::l,k,m,hb=>by
  have hx:=hb x (by simp)
  have ih:=qQ hN hv hw l k m fun y hy=>hb y (by simp [hy])
  rcases r9 (kl x) k with h1 | h1 | h1 <;> rcases r9 (kl x) m with h2 | h2 | h2
  ·rw [dA h1,dA h2,dA h2,dA h1,ih]
  ·subst h2;rw [dA h1,dH rfl,dH rfl,dA (x:=up x w) h1]
  ·have h3:=jc _ _ _ h2 h1
   rw [dA h1,dl h2,dl h2,dA (x:=up (nl m 0) w) h3,dA h1]
  ·subst h1;rw [dH rfl,dA (x:=up x v) h2,dA h2,dH rfl]
  ·subst h1;subst h2
   rw [dH rfl,dH rfl,dH (show kl (up x v)=kl x from rfl),dH (show kl (up x w)=kl x from rfl)]
   simp only [up]
   rw [cy (r:=x.Amount+v) (by omega) (by omega),cy (r:=x.Amount+w) (by omega) (by omega)]
   congr 3;omega
  ·subst h1;rw [dH rfl,dl (x:=up x v) h2,dl h2,dA (x:=up (nl m 0) w) h2,dH rfl]
  ·have h3:=jc _ _ _ h1 h2
   rw [dl h1,dA (x:=up (nl k 0) v) h3,dA h2,dl h1]
  ·subst h2;rw [dl h1,dA (x:=up (nl k 0) v) h1,dH rfl,dl (x:=up x w) h1]
  rcases r9 k m with h | h | h
  ·rw [dl h1,dl h2,dA (x:=up (nl k 0) v) h,dl h2,dl (x:=up (nl m 0) w) h]
  ·subst h
   rw [dl h1,dl h1,dH (show kl (up (nl k 0) v)=k from rfl),dH (show kl (up (nl k 0) w)=k from rfl)]
   simp only [up,nl]
   rw [cy (r:=0+v) (by omega) (by omega),cy (r:=0+w) (by omega) (by omega)]
   congr 3;omega
  rw [dl h1,dl h2,dl (x:=up (nl k 0) v) h,dA (x:=up (nl m 0) w) h,dl h1]
def Bd (N:Int) (l:List Za):Prop:=∀ x∈l,-N≤x.Amount∧x.Amount≤N
theorem lv {v N M:Int} (hN:0≤N) (hM:0≤M) (hs:N+M≤1000000000000000) (hv : -M≤v∧v≤M):∀ {l:List Za} {k:Zb},Bd N l→Bd (N+M) (cI l k v)
 | [],k,_=>fun z hz=>by
  rw [cI,List.mem_singleton] at hz
  subst hz
  simp only [up,nl]
  rw [cy (by omega) (by omega)];omega
 | x::l,k,h=>fun z hz=>by
  have hx:=h x (by simp)
  have hl:Bd N l:=fun y hy=>h y (by simp [hy])
  have hw:∀ y∈l,-(N+M)≤y.Amount∧y.Amount≤N+M:=fun y hy=>by have:=hl y hy;omega
  rw [cI] at hz
  cases h1:bF (kl x) k with
  | true =>
   rw [h1,cZ] at hz
   rcases List.mem_cons.1 hz with rfl | hz
   ·omega
   ·exact lv hN hM hs hv hl z hz
  | false =>
   rw [h1,eY] at hz
   cases h2:decide (kl x=k) with
   | true =>
    rw [h2,cZ] at hz
    rcases List.mem_cons.1 hz with rfl | hz
    ·simp only [up]
     rw [cy (by omega) (by omega)];omega
    ·exact hw z hz
   | false =>
    rw [h2,eY] at hz
    rcases List.mem_cons.1 hz with rfl | hz
    ·simp only [up,nl]
     rw [cy (by omega) (by omega)];omega
    rcases List.mem_cons.1 hz with rfl | hz
    ·omega
    exact hw z hz
def ad (s:Int) (A l:List Za):List Za:=A.foldl (fun l x=>cI l (kl x) (s*x.Amount)) l
def MM:Int:=10000000000000
theorem MM_eq:MM=10000000000000:=rfl
theorem MM0:0≤MM:=by decide
def wt:List Za→Int
 | []=>0
 | _::A=>MM+wt A
theorem wM:∀ A,0≤wt A
 | []=>Int.le_refl _
 | _::A=>by have:=wM A;have:=MM0;rw [wt];omega
theorem yN:∀ A:List Za,wt A=10000000000000*(A.length:Int)
 | []=>rfl
 | _::A=>by rw [wt,yN A,List.length_cons,MM_eq];omega
attribute [local irreducible] MM
def Am (A:List Za):Prop:=∀ x∈A,-MM≤x.Amount∧x.Amount≤MM
theorem Am.tl {x:Za} {A:List Za} (h:Am (x::A)):Am A:=fun y hy=>h y (by simp [hy])
theorem nM {s:Int} (hs:s=1∨s = -1) {a:Int} (h : -MM≤a∧a≤MM) : -MM≤s*a∧s*a≤MM:=by rcases hs with rfl | rfl <;> omega
theorem iN (s:Int) (x:Za) (A l:List Za):ad s (x::A) l=ad s A (cI l (kl x) (s*x.Amount)):=rfl
theorem tU {s:Int} (hs:s=1∨s = -1):∀ {A l:List Za} {N:Int},0≤N→Am A→Bd N l→N+wt A≤1000000000000000→Bd (N+wt A) (ad s A l)
 | [],l,N,_,_,h,_=>by rw [wt,Int.add_zero];exact h
 | x::A,l,N,h0,hA,h,hi=>by
  rw [wt] at hi ⊢
  have h2:=wM A
  have h3:=MM0
  have h1:=lv (N:=N) (M:=MM) h0 h3 (by omega) (nM hs (hA x (by simp))) (k:=kl x) h
  rw [iN,← Int.add_assoc]
  exact tU hs (by omega) hA.tl h1 (by omega)
theorem yO {s v:Int} (hs:s=1∨s = -1) (hv : -MM≤v∧v≤MM) (k:Zb):∀ {A l:List Za} {N:Int},0≤N→Am A→Bd N l→N+wt A+MM≤1000000000000000→ad s A (cI l k v)=cI (ad s A l) k v
 | [],l,N,_,_,_,_=>rfl
 | x::A,l,N,h0,hA,h,hi=>by
  rw [wt] at hi
  have h2:=wM A
  have h3:=MM0
  have hx:=nM hs (hA x (by simp))
  have h1:=lv (N:=N) (M:=MM) h0 h3 (by omega) hx (k:=kl x) h
  rw [iN,iN,qQ (N:=N) (by omega) (by omega) (by omega) l k (kl x) h]
  exact yO hs hv k (A:=A) (N:=N+MM) (by omega) hA.tl h1 (by omega)
theorem vJ {s t:Int} (hs:s=1∨s = -1) (ht:t=1∨t = -1) {B:List Za} (hB:Am B):∀ {A l:List Za} {N:Int},0≤N→Am A→Bd N l→N+wt A+wt B≤1000000000000000→ad s A (ad t B l)=ad t B (ad s A l)
 | [],l,N,_,_,_,_=>rfl
 | x::A,l,N,h0,hA,h,hi=>by
  rw [wt] at hi
  have h2:=wM A
  have h3:=MM0
  have hx:=nM hs (hA x (by simp))
  have h1:=lv (N:=N) (M:=MM) h0 h3 (by have:=wM B;omega) hx (k:=kl x) h
  rw [iN,iN,← yO ht hx (kl x) h0 hB h (by omega)]
  exact vJ hs ht hB (by omega) hA.tl h1 (by omega)
theorem u0 {s:Int} (hs:s=1∨s = -1):∀ {A l:List Za} {N:Int},0≤N→Am A→Bd N l→N+wt A≤1000000000000000→ad (-s) A (l.map neg)=(ad s A l).map neg
 | [],l,N,_,_,_,_=>rfl
 | x::A,l,N,h0,hA,h,hi=>by
  rw [wt] at hi
  have h2:=wM A
  have h3:=MM0
  have hx:=nM hs (hA x (by simp))
  have h1:=lv (N:=N) (M:=MM) h0 h3 (by omega) hx (k:=kl x) h
  rw [iN,iN,Int.neg_mul,tT (N:=N) (by omega) (by omega) l (kl x) h]
  exact u0 hs (by omega) hA.tl h1 (by omega)
theorem u6 {s:Int} (hs:s=1∨s = -1):∀ {A l:List Za} {N:Int},0≤N→Am A→Bd N l→N+wt A≤1000000000000000→tot (ad s A l)=tot l+s*tot A
 | [],l,N,_,_,_,_=>by rw [tot,Int.mul_zero,Int.add_zero];rfl
 | x::A,l,N,h0,hA,h,hi=>by
  rw [wt] at hi
  have h2:=wM A
  have h3:=MM0
  have hx:=nM hs (hA x (by simp))
  have h1:=lv (N:=N) (M:=MM) h0 h3 (by omega) hx (k:=kl x) h
  rw [iN,u6 hs (by omega) hA.tl h1 (by omega),tS (N:=N) (by omega) (by omega) l (kl x) h,tot,Int.mul_add,Int.add_assoc]
theorem nN:Bd 0 []:=fun x hx=>nomatch hx
theorem sa {s:Int} (hs:s=1∨s = -1):∀ {A l:List Za},Am A→A.foldl (fun l x=>cI l (kl x) (IntKind.i64.wrap (s*x.Amount))) l=ad s A l
 | [],l,_=>rfl
 | x::A,l,hA=>by
  have hx:=nM hs (hA x (by simp))
  have h3:=MM_eq
  rw [List.foldl_cons,cy (by omega) (by omega),iN]
  exact sa hs hA.tl
theorem oH {A B:List Za} (hA:Am A) (hB:Am B):eU A B=ad 1 B (ad (-1) A []):=by
 unfold eU
 rw [sa (.inr rfl) hA,sa (.inl rfl) hB]
theorem tV {A B:List Za} (hA:Am A) (hB:Am B) (h:wt A+wt B≤1000000000000000):eU B A=(eU A B).map neg:=by
 have a0:=wM A
 have b0:=wM B
 have h1:=tU (.inr rfl) (Int.le_refl 0) hA nN (by omega)
 rw [oH hA hB,oH hB hA,← u0 (.inl rfl) (by omega) hB h1 (by omega),← u0 (.inr rfl) (Int.le_refl 0) hA nN (by omega),List.map_nil]
 exact vJ (.inl rfl) (.inr rfl) hB (Int.le_refl 0) hA nN (by omega)
theorem yP {A B:List Za} (hA:Am A) (hB:Am B) (h:wt A+wt B≤1000000000000000):tot (eU A B)=tot B - tot A:=by
 have a0:=wM A
 have b0:=wM B
 have h1:=tU (.inr rfl) (Int.le_refl 0) hA nN (by omega)
 rw [oH hA hB,u6 (.inl rfl) (by omega) hB h1 (by omega),u6 (.inr rfl) (Int.le_refl 0) hA nN (by omega),tot]
 omega
theorem sums_bd {A B:List Za} (hA:Am A) (hB:Am B) (h:wt A+wt B≤1000000000000000):Bd 1000000000000000 (eU A B):=by
 have a0:=wM A
 have b0:=wM B
 have h1:=tU (.inr rfl) (Int.le_refl 0) hA nN (by omega)
 have h2:=tU (.inl rfl) (by omega) hB h1 (by omega)
 rw [oH hA hB]
 exact fun x hx=>by have:=h2 x hx;omega
theorem ig:∀ (l acc:List Za),l.foldl fk acc=acc++l.filter fun x=>x.Amount != 0
 | [],acc=>by simp
 | x::l,acc=>by
  rw [List.foldl_cons,ig l]
  unfold fk
  cases h:(x.Amount != 0) with
  | true=>rw [List.filter_cons_of_pos (by simpa using h),cZ,List.append_assoc];rfl
  | false=>rw [List.filter_cons_of_neg (by simpa using h),eY]
theorem yQ (l:List Za):(l.map neg).foldl fk []=(l.foldl fk []).map neg:=by
 rw [ig,ig,List.nil_append,List.nil_append,List.filter_map]
 congr 1
 refine List.filter_congr fun x _=>?_
 show (-x.Amount != 0)=(x.Amount != 0)
 cases h:(x.Amount != 0) <;> simp at h ⊢ <;> omega
theorem wN {A:List Za} (hA:Am A) (h:wt A+wt A≤1000000000000000):(eU A A).foldl fk []=[]:=by
 have e:=tV hA hA h
 rw [ig,List.nil_append,List.filter_eq_nil_iff]
 intro x hx
 obtain ⟨i,hi,rfl⟩:=List.getElem_of_mem hx
 have e2:(eU A A)[i]=neg (eU A A)[i]:=by
  have e3:(eU A A)[i]?=((eU A A).map neg)[i]?:=congrArg (·[i]?) e
  rw [List.getElem?_map,List.getElem?_eq_getElem hi] at e3
  exact Option.some.inj e3
 have e4:(eU A A)[i].Amount = -(eU A A)[i].Amount:=congrArg Za.Amount e2
 simp;omega
theorem yR {l:List Za} {x:Za} (h:x∈l.foldl fk []):x∈l∧x.Amount≠0:=by
 rw [ig,List.nil_append,List.mem_filter] at h
 exact ⟨h.1,by simpa using h.2⟩
end SX
namespace SX
open Go
def Digs (l:List Int):Prop:=∀ x∈l,48≤x∧x≤57
theorem code_ok {p:Zf} (hp:SOK p):∃ l q,cG p 8=some (strOfNums l,q)∧l.length=8∧Digs l∧SOK q:=by
 unfold cG
 obtain ⟨r,q,h1,h2,h3,h4⟩:=bG hp 2 (by omega) (by omega)
 rw [bM h1]
 simp only
 rw [cy (by omega) (by omega),oA (by omega)]
 obtain ⟨t,h5,h6⟩:=gb (body:=fun (l5,l8,v9)=>cond (decide (((l5.length:Nat):Int)<8)) (Option.bind (ap (⟨l8,v9⟩:Zf) 3) (fun x19=>Option.bind (app 1 l5 [48,(IntKind.u8.wrap (IntKind.i64.wrap (49+x19.1)))]) (fun l22=>some (.inl (l22,x19.2.L,x19.2.I))))) (some (.inr (l5,l8,v9))))
  (fun s:List Int×List Int×Int=>(s.1.length=2∨s.1.length=4∨s.1.length=6∨s.1.length=8)∧Digs s.1∧SOK ⟨s.2.1,s.2.2⟩) (fun s=>8 - s.1.length) (fun t:List Int×List Int×Int=>t.1.length=8∧Digs t.1∧SOK ⟨t.2.1,t.2.2⟩)
  (fun s hs=>by
   obtain ⟨l,l8,v9⟩:=s
   obtain ⟨a1,a2,a3⟩:=hs
   simp only at a1 a2 a3 ⊢
   by_cases hl:((l.length:Nat):Int)<8
   ·left
    rw [det hl];simp only [cZ]
    obtain ⟨r,q,b1,b2,b3,b4⟩:=bG a3 3 (by omega) (by omega)
    rw [bM b1];simp only
    rw [cy (by omega) (by omega),oA (by omega)]
    have e:app 1 l [48,49+r]=some (l++[48,49+r]):=by unfold app;rw [if_pos];simp;omega
    rw [bM e]
    refine ⟨_,rfl,⟨by simp only [List.length_append,List.length_cons,List.length_nil];omega,?_,b4⟩,by simp only [List.length_append,List.length_cons,List.length_nil];omega⟩
    intro x hx
    simp only [List.mem_append,List.mem_cons,List.not_mem_nil,or_false] at hx
    rcases hx with hx | rfl | rfl
    ·exact a2 x hx
    ·omega
    omega
   right
   rw [cU hl]
   exact ⟨_,rfl,by show l.length=8;omega,a2,a3⟩)
  FUEL ([57,52+r],q.L,q.I) ⟨by simp,by intro x hx;simp only [List.mem_cons,List.not_mem_nil,or_false] at hx;omega,h4⟩ (gq (by simp))
 obtain ⟨l,l8,v9⟩:=t
 rw [bM h5]
 exact ⟨_,_,rfl,h6.1,h6.2.1,h6.2.2⟩
theorem wO {l:List Int} (h1:l.length=8) (h2:Digs l):eT (strOfNums l)=8:=by
 have hs:(strOfNums l).size=8:=by simp [strOfNums,ByteArray.size,h1]
 unfold eT
 rw [if_pos,hs];rfl
 refine ⟨by omega,?_⟩
 unfold iw bl strOfNums
 simp only [List.all_eq_true]
 intro c hc
 simp only [List.mem_map] at hc
 obtain ⟨x,hx,rfl⟩:=hc
 have:=h2 x hx
 simp [gB]
 omega
def U64 (a:Int):Prop:=0≤a∧a<18446744073709551616
theorem wu (a:Int):IntKind.u64.wrap a=a % 18446744073709551616:=rfl
theorem iB {a:Int} (h:U64 a):IntKind.u64.wrap a=a:=by rw [wu];unfold U64 at h;omega
theorem bv64 {a:Int} (h:U64 a):(BitVec.ofInt 64 a).toNat=a.toNat:=by
 rw [BitVec.toNat_ofInt];unfold U64 at h;omega
theorem iand_eq {a b:Int} (ha:U64 a) (hb:U64 b):dd .u64 a b=((a.toNat &&& b.toNat:Nat):Int):=by
 have hlt:a.toNat &&& b.toNat<18446744073709551616:=Nat.lt_of_le_of_lt Nat.and_le_left (by unfold U64 at ha;omega)
 have e:dd .u64 a b=IntKind.u64.wrap (((BitVec.ofInt 64 a &&& BitVec.ofInt 64 b).toNat:Nat):Int):=rfl
 rw [e,BitVec.toNat_and,bv64 ha,bv64 hb,iB]
 exact ⟨by omega,by omega⟩
theorem ior_eq {a b:Int} (ha:U64 a) (hb:U64 b):mj .u64 a b=((a.toNat ||| b.toNat:Nat):Int):=by
 have hlt:a.toNat ||| b.toNat<2 ^ 64:=Nat.or_lt_two_pow (by unfold U64 at ha;omega) (by unfold U64 at hb;omega)
 have e:mj .u64 a b=IntKind.u64.wrap (((BitVec.ofInt 64 a ||| BitVec.ofInt 64 b).toNat:Nat):Int):=rfl
 rw [e,BitVec.toNat_or,bv64 ha,bv64 hb,iB]
 exact ⟨by omega,by omega⟩
theorem p7 {a:Int} (h:U64 a):dd .u64 a 1=a % 2:=by
 rw [iand_eq h ⟨by omega,by omega⟩]
 have:a.toNat &&& (1:Int).toNat=a.toNat % 2:=Nat.and_two_pow_sub_one_eq_mod (n:=1) a.toNat
 rw [this];unfold U64 at h;omega
def rv (w:Ze):Int:=w.Hi*18446744073709551616+w.Lo
def RW (w:Ze):Prop:=U64 w.Hi∧U64 w.Lo
theorem na {p q:Ze} (hp:RW p) (hq:RW q):∃ w b,dC p q=some (w,b)∧RW w∧(rv p+rv q<340282366920938463463374607431768211456→rv w=rv p+rv q):=by
 obtain ⟨ph,pl⟩:=p;obtain ⟨qh,ql⟩:=q
 obtain ⟨⟨a1,a2⟩,⟨a3,a4⟩⟩:=hp
 obtain ⟨⟨b1,b2⟩,⟨b3,b4⟩⟩:=hq
 simp only at a1 a2 a3 a4 b1 b2 b3 b4
 unfold dC lb
 dsimp only
 by_cases h:IntKind.u64.wrap (pl+ql)<pl
 ·rw [det h]
  simp only [cZ,ft]
  refine ⟨_,_,rfl,?_,?_⟩
  ·simp only [RW,U64,wu];omega
  rw [wu] at h;simp only [rv,wu];omega
 rw [cU h]
 simp only [eY,ft]
 refine ⟨_,_,rfl,?_,?_⟩
 ·simp only [RW,U64,wu];omega
 rw [wu] at h;simp only [rv,wu];omega
theorem sb {a n:Int} (h:n.toNat≤64):co .u64 a n=a / 2 ^ n.toNat:=by
 have e:co .u64 a n=a.fdiv (2 ^ min n.toNat 64):=rfl
 rw [e,Nat.min_eq_left h]
 exact Int.fdiv_eq_ediv_of_nonneg a (Int.le_of_lt (Int.pow_pos (by omega)))
theorem qR (b:Int) (k:Nat):b / 2 ^ k=2*(b / 2 ^ (k+1))+b / 2 ^ k % 2:=by
 have:b / 2 ^ (k+1)=b / 2 ^ k / 2:=by rw [Int.pow_succ,Int.ediv_ediv_of_nonneg (Int.le_of_lt (Int.pow_pos (by omega)))]
 rw [this];omega
theorem vK {a b:Int} (ha:U64 a) (hb:U64 b):∃ w,fy a b=some w∧RW w∧rv w=a*b:=by
 unfold fy
 obtain ⟨t,h5,h6⟩:=gb (body:=fun (v3,v4,v5)=>cond (decide (0≤v3)) (Option.bind (Option.bind (dC (⟨v4,v5⟩:Ze) (⟨v4,v5⟩:Ze)) (fun x14=>Option.bind (lG v3) (fun u15=>cond ((dd .u64 (co .u64 b v3) 1) == 1) (Option.bind (dC x14.1 (⟨0,a⟩:Ze)) (fun x17=>some (x17.1.Hi,x17.1.Lo))) (some (x14.1.Hi,x14.1.Lo))))) (fun (v11,v12)=>some (.inl ((IntKind.i64.wrap (v3 - 1)),v11,v12)))) (some (.inr (v4,v5))))
  (fun s:Int×Int×Int => -1≤s.1∧s.1≤63∧RW ⟨s.2.1,s.2.2⟩∧rv ⟨s.2.1,s.2.2⟩=a*(b / 2 ^ (s.1+1).toNat)) (fun s=>(s.1+1).toNat) (fun t:Int×Int=>RW ⟨t.1,t.2⟩∧rv ⟨t.1,t.2⟩=a*b)
  (fun s hs=>by
   obtain ⟨v,x,y⟩:=s
   obtain ⟨a1,a2,a3,a4⟩:=hs
   dsimp only at a1 a2 a3 a4 ⊢
   by_cases h0:0≤v
   ·left
    obtain ⟨k,rfl⟩:∃ k:Nat,v=(k:Int):=⟨v.toNat,by omega⟩
    have ek:((k:Int)+1).toNat=k+1:=by omega
    rw [ek] at a4
    have hs:=qR b k
    have hbk:0≤b / 2 ^ k:=Int.ediv_nonneg hb.1 (Int.le_of_lt (Int.pow_pos (by omega)))
    have hbk2:b / 2 ^ k≤b:=Int.ediv_le_self _ hb.1
    have hm:a*(b / 2 ^ k)=2*(a*(b / 2 ^ (k+1)))+a*(b / 2 ^ k % 2):=by
     have:=congrArg (a * ·) hs
     simp only [Int.mul_add] at this
     rw [this,← Int.mul_assoc,Int.mul_comm a 2,Int.mul_assoc]
    have hle:a*(b / 2 ^ k)≤18446744073709551615*18446744073709551615:=Int.mul_le_mul (by unfold U64 at ha;omega) (by unfold U64 at hb;omega) hbk (by omega)
    have hnn:0≤a*(b / 2 ^ k % 2):=Int.mul_nonneg ha.1 (by omega)
    rw [det h0]
    simp only [cZ]
    obtain ⟨w,o,c1,c2,c3⟩:=na a3 a3
    have c3:=c3 (by omega)
    rw [bM c1]
    have hg:lG (k:Int)=some ():=by unfold lG;rw [if_pos h0]
    rw [bM hg,sb (by omega),Int.toNat_natCast,p7 ⟨hbk,by unfold U64 at hb;omega⟩,cy (by omega) (by omega)]
    rcases (by omega:b / 2 ^ k % 2=0∨b / 2 ^ k % 2=1) with e | e
    ·rw [e] at hm ⊢
     refine ⟨_,rfl,⟨by dsimp only;omega,by dsimp only;omega,c2,?_⟩,by dsimp only;omega⟩
     have:((k:Int) - 1+1).toNat=k:=by omega
     dsimp only;rw [this,hm];show rv w=_;omega
    rw [e] at hm ⊢
    obtain ⟨w2,o2,d1,d2,d3⟩:=na (p:=w) (q:=⟨0,a⟩) c2 ⟨⟨by simp,by simp⟩,ha⟩
    have e0:rv ⟨0,a⟩=a:=by simp [rv]
    rw [e0] at d3
    have d3:=d3 (by omega)
    simp only [beq_self_eq_true,cZ]
    rw [bM d1]
    refine ⟨_,rfl,⟨by dsimp only;omega,by dsimp only;omega,d2,?_⟩,by dsimp only;omega⟩
    have:((k:Int) - 1+1).toNat=k:=by omega
    dsimp only;rw [this,hm];show rv w2=_;omega
   right
   rw [cU h0]
   have:v = -1:=by omega
   subst this
   refine ⟨_,rfl,a3,?_⟩
   rw [a4];simp)
  FUEL (63,0,0) ⟨by simp,by simp,⟨⟨by simp,by simp⟩,⟨by simp,by simp⟩⟩,by
   have:b / 18446744073709551616=0:=Int.ediv_eq_zero_of_lt hb.1 hb.2
   simp [rv,this]⟩ (gq (by simp))
 obtain ⟨t1,t2⟩:=t
 rw [bM h5]
 exact ⟨_,rfl,h6.1,h6.2⟩
theorem iand63:∀ {n:Nat},n<128→dd .i64 (n:Int) 63=((n % 64:Nat):Int):=by decide
theorem yS {a:Int} (h:U64 a):dV .u64 a 1=(2*a) % 18446744073709551616:=by
 have e:dV .u64 a 1=IntKind.u64.wrap (a*2):=rfl
 rw [e,wu,Int.mul_comm]
theorem vL {a b:Int} (ha:U64 a) (h2:a % 2=0) (hb:b=0∨b=1):mj .u64 a b=a+b:=by
 rw [ior_eq ha (by rcases hb with rfl | rfl <;> exact ⟨by omega,by omega⟩)]
 unfold U64 at ha
 rcases hb with rfl | rfl
 ·simp;omega
 have:a.toNat ||| (1:Int).toNat=a.toNat+1:=by
  have e:a.toNat=2 ^ 1*(a.toNat / 2):=by omega
  have:=Nat.two_pow_add_eq_or_of_lt (i:=1) (b:=1) (by omega) (a.toNat / 2)
  rw [← e] at this
  exact this.symm
 rw [this];omega
theorem bit_lo {h l:Int} (hl:U64 l) {k:Nat} (hk:k<64):(h*18446744073709551616+l) / 2 ^ k % 2=l / 2 ^ k % 2:=by
 have e:(18446744073709551616:Int)=2 ^ k*(2*2 ^ (63 - k)):=by
  have:(2:Int) ^ k*(2*2 ^ (63 - k))=2 ^ (k+(1+(63 - k))):=by rw [Int.pow_add,Int.pow_add];rfl
  rw [this,show k+(1+(63 - k))=64 by omega];rfl
 have hp:(2:Int) ^ k≠0:=Int.ne_of_gt (Int.pow_pos (by omega))
 rw [e,show h*(2 ^ k*(2*2 ^ (63 - k)))+l=l+2 ^ k*(2*(h*2 ^ (63 - k))) by rw [Int.add_comm,Int.mul_left_comm h,Int.mul_left_comm h 2],Int.add_mul_ediv_left _ _ hp,Int.add_mul_emod_self_left]
theorem bit_hi {h l:Int} (hl:U64 l) {k:Nat} (hk:64≤k):(h*18446744073709551616+l) / 2 ^ k=h / 2 ^ (k - 64):=by
 have e:(2:Int) ^ k=18446744073709551616*2 ^ (k - 64):=by
  have:(18446744073709551616:Int)*2 ^ (k - 64)=2 ^ (64+(k - 64)):=by rw [Int.pow_add];rfl
  rw [this,show 64+(k - 64)=k by omega]
 rw [e,← Int.ediv_ediv_of_nonneg (by omega)]
 congr 1
 unfold U64 at hl;omega
theorem p8 {p:Ze} {d:Int} (hp:RW p) (hd:U64 d) (h1:1≤d):∃ q r,ex p d=some (q,r)∧RW q∧rv q=rv p / d∧r=rv p % d:=by
 have hN:0≤rv p∧rv p<340282366920938463463374607431768211456:=by obtain ⟨⟨a,b⟩,⟨c,e⟩⟩:=hp;unfold rv;omega
 unfold ex
 obtain ⟨t,h5,h6⟩:=gb (body:=fun (v4,v5,v6,v7)=>cond (decide (0≤v5)) (Option.bind (Option.bind (lG (dd .i64 v5 63)) (fun u18=>lb ((dd .u64 (co .u64 p.Lo (dd .i64 v5 63)) 1)) (fun w19=>Option.bind (cond (decide (63<v5)) (Option.bind (lG (IntKind.i64.wrap (v5 - 64))) (fun u23=>lb ((dd .u64 (co .u64 p.Hi (IntKind.i64.wrap (v5 - 64))) 1)) (fun w24=>some w24))) (some w19)) (fun v20=>Option.bind (dC (⟨v6,v7⟩:Ze) (⟨v6,v7⟩:Ze)) (fun x25=>cond (((co .u64 v4 63) == 1)||(decide (d≤(mj .u64 (dV .u64 v4 1) v20)))) (lb ((IntKind.u64.wrap ((mj .u64 (dV .u64 v4 1) v20) - d))) (fun w27=>some (w27,x25.1.Hi,(mj .u64 x25.1.Lo 1)))) (some ((mj .u64 (dV .u64 v4 1) v20),x25.1.Hi,x25.1.Lo))))))) (fun (v14,v15,v16)=>some (.inl (v14,(IntKind.i64.wrap (v5 - 1)),v15,v16)))) (some (.inr (v4,v6,v7))))
  (fun s:Int×Int×Int×Int => -1≤s.2.1∧s.2.1≤127∧RW ⟨s.2.2.1,s.2.2.2⟩∧0≤s.1∧s.1<d∧rv p / 2 ^ (s.2.1+1).toNat=rv ⟨s.2.2.1,s.2.2.2⟩ * d+s.1) (fun s=>(s.2.1+1).toNat) (fun t:Int×Int×Int=>RW ⟨t.2.1,t.2.2⟩∧0≤t.1∧t.1<d∧rv p=rv ⟨t.2.1,t.2.2⟩ * d+t.1)
  (fun s hs=>by
   obtain ⟨v4,v5,x,y⟩:=s
   obtain ⟨a1,a2,a3,a4,a5,a6⟩:=hs
   dsimp only at a1 a2 a3 a4 a5 a6 ⊢
   by_cases h0:0≤v5
   ·left
    obtain ⟨k,rfl⟩:∃ k:Nat,v5=(k:Int):=⟨v5.toNat,by omega⟩
    have ek:((k:Int)+1).toNat=k+1:=by omega
    rw [ek] at a6
    have hs:=qR (rv p) k
    generalize hbit:rv p / 2 ^ k % 2=bit at hs
    have hb01:bit=0∨bit=1:=by omega
    rw [det h0,iand63 (by omega)]
    simp only [cZ]
    have hg:lG ((k % 64:Nat):Int)=some ():=by unfold lG;rw [if_pos (by omega)]
    rw [bM hg]
    unfold lb
    have hv:(cond (decide (63<(k:Int))) (Option.bind (lG (IntKind.i64.wrap ((k:Int) - 64))) (fun _=>some (dd .u64 (co .u64 p.Hi (IntKind.i64.wrap ((k:Int) - 64))) 1))) (some (dd .u64 (co .u64 p.Lo ((k % 64:Nat):Int)) 1)))=some bit:=by
     by_cases hk:63<(k:Int)
     ·rw [det hk,cy (by omega) (by omega)]
      have hg2:lG ((k:Int) - 64)=some ():=by unfold lG;rw [if_pos (by omega)]
      simp only [cZ]
      rw [bM hg2,sb (by omega),show ((k:Int) - 64).toNat=k - 64 by omega,p7 ⟨Int.ediv_nonneg hp.1.1 (Int.le_of_lt (Int.pow_pos (by omega))),Int.lt_of_le_of_lt (Int.ediv_le_self _ hp.1.1) hp.1.2⟩,← hbit]
      unfold rv;rw [bit_hi hp.2 (by omega)]
     rw [cU hk]
     simp only [eY]
     rw [sb (by omega),Int.toNat_natCast,Nat.mod_eq_of_lt (by omega),p7 ⟨Int.ediv_nonneg hp.2.1 (Int.le_of_lt (Int.pow_pos (by omega))),Int.lt_of_le_of_lt (Int.ediv_le_self _ hp.2.1) hp.2.2⟩,← hbit]
     unfold rv;rw [bit_lo hp.2 (by omega)]
    dsimp only
    rw [bM hv]
    obtain ⟨w,o,c1,c2,c3⟩:=na a3 a3
    have hq0:0≤rv ⟨x,y⟩:=by obtain ⟨⟨b1,b2⟩,⟨b3,b4⟩⟩:=a3;unfold rv;dsimp only at *;omega
    have hqd:rv ⟨x,y⟩≤rv ⟨x,y⟩ * d:=by have:=Int.mul_le_mul_of_nonneg_left h1 hq0;omega
    have hle:rv p / 2 ^ k≤rv p:=Int.ediv_le_self _ hN.1
    have c3:=c3 (by omega)
    rw [bM c1]
    have hu4:U64 v4:=⟨a4,by unfold U64 at hd;omega⟩
    have hsh:co .u64 v4 63=v4 / 9223372036854775808:=sb (by omega)
    have hlow:mj .u64 (dV .u64 v4 1) bit=(2*v4) % 18446744073709551616+bit:=by rw [yS hu4];exact vL ⟨by omega,by omega⟩ (by omega) hb01
    rw [hlow,hsh,cy (by omega) (by omega)]
    have ekk:((k:Int) - 1+1).toNat=k:=by omega
    unfold U64 at hd hu4
    by_cases hT:d≤2*v4+bit
    ·have hc:((v4 / 9223372036854775808 == 1)||decide (d≤(2*v4) % 18446744073709551616+bit))=true:=by
      simp only [Bool.or_eq_true,beq_iff_eq,decide_eq_true_eq];omega
     rw [hc]
     simp only [cZ]
     obtain ⟨⟨e1,e2⟩,⟨e3,e4⟩⟩:=c2
     have hev:w.Lo % 2=0:=by unfold rv at c3;dsimp only at c3;omega
     rw [vL ⟨e3,e4⟩ hev (.inr rfl),wu]
     refine ⟨_,rfl,⟨by dsimp only;omega,by dsimp only;omega,⟨⟨e1,e2⟩,⟨by dsimp only;omega,by dsimp only;omega⟩⟩,by dsimp only;omega,by dsimp only;omega,?_⟩,by dsimp only;omega⟩
     dsimp only
     rw [ekk,hs,a6]
     have e5:rv ⟨w.Hi,w.Lo+1⟩=2*rv ⟨x,y⟩+1:=by unfold rv at c3 ⊢;dsimp only at c3 ⊢;omega
     rw [e5,Int.add_mul,Int.mul_assoc];omega
    ·have hc:((v4 / 9223372036854775808 == 1)||decide (d≤(2*v4) % 18446744073709551616+bit))=false:=by
      simp only [Bool.or_eq_false_iff,beq_eq_false_iff_ne,decide_eq_false_iff_not];omega
     rw [hc]
     simp only [eY]
     refine ⟨_,rfl,⟨by dsimp only;omega,by dsimp only;omega,c2,by dsimp only;omega,by dsimp only;omega,?_⟩,by dsimp only;omega⟩
     dsimp only
     rw [ekk,hs,a6,show rv ⟨w.Hi,w.Lo⟩=2*rv ⟨x,y⟩ by show rv w=_;omega,Int.mul_assoc];omega
   right
   rw [cU h0]
   have:v5 = -1:=by omega
   subst this
   refine ⟨_,rfl,a3,a4,a5,?_⟩
   rw [← a6];simp)
  FUEL (0,127,0,0) ⟨by simp,by simp,⟨⟨by simp,by simp⟩,⟨by simp,by simp⟩⟩,by simp,by simp;omega,by
   have:rv p / 340282366920938463463374607431768211456=0:=Int.ediv_eq_zero_of_lt hN.1 hN.2
   simp [rv] at this ⊢;exact this⟩ (gq (by simp))
 obtain ⟨t1,t2,t3⟩:=t
 rw [bM h5]
 obtain ⟨g1,g2,g3,g4⟩:=h6
 dsimp only at g1 g2 g3 g4
 have gd:rv p / d=rv ⟨t2,t3⟩:=by
  rw [g4,Int.add_comm,Int.add_mul_ediv_right _ _ (by omega),Int.ediv_eq_zero_of_lt g2 g3,Int.zero_add]
 refine ⟨_,_,rfl,g1,gd.symm,?_⟩
 have:=Int.emod_add_mul_ediv (rv p) d
 rw [gd,Int.mul_comm] at this
 omega
structure KnInv (u u1 y1 y0 q rh:Int):Prop where
 eq:u=q*y1+rh
 r0:0≤rh
 r1:rh<4294967296
 q0:0≤q
 q1:q≤4294967297
 up:u*4294967296+u1<q*(y1*4294967296+y0)+(y1*4294967296+y0)
section
variable {u u1 y1 y0 q rh:Int} (hu:0≤u) (huy:u<y1*4294967296+y0) (h1:0≤u1) (h1':u1<4294967296) (hy:2147483648≤y1) (hy':y1<4294967296) (hz:0≤y0) (hz':y0<4294967296)
include hu huy h1 h1' hy hy' hz hz'
end
section
variable {u u1 y1 y0:Int} (hu:0≤u) (huy:u<y1*4294967296+y0) (h1:0≤u1) (h1':u1<4294967296) (hy:2147483648≤y1) (hy':y1<4294967296) (hz:0≤y0) (hz':y0<4294967296)
include hu huy h1 h1' hy hy' hz hz'
end
theorem ge0_ok {b:Int} (h:0≤b):lG b=some ():=by unfold lG;rw [if_pos h]
def rnd (n c m:Int):Int:=if m=2∧c≤2*(n % c) then n / c+1 else n / c
theorem ref_div {w:Ze} {c m:Int} (hw:RW w) (hc:U64 c) (h1:1≤c) (hm:m=0∨m=2):iR w c m=some (if rnd (rv w) c m<18446744073709551616 then (rnd (rv w) c m,0) else (0,3)):=by
 unfold iR
 have hc0:((((c == 0)||(decide (m<0)))||(decide (3<m))):Bool)=false:=by
  rcases hm with rfl | rfl <;> simp <;> omega
 rw [hc0];simp only [eY]
 have hn0:0≤rv w:=by unfold rv;have:=hw.1.1;have:=hw.2.1;omega
 have hn1:rv w<340282366920938463463374607431768211456:=by unfold rv;have:=hw.1.2;have:=hw.2.2;omega
 have hr0:0≤rv w % c:=Int.emod_nonneg _ (by omega)
 have hr1:rv w % c<c:=Int.emod_lt_of_pos _ (by omega)
 obtain ⟨q,r,e1,e2,e3,e4⟩:=p8 hw hc h1
 rw [bM e1]
 dsimp only
 have er:(cond (m == 1) (some (decide (0<r))) (cond (m == 2) (some (decide ((IntKind.u64.wrap (c - r))≤r))) (cond (m == 3) (some ((decide ((IntKind.u64.wrap (c - r))<r))||((r == (IntKind.u64.wrap (c - r)))&&((dd .u64 q.Lo 1) == 1)))) (some false))))=some (decide (m=2∧c≤2*(rv w % c))):=by
  rw [e4,iB (a:=c - rv w % c) ⟨by omega,by have:=hc.2;omega⟩]
  rcases hm with rfl | rfl
  ·simp
  simp;omega
 rw [bM er]
 have hq0:0≤rv w / c:=Int.ediv_nonneg hn0 (by omega)
 unfold rnd
 have hfin:∀ z:Ze,RW z→(cond (decide (0<z.Hi)) (some ((0:Int),(3:Int))) (some (z.Lo,0)))=some (if rv z<18446744073709551616 then (rv z,0) else (0,3)):=by
  intro z hz
  obtain ⟨⟨a1,a2⟩,⟨a3,a4⟩⟩:=hz
  by_cases h:0<z.Hi
  ·rw [det h,if_neg (by unfold rv;omega)];rfl
  have:rv z=z.Lo:=by unfold rv;omega
  rw [cU h,this,if_pos a4];rfl
 by_cases hu:m=2∧c≤2*(rv w % c)
 ·rw [det hu,if_pos hu]
  obtain ⟨z,b,f1,f2,f3⟩:=na (p:=q) (q:=⟨0,1⟩) e2 ⟨⟨by simp,by simp⟩,⟨by simp,by simp⟩⟩
  have hone:rv ⟨0,1⟩=1:=rfl
  have:rv w / c≤rv w:=Int.ediv_le_self _ hn0
  have hc2:2≤c:=by omega
  have t1:=Int.ediv_mul_le (rv w) (show c≠0 by omega)
  have t2:=Int.mul_le_mul_of_nonneg_left hc2 hq0
  rw [hone,e3] at f3
  have f3:=f3 (by omega)
  simp only [cZ]
  rw [bM f1]
  simp only [ft]
  rw [hfin z f2,f3]
 rw [cU hu,if_neg hu]
 simp only [eY,ft]
 rw [hfin q e2,e3]
def W:Int:=18446744073709551616
def rw' (n:Int):Ze:=⟨n / 18446744073709551616,n % 18446744073709551616⟩
def U128 (n:Int):Prop:=0≤n∧n<340282366920938463463374607431768211456
theorem vM {n:Int} (h:U128 n):RW (rw' n)∧rv (rw' n)=n:=by unfold U128 at h;unfold RW rv rw' U64;dsimp only;omega
theorem rw_of {w:Ze} (h:RW w):w=rw' (rv w)∧U128 (rv w):=by
 obtain ⟨a,b⟩:=w
 unfold RW U64 at h;unfold rw' rv U128;dsimp only at *
 refine ⟨?_,by omega⟩
 congr 1 <;> omega
theorem rmul {a b:Int} (ha:U64 a) (hb:U64 b):fy a b=some (rw' (a*b)):=by
 obtain ⟨w,e1,e2,e3⟩:=vK ha hb
 rw [e1,← e3];exact congrArg some (rw_of e2).1
theorem radd {a b:Int} (ha:U128 a) (hb:U128 b) (h:U128 (a+b)):∃ o,dC (rw' a) (rw' b)=some (rw' (a+b),o):=by
 obtain ⟨a1,a2⟩:=vM ha
 obtain ⟨b1,b2⟩:=vM hb
 obtain ⟨w,o,e1,e2,e3⟩:=na a1 b1
 rw [a2,b2] at e3
 have e3:=e3 h.2
 rw [e1,← e3,← (rw_of e2).1];exact ⟨_,rfl⟩
theorem rless {a b:Int} (ha:U128 a) (hb:U128 b):ez (rw' a) (rw' b)=some (decide (a<b)):=by
 unfold U128 at *
 unfold ez rw'
 dsimp only
 congr 1
 by_cases h:a<b
 ·rw [det h];simp only [Bool.or_eq_true,Bool.and_eq_true,decide_eq_true_eq,beq_iff_eq];omega
 rw [cU h];simp only [Bool.or_eq_false_iff,Bool.and_eq_false_iff,decide_eq_false_iff_not,beq_eq_false_iff_ne];omega
theorem rdiv {n c:Int} (h:U128 n) (hc:U64 c) (h1:1≤c):iR (rw' n) c 2=some (if rnd n c 2<18446744073709551616 then (rnd n c 2,0) else (0,3)):=by
 have:=ref_div (vM h).1 hc h1 (.inr rfl);rw [(vM h).2] at this;exact this
structure DutyOK (d:Zk):Prop where
 r0:0≤d.Rate
 r1:d.Rate≤10000000
 a0:0≤d.Amount
 a1:d.Amount≤100000000
 p0:0≤d.Per
 p1:d.Per≤1000000
 m0:0≤d.Most
 m1:d.Most≤10000000
 l0:0≤d.Least
 l1:d.Least≤10000000
theorem nc (d:Zk):∃ e,cE d=some e∧(e=0→DutyOK d)∧(e=0∨e=1∨e=2):=by
 unfold cE
 by_cases h1:((((decide (d.Rate<0))||(decide (10000000<d.Rate)))||(decide (d.Amount<0)))||(decide (100000000<d.Amount)))=true
 ·rw [h1];exact ⟨_,rfl,by simp,by simp⟩
 rw [Bool.eq_false_iff.2 h1]
 by_cases h2:(((decide (0<d.Amount))&&((decide (d.Per<1))||(decide (1000000<d.Per))))||((d.Amount == 0)&&(d.Per != 0)))=true
 ·rw [h2];exact ⟨_,rfl,by simp,by simp⟩
 rw [Bool.eq_false_iff.2 h2]
 by_cases h3:((((decide (d.Most<0))||(decide (10000000<d.Most)))||(decide (d.Least<0)))||(decide (10000000<d.Least)))=true
 ·rw [h3];exact ⟨_,rfl,by simp,by simp⟩
 rw [Bool.eq_false_iff.2 h3]
 simp at h1 h2 h3
 have ok:DutyOK d:=by constructor <;> omega
 simp only [eY]
 cases h4:(((d.Most != 0)&&(!d.HasMost))||((d.Least != 0)&&(!d.HasLeast)))
 ·cases h5:((d.HasMost&&d.HasLeast)&&(decide (d.Most<d.Least)))
  ·exact ⟨_,rfl,fun _=>ok,by simp⟩
  exact ⟨_,rfl,by simp,by simp⟩
 exact ⟨_,rfl,by simp,by simp⟩
theorem vN (d:Zk):gM d=cE d:=by
 unfold gM cE fF gd
 have t1:((decide (0≤d.Rate))&&(decide (d.Rate≤10000000))) = !((decide (d.Rate<0))||(decide (10000000<d.Rate))):=by
  rw [Bool.not_or,← decide_not,← decide_not];simp
 have t2:((decide (0≤d.Amount))&&(decide (d.Amount≤100000000))) = !((decide (d.Amount<0))||(decide (100000000<d.Amount))):=by
  rw [Bool.not_or,← decide_not,← decide_not];simp
 have t3:((decide (0≤d.Most))&&(decide (d.Most≤10000000))) = !((decide (d.Most<0))||(decide (10000000<d.Most))):=by
  rw [Bool.not_or,← decide_not,← decide_not];simp
 have t4:((decide (0≤d.Least))&&(decide (d.Least≤10000000))) = !((decide (d.Least<0))||(decide (10000000<d.Least))):=by
  rw [Bool.not_or,← decide_not,← decide_not];simp
 rw [t1,t2,t3,t4,Bool.or_assoc ((decide (d.Rate<0))||(decide (10000000<d.Rate))),Bool.or_assoc ((decide (d.Most<0))||(decide (10000000<d.Most)))]
 generalize ((decide (d.Rate<0))||(decide (10000000<d.Rate)))=a
 generalize ((decide (d.Amount<0))||(decide (100000000<d.Amount)))=b
 generalize ((decide (d.Most<0))||(decide (10000000<d.Most)))=c
 generalize ((decide (d.Least<0))||(decide (10000000<d.Least)))=e
 generalize ((decide (0<d.Amount))&&((decide (d.Per<1))||(decide (1000000<d.Per))))=f
 generalize ((d.Amount == 0)&&(d.Per != 0))=g
 generalize (((d.Most != 0)&&(!d.HasMost))||((d.Least != 0)&&(!d.HasLeast)))=i
 generalize ((d.HasMost&&d.HasLeast)&&(decide (d.Most<d.Least)))=j
 cases a <;> cases b <;> cases c <;> cases e <;> cases f <;> cases g <;> cases i <;> cases j <;> rfl
def od (d:Zk) (v q:Int):Int :=
 let p:=cX d.Per 1
 let s:=d.Rate*v*p+d.Amount*q*1000000
 let s:=if d.HasMost=true∧d.Most*v*p<s then d.Most*v*p else s
 if d.HasLeast=true∧s<d.Least*v*p then d.Least*v*p else s
def mh (d:Zk) (v q:Int):Int×Int:=if rnd (od d v q) (1000000*cX d.Per 1) 2≤1000000000000 then (rnd (od d v q) (1000000*cX d.Per 1) 2,0) else (0,3)
theorem rstepM {β:Type} {b:Bool} {s m:Int} {k:Int×Int→Option β} (hs:U128 s) (hm:U128 m):Option.bind (cond b (some (rw' m)) (some default)) (fun x12=>Option.bind (cond b (ez x12 (rw' s)) (some default)) (fun x13=>Option.bind (cond (b&&x13) (Option.bind (some (rw' m)) (fun x18=>some (x18.Hi,x18.Lo))) (some ((rw' s).Hi,(rw' s).Lo))) k))=k ((rw' (if b=true∧m<s then m else s)).Hi,(rw' (if b=true∧m<s then m else s)).Lo):=by
 cases b
 ·simp
 simp only [cZ,ft,Bool.true_and]
 rw [rless hm hs]
 simp only [ft,true_and]
 by_cases h:m<s
 ·rw [det h,if_pos h];rfl
 rw [cU h,if_neg h];rfl
theorem rstepL {β:Type} {b:Bool} {s m:Int} {k:Int×Int→Option β} (hs:U128 s) (hm:U128 m):Option.bind (cond b (some (rw' m)) (some default)) (fun x12=>Option.bind (cond b (ez ⟨(rw' s).Hi,(rw' s).Lo⟩ x12) (some default)) (fun x13=>Option.bind (cond (b&&x13) (Option.bind (some (rw' m)) (fun x18=>some (x18.Hi,x18.Lo))) (some ((rw' s).Hi,(rw' s).Lo))) k))=k ((rw' (if b=true∧s<m then m else s)).Hi,(rw' (if b=true∧s<m then m else s)).Lo):=by
 cases b
 ·simp
 simp only [cZ,ft,Bool.true_and]
 rw [show ez ⟨(rw' s).Hi,(rw' s).Lo⟩ (rw' m)=_ from rless hs hm]
 simp only [ft,true_and]
 by_cases h:s<m
 ·rw [det h,if_pos h];rfl
 rw [cU h,if_neg h];rfl
theorem p9 {n c:Int} (h:0≤n) (hc:1≤c):0≤rnd n c 2:=by
 have:=Int.ediv_nonneg h (show 0≤c by omega)
 unfold rnd;split <;> omega
theorem evFin (r:Int) (h:0≤r):(Option.bind (some (if r<18446744073709551616 then (r,(0:Int)) else (0,3))) (fun x26=>cond ((x26.2 != 0)||(decide (1000000000000<x26.1))) (some ((0:Int),(3:Int))) (some ((IntKind.i64.wrap x26.1),0))))=some (if r≤1000000000000 then (r,0) else (0,3)):=by
 by_cases h1:r≤1000000000000
 ·rw [if_pos (by omega),if_pos h1]
  simp only [ft]
  rw [cU (by omega),cy (by omega) (by omega)];rfl
 rw [if_neg h1]
 by_cases h2:r<18446744073709551616
 ·rw [if_pos h2]
  simp only [ft]
  rw [det (by omega),Bool.or_true];rfl
 rw [if_neg h2];rfl
section
variable {d:Zk} {v q:Int} (hd:DutyOK d) (hv:0≤v) (hv':v≤1000000000000) (hq:0≤q) (hq':q≤1000000000)
include hv hv' in
theorem prodU {r:Int} (h0:0≤r) (h1:r≤10000000):U64 (r*v)∧0≤r*v∧r*v≤10000000000000000000:=by
 have a:=Int.mul_nonneg h0 hv
 have b:r*v≤10000000*1000000000000:=Int.mul_le_mul h1 hv' hv (by omega)
 exact ⟨⟨a,by omega⟩,a,by omega⟩
include hq hq' in
theorem prodQ {r:Int} (h0:0≤r) (h1:r≤100000000):U64 (r*q)∧0≤r*q∧r*q≤100000000000000000:=by
 have a:=Int.mul_nonneg h0 hq
 have b:r*q≤100000000*1000000000:=Int.mul_le_mul h1 hq' hq (by omega)
 exact ⟨⟨a,by omega⟩,a,by omega⟩
include hd in
theorem perU:1≤cX d.Per 1∧cX d.Per 1≤1000000:=by
 have:=hd.p0;have:=hd.p1;unfold cX;split <;> omega
include hd hv hv' in
theorem qS {r:Int} (h0:0≤r) (h1:r≤10000000):U128 (r*v*cX d.Per 1)∧r*v*cX d.Per 1≤10000000000000000000000000:=by
 obtain ⟨_,a,b⟩:=prodU hv hv' h0 h1
 obtain ⟨p0,p1⟩:=perU hd
 have c:=Int.mul_nonneg a (show 0≤cX d.Per 1 by omega)
 have e:r*v*cX d.Per 1≤10000000000000000000*1000000:=Int.mul_le_mul b p1 (by omega) (by omega)
 exact ⟨⟨c,by omega⟩,by omega⟩
include hd hv hv' in
theorem yT {r:Int} (h0:0≤r) (h1:r≤10000000):dy r v (cX d.Per 1)=some (rw' (r*v*cX d.Per 1)):=by
 obtain ⟨a,_,_⟩:=prodU hv hv' h0 h1
 obtain ⟨p0,p1⟩:=perU hd
 unfold dy
 rw [iB (a:=r) ⟨h0,by omega⟩,iB (a:=v) ⟨hv,by omega⟩,iB a,iB (a:=cX d.Per 1) ⟨by omega,by omega⟩,rmul a ⟨by omega,by omega⟩];rfl
include hd hv hv' hq hq'
theorem tW:U128 (od d v q)∧od d v q≤20000000000000000000000000:=by
 obtain ⟨⟨a1,_⟩,a3⟩:=qS hd hv hv' hd.r0 hd.r1
 obtain ⟨⟨b1,_⟩,b3⟩:=qS hd hv hv' hd.m0 hd.m1
 obtain ⟨⟨c1,_⟩,c3⟩:=qS hd hv hv' hd.l0 hd.l1
 obtain ⟨_,e1,e2⟩:=prodQ hq hq' hd.a0 hd.a1
 unfold od U128
 dsimp only
 split <;> split <;> omega
theorem tX (hval:cE d=some 0):cM d v q=some (mh d v q):=by
 obtain ⟨A,a3⟩:=qS hd hv hv' hd.r0 hd.r1
 obtain ⟨B,b3⟩:=qS hd hv hv' hd.m0 hd.m1
 obtain ⟨C,c3⟩:=qS hd hv hv' hd.l0 hd.l1
 obtain ⟨e0,e1,e2⟩:=prodQ hq hq' hd.a0 hd.a1
 obtain ⟨p0,p1⟩:=perU hd
 obtain ⟨G,_⟩:=tW hd hv hv' hq hq'
 have ha0:=hd.a0;have ha1:=hd.a1
 have E:U128 (d.Amount*q*1000000):=⟨by omega,by omega⟩
 have F:U128 (d.Rate*v*cX d.Per 1+d.Amount*q*1000000):=⟨by have:=A.1;omega,by omega⟩
 unfold cM
 rw [vN,bM hval]
 unfold fF
 have hc1:((decide (0≤v))&&(decide (v≤1000000000000)))=true:=by simp;omega
 have hc2:((decide (0≤q))&&(decide (q≤1000000000)))=true:=by simp;omega
 rw [hc1,hc2]
 simp only [bne_self_eq_false,eY,ft,Bool.not_true,Bool.not_false,gd,cZ,Bool.or_self]
 rw [yT hd hv hv' hd.r0 hd.r1,iB (a:=d.Amount) ⟨ha0,by omega⟩,iB (a:=q) ⟨hq,by omega⟩,iB e0,rmul e0 ⟨by omega,by omega⟩]
 obtain ⟨o,hadd⟩:=radd A E F
 simp only [ft]
 rw [hadd]
 simp only [ft]
 rw [yT hd hv hv' hd.m0 hd.m1,yT hd hv hv' hd.l0 hd.l1]
 rw [rstepM F B]
 dsimp only
 rw [rstepL (by split <;> assumption) C]
 dsimp only
 rw [iB (a:=cX d.Per 1) ⟨by omega,by omega⟩,Int.mul_comm (cX d.Per 1) 1000000,iB (a:=1000000*cX d.Per 1) ⟨by omega,by omega⟩]
 have:=rdiv G (c:=1000000*cX d.Per 1) ⟨by omega,by omega⟩ (by omega)
 unfold od at this
 dsimp only at this
 erw [this]
 unfold mh od
 dsimp only
 exact evFin _ (p9 G.1 (by omega))
end
theorem evN_ok (d:Zk) (v q:Int) (h:0≤od d v q) (hp:1≤cX d.Per 1):((mh d v q).2=0∧0≤(mh d v q).1∧(mh d v q).1≤1000000000000)∨((mh d v q).2=3∧(mh d v q).1=0):=by
 have:=p9 (c:=1000000*cX d.Per 1) h (by omega)
 unfold mh;split
 ·left;dsimp only;omega
 right;exact ⟨rfl,rfl⟩
theorem cW {S T β:Type} {body:S→Option (S⊕T)} {N:Nat} {s:S} (s':S) {k:T→Option β} (h:body s=some (.inl s')):(bk body (N+1) s).bind k=(bk body N s').bind k:=by rw [gJ,h]
theorem fm {S T β:Type} {body:S→Option (S⊕T)} {N:Nat} {s:S} (t:T) {k:T→Option β} (h:body s=some (.inr t)):(bk body (N+1) s).bind k=k t:=by rw [gJ,h];rfl
theorem fuel9:FUEL=1267650600228229401496703205367+9:=rfl
structure ShareOK (t g r:Int):Prop where
 t0:0≤t
 t1:t≤1000000000000
 g0:0≤g
 g1:g≤1000000000000
 r0:0≤r
 r1:r≤1000000000000
 s1:1≤g+r
def fp (t g r:Int):Int:=t - t*g / (g+r) - t*r / (g+r)
def je (t g r:Int):Int×Int:=if fp t g r=1 then (if t*g % (g+r)<t*r % (g+r) then (t*g / (g+r),t*r / (g+r)+1) else (t*g / (g+r)+1,t*r / (g+r))) else (t*g / (g+r),t*r / (g+r))
structure ShareFacts (t g r:Int):Prop where
 a0:0≤t*g / (g+r)
 a1:t*g / (g+r)≤t
 b0:0≤t*r / (g+r)
 b1:t*r / (g+r)≤t
 c0:0≤t*g % (g+r)
 c1:t*g % (g+r)<g+r
 d0:0≤t*r % (g+r)
 d1:t*r % (g+r)<g+r
 l01:fp t g r=0∨fp t g r=1
section
variable {t g r:Int} (h:ShareOK t g r)
include h
theorem qa:ShareFacts t g r:=by
 obtain ⟨t0,t1,g0,g1,r0,r1,s1⟩:=h
 have p1:=Int.mul_nonneg t0 g0
 have p2:=Int.mul_nonneg t0 r0
 have e1:=Int.emod_add_mul_ediv (t*g) (g+r)
 have e2:=Int.emod_add_mul_ediv (t*r) (g+r)
 have a0:=Int.ediv_nonneg p1 (show 0≤g+r by omega)
 have b0:=Int.ediv_nonneg p2 (show 0≤g+r by omega)
 have c0:=Int.emod_nonneg (t*g) (show g+r≠0 by omega)
 have d0:=Int.emod_nonneg (t*r) (show g+r≠0 by omega)
 have c1:=Int.emod_lt_of_pos (t*g) (show 0<g+r by omega)
 have d1:=Int.emod_lt_of_pos (t*r) (show 0<g+r by omega)
 have hs:t*(g+r)=t*g+t*r:=Int.mul_add _ _ _
 have key:(g+r)*fp t g r=t*g % (g+r)+t*r % (g+r):=by
  unfold fp
  rw [Int.mul_sub,Int.mul_sub,Int.mul_comm (g+r) t]
  generalize t*g / (g+r)=x at *
  generalize t*r / (g+r)=y at *
  generalize (g+r)*x=X at *
  generalize (g+r)*y=Y at *
  omega
 have l0:0≤fp t g r:=by
  by_cases hc:0≤fp t g r
  ·exact hc
  have:=Int.mul_le_mul_of_nonneg_left (show fp t g r ≤ -1 by omega) (show 0≤g+r by omega);omega
 have l1:fp t g r≤1:=by
  by_cases hc:fp t g r≤1
  ·exact hc
  have:=Int.mul_le_mul_of_nonneg_left (show 2≤fp t g r by omega) (show 0≤g+r by omega);omega
 refine ⟨a0,?_,b0,?_,c0,c1,d0,d1,by omega⟩
 ·unfold fp at l0;omega
 unfold fp at l0;omega
theorem wP:(je t g r).1+(je t g r).2=t∧0≤(je t g r).1∧(je t g r).1≤1000000000000∧0≤(je t g r).2∧(je t g r).2≤1000000000000:=by
 obtain ⟨a0,a1,b0,b1,c0,c1,d0,d1,l01⟩:=qa h
 have:=h.t1
 have hl:fp t g r=t - t*g / (g+r) - t*r / (g+r):=rfl
 unfold je
 split
 ·split <;> (dsimp only;omega)
 dsimp only;omega
theorem yU {w:Int} (hw:0≤w) (hw1:w≤1000000000000) (hle:t*w / (g+r)≤t):∃ z q,fy t w=some z∧ex z (g+r)=some (q,t*w % (g+r))∧q.Lo=t*w / (g+r):=by
 obtain ⟨t0,t1,g0,g1,r0,r1,s1⟩:=h
 obtain ⟨z,e1,e2,e3⟩:=vK (a:=t) (b:=w) ⟨by omega,by omega⟩ ⟨by omega,by omega⟩
 obtain ⟨q,m,f1,f2,f3,f4⟩:=p8 e2 (d:=g+r) ⟨by omega,by omega⟩ s1
 rw [e3] at f3 f4
 refine ⟨z,q,e1,by rw [f1,f4],?_⟩
 obtain ⟨⟨x1,x2⟩,⟨x3,x4⟩⟩:=f2
 unfold rv at f3;omega
end
section
variable {t g r:Int} (h:ShareOK t g r)
include h
end
section
variable {t g r:Int} (h:ShareOK t g r)
include h
theorem wQ:fZ t [g,r]=some ([(je t g r).1,(je t g r).2],0):=by
 obtain ⟨a0,a1,b0,b1,c0,c1,d0,d1,l01⟩:=qa h
 obtain ⟨z1,q1,u1,u2,u3⟩:=yU h h.g0 h.g1 a1
 obtain ⟨z2,q2,v1,v2,v3⟩:=yU h h.r0 h.r1 b1
 obtain ⟨t0,t1,g0,g1,r0,r1,s1⟩:=h
 unfold fZ
 rw [show decide ((1000:Int)<(([g,r]:List Int).length:Int))=false from rfl,show ((decide (t<0))||(decide (1000000000000<t)))=false by simp;omega,fuel9]
 simp only [eY]
 refine (cW (false,1) ?_).trans ((cW (false,2) ?_).trans ((fm false ?_).trans ?_))
 ·dsimp only
  rw [show decide ((0:Int)<(([g,r]:List Int).length:Int))=true from rfl]
  simp only [cZ]
  rw [bM (show gd (!false) (idx [g,r] 0)=some g from rfl),cU (show ¬ g<0 by omega),bM (show gd (!(false||false)) (idx [g,r] 0)=some g from rfl),cU (show ¬ 1000000000000<g by omega)];rfl
 ·dsimp only
  rw [show decide ((1:Int)<(([g,r]:List Int).length:Int))=true from rfl]
  simp only [cZ]
  rw [bM (show gd (!false) (idx [g,r] 1)=some r from rfl),cU (show ¬ r<0 by omega),bM (show gd (!(false||false)) (idx [g,r] 1)=some r from rfl),cU (show ¬ 1000000000000<r by omega)];rfl
 ·rfl
 rw [show ((([g,r]:List Int).length:Int) == 0)=false from rfl,Bool.false_and,eY,eY]
 refine (cW (g,1) ?_).trans ((cW (g+r,2) ?_).trans ((fm (g+r) ?_).trans ?_))
 ·dsimp only
  rw [show decide ((0:Int)<(([g,r]:List Int).length:Int))=true from rfl,bM (show idx [g,r] 0=some g from rfl),cy (by omega) (by omega),Int.zero_add];rfl
 ·dsimp only
  rw [show decide ((1:Int)<(([g,r]:List Int).length:Int))=true from rfl,bM (show idx [g,r] 1=some r from rfl),cy (by omega) (by omega)];rfl
 ·rfl
 rw [bM (show mk 8 (0:Int) (([g,r]:List Int).length:Int)=some [0,0] from rfl),bM (show mk 8 (0:Int) (([g,r]:List Int).length:Int)=some [0,0] from rfl)]
 have hz:(g+r == 0)=false:=by simp;omega
 have hcg:(cond (g+r == 0) (some ((1:Int),(([g,r]:List Int).length:Int))) (some (g,g+r)))=some (g,g+r):=by rw [hz];rfl
 have hcr:(cond (g+r == 0) (some ((1:Int),(([g,r]:List Int).length:Int))) (some (r,g+r)))=some (r,g+r):=by rw [hz];rfl
 have ws:IntKind.u64.wrap (g+r)=g+r:=iB ⟨by omega,by omega⟩
 have wt:IntKind.u64.wrap t=t:=iB ⟨by omega,by omega⟩
 have wg:IntKind.u64.wrap g=g:=iB ⟨by omega,by omega⟩
 have wr:IntKind.u64.wrap r=r:=iB ⟨by omega,by omega⟩
 have i1:IntKind.i64.wrap (t*g / (g+r))=t*g / (g+r):=cy (by omega) (by omega)
 have i2:IntKind.i64.wrap (t*r / (g+r))=t*r / (g+r):=cy (by omega) (by omega)
 have i3:IntKind.i64.wrap (t - t*g / (g+r))=t - t*g / (g+r):=cy (by omega) (by omega)
 have i4:IntKind.i64.wrap (t - t*g / (g+r) - t*r / (g+r))=fp t g r:=cy (by omega) (by omega)
 have i5:IntKind.i64.wrap (t*g % (g+r))=t*g % (g+r):=cy (by omega) (by omega)
 have i6:IntKind.i64.wrap (t*r % (g+r))=t*r % (g+r):=cy (by omega) (by omega)
 refine (cW ([t*g / (g+r),0],[t*g % (g+r),0],t - t*g / (g+r),1) ?_).trans ((cW ([t*g / (g+r),t*r / (g+r)],[t*g % (g+r),t*r % (g+r)],fp t g r,2) ?_).trans ((fm ([t*g / (g+r),t*r / (g+r)],[t*g % (g+r),t*r % (g+r)],fp t g r) ?_).trans ?_))
 ·dsimp only
  rw [show decide ((0:Int)<(([g,r]:List Int).length:Int))=true from rfl,wt,cZ]
  rw [bM (show idx [g,r] 0=some g from rfl),bM hcg]
  dsimp only
  rw [ws,wg,bM u1,bM u2,u3]
  dsimp only
  rw [i1,i5]
  show some (Sum.inl ([t*g / (g+r),0],[t*g % (g+r),0],IntKind.i64.wrap (t - t*g / (g+r)),1))=_
  rw [i3]
 ·dsimp only
  rw [show decide ((1:Int)<(([g,r]:List Int).length:Int))=true from rfl,wt,cZ]
  rw [bM (show idx [g,r] 1=some r from rfl),bM hcr]
  dsimp only
  rw [ws,wr,bM v1,bM v2,v3]
  dsimp only
  rw [i2,i6]
  show some (Sum.inl ([t*g / (g+r),t*r / (g+r)],[t*g % (g+r),t*r % (g+r)],IntKind.i64.wrap (t - t*g / (g+r) - t*r / (g+r)),2))=_
  rw [i4]
 ·rfl
 dsimp only
 have w1:IntKind.i64.wrap (t*g / (g+r)+1)=t*g / (g+r)+1:=cy (by omega) (by omega)
 have w2:IntKind.i64.wrap (t*r / (g+r)+1)=t*r / (g+r)+1:=cy (by omega) (by omega)
 unfold je
 generalize t*g / (g+r)=x0 at *
 generalize t*r / (g+r)=x1 at *
 generalize t*g % (g+r)=m0 at *
 generalize t*r % (g+r)=m1 at *
 rcases l01 with l | l <;> rw [l]
 ·exact (fm [x0,x1] rfl).trans rfl
 by_cases hm:m0<m1
 ·simp only [if_pos hm]
  refine (cW ([x0,x1+1],[m0,-1],0) ?_).trans ((fm [x0,x1+1] ?_).trans rfl)
  ·refine (cW (1,2) ?_).trans ((fm 1 ?_).trans ?_)
   ·show Option.bind (Option.bind (some m1) (fun m76=>Option.bind (some m0) (fun m77=>cond (decide (m77<m76)) (some 1) (some 0)))) _=_
    simp only [ft]
    rw [det hm];rfl
   ·rfl
   show some (Sum.inl ([x0,IntKind.i64.wrap (x1+1)],[m0,-1],0))=_
   rw [w2]
  rfl
 simp only [if_neg hm]
 refine (cW ([x0+1,x1],[-1,m1],0) ?_).trans ((fm [x0+1,x1] ?_).trans rfl)
 ·refine (cW (0,2) ?_).trans ((fm 0 ?_).trans ?_)
  ·show Option.bind (Option.bind (some m1) (fun m76=>Option.bind (some m0) (fun m77=>cond (decide (m77<m76)) (some 1) (some 0)))) _=_
   simp only [ft]
   rw [cU hm];rfl
  ·rfl
  show some (Sum.inl ([IntKind.i64.wrap (x0+1),x1],[-1,m1],0))=_
  rw [w1]
 rfl
end
theorem ix0 {α:Type} {a b:α}:idx [a,b] 0=some a:=rfl
theorem ix1 {α:Type} {a b:α}:idx [a,b] 1=some b:=rfl
theorem cond_ex {α:Type} (c:Bool) (x y:α):∃ r,cond c (some x) (some y)=some r∧cond c (some x) (some y)=some r:=by cases c <;> exact ⟨_,rfl,rfl⟩
theorem cap_eq (c:Int):dj c=some (decide (65≤c)&&decide (c≤90)):=rfl
def qb (s:ByteArray):Bool:=match s.data.toList with | [a,b]=>decide (65≤(a.toNat:Int))&&decide ((a.toNat:Int)≤90)&&decide (65≤(b.toNat:Int))&&decide ((b.toNat:Int)≤90) | _=>false
theorem tY {s:ByteArray} (h:((s.size:Int) == 2)=true):∃ a b,s.data.toList=[a,b]:=by
 have h2:s.data.toList.length=2:=by
  have:=eq_of_beq h
  rw [Array.length_toList];have e:s.size=s.data.size:=rfl;omega
 match hd:s.data.toList,h2 with
 | [a,b],_=>exact ⟨a,b,rfl⟩
theorem vO {s:ByteArray} (h:((s.size:Int) == 2)=false):qb s=false:=by
 unfold qb
 split
 ·rename_i a b hd
  have e:s.size=s.data.toList.length:=by rw [Array.length_toList];rfl
  rw [hd] at e
  have e2:(s.size:Int)=2:=by rw [e];rfl
  rw [e2] at h;cases h
 rfl
theorem jC (s:ByteArray):cj s=some (qb s):=by
 unfold cj
 cases h:((s.size:Int) == 2)
 ·rw [vO h];rfl
 obtain ⟨a,b,hd⟩:=tY h
 simp only [Bool.true_and,dD,cap_eq]
 rw [hd]
 simp only [qb,hd]
 rw [bM ix0]
 simp only [ft]
 cases h1:(decide (65≤(a.toNat:Int))&&decide ((a.toNat:Int)≤90))
 ·rfl
 simp only [dD,Bool.true_and];rw [bM ix1];rfl
theorem kZ (s:ByteArray):de s=some (qb s):=by
 unfold de
 cases h:((s.size:Int) == 2)
 ·rw [vO h];rfl
 obtain ⟨a,b,hd⟩:=tY h
 simp only [Bool.true_and,dD]
 rw [hd]
 simp only [qb,hd]
 rw [bM ix0]
 cases h1:decide (65≤(a.toNat:Int))
 ·rfl
 simp only [dD,Bool.true_and];rw [bM ix0]
 cases h2:decide ((a.toNat:Int)≤90)
 ·rfl
 simp only [dD,Bool.true_and];rw [bM ix1]
 cases h3:decide (65≤(b.toNat:Int))
 ·rfl
 simp only [dD,Bool.true_and];rw [bM ix1]
theorem nO (s:ByteArray) (hs:s.size≤140737488355328):fX s=some (eT s):=by
 have hz:s.size=s.data.toList.length:=by rw [Array.length_toList];rfl
 unfold fX
 obtain ⟨t,h5,h6⟩:=gb (body:=fun v1=>cond (decide (v1<(s.size:Int))) (Option.bind (idx s.data.toList v1) (fun c5=>Option.bind (gd (!(decide ((c5.toNat:Int)<48))) (idx s.data.toList v1)) (fun c6=>cond ((decide ((c5.toNat:Int)<48))||(decide (57<(c6.toNat:Int)))) (some (.inr (.inr 0))) (some (.inl (IntKind.i64.wrap (v1+1))))))) (some (.inr (.inl ()))))
  (fun v:Int=>0≤v∧v≤s.size∧∀ j,(h:j<s.data.toList.length)→(j:Int)<v→gB (s.data.toList[j]).toNat=true) (fun v=>(s.size:Int).toNat - v.toNat) (fun t:Unit⊕Int=>(t=.inl ()∧iw s=true)∨(t=.inr 0∧iw s=false))
  (fun v hv=>by
   obtain ⟨a1,a2,a3⟩:=hv
   by_cases hl:v<(s.size:Int)
   ·rw [det hl];simp only [cZ]
    obtain ⟨k,rfl⟩:∃ k:Nat,v=(k:Int):=⟨v.toNat,by omega⟩
    have hk:k<s.data.toList.length:=by omega
    rw [bM (cC hk)]
    by_cases hd:gB (s.data.toList[k]).toNat=true
    ·left
     have hd2:=hd
     simp only [gB,decide_eq_true_eq] at hd2
     rw [cU (show ¬ ((s.data.toList[k].toNat:Nat):Int)<48 by omega)]
     simp only [Bool.not_false,dD,Bool.false_or]
     rw [bM (cC hk),cU (show ¬ 57<((s.data.toList[k].toNat:Nat):Int) by omega)]
     simp only [eY]
     rw [cy (by omega) (by omega)]
     refine ⟨_,rfl,⟨by omega,by omega,fun j h1 h2=>?_⟩,by omega⟩
     by_cases hj:j=k
     ·subst hj;exact hd
     exact a3 j h1 (by omega)
    right
    refine ⟨.inr 0,?_,.inr ⟨rfl,?_⟩⟩
    ·have hd2:=hd
     simp only [gB,decide_eq_true_eq] at hd2
     by_cases h48:((s.data.toList[k].toNat:Nat):Int)<48
     ·rw [det h48];rfl
     rw [cU h48]
     simp only [Bool.not_false,dD,Bool.false_or]
     rw [bM (cC hk),det (show 57<((s.data.toList[k].toNat:Nat):Int) by omega)];rfl
    cases ha:iw s
    ·rfl
    exfalso;apply hd
    unfold iw bl at ha
    exact List.all_eq_true.1 ha _ (List.getElem_mem hk)
   right
   rw [cU hl]
   refine ⟨.inl (),rfl,.inl ⟨rfl,?_⟩⟩
   unfold iw bl
   rw [List.all_eq_true]
   intro c hc
   obtain ⟨j,hj,rfl⟩:=List.getElem_of_mem hc
   exact a3 j hj (by omega))
  FUEL 0 ⟨by omega,by omega,fun j _ h=>by omega⟩ (gq (by omega))
 rw [bM h5]
 unfold eT
 rcases h6 with ⟨rfl,h⟩ | ⟨rfl,h⟩
 ·simp only [h,and_true]
  by_cases h8:(8:Int)<(s.size:Int)
  ·rw [det h8,if_neg (by omega)];rfl
  rw [cU h8]
  simp only [Bool.false_or]
  have e:Int.tmod (s.size:Int) 2=(s.size:Int) % 2:=Int.tmod_eq_emod_of_nonneg (by omega)
  rw [e]
  by_cases hp:(s.size:Int) % 2=1
  ·rw [hp,if_neg (by omega)];rfl
  have:((s.size:Int) % 2 == 1)=false:=by simpa using hp
  rw [this]
  by_cases h0:s.size=0
  ·rw [if_neg (by omega),h0];rfl
  rw [if_pos (by omega)];rfl
 simp [h]
theorem yV (m:Zj) (h:m.Code.size≤140737488355328):∃ r,bP m=some r∧fO m=some r:=by
 have e1:cY m.Code=some (eT m.Code):=rfl
 have e:bP m=fO m:=by
  unfold bP fO
  rw [e1,nO _ h,jC,kZ]
 rw [e]
 unfold fO
 rw [bM (nO _ h)]
 have:∃ b,gd (!(eT m.Code != 8)) (de m.Origin)=some b:=by rw [kZ];cases (!(eT m.Code != 8)) <;> exact ⟨_,rfl⟩
 obtain ⟨b,hb⟩:=this
 rw [bM hb]
 cases ((eT m.Code != 8)||(!b))
 ·simp only [eY]
  exact cond_ex _ _ _
 exact ⟨_,rfl,rfl⟩
structure Good (m:Zj):Prop where
 code:∃ l,m.Code=strOfNums l∧l.length=8∧Digs l
 orig:qb m.Origin=true
 comp:0≤m.Company∧m.Company≤999
 day:0≤m.Day∧m.Day≤36524
 quant:0≤m.Quantity∧m.Quantity≤1000000000
 value:0≤m.Value∧m.Value≤1000000000000
 grant:0≤m.Granted∧m.Granted≤m.Quantity
theorem Good.size {m:Zj} (h:Good m):m.Code.size=8:=by
 obtain ⟨l,e,h1,_⟩:=h.code
 rw [e];simp [strOfNums,ByteArray.size,h1]
theorem Good.valid {m:Zj} (h:Good m):bP m=some 0:=by
 have e1:cY m.Code=some 8:=by
  obtain ⟨l,e,h1,h2⟩:=h.code
  rw [e];show some (eT _)=_;rw [wO h1 h2]
 have:=h.comp;have:=h.day;have:=h.quant;have:=h.value;have:=h.grant
 unfold bP
 rw [bM e1,jC,h.orig]
 simp only [bne_self_eq_false,Bool.not_false,dD,ft,Bool.not_true,Bool.or_self,eY]
 rw [cU (by omega),cU (by omega),cU (by omega),cU (by omega),cU (by omega),cU (by omega),cU (by omega),cU (by omega),cU (by omega),cU (by omega)]
 rfl
theorem qc {k:Int} (h1:0≤k) (h2:k<6) {l:List ByteArray} (hl:di=some l):∃ s,idx l k=some s∧qb s=true:=by
 have hl:=Option.some.inj hl;subst hl
 obtain ⟨n,rfl⟩:∃ n:Nat,k=(n:Int):=⟨k.toNat,by omega⟩
 match n,(show n<6 by omega) with
 | 0,_=>exact ⟨_,rfl,rfl⟩
 | 1,_=>exact ⟨_,rfl,rfl⟩
 | 2,_=>exact ⟨_,rfl,rfl⟩
 | 3,_=>exact ⟨_,rfl,rfl⟩
 | 4,_=>exact ⟨_,rfl,rfl⟩
 | 5,_=>exact ⟨_,rfl,rfl⟩
theorem vP (l:List Int):∃ m,iS l=some m∧Good m:=by
 unfold iS
 obtain ⟨c,hc,hc2⟩:=yA l 20 (by omega) (by omega)
 rw [bM hc]
 obtain ⟨cd,q,h1,h2,h3,hq⟩:=code_ok (p:=⟨c,0⟩) ⟨by simp,by simp,by simp only;omega⟩
 obtain ⟨cl,hcl⟩:∃ cl,di=some cl:=⟨_,rfl⟩
 rw [bM h1,bM hcl]
 simp only
 obtain ⟨x6,q6,g6,a6,b6,s6⟩:=bG hq 4 (by omega) (by omega)
 rw [bM g6];simp only
 obtain ⟨s,hs,hs2⟩:=qc a6 (by omega) hcl
 rw [bM hs]
 obtain ⟨x8,q8,g8,a8,b8,s8⟩:=bG s6 2 (by omega) (by omega)
 rw [bM g8];simp only
 obtain ⟨x9,q9,g9,a9,b9,s9⟩:=bG s8 3 (by omega) (by omega)
 rw [bM g9];simp only
 obtain ⟨x10,q10,g10,a10,b10,s10⟩:=bG s9 41 (by omega) (by omega)
 rw [bM g10];simp only
 obtain ⟨x11,q11,g11,a11,b11,s11⟩:=bG s10 1000 (by omega) (by omega)
 rw [bM g11];simp only
 obtain ⟨x12,q12,g12,a12,b12,s12⟩:=bG s11 1000000 (by omega) (by omega)
 rw [bM g12];simp only
 obtain ⟨x14,q14,g14,a14,b14,s14⟩:=bG s12 6 (by omega) (by omega)
 rw [bM g14];simp only
 have hb:∃ u v l' i,cond (x14 == 1) (Option.bind (ap q14 1000000001) (fun x21=>Option.bind (ap x21.2 1000000000001) (fun x22=>some (x21.1,x22.1,x22.2.L,x22.2.I)))) (some (x11,x12,q14.L,q14.I))=some (u,v,l',i)∧SOK ⟨l',i⟩∧0≤u∧u≤1000000000∧0≤v∧v≤1000000000000:=by
  cases (x14 == 1)
  ·exact ⟨_,_,_,_,rfl,s14,by omega,by omega,by omega,by omega⟩
  obtain ⟨y1,r1,e1,c1,d1,t1⟩:=bG s14 1000000001 (by omega) (by omega)
  obtain ⟨y2,r2,e2,c2,d2,t2⟩:=bG t1 1000000000001 (by omega) (by omega)
  simp only [cZ]
  rw [bM e1];simp only
  rw [bM e2]
  exact ⟨_,_,_,_,rfl,t2,by omega,by omega,by omega,by omega⟩
 obtain ⟨u,v,l',i,hb1,hb2,hb3,hb4,hb5,hb6⟩:=hb
 rw [bM hb1];simp only
 obtain ⟨x23,q23,g23,a23,b23,s23⟩:=bG hb2 6 (by omega) (by omega)
 rw [bM g23];simp only
 have hw:∃ w,cond (x23 == 1) (some 0) (some u)=some w∧0≤w∧w≤1000000000:=by
  cases (x23 == 1)
  ·exact ⟨_,rfl,hb3,hb4⟩
  exact ⟨_,rfl,by omega,by omega⟩
 obtain ⟨w,hw1,hw2,hw3⟩:=hw
 rw [bM hw1]
 obtain ⟨x27,q27,g27,a27,b27,s27⟩:=bG s23 2 (by omega) (by omega)
 rw [bM g27];simp only
 have hz:∃ z,cond (x27 == 1) (Option.bind (ap q27 (IntKind.i64.wrap (w+1))) (fun x31=>some x31.1)) (some 0)=some z∧0≤z∧z≤w:=by
  cases (x27 == 1)
  ·exact ⟨_,rfl,by omega,by omega⟩
  rw [cy (by omega) (by omega)]
  obtain ⟨y1,r1,e1,c1,d1,t1⟩:=bG s27 (w+1) (by omega) (by omega)
  simp only [cZ]
  rw [bM e1]
  exact ⟨_,rfl,by simp only;omega,by simp only;omega⟩
 obtain ⟨z,hz1,hz2,hz3⟩:=hz
 rw [bM hz1]
 exact ⟨_,rfl,⟨⟨cd,rfl,h2,h3⟩,hs2,⟨a9,by simp only;omega⟩,⟨a10,by simp only;omega⟩,⟨hw2,hw3⟩,⟨hb5,hb6⟩,⟨hz2,hz3⟩⟩⟩
theorem yW:js=some true:=by kernel_rfl
theorem run_inl {α A R:Type} {f:Nat→α→A→A⊕R} (Q:α→Prop) (hf:∀ k x a a',f k x a=.inl a'→Q x):∀ (l:List α) (k:Nat) (a a':A),run f l k a=.inl a'→∀ x∈l,Q x:=by
 intro l
 induction l with
 | nil=>intro k a a' _ x hx;cases hx
 | cons y ys ih =>
  intro k a a' h x hx
  rw [dS] at h
  cases hfy:f k y a with
  | inl b=>rw [hfy] at h;cases hx with
   | head=>exact hf _ _ _ _ hfy
   | tail _ hx=>exact ih _ _ _ h x hx
  | inr r=>rw [hfy] at h;change Sum.inr r=_ at h;cases h
def oBad (l:List ByteArray) (k:Nat) (x:ByteArray):Bool := !qb x||(decide (0<k) && !Op.bytesLess (l.getD (k - 1) x).toList x.toList)
def vQ (l:List ByteArray):Unit⊕Unit:=run (fun k x _=>if oBad l k x then .inr () else .inl ()) l 0 ()
def tZ (l:List ByteArray) (s:ByteArray):Bool:=l.any fun x=>decide (s=x)
theorem ne (l:List ByteArray) (s:ByteArray):tZ l s=true↔s∈l:=by
 unfold tZ;simp
theorem yX (l:List ByteArray) (s:ByteArray) (hl:l.length≤4611686018427387904):bT l s=some (tZ l s)∧jM l s=some (tZ l s):=by
 have hrun:∀ (g:Nat→Int) (xs:List ByteArray) (k:Nat),(∃ j,run (fun k x (_:Unit)=>if s=x then Sum.inr (g k) else Sum.inl ()) xs k ()=.inr (g j)∧s∈xs)∨(run (fun k x (_:Unit)=>if s=x then Sum.inr (g k) else Sum.inl ()) xs k ()=.inl ()∧s ∉ xs):=by
  intro g xs
  induction xs with
  | nil=>intro k;right;exact ⟨rfl,by simp⟩
  | cons y ys ih =>
   intro k
   rw [dS]
   by_cases h:s=y
   ·simp only [if_pos h];left;exact ⟨k,rfl,by simp [h]⟩
   simp only [if_neg h]
   rcases ih (k+1) with ⟨j,h1,h2⟩ | ⟨h1,h2⟩
   ·left;exact ⟨j,h1,by simp [h2]⟩
   right;exact ⟨h1,by simp [h,h2]⟩
 constructor
 ·unfold bT cP
  obtain ⟨e,_⟩:=hZ (T:=Unit⊕Int) hl (body:=fun v1=>cond (decide (v1<(l.length:Int))) (Option.bind (idx l v1) (fun m5=>cond (decide (s=m5)) (some (.inr (.inr v1))) (some (.inl (IntKind.i64.wrap (v1+1)))))) (some (.inr (.inl ()))))
   (fun i (_:Unit)=>i) (fun k x _=>if s=x then .inr (k:Int) else .inl ()) (fun _=>.inl ()) (fun (r:Int)=>.inr r) (fun _ _=>True) (by
    intro k hk a _
    refine ⟨?_,fun _ _=>trivial⟩
    try dsimp only
    rw [wD hk,cZ,bM (cC hk),jJ hk hl]
    by_cases h:s=l[k]
    ·rw [det h,if_pos h];rfl
    rw [cU h,if_neg h];rfl)
   (by intro a _;(try dsimp only);rw [nD];rfl) () trivial
  rw [bM e]
  rcases hrun (fun k=>(k:Int)) l 0 with ⟨j,h1,h2⟩ | ⟨h1,h2⟩
  ·rw [h1,(ne l s).2 h2]
   show some (decide ((0:Int)≤(j:Int)))=_
   rw [det (by omega)]
  rw [h1,show tZ l s=false from Bool.eq_false_iff.2 (fun h=>h2 ((ne l s).1 h))];rfl
 unfold jM
 obtain ⟨e,_⟩:=hZ (T:=Unit⊕Bool) hl (body:=fun v1=>cond (decide (v1<(l.length:Int))) (Option.bind (idx l v1) (fun m5=>cond (decide (m5=s)) (some (.inr (.inr true))) (some (.inl (IntKind.i64.wrap (v1+1)))))) (some (.inr (.inl ()))))
  (fun i (_:Unit)=>i) (fun k x _=>if s=x then .inr (k:Int) else .inl ()) (fun _=>.inl ()) (fun (r:Int)=>.inr true) (fun _ _=>True) (by
   intro k hk a _
   refine ⟨?_,fun _ _=>trivial⟩
   try dsimp only
   rw [wD hk,cZ,bM (cC hk),jJ hk hl]
   by_cases h:s=l[k]
   ·rw [det h.symm,if_pos h];rfl
   rw [cU (fun h'=>h h'.symm),if_neg h];rfl)
  (by intro a _;(try dsimp only);rw [nD];rfl) () trivial
 rw [bM e]
 rcases hrun (fun k=>(k:Int)) l 0 with ⟨j,h1,h2⟩ | ⟨h1,h2⟩
 ·rw [h1,(ne l s).2 h2];try rfl
 rw [h1,show tZ l s=false from Bool.eq_false_iff.2 (fun h=>h2 ((ne l s).1 h))];rfl
structure MOK (m:Zc):Prop where
 id0:1≤m.ID
 id1:m.ID≤1000000
 k0:1≤m.Kind
 k1:m.Kind≤6
 c0:0≤m.Company
 pre:m.Prefix.size≤8
 orig:m.Origins.length≤20
 reg : -1≤m.Registered
 duty:cE m.Duty=some 0
def pfx (s p:ByteArray):Bool:=decide ((p.size:Int)≤(s.size:Int))&&decide (s.extract 0 p.size=p)
theorem pfx_ok (s p:ByteArray):gx s p=some (pfx s p):=by
 unfold gx pfx
 by_cases h:(p.size:Int)≤(s.size:Int)
 ·rw [det h,dD]
  have e:kv s 0 (p.size:Int)=some (s.extract 0 p.size):=by unfold kv;rw [if_pos (by omega)];rfl
  rw [bM e]
 rw [cU h];rfl
def cov (m:Zc) (code origin:ByteArray) (company day:Int):Bool:=(((((decide (m.From≤day))&&(decide (day<m.To)))||(((decide (0≤m.Registered))&&(decide (m.Registered≤day)))&&(decide (day<m.From))))&&pfx code m.Prefix)&&(((m.Origins.length:Int) == 0)||tZ m.Origins origin))&&((m.Company == 0)||(m.Company == company))
theorem u9 (m:Zc) (hm:m.Origins.length≤4611686018427387904) (code origin:ByteArray) (company day:Int):ey m code origin company day=some (cov m code origin company day):=by
 unfold ey gY cov
 rw [ft,pfx_ok,(yX m.Origins origin hm).2]
 generalize (((decide (m.From≤day))&&(decide (day<m.To)))||(((decide (0≤m.Registered))&&(decide (m.Registered≤day)))&&(decide (day<m.From))))=a
 generalize pfx code m.Prefix=b
 generalize ((m.Origins.length:Int) == 0)=c
 generalize tZ m.Origins origin=d
 generalize ((m.Company == 0)||(m.Company == company))=e
 cases a <;> cases b <;> cases c <;> cases d <;> cases e <;> rfl
def qT (m:Zc):Int:=(((m.Prefix.size:Int)*2+(if m.Company=0 then 0 else 1))*100+50 - (if m.Origins.length=0 then 21 else (m.Origins.length:Int)))*10000000+m.ID
theorem vR {m:Zc} (h:MOK m):dW m=some (qT m):=by
 obtain ⟨a1,a2,a3,a4,a5,a6,a7,a8,a9⟩:=h
 unfold dW qT
 have e1:(cond (decide (0<(m.Origins.length:Int))) (some (m.Origins.length:Int)) (some 21))=some (if m.Origins.length=0 then 21 else (m.Origins.length:Int)):=by
  by_cases h:m.Origins.length=0
  ·rw [h];rfl
  rw [det (by omega),if_neg h];rfl
 have e2:(cond (m.Company != 0) (some (1:Int)) (some 0))=some (if m.Company=0 then 0 else 1):=by
  by_cases h:m.Company=0
  ·rw [h];rfl
  rw [if_neg h,show (m.Company != 0)=true by simp [h]];rfl
 rw [bM e1,bM e2]
 have b1:(0:Int)≤(if m.Origins.length=0 then 21 else (m.Origins.length:Int))∧(if m.Origins.length=0 then 21 else (m.Origins.length:Int))≤21:=by split <;> omega
 have b2:(0:Int)≤(if m.Company=0 then 0 else 1)∧(if m.Company=0 then (0:Int) else 1)≤1:=by split <;> omega
 generalize (if m.Origins.length=0 then 21 else (m.Origins.length:Int))=n at *
 generalize (if m.Company=0 then (0:Int) else 1)=c at *
 unfold lb
 have hz:(m.Prefix.size:Int)≤8:=by omega
 have hz0:0≤(m.Prefix.size:Int):=by omega
 generalize (m.Prefix.size:Int)=z at *
 rw [cy (r:=z*2) (by omega) (by omega),cy (r:=z*2+c) (by omega) (by omega),cy (r:=(z*2+c)*100) (by omega) (by omega),cy (r:=(z*2+c)*100+50) (by omega) (by omega),cy (r:=(z*2+c)*100+50 - n) (by omega) (by omega),cy (r:=((z*2+c)*100+50 - n)*10000000) (by omega) (by omega),cy (by omega) (by omega)]
theorem t6 {R:Type} (l:List ByteArray) (hl:l.length≤4611686018427387904) (k:Unit⊕(Int×Bool)→Option R):Option.bind (bk (S:=Int) (T:=(Unit)⊕(_)) (fun v6=>cond (decide (v6<(l.length:Int))) (Option.bind (idx l v6) (fun m10=>Option.bind (de m10) (fun x11=>Option.bind (gd ((!(!x11))&&(decide (0<v6))) (idx l (IntKind.i64.wrap (v6 - 1)))) (fun m12=>Option.bind (gd ((!(!x11))&&(decide (0<v6))) (idx l v6)) (fun m13=>cond ((!x11)||((decide (0<v6))&&(!Op.bytesLess m12.toList m13.toList))) (some (.inr (.inr (1,false)))) (some (.inl (IntKind.i64.wrap (v6+1))))))))) (some (.inr (.inl ())))) FUEL 0) k=k (match vQ l with | .inl _=>.inl () | .inr _=>.inr (1,false)):=by
 obtain ⟨e,_⟩:=hZ (T:=Unit⊕(Int×Bool)) hl (body:=fun v6=>cond (decide (v6<(l.length:Int))) (Option.bind (idx l v6) (fun m10=>Option.bind (de m10) (fun x11=>Option.bind (gd ((!(!x11))&&(decide (0<v6))) (idx l (IntKind.i64.wrap (v6 - 1)))) (fun m12=>Option.bind (gd ((!(!x11))&&(decide (0<v6))) (idx l v6)) (fun m13=>cond ((!x11)||((decide (0<v6))&&(!Op.bytesLess m12.toList m13.toList))) (some (.inr (.inr (1,false)))) (some (.inl (IntKind.i64.wrap (v6+1))))))))) (some (.inr (.inl ()))))
  (fun i (_:Unit)=>i) (fun k x _=>if oBad l k x then .inr () else .inl ()) (fun _=>.inl ()) (fun (_:Unit)=>.inr (1,false)) (fun _ _=>True) (by
   intro k hk a _
   refine ⟨?_,fun _ _=>trivial⟩
   rw [wD hk,cZ,bM (cC hk),kZ,jJ hk hl,ft]
   unfold oBad
   cases hc:qb l[k]
   ·rfl
   by_cases h0:0<k
   ·rw [det (show (0:Int)<(k:Int) by omega),det h0]
    simp only [Bool.not_true,Bool.not_false,Bool.true_and,Bool.false_or]
    rw [dD,bM (tB h0 hk hl),dD,bM (cC hk),rR (by omega)]
    cases Op.bytesLess (l[k-1]'(by omega)).toList l[k].toList <;> rfl
   rw [cU (show ¬ (0:Int)<(k:Int) by omega),cU h0];rfl)
  (by intro a _;rw [nD];rfl) () trivial
 rw [bM e]
 unfold vQ
 cases run (fun k x _=>if oBad l k x then Sum.inr () else Sum.inl ()) l 0 () <;> rfl
def yY (m:Zc):Bool:=((((((decide (m.ID<1))||(decide (1000000<m.ID)))||(decide (m.Kind<1)))||(decide (6<m.Kind)))||(decide (m.Company<0)))||(decide (999<m.Company)))
def dayB (m:Zc):Bool:=(((((decide (m.From<0))||(decide (m.To≤m.From)))||(decide (36525<m.To)))||(decide (m.Registered<(-1))))||(decide (m.From<m.Registered)))
def sc (m:Zc):Int:=if eT m.Prefix=0 then 1 else if 20<m.Origins.length then 8 else match vQ m.Origins with | .inr _=>1 | .inl _=>if dayB m then 2 else (cE m.Duty).getD 0
def t7 (l:List Zc) (k:Nat) (m:Zc):Int:=if yY m then 2 else if 0<k∧m.ID≤(l.getD (k - 1) m).ID then 9 else sc m
theorem va {s:ByteArray} (h:eT s≠0):s.size≤8:=by
 unfold eT at h;split at h
 ·rename_i h;omega
 exact absurd rfl h
theorem mErr_ok {l:List Zc} {k:Nat} {m:Zc} (h:t7 l k m=0):MOK m:=by
 unfold t7 at h
 split at h
 ·cases h
 rename_i hf
 split at h
 ·cases h
 unfold sc at h
 split at h
 ·cases h
 rename_i hl
 split at h
 ·cases h
 rename_i ho
 split at h
 ·cases h
 split at h
 ·cases h
 rename_i hd
 simp [yY] at hf
 simp [dayB] at hd
 obtain ⟨e,e1,e2,_⟩:=nc m.Duty
 rw [e1] at h
 have:e=0:=h
 subst this
 exact ⟨by omega,by omega,by omega,by omega,by omega,va hl,by omega,by omega,e1⟩
theorem one_ok (m:Zc) (hp:m.Prefix.size≤140737488355328) (hf:yY m=false):gN m=some (sc m,(sc m == 0)):=by
 unfold gN sc
 rw [show (((((((decide (m.ID<1))||(decide (1000000<m.ID)))||(decide (m.Kind<1)))||(decide (6<m.Kind)))||(decide (m.Company<0)))||(decide (999<m.Company))):Bool)=false from hf,eY,bM (nO _ hp)]
 by_cases h1:eT m.Prefix=0
 ·rw [if_pos h1,h1];rfl
 rw [if_neg h1,show (eT m.Prefix == 0)=false by simp [h1],eY]
 by_cases h2:20<m.Origins.length
 ·rw [if_pos h2,det (by omega)];rfl
 rw [if_neg h2,cU (by omega),eY,t6 _ (by omega)]
 cases vQ m.Origins with
 | inr u=>rfl
 | inl u =>
  show cond (((((decide (m.From<0))||(decide (m.To≤m.From)))||(decide (36525<m.To)))||(decide (m.Registered<(-1))))||(decide (m.From<m.Registered))) _ _=_
  rw [show (((((decide (m.From<0))||(decide (m.To≤m.From)))||(decide (36525<m.To)))||(decide (m.Registered<(-1))))||(decide (m.From<m.Registered)))=dayB m from rfl]
  dsimp only
  cases dayB m
  ·obtain ⟨e,e1,_⟩:=nc m.Duty
   rw [eY,vN,e1];rfl
  rfl
theorem run_inr {α A R:Type} {f:Nat→α→A→A⊕R} (Q:R→Prop) (hf:∀ k x a r,f k x a=.inr r→Q r):∀ (l:List α) (k:Nat) (a:A) (r:R),run f l k a=.inr r→Q r:=by
 intro l
 induction l with
 | nil=>intro k a r h;cases h
 | cons y ys ih =>
  intro k a r h
  rw [dS] at h
  cases hfy:f k y a with
  | inl b=>rw [hfy] at h;exact ih _ _ _ h
  | inr r'=>rw [hfy] at h;change Sum.inr r'=Sum.inr r at h;injection h with h;exact h ▸ hf _ _ _ _ hfy
def mF (l:List Zc) (k:Nat) (m:Zc) (_:Unit):Unit⊕Int:=if t7 l k m=0 then .inl () else .inr (t7 l k m)
def nf (l:List Zc):Int:=if 300<l.length then 8 else match run (mF l) l 0 () with | .inl _=>0 | .inr r=>r
theorem t8 {l:List Zc} (h:nf l=0):l.length≤300∧∀ m∈l,MOK m:=by
 unfold nf at h
 split at h
 ·cases h
 refine ⟨by omega,?_⟩
 cases hr:run (mF l) l 0 () with
 | inl a =>
  refine run_inl MOK ?_ l 0 () a hr
  intro k x a a' hx
  unfold mF at hx;split at hx
  ·exact mErr_ok (by assumption)
  ·cases hx
 | inr r =>
  rw [hr] at h
  have:r≠0:=run_inr (fun r=>r≠0) (by
   intro k x a r hx
   unfold mF at hx;split at hx
   ·cases hx
   injection hx with hx;rw [← hx];assumption) l 0 () r hr
  exact absurd h this
theorem sd (l:List Zc) (hp:∀ m∈l,m.Prefix.size≤140737488355328):ff l=some (nf l):=by
 unfold ff nf
 by_cases h:300<l.length
 ·rw [det (by omega),if_pos h];rfl
 rw [cU (by omega),if_neg h,eY]
 have hl:l.length≤4611686018427387904:=by omega
 obtain ⟨e,_⟩:=hZ (T:=Unit⊕Int) hl (body:=fun v2=>cond (decide (v2<(l.length:Int))) (Option.bind (idx l v2) (fun m6=>cond ((((((decide (m6.ID<1))||(decide (1000000<m6.ID)))||(decide (m6.Kind<1)))||(decide (6<m6.Kind)))||(decide (m6.Company<0)))||(decide (999<m6.Company))) (some (.inr (.inr 2))) (Option.bind (gd (decide (0<v2)) (idx l (IntKind.i64.wrap (v2 - 1)))) (fun m9=>cond ((decide (0<v2))&&(decide (m6.ID≤m9.ID))) (some (.inr (.inr 9))) (Option.bind (gN m6) (fun x11=>cond (x11.1 != 0) (some (.inr (.inr x11.1))) (some (.inl (IntKind.i64.wrap (v2+1)))))))))) (some (.inr (.inl ()))))
  (fun i (_:Unit)=>i) (mF l) (fun _=>.inl ()) (fun r=>.inr r) (fun _ _=>True) (by
   intro k hk a _
   refine ⟨?_,fun _ _=>trivial⟩
   rw [wD hk,cZ,bM (cC hk),jJ hk hl]
   have fin:∀ z:Option (Int⊕(Unit⊕Int)),z=some (if t7 l k l[k]=0 then Sum.inl ((k+1:Nat):Int) else Sum.inr (Sum.inr (t7 l k l[k])))→z=some (outc (fun _=>((k+1:Nat):Int)) (fun r=>Sum.inr r) (mF l k l[k] a)):=by
    intro z hz
    rw [hz];unfold mF
    by_cases h:t7 l k l[k]=0
    ·rw [if_pos h,if_pos h];rfl
    rw [if_neg h,if_neg h];rfl
   refine fin _ ?_
   unfold t7
   rw [show (((((((decide (l[k].ID<1))||(decide (1000000<l[k].ID)))||(decide (l[k].Kind<1)))||(decide (6<l[k].Kind)))||(decide (l[k].Company<0)))||(decide (999<l[k].Company))):Bool)=yY l[k] from rfl]
   cases hf:yY l[k]
   case true=>rfl
   rw [eY,if_neg (show ¬ false=true by decide)]
   have hrest:∀ c:Bool,(c=true↔0<k∧l[k].ID≤(l.getD (k - 1) l[k]).ID)→cond c (some (Sum.inr (Sum.inr 9)):Option (Int⊕(Unit⊕Int))) (Option.bind (gN l[k]) (fun x11=>cond (x11.1 != 0) (some (.inr (.inr x11.1))) (some (.inl ((k+1:Nat):Int)))))=some (if (if 0<k∧l[k].ID≤(l.getD (k - 1) l[k]).ID then 9 else sc l[k])=0 then Sum.inl ((k+1:Nat):Int) else Sum.inr (Sum.inr (if 0<k∧l[k].ID≤(l.getD (k - 1) l[k]).ID then 9 else sc l[k]))):=by
    intro c hc
    cases c
    case true=>rw [if_pos (hc.1 rfl)];rfl
    have hn:¬ (0<k∧l[k].ID≤(l.getD (k - 1) l[k]).ID):=fun h=>by have:=hc.2 h;cases this
    rw [if_neg hn,eY,bM (one_ok _ (hp _ (List.getElem_mem hk)) hf)]
    by_cases h3:sc l[k]=0
    ·rw [if_pos h3,h3];rfl
    rw [if_neg h3,show (sc l[k] != 0)=true by simp [h3]];rfl
   by_cases h0:0<k
   ·rw [det (show (0:Int)<(k:Int) by omega),dD,bM (tB h0 hk hl),Bool.true_and]
    refine hrest _ ?_
    rw [rR (by omega)];simp [h0]
   rw [cU (show ¬ (0:Int)<(k:Int) by omega),pG,ft,Bool.false_and]
   exact hrest false (by simp [h0]))
  (by intro a _;rw [nD];rfl) () trivial
 rw [bM e]
 cases run (mF l) l 0 () <;> rfl
theorem vS {α:Type} {l:List α} {b:Int} (h0:0≤b) (h1:b<l.length):idx l b=some (l[b.toNat]'(by omega)):=by
 obtain ⟨k,rfl⟩:∃ k:Nat,b=(k:Int):=⟨b.toNat,by omega⟩
 exact cC (by omega)
def gf (kind:Int) (code origin:ByteArray) (company day:Int) (m:Zc):Bool:=(m.Kind == kind)&&cov m code origin company day
def ua (l:List Zc) (c:Zc→Bool) (k:Nat) (m:Zc) (b:Int):Int:=if c m=true∧(b<0∨qT (l.getD b.toNat m)<qT m) then (k:Int) else b
def yZ (l:List Zc) (c:Zc→Bool) (k:Nat) (m:Zc) (b:Int):Int⊕Unit:=.inl (ua l c k m b)
def ng (l:List Zc) (c:Zc→Bool):Int:=tC id (fun _ => -1) (run (yZ l c) l 0 (-1))
def ofM (l:List Zc) (c:Zc→Bool):Option Zc:=if ng l c<0 then none else l[(ng l c).toNat]?
def BP (l:List Zc) (c:Zc→Bool) (k:Nat) (b:Int):Prop := -1≤b∧b<(k:Int)∧(0≤b→∃ m,l[b.toNat]?=some m∧c m=true)
def zeroM:Zc:=⟨0,0,ByteArray.empty,[],0,0,0,0,(⟨0,0,0,false,0,false,0⟩:Zk)⟩
theorem pick_bp {l:List Zc} {c:Zc→Bool} {k:Nat} (hk:k<l.length) {b:Int} (h:BP l c k b):BP l c (k+1) (ua l c k l[k] b):=by
 obtain ⟨a1,a2,a3⟩:=h
 unfold ua
 split
 ·rename_i h
  exact ⟨by omega,by omega,fun _=>⟨l[k],by simp,h.1⟩⟩
 exact ⟨a1,by omega,a3⟩
theorem y4 (l:List Zc) (c:Zc→Bool):∀ (xs:List Zc) (k:Nat) (b:Int),∃ b',run (yZ l c) xs k b=.inl b':=by
 intro xs
 induction xs with
 | nil=>intro k b;exact ⟨b,rfl⟩
 | cons x xs ih=>intro k b;exact ih (k+1) _
section
variable {l:List Zc} (hl:l.length≤300) (hm:∀ m∈l,MOK m) (kind:Int) (code origin:ByteArray) (company day:Int)
include hl hm
theorem vT:bk (S:=Int×Int) (T:=(Int)) (fun (v5,v6)=>cond (decide (v6<(l.length:Int))) (Option.bind (Option.bind (idx l v6) (fun m13=>Option.bind (gd (m13.Kind == kind) (idx l v6)) (fun m14=>Option.bind (gd (m13.Kind == kind) (ey m14 code origin company day)) (fun x15=>Option.bind (gd (((m13.Kind == kind)&&x15)&&(!(decide (v5<0)))) (idx l v6)) (fun m16=>Option.bind (gd (((m13.Kind == kind)&&x15)&&(!(decide (v5<0)))) (idx l v5)) (fun m17=>Option.bind (gd (((m13.Kind == kind)&&x15)&&(!(decide (v5<0)))) (dW m16)) (fun x18=>Option.bind (gd (((m13.Kind == kind)&&x15)&&(!(decide (v5<0)))) (dW m17)) (fun x19=>cond (((m13.Kind == kind)&&x15)&&((decide (v5<0))||(decide (x19<x18)))) (some v6) (some v5))))))))) (fun v11=>some (.inl (v11,(IntKind.i64.wrap (v6+1)))))) (some (.inr v5))) FUEL ((-1),0)=some (ng l (gf kind code origin company day))∧BP l (gf kind code origin company day) l.length (ng l (gf kind code origin company day)):=by
 have hl':l.length≤4611686018427387904:=by omega
 obtain ⟨e,e2⟩:=hZ (S:=Int×Int) (T:=Int) hl' (body:=fun (v5,v6)=>cond (decide (v6<(l.length:Int))) (Option.bind (Option.bind (idx l v6) (fun m13=>Option.bind (gd (m13.Kind == kind) (idx l v6)) (fun m14=>Option.bind (gd (m13.Kind == kind) (ey m14 code origin company day)) (fun x15=>Option.bind (gd (((m13.Kind == kind)&&x15)&&(!(decide (v5<0)))) (idx l v6)) (fun m16=>Option.bind (gd (((m13.Kind == kind)&&x15)&&(!(decide (v5<0)))) (idx l v5)) (fun m17=>Option.bind (gd (((m13.Kind == kind)&&x15)&&(!(decide (v5<0)))) (dW m16)) (fun x18=>Option.bind (gd (((m13.Kind == kind)&&x15)&&(!(decide (v5<0)))) (dW m17)) (fun x19=>cond (((m13.Kind == kind)&&x15)&&((decide (v5<0))||(decide (x19<x18)))) (some v6) (some v5))))))))) (fun v11=>some (.inl (v11,(IntKind.i64.wrap (v6+1)))))) (some (.inr v5)))
  (fun i b=>(b,i)) (yZ l (gf kind code origin company day)) id (fun _ => -1) (BP l (gf kind code origin company day)) (by
   intro k hk b hb
   refine ⟨?_,fun a' h=>by injection h with h;rw [← h];exact pick_bp hk hb⟩
   have mk:=hm _ (List.getElem_mem hk)
   dsimp only
   rw [wD hk,cZ,bM (cC hk),jJ hk hl']
   show Option.bind _ _=some (Sum.inl (ua l (gf kind code origin company day) k l[k] b,((k+1:Nat):Int)))
   unfold ua gf
   cases hkd:(l[k].Kind == kind)
   ·rfl
   rw [dD,bM (cC hk),dD,u9 _ (by have:=mk.orig;omega)]
   rw [ft]
   cases hc:cov l[k] code origin company day
   ·rfl
   by_cases hb0:b<0
   ·rw [det hb0,if_pos ⟨rfl,.inl hb0⟩];rfl
   obtain ⟨b1,b2,b3⟩:=hb
   have hbl:b<l.length:=by omega
   have mb:=hm _ (List.getElem_mem (show b.toNat<l.length by omega))
   rw [cU hb0]
   simp only [Bool.not_false,Bool.and_self,Bool.true_and,Bool.false_or]
   rw [dD,bM (cC hk),dD,bM (vS (by omega) hbl),dD,bM (vR mk),dD,bM (vR mb),rR (by omega)]
   by_cases hr:qT (l[b.toNat]'(by omega))<qT l[k]
   ·rw [det hr,if_pos ⟨trivial,.inr hr⟩];rfl
   rw [cU hr,if_neg (fun h=>h.2.elim hb0 hr)];rfl)
  (by intro b _;dsimp only;rw [nD];rfl) (-1) ⟨by omega,by omega,fun h=>absurd h (by omega)⟩
 refine ⟨e,?_⟩
 obtain ⟨b',hb'⟩:=y4 l (gf kind code origin company day) l 0 (-1)
 have:=e2 b' hb'
 unfold ng;rw [hb'];exact this
theorem qU:(ofM l (gf kind code origin company day)=none∧ng l (gf kind code origin company day)<0)∨∃ m,ofM l (gf kind code origin company day)=some m∧0≤ng l (gf kind code origin company day)∧idx l (ng l (gf kind code origin company day))=some m∧MOK m∧m.Kind=kind∧m∈l:=by
 obtain ⟨_,b1,b2,b3⟩:=vT hl hm kind code origin company day
 unfold ofM
 by_cases h:ng l (gf kind code origin company day)<0
 ·left;rw [if_pos h];exact ⟨rfl,h⟩
 right
 rw [if_neg h]
 obtain ⟨m,h1,h2⟩:=b3 (by omega)
 have hmem:=List.mem_of_getElem? h1
 refine ⟨m,h1,by omega,?_,hm m hmem,?_,hmem⟩
 ·unfold idx;rw [if_pos (by omega)];exact h1
 unfold gf at h2;simp only [Bool.and_eq_true,beq_iff_eq] at h2;exact h2.1
theorem vb:fG l kind code origin company day=some (match ofM l (gf kind code origin company day) with | none=>(zeroM,false) | some m=>(m,true)):=by
 unfold fG
 rw [bM (vT hl hm kind code origin company day).1]
 rcases qU hl hm kind code origin company day with ⟨h1,h2⟩ | ⟨m,h1,h2,h3,_⟩
 ·rw [h1,det h2];rfl
 rw [h1,cU (by omega),eY,bM h3]
end
abbrev LS:=Bool×Int×Int×Int×Int×Int
def lM (q v:Int) (st:LS) (m:Zc):LS⊕Int :=
 if (mh m.Duty v q).2≠0 then .inr (mh m.Duty v q).2 else if st.1=false∨(mh m.Duty v q).1<st.2.2.2.2.2 then .inl (true,m.Kind,m.ID,q,v,(mh m.Duty v q).1) else .inl st
def jf (q v:Int) (o:Option Zc) (st:LS):LS⊕Int:=match o with | none=>.inl st | some m=>lM q v st m
def nP (st:LS):Za:=⟨st.2.1,st.2.2.1,st.2.2.2.1,st.2.2.2.2.1,st.2.2.2.2.2⟩
section
variable {ms:List Zc} (hl:ms.length≤300) (hm:∀ m∈ms,MOK m) {q v:Int} (hv:0≤v) (hv':v≤1000000000000) (hq:0≤q) (hq':q≤1000000000)
include hl hm hv hv' hq hq'
end
def eQ (x:Zj):Int×Int:=if 0<x.Quantity then je x.Value x.Granted (x.Quantity - x.Granted) else (0,x.Value)
def iy (x:Zj):List Int:=if x.Proof=true then [1,2,3] else [1,2]
def jg (x:Zj):List Zg:=(if 0<x.Granted then [⟨x.Granted,(eQ x).1,iy x++[4]⟩] else [])++(if 0<x.Quantity - x.Granted∨x.Quantity=0 then [⟨x.Quantity - x.Granted,(eQ x).2,iy x⟩] else [])++[⟨x.Quantity,x.Value,[5]⟩,⟨x.Quantity,x.Value,[6]⟩]
structure Zp (x:Zj):Prop where
 q0:0≤x.Quantity
 q1:x.Quantity≤1000000000
 v0:0≤x.Value
 v1:x.Value≤1000000000000
 g0:0≤x.Granted
 g1:x.Granted≤x.Quantity
theorem itOK {x:Zj} (h:bP x=some 0):Zp x:=by
 unfold bP at h
 rw [show cY x.Code=some (eT x.Code) from rfl,jC,ft] at h
 have:∃ b,gd (!(eT x.Code != 8)) (some (qb x.Origin))=some b:=by cases (!(eT x.Code != 8)) <;> exact ⟨_,rfl⟩
 obtain ⟨b,hb⟩:=this
 rw [bM hb] at h
 cases hc:((eT x.Code != 8)||(!b))
 ·rw [hc,eY] at h
  cases hd:(((((((((((decide (x.Company<0))||(decide (999<x.Company)))||(decide (x.Day<0)))||(decide (36524<x.Day)))||(decide (x.Quantity<0)))||(decide (1000000000<x.Quantity)))||(decide (x.Value<0)))||(decide (1000000000000<x.Value)))||(decide (x.Granted<0)))||(decide (x.Quantity<x.Granted))):Bool)
  ·simp at hd
   exact ⟨by omega,by omega,by omega,by omega,by omega,by omega⟩
  rw [hd] at h;cases h
 rw [hc] at h;cases h
theorem se {x:Zj} (h:Zp x):(eQ x).1+(eQ x).2=x.Value∧0≤(eQ x).1∧(eQ x).1≤1000000000000∧0≤(eQ x).2∧(eQ x).2≤1000000000000:=by
 obtain ⟨q0,q1,v0,v1,g0,g1⟩:=h
 unfold eQ
 split
 ·exact wP ⟨v0,v1,g0,by omega,by omega,by omega,by omega⟩
 dsimp only;omega
abbrev y5 (p:LS⊕Int) (f:LS→LS⊕Int):LS⊕Int:=fc p f
def sf:LS:=(false,0,0,0,0,0)
def gD (o:Int→Option Zc) (q v:Int):List Int→LS→LS⊕Int
 | [],st=>.inl st
 | k::ks,st=>y5 (jf q v (o k) st) (gD o q v ks)
def oK (l:List Zc) (x:Zj) (k:Int):Option Zc:=ofM l (gf k x.Code x.Origin x.Company x.Day)
theorem nQ (p:LS⊕Int):fc p (fun s=>.inl s)=p:=by cases p <;> rfl
section
variable {l:List Zc} (hl:l.length≤300) (hm:∀ m∈l,MOK m) (x:Zj)
include hl hm
theorem y6 (k:Int):oK l x k=none∨∃ m,oK l x k=some m∧MOK m∧m.Kind=k∧m∈l:=by
 rcases qU hl hm k x.Code x.Origin x.Company x.Day with ⟨h1,_⟩ | ⟨m,h1,_,_,h2,h3,h4⟩
 ·exact .inl h1
 exact .inr ⟨m,h1,h2,h3,h4⟩
end
def vU (x:Zj):Int:=(bP x).getD 0
def nR (e:Int):Zl×Int:=(⟨[],0⟩,e)
def dm (o:Int→Option Zc) (_:Nat) (p:Zg) (st:List Za×Int):(List Za×Int)⊕Int:=match gD o p.quantity p.value p.kinds sf with | .inr e=>.inr e | .inl s=>.inl (if s.1=true then (st.1++[nP s],st.2+s.2.2.2.2.2) else st)
def ub (st:List Za×Int):Zl×Int:=if 1000000000000<st.2 then nR 3 else (⟨st.1,st.2⟩,0)
def ju (l:List Zc) (x:Zj):Zl×Int:=if nf l≠0 then nR (nf l) else if vU x≠0 then nR (vU x) else if oK l x 1=none then nR 7 else tC ub nR (run (dm (oK l x)) (jg x) 0 ([],0))
def AmtOK (st:LS):Prop:=0≤st.2.2.2.2.2∧st.2.2.2.2.2≤1000000000000
structure PartOK (p:Zg):Prop where
 v0:0≤p.value
 v1:p.value≤1000000000000
 q0:0≤p.quantity
 q1:p.quantity≤1000000000
 kl:p.kinds.length≤10
 kr:∀ k∈p.kinds,1≤k∧k≤6
theorem wR (x:Zj):(iy x).length≤3∧∀ k∈iy x,1≤k∧k≤6:=by
 unfold iy;split <;> refine ⟨by simp,?_⟩ <;> intro k hk <;> simp at hk <;> omega
theorem wS {x:Zj} (h:Zp x):(jg x).length≤4∧∀ p∈jg x,PartOK p:=by
 obtain ⟨s,a0,a1,b0,b1⟩:=se h
 obtain ⟨k1,k2⟩:=wR x
 obtain ⟨q0,q1,v0,v1,g0,g1⟩:=h
 unfold jg
 constructor
 ·simp only [List.length_append,List.length_cons,List.length_nil]
  split <;> split <;> simp
 intro p hp
 simp only [List.mem_append,List.mem_cons,List.not_mem_nil,or_false] at hp
 rcases hp with (hp | hp) | hp | hp
 ·split at hp
  ·simp only [List.mem_cons,List.not_mem_nil,or_false] at hp;subst hp
   refine ⟨a0,a1,by dsimp only;omega,by dsimp only;omega,by simp;omega,?_⟩
   intro k hk
   simp only [List.mem_append,List.mem_cons,List.not_mem_nil,or_false] at hk
   rcases hk with hk | rfl
   ·exact k2 k hk
   omega
  cases hp
 ·split at hp
  ·simp only [List.mem_cons,List.not_mem_nil,or_false] at hp;subst hp
   exact ⟨b0,b1,by dsimp only;omega,by dsimp only;omega,by dsimp only;omega,k2⟩
  cases hp
 ·subst hp;exact ⟨v0,v1,q0,q1,by simp,by intro k hk;simp at hk;omega⟩
 subst hp;exact ⟨v0,v1,q0,q1,by simp,by intro k hk;simp at hk;omega⟩
theorem oI {m:Zc} (h:MOK m) {q v:Int} (hv:0≤v) (hv':v≤1000000000000) (hq:0≤q) (hq':q≤1000000000):((mh m.Duty v q).2=0∧0≤(mh m.Duty v q).1∧(mh m.Duty v q).1≤1000000000000)∨((mh m.Duty v q).2=3∧(mh m.Duty v q).1=0):=by
 obtain ⟨e,e1,e2,_⟩:=nc m.Duty
 rw [h.duty] at e1
 have hd:=e2 (Option.some.inj e1).symm
 exact evN_ok m.Duty v q (tW hd hv hv' hq hq').1.1 (perU hd).1
theorem wT {o:Option Zc} (ho:∀ m,o=some m→MOK m) {q v:Int} (hv:0≤v) (hv':v≤1000000000000) (hq:0≤q) (hq':q≤1000000000) {st:LS} (h:AmtOK st):(∃ s,jf q v o st=.inl s∧AmtOK s∧(st.1=true→s.1=true)∧(o≠none→s.1=true))∨jf q v o st=.inr 3:=by
 cases o with
 | none=>left;exact ⟨st,rfl,h,id,fun h=>absurd rfl h⟩
 | some m =>
  have:=oI (ho m rfl) hv hv' hq hq'
  show (∃ s,lM q v st m=.inl s∧_)∨lM q v st m=.inr 3
  unfold lM
  rcases this with ⟨a,b,c⟩ | ⟨a,b⟩
  ·left
   rw [if_neg (by simp [a])]
   by_cases hc:st.1=false∨(mh m.Duty v q).1<st.2.2.2.2.2
   ·rw [if_pos hc];exact ⟨_,rfl,⟨b,c⟩,fun _=>rfl,fun _=>rfl⟩
   rw [if_neg hc];exact ⟨_,rfl,h,id,fun _=>by cases hs:st.1;exact absurd (.inl hs) hc;rfl⟩
  right;rw [if_pos (by simp [a]),a]
theorem wU {o:Int→Option Zc} (ho:∀ k m,o k=some m→MOK m) {q v:Int} (hv:0≤v) (hv':v≤1000000000000) (hq:0≤q) (hq':q≤1000000000):∀ (ks:List Int) (st:LS),AmtOK st→(∃ s,gD o q v ks st=.inl s∧AmtOK s∧(st.1=true→s.1=true))∨gD o q v ks st=.inr 3:=by
 intro ks
 induction ks with
 | nil=>intro st h;left;exact ⟨st,rfl,h,id⟩
 | cons k ks ih =>
  intro st h
  show (∃ s,y5 (jf q v (o k) st) (gD o q v ks)=.inl s∧_)∨y5 (jf q v (o k) st) (gD o q v ks)=.inr 3
  rcases wT (ho k) hv hv' hq hq' h with ⟨s,h1,h2,h3,_⟩ | h1
  ·rw [h1]
   rcases ih s h2 with ⟨s',g1,g2,g3⟩ | g1
   ·left;exact ⟨s',g1,g2,fun h=>g3 (h3 h)⟩
   right;exact g1
  rw [h1];right;rfl
theorem mi {o:Int→Option Zc} {q v k:Int}:∀ (ks:List Int) (st:LS),gD o q v (ks++[k]) st=fc (gD o q v ks st) (jf q v (o k)):=by
 intro ks
 induction ks with
 | nil=>intro st;show fc (jf q v (o k) st) (fun s=>.inl s)=jf q v (o k) st;exact nQ _
 | cons j ks ih =>
  intro st
  show fc (jf q v (o j) st) (gD o q v (ks++[k]))=fc (fc (jf q v (o j) st) (gD o q v ks)) _
  cases jf q v (o j) st with
  | inl s=>exact ih s
  | inr e=>rfl
def dT (skip:Bool) (o:Option Zc) (k q v:Int) (r:LS):LS:=match o with
 | none=>r
 | some m=>if skip=true then r else if k=1∨(mh m.Duty v q).1<r.2.2.2.2.2 then (r.1||((mh m.Duty v q).2 != 0),k,m.ID,q,v,(mh m.Duty v q).1) else (r.1||((mh m.Duty v q).2 != 0),r.2)
def LRel (p:LS⊕Int) (ov:Bool) (r:LS):Prop:=(∃ s:LS,p=.inl s∧s.1=true∧r=(ov,s.2)∧AmtOK s)∨(p=.inr 3∧r.1=true)
section
variable {o:Int→Option Zc} (ho:∀ k m,o k=some m→MOK m∧m.Kind=k) {q v:Int} (hv:0≤v) (hv':v≤1000000000000) (hq:0≤q) (hq':q≤1000000000)
include ho hv hv' hq hq'
theorem wV {m:Zc} (h:o 1=some m) (ov:Bool):LRel (jf q v (o 1) sf) ov (dT false (o 1) 1 q v (ov,0,0,0,0,0)):=by
 obtain ⟨mk,kd⟩:=ho 1 m h
 rw [h]
 show LRel (lM q v sf m) ov _
 unfold lM dT
 dsimp only
 rw [if_neg (show ¬ false=true by decide),if_pos (Or.inl rfl)]
 rcases oI mk hv hv' hq hq' with ⟨a,b,c⟩ | ⟨a,b⟩
 ·rw [if_neg (by simp [a]),if_pos (Or.inl (show sf.1=false from rfl)),a,kd]
  left;exact ⟨_,rfl,rfl,by simp,⟨b,c⟩⟩
 rw [if_pos (by simp [a]),a];right;exact ⟨rfl,by simp⟩
theorem qd {p:LS⊕Int} {ov:Bool} {r:LS} (h:LRel p ov r) {k:Int} (hk:k≠1):LRel (fc p (jf q v (o k))) ov (dT false (o k) k q v r):=by
 cases hok:o k with
 | none =>
  rcases h with ⟨s,h1,h2,h3,h4⟩ | ⟨h1,h2⟩
  ·subst h1;left;exact ⟨s,rfl,h2,h3,h4⟩
  ·subst h1;right;exact ⟨rfl,h2⟩
 | some m =>
  obtain ⟨mk,kd⟩:=ho k m hok
  show LRel _ ov (if false=true then r else if k=1∨(mh m.Duty v q).1<r.2.2.2.2.2 then _ else _)
  rw [if_neg (show ¬ false=true by decide)]
  rcases h with ⟨s,h1,h2,h3,h4⟩ | ⟨h1,h2⟩
  ·subst h1;subst h3
   show LRel (lM q v s m) ov _
   unfold lM
   rcases oI mk hv hv' hq hq' with ⟨a,b,c⟩ | ⟨a,b⟩
   ·rw [if_neg (by simp [a])]
    by_cases hlt:(mh m.Duty v q).1<s.2.2.2.2.2
    ·rw [if_pos (Or.inr hlt),if_pos (Or.inr hlt),a,kd]
     left;exact ⟨_,rfl,rfl,by simp,⟨b,c⟩⟩
    rw [if_neg (by rw [h2];simp [hlt]),if_neg (by simp [hk,hlt]),a]
    left;exact ⟨_,rfl,h2,by simp,h4⟩
   rw [if_pos (by simp [a]),a];right
   refine ⟨rfl,?_⟩
   split <;> simp
  subst h1;right
  refine ⟨rfl,?_⟩
  split <;> simp [h2]
omit ho hv hv' hq hq' in
theorem uc {p:LS⊕Int} {ov:Bool} {r:LS} (h:LRel p ov r) {k:Int}:LRel p ov (dT true (o k) k q v r):=by
 cases o k with
 | none=>exact h
 | some m=>exact h
def nS (o:Int→Option Zc) (q v:Int) (no3 no4:Bool) (ov:Bool):LS:=dT no4 (o 4) 4 q v (dT no3 (o 3) 3 q v (dT false (o 2) 2 q v (dT false (o 1) 1 q v (ov,0,0,0,0,0))))
theorem qe {m:Zc} (h:o 1=some m) (x:Zj) (no4:Bool) (ov:Bool):LRel (gD o q v (iy x++if no4=true then [] else [4]) sf) ov (nS o q v (!x.Proof) no4 ov):=by
 have r1:LRel (gD o q v [1] sf) ov (dT false (o 1) 1 q v (ov,0,0,0,0,0)):=by
  show LRel (fc (jf q v (o 1) sf) (fun s=>.inl s)) _ _
  rw [nQ]
  exact wV ho hv hv' hq hq' h ov
 have r2:LRel (gD o q v [1,2] sf) ov (dT false (o 2) 2 q v (dT false (o 1) 1 q v (ov,0,0,0,0,0))):=by
  rw [show ([1,2]:List Int)=[1]++[2] from rfl,mi]
  exact qd ho hv hv' hq hq' r1 (by omega)
 have r3:LRel (gD o q v (iy x) sf) ov (dT (!x.Proof) (o 3) 3 q v (dT false (o 2) 2 q v (dT false (o 1) 1 q v (ov,0,0,0,0,0)))):=by
  unfold iy
  cases x.Proof
  ·rw [if_neg (by simp)];exact uc r2
  rw [if_pos rfl,show ([1,2,3]:List Int)=[1,2]++[3] from rfl,mi]
  exact qd ho hv hv' hq hq' r2 (by omega)
 unfold nS
 cases no4
 ·rw [if_neg (by simp),mi];exact qd ho hv hv' hq hq' r3 (by omega)
 rw [if_pos rfl,List.append_nil];exact uc r3
end
section
variable {l:List Zc} (hl:l.length≤300) (hm:∀ m∈l,MOK m) (x:Zj)
include hl hm
theorem vV:∀ k m,oK l x k=some m→MOK m∧m.Kind=k:=by
 intro k m h
 rcases y6 hl hm x k with h' | ⟨m',h',h2,h3,_⟩
 ·rw [h'] at h;cases h
 rw [h'] at h;injection h with h;exact h ▸ ⟨h2,h3⟩
theorem qV {gr vs:List Int} {i q v:Int} (hq2:idx gr i=some q) (hv2:idx vs i=some v) (hv:0≤v) (hv':v≤1000000000000) (hq:0≤q) (hq':q≤1000000000) (ov:Bool) {β:Type} (c:LS→Option β) :
    Option.bind (bk (S:=Bool×Int×Int×Int×Int×Int×Int) (T:=(Bool×Int×Int×Int×Int×Int)) (fun (v43,v44,v45,v46,v47,v48,v49)=>cond (decide (v44≤4)) (Option.bind (Option.bind (fG l v44 x.Code x.Origin x.Company x.Day) (fun x68=>cond (((!x68.2)||((v44 == 3)&&(!x.Proof)))||((v44 == 4)&&(i == 1))) (some (v43,v45,v46,v47,v48,v49)) (Option.bind (idx vs i) (fun m71=>Option.bind (idx gr i) (fun m72=>Option.bind (cM x68.1.Duty m71 m72) (fun x73=>cond ((v44 == 1)||(decide (x73.1<v49))) (Option.bind (idx gr i) (fun m75=>Option.bind (idx vs i) (fun m76=>some ((v43||(x73.2 != 0)),v44,x68.1.ID,m75,m76,x73.1)))) (some ((v43||(x73.2 != 0)),v45,v46,v47,v48,v49)))))))) (fun (v60,v62,v63,v64,v65,v66)=>some (.inl (v60,(IntKind.i64.wrap (v44+1)),v62,v63,v64,v65,v66)))) (some (.inr (v43,v45,v46,v47,v48,v49)))) FUEL (ov,1,0,0,0,0,0)) c=c (nS (oK l x) q v (!x.Proof) (i == 1) ov):=by
  have one:∀ (k:Int) (hk:k≤4) (hk0:1≤k) (r:LS),(fun (v43,v44,v45,v46,v47,v48,v49)=>cond (decide (v44≤4)) (Option.bind (Option.bind (fG l v44 x.Code x.Origin x.Company x.Day) (fun x68=>cond (((!x68.2)||((v44 == 3)&&(!x.Proof)))||((v44 == 4)&&(i == 1))) (some (v43,v45,v46,v47,v48,v49)) (Option.bind (idx vs i) (fun m71=>Option.bind (idx gr i) (fun m72=>Option.bind (cM x68.1.Duty m71 m72) (fun x73=>cond ((v44 == 1)||(decide (x73.1<v49))) (Option.bind (idx gr i) (fun m75=>Option.bind (idx vs i) (fun m76=>some ((v43||(x73.2 != 0)),v44,x68.1.ID,m75,m76,x73.1)))) (some ((v43||(x73.2 != 0)),v45,v46,v47,v48,v49)))))))) (fun (v60,v62,v63,v64,v65,v66)=>some (.inl (v60,(IntKind.i64.wrap (v44+1)),v62,v63,v64,v65,v66)))) (some (.inr (v43,v45,v46,v47,v48,v49))):Bool×Int×Int×Int×Int×Int×Int→Option ((Bool×Int×Int×Int×Int×Int×Int)⊕(Bool×Int×Int×Int×Int×Int))) (r.1,k,r.2)=some (.inl ((dT (((k == 3)&&(!x.Proof))||((k == 4)&&(i == 1))) (oK l x k) k q v r).1,k+1,(dT (((k == 3)&&(!x.Proof))||((k == 4)&&(i == 1))) (oK l x k) k q v r).2)):=by
    intro k hk hk0 r
    obtain ⟨r1,r2,r3,r4,r5,r6⟩:=r
    dsimp only
    rw [det hk,cZ,bM (vb hl hm k x.Code x.Origin x.Company x.Day),show ofM l (gf k x.Code x.Origin x.Company x.Day)=oK l x k from rfl,cy (by omega) (by omega)]
    cases hok:oK l x k with
    | none=>rfl
    | some m =>
      obtain ⟨mk,_⟩:=vV hl hm x k m hok
      obtain ⟨e0,e1,e2,_⟩:=nc m.Duty
      rw [mk.duty] at e1
      have hd:=e2 (Option.some.inj e1).symm
      dsimp only
      rw [Bool.not_true,Bool.false_or]
      unfold dT
      dsimp only
      cases (((k == 3)&&(!x.Proof))||((k == 4)&&(i == 1)))
      · rw [eY,bM hv2,bM hq2,bM (tX hd hv hv' hq hq' mk.duty),bM hq2,bM hv2,if_neg (show ¬ false=true by decide)]
        by_cases hc:k=1∨(mh m.Duty v q).1<r6
        · rw [if_pos hc,show ((k == 1)||decide ((mh m.Duty v q).1<r6))=true by simpa using hc];rfl
        rw [if_neg hc,show ((k == 1)||decide ((mh m.Duty v q).1<r6))=false by rw [Bool.eq_false_iff];intro h;apply hc;simpa using h];rfl
      rfl
  unfold nS
  refine (cW (N:=1267650600228229401496703205375) _ (one 1 (by omega) (by omega) (ov,0,0,0,0,0))).trans ?_
  refine (cW (N:=1267650600228229401496703205374) _ (one 2 (by omega) (by omega) _)).trans ?_
  refine (cW (N:=1267650600228229401496703205373) _ (one 3 (by omega) (by omega) _)).trans ?_
  refine (cW (N:=1267650600228229401496703205372) _ (one 4 (by omega) (by omega) _)).trans ?_
  refine (fm (N:=1267650600228229401496703205371) _ rfl).trans ?_
  have b1:((((1:Int) == 3)&&(!x.Proof))||(((1:Int) == 4)&&(i == 1)))=false:=rfl
  have b2:((((2:Int) == 3)&&(!x.Proof))||(((2:Int) == 4)&&(i == 1)))=false:=rfl
  have b3:((((3:Int) == 3)&&(!x.Proof))||(((3:Int) == 4)&&(i == 1))) = !x.Proof:=by cases x.Proof <;> rfl
  have b4:((((4:Int) == 3)&&(!x.Proof))||(((4:Int) == 4)&&(i == 1)))=(i == 1):=by cases (i == 1) <;> rfl
  rw [b1,b2,b3,b4]
end
theorem oJ {α A R:Type} {f:Nat→α→A→A⊕R} (hf:∀ j i y a,f j y a=f i y a):∀ (a b:List α) (j:Nat) (st:A),run f (a++b) j st=fc (run f a j st) (run f b 0):=by
 have shift:∀ (b:List α) (j i:Nat) (st:A),run f b j st=run f b i st:=by
  intro b
  induction b with
  | nil=>intro j i st;rfl
  | cons y ys ih =>
   intro j i st
   rw [dS,dS,hf j i y st]
   cases f i y st with
   | inl a'=>exact ih _ _ _
   | inr r=>rfl
 intro a
 induction a with
 | nil=>intro b j st;exact shift b j 0 st
 | cons y ys ih =>
  intro b j st
  rw [List.cons_append,dS,dS]
  cases f j y st with
  | inl a'=>exact ih b _ _
  | inr r=>rfl
theorem ud {A R:Type} (p:A⊕R):fc p (fun s=>.inl s)=p:=by cases p <;> rfl
theorem nh {α A R:Type} {f:Nat→α→A→A⊕R} (y:α):run f [y] 0=f 0 y:=by
 funext st;rw [dS];exact ud _
def sumF (_:Nat) (y:Za) (t:Int):Int⊕Unit:=.inl (IntKind.i64.wrap (t+y.Amount))
def y7 (ls:List Za):Int:=tC id (fun _=>0) (run sumF ls 0 0)
theorem wW (ls:List Za) (y:Za):y7 (ls++[y])=IntKind.i64.wrap (y7 ls+y.Amount):=by
 unfold y7
 rw [oJ (fun _ _ _ _=>rfl),nh]
 cases h:run sumF ls 0 0 with
 | inl t=>rfl
 | inr u =>
  exact absurd h (by
   have:∀ (ls:List Za) (k:Nat) (t:Int),∃ t',run sumF ls k t=.inl t':=by
    intro ls
    induction ls with
    | nil=>intro k t;exact ⟨t,rfl⟩
    | cons z zs ih=>intro k t;exact ih _ _
   obtain ⟨t',h'⟩:=this ls 0 0
   rw [h'];intro h;cases h)
def RelO (n:Nat) (p:(List Za×Int)⊕Int) (r:Bool×List Za):Prop:=r.2.length≤n∧((∃ st,p=.inl st∧r=(false,st.1)∧y7 st.1=st.2∧0≤st.2∧st.2≤(n:Int)*1000000000000)∨(p=.inr 3∧r.1=true))
theorem RelO.up {n m:Nat} (h:n≤m) {p:(List Za×Int)⊕Int} {r:Bool×List Za} (hr:RelO n p r):RelO m p r:=by
 obtain ⟨a,b⟩:=hr
 refine ⟨by omega,?_⟩
 rcases b with ⟨st,h1,h2,h3,h4,h5⟩ | b
 ·left;exact ⟨st,h1,h2,h3,h4,by omega⟩
 right;exact b
theorem si {n:Nat} (hn:n≤10) {p:(List Za×Int)⊕Int} {r:Bool×List Za} (h:RelO n p r) {o:Int→Option Zc} {j:Nat} {q v:Int} {ks:List Int} {rr:LS} (hc:LRel (gD o q v ks sf) r.1 rr):RelO (n+1) (fc p (dm o j ⟨q,v,ks⟩)) (rr.1,r.2++[nP rr]):=by
 obtain ⟨a,b⟩:=h
 refine ⟨by simp;omega,?_⟩
 rcases b with ⟨st,h1,h2,h3,h4,h5⟩ | ⟨h1,h2⟩
 ·subst h1;subst h2
  rcases hc with ⟨s,g1,g2,g3,g4⟩ | ⟨g1,g2⟩
  ·left
   subst g3
   refine ⟨(st.1++[nP s],st.2+s.2.2.2.2.2),?_,rfl,?_,?_,?_⟩
   ·show dm o j ⟨q,v,ks⟩ st=_
    unfold dm
    dsimp only
    rw [g1];dsimp only;rw [if_pos g2]
   ·rw [wW,h3]
    exact cy (by show -9223372036854775808≤st.2+s.2.2.2.2.2;have:=g4.1;omega) (by show st.2+s.2.2.2.2.2≤9223372036854775807;have:=g4.2;omega)
   ·have:=g4.1;dsimp only;omega
   have:=g4.2;dsimp only;omega
  right
  refine ⟨?_,g2⟩
  show dm o j ⟨q,v,ks⟩ st=_
  unfold dm
  dsimp only
  rw [g1]
 right
 subst h1
 refine ⟨rfl,?_⟩
 rcases hc with ⟨s,g1,g2,g3,g4⟩ | ⟨g1,g2⟩
 ·rw [g3];exact h2
 exact g2
def dJ (o:Int→Option Zc) (k q v:Int) (r:Bool×List Za):Bool×List Za:=match o k with
 | none=>r
 | some m=>(r.1||((mh m.Duty v q).2 != 0),r.2++[⟨k,m.ID,q,v,(mh m.Duty v q).1⟩])
theorem ue {n:Nat} (hn:n≤10) {p:(List Za×Int)⊕Int} {r:Bool×List Za} (h:RelO n p r) {o:Int→Option Zc} (ho:∀ k m,o k=some m→MOK m∧m.Kind=k) {j:Nat} {q v k:Int} (hv:0≤v) (hv':v≤1000000000000) (hq:0≤q) (hq':q≤1000000000):RelO (n+1) (fc p (dm o j ⟨q,v,[k]⟩)) (dJ o k q v r):=by
 have hch:gD o q v [k] sf=jf q v (o k) sf:=nQ _
 unfold dJ
 cases hok:o k with
 | none =>
  dsimp only
  have e:∀ st,dm o j ⟨q,v,[k]⟩ st=.inl st:=by
   intro st;unfold dm;dsimp only;rw [hch,hok];rfl
  have:fc p (dm o j ⟨q,v,[k]⟩)=p:=by
   cases p with
   | inl st=>exact e st
   | inr e=>rfl
  rw [this];exact h.up (by omega)
 | some m =>
  obtain ⟨mk,kd⟩:=ho k m hok
  dsimp only
  have hr:LRel (gD o q v [k] sf) r.1 (r.1||((mh m.Duty v q).2 != 0),k,m.ID,q,v,(mh m.Duty v q).1):=by
   rw [hch,hok]
   show LRel (lM q v sf m) _ _
   unfold lM
   rcases oI mk hv hv' hq hq' with ⟨a,b,c⟩ | ⟨a,b⟩
   ·rw [if_neg (by simp [a]),if_pos (Or.inl (show sf.1=false from rfl)),a,kd]
    left;exact ⟨_,rfl,rfl,by simp,⟨b,c⟩⟩
   rw [if_pos (by simp [a]),a];right;exact ⟨rfl,by simp⟩
  exact si hn h hr
def cS (o:Int→Option Zc) (x:Zj) (q v:Int) (skip no4:Bool) (r:Bool×List Za):Bool×List Za:=if skip=true then r else ((nS o q v (!x.Proof) no4 r.1).1,r.2++[nP (nS o q v (!x.Proof) no4 r.1)])
section
variable {l:List Zc} (hl:l.length≤300) (hm:∀ m∈l,MOK m) {x:Zj} (hx:Zp x) {m1:Zc} (h1:oK l x 1=some m1)
include hl hm hx h1
def qf (l:List Zc) (x:Zj):Bool×List Za:=dJ (oK l x) 6 x.Quantity x.Value (dJ (oK l x) 5 x.Quantity x.Value (cS (oK l x) x (x.Quantity - x.Granted) (eQ x).2 (((x.Quantity - x.Granted) == 0)&&(decide (0<x.Quantity))) true (cS (oK l x) x x.Granted (eQ x).1 (x.Granted == 0) false (false,[]))))
theorem rel_all:RelO 4 (run (dm (oK l x)) (jg x) 0 ([],0)) (qf l x):=by
 have ho:=vV hl hm x
 obtain ⟨s,a0,a1,b0,b1⟩:=se hx
 obtain ⟨q0,q1,v0,v1,g0,g1⟩:=hx
 unfold jg qf
 rw [oJ (fun _ _ _ _=>rfl),oJ (fun _ _ _ _=>rfl)]
 have start:RelO 0 (.inl ([],0)) (false,[]):=⟨by simp,.inl ⟨_,rfl,rfl,rfl,by simp,by simp⟩⟩
 have p1:RelO 1 (run (dm (oK l x)) (if 0<x.Granted then [⟨x.Granted,(eQ x).1,iy x++[4]⟩] else []) 0 ([],0)) (cS (oK l x) x x.Granted (eQ x).1 (x.Granted == 0) false (false,[])):=by
  unfold cS
  by_cases hg:0<x.Granted
  ·rw [if_pos hg,if_neg (by simp;omega),nh]
   exact si (p:=.inl ([],0)) (j:=0) (by omega) start (qe ho a0 a1 g0 (by omega) h1 x false false)
  rw [if_neg hg,if_pos (by simp;omega)];exact start.up (by omega)
 have p2:RelO 2 (fc (run (dm (oK l x)) (if 0<x.Granted then [⟨x.Granted,(eQ x).1,iy x++[4]⟩] else []) 0 ([],0)) (run (dm (oK l x)) (if 0<x.Quantity - x.Granted∨x.Quantity=0 then [⟨x.Quantity - x.Granted,(eQ x).2,iy x⟩] else []) 0)) (cS (oK l x) x (x.Quantity - x.Granted) (eQ x).2 (((x.Quantity - x.Granted) == 0)&&(decide (0<x.Quantity))) true (cS (oK l x) x x.Granted (eQ x).1 (x.Granted == 0) false (false,[]))):=by
  generalize cS (oK l x) x x.Granted (eQ x).1 (x.Granted == 0) false (false,[])=r1 at *
  generalize run (dm (oK l x)) (if 0<x.Granted then [⟨x.Granted,(eQ x).1,iy x++[4]⟩] else []) 0 ([],0)=pp at *
  unfold cS
  by_cases hg:0<x.Quantity - x.Granted∨x.Quantity=0
  ·rw [if_pos hg,show (((x.Quantity - x.Granted) == 0)&&(decide (0<x.Quantity)))=false by rw [Bool.and_eq_false_iff];simp only [beq_eq_false_iff_ne,decide_eq_false_iff_not];omega,if_neg (show ¬ false=true by decide),nh]
   have:=qe ho b0 b1 (show 0≤x.Quantity - x.Granted by omega) (by omega) h1 x true r1.1
   rw [if_pos rfl,List.append_nil] at this
   exact si (j:=0) (by omega) p1 this
  rw [if_neg hg,show (((x.Quantity - x.Granted) == 0)&&(decide (0<x.Quantity)))=true by rw [Bool.and_eq_true];simp only [beq_iff_eq,decide_eq_true_eq];omega,if_pos rfl]
  have:(run (dm (oK l x)) [] 0)=fun st=>.inl st:=rfl
  rw [this,ud];exact p1.up (by omega)
 have e56:∀ st,run (dm (oK l x)) [⟨x.Quantity,x.Value,[5]⟩,⟨x.Quantity,x.Value,[6]⟩] 0 st=fc (dm (oK l x) 0 ⟨x.Quantity,x.Value,[5]⟩ st) (dm (oK l x) 0 ⟨x.Quantity,x.Value,[6]⟩):=by
  intro st
  rw [show ([⟨x.Quantity,x.Value,[5]⟩,⟨x.Quantity,x.Value,[6]⟩]:List Zg)=[⟨x.Quantity,x.Value,[5]⟩]++[⟨x.Quantity,x.Value,[6]⟩] from rfl,oJ (fun _ _ _ _=>rfl),nh,nh]
 have p3:=ue (by omega) p2 ho (j:=0) (k:=5) v0 v1 q0 q1
 have p4:=ue (by omega) p3 ho (j:=0) (k:=6) v0 v1 q0 q1
 rw [show run (dm (oK l x)) [⟨x.Quantity,x.Value,[5]⟩,⟨x.Quantity,x.Value,[6]⟩] 0=fun st=>fc (dm (oK l x) 0 ⟨x.Quantity,x.Value,[5]⟩ st) (dm (oK l x) 0 ⟨x.Quantity,x.Value,[6]⟩) from funext e56]
 have assoc:∀ p:(List Za×Int)⊕Int,fc (fc p (dm (oK l x) 0 ⟨x.Quantity,x.Value,[5]⟩)) (dm (oK l x) 0 ⟨x.Quantity,x.Value,[6]⟩)=fc p (fun st=>fc (dm (oK l x) 0 ⟨x.Quantity,x.Value,[5]⟩ st) (dm (oK l x) 0 ⟨x.Quantity,x.Value,[6]⟩)):=by
  intro p;cases p <;> rfl
 rw [assoc] at p4
 exact p4
end
theorem oe (o:Int→Option Zc) (x:Zj) (q v:Int) (skip no4:Bool) (r:Bool×List Za):(cS o x q v skip no4 r).2.length≤r.2.length+1:=by
 unfold cS;split <;> simp
theorem uf (o:Int→Option Zc) (k q v:Int) (r:Bool×List Za):(dJ o k q v r).2.length≤r.2.length+1:=by
 unfold dJ;split <;> simp
theorem y9 (ls:List Za) (hl:ls.length≤100) {β:Type} (c:Int→Option β):Option.bind (bk (S:=Int×Int) (T:=(Int)) (fun (v113,v114)=>cond (decide (v113<((ls.length:Nat):Int))) (Option.bind (idx ls v113) (fun m120=>some (.inl ((IntKind.i64.wrap (v113+1)),(IntKind.i64.wrap (v114+m120.Amount)))))) (some (.inr v114))) FUEL (0,0)) c=c (y7 ls):=by
 have hl':ls.length≤4611686018427387904:=by omega
 obtain ⟨e,_⟩:=hZ (S:=Int×Int) (T:=Int) hl' (body:=fun (v113,v114)=>cond (decide (v113<((ls.length:Nat):Int))) (Option.bind (idx ls v113) (fun m120=>some (.inl ((IntKind.i64.wrap (v113+1)),(IntKind.i64.wrap (v114+m120.Amount)))))) (some (.inr v114)))
  (fun i t=>(i,t)) sumF id (fun _=>0) (fun _ _=>True) (by
   intro k hk t _
   refine ⟨?_,fun _ _=>trivial⟩
   dsimp only
   rw [wD hk,cZ,bM (cC hk),jJ hk hl'];rfl)
  (by intro t _;dsimp only;rw [nD];rfl) 0 trivial
 exact bM e
theorem qg (l:List Zc) (x:Zj) (hp:∀ m∈l,m.Prefix.size≤140737488355328) (hc:x.Code.size≤140737488355328):fz l x=some (ju l x):=by
 obtain ⟨e,he,he2⟩:=yV x hc
 unfold fz ju
 have hie:vU x=e:=by unfold vU;rw [he];rfl
 rw [bM (sd l hp),he2,hie]
 rcases Decidable.em (¬ nf l=0) with h1 | h1
 ·rw [if_pos h1,show (nf l != 0)=true by simp [h1]];rfl
 have h1:=Decidable.not_not.1 h1
 obtain ⟨hl,hm⟩:=t8 h1
 rw [if_neg (by simp [h1]),show (nf l != 0)=false by simp [h1],eY,ft]
 rcases Decidable.em (¬ e=0) with h2 | h2
 ·rw [if_pos h2,show (e != 0)=true by simp [h2]];rfl
 have h2:=Decidable.not_not.1 h2
 subst h2
 have hit:=itOK he
 obtain ⟨s,a0,a1,b0,b1⟩:=se hit
 have hit':=hit
 obtain ⟨q0,q1,v0,v1,g0,g1⟩:=hit'
 rw [if_neg (by simp),bne_self_eq_false,eY,cy (r:=x.Quantity - x.Granted) (by omega) (by omega)]
 have e1:(cond (decide (0<x.Quantity)) (Option.bind (fZ x.Value [x.Granted,x.Quantity - x.Granted]) (fun x14=>some x14.1)) (some [0,x.Value]))=some [(eQ x).1,(eQ x).2]:=by
  unfold eQ
  by_cases hq:0<x.Quantity
  ·rw [det hq,if_pos hq,cZ,bM (wQ ⟨v0,v1,g0,by omega,by omega,by omega,by omega⟩)]
  rw [cU hq,if_neg hq];rfl
 rw [bM e1,bM (vb hl hm 1 x.Code x.Origin x.Company x.Day),show ofM l (gf 1 x.Code x.Origin x.Company x.Day)=oK l x 1 from rfl]
 cases hok:oK l x 1 with
 | none=>rw [if_pos rfl];rfl
 | some m1 =>
 rw [if_neg (by simp)]
 dsimp only
 rw [Bool.not_true,eY]
 have all:=rel_all hl hm hit hok
 have ho:=vV hl hm x
 have hr1:(cS (oK l x) x x.Granted (eQ x).1 (x.Granted == 0) false (false,[])).2.length≤1:=oe _ _ _ _ _ _ _
 have hr2:(cS (oK l x) x (x.Quantity - x.Granted) (eQ x).2 (((x.Quantity - x.Granted) == 0)&&(decide (0<x.Quantity))) true (cS (oK l x) x x.Granted (eQ x).1 (x.Granted == 0) false (false,[]))).2.length≤2:=Nat.le_trans (oe _ _ _ _ _ _ _) (by omega)
 refine (cW (N:=1267650600228229401496703205375) ((cS (oK l x) x x.Granted (eQ x).1 (x.Granted == 0) false (false,[])).1,1,(cS (oK l x) x x.Granted (eQ x).1 (x.Granted == 0) false (false,[])).2) ?_).trans ?_
 ·dsimp only
  rw [show decide ((0:Int)<2)=true from rfl,cZ,bM ix0,show (((0:Int) == 0)||(decide (0<x.Quantity)))=true from rfl,Bool.and_true]
  unfold cS
  cases (x.Granted == 0)
  ·rw [eY,qV hl hm x (gr:=[x.Granted,x.Quantity - x.Granted]) (vs:=[(eQ x).1,(eQ x).2]) (i:=0) ix0 ix0 a0 a1 g0 (by omega)]
   rfl
  rfl
 generalize hr1e:cS (oK l x) x x.Granted (eQ x).1 (x.Granted == 0) false (false,[])=r1 at *
 refine (cW (N:=1267650600228229401496703205374) ((cS (oK l x) x (x.Quantity - x.Granted) (eQ x).2 (((x.Quantity - x.Granted) == 0)&&(decide (0<x.Quantity))) true r1).1,2,(cS (oK l x) x (x.Quantity - x.Granted) (eQ x).2 (((x.Quantity - x.Granted) == 0)&&(decide (0<x.Quantity))) true r1).2) ?_).trans ?_
 ·dsimp only
  rw [show decide ((1:Int)<2)=true from rfl,cZ,bM ix1,show (((1:Int) == 0)||(decide (0<x.Quantity)))=decide (0<x.Quantity) from rfl]
  unfold cS
  cases (((x.Quantity - x.Granted) == 0)&&(decide (0<x.Quantity)))
  ·rw [eY,qV hl hm x (gr:=[x.Granted,x.Quantity - x.Granted]) (vs:=[(eQ x).1,(eQ x).2]) (i:=1) ix1 ix1 b0 b1 (show 0≤x.Quantity - x.Granted by omega) (by omega)]
   have hap:∀ y:Za,app 40 r1.2 [y]=some (r1.2++[y]):=by intro y;unfold app;rw [if_pos (by simp;omega)]
   rw [bM (hap _)];rfl
  rfl
 refine (fm (N:=1267650600228229401496703205373) (cS (oK l x) x (x.Quantity - x.Granted) (eQ x).2 (((x.Quantity - x.Granted) == 0)&&(decide (0<x.Quantity))) true r1) rfl).trans ?_
 have hall:qf l x=dJ (oK l x) 6 x.Quantity x.Value (dJ (oK l x) 5 x.Quantity x.Value (cS (oK l x) x (x.Quantity - x.Granted) (eQ x).2 (((x.Quantity - x.Granted) == 0)&&(decide (0<x.Quantity))) true r1)):=by
  unfold qf;rw [hr1e]
 generalize cS (oK l x) x (x.Quantity - x.Granted) (eQ x).2 (((x.Quantity - x.Granted) == 0)&&(decide (0<x.Quantity))) true r1=r2 at *
 have more:∀ (k:Int) (_:k=5∨k=6) (r:Bool×List Za) (_:r.2.length≤10),(Option.bind (Option.bind (fG l k x.Code x.Origin x.Company x.Day) (fun x103=>cond x103.2 (Option.bind (cM x103.1.Duty x.Value x.Quantity) (fun x106=>Option.bind (app 40 r.2 [(⟨k,x103.1.ID,x.Quantity,x.Value,x106.1⟩:Za)]) (fun l109=>some ((r.1||(x106.2 != 0)),l109)))) (some (r.1,r.2)))) (fun (v97,l101)=>some (Sum.inl (v97,(IntKind.i64.wrap (k+1)),l101))))=some (Sum.inl ((dJ (oK l x) k x.Quantity x.Value r).1,k+1,(dJ (oK l x) k x.Quantity x.Value r).2):(Bool×Int×List Za)⊕(Bool×List Za)):=by
  intro k hk r hr
  rw [bM (vb hl hm k x.Code x.Origin x.Company x.Day),show ofM l (gf k x.Code x.Origin x.Company x.Day)=oK l x k from rfl,cy (by omega) (by omega)]
  unfold dJ
  cases hokk:oK l x k with
  | none=>rfl
  | some m =>
   obtain ⟨mk,_⟩:=ho k m hokk
   obtain ⟨e0,e1,e2,_⟩:=nc m.Duty
   rw [mk.duty] at e1
   have hd:=e2 (Option.some.inj e1).symm
   have hap:∀ y:Za,app 40 r.2 [y]=some (r.2++[y]):=by intro y;unfold app;rw [if_pos (by simp;omega)]
   dsimp only
   rw [cZ,bM (tX hd v0 v1 q0 q1 mk.duty),bM (hap _)];rfl
 have hm5:(dJ (oK l x) 5 x.Quantity x.Value r2).2.length≤3:=Nat.le_trans (uf _ _ _ _ _) (by omega)
 refine (cW (N:=1267650600228229401496703205375) ((dJ (oK l x) 5 x.Quantity x.Value r2).1,6,(dJ (oK l x) 5 x.Quantity x.Value r2).2) ?_).trans ?_
 ·exact more 5 (.inl rfl) r2 (by omega)
 generalize dJ (oK l x) 5 x.Quantity x.Value r2=r3 at *
 refine (cW (N:=1267650600228229401496703205374) ((dJ (oK l x) 6 x.Quantity x.Value r3).1,7,(dJ (oK l x) 6 x.Quantity x.Value r3).2) ?_).trans ?_
 ·exact more 6 (.inr rfl) r3 (by omega)
 refine (fm (N:=1267650600228229401496703205373) (dJ (oK l x) 6 x.Quantity x.Value r3) rfl).trans ?_
 rw [← hall]
 obtain ⟨al,ac⟩:=all
 refine (y9 (qf l x).2 (by omega) _).trans ?_
 rcases ac with ⟨st,k1,k2,k3,k4,k5⟩ | ⟨k1,k2⟩
 ·rw [k1,k2,k3]
  show cond (false||decide (1000000000000<st.2)) _ _=some (ub st)
  unfold ub
  by_cases h:1000000000000<st.2
  ·rw [det h,if_pos h];rfl
  rw [cU h,if_neg h];rfl
 rw [k1,k2];rfl
theorem za {p:Zf} (hp:SOK p) {n:Nat} (hn:n=2∨n=4∨n=6∨n=8):∃ l q,cG p (n:Int)=some (strOfNums l,q)∧l.length=n∧Digs l∧SOK q:=by
 unfold cG
 obtain ⟨r,q,h1,h2,h3,h4⟩:=bG hp 2 (by omega) (by omega)
 rw [bM h1]
 simp only
 rw [cy (by omega) (by omega),oA (by omega)]
 obtain ⟨t,h5,h6⟩:=gb (body:=fun (l5,l8,v9)=>cond (decide (((l5.length:Nat):Int)<(n:Int))) (Option.bind (ap (⟨l8,v9⟩:Zf) 3) (fun x19=>Option.bind (app 1 l5 [48,(IntKind.u8.wrap (IntKind.i64.wrap (49+x19.1)))]) (fun l22=>some (.inl (l22,x19.2.L,x19.2.I))))) (some (.inr (l5,l8,v9))))
  (fun s:List Int×List Int×Int=>(∃ j,s.1.length=2*j)∧2≤s.1.length∧s.1.length≤n∧Digs s.1∧SOK ⟨s.2.1,s.2.2⟩) (fun s=>8 - s.1.length) (fun t:List Int×List Int×Int=>t.1.length=n∧Digs t.1∧SOK ⟨t.2.1,t.2.2⟩)
  (fun s hs=>by
   obtain ⟨l,l8,v9⟩:=s
   obtain ⟨⟨j,a0⟩,a1,a1',a2,a3⟩:=hs
   simp only at a0 a1 a1' a2 a3 ⊢
   by_cases hl:((l.length:Nat):Int)<(n:Int)
   ·left
    rw [det hl];simp only [cZ]
    obtain ⟨r,q,b1,b2,b3,b4⟩:=bG a3 3 (by omega) (by omega)
    rw [bM b1];simp only
    rw [cy (by omega) (by omega),oA (by omega)]
    have e:app 1 l [48,49+r]=some (l++[48,49+r]):=by unfold app;rw [if_pos];simp;omega
    rw [bM e]
    refine ⟨_,rfl,⟨⟨j+1,by simp only [List.length_append,List.length_cons,List.length_nil];omega⟩,by simp only [List.length_append,List.length_cons,List.length_nil];omega,by simp only [List.length_append,List.length_cons,List.length_nil];omega,?_,b4⟩,by simp only [List.length_append,List.length_cons,List.length_nil];omega⟩
    intro x hx
    simp only [List.mem_append,List.mem_cons,List.not_mem_nil,or_false] at hx
    rcases hx with hx | rfl | rfl
    ·exact a2 x hx
    ·omega
    omega
   right
   rw [cU hl]
   exact ⟨_,rfl,by show l.length=n;omega,a2,a3⟩)
  FUEL ([57,52+r],q.L,q.I) ⟨⟨1,rfl⟩,by simp,by simp;omega,by intro x hx;simp only [List.mem_cons,List.not_mem_nil,or_false] at hx;omega,h4⟩ (gq (by simp))
 obtain ⟨l,l8,v9⟩:=t
 rw [bM h5]
 exact ⟨_,_,rfl,h6.1,h6.2.1,h6.2.2⟩
theorem sj {p:Zf} (hp:SOK p):∃ r q,ca p=some (r,q)∧0≤r∧r≤1010000∧SOK q:=by
 unfold ca
 obtain ⟨a,q,h1,h2,h3,h4⟩:=bG hp 4 (by omega) (by omega)
 rw [bM h1]
 dsimp only
 cases decide (0<a)
 ·obtain ⟨b,q2,g1,g2,g3,g4⟩:=bG h4 1000001 (by omega) (by omega)
  rw [eY,bM g1]
  exact ⟨_,_,rfl,g2,by omega,g4⟩
 obtain ⟨b,q2,g1,g2,g3,g4⟩:=bG h4 101 (by omega) (by omega)
 rw [cZ,bM g1]
 dsimp only
 rw [cy (by omega) (by omega)]
 exact ⟨_,_,rfl,by omega,by omega,g4⟩
theorem sk {p:Zf} (hp:SOK p):∃ d q,cx p=some (d,q)∧SOK q:=by
 unfold cx
 obtain ⟨a,q1,h1,h2,h3,h4⟩:=bG hp 3 (by omega) (by omega)
 rw [bM h1]
 have k1:∃ l v w,(cond (decide (0<(a,q1).1)) (Option.bind (ca (a,q1).2) (fun x9=>some (x9.2.L,x9.2.I,(IntKind.i64.wrap (Int.tdiv x9.1 4))))) (some ((a,q1).2.L,(a,q1).2.I,0)))=some (l,v,w)∧SOK ⟨l,v⟩:=by
  cases decide (0<(a,q1).1)
  ·exact ⟨_,_,_,rfl,h4⟩
  obtain ⟨r,q,g1,_,_,g2⟩:=sj h4
  dsimp only
  rw [cZ,bM g1];exact ⟨_,_,_,rfl,g2⟩
 obtain ⟨l,v,w,k1,k2⟩:=k1
 rw [bM k1]
 dsimp only
 obtain ⟨a2,q2,h1,h2,h3,h4⟩:=bG k2 3 (by omega) (by omega)
 rw [bM h1]
 have k3:∃ (l:List Int) (v w z:Int),(cond ((a2,q2).1 == 1) (Option.bind (ap (a2,q2).2 500) (fun x17=>Option.bind (ap x17.2 5) (fun x20=>Option.bind (idx [1,100,1000,1000000,7] x20.1) (fun m21=>some (x20.2.L,x20.2.I,(IntKind.i64.wrap (1+x17.1)),m21))))) (some ((a2,q2).2.L,(a2,q2).2.I,0,0)))=some (l,v,w,z)∧SOK ⟨l,v⟩:=by
  cases ((a2,q2).1 == 1)
  ·exact ⟨_,_,_,_,rfl,h4⟩
  obtain ⟨r,q,g1,g2,g3,g4⟩:=bG h4 500 (by omega) (by omega)
  obtain ⟨r',q',f1,f2,f3,f4⟩:=bG g4 5 (by omega) (by omega)
  dsimp only
  rw [cZ,bM g1,bM f1]
  dsimp only
  rw [bM (vS (l:=[1,100,1000,1000000,7]) f2 (by simp;omega))]
  exact ⟨_,_,_,_,rfl,f4⟩
 obtain ⟨l,v,w,z,k3,k4⟩:=k3
 rw [bM k3]
 dsimp only
 obtain ⟨a3,q3,h1,h2,h3,h4⟩:=bG k4 4 (by omega) (by omega)
 rw [bM h1]
 have k5:∃ l v w z,(cond ((a3,q3).1 == 1) (Option.bind (ca (a3,q3).2) (fun x30=>some (x30.2.L,x30.2.I,true,x30.1))) (some ((a3,q3).2.L,(a3,q3).2.I,false,0)))=some (l,v,w,z)∧SOK ⟨l,v⟩:=by
  cases ((a3,q3).1 == 1)
  ·exact ⟨_,_,_,_,rfl,h4⟩
  obtain ⟨r,q,g1,_,_,g2⟩:=sj h4
  dsimp only
  rw [cZ,bM g1];exact ⟨_,_,_,_,rfl,g2⟩
 obtain ⟨l,v,w5,z5,k5,k6⟩:=k5
 rw [bM k5]
 dsimp only
 obtain ⟨a4,q4,h1,h2,h3,h4⟩:=bG k6 4 (by omega) (by omega)
 rw [bM h1]
 have k7:∃ l v w z,(cond ((a4,q4).1 == 1) (Option.bind (ca (a4,q4).2) (fun x38=>cond w5 (some (x38.2.L,x38.2.I,true,(mC (IntKind.i64.wrap (Int.tdiv x38.1 8)) z5))) (some (x38.2.L,x38.2.I,true,(IntKind.i64.wrap (Int.tdiv x38.1 8)))))) (some ((a4,q4).2.L,(a4,q4).2.I,false,0)))=some (l,v,w,z)∧SOK ⟨l,v⟩:=by
  cases ((a4,q4).1 == 1)
  ·exact ⟨_,_,_,_,rfl,h4⟩
  obtain ⟨r,q,g1,_,_,g2⟩:=sj h4
  dsimp only
  rw [cZ,bM g1]
  cases w5
  ·exact ⟨_,_,_,_,rfl,g2⟩
  exact ⟨_,_,_,_,rfl,g2⟩
 obtain ⟨l,v,w,z,k7,k8⟩:=k7
 rw [bM k7]
 exact ⟨_,_,rfl,k8⟩
theorem zb {S T β:Type} {body:S→Option (S⊕T)} {k:T→Option β} {s:S} {Z:Option β→Prop} (P:S→Prop) (μ:S→Nat) (Q:T→Prop) (hs:P s) (hμ:μ s<FUEL) (hk:∀ t,Q t→Z (k t)) (step:∀ s,P s→(∃ s',body s=some (.inl s')∧P s'∧μ s'<μ s)∨∃ t,body s=some (.inr t)∧Q t):Z ((bk body FUEL s).bind k):=by
 obtain ⟨t,e,h⟩:=gb P μ Q step FUEL s hs hμ
 rw [bM e];exact hk t h
theorem wX (b:Int):∃ t,bk (S:=Int×(List ByteArray)) (T:=((List ByteArray))) (fun (v60,l62)=>cond ((decide (v60<3))&&(decide (7<b))) (Option.bind (Option.bind (lG v60) (fun u80=>cond ((dd .i64 (co .i64 b v60) 1) == 1) (Option.bind (di) (fun x82=>Option.bind (idx x82 v60) (fun m83=>Option.bind (app 16 l62 [m83]) (fun l86=>some l86)))) (some l62))) (fun l78=>some (.inl ((IntKind.i64.wrap (v60+1)),l78)))) (some (.inr l62))) FUEL (0,([]:List ByteArray))=some t∧t.length≤3:=by
 refine gb (fun s:Int×List ByteArray=>0≤s.1∧s.1≤3∧(s.2.length:Int)≤s.1) (fun s=>(3 - s.1).toNat) (fun t:List ByteArray=>t.length≤3) ?_ FUEL (0,[]) ⟨by simp,by simp,by simp⟩ (gq (by simp))
 rintro ⟨k,ls⟩ ⟨h1,h2,h3⟩
 dsimp only at h1 h2 h3 ⊢
 by_cases hk:k<3
 ·cases decide (7<b)
  ·right;rw [Bool.and_false];exact ⟨_,rfl,by omega⟩
  left
  rw [det hk,Bool.and_true,cZ,bM (ge0_ok h1),cy (by omega) (by omega)]
  cases ((dd .i64 (co .i64 b k) 1) == 1)
  ·exact ⟨_,rfl,⟨by dsimp only;omega,by dsimp only;omega,by dsimp only;omega⟩,by dsimp only;omega⟩
  obtain ⟨s,hs,_⟩:=qc (k:=k) h1 (by omega) (l:=[(⟨#[65,65]⟩:ByteArray),(⟨#[66,66]⟩:ByteArray),(⟨#[67,67]⟩:ByteArray),(⟨#[68,68]⟩:ByteArray),(⟨#[69,69]⟩:ByteArray),(⟨#[70,70]⟩:ByteArray)]) rfl
  have ha:app 16 ls [s]=some (ls++[s]):=by unfold app;rw [if_pos (by simp;omega)]
  rw [cZ,bM (show di=some [(⟨#[65,65]⟩:ByteArray),(⟨#[66,66]⟩:ByteArray),(⟨#[67,67]⟩:ByteArray),(⟨#[68,68]⟩:ByteArray),(⟨#[69,69]⟩:ByteArray),(⟨#[70,70]⟩:ByteArray)] from rfl),bM hs,bM ha]
  exact ⟨_,rfl,⟨by dsimp only;omega,by dsimp only;omega,by simp;omega⟩,by dsimp only;omega⟩
 right
 rw [cU hk];exact ⟨_,rfl,by omega⟩
theorem vc (l:List Int):(strOfNums l).size=l.length:=by simp [strOfNums,ByteArray.size]
def MsB (n:Nat) (ms:List Zc):Prop:=ms.length≤n∧∀ m∈ms,m.Prefix.size≤8
theorem og (p:List Int):∃ ms,eO p=some ms∧MsB 15 ms:=by
 unfold eO
 obtain ⟨x,h1,h2⟩:=yA p 300 (by omega) (by omega)
 rw [bM h1]
 have hs:SOK ⟨x,0⟩:=⟨by simp,by simp,by simp only;omega⟩
 obtain ⟨a,q,h3,h4,h5,h6⟩:=bG hs 8 (by omega) (by omega)
 rw [bM h3]
 have k1:∃ ms l v,(cond (decide (0<(a,q).1)) (Option.bind (cx (a,q).2) (fun x12=>Option.bind (cx x12.2) (fun x13=>Option.bind (app 144 ([]:List Zc) [(⟨1,1,(⟨#[57,52]⟩:ByteArray),[],0,0,36525,(-1),x12.1⟩:Zc),(⟨2,1,(⟨#[57,53]⟩:ByteArray),[],0,0,25,(-1),x13.1⟩:Zc)]) (fun l17=>some (l17,x13.2.L,x13.2.I))))) (some (([]:(List Zc)),(a,q).2.L,(a,q).2.I)))=some (ms,l,v)∧SOK ⟨l,v⟩∧MsB 2 ms:=by
  cases decide (0<(a,q).1)
  ·exact ⟨_,_,_,rfl,h6,by simp,by intro m h;cases h⟩
  obtain ⟨d,q1,g1,g2⟩:=sk h6
  obtain ⟨d',q2,f1,f2⟩:=sk g2
  dsimp only
  rw [cZ,bM g1,bM f1]
  refine ⟨_,_,_,rfl,f2,by simp,?_⟩
  intro m hm
  simp only [List.nil_append,List.mem_cons,List.not_mem_nil,or_false] at hm
  rcases hm with rfl | rfl <;> (show (2:Nat)≤8;omega)
 obtain ⟨ms,l,v,k1,k2,k3⟩:=k1
 rw [bM k1]
 dsimp only
 obtain ⟨n,q2,h1,h2,h3,h4⟩:=bG k2 13 (by omega) (by omega)
 rw [bM h1]
 refine zb (Z:=fun o=>∃ ms,o=some ms∧MsB 15 ms) (fun s:List Zc×Int×List Int×Int=>0≤s.2.1∧s.2.1≤n∧SOK ⟨s.2.2.1,s.2.2.2⟩∧MsB (2+s.2.1.toNat) s.1) (fun s=>(13 - s.2.1).toNat) (MsB 15) ⟨by simp,by simp;omega,h4,by simpa using k3⟩ (gq (by simp)) (fun t ht=>⟨t,rfl,ht⟩) ?_
 rintro ⟨ms,i,ll,vv⟩ ⟨a1,a2,a3,a4⟩
 dsimp only at a1 a2 a3 a4 ⊢
 by_cases hi:i<n
 ·left
  rw [det hi,cZ]
  obtain ⟨b1,s1,c1,d1,e1,f1⟩:=bG a3 6 (by omega) (by omega)
  rw [bM c1];dsimp only
  obtain ⟨b2,s2,c2,d2,e2,f2⟩:=bG f1 4 (by omega) (by omega)
  rw [bM c2];dsimp only
  rw [cy (r:=2*b2) (by omega) (by omega),cy (r:=2+2*b2) (by omega) (by omega)]
  obtain ⟨cl,s3,c3,d3,e3,f3⟩:=za f2 (n:=(2+2*b2).toNat) (by omega)
  rw [show (((2+2*b2).toNat:Nat):Int)=2+2*b2 by omega] at c3
  rw [bM c3];dsimp only
  obtain ⟨b4,s4,c4,d4,e4,f4⟩:=bG f3 20 (by omega) (by omega)
  rw [bM c4];dsimp only
  obtain ⟨b5,s5,c5,f5⟩:=sk f4
  rw [bM c5];dsimp only
  obtain ⟨b6,s6,c6,d6,e6,f6⟩:=bG f5 30 (by omega) (by omega)
  rw [bM c6];dsimp only
  obtain ⟨b7,s7,c7,d7,e7,f7⟩:=bG f6 3 (by omega) (by omega)
  rw [bM c7];dsimp only
  rw [cy (r:=b4+1) (by omega) (by omega)]
  have k8:∃ l v w,(cond (b7 == 1) (Option.bind (ap s7 (b4+1)) (fun x50=>some (x50.2.L,x50.2.I,x50.1))) (some (s7.L,s7.I,(-1))))=some (l,v,w)∧SOK ⟨l,v⟩:=by
   cases (b7 == 1)
   ·exact ⟨_,_,_,rfl,f7⟩
   obtain ⟨r,q,g1,_,_,g2⟩:=bG f7 (b4+1) (by omega) (by omega)
   rw [cZ,bM g1];exact ⟨_,_,_,rfl,g2⟩
  obtain ⟨l8,v8,w8,k8,f8⟩:=k8
  rw [bM k8];dsimp only
  obtain ⟨b9,s9,c9,d9,e9,f9⟩:=bG f8 3 (by omega) (by omega)
  rw [bM c9];dsimp only
  have k10:∃ l v w,(cond (b9 == 1) (Option.bind (ap s9 2) (fun x58=>some (x58.2.L,x58.2.I,(IntKind.i64.wrap (1+x58.1))))) (some (s9.L,s9.I,0)))=some (l,v,w)∧SOK ⟨l,v⟩:=by
   cases (b9 == 1)
   ·exact ⟨_,_,_,rfl,f9⟩
   obtain ⟨r,q,g1,_,_,g2⟩:=bG f9 2 (by omega) (by omega)
   rw [cZ,bM g1];exact ⟨_,_,_,rfl,g2⟩
  obtain ⟨l10,v10,w10,k10,f10⟩:=k10
  rw [bM k10];dsimp only
  obtain ⟨b11,s11,c11,d11,e11,f11⟩:=bG f10 16 (by omega) (by omega)
  rw [bM c11];dsimp only
  obtain ⟨t,c12,d12⟩:=wX b11
  rw [bM c12]
  have hap:∀ m:Zc,app 144 ms [m]=some (ms++[m]):=by
   intro m;have:=a4.1;unfold app;rw [if_pos (by simp;omega)]
  rw [bM (hap _)]
  rw [cy (r:=i+1) (by omega) (by omega)]
  refine ⟨_,rfl,⟨by dsimp only;omega,by dsimp only;omega,f11,?_⟩,by dsimp only;omega⟩
  refine ⟨by have:=a4.1;simp;omega,?_⟩
  intro m hm
  simp only [List.mem_append,List.mem_cons,List.not_mem_nil,or_false] at hm
  rcases hm with hm | rfl
  ·exact a4.2 m hm
  show (strOfNums cl).size≤8;rw [vc];omega
 right
 rw [cU hi]
 exact ⟨_,rfl,by have:=a4.1;omega,a4.2⟩
theorem run_len (o:Int→Option Zc):∀ (ps:List Zg) (k:Nat) (st st':List Za×Int),run (dm o) ps k st=.inl st'→st'.1.length≤st.1.length+ps.length:=by
 intro ps
 induction ps with
 | nil=>intro k st st' h;change Sum.inl st=Sum.inl st' at h;injection h with h;subst h;simp
 | cons p ps ih =>
  intro k st st' h
  rw [dS] at h
  cases hp:dm o k p st with
  | inr e=>rw [hp] at h;change Sum.inr e=_ at h;cases h
  | inl s =>
   rw [hp] at h
   have h1:=ih _ _ _ h
   have h2:s.1.length≤st.1.length+1:=by
    unfold dm at hp
    cases hc:gD o p.quantity p.value p.kinds sf with
    | inr e=>rw [hc] at hp;cases hp
    | inl c =>
     rw [hc] at hp
     injection hp with hp;rw [← hp]
     split <;> simp
   simp;omega
theorem ug (l:List Zc) (x:Zj):(ju l x).1.Lines.length≤4:=by
 unfold ju
 split
 ·simp [nR]
 split
 ·simp [nR]
 split
 ·simp [nR]
 cases h:run (dm (oK l x)) (jg x) 0 ([],0) with
 | inr e=>simp [tC,nR]
 | inl st =>
  have:=run_len _ _ _ _ _ h
  have hp:(jg x).length≤4:=by
   unfold jg
   simp only [List.length_append,List.length_cons,List.length_nil]
   split <;> split <;> simp
  simp only [List.length_nil,Nat.zero_add] at this
  show (ub st).1.Lines.length≤4
  unfold ub;split
  ·simp [nR]
  dsimp only;omega
structure DOK (d:Zl):Prop where
 len:d.Lines.length≤4
 amt:∀ y∈d.Lines,0≤y.Amount∧y.Amount≤1000000000000
 tot:d.Total=tot d.Lines
def SI (st:List Za×Int):Prop:=(∀ y∈st.1,0≤y.Amount∧y.Amount≤1000000000000)∧st.2=tot st.1
theorem run_si {o:Int→Option Zc} (ho:∀ k m,o k=some m→MOK m):∀ (ps:List Zg) (k:Nat) (st st':List Za×Int),(∀ p∈ps,PartOK p)→SI st→run (dm o) ps k st=.inl st'→SI st':=by
 intro ps
 induction ps with
 | nil=>intro k st st' _ h e;change Sum.inl st=Sum.inl st' at e;injection e with e;subst e;exact h
 | cons p ps ih =>
  intro k st st' hp h e
  rw [dS] at e
  have pk:=hp p (by simp)
  cases hpf:dm o k p st with
  | inr z=>rw [hpf] at e;cases e
  | inl s1 =>
   rw [hpf] at e
   refine ih _ _ _ (fun q hq=>hp q (by simp [hq])) ?_ e
   unfold dm at hpf
   rcases wU (o:=o) ho pk.v0 pk.v1 pk.q0 pk.q1 p.kinds sf ⟨by simp [sf],by simp [sf]⟩ with ⟨s2,f1,f2,f3⟩ | f1
   ·rw [f1] at hpf
    dsimp only at hpf
    split at hpf
    ·injection hpf with hpf;subst hpf
     refine ⟨fun y hy=>?_,?_⟩
     ·rcases List.mem_append.1 hy with hy | hy
      ·exact h.1 y hy
      rw [List.mem_singleton] at hy;subst hy;exact f2
     show st.2+s2.2.2.2.2.2=tot (st.1++[nP s2])
     rw [r8,← h.2];simp only [tot,nP];omega
    injection hpf with hpf;subst hpf;exact h
   rw [f1] at hpf;cases hpf
theorem k9 (e:Int):DOK (nR e).1:=⟨by simp [nR],fun y hy=>by simp [nR] at hy,rfl⟩
theorem oh (l:List Zc) {x:Zj} (hx:bP x=some 0):DOK (ju l x).1:=by
 have hx2:=itOK hx
 have hlen:=ug l x
 revert hlen
 unfold ju
 split
 ·exact fun _=>k9 _
 rename_i h1
 obtain ⟨hl,hm⟩:=t8 (Decidable.not_not.1 h1)
 split
 ·exact fun _=>k9 _
 split
 ·exact fun _=>k9 _
 have ho:=vV hl hm x
 cases hr:run (dm (oK l x)) (jg x) 0 ([],0) with
 | inr e=>exact fun _=>k9 e
 | inl st =>
  have h:=run_si (fun k m hm=>(ho k m hm).1) (jg x) 0 ([],0) st (wS hx2).2 ⟨fun y hy=>by simp at hy,rfl⟩ hr
  show (ub st).1.Lines.length≤4→DOK (ub st).1
  unfold ub
  split
  ·exact fun _=>k9 3
  exact fun hl=>⟨hl,h.1,h.2⟩
theorem DOK.am {d:Zl} (h:DOK d):Am d.Lines:=fun x hx=>by
 have:=h.amt x hx;have:=MM_eq;omega
theorem DOK.wt {d:Zl} (h:DOK d):wt d.Lines≤40000000000000:=by
 have:=yN d.Lines;have:=h.len;omega
theorem DOK.tot_bd {d:Zl} (h:DOK d):0≤d.Total∧d.Total≤4000000000000:=by
 obtain ⟨l,t⟩:=d
 obtain ⟨h1,h2,h3⟩:=h
 dsimp only at h1 h2 h3 ⊢
 subst h3
 have:∀ m:List Za,(∀ y∈m,0≤y.Amount∧y.Amount≤1000000000000)→0≤SX.tot m∧SX.tot m≤1000000000000*(m.length:Int):=by
  intro m
  induction m with
  | nil=>intro _;simp [SX.tot]
  | cons y m ih =>
   intro h
   have a:=h y (by simp)
   have b:=ih fun z hz=>h z (by simp [hz])
   rw [SX.tot,List.length_cons]
   omega
 have:=this l h2
 omega
theorem qi:∀ A l:List Za,(A.foldl fk l).length≤l.length+A.length
 | [],l=>Nat.le_refl _
 | x::A,l=>by have:=qi A (fk l x);have:=nK l x;rw [List.foldl_cons,List.length_cons];omega
theorem zc {A B:List Za} (hA:A.length≤4) (hB:B.length≤4):(eU A B).length≤8:=by
 have q1:=(gT (β:=List Za) (-1) A [] (by rw [List.length_nil];omega) (fun x=>some x)).2
 rw [List.length_nil,Nat.zero_add] at q1
 have q2:=(gT (β:=List Za) 1 B (A.foldl (fun l x=>cI l (kl x) (IntKind.i64.wrap (-1*x.Amount))) []) (by omega) (fun x=>some x)).2
 unfold eU;omega
theorem uh:∀ (l:List Za) (a:Int),l.foldl (fun a x=>a+x.Amount) a=a+tot l
 | [],a=>by rw [tot,Int.add_zero];rfl
 | x::l,a=>by rw [List.foldl_cons,uh l,tot,Int.add_assoc]
theorem wY {D:List Za} (hD:D.length≤8) (hb:∀ x∈D,-1000000000000000≤x.Amount∧x.Amount≤1000000000000000∧x.Amount≠0) {β:Type} (K:Int⊕Bool→Option β):Option.bind (bk (S:=Int×Int) (T:=(Int)⊕Bool) (fun (v14,v15)=>cond (decide (v15<(D.length:Int))) (Option.bind (idx D v15) (fun m20=>Option.bind (idx (D.map neg) v15) (fun m21=>Option.bind (idx D v15) (fun m22=>Option.bind (gd (!(m21.Amount != (IntKind.i64.wrap (0 - m22.Amount)))) (idx (D.map neg) v15)) (fun m23=>Option.bind (gd (!(m21.Amount != (IntKind.i64.wrap (0 - m22.Amount)))) (idx D v15)) (fun m24=>Option.bind (gd (!((m21.Amount != (IntKind.i64.wrap (0 - m22.Amount)))||(m23.Kind != m24.Kind))) (idx (D.map neg) v15)) (fun m25=>Option.bind (gd (!((m21.Amount != (IntKind.i64.wrap (0 - m22.Amount)))||(m23.Kind != m24.Kind))) (idx D v15)) (fun m26=>Option.bind (gd (!(((m21.Amount != (IntKind.i64.wrap (0 - m22.Amount)))||(m23.Kind != m24.Kind))||(m25.Measure != m26.Measure))) (idx D v15)) (fun m27=>cond ((((m21.Amount != (IntKind.i64.wrap (0 - m22.Amount)))||(m23.Kind != m24.Kind))||(m25.Measure != m26.Measure))||(m27.Amount == 0)) (some (.inr (.inr false))) (some (.inl ((IntKind.i64.wrap (v14+m20.Amount)),(IntKind.i64.wrap (v15+1)))))))))))))) (some (.inr (.inl v14)))) FUEL (0,0)) K=K (.inl (tot D)):=by
 have e:=(jK (l:=D) (by omega) (body:=fun ((v14,v15):Int×Int)=>cond (decide (v15<(D.length:Int))) (Option.bind (idx D v15) (fun m20=>Option.bind (idx (D.map neg) v15) (fun m21=>Option.bind (idx D v15) (fun m22=>Option.bind (gd (!(m21.Amount != (IntKind.i64.wrap (0 - m22.Amount)))) (idx (D.map neg) v15)) (fun m23=>Option.bind (gd (!(m21.Amount != (IntKind.i64.wrap (0 - m22.Amount)))) (idx D v15)) (fun m24=>Option.bind (gd (!((m21.Amount != (IntKind.i64.wrap (0 - m22.Amount)))||(m23.Kind != m24.Kind))) (idx (D.map neg) v15)) (fun m25=>Option.bind (gd (!((m21.Amount != (IntKind.i64.wrap (0 - m22.Amount)))||(m23.Kind != m24.Kind))) (idx D v15)) (fun m26=>Option.bind (gd (!(((m21.Amount != (IntKind.i64.wrap (0 - m22.Amount)))||(m23.Kind != m24.Kind))||(m25.Measure != m26.Measure))) (idx D v15)) (fun m27=>cond ((((m21.Amount != (IntKind.i64.wrap (0 - m22.Amount)))||(m23.Kind != m24.Kind))||(m25.Measure != m26.Measure))||(m27.Amount == 0)) (some (.inr (.inr false))) (some (.inl ((IntKind.i64.wrap (v14+m20.Amount)),(IntKind.i64.wrap (v15+1)))))))))))))) (some (.inr (.inl v14)))) (k:=K) (fun i (a:Int)=>(a,i)) (fun a x=>a+x.Amount) (fun a=>(.inl a:Int⊕Bool)) (fun k a => -(1000000000000000*(k:Int))≤a∧a≤1000000000000000*(k:Int)) 0 (by simp) (fun k hk a ha=>?_) (fun a _=>by dsimp only;rw [nD];rfl)).1
 ·rw [uh,Int.zero_add] at e;exact e
 obtain ⟨b1,b2,b3⟩:=hb D[k] (List.getElem_mem hk)
 have hi2:idx (D.map neg) (k:Int)=some (neg D[k]):=by rw [cC (by rw [List.length_map];exact hk),List.getElem_map]
 refine ⟨?_,by omega,by omega⟩
 dsimp only
 rw [wD hk,cZ,cC hk,hi2,ft,ft,ft]
 have e1:((neg D[k]).Amount != IntKind.i64.wrap (0 - D[k].Amount))=false:=by
  rw [cy (by omega) (by omega)];show (-D[k].Amount != 0 - D[k].Amount)=false;simp
 have e2:((neg D[k]).Kind != D[k].Kind)=false:=by show (D[k].Kind != D[k].Kind)=false;simp
 have e3:((neg D[k]).Measure != D[k].Measure)=false:=by show (D[k].Measure != D[k].Measure)=false;simp
 rw [e1,Bool.not_false,dD,dD,ft,ft,e2,Bool.or_false,Bool.not_false,dD,dD,ft,ft,e3,Bool.or_false,Bool.not_false,dD,ft,show (D[k].Amount == 0)=false by simp [b3],Bool.or_false,eY,jJ hk (by omega),cy (by omega) (by omega)]
theorem lD (l j k o:List Int):cR l j k o=some true:=by
 unfold cR
 obtain ⟨m,h1,h2⟩:=og l
 obtain ⟨x,g1,g2⟩:=vP k
 obtain ⟨m',h1',h2'⟩:=og j
 obtain ⟨y,g1',g2'⟩:=vP o
 have hs:=g2.size
 have hs':=g2'.size
 rw [bM h1,bM g1,bM (qg m x (fun y hy=>by have:=h2.2 y hy;omega) (by omega)),bM h1',bM g1',bM (qg m' y (fun y hy=>by have:=h2'.2 y hy;omega) (by omega))]
 have d1:=oh m g2.valid
 have d2:=oh m' g2'.valid
 generalize (ju m x).1=a at d1 ⊢
 generalize (ju m' y).1=b at d2 ⊢
 have t1:=d1.tot_bd
 have t2:=d2.tot_bd
 have w1:=d1.wt
 have w2:=d2.wt
 have l1:=d1.len
 have l2:=d2.len
 have hB:∀ {d:Zl},DOK d→∀ x∈d.Lines,-9223372036854775808≤x.Amount∧x.Amount≤9223372036854775807:=fun h x hx=>by have:=h.amt x hx;omega
 obtain ⟨e1,e2⟩:=nL a b (by omega) (by omega) (hB d2)
 obtain ⟨e3,_⟩:=nL b a (by omega) (by omega) (hB d1)
 obtain ⟨e4,_⟩:=nL a a (by omega) (by omega) (hB d1)
 have hs:=sums_bd d1.am d2.am (by omega)
 have ht:=yP d1.am d2.am (by omega)
 have hl:=zc l1 l2
 rw [bM e1,bM e3,bM e2,tV d1.am d2.am (by omega),yQ]
 have hk:tot ((eU a.Lines b.Lines).foldl fk [])=b.Total - a.Total:=by rw [tR,ht,d1.tot,d2.tot,tot];omega
 have hl2:=qi (eU a.Lines b.Lines) []
 rw [List.length_nil,Nat.zero_add] at hl2
 have hm:∀ x∈(eU a.Lines b.Lines).foldl fk [],-1000000000000000≤x.Amount∧x.Amount≤1000000000000000∧x.Amount≠0:=fun x hx=>by
  obtain ⟨p,q⟩:=yR hx
  have:=hs x p
  exact ⟨this.1,this.2,q⟩
 generalize (eU a.Lines b.Lines).foldl fk []=D at hk hl2 hm ⊢
 rw [bM (wL D (by omega)),Bool.not_true,Bool.false_or,List.length_map,bne_self_eq_false,eY]
 refine (wY (D:=D) (by omega) hm _).trans ?_
 dsimp only
 rw [hk,cy (by omega) (by omega),beq_self_eq_true,dD,bM e4,wN d1.am (by omega)]
 rw [show (((([]:List Za).length:Nat):Int) == 0)=true from rfl,Bool.and_self,dD,bM yW]
 rfl
theorem lc {κ:Kr} {v1 v2 v3 v4:List Value} (l j k o:List Int) (_:Rps κ [.slc l.length (List.map eI l)] v1) (_:Rps κ [.slc j.length (List.map eI j)] v2) (_:Rps κ [.slc k.length (List.map eI k)] v3) (_:Rps κ [.slc o.length (List.map eI o)] v4):cR l j k o=some true:=lD l j k o
def bd3:Nat→Int→Prop:=fun _ _=>True
theorem op3 {H:Type} {eh:TypeId×Value→H} {nb:Nat}:Opens eh nb 3 eI (bd3 nb):=wJ rfl
def bd22:Nat→(List Int)→Prop:=fun n l=>l.length*8≤140737488355328∧l.length≤n∧∀ x∈l,bd3 n x
theorem op22 {H:Type} {eh:TypeId×Value→H} {nb:Nat}:Opens eh nb 22 (eL eI) (bd22 nb):=tM rfl rfl rfl rfl op3
end SX
end Go.Proofs.YtknkknahmebbfaaGreatDoor
set_option maxRecDepth 100000
namespace Go.Proofs.YtknkknahmebbfaaGreatDoor
open Go Go.ChangeShapes Go.WideShapes Go.RowKit
open SX
theorem assessDifference_lifted (os:Os) (started:os.Started) (H:Type) (enc:TypeId×Value→H) :
    ReturnsInHanded {} Tryz.checked os 3 .any (fun w args=>(Rows.assessDifferenceSpec.pre enc Tryz.prog Tryz.f3 [] false w args∧laidMetH Tryz.prog qP w)∧sizedMet enc Tryz.prog Tryz.f3 (OpenSpec.ofChange Rows.assessDifferenceSpec) false w args)
      (Rows.assessDifferenceSpec.post enc Tryz.prog Tryz.f3 false true false false):=by
  refine returnsInHanded_of_change_and (C:=Tryz.checked) (X:=fun w _=>laidMetH Tryz.prog qP w) (fun _ _ _ hh h=>h.of_heap hh) own_ok started (by kernel_rfl) Tryz.func3
    (ChangeSpec.witness_at (enc:=enc) (C:=Tryz.checked) (os:=os) (X:=fun w _=>laidMetH Tryz.prog qP w) false (laidWorld os) #[.slice none 0 0,.slice none 0 0,.slice none 0 0,.slice none 0 0] 8 rfl (by kernel_rfl) (by kernel_rfl) (by kernel_rfl) (by kernel_rfl) (by kernel_rfl) (qq os _)) ?_
  intro W base args ds gs before hval0 hW _ hwt hL _
  have hval:∀ (j:Nat) t v,Tryz.f3.params[j]?=some t→args[j]?=some v→Value.okWide Tryz.prog W .any base t v:=hval0
  have hW2:=hW
  obtain ⟨p,q,hA0,hV0,rfl,_,_⟩:=hW
  have hA:DataW.TrodAll enc Tryz.prog W 0 (fun _=>true) true [22,22,22,22] args.toList ds p:=hA0
  obtain ⟨rfl,rfl⟩:gs=[]∧q=[]:=by
    cases gs with
    | nil=>exact ⟨rfl,hV0⟩
    | cons g r=>exact absurd hV0 (by intro h;cases h)
  generalize hargs:args.toList=vs at hA
  have hval2:∀ (j:Nat) t v,[22,22,22,22][j]?=some t→vs[j]?=some v→Value.okWide Tryz.prog W .any base t v:=fun j t v h1 h2=>hval j t v (by rw [Tryz.params3];simpa using h1) (by rw [← hargs] at h2;simpa using h2)
  obtain ⟨v0,vs0,d0,ds0,p0,q0,rfl,rfl,h0,hA⟩:=SX.trodAll_cons hA
  obtain ⟨v1,vs1,d1,ds1,p1,q1,rfl,rfl,h1,hA⟩:=SX.trodAll_cons hA
  obtain ⟨v2,vs2,d2,ds2,p2,q2,rfl,rfl,h2,hA⟩:=SX.trodAll_cons hA
  obtain ⟨v3,vs3,d3,ds3,p3,q3,rfl,rfl,h3,hA⟩:=SX.trodAll_cons hA
  obtain ⟨rfl,rfl⟩:=SX.trodAll_nil hA
  have hw:(DataW.weightsEach Tryz.prog [22,22,22,22] [d0,d1,d2,d3]).all (· ≤ reachBytes)=true:=hwt
  obtain ⟨l0,hw⟩:=SX.light_head hw
  obtain ⟨m0,s0,b0⟩:=oG rfl rfl op22 (fun _=>⟨_,rfl⟩) (hval2 0 22 v0 rfl rfl) h0 l0 (Nat.le_refl _)
  obtain ⟨l1,hw⟩:=SX.light_head hw
  obtain ⟨m1,s1,b1⟩:=oG rfl rfl op22 (fun _=>⟨_,rfl⟩) (hval2 1 22 v1 rfl rfl) h1 l1 (Nat.le_refl _)
  obtain ⟨l2,hw⟩:=SX.light_head hw
  obtain ⟨m2,s2,b2⟩:=oG rfl rfl op22 (fun _=>⟨_,rfl⟩) (hval2 2 22 v2 rfl rfl) h2 l2 (Nat.le_refl _)
  obtain ⟨l3,hw⟩:=SX.light_head hw
  obtain ⟨m3,s3,b3⟩:=oG rfl rfl op22 (fun _=>⟨_,rfl⟩) (hval2 3 22 v3 rfl rfl) h3 l3 (Nat.le_refl _)
  exact yM (readB (by kernel_rfl)) rfl (br rfl) rfl (by simp [Rows.assessDifferenceSpec]) hW2 (tO hL) (by rw [hargs];exact (s0.app (s1.app (s2.app s3)))) (jk (lc m0 m1 m2 m3 s0 s1 s2 s3))
theorem assessDifference_holds:Rows.AssessDifferenceSaid :=
 OpenClaim.holds_of_wide 3 Tryz.f3 rfl rfl rfl rfl rfl rfl rfl ⟨rfl,rfl,rfl,rfl,rfl⟩ rfl rfl rfl rfl rfl assessDifference_named Tryz.func3 assessDifference_closed
  (of_decide_eq_true (by kernel_rfl)) (by unfold Func.isWrapper;rw [if_neg (of_decide_eq_false (by kernel_rfl))];exact ⟨rfl,rfl⟩)
  (fun os started H enc _=>assessDifference_lifted os started H enc)
theorem assessDifference_card:Rows.AssessDifferenceCardSaid :=
 Claim7.holds_tied_plain_at .later [] [.data,.data,.pinned] true (true, "40815d3119b2f976db1fdf38a9257a853ac3cf840690bd3936f2266887fb13c6") false
  assessDifference_holds (fun _ h=>by cases h) (by as_aux_lemma=>kernel_rfl) (fun _ h=>by cases h) assessDifference_row_tie rfl ⟨rfl,rfl⟩ fp_main rfl
  (fun f fn hf hfn=>by
   obtain rfl:f=3:=Option.some.inj ((show Tryz.prog.funcNamed "customs/customslaw20.AssessDifference" = some 3 from assessDifference_named).symm.trans hf) |>.symm
   obtain rfl:fn=Tryz.f3:=(Option.some.inj (Tryz.func3.symm.trans hfn)).symm
   exact ⟨fp_looks,fun j t ht=>by
    rw [Tryz.params3] at ht
    exact tP (by as_aux_lemma=>kernel_rfl) ht⟩)
  assessDifference_goes
#print axioms assessDifference_card
end Go.Proofs.YtknkknahmebbfaaGreatDoor
