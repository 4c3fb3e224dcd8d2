/- A part of the proof: texts of the walk and of the plain laws, merged. No condition. -/
import Derived.Test.YthbphcbhedmnoaaGreatDoorM3
set_option linter.unusedVariables false
set_option linter.unusedSimpArgs false
set_option maxHeartbeats 4000000
set_option maxRecDepth 100000
namespace Go.Proofs.YthbphcbhedmnoaaGreatDoor
namespace SX
open Go
attribute [local irreducible] PWL PWC PWD POpL POpQ PEv PGuardIs PSub PPick PUpd PSplice PFill PLit PF PFV PCall FOk ff dX jL kS gS jM Cov PHolds bf idx app mk gd lb nz lv zC sub kl fm qo q9 gp cD ji rc IntKind.wrap Int.tmod Int.tdiv Op.bytesLess strOfNums
def dj (p0:(List ByteArray)):Option Bool:=cond (decide (8<(p0.length:Int))) (some false) ((bf (S:=Int) (T:=(Unit)⊕(_)) (fun v2=>cond (decide (v2<(p0.length:Int))) ((idx p0 v2).bind fun m6=>(iU m6).bind fun x7=>(gd ((!(!x7))&&(decide (0<v2))) (idx p0 (IntKind.i64.wrap (v2 - 1)))).bind fun m8=>cond ((!x7)||((decide (0<v2))&&(Op.bytesLess m6.toList m8.toList||decide (m6=m8)))) (some (.inr (.inr false))) (some (.inl (IntKind.i64.wrap (v2+1))))) (some (.inr (.inl ())))) FUEL 0).bind fun q=>match q with | .inl _=>some true | .inr e=>some e)
theorem gU {p0:(List ByteArray)} {r:Bool}  (h:dj p0=some r):PF 113 [pL eS p0] (pB r):=by
 unfold dj at h
 refine br ?_
 refine eW Tryz.func113 rfl Tryz.ntmps113 Tryz.results113 rfl (aU [2] (by kernel_rfl) (dn (ah [5,6] [(7,pB (decide (8<(p0.length:Int))))] (by kernel_rfl) (cg rfl h (fun hc1 h=>?_) fun hc1 h=>?_))))
 ·refine af ?_
  refine fP [(2,pB false)] (by kernel_rfl) (aq ?_)
  exact zz r h rfl
 refine ai ?_
 refine dn (al [(8,pL eS p0),(9,pI (p0.length:Int)),(10,pI 0)] (by kernel_rfl) (dN h fun q4 hq4 h=>?_))
 refine az (Y:=Unit×Unit) (fun (_,_)=>[]) (fun (_,_)=>[]) (fun (_,_)=>q4=Sum.inl ()) ?_ ?_
 ·refine aJ ?_
  refine aK (Y:=Unit) (S:=Int) _ hq4 (fun _ v2=>[(0,pL eS p0),(8,pL eS p0),(9,pI (p0.length:Int)),(10,pI v2)]) (fun _ v2=>[]) () (jt rfl) bX ?_
  rintro _ v2 o τ hb3;(try dsimp only at hb3);dsimp only [aD]
  refine af (al [(11,pB (decide (v2<(p0.length:Int))))] (by kernel_rfl) (bM (js rfl hb3 (fun hc5 hb3=>?_) fun hc5 hb3=>?_)))
  ·refine ai ?_
   refine bM (gX (ae hb3 fun m6 hm6 hb3=>ap [] [12,13,14] [(3,pI v2),(4,pS m6)] (fG 1 eS hm6 bL) (by kernel_rfl) (du hb3 fun x7 hx7 hb3=>ae hb3 fun m8 hm8 hb3=>ap [] (rg 15 15) [(30,pB ((!x7)||((decide (0<v2))&&(Op.bytesLess m6.toList m8.toList||decide (m6=m8)))))] (bR 1 (qg hx7) (mY 11 eS (gq hm8) bL)) (by kernel_rfl) (cg rfl hb3 (fun hc9 hb3=>?_) fun hc9 hb3=>?_))))
   ·refine af ?_
    refine fP [(2,pB false)] (by kernel_rfl) (iw ?_)
    refine aS hb3 (fun ht=>?_);subst ht
    refine aA (aV ?_)
    exact zz r h rfl
   refine ai ?_
   refine mn (ah [31] [(10,pI (IntKind.i64.wrap (v2+1)))] (by kernel_rfl) ?_)
   exact bd hb3 () (jt rfl) bX
  refine aR ?_
  refine av (an hb3 (fun ht=>ar rfl ?_))
  exact aG ((),()) oj bX ht.symm
 rintro ⟨_,_⟩ τ hz;(try dsimp only at hz);subst q4;(try dsimp only at h);dsimp only [aD]
 refine af (fP [(2,pB true)] (by kernel_rfl) ?_)
 exact zz r h rfl
def cH (p0:Zb):Option Int:=(dc p0.Code).bind fun x2=>(gd (!((x2 != 6)&&(x2 != 8))) (bK p0.Country)).bind fun x3=>(gd (!(((x2 != 6)&&(x2 != 8))||(!x3))) (dj p0.Processes)).bind fun x4=>cond ((((x2 != 6)&&(x2 != 8))||(!x3))||(!x4)) (some (1:Int)) (cond ((decide (p0.Price<1))||(decide (1000000000000<p0.Price))) (some (2:Int)) (cond (decide (8<(p0.Inputs.length:Int))) (some (8:Int)) (cond (p0.Obtained&&(decide (0<(p0.Inputs.length:Int)))) (some (1:Int)) (some (0:Int)))))
theorem jz {p0:Zb} {r:Int}  (h:cH p0=some r):PF 73 [.agg (aZ p0)] (pI r):=by
 unfold cH at h
 refine br ?_
 refine eW Tryz.func73 rfl Tryz.ntmps73 Tryz.results73 rfl (aa (aj rfl (bE (cs:=(aZ p0)) rfl rfl (fun b1=>bA [2] (by kernel_rfl) (du h fun x2 hx2 h=>ap [0] [4,5,6] [(3,pI x2)] (bR 2 (fb hx2) bL) (by kernel_rfl) (dn (ae h fun x3 hx3 h=>ae h fun x4 hx4 h=>ap [0,0] (rg 7 17) [(24,pB ((((x2 != 6)&&(x2 != 8))||(!x3))||(!x4)))] (gC 9 (fun hc=>dw (gq hx3 hc)) (gC 15 (fun hc=>gU (gq hx4 hc)) bL)) (by kernel_rfl) (cg rfl h (fun hc5 h=>?_) fun hc5 h=>?_))))))))
 ·refine af ?_
  refine fP [(2,pI 1)] (by kernel_rfl) (aq ?_)
  exact zz r h rfl
 refine ai ?_
 refine dn (bc [0,0] (rg 25 7) [(32,pB ((decide (p0.Price<1))||(decide (1000000000000<p0.Price))))] (by kernel_rfl) (cg rfl h (fun hc6 h=>?_) fun hc6 h=>?_))
 ·refine af ?_
  refine fP [(2,pI 2)] (by kernel_rfl) (aq ?_)
  exact zz r h rfl
 refine ai ?_
 refine dn (bc [0] [33,34,35] [(36,pB (decide (8<(p0.Inputs.length:Int))))] (by kernel_rfl) (cg rfl h (fun hc7 h=>?_) fun hc7 h=>?_))
 ·refine af ?_
  refine fP [(2,pI 8)] (by kernel_rfl) (aq ?_)
  exact zz r h rfl
 refine ai ?_
 refine dn (bc [0,0] (rg 37 7) [(44,pB (p0.Obtained&&(decide (0<(p0.Inputs.length:Int)))))] (by kernel_rfl) (cg rfl h (fun hc8 h=>?_) fun hc8 h=>?_))
 ·refine af ?_
  refine fP [(2,pI 1)] (by kernel_rfl) (aq ?_)
  exact zz r h rfl
 refine ai ?_
 refine bM (fP [(2,pI 0)] (by kernel_rfl) ?_)
 exact zz r h rfl
def cO (p0:(List Zb)):Option Int:=cond (decide (64<(p0.length:Int))) (some (8:Int)) ((bf (S:=Int) (T:=(Unit)⊕(_)) (fun v2=>cond (decide (v2<(p0.length:Int))) ((idx p0 v2).bind fun m6=>cond ((decide (m6.ID<1))||(decide (1000000<m6.ID))) (some (.inr (.inr (2:Int)))) ((gd (decide (0<v2)) (idx p0 (IntKind.i64.wrap (v2 - 1)))).bind fun m9=>cond ((decide (0<v2))&&(decide (m6.ID≤m9.ID))) (some (.inr (.inr (9:Int)))) ((cH m6).bind fun x11=>cond (x11 != 0) (some (.inr (.inr x11))) ((cL p0 m6.Inputs).bind fun x13=>cond (x13 != 0) (some (.inr (.inr x13))) (some (.inl (IntKind.i64.wrap (v2+1)))))))) (some (.inr (.inl ())))) FUEL 0).bind fun q=>match q with | .inl _=>some (0:Int) | .inr e=>some e)
theorem iV {p0:(List Zb)} {r:Int}  (h:cO p0=some r):PF 40 [pL Zb.enc p0] (pI r):=by
 unfold cO at h
 refine br ?_
 refine eW Tryz.func40 rfl Tryz.ntmps40 Tryz.results40 rfl (aU [2] (by kernel_rfl) (dn (ah [7,8] [(9,pB (decide (64<(p0.length:Int))))] (by kernel_rfl) (cg rfl h (fun hc1 h=>?_) fun hc1 h=>?_))))
 ·refine af ?_
  refine fP [(2,pI 8)] (by kernel_rfl) (aq ?_)
  exact zz r h rfl
 refine ai ?_
 refine dn (al [(10,pL Zb.enc p0),(11,pI (p0.length:Int)),(12,pI 0)] (by kernel_rfl) (dN h fun q4 hq4 h=>?_))
 refine az (Y:=Unit×Unit) (fun (_,_)=>[]) (fun (_,_)=>[]) (fun (_,_)=>q4=Sum.inl ()) ?_ ?_
 ·refine aJ ?_
  refine aK (Y:=Unit) (S:=Int) _ hq4 (fun _ v2=>[(0,pL Zb.enc p0),(10,pL Zb.enc p0),(11,pI (p0.length:Int)),(12,pI v2)]) (fun _ v2=>[]) () (jt rfl) bX ?_
  rintro _ v2 o τ hb3;(try dsimp only at hb3);dsimp only [aD]
  refine af (al [(13,pB (decide (v2<(p0.length:Int))))] (by kernel_rfl) (bM (js rfl hb3 (fun hc5 hb3=>?_) fun hc5 hb3=>?_)))
  ·refine ai ?_
   refine bM (gX (ae hb3 fun m6 hm6 hb3=>aa (bm 3 [] [15] [(14,pI v2),(16,.agg (aZ m6))] (fG 1 Zb.enc hm6 bL) (by kernel_rfl) (aj rfl (aT (cs:=[pI 0,pS ByteArray.empty,pS ByteArray.empty,pI 0,pB false,pN,pN]) rfl rfl rfl rfl (fun b7=>am 1 [(3,pI v2)] (by kernel_rfl) (aX rfl rfl (au (vs:=(aZ m6)) rfl rfl rfl rfl rfl cY om (aw (dn (bc [0,0] (rg 17 7) [(24,pB ((decide (m6.ID<1))||(decide (1000000<m6.ID))))] (by kernel_rfl) (cg rfl hb3 (fun hc8 hb3=>?_) fun hc8 hb3=>?_))))))))))))
   ·refine af ?_
    refine fP [(2,pI 2)] (by kernel_rfl) (aq (iw ?_))
    refine aS hb3 (fun ht=>?_);subst ht
    refine aA (aV ?_)
    exact zz r h rfl
   refine ai ?_
   refine dn (dg (ρd:=[]) [(0,0),(1,0),(2,0),(3,0),(4,0),(5,0),(6,0),(7,0),(8,0),(9,0),(10,0),(11,0),(12,0)] _ (List.Perm.refl _) (by kernel_rfl) rfl (ae hb3 fun m9 hm9 hb3=>dH 13 [0] (rg 25 12) [(37,pB ((decide (0<v2))&&(decide (m6.ID≤m9.ID))))] (mY 8 Zb.enc (gq hm9) bL) (by kernel_rfl) (ey (cg rfl hb3 (fun hc10 hb3=>?_) fun hc10 hb3=>?_))))
   ·refine af ?_
    refine fP [(2,pI 9)] (by kernel_rfl) (aq (iw ?_))
    refine aS hb3 (fun ht=>?_);subst ht
    refine aA (aV ?_)
    exact zz r h rfl
   refine ai ?_
   refine dn (ae hb3 fun x11 hx11 hb3=>ap [0] [38,39] [(5,pI x11)] (bR 1 (jz hx11) bL) (by kernel_rfl) (bM (ah [40] [(41,pB (x11 != 0))] (by kernel_rfl) (cg rfl hb3 (fun hc12 hb3=>?_) fun hc12 hb3=>?_))))
   ·refine af ?_
    refine ah [42] [(2,pI x11)] (by kernel_rfl) (eD (aq (iw ?_)))
    refine aS hb3 (fun ht=>?_);subst ht
    refine aA (aV ?_)
    exact zz r h rfl
   refine ai ?_
   refine du hb3 fun x13 hx13 hb3=>ap [0] [43,44,45,46] [(6,pI x13)] (bR 3 (jH hx13) bL) (by kernel_rfl) (bM (ah [47] [(48,pB (x13 != 0))] (by kernel_rfl) (cg rfl hb3 (fun hc14 hb3=>?_) fun hc14 hb3=>?_)))
   ·refine af ?_
    refine ah [49] [(2,pI x13)] (by kernel_rfl) (eD (iw ?_))
    refine aS hb3 (fun ht=>?_);subst ht
    refine aA (aV ?_)
    exact zz r h rfl
   refine ai ?_
   refine mn (ah [50] [(12,pI (IntKind.i64.wrap (v2+1)))] (by kernel_rfl) ?_)
   exact bd hb3 () (jt rfl) bX
  refine aR ?_
  refine av (an hb3 (fun ht=>ar rfl ?_))
  exact aG ((),()) oj bX ht.symm
 rintro ⟨_,_⟩ τ hz;(try dsimp only at hz);subst q4;(try dsimp only at h);dsimp only [aD]
 refine af (fP [(2,pI 0)] (by kernel_rfl) ?_)
 exact zz r h rfl
def gh (p0:(List ByteArray)):Option Bool:=cond (decide (6<(p0.length:Int))) (some false) ((bf (S:=Int) (T:=(Unit)⊕(_)) (fun v2=>cond (decide (v2<(p0.length:Int))) ((idx p0 v2).bind fun m6=>(dc m6).bind fun x7=>(gd ((!(x7 == 0))&&(decide (0<v2))) (idx p0 (IntKind.i64.wrap (v2 - 1)))).bind fun m8=>cond ((x7 == 0)||((decide (0<v2))&&(Op.bytesLess m6.toList m8.toList||decide (m6=m8)))) (some (.inr (.inr false))) (some (.inl (IntKind.i64.wrap (v2+1))))) (some (.inr (.inl ())))) FUEL 0).bind fun q=>match q with | .inl _=>some true | .inr e=>some e)
theorem n5 {p0:(List ByteArray)} {r:Bool}  (h:gh p0=some r):PF 189 [pL eS p0] (pB r):=by
 unfold gh at h
 refine br ?_
 refine eW Tryz.func189 rfl Tryz.ntmps189 Tryz.results189 rfl (aU [2] (by kernel_rfl) (dn (ah [5,6] [(7,pB (decide (6<(p0.length:Int))))] (by kernel_rfl) (cg rfl h (fun hc1 h=>?_) fun hc1 h=>?_))))
 ·refine af ?_
  refine fP [(2,pB false)] (by kernel_rfl) (aq ?_)
  exact zz r h rfl
 refine ai ?_
 refine dn (al [(8,pL eS p0),(9,pI (p0.length:Int)),(10,pI 0)] (by kernel_rfl) (dN h fun q4 hq4 h=>?_))
 refine az (Y:=Unit×Unit) (fun (_,_)=>[]) (fun (_,_)=>[]) (fun (_,_)=>q4=Sum.inl ()) ?_ ?_
 ·refine aJ ?_
  refine aK (Y:=Unit) (S:=Int) _ hq4 (fun _ v2=>[(0,pL eS p0),(8,pL eS p0),(9,pI (p0.length:Int)),(10,pI v2)]) (fun _ v2=>[]) () (jt rfl) bX ?_
  rintro _ v2 o τ hb3;(try dsimp only at hb3);dsimp only [aD]
  refine af (al [(11,pB (decide (v2<(p0.length:Int))))] (by kernel_rfl) (bM (js rfl hb3 (fun hc5 hb3=>?_) fun hc5 hb3=>?_)))
  ·refine ai ?_
   refine bM (gX (ae hb3 fun m6 hm6 hb3=>ap [] [12,13,14] [(3,pI v2),(4,pS m6)] (fG 1 eS hm6 bL) (by kernel_rfl) (du hb3 fun x7 hx7 hb3=>ae hb3 fun m8 hm8 hb3=>ap [] (rg 15 15) [(30,pB ((x7 == 0)||((decide (0<v2))&&(Op.bytesLess m6.toList m8.toList||decide (m6=m8)))))] (bR 1 (fb hx7) (mY 11 eS (gq hm8) bL)) (by kernel_rfl) (cg rfl hb3 (fun hc9 hb3=>?_) fun hc9 hb3=>?_))))
   ·refine af ?_
    refine fP [(2,pB false)] (by kernel_rfl) (iw ?_)
    refine aS hb3 (fun ht=>?_);subst ht
    refine aA (aV ?_)
    exact zz r h rfl
   refine ai ?_
   refine mn (ah [31] [(10,pI (IntKind.i64.wrap (v2+1)))] (by kernel_rfl) ?_)
   exact bd hb3 () (jt rfl) bX
  refine aR ?_
  refine av (an hb3 (fun ht=>ar rfl ?_))
  exact aG ((),()) oj bX ht.symm
 rintro ⟨_,_⟩ τ hz;(try dsimp only at hz);subst q4;(try dsimp only at h);dsimp only [aD]
 refine af (fP [(2,pB true)] (by kernel_rfl) ?_)
 exact zz r h rfl
def iW (rec:Ze→Option Bool) (p0:Ze):Option Bool:=(kx p0).bind fun x2=>cond (!x2) (some false) (cond (p0.Kind == 1) (some true) (cond (p0.Kind == 2) ((gd (((p0.Digits == 2)||(p0.Digits == 4))||(p0.Digits == 6)) (gh p0.Except)).bind fun x6=>(gd ((((p0.Digits == 2)||(p0.Digits == 4))||(p0.Digits == 6))&&x6) (ic p0.Tolerance)).bind fun x7=>some (((((p0.Digits == 2)||(p0.Digits == 4))||(p0.Digits == 6))&&x6)&&x7)) (cond (p0.Kind == 3) ((ic p0.Limit).bind fun x9=>some x9) (cond (p0.Kind == 4) ((dj [p0.Name]).bind fun x13=>some x13) (Option.bind (cond (p0.Kind == 5) (some (p0.Kind == 5)) (some (p0.Kind == 6))) (fun v14=>cond v14 (cond ((decide ((p0.Args.length:Int)<2))||(decide (6<(p0.Args.length:Int)))) (some false) ((bf (S:=Int) (T:=(Unit)⊕(_)) (fun v19=>cond (decide (v19<(p0.Args.length:Int))) ((idx p0.Args v19).bind fun m23=>(gd (!(m23.Kind == p0.Kind)) (rec m23)).bind fun x25=>cond ((m23.Kind == p0.Kind)||(!x25)) (some (.inr (.inr false))) (some (.inl (IntKind.i64.wrap (v19+1))))) (some (.inr (.inl ())))) FUEL 0).bind fun q=>match q with | .inl _=>some true | .inr e=>some e)) (some false)))))))
theorem qh {rec:Ze→Option Bool} (hrec:∀ {p0:Ze} {r:Bool},rec p0=some r→PF 152 [.agg (aN p0)] (pB r)) {p0:Ze} {r:Bool} (h:iW rec p0=some r):PF 152 [.agg (aN p0)] (pB r):=by
 unfold iW at h
 refine br ?_
 refine eW Tryz.func152 rfl Tryz.ntmps152 Tryz.results152 rfl (aa (aj rfl (bE (cs:=(aN p0)) rfl rfl (fun b1=>bA [2] (by kernel_rfl) (dn (ae h fun x2 hx2 h=>ap [0] [6,7] [(8,pB (!x2))] (bR 1 (su hx2) bL) (by kernel_rfl) (cg rfl h (fun hc3 h=>?_) fun hc3 h=>?_)))))))
 ·refine af ?_
  refine fP [(2,pB false)] (by kernel_rfl) (aq ?_)
  exact zz r h rfl
 refine ai ?_
 refine dn (bc [0] [9] [(10,pI p0.Kind)] (by kernel_rfl) (aL (gX (ah [12] [(11,pB (p0.Kind == 1))] (by kernel_rfl) (cg rfl h (fun hc4 h=>?_) fun hc4 h=>?_)))))
 ·refine af ?_
  refine fP [(2,pB true)] (by kernel_rfl) (iw ?_)
  exact zz r h rfl
 refine af ?_
 refine ah [14] [(13,pB (p0.Kind == 2))] (by kernel_rfl) (cg rfl h (fun hc5 h=>?_) fun hc5 h=>?_)
 ·refine af ?_
  refine bc [0,0,0] (rg 15 13) [(3,pB (((p0.Digits == 2)||(p0.Digits == 4))||(p0.Digits == 6)))] (by kernel_rfl) (du h fun x6 hx6 h=>ae h fun x7 hx7 h=>ap [0,0] (rg 28 11) [(2,pB (((((p0.Digits == 2)||(p0.Digits == 4))||(p0.Digits == 6))&&x6)&&x7))] (gC 4 (fun hc=>n5 (gq hx6 hc)) (gC 9 (fun hc=>ky (gq hx7 hc)) bL)) (by kernel_rfl) (eD (iw ?_)))
  exact zz r h rfl
 refine af ?_
 refine ah [40] [(39,pB (p0.Kind == 3))] (by kernel_rfl) (cg rfl h (fun hc8 h=>?_) fun hc8 h=>?_)
 ·refine af ?_
  refine ae h fun x9 hx9 h=>ap [0] [41,42,43] [(2,pB x9)] (bR 2 (ky hx9) bL) (by kernel_rfl) (eD (iw ?_))
  exact zz r h rfl
 refine af ?_
 refine ah [45] [(44,pB (p0.Kind == 4))] (by kernel_rfl) (cg rfl h (fun hc10 h=>?_) fun hc10 h=>?_)
 ·refine af ?_
  refine aa (cq 2 [0] [46] [(47,pS p0.Name)] (by kernel_rfl) (aj rfl (bG rfl rfl rfl rfl rfl (fL rfl jr) rfl rfl rfl rfl (fun b11=>?_))))
  refine eH (enc:=eS) (xs:=[p0.Name]) 48 rfl (by exact aC) ?_
  refine ae h fun x13 hx13 h=>gr [] [49] [(2,pB x13)] (bR 0 (gU hx13) bL) (by kernel_rfl) (eD (iw ?_))
  exact zz r h rfl
 refine af ?_
 refine af (ah [51] [(50,pB (p0.Kind == 5))] (by kernel_rfl) (dN h fun q15 hq15 h=>?_))
 refine az (Y:=Unit×Bool) (fun (_,v14)=>[(1,pP b1 0),(50,pB v14)]) (fun (_,v14)=>[PRes.b b1 98 (aN p0)]) (fun (_,v14)=>q15=v14) ?_ ?_
 ·skip
  refine js rfl hq15 (fun hc16 hq15=>?_) fun hc16 hq15=>?_
  ·refine ai ?_
   obtain rfl:=osi hq15
   exact aG ((),(p0.Kind == 5)) (qa rfl) dM rfl
  refine ah [52] [(50,pB (p0.Kind == 6))] (by kernel_rfl) ?_
  obtain rfl:=osi hq15
  exact aG ((),(p0.Kind == 6)) (qa rfl) dM rfl
 rintro ⟨_,v14⟩ τ hz;(try dsimp only at hz);subst q15;(try dsimp only at h);dsimp only [aD]
 refine js rfl h (fun hc17 h=>?_) fun hc17 h=>?_
 ·refine af ?_
  refine af (bc [0,0] (rg 53 9) [(62,pB ((decide ((p0.Args.length:Int)<2))||(decide (6<(p0.Args.length:Int)))))] (by kernel_rfl) (cg rfl h (fun hc18 h=>?_) fun hc18 h=>?_))
  ·refine af ?_
   refine fP [(2,pB false)] (by kernel_rfl) (aq (iw ?_))
   exact zz r h rfl
  refine ai ?_
  refine dn (bc [0] [63] [(64,pL Ze.enc p0.Args),(65,pI (p0.Args.length:Int)),(66,pI 0)] (by kernel_rfl) (dN h fun q21 hq21 h=>?_))
  refine az (Y:=Unit×Unit) (fun (_,_)=>[]) (fun (_,_)=>[]) (fun (_,_)=>q21=Sum.inl ()) ?_ ?_
  ·refine aJ ?_
   refine aK (Y:=Unit) (S:=Int) _ hq21 (fun _ v19=>[(1,pP b1 0),(64,pL Ze.enc p0.Args),(65,pI (p0.Args.length:Int)),(66,pI v19)]) (fun _ v19=>[PRes.b b1 98 (aN p0)]) () (jt rfl) dM ?_
   rintro _ v19 o τ hb20;(try dsimp only at hb20);dsimp only [aD]
   refine af (al [(67,pB (decide (v19<(p0.Args.length:Int))))] (by kernel_rfl) (bM (js rfl hb20 (fun hc22 hb20=>?_) fun hc22 hb20=>?_)))
   ·refine ai ?_
    refine bM (gX (ae hb20 fun m23 hm23 hb20=>aa (bm 2 [] [68] [(69,.agg (aN m23))] (sW 0 Ze.enc (Ze.enc_eq _) hm23 bL) (by kernel_rfl) (aj rfl (aT (cs:=[pI 0,pI 0,pN,pI 0,pI 0,pS ByteArray.empty,pN]) rfl rfl rfl rfl (fun b24=>aX rfl rfl (au (vs:=(aN m23)) rfl rfl rfl rfl rfl cY om (aw (du hb20 fun x25 hx25 hb20=>ap [0,1,0] (rg 70 9) [(79,pB ((m23.Kind == p0.Kind)||(!x25)))] (gC 7 (fun hc=>hrec (gq hx25 hc)) bL) (by kernel_rfl) (cg rfl hb20 (fun hc26 hb20=>?_) fun hc26 hb20=>?_))))))))))
    ·refine af ?_
     refine fP [(2,pB false)] (by kernel_rfl) (iw ?_)
     refine aS hb20 (fun ht=>?_);subst ht
     refine aA (aV (iw ?_))
     exact zz r h rfl
    refine ai ?_
    refine mn (ah [80] [(66,pI (IntKind.i64.wrap (v19+1)))] (by kernel_rfl) ?_)
    exact bd hb20 () (jt rfl) (aY (ak aC) bX)
   refine aR ?_
   refine av (an hb20 (fun ht=>ar rfl ?_))
   exact aG ((),()) oj bX ht.symm
  rintro ⟨_,_⟩ τ hz;(try dsimp only at hz);subst q21;(try dsimp only at h);dsimp only [aD]
  refine af (fP [(2,pB true)] (by kernel_rfl) (iw ?_))
  exact zz r h rfl
 refine ai ?_
 refine aH (bM (fP [(2,pB false)] (by kernel_rfl) ?_))
 exact zz r h rfl
def j7 (n:Nat):Ze→Option Bool:=Nat.rec (motive:=fun _=>Ze→Option Bool) (fun _=>none) (fun _ ih=>iW ih) n
def n7 (p0:Ze):Option Bool:=j7 FUEL p0
theorem rK (n:Nat):∀ {p0:Ze} {r:Bool},j7 n p0=some r→PF 152 [.agg (aN p0)] (pB r):=by
 induction n with
 | zero=>intros;rename_i h;exact nomatch h
 | succ n ih=>intros;rename_i h;exact qh (fun hr=>ih hr) h
theorem sy {p0:Ze} {r:Bool} (h:n7 p0=some r):PF 152 [.agg (aN p0)] (pB r):=rK FUEL h
def eP (p0:Ze):Option Int:=(nX p0 33).bind fun x2=>cond (decide (32<x2)) (some (8:Int)) ((n7 p0).bind fun x4=>cond (!x4) (some (1:Int)) (some (0:Int)))
theorem gK {p0:Ze} {r:Int}  (h:eP p0=some r):PF 116 [.agg (aN p0)] (pI r):=by
 unfold eP at h
 refine br ?_
 refine eW Tryz.func116 rfl Tryz.ntmps116 Tryz.results116 rfl (aa (aj rfl (bE (cs:=(aN p0)) rfl rfl (fun b1=>bA [2] (by kernel_rfl) (dn (ae h fun x2 hx2 h=>ap [0] [3,4] [(5,pB (decide (32<x2)))] (bR 1 (sr hx2) bL) (by kernel_rfl) (cg rfl h (fun hc3 h=>?_) fun hc3 h=>?_)))))))
 ·refine af ?_
  refine fP [(2,pI 8)] (by kernel_rfl) (aq ?_)
  exact zz r h rfl
 refine ai ?_
 refine dn (ae h fun x4 hx4 h=>ap [0] [6,7] [(8,pB (!x4))] (bR 1 (sy hx4) bL) (by kernel_rfl) (cg rfl h (fun hc5 h=>?_) fun hc5 h=>?_))
 ·refine af ?_
  refine fP [(2,pI 1)] (by kernel_rfl) (aq ?_)
  exact zz r h rfl
 refine ai ?_
 refine bM (fP [(2,pI 0)] (by kernel_rfl) ?_)
 exact zz r h rfl
def cX (p0:(List Zk)):Option Int:=(bf (S:=Int) (T:=(Unit)⊕(_)) (fun v1=>cond (decide (v1<(p0.length:Int))) ((idx p0 v1).bind fun m5=>(dc m5.Prefix).bind fun x7=>cond (x7 == 0) (some (.inr (.inr (1:Int)))) ((gd (decide (0<v1)) (idx p0 (IntKind.i64.wrap (v1 - 1)))).bind fun m9=>cond ((decide (0<v1))&&(Op.bytesLess m5.Prefix.toList m9.Prefix.toList||decide (m5.Prefix=m9.Prefix))) (some (.inr (.inr (9:Int)))) ((eP m5.Rule).bind fun x11=>cond (x11 != 0) (some (.inr (.inr x11))) (some (.inl (IntKind.i64.wrap (v1+1))))))) (some (.inr (.inl ())))) FUEL 0).bind fun q=>match q with | .inl _=>some (0:Int) | .inr e=>some e
theorem j8 {p0:(List Zk)} {r:Int}  (h:cX p0=some r):PF 76 [pL Zk.enc p0] (pI r):=by
 unfold cX at h
 refine br ?_
 refine eW Tryz.func76 rfl Tryz.ntmps76 Tryz.results76 rfl (aU [2] (by kernel_rfl) (dn (al [(6,pL Zk.enc p0),(7,pI (p0.length:Int)),(8,pI 0)] (by kernel_rfl) (dN h fun q3 hq3 h=>?_))))
 refine az (Y:=Unit×Unit) (fun (_,_)=>[]) (fun (_,_)=>[]) (fun (_,_)=>q3=Sum.inl ()) ?_ ?_
 ·refine aJ ?_
  refine aK (Y:=Unit) (S:=Int) _ hq3 (fun _ v1=>[(0,pL Zk.enc p0),(6,pL Zk.enc p0),(7,pI (p0.length:Int)),(8,pI v1)]) (fun _ v1=>[]) () (jt rfl) bX ?_
  rintro _ v1 o τ hb2;(try dsimp only at hb2);dsimp only [aD]
  refine af (al [(9,pB (decide (v1<(p0.length:Int))))] (by kernel_rfl) (bM (js rfl hb2 (fun hc4 hb2=>?_) fun hc4 hb2=>?_)))
  ·refine ai ?_
   refine bM (gX (ae hb2 fun m5 hm5 hb2=>aa (bm 3 [] [11] [(10,pI v1),(12,.agg (dt m5))] (fG 1 Zk.enc hm5 bL) (by kernel_rfl) (aj rfl (aT (cs:=[pS ByteArray.empty,pI 0,pI 0,pN,pI 0,pI 0,pS ByteArray.empty,pN]) rfl rfl rfl rfl (fun b6=>am 1 [(3,pI v1)] (by kernel_rfl) (aX rfl rfl (au (vs:=(dt m5)) rfl rfl rfl rfl rfl cY zl8 (aw (dn (ae hb2 fun x7 hx7 hb2=>ap [0] [13,14,15] [(16,pB (x7 == 0))] (bR 2 (fb hx7) bL) (by kernel_rfl) (cg rfl hb2 (fun hc8 hb2=>?_) fun hc8 hb2=>?_))))))))))))
   ·refine af ?_
    refine fP [(2,pI 1)] (by kernel_rfl) (aq (iw ?_))
    refine aS hb2 (fun ht=>?_);subst ht
    refine aA (aV ?_)
    exact zz r h rfl
   refine ai ?_
   refine dn (dg (ρd:=[]) [(0,0),(1,0),(2,0),(3,0),(4,0),(5,0),(6,0),(7,0),(8,0),(9,0),(10,0),(11,0),(12,0)] _ (List.Perm.refl _) (by kernel_rfl) rfl (ae hb2 fun m9 hm9 hb2=>dH 13 [0] (rg 17 12) [(29,pB ((decide (0<v1))&&(Op.bytesLess m5.Prefix.toList m9.Prefix.toList||decide (m5.Prefix=m9.Prefix))))] (mY 8 Zk.enc (gq hm9) bL) (by kernel_rfl) (ey (cg rfl hb2 (fun hc10 hb2=>?_) fun hc10 hb2=>?_))))
   ·refine af ?_
    refine fP [(2,pI 9)] (by kernel_rfl) (aq (iw ?_))
    refine aS hb2 (fun ht=>?_);subst ht
    refine aA (aV ?_)
    exact zz r h rfl
   refine ai ?_
   refine du hb2 fun x11 hx11 hb2=>ap [0] [30,31,32] [(5,pI x11)] (bR 2 (gK hx11) bL) (by kernel_rfl) (bM (ah [33] [(34,pB (x11 != 0))] (by kernel_rfl) (cg rfl hb2 (fun hc12 hb2=>?_) fun hc12 hb2=>?_)))
   ·refine af ?_
    refine ah [35] [(2,pI x11)] (by kernel_rfl) (eD (iw ?_))
    refine aS hb2 (fun ht=>?_);subst ht
    refine aA (aV ?_)
    exact zz r h rfl
   refine ai ?_
   refine mn (ah [36] [(8,pI (IntKind.i64.wrap (v1+1)))] (by kernel_rfl) ?_)
   exact bd hb2 () (jt rfl) bX
  refine aR ?_
  refine av (an hb2 (fun ht=>ar rfl ?_))
  exact aG ((),()) oj bX ht.symm
 rintro ⟨_,_⟩ τ hz;(try dsimp only at hz);subst q3;(try dsimp only at h);dsimp only [aD]
 refine af (fP [(2,pI 0)] (by kernel_rfl) ?_)
 exact zz r h rfl
def cP (p0:(List Zc)):Option Int:=cond (decide (8<(p0.length:Int))) (some (8:Int)) ((bf (S:=Int) (T:=(Unit)⊕(_)) (fun v2=>cond (decide (v2<(p0.length:Int))) ((idx p0 v2).bind fun m6=>cond ((((decide (m6.ID<1))||(decide (1000<m6.ID)))||(decide (m6.Kind<1)))||(decide (3<m6.Kind))) (some (.inr (.inr (2:Int)))) ((gd (decide (0<v2)) (idx p0 (IntKind.i64.wrap (v2 - 1)))).bind fun m9=>cond ((decide (0<v2))&&(decide (m6.ID≤m9.ID))) (some (.inr (.inr (9:Int)))) (cond ((decide (12<(m6.Parties.length:Int)))||(decide (12<(m6.Rules.length:Int)))) (some (.inr (.inr (8:Int)))) ((di m6.Parties).bind fun x12=>cond (!x12) (some (.inr (.inr (1:Int)))) ((cX m6.Rules).bind fun x14=>cond (x14 != 0) (some (.inr (.inr x14))) (some (.inl (IntKind.i64.wrap (v2+1))))))))) (some (.inr (.inl ())))) FUEL 0).bind fun q=>match q with | .inl _=>some (0:Int) | .inr e=>some e)
theorem iX {p0:(List Zc)} {r:Int}  (h:cP p0=some r):PF 41 [pL Zc.enc p0] (pI r):=by
 unfold cP at h
 refine br ?_
 refine eW Tryz.func41 rfl Tryz.ntmps41 Tryz.results41 rfl (aU [2] (by kernel_rfl) (dn (ah [6,7] [(8,pB (decide (8<(p0.length:Int))))] (by kernel_rfl) (cg rfl h (fun hc1 h=>?_) fun hc1 h=>?_))))
 ·refine af ?_
  refine fP [(2,pI 8)] (by kernel_rfl) (aq ?_)
  exact zz r h rfl
 refine ai ?_
 refine dn (al [(9,pL Zc.enc p0),(10,pI (p0.length:Int)),(11,pI 0)] (by kernel_rfl) (dN h fun q4 hq4 h=>?_))
 refine az (Y:=Unit×Unit) (fun (_,_)=>[]) (fun (_,_)=>[]) (fun (_,_)=>q4=Sum.inl ()) ?_ ?_
 ·refine aJ ?_
  refine aK (Y:=Unit) (S:=Int) _ hq4 (fun _ v2=>[(0,pL Zc.enc p0),(9,pL Zc.enc p0),(10,pI (p0.length:Int)),(11,pI v2)]) (fun _ v2=>[]) () (jt rfl) bX ?_
  rintro _ v2 o τ hb3;(try dsimp only at hb3);dsimp only [aD]
  refine af (al [(12,pB (decide (v2<(p0.length:Int))))] (by kernel_rfl) (bM (js rfl hb3 (fun hc5 hb3=>?_) fun hc5 hb3=>?_)))
  ·refine ai ?_
   refine bM (gX (ae hb3 fun m6 hm6 hb3=>aa (bm 3 [] [14] [(13,pI v2),(15,.agg (aQ m6))] (fG 1 Zc.enc hm6 bL) (by kernel_rfl) (aj rfl (aT (cs:=[pI 0,pI 0,pN,pN]) rfl rfl rfl rfl (fun b7=>am 1 [(3,pI v2)] (by kernel_rfl) (aX rfl rfl (au (vs:=(aQ m6)) rfl rfl rfl rfl rfl cY Bq (aw (dn (bc [0,0,0,0] (rg 16 17) [(33,pB ((((decide (m6.ID<1))||(decide (1000<m6.ID)))||(decide (m6.Kind<1)))||(decide (3<m6.Kind))))] (by kernel_rfl) (cg rfl hb3 (fun hc8 hb3=>?_) fun hc8 hb3=>?_))))))))))))
   ·refine af ?_
    refine fP [(2,pI 2)] (by kernel_rfl) (aq (iw ?_))
    refine aS hb3 (fun ht=>?_);subst ht
    refine aA (aV ?_)
    exact zz r h rfl
   refine ai ?_
   refine dn (dg (ρd:=[]) [(0,0),(1,0),(2,0),(3,0),(4,0),(5,0),(6,0),(7,0),(8,0),(9,0),(10,0),(11,0),(12,0)] _ (List.Perm.refl _) (by kernel_rfl) rfl (ae hb3 fun m9 hm9 hb3=>dH 13 [0] (rg 34 12) [(46,pB ((decide (0<v2))&&(decide (m6.ID≤m9.ID))))] (mY 8 Zc.enc (gq hm9) bL) (by kernel_rfl) (ey (cg rfl hb3 (fun hc10 hb3=>?_) fun hc10 hb3=>?_))))
   ·refine af ?_
    refine fP [(2,pI 9)] (by kernel_rfl) (aq (iw ?_))
    refine aS hb3 (fun ht=>?_);subst ht
    refine aA (aV ?_)
    exact zz r h rfl
   refine ai ?_
   refine dn (bc [0,0] (rg 47 9) [(56,pB ((decide (12<(m6.Parties.length:Int)))||(decide (12<(m6.Rules.length:Int)))))] (by kernel_rfl) (cg rfl hb3 (fun hc11 hb3=>?_) fun hc11 hb3=>?_))
   ·refine af ?_
    refine fP [(2,pI 8)] (by kernel_rfl) (aq (iw ?_))
    refine aS hb3 (fun ht=>?_);subst ht
    refine aA (aV ?_)
    exact zz r h rfl
   refine ai ?_
   refine dn (ae hb3 fun x12 hx12 hb3=>ap [0] [57,58,59] [(60,pB (!x12))] (bR 2 (kw hx12) bL) (by kernel_rfl) (cg rfl hb3 (fun hc13 hb3=>?_) fun hc13 hb3=>?_))
   ·refine af ?_
    refine fP [(2,pI 1)] (by kernel_rfl) (aq (iw ?_))
    refine aS hb3 (fun ht=>?_);subst ht
    refine aA (aV ?_)
    exact zz r h rfl
   refine ai ?_
   refine du hb3 fun x14 hx14 hb3=>ap [0] [61,62,63] [(5,pI x14)] (bR 2 (j8 hx14) bL) (by kernel_rfl) (bM (ah [64] [(65,pB (x14 != 0))] (by kernel_rfl) (cg rfl hb3 (fun hc15 hb3=>?_) fun hc15 hb3=>?_)))
   ·refine af ?_
    refine ah [66] [(2,pI x14)] (by kernel_rfl) (eD (iw ?_))
    refine aS hb3 (fun ht=>?_);subst ht
    refine aA (aV ?_)
    exact zz r h rfl
   refine ai ?_
   refine mn (ah [67] [(11,pI (IntKind.i64.wrap (v2+1)))] (by kernel_rfl) ?_)
   exact bd hb3 () (jt rfl) bX
  refine aR ?_
  refine av (an hb3 (fun ht=>ar rfl ?_))
  exact aG ((),()) oj bX ht.symm
 rintro ⟨_,_⟩ τ hz;(try dsimp only at hz);subst q4;(try dsimp only at h);dsimp only [aD]
 refine af (fP [(2,pI 0)] (by kernel_rfl) ?_)
 exact zz r h rfl
def dA (p0:Zc) (p1:ByteArray):Option (Ze×Bool):=(bf (S:=Int×Int) (T:=(Int)) (fun (v3,v4)=>cond (decide (v4<(p0.Rules.length:Int))) (((idx p0.Rules v4).bind fun m11=>(cQ p1 m11.Prefix).bind fun x13=>(gd (x13&&(!(decide (v3<0)))) (idx p0.Rules v3)).bind fun m14=>cond (x13&&((decide (v3<0))||(decide ((m14.Prefix.size:Int)<(m11.Prefix.size:Int))))) (some v4) (some v3)).bind fun v9=>some (.inl (v9,(IntKind.i64.wrap (v4+1))))) (some (.inr v3))) FUEL ((-1),0)).bind fun v5=>(gd (!(decide (v5<0))) (idx p0.Rules v5)).bind fun m16=>(gd (!(decide (v5<0))) (eP m16.Rule)).bind fun x17=>cond ((decide (v5<0))||(x17 != 0)) (some ((⟨0,0,[],0,0,ByteArray.empty,[]⟩:Ze),false)) ((idx p0.Rules v5).bind fun m19=>(gF m19.Rule).bind fun x20=>some (x20,true))
theorem jA {p0:Zc} {p1:ByteArray} {r:(Ze×Bool)}  (h:dA p0 p1=some r):PF 88 [.agg (aQ p0),pS p1] (.tup [.agg (aN r.1),pB r.2]):=by
 unfold dA at h
 refine br ?_
 refine eW Tryz.func88 rfl Tryz.ntmps88 Tryz.results88 rfl (aa (aj rfl (bE (cs:=(aQ p0)) rfl rfl (fun b1=>aj rfl (aT (cs:=[pI 0,pI 0,pN,pI 0,pI 0,pS ByteArray.empty,pN]) rfl rfl rfl rfl (fun b2=>bA [5] (by kernel_rfl) (bM (al [(6,pI (-1))] (by kernel_rfl) (dn (bc [1] [9] [(10,pL Zk.enc p0.Rules),(11,pI (p0.Rules.length:Int)),(12,pI 0)] (by kernel_rfl) (dN h fun q7 hq7 h=>?_)))))))))))
 refine az (Y:=Unit×Int) (fun (_,v5)=>[(2,pP b1 0),(4,pP b2 0),(6,pI v5)]) (fun (_,v5)=>[PRes.b b1 95 (aQ p0),PRes.b b2 98 [pI 0,pI 0,pN,pI 0,pI 0,pS ByteArray.empty,pN]]) (fun (_,v5)=>q7=v5) ?_ ?_
 ·refine aJ ?_
  refine aK (Y:=Unit) (S:=Int×Int) _ hq7 (fun _ (v3,v4)=>[(1,pS p1),(2,pP b1 0),(4,pP b2 0),(6,pI v3),(10,pL Zk.enc p0.Rules),(11,pI (p0.Rules.length:Int)),(12,pI v4)]) (fun _ (v3,v4)=>[PRes.b b1 95 (aQ p0),PRes.b b2 98 [pI 0,pI 0,pN,pI 0,pI 0,pS ByteArray.empty,pN]]) () (ol rfl) (aY (ak aC) dM) ?_
  rintro _ ⟨v3,v4⟩ o τ hb6;(try dsimp only at hb6);dsimp only [aD]
  refine af (al [(13,pB (decide (v4<(p0.Rules.length:Int))))] (by kernel_rfl) (bM (js rfl hb6 (fun hc8 hb6=>?_) fun hc8 hb6=>?_)))
  ·refine ai ?_
   refine du hb6 fun q10 hq10 hb6=>?_
   refine az (Y:=Unit×Int) (fun (_,v9)=>[(1,pS p1),(2,pP b1 0),(4,pP b2 0),(6,pI v9),(10,pL Zk.enc p0.Rules),(11,pI (p0.Rules.length:Int)),(12,pI v4)]) (fun (_,v9)=>[PRes.b b1 95 (aQ p0),PRes.b b2 98 [pI 0,pI 0,pN,pI 0,pI 0,pS ByteArray.empty,pN]]) (fun (_,v9)=>q10=v9) ?_ ?_
   ·skip
    refine gX (ae hq10 fun m11 hm11 hq10=>aa (bm 3 [] [15] [(14,pI v4),(16,.agg (dt m11))] (fG 1 Zk.enc hm11 bL) (by kernel_rfl) (aj rfl (aT (cs:=[pS ByteArray.empty,pI 0,pI 0,pN,pI 0,pI 0,pS ByteArray.empty,pN]) rfl rfl rfl rfl (fun b12=>am 1 [(7,pI v4)] (by kernel_rfl) (aX rfl rfl (au (vs:=(dt m11)) rfl rfl rfl rfl rfl cY zl8 (aw (bM (dg (ρd:=[]) [(0,0),(1,0),(2,0),(3,1),(4,0),(5,0),(6,0),(7,0),(8,0),(9,0),(10,0),(11,0),(12,0),(13,0),(14,0),(15,0),(16,0),(17,0),(18,0),(19,0),(20,0)] _ (List.Perm.refl _) (by kernel_rfl) rfl (ae hq10 fun x13 hx13 hq10=>ae hq10 fun m14 hm14 hq10=>dH 21 [0,0,1] (rg 17 20) [(37,pB (x13&&((decide (v3<0))||(decide ((m14.Prefix.size:Int)<(m11.Prefix.size:Int))))))] (bR 3 (gE hx13) (mY 14 Zk.enc (gq hm14) bL)) (by kernel_rfl) (ey (cg rfl hq10 (fun hc15 hq10=>?_) fun hc15 hq10=>?_)))))))))))))
    ·refine ah [38] [(6,pI v4)] (by kernel_rfl) ?_
     refine aH ?_
     obtain rfl:=osi hq10
     exact aG ((),v4) (ol rfl) (aY (ak aC) (aY (ak aC) bX)) rfl
    refine ai ?_
    refine aH ?_
    obtain rfl:=osi hq10
    exact aG ((),v3) (ol rfl) (aY (ak aC) (aY (ak aC) bX)) rfl
   rintro ⟨_,v9⟩ τ hz;(try dsimp only at hz);subst q10;(try dsimp only at hb6);dsimp only [aD]
   refine ah [39] [(12,pI (IntKind.i64.wrap (v4+1)))] (by kernel_rfl) ?_
   exact bd hb6 () (ol rfl) py
  refine aR ?_
  refine av (an hb6 (fun ht=>ar rfl ?_))
  exact aG ((),v3) (zH rfl) py ht.symm
 rintro ⟨_,v5⟩ τ hz;(try dsimp only at hz);subst q7;(try dsimp only at h);dsimp only [aD]
 refine af (af (ae h fun m16 hm16 h=>ae h fun x17 hx17 h=>ap [0] (rg 40 11) [(51,pB ((decide (v5<0))||(x17 != 0)))] (mY 6 Zk.enc (gq hm16) (gC 9 (fun hc=>gK (gq hx17 hc)) bL)) (by kernel_rfl) (cg rfl h (fun hc18 h=>?_) fun hc18 h=>?_)))
 ·refine af ?_
  refine aa (am 1 [(52,.agg [pI 0,pI 0,pN,pI 0,pI 0,pS ByteArray.empty,pN])] (by kernel_rfl) (aX rfl rfl (au (vs:=[pI 0,pI 0,pN,pI 0,pI 0,pS ByteArray.empty,pN]) rfl rfl rfl rfl rfl (de cY) om (aM [(5,pB false)] (by kernel_rfl) (aL (eV (k:=2) (b:=b2) rfl (de cY) (eV (k:=6) (b:=b2) rfl (de cY) (bS (aq ?_)))))))))
  obtain rfl:=osi h
  exact aO (ec (gB rfl uV rfl) (aP rfl)) bX ⟨rfl,rfl⟩
 refine ai ?_
 refine du h fun m19 hm19 h=>ae h fun x20 hx20 h=>aa (bm 7 [0] (rg 53 6) [(59,.agg (aN x20))] (fG 3 Zk.enc hm19 (bR 6 (lJ hx20) bL)) (by kernel_rfl) (aX rfl rfl (au (vs:=(aN x20)) rfl rfl rfl rfl rfl (de cY) om (aM [(5,pB true)] (by kernel_rfl) (eD ?_)))))
 obtain rfl:=osi h
 exact aO (ec (gB rfl uV rfl) (aP rfl)) bX ⟨rfl,rfl⟩
def bZ (p0:(List Zb)) (p1:(List Zc)) (p2:ByteArray) (p3:Za):Option Bool:=(cI p0 p3.Product).bind fun x2=>cond (!x2.2) (some false) ((dG p1 p3.Agreement).bind fun x5=>(gd (!((!x5.2)||(decide (x2.1.Country=p2)))) (cS x5.1 x2.1.Country p2)).bind fun x7=>cond (((!x5.2)||(decide (x2.1.Country=p2)))||(!x7)) (some false) ((dA x5.1 x2.1.Code).bind fun x9=>some x9.2))
theorem hY {p0:(List Zb)} {p1:(List Zc)} {p2:ByteArray} {p3:Za} {r:Bool}  (h:bZ p0 p1 p2 p3=some r):PF 78 [pL Zb.enc p0,pL Zc.enc p1,pS p2,.agg [pI p3.Product,pI p3.Agreement]] (pB r):=by
 unfold bZ at h
 refine br ?_
 refine eW Tryz.func78 rfl Tryz.ntmps78 Tryz.results78 rfl (aa (aj rfl (bE (cs:=[pI p3.Product,pI p3.Agreement]) rfl rfl (fun b1=>bA [8] (by kernel_rfl) (du h fun x2 hx2 h=>aa (bm 7 [0] [13,14,15,16,12] [(17,.agg (aZ x2.1)),(18,pB x2.2)] (bR 3 (fZ hx2) bL) (by kernel_rfl) (aj rfl (aT (cs:=[pI 0,pS ByteArray.empty,pS ByteArray.empty,pI 0,pB false,pN,pN]) rfl rfl rfl rfl (fun b3=>aX rfl rfl (au (vs:=(aZ x2.1)) rfl rfl rfl rfl rfl cY om (aM [(10,pB x2.2)] (by kernel_rfl) (dn (ah [19] [(20,pB (!x2.2))] (by kernel_rfl) (cg rfl h (fun hc4 h=>?_) fun hc4 h=>?_))))))))))))))
 ·refine af ?_
  refine fP [(8,pB false)] (by kernel_rfl) (aq ?_)
  exact zz r h rfl
 refine ai ?_
 refine du h fun x5 hx5 h=>aa (bm 7 [1] [22,23,24,25,21] [(26,.agg (aQ x5.1)),(27,pB x5.2)] (bR 3 (im hx5) bL) (by kernel_rfl) (aj rfl (aT (cs:=[pI 0,pI 0,pN,pN]) rfl rfl rfl rfl (fun b6=>aX rfl rfl (au (vs:=(aQ x5.1)) rfl rfl rfl rfl rfl cY Bq (aM [(10,pB x5.2)] (by kernel_rfl) (dn (ae h fun x7 hx7 h=>ap [1,0,1] (rg 28 15) [(43,pB (((!x5.2)||(decide (x2.1.Country=p2)))||(!x7)))] (gC 13 (fun hc=>hC (gq hx7 hc)) bL) (by kernel_rfl) (cg rfl h (fun hc8 h=>?_) fun hc8 h=>?_)))))))))
 ·refine af ?_
  refine fP [(8,pB false)] (by kernel_rfl) (aq ?_)
  exact zz r h rfl
 refine ai ?_
 refine du h fun x9 hx9 h=>ap [0,1] [45,46,47,48,44,49,50] [(10,pB x9.2)] (bR 3 (jA hx9) bL) (by kernel_rfl) (bM (ah [51] [(8,pB x9.2)] (by kernel_rfl) (eD ?_)))
 exact zz r h rfl
def eA (p0:Zk) (p1:Zk):Option Bool:=(gd (decide (p0.Prefix=p1.Prefix)) (eP p0.Rule)).bind fun x3=>(gd ((decide (p0.Prefix=p1.Prefix))&&(x3 == 0)) (gG p0.Rule p1.Rule)).bind fun x4=>some (((decide (p0.Prefix=p1.Prefix))&&(x3 == 0))&&x4)
theorem kB {p0:Zk} {p1:Zk} {r:Bool}  (h:eA p0 p1=some r):PF 156 [.agg (dt p0),.agg (dt p1)] (pB r):=by
 unfold eA at h
 refine br ?_
 refine eW Tryz.func156 rfl Tryz.ntmps156 Tryz.results156 rfl (aa (aj rfl (bE (cs:=(dt p0)) rfl rfl (fun b1=>aj rfl (bE (cs:=(dt p1)) rfl rfl (fun b2=>bA [4] (by kernel_rfl) (du h fun x3 hx3 h=>ae h fun x4 hx4 h=>ap [1,0,1,1,0] (rg 5 18) [(4,pB (((decide (p0.Prefix=p1.Prefix))&&(x3 == 0))&&x4))] (gC 8 (fun hc=>gK (gq hx3 hc)) (gC 16 (fun hc=>lK (gq hx4 hc)) bL)) (by kernel_rfl) (eD ?_))))))))
 exact zz r h rfl
def dP (p0:(List Zk)) (p1:(List Zk)):Option Bool:=(be p0 p1 (fun y1 y2=>eA y1 y2)).bind fun x3=>some x3
theorem ln {p0:(List Zk)} {p1:(List Zk)} {r:Bool}  (h:dP p0 p1=some r):PF 122 [pL Zk.enc p0,pL Zk.enc p1] (pB r):=by
 unfold dP at h
 refine br ?_
 refine eW Tryz.func122 rfl Tryz.ntmps122 Tryz.results122 rfl (aU [4] (by kernel_rfl) (du h fun x3 hx3 h=>ap [] [5,6,7] [(4,pB x3)] (bR 2 (cZ (fun hr=>nP (kB hr)) hx3) bL) (by kernel_rfl) (eD ?_)))
 exact zz r h rfl
def dD (p0:(List Zc)) (p1:Int) (p2:ByteArray) (p3:ByteArray):Option (List Int):=(dG p0 p1).bind fun x1=>cond (!x1.2) (some []) (cond (x1.1.Kind != 2) (some [p1]) ((bf (S:=(List Int)×Int) (T:=((List Int))) (fun (l8,v11)=>cond (decide (v11<(p0.length:Int))) (((idx p0 v11).bind fun m24=>(gd (m24.ID != p1) (cS m24 p2 p3)).bind fun x26=>(gd ((m24.ID != p1)&&x26) (dP x1.1.Rules m24.Rules)).bind fun x27=>cond (((m24.ID != p1)&&x26)&&x27) ((app 8 l8 [m24.ID]).bind fun l31=>some l31) (some l8)).bind fun l22=>some (.inl (l22,(IntKind.i64.wrap (v11+1))))) (some (.inr l8))) FUEL ([p1],0)).bind fun l15=>some l15))
theorem mv {p0:(List Zc)} {p1:Int} {p2:ByteArray} {p3:ByteArray} {r:(List Int)}  (h:dD p0 p1 p2 p3=some r):PF 81 [pL Zc.enc p0,pI p1,pS p2,pS p3] (pL eI r):=by
 unfold dD at h
 refine br ?_
 refine eW Tryz.func81 rfl Tryz.ntmps81 Tryz.results81 rfl (aU [8] (by kernel_rfl) (du h fun x1 hx1 h=>aa (bm 6 [] [15,16,17,14] [(18,.agg (aQ x1.1)),(19,pB x1.2)] (bR 2 (im hx1) bL) (by kernel_rfl) (aj rfl (aT (cs:=[pI 0,pI 0,pN,pN]) rfl rfl rfl rfl (fun b2=>aX rfl rfl (au (vs:=(aQ x1.1)) rfl rfl rfl rfl rfl cY Bq (aM [(10,pB x1.2)] (by kernel_rfl) (dn (ah [20] [(21,pB (!x1.2))] (by kernel_rfl) (cg rfl h (fun hc3 h=>?_) fun hc3 h=>?_)))))))))))
 ·refine af ?_
  refine al [(8,pN)] (by kernel_rfl) (aL (jU 8 rfl (bS (aq ?_))))
  exact zz r h rfl
 refine ai ?_
 refine bM (aa (am 1 [(22,pI p1)] (by kernel_rfl) (aj rfl (bG rfl rfl rfl rfl rfl (fL rfl jr) rfl rfl rfl rfl (fun b4=>aM [(11,pO (some ⟨b4,0,none⟩) 1 1)] (by kernel_rfl) (dn (bc [1] [24,25] [(26,pB (x1.1.Kind != 2))] (by kernel_rfl) (cg rfl h (fun hc6 h=>?_) fun hc6 h=>?_))))))))
 ·refine af ?_
  refine ah [27] [(8,pO (some ⟨b4,0,none⟩) 1 1)] (by kernel_rfl) (aL ?_)
  refine fk (enc:=eI) (xs:=[p1]) 8 rfl (by exact aC) ?_
  refine bS (aq ?_)
  exact zz r h rfl
 refine ai ?_
 refine dn (al [(28,pL Zc.enc p0),(29,pI (p0.length:Int)),(30,pI 0)] (by kernel_rfl) (dN h fun q17 hq17 h=>?_))
 refine az (Y:=(Option Addr×Nat)×((List Int))) (fun ((a13,c14),l15)=>[(11,pO a13 l15.length c14)]) (fun ((a13,c14),l15)=>[PRes.row a13 l15.length c14 3 1 (List.map eI l15)]) (fun ((a13,c14),l15)=>q17=l15) ?_ ?_
 ·refine aJ ?_
  refine aK (Y:=Option Addr×Nat) (S:=(List Int)×Int) _ hq17 (fun (a9,c10) (l8,v11)=>[(1,pI p1),(2,pS p2),(3,pS p3),(9,pP b2 0),(11,pO a9 l8.length c10),(28,pL Zc.enc p0),(29,pI (p0.length:Int)),(30,pI v11)]) (fun (a9,c10) (l8,v11)=>[PRes.b b2 95 (aQ x1.1),PRes.row a9 l8.length c10 3 1 (List.map eI l8)]) ((some ⟨b4,0,none⟩),1) (nH rfl) (aY (ak aC) dM) ?_
  rintro ⟨a9,c10⟩ ⟨l8,v11⟩ o τ hb16;(try dsimp only at hb16);dsimp only [aD]
  refine af (al [(31,pB (decide (v11<(p0.length:Int))))] (by kernel_rfl) (bM (js rfl hb16 (fun hc18 hb16=>?_) fun hc18 hb16=>?_)))
  ·refine ai ?_
   refine du hb16 fun q23 hq23 hb16=>?_
   refine az (Y:=(Option Addr×Nat)×((List Int))) (fun ((a20,c21),l22)=>[(1,pI p1),(2,pS p2),(3,pS p3),(9,pP b2 0),(11,pO a20 l22.length c21),(28,pL Zc.enc p0),(29,pI (p0.length:Int)),(30,pI v11)]) (fun ((a20,c21),l22)=>[PRes.b b2 95 (aQ x1.1),PRes.row a20 l22.length c21 3 1 (List.map eI l22)]) (fun ((a20,c21),l22)=>q23=l22) ?_ ?_
   ·skip
    refine gX (ae hq23 fun m24 hm24 hq23=>aa (bm 2 [] [32] [(33,.agg (aQ m24))] (fG 0 Zc.enc hm24 bL) (by kernel_rfl) (aj rfl (aT (cs:=[pI 0,pI 0,pN,pN]) rfl rfl rfl rfl (fun b25=>aX rfl rfl (au (vs:=(aQ m24)) rfl rfl rfl rfl rfl cY Bq (aw (du hq23 fun x26 hx26 hq23=>ae hq23 fun x27 hx27 hq23=>ap [0,0,1,0] (rg 34 16) [(50,pB (((m24.ID != p1)&&x26)&&x27))] (gC 8 (fun hc=>hC (gq hx26 hc)) (gC 15 (fun hc=>ln (gq hx27 hc)) bL)) (by kernel_rfl) (cg rfl hq23 (fun hc28 hq23=>?_) fun hc28 hq23=>?_)))))))))
    ·refine aa ?_
     refine cq 3 [0] [52] [(51,pO a9 l8.length c10),(53,pI m24.ID)] (by kernel_rfl) (aj rfl (bG rfl rfl rfl rfl rfl (fL rfl jr) rfl rfl rfl rfl (fun b29=>ae hq23 fun l31 hl31 hq23=>?_)))
     refine aj rfl (bP (enc:=eI) rfl rfl rfl rfl rfl rfl rfl rfl rfl fF (by exact ak (ak (ak aC))) hl31 (fun a32 c33=>?_))
     refine aM [(11,pO a32 l31.length c33)] (by kernel_rfl) (aH ?_)
     obtain rfl:=osi hq23
     exact aG ((a32,c33),l31) (nH rfl) (aY (ak (ak (ak aC))) dM) rfl
    refine ai ?_
    refine aH ?_
    obtain rfl:=osi hq23
    exact aG ((a9,c10),l8) (nH rfl) (aY (ak aC) (aY (ak aC) bX)) rfl
   rintro ⟨⟨a20,c21⟩,l22⟩ τ hz;(try dsimp only at hz);subst q23;(try dsimp only at hb16);dsimp only [aD]
   refine ah [56] [(30,pI (IntKind.i64.wrap (v11+1)))] (by kernel_rfl) ?_
   exact bd hb16 (a20,c21) (nH rfl) py
  refine aR ?_
  refine av (an hb16 (fun ht=>ar rfl ?_))
  exact aG ((a9,c10),l8) (xj rfl) (aY (ak aC) bX) ht.symm
 rintro ⟨⟨a13,c14⟩,l15⟩ τ hz;(try dsimp only at hz);subst q17;(try dsimp only at h);dsimp only [aD]
 refine af (ah [57] [(8,pO a13 l15.length c14)] (by kernel_rfl) (aL ?_))
 refine fk (enc:=eI) (xs:=l15) 8 rfl (by exact aC) ?_
 refine bS ?_
 exact zz r h rfl
def iC (p0:(List ByteArray)) (p1:(List ByteArray)):Option (List ByteArray):=(cu [p0,p1]).bind fun x3=>(gO x3).bind fun x7=>(da x7).bind fun x8=>some x8
theorem rL {p0:(List ByteArray)} {p1:(List ByteArray)} {r:(List ByteArray)}  (h:iC p0 p1=some r):PF 124 [pL eS p0,pL eS p1] (pL eS r):=by
 unfold iC at h
 refine br ?_
 refine eW Tryz.func124 rfl Tryz.ntmps124 Tryz.results124 rfl (aU [4] (by kernel_rfl) (bM (aa (am 2 [(6,pL eS p0),(7,pL eS p1)] (by kernel_rfl) (aj rfl (bG rfl rfl rfl rfl rfl (fL rfl (fL rfl jr)) rfl rfl rfl rfl (fun b1=>?_)))))))
 refine eH (enc:=(eL eS)) (xs:=[p0,p1]) 8 rfl (by exact aC) ?_
 refine ae h fun x3 hx3 h=>?_
 refine aj rfl (aW rfl rfl (ρ1:=[]) (List.Perm.refl _) (jm hx3) ?_);rintro _ _ ⟨a4,c5,rfl,rfl⟩
 refine aM [(5,pO a4 x3.length c5)] (by kernel_rfl) (du h fun x7 hx7 h=>aa (am 1 [(10,pO a4 x3.length c5)] (by kernel_rfl) ?_))
 refine aj rfl (aW rfl rfl (ρ1:=[_]) (aF (by exact aC) (List.Perm.refl _)) (jJ hx7) ?_);rintro _ _ ⟨rfl,rfl⟩
 refine aw (du h fun x8 hx8 h=>aa (am 1 [(12,pO a4 x3.length c5)] (by kernel_rfl) ?_))
 refine aj rfl (aW rfl rfl (ρ1:=[_]) (aF (by exact aC) (List.Perm.refl _)) (i9 hx8) ?_);rintro _ _ ⟨a9,c10,rfl,rfl⟩
 refine aM [(4,pO a9 x8.length c10)] (by kernel_rfl) (aL ?_)
 refine fk (enc:=eS) (xs:=x8) 4 rfl (by exact aC) ?_
 refine bS ?_
 exact zz r h rfl
def eC (p0:(List Zb)) (p1:Zc) (p2:Zb) (p3:Zs):Option ((List Zd)×(List ByteArray)):=(bJ p2.Processes).bind fun x4=>(bf (S:=(List Zd)×(List ByteArray)×Int) (T:=((List Zd)×(List ByteArray))) (fun (l9,l12,v13)=>cond (decide (v13<(p2.Inputs.length:Int))) (((idx p2.Inputs v13).bind fun m29=>(cI p0 m29.Product).bind fun x31=>(gd (p1.Kind == 3) (bz p1.Parties x31.1.Country)).bind fun x33=>Option.bind (cond ((p1.Kind == 3)&&x33) ((iC l12 x31.1.Processes).bind fun x38=>some x38) (some l12)) (fun l35=>(ce p3 x31.1 m29.Value).bind fun x39=>cond (((Zd.is_proved_ x39)||(!((p1.Kind == 3)&&x33)))||((x31.1.Inputs.length:Int) == 0)) ((app 16 l9 [x39]).bind fun l44=>some (l44,l35)) ((bf (S:=(List Zd)×Int) (T:=((List Zd))) (fun (l49,v52)=>cond (decide (v52<(x31.1.Inputs.length:Int))) ((idx x31.1.Inputs v52).bind fun m60=>(cI p0 m60.Product).bind fun x62=>(eY m29.Value m60.Value x31.1.Price).bind fun x64=>(ce p3 x62.1 x64).bind fun x65=>(app 16 l49 [x65]).bind fun l68=>some (.inl (l68,(IntKind.i64.wrap (v52+1))))) (some (.inr l49))) FUEL (l9,0)).bind fun l56=>some (l56,l35)))).bind fun (l26,l27)=>some (.inl (l26,l27,(IntKind.i64.wrap (v13+1))))) (some (.inr (l9,l12)))) FUEL (([]:List Zd),x4,0)).bind fun (l17,l18)=>(sub l18 0 (ji (l18.length:Int) 8)).bind fun l73=>some (l17,l73)
theorem np {p0:(List Zb)} {p1:Zc} {p2:Zb} {p3:Zs} {m3_set_:Nat} {r:((List Zd)×(List ByteArray))}  (h:eC p0 p1 p2 p3=some r):PCall 82 [pL Zb.enc p0,.agg (aQ p1),.agg (aZ p2),.agg [pL eI p3.partners,.v (.map (some m3_set_))]] [PRes.mp (some m3_set_) (gW Za.key vT p3.set_)] (fun pv ρ'=>pv=.tup [pL Zd.enc r.1,pL eS r.2]∧ρ'=[PRes.mp (some m3_set_) (gW Za.key vT p3.set_)]):=by
 unfold eC at h
 refine eW Tryz.func82 rfl Tryz.ntmps82 Tryz.results82 rfl (aa (aj rfl (bE (cs:=(aQ p1)) rfl rfl (fun b1=>aj rfl (bE (cs:=(aZ p2)) rfl rfl (fun b2=>aj rfl (bE (cs:=[pL eI p3.partners,.v (.map (some m3_set_))]) rfl rfl (fun b3=>bA [8,9] (by kernel_rfl) (bM (al [(10,pN)] (by kernel_rfl) (du h fun x4 hx4 h=>aa (cq 2 [1] [24] [(25,pL eS p2.Processes)] (by kernel_rfl) ?_))))))))))))
 refine aj rfl (aW rfl rfl (ρ1:=[]) (List.Perm.refl _) (ef hx4) ?_);rintro _ _ ⟨a5,c6,rfl,rfl⟩
 refine aM [(11,pO a5 x4.length c6)] (by kernel_rfl) (dn (bc [2] [27] [(28,pL Zf.enc p2.Inputs),(29,pI (p2.Inputs.length:Int)),(30,pI 0)] (by kernel_rfl) (aL (bI 174 1 ?_))))
 refine fk (enc:=eS) (xs:=x4) 11 rfl (by exact ak aC) ?_
 refine ae h fun q20 hq20 h=>?_
 refine az (Y:=(Option Addr×Nat)×((List Zd)×(List ByteArray))) (fun ((a15,c16),(l17,l18))=>[(10,pO a15 l17.length c16),(11,pL eS l18)]) (fun ((a15,c16),(l17,l18))=>[PRes.mp (some m3_set_) (gW Za.key vT p3.set_),PRes.row a15 l17.length c16 174 1 (List.map Zd.enc l17)]) (fun ((a15,c16),(l17,l18))=>q20=(l17,l18)) ?_ ?_
 ·refine aJ ?_
  refine aK (Y:=Option Addr×Nat) (S:=(List Zd)×(List ByteArray)×Int) _ hq20 (fun (a10,c11) (l9,l12,v13)=>[(0,pL Zb.enc p0),(5,pP b1 0),(7,pP b3 0),(10,pO a10 l9.length c11),(11,pL eS l12),(28,pL Zf.enc p2.Inputs),(29,pI (p2.Inputs.length:Int)),(30,pI v13)]) (fun (a10,c11) (l9,l12,v13)=>[PRes.b b1 95 (aQ p1),PRes.b b3 169 [pL eI p3.partners,.v (.map (some m3_set_))],PRes.mp (some m3_set_) (gW Za.key vT p3.set_),PRes.row a10 l9.length c11 174 1 (List.map Zd.enc l9)]) (none,0) (nH rfl) (aY (ak (ak (ak (ak aC)))) (aY (ak (ak aC)) (aY (ak (ak (ak aC))) (aY (ak aC) bX)))) ?_
  rintro ⟨a10,c11⟩ ⟨l9,l12,v13⟩ o τ hb19;(try dsimp only at hb19);dsimp only [aD]
  refine af (al [(31,pB (decide (v13<(p2.Inputs.length:Int))))] (by kernel_rfl) (bM (js rfl hb19 (fun hc22 hb19=>?_) fun hc22 hb19=>?_)))
  ·refine ai ?_
   refine du hb19 fun q28 hq28 hb19=>?_
   refine az (Y:=(Option Addr×Nat)×((List Zd)×(List ByteArray))) (fun ((a24,c25),(l26,l27))=>[(0,pL Zb.enc p0),(5,pP b1 0),(7,pP b3 0),(10,pO a24 l26.length c25),(11,pL eS l27),(28,pL Zf.enc p2.Inputs),(29,pI (p2.Inputs.length:Int)),(30,pI v13)]) (fun ((a24,c25),(l26,l27))=>[PRes.b b1 95 (aQ p1),PRes.b b3 169 [pL eI p3.partners,.v (.map (some m3_set_))],PRes.mp (some m3_set_) (gW Za.key vT p3.set_),PRes.row a24 l26.length c25 174 1 (List.map Zd.enc l26)]) (fun ((a24,c25),(l26,l27))=>q28=(l26,l27)) ?_ ?_
   ·skip
    refine gX (ae hq28 fun m29 hm29 hq28=>aa (bm 2 [] [32] [(33,.agg [pI m29.Product,pI m29.Value])] (fG 0 Zf.enc hm29 bL) (by kernel_rfl) (aj rfl (aT (cs:=[pI 0,pI 0]) rfl rfl rfl rfl (fun b30=>aX rfl rfl (au (vs:=[pI m29.Product,pI m29.Value]) rfl rfl rfl rfl rfl cY Bp (aw (du hq28 fun x31 hx31 hq28=>aa (bm 7 [0] [35,36,37,38,34] [(39,.agg (aZ x31.1)),(40,pB x31.2)] (bR 3 (fZ hx31) bL) (by kernel_rfl) (aj rfl (aT (cs:=[pI 0,pS ByteArray.empty,pS ByteArray.empty,pI 0,pB false,pN,pN]) rfl rfl rfl rfl (fun b32=>aX rfl rfl (au (vs:=(aZ x31.1)) rfl rfl rfl rfl rfl cY om (bA [15] (by kernel_rfl) (du hq28 fun x33 hx33 hq28=>ap [2,2,0] (rg 41 10) [(16,pB ((p1.Kind == 3)&&x33))] (gC 8 (fun hc=>cr (gq hx33 hc)) bL) (by kernel_rfl) (dn (al [(51,pB ((p1.Kind == 3)&&x33))] (by kernel_rfl) (dN hq28 fun q36 hq36 hq28=>?_))))))))))))))))))
    refine az (Y:=Unit×((List ByteArray))) (fun (_,l35)=>[(0,pL Zb.enc p0),(5,pP b1 0),(7,pP b3 0),(10,pO a10 l9.length c11),(11,pL eS l35),(13,pP b30 0),(14,pP b32 0),(16,pB ((p1.Kind == 3)&&x33)),(28,pL Zf.enc p2.Inputs),(29,pI (p2.Inputs.length:Int)),(30,pI v13)]) (fun (_,l35)=>[PRes.b b1 95 (aQ p1),PRes.b b3 169 [pL eI p3.partners,.v (.map (some m3_set_))],PRes.b b30 54 [pI m29.Product,pI m29.Value],PRes.b b32 52 (aZ x31.1),PRes.mp (some m3_set_) (gW Za.key vT p3.set_),PRes.row a10 l9.length c11 174 1 (List.map Zd.enc l9)]) (fun (_,l35)=>q36=l35) ?_ ?_
    ·skip
     refine js rfl hq36 (fun hc37 hq36=>?_) fun hc37 hq36=>?_
     ·refine ae hq36 ?_;clear hq36;intro x38 hx38 hq36
      refine ap [0] [52,53,54,55] [(11,pL eS x38)] (bR 3 (rL hx38) bL) (by kernel_rfl) ?_
      obtain rfl:=osi hq36
      exact aG ((),x38) (gP rfl (gP rfl (Ay rfl))) (aY (ak (ak aC)) (aY (ak (ak aC)) (aY (ak aC) zs3))) rfl
     refine ai ?_
     obtain rfl:=osi hq36
     exact aG ((),l12) (gP rfl (gP rfl (Ay rfl))) (aY (ak (ak aC)) (aY (ak (ak aC)) (aY (ak aC) zs3))) rfl
    rintro ⟨_,l35⟩ τ hz;(try dsimp only at hz);subst q36;(try dsimp only at hq28);dsimp only [aD]
    refine af (ae hq28 fun x39 hx39 hq28=>aa (cq 4 [1,3,2] [58] [(56,.agg [pL eI p3.partners,.v (.map (some m3_set_))]),(57,.agg (aZ x31.1)),(59,pI m29.Value)] (by kernel_rfl) ?_))
    refine aj rfl (aW rfl rfl (ρ1:=[_]) (aF (by exact ak (ak (ak (ak aC)))) (List.Perm.refl _)) (gu hx39) ?_);rintro _ _ ⟨rfl,rfl⟩
    refine aM [(17,Zd.pv x39)] (by kernel_rfl) (dn (aa (bm 5 [] [62,63,61] [(64,.agg [pS ((((Zd.as_proved_ x39)).use).Code),pI ((((Zd.as_proved_ x39)).use).Value),pB ((((Zd.as_proved_ x39)).use).Originating),pI ((((Zd.as_proved_ x39)).premise).Product),pI ((((Zd.as_proved_ x39)).premise).Agreement)]),(65,pB (Zd.is_proved_ x39))] (fota 1 (Zd.ta_proved_ x39) bL) (by kernel_rfl) (aj rfl (aT (cs:=[pS ByteArray.empty,pI 0,pB false,pI 0,pI 0]) rfl rfl rfl rfl (fun b40=>aX rfl rfl (au (vs:=[pS ((((Zd.as_proved_ x39)).use).Code),pI ((((Zd.as_proved_ x39)).use).Value),pB ((((Zd.as_proved_ x39)).use).Originating),pI ((((Zd.as_proved_ x39)).premise).Product),pI ((((Zd.as_proved_ x39)).premise).Agreement)]) rfl rfl rfl rfl rfl cY zl5 (aM [(19,pB (Zd.is_proved_ x39))] (by kernel_rfl) (bM (bc [5] (rg 66 10) [(76,pB (((Zd.is_proved_ x39)||(!((p1.Kind == 3)&&x33)))||((x31.1.Inputs.length:Int) == 0)))] (by kernel_rfl) (cg rfl hq28 (fun hc41 hq28=>?_) fun hc41 hq28=>?_)))))))))))
    ·refine af ?_
     refine aa (am 2 [(77,pO a10 l9.length c11),(78,Zd.pv x39)] (by kernel_rfl) (aj rfl (bG rfl rfl rfl rfl rfl (fL rfl jr) rfl rfl rfl rfl (fun b42=>ae hq28 fun l44 hl44 hq28=>?_))))
     refine aj rfl (bP (enc:=Zd.enc) rfl rfl rfl rfl rfl rfl rfl rfl rfl fF (by exact ak (ak (ak (ak (ak (ak (ak aC))))))) hl44 (fun a45 c46=>?_))
     refine aM [(10,pO a45 l44.length c46)] (by kernel_rfl) (aL (aR (av (ar rfl ?_))))
     obtain rfl:=osi hq28
     exact aG ((a45,c46),(l44,l35)) (nH rfl) (aY (ak (ak (ak (ak aC)))) (aY (ak (ak (ak (ak aC)))) (aY (ak (ak (ak aC))) dM))) rfl
    refine ai ?_
    refine bM (bc [5] [81] [(82,pL Zf.enc x31.1.Inputs),(83,pI (x31.1.Inputs.length:Int)),(84,pI 0)] (by kernel_rfl) (dN hq28 fun q58 hq58 hq28=>?_))
    refine ki (Y:=(Option Addr×Nat)×((List Zd))) (fun ((a54,c55),l56)=>[(0,pL Zb.enc p0),(5,pP b1 0),(7,pP b3 0),(10,pO a54 l56.length c55),(11,pL eS l35),(28,pL Zf.enc p2.Inputs),(29,pI (p2.Inputs.length:Int)),(30,pI v13)]) (fun ((a54,c55),l56)=>[PRes.b b1 95 (aQ p1),PRes.b b3 169 [pL eI p3.partners,.v (.map (some m3_set_))],PRes.mp (some m3_set_) (gW Za.key vT p3.set_),PRes.row a54 l56.length c55 174 1 (List.map Zd.enc l56)]) (fun ((a54,c55),l56)=>q58=l56) ?_ ?_
    ·refine aJ ?_
     refine aK (Y:=Option Addr×Nat) (S:=(List Zd)×Int) _ hq58 (fun (a50,c51) (l49,v52)=>[(0,pL Zb.enc p0),(5,pP b1 0),(7,pP b3 0),(10,pO a50 l49.length c51),(11,pL eS l35),(13,pP b30 0),(14,pP b32 0),(28,pL Zf.enc p2.Inputs),(29,pI (p2.Inputs.length:Int)),(30,pI v13),(82,pL Zf.enc x31.1.Inputs),(83,pI (x31.1.Inputs.length:Int)),(84,pI v52)]) (fun (a50,c51) (l49,v52)=>[PRes.b b1 95 (aQ p1),PRes.b b3 169 [pL eI p3.partners,.v (.map (some m3_set_))],PRes.b b30 54 [pI m29.Product,pI m29.Value],PRes.b b32 52 (aZ x31.1),PRes.mp (some m3_set_) (gW Za.key vT p3.set_),PRes.row a50 l49.length c51 174 1 (List.map Zd.enc l49)]) (a10,c11) (gP rfl (gP rfl (gP rfl (gP rfl (Ay rfl))))) (aY (ak (ak aC)) (aY (ak (ak aC)) (aY (ak (ak aC)) (aY (ak (ak aC)) (aY (ak aC) (aY (ak aC) bX)))))) ?_
     rintro ⟨a50,c51⟩ ⟨l49,v52⟩ o τ hb57;(try dsimp only at hb57);dsimp only [aD]
     refine af (al [(85,pB (decide (v52<(x31.1.Inputs.length:Int))))] (by kernel_rfl) (bM (js rfl hb57 (fun hc59 hb57=>?_) fun hc59 hb57=>?_)))
     ·refine ai ?_
      refine bM (gX (ae hb57 fun m60 hm60 hb57=>aa (bm 2 [] [86] [(87,.agg [pI m60.Product,pI m60.Value])] (fG 0 Zf.enc hm60 bL) (by kernel_rfl) (aj rfl (aT (cs:=[pI 0,pI 0]) rfl rfl rfl rfl (fun b61=>aX rfl rfl (au (vs:=[pI m60.Product,pI m60.Value]) rfl rfl rfl rfl rfl cY Bp (aw (du hb57 fun x62 hx62 hb57=>aa (bm 7 [0] [89,90,91,92,88] [(93,.agg (aZ x62.1)),(94,pB x62.2)] (bR 3 (fZ hx62) bL) (by kernel_rfl) (aj rfl (aT (cs:=[pI 0,pS ByteArray.empty,pS ByteArray.empty,pI 0,pB false,pN,pN]) rfl rfl rfl rfl (fun b63=>aX rfl rfl (au (vs:=(aZ x62.1)) rfl rfl rfl rfl rfl cY om (bA [23] (by kernel_rfl) (aL (dg (ρd:=[PRes.mp (some m3_set_) _,PRes.row a50 _ _ _ _ _]) [(0,0),(1,0),(2,0),(3,0),(4,0),(5,0),(6,0),(7,0),(8,0),(9,1),(10,1),(11,1),(12,1),(13,0)] _ (aF (ak (ak (ak (ak (ak (ak aC)))))) (aF (ak (ak (ak (ak (ak (ak aC)))))) (List.Perm.refl _))) (by kernel_rfl) rfl (ae hb57 fun x64 hx64 hb57=>ae hb57 fun x65 hx65 hb57=>dH 10 [3,0,4,1,5] (rg 98 6) [(95,pO a50 l49.length c51),(96,.agg [pL eI p3.partners,.v (.map (some m3_set_))]),(97,.agg (aZ x62.1)),(104,pI x64)] (bR 9 (mL hx64) bL) (by kernel_rfl) ?_))))))))))))))))))
      refine mX rfl rfl rfl (aW rfl rfl (ρ1:=[_]) (aF (by exact aC) (List.Perm.refl _)) (gu hx65) ?_);rintro _ _ ⟨rfl,rfl⟩
      refine mX rfl rfl rfl (bG rfl rfl rfl rfl rfl (fL rfl jr) rfl rfl rfl rfl (fun b66=>ae hb57 fun l68 hl68 hb57=>?_))
      refine mX rfl rfl rfl (bP (enc:=Zd.enc) rfl rfl rfl rfl rfl rfl rfl rfl rfl fF (by exact ak (ak aC)) hl68 (fun a69 c70=>?_))
      refine iP 1 [(10,pO a69 l68.length c70)] (by kernel_rfl) (ey (mn (ah [108] [(84,pI (IntKind.i64.wrap (v52+1)))] (by kernel_rfl) ?_)))
      exact bd hb57 (a69,c70) (gP rfl (gP rfl (gP rfl (gP rfl (Ay rfl))))) (aY (ak (ak (ak (ak (ak aC))))) (aY (ak (ak (ak (ak (ak aC))))) (aY (ak (ak (ak (ak (ak aC))))) (aY (ak (ak (ak (ak (ak aC))))) (aY (ak (ak aC)) dM)))))
     refine aR ?_
     refine av (an hb57 (fun ht=>ar rfl ?_))
     exact gQ ((a50,c51),l49) (nH rfl) (aY aC (aY aC (aY (ak (ak aC)) (aY (ak (ak aC)) bX)))) ht.symm
    rintro ⟨⟨a54,c55⟩,l56⟩ τ ρ1 hsub72 hz;(try dsimp only at hz hsub72);subst q58;(try dsimp only at hq28);dsimp only [aD]
    refine aH ?_
    obtain rfl:=osi hq28
    exact aG ((a54,c55),(l56,l35)) (nH rfl) (PSub.trans zs4 hsub72) rfl
   rintro ⟨⟨a24,c25⟩,⟨l26,l27⟩⟩ τ hz;(try dsimp only at hz);subst q28;(try dsimp only at hb19);dsimp only [aD]
   refine ah [109] [(30,pI (IntKind.i64.wrap (v13+1)))] (by kernel_rfl) ?_
   exact bd hb19 (a24,c25) (nH rfl) zs4
  refine aR ?_
  refine av (an hb19 (fun ht=>ar rfl ?_))
  exact aG ((a10,c11),(l9,l12)) (qa rfl) (aY (ak (ak aC)) (aY (ak (ak aC)) bX)) ht.symm
 rintro ⟨⟨a15,c16⟩,⟨l17,l18⟩⟩ τ hz;(try dsimp only at hz);subst q20;(try dsimp only at h);dsimp only [aD]
 refine af (dg (ρd:=[]) [(0,0),(1,0),(2,0),(3,0),(4,0),(5,0),(6,0),(7,0)] _ (List.Perm.refl _) (by kernel_rfl) rfl (ae h fun l73 hl73 h=>dH 8 [] (rg 110 6) [(8,pO a15 l17.length c16),(9,pL eS l73)] (fosl 5 eS 1 (fun _=>rfl) hl73 bL) (by kernel_rfl) (ey (aL ?_))))
 refine fk (enc:=Zd.enc) (xs:=l17) 8 rfl (by exact ak aC) ?_
 refine bS ?_
 obtain rfl:=osi h
 exact aO (ec (aP rfl) (aP rfl)) (aY (ak aC) bX) ⟨rfl,rfl⟩
def iY (p0:(List Zb)) (p1:(List Zc)) (p2:ByteArray) (p3:Za) (p4:(List Za)):Option (Zm×(List Za)):=(bZ p0 p1 p2 p3).bind fun x3=>cond (!x3) (some ((⟨ByteArray.empty,0,false,[],[]⟩:Zm),[])) ((cI p0 p3.Product).bind fun x5=>(dG p1 p3.Agreement).bind fun x7=>(dD p1 p3.Agreement x5.1.Country p2).bind fun x9=>(bf (S:=Int×(List (Za×Bool))) (T:=((List (Za×Bool)))) (fun (v12,l13)=>cond (decide (v12<(p4.length:Int))) ((idx p4 v12).bind fun m18=>some (.inl ((IntKind.i64.wrap (v12+1)),(nI l13 m18 true)))) (some (.inr l13))) FUEL (0,([]:List (Za×Bool)))).bind fun l14=>(eC p0 x7.1 x5.1 (⟨x9,l14⟩:Zs)).bind fun x20=>(bf (S:=(List Za)×Int×(List Zl)) (T:=((List Za)×(List Zl))) (fun (l23,v26,l28)=>cond (decide (v26<(x20.1.length:Int))) (((idx x20.1 v26).bind fun m53=>(Icumulation_supply_input m53).bind fun x54=>(app 32 l28 [x54]).bind fun l57=>cond (Zd.is_proved_ m53) ((app 16 l23 [(((Zd.as_proved_ m53)).premise)]).bind fun l65=>some (l65,l57)) (some (l23,l57))).bind fun (l47,l51)=>some (.inl (l47,(IntKind.i64.wrap (v26+1)),l51))) (some (.inr (l23,l28)))) FUEL (([]:List Za),0,([]:List Zl))).bind fun (l34,l38)=>(bi l34).bind fun x69=>(bq x69).bind fun x70=>some ((⟨x5.1.Code,x5.1.Price,x5.1.Obtained,x20.2,l38⟩:Zm),x70))
def fA (p0:(List Zb)) (p1:(List Zc)) (p2:ByteArray) (p3:Za) (p4:(List Za)):Option (Zm×(List Za)):=(bZ p0 p1 p2 p3).bind fun x3=>cond (!x3) (some ((⟨ByteArray.empty,0,false,[],[]⟩:Zm),[])) ((cI p0 p3.Product).bind fun x5=>(dG p1 p3.Agreement).bind fun x7=>(dD p1 p3.Agreement x5.1.Country p2).bind fun x9=>(bf (S:=Int×(List (Za×Bool))) (T:=((List (Za×Bool)))) (fun (v12,l13)=>cond (decide (v12<((p4.length:Nat):Int))) ((idx p4 v12).bind fun m19=>some (.inl ((IntKind.i64.wrap (v12+1)),(nI l13 m19 true)))) (some (.inr l13))) FUEL (0,([]:List (Za×Bool)))).bind fun l15=>(eC p0 x7.1 x5.1 (⟨x9,l15⟩:Zs)).bind fun x21=>(bf (S:=(List Za)×Int×(List Zl)) (T:=((List Za)×(List Zl))) (fun (l24,v27,l29)=>cond (decide (v27<(x21.1.length:Int))) (((idx x21.1 v27).bind fun m56=>(Icumulation_supply_input m56).bind fun x57=>(app 32 l29 [x57]).bind fun l60=>cond (Zd.is_proved_ m56) ((app 16 l24 [(((Zd.as_proved_ m56)).premise)]).bind fun l68=>some (l68,l60)) (some (l24,l60))).bind fun (l49,l54)=>some (.inl (l49,(IntKind.i64.wrap (v27+1)),l54))) (some (.inr (l24,l29)))) FUEL (([]:List Za),0,([]:List Zl))).bind fun (l35,l40)=>(bi l35).bind fun x72=>(bq x72).bind fun x73=>some ((⟨x5.1.Code,x5.1.Price,x5.1.Obtained,x21.2,l40⟩:Zm),x73))
theorem lN {p0:(List Zb)} {p1:(List Zc)} {p2:ByteArray} {p3:Za} {p4:(List Za)} {a_4:Option Addr}  {n_4:Nat}  {c_4:Nat} {r:(Zm×(List Za))}  (h:fA p0 p1 p2 p3 p4=some r):PCall 44 [pL Zb.enc p0,pL Zc.enc p1,pS p2,.agg [pI p3.Product,pI p3.Agreement],.v (.slice a_4 n_4 c_4)] [PRes.row a_4 n_4 c_4 57 2 (List.map Za.enc p4)] (fun pv ρ'=>pv=.tup [.agg (cB r.1),pL Za.enc r.2]∧ρ'=[PRes.row a_4 n_4 c_4 57 2 (List.map Za.enc p4)]):=by
 unfold fA at h
 refine jq Tryz.func44 rfl Tryz.ntmps44 Tryz.results44 rfl ?_
 refine iv (enc:=Za.enc) (xs:=p4) (a:=a_4) fF (fun hl ha=>?_);subst hl;clear ha
 refine af (aa (aj rfl (bE (cs:=[pI p3.Product,pI p3.Agreement]) rfl rfl (fun b1=>aj rfl (aT (cs:=[pS ByteArray.empty,pI 0,pB false,pN,pN]) rfl rfl rfl rfl (fun b2=>bA [11] (by kernel_rfl) (dn (ae h fun x3 hx3 h=>ap [1] (rg 27 5) [(32,pB (!x3))] (bR 4 (hY hx3) bL) (by kernel_rfl) (cg rfl h (fun hc4 h=>?_) fun hc4 h=>?_)))))))))
 ·refine af ?_
  refine aa (am 1 [(33,.agg [pS ByteArray.empty,pI 0,pB false,pN,pN])] (by kernel_rfl) (aX rfl rfl (au (vs:=[pS ByteArray.empty,pI 0,pB false,pN,pN]) rfl rfl rfl rfl rfl cY zl5 (aM [(11,pN)] (by kernel_rfl) (aL (eV (k:=3) (b:=b2) rfl cY (eV (k:=4) (b:=b2) rfl cY (jU 11 rfl (bS (aq ?_))))))))))
  obtain rfl:=osi h
  exact aO (ec (gB rfl fF rfl) (aP rfl)) (aY (ak (ak aC)) bX) ⟨rfl,rfl⟩
 refine ai ?_
 refine du h fun x5 hx5 h=>aa (bm 7 [1] [35,36,37,38,34] [(39,.agg (aZ x5.1)),(40,pB x5.2)] (bR 3 (fZ hx5) bL) (by kernel_rfl) (aj rfl (aT (cs:=[pI 0,pS ByteArray.empty,pS ByteArray.empty,pI 0,pB false,pN,pN]) rfl rfl rfl rfl (fun b6=>aX rfl rfl (au (vs:=(aZ x5.1)) rfl rfl rfl rfl rfl cY om (bA [13] (by kernel_rfl) (du h fun x7 hx7 h=>aa (bm 7 [2] [42,43,44,45,41] [(46,.agg (aQ x7.1)),(47,pB x7.2)] (bR 3 (im hx7) bL) (by kernel_rfl) (aj rfl (aT (cs:=[pI 0,pI 0,pN,pN]) rfl rfl rfl rfl (fun b8=>aX rfl rfl (au (vs:=(aQ x7.1)) rfl rfl rfl rfl rfl cY Bq (bA [15] (by kernel_rfl) (du h fun x9 hx9 h=>aa (bm 7 [3,1] (rg 48 6) [(54,pL eI x9)] (bR 6 (mv hx9) bL) (by kernel_rfl) (aj rfl (vV Za.key vT rfl (fun b10=>am 1 [(56,.agg [pL eI x9,.v (.map (some b10))])] (by kernel_rfl) (aj rfl (aT (cs:=[pN,.v (.map none)]) rfl rfl rfl rfl (fun b11=>aX rfl rfl (au (vs:=[pL eI x9,.v (.map (some b10))]) rfl rfl rfl rfl rfl cY Bp (aw (dn (al [(57,pO a_4 p4.length c_4),(58,pI ((p4.length:Nat):Int)),(59,pI 0)] (by kernel_rfl) (dN h fun q17 hq17 h=>?_))))))))))))))))))))))))))
 refine az (Y:=Unit×((List (Za×Bool)))) (fun (_,l15)=>[(0,pL Zb.enc p0),(10,pP b2 0),(12,pP b6 0),(14,pP b8 0),(16,pP b11 0)]) (fun (_,l15)=>[PRes.mp (some b10) (gW Za.key vT l15),PRes.b b11 169 [pL eI x9,.v (.map (some b10))],PRes.b b2 109 [pS ByteArray.empty,pI 0,pB false,pN,pN],PRes.b b6 52 (aZ x5.1),PRes.b b8 95 (aQ x7.1),PRes.row a_4 p4.length c_4 57 2 (List.map Za.enc p4)]) (fun (_,l15)=>q17=l15) ?_ ?_
 ·refine aJ ?_
  refine aK (Y:=Unit) (S:=Int×(List (Za×Bool))) _ hq17 (fun _ (v12,l13)=>[(0,pL Zb.enc p0),(10,pP b2 0),(12,pP b6 0),(14,pP b8 0),(16,pP b11 0),(57,pO a_4 p4.length c_4),(58,pI ((p4.length:Nat):Int)),(59,pI v12)]) (fun _ (v12,l13)=>[PRes.mp (some b10) (gW Za.key vT l13),PRes.b b11 169 [pL eI x9,.v (.map (some b10))],PRes.b b2 109 [pS ByteArray.empty,pI 0,pB false,pN,pN],PRes.b b6 52 (aZ x5.1),PRes.b b8 95 (aQ x7.1),PRes.row a_4 p4.length c_4 57 2 (List.map Za.enc p4)]) () (nH rfl) (aY (ak aC) (aY aC (aY (ak (ak aC)) (aY (ak aC) (aY aC (aY (ak aC) bX)))))) ?_
  rintro _ ⟨v12,l13⟩ o τ hb16;(try dsimp only at hb16);dsimp only [aD]
  refine af (al [(60,pB (decide (v12<((p4.length:Nat):Int))))] (by kernel_rfl) (bM (js rfl hb16 (fun hc18 hb16=>?_) fun hc18 hb16=>?_)))
  ·refine ai ?_
   refine bM (gX (ae hb16 fun m19 hm19 hb16=>aa (bD rfl rfl rfl (dB (enc:=Za.enc) (xs:=p4) rfl rfl rfl (.p rfl) zm5 (.p rfl) (fun _=>hm19)) (bD rfl rfl rfl (ca (sz:=2) (p:=.agg [pI m19.Product,pI m19.Agreement]) (enc:=Za.enc) (xs:=p4) (a:=a_4) v12 0 m19 rfl (.p rfl) rfl zm5 (fun _=>hm19) rfl) (aj rfl (aT (cs:=[pI 0,pI 0]) rfl rfl rfl rfl (fun b20=>aX rfl rfl (au (vs:=[pI m19.Product,pI m19.Agreement]) rfl rfl rfl rfl rfl cY Bp (aw (aL (aa (cq 3 [2,0] [63] [(64,.v (.map (some b10))),(65,.agg [pI m19.Product,pI m19.Agreement])] (by kernel_rfl) (aX rfl rfl (ur (xs:=l13) (k:=m19) (ek:=Za.key) (vv:=vT) (v:=true) rfl rfl Za.kenc57 rfl rfl BO rfl (de cY) (aw (mn (ah [66] [(59,pI (IntKind.i64.wrap (v12+1)))] (by kernel_rfl) ?_)))))))))))))))))
   exact bd hb16 () (nH rfl) (aY (ak aC) (aY (ak aC) (aY (ak aC) (aY (ak aC) (aY (ak aC) (aY (ak aC) bX))))))
  refine aR ?_
  refine av (an hb16 (fun ht=>ar rfl ?_))
  exact aG ((),l13) (mO rfl) zs6 ht.symm
 rintro ⟨_,l15⟩ τ hz;(try dsimp only at hz);subst q17;(try dsimp only at h);dsimp only [aD]
 refine af (ae h fun x21 hx21 h=>aa (fO 4 [4,3,1] [(68,pL Zb.enc p0),(69,.agg (aQ x7.1)),(70,.agg (aZ x5.1)),(71,.agg [pL eI x9,.v (.map (some b10))])] (by kernel_rfl) ?_))
 refine aj rfl (aW rfl rfl (ρ1:=[_]) (aF (by exact aC) (List.Perm.refl _)) (np hx21) ?_);rintro _ _ ⟨rfl,rfl⟩
 refine fu [67,73,74] [(19,pL Zd.enc x21.1),(20,pL eS x21.2)] (by kernel_rfl) (bM (aa (cq 8 [3,3,3] (rg 75 7) [(82,.agg [pS x5.1.Code,pI x5.1.Price,pB x5.1.Obtained,pL eS x21.2,pN])] (by kernel_rfl) (aj rfl (aT (cs:=[pS ByteArray.empty,pI 0,pB false,pN,pN]) rfl rfl rfl rfl (fun b22=>aX rfl rfl (au (vs:=[pS x5.1.Code,pI x5.1.Price,pB x5.1.Obtained,pL eS x21.2,pN]) rfl rfl rfl rfl rfl cY zl5 (aw (bM (al [(22,pN)] (by kernel_rfl) (dn (al [(83,pL Zd.enc x21.1),(84,pI (x21.1.length:Int)),(85,pI 0)] (by kernel_rfl) (aL (bI 57 2 (bI 176 3 (ae h fun q42 hq42 h=>?_))))))))))))))))
 refine az (Y:=(Option Addr×Nat×Option Addr×Nat)×((List Za)×(List Zl))) (fun ((a33,c34,a38,c39),(l35,l40))=>[(10,pP b2 0),(21,pP b22 0),(22,pO a33 l35.length c34)]) (fun ((a33,c34,a38,c39),(l35,l40))=>[PRes.b b2 109 [pS ByteArray.empty,pI 0,pB false,pN,pN],PRes.b b22 109 [pS x5.1.Code,pI x5.1.Price,pB x5.1.Obtained,pL eS x21.2,pO a38 l40.length c39],PRes.row a33 l35.length c34 57 2 (List.map Za.enc l35),PRes.row a_4 p4.length c_4 57 2 (List.map Za.enc p4),PRes.row a38 l40.length c39 176 3 (List.map Zl.enc l40)]) (fun ((a33,c34,a38,c39),(l35,l40))=>q42=(l35,l40)) ?_ ?_
 ·refine aJ ?_
  refine aK (Y:=Option Addr×Nat×Option Addr×Nat) (S:=(List Za)×Int×(List Zl)) _ hq42 (fun (a25,c26,a30,c31) (l24,v27,l29)=>[(10,pP b2 0),(21,pP b22 0),(22,pO a25 l24.length c26),(83,pL Zd.enc x21.1),(84,pI (x21.1.length:Int)),(85,pI v27)]) (fun (a25,c26,a30,c31) (l24,v27,l29)=>[PRes.b b2 109 [pS ByteArray.empty,pI 0,pB false,pN,pN],PRes.b b22 109 [pS x5.1.Code,pI x5.1.Price,pB x5.1.Obtained,pL eS x21.2,pO a30 l29.length c31],PRes.row a_4 p4.length c_4 57 2 (List.map Za.enc p4),PRes.row a25 l24.length c26 57 2 (List.map Za.enc l24),PRes.row a30 l29.length c31 176 3 (List.map Zl.enc l29)]) (none,0,none,0) (zI rfl) (aY (ak (ak (ak (ak (ak aC))))) (aY (ak (ak aC)) (aY (ak (ak (ak (ak (ak (ak aC)))))) (aY (ak aC) dM)))) ?_
  rintro ⟨a25,c26,a30,c31⟩ ⟨l24,v27,l29⟩ o τ hb41;(try dsimp only at hb41);dsimp only [aD]
  refine af (al [(86,pB (decide (v27<(x21.1.length:Int))))] (by kernel_rfl) (bM (js rfl hb41 (fun hc45 hb41=>?_) fun hc45 hb41=>?_)))
  ·refine ai ?_
   refine du hb41 fun q55 hq55 hb41=>?_
   refine az (Y:=(Option Addr×Nat×Option Addr×Nat)×((List Za)×(List Zl))) (fun ((a47,c48,a52,c53),(l49,l54))=>[(10,pP b2 0),(21,pP b22 0),(22,pO a47 l49.length c48),(83,pL Zd.enc x21.1),(84,pI (x21.1.length:Int)),(85,pI v27)]) (fun ((a47,c48,a52,c53),(l49,l54))=>[PRes.b b2 109 [pS ByteArray.empty,pI 0,pB false,pN,pN],PRes.b b22 109 [pS x5.1.Code,pI x5.1.Price,pB x5.1.Obtained,pL eS x21.2,pO a52 l54.length c53],PRes.row a47 l49.length c48 57 2 (List.map Za.enc l49),PRes.row a_4 p4.length c_4 57 2 (List.map Za.enc p4),PRes.row a52 l54.length c53 176 3 (List.map Zl.enc l54)]) (fun ((a47,c48,a52,c53),(l49,l54))=>q55=(l49,l54)) ?_ ?_
   ·skip
    refine gX (ae hq55 fun m56 hm56 hq55=>ap [] [87,88] [(24,Zd.pv m56)] (fG 0 Zd.enc hm56 bL) (by kernel_rfl) (du hq55 fun x57 hx57 hq55=>ae hq55 fun l60 hl60 hq55=>?_))
    refine az (Y:=Option Addr×Nat) (fun (a61,c62)=>[(10,pP b2 0),(21,pP b22 0),(22,pO a25 l24.length c26),(24,Zd.pv m56),(83,pL Zd.enc x21.1),(84,pI (x21.1.length:Int)),(85,pI v27)]) (fun (a61,c62)=>[PRes.b b2 109 [pS ByteArray.empty,pI 0,pB false,pN,pN],PRes.b b22 109 [pS x5.1.Code,pI x5.1.Price,pB x5.1.Obtained,pL eS x21.2,pO a61 l60.length c62],PRes.row a_4 p4.length c_4 57 2 (List.map Za.enc p4),PRes.row a25 l24.length c26 57 2 (List.map Za.enc l24),PRes.row a61 l60.length c62 176 3 (List.map Zl.enc l60)]) (fun _=>True) ?_ ?_
    ·refine ka (ρd:=[PRes.row a30 _ _ _ _ _,PRes.b b22 _ _]) _ (aF (ak (ak (ak (ak aC)))) (aF (ak aC) (List.Perm.refl _))) ?_
     refine bY 0 (by kernel_rfl) rfl rfl rfl rfl (bo rfl rfl rfl rfl rfl (.p rfl)) (bY 2 (by kernel_rfl) rfl rfl rfl rfl (eu (p:=Zd.pv m56) rfl (.p rfl)) ?_)
     refine ia 1 3 (by kernel_rfl) ?_ ?_
     ·skip
      refine ba rfl rfl rfl rfl (lA (cJ (p:=pO a30 l29.length c31) rfl (.p rfl) uV rfl) (bg 3 (by kernel_rfl) (ba rfl rfl rfl rfl (sV rfl rfl (Icumulation_supply_input_ok hx57) (bg 4 (by kernel_rfl) (ba rfl rfl rfl rfl (bG rfl rfl rfl rfl rfl (fL rfl jr) rfl rfl rfl rfl (fun b58=>bg 5 (by kernel_rfl) ?_))))))))
      refine ba rfl rfl rfl rfl (bP (enc:=Zl.enc) rfl rfl rfl rfl rfl rfl rfl rfl rfl fF (by exact ak aC) hl60 (fun a61 c62=>?_))
      refine bY 6 (by kernel_rfl) rfl rfl rfl rfl (bo rfl rfl rfl rfl rfl (.p rfl)) (bg 7 (by kernel_rfl) (dL rfl rfl rfl (au (vs:=[pO a61 l60.length c62]) rfl rfl rfl rfl rfl (de (de cY)) (dY (dY (dY (dY mG)))) (dK (by kernel_rfl) ?_))))
      exact aG (a61,c62) (ol rfl) (aY (ak (ak (ak aC))) (aY (ak (ak aC)) (aY (ak (ak aC)) (aY (ak (ak aC)) dM)))) trivial
     skip
     refine ba rfl rfl rfl rfl (sV rfl rfl (Icumulation_supply_input_ok hx57) ?_)
     refine ia 1 4 (by kernel_rfl) ?_ ?_
     ·skip
      refine ba rfl rfl rfl rfl (lA (cJ (p:=pO a30 l29.length c31) rfl (.p rfl) uV rfl) (bg 4 (by kernel_rfl) (ba rfl rfl rfl rfl (bG rfl rfl rfl rfl rfl (fL rfl jr) rfl rfl rfl rfl (fun b58=>bg 5 (by kernel_rfl) ?_)))))
      refine ba rfl rfl rfl rfl (bP (enc:=Zl.enc) rfl rfl rfl rfl rfl rfl rfl rfl rfl fF (by exact ak aC) hl60 (fun a61 c62=>?_))
      refine bY 6 (by kernel_rfl) rfl rfl rfl rfl (bo rfl rfl rfl rfl rfl (.p rfl)) (bg 7 (by kernel_rfl) (dL rfl rfl rfl (au (vs:=[pO a61 l60.length c62]) rfl rfl rfl rfl rfl (de (de cY)) (dY (dY (dY (dY mG)))) (dK (by kernel_rfl) ?_))))
      exact aG (a61,c62) (ol rfl) (aY (ak (ak (ak aC))) (aY (ak (ak aC)) (aY (ak (ak aC)) (aY (ak (ak aC)) dM)))) trivial
     skip
     refine ba rfl rfl rfl rfl (bG rfl rfl rfl rfl rfl (fL rfl jr) rfl rfl rfl rfl (fun b58=>bg 1 (by kernel_rfl) (ba rfl rfl rfl rfl (lA (cJ (p:=pO a30 l29.length c31) rfl (.p rfl) ug rfl) (bg 5 (by kernel_rfl) ?_)))))
     refine ba rfl rfl rfl rfl (bP (enc:=Zl.enc) rfl rfl rfl rfl rfl rfl rfl rfl rfl fF (by exact ak aC) hl60 (fun a61 c62=>?_))
     refine bY 6 (by kernel_rfl) rfl rfl rfl rfl (bo rfl rfl rfl rfl rfl (.p rfl)) (bg 7 (by kernel_rfl) (dL rfl rfl rfl (au (vs:=[pO a61 l60.length c62]) rfl rfl rfl rfl rfl (de (de cY)) (dY (dY (dY (dY mG)))) (dK (by kernel_rfl) ?_))))
     exact aG (a61,c62) (ol rfl) (aY (ak (ak (ak aC))) (aY (ak (ak aC)) (aY (ak (ak aC)) (aY (ak (ak aC)) dM)))) trivial
    rintro ⟨a61,c62⟩ τ _;dsimp only [aD]
    refine af (aa (bm 5 [] [97,98,96] [(99,.agg [pS ((((Zd.as_proved_ m56)).use).Code),pI ((((Zd.as_proved_ m56)).use).Value),pB ((((Zd.as_proved_ m56)).use).Originating),pI ((((Zd.as_proved_ m56)).premise).Product),pI ((((Zd.as_proved_ m56)).premise).Agreement)]),(100,pB (Zd.is_proved_ m56))] (fota 1 (Zd.ta_proved_ m56) bL) (by kernel_rfl) (aj rfl (aT (cs:=[pS ByteArray.empty,pI 0,pB false,pI 0,pI 0]) rfl rfl rfl rfl (fun b64=>aX rfl rfl (au (vs:=[pS ((((Zd.as_proved_ m56)).use).Code),pI ((((Zd.as_proved_ m56)).use).Value),pB ((((Zd.as_proved_ m56)).use).Originating),pI ((((Zd.as_proved_ m56)).premise).Product),pI ((((Zd.as_proved_ m56)).premise).Agreement)]) rfl rfl rfl rfl rfl cY zl5 (aM [(26,pB (Zd.is_proved_ m56))] (by kernel_rfl) (bM (al [(101,pB (Zd.is_proved_ m56))] (by kernel_rfl) (cg rfl hq55 (fun hc65 hq55=>?_) fun hc65 hq55=>?_))))))))))
    ·refine aa ?_
     refine cq 3 [0] [103] [(102,pO a25 l24.length c26),(104,.agg [pI ((((Zd.as_proved_ m56)).premise).Product),pI ((((Zd.as_proved_ m56)).premise).Agreement)])] (by kernel_rfl) (aj rfl (bG rfl rfl rfl rfl rfl (fL rfl jr) rfl rfl rfl rfl (fun b66=>ae hq55 fun l68 hl68 hq55=>?_)))
     refine aj rfl (bP (enc:=Za.enc) rfl rfl rfl rfl rfl rfl rfl rfl rfl fF (by exact ak (ak (ak (ak (ak aC))))) hl68 (fun a69 c70=>?_))
     refine aM [(22,pO a69 l68.length c70)] (by kernel_rfl) (aH ?_)
     obtain rfl:=osi hq55
     exact aG ((a69,c70,a61,c62),(l68,l60)) (zI rfl) (aY (ak (ak (ak aC))) (aY (ak (ak (ak aC))) (aY aC (aY (ak (ak aC)) (aY (ak (ak aC)) bX))))) rfl
    refine ai ?_
    refine aH ?_
    obtain rfl:=osi hq55
    exact aG ((a25,c26,a61,c62),(l24,l60)) (zI rfl) (aY (ak aC) (aY (ak aC) (aY (ak (ak aC)) (aY (ak aC) (aY (ak aC) bX))))) rfl
   rintro ⟨⟨a47,c48,a52,c53⟩,⟨l49,l54⟩⟩ τ hz;(try dsimp only at hz);subst q55;(try dsimp only at hb41);dsimp only [aD]
   refine ah [107] [(85,pI (IntKind.i64.wrap (v27+1)))] (by kernel_rfl) ?_
   exact bd hb41 (a47,c48,a52,c53) (zI rfl) (aY aC (aY aC (aY (ak aC) py)))
  refine aR ?_
  refine av (an hb41 (fun ht=>ar rfl ?_))
  exact aG ((a25,c26,a30,c31),(l24,l29)) (zH rfl) (aY aC (aY aC (aY (ak aC) py))) ht.symm
 rintro ⟨⟨a33,c34,a38,c39⟩,⟨l35,l40⟩⟩ τ hz;(try dsimp only at hz);subst q42;(try dsimp only at h);dsimp only [aD]
 refine af (ae h fun x72 hx72 h=>aa (am 1 [(108,pO a33 l35.length c34)] (by kernel_rfl) ?_))
 refine aj rfl (aW rfl rfl (ρ1:=[_]) (aF (by exact ak (ak aC)) (List.Perm.refl _)) (cx hx72) ?_);rintro _ _ ⟨rfl,rfl⟩
 refine aw (bM ?_)
 refine ub (css:=List.map Zl.enc l40) (a:=a38) (by exact ak (ak (ak (ak aC)))) ?_
 refine sR (k:=4) (enc:=Zl.enc) (xs:=l40) (b:=b22) (a:=a38) rfl fF (de (de (de cY))) (dg (ρd:=[PRes.row a33 _ _ _ _ _,PRes.b b2 _ _]) [(0,0),(1,0),(2,1),(3,1),(4,0)] _ (aF (ak aC) (aF (ak aC) (List.Perm.refl _))) (by kernel_rfl) rfl (ae h fun x73 hx73 h=>BV 2 [1] [(110,.agg [pS x5.1.Code,pI x5.1.Price,pB x5.1.Obtained,pL eS x21.2,pL Zl.enc l40]),(111,pO a33 l35.length c34)] (by kernel_rfl) ?_))
 refine mX rfl rfl rfl (aW rfl rfl (ρ1:=[_]) (aF (by exact aC) (List.Perm.refl _)) (fe hx73) ?_);rintro _ _ ⟨a74,c75,rfl,rfl⟩
 refine Bi rfl rfl (au (vs:=[pS x5.1.Code,pI x5.1.Price,pB x5.1.Obtained,pL eS x21.2,pL Zl.enc l40]) rfl rfl rfl rfl rfl (de cY) zl5 (iP 1 [(11,pO a74 x73.length c75)] (by kernel_rfl) (ey (aL ?_))))
 refine fk (enc:=Za.enc) (xs:=x73) 11 rfl (by exact aC) ?_
 refine bS ?_
 obtain rfl:=osi h
 exact aO (ec (gB rfl uV rfl) (aP rfl)) (aY (ak (ak (ak (ak aC)))) bX) ⟨rfl,rfl⟩
def gI (p0:ByteArray):Option Bool:=(dc p0).bind fun x1=>some (decide (6≤x1))
theorem kU {p0:ByteArray} {r:Bool}  (h:gI p0=some r):PF 170 [pS p0] (pB r):=by
 unfold gI at h
 refine br ?_
 refine eW Tryz.func170 rfl Tryz.ntmps170 Tryz.results170 rfl (aU [2] (by kernel_rfl) (du h fun x1 hx1 h=>ap [] [3,4,5] [(2,pB (decide (6≤x1)))] (bR 1 (fb hx1) bL) (by kernel_rfl) (eD ?_)))
 exact zz r h rfl
def fB (p0:Zm):Option Int:=(gI p0.Code).bind fun x2=>cond (!x2) (some (1:Int)) (cond ((decide (p0.Price<1))||(decide (1000000000000<p0.Price))) (some (2:Int)) ((dj p0.Processes).bind fun x5=>cond (!x5) (some (1:Int)) (cond (decide (100<(p0.Inputs.length:Int))) (some (8:Int)) ((bf (S:=Int) (T:=(Unit)⊕(_)) (fun v8=>cond (decide (v8<(p0.Inputs.length:Int))) ((idx p0.Inputs v8).bind fun m12=>(gI m12.Code).bind fun x14=>cond (!x14) (some (.inr (.inr (1:Int)))) (cond ((decide (m12.Value<0))||(decide (1000000000000<m12.Value))) (some (.inr (.inr (2:Int)))) (some (.inl (IntKind.i64.wrap (v8+1)))))) (some (.inr (.inl ())))) FUEL 0).bind fun q=>match q with | .inl _=>some (0:Int) | .inr e=>some e))))
theorem nq {p0:Zm} {r:Int}  (h:fB p0=some r):PF 128 [.agg (cB p0)] (pI r):=by
 unfold fB at h
 refine br ?_
 refine eW Tryz.func128 rfl Tryz.ntmps128 Tryz.results128 rfl (aa (aj rfl (bE (cs:=(cB p0)) rfl rfl (fun b1=>bA [2] (by kernel_rfl) (bM (gX (ae h fun x2 hx2 h=>ap [0] [6,7,8,9] [(5,pB (!x2))] (bR 2 (kU hx2) bL) (by kernel_rfl) (cg rfl h (fun hc3 h=>?_) fun hc3 h=>?_))))))))
 ·refine af ?_
  refine fP [(2,pI 1)] (by kernel_rfl) (iw ?_)
  exact zz r h rfl
 refine af ?_
 refine bc [0,0] (rg 11 8) [(10,pB ((decide (p0.Price<1))||(decide (1000000000000<p0.Price))))] (by kernel_rfl) (cg rfl h (fun hc4 h=>?_) fun hc4 h=>?_)
 ·refine af ?_
  refine fP [(2,pI 2)] (by kernel_rfl) (iw ?_)
  exact zz r h rfl
 refine af ?_
 refine ae h fun x5 hx5 h=>ap [0] [20,21,22,23] [(19,pB (!x5))] (bR 2 (gU hx5) bL) (by kernel_rfl) (cg rfl h (fun hc6 h=>?_) fun hc6 h=>?_)
 ·refine af ?_
  refine fP [(2,pI 1)] (by kernel_rfl) (iw ?_)
  exact zz r h rfl
 refine af ?_
 refine bc [0] [25,26,27,28] [(24,pB (decide (100<(p0.Inputs.length:Int))))] (by kernel_rfl) (cg rfl h (fun hc7 h=>?_) fun hc7 h=>?_)
 ·refine af ?_
  refine fP [(2,pI 8)] (by kernel_rfl) (iw ?_)
  exact zz r h rfl
 refine ai ?_
 refine aH (dn (bc [0] [29] [(30,pL Zl.enc p0.Inputs),(31,pI (p0.Inputs.length:Int)),(32,pI 0)] (by kernel_rfl) (dN h fun q10 hq10 h=>?_)))
 refine az (Y:=Unit×Unit) (fun (_,_)=>[]) (fun (_,_)=>[]) (fun (_,_)=>q10=Sum.inl ()) ?_ ?_
 ·refine aJ ?_
  refine aK (Y:=Unit) (S:=Int) _ hq10 (fun _ v8=>[(30,pL Zl.enc p0.Inputs),(31,pI (p0.Inputs.length:Int)),(32,pI v8)]) (fun _ v8=>[]) () (zH rfl) bX ?_
  rintro _ v8 o τ hb9;(try dsimp only at hb9);dsimp only [aD]
  refine af (al [(33,pB (decide (v8<(p0.Inputs.length:Int))))] (by kernel_rfl) (bM (js rfl hb9 (fun hc11 hb9=>?_) fun hc11 hb9=>?_)))
  ·refine ai ?_
   refine bM (gX (ae hb9 fun m12 hm12 hb9=>aa (bm 2 [] [34] [(35,.agg [pS m12.Code,pI m12.Value,pB m12.Originating])] (fG 0 Zl.enc hm12 bL) (by kernel_rfl) (aj rfl (aT (cs:=[pS ByteArray.empty,pI 0,pB false]) rfl rfl rfl rfl (fun b13=>aX rfl rfl (au (vs:=[pS m12.Code,pI m12.Value,pB m12.Originating]) rfl rfl rfl rfl rfl cY zl3 (aw (dn (ae hb9 fun x14 hx14 hb9=>ap [0] [36,37,38] [(39,pB (!x14))] (bR 2 (kU hx14) bL) (by kernel_rfl) (cg rfl hb9 (fun hc15 hb9=>?_) fun hc15 hb9=>?_)))))))))))
   ·refine af ?_
    refine fP [(2,pI 1)] (by kernel_rfl) (aq (iw ?_))
    refine aS hb9 (fun ht=>?_);subst ht
    refine aA (aV ?_)
    exact zz r h rfl
   refine ai ?_
   refine bM (bc [0,0] (rg 40 7) [(47,pB ((decide (m12.Value<0))||(decide (1000000000000<m12.Value))))] (by kernel_rfl) (cg rfl hb9 (fun hc16 hb9=>?_) fun hc16 hb9=>?_))
   ·refine af ?_
    refine fP [(2,pI 2)] (by kernel_rfl) (iw ?_)
    refine aS hb9 (fun ht=>?_);subst ht
    refine aA (aV ?_)
    exact zz r h rfl
   refine ai ?_
   refine mn (ah [48] [(32,pI (IntKind.i64.wrap (v8+1)))] (by kernel_rfl) ?_)
   exact bd hb9 () (zH rfl) bX
  refine aR ?_
  refine av (an hb9 (fun ht=>ar rfl ?_))
  exact aG ((),()) oj bX ht.symm
 rintro ⟨_,_⟩ τ hz;(try dsimp only at hz);subst q10;(try dsimp only at h);dsimp only [aD]
 refine af (fP [(2,pI 0)] (by kernel_rfl) ?_)
 exact zz r h rfl
def ie (p0:Ze) (p1:Zm):Option Bool:=(eP p0).bind fun x3=>(gd (x3 == 0) (fB p1)).bind fun x4=>some ((x3 == 0)&&(x4 == 0))
theorem n8 {p0:Ze} {p1:Zm} {r:Bool}  (h:ie p0 p1=some r):PF 86 [.agg (aN p0),.agg (cB p1)] (pB r):=by
 unfold ie at h
 refine br ?_
 refine eW Tryz.func86 rfl Tryz.ntmps86 Tryz.results86 rfl (aa (aj rfl (bE (cs:=(aN p0)) rfl rfl (fun b1=>aj rfl (bE (cs:=(cB p1)) rfl rfl (fun b2=>bA [4] (by kernel_rfl) (du h fun x3 hx3 h=>ae h fun x4 hx4 h=>ap [1,0] (rg 5 8) [(4,pB ((x3 == 0)&&(x4 == 0)))] (bR 1 (gK hx3) (gC 5 (fun hc=>nq (gq hx4 hc)) bL)) (by kernel_rfl) (eD ?_))))))))
 exact zz r h rfl
def iZ (p0:Ze) (p1:Zm):Option ((List Int)×Bool):=(ie p0 p1).bind fun x3=>cond (!x3) (some ([],false)) ((pE p0).bind fun x5=>(Irule_test_witness x5 p1).bind fun x6=>some (x6.1,x6.2))
theorem qi {p0:Ze} {p1:Zm} {r:((List Int)×Bool)}  (h:iZ p0 p1=some r):PF 45 [.agg (aN p0),.agg (cB p1)] (.tup [pL eI r.1,pB r.2]):=by
 unfold iZ at h
 refine br ?_
 refine eW Tryz.func45 rfl Tryz.ntmps45 Tryz.results45 rfl (aa (aj rfl (bE (cs:=(aN p0)) rfl rfl (fun b1=>aj rfl (bE (cs:=(cB p1)) rfl rfl (fun b2=>bA [4,5] (by kernel_rfl) (dn (ae h fun x3 hx3 h=>ap [1,0] [6,7,8] [(9,pB (!x3))] (bR 2 (n8 hx3) bL) (by kernel_rfl) (cg rfl h (fun hc4 h=>?_) fun hc4 h=>?_)))))))))
 ·refine af ?_
  refine al [(4,pN),(5,pB false)] (by kernel_rfl) (aL (jU 4 rfl (bS (aq ?_))))
  obtain rfl:=osi h
  exact aO (ec (aP rfl) (aP rfl)) bX ⟨rfl,rfl⟩
 refine ai ?_
 refine bM (dg (ρd:=[]) [(0,0),(2,0),(1,1),(3,1),(4,0),(5,0),(6,0),(7,0)] _ (List.Perm.refl _) (by kernel_rfl) rfl (ae h fun x5 hx5 h=>ae h fun x6 hx6 h=>dH 8 [1,0] [10,12,11,13,14,15] [(4,pL eI x6.1),(5,pB x6.2)] (bR 2 (rF hx5) (foci 3 (Irule_test_witness_ok hx6) bL)) (by kernel_rfl) (ey (eD ?_))))
 obtain rfl:=osi h
 exact aO (ec (aP rfl) (aP rfl)) bX ⟨rfl,rfl⟩
def el (p0:Zi) (p1:(List Zb)) (p2:(List Zc)) (p3:ByteArray) (p4:(List Za)) (p5:(List Zg)):Option (Bool×(List Za)×(List Zg)):=(fA p1 p2 p3 p0.claim p4).bind fun x2=>(iZ p0.rule x2.1).bind fun x4=>Option.bind (cond x4.2 ((app 64 p5 [(⟨p0.claim,x4.1,x2.2⟩:Zg)]).bind fun l14=>some l14) (some p5)) (fun l9=>some (x4.2,p4,l9))
theorem kV {p0:Zi} {p1:(List Zb)} {p2:(List Zc)} {p3:ByteArray} {p4:(List Za)} {p5:(List Zg)} {b4:Nat}  {a_4:Option Addr}  {n_4:Nat}  {c_4:Nat}  {b5:Nat}  {a_5:Option Addr}  {n_5:Nat}  {c_5:Nat} {r:(Bool×(List Za)×(List Zg))}  (h:el p0 p1 p2 p3 p4 p5=some r):PCall 43 [.agg (cV p0),.ref [pL Zb.enc p1] 0,.ref [pL Zc.enc p2] 0,.ref [pS p3] 0,pP b4 0,pP b5 0] [PRes.b b4 58 [.v (.slice a_4 n_4 c_4)],PRes.row a_4 n_4 c_4 57 2 (List.map Za.enc p4),PRes.b b5 46 [.v (.slice a_5 n_5 c_5)],PRes.row a_5 n_5 c_5 60 4 (List.map Zg.enc p5)] (fun pv ρ'=>pv=pB r.1∧∃ (x0:Option Addr) (z0:Nat) (x1:Option Addr) (z1:Nat),ρ'=[PRes.b b4 58 [.v (.slice x0 (r.2.1).length z0)],PRes.row x0 (r.2.1).length z0 57 2 (List.map Za.enc r.2.1),PRes.b b5 46 [.v (.slice x1 (r.2.2).length z1)],PRes.row x1 (r.2.2).length z1 60 4 (List.map Zg.enc r.2.2)]):=by
 unfold el at h
 refine jq Tryz.func43 rfl Tryz.ntmps43 Tryz.results43 rfl ?_
 refine iv (enc:=Za.enc) (xs:=p4) (a:=a_4) uV (fun hl ha=>?_);subst hl;clear ha
 refine iv (enc:=Zg.enc) (xs:=p5) (a:=a_5) zG (fun hl ha=>?_);subst hl;clear ha
 refine af (aa (aj rfl (bE (cs:=(cV p0)) rfl rfl (fun b1=>bA [7] (by kernel_rfl) (du h fun x2 hx2 h=>aa (cq 6 [0,1] [16] [(13,pL Zb.enc p1),(14,pL Zc.enc p2),(15,pS p3),(17,.agg [pI p0.claim.Product,pI p0.claim.Agreement]),(18,pO a_4 p4.length c_4)] (by kernel_rfl) ?_))))))
 refine aj rfl (aW rfl rfl (ρ1:=[_]) (aF (by exact ak (ak aC)) (List.Perm.refl _)) (lN hx2) ?_);rintro _ _ ⟨rfl,rfl⟩
 refine cE 3 [12] [(20,.agg (cB x2.1)),(21,pL Za.enc x2.2)] (by kernel_rfl) (aj rfl (aT (cs:=[pS ByteArray.empty,pI 0,pB false,pN,pN]) rfl rfl rfl rfl (fun b3=>aX rfl rfl (au (vs:=(cB x2.1)) rfl rfl rfl rfl rfl cY zl5 (aM [(9,pL Za.enc x2.2)] (by kernel_rfl) (du h fun x4 hx4 h=>ap [2,0] [23,24,25,26,22,27,28] [(10,pL eI x4.1),(11,pB x4.2)] (bR 3 (qi hx4) bL) (by kernel_rfl) (dn (al [(29,pB x4.2)] (by kernel_rfl) (dN h fun q10 hq10 h=>?_)))))))))
 refine az (Y:=(Option Addr×Nat)×((List Zg))) (fun ((a7,c8),l9)=>[(11,pB x4.2)]) (fun ((a7,c8),l9)=>[PRes.b b4 58 [pO a_4 p4.length c_4],PRes.b b5 46 [pO a7 l9.length c8],PRes.row a_4 p4.length c_4 57 2 (List.map Za.enc p4),PRes.row a7 l9.length c8 60 4 (List.map Zg.enc l9)]) (fun ((a7,c8),l9)=>q10=l9) ?_ ?_
 ·skip
  refine js rfl hq10 (fun hc11 hq10=>?_) fun hc11 hq10=>?_
  ·refine aa ?_
   refine cq 6 [4,2] [31,32,33,34] [(30,pO a_5 p5.length c_5),(35,.agg [pI p0.claim.Product,pI p0.claim.Agreement,pL eI x4.1,pL Za.enc x2.2])] (by kernel_rfl) (aj rfl (bG rfl rfl rfl rfl rfl (fL rfl jr) rfl rfl rfl rfl (fun b12=>ae hq10 fun l14 hl14 hq10=>?_)))
   refine aj rfl (bP (enc:=Zg.enc) rfl rfl rfl rfl rfl rfl rfl rfl rfl fF (by exact ak (ak (ak (ak (ak (ak aC)))))) hl14 (fun a15 c16=>?_))
   refine aX rfl rfl (au (vs:=[pO a15 l14.length c16]) rfl rfl rfl rfl rfl (de (de (de (de (de (de cY)))))) mG (aw ?_))
   obtain rfl:=osi hq10
   exact aG ((a15,c16),l14) (xj rfl) (aY (ak (ak (ak (ak (ak aC))))) (aY (ak (ak (ak (ak (ak aC))))) (aY (ak (ak (ak aC))) dM))) rfl
  refine ai ?_
  obtain rfl:=osi hq10
  exact aG ((a_5,c_5),p5) (xj rfl) (aY (ak (ak (ak aC))) (aY (ak (ak (ak aC))) (aY (ak aC) (aY (ak (ak aC)) bX)))) rfl
 rintro ⟨⟨a7,c8⟩,l9⟩ τ hz;(try dsimp only at hz);subst q10;(try dsimp only at h);dsimp only [aD]
 refine af (ah [38] [(7,pB x4.2)] (by kernel_rfl) (eD ?_))
 obtain rfl:=osi h
 exact aO (dh (aP rfl)) (aY aC (aY (ak aC) py)) ⟨rfl,_,_,_,_,rfl⟩
def gM (p0:(List Zb)) (p1:(List Zc)) (p2:ByteArray):Option (List Zi):=(bf (S:=(List Zi)×Int) (T:=((List Zi))) (fun (l2,v5)=>cond (decide (v5<(p0.length:Int))) ((idx p0 v5).bind fun m14=>(bf (S:=(List Zi)×Int) (T:=((List Zi))) (fun (l17,v20)=>cond (decide (v20<(p1.length:Int))) (((idx p1 v20).bind fun m33=>(dA m33 m14.Code).bind fun x36=>(gd x36.2 (bZ p0 p1 p2 (⟨m14.ID,m33.ID⟩:Za))).bind fun x38=>cond (x36.2&&x38) ((app 112 l17 [(⟨(⟨m14.ID,m33.ID⟩:Za),x36.1⟩:Zi)]).bind fun l42=>some l42) (some l17)).bind fun l31=>some (.inl (l31,(IntKind.i64.wrap (v20+1))))) (some (.inr l17))) FUEL (l2,0)).bind fun l24=>some (.inl (l24,(IntKind.i64.wrap (v5+1))))) (some (.inr l2))) FUEL (([]:List Zi),0)).bind fun l9=>some l9
theorem mH {p0:(List Zb)} {p1:(List Zc)} {p2:ByteArray} {r:(List Zi)}  (h:gM p0 p1 p2=some r):PF 46 [pL Zb.enc p0,pL Zc.enc p1,pS p2] (pL Zi.enc r):=by
 unfold gM at h
 refine br ?_
 refine eW Tryz.func46 rfl Tryz.ntmps46 Tryz.results46 rfl (aU [6] (by kernel_rfl) (bM (al [(7,pN)] (by kernel_rfl) (dn (al [(15,pL Zb.enc p0),(16,pI (p0.length:Int)),(17,pI 0)] (by kernel_rfl) (aL (bI 106 9 (ae h fun q11 hq11 h=>?_))))))))
 refine az (Y:=(Option Addr×Nat)×((List Zi))) (fun ((a7,c8),l9)=>[(7,pO a7 l9.length c8)]) (fun ((a7,c8),l9)=>[PRes.row a7 l9.length c8 106 9 (List.map Zi.enc l9)]) (fun ((a7,c8),l9)=>q11=l9) ?_ ?_
 ·refine aJ ?_
  refine aK (Y:=Option Addr×Nat) (S:=(List Zi)×Int) _ hq11 (fun (a3,c4) (l2,v5)=>[(0,pL Zb.enc p0),(1,pL Zc.enc p1),(2,pS p2),(7,pO a3 l2.length c4),(15,pL Zb.enc p0),(16,pI (p0.length:Int)),(17,pI v5)]) (fun (a3,c4) (l2,v5)=>[PRes.row a3 l2.length c4 106 9 (List.map Zi.enc l2)]) (none,0) (ol rfl) dM ?_
  rintro ⟨a3,c4⟩ ⟨l2,v5⟩ o τ hb10;(try dsimp only at hb10);dsimp only [aD]
  refine af (al [(18,pB (decide (v5<(p0.length:Int))))] (by kernel_rfl) (bM (js rfl hb10 (fun hc13 hb10=>?_) fun hc13 hb10=>?_)))
  ·refine ai ?_
   refine bM (gX (ae hb10 fun m14 hm14 hb10=>aa (bm 2 [] [19] [(20,.agg (aZ m14))] (fG 0 Zb.enc hm14 bL) (by kernel_rfl) (aj rfl (aT (cs:=[pI 0,pS ByteArray.empty,pS ByteArray.empty,pI 0,pB false,pN,pN]) rfl rfl rfl rfl (fun b15=>aX rfl rfl (au (vs:=(aZ m14)) rfl rfl rfl rfl rfl cY om (aw (bM (al [(21,pL Zc.enc p1),(22,pI (p1.length:Int)),(23,pI 0)] (by kernel_rfl) (dN hb10 fun q26 hq26 hb10=>?_)))))))))))
   refine ki (Y:=(Option Addr×Nat)×((List Zi))) (fun ((a22,c23),l24)=>[(0,pL Zb.enc p0),(1,pL Zc.enc p1),(2,pS p2),(7,pO a22 l24.length c23),(15,pL Zb.enc p0),(16,pI (p0.length:Int)),(17,pI v5)]) (fun ((a22,c23),l24)=>[PRes.row a22 l24.length c23 106 9 (List.map Zi.enc l24)]) (fun ((a22,c23),l24)=>q26=l24) ?_ ?_
   ·refine aJ ?_
    refine aK (Y:=Option Addr×Nat) (S:=(List Zi)×Int) _ hq26 (fun (a18,c19) (l17,v20)=>[(0,pL Zb.enc p0),(1,pL Zc.enc p1),(2,pS p2),(7,pO a18 l17.length c19),(9,pP b15 0),(15,pL Zb.enc p0),(16,pI (p0.length:Int)),(17,pI v5),(21,pL Zc.enc p1),(22,pI (p1.length:Int)),(23,pI v20)]) (fun (a18,c19) (l17,v20)=>[PRes.b b15 52 (aZ m14),PRes.row a18 l17.length c19 106 9 (List.map Zi.enc l17)]) (a3,c4) (gP rfl (gP rfl (Ay rfl))) py ?_
    rintro ⟨a18,c19⟩ ⟨l17,v20⟩ o τ hb25;(try dsimp only at hb25);dsimp only [aD]
    refine af (al [(24,pB (decide (v20<(p1.length:Int))))] (by kernel_rfl) (bM (js rfl hb25 (fun hc27 hb25=>?_) fun hc27 hb25=>?_)))
    ·refine ai ?_
     refine du hb25 fun q32 hq32 hb25=>?_
     refine az (Y:=(Option Addr×Nat)×((List Zi))) (fun ((a29,c30),l31)=>[(0,pL Zb.enc p0),(1,pL Zc.enc p1),(2,pS p2),(7,pO a29 l31.length c30),(9,pP b15 0),(15,pL Zb.enc p0),(16,pI (p0.length:Int)),(17,pI v5),(21,pL Zc.enc p1),(22,pI (p1.length:Int)),(23,pI v20)]) (fun ((a29,c30),l31)=>[PRes.b b15 52 (aZ m14),PRes.row a29 l31.length c30 106 9 (List.map Zi.enc l31)]) (fun ((a29,c30),l31)=>q32=l31) ?_ ?_
     ·skip
      refine gX (ae hq32 fun m33 hm33 hq32=>aa (bm 2 [] [25] [(26,.agg (aQ m33))] (fG 0 Zc.enc hm33 bL) (by kernel_rfl) (aj rfl (aT (cs:=[pI 0,pI 0,pN,pN]) rfl rfl rfl rfl (fun b34=>aX rfl rfl (au (vs:=(aQ m33)) rfl rfl rfl rfl rfl cY Bq (aw (bM (aa (cq 5 [1,0] [27,28,29,30] [(31,.agg [pI m14.ID,pI m33.ID])] (by kernel_rfl) (aj rfl (aT (cs:=[pI 0,pI 0]) rfl rfl rfl rfl (fun b35=>aX rfl rfl (au (vs:=[pI m14.ID,pI m33.ID]) rfl rfl rfl rfl rfl cY Bp (aw (du hq32 fun x36 hx36 hq32=>aa (bm 7 [1,2] [33,34,35,36,32] [(37,.agg (aN x36.1)),(38,pB x36.2)] (bR 3 (jA hx36) bL) (by kernel_rfl) (aj rfl (aT (cs:=[pI 0,pI 0,pN,pI 0,pI 0,pS ByteArray.empty,pN]) rfl rfl rfl rfl (fun b37=>aX rfl rfl (au (vs:=(aN x36.1)) rfl rfl rfl rfl rfl cY om (aM [(14,pB x36.2)] (by kernel_rfl) (du hq32 fun x38 hx38 hq32=>ap [1] (rg 39 7) [(46,pB (x36.2&&x38))] (gC 6 (fun hc=>hY (gq hx38 hc)) bL) (by kernel_rfl) (cg rfl hq32 (fun hc39 hq32=>?_) fun hc39 hq32=>?_))))))))))))))))))))))))
      ·refine aa ?_
       refine cq 4 [1,0] [48,49] [(47,pO a18 l17.length c19),(50,.agg [pI m14.ID,pI m33.ID,pI x36.1.Kind,pI x36.1.Digits,pL eS x36.1.Except,pI x36.1.Tolerance,pI x36.1.Limit,pS x36.1.Name,pL Ze.enc x36.1.Args])] (by kernel_rfl) (aj rfl (bG rfl rfl rfl rfl rfl (fL rfl jr) rfl rfl rfl rfl (fun b40=>ae hq32 fun l42 hl42 hq32=>?_)))
       refine aj rfl (bP (enc:=Zi.enc) rfl rfl rfl rfl rfl rfl rfl rfl rfl fF (by exact ak (ak (ak (ak (ak aC))))) hl42 (fun a43 c44=>?_))
       refine aM [(7,pO a43 l42.length c44)] (by kernel_rfl) (aH ?_)
       obtain rfl:=osi hq32
       exact aG ((a43,c44),l42) (gP rfl (gP rfl (Ay rfl))) (aY (ak (ak (ak (ak (ak aC))))) dM) rfl
      refine ai ?_
      refine aH ?_
      obtain rfl:=osi hq32
      exact aG ((a18,c19),l17) (gP rfl (gP rfl (Ay rfl))) (aY (ak (ak (ak aC))) (aY (ak (ak (ak aC))) bX)) rfl
     rintro ⟨⟨a29,c30⟩,l31⟩ τ hz;(try dsimp only at hz);subst q32;(try dsimp only at hb25);dsimp only [aD]
     refine ah [53] [(23,pI (IntKind.i64.wrap (v20+1)))] (by kernel_rfl) ?_
     exact bd hb25 (a29,c30) (gP rfl (gP rfl (Ay rfl))) py
    refine aR ?_
    refine av (an hb25 (fun ht=>ar rfl ?_))
    exact gQ ((a18,c19),l17) (ol rfl) (aY (ak aC) bX) ht.symm
   rintro ⟨⟨a22,c23⟩,l24⟩ τ ρ1 hsub46 hz;(try dsimp only at hz hsub46);subst q26;(try dsimp only at hb10);dsimp only [aD]
   refine mn (oA hsub46 (ah [54] [(17,pI (IntKind.i64.wrap (v5+1)))] (by kernel_rfl) ?_))
   exact bd hb10 (a22,c23) (ol rfl) dM
  refine aR ?_
  refine av (an hb10 (fun ht=>ar rfl ?_))
  exact aG ((a3,c4),l2) (xj rfl) dM ht.symm
 rintro ⟨⟨a7,c8⟩,l9⟩ τ hz;(try dsimp only at hz);subst q11;(try dsimp only at h);dsimp only [aD]
 refine af (ah [55] [(6,pO a7 l9.length c8)] (by kernel_rfl) (aL ?_))
 refine fk (enc:=Zi.enc) (xs:=l9) 6 rfl (by exact aC) ?_
 refine bS ?_
 exact zz r h rfl
def f8 (p0:(List Zb)) (p1:(List Zc)) (p2:ByteArray):Option ((List Zg)×Int):=(cO p0).bind fun x4=>cond (x4 != 0) (some ([],x4)) ((cP p1).bind fun x6=>cond (x6 != 0) (some ([],x6)) ((bK p2).bind fun x8=>cond (!x8) (some ([],(1:Int))) ((gM p0 p1 p2).bind fun x12=>(bf (S:=(List Zi)×(List Zg)×(List Za)) (T:=(Unit)⊕(_)) (fun (l13,l15,l19)=>(bf (S:=(List Zi)×Int×(List Zg)×(List Za)) (T:=((List Zi)×(List Zg)×(List Za))) (fun (l27,v30,l32,l36)=>cond (decide (v30<(l13.length:Int))) (((idx l13 v30).bind fun m68=>(el m68 p0 p1 p2 l36 l32).bind fun x70=>cond (!x70.1) ((app 112 l27 [m68]).bind fun l80=>some (l80,x70.2.2,x70.2.1)) (some (l27,x70.2.2,x70.2.1))).bind fun (l58,l62,l66)=>some (.inl (l58,(IntKind.i64.wrap (v30+1)),l62,l66))) (some (.inr (l27,l32,l36)))) FUEL (([]:List Zi),0,l15,l19)).bind fun (l42,l46,l50)=>cond (((l46.length:Nat):Int) == ((l15.length:Nat):Int)) (some (.inr (.inr (l46,(0:Int))))) ((sub l46 ((l15.length:Nat):Int) (l46.length:Int)).bind fun l85=>(bf (S:=Int×(List Za)) (T:=((List Za))) (fun (v86,l88)=>cond (decide (v86<((l46.length - ((l15.length:Nat):Int).toNat:Nat):Int))) ((lv v86).bind fun u100=>(idx l46 (((l15.length:Nat):Int)+v86)).bind fun m101=>(app 16 l88 [m101.Claim]).bind fun l105=>some (.inl ((IntKind.i64.wrap (v86+1)),l105))) (some (.inr l88))) FUEL (0,l50)).bind fun l96=>some (.inl (l42,l46,l96)))) FUEL (x12,([]:List Zg),([]:List Za))).bind fun q=>match q with | .inl _=>none | .inr e=>some e)))
theorem qj {p0:(List Zb)} {p1:(List Zc)} {p2:ByteArray} {r:((List Zg)×Int)}  (h:f8 p0 p1 p2=some r):PF 17 [pL Zb.enc p0,pL Zc.enc p1,pS p2] (.tup [pL Zg.enc r.1,pI r.2]):=by
 unfold f8 at h
 refine br ?_
 refine eW Tryz.func17 rfl Tryz.ntmps17 Tryz.results17 rfl (aa (aj rfl (bE (cs:=[pL Zb.enc p0]) rfl rfl (fun b1=>aj rfl (bE (cs:=[pL Zc.enc p1]) rfl rfl (fun b2=>aj rfl (bE (cs:=[pS p2]) rfl rfl (fun b3=>bA [6,7] (by kernel_rfl) (dn (ae h fun x4 hx4 h=>ap [2] [20,21] [(8,pI x4)] (bR 1 (iV hx4) bL) (by kernel_rfl) (bM (ah [22] [(23,pB (x4 != 0))] (by kernel_rfl) (cg rfl h (fun hc5 h=>?_) fun hc5 h=>?_)))))))))))))
 ·refine af ?_
  refine ah [24] [(6,pN),(7,pI x4)] (by kernel_rfl) (aL (jU 6 rfl (bS (aq ?_))))
  obtain rfl:=osi h
  exact aO (ec (aP rfl) (aP rfl)) bX ⟨rfl,rfl⟩
 refine ai ?_
 refine dn (ae h fun x6 hx6 h=>ap [1] [25,26] [(9,pI x6)] (bR 1 (iX hx6) bL) (by kernel_rfl) (bM (ah [27] [(28,pB (x6 != 0))] (by kernel_rfl) (cg rfl h (fun hc7 h=>?_) fun hc7 h=>?_))))
 ·refine af ?_
  refine ah [29] [(6,pN),(7,pI x6)] (by kernel_rfl) (aL (jU 6 rfl (bS (aq ?_))))
  obtain rfl:=osi h
  exact aO (ec (aP rfl) (aP rfl)) bX ⟨rfl,rfl⟩
 refine ai ?_
 refine dn (ae h fun x8 hx8 h=>ap [0] [30,31] [(32,pB (!x8))] (bR 1 (dw hx8) bL) (by kernel_rfl) (cg rfl h (fun hc9 h=>?_) fun hc9 h=>?_))
 ·refine af ?_
  refine al [(6,pN),(7,pI 1)] (by kernel_rfl) (aL (jU 6 rfl (bS (aq ?_))))
  obtain rfl:=osi h
  exact aO (ec (aP rfl) (aP rfl)) bX ⟨rfl,rfl⟩
 refine ai ?_
 refine bM (aa (aj rfl (aT (cs:=[pN]) rfl rfl rfl rfl (fun b10=>aw (bM (aa (aj rfl (aT (cs:=[pN]) rfl rfl rfl rfl (fun b11=>aw (bM (aa ?_)))))))))))
 refine jo 3 rfl (by exact ak (ak (ak (ak aC)))) ?_
 refine jo 4 rfl (by exact ak (ak (ak (ak aC)))) ?_
 refine jo 5 rfl (by exact ak (ak (ak (ak aC)))) ?_
 refine fu [33] [(12,.fn 43 [.ref [pL Zb.enc p0] 0,.ref [pL Zc.enc p1] 0,.ref [pS p2] 0,pP b11 0,pP b10 0])] (by kernel_rfl) (du h fun x12 hx12 h=>ap [] [34,35,36,37] [(13,pL Zi.enc x12)] (bR 3 (mH hx12) bL) (by kernel_rfl) (aL (bI 60 4 (bI 57 2 (ae h fun q23 hq23 h=>aJ ?_)))))
 refine aK (Y:=Option Addr×Nat×Option Addr×Nat) (S:=(List Zi)×(List Zg)×(List Za)) _ hq23 (fun (a16,c17,a20,c21) (l13,l15,l19)=>[(10,pP b10 0),(11,pP b11 0),(12,.fn 43 [.ref [pL Zb.enc p0] 0,.ref [pL Zc.enc p1] 0,.ref [pS p2] 0,pP b11 0,pP b10 0]),(13,pL Zi.enc l13)]) (fun (a16,c17,a20,c21) (l13,l15,l19)=>[PRes.b b10 46 [pO a16 l15.length c17],PRes.b b11 58 [pO a20 l19.length c21],PRes.row a16 l15.length c17 60 4 (List.map Zg.enc l15),PRes.row a20 l19.length c21 57 2 (List.map Za.enc l19)]) (none,0,none,0) (jt rfl) (aY (ak (ak (ak (ak (ak (ak aC)))))) (aY (ak (ak (ak (ak (ak aC))))) (aY (ak aC) dM))) ?_
 rintro ⟨a16,c17,a20,c21⟩ ⟨l13,l15,l19⟩ o τ hb22;(try dsimp only at hb22);dsimp only [aD]
 refine gX (al [(14,pN)] (by kernel_rfl) (bM (bc [0] [38,39] [(15,pI ((l15.length:Nat):Int))] (by kernel_rfl) (dn (al [(40,pL Zi.enc l13),(41,pI (l13.length:Int)),(42,pI 0)] (by kernel_rfl) (aL (bI 106 9 (ae hb22 fun q52 hq52 hb22=>?_))))))))
 refine az (Y:=(Option Addr×Nat×Option Addr×Nat×Option Addr×Nat)×((List Zi)×(List Zg)×(List Za))) (fun ((a40,c41,a44,c45,a48,c49),(l42,l46,l50))=>[(10,pP b10 0),(11,pP b11 0),(12,.fn 43 [.ref [pL Zb.enc p0] 0,.ref [pL Zc.enc p1] 0,.ref [pS p2] 0,pP b11 0,pP b10 0]),(14,pO a40 l42.length c41),(15,pI ((l15.length:Nat):Int))]) (fun ((a40,c41,a44,c45,a48,c49),(l42,l46,l50))=>[PRes.b b10 46 [pO a44 l46.length c45],PRes.b b11 58 [pO a48 l50.length c49],PRes.row a40 l42.length c41 106 9 (List.map Zi.enc l42),PRes.row a44 l46.length c45 60 4 (List.map Zg.enc l46),PRes.row a48 l50.length c49 57 2 (List.map Za.enc l50)]) (fun ((a40,c41,a44,c45,a48,c49),(l42,l46,l50))=>q52=(l42,l46,l50)) ?_ ?_
 ·refine aJ ?_
  refine aK (Y:=Option Addr×Nat×Option Addr×Nat×Option Addr×Nat) (S:=(List Zi)×Int×(List Zg)×(List Za)) _ hq52 (fun (a28,c29,a33,c34,a37,c38) (l27,v30,l32,l36)=>[(10,pP b10 0),(11,pP b11 0),(12,.fn 43 [.ref [pL Zb.enc p0] 0,.ref [pL Zc.enc p1] 0,.ref [pS p2] 0,pP b11 0,pP b10 0]),(14,pO a28 l27.length c29),(15,pI ((l15.length:Nat):Int)),(40,pL Zi.enc l13),(41,pI (l13.length:Int)),(42,pI v30)]) (fun (a28,c29,a33,c34,a37,c38) (l27,v30,l32,l36)=>[PRes.b b10 46 [pO a33 l32.length c34],PRes.b b11 58 [pO a37 l36.length c38],PRes.row a28 l27.length c29 106 9 (List.map Zi.enc l27),PRes.row a33 l32.length c34 60 4 (List.map Zg.enc l32),PRes.row a37 l36.length c38 57 2 (List.map Za.enc l36)]) (none,0,a16,c17,a20,c21) (nH rfl) (aY (ak aC) (aY (ak aC) zs3)) ?_
  rintro ⟨a28,c29,a33,c34,a37,c38⟩ ⟨l27,v30,l32,l36⟩ o τ hb51;(try dsimp only at hb51);dsimp only [aD]
  refine af (al [(43,pB (decide (v30<(l13.length:Int))))] (by kernel_rfl) (bM (js rfl hb51 (fun hc54 hb51=>?_) fun hc54 hb51=>?_)))
  ·refine ai ?_
   refine du hb51 fun q67 hq67 hb51=>?_
   refine az (Y:=(Option Addr×Nat×Option Addr×Nat×Option Addr×Nat)×((List Zi)×(List Zg)×(List Za))) (fun ((a56,c57,a60,c61,a64,c65),(l58,l62,l66))=>[(10,pP b10 0),(11,pP b11 0),(12,.fn 43 [.ref [pL Zb.enc p0] 0,.ref [pL Zc.enc p1] 0,.ref [pS p2] 0,pP b11 0,pP b10 0]),(14,pO a56 l58.length c57),(15,pI ((l15.length:Nat):Int)),(40,pL Zi.enc l13),(41,pI (l13.length:Int)),(42,pI v30)]) (fun ((a56,c57,a60,c61,a64,c65),(l58,l62,l66))=>[PRes.b b10 46 [pO a60 l62.length c61],PRes.b b11 58 [pO a64 l66.length c65],PRes.row a56 l58.length c57 106 9 (List.map Zi.enc l58),PRes.row a60 l62.length c61 60 4 (List.map Zg.enc l62),PRes.row a64 l66.length c65 57 2 (List.map Za.enc l66)]) (fun ((a56,c57,a60,c61,a64,c65),(l58,l62,l66))=>q67=(l58,l62,l66)) ?_ ?_
   ·skip
    refine gX (ae hq67 fun m68 hm68 hq67=>aa (bm 2 [] [44] [(45,.agg (cV m68))] (fG 0 Zi.enc hm68 bL) (by kernel_rfl) (aj rfl (aT (cs:=[pI 0,pI 0,pI 0,pI 0,pN,pI 0,pI 0,pS ByteArray.empty,pN]) rfl rfl rfl rfl (fun b69=>aX rfl rfl (au (vs:=(cV m68)) rfl rfl rfl rfl rfl cY zl9 (aw (du hq67 fun x70 hx70 hq67=>aa (fO 2 [0] [(46,.fn 43 [.ref [pL Zb.enc p0] 0,.ref [pL Zc.enc p1] 0,.ref [pS p2] 0,pP b11 0,pP b10 0]),(47,.agg (cV m68))] (by kernel_rfl) ?_)))))))))
    refine aj rfl (th rfl rfl rfl (ρ1:=[_,_,_,_]) (aF (by exact ak (ak aC)) (aF (by exact ak (ak (ak (ak aC)))) (aF (by exact ak aC) (aF (by exact ak (ak aC)) (List.Perm.refl _))))) (kV hx70) ?_);rintro _ _ ⟨rfl,a71,c72,a73,c74,rfl⟩
    refine aM [(49,pB (!x70.1))] (by kernel_rfl) (cg rfl hq67 (fun hc77 hq67=>?_) fun hc77 hq67=>?_)
    ·refine aa ?_
     refine fO 2 [4] [(50,pO a28 l27.length c29),(51,.agg (cV m68))] (by kernel_rfl) (aj rfl (bG rfl rfl rfl rfl rfl (fL rfl jr) rfl rfl rfl rfl (fun b78=>ae hq67 fun l80 hl80 hq67=>?_)))
     refine aj rfl (bP (enc:=Zi.enc) rfl rfl rfl rfl rfl rfl rfl rfl rfl fF (by exact ak (ak (ak (ak (ak (ak aC)))))) hl80 (fun a81 c82=>?_))
     refine aM [(14,pO a81 l80.length c82)] (by kernel_rfl) (aH ?_)
     obtain rfl:=osi hq67
     exact aG ((a81,c82,a73,c74,a71,c72),(l80,x70.2.2,x70.2.1)) (nH rfl) (aY (ak (ak (ak (ak aC)))) (aY (ak (ak aC)) (aY aC (aY (ak (ak aC)) (aY (ak aC) bX))))) rfl
    refine ai ?_
    refine aH ?_
    obtain rfl:=osi hq67
    exact aG ((a28,c29,a73,c74,a71,c72),(l27,x70.2.2,x70.2.1)) (nH rfl) (aY (ak (ak aC)) (aY aC (aY (ak (ak (ak aC))) (aY (ak aC) dM)))) rfl
   rintro ⟨⟨a56,c57,a60,c61,a64,c65⟩,⟨l58,l62,l66⟩⟩ τ hz;(try dsimp only at hz);subst q67;(try dsimp only at hb51);dsimp only [aD]
   refine ah [54] [(42,pI (IntKind.i64.wrap (v30+1)))] (by kernel_rfl) ?_
   exact bd hb51 (a56,c57,a60,c61,a64,c65) (nH rfl) zs5
  refine aR ?_
  refine av (an hb51 (fun ht=>ar rfl ?_))
  exact aG ((a28,c29,a33,c34,a37,c38),(l27,l32,l36)) (mO rfl) zs5 ht.symm
 rintro ⟨⟨a40,c41,a44,c45,a48,c49⟩,⟨l42,l46,l50⟩⟩ τ hz;(try dsimp only at hz);subst q52;(try dsimp only at hb22);dsimp only [aD]
 refine af (af (bc [0] [55,56,57] [(58,pB (((l46.length:Nat):Int) == ((l15.length:Nat):Int)))] (by kernel_rfl) (cg rfl hb22 (fun hc84 hb22=>?_) fun hc84 hb22=>?_)))
 ·refine af ?_
  refine bc [0] [59] [(6,pO a44 l46.length c45),(7,pI 0)] (by kernel_rfl) (aL ?_)
  refine fk (enc:=Zg.enc) (xs:=l46) 6 rfl (by exact ak (ak (ak aC))) ?_
  refine bS (aq (aA ?_))
  refine aS hb22 (fun ht=>?_);subst ht
  refine aA ?_
  obtain rfl:=osi h
  exact aO (ec (aP rfl) (aP rfl)) bX ⟨rfl,rfl⟩
 refine ai ?_
 refine dn (ae hb22 fun l85 hl85 hb22=>aa (fO 2 [0] [(60,pO a44 l46.length c45),(61,pI ((l15.length:Nat):Int))] (by kernel_rfl) (bD rfl rfl rfl (jj (enc:=Zg.enc) (xs:=l46) rfl rfl rfl rfl rfl zG hl85) (aM [(63,pI ((l46.length - ((l15.length:Nat):Int).toNat:Nat):Int)),(64,pI 0)] (by kernel_rfl) (dN hb22 fun q98 hq98 hb22=>?_)))))
 refine az (Y:=(Option Addr×Nat)×((List Za))) (fun ((a94,c95),l96)=>[(10,pP b10 0),(11,pP b11 0),(12,.fn 43 [.ref [pL Zb.enc p0] 0,.ref [pL Zc.enc p1] 0,.ref [pS p2] 0,pP b11 0,pP b10 0]),(14,pO a40 l42.length c41)]) (fun ((a94,c95),l96)=>[PRes.b b10 46 [pO a44 l46.length c45],PRes.b b11 58 [pO a94 l96.length c95],PRes.row a40 l42.length c41 106 9 (List.map Zi.enc l42),PRes.row a44 l46.length c45 60 4 (List.map Zg.enc l46),PRes.row a94 l96.length c95 57 2 (List.map Za.enc l96)]) (fun ((a94,c95),l96)=>q98=l96) ?_ ?_
 ·refine aJ ?_
  refine aK (Y:=Option Addr×Nat) (S:=Int×(List Za)) _ hq98 (fun (a89,c90) (v86,l88)=>[(10,pP b10 0),(11,pP b11 0),(12,.fn 43 [.ref [pL Zb.enc p0] 0,.ref [pL Zc.enc p1] 0,.ref [pS p2] 0,pP b11 0,pP b10 0]),(14,pO a40 l42.length c41),(62,pQ a44 l46.length c45 ((l15.length:Nat):Int).toNat 4),(63,pI ((l46.length - ((l15.length:Nat):Int).toNat:Nat):Int)),(64,pI v86)]) (fun (a89,c90) (v86,l88)=>[PRes.b b10 46 [pO a44 l46.length c45],PRes.b b11 58 [pO a89 l88.length c90],PRes.row a40 l42.length c41 106 9 (List.map Zi.enc l42),PRes.row a44 l46.length c45 60 4 (List.map Zg.enc l46),PRes.row a89 l88.length c90 57 2 (List.map Za.enc l88)]) (a48,c49) (ol rfl) zs5 ?_
  rintro ⟨a89,c90⟩ ⟨v86,l88⟩ o τ hb97;(try dsimp only at hb97);dsimp only [aD]
  refine af (al [(65,pB (decide (v86<((l46.length - ((l15.length:Nat):Int).toNat:Nat):Int))))] (by kernel_rfl) (bM (js rfl hb97 (fun hc99 hb97=>?_) fun hc99 hb97=>?_)))
  ·refine ai ?_
   refine bM (gX (ae hb97 fun u100 hu100 hb97=>ae hb97 fun m101 hm101 hb97=>aa (bD rfl rfl rfl (gD (enc:=Zg.enc) (xs:=l46) (i:=((l15.length:Nat):Int)) rfl rfl rfl rfl rfl (ft hl85).1.1 (iO hu100) zG hm101) (bD rfl rfl rfl (ca (sz:=4) (p:=.agg (ed m101)) (enc:=Zg.enc) (xs:=l46) (a:=a44) (((l15.length:Nat):Int)+v86) 0 m101 rfl (.p rfl) rfl zG (fun _=>hm101) rfl) (aj rfl (aT (cs:=[pI 0,pI 0,pN,pN]) rfl rfl rfl rfl (fun b102=>aX rfl rfl (au (vs:=(ed m101)) rfl rfl rfl rfl rfl cY Bq (aw (aL (aa (cq 3 [2,0] [69] [(68,pO a89 l88.length c90),(70,.agg [pI m101.Claim.Product,pI m101.Claim.Agreement])] (by kernel_rfl) (aj rfl (bG rfl rfl rfl rfl rfl (fL rfl jr) rfl rfl rfl rfl (fun b103=>ae hb97 fun l105 hl105 hb97=>?_)))))))))))))))
   refine aj rfl (bP (enc:=Za.enc) rfl rfl rfl rfl rfl rfl rfl rfl rfl fF (by exact ak (ak (ak (ak (ak (ak aC)))))) hl105 (fun a106 c107=>?_))
   refine aX rfl rfl (au (vs:=[pO a106 l105.length c107]) rfl rfl rfl rfl rfl (de (de (de (de cY)))) mG (aw (mn (ah [73] [(64,pI (IntKind.i64.wrap (v86+1)))] (by kernel_rfl) ?_))))
   exact bd hb97 (a106,c107) (ol rfl) (aY (ak (ak (ak aC))) (aY (ak (ak (ak aC))) (aY (ak (ak (ak aC))) (aY (ak (ak (ak aC))) dM))))
  refine aR ?_
  refine av (an hb97 (fun ht=>ar rfl ?_))
  exact aG ((a89,c90),l88) (jt rfl) zs5 ht.symm
 rintro ⟨⟨a94,c95⟩,l96⟩ τ hz;(try dsimp only at hz);subst q98;(try dsimp only at hb22);dsimp only [aD]
 refine ah [74] [(13,pO a40 l42.length c41)] (by kernel_rfl) (aH ?_)
 refine px (vG (enc:=Zi.enc) (xs:=l42) 13 rfl (by exact ak (ak aC))) ?_
 exact bd hb22 (a44,c45,a94,c95) (jt rfl) (aY (ak aC) (aY (ak aC) (aY (ak aC) (aY (ak aC) bX))))
def jB  : Option Bool:=(f8 [(⟨1,(⟨#[57,52,48,49,48,49]⟩:ByteArray),(⟨#[65,65]⟩:ByteArray),10,false,[],[(⟨1,5⟩:Zf)]⟩:Zb),(⟨2,(⟨#[57,52,48,49,48,50]⟩:ByteArray),(⟨#[65,65]⟩:ByteArray),10,false,[],[(⟨1,5⟩:Zf)]⟩:Zb)] [(⟨7,1,[(⟨#[65,65]⟩:ByteArray),(⟨#[67,67]⟩:ByteArray)],[(⟨(⟨#[57,52]⟩:ByteArray),(⟨2,6,[],0,0,ByteArray.empty,[]⟩:Ze)⟩:Zk)]⟩:Zc)] (⟨#[67,67]⟩:ByteArray)).bind fun x14=>(gd ((x14.2 == 0)&&((x14.1.length:Int) == 1)) (gH x14.1 (⟨2,7⟩:Za))).bind fun x15=>(gd (((x14.2 == 0)&&((x14.1.length:Int) == 1))&&x15) (gH x14.1 (⟨1,7⟩:Za))).bind fun x16=>some ((((x14.2 == 0)&&((x14.1.length:Int) == 1))&&x15)&&(!x16))
theorem rM  {r:Bool}  (h:jB  = some r):PF 19 [] (pB r):=by
 unfold jB at h
 refine br ?_
 refine eW Tryz.func19 rfl Tryz.ntmps19 Tryz.results19 rfl (aU [0] (by kernel_rfl) (bM (aa (am 1 [(6,.agg [pI 2,pI 6,pN,pI 0,pI 0,pS ByteArray.empty,pN])] (by kernel_rfl) (aj rfl (aT (cs:=[pI 0,pI 0,pN,pI 0,pI 0,pS ByteArray.empty,pN]) rfl rfl rfl rfl (fun b1=>aX rfl rfl (au (vs:=[pI 2,pI 6,pN,pI 0,pI 0,pS ByteArray.empty,pN]) rfl rfl rfl rfl rfl cY om (aw (bM (aa (aj rfl (bG rfl rfl rfl rfl rfl (fL rfl (fL rfl jr)) rfl rfl rfl rfl (fun b2=>oB (k:=2) (b:=b1) rfl (de cY) (oB (k:=6) (b:=b1) rfl (de cY) (cq 2 [1] [8] [(9,.agg [pS (⟨#[57,52]⟩:ByteArray),pI 2,pI 6,pL eS [],pI 0,pI 0,pS ByteArray.empty,pL Ze.enc []])] (by kernel_rfl) (aj rfl (bG rfl rfl rfl rfl rfl (fL rfl jr) rfl rfl rfl rfl (fun b4=>?_)))))))))))))))))))
 refine eH (enc:=eS) (xs:=[(⟨#[65,65]⟩:ByteArray),(⟨#[67,67]⟩:ByteArray)]) 7 rfl (by exact ak aC) ?_
 refine eH (enc:=Zk.enc) (xs:=[(⟨(⟨#[57,52]⟩:ByteArray),(⟨2,6,[],0,0,ByteArray.empty,[]⟩:Ze)⟩:Zk)]) 10 rfl (by exact ak aC) ?_
 refine am 1 [(11,.agg [pI 7,pI 1,pL eS [(⟨#[65,65]⟩:ByteArray),(⟨#[67,67]⟩:ByteArray)],pL Zk.enc [(⟨(⟨#[57,52]⟩:ByteArray),(⟨2,6,[],0,0,ByteArray.empty,[]⟩:Ze)⟩:Zk)]])] (by kernel_rfl) (aj rfl (bG rfl rfl rfl rfl rfl (fL rfl jr) rfl rfl rfl rfl (fun b6=>aM [(2,pO (some ⟨b6,0,none⟩) 1 1)] (by kernel_rfl) (bM (aa (am 1 [(13,.agg [pI 1,pI 5])] (by kernel_rfl) (aj rfl (bG rfl rfl rfl rfl rfl (fL rfl jr) rfl rfl rfl rfl (fun b8=>?_)))))))))
 refine eH (enc:=Zf.enc) (xs:=[(⟨1,5⟩:Zf)]) 14 rfl (by exact aC) ?_
 refine am 2 [(15,.agg [pI 1,pS (⟨#[57,52,48,49,48,49]⟩:ByteArray),pS (⟨#[65,65]⟩:ByteArray),pI 10,pB false,pN,pL Zf.enc [(⟨1,5⟩:Zf)]]),(16,.agg [pI 1,pI 5])] (by kernel_rfl) (aj rfl (bG rfl rfl rfl rfl rfl (fL rfl jr) rfl rfl rfl rfl (fun b10=>?_)))
 refine eH (enc:=Zf.enc) (xs:=[(⟨1,5⟩:Zf)]) 17 rfl (by exact aC) ?_
 refine am 1 [(18,.agg [pI 2,pS (⟨#[57,52,48,49,48,50]⟩:ByteArray),pS (⟨#[65,65]⟩:ByteArray),pI 10,pB false,pN,pL Zf.enc [(⟨1,5⟩:Zf)]])] (by kernel_rfl) (rk 15 5 rfl rfl (rk 18 5 rfl rfl (aj rfl (bG rfl rfl rfl rfl rfl (fL rfl (fL rfl jr)) rfl rfl rfl rfl (fun b12=>aM [(3,pO (some ⟨b12,0,none⟩) 2 2)] (by kernel_rfl) (bM (aa (am 2 [(21,pO (some ⟨b12,0,none⟩) 2 2),(22,pO (some ⟨b6,0,none⟩) 1 1)] (by kernel_rfl) ?_))))))))
 refine eH (enc:=Zb.enc) (xs:=[(⟨1,(⟨#[57,52,48,49,48,49]⟩:ByteArray),(⟨#[65,65]⟩:ByteArray),10,false,[],[(⟨1,5⟩:Zf)]⟩:Zb),(⟨2,(⟨#[57,52,48,49,48,50]⟩:ByteArray),(⟨#[65,65]⟩:ByteArray),10,false,[],[(⟨1,5⟩:Zf)]⟩:Zb)]) 21 rfl (by exact aC) ?_
 refine eH (enc:=Zc.enc) (xs:=[(⟨7,1,[(⟨#[65,65]⟩:ByteArray),(⟨#[67,67]⟩:ByteArray)],[(⟨(⟨#[57,52]⟩:ByteArray),(⟨2,6,[],0,0,ByteArray.empty,[]⟩:Ze)⟩:Zk)]⟩:Zc)]) 22 rfl (by exact ak (ak (ak aC))) ?_
 refine ae h fun x14 hx14 h=>gr [] [23,20,24,25] [(4,pL Zg.enc x14.1),(5,pI x14.2)] (bR 0 (qj hx14) bL) (by kernel_rfl) (du h fun x15 hx15 h=>ae h fun x16 hx16 h=>ap [] (rg 26 18) [(0,pB ((((x14.2 == 0)&&((x14.1.length:Int) == 1))&&x15)&&(!x16)))] (gC 10 (fun hc=>lm (gq hx15 hc)) (gC 15 (fun hc=>lm (gq hx16 hc)) bL)) (by kernel_rfl) (eD ?_))
 exact zz r h rfl
end SX
namespace SX
open Go
def Wk (p q:PV):Prop:=∀ κ κ' v,Rp κ p v→Rp κ' q v
def WkL (ps qs:List PV):Prop:=∀ κ κ' vs,Rps κ ps vs→Rps κ' qs vs
def WkLL (ps qs:List (List PV)):Prop:=∀ κ κ' vs,Rpss κ ps vs→Rpss κ' qs vs
def WkRs (ps qs:List PRes):Prop:=∀ κ κ' rs,RRels κ ps rs→RRels κ' qs rs
theorem wk_v {x:Value}:Wk (.v x) (.v x):=fun κ κ' v h=>by
 cases h with
 | v h=>exact .v h
theorem B1 {p:PV}:Wk p .any:=fun _ _ _ _=>.any
theorem yJ:WkL [] []:=fun κ κ' vs h=>by
 cases h with
 | nil=>exact .nil
theorem lO {p q:PV} {ps qs:List PV} (h1:Wk p q) (h2:WkL ps qs):WkL (p::ps) (q::qs):=fun κ κ' vs h=>by
 cases h with
 | cons a b=>exact .cons (h1 _ _ _ a) (h2 _ _ _ b)
theorem wk_tup {ps qs:List PV} (h:WkL ps qs):Wk (.tup ps) (.tup qs):=fun κ κ' v hv=>by
 cases hv with
 | tup a=>exact .tup (h _ _ _ a)
theorem yK {α:Type} {enc enc':α→List PV} (h:∀ x,WkL (enc x) (enc' x)):∀ xs:List α,WkLL (xs.map enc) (xs.map enc')
 | []=>fun κ κ' vs hv=>by
  cases hv with
  | nil=>exact .nil
 | x::xs=>fun κ κ' vs hv=>by
  cases hv with
  | cons a b=>exact .cons (h x _ _ _ a) (yK h xs _ _ _ b)
theorem wk_row {a:Option Addr} {n c T sz:Nat} {css css':List (List PV)} (h:WkLL css css'):WkRs [.row a n c T sz css] [.row a n c T sz css']:=fun κ κ' rs hv=>by
 cases hv with
 | cons x y =>
  cases y with
  | nil =>
   cases x with
   | row hb h1 hc=>exact .cons (.row hb h1 (h _ _ _ hc)) .nil
section
variable {β:Base} {κ κ2:Kr} {l l2:List Res}
theorem unpub {r:Res} {b:Nat} (hi:Zo β (r::l) κ) (hb:r.blk=some b) (h2:Zo β l2 κ2) (hk:Kle ⟨κ.w,fun i=>κ.S i∨i=b⟩ κ2):Zo β (r::l2) ⟨κ2.w,fun i=>κ2.S i∧i≠b⟩∧Kle κ ⟨κ2.w,fun i=>κ2.S i∧i≠b⟩:=by
 obtain ⟨hlt,hnS,hbase⟩:=hi.blk r (by simp) b hb
 have hkk:Kle κ ⟨κ2.w,fun i=>κ2.S i∧i≠b⟩:=⟨hk.size,fun i h=>⟨hk.sh i (.inl h),fun e=>hnS (e ▸ h)⟩,fun i h=>hk.keep i (.inl h)⟩
 have hbS:κ2.S b:=hk.sh b (.inr rfl)
 refine ⟨⟨⟨hi.le.kle.trans hkk,h2.le.same,fun i h=>h2.le.shNew i h.1,h2.le.os,h2.le.tape,h2.le.output,h2.le.drawn⟩,fun i h=>h2.fin i h.1,fun s hs=>?_,fun s hs i h=>?_,List.pairwise_cons.2 ⟨fun s hs i h e=>?_,h2.nd⟩⟩,hkk⟩
 ·rcases List.mem_cons.1 hs with rfl | hs
  ·have h:=hi.own s (by simp)
   unfold Res.holds at h ⊢
   rw [hb] at h ⊢
   dsimp only at h ⊢
   have e:κ2.w.heap[b]?=κ.w.heap[b]?:=hk.keep b (.inr rfl)
   rw [e];exact h
  exact h2.own s hs
 ·rcases List.mem_cons.1 hs with rfl | hs
  ·rw [hb] at h
   obtain rfl:=Option.some.inj h
   exact ⟨Nat.lt_of_lt_of_le hlt hk.size,fun h=>h.2 rfl,hbase⟩
  obtain ⟨a1,a2,a3⟩:=h2.blk s hs i h
  exact ⟨a1,fun h=>a2 h.1,a3⟩
 rw [hb] at h
 obtain rfl:=Option.some.inj h
 exact (h2.blk s hs b e).2.1 hbS
theorem zX {a:Option Addr} {m c T sz:Nat} {css:List (List Value)} (hi:Zo β (Res.row a m c T sz css::l) κ) (h2:Zo β l2 κ2) (hk:Kle (sk κ a) κ2):∃ κ3:Kr,κ3.w=κ2.w∧Zo β (Res.row a m c T sz css::l2) κ3∧Kle κ κ3:=by
 cases a with
 | none =>
  refine ⟨κ2,rfl,⟨h2.le,h2.fin,fun s hs=>?_,fun s hs i h=>?_,List.pairwise_cons.2 ⟨fun s hs i h=>?_,h2.nd⟩⟩,hk⟩
  ·rcases List.mem_cons.1 hs with rfl | hs
   ·exact hi.own (Res.row none m c T sz css) (by simp)
   exact h2.own s hs
  ·rcases List.mem_cons.1 hs with rfl | hs
   ·cases h
   exact h2.blk s hs i h
  ·cases h
 | some ad =>
  obtain ⟨h3,h4⟩:=unpub (r:=Res.row (some ad) m c T sz css) (b:=ad.block) hi rfl h2 hk
  exact ⟨⟨κ2.w,fun i=>κ2.S i∧i≠ad.block⟩,rfl,h3,h4⟩
end
section
variable {o:Oper} {σ:PEnv} {ρ ρ2:List PRes} {f:Nat} {ts:Array Nat} {x:Operand} {l:List Operand} {pargs:List PV} {α:Type} {enc:α→List PV} {xs:List α} {a:Option Addr} {m c T sz:Nat} {KV:PV→List PRes→Prop}
theorem wf {R:PV→List PRes→Prop} (ho:o.op=.call { callee:=.value (.func f),args:=(x::l).toArray,argTypes:=ts }) (hx:bj σ x=.v (.slice a m c)) (ha:l.map (bj σ)=pargs) (hp:PPick ρ (.row a m c T sz (xs.map enc)) ρ2) (hc:PCall f (.slc xs.length (xs.map enc)::pargs) [] R)
    (h:∀ pv ρ',R pv ρ'→∃ qv ρq,Wk pv qv∧WkRs ρ' ρq∧KV qv (.row a m c T sz (xs.map enc)::(ρq++ρ2))):POpL o σ ρ KV:=fun κ σ' ρ' g hs hr=>by
  obtain ⟨r,l',h1,h2,h3⟩:=hr.pick hp
  intro β hinv Nx hNx
  generalize hcs:xs.map enc=css at h2 hc h
  cases h2 with
  | row hb ho1 hc1 =>
    rename_i dss
    have hi2:=hinv.perm h1
    obtain ⟨p1,p2,p3⟩:=qn hi2
    have e:=tZ κ a
    have hlen:xs.length=m:=by have e1:=hc1.len;have e2:=p3.len;rw [← hcs,List.length_map] at e1;omega
    have hxv:Rp (sk κ a) (.slc xs.length css) (ev σ' x):=by
      have hv:=hs.v1 hx
      rw [hv,hlen]
      exact .slc p3 hb ho1 (hc1.mono p2)
    have key:OpL o σ' l' (sk κ a) fun v ρ1 κ2=>∃ ρ0,ρ1=ρ0++l'∧∃ pv ρp,Rp κ2 pv v∧RRels κ2 ρp ρ0∧R pv ρp :=
      tQ (ρ1:=[]) (ρ2:=l') ho rfl (List.Perm.refl _) (hc (sk κ a) _ [] (g.mono p2) (.cons hxv (by rw [← ha];exact gV (hs.mono p2) l)) .nil) fun v ρ'' κ' hk hR=>⟨ρ'',rfl,hR⟩
    have fin:=key β p1 Nx fun v ρ1 κ2 hi hk ⟨ρ0,e0,pv,ρp,g1,g2,g3⟩=>by
      subst e0
      obtain ⟨κ3,e3,hi3,hk3⟩:=zX hi2 hi hk
      obtain ⟨qv,ρq,w1,w2,hKV⟩:=h pv ρp g3
      rw [← e3]
      exact hNx v _ κ3 hi3 hk3 ⟨qv,_,w1 _ _ _ g1,.cons (.row hb ho1 (hc1.mono hk3)) ((w2 _ _ _ g2).app (h3.mono hk3)),hKV⟩
    rwa [e] at fin
end
def rN (m:Zg):List PV:=[pI m.Claim.Product,pI m.Claim.Agreement,.any,.any]
theorem zY (xs:List Zg):WkLL (xs.map Zg.enc) (xs.map rN):=yK (fun _=>lO wk_v (lO wk_v (lO B1 (lO B1 yJ)))) xs
end SX
namespace SX
open Go
attribute [local irreducible] PWL PWC PWD POpL POpQ PEv PGuardIs PSub PPick PUpd PSplice PFill PLit PF PFV PCall FOk ff dX jL kS gS jM Cov PHolds bf idx app mk gd lb nz lv zC sub kl fm qo q9 gp cD ji rc IntKind.wrap Int.tmod Int.tdiv Op.bytesLess strOfNums
def fU (p0:(List Zb)) (p1:(List Zc)) (p2:ByteArray):Option ((List Zg)×Int):=(cO p0).bind fun x4=>cond (x4 != 0) (some (([]:List Zg),x4)) ((cP p1).bind fun x7=>cond (x7 != 0) (some (([]:List Zg),x7)) ((bK p2).bind fun x10=>cond (!x10) (some (([]:List Zg),(1:Int))) ((gM p0 p1 p2).bind fun x15=>(bf (S:=(List Zi)×(List Zg)×(List Za)) (T:=(Unit)⊕(_)) (fun (l16,l18,l22)=>(bf (S:=(List Zi)×Int×(List Zg)×(List Za)) (T:=((List Zi)×(List Zg)×(List Za))) (fun (l30,v33,l35,l39)=>cond (decide (v33<(l16.length:Int))) (((idx l16 v33).bind fun m71=>(el m71 p0 p1 p2 l39 l35).bind fun x73=>cond (!x73.1) ((app 112 l30 [m71]).bind fun l83=>some (l83,x73.2.2,x73.2.1)) (some (l30,x73.2.2,x73.2.1))).bind fun (l61,l65,l69)=>some (.inl (l61,(IntKind.i64.wrap (v33+1)),l65,l69))) (some (.inr (l30,l35,l39)))) FUEL (([]:List Zi),0,l18,l22)).bind fun (l45,l49,l53)=>cond (((l49.length:Nat):Int) == ((l18.length:Nat):Int)) (some (.inr (.inr (l49,(0:Int))))) ((sub l49 ((l18.length:Nat):Int) (l49.length:Int)).bind fun l88=>(bf (S:=Int×(List Za)) (T:=((List Za))) (fun (v89,l91)=>cond (decide (v89<((l49.length - ((l18.length:Nat):Int).toNat:Nat):Int))) ((lv v89).bind fun u103=>(idx l49 (((l18.length:Nat):Int)+v89)).bind fun m104=>(app 16 l91 [m104.Claim]).bind fun l108=>some (.inl ((IntKind.i64.wrap (v89+1)),l108))) (some (.inr l91))) FUEL (0,l53)).bind fun l99=>some (.inl (l45,l49,l99)))) FUEL (x15,([]:List Zg),([]:List Za))).bind fun q=>match q with | .inl _=>none | .inr e=>some e)))
theorem jQ {p0:(List Zb)} {p1:(List Zc)} {p2:ByteArray} {r:((List Zg)×Int)}  (h:fU p0 p1 p2=some r):PCall 17 [pL Zb.enc p0,pL Zc.enc p1,pS p2] [] (fun pv ρ'=>∃ a c,pv=.tup [.v (.slice a r.1.length c),pI r.2]∧ρ'=[PRes.row a r.1.length c 60 4 (List.map Zg.enc r.1)]):=by
 unfold fU at h
 refine eW Tryz.func17 rfl Tryz.ntmps17 Tryz.results17 rfl (aa (aj rfl (bE (cs:=[pL Zb.enc p0]) rfl rfl (fun b1=>aj rfl (bE (cs:=[pL Zc.enc p1]) rfl rfl (fun b2=>aj rfl (bE (cs:=[pS p2]) rfl rfl (fun b3=>bA [6,7] (by kernel_rfl) (dn (ae h fun x4 hx4 h=>ap [2] [20,21] [(8,pI x4)] (bR 1 (iV hx4) bL) (by kernel_rfl) (bM (ah [22] [(23,pB (x4 != 0))] (by kernel_rfl) (cg rfl h (fun hc5 h=>?_) fun hc5 h=>?_)))))))))))))
 ·refine af ?_
  refine ah [24] [(6,pN),(7,pI x4)] (by kernel_rfl) (aL (bI 60 4 (bS (aq ?_))))
  obtain rfl:=osi h
  exact aO (ec (aP rfl) (aP rfl)) dM ⟨_,_,rfl,rfl⟩
 refine ai ?_
 refine dn (ae h fun x7 hx7 h=>ap [1] [25,26] [(9,pI x7)] (bR 1 (iX hx7) bL) (by kernel_rfl) (bM (ah [27] [(28,pB (x7 != 0))] (by kernel_rfl) (cg rfl h (fun hc8 h=>?_) fun hc8 h=>?_))))
 ·refine af ?_
  refine ah [29] [(6,pN),(7,pI x7)] (by kernel_rfl) (aL (bI 60 4 (bS (aq ?_))))
  obtain rfl:=osi h
  exact aO (ec (aP rfl) (aP rfl)) dM ⟨_,_,rfl,rfl⟩
 refine ai ?_
 refine dn (ae h fun x10 hx10 h=>ap [0] [30,31] [(32,pB (!x10))] (bR 1 (dw hx10) bL) (by kernel_rfl) (cg rfl h (fun hc11 h=>?_) fun hc11 h=>?_))
 ·refine af ?_
  refine al [(6,pN),(7,pI 1)] (by kernel_rfl) (aL (bI 60 4 (bS (aq ?_))))
  obtain rfl:=osi h
  exact aO (ec (aP rfl) (aP rfl)) dM ⟨_,_,rfl,rfl⟩
 refine ai ?_
 refine bM (aa (aj rfl (aT (cs:=[pN]) rfl rfl rfl rfl (fun b13=>aw (bM (aa (aj rfl (aT (cs:=[pN]) rfl rfl rfl rfl (fun b14=>aw (bM (aa ?_)))))))))))
 refine jo 3 rfl (by exact ak (ak (ak (ak aC)))) ?_
 refine jo 4 rfl (by exact ak (ak (ak (ak aC)))) ?_
 refine jo 5 rfl (by exact ak (ak (ak (ak aC)))) ?_
 refine fu [33] [(12,.fn 43 [.ref [pL Zb.enc p0] 0,.ref [pL Zc.enc p1] 0,.ref [pS p2] 0,pP b14 0,pP b13 0])] (by kernel_rfl) (du h fun x15 hx15 h=>ap [] [34,35,36,37] [(13,pL Zi.enc x15)] (bR 3 (mH hx15) bL) (by kernel_rfl) (aL (bI 60 4 (bI 57 2 (ae h fun q26 hq26 h=>aJ ?_)))))
 refine aK (Y:=Option Addr×Nat×Option Addr×Nat) (S:=(List Zi)×(List Zg)×(List Za)) _ hq26 (fun (a19,c20,a23,c24) (l16,l18,l22)=>[(10,pP b13 0),(11,pP b14 0),(12,.fn 43 [.ref [pL Zb.enc p0] 0,.ref [pL Zc.enc p1] 0,.ref [pS p2] 0,pP b14 0,pP b13 0]),(13,pL Zi.enc l16)]) (fun (a19,c20,a23,c24) (l16,l18,l22)=>[PRes.b b13 46 [pO a19 l18.length c20],PRes.b b14 58 [pO a23 l22.length c24],PRes.row a19 l18.length c20 60 4 (List.map Zg.enc l18),PRes.row a23 l22.length c24 57 2 (List.map Za.enc l22)]) (none,0,none,0) (jt rfl) (aY (ak (ak (ak (ak (ak (ak aC)))))) (aY (ak (ak (ak (ak (ak aC))))) (aY (ak aC) dM))) ?_
 rintro ⟨a19,c20,a23,c24⟩ ⟨l16,l18,l22⟩ o τ hb25;(try dsimp only at hb25);dsimp only [aD]
 refine gX (al [(14,pN)] (by kernel_rfl) (bM (bc [0] [38,39] [(15,pI ((l18.length:Nat):Int))] (by kernel_rfl) (dn (al [(40,pL Zi.enc l16),(41,pI (l16.length:Int)),(42,pI 0)] (by kernel_rfl) (aL (bI 106 9 (ae hb25 fun q55 hq55 hb25=>?_))))))))
 refine az (Y:=(Option Addr×Nat×Option Addr×Nat×Option Addr×Nat)×((List Zi)×(List Zg)×(List Za))) (fun ((a43,c44,a47,c48,a51,c52),(l45,l49,l53))=>[(10,pP b13 0),(11,pP b14 0),(12,.fn 43 [.ref [pL Zb.enc p0] 0,.ref [pL Zc.enc p1] 0,.ref [pS p2] 0,pP b14 0,pP b13 0]),(14,pO a43 l45.length c44),(15,pI ((l18.length:Nat):Int))]) (fun ((a43,c44,a47,c48,a51,c52),(l45,l49,l53))=>[PRes.b b13 46 [pO a47 l49.length c48],PRes.b b14 58 [pO a51 l53.length c52],PRes.row a43 l45.length c44 106 9 (List.map Zi.enc l45),PRes.row a47 l49.length c48 60 4 (List.map Zg.enc l49),PRes.row a51 l53.length c52 57 2 (List.map Za.enc l53)]) (fun ((a43,c44,a47,c48,a51,c52),(l45,l49,l53))=>q55=(l45,l49,l53)) ?_ ?_
 ·refine aJ ?_
  refine aK (Y:=Option Addr×Nat×Option Addr×Nat×Option Addr×Nat) (S:=(List Zi)×Int×(List Zg)×(List Za)) _ hq55 (fun (a31,c32,a36,c37,a40,c41) (l30,v33,l35,l39)=>[(10,pP b13 0),(11,pP b14 0),(12,.fn 43 [.ref [pL Zb.enc p0] 0,.ref [pL Zc.enc p1] 0,.ref [pS p2] 0,pP b14 0,pP b13 0]),(14,pO a31 l30.length c32),(15,pI ((l18.length:Nat):Int)),(40,pL Zi.enc l16),(41,pI (l16.length:Int)),(42,pI v33)]) (fun (a31,c32,a36,c37,a40,c41) (l30,v33,l35,l39)=>[PRes.b b13 46 [pO a36 l35.length c37],PRes.b b14 58 [pO a40 l39.length c41],PRes.row a31 l30.length c32 106 9 (List.map Zi.enc l30),PRes.row a36 l35.length c37 60 4 (List.map Zg.enc l35),PRes.row a40 l39.length c41 57 2 (List.map Za.enc l39)]) (none,0,a19,c20,a23,c24) (nH rfl) (aY (ak aC) (aY (ak aC) zs3)) ?_
  rintro ⟨a31,c32,a36,c37,a40,c41⟩ ⟨l30,v33,l35,l39⟩ o τ hb54;(try dsimp only at hb54);dsimp only [aD]
  refine af (al [(43,pB (decide (v33<(l16.length:Int))))] (by kernel_rfl) (bM (js rfl hb54 (fun hc57 hb54=>?_) fun hc57 hb54=>?_)))
  ·refine ai ?_
   refine du hb54 fun q70 hq70 hb54=>?_
   refine az (Y:=(Option Addr×Nat×Option Addr×Nat×Option Addr×Nat)×((List Zi)×(List Zg)×(List Za))) (fun ((a59,c60,a63,c64,a67,c68),(l61,l65,l69))=>[(10,pP b13 0),(11,pP b14 0),(12,.fn 43 [.ref [pL Zb.enc p0] 0,.ref [pL Zc.enc p1] 0,.ref [pS p2] 0,pP b14 0,pP b13 0]),(14,pO a59 l61.length c60),(15,pI ((l18.length:Nat):Int)),(40,pL Zi.enc l16),(41,pI (l16.length:Int)),(42,pI v33)]) (fun ((a59,c60,a63,c64,a67,c68),(l61,l65,l69))=>[PRes.b b13 46 [pO a63 l65.length c64],PRes.b b14 58 [pO a67 l69.length c68],PRes.row a59 l61.length c60 106 9 (List.map Zi.enc l61),PRes.row a63 l65.length c64 60 4 (List.map Zg.enc l65),PRes.row a67 l69.length c68 57 2 (List.map Za.enc l69)]) (fun ((a59,c60,a63,c64,a67,c68),(l61,l65,l69))=>q70=(l61,l65,l69)) ?_ ?_
   ·skip
    refine gX (ae hq70 fun m71 hm71 hq70=>aa (bm 2 [] [44] [(45,.agg (cV m71))] (fG 0 Zi.enc hm71 bL) (by kernel_rfl) (aj rfl (aT (cs:=[pI 0,pI 0,pI 0,pI 0,pN,pI 0,pI 0,pS ByteArray.empty,pN]) rfl rfl rfl rfl (fun b72=>aX rfl rfl (au (vs:=(cV m71)) rfl rfl rfl rfl rfl cY zl9 (aw (du hq70 fun x73 hx73 hq70=>aa (fO 2 [0] [(46,.fn 43 [.ref [pL Zb.enc p0] 0,.ref [pL Zc.enc p1] 0,.ref [pS p2] 0,pP b14 0,pP b13 0]),(47,.agg (cV m71))] (by kernel_rfl) ?_)))))))))
    refine aj rfl (th rfl rfl rfl (ρ1:=[_,_,_,_]) (aF (by exact ak (ak aC)) (aF (by exact ak (ak (ak (ak aC)))) (aF (by exact ak aC) (aF (by exact ak (ak aC)) (List.Perm.refl _))))) (kV hx73) ?_);rintro _ _ ⟨rfl,a74,c75,a76,c77,rfl⟩
    refine aM [(49,pB (!x73.1))] (by kernel_rfl) (cg rfl hq70 (fun hc80 hq70=>?_) fun hc80 hq70=>?_)
    ·refine aa ?_
     refine fO 2 [4] [(50,pO a31 l30.length c32),(51,.agg (cV m71))] (by kernel_rfl) (aj rfl (bG rfl rfl rfl rfl rfl (fL rfl jr) rfl rfl rfl rfl (fun b81=>ae hq70 fun l83 hl83 hq70=>?_)))
     refine aj rfl (bP (enc:=Zi.enc) rfl rfl rfl rfl rfl rfl rfl rfl rfl fF (by exact ak (ak (ak (ak (ak (ak aC)))))) hl83 (fun a84 c85=>?_))
     refine aM [(14,pO a84 l83.length c85)] (by kernel_rfl) (aH ?_)
     obtain rfl:=osi hq70
     exact aG ((a84,c85,a76,c77,a74,c75),(l83,x73.2.2,x73.2.1)) (nH rfl) (aY (ak (ak (ak (ak aC)))) (aY (ak (ak aC)) (aY aC (aY (ak (ak aC)) (aY (ak aC) bX))))) rfl
    refine ai ?_
    refine aH ?_
    obtain rfl:=osi hq70
    exact aG ((a31,c32,a76,c77,a74,c75),(l30,x73.2.2,x73.2.1)) (nH rfl) (aY (ak (ak aC)) (aY aC (aY (ak (ak (ak aC))) (aY (ak aC) dM)))) rfl
   rintro ⟨⟨a59,c60,a63,c64,a67,c68⟩,⟨l61,l65,l69⟩⟩ τ hz;(try dsimp only at hz);subst q70;(try dsimp only at hb54);dsimp only [aD]
   refine ah [54] [(42,pI (IntKind.i64.wrap (v33+1)))] (by kernel_rfl) ?_
   exact bd hb54 (a59,c60,a63,c64,a67,c68) (nH rfl) zs5
  refine aR ?_
  refine av (an hb54 (fun ht=>ar rfl ?_))
  exact aG ((a31,c32,a36,c37,a40,c41),(l30,l35,l39)) (mO rfl) zs5 ht.symm
 rintro ⟨⟨a43,c44,a47,c48,a51,c52⟩,⟨l45,l49,l53⟩⟩ τ hz;(try dsimp only at hz);subst q55;(try dsimp only at hb25);dsimp only [aD]
 refine af (af (bc [0] [55,56,57] [(58,pB (((l49.length:Nat):Int) == ((l18.length:Nat):Int)))] (by kernel_rfl) (cg rfl hb25 (fun hc87 hb25=>?_) fun hc87 hb25=>?_)))
 ·refine af ?_
  refine bc [0] [59] [(6,pO a47 l49.length c48),(7,pI 0)] (by kernel_rfl) (eD (aq (aA ?_)))
  refine aS hb25 (fun ht=>?_);subst ht
  refine aA ?_
  obtain rfl:=osi h
  exact aO (ec (aP rfl) (aP rfl)) (aY (ak (ak (ak aC))) bX) ⟨_,_,rfl,rfl⟩
 refine ai ?_
 refine dn (ae hb25 fun l88 hl88 hb25=>aa (fO 2 [0] [(60,pO a47 l49.length c48),(61,pI ((l18.length:Nat):Int))] (by kernel_rfl) (bD rfl rfl rfl (jj (enc:=Zg.enc) (xs:=l49) rfl rfl rfl rfl rfl zG hl88) (aM [(63,pI ((l49.length - ((l18.length:Nat):Int).toNat:Nat):Int)),(64,pI 0)] (by kernel_rfl) (dN hb25 fun q101 hq101 hb25=>?_)))))
 refine az (Y:=(Option Addr×Nat)×((List Za))) (fun ((a97,c98),l99)=>[(10,pP b13 0),(11,pP b14 0),(12,.fn 43 [.ref [pL Zb.enc p0] 0,.ref [pL Zc.enc p1] 0,.ref [pS p2] 0,pP b14 0,pP b13 0]),(14,pO a43 l45.length c44)]) (fun ((a97,c98),l99)=>[PRes.b b13 46 [pO a47 l49.length c48],PRes.b b14 58 [pO a97 l99.length c98],PRes.row a43 l45.length c44 106 9 (List.map Zi.enc l45),PRes.row a47 l49.length c48 60 4 (List.map Zg.enc l49),PRes.row a97 l99.length c98 57 2 (List.map Za.enc l99)]) (fun ((a97,c98),l99)=>q101=l99) ?_ ?_
 ·refine aJ ?_
  refine aK (Y:=Option Addr×Nat) (S:=Int×(List Za)) _ hq101 (fun (a92,c93) (v89,l91)=>[(10,pP b13 0),(11,pP b14 0),(12,.fn 43 [.ref [pL Zb.enc p0] 0,.ref [pL Zc.enc p1] 0,.ref [pS p2] 0,pP b14 0,pP b13 0]),(14,pO a43 l45.length c44),(62,pQ a47 l49.length c48 ((l18.length:Nat):Int).toNat 4),(63,pI ((l49.length - ((l18.length:Nat):Int).toNat:Nat):Int)),(64,pI v89)]) (fun (a92,c93) (v89,l91)=>[PRes.b b13 46 [pO a47 l49.length c48],PRes.b b14 58 [pO a92 l91.length c93],PRes.row a43 l45.length c44 106 9 (List.map Zi.enc l45),PRes.row a47 l49.length c48 60 4 (List.map Zg.enc l49),PRes.row a92 l91.length c93 57 2 (List.map Za.enc l91)]) (a51,c52) (ol rfl) zs5 ?_
  rintro ⟨a92,c93⟩ ⟨v89,l91⟩ o τ hb100;(try dsimp only at hb100);dsimp only [aD]
  refine af (al [(65,pB (decide (v89<((l49.length - ((l18.length:Nat):Int).toNat:Nat):Int))))] (by kernel_rfl) (bM (js rfl hb100 (fun hc102 hb100=>?_) fun hc102 hb100=>?_)))
  ·refine ai ?_
   refine bM (gX (ae hb100 fun u103 hu103 hb100=>ae hb100 fun m104 hm104 hb100=>aa (bD rfl rfl rfl (gD (enc:=Zg.enc) (xs:=l49) (i:=((l18.length:Nat):Int)) rfl rfl rfl rfl rfl (ft hl88).1.1 (iO hu103) zG hm104) (bD rfl rfl rfl (ca (sz:=4) (p:=.agg (ed m104)) (enc:=Zg.enc) (xs:=l49) (a:=a47) (((l18.length:Nat):Int)+v89) 0 m104 rfl (.p rfl) rfl zG (fun _=>hm104) rfl) (aj rfl (aT (cs:=[pI 0,pI 0,pN,pN]) rfl rfl rfl rfl (fun b105=>aX rfl rfl (au (vs:=(ed m104)) rfl rfl rfl rfl rfl cY Bq (aw (aL (aa (cq 3 [2,0] [69] [(68,pO a92 l91.length c93),(70,.agg [pI m104.Claim.Product,pI m104.Claim.Agreement])] (by kernel_rfl) (aj rfl (bG rfl rfl rfl rfl rfl (fL rfl jr) rfl rfl rfl rfl (fun b106=>ae hb100 fun l108 hl108 hb100=>?_)))))))))))))))
   refine aj rfl (bP (enc:=Za.enc) rfl rfl rfl rfl rfl rfl rfl rfl rfl fF (by exact ak (ak (ak (ak (ak (ak aC)))))) hl108 (fun a109 c110=>?_))
   refine aX rfl rfl (au (vs:=[pO a109 l108.length c110]) rfl rfl rfl rfl rfl (de (de (de (de cY)))) mG (aw (mn (ah [73] [(64,pI (IntKind.i64.wrap (v89+1)))] (by kernel_rfl) ?_))))
   exact bd hb100 (a109,c110) (ol rfl) (aY (ak (ak (ak aC))) (aY (ak (ak (ak aC))) (aY (ak (ak (ak aC))) (aY (ak (ak (ak aC))) dM))))
  refine aR ?_
  refine av (an hb100 (fun ht=>ar rfl ?_))
  exact aG ((a92,c93),l91) (jt rfl) zs5 ht.symm
 rintro ⟨⟨a97,c98⟩,l99⟩ τ hz;(try dsimp only at hz);subst q101;(try dsimp only at hb25);dsimp only [aD]
 refine ah [74] [(13,pO a43 l45.length c44)] (by kernel_rfl) (aH ?_)
 refine px (vG (enc:=Zi.enc) (xs:=l45) 13 rfl (by exact ak (ak aC))) ?_
 exact bd hb25 (a47,c48,a97,c98) (jt rfl) (aY (ak aC) (aY (ak aC) (aY (ak aC) (aY (ak aC) bX))))
def fJ (p0:(List Int)) (p1:(List Int)) (p2:Int) (p3:Int) (p4:Int) (p5:Int):Option Bool:=(lH p0).bind fun x1=>(gg p1).bind fun x5=>(gZ p2).bind fun x9=>(fU x1 x5 x9).bind fun x10=>(dF p3 ((x1.length:Nat):Int)).bind fun x14=>(idx x1 x14).bind fun m15=>Option.bind (cond (decide (0<(m15.Inputs.length:Int))) ((dF p4 (m15.Inputs.length:Int)).bind fun x21=>(idx x1 x14).bind fun m24=>(app 16 ([]:List Zf) m24.Inputs).bind fun l25=>(idx l25 x21).bind fun m31=>(dF p5 100).bind fun x32=>(idx l25 x21).bind fun m33=>(idx x1 x14).bind fun m35=>some (x1.set x14.toNat (⟨m35.ID,m35.Code,m35.Country,m35.Price,m35.Obtained,m35.Processes,(l25.set x21.toNat (⟨m33.Product,(ji m31.Value x32)⟩:Zf))⟩:Zb))) (some x1)) (fun l17=>(fU l17 x5 x9).bind fun x37=>(bf (S:=(List Zg)×Int) (T:=(Unit)⊕(_)) (fun (l41,v42)=>cond (decide (v42<((x10.1.length:Nat):Int))) ((idx x10.1 v42).bind fun m46=>(gH l41 m46.Claim).bind fun x47=>cond (!x47) (some (.inr (.inr false))) (some (.inl (l41,(IntKind.i64.wrap (v42+1)))))) (some (.inr (.inl ())))) FUEL (x37.1,0)).bind fun q=>match q with | .inl _=>(gd ((x10.2 == 0)&&(x37.2 == 0)) (jB)).bind (fun x49=>some (((x10.2 == 0)&&(x37.2 == 0))&&x49)) | .inr e=>some e)
theorem mw {p0:(List Int)} {p1:(List Int)} {p2:Int} {p3:Int} {p4:Int} {p5:Int} {r:Bool}  (h:fJ p0 p1 p2 p3 p4 p5=some r):PF 5 [pL eI p0,pL eI p1,pI p2,pI p3,pI p4,pI p5] (pB r):=by
 unfold fJ at h
 refine br ?_
 refine eW Tryz.func5 rfl Tryz.ntmps5 Tryz.results5 rfl (aU [12] (by kernel_rfl) (du h fun x1 hx1 h=>aa (am 1 [(25,pL eI p0)] (by kernel_rfl) ?_)))
 refine aj rfl (aW rfl rfl (ρ1:=[]) (List.Perm.refl _) (uv hx1) ?_);rintro _ _ ⟨a2,c3,rfl,rfl⟩
 refine ae h fun x5 hx5 h=>am 1 [(27,pL eI p1)] (by kernel_rfl) ?_
 refine aj rfl (aW rfl rfl (ρ1:=[]) (List.Perm.refl _) (nW hx5) ?_);rintro _ _ ⟨a6,c7,rfl,rfl⟩
 refine ae h fun x9 hx9 h=>gr [] [29,30] [(13,pO a2 x1.length c3),(14,pO a6 x5.length c7),(15,pS x9)] (bR 1 (o5 hx9) bL) (by kernel_rfl) (bM (aa (am 3 [(32,pO a2 x1.length c3),(33,pO a6 x5.length c7),(34,pS x9)] (by kernel_rfl) ?_)))
 refine eH (enc:=Zc.enc) (xs:=x5) 33 rfl (by exact aC) ?_
 refine ae h fun x10 hx10 h=>?_
 refine aj rfl (wf (enc:=Zb.enc) (xs:=x1) rfl rfl rfl (by exact ak aC) (jQ hx10) ?_);rintro _ _ ⟨a11,c12,rfl,rfl⟩
 refine ⟨_,[PRes.row a11 x10.1.length c12 60 4 (List.map rN x10.1)],wk_tup (lO wk_v (lO wk_v yJ)),wk_row (zY _),?_⟩
 refine fu [31,36,37] [(16,pO a11 x10.1.length c12),(17,pI x10.2)] (by kernel_rfl) (bM (vy (enc:=Zc.enc) (xs:=x5) 14 rfl ug (ae h fun x14 hx14 h=>ap [] [38,39,40,41] [(18,pI x14)] (bR 3 (fQ hx14) bL) (by kernel_rfl) (dn (ae h fun m15 hm15 h=>aa (am 2 [(42,pO a2 x1.length c3),(43,pI x14)] (by kernel_rfl) (bD rfl rfl rfl (dB (enc:=Zb.enc) (xs:=x1) rfl rfl rfl (.p rfl) fF (.p rfl) (fun _=>hm15)) (am 1 [(45,pP (mW a2) (x14.toNat * 7+6))] (by kernel_rfl) (bD rfl rfl rfl (ca (sz:=7) (p:=pL Zf.enc m15.Inputs) (enc:=Zb.enc) (xs:=x1) (a:=a2) x14 6 m15 rfl (.p rfl) rfl fF (fun _=>hm15) rfl) (fu [47] [(19,pI (m15.Inputs.length:Int))] (by kernel_rfl) (bM (ah [48] [(49,pB (decide (0<(m15.Inputs.length:Int))))] (by kernel_rfl) (dN h fun q19 hq19 h=>?_)))))))))))))
 refine az (Y:=Unit×((List Zb))) (fun (_,l17)=>[(13,pO a2 x1.length c3),(14,pL Zc.enc x5),(15,pS x9),(16,pO a11 x10.1.length c12),(17,pI x10.2)]) (fun (_,l17)=>[PRes.row a2 x1.length c3 52 7 (List.map Zb.enc l17),PRes.row a11 x10.1.length c12 60 4 (List.map rN x10.1)]) (fun (_,l17)=>q19=l17) ?_ ?_
 ·skip
  refine js rfl hq19 (fun hc20 hq19=>?_) fun hc20 hq19=>?_
  ·refine af ?_
   refine ae hq19 fun x21 hx21 hq19=>ap [] [50,51,52] [(20,pI x21)] (bR 2 (fQ hx21) bL) (by kernel_rfl) (bM (aa (aj rfl (bG rfl rfl rfl rfl rfl jr rfl rfl rfl rfl (fun b22=>ae hq19 fun m24 hm24 hq19=>am 2 [(54,pO a2 x1.length c3),(55,pI x14)] (by kernel_rfl) (bD rfl rfl rfl (dB (enc:=Zb.enc) (xs:=x1) rfl rfl rfl (.p rfl) uV (.p rfl) (fun _=>hm24)) (am 1 [(57,pP (mW a2) (x14.toNat * 7+6))] (by kernel_rfl) (bD rfl rfl rfl (ca (sz:=7) (p:=pL Zf.enc m24.Inputs) (enc:=Zb.enc) (xs:=x1) (a:=a2) x14 6 m24 rfl (.p rfl) rfl uV (fun _=>hm24) rfl) (ae hq19 fun l25 hl25 hq19=>?_)))))))))
   refine aj rfl (lB (enc:=Zf.enc) rfl rfl rfl rfl rfl (fun _=>rfl) rfl rfl rfl (by exact aC) hl25 (fun a26 c27=>?_))
   refine aM [(21,pO a26 l25.length c27)] (by kernel_rfl) (bM (iv (enc:=Zf.enc) (xs:=l25) (a:=a26) fF (fun hl29 ha30=>ae hq19 fun m31 hm31 hq19=>ae hq19 fun x32 hx32 hq19=>ae hq19 fun m33 hm33 hq19=>?_)))
   refine az (Y:=Unit) (fun _=>[(13,pO a2 x1.length c3),(14,pL Zc.enc x5),(15,pS x9),(16,pO a11 x10.1.length c12),(17,pI x10.2),(18,pI x14),(21,pO a26 l25.length c27)]) (fun _=>[PRes.row a11 x10.1.length c12 60 4 (List.map rN x10.1),PRes.row a26 l25.length c27 54 2 (List.map Zf.enc (l25.set x21.toNat (⟨m33.Product,(ji m31.Value x32)⟩:Zf))),PRes.row a2 x1.length c3 52 7 (List.map Zb.enc x1)]) (fun _=>True) ?_ ?_
   ·refine ka (ρd:=[PRes.row a26 _ _ _ _ _]) _ (List.Perm.refl _) ?_
    refine bY 0 (by kernel_rfl) rfl rfl rfl rfl (eu (p:=pO a26 l25.length c27) rfl (.p rfl)) (bY 1 (by kernel_rfl) rfl rfl rfl rfl (eu (p:=pI x21) rfl (.p rfl)) (bY 2 (by kernel_rfl) rfl rfl rfl rfl (eu (p:=pO a26 l25.length c27) rfl (.p rfl)) (bY 3 (by kernel_rfl) rfl rfl rfl rfl (eu (p:=pI x21) rfl (.p rfl)) ?_)))
    refine bY 4 (by kernel_rfl) rfl rfl rfl rfl (oX (xs:=l25) (by first | exact hl29 | rfl | (simp only [List.length_set];exact hl29) | simp only [List.length_set]) ha30 rfl rfl rfl (.p rfl) (.p rfl) (fun _=>hm31)) ?_
    refine bY 5 (by kernel_rfl) rfl rfl rfl rfl (bo rfl rfl rfl rfl rfl (.p rfl)) (bY 7 (by kernel_rfl) rfl rfl rfl rfl (eu (p:=pI p5) rfl (.p rfl)) ?_)
    refine ia 6 8 (by kernel_rfl) ?_ ?_
    ·skip
     refine ba rfl rfl rfl rfl (lA (ca (sz:=2) (p:=pI m31.Value) (enc:=Zf.enc) (xs:=l25) (a:=a26) x21 1 m31 rfl (.p rfl) rfl fF (fun _=>hm31) rfl) (bg 8 (by kernel_rfl) (mj rfl rfl rfl rfl rfl rfl (fQ hx32) (bY 9 (by kernel_rfl) rfl rfl rfl rfl (xd rfl (.p rfl) (.p rfl)) ?_))))
     refine bY 10 (by kernel_rfl) rfl rfl rfl rfl (oX (xs:=l25) (by first | exact hl29 | rfl | (simp only [List.length_set];exact hl29) | simp only [List.length_set]) ha30 rfl rfl rfl (.p rfl) (.p rfl) (fun _=>hm33)) ?_
     refine bY 11 (by kernel_rfl) rfl rfl rfl rfl (bo rfl rfl rfl rfl rfl (.p rfl)) (bg 12 (by kernel_rfl) (dL rfl rfl rfl (kj (enc:=Zf.enc) (xs:=l25) (a:=a26) x21 1 m33 (⟨m33.Product,(ji m31.Value x32)⟩:Zf) rfl rfl rfl rfl (fun _=>rfl) rfl rfl hm33 (dY mG) cY (dK (by kernel_rfl) ?_))))
     exact aG () (ol rfl) (aY (ak (ak aC)) py) trivial
    skip
    refine mj rfl rfl rfl rfl rfl rfl (fQ hx32) (bg 6 (by kernel_rfl) (ba rfl rfl rfl rfl (lA (ca (sz:=2) (p:=pI m31.Value) (enc:=Zf.enc) (xs:=l25) (a:=a26) x21 1 m31 rfl (.p rfl) rfl fF (fun _=>hm31) rfl) (bY 9 (by kernel_rfl) rfl rfl rfl rfl (xd rfl (.p rfl) (.p rfl)) ?_))))
    refine bY 10 (by kernel_rfl) rfl rfl rfl rfl (oX (xs:=l25) (by first | exact hl29 | rfl | (simp only [List.length_set];exact hl29) | simp only [List.length_set]) ha30 rfl rfl rfl (.p rfl) (.p rfl) (fun _=>hm33)) ?_
    refine bY 11 (by kernel_rfl) rfl rfl rfl rfl (bo rfl rfl rfl rfl rfl (.p rfl)) (bg 12 (by kernel_rfl) (dL rfl rfl rfl (kj (enc:=Zf.enc) (xs:=l25) (a:=a26) x21 1 m33 (⟨m33.Product,(ji m31.Value x32)⟩:Zf) rfl rfl rfl rfl (fun _=>rfl) rfl rfl hm33 (dY mG) cY (dK (by kernel_rfl) ?_))))
    exact aG () (ol rfl) (aY (ak (ak aC)) py) trivial
   rintro _ τ _;dsimp only [aD]
   refine ae hq19 fun m35 hm35 hq19=>aa (am 3 [(72,pO a2 x1.length c3),(73,pI x14),(74,pO a26 l25.length c27)] (by kernel_rfl) (bD rfl rfl rfl (dB (enc:=Zb.enc) (xs:=x1) rfl rfl rfl (.p rfl) ug (.p rfl) (fun _=>hm35)) (am 1 [(76,pP (mW a2) (x14.toNat * 7+6))] (by kernel_rfl) ?_)))
   refine eH (enc:=Zf.enc) (xs:=(l25.set x21.toNat (⟨m33.Product,(ji m31.Value x32)⟩:Zf))) 74 rfl (by exact ak aC) ?_
   refine aX rfl rfl (kj (enc:=Zb.enc) (xs:=x1) (a:=a2) x14 6 m35 (⟨m35.ID,m35.Code,m35.Country,m35.Price,m35.Obtained,m35.Processes,(l25.set x21.toNat (⟨m33.Product,(ji m31.Value x32)⟩:Zf))⟩:Zb) rfl rfl rfl rfl (fun _=>rfl) rfl rfl hm35 (dY (dY (dY (dY (dY (dY mG)))))) (de (de cY)) (aw ?_))
   obtain rfl:=osi hq19
   exact aG ((),(x1.set x14.toNat (⟨m35.ID,m35.Code,m35.Country,m35.Price,m35.Obtained,m35.Processes,(l25.set x21.toNat (⟨m33.Product,(ji m31.Value x32)⟩:Zf))⟩:Zb))) (mO rfl) (aY (ak (ak aC)) (aY (ak aC) bX)) rfl
  refine ai ?_
  obtain rfl:=osi hq19
  exact aG ((),x1) (mO rfl) py rfl
 rintro ⟨_,l17⟩ τ hz;(try dsimp only at hz);subst q19;(try dsimp only at h);dsimp only [aD]
 refine af (aa (am 3 [(78,pO a2 x1.length c3),(79,pL Zc.enc x5),(80,pS x9)] (by kernel_rfl) ?_))
 refine eH (enc:=Zb.enc) (xs:=l17) 78 rfl (by exact aC) ?_
 refine ae h fun x37 hx37 h=>?_
 refine aj rfl (aW rfl rfl (ρ1:=[]) (List.Perm.refl _) (jQ hx37) ?_);rintro _ _ ⟨a38,c39,rfl,rfl⟩
 refine fu [77,82,83] [(22,pO a38 x37.1.length c39),(23,pI x37.2)] (by kernel_rfl) (dn (al [(24,pI 0)] (by kernel_rfl) (aL ?_)))
 refine fk (enc:=Zg.enc) (xs:=x37.1) 22 rfl (by exact aC) ?_
 refine ae h fun q44 hq44 h=>?_
 refine az (Y:=Unit×Unit) (fun (_,_)=>[(17,pI x10.2),(23,pI x37.2)]) (fun (_,_)=>[]) (fun (_,_)=>q44=Sum.inl ()) ?_ ?_
 ·refine aJ ?_
  refine aK (Y:=Unit) (S:=(List Zg)×Int) _ hq44 (fun _ (l41,v42)=>[(16,pO a11 x10.1.length c12),(17,pI x10.2),(22,pL Zg.enc l41),(23,pI x37.2),(24,pI v42)]) (fun _ (l41,v42)=>[PRes.row a11 x10.1.length c12 60 4 (List.map rN x10.1)]) () (mO rfl) (aY (ak (ak aC)) bX) ?_
  rintro _ ⟨l41,v42⟩ o τ hb43;(try dsimp only at hb43);dsimp only [aD]
  refine af (af (ah [84,85,86] [(87,pB (decide (v42<((x10.1.length:Nat):Int))))] (by kernel_rfl) (cg rfl hb43 (fun hc45 hb43=>?_) fun hc45 hb43=>?_)))
  ·refine ai ?_
   refine bM (gX (ae hb43 fun m46 hm46 hb43=>aa (am 3 [(90,pL Zg.enc l41),(91,pO a11 x10.1.length c12),(92,pI v42)] (by kernel_rfl) (bD rfl rfl rfl (dB (enc:=rN) (xs:=x10.1) rfl rfl rfl (.p rfl) fF (.p rfl) (fun _=>hm46)) (am 1 [(94,pP (mW a11) (v42.toNat * 4))] (by kernel_rfl) (bD rfl rfl rfl (ca (sz:=4) (p:=.agg [pI m46.Claim.Product,pI m46.Claim.Agreement]) (enc:=rN) (xs:=x10.1) (a:=a11) v42 0 m46 rfl (.p rfl) rfl fF (fun _=>hm46) rfl) (ae hb43 fun x47 hx47 hb43=>gr [] [96] [(97,pB (!x47))] (bR 0 (lm hx47) bL) (by kernel_rfl) (cg rfl hb43 (fun hc48 hb43=>?_) fun hc48 hb43=>?_))))))))
   ·refine af ?_
    refine fP [(12,pB false)] (by kernel_rfl) (iw ?_)
    refine aS hb43 (fun ht=>?_);subst ht
    refine aA (aV ?_)
    exact zz r h rfl
   refine ai ?_
   refine mn (ah [88,89] [(24,pI (IntKind.i64.wrap (v42+1)))] (by kernel_rfl) ?_)
   exact bd hb43 () (mO rfl) dM
  refine aR ?_
  refine av (an hb43 (fun ht=>ar rfl ?_))
  exact aG ((),()) (qa rfl) bX ht.symm
 rintro ⟨_,_⟩ τ hz;(try dsimp only at hz);subst q44;(try dsimp only at h);dsimp only [aD]
 refine af (ae h fun x49 hx49 h=>ap [] (rg 98 9) [(12,pB (((x10.2 == 0)&&(x37.2 == 0))&&x49))] (gC 7 (fun hc=>rM (gq hx49 hc)) bL) (by kernel_rfl) (eD ?_))
 exact zz r h rfl
end SX
namespace SX
open Go
theorem o8 {S T:Type} {body:S→Option (S⊕T)} (P:S→Prop) (μ:S→Nat) (Q:T→Prop) (step:∀ s,P s→(∃ s',body s=some (.inl s')∧P s'∧μ s'<μ s)∨∃ t,body s=some (.inr t)∧Q t):∀ (N:Nat) (s:S),P s→μ s<N→∃ t,bf body N s=some t∧Q t:=by
 intro N
 induction N with
 | zero=>intro s _ h;exact absurd h (Nat.not_lt_zero _)
 | succ N ih =>
  intro s hp hm
  rw [gA]
  rcases step s hp with ⟨s',h1,h2,h3⟩ | ⟨t,h1,h2⟩
  ·rw [h1];exact ih s' h2 (by omega)
  rw [h1];exact ⟨t,rfl,h2⟩
theorem ix0 {α:Type} {a b:α}:idx [a,b] 0=some a:=rfl
theorem ix1 {α:Type} {a b:α}:idx [a,b] 1=some b:=rfl
theorem cap_eq (c:Int):ee c=some (decide (65≤c)&&decide (c≤90)):=rfl
def rO (s:ByteArray):Bool:=match s.data.toList with | [a,b]=>decide (65≤(a.toNat:Int))&&decide ((a.toNat:Int)≤90)&&decide (65≤(b.toNat:Int))&&decide ((b.toNat:Int)≤90) | _=>false
theorem B2 {s:ByteArray} (h:((s.size:Int) == 2)=true):∃ a b,s.data.toList=[a,b]:=by
 have h2:s.data.toList.length=2:=by
  have:=eq_of_beq h
  rw [Array.length_toList];have e:s.size=s.data.size:=rfl;omega
 match hd:s.data.toList,h2 with
 | [a,b],_=>exact ⟨a,b,rfl⟩
theorem not_two {s:ByteArray} (h:((s.size:Int) == 2)=false):rO s=false:=by
 unfold rO
 split
 ·rename_i a b hd
  have e:s.size=s.data.toList.length:=by rw [Array.length_toList];rfl
  rw [hd] at e
  have e2:(s.size:Int)=2:=by rw [e];rfl
  rw [e2] at h;cases h
 rfl
theorem lp (s:ByteArray):bK s=some (rO s):=by
 unfold bK
 cases h:((s.size:Int) == 2)
 ·rw [not_two h];rfl
 obtain ⟨a,b,hd⟩:=B2 h
 simp only [Bool.true_and,gt,cap_eq]
 rw [hd]
 simp only [rO,hd]
 rw [uX ix0]
 simp only [bQ]
 cases h1:(decide (65≤(a.toNat:Int))&&decide ((a.toNat:Int)≤90))
 ·rfl
 simp only [gt,Bool.true_and];rw [uX ix1];rfl
theorem tm (s:ByteArray):s.size=s.data.toList.length:=by rw [Array.length_toList];rfl
def uz (c:UInt8):Bool:=decide (97≤c.toNat)&&decide (c.toNat≤122)
def hZ (s:ByteArray):Bool:=decide (1≤s.size)&&decide (s.size≤12)&&s.data.toList.all uz
theorem zZ (s:ByteArray) (hs:s.size≤140737488355328):iU s=some (hZ s):=by
 unfold iU hZ
 have i1:decide ((s.size:Int)<1) = !decide (1≤s.size):=by rw [← decide_not];exact decide_eq_decide.2 (by omega)
 have i2:decide ((12:Int)<(s.size:Int)) = !decide (s.size≤12):=by rw [← decide_not];exact decide_eq_decide.2 (by omega)
 rw [i1,i2]
 cases h1:decide (1≤s.size)
 ·rfl
 cases h2:decide (s.size≤12)
 ·rfl
 simp only [Bool.not_true,Bool.or_self,cA,Bool.true_and]
 have key:∀ n pos N,s.size - pos=n→pos≤s.size→n<N→bf (iB s) N pos=some ((s.data.toList.drop pos).all uz):=by
  intro n
  induction n with
  | zero =>
   intro pos N hn hp hN
   obtain ⟨N,rfl⟩:∃ M,N=M+1:=⟨N - 1,by omega⟩
   have:Nat.blt pos s.size=false:=by cases hb:Nat.blt pos s.size;rfl;simp [Nat.blt] at hb;omega
   rw [gA,iB,this]
   rw [List.drop_of_length_le (by rw [← tm];omega)];rfl
  | succ n ih =>
   intro pos N hn hp hN
   obtain ⟨N,rfl⟩:∃ M,N=M+1:=⟨N - 1,by omega⟩
   have hlt:pos<s.size:=by omega
   have hb:Nat.blt pos s.size=true:=by simp [Nat.blt];omega
   have hlt2:pos<s.data.toList.length:=by rw [← tm];exact hlt
   have hget:s[pos]=s.data.toList[pos]:=by
    rw [Array.getElem_toList];rfl
   rw [gA,iB,hb,List.drop_eq_getElem_cons hlt2,List.all_cons,← hget]
   by_cases ha:(s[pos]'hlt).toNat<128
   ·rw [decode_ascii s pos hlt ha]
    simp only [cK,uz]
    by_cases h1:(s[pos]'hlt).toNat<97
    ·rw [show decide (((s[pos]'hlt).toNat:Int)<97)=true from det (by omega),show decide (97≤(s[pos]'hlt).toNat)=false from cC (by omega)];rfl
    by_cases h2:122<(s[pos]'hlt).toNat
    ·rw [show decide ((122:Int)<((s[pos]'hlt).toNat:Int))=true from det (by omega),show decide ((s[pos]'hlt).toNat≤122)=false from cC (by omega),Bool.or_true,Bool.and_false];rfl
    rw [cC (by omega),cC (by omega),det (Nat.not_lt.1 h1),det (Nat.not_lt.1 h2)]
    exact ih (pos+1) N (by omega) (by omega) (by omega)
   have hh:=decode_high s pos hlt (by omega)
   have h122:¬ (s[pos]'hlt).toNat≤122:=by omega
   have:decide (122<((Utf8.decode s pos).1:Int))=true:=det (by omega)
   simp [this,uz,h122]
 have:=key s.size 0 FUEL (by omega) (by omega) (lD (by omega))
 rw [this,List.drop_zero]
def kC (lt:ByteArray→ByteArray→Bool):List ByteArray→Bool
 | []=>true
 | [_]=>true
 | a::b::l=>lt a b&&kC lt (b::l)
def nK (p:ByteArray→Bool) (l:List ByteArray) (k:Nat) (x:ByteArray):Bool:=p x&&(!decide (0<k)||kQ (l.getD (k - 1) x) x)
theorem wg (p:ByteArray→Bool) (l:List ByteArray):(∀ i x,l[i]?=some x→nK p l i x=true)↔(l.all p&&kC kQ l)=true:=by
 have key:∀ (l:List ByteArray),(∀ i,(h:i+1<l.length)→kQ l[i] l[i+1]=true)↔kC kQ l=true:=by
  intro l
  induction l with
  | nil=>simp [kC]
  | cons a l ih =>
   cases l with
   | nil=>simp [kC]
   | cons b l =>
    rw [kC,Bool.and_eq_true,← ih]
    constructor
    ·intro h;exact ⟨h 0 (by simp),fun i hi=>h (i+1) (by simpa using hi)⟩
    rintro ⟨h1,h2⟩ i hi
    cases i with
    | zero=>exact h1
    | succ i=>exact h2 i (by simpa using hi)
 rw [Bool.and_eq_true,← key,List.all_eq_true]
 constructor
 ·intro h
  refine ⟨fun x hx=>?_,fun i hi=>?_⟩
  ·obtain ⟨i,hi,rfl⟩:=List.getElem_of_mem hx
   have:=h i _ (List.getElem?_eq_getElem hi)
   simp only [nK,Bool.and_eq_true] at this
   exact this.1
  have:=h (i+1) _ (List.getElem?_eq_getElem hi)
  simp only [nK,Bool.and_eq_true,Nat.zero_lt_succ,decide_true,Bool.not_true,Bool.false_or,Nat.add_sub_cancel] at this
  rw [ib (by omega)] at this
  exact this.2
 rintro ⟨h1,h2⟩ i x hx
 obtain ⟨hi,rfl⟩:=List.getElem?_eq_some_iff.1 hx
 simp only [nK,h1 _ (List.getElem_mem hi),Bool.true_and]
 by_cases h0:0<i
 ·rw [det h0,Bool.not_true,Bool.false_or,ib (by omega)]
  obtain ⟨j,rfl⟩:∃ j,i=j+1:=⟨i - 1,by omega⟩
  exact h2 j hi
 simp [h0]
theorem o9 {T:Type} (p:ByteArray→Bool) (l:List ByteArray) (t:T):co (fun k x=>cond (nK p l k x) none (some t)) l 0=cond (l.all p&&kC kQ l) none (some t):=by
 have hn:=kq (g:=fun k x=>cond (nK p l k x) none (some t)) (l:=l) (k:=0)
 cases h:(l.all p&&kC kQ l)
 ·cases hf:co (fun k x=>cond (nK p l k x) none (some t)) l 0 with
  | none =>
   exfalso
   have:(l.all p&&kC kQ l)=true:=by
    rw [← wg]
    intro i x hx
    have:=hn.1 hf i x hx
    rw [Nat.zero_add] at this
    cases hk:nK p l i x
    ·rw [hk] at this;cases this
    rfl
   rw [h] at this;cases this
  | some u =>
   have:∀ (m:List ByteArray) (k:Nat) (u:T),co (fun k x=>cond (nK p l k x) none (some t)) m k=some u→u=t:=by
    intro m
    induction m with
    | nil=>intro k u h;cases h
    | cons x m ih =>
     intro k u h
     rw [co] at h
     cases hk:nK p l k x
     ·rw [hk] at h;injection h with h;exact h.symm
     rw [hk] at h;exact ih _ _ h
   rw [this _ _ _ hf];rfl
 rw [cK,hn]
 intro i x hx
 rw [Nat.zero_add,(wg p l).2 h i x hx];rfl
def jK (l:List ByteArray):Bool:=decide (l.length≤8)&&(l.all hZ&&kC kQ l)
def StrsOk (l:List ByteArray):Prop:=l.length≤140737488355328∧∀ s∈l,s.size≤140737488355328
theorem n9 (l:List ByteArray) (hl:StrsOk l):dj l=some (jK l):=by
 obtain ⟨hl,hs⟩:=hl
 unfold dj jK
 have i2:decide ((8:Int)<(l.length:Int)) = !decide (l.length≤8):=by rw [← decide_not];exact decide_eq_decide.2 (by omega)
 rw [i2]
 cases decide (l.length≤8)
 ·rfl
 simp only [Bool.not_true,cA,Bool.true_and]
 refine (cR (l:=l) (by omega) (fun k x=>cond (nK hZ l k x) none (some (.inr false))) (.inl ()) (fun k hk=>?_) (by simp only [fY,cA])).trans ?_
 ·have h62:l.length≤4611686018427387904:=by omega
  simp only [ml hk,cK,bp hk,bQ,zZ _ (hs _ (List.getElem_mem hk)),d0k,dr hk h62,nK]
  cases hw:hZ l[k]
  ·rfl
  by_cases h0:0<k
  ·simp only [h0,decide_true,Bool.not_true,Bool.not_false,Bool.and_true,Bool.true_and,Bool.false_or,gt,ko h0 hk h62,bQ,ib (show k - 1<l.length by omega),kQ,qu]
   cases Op.bytesLess (l[k-1]'(by omega)).toList l[k].toList <;> rfl
  simp only [h0,decide_false,Bool.and_false,pC,bQ,Bool.not_true,Bool.false_or,Bool.false_and,cA,Bool.not_false,Bool.true_and,Bool.true_or,Bool.or_false];rfl
 rw [o9]
 cases (l.all hZ&&kC kQ l) <;> rfl
mutual
def wh:Ze→Nat
 | ⟨_,_,_,_,_,_,l⟩=>1+wi l
def wi:List Ze→Nat
 | []=>0
 | a::l=>max (wh a) (wi l)
end
mutual
def qz:Ze→Nat
 | ⟨_,_,_,_,_,_,l⟩=>1+mM l
def mM:List Ze→Nat
 | []=>0
 | a::l=>qz a+mM l
end
theorem oa (r:Ze):wh r=1+wi r.Args:=by cases r;rw [wh]
theorem rP (r:Ze):qz r=1+mM r.Args:=by cases r;rw [qz]
theorem yL:∀ {l:List Ze} {a:Ze},a∈l→wh a≤wi l
 | b::l,a,h=>by
  rw [wi]
  rcases List.mem_cons.1 h with rfl | h
  ·omega
  have:=yL h;omega
theorem nC {r a:Ze} (h:a∈r.Args):wh a<wh r:=by rw [oa r];have:=yL h;omega
mutual
theorem uA:∀ r:Ze,wh r≤qz r
 | ⟨_,_,_,_,_,_,l⟩=>by rw [wh,qz];have:=tn l;omega
theorem tn:∀ l:List Ze,wi l≤mM l
 | []=>by rw [wi,mM];exact Nat.le_refl _
 | a::l=>by rw [wi,mM];have h1:=uA a;have h2:=tn l;omega
end
inductive ROk:Ze→Prop
 | mk (r:Ze) (h1:StrsOk r.Except) (h2:r.Name.size≤140737488355328) (h3:r.Args.length≤140737488355328) (h4:∀ a∈r.Args,ROk a):ROk r
theorem ROk.ex {r:Ze} (h:ROk r):StrsOk r.Except:=by cases h;assumption
theorem ROk.nm {r:Ze} (h:ROk r):r.Name.size≤140737488355328:=by cases h;assumption
theorem ROk.len {r:Ze} (h:ROk r):r.Args.length≤140737488355328:=by cases h;assumption
theorem ROk.arg {r:Ze} (h:ROk r) {a:Ze} (ha:a∈r.Args):ROk a:=by cases h with | mk _ _ _ _ h4=>exact h4 a ha
theorem nodes_F (n:Nat):∀ (r:Ze) (lim:Nat),ROk r→wh r≤n→1≤lim→lim≤1000→jZ n r (lim:Int)=some ((min (qz r) lim:Nat):Int):=by
 induction n with
 | zero=>intro r lim _ hd;rw [oa] at hd;omega
 | succ n ih =>
  intro r lim hr hd h1 h2
  have hl:=hr.len
  show iS (jZ n) r (lim:Int)=_
  unfold iS
  refine (lE (l:=r.Args) (by omega) (fun i (a:Nat)=>((a:Int),i)) (fun _ x a=>cond (Nat.ble lim a) (.inr ()) (.inl (min (a+qz x) lim))) (fun (a:Nat)=>.inl (a:Int)) (fun (_:Unit)=>.inr (lim:Int)) (fun _ a=>a≤lim) 1 h1 (fun k hk a ha=>⟨?_,fun a' h=>?_⟩) (fun a ha=>?_)).trans ?_
  ·simp only [ml hk,cK,bp hk,bQ]
   cases hb:Nat.ble lim a
   ·have hlt:a<lim:=by rcases Nat.lt_or_ge a lim with h | h;exact h;rw [Nat.ble_eq_true_of_le h] at hb;cases hb
    rw [show decide ((lim:Int)≤(a:Int))=false from cC (by omega),cU (by omega) (by omega),show (lim:Int) - (a:Int)=((lim - a:Nat):Int) by omega,
     ih _ (lim - a) (hr.arg (List.getElem_mem hk)) (by have:=nC (List.getElem_mem hk);omega) (by omega) (by omega)]
    simp only [cA,bQ,dr hk (show r.Args.length≤4611686018427387904 by omega),zU]
    rw [cU (by omega) (by omega),show (a:Int)+((min (qz r.Args[k]) (lim - a):Nat):Int)=((min (a+qz r.Args[k]) lim:Nat):Int) by omega]
   have hle:=Nat.le_of_ble_eq_true hb
   rw [show decide ((lim:Int)≤(a:Int))=true from det (by omega)];rfl
  ·cases hb:Nat.ble lim a
   ·rw [hb] at h;injection h with h;omega
   rw [hb] at h;cases h
  ·simp only [fY,cA]
  have key:∀ (l:List Ze) (i a:Nat),a≤lim→ut (fun (a:Nat)=>(a:Int)) (fun (_:Unit)=>(lim:Int)) (run (fun _ x a=>cond (Nat.ble lim a) (.inr ()) (.inl (min (a+qz x) lim))) l i a)=((min (a+mM l) lim:Nat):Int):=by
   intro l
   induction l with
   | nil=>intro i a ha;rw [mM];show (a:Int)=_;omega
   | cons x l ihl =>
    intro i a ha
    rw [kp,mM]
    cases hb:Nat.ble lim a
    ·exact (ihl _ _ (by omega)).trans (by omega)
    have hle:=Nat.le_of_ble_eq_true hb
    show (lim:Int)=_;omega
  have k2:∀ (o:Nat⊕Unit),(match (ut (fun (a:Nat)=>.inl (a:Int)) (fun (_:Unit)=>.inr (lim:Int)) o:Int⊕Int) with | .inl v4=>some v4 | .inr e=>some e)=some (ut (fun (a:Nat)=>(a:Int)) (fun (_:Unit)=>(lim:Int)) o):=fun o=>by cases o <;> rfl
  rw [rP]
  exact (k2 _).trans (congrArg some (key _ _ _ h1))
def lev (s:ByteArray):Bool := !(e9 s == 0)
def kD (l:List ByteArray):Bool:=decide (l.length≤6)&&(l.all lev&&kC kQ l)
def mil (n:Int):Bool:=decide (0≤n)&&decide (n≤1000000)
def lq (r:Ze):Bool:=(r.Kind == 2||(r.Digits == 0&&r.Except.isEmpty&&r.Tolerance == 0))&&(r.Kind == 3||r.Limit == 0)&&(r.Kind == 4||decide (r.Name=⟨#[]⟩))&&(r.Kind == 5||r.Kind == 6||r.Args.isEmpty)
def lP (r:Ze):Bool:=cond (r.Kind == 1) true (cond (r.Kind == 2) ((r.Digits == 2||r.Digits == 4||r.Digits == 6)&&kD r.Except&&mil r.Tolerance) (cond (r.Kind == 3) (mil r.Limit) (cond (r.Kind == 4) (hZ r.Name) false)))
mutual
def eQ:Ze→Bool
 | ⟨k,d,e,t,m,n,l⟩=>lq ⟨k,d,e,t,m,n,l⟩&&cond (k == 5||k == 6) (decide (2≤l.length)&&decide (l.length≤6)&&my k l) (lP ⟨k,d,e,t,m,n,l⟩)
def my (k:Int):List Ze→Bool
 | []=>true
 | a::l=>(!(a.Kind == k)&&eQ a)&&my k l
end
theorem rQ (k:Int):∀ l:List Ze,my k l=l.all fun a => !(a.Kind == k)&&eQ a
 | []=>by rw [my];rfl
 | a::l=>by rw [my,rQ k l];rfl
theorem i4 (r:Ze):eQ r=(lq r&&cond (r.Kind == 5||r.Kind == 6) (decide (2≤r.Args.length)&&decide (r.Args.length≤6)&&r.Args.all fun a => !(a.Kind == r.Kind)&&eQ a) (lP r)):=by
 cases r;rw [eQ,rQ]
theorem len0 {α:Type} (l:List α):((l.length:Int) == 0)=l.isEmpty:=by cases l <;> rfl
theorem len0' {α:Type} (l:List α):decide (0<(l.length:Int)) = !l.isEmpty:=by cases l with
 | nil=>rfl
 | cons a l=>exact det (by rw [List.length_cons];omega)
theorem xE (r:Ze):kx r=some (lq r):=by
 unfold kx lq
 rw [len0,len0']
 simp only [bne]
 cases (r.Kind == 2) <;> cases (r.Digits == 0) <;> cases r.Except.isEmpty <;> cases (r.Tolerance == 0) <;> cases (r.Kind == 3) <;> cases (r.Limit == 0) <;> cases (r.Kind == 4) <;> cases decide (r.Name=⟨#[]⟩) <;> rfl
theorem xF (l:List ByteArray) (hl:StrsOk l):gh l=some (kD l):=by
 obtain ⟨hl,hs⟩:=hl
 unfold gh kD
 have i2:decide ((6:Int)<(l.length:Int)) = !decide (l.length≤6):=by rw [← decide_not];exact decide_eq_decide.2 (by omega)
 rw [i2]
 cases decide (l.length≤6)
 ·rfl
 simp only [Bool.not_true,cA,Bool.true_and]
 refine (cR (l:=l) (by omega) (fun k x=>cond (nK lev l k x) none (some (.inr false))) (.inl ()) (fun k hk=>?_) (by simp only [fY,cA])).trans ?_
 ·have h62:l.length≤4611686018427387904:=by omega
  simp only [ml hk,cK,bp hk,bQ,show ∀ s,dc s=some (e9 s) from fun _=>rfl,d0k,dr hk h62,nK,lev]
  cases hw:(e9 l[k] == 0)
  ·by_cases h0:0<k
   ·simp only [h0,decide_true,Bool.not_true,Bool.not_false,Bool.and_true,Bool.true_and,Bool.false_or,gt,ko h0 hk h62,bQ,ib (show k - 1<l.length by omega),kQ,qu]
    cases Op.bytesLess (l[k-1]'(by omega)).toList l[k].toList <;> rfl
   simp only [h0,decide_false,Bool.and_false,pC,bQ,Bool.not_true,Bool.false_or,Bool.false_and,cA,Bool.not_false,Bool.true_and,Bool.true_or,Bool.or_false];rfl
  rfl
 rw [o9]
 cases (l.all lev&&kC kQ l) <;> rfl
theorem B3 (s:ByteArray) (hs:s.size≤140737488355328):dj [s]=some (hZ s):=by
 rw [n9 [s] ⟨by simp,by simpa using hs⟩]
 simp [jK,kC]
theorem valid_F (n:Nat):∀ (r:Ze),ROk r→wh r≤n→j7 n r=some (eQ r):=by
 induction n with
 | zero=>intro r _ hd;rw [oa] at hd;omega
 | succ n ih =>
  intro r hr hd
  have hl:=hr.len
  show iW (j7 n) r=_
  unfold iW
  rw [xE,i4,bQ]
  cases lq r
  ·rfl
  simp only [Bool.not_true,cA,Bool.true_and]
  cases e1:(r.Kind == 1)
  rotate_left
  ·have:=eq_of_beq e1
   simp only [lP,e1,this];rfl
  cases e2:(r.Kind == 2)
  rotate_left
  ·have:=eq_of_beq e2
   simp only [lP,e1,e2,this,cK,cA]
   rw [xF _ hr.ex]
   show _=some (_&&kD r.Except&&mil r.Tolerance)
   cases (r.Digits == 2||r.Digits == 4||r.Digits == 6)
   ·rfl
   simp only [gt,Bool.true_and,bQ]
   cases kD r.Except <;> rfl
  cases e3:(r.Kind == 3)
  rotate_left
  ·have:=eq_of_beq e3
   simp only [lP,e1,e2,e3,this,cK,cA];rfl
  cases e4:(r.Kind == 4)
  rotate_left
  ·have:=eq_of_beq e4
   simp only [lP,e1,e2,e3,e4,this,cK,cA]
   rw [B3 _ hr.nm];rfl
  simp only [lP,e1,e2,e3,e4,cA]
  have e56:(cond (r.Kind == 5) (some (r.Kind == 5)) (some (r.Kind == 6)):Option Bool)=some (r.Kind == 5||r.Kind == 6):=by cases (r.Kind == 5) <;> rfl
  rw [e56,bQ]
  cases (r.Kind == 5||r.Kind == 6)
  ·rfl
  simp only [cK]
  have i1:decide ((r.Args.length:Int)<2) = !decide (2≤r.Args.length):=by rw [← decide_not];exact decide_eq_decide.2 (by omega)
  have i2:decide ((6:Int)<(r.Args.length:Int)) = !decide (r.Args.length≤6):=by rw [← decide_not];exact decide_eq_decide.2 (by omega)
  rw [i1,i2]
  cases decide (2≤r.Args.length)
  ·rfl
  cases decide (r.Args.length≤6)
  ·rfl
  simp only [Bool.not_true,Bool.or_self,cA,Bool.true_and]
  refine (cR (l:=r.Args) (by omega) (fun _ a=>cond (!(a.Kind == r.Kind)&&eQ a) none (some (.inr false))) (.inl ()) (fun k hk=>?_) (by simp only [fY,cA])).trans ?_
  ·simp only [ml hk,cK,bp hk,bQ,dr hk (show r.Args.length≤4611686018427387904 by omega)]
   have h2:=ih _ (hr.arg (List.getElem_mem hk)) (by have:=nC (List.getElem_mem hk);omega)
   cases (r.Args[k].Kind == r.Kind)
   ·simp only [Bool.not_false,gt,h2,bQ,Bool.true_and,Bool.false_or]
    cases eQ r.Args[k] <;> rfl
   rfl
  rw [tf]
  cases (r.Args.all fun a => !(a.Kind == r.Kind)&&eQ a) <;> rfl
def ns (r:Ze):Int:=cond (decide (qz r≤32)) (cond (eQ r) 0 1) 8
theorem nD (r:Ze) (hr:ROk r) (hd:wh r≤1000):eP r=some (ns r):=by
 unfold eP nX n7 ns
 have hf:FUEL=1267650600228229401496703205376:=rfl
 have h1:=nodes_F FUEL r 33 hr (by rw [hf];omega) (by omega) (by omega)
 rw [show ((33:Nat):Int)=33 from rfl] at h1
 rw [h1,bQ,valid_F FUEL r hr (by rw [hf];omega)]
 by_cases h:qz r≤32
 ·rw [cC (by omega),det h]
  cases eQ r <;> rfl
 rw [det (by omega),cC h];rfl
theorem kE (r:Ze):ns r=0↔qz r≤32∧eQ r=true:=by
 unfold ns
 by_cases h:qz r≤32
 ·rw [det h];cases eQ r <;> simp [h]
 rw [cC h];simp [h]
structure RFOk (x:Zk):Prop where
 pre:x.Prefix.size≤140737488355328
 rule:ROk x.Rule
 deep:wh x.Rule≤1000
structure AOk (a:Zc):Prop where
 par:StrsOk a.Parties
 len:a.Rules.length≤140737488355328
 rules:∀ x∈a.Rules,RFOk x
structure ASOk (l:List Zc):Prop where
 len:l.length≤140737488355328
 all:∀ a∈l,AOk a
def kF (l:List ByteArray):Bool:=l.all rO&&kC kQ l
def tp (l:List Zk) (k:Nat) (x:Zk):Option Int:=cond (lev x.Prefix) (cond (decide (0<k) && !kQ (l.getD (k - 1) x).Prefix x.Prefix) (some 9) (cond (ns x.Rule == 0) none (some (ns x.Rule)))) (some 1)
def rulesE (l:List Zk):Int:=(co (tp l) l 0).getD 0
def z2 (l:List Zc) (k:Nat) (a:Zc):Option Int :=
 cond (decide (a.ID<1)||decide (1000<a.ID)||decide (a.Kind<1)||decide (3<a.Kind)) (some 2) (cond (decide (0<k)&&decide (a.ID≤(l.getD (k - 1) a).ID)) (some 9) (cond (decide (12<a.Parties.length)||decide (12<a.Rules.length)) (some 8)
  (cond (kF a.Parties) (cond (rulesE a.Rules == 0) none (some (rulesE a.Rules))) (some 1))))
def agrE (l:List Zc):Int:=cond (decide (l.length≤8)) ((co (z2 l) l 0).getD 0) 8
theorem uB (l:List ByteArray) (hl:StrsOk l):di l=some (kF l):=by
 obtain ⟨hl,hs⟩:=hl
 unfold di kF
 refine (cR (l:=l) (by omega) (fun k x=>cond (nK rO l k x) none (some (.inr false))) (.inl ()) (fun k hk=>?_) (by simp only [fY,cA])).trans ?_
 ·have h62:l.length≤4611686018427387904:=by omega
  simp only [ml hk,cK,bp hk,bQ,lp,d0k,dr hk h62,nK]
  cases hw:rO l[k]
  ·rfl
  by_cases h0:0<k
  ·simp only [h0,decide_true,Bool.not_true,Bool.not_false,Bool.and_true,Bool.true_and,Bool.false_or,gt,ko h0 hk h62,bQ,ib (show k - 1<l.length by omega),kQ,qu]
   cases Op.bytesLess (l[k-1]'(by omega)).toList l[k].toList <;> rfl
  simp only [h0,decide_false,Bool.and_false,pC,bQ,Bool.not_true,Bool.false_or,Bool.false_and,cA,Bool.not_false,Bool.true_and,Bool.true_or,Bool.or_false];rfl
 rw [o9]
 cases (l.all rO&&kC kQ l) <;> rfl
theorem wj (l:List Zk) (hl:l.length≤140737488355328) (hr:∀ x∈l,RFOk x):cX l=some (rulesE l):=by
 unfold cX rulesE
 have h62:l.length≤4611686018427387904:=by omega
 refine (cR (l:=l) h62 (fun k x=>(tp l k x).map .inr) (.inl ()) (fun k hk=>?_) (by simp only [fY,cA])).trans ?_
 ·simp only [ml hk,cK,bp hk,bQ,show ∀ s,dc s=some (e9 s) from fun _=>rfl,d0k,dr hk h62,tp,lev]
  cases hw:(e9 l[k].Prefix == 0)
  ·have h2:=nD _ (hr _ (List.getElem_mem hk)).rule (hr _ (List.getElem_mem hk)).deep
   by_cases h0:0<k
   ·simp only [h0,decide_true,Bool.true_and,gt,ko h0 hk h62,bQ,ib (show k - 1<l.length by omega),kQ,qu,Bool.not_false,cK,cA]
    cases Op.bytesLess (l[k-1]'(by omega)).Prefix.toList l[k].Prefix.toList
    ·rfl
    simp only [Bool.not_true,cA]
    rw [h2]
    simp only [bne]
    cases hz:(ns l[k].Rule == 0) <;> simp [hz,zV]
   simp only [h0,decide_false,Bool.false_and,pC,bQ,cA,Bool.not_false,cK]
   rw [h2]
   simp only [bne]
   cases hz:(ns l[k].Rule == 0) <;> simp [hz,zV]
  rfl
 have key:∀ (g:Nat→Zk→Option Int) (m:List Zk) (i:Nat),co (fun k x=>(g k x).map (Sum.inr:Int→Unit⊕Int)) m i=(co g m i).map Sum.inr:=by
  intro g m
  induction m with
  | nil=>intro i;rfl
  | cons x m ih=>intro i;rw [co,co];cases g i x with | none=>exact ih _ | some t=>rfl
 rw [key]
 cases co (tp l) l 0 <;> rfl
theorem tq {α T U:Type} (f:T→U) (g:Nat→α→Option T):∀ (m:List α) (i:Nat),co (fun k x=>(g k x).map f) m i=(co g m i).map f
 | [],_=>rfl
 | x::m,i=>by rw [co,co];cases g i x with | none=>exact tq f g m _ | some t=>rfl
theorem B4 (l:List Zc) (hl:ASOk l):cP l=some (agrE l):=by
 unfold cP agrE
 have h62:l.length≤4611686018427387904:=by have:=hl.len;omega
 have i1:decide ((8:Int)<(l.length:Int)) = !decide (l.length≤8):=by rw [← decide_not];exact decide_eq_decide.2 (by omega)
 rw [i1]
 cases decide (l.length≤8)
 ·rfl
 simp only [Bool.not_true,cA,cK]
 refine (cR (l:=l) h62 (fun k x=>(z2 l k x).map .inr) (.inl ()) (fun k hk=>?_) (by simp only [fY,cA])).trans ?_
 ·have ha:=hl.all _ (List.getElem_mem hk)
  simp only [ml hk,cK,bp hk,bQ,d0k,dr hk h62,z2]
  have j1:decide ((12:Int)<(l[k].Parties.length:Int))=decide (12<l[k].Parties.length):=decide_eq_decide.2 (by omega)
  have j2:decide ((12:Int)<(l[k].Rules.length:Int))=decide (12<l[k].Rules.length):=decide_eq_decide.2 (by omega)
  rw [uB _ ha.par,wj _ ha.len ha.rules,j1,j2]
  cases (decide (l[k].ID<1)||decide (1000<l[k].ID)||decide (l[k].Kind<1)||decide (3<l[k].Kind))
  ·by_cases h0:0<k
   ·simp only [h0,decide_true,Bool.true_and,gt,ko h0 hk h62,bQ,ib (show k - 1<l.length by omega),cA]
    cases decide (l[k].ID≤(l[k-1]'(by omega)).ID)
    ·cases (decide (12<l[k].Parties.length)||decide (12<l[k].Rules.length))
     ·cases kF l[k].Parties
      ·rfl
      simp only [cA,cK,Bool.not_true,bne]
      cases hz:(rulesE l[k].Rules == 0) <;> simp [hz,zV]
     rfl
    rfl
   simp only [h0,decide_false,Bool.false_and,pC,bQ,cA]
   cases (decide (12<l[k].Parties.length)||decide (12<l[k].Rules.length))
   ·cases kF l[k].Parties
    ·rfl
    simp only [cA,cK,Bool.not_true,bne]
    cases hz:(rulesE l[k].Rules == 0) <;> simp [hz,zV]
   rfl
  rfl
 rw [tq]
 cases co (z2 l) l 0 <;> rfl
def Y {α:Type} (x:Option α) (P:α→Prop):Prop:=∃ a,x=some a∧P a
section
variable {α β S T:Type} {x y:Option α} {P P':α→Prop} {Q:β→Prop} {f:α→Option β} {a:α} {c:Bool}
theorem Y.bind (h:Y x P) (k:∀ a,P a→Y (f a) Q):Y (x.bind f) Q:=by
 obtain ⟨a,h1,h2⟩:=h;rw [h1];exact k a h2
theorem Y.ret (h:P a):Y (some a) P:=⟨a,rfl,h⟩
theorem Y.mono (h:Y x P) (k:∀ a,P a→P' a):Y x P':=by obtain ⟨a,h1,h2⟩:=h;exact ⟨a,h1,k a h2⟩
theorem Y.cond (h:c=true→Y x P) (k:c=false→Y y P):Y (cond c x y) P:=by cases c;exact k rfl;exact h rfl
theorem Y.eq {r:α} (h:x=some r) (k:Y (f r) Q):Y (x.bind f) Q:=by rw [h];exact k
theorem Y.loop {body:S→Option (S⊕T)} {R:T→Prop} {s:S} (I:S→Prop) (μ:S→Nat) (h0:I s) (hm:μ s≤1267650600228229401496703205000) (step:∀ s,I s→Y (body s) (fun o=>match o with | .inl s'=>I s'∧μ s'<μ s | .inr t=>R t)):Y (bf body FUEL s) R:=by
 obtain ⟨t,h1,h2⟩:=o8 (body:=body) I μ R (fun s hs=>by
  obtain ⟨o,k1,k2⟩:=step s hs
  cases o with
  | inl s'=>exact .inl ⟨s',k1,k2⟩
  | inr t=>exact .inr ⟨t,k1,k2⟩) FUEL s h0 (lD hm)
 exact ⟨t,h1,h2⟩
theorem Y.idx {xs:List α} {i:Int} {n:Nat} (h:i=(n:Int)) (hn:n<xs.length) (k:Y (f xs[n]) Q):Y ((idx xs i).bind f) Q:=by subst h;rw [bp hn];exact k
theorem Y.gdp [Inhabited α] {z:Option (α×β)} {m:β} {R:α×β→Prop} (h:c=true→Y z R) (k:c=false→R (default,m)):Y (gdp c z m) R:=by
 cases c
 ·exact ⟨_,rfl,k rfl⟩
 exact h rfl
end
theorem lQ (a n:Int) (h1:1≤n) (h2:n≤4611686018427387904):∃ r,dF a n=some r∧0≤r∧r<n:=by
 have hl:=Int.tmod_lt_of_pos a (show 0<n by omega)
 have hl2:=Int.tmod_lt_of_pos (-a) (show 0<n by omega)
 rw [Int.neg_tmod] at hl2
 unfold dF nz lb
 rw [if_neg (by omega),cU (by omega) (by omega)]
 exact ⟨_,rfl,Int.tmod_nonneg _ (by omega),Int.tmod_lt_of_pos _ (by omega)⟩
def SOK (p:Zj):Prop:=0≤p.I∧p.I≤p.L.length∧p.L.length≤1000000000000000
theorem next_ok {p:Zj} (hp:SOK p) (n:Int) (h1:1≤n) (h2:n≤4611686018427387904):∃ r q,aI p n=some (r,q)∧0≤r∧r<n∧SOK q:=by
 obtain ⟨a1,a2,a3⟩:=hp
 unfold aI
 by_cases h:(p.L.length:Int)≤p.I
 ·rw [det h];exact ⟨_,_,rfl,by omega,by omega,a1,a2,a3⟩
 rw [cC h,cU (r:=p.I+1) (by omega) (by omega),cU (by omega) (by omega)]
 simp only [cA]
 have e:idx p.L (p.I+1 - 1)=some (p.L[p.I.toNat]'(by omega)):=by
  unfold idx;rw [if_pos (by omega)]
  have:(p.I+1 - 1).toNat=p.I.toNat:=by omega
  rw [this];exact List.getElem?_eq_getElem _
 rw [uX e]
 obtain ⟨r,h3,h4,h5⟩:=lQ (p.L[p.I.toNat]'(by omega)) n h1 h2
 rw [uX h3]
 exact ⟨_,_,rfl,h4,h5,by simp only;omega,by simp only;omega,a3⟩
theorem cut_ok (l:List Int) (n:Int) (h:0≤n) (h2:n≤1000):∃ m,ku l n=some m∧(m.length:Int)≤n:=by
 unfold ku
 by_cases h1:n<(l.length:Int)
 ·rw [det h1]
  have e:sub l 0 n=some ((l.take n.toNat).drop 0):=by unfold sub;rw [if_pos (by omega)];rfl
  simp only [cK];rw [uX e];exact ⟨_,rfl,by simp;omega⟩
 rw [cC h1];exact ⟨_,rfl,by omega⟩
theorem B5 (a n:Int) (h1:1≤n) (h2:n≤4611686018427387904):Y (dF a n) (fun r=>0≤r∧r<n):=lQ a n h1 h2
theorem dT {p:Zj} (hp:SOK p) (n:Int) (h1:1≤n) (h2:n≤4611686018427387904):Y (aI p n) (fun r=>0≤r.1∧r.1<n∧SOK r.2):=by
 obtain ⟨r,q,h3,h4,h5,h6⟩:=next_ok hp n h1 h2;exact ⟨(r,q),h3,h4,h5,h6⟩
theorem cut_Y (l:List Int) (n:Int) (h:0≤n) (h2:n≤1000):Y (ku l n) (fun m=>SOK ⟨m,0⟩):=by
 obtain ⟨m,h3,h4⟩:=cut_ok l n h h2
 exact ⟨m,h3,by dsimp only;omega,by dsimp only;omega,by dsimp only;omega⟩
theorem B6 {p:Zj} (hp:SOK p):Y (eT p) (fun r=>mil r.1=true∧SOK r.2):=by
 unfold eT
 refine (dT hp 4 (by omega) (by omega)).bind fun a ⟨h1,h2,h3⟩=>?_
 refine Y.cond (fun _=>?_) (fun _=>?_)
 ·refine (dT h3 101 (by omega) (by omega)).bind fun b ⟨k1,k2,k3⟩=>Y.ret ⟨?_,k3⟩
  rw [cU (by omega) (by omega)];simp only [mil,Bool.and_eq_true,decide_eq_true_eq];omega
 refine (dT h3 1000001 (by omega) (by omega)).bind fun b ⟨k1,k2,k3⟩=>Y.ret ⟨?_,k3⟩
 simp only [mil,Bool.and_eq_true,decide_eq_true_eq];omega
structure Good (r:Ze) (m:Nat):Prop where
 ok:ROk r
 valid:eQ r=true
 size:qz r≤m
theorem wk:StrsOk []:=⟨by simp,by simp⟩
theorem B7 {r:Ze} (h1:StrsOk r.Except) (h2:r.Name.size≤140737488355328) (h3:r.Args=[]):ROk r:=⟨r,h1,h2,by rw [h3];simp,by rw [h3];simp⟩
theorem B8 {r:Ze} (h:r.Args=[]):qz r=1:=by rw [rP,h];rfl
def lR:Nat→Nat
 | 0=>1
 | d+1=>1+3*lR d
theorem B9 (d:Nat):1≤lR d:=by cases d <;> simp [lR]
theorem yM {m:Nat}:∀ {l:List Ze},(∀ a∈l,qz a≤m)→mM l≤l.length*m
 | [],_=>by rw [mM];omega
 | a::l,h=>by
  rw [mM,List.length_cons,Nat.add_mul,Nat.one_mul]
  have h1:=h a (by simp);have h2:=yM (l:=l) fun b hb=>h b (by simp [hb]);omega
theorem uC {but:Int} (hb:but=0∨but=5∨but=6) {r:Ze} {q:Zj} {m:Nat} (hm:1≤m) (hq:SOK q) (h1:StrsOk r.Except) (h2:r.Name.size≤140737488355328) (h3:r.Args=[]) (hk:1≤r.Kind∧r.Kind≤4) (hv:eQ r=true):Good r m∧r.Kind≠but∧SOK q :=
 ⟨⟨B7 h1 h2 h3,hv,by rw [B8 h3];exact hm⟩,by omega,hq⟩
theorem tu {d n:Nat} {p:Zj} {but:Int} (hp:SOK p) (hb:but=0∨but=5∨but=6) (hn:d<n) (hd:d≤10)
    (ih:∀ d',d=d'+1→∀ (q:Zj) (but':Int),SOK q→(but'=0∨but'=5∨but'=6)→Y (dS (n - 1) q but' (d':Int)) (fun r=>Good r.1 (lR d')∧r.1.Kind≠but'∧SOK r.2)) :
    Y (dS n p but (d:Int)) (fun r=>Good r.1 (lR d)∧r.1.Kind≠but∧SOK r.2):=by
  obtain ⟨n,rfl⟩:∃ m,n=m+1:=⟨n - 1,by omega⟩
  rw [Nat.add_sub_cancel] at ih
  show Y (eX (dS n) p but (d:Int)) _
  unfold eX
  refine (dT hp 8 (by omega) (by omega)).bind fun a ⟨h1,h2,h3⟩=>?_
  refine Y.cond (fun hc=>?_) (fun hc=>?_)
  · simp only [Bool.and_eq_true,decide_eq_true_eq] at hc
    obtain ⟨d',rfl⟩:∃ d',d=d'+1:=⟨d - 1,by omega⟩
    have ih:=ih d' rfl
    have hm1:0≤Int.tmod a.1 2:=Int.tmod_nonneg _ (by omega)
    have hm2:Int.tmod a.1 2<2:=Int.tmod_lt_of_pos _ (by omega)
    refine Y.bind (P:=fun k=>(k=5∨k=6)∧k≠but) ?_ fun k ⟨hk,hkb⟩=>?_
    · rw [cU (by omega) (by omega)]
      refine Y.cond (fun hc=>Y.ret ?_) (fun hc=>Y.ret ?_)
      · have:=eq_of_beq hc;rw [cU (by omega) (by omega)];omega
      have:¬ 5+Int.tmod a.1 2=but:=by intro h;rw [h] at hc;simp at hc
      omega
    refine (dT h3 2 (by omega) (by omega)).bind fun b ⟨k1,k2,k3⟩=>?_
    rw [cU (r:=2+b.1) (by omega) (by omega)]
    refine Y.bind (P:=fun t:List Int×Int×List Ze=>SOK ⟨t.1,t.2.1⟩∧(2≤t.2.2.length∧t.2.2.length≤3)∧∀ x∈t.2.2,Good x (lR d')∧x.Kind≠k) ?_ fun t ⟨t1,t2,t3⟩=>?_
    · refine Y.loop (fun s:Int×List Int×Int×List Ze=>(0≤s.1∧s.1+s.2.2.2.length=2+b.1)∧SOK ⟨s.2.1,s.2.2.1⟩∧∀ x∈s.2.2.2,Good x (lR d')∧x.Kind≠k) (fun s=>s.1.toNat) ⟨⟨by dsimp only;omega,by simp⟩,k3,by simp⟩ (by dsimp only;omega) fun s hs=>?_
      obtain ⟨v,l,i,m⟩:=s
      obtain ⟨⟨s1,s2⟩,s3,s4⟩:=hs
      dsimp only at s1 s2 s3 s4 ⊢
      refine Y.cond (fun hc=>?_) (fun hc=>Y.ret ⟨s3,?_,s4⟩)
      · have hc:=of_decide_eq_true hc
        rw [cU (by omega) (by omega),show ((d'+1:Nat):Int) - 1=(d':Int) by omega]
        refine (ih _ k s3 (by omega)).bind fun x ⟨x1,x2,x3⟩=>?_
        rw [eM (by simp;omega) (by simp;omega),bQ,cU (by omega) (by omega)]
        refine Y.ret ⟨⟨⟨by dsimp only;omega,by simp;omega⟩,x3,fun z hz=>?_⟩,by dsimp only;omega⟩
        rcases List.mem_append.1 hz with hz | hz
        · exact s4 z hz
        rw [List.mem_singleton.1 hz];exact ⟨x1,x2⟩
      have hc:=of_decide_eq_false hc
      dsimp only;omega
    obtain ⟨l,i,m⟩:=t
    dsimp only at t1 t2 t3 ⊢
    refine Y.ret ⟨⟨⟨_,wk,by simp,by dsimp only;omega,fun z hz=>(t3 z hz).1.ok⟩,?_,?_⟩,hkb,t1⟩
    · rw [i4]
      have e1:(k == 5||k == 6)=true:=by rcases hk with rfl | rfl <;> rfl
      have e2:lq ⟨k,0,[],0,0,ByteArray.empty,m⟩=true:=by rcases hk with rfl | rfl <;> rfl
      rw [e2]
      simp only [e1,cK,Bool.true_and,Bool.and_eq_true,decide_eq_true_eq,List.all_eq_true,Bool.not_eq_true',beq_eq_false_iff_ne,ne_eq]
      exact ⟨by omega,fun z hz=>⟨(t3 z hz).2,(t3 z hz).1.valid⟩⟩
    rw [rP]
    have:=yM fun z hz=>(t3 z hz).1.size
    have h3:m.length*lR d'≤3*lR d':=Nat.mul_le_mul_right _ t2.2
    dsimp only [lR];omega
  have hpos:=B9 d
  refine Y.bind (P:=fun q:(List Int×Int)⊕(Ze×Zj)=>match q with | .inl s=>SOK ⟨s.1,s.2⟩ | .inr r=>Good r.1 (lR d)∧r.1.Kind≠but∧SOK r.2) ?_ fun q hq=>?_
  · refine Y.cond (fun _=>?_) fun _=>Y.cond (fun _=>?_) fun _=>Y.cond (fun _=>?_) fun _=>Y.ret h3
    · refine (B6 h3).bind fun b ⟨k1,k2⟩=>Y.ret (uC hb hpos k2 wk (by simp) rfl ⟨by simp,by simp⟩ ?_)
      rw [i4];simp only [lq,lP,k1];rfl
    · refine (dT h3 5 (by omega) (by omega)).bind fun b ⟨k1,k2,k3⟩=>?_
      obtain ⟨j,hj⟩:∃ j:Nat,b.1=(j:Int):=⟨b.1.toNat,by omega⟩
      have hj5:j<5:=by omega
      refine Y.idx hj hj5 (Y.ret ?_)
      have hw:∀ j:Nat,(h:j<5)→hZ [(⟨#[97,110,100]⟩:ByteArray),(⟨#[99,117,116]⟩:ByteArray),(⟨#[111,114]⟩:ByteArray),(⟨#[115,101,119]⟩:ByteArray),(⟨#[115,112,105,110]⟩:ByteArray)][j]=true:=by
        intro j h
        match j,h with
        | 0,_=>rfl
        | 1,_=>rfl
        | 2,_=>rfl
        | 3,_=>rfl
        | 4,_=>rfl
      have hw2:=hw j hj5
      refine uC hb hpos k3 wk ?_ rfl ⟨by simp,by simp⟩ ?_
      · have h12:=hw2
        simp only [hZ,Bool.and_eq_true,decide_eq_true_eq] at h12
        dsimp only;omega
      rw [i4];simp only [lq,lP,hw2];rfl
    refine (dT h3 3 (by omega) (by omega)).bind fun b ⟨k1,k2,k3⟩=>Y.cond (fun _=>Y.ret (uC hb hpos k3 wk (by simp) rfl ⟨by simp,by simp⟩ ?_)) fun _=>Y.ret k3
    rw [i4];rfl
  cases q with
  | inr r=>exact Y.ret hq
  | inl s =>
    obtain ⟨l,i⟩:=s
    dsimp only at hq ⊢
    refine (dT hq 3 (by omega) (by omega)).bind fun b ⟨k1,k2,k3⟩=>?_
    refine (dT k3 3 (by omega) (by omega)).bind fun c ⟨c1,c2,c3⟩=>?_
    refine Y.bind (P:=fun t:List Int×Int×List ByteArray=>SOK ⟨t.1,t.2.1⟩∧StrsOk t.2.2∧kD t.2.2=true) ?_ fun t ⟨t1,t2,t3⟩=>?_
    · refine Y.cond (fun _=>?_) fun _=>Y.ret ⟨c3,wk,rfl⟩
      refine (dT c3 2 (by omega) (by omega)).bind fun e ⟨e1,e2,e3⟩=>?_
      obtain he | he:e.1=0∨e.1=1:=by omega
      · rw [he];exact Y.ret ⟨e3,(show StrsOk [(⟨#[57,52,48,49]⟩:ByteArray),(⟨#[57,53,48,50]⟩:ByteArray)] from ⟨by decide,by decide⟩),(show kD [(⟨#[57,52,48,49]⟩:ByteArray),(⟨#[57,53,48,50]⟩:ByteArray)]=true by kernel_rfl)⟩
      rw [he];exact Y.ret ⟨e3,(show StrsOk [(⟨#[57,53,48,50]⟩:ByteArray)] from ⟨by decide,by decide⟩),(show kD [(⟨#[57,53,48,50]⟩:ByteArray)]=true by kernel_rfl)⟩
    obtain ⟨l2,i2,ex⟩:=t
    dsimp only at t1 t2 t3 ⊢
    refine (dT t1 3 (by omega) (by omega)).bind fun e ⟨e1,e2,e3⟩=>?_
    refine Y.bind (P:=fun t:List Int×Int×Int=>SOK ⟨t.1,t.2.1⟩∧mil t.2.2=true) (Y.cond (fun _=>(B6 e3).bind fun f ⟨f1,f2⟩=>Y.ret ⟨f2,f1⟩) fun _=>Y.ret ⟨e3,rfl⟩) fun u ⟨u1,u2⟩=>?_
    obtain ⟨l3,i3,tol⟩:=u
    dsimp only at u1 u2 ⊢
    refine Y.ret (uC hb hpos u1 t2 (by simp) rfl ⟨by simp,by simp⟩ ?_)
    rw [cU (r:=2*b.1) (by omega) (by omega),cU (by omega) (by omega),i4]
    simp only [lq,lP,t3,u2]
    obtain hb0 | hb0 | hb0:b.1=0∨b.1=1∨b.1=2:=by omega
    · rw [hb0];rfl
    · rw [hb0];rfl
    rw [hb0];rfl
theorem rule_Y (d:Nat):∀ (n:Nat) (p:Zj) (but:Int),d<n→d≤10→SOK p→(but=0∨but=5∨but=6)→Y (dS n p but (d:Int)) (fun r=>Good r.1 (lR d)∧r.1.Kind≠but∧SOK r.2):=by
  induction d with
  | zero=>exact fun n p but h1 h2 hp hb=>tu hp hb h1 (by omega) (fun d h=>absurd h (by omega))
  | succ d ih=>exact fun n p but h1 h2 hp hb=>tu hp hb h1 (by omega) (fun d' h q but' hq hb'=>by
      obtain rfl:d'=d:=by omega
      exact ih _ q but' (by omega) (by omega) hq hb')
theorem Ca (x y z:ByteArray) (h1:kQ x y=true) (h2:kQ y z=true):kQ x z=true:=by
 rw [nl] at *;exact det (List.lt_trans (of_decide_eq_true h1) (of_decide_eq_true h2))
theorem ltS_irr (x:ByteArray):kQ x x=false:=by rw [nl];exact cC (List.lt_irrefl _)
theorem jC:∀ l:List ByteArray,kC kQ l=true↔l.Pairwise (fun a b=>kQ a b=true)
 | []=>by simp [kC]
 | [a]=>by simp [kC]
 | a::b::l=>by
  rw [kC,Bool.and_eq_true,jC (b::l)]
  constructor
  ·rintro ⟨h1,h2⟩
   refine List.pairwise_cons.2 ⟨fun c hc=>?_,h2⟩
   rcases List.mem_cons.1 hc with rfl | hc
   ·exact h1
   exact Ca _ _ _ h1 ((List.pairwise_cons.1 h2).1 c hc)
  intro h;obtain ⟨h1,h2⟩:=List.pairwise_cons.1 h;exact ⟨h1 b (by simp),h2⟩
theorem mz {α:Type} {l C:List α} {v:Nat} (h:l.Sublist (C.take v)) (hv:v<C.length):(l++[C[v]]).Sublist (C.take (v+1))∧l.Sublist (C.take (v+1)):=by
 have e:C.take (v+1)=C.take v++[C[v]]:=by rw [List.take_add_one,List.getElem?_eq_getElem hv];rfl
 rw [e]
 exact ⟨h.append (List.Sublist.refl _),h.trans (List.sublist_append_left _ _)⟩
def C6:List ByteArray:=[(⟨#[65,65]⟩:ByteArray),(⟨#[66,66]⟩:ByteArray),(⟨#[67,67]⟩:ByteArray),(⟨#[68,68]⟩:ByteArray),(⟨#[69,69]⟩:ByteArray),(⟨#[70,70]⟩:ByteArray)]
def P5:List ByteArray:=[(⟨#[57,52]⟩:ByteArray),(⟨#[57,52,48,49]⟩:ByteArray),(⟨#[57,52,48,49,48,50]⟩:ByteArray),(⟨#[57,53]⟩:ByteArray),(⟨#[57,53,48,50]⟩:ByteArray)]
theorem C6_ok:C6.all rO=true∧kC kQ C6=true∧(C6.all fun s=>decide (s.size≤100))=true:=⟨by kernel_rfl,by kernel_rfl,by kernel_rfl⟩
theorem P5_ok:P5.all lev=true∧kC kQ P5=true∧(P5.all fun s=>decide (s.size≤100))=true:=⟨by kernel_rfl,by kernel_rfl,by kernel_rfl⟩
structure MA (i:Nat) (a:Zc):Prop where
 id:a.ID=2+5*(i:Int)
 kind:1≤a.Kind∧a.Kind≤3
 par:a.Parties.Sublist C6
 pre:(a.Rules.map (·.Prefix)).Sublist P5
 good:∀ x∈a.Rules,Good x.Rule (lR 1)
 ne:a.Rules≠[]
structure MAs (l:List Zc):Prop where
 len:1≤l.length∧l.length≤4
 all:∀ (i:Nat) (a:Zc),l[i]?=some a→MA i a
theorem P5_len {a:Zc} (h:(a.Rules.map (·.Prefix)).Sublist P5):a.Rules.length≤5:=by have:=h.length_le;simpa [P5] using this
theorem MA.strs {i:Nat} {a:Zc} (h:MA i a):StrsOk a.Parties:=by
 refine ⟨?_,fun s hs=>?_⟩
 ·have:=h.par.length_le;have h6:C6.length=6:=rfl;omega
 have:=of_decide_eq_true (List.all_eq_true.1 C6_ok.2.2 s (h.par.subset hs));omega
theorem MA.aok {i:Nat} {a:Zc} (h:MA i a):AOk a:=by
 refine ⟨h.strs,by have:=P5_len h.pre;omega,fun x hx=>?_⟩
 have hp:=of_decide_eq_true (List.all_eq_true.1 P5_ok.2.2 x.Prefix (h.pre.subset (List.mem_map_of_mem hx)))
 have hg:=h.good x hx
 exact ⟨by omega,hg.ok,by have h1:=uA x.Rule;have h2:=hg.size;simp only [lR] at h2;omega⟩
theorem MAs.ok {l:List Zc} (h:MAs l):ASOk l:=⟨by have:=h.len;omega,fun a ha=>by
 obtain ⟨i,hi,rfl⟩:=List.getElem_of_mem ha;exact (h.all i _ (List.getElem?_eq_getElem hi)).aok⟩
theorem MA.parties {i:Nat} {a:Zc} (h:MA i a):kF a.Parties=true:=by
 unfold kF
 rw [Bool.and_eq_true]
 refine ⟨List.all_eq_true.2 fun s hs=>List.all_eq_true.1 C6_ok.1 s (h.par.subset hs),?_⟩
 rw [jC];exact List.Pairwise.sublist h.par ((jC _).1 C6_ok.2.1)
theorem MA.rulesE {i:Nat} {a:Zc} (h:MA i a):rulesE a.Rules=0:=by
 have:co (tp a.Rules) a.Rules 0=none:=by
  rw [kq]
  intro k x hx
  obtain ⟨hk,rfl⟩:=List.getElem?_eq_some_iff.1 hx
  have hmem:a.Rules[k]∈a.Rules:=List.getElem_mem hk
  have h1:=List.all_eq_true.1 P5_ok.1 _ (h.pre.subset (List.mem_map_of_mem hmem))
  have hg:=h.good _ hmem
  have h2:ns a.Rules[k].Rule=0:=(kE _).2 ⟨by have:=hg.size;simp only [lR] at this;omega,hg.valid⟩
  unfold tp
  rw [Nat.zero_add,h1,h2]
  have hpw:=List.Pairwise.sublist h.pre ((jC _).1 P5_ok.2.1)
  by_cases h0:0<k
  ·rw [ib (show k - 1<a.Rules.length by omega)]
   have:=(List.pairwise_iff_getElem.1 (List.pairwise_map.1 hpw)) (k - 1) k (by omega) hk (by omega)
   rw [this];simp
  simp [h0]
 unfold SX.rulesE;rw [this];rfl
theorem MAs.valid {l:List Zc} (h:MAs l):agrE l=0:=by
 have:co (z2 l) l 0=none:=by
  rw [kq]
  intro k x hx
  obtain ⟨hk,rfl⟩:=List.getElem?_eq_some_iff.1 hx
  have hm:=h.all k _ hx
  have hl:=h.len
  unfold z2
  rw [Nat.zero_add,hm.parties,hm.rulesE]
  have i1:(decide (l[k].ID<1)||decide (1000<l[k].ID)||decide (l[k].Kind<1)||decide (3<l[k].Kind))=false:=by
   have e1:=hm.id;have e2:=hm.kind
   rw [cC (by omega),cC (by omega),cC (by omega),cC (by omega)];rfl
  have i2:(decide (12<l[k].Parties.length)||decide (12<l[k].Rules.length))=false:=by
   have e1:=hm.par.length_le;have e2:=P5_len hm.pre;have h6:C6.length=6:=rfl
   rw [cC (by omega),cC (by omega)];rfl
  rw [i1,i2]
  by_cases h0:0<k
  ·rw [ib (show k - 1<l.length by omega)]
   have hm2:=h.all (k - 1) _ (List.getElem?_eq_getElem (by omega))
   have e1:=hm.id;have e2:=hm2.id
   rw [cC (show ¬ l[k].ID≤(l[k-1]'(by omega)).ID by omega)];simp
  simp [h0]
 unfold agrE
 rw [det (by have:=h.len;omega),this];rfl
theorem oH:fS=some C6:=rfl
def bitI (m:Int) (v:Int):Bool:=fm .i64 (cD .i64 m v) 1 == 1
theorem Cb:((List.range 31).all fun m=>(List.range 5).any fun v=>bitI ((m+1:Nat):Int) (v:Int))=true:=by kernel_rfl
theorem has_bit {m:Int} (h1:1≤m) (h2:m≤31):∃ v:Nat,v<5∧bitI m (v:Int)=true:=by
 have:=List.all_eq_true.1 Cb (m.toNat - 1) (List.mem_range.2 (by omega))
 obtain ⟨v,hv,h⟩:=List.any_eq_true.1 this
 rw [show ((m.toNat - 1+1:Nat):Int)=m by omega] at h
 exact ⟨v,List.mem_range.1 hv,h⟩
theorem mA (v:Nat):lv (v:Int)=some ():=by unfold lv;rw [if_pos (by omega)]
theorem z6 {c:Int→Bool}:Y (bf (S:=Int×(List ByteArray)) (T:=((List ByteArray))) (fun (v22,l24)=>cond (decide (v22<6)) (Option.bind (Option.bind (lv v22) (fun _=>cond (c v22) (Option.bind (fS) (fun x44=>Option.bind (idx x44 v22) (fun m45=>Option.bind (app 16 l24 [m45]) (fun l48=>some l48)))) (some l24))) (fun l40=>some (.inl ((IntKind.i64.wrap (v22+1)),l40)))) (some (.inr l24))) FUEL (0,([]:List ByteArray))) (fun l=>l.Sublist C6):=by
 refine Y.loop (fun s=>∃ v:Nat,s.1=(v:Int)∧v≤6∧s.2.Sublist (C6.take v)) (fun s=>(6 - s.1).toNat) ⟨0,rfl,by omega,List.Sublist.refl _⟩ (by dsimp only;omega) fun s hs=>?_
 obtain ⟨i,l⟩:=s
 obtain ⟨v,rfl,h1,h2⟩:=hs
 dsimp only at h2 ⊢
 have hlen:l.length≤6:=by have:=h2.length_le;have h6:C6.length=6:=rfl;rw [List.length_take] at this;omega
 refine Y.cond (fun hc=>?_) (fun hc=>Y.ret (h2.trans (List.take_sublist _ _)))
 have hv:v<6:=by have:=of_decide_eq_true hc;omega
 have hs:=mz h2 (show v<C6.length from hv)
 refine Y.bind (P:=fun m:List ByteArray=>m.Sublist (C6.take (v+1))) (Y.eq (mA v) (Y.cond (fun _=>?_) fun _=>Y.ret hs.2)) fun m hm=>Y.ret ⟨⟨v+1,?_,by omega,hm⟩,?_⟩
 ·refine Y.eq oH (Y.idx rfl (show v<C6.length from hv) ?_)
  rw [eM (by simp;omega) (by simp;omega)];exact Y.ret hs.1
 ·show IntKind.i64.wrap ((v:Int)+1)=_;rw [cU (by omega) (by omega)];omega
 show (6 - IntKind.i64.wrap ((v:Int)+1)).toNat<(6 - (v:Int)).toNat;rw [cU (by omega) (by omega)];omega
theorem uD (p0:List Int):Y (gg p0) MAs:=by
 unfold gg
 refine (cut_Y p0 200 (by omega) (by omega)).bind fun x1 hx1=>?_
 refine (dT hx1 4 (by omega) (by omega)).bind fun x3 ⟨a1,a2,a3⟩=>?_
 rw [cU (r:=1+x3.1) (by omega) (by omega)]
 refine Y.bind (P:=MAs) ?_ fun l hl=>Y.ret hl
 refine Y.loop (fun s:List Zc×Int×List Int×Int=>(s.2.1=(s.1.length:Int)∧s.2.1≤1+x3.1)∧SOK ⟨s.2.2.1,s.2.2.2⟩∧∀ i a,s.1[i]?=some a→MA i a) (fun s=>(1+x3.1 - s.2.1).toNat) ⟨⟨rfl,by dsimp only;omega⟩,a3,by simp⟩ (by dsimp only;omega) fun s hs=>?_
 obtain ⟨l5,v8,l9,v10⟩:=s
 obtain ⟨⟨h1,h2⟩,h3,h4⟩:=hs
 dsimp only at h1 h2 h3 h4 ⊢
 refine Y.cond (fun hc=>?_) (fun hc=>Y.ret ⟨?_,h4⟩)
 rotate_left
 ·have hc:=of_decide_eq_false hc;omega
 have hc:=of_decide_eq_true hc
 refine (dT h3 3 (by omega) (by omega)).bind fun x19 ⟨b1,b2,b3⟩=>?_
 refine (dT b3 64 (by omega) (by omega)).bind fun x21 ⟨c1,c2,c3⟩=>?_
 refine (z6 (c:=fun v=>fm .i64 (cD .i64 (qo .i64 x21.1 3) v) 1 == 1)).bind fun l31 hl31=>?_
 refine Y.bind (P:=fun r:Int×Zj=>SOK r.2) (Y.gdp (fun _=>(dT c3 2 (by omega) (by omega)).mono fun r hr=>hr.2.2) fun _=>c3) fun x53 hx53=>?_
 refine Y.bind (P:=fun t:List Int×Int×List Zk=>SOK ⟨t.1,t.2.1⟩∧(t.2.2.map (·.Prefix)).Sublist P5∧(∀ x∈t.2.2,Good x.Rule (lR 1))∧t.2.2≠[]) ?_ fun t ⟨t1,t2,t3,t4⟩=>?_
 ·refine Y.cond (fun hc2=>?_) fun hc2=>?_
  ·simp only [Bool.and_eq_true,decide_eq_true_eq] at hc2
   obtain ⟨j,hj⟩:∃ j:Nat,v8 - 1=(j:Int):=⟨(v8 - 1).toNat,by omega⟩
   refine Y.idx (n:=j) (by rw [cU (by omega) (by omega)];exact hj) (show j<l5.length by omega) ?_
   have:=h4 j _ (List.getElem?_eq_getElem (by omega))
   exact Y.ret ⟨hx53,this.pre,this.good,this.ne⟩
  refine (dT hx53 31 (by omega) (by omega)).bind fun x64 ⟨d1,d2,d3⟩=>?_
  refine Y.bind (P:=fun t:List Int×Int×List Zk=>SOK ⟨t.1,t.2.1⟩∧(t.2.2.map (·.Prefix)).Sublist P5∧(∀ x∈t.2.2,Good x.Rule (lR 1))∧t.2.2≠[]) ?_ fun t ht=>Y.ret ht
  refine Y.loop (fun s:Int×List Int×Int×List Zk=>∃ v:Nat,s.1=(v:Int)∧v≤5∧SOK ⟨s.2.1,s.2.2.1⟩∧(s.2.2.2.map (·.Prefix)).Sublist (P5.take v)∧(∀ x∈s.2.2.2,Good x.Rule (lR 1))∧(s.2.2.2≠[]∨∀ u:Nat,u<v→bitI (1+x64.1) (u:Int)=false)) (fun s=>(5 - s.1).toNat) ⟨0,rfl,by omega,d3,List.Sublist.refl _,by simp,.inr (fun u hu=>absurd hu (Nat.not_lt_zero _))⟩ (by dsimp only;omega) fun s hs=>?_
  obtain ⟨i,l,k,m⟩:=s
  obtain ⟨v,rfl,e1,e2,e3,e4,e5⟩:=hs
  dsimp only at e2 e3 e4 e5 ⊢
  have hlen:m.length≤5:=by have:=e3.length_le;have h6:P5.length=5:=rfl;rw [List.length_take,List.length_map] at this;omega
  refine Y.cond (fun hc3=>?_) (fun hc3=>Y.ret ⟨e2,e3.trans (List.take_sublist _ _),e4,?_⟩)
  rotate_left
  ·have h5:v=5:=by have:=of_decide_eq_false hc3;omega
   rcases e5 with e5 | e5
   ·exact e5
   obtain ⟨u,hu,hb⟩:=has_bit (m:=1+x64.1) (by omega) (by omega)
   rw [e5 u (by omega)] at hb;cases hb
  have hv:v<5:=by have:=of_decide_eq_true hc3;omega
  have hs:=mz e3 (show v<P5.length from hv)
  refine Y.bind (P:=fun t:List Int×Int×List Zk=>SOK ⟨t.1,t.2.1⟩∧(t.2.2.map (·.Prefix)).Sublist (P5.take (v+1))∧(∀ x∈t.2.2,Good x.Rule (lR 1))∧(t.2.2≠[]∨∀ u:Nat,u<v+1→bitI (1+x64.1) (u:Int)=false)) (Y.eq (mA v) (Y.cond (fun _=>?_) fun hbit=>Y.ret ⟨e2,hs.2,e4,?_⟩)) fun t ⟨t1,t2,t3,t4⟩=>Y.ret ⟨⟨v+1,?_,by omega,t1,t2,t3,t4⟩,?_⟩
  ·refine Y.idx (xs:=P5) rfl (show v<P5.length from hv) ?_
   refine (rule_Y 1 FUEL ⟨l,k⟩ 0 (lD (by omega)) (by omega) e2 (.inl rfl)).bind fun r ⟨r1,r2,r3⟩=>?_
   rw [eM (by simp;omega) (by simp;omega)]
   refine Y.ret ⟨r3,by rw [List.map_append];exact hs.1,fun z hz=>?_,.inl (by simp)⟩
   rcases List.mem_append.1 hz with hz | hz
   ·exact e4 z hz
   rw [List.mem_singleton.1 hz];exact r1
  ·rcases e5 with e5 | e5
   ·exact .inl e5
   refine .inr fun u hu=>?_
   rcases Nat.lt_or_ge u v with h | h
   ·exact e5 u h
   obtain rfl:u=v:=by omega
   rw [cU (by omega) (by omega)] at hbit;exact hbit
  ·show IntKind.i64.wrap ((v:Int)+1)=_;rw [cU (by omega) (by omega)];omega
  show (5 - IntKind.i64.wrap ((v:Int)+1)).toNat<(5 - (v:Int)).toNat;rw [cU (by omega) (by omega)];omega
 obtain ⟨l55,v56,l58⟩:=t
 dsimp only at t1 t2 t3 ⊢
 rw [eM (by simp;omega) (by simp;omega),bQ,cU (r:=v8+1) (by omega) (by omega),cU (r:=1+x19.1) (by omega) (by omega),cU (r:=5*v8) (by omega) (by omega),cU (by omega) (by omega)]
 refine Y.ret ⟨⟨⟨by simp;omega,by dsimp only;omega⟩,t1,fun i a ha=>?_⟩,by dsimp only;omega⟩
 rw [List.getElem?_append] at ha
 split at ha
 ·exact h4 i a ha
 rename_i hi
 have hi0:i - l5.length=0:=by have:=(List.getElem?_eq_some_iff.1 ha).1;simp at this;omega
 rw [hi0] at ha
 simp only [List.getElem?_cons_zero,dR] at ha
 subst ha
 exact ⟨by dsimp only;omega,⟨by dsimp only;omega,by dsimp only;omega⟩,hl31,t2,t3,t4⟩
structure RawA (a:Zc):Prop where
 par:StrsOk a.Parties
 len:a.Rules.length≤140737488355328
 rules:∀ x∈a.Rules,x.Prefix.size≤140737488355328∧ROk x.Rule
theorem mB {α:Type} {b:Nat} {l:List α} (h:l.length≤1000000000) (hb:b≤1000):app b ([]:List α) l=some l:=by
 have:=Nat.mul_le_mul h hb
 exact eM (by simpa using (by omega:l.length*b≤140737488355328)) (by simp;omega)
def k0 (W:World):Kr:=⟨W,fun b=>b<W.heap.size⟩
theorem od {t:Nat} {z:Value} {s b:Nat} (h:fC t=some (z,s,b)):Tryz.prog.cellsOf t=s∧Tryz.prog.bytesOf t=b:=by
 obtain ⟨i,h1,h2,h3,h4⟩:=nx h
 constructor
 ·simp [Program.cellsOf,h1,h3]
 simp [Program.bytesOf,h1,h4]
def Light {H:Type} (t:Nat) (d:DataW H):Prop:=∀ n∈d.weights Tryz.prog t,n≤reachBytes
theorem Cc {H:Type} (d:DataW H):1≤Rows.uptoBulk d:=by
 cases d with
 | lit l=>cases l <;> simp [Rows.uptoBulk]
 | nil=>simp [Rows.uptoBulk]
 | ptr d=>simp [Rows.uptoBulk]
 | slice elems spare=>simp [Rows.uptoBulk]
 | agg parts=>simp [Rows.uptoBulk]
 | iface t d=>simp [Rows.uptoBulk]
 | map entries=>simp [Rows.uptoBulk]
 | held h=>simp [Rows.uptoBulk]
theorem z7 {H:Type} {d:DataW H} {l:List (DataW H)} (h:d∈l):Rows.uptoBulk d≤Rows.uptoBulkAll l:=by
 induction l with
 | nil=>cases h
 | cons x r ih =>
  simp only [Rows.uptoBulkAll]
  cases List.mem_cons.1 h with
  | inl e=>subst e;omega
  | inr e=>have:=ih e;omega
theorem Cd {H:Type} (l:List (DataW H)):l.length≤Rows.uptoBulkAll l:=by
 induction l with
 | nil=>simp [Rows.uptoBulkAll]
 | cons x r ih=>have:=Cc x;simp only [Rows.uptoBulkAll,List.length_cons];omega
def Opens {H:Type} (eh:TypeId×Value→H) {α:Type} (n:Nat) (t:Nat) (e:α→List PV) (B:α→Prop):Prop :=
 ∀ (W:World) (fuel:Nat) (cs:List Value) (x:DataW H×List MemPlace),DataW.trod eh Tryz.prog W 0 (fun _=>true) true fuel t cs=some x→Light t x.1→Rows.uptoBulk x.1≤n→∃ m,Rps (k0 W) (e m) cs∧One cs∧B m
section
variable {H:Type} {eh:TypeId×Value→H} {nb:Nat}
theorem one1 {v:Value} (h:v.oneCell'=true):One [v]:=fun u hu=>by rw [List.mem_singleton.1 hu];exact h
theorem z8 {t:Nat} {k:IntKind} (h:em t=some (.int k)):Opens eh nb t (fun x:Int=>[.v (.int k x)]) (fun _=>True):=fun W fuel cs x hx _ _=>by
 obtain ⟨n,rfl,_,_⟩:=DataW.trod_int (bB h) hx
 exact ⟨n,.cons (.v rfl) .nil,one1 rfl,trivial⟩
theorem nt {e:Nat}:∀ {l:List (DataW H)} {d:DataW H} {n:Nat},d∈l→n∈d.weights Tryz.prog e→n∈DataW.weightsAll Tryz.prog e l
 | d'::l,d,n,hd,hn=>by
  simp only [DataW.weightsAll,List.mem_append]
  rcases List.mem_cons.1 hd with rfl | hd
  ·exact .inl hn
  exact .inr (nt hd hn)
theorem yN {α β:Type} {R:α→β→Prop}:∀ (l:List β),(∀ b∈l,∃ a,R a b)→∃ la:List α,la.length=l.length∧∀ (i:Nat) (b:β),l[i]?=some b→∃ a,la[i]?=some a∧R a b
 | [],_=>⟨[],rfl,fun i b h=>by simp at h⟩
 | b::l,h=>by
  obtain ⟨a,ha⟩:=h b (by simp)
  obtain ⟨la,h1,h2⟩:=yN l fun b hb=>h b (by simp [hb])
  refine ⟨a::la,by simp [h1],fun i b' hb=>?_⟩
  cases i with
  | zero=>simp only [List.getElem?_cons_zero,dR] at hb;subst hb;exact ⟨a,rfl,ha⟩
  | succ i=>simp only [List.getElem?_cons_succ] at hb ⊢;exact h2 i b' hb
def OpensN {H:Type} (eh:TypeId×Value→H) {α:Type} (N n:Nat) (t:Nat) (e:α→List PV) (B:α→Prop):Prop :=
 ∀ (W:World) (fuel:Nat) (cs:List Value) (x:DataW H×List MemPlace),fuel<N→DataW.trod eh Tryz.prog W 0 (fun _=>true) true fuel t cs=some x→Light t x.1→Rows.uptoBulk x.1≤n→∃ m,Rps (k0 W) (e m) cs∧One cs∧B m
theorem uE {α:Type} {N t E sz by':Nat} {z:Value} {e:α→List PV} {B:α→Prop} (hu:em t=some (.slice E)) (hi:fC E=some (z,sz,by')) (h0:Nat.blt 0 sz=true) (hb0:Nat.blt 0 by'=true) (hE:OpensN eh N nb E e B):OpensN eh (N+1) nb t (eL e) (fun l=>l.length*by'≤140737488355328∧l.length≤nb∧∀ x∈l,B x):=fun W fuel cs x hfu hx hw hbk=>by
 obtain ⟨hcz,hby⟩:=od hi
 have hsz:0<sz:=by have:=h0;simp [Nat.blt] at this;omega
 have hbp:0<by':=by have:=hb0;simp [Nat.blt] at this;omega
 rcases DataW.trod_slice (bB hu) hx with ⟨rfl,_⟩ | ⟨a,len,cap,elems,rest,n,rfl,rfl,rfl,_,hl,hm,hlen,hel,_,_⟩
 ·exact ⟨[],.cons (.slc (sz:=sz) (css:=[]) Sl.nil (Nat.zero_le _) (fun _ h=>by cases h) .nil) .nil,one1 rfl,by simp,Nat.zero_le _,fun _ h=>by cases h⟩
 rw [hcz] at hel
 have hwl:(elems.length+rest.length)*by'≤reachBytes:=by
  have:=hw ((elems.length+rest.length)*by') (by simp only [DataW.weights,bB hu,hby,List.length_map];exact List.mem_cons_self)
  exact this
 have hn:len≤140737488355328:=by
  unfold reachBytes at hwl
  have:elems.length*1≤(elems.length+rest.length)*by':=Nat.mul_le_mul (by omega) (by omega)
  omega
 have hcells:∀ i∈List.range len,∃ p:α×List Value,W.cells? 0 (a.add (i*sz)) sz=some p.2∧Rps (k0 W) (e p.1) p.2∧One p.2∧B p.1:=fun i hi'=>by
  have hi':i<len:=List.mem_range.1 hi'
  have h1:=hel i hi'
  have hlt:i<elems.length:=by omega
  rw [List.getElem?_eq_getElem hlt] at h1
  obtain ⟨cs,h2,h3⟩:=Option.bind_eq_some_iff.1 h1
  obtain ⟨m,k1,k2,k3⟩:=hE W n cs _ (by omega) h3 (fun q hq=>hw q (by
   simp only [DataW.weights,bB hu]
   exact List.mem_cons_of_mem _ (List.mem_append.2 (.inl (nt (List.mem_map.2 ⟨_,List.getElem_mem hlt,rfl⟩) hq))))) (by
   have h9:=z7 (l:=elems.map (·.1)) (List.mem_map.2 ⟨_,List.getElem_mem hlt,rfl⟩)
   simp only [Rows.uptoBulk] at hbk
   omega)
  exact ⟨(m,cs),h2,k1,k2,k3⟩
 obtain ⟨ps,g1,g2⟩:=yN (R:=fun (p:α×List Value) i=>W.cells? 0 (a.add (i*sz)) sz=some p.2∧Rps (k0 W) (e p.1) p.2∧One p.2∧B p.1) (List.range len) hcells
 rw [List.length_range] at g1
 have g3:∀ (i:Nat) (p:α×List Value),ps[i]?=some p→W.cells? 0 (a.add (i*sz)) sz=some p.2∧Rps (k0 W) (e p.1) p.2∧One p.2∧B p.1:=fun i p hp=>by
  have hlt:=(List.getElem?_eq_some_iff.1 hp).1
  obtain ⟨p',h1,h2⟩:=g2 i i (by rw [List.getElem?_range (by omega)])
  rw [hp] at h1;injection h1 with h1;subst h1;exact h2
 have hps:(ps.map (·.1)).length=len:=by simp [g1]
 refine ⟨ps.map (·.1),?_,one1 rfl,?_,?_,?_⟩
 rotate_left
 ·rw [hps]
  have h9:len*by'≤(elems.length+rest.length)*by':=Nat.mul_le_mul_right _ (by omega)
  unfold reachBytes at hwl
  omega
 ·rw [hps]
  have h9:=Cd (elems.map (·.1))
  rw [List.length_map] at h9
  simp only [Rows.uptoBulk] at hbk
  omega
 ·intro x hx
  obtain ⟨p,hp,rfl⟩:=List.mem_map.1 hx
  obtain ⟨i,hi',rfl⟩:=List.getElem_of_mem hp
  exact (g3 i _ (List.getElem?_eq_getElem hi')).2.2.2
 unfold eL;rw [hps]
 refine .cons (.slc (sz:=sz) (css:=ps.map (·.2)) ⟨by simp [g1],hl,?_,?_⟩ hn ?_ ?_) .nil
 ·intro c hc
  obtain ⟨p,hp,rfl⟩:=List.mem_map.1 hc
  obtain ⟨i,hi',rfl⟩:=List.getElem_of_mem hp
  exact (World.cells?_some (g3 i _ (List.getElem?_eq_getElem hi')).1).2.1
 ·intro hpos
  have hp0:0<ps.length:=by omega
  have hc0:=(World.cells?_some (g3 0 _ (List.getElem?_eq_getElem hp0)).1)
  have hread:=hc0.2.2 0 hsz
  have hspot:a.spot=none:=by
   have hlt:0<(ps[0]).2.length:=by rw [hc0.2.1];exact hsz
   rw [List.getElem?_eq_getElem hlt] at hread
   unfold World.cell? at hread
   cases hs:a.spot with
   | none=>rfl
   | some q =>
    have hsp:((a.add (0*sz)).add 0).spot.isSome=true:=by simp [Addr.add,hs]
    split at hread
    ·rw [if_pos hsp] at hread;cases hread
    cases hread
  obtain ⟨ab,ao,asp⟩:=a
  simp only at hspot;subst hspot
  refine ⟨ab,ao,rfl,fun j c hj=>?_⟩
  rw [List.getElem?_map] at hj
  cases hpj:ps[j]? with
  | none=>rw [hpj] at hj;cases hj
  | some p =>
   rw [hpj] at hj;simp only [Option.map_some,dR] at hj;subst hj
   have hcj:=World.cells?_some (g3 j p hpj).1
   refine ⟨?_,fun i u hu'=>?_⟩
   ·have h1:=hcj.2.2 0 hsz
    have hlt:0<p.2.length:=by rw [hcj.2.1];exact hsz
    rw [List.getElem?_eq_getElem hlt,gy,gy] at h1
    unfold World.cell? at h1
    split at h1
    ·rename_i heq
     have:=l7 heq
     exact this
    cases h1
   have hlt:i<sz:=by have:=(List.getElem?_eq_some_iff.1 hu').1;omega
   have h1:=hcj.2.2 i hlt
   rw [gy,gy] at h1
   rw [← hu'];exact h1
 ·intro c hc
  obtain ⟨p,hp,rfl⟩:=List.mem_map.1 hc
  obtain ⟨i,hi',rfl⟩:=List.getElem_of_mem hp
  exact (g3 i _ (List.getElem?_eq_getElem hi')).2.2.1
 have:∀ (l:List (α×List Value)),(∀ p∈l,Rps (k0 W) (e p.1) p.2)→Rpss (k0 W) ((l.map (·.1)).map e) (l.map (·.2)):=fun l=>by
  induction l with
  | nil=>exact fun _=>.nil
  | cons p l ih=>exact fun h=>.cons (h p (by simp)) (ih fun q hq=>h q (by simp [hq]))
 refine this ps fun p hp=>?_
 obtain ⟨i,hi',rfl⟩:=List.getElem_of_mem hp
 exact (g3 i _ (List.getElem?_eq_getElem hi')).2.1
theorem wl {α:Type} {t E sz by':Nat} {z:Value} {e:α→List PV} {B:α→Prop} (hu:em t=some (.slice E)) (hi:fC E=some (z,sz,by')) (h0:Nat.blt 0 sz=true) (hb0:Nat.blt 0 by'=true) (hE:Opens eh nb E e B):Opens eh nb t (eL e) (fun l=>l.length*by'≤140737488355328∧l.length≤nb∧∀ x∈l,B x):=fun W fuel cs x hx hw =>
 uE (N:=fuel) hu hi h0 hb0 (fun W' f' cs' x' _=>hE W' f' cs' x') W fuel cs x (Nat.lt_succ_self _) hx hw
end
end SX
end Go.Proofs.YthbphcbhedmnoaaGreatDoor
set_option maxRecDepth 100000
namespace Go.Proofs.YthbphcbhedmnoaaGreatDoor
open Go Go.ChangeShapes Go.WideShapes Go.RowKit
namespace SX
theorem own_ok:ownKnob Tryz.prog.godebug=none:=by kernel_rfl
theorem xG:laidOutB Tryz.prog=true:=by kernel_rfl
def tv:List (String×DataW Unit):=[("unicode/utf8.acceptRanges",Rows.laid_unicode_utf8_acceptRanges),("customs/nomenclature.lengths",Rows.laid_customs_nomenclature_lengths),("unicode/utf8.first",Rows.laid_unicode_utf8_first)]
mutual
def xH:DataW Unit→List Value
 | .lit (.int k n)=>[.int k n]
 | .agg ds=>yO ds
 | _=>[]
def yO:List (DataW Unit)→List Value
 | []=>[]
 | d::r=>xH d++yO r
end
def c_acc:Array Value:=(xH Rows.laid_unicode_utf8_acceptRanges).toArray
def wm:Array Value:=#[.int .i64 2,.int .i64 4,.int .i64 6,.int .i64 8]
def yP:Array Value:=(xH Rows.laid_unicode_utf8_first).toArray
def Ce (h:Array Obj) (g:Nat) (cs:Array Value):Array Obj:=h.modify g fun | .cells _ t frozen=>.cells cs t frozen | o=>o
noncomputable def laidWorld (os:Os):World :=
 { World.holding Tryz.prog os ⟨#[],#[],[]⟩ with heap:=Ce (Ce (Ce (World.holding Tryz.prog os ⟨#[],#[],[]⟩).heap 4 c_acc) 0 wm) 3 yP }
theorem rR:(tv.filter fun x=>x.2.handleName?.isSome)=[]:=by kernel_rfl
def Cf (w:World):MemPlace→Bool
 | .cell b off=>match w.heap[b]? with
  | some (.cells c _ (0,0))=>match c[off]? with | some (.iface _ _)=>false | _=>true
  | _=>false
 | _=>true
theorem xI {w:World} {ps:List MemPlace} (h:ps.all (Cf w)=true):∀ b off,MemPlace.cell b off∈ps→(∃ c t,w.heap[b]?=some (.cells c t (0,0)))∧∀ u v,w.cell? ⟨b,off,none⟩=some (.iface u v)→Value.okWide Tryz.prog w .any 0 u v:=fun b off hm=>by
 have:=List.all_eq_true.1 h _ hm
 unfold Cf at this
 split at this
 ·rename_i b' off' e
  injection e with e1 e2;subst e1;subst e2
  split at this
  ·rename_i c t heq
   refine ⟨⟨c,t,heq⟩,fun u v hc=>?_⟩
   simp only [World.cell?,heq] at hc
   split at this
   ·cases this
   rename_i hno;exact absurd hc (by simpa using hno u v)
  cases this
 rename_i hno;exact absurd rfl (hno b off)
theorem sA (os:Os) (args:Array Value):laidMetH Tryz.prog tv ((laidWorld os).forCall (fun _ _=>0) ⟨#[],args,[]⟩).memory:=by
 unfold laidMetH
 rw [rR]
 refine ⟨_,⟨4,321,c_acc,8,[],_,by kernel_rfl,by kernel_rfl,by kernel_rfl,by kernel_rfl,⟨0,235,wm,8,[],_,by kernel_rfl,by kernel_rfl,by kernel_rfl,by kernel_rfl,⟨3,318,yP,8,[],_,by kernel_rfl,by kernel_rfl,by kernel_rfl,by kernel_rfl,rfl,rfl⟩,rfl⟩,rfl⟩,?_,?_⟩
 ·exact of_decide_eq_true (by kernel_rfl)
 exact xI (by kernel_rfl)
theorem kW {H:Type} {eh:TypeId×Value→H} {P:Program} {w:World} {base:Nat} {sp:Nat→Bool} {held:Bool} {fuel:Nat} {t:TypeId} {k:IntKind} {c:Value} {y:DataW H×List MemPlace} (ht:P.underlying t=some (.int k)) (h:DataW.trod eh P w base sp held fuel t [c]=some y):∃ n,c=.int k n∧y=(.lit (.int k n),[]):=by
 obtain ⟨n,h1,h2,_⟩:=DataW.trod_int ht h
 injection h1 with h1 _
 exact ⟨n,h1,h2⟩
theorem wn {W:World} (h:laidMetH Tryz.prog tv W):GOK (k0 W):=by
 unfold laidMetH at h
 rw [rR] at h
 obtain ⟨ps,⟨_,_,_,_,_,_,_,_,_,_,⟨g,t,cs,fuel,p,q,hg,ht,hvar,hd,_,_⟩,_⟩,_⟩:=h
 obtain rfl:=Option.some.inj ((show Tryz.prog.globalNamed "customs/nomenclature.lengths" = some 0 by kernel_rfl).symm.trans hg)
 obtain rfl:=Option.some.inj ((show (Tryz.prog.globals[0]?).map (·.type)=some 235 by kernel_rfl).symm.trans ht)
 have hcs:cs=wm:=by
  obtain ⟨l⟩:=cs
  cases fuel with
  | zero=>simp [DataW.trod] at hd
  | succ fuel =>
   have hc1:=(od (t:=235) rfl).1
   have hc2:=(od (t:=3) rfl).1
   have hu1:Tryz.prog.underlying 235=some (.array 4 3):=bB rfl
   simp only [DataW.trod,hu1,hc1,hc2] at hd
   split at hd
   ·rename_i hl
    obtain ⟨c0,c1,c2,c3,rfl⟩:∃ c0 c1 c2 c3,l=[c0,c1,c2,c3]:=by
     match l,hl with
     | [a,b,c,d],_=>exact ⟨a,b,c,d,rfl⟩
    have e:List.range 4=[0,1,2,3]:=rfl
    rw [e] at hd
    simp only [Option.map_eq_some_iff,List.mapM_cons,List.mapM_nil,Option.bind_eq_bind,Option.bind_eq_some_iff,Option.pure_def,dR] at hd
    obtain ⟨xs,⟨y0,h0,_,⟨y1,h1,_,⟨y2,h2,_,⟨y3,h3,_,rfl,rfl⟩,rfl⟩,rfl⟩,rfl⟩,hx⟩:=hd
    have hui:Tryz.prog.underlying 3=some (.int .i64):=bB rfl
    obtain ⟨n0,rfl,rfl⟩:=kW hui h0
    obtain ⟨n1,rfl,rfl⟩:=kW hui h1
    obtain ⟨n2,rfl,rfl⟩:=kW hui h2
    obtain ⟨n3,rfl,rfl⟩:=kW hui h3
    simp [Rows.laid_customs_nomenclature_lengths] at hx
    obtain ⟨⟨rfl,rfl,rfl,rfl⟩,_⟩:=hx
    rfl
   cases hd
 subst hcs
 have hcell:∀ j u,wm[j]?=some u→W.cell? ⟨0,j,none⟩=some u:=fun j u hu=>by
  have:=World.var?_cell hg hvar j
  rw [this];exact hu
 refine ⟨?_,fun j u hu=>?_⟩
 ·have h0:=hcell 0 _ rfl
  unfold World.cell? at h0
  split at h0
  ·rename_i heq;exact l7 heq
  cases h0
 rw [Nat.zero_add];exact hcell j u (by simpa [wm] using hu)
end SX
end Go.Proofs.YthbphcbhedmnoaaGreatDoor
set_option maxRecDepth 100000
namespace Go.Proofs.YthbphcbhedmnoaaGreatDoor
open Go Go.ChangeShapes Go.WideShapes Go.RowKit
namespace SX
theorem inv0 (W:World):Zo ⟨k0 W,[],none⟩ [] (k0 W):=⟨.refl _ _,fun _ h=>h,(fun _ h=>by cases h),(fun _ h=>by cases h),.nil⟩
theorem Cg {W:World} {ρ:List Res} {κ:Kr} (h:Zo ⟨k0 W,[],none⟩ ρ κ):Below W.heap.size W κ.w:=⟨h.le.os,h.le.tape,h.le.output,h.le.kle.size,fun k hk=>h.le.same k hk (by simp)⟩
section
variable {H:Type} {eh:TypeId×Value→H}
theorem sB {W W':World} (hb:Below W.heap.size W W') {ts:List TypeId} (hr:∀ t∈ts,Tryz.prog.readableRec t=true∧t<Tryz.prog.types.size):∀ {vs:List Value} {ds:List (DataW H)} {ps:List MemPlace},DataW.TrodAll eh Tryz.prog W 0 (fun _=>true) true ts vs ds ps→(∀ p∈ps,p.block<W.heap.size)→DataW.TrodAll eh Tryz.prog W' 0 (fun b=>decide (b<W.heap.size)) true ts vs ds ps:=by
 induction ts with
 | nil=>intro vs ds ps h _;cases vs <;> cases ds <;> first | exact h | cases h
 | cons t ts ih =>
  intro vs ds ps h hlt
  cases vs with
  | nil=>cases h
  | cons v vs =>
   cases ds with
   | nil=>cases h
   | cons d ds =>
    obtain ⟨p,q,h1,h2,e⟩:=h
    have ht:=hr t (by simp)
    exact ⟨p,q,Below.trod xG ht.1 ht.2 h1 hb (fun x hx=>hlt x (by rw [e];simp [hx])),ih (fun u hu=>hr u (by simp [hu])) h2 (fun x hx=>hlt x (by rw [e];simp [hx])),e⟩
theorem readB {ts:List TypeId} (h:(ts.all fun t=>Tryz.prog.readableRec t&&Nat.blt t Tryz.prog.types.size)=true):∀ t∈ts,Tryz.prog.readableRec t=true∧t<Tryz.prog.types.size:=fun t ht=>by
 have:=List.all_eq_true.1 h t ht
 rw [Bool.and_eq_true] at this
 exact ⟨this.1,by have h2:=this.2;exact Nat.le_of_ble_eq_true h2⟩
theorem Ch {f tb:Nat} {fn:Func} {s:ChangeSpec} {W:World} {args:Array Value} {ds gs:List (DataW H)} {before:List MemPlace} {pargs:List PV}
    (hrd:∀ t∈fn.params.toList,Tryz.prog.readableRec t=true∧t<Tryz.prog.types.size) (hres:fn.resultTypes=#[tb]) (hub:Tryz.prog.underlying tb=some .bool) (hvars:s.vars=[])
    (hspec:s.fn H ds={ results:=[.lit (.bool true)],args:=ds }) (hW:DataW.Whole eh Tryz.prog fn.params.toList s.vars false W args.toList ds gs before) (hG:GOK (k0 W)) (hargs:Rps (k0 W) pargs args.toList) (hPF:PF f pargs (.v (.bool true))) :
    Calls Tryz.prog f args W fun e W'=>∃ v,e=.returned v∧s.post eh Tryz.prog fn false true false false W args v W':=by
  have hc:=(hPF (k0 W) args.toList hG hargs).2 (inv0 W)
  have e:args.toList.toArray=args:=by simp
  rw [e] at hc
  refine Calls.mono hc fun en W' ⟨v,ρ',κ',h1,h2,h3,h4,h5⟩=>⟨v,h1,?_⟩
  subst h2
  have hv:=h5.val
  subst hv
  have hb:=Cg h3
  have hW':=hW
  obtain ⟨p,q,hA,hV,rfl,hfz,hnd⟩:=hW
  rw [hvars] at hV
  obtain ⟨rfl,rfl⟩:gs=[]∧q=[]:=by
    cases gs with
    | nil=>exact ⟨rfl,hV⟩
    | cons g r=>exact absurd hV (by intro h;cases h)
  refine ⟨ds,[],_,[],p,[],hW',?_,?_,?_,hb.frame _,fun h=>by cases h⟩
  · rw [List.append_nil,hspec,hres];exact trodAll_mk1 (shut_bool hub true)
  · rw [List.append_nil,hspec];exact sB hb hrd hA (DataW.TrodAll.lt hA)
  rw [hvars,List.append_nil,hspec];rfl
theorem trodAll_cons {W:World} {t:TypeId} {ts:List TypeId} {vs:List Value} {ds:List (DataW H)} {ps:List MemPlace} (h:DataW.TrodAll eh Tryz.prog W 0 (fun _=>true) true (t::ts) vs ds ps):∃ v vs' d ds' p q,vs=v::vs'∧ds=d::ds'∧DataW.Trod eh Tryz.prog W 0 (fun _=>true) true t v d p∧DataW.TrodAll eh Tryz.prog W 0 (fun _=>true) true ts vs' ds' q:=by
 cases vs with
 | nil=>cases h
 | cons v vs =>
  cases ds with
  | nil=>cases h
  | cons d ds=>obtain ⟨p,q,h1,h2,_⟩:=h;exact ⟨v,vs,d,ds,p,q,rfl,rfl,h1,h2⟩
theorem trodAll_nil {W:World} {vs:List Value} {ds:List (DataW H)} {ps:List MemPlace} (h:DataW.TrodAll eh Tryz.prog W 0 (fun _=>true) true [] vs ds ps):vs=[]∧ds=[]:=by
 cases vs <;> cases ds <;> first | exact ⟨rfl,rfl⟩ | cases h
theorem wo {l:Array TypeId} (h:(l.toList.all fun t => !Tryz.prog.wantsStandIn t)=true) {j:Nat} {t:TypeId} (ht:l[j]?=some t):Tryz.prog.wantsStandIn t=false:=by
 have:=List.all_eq_true.1 h t (by have:=Array.mem_of_getElem? ht;simpa using this)
 simpa using this
theorem light_head {t:Nat} {ts:List Nat} {d:DataW H} {ds:List (DataW H)} (h:(DataW.weightsEach Tryz.prog (t::ts) (d::ds)).all (· ≤ reachBytes)=true):Light t d∧(DataW.weightsEach Tryz.prog ts ds).all (· ≤ reachBytes)=true:=by
 simp only [DataW.weightsEach,List.all_append,Bool.and_eq_true] at h
 exact ⟨fun n hn=>by simpa using List.all_eq_true.1 h.1 n hn,h.2⟩
def rS:TypeDesc→Bool
 | .int _ | .bool | .string | .slice _=>true
 | _=>false
theorem not_agg {W:World} {r:Reach} {base t:Nat} {v:Value} {D:TypeDesc} (hu:em t=some D) (hD:rS D=true) (h:Value.okWide Tryz.prog W r base t v):∀ cs,v.cells.toList=[cs]→v=cs:=fun cs he=>by
 cases v with
 | agg arr =>
  exfalso
  unfold Value.okWide at h
  rw [bB hu] at h
  cases D <;> first | (revert hD;simp [rS];done) | (simp only at h;unfold Cell.okWide at h;rw [bB hu] at h;simp only at h;unfold Cell.ok at h;rw [bB hu] at h;simp at h)
 | _=>simpa [Value.cells] using he
theorem nE {nb:Nat} {W:World} {r:Reach} {base t:Nat} {v:Value} {D:TypeDesc} {α:Type} {e:α→List PV} {B:α→Prop} {d:DataW H} {ps:List MemPlace} (hu:em t=some D) (hD:rS D=true) (hO:Opens eh nb t e B) (h1:∀ m,∃ p,e m=[p]) (h:Value.okWide Tryz.prog W r base t v) (hd:DataW.Trod eh Tryz.prog W 0 (fun _=>true) true t v d ps) (hl:Light t d) (hn:Rows.uptoBulk d≤nb):∃ m,Rps (k0 W) (e m) [v]∧B m:=by
 obtain ⟨fuel,hf⟩:=hd
 obtain ⟨m,h2,_,h9⟩:=hO W fuel _ _ hf hl hn
 refine ⟨m,?_,h9⟩
 obtain ⟨p,hp⟩:=h1 m
 rw [hp] at h2
 generalize hc:v.cells.toList=cs at h2
 obtain ⟨w,ws,rfl,h3,h4⟩:=h2.cons_inv
 rw [h4.nil_inv] at hc
 rw [not_agg hu hD h w hc,hp]
 exact .cons h3 .nil
end
theorem yQ {κ:Kr} {ps:List PV} {vs:List Value} {k:Nat} {s:ByteArray} (h:Rps κ ps vs) (hk:ps[k]?=some (.v (.string s))):s.size≤140737488355328:=by
 obtain ⟨v,_,h2⟩:=h.get hk
 exact Nat.le_of_ble_eq_true h2.ok
theorem yR {κ:Kr} {ps:List PV} {vs:List Value} {k mm:Nat} {xs:List (List PV)} (h:Rps κ ps vs) (hk:ps[k]?=some (.slc mm xs)):xs.length≤140737488355328:=by
 obtain ⟨v,_,h2⟩:=h.get hk
 cases h2 with
 | slc hs hb _ hss=>rw [hss.len,hs.len];exact hb
theorem wq {κ:Kr} {ps:List PV} {vs:List Value} {k mm:Nat} {xs:List (List PV)} {x:List PV} (h:Rps κ ps vs) (hk:ps[k]?=some (.slc mm xs)) (hx:x∈xs):∃ ds,Rps κ x ds:=by
 obtain ⟨v,_,h2⟩:=h.get hk
 cases h2 with
 | slc hs hb _ hss =>
  obtain ⟨i,hi,rfl⟩:=List.getElem_of_mem hx
  obtain ⟨ds,_,h3⟩:=hss.get (List.getElem?_eq_getElem hi)
  exact ⟨ds,h3⟩
end SX
end Go.Proofs.YthbphcbhedmnoaaGreatDoor
namespace Go.Proofs.YthbphcbhedmnoaaGreatDoor
namespace SX
open Go
theorem strs_of {κ:Kr} {ps:List PV} {vs:List Value} {k:Nat} {l:List ByteArray} (h:Rps κ ps vs) (hk:ps[k]?=some (pL eS l)):StrsOk l:=by
 refine ⟨by have:=yR h hk;simpa using this,fun s hs=>?_⟩
 obtain ⟨ds,hd⟩:=wq h hk (List.mem_map_of_mem (f:=eS) hs)
 exact yQ (k:=0) hd rfl
mutual
theorem rok_of {κ:Kr}:∀ (r:Ze) (ds:List Value),Rps κ (Ze.enc r) ds→ROk r
 | ⟨k,d,e,t,m,n,l⟩,ds,h=>by
  rw [Ze.enc_eq] at h
  have hl:l.length≤140737488355328:=by have:=yR (k:=6) h rfl;simpa using this
  exact ⟨_,strs_of (k:=2) h rfl,yQ (k:=5) h rfl,hl,yS l (fun a ha=>wq (k:=6) h rfl (List.mem_map_of_mem (f:=Ze.enc) ha))⟩
theorem yS {κ:Kr}:∀ (l:List Ze),(∀ a∈l,∃ ds,Rps κ (Ze.enc a) ds)→∀ a∈l,ROk a
 | [],_,_,h=>by cases h
 | b::l,h,a,ha=>by
  rcases List.mem_cons.1 ha with e | ha
  ·obtain ⟨ds,hd⟩:=h b (by simp)
   rw [e];exact rok_of b ds hd
  exact yS l (fun a ha=>h a (by simp [ha])) a ha
end
def jD (s p:ByteArray):Bool:=decide (p.size≤s.size)&&decide (s.extract 0 p.size=p)
theorem Ci (s p:ByteArray):Option.bind (gd (decide ((p.size:Int)≤(s.size:Int))) (kl s 0 (p.size:Int))) (fun s1=>some ((decide ((p.size:Int)≤(s.size:Int)))&&(decide (s1=p))))=some (jD s p):=by
 unfold jD
 by_cases h:p.size≤s.size
 ·rw [det h,show decide ((p.size:Int)≤(s.size:Int))=true from det (by omega),gt]
  unfold kl;rw [if_pos (by omega)];rfl
 rw [cC h,show decide ((p.size:Int)≤(s.size:Int))=false from cC (by omega)];rfl
theorem pa (s p:ByteArray):cQ s p=some (jD s p):=by
 unfold cQ fa;rw [Ci];rfl
def kG (l:List Zk) (code:ByteArray) (k:Nat) (x:Zk) (b:Option Nat):Option Nat :=
 cond (jD code x.Prefix&&(match b with | none=>true | some j=>decide ((l.getD j x).Prefix.size<x.Prefix.size))) (some k) b
def noE {α:Type} (e:Empty):α:=nomatch e
def rT (l:List Zk) (code:ByteArray):Option Nat:=ut (fun b=>b) noE (run (fun k x b=>(.inl (kG l code k x b):Option Nat⊕Empty)) l 0 none)
def xJ:Option Nat→Int
 | none => -1
 | some j=>(j:Int)
theorem wr (b:Option Nat):decide (xJ b<0)=b.isNone:=by
 cases b with
 | none=>rfl
 | some j=>exact cC (by simp only [xJ];omega)
def inB (n:Nat) (b:Option Nat):Prop:=∀ j,b=some j→j<n
theorem yT {l:List Zk} {code:ByteArray} {k:Nat} {x:Zk} {b:Option Nat} (h:inB k b):inB (k+1) (kG l code k x b):=by
 intro j hj
 unfold kG at hj
 split at hj
 all_goals (cases hc:(jD code x.Prefix&&_) <;> rw [hc] at hj <;> simp only [cK,cA] at hj)
 all_goals first | (injection hj with hj;omega) | (have:=h j hj;omega) | (cases hj)
theorem Cj (l:List Zk) (code:ByteArray):inB l.length (rT l code):=by
 have key:∀ (m:List Zk) (i:Nat) (b:Option Nat),inB i b→inB (i+m.length) (ut (fun b=>b) noE (run (fun k x b=>(.inl (kG l code k x b):Option Nat⊕Empty)) m i b)):=by
  intro m
  induction m with
  | nil=>intro i b h;exact h
  | cons x m ih =>
   intro i b h
   rw [kp,List.length_cons,show i+(m.length+1)=(i+1)+m.length by omega]
   exact ih _ _ (yT h)
 have:=key l 0 none (fun j h=>by cases h)
 rwa [Nat.zero_add] at this
theorem Aa (l:List Zk) (code:ByteArray) (hl:l.length≤140737488355328) {β:Type} (K:Int→Option β):Option.bind (bf (S:=Int×Int) (T:=(Int)) (fun (v3,v4)=>cond (decide (v4<(l.length:Int))) (Option.bind (Option.bind (idx l v4) (fun m11=>Option.bind (cQ code m11.Prefix) (fun x13=>Option.bind (gd (x13&&(!(decide (v3<0)))) (idx l v3)) (fun m14=>cond (x13&&((decide (v3<0))||(decide ((m14.Prefix.size:Int)<(m11.Prefix.size:Int))))) (some v4) (some v3))))) (fun v9=>some (.inl (v9,(IntKind.i64.wrap (v4+1)))))) (some (.inr v3))) FUEL ((-1),0)) K=K (xJ (rT l code)):=by
 have h62:l.length≤4611686018427387904:=by omega
 refine (lE (l:=l) h62 (fun i (b:Option Nat)=>(xJ b,i)) (fun k x b=>(.inl (kG l code k x b):Option Nat⊕Empty)) xJ noE (fun k b=>inB k b) none (fun j h=>by cases h) (fun k hk b hb=>⟨?_,fun b' h=>by injection h with h;rw [← h];exact yT hb⟩) (fun b hb=>by simp only [fY,cA])).trans ?_
 ·simp only [ml hk,cK,bp hk,bQ,pa,dr hk h62,zU,wr]
  unfold kG
  cases hp:jD code l[k].Prefix
  ·rfl
  cases b with
  | none=>rfl
  | some j =>
   have hj:=hb j rfl
   simp only [Option.isNone_some,Bool.not_false,Bool.and_true,gt,xJ,bp (show j<l.length by omega),bQ,Bool.true_and,Bool.false_or,ib (show j<l.length by omega)]
   have e:decide (((l[j]'(by omega)).Prefix.size:Int)<(l[k].Prefix.size:Int))=decide ((l[j]'(by omega)).Prefix.size<l[k].Prefix.size):=decide_eq_decide.2 (by omega)
   rw [e]
   cases decide ((l[j]'(by omega)).Prefix.size<l[k].Prefix.size) <;> rfl
 unfold rT
 congr 1
 cases run (fun k x b=>(.inl (kG l code k x b):Option Nat⊕Empty)) l 0 none with
 | inl b=>rfl
 | inr e=>nomatch e
def mN {α:Type} (z:α):Option α→α×Bool
 | some r=>(r,true)
 | none=>(z,false)
def zRule:Ze:=⟨0,0,[],0,0,ByteArray.empty,[]⟩
def gw (a:Zc) (code:ByteArray):Option Ze:=(rT a.Rules code).bind fun j=>(a.Rules[j]?).map (·.Rule)
theorem oI (a:Zc) (code:ByteArray):(rT a.Rules code=none∧gw a code=none)∨∃ j,∃ h:j<a.Rules.length,rT a.Rules code=some j∧gw a code=some a.Rules[j].Rule:=by
 cases hb:rT a.Rules code with
 | none=>left;exact ⟨rfl,by unfold gw;rw [hb];rfl⟩
 | some j =>
  have hj:=Cj a.Rules code j hb
  right;exact ⟨j,hj,rfl,by unfold gw;rw [hb,bQ,List.getElem?_eq_getElem hj];rfl⟩
theorem nF {r:Ze} (h:eQ r=true):r.Args.length≤6∧(∀ a∈r.Args,eQ a=true)∧r.Except.length≤6:=by
 rw [i4,Bool.and_eq_true] at h
 obtain ⟨h1,h2⟩:=h
 unfold lq at h1
 simp only [Bool.and_eq_true,Bool.or_eq_true] at h1
 obtain ⟨⟨⟨p1,p2⟩,p3⟩,p4⟩:=h1
 have hE:r.Except.length≤6:=by
  rcases p1 with p1 | ⟨⟨_,p1⟩,_⟩
  ·have hk:=eq_of_beq p1
   rw [hk] at h2
   simp only [lP,hk] at h2
   have h3:kD r.Except=true:=by
    cases hc:kD r.Except
    ·rw [hc] at h2;simp at h2
    rfl
   unfold kD at h3
   simp only [Bool.and_eq_true,decide_eq_true_eq] at h3
   exact h3.1
  have:=List.isEmpty_iff.1 p1;rw [this];simp
 cases h56:(r.Kind == 5||r.Kind == 6)
 ·rw [Bool.or_eq_false_iff] at h56
  rcases p4 with (p4 | p4) | p4
  ·rw [h56.1] at p4;cases p4
  ·rw [h56.2] at p4;cases p4
  have:=List.isEmpty_iff.1 p4;rw [this];exact ⟨by simp,by simp,hE⟩
 rw [h56] at h2
 simp only [cK,Bool.and_eq_true,decide_eq_true_eq,List.all_eq_true] at h2
 exact ⟨h2.1.2,fun a ha=>(h2.2 a ha).2,hE⟩
theorem clone_F (n:Nat):∀ (r:Ze),eQ r=true→wh r≤n→eN n r=some r:=by
 induction n with
 | zero=>intro r _ hd;rw [oa] at hd;omega
 | succ n ih =>
  intro r hr hd
  obtain ⟨h1,h2,h3⟩:=nF hr
  show dx (eN n) r=_
  unfold dx bJ
  rw [mB (by omega) (by omega),bQ,xB (by omega) (by omega),bQ]
  refine (ez (l:=r.Args) (by omega) (fun i (a:List Ze)=>(a,i)) (fun a x=>a++[x]) (fun a=>a) (fun k a=>a.length=k) [] rfl (fun k hk a ha=>⟨?_,by simp [ha]⟩) (fun a ha=>by simp only [fY,cA])).1.trans ?_
  ·simp only [ml hk,cK,bp hk,bQ,dr hk (show r.Args.length≤4611686018427387904 by omega)]
   rw [ih _ (h2 _ (List.getElem_mem hk)) (by have:=nC (List.getElem_mem hk);omega),bQ,eM (by simp;omega) (by simp;omega)];rfl
  have:∀ (m acc:List Ze),m.foldl (fun a x=>a++[x]) acc=acc++m:=by
   intro m
   induction m with
   | nil=>intro acc;simp
   | cons x m ih=>intro acc;rw [List.foldl_cons,ih];simp
  rw [this,List.nil_append];cases r;rfl
theorem xK (r:Ze) (h:eQ r=true) (hd:wh r≤1000):gF r=some r:=clone_F FUEL r h (by have hf:FUEL=1267650600228229401496703205376:=rfl;omega)
structure VA (a:Zc):Prop where
 ok:AOk a
 rules:∀ x∈a.Rules,ns x.Rule=0
 len:a.Rules.length≤12∧a.Parties.length≤12
theorem pJ (a:Zc) (code:ByteArray) (ha:VA a):dA a code=some (mN zRule (gw a code)):=by
 unfold dA
 rw [Aa _ _ ha.ok.len]
 rcases oI a code with ⟨h1,h2⟩ | ⟨j,hj,h1,h2⟩
 ·rw [h1,h2];rfl
 have hm:=List.getElem_mem hj
 have hr:=ha.ok.rules _ hm
 have hv:=ha.rules _ hm
 rw [h1,h2,wr]
 simp only [Option.isNone_some,Bool.not_false,gt,xJ,bp hj,bQ,nD _ hr.rule hr.deep,hv,bne_self_eq_false,Bool.or_self,cA,xK _ ((kE _).1 hv).2 hr.deep]
 rfl
theorem MA.va {i:Nat} {a:Zc} (h:MA i a):VA a:=⟨h.aok,fun x hx=>(kE _).2 ⟨by have:=(h.good x hx).size;simp only [lR] at this;omega,(h.good x hx).valid⟩,by have:=P5_len h.pre;omega,by have:=h.par.length_le;have h6:C6.length=6:=rfl;omega⟩
theorem lS {α T:Type} (p:α→Bool) (f:Nat→T):∀ (l:List α) (i:Nat),(co (fun k x=>cond (p x) (some (f k)) none) l i=none∧l.find? p=none)∨∃ j,∃ h:j<l.length,co (fun k x=>cond (p x) (some (f k)) none) l i=some (f (i+j))∧l.find? p=some l[j]
 | [],_=>.inl ⟨rfl,rfl⟩
 | x::xs,i=>by
  rw [co,List.find?_cons]
  cases hp:p x
  ·rcases lS p f xs (i+1) with ⟨h1,h2⟩ | ⟨j,hj,h1,h2⟩
   ·exact .inl ⟨h1,h2⟩
   exact .inr ⟨j+1,by simpa using hj,by rw [show i+(j+1)=i+1+j by omega];exact h1,h2⟩
  exact .inr ⟨0,by simp,rfl,rfl⟩
def nL (l:List ByteArray) (s:ByteArray):Bool:=l.any fun x=>decide (x=s)
theorem Ck (l:List ByteArray) (s:ByteArray):nL l s=true↔s∈l:=by
 unfold nL;simp
theorem oJ (l:List ByteArray) (s:ByteArray) (hl:l.length≤140737488355328):bz l s=some (nL l s):=by
 unfold bz
 have e:cF l s=some (match co (fun k x=>cond (decide (x=s)) (some (Sum.inr (k:Int):Unit⊕Int)) none) l 0 with | some (.inr k)=>k | _ => -1):=by
  unfold cF
  refine (cR (l:=l) (by omega) (fun k x=>cond (decide (x=s)) (some (.inr (k:Int))) none) (.inl ()) (fun k hk=>?_) (by simp only [fY,cA])).trans ?_
  ·simp only [ml hk,cK,bp hk,bQ,dr hk (show l.length≤4611686018427387904 by omega)]
   have e:decide (s=l[k])=decide (l[k]=s):=decide_eq_decide.2 eq_comm
   rw [e];cases decide (l[k]=s) <;> rfl
  cases co (fun k x=>cond (decide (x=s)) (some (Sum.inr (k:Int):Unit⊕Int)) none) l 0 with
  | none=>rfl
  | some t=>cases t <;> rfl
 rw [e,bQ]
 rcases lS (fun x=>decide (x=s)) (fun k=>(Sum.inr (k:Int):Unit⊕Int)) l 0 with ⟨h1,h2⟩ | ⟨j,hj,h1,h2⟩
 ·rw [h1]
  have:nL l s=false:=by unfold nL;rw [List.any_eq_false];exact fun x hx=>by have:=List.find?_eq_none.1 h2 x hx;simpa using this
  rw [this];rfl
 rw [h1]
 have:nL l s=true:=by
  have:=List.find?_some h2
  rw [Ck];rw [← of_decide_eq_true this];exact List.getElem_mem hj
 rw [this]
 show some (decide (0≤((0+j:Nat):Int)))=_
 rw [det (by omega)]
def nu (l:List Zc) (id:Int):Option Zc:=l.find? fun a=>a.ID == id
def zAgr:Zc:=⟨0,0,[],[]⟩
theorem oe (l:List Zc) (id:Int) (hl:l.length≤140737488355328):dG l id=some (mN zAgr (nu l id)):=by
 unfold dG nu
 have e:bt l (fun y3=>fz y3 id)=some (match co (fun k (x:Zc)=>cond (x.ID == id) (some (Sum.inr (k:Int):Unit⊕Int)) none) l 0 with | some (.inr k)=>k | _ => -1):=by
  unfold bt fz
  refine (cR (l:=l) (by omega) (fun k x=>cond (x.ID == id) (some (.inr (k:Int))) none) (.inl ()) (fun k hk=>?_) (by simp only [fY,cA])).trans ?_
  ·simp only [ml hk,cK,bp hk,bQ,dr hk (show l.length≤4611686018427387904 by omega)]
   cases (l[k].ID == id) <;> rfl
  cases co (fun k (x:Zc)=>cond (x.ID == id) (some (Sum.inr (k:Int):Unit⊕Int)) none) l 0 with
  | none=>rfl
  | some t=>cases t <;> rfl
 rw [e,bQ]
 rcases lS (fun x:Zc=>x.ID == id) (fun k=>(Sum.inr (k:Int):Unit⊕Int)) l 0 with ⟨h1,h2⟩ | ⟨j,hj,h1,h2⟩
 ·rw [h1,h2];rfl
 rw [h1,h2]
 show cond (decide (((0+j:Nat):Int)<0)) _ (Option.bind (idx l ((0+j:Nat):Int)) _)=_
 rw [cC (by omega),Nat.zero_add,bp hj];rfl
def sC {α:Type} (R:α→α→Bool):List α→List α→Bool
 | [],_=>true
 | _::_,[]=>true
 | x::a,y::b=>R x y&&sC R a b
def lr {α:Type} (R:α→α→Bool) (a b:List α):Bool:=a.length == b.length&&sC R a b
theorem tz {α T:Type} (R:α→α→Bool) (t:T) (B:List α):∀ (a b:List α) (i:Nat),B.drop i=b→a.length=b.length→co (fun k x=>cond (R x (B.getD k x)) none (some t)) a i=cond (sC R a b) none (some t)
 | [],b,_,_,_=>by cases b <;> rfl
 | x::a,[],_,_,h=>by simp at h
 | x::a,y::b,i,hd,h=>by
  have hi:i<B.length:=by
   rcases Nat.lt_or_ge i B.length with h | h
   ·exact h
   rw [List.drop_of_length_le h] at hd;cases hd
  rw [List.drop_eq_getElem_cons hi] at hd
  injection hd with h1 h2
  rw [co,sC,ib hi,h1,tz R t B a b (i+1) h2 (by simpa using h)]
  cases R x y <;> rfl
theorem wv {α:Type} {R:α→α→Bool}:∀ {a b:List α},(∀ x∈a,∀ y∈b,R x y=true↔x=y)→(lr R a b=true↔a=b)
 | [],[],_=>by simp [lr,sC]
 | [],y::b,_=>by simp [lr]
 | x::a,[],_=>by simp [lr]
 | x::a,y::b,h=>by
  have ih:=wv (R:=R) (a:=a) (b:=b) fun u hu v hv=>h u (by simp [hu]) v (by simp [hv])
  have h0:=h x (by simp) y (by simp)
  unfold lr at ih ⊢
  rw [sC]
  simp only [List.length_cons,Bool.and_eq_true,beq_iff_eq,Nat.add_right_cancel_iff,List.cons.injEq] at ih ⊢
  constructor
  ·rintro ⟨h1,h2,h3⟩;exact ⟨h0.1 h2,ih.1 ⟨h1,h3⟩⟩
  rintro ⟨h1,h2⟩;exact ⟨(ih.2 h2).1,h0.2 h1,(ih.2 h2).2⟩
theorem uF {α:Type} (a b:List α):((a.length:Int) != (b.length:Int)) = !(a.length == b.length):=by
 by_cases h:a.length=b.length
 ·rw [h];simp
 have h2:¬ (a.length:Int)=(b.length:Int):=by omega
 have e1:(a.length == b.length)=false:=by simpa using h
 have e2:((a.length:Int) == (b.length:Int))=false:=by simpa using h2
 rw [e1,bne,e2]
theorem uG {α:Type} {a b:List α} (ha:a.length≤140737488355328) (R:α→α→Bool) {body:Int→Option (Int⊕(Unit⊕Bool))} {k:Unit⊕Bool→Option Bool} (hk:k (.inl ())=some true∧k (.inr false)=some false) (hab:a.length=b.length)
    (hstep:∀ (k:Nat) (hk:k<a.length) (hk2:k<b.length),body (k:Int)=some (zV k (cond (R a[k] b[k]) none (some (.inr false))))) (hend:body (a.length:Int)=some (.inr (.inl ()))):Option.bind (bf body FUEL 0) k=some (sC R a b):=by
  refine (cR (l:=a) (by omega) (fun i x=>cond (R x (b.getD i x)) none (some (.inr false))) (.inl ()) (fun i hi=>?_) hend).trans ?_
  · rw [hstep i hi (by omega),ib (show i<b.length by omega)]
  rw [tz R (Sum.inr false:Unit⊕Bool) b a b 0 rfl hab]
  cases sC R a b
  · exact hk.2
  exact hk.1
theorem qk (a b:List ByteArray) (ha:a.length≤140737488355328):cG a b=some (decide (a=b)):=by
 have hiff:lr (fun x y=>decide (x=y)) a b=decide (a=b):=by
  have:=wv (R:=fun x y:ByteArray=>decide (x=y)) (a:=a) (b:=b) (fun x _ y _=>by simp)
  cases h:lr (fun x y=>decide (x=y)) a b
  ·rw [h] at this;exact (cC fun e=>by have:=this.2 e;cases this).symm
  exact (det (this.1 h)).symm
 rw [← hiff]
 unfold cG lr
 rw [uF]
 cases h:(a.length == b.length)
 ·rfl
 simp only [Bool.not_true,cA,Bool.true_and]
 refine uG ha _ ⟨rfl,rfl⟩ (eq_of_beq h) (fun k hk hk2=>?_) (by simp only [fY,cA])
 simp only [ml hk,cK,bp hk,bp hk2,bQ,dr hk (show a.length≤4611686018427387904 by omega)]
 cases decide (a[k]=b[k]) <;> rfl
mutual
def ip:Ze→Ze→Bool
 | ⟨k,d,e,t,m,n,l⟩,⟨k',d',e',t',m',n',l'⟩=>k == k'&&d == d'&&t == t'&&m == m'&&decide (n=n')&&decide (e=e')&&ig l l'
def ig:List Ze→List Ze→Bool
 | [],[]=>true
 | [],_::_=>false
 | _::_,[]=>false
 | a::l,b::m=>ip a b&&ig l m
end
mutual
theorem xL:∀ a b:Ze,ip a b=true↔a=b
 | ⟨k,d,e,t,m,n,l⟩,⟨k',d',e',t',m',n',l'⟩=>by
  rw [ip]
  simp only [Bool.and_eq_true,beq_iff_eq,decide_eq_true_eq,pK l l',Ze.mk.injEq]
  constructor
  ·rintro ⟨⟨⟨⟨⟨⟨h1,h2⟩,h3⟩,h4⟩,h5⟩,h6⟩,h7⟩;exact ⟨h1,h2,h6,h3,h4,h5,h7⟩
  rintro ⟨h1,h2,h6,h3,h4,h5,h7⟩;exact ⟨⟨⟨⟨⟨⟨h1,h2⟩,h3⟩,h4⟩,h5⟩,h6⟩,h7⟩
theorem pK:∀ a b:List Ze,ig a b=true↔a=b
 | [],[]=>by simp [ig]
 | [],_::_=>by simp [ig]
 | _::_,[]=>by simp [ig]
 | a::l,b::m=>by rw [ig,Bool.and_eq_true,xL a b,pK l m,List.cons.injEq]
end
theorem pM:∀ a b:List Ze,ig a b=lr ip a b
 | [],[]=>by simp [ig,lr,sC]
 | [],_::_=>by simp [ig,lr]
 | _::_,[]=>by simp [ig,lr]
 | a::l,b::m=>by
  rw [ig,pM l m]
  unfold lr
  rw [sC,List.length_cons,List.length_cons]
  have:(l.length+1 == m.length+1)=(l.length == m.length):=by
   cases h:(l.length == m.length)
   ·have:=(beq_eq_false_iff_ne).1 h;exact beq_eq_false_iff_ne.2 (by omega)
   have:=eq_of_beq h;rw [this];simp
  rw [this]
  cases ip a b <;> cases (l.length == m.length) <;> rfl
theorem xM (a b:Ze):ip a b=(a.Kind == b.Kind&&a.Digits == b.Digits&&a.Tolerance == b.Tolerance&&a.Limit == b.Limit&&decide (a.Name=b.Name)&&decide (a.Except=b.Except)&&lr ip a.Args b.Args):=by
 cases a;cases b;rw [ip,pM]
theorem ww (n:Nat):∀ (a b:Ze),ROk a→wh a≤n→dz n a b=some (ip a b):=by
 induction n with
 | zero=>intro a b _ hd;rw [oa] at hd;omega
 | succ n ih =>
  intro a b ha hd
  have hl:=ha.len
  have hA:bh a.Args b.Args (fun y4 y5=>dz n y4 y5)=some (lr ip a.Args b.Args):=by
   unfold bh lr
   rw [uF]
   cases h:(a.Args.length == b.Args.length)
   ·rfl
   simp only [Bool.not_true,cA,Bool.true_and]
   refine uG hl _ ⟨rfl,rfl⟩ (eq_of_beq h) (fun k hk hk2=>?_) (by simp only [fY,cA])
   simp only [ml hk,cK,bp hk,bp hk2,bQ,dr hk (show a.Args.length≤4611686018427387904 by omega)]
   rw [ih _ _ (ha.arg (List.getElem_mem hk)) (by have:=nC (List.getElem_mem hk);omega),bQ]
   cases ip a.Args[k] b.Args[k] <;> rfl
  show dy (dz n) a b=_
  unfold dy
  rw [qk _ _ ha.ex.1,xM,hA]
  cases (a.Kind == b.Kind&&a.Digits == b.Digits&&a.Tolerance == b.Tolerance&&a.Limit == b.Limit&&decide (a.Name=b.Name))
  ·rfl
  cases decide (a.Except=b.Except)
  ·rfl
  cases lr ip a.Args b.Args <;> rfl
def Cl (x y:Zk):Bool:=decide (x.Prefix=y.Prefix)&&ip x.Rule y.Rule
theorem rU (a b:List Zk) (ha:a.length≤140737488355328) (hr:∀ x∈a,RFOk x) (hv:∀ x∈a,ns x.Rule=0):dP a b=some (lr Cl a b):=by
 unfold dP be lr
 rw [uF]
 cases h:(a.length == b.length)
 ·rfl
 simp only [Bool.not_true,cA,Bool.true_and]
 rw [uG ha Cl ⟨rfl,rfl⟩ (eq_of_beq h) (fun k hk hk2=>?_) (by simp only [fY,cA])]
 ·rfl
 have hx:=hr _ (List.getElem_mem hk)
 have hxv:=hv _ (List.getElem_mem hk)
 simp only [ml hk,cK,bp hk,bp hk2,bQ,dr hk (show a.length≤4611686018427387904 by omega),Cl]
 unfold eA
 cases decide (a[k].Prefix=b[k].Prefix)
 ·rfl
 have e:gG a[k].Rule b[k].Rule=some (ip a[k].Rule b[k].Rule):=ww FUEL _ _ hx.rule (by have hf:FUEL=1267650600228229401496703205376:=rfl;have:=hx.deep;omega)
 simp only [gt,nD _ hx.rule hx.deep,hxv,bQ,beq_self_eq_true,Bool.and_self,e,Bool.true_and]
 cases ip a[k].Rule b[k].Rule <;> rfl
def Digs (l:List Int):Prop:=∀ x∈l,48≤x∧x≤57
theorem code_Y {p:Zj} (hp:SOK p) (n:Nat) (hn:n=6∨n=8):Y (fR p (n:Int)) (fun r=>(∃ l:List Int,r.1=strOfNums l∧l.length=n∧Digs l)∧SOK r.2):=by
 unfold fR
 refine (dT hp 2 (by omega) (by omega)).bind fun a ⟨a1,a2,a3⟩=>?_
 rw [cU (by omega) (by omega),t6 (by omega)]
 refine Y.bind (P:=fun t:List Int×List Int×Int=>t.1.length=n∧Digs t.1∧SOK ⟨t.2.1,t.2.2⟩) ?_ fun t ⟨t1,t2,t3⟩=>?_
 ·refine Y.loop (fun s:List Int×List Int×Int=>(s.1.length % 2=0∧s.1.length≤n)∧Digs s.1∧SOK ⟨s.2.1,s.2.2⟩) (fun s=>n - s.1.length) ⟨⟨by simp,by simp;omega⟩,fun x hx=>by simp at hx;omega,a3⟩ (by dsimp only;omega) fun s hs=>?_
  obtain ⟨l,m,i⟩:=s
  obtain ⟨⟨s0,s1⟩,s2,s3⟩:=hs
  dsimp only at s0 s1 s2 s3 ⊢
  refine Y.cond (fun hc=>?_) (fun hc=>Y.ret ⟨by have:=of_decide_eq_false hc;dsimp only;omega,s2,s3⟩)
  have hc:=of_decide_eq_true hc
  refine (dT s3 3 (by omega) (by omega)).bind fun x ⟨x1,x2,x3⟩=>?_
  rw [eM (by simp;omega) (by simp;omega),bQ,cU (by omega) (by omega),t6 (by omega)]
  refine Y.ret ⟨⟨⟨by simp;omega,by simp;omega⟩,fun z hz=>?_,x3⟩,by simp;omega⟩
  rcases List.mem_append.1 hz with hz | hz
  ·exact s2 z hz
  simp only [List.mem_cons,List.not_mem_nil,or_false] at hz;omega
 obtain ⟨l,m,i⟩:=t
 exact Y.ret ⟨⟨l,rfl,t1,t2⟩,t3⟩
theorem Cm {l:List Int} {n:Nat} (hn:n=6∨n=8) (h1:l.length=n) (h2:Digs l):e9 (strOfNums l)=(n:Int)∧(strOfNums l).size=n:=by
 have hs:(strOfNums l).size=n:=by
  unfold strOfNums
  show (Array.mk _).size=n
  simp [h1]
 have hd:nj (strOfNums l)=true:=by
  unfold nj bl strOfNums
  rw [List.all_eq_true]
  intro c hc
  simp only [List.mem_map] at hc
  obtain ⟨x,hx,rfl⟩:=hc
  have:=h2 x hx
  have h3:(UInt8.ofNat x.toNat).toNat=x.toNat:=by
   rw [UInt8.toNat_ofNat'];omega
  simp only [kA,h3,decide_eq_true_eq]
  omega
 refine ⟨?_,hs⟩
 unfold e9
 rw [if_pos ⟨by omega,hd⟩,hs]
def W5:List ByteArray:=[(⟨#[97,110,100]⟩:ByteArray),(⟨#[99,117,116]⟩:ByteArray),(⟨#[111,114]⟩:ByteArray),(⟨#[115,101,119]⟩:ByteArray),(⟨#[115,112,105,110]⟩:ByteArray)]
theorem W5_ok:W5.all hZ=true∧kC kQ W5=true∧(W5.all fun s=>decide (s.size≤100))=true:=⟨by kernel_rfl,by kernel_rfl,by kernel_rfl⟩
theorem wx {p:Zj} (hp:SOK p):Y (dO p) (fun r=>r.1.Sublist W5∧SOK r.2):=by
 unfold dO
 refine (dT hp 32 (by omega) (by omega)).bind fun a ⟨a1,a2,a3⟩=>?_
 refine Y.bind (P:=fun l:List ByteArray=>l.Sublist W5) ?_ fun l hl=>Y.ret ⟨hl,a3⟩
 refine Y.loop (fun s=>∃ v:Nat,s.2=(v:Int)∧v≤5∧s.1.Sublist (W5.take v)) (fun s=>(5 - s.2).toNat) ⟨0,rfl,by omega,List.Sublist.refl _⟩ (by dsimp only;omega) fun s hs=>?_
 obtain ⟨l,i⟩:=s
 obtain ⟨v,rfl,h1,h2⟩:=hs
 dsimp only at h2 ⊢
 have hlen:l.length≤5:=by have:=h2.length_le;have h6:W5.length=5:=rfl;rw [List.length_take] at this;omega
 refine Y.cond (fun hc=>?_) (fun hc=>Y.ret (h2.trans (List.take_sublist _ _)))
 have hv:v<5:=by have:=of_decide_eq_true hc;omega
 have hs:=mz h2 (show v<W5.length from hv)
 refine Y.bind (P:=fun m:List ByteArray=>m.Sublist (W5.take (v+1))) (Y.eq (mA v) (Y.cond (fun _=>?_) fun _=>Y.ret hs.2)) fun m hm=>Y.ret ⟨⟨v+1,?_,by omega,hm⟩,?_⟩
 ·refine Y.idx (xs:=W5) rfl (show v<W5.length from hv) ?_
  rw [eM (by simp;omega) (by simp;omega)];exact Y.ret hs.1
 ·show IntKind.i64.wrap ((v:Int)+1)=_;rw [cU (by omega) (by omega)];omega
 show (5 - IntKind.i64.wrap ((v:Int)+1)).toNat<(5 - (v:Int)).toNat;rw [cU (by omega) (by omega)];omega
theorem codeN {x:Int} (h1:0≤x) (h2:x<2):∃ n:Nat,(n=6∨n=8)∧IntKind.i64.wrap (6+IntKind.i64.wrap (2*x))=(n:Int):=by
 rw [cU (r:=2*x) (by omega) (by omega),cU (by omega) (by omega)]
 exact ⟨(6+2*x).toNat,by omega,by omega⟩
structure MProd (n:Nat) (i:Nat) (p:Zb):Prop where
 id:p.ID=3*((i:Int)+1)
 lvl:(e9 p.Code=6∨e9 p.Code=8)∧6≤p.Code.size∧p.Code.size≤8
 ctr:p.Country∈C6
 price:1≤p.Price∧p.Price≤200
 proc:p.Processes.Sublist W5
 few:p.Inputs.length≤4
 asc:p.Inputs.Pairwise fun a b=>a.Product<b.Product
 inp:∀ x∈p.Inputs,(∃ k:Nat,k<n∧x.Product=3*((k:Int)+1))∧0≤x.Value∧x.Value<100
 obt:p.Obtained=true→p.Inputs=[]
structure MPs (l:List Zb):Prop where
 len:1≤l.length∧l.length≤10
 all:∀ (i:Nat) (p:Zb),l[i]?=some p→MProd l.length i p
theorem plan_Y (p0:List Int):Y (lH p0) MPs:=by
 unfold lH
 refine (cut_Y p0 300 (by omega) (by omega)).bind fun x1 hx1=>?_
 refine (dT hx1 10 (by omega) (by omega)).bind fun x3 ⟨a1,a2,a3⟩=>?_
 rw [cU (r:=1+x3.1) (by omega) (by omega)]
 obtain ⟨n,hn⟩:∃ n:Nat,1+x3.1=(n:Int):=⟨(1+x3.1).toNat,by omega⟩
 rw [hn]
 have hn1:1≤n∧n≤10:=by omega
 refine Y.bind (P:=MPs) ?_ fun l hl=>Y.ret hl
 refine Y.loop (fun s:List Zb×Int×List Int×Int=>(s.2.1=(s.1.length:Int)+1∧s.1.length≤n)∧SOK ⟨s.2.2.1,s.2.2.2⟩∧∀ i p,s.1[i]?=some p→MProd n i p) (fun s=>n - s.1.length) ⟨⟨rfl,by simp⟩,a3,by simp⟩ (by dsimp only;omega) fun s hs=>?_
 obtain ⟨l5,v8,l9,v10⟩:=s
 obtain ⟨⟨h1,h2⟩,h3,h4⟩:=hs
 dsimp only at h1 h2 h3 h4 ⊢
 refine Y.cond (fun hc=>?_) (fun hc=>Y.ret ?_)
 rotate_left
 ·have hc:=of_decide_eq_false hc
  have e:l5.length=n:=by omega
  exact ⟨by omega,by rw [e];exact h4⟩
 have hc:=of_decide_eq_true hc
 refine (dT h3 2 (by omega) (by omega)).bind fun x19 ⟨b1,b2,b3⟩=>?_
 obtain ⟨w,hw,e⟩:=codeN b1 b2
 rw [e]
 refine (code_Y b3 w hw).bind fun x20 ⟨⟨cl,hc1,hc2,hc3⟩,hx20⟩=>?_
 have hcode:=Cm hw hc2 hc3
 refine Y.eq oH ?_
 refine (dT hx20 4 (by omega) (by omega)).bind fun x22 ⟨c1,c2,c3⟩=>?_
 obtain ⟨j,hj⟩:∃ j:Nat,x22.1=(j:Int):=⟨x22.1.toNat,by omega⟩
 refine Y.idx hj (show j<C6.length by have h6:C6.length=6:=rfl;omega) ?_
 refine (dT c3 200 (by omega) (by omega)).bind fun x24 ⟨d1,d2,d3⟩=>?_
 refine (wx d3).bind fun x25 ⟨hpr,hx25⟩=>?_
 refine (dT hx25 4 (by omega) (by omega)).bind fun x26 ⟨_,_,h26⟩=>?_
 refine (dT h26 1024 (by omega) (by omega)).bind fun x28 ⟨_,_,h28⟩=>?_
 refine Y.bind (P:=fun t:List Int×Int×List Zf=>SOK ⟨t.1,t.2.1⟩∧t.2.2.length≤4∧(t.2.2.Pairwise fun a b=>a.Product<b.Product)∧(∀ x∈t.2.2,(∃ k:Nat,k<n∧x.Product=3*((k:Int)+1))∧0≤x.Value∧x.Value<100)∧((x26.1 == 1)=true→t.2.2=[])) ?_ fun t ⟨t1,t2,t3,t4,t5⟩=>?_
 ·refine Y.loop (fun s:Int×List Int×Int×List Zf=>∃ v:Nat,s.1=(v:Int)+1∧v≤n∧SOK ⟨s.2.1,s.2.2.1⟩∧s.2.2.2.length≤4∧(s.2.2.2.Pairwise fun a b=>a.Product<b.Product)∧(∀ x∈s.2.2.2,(∃ k:Nat,k<v∧x.Product=3*((k:Int)+1))∧0≤x.Value∧x.Value<100)∧((x26.1 == 1)=true→s.2.2.2=[])) (fun s=>(n+1 - s.1).toNat) ⟨0,rfl,by omega,h28,by simp,List.Pairwise.nil,by simp,fun _=>rfl⟩ (by dsimp only;omega) fun s hs=>?_
  obtain ⟨i,l,k,m⟩:=s
  obtain ⟨v,rfl,s1,s2,s3,s4,s5,s6⟩:=hs
  dsimp only at s2 s3 s4 s5 s6 ⊢
  refine Y.cond (fun hc3=>?_) (fun hc3=>Y.ret ⟨s2,s3,s4,fun x hx=>?_,s6⟩)
  rotate_left
  ·obtain ⟨⟨k,h5,h6⟩,h7⟩:=s5 x hx;exact ⟨⟨k,by omega,h6⟩,h7⟩
  simp only [Bool.and_eq_true,decide_eq_true_eq,Bool.not_eq_true'] at hc3
  obtain ⟨⟨hc4,hc5⟩,hc6⟩:=hc3
  rw [cU (r:=(v:Int)+1 - 1) (by omega) (by omega),cU (r:=(v:Int)+1+1) (by omega) (by omega),cU (r:=3*((v:Int)+1)) (by omega) (by omega)]
  refine Y.bind (P:=fun t:List Int×Int×List Zf=>SOK ⟨t.1,t.2.1⟩∧t.2.2.length≤4∧(t.2.2.Pairwise fun a b=>a.Product<b.Product)∧(∀ x∈t.2.2,(∃ k:Nat,k<v+1∧x.Product=3*((k:Int)+1))∧0≤x.Value∧x.Value<100)) ?_ fun t ⟨t1,t2,t3,t4⟩=>Y.ret ⟨⟨v+1,by dsimp only;omega,by omega,t1,t2,t3,t4,fun h=>by rw [hc6] at h;cases h⟩,by dsimp only;omega⟩
  rw [show (v:Int)+1 - 1=(v:Int) by omega]
  refine Y.eq (mA v) ?_
  refine Y.bind (P:=fun r:Int×Zj=>SOK r.2) (Y.gdp (fun _=>(dT s2 3 (by omega) (by omega)).mono fun r hr=>hr.2.2) fun _=>s2) fun x56 hx56=>?_
  refine Y.cond (fun _=>?_) (fun _=>Y.ret ⟨hx56,s3,s4,fun x hx=>?_⟩)
  rotate_left
  ·obtain ⟨⟨k,h5,h6⟩,h7⟩:=s5 x hx;exact ⟨⟨k,by omega,h6⟩,h7⟩
  refine (dT hx56 100 (by omega) (by omega)).bind fun x58 ⟨e1,e2,e3⟩=>?_
  rw [eM (by simp;omega) (by simp;omega),bQ]
  refine Y.ret ⟨e3,by simp;omega,?_,fun x hx=>?_⟩
  ·rw [List.pairwise_append]
   refine ⟨s4,List.pairwise_singleton _ _,fun a ha b hb=>?_⟩
   rw [List.mem_singleton.1 hb]
   obtain ⟨⟨k,h5,h6⟩,_⟩:=s5 a ha
   dsimp only;omega
  rcases List.mem_append.1 hx with hx | hx
  ·obtain ⟨⟨k,h5,h6⟩,h7⟩:=s5 x hx;exact ⟨⟨k,by omega,h6⟩,h7⟩
  rw [List.mem_singleton.1 hx];exact ⟨⟨v,by omega,rfl⟩,e1,e2⟩
 obtain ⟨l37,v38,l42⟩:=t
 dsimp only at t1 t2 t3 t4 t5 ⊢
 rw [eM (by simp;omega) (by simp;omega),bQ,cU (r:=v8+1) (by omega) (by omega),cU (r:=1+x24.1) (by omega) (by omega),cU (r:=3*v8) (by omega) (by omega)]
 refine Y.ret ⟨⟨⟨by simp;omega,by simp;omega⟩,t1,fun i p hp=>?_⟩,by simp;omega⟩
 rw [List.getElem?_append] at hp
 split at hp
 ·exact h4 i p hp
 rename_i hi
 have hi0:i - l5.length=0:=by have:=(List.getElem?_eq_some_iff.1 hp).1;simp at this;omega
 rw [hi0] at hp
 simp only [List.getElem?_cons_zero,dR] at hp
 subst hp
 refine ⟨by dsimp only;omega,?_,List.getElem_mem _,⟨by dsimp only;omega,by dsimp only;omega⟩,hpr,t2,t3,t4,t5⟩
 dsimp only;rw [hc1,hcode.1,hcode.2];omega
structure Sorted (l:List Zb):Prop where
 len:l.length≤1000000
 asc:l.Pairwise fun a b=>a.ID<b.ID
 small:∀ p∈l,p.Processes.length≤1000000∧p.Inputs.length≤1000000
def cw (l:List Zb) (id:Int):Option Zb:=l.find? fun p=>p.ID == id
def zProd:Zb:=⟨0,ByteArray.empty,ByteArray.empty,0,false,[],[]⟩
theorem half_u (x:Nat) (h:x≤10000000):IntKind.i64.wrap (cD .u64 (IntKind.u64.wrap (IntKind.i64.wrap (x:Int))) 1)=((x / 2:Nat):Int):=by
 rw [cU (r:=(x:Int)) (by omega) (by omega),u64s (by omega) (by omega)]
 have:cD .u64 (x:Int) 1=(x:Int) / 2:=Int.fdiv_eq_ediv_of_nonneg _ (by decide)
 rw [this,cU (by omega) (by omega)];omega
theorem Ab (l:List Zb) (id:Int) (h:Sorted l):∃ j:Nat,fx l id=some ((j:Int),(cw l id).isSome)∧(∀ p,cw l id=some p→∃ hj:j<l.length,l[j]=p):=by
 have hl:=h.len
 have cmp:∀ p:Zb,dC p id=some (if p.ID<id then -1 else if id<p.ID then 1 else 0):=fun p=>by unfold dC;rw [cmpI];rfl
 unfold fx bw
 have hloop:Y (bf (S:=Int×Int) (T:=(Int)) (fun (v1,v2)=>cond (decide (v1<v2)) (lb ((IntKind.i64.wrap (cD .u64 (IntKind.u64.wrap (IntKind.i64.wrap (v1+v2))) 1))) (fun w8=>Option.bind (idx l w8) (fun m9=>Option.bind (dC m9 id) (fun x10=>cond (decide (x10<0)) (some (.inl ((IntKind.i64.wrap (w8+1)),v2))) (some (.inl (v1,w8))))))) (some (.inr v1))) FUEL (0,(l.length:Int))) (fun t=>∃ j:Nat,t=(j:Int)∧j≤l.length∧(∀ (k:Nat) (p:Zb),l[k]?=some p→k<j→p.ID<id)∧(∀ (k:Nat) (p:Zb),l[k]?=some p→j≤k→id≤p.ID)):=by
  refine Y.loop (fun s:Int×Int=>∃ i j:Nat,s.1=(i:Int)∧s.2=(j:Int)∧i≤j∧j≤l.length∧(∀ (k:Nat) (p:Zb),l[k]?=some p→k<i→p.ID<id)∧(∀ (k:Nat) (p:Zb),l[k]?=some p→j≤k→id≤p.ID)) (fun s=>(s.2 - s.1).toNat) ⟨0,l.length,rfl,rfl,by omega,by omega,fun k p _ hk=>absurd hk (Nat.not_lt_zero _),fun k p hp hk=>by have:=(List.getElem?_eq_some_iff.1 hp).1;omega⟩ (by dsimp only;omega) fun s hs=>?_
  obtain ⟨a,b⟩:=s
  obtain ⟨i,j,rfl,rfl,h1,h2,h3,h4⟩:=hs
  dsimp only
  refine Y.cond (fun hc=>?_) (fun hc=>Y.ret ⟨i,rfl,by omega,h3,fun k p hp hk=>h4 k p hp (by have:=of_decide_eq_false hc;omega)⟩)
  have hc:i<j:=by have:=of_decide_eq_true hc;omega
  unfold lb
  rw [show (i:Int)+(j:Int)=((i+j:Nat):Int) by omega,half_u _ (by omega)]
  have hm:(i+j) / 2<l.length:=by omega
  have pw:=List.pairwise_iff_getElem.1 h.asc
  refine Y.idx rfl hm (Y.eq (cmp _) ?_)
  by_cases hlt:l[(i+j) / 2].ID<id
  ·rw [if_pos hlt]
   refine Y.ret ⟨⟨(i+j) / 2+1,j,?_,rfl,by omega,h2,fun k p hp hk=>?_,h4⟩,?_⟩
   ·show IntKind.i64.wrap _=_;rw [cU (by omega) (by omega)];omega
   ·obtain ⟨hk2,rfl⟩:=List.getElem?_eq_some_iff.1 hp
    rcases Nat.lt_or_ge k ((i+j) / 2) with h5 | h5
    ·have:=pw k ((i+j) / 2) hk2 hm h5;omega
    have e:k=(i+j) / 2:=by omega
    subst e;exact hlt
   show ((j:Int) - IntKind.i64.wrap _).toNat<_;rw [cU (by omega) (by omega)];omega
  rw [if_neg hlt]
  have hd:decide ((if id<l[(i+j) / 2].ID then (1:Int) else 0)<0)=false:=by split <;> rfl
  rw [hd]
  refine Y.ret ⟨⟨i,(i+j) / 2,rfl,rfl,by omega,by omega,h3,fun k p hp hk=>?_⟩,by dsimp only;omega⟩
  obtain ⟨hk2,rfl⟩:=List.getElem?_eq_some_iff.1 hp
  rcases Nat.lt_or_ge ((i+j) / 2) k with h5 | h5
  ·have:=pw ((i+j) / 2) k hm hk2 h5;omega
  have e:k=(i+j) / 2:=by omega
  subst e;omega
 obtain ⟨t2,e,j,hj,h1,h2,h3⟩:=hloop
 subst hj
 rw [e]
 simp only [bQ]
 by_cases hjl:j<l.length
 ·rw [det (show (j:Int)<(l.length:Int) by omega),gt,bp hjl,bQ,gt,cmp,bQ]
  have h4:=h3 j _ (List.getElem?_eq_getElem hjl) (Nat.le_refl _)
  rw [if_neg (by omega)]
  by_cases heq:id<l[j].ID
  ·have hn:cw l id=none:=by
    unfold cw;rw [List.find?_eq_none]
    intro p hp
    obtain ⟨k,hk,rfl⟩:=List.getElem_of_mem hp
    have:l[k].ID≠id:=by
     rcases Nat.lt_or_ge k j with h5 | h5
     ·have:=h2 k _ (List.getElem?_eq_getElem hk) h5;omega
     rcases Nat.lt_or_ge j k with h6 | h6
     ·have:=List.pairwise_iff_getElem.1 h.asc j k hjl hk h6;omega
     have e:k=j:=by omega
     subst e;omega
    simpa using this
   rw [if_pos heq,hn];exact ⟨j,rfl,fun p hp=>by cases hp⟩
  ·have hid:l[j].ID=id:=by omega
   have hs:cw l id=some l[j]:=by
    unfold cw
    rw [List.find?_eq_some_iff_getElem]
    refine ⟨by simpa using hid,j,hjl,rfl,fun k hk=>?_⟩
    have:=h2 k _ (List.getElem?_eq_getElem (by omega)) hk
    have:l[k].ID≠id:=by omega
    simpa using this
   rw [if_neg heq,hs];exact ⟨j,rfl,fun p hp=>by injection hp with hp;exact ⟨hjl,hp⟩⟩
 rw [cC (show ¬ (j:Int)<(l.length:Int) by omega),pC,bQ,pC,bQ]
 have hn:cw l id=none:=by
  unfold cw;rw [List.find?_eq_none]
  intro p hp
  obtain ⟨k,hk,rfl⟩:=List.getElem_of_mem hp
  have:=h2 k _ (List.getElem?_eq_getElem hk) (by omega)
  have:l[k].ID≠id:=by omega
  simpa using this
 rw [hn];exact ⟨j,rfl,fun p hp=>by cases hp⟩
theorem rV (l:List Zb) (id:Int) (h:Sorted l):cI l id=some (mN zProd (cw l id)):=by
 unfold cI
 obtain ⟨j,e,hj⟩:=Ab l id h
 rw [e,bQ]
 cases hf:cw l id with
 | none=>rfl
 | some p =>
  obtain ⟨hjl,rfl⟩:=hj p hf
  have hs:=h.small _ (List.getElem_mem hjl)
  simp only [Option.isSome_some,Bool.not_true,cA,bp hjl,bQ]
  unfold bJ bO
  rw [mB (by omega) (by omega),bQ,mB (by omega) (by omega),bQ];rfl
theorem MPs.sorted {l:List Zb} (h:MPs l):Sorted l:=by
 refine ⟨by have:=h.len;omega,?_,fun p hp=>?_⟩
 ·rw [List.pairwise_iff_getElem]
  intro i j hi hj hij
  have h1:=(h.all i _ (List.getElem?_eq_getElem hi)).id
  have h2:=(h.all j _ (List.getElem?_eq_getElem hj)).id
  omega
 obtain ⟨i,hi,rfl⟩:=List.getElem_of_mem hp
 have hm:=h.all i _ (List.getElem?_eq_getElem hi)
 have h1:=hm.proc.length_le;have h2:=hm.few;have h6:W5.length=5:=rfl
 omega
structure VAs (l:List Zc):Prop where
 len:l.length≤1000
 all:∀ a∈l,VA a
theorem MAs.vas {l:List Zc} (h:MAs l):VAs l:=⟨by have:=h.len;omega,fun a ha=>by obtain ⟨i,hi,rfl⟩:=List.getElem_of_mem ha;exact (h.all i _ (List.getElem?_eq_getElem hi)).va⟩
theorem rW {l:List Zc} (h:VAs l) {id:Int} {a:Zc} (ha:nu l id=some a):VA a∧a.ID=id∧a∈l:=by
 have hm:=List.mem_of_find?_eq_some ha
 exact ⟨h.all a hm,by have:=List.find?_some ha;simpa using this,hm⟩
def xN (a:Zc) (x y:ByteArray):Bool:=nL a.Parties x&&nL a.Parties y
theorem tA (a:Zc) (x y:ByteArray) (ha:VA a):cS a x y=some (xN a x y):=by
 have:=ha.ok.par.1
 unfold cS xN
 rw [oJ _ _ this,oJ _ _ this,bQ]
 cases nL a.Parties x <;> rfl
def mC (p:List Zb) (l:List Zc) (i:ByteArray) (c:Za):Bool:=match cw p c.Product,nu l c.Agreement with
 | some q,some a => !decide (q.Country=i)&&xN a q.Country i&&(gw a q.Code).isSome
 | _,_=>false
theorem wy (p:List Zb) (l:List Zc) (i:ByteArray) (c:Za) (hp:Sorted p) (hl:VAs l):bZ p l i c=some (mC p l i c):=by
 unfold bZ mC
 have:=hl.len
 rw [rV _ _ hp,bQ]
 cases cw p c.Product with
 | none=>rfl
 | some q =>
  rw [oe _ _ (by omega)]
  simp only [mN,Bool.not_true,cA,bQ]
  cases ha:nu l c.Agreement with
  | none=>rfl
  | some a =>
   have hv:=(rW hl ha).1
   rw [tA _ _ _ hv,pJ _ _ hv]
   by_cases hq:q.Country=i
   ·simp [hq,gd]
   cases h1:xN a q.Country i
   ·simp [hq,gd,h1]
   cases h2:gw a q.Code <;> simp [hq,gd,mN,h1,h2]
def qA (a:Zc) (id:Int) (e i:ByteArray) (b:Zc):Bool := !(b.ID == id)&&xN b e i&&lr Cl a.Rules b.Rules
def dl (l:List Zc) (id:Int) (e i:ByteArray):List Int:=match nu l id with
 | none=>[]
 | some a=>id::cond (a.Kind == 2) ((l.filter (qA a id e i)).map (·.ID)) []
theorem pR (P:Zc→Bool):∀ (l:List Zc) (acc:List Int),l.foldl (fun acc b=>cond (P b) (acc++[b.ID]) acc) acc=acc++(l.filter P).map (·.ID)
 | [],acc=>by simp
 | b::l,acc=>by
  rw [List.foldl_cons,pR P l,List.filter_cons]
  cases P b <;> simp
theorem sD (l:List Zc) (id:Int) (e i:ByteArray) (hl:VAs l):dD l id e i=some (dl l id e i):=by
 unfold dD dl
 have hlen:=hl.len
 rw [oe _ _ (by omega),bQ]
 cases ha:nu l id with
 | none=>rfl
 | some a =>
  have hv:=(rW hl ha).1
  simp only [mN,Bool.not_true,cA,bne]
  cases hk:(a.Kind == 2)
  ·rfl
  simp only [Bool.not_true,cA,cK]
  refine (ez (l:=l) (by omega) (fun i (a:List Int)=>(a,i)) (fun acc b=>cond (qA a id e i b) (acc++[b.ID]) acc) (fun a=>a) (fun k acc=>acc.length≤k+1) [id] (by simp) (fun k hk acc hacc=>⟨?_,?_⟩) (fun acc _=>by simp only [fY,cA])).1.trans ?_
  ·have hb:=hl.all _ (List.getElem_mem hk)
   simp only [ml hk,cK,bp hk,bQ,dr hk (show l.length≤4611686018427387904 by omega),qA,bne]
   rw [tA _ _ _ hb,rU _ _ hv.ok.len hv.ok.rules hv.rules]
   cases (l[k].ID == id)
   ·cases xN l[k] e i
    ·rfl
    cases lr Cl a.Rules l[k].Rules
    ·rfl
    simp only [Bool.not_false,gt,bQ,Bool.and_self,cK]
    rw [eM (by simp;omega) (by simp;omega)];rfl
   rfl
  ·cases qA a id e i l[k] <;> simp <;> omega
  rw [pR];rfl
def AscA (l:List Zc):Prop:=l.Pairwise fun a b=>a.ID<b.ID
theorem MAs.asc {l:List Zc} (h:MAs l):AscA l:=by
 unfold AscA;rw [List.pairwise_iff_getElem]
 intro i j hi hj hij
 have h1:=(h.all i _ (List.getElem?_eq_getElem hi)).id
 have h2:=(h.all j _ (List.getElem?_eq_getElem hj)).id
 omega
theorem uH (l:List Zc) (id:Int) (e i:ByteArray):(dl l id e i).length≤l.length+1:=by
 unfold dl
 cases nu l id with
 | none=>simp
 | some a=>cases h:(a.Kind == 2) <;> simp [h];exact List.length_filter_le _ _
theorem xO (x:Int):Y (gZ x) (fun s=>s∈C6):=by
 unfold gZ
 refine (B5 x 8 (by omega) (by omega)).bind fun r ⟨h1,h2⟩=>?_
 obtain ⟨j,hj⟩:∃ j:Nat,r=(j:Int):=⟨r.toNat,by omega⟩
 refine Y.idx hj (show j<8 by omega) (Y.ret ?_)
 have hj8:j<8:=by omega
 match j,hj8 with
 | 0,_=>exact .tail _ (.head _)
 | 1,_=>exact .tail _ (.head _)
 | 2,_=>exact .tail _ (.head _)
 | 3,_=>exact .head _
 | 4,_=>exact .tail _ (.tail _ (.head _))
 | 5,_=>exact .tail _ (.tail _ (.tail _ (.head _)))
 | 6,_=>exact .tail _ (.tail _ (.tail _ (.tail _ (.head _))))
 | 7,_=>exact .tail _ (.tail _ (.tail _ (.tail _ (.tail _ (.head _)))))
end SX
end Go.Proofs.YthbphcbhedmnoaaGreatDoor
set_option maxRecDepth 100000
set_option linter.unusedSectionVars false
namespace Go.Proofs.YthbphcbhedmnoaaGreatDoor
namespace SX
open Go
section
variable {α:Type} [DecidableEq α]
def dd:List α→List α
 | []=>[]
 | [x]=>[x]
 | x::y::l=>cond (decide (x=y)) (dd (y::l)) (x::dd (y::l))
theorem uI (x y:α):∀ l:List α,dd (l++[x,y])=cond (decide (x=y)) (dd (l++[x])) (dd (l++[x])++[y])
 | []=>by
  show dd [x,y]=_
  rw [dd]
  cases h:decide (x=y)
  ·rfl
  ·have:=of_decide_eq_true h;subst this;rfl
 | [a]=>by
  have ih:=uI x y []
  simp only [List.nil_append] at ih
  simp only [List.cons_append,List.nil_append]
  rw [show dd [a,x,y]=cond (decide (a=x)) (dd [x,y]) (a::dd [x,y]) from rfl,ih,show dd [a,x]=cond (decide (a=x)) (dd [x]) (a::dd [x]) from rfl]
  cases decide (x=y) <;> cases decide (a=x) <;> rfl
 | a::b::l=>by
  show dd (a::b::(l++[x,y]))=_
  have ih:=uI x y (b::l)
  simp only [List.cons_append] at ih
  rw [dd,ih]
  show _=cond _ (dd (a::b::(l++[x]))) (dd (a::b::(l++[x]))++[y])
  rw [dd]
  cases decide (x=y) <;> cases decide (a=b) <;> rfl
theorem xP:∀ {l:List α} {z:α},z∈dd l↔z∈l
 | [],z=>Iff.rfl
 | [x],z=>Iff.rfl
 | x::y::l,z=>by
  rw [dd]
  have ih:=xP (l:=y::l) (z:=z)
  cases h:decide (x=y)
  ·rw [cA,List.mem_cons,ih];simp
  have:=of_decide_eq_true h;subst this
  rw [cK,ih];simp
theorem Cn:∀ l:List α,(dd l).length≤l.length
 | []=>Nat.le_refl _
 | [x]=>Nat.le_refl _
 | x::y::l=>by
  rw [dd]
  have ih:=Cn (y::l)
  cases decide (x=y)
  ·simp only [cA,List.length_cons] at ih ⊢;omega
  simp only [cK,List.length_cons] at ih ⊢;omega
theorem uJ:∀ {l:List α},(∀ i,(h:i+1<l.length)→l[i]≠l[i+1])→dd l=l
 | [],_=>rfl
 | [x],_=>rfl
 | x::y::l,h=>by
  have h0:=h 0 (by simp)
  simp only [List.getElem_cons_zero,List.getElem_cons_succ,Nat.zero_add] at h0
  rw [dd,cC h0,cA,uJ (l:=y::l) fun i hi=>by have:=h (i+1) (by simpa using hi);simpa using this]
variable {lt:α→α→Bool}
def Strict (lt:α→α→Bool) (l:List α):Prop:=l.Pairwise fun a b=>lt a b=true
theorem tB (htot:∀ x y,lt x y=false→lt y x=false→x=y) (htr:∀ x y z,lt x y=true→lt y z=true→lt x z=true):∀ {l:List α},l.Pairwise (fun a b=>lt b a=false)→Strict lt (dd l)
 | [],_=>List.Pairwise.nil
 | [x],_=>List.pairwise_singleton _ _
 | x::y::l,h=>by
  obtain ⟨h1,h2⟩:=List.pairwise_cons.1 h
  have ih:=tB htot htr h2
  rw [dd]
  cases hxy:decide (x=y)
  ·refine List.pairwise_cons.2 ⟨fun z hz=>?_,ih⟩
   have hz:=xP.1 hz
   have hne:x≠y:=of_decide_eq_false hxy
   have hlt:lt x y=true:=by
    cases hl:lt x y
    ·exact absurd (htot x y hl (h1 y (by simp))) hne
    rfl
   rcases List.mem_cons.1 hz with rfl | hz
   ·exact hlt
   cases hyz:lt y z
   ·have:=(List.pairwise_cons.1 h2).1 z hz
    rw [← htot y z hyz this];exact hlt
   exact htr _ _ _ hlt hyz
  exact ih
def cj (l:List α) (c:α):Bool:=l.any fun x=>decide (x=c)
theorem oK {l:List α} {c:α}:cj l c=true↔c∈l:=by unfold cj;rw [List.any_eq_true];exact ⟨fun ⟨x,h1,h2⟩=>of_decide_eq_true h2 ▸ h1,fun h=>⟨c,h,det rfl⟩⟩
theorem Co {l:List α} {c:α}:cj l c=false↔c ∉ l:=by rw [← oK];simp
def sd (lt:α→α→Bool) (l:List α):List α:=dd (jv lt l)
theorem sd_mem (l:List α) (z:α):z∈sd lt l↔z∈l:=by unfold sd;rw [xP,jk.mem_iff]
theorem Cp (l:List α):(sd lt l).length≤l.length:=by unfold sd;have:=Cn (jv lt l);rw [lM] at this;exact this
structure Ord (lt:α→α→Bool):Prop where
 irr:∀ x,lt x x=false
 tr:∀ x y z,lt x y=true→lt y z=true→lt x z=true
 ntr:∀ x y z,lt x y=false→lt y z=false→lt x z=false
 tot:∀ x y,lt x y=false→lt y x=false→x=y
theorem Ac (o:Ord lt) (l:List α):Strict lt (sd lt l):=tB o.tot o.tr (jW o.tr o.ntr o.irr l)
end
theorem ordS:Ord kQ:=⟨ltS_irr,Ca,fun x y z h1 h2=>by
 rw [nl] at *;exact cC (List.not_lt.2 (List.le_trans (List.not_lt.1 (of_decide_eq_false h2)) (List.not_lt.1 (of_decide_eq_false h1)))),fun x y h1 h2=>by
 rw [nl] at h1 h2
 exact str_ext.2 (List.le_antisymm (List.not_lt.1 (of_decide_eq_false h2)) (List.not_lt.1 (of_decide_eq_false h1)))⟩
section
variable {α:Type} [DecidableEq α]
theorem yU {p:List α} {n:Nat} (h0:1≤n) (h:n<p.length):dd (p.take (n+1))=cond (decide (p[n-1]'(by omega)=p[n])) (dd (p.take n)) (dd (p.take n)++[p[n]]):=by
 obtain ⟨m,rfl⟩:∃ m,n=m+1:=⟨n - 1,by omega⟩
 have e1:p.take (m+1)=p.take m++[p[m]'(by omega)]:=by rw [List.take_add_one,List.getElem?_eq_getElem (by omega)];rfl
 have e3:p.take (m+1+1)=p.take (m+1)++[p[m+1]]:=by rw [List.take_add_one,List.getElem?_eq_getElem h];rfl
 have e2:p.take (m+1+1)=p.take m++[p[m]'(by omega),p[m+1]]:=by rw [e3,e1,List.append_assoc];rfl
 rw [e2,uI,e1];rfl
structure CInv (p:List α) (v:Nat) (l:List α) (k i:Nat):Prop where
 i1:1≤i
 le:v+i≤p.length
 len:l.length=p.length
 kk:k=(dd (p.take (v+i))).length
 klt:k+1≤v+i
 pre:l.take k=dd (p.take (v+i))
 suf:∀ j,v+i≤j+1→l[j]?=p[j]?
theorem CInv.step {p l:List α} {v k i:Nat} (c:CInv p v l k i) (h:v+i<p.length) (hv:1≤v):∃ x y,l[v+i]?=some x∧l[v+i - 1]?=some y∧(decide (x=y)=true→CInv p v l k (i+1))∧(decide (x=y)=false→k<l.length∧CInv p v (l.set k x) (k+1) (i+1)):=by
 have hx:=c.suf (v+i) (by omega)
 have hy:=c.suf (v+i - 1) (by omega)
 rw [List.getElem?_eq_getElem h] at hx
 rw [List.getElem?_eq_getElem (show v+i - 1<p.length by omega)] at hy
 have hd:=yU (p:=p) (n:=v+i) (by omega) h
 refine ⟨_,_,hx,hy,fun e=>?_,fun e=>?_⟩
 ·have e':decide (p[v+i - 1]'(by omega)=p[v+i])=true:=det (of_decide_eq_true e).symm
  rw [e',cK] at hd
  exact ⟨by omega,by omega,c.len,by rw [← Nat.add_assoc,hd];exact c.kk,by have:=c.klt;omega,by rw [← Nat.add_assoc,hd];exact c.pre,fun j hj=>c.suf j (by omega)⟩
 have e':decide (p[v+i - 1]'(by omega)=p[v+i])=false:=cC (fun q=>of_decide_eq_false e q.symm)
 rw [e',cA] at hd
 have hk:k<l.length:=by have:=c.klt;have:=c.len;omega
 refine ⟨hk,by omega,by omega,by rw [List.length_set];exact c.len,by rw [← Nat.add_assoc,hd,List.length_append,← c.kk];rfl,by have:=c.klt;omega,?_,fun j hj=>?_⟩
 ·rw [← Nat.add_assoc,hd,← c.pre]
  rw [List.take_add_one,List.getElem?_set]
  simp only [if_true,hk]
  rw [List.take_set_of_le (Nat.le_refl k)];rfl
 rw [List.getElem?_set,if_neg (by have:=c.klt;omega)];exact c.suf j (by omega)
theorem CInv.start {p:List α} {v:Nat} (hv:1≤v) (h:v<p.length) (he:p[v]=p[v-1]'(by omega)) (hb:∀ j,1≤j→(hj:j<v)→p[j]'(by omega)≠p[j-1]'(by omega)):CInv p v p v 1:=by
 have e1:dd (p.take v)=p.take v:=uJ fun i hi=>by
  rw [List.length_take] at hi
  rw [List.getElem_take,List.getElem_take]
  have:=hb (i+1) (by omega) (by omega)
  exact fun e=>this e.symm
 have hd:=yU (p:=p) (n:=v) hv h
 rw [det he.symm,cK,e1] at hd
 exact ⟨Nat.le_refl _,by omega,rfl,by rw [hd,List.length_take];omega,by omega,by rw [hd],fun j _=>rfl⟩
end
end SX
end Go.Proofs.YthbphcbhedmnoaaGreatDoor
namespace Go.Proofs.YthbphcbhedmnoaaGreatDoor
namespace SX
open Go
theorem uK {α:Type} (l:List α) (n:Nat):idx l (n:Int)=l[n]?:=by unfold idx;rw [if_pos (by omega)];simp
theorem pT {α:Type} [DecidableEq α] (E:α→α→Bool) (hE:∀ x y,E x y=decide (x=y)) (z:α) (p:List α) (hp:p.length≤1000000000) :
    cond (decide (((p.length:Nat):Int)<2)) (some p) (Option.bind (bf (S:=Int) (T:=(Unit)⊕(List α)) (fun v2=>cond (decide (v2<((p.length:Nat):Int))) (Option.bind (idx p v2) (fun m7=>Option.bind (idx p (IntKind.i64.wrap (v2 - 1))) (fun m8=>cond (E m7 m8) (Option.bind (sub p v2 (p.length:Int)) (fun _=>Option.bind (bf (S:=(List α)×Int×Int) (T:=((List α)×Int)) (fun (l12,v13,v14)=>cond (decide (v14<((p.length - v2.toNat:Nat):Int))) (Option.bind (Option.bind (lv v14) (fun _=>Option.bind (idx l12 (v2+v14)) (fun m26=>Option.bind (lv (IntKind.i64.wrap (v14 - 1))) (fun _=>Option.bind (idx l12 (v2+(IntKind.i64.wrap (v14 - 1)))) (fun m28=>cond (!(E m26 m28)) (Option.bind (lv v14) (fun _=>Option.bind (idx l12 (v2+v14)) (fun m31=>Option.bind (idx l12 v13) (fun _=>some ((l12.set v13.toNat m31),(IntKind.i64.wrap (v13+1))))))) (some (l12,v13))))))) (fun (l22,v23)=>some (.inl (l22,v23,(IntKind.i64.wrap (v14+1)))))) (some (.inr (l12,v13)))) FUEL (p,v2,1)) (fun (l16,v17)=>Option.bind (sub l16 v17 (l16.length:Int)) (fun _=>Option.bind (sub (List.take v17.toNat l16++List.replicate (p.length - v17.toNat) z) 0 v17) (fun l35=>some (.inr (.inr l35))))))) (some (.inl (IntKind.i64.wrap (v2+1))))))) (some (.inr (.inl ())))) FUEL 1) (fun q=>match q with | .inl _=>some p | .inr e=>some e))=some (dd p):=by
  by_cases h2:p.length<2
  · rw [det (show ((p.length:Nat):Int)<2 by omega)]
    match p,h2 with
    | [],_=>rfl
    | [x],_=>rfl
  rw [cC (by omega),cA]
  have hl:Y (bf (S:=Int) (T:=(Unit)⊕(List α)) (fun v2=>cond (decide (v2<((p.length:Nat):Int))) (Option.bind (idx p v2) (fun m7=>Option.bind (idx p (IntKind.i64.wrap (v2 - 1))) (fun m8=>cond (E m7 m8) (Option.bind (sub p v2 (p.length:Int)) (fun _=>Option.bind (bf (S:=(List α)×Int×Int) (T:=((List α)×Int)) (fun (l12,v13,v14)=>cond (decide (v14<((p.length - v2.toNat:Nat):Int))) (Option.bind (Option.bind (lv v14) (fun _=>Option.bind (idx l12 (v2+v14)) (fun m26=>Option.bind (lv (IntKind.i64.wrap (v14 - 1))) (fun _=>Option.bind (idx l12 (v2+(IntKind.i64.wrap (v14 - 1)))) (fun m28=>cond (!(E m26 m28)) (Option.bind (lv v14) (fun _=>Option.bind (idx l12 (v2+v14)) (fun m31=>Option.bind (idx l12 v13) (fun _=>some ((l12.set v13.toNat m31),(IntKind.i64.wrap (v13+1))))))) (some (l12,v13))))))) (fun (l22,v23)=>some (.inl (l22,v23,(IntKind.i64.wrap (v14+1)))))) (some (.inr (l12,v13)))) FUEL (p,v2,1)) (fun (l16,v17)=>Option.bind (sub l16 v17 (l16.length:Int)) (fun _=>Option.bind (sub (List.take v17.toNat l16++List.replicate (p.length - v17.toNat) z) 0 v17) (fun l35=>some (.inr (.inr l35))))))) (some (.inl (IntKind.i64.wrap (v2+1))))))) (some (.inr (.inl ())))) FUEL 1) (fun t=>match t with | .inl _=>dd p=p | .inr e=>e=dd p):=by
    refine Y.loop (fun s:Int=>∃ v:Nat,s=(v:Int)∧1≤v∧v≤p.length∧∀ j,1≤j→(hj:j<v)→(hp:j<p.length)→p[j]≠p[j-1]'(by omega)) (fun s=>(p.length - s).toNat) ⟨1,rfl,by omega,by omega,fun j h1 h2=>by omega⟩ (by omega) fun s hs=>?_
    obtain ⟨v,rfl,h1,h3,h4⟩:=hs
    refine Y.cond (fun hc=>?_) (fun hc=>Y.ret (uJ fun i hi=>?_))
    rotate_left
    · have hc:=of_decide_eq_false hc
      have:=h4 (i+1) (by omega) (by omega) hi
      exact fun e=>this e.symm
    have hv:v<p.length:=by have:=of_decide_eq_true hc;omega
    refine Y.idx rfl hv ?_
    refine Y.idx (n:=v - 1) (by rw [cU (by omega) (by omega)];omega) (by omega) ?_
    rw [hE]
    refine Y.cond (fun he=>?_) (fun he=>Y.ret ⟨⟨v+1,?_,by omega,by omega,fun j g1 g2 g3=>?_⟩,?_⟩)
    · rw [us (Nat.le_of_lt hv) (Nat.le_refl _),bQ]
      have he:=of_decide_eq_true he
      have c0:=CInv.start h1 hv he fun j g1 g2=>h4 j g1 g2 (by omega)
      refine Y.bind (P:=fun t:List α×Int=>∃ k:Nat,t.2=(k:Int)∧k≤p.length∧t.1.length=p.length∧t.1.take k=dd p) ?_ fun t ⟨k,t1,t2,t3,t4⟩=>?_
      · refine Y.loop (fun s:List α×Int×Int=>∃ k i:Nat,s.2.1=(k:Int)∧s.2.2=(i:Int)∧CInv p v s.1 k i) (fun s=>(p.length - v - s.2.2).toNat) ⟨v,1,rfl,rfl,c0⟩ (by dsimp only;omega) fun s hs=>?_
        obtain ⟨l,a,b⟩:=s
        obtain ⟨k,i,rfl,rfl,c⟩:=hs
        dsimp only at c ⊢
        have ci:=c.i1;have cl:=c.le;have ck:=c.klt;have cn:=c.len
        refine Y.cond (fun hc=>?_) (fun hc=>Y.ret ⟨k,rfl,by omega,c.len,?_⟩)
        rotate_left
        · have hc:=of_decide_eq_false hc
          have e:v+i=p.length:=by rw [Int.toNat_natCast] at hc;omega
          have:=c.pre
          rw [e,List.take_length] at this;exact this
        have hlt:v+i<p.length:=by have:=of_decide_eq_true hc;rw [Int.toNat_natCast] at this;omega
        obtain ⟨x,y,hx,hy,s1,s2⟩:=c.step hlt h1
        refine Y.bind (P:=fun t:List α×Int=>∃ k':Nat,t.2=(k':Int)∧CInv p v t.1 k' (i+1)) ?_ fun t ⟨k',t1,t2⟩=>Y.ret ⟨⟨k',i+1,t1,?_,t2⟩,?_⟩
        · refine Y.eq (mA i) ?_
          rw [show (v:Int)+(i:Int)=((v+i:Nat):Int) by omega]
          refine Y.eq (by rw [uK];exact hx) ?_
          rw [cU (r:=(i:Int) - 1) (by omega) (by omega),show (i:Int) - 1=((i - 1:Nat):Int) by omega]
          refine Y.eq (mA (i - 1)) ?_
          rw [show (v:Int)+((i - 1:Nat):Int)=((v+i - 1:Nat):Int) by omega]
          refine Y.eq (by rw [uK];exact hy) ?_
          rw [hE]
          refine Y.cond (fun hne=>?_) (fun hne=>Y.ret ⟨k,rfl,s1 (by simpa using hne)⟩)
          obtain ⟨hk,c2⟩:=s2 (by simpa using hne)
          refine Y.eq (mA i) (Y.eq (by rw [uK];exact hx) (Y.idx rfl hk (Y.ret ⟨k+1,?_,c2⟩)))
          show IntKind.i64.wrap ((k:Int)+1)=_;rw [cU (by omega) (by omega)];omega
        · show IntKind.i64.wrap ((i:Int)+1)=_;rw [cU (by omega) (by omega)];omega
        show ((p.length:Int) - v - IntKind.i64.wrap ((i:Int)+1)).toNat<((p.length:Int) - v - (i:Int)).toNat;rw [cU (by omega) (by omega)];omega
      obtain ⟨l,b⟩:=t
      dsimp only at t1 t3 t4 ⊢
      subst t1
      have e1:sub l (k:Int) (l.length:Int)=some ((l.take l.length).drop k):=us (by omega) (Nat.le_refl _)
      rw [e1,bQ,Int.toNat_natCast]
      have e2:sub (List.take k l++List.replicate (p.length - k) z) 0 (k:Int)=some (((List.take k l++List.replicate (p.length - k) z).take k).drop 0):=us (a:=0) (by omega) (by simp;omega)
      rw [e2,bQ]
      refine Y.ret ?_
      show ((List.take k l++List.replicate (p.length - k) z).take k).drop 0=dd p
      rw [List.drop_zero,List.take_append_of_le_length (by rw [List.length_take];omega),List.take_take,Nat.min_self,t4]
    · show IntKind.i64.wrap ((v:Int)+1)=_;rw [cU (by omega) (by omega)];omega
    · rcases Nat.lt_or_ge j v with h | h
      · exact h4 j g1 h g3
      have e:j=v:=by omega
      subst e;exact of_decide_eq_false he
    show ((p.length:Int) - IntKind.i64.wrap ((v:Int)+1)).toNat<((p.length:Int) - (v:Int)).toNat;rw [cU (by omega) (by omega)];omega
  obtain ⟨t,e,ht⟩:=hl
  rw [e]
  cases t with
  | inl u=>dsimp only at ht;rw [bQ,ht]
  | inr u=>dsimp only at ht;rw [bQ,ht]
theorem Cq (p:List ByteArray) (hp:p.length≤1000000000):da p=some (dd p):=by
 refine Eq.trans ?_ (pT (fun x y=>decide (x=y)) (fun _ _=>rfl) ByteArray.empty p hp)
 kernel_rfl
theorem eqb_dec (x y:Za):Za.eqb x y=decide (x=y):=by
 cases h:Za.eqb x y
 ·exact (cC fun e=>by rw [Za.eqb_iff.2 e] at h;cases h).symm
 exact (det (Za.eqb_iff.1 h)).symm
theorem Cr (p:List Za) (hp:p.length≤1000000000):bq p=some (dd p):=by
 refine Eq.trans ?_ (pT Za.eqb eqb_dec ⟨0,0⟩ p hp)
 kernel_rfl
def og (a b:List ByteArray):List ByteArray:=sd kQ (a++b)
theorem concat2 (a b:List ByteArray) (h:a.length+b.length≤1000000):cu [a,b]=some (a++b):=by
 unfold cu dI
 refine (lE (l:=[a,b]) (by simp) (fun i (s:Nat)=>((s:Int),i)) (fun _ x s=>(.inl (s+x.length):Nat⊕Empty)) (fun (s:Nat)=>(s:Int)) noE (fun k s=>s≤1000000∧s=([a,b].take k).flatten.length) 0 ⟨by omega,rfl⟩ (fun k hk s hs=>⟨?_,fun s' h'=>?_⟩) (fun s _=>by simp only [fY,cA])).trans ?_
 ·have hb:s+([a,b][k]).length≤1000000:=by
   obtain ⟨_,e⟩:=hs
   match k,hk with
   | 0,_=>simp at e;subst e;simp;omega
   | 1,_=>simp at e;subst e;simp;omega
  simp only [ml hk,cK,bp hk,bQ,dr hk (show [a,b].length≤4611686018427387904 by simp),zU]
  rw [cU (by omega) (by omega),cC (by omega)]
  simp only [cA,Int.natCast_add]
 ·injection h' with h'
  obtain ⟨h1,h2⟩:=hs
  subst h'
  match k,hk with
  | 0,_=>simp at h2 ⊢;subst h2;simp;omega
  | 1,_=>simp at h2 ⊢;subst h2;omega
 show Option.bind (Option.bind (zS 16 ((0+a.length+b.length:Nat):Int)) _) _=_
 rw [xB (by omega) (by omega),bQ,bQ]
 refine (ez (l:=[a,b]) (by simp) (fun i (s:List ByteArray)=>(s,i)) (fun s x=>s++x) (fun s=>s) (fun k s=>s=([a,b].take k).flatten) [] rfl (fun k hk s hs=>⟨?_,?_⟩) (fun s _=>by simp only [fY,cA])).1.trans ?_
 ·have hb:s.length+([a,b][k]).length≤1000000:=by
   match k,hk with
   | 0,_=>simp at hs;subst hs;simp;omega
   | 1,_=>simp at hs;subst hs;simp;omega
  simp only [ml hk,cK,bp hk,bQ,dr hk (show [a,b].length≤4611686018427387904 by simp)]
  rw [eM (by omega) (by omega)];rfl
 ·match k,hk with
  | 0,_=>simp at hs;subst hs;simp
  | 1,_=>simp at hs;subst hs;simp
 simp
theorem xQ (a b:List ByteArray) (h:a.length+b.length≤1000000):iC a b=some (og a b):=by
 unfold iC
 rw [concat2 a b h,bQ]
 show Option.bind (some (jv kQ (a++b))) _=_
 rw [bQ,Cq _ (by rw [lM];simp;omega)];rfl
def U64 (a:Int):Prop:=0≤a∧a<18446744073709551616
theorem wu (a:Int):IntKind.u64.wrap a=a % 18446744073709551616:=rfl
theorem gi {a:Int} (h:U64 a):IntKind.u64.wrap a=a:=by rw [wu];unfold U64 at h;omega
theorem bv64 {a:Int} (h:U64 a):(BitVec.ofInt 64 a).toNat=a.toNat:=by
 rw [BitVec.toNat_ofInt];unfold U64 at h;omega
theorem iand_eq {a b:Int} (ha:U64 a) (hb:U64 b):fm .u64 a b=((a.toNat &&& b.toNat:Nat):Int):=by
 have hlt:a.toNat &&& b.toNat<18446744073709551616:=Nat.lt_of_le_of_lt Nat.and_le_left (by unfold U64 at ha;omega)
 have e:fm .u64 a b=IntKind.u64.wrap (((BitVec.ofInt 64 a &&& BitVec.ofInt 64 b).toNat:Nat):Int):=rfl
 rw [e,BitVec.toNat_and,bv64 ha,bv64 hb,gi]
 exact ⟨by omega,by omega⟩
theorem ior_eq {a b:Int} (ha:U64 a) (hb:U64 b):qo .u64 a b=((a.toNat ||| b.toNat:Nat):Int):=by
 have hlt:a.toNat ||| b.toNat<2 ^ 64:=Nat.or_lt_two_pow (by unfold U64 at ha;omega) (by unfold U64 at hb;omega)
 have e:qo .u64 a b=IntKind.u64.wrap (((BitVec.ofInt 64 a ||| BitVec.ofInt 64 b).toNat:Nat):Int):=rfl
 rw [e,BitVec.toNat_or,bv64 ha,bv64 hb,gi]
 exact ⟨by omega,by omega⟩
theorem nv {a:Int} (h:U64 a):fm .u64 a 4294967295=a % 4294967296:=by
 rw [iand_eq h ⟨by omega,by omega⟩]
 have:a.toNat &&& (4294967295:Int).toNat=a.toNat % 4294967296:=Nat.and_two_pow_sub_one_eq_mod (n:=32) a.toNat
 rw [this];unfold U64 at h;omega
theorem yV {a:Int}:cD .u64 a 32=a / 4294967296:=Int.fdiv_eq_ediv_of_nonneg a (show (0:Int)≤4294967296 by omega)
theorem mul64 {a b:Int} (ha:U64 a) (hb:U64 b):∃ h l,gb a b=some (h,l)∧U64 h∧U64 l∧h*18446744073709551616+l=a*b:=by
 unfold gb lb
 rw [nv ha,nv hb]
 simp only [yV]
 unfold U64 at ha hb
 have ea:a=4294967296*(a / 4294967296)+a % 4294967296:=by omega
 have eb:b=4294967296*(b / 4294967296)+b % 4294967296:=by omega
 have h1:0≤a / 4294967296∧a / 4294967296<4294967296:=by omega
 have h2:0≤a % 4294967296∧a % 4294967296<4294967296:=by omega
 have h3:0≤b / 4294967296∧b / 4294967296<4294967296:=by omega
 have h4:0≤b % 4294967296∧b % 4294967296<4294967296:=by omega
 generalize a / 4294967296=x1 at *
 generalize a % 4294967296=x0 at *
 generalize b / 4294967296=y1 at *
 generalize b % 4294967296=y0 at *
 subst ea eb
 have p00:0≤x0*y0∧x0*y0≤4294967295*4294967295:=⟨Int.mul_nonneg h2.1 h4.1,Int.mul_le_mul (by omega) (by omega) h4.1 (by omega)⟩
 have p01:0≤x0*y1∧x0*y1≤4294967295*4294967295:=⟨Int.mul_nonneg h2.1 h3.1,Int.mul_le_mul (by omega) (by omega) h3.1 (by omega)⟩
 have p10:0≤x1*y0∧x1*y0≤4294967295*4294967295:=⟨Int.mul_nonneg h1.1 h4.1,Int.mul_le_mul (by omega) (by omega) h4.1 (by omega)⟩
 have p11:0≤x1*y1∧x1*y1≤4294967295*4294967295:=⟨Int.mul_nonneg h1.1 h3.1,Int.mul_le_mul (by omega) (by omega) h3.1 (by omega)⟩
 have e:(4294967296*x1+x0)*(4294967296*y1+y0)=18446744073709551616*(x1*y1)+4294967296*(x1*y0)+4294967296*(x0*y1)+x0*y0:=by
  rw [Int.add_mul,Int.mul_add,Int.mul_add]
  have t1:4294967296*x1*(4294967296*y1)=18446744073709551616*(x1*y1):=by
   rw [Int.mul_assoc,← Int.mul_assoc x1,Int.mul_comm x1 4294967296,Int.mul_assoc 4294967296 x1,← Int.mul_assoc];rfl
  have t2:4294967296*x1*y0=4294967296*(x1*y0):=Int.mul_assoc _ _ _
  have t3:x0*(4294967296*y1)=4294967296*(x0*y1):=by rw [← Int.mul_assoc,Int.mul_comm x0,Int.mul_assoc]
  rw [t1,t2,t3];omega
 rw [e]
 generalize x0*y0=p at *
 generalize x0*y1=q at *
 generalize x1*y0=r at *
 generalize x1*y1=s at *
 refine ⟨_,_,rfl,?_,?_,?_⟩
 all_goals simp only [wu,U64]
 all_goals first | omega | (rw [nv (by unfold U64;omega)];omega)
def rv (w:Zu):Int:=w.Hi*18446744073709551616+w.Lo
theorem rX {a n:Int} (h:n.toNat≤64):cD .u64 a n=a / 2 ^ n.toNat:=by
 have e:cD .u64 a n=a.fdiv (2 ^ min n.toNat 64):=rfl
 rw [e,Nat.min_eq_left h]
 exact Int.fdiv_eq_ediv_of_nonneg a (Int.le_of_lt (Int.pow_pos (by omega)))

structure KnInv (u u1 y1 y0 q rh:Int):Prop where
 eq:u=q*y1+rh
 r0:0≤rh
 r1:rh<4294967296
 q0:0≤q
 q1:q≤4294967297
 up:u*4294967296+u1<q*(y1*4294967296+y0)+(y1*4294967296+y0)
section
variable {u u1 y1 y0 q rh:Int} (hu:0≤u) (huy:u<y1*4294967296+y0) (h1:0≤u1) (h1':u1<4294967296) (hy:2147483648≤y1) (hy':y1<4294967296) (hz:0≤y0) (hz':y0<4294967296)
include hu huy h1 h1' hy hy' hz hz'
theorem oL:KnInv u u1 y1 y0 (u / y1) (u % y1):=by
 have hq0:0≤u / y1:=Int.ediv_nonneg hu (by omega)
 have hr0:=Int.emod_nonneg u (show y1≠0 by omega)
 have hr1:=Int.emod_lt_of_pos u (show 0<y1 by omega)
 have he:=Int.emod_add_mul_ediv u y1
 rw [Int.mul_comm] at he
 have hz2:0≤u / y1*y0:=Int.mul_nonneg hq0 hz
 refine ⟨by omega,hr0,by omega,hq0,?_,?_⟩
 ·apply Int.le_of_lt_add_one
  apply Int.ediv_lt_of_lt_mul (by omega)
  omega
 rw [Int.mul_add,← Int.mul_assoc];omega
theorem qB (i:KnInv u u1 y1 y0 q rh) (h:4294967296≤q∨4294967296*rh+u1<q*y0):u*4294967296+u1<q*(y1*4294967296+y0)∧1≤q:=by
 have e:=i.eq
 have hlt:u*4294967296+u1<q*(y1*4294967296+y0):=by
  rcases h with h | h
  ·have:4294967296*(y1*4294967296+y0)≤q*(y1*4294967296+y0):=Int.mul_le_mul_of_nonneg_right h (by omega)
   omega
  rw [Int.mul_add,← Int.mul_assoc];omega
 refine ⟨hlt,?_⟩
 have hq:=i.q0
 by_cases hq0:q=0
 ·subst hq0;rw [Int.zero_mul] at hlt;omega
 omega
theorem yW (i:KnInv u u1 y1 y0 q rh) (h:4294967296≤q∨4294967296*rh+u1<q*y0) (h2:rh+y1<4294967296):KnInv u u1 y1 y0 (q - 1) (rh+y1):=by
 obtain ⟨hlt,hq⟩:=qB hu huy h1 h1' hy hy' hz hz' i h
 have:=i.eq;have:=i.r0;have:=i.q1
 refine ⟨by rw [Int.sub_mul];omega,by omega,h2,by omega,by omega,?_⟩
 rw [Int.sub_mul];omega
theorem yX (i:KnInv u u1 y1 y0 q rh) (h:4294967296≤q∨4294967296*rh+u1<q*y0) (h2:4294967296≤rh+y1):(q - 1)*(y1*4294967296+y0)≤u*4294967296+u1∧u*4294967296+u1<(q - 1)*(y1*4294967296+y0)+(y1*4294967296+y0):=by
 obtain ⟨hlt,hq⟩:=qB hu huy h1 h1' hy hy' hz hz' i h
 have e:=i.eq;have:=i.r0;have hq1:=i.q1
 refine ⟨?_,by rw [Int.sub_mul];omega⟩
 have hz2:(q - 1)*y0≤4294967296*4294967295:=Int.mul_le_mul (by omega) (by omega) hz (by omega)
 rw [Int.mul_add,← Int.mul_assoc]
 rw [Int.sub_mul q 1 y1]
 omega
omit hu huy h1 h1' hy hy' hz hz' in
theorem wz (i:KnInv u u1 y1 y0 q rh) (h:¬ (4294967296≤q∨4294967296*rh+u1<q*y0)):q*(y1*4294967296+y0)≤u*4294967296+u1:=by
 have e:=i.eq
 rw [Int.mul_add,← Int.mul_assoc];omega
end
section
variable {u u1 y1 y0:Int} (hu:0≤u) (huy:u<y1*4294967296+y0) (h1:0≤u1) (h1':u1<4294967296) (hy:2147483648≤y1) (hy':y1<4294967296) (hz:0≤y0) (hz':y0<4294967296)
include hu huy h1 h1' hy hy' hz hz'
omit hu huy hy hy' in
theorem yY {q rh:Int} (i:KnInv u u1 y1 y0 q rh):((decide (4294967296≤q))||(decide ((IntKind.u64.wrap ((IntKind.u64.wrap (4294967296*rh))+u1))<(IntKind.u64.wrap (q*y0)))))=decide (4294967296≤q∨4294967296*rh+u1<q*y0):=by
 have:=i.r0;have:=i.r1;have:=i.q0
 rw [gi (a:=4294967296*rh) ⟨by omega,by omega⟩,gi (a:=4294967296*rh+u1) ⟨by omega,by omega⟩]
 by_cases hq:4294967296≤q
 ·rw [det hq,det (Or.inl hq)];rfl
 have hp:q*y0≤4294967295*4294967295:=Int.mul_le_mul (by omega) (by omega) hz (by omega)
 have hp0:0≤q*y0:=Int.mul_nonneg (by omega) hz
 rw [gi (a:=q*y0) ⟨hp0,by omega⟩,cC hq,Bool.false_or]
 congr 1
 exact propext ⟨.inr,fun h=>h.resolve_left hq⟩
omit hy hy' hz hz' in
theorem uM {q:Int} (h0:0≤q) (h2:q*(y1*4294967296+y0)≤u*4294967296+u1):q<4294967296:=by
 have:q*(y1*4294967296+y0)<4294967296*(y1*4294967296+y0):=by omega
 exact Int.lt_of_mul_lt_mul_right this (by omega)
def KQ (u u1 y1 y0 q:Int):Prop:=0≤q∧q<4294967296∧q*(y1*4294967296+y0)≤u*4294967296+u1∧u*4294967296+u1<q*(y1*4294967296+y0)+(y1*4294967296+y0)
theorem Cs:∃ q,bf (S:=Int×Int) (T:=(Int)) (fun (v18,v19)=>cond ((decide (4294967296≤v18))||(decide ((IntKind.u64.wrap ((IntKind.u64.wrap (4294967296*v19))+u1))<(IntKind.u64.wrap (v18*y0))))) (cond (decide (4294967296≤(IntKind.u64.wrap (v19+y1)))) (some (.inr (IntKind.u64.wrap (v18 - 1)))) (some (.inl ((IntKind.u64.wrap (v18 - 1)),(IntKind.u64.wrap (v19+y1)))))) (some (.inr v18))) FUEL (u / y1,u % y1)=some q∧KQ u u1 y1 y0 q:=by
 refine o8 (fun s:Int×Int=>KnInv u u1 y1 y0 s.1 s.2) (fun s=>s.1.toNat) (KQ u u1 y1 y0) ?_ FUEL _ (oL hu huy h1 h1' hy hy' hz hz') ?_
 ·rintro ⟨q,rh⟩ i
  dsimp only at i ⊢
  rw [yY h1 h1' hz hz' i]
  have i0:=i.r0;have i1:=i.r1;have i2:=i.q0;have i3:=i.q1
  by_cases h:4294967296≤q∨4294967296*rh+u1<q*y0
  ·rw [det h]
   obtain ⟨_,hq1⟩:=qB hu huy h1 h1' hy hy' hz hz' i h
   rw [gi (a:=rh+y1) ⟨by omega,by omega⟩,gi (a:=q - 1) ⟨by omega,by omega⟩]
   by_cases h2:4294967296≤rh+y1
   ·rw [det h2];right
    obtain ⟨e1,e2⟩:=yX hu huy h1 h1' hy hy' hz hz' i h h2
    exact ⟨_,rfl,by omega,uM hu huy h1 h1' (by omega) e1,e1,e2⟩
   rw [cC h2];left
   exact ⟨_,rfl,yW hu huy h1 h1' hy hy' hz hz' i h (by omega),by dsimp only;omega⟩
  rw [cC h];right
  have e1:=wz i h
  exact ⟨_,rfl,i2,uM hu huy h1 h1' i2 e1,e1,i.up⟩
 have:=(oL hu huy h1 h1' hy hy' hz hz').q1
 exact lD (by dsimp only;omega)
theorem Ct:∃ q,bf (S:=Int×Int) (T:=(Int)) (fun (v28,v29)=>cond ((decide (4294967296≤v29))||(decide ((IntKind.u64.wrap ((IntKind.u64.wrap (4294967296*v28))+u1))<(IntKind.u64.wrap (v29*y0))))) (cond (decide (4294967296≤(IntKind.u64.wrap (v28+y1)))) (some (.inr (IntKind.u64.wrap (v29 - 1)))) (some (.inl ((IntKind.u64.wrap (v28+y1)),(IntKind.u64.wrap (v29 - 1)))))) (some (.inr v29))) FUEL (u % y1,u / y1)=some q∧KQ u u1 y1 y0 q:=by
 refine o8 (fun s:Int×Int=>KnInv u u1 y1 y0 s.2 s.1) (fun s=>s.2.toNat) (KQ u u1 y1 y0) ?_ FUEL _ (oL hu huy h1 h1' hy hy' hz hz') ?_
 ·rintro ⟨rh,q⟩ i
  dsimp only at i ⊢
  rw [yY h1 h1' hz hz' i]
  have i0:=i.r0;have i1:=i.r1;have i2:=i.q0;have i3:=i.q1
  by_cases h:4294967296≤q∨4294967296*rh+u1<q*y0
  ·rw [det h]
   obtain ⟨_,hq1⟩:=qB hu huy h1 h1' hy hy' hz hz' i h
   rw [gi (a:=rh+y1) ⟨by omega,by omega⟩,gi (a:=q - 1) ⟨by omega,by omega⟩]
   by_cases h2:4294967296≤rh+y1
   ·rw [det h2];right
    obtain ⟨e1,e2⟩:=yX hu huy h1 h1' hy hy' hz hz' i h h2
    exact ⟨_,rfl,by omega,uM hu huy h1 h1' (by omega) e1,e1,e2⟩
   rw [cC h2];left
   exact ⟨_,rfl,yW hu huy h1 h1' hy hy' hz hz' i h (by omega),by dsimp only;omega⟩
  rw [cC h];right
  have e1:=wz i h
  exact ⟨_,rfl,i2,uM hu huy h1 h1' i2 e1,e1,i.up⟩
 have:=(oL hu huy h1 h1' hy hy' hz hz').q1
 exact lD (by dsimp only;omega)
end
theorem Ad {a v:Int} {k n:Nat} (h:v=a / 2 ^ k) (hn:1≤n) (l:2 ^ (n - 1)≤v) (g:v<2 ^ n):2 ^ (k+n - 1)≤a∧a<2 ^ (k+n):=by
 have hp:(0:Int)<2 ^ k:=Int.pow_pos (by omega)
 have e1:=Int.ediv_mul_le a (Int.ne_of_gt hp)
 have e2:=Int.lt_ediv_add_one_mul_self a hp
 rw [← h] at e1 e2
 constructor
 ·rw [show k+n - 1=(n - 1)+k by omega,Int.pow_add]
  exact Int.le_trans (Int.mul_le_mul_of_nonneg_right l (Int.le_of_lt hp)) e1
 rw [show k+n=n+k by omega,Int.pow_add]
 exact Int.lt_of_lt_of_le e2 (Int.mul_le_mul_of_nonneg_right (by omega) (Int.le_of_lt hp))
def xR:ByteArray:=⟨#[0,1,2,2,3,3,3,3,4,4,4,4,4,4,4,4,5,5,5,5,5,5,5,5,5,5,5,5,5,5,5,5,6,6,6,6,6,6,6,6,6,6,6,6,6,6,6,6,6,6,6,6,6,6,6,6,6,6,6,6,6,6,6,6,7,7,7,7,7,7,7,7,7,7,7,7,7,7,7,7,7,7,7,7,7,7,7,7,7,7,7,7,7,7,7,7,7,7,7,7,7,7,7,7,7,7,7,7,7,7,7,7,7,7,7,7,7,7,7,7,7,7,7,7,7,7,7,7,8,8,8,8,8,8,8,8,8,8,8,8,8,8,8,8,8,8,8,8,8,8,8,8,8,8,8,8,8,8,8,8,8,8,8,8,8,8,8,8,8,8,8,8,8,8,8,8,8,8,8,8,8,8,8,8,8,8,8,8,8,8,8,8,8,8,8,8,8,8,8,8,8,8,8,8,8,8,8,8,8,8,8,8,8,8,8,8,8,8,8,8,8,8,8,8,8,8,8,8,8,8,8,8,8,8,8,8,8,8,8,8,8,8,8,8,8,8,8,8,8,8,8,8,8,8,8,8]⟩
theorem xS:∀ v:Fin 256,(match idx xR.data.toList (v.val:Int) with | some c=>decide (1≤v.val→1≤c.toNat∧2 ^ (c.toNat - 1)≤v.val)&&decide (v.val<2 ^ c.toNat)&&decide (c.toNat≤8) | none=>false)=true:=by decide
theorem Ae {v:Int} (h0:0≤v) (h1:v<256):∃ c,idx xR.data.toList v=some c∧(1≤v→1≤c.toNat∧2 ^ (c.toNat - 1)≤v)∧v<2 ^ c.toNat∧c.toNat≤8:=by
 obtain ⟨k,rfl⟩:∃ k:Nat,v=(k:Int):=⟨v.toNat,by omega⟩
 have:=xS ⟨k,by omega⟩
 split at this
 ·rename_i c hc
  simp only [Bool.and_eq_true,decide_eq_true_eq] at this
  obtain ⟨⟨a,b⟩,d⟩:=this
  refine ⟨c,hc,fun h=>⟨(a (by omega)).1,?_⟩,?_,d⟩
  ·have:=(a (by omega)).2;exact_mod_cast this
  exact_mod_cast b
 cases this
theorem len64 {a:Int} (ha:U64 a) (h1:1≤a):∃ n:Nat,fi a=some (n:Int)∧1≤n∧n≤64∧2 ^ (n - 1)≤a∧a<2 ^ n:=by
 have key:∃ (k:Nat) (v:Int),k≤56∧v=a / 2 ^ k∧1≤v∧v<256∧fi a=Option.bind (idx xR.data.toList (IntKind.u8.wrap v)) (fun c13=>lb ((IntKind.i64.wrap ((k:Int)+(IntKind.i64.wrap (c13.toNat:Int))))) (fun w14=>some w14)):=by
  unfold U64 at ha
  have s32:∀ x:Int,cD .u64 x 32=x / 4294967296:=fun x=>rX (by decide)
  have s16:∀ x:Int,cD .u64 x 16=x / 65536:=fun x=>rX (by decide)
  have s8:∀ x:Int,cD .u64 x 8=x / 256:=fun x=>rX (by decide)
  unfold fi
  simp only [s32,s16,s8]
  by_cases c1:4294967296≤a
  ·rw [det c1]
   simp only [cK,bQ]
   by_cases c2:65536≤a / 4294967296
   ·rw [det c2]
    simp only [cK,bQ]
    by_cases c3:256≤a / 4294967296 / 65536
    ·rw [det c3]
     exact ⟨56,a / 4294967296 / 65536 / 256,by omega,by simp only [Int.reducePow];omega,by omega,by omega,rfl⟩
    rw [cC c3]
    exact ⟨48,a / 4294967296 / 65536,by omega,by simp only [Int.reducePow];omega,by omega,by omega,rfl⟩
   rw [cC c2]
   simp only [cA,bQ]
   by_cases c3:256≤a / 4294967296
   ·rw [det c3]
    exact ⟨40,a / 4294967296 / 256,by omega,by simp only [Int.reducePow];omega,by omega,by omega,rfl⟩
   rw [cC c3]
   exact ⟨32,a / 4294967296,by omega,by simp only [Int.reducePow],by omega,by omega,rfl⟩
  rw [cC c1]
  simp only [cA,bQ]
  by_cases c2:65536≤a
  ·rw [det c2]
   simp only [cK,bQ]
   by_cases c3:256≤a / 65536
   ·rw [det c3]
    exact ⟨24,a / 65536 / 256,by omega,by simp only [Int.reducePow];omega,by omega,by omega,rfl⟩
   rw [cC c3]
   exact ⟨16,a / 65536,by omega,by simp only [Int.reducePow],by omega,by omega,rfl⟩
  rw [cC c2]
  simp only [cA,bQ]
  by_cases c3:256≤a
  ·rw [det c3]
   exact ⟨8,a / 256,by omega,by simp only [Int.reducePow],by omega,by omega,rfl⟩
  rw [cC c3]
  exact ⟨0,a,by omega,by simp,by omega,by omega,rfl⟩
 obtain ⟨k,v,k1,k2,k3,k4,k5⟩:=key
 obtain ⟨c,c1,c2,c3,c4⟩:=Ae (v:=v) (by omega) k4
 obtain ⟨c5,c6⟩:=c2 k3
 obtain ⟨l1,l2⟩:=Ad k2 c5 c6 c3
 rw [k5,t6 (by omega),uX c1]
 unfold lb
 rw [cU (r:=(c.toNat:Int)) (by omega) (by omega),cU (by omega) (by omega)]
 exact ⟨k+c.toNat,by simp,by omega,by omega,l1,l2⟩
theorem lz64 {a:Int} (ha:U64 a) (h1:1≤a):∃ s:Nat,cW a=some (s:Int)∧s≤63∧9223372036854775808≤a*2 ^ s∧a*2 ^ s<18446744073709551616:=by
 obtain ⟨n,e1,e2,e3,e4,e5⟩:=len64 ha h1
 unfold cW
 rw [uX e1,cU (by omega) (by omega)]
 refine ⟨64 - n,by congr 1;omega,by omega,?_,?_⟩
 ·have:=Int.mul_le_mul_of_nonneg_right e4 (Int.le_of_lt (show (0:Int)<2 ^ (64 - n) from Int.pow_pos (by decide)))
  rw [← Int.pow_add,show n - 1+(64 - n)=63 by omega] at this
  exact this
 have:=Int.mul_lt_mul_of_pos_right e5 (show (0:Int)<2 ^ (64 - n) from Int.pow_pos (by decide))
 rw [← Int.pow_add,show n+(64 - n)=64 by omega] at this
 exact this
theorem xU {b:Int} (h:0≤b):lv b=some ():=by unfold lv;rw [if_pos h]
theorem xV {a:Int} {s:Nat} (h:s≤64):gp .u64 a (s:Int)=IntKind.u64.wrap (a*2 ^ s):=by
 have e:gp .u64 a (s:Int)=IntKind.u64.wrap (a*2 ^ min (s:Int).toNat 64):=rfl
 rw [e,Int.toNat_natCast,Nat.min_eq_left h]
theorem ior_sh {h b:Int} {s:Nat} (hh:0≤h) (hb:0≤b) (hb2:b<2 ^ s) (h1:U64 (h*2 ^ s)) (h2:U64 b):qo .u64 (h*2 ^ s) b=h*2 ^ s+b:=by
 rw [ior_eq h1 h2]
 obtain ⟨x,rfl⟩:∃ k:Nat,h=(k:Int):=⟨h.toNat,by omega⟩
 obtain ⟨z,rfl⟩:∃ k:Nat,b=(k:Int):=⟨b.toNat,by omega⟩
 have e:((x:Int)*2 ^ s)=((2 ^ s*x:Nat):Int):=by push_cast;exact Int.mul_comm _ _
 have hz:z<2 ^ s:=by exact_mod_cast hb2
 rw [e,Int.toNat_natCast,Int.toNat_natCast,← Nat.two_pow_add_eq_or_of_lt hz]
 rfl
theorem dm_of {n q r y:Int} (e:n=q*y+r) (h0:0≤r) (h1:r<y):n / y=q∧n % y=r:=by
 have gd:n / y=q:=by
  rw [e,Int.add_comm,Int.add_mul_ediv_right _ _ (by omega),Int.ediv_eq_zero_of_lt h0 h1,Int.zero_add]
 refine ⟨gd,?_⟩
 have:=Int.emod_add_mul_ediv n y
 rw [gd,Int.mul_comm] at this
 omega
theorem div64 {hi lo y:Int} (h1:U64 hi) (h2:U64 lo) (h3:U64 y) (h4:hi<y):gf hi lo y=some ((hi*18446744073709551616+lo) / y,(hi*18446744073709551616+lo) % y):=by
 have hi0:=h1.1
 have hlo:=h2.1
 have hy1:1≤y:=by omega
 unfold gf
 have cy:(y == 0)=false:=by simp;omega
 rw [cy,cC (show ¬ y≤hi by omega)]
 simp only [cA]
 by_cases hz:hi=0
 ·subst hz
  have:((0:Int) == 0)=true:=rfl
  rw [this]
  simp only [cK]
  rw [uX (BS (show y≠0 by omega)),uX (BS (show y≠0 by omega)),Int.tdiv_eq_ediv_of_nonneg hlo,Int.tmod_eq_emod_of_nonneg hlo]
  have:lo / y≤lo:=Int.ediv_le_self _ hlo
  rw [gi ⟨Int.ediv_nonneg hlo (by omega),by have:=h2.2;omega⟩]
  simp
 have cz:(hi == 0)=false:=by simp;exact hz
 rw [cz]
 simp only [cA]
 obtain ⟨s,e1,e2,e3,e4⟩:=lz64 h3 hy1
 have hP:(0:Int)<2 ^ s:=Int.pow_pos (by omega)
 have hM:(0:Int)<2 ^ (64 - s):=Int.pow_pos (by omega)
 have hPM:(2:Int) ^ s*2 ^ (64 - s)=18446744073709551616:=by rw [← Int.pow_add,show s+(64 - s)=64 by omega];rfl
 have hhP:hi*2 ^ s<y*2 ^ s:=Int.mul_lt_mul_of_pos_right h4 hP
 have hhP0:0≤hi*2 ^ s:=Int.mul_nonneg hi0 (by omega)
 have hqd0:0≤lo / 2 ^ (64 - s):=Int.ediv_nonneg hlo (by omega)
 have hqd1:lo / 2 ^ (64 - s)<2 ^ s:=by
  apply Int.ediv_lt_of_lt_mul hM
  rw [hPM];exact h2.2
 have hPle:(2:Int) ^ s≤18446744073709551616:=by rw [← hPM];have:=Int.mul_le_mul_of_nonneg_left (show (1:Int)≤2 ^ (64 - s) by omega) (Int.le_of_lt hP);omega
 have f1:IntKind.u64.wrap (s:Int)=(s:Int):=gi ⟨by omega,by omega⟩
 have f2:IntKind.u64.wrap (64 - (s:Int))=((64 - s:Nat):Int):=by rw [gi ⟨by omega,by omega⟩];omega
 have f3:gp .u64 y (s:Int)=y*2 ^ s:=by rw [xV (by omega),gi ⟨by omega,e4⟩]
 have f4:gp .u64 hi (s:Int)=hi*2 ^ s:=by rw [xV (by omega),gi ⟨hhP0,by omega⟩]
 have f5:cD .u64 lo ((64 - s:Nat):Int)=lo / 2 ^ (64 - s):=by rw [rX (by omega),Int.toNat_natCast]
 have f6:gp .u64 lo (s:Int)=(lo*2 ^ s) % 18446744073709551616:=by rw [xV (by omega),wu]
 have f7:qo .u64 (hi*2 ^ s) (lo / 2 ^ (64 - s))=hi*2 ^ s+lo / 2 ^ (64 - s):=ior_sh hi0 hqd0 hqd1 ⟨hhP0,by omega⟩ ⟨hqd0,by omega⟩
 rw [uX e1]
 simp only [lb,f1,f2,f3,f4,f5,f6,f7,xU (Int.natCast_nonneg s),xU (Int.natCast_nonneg (64 - s)),bQ,yV]
 have hN:(hi*18446744073709551616+lo)*2 ^ s=(hi*2 ^ s+lo / 2 ^ (64 - s))*18446744073709551616+(lo*2 ^ s) % 18446744073709551616:=by
  have g1:=Int.emod_add_mul_ediv lo (2 ^ (64 - s))
  have g2:lo*2 ^ s=lo % 2 ^ (64 - s)*2 ^ s+18446744073709551616*(lo / 2 ^ (64 - s)):=by
   have:=congrArg (· * (2:Int) ^ s) g1
   simp only [Int.add_mul] at this
   rw [← this,← hPM]
   rw [Int.mul_assoc,Int.mul_comm (lo / 2 ^ (64 - s)),← Int.mul_assoc,Int.mul_comm (2 ^ (64 - s)),Int.mul_assoc]
  have g3:0≤lo % 2 ^ (64 - s)*2 ^ s:=Int.mul_nonneg (Int.emod_nonneg _ (by omega)) (by omega)
  have g4:lo % 2 ^ (64 - s)*2 ^ s<18446744073709551616:=by
   rw [← hPM,Int.mul_comm (2 ^ s)]
   exact Int.mul_lt_mul_of_pos_right (Int.emod_lt_of_pos _ hM) hP
  rw [Int.add_mul,Int.mul_right_comm hi]
  generalize lo % 2 ^ (64 - s)*2 ^ s=A at *
  generalize lo / 2 ^ (64 - s)=B at *
  generalize lo*2 ^ s=C at *
  generalize hi*2 ^ s=D at *
  omega
 have hu0:0≤hi*2 ^ s+lo / 2 ^ (64 - s):=by omega
 have huy:hi*2 ^ s+lo / 2 ^ (64 - s)<y*2 ^ s:=by
  have:(hi+1)*2 ^ s≤y*2 ^ s:=Int.mul_le_mul_of_nonneg_right (by omega) (by omega)
  rw [Int.add_mul] at this;omega
 have hU0:0≤(lo*2 ^ s) % 18446744073709551616:=by omega
 have hU1:(lo*2 ^ s) % 18446744073709551616<18446744073709551616:=by omega
 have hfin:∀ q R:Int,(hi*18446744073709551616+lo)*2 ^ s=q*(y*2 ^ s)+R→0≤R→R<y*2 ^ s→(hi*18446744073709551616+lo) / y=q∧(hi*18446744073709551616+lo) % y=R / 2 ^ s:=by
  intro q R hq hR0 hR1
  have hr:R=(hi*18446744073709551616+lo - q*y)*2 ^ s:=by rw [Int.sub_mul,Int.mul_assoc q];omega
  have hd:R / 2 ^ s=hi*18446744073709551616+lo - q*y:=by rw [hr];exact Int.mul_ediv_cancel _ (by omega)
  rw [hd]
  generalize hi*18446744073709551616+lo=n at *
  have:0≤n - q*y:=by
   by_cases hc:0≤n - q*y
   ·exact hc
   have:=Int.mul_le_mul_of_nonneg_right (show n - q*y ≤ -1 by omega) (Int.le_of_lt hP);omega
  have:n - q*y<y:=by
   apply Int.lt_of_mul_lt_mul_right (a:=2 ^ s) _ (by omega)
   omega
  exact dm_of (by omega) (by assumption) (by assumption)
 generalize (hi*18446744073709551616+lo)*2 ^ s=NP at *
 generalize hYe:y*2 ^ s=Y at *
 generalize hi*2 ^ s+lo / 2 ^ (64 - s)=u at *
 generalize (lo*2 ^ s) % 18446744073709551616=U at *
 rw [nv (a:=Y) ⟨by omega,e4⟩,nv (a:=U) ⟨hU0,hU1⟩]
 have k1:Y / 4294967296*4294967296+Y % 4294967296=Y:=by omega
 have k2:2147483648≤Y / 4294967296:=by omega
 have k3:Y / 4294967296<4294967296:=by omega
 have k4:0≤Y % 4294967296:=by omega
 have k5:Y % 4294967296<4294967296:=by omega
 have k6:0≤U / 4294967296:=by omega
 have k7:U / 4294967296<4294967296:=by omega
 have k8:0≤U % 4294967296:=by omega
 have k9:U % 4294967296<4294967296:=by omega
 have k10:U=U / 4294967296*4294967296+U % 4294967296:=by omega
 generalize U / 4294967296=u1 at *
 generalize U % 4294967296=u0 at *
 generalize Y / 4294967296=y1 at *
 generalize Y % 4294967296=y0 at *
 have dv:∀ v:Int,0≤v→v<Y→IntKind.u64.wrap (Int.tdiv v y1)=v / y1∧IntKind.u64.wrap (v - IntKind.u64.wrap (v / y1*y1))=v % y1:=by
  intro v v0 v1
  have:=Int.ediv_le_self y1 v0
  have q0:=Int.ediv_nonneg v0 (show 0≤y1 by omega)
  have m0:=Int.emod_nonneg v (show y1≠0 by omega)
  have m1:=Int.emod_lt_of_pos v (show 0<y1 by omega)
  have e:=Int.emod_add_mul_ediv v y1
  rw [Int.mul_comm] at e
  rw [Int.tdiv_eq_ediv_of_nonneg v0,gi (a:=v / y1) ⟨q0,by omega⟩]
  refine ⟨rfl,?_⟩
  have:0≤v / y1*y1:=Int.mul_nonneg q0 (by omega)
  rw [gi (a:=v / y1*y1) ⟨this,by omega⟩,gi ⟨by omega,by omega⟩]
  omega
 have hnz:nz y1=some ():=BS (by omega)
 obtain ⟨d1,d2⟩:=dv u hu0 huy
 simp only [hnz,d1,d2,bQ]
 obtain ⟨q1,l1,l2,l3,l4,l5⟩:=Cs (u:=u) (u1:=u1) (y1:=y1) (y0:=y0) hu0 (by omega) k6 k7 k2 k3 k4 k5
 rw [k1] at l4 l5
 rw [uX l1]
 have w25:IntKind.u64.wrap (IntKind.u64.wrap (IntKind.u64.wrap (u*4294967296)+u1) - IntKind.u64.wrap (q1*Y))=u*4294967296+u1 - q1*Y:=by
  simp only [wu]
  generalize q1*Y=z at *
  omega
 simp only [w25]
 have v0:0≤u*4294967296+u1 - q1*Y:=by omega
 have v1:u*4294967296+u1 - q1*Y<Y:=by omega
 have hv:u*4294967296+u1=q1*Y+(u*4294967296+u1 - q1*Y):=by omega
 generalize u*4294967296+u1 - q1*Y=v at *
 obtain ⟨d3,d4⟩:=dv v v0 v1
 simp only [d3,d4]
 obtain ⟨q0,m1,m2,m3,m4,m5⟩:=Ct (u:=v) (u1:=u0) (y1:=y1) (y0:=y0) v0 (by omega) k8 k9 k2 k3 k4 k5
 rw [k1] at m4 m5
 rw [uX m1]
 have w36:IntKind.u64.wrap (IntKind.u64.wrap (q1*4294967296)+q0)=q1*4294967296+q0:=by simp only [wu];omega
 have w37:IntKind.u64.wrap (IntKind.u64.wrap (IntKind.u64.wrap (v*4294967296)+u0) - IntKind.u64.wrap (q0*Y))=v*4294967296+u0 - q0*Y:=by
  simp only [wu]
  generalize q0*Y=z at *
  omega
 rw [w36,w37,rX (by omega),Int.toNat_natCast]
 obtain ⟨g1,g2⟩:=hfin (q1*4294967296+q0) (v*4294967296+u0 - q0*Y) (by
  rw [hN,k10,Int.add_mul,Int.mul_right_comm]
  generalize q1*Y=z at *
  generalize q0*Y=z0 at *
  omega) (by omega) (by omega)
 rw [g1,g2]
def xv (w:Zn):Int:=w.Hi*18446744073709551616+w.Lo
def XW (w:Zn):Prop:=U64 w.Hi∧U64 w.Lo
theorem tC {a b:Int} (ha:U64 a) (hb:U64 b):∃ w,iz a b=some w∧XW w∧xv w=a*b:=by
 obtain ⟨h,l,e1,e2,e3,e4⟩:=mul64 ha hb
 unfold iz;rw [uX e1]
 exact ⟨_,rfl,⟨e2,e3⟩,e4⟩
def yZ (n c m:Int):Int:=if (m=2∧c≤2*(n % c))∨(m=1∧0<n % c) then n / c+1 else n / c
theorem Af {w:Zn} {c m:Int} (hw:XW w) (hc:U64 c) (h1:1≤c) (hm:m=0∨m=1∨m=2):lG w c m=some (if yZ (xv w) c m<18446744073709551616 then (yZ (xv w) c m,0) else (0,3)):=by
 unfold lG
 have hc0:((((c == 0)||(decide (m<0)))||(decide (3<m))):Bool)=false:=by
  rcases hm with rfl | rfl | rfl <;> simp <;> omega
 rw [hc0];simp only [cA]
 have hn0:0≤xv w:=by unfold xv;have:=hw.1.1;have:=hw.2.1;omega
 have hr0:0≤xv w % c:=Int.emod_nonneg _ (by omega)
 have hr1:xv w % c<c:=Int.emod_lt_of_pos _ (by omega)
 have hle:xv w / c≤yZ (xv w) c m:=by unfold yZ;split <;> omega
 by_cases h:c≤w.Hi
 ·rw [det h]
  have:18446744073709551616≤xv w / c:=by
   apply Int.le_ediv_of_mul_le (by omega)
   have:=Int.mul_le_mul_of_nonneg_left h (show (0:Int)≤18446744073709551616 by omega)
   unfold xv;have:=hw.2.1;omega
  rw [if_neg (by omega)];rfl
 rw [cC h]
 simp only [cA]
 have e:=div64 hw.1 hw.2 hc (by omega)
 rw [show w.Hi*18446744073709551616+w.Lo=xv w from rfl] at e
 rw [uX e]
 have hq:xv w / c<18446744073709551616:=by
  apply Int.ediv_lt_of_lt_mul (by omega)
  have:=Int.mul_le_mul_of_nonneg_right (show w.Hi+1≤c by omega) (show (0:Int)≤18446744073709551616 by omega)
  unfold xv;have:=hw.2.2;rw [Int.mul_comm 18446744073709551616];omega
 have hq0:0≤xv w / c:=Int.ediv_nonneg hn0 (by omega)
 dsimp only
 have er:iR (xv w / c) (xv w % c) c m=some (decide ((m=2∧c≤2*(xv w % c))∨(m=1∧0<xv w % c))):=by
  unfold iR
  rw [gi (a:=c - xv w % c) ⟨by omega,by have:=hc.2;omega⟩]
  rcases hm with rfl | rfl | rfl
  ·simp
  ·simp
  simp;omega
 rw [uX er]
 unfold yZ
 by_cases hu:(m=2∧c≤2*(xv w % c))∨(m=1∧0<xv w % c)
 ·rw [det hu,if_pos hu]
  simp only [Bool.not_true,cA]
  by_cases hx:xv w / c=18446744073709551615
  ·rw [hx];rfl
  have:(xv w / c == 18446744073709551615)=false:=by simp;exact hx
  rw [this,if_pos (by omega),gi ⟨by omega,by omega⟩];rfl
 rw [cC hu,if_neg hu,if_pos hq];rfl
end SX
end Go.Proofs.YthbphcbhedmnoaaGreatDoor
