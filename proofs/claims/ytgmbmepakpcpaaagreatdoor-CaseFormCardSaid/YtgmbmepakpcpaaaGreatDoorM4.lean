/- A part of the proof: texts of the walk and of the plain laws, merged. No condition. -/
import Derived.Test.YtgmbmepakpcpaaaGreatDoorM3
set_option linter.unusedVariables false
set_option linter.unusedSimpArgs false
set_option maxHeartbeats 4000000
set_option maxRecDepth 100000
namespace Go.Proofs.YtgmbmepakpcpaaaGreatDoor
namespace SX
open Go
attribute [local irreducible] PWL PWC PWD POpL POpQ PEv PGuardIs PSub PPick PUpd PSplice PFill PLit PF PFV PCall FOk ec dE jy kx il jz Cov PHolds bf idx app mk gd lb nz i5 yt sub ll co kQ ro dT bQ mO rq IntKind.wrap Int.tmod Int.tdiv Op.bytesLess strOfNums
def di (p0:(List ByteArray)):Option Bool:=cond (decide (8<(p0.length:Int))) (some false) ((bf (S:=Int) (T:=(Unit)⊕(_)) (fun v2=>cond (decide (v2<(p0.length:Int))) ((idx p0 v2).bind fun m6=>(gZ m6).bind fun x7=>(gd ((!(!x7))&&(decide (0<v2))) (idx p0 (IntKind.i64.wrap (v2 - 1)))).bind fun m8=>cond ((!x7)||((decide (0<v2))&&(Op.bytesLess m6.toList m8.toList||decide (m6=m8)))) (some (.inr (.inr false))) (some (.inl (IntKind.i64.wrap (v2+1))))) (some (.inr (.inl ())))) FUEL 0).bind fun q=>match q with | .inl _=>some true | .inr e=>some e)
theorem i9 {p0:(List ByteArray)} {r:Bool}  (h:di p0=some r):PF 63 [pL eS p0] (pB r):=by
 unfold di at h
 refine bk ?_
 refine ed Tryz.func63 rfl Tryz.ntmps63 Tryz.results63 rfl (aU [2] (by kernel_rfl) (cY (af [5,6] [(7,pB (decide (8<(p0.length:Int))))] (by kernel_rfl) (bT rfl h (fun hc1 h=>?_) fun hc1 h=>?_))))
 ·refine ag ?_
  refine fm [(2,pB false)] (by kernel_rfl) (aA ?_)
  exact zz r h rfl
 refine ah ?_
 refine cY (an [(8,pL eS p0),(9,pI (p0.length:Int)),(10,pI 0)] (by kernel_rfl) (gn h fun q4 hq4 h=>?_))
 refine ar (Y:=Unit×Unit) (fun (_,_)=>[]) (fun (_,_)=>[]) (fun (_,_)=>q4=Sum.inl ()) ?_ ?_
 ·refine aC ?_
  refine aJ (Y:=Unit) (S:=Int) _ hq4 (fun _ v2=>[(0,pL eS p0),(8,pL eS p0),(9,pI (p0.length:Int)),(10,pI v2)]) (fun _ v2=>[]) () (jW rfl) bL ?_
  rintro _ v2 o τ hb3;(try dsimp only at hb3);dsimp only [az]
  refine ag (an [(11,pB (decide (v2<(p0.length:Int))))] (by kernel_rfl) (bO (kq rfl hb3 (fun hc5 hb3=>?_) fun hc5 hb3=>?_)))
  ·refine ah ?_
   refine bO (gG (ae hb3 fun m6 hm6 hb3=>aw [] [12,13,14] [(3,pI v2),(4,pS m6)] (db 1 eS hm6 bx) (by kernel_rfl) (cU hb3 fun x7 hx7 hb3=>ae hb3 fun m8 hm8 hb3=>aw [] (rg 15 15) [(30,pB ((!x7)||((decide (0<v2))&&(Op.bytesLess m6.toList m8.toList||decide (m6=m8)))))] (bG 1 (o6 hx7) (ia 11 eS (dB hm8) bx)) (by kernel_rfl) (bT rfl hb3 (fun hc9 hb3=>?_) fun hc9 hb3=>?_))))
   ·refine ag ?_
    refine fm [(2,pB false)] (by kernel_rfl) (iX ?_)
    refine aW hb3 (fun ht=>?_);subst ht
    refine aL (aV ?_)
    exact zz r h rfl
   refine ah ?_
   refine fw (af [31] [(10,pI (IntKind.i64.wrap (v2+1)))] (by kernel_rfl) ?_)
   exact aY hb3 () (jW rfl) bL
  refine aP ?_
  refine aq (ak hb3 (fun ht=>am rfl ?_))
  exact au ((),()) mN bL ht.symm
 rintro ⟨_,_⟩ τ hz;(try dsimp only at hz);subst q4;(try dsimp only at h);dsimp only [az]
 refine ag (fm [(2,pB true)] (by kernel_rfl) ?_)
 exact zz r h rfl
def fL (p0:(List ByteArray)):Option Bool:=cond (decide (6<(p0.length:Int))) (some false) ((bf (S:=Int) (T:=(Unit)⊕(_)) (fun v2=>cond (decide (v2<(p0.length:Int))) ((idx p0 v2).bind fun m6=>(el m6).bind fun x7=>(gd ((!(x7 == 0))&&(decide (0<v2))) (idx p0 (IntKind.i64.wrap (v2 - 1)))).bind fun m8=>cond ((x7 == 0)||((decide (0<v2))&&(Op.bytesLess m6.toList m8.toList||decide (m6=m8)))) (some (.inr (.inr false))) (some (.inl (IntKind.i64.wrap (v2+1))))) (some (.inr (.inl ())))) FUEL 0).bind fun q=>match q with | .inl _=>some true | .inr e=>some e)
theorem nf {p0:(List ByteArray)} {r:Bool}  (h:fL p0=some r):PF 189 [pL eS p0] (pB r):=by
 unfold fL at h
 refine bk ?_
 refine ed Tryz.func189 rfl Tryz.ntmps189 Tryz.results189 rfl (aU [2] (by kernel_rfl) (cY (af [5,6] [(7,pB (decide (6<(p0.length:Int))))] (by kernel_rfl) (bT rfl h (fun hc1 h=>?_) fun hc1 h=>?_))))
 ·refine ag ?_
  refine fm [(2,pB false)] (by kernel_rfl) (aA ?_)
  exact zz r h rfl
 refine ah ?_
 refine cY (an [(8,pL eS p0),(9,pI (p0.length:Int)),(10,pI 0)] (by kernel_rfl) (gn h fun q4 hq4 h=>?_))
 refine ar (Y:=Unit×Unit) (fun (_,_)=>[]) (fun (_,_)=>[]) (fun (_,_)=>q4=Sum.inl ()) ?_ ?_
 ·refine aC ?_
  refine aJ (Y:=Unit) (S:=Int) _ hq4 (fun _ v2=>[(0,pL eS p0),(8,pL eS p0),(9,pI (p0.length:Int)),(10,pI v2)]) (fun _ v2=>[]) () (jW rfl) bL ?_
  rintro _ v2 o τ hb3;(try dsimp only at hb3);dsimp only [az]
  refine ag (an [(11,pB (decide (v2<(p0.length:Int))))] (by kernel_rfl) (bO (kq rfl hb3 (fun hc5 hb3=>?_) fun hc5 hb3=>?_)))
  ·refine ah ?_
   refine bO (gG (ae hb3 fun m6 hm6 hb3=>aw [] [12,13,14] [(3,pI v2),(4,pS m6)] (db 1 eS hm6 bx) (by kernel_rfl) (cU hb3 fun x7 hx7 hb3=>ae hb3 fun m8 hm8 hb3=>aw [] (rg 15 15) [(30,pB ((x7 == 0)||((decide (0<v2))&&(Op.bytesLess m6.toList m8.toList||decide (m6=m8)))))] (bG 1 (fO hx7) (ia 11 eS (dB hm8) bx)) (by kernel_rfl) (bT rfl hb3 (fun hc9 hb3=>?_) fun hc9 hb3=>?_))))
   ·refine ag ?_
    refine fm [(2,pB false)] (by kernel_rfl) (iX ?_)
    refine aW hb3 (fun ht=>?_);subst ht
    refine aL (aV ?_)
    exact zz r h rfl
   refine ah ?_
   refine fw (af [31] [(10,pI (IntKind.i64.wrap (v2+1)))] (by kernel_rfl) ?_)
   exact aY hb3 () (jW rfl) bL
  refine aP ?_
  refine aq (ak hb3 (fun ht=>am rfl ?_))
  exact au ((),()) mN bL ht.symm
 rintro ⟨_,_⟩ τ hz;(try dsimp only at hz);subst q4;(try dsimp only at h);dsimp only [az]
 refine ag (fm [(2,pB true)] (by kernel_rfl) ?_)
 exact zz r h rfl
def hC (rec:Zd→Option Bool) (p0:Zd):Option Bool:=(jJ p0).bind fun x2=>cond (!x2) (some false) (cond (p0.Kind == 1) (some true) (cond (p0.Kind == 2) ((gd (((p0.Digits == 2)||(p0.Digits == 4))||(p0.Digits == 6)) (fL p0.Except)).bind fun x6=>(gd ((((p0.Digits == 2)||(p0.Digits == 4))||(p0.Digits == 6))&&x6) (gp p0.Tolerance)).bind fun x7=>some (((((p0.Digits == 2)||(p0.Digits == 4))||(p0.Digits == 6))&&x6)&&x7)) (cond (p0.Kind == 3) ((gp p0.Limit).bind fun x9=>some x9) (cond (p0.Kind == 4) ((di [p0.Name]).bind fun x13=>some x13) (Option.bind (cond (p0.Kind == 5) (some (p0.Kind == 5)) (some (p0.Kind == 6))) (fun v14=>cond v14 (cond ((decide ((p0.Args.length:Int)<2))||(decide (6<(p0.Args.length:Int)))) (some false) ((bf (S:=Int) (T:=(Unit)⊕(_)) (fun v19=>cond (decide (v19<(p0.Args.length:Int))) ((idx p0.Args v19).bind fun m23=>(gd (!(m23.Kind == p0.Kind)) (rec m23)).bind fun x25=>cond ((m23.Kind == p0.Kind)||(!x25)) (some (.inr (.inr false))) (some (.inl (IntKind.i64.wrap (v19+1))))) (some (.inr (.inl ())))) FUEL 0).bind fun q=>match q with | .inl _=>some true | .inr e=>some e)) (some false)))))))
theorem o7 {rec:Zd→Option Bool} (hrec:∀ {p0:Zd} {r:Bool},rec p0=some r→PF 166 [.agg (aR p0)] (pB r)) {p0:Zd} {r:Bool} (h:hC rec p0=some r):PF 166 [.agg (aR p0)] (pB r):=by
 unfold hC at h
 refine bk ?_
 refine ed Tryz.func166 rfl Tryz.ntmps166 Tryz.results166 rfl (aa (ai rfl (bM (cs:=(aR p0)) rfl rfl (fun b1=>bm [2] (by kernel_rfl) (cY (ae h fun x2 hx2 h=>aw [0] [6,7] [(8,pB (!x2))] (bG 1 (rz hx2) bx) (by kernel_rfl) (bT rfl h (fun hc3 h=>?_) fun hc3 h=>?_)))))))
 ·refine ag ?_
  refine fm [(2,pB false)] (by kernel_rfl) (aA ?_)
  exact zz r h rfl
 refine ah ?_
 refine cY (bj [0] [9] [(10,pI p0.Kind)] (by kernel_rfl) (aT (gG (af [12] [(11,pB (p0.Kind == 1))] (by kernel_rfl) (bT rfl h (fun hc4 h=>?_) fun hc4 h=>?_)))))
 ·refine ag ?_
  refine fm [(2,pB true)] (by kernel_rfl) (iX ?_)
  exact zz r h rfl
 refine ag ?_
 refine af [14] [(13,pB (p0.Kind == 2))] (by kernel_rfl) (bT rfl h (fun hc5 h=>?_) fun hc5 h=>?_)
 ·refine ag ?_
  refine bj [0,0,0] (rg 15 13) [(3,pB (((p0.Digits == 2)||(p0.Digits == 4))||(p0.Digits == 6)))] (by kernel_rfl) (cU h fun x6 hx6 h=>ae h fun x7 hx7 h=>aw [0,0] (rg 28 11) [(2,pB (((((p0.Digits == 2)||(p0.Digits == 4))||(p0.Digits == 6))&&x6)&&x7))] (ey 4 (fun hc=>nf (dB hx6 hc)) (ey 9 (fun hc=>jK (dB hx7 hc)) bx)) (by kernel_rfl) (em (iX ?_)))
  exact zz r h rfl
 refine ag ?_
 refine af [40] [(39,pB (p0.Kind == 3))] (by kernel_rfl) (bT rfl h (fun hc8 h=>?_) fun hc8 h=>?_)
 ·refine ag ?_
  refine ae h fun x9 hx9 h=>aw [0] [41,42,43] [(2,pB x9)] (bG 2 (jK hx9) bx) (by kernel_rfl) (em (iX ?_))
  exact zz r h rfl
 refine ag ?_
 refine af [45] [(44,pB (p0.Kind == 4))] (by kernel_rfl) (bT rfl h (fun hc10 h=>?_) fun hc10 h=>?_)
 ·refine ag ?_
  refine aa (cw 2 [0] [46] [(47,pS p0.Name)] (by kernel_rfl) (ai rfl (bB rfl rfl rfl rfl rfl (eZ rfl hY) rfl rfl rfl rfl (fun b11=>?_))))
  refine fS (enc:=eS) (xs:=[p0.Name]) 48 rfl (by exact aI) ?_
  refine ae h fun x13 hx13 h=>je [] [49] [(2,pB x13)] (bG 0 (i9 hx13) bx) (by kernel_rfl) (em (iX ?_))
  exact zz r h rfl
 refine ag ?_
 refine ag (af [51] [(50,pB (p0.Kind == 5))] (by kernel_rfl) (gn h fun q15 hq15 h=>?_))
 refine ar (Y:=Unit×Bool) (fun (_,v14)=>[(1,pP b1 0),(50,pB v14)]) (fun (_,v14)=>[PRes.b b1 84 (aR p0)]) (fun (_,v14)=>q15=v14) ?_ ?_
 ·skip
  refine kq rfl hq15 (fun hc16 hq15=>?_) fun hc16 hq15=>?_
  ·refine ah ?_
   obtain rfl:=osi hq15
   exact au ((),(p0.Kind == 5)) (nS rfl) cI rfl
  refine af [52] [(50,pB (p0.Kind == 6))] (by kernel_rfl) ?_
  obtain rfl:=osi hq15
  exact au ((),(p0.Kind == 6)) (nS rfl) cI rfl
 rintro ⟨_,v14⟩ τ hz;(try dsimp only at hz);subst q15;(try dsimp only at h);dsimp only [az]
 refine kq rfl h (fun hc17 h=>?_) fun hc17 h=>?_
 ·refine ag ?_
  refine ag (bj [0,0] (rg 53 9) [(62,pB ((decide ((p0.Args.length:Int)<2))||(decide (6<(p0.Args.length:Int)))))] (by kernel_rfl) (bT rfl h (fun hc18 h=>?_) fun hc18 h=>?_))
  ·refine ag ?_
   refine fm [(2,pB false)] (by kernel_rfl) (aA (iX ?_))
   exact zz r h rfl
  refine ah ?_
  refine cY (bj [0] [63] [(64,pL Zd.enc p0.Args),(65,pI (p0.Args.length:Int)),(66,pI 0)] (by kernel_rfl) (gn h fun q21 hq21 h=>?_))
  refine ar (Y:=Unit×Unit) (fun (_,_)=>[]) (fun (_,_)=>[]) (fun (_,_)=>q21=Sum.inl ()) ?_ ?_
  ·refine aC ?_
   refine aJ (Y:=Unit) (S:=Int) _ hq21 (fun _ v19=>[(1,pP b1 0),(64,pL Zd.enc p0.Args),(65,pI (p0.Args.length:Int)),(66,pI v19)]) (fun _ v19=>[PRes.b b1 84 (aR p0)]) () (jW rfl) cI ?_
   rintro _ v19 o τ hb20;(try dsimp only at hb20);dsimp only [az]
   refine ag (an [(67,pB (decide (v19<(p0.Args.length:Int))))] (by kernel_rfl) (bO (kq rfl hb20 (fun hc22 hb20=>?_) fun hc22 hb20=>?_)))
   ·refine ah ?_
    refine bO (gG (ae hb20 fun m23 hm23 hb20=>aa (aS 2 [] [68] [(69,.agg (aR m23))] (qp 0 Zd.enc (Zd.enc_eq _) hm23 bx) (by kernel_rfl) (ai rfl (aM (cs:=[pI 0,pI 0,pN,pI 0,pI 0,pS ByteArray.empty,pN]) rfl rfl rfl rfl (fun b24=>aN rfl rfl (aj (vs:=(aR m23)) rfl rfl rfl rfl rfl bV mA (aB (cU hb20 fun x25 hx25 hb20=>aw [0,1,0] (rg 70 9) [(79,pB ((m23.Kind == p0.Kind)||(!x25)))] (ey 7 (fun hc=>hrec (dB hx25 hc)) bx) (by kernel_rfl) (bT rfl hb20 (fun hc26 hb20=>?_) fun hc26 hb20=>?_))))))))))
    ·refine ag ?_
     refine fm [(2,pB false)] (by kernel_rfl) (iX ?_)
     refine aW hb20 (fun ht=>?_);subst ht
     refine aL (aV (iX ?_))
     exact zz r h rfl
    refine ah ?_
    refine fw (af [80] [(66,pI (IntKind.i64.wrap (v19+1)))] (by kernel_rfl) ?_)
    exact aY hb20 () (jW rfl) (aZ (ap aI) bL)
   refine aP ?_
   refine aq (ak hb20 (fun ht=>am rfl ?_))
   exact au ((),()) mN bL ht.symm
  rintro ⟨_,_⟩ τ hz;(try dsimp only at hz);subst q21;(try dsimp only at h);dsimp only [az]
  refine ag (fm [(2,pB true)] (by kernel_rfl) (iX ?_))
  exact zz r h rfl
 refine ah ?_
 refine aD (bO (fm [(2,pB false)] (by kernel_rfl) ?_))
 exact zz r h rfl
def jn (n:Nat):Zd→Option Bool:=Nat.rec (motive:=fun _=>Zd→Option Bool) (fun _=>none) (fun _ ih=>hC ih) n
def ng (p0:Zd):Option Bool:=jn FUEL p0
theorem qK (n:Nat):∀ {p0:Zd} {r:Bool},jn n p0=some r→PF 166 [.agg (aR p0)] (pB r):=by
 induction n with
 | zero=>intros;rename_i h;exact nomatch h
 | succ n ih=>intros;rename_i h;exact o7 (fun hr=>ih hr) h
theorem rE {p0:Zd} {r:Bool} (h:ng p0=some r):PF 166 [.agg (aR p0)] (pB r):=qK FUEL h
def eQ (p0:Zd):Option Int:=(mU p0 33).bind fun x2=>cond (decide (32<x2)) (some (8:Int)) ((ng p0).bind fun x4=>cond (!x4) (some (1:Int)) (some (0:Int)))
theorem iw {p0:Zd} {r:Int}  (h:eQ p0=some r):PF 130 [.agg (aR p0)] (pI r):=by
 unfold eQ at h
 refine bk ?_
 refine ed Tryz.func130 rfl Tryz.ntmps130 Tryz.results130 rfl (aa (ai rfl (bM (cs:=(aR p0)) rfl rfl (fun b1=>bm [2] (by kernel_rfl) (cY (ae h fun x2 hx2 h=>aw [0] [3,4] [(5,pB (decide (32<x2)))] (bG 1 (ry hx2) bx) (by kernel_rfl) (bT rfl h (fun hc3 h=>?_) fun hc3 h=>?_)))))))
 ·refine ag ?_
  refine fm [(2,pI 8)] (by kernel_rfl) (aA ?_)
  exact zz r h rfl
 refine ah ?_
 refine cY (ae h fun x4 hx4 h=>aw [0] [6,7] [(8,pB (!x4))] (bG 1 (rE hx4) bx) (by kernel_rfl) (bT rfl h (fun hc5 h=>?_) fun hc5 h=>?_))
 ·refine ag ?_
  refine fm [(2,pI 1)] (by kernel_rfl) (aA ?_)
  exact zz r h rfl
 refine ah ?_
 refine bO (fm [(2,pI 0)] (by kernel_rfl) ?_)
 exact zz r h rfl
def eN (p0:Zb) (p1:ByteArray):Option (Zd×Bool):=(bf (S:=Int×Int) (T:=(Int)) (fun (v3,v4)=>cond (decide (v4<(p0.Rules.length:Int))) (((idx p0.Rules v4).bind fun m11=>(dG p1 m11.Prefix).bind fun x13=>(gd (x13&&(!(decide (v3<0)))) (idx p0.Rules v3)).bind fun m14=>cond (x13&&((decide (v3<0))||(decide ((m14.Prefix.size:Int)<(m11.Prefix.size:Int))))) (some v4) (some v3)).bind fun v9=>some (.inl (v9,(IntKind.i64.wrap (v4+1))))) (some (.inr v3))) FUEL ((-1),0)).bind fun v5=>(gd (!(decide (v5<0))) (idx p0.Rules v5)).bind fun m16=>(gd (!(decide (v5<0))) (eQ m16.Rule)).bind fun x17=>cond ((decide (v5<0))||(x17 != 0)) (some ((⟨0,0,[],0,0,ByteArray.empty,[]⟩:Zd),false)) ((idx p0.Rules v5).bind fun m19=>(fT m19.Rule).bind fun x20=>some (x20,true))
theorem ma {p0:Zb} {p1:ByteArray} {r:(Zd×Bool)}  (h:eN p0 p1=some r):PF 89 [.agg (al p0),pS p1] (.tup [.agg (aR r.1),pB r.2]):=by
 unfold eN at h
 refine bk ?_
 refine ed Tryz.func89 rfl Tryz.ntmps89 Tryz.results89 rfl (aa (ai rfl (bM (cs:=(al p0)) rfl rfl (fun b1=>ai rfl (aM (cs:=[pI 0,pI 0,pN,pI 0,pI 0,pS ByteArray.empty,pN]) rfl rfl rfl rfl (fun b2=>bm [5] (by kernel_rfl) (bO (an [(6,pI (-1))] (by kernel_rfl) (cY (bj [1] [9] [(10,pL Zf.enc p0.Rules),(11,pI (p0.Rules.length:Int)),(12,pI 0)] (by kernel_rfl) (gn h fun q7 hq7 h=>?_)))))))))))
 refine ar (Y:=Unit×Int) (fun (_,v5)=>[(2,pP b1 0),(4,pP b2 0),(6,pI v5)]) (fun (_,v5)=>[PRes.b b1 81 (al p0),PRes.b b2 84 [pI 0,pI 0,pN,pI 0,pI 0,pS ByteArray.empty,pN]]) (fun (_,v5)=>q7=v5) ?_ ?_
 ·refine aC ?_
  refine aJ (Y:=Unit) (S:=Int×Int) _ hq7 (fun _ (v3,v4)=>[(1,pS p1),(2,pP b1 0),(4,pP b2 0),(6,pI v3),(10,pL Zf.enc p0.Rules),(11,pI (p0.Rules.length:Int)),(12,pI v4)]) (fun _ (v3,v4)=>[PRes.b b1 81 (al p0),PRes.b b2 84 [pI 0,pI 0,pN,pI 0,pI 0,pS ByteArray.empty,pN]]) () (n7 rfl) (aZ (ap aI) cI) ?_
  rintro _ ⟨v3,v4⟩ o τ hb6;(try dsimp only at hb6);dsimp only [az]
  refine ag (an [(13,pB (decide (v4<(p0.Rules.length:Int))))] (by kernel_rfl) (bO (kq rfl hb6 (fun hc8 hb6=>?_) fun hc8 hb6=>?_)))
  ·refine ah ?_
   refine cU hb6 fun q10 hq10 hb6=>?_
   refine ar (Y:=Unit×Int) (fun (_,v9)=>[(1,pS p1),(2,pP b1 0),(4,pP b2 0),(6,pI v9),(10,pL Zf.enc p0.Rules),(11,pI (p0.Rules.length:Int)),(12,pI v4)]) (fun (_,v9)=>[PRes.b b1 81 (al p0),PRes.b b2 84 [pI 0,pI 0,pN,pI 0,pI 0,pS ByteArray.empty,pN]]) (fun (_,v9)=>q10=v9) ?_ ?_
   ·skip
    refine gG (ae hq10 fun m11 hm11 hq10=>aa (aS 3 [] [15] [(14,pI v4),(16,.agg (cM m11))] (db 1 Zf.enc hm11 bx) (by kernel_rfl) (ai rfl (aM (cs:=[pS ByteArray.empty,pI 0,pI 0,pN,pI 0,pI 0,pS ByteArray.empty,pN]) rfl rfl rfl rfl (fun b12=>av 1 [(7,pI v4)] (by kernel_rfl) (aN rfl rfl (aj (vs:=(cM m11)) rfl rfl rfl rfl rfl bV zl8 (aB (bO (bJ (ρd:=[]) [(0,0),(1,0),(2,0),(3,1),(4,0),(5,0),(6,0),(7,0),(8,0),(9,0),(10,0),(11,0),(12,0),(13,0),(14,0),(15,0),(16,0),(17,0),(18,0),(19,0),(20,0)] _ (List.Perm.refl _) (by kernel_rfl) rfl (ae hq10 fun x13 hx13 hq10=>ae hq10 fun m14 hm14 hq10=>bR 21 [0,0,1] (rg 17 20) [(37,pB (x13&&((decide (v3<0))||(decide ((m14.Prefix.size:Int)<(m11.Prefix.size:Int))))))] (bG 3 (lX hx13) (ia 14 Zf.enc (dB hm14) bx)) (by kernel_rfl) (bW (bT rfl hq10 (fun hc15 hq10=>?_) fun hc15 hq10=>?_)))))))))))))
    ·refine af [38] [(6,pI v4)] (by kernel_rfl) ?_
     refine aD ?_
     obtain rfl:=osi hq10
     exact au ((),v4) (n7 rfl) (aZ (ap aI) (aZ (ap aI) bL)) rfl
    refine ah ?_
    refine aD ?_
    obtain rfl:=osi hq10
    exact au ((),v3) (n7 rfl) (aZ (ap aI) (aZ (ap aI) bL)) rfl
   rintro ⟨_,v9⟩ τ hz;(try dsimp only at hz);subst q10;(try dsimp only at hb6);dsimp only [az]
   refine af [39] [(12,pI (IntKind.i64.wrap (v4+1)))] (by kernel_rfl) ?_
   exact aY hb6 () (n7 rfl) oA
  refine aP ?_
  refine aq (ak hb6 (fun ht=>am rfl ?_))
  exact au ((),v3) (lF rfl) oA ht.symm
 rintro ⟨_,v5⟩ τ hz;(try dsimp only at hz);subst q7;(try dsimp only at h);dsimp only [az]
 refine dU (ae h fun m16 hm16 h=>ae h fun x17 hx17 h=>aw [0] (rg 40 11) [(51,pB ((decide (v5<0))||(x17 != 0)))] (ia 6 Zf.enc (dB hm16) (ey 9 (fun hc=>iw (dB hx17 hc)) bx)) (by kernel_rfl) (bT rfl h (fun hc18 h=>?_) fun hc18 h=>?_))
 ·refine ag ?_
  refine aa (av 1 [(52,.agg [pI 0,pI 0,pN,pI 0,pI 0,pS ByteArray.empty,pN])] (by kernel_rfl) (aN rfl rfl (aj (vs:=[pI 0,pI 0,pN,pI 0,pI 0,pS ByteArray.empty,pN]) rfl rfl rfl rfl rfl (cG bV) mA (aG [(5,pB false)] (by kernel_rfl) (aT (cb (k:=2) (b:=b2) rfl (cG bV) (cb (k:=6) (b:=b2) rfl (cG bV) (bU (aA ?_)))))))))
  obtain rfl:=osi h
  exact aQ (dp (cE rfl rV rfl) (aX rfl)) bL ⟨rfl,rfl⟩
 refine ah ?_
 refine cU h fun m19 hm19 h=>ae h fun x20 hx20 h=>aa (aS 7 [0] (rg 53 6) [(59,.agg (aR x20))] (db 3 Zf.enc hm19 (bG 6 (kE hx20) bx)) (by kernel_rfl) (aN rfl rfl (aj (vs:=(aR x20)) rfl rfl rfl rfl rfl (cG bV) mA (aG [(5,pB true)] (by kernel_rfl) (em ?_)))))
 obtain rfl:=osi h
 exact aQ (dp (cE rfl rV rfl) (aX rfl)) bL ⟨rfl,rfl⟩
def bY (p0:(List Ze)) (p1:(List Zb)) (p2:ByteArray) (p3:Za):Option Bool:=(cA p0 p3.Product).bind fun x2=>cond (!x2.2) (some false) ((dO p1 p3.Agreement).bind fun x5=>(gd (!((!x5.2)||(decide (x2.1.Country=p2)))) (cr x5.1 x2.1.Country p2)).bind fun x7=>cond (((!x5.2)||(decide (x2.1.Country=p2)))||(!x7)) (some false) ((eN x5.1 x2.1.Code).bind fun x9=>some x9.2))
theorem eR {p0:(List Ze)} {p1:(List Zb)} {p2:ByteArray} {p3:Za} {r:Bool}  (h:bY p0 p1 p2 p3=some r):PF 44 [pL Ze.enc p0,pL Zb.enc p1,pS p2,.agg [pI p3.Product,pI p3.Agreement]] (pB r):=by
 unfold bY at h
 refine bk ?_
 refine ed Tryz.func44 rfl Tryz.ntmps44 Tryz.results44 rfl (aa (ai rfl (bM (cs:=[pI p3.Product,pI p3.Agreement]) rfl rfl (fun b1=>bm [8] (by kernel_rfl) (cU h fun x2 hx2 h=>aa (aS 7 [0] [13,14,15,16,12] [(17,.agg (aK x2.1)),(18,pB x2.2)] (bG 3 (fx hx2) bx) (by kernel_rfl) (ai rfl (aM (cs:=[pI 0,pS ByteArray.empty,pS ByteArray.empty,pI 0,pB false,pN,pN]) rfl rfl rfl rfl (fun b3=>aN rfl rfl (aj (vs:=(aK x2.1)) rfl rfl rfl rfl rfl bV mA (aG [(10,pB x2.2)] (by kernel_rfl) (cY (af [19] [(20,pB (!x2.2))] (by kernel_rfl) (bT rfl h (fun hc4 h=>?_) fun hc4 h=>?_))))))))))))))
 ·refine ag ?_
  refine fm [(8,pB false)] (by kernel_rfl) (aA ?_)
  exact zz r h rfl
 refine ah ?_
 refine cU h fun x5 hx5 h=>aa (aS 7 [1] [22,23,24,25,21] [(26,.agg (al x5.1)),(27,pB x5.2)] (bG 3 (gw hx5) bx) (by kernel_rfl) (ai rfl (aM (cs:=[pI 0,pI 0,pN,pN]) rfl rfl rfl rfl (fun b6=>aN rfl rfl (aj (vs:=(al x5.1)) rfl rfl rfl rfl rfl bV wK (aG [(10,pB x5.2)] (by kernel_rfl) (cY (ae h fun x7 hx7 h=>aw [1,0,1] (rg 28 15) [(43,pB (((!x5.2)||(decide (x2.1.Country=p2)))||(!x7)))] (ey 13 (fun hc=>gh (dB hx7 hc)) bx) (by kernel_rfl) (bT rfl h (fun hc8 h=>?_) fun hc8 h=>?_)))))))))
 ·refine ag ?_
  refine fm [(8,pB false)] (by kernel_rfl) (aA ?_)
  exact zz r h rfl
 refine ah ?_
 refine cU h fun x9 hx9 h=>aw [0,1] [45,46,47,48,44,49,50] [(10,pB x9.2)] (bG 3 (ma hx9) bx) (by kernel_rfl) (bO (af [51] [(8,pB x9.2)] (by kernel_rfl) (em ?_)))
 exact zz r h rfl
def dI (p0:Zf) (p1:Zf):Option Bool:=(gd (decide (p0.Prefix=p1.Prefix)) (eQ p0.Rule)).bind fun x3=>(gd ((decide (p0.Prefix=p1.Prefix))&&(x3 == 0)) (fU p0.Rule p1.Rule)).bind fun x4=>some (((decide (p0.Prefix=p1.Prefix))&&(x3 == 0))&&x4)
theorem jS {p0:Zf} {p1:Zf} {r:Bool}  (h:dI p0 p1=some r):PF 135 [.agg (cM p0),.agg (cM p1)] (pB r):=by
 unfold dI at h
 refine bk ?_
 refine ed Tryz.func135 rfl Tryz.ntmps135 Tryz.results135 rfl (aa (ai rfl (bM (cs:=(cM p0)) rfl rfl (fun b1=>ai rfl (bM (cs:=(cM p1)) rfl rfl (fun b2=>bm [4] (by kernel_rfl) (cU h fun x3 hx3 h=>ae h fun x4 hx4 h=>aw [1,0,1,1,0] (rg 5 18) [(4,pB (((decide (p0.Prefix=p1.Prefix))&&(x3 == 0))&&x4))] (ey 8 (fun hc=>iw (dB hx3 hc)) (ey 16 (fun hc=>kF (dB hx4 hc)) bx)) (by kernel_rfl) (em ?_))))))))
 exact zz r h rfl
def de (p0:(List Zf)) (p1:(List Zf)):Option Bool:=(bc p0 p1 (fun y1 y2=>dI y1 y2)).bind fun x3=>some x3
theorem kn {p0:(List Zf)} {p1:(List Zf)} {r:Bool}  (h:de p0 p1=some r):PF 95 [pL Zf.enc p0,pL Zf.enc p1] (pB r):=by
 unfold de at h
 refine bk ?_
 refine ed Tryz.func95 rfl Tryz.ntmps95 Tryz.results95 rfl (aU [4] (by kernel_rfl) (cU h fun x3 hx3 h=>aw [] [5,6,7] [(4,pB x3)] (bG 2 (cB (fun hr=>sT (jS hr)) hx3) bx) (by kernel_rfl) (em ?_)))
 exact zz r h rfl
def dS (p0:(List Zb)) (p1:Int) (p2:ByteArray) (p3:ByteArray):Option (List Int):=(dO p0 p1).bind fun x1=>cond (!x1.2) (some []) (cond (x1.1.Kind != 2) (some [p1]) ((bf (S:=(List Int)×Int) (T:=((List Int))) (fun (l8,v11)=>cond (decide (v11<(p0.length:Int))) (((idx p0 v11).bind fun m24=>(gd (m24.ID != p1) (cr m24 p2 p3)).bind fun x26=>(gd ((m24.ID != p1)&&x26) (de x1.1.Rules m24.Rules)).bind fun x27=>cond (((m24.ID != p1)&&x26)&&x27) ((app 8 l8 [m24.ID]).bind fun l31=>some l31) (some l8)).bind fun l22=>some (.inl (l22,(IntKind.i64.wrap (v11+1))))) (some (.inr l8))) FUEL ([p1],0)).bind fun l15=>some l15))
theorem ls {p0:(List Zb)} {p1:Int} {p2:ByteArray} {p3:ByteArray} {r:(List Int)}  (h:dS p0 p1 p2 p3=some r):PF 47 [pL Zb.enc p0,pI p1,pS p2,pS p3] (pL eI r):=by
 unfold dS at h
 refine bk ?_
 refine ed Tryz.func47 rfl Tryz.ntmps47 Tryz.results47 rfl (aU [8] (by kernel_rfl) (cU h fun x1 hx1 h=>aa (aS 6 [] [15,16,17,14] [(18,.agg (al x1.1)),(19,pB x1.2)] (bG 2 (gw hx1) bx) (by kernel_rfl) (ai rfl (aM (cs:=[pI 0,pI 0,pN,pN]) rfl rfl rfl rfl (fun b2=>aN rfl rfl (aj (vs:=(al x1.1)) rfl rfl rfl rfl rfl bV wK (aG [(10,pB x1.2)] (by kernel_rfl) (cY (af [20] [(21,pB (!x1.2))] (by kernel_rfl) (bT rfl h (fun hc3 h=>?_) fun hc3 h=>?_)))))))))))
 ·refine ag ?_
  refine an [(8,pN)] (by kernel_rfl) (aT (nx 8 rfl (bU (aA ?_))))
  exact zz r h rfl
 refine ah ?_
 refine bO (aa (av 1 [(22,pI p1)] (by kernel_rfl) (ai rfl (bB rfl rfl rfl rfl rfl (eZ rfl hY) rfl rfl rfl rfl (fun b4=>aG [(11,pO (some ⟨b4,0,none⟩) 1 1)] (by kernel_rfl) (cY (bj [1] [24,25] [(26,pB (x1.1.Kind != 2))] (by kernel_rfl) (bT rfl h (fun hc6 h=>?_) fun hc6 h=>?_))))))))
 ·refine ag ?_
  refine af [27] [(8,pO (some ⟨b4,0,none⟩) 1 1)] (by kernel_rfl) (aT ?_)
  refine eY (enc:=eI) (xs:=[p1]) 8 rfl (by exact aI) ?_
  refine bU (aA ?_)
  exact zz r h rfl
 refine ah ?_
 refine cY (an [(28,pL Zb.enc p0),(29,pI (p0.length:Int)),(30,pI 0)] (by kernel_rfl) (gn h fun q17 hq17 h=>?_))
 refine ar (Y:=(Option Addr×Nat)×((List Int))) (fun ((a13,c14),l15)=>[(11,pO a13 l15.length c14)]) (fun ((a13,c14),l15)=>[PRes.row a13 l15.length c14 3 1 (List.map eI l15)]) (fun ((a13,c14),l15)=>q17=l15) ?_ ?_
 ·refine aC ?_
  refine aJ (Y:=Option Addr×Nat) (S:=(List Int)×Int) _ hq17 (fun (a9,c10) (l8,v11)=>[(1,pI p1),(2,pS p2),(3,pS p3),(9,pP b2 0),(11,pO a9 l8.length c10),(28,pL Zb.enc p0),(29,pI (p0.length:Int)),(30,pI v11)]) (fun (a9,c10) (l8,v11)=>[PRes.b b2 81 (al x1.1),PRes.row a9 l8.length c10 3 1 (List.map eI l8)]) ((some ⟨b4,0,none⟩),1) (rW rfl) (aZ (ap aI) cI) ?_
  rintro ⟨a9,c10⟩ ⟨l8,v11⟩ o τ hb16;(try dsimp only at hb16);dsimp only [az]
  refine ag (an [(31,pB (decide (v11<(p0.length:Int))))] (by kernel_rfl) (bO (kq rfl hb16 (fun hc18 hb16=>?_) fun hc18 hb16=>?_)))
  ·refine ah ?_
   refine cU hb16 fun q23 hq23 hb16=>?_
   refine ar (Y:=(Option Addr×Nat)×((List Int))) (fun ((a20,c21),l22)=>[(1,pI p1),(2,pS p2),(3,pS p3),(9,pP b2 0),(11,pO a20 l22.length c21),(28,pL Zb.enc p0),(29,pI (p0.length:Int)),(30,pI v11)]) (fun ((a20,c21),l22)=>[PRes.b b2 81 (al x1.1),PRes.row a20 l22.length c21 3 1 (List.map eI l22)]) (fun ((a20,c21),l22)=>q23=l22) ?_ ?_
   ·skip
    refine gG (ae hq23 fun m24 hm24 hq23=>aa (aS 2 [] [32] [(33,.agg (al m24))] (db 0 Zb.enc hm24 bx) (by kernel_rfl) (ai rfl (aM (cs:=[pI 0,pI 0,pN,pN]) rfl rfl rfl rfl (fun b25=>aN rfl rfl (aj (vs:=(al m24)) rfl rfl rfl rfl rfl bV wK (aB (cU hq23 fun x26 hx26 hq23=>ae hq23 fun x27 hx27 hq23=>aw [0,0,1,0] (rg 34 16) [(50,pB (((m24.ID != p1)&&x26)&&x27))] (ey 8 (fun hc=>gh (dB hx26 hc)) (ey 15 (fun hc=>kn (dB hx27 hc)) bx)) (by kernel_rfl) (bT rfl hq23 (fun hc28 hq23=>?_) fun hc28 hq23=>?_)))))))))
    ·refine aa ?_
     refine cw 3 [0] [52] [(51,pO a9 l8.length c10),(53,pI m24.ID)] (by kernel_rfl) (ai rfl (bB rfl rfl rfl rfl rfl (eZ rfl hY) rfl rfl rfl rfl (fun b29=>ae hq23 fun l31 hl31 hq23=>?_)))
     refine ai rfl (bN (enc:=eI) rfl rfl rfl rfl rfl rfl rfl rfl rfl eP (by exact ap (ap (ap aI))) hl31 (fun a32 c33=>?_))
     refine aG [(11,pO a32 l31.length c33)] (by kernel_rfl) (aD ?_)
     obtain rfl:=osi hq23
     exact au ((a32,c33),l31) (rW rfl) (aZ (ap (ap (ap aI))) cI) rfl
    refine ah ?_
    refine aD ?_
    obtain rfl:=osi hq23
    exact au ((a9,c10),l8) (rW rfl) (aZ (ap aI) (aZ (ap aI) bL)) rfl
   rintro ⟨⟨a20,c21⟩,l22⟩ τ hz;(try dsimp only at hz);subst q23;(try dsimp only at hb16);dsimp only [az]
   refine af [56] [(30,pI (IntKind.i64.wrap (v11+1)))] (by kernel_rfl) ?_
   exact aY hb16 (a20,c21) (rW rfl) oA
  refine aP ?_
  refine aq (ak hb16 (fun ht=>am rfl ?_))
  exact au ((a9,c10),l8) (tN rfl) (aZ (ap aI) bL) ht.symm
 rintro ⟨⟨a13,c14⟩,l15⟩ τ hz;(try dsimp only at hz);subst q17;(try dsimp only at h);dsimp only [az]
 refine ag (af [57] [(8,pO a13 l15.length c14)] (by kernel_rfl) (aT ?_))
 refine eY (enc:=eI) (xs:=l15) 8 rfl (by exact aI) ?_
 refine bU ?_
 exact zz r h rfl
def gF (p0:(List ByteArray)) (p1:(List ByteArray)):Option (List ByteArray):=(bZ [p0,p1]).bind fun x3=>(f9 x3).bind fun x7=>(cC x7).bind fun x8=>some x8
theorem qL {p0:(List ByteArray)} {p1:(List ByteArray)} {r:(List ByteArray)}  (h:gF p0 p1=some r):PF 97 [pL eS p0,pL eS p1] (pL eS r):=by
 unfold gF at h
 refine bk ?_
 refine ed Tryz.func97 rfl Tryz.ntmps97 Tryz.results97 rfl (aU [4] (by kernel_rfl) (bO (aa (av 2 [(6,pL eS p0),(7,pL eS p1)] (by kernel_rfl) (ai rfl (bB rfl rfl rfl rfl rfl (eZ rfl (eZ rfl hY)) rfl rfl rfl rfl (fun b1=>?_)))))))
 refine fS (enc:=(eL eS)) (xs:=[p0,p1]) 8 rfl (by exact aI) ?_
 refine ae h fun x3 hx3 h=>?_
 refine ai rfl (ba rfl rfl (ρ1:=[]) (List.Perm.refl _) (ir hx3) ?_);rintro _ _ ⟨a4,c5,rfl,rfl⟩
 refine aG [(5,pO a4 x3.length c5)] (by kernel_rfl) (cU h fun x7 hx7 h=>aa (av 1 [(10,pO a4 x3.length c5)] (by kernel_rfl) ?_))
 refine ai rfl (ba rfl rfl (ρ1:=[_]) (aO (by exact aI) (List.Perm.refl _)) (iZ hx7) ?_);rintro _ _ ⟨rfl,rfl⟩
 refine aB (cU h fun x8 hx8 h=>aa (av 1 [(12,pO a4 x3.length c5)] (by kernel_rfl) ?_))
 refine ai rfl (ba rfl rfl (ρ1:=[_]) (aO (by exact aI) (List.Perm.refl _)) (hU hx8) ?_);rintro _ _ ⟨a9,c10,rfl,rfl⟩
 refine aG [(4,pO a9 x8.length c10)] (by kernel_rfl) (aT ?_)
 refine eY (enc:=eS) (xs:=x8) 4 rfl (by exact aI) ?_
 refine bU ?_
 exact zz r h rfl
def eO (p0:(List Ze)) (p1:Zb) (p2:Ze) (p3:Zq):Option ((List Zc)×(List ByteArray)):=(bz p2.Processes).bind fun x4=>(bf (S:=(List Zc)×(List ByteArray)×Int) (T:=((List Zc)×(List ByteArray))) (fun (l9,l12,v13)=>cond (decide (v13<(p2.Inputs.length:Int))) (((idx p2.Inputs v13).bind fun m29=>(cA p0 m29.Product).bind fun x31=>(gd (p1.Kind == 3) (bA p1.Parties x31.1.Country)).bind fun x33=>Option.bind (cond ((p1.Kind == 3)&&x33) ((gF l12 x31.1.Processes).bind fun x38=>some x38) (some l12)) (fun l35=>(bX p3 x31.1 m29.Value).bind fun x39=>cond (((Zc.is_proved_ x39)||(!((p1.Kind == 3)&&x33)))||((x31.1.Inputs.length:Int) == 0)) ((app 16 l9 [x39]).bind fun l44=>some (l44,l35)) ((bf (S:=(List Zc)×Int) (T:=((List Zc))) (fun (l49,v52)=>cond (decide (v52<(x31.1.Inputs.length:Int))) ((idx x31.1.Inputs v52).bind fun m60=>(cA p0 m60.Product).bind fun x62=>(ef m29.Value m60.Value x31.1.Price).bind fun x64=>(bX p3 x62.1 x64).bind fun x65=>(app 16 l49 [x65]).bind fun l68=>some (.inl (l68,(IntKind.i64.wrap (v52+1))))) (some (.inr l49))) FUEL (l9,0)).bind fun l56=>some (l56,l35)))).bind fun (l26,l27)=>some (.inl (l26,l27,(IntKind.i64.wrap (v13+1))))) (some (.inr (l9,l12)))) FUEL (([]:List Zc),x4,0)).bind fun (l17,l18)=>(sub l18 0 (mO (l18.length:Int) 8)).bind fun l73=>some (l17,l73)
theorem mb {p0:(List Ze)} {p1:Zb} {p2:Ze} {p3:Zq} {m3_set_:Nat} {r:((List Zc)×(List ByteArray))}  (h:eO p0 p1 p2 p3=some r):PCall 48 [pL Ze.enc p0,.agg (al p1),.agg (aK p2),.agg [pL eI p3.partners,.v (.map (some m3_set_))]] [PRes.mp (some m3_set_) (gc Za.key vT p3.set_)] (fun pv ρ'=>pv=.tup [pL Zc.enc r.1,pL eS r.2]∧ρ'=[PRes.mp (some m3_set_) (gc Za.key vT p3.set_)]):=by
 unfold eO at h
 refine ed Tryz.func48 rfl Tryz.ntmps48 Tryz.results48 rfl (aa (ai rfl (bM (cs:=(al p1)) rfl rfl (fun b1=>ai rfl (bM (cs:=(aK p2)) rfl rfl (fun b2=>ai rfl (bM (cs:=[pL eI p3.partners,.v (.map (some m3_set_))]) rfl rfl (fun b3=>bm [8,9] (by kernel_rfl) (bO (an [(10,pN)] (by kernel_rfl) (cU h fun x4 hx4 h=>aa (cw 2 [1] [24] [(25,pL eS p2.Processes)] (by kernel_rfl) ?_))))))))))))
 refine ai rfl (ba rfl rfl (ρ1:=[]) (List.Perm.refl _) (dz hx4) ?_);rintro _ _ ⟨a5,c6,rfl,rfl⟩
 refine aG [(11,pO a5 x4.length c6)] (by kernel_rfl) (cY (bj [2] [27] [(28,pL Zg.enc p2.Inputs),(29,pI (p2.Inputs.length:Int)),(30,pI 0)] (by kernel_rfl) (aT (cF 101 1 ?_))))
 refine eY (enc:=eS) (xs:=x4) 11 rfl (by exact ap aI) ?_
 refine ae h fun q20 hq20 h=>?_
 refine ar (Y:=(Option Addr×Nat)×((List Zc)×(List ByteArray))) (fun ((a15,c16),(l17,l18))=>[(10,pO a15 l17.length c16),(11,pL eS l18)]) (fun ((a15,c16),(l17,l18))=>[PRes.mp (some m3_set_) (gc Za.key vT p3.set_),PRes.row a15 l17.length c16 101 1 (List.map Zc.enc l17)]) (fun ((a15,c16),(l17,l18))=>q20=(l17,l18)) ?_ ?_
 ·refine aC ?_
  refine aJ (Y:=Option Addr×Nat) (S:=(List Zc)×(List ByteArray)×Int) _ hq20 (fun (a10,c11) (l9,l12,v13)=>[(0,pL Ze.enc p0),(5,pP b1 0),(7,pP b3 0),(10,pO a10 l9.length c11),(11,pL eS l12),(28,pL Zg.enc p2.Inputs),(29,pI (p2.Inputs.length:Int)),(30,pI v13)]) (fun (a10,c11) (l9,l12,v13)=>[PRes.b b1 81 (al p1),PRes.b b3 96 [pL eI p3.partners,.v (.map (some m3_set_))],PRes.mp (some m3_set_) (gc Za.key vT p3.set_),PRes.row a10 l9.length c11 101 1 (List.map Zc.enc l9)]) (none,0) (rW rfl) (aZ (ap (ap (ap (ap aI)))) (aZ (ap (ap aI)) (aZ (ap (ap (ap aI))) (aZ (ap aI) bL)))) ?_
  rintro ⟨a10,c11⟩ ⟨l9,l12,v13⟩ o τ hb19;(try dsimp only at hb19);dsimp only [az]
  refine ag (an [(31,pB (decide (v13<(p2.Inputs.length:Int))))] (by kernel_rfl) (bO (kq rfl hb19 (fun hc22 hb19=>?_) fun hc22 hb19=>?_)))
  ·refine ah ?_
   refine cU hb19 fun q28 hq28 hb19=>?_
   refine ar (Y:=(Option Addr×Nat)×((List Zc)×(List ByteArray))) (fun ((a24,c25),(l26,l27))=>[(0,pL Ze.enc p0),(5,pP b1 0),(7,pP b3 0),(10,pO a24 l26.length c25),(11,pL eS l27),(28,pL Zg.enc p2.Inputs),(29,pI (p2.Inputs.length:Int)),(30,pI v13)]) (fun ((a24,c25),(l26,l27))=>[PRes.b b1 81 (al p1),PRes.b b3 96 [pL eI p3.partners,.v (.map (some m3_set_))],PRes.mp (some m3_set_) (gc Za.key vT p3.set_),PRes.row a24 l26.length c25 101 1 (List.map Zc.enc l26)]) (fun ((a24,c25),(l26,l27))=>q28=(l26,l27)) ?_ ?_
   ·skip
    refine gG (ae hq28 fun m29 hm29 hq28=>aa (aS 2 [] [32] [(33,.agg [pI m29.Product,pI m29.Value])] (db 0 Zg.enc hm29 bx) (by kernel_rfl) (ai rfl (aM (cs:=[pI 0,pI 0]) rfl rfl rfl rfl (fun b30=>aN rfl rfl (aj (vs:=[pI m29.Product,pI m29.Value]) rfl rfl rfl rfl rfl bV oT (aB (cU hq28 fun x31 hx31 hq28=>aa (aS 7 [0] [35,36,37,38,34] [(39,.agg (aK x31.1)),(40,pB x31.2)] (bG 3 (fx hx31) bx) (by kernel_rfl) (ai rfl (aM (cs:=[pI 0,pS ByteArray.empty,pS ByteArray.empty,pI 0,pB false,pN,pN]) rfl rfl rfl rfl (fun b32=>aN rfl rfl (aj (vs:=(aK x31.1)) rfl rfl rfl rfl rfl bV mA (bm [15] (by kernel_rfl) (cU hq28 fun x33 hx33 hq28=>aw [2,2,0] (rg 41 10) [(16,pB ((p1.Kind == 3)&&x33))] (ey 8 (fun hc=>cN (dB hx33 hc)) bx) (by kernel_rfl) (cY (an [(51,pB ((p1.Kind == 3)&&x33))] (by kernel_rfl) (gn hq28 fun q36 hq36 hq28=>?_))))))))))))))))))
    refine ar (Y:=Unit×((List ByteArray))) (fun (_,l35)=>[(0,pL Ze.enc p0),(5,pP b1 0),(7,pP b3 0),(10,pO a10 l9.length c11),(11,pL eS l35),(13,pP b30 0),(14,pP b32 0),(16,pB ((p1.Kind == 3)&&x33)),(28,pL Zg.enc p2.Inputs),(29,pI (p2.Inputs.length:Int)),(30,pI v13)]) (fun (_,l35)=>[PRes.b b1 81 (al p1),PRes.b b3 96 [pL eI p3.partners,.v (.map (some m3_set_))],PRes.b b30 78 [pI m29.Product,pI m29.Value],PRes.b b32 76 (aK x31.1),PRes.mp (some m3_set_) (gc Za.key vT p3.set_),PRes.row a10 l9.length c11 101 1 (List.map Zc.enc l9)]) (fun (_,l35)=>q36=l35) ?_ ?_
    ·skip
     refine kq rfl hq36 (fun hc37 hq36=>?_) fun hc37 hq36=>?_
     ·refine ae hq36 ?_;clear hq36;intro x38 hx38 hq36
      refine aw [0] [52,53,54,55] [(11,pL eS x38)] (bG 3 (qL hx38) bx) (by kernel_rfl) ?_
      obtain rfl:=osi hq36
      exact au ((),x38) (cW rfl (cW rfl (qk rfl))) (aZ (ap (ap aI)) (aZ (ap (ap aI)) (aZ (ap aI) zk))) rfl
     refine ah ?_
     obtain rfl:=osi hq36
     exact au ((),l12) (cW rfl (cW rfl (qk rfl))) (aZ (ap (ap aI)) (aZ (ap (ap aI)) (aZ (ap aI) zk))) rfl
    rintro ⟨_,l35⟩ τ hz;(try dsimp only at hz);subst q36;(try dsimp only at hq28);dsimp only [az]
    refine ag (ae hq28 fun x39 hx39 hq28=>aa (cw 4 [1,3,2] [58] [(56,.agg [pL eI p3.partners,.v (.map (some m3_set_))]),(57,.agg (aK x31.1)),(59,pI m29.Value)] (by kernel_rfl) ?_))
    refine ai rfl (ba rfl rfl (ρ1:=[_]) (aO (by exact ap (ap (ap (ap aI)))) (List.Perm.refl _)) (fP hx39) ?_);rintro _ _ ⟨rfl,rfl⟩
    refine aG [(17,Zc.pv x39)] (by kernel_rfl) (cY (aa (aS 5 [] [62,63,61] [(64,.agg [pS ((((Zc.as_proved_ x39)).use).Code),pI ((((Zc.as_proved_ x39)).use).Value),pB ((((Zc.as_proved_ x39)).use).Originating),pI ((((Zc.as_proved_ x39)).premise).Product),pI ((((Zc.as_proved_ x39)).premise).Agreement)]),(65,pB (Zc.is_proved_ x39))] (fota 1 (Zc.ta_proved_ x39) bx) (by kernel_rfl) (ai rfl (aM (cs:=[pS ByteArray.empty,pI 0,pB false,pI 0,pI 0]) rfl rfl rfl rfl (fun b40=>aN rfl rfl (aj (vs:=[pS ((((Zc.as_proved_ x39)).use).Code),pI ((((Zc.as_proved_ x39)).use).Value),pB ((((Zc.as_proved_ x39)).use).Originating),pI ((((Zc.as_proved_ x39)).premise).Product),pI ((((Zc.as_proved_ x39)).premise).Agreement)]) rfl rfl rfl rfl rfl bV zl (aG [(19,pB (Zc.is_proved_ x39))] (by kernel_rfl) (bO (bj [5] (rg 66 10) [(76,pB (((Zc.is_proved_ x39)||(!((p1.Kind == 3)&&x33)))||((x31.1.Inputs.length:Int) == 0)))] (by kernel_rfl) (bT rfl hq28 (fun hc41 hq28=>?_) fun hc41 hq28=>?_)))))))))))
    ·refine ag ?_
     refine aa (av 2 [(77,pO a10 l9.length c11),(78,Zc.pv x39)] (by kernel_rfl) (ai rfl (bB rfl rfl rfl rfl rfl (eZ rfl hY) rfl rfl rfl rfl (fun b42=>ae hq28 fun l44 hl44 hq28=>?_))))
     refine ai rfl (bN (enc:=Zc.enc) rfl rfl rfl rfl rfl rfl rfl rfl rfl eP (by exact ap (ap (ap (ap (ap (ap (ap aI))))))) hl44 (fun a45 c46=>?_))
     refine aG [(10,pO a45 l44.length c46)] (by kernel_rfl) (aT (aP (aq (am rfl ?_))))
     obtain rfl:=osi hq28
     exact au ((a45,c46),(l44,l35)) (rW rfl) (aZ (ap (ap (ap (ap aI)))) (aZ (ap (ap (ap (ap aI)))) (aZ (ap (ap (ap aI))) cI))) rfl
    refine ah ?_
    refine bO (bj [5] [81] [(82,pL Zg.enc x31.1.Inputs),(83,pI (x31.1.Inputs.length:Int)),(84,pI 0)] (by kernel_rfl) (gn hq28 fun q58 hq58 hq28=>?_))
    refine iI (Y:=(Option Addr×Nat)×((List Zc))) (fun ((a54,c55),l56)=>[(0,pL Ze.enc p0),(5,pP b1 0),(7,pP b3 0),(10,pO a54 l56.length c55),(11,pL eS l35),(28,pL Zg.enc p2.Inputs),(29,pI (p2.Inputs.length:Int)),(30,pI v13)]) (fun ((a54,c55),l56)=>[PRes.b b1 81 (al p1),PRes.b b3 96 [pL eI p3.partners,.v (.map (some m3_set_))],PRes.mp (some m3_set_) (gc Za.key vT p3.set_),PRes.row a54 l56.length c55 101 1 (List.map Zc.enc l56)]) (fun ((a54,c55),l56)=>q58=l56) ?_ ?_
    ·refine aC ?_
     refine aJ (Y:=Option Addr×Nat) (S:=(List Zc)×Int) _ hq58 (fun (a50,c51) (l49,v52)=>[(0,pL Ze.enc p0),(5,pP b1 0),(7,pP b3 0),(10,pO a50 l49.length c51),(11,pL eS l35),(13,pP b30 0),(14,pP b32 0),(28,pL Zg.enc p2.Inputs),(29,pI (p2.Inputs.length:Int)),(30,pI v13),(82,pL Zg.enc x31.1.Inputs),(83,pI (x31.1.Inputs.length:Int)),(84,pI v52)]) (fun (a50,c51) (l49,v52)=>[PRes.b b1 81 (al p1),PRes.b b3 96 [pL eI p3.partners,.v (.map (some m3_set_))],PRes.b b30 78 [pI m29.Product,pI m29.Value],PRes.b b32 76 (aK x31.1),PRes.mp (some m3_set_) (gc Za.key vT p3.set_),PRes.row a50 l49.length c51 101 1 (List.map Zc.enc l49)]) (a10,c11) (cW rfl (cW rfl (cW rfl (cW rfl (qk rfl))))) (aZ (ap (ap aI)) (aZ (ap (ap aI)) (aZ (ap (ap aI)) (aZ (ap (ap aI)) (aZ (ap aI) (aZ (ap aI) bL)))))) ?_
     rintro ⟨a50,c51⟩ ⟨l49,v52⟩ o τ hb57;(try dsimp only at hb57);dsimp only [az]
     refine ag (an [(85,pB (decide (v52<(x31.1.Inputs.length:Int))))] (by kernel_rfl) (bO (kq rfl hb57 (fun hc59 hb57=>?_) fun hc59 hb57=>?_)))
     ·refine ah ?_
      refine bO (gG (ae hb57 fun m60 hm60 hb57=>aa (aS 2 [] [86] [(87,.agg [pI m60.Product,pI m60.Value])] (db 0 Zg.enc hm60 bx) (by kernel_rfl) (ai rfl (aM (cs:=[pI 0,pI 0]) rfl rfl rfl rfl (fun b61=>aN rfl rfl (aj (vs:=[pI m60.Product,pI m60.Value]) rfl rfl rfl rfl rfl bV oT (aB (cU hb57 fun x62 hx62 hb57=>aa (aS 7 [0] [89,90,91,92,88] [(93,.agg (aK x62.1)),(94,pB x62.2)] (bG 3 (fx hx62) bx) (by kernel_rfl) (ai rfl (aM (cs:=[pI 0,pS ByteArray.empty,pS ByteArray.empty,pI 0,pB false,pN,pN]) rfl rfl rfl rfl (fun b63=>aN rfl rfl (aj (vs:=(aK x62.1)) rfl rfl rfl rfl rfl bV mA (bm [23] (by kernel_rfl) (aT (bJ (ρd:=[PRes.mp (some m3_set_) _,PRes.row a50 _ _ _ _ _]) [(0,0),(1,0),(2,0),(3,0),(4,0),(5,0),(6,0),(7,0),(8,0),(9,1),(10,1),(11,1),(12,1),(13,0)] _ (aO (ap (ap (ap (ap (ap (ap aI)))))) (aO (ap (ap (ap (ap (ap (ap aI)))))) (List.Perm.refl _))) (by kernel_rfl) rfl (ae hb57 fun x64 hx64 hb57=>ae hb57 fun x65 hx65 hb57=>bR 10 [3,0,4,1,5] (rg 98 6) [(95,pO a50 l49.length c51),(96,.agg [pL eI p3.partners,.v (.map (some m3_set_))]),(97,.agg (aK x62.1)),(104,pI x64)] (bG 9 (lJ hx64) bx) (by kernel_rfl) ?_))))))))))))))))))
      refine gb rfl rfl rfl (ba rfl rfl (ρ1:=[_]) (aO (by exact aI) (List.Perm.refl _)) (fP hx65) ?_);rintro _ _ ⟨rfl,rfl⟩
      refine gb rfl rfl rfl (bB rfl rfl rfl rfl rfl (eZ rfl hY) rfl rfl rfl rfl (fun b66=>ae hb57 fun l68 hl68 hb57=>?_))
      refine gb rfl rfl rfl (bN (enc:=Zc.enc) rfl rfl rfl rfl rfl rfl rfl rfl rfl eP (by exact ap (ap aI)) hl68 (fun a69 c70=>?_))
      refine fG 1 [(10,pO a69 l68.length c70)] (by kernel_rfl) (bW (fw (af [108] [(84,pI (IntKind.i64.wrap (v52+1)))] (by kernel_rfl) ?_)))
      exact aY hb57 (a69,c70) (cW rfl (cW rfl (cW rfl (cW rfl (qk rfl))))) (aZ (ap (ap (ap (ap (ap aI))))) (aZ (ap (ap (ap (ap (ap aI))))) (aZ (ap (ap (ap (ap (ap aI))))) (aZ (ap (ap (ap (ap (ap aI))))) (aZ (ap (ap aI)) cI)))))
     refine aP ?_
     refine aq (ak hb57 (fun ht=>am rfl ?_))
     exact fR ((a50,c51),l49) (rW rfl) (aZ aI (aZ aI (aZ (ap (ap aI)) (aZ (ap (ap aI)) bL)))) ht.symm
    rintro ⟨⟨a54,c55⟩,l56⟩ τ ρ1 hsub72 hz;(try dsimp only at hz hsub72);subst q58;(try dsimp only at hq28);dsimp only [az]
    refine aD ?_
    obtain rfl:=osi hq28
    exact au ((a54,c55),(l56,l35)) (rW rfl) (PSub.trans yu hsub72) rfl
   rintro ⟨⟨a24,c25⟩,⟨l26,l27⟩⟩ τ hz;(try dsimp only at hz);subst q28;(try dsimp only at hb19);dsimp only [az]
   refine af [109] [(30,pI (IntKind.i64.wrap (v13+1)))] (by kernel_rfl) ?_
   exact aY hb19 (a24,c25) (rW rfl) yu
  refine aP ?_
  refine aq (ak hb19 (fun ht=>am rfl ?_))
  exact au ((a10,c11),(l9,l12)) (nS rfl) (aZ (ap (ap aI)) (aZ (ap (ap aI)) bL)) ht.symm
 rintro ⟨⟨a15,c16⟩,⟨l17,l18⟩⟩ τ hz;(try dsimp only at hz);subst q20;(try dsimp only at h);dsimp only [az]
 refine ag (bJ (ρd:=[]) [(0,0),(1,0),(2,0),(3,0),(4,0),(5,0),(6,0),(7,0)] _ (List.Perm.refl _) (by kernel_rfl) rfl (ae h fun l73 hl73 h=>bR 8 [] (rg 110 6) [(8,pO a15 l17.length c16),(9,pL eS l73)] (uz 5 eS 1 (fun _=>rfl) hl73 bx) (by kernel_rfl) (bW (aT ?_))))
 refine eY (enc:=Zc.enc) (xs:=l17) 8 rfl (by exact ap aI) ?_
 refine bU ?_
 obtain rfl:=osi h
 exact aQ (dp (aX rfl) (aX rfl)) (aZ (ap aI) bL) ⟨rfl,rfl⟩
def dJ (p0:(List Ze)) (p1:(List Zb)) (p2:ByteArray) (p3:Za) (p4:(List Za)):Option (Zp×(List Za)):=(bY p0 p1 p2 p3).bind fun x3=>cond (!x3) (some ((⟨ByteArray.empty,0,false,[],[]⟩:Zp),[])) ((cA p0 p3.Product).bind fun x5=>(dO p1 p3.Agreement).bind fun x7=>(dS p1 p3.Agreement x5.1.Country p2).bind fun x9=>(bf (S:=Int×(List (Za×Bool))) (T:=((List (Za×Bool)))) (fun (v12,l13)=>cond (decide (v12<(p4.length:Int))) ((idx p4 v12).bind fun m18=>some (.inl ((IntKind.i64.wrap (v12+1)),(mS l13 m18 true)))) (some (.inr l13))) FUEL (0,([]:List (Za×Bool)))).bind fun l14=>(eO p0 x7.1 x5.1 (⟨x9,l14⟩:Zq)).bind fun x20=>(bf (S:=(List Za)×Int×(List Zi)) (T:=((List Za)×(List Zi))) (fun (l23,v26,l28)=>cond (decide (v26<(x20.1.length:Int))) (((idx x20.1 v26).bind fun m53=>(Icumulation_supply_input m53).bind fun x54=>(app 32 l28 [x54]).bind fun l57=>cond (Zc.is_proved_ m53) ((app 16 l23 [(((Zc.as_proved_ m53)).premise)]).bind fun l65=>some (l65,l57)) (some (l23,l57))).bind fun (l47,l51)=>some (.inl (l47,(IntKind.i64.wrap (v26+1)),l51))) (some (.inr (l23,l28)))) FUEL (([]:List Za),0,([]:List Zi))).bind fun (l34,l38)=>(bD l34).bind fun x69=>(bu x69).bind fun x70=>some ((⟨x5.1.Code,x5.1.Price,x5.1.Obtained,x20.2,l38⟩:Zp),x70))
theorem iS {p0:(List Ze)} {p1:(List Zb)} {p2:ByteArray} {p3:Za} {p4:(List Za)} {r:(Zp×(List Za))}  (h:dJ p0 p1 p2 p3 p4=some r):PF 17 [pL Ze.enc p0,pL Zb.enc p1,pS p2,.agg [pI p3.Product,pI p3.Agreement],pL Za.enc p4] (.tup [.agg (eV r.1),pL Za.enc r.2]):=by
 unfold dJ at h
 refine bk ?_
 refine ed Tryz.func17 rfl Tryz.ntmps17 Tryz.results17 rfl (aa (ai rfl (bM (cs:=[pI p3.Product,pI p3.Agreement]) rfl rfl (fun b1=>ai rfl (aM (cs:=[pS ByteArray.empty,pI 0,pB false,pN,pN]) rfl rfl rfl rfl (fun b2=>bm [11] (by kernel_rfl) (cY (ae h fun x3 hx3 h=>aw [1] (rg 27 5) [(32,pB (!x3))] (bG 4 (eR hx3) bx) (by kernel_rfl) (bT rfl h (fun hc4 h=>?_) fun hc4 h=>?_)))))))))
 ·refine ag ?_
  refine aa (av 1 [(33,.agg [pS ByteArray.empty,pI 0,pB false,pN,pN])] (by kernel_rfl) (aN rfl rfl (aj (vs:=[pS ByteArray.empty,pI 0,pB false,pN,pN]) rfl rfl rfl rfl rfl bV zl (aG [(11,pN)] (by kernel_rfl) (aT (cb (k:=3) (b:=b2) rfl bV (cb (k:=4) (b:=b2) rfl bV (nx 11 rfl (bU (aA ?_))))))))))
  obtain rfl:=osi h
  exact aQ (dp (cE rfl eP rfl) (aX rfl)) bL ⟨rfl,rfl⟩
 refine ah ?_
 refine cU h fun x5 hx5 h=>aa (aS 7 [1] [35,36,37,38,34] [(39,.agg (aK x5.1)),(40,pB x5.2)] (bG 3 (fx hx5) bx) (by kernel_rfl) (ai rfl (aM (cs:=[pI 0,pS ByteArray.empty,pS ByteArray.empty,pI 0,pB false,pN,pN]) rfl rfl rfl rfl (fun b6=>aN rfl rfl (aj (vs:=(aK x5.1)) rfl rfl rfl rfl rfl bV mA (bm [13] (by kernel_rfl) (cU h fun x7 hx7 h=>aa (aS 7 [2] [42,43,44,45,41] [(46,.agg (al x7.1)),(47,pB x7.2)] (bG 3 (gw hx7) bx) (by kernel_rfl) (ai rfl (aM (cs:=[pI 0,pI 0,pN,pN]) rfl rfl rfl rfl (fun b8=>aN rfl rfl (aj (vs:=(al x7.1)) rfl rfl rfl rfl rfl bV wK (bm [15] (by kernel_rfl) (cU h fun x9 hx9 h=>aa (aS 7 [3,1] (rg 48 6) [(54,pL eI x9)] (bG 6 (ls hx9) bx) (by kernel_rfl) (ai rfl (uI Za.key vT rfl (fun b10=>av 1 [(56,.agg [pL eI x9,.v (.map (some b10))])] (by kernel_rfl) (ai rfl (aM (cs:=[pN,.v (.map none)]) rfl rfl rfl rfl (fun b11=>aN rfl rfl (aj (vs:=[pL eI x9,.v (.map (some b10))]) rfl rfl rfl rfl rfl bV oT (aB (cY (an [(57,pL Za.enc p4),(58,pI (p4.length:Int)),(59,pI 0)] (by kernel_rfl) (gn h fun q16 hq16 h=>?_))))))))))))))))))))))))))
 refine ar (Y:=Unit×((List (Za×Bool)))) (fun (_,l14)=>[(0,pL Ze.enc p0),(10,pP b2 0),(12,pP b6 0),(14,pP b8 0),(16,pP b11 0)]) (fun (_,l14)=>[PRes.mp (some b10) (gc Za.key vT l14),PRes.b b11 96 [pL eI x9,.v (.map (some b10))],PRes.b b2 36 [pS ByteArray.empty,pI 0,pB false,pN,pN],PRes.b b6 76 (aK x5.1),PRes.b b8 81 (al x7.1)]) (fun (_,l14)=>q16=l14) ?_ ?_
 ·refine aC ?_
  refine aJ (Y:=Unit) (S:=Int×(List (Za×Bool))) _ hq16 (fun _ (v12,l13)=>[(0,pL Ze.enc p0),(10,pP b2 0),(12,pP b6 0),(14,pP b8 0),(16,pP b11 0),(57,pL Za.enc p4),(58,pI (p4.length:Int)),(59,pI v12)]) (fun _ (v12,l13)=>[PRes.mp (some b10) (gc Za.key vT l13),PRes.b b11 96 [pL eI x9,.v (.map (some b10))],PRes.b b2 36 [pS ByteArray.empty,pI 0,pB false,pN,pN],PRes.b b6 76 (aK x5.1),PRes.b b8 81 (al x7.1)]) () (rW rfl) (aZ (ap aI) (aZ aI (aZ (ap (ap aI)) (aZ (ap aI) cI)))) ?_
  rintro _ ⟨v12,l13⟩ o τ hb15;(try dsimp only at hb15);dsimp only [az]
  refine ag (an [(60,pB (decide (v12<(p4.length:Int))))] (by kernel_rfl) (bO (kq rfl hb15 (fun hc17 hb15=>?_) fun hc17 hb15=>?_)))
  ·refine ah ?_
   refine bO (gG (ae hb15 fun m18 hm18 hb15=>aa (aS 2 [] [61] [(62,.agg [pI m18.Product,pI m18.Agreement])] (db 0 Za.enc hm18 bx) (by kernel_rfl) (ai rfl (aM (cs:=[pI 0,pI 0]) rfl rfl rfl rfl (fun b19=>aN rfl rfl (aj (vs:=[pI m18.Product,pI m18.Agreement]) rfl rfl rfl rfl rfl bV oT (aB (aT (aa (cw 3 [2,0] [63] [(64,.v (.map (some b10))),(65,.agg [pI m18.Product,pI m18.Agreement])] (by kernel_rfl) (aN rfl rfl (th (xs:=l13) (k:=m18) (ek:=Za.key) (vv:=vT) (v:=true) rfl rfl Za.kenc28 rfl rfl zQ rfl (cG bV) (aB (fw (af [66] [(59,pI (IntKind.i64.wrap (v12+1)))] (by kernel_rfl) ?_))))))))))))))))
   exact aY hb15 () (rW rfl) (aZ (ap aI) (aZ (ap aI) (aZ (ap aI) (aZ (ap aI) (aZ (ap aI) bL)))))
  refine aP ?_
  refine aq (ak hb15 (fun ht=>am rfl ?_))
  exact au ((),l13) (mz rfl) zs5 ht.symm
 rintro ⟨_,l14⟩ τ hz;(try dsimp only at hz);subst q16;(try dsimp only at h);dsimp only [az]
 refine ag (ae h fun x20 hx20 h=>aa (e9 4 [4,3,1] [(68,pL Ze.enc p0),(69,.agg (al x7.1)),(70,.agg (aK x5.1)),(71,.agg [pL eI x9,.v (.map (some b10))])] (by kernel_rfl) ?_))
 refine ai rfl (ba rfl rfl (ρ1:=[_]) (aO (by exact aI) (List.Perm.refl _)) (mb hx20) ?_);rintro _ _ ⟨rfl,rfl⟩
 refine iN [67,73,74] [(19,pL Zc.enc x20.1),(20,pL eS x20.2)] (by kernel_rfl) (bO (aa (cw 8 [3,3,3] (rg 75 7) [(82,.agg [pS x5.1.Code,pI x5.1.Price,pB x5.1.Obtained,pL eS x20.2,pN])] (by kernel_rfl) (ai rfl (aM (cs:=[pS ByteArray.empty,pI 0,pB false,pN,pN]) rfl rfl rfl rfl (fun b21=>aN rfl rfl (aj (vs:=[pS x5.1.Code,pI x5.1.Price,pB x5.1.Obtained,pL eS x20.2,pN]) rfl rfl rfl rfl rfl bV zl (aB (bO (an [(22,pN)] (by kernel_rfl) (cY (an [(83,pL Zc.enc x20.1),(84,pI (x20.1.length:Int)),(85,pI 0)] (by kernel_rfl) (aT (cF 28 2 (cF 103 3 (ae h fun q40 hq40 h=>?_))))))))))))))))
 refine ar (Y:=(Option Addr×Nat×Option Addr×Nat)×((List Za)×(List Zi))) (fun ((a32,c33,a36,c37),(l34,l38))=>[(10,pP b2 0),(21,pP b21 0),(22,pO a32 l34.length c33)]) (fun ((a32,c33,a36,c37),(l34,l38))=>[PRes.b b2 36 [pS ByteArray.empty,pI 0,pB false,pN,pN],PRes.b b21 36 [pS x5.1.Code,pI x5.1.Price,pB x5.1.Obtained,pL eS x20.2,pO a36 l38.length c37],PRes.row a32 l34.length c33 28 2 (List.map Za.enc l34),PRes.row a36 l38.length c37 103 3 (List.map Zi.enc l38)]) (fun ((a32,c33,a36,c37),(l34,l38))=>q40=(l34,l38)) ?_ ?_
 ·refine aC ?_
  refine aJ (Y:=Option Addr×Nat×Option Addr×Nat) (S:=(List Za)×Int×(List Zi)) _ hq40 (fun (a24,c25,a29,c30) (l23,v26,l28)=>[(10,pP b2 0),(21,pP b21 0),(22,pO a24 l23.length c25),(83,pL Zc.enc x20.1),(84,pI (x20.1.length:Int)),(85,pI v26)]) (fun (a24,c25,a29,c30) (l23,v26,l28)=>[PRes.b b2 36 [pS ByteArray.empty,pI 0,pB false,pN,pN],PRes.b b21 36 [pS x5.1.Code,pI x5.1.Price,pB x5.1.Obtained,pL eS x20.2,pO a29 l28.length c30],PRes.row a24 l23.length c25 28 2 (List.map Za.enc l23),PRes.row a29 l28.length c30 103 3 (List.map Zi.enc l28)]) (none,0,none,0) (rt rfl) (aZ (ap (ap (ap (ap (ap aI))))) (aZ (ap (ap aI)) (aZ (ap aI) cI))) ?_
  rintro ⟨a24,c25,a29,c30⟩ ⟨l23,v26,l28⟩ o τ hb39;(try dsimp only at hb39);dsimp only [az]
  refine ag (an [(86,pB (decide (v26<(x20.1.length:Int))))] (by kernel_rfl) (bO (kq rfl hb39 (fun hc43 hb39=>?_) fun hc43 hb39=>?_)))
  ·refine ah ?_
   refine cU hb39 fun q52 hq52 hb39=>?_
   refine ar (Y:=(Option Addr×Nat×Option Addr×Nat)×((List Za)×(List Zi))) (fun ((a45,c46,a49,c50),(l47,l51))=>[(10,pP b2 0),(21,pP b21 0),(22,pO a45 l47.length c46),(83,pL Zc.enc x20.1),(84,pI (x20.1.length:Int)),(85,pI v26)]) (fun ((a45,c46,a49,c50),(l47,l51))=>[PRes.b b2 36 [pS ByteArray.empty,pI 0,pB false,pN,pN],PRes.b b21 36 [pS x5.1.Code,pI x5.1.Price,pB x5.1.Obtained,pL eS x20.2,pO a49 l51.length c50],PRes.row a45 l47.length c46 28 2 (List.map Za.enc l47),PRes.row a49 l51.length c50 103 3 (List.map Zi.enc l51)]) (fun ((a45,c46,a49,c50),(l47,l51))=>q52=(l47,l51)) ?_ ?_
   ·skip
    refine gG (ae hq52 fun m53 hm53 hq52=>aw [] [87,88] [(24,Zc.pv m53)] (db 0 Zc.enc hm53 bx) (by kernel_rfl) (cU hq52 fun x54 hx54 hq52=>ae hq52 fun l57 hl57 hq52=>?_))
    refine ar (Y:=Option Addr×Nat) (fun (a58,c59)=>[(10,pP b2 0),(21,pP b21 0),(22,pO a24 l23.length c25),(24,Zc.pv m53),(83,pL Zc.enc x20.1),(84,pI (x20.1.length:Int)),(85,pI v26)]) (fun (a58,c59)=>[PRes.b b2 36 [pS ByteArray.empty,pI 0,pB false,pN,pN],PRes.b b21 36 [pS x5.1.Code,pI x5.1.Price,pB x5.1.Obtained,pL eS x20.2,pO a58 l57.length c59],PRes.row a24 l23.length c25 28 2 (List.map Za.enc l23),PRes.row a58 l57.length c59 103 3 (List.map Zi.enc l57)]) (fun _=>True) ?_ ?_
    ·refine kz (ρd:=[PRes.row a29 _ _ _ _ _,PRes.b b21 _ _]) _ (aO (ap (ap (ap aI))) (aO (ap aI) (List.Perm.refl _))) ?_
     refine cu 0 (by kernel_rfl) rfl rfl rfl rfl (br rfl rfl rfl rfl rfl (.p rfl)) (cu 2 (by kernel_rfl) rfl rfl rfl rfl (ft (p:=Zc.pv m53) rfl (.p rfl)) ?_)
     refine gN 1 3 (by kernel_rfl) ?_ ?_
     ·skip
      refine bd rfl rfl rfl rfl (lE (ce (p:=pO a29 l28.length c30) rfl (.p rfl) rV rfl) (bg 3 (by kernel_rfl) (bd rfl rfl rfl rfl (rX rfl rfl (Icumulation_supply_input_ok hx54) (bg 4 (by kernel_rfl) (bd rfl rfl rfl rfl (bB rfl rfl rfl rfl rfl (eZ rfl hY) rfl rfl rfl rfl (fun b55=>bg 5 (by kernel_rfl) ?_))))))))
      refine bd rfl rfl rfl rfl (bN (enc:=Zi.enc) rfl rfl rfl rfl rfl rfl rfl rfl rfl eP (by exact ap aI) hl57 (fun a58 c59=>?_))
      refine cu 6 (by kernel_rfl) rfl rfl rfl rfl (br rfl rfl rfl rfl rfl (.p rfl)) (bg 7 (by kernel_rfl) (dR rfl rfl rfl (aj (vs:=[pO a58 l57.length c59]) rfl rfl rfl rfl rfl (cG (cG bV)) (cX (cX (cX (cX kR)))) (dQ (by kernel_rfl) ?_))))
      exact au (a58,c59) (n7 rfl) (aZ (ap (ap (ap aI))) (aZ (ap (ap aI)) (aZ (ap (ap aI)) cI))) trivial
     skip
     refine bd rfl rfl rfl rfl (rX rfl rfl (Icumulation_supply_input_ok hx54) ?_)
     refine gN 1 4 (by kernel_rfl) ?_ ?_
     ·skip
      refine bd rfl rfl rfl rfl (lE (ce (p:=pO a29 l28.length c30) rfl (.p rfl) rV rfl) (bg 4 (by kernel_rfl) (bd rfl rfl rfl rfl (bB rfl rfl rfl rfl rfl (eZ rfl hY) rfl rfl rfl rfl (fun b55=>bg 5 (by kernel_rfl) ?_)))))
      refine bd rfl rfl rfl rfl (bN (enc:=Zi.enc) rfl rfl rfl rfl rfl rfl rfl rfl rfl eP (by exact ap aI) hl57 (fun a58 c59=>?_))
      refine cu 6 (by kernel_rfl) rfl rfl rfl rfl (br rfl rfl rfl rfl rfl (.p rfl)) (bg 7 (by kernel_rfl) (dR rfl rfl rfl (aj (vs:=[pO a58 l57.length c59]) rfl rfl rfl rfl rfl (cG (cG bV)) (cX (cX (cX (cX kR)))) (dQ (by kernel_rfl) ?_))))
      exact au (a58,c59) (n7 rfl) (aZ (ap (ap (ap aI))) (aZ (ap (ap aI)) (aZ (ap (ap aI)) cI))) trivial
     skip
     refine bd rfl rfl rfl rfl (bB rfl rfl rfl rfl rfl (eZ rfl hY) rfl rfl rfl rfl (fun b55=>bg 1 (by kernel_rfl) (bd rfl rfl rfl rfl (lE (ce (p:=pO a29 l28.length c30) rfl (.p rfl) rn rfl) (bg 5 (by kernel_rfl) ?_)))))
     refine bd rfl rfl rfl rfl (bN (enc:=Zi.enc) rfl rfl rfl rfl rfl rfl rfl rfl rfl eP (by exact ap aI) hl57 (fun a58 c59=>?_))
     refine cu 6 (by kernel_rfl) rfl rfl rfl rfl (br rfl rfl rfl rfl rfl (.p rfl)) (bg 7 (by kernel_rfl) (dR rfl rfl rfl (aj (vs:=[pO a58 l57.length c59]) rfl rfl rfl rfl rfl (cG (cG bV)) (cX (cX (cX (cX kR)))) (dQ (by kernel_rfl) ?_))))
     exact au (a58,c59) (n7 rfl) (aZ (ap (ap (ap aI))) (aZ (ap (ap aI)) (aZ (ap (ap aI)) cI))) trivial
    rintro ⟨a58,c59⟩ τ _;dsimp only [az]
    refine ag (aa (aS 5 [] [97,98,96] [(99,.agg [pS ((((Zc.as_proved_ m53)).use).Code),pI ((((Zc.as_proved_ m53)).use).Value),pB ((((Zc.as_proved_ m53)).use).Originating),pI ((((Zc.as_proved_ m53)).premise).Product),pI ((((Zc.as_proved_ m53)).premise).Agreement)]),(100,pB (Zc.is_proved_ m53))] (fota 1 (Zc.ta_proved_ m53) bx) (by kernel_rfl) (ai rfl (aM (cs:=[pS ByteArray.empty,pI 0,pB false,pI 0,pI 0]) rfl rfl rfl rfl (fun b61=>aN rfl rfl (aj (vs:=[pS ((((Zc.as_proved_ m53)).use).Code),pI ((((Zc.as_proved_ m53)).use).Value),pB ((((Zc.as_proved_ m53)).use).Originating),pI ((((Zc.as_proved_ m53)).premise).Product),pI ((((Zc.as_proved_ m53)).premise).Agreement)]) rfl rfl rfl rfl rfl bV zl (aG [(26,pB (Zc.is_proved_ m53))] (by kernel_rfl) (bO (an [(101,pB (Zc.is_proved_ m53))] (by kernel_rfl) (bT rfl hq52 (fun hc62 hq52=>?_) fun hc62 hq52=>?_))))))))))
    ·refine aa ?_
     refine cw 3 [0] [103] [(102,pO a24 l23.length c25),(104,.agg [pI ((((Zc.as_proved_ m53)).premise).Product),pI ((((Zc.as_proved_ m53)).premise).Agreement)])] (by kernel_rfl) (ai rfl (bB rfl rfl rfl rfl rfl (eZ rfl hY) rfl rfl rfl rfl (fun b63=>ae hq52 fun l65 hl65 hq52=>?_)))
     refine ai rfl (bN (enc:=Za.enc) rfl rfl rfl rfl rfl rfl rfl rfl rfl eP (by exact ap (ap (ap (ap aI)))) hl65 (fun a66 c67=>?_))
     refine aG [(22,pO a66 l65.length c67)] (by kernel_rfl) (aD ?_)
     obtain rfl:=osi hq52
     exact au ((a66,c67,a58,c59),(l65,l57)) (rt rfl) (aZ (ap (ap (ap aI))) (aZ (ap (ap (ap aI))) (aZ aI (aZ (ap (ap aI)) bL)))) rfl
    refine ah ?_
    refine aD ?_
    obtain rfl:=osi hq52
    exact au ((a24,c25,a58,c59),(l23,l57)) (rt rfl) (aZ (ap aI) (aZ (ap aI) (aZ (ap aI) (aZ (ap aI) bL)))) rfl
   rintro ⟨⟨a45,c46,a49,c50⟩,⟨l47,l51⟩⟩ τ hz;(try dsimp only at hz);subst q52;(try dsimp only at hb39);dsimp only [az]
   refine af [107] [(85,pI (IntKind.i64.wrap (v26+1)))] (by kernel_rfl) ?_
   exact aY hb39 (a45,c46,a49,c50) (rt rfl) yu
  refine aP ?_
  refine aq (ak hb39 (fun ht=>am rfl ?_))
  exact au ((a24,c25,a29,c30),(l23,l28)) (lF rfl) yu ht.symm
 rintro ⟨⟨a32,c33,a36,c37⟩,⟨l34,l38⟩⟩ τ hz;(try dsimp only at hz);subst q40;(try dsimp only at h);dsimp only [az]
 refine ag (ae h fun x69 hx69 h=>aa (av 1 [(108,pO a32 l34.length c33)] (by kernel_rfl) ?_))
 refine ai rfl (ba rfl rfl (ρ1:=[_]) (aO (by exact ap (ap aI)) (List.Perm.refl _)) (ca hx69) ?_);rintro _ _ ⟨rfl,rfl⟩
 refine aB (bO ?_)
 refine sU (css:=List.map Zi.enc l38) (a:=a36) (by exact ap (ap (ap aI))) ?_
 refine rS (k:=4) (enc:=Zi.enc) (xs:=l38) (b:=b21) (a:=a36) rfl eP (cG (cG (cG bV))) (bJ (ρd:=[PRes.row a32 _ _ _ _ _,PRes.b b2 _ _]) [(0,0),(1,0),(2,1),(3,1),(4,0)] _ (aO (ap aI) (aO (ap aI) (List.Perm.refl _))) (by kernel_rfl) rfl (ae h fun x70 hx70 h=>zZ 2 [1] [(110,.agg [pS x5.1.Code,pI x5.1.Price,pB x5.1.Obtained,pL eS x20.2,pL Zi.enc l38]),(111,pO a32 l34.length c33)] (by kernel_rfl) ?_))
 refine gb rfl rfl rfl (ba rfl rfl (ρ1:=[_]) (aO (by exact aI) (List.Perm.refl _)) (eu hx70) ?_);rintro _ _ ⟨a71,c72,rfl,rfl⟩
 refine vC rfl rfl (aj (vs:=[pS x5.1.Code,pI x5.1.Price,pB x5.1.Obtained,pL eS x20.2,pL Zi.enc l38]) rfl rfl rfl rfl rfl (cG bV) zl (fG 1 [(11,pO a71 x70.length c72)] (by kernel_rfl) (bW (aT ?_))))
 refine eY (enc:=Za.enc) (xs:=x70) 11 rfl (by exact aI) ?_
 refine bU ?_
 obtain rfl:=osi h
 exact aQ (dp (cE rfl rV rfl) (aX rfl)) bL ⟨rfl,rfl⟩
def fX (p0:ByteArray):Option Bool:=(el p0).bind fun x1=>some (decide (6≤x1))
theorem j9 {p0:ByteArray} {r:Bool}  (h:fX p0=some r):PF 62 [pS p0] (pB r):=by
 unfold fX at h
 refine bk ?_
 refine ed Tryz.func62 rfl Tryz.ntmps62 Tryz.results62 rfl (aU [2] (by kernel_rfl) (cU h fun x1 hx1 h=>aw [] [3,4,5] [(2,pB (decide (6≤x1)))] (bG 1 (fO hx1) bx) (by kernel_rfl) (em ?_)))
 exact zz r h rfl
def dK (p0:Zp):Option Int:=(fX p0.Code).bind fun x2=>cond (!x2) (some (1:Int)) (cond ((decide (p0.Price<1))||(decide (1000000000000<p0.Price))) (some (2:Int)) ((di p0.Processes).bind fun x5=>cond (!x5) (some (1:Int)) (cond (decide (100<(p0.Inputs.length:Int))) (some (8:Int)) ((bf (S:=Int) (T:=(Unit)⊕(_)) (fun v8=>cond (decide (v8<(p0.Inputs.length:Int))) ((idx p0.Inputs v8).bind fun m12=>(fX m12.Code).bind fun x14=>cond (!x14) (some (.inr (.inr (1:Int)))) (cond ((decide (m12.Value<0))||(decide (1000000000000<m12.Value))) (some (.inr (.inr (2:Int)))) (some (.inl (IntKind.i64.wrap (v8+1)))))) (some (.inr (.inl ())))) FUEL 0).bind fun q=>match q with | .inl _=>some (0:Int) | .inr e=>some e))))
theorem mg {p0:Zp} {r:Int}  (h:dK p0=some r):PF 21 [.agg (eV p0)] (pI r):=by
 unfold dK at h
 refine bk ?_
 refine ed Tryz.func21 rfl Tryz.ntmps21 Tryz.results21 rfl (aa (ai rfl (bM (cs:=(eV p0)) rfl rfl (fun b1=>bm [2] (by kernel_rfl) (bO (gG (ae h fun x2 hx2 h=>aw [0] [6,7,8,9] [(5,pB (!x2))] (bG 2 (j9 hx2) bx) (by kernel_rfl) (bT rfl h (fun hc3 h=>?_) fun hc3 h=>?_))))))))
 ·refine ag ?_
  refine fm [(2,pI 1)] (by kernel_rfl) (iX ?_)
  exact zz r h rfl
 refine ag ?_
 refine bj [0,0] (rg 11 8) [(10,pB ((decide (p0.Price<1))||(decide (1000000000000<p0.Price))))] (by kernel_rfl) (bT rfl h (fun hc4 h=>?_) fun hc4 h=>?_)
 ·refine ag ?_
  refine fm [(2,pI 2)] (by kernel_rfl) (iX ?_)
  exact zz r h rfl
 refine ag ?_
 refine ae h fun x5 hx5 h=>aw [0] [20,21,22,23] [(19,pB (!x5))] (bG 2 (i9 hx5) bx) (by kernel_rfl) (bT rfl h (fun hc6 h=>?_) fun hc6 h=>?_)
 ·refine ag ?_
  refine fm [(2,pI 1)] (by kernel_rfl) (iX ?_)
  exact zz r h rfl
 refine ag ?_
 refine bj [0] [25,26,27,28] [(24,pB (decide (100<(p0.Inputs.length:Int))))] (by kernel_rfl) (bT rfl h (fun hc7 h=>?_) fun hc7 h=>?_)
 ·refine ag ?_
  refine fm [(2,pI 8)] (by kernel_rfl) (iX ?_)
  exact zz r h rfl
 refine ah ?_
 refine aD (cY (bj [0] [29] [(30,pL Zi.enc p0.Inputs),(31,pI (p0.Inputs.length:Int)),(32,pI 0)] (by kernel_rfl) (gn h fun q10 hq10 h=>?_)))
 refine ar (Y:=Unit×Unit) (fun (_,_)=>[]) (fun (_,_)=>[]) (fun (_,_)=>q10=Sum.inl ()) ?_ ?_
 ·refine aC ?_
  refine aJ (Y:=Unit) (S:=Int) _ hq10 (fun _ v8=>[(30,pL Zi.enc p0.Inputs),(31,pI (p0.Inputs.length:Int)),(32,pI v8)]) (fun _ v8=>[]) () (lF rfl) bL ?_
  rintro _ v8 o τ hb9;(try dsimp only at hb9);dsimp only [az]
  refine ag (an [(33,pB (decide (v8<(p0.Inputs.length:Int))))] (by kernel_rfl) (bO (kq rfl hb9 (fun hc11 hb9=>?_) fun hc11 hb9=>?_)))
  ·refine ah ?_
   refine bO (gG (ae hb9 fun m12 hm12 hb9=>aa (aS 2 [] [34] [(35,.agg [pS m12.Code,pI m12.Value,pB m12.Originating])] (db 0 Zi.enc hm12 bx) (by kernel_rfl) (ai rfl (aM (cs:=[pS ByteArray.empty,pI 0,pB false]) rfl rfl rfl rfl (fun b13=>aN rfl rfl (aj (vs:=[pS m12.Code,pI m12.Value,pB m12.Originating]) rfl rfl rfl rfl rfl bV zl3 (aB (cY (ae hb9 fun x14 hx14 hb9=>aw [0] [36,37,38] [(39,pB (!x14))] (bG 2 (j9 hx14) bx) (by kernel_rfl) (bT rfl hb9 (fun hc15 hb9=>?_) fun hc15 hb9=>?_)))))))))))
   ·refine ag ?_
    refine fm [(2,pI 1)] (by kernel_rfl) (aA (iX ?_))
    refine aW hb9 (fun ht=>?_);subst ht
    refine aL (aV ?_)
    exact zz r h rfl
   refine ah ?_
   refine bO (bj [0,0] (rg 40 7) [(47,pB ((decide (m12.Value<0))||(decide (1000000000000<m12.Value))))] (by kernel_rfl) (bT rfl hb9 (fun hc16 hb9=>?_) fun hc16 hb9=>?_))
   ·refine ag ?_
    refine fm [(2,pI 2)] (by kernel_rfl) (iX ?_)
    refine aW hb9 (fun ht=>?_);subst ht
    refine aL (aV ?_)
    exact zz r h rfl
   refine ah ?_
   refine fw (af [48] [(32,pI (IntKind.i64.wrap (v8+1)))] (by kernel_rfl) ?_)
   exact aY hb9 () (lF rfl) bL
  refine aP ?_
  refine aq (ak hb9 (fun ht=>am rfl ?_))
  exact au ((),()) mN bL ht.symm
 rintro ⟨_,_⟩ τ hz;(try dsimp only at hz);subst q10;(try dsimp only at h);dsimp only [az]
 refine ag (fm [(2,pI 0)] (by kernel_rfl) ?_)
 exact zz r h rfl
def eT (p0:(List Zf)):Option Int:=(bf (S:=Int) (T:=(Unit)⊕(_)) (fun v1=>cond (decide (v1<(p0.length:Int))) ((idx p0 v1).bind fun m5=>(el m5.Prefix).bind fun x7=>cond (x7 == 0) (some (.inr (.inr (1:Int)))) ((gd (decide (0<v1)) (idx p0 (IntKind.i64.wrap (v1 - 1)))).bind fun m9=>cond ((decide (0<v1))&&(Op.bytesLess m5.Prefix.toList m9.Prefix.toList||decide (m5.Prefix=m9.Prefix))) (some (.inr (.inr (9:Int)))) ((eQ m5.Rule).bind fun x11=>cond (x11 != 0) (some (.inr (.inr x11))) (some (.inl (IntKind.i64.wrap (v1+1))))))) (some (.inr (.inl ())))) FUEL 0).bind fun q=>match q with | .inl _=>some (0:Int) | .inr e=>some e
theorem jo {p0:(List Zf)} {r:Int}  (h:eT p0=some r):PF 112 [pL Zf.enc p0] (pI r):=by
 unfold eT at h
 refine bk ?_
 refine ed Tryz.func112 rfl Tryz.ntmps112 Tryz.results112 rfl (aU [2] (by kernel_rfl) (cY (an [(6,pL Zf.enc p0),(7,pI (p0.length:Int)),(8,pI 0)] (by kernel_rfl) (gn h fun q3 hq3 h=>?_))))
 refine ar (Y:=Unit×Unit) (fun (_,_)=>[]) (fun (_,_)=>[]) (fun (_,_)=>q3=Sum.inl ()) ?_ ?_
 ·refine aC ?_
  refine aJ (Y:=Unit) (S:=Int) _ hq3 (fun _ v1=>[(0,pL Zf.enc p0),(6,pL Zf.enc p0),(7,pI (p0.length:Int)),(8,pI v1)]) (fun _ v1=>[]) () (jW rfl) bL ?_
  rintro _ v1 o τ hb2;(try dsimp only at hb2);dsimp only [az]
  refine ag (an [(9,pB (decide (v1<(p0.length:Int))))] (by kernel_rfl) (bO (kq rfl hb2 (fun hc4 hb2=>?_) fun hc4 hb2=>?_)))
  ·refine ah ?_
   refine bO (gG (ae hb2 fun m5 hm5 hb2=>aa (aS 3 [] [11] [(10,pI v1),(12,.agg (cM m5))] (db 1 Zf.enc hm5 bx) (by kernel_rfl) (ai rfl (aM (cs:=[pS ByteArray.empty,pI 0,pI 0,pN,pI 0,pI 0,pS ByteArray.empty,pN]) rfl rfl rfl rfl (fun b6=>av 1 [(3,pI v1)] (by kernel_rfl) (aN rfl rfl (aj (vs:=(cM m5)) rfl rfl rfl rfl rfl bV zl8 (aB (cY (ae hb2 fun x7 hx7 hb2=>aw [0] [13,14,15] [(16,pB (x7 == 0))] (bG 2 (fO hx7) bx) (by kernel_rfl) (bT rfl hb2 (fun hc8 hb2=>?_) fun hc8 hb2=>?_))))))))))))
   ·refine ag ?_
    refine fm [(2,pI 1)] (by kernel_rfl) (aA (iX ?_))
    refine aW hb2 (fun ht=>?_);subst ht
    refine aL (aV ?_)
    exact zz r h rfl
   refine ah ?_
   refine cY (bJ (ρd:=[]) [(0,0),(1,0),(2,0),(3,0),(4,0),(5,0),(6,0),(7,0),(8,0),(9,0),(10,0),(11,0),(12,0)] _ (List.Perm.refl _) (by kernel_rfl) rfl (ae hb2 fun m9 hm9 hb2=>bR 13 [0] (rg 17 12) [(29,pB ((decide (0<v1))&&(Op.bytesLess m5.Prefix.toList m9.Prefix.toList||decide (m5.Prefix=m9.Prefix))))] (ia 8 Zf.enc (dB hm9) bx) (by kernel_rfl) (bW (bT rfl hb2 (fun hc10 hb2=>?_) fun hc10 hb2=>?_))))
   ·refine ag ?_
    refine fm [(2,pI 9)] (by kernel_rfl) (aA (iX ?_))
    refine aW hb2 (fun ht=>?_);subst ht
    refine aL (aV ?_)
    exact zz r h rfl
   refine ah ?_
   refine cU hb2 fun x11 hx11 hb2=>aw [0] [30,31,32] [(5,pI x11)] (bG 2 (iw hx11) bx) (by kernel_rfl) (bO (af [33] [(34,pB (x11 != 0))] (by kernel_rfl) (bT rfl hb2 (fun hc12 hb2=>?_) fun hc12 hb2=>?_)))
   ·refine ag ?_
    refine af [35] [(2,pI x11)] (by kernel_rfl) (em (iX ?_))
    refine aW hb2 (fun ht=>?_);subst ht
    refine aL (aV ?_)
    exact zz r h rfl
   refine ah ?_
   refine fw (af [36] [(8,pI (IntKind.i64.wrap (v1+1)))] (by kernel_rfl) ?_)
   exact aY hb2 () (jW rfl) bL
  refine aP ?_
  refine aq (ak hb2 (fun ht=>am rfl ?_))
  exact au ((),()) mN bL ht.symm
 rintro ⟨_,_⟩ τ hz;(try dsimp only at hz);subst q3;(try dsimp only at h);dsimp only [az]
 refine ag (fm [(2,pI 0)] (by kernel_rfl) ?_)
 exact zz r h rfl
def ga (p0:(List Zb)):Option Int:=cond (decide (8<(p0.length:Int))) (some (8:Int)) ((bf (S:=Int) (T:=(Unit)⊕(_)) (fun v2=>cond (decide (v2<(p0.length:Int))) ((idx p0 v2).bind fun m6=>cond ((((decide (m6.ID<1))||(decide (1000<m6.ID)))||(decide (m6.Kind<1)))||(decide (3<m6.Kind))) (some (.inr (.inr (2:Int)))) ((gd (decide (0<v2)) (idx p0 (IntKind.i64.wrap (v2 - 1)))).bind fun m9=>cond ((decide (0<v2))&&(decide (m6.ID≤m9.ID))) (some (.inr (.inr (9:Int)))) (cond ((decide (12<(m6.Parties.length:Int)))||(decide (12<(m6.Rules.length:Int)))) (some (.inr (.inr (8:Int)))) ((fk m6.Parties).bind fun x12=>cond (!x12) (some (.inr (.inr (1:Int)))) ((eT m6.Rules).bind fun x14=>cond (x14 != 0) (some (.inr (.inr x14))) (some (.inl (IntKind.i64.wrap (v2+1))))))))) (some (.inr (.inl ())))) FUEL 0).bind fun q=>match q with | .inl _=>some (0:Int) | .inr e=>some e)
theorem lu {p0:(List Zb)} {r:Int}  (h:ga p0=some r):PF 64 [pL Zb.enc p0] (pI r):=by
 unfold ga at h
 refine bk ?_
 refine ed Tryz.func64 rfl Tryz.ntmps64 Tryz.results64 rfl (aU [2] (by kernel_rfl) (cY (af [6,7] [(8,pB (decide (8<(p0.length:Int))))] (by kernel_rfl) (bT rfl h (fun hc1 h=>?_) fun hc1 h=>?_))))
 ·refine ag ?_
  refine fm [(2,pI 8)] (by kernel_rfl) (aA ?_)
  exact zz r h rfl
 refine ah ?_
 refine cY (an [(9,pL Zb.enc p0),(10,pI (p0.length:Int)),(11,pI 0)] (by kernel_rfl) (gn h fun q4 hq4 h=>?_))
 refine ar (Y:=Unit×Unit) (fun (_,_)=>[]) (fun (_,_)=>[]) (fun (_,_)=>q4=Sum.inl ()) ?_ ?_
 ·refine aC ?_
  refine aJ (Y:=Unit) (S:=Int) _ hq4 (fun _ v2=>[(0,pL Zb.enc p0),(9,pL Zb.enc p0),(10,pI (p0.length:Int)),(11,pI v2)]) (fun _ v2=>[]) () (jW rfl) bL ?_
  rintro _ v2 o τ hb3;(try dsimp only at hb3);dsimp only [az]
  refine ag (an [(12,pB (decide (v2<(p0.length:Int))))] (by kernel_rfl) (bO (kq rfl hb3 (fun hc5 hb3=>?_) fun hc5 hb3=>?_)))
  ·refine ah ?_
   refine bO (gG (ae hb3 fun m6 hm6 hb3=>aa (aS 3 [] [14] [(13,pI v2),(15,.agg (al m6))] (db 1 Zb.enc hm6 bx) (by kernel_rfl) (ai rfl (aM (cs:=[pI 0,pI 0,pN,pN]) rfl rfl rfl rfl (fun b7=>av 1 [(3,pI v2)] (by kernel_rfl) (aN rfl rfl (aj (vs:=(al m6)) rfl rfl rfl rfl rfl bV wK (aB (cY (bj [0,0,0,0] (rg 16 17) [(33,pB ((((decide (m6.ID<1))||(decide (1000<m6.ID)))||(decide (m6.Kind<1)))||(decide (3<m6.Kind))))] (by kernel_rfl) (bT rfl hb3 (fun hc8 hb3=>?_) fun hc8 hb3=>?_))))))))))))
   ·refine ag ?_
    refine fm [(2,pI 2)] (by kernel_rfl) (aA (iX ?_))
    refine aW hb3 (fun ht=>?_);subst ht
    refine aL (aV ?_)
    exact zz r h rfl
   refine ah ?_
   refine cY (bJ (ρd:=[]) [(0,0),(1,0),(2,0),(3,0),(4,0),(5,0),(6,0),(7,0),(8,0),(9,0),(10,0),(11,0),(12,0)] _ (List.Perm.refl _) (by kernel_rfl) rfl (ae hb3 fun m9 hm9 hb3=>bR 13 [0] (rg 34 12) [(46,pB ((decide (0<v2))&&(decide (m6.ID≤m9.ID))))] (ia 8 Zb.enc (dB hm9) bx) (by kernel_rfl) (bW (bT rfl hb3 (fun hc10 hb3=>?_) fun hc10 hb3=>?_))))
   ·refine ag ?_
    refine fm [(2,pI 9)] (by kernel_rfl) (aA (iX ?_))
    refine aW hb3 (fun ht=>?_);subst ht
    refine aL (aV ?_)
    exact zz r h rfl
   refine ah ?_
   refine cY (bj [0,0] (rg 47 9) [(56,pB ((decide (12<(m6.Parties.length:Int)))||(decide (12<(m6.Rules.length:Int)))))] (by kernel_rfl) (bT rfl hb3 (fun hc11 hb3=>?_) fun hc11 hb3=>?_))
   ·refine ag ?_
    refine fm [(2,pI 8)] (by kernel_rfl) (aA (iX ?_))
    refine aW hb3 (fun ht=>?_);subst ht
    refine aL (aV ?_)
    exact zz r h rfl
   refine ah ?_
   refine cY (ae hb3 fun x12 hx12 hb3=>aw [0] [57,58,59] [(60,pB (!x12))] (bG 2 (jQ hx12) bx) (by kernel_rfl) (bT rfl hb3 (fun hc13 hb3=>?_) fun hc13 hb3=>?_))
   ·refine ag ?_
    refine fm [(2,pI 1)] (by kernel_rfl) (aA (iX ?_))
    refine aW hb3 (fun ht=>?_);subst ht
    refine aL (aV ?_)
    exact zz r h rfl
   refine ah ?_
   refine cU hb3 fun x14 hx14 hb3=>aw [0] [61,62,63] [(5,pI x14)] (bG 2 (jo hx14) bx) (by kernel_rfl) (bO (af [64] [(65,pB (x14 != 0))] (by kernel_rfl) (bT rfl hb3 (fun hc15 hb3=>?_) fun hc15 hb3=>?_)))
   ·refine ag ?_
    refine af [66] [(2,pI x14)] (by kernel_rfl) (em (iX ?_))
    refine aW hb3 (fun ht=>?_);subst ht
    refine aL (aV ?_)
    exact zz r h rfl
   refine ah ?_
   refine fw (af [67] [(11,pI (IntKind.i64.wrap (v2+1)))] (by kernel_rfl) ?_)
   exact aY hb3 () (jW rfl) bL
  refine aP ?_
  refine aq (ak hb3 (fun ht=>am rfl ?_))
  exact au ((),()) mN bL ht.symm
 rintro ⟨_,_⟩ τ hz;(try dsimp only at hz);subst q4;(try dsimp only at h);dsimp only [az]
 refine ag (fm [(2,pI 0)] (by kernel_rfl) ?_)
 exact zz r h rfl
def ka  : Option Bool:=(dJ [(⟨1,(⟨#[57,52,48,49,48,49]⟩:ByteArray),(⟨#[65,65]⟩:ByteArray),10,true,[],[]⟩:Ze),(⟨2,(⟨#[57,52,48,49,48,50]⟩:ByteArray),(⟨#[66,66]⟩:ByteArray),10,false,[],[(⟨1,4⟩:Zg)]⟩:Ze)] [(⟨7,1,[(⟨#[65,65]⟩:ByteArray),(⟨#[66,66]⟩:ByteArray),(⟨#[67,67]⟩:ByteArray)],[(⟨(⟨#[57,52]⟩:ByteArray),(⟨1,0,[],0,0,ByteArray.empty,[]⟩:Zd)⟩:Zf)]⟩:Zb)] (⟨#[67,67]⟩:ByteArray) (⟨2,7⟩:Za) [(⟨1,7⟩:Za)]).bind fun x13=>(ga [(⟨7,1,[(⟨#[65,65]⟩:ByteArray),(⟨#[66,66]⟩:ByteArray),(⟨#[67,67]⟩:ByteArray)],[(⟨(⟨#[57,52]⟩:ByteArray),(⟨1,0,[],0,0,ByteArray.empty,[]⟩:Zd)⟩:Zf)]⟩:Zb)]).bind fun x15=>(gd (x15 == 0) (bY [(⟨1,(⟨#[57,52,48,49,48,49]⟩:ByteArray),(⟨#[65,65]⟩:ByteArray),10,true,[],[]⟩:Ze),(⟨2,(⟨#[57,52,48,49,48,50]⟩:ByteArray),(⟨#[66,66]⟩:ByteArray),10,false,[],[(⟨1,4⟩:Zg)]⟩:Ze)] [(⟨7,1,[(⟨#[65,65]⟩:ByteArray),(⟨#[66,66]⟩:ByteArray),(⟨#[67,67]⟩:ByteArray)],[(⟨(⟨#[57,52]⟩:ByteArray),(⟨1,0,[],0,0,ByteArray.empty,[]⟩:Zd)⟩:Zf)]⟩:Zb)] (⟨#[67,67]⟩:ByteArray) (⟨2,7⟩:Za))).bind fun x16=>(gd ((x15 == 0)&&x16) (bY [(⟨1,(⟨#[57,52,48,49,48,49]⟩:ByteArray),(⟨#[65,65]⟩:ByteArray),10,true,[],[]⟩:Ze),(⟨2,(⟨#[57,52,48,49,48,50]⟩:ByteArray),(⟨#[66,66]⟩:ByteArray),10,false,[],[(⟨1,4⟩:Zg)]⟩:Ze)] [(⟨7,1,[(⟨#[65,65]⟩:ByteArray),(⟨#[66,66]⟩:ByteArray),(⟨#[67,67]⟩:ByteArray)],[(⟨(⟨#[57,52]⟩:ByteArray),(⟨1,0,[],0,0,ByteArray.empty,[]⟩:Zd)⟩:Zf)]⟩:Zb)] (⟨#[66,66]⟩:ByteArray) (⟨2,7⟩:Za))).bind fun x17=>(gd ((((x15 == 0)&&x16)&&(!x17))&&((x13.1.Inputs.length:Int) == 1)) (idx x13.1.Inputs 0)).bind fun m18=>some ((((((x15 == 0)&&x16)&&(!x17))&&((x13.1.Inputs.length:Int) == 1))&&(Zi.eqb m18 (⟨(⟨#[57,52,48,49,48,49]⟩:ByteArray),4,true⟩:Zi)))&&((x13.2.length:Int) == 1))
theorem qM  {r:Bool}  (h:ka  = some r):PF 22 [] (pB r):=by
 unfold ka at h
 refine bk ?_
 refine ed Tryz.func22 rfl Tryz.ntmps22 Tryz.results22 rfl (aU [0] (by kernel_rfl) (bO (aa (av 2 [(5,.agg [pI 1,pS (⟨#[57,52,48,49,48,49]⟩:ByteArray),pS (⟨#[65,65]⟩:ByteArray),pI 10,pB true,pN,pN]),(6,.agg [pI 1,pI 4])] (by kernel_rfl) (ai rfl (bB rfl rfl rfl rfl rfl (eZ rfl hY) rfl rfl rfl rfl (fun b1=>?_)))))))
 refine fS (enc:=Zg.enc) (xs:=[(⟨1,4⟩:Zg)]) 7 rfl (by exact aI) ?_
 refine av 1 [(8,.agg [pI 2,pS (⟨#[57,52,48,49,48,50]⟩:ByteArray),pS (⟨#[66,66]⟩:ByteArray),pI 10,pB false,pN,pL Zg.enc [(⟨1,4⟩:Zg)]])] (by kernel_rfl) (jD 5 5 rfl rfl (jD 5 6 rfl rfl (jD 8 5 rfl rfl (ai rfl (bB rfl rfl rfl rfl rfl (eZ rfl (eZ rfl hY)) rfl rfl rfl rfl (fun b3=>aG [(1,pO (some ⟨b3,0,none⟩) 2 2)] (by kernel_rfl) (bO (aa (ai rfl (bB rfl rfl rfl rfl rfl (eZ rfl (eZ rfl (eZ rfl hY))) rfl rfl rfl rfl (fun b5=>av 1 [(11,.agg [pI 1,pI 0,pN,pI 0,pI 0,pS ByteArray.empty,pN])] (by kernel_rfl) (jD 11 2 rfl rfl (jD 11 6 rfl rfl (av 1 [(12,.agg [pS (⟨#[57,52]⟩:ByteArray),pI 1,pI 0,pL eS [],pI 0,pI 0,pS ByteArray.empty,pL Zd.enc []])] (by kernel_rfl) (ai rfl (bB rfl rfl rfl rfl rfl (eZ rfl hY) rfl rfl rfl rfl (fun b7=>?_)))))))))))))))))
 refine fS (enc:=eS) (xs:=[(⟨#[65,65]⟩:ByteArray),(⟨#[66,66]⟩:ByteArray),(⟨#[67,67]⟩:ByteArray)]) 10 rfl (by exact ap aI) ?_
 refine fS (enc:=Zf.enc) (xs:=[(⟨(⟨#[57,52]⟩:ByteArray),(⟨1,0,[],0,0,ByteArray.empty,[]⟩:Zd)⟩:Zf)]) 13 rfl (by exact ap aI) ?_
 refine av 1 [(14,.agg [pI 7,pI 1,pL eS [(⟨#[65,65]⟩:ByteArray),(⟨#[66,66]⟩:ByteArray),(⟨#[67,67]⟩:ByteArray)],pL Zf.enc [(⟨(⟨#[57,52]⟩:ByteArray),(⟨1,0,[],0,0,ByteArray.empty,[]⟩:Zd)⟩:Zf)]])] (by kernel_rfl) (ai rfl (bB rfl rfl rfl rfl rfl (eZ rfl hY) rfl rfl rfl rfl (fun b9=>aG [(2,pO (some ⟨b9,0,none⟩) 1 1)] (by kernel_rfl) (bO (aa (av 4 [(17,pO (some ⟨b3,0,none⟩) 2 2),(18,pO (some ⟨b9,0,none⟩) 1 1),(19,.agg [pI 2,pI 7]),(20,.agg [pI 1,pI 7])] (by kernel_rfl) (ai rfl (bB rfl rfl rfl rfl rfl (eZ rfl hY) rfl rfl rfl rfl (fun b11=>?_)))))))))
 refine fS (enc:=Ze.enc) (xs:=[(⟨1,(⟨#[57,52,48,49,48,49]⟩:ByteArray),(⟨#[65,65]⟩:ByteArray),10,true,[],[]⟩:Ze),(⟨2,(⟨#[57,52,48,49,48,50]⟩:ByteArray),(⟨#[66,66]⟩:ByteArray),10,false,[],[(⟨1,4⟩:Zg)]⟩:Ze)]) 17 rfl (by exact ap (ap (ap (ap aI)))) ?_
 refine fS (enc:=Zb.enc) (xs:=[(⟨7,1,[(⟨#[65,65]⟩:ByteArray),(⟨#[66,66]⟩:ByteArray),(⟨#[67,67]⟩:ByteArray)],[(⟨(⟨#[57,52]⟩:ByteArray),(⟨1,0,[],0,0,ByteArray.empty,[]⟩:Zd)⟩:Zf)]⟩:Zb)]) 18 rfl (by exact ap (ap aI)) ?_
 refine fS (enc:=Za.enc) (xs:=[(⟨1,7⟩:Za)]) 21 rfl (by exact ap (ap aI)) ?_
 refine ae h fun x13 hx13 h=>aS 4 [] [22,16] [(23,.agg (eV x13.1)),(24,pL Za.enc x13.2)] (bG 0 (iS hx13) bx) (by kernel_rfl) (ai rfl (aM (cs:=[pS ByteArray.empty,pI 0,pB false,pN,pN]) rfl rfl rfl rfl (fun b14=>aN rfl rfl (aj (vs:=(eV x13.1)) rfl rfl rfl rfl rfl bV zl (aG [(4,pL Za.enc x13.2)] (by kernel_rfl) (bO (p7 (enc:=Ze.enc) (xs:=[(⟨1,(⟨#[57,52,48,49,48,49]⟩:ByteArray),(⟨#[65,65]⟩:ByteArray),10,true,[],[]⟩:Ze),(⟨2,(⟨#[57,52,48,49,48,50]⟩:ByteArray),(⟨#[66,66]⟩:ByteArray),10,false,[],[(⟨1,4⟩:Zg)]⟩:Ze)]) 1 rfl zm3 (p7 (enc:=Zb.enc) (xs:=[(⟨7,1,[(⟨#[65,65]⟩:ByteArray),(⟨#[66,66]⟩:ByteArray),(⟨#[67,67]⟩:ByteArray)],[(⟨(⟨#[57,52]⟩:ByteArray),(⟨1,0,[],0,0,ByteArray.empty,[]⟩:Zd)⟩:Zf)]⟩:Zb)]) 2 rfl rn (ae h fun x15 hx15 h=>ae h fun x16 hx16 h=>ae h fun x17 hx17 h=>ae h fun m18 hm18 h=>aw [0,0] (rg 25 35) [(0,pB ((((((x15 == 0)&&x16)&&(!x17))&&((x13.1.Inputs.length:Int) == 1))&&(Zi.eqb m18 (⟨(⟨#[57,52,48,49,48,49]⟩:ByteArray),4,true⟩:Zi)))&&((x13.2.length:Int) == 1)))] (bG 1 (lu hx15) (ey 7 (fun hc=>eR (dB hx16 hc)) (ey 13 (fun hc=>eR (dB hx17 hc)) (ia 25 Zi.enc (dB hm18) (xM 28 Zi.eqok103 bx))))) (by kernel_rfl) (em ?_))))))))))
 exact zz r h rfl
def hI (p0:(List Int)) (p1:(List Int)) (p2:Int) (p3:Int) (p4:Int) (p5:(List Int)):Option Bool:=(kB p0).bind fun x1=>(fH p1).bind fun x5=>(iO x1 x5 p2 p3).bind fun x9=>(gf p4).bind fun x10=>(eG x1 x5 p5).bind fun x12=>(dJ x1 x5 x10 x9 x12).bind fun x13=>(gX x1 x5 x10 x9 x12).bind fun x15=>(jO x13.1 x15.1).bind fun x17=>(gd x17 (fi x13.2 x15.2)).bind fun x18=>(gd ((x17&&x18)&&(!(decide (x13.1.Code=(⟨#[]⟩:ByteArray))))) (dK x13.1)).bind fun x19=>(gd ((x17&&x18)&&((decide (x13.1.Code=(⟨#[]⟩:ByteArray)))||(x19 == 0))) (ka)).bind fun x20=>some (((x17&&x18)&&((decide (x13.1.Code=(⟨#[]⟩:ByteArray)))||(x19 == 0)))&&x20)
theorem nF {p0:(List Int)} {p1:(List Int)} {p2:Int} {p3:Int} {p4:Int} {p5:(List Int)} {r:Bool}  (h:hI p0 p1 p2 p3 p4 p5=some r):PF 3 [pL eI p0,pL eI p1,pI p2,pI p3,pI p4,pL eI p5] (pB r):=by
 unfold hI at h
 refine bk ?_
 refine ed Tryz.func3 rfl Tryz.ntmps3 Tryz.results3 rfl (aU [12] (by kernel_rfl) (cU h fun x1 hx1 h=>aa (av 1 [(22,pL eI p0)] (by kernel_rfl) ?_)))
 refine ai rfl (ba rfl rfl (ρ1:=[]) (List.Perm.refl _) (tk hx1) ?_);rintro _ _ ⟨a2,c3,rfl,rfl⟩
 refine ae h fun x5 hx5 h=>av 1 [(24,pL eI p1)] (by kernel_rfl) ?_
 refine ai rfl (ba rfl rfl (ρ1:=[]) (List.Perm.refl _) (mT hx5) ?_);rintro _ _ ⟨a6,c7,rfl,rfl⟩
 refine aG [(13,pO a2 x1.length c3),(14,pO a6 x5.length c7)] (by kernel_rfl) (bO (aa (av 4 [(26,pO a2 x1.length c3),(27,pO a6 x5.length c7),(28,pI p2),(29,pI p3)] (by kernel_rfl) ?_)))
 refine fS (enc:=Ze.enc) (xs:=x1) 26 rfl (by exact ap aI) ?_
 refine fS (enc:=Zb.enc) (xs:=x5) 27 rfl (by exact ap aI) ?_
 refine ae h fun x9 hx9 h=>ae h fun x10 hx10 h=>aS 3 [] [31] [(30,.agg [pI x9.Product,pI x9.Agreement]),(32,pS x10)] (bG 0 (qC hx9) (bG 2 (og hx10) bx)) (by kernel_rfl) (ai rfl (aM (cs:=[pI 0,pI 0]) rfl rfl rfl rfl (fun b11=>aN rfl rfl (aj (vs:=[pI x9.Product,pI x9.Agreement]) rfl rfl rfl rfl rfl bV oT (aG [(16,pS x10)] (by kernel_rfl) (bO (aa (av 3 [(33,pO a2 x1.length c3),(34,pO a6 x5.length c7),(35,pL eI p5)] (by kernel_rfl) (jA (enc:=Ze.enc) (xs:=x1) 33 rfl rn (jA (enc:=Zb.enc) (xs:=x5) 34 rfl rV (ae h fun x12 hx12 h=>je [] [36] [(17,pL Za.enc x12)] (bG 0 (lU hx12) bx) (by kernel_rfl) (bO (aa (e9 5 [0] [(38,pO a2 x1.length c3),(39,pO a6 x5.length c7),(40,pS x10),(41,.agg [pI x9.Product,pI x9.Agreement]),(42,pL Za.enc x12)] (by kernel_rfl) (jA (enc:=Ze.enc) (xs:=x1) 38 rfl rn (jA (enc:=Zb.enc) (xs:=x5) 39 rfl rV (ae h fun x13 hx13 h=>aS 4 [] [43,37] [(44,.agg (eV x13.1)),(45,pL Za.enc x13.2)] (bG 0 (iS hx13) bx) (by kernel_rfl) (ai rfl (aM (cs:=[pS ByteArray.empty,pI 0,pB false,pN,pN]) rfl rfl rfl rfl (fun b14=>aN rfl rfl (aj (vs:=(eV x13.1)) rfl rfl rfl rfl rfl bV zl (aG [(19,pL Za.enc x13.2)] (by kernel_rfl) (bO (aa (e9 5 [1] [(47,pO a2 x1.length c3),(48,pO a6 x5.length c7),(49,pS x10),(50,.agg [pI x9.Product,pI x9.Agreement]),(51,pL Za.enc x12)] (by kernel_rfl) (jA (enc:=Ze.enc) (xs:=x1) 47 rfl zm3 (jA (enc:=Zb.enc) (xs:=x5) 48 rfl rn (ae h fun x15 hx15 h=>aS 4 [] [52,46] [(53,.agg (eV x15.1)),(54,pL Za.enc x15.2)] (bG 0 (o5 hx15) bx) (by kernel_rfl) (ai rfl (aM (cs:=[pS ByteArray.empty,pI 0,pB false,pN,pN]) rfl rfl rfl rfl (fun b16=>aN rfl rfl (aj (vs:=(eV x15.1)) rfl rfl rfl rfl rfl bV zl (aG [(21,pL Za.enc x15.2)] (by kernel_rfl) (cU h fun x17 hx17 h=>ae h fun x18 hx18 h=>?_))))))))))))))))))))))))))))))))))
 refine ae h fun x19 hx19 h=>ae h fun x20 hx20 h=>aw [1,0,1,1] (rg 55 21) [(12,pB (((x17&&x18)&&((decide (x13.1.Code=(⟨#[]⟩:ByteArray)))||(x19 == 0)))&&x20))] (bG 2 (rC hx17) (ey 6 (fun hc=>mH (dB hx18 hc)) (ey 14 (fun hc=>mg (dB hx19 hc)) (ey 19 (fun hc=>qM (dB hx20 hc)) bx)))) (by kernel_rfl) (em ?_)
 exact zz r h rfl
end SX
namespace SX
open Go
attribute [local irreducible] PWL PWC PWD POpL POpQ PEv PGuardIs PSub PPick PUpd PSplice PFill PLit PF PFV PCall FOk ec dE jy kx il jz Cov PHolds bf idx app mk gd lb nz i5 yt sub ll co kQ ro dT bQ mO rq IntKind.wrap Int.tmod Int.tdiv Op.bytesLess strOfNums
end SX
namespace SX
open Go
theorem kM {S T:Type} {body:S→Option (S⊕T)} (P:S→Prop) (μ:S→Nat) (Q:T→Prop) (step:∀ s,P s→(∃ s',body s=some (.inl s')∧P s'∧μ s'<μ s)∨∃ t,body s=some (.inr t)∧Q t):∀ (N:Nat) (s:S),P s→μ s<N→∃ t,bf body N s=some t∧Q t:=by
 intro N
 induction N with
 | zero=>intro s _ h;exact absurd h (Nat.not_lt_zero _)
 | succ N ih =>
  intro s hp hm
  rw [ik]
  rcases step s hp with ⟨s',h1,h2,h3⟩ | ⟨t,h1,h2⟩
  ·rw [h1];exact ih s' h2 (by omega)
  rw [h1];exact ⟨t,rfl,h2⟩
def ctry (s:ByteArray):Bool:=match s.data.toList with | [a,b]=>decide (65≤(a.toNat:Int))&&decide ((a.toNat:Int)≤90)&&decide (65≤(b.toNat:Int))&&decide ((b.toNat:Int)≤90) | _=>false
theorem sf (s:ByteArray):s.size=s.data.toList.length:=by rw [Array.length_toList];rfl
def tw (c:UInt8):Bool:=decide (97≤c.toNat)&&decide (c.toNat≤122)
def gj (s:ByteArray):Bool:=decide (1≤s.size)&&decide (s.size≤12)&&s.data.toList.all tw
theorem xY (s:ByteArray) (hs:s.size≤140737488355328):gZ s=some (gj s):=by
 unfold gZ gj
 have i1:decide ((s.size:Int)<1) = !decide (1≤s.size):=by rw [← decide_not];exact decide_eq_decide.2 (by omega)
 have i2:decide ((12:Int)<(s.size:Int)) = !decide (s.size≤12):=by rw [← decide_not];exact decide_eq_decide.2 (by omega)
 rw [i1,i2]
 cases h1:decide (1≤s.size)
 ·rfl
 cases h2:decide (s.size≤12)
 ·rfl
 simp only [Bool.not_true,Bool.or_self,cT,Bool.true_and]
 have key:∀ n pos N,s.size - pos=n→pos≤s.size→n<N→bf (gE s) N pos=some ((s.data.toList.drop pos).all tw):=by
  intro n
  induction n with
  | zero =>
   intro pos N hn hp hN
   obtain ⟨N,rfl⟩:∃ M,N=M+1:=⟨N - 1,by omega⟩
   have:Nat.blt pos s.size=false:=by cases hb:Nat.blt pos s.size;rfl;simp [Nat.blt] at hb;omega
   rw [ik,gE,this]
   rw [List.drop_of_length_le (by rw [← sf];omega)];rfl
  | succ n ih =>
   intro pos N hn hp hN
   obtain ⟨N,rfl⟩:∃ M,N=M+1:=⟨N - 1,by omega⟩
   have hlt:pos<s.size:=by omega
   have hb:Nat.blt pos s.size=true:=by simp [Nat.blt];omega
   have hlt2:pos<s.data.toList.length:=by rw [← sf];exact hlt
   have hget:s[pos]=s.data.toList[pos]:=by
    rw [Array.getElem_toList];rfl
   rw [ik,gE,hb,List.drop_eq_getElem_cons hlt2,List.all_cons,← hget]
   by_cases ha:(s[pos]'hlt).toNat<128
   ·rw [decode_ascii s pos hlt ha]
    simp only [dn,tw]
    by_cases h1:(s[pos]'hlt).toNat<97
    ·rw [show decide (((s[pos]'hlt).toNat:Int)<97)=true from det (by omega),show decide (97≤(s[pos]'hlt).toNat)=false from cq (by omega)];rfl
    by_cases h2:122<(s[pos]'hlt).toNat
    ·rw [show decide ((122:Int)<((s[pos]'hlt).toNat:Int))=true from det (by omega),show decide ((s[pos]'hlt).toNat≤122)=false from cq (by omega),Bool.or_true,Bool.and_false];rfl
    rw [cq (by omega),cq (by omega),det (Nat.not_lt.1 h1),det (Nat.not_lt.1 h2)]
    exact ih (pos+1) N (by omega) (by omega) (by omega)
   have hh:=decode_high s pos hlt (by omega)
   have h122:¬ (s[pos]'hlt).toNat≤122:=by omega
   have:decide (122<((Utf8.decode s pos).1:Int))=true:=det (by omega)
   simp [this,tw,h122]
 have:=key s.size 0 FUEL (by omega) (by omega) (iM (by omega))
 rw [this,List.drop_zero]
def j5 (lt:ByteArray→ByteArray→Bool):List ByteArray→Bool
 | []=>true
 | [_]=>true
 | a::b::l=>lt a b&&j5 lt (b::l)
def nG (p:ByteArray→Bool) (l:List ByteArray) (k:Nat) (x:ByteArray):Bool:=p x&&(!decide (0<k)||ib (l.getD (k - 1) x) x)
theorem uR (p:ByteArray→Bool) (l:List ByteArray):(∀ i x,l[i]?=some x→nG p l i x=true)↔(l.all p&&j5 ib l)=true:=by
 have key:∀ (l:List ByteArray),(∀ i,(h:i+1<l.length)→ib l[i] l[i+1]=true)↔j5 ib l=true:=by
  intro l
  induction l with
  | nil=>simp [j5]
  | cons a l ih =>
   cases l with
   | nil=>simp [j5]
   | cons b l =>
    rw [j5,Bool.and_eq_true,← ih]
    constructor
    ·intro h;exact ⟨h 0 (by simp),fun i hi=>h (i+1) (by simpa using hi)⟩
    rintro ⟨h1,h2⟩ i hi
    cases i with
    | zero=>exact h1
    | succ i=>exact h2 i (by simpa using hi)
 rw [Bool.and_eq_true,← key,List.all_eq_true]
 constructor
 ·intro h
  refine ⟨fun x hx=>?_,fun i hi=>?_⟩
  ·obtain ⟨i,hi,rfl⟩:=List.getElem_of_mem hx
   have:=h i _ (List.getElem?_eq_getElem hi)
   simp only [nG,Bool.and_eq_true] at this
   exact this.1
  have:=h (i+1) _ (List.getElem?_eq_getElem hi)
  simp only [nG,Bool.and_eq_true,Nat.zero_lt_succ,decide_true,Bool.not_true,Bool.false_or,Nat.add_sub_cancel] at this
  rw [iB (by omega)] at this
  exact this.2
 rintro ⟨h1,h2⟩ i x hx
 obtain ⟨hi,rfl⟩:=List.getElem?_eq_some_iff.1 hx
 simp only [nG,h1 _ (List.getElem_mem hi),Bool.true_and]
 by_cases h0:0<i
 ·rw [det h0,Bool.not_true,Bool.false_or,iB (by omega)]
  obtain ⟨j,rfl⟩:∃ j,i=j+1:=⟨i - 1,by omega⟩
  exact h2 j hi
 simp [h0]
theorem sg {T:Type} (p:ByteArray→Bool) (l:List ByteArray) (t:T):dX (fun k x=>cond (nG p l k x) none (some t)) l 0=cond (l.all p&&j5 ib l) none (some t):=by
 have hn:=jG (g:=fun k x=>cond (nG p l k x) none (some t)) (l:=l) (k:=0)
 cases h:(l.all p&&j5 ib l)
 ·cases hf:dX (fun k x=>cond (nG p l k x) none (some t)) l 0 with
  | none =>
   exfalso
   have:(l.all p&&j5 ib l)=true:=by
    rw [← uR]
    intro i x hx
    have:=hn.1 hf i x hx
    rw [Nat.zero_add] at this
    cases hk:nG p l i x
    ·rw [hk] at this;cases this
    rfl
   rw [h] at this;cases this
  | some u =>
   have:∀ (m:List ByteArray) (k:Nat) (u:T),dX (fun k x=>cond (nG p l k x) none (some t)) m k=some u→u=t:=by
    intro m
    induction m with
    | nil=>intro k u h;cases h
    | cons x m ih =>
     intro k u h
     rw [dX] at h
     cases hk:nG p l k x
     ·rw [hk] at h;injection h with h;exact h.symm
     rw [hk] at h;exact ih _ _ h
   rw [this _ _ _ hf];rfl
 rw [dn,hn]
 intro i x hx
 rw [Nat.zero_add,(uR p l).2 h i x hx];rfl
def i4 (l:List ByteArray):Bool:=decide (l.length≤8)&&(l.all gj&&j5 ib l)
def StrsOk (l:List ByteArray):Prop:=l.length≤140737488355328∧∀ s∈l,s.size≤140737488355328
theorem qN (l:List ByteArray) (hl:StrsOk l):di l=some (i4 l):=by
 obtain ⟨hl,hs⟩:=hl
 unfold di i4
 have i2:decide ((8:Int)<(l.length:Int)) = !decide (l.length≤8):=by rw [← decide_not];exact decide_eq_decide.2 (by omega)
 rw [i2]
 cases decide (l.length≤8)
 ·rfl
 simp only [Bool.not_true,cT,Bool.true_and]
 refine (dF (l:=l) (by omega) (fun k x=>cond (nG gj l k x) none (some (.inr false))) (.inl ()) (fun k hk=>?_) (by simp only [fu,cT])).trans ?_
 ·have h62:l.length≤4611686018427387904:=by omega
  simp only [lp hk,dn,bh hk,bI,xY _ (hs _ (List.getElem_mem hk)),d0k,dq hk h62,nG]
  cases hw:gj l[k]
  ·rfl
  by_cases h0:0<k
  ·simp only [h0,decide_true,Bool.not_true,Bool.not_false,Bool.and_true,Bool.true_and,Bool.false_or,fF,uJ h0 hk h62,bI,iB (show k - 1<l.length by omega),ib,wV]
   cases Op.bytesLess (l[k-1]'(by omega)).toList l[k].toList <;> rfl
  simp only [h0,decide_false,Bool.and_false,lR,bI,Bool.not_true,Bool.false_or,Bool.false_and,cT,Bool.not_false,Bool.true_and,Bool.true_or,Bool.or_false];rfl
 rw [sg]
 cases (l.all gj&&j5 ib l) <;> rfl
mutual
def vj:Zd→Nat
 | ⟨_,_,_,_,_,_,l⟩=>1+uS l
def uS:List Zd→Nat
 | []=>0
 | a::l=>max (vj a) (uS l)
end
mutual
def uT:Zd→Nat
 | ⟨_,_,_,_,_,_,l⟩=>1+o8 l
def o8:List Zd→Nat
 | []=>0
 | a::l=>uT a+o8 l
end
theorem oh (r:Zd):vj r=1+uS r.Args:=by cases r;rw [vj]
theorem vW (r:Zd):uT r=1+o8 r.Args:=by cases r;rw [uT]
theorem wY:∀ {l:List Zd} {a:Zd},a∈l→vj a≤uS l
 | b::l,a,h=>by
  rw [uS]
  rcases List.mem_cons.1 h with rfl | h
  ·omega
  have:=wY h;omega
theorem nH {r a:Zd} (h:a∈r.Args):vj a<vj r:=by rw [oh r];have:=wY h;omega
mutual
theorem wZ:∀ r:Zd,vj r≤uT r
 | ⟨_,_,_,_,_,_,l⟩=>by rw [vj,uT];have:=si l;omega
theorem si:∀ l:List Zd,uS l≤o8 l
 | []=>by rw [uS,o8];exact Nat.le_refl _
 | a::l=>by rw [uS,o8];have h1:=wZ a;have h2:=si l;omega
end
inductive ROk:Zd→Prop
 | mk (r:Zd) (h1:StrsOk r.Except) (h2:r.Name.size≤140737488355328) (h3:r.Args.length≤140737488355328) (h4:∀ a∈r.Args,ROk a):ROk r
theorem ROk.ex {r:Zd} (h:ROk r):StrsOk r.Except:=by cases h;assumption
theorem ROk.nm {r:Zd} (h:ROk r):r.Name.size≤140737488355328:=by cases h;assumption
theorem ROk.len {r:Zd} (h:ROk r):r.Args.length≤140737488355328:=by cases h;assumption
theorem ROk.arg {r:Zd} (h:ROk r) {a:Zd} (ha:a∈r.Args):ROk a:=by cases h with | mk _ _ _ _ h4=>exact h4 a ha
theorem nodes_F (n:Nat):∀ (r:Zd) (lim:Nat),ROk r→vj r≤n→1≤lim→lim≤1000→jg n r (lim:Int)=some ((min (uT r) lim:Nat):Int):=by
 induction n with
 | zero=>intro r lim _ hd;rw [oh] at hd;omega
 | succ n ih =>
  intro r lim hr hd h1 h2
  have hl:=hr.len
  show gQ (jg n) r (lim:Int)=_
  unfold gQ
  refine (lS (l:=r.Args) (by omega) (fun i (a:Nat)=>((a:Int),i)) (fun _ x a=>cond (Nat.ble lim a) (.inr ()) (.inl (min (a+uT x) lim))) (fun (a:Nat)=>.inl (a:Int)) (fun (_:Unit)=>.inr (lim:Int)) (fun _ a=>a≤lim) 1 h1 (fun k hk a ha=>⟨?_,fun a' h=>?_⟩) (fun a ha=>?_)).trans ?_
  ·simp only [lp hk,dn,bh hk,bI]
   cases hb:Nat.ble lim a
   ·have hlt:a<lim:=by rcases Nat.lt_or_ge a lim with h | h;exact h;rw [Nat.ble_eq_true_of_le h] at hb;cases hb
    rw [show decide ((lim:Int)≤(a:Int))=false from cq (by omega),cg (by omega) (by omega),show (lim:Int) - (a:Int)=((lim - a:Nat):Int) by omega,
     ih _ (lim - a) (hr.arg (List.getElem_mem hk)) (by have:=nH (List.getElem_mem hk);omega) (by omega) (by omega)]
    simp only [cT,bI,dq hk (show r.Args.length≤4611686018427387904 by omega),xV]
    rw [cg (by omega) (by omega),show (a:Int)+((min (uT r.Args[k]) (lim - a):Nat):Int)=((min (a+uT r.Args[k]) lim:Nat):Int) by omega]
   have hle:=Nat.le_of_ble_eq_true hb
   rw [show decide ((lim:Int)≤(a:Int))=true from det (by omega)];rfl
  ·cases hb:Nat.ble lim a
   ·rw [hb] at h;injection h with h;omega
   rw [hb] at h;cases h
  ·simp only [fu,cT]
  have key:∀ (l:List Zd) (i a:Nat),a≤lim→tj (fun (a:Nat)=>(a:Int)) (fun (_:Unit)=>(lim:Int)) (run (fun _ x a=>cond (Nat.ble lim a) (.inr ()) (.inl (min (a+uT x) lim))) l i a)=((min (a+o8 l) lim:Nat):Int):=by
   intro l
   induction l with
   | nil=>intro i a ha;rw [o8];show (a:Int)=_;omega
   | cons x l ihl =>
    intro i a ha
    rw [kA,o8]
    cases hb:Nat.ble lim a
    ·exact (ihl _ _ (by omega)).trans (by omega)
    have hle:=Nat.le_of_ble_eq_true hb
    show (lim:Int)=_;omega
  have k2:∀ (o:Nat⊕Unit),(match (tj (fun (a:Nat)=>.inl (a:Int)) (fun (_:Unit)=>.inr (lim:Int)) o:Int⊕Int) with | .inl v4=>some v4 | .inr e=>some e)=some (tj (fun (a:Nat)=>(a:Int)) (fun (_:Unit)=>(lim:Int)) o):=fun o=>by cases o <;> rfl
  rw [vW]
  exact (k2 _).trans (congrArg some (key _ _ _ h1))
def lev (s:ByteArray):Bool := !(gY s == 0)
def jT (l:List ByteArray):Bool:=decide (l.length≤6)&&(l.all lev&&j5 ib l)
def mil (n:Int):Bool:=decide (0≤n)&&decide (n≤1000000)
def ko (r:Zd):Bool:=(r.Kind == 2||(r.Digits == 0&&r.Except.isEmpty&&r.Tolerance == 0))&&(r.Kind == 3||r.Limit == 0)&&(r.Kind == 4||decide (r.Name=⟨#[]⟩))&&(r.Kind == 5||r.Kind == 6||r.Args.isEmpty)
def mh (r:Zd):Bool:=cond (r.Kind == 1) true (cond (r.Kind == 2) ((r.Digits == 2||r.Digits == 4||r.Digits == 6)&&jT r.Except&&mil r.Tolerance) (cond (r.Kind == 3) (mil r.Limit) (cond (r.Kind == 4) (gj r.Name) false)))
mutual
def hQ:Zd→Bool
 | ⟨k,d,e,t,m,n,l⟩=>ko ⟨k,d,e,t,m,n,l⟩&&cond (k == 5||k == 6) (decide (2≤l.length)&&decide (l.length≤6)&&qO k l) (mh ⟨k,d,e,t,m,n,l⟩)
def qO (k:Int):List Zd→Bool
 | []=>true
 | a::l=>(!(a.Kind == k)&&hQ a)&&qO k l
end
theorem qP (k:Int):∀ l:List Zd,qO k l=l.all fun a => !(a.Kind == k)&&hQ a
 | []=>by rw [qO];rfl
 | a::l=>by rw [qO,qP k l];rfl
theorem jU (r:Zd):hQ r=(ko r&&cond (r.Kind == 5||r.Kind == 6) (decide (2≤r.Args.length)&&decide (r.Args.length≤6)&&r.Args.all fun a => !(a.Kind == r.Kind)&&hQ a) (mh r)):=by
 cases r;rw [hQ,qP]
theorem len0 {α:Type} (l:List α):((l.length:Int) == 0)=l.isEmpty:=by cases l <;> rfl
theorem len0' {α:Type} (l:List α):decide (0<(l.length:Int)) = !l.isEmpty:=by cases l with
 | nil=>rfl
 | cons a l=>exact det (by rw [List.length_cons];omega)
theorem vX (r:Zd):jJ r=some (ko r):=by
 unfold jJ ko
 rw [len0,len0']
 simp only [bne]
 cases (r.Kind == 2) <;> cases (r.Digits == 0) <;> cases r.Except.isEmpty <;> cases (r.Tolerance == 0) <;> cases (r.Kind == 3) <;> cases (r.Limit == 0) <;> cases (r.Kind == 4) <;> cases decide (r.Name=⟨#[]⟩) <;> rfl
theorem vY (l:List ByteArray) (hl:StrsOk l):fL l=some (jT l):=by
 obtain ⟨hl,hs⟩:=hl
 unfold fL jT
 have i2:decide ((6:Int)<(l.length:Int)) = !decide (l.length≤6):=by rw [← decide_not];exact decide_eq_decide.2 (by omega)
 rw [i2]
 cases decide (l.length≤6)
 ·rfl
 simp only [Bool.not_true,cT,Bool.true_and]
 refine (dF (l:=l) (by omega) (fun k x=>cond (nG lev l k x) none (some (.inr false))) (.inl ()) (fun k hk=>?_) (by simp only [fu,cT])).trans ?_
 ·have h62:l.length≤4611686018427387904:=by omega
  simp only [lp hk,dn,bh hk,bI,show ∀ s,el s=some (gY s) from fun _=>rfl,d0k,dq hk h62,nG,lev]
  cases hw:(gY l[k] == 0)
  ·by_cases h0:0<k
   ·simp only [h0,decide_true,Bool.not_true,Bool.not_false,Bool.and_true,Bool.true_and,Bool.false_or,fF,uJ h0 hk h62,bI,iB (show k - 1<l.length by omega),ib,wV]
    cases Op.bytesLess (l[k-1]'(by omega)).toList l[k].toList <;> rfl
   simp only [h0,decide_false,Bool.and_false,lR,bI,Bool.not_true,Bool.false_or,Bool.false_and,cT,Bool.not_false,Bool.true_and,Bool.true_or,Bool.or_false];rfl
  rfl
 rw [sg]
 cases (l.all lev&&j5 ib l) <;> rfl
theorem z8 (s:ByteArray) (hs:s.size≤140737488355328):di [s]=some (gj s):=by
 rw [qN [s] ⟨by simp,by simpa using hs⟩]
 simp [i4,j5]
theorem valid_F (n:Nat):∀ (r:Zd),ROk r→vj r≤n→jn n r=some (hQ r):=by
 induction n with
 | zero=>intro r _ hd;rw [oh] at hd;omega
 | succ n ih =>
  intro r hr hd
  have hl:=hr.len
  show hC (jn n) r=_
  unfold hC
  rw [vX,jU,bI]
  cases ko r
  ·rfl
  simp only [Bool.not_true,cT,Bool.true_and]
  cases e1:(r.Kind == 1)
  rotate_left
  ·have:=eq_of_beq e1
   simp only [mh,e1,this];rfl
  cases e2:(r.Kind == 2)
  rotate_left
  ·have:=eq_of_beq e2
   simp only [mh,e1,e2,this,dn,cT]
   rw [vY _ hr.ex]
   show _=some (_&&jT r.Except&&mil r.Tolerance)
   cases (r.Digits == 2||r.Digits == 4||r.Digits == 6)
   ·rfl
   simp only [fF,Bool.true_and,bI]
   cases jT r.Except <;> rfl
  cases e3:(r.Kind == 3)
  rotate_left
  ·have:=eq_of_beq e3
   simp only [mh,e1,e2,e3,this,dn,cT];rfl
  cases e4:(r.Kind == 4)
  rotate_left
  ·have:=eq_of_beq e4
   simp only [mh,e1,e2,e3,e4,this,dn,cT]
   rw [z8 _ hr.nm];rfl
  simp only [mh,e1,e2,e3,e4,cT]
  have e56:(cond (r.Kind == 5) (some (r.Kind == 5)) (some (r.Kind == 6)):Option Bool)=some (r.Kind == 5||r.Kind == 6):=by cases (r.Kind == 5) <;> rfl
  rw [e56,bI]
  cases (r.Kind == 5||r.Kind == 6)
  ·rfl
  simp only [dn]
  have i1:decide ((r.Args.length:Int)<2) = !decide (2≤r.Args.length):=by rw [← decide_not];exact decide_eq_decide.2 (by omega)
  have i2:decide ((6:Int)<(r.Args.length:Int)) = !decide (r.Args.length≤6):=by rw [← decide_not];exact decide_eq_decide.2 (by omega)
  rw [i1,i2]
  cases decide (2≤r.Args.length)
  ·rfl
  cases decide (r.Args.length≤6)
  ·rfl
  simp only [Bool.not_true,Bool.or_self,cT,Bool.true_and]
  refine (dF (l:=r.Args) (by omega) (fun _ a=>cond (!(a.Kind == r.Kind)&&hQ a) none (some (.inr false))) (.inl ()) (fun k hk=>?_) (by simp only [fu,cT])).trans ?_
  ·simp only [lp hk,dn,bh hk,bI,dq hk (show r.Args.length≤4611686018427387904 by omega)]
   have h2:=ih _ (hr.arg (List.getElem_mem hk)) (by have:=nH (List.getElem_mem hk);omega)
   cases (r.Args[k].Kind == r.Kind)
   ·simp only [Bool.not_false,fF,h2,bI,Bool.true_and,Bool.false_or]
    cases hQ r.Args[k] <;> rfl
   rfl
  rw [r9]
  cases (r.Args.all fun a => !(a.Kind == r.Kind)&&hQ a) <;> rfl
def nI (r:Zd):Int:=cond (decide (uT r≤32)) (cond (hQ r) 0 1) 8
theorem sj (r:Zd) (hr:ROk r) (hd:vj r≤1000):eQ r=some (nI r):=by
 unfold eQ mU ng nI
 have hf:FUEL=1267650600228229401496703205376:=rfl
 have h1:=nodes_F FUEL r 33 hr (by rw [hf];omega) (by omega) (by omega)
 rw [show ((33:Nat):Int)=33 from rfl] at h1
 rw [h1,bI,valid_F FUEL r hr (by rw [hf];omega)]
 by_cases h:uT r≤32
 ·rw [cq (by omega),det h]
  cases hQ r <;> rfl
 rw [det (by omega),cq h];rfl
theorem nh (r:Zd):nI r=0↔uT r≤32∧hQ r=true:=by
 unfold nI
 by_cases h:uT r≤32
 ·rw [det h];cases hQ r <;> simp [h]
 rw [cq h];simp [h]
structure RFOk (x:Zf):Prop where
 pre:x.Prefix.size≤140737488355328
 rule:ROk x.Rule
 deep:vj x.Rule≤1000
structure AOk (a:Zb):Prop where
 par:StrsOk a.Parties
 len:a.Rules.length≤140737488355328
 rules:∀ x∈a.Rules,RFOk x
structure ASOk (l:List Zb):Prop where
 len:l.length≤140737488355328
 all:∀ a∈l,AOk a
def qQ (l:List ByteArray):Bool:=l.all ctry&&j5 ib l
def Aa (l:List Zf) (k:Nat) (x:Zf):Option Int:=cond (lev x.Prefix) (cond (decide (0<k) && !ib (l.getD (k - 1) x).Prefix x.Prefix) (some 9) (cond (nI x.Rule == 0) none (some (nI x.Rule)))) (some 1)
def rulesE (l:List Zf):Int:=(dX (Aa l) l 0).getD 0
def gAgr (l:List Zb) (k:Nat) (a:Zb):Option Int :=
 cond (decide (a.ID<1)||decide (1000<a.ID)||decide (a.Kind<1)||decide (3<a.Kind)) (some 2) (cond (decide (0<k)&&decide (a.ID≤(l.getD (k - 1) a).ID)) (some 9) (cond (decide (12<a.Parties.length)||decide (12<a.Rules.length)) (some 8)
  (cond (qQ a.Parties) (cond (rulesE a.Rules == 0) none (some (rulesE a.Rules))) (some 1))))
def agrE (l:List Zb):Int:=cond (decide (l.length≤8)) ((dX (gAgr l) l 0).getD 0) 8
def Y {α:Type} (x:Option α) (P:α→Prop):Prop:=∃ a,x=some a∧P a
section
variable {α β S T:Type} {x y:Option α} {P P':α→Prop} {Q:β→Prop} {f:α→Option β} {a:α} {c:Bool}
theorem Y.bind (h:Y x P) (k:∀ a,P a→Y (f a) Q):Y (x.bind f) Q:=by
 obtain ⟨a,h1,h2⟩:=h;rw [h1];exact k a h2
theorem Y.ret (h:P a):Y (some a) P:=⟨a,rfl,h⟩
theorem Y.mono (h:Y x P) (k:∀ a,P a→P' a):Y x P':=by obtain ⟨a,h1,h2⟩:=h;exact ⟨a,h1,k a h2⟩
theorem Y.cond (h:c=true→Y x P) (k:c=false→Y y P):Y (cond c x y) P:=by cases c;exact k rfl;exact h rfl
theorem Y.eq {r:α} (h:x=some r) (k:Y (f r) Q):Y (x.bind f) Q:=by rw [h];exact k
theorem Y.loop {body:S→Option (S⊕T)} {R:T→Prop} {s:S} (I:S→Prop) (μ:S→Nat) (h0:I s) (hm:μ s≤1267650600228229401496703205000) (step:∀ s,I s→Y (body s) (fun o=>match o with | .inl s'=>I s'∧μ s'<μ s | .inr t=>R t)):Y (bf body FUEL s) R:=by
 obtain ⟨t,h1,h2⟩:=kM (body:=body) I μ R (fun s hs=>by
  obtain ⟨o,k1,k2⟩:=step s hs
  cases o with
  | inl s'=>exact .inl ⟨s',k1,k2⟩
  | inr t=>exact .inr ⟨t,k1,k2⟩) FUEL s h0 (iM hm)
 exact ⟨t,h1,h2⟩
theorem Y.idx {xs:List α} {i:Int} {n:Nat} (h:i=(n:Int)) (hn:n<xs.length) (k:Y (f xs[n]) Q):Y ((idx xs i).bind f) Q:=by subst h;rw [bh hn];exact k
theorem Y.gdp [Inhabited α] {z:Option (α×β)} {m:β} {R:α×β→Prop} (h:c=true→Y z R) (k:c=false→R (default,m)):Y (gdp c z m) R:=by
 cases c
 ·exact ⟨_,rfl,k rfl⟩
 exact h rfl
end
theorem sk (a n:Int) (h1:1≤n) (h2:n≤4611686018427387904):∃ r,eF a n=some r∧0≤r∧r<n:=by
 have hl:=Int.tmod_lt_of_pos a (show 0<n by omega)
 have hl2:=Int.tmod_lt_of_pos (-a) (show 0<n by omega)
 rw [Int.neg_tmod] at hl2
 unfold eF nz lb
 rw [if_neg (by omega),cg (by omega) (by omega)]
 exact ⟨_,rfl,Int.tmod_nonneg _ (by omega),Int.tmod_lt_of_pos _ (by omega)⟩
def SOK (p:Zh):Prop:=0≤p.I∧p.I≤p.L.length∧p.L.length≤1000000000000000
theorem next_ok {p:Zh} (hp:SOK p) (n:Int) (h1:1≤n) (h2:n≤4611686018427387904):∃ r q,aH p n=some (r,q)∧0≤r∧r<n∧SOK q:=by
 obtain ⟨a1,a2,a3⟩:=hp
 unfold aH
 by_cases h:(p.L.length:Int)≤p.I
 ·rw [det h];exact ⟨_,_,rfl,by omega,by omega,a1,a2,a3⟩
 rw [cq h,cg (r:=p.I+1) (by omega) (by omega),cg (by omega) (by omega)]
 simp only [cT]
 have e:idx p.L (p.I+1 - 1)=some (p.L[p.I.toNat]'(by omega)):=by
  unfold idx;rw [if_pos (by omega)]
  have:(p.I+1 - 1).toNat=p.I.toNat:=by omega
  rw [this];exact List.getElem?_eq_getElem _
 rw [nT e]
 obtain ⟨r,h3,h4,h5⟩:=sk (p.L[p.I.toNat]'(by omega)) n h1 h2
 rw [nT h3]
 exact ⟨_,_,rfl,h4,h5,by simp only;omega,by simp only;omega,a3⟩
theorem cut_ok (l:List Int) (n:Int) (h:0≤n) (h2:n≤1000):∃ m,jI l n=some m∧(m.length:Int)≤n:=by
 unfold jI
 by_cases h1:n<(l.length:Int)
 ·rw [det h1]
  have e:sub l 0 n=some ((l.take n.toNat).drop 0):=by unfold sub;rw [if_pos (by omega)];rfl
  simp only [dn];rw [nT e];exact ⟨_,rfl,by simp;omega⟩
 rw [cq h1];exact ⟨_,rfl,by omega⟩
theorem qR (a n:Int) (h1:1≤n) (h2:n≤4611686018427387904):Y (eF a n) (fun r=>0≤r∧r<n):=sk a n h1 h2
theorem dj {p:Zh} (hp:SOK p) (n:Int) (h1:1≤n) (h2:n≤4611686018427387904):Y (aH p n) (fun r=>0≤r.1∧r.1<n∧SOK r.2):=by
 obtain ⟨r,q,h3,h4,h5,h6⟩:=next_ok hp n h1 h2;exact ⟨(r,q),h3,h4,h5,h6⟩
theorem cut_Y (l:List Int) (n:Int) (h:0≤n) (h2:n≤1000):Y (jI l n) (fun m=>SOK ⟨m,0⟩):=by
 obtain ⟨m,h3,h4⟩:=cut_ok l n h h2
 exact ⟨m,h3,by dsimp only;omega,by dsimp only;omega,by dsimp only;omega⟩
theorem Ab {p:Zh} (hp:SOK p):Y (d9 p) (fun r=>mil r.1=true∧SOK r.2):=by
 unfold d9
 refine (dj hp 4 (by omega) (by omega)).bind fun a ⟨h1,h2,h3⟩=>?_
 refine Y.cond (fun _=>?_) (fun _=>?_)
 ·refine (dj h3 101 (by omega) (by omega)).bind fun b ⟨k1,k2,k3⟩=>Y.ret ⟨?_,k3⟩
  rw [cg (by omega) (by omega)];simp only [mil,Bool.and_eq_true,decide_eq_true_eq];omega
 refine (dj h3 1000001 (by omega) (by omega)).bind fun b ⟨k1,k2,k3⟩=>Y.ret ⟨?_,k3⟩
 simp only [mil,Bool.and_eq_true,decide_eq_true_eq];omega
structure Good (r:Zd) (m:Nat):Prop where
 ok:ROk r
 valid:hQ r=true
 size:uT r≤m
theorem uU:StrsOk []:=⟨by simp,by simp⟩
theorem Ac {r:Zd} (h1:StrsOk r.Except) (h2:r.Name.size≤140737488355328) (h3:r.Args=[]):ROk r:=⟨r,h1,h2,by rw [h3];simp,by rw [h3];simp⟩
theorem Ad {r:Zd} (h:r.Args=[]):uT r=1:=by rw [vW,h];rfl
def kN:Nat→Nat
 | 0=>1
 | d+1=>1+3*kN d
theorem Ae (d:Nat):1≤kN d:=by cases d <;> simp [kN]
theorem w0 {m:Nat}:∀ {l:List Zd},(∀ a∈l,uT a≤m)→o8 l≤l.length*m
 | [],_=>by rw [o8];omega
 | a::l,h=>by
  rw [o8,List.length_cons,Nat.add_mul,Nat.one_mul]
  have h1:=h a (by simp);have h2:=w0 (l:=l) fun b hb=>h b (by simp [hb]);omega
theorem tz {but:Int} (hb:but=0∨but=5∨but=6) {r:Zd} {q:Zh} {m:Nat} (hm:1≤m) (hq:SOK q) (h1:StrsOk r.Except) (h2:r.Name.size≤140737488355328) (h3:r.Args=[]) (hk:1≤r.Kind∧r.Kind≤4) (hv:hQ r=true):Good r m∧r.Kind≠but∧SOK q :=
 ⟨⟨Ac h1 h2 h3,hv,by rw [Ad h3];exact hm⟩,by omega,hq⟩
theorem sm {d n:Nat} {p:Zh} {but:Int} (hp:SOK p) (hb:but=0∨but=5∨but=6) (hn:d<n) (hd:d≤10)
    (ih:∀ d',d=d'+1→∀ (q:Zh) (but':Int),SOK q→(but'=0∨but'=5∨but'=6)→Y (dh (n - 1) q but' (d':Int)) (fun r=>Good r.1 (kN d')∧r.1.Kind≠but'∧SOK r.2)) :
    Y (dh n p but (d:Int)) (fun r=>Good r.1 (kN d)∧r.1.Kind≠but∧SOK r.2):=by
  obtain ⟨n,rfl⟩:∃ m,n=m+1:=⟨n - 1,by omega⟩
  rw [Nat.add_sub_cancel] at ih
  show Y (ee (dh n) p but (d:Int)) _
  unfold ee
  refine (dj hp 8 (by omega) (by omega)).bind fun a ⟨h1,h2,h3⟩=>?_
  refine Y.cond (fun hc=>?_) (fun hc=>?_)
  · simp only [Bool.and_eq_true,decide_eq_true_eq] at hc
    obtain ⟨d',rfl⟩:∃ d',d=d'+1:=⟨d - 1,by omega⟩
    have ih:=ih d' rfl
    have hm1:0≤Int.tmod a.1 2:=Int.tmod_nonneg _ (by omega)
    have hm2:Int.tmod a.1 2<2:=Int.tmod_lt_of_pos _ (by omega)
    refine Y.bind (P:=fun k=>(k=5∨k=6)∧k≠but) ?_ fun k ⟨hk,hkb⟩=>?_
    · rw [cg (by omega) (by omega)]
      refine Y.cond (fun hc=>Y.ret ?_) (fun hc=>Y.ret ?_)
      · have:=eq_of_beq hc;rw [cg (by omega) (by omega)];omega
      have:¬ 5+Int.tmod a.1 2=but:=by intro h;rw [h] at hc;simp at hc
      omega
    refine (dj h3 2 (by omega) (by omega)).bind fun b ⟨k1,k2,k3⟩=>?_
    rw [cg (r:=2+b.1) (by omega) (by omega)]
    refine Y.bind (P:=fun t:List Int×Int×List Zd=>SOK ⟨t.1,t.2.1⟩∧(2≤t.2.2.length∧t.2.2.length≤3)∧∀ x∈t.2.2,Good x (kN d')∧x.Kind≠k) ?_ fun t ⟨t1,t2,t3⟩=>?_
    · refine Y.loop (fun s:Int×List Int×Int×List Zd=>(0≤s.1∧s.1+s.2.2.2.length=2+b.1)∧SOK ⟨s.2.1,s.2.2.1⟩∧∀ x∈s.2.2.2,Good x (kN d')∧x.Kind≠k) (fun s=>s.1.toNat) ⟨⟨by dsimp only;omega,by simp⟩,k3,by simp⟩ (by dsimp only;omega) fun s hs=>?_
      obtain ⟨v,l,i,m⟩:=s
      obtain ⟨⟨s1,s2⟩,s3,s4⟩:=hs
      dsimp only at s1 s2 s3 s4 ⊢
      refine Y.cond (fun hc=>?_) (fun hc=>Y.ret ⟨s3,?_,s4⟩)
      · have hc:=of_decide_eq_true hc
        rw [cg (by omega) (by omega),show ((d'+1:Nat):Int) - 1=(d':Int) by omega]
        refine (ih _ k s3 (by omega)).bind fun x ⟨x1,x2,x3⟩=>?_
        rw [dy (by simp;omega) (by simp;omega),bI,cg (by omega) (by omega)]
        refine Y.ret ⟨⟨⟨by dsimp only;omega,by simp;omega⟩,x3,fun z hz=>?_⟩,by dsimp only;omega⟩
        rcases List.mem_append.1 hz with hz | hz
        · exact s4 z hz
        rw [List.mem_singleton.1 hz];exact ⟨x1,x2⟩
      have hc:=of_decide_eq_false hc
      dsimp only;omega
    obtain ⟨l,i,m⟩:=t
    dsimp only at t1 t2 t3 ⊢
    refine Y.ret ⟨⟨⟨_,uU,by simp,by dsimp only;omega,fun z hz=>(t3 z hz).1.ok⟩,?_,?_⟩,hkb,t1⟩
    · rw [jU]
      have e1:(k == 5||k == 6)=true:=by rcases hk with rfl | rfl <;> rfl
      have e2:ko ⟨k,0,[],0,0,ByteArray.empty,m⟩=true:=by rcases hk with rfl | rfl <;> rfl
      rw [e2]
      simp only [e1,dn,Bool.true_and,Bool.and_eq_true,decide_eq_true_eq,List.all_eq_true,Bool.not_eq_true',beq_eq_false_iff_ne,ne_eq]
      exact ⟨by omega,fun z hz=>⟨(t3 z hz).2,(t3 z hz).1.valid⟩⟩
    rw [vW]
    have:=w0 fun z hz=>(t3 z hz).1.size
    have h3:m.length*kN d'≤3*kN d':=Nat.mul_le_mul_right _ t2.2
    dsimp only [kN];omega
  have hpos:=Ae d
  refine Y.bind (P:=fun q:(List Int×Int)⊕(Zd×Zh)=>match q with | .inl s=>SOK ⟨s.1,s.2⟩ | .inr r=>Good r.1 (kN d)∧r.1.Kind≠but∧SOK r.2) ?_ fun q hq=>?_
  · refine Y.cond (fun _=>?_) fun _=>Y.cond (fun _=>?_) fun _=>Y.cond (fun _=>?_) fun _=>Y.ret h3
    · refine (Ab h3).bind fun b ⟨k1,k2⟩=>Y.ret (tz hb hpos k2 uU (by simp) rfl ⟨by simp,by simp⟩ ?_)
      rw [jU];simp only [ko,mh,k1];rfl
    · refine (dj h3 5 (by omega) (by omega)).bind fun b ⟨k1,k2,k3⟩=>?_
      obtain ⟨j,hj⟩:∃ j:Nat,b.1=(j:Int):=⟨b.1.toNat,by omega⟩
      have hj5:j<5:=by omega
      refine Y.idx hj hj5 (Y.ret ?_)
      have hw:∀ j:Nat,(h:j<5)→gj [(⟨#[97,110,100]⟩:ByteArray),(⟨#[99,117,116]⟩:ByteArray),(⟨#[111,114]⟩:ByteArray),(⟨#[115,101,119]⟩:ByteArray),(⟨#[115,112,105,110]⟩:ByteArray)][j]=true:=by
        intro j h
        match j,h with
        | 0,_=>rfl
        | 1,_=>rfl
        | 2,_=>rfl
        | 3,_=>rfl
        | 4,_=>rfl
      have hw2:=hw j hj5
      refine tz hb hpos k3 uU ?_ rfl ⟨by simp,by simp⟩ ?_
      · have h12:=hw2
        simp only [gj,Bool.and_eq_true,decide_eq_true_eq] at h12
        dsimp only;omega
      rw [jU];simp only [ko,mh,hw2];rfl
    refine (dj h3 3 (by omega) (by omega)).bind fun b ⟨k1,k2,k3⟩=>Y.cond (fun _=>Y.ret (tz hb hpos k3 uU (by simp) rfl ⟨by simp,by simp⟩ ?_)) fun _=>Y.ret k3
    rw [jU];rfl
  cases q with
  | inr r=>exact Y.ret hq
  | inl s =>
    obtain ⟨l,i⟩:=s
    dsimp only at hq ⊢
    refine (dj hq 3 (by omega) (by omega)).bind fun b ⟨k1,k2,k3⟩=>?_
    refine (dj k3 3 (by omega) (by omega)).bind fun c ⟨c1,c2,c3⟩=>?_
    refine Y.bind (P:=fun t:List Int×Int×List ByteArray=>SOK ⟨t.1,t.2.1⟩∧StrsOk t.2.2∧jT t.2.2=true) ?_ fun t ⟨t1,t2,t3⟩=>?_
    · refine Y.cond (fun _=>?_) fun _=>Y.ret ⟨c3,uU,rfl⟩
      refine (dj c3 2 (by omega) (by omega)).bind fun e ⟨e1,e2,e3⟩=>?_
      obtain he | he:e.1=0∨e.1=1:=by omega
      · rw [he];exact Y.ret ⟨e3,(show StrsOk [(⟨#[57,52,48,49]⟩:ByteArray),(⟨#[57,53,48,50]⟩:ByteArray)] from ⟨by decide,by decide⟩),(show jT [(⟨#[57,52,48,49]⟩:ByteArray),(⟨#[57,53,48,50]⟩:ByteArray)]=true by kernel_rfl)⟩
      rw [he];exact Y.ret ⟨e3,(show StrsOk [(⟨#[57,53,48,50]⟩:ByteArray)] from ⟨by decide,by decide⟩),(show jT [(⟨#[57,53,48,50]⟩:ByteArray)]=true by kernel_rfl)⟩
    obtain ⟨l2,i2,ex⟩:=t
    dsimp only at t1 t2 t3 ⊢
    refine (dj t1 3 (by omega) (by omega)).bind fun e ⟨e1,e2,e3⟩=>?_
    refine Y.bind (P:=fun t:List Int×Int×Int=>SOK ⟨t.1,t.2.1⟩∧mil t.2.2=true) (Y.cond (fun _=>(Ab e3).bind fun f ⟨f1,f2⟩=>Y.ret ⟨f2,f1⟩) fun _=>Y.ret ⟨e3,rfl⟩) fun u ⟨u1,u2⟩=>?_
    obtain ⟨l3,i3,tol⟩:=u
    dsimp only at u1 u2 ⊢
    refine Y.ret (tz hb hpos u1 t2 (by simp) rfl ⟨by simp,by simp⟩ ?_)
    rw [cg (r:=2*b.1) (by omega) (by omega),cg (by omega) (by omega),jU]
    simp only [ko,mh,t3,u2]
    obtain hb0 | hb0 | hb0:b.1=0∨b.1=1∨b.1=2:=by omega
    · rw [hb0];rfl
    · rw [hb0];rfl
    rw [hb0];rfl
theorem rule_Y (d:Nat):∀ (n:Nat) (p:Zh) (but:Int),d<n→d≤10→SOK p→(but=0∨but=5∨but=6)→Y (dh n p but (d:Int)) (fun r=>Good r.1 (kN d)∧r.1.Kind≠but∧SOK r.2):=by
  induction d with
  | zero=>exact fun n p but h1 h2 hp hb=>sm hp hb h1 (by omega) (fun d h=>absurd h (by omega))
  | succ d ih=>exact fun n p but h1 h2 hp hb=>sm hp hb h1 (by omega) (fun d' h q but' hq hb'=>by
      obtain rfl:d'=d:=by omega
      exact ih _ q but' (by omega) (by omega) hq hb')
theorem Af (x y z:ByteArray) (h1:ib x y=true) (h2:ib y z=true):ib x z=true:=by
 rw [lZ] at *;exact det (List.lt_trans (of_decide_eq_true h1) (of_decide_eq_true h2))
theorem w5 (x:ByteArray):ib x x=false:=by rw [lZ];exact cq (List.lt_irrefl _)
theorem iT:∀ l:List ByteArray,j5 ib l=true↔l.Pairwise (fun a b=>ib a b=true)
 | []=>by simp [j5]
 | [a]=>by simp [j5]
 | a::b::l=>by
  rw [j5,Bool.and_eq_true,iT (b::l)]
  constructor
  ·rintro ⟨h1,h2⟩
   refine List.pairwise_cons.2 ⟨fun c hc=>?_,h2⟩
   rcases List.mem_cons.1 hc with rfl | hc
   ·exact h1
   exact Af _ _ _ h1 ((List.pairwise_cons.1 h2).1 c hc)
  intro h;obtain ⟨h1,h2⟩:=List.pairwise_cons.1 h;exact ⟨h1 b (by simp),h2⟩
theorem lv {α:Type} {l C:List α} {v:Nat} (h:l.Sublist (C.take v)) (hv:v<C.length):(l++[C[v]]).Sublist (C.take (v+1))∧l.Sublist (C.take (v+1)):=by
 have e:C.take (v+1)=C.take v++[C[v]]:=by rw [List.take_add_one,List.getElem?_eq_getElem hv];rfl
 rw [e]
 exact ⟨h.append (List.Sublist.refl _),h.trans (List.sublist_append_left _ _)⟩
def C6:List ByteArray:=[(⟨#[65,65]⟩:ByteArray),(⟨#[66,66]⟩:ByteArray),(⟨#[67,67]⟩:ByteArray),(⟨#[68,68]⟩:ByteArray),(⟨#[69,69]⟩:ByteArray),(⟨#[70,70]⟩:ByteArray)]
def P5:List ByteArray:=[(⟨#[57,52]⟩:ByteArray),(⟨#[57,52,48,49]⟩:ByteArray),(⟨#[57,52,48,49,48,50]⟩:ByteArray),(⟨#[57,53]⟩:ByteArray),(⟨#[57,53,48,50]⟩:ByteArray)]
theorem C6_ok:C6.all ctry=true∧j5 ib C6=true∧(C6.all fun s=>decide (s.size≤100))=true:=⟨by kernel_rfl,by kernel_rfl,by kernel_rfl⟩
theorem P5_ok:P5.all lev=true∧j5 ib P5=true∧(P5.all fun s=>decide (s.size≤100))=true:=⟨by kernel_rfl,by kernel_rfl,by kernel_rfl⟩
structure MA (i:Nat) (a:Zb):Prop where
 id:a.ID=2+5*(i:Int)
 kind:1≤a.Kind∧a.Kind≤3
 par:a.Parties.Sublist C6
 pre:(a.Rules.map (·.Prefix)).Sublist P5
 good:∀ x∈a.Rules,Good x.Rule (kN 1)
 ne:a.Rules≠[]
structure MAs (l:List Zb):Prop where
 len:1≤l.length∧l.length≤4
 all:∀ (i:Nat) (a:Zb),l[i]?=some a→MA i a
theorem P5_len {a:Zb} (h:(a.Rules.map (·.Prefix)).Sublist P5):a.Rules.length≤5:=by have:=h.length_le;simpa [P5] using this
theorem MA.strs {i:Nat} {a:Zb} (h:MA i a):StrsOk a.Parties:=by
 refine ⟨?_,fun s hs=>?_⟩
 ·have:=h.par.length_le;have h6:C6.length=6:=rfl;omega
 have:=of_decide_eq_true (List.all_eq_true.1 C6_ok.2.2 s (h.par.subset hs));omega
theorem MA.aok {i:Nat} {a:Zb} (h:MA i a):AOk a:=by
 refine ⟨h.strs,by have:=P5_len h.pre;omega,fun x hx=>?_⟩
 have hp:=of_decide_eq_true (List.all_eq_true.1 P5_ok.2.2 x.Prefix (h.pre.subset (List.mem_map_of_mem hx)))
 have hg:=h.good x hx
 exact ⟨by omega,hg.ok,by have h1:=wZ x.Rule;have h2:=hg.size;simp only [kN] at h2;omega⟩
theorem MAs.ok {l:List Zb} (h:MAs l):ASOk l:=⟨by have:=h.len;omega,fun a ha=>by
 obtain ⟨i,hi,rfl⟩:=List.getElem_of_mem ha;exact (h.all i _ (List.getElem?_eq_getElem hi)).aok⟩
theorem MA.parties {i:Nat} {a:Zb} (h:MA i a):qQ a.Parties=true:=by
 unfold qQ
 rw [Bool.and_eq_true]
 refine ⟨List.all_eq_true.2 fun s hs=>List.all_eq_true.1 C6_ok.1 s (h.par.subset hs),?_⟩
 rw [iT];exact List.Pairwise.sublist h.par ((iT _).1 C6_ok.2.1)
theorem MA.rulesE {i:Nat} {a:Zb} (h:MA i a):rulesE a.Rules=0:=by
 have:dX (Aa a.Rules) a.Rules 0=none:=by
  rw [jG]
  intro k x hx
  obtain ⟨hk,rfl⟩:=List.getElem?_eq_some_iff.1 hx
  have hmem:a.Rules[k]∈a.Rules:=List.getElem_mem hk
  have h1:=List.all_eq_true.1 P5_ok.1 _ (h.pre.subset (List.mem_map_of_mem hmem))
  have hg:=h.good _ hmem
  have h2:nI a.Rules[k].Rule=0:=(nh _).2 ⟨by have:=hg.size;simp only [kN] at this;omega,hg.valid⟩
  unfold Aa
  rw [Nat.zero_add,h1,h2]
  have hpw:=List.Pairwise.sublist h.pre ((iT _).1 P5_ok.2.1)
  by_cases h0:0<k
  ·rw [iB (show k - 1<a.Rules.length by omega)]
   have:=(List.pairwise_iff_getElem.1 (List.pairwise_map.1 hpw)) (k - 1) k (by omega) hk (by omega)
   rw [this];simp
  simp [h0]
 unfold SX.rulesE;rw [this];rfl
theorem MAs.valid {l:List Zb} (h:MAs l):agrE l=0:=by
 have:dX (gAgr l) l 0=none:=by
  rw [jG]
  intro k x hx
  obtain ⟨hk,rfl⟩:=List.getElem?_eq_some_iff.1 hx
  have hm:=h.all k _ hx
  have hl:=h.len
  unfold gAgr
  rw [Nat.zero_add,hm.parties,hm.rulesE]
  have i1:(decide (l[k].ID<1)||decide (1000<l[k].ID)||decide (l[k].Kind<1)||decide (3<l[k].Kind))=false:=by
   have e1:=hm.id;have e2:=hm.kind
   rw [cq (by omega),cq (by omega),cq (by omega),cq (by omega)];rfl
  have i2:(decide (12<l[k].Parties.length)||decide (12<l[k].Rules.length))=false:=by
   have e1:=hm.par.length_le;have e2:=P5_len hm.pre;have h6:C6.length=6:=rfl
   rw [cq (by omega),cq (by omega)];rfl
  rw [i1,i2]
  by_cases h0:0<k
  ·rw [iB (show k - 1<l.length by omega)]
   have hm2:=h.all (k - 1) _ (List.getElem?_eq_getElem (by omega))
   have e1:=hm.id;have e2:=hm2.id
   rw [cq (show ¬ l[k].ID≤(l[k-1]'(by omega)).ID by omega)];simp
  simp [h0]
 unfold agrE
 rw [det (by have:=h.len;omega),this];rfl
theorem nJ:fb=some C6:=rfl
def bitI (m:Int) (v:Int):Bool:=co .i64 (bQ .i64 m v) 1 == 1
theorem Ag:((List.range 31).all fun m=>(List.range 5).any fun v=>bitI ((m+1:Nat):Int) (v:Int))=true:=by kernel_rfl
theorem has_bit {m:Int} (h1:1≤m) (h2:m≤31):∃ v:Nat,v<5∧bitI m (v:Int)=true:=by
 have:=List.all_eq_true.1 Ag (m.toNat - 1) (List.mem_range.2 (by omega))
 obtain ⟨v,hv,h⟩:=List.any_eq_true.1 this
 rw [show ((m.toNat - 1+1:Nat):Int)=m by omega] at h
 exact ⟨v,List.mem_range.1 hv,h⟩
theorem lw (v:Nat):i5 (v:Int)=some ():=by unfold i5;rw [if_pos (by omega)]
theorem xZ {c:Int→Bool}:Y (bf (S:=Int×(List ByteArray)) (T:=((List ByteArray))) (fun (v22,l24)=>cond (decide (v22<6)) (Option.bind (Option.bind (i5 v22) (fun _=>cond (c v22) (Option.bind (fb) (fun x44=>Option.bind (idx x44 v22) (fun m45=>Option.bind (app 16 l24 [m45]) (fun l48=>some l48)))) (some l24))) (fun l40=>some (.inl ((IntKind.i64.wrap (v22+1)),l40)))) (some (.inr l24))) FUEL (0,([]:List ByteArray))) (fun l=>l.Sublist C6):=by
 refine Y.loop (fun s=>∃ v:Nat,s.1=(v:Int)∧v≤6∧s.2.Sublist (C6.take v)) (fun s=>(6 - s.1).toNat) ⟨0,rfl,by omega,List.Sublist.refl _⟩ (by dsimp only;omega) fun s hs=>?_
 obtain ⟨i,l⟩:=s
 obtain ⟨v,rfl,h1,h2⟩:=hs
 dsimp only at h2 ⊢
 have hlen:l.length≤6:=by have:=h2.length_le;have h6:C6.length=6:=rfl;rw [List.length_take] at this;omega
 refine Y.cond (fun hc=>?_) (fun hc=>Y.ret (h2.trans (List.take_sublist _ _)))
 have hv:v<6:=by have:=of_decide_eq_true hc;omega
 have hs:=lv h2 (show v<C6.length from hv)
 refine Y.bind (P:=fun m:List ByteArray=>m.Sublist (C6.take (v+1))) (Y.eq (lw v) (Y.cond (fun _=>?_) fun _=>Y.ret hs.2)) fun m hm=>Y.ret ⟨⟨v+1,?_,by omega,hm⟩,?_⟩
 ·refine Y.eq nJ (Y.idx rfl (show v<C6.length from hv) ?_)
  rw [dy (by simp;omega) (by simp;omega)];exact Y.ret hs.1
 ·show IntKind.i64.wrap ((v:Int)+1)=_;rw [cg (by omega) (by omega)];omega
 show (6 - IntKind.i64.wrap ((v:Int)+1)).toNat<(6 - (v:Int)).toNat;rw [cg (by omega) (by omega)];omega
theorem tA (p0:List Int):Y (fH p0) MAs:=by
 unfold fH
 refine (cut_Y p0 200 (by omega) (by omega)).bind fun x1 hx1=>?_
 refine (dj hx1 4 (by omega) (by omega)).bind fun x3 ⟨a1,a2,a3⟩=>?_
 rw [cg (r:=1+x3.1) (by omega) (by omega)]
 refine Y.bind (P:=MAs) ?_ fun l hl=>Y.ret hl
 refine Y.loop (fun s:List Zb×Int×List Int×Int=>(s.2.1=(s.1.length:Int)∧s.2.1≤1+x3.1)∧SOK ⟨s.2.2.1,s.2.2.2⟩∧∀ i a,s.1[i]?=some a→MA i a) (fun s=>(1+x3.1 - s.2.1).toNat) ⟨⟨rfl,by dsimp only;omega⟩,a3,by simp⟩ (by dsimp only;omega) fun s hs=>?_
 obtain ⟨l5,v8,l9,v10⟩:=s
 obtain ⟨⟨h1,h2⟩,h3,h4⟩:=hs
 dsimp only at h1 h2 h3 h4 ⊢
 refine Y.cond (fun hc=>?_) (fun hc=>Y.ret ⟨?_,h4⟩)
 rotate_left
 ·have hc:=of_decide_eq_false hc;omega
 have hc:=of_decide_eq_true hc
 refine (dj h3 3 (by omega) (by omega)).bind fun x19 ⟨b1,b2,b3⟩=>?_
 refine (dj b3 64 (by omega) (by omega)).bind fun x21 ⟨c1,c2,c3⟩=>?_
 refine (xZ (c:=fun v=>co .i64 (bQ .i64 (kQ .i64 x21.1 3) v) 1 == 1)).bind fun l31 hl31=>?_
 refine Y.bind (P:=fun r:Int×Zh=>SOK r.2) (Y.gdp (fun _=>(dj c3 2 (by omega) (by omega)).mono fun r hr=>hr.2.2) fun _=>c3) fun x53 hx53=>?_
 refine Y.bind (P:=fun t:List Int×Int×List Zf=>SOK ⟨t.1,t.2.1⟩∧(t.2.2.map (·.Prefix)).Sublist P5∧(∀ x∈t.2.2,Good x.Rule (kN 1))∧t.2.2≠[]) ?_ fun t ⟨t1,t2,t3,t4⟩=>?_
 ·refine Y.cond (fun hc2=>?_) fun hc2=>?_
  ·simp only [Bool.and_eq_true,decide_eq_true_eq] at hc2
   obtain ⟨j,hj⟩:∃ j:Nat,v8 - 1=(j:Int):=⟨(v8 - 1).toNat,by omega⟩
   refine Y.idx (n:=j) (by rw [cg (by omega) (by omega)];exact hj) (show j<l5.length by omega) ?_
   have:=h4 j _ (List.getElem?_eq_getElem (by omega))
   exact Y.ret ⟨hx53,this.pre,this.good,this.ne⟩
  refine (dj hx53 31 (by omega) (by omega)).bind fun x64 ⟨d1,d2,d3⟩=>?_
  refine Y.bind (P:=fun t:List Int×Int×List Zf=>SOK ⟨t.1,t.2.1⟩∧(t.2.2.map (·.Prefix)).Sublist P5∧(∀ x∈t.2.2,Good x.Rule (kN 1))∧t.2.2≠[]) ?_ fun t ht=>Y.ret ht
  refine Y.loop (fun s:Int×List Int×Int×List Zf=>∃ v:Nat,s.1=(v:Int)∧v≤5∧SOK ⟨s.2.1,s.2.2.1⟩∧(s.2.2.2.map (·.Prefix)).Sublist (P5.take v)∧(∀ x∈s.2.2.2,Good x.Rule (kN 1))∧(s.2.2.2≠[]∨∀ u:Nat,u<v→bitI (1+x64.1) (u:Int)=false)) (fun s=>(5 - s.1).toNat) ⟨0,rfl,by omega,d3,List.Sublist.refl _,by simp,.inr (fun u hu=>absurd hu (Nat.not_lt_zero _))⟩ (by dsimp only;omega) fun s hs=>?_
  obtain ⟨i,l,k,m⟩:=s
  obtain ⟨v,rfl,e1,e2,e3,e4,e5⟩:=hs
  dsimp only at e2 e3 e4 e5 ⊢
  have hlen:m.length≤5:=by have:=e3.length_le;have h6:P5.length=5:=rfl;rw [List.length_take,List.length_map] at this;omega
  refine Y.cond (fun hc3=>?_) (fun hc3=>Y.ret ⟨e2,e3.trans (List.take_sublist _ _),e4,?_⟩)
  rotate_left
  ·have h5:v=5:=by have:=of_decide_eq_false hc3;omega
   rcases e5 with e5 | e5
   ·exact e5
   obtain ⟨u,hu,hb⟩:=has_bit (m:=1+x64.1) (by omega) (by omega)
   rw [e5 u (by omega)] at hb;cases hb
  have hv:v<5:=by have:=of_decide_eq_true hc3;omega
  have hs:=lv e3 (show v<P5.length from hv)
  refine Y.bind (P:=fun t:List Int×Int×List Zf=>SOK ⟨t.1,t.2.1⟩∧(t.2.2.map (·.Prefix)).Sublist (P5.take (v+1))∧(∀ x∈t.2.2,Good x.Rule (kN 1))∧(t.2.2≠[]∨∀ u:Nat,u<v+1→bitI (1+x64.1) (u:Int)=false)) (Y.eq (lw v) (Y.cond (fun _=>?_) fun hbit=>Y.ret ⟨e2,hs.2,e4,?_⟩)) fun t ⟨t1,t2,t3,t4⟩=>Y.ret ⟨⟨v+1,?_,by omega,t1,t2,t3,t4⟩,?_⟩
  ·refine Y.idx (xs:=P5) rfl (show v<P5.length from hv) ?_
   refine (rule_Y 1 FUEL ⟨l,k⟩ 0 (iM (by omega)) (by omega) e2 (.inl rfl)).bind fun r ⟨r1,r2,r3⟩=>?_
   rw [dy (by simp;omega) (by simp;omega)]
   refine Y.ret ⟨r3,by rw [List.map_append];exact hs.1,fun z hz=>?_,.inl (by simp)⟩
   rcases List.mem_append.1 hz with hz | hz
   ·exact e4 z hz
   rw [List.mem_singleton.1 hz];exact r1
  ·rcases e5 with e5 | e5
   ·exact .inl e5
   refine .inr fun u hu=>?_
   rcases Nat.lt_or_ge u v with h | h
   ·exact e5 u h
   obtain rfl:u=v:=by omega
   rw [cg (by omega) (by omega)] at hbit;exact hbit
  ·show IntKind.i64.wrap ((v:Int)+1)=_;rw [cg (by omega) (by omega)];omega
  show (5 - IntKind.i64.wrap ((v:Int)+1)).toNat<(5 - (v:Int)).toNat;rw [cg (by omega) (by omega)];omega
 obtain ⟨l55,v56,l58⟩:=t
 dsimp only at t1 t2 t3 ⊢
 rw [dy (by simp;omega) (by simp;omega),bI,cg (r:=v8+1) (by omega) (by omega),cg (r:=1+x19.1) (by omega) (by omega),cg (r:=5*v8) (by omega) (by omega),cg (by omega) (by omega)]
 refine Y.ret ⟨⟨⟨by simp;omega,by dsimp only;omega⟩,t1,fun i a ha=>?_⟩,by dsimp only;omega⟩
 rw [List.getElem?_append] at ha
 split at ha
 ·exact h4 i a ha
 rename_i hi
 have hi0:i - l5.length=0:=by have:=(List.getElem?_eq_some_iff.1 ha).1;simp at this;omega
 rw [hi0] at ha
 simp only [List.getElem?_cons_zero,df] at ha
 subst ha
 exact ⟨by dsimp only;omega,⟨by dsimp only;omega,by dsimp only;omega⟩,hl31,t2,t3,t4⟩
structure RawA (a:Zb):Prop where
 par:StrsOk a.Parties
 len:a.Rules.length≤140737488355328
 rules:∀ x∈a.Rules,x.Prefix.size≤140737488355328∧ROk x.Rule
theorem gy {α:Type} {b:Nat} {l:List α} (h:l.length≤1000000000) (hb:b≤1000):app b ([]:List α) l=some l:=by
 have:=Nat.mul_le_mul h hb
 exact dy (by simpa using (by omega:l.length*b≤140737488355328)) (by simp;omega)
def k0 (W:World):Kr:=⟨W,fun b=>b<W.heap.size⟩
theorem ni {t:Nat} {z:Value} {s b:Nat} (h:eE t=some (z,s,b)):Tryz.prog.cellsOf t=s∧Tryz.prog.bytesOf t=b:=by
 obtain ⟨i,h1,h2,h3,h4⟩:=mt h
 constructor
 ·simp [Program.cellsOf,h1,h3]
 simp [Program.bytesOf,h1,h4]
def Light {H:Type} (t:Nat) (d:DataW H):Prop:=∀ n∈d.weights Tryz.prog t,n≤reachBytes
theorem Ah {H:Type} (d:DataW H):1≤Rows.uptoBulk d:=by
 cases d with
 | lit l=>cases l <;> simp [Rows.uptoBulk]
 | nil=>simp [Rows.uptoBulk]
 | ptr d=>simp [Rows.uptoBulk]
 | slice elems spare=>simp [Rows.uptoBulk]
 | agg parts=>simp [Rows.uptoBulk]
 | iface t d=>simp [Rows.uptoBulk]
 | map entries=>simp [Rows.uptoBulk]
 | held h=>simp [Rows.uptoBulk]
theorem ya {H:Type} {d:DataW H} {l:List (DataW H)} (h:d∈l):Rows.uptoBulk d≤Rows.uptoBulkAll l:=by
 induction l with
 | nil=>cases h
 | cons x r ih =>
  simp only [Rows.uptoBulkAll]
  cases List.mem_cons.1 h with
  | inl e=>subst e;omega
  | inr e=>have:=ih e;omega
theorem Ai {H:Type} (l:List (DataW H)):l.length≤Rows.uptoBulkAll l:=by
 induction l with
 | nil=>simp [Rows.uptoBulkAll]
 | cons x r ih=>have:=Ah x;simp only [Rows.uptoBulkAll,List.length_cons];omega
def Opens {H:Type} (eh:TypeId×Value→H) {α:Type} (n:Nat) (t:Nat) (e:α→List PV) (B:α→Prop):Prop :=
 ∀ (W:World) (fuel:Nat) (cs:List Value) (x:DataW H×List MemPlace),DataW.trod eh Tryz.prog W 0 (fun _=>true) true fuel t cs=some x→Light t x.1→Rows.uptoBulk x.1≤n→∃ m,Rps (k0 W) (e m) cs∧One cs∧B m
section
variable {H:Type} {eh:TypeId×Value→H} {nb:Nat}
theorem one1 {v:Value} (h:v.oneCell'=true):One [v]:=fun u hu=>by rw [List.mem_singleton.1 hu];exact h
theorem yb {t:Nat} {k:IntKind} (h:dw t=some (.int k)):Opens eh nb t (fun x:Int=>[.v (.int k x)]) (fun _=>True):=fun W fuel cs x hx _ _=>by
 obtain ⟨n,rfl,_,_⟩:=DataW.trod_int (bt h) hx
 exact ⟨n,.cons (.v rfl) .nil,one1 rfl,trivial⟩
theorem mi {e:Nat}:∀ {l:List (DataW H)} {d:DataW H} {n:Nat},d∈l→n∈d.weights Tryz.prog e→n∈DataW.weightsAll Tryz.prog e l
 | d'::l,d,n,hd,hn=>by
  simp only [DataW.weightsAll,List.mem_append]
  rcases List.mem_cons.1 hd with rfl | hd
  ·exact .inl hn
  exact .inr (mi hd hn)
theorem w6 {α β:Type} {R:α→β→Prop}:∀ (l:List β),(∀ b∈l,∃ a,R a b)→∃ la:List α,la.length=l.length∧∀ (i:Nat) (b:β),l[i]?=some b→∃ a,la[i]?=some a∧R a b
 | [],_=>⟨[],rfl,fun i b h=>by simp at h⟩
 | b::l,h=>by
  obtain ⟨a,ha⟩:=h b (by simp)
  obtain ⟨la,h1,h2⟩:=w6 l fun b hb=>h b (by simp [hb])
  refine ⟨a::la,by simp [h1],fun i b' hb=>?_⟩
  cases i with
  | zero=>simp only [List.getElem?_cons_zero,df] at hb;subst hb;exact ⟨a,rfl,ha⟩
  | succ i=>simp only [List.getElem?_cons_succ] at hb ⊢;exact h2 i b' hb
def OpensN {H:Type} (eh:TypeId×Value→H) {α:Type} (N n:Nat) (t:Nat) (e:α→List PV) (B:α→Prop):Prop :=
 ∀ (W:World) (fuel:Nat) (cs:List Value) (x:DataW H×List MemPlace),fuel<N→DataW.trod eh Tryz.prog W 0 (fun _=>true) true fuel t cs=some x→Light t x.1→Rows.uptoBulk x.1≤n→∃ m,Rps (k0 W) (e m) cs∧One cs∧B m
theorem tB {α:Type} {N t E sz by':Nat} {z:Value} {e:α→List PV} {B:α→Prop} (hu:dw t=some (.slice E)) (hi:eE E=some (z,sz,by')) (h0:Nat.blt 0 sz=true) (hb0:Nat.blt 0 by'=true) (hE:OpensN eh N nb E e B):OpensN eh (N+1) nb t (eL e) (fun l=>l.length*by'≤140737488355328∧l.length≤nb∧∀ x∈l,B x):=fun W fuel cs x hfu hx hw hbk=>by
 obtain ⟨hcz,hby⟩:=ni hi
 have hsz:0<sz:=by have:=h0;simp [Nat.blt] at this;omega
 have hbp:0<by':=by have:=hb0;simp [Nat.blt] at this;omega
 rcases DataW.trod_slice (bt hu) hx with ⟨rfl,_⟩ | ⟨a,len,cap,elems,rest,n,rfl,rfl,rfl,_,hl,hm,hlen,hel,_,_⟩
 ·exact ⟨[],.cons (.slc (sz:=sz) (css:=[]) Sl.nil (Nat.zero_le _) (fun _ h=>by cases h) .nil) .nil,one1 rfl,by simp,Nat.zero_le _,fun _ h=>by cases h⟩
 rw [hcz] at hel
 have hwl:(elems.length+rest.length)*by'≤reachBytes:=by
  have:=hw ((elems.length+rest.length)*by') (by simp only [DataW.weights,bt hu,hby,List.length_map];exact List.mem_cons_self)
  exact this
 have hn:len≤140737488355328:=by
  unfold reachBytes at hwl
  have:elems.length*1≤(elems.length+rest.length)*by':=Nat.mul_le_mul (by omega) (by omega)
  omega
 have hcells:∀ i∈List.range len,∃ p:α×List Value,W.cells? 0 (a.add (i*sz)) sz=some p.2∧Rps (k0 W) (e p.1) p.2∧One p.2∧B p.1:=fun i hi'=>by
  have hi':i<len:=List.mem_range.1 hi'
  have h1:=hel i hi'
  have hlt:i<elems.length:=by omega
  rw [List.getElem?_eq_getElem hlt] at h1
  obtain ⟨cs,h2,h3⟩:=Option.bind_eq_some_iff.1 h1
  obtain ⟨m,k1,k2,k3⟩:=hE W n cs _ (by omega) h3 (fun q hq=>hw q (by
   simp only [DataW.weights,bt hu]
   exact List.mem_cons_of_mem _ (List.mem_append.2 (.inl (mi (List.mem_map.2 ⟨_,List.getElem_mem hlt,rfl⟩) hq))))) (by
   have h9:=ya (l:=elems.map (·.1)) (List.mem_map.2 ⟨_,List.getElem_mem hlt,rfl⟩)
   simp only [Rows.uptoBulk] at hbk
   omega)
  exact ⟨(m,cs),h2,k1,k2,k3⟩
 obtain ⟨ps,g1,g2⟩:=w6 (R:=fun (p:α×List Value) i=>W.cells? 0 (a.add (i*sz)) sz=some p.2∧Rps (k0 W) (e p.1) p.2∧One p.2∧B p.1) (List.range len) hcells
 rw [List.length_range] at g1
 have g3:∀ (i:Nat) (p:α×List Value),ps[i]?=some p→W.cells? 0 (a.add (i*sz)) sz=some p.2∧Rps (k0 W) (e p.1) p.2∧One p.2∧B p.1:=fun i p hp=>by
  have hlt:=(List.getElem?_eq_some_iff.1 hp).1
  obtain ⟨p',h1,h2⟩:=g2 i i (by rw [List.getElem?_range (by omega)])
  rw [hp] at h1;injection h1 with h1;subst h1;exact h2
 have hps:(ps.map (·.1)).length=len:=by simp [g1]
 refine ⟨ps.map (·.1),?_,one1 rfl,?_,?_,?_⟩
 rotate_left
 ·rw [hps]
  have h9:len*by'≤(elems.length+rest.length)*by':=Nat.mul_le_mul_right _ (by omega)
  unfold reachBytes at hwl
  omega
 ·rw [hps]
  have h9:=Ai (elems.map (·.1))
  rw [List.length_map] at h9
  simp only [Rows.uptoBulk] at hbk
  omega
 ·intro x hx
  obtain ⟨p,hp,rfl⟩:=List.mem_map.1 hx
  obtain ⟨i,hi',rfl⟩:=List.getElem_of_mem hp
  exact (g3 i _ (List.getElem?_eq_getElem hi')).2.2.2
 unfold eL;rw [hps]
 refine .cons (.slc (sz:=sz) (css:=ps.map (·.2)) ⟨by simp [g1],hl,?_,?_⟩ hn ?_ ?_) .nil
 ·intro c hc
  obtain ⟨p,hp,rfl⟩:=List.mem_map.1 hc
  obtain ⟨i,hi',rfl⟩:=List.getElem_of_mem hp
  exact (World.cells?_some (g3 i _ (List.getElem?_eq_getElem hi')).1).2.1
 ·intro hpos
  have hp0:0<ps.length:=by omega
  have hc0:=(World.cells?_some (g3 0 _ (List.getElem?_eq_getElem hp0)).1)
  have hread:=hc0.2.2 0 hsz
  have hspot:a.spot=none:=by
   have hlt:0<(ps[0]).2.length:=by rw [hc0.2.1];exact hsz
   rw [List.getElem?_eq_getElem hlt] at hread
   unfold World.cell? at hread
   cases hs:a.spot with
   | none=>rfl
   | some q =>
    have hsp:((a.add (0*sz)).add 0).spot.isSome=true:=by simp [Addr.add,hs]
    split at hread
    ·rw [if_pos hsp] at hread;cases hread
    cases hread
  obtain ⟨ab,ao,asp⟩:=a
  simp only at hspot;subst hspot
  refine ⟨ab,ao,rfl,fun j c hj=>?_⟩
  rw [List.getElem?_map] at hj
  cases hpj:ps[j]? with
  | none=>rw [hpj] at hj;cases hj
  | some p =>
   rw [hpj] at hj;simp only [Option.map_some,df] at hj;subst hj
   have hcj:=World.cells?_some (g3 j p hpj).1
   refine ⟨?_,fun i u hu'=>?_⟩
   ·have h1:=hcj.2.2 0 hsz
    have hlt:0<p.2.length:=by rw [hcj.2.1];exact hsz
    rw [List.getElem?_eq_getElem hlt,fB,fB] at h1
    unfold World.cell? at h1
    split at h1
    ·rename_i heq
     have:=lc heq
     exact this
    cases h1
   have hlt:i<sz:=by have:=(List.getElem?_eq_some_iff.1 hu').1;omega
   have h1:=hcj.2.2 i hlt
   rw [fB,fB] at h1
   rw [← hu'];exact h1
 ·intro c hc
  obtain ⟨p,hp,rfl⟩:=List.mem_map.1 hc
  obtain ⟨i,hi',rfl⟩:=List.getElem_of_mem hp
  exact (g3 i _ (List.getElem?_eq_getElem hi')).2.2.1
 have:∀ (l:List (α×List Value)),(∀ p∈l,Rps (k0 W) (e p.1) p.2)→Rpss (k0 W) ((l.map (·.1)).map e) (l.map (·.2)):=fun l=>by
  induction l with
  | nil=>exact fun _=>.nil
  | cons p l ih=>exact fun h=>.cons (h p (by simp)) (ih fun q hq=>h q (by simp [hq]))
 refine this ps fun p hp=>?_
 obtain ⟨i,hi',rfl⟩:=List.getElem_of_mem hp
 exact (g3 i _ (List.getElem?_eq_getElem hi')).2.1
theorem uV {α:Type} {t E sz by':Nat} {z:Value} {e:α→List PV} {B:α→Prop} (hu:dw t=some (.slice E)) (hi:eE E=some (z,sz,by')) (h0:Nat.blt 0 sz=true) (hb0:Nat.blt 0 by'=true) (hE:Opens eh nb E e B):Opens eh nb t (eL e) (fun l=>l.length*by'≤140737488355328∧l.length≤nb∧∀ x∈l,B x):=fun W fuel cs x hx hw =>
 tB (N:=fuel) hu hi h0 hb0 (fun W' f' cs' x' _=>hE W' f' cs' x') W fuel cs x (Nat.lt_succ_self _) hx hw
end
end SX
end Go.Proofs.YtgmbmepakpcpaaaGreatDoor
set_option maxRecDepth 100000
namespace Go.Proofs.YtgmbmepakpcpaaaGreatDoor
open Go Go.ChangeShapes Go.WideShapes Go.RowKit
namespace SX
theorem own_ok:ownKnob Tryz.prog.godebug=none:=by kernel_rfl
theorem vZ:laidOutB Tryz.prog=true:=by kernel_rfl
def sn:List (String×DataW Unit):=[("unicode/utf8.acceptRanges",Rows.laid_unicode_utf8_acceptRanges),("customs/nomenclature.lengths",Rows.laid_customs_nomenclature_lengths),("unicode/utf8.first",Rows.laid_unicode_utf8_first)]
mutual
def wa:DataW Unit→List Value
 | .lit (.int k n)=>[.int k n]
 | .agg ds=>w7 ds
 | _=>[]
def w7:List (DataW Unit)→List Value
 | []=>[]
 | d::r=>wa d++w7 r
end
def c_acc:Array Value:=(wa Rows.laid_unicode_utf8_acceptRanges).toArray
def uW:Array Value:=#[.int .i64 2,.int .i64 4,.int .i64 6,.int .i64 8]
def xa:Array Value:=(wa Rows.laid_unicode_utf8_first).toArray
def Aj (h:Array Obj) (g:Nat) (cs:Array Value):Array Obj:=h.modify g fun | .cells _ t frozen=>.cells cs t frozen | o=>o
noncomputable def laidWorld (os:Os):World :=
 { World.holding Tryz.prog os ⟨#[],#[],[]⟩ with heap:=Aj (Aj (Aj (World.holding Tryz.prog os ⟨#[],#[],[]⟩).heap 4 c_acc) 0 uW) 3 xa }
theorem qS:(sn.filter fun x=>x.2.handleName?.isSome)=[]:=by kernel_rfl
def Ak (w:World):MemPlace→Bool
 | .cell b off=>match w.heap[b]? with
  | some (.cells c _ (0,0))=>match c[off]? with | some (.iface _ _)=>false | _=>true
  | _=>false
 | _=>true
theorem wb {w:World} {ps:List MemPlace} (h:ps.all (Ak w)=true):∀ b off,MemPlace.cell b off∈ps→(∃ c t,w.heap[b]?=some (.cells c t (0,0)))∧∀ u v,w.cell? ⟨b,off,none⟩=some (.iface u v)→Value.okWide Tryz.prog w .any 0 u v:=fun b off hm=>by
 have:=List.all_eq_true.1 h _ hm
 unfold Ak at this
 split at this
 ·rename_i b' off' e
  injection e with e1 e2;subst e1;subst e2
  split at this
  ·rename_i c t heq
   refine ⟨⟨c,t,heq⟩,fun u v hc=>?_⟩
   simp only [World.cell?,heq] at hc
   split at this
   ·cases this
   rename_i hno;exact absurd hc (by simpa using hno u v)
  cases this
 rename_i hno;exact absurd rfl (hno b off)
theorem rF (os:Os) (args:Array Value):laidMetH Tryz.prog sn ((laidWorld os).forCall (fun _ _=>0) ⟨#[],args,[]⟩).memory:=by
 unfold laidMetH
 rw [qS]
 refine ⟨_,⟨4,275,c_acc,8,[],_,by kernel_rfl,by kernel_rfl,by kernel_rfl,by kernel_rfl,⟨0,213,uW,8,[],_,by kernel_rfl,by kernel_rfl,by kernel_rfl,by kernel_rfl,⟨3,272,xa,8,[],_,by kernel_rfl,by kernel_rfl,by kernel_rfl,by kernel_rfl,rfl,rfl⟩,rfl⟩,rfl⟩,?_,?_⟩
 ·exact of_decide_eq_true (by kernel_rfl)
 exact wb (by kernel_rfl)
theorem kb {H:Type} {eh:TypeId×Value→H} {P:Program} {w:World} {base:Nat} {sp:Nat→Bool} {held:Bool} {fuel:Nat} {t:TypeId} {k:IntKind} {c:Value} {y:DataW H×List MemPlace} (ht:P.underlying t=some (.int k)) (h:DataW.trod eh P w base sp held fuel t [c]=some y):∃ n,c=.int k n∧y=(.lit (.int k n),[]):=by
 obtain ⟨n,h1,h2,_⟩:=DataW.trod_int ht h
 injection h1 with h1 _
 exact ⟨n,h1,h2⟩
theorem uX {W:World} (h:laidMetH Tryz.prog sn W):GOK (k0 W):=by
 unfold laidMetH at h
 rw [qS] at h
 obtain ⟨ps,⟨_,_,_,_,_,_,_,_,_,_,⟨g,t,cs,fuel,p,q,hg,ht,hvar,hd,_,_⟩,_⟩,_⟩:=h
 obtain rfl:=Option.some.inj ((show Tryz.prog.globalNamed "customs/nomenclature.lengths" = some 0 by kernel_rfl).symm.trans hg)
 obtain rfl:=Option.some.inj ((show (Tryz.prog.globals[0]?).map (·.type)=some 213 by kernel_rfl).symm.trans ht)
 have hcs:cs=uW:=by
  obtain ⟨l⟩:=cs
  cases fuel with
  | zero=>simp [DataW.trod] at hd
  | succ fuel =>
   have hc1:=(ni (t:=213) rfl).1
   have hc2:=(ni (t:=3) rfl).1
   have hu1:Tryz.prog.underlying 213=some (.array 4 3):=bt rfl
   simp only [DataW.trod,hu1,hc1,hc2] at hd
   split at hd
   ·rename_i hl
    obtain ⟨c0,c1,c2,c3,rfl⟩:∃ c0 c1 c2 c3,l=[c0,c1,c2,c3]:=by
     match l,hl with
     | [a,b,c,d],_=>exact ⟨a,b,c,d,rfl⟩
    have e:List.range 4=[0,1,2,3]:=rfl
    rw [e] at hd
    simp only [Option.map_eq_some_iff,List.mapM_cons,List.mapM_nil,Option.bind_eq_bind,Option.bind_eq_some_iff,Option.pure_def,df] at hd
    obtain ⟨xs,⟨y0,h0,_,⟨y1,h1,_,⟨y2,h2,_,⟨y3,h3,_,rfl,rfl⟩,rfl⟩,rfl⟩,rfl⟩,hx⟩:=hd
    have hui:Tryz.prog.underlying 3=some (.int .i64):=bt rfl
    obtain ⟨n0,rfl,rfl⟩:=kb hui h0
    obtain ⟨n1,rfl,rfl⟩:=kb hui h1
    obtain ⟨n2,rfl,rfl⟩:=kb hui h2
    obtain ⟨n3,rfl,rfl⟩:=kb hui h3
    simp [Rows.laid_customs_nomenclature_lengths] at hx
    obtain ⟨⟨rfl,rfl,rfl,rfl⟩,_⟩:=hx
    rfl
   cases hd
 subst hcs
 have hcell:∀ j u,uW[j]?=some u→W.cell? ⟨0,j,none⟩=some u:=fun j u hu=>by
  have:=World.var?_cell hg hvar j
  rw [this];exact hu
 refine ⟨?_,fun j u hu=>?_⟩
 ·have h0:=hcell 0 _ rfl
  unfold World.cell? at h0
  split at h0
  ·rename_i heq;exact lc heq
  cases h0
 rw [Nat.zero_add];exact hcell j u (by simpa [uW] using hu)
end SX
end Go.Proofs.YtgmbmepakpcpaaaGreatDoor
set_option maxRecDepth 100000
namespace Go.Proofs.YtgmbmepakpcpaaaGreatDoor
open Go Go.ChangeShapes Go.WideShapes Go.RowKit
namespace SX
theorem inv0 (W:World):Zk ⟨k0 W,[]⟩ [] (k0 W):=⟨.refl _ _,fun _ h=>h,(fun _ h=>by cases h),(fun _ h=>by cases h),.nil⟩
theorem Al {W:World} {ρ:List Res} {κ:Kr} (h:Zk ⟨k0 W,[]⟩ ρ κ):Below W.heap.size W κ.w:=⟨h.le.os,h.le.tape,h.le.output,h.le.kle.size,fun k hk=>h.le.same k hk (by simp)⟩
section
variable {H:Type} {eh:TypeId×Value→H}
theorem rG {W W':World} (hb:Below W.heap.size W W') {ts:List TypeId} (hr:∀ t∈ts,Tryz.prog.readableRec t=true∧t<Tryz.prog.types.size):∀ {vs:List Value} {ds:List (DataW H)} {ps:List MemPlace},DataW.TrodAll eh Tryz.prog W 0 (fun _=>true) true ts vs ds ps→(∀ p∈ps,p.block<W.heap.size)→DataW.TrodAll eh Tryz.prog W' 0 (fun b=>decide (b<W.heap.size)) true ts vs ds ps:=by
 induction ts with
 | nil=>intro vs ds ps h _;cases vs <;> cases ds <;> first | exact h | cases h
 | cons t ts ih =>
  intro vs ds ps h hlt
  cases vs with
  | nil=>cases h
  | cons v vs =>
   cases ds with
   | nil=>cases h
   | cons d ds =>
    obtain ⟨p,q,h1,h2,e⟩:=h
    have ht:=hr t (by simp)
    exact ⟨p,q,Below.trod vZ ht.1 ht.2 h1 hb (fun x hx=>hlt x (by rw [e];simp [hx])),ih (fun u hu=>hr u (by simp [hu])) h2 (fun x hx=>hlt x (by rw [e];simp [hx])),e⟩
theorem readB {ts:List TypeId} (h:(ts.all fun t=>Tryz.prog.readableRec t&&Nat.blt t Tryz.prog.types.size)=true):∀ t∈ts,Tryz.prog.readableRec t=true∧t<Tryz.prog.types.size:=fun t ht=>by
 have:=List.all_eq_true.1 h t ht
 rw [Bool.and_eq_true] at this
 exact ⟨this.1,by have h2:=this.2;exact Nat.le_of_ble_eq_true h2⟩
theorem Am {f tb:Nat} {fn:Func} {s:ChangeSpec} {W:World} {args:Array Value} {ds gs:List (DataW H)} {before:List MemPlace} {pargs:List PV}
    (hrd:∀ t∈fn.params.toList,Tryz.prog.readableRec t=true∧t<Tryz.prog.types.size) (hres:fn.resultTypes=#[tb]) (hub:Tryz.prog.underlying tb=some .bool) (hvars:s.vars=[])
    (hspec:s.fn H ds={ results:=[.lit (.bool true)],args:=ds }) (hW:DataW.Whole eh Tryz.prog fn.params.toList s.vars false W args.toList ds gs before) (hG:GOK (k0 W)) (hargs:Rps (k0 W) pargs args.toList) (hPF:PF f pargs (.v (.bool true))) :
    Calls Tryz.prog f args W fun e W'=>∃ v,e=.returned v∧s.post eh Tryz.prog fn false true false false W args v W':=by
  have hc:=(hPF (k0 W) args.toList hG hargs).2 (inv0 W)
  have e:args.toList.toArray=args:=by simp
  rw [e] at hc
  refine Calls.mono hc fun en W' ⟨v,ρ',κ',h1,h2,h3,h4,h5⟩=>⟨v,h1,?_⟩
  subst h2
  have hv:=h5.val
  subst hv
  have hb:=Al h3
  have hW':=hW
  obtain ⟨p,q,hA,hV,rfl,hfz,hnd⟩:=hW
  rw [hvars] at hV
  obtain ⟨rfl,rfl⟩:gs=[]∧q=[]:=by
    cases gs with
    | nil=>exact ⟨rfl,hV⟩
    | cons g r=>exact absurd hV (by intro h;cases h)
  refine ⟨ds,[],_,[],p,[],hW',?_,?_,?_,hb.frame _,fun h=>by cases h⟩
  · rw [List.append_nil,hspec,hres];exact trodAll_mk1 (shut_bool hub true)
  · rw [List.append_nil,hspec];exact rG hb hrd hA (DataW.TrodAll.lt hA)
  rw [hvars,List.append_nil,hspec];rfl
theorem trodAll_cons {W:World} {t:TypeId} {ts:List TypeId} {vs:List Value} {ds:List (DataW H)} {ps:List MemPlace} (h:DataW.TrodAll eh Tryz.prog W 0 (fun _=>true) true (t::ts) vs ds ps):∃ v vs' d ds' p q,vs=v::vs'∧ds=d::ds'∧DataW.Trod eh Tryz.prog W 0 (fun _=>true) true t v d p∧DataW.TrodAll eh Tryz.prog W 0 (fun _=>true) true ts vs' ds' q:=by
 cases vs with
 | nil=>cases h
 | cons v vs =>
  cases ds with
  | nil=>cases h
  | cons d ds=>obtain ⟨p,q,h1,h2,_⟩:=h;exact ⟨v,vs,d,ds,p,q,rfl,rfl,h1,h2⟩
theorem trodAll_nil {W:World} {vs:List Value} {ds:List (DataW H)} {ps:List MemPlace} (h:DataW.TrodAll eh Tryz.prog W 0 (fun _=>true) true [] vs ds ps):vs=[]∧ds=[]:=by
 cases vs <;> cases ds <;> first | exact ⟨rfl,rfl⟩ | cases h
theorem uY {l:Array TypeId} (h:(l.toList.all fun t => !Tryz.prog.wantsStandIn t)=true) {j:Nat} {t:TypeId} (ht:l[j]?=some t):Tryz.prog.wantsStandIn t=false:=by
 have:=List.all_eq_true.1 h t (by have:=Array.mem_of_getElem? ht;simpa using this)
 simpa using this
theorem light_head {t:Nat} {ts:List Nat} {d:DataW H} {ds:List (DataW H)} (h:(DataW.weightsEach Tryz.prog (t::ts) (d::ds)).all (· ≤ reachBytes)=true):Light t d∧(DataW.weightsEach Tryz.prog ts ds).all (· ≤ reachBytes)=true:=by
 simp only [DataW.weightsEach,List.all_append,Bool.and_eq_true] at h
 exact ⟨fun n hn=>by simpa using List.all_eq_true.1 h.1 n hn,h.2⟩
def qT:TypeDesc→Bool
 | .int _ | .bool | .string | .slice _=>true
 | _=>false
theorem not_agg {W:World} {r:Reach} {base t:Nat} {v:Value} {D:TypeDesc} (hu:dw t=some D) (hD:qT D=true) (h:Value.okWide Tryz.prog W r base t v):∀ cs,v.cells.toList=[cs]→v=cs:=fun cs he=>by
 cases v with
 | agg arr =>
  exfalso
  unfold Value.okWide at h
  rw [bt hu] at h
  cases D <;> first | (revert hD;simp [qT];done) | (simp only at h;unfold Cell.okWide at h;rw [bt hu] at h;simp only at h;unfold Cell.ok at h;rw [bt hu] at h;simp at h)
 | _=>simpa [Value.cells] using he
theorem mB {nb:Nat} {W:World} {r:Reach} {base t:Nat} {v:Value} {D:TypeDesc} {α:Type} {e:α→List PV} {B:α→Prop} {d:DataW H} {ps:List MemPlace} (hu:dw t=some D) (hD:qT D=true) (hO:Opens eh nb t e B) (h1:∀ m,∃ p,e m=[p]) (h:Value.okWide Tryz.prog W r base t v) (hd:DataW.Trod eh Tryz.prog W 0 (fun _=>true) true t v d ps) (hl:Light t d) (hn:Rows.uptoBulk d≤nb):∃ m,Rps (k0 W) (e m) [v]∧B m:=by
 obtain ⟨fuel,hf⟩:=hd
 obtain ⟨m,h2,_,h9⟩:=hO W fuel _ _ hf hl hn
 refine ⟨m,?_,h9⟩
 obtain ⟨p,hp⟩:=h1 m
 rw [hp] at h2
 generalize hc:v.cells.toList=cs at h2
 obtain ⟨w,ws,rfl,h3,h4⟩:=h2.cons_inv
 rw [h4.nil_inv] at hc
 rw [not_agg hu hD h w hc,hp]
 exact .cons h3 .nil
end
theorem xb {κ:Kr} {ps:List PV} {vs:List Value} {k:Nat} {s:ByteArray} (h:Rps κ ps vs) (hk:ps[k]?=some (.v (.string s))):s.size≤140737488355328:=by
 obtain ⟨v,_,h2⟩:=h.get hk
 exact Nat.le_of_ble_eq_true h2.ok
theorem xc {κ:Kr} {ps:List PV} {vs:List Value} {k mm:Nat} {xs:List (List PV)} (h:Rps κ ps vs) (hk:ps[k]?=some (.slc mm xs)):xs.length≤140737488355328:=by
 obtain ⟨v,_,h2⟩:=h.get hk
 cases h2 with
 | slc hs hb _ hss=>rw [hss.len,hs.len];exact hb
theorem uZ {κ:Kr} {ps:List PV} {vs:List Value} {k mm:Nat} {xs:List (List PV)} {x:List PV} (h:Rps κ ps vs) (hk:ps[k]?=some (.slc mm xs)) (hx:x∈xs):∃ ds,Rps κ x ds:=by
 obtain ⟨v,_,h2⟩:=h.get hk
 cases h2 with
 | slc hs hb _ hss =>
  obtain ⟨i,hi,rfl⟩:=List.getElem_of_mem hx
  obtain ⟨ds,_,h3⟩:=hss.get (List.getElem?_eq_getElem hi)
  exact ⟨ds,h3⟩
end SX
end Go.Proofs.YtgmbmepakpcpaaaGreatDoor
namespace Go.Proofs.YtgmbmepakpcpaaaGreatDoor
namespace SX
open Go
theorem qU:ka=some true:=by kernel_rfl
theorem strs_of {κ:Kr} {ps:List PV} {vs:List Value} {k:Nat} {l:List ByteArray} (h:Rps κ ps vs) (hk:ps[k]?=some (pL eS l)):StrsOk l:=by
 refine ⟨by have:=xc h hk;simpa using this,fun s hs=>?_⟩
 obtain ⟨ds,hd⟩:=uZ h hk (List.mem_map_of_mem (f:=eS) hs)
 exact xb (k:=0) hd rfl
mutual
theorem rok_of {κ:Kr}:∀ (r:Zd) (ds:List Value),Rps κ (Zd.enc r) ds→ROk r
 | ⟨k,d,e,t,m,n,l⟩,ds,h=>by
  rw [Zd.enc_eq] at h
  have hl:l.length≤140737488355328:=by have:=xc (k:=6) h rfl;simpa using this
  exact ⟨_,strs_of (k:=2) h rfl,xb (k:=5) h rfl,hl,xd l (fun a ha=>uZ (k:=6) h rfl (List.mem_map_of_mem (f:=Zd.enc) ha))⟩
theorem xd {κ:Kr}:∀ (l:List Zd),(∀ a∈l,∃ ds,Rps κ (Zd.enc a) ds)→∀ a∈l,ROk a
 | [],_,_,h=>by cases h
 | b::l,h,a,ha=>by
  rcases List.mem_cons.1 ha with e | ha
  ·obtain ⟨ds,hd⟩:=h b (by simp)
   rw [e];exact rok_of b ds hd
  exact xd l (fun a ha=>h a (by simp [ha])) a ha
end
def oK (s p:ByteArray):Bool:=decide (p.size≤s.size)&&decide (s.extract 0 p.size=p)
theorem u3 (s p:ByteArray):Option.bind (gd (decide ((p.size:Int)≤(s.size:Int))) (ll s 0 (p.size:Int))) (fun s1=>some ((decide ((p.size:Int)≤(s.size:Int)))&&(decide (s1=p))))=some (oK s p):=by
 unfold oK
 by_cases h:p.size≤s.size
 ·rw [det h,show decide ((p.size:Int)≤(s.size:Int))=true from det (by omega),fF]
  unfold ll;rw [if_pos (by omega)];rfl
 rw [cq h,show decide ((p.size:Int)≤(s.size:Int))=false from cq (by omega)];rfl
theorem yc (s p:ByteArray):dG s p=some (oK s p):=by
 unfold dG eo;rw [u3];rfl
theorem An (s p:ByteArray):f0 s p=some (oK s p):=by unfold f0;exact u3 s p
def gm (l:List Zf) (code:ByteArray) (k:Nat) (x:Zf) (b:Option Nat):Option Nat :=
 cond (oK code x.Prefix&&(match b with | none=>true | some j=>decide ((l.getD j x).Prefix.size<x.Prefix.size))) (some k) b
def noE {α:Type} (e:Empty):α:=nomatch e
def nK (l:List Zf) (code:ByteArray):Option Nat:=tj (fun b=>b) noE (run (fun k x b=>(.inl (gm l code k x b):Option Nat⊕Empty)) l 0 none)
def o9:Option Nat→Int
 | none => -1
 | some j=>(j:Int)
theorem nL (b:Option Nat):decide (o9 b<0)=b.isNone:=by
 cases b with
 | none=>rfl
 | some j=>exact cq (by simp only [o9];omega)
def inB (n:Nat) (b:Option Nat):Prop:=∀ j,b=some j→j<n
theorem tC {l:List Zf} {code:ByteArray} {k:Nat} {x:Zf} {b:Option Nat} (h:inB k b):inB (k+1) (gm l code k x b):=by
 intro j hj
 unfold gm at hj
 split at hj
 all_goals (cases hc:(oK code x.Prefix&&_) <;> rw [hc] at hj <;> simp only [dn,cT] at hj)
 all_goals first | (injection hj with hj;omega) | (have:=h j hj;omega) | (cases hj)
theorem Ao (l:List Zf) (code:ByteArray):inB l.length (nK l code):=by
 have key:∀ (m:List Zf) (i:Nat) (b:Option Nat),inB i b→inB (i+m.length) (tj (fun b=>b) noE (run (fun k x b=>(.inl (gm l code k x b):Option Nat⊕Empty)) m i b)):=by
  intro m
  induction m with
  | nil=>intro i b h;exact h
  | cons x m ih =>
   intro i b h
   rw [kA,List.length_cons,show i+(m.length+1)=(i+1)+m.length by omega]
   exact ih _ _ (tC h)
 have:=key l 0 none (fun j h=>by cases h)
 rwa [Nat.zero_add] at this
theorem yd (l:List Zf) (code:ByteArray) (hl:l.length≤140737488355328) {β:Type} (K:Int→Option β):Option.bind (bf (S:=Int×Int) (T:=(Int)) (fun (v3,v4)=>cond (decide (v4<(l.length:Int))) (Option.bind (Option.bind (idx l v4) (fun m11=>Option.bind (dG code m11.Prefix) (fun x13=>Option.bind (gd (x13&&(!(decide (v3<0)))) (idx l v3)) (fun m14=>cond (x13&&((decide (v3<0))||(decide ((m14.Prefix.size:Int)<(m11.Prefix.size:Int))))) (some v4) (some v3))))) (fun v9=>some (.inl (v9,(IntKind.i64.wrap (v4+1)))))) (some (.inr v3))) FUEL ((-1),0)) K=K (o9 (nK l code)):=by
 have h62:l.length≤4611686018427387904:=by omega
 refine (lS (l:=l) h62 (fun i (b:Option Nat)=>(o9 b,i)) (fun k x b=>(.inl (gm l code k x b):Option Nat⊕Empty)) o9 noE (fun k b=>inB k b) none (fun j h=>by cases h) (fun k hk b hb=>⟨?_,fun b' h=>by injection h with h;rw [← h];exact tC hb⟩) (fun b hb=>by simp only [fu,cT])).trans ?_
 ·simp only [lp hk,dn,bh hk,bI,yc,dq hk h62,xV,nL]
  unfold gm
  cases hp:oK code l[k].Prefix
  ·rfl
  cases b with
  | none=>rfl
  | some j =>
   have hj:=hb j rfl
   simp only [Option.isNone_some,Bool.not_false,Bool.and_true,fF,o9,bh (show j<l.length by omega),bI,Bool.true_and,Bool.false_or,iB (show j<l.length by omega)]
   have e:decide (((l[j]'(by omega)).Prefix.size:Int)<(l[k].Prefix.size:Int))=decide ((l[j]'(by omega)).Prefix.size<l[k].Prefix.size):=decide_eq_decide.2 (by omega)
   rw [e]
   cases decide ((l[j]'(by omega)).Prefix.size<l[k].Prefix.size) <;> rfl
 unfold nK
 congr 1
 cases run (fun k x b=>(.inl (gm l code k x b):Option Nat⊕Empty)) l 0 none with
 | inl b=>rfl
 | inr e=>nomatch e
theorem Ap (l:List Zf) (code:ByteArray) (hl:l.length≤140737488355328) {β:Type} (K:Int→Option β):Option.bind (bf (S:=Int×Int) (T:=(Int)) (fun (v3,v4)=>cond (decide (v4<(l.length:Int))) (Option.bind (Option.bind (idx l v4) (fun m11=>Option.bind (f0 code m11.Prefix) (fun x12=>Option.bind (gd (x12&&(!(decide (v3<0)))) (idx l v4)) (fun m13=>Option.bind (gd (x12&&(!(decide (v3<0)))) (idx l v3)) (fun m14=>cond (x12&&((decide (v3<0))||(decide ((m14.Prefix.size:Int)<(m13.Prefix.size:Int))))) (some v4) (some v3)))))) (fun v9=>some (.inl (v9,(IntKind.i64.wrap (v4+1)))))) (some (.inr v3))) FUEL ((-1),0)) K=K (o9 (nK l code)):=by
 have h62:l.length≤4611686018427387904:=by omega
 refine (lS (l:=l) h62 (fun i (b:Option Nat)=>(o9 b,i)) (fun k x b=>(.inl (gm l code k x b):Option Nat⊕Empty)) o9 noE (fun k b=>inB k b) none (fun j h=>by cases h) (fun k hk b hb=>⟨?_,fun b' h=>by injection h with h;rw [← h];exact tC hb⟩) (fun b hb=>by simp only [fu,cT])).trans ?_
 ·simp only [lp hk,dn,bh hk,bI,An,dq hk h62,xV,nL]
  unfold gm
  cases hp:oK code l[k].Prefix
  ·rfl
  cases b with
  | none=>rfl
  | some j =>
   have hj:=hb j rfl
   simp only [Option.isNone_some,Bool.not_false,Bool.and_true,fF,o9,bh (show j<l.length by omega),bI,Bool.true_and,Bool.false_or,iB (show j<l.length by omega)]
   have e:decide (((l[j]'(by omega)).Prefix.size:Int)<(l[k].Prefix.size:Int))=decide ((l[j]'(by omega)).Prefix.size<l[k].Prefix.size):=decide_eq_decide.2 (by omega)
   rw [e]
   cases decide ((l[j]'(by omega)).Prefix.size<l[k].Prefix.size) <;> rfl
 unfold nK
 congr 1
 cases run (fun k x b=>(.inl (gm l code k x b):Option Nat⊕Empty)) l 0 none with
 | inl b=>rfl
 | inr e=>nomatch e
def j6 {α:Type} (z:α):Option α→α×Bool
 | some r=>(r,true)
 | none=>(z,false)
def zRule:Zd:=⟨0,0,[],0,0,ByteArray.empty,[]⟩
def iD (a:Zb) (code:ByteArray):Option Zd:=(nK a.Rules code).bind fun j=>(a.Rules[j]?).map (·.Rule)
theorem nM (a:Zb) (code:ByteArray):(nK a.Rules code=none∧iD a code=none)∨∃ j,∃ h:j<a.Rules.length,nK a.Rules code=some j∧iD a code=some a.Rules[j].Rule:=by
 cases hb:nK a.Rules code with
 | none=>left;exact ⟨rfl,by unfold iD;rw [hb];rfl⟩
 | some j =>
  have hj:=Ao a.Rules code j hb
  right;exact ⟨j,hj,rfl,by unfold iD;rw [hb,bI,List.getElem?_eq_getElem hj];rfl⟩
theorem qV (a:Zb) (code:ByteArray) (hl:a.Rules.length≤140737488355328):gU a code=some (j6 zRule (iD a code)):=by
 unfold gU
 rw [Ap _ _ hl]
 rcases nM a code with ⟨h1,h2⟩ | ⟨j,hj,h1,h2⟩
 ·rw [h1,h2];rfl
 rw [h1,h2,nL];simp only [Option.isNone_some,cT,o9,bh hj,bI];rfl
theorem ye {r:Zd} (h:hQ r=true):r.Args.length≤6∧(∀ a∈r.Args,hQ a=true)∧r.Except.length≤6:=by
 rw [jU,Bool.and_eq_true] at h
 obtain ⟨h1,h2⟩:=h
 unfold ko at h1
 simp only [Bool.and_eq_true,Bool.or_eq_true] at h1
 obtain ⟨⟨⟨p1,p2⟩,p3⟩,p4⟩:=h1
 have hE:r.Except.length≤6:=by
  rcases p1 with p1 | ⟨⟨_,p1⟩,_⟩
  ·have hk:=eq_of_beq p1
   rw [hk] at h2
   simp only [mh,hk] at h2
   have h3:jT r.Except=true:=by
    cases hc:jT r.Except
    ·rw [hc] at h2;simp at h2
    rfl
   unfold jT at h3
   simp only [Bool.and_eq_true,decide_eq_true_eq] at h3
   exact h3.1
  have:=List.isEmpty_iff.1 p1;rw [this];simp
 cases h56:(r.Kind == 5||r.Kind == 6)
 ·rw [Bool.or_eq_false_iff] at h56
  rcases p4 with (p4 | p4) | p4
  ·rw [h56.1] at p4;cases p4
  ·rw [h56.2] at p4;cases p4
  have:=List.isEmpty_iff.1 p4;rw [this];exact ⟨by simp,by simp,hE⟩
 rw [h56] at h2
 simp only [dn,Bool.and_eq_true,decide_eq_true_eq,List.all_eq_true] at h2
 exact ⟨h2.1.2,fun a ha=>(h2.2 a ha).2,hE⟩
theorem clone_F (n:Nat):∀ (r:Zd),hQ r=true→vj r≤n→dV n r=some r:=by
 induction n with
 | zero=>intro r _ hd;rw [oh] at hd;omega
 | succ n ih =>
  intro r hr hd
  obtain ⟨h1,h2,h3⟩:=ye hr
  show cO (dV n) r=_
  unfold cO bz
  rw [gy (by omega) (by omega),bI,zV (by omega) (by omega),bI]
  refine (dZ (l:=r.Args) (by omega) (fun i (a:List Zd)=>(a,i)) (fun a x=>a++[x]) (fun a=>a) (fun k a=>a.length=k) [] rfl (fun k hk a ha=>⟨?_,by simp [ha]⟩) (fun a ha=>by simp only [fu,cT])).1.trans ?_
  ·simp only [lp hk,dn,bh hk,bI,dq hk (show r.Args.length≤4611686018427387904 by omega)]
   rw [ih _ (h2 _ (List.getElem_mem hk)) (by have:=nH (List.getElem_mem hk);omega),bI,dy (by simp;omega) (by simp;omega)];rfl
  have:∀ (m acc:List Zd),m.foldl (fun a x=>a++[x]) acc=acc++m:=by
   intro m
   induction m with
   | nil=>intro acc;simp
   | cons x m ih=>intro acc;rw [List.foldl_cons,ih];simp
  rw [this,List.nil_append];cases r;rfl
theorem wc (r:Zd) (h:hQ r=true) (hd:vj r≤1000):fT r=some r:=clone_F FUEL r h (by have hf:FUEL=1267650600228229401496703205376:=rfl;omega)
structure VA (a:Zb):Prop where
 ok:AOk a
 rules:∀ x∈a.Rules,nI x.Rule=0
 len:a.Rules.length≤12∧a.Parties.length≤12
theorem u6 (a:Zb) (code:ByteArray) (ha:VA a):eN a code=some (j6 zRule (iD a code)):=by
 unfold eN
 rw [yd _ _ ha.ok.len]
 rcases nM a code with ⟨h1,h2⟩ | ⟨j,hj,h1,h2⟩
 ·rw [h1,h2];rfl
 have hm:=List.getElem_mem hj
 have hr:=ha.ok.rules _ hm
 have hv:=ha.rules _ hm
 rw [h1,h2,nL]
 simp only [Option.isNone_some,Bool.not_false,fF,o9,bh hj,bI,sj _ hr.rule hr.deep,hv,bne_self_eq_false,Bool.or_self,cT,wc _ ((nh _).1 hv).2 hr.deep]
 rfl
theorem MA.va {i:Nat} {a:Zb} (h:MA i a):VA a:=⟨h.aok,fun x hx=>(nh _).2 ⟨by have:=(h.good x hx).size;simp only [kN] at this;omega,(h.good x hx).valid⟩,by have:=P5_len h.pre;omega,by have:=h.par.length_le;have h6:C6.length=6:=rfl;omega⟩
theorem qW {α T:Type} (p:α→Bool) (f:Nat→T):∀ (l:List α) (i:Nat),(dX (fun k x=>cond (p x) (some (f k)) none) l i=none∧l.find? p=none)∨∃ j,∃ h:j<l.length,dX (fun k x=>cond (p x) (some (f k)) none) l i=some (f (i+j))∧l.find? p=some l[j]
 | [],_=>.inl ⟨rfl,rfl⟩
 | x::xs,i=>by
  rw [dX,List.find?_cons]
  cases hp:p x
  ·rcases qW p f xs (i+1) with ⟨h1,h2⟩ | ⟨j,hj,h1,h2⟩
   ·exact .inl ⟨h1,h2⟩
   exact .inr ⟨j+1,by simpa using hj,by rw [show i+(j+1)=i+1+j by omega];exact h1,h2⟩
  exact .inr ⟨0,by simp,rfl,rfl⟩
def jq (l:List ByteArray) (s:ByteArray):Bool:=l.any fun x=>decide (x=s)
theorem Aq (l:List ByteArray) (s:ByteArray):jq l s=true↔s∈l:=by
 unfold jq;simp
theorem qX (l:List ByteArray) (s:ByteArray) (hl:l.length≤140737488355328):bA l s=some (jq l s):=by
 unfold bA
 have e:cd l s=some (match dX (fun k x=>cond (decide (x=s)) (some (Sum.inr (k:Int):Unit⊕Int)) none) l 0 with | some (.inr k)=>k | _ => -1):=by
  unfold cd
  refine (dF (l:=l) (by omega) (fun k x=>cond (decide (x=s)) (some (.inr (k:Int))) none) (.inl ()) (fun k hk=>?_) (by simp only [fu,cT])).trans ?_
  ·simp only [lp hk,dn,bh hk,bI,dq hk (show l.length≤4611686018427387904 by omega)]
   have e:decide (s=l[k])=decide (l[k]=s):=decide_eq_decide.2 eq_comm
   rw [e];cases decide (l[k]=s) <;> rfl
  cases dX (fun k x=>cond (decide (x=s)) (some (Sum.inr (k:Int):Unit⊕Int)) none) l 0 with
  | none=>rfl
  | some t=>cases t <;> rfl
 rw [e,bI]
 rcases qW (fun x=>decide (x=s)) (fun k=>(Sum.inr (k:Int):Unit⊕Int)) l 0 with ⟨h1,h2⟩ | ⟨j,hj,h1,h2⟩
 ·rw [h1]
  have:jq l s=false:=by unfold jq;rw [List.any_eq_false];exact fun x hx=>by have:=List.find?_eq_none.1 h2 x hx;simpa using this
  rw [this];rfl
 rw [h1]
 have:jq l s=true:=by
  have:=List.find?_some h2
  rw [Aq];rw [← of_decide_eq_true this];exact List.getElem_mem hj
 rw [this]
 show some (decide (0≤((0+j:Nat):Int)))=_
 rw [det (by omega)]
theorem nN (l:List ByteArray) (s:ByteArray) (hl:l.length≤140737488355328):fZ l s=some (jq l s):=by
 unfold fZ
 refine (dF (l:=l) (by omega) (fun _ x=>cond (decide (x=s)) (some (.inr true)) none) (.inl ()) (fun k hk=>?_) (by simp only [fu,cT])).trans ?_
 ·simp only [lp hk,dn,bh hk,bI,dq hk (show l.length≤4611686018427387904 by omega)]
  cases decide (l[k]=s) <;> rfl
 rw [od (fun x=>decide (x=s))]
 unfold jq;cases (l.any fun x=>decide (x=s)) <;> rfl
def ke (l:List Zb) (id:Int):Option Zb:=l.find? fun a=>a.ID == id
def yf:Zb:=⟨0,0,[],[]⟩
theorem oj (l:List Zb) (id:Int) (hl:l.length≤140737488355328):dP l id=some (j6 yf (ke l id)):=by
 unfold dP ke
 refine (dF (l:=l) (by omega) (fun _ x=>cond (x.ID == id) (some (.inr (x,true))) none) (.inl ()) (fun k hk=>?_) (by simp only [fu,cT])).trans ?_
 ·simp only [lp hk,dn,bh hk,bI,dq hk (show l.length≤4611686018427387904 by omega)]
  cases (l[k].ID == id) <;> rfl
 rw [iq (fun x:Zb=>x.ID == id) (fun x=>(Sum.inr (x,true):Unit⊕(Zb×Bool)))]
 cases l.find? (fun x:Zb=>x.ID == id) <;> rfl
theorem nj (l:List Zb) (id:Int) (hl:l.length≤140737488355328):dO l id=some (j6 yf (ke l id)):=by
 unfold dO ke
 have e:bo l (fun y3=>eK y3 id)=some (match dX (fun k (x:Zb)=>cond (x.ID == id) (some (Sum.inr (k:Int):Unit⊕Int)) none) l 0 with | some (.inr k)=>k | _ => -1):=by
  unfold bo eK
  refine (dF (l:=l) (by omega) (fun k x=>cond (x.ID == id) (some (.inr (k:Int))) none) (.inl ()) (fun k hk=>?_) (by simp only [fu,cT])).trans ?_
  ·simp only [lp hk,dn,bh hk,bI,dq hk (show l.length≤4611686018427387904 by omega)]
   cases (l[k].ID == id) <;> rfl
  cases dX (fun k (x:Zb)=>cond (x.ID == id) (some (Sum.inr (k:Int):Unit⊕Int)) none) l 0 with
  | none=>rfl
  | some t=>cases t <;> rfl
 rw [e,bI]
 rcases qW (fun x:Zb=>x.ID == id) (fun k=>(Sum.inr (k:Int):Unit⊕Int)) l 0 with ⟨h1,h2⟩ | ⟨j,hj,h1,h2⟩
 ·rw [h1,h2];rfl
 rw [h1,h2]
 show cond (decide (((0+j:Nat):Int)<0)) _ (Option.bind (idx l ((0+j:Nat):Int)) _)=_
 rw [cq (by omega),Nat.zero_add,bh hj];rfl
def pa {α:Type} (R:α→α→Bool):List α→List α→Bool
 | [],_=>true
 | _::_,[]=>true
 | x::a,y::b=>R x y&&pa R a b
def hX {α:Type} (R:α→α→Bool) (a b:List α):Bool:=a.length == b.length&&pa R a b
theorem so {α T:Type} (R:α→α→Bool) (t:T) (B:List α):∀ (a b:List α) (i:Nat),B.drop i=b→a.length=b.length→dX (fun k x=>cond (R x (B.getD k x)) none (some t)) a i=cond (pa R a b) none (some t)
 | [],b,_,_,_=>by cases b <;> rfl
 | x::a,[],_,_,h=>by simp at h
 | x::a,y::b,i,hd,h=>by
  have hi:i<B.length:=by
   rcases Nat.lt_or_ge i B.length with h | h
   ·exact h
   rw [List.drop_of_length_le h] at hd;cases hd
  rw [List.drop_eq_getElem_cons hi] at hd
  injection hd with h1 h2
  rw [dX,pa,iB hi,h1,so R t B a b (i+1) h2 (by simpa using h)]
  cases R x y <;> rfl
theorem qY {α:Type} {R:α→α→Bool}:∀ {a b:List α},(∀ x∈a,∀ y∈b,R x y=true↔x=y)→(hX R a b=true↔a=b)
 | [],[],_=>by simp [hX,pa]
 | [],y::b,_=>by simp [hX]
 | x::a,[],_=>by simp [hX]
 | x::a,y::b,h=>by
  have ih:=qY (R:=R) (a:=a) (b:=b) fun u hu v hv=>h u (by simp [hu]) v (by simp [hv])
  have h0:=h x (by simp) y (by simp)
  unfold hX at ih ⊢
  rw [pa]
  simp only [List.length_cons,Bool.and_eq_true,beq_iff_eq,Nat.add_right_cancel_iff,List.cons.injEq] at ih ⊢
  constructor
  ·rintro ⟨h1,h2,h3⟩;exact ⟨h0.1 h2,ih.1 ⟨h1,h3⟩⟩
  rintro ⟨h1,h2⟩;exact ⟨(ih.2 h2).1,h0.2 h1,(ih.2 h2).2⟩
theorem mC {α:Type} (a b:List α):((a.length:Int) != (b.length:Int)) = !(a.length == b.length):=by
 by_cases h:a.length=b.length
 ·rw [h];simp
 have h2:¬ (a.length:Int)=(b.length:Int):=by omega
 have e1:(a.length == b.length)=false:=by simpa using h
 have e2:((a.length:Int) == (b.length:Int))=false:=by simpa using h2
 rw [e1,bne,e2]
theorem lx {α:Type} {a b:List α} (ha:a.length≤140737488355328) (R:α→α→Bool) {body:Int→Option (Int⊕(Unit⊕Bool))} {k:Unit⊕Bool→Option Bool} (hk:k (.inl ())=some true∧k (.inr false)=some false) (hab:a.length=b.length)
    (hstep:∀ (k:Nat) (hk:k<a.length) (hk2:k<b.length),body (k:Int)=some (outg k (cond (R a[k] b[k]) none (some (.inr false))))) (hend:body (a.length:Int)=some (.inr (.inl ()))):Option.bind (bf body FUEL 0) k=some (pa R a b):=by
  refine (dF (l:=a) (by omega) (fun i x=>cond (R x (b.getD i x)) none (some (.inr false))) (.inl ()) (fun i hi=>?_) hend).trans ?_
  · rw [hstep i hi (by omega),iB (show i<b.length by omega)]
  rw [so R (Sum.inr false:Unit⊕Bool) b a b 0 rfl hab]
  cases pa R a b
  · exact hk.2
  exact hk.1
theorem jV (a b:List ByteArray) (ha:a.length≤140737488355328):dH a b=some (decide (a=b)):=by
 have hiff:hX (fun x y=>decide (x=y)) a b=decide (a=b):=by
  have:=qY (R:=fun x y:ByteArray=>decide (x=y)) (a:=a) (b:=b) (fun x _ y _=>by simp)
  cases h:hX (fun x y=>decide (x=y)) a b
  ·rw [h] at this;exact (cq fun e=>by have:=this.2 e;cases this).symm
  exact (det (this.1 h)).symm
 rw [← hiff]
 unfold dH hX
 rw [mC]
 cases h:(a.length == b.length)
 ·rfl
 simp only [Bool.not_true,cT,Bool.true_and]
 refine lx ha _ ⟨rfl,rfl⟩ (eq_of_beq h) (fun k hk hk2=>?_) (by simp only [fu,cT])
 simp only [lp hk,dn,bh hk,bh hk2,bI,dq hk (show a.length≤4611686018427387904 by omega)]
 cases decide (a[k]=b[k]) <;> rfl
theorem pb (a b:List ByteArray) (ha:a.length≤140737488355328):cP a b=some (decide (a=b)):=by
 rw [← jV a b ha];rfl
theorem rH (a b:List Za) (ha:a.length≤140737488355328):fi a b=some (decide (a=b)):=by
 have hiff:hX Za.eqb a b=decide (a=b):=by
  have:=qY (R:=Za.eqb) (a:=a) (b:=b) (fun x _ y _=>Za.eqb_iff)
  cases h:hX Za.eqb a b
  ·rw [h] at this;exact (cq fun e=>by have:=this.2 e;cases this).symm
  exact (det (this.1 h)).symm
 rw [← hiff]
 unfold fi hX
 rw [mC]
 cases h:(a.length == b.length)
 ·rfl
 simp only [Bool.not_true,cT,Bool.true_and]
 refine lx ha _ ⟨rfl,rfl⟩ (eq_of_beq h) (fun k hk hk2=>?_) (by simp only [fu,cT])
 simp only [lp hk,dn,bh hk,bh hk2,bI,dq hk (show a.length≤4611686018427387904 by omega)]
 cases Za.eqb a[k] b[k] <;> rfl
mutual
def fA:Zd→Zd→Bool
 | ⟨k,d,e,t,m,n,l⟩,⟨k',d',e',t',m',n',l'⟩=>k == k'&&d == d'&&t == t'&&m == m'&&decide (n=n')&&decide (e=e')&&gq l l'
def gq:List Zd→List Zd→Bool
 | [],[]=>true
 | [],_::_=>false
 | _::_,[]=>false
 | a::l,b::m=>fA a b&&gq l m
end
mutual
theorem wd:∀ a b:Zd,fA a b=true↔a=b
 | ⟨k,d,e,t,m,n,l⟩,⟨k',d',e',t',m',n',l'⟩=>by
  rw [fA]
  simp only [Bool.and_eq_true,beq_iff_eq,decide_eq_true_eq,oL l l',Zd.mk.injEq]
  constructor
  ·rintro ⟨⟨⟨⟨⟨⟨h1,h2⟩,h3⟩,h4⟩,h5⟩,h6⟩,h7⟩;exact ⟨h1,h2,h6,h3,h4,h5,h7⟩
  rintro ⟨h1,h2,h6,h3,h4,h5,h7⟩;exact ⟨⟨⟨⟨⟨⟨h1,h2⟩,h3⟩,h4⟩,h5⟩,h6⟩,h7⟩
theorem oL:∀ a b:List Zd,gq a b=true↔a=b
 | [],[]=>by simp [gq]
 | [],_::_=>by simp [gq]
 | _::_,[]=>by simp [gq]
 | a::l,b::m=>by rw [gq,Bool.and_eq_true,wd a b,oL l m,List.cons.injEq]
end
theorem oM:∀ a b:List Zd,gq a b=hX fA a b
 | [],[]=>by simp [gq,hX,pa]
 | [],_::_=>by simp [gq,hX]
 | _::_,[]=>by simp [gq,hX]
 | a::l,b::m=>by
  rw [gq,oM l m]
  unfold hX
  rw [pa,List.length_cons,List.length_cons]
  have:(l.length+1 == m.length+1)=(l.length == m.length):=by
   cases h:(l.length == m.length)
   ·have:=(beq_eq_false_iff_ne).1 h;exact beq_eq_false_iff_ne.2 (by omega)
   have:=eq_of_beq h;rw [this];simp
  rw [this]
  cases fA a b <;> cases (l.length == m.length) <;> rfl
theorem qZ (a b:Zd):fA a b=(a.Kind == b.Kind&&a.Digits == b.Digits&&a.Tolerance == b.Tolerance&&a.Limit == b.Limit&&decide (a.Name=b.Name)&&decide (a.Except=b.Except)&&hX fA a.Args b.Args):=by
 cases a;cases b;rw [fA,oM]
theorem we (n:Nat):∀ (a b:Zd),ROk a→vj a≤n→f8 n a b=some (fA a b):=by
 induction n with
 | zero=>intro a b _ hd;rw [oh] at hd;omega
 | succ n ih =>
  intro a b ha hd
  show ff (f8 n) a b=_
  unfold ff
  rw [jV _ _ ha.ex.1,qZ,mC]
  simp only [bne]
  have hl:=ha.len
  cases (a.Kind == b.Kind)
  ·rfl
  cases (a.Digits == b.Digits)
  ·rfl
  cases (a.Tolerance == b.Tolerance)
  ·rfl
  cases (a.Limit == b.Limit)
  ·rfl
  cases decide (a.Name=b.Name)
  ·rfl
  simp only [Bool.not_true,Bool.or_self,Bool.not_false,fF,bI,Bool.false_or,Bool.and_self,Bool.true_and]
  cases decide (a.Except=b.Except)
  ·rfl
  unfold hX
  cases h:(a.Args.length == b.Args.length)
  ·rfl
  simp only [Bool.not_true,Bool.or_self,cT,Bool.true_and]
  refine lx hl _ ⟨rfl,rfl⟩ (eq_of_beq h) (fun k hk hk2=>?_) (by simp only [fu,cT])
  simp only [lp hk,dn,bh hk,bh hk2,bI,dq hk (show a.Args.length≤4611686018427387904 by omega)]
  rw [ih _ _ (ha.arg (List.getElem_mem hk)) (by have:=nH (List.getElem_mem hk);omega),bI]
  cases fA a.Args[k] b.Args[k] <;> rfl
theorem u9 (n:Nat):∀ (a b:Zd),ROk a→vj a≤n→cR n a b=some (fA a b):=by
 induction n with
 | zero=>intro a b _ hd;rw [oh] at hd;omega
 | succ n ih =>
  intro a b ha hd
  have hl:=ha.len
  have hA:be a.Args b.Args (fun y4 y5=>cR n y4 y5)=some (hX fA a.Args b.Args):=by
   unfold be hX
   rw [mC]
   cases h:(a.Args.length == b.Args.length)
   ·rfl
   simp only [Bool.not_true,cT,Bool.true_and]
   refine lx hl _ ⟨rfl,rfl⟩ (eq_of_beq h) (fun k hk hk2=>?_) (by simp only [fu,cT])
   simp only [lp hk,dn,bh hk,bh hk2,bI,dq hk (show a.Args.length≤4611686018427387904 by omega)]
   rw [ih _ _ (ha.arg (List.getElem_mem hk)) (by have:=nH (List.getElem_mem hk);omega),bI]
   cases fA a.Args[k] b.Args[k] <;> rfl
  show cQ (cR n) a b=_
  unfold cQ
  rw [pb _ _ ha.ex.1,qZ,hA]
  cases (a.Kind == b.Kind&&a.Digits == b.Digits&&a.Tolerance == b.Tolerance&&a.Limit == b.Limit&&decide (a.Name=b.Name))
  ·rfl
  cases decide (a.Except=b.Except)
  ·rfl
  cases hX fA a.Args b.Args <;> rfl
def vb (x y:Zf):Bool:=decide (x.Prefix=y.Prefix)&&fA x.Rule y.Rule
theorem rI (a b:List Zf) (ha:a.length≤140737488355328) (hr:∀ x∈a,RFOk x):fK a b=some (hX vb a b):=by
 unfold fK hX
 rw [mC]
 cases h:(a.length == b.length)
 ·rfl
 simp only [Bool.not_true,cT,Bool.true_and]
 refine lx ha _ ⟨rfl,rfl⟩ (eq_of_beq h) (fun k hk hk2=>?_) (by simp only [fu,cT])
 have hx:=hr _ (List.getElem_mem hk)
 simp only [lp hk,dn,bh hk,bh hk2,bI,dq hk (show a.length≤4611686018427387904 by omega),vb]
 cases decide (a[k].Prefix=b[k].Prefix)
 ·rfl
 have e:jN a[k].Rule b[k].Rule=some (fA a[k].Rule b[k].Rule):=we FUEL _ _ hx.rule (by have hf:FUEL=1267650600228229401496703205376:=rfl;have:=hx.deep;omega)
 simp only [Bool.not_true,Bool.not_false,fF,bI,e,Bool.false_or,Bool.true_and]
 cases fA a[k].Rule b[k].Rule <;> rfl
theorem q8 (a b:List Zf) (ha:a.length≤140737488355328) (hr:∀ x∈a,RFOk x) (hv:∀ x∈a,nI x.Rule=0):de a b=some (hX vb a b):=by
 unfold de bc hX
 rw [mC]
 cases h:(a.length == b.length)
 ·rfl
 simp only [Bool.not_true,cT,Bool.true_and]
 rw [lx ha vb ⟨rfl,rfl⟩ (eq_of_beq h) (fun k hk hk2=>?_) (by simp only [fu,cT])]
 ·rfl
 have hx:=hr _ (List.getElem_mem hk)
 have hxv:=hv _ (List.getElem_mem hk)
 simp only [lp hk,dn,bh hk,bh hk2,bI,dq hk (show a.length≤4611686018427387904 by omega),vb]
 unfold dI
 cases decide (a[k].Prefix=b[k].Prefix)
 ·rfl
 have e:fU a[k].Rule b[k].Rule=some (fA a[k].Rule b[k].Rule):=u9 FUEL _ _ hx.rule (by have hf:FUEL=1267650600228229401496703205376:=rfl;have:=hx.deep;omega)
 simp only [fF,sj _ hx.rule hx.deep,hxv,bI,beq_self_eq_true,Bool.and_self,e,Bool.true_and]
 cases fA a[k].Rule b[k].Rule <;> rfl
def Digs (l:List Int):Prop:=∀ x∈l,48≤x∧x≤57
theorem code_Y {p:Zh} (hp:SOK p) (n:Nat) (hn:n=6∨n=8):Y (fa p (n:Int)) (fun r=>(∃ l:List Int,r.1=strOfNums l∧l.length=n∧Digs l)∧SOK r.2):=by
 unfold fa
 refine (dj hp 2 (by omega) (by omega)).bind fun a ⟨a1,a2,a3⟩=>?_
 rw [cg (by omega) (by omega),sP (by omega)]
 refine Y.bind (P:=fun t:List Int×List Int×Int=>t.1.length=n∧Digs t.1∧SOK ⟨t.2.1,t.2.2⟩) ?_ fun t ⟨t1,t2,t3⟩=>?_
 ·refine Y.loop (fun s:List Int×List Int×Int=>(s.1.length % 2=0∧s.1.length≤n)∧Digs s.1∧SOK ⟨s.2.1,s.2.2⟩) (fun s=>n - s.1.length) ⟨⟨by simp,by simp;omega⟩,fun x hx=>by simp at hx;omega,a3⟩ (by dsimp only;omega) fun s hs=>?_
  obtain ⟨l,m,i⟩:=s
  obtain ⟨⟨s0,s1⟩,s2,s3⟩:=hs
  dsimp only at s0 s1 s2 s3 ⊢
  refine Y.cond (fun hc=>?_) (fun hc=>Y.ret ⟨by have:=of_decide_eq_false hc;dsimp only;omega,s2,s3⟩)
  have hc:=of_decide_eq_true hc
  refine (dj s3 3 (by omega) (by omega)).bind fun x ⟨x1,x2,x3⟩=>?_
  rw [dy (by simp;omega) (by simp;omega),bI,cg (by omega) (by omega),sP (by omega)]
  refine Y.ret ⟨⟨⟨by simp;omega,by simp;omega⟩,fun z hz=>?_,x3⟩,by simp;omega⟩
  rcases List.mem_append.1 hz with hz | hz
  ·exact s2 z hz
  simp only [List.mem_cons,List.not_mem_nil,or_false] at hz;omega
 obtain ⟨l,m,i⟩:=t
 exact Y.ret ⟨⟨l,rfl,t1,t2⟩,t3⟩
theorem Ar {l:List Int} {n:Nat} (hn:n=6∨n=8) (h1:l.length=n) (h2:Digs l):gY (strOfNums l)=(n:Int)∧(strOfNums l).size=n:=by
 have hs:(strOfNums l).size=n:=by
  unfold strOfNums
  show (Array.mk _).size=n
  simp [h1]
 have hd:lY (strOfNums l)=true:=by
  unfold lY bl strOfNums
  rw [List.all_eq_true]
  intro c hc
  simp only [List.mem_map] at hc
  obtain ⟨x,hx,rfl⟩:=hc
  have:=h2 x hx
  have h3:(UInt8.ofNat x.toNat).toNat=x.toNat:=by
   rw [UInt8.toNat_ofNat'];omega
  simp only [jR,h3,decide_eq_true_eq]
  omega
 refine ⟨?_,hs⟩
 unfold gY
 rw [if_pos ⟨by omega,hd⟩,hs]
def W5:List ByteArray:=[(⟨#[97,110,100]⟩:ByteArray),(⟨#[99,117,116]⟩:ByteArray),(⟨#[111,114]⟩:ByteArray),(⟨#[115,101,119]⟩:ByteArray),(⟨#[115,112,105,110]⟩:ByteArray)]
theorem W5_ok:W5.all gj=true∧j5 ib W5=true∧(W5.all fun s=>decide (s.size≤100))=true:=⟨by kernel_rfl,by kernel_rfl,by kernel_rfl⟩
theorem vc {p:Zh} (hp:SOK p):Y (dc p) (fun r=>r.1.Sublist W5∧SOK r.2):=by
 unfold dc
 refine (dj hp 32 (by omega) (by omega)).bind fun a ⟨a1,a2,a3⟩=>?_
 refine Y.bind (P:=fun l:List ByteArray=>l.Sublist W5) ?_ fun l hl=>Y.ret ⟨hl,a3⟩
 refine Y.loop (fun s=>∃ v:Nat,s.2=(v:Int)∧v≤5∧s.1.Sublist (W5.take v)) (fun s=>(5 - s.2).toNat) ⟨0,rfl,by omega,List.Sublist.refl _⟩ (by dsimp only;omega) fun s hs=>?_
 obtain ⟨l,i⟩:=s
 obtain ⟨v,rfl,h1,h2⟩:=hs
 dsimp only at h2 ⊢
 have hlen:l.length≤5:=by have:=h2.length_le;have h6:W5.length=5:=rfl;rw [List.length_take] at this;omega
 refine Y.cond (fun hc=>?_) (fun hc=>Y.ret (h2.trans (List.take_sublist _ _)))
 have hv:v<5:=by have:=of_decide_eq_true hc;omega
 have hs:=lv h2 (show v<W5.length from hv)
 refine Y.bind (P:=fun m:List ByteArray=>m.Sublist (W5.take (v+1))) (Y.eq (lw v) (Y.cond (fun _=>?_) fun _=>Y.ret hs.2)) fun m hm=>Y.ret ⟨⟨v+1,?_,by omega,hm⟩,?_⟩
 ·refine Y.idx (xs:=W5) rfl (show v<W5.length from hv) ?_
  rw [dy (by simp;omega) (by simp;omega)];exact Y.ret hs.1
 ·show IntKind.i64.wrap ((v:Int)+1)=_;rw [cg (by omega) (by omega)];omega
 show (5 - IntKind.i64.wrap ((v:Int)+1)).toNat<(5 - (v:Int)).toNat;rw [cg (by omega) (by omega)];omega
theorem codeN {x:Int} (h1:0≤x) (h2:x<2):∃ n:Nat,(n=6∨n=8)∧IntKind.i64.wrap (6+IntKind.i64.wrap (2*x))=(n:Int):=by
 rw [cg (r:=2*x) (by omega) (by omega),cg (by omega) (by omega)]
 exact ⟨(6+2*x).toNat,by omega,by omega⟩
structure MProd (n:Nat) (i:Nat) (p:Ze):Prop where
 id:p.ID=3*((i:Int)+1)
 lvl:(gY p.Code=6∨gY p.Code=8)∧6≤p.Code.size∧p.Code.size≤8
 ctr:p.Country∈C6
 price:1≤p.Price∧p.Price≤200
 proc:p.Processes.Sublist W5
 few:p.Inputs.length≤4
 asc:p.Inputs.Pairwise fun a b=>a.Product<b.Product
 inp:∀ x∈p.Inputs,(∃ k:Nat,k<n∧x.Product=3*((k:Int)+1))∧0≤x.Value∧x.Value<100
 obt:p.Obtained=true→p.Inputs=[]
structure MPs (l:List Ze):Prop where
 len:1≤l.length∧l.length≤10
 all:∀ (i:Nat) (p:Ze),l[i]?=some p→MProd l.length i p
theorem plan_Y (p0:List Int):Y (kB p0) MPs:=by
 unfold kB
 refine (cut_Y p0 300 (by omega) (by omega)).bind fun x1 hx1=>?_
 refine (dj hx1 10 (by omega) (by omega)).bind fun x3 ⟨a1,a2,a3⟩=>?_
 rw [cg (r:=1+x3.1) (by omega) (by omega)]
 obtain ⟨n,hn⟩:∃ n:Nat,1+x3.1=(n:Int):=⟨(1+x3.1).toNat,by omega⟩
 rw [hn]
 have hn1:1≤n∧n≤10:=by omega
 refine Y.bind (P:=MPs) ?_ fun l hl=>Y.ret hl
 refine Y.loop (fun s:List Ze×Int×List Int×Int=>(s.2.1=(s.1.length:Int)+1∧s.1.length≤n)∧SOK ⟨s.2.2.1,s.2.2.2⟩∧∀ i p,s.1[i]?=some p→MProd n i p) (fun s=>n - s.1.length) ⟨⟨rfl,by simp⟩,a3,by simp⟩ (by dsimp only;omega) fun s hs=>?_
 obtain ⟨l5,v8,l9,v10⟩:=s
 obtain ⟨⟨h1,h2⟩,h3,h4⟩:=hs
 dsimp only at h1 h2 h3 h4 ⊢
 refine Y.cond (fun hc=>?_) (fun hc=>Y.ret ?_)
 rotate_left
 ·have hc:=of_decide_eq_false hc
  have e:l5.length=n:=by omega
  exact ⟨by omega,by rw [e];exact h4⟩
 have hc:=of_decide_eq_true hc
 refine (dj h3 2 (by omega) (by omega)).bind fun x19 ⟨b1,b2,b3⟩=>?_
 obtain ⟨w,hw,e⟩:=codeN b1 b2
 rw [e]
 refine (code_Y b3 w hw).bind fun x20 ⟨⟨cl,hc1,hc2,hc3⟩,hx20⟩=>?_
 have hcode:=Ar hw hc2 hc3
 refine Y.eq nJ ?_
 refine (dj hx20 4 (by omega) (by omega)).bind fun x22 ⟨c1,c2,c3⟩=>?_
 obtain ⟨j,hj⟩:∃ j:Nat,x22.1=(j:Int):=⟨x22.1.toNat,by omega⟩
 refine Y.idx hj (show j<C6.length by have h6:C6.length=6:=rfl;omega) ?_
 refine (dj c3 200 (by omega) (by omega)).bind fun x24 ⟨d1,d2,d3⟩=>?_
 refine (vc d3).bind fun x25 ⟨hpr,hx25⟩=>?_
 refine (dj hx25 4 (by omega) (by omega)).bind fun x26 ⟨_,_,h26⟩=>?_
 refine (dj h26 1024 (by omega) (by omega)).bind fun x28 ⟨_,_,h28⟩=>?_
 refine Y.bind (P:=fun t:List Int×Int×List Zg=>SOK ⟨t.1,t.2.1⟩∧t.2.2.length≤4∧(t.2.2.Pairwise fun a b=>a.Product<b.Product)∧(∀ x∈t.2.2,(∃ k:Nat,k<n∧x.Product=3*((k:Int)+1))∧0≤x.Value∧x.Value<100)∧((x26.1 == 1)=true→t.2.2=[])) ?_ fun t ⟨t1,t2,t3,t4,t5⟩=>?_
 ·refine Y.loop (fun s:Int×List Int×Int×List Zg=>∃ v:Nat,s.1=(v:Int)+1∧v≤n∧SOK ⟨s.2.1,s.2.2.1⟩∧s.2.2.2.length≤4∧(s.2.2.2.Pairwise fun a b=>a.Product<b.Product)∧(∀ x∈s.2.2.2,(∃ k:Nat,k<v∧x.Product=3*((k:Int)+1))∧0≤x.Value∧x.Value<100)∧((x26.1 == 1)=true→s.2.2.2=[])) (fun s=>(n+1 - s.1).toNat) ⟨0,rfl,by omega,h28,by simp,List.Pairwise.nil,by simp,fun _=>rfl⟩ (by dsimp only;omega) fun s hs=>?_
  obtain ⟨i,l,k,m⟩:=s
  obtain ⟨v,rfl,s1,s2,s3,s4,s5,s6⟩:=hs
  dsimp only at s2 s3 s4 s5 s6 ⊢
  refine Y.cond (fun hc3=>?_) (fun hc3=>Y.ret ⟨s2,s3,s4,fun x hx=>?_,s6⟩)
  rotate_left
  ·obtain ⟨⟨k,h5,h6⟩,h7⟩:=s5 x hx;exact ⟨⟨k,by omega,h6⟩,h7⟩
  simp only [Bool.and_eq_true,decide_eq_true_eq,Bool.not_eq_true'] at hc3
  obtain ⟨⟨hc4,hc5⟩,hc6⟩:=hc3
  rw [cg (r:=(v:Int)+1 - 1) (by omega) (by omega),cg (r:=(v:Int)+1+1) (by omega) (by omega),cg (r:=3*((v:Int)+1)) (by omega) (by omega)]
  refine Y.bind (P:=fun t:List Int×Int×List Zg=>SOK ⟨t.1,t.2.1⟩∧t.2.2.length≤4∧(t.2.2.Pairwise fun a b=>a.Product<b.Product)∧(∀ x∈t.2.2,(∃ k:Nat,k<v+1∧x.Product=3*((k:Int)+1))∧0≤x.Value∧x.Value<100)) ?_ fun t ⟨t1,t2,t3,t4⟩=>Y.ret ⟨⟨v+1,by dsimp only;omega,by omega,t1,t2,t3,t4,fun h=>by rw [hc6] at h;cases h⟩,by dsimp only;omega⟩
  rw [show (v:Int)+1 - 1=(v:Int) by omega]
  refine Y.eq (lw v) ?_
  refine Y.bind (P:=fun r:Int×Zh=>SOK r.2) (Y.gdp (fun _=>(dj s2 3 (by omega) (by omega)).mono fun r hr=>hr.2.2) fun _=>s2) fun x56 hx56=>?_
  refine Y.cond (fun _=>?_) (fun _=>Y.ret ⟨hx56,s3,s4,fun x hx=>?_⟩)
  rotate_left
  ·obtain ⟨⟨k,h5,h6⟩,h7⟩:=s5 x hx;exact ⟨⟨k,by omega,h6⟩,h7⟩
  refine (dj hx56 100 (by omega) (by omega)).bind fun x58 ⟨e1,e2,e3⟩=>?_
  rw [dy (by simp;omega) (by simp;omega),bI]
  refine Y.ret ⟨e3,by simp;omega,?_,fun x hx=>?_⟩
  ·rw [List.pairwise_append]
   refine ⟨s4,List.pairwise_singleton _ _,fun a ha b hb=>?_⟩
   rw [List.mem_singleton.1 hb]
   obtain ⟨⟨k,h5,h6⟩,_⟩:=s5 a ha
   dsimp only;omega
  rcases List.mem_append.1 hx with hx | hx
  ·obtain ⟨⟨k,h5,h6⟩,h7⟩:=s5 x hx;exact ⟨⟨k,by omega,h6⟩,h7⟩
  rw [List.mem_singleton.1 hx];exact ⟨⟨v,by omega,rfl⟩,e1,e2⟩
 obtain ⟨l37,v38,l42⟩:=t
 dsimp only at t1 t2 t3 t4 t5 ⊢
 rw [dy (by simp;omega) (by simp;omega),bI,cg (r:=v8+1) (by omega) (by omega),cg (r:=1+x24.1) (by omega) (by omega),cg (r:=3*v8) (by omega) (by omega)]
 refine Y.ret ⟨⟨⟨by simp;omega,by simp;omega⟩,t1,fun i p hp=>?_⟩,by simp;omega⟩
 rw [List.getElem?_append] at hp
 split at hp
 ·exact h4 i p hp
 rename_i hi
 have hi0:i - l5.length=0:=by have:=(List.getElem?_eq_some_iff.1 hp).1;simp at this;omega
 rw [hi0] at hp
 simp only [List.getElem?_cons_zero,df] at hp
 subst hp
 refine ⟨by dsimp only;omega,?_,List.getElem_mem _,⟨by dsimp only;omega,by dsimp only;omega⟩,hpr,t2,t3,t4,t5⟩
 dsimp only;rw [hc1,hcode.1,hcode.2];omega
structure Sorted (l:List Ze):Prop where
 len:l.length≤1000000
 asc:l.Pairwise fun a b=>a.ID<b.ID
 small:∀ p∈l,p.Processes.length≤1000000∧p.Inputs.length≤1000000
def dA (l:List Ze) (id:Int):Option Ze:=l.find? fun p=>p.ID == id
def As:Ze:=⟨0,ByteArray.empty,ByteArray.empty,0,false,[],[]⟩
theorem sq (l:List Ze) (id:Int) (hl:l.length≤140737488355328):fz l id=some (j6 As (dA l id)):=by
 unfold fz dA
 refine (dF (l:=l) (by omega) (fun _ x=>cond (x.ID == id) (some (.inr (x,true))) none) (.inl ()) (fun k hk=>?_) (by simp only [fu,cT])).trans ?_
 ·simp only [lp hk,dn,bh hk,bI,dq hk (show l.length≤4611686018427387904 by omega)]
  cases (l[k].ID == id) <;> rfl
 rw [iq (fun x:Ze=>x.ID == id) (fun x=>(Sum.inr (x,true):Unit⊕(Ze×Bool)))]
 cases l.find? (fun x:Ze=>x.ID == id) <;> rfl
theorem half_u (x:Nat) (h:x≤10000000):IntKind.i64.wrap (bQ .u64 (IntKind.u64.wrap (IntKind.i64.wrap (x:Int))) 1)=((x / 2:Nat):Int):=by
 rw [cg (r:=(x:Int)) (by omega) (by omega),u64s (by omega) (by omega)]
 have:bQ .u64 (x:Int) 1=(x:Int) / 2:=Int.fdiv_eq_ediv_of_nonneg _ (by decide)
 rw [this,cg (by omega) (by omega)];omega
theorem yg (l:List Ze) (id:Int) (h:Sorted l):∃ j:Nat,eH l id=some ((j:Int),(dA l id).isSome)∧(∀ p,dA l id=some p→∃ hj:j<l.length,l[j]=p):=by
 have hl:=h.len
 have cmp:∀ p:Ze,cS p id=some (if p.ID<id then -1 else if id<p.ID then 1 else 0):=fun p=>by unfold cS;rw [cmpI];rfl
 unfold eH bq
 have hloop:Y (bf (S:=Int×Int) (T:=(Int×Int)) (fun (v1,v2)=>cond (decide (v1<v2)) (lb ((IntKind.i64.wrap (bQ .u64 (IntKind.u64.wrap (IntKind.i64.wrap (v1+v2))) 1))) (fun w8=>Option.bind (idx l w8) (fun m9=>Option.bind (cS m9 id) (fun x10=>cond (decide (x10<0)) (some (.inl ((IntKind.i64.wrap (w8+1)),v2))) (some (.inl (v1,w8))))))) (some (.inr (id,v1)))) FUEL (0,(l.length:Int))) (fun t=>t.1=id∧∃ j:Nat,t.2=(j:Int)∧j≤l.length∧(∀ (k:Nat) (p:Ze),l[k]?=some p→k<j→p.ID<id)∧(∀ (k:Nat) (p:Ze),l[k]?=some p→j≤k→id≤p.ID)):=by
  refine Y.loop (fun s:Int×Int=>∃ i j:Nat,s.1=(i:Int)∧s.2=(j:Int)∧i≤j∧j≤l.length∧(∀ (k:Nat) (p:Ze),l[k]?=some p→k<i→p.ID<id)∧(∀ (k:Nat) (p:Ze),l[k]?=some p→j≤k→id≤p.ID)) (fun s=>(s.2 - s.1).toNat) ⟨0,l.length,rfl,rfl,by omega,by omega,fun k p _ hk=>absurd hk (Nat.not_lt_zero _),fun k p hp hk=>by have:=(List.getElem?_eq_some_iff.1 hp).1;omega⟩ (by dsimp only;omega) fun s hs=>?_
  obtain ⟨a,b⟩:=s
  obtain ⟨i,j,rfl,rfl,h1,h2,h3,h4⟩:=hs
  dsimp only
  refine Y.cond (fun hc=>?_) (fun hc=>Y.ret ⟨rfl,i,rfl,by omega,h3,fun k p hp hk=>h4 k p hp (by have:=of_decide_eq_false hc;omega)⟩)
  have hc:i<j:=by have:=of_decide_eq_true hc;omega
  unfold lb
  rw [show (i:Int)+(j:Int)=((i+j:Nat):Int) by omega,half_u _ (by omega)]
  have hm:(i+j) / 2<l.length:=by omega
  have pw:=List.pairwise_iff_getElem.1 h.asc
  refine Y.idx rfl hm (Y.eq (cmp _) ?_)
  by_cases hlt:l[(i+j) / 2].ID<id
  ·rw [if_pos hlt]
   refine Y.ret ⟨⟨(i+j) / 2+1,j,?_,rfl,by omega,h2,fun k p hp hk=>?_,h4⟩,?_⟩
   ·show IntKind.i64.wrap _=_;rw [cg (by omega) (by omega)];omega
   ·obtain ⟨hk2,rfl⟩:=List.getElem?_eq_some_iff.1 hp
    rcases Nat.lt_or_ge k ((i+j) / 2) with h5 | h5
    ·have:=pw k ((i+j) / 2) hk2 hm h5;omega
    have e:k=(i+j) / 2:=by omega
    subst e;exact hlt
   show ((j:Int) - IntKind.i64.wrap _).toNat<_;rw [cg (by omega) (by omega)];omega
  rw [if_neg hlt]
  have hd:decide ((if id<l[(i+j) / 2].ID then (1:Int) else 0)<0)=false:=by split <;> rfl
  rw [hd]
  refine Y.ret ⟨⟨i,(i+j) / 2,rfl,rfl,by omega,by omega,h3,fun k p hp hk=>?_⟩,by dsimp only;omega⟩
  obtain ⟨hk2,rfl⟩:=List.getElem?_eq_some_iff.1 hp
  rcases Nat.lt_or_ge ((i+j) / 2) k with h5 | h5
  ·have:=pw ((i+j) / 2) k hm hk2 h5;omega
  have e:k=(i+j) / 2:=by omega
  subst e;omega
 obtain ⟨⟨t1,t2⟩,e,rfl,j,hj,h1,h2,h3⟩:=hloop
 dsimp only at hj
 subst hj
 rw [e]
 simp only [bI]
 by_cases hjl:j<l.length
 ·rw [det (show (j:Int)<(l.length:Int) by omega),fF,bh hjl,bI,fF,cmp,bI]
  have h4:=h3 j _ (List.getElem?_eq_getElem hjl) (Nat.le_refl _)
  rw [if_neg (by omega)]
  by_cases heq:t1<l[j].ID
  ·have hn:dA l t1=none:=by
    unfold dA;rw [List.find?_eq_none]
    intro p hp
    obtain ⟨k,hk,rfl⟩:=List.getElem_of_mem hp
    have:l[k].ID≠t1:=by
     rcases Nat.lt_or_ge k j with h5 | h5
     ·have:=h2 k _ (List.getElem?_eq_getElem hk) h5;omega
     rcases Nat.lt_or_ge j k with h6 | h6
     ·have:=List.pairwise_iff_getElem.1 h.asc j k hjl hk h6;omega
     have e:k=j:=by omega
     subst e;omega
    simpa using this
   rw [if_pos heq,hn];exact ⟨j,rfl,fun p hp=>by cases hp⟩
  ·have hid:l[j].ID=t1:=by omega
   have hs:dA l t1=some l[j]:=by
    unfold dA
    rw [List.find?_eq_some_iff_getElem]
    refine ⟨by simpa using hid,j,hjl,rfl,fun k hk=>?_⟩
    have:=h2 k _ (List.getElem?_eq_getElem (by omega)) hk
    have:l[k].ID≠t1:=by omega
    simpa using this
   rw [if_neg heq,hs];exact ⟨j,rfl,fun p hp=>by injection hp with hp;exact ⟨hjl,hp⟩⟩
 rw [cq (show ¬ (j:Int)<(l.length:Int) by omega),lR,bI,lR,bI]
 have hn:dA l t1=none:=by
  unfold dA;rw [List.find?_eq_none]
  intro p hp
  obtain ⟨k,hk,rfl⟩:=List.getElem_of_mem hp
  have:=h2 k _ (List.getElem?_eq_getElem hk) (by omega)
  have:l[k].ID≠t1:=by omega
  simpa using this
 rw [hn];exact ⟨j,rfl,fun p hp=>by cases hp⟩
theorem ra (l:List Ze) (id:Int) (h:Sorted l):cA l id=some (j6 As (dA l id)):=by
 unfold cA
 obtain ⟨j,e,hj⟩:=yg l id h
 rw [e,bI]
 cases hf:dA l id with
 | none=>rfl
 | some p =>
  obtain ⟨hjl,rfl⟩:=hj p hf
  have hs:=h.small _ (List.getElem_mem hjl)
  simp only [Option.isSome_some,Bool.not_true,cT,bh hjl,bI]
  unfold bz bF
  rw [gy (by omega) (by omega),bI,gy (by omega) (by omega),bI];rfl
theorem MPs.sorted {l:List Ze} (h:MPs l):Sorted l:=by
 refine ⟨by have:=h.len;omega,?_,fun p hp=>?_⟩
 ·rw [List.pairwise_iff_getElem]
  intro i j hi hj hij
  have h1:=(h.all i _ (List.getElem?_eq_getElem hi)).id
  have h2:=(h.all j _ (List.getElem?_eq_getElem hj)).id
  omega
 obtain ⟨i,hi,rfl⟩:=List.getElem_of_mem hp
 have hm:=h.all i _ (List.getElem?_eq_getElem hi)
 have h1:=hm.proc.length_le;have h2:=hm.few;have h6:W5.length=5:=rfl
 omega
structure VAs (l:List Zb):Prop where
 len:l.length≤1000
 all:∀ a∈l,VA a
theorem MAs.vas {l:List Zb} (h:MAs l):VAs l:=⟨by have:=h.len;omega,fun a ha=>by obtain ⟨i,hi,rfl⟩:=List.getElem_of_mem ha;exact (h.all i _ (List.getElem?_eq_getElem hi)).va⟩
theorem kO {l:List Zb} (h:VAs l) {id:Int} {a:Zb} (ha:ke l id=some a):VA a∧a.ID=id∧a∈l:=by
 have hm:=List.mem_of_find?_eq_some ha
 exact ⟨h.all a hm,by have:=List.find?_some ha;simpa using this,hm⟩
def tD (a:Zb) (x y:ByteArray):Bool:=jq a.Parties x&&jq a.Parties y
theorem sr (a:Zb) (x y:ByteArray) (ha:VA a):cr a x y=some (tD a x y):=by
 have:=ha.ok.par.1
 unfold cr tD
 rw [qX _ _ this,qX _ _ this,bI]
 cases jq a.Parties x <;> rfl
def pg (p:List Ze) (l:List Zb) (i:ByteArray) (c:Za):Bool:=match dA p c.Product,ke l c.Agreement with
 | some q,some a => !decide (q.Country=i)&&tD a q.Country i&&(iD a q.Code).isSome
 | _,_=>false
theorem At (p:List Ze) (l:List Zb) (i:ByteArray) (c:Za) (hp:Sorted p) (hl:VAs l):bY p l i c=some (pg p l i c):=by
 unfold bY pg
 have:=hl.len
 rw [ra _ _ hp,bI]
 cases dA p c.Product with
 | none=>rfl
 | some q =>
  rw [nj _ _ (by omega)]
  simp only [j6,Bool.not_true,cT,bI]
  cases ha:ke l c.Agreement with
  | none=>rfl
  | some a =>
   have hv:=(kO hl ha).1
   rw [sr _ _ _ hv,u6 _ _ hv]
   by_cases hq:q.Country=i
   ·simp [hq,gd]
   cases h1:tD a q.Country i
   ·simp [hq,gd,h1]
   cases h2:iD a q.Code <;> simp [hq,gd,j6,h1,h2]
theorem ref_adm (p:List Ze) (l:List Zb) (i:ByteArray) (c:Za) (hp:p.length≤140737488355328) (hl:VAs l):fe p l i c=some (pg p l i c):=by
 unfold fe pg
 have:=hl.len
 rw [sq _ _ hp,bI,oj _ _ (by omega),bI]
 cases ha:ke l c.Agreement with
 | none =>
  rw [qV _ _ (by simp [j6,yf]),bI]
  cases dA p c.Product with
  | none=>rfl
  | some q=>rfl
 | some a =>
  have hv:=(kO hl ha).1
  rw [show (j6 yf (some a)).1=a from rfl,qV _ _ hv.ok.len,bI,nN _ _ hv.ok.par.1,nN _ _ hv.ok.par.1]
  cases dA p c.Product with
  | none=>rfl
  | some q =>
   unfold tD
   cases hr:iD a q.Code with
   | none=>simp [j6,gd,hr]
   | some r =>
    by_cases hq:q.Country=i
    ·simp [j6,gd,hr,hq]
    cases h1:jq a.Parties q.Country
    ·simp [j6,gd,hr,hq,h1]
    cases h2:jq a.Parties i <;> simp [j6,gd,hr,hq,h1,h2]
def ly (a:Zb) (id:Int) (e i:ByteArray) (b:Zb):Bool := !(b.ID == id)&&tD b e i&&hX vb a.Rules b.Rules
def dl (l:List Zb) (id:Int) (e i:ByteArray):List Int:=match ke l id with
 | none=>[]
 | some a=>id::cond (a.Kind == 2) ((l.filter (ly a id e i)).map (·.ID)) []
theorem mj (P:Zb→Bool):∀ (l:List Zb) (acc:List Int),l.foldl (fun acc b=>cond (P b) (acc++[b.ID]) acc) acc=acc++(l.filter P).map (·.ID)
 | [],acc=>by simp
 | b::l,acc=>by
  rw [List.foldl_cons,mj P l,List.filter_cons]
  cases P b <;> simp
theorem rJ (l:List Zb) (id:Int) (e i:ByteArray) (hl:VAs l):dS l id e i=some (dl l id e i):=by
 unfold dS dl
 have hlen:=hl.len
 rw [nj _ _ (by omega),bI]
 cases ha:ke l id with
 | none=>rfl
 | some a =>
  have hv:=(kO hl ha).1
  simp only [j6,Bool.not_true,cT,bne]
  cases hk:(a.Kind == 2)
  ·rfl
  simp only [Bool.not_true,cT,dn]
  refine (dZ (l:=l) (by omega) (fun i (a:List Int)=>(a,i)) (fun acc b=>cond (ly a id e i b) (acc++[b.ID]) acc) (fun a=>a) (fun k acc=>acc.length≤k+1) [id] (by simp) (fun k hk acc hacc=>⟨?_,?_⟩) (fun acc _=>by simp only [fu,cT])).1.trans ?_
  ·have hb:=hl.all _ (List.getElem_mem hk)
   simp only [lp hk,dn,bh hk,bI,dq hk (show l.length≤4611686018427387904 by omega),ly,bne]
   rw [sr _ _ _ hb,q8 _ _ hv.ok.len hv.ok.rules hv.rules]
   cases (l[k].ID == id)
   ·cases tD l[k] e i
    ·rfl
    cases hX vb a.Rules l[k].Rules
    ·rfl
    simp only [Bool.not_false,fF,bI,Bool.and_self,dn]
    rw [dy (by simp;omega) (by simp;omega)];rfl
   rfl
  ·cases ly a id e i l[k] <;> simp <;> omega
  rw [mj];rfl
theorem tE (l:List Zb) (id:Int) (e i:ByteArray) (hl:VAs l):fV l id e i=some (dl l id e i):=by
 unfold fV dl
 have hlen:=hl.len
 rw [oj _ _ (by omega),bI]
 cases ha:ke l id with
 | none=>rfl
 | some a =>
  have hv:=(kO hl ha).1
  simp only [j6,Bool.not_true,cT]
  cases hk:(a.Kind == 2)
  ·refine (dZ (l:=([]:List Zb)) (by simp) (fun i (a:List Int)=>(a,i)) (fun acc b=>acc) (fun a=>a) (fun k acc=>True) [id] trivial (fun k hk acc hacc=>by simp at hk) (fun acc _=>by simp only [Bool.and_false,cT])).1.trans ?_
   rfl
  simp only [Bool.and_true,dn]
  refine (dZ (l:=l) (by omega) (fun i (a:List Int)=>(a,i)) (fun acc b=>cond (ly a id e i b) (acc++[b.ID]) acc) (fun a=>a) (fun k acc=>acc.length≤k+1) [id] (by simp) (fun k hk acc hacc=>⟨?_,?_⟩) (fun acc _=>by simp only [fu,cT])).1.trans ?_
  ·have hb:=hl.all _ (List.getElem_mem hk)
   simp only [lp hk,dn,bh hk,bI,dq hk (show l.length≤4611686018427387904 by omega),ly,bne,tD]
   rw [nN _ _ hb.ok.par.1,nN _ _ hb.ok.par.1,rI _ _ hv.ok.len hv.ok.rules]
   cases (l[k].ID == id)
   ·cases jq l[k].Parties e
    ·rfl
    cases jq l[k].Parties i
    ·rfl
    cases hX vb a.Rules l[k].Rules
    ·rfl
    simp only [Bool.not_false,fF,bI,Bool.and_self,dn]
    rw [dy (by simp;omega) (by simp;omega)];rfl
   rfl
  ·cases ly a id e i l[k] <;> simp <;> omega
  rw [mj];rfl
def AscA (l:List Zb):Prop:=l.Pairwise fun a b=>a.ID<b.ID
theorem MAs.asc {l:List Zb} (h:MAs l):AscA l:=by
 unfold AscA;rw [List.pairwise_iff_getElem]
 intro i j hi hj hij
 have h1:=(h.all i _ (List.getElem?_eq_getElem hi)).id
 have h2:=(h.all j _ (List.getElem?_eq_getElem hj)).id
 omega
theorem nO (l:List Zb) (id:Int) (e i:ByteArray):(dl l id e i).length≤l.length+1:=by
 unfold dl
 cases ke l id with
 | none=>simp
 | some a=>cases h:(a.Kind == 2) <;> simp [h];exact List.length_filter_le _ _
theorem wf (x:Int):Y (gf x) (fun s=>s∈C6):=by
 unfold gf
 refine (qR x 8 (by omega) (by omega)).bind fun r ⟨h1,h2⟩=>?_
 obtain ⟨j,hj⟩:∃ j:Nat,r=(j:Int):=⟨r.toNat,by omega⟩
 refine Y.idx hj (show j<8 by omega) (Y.ret ?_)
 have hj8:j<8:=by omega
 match j,hj8 with
 | 0,_=>exact .tail _ (.head _)
 | 1,_=>exact .tail _ (.head _)
 | 2,_=>exact .tail _ (.head _)
 | 3,_=>exact .head _
 | 4,_=>exact .tail _ (.tail _ (.head _))
 | 5,_=>exact .tail _ (.tail _ (.tail _ (.head _)))
 | 6,_=>exact .tail _ (.tail _ (.tail _ (.tail _ (.head _))))
 | 7,_=>exact .tail _ (.tail _ (.tail _ (.tail _ (.tail _ (.head _)))))
end SX
end Go.Proofs.YtgmbmepakpcpaaaGreatDoor
set_option maxRecDepth 100000
set_option linter.unusedSectionVars false
namespace Go.Proofs.YtgmbmepakpcpaaaGreatDoor
namespace SX
open Go
section
variable {α:Type} [DecidableEq α]
def dd:List α→List α
 | []=>[]
 | [x]=>[x]
 | x::y::l=>cond (decide (x=y)) (dd (y::l)) (x::dd (y::l))
theorem tF (x y:α):∀ l:List α,dd (l++[x,y])=cond (decide (x=y)) (dd (l++[x])) (dd (l++[x])++[y])
 | []=>by
  show dd [x,y]=_
  rw [dd]
  cases h:decide (x=y)
  ·rfl
  ·have:=of_decide_eq_true h;subst this;rfl
 | [a]=>by
  have ih:=tF x y []
  simp only [List.nil_append] at ih
  simp only [List.cons_append,List.nil_append]
  rw [show dd [a,x,y]=cond (decide (a=x)) (dd [x,y]) (a::dd [x,y]) from rfl,ih,show dd [a,x]=cond (decide (a=x)) (dd [x]) (a::dd [x]) from rfl]
  cases decide (x=y) <;> cases decide (a=x) <;> rfl
 | a::b::l=>by
  show dd (a::b::(l++[x,y]))=_
  have ih:=tF x y (b::l)
  simp only [List.cons_append] at ih
  rw [dd,ih]
  show _=cond _ (dd (a::b::(l++[x]))) (dd (a::b::(l++[x]))++[y])
  rw [dd]
  cases decide (x=y) <;> cases decide (a=b) <;> rfl
theorem wg:∀ {l:List α} {z:α},z∈dd l↔z∈l
 | [],z=>Iff.rfl
 | [x],z=>Iff.rfl
 | x::y::l,z=>by
  rw [dd]
  have ih:=wg (l:=y::l) (z:=z)
  cases h:decide (x=y)
  ·rw [cT,List.mem_cons,ih];simp
  have:=of_decide_eq_true h;subst this
  rw [dn,ih];simp
theorem Au:∀ l:List α,(dd l).length≤l.length
 | []=>Nat.le_refl _
 | [x]=>Nat.le_refl _
 | x::y::l=>by
  rw [dd]
  have ih:=Au (y::l)
  cases decide (x=y)
  ·simp only [cT,List.length_cons] at ih ⊢;omega
  simp only [dn,List.length_cons] at ih ⊢;omega
theorem tG:∀ {l:List α},(∀ i,(h:i+1<l.length)→l[i]≠l[i+1])→dd l=l
 | [],_=>rfl
 | [x],_=>rfl
 | x::y::l,h=>by
  have h0:=h 0 (by simp)
  simp only [List.getElem_cons_zero,List.getElem_cons_succ,Nat.zero_add] at h0
  rw [dd,cq h0,cT,tG (l:=y::l) fun i hi=>by have:=h (i+1) (by simpa using hi);simpa using this]
variable {lt:α→α→Bool}
def Strict (lt:α→α→Bool) (l:List α):Prop:=l.Pairwise fun a b=>lt a b=true
theorem st (htot:∀ x y,lt x y=false→lt y x=false→x=y) (htr:∀ x y z,lt x y=true→lt y z=true→lt x z=true):∀ {l:List α},l.Pairwise (fun a b=>lt b a=false)→Strict lt (dd l)
 | [],_=>List.Pairwise.nil
 | [x],_=>List.pairwise_singleton _ _
 | x::y::l,h=>by
  obtain ⟨h1,h2⟩:=List.pairwise_cons.1 h
  have ih:=st htot htr h2
  rw [dd]
  cases hxy:decide (x=y)
  ·refine List.pairwise_cons.2 ⟨fun z hz=>?_,ih⟩
   have hz:=wg.1 hz
   have hne:x≠y:=of_decide_eq_false hxy
   have hlt:lt x y=true:=by
    cases hl:lt x y
    ·exact absurd (htot x y hl (h1 y (by simp))) hne
    rfl
   rcases List.mem_cons.1 hz with rfl | hz
   ·exact hlt
   cases hyz:lt y z
   ·have:=(List.pairwise_cons.1 h2).1 z hz
    rw [← htot y z hyz this];exact hlt
   exact htr _ _ _ hlt hyz
  exact ih
theorem oN (hir:∀ x,lt x x=false) (htr:∀ x y z,lt x y=true→lt y z=true→lt x z=true):∀ {l m:List α},Strict lt l→Strict lt m→(∀ z,z∈l↔z∈m)→l=m
 | [],[],_,_,_=>rfl
 | [],y::m,_,_,h=>absurd ((h y).2 (by simp)) (by simp)
 | x::l,[],_,_,h=>absurd ((h x).1 (by simp)) (by simp)
 | x::l,y::m,h1,h2,h=>by
  obtain ⟨a1,a2⟩:=List.pairwise_cons.1 h1
  obtain ⟨b1,b2⟩:=List.pairwise_cons.1 h2
  have hxy:x=y:=by
   rcases List.mem_cons.1 ((h x).1 (by simp)) with e | hx
   ·exact e
   rcases List.mem_cons.1 ((h y).2 (by simp)) with e | hy
   ·exact e.symm
   have:=htr _ _ _ (a1 y hy) (b1 x hx);rw [hir] at this;cases this
  subst hxy
  congr 1
  refine oN hir htr a2 b2 fun z=>?_
  constructor
  ·intro hz
   rcases List.mem_cons.1 ((h z).1 (by simp [hz])) with rfl | hz2
   ·have:=a1 z hz;rw [hir] at this;cases this
   exact hz2
  intro hz
  rcases List.mem_cons.1 ((h z).2 (by simp [hz])) with rfl | hz2
  ·have:=b1 z hz;rw [hir] at this;cases this
  exact hz2
def dm (l:List α) (c:α):Bool:=l.any fun x=>decide (x=c)
theorem rb {l:List α} {c:α}:dm l c=true↔c∈l:=by unfold dm;rw [List.any_eq_true];exact ⟨fun ⟨x,h1,h2⟩=>of_decide_eq_true h2 ▸ h1,fun h=>⟨c,h,det rfl⟩⟩
theorem rc {l:List α} {c:α}:dm l c=false↔c ∉ l:=by rw [← rb];simp
def iy (lt:α→α→Bool) (l:List α) (c:α):List α:=cond (dm l c) l (l.takeWhile (fun x=>lt x c)++c::l.dropWhile (fun x=>lt x c))
theorem Av (l:List α) (c z:α):z∈iy lt l c↔z=c∨z∈l:=by
 unfold iy
 cases h:dm l c
 ·rw [cT,List.mem_append,List.mem_cons]
  have:z∈l↔z∈l.takeWhile (fun x=>lt x c)∨z∈l.dropWhile (fun x=>lt x c):=by
   rw [← List.mem_append,List.takeWhile_append_dropWhile]
  rw [this]
  constructor
  ·rintro (h | h | h);exact .inr (.inl h);exact .inl h;exact .inr (.inr h)
  rintro (h | h | h);exact .inr (.inl h);exact .inl h;exact .inr (.inr h)
 have:=rb.1 h
 rw [dn]
 constructor
 ·exact fun h=>.inr h
 rintro (rfl | h);exact this;exact h
theorem ml (htot:∀ x y,lt x y=false→lt y x=false→x=y) (htr:∀ x y z,lt x y=true→lt y z=true→lt x z=true) {l:List α} {c:α} (h:Strict lt l):Strict lt (iy lt l c):=by
 unfold iy
 cases hc:dm l c
 ·have hc:=rc.1 hc
  rw [cT]
  have hd:∀ z∈l.dropWhile (fun x=>lt x c),lt c z=true:=by
   have key:∀ m:List α,Strict lt m→c ∉ m→∀ z∈m.dropWhile (fun x=>lt x c),lt c z=true:=by
    intro m
    induction m with
    | nil=>intro _ _ z hz;cases hz
    | cons x m ih =>
     intro hm hcm z hz
     obtain ⟨m1,m2⟩:=List.pairwise_cons.1 hm
     rw [List.dropWhile_cons] at hz
     cases hx:lt x c
     ·rw [hx] at hz
      simp only [Bool.false_eq_true,if_false] at hz
      have hcx:lt c x=true:=by
       cases h2:lt c x
       ·exact absurd (htot x c hx h2) (fun e=>hcm (by simp [e]))
       rfl
      rcases List.mem_cons.1 hz with rfl | hz
      ·exact hcx
      exact htr _ _ _ hcx (m1 z hz)
     rw [hx] at hz
     simp only [if_true] at hz
     exact ih m2 (fun h=>hcm (by simp [h])) z hz
   exact key l h hc
  have ht:∀ z∈l.takeWhile (fun x=>lt x c),lt z c=true:=by
   have key:∀ m:List α,∀ z∈m.takeWhile (fun x=>lt x c),lt z c=true:=by
    intro m
    induction m with
    | nil=>intro z hz;cases hz
    | cons x m ih =>
     intro z hz
     rw [List.takeWhile_cons] at hz
     cases hx:lt x c
     ·rw [hx] at hz;cases hz
     rw [hx] at hz
     simp only [if_true] at hz
     rcases List.mem_cons.1 hz with rfl | hz
     ·exact hx
     exact ih z hz
   exact key l
  refine List.pairwise_append.2 ⟨h.sublist (List.takeWhile_sublist _),List.pairwise_cons.2 ⟨hd,h.sublist (List.dropWhile_sublist _)⟩,fun a ha b hb=>?_⟩
  rcases List.mem_cons.1 hb with rfl | hb
  ·exact ht a ha
  exact htr _ _ _ (ht a ha) (hd b hb)
 exact h
theorem mn (l:List α) (c:α):(iy lt l c).length≤l.length+1:=by
 unfold iy
 cases dm l c
 ·rw [cT,List.length_append,List.length_cons]
  have:=congrArg List.length (List.takeWhile_append_dropWhile (p:=fun x=>lt x c) (l:=l))
  rw [List.length_append] at this;omega
 exact Nat.le_succ _
def sd (lt:α→α→Bool) (l:List α):List α:=dd (iK lt l)
theorem Aw (l:List α) (z:α):z∈sd lt l↔z∈l:=by unfold sd;rw [wg,ip.mem_iff]
theorem Ax (l:List α):(sd lt l).length≤l.length:=by unfold sd;have:=Au (iK lt l);rw [kL] at this;exact this
structure Ord (lt:α→α→Bool):Prop where
 irr:∀ x,lt x x=false
 tr:∀ x y z,lt x y=true→lt y z=true→lt x z=true
 ntr:∀ x y z,lt x y=false→lt y z=false→lt x z=false
 tot:∀ x y,lt x y=false→lt y x=false→x=y
theorem su (o:Ord lt) (l:List α):Strict lt (sd lt l):=st o.tot o.tr (jf o.tr o.ntr o.irr l)
theorem nP (o:Ord lt):∀ (l acc:List α),Strict lt acc→Strict lt (l.foldl (iy lt) acc)∧(∀ z,z∈l.foldl (iy lt) acc↔z∈acc∨z∈l)∧(l.foldl (iy lt) acc).length≤acc.length+l.length
 | [],acc,h=>⟨h,fun z=>by simp,by simp⟩
 | c::l,acc,h=>by
  obtain ⟨h1,h2,h3⟩:=nP o l (iy lt acc c) (ml o.tot o.tr h)
  refine ⟨h1,fun z=>?_,?_⟩
  ·rw [List.foldl_cons,h2,Av,List.mem_cons]
   constructor
   ·rintro ((h | h) | h);exact .inr (.inl h);exact .inl h;exact .inr (.inr h)
   rintro (h | h | h);exact .inl (.inr h);exact .inl (.inl h);exact .inr h
  rw [List.foldl_cons,List.length_cons];have:=mn (lt:=lt) acc c;omega
theorem oO (o:Ord lt) (l:List α):l.foldl (iy lt) []=sd lt l :=
 oN o.irr o.tr (nP o l [] List.Pairwise.nil).1 (su o l) fun z=>by rw [(nP o l [] List.Pairwise.nil).2.1,Aw];simp
end
theorem wh:Ord ib:=⟨w5,Af,fun x y z h1 h2=>by
 rw [lZ] at *;exact cq (List.not_lt.2 (List.le_trans (List.not_lt.1 (of_decide_eq_false h2)) (List.not_lt.1 (of_decide_eq_false h1)))),fun x y h1 h2=>by
 rw [lZ] at h1 h2
 exact str_ext.2 (List.le_antisymm (List.not_lt.1 (of_decide_eq_false h2)) (List.not_lt.1 (of_decide_eq_false h1)))⟩
theorem ordC:Ord bH:=⟨oH,qJ,oI,oJ⟩
section
variable {α:Type} [DecidableEq α]
theorem xe {p:List α} {n:Nat} (h0:1≤n) (h:n<p.length):dd (p.take (n+1))=cond (decide (p[n-1]'(by omega)=p[n])) (dd (p.take n)) (dd (p.take n)++[p[n]]):=by
 obtain ⟨m,rfl⟩:∃ m,n=m+1:=⟨n - 1,by omega⟩
 have e1:p.take (m+1)=p.take m++[p[m]'(by omega)]:=by rw [List.take_add_one,List.getElem?_eq_getElem (by omega)];rfl
 have e3:p.take (m+1+1)=p.take (m+1)++[p[m+1]]:=by rw [List.take_add_one,List.getElem?_eq_getElem h];rfl
 have e2:p.take (m+1+1)=p.take m++[p[m]'(by omega),p[m+1]]:=by rw [e3,e1,List.append_assoc];rfl
 rw [e2,tF,e1];rfl
structure CInv (p:List α) (v:Nat) (l:List α) (k i:Nat):Prop where
 i1:1≤i
 le:v+i≤p.length
 len:l.length=p.length
 kk:k=(dd (p.take (v+i))).length
 klt:k+1≤v+i
 pre:l.take k=dd (p.take (v+i))
 suf:∀ j,v+i≤j+1→l[j]?=p[j]?
theorem CInv.step {p l:List α} {v k i:Nat} (c:CInv p v l k i) (h:v+i<p.length) (hv:1≤v):∃ x y,l[v+i]?=some x∧l[v+i - 1]?=some y∧(decide (x=y)=true→CInv p v l k (i+1))∧(decide (x=y)=false→k<l.length∧CInv p v (l.set k x) (k+1) (i+1)):=by
 have hx:=c.suf (v+i) (by omega)
 have hy:=c.suf (v+i - 1) (by omega)
 rw [List.getElem?_eq_getElem h] at hx
 rw [List.getElem?_eq_getElem (show v+i - 1<p.length by omega)] at hy
 have hd:=xe (p:=p) (n:=v+i) (by omega) h
 refine ⟨_,_,hx,hy,fun e=>?_,fun e=>?_⟩
 ·have e':decide (p[v+i - 1]'(by omega)=p[v+i])=true:=det (of_decide_eq_true e).symm
  rw [e',dn] at hd
  exact ⟨by omega,by omega,c.len,by rw [← Nat.add_assoc,hd];exact c.kk,by have:=c.klt;omega,by rw [← Nat.add_assoc,hd];exact c.pre,fun j hj=>c.suf j (by omega)⟩
 have e':decide (p[v+i - 1]'(by omega)=p[v+i])=false:=cq (fun q=>of_decide_eq_false e q.symm)
 rw [e',cT] at hd
 have hk:k<l.length:=by have:=c.klt;have:=c.len;omega
 refine ⟨hk,by omega,by omega,by rw [List.length_set];exact c.len,by rw [← Nat.add_assoc,hd,List.length_append,← c.kk];rfl,by have:=c.klt;omega,?_,fun j hj=>?_⟩
 ·rw [← Nat.add_assoc,hd,← c.pre]
  rw [List.take_add_one,List.getElem?_set]
  simp only [if_true,hk]
  rw [List.take_set_of_le (Nat.le_refl k)];rfl
 rw [List.getElem?_set,if_neg (by have:=c.klt;omega)];exact c.suf j (by omega)
theorem CInv.start {p:List α} {v:Nat} (hv:1≤v) (h:v<p.length) (he:p[v]=p[v-1]'(by omega)) (hb:∀ j,1≤j→(hj:j<v)→p[j]'(by omega)≠p[j-1]'(by omega)):CInv p v p v 1:=by
 have e1:dd (p.take v)=p.take v:=tG fun i hi=>by
  rw [List.length_take] at hi
  rw [List.getElem_take,List.getElem_take]
  have:=hb (i+1) (by omega) (by omega)
  exact fun e=>this e.symm
 have hd:=xe (p:=p) (n:=v) hv h
 rw [det he.symm,dn,e1] at hd
 exact ⟨Nat.le_refl _,by omega,rfl,by rw [hd,List.length_take];omega,by omega,by rw [hd],fun j _=>rfl⟩
end
end SX
end Go.Proofs.YtgmbmepakpcpaaaGreatDoor
namespace Go.Proofs.YtgmbmepakpcpaaaGreatDoor
namespace SX
open Go
theorem tH {α:Type} (l:List α) (n:Nat):idx l (n:Int)=l[n]?:=by unfold idx;rw [if_pos (by omega)];simp
theorem oP {α:Type} [DecidableEq α] (E:α→α→Bool) (hE:∀ x y,E x y=decide (x=y)) (z:α) (p:List α) (hp:p.length≤1000000000) :
    cond (decide (((p.length:Nat):Int)<2)) (some p) (Option.bind (bf (S:=Int) (T:=(Unit)⊕(List α)) (fun v2=>cond (decide (v2<((p.length:Nat):Int))) (Option.bind (idx p v2) (fun m7=>Option.bind (idx p (IntKind.i64.wrap (v2 - 1))) (fun m8=>cond (E m7 m8) (Option.bind (sub p v2 (p.length:Int)) (fun _=>Option.bind (bf (S:=(List α)×Int×Int) (T:=((List α)×Int)) (fun (l12,v13,v14)=>cond (decide (v14<((p.length - v2.toNat:Nat):Int))) (Option.bind (Option.bind (i5 v14) (fun _=>Option.bind (idx l12 (v2+v14)) (fun m26=>Option.bind (i5 (IntKind.i64.wrap (v14 - 1))) (fun _=>Option.bind (idx l12 (v2+(IntKind.i64.wrap (v14 - 1)))) (fun m28=>cond (!(E m26 m28)) (Option.bind (i5 v14) (fun _=>Option.bind (idx l12 (v2+v14)) (fun m31=>Option.bind (idx l12 v13) (fun _=>some ((l12.set v13.toNat m31),(IntKind.i64.wrap (v13+1))))))) (some (l12,v13))))))) (fun (l22,v23)=>some (.inl (l22,v23,(IntKind.i64.wrap (v14+1)))))) (some (.inr (l12,v13)))) FUEL (p,v2,1)) (fun (l16,v17)=>Option.bind (sub l16 v17 (l16.length:Int)) (fun _=>Option.bind (sub (List.take v17.toNat l16++List.replicate (p.length - v17.toNat) z) 0 v17) (fun l35=>some (.inr (.inr l35))))))) (some (.inl (IntKind.i64.wrap (v2+1))))))) (some (.inr (.inl ())))) FUEL 1) (fun q=>match q with | .inl _=>some p | .inr e=>some e))=some (dd p):=by
  by_cases h2:p.length<2
  · rw [det (show ((p.length:Nat):Int)<2 by omega)]
    match p,h2 with
    | [],_=>rfl
    | [x],_=>rfl
  rw [cq (by omega),cT]
  have hl:Y (bf (S:=Int) (T:=(Unit)⊕(List α)) (fun v2=>cond (decide (v2<((p.length:Nat):Int))) (Option.bind (idx p v2) (fun m7=>Option.bind (idx p (IntKind.i64.wrap (v2 - 1))) (fun m8=>cond (E m7 m8) (Option.bind (sub p v2 (p.length:Int)) (fun _=>Option.bind (bf (S:=(List α)×Int×Int) (T:=((List α)×Int)) (fun (l12,v13,v14)=>cond (decide (v14<((p.length - v2.toNat:Nat):Int))) (Option.bind (Option.bind (i5 v14) (fun _=>Option.bind (idx l12 (v2+v14)) (fun m26=>Option.bind (i5 (IntKind.i64.wrap (v14 - 1))) (fun _=>Option.bind (idx l12 (v2+(IntKind.i64.wrap (v14 - 1)))) (fun m28=>cond (!(E m26 m28)) (Option.bind (i5 v14) (fun _=>Option.bind (idx l12 (v2+v14)) (fun m31=>Option.bind (idx l12 v13) (fun _=>some ((l12.set v13.toNat m31),(IntKind.i64.wrap (v13+1))))))) (some (l12,v13))))))) (fun (l22,v23)=>some (.inl (l22,v23,(IntKind.i64.wrap (v14+1)))))) (some (.inr (l12,v13)))) FUEL (p,v2,1)) (fun (l16,v17)=>Option.bind (sub l16 v17 (l16.length:Int)) (fun _=>Option.bind (sub (List.take v17.toNat l16++List.replicate (p.length - v17.toNat) z) 0 v17) (fun l35=>some (.inr (.inr l35))))))) (some (.inl (IntKind.i64.wrap (v2+1))))))) (some (.inr (.inl ())))) FUEL 1) (fun t=>match t with | .inl _=>dd p=p | .inr e=>e=dd p):=by
    refine Y.loop (fun s:Int=>∃ v:Nat,s=(v:Int)∧1≤v∧v≤p.length∧∀ j,1≤j→(hj:j<v)→(hp:j<p.length)→p[j]≠p[j-1]'(by omega)) (fun s=>(p.length - s).toNat) ⟨1,rfl,by omega,by omega,fun j h1 h2=>by omega⟩ (by omega) fun s hs=>?_
    obtain ⟨v,rfl,h1,h3,h4⟩:=hs
    refine Y.cond (fun hc=>?_) (fun hc=>Y.ret (tG fun i hi=>?_))
    rotate_left
    · have hc:=of_decide_eq_false hc
      have:=h4 (i+1) (by omega) (by omega) hi
      exact fun e=>this e.symm
    have hv:v<p.length:=by have:=of_decide_eq_true hc;omega
    refine Y.idx rfl hv ?_
    refine Y.idx (n:=v - 1) (by rw [cg (by omega) (by omega)];omega) (by omega) ?_
    rw [hE]
    refine Y.cond (fun he=>?_) (fun he=>Y.ret ⟨⟨v+1,?_,by omega,by omega,fun j g1 g2 g3=>?_⟩,?_⟩)
    · rw [lq (Nat.le_of_lt hv) (Nat.le_refl _),bI]
      have he:=of_decide_eq_true he
      have c0:=CInv.start h1 hv he fun j g1 g2=>h4 j g1 g2 (by omega)
      refine Y.bind (P:=fun t:List α×Int=>∃ k:Nat,t.2=(k:Int)∧k≤p.length∧t.1.length=p.length∧t.1.take k=dd p) ?_ fun t ⟨k,t1,t2,t3,t4⟩=>?_
      · refine Y.loop (fun s:List α×Int×Int=>∃ k i:Nat,s.2.1=(k:Int)∧s.2.2=(i:Int)∧CInv p v s.1 k i) (fun s=>(p.length - v - s.2.2).toNat) ⟨v,1,rfl,rfl,c0⟩ (by dsimp only;omega) fun s hs=>?_
        obtain ⟨l,a,b⟩:=s
        obtain ⟨k,i,rfl,rfl,c⟩:=hs
        dsimp only at c ⊢
        have ci:=c.i1;have cl:=c.le;have ck:=c.klt;have cn:=c.len
        refine Y.cond (fun hc=>?_) (fun hc=>Y.ret ⟨k,rfl,by omega,c.len,?_⟩)
        rotate_left
        · have hc:=of_decide_eq_false hc
          have e:v+i=p.length:=by rw [Int.toNat_natCast] at hc;omega
          have:=c.pre
          rw [e,List.take_length] at this;exact this
        have hlt:v+i<p.length:=by have:=of_decide_eq_true hc;rw [Int.toNat_natCast] at this;omega
        obtain ⟨x,y,hx,hy,s1,s2⟩:=c.step hlt h1
        refine Y.bind (P:=fun t:List α×Int=>∃ k':Nat,t.2=(k':Int)∧CInv p v t.1 k' (i+1)) ?_ fun t ⟨k',t1,t2⟩=>Y.ret ⟨⟨k',i+1,t1,?_,t2⟩,?_⟩
        · refine Y.eq (lw i) ?_
          rw [show (v:Int)+(i:Int)=((v+i:Nat):Int) by omega]
          refine Y.eq (by rw [tH];exact hx) ?_
          rw [cg (r:=(i:Int) - 1) (by omega) (by omega),show (i:Int) - 1=((i - 1:Nat):Int) by omega]
          refine Y.eq (lw (i - 1)) ?_
          rw [show (v:Int)+((i - 1:Nat):Int)=((v+i - 1:Nat):Int) by omega]
          refine Y.eq (by rw [tH];exact hy) ?_
          rw [hE]
          refine Y.cond (fun hne=>?_) (fun hne=>Y.ret ⟨k,rfl,s1 (by simpa using hne)⟩)
          obtain ⟨hk,c2⟩:=s2 (by simpa using hne)
          refine Y.eq (lw i) (Y.eq (by rw [tH];exact hx) (Y.idx rfl hk (Y.ret ⟨k+1,?_,c2⟩)))
          show IntKind.i64.wrap ((k:Int)+1)=_;rw [cg (by omega) (by omega)];omega
        · show IntKind.i64.wrap ((i:Int)+1)=_;rw [cg (by omega) (by omega)];omega
        show ((p.length:Int) - v - IntKind.i64.wrap ((i:Int)+1)).toNat<((p.length:Int) - v - (i:Int)).toNat;rw [cg (by omega) (by omega)];omega
      obtain ⟨l,b⟩:=t
      dsimp only at t1 t3 t4 ⊢
      subst t1
      have e1:sub l (k:Int) (l.length:Int)=some ((l.take l.length).drop k):=lq (by omega) (Nat.le_refl _)
      rw [e1,bI,Int.toNat_natCast]
      have e2:sub (List.take k l++List.replicate (p.length - k) z) 0 (k:Int)=some (((List.take k l++List.replicate (p.length - k) z).take k).drop 0):=lq (a:=0) (by omega) (by simp;omega)
      rw [e2,bI]
      refine Y.ret ?_
      show ((List.take k l++List.replicate (p.length - k) z).take k).drop 0=dd p
      rw [List.drop_zero,List.take_append_of_le_length (by rw [List.length_take];omega),List.take_take,Nat.min_self,t4]
    · show IntKind.i64.wrap ((v:Int)+1)=_;rw [cg (by omega) (by omega)];omega
    · rcases Nat.lt_or_ge j v with h | h
      · exact h4 j g1 h g3
      have e:j=v:=by omega
      subst e;exact of_decide_eq_false he
    show ((p.length:Int) - IntKind.i64.wrap ((v:Int)+1)).toNat<((p.length:Int) - (v:Int)).toNat;rw [cg (by omega) (by omega)];omega
  obtain ⟨t,e,ht⟩:=hl
  rw [e]
  cases t with
  | inl u=>dsimp only at ht;rw [bI,ht]
  | inr u=>dsimp only at ht;rw [bI,ht]
theorem Ay (p:List ByteArray) (hp:p.length≤1000000000):cC p=some (dd p):=by
 refine Eq.trans ?_ (oP (fun x y=>decide (x=y)) (fun _ _=>rfl) ByteArray.empty p hp)
 kernel_rfl
theorem xf (x y:Za):Za.eqb x y=decide (x=y):=by
 cases h:Za.eqb x y
 ·exact (cq fun e=>by rw [Za.eqb_iff.2 e] at h;cases h).symm
 exact (det (Za.eqb_iff.1 h)).symm
theorem Az (p:List Za) (hp:p.length≤1000000000):bu p=some (dd p):=by
 refine Eq.trans ?_ (oP Za.eqb xf ⟨0,0⟩ p hp)
 kernel_rfl
theorem nQ (l:List Za) (c:Za) (hl:l.length≤140737488355328):fg l c=some (dm l c):=by
 unfold fg
 refine (dF (l:=l) (by omega) (fun _ x=>cond (Za.eqb x c) (some (.inr true)) none) (.inl ()) (fun k hk=>?_) (by simp only [fu,cT])).trans ?_
 ·simp only [lp hk,dn,bh hk,bI,dq hk (show l.length≤4611686018427387904 by omega)]
  cases Za.eqb l[k] c <;> rfl
 rw [od (fun x=>Za.eqb x c)]
 have:(l.any fun x=>Za.eqb x c)=dm l c:=by unfold dm;congr 1;funext x;exact xf x c
 rw [this];cases dm l c <;> rfl
theorem lz {α:Type} (P:α→Bool):∀ (l:List α) (k:Nat),k≤l.length→(∀ j x,l[j]?=some x→j<k→P x=true)→(∀ x,l[k]?=some x→P x=false)→l.takeWhile P=l.take k∧l.dropWhile P=l.drop k
 | [],k,h,_,_=>by simp at h;subst h;exact ⟨rfl,rfl⟩
 | x::l,0,_,_,h=>by rw [List.takeWhile_cons,List.dropWhile_cons,h x rfl];exact ⟨rfl,rfl⟩
 | x::l,k+1,h,h1,h2=>by
  obtain ⟨e1,e2⟩:=lz P l k (by simpa using h) (fun j y hy hj=>h1 (j+1) y (by simpa using hy) (by omega)) (fun y hy=>h2 y (by simpa using hy))
  rw [List.takeWhile_cons,List.dropWhile_cons,h1 0 x rfl (by omega)]
  simp only [if_true,List.take_succ_cons,List.drop_succ_cons]
  rw [e1,e2];exact ⟨rfl,rfl⟩
theorem yh (l:List Za) (c:Za) (hl:l.length≤1000000000):fW l c=some (iy bH l c):=by
 unfold fW iy
 rw [nQ _ _ (by omega),bI]
 cases dm l c
 rotate_left
 ·rfl
 simp only [cT]
 have hw:Y (bf (S:=Int) (T:=(Int)) (fun v4=>Option.bind (gd (decide (v4<(l.length:Int))) (idx l v4)) (fun m8=>Option.bind (gd (decide (v4<(l.length:Int))) (iv m8 c)) (fun x9=>cond ((decide (v4<(l.length:Int)))&&x9) (some (.inl (IntKind.i64.wrap (v4+1)))) (some (.inr v4))))) FUEL 0) (fun t=>∃ k:Nat,t=(k:Int)∧k≤l.length∧l.takeWhile (fun x=>bH x c)=l.take k∧l.dropWhile (fun x=>bH x c)=l.drop k):=by
  refine Y.loop (fun s:Int=>∃ k:Nat,s=(k:Int)∧k≤l.length∧∀ j x,l[j]?=some x→j<k→bH x c=true) (fun s=>(l.length - s).toNat) ⟨0,rfl,by omega,fun j x _ h=>absurd h (Nat.not_lt_zero _)⟩ (by omega) fun s hs=>?_
  obtain ⟨k,rfl,h1,h2⟩:=hs
  rcases Nat.lt_or_ge k l.length with hk | hk
  ·rw [lp hk,fF,bh hk,bI,fF]
   have e:iv l[k] c=some (bH l[k] c):=by unfold iv bH;rfl
   rw [e,bI]
   cases hlt:bH l[k] c
   ·exact Y.ret ⟨k,rfl,h1,lz _ l k h1 h2 fun x hx=>by rw [List.getElem?_eq_getElem hk] at hx;injection hx with hx;rw [← hx];exact hlt⟩
   refine Y.ret ⟨⟨k+1,?_,by omega,fun j x hx hj=>?_⟩,?_⟩
   ·show IntKind.i64.wrap ((k:Int)+1)=_;rw [cg (by omega) (by omega)];omega
   ·rcases Nat.lt_or_ge j k with h | h
    ·exact h2 j x hx h
    have e:j=k:=by omega
    subst e;rw [List.getElem?_eq_getElem hk] at hx;injection hx with hx;rw [← hx];exact hlt
   show ((l.length:Int) - IntKind.i64.wrap ((k:Int)+1)).toNat<((l.length:Int) - (k:Int)).toNat;rw [cg (by omega) (by omega)];omega
  have e:k=l.length:=by omega
  subst e
  rw [fu,lR,bI,lR,bI]
  exact Y.ret ⟨l.length,rfl,h1,lz _ l _ h1 h2 fun x hx=>by have:=(List.getElem?_eq_some_iff.1 hx).1;omega⟩
 obtain ⟨t,e,k,rfl,h1,h2,h3⟩:=hw
 rw [e,bI]
 have s1:sub l 0 (k:Int)=some ((l.take k).drop 0):=lq (a:=0) (by omega) h1
 have s2:sub l (k:Int) (l.length:Int)=some ((l.take l.length).drop k):=lq h1 (Nat.le_refl _)
 rw [s1,bI,s2,bI,List.drop_zero,List.take_length,gy (by rw [List.length_take];omega) (by omega),bI,dy (by simp;omega) (by simp;omega),bI,dy (by simp;omega) (by simp;omega),bI,h2,h3,List.append_assoc];rfl
theorem sv (l:List ByteArray) (c:ByteArray) (hl:l.length≤1000000000) (hs:Strict ib l):iu l c=some (iy ib l c):=by
 unfold iu iy
 have hw:Y (bf (S:=Int) (T:=(ByteArray×Int)) (fun v1=>Option.bind (gd (decide (v1<(l.length:Int))) (idx l v1)) (fun m6=>cond ((decide (v1<(l.length:Int)))&&(Op.bytesLess m6.toList c.toList)) (some (.inl (IntKind.i64.wrap (v1+1)))) (some (.inr (c,v1))))) FUEL 0) (fun t=>t.1=c∧∃ k:Nat,t.2=(k:Int)∧k≤l.length∧(∀ j x,l[j]?=some x→j<k→ib x c=true)∧(∀ x,l[k]?=some x→ib x c=false)):=by
  refine Y.loop (fun s:Int=>∃ k:Nat,s=(k:Int)∧k≤l.length∧∀ j x,l[j]?=some x→j<k→ib x c=true) (fun s=>(l.length - s).toNat) ⟨0,rfl,by omega,fun j x _ h=>absurd h (Nat.not_lt_zero _)⟩ (by omega) fun s hs=>?_
  obtain ⟨k,rfl,h1,h2⟩:=hs
  rcases Nat.lt_or_ge k l.length with hk | hk
  ·rw [lp hk,fF,bh hk,bI]
   cases hlt:ib l[k] c
   ·have hlt':Op.bytesLess l[k].toList c.toList=false:=hlt
    rw [hlt']
    exact Y.ret ⟨rfl,k,rfl,h1,h2,fun x hx=>by rw [List.getElem?_eq_getElem hk] at hx;injection hx with hx;rw [← hx];exact hlt⟩
   have hlt':Op.bytesLess l[k].toList c.toList=true:=hlt
   rw [hlt']
   refine Y.ret ⟨⟨k+1,?_,by omega,fun j x hx hj=>?_⟩,?_⟩
   ·show IntKind.i64.wrap ((k:Int)+1)=_;rw [cg (by omega) (by omega)];omega
   ·rcases Nat.lt_or_ge j k with h | h
    ·exact h2 j x hx h
    have e:j=k:=by omega
    subst e;rw [List.getElem?_eq_getElem hk] at hx;injection hx with hx;rw [← hx];exact hlt
   show ((l.length:Int) - IntKind.i64.wrap ((k:Int)+1)).toNat<((l.length:Int) - (k:Int)).toNat;rw [cg (by omega) (by omega)];omega
  have e:k=l.length:=by omega
  subst e
  rw [fu,lR,bI]
  exact Y.ret ⟨rfl,l.length,rfl,h1,h2,fun x hx=>by have:=(List.getElem?_eq_some_iff.1 hx).1;omega⟩
 obtain ⟨⟨t1,t2⟩,e,rfl,k,hk,h1,h2,h3⟩:=hw
 dsimp only at hk
 subst hk
 obtain ⟨w1,w2⟩:=lz (fun x=>ib x t1) l k h1 h2 h3
 rw [e,bI]
 dsimp only
 have key:t1∈l↔l[k]?=some t1:=by
  constructor
  ·intro hm
   obtain ⟨j,hj,hjt⟩:=List.getElem_of_mem hm
   have hjk:k≤j:=by
    rcases Nat.lt_or_ge j k with h | h
    ·have:=h2 j l[j] (List.getElem?_eq_getElem hj) h;rw [hjt,w5] at this;cases this
    exact h
   rcases Nat.lt_or_ge k j with h | h
   ·have hkl:k<l.length:=by omega
    have g1:=h3 l[k] (List.getElem?_eq_getElem hkl)
    have g2:=(List.pairwise_iff_getElem.1 hs) k j hkl hj h
    rw [hjt,g1] at g2;cases g2
   have e:j=k:=by omega
   subst e;rw [List.getElem?_eq_getElem hj,hjt]
  exact fun h=>List.mem_of_getElem? h
 rcases Nat.lt_or_ge k l.length with hkl | hkl
 ·rw [lp hkl,fF,bh hkl,bI,Bool.true_and]
  by_cases hm:l[k]=t1
  ·rw [det hm,rb.2 (key.2 (by rw [List.getElem?_eq_getElem hkl,hm]))];rfl
  rw [cq hm,rc.2 (fun h=>hm (by have:=key.1 h;rw [List.getElem?_eq_getElem hkl] at this;injection this))]
  simp only [cT]
  have s1:sub l 0 (k:Int)=some ((l.take k).drop 0):=lq (a:=0) (by omega) h1
  have s2:sub l (k:Int) (l.length:Int)=some ((l.take l.length).drop k):=lq h1 (Nat.le_refl _)
  rw [s1,bI,s2,bI,List.drop_zero,List.take_length,gy (by rw [List.length_take];omega) (by omega),bI,dy (by simp;omega) (by simp;omega),bI,dy (by simp;omega) (by simp;omega),bI,w1,w2,List.append_assoc];rfl
 have e:k=l.length:=by omega
 subst e
 rw [fu,lR,bI,Bool.false_and,rc.2 (fun h=>by have:=key.1 h;rw [List.getElem?_eq_none (Nat.le_refl _)] at this;cases this)]
 simp only [cT]
 have s1:sub l 0 ((l.length:Nat):Int)=some ((l.take l.length).drop 0):=lq (a:=0) (by omega) h1
 have s2:sub l ((l.length:Nat):Int) (l.length:Int)=some ((l.take l.length).drop l.length):=lq h1 (Nat.le_refl _)
 rw [s1,bI,s2,bI,List.drop_zero,List.take_length,gy (by omega) (by omega),bI,dy (by simp;omega) (by simp;omega),bI,dy (by simp;omega) (by simp;omega),bI,w1,w2,List.append_assoc,List.take_length];rfl
def kp (a b:List ByteArray):List ByteArray:=sd ib (a++b)
theorem concat2 (a b:List ByteArray) (h:a.length+b.length≤1000000):bZ [a,b]=some (a++b):=by
 unfold bZ da
 refine (lS (l:=[a,b]) (by simp) (fun i (s:Nat)=>((s:Int),i)) (fun _ x s=>(.inl (s+x.length):Nat⊕Empty)) (fun (s:Nat)=>(s:Int)) noE (fun k s=>s≤1000000∧s=([a,b].take k).flatten.length) 0 ⟨by omega,rfl⟩ (fun k hk s hs=>⟨?_,fun s' h'=>?_⟩) (fun s _=>by simp only [fu,cT])).trans ?_
 ·have hb:s+([a,b][k]).length≤1000000:=by
   obtain ⟨_,e⟩:=hs
   match k,hk with
   | 0,_=>simp at e;subst e;simp;omega
   | 1,_=>simp at e;subst e;simp;omega
  simp only [lp hk,dn,bh hk,bI,dq hk (show [a,b].length≤4611686018427387904 by simp),xV]
  rw [cg (by omega) (by omega),cq (by omega)]
  simp only [cT,Int.natCast_add]
 ·injection h' with h'
  obtain ⟨h1,h2⟩:=hs
  subst h'
  match k,hk with
  | 0,_=>simp at h2 ⊢;subst h2;simp;omega
  | 1,_=>simp at h2 ⊢;subst h2;omega
 show Option.bind (Option.bind (zS 16 ((0+a.length+b.length:Nat):Int)) _) _=_
 rw [zV (by omega) (by omega),bI,bI]
 refine (dZ (l:=[a,b]) (by simp) (fun i (s:List ByteArray)=>(s,i)) (fun s x=>s++x) (fun s=>s) (fun k s=>s=([a,b].take k).flatten) [] rfl (fun k hk s hs=>⟨?_,?_⟩) (fun s _=>by simp only [fu,cT])).1.trans ?_
 ·have hb:s.length+([a,b][k]).length≤1000000:=by
   match k,hk with
   | 0,_=>simp at hs;subst hs;simp;omega
   | 1,_=>simp at hs;subst hs;simp;omega
  simp only [lp hk,dn,bh hk,bI,dq hk (show [a,b].length≤4611686018427387904 by simp)]
  rw [dy (by omega) (by omega)];rfl
 ·match k,hk with
  | 0,_=>simp at hs;subst hs;simp
  | 1,_=>simp at hs;subst hs;simp
 simp
theorem wi (a b:List ByteArray) (h:a.length+b.length≤1000000):gF a b=some (kp a b):=by
 unfold gF
 rw [concat2 a b h,bI]
 show Option.bind (some (iK ib (a++b))) _=_
 rw [bI,Ay _ (by rw [kL];simp;omega)];rfl
theorem yi (a b:List ByteArray) (h:a.length+b.length≤1000000):gC a b=some (kp a b):=by
 unfold gC
 have ha:=nP wh a [] List.Pairwise.nil
 refine (dZ (l:=a) (by omega) (fun i (s:List ByteArray)=>(s,i)) (iy ib) (fun s=>(b,s)) (fun k s=>Strict ib s∧s.length≤k) [] ⟨List.Pairwise.nil,by simp⟩ (fun k hk s hs=>⟨?_,ml wh.tot wh.tr hs.1,by have:=mn (lt:=ib) s a[k];omega⟩) (fun s _=>by simp only [fu,cT])).1.trans ?_
 ·simp only [lp hk,dn,bh hk,bI,dq hk (show a.length≤4611686018427387904 by omega)]
  rw [sv _ _ (by omega) hs.1];rfl
 dsimp only
 refine (dZ (l:=b) (by omega) (fun i (s:List ByteArray)=>(s,i)) (iy ib) (fun s=>s) (fun k s=>Strict ib s∧s.length≤a.length+k) (a.foldl (iy ib) []) ⟨ha.1,by have:=ha.2.2;simpa using this⟩ (fun k hk s hs=>⟨?_,ml wh.tot wh.tr hs.1,by have:=mn (lt:=ib) s b[k];omega⟩) (fun s _=>by simp only [fu,cT])).1.trans ?_
 ·simp only [lp hk,dn,bh hk,bI,dq hk (show b.length≤4611686018427387904 by omega)]
  rw [sv _ _ (by omega) hs.1];rfl
 unfold kp
 rw [← oO wh,List.foldl_append]
def U64 (a:Int):Prop:=0≤a∧a<18446744073709551616
theorem wu (a:Int):IntKind.u64.wrap a=a % 18446744073709551616:=rfl
theorem fp {a:Int} (h:U64 a):IntKind.u64.wrap a=a:=by rw [wu];unfold U64 at h;omega
theorem bv64 {a:Int} (h:U64 a):(BitVec.ofInt 64 a).toNat=a.toNat:=by
 rw [BitVec.toNat_ofInt];unfold U64 at h;omega
theorem xg {a b:Int} (ha:U64 a) (hb:U64 b):co .u64 a b=((a.toNat &&& b.toNat:Nat):Int):=by
 have hlt:a.toNat &&& b.toNat<18446744073709551616:=Nat.lt_of_le_of_lt Nat.and_le_left (by unfold U64 at ha;omega)
 have e:co .u64 a b=IntKind.u64.wrap (((BitVec.ofInt 64 a &&& BitVec.ofInt 64 b).toNat:Nat):Int):=rfl
 rw [e,BitVec.toNat_and,bv64 ha,bv64 hb,fp]
 exact ⟨by omega,by omega⟩
theorem AA {a b:Int} (ha:U64 a) (hb:U64 b):kQ .u64 a b=((a.toNat ||| b.toNat:Nat):Int):=by
 have hlt:a.toNat ||| b.toNat<2 ^ 64:=Nat.or_lt_two_pow (by unfold U64 at ha;omega) (by unfold U64 at hb;omega)
 have e:kQ .u64 a b=IntKind.u64.wrap (((BitVec.ofInt 64 a ||| BitVec.ofInt 64 b).toNat:Nat):Int):=rfl
 rw [e,BitVec.toNat_or,bv64 ha,bv64 hb,fp]
 exact ⟨by omega,by omega⟩
theorem mq {a:Int} (h:U64 a):co .u64 a 4294967295=a % 4294967296:=by
 rw [xg h ⟨by omega,by omega⟩]
 have:a.toNat &&& (4294967295:Int).toNat=a.toNat % 4294967296:=Nat.and_two_pow_sub_one_eq_mod (n:=32) a.toNat
 rw [this];unfold U64 at h;omega
theorem re {a:Int} (h:U64 a):co .u64 a 1=a % 2:=by
 rw [xg h ⟨by omega,by omega⟩]
 have:a.toNat &&& (1:Int).toNat=a.toNat % 2:=Nat.and_two_pow_sub_one_eq_mod (n:=1) a.toNat
 rw [this];unfold U64 at h;omega
theorem xh {a:Int}:bQ .u64 a 32=a / 4294967296:=Int.fdiv_eq_ediv_of_nonneg a (show (0:Int)≤4294967296 by omega)
theorem mul64 {a b:Int} (ha:U64 a) (hb:U64 b):∃ h l,fJ a b=some (h,l)∧U64 h∧U64 l∧h*18446744073709551616+l=a*b:=by
 unfold fJ lb
 rw [mq ha,mq hb]
 simp only [xh]
 unfold U64 at ha hb
 have ea:a=4294967296*(a / 4294967296)+a % 4294967296:=by omega
 have eb:b=4294967296*(b / 4294967296)+b % 4294967296:=by omega
 have h1:0≤a / 4294967296∧a / 4294967296<4294967296:=by omega
 have h2:0≤a % 4294967296∧a % 4294967296<4294967296:=by omega
 have h3:0≤b / 4294967296∧b / 4294967296<4294967296:=by omega
 have h4:0≤b % 4294967296∧b % 4294967296<4294967296:=by omega
 generalize a / 4294967296=x1 at *
 generalize a % 4294967296=x0 at *
 generalize b / 4294967296=y1 at *
 generalize b % 4294967296=y0 at *
 subst ea eb
 have p00:0≤x0*y0∧x0*y0≤4294967295*4294967295:=⟨Int.mul_nonneg h2.1 h4.1,Int.mul_le_mul (by omega) (by omega) h4.1 (by omega)⟩
 have p01:0≤x0*y1∧x0*y1≤4294967295*4294967295:=⟨Int.mul_nonneg h2.1 h3.1,Int.mul_le_mul (by omega) (by omega) h3.1 (by omega)⟩
 have p10:0≤x1*y0∧x1*y0≤4294967295*4294967295:=⟨Int.mul_nonneg h1.1 h4.1,Int.mul_le_mul (by omega) (by omega) h4.1 (by omega)⟩
 have p11:0≤x1*y1∧x1*y1≤4294967295*4294967295:=⟨Int.mul_nonneg h1.1 h3.1,Int.mul_le_mul (by omega) (by omega) h3.1 (by omega)⟩
 have e:(4294967296*x1+x0)*(4294967296*y1+y0)=18446744073709551616*(x1*y1)+4294967296*(x1*y0)+4294967296*(x0*y1)+x0*y0:=by
  rw [Int.add_mul,Int.mul_add,Int.mul_add]
  have t1:4294967296*x1*(4294967296*y1)=18446744073709551616*(x1*y1):=by
   rw [Int.mul_assoc,← Int.mul_assoc x1,Int.mul_comm x1 4294967296,Int.mul_assoc 4294967296 x1,← Int.mul_assoc];rfl
  have t2:4294967296*x1*y0=4294967296*(x1*y0):=Int.mul_assoc _ _ _
  have t3:x0*(4294967296*y1)=4294967296*(x0*y1):=by rw [← Int.mul_assoc,Int.mul_comm x0,Int.mul_assoc]
  rw [t1,t2,t3];omega
 rw [e]
 generalize x0*y0=p at *
 generalize x0*y1=q at *
 generalize x1*y0=r at *
 generalize x1*y1=s at *
 refine ⟨_,_,rfl,?_,?_,?_⟩
 all_goals simp only [wu,U64]
 all_goals first | omega | (rw [mq (by unfold U64;omega)];omega)
def rv (w:Zj):Int:=w.Hi*18446744073709551616+w.Lo
def RW (w:Zj):Prop:=U64 w.Hi∧U64 w.Lo
theorem px {p q:Zj} (hp:RW p) (hq:RW q):∃ w b,fh p q=some (w,b)∧RW w∧(rv p+rv q<340282366920938463463374607431768211456→rv w=rv p+rv q):=by
 obtain ⟨ph,pl⟩:=p;obtain ⟨qh,ql⟩:=q
 obtain ⟨⟨a1,a2⟩,⟨a3,a4⟩⟩:=hp
 obtain ⟨⟨b1,b2⟩,⟨b3,b4⟩⟩:=hq
 simp only at a1 a2 a3 a4 b1 b2 b3 b4
 unfold fh lb
 dsimp only
 by_cases h:IntKind.u64.wrap (pl+ql)<pl
 ·rw [det h]
  simp only [dn,bI]
  refine ⟨_,_,rfl,?_,?_⟩
  ·simp only [RW,U64,wu];omega
  rw [wu] at h;simp only [rv,wu];omega
 rw [cq h]
 simp only [cT,bI]
 refine ⟨_,_,rfl,?_,?_⟩
 ·simp only [RW,U64,wu];omega
 rw [wu] at h;simp only [rv,wu];omega
theorem lA {a n:Int} (h:n.toNat≤64):bQ .u64 a n=a / 2 ^ n.toNat:=by
 have e:bQ .u64 a n=a.fdiv (2 ^ min n.toNat 64):=rfl
 rw [e,Nat.min_eq_left h]
 exact Int.fdiv_eq_ediv_of_nonneg a (Int.le_of_lt (Int.pow_pos (by omega)))
theorem sw (b:Int) (k:Nat):b / 2 ^ k=2*(b / 2 ^ (k+1))+b / 2 ^ k % 2:=by
 have:b / 2 ^ (k+1)=b / 2 ^ k / 2:=by rw [Int.pow_succ,Int.ediv_ediv_of_nonneg (Int.le_of_lt (Int.pow_pos (by omega)))]
 rw [this];omega
theorem ref_mul {a b:Int} (ha:U64 a) (hb:U64 b):∃ w,kK a b=some w∧RW w∧rv w=a*b:=by
 unfold kK
 obtain ⟨t,h5,h6⟩:=kM (body:=fun (v3,v4,v5)=>cond (decide (0≤v3)) (Option.bind (Option.bind (fh (⟨v4,v5⟩:Zj) (⟨v4,v5⟩:Zj)) (fun x14=>Option.bind (i5 v3) (fun u15=>cond ((co .u64 (bQ .u64 b v3) 1) == 1) (Option.bind (fh x14.1 (⟨0,a⟩:Zj)) (fun x17=>some (x17.1.Hi,x17.1.Lo))) (some (x14.1.Hi,x14.1.Lo))))) (fun (v11,v12)=>some (.inl ((IntKind.i64.wrap (v3 - 1)),v11,v12)))) (some (.inr (v4,v5))))
  (fun s:Int×Int×Int => -1≤s.1∧s.1≤63∧RW ⟨s.2.1,s.2.2⟩∧rv ⟨s.2.1,s.2.2⟩=a*(b / 2 ^ (s.1+1).toNat)) (fun s=>(s.1+1).toNat) (fun t:Int×Int=>RW ⟨t.1,t.2⟩∧rv ⟨t.1,t.2⟩=a*b)
  (fun s hs=>by
   obtain ⟨v,x,y⟩:=s
   obtain ⟨a1,a2,a3,a4⟩:=hs
   dsimp only at a1 a2 a3 a4 ⊢
   by_cases h0:0≤v
   ·left
    obtain ⟨k,rfl⟩:∃ k:Nat,v=(k:Int):=⟨v.toNat,by omega⟩
    have ek:((k:Int)+1).toNat=k+1:=by omega
    rw [ek] at a4
    have hs:=sw b k
    have hbk:0≤b / 2 ^ k:=Int.ediv_nonneg hb.1 (Int.le_of_lt (Int.pow_pos (by omega)))
    have hbk2:b / 2 ^ k≤b:=Int.ediv_le_self _ hb.1
    have hm:a*(b / 2 ^ k)=2*(a*(b / 2 ^ (k+1)))+a*(b / 2 ^ k % 2):=by
     have:=congrArg (a * ·) hs
     simp only [Int.mul_add] at this
     rw [this,← Int.mul_assoc,Int.mul_comm a 2,Int.mul_assoc]
    have hle:a*(b / 2 ^ k)≤18446744073709551615*18446744073709551615:=Int.mul_le_mul (by unfold U64 at ha;omega) (by unfold U64 at hb;omega) hbk (by omega)
    have hnn:0≤a*(b / 2 ^ k % 2):=Int.mul_nonneg ha.1 (by omega)
    rw [det h0]
    simp only [dn]
    obtain ⟨w,o,c1,c2,c3⟩:=px a3 a3
    have c3:=c3 (by omega)
    rw [nT c1]
    have hg:i5 (k:Int)=some ():=by unfold i5;rw [if_pos h0]
    rw [nT hg,lA (by omega),Int.toNat_natCast,re ⟨hbk,by unfold U64 at hb;omega⟩,cg (by omega) (by omega)]
    rcases (by omega:b / 2 ^ k % 2=0∨b / 2 ^ k % 2=1) with e | e
    ·rw [e] at hm ⊢
     refine ⟨_,rfl,⟨by dsimp only;omega,by dsimp only;omega,c2,?_⟩,by dsimp only;omega⟩
     have:((k:Int) - 1+1).toNat=k:=by omega
     dsimp only;rw [this,hm];show rv w=_;omega
    rw [e] at hm ⊢
    obtain ⟨w2,o2,d1,d2,d3⟩:=px (p:=w) (q:=⟨0,a⟩) c2 ⟨⟨by simp,by simp⟩,ha⟩
    have e0:rv ⟨0,a⟩=a:=by simp [rv]
    rw [e0] at d3
    have d3:=d3 (by omega)
    simp only [beq_self_eq_true,dn]
    rw [nT d1]
    refine ⟨_,rfl,⟨by dsimp only;omega,by dsimp only;omega,d2,?_⟩,by dsimp only;omega⟩
    have:((k:Int) - 1+1).toNat=k:=by omega
    dsimp only;rw [this,hm];show rv w2=_;omega
   right
   rw [cq h0]
   have:v = -1:=by omega
   subst this
   refine ⟨_,rfl,a3,?_⟩
   rw [a4];simp)
  FUEL (63,0,0) ⟨by simp,by simp,⟨⟨by simp,by simp⟩,⟨by simp,by simp⟩⟩,by
   have:b / 18446744073709551616=0:=Int.ediv_eq_zero_of_lt hb.1 hb.2
   simp [rv,this]⟩ (iM (by simp))
 obtain ⟨t1,t2⟩:=t
 rw [nT h5]
 exact ⟨_,rfl,h6.1,h6.2⟩
theorem iand63:∀ {n:Nat},n<128→co .i64 (n:Int) 63=((n % 64:Nat):Int):=by decide
theorem AB {a:Int} (h:U64 a):dT .u64 a 1=(2*a) % 18446744073709551616:=by
 have e:dT .u64 a 1=IntKind.u64.wrap (a*2):=rfl
 rw [e,wu,Int.mul_comm]
theorem xi {a b:Int} (ha:U64 a) (h2:a % 2=0) (hb:b=0∨b=1):kQ .u64 a b=a+b:=by
 rw [AA ha (by rcases hb with rfl | rfl <;> exact ⟨by omega,by omega⟩)]
 unfold U64 at ha
 rcases hb with rfl | rfl
 ·simp;omega
 have:a.toNat ||| (1:Int).toNat=a.toNat+1:=by
  have e:a.toNat=2 ^ 1*(a.toNat / 2):=by omega
  have:=Nat.two_pow_add_eq_or_of_lt (i:=1) (b:=1) (by omega) (a.toNat / 2)
  rw [← e] at this
  exact this.symm
 rw [this];omega
theorem bit_lo {h l:Int} (hl:U64 l) {k:Nat} (hk:k<64):(h*18446744073709551616+l) / 2 ^ k % 2=l / 2 ^ k % 2:=by
 have e:(18446744073709551616:Int)=2 ^ k*(2*2 ^ (63 - k)):=by
  have:(2:Int) ^ k*(2*2 ^ (63 - k))=2 ^ (k+(1+(63 - k))):=by rw [Int.pow_add,Int.pow_add];rfl
  rw [this,show k+(1+(63 - k))=64 by omega];rfl
 have hp:(2:Int) ^ k≠0:=Int.ne_of_gt (Int.pow_pos (by omega))
 rw [e,show h*(2 ^ k*(2*2 ^ (63 - k)))+l=l+2 ^ k*(2*(h*2 ^ (63 - k))) by rw [Int.add_comm,Int.mul_left_comm h,Int.mul_left_comm h 2],Int.add_mul_ediv_left _ _ hp,Int.add_mul_emod_self_left]
theorem bit_hi {h l:Int} (hl:U64 l) {k:Nat} (hk:64≤k):(h*18446744073709551616+l) / 2 ^ k=h / 2 ^ (k - 64):=by
 have e:(2:Int) ^ k=18446744073709551616*2 ^ (k - 64):=by
  have:(18446744073709551616:Int)*2 ^ (k - 64)=2 ^ (64+(k - 64)):=by rw [Int.pow_add];rfl
  rw [this,show 64+(k - 64)=k by omega]
 rw [e,← Int.ediv_ediv_of_nonneg (by omega)]
 congr 1
 unfold U64 at hl;omega
theorem wj {p:Zj} {d:Int} (hp:RW p) (hd:U64 d) (h1:1≤d):∃ q r,gV p d=some (q,r)∧RW q∧rv q=rv p / d∧r=rv p % d:=by
 have hN:0≤rv p∧rv p<340282366920938463463374607431768211456:=by obtain ⟨⟨a,b⟩,⟨c,e⟩⟩:=hp;unfold rv;omega
 unfold gV
 obtain ⟨t,h5,h6⟩:=kM (body:=fun (v4,v5,v6,v7)=>cond (decide (0≤v5)) (Option.bind (Option.bind (i5 (co .i64 v5 63)) (fun u18=>lb ((co .u64 (bQ .u64 p.Lo (co .i64 v5 63)) 1)) (fun w19=>Option.bind (cond (decide (63<v5)) (Option.bind (i5 (IntKind.i64.wrap (v5 - 64))) (fun u23=>lb ((co .u64 (bQ .u64 p.Hi (IntKind.i64.wrap (v5 - 64))) 1)) (fun w24=>some w24))) (some w19)) (fun v20=>Option.bind (fh (⟨v6,v7⟩:Zj) (⟨v6,v7⟩:Zj)) (fun x25=>cond (((bQ .u64 v4 63) == 1)||(decide (d≤(kQ .u64 (dT .u64 v4 1) v20)))) (lb ((IntKind.u64.wrap ((kQ .u64 (dT .u64 v4 1) v20) - d))) (fun w27=>some (w27,x25.1.Hi,(kQ .u64 x25.1.Lo 1)))) (some ((kQ .u64 (dT .u64 v4 1) v20),x25.1.Hi,x25.1.Lo))))))) (fun (v14,v15,v16)=>some (.inl (v14,(IntKind.i64.wrap (v5 - 1)),v15,v16)))) (some (.inr (v4,v6,v7))))
  (fun s:Int×Int×Int×Int => -1≤s.2.1∧s.2.1≤127∧RW ⟨s.2.2.1,s.2.2.2⟩∧0≤s.1∧s.1<d∧rv p / 2 ^ (s.2.1+1).toNat=rv ⟨s.2.2.1,s.2.2.2⟩ * d+s.1) (fun s=>(s.2.1+1).toNat) (fun t:Int×Int×Int=>RW ⟨t.2.1,t.2.2⟩∧0≤t.1∧t.1<d∧rv p=rv ⟨t.2.1,t.2.2⟩ * d+t.1)
  (fun s hs=>by
   obtain ⟨v4,v5,x,y⟩:=s
   obtain ⟨a1,a2,a3,a4,a5,a6⟩:=hs
   dsimp only at a1 a2 a3 a4 a5 a6 ⊢
   by_cases h0:0≤v5
   ·left
    obtain ⟨k,rfl⟩:∃ k:Nat,v5=(k:Int):=⟨v5.toNat,by omega⟩
    have ek:((k:Int)+1).toNat=k+1:=by omega
    rw [ek] at a6
    have hs:=sw (rv p) k
    generalize hbit:rv p / 2 ^ k % 2=bit at hs
    have hb01:bit=0∨bit=1:=by omega
    rw [det h0,iand63 (by omega)]
    simp only [dn]
    have hg:i5 ((k % 64:Nat):Int)=some ():=by unfold i5;rw [if_pos (by omega)]
    rw [nT hg]
    unfold lb
    have hv:(cond (decide (63<(k:Int))) (Option.bind (i5 (IntKind.i64.wrap ((k:Int) - 64))) (fun _=>some (co .u64 (bQ .u64 p.Hi (IntKind.i64.wrap ((k:Int) - 64))) 1))) (some (co .u64 (bQ .u64 p.Lo ((k % 64:Nat):Int)) 1)))=some bit:=by
     by_cases hk:63<(k:Int)
     ·rw [det hk,cg (by omega) (by omega)]
      have hg2:i5 ((k:Int) - 64)=some ():=by unfold i5;rw [if_pos (by omega)]
      simp only [dn]
      rw [nT hg2,lA (by omega),show ((k:Int) - 64).toNat=k - 64 by omega,re ⟨Int.ediv_nonneg hp.1.1 (Int.le_of_lt (Int.pow_pos (by omega))),Int.lt_of_le_of_lt (Int.ediv_le_self _ hp.1.1) hp.1.2⟩,← hbit]
      unfold rv;rw [bit_hi hp.2 (by omega)]
     rw [cq hk]
     simp only [cT]
     rw [lA (by omega),Int.toNat_natCast,Nat.mod_eq_of_lt (by omega),re ⟨Int.ediv_nonneg hp.2.1 (Int.le_of_lt (Int.pow_pos (by omega))),Int.lt_of_le_of_lt (Int.ediv_le_self _ hp.2.1) hp.2.2⟩,← hbit]
     unfold rv;rw [bit_lo hp.2 (by omega)]
    dsimp only
    rw [nT hv]
    obtain ⟨w,o,c1,c2,c3⟩:=px a3 a3
    have hq0:0≤rv ⟨x,y⟩:=by obtain ⟨⟨b1,b2⟩,⟨b3,b4⟩⟩:=a3;unfold rv;dsimp only at *;omega
    have hqd:rv ⟨x,y⟩≤rv ⟨x,y⟩ * d:=by have:=Int.mul_le_mul_of_nonneg_left h1 hq0;omega
    have hle:rv p / 2 ^ k≤rv p:=Int.ediv_le_self _ hN.1
    have c3:=c3 (by omega)
    rw [nT c1]
    have hu4:U64 v4:=⟨a4,by unfold U64 at hd;omega⟩
    have hsh:bQ .u64 v4 63=v4 / 9223372036854775808:=lA (by omega)
    have hlow:kQ .u64 (dT .u64 v4 1) bit=(2*v4) % 18446744073709551616+bit:=by rw [AB hu4];exact xi ⟨by omega,by omega⟩ (by omega) hb01
    rw [hlow,hsh,cg (by omega) (by omega)]
    have ekk:((k:Int) - 1+1).toNat=k:=by omega
    unfold U64 at hd hu4
    by_cases hT:d≤2*v4+bit
    ·have hc:((v4 / 9223372036854775808 == 1)||decide (d≤(2*v4) % 18446744073709551616+bit))=true:=by
      simp only [Bool.or_eq_true,beq_iff_eq,decide_eq_true_eq];omega
     rw [hc]
     simp only [dn]
     obtain ⟨⟨e1,e2⟩,⟨e3,e4⟩⟩:=c2
     have hev:w.Lo % 2=0:=by unfold rv at c3;dsimp only at c3;omega
     rw [xi ⟨e3,e4⟩ hev (.inr rfl),wu]
     refine ⟨_,rfl,⟨by dsimp only;omega,by dsimp only;omega,⟨⟨e1,e2⟩,⟨by dsimp only;omega,by dsimp only;omega⟩⟩,by dsimp only;omega,by dsimp only;omega,?_⟩,by dsimp only;omega⟩
     dsimp only
     rw [ekk,hs,a6]
     have e5:rv ⟨w.Hi,w.Lo+1⟩=2*rv ⟨x,y⟩+1:=by unfold rv at c3 ⊢;dsimp only at c3 ⊢;omega
     rw [e5,Int.add_mul,Int.mul_assoc];omega
    ·have hc:((v4 / 9223372036854775808 == 1)||decide (d≤(2*v4) % 18446744073709551616+bit))=false:=by
      simp only [Bool.or_eq_false_iff,beq_eq_false_iff_ne,decide_eq_false_iff_not];omega
     rw [hc]
     simp only [cT]
     refine ⟨_,rfl,⟨by dsimp only;omega,by dsimp only;omega,c2,by dsimp only;omega,by dsimp only;omega,?_⟩,by dsimp only;omega⟩
     dsimp only
     rw [ekk,hs,a6,show rv ⟨w.Hi,w.Lo⟩=2*rv ⟨x,y⟩ by show rv w=_;omega,Int.mul_assoc];omega
   right
   rw [cq h0]
   have:v5 = -1:=by omega
   subst this
   refine ⟨_,rfl,a3,a4,a5,?_⟩
   rw [← a6];simp)
  FUEL (0,127,0,0) ⟨by simp,by simp,⟨⟨by simp,by simp⟩,⟨by simp,by simp⟩⟩,by simp,by simp;omega,by
   have:rv p / 340282366920938463463374607431768211456=0:=Int.ediv_eq_zero_of_lt hN.1 hN.2
   simp [rv] at this ⊢;exact this⟩ (iM (by simp))
 obtain ⟨t1,t2,t3⟩:=t
 rw [nT h5]
 obtain ⟨g1,g2,g3,g4⟩:=h6
 dsimp only at g1 g2 g3 g4
 have gd:rv p / d=rv ⟨t2,t3⟩:=by
  rw [g4,Int.add_comm,Int.add_mul_ediv_right _ _ (by omega),Int.ediv_eq_zero_of_lt g2 g3,Int.zero_add]
 refine ⟨_,_,rfl,g1,gd.symm,?_⟩
 have:=Int.emod_add_mul_ediv (rv p) d
 rw [gd,Int.mul_comm] at this
 omega
structure KnInv (u u1 y1 y0 q rh:Int):Prop where
 eq:u=q*y1+rh
 r0:0≤rh
 r1:rh<4294967296
 q0:0≤q
 q1:q≤4294967297
 up:u*4294967296+u1<q*(y1*4294967296+y0)+(y1*4294967296+y0)
section
variable {u u1 y1 y0 q rh:Int} (hu:0≤u) (huy:u<y1*4294967296+y0) (h1:0≤u1) (h1':u1<4294967296) (hy:2147483648≤y1) (hy':y1<4294967296) (hz:0≤y0) (hz':y0<4294967296)
include hu huy h1 h1' hy hy' hz hz'
theorem nR:KnInv u u1 y1 y0 (u / y1) (u % y1):=by
 have hq0:0≤u / y1:=Int.ediv_nonneg hu (by omega)
 have hr0:=Int.emod_nonneg u (show y1≠0 by omega)
 have hr1:=Int.emod_lt_of_pos u (show 0<y1 by omega)
 have he:=Int.emod_add_mul_ediv u y1
 rw [Int.mul_comm] at he
 have hz2:0≤u / y1*y0:=Int.mul_nonneg hq0 hz
 refine ⟨by omega,hr0,by omega,hq0,?_,?_⟩
 ·apply Int.le_of_lt_add_one
  apply Int.ediv_lt_of_lt_mul (by omega)
  omega
 rw [Int.mul_add,← Int.mul_assoc];omega
theorem py (i:KnInv u u1 y1 y0 q rh) (h:4294967296≤q∨4294967296*rh+u1<q*y0):u*4294967296+u1<q*(y1*4294967296+y0)∧1≤q:=by
 have e:=i.eq
 have hlt:u*4294967296+u1<q*(y1*4294967296+y0):=by
  rcases h with h | h
  ·have:4294967296*(y1*4294967296+y0)≤q*(y1*4294967296+y0):=Int.mul_le_mul_of_nonneg_right h (by omega)
   omega
  rw [Int.mul_add,← Int.mul_assoc];omega
 refine ⟨hlt,?_⟩
 have hq:=i.q0
 by_cases hq0:q=0
 ·subst hq0;rw [Int.zero_mul] at hlt;omega
 omega
theorem xj (i:KnInv u u1 y1 y0 q rh) (h:4294967296≤q∨4294967296*rh+u1<q*y0) (h2:rh+y1<4294967296):KnInv u u1 y1 y0 (q - 1) (rh+y1):=by
 obtain ⟨hlt,hq⟩:=py hu huy h1 h1' hy hy' hz hz' i h
 have:=i.eq;have:=i.r0;have:=i.q1
 refine ⟨by rw [Int.sub_mul];omega,by omega,h2,by omega,by omega,?_⟩
 rw [Int.sub_mul];omega
theorem xk (i:KnInv u u1 y1 y0 q rh) (h:4294967296≤q∨4294967296*rh+u1<q*y0) (h2:4294967296≤rh+y1):(q - 1)*(y1*4294967296+y0)≤u*4294967296+u1∧u*4294967296+u1<(q - 1)*(y1*4294967296+y0)+(y1*4294967296+y0):=by
 obtain ⟨hlt,hq⟩:=py hu huy h1 h1' hy hy' hz hz' i h
 have e:=i.eq;have:=i.r0;have hq1:=i.q1
 refine ⟨?_,by rw [Int.sub_mul];omega⟩
 have hz2:(q - 1)*y0≤4294967296*4294967295:=Int.mul_le_mul (by omega) (by omega) hz (by omega)
 rw [Int.mul_add,← Int.mul_assoc]
 rw [Int.sub_mul q 1 y1]
 omega
omit hu huy h1 h1' hy hy' hz hz' in
theorem vd (i:KnInv u u1 y1 y0 q rh) (h:¬ (4294967296≤q∨4294967296*rh+u1<q*y0)):q*(y1*4294967296+y0)≤u*4294967296+u1:=by
 have e:=i.eq
 rw [Int.mul_add,← Int.mul_assoc];omega
end
section
variable {u u1 y1 y0:Int} (hu:0≤u) (huy:u<y1*4294967296+y0) (h1:0≤u1) (h1':u1<4294967296) (hy:2147483648≤y1) (hy':y1<4294967296) (hz:0≤y0) (hz':y0<4294967296)
include hu huy h1 h1' hy hy' hz hz'
omit hu huy hy hy' in
theorem xl {q rh:Int} (i:KnInv u u1 y1 y0 q rh):((decide (4294967296≤q))||(decide ((IntKind.u64.wrap ((IntKind.u64.wrap (4294967296*rh))+u1))<(IntKind.u64.wrap (q*y0)))))=decide (4294967296≤q∨4294967296*rh+u1<q*y0):=by
 have:=i.r0;have:=i.r1;have:=i.q0
 rw [fp (a:=4294967296*rh) ⟨by omega,by omega⟩,fp (a:=4294967296*rh+u1) ⟨by omega,by omega⟩]
 by_cases hq:4294967296≤q
 ·rw [det hq,det (Or.inl hq)];rfl
 have hp:q*y0≤4294967295*4294967295:=Int.mul_le_mul (by omega) (by omega) hz (by omega)
 have hp0:0≤q*y0:=Int.mul_nonneg (by omega) hz
 rw [fp (a:=q*y0) ⟨hp0,by omega⟩,cq hq,Bool.false_or]
 congr 1
 exact propext ⟨.inr,fun h=>h.resolve_left hq⟩
omit hy hy' hz hz' in
theorem tI {q:Int} (h0:0≤q) (h2:q*(y1*4294967296+y0)≤u*4294967296+u1):q<4294967296:=by
 have:q*(y1*4294967296+y0)<4294967296*(y1*4294967296+y0):=by omega
 exact Int.lt_of_mul_lt_mul_right this (by omega)
def KQ (u u1 y1 y0 q:Int):Prop:=0≤q∧q<4294967296∧q*(y1*4294967296+y0)≤u*4294967296+u1∧u*4294967296+u1<q*(y1*4294967296+y0)+(y1*4294967296+y0)
theorem AC:∃ q,bf (S:=Int×Int) (T:=(Int)) (fun (v18,v19)=>cond ((decide (4294967296≤v18))||(decide ((IntKind.u64.wrap ((IntKind.u64.wrap (4294967296*v19))+u1))<(IntKind.u64.wrap (v18*y0))))) (cond (decide (4294967296≤(IntKind.u64.wrap (v19+y1)))) (some (.inr (IntKind.u64.wrap (v18 - 1)))) (some (.inl ((IntKind.u64.wrap (v18 - 1)),(IntKind.u64.wrap (v19+y1)))))) (some (.inr v18))) FUEL (u / y1,u % y1)=some q∧KQ u u1 y1 y0 q:=by
 refine kM (fun s:Int×Int=>KnInv u u1 y1 y0 s.1 s.2) (fun s=>s.1.toNat) (KQ u u1 y1 y0) ?_ FUEL _ (nR hu huy h1 h1' hy hy' hz hz') ?_
 ·rintro ⟨q,rh⟩ i
  dsimp only at i ⊢
  rw [xl h1 h1' hz hz' i]
  have i0:=i.r0;have i1:=i.r1;have i2:=i.q0;have i3:=i.q1
  by_cases h:4294967296≤q∨4294967296*rh+u1<q*y0
  ·rw [det h]
   obtain ⟨_,hq1⟩:=py hu huy h1 h1' hy hy' hz hz' i h
   rw [fp (a:=rh+y1) ⟨by omega,by omega⟩,fp (a:=q - 1) ⟨by omega,by omega⟩]
   by_cases h2:4294967296≤rh+y1
   ·rw [det h2];right
    obtain ⟨e1,e2⟩:=xk hu huy h1 h1' hy hy' hz hz' i h h2
    exact ⟨_,rfl,by omega,tI hu huy h1 h1' (by omega) e1,e1,e2⟩
   rw [cq h2];left
   exact ⟨_,rfl,xj hu huy h1 h1' hy hy' hz hz' i h (by omega),by dsimp only;omega⟩
  rw [cq h];right
  have e1:=vd i h
  exact ⟨_,rfl,i2,tI hu huy h1 h1' i2 e1,e1,i.up⟩
 have:=(nR hu huy h1 h1' hy hy' hz hz').q1
 exact iM (by dsimp only;omega)
theorem AD:∃ q,bf (S:=Int×Int) (T:=(Int)) (fun (v28,v29)=>cond ((decide (4294967296≤v29))||(decide ((IntKind.u64.wrap ((IntKind.u64.wrap (4294967296*v28))+u1))<(IntKind.u64.wrap (v29*y0))))) (cond (decide (4294967296≤(IntKind.u64.wrap (v28+y1)))) (some (.inr (IntKind.u64.wrap (v29 - 1)))) (some (.inl ((IntKind.u64.wrap (v28+y1)),(IntKind.u64.wrap (v29 - 1)))))) (some (.inr v29))) FUEL (u % y1,u / y1)=some q∧KQ u u1 y1 y0 q:=by
 refine kM (fun s:Int×Int=>KnInv u u1 y1 y0 s.2 s.1) (fun s=>s.2.toNat) (KQ u u1 y1 y0) ?_ FUEL _ (nR hu huy h1 h1' hy hy' hz hz') ?_
 ·rintro ⟨rh,q⟩ i
  dsimp only at i ⊢
  rw [xl h1 h1' hz hz' i]
  have i0:=i.r0;have i1:=i.r1;have i2:=i.q0;have i3:=i.q1
  by_cases h:4294967296≤q∨4294967296*rh+u1<q*y0
  ·rw [det h]
   obtain ⟨_,hq1⟩:=py hu huy h1 h1' hy hy' hz hz' i h
   rw [fp (a:=rh+y1) ⟨by omega,by omega⟩,fp (a:=q - 1) ⟨by omega,by omega⟩]
   by_cases h2:4294967296≤rh+y1
   ·rw [det h2];right
    obtain ⟨e1,e2⟩:=xk hu huy h1 h1' hy hy' hz hz' i h h2
    exact ⟨_,rfl,by omega,tI hu huy h1 h1' (by omega) e1,e1,e2⟩
   rw [cq h2];left
   exact ⟨_,rfl,xj hu huy h1 h1' hy hy' hz hz' i h (by omega),by dsimp only;omega⟩
  rw [cq h];right
  have e1:=vd i h
  exact ⟨_,rfl,i2,tI hu huy h1 h1' i2 e1,e1,i.up⟩
 have:=(nR hu huy h1 h1' hy hy' hz hz').q1
 exact iM (by dsimp only;omega)
end
theorem yj {a v:Int} {k n:Nat} (h:v=a / 2 ^ k) (hn:1≤n) (l:2 ^ (n - 1)≤v) (g:v<2 ^ n):2 ^ (k+n - 1)≤a∧a<2 ^ (k+n):=by
 have hp:(0:Int)<2 ^ k:=Int.pow_pos (by omega)
 have e1:=Int.ediv_mul_le a (Int.ne_of_gt hp)
 have e2:=Int.lt_ediv_add_one_mul_self a hp
 rw [← h] at e1 e2
 constructor
 ·rw [show k+n - 1=(n - 1)+k by omega,Int.pow_add]
  exact Int.le_trans (Int.mul_le_mul_of_nonneg_right l (Int.le_of_lt hp)) e1
 rw [show k+n=n+k by omega,Int.pow_add]
 exact Int.lt_of_lt_of_le e2 (Int.mul_le_mul_of_nonneg_right (by omega) (Int.le_of_lt hp))
def wk:ByteArray:=⟨#[0,1,2,2,3,3,3,3,4,4,4,4,4,4,4,4,5,5,5,5,5,5,5,5,5,5,5,5,5,5,5,5,6,6,6,6,6,6,6,6,6,6,6,6,6,6,6,6,6,6,6,6,6,6,6,6,6,6,6,6,6,6,6,6,7,7,7,7,7,7,7,7,7,7,7,7,7,7,7,7,7,7,7,7,7,7,7,7,7,7,7,7,7,7,7,7,7,7,7,7,7,7,7,7,7,7,7,7,7,7,7,7,7,7,7,7,7,7,7,7,7,7,7,7,7,7,7,7,8,8,8,8,8,8,8,8,8,8,8,8,8,8,8,8,8,8,8,8,8,8,8,8,8,8,8,8,8,8,8,8,8,8,8,8,8,8,8,8,8,8,8,8,8,8,8,8,8,8,8,8,8,8,8,8,8,8,8,8,8,8,8,8,8,8,8,8,8,8,8,8,8,8,8,8,8,8,8,8,8,8,8,8,8,8,8,8,8,8,8,8,8,8,8,8,8,8,8,8,8,8,8,8,8,8,8,8,8,8,8,8,8,8,8,8,8,8,8,8,8,8,8,8,8,8,8,8]⟩
theorem wl:∀ v:Fin 256,(match idx wk.data.toList (v.val:Int) with | some c=>decide (1≤v.val→1≤c.toNat∧2 ^ (c.toNat - 1)≤v.val)&&decide (v.val<2 ^ c.toNat)&&decide (c.toNat≤8) | none=>false)=true:=by decide
theorem yk {v:Int} (h0:0≤v) (h1:v<256):∃ c,idx wk.data.toList v=some c∧(1≤v→1≤c.toNat∧2 ^ (c.toNat - 1)≤v)∧v<2 ^ c.toNat∧c.toNat≤8:=by
 obtain ⟨k,rfl⟩:∃ k:Nat,v=(k:Int):=⟨v.toNat,by omega⟩
 have:=wl ⟨k,by omega⟩
 split at this
 ·rename_i c hc
  simp only [Bool.and_eq_true,decide_eq_true_eq] at this
  obtain ⟨⟨a,b⟩,d⟩:=this
  refine ⟨c,hc,fun h=>⟨(a (by omega)).1,?_⟩,?_,d⟩
  ·have:=(a (by omega)).2;exact_mod_cast this
  exact_mod_cast b
 cases this
theorem len64 {a:Int} (ha:U64 a) (h1:1≤a):∃ n:Nat,eD a=some (n:Int)∧1≤n∧n≤64∧2 ^ (n - 1)≤a∧a<2 ^ n:=by
 have key:∃ (k:Nat) (v:Int),k≤56∧v=a / 2 ^ k∧1≤v∧v<256∧eD a=Option.bind (idx wk.data.toList (IntKind.u8.wrap v)) (fun c13=>lb ((IntKind.i64.wrap ((k:Int)+(IntKind.i64.wrap (c13.toNat:Int))))) (fun w14=>some w14)):=by
  unfold U64 at ha
  have s32:∀ x:Int,bQ .u64 x 32=x / 4294967296:=fun x=>lA (by decide)
  have s16:∀ x:Int,bQ .u64 x 16=x / 65536:=fun x=>lA (by decide)
  have s8:∀ x:Int,bQ .u64 x 8=x / 256:=fun x=>lA (by decide)
  unfold eD
  simp only [s32,s16,s8]
  by_cases c1:4294967296≤a
  ·rw [det c1]
   simp only [dn,bI]
   by_cases c2:65536≤a / 4294967296
   ·rw [det c2]
    simp only [dn,bI]
    by_cases c3:256≤a / 4294967296 / 65536
    ·rw [det c3]
     exact ⟨56,a / 4294967296 / 65536 / 256,by omega,by simp only [Int.reducePow];omega,by omega,by omega,rfl⟩
    rw [cq c3]
    exact ⟨48,a / 4294967296 / 65536,by omega,by simp only [Int.reducePow];omega,by omega,by omega,rfl⟩
   rw [cq c2]
   simp only [cT,bI]
   by_cases c3:256≤a / 4294967296
   ·rw [det c3]
    exact ⟨40,a / 4294967296 / 256,by omega,by simp only [Int.reducePow];omega,by omega,by omega,rfl⟩
   rw [cq c3]
   exact ⟨32,a / 4294967296,by omega,by simp only [Int.reducePow],by omega,by omega,rfl⟩
  rw [cq c1]
  simp only [cT,bI]
  by_cases c2:65536≤a
  ·rw [det c2]
   simp only [dn,bI]
   by_cases c3:256≤a / 65536
   ·rw [det c3]
    exact ⟨24,a / 65536 / 256,by omega,by simp only [Int.reducePow];omega,by omega,by omega,rfl⟩
   rw [cq c3]
   exact ⟨16,a / 65536,by omega,by simp only [Int.reducePow],by omega,by omega,rfl⟩
  rw [cq c2]
  simp only [cT,bI]
  by_cases c3:256≤a
  ·rw [det c3]
   exact ⟨8,a / 256,by omega,by simp only [Int.reducePow],by omega,by omega,rfl⟩
  rw [cq c3]
  exact ⟨0,a,by omega,by simp,by omega,by omega,rfl⟩
 obtain ⟨k,v,k1,k2,k3,k4,k5⟩:=key
 obtain ⟨c,c1,c2,c3,c4⟩:=yk (v:=v) (by omega) k4
 obtain ⟨c5,c6⟩:=c2 k3
 obtain ⟨l1,l2⟩:=yj k2 c5 c6 c3
 rw [k5,sP (by omega),nT c1]
 unfold lb
 rw [cg (r:=(c.toNat:Int)) (by omega) (by omega),cg (by omega) (by omega)]
 exact ⟨k+c.toNat,by simp,by omega,by omega,l1,l2⟩
theorem lz64 {a:Int} (ha:U64 a) (h1:1≤a):∃ s:Nat,cx a=some (s:Int)∧s≤63∧9223372036854775808≤a*2 ^ s∧a*2 ^ s<18446744073709551616:=by
 obtain ⟨n,e1,e2,e3,e4,e5⟩:=len64 ha h1
 unfold cx
 rw [nT e1,cg (by omega) (by omega)]
 refine ⟨64 - n,by congr 1;omega,by omega,?_,?_⟩
 ·have:=Int.mul_le_mul_of_nonneg_right e4 (Int.le_of_lt (show (0:Int)<2 ^ (64 - n) from Int.pow_pos (by decide)))
  rw [← Int.pow_add,show n - 1+(64 - n)=63 by omega] at this
  exact this
 have:=Int.mul_lt_mul_of_pos_right e5 (show (0:Int)<2 ^ (64 - n) from Int.pow_pos (by decide))
 rw [← Int.pow_add,show n+(64 - n)=64 by omega] at this
 exact this
theorem AE {b:Int} (h:0≤b):i5 b=some ():=by unfold i5;rw [if_pos h]
theorem wm {a:Int} {s:Nat} (h:s≤64):dT .u64 a (s:Int)=IntKind.u64.wrap (a*2 ^ s):=by
 have e:dT .u64 a (s:Int)=IntKind.u64.wrap (a*2 ^ min (s:Int).toNat 64):=rfl
 rw [e,Int.toNat_natCast,Nat.min_eq_left h]
theorem ior_sh {h b:Int} {s:Nat} (hh:0≤h) (hb:0≤b) (hb2:b<2 ^ s) (h1:U64 (h*2 ^ s)) (h2:U64 b):kQ .u64 (h*2 ^ s) b=h*2 ^ s+b:=by
 rw [AA h1 h2]
 obtain ⟨x,rfl⟩:∃ k:Nat,h=(k:Int):=⟨h.toNat,by omega⟩
 obtain ⟨z,rfl⟩:∃ k:Nat,b=(k:Int):=⟨b.toNat,by omega⟩
 have e:((x:Int)*2 ^ s)=((2 ^ s*x:Nat):Int):=by push_cast;exact Int.mul_comm _ _
 have hz:z<2 ^ s:=by exact_mod_cast hb2
 rw [e,Int.toNat_natCast,Int.toNat_natCast,← Nat.two_pow_add_eq_or_of_lt hz]
 rfl
theorem dm_of {n q r y:Int} (e:n=q*y+r) (h0:0≤r) (h1:r<y):n / y=q∧n % y=r:=by
 have gd:n / y=q:=by
  rw [e,Int.add_comm,Int.add_mul_ediv_right _ _ (by omega),Int.ediv_eq_zero_of_lt h0 h1,Int.zero_add]
 refine ⟨gd,?_⟩
 have:=Int.emod_add_mul_ediv n y
 rw [gd,Int.mul_comm] at this
 omega
theorem div64 {hi lo y:Int} (h1:U64 hi) (h2:U64 lo) (h3:U64 y) (h4:hi<y):fI hi lo y=some ((hi*18446744073709551616+lo) / y,(hi*18446744073709551616+lo) % y):=by
 have hi0:=h1.1
 have hlo:=h2.1
 have hy1:1≤y:=by omega
 unfold fI
 have cy:(y == 0)=false:=by simp;omega
 rw [cy,cq (show ¬ y≤hi by omega)]
 simp only [cT]
 by_cases hz:hi=0
 ·subst hz
  have:((0:Int) == 0)=true:=rfl
  rw [this]
  simp only [dn]
  rw [nT (zW (show y≠0 by omega)),nT (zW (show y≠0 by omega)),Int.tdiv_eq_ediv_of_nonneg hlo,Int.tmod_eq_emod_of_nonneg hlo]
  have:lo / y≤lo:=Int.ediv_le_self _ hlo
  rw [fp ⟨Int.ediv_nonneg hlo (by omega),by have:=h2.2;omega⟩]
  simp
 have cz:(hi == 0)=false:=by simp;exact hz
 rw [cz]
 simp only [cT]
 obtain ⟨s,e1,e2,e3,e4⟩:=lz64 h3 hy1
 have hP:(0:Int)<2 ^ s:=Int.pow_pos (by omega)
 have hM:(0:Int)<2 ^ (64 - s):=Int.pow_pos (by omega)
 have hPM:(2:Int) ^ s*2 ^ (64 - s)=18446744073709551616:=by rw [← Int.pow_add,show s+(64 - s)=64 by omega];rfl
 have hhP:hi*2 ^ s<y*2 ^ s:=Int.mul_lt_mul_of_pos_right h4 hP
 have hhP0:0≤hi*2 ^ s:=Int.mul_nonneg hi0 (by omega)
 have hqd0:0≤lo / 2 ^ (64 - s):=Int.ediv_nonneg hlo (by omega)
 have hqd1:lo / 2 ^ (64 - s)<2 ^ s:=by
  apply Int.ediv_lt_of_lt_mul hM
  rw [hPM];exact h2.2
 have hPle:(2:Int) ^ s≤18446744073709551616:=by rw [← hPM];have:=Int.mul_le_mul_of_nonneg_left (show (1:Int)≤2 ^ (64 - s) by omega) (Int.le_of_lt hP);omega
 have f1:IntKind.u64.wrap (s:Int)=(s:Int):=fp ⟨by omega,by omega⟩
 have f2:IntKind.u64.wrap (64 - (s:Int))=((64 - s:Nat):Int):=by rw [fp ⟨by omega,by omega⟩];omega
 have f3:dT .u64 y (s:Int)=y*2 ^ s:=by rw [wm (by omega),fp ⟨by omega,e4⟩]
 have f4:dT .u64 hi (s:Int)=hi*2 ^ s:=by rw [wm (by omega),fp ⟨hhP0,by omega⟩]
 have f5:bQ .u64 lo ((64 - s:Nat):Int)=lo / 2 ^ (64 - s):=by rw [lA (by omega),Int.toNat_natCast]
 have f6:dT .u64 lo (s:Int)=(lo*2 ^ s) % 18446744073709551616:=by rw [wm (by omega),wu]
 have f7:kQ .u64 (hi*2 ^ s) (lo / 2 ^ (64 - s))=hi*2 ^ s+lo / 2 ^ (64 - s):=ior_sh hi0 hqd0 hqd1 ⟨hhP0,by omega⟩ ⟨hqd0,by omega⟩
 rw [nT e1]
 simp only [lb,f1,f2,f3,f4,f5,f6,f7,AE (Int.natCast_nonneg s),AE (Int.natCast_nonneg (64 - s)),bI,xh]
 have hN:(hi*18446744073709551616+lo)*2 ^ s=(hi*2 ^ s+lo / 2 ^ (64 - s))*18446744073709551616+(lo*2 ^ s) % 18446744073709551616:=by
  have g1:=Int.emod_add_mul_ediv lo (2 ^ (64 - s))
  have g2:lo*2 ^ s=lo % 2 ^ (64 - s)*2 ^ s+18446744073709551616*(lo / 2 ^ (64 - s)):=by
   have:=congrArg (· * (2:Int) ^ s) g1
   simp only [Int.add_mul] at this
   rw [← this,← hPM]
   rw [Int.mul_assoc,Int.mul_comm (lo / 2 ^ (64 - s)),← Int.mul_assoc,Int.mul_comm (2 ^ (64 - s)),Int.mul_assoc]
  have g3:0≤lo % 2 ^ (64 - s)*2 ^ s:=Int.mul_nonneg (Int.emod_nonneg _ (by omega)) (by omega)
  have g4:lo % 2 ^ (64 - s)*2 ^ s<18446744073709551616:=by
   rw [← hPM,Int.mul_comm (2 ^ s)]
   exact Int.mul_lt_mul_of_pos_right (Int.emod_lt_of_pos _ hM) hP
  rw [Int.add_mul,Int.mul_right_comm hi]
  generalize lo % 2 ^ (64 - s)*2 ^ s=A at *
  generalize lo / 2 ^ (64 - s)=B at *
  generalize lo*2 ^ s=C at *
  generalize hi*2 ^ s=D at *
  omega
 have hu0:0≤hi*2 ^ s+lo / 2 ^ (64 - s):=by omega
 have huy:hi*2 ^ s+lo / 2 ^ (64 - s)<y*2 ^ s:=by
  have:(hi+1)*2 ^ s≤y*2 ^ s:=Int.mul_le_mul_of_nonneg_right (by omega) (by omega)
  rw [Int.add_mul] at this;omega
 have hU0:0≤(lo*2 ^ s) % 18446744073709551616:=by omega
 have hU1:(lo*2 ^ s) % 18446744073709551616<18446744073709551616:=by omega
 have hfin:∀ q R:Int,(hi*18446744073709551616+lo)*2 ^ s=q*(y*2 ^ s)+R→0≤R→R<y*2 ^ s→(hi*18446744073709551616+lo) / y=q∧(hi*18446744073709551616+lo) % y=R / 2 ^ s:=by
  intro q R hq hR0 hR1
  have hr:R=(hi*18446744073709551616+lo - q*y)*2 ^ s:=by rw [Int.sub_mul,Int.mul_assoc q];omega
  have hd:R / 2 ^ s=hi*18446744073709551616+lo - q*y:=by rw [hr];exact Int.mul_ediv_cancel _ (by omega)
  rw [hd]
  generalize hi*18446744073709551616+lo=n at *
  have:0≤n - q*y:=by
   by_cases hc:0≤n - q*y
   ·exact hc
   have:=Int.mul_le_mul_of_nonneg_right (show n - q*y ≤ -1 by omega) (Int.le_of_lt hP);omega
  have:n - q*y<y:=by
   apply Int.lt_of_mul_lt_mul_right (a:=2 ^ s) _ (by omega)
   omega
  exact dm_of (by omega) (by assumption) (by assumption)
 generalize (hi*18446744073709551616+lo)*2 ^ s=NP at *
 generalize hYe:y*2 ^ s=Y at *
 generalize hi*2 ^ s+lo / 2 ^ (64 - s)=u at *
 generalize (lo*2 ^ s) % 18446744073709551616=U at *
 rw [mq (a:=Y) ⟨by omega,e4⟩,mq (a:=U) ⟨hU0,hU1⟩]
 have k1:Y / 4294967296*4294967296+Y % 4294967296=Y:=by omega
 have k2:2147483648≤Y / 4294967296:=by omega
 have k3:Y / 4294967296<4294967296:=by omega
 have k4:0≤Y % 4294967296:=by omega
 have k5:Y % 4294967296<4294967296:=by omega
 have k6:0≤U / 4294967296:=by omega
 have k7:U / 4294967296<4294967296:=by omega
 have k8:0≤U % 4294967296:=by omega
 have k9:U % 4294967296<4294967296:=by omega
 have k10:U=U / 4294967296*4294967296+U % 4294967296:=by omega
 generalize U / 4294967296=u1 at *
 generalize U % 4294967296=u0 at *
 generalize Y / 4294967296=y1 at *
 generalize Y % 4294967296=y0 at *
 have dv:∀ v:Int,0≤v→v<Y→IntKind.u64.wrap (Int.tdiv v y1)=v / y1∧IntKind.u64.wrap (v - IntKind.u64.wrap (v / y1*y1))=v % y1:=by
  intro v v0 v1
  have:=Int.ediv_le_self y1 v0
  have q0:=Int.ediv_nonneg v0 (show 0≤y1 by omega)
  have m0:=Int.emod_nonneg v (show y1≠0 by omega)
  have m1:=Int.emod_lt_of_pos v (show 0<y1 by omega)
  have e:=Int.emod_add_mul_ediv v y1
  rw [Int.mul_comm] at e
  rw [Int.tdiv_eq_ediv_of_nonneg v0,fp (a:=v / y1) ⟨q0,by omega⟩]
  refine ⟨rfl,?_⟩
  have:0≤v / y1*y1:=Int.mul_nonneg q0 (by omega)
  rw [fp (a:=v / y1*y1) ⟨this,by omega⟩,fp ⟨by omega,by omega⟩]
  omega
 have hnz:nz y1=some ():=zW (by omega)
 obtain ⟨d1,d2⟩:=dv u hu0 huy
 simp only [hnz,d1,d2,bI]
 obtain ⟨q1,l1,l2,l3,l4,l5⟩:=AC (u:=u) (u1:=u1) (y1:=y1) (y0:=y0) hu0 (by omega) k6 k7 k2 k3 k4 k5
 rw [k1] at l4 l5
 rw [nT l1]
 have w25:IntKind.u64.wrap (IntKind.u64.wrap (IntKind.u64.wrap (u*4294967296)+u1) - IntKind.u64.wrap (q1*Y))=u*4294967296+u1 - q1*Y:=by
  simp only [wu]
  generalize q1*Y=z at *
  omega
 simp only [w25]
 have v0:0≤u*4294967296+u1 - q1*Y:=by omega
 have v1:u*4294967296+u1 - q1*Y<Y:=by omega
 have hv:u*4294967296+u1=q1*Y+(u*4294967296+u1 - q1*Y):=by omega
 generalize u*4294967296+u1 - q1*Y=v at *
 obtain ⟨d3,d4⟩:=dv v v0 v1
 simp only [d3,d4]
 obtain ⟨q0,m1,m2,m3,m4,m5⟩:=AD (u:=v) (u1:=u0) (y1:=y1) (y0:=y0) v0 (by omega) k8 k9 k2 k3 k4 k5
 rw [k1] at m4 m5
 rw [nT m1]
 have w36:IntKind.u64.wrap (IntKind.u64.wrap (q1*4294967296)+q0)=q1*4294967296+q0:=by simp only [wu];omega
 have w37:IntKind.u64.wrap (IntKind.u64.wrap (IntKind.u64.wrap (v*4294967296)+u0) - IntKind.u64.wrap (q0*Y))=v*4294967296+u0 - q0*Y:=by
  simp only [wu]
  generalize q0*Y=z at *
  omega
 rw [w36,w37,lA (by omega),Int.toNat_natCast]
 obtain ⟨g1,g2⟩:=hfin (q1*4294967296+q0) (v*4294967296+u0 - q0*Y) (by
  rw [hN,k10,Int.add_mul,Int.mul_right_comm]
  generalize q1*Y=z at *
  generalize q0*Y=z0 at *
  omega) (by omega) (by omega)
 rw [g1,g2]
def xv (w:Zm):Int:=w.Hi*18446744073709551616+w.Lo
def XW (w:Zm):Prop:=U64 w.Hi∧U64 w.Lo
theorem yl {a b:Int} (ha:U64 a) (hb:U64 b):∃ w,kH a b=some w∧XW w∧xv w=a*b:=by
 obtain ⟨h,l,e1,e2,e3,e4⟩:=mul64 ha hb
 unfold kH;rw [nT e1]
 exact ⟨_,rfl,⟨e2,e3⟩,e4⟩
def xm (n c m:Int):Int:=if (m=2∧c≤2*(n % c))∨(m=1∧0<n % c) then n / c+1 else n / c
theorem ym {w:Zm} {c m:Int} (hw:XW w) (hc:U64 c) (h1:1≤c) (hm:m=0∨m=1∨m=2):kG w c m=some (if xm (xv w) c m<18446744073709551616 then (xm (xv w) c m,0) else (0,3)):=by
 unfold kG
 have hc0:((((c == 0)||(decide (m<0)))||(decide (3<m))):Bool)=false:=by
  rcases hm with rfl | rfl | rfl <;> simp <;> omega
 rw [hc0];simp only [cT]
 have hn0:0≤xv w:=by unfold xv;have:=hw.1.1;have:=hw.2.1;omega
 have hr0:0≤xv w % c:=Int.emod_nonneg _ (by omega)
 have hr1:xv w % c<c:=Int.emod_lt_of_pos _ (by omega)
 have hle:xv w / c≤xm (xv w) c m:=by unfold xm;split <;> omega
 by_cases h:c≤w.Hi
 ·rw [det h]
  have:18446744073709551616≤xv w / c:=by
   apply Int.le_ediv_of_mul_le (by omega)
   have:=Int.mul_le_mul_of_nonneg_left h (show (0:Int)≤18446744073709551616 by omega)
   unfold xv;have:=hw.2.1;omega
  rw [if_neg (by omega)];rfl
 rw [cq h]
 simp only [cT]
 have e:=div64 hw.1 hw.2 hc (by omega)
 rw [show w.Hi*18446744073709551616+w.Lo=xv w from rfl] at e
 rw [nT e]
 have hq:xv w / c<18446744073709551616:=by
  apply Int.ediv_lt_of_lt_mul (by omega)
  have:=Int.mul_le_mul_of_nonneg_right (show w.Hi+1≤c by omega) (show (0:Int)≤18446744073709551616 by omega)
  unfold xv;have:=hw.2.2;rw [Int.mul_comm 18446744073709551616];omega
 have hq0:0≤xv w / c:=Int.ediv_nonneg hn0 (by omega)
 dsimp only
 have er:gS (xv w / c) (xv w % c) c m=some (decide ((m=2∧c≤2*(xv w % c))∨(m=1∧0<xv w % c))):=by
  unfold gS
  rw [fp (a:=c - xv w % c) ⟨by omega,by have:=hc.2;omega⟩]
  rcases hm with rfl | rfl | rfl
  ·simp
  ·simp
  simp;omega
 rw [nT er]
 unfold xm
 by_cases hu:(m=2∧c≤2*(xv w % c))∨(m=1∧0<xv w % c)
 ·rw [det hu,if_pos hu]
  simp only [Bool.not_true,cT]
  by_cases hx:xv w / c=18446744073709551615
  ·rw [hx];rfl
  have:(xv w / c == 18446744073709551615)=false:=by simp;exact hx
  rw [this,if_pos (by omega),fp ⟨by omega,by omega⟩];rfl
 rw [cq hu,if_neg hu,if_pos hq];rfl
theorem ref_div {w:Zj} {c m:Int} (hw:RW w) (hc:U64 c) (h1:1≤c) (hm:m=0∨m=1∨m=2):kJ w c m=some (if xm (rv w) c m<18446744073709551616 then (xm (rv w) c m,0) else (0,3)):=by
 unfold kJ
 have hc0:((((c == 0)||(decide (m<0)))||(decide (3<m))):Bool)=false:=by
  rcases hm with rfl | rfl | rfl <;> simp <;> omega
 rw [hc0];simp only [cT]
 have hn0:0≤rv w:=by unfold rv;have:=hw.1.1;have:=hw.2.1;omega
 have hn1:rv w<340282366920938463463374607431768211456:=by unfold rv;have:=hw.1.2;have:=hw.2.2;omega
 have hr0:0≤rv w % c:=Int.emod_nonneg _ (by omega)
 have hr1:rv w % c<c:=Int.emod_lt_of_pos _ (by omega)
 obtain ⟨q,r,e1,e2,e3,e4⟩:=wj hw hc h1
 rw [nT e1]
 dsimp only
 have er:(cond (m == 1) (some (decide (0<r))) (cond (m == 2) (some (decide ((IntKind.u64.wrap (c - r))≤r))) (cond (m == 3) (some ((decide ((IntKind.u64.wrap (c - r))<r))||((r == (IntKind.u64.wrap (c - r)))&&((co .u64 q.Lo 1) == 1)))) (some false))))=some (decide ((m=2∧c≤2*(rv w % c))∨(m=1∧0<rv w % c))):=by
  rw [e4,fp (a:=c - rv w % c) ⟨by omega,by have:=hc.2;omega⟩]
  rcases hm with rfl | rfl | rfl
  ·simp
  ·simp
  simp;omega
 rw [nT er]
 have hq0:0≤rv w / c:=Int.ediv_nonneg hn0 (by omega)
 unfold xm
 have hfin:∀ z:Zj,RW z→(cond (decide (0<z.Hi)) (some ((0:Int),(3:Int))) (some (z.Lo,0)))=some (if rv z<18446744073709551616 then (rv z,0) else (0,3)):=by
  intro z hz
  obtain ⟨⟨a1,a2⟩,⟨a3,a4⟩⟩:=hz
  by_cases h:0<z.Hi
  ·rw [det h,if_neg (by unfold rv;omega)];rfl
  have:rv z=z.Lo:=by unfold rv;omega
  rw [cq h,this,if_pos a4];rfl
 by_cases hu:(m=2∧c≤2*(rv w % c))∨(m=1∧0<rv w % c)
 ·rw [det hu,if_pos hu]
  obtain ⟨z,b,f1,f2,f3⟩:=px (p:=q) (q:=⟨0,1⟩) e2 ⟨⟨by simp,by simp⟩,⟨by simp,by simp⟩⟩
  have hone:rv ⟨0,1⟩=1:=rfl
  have:rv w / c≤rv w:=Int.ediv_le_self _ hn0
  have hc2:2≤c:=by omega
  have t1:=Int.ediv_mul_le (rv w) (show c≠0 by omega)
  have t2:=Int.mul_le_mul_of_nonneg_left hc2 hq0
  rw [hone,e3] at f3
  have f3:=f3 (by omega)
  simp only [dn]
  rw [nT f1]
  simp only [bI]
  rw [hfin z f2,f3]
 rw [cq hu,if_neg hu]
 simp only [cT,bI]
 rw [hfin q e2,e3]
structure VProd (l:List Ze) (p:Ze):Prop where
 price:1≤p.Price∧p.Price≤1000000000000
 lvl:6≤gY p.Code
 ctr:ctry p.Country=true
 proc:i4 p.Processes=true
 few:p.Inputs.length≤8
 asc:p.Inputs.Pairwise fun a b=>a.Product<b.Product
 inp:∀ x∈p.Inputs,(dA l x.Product).isSome=true∧0≤x.Value∧x.Value≤1000000000000
 obt:p.Obtained=true→p.Inputs=[]
structure VPs (l:List Ze):Prop where
 len:l.length≤64
 asc:l.Pairwise fun a b=>a.ID<b.ID
 all:∀ p∈l,VProd l p
theorem jr {l:List ByteArray} (h:i4 l=true):l.length≤8∧(∀ s∈l,gj s=true)∧Strict ib l:=by
 unfold i4 at h
 simp only [Bool.and_eq_true,decide_eq_true_eq] at h
 exact ⟨h.1,fun s hs=>List.all_eq_true.1 h.2.1 s hs,(iT _).1 h.2.2⟩
theorem VPs.sorted {l:List Ze} (h:VPs l):Sorted l:=⟨by have:=h.len;omega,h.asc,fun p hp=>by have h1:=(jr (h.all p hp).proc).1;have h2:=(h.all p hp).few;omega⟩
def bC (l:List Ze) (id:Int):Ze:=(dA l id).getD As
theorem yn {l:List Ze} {id:Int} {p:Ze} (h:dA l id=some p):p∈l∧p.ID=id:=⟨List.mem_of_find?_eq_some h,by have:=List.find?_some h;simpa using this⟩
theorem hR {l:List Ze} (h:VPs l) {id:Int} (hs:(dA l id).isSome=true):bC l id∈l∧VProd l (bC l id)∧(bC l id).ID=id:=by
 cases hf:dA l id with
 | none=>rw [hf] at hs;cases hs
 | some p =>
  have:=yn hf
  unfold bC;rw [hf];exact ⟨this.1,h.all p this.1,this.2⟩
abbrev CSet:=Za→Bool
def ez (ps:List Int) (S:CSet) (q:Ze) (v:Int):Zi×Option Za:=match ps.find? (fun id=>S ⟨q.ID,id⟩) with
 | some id=>(⟨q.Code,v,true⟩,some ⟨q.ID,id⟩)
 | none=>(⟨q.Code,v,false⟩,none)
def cH (v part price:Int):Int:=if xm (v*part) price 1≤1000000000000 then xm (v*part) price 1 else 1000000000000
def oQ (a:Zb) (q:Ze):Bool:=a.Kind == 3&&jq a.Parties q.Country
def ep (plan:List Ze) (a:Zb) (ps:List Int) (S:CSet) (x:Zg):List (Zi×Option Za) :=
 cond ((ez ps S (bC plan x.Product) x.Value).2.isSome || !oQ a (bC plan x.Product)||(bC plan x.Product).Inputs.isEmpty) [ez ps S (bC plan x.Product) x.Value]
  ((bC plan x.Product).Inputs.map fun y=>ez ps S (bC plan y.Product) (cH x.Value y.Value (bC plan x.Product).Price))
def dL (plan:List Ze) (a:Zb) (ps:List Int) (S:CSet) (p:Ze):List (Zi×Option Za):=p.Inputs.flatMap (ep plan a ps S)
def iU (plan:List Ze) (a:Zb) (acc:List ByteArray) (x:Zg):List ByteArray:=cond (oQ a (bC plan x.Product)) (kp acc (bC plan x.Product).Processes) acc
def AF:Zp:=⟨ByteArray.empty,0,false,[],[]⟩
def lC (l:List Zb) (id:Int):Zb:=(ke l id).getD yf
def sy (plan:List Ze) (l:List Zb) (imp:ByteArray) (c:Za) (S:CSet):Zp :=
 ⟨(bC plan c.Product).Code,(bC plan c.Product).Price,(bC plan c.Product).Obtained,((bC plan c.Product).Inputs.foldl (iU plan (lC l c.Agreement)) (bC plan c.Product).Processes).take 8,
  (dL plan (lC l c.Agreement) (dl l c.Agreement (bC plan c.Product).Country imp) S (bC plan c.Product)).map (·.1)⟩
def vf (plan:List Ze) (l:List Zb) (imp:ByteArray) (c:Za) (S:CSet):List Za :=
 sd bH ((dL plan (lC l c.Agreement) (dl l c.Agreement (bC plan c.Product).Country imp) S (bC plan c.Product)).filterMap (·.2))
def lD (plan:List Ze) (l:List Zb) (imp:ByteArray) (c:Za) (S:CSet):Zp×List Za:=cond (pg plan l imp c) (sy plan l imp c S,vf plan l imp c S) (AF,[])
theorem tJ {n c:Int} (hn:0≤n) (hc:1≤c):0≤xm n c 1:=by
 unfold xm
 have:=Int.ediv_nonneg hn (show (0:Int)≤c by omega)
 split <;> omega
theorem ri {v part price:Int} (h1:0≤v) (h2:0≤part) (h3:1≤price):0≤cH v part price∧cH v part price≤1000000000000:=by
 unfold cH
 have:=tJ (Int.mul_nonneg h1 h2) h3
 split <;> omega
theorem tK {v part price:Int} (h1:0≤v∧v≤1000000000000) (h2:0≤part∧part≤1000000000000) (h3:1≤price∧price≤1000000000000):ef v part price=some (cH v part price):=by
 unfold ef ji
 rw [fp (a:=v) ⟨by omega,by omega⟩,fp (a:=part) ⟨by omega,by omega⟩,fp (a:=price) ⟨by omega,by omega⟩]
 obtain ⟨w,e1,e2,e3⟩:=yl (a:=v) (b:=part) ⟨by omega,by omega⟩ ⟨by omega,by omega⟩
 rw [e1,bI,ym e2 ⟨by omega,by omega⟩ h3.1 (.inr (.inl rfl)),e3]
 unfold cH
 have hp:=tJ (Int.mul_nonneg h1.1 h2.1) h3.1
 generalize xm (v*part) price 1=r at hp
 by_cases hr:r<18446744073709551616
 ·rw [if_pos hr]
  by_cases hm:r≤1000000000000
  ·rw [if_pos hm]
   simp only [bI,bne_self_eq_false,Bool.false_or]
   rw [cq (by omega),cT,cg (by omega) (by omega)]
  rw [if_neg hm]
  simp only [bI,bne_self_eq_false,Bool.false_or]
  rw [det (by omega)];rfl
 rw [if_neg hr,if_neg (by omega)];rfl
theorem vg {v part price:Int} (h1:0≤v∧v≤1000000000000) (h2:0≤part∧part≤1000000000000) (h3:1≤price∧price≤1000000000000) {β:Type} (k:Int→Option β):Option.bind (gW (IntKind.u64.wrap v) (IntKind.u64.wrap part) (IntKind.u64.wrap price) 1) (fun x79=>Option.bind (cond ((x79.2 == 0)&&(decide (x79.1<1000000000000))) (some (IntKind.i64.wrap x79.1)) (some 1000000000000)) k)=k (cH v part price):=by
 unfold gW
 rw [fp (a:=v) ⟨by omega,by omega⟩,fp (a:=part) ⟨by omega,by omega⟩,fp (a:=price) ⟨by omega,by omega⟩]
 obtain ⟨w,e1,e2,e3⟩:=ref_mul (a:=v) (b:=part) ⟨by omega,by omega⟩ ⟨by omega,by omega⟩
 rw [e1,bI,ref_div e2 ⟨by omega,by omega⟩ h3.1 (.inr (.inl rfl)),e3]
 unfold cH
 have hp:=tJ (Int.mul_nonneg h1.1 h2.1) h3.1
 generalize xm (v*part) price 1=r at hp
 by_cases hr:r<18446744073709551616
 ·rw [if_pos hr]
  by_cases hm:r<1000000000000
  ·rw [if_pos (by omega)]
   simp only [bI,beq_self_eq_true,Bool.true_and]
   rw [det (by omega),dn,bI,cg (by omega) (by omega)]
  simp only [bI,beq_self_eq_true,Bool.true_and]
  rw [cq (by omega),cT,bI]
  congr 1
  split <;> omega
 rw [if_neg hr,if_neg (by omega)];rfl
def vk:Zi×Option Za→Zc
 | (i,some c)=>.proved_ ⟨i,c⟩
 | (i,none)=>.plain_ ⟨i⟩
theorem yo {K V:Type} [DecidableEq K] (m:List (K×V)) (k c:K) (v:V):jF (mS m k v) c=if k=c then some v else jF m c:=by
 induction m with
 | nil=>simp only [mS,jF]
 | cons p m ih =>
  obtain ⟨a,w⟩:=p
  simp only [mS]
  by_cases h:a=k
  ·subst h
   simp only [if_true,jF]
   split <;> rfl
  rw [if_neg h]
  simp only [jF,ih]
  by_cases h2:a=c
  ·subst h2;simp [show ¬ k=a from fun e=>h e.symm]
  simp [h2]
theorem AG (set:List Za) (c:Za):(jF (set.foldl (fun m x=>mS m x true) []) c).getD false=dm set c:=by
 have key:∀ (l:List Za) (m:List (Za×Bool)),(jF (l.foldl (fun m x=>mS m x true) m) c).getD false=(dm l c||(jF m c).getD false):=by
  intro l
  induction l with
  | nil=>intro m;rfl
  | cons x l ih =>
   intro m
   rw [List.foldl_cons,ih,yo]
   show _=((decide (x=c)||dm l c)||_)
   by_cases h:x=c
   ·rw [if_pos h,det h];cases dm l c <;> rfl
   rw [if_neg h,cq h,Bool.false_or]
 rw [key];show (dm set c||false)=_;rw [Bool.or_false]
theorem sA (ps:List Int) (m:List (Za×Bool)) (S:CSet) (hm:∀ c,(jF m c).getD false=S c) (hps:ps.length≤140737488355328) (q:Ze) (v:Int):bX ⟨ps,m⟩ q v=some (vk (ez ps S q v)):=by
 unfold bX ez
 refine (dF (l:=ps) (by omega) (fun _ id=>cond (S ⟨q.ID,id⟩) (some (.inr (Zc.proved_ ⟨⟨q.Code,v,true⟩,⟨q.ID,id⟩⟩))) none) (.inl ()) (fun k hk=>?_) (by simp only [fu,cT])).trans ?_
 ·simp only [lp hk,dn,bh hk,bI,dq hk (show ps.length≤4611686018427387904 by omega),hm]
  cases S ⟨q.ID,ps[k]⟩ <;> rfl
 rw [iq (fun id:Int=>S ⟨q.ID,id⟩) (fun id=>(Sum.inr (Zc.proved_ ⟨⟨q.Code,v,true⟩,⟨q.ID,id⟩⟩):Unit⊕Zc))]
 cases ps.find? (fun id:Int=>S ⟨q.ID,id⟩) <;> rfl
def wn:Za:=⟨0,0⟩
theorem AH (ps:List Int) (set:List Za) (hps:ps.length≤140737488355328) (hset:set.length≤140737488355328) (q:Ze) (v:Int):fN ps q.ID set=some (j6 wn (ez ps (dm set) q v).2)∧(ez ps (dm set) q v).1=⟨q.Code,v,(ez ps (dm set) q v).2.isSome⟩:=by
 constructor
 ·unfold fN ez
  refine (dF (l:=ps) (by omega) (fun _ id=>cond (dm set ⟨q.ID,id⟩) (some (.inr ((⟨q.ID,id⟩:Za),true))) none) (.inl ()) (fun k hk=>?_) (by simp only [fu,cT])).trans ?_
  ·simp only [lp hk,dn,bh hk,bI,dq hk (show ps.length≤4611686018427387904 by omega),nQ _ _ hset]
   cases dm set ⟨q.ID,ps[k]⟩ <;> rfl
  rw [iq (fun id:Int=>dm set ⟨q.ID,id⟩) (fun id=>(Sum.inr ((⟨q.ID,id⟩:Za),true):Unit⊕(Za×Bool)))]
  cases ps.find? (fun id:Int=>dm set ⟨q.ID,id⟩) <;> rfl
 unfold ez
 cases ps.find? (fun id:Int=>dm set ⟨q.ID,id⟩) <;> rfl
theorem mr {plan:List Ze} (hv:VPs plan) (a:Zb) (ps:List Int) (S:CSet) (x:Zg) (hx:(dA plan x.Product).isSome=true):(ep plan a ps S x).length≤8:=by
 unfold ep
 generalize ((ez ps S (bC plan x.Product) x.Value).2.isSome || !oQ a (bC plan x.Product)||(bC plan x.Product).Inputs.isEmpty)=b
 cases b
 ·rw [cT,List.length_map];exact (hR hv hx).2.1.few
 simp
theorem AI {w:List ByteArray} (h:i4 w=true):w.length≤8:=(jr h).1
theorem wo (a b:List ByteArray):(kp a b).length≤a.length+b.length:=by unfold kp;have:=Ax (lt:=ib) (a++b);rwa [List.length_append] at this
theorem sB {plan:List Ze} (hv:VPs plan) (a:Zb) (acc:List ByteArray) (x:Zg) (hx:(dA plan x.Product).isSome=true):(iU plan a acc x).length≤acc.length+8:=by
 unfold iU
 cases oQ a (bC plan x.Product)
 ·rw [cT];omega
 rw [dn]
 have h1:=wo acc (bC plan x.Product).Processes
 have h2:=AI (hR hv hx).2.1.proc
 omega
theorem rj {plan:List Ze} (hv:VPs plan) (id:Int):cA plan id=some (bC plan id,(dA plan id).isSome):=by
 rw [ra _ _ hv.sorted];unfold bC;cases dA plan id <;> rfl
theorem sC {plan:List Ze} (hv:VPs plan) (id:Int):fz plan id=some (bC plan id,(dA plan id).isSome):=by
 rw [sq _ _ (by have:=hv.len;omega)];unfold bC;cases dA plan id <;> rfl
theorem tL (t:Zi×Option Za):(vk t).is_proved_=t.2.isSome:=by obtain ⟨i,c⟩:=t;cases c <;> rfl
theorem yp {plan:List Ze} (hv:VPs plan) (a:Zb) (ha:a.Parties.length≤140737488355328) {p:Ze} (hp:VProd plan p) (ps:List Int) (hps:ps.length≤140737488355328) (m:List (Za×Bool)) (S:CSet) (hm:∀ c,(jF m c).getD false=S c) :
    eO plan a p ⟨ps,m⟩=some ((dL plan a ps S p).map vk,(p.Inputs.foldl (iU plan a) p.Processes).take 8):=by
  unfold eO bz
  have hpr:=AI hp.proc
  have hfew:=hp.few
  rw [gy (by omega) (by omega),bI]
  refine (dZ (l:=p.Inputs) (by omega) (fun i (s:List Zc×List ByteArray)=>(s.1,s.2,i)) (fun s x=>(s.1++(ep plan a ps S x).map vk,iU plan a s.2 x)) (fun s=>s) (fun k s=>s.1.length≤8*k∧s.2.length≤8+8*k) ([],p.Processes) ⟨by simp,by simpa using hpr⟩ (fun k hk s hs=>?_) (fun s _=>by simp only [fu,cT])).1.trans ?_
  · obtain ⟨l9,l12⟩:=s
    obtain ⟨h1,h2⟩:=hs
    dsimp only at h1 h2 ⊢
    obtain ⟨hin,hv0,hv1⟩:=hp.inp _ (List.getElem_mem hk)
    obtain ⟨hq1,hq2,hq3⟩:=hR hv hin
    have hql:=hq2.few
    refine ⟨?_,by have:=mr hv a ps S p.Inputs[k] hin;simp;omega,by have:=sB hv a l12 p.Inputs[k] hin;omega⟩
    simp only [lp hk,dn,bh hk,bI,dq hk (show p.Inputs.length≤4611686018427387904 by omega),rj hv]
    generalize hx:p.Inputs[k]=x at *
    rw [qX _ _ ha,sA ps m S hm hps]
    unfold ep iU oQ
    have e1:Option.bind (gd (a.Kind == 3) (some (jq a.Parties (bC plan x.Product).Country))) (fun x33=>some ((a.Kind == 3)&&x33))=some ((a.Kind == 3)&&jq a.Parties (bC plan x.Product).Country):=by cases (a.Kind == 3) <;> rfl
    have e2:∀ {β:Type} (K:Bool→Option β),(∀ b c,((a.Kind == 3)&&b)=((a.Kind == 3)&&c)→K b=K c)→Option.bind (gd (a.Kind == 3) (some (jq a.Parties (bC plan x.Product).Country))) K=K (jq a.Parties (bC plan x.Product).Country):=by
      intro β K hK
      cases hk3:(a.Kind == 3)
      · show K default=_;exact hK _ _ (by rw [hk3];rfl)
      rfl
    rw [e2 _ (fun b c hbc=>by simp only [hbc])]
    generalize hF:((a.Kind == 3)&&jq a.Parties (bC plan x.Product).Country)=F
    have e3:(cond F (Option.bind (gF l12 (bC plan x.Product).Processes) (fun x38=>some x38)) (some l12))=some (cond F (kp l12 (bC plan x.Product).Processes) l12):=by
      cases F
      · rfl
      rw [dn,wi _ _ (by have:=AI hq2.proc;omega)];rfl
    simp only [e3,bI,tL,len0]
    cases hc:((ez ps S (bC plan x.Product) x.Value).2.isSome || !F||(bC plan x.Product).Inputs.isEmpty)
    · simp only [cT]
      refine (congrArg (fun o=>Option.bind o _) (dZ (l:=(bC plan x.Product).Inputs) (by omega) (fun i (s:List Zc)=>(s,i)) (fun s y=>s++[vk (ez ps S (bC plan y.Product) (cH x.Value y.Value (bC plan x.Product).Price))]) (fun s=>s) (fun j s=>s.length≤8*k+j) l9 h1 (fun j hj s hs=>⟨?_,by simp;omega⟩) (fun s _=>by simp only [fu,cT])).1).trans ?_
      rotate_left
      · simp only [bI]
        have hfl:∀ (ys:List Zg) (acc:List Zc),ys.foldl (fun s y=>s++[vk (ez ps S (bC plan y.Product) (cH x.Value y.Value (bC plan x.Product).Price))]) acc=acc++(ys.map fun y=>ez ps S (bC plan y.Product) (cH x.Value y.Value (bC plan x.Product).Price)).map vk:=by
          intro ys
          induction ys with
          | nil=>intro acc;simp
          | cons y ys ih=>intro acc;rw [List.foldl_cons,ih];simp
        rw [hfl]
      obtain ⟨hy1,hy2,hy3⟩:=hq2.inp _ (List.getElem_mem hj)
      simp only [lp hj,dn,bh hj,bI,dq hj (show (bC plan x.Product).Inputs.length≤4611686018427387904 by omega),rj hv]
      rw [tK ⟨hv0,hv1⟩ ⟨hy2,hy3⟩ hq2.price,bI,sA ps m S hm hps,bI,dy (by simp;omega) (by simp;omega)];rfl
    simp only [dn]
    rw [dy (by simp;omega) (by simp;omega)];rfl
  dsimp only
  have hfold:∀ (xs:List Zg) (s:List Zc×List ByteArray),xs.foldl (fun s x=>(s.1++(ep plan a ps S x).map vk,iU plan a s.2 x)) s=(s.1++(xs.flatMap (ep plan a ps S)).map vk,xs.foldl (iU plan a) s.2):=by
    intro xs
    induction xs with
    | nil=>intro s;simp
    | cons x xs ih=>intro s;rw [List.foldl_cons,ih,List.flatMap_cons];simp
  rw [hfold]
  dsimp only
  rw [wU _ _ (by omega),bI];rfl
theorem ol {p:List Ze} {l:List Zb} {i:ByteArray} {c:Za} (h:pg p l i c=true):∃ q a r,dA p c.Product=some q∧ke l c.Agreement=some a∧iD a q.Code=some r∧q.Country≠i∧tD a q.Country i=true:=by
 unfold pg at h
 split at h
 ·rename_i q a e1 e2
  simp only [Bool.and_eq_true,Bool.not_eq_true',decide_eq_false_iff_not] at h
  obtain ⟨⟨h1,h2⟩,h3⟩:=h
  obtain ⟨r,hr⟩:=Option.isSome_iff_exists.1 h3
  exact ⟨q,a,r,e1,e2,hr,h1,h2⟩
 cases h
theorem lB {plan:List Ze} (hv:VPs plan) (a:Zb) (ps:List Int) (S:CSet) {p:Ze} (hp:VProd plan p):(dL plan a ps S p).length≤64:=by
 unfold dL
 have key:∀ xs:List Zg,(∀ x∈xs,(dA plan x.Product).isSome=true)→(xs.flatMap (ep plan a ps S)).length≤8*xs.length:=by
  intro xs
  induction xs with
  | nil=>intro _;simp
  | cons x xs ih =>
   intro h
   rw [List.flatMap_cons,List.length_append,List.length_cons]
   have h1:=mr hv a ps S x (h x (by simp));have h2:=ih fun y hy=>h y (by simp [hy]);omega
 have h1:=key p.Inputs fun x hx=>(hp.inp x hx).1
 have h2:=hp.few
 omega
theorem yq {plan:List Ze} {l:List Zb} (hv:VPs plan) (hl:VAs l) (imp:ByteArray) (c:Za) (set:List Za) (hs:set.length≤140737488355328):dJ plan l imp c set=some (lD plan l imp c (dm set)):=by
 unfold dJ lD
 have hlen:=hl.len
 rw [At _ _ _ _ hv.sorted hl,bI]
 cases had:pg plan l imp c
 ·rfl
 obtain ⟨q,a,r,e1,e2,_,_,_⟩:=ol had
 have hq:VProd plan (bC plan c.Product):=(hR hv (by rw [e1];rfl)).2.1
 have ha:lC l c.Agreement=a:=by unfold lC;rw [e2];rfl
 have hva:=(kO hl e2).1
 simp only [Bool.not_true,cT,dn]
 rw [rj hv,bI,nj _ _ (by omega),e2,bI,rJ _ _ _ _ hl,bI]
 have hpl:=nO l c.Agreement (bC plan c.Product).Country imp
 unfold sy vf
 rw [ha]
 generalize hps:dl l c.Agreement (bC plan c.Product).Country imp=ps at *
 refine (dZ (l:=set) (by omega) (fun i (m:List (Za×Bool))=>(i,m)) (fun m x=>mS m x true) (fun m=>m) (fun _ _=>True) [] trivial (fun k hk m _=>⟨?_,trivial⟩) (fun m _=>by simp only [fu,cT])).1.trans ?_
 ·simp only [lp hk,dn,bh hk,bI,dq hk (show set.length≤4611686018427387904 by omega)]
 rw [yp hv (j6 yf (some a)).1 hva.ok.par.1 hq ps (by omega) _ (dm set) (fun c=>AG set c),bI]
 dsimp +instances only [j6]
 have hsl:=lB hv a ps (dm set) hq
 refine (dZ (l:=(dL plan a ps (dm set) (bC plan c.Product)).map vk) (by rw [List.length_map];omega) (fun i (s:List Za×List Zi)=>(s.1,i,s.2)) (fun s x=>(cond x.is_proved_ (s.1++[x.as_proved_.premise]) s.1,s.2++[match x with | .plain_ y=>y.use | .proved_ y=>y.use])) (fun s=>s) (fun k s=>s.1.length≤k∧s.2.length≤k) ([],[]) ⟨by simp,by simp⟩ (fun k hk s hs=>⟨?_,?_⟩) (fun s _=>by simp only [fu,cT])).1.trans ?_
 ·have hk2:k<64:=by rw [List.length_map] at hk;omega
  have ei:∀ x:Zc,Icumulation_supply_input x=some (match x with | .plain_ y=>y.use | .proved_ y=>y.use):=fun x=>by cases x <;> rfl
  simp only [lp hk,dn,bh hk,bI,dq hk (show ((dL plan a ps (dm set) (bC plan c.Product)).map vk).length≤4611686018427387904 by rw [List.length_map];omega),ei]
  rw [dy (by simp;omega) (by simp;omega),bI,dy (by simp;omega) (by simp;omega)]
  cases ((dL plan a ps (dm set) (bC plan c.Product)).map vk)[k].is_proved_ <;> rfl
 ·obtain ⟨h1,h2⟩:=hs
  cases ((dL plan a ps (dm set) (bC plan c.Product)).map vk)[k].is_proved_ <;> simp <;> omega
 have key:∀ (xs:List (Zi×Option Za)) (s:List Za×List Zi),(xs.map vk).foldl (fun s x=>(cond x.is_proved_ (s.1++[x.as_proved_.premise]) s.1,s.2++[match x with | .plain_ y=>y.use | .proved_ y=>y.use])) s=(s.1++xs.filterMap (·.2),s.2++xs.map (·.1)):=by
  intro xs
  induction xs with
  | nil=>intro s;simp
  | cons x xs ih =>
   intro s
   obtain ⟨i,o⟩:=x
   rw [List.map_cons,List.foldl_cons,ih]
   cases o with
   | none=>simp [vk,Zc.is_proved_]
   | some c=>simp [vk,Zc.is_proved_,Zc.as_proved_]
 rw [key]
 simp only [List.nil_append]
 show Option.bind (some (iK bH _)) _=_
 rw [bI,Az _ (by rw [kL];have:=List.length_filterMap_le (fun x:Zi×Option Za=>x.2) (dL plan a ps (dm set) (bC plan c.Product));omega)];rfl
theorem AJ {plan:List Ze} {l:List Zb} (hv:VPs plan) (hl:VAs l) (imp:ByteArray) (c:Za) (set:List Za) (hs:set.length≤140737488355328):gX plan l imp c set=some (lD plan l imp c (dm set)):=by
 unfold gX lD
 have hlen:=hl.len
 rw [ref_adm _ _ _ _ (by have:=hv.len;omega) hl,bI]
 cases had:pg plan l imp c
 ·rfl
 obtain ⟨q,a,r,e1,e2,_,_,_⟩:=ol had
 have hq:VProd plan (bC plan c.Product):=(hR hv (by rw [e1];rfl)).2.1
 have ha:lC l c.Agreement=a:=by unfold lC;rw [e2];rfl
 have hva:=(kO hl e2).1
 simp only [Bool.not_true,cT,dn]
 rw [sC hv,bI,oj _ _ (by omega),e2,bI,tE _ _ _ _ hl,bI]
 have hpl:=nO l c.Agreement (bC plan c.Product).Country imp
 unfold sy vf
 rw [ha]
 simp only [j6]
 generalize hps:dl l c.Agreement (bC plan c.Product).Country imp=ps at *
 have hpr:=AI hq.proc
 have hfew:=hq.few
 generalize bC plan c.Product=p at *
 have hps2:ps.length≤140737488355328:=by omega
 refine (dZ (l:=p.Inputs) (by omega) (fun i (s:List Za×List ByteArray×List Zi)=>(s.1,s.2.1,i,s.2.2)) (fun s x=>(((ep plan a ps (dm set) x).filterMap (·.2)).foldl (iy bH) s.1,iU plan a s.2.1 x,s.2.2++(ep plan a ps (dm set) x).map (·.1))) (fun s=>s) (fun k s=>s.1.length≤8*k∧s.2.1.length≤8+8*k∧s.2.2.length≤8*k) ([],p.Processes,[]) ⟨by simp,by simpa using hpr,by simp⟩ (fun k hk s hs=>?_) (fun s _=>by simp only [fu,cT])).1.trans ?_
 ·obtain ⟨l13,l14,l17⟩:=s
  obtain ⟨h1,h2,h3⟩:=hs
  dsimp only at h1 h2 h3 ⊢
  obtain ⟨hin,hv0,hv1⟩:=hq.inp _ (List.getElem_mem hk)
  obtain ⟨hq1,hq2,hq3⟩:=hR hv hin
  have hql:=hq2.few
  have hsl:=mr hv a ps (dm set) p.Inputs[k] hin
  have hins:∀ (cs:List Za) (u:List Za),(cs.foldl (iy bH) u).length≤u.length+cs.length:=by
   intro cs
   induction cs with
   | nil=>intro u;simp
   | cons c cs ih=>intro u;rw [List.foldl_cons,List.length_cons];have h1:=ih (iy bH u c);have h2:=mn (lt:=bH) u c;omega
  refine ⟨?_,?_,by have:=sB hv a l14 p.Inputs[k] hin;omega,by simp;omega⟩
  rotate_left
  ·have g1:=hins ((ep plan a ps (dm set) p.Inputs[k]).filterMap (·.2)) l13
   have g2:=List.length_filterMap_le (fun x:Zi×Option Za=>x.2) (ep plan a ps (dm set) p.Inputs[k])
   omega
  simp only [lp hk,dn,bh hk,bI,dq hk (show p.Inputs.length≤4611686018427387904 by omega),sC hv]
  generalize hx:p.Inputs[k]=x at *
  have hset:set.length≤140737488355328:=hs
  have htk:=AH ps set hps2 hset
  rw [nN _ _ hva.ok.par.1,(htk (bC plan x.Product) x.Value).1]
  unfold ep iU oQ
  have e2:∀ {β:Type} (K:Bool→Option β),(∀ b c,((a.Kind == 3)&&b)=((a.Kind == 3)&&c)→K b=K c)→Option.bind (gd (a.Kind == 3) (some (jq a.Parties (bC plan x.Product).Country))) K=K (jq a.Parties (bC plan x.Product).Country):=by
   intro β K hK
   cases hk3:(a.Kind == 3)
   ·show K default=_;exact hK _ _ (by rw [hk3];rfl)
   rfl
  rw [e2 _ (fun b c hbc=>by simp only [hbc])]
  generalize hF:((a.Kind == 3)&&jq a.Parties (bC plan x.Product).Country)=F
  have e3:(cond F (Option.bind (gC l14 (bC plan x.Product).Processes) (fun x38=>some x38)) (some l14))=some (cond F (kp l14 (bC plan x.Product).Processes) l14):=by
   cases F
   ·rfl
   rw [dn,yi _ _ (by have:=AI hq2.proc;omega)];rfl
  have e4:∀ (o:Option Za) (u:List Za),u.length≤1000000→(cond o.isSome (Option.bind (fW u (j6 wn o).1) (fun x53=>some x53)) (some u))=some (match o with | some c=>iy bH u c | none=>u):=by
   intro o u hu
   cases o with
   | none=>rfl
   | some c=>show Option.bind (fW u c) _=_;rw [yh _ _ (by omega)];rfl
  have e5:∀ o:Option Za,(j6 wn o).2=o.isSome:=fun o=>by cases o <;> rfl
  simp only [e3,bI,e5]
  simp only [e4 _ l13 (show l13.length≤1000000 by omega),bI,len0]
  have t1:=(htk (bC plan x.Product) x.Value).2
  generalize htt:ez ps (dm set) (bC plan x.Product) x.Value=tt at *
  obtain ⟨ti,to⟩:=tt
  dsimp only at t1 ⊢
  cases hc:(to.isSome || !F||(bC plan x.Product).Inputs.isEmpty)
  ·have hto:to=none:=by cases to with | none=>rfl | some c=>simp at hc
   subst hto
   simp only [cT]
   refine (congrArg (fun o=>Option.bind o _) (dZ (l:=(bC plan x.Product).Inputs) (by omega) (fun i (s:List Za×List Zi)=>(s.1,i,s.2)) (fun s y=>((match (ez ps (dm set) (bC plan y.Product) (cH x.Value y.Value (bC plan x.Product).Price)).2 with | some c=>iy bH s.1 c | none=>s.1),s.2++[(ez ps (dm set) (bC plan y.Product) (cH x.Value y.Value (bC plan x.Product).Price)).1])) (fun s=>s) (fun j s=>s.1.length≤8*k+j∧s.2.length≤8*k+j) (l13,l17) ⟨h1,h3⟩ (fun j hj s hs=>⟨?_,?_⟩) (fun s _=>by simp only [fu,cT])).1).trans ?_
   ·obtain ⟨hy1,hy2,hy3⟩:=hq2.inp _ (List.getElem_mem hj)
    simp only [lp hj,dn,bh hj,bI,dq hj (show (bC plan x.Product).Inputs.length≤4611686018427387904 by omega)]
    rw [vg ⟨hv0,hv1⟩ ⟨hy2,hy3⟩ hq2.price,(htk (bC plan ((bC plan x.Product).Inputs[j]).Product) (cH x.Value ((bC plan x.Product).Inputs[j]).Value (bC plan x.Product).Price)).1,bI,e5,e4 _ s.1 (by omega),bI,← (htk (bC plan ((bC plan x.Product).Inputs[j]).Product) (cH x.Value ((bC plan x.Product).Inputs[j]).Value (bC plan x.Product).Price)).2,dy (by simp;omega) (by simp;omega)];rfl
   ·refine ⟨?_,by simp;omega⟩
    dsimp only
    split
    ·rename_i c' _;have:=mn (lt:=bH) s.1 c';omega
    omega
   have hfl:∀ (ys:List Zg) (s:List Za×List Zi),ys.foldl (fun s y=>((match (ez ps (dm set) (bC plan y.Product) (cH x.Value y.Value (bC plan x.Product).Price)).2 with | some c=>iy bH s.1 c | none=>s.1),s.2++[(ez ps (dm set) (bC plan y.Product) (cH x.Value y.Value (bC plan x.Product).Price)).1])) s=(((ys.map fun y=>ez ps (dm set) (bC plan y.Product) (cH x.Value y.Value (bC plan x.Product).Price)).filterMap (·.2)).foldl (iy bH) s.1,s.2++(ys.map fun y=>ez ps (dm set) (bC plan y.Product) (cH x.Value y.Value (bC plan x.Product).Price)).map (·.1)):=by
    intro ys
    induction ys with
    | nil=>intro s;simp
    | cons y ys ih =>
     intro s
     rw [List.foldl_cons,ih,List.map_cons]
     cases h:(ez ps (dm set) (bC plan y.Product) (cH x.Value y.Value (bC plan x.Product).Price)).2 with
     | none=>simp [h]
     | some c=>simp [h]
   simp only [bI,hfl]
  simp only [dn]
  rw [dy (by simp;omega) (by simp;omega),← t1]
  cases to <;> rfl
 have hfold:∀ (xs:List Zg) (s:List Za×List ByteArray×List Zi),xs.foldl (fun s x=>(((ep plan a ps (dm set) x).filterMap (·.2)).foldl (iy bH) s.1,iU plan a s.2.1 x,s.2.2++(ep plan a ps (dm set) x).map (·.1))) s=(((xs.flatMap (ep plan a ps (dm set))).filterMap (·.2)).foldl (iy bH) s.1,xs.foldl (iU plan a) s.2.1,s.2.2++(xs.flatMap (ep plan a ps (dm set))).map (·.1)):=by
  intro xs
  induction xs with
  | nil=>intro s;simp
  | cons x xs ih=>intro s;rw [List.foldl_cons,ih,List.flatMap_cons];simp
 rw [hfold]
 dsimp only
 rw [wU _ _ (by omega),bI,oO ordC,List.nil_append];rfl
end SX
end Go.Proofs.YtgmbmepakpcpaaaGreatDoor
