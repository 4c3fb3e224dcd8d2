/- A part of the proof: texts of the walk and of the plain laws, merged. No condition. -/
import Derived.Test.YtgmbmepakpcpaaaGreatDoorM3
set_option linter.unusedVariables false
set_option linter.unusedSimpArgs false
set_option maxHeartbeats 4000000
set_option maxRecDepth 100000
namespace Go.Proofs.YtgmbmepakpcpaaaGreatDoor
namespace SX
open Go
attribute [local irreducible] PWL PWC PWD POpL POpQ PEv PGuardIs PSub PPick PUpd PSplice PFill PLit PF PFV PCall FOk gi fb mz nJ jv lN Cov PHolds aO idx app mk gd lb nz ln DP sub jW dZ qQ vN fZ cK pz vP IntKind.wrap Int.tmod Int.tdiv Op.bytesLess strOfNums
def dV (p0:(List ByteArray)):Option Bool:=cond (decide (8<(p0.length:Int))) (some false) ((aO (S:=Int) (T:=(Unit)⊕(_)) (fun v2=>cond (decide (v2<(p0.length:Int))) ((idx p0 v2).bind fun m6=>(kf m6).bind fun x7=>(gd ((!(!x7))&&(decide (0<v2))) (idx p0 (IntKind.i64.wrap (v2 - 1)))).bind fun m8=>cond ((!x7)||((decide (0<v2))&&(Op.bytesLess m6.toList m8.toList||decide (m6=m8)))) (some (.inr (.inr false))) (some (.inl (IntKind.i64.wrap (v2+1))))) (some (.inr (.inl ())))) FUEL 0).bind fun q=>match q with | .inl _=>some true | .inr e=>some e)
theorem i9 {p0:(List ByteArray)} {r:Bool}  (h:dV p0=some r):PF 63 [pL eS p0] (pB r):=by
 unfold dV at h
 refine bt ?_
 refine eQ Tryz.func63 rfl Tryz.ntmps63 Tryz.results63 rfl (be [2] (by kernel_rfl) (dr (ah [5,6] [(7,pB (decide (8<(p0.length:Int))))] (by kernel_rfl) (cE rfl h (fun hc1 h=>?_) fun hc1 h=>?_))))
 ·refine af ?_
  refine fT [(2,pB false)] (by kernel_rfl) (ap ?_)
  exact zz r h rfl
 refine ai ?_
 refine dr (al [(8,pL eS p0),(9,pI (p0.length:Int)),(10,pI 0)] (by kernel_rfl) (jo h fun q4 hq4 h=>?_))
 refine aA (Y:=Unit×Unit) (fun (_,_)=>[]) (fun (_,_)=>[]) (fun (_,_)=>q4=Sum.inl ()) ?_ ?_
 ·refine aI ?_
  refine aM (Y:=Unit) (S:=Int) _ hq4 (fun _ v2=>[(0,pL eS p0),(8,pL eS p0),(9,pI (p0.length:Int)),(10,pI v2)]) (fun _ v2=>[]) () (lq rfl) ce ?_
  rintro _ v2 o τ hb3;(try dsimp only at hb3);dsimp only [aG]
  refine af (al [(11,pB (decide (v2<(p0.length:Int))))] (by kernel_rfl) (bQ (kx rfl hb3 (fun hc5 hb3=>?_) fun hc5 hb3=>?_)))
  ·refine ai ?_
   refine bQ (iA (ae hb3 fun m6 hm6 hb3=>aq [] [12,13,14] [(3,pI v2),(4,pS m6)] (eU 1 eS hm6 bG) (by kernel_rfl) (dQ hb3 fun x7 hx7 hb3=>ae hb3 fun m8 hm8 hb3=>aq [] (rg 15 15) [(30,pB ((!x7)||((decide (0<v2))&&(Op.bytesLess m6.toList m8.toList||decide (m6=m8)))))] (bJ 1 (tN hx7) (mA 11 eS (gJ hm8) bG)) (by kernel_rfl) (cE rfl hb3 (fun hc9 hb3=>?_) fun hc9 hb3=>?_))))
   ·refine af ?_
    refine fT [(2,pB false)] (by kernel_rfl) (iZ ?_)
    refine aX hb3 (fun ht=>?_);subst ht
    refine az (aU ?_)
    exact zz r h rfl
   refine ai ?_
   refine fU (ah [31] [(10,pI (IntKind.i64.wrap (v2+1)))] (by kernel_rfl) ?_)
   exact bj hb3 () (lq rfl) ce
  refine aW ?_
  refine av (an hb3 (fun ht=>ar rfl ?_))
  exact aF ((),()) qP ce ht.symm
 rintro ⟨_,_⟩ τ hz;(try dsimp only at hz);subst q4;(try dsimp only at h);dsimp only [aG]
 refine af (fT [(2,pB true)] (by kernel_rfl) ?_)
 exact zz r h rfl
def ie (p0:(List ByteArray)):Option Bool:=cond (decide (6<(p0.length:Int))) (some false) ((aO (S:=Int) (T:=(Unit)⊕(_)) (fun v2=>cond (decide (v2<(p0.length:Int))) ((idx p0 v2).bind fun m6=>(dR m6).bind fun x7=>(gd ((!(x7 == 0))&&(decide (0<v2))) (idx p0 (IntKind.i64.wrap (v2 - 1)))).bind fun m8=>cond ((x7 == 0)||((decide (0<v2))&&(Op.bytesLess m6.toList m8.toList||decide (m6=m8)))) (some (.inr (.inr false))) (some (.inl (IntKind.i64.wrap (v2+1))))) (some (.inr (.inl ())))) FUEL 0).bind fun q=>match q with | .inl _=>some true | .inr e=>some e)
theorem rB {p0:(List ByteArray)} {r:Bool}  (h:ie p0=some r):PF 189 [pL eS p0] (pB r):=by
 unfold ie at h
 refine bt ?_
 refine eQ Tryz.func189 rfl Tryz.ntmps189 Tryz.results189 rfl (be [2] (by kernel_rfl) (dr (ah [5,6] [(7,pB (decide (6<(p0.length:Int))))] (by kernel_rfl) (cE rfl h (fun hc1 h=>?_) fun hc1 h=>?_))))
 ·refine af ?_
  refine fT [(2,pB false)] (by kernel_rfl) (ap ?_)
  exact zz r h rfl
 refine ai ?_
 refine dr (al [(8,pL eS p0),(9,pI (p0.length:Int)),(10,pI 0)] (by kernel_rfl) (jo h fun q4 hq4 h=>?_))
 refine aA (Y:=Unit×Unit) (fun (_,_)=>[]) (fun (_,_)=>[]) (fun (_,_)=>q4=Sum.inl ()) ?_ ?_
 ·refine aI ?_
  refine aM (Y:=Unit) (S:=Int) _ hq4 (fun _ v2=>[(0,pL eS p0),(8,pL eS p0),(9,pI (p0.length:Int)),(10,pI v2)]) (fun _ v2=>[]) () (lq rfl) ce ?_
  rintro _ v2 o τ hb3;(try dsimp only at hb3);dsimp only [aG]
  refine af (al [(11,pB (decide (v2<(p0.length:Int))))] (by kernel_rfl) (bQ (kx rfl hb3 (fun hc5 hb3=>?_) fun hc5 hb3=>?_)))
  ·refine ai ?_
   refine bQ (iA (ae hb3 fun m6 hm6 hb3=>aq [] [12,13,14] [(3,pI v2),(4,pS m6)] (eU 1 eS hm6 bG) (by kernel_rfl) (dQ hb3 fun x7 hx7 hb3=>ae hb3 fun m8 hm8 hb3=>aq [] (rg 15 15) [(30,pB ((x7 == 0)||((decide (0<v2))&&(Op.bytesLess m6.toList m8.toList||decide (m6=m8)))))] (bJ 1 (fS hx7) (mA 11 eS (gJ hm8) bG)) (by kernel_rfl) (cE rfl hb3 (fun hc9 hb3=>?_) fun hc9 hb3=>?_))))
   ·refine af ?_
    refine fT [(2,pB false)] (by kernel_rfl) (iZ ?_)
    refine aX hb3 (fun ht=>?_);subst ht
    refine az (aU ?_)
    exact zz r h rfl
   refine ai ?_
   refine fU (ah [31] [(10,pI (IntKind.i64.wrap (v2+1)))] (by kernel_rfl) ?_)
   exact bj hb3 () (lq rfl) ce
  refine aW ?_
  refine av (an hb3 (fun ht=>ar rfl ?_))
  exact aF ((),()) qP ce ht.symm
 rintro ⟨_,_⟩ τ hz;(try dsimp only at hz);subst q4;(try dsimp only at h);dsimp only [aG]
 refine af (fT [(2,pB true)] (by kernel_rfl) ?_)
 exact zz r h rfl
def kg (rec:Zf→Option Bool) (p0:Zf):Option Bool:=(mG p0).bind fun x2=>cond (!x2) (some false) (cond (p0.Kind == 1) (some true) (cond (p0.Kind == 2) ((gd (((p0.Digits == 2)||(p0.Digits == 4))||(p0.Digits == 6)) (ie p0.Except)).bind fun x6=>(gd ((((p0.Digits == 2)||(p0.Digits == 4))||(p0.Digits == 6))&&x6) (jq p0.Tolerance)).bind fun x7=>some (((((p0.Digits == 2)||(p0.Digits == 4))||(p0.Digits == 6))&&x6)&&x7)) (cond (p0.Kind == 3) ((jq p0.Limit).bind fun x9=>some x9) (cond (p0.Kind == 4) ((dV [p0.Name]).bind fun x13=>some x13) (Option.bind (cond (p0.Kind == 5) (some (p0.Kind == 5)) (some (p0.Kind == 6))) (fun v14=>cond v14 (cond ((decide ((p0.Args.length:Int)<2))||(decide (6<(p0.Args.length:Int)))) (some false) ((aO (S:=Int) (T:=(Unit)⊕(_)) (fun v19=>cond (decide (v19<(p0.Args.length:Int))) ((idx p0.Args v19).bind fun m23=>(gd (!(m23.Kind == p0.Kind)) (rec m23)).bind fun x25=>cond ((m23.Kind == p0.Kind)||(!x25)) (some (.inr (.inr false))) (some (.inl (IntKind.i64.wrap (v19+1))))) (some (.inr (.inl ())))) FUEL 0).bind fun q=>match q with | .inl _=>some true | .inr e=>some e)) (some false)))))))
theorem tO {rec:Zf→Option Bool} (hrec:∀ {p0:Zf} {r:Bool},rec p0=some r→PF 166 [.agg (aT p0)] (pB r)) {p0:Zf} {r:Bool} (h:kg rec p0=some r):PF 166 [.agg (aT p0)] (pB r):=by
 unfold kg at h
 refine bt ?_
 refine eQ Tryz.func166 rfl Tryz.ntmps166 Tryz.results166 rfl (aa (aj rfl (br (cs:=(aT p0)) rfl rfl (fun b1=>bm [2] (by kernel_rfl) (dr (ae h fun x2 hx2 h=>aq [0] [6,7] [(8,pB (!x2))] (bJ 1 (vW hx2) bG) (by kernel_rfl) (cE rfl h (fun hc3 h=>?_) fun hc3 h=>?_)))))))
 ·refine af ?_
  refine fT [(2,pB false)] (by kernel_rfl) (ap ?_)
  exact zz r h rfl
 refine ai ?_
 refine dr (bk [0] [9] [(10,pI p0.Kind)] (by kernel_rfl) (aQ (iA (ah [12] [(11,pB (p0.Kind == 1))] (by kernel_rfl) (cE rfl h (fun hc4 h=>?_) fun hc4 h=>?_)))))
 ·refine af ?_
  refine fT [(2,pB true)] (by kernel_rfl) (iZ ?_)
  exact zz r h rfl
 refine af ?_
 refine ah [14] [(13,pB (p0.Kind == 2))] (by kernel_rfl) (cE rfl h (fun hc5 h=>?_) fun hc5 h=>?_)
 ·refine af ?_
  refine bk [0,0,0] (rg 15 13) [(3,pB (((p0.Digits == 2)||(p0.Digits == 4))||(p0.Digits == 6)))] (by kernel_rfl) (dQ h fun x6 hx6 h=>ae h fun x7 hx7 h=>aq [0,0] (rg 28 11) [(2,pB (((((p0.Digits == 2)||(p0.Digits == 4))||(p0.Digits == 6))&&x6)&&x7))] (iY 4 (fun hc=>rB (gJ hx6 hc)) (iY 9 (fun hc=>mH (gJ hx7 hc)) bG)) (by kernel_rfl) (dX (iZ ?_)))
  exact zz r h rfl
 refine af ?_
 refine ah [40] [(39,pB (p0.Kind == 3))] (by kernel_rfl) (cE rfl h (fun hc8 h=>?_) fun hc8 h=>?_)
 ·refine af ?_
  refine ae h fun x9 hx9 h=>aq [0] [41,42,43] [(2,pB x9)] (bJ 2 (mH hx9) bG) (by kernel_rfl) (dX (iZ ?_))
  exact zz r h rfl
 refine af ?_
 refine ah [45] [(44,pB (p0.Kind == 4))] (by kernel_rfl) (cE rfl h (fun hc10 h=>?_) fun hc10 h=>?_)
 ·refine af ?_
  refine aa (cw 2 [0] [46] [(47,pS p0.Name)] (by kernel_rfl) (aj rfl (bD rfl rfl rfl rfl rfl (f0 rfl ja) rfl rfl rfl rfl (fun b11=>?_))))
  refine fm (enc:=eS) (xs:=[p0.Name]) 48 rfl (by exact aD) ?_
  refine ae h fun x13 hx13 h=>gG [] [49] [(2,pB x13)] (bJ 0 (i9 hx13) bG) (by kernel_rfl) (dX (iZ ?_))
  exact zz r h rfl
 refine af ?_
 refine af (ah [51] [(50,pB (p0.Kind == 5))] (by kernel_rfl) (jo h fun q15 hq15 h=>?_))
 refine aA (Y:=Unit×Bool) (fun (_,v14)=>[(1,pP b1 0),(50,pB v14)]) (fun (_,v14)=>[PRes.b b1 84 (aT p0)]) (fun (_,v14)=>q15=v14) ?_ ?_
 ·skip
  refine kx rfl hq15 (fun hc16 hq15=>?_) fun hc16 hq15=>?_
  ·refine ai ?_
   obtain rfl:=osi hq15
   exact aF ((),(p0.Kind == 5)) (tG rfl) dB rfl
  refine ah [52] [(50,pB (p0.Kind == 6))] (by kernel_rfl) ?_
  obtain rfl:=osi hq15
  exact aF ((),(p0.Kind == 6)) (tG rfl) dB rfl
 rintro ⟨_,v14⟩ τ hz;(try dsimp only at hz);subst q15;(try dsimp only at h);dsimp only [aG]
 refine kx rfl h (fun hc17 h=>?_) fun hc17 h=>?_
 ·refine af ?_
  refine af (bk [0,0] (rg 53 9) [(62,pB ((decide ((p0.Args.length:Int)<2))||(decide (6<(p0.Args.length:Int)))))] (by kernel_rfl) (cE rfl h (fun hc18 h=>?_) fun hc18 h=>?_))
  ·refine af ?_
   refine fT [(2,pB false)] (by kernel_rfl) (ap (iZ ?_))
   exact zz r h rfl
  refine ai ?_
  refine dr (bk [0] [63] [(64,pL Zf.enc p0.Args),(65,pI (p0.Args.length:Int)),(66,pI 0)] (by kernel_rfl) (jo h fun q21 hq21 h=>?_))
  refine aA (Y:=Unit×Unit) (fun (_,_)=>[]) (fun (_,_)=>[]) (fun (_,_)=>q21=Sum.inl ()) ?_ ?_
  ·refine aI ?_
   refine aM (Y:=Unit) (S:=Int) _ hq21 (fun _ v19=>[(1,pP b1 0),(64,pL Zf.enc p0.Args),(65,pI (p0.Args.length:Int)),(66,pI v19)]) (fun _ v19=>[PRes.b b1 84 (aT p0)]) () (lq rfl) dB ?_
   rintro _ v19 o τ hb20;(try dsimp only at hb20);dsimp only [aG]
   refine af (al [(67,pB (decide (v19<(p0.Args.length:Int))))] (by kernel_rfl) (bQ (kx rfl hb20 (fun hc22 hb20=>?_) fun hc22 hb20=>?_)))
   ·refine ai ?_
    refine bQ (iA (ae hb20 fun m23 hm23 hb20=>aa (bi 2 [] [68] [(69,.agg (aT m23))] (wB 0 Zf.enc (Zf.enc_eq _) hm23 bG) (by kernel_rfl) (aj rfl (aV (cs:=[pI 0,pI 0,pN,pI 0,pI 0,pS ByteArray.empty,pN]) rfl rfl rfl rfl (fun b24=>ba rfl rfl (am (vs:=(aT m23)) rfl rfl rfl rfl rfl cP qC (aw (dQ hb20 fun x25 hx25 hb20=>aq [0,1,0] (rg 70 9) [(79,pB ((m23.Kind == p0.Kind)||(!x25)))] (iY 7 (fun hc=>hrec (gJ hx25 hc)) bG) (by kernel_rfl) (cE rfl hb20 (fun hc26 hb20=>?_) fun hc26 hb20=>?_))))))))))
    ·refine af ?_
     refine fT [(2,pB false)] (by kernel_rfl) (iZ ?_)
     refine aX hb20 (fun ht=>?_);subst ht
     refine az (aU (iZ ?_))
     exact zz r h rfl
    refine ai ?_
    refine fU (ah [80] [(66,pI (IntKind.i64.wrap (v19+1)))] (by kernel_rfl) ?_)
    exact bj hb20 () (lq rfl) (bh (ak aD) ce)
   refine aW ?_
   refine av (an hb20 (fun ht=>ar rfl ?_))
   exact aF ((),()) qP ce ht.symm
  rintro ⟨_,_⟩ τ hz;(try dsimp only at hz);subst q21;(try dsimp only at h);dsimp only [aG]
  refine af (fT [(2,pB true)] (by kernel_rfl) (iZ ?_))
  exact zz r h rfl
 refine ai ?_
 refine aH (bQ (fT [(2,pB false)] (by kernel_rfl) ?_))
 exact zz r h rfl
def mi (n:Nat):Zf→Option Bool:=Nat.rec (motive:=fun _=>Zf→Option Bool) (fun _=>none) (fun _ ih=>kg ih) n
def rC (p0:Zf):Option Bool:=mi FUEL p0
theorem u3 (n:Nat):∀ {p0:Zf} {r:Bool},mi n p0=some r→PF 166 [.agg (aT p0)] (pB r):=by
 induction n with
 | zero=>intros;rename_i h;exact nomatch h
 | succ n ih=>intros;rename_i h;exact tO (fun hr=>ih hr) h
theorem wb {p0:Zf} {r:Bool} (h:rC p0=some r):PF 166 [.agg (aT p0)] (pB r):=u3 FUEL h
def fz (p0:Zf):Option Int:=(rq p0 33).bind fun x2=>cond (decide (32<x2)) (some (8:Int)) ((rC p0).bind fun x4=>cond (!x4) (some (1:Int)) (some (0:Int)))
theorem iT {p0:Zf} {r:Int}  (h:fz p0=some r):PF 130 [.agg (aT p0)] (pI r):=by
 unfold fz at h
 refine bt ?_
 refine eQ Tryz.func130 rfl Tryz.ntmps130 Tryz.results130 rfl (aa (aj rfl (br (cs:=(aT p0)) rfl rfl (fun b1=>bm [2] (by kernel_rfl) (dr (ae h fun x2 hx2 h=>aq [0] [3,4] [(5,pB (decide (32<x2)))] (bJ 1 (vV hx2) bG) (by kernel_rfl) (cE rfl h (fun hc3 h=>?_) fun hc3 h=>?_)))))))
 ·refine af ?_
  refine fT [(2,pI 8)] (by kernel_rfl) (ap ?_)
  exact zz r h rfl
 refine ai ?_
 refine dr (ae h fun x4 hx4 h=>aq [0] [6,7] [(8,pB (!x4))] (bJ 1 (wb hx4) bG) (by kernel_rfl) (cE rfl h (fun hc5 h=>?_) fun hc5 h=>?_))
 ·refine af ?_
  refine fT [(2,pI 1)] (by kernel_rfl) (ap ?_)
  exact zz r h rfl
 refine ai ?_
 refine bQ (fT [(2,pI 0)] (by kernel_rfl) ?_)
 exact zz r h rfl
def dA (p0:Zb) (p1:ByteArray):Option (Zf×Bool):=(aO (S:=Int×Int) (T:=(Int)) (fun (v3,v4)=>cond (decide (v4<(p0.Rules.length:Int))) (((idx p0.Rules v4).bind fun m11=>(dz p1 m11.Prefix).bind fun x13=>(gd (x13&&(!(decide (v3<0)))) (idx p0.Rules v3)).bind fun m14=>cond (x13&&((decide (v3<0))||(decide ((m14.Prefix.size:Int)<(m11.Prefix.size:Int))))) (some v4) (some v3)).bind fun v9=>some (.inl (v9,(IntKind.i64.wrap (v4+1))))) (some (.inr v3))) FUEL ((-1),0)).bind fun v5=>(gd (!(decide (v5<0))) (idx p0.Rules v5)).bind fun m16=>(gd (!(decide (v5<0))) (fz m16.Rule)).bind fun x17=>cond ((decide (v5<0))||(x17 != 0)) (some ((⟨0,0,[],0,0,ByteArray.empty,[]⟩:Zf),false)) ((idx p0.Rules v5).bind fun m19=>(iC m19.Rule).bind fun x20=>some (x20,true))
theorem iI {p0:Zb} {p1:ByteArray} {r:(Zf×Bool)}  (h:dA p0 p1=some r):PF 89 [.agg (aR p0),pS p1] (.tup [.agg (aT r.1),pB r.2]):=by
 unfold dA at h
 refine bt ?_
 refine eQ Tryz.func89 rfl Tryz.ntmps89 Tryz.results89 rfl (aa (aj rfl (br (cs:=(aR p0)) rfl rfl (fun b1=>aj rfl (aV (cs:=[pI 0,pI 0,pN,pI 0,pI 0,pS ByteArray.empty,pN]) rfl rfl rfl rfl (fun b2=>bm [5] (by kernel_rfl) (bQ (al [(6,pI (-1))] (by kernel_rfl) (dr (bk [1] [9] [(10,pL Zi.enc p0.Rules),(11,pI (p0.Rules.length:Int)),(12,pI 0)] (by kernel_rfl) (jo h fun q7 hq7 h=>?_)))))))))))
 refine aA (Y:=Unit×Int) (fun (_,v5)=>[(2,pP b1 0),(4,pP b2 0),(6,pI v5)]) (fun (_,v5)=>[PRes.b b1 81 (aR p0),PRes.b b2 84 [pI 0,pI 0,pN,pI 0,pI 0,pS ByteArray.empty,pN]]) (fun (_,v5)=>q7=v5) ?_ ?_
 ·refine aI ?_
  refine aM (Y:=Unit) (S:=Int×Int) _ hq7 (fun _ (v3,v4)=>[(1,pS p1),(2,pP b1 0),(4,pP b2 0),(6,pI v3),(10,pL Zi.enc p0.Rules),(11,pI (p0.Rules.length:Int)),(12,pI v4)]) (fun _ (v3,v4)=>[PRes.b b1 81 (aR p0),PRes.b b2 84 [pI 0,pI 0,pN,pI 0,pI 0,pS ByteArray.empty,pN]]) () (rm rfl) (bh (ak aD) dB) ?_
  rintro _ ⟨v3,v4⟩ o τ hb6;(try dsimp only at hb6);dsimp only [aG]
  refine af (al [(13,pB (decide (v4<(p0.Rules.length:Int))))] (by kernel_rfl) (bQ (kx rfl hb6 (fun hc8 hb6=>?_) fun hc8 hb6=>?_)))
  ·refine ai ?_
   refine dQ hb6 fun q10 hq10 hb6=>?_
   refine aA (Y:=Unit×Int) (fun (_,v9)=>[(1,pS p1),(2,pP b1 0),(4,pP b2 0),(6,pI v9),(10,pL Zi.enc p0.Rules),(11,pI (p0.Rules.length:Int)),(12,pI v4)]) (fun (_,v9)=>[PRes.b b1 81 (aR p0),PRes.b b2 84 [pI 0,pI 0,pN,pI 0,pI 0,pS ByteArray.empty,pN]]) (fun (_,v9)=>q10=v9) ?_ ?_
   ·skip
    refine iA (ae hq10 fun m11 hm11 hq10=>aa (bi 3 [] [15] [(14,pI v4),(16,.agg (ed m11))] (eU 1 Zi.enc hm11 bG) (by kernel_rfl) (aj rfl (aV (cs:=[pS ByteArray.empty,pI 0,pI 0,pN,pI 0,pI 0,pS ByteArray.empty,pN]) rfl rfl rfl rfl (fun b12=>au 1 [(7,pI v4)] (by kernel_rfl) (ba rfl rfl (am (vs:=(ed m11)) rfl rfl rfl rfl rfl cP zl8 (aw (bQ (co (ρd:=[]) [(0,0),(1,0),(2,0),(3,1),(4,0),(5,0),(6,0),(7,0),(8,0),(9,0),(10,0),(11,0),(12,0),(13,0),(14,0),(15,0),(16,0),(17,0),(18,0),(19,0),(20,0)] _ (List.Perm.refl _) (by kernel_rfl) rfl (ae hq10 fun x13 hx13 hq10=>ae hq10 fun m14 hm14 hq10=>cC 21 [0,0,1] (rg 17 20) [(37,pB (x13&&((decide (v3<0))||(decide ((m14.Prefix.size:Int)<(m11.Prefix.size:Int))))))] (bJ 3 (iB hx13) (mA 14 Zi.enc (gJ hm14) bG)) (by kernel_rfl) (cQ (cE rfl hq10 (fun hc15 hq10=>?_) fun hc15 hq10=>?_)))))))))))))
    ·refine ah [38] [(6,pI v4)] (by kernel_rfl) ?_
     refine aH ?_
     obtain rfl:=osi hq10
     exact aF ((),v4) (rm rfl) (bh (ak aD) (bh (ak aD) ce)) rfl
    refine ai ?_
    refine aH ?_
    obtain rfl:=osi hq10
    exact aF ((),v3) (rm rfl) (bh (ak aD) (bh (ak aD) ce)) rfl
   rintro ⟨_,v9⟩ τ hz;(try dsimp only at hz);subst q10;(try dsimp only at hb6);dsimp only [aG]
   refine ah [39] [(12,pI (IntKind.i64.wrap (v4+1)))] (by kernel_rfl) ?_
   exact bj hb6 () (rm rfl) qV
  refine aW ?_
  refine av (an hb6 (fun ht=>ar rfl ?_))
  exact aF ((),v3) (qW rfl) qV ht.symm
 rintro ⟨_,v5⟩ τ hz;(try dsimp only at hz);subst q7;(try dsimp only at h);dsimp only [aG]
 refine af (af (ae h fun m16 hm16 h=>ae h fun x17 hx17 h=>aq [0] (rg 40 11) [(51,pB ((decide (v5<0))||(x17 != 0)))] (mA 6 Zi.enc (gJ hm16) (iY 9 (fun hc=>iT (gJ hx17 hc)) bG)) (by kernel_rfl) (cE rfl h (fun hc18 h=>?_) fun hc18 h=>?_)))
 ·refine af ?_
  refine aa (au 1 [(52,.agg [pI 0,pI 0,pN,pI 0,pI 0,pS ByteArray.empty,pN])] (by kernel_rfl) (ba rfl rfl (am (vs:=[pI 0,pI 0,pN,pI 0,pI 0,pS ByteArray.empty,pN]) rfl rfl rfl rfl rfl (dl cP) qC (aS [(5,pB false)] (by kernel_rfl) (aQ (d9 (k:=2) (b:=b2) rfl (dl cP) (d9 (k:=6) (b:=b2) rfl (dl cP) (cd (ap ?_)))))))))
  obtain rfl:=osi h
  exact aL (dH (gA rfl tF rfl) (aN rfl)) ce ⟨rfl,rfl⟩
 refine ai ?_
 refine dQ h fun m19 hm19 h=>ae h fun x20 hx20 h=>aa (bi 7 [0] (rg 53 6) [(59,.agg (aT x20))] (eU 3 Zi.enc hm19 (bJ 6 (nO hx20) bG)) (by kernel_rfl) (ba rfl rfl (am (vs:=(aT x20)) rfl rfl rfl rfl rfl (dl cP) qC (aS [(5,pB true)] (by kernel_rfl) (dX ?_)))))
 obtain rfl:=osi h
 exact aL (dH (gA rfl tF rfl) (aN rfl)) ce ⟨rfl,rfl⟩
def cq (p0:(List Zc)) (p1:(List Zb)) (p2:ByteArray) (p3:Za):Option Bool:=(cY p0 p3.Product).bind fun x2=>cond (!x2.2) (some false) ((eE p1 p3.Agreement).bind fun x5=>(gd (!((!x5.2)||(decide (x2.1.Country=p2)))) (dC x5.1 x2.1.Country p2)).bind fun x7=>cond (((!x5.2)||(decide (x2.1.Country=p2)))||(!x7)) (some false) ((dA x5.1 x2.1.Code).bind fun x9=>some x9.2))
theorem eW {p0:(List Zc)} {p1:(List Zb)} {p2:ByteArray} {p3:Za} {r:Bool}  (h:cq p0 p1 p2 p3=some r):PF 44 [pL Zc.enc p0,pL Zb.enc p1,pS p2,.agg [pI p3.Product,pI p3.Agreement]] (pB r):=by
 unfold cq at h
 refine bt ?_
 refine eQ Tryz.func44 rfl Tryz.ntmps44 Tryz.results44 rfl (aa (aj rfl (br (cs:=[pI p3.Product,pI p3.Agreement]) rfl rfl (fun b1=>bm [8] (by kernel_rfl) (dQ h fun x2 hx2 h=>aa (bi 7 [0] [13,14,15,16,12] [(17,.agg (bd x2.1)),(18,pB x2.2)] (bJ 3 (eM hx2) bG) (by kernel_rfl) (aj rfl (aV (cs:=[pI 0,pS ByteArray.empty,pS ByteArray.empty,pI 0,pB false,pN,pN]) rfl rfl rfl rfl (fun b3=>ba rfl rfl (am (vs:=(bd x2.1)) rfl rfl rfl rfl rfl cP qC (aS [(10,pB x2.2)] (by kernel_rfl) (dr (ah [19] [(20,pB (!x2.2))] (by kernel_rfl) (cE rfl h (fun hc4 h=>?_) fun hc4 h=>?_))))))))))))))
 ·refine af ?_
  refine fT [(8,pB false)] (by kernel_rfl) (ap ?_)
  exact zz r h rfl
 refine ai ?_
 refine dQ h fun x5 hx5 h=>aa (bi 7 [1] [22,23,24,25,21] [(26,.agg (aR x5.1)),(27,pB x5.2)] (bJ 3 (gW hx5) bG) (by kernel_rfl) (aj rfl (aV (cs:=[pI 0,pI 0,pN,pN]) rfl rfl rfl rfl (fun b6=>ba rfl rfl (am (vs:=(aR x5.1)) rfl rfl rfl rfl rfl cP wA (aS [(10,pB x5.2)] (by kernel_rfl) (dr (ae h fun x7 hx7 h=>aq [1,0,1] (rg 28 15) [(43,pB (((!x5.2)||(decide (x2.1.Country=p2)))||(!x7)))] (iY 13 (fun hc=>jf (gJ hx7 hc)) bG) (by kernel_rfl) (cE rfl h (fun hc8 h=>?_) fun hc8 h=>?_)))))))))
 ·refine af ?_
  refine fT [(8,pB false)] (by kernel_rfl) (ap ?_)
  exact zz r h rfl
 refine ai ?_
 refine dQ h fun x9 hx9 h=>aq [0,1] [45,46,47,48,44,49,50] [(10,pB x9.2)] (bJ 3 (iI hx9) bG) (by kernel_rfl) (bQ (ah [51] [(8,pB x9.2)] (by kernel_rfl) (dX ?_)))
 exact zz r h rfl
def fe (p0:Zi) (p1:Zi):Option Bool:=(gd (decide (p0.Prefix=p1.Prefix)) (fz p0.Rule)).bind fun x3=>(gd ((decide (p0.Prefix=p1.Prefix))&&(x3 == 0)) (iD p0.Rule p1.Rule)).bind fun x4=>some (((decide (p0.Prefix=p1.Prefix))&&(x3 == 0))&&x4)
theorem mM {p0:Zi} {p1:Zi} {r:Bool}  (h:fe p0 p1=some r):PF 135 [.agg (ed p0),.agg (ed p1)] (pB r):=by
 unfold fe at h
 refine bt ?_
 refine eQ Tryz.func135 rfl Tryz.ntmps135 Tryz.results135 rfl (aa (aj rfl (br (cs:=(ed p0)) rfl rfl (fun b1=>aj rfl (br (cs:=(ed p1)) rfl rfl (fun b2=>bm [4] (by kernel_rfl) (dQ h fun x3 hx3 h=>ae h fun x4 hx4 h=>aq [1,0,1,1,0] (rg 5 18) [(4,pB (((decide (p0.Prefix=p1.Prefix))&&(x3 == 0))&&x4))] (iY 8 (fun hc=>iT (gJ hx3 hc)) (iY 16 (fun hc=>nP (gJ hx4 hc)) bG)) (by kernel_rfl) (dX ?_))))))))
 exact zz r h rfl
def eH (p0:(List Zi)) (p1:(List Zi)):Option Bool:=(bo p0 p1 (fun y1 y2=>fe y1 y2)).bind fun x3=>some x3
theorem ny {p0:(List Zi)} {p1:(List Zi)} {r:Bool}  (h:eH p0 p1=some r):PF 95 [pL Zi.enc p0,pL Zi.enc p1] (pB r):=by
 unfold eH at h
 refine bt ?_
 refine eQ Tryz.func95 rfl Tryz.ntmps95 Tryz.results95 rfl (be [4] (by kernel_rfl) (dQ h fun x3 hx3 h=>aq [] [5,6,7] [(4,pB x3)] (bJ 2 (dM (fun hr=>ri (mM hr)) hx3) bG) (by kernel_rfl) (dX ?_)))
 exact zz r h rfl
def eC (p0:(List Zb)) (p1:Int) (p2:ByteArray) (p3:ByteArray):Option (List Int):=(eE p0 p1).bind fun x1=>cond (!x1.2) (some []) (cond (x1.1.Kind != 2) (some [p1]) ((aO (S:=(List Int)×Int) (T:=((List Int))) (fun (l8,v11)=>cond (decide (v11<(p0.length:Int))) (((idx p0 v11).bind fun m24=>(gd (m24.ID != p1) (dC m24 p2 p3)).bind fun x26=>(gd ((m24.ID != p1)&&x26) (eH x1.1.Rules m24.Rules)).bind fun x27=>cond (((m24.ID != p1)&&x26)&&x27) ((app 8 l8 [m24.ID]).bind fun l31=>some l31) (some l8)).bind fun l22=>some (.inl (l22,(IntKind.i64.wrap (v11+1))))) (some (.inr l8))) FUEL ([p1],0)).bind fun l15=>some l15))
theorem kh {p0:(List Zb)} {p1:Int} {p2:ByteArray} {p3:ByteArray} {r:(List Int)}  (h:eC p0 p1 p2 p3=some r):PF 47 [pL Zb.enc p0,pI p1,pS p2,pS p3] (pL eI r):=by
 unfold eC at h
 refine bt ?_
 refine eQ Tryz.func47 rfl Tryz.ntmps47 Tryz.results47 rfl (be [8] (by kernel_rfl) (dQ h fun x1 hx1 h=>aa (bi 6 [] [15,16,17,14] [(18,.agg (aR x1.1)),(19,pB x1.2)] (bJ 2 (gW hx1) bG) (by kernel_rfl) (aj rfl (aV (cs:=[pI 0,pI 0,pN,pN]) rfl rfl rfl rfl (fun b2=>ba rfl rfl (am (vs:=(aR x1.1)) rfl rfl rfl rfl rfl cP wA (aS [(10,pB x1.2)] (by kernel_rfl) (dr (ah [20] [(21,pB (!x1.2))] (by kernel_rfl) (cE rfl h (fun hc3 h=>?_) fun hc3 h=>?_)))))))))))
 ·refine af ?_
  refine al [(8,pN)] (by kernel_rfl) (aQ (jn 8 rfl (cd (ap ?_))))
  exact zz r h rfl
 refine ai ?_
 refine bQ (aa (au 1 [(22,pI p1)] (by kernel_rfl) (aj rfl (bD rfl rfl rfl rfl rfl (f0 rfl ja) rfl rfl rfl rfl (fun b4=>aS [(11,pO (some ⟨b4,0,none⟩) 1 1)] (by kernel_rfl) (dr (bk [1] [24,25] [(26,pB (x1.1.Kind != 2))] (by kernel_rfl) (cE rfl h (fun hc6 h=>?_) fun hc6 h=>?_))))))))
 ·refine af ?_
  refine ah [27] [(8,pO (some ⟨b4,0,none⟩) 1 1)] (by kernel_rfl) (aQ ?_)
  refine fk (enc:=eI) (xs:=[p1]) 8 rfl (by exact aD) ?_
  refine cd (ap ?_)
  exact zz r h rfl
 refine ai ?_
 refine dr (al [(28,pL Zb.enc p0),(29,pI (p0.length:Int)),(30,pI 0)] (by kernel_rfl) (jo h fun q17 hq17 h=>?_))
 refine aA (Y:=(Option Addr×Nat)×((List Int))) (fun ((a13,c14),l15)=>[(11,pO a13 l15.length c14)]) (fun ((a13,c14),l15)=>[PRes.row a13 l15.length c14 3 1 (List.map eI l15)]) (fun ((a13,c14),l15)=>q17=l15) ?_ ?_
 ·refine aI ?_
  refine aM (Y:=Option Addr×Nat) (S:=(List Int)×Int) _ hq17 (fun (a9,c10) (l8,v11)=>[(1,pI p1),(2,pS p2),(3,pS p3),(9,pP b2 0),(11,pO a9 l8.length c10),(28,pL Zb.enc p0),(29,pI (p0.length:Int)),(30,pI v11)]) (fun (a9,c10) (l8,v11)=>[PRes.b b2 81 (aR x1.1),PRes.row a9 l8.length c10 3 1 (List.map eI l8)]) ((some ⟨b4,0,none⟩),1) (rn rfl) (bh (ak aD) dB) ?_
  rintro ⟨a9,c10⟩ ⟨l8,v11⟩ o τ hb16;(try dsimp only at hb16);dsimp only [aG]
  refine af (al [(31,pB (decide (v11<(p0.length:Int))))] (by kernel_rfl) (bQ (kx rfl hb16 (fun hc18 hb16=>?_) fun hc18 hb16=>?_)))
  ·refine ai ?_
   refine dQ hb16 fun q23 hq23 hb16=>?_
   refine aA (Y:=(Option Addr×Nat)×((List Int))) (fun ((a20,c21),l22)=>[(1,pI p1),(2,pS p2),(3,pS p3),(9,pP b2 0),(11,pO a20 l22.length c21),(28,pL Zb.enc p0),(29,pI (p0.length:Int)),(30,pI v11)]) (fun ((a20,c21),l22)=>[PRes.b b2 81 (aR x1.1),PRes.row a20 l22.length c21 3 1 (List.map eI l22)]) (fun ((a20,c21),l22)=>q23=l22) ?_ ?_
   ·skip
    refine iA (ae hq23 fun m24 hm24 hq23=>aa (bi 2 [] [32] [(33,.agg (aR m24))] (eU 0 Zb.enc hm24 bG) (by kernel_rfl) (aj rfl (aV (cs:=[pI 0,pI 0,pN,pN]) rfl rfl rfl rfl (fun b25=>ba rfl rfl (am (vs:=(aR m24)) rfl rfl rfl rfl rfl cP wA (aw (dQ hq23 fun x26 hx26 hq23=>ae hq23 fun x27 hx27 hq23=>aq [0,0,1,0] (rg 34 16) [(50,pB (((m24.ID != p1)&&x26)&&x27))] (iY 8 (fun hc=>jf (gJ hx26 hc)) (iY 15 (fun hc=>ny (gJ hx27 hc)) bG)) (by kernel_rfl) (cE rfl hq23 (fun hc28 hq23=>?_) fun hc28 hq23=>?_)))))))))
    ·refine aa ?_
     refine cw 3 [0] [52] [(51,pO a9 l8.length c10),(53,pI m24.ID)] (by kernel_rfl) (aj rfl (bD rfl rfl rfl rfl rfl (f0 rfl ja) rfl rfl rfl rfl (fun b29=>ae hq23 fun l31 hl31 hq23=>?_)))
     refine aj rfl (bT (enc:=eI) rfl rfl rfl rfl rfl rfl rfl rfl rfl e8 (by exact ak (ak (ak aD))) hl31 (fun a32 c33=>?_))
     refine aS [(11,pO a32 l31.length c33)] (by kernel_rfl) (aH ?_)
     obtain rfl:=osi hq23
     exact aF ((a32,c33),l31) (rn rfl) (bh (ak (ak (ak aD))) dB) rfl
    refine ai ?_
    refine aH ?_
    obtain rfl:=osi hq23
    exact aF ((a9,c10),l8) (rn rfl) (bh (ak aD) (bh (ak aD) ce)) rfl
   rintro ⟨⟨a20,c21⟩,l22⟩ τ hz;(try dsimp only at hz);subst q23;(try dsimp only at hb16);dsimp only [aG]
   refine ah [56] [(30,pI (IntKind.i64.wrap (v11+1)))] (by kernel_rfl) ?_
   exact bj hb16 (a20,c21) (rn rfl) qV
  refine aW ?_
  refine av (an hb16 (fun ht=>ar rfl ?_))
  exact aF ((a9,c10),l8) (wz rfl) (bh (ak aD) ce) ht.symm
 rintro ⟨⟨a13,c14⟩,l15⟩ τ hz;(try dsimp only at hz);subst q17;(try dsimp only at h);dsimp only [aG]
 refine af (ah [57] [(8,pO a13 l15.length c14)] (by kernel_rfl) (aQ ?_))
 refine fk (enc:=eI) (xs:=l15) 8 rfl (by exact aD) ?_
 refine cd ?_
 exact zz r h rfl
def jI (p0:(List ByteArray)) (p1:(List ByteArray)):Option (List ByteArray):=(df [p0,p1]).bind fun x3=>(i4 x3).bind fun x7=>(dN x7).bind fun x8=>some x8
theorem u6 {p0:(List ByteArray)} {p1:(List ByteArray)} {r:(List ByteArray)}  (h:jI p0 p1=some r):PF 97 [pL eS p0,pL eS p1] (pL eS r):=by
 unfold jI at h
 refine bt ?_
 refine eQ Tryz.func97 rfl Tryz.ntmps97 Tryz.results97 rfl (be [4] (by kernel_rfl) (bQ (aa (au 2 [(6,pL eS p0),(7,pL eS p1)] (by kernel_rfl) (aj rfl (bD rfl rfl rfl rfl rfl (f0 rfl (f0 rfl ja)) rfl rfl rfl rfl (fun b1=>?_)))))))
 refine fm (enc:=(eL eS)) (xs:=[p0,p1]) 8 rfl (by exact aD) ?_
 refine ae h fun x3 hx3 h=>?_
 refine aj rfl (bf rfl rfl (ρ1:=[]) (List.Perm.refl _) (kM hx3) ?_);rintro _ _ ⟨a4,c5,rfl,rfl⟩
 refine aS [(5,pO a4 x3.length c5)] (by kernel_rfl) (dQ h fun x7 hx7 h=>aa (au 1 [(10,pO a4 x3.length c5)] (by kernel_rfl) ?_))
 refine aj rfl (bf rfl rfl (ρ1:=[_]) (aC (by exact aD) (List.Perm.refl _)) (lJ hx7) ?_);rintro _ _ ⟨rfl,rfl⟩
 refine aw (dQ h fun x8 hx8 h=>aa (au 1 [(12,pO a4 x3.length c5)] (by kernel_rfl) ?_))
 refine aj rfl (bf rfl rfl (ρ1:=[_]) (aC (by exact aD) (List.Perm.refl _)) (ky hx8) ?_);rintro _ _ ⟨a9,c10,rfl,rfl⟩
 refine aS [(4,pO a9 x8.length c10)] (by kernel_rfl) (aQ ?_)
 refine fk (enc:=eS) (xs:=x8) 4 rfl (by exact aD) ?_
 refine cd ?_
 exact zz r h rfl
def ff (p0:(List Zc)) (p1:Zb) (p2:Zc) (p3:Zt):Option ((List Ze)×(List ByteArray)):=(bZ p2.Processes).bind fun x4=>(aO (S:=(List Ze)×(List ByteArray)×Int) (T:=((List Ze)×(List ByteArray))) (fun (l9,l12,v13)=>cond (decide (v13<(p2.Inputs.length:Int))) (((idx p2.Inputs v13).bind fun m29=>(cY p0 m29.Product).bind fun x31=>(gd (p1.Kind == 3) (bO p1.Parties x31.1.Country)).bind fun x33=>Option.bind (cond ((p1.Kind == 3)&&x33) ((jI l12 x31.1.Processes).bind fun x38=>some x38) (some l12)) (fun l35=>(da p3 x31.1 m29.Value).bind fun x39=>cond (((Ze.is_proved_ x39)||(!((p1.Kind == 3)&&x33)))||((x31.1.Inputs.length:Int) == 0)) ((app 16 l9 [x39]).bind fun l44=>some (l44,l35)) ((aO (S:=(List Ze)×Int) (T:=((List Ze))) (fun (l49,v52)=>cond (decide (v52<(x31.1.Inputs.length:Int))) ((idx x31.1.Inputs v52).bind fun m60=>(cY p0 m60.Product).bind fun x62=>(fJ m29.Value m60.Value x31.1.Price).bind fun x64=>(da p3 x62.1 x64).bind fun x65=>(app 16 l49 [x65]).bind fun l68=>some (.inl (l68,(IntKind.i64.wrap (v52+1))))) (some (.inr l49))) FUEL (l9,0)).bind fun l56=>some (l56,l35)))).bind fun (l26,l27)=>some (.inl (l26,l27,(IntKind.i64.wrap (v13+1))))) (some (.inr (l9,l12)))) FUEL (([]:List Ze),x4,0)).bind fun (l17,l18)=>(sub l18 0 (pz (l18.length:Int) 8)).bind fun l73=>some (l17,l73)
theorem lw {p0:(List Zc)} {p1:Zb} {p2:Zc} {p3:Zt} {m3_set_:Nat} {r:((List Ze)×(List ByteArray))}  (h:ff p0 p1 p2 p3=some r):PCall 48 [pL Zc.enc p0,.agg (aR p1),.agg (bd p2),.agg [pL eI p3.partners,.v (.map (some m3_set_))]] [PRes.mp (some m3_set_) (fF Za.key vT p3.set_)] (fun pv ρ'=>pv=.tup [pL Ze.enc r.1,pL eS r.2]∧ρ'=[PRes.mp (some m3_set_) (fF Za.key vT p3.set_)]):=by
 unfold ff at h
 refine eQ Tryz.func48 rfl Tryz.ntmps48 Tryz.results48 rfl (aa (aj rfl (br (cs:=(aR p1)) rfl rfl (fun b1=>aj rfl (br (cs:=(bd p2)) rfl rfl (fun b2=>aj rfl (br (cs:=[pL eI p3.partners,.v (.map (some m3_set_))]) rfl rfl (fun b3=>bm [8,9] (by kernel_rfl) (bQ (al [(10,pN)] (by kernel_rfl) (dQ h fun x4 hx4 h=>aa (cw 2 [1] [24] [(25,pL eS p2.Processes)] (by kernel_rfl) ?_))))))))))))
 refine aj rfl (bf rfl rfl (ρ1:=[]) (List.Perm.refl _) (eY hx4) ?_);rintro _ _ ⟨a5,c6,rfl,rfl⟩
 refine aS [(11,pO a5 x4.length c6)] (by kernel_rfl) (dr (bk [2] [27] [(28,pL Zh.enc p2.Inputs),(29,pI (p2.Inputs.length:Int)),(30,pI 0)] (by kernel_rfl) (aQ (cA 101 1 ?_))))
 refine fk (enc:=eS) (xs:=x4) 11 rfl (by exact ak aD) ?_
 refine ae h fun q20 hq20 h=>?_
 refine aA (Y:=(Option Addr×Nat)×((List Ze)×(List ByteArray))) (fun ((a15,c16),(l17,l18))=>[(10,pO a15 l17.length c16),(11,pL eS l18)]) (fun ((a15,c16),(l17,l18))=>[PRes.mp (some m3_set_) (fF Za.key vT p3.set_),PRes.row a15 l17.length c16 101 1 (List.map Ze.enc l17)]) (fun ((a15,c16),(l17,l18))=>q20=(l17,l18)) ?_ ?_
 ·refine aI ?_
  refine aM (Y:=Option Addr×Nat) (S:=(List Ze)×(List ByteArray)×Int) _ hq20 (fun (a10,c11) (l9,l12,v13)=>[(0,pL Zc.enc p0),(5,pP b1 0),(7,pP b3 0),(10,pO a10 l9.length c11),(11,pL eS l12),(28,pL Zh.enc p2.Inputs),(29,pI (p2.Inputs.length:Int)),(30,pI v13)]) (fun (a10,c11) (l9,l12,v13)=>[PRes.b b1 81 (aR p1),PRes.b b3 96 [pL eI p3.partners,.v (.map (some m3_set_))],PRes.mp (some m3_set_) (fF Za.key vT p3.set_),PRes.row a10 l9.length c11 101 1 (List.map Ze.enc l9)]) (none,0) (rn rfl) (bh (ak (ak (ak (ak aD)))) (bh (ak (ak aD)) (bh (ak (ak (ak aD))) (bh (ak aD) ce)))) ?_
  rintro ⟨a10,c11⟩ ⟨l9,l12,v13⟩ o τ hb19;(try dsimp only at hb19);dsimp only [aG]
  refine af (al [(31,pB (decide (v13<(p2.Inputs.length:Int))))] (by kernel_rfl) (bQ (kx rfl hb19 (fun hc22 hb19=>?_) fun hc22 hb19=>?_)))
  ·refine ai ?_
   refine dQ hb19 fun q28 hq28 hb19=>?_
   refine aA (Y:=(Option Addr×Nat)×((List Ze)×(List ByteArray))) (fun ((a24,c25),(l26,l27))=>[(0,pL Zc.enc p0),(5,pP b1 0),(7,pP b3 0),(10,pO a24 l26.length c25),(11,pL eS l27),(28,pL Zh.enc p2.Inputs),(29,pI (p2.Inputs.length:Int)),(30,pI v13)]) (fun ((a24,c25),(l26,l27))=>[PRes.b b1 81 (aR p1),PRes.b b3 96 [pL eI p3.partners,.v (.map (some m3_set_))],PRes.mp (some m3_set_) (fF Za.key vT p3.set_),PRes.row a24 l26.length c25 101 1 (List.map Ze.enc l26)]) (fun ((a24,c25),(l26,l27))=>q28=(l26,l27)) ?_ ?_
   ·skip
    refine iA (ae hq28 fun m29 hm29 hq28=>aa (bi 2 [] [32] [(33,.agg [pI m29.Product,pI m29.Value])] (eU 0 Zh.enc hm29 bG) (by kernel_rfl) (aj rfl (aV (cs:=[pI 0,pI 0]) rfl rfl rfl rfl (fun b30=>ba rfl rfl (am (vs:=[pI m29.Product,pI m29.Value]) rfl rfl rfl rfl rfl cP B4 (aw (dQ hq28 fun x31 hx31 hq28=>aa (bi 7 [0] [35,36,37,38,34] [(39,.agg (bd x31.1)),(40,pB x31.2)] (bJ 3 (eM hx31) bG) (by kernel_rfl) (aj rfl (aV (cs:=[pI 0,pS ByteArray.empty,pS ByteArray.empty,pI 0,pB false,pN,pN]) rfl rfl rfl rfl (fun b32=>ba rfl rfl (am (vs:=(bd x31.1)) rfl rfl rfl rfl rfl cP qC (bm [15] (by kernel_rfl) (dQ hq28 fun x33 hx33 hq28=>aq [2,2,0] (rg 41 10) [(16,pB ((p1.Kind == 3)&&x33))] (iY 8 (fun hc=>de (gJ hx33 hc)) bG) (by kernel_rfl) (dr (al [(51,pB ((p1.Kind == 3)&&x33))] (by kernel_rfl) (jo hq28 fun q36 hq36 hq28=>?_))))))))))))))))))
    refine aA (Y:=Unit×((List ByteArray))) (fun (_,l35)=>[(0,pL Zc.enc p0),(5,pP b1 0),(7,pP b3 0),(10,pO a10 l9.length c11),(11,pL eS l35),(13,pP b30 0),(14,pP b32 0),(16,pB ((p1.Kind == 3)&&x33)),(28,pL Zh.enc p2.Inputs),(29,pI (p2.Inputs.length:Int)),(30,pI v13)]) (fun (_,l35)=>[PRes.b b1 81 (aR p1),PRes.b b3 96 [pL eI p3.partners,.v (.map (some m3_set_))],PRes.b b30 78 [pI m29.Product,pI m29.Value],PRes.b b32 76 (bd x31.1),PRes.mp (some m3_set_) (fF Za.key vT p3.set_),PRes.row a10 l9.length c11 101 1 (List.map Ze.enc l9)]) (fun (_,l35)=>q36=l35) ?_ ?_
    ·skip
     refine kx rfl hq36 (fun hc37 hq36=>?_) fun hc37 hq36=>?_
     ·refine ae hq36 ?_;clear hq36;intro x38 hx38 hq36
      refine aq [0] [52,53,54,55] [(11,pL eS x38)] (bJ 3 (u6 hx38) bG) (by kernel_rfl) ?_
      obtain rfl:=osi hq36
      exact aF ((),x38) (i6 rfl (i6 rfl (DR rfl))) (bh (ak (ak aD)) (bh (ak (ak aD)) (bh (ak aD) zs3))) rfl
     refine ai ?_
     obtain rfl:=osi hq36
     exact aF ((),l12) (i6 rfl (i6 rfl (DR rfl))) (bh (ak (ak aD)) (bh (ak (ak aD)) (bh (ak aD) zs3))) rfl
    rintro ⟨_,l35⟩ τ hz;(try dsimp only at hz);subst q36;(try dsimp only at hq28);dsimp only [aG]
    refine af (ae hq28 fun x39 hx39 hq28=>aa (cw 4 [1,3,2] [58] [(56,.agg [pL eI p3.partners,.v (.map (some m3_set_))]),(57,.agg (bd x31.1)),(59,pI m29.Value)] (by kernel_rfl) ?_))
    refine aj rfl (bf rfl rfl (ρ1:=[_]) (aC (by exact ak (ak (ak (ak aD)))) (List.Perm.refl _)) (im hx39) ?_);rintro _ _ ⟨rfl,rfl⟩
    refine aS [(17,Ze.pv x39)] (by kernel_rfl) (dr (aa (bi 5 [] [62,63,61] [(64,.agg [pS ((((Ze.as_proved_ x39)).use).Code),pI ((((Ze.as_proved_ x39)).use).Value),pB ((((Ze.as_proved_ x39)).use).Originating),pI ((((Ze.as_proved_ x39)).premise).Product),pI ((((Ze.as_proved_ x39)).premise).Agreement)]),(65,pB (Ze.is_proved_ x39))] (fota 1 (Ze.ta_proved_ x39) bG) (by kernel_rfl) (aj rfl (aV (cs:=[pS ByteArray.empty,pI 0,pB false,pI 0,pI 0]) rfl rfl rfl rfl (fun b40=>ba rfl rfl (am (vs:=[pS ((((Ze.as_proved_ x39)).use).Code),pI ((((Ze.as_proved_ x39)).use).Value),pB ((((Ze.as_proved_ x39)).use).Originating),pI ((((Ze.as_proved_ x39)).premise).Product),pI ((((Ze.as_proved_ x39)).premise).Agreement)]) rfl rfl rfl rfl rfl cP EH (aS [(19,pB (Ze.is_proved_ x39))] (by kernel_rfl) (bQ (bk [5] (rg 66 10) [(76,pB (((Ze.is_proved_ x39)||(!((p1.Kind == 3)&&x33)))||((x31.1.Inputs.length:Int) == 0)))] (by kernel_rfl) (cE rfl hq28 (fun hc41 hq28=>?_) fun hc41 hq28=>?_)))))))))))
    ·refine af ?_
     refine aa (au 2 [(77,pO a10 l9.length c11),(78,Ze.pv x39)] (by kernel_rfl) (aj rfl (bD rfl rfl rfl rfl rfl (f0 rfl ja) rfl rfl rfl rfl (fun b42=>ae hq28 fun l44 hl44 hq28=>?_))))
     refine aj rfl (bT (enc:=Ze.enc) rfl rfl rfl rfl rfl rfl rfl rfl rfl e8 (by exact ak (ak (ak (ak (ak (ak (ak aD))))))) hl44 (fun a45 c46=>?_))
     refine aS [(10,pO a45 l44.length c46)] (by kernel_rfl) (aQ (aW (av (ar rfl ?_))))
     obtain rfl:=osi hq28
     exact aF ((a45,c46),(l44,l35)) (rn rfl) (bh (ak (ak (ak (ak aD)))) (bh (ak (ak (ak (ak aD)))) (bh (ak (ak (ak aD))) dB))) rfl
    refine ai ?_
    refine bQ (bk [5] [81] [(82,pL Zh.enc x31.1.Inputs),(83,pI (x31.1.Inputs.length:Int)),(84,pI 0)] (by kernel_rfl) (jo hq28 fun q58 hq58 hq28=>?_))
    refine ll (Y:=(Option Addr×Nat)×((List Ze))) (fun ((a54,c55),l56)=>[(0,pL Zc.enc p0),(5,pP b1 0),(7,pP b3 0),(10,pO a54 l56.length c55),(11,pL eS l35),(28,pL Zh.enc p2.Inputs),(29,pI (p2.Inputs.length:Int)),(30,pI v13)]) (fun ((a54,c55),l56)=>[PRes.b b1 81 (aR p1),PRes.b b3 96 [pL eI p3.partners,.v (.map (some m3_set_))],PRes.mp (some m3_set_) (fF Za.key vT p3.set_),PRes.row a54 l56.length c55 101 1 (List.map Ze.enc l56)]) (fun ((a54,c55),l56)=>q58=l56) ?_ ?_
    ·refine aI ?_
     refine aM (Y:=Option Addr×Nat) (S:=(List Ze)×Int) _ hq58 (fun (a50,c51) (l49,v52)=>[(0,pL Zc.enc p0),(5,pP b1 0),(7,pP b3 0),(10,pO a50 l49.length c51),(11,pL eS l35),(13,pP b30 0),(14,pP b32 0),(28,pL Zh.enc p2.Inputs),(29,pI (p2.Inputs.length:Int)),(30,pI v13),(82,pL Zh.enc x31.1.Inputs),(83,pI (x31.1.Inputs.length:Int)),(84,pI v52)]) (fun (a50,c51) (l49,v52)=>[PRes.b b1 81 (aR p1),PRes.b b3 96 [pL eI p3.partners,.v (.map (some m3_set_))],PRes.b b30 78 [pI m29.Product,pI m29.Value],PRes.b b32 76 (bd x31.1),PRes.mp (some m3_set_) (fF Za.key vT p3.set_),PRes.row a50 l49.length c51 101 1 (List.map Ze.enc l49)]) (a10,c11) (i6 rfl (i6 rfl (i6 rfl (i6 rfl (DR rfl))))) (bh (ak (ak aD)) (bh (ak (ak aD)) (bh (ak (ak aD)) (bh (ak (ak aD)) (bh (ak aD) (bh (ak aD) ce)))))) ?_
     rintro ⟨a50,c51⟩ ⟨l49,v52⟩ o τ hb57;(try dsimp only at hb57);dsimp only [aG]
     refine af (al [(85,pB (decide (v52<(x31.1.Inputs.length:Int))))] (by kernel_rfl) (bQ (kx rfl hb57 (fun hc59 hb57=>?_) fun hc59 hb57=>?_)))
     ·refine ai ?_
      refine bQ (iA (ae hb57 fun m60 hm60 hb57=>aa (bi 2 [] [86] [(87,.agg [pI m60.Product,pI m60.Value])] (eU 0 Zh.enc hm60 bG) (by kernel_rfl) (aj rfl (aV (cs:=[pI 0,pI 0]) rfl rfl rfl rfl (fun b61=>ba rfl rfl (am (vs:=[pI m60.Product,pI m60.Value]) rfl rfl rfl rfl rfl cP B4 (aw (dQ hb57 fun x62 hx62 hb57=>aa (bi 7 [0] [89,90,91,92,88] [(93,.agg (bd x62.1)),(94,pB x62.2)] (bJ 3 (eM hx62) bG) (by kernel_rfl) (aj rfl (aV (cs:=[pI 0,pS ByteArray.empty,pS ByteArray.empty,pI 0,pB false,pN,pN]) rfl rfl rfl rfl (fun b63=>ba rfl rfl (am (vs:=(bd x62.1)) rfl rfl rfl rfl rfl cP qC (bm [23] (by kernel_rfl) (aQ (co (ρd:=[PRes.mp (some m3_set_) _,PRes.row a50 _ _ _ _ _]) [(0,0),(1,0),(2,0),(3,0),(4,0),(5,0),(6,0),(7,0),(8,0),(9,1),(10,1),(11,1),(12,1),(13,0)] _ (aC (ak (ak (ak (ak (ak (ak aD)))))) (aC (ak (ak (ak (ak (ak (ak aD)))))) (List.Perm.refl _))) (by kernel_rfl) rfl (ae hb57 fun x64 hx64 hb57=>ae hb57 fun x65 hx65 hb57=>cC 10 [3,0,4,1,5] (rg 98 6) [(95,pO a50 l49.length c51),(96,.agg [pL eI p3.partners,.v (.map (some m3_set_))]),(97,.agg (bd x62.1)),(104,pI x64)] (bJ 9 (pa hx64) bG) (by kernel_rfl) ?_))))))))))))))))))
      refine iX rfl rfl rfl (bf rfl rfl (ρ1:=[_]) (aC (by exact aD) (List.Perm.refl _)) (im hx65) ?_);rintro _ _ ⟨rfl,rfl⟩
      refine iX rfl rfl rfl (bD rfl rfl rfl rfl rfl (f0 rfl ja) rfl rfl rfl rfl (fun b66=>ae hb57 fun l68 hl68 hb57=>?_))
      refine iX rfl rfl rfl (bT (enc:=Ze.enc) rfl rfl rfl rfl rfl rfl rfl rfl rfl e8 (by exact ak (ak aD)) hl68 (fun a69 c70=>?_))
      refine hY 1 [(10,pO a69 l68.length c70)] (by kernel_rfl) (cQ (fU (ah [108] [(84,pI (IntKind.i64.wrap (v52+1)))] (by kernel_rfl) ?_)))
      exact bj hb57 (a69,c70) (i6 rfl (i6 rfl (i6 rfl (i6 rfl (DR rfl))))) (bh (ak (ak (ak (ak (ak aD))))) (bh (ak (ak (ak (ak (ak aD))))) (bh (ak (ak (ak (ak (ak aD))))) (bh (ak (ak (ak (ak (ak aD))))) (bh (ak (ak aD)) dB)))))
     refine aW ?_
     refine av (an hb57 (fun ht=>ar rfl ?_))
     exact gV ((a50,c51),l49) (rn rfl) (bh aD (bh aD (bh (ak (ak aD)) (bh (ak (ak aD)) ce)))) ht.symm
    rintro ⟨⟨a54,c55⟩,l56⟩ τ ρ1 hsub72 hz;(try dsimp only at hz hsub72);subst q58;(try dsimp only at hq28);dsimp only [aG]
    refine aH ?_
    obtain rfl:=osi hq28
    exact aF ((a54,c55),(l56,l35)) (rn rfl) (PSub.trans F6 hsub72) rfl
   rintro ⟨⟨a24,c25⟩,⟨l26,l27⟩⟩ τ hz;(try dsimp only at hz);subst q28;(try dsimp only at hb19);dsimp only [aG]
   refine ah [109] [(30,pI (IntKind.i64.wrap (v13+1)))] (by kernel_rfl) ?_
   exact bj hb19 (a24,c25) (rn rfl) F6
  refine aW ?_
  refine av (an hb19 (fun ht=>ar rfl ?_))
  exact aF ((a10,c11),(l9,l12)) (tG rfl) (bh (ak (ak aD)) (bh (ak (ak aD)) ce)) ht.symm
 rintro ⟨⟨a15,c16⟩,⟨l17,l18⟩⟩ τ hz;(try dsimp only at hz);subst q20;(try dsimp only at h);dsimp only [aG]
 refine af (co (ρd:=[]) [(0,0),(1,0),(2,0),(3,0),(4,0),(5,0),(6,0),(7,0)] _ (List.Perm.refl _) (by kernel_rfl) rfl (ae h fun l73 hl73 h=>cC 8 [] (rg 110 6) [(8,pO a15 l17.length c16),(9,pL eS l73)] (zm 5 eS 1 (fun _=>rfl) hl73 bG) (by kernel_rfl) (cQ (aQ ?_))))
 refine fk (enc:=Ze.enc) (xs:=l17) 8 rfl (by exact ak aD) ?_
 refine cd ?_
 obtain rfl:=osi h
 exact aL (dH (aN rfl) (aN rfl)) (bh (ak aD) ce) ⟨rfl,rfl⟩
def fg (p0:(List Zc)) (p1:(List Zb)) (p2:ByteArray) (p3:Za) (p4:(List Za)):Option (Zm×(List Za)):=(cq p0 p1 p2 p3).bind fun x3=>cond (!x3) (some ((⟨ByteArray.empty,0,false,[],[]⟩:Zm),[])) ((cY p0 p3.Product).bind fun x5=>(eE p1 p3.Agreement).bind fun x7=>(eC p1 p3.Agreement x5.1.Country p2).bind fun x9=>(aO (S:=Int×(List (Za×Bool))) (T:=((List (Za×Bool)))) (fun (v12,l13)=>cond (decide (v12<(p4.length:Int))) ((idx p4 v12).bind fun m18=>some (.inl ((IntKind.i64.wrap (v12+1)),(pE l13 m18 true)))) (some (.inr l13))) FUEL (0,([]:List (Za×Bool)))).bind fun l14=>(ff p0 x7.1 x5.1 (⟨x9,l14⟩:Zt)).bind fun x20=>(aO (S:=(List Za)×Int×(List Zl)) (T:=((List Za)×(List Zl))) (fun (l23,v26,l28)=>cond (decide (v26<(x20.1.length:Int))) (((idx x20.1 v26).bind fun m53=>(Icumulation_supply_input m53).bind fun x54=>(app 32 l28 [x54]).bind fun l57=>cond (Ze.is_proved_ m53) ((app 16 l23 [(((Ze.as_proved_ m53)).premise)]).bind fun l65=>some (l65,l57)) (some (l23,l57))).bind fun (l47,l51)=>some (.inl (l47,(IntKind.i64.wrap (v26+1)),l51))) (some (.inr (l23,l28)))) FUEL (([]:List Za),0,([]:List Zl))).bind fun (l34,l38)=>(bu l34).bind fun x69=>(bB x69).bind fun x70=>some ((⟨x5.1.Code,x5.1.Price,x5.1.Obtained,x20.2,l38⟩:Zm),x70))
theorem qa {p0:(List Zc)} {p1:(List Zb)} {p2:ByteArray} {p3:Za} {p4:(List Za)} {r:(Zm×(List Za))}  (h:fg p0 p1 p2 p3 p4=some r):PF 17 [pL Zc.enc p0,pL Zb.enc p1,pS p2,.agg [pI p3.Product,pI p3.Agreement],pL Za.enc p4] (.tup [.agg (bP r.1),pL Za.enc r.2]):=by
 unfold fg at h
 refine bt ?_
 refine eQ Tryz.func17 rfl Tryz.ntmps17 Tryz.results17 rfl (aa (aj rfl (br (cs:=[pI p3.Product,pI p3.Agreement]) rfl rfl (fun b1=>aj rfl (aV (cs:=[pS ByteArray.empty,pI 0,pB false,pN,pN]) rfl rfl rfl rfl (fun b2=>bm [11] (by kernel_rfl) (dr (ae h fun x3 hx3 h=>aq [1] (rg 27 5) [(32,pB (!x3))] (bJ 4 (eW hx3) bG) (by kernel_rfl) (cE rfl h (fun hc4 h=>?_) fun hc4 h=>?_)))))))))
 ·refine af ?_
  refine aa (au 1 [(33,.agg [pS ByteArray.empty,pI 0,pB false,pN,pN])] (by kernel_rfl) (ba rfl rfl (am (vs:=[pS ByteArray.empty,pI 0,pB false,pN,pN]) rfl rfl rfl rfl rfl cP EH (aS [(11,pN)] (by kernel_rfl) (aQ (d9 (k:=3) (b:=b2) rfl cP (d9 (k:=4) (b:=b2) rfl cP (jn 11 rfl (cd (ap ?_))))))))))
  obtain rfl:=osi h
  exact aL (dH (gA rfl e8 rfl) (aN rfl)) ce ⟨rfl,rfl⟩
 refine ai ?_
 refine dQ h fun x5 hx5 h=>aa (bi 7 [1] [35,36,37,38,34] [(39,.agg (bd x5.1)),(40,pB x5.2)] (bJ 3 (eM hx5) bG) (by kernel_rfl) (aj rfl (aV (cs:=[pI 0,pS ByteArray.empty,pS ByteArray.empty,pI 0,pB false,pN,pN]) rfl rfl rfl rfl (fun b6=>ba rfl rfl (am (vs:=(bd x5.1)) rfl rfl rfl rfl rfl cP qC (bm [13] (by kernel_rfl) (dQ h fun x7 hx7 h=>aa (bi 7 [2] [42,43,44,45,41] [(46,.agg (aR x7.1)),(47,pB x7.2)] (bJ 3 (gW hx7) bG) (by kernel_rfl) (aj rfl (aV (cs:=[pI 0,pI 0,pN,pN]) rfl rfl rfl rfl (fun b8=>ba rfl rfl (am (vs:=(aR x7.1)) rfl rfl rfl rfl rfl cP wA (bm [15] (by kernel_rfl) (dQ h fun x9 hx9 h=>aa (bi 7 [3,1] (rg 48 6) [(54,pL eI x9)] (bJ 6 (kh hx9) bG) (by kernel_rfl) (aj rfl (pF Za.key vT rfl (fun b10=>au 1 [(56,.agg [pL eI x9,.v (.map (some b10))])] (by kernel_rfl) (aj rfl (aV (cs:=[pN,.v (.map none)]) rfl rfl rfl rfl (fun b11=>ba rfl rfl (am (vs:=[pL eI x9,.v (.map (some b10))]) rfl rfl rfl rfl rfl cP B4 (aw (dr (al [(57,pL Za.enc p4),(58,pI (p4.length:Int)),(59,pI 0)] (by kernel_rfl) (jo h fun q16 hq16 h=>?_))))))))))))))))))))))))))
 refine aA (Y:=Unit×((List (Za×Bool)))) (fun (_,l14)=>[(0,pL Zc.enc p0),(10,pP b2 0),(12,pP b6 0),(14,pP b8 0),(16,pP b11 0)]) (fun (_,l14)=>[PRes.mp (some b10) (fF Za.key vT l14),PRes.b b11 96 [pL eI x9,.v (.map (some b10))],PRes.b b2 36 [pS ByteArray.empty,pI 0,pB false,pN,pN],PRes.b b6 76 (bd x5.1),PRes.b b8 81 (aR x7.1)]) (fun (_,l14)=>q16=l14) ?_ ?_
 ·refine aI ?_
  refine aM (Y:=Unit) (S:=Int×(List (Za×Bool))) _ hq16 (fun _ (v12,l13)=>[(0,pL Zc.enc p0),(10,pP b2 0),(12,pP b6 0),(14,pP b8 0),(16,pP b11 0),(57,pL Za.enc p4),(58,pI (p4.length:Int)),(59,pI v12)]) (fun _ (v12,l13)=>[PRes.mp (some b10) (fF Za.key vT l13),PRes.b b11 96 [pL eI x9,.v (.map (some b10))],PRes.b b2 36 [pS ByteArray.empty,pI 0,pB false,pN,pN],PRes.b b6 76 (bd x5.1),PRes.b b8 81 (aR x7.1)]) () (rn rfl) (bh (ak aD) (bh aD (bh (ak (ak aD)) (bh (ak aD) dB)))) ?_
  rintro _ ⟨v12,l13⟩ o τ hb15;(try dsimp only at hb15);dsimp only [aG]
  refine af (al [(60,pB (decide (v12<(p4.length:Int))))] (by kernel_rfl) (bQ (kx rfl hb15 (fun hc17 hb15=>?_) fun hc17 hb15=>?_)))
  ·refine ai ?_
   refine bQ (iA (ae hb15 fun m18 hm18 hb15=>aa (bi 2 [] [61] [(62,.agg [pI m18.Product,pI m18.Agreement])] (eU 0 Za.enc hm18 bG) (by kernel_rfl) (aj rfl (aV (cs:=[pI 0,pI 0]) rfl rfl rfl rfl (fun b19=>ba rfl rfl (am (vs:=[pI m18.Product,pI m18.Agreement]) rfl rfl rfl rfl rfl cP B4 (aw (aQ (aa (cw 3 [2,0] [63] [(64,.v (.map (some b10))),(65,.agg [pI m18.Product,pI m18.Agreement])] (by kernel_rfl) (ba rfl rfl (ox (xs:=l13) (k:=m18) (ek:=Za.key) (vv:=vT) (v:=true) rfl rfl Za.kenc28 rfl rfl uQ rfl (dl cP) (aw (fU (ah [66] [(59,pI (IntKind.i64.wrap (v12+1)))] (by kernel_rfl) ?_))))))))))))))))
   exact bj hb15 () (rn rfl) (bh (ak aD) (bh (ak aD) (bh (ak aD) (bh (ak aD) (bh (ak aD) ce)))))
  refine aW ?_
  refine av (an hb15 (fun ht=>ar rfl ?_))
  exact aF ((),l13) (ow rfl) zs5 ht.symm
 rintro ⟨_,l14⟩ τ hz;(try dsimp only at hz);subst q16;(try dsimp only at h);dsimp only [aG]
 refine af (ae h fun x20 hx20 h=>aa (gn 4 [4,3,1] [(68,pL Zc.enc p0),(69,.agg (aR x7.1)),(70,.agg (bd x5.1)),(71,.agg [pL eI x9,.v (.map (some b10))])] (by kernel_rfl) ?_))
 refine aj rfl (bf rfl rfl (ρ1:=[_]) (aC (by exact aD) (List.Perm.refl _)) (lw hx20) ?_);rintro _ _ ⟨rfl,rfl⟩
 refine hZ [67,73,74] [(19,pL Ze.enc x20.1),(20,pL eS x20.2)] (by kernel_rfl) (bQ (aa (cw 8 [3,3,3] (rg 75 7) [(82,.agg [pS x5.1.Code,pI x5.1.Price,pB x5.1.Obtained,pL eS x20.2,pN])] (by kernel_rfl) (aj rfl (aV (cs:=[pS ByteArray.empty,pI 0,pB false,pN,pN]) rfl rfl rfl rfl (fun b21=>ba rfl rfl (am (vs:=[pS x5.1.Code,pI x5.1.Price,pB x5.1.Obtained,pL eS x20.2,pN]) rfl rfl rfl rfl rfl cP EH (aw (bQ (al [(22,pN)] (by kernel_rfl) (dr (al [(83,pL Ze.enc x20.1),(84,pI (x20.1.length:Int)),(85,pI 0)] (by kernel_rfl) (aQ (cA 28 2 (cA 103 3 (ae h fun q40 hq40 h=>?_))))))))))))))))
 refine aA (Y:=(Option Addr×Nat×Option Addr×Nat)×((List Za)×(List Zl))) (fun ((a32,c33,a36,c37),(l34,l38))=>[(10,pP b2 0),(21,pP b21 0),(22,pO a32 l34.length c33)]) (fun ((a32,c33,a36,c37),(l34,l38))=>[PRes.b b2 36 [pS ByteArray.empty,pI 0,pB false,pN,pN],PRes.b b21 36 [pS x5.1.Code,pI x5.1.Price,pB x5.1.Obtained,pL eS x20.2,pO a36 l38.length c37],PRes.row a32 l34.length c33 28 2 (List.map Za.enc l34),PRes.row a36 l38.length c37 103 3 (List.map Zl.enc l38)]) (fun ((a32,c33,a36,c37),(l34,l38))=>q40=(l34,l38)) ?_ ?_
 ·refine aI ?_
  refine aM (Y:=Option Addr×Nat×Option Addr×Nat) (S:=(List Za)×Int×(List Zl)) _ hq40 (fun (a24,c25,a29,c30) (l23,v26,l28)=>[(10,pP b2 0),(21,pP b21 0),(22,pO a24 l23.length c25),(83,pL Ze.enc x20.1),(84,pI (x20.1.length:Int)),(85,pI v26)]) (fun (a24,c25,a29,c30) (l23,v26,l28)=>[PRes.b b2 36 [pS ByteArray.empty,pI 0,pB false,pN,pN],PRes.b b21 36 [pS x5.1.Code,pI x5.1.Price,pB x5.1.Obtained,pL eS x20.2,pO a29 l28.length c30],PRes.row a24 l23.length c25 28 2 (List.map Za.enc l23),PRes.row a29 l28.length c30 103 3 (List.map Zl.enc l28)]) (none,0,none,0) (xJ rfl) (bh (ak (ak (ak (ak (ak aD))))) (bh (ak (ak aD)) (bh (ak aD) dB))) ?_
  rintro ⟨a24,c25,a29,c30⟩ ⟨l23,v26,l28⟩ o τ hb39;(try dsimp only at hb39);dsimp only [aG]
  refine af (al [(86,pB (decide (v26<(x20.1.length:Int))))] (by kernel_rfl) (bQ (kx rfl hb39 (fun hc43 hb39=>?_) fun hc43 hb39=>?_)))
  ·refine ai ?_
   refine dQ hb39 fun q52 hq52 hb39=>?_
   refine aA (Y:=(Option Addr×Nat×Option Addr×Nat)×((List Za)×(List Zl))) (fun ((a45,c46,a49,c50),(l47,l51))=>[(10,pP b2 0),(21,pP b21 0),(22,pO a45 l47.length c46),(83,pL Ze.enc x20.1),(84,pI (x20.1.length:Int)),(85,pI v26)]) (fun ((a45,c46,a49,c50),(l47,l51))=>[PRes.b b2 36 [pS ByteArray.empty,pI 0,pB false,pN,pN],PRes.b b21 36 [pS x5.1.Code,pI x5.1.Price,pB x5.1.Obtained,pL eS x20.2,pO a49 l51.length c50],PRes.row a45 l47.length c46 28 2 (List.map Za.enc l47),PRes.row a49 l51.length c50 103 3 (List.map Zl.enc l51)]) (fun ((a45,c46,a49,c50),(l47,l51))=>q52=(l47,l51)) ?_ ?_
   ·skip
    refine iA (ae hq52 fun m53 hm53 hq52=>aq [] [87,88] [(24,Ze.pv m53)] (eU 0 Ze.enc hm53 bG) (by kernel_rfl) (dQ hq52 fun x54 hx54 hq52=>ae hq52 fun l57 hl57 hq52=>?_))
    refine aA (Y:=Option Addr×Nat) (fun (a58,c59)=>[(10,pP b2 0),(21,pP b21 0),(22,pO a24 l23.length c25),(24,Ze.pv m53),(83,pL Ze.enc x20.1),(84,pI (x20.1.length:Int)),(85,pI v26)]) (fun (a58,c59)=>[PRes.b b2 36 [pS ByteArray.empty,pI 0,pB false,pN,pN],PRes.b b21 36 [pS x5.1.Code,pI x5.1.Price,pB x5.1.Obtained,pL eS x20.2,pO a58 l57.length c59],PRes.row a24 l23.length c25 28 2 (List.map Za.enc l23),PRes.row a58 l57.length c59 103 3 (List.map Zl.enc l57)]) (fun _=>True) ?_ ?_
    ·refine iO (ρd:=[PRes.row a29 _ _ _ _ _,PRes.b b21 _ _]) _ (aC (ak (ak (ak aD))) (aC (ak aD) (List.Perm.refl _))) ?_
     refine bH 0 (by kernel_rfl) rfl rfl rfl rfl (bg rfl rfl rfl rfl rfl (.p rfl)) (bH 2 (by kernel_rfl) rfl rfl rfl rfl (dp (p:=Ze.pv m53) rfl (.p rfl)) ?_)
     refine gF 1 3 (by kernel_rfl) ?_ ?_
     ·skip
      refine aZ rfl rfl rfl rfl (jx (cg (p:=pO a29 l28.length c30) rfl (.p rfl) tF rfl) (aY 3 (by kernel_rfl) (aZ rfl rfl rfl rfl (qD rfl rfl (Icumulation_supply_input_ok hx54) (aY 4 (by kernel_rfl) (aZ rfl rfl rfl rfl (bD rfl rfl rfl rfl rfl (f0 rfl ja) rfl rfl rfl rfl (fun b55=>aY 5 (by kernel_rfl) ?_))))))))
      refine aZ rfl rfl rfl rfl (bT (enc:=Zl.enc) rfl rfl rfl rfl rfl rfl rfl rfl rfl e8 (by exact ak aD) hl57 (fun a58 c59=>?_))
      refine bH 6 (by kernel_rfl) rfl rfl rfl rfl (bg rfl rfl rfl rfl rfl (.p rfl)) (aY 7 (by kernel_rfl) (cL rfl rfl rfl (am (vs:=[pO a58 l57.length c59]) rfl rfl rfl rfl rfl (dl (dl cP)) (dK (dK (dK (dK mP)))) (cX (by kernel_rfl) ?_))))
      exact aF (a58,c59) (rm rfl) (bh (ak (ak (ak aD))) (bh (ak (ak aD)) (bh (ak (ak aD)) dB))) trivial
     skip
     refine aZ rfl rfl rfl rfl (qD rfl rfl (Icumulation_supply_input_ok hx54) ?_)
     refine gF 1 4 (by kernel_rfl) ?_ ?_
     ·skip
      refine aZ rfl rfl rfl rfl (jx (cg (p:=pO a29 l28.length c30) rfl (.p rfl) tF rfl) (aY 4 (by kernel_rfl) (aZ rfl rfl rfl rfl (bD rfl rfl rfl rfl rfl (f0 rfl ja) rfl rfl rfl rfl (fun b55=>aY 5 (by kernel_rfl) ?_)))))
      refine aZ rfl rfl rfl rfl (bT (enc:=Zl.enc) rfl rfl rfl rfl rfl rfl rfl rfl rfl e8 (by exact ak aD) hl57 (fun a58 c59=>?_))
      refine bH 6 (by kernel_rfl) rfl rfl rfl rfl (bg rfl rfl rfl rfl rfl (.p rfl)) (aY 7 (by kernel_rfl) (cL rfl rfl rfl (am (vs:=[pO a58 l57.length c59]) rfl rfl rfl rfl rfl (dl (dl cP)) (dK (dK (dK (dK mP)))) (cX (by kernel_rfl) ?_))))
      exact aF (a58,c59) (rm rfl) (bh (ak (ak (ak aD))) (bh (ak (ak aD)) (bh (ak (ak aD)) dB))) trivial
     skip
     refine aZ rfl rfl rfl rfl (bD rfl rfl rfl rfl rfl (f0 rfl ja) rfl rfl rfl rfl (fun b55=>aY 1 (by kernel_rfl) (aZ rfl rfl rfl rfl (jx (cg (p:=pO a29 l28.length c30) rfl (.p rfl) vM rfl) (aY 5 (by kernel_rfl) ?_)))))
     refine aZ rfl rfl rfl rfl (bT (enc:=Zl.enc) rfl rfl rfl rfl rfl rfl rfl rfl rfl e8 (by exact ak aD) hl57 (fun a58 c59=>?_))
     refine bH 6 (by kernel_rfl) rfl rfl rfl rfl (bg rfl rfl rfl rfl rfl (.p rfl)) (aY 7 (by kernel_rfl) (cL rfl rfl rfl (am (vs:=[pO a58 l57.length c59]) rfl rfl rfl rfl rfl (dl (dl cP)) (dK (dK (dK (dK mP)))) (cX (by kernel_rfl) ?_))))
     exact aF (a58,c59) (rm rfl) (bh (ak (ak (ak aD))) (bh (ak (ak aD)) (bh (ak (ak aD)) dB))) trivial
    rintro ⟨a58,c59⟩ τ _;dsimp only [aG]
    refine af (aa (bi 5 [] [97,98,96] [(99,.agg [pS ((((Ze.as_proved_ m53)).use).Code),pI ((((Ze.as_proved_ m53)).use).Value),pB ((((Ze.as_proved_ m53)).use).Originating),pI ((((Ze.as_proved_ m53)).premise).Product),pI ((((Ze.as_proved_ m53)).premise).Agreement)]),(100,pB (Ze.is_proved_ m53))] (fota 1 (Ze.ta_proved_ m53) bG) (by kernel_rfl) (aj rfl (aV (cs:=[pS ByteArray.empty,pI 0,pB false,pI 0,pI 0]) rfl rfl rfl rfl (fun b61=>ba rfl rfl (am (vs:=[pS ((((Ze.as_proved_ m53)).use).Code),pI ((((Ze.as_proved_ m53)).use).Value),pB ((((Ze.as_proved_ m53)).use).Originating),pI ((((Ze.as_proved_ m53)).premise).Product),pI ((((Ze.as_proved_ m53)).premise).Agreement)]) rfl rfl rfl rfl rfl cP EH (aS [(26,pB (Ze.is_proved_ m53))] (by kernel_rfl) (bQ (al [(101,pB (Ze.is_proved_ m53))] (by kernel_rfl) (cE rfl hq52 (fun hc62 hq52=>?_) fun hc62 hq52=>?_))))))))))
    ·refine aa ?_
     refine cw 3 [0] [103] [(102,pO a24 l23.length c25),(104,.agg [pI ((((Ze.as_proved_ m53)).premise).Product),pI ((((Ze.as_proved_ m53)).premise).Agreement)])] (by kernel_rfl) (aj rfl (bD rfl rfl rfl rfl rfl (f0 rfl ja) rfl rfl rfl rfl (fun b63=>ae hq52 fun l65 hl65 hq52=>?_)))
     refine aj rfl (bT (enc:=Za.enc) rfl rfl rfl rfl rfl rfl rfl rfl rfl e8 (by exact ak (ak (ak (ak aD)))) hl65 (fun a66 c67=>?_))
     refine aS [(22,pO a66 l65.length c67)] (by kernel_rfl) (aH ?_)
     obtain rfl:=osi hq52
     exact aF ((a66,c67,a58,c59),(l65,l57)) (xJ rfl) (bh (ak (ak (ak aD))) (bh (ak (ak (ak aD))) (bh aD (bh (ak (ak aD)) ce)))) rfl
    refine ai ?_
    refine aH ?_
    obtain rfl:=osi hq52
    exact aF ((a24,c25,a58,c59),(l23,l57)) (xJ rfl) (bh (ak aD) (bh (ak aD) (bh (ak aD) (bh (ak aD) ce)))) rfl
   rintro ⟨⟨a45,c46,a49,c50⟩,⟨l47,l51⟩⟩ τ hz;(try dsimp only at hz);subst q52;(try dsimp only at hb39);dsimp only [aG]
   refine ah [107] [(85,pI (IntKind.i64.wrap (v26+1)))] (by kernel_rfl) ?_
   exact bj hb39 (a45,c46,a49,c50) (xJ rfl) F6
  refine aW ?_
  refine av (an hb39 (fun ht=>ar rfl ?_))
  exact aF ((a24,c25,a29,c30),(l23,l28)) (qW rfl) F6 ht.symm
 rintro ⟨⟨a32,c33,a36,c37⟩,⟨l34,l38⟩⟩ τ hz;(try dsimp only at hz);subst q40;(try dsimp only at h);dsimp only [aG]
 refine af (ae h fun x69 hx69 h=>aa (au 1 [(108,pO a32 l34.length c33)] (by kernel_rfl) ?_))
 refine aj rfl (bf rfl rfl (ρ1:=[_]) (aC (by exact ak (ak aD)) (List.Perm.refl _)) (bW hx69) ?_);rintro _ _ ⟨rfl,rfl⟩
 refine aw (bQ ?_)
 refine tX (css:=List.map Zl.enc l38) (a:=a36) (by exact ak (ak (ak aD))) ?_
 refine so (k:=4) (enc:=Zl.enc) (xs:=l38) (b:=b21) (a:=a36) rfl e8 (dl (dl (dl cP))) (co (ρd:=[PRes.row a32 _ _ _ _ _,PRes.b b2 _ _]) [(0,0),(1,0),(2,1),(3,1),(4,0)] _ (aC (ak aD) (aC (ak aD) (List.Perm.refl _))) (by kernel_rfl) rfl (ae h fun x70 hx70 h=>zG 2 [1] [(110,.agg [pS x5.1.Code,pI x5.1.Price,pB x5.1.Obtained,pL eS x20.2,pL Zl.enc l38]),(111,pO a32 l34.length c33)] (by kernel_rfl) ?_))
 refine iX rfl rfl rfl (bf rfl rfl (ρ1:=[_]) (aC (by exact aD) (List.Perm.refl _)) (dm hx70) ?_);rintro _ _ ⟨a71,c72,rfl,rfl⟩
 refine xG rfl rfl (am (vs:=[pS x5.1.Code,pI x5.1.Price,pB x5.1.Obtained,pL eS x20.2,pL Zl.enc l38]) rfl rfl rfl rfl rfl (dl cP) EH (hY 1 [(11,pO a71 x70.length c72)] (by kernel_rfl) (cQ (aQ ?_))))
 refine fk (enc:=Za.enc) (xs:=x70) 11 rfl (by exact aD) ?_
 refine cd ?_
 obtain rfl:=osi h
 exact aL (dH (gA rfl tF rfl) (aN rfl)) ce ⟨rfl,rfl⟩
def iJ (p0:ByteArray):Option Bool:=(dR p0).bind fun x1=>some (decide (6≤x1))
theorem na {p0:ByteArray} {r:Bool}  (h:iJ p0=some r):PF 62 [pS p0] (pB r):=by
 unfold iJ at h
 refine bt ?_
 refine eQ Tryz.func62 rfl Tryz.ntmps62 Tryz.results62 rfl (be [2] (by kernel_rfl) (dQ h fun x1 hx1 h=>aq [] [3,4,5] [(2,pB (decide (6≤x1)))] (bJ 1 (fS hx1) bG) (by kernel_rfl) (dX ?_)))
 exact zz r h rfl
def gx (p0:Zm):Option Int:=(iJ p0.Code).bind fun x2=>cond (!x2) (some (1:Int)) (cond ((decide (p0.Price<1))||(decide (1000000000000<p0.Price))) (some (2:Int)) ((dV p0.Processes).bind fun x5=>cond (!x5) (some (1:Int)) (cond (decide (100<(p0.Inputs.length:Int))) (some (8:Int)) ((aO (S:=Int) (T:=(Unit)⊕(_)) (fun v8=>cond (decide (v8<(p0.Inputs.length:Int))) ((idx p0.Inputs v8).bind fun m12=>(iJ m12.Code).bind fun x14=>cond (!x14) (some (.inr (.inr (1:Int)))) (cond ((decide (m12.Value<0))||(decide (1000000000000<m12.Value))) (some (.inr (.inr (2:Int)))) (some (.inl (IntKind.i64.wrap (v8+1)))))) (some (.inr (.inl ())))) FUEL 0).bind fun q=>match q with | .inl _=>some (0:Int) | .inr e=>some e))))
theorem qb {p0:Zm} {r:Int}  (h:gx p0=some r):PF 21 [.agg (bP p0)] (pI r):=by
 unfold gx at h
 refine bt ?_
 refine eQ Tryz.func21 rfl Tryz.ntmps21 Tryz.results21 rfl (aa (aj rfl (br (cs:=(bP p0)) rfl rfl (fun b1=>bm [2] (by kernel_rfl) (bQ (iA (ae h fun x2 hx2 h=>aq [0] [6,7,8,9] [(5,pB (!x2))] (bJ 2 (na hx2) bG) (by kernel_rfl) (cE rfl h (fun hc3 h=>?_) fun hc3 h=>?_))))))))
 ·refine af ?_
  refine fT [(2,pI 1)] (by kernel_rfl) (iZ ?_)
  exact zz r h rfl
 refine af ?_
 refine bk [0,0] (rg 11 8) [(10,pB ((decide (p0.Price<1))||(decide (1000000000000<p0.Price))))] (by kernel_rfl) (cE rfl h (fun hc4 h=>?_) fun hc4 h=>?_)
 ·refine af ?_
  refine fT [(2,pI 2)] (by kernel_rfl) (iZ ?_)
  exact zz r h rfl
 refine af ?_
 refine ae h fun x5 hx5 h=>aq [0] [20,21,22,23] [(19,pB (!x5))] (bJ 2 (i9 hx5) bG) (by kernel_rfl) (cE rfl h (fun hc6 h=>?_) fun hc6 h=>?_)
 ·refine af ?_
  refine fT [(2,pI 1)] (by kernel_rfl) (iZ ?_)
  exact zz r h rfl
 refine af ?_
 refine bk [0] [25,26,27,28] [(24,pB (decide (100<(p0.Inputs.length:Int))))] (by kernel_rfl) (cE rfl h (fun hc7 h=>?_) fun hc7 h=>?_)
 ·refine af ?_
  refine fT [(2,pI 8)] (by kernel_rfl) (iZ ?_)
  exact zz r h rfl
 refine ai ?_
 refine aH (dr (bk [0] [29] [(30,pL Zl.enc p0.Inputs),(31,pI (p0.Inputs.length:Int)),(32,pI 0)] (by kernel_rfl) (jo h fun q10 hq10 h=>?_)))
 refine aA (Y:=Unit×Unit) (fun (_,_)=>[]) (fun (_,_)=>[]) (fun (_,_)=>q10=Sum.inl ()) ?_ ?_
 ·refine aI ?_
  refine aM (Y:=Unit) (S:=Int) _ hq10 (fun _ v8=>[(30,pL Zl.enc p0.Inputs),(31,pI (p0.Inputs.length:Int)),(32,pI v8)]) (fun _ v8=>[]) () (qW rfl) ce ?_
  rintro _ v8 o τ hb9;(try dsimp only at hb9);dsimp only [aG]
  refine af (al [(33,pB (decide (v8<(p0.Inputs.length:Int))))] (by kernel_rfl) (bQ (kx rfl hb9 (fun hc11 hb9=>?_) fun hc11 hb9=>?_)))
  ·refine ai ?_
   refine bQ (iA (ae hb9 fun m12 hm12 hb9=>aa (bi 2 [] [34] [(35,.agg [pS m12.Code,pI m12.Value,pB m12.Originating])] (eU 0 Zl.enc hm12 bG) (by kernel_rfl) (aj rfl (aV (cs:=[pS ByteArray.empty,pI 0,pB false]) rfl rfl rfl rfl (fun b13=>ba rfl rfl (am (vs:=[pS m12.Code,pI m12.Value,pB m12.Originating]) rfl rfl rfl rfl rfl cP zl3 (aw (dr (ae hb9 fun x14 hx14 hb9=>aq [0] [36,37,38] [(39,pB (!x14))] (bJ 2 (na hx14) bG) (by kernel_rfl) (cE rfl hb9 (fun hc15 hb9=>?_) fun hc15 hb9=>?_)))))))))))
   ·refine af ?_
    refine fT [(2,pI 1)] (by kernel_rfl) (ap (iZ ?_))
    refine aX hb9 (fun ht=>?_);subst ht
    refine az (aU ?_)
    exact zz r h rfl
   refine ai ?_
   refine bQ (bk [0,0] (rg 40 7) [(47,pB ((decide (m12.Value<0))||(decide (1000000000000<m12.Value))))] (by kernel_rfl) (cE rfl hb9 (fun hc16 hb9=>?_) fun hc16 hb9=>?_))
   ·refine af ?_
    refine fT [(2,pI 2)] (by kernel_rfl) (iZ ?_)
    refine aX hb9 (fun ht=>?_);subst ht
    refine az (aU ?_)
    exact zz r h rfl
   refine ai ?_
   refine fU (ah [48] [(32,pI (IntKind.i64.wrap (v8+1)))] (by kernel_rfl) ?_)
   exact bj hb9 () (qW rfl) ce
  refine aW ?_
  refine av (an hb9 (fun ht=>ar rfl ?_))
  exact aF ((),()) qP ce ht.symm
 rintro ⟨_,_⟩ τ hz;(try dsimp only at hz);subst q10;(try dsimp only at h);dsimp only [aG]
 refine af (fT [(2,pI 0)] (by kernel_rfl) ?_)
 exact zz r h rfl
def dJ (p0:(List Zi)):Option Int:=(aO (S:=Int) (T:=(Unit)⊕(_)) (fun v1=>cond (decide (v1<(p0.length:Int))) ((idx p0 v1).bind fun m5=>(dR m5.Prefix).bind fun x7=>cond (x7 == 0) (some (.inr (.inr (1:Int)))) ((gd (decide (0<v1)) (idx p0 (IntKind.i64.wrap (v1 - 1)))).bind fun m9=>cond ((decide (0<v1))&&(Op.bytesLess m5.Prefix.toList m9.Prefix.toList||decide (m5.Prefix=m9.Prefix))) (some (.inr (.inr (9:Int)))) ((fz m5.Rule).bind fun x11=>cond (x11 != 0) (some (.inr (.inr x11))) (some (.inl (IntKind.i64.wrap (v1+1))))))) (some (.inr (.inl ())))) FUEL 0).bind fun q=>match q with | .inl _=>some (0:Int) | .inr e=>some e
theorem mj {p0:(List Zi)} {r:Int}  (h:dJ p0=some r):PF 112 [pL Zi.enc p0] (pI r):=by
 unfold dJ at h
 refine bt ?_
 refine eQ Tryz.func112 rfl Tryz.ntmps112 Tryz.results112 rfl (be [2] (by kernel_rfl) (dr (al [(6,pL Zi.enc p0),(7,pI (p0.length:Int)),(8,pI 0)] (by kernel_rfl) (jo h fun q3 hq3 h=>?_))))
 refine aA (Y:=Unit×Unit) (fun (_,_)=>[]) (fun (_,_)=>[]) (fun (_,_)=>q3=Sum.inl ()) ?_ ?_
 ·refine aI ?_
  refine aM (Y:=Unit) (S:=Int) _ hq3 (fun _ v1=>[(0,pL Zi.enc p0),(6,pL Zi.enc p0),(7,pI (p0.length:Int)),(8,pI v1)]) (fun _ v1=>[]) () (lq rfl) ce ?_
  rintro _ v1 o τ hb2;(try dsimp only at hb2);dsimp only [aG]
  refine af (al [(9,pB (decide (v1<(p0.length:Int))))] (by kernel_rfl) (bQ (kx rfl hb2 (fun hc4 hb2=>?_) fun hc4 hb2=>?_)))
  ·refine ai ?_
   refine bQ (iA (ae hb2 fun m5 hm5 hb2=>aa (bi 3 [] [11] [(10,pI v1),(12,.agg (ed m5))] (eU 1 Zi.enc hm5 bG) (by kernel_rfl) (aj rfl (aV (cs:=[pS ByteArray.empty,pI 0,pI 0,pN,pI 0,pI 0,pS ByteArray.empty,pN]) rfl rfl rfl rfl (fun b6=>au 1 [(3,pI v1)] (by kernel_rfl) (ba rfl rfl (am (vs:=(ed m5)) rfl rfl rfl rfl rfl cP zl8 (aw (dr (ae hb2 fun x7 hx7 hb2=>aq [0] [13,14,15] [(16,pB (x7 == 0))] (bJ 2 (fS hx7) bG) (by kernel_rfl) (cE rfl hb2 (fun hc8 hb2=>?_) fun hc8 hb2=>?_))))))))))))
   ·refine af ?_
    refine fT [(2,pI 1)] (by kernel_rfl) (ap (iZ ?_))
    refine aX hb2 (fun ht=>?_);subst ht
    refine az (aU ?_)
    exact zz r h rfl
   refine ai ?_
   refine dr (co (ρd:=[]) [(0,0),(1,0),(2,0),(3,0),(4,0),(5,0),(6,0),(7,0),(8,0),(9,0),(10,0),(11,0),(12,0)] _ (List.Perm.refl _) (by kernel_rfl) rfl (ae hb2 fun m9 hm9 hb2=>cC 13 [0] (rg 17 12) [(29,pB ((decide (0<v1))&&(Op.bytesLess m5.Prefix.toList m9.Prefix.toList||decide (m5.Prefix=m9.Prefix))))] (mA 8 Zi.enc (gJ hm9) bG) (by kernel_rfl) (cQ (cE rfl hb2 (fun hc10 hb2=>?_) fun hc10 hb2=>?_))))
   ·refine af ?_
    refine fT [(2,pI 9)] (by kernel_rfl) (ap (iZ ?_))
    refine aX hb2 (fun ht=>?_);subst ht
    refine az (aU ?_)
    exact zz r h rfl
   refine ai ?_
   refine dQ hb2 fun x11 hx11 hb2=>aq [0] [30,31,32] [(5,pI x11)] (bJ 2 (iT hx11) bG) (by kernel_rfl) (bQ (ah [33] [(34,pB (x11 != 0))] (by kernel_rfl) (cE rfl hb2 (fun hc12 hb2=>?_) fun hc12 hb2=>?_)))
   ·refine af ?_
    refine ah [35] [(2,pI x11)] (by kernel_rfl) (dX (iZ ?_))
    refine aX hb2 (fun ht=>?_);subst ht
    refine az (aU ?_)
    exact zz r h rfl
   refine ai ?_
   refine fU (ah [36] [(8,pI (IntKind.i64.wrap (v1+1)))] (by kernel_rfl) ?_)
   exact bj hb2 () (lq rfl) ce
  refine aW ?_
  refine av (an hb2 (fun ht=>ar rfl ?_))
  exact aF ((),()) qP ce ht.symm
 rintro ⟨_,_⟩ τ hz;(try dsimp only at hz);subst q3;(try dsimp only at h);dsimp only [aG]
 refine af (fT [(2,pI 0)] (by kernel_rfl) ?_)
 exact zz r h rfl
def db (p0:(List Zb)):Option Int:=cond (decide (8<(p0.length:Int))) (some (8:Int)) ((aO (S:=Int) (T:=(Unit)⊕(_)) (fun v2=>cond (decide (v2<(p0.length:Int))) ((idx p0 v2).bind fun m6=>cond ((((decide (m6.ID<1))||(decide (1000<m6.ID)))||(decide (m6.Kind<1)))||(decide (3<m6.Kind))) (some (.inr (.inr (2:Int)))) ((gd (decide (0<v2)) (idx p0 (IntKind.i64.wrap (v2 - 1)))).bind fun m9=>cond ((decide (0<v2))&&(decide (m6.ID≤m9.ID))) (some (.inr (.inr (9:Int)))) (cond ((decide (12<(m6.Parties.length:Int)))||(decide (12<(m6.Rules.length:Int)))) (some (.inr (.inr (8:Int)))) ((dT m6.Parties).bind fun x12=>cond (!x12) (some (.inr (.inr (1:Int)))) ((dJ m6.Rules).bind fun x14=>cond (x14 != 0) (some (.inr (.inr x14))) (some (.inl (IntKind.i64.wrap (v2+1))))))))) (some (.inr (.inl ())))) FUEL 0).bind fun q=>match q with | .inl _=>some (0:Int) | .inr e=>some e)
theorem ki {p0:(List Zb)} {r:Int}  (h:db p0=some r):PF 64 [pL Zb.enc p0] (pI r):=by
 unfold db at h
 refine bt ?_
 refine eQ Tryz.func64 rfl Tryz.ntmps64 Tryz.results64 rfl (be [2] (by kernel_rfl) (dr (ah [6,7] [(8,pB (decide (8<(p0.length:Int))))] (by kernel_rfl) (cE rfl h (fun hc1 h=>?_) fun hc1 h=>?_))))
 ·refine af ?_
  refine fT [(2,pI 8)] (by kernel_rfl) (ap ?_)
  exact zz r h rfl
 refine ai ?_
 refine dr (al [(9,pL Zb.enc p0),(10,pI (p0.length:Int)),(11,pI 0)] (by kernel_rfl) (jo h fun q4 hq4 h=>?_))
 refine aA (Y:=Unit×Unit) (fun (_,_)=>[]) (fun (_,_)=>[]) (fun (_,_)=>q4=Sum.inl ()) ?_ ?_
 ·refine aI ?_
  refine aM (Y:=Unit) (S:=Int) _ hq4 (fun _ v2=>[(0,pL Zb.enc p0),(9,pL Zb.enc p0),(10,pI (p0.length:Int)),(11,pI v2)]) (fun _ v2=>[]) () (lq rfl) ce ?_
  rintro _ v2 o τ hb3;(try dsimp only at hb3);dsimp only [aG]
  refine af (al [(12,pB (decide (v2<(p0.length:Int))))] (by kernel_rfl) (bQ (kx rfl hb3 (fun hc5 hb3=>?_) fun hc5 hb3=>?_)))
  ·refine ai ?_
   refine bQ (iA (ae hb3 fun m6 hm6 hb3=>aa (bi 3 [] [14] [(13,pI v2),(15,.agg (aR m6))] (eU 1 Zb.enc hm6 bG) (by kernel_rfl) (aj rfl (aV (cs:=[pI 0,pI 0,pN,pN]) rfl rfl rfl rfl (fun b7=>au 1 [(3,pI v2)] (by kernel_rfl) (ba rfl rfl (am (vs:=(aR m6)) rfl rfl rfl rfl rfl cP wA (aw (dr (bk [0,0,0,0] (rg 16 17) [(33,pB ((((decide (m6.ID<1))||(decide (1000<m6.ID)))||(decide (m6.Kind<1)))||(decide (3<m6.Kind))))] (by kernel_rfl) (cE rfl hb3 (fun hc8 hb3=>?_) fun hc8 hb3=>?_))))))))))))
   ·refine af ?_
    refine fT [(2,pI 2)] (by kernel_rfl) (ap (iZ ?_))
    refine aX hb3 (fun ht=>?_);subst ht
    refine az (aU ?_)
    exact zz r h rfl
   refine ai ?_
   refine dr (co (ρd:=[]) [(0,0),(1,0),(2,0),(3,0),(4,0),(5,0),(6,0),(7,0),(8,0),(9,0),(10,0),(11,0),(12,0)] _ (List.Perm.refl _) (by kernel_rfl) rfl (ae hb3 fun m9 hm9 hb3=>cC 13 [0] (rg 34 12) [(46,pB ((decide (0<v2))&&(decide (m6.ID≤m9.ID))))] (mA 8 Zb.enc (gJ hm9) bG) (by kernel_rfl) (cQ (cE rfl hb3 (fun hc10 hb3=>?_) fun hc10 hb3=>?_))))
   ·refine af ?_
    refine fT [(2,pI 9)] (by kernel_rfl) (ap (iZ ?_))
    refine aX hb3 (fun ht=>?_);subst ht
    refine az (aU ?_)
    exact zz r h rfl
   refine ai ?_
   refine dr (bk [0,0] (rg 47 9) [(56,pB ((decide (12<(m6.Parties.length:Int)))||(decide (12<(m6.Rules.length:Int)))))] (by kernel_rfl) (cE rfl hb3 (fun hc11 hb3=>?_) fun hc11 hb3=>?_))
   ·refine af ?_
    refine fT [(2,pI 8)] (by kernel_rfl) (ap (iZ ?_))
    refine aX hb3 (fun ht=>?_);subst ht
    refine az (aU ?_)
    exact zz r h rfl
   refine ai ?_
   refine dr (ae hb3 fun x12 hx12 hb3=>aq [0] [57,58,59] [(60,pB (!x12))] (bJ 2 (mK hx12) bG) (by kernel_rfl) (cE rfl hb3 (fun hc13 hb3=>?_) fun hc13 hb3=>?_))
   ·refine af ?_
    refine fT [(2,pI 1)] (by kernel_rfl) (ap (iZ ?_))
    refine aX hb3 (fun ht=>?_);subst ht
    refine az (aU ?_)
    exact zz r h rfl
   refine ai ?_
   refine dQ hb3 fun x14 hx14 hb3=>aq [0] [61,62,63] [(5,pI x14)] (bJ 2 (mj hx14) bG) (by kernel_rfl) (bQ (ah [64] [(65,pB (x14 != 0))] (by kernel_rfl) (cE rfl hb3 (fun hc15 hb3=>?_) fun hc15 hb3=>?_)))
   ·refine af ?_
    refine ah [66] [(2,pI x14)] (by kernel_rfl) (dX (iZ ?_))
    refine aX hb3 (fun ht=>?_);subst ht
    refine az (aU ?_)
    exact zz r h rfl
   refine ai ?_
   refine fU (ah [67] [(11,pI (IntKind.i64.wrap (v2+1)))] (by kernel_rfl) ?_)
   exact bj hb3 () (lq rfl) ce
  refine aW ?_
  refine av (an hb3 (fun ht=>ar rfl ?_))
  exact aF ((),()) qP ce ht.symm
 rintro ⟨_,_⟩ τ hz;(try dsimp only at hz);subst q4;(try dsimp only at h);dsimp only [aG]
 refine af (fT [(2,pI 0)] (by kernel_rfl) ?_)
 exact zz r h rfl
def dh (p0:Zc):Option Int:=(dR p0.Code).bind fun x2=>(gd (!((x2 != 6)&&(x2 != 8))) (bS p0.Country)).bind fun x3=>(gd (!(((x2 != 6)&&(x2 != 8))||(!x3))) (dV p0.Processes)).bind fun x4=>cond ((((x2 != 6)&&(x2 != 8))||(!x3))||(!x4)) (some (1:Int)) (cond ((decide (p0.Price<1))||(decide (1000000000000<p0.Price))) (some (2:Int)) (cond (decide (8<(p0.Inputs.length:Int))) (some (8:Int)) (cond (p0.Obtained&&(decide (0<(p0.Inputs.length:Int)))) (some (1:Int)) (some (0:Int)))))
theorem lx {p0:Zc} {r:Int}  (h:dh p0=some r):PF 118 [.agg (bd p0)] (pI r):=by
 unfold dh at h
 refine bt ?_
 refine eQ Tryz.func118 rfl Tryz.ntmps118 Tryz.results118 rfl (aa (aj rfl (br (cs:=(bd p0)) rfl rfl (fun b1=>bm [2] (by kernel_rfl) (dQ h fun x2 hx2 h=>aq [0] [4,5,6] [(3,pI x2)] (bJ 2 (fS hx2) bG) (by kernel_rfl) (dr (ae h fun x3 hx3 h=>ae h fun x4 hx4 h=>aq [0,0] (rg 7 17) [(24,pB ((((x2 != 6)&&(x2 != 8))||(!x3))||(!x4)))] (iY 9 (fun hc=>eo (gJ hx3 hc)) (iY 15 (fun hc=>i9 (gJ hx4 hc)) bG)) (by kernel_rfl) (cE rfl h (fun hc5 h=>?_) fun hc5 h=>?_))))))))
 ·refine af ?_
  refine fT [(2,pI 1)] (by kernel_rfl) (ap ?_)
  exact zz r h rfl
 refine ai ?_
 refine dr (bk [0,0] (rg 25 7) [(32,pB ((decide (p0.Price<1))||(decide (1000000000000<p0.Price))))] (by kernel_rfl) (cE rfl h (fun hc6 h=>?_) fun hc6 h=>?_))
 ·refine af ?_
  refine fT [(2,pI 2)] (by kernel_rfl) (ap ?_)
  exact zz r h rfl
 refine ai ?_
 refine dr (bk [0] [33,34,35] [(36,pB (decide (8<(p0.Inputs.length:Int))))] (by kernel_rfl) (cE rfl h (fun hc7 h=>?_) fun hc7 h=>?_))
 ·refine af ?_
  refine fT [(2,pI 8)] (by kernel_rfl) (ap ?_)
  exact zz r h rfl
 refine ai ?_
 refine dr (bk [0,0] (rg 37 7) [(44,pB (p0.Obtained&&(decide (0<(p0.Inputs.length:Int)))))] (by kernel_rfl) (cE rfl h (fun hc8 h=>?_) fun hc8 h=>?_))
 ·refine af ?_
  refine fT [(2,pI 1)] (by kernel_rfl) (ap ?_)
  exact zz r h rfl
 refine ai ?_
 refine bQ (fT [(2,pI 0)] (by kernel_rfl) ?_)
 exact zz r h rfl
def dc (p0:(List Zc)):Option Int:=cond (decide (64<(p0.length:Int))) (some (8:Int)) ((aO (S:=Int) (T:=(Unit)⊕(_)) (fun v2=>cond (decide (v2<(p0.length:Int))) ((idx p0 v2).bind fun m6=>cond ((decide (m6.ID<1))||(decide (1000000<m6.ID))) (some (.inr (.inr (2:Int)))) ((gd (decide (0<v2)) (idx p0 (IntKind.i64.wrap (v2 - 1)))).bind fun m9=>cond ((decide (0<v2))&&(decide (m6.ID≤m9.ID))) (some (.inr (.inr (9:Int)))) ((dh m6).bind fun x11=>cond (x11 != 0) (some (.inr (.inr x11))) ((dt p0 m6.Inputs).bind fun x13=>cond (x13 != 0) (some (.inr (.inr x13))) (some (.inl (IntKind.i64.wrap (v2+1)))))))) (some (.inr (.inl ())))) FUEL 0).bind fun q=>match q with | .inl _=>some (0:Int) | .inr e=>some e)
theorem kj {p0:(List Zc)} {r:Int}  (h:dc p0=some r):PF 71 [pL Zc.enc p0] (pI r):=by
 unfold dc at h
 refine bt ?_
 refine eQ Tryz.func71 rfl Tryz.ntmps71 Tryz.results71 rfl (be [2] (by kernel_rfl) (dr (ah [7,8] [(9,pB (decide (64<(p0.length:Int))))] (by kernel_rfl) (cE rfl h (fun hc1 h=>?_) fun hc1 h=>?_))))
 ·refine af ?_
  refine fT [(2,pI 8)] (by kernel_rfl) (ap ?_)
  exact zz r h rfl
 refine ai ?_
 refine dr (al [(10,pL Zc.enc p0),(11,pI (p0.length:Int)),(12,pI 0)] (by kernel_rfl) (jo h fun q4 hq4 h=>?_))
 refine aA (Y:=Unit×Unit) (fun (_,_)=>[]) (fun (_,_)=>[]) (fun (_,_)=>q4=Sum.inl ()) ?_ ?_
 ·refine aI ?_
  refine aM (Y:=Unit) (S:=Int) _ hq4 (fun _ v2=>[(0,pL Zc.enc p0),(10,pL Zc.enc p0),(11,pI (p0.length:Int)),(12,pI v2)]) (fun _ v2=>[]) () (lq rfl) ce ?_
  rintro _ v2 o τ hb3;(try dsimp only at hb3);dsimp only [aG]
  refine af (al [(13,pB (decide (v2<(p0.length:Int))))] (by kernel_rfl) (bQ (kx rfl hb3 (fun hc5 hb3=>?_) fun hc5 hb3=>?_)))
  ·refine ai ?_
   refine bQ (iA (ae hb3 fun m6 hm6 hb3=>aa (bi 3 [] [15] [(14,pI v2),(16,.agg (bd m6))] (eU 1 Zc.enc hm6 bG) (by kernel_rfl) (aj rfl (aV (cs:=[pI 0,pS ByteArray.empty,pS ByteArray.empty,pI 0,pB false,pN,pN]) rfl rfl rfl rfl (fun b7=>au 1 [(3,pI v2)] (by kernel_rfl) (ba rfl rfl (am (vs:=(bd m6)) rfl rfl rfl rfl rfl cP qC (aw (dr (bk [0,0] (rg 17 7) [(24,pB ((decide (m6.ID<1))||(decide (1000000<m6.ID))))] (by kernel_rfl) (cE rfl hb3 (fun hc8 hb3=>?_) fun hc8 hb3=>?_))))))))))))
   ·refine af ?_
    refine fT [(2,pI 2)] (by kernel_rfl) (ap (iZ ?_))
    refine aX hb3 (fun ht=>?_);subst ht
    refine az (aU ?_)
    exact zz r h rfl
   refine ai ?_
   refine dr (co (ρd:=[]) [(0,0),(1,0),(2,0),(3,0),(4,0),(5,0),(6,0),(7,0),(8,0),(9,0),(10,0),(11,0),(12,0)] _ (List.Perm.refl _) (by kernel_rfl) rfl (ae hb3 fun m9 hm9 hb3=>cC 13 [0] (rg 25 12) [(37,pB ((decide (0<v2))&&(decide (m6.ID≤m9.ID))))] (mA 8 Zc.enc (gJ hm9) bG) (by kernel_rfl) (cQ (cE rfl hb3 (fun hc10 hb3=>?_) fun hc10 hb3=>?_))))
   ·refine af ?_
    refine fT [(2,pI 9)] (by kernel_rfl) (ap (iZ ?_))
    refine aX hb3 (fun ht=>?_);subst ht
    refine az (aU ?_)
    exact zz r h rfl
   refine ai ?_
   refine dr (ae hb3 fun x11 hx11 hb3=>aq [0] [38,39] [(5,pI x11)] (bJ 1 (lx hx11) bG) (by kernel_rfl) (bQ (ah [40] [(41,pB (x11 != 0))] (by kernel_rfl) (cE rfl hb3 (fun hc12 hb3=>?_) fun hc12 hb3=>?_))))
   ·refine af ?_
    refine ah [42] [(2,pI x11)] (by kernel_rfl) (dX (ap (iZ ?_)))
    refine aX hb3 (fun ht=>?_);subst ht
    refine az (aU ?_)
    exact zz r h rfl
   refine ai ?_
   refine dQ hb3 fun x13 hx13 hb3=>aq [0] [43,44,45,46] [(6,pI x13)] (bJ 3 (lH hx13) bG) (by kernel_rfl) (bQ (ah [47] [(48,pB (x13 != 0))] (by kernel_rfl) (cE rfl hb3 (fun hc14 hb3=>?_) fun hc14 hb3=>?_)))
   ·refine af ?_
    refine ah [49] [(2,pI x13)] (by kernel_rfl) (dX (iZ ?_))
    refine aX hb3 (fun ht=>?_);subst ht
    refine az (aU ?_)
    exact zz r h rfl
   refine ai ?_
   refine fU (ah [50] [(12,pI (IntKind.i64.wrap (v2+1)))] (by kernel_rfl) ?_)
   exact bj hb3 () (lq rfl) ce
  refine aW ?_
  refine av (an hb3 (fun ht=>ar rfl ?_))
  exact aF ((),()) qP ce ht.symm
 rintro ⟨_,_⟩ τ hz;(try dsimp only at hz);subst q4;(try dsimp only at h);dsimp only [aG]
 refine af (fT [(2,pI 0)] (by kernel_rfl) ?_)
 exact zz r h rfl
def gg (p0:Zf) (p1:Zm):Option Bool:=(fz p0).bind fun x3=>(gd (x3 == 0) (gx p1)).bind fun x4=>some ((x3 == 0)&&(x4 == 0))
theorem mN {p0:Zf} {p1:Zm} {r:Bool}  (h:gg p0 p1=some r):PF 126 [.agg (aT p0),.agg (bP p1)] (pB r):=by
 unfold gg at h
 refine bt ?_
 refine eQ Tryz.func126 rfl Tryz.ntmps126 Tryz.results126 rfl (aa (aj rfl (br (cs:=(aT p0)) rfl rfl (fun b1=>aj rfl (br (cs:=(bP p1)) rfl rfl (fun b2=>bm [4] (by kernel_rfl) (dQ h fun x3 hx3 h=>ae h fun x4 hx4 h=>aq [1,0] (rg 5 8) [(4,pB ((x3 == 0)&&(x4 == 0)))] (bJ 1 (iT hx3) (iY 5 (fun hc=>qb (gJ hx4 hc)) bG)) (by kernel_rfl) (dX ?_))))))))
 exact zz r h rfl
def ly (p0:Zf) (p1:Zm) (p2:(List Int)):Option Bool:=(gg p0 p1).bind fun x3=>cond (!x3) (some false) ((pW p0).bind fun x5=>(Irule_test_follow x5 p1 p2).bind fun x6=>some (x6.2&&((x6.1.length:Int) == 0)))
theorem u9 {p0:Zf} {p1:Zm} {p2:(List Int)} {r:Bool}  (h:ly p0 p1 p2=some r):PF 123 [.agg (aT p0),.agg (bP p1),pL eI p2] (pB r):=by
 unfold ly at h
 refine bt ?_
 refine eQ Tryz.func123 rfl Tryz.ntmps123 Tryz.results123 rfl (aa (aj rfl (br (cs:=(aT p0)) rfl rfl (fun b1=>aj rfl (br (cs:=(bP p1)) rfl rfl (fun b2=>bm [6] (by kernel_rfl) (dr (ae h fun x3 hx3 h=>aq [1,0] [9,10,11] [(12,pB (!x3))] (bJ 2 (mN hx3) bG) (by kernel_rfl) (cE rfl h (fun hc4 h=>?_) fun hc4 h=>?_)))))))))
 ·refine af ?_
  refine fT [(6,pB false)] (by kernel_rfl) (ap ?_)
  exact zz r h rfl
 refine ai ?_
 refine bQ (co (ρd:=[]) [(0,0),(2,0),(3,0),(1,1),(4,1),(5,0),(6,0),(7,0),(8,0),(9,0)] _ (List.Perm.refl _) (by kernel_rfl) rfl (ae h fun x5 hx5 h=>ae h fun x6 hx6 h=>cC 10 [1,0] [14,16,17,15,18,13,19,20] [(7,pL eI x6.1),(8,pB x6.2)] (bJ 3 (pX hx5) (C8 4 (Irule_test_follow_ok hx6) bG)) (by kernel_rfl) (cQ (bQ (ah (rg 21 6) [(6,pB (x6.2&&((x6.1.length:Int) == 0)))] (by kernel_rfl) (dX ?_))))))
 exact zz r h rfl
def di (p0:Zv) (p1:Za):Option Zf:=(cY p0.plan p1.Product).bind fun x4=>(aO (S:=Int) (T:=(Unit)⊕(_)) (fun v6=>cond (decide (v6<(p0.list.length:Int))) ((idx p0.list v6).bind fun m10=>cond (m10.ID == p1.Agreement) ((dA m10 x4.1.Code).bind fun x13=>some (.inr (.inr x13.1))) (some (.inl (IntKind.i64.wrap (v6+1))))) (some (.inr (.inl ())))) FUEL 0).bind fun q=>match q with | .inl _=>some (⟨0,0,[],0,0,ByteArray.empty,[]⟩:Zf) | .inr e=>some e
theorem lz {p0:Zv} {p1:Za} {m0_known_claims:Nat} {r:Zf}  (h:di p0 p1=some r):PCall 124 [.agg [.v (.map (some m0_known_claims)),pL Zc.enc p0.plan,pL Zb.enc p0.list,pS p0.importer],.agg [pI p1.Product,pI p1.Agreement]] [PRes.mp (some m0_known_claims) (fF Za.key vT p0.known.claims)] (fun pv ρ'=>pv=.agg (aT r)∧ρ'=[PRes.mp (some m0_known_claims) (fF Za.key vT p0.known.claims)]):=by
 unfold di at h
 refine eQ Tryz.func124 rfl Tryz.ntmps124 Tryz.results124 rfl (aa (aj rfl (br (cs:=[.v (.map (some m0_known_claims)),pL Zc.enc p0.plan,pL Zb.enc p0.list,pS p0.importer]) rfl rfl (fun b1=>aj rfl (br (cs:=[pI p1.Product,pI p1.Agreement]) rfl rfl (fun b2=>aj rfl (aV (cs:=[pI 0,pI 0,pN,pI 0,pI 0,pS ByteArray.empty,pN]) rfl rfl rfl rfl (fun b3=>aw (dQ h fun x4 hx4 h=>aa (bi 8 [2,1] ((rg 12 5)++[11]) [(17,.agg (bd x4.1)),(18,pB x4.2)] (bJ 4 (eM hx4) bG) (by kernel_rfl) (aj rfl (aV (cs:=[pI 0,pS ByteArray.empty,pS ByteArray.empty,pI 0,pB false,pN,pN]) rfl rfl rfl rfl (fun b5=>ba rfl rfl (am (vs:=(bd x4.1)) rfl rfl rfl rfl rfl cP qC (bm [6] (by kernel_rfl) (dr (bk [3] [19] [(20,pL Zb.enc p0.list),(21,pI (p0.list.length:Int)),(22,pI 0)] (by kernel_rfl) (jo h fun q8 hq8 h=>?_))))))))))))))))))
 refine aA (Y:=Unit×Unit) (fun (_,_)=>[(4,pP b3 0)]) (fun (_,_)=>[PRes.b b3 84 [pI 0,pI 0,pN,pI 0,pI 0,pS ByteArray.empty,pN],PRes.mp (some m0_known_claims) (fF Za.key vT p0.known.claims)]) (fun (_,_)=>q8=Sum.inl ()) ?_ ?_
 ·refine aI ?_
  refine aM (Y:=Unit) (S:=Int) _ hq8 (fun _ v6=>[(3,pP b2 0),(4,pP b3 0),(5,pP b5 0),(20,pL Zb.enc p0.list),(21,pI (p0.list.length:Int)),(22,pI v6)]) (fun _ v6=>[PRes.b b2 28 [pI p1.Product,pI p1.Agreement],PRes.b b3 84 [pI 0,pI 0,pN,pI 0,pI 0,pS ByteArray.empty,pN],PRes.b b5 76 (bd x4.1),PRes.mp (some m0_known_claims) (fF Za.key vT p0.known.claims)]) () (xJ rfl) (bh (ak (ak aD)) (bh (ak aD) (bh aD (bh (ak aD) ce)))) ?_
  rintro _ v6 o τ hb7;(try dsimp only at hb7);dsimp only [aG]
  refine af (al [(23,pB (decide (v6<(p0.list.length:Int))))] (by kernel_rfl) (bQ (kx rfl hb7 (fun hc9 hb7=>?_) fun hc9 hb7=>?_)))
  ·refine ai ?_
   refine bQ (iA (ae hb7 fun m10 hm10 hb7=>aa (bi 2 [] [24] [(25,.agg (aR m10))] (eU 0 Zb.enc hm10 bG) (by kernel_rfl) (aj rfl (aV (cs:=[pI 0,pI 0,pN,pN]) rfl rfl rfl rfl (fun b11=>ba rfl rfl (am (vs:=(aR m10)) rfl rfl rfl rfl rfl cP wA (aw (bQ (bk [0,1] [26,27,28,29] [(30,pB (m10.ID == p1.Agreement))] (by kernel_rfl) (cE rfl hb7 (fun hc12 hb7=>?_) fun hc12 hb7=>?_)))))))))))
   ·refine af ?_
    refine ae hb7 fun x13 hx13 hb7=>aa (bi 7 [0,3] [32,33,34,35,31] [(36,.agg (aT x13.1)),(37,pB x13.2)] (bJ 3 (iI hx13) bG) (by kernel_rfl) (aj rfl (aV (cs:=[pI 0,pI 0,pN,pI 0,pI 0,pS ByteArray.empty,pN]) rfl rfl rfl rfl (fun b14=>ba rfl rfl (am (vs:=(aT x13.1)) rfl rfl rfl rfl rfl cP qC (bm [10] (by kernel_rfl) (bQ (aa (gn 1 [0] [(38,.agg (aT x13.1))] (by kernel_rfl) (ba rfl rfl (am (vs:=(aT x13.1)) rfl rfl rfl rfl rfl (dl (dl (dl cP))) qC (aw (dX (iZ ?_))))))))))))))
    refine aX hb7 (fun ht=>?_);subst ht
    refine az (aU ?_)
    obtain rfl:=osi h
    exact aL (cT (gA rfl DQ rfl)) (bh (ak (ak (ak (ak (ak aD))))) ce) ⟨rfl,rfl⟩
   refine ai ?_
   refine fU (ah [39] [(22,pI (IntKind.i64.wrap (v6+1)))] (by kernel_rfl) ?_)
   exact bj hb7 () (xJ rfl) (bh (ak aD) (bh (ak aD) (bh (ak aD) (bh (ak aD) ce))))
  refine aW ?_
  refine av (an hb7 (fun ht=>ar rfl ?_))
  exact aF ((),()) (wz rfl) (bh (ak aD) (bh (ak (ak aD)) ce)) ht.symm
 rintro ⟨_,_⟩ τ hz;(try dsimp only at hz);subst q8;(try dsimp only at h);dsimp only [aG]
 refine af (aa (au 1 [(40,.agg [pI 0,pI 0,pN,pI 0,pI 0,pS ByteArray.empty,pN])] (by kernel_rfl) (ba rfl rfl (am (vs:=[pI 0,pI 0,pN,pI 0,pI 0,pS ByteArray.empty,pN]) rfl rfl rfl rfl rfl cP qC (aw (aQ (d9 (k:=2) (b:=b3) rfl cP (d9 (k:=6) (b:=b3) rfl cP (cd ?_)))))))))
 obtain rfl:=osi h
 exact aL (cT (gA rfl e8 rfl)) (bh (ak aD) ce) ⟨rfl,rfl⟩
def dw (p0:Zv) (p1:Zd):Option Bool:=(cq p0.plan p0.list p0.importer p1.Claim).bind fun x3=>(gd (!(!x3)) (dD p0.known p1.Claim)).bind fun x4=>cond ((!x3)||x4) (some false) ((aO (S:=Int) (T:=(Unit)⊕(_)) (fun v6=>cond (decide (v6<(p1.Premises.length:Int))) ((idx p1.Premises v6).bind fun m10=>(dD p0.known m10).bind fun x12=>(gd ((!(!x12))&&(decide (0<v6))) (idx p1.Premises (IntKind.i64.wrap (v6 - 1)))).bind fun m13=>(gd ((!(!x12))&&(decide (0<v6))) (du m13 m10)).bind fun x14=>cond ((!x12)||((decide (0<v6))&&(decide (0≤x14)))) (some (.inr (.inr false))) (some (.inl (IntKind.i64.wrap (v6+1))))) (some (.inr (.inl ())))) FUEL 0).bind fun q=>match q with | .inl _=>(fg p0.plan p0.list p0.importer p1.Claim p1.Premises).bind (fun x16=>(ca x16.2 p1.Premises).bind fun x18=>cond (!x18) (some false) ((di p0 p1.Claim).bind fun x20=>(ly x20 x16.1 p1.Path).bind fun x21=>some x21)) | .inr e=>some e)
theorem lK {p0:Zv} {p1:Zd} {m0_known_claims:Nat} {r:Bool}  (h:dw p0 p1=some r):PCall 73 [.agg [.v (.map (some m0_known_claims)),pL Zc.enc p0.plan,pL Zb.enc p0.list,pS p0.importer],.agg (bA p1)] [PRes.mp (some m0_known_claims) (fF Za.key vT p0.known.claims)] (fun pv ρ'=>pv=pB r∧ρ'=[PRes.mp (some m0_known_claims) (fF Za.key vT p0.known.claims)]):=by
 unfold dw at h
 refine eQ Tryz.func73 rfl Tryz.ntmps73 Tryz.results73 rfl (aa (aj rfl (br (cs:=[.v (.map (some m0_known_claims)),pL Zc.enc p0.plan,pL Zb.enc p0.list,pS p0.importer]) rfl rfl (fun b1=>aj rfl (br (cs:=(bA p1)) rfl rfl (fun b2=>bm [4] (by kernel_rfl) (dr (ae h fun x3 hx3 h=>ae h fun x4 hx4 h=>aa (bi 15 [1,1,1,0,1,0] ((rg 9 10)++[20,22]) [(19,pB (!x3)),(21,pgv (!(!x3)) (.agg [.v (.map (some m0_known_claims))])),(23,pgv (!(!x3)) (.agg [pI p1.Claim.Product,pI p1.Claim.Agreement]))] (bJ 8 (eW hx3) bG) (by kernel_rfl) ?_)))))))))
 refine ro (yW rfl rfl rfl) rfl rfl rfl (by exact ak (ak aD)) (kI (.g rfl) (kI (.g rfl) sv)) (fun hc=>jg (gJ hx4 hc)) (fun _=>rfl) ?_
 refine bY rfl rfl rfl (Et rfl (.p rfl) (.p rfl) (.g rfl)) (aw (cE rfl h (fun hc5 h=>?_) fun hc5 h=>?_))
 ·refine af ?_
  refine fT [(4,pB false)] (by kernel_rfl) (ap ?_)
  obtain rfl:=osi h
  exact aL (cT (aN rfl)) dB ⟨rfl,rfl⟩
 refine ai ?_
 refine dr (bk [1] [26] [(27,pL Za.enc p1.Premises),(28,pI (p1.Premises.length:Int)),(29,pI 0)] (by kernel_rfl) (jo h fun q8 hq8 h=>?_))
 refine aA (Y:=Unit×Unit) (fun (_,_)=>[(2,pP b1 0),(3,pP b2 0)]) (fun (_,_)=>[PRes.b b1 132 [.v (.map (some m0_known_claims)),pL Zc.enc p0.plan,pL Zb.enc p0.list,pS p0.importer],PRes.b b2 61 (bA p1),PRes.mp (some m0_known_claims) (fF Za.key vT p0.known.claims)]) (fun (_,_)=>q8=Sum.inl ()) ?_ ?_
 ·refine aI ?_
  refine aM (Y:=Unit) (S:=Int) _ hq8 (fun _ v6=>[(2,pP b1 0),(3,pP b2 0),(27,pL Za.enc p1.Premises),(28,pI (p1.Premises.length:Int)),(29,pI v6)]) (fun _ v6=>[PRes.b b1 132 [.v (.map (some m0_known_claims)),pL Zc.enc p0.plan,pL Zb.enc p0.list,pS p0.importer],PRes.b b2 61 (bA p1),PRes.mp (some m0_known_claims) (fF Za.key vT p0.known.claims)]) () (ow rfl) (bh (ak (ak aD)) (bh (ak aD) dB)) ?_
  rintro _ v6 o τ hb7;(try dsimp only at hb7);dsimp only [aG]
  refine af (al [(30,pB (decide (v6<(p1.Premises.length:Int))))] (by kernel_rfl) (bQ (kx rfl hb7 (fun hc9 hb7=>?_) fun hc9 hb7=>?_)))
  ·refine ai ?_
   refine bQ (iA (ae hb7 fun m10 hm10 hb7=>aa (bi 3 [] [32] [(31,pI v6),(33,.agg [pI m10.Product,pI m10.Agreement])] (eU 1 Za.enc hm10 bG) (by kernel_rfl) (aj rfl (aV (cs:=[pI 0,pI 0]) rfl rfl rfl rfl (fun b11=>au 1 [(5,pI v6)] (by kernel_rfl) (ba rfl rfl (am (vs:=[pI m10.Product,pI m10.Agreement]) rfl rfl rfl rfl rfl cP B4 (aw (bQ (co (ρd:=[PRes.mp (some m0_known_claims) _]) [(0,0),(1,0),(2,0),(3,1),(4,0),(5,0),(6,0),(7,0),(8,0),(9,0),(10,0),(11,0),(12,0),(13,0),(14,0),(15,0),(16,1),(17,0),(18,0),(19,0)] _ (aC (ak (ak (ak aD))) (List.Perm.refl _)) (by kernel_rfl) rfl (ae hb7 fun x12 hx12 hb7=>uT 3 [1,0] [34] [(35,.agg [.v (.map (some m0_known_claims))]),(36,.agg [pI m10.Product,pI m10.Agreement])] (by kernel_rfl) ?_))))))))))))
   refine iX rfl rfl rfl (bf rfl rfl (ρ1:=[_]) (aC (by exact aD) (List.Perm.refl _)) (jg hx12) ?_);rintro _ _ ⟨rfl,rfl⟩
   refine ae hb7 fun m13 hm13 hb7=>ae hb7 fun x14 hx14 hb7=>cC 16 [2,0] (rg 38 15) [(53,pB ((!x12)||((decide (0<v6))&&(decide (0≤x14)))))] (mA 9 Za.enc (gJ hm13) (iY 12 (fun hc=>lI (gJ hx14 hc)) bG)) (by kernel_rfl) (cQ (cE rfl hb7 (fun hc15 hb7=>?_) fun hc15 hb7=>?_))
   ·refine af ?_
    refine fT [(4,pB false)] (by kernel_rfl) (iZ ?_)
    refine aX hb7 (fun ht=>?_);subst ht
    refine az (aU ?_)
    obtain rfl:=osi h
    exact aL (cT (aN rfl)) dB ⟨rfl,rfl⟩
   refine ai ?_
   refine fU (ah [54] [(29,pI (IntKind.i64.wrap (v6+1)))] (by kernel_rfl) ?_)
   exact bj hb7 () (ow rfl) (bh (ak (ak aD)) (bh (ak (ak aD)) dB))
  refine aW ?_
  refine av (an hb7 (fun ht=>ar rfl ?_))
  exact aF ((),()) (tG rfl) zs3 ht.symm
 rintro ⟨_,_⟩ τ hz;(try dsimp only at hz);subst q8;(try dsimp only at h);dsimp only [aG]
 refine af (ae h fun x16 hx16 h=>aa (bi 14 [0,0,0,1,1] ((rg 56 11)++[55]) [(67,.agg (bP x16.1)),(68,pL Za.enc x16.2)] (bJ 10 (qa hx16) bG) (by kernel_rfl) (aj rfl (aV (cs:=[pS ByteArray.empty,pI 0,pB false,pN,pN]) rfl rfl rfl rfl (fun b17=>ba rfl rfl (am (vs:=(bP x16.1)) rfl rfl rfl rfl rfl cP EH (aS [(8,pL Za.enc x16.2)] (by kernel_rfl) (dr (ae h fun x18 hx18 h=>aq [2] [69,70,71,72] [(73,pB (!x18))] (bJ 3 (gu hx18) bG) (by kernel_rfl) (cE rfl h (fun hc19 h=>?_) fun hc19 h=>?_))))))))))
 ·refine af ?_
  refine fT [(4,pB false)] (by kernel_rfl) (ap ?_)
  obtain rfl:=osi h
  exact aL (cT (aN rfl)) (bh (ak (ak (ak aD))) ce) ⟨rfl,rfl⟩
 refine ai ?_
 refine bQ (co (ρd:=[PRes.mp (some m0_known_claims) _]) [(0,0),(1,0),(2,0),(4,0),(5,0),(6,0),(3,1),(7,1),(8,0)] _ (aC (ak (ak (ak aD))) (List.Perm.refl _)) (by kernel_rfl) rfl (ae h fun x20 hx20 h=>uT 6 [1,2,0,2] [75,79] [(74,.agg [.v (.map (some m0_known_claims)),pL Zc.enc p0.plan,pL Zb.enc p0.list,pS p0.importer]),(76,.agg [pI p1.Claim.Product,pI p1.Claim.Agreement]),(78,.agg (bP x16.1)),(80,pL eI p1.Path)] (by kernel_rfl) ?_))
 refine iX rfl rfl rfl (bf rfl rfl (ρ1:=[_]) (aC (by exact aD) (List.Perm.refl _)) (lz hx20) ?_);rintro _ _ ⟨rfl,rfl⟩
 refine ae h fun x21 hx21 h=>cC 2 [] [81] [(4,pB x21)] (bJ 0 (u9 hx21) bG) (by kernel_rfl) (cQ (dX ?_))
 obtain rfl:=osi h
 exact aL (cT (aN rfl)) dB ⟨rfl,rfl⟩
def cR (p0:(List Zc)) (p1:(List Zb)) (p2:ByteArray) (p3:(List Zd)):Option (Int×Int):=(dc p0).bind fun x1=>cond (x1 != 0) (some ((0:Int),x1)) ((db p1).bind fun x3=>cond (x3 != 0) (some ((0:Int),x3)) ((bS p2).bind fun x5=>cond (!x5) (some ((0:Int),(1:Int))) ((aO (S:=Int×(List (Za×Bool))) (T:=(Unit)⊕(_)) (fun (v9,l10)=>cond (decide (v9<(p3.length:Int))) ((idx p3 v9).bind fun m14=>(dw (⟨(⟨l10⟩:Zr),p0,p1,p2⟩:Zv) m14).bind fun x16=>cond (!x16) (some (.inr (.inr (v9,(10:Int))))) ((fR (⟨l10⟩:Zr) m14.Claim).bind fun x18=>some (.inl ((IntKind.i64.wrap (v9+1)),x18)))) (some (.inr (.inl ())))) FUEL (0,([]:List (Za×Bool)))).bind fun q=>match q with | .inl _=>some ((p3.length:Int),(0:Int)) | .inr e=>some e)))
theorem gy {p0:(List Zc)} {p1:(List Zb)} {p2:ByteArray} {p3:(List Zd)} {r:(Int×Int)}  (h:cR p0 p1 p2 p3=some r):PF 25 [pL Zc.enc p0,pL Zb.enc p1,pS p2,pL Zd.enc p3] (.tup [pI r.1,pI r.2]):=by
 unfold cR at h
 refine bt ?_
 refine eQ Tryz.func25 rfl Tryz.ntmps25 Tryz.results25 rfl (be [8,9] (by kernel_rfl) (dr (ae h fun x1 hx1 h=>aq [] [15,16] [(10,pI x1)] (bJ 1 (kj hx1) bG) (by kernel_rfl) (bQ (ah [17] [(18,pB (x1 != 0))] (by kernel_rfl) (cE rfl h (fun hc2 h=>?_) fun hc2 h=>?_))))))
 ·refine af ?_
  refine ah [19] [(8,pI 0),(9,pI x1)] (by kernel_rfl) (dX (ap ?_))
  obtain rfl:=osi h
  exact aL (dH (aN rfl) (aN rfl)) ce ⟨rfl,rfl⟩
 refine ai ?_
 refine dr (ae h fun x3 hx3 h=>aq [] [20,21] [(11,pI x3)] (bJ 1 (ki hx3) bG) (by kernel_rfl) (bQ (ah [22] [(23,pB (x3 != 0))] (by kernel_rfl) (cE rfl h (fun hc4 h=>?_) fun hc4 h=>?_))))
 ·refine af ?_
  refine ah [24] [(8,pI 0),(9,pI x3)] (by kernel_rfl) (dX (ap ?_))
  obtain rfl:=osi h
  exact aL (dH (aN rfl) (aN rfl)) ce ⟨rfl,rfl⟩
 refine ai ?_
 refine dr (ae h fun x5 hx5 h=>aq [] [25,26] [(27,pB (!x5))] (bJ 1 (eo hx5) bG) (by kernel_rfl) (cE rfl h (fun hc6 h=>?_) fun hc6 h=>?_))
 ·refine af ?_
  refine fT [(8,pI 0),(9,pI 1)] (by kernel_rfl) (ap ?_)
  obtain rfl:=osi h
  exact aL (dH (aN rfl) (aN rfl)) ce ⟨rfl,rfl⟩
 refine ai ?_
 refine bQ (aa (aj rfl (pF Za.key vT rfl (fun b7=>cV 5 [29,30,31,32] [(33,.agg [.v (.map (some b7)),pL Zc.enc p0,pL Zb.enc p1,pS p2])] (by kernel_rfl) (aj rfl (aV (cs:=[.v (.map none),pN,pN,pS ByteArray.empty]) rfl rfl rfl rfl (fun b8=>ba rfl rfl (am (vs:=[.v (.map (some b7)),pL Zc.enc p0,pL Zb.enc p1,pS p2]) rfl rfl rfl rfl rfl cP wA (aw (dr (al [(34,pL Zd.enc p3),(35,pI (p3.length:Int)),(36,pI 0)] (by kernel_rfl) (jo h fun q12 hq12 h=>?_))))))))))))
 refine aA (Y:=Unit×Unit) (fun (_,_)=>[(3,pL Zd.enc p3)]) (fun (_,_)=>[]) (fun (_,_)=>q12=Sum.inl ()) ?_ ?_
 ·refine aI ?_
  refine aM (Y:=Unit) (S:=Int×(List (Za×Bool))) _ hq12 (fun _ (v9,l10)=>[(3,pL Zd.enc p3),(12,pP b8 0),(34,pL Zd.enc p3),(35,pI (p3.length:Int)),(36,pI v9)]) (fun _ (v9,l10)=>[PRes.mp (some b7) (fF Za.key vT l10),PRes.b b8 132 [.v (.map (some b7)),pL Zc.enc p0,pL Zb.enc p1,pS p2]]) () (ow rfl) (bh (ak aD) dB) ?_
  rintro _ ⟨v9,l10⟩ o τ hb11;(try dsimp only at hb11);dsimp only [aG]
  refine af (al [(37,pB (decide (v9<(p3.length:Int))))] (by kernel_rfl) (bQ (kx rfl hb11 (fun hc13 hb11=>?_) fun hc13 hb11=>?_)))
  ·refine ai ?_
   refine bQ (iA (ae hb11 fun m14 hm14 hb11=>aa (bi 3 [] [39] [(38,pI v9),(40,.agg (bA m14))] (eU 1 Zd.enc hm14 bG) (by kernel_rfl) (aj rfl (aV (cs:=[pI 0,pI 0,pN,pN]) rfl rfl rfl rfl (fun b15=>au 1 [(13,pI v9)] (by kernel_rfl) (ba rfl rfl (am (vs:=(bA m14)) rfl rfl rfl rfl rfl cP wA (aw (dr (ae hb11 fun x16 hx16 hb11=>aa (gn 2 [2,0] [(41,.agg [.v (.map (some b7)),pL Zc.enc p0,pL Zb.enc p1,pS p2]),(42,.agg (bA m14))] (by kernel_rfl) ?_))))))))))))
   refine aj rfl (bf rfl rfl (ρ1:=[_]) (aC (by exact ak aD) (List.Perm.refl _)) (lK hx16) ?_);rintro _ _ ⟨rfl,rfl⟩
   refine aS [(44,pB (!x16))] (by kernel_rfl) (cE rfl hb11 (fun hc17 hb11=>?_) fun hc17 hb11=>?_)
   ·refine af ?_
    refine ah [45] [(8,pI v9),(9,pI 10)] (by kernel_rfl) (dX (ap (iZ ?_)))
    refine aX hb11 (fun ht=>?_);subst ht
    refine az (aU ?_)
    obtain rfl:=osi h
    exact aL (dH (aN rfl) (aN rfl)) ce ⟨rfl,rfl⟩
   refine ai ?_
   refine jo hb11 fun x18 hx18 hb11=>aa (cw 4 [2,1] [46,48] [(47,.agg [.v (.map (some b7))]),(49,.agg [pI m14.Claim.Product,pI m14.Claim.Agreement])] (by kernel_rfl) ?_)
   refine aj rfl (bf rfl rfl (ρ1:=[_]) (aC (by exact aD) (List.Perm.refl _)) (nw hx18) ?_);rintro _ _ ⟨rfl,rfl⟩
   refine aw (fU (ah [51] [(36,pI (IntKind.i64.wrap (v9+1)))] (by kernel_rfl) ?_))
   exact bj hb11 () (ow rfl) (bh aD (bh (ak aD) ce))
  refine aW ?_
  refine av (an hb11 (fun ht=>ar rfl ?_))
  exact aF ((),()) (wz rfl) ce ht.symm
 rintro ⟨_,_⟩ τ hz;(try dsimp only at hz);subst q12;(try dsimp only at h);dsimp only [aG]
 refine af (ah [52,53] [(8,pI (p3.length:Int)),(9,pI 0)] (by kernel_rfl) (dX ?_))
 obtain rfl:=osi h
 exact aL (dH (aN rfl) (aN rfl)) ce ⟨rfl,rfl⟩
def jJ  : Option Bool:=(cR [(⟨1,(⟨#[57,52,48,49,48,49]⟩:ByteArray),(⟨#[65,65]⟩:ByteArray),10,true,[],[]⟩:Zc)] [(⟨7,1,[(⟨#[65,65]⟩:ByteArray),(⟨#[67,67]⟩:ByteArray)],[(⟨(⟨#[57,52]⟩:ByteArray),(⟨1,0,[],0,0,ByteArray.empty,[]⟩:Zf)⟩:Zi)]⟩:Zb)] (⟨#[67,67]⟩:ByteArray) []).bind fun x9=>(cR [(⟨1,(⟨#[57,52,48,49,48,49]⟩:ByteArray),(⟨#[65,65]⟩:ByteArray),10,true,[],[]⟩:Zc)] [(⟨7,1,[(⟨#[65,65]⟩:ByteArray),(⟨#[67,67]⟩:ByteArray)],[(⟨(⟨#[57,52]⟩:ByteArray),(⟨1,0,[],0,0,ByteArray.empty,[]⟩:Zf)⟩:Zi)]⟩:Zb)] (⟨#[67,67]⟩:ByteArray) [(⟨(⟨1,7⟩:Za),[],[]⟩:Zd)]).bind fun x12=>(cR [(⟨1,(⟨#[57,52,48,49,48,49]⟩:ByteArray),(⟨#[65,65]⟩:ByteArray),10,true,[],[]⟩:Zc)] [(⟨7,1,[(⟨#[65,65]⟩:ByteArray),(⟨#[67,67]⟩:ByteArray)],[(⟨(⟨#[57,52]⟩:ByteArray),(⟨1,0,[],0,0,ByteArray.empty,[]⟩:Zf)⟩:Zi)]⟩:Zb)] (⟨#[67,67]⟩:ByteArray) [(⟨(⟨1,8⟩:Za),[],[]⟩:Zd)]).bind fun x15=>some (((((x9.1 == 0)&&(x9.2 == 0))&&(x12.1 == 1))&&(x12.2 == 0))&&(x15.2 == 10))
theorem qc  {r:Bool}  (h:jJ  = some r):PF 27 [] (pB r):=by
 unfold jJ at h
 refine bt ?_
 refine eQ Tryz.func27 rfl Tryz.ntmps27 Tryz.results27 rfl (be [0] (by kernel_rfl) (bQ (aa (aj rfl (bD rfl rfl rfl rfl rfl (f0 rfl (f0 rfl ja)) rfl rfl rfl rfl (fun b1=>au 1 [(10,.agg [pI 1,pI 0,pN,pI 0,pI 0,pS ByteArray.empty,pN])] (by kernel_rfl) (iy 10 2 rfl rfl (iy 10 6 rfl rfl (au 1 [(11,.agg [pS (⟨#[57,52]⟩:ByteArray),pI 1,pI 0,pL eS [],pI 0,pI 0,pS ByteArray.empty,pL Zf.enc []])] (by kernel_rfl) (aj rfl (bD rfl rfl rfl rfl rfl (f0 rfl ja) rfl rfl rfl rfl (fun b3=>?_))))))))))))
 refine fm (enc:=eS) (xs:=[(⟨#[65,65]⟩:ByteArray),(⟨#[67,67]⟩:ByteArray)]) 9 rfl (by exact ak aD) ?_
 refine fm (enc:=Zi.enc) (xs:=[(⟨(⟨#[57,52]⟩:ByteArray),(⟨1,0,[],0,0,ByteArray.empty,[]⟩:Zf)⟩:Zi)]) 12 rfl (by exact ak aD) ?_
 refine au 1 [(13,.agg [pI 7,pI 1,pL eS [(⟨#[65,65]⟩:ByteArray),(⟨#[67,67]⟩:ByteArray)],pL Zi.enc [(⟨(⟨#[57,52]⟩:ByteArray),(⟨1,0,[],0,0,ByteArray.empty,[]⟩:Zf)⟩:Zi)]])] (by kernel_rfl) (aj rfl (bD rfl rfl rfl rfl rfl (f0 rfl ja) rfl rfl rfl rfl (fun b5=>aS [(1,pO (some ⟨b5,0,none⟩) 1 1)] (by kernel_rfl) (bQ (aa (au 1 [(15,.agg [pI 1,pS (⟨#[57,52,48,49,48,49]⟩:ByteArray),pS (⟨#[65,65]⟩:ByteArray),pI 10,pB true,pN,pN])] (by kernel_rfl) (iy 15 5 rfl rfl (iy 15 6 rfl rfl (aj rfl (bD rfl rfl rfl rfl rfl (f0 rfl ja) rfl rfl rfl rfl (fun b7=>aS [(2,pO (some ⟨b7,0,none⟩) 1 1)] (by kernel_rfl) (bQ (aa (au 2 [(18,pO (some ⟨b7,0,none⟩) 1 1),(19,pO (some ⟨b5,0,none⟩) 1 1)] (by kernel_rfl) ?_))))))))))))))
 refine fm (enc:=Zc.enc) (xs:=[(⟨1,(⟨#[57,52,48,49,48,49]⟩:ByteArray),(⟨#[65,65]⟩:ByteArray),10,true,[],[]⟩:Zc)]) 18 rfl (by exact aD) ?_
 refine fm (enc:=Zb.enc) (xs:=[(⟨7,1,[(⟨#[65,65]⟩:ByteArray),(⟨#[67,67]⟩:ByteArray)],[(⟨(⟨#[57,52]⟩:ByteArray),(⟨1,0,[],0,0,ByteArray.empty,[]⟩:Zf)⟩:Zi)]⟩:Zb)]) 19 rfl (by exact ak aD) ?_
 refine ae h fun x9 hx9 h=>Ep rfl rfl rfl rfl rfl (pf_nil1 [_,_,_] [] (gy hx9)) (hZ [17,21,22] [(3,pI x9.1),(4,pI x9.2)] (by kernel_rfl) (bQ (aa (cV 4 [26] [(24,pO (some ⟨b7,0,none⟩) 1 1),(25,pO (some ⟨b5,0,none⟩) 1 1),(27,.agg [pI 1,pI 7,pN,pN])] (by kernel_rfl) (iy 27 2 rfl rfl (iy 27 3 rfl rfl (aj rfl (bD rfl rfl rfl rfl rfl (f0 rfl ja) rfl rfl rfl rfl (fun b10=>px (enc:=Zc.enc) (xs:=[(⟨1,(⟨#[57,52,48,49,48,49]⟩:ByteArray),(⟨#[65,65]⟩:ByteArray),10,true,[],[]⟩:Zc)]) 24 rfl vM (px (enc:=Zb.enc) (xs:=[(⟨7,1,[(⟨#[65,65]⟩:ByteArray),(⟨#[67,67]⟩:ByteArray)],[(⟨(⟨#[57,52]⟩:ByteArray),(⟨1,0,[],0,0,ByteArray.empty,[]⟩:Zf)⟩:Zi)]⟩:Zb)]) 25 rfl tF ?_))))))))))
 refine fm (enc:=Zd.enc) (xs:=[(⟨(⟨1,7⟩:Za),[],[]⟩:Zd)]) 28 rfl (by exact aD) ?_
 refine ae h fun x12 hx12 h=>gG [] [29,23,30,31] [(5,pI x12.1),(6,pI x12.2)] (bJ 0 (gy hx12) bG) (by kernel_rfl) (bQ (aa (cV 4 [35] [(33,pO (some ⟨b7,0,none⟩) 1 1),(34,pO (some ⟨b5,0,none⟩) 1 1),(36,.agg [pI 1,pI 8,pN,pN])] (by kernel_rfl) (iy 36 2 rfl rfl (iy 36 3 rfl rfl (aj rfl (bD rfl rfl rfl rfl rfl (f0 rfl ja) rfl rfl rfl rfl (fun b13=>px (enc:=Zc.enc) (xs:=[(⟨1,(⟨#[57,52,48,49,48,49]⟩:ByteArray),(⟨#[65,65]⟩:ByteArray),10,true,[],[]⟩:Zc)]) 33 rfl DQ (px (enc:=Zb.enc) (xs:=[(⟨7,1,[(⟨#[65,65]⟩:ByteArray),(⟨#[67,67]⟩:ByteArray)],[(⟨(⟨#[57,52]⟩:ByteArray),(⟨1,0,[],0,0,ByteArray.empty,[]⟩:Zf)⟩:Zi)]⟩:Zb)]) 34 rfl vM ?_)))))))))
 refine fm (enc:=Zd.enc) (xs:=[(⟨(⟨1,8⟩:Za),[],[]⟩:Zd)]) 37 rfl (by exact aD) ?_
 refine ae h fun x15 hx15 h=>gG [] [38,32,39,40,7] [(8,pI x15.2)] (bJ 0 (gy hx15) bG) (by kernel_rfl) (bQ (ah (rg 41 18) [(0,pB (((((x9.1 == 0)&&(x9.2 == 0))&&(x12.1 == 1))&&(x12.2 == 0))&&(x15.2 == 10)))] (by kernel_rfl) (dX ?_)))
 exact zz r h rfl
def gz (p0:(List Zc)) (p1:(List Zb)) (p2:ByteArray) (p3:Za) (p4:(List Za)):Option (Zm×(List Za)):=(cq p0 p1 p2 p3).bind fun x3=>cond (!x3) (some ((⟨ByteArray.empty,0,false,[],[]⟩:Zm),[])) ((cY p0 p3.Product).bind fun x5=>(eE p1 p3.Agreement).bind fun x7=>(eC p1 p3.Agreement x5.1.Country p2).bind fun x9=>(aO (S:=Int×(List (Za×Bool))) (T:=((List (Za×Bool)))) (fun (v12,l13)=>cond (decide (v12<((p4.length:Nat):Int))) ((idx p4 v12).bind fun m19=>some (.inl ((IntKind.i64.wrap (v12+1)),(pE l13 m19 true)))) (some (.inr l13))) FUEL (0,([]:List (Za×Bool)))).bind fun l15=>(ff p0 x7.1 x5.1 (⟨x9,l15⟩:Zt)).bind fun x21=>(aO (S:=(List Za)×Int×(List Zl)) (T:=((List Za)×(List Zl))) (fun (l24,v27,l29)=>cond (decide (v27<(x21.1.length:Int))) (((idx x21.1 v27).bind fun m56=>(Icumulation_supply_input m56).bind fun x57=>(app 32 l29 [x57]).bind fun l60=>cond (Ze.is_proved_ m56) ((app 16 l24 [(((Ze.as_proved_ m56)).premise)]).bind fun l68=>some (l68,l60)) (some (l24,l60))).bind fun (l49,l54)=>some (.inl (l49,(IntKind.i64.wrap (v27+1)),l54))) (some (.inr (l24,l29)))) FUEL (([]:List Za),0,([]:List Zl))).bind fun (l35,l40)=>(bu l35).bind fun x72=>(bB x72).bind fun x73=>some ((⟨x5.1.Code,x5.1.Price,x5.1.Obtained,x21.2,l40⟩:Zm),x73))
theorem nT {p0:(List Zc)} {p1:(List Zb)} {p2:ByteArray} {p3:Za} {p4:(List Za)} {a_4:Option Addr}  {n_4:Nat}  {c_4:Nat} {r:(Zm×(List Za))}  (h:gz p0 p1 p2 p3 p4=some r):PCall 17 [pL Zc.enc p0,pL Zb.enc p1,pS p2,.agg [pI p3.Product,pI p3.Agreement],.v (.slice a_4 n_4 c_4)] [PRes.row a_4 n_4 c_4 28 2 (List.map Za.enc p4)] (fun pv ρ'=>pv=.tup [.agg (bP r.1),pL Za.enc r.2]∧ρ'=[PRes.row a_4 n_4 c_4 28 2 (List.map Za.enc p4)]):=by
 unfold gz at h
 refine lc Tryz.func17 rfl Tryz.ntmps17 Tryz.results17 rfl ?_
 refine iw (enc:=Za.enc) (xs:=p4) (a:=a_4) e8 (fun hl ha=>?_);subst hl;clear ha
 refine af (aa (aj rfl (br (cs:=[pI p3.Product,pI p3.Agreement]) rfl rfl (fun b1=>aj rfl (aV (cs:=[pS ByteArray.empty,pI 0,pB false,pN,pN]) rfl rfl rfl rfl (fun b2=>bm [11] (by kernel_rfl) (dr (ae h fun x3 hx3 h=>aq [1] (rg 27 5) [(32,pB (!x3))] (bJ 4 (eW hx3) bG) (by kernel_rfl) (cE rfl h (fun hc4 h=>?_) fun hc4 h=>?_)))))))))
 ·refine af ?_
  refine aa (au 1 [(33,.agg [pS ByteArray.empty,pI 0,pB false,pN,pN])] (by kernel_rfl) (ba rfl rfl (am (vs:=[pS ByteArray.empty,pI 0,pB false,pN,pN]) rfl rfl rfl rfl rfl cP EH (aS [(11,pN)] (by kernel_rfl) (aQ (d9 (k:=3) (b:=b2) rfl cP (d9 (k:=4) (b:=b2) rfl cP (jn 11 rfl (cd (ap ?_))))))))))
  obtain rfl:=osi h
  exact aL (dH (gA rfl e8 rfl) (aN rfl)) (bh (ak (ak aD)) ce) ⟨rfl,rfl⟩
 refine ai ?_
 refine dQ h fun x5 hx5 h=>aa (bi 7 [1] [35,36,37,38,34] [(39,.agg (bd x5.1)),(40,pB x5.2)] (bJ 3 (eM hx5) bG) (by kernel_rfl) (aj rfl (aV (cs:=[pI 0,pS ByteArray.empty,pS ByteArray.empty,pI 0,pB false,pN,pN]) rfl rfl rfl rfl (fun b6=>ba rfl rfl (am (vs:=(bd x5.1)) rfl rfl rfl rfl rfl cP qC (bm [13] (by kernel_rfl) (dQ h fun x7 hx7 h=>aa (bi 7 [2] [42,43,44,45,41] [(46,.agg (aR x7.1)),(47,pB x7.2)] (bJ 3 (gW hx7) bG) (by kernel_rfl) (aj rfl (aV (cs:=[pI 0,pI 0,pN,pN]) rfl rfl rfl rfl (fun b8=>ba rfl rfl (am (vs:=(aR x7.1)) rfl rfl rfl rfl rfl cP wA (bm [15] (by kernel_rfl) (dQ h fun x9 hx9 h=>aa (bi 7 [3,1] (rg 48 6) [(54,pL eI x9)] (bJ 6 (kh hx9) bG) (by kernel_rfl) (aj rfl (pF Za.key vT rfl (fun b10=>au 1 [(56,.agg [pL eI x9,.v (.map (some b10))])] (by kernel_rfl) (aj rfl (aV (cs:=[pN,.v (.map none)]) rfl rfl rfl rfl (fun b11=>ba rfl rfl (am (vs:=[pL eI x9,.v (.map (some b10))]) rfl rfl rfl rfl rfl cP B4 (aw (dr (al [(57,pO a_4 p4.length c_4),(58,pI ((p4.length:Nat):Int)),(59,pI 0)] (by kernel_rfl) (jo h fun q17 hq17 h=>?_))))))))))))))))))))))))))
 refine aA (Y:=Unit×((List (Za×Bool)))) (fun (_,l15)=>[(0,pL Zc.enc p0),(10,pP b2 0),(12,pP b6 0),(14,pP b8 0),(16,pP b11 0)]) (fun (_,l15)=>[PRes.mp (some b10) (fF Za.key vT l15),PRes.b b11 96 [pL eI x9,.v (.map (some b10))],PRes.b b2 36 [pS ByteArray.empty,pI 0,pB false,pN,pN],PRes.b b6 76 (bd x5.1),PRes.b b8 81 (aR x7.1),PRes.row a_4 p4.length c_4 28 2 (List.map Za.enc p4)]) (fun (_,l15)=>q17=l15) ?_ ?_
 ·refine aI ?_
  refine aM (Y:=Unit) (S:=Int×(List (Za×Bool))) _ hq17 (fun _ (v12,l13)=>[(0,pL Zc.enc p0),(10,pP b2 0),(12,pP b6 0),(14,pP b8 0),(16,pP b11 0),(57,pO a_4 p4.length c_4),(58,pI ((p4.length:Nat):Int)),(59,pI v12)]) (fun _ (v12,l13)=>[PRes.mp (some b10) (fF Za.key vT l13),PRes.b b11 96 [pL eI x9,.v (.map (some b10))],PRes.b b2 36 [pS ByteArray.empty,pI 0,pB false,pN,pN],PRes.b b6 76 (bd x5.1),PRes.b b8 81 (aR x7.1),PRes.row a_4 p4.length c_4 28 2 (List.map Za.enc p4)]) () (rn rfl) (bh (ak aD) (bh aD (bh (ak (ak aD)) (bh (ak aD) (bh aD (bh (ak aD) ce)))))) ?_
  rintro _ ⟨v12,l13⟩ o τ hb16;(try dsimp only at hb16);dsimp only [aG]
  refine af (al [(60,pB (decide (v12<((p4.length:Nat):Int))))] (by kernel_rfl) (bQ (kx rfl hb16 (fun hc18 hb16=>?_) fun hc18 hb16=>?_)))
  ·refine ai ?_
   refine bQ (iA (ae hb16 fun m19 hm19 hb16=>aa (bY rfl rfl rfl (ez (enc:=Za.enc) (xs:=p4) rfl rfl rfl (.p rfl) zm5 (.p rfl) (fun _=>hm19)) (bY rfl rfl rfl (cH (sz:=2) (p:=.agg [pI m19.Product,pI m19.Agreement]) (enc:=Za.enc) (xs:=p4) (a:=a_4) v12 0 m19 rfl (.p rfl) rfl zm5 (fun _=>hm19) rfl) (aj rfl (aV (cs:=[pI 0,pI 0]) rfl rfl rfl rfl (fun b20=>ba rfl rfl (am (vs:=[pI m19.Product,pI m19.Agreement]) rfl rfl rfl rfl rfl cP B4 (aw (aQ (aa (cw 3 [2,0] [63] [(64,.v (.map (some b10))),(65,.agg [pI m19.Product,pI m19.Agreement])] (by kernel_rfl) (ba rfl rfl (ox (xs:=l13) (k:=m19) (ek:=Za.key) (vv:=vT) (v:=true) rfl rfl Za.kenc28 rfl rfl uQ rfl (dl cP) (aw (fU (ah [66] [(59,pI (IntKind.i64.wrap (v12+1)))] (by kernel_rfl) ?_)))))))))))))))))
   exact bj hb16 () (rn rfl) (bh (ak aD) (bh (ak aD) (bh (ak aD) (bh (ak aD) (bh (ak aD) (bh (ak aD) ce))))))
  refine aW ?_
  refine av (an hb16 (fun ht=>ar rfl ?_))
  exact aF ((),l13) (ow rfl) zs6 ht.symm
 rintro ⟨_,l15⟩ τ hz;(try dsimp only at hz);subst q17;(try dsimp only at h);dsimp only [aG]
 refine af (ae h fun x21 hx21 h=>aa (gn 4 [4,3,1] [(68,pL Zc.enc p0),(69,.agg (aR x7.1)),(70,.agg (bd x5.1)),(71,.agg [pL eI x9,.v (.map (some b10))])] (by kernel_rfl) ?_))
 refine aj rfl (bf rfl rfl (ρ1:=[_]) (aC (by exact aD) (List.Perm.refl _)) (lw hx21) ?_);rintro _ _ ⟨rfl,rfl⟩
 refine hZ [67,73,74] [(19,pL Ze.enc x21.1),(20,pL eS x21.2)] (by kernel_rfl) (bQ (aa (cw 8 [3,3,3] (rg 75 7) [(82,.agg [pS x5.1.Code,pI x5.1.Price,pB x5.1.Obtained,pL eS x21.2,pN])] (by kernel_rfl) (aj rfl (aV (cs:=[pS ByteArray.empty,pI 0,pB false,pN,pN]) rfl rfl rfl rfl (fun b22=>ba rfl rfl (am (vs:=[pS x5.1.Code,pI x5.1.Price,pB x5.1.Obtained,pL eS x21.2,pN]) rfl rfl rfl rfl rfl cP EH (aw (bQ (al [(22,pN)] (by kernel_rfl) (dr (al [(83,pL Ze.enc x21.1),(84,pI (x21.1.length:Int)),(85,pI 0)] (by kernel_rfl) (aQ (cA 28 2 (cA 103 3 (ae h fun q42 hq42 h=>?_))))))))))))))))
 refine aA (Y:=(Option Addr×Nat×Option Addr×Nat)×((List Za)×(List Zl))) (fun ((a33,c34,a38,c39),(l35,l40))=>[(10,pP b2 0),(21,pP b22 0),(22,pO a33 l35.length c34)]) (fun ((a33,c34,a38,c39),(l35,l40))=>[PRes.b b2 36 [pS ByteArray.empty,pI 0,pB false,pN,pN],PRes.b b22 36 [pS x5.1.Code,pI x5.1.Price,pB x5.1.Obtained,pL eS x21.2,pO a38 l40.length c39],PRes.row a33 l35.length c34 28 2 (List.map Za.enc l35),PRes.row a_4 p4.length c_4 28 2 (List.map Za.enc p4),PRes.row a38 l40.length c39 103 3 (List.map Zl.enc l40)]) (fun ((a33,c34,a38,c39),(l35,l40))=>q42=(l35,l40)) ?_ ?_
 ·refine aI ?_
  refine aM (Y:=Option Addr×Nat×Option Addr×Nat) (S:=(List Za)×Int×(List Zl)) _ hq42 (fun (a25,c26,a30,c31) (l24,v27,l29)=>[(10,pP b2 0),(21,pP b22 0),(22,pO a25 l24.length c26),(83,pL Ze.enc x21.1),(84,pI (x21.1.length:Int)),(85,pI v27)]) (fun (a25,c26,a30,c31) (l24,v27,l29)=>[PRes.b b2 36 [pS ByteArray.empty,pI 0,pB false,pN,pN],PRes.b b22 36 [pS x5.1.Code,pI x5.1.Price,pB x5.1.Obtained,pL eS x21.2,pO a30 l29.length c31],PRes.row a_4 p4.length c_4 28 2 (List.map Za.enc p4),PRes.row a25 l24.length c26 28 2 (List.map Za.enc l24),PRes.row a30 l29.length c31 103 3 (List.map Zl.enc l29)]) (none,0,none,0) (xJ rfl) (bh (ak (ak (ak (ak (ak aD))))) (bh (ak (ak aD)) (bh (ak (ak (ak (ak (ak (ak aD)))))) (bh (ak aD) dB)))) ?_
  rintro ⟨a25,c26,a30,c31⟩ ⟨l24,v27,l29⟩ o τ hb41;(try dsimp only at hb41);dsimp only [aG]
  refine af (al [(86,pB (decide (v27<(x21.1.length:Int))))] (by kernel_rfl) (bQ (kx rfl hb41 (fun hc45 hb41=>?_) fun hc45 hb41=>?_)))
  ·refine ai ?_
   refine dQ hb41 fun q55 hq55 hb41=>?_
   refine aA (Y:=(Option Addr×Nat×Option Addr×Nat)×((List Za)×(List Zl))) (fun ((a47,c48,a52,c53),(l49,l54))=>[(10,pP b2 0),(21,pP b22 0),(22,pO a47 l49.length c48),(83,pL Ze.enc x21.1),(84,pI (x21.1.length:Int)),(85,pI v27)]) (fun ((a47,c48,a52,c53),(l49,l54))=>[PRes.b b2 36 [pS ByteArray.empty,pI 0,pB false,pN,pN],PRes.b b22 36 [pS x5.1.Code,pI x5.1.Price,pB x5.1.Obtained,pL eS x21.2,pO a52 l54.length c53],PRes.row a47 l49.length c48 28 2 (List.map Za.enc l49),PRes.row a_4 p4.length c_4 28 2 (List.map Za.enc p4),PRes.row a52 l54.length c53 103 3 (List.map Zl.enc l54)]) (fun ((a47,c48,a52,c53),(l49,l54))=>q55=(l49,l54)) ?_ ?_
   ·skip
    refine iA (ae hq55 fun m56 hm56 hq55=>aq [] [87,88] [(24,Ze.pv m56)] (eU 0 Ze.enc hm56 bG) (by kernel_rfl) (dQ hq55 fun x57 hx57 hq55=>ae hq55 fun l60 hl60 hq55=>?_))
    refine aA (Y:=Option Addr×Nat) (fun (a61,c62)=>[(10,pP b2 0),(21,pP b22 0),(22,pO a25 l24.length c26),(24,Ze.pv m56),(83,pL Ze.enc x21.1),(84,pI (x21.1.length:Int)),(85,pI v27)]) (fun (a61,c62)=>[PRes.b b2 36 [pS ByteArray.empty,pI 0,pB false,pN,pN],PRes.b b22 36 [pS x5.1.Code,pI x5.1.Price,pB x5.1.Obtained,pL eS x21.2,pO a61 l60.length c62],PRes.row a_4 p4.length c_4 28 2 (List.map Za.enc p4),PRes.row a25 l24.length c26 28 2 (List.map Za.enc l24),PRes.row a61 l60.length c62 103 3 (List.map Zl.enc l60)]) (fun _=>True) ?_ ?_
    ·refine iO (ρd:=[PRes.row a30 _ _ _ _ _,PRes.b b22 _ _]) _ (aC (ak (ak (ak (ak aD)))) (aC (ak aD) (List.Perm.refl _))) ?_
     refine bH 0 (by kernel_rfl) rfl rfl rfl rfl (bg rfl rfl rfl rfl rfl (.p rfl)) (bH 2 (by kernel_rfl) rfl rfl rfl rfl (dp (p:=Ze.pv m56) rfl (.p rfl)) ?_)
     refine gF 1 3 (by kernel_rfl) ?_ ?_
     ·skip
      refine aZ rfl rfl rfl rfl (jx (cg (p:=pO a30 l29.length c31) rfl (.p rfl) tF rfl) (aY 3 (by kernel_rfl) (aZ rfl rfl rfl rfl (qD rfl rfl (Icumulation_supply_input_ok hx57) (aY 4 (by kernel_rfl) (aZ rfl rfl rfl rfl (bD rfl rfl rfl rfl rfl (f0 rfl ja) rfl rfl rfl rfl (fun b58=>aY 5 (by kernel_rfl) ?_))))))))
      refine aZ rfl rfl rfl rfl (bT (enc:=Zl.enc) rfl rfl rfl rfl rfl rfl rfl rfl rfl e8 (by exact ak aD) hl60 (fun a61 c62=>?_))
      refine bH 6 (by kernel_rfl) rfl rfl rfl rfl (bg rfl rfl rfl rfl rfl (.p rfl)) (aY 7 (by kernel_rfl) (cL rfl rfl rfl (am (vs:=[pO a61 l60.length c62]) rfl rfl rfl rfl rfl (dl (dl cP)) (dK (dK (dK (dK mP)))) (cX (by kernel_rfl) ?_))))
      exact aF (a61,c62) (rm rfl) (bh (ak (ak (ak aD))) (bh (ak (ak aD)) (bh (ak (ak aD)) (bh (ak (ak aD)) dB)))) trivial
     skip
     refine aZ rfl rfl rfl rfl (qD rfl rfl (Icumulation_supply_input_ok hx57) ?_)
     refine gF 1 4 (by kernel_rfl) ?_ ?_
     ·skip
      refine aZ rfl rfl rfl rfl (jx (cg (p:=pO a30 l29.length c31) rfl (.p rfl) tF rfl) (aY 4 (by kernel_rfl) (aZ rfl rfl rfl rfl (bD rfl rfl rfl rfl rfl (f0 rfl ja) rfl rfl rfl rfl (fun b58=>aY 5 (by kernel_rfl) ?_)))))
      refine aZ rfl rfl rfl rfl (bT (enc:=Zl.enc) rfl rfl rfl rfl rfl rfl rfl rfl rfl e8 (by exact ak aD) hl60 (fun a61 c62=>?_))
      refine bH 6 (by kernel_rfl) rfl rfl rfl rfl (bg rfl rfl rfl rfl rfl (.p rfl)) (aY 7 (by kernel_rfl) (cL rfl rfl rfl (am (vs:=[pO a61 l60.length c62]) rfl rfl rfl rfl rfl (dl (dl cP)) (dK (dK (dK (dK mP)))) (cX (by kernel_rfl) ?_))))
      exact aF (a61,c62) (rm rfl) (bh (ak (ak (ak aD))) (bh (ak (ak aD)) (bh (ak (ak aD)) (bh (ak (ak aD)) dB)))) trivial
     skip
     refine aZ rfl rfl rfl rfl (bD rfl rfl rfl rfl rfl (f0 rfl ja) rfl rfl rfl rfl (fun b58=>aY 1 (by kernel_rfl) (aZ rfl rfl rfl rfl (jx (cg (p:=pO a30 l29.length c31) rfl (.p rfl) vM rfl) (aY 5 (by kernel_rfl) ?_)))))
     refine aZ rfl rfl rfl rfl (bT (enc:=Zl.enc) rfl rfl rfl rfl rfl rfl rfl rfl rfl e8 (by exact ak aD) hl60 (fun a61 c62=>?_))
     refine bH 6 (by kernel_rfl) rfl rfl rfl rfl (bg rfl rfl rfl rfl rfl (.p rfl)) (aY 7 (by kernel_rfl) (cL rfl rfl rfl (am (vs:=[pO a61 l60.length c62]) rfl rfl rfl rfl rfl (dl (dl cP)) (dK (dK (dK (dK mP)))) (cX (by kernel_rfl) ?_))))
     exact aF (a61,c62) (rm rfl) (bh (ak (ak (ak aD))) (bh (ak (ak aD)) (bh (ak (ak aD)) (bh (ak (ak aD)) dB)))) trivial
    rintro ⟨a61,c62⟩ τ _;dsimp only [aG]
    refine af (aa (bi 5 [] [97,98,96] [(99,.agg [pS ((((Ze.as_proved_ m56)).use).Code),pI ((((Ze.as_proved_ m56)).use).Value),pB ((((Ze.as_proved_ m56)).use).Originating),pI ((((Ze.as_proved_ m56)).premise).Product),pI ((((Ze.as_proved_ m56)).premise).Agreement)]),(100,pB (Ze.is_proved_ m56))] (fota 1 (Ze.ta_proved_ m56) bG) (by kernel_rfl) (aj rfl (aV (cs:=[pS ByteArray.empty,pI 0,pB false,pI 0,pI 0]) rfl rfl rfl rfl (fun b64=>ba rfl rfl (am (vs:=[pS ((((Ze.as_proved_ m56)).use).Code),pI ((((Ze.as_proved_ m56)).use).Value),pB ((((Ze.as_proved_ m56)).use).Originating),pI ((((Ze.as_proved_ m56)).premise).Product),pI ((((Ze.as_proved_ m56)).premise).Agreement)]) rfl rfl rfl rfl rfl cP EH (aS [(26,pB (Ze.is_proved_ m56))] (by kernel_rfl) (bQ (al [(101,pB (Ze.is_proved_ m56))] (by kernel_rfl) (cE rfl hq55 (fun hc65 hq55=>?_) fun hc65 hq55=>?_))))))))))
    ·refine aa ?_
     refine cw 3 [0] [103] [(102,pO a25 l24.length c26),(104,.agg [pI ((((Ze.as_proved_ m56)).premise).Product),pI ((((Ze.as_proved_ m56)).premise).Agreement)])] (by kernel_rfl) (aj rfl (bD rfl rfl rfl rfl rfl (f0 rfl ja) rfl rfl rfl rfl (fun b66=>ae hq55 fun l68 hl68 hq55=>?_)))
     refine aj rfl (bT (enc:=Za.enc) rfl rfl rfl rfl rfl rfl rfl rfl rfl e8 (by exact ak (ak (ak (ak (ak aD))))) hl68 (fun a69 c70=>?_))
     refine aS [(22,pO a69 l68.length c70)] (by kernel_rfl) (aH ?_)
     obtain rfl:=osi hq55
     exact aF ((a69,c70,a61,c62),(l68,l60)) (xJ rfl) (bh (ak (ak (ak aD))) (bh (ak (ak (ak aD))) (bh aD (bh (ak (ak aD)) (bh (ak (ak aD)) ce))))) rfl
    refine ai ?_
    refine aH ?_
    obtain rfl:=osi hq55
    exact aF ((a25,c26,a61,c62),(l24,l60)) (xJ rfl) (bh (ak aD) (bh (ak aD) (bh (ak (ak aD)) (bh (ak aD) (bh (ak aD) ce))))) rfl
   rintro ⟨⟨a47,c48,a52,c53⟩,⟨l49,l54⟩⟩ τ hz;(try dsimp only at hz);subst q55;(try dsimp only at hb41);dsimp only [aG]
   refine ah [107] [(85,pI (IntKind.i64.wrap (v27+1)))] (by kernel_rfl) ?_
   exact bj hb41 (a47,c48,a52,c53) (xJ rfl) (bh aD (bh aD (bh (ak aD) qV)))
  refine aW ?_
  refine av (an hb41 (fun ht=>ar rfl ?_))
  exact aF ((a25,c26,a30,c31),(l24,l29)) (qW rfl) (bh aD (bh aD (bh (ak aD) qV))) ht.symm
 rintro ⟨⟨a33,c34,a38,c39⟩,⟨l35,l40⟩⟩ τ hz;(try dsimp only at hz);subst q42;(try dsimp only at h);dsimp only [aG]
 refine af (ae h fun x72 hx72 h=>aa (au 1 [(108,pO a33 l35.length c34)] (by kernel_rfl) ?_))
 refine aj rfl (bf rfl rfl (ρ1:=[_]) (aC (by exact ak (ak aD)) (List.Perm.refl _)) (bW hx72) ?_);rintro _ _ ⟨rfl,rfl⟩
 refine aw (bQ ?_)
 refine tX (css:=List.map Zl.enc l40) (a:=a38) (by exact ak (ak (ak (ak aD)))) ?_
 refine so (k:=4) (enc:=Zl.enc) (xs:=l40) (b:=b22) (a:=a38) rfl e8 (dl (dl (dl cP))) (co (ρd:=[PRes.row a33 _ _ _ _ _,PRes.b b2 _ _]) [(0,0),(1,0),(2,1),(3,1),(4,0)] _ (aC (ak aD) (aC (ak aD) (List.Perm.refl _))) (by kernel_rfl) rfl (ae h fun x73 hx73 h=>zG 2 [1] [(110,.agg [pS x5.1.Code,pI x5.1.Price,pB x5.1.Obtained,pL eS x21.2,pL Zl.enc l40]),(111,pO a33 l35.length c34)] (by kernel_rfl) ?_))
 refine iX rfl rfl rfl (bf rfl rfl (ρ1:=[_]) (aC (by exact aD) (List.Perm.refl _)) (dm hx73) ?_);rintro _ _ ⟨a74,c75,rfl,rfl⟩
 refine xG rfl rfl (am (vs:=[pS x5.1.Code,pI x5.1.Price,pB x5.1.Obtained,pL eS x21.2,pL Zl.enc l40]) rfl rfl rfl rfl rfl (dl cP) EH (hY 1 [(11,pO a74 x73.length c75)] (by kernel_rfl) (cQ (aQ ?_))))
 refine fk (enc:=Za.enc) (xs:=x73) 11 rfl (by exact aD) ?_
 refine cd ?_
 obtain rfl:=osi h
 exact aL (dH (gA rfl tF rfl) (aN rfl)) (bh (ak (ak (ak (ak aD)))) ce) ⟨rfl,rfl⟩
def kl (p0:Zf) (p1:Zm):Option ((List Int)×Bool):=(gg p0 p1).bind fun x3=>cond (!x3) (some ([],false)) ((pW p0).bind fun x5=>(Irule_test_witness x5 p1).bind fun x6=>some (x6.1,x6.2))
theorem tP {p0:Zf} {p1:Zm} {r:((List Int)×Bool)}  (h:kl p0 p1=some r):PF 78 [.agg (aT p0),.agg (bP p1)] (.tup [pL eI r.1,pB r.2]):=by
 unfold kl at h
 refine bt ?_
 refine eQ Tryz.func78 rfl Tryz.ntmps78 Tryz.results78 rfl (aa (aj rfl (br (cs:=(aT p0)) rfl rfl (fun b1=>aj rfl (br (cs:=(bP p1)) rfl rfl (fun b2=>bm [4,5] (by kernel_rfl) (dr (ae h fun x3 hx3 h=>aq [1,0] [6,7,8] [(9,pB (!x3))] (bJ 2 (mN hx3) bG) (by kernel_rfl) (cE rfl h (fun hc4 h=>?_) fun hc4 h=>?_)))))))))
 ·refine af ?_
  refine al [(4,pN),(5,pB false)] (by kernel_rfl) (aQ (jn 4 rfl (cd (ap ?_))))
  obtain rfl:=osi h
  exact aL (dH (aN rfl) (aN rfl)) ce ⟨rfl,rfl⟩
 refine ai ?_
 refine bQ (co (ρd:=[]) [(0,0),(2,0),(1,1),(3,1),(4,0),(5,0),(6,0),(7,0)] _ (List.Perm.refl _) (by kernel_rfl) rfl (ae h fun x5 hx5 h=>ae h fun x6 hx6 h=>cC 8 [1,0] [10,12,11,13,14,15] [(4,pL eI x6.1),(5,pB x6.2)] (bJ 2 (pX hx5) (C8 3 (Irule_test_witness_ok hx6) bG)) (by kernel_rfl) (cQ (dX ?_))))
 obtain rfl:=osi h
 exact aL (dH (aN rfl) (aN rfl)) ce ⟨rfl,rfl⟩
def fP (p0:Zj) (p1:(List Zc)) (p2:(List Zb)) (p3:ByteArray) (p4:(List Za)) (p5:(List Zd)):Option (Bool×(List Za)×(List Zd)):=(gz p1 p2 p3 p0.claim p4).bind fun x2=>(kl p0.rule x2.1).bind fun x4=>Option.bind (cond x4.2 ((app 64 p5 [(⟨p0.claim,x4.1,x2.2⟩:Zd)]).bind fun l14=>some l14) (some p5)) (fun l9=>some (x4.2,p4,l9))
theorem rV {p0:Zj} {p1:(List Zc)} {p2:(List Zb)} {p3:ByteArray} {p4:(List Za)} {p5:(List Zd)} {b4:Nat}  {a_4:Option Addr}  {n_4:Nat}  {c_4:Nat}  {b5:Nat}  {a_5:Option Addr}  {n_5:Nat}  {c_5:Nat} {r:(Bool×(List Za)×(List Zd))}  (h:fP p0 p1 p2 p3 p4 p5=some r):PCall 77 [.agg (gM p0),.ref [pL Zc.enc p1] 0,.ref [pL Zb.enc p2] 0,.ref [pS p3] 0,pP b4 0,pP b5 0] [PRes.b b4 31 [.v (.slice a_4 n_4 c_4)],PRes.row a_4 n_4 c_4 28 2 (List.map Za.enc p4),PRes.b b5 45 [.v (.slice a_5 n_5 c_5)],PRes.row a_5 n_5 c_5 61 4 (List.map Zd.enc p5)] (fun pv ρ'=>pv=pB r.1∧∃ (x0:Option Addr) (z0:Nat) (x1:Option Addr) (z1:Nat),ρ'=[PRes.b b4 31 [.v (.slice x0 (r.2.1).length z0)],PRes.row x0 (r.2.1).length z0 28 2 (List.map Za.enc r.2.1),PRes.b b5 45 [.v (.slice x1 (r.2.2).length z1)],PRes.row x1 (r.2.2).length z1 61 4 (List.map Zd.enc r.2.2)]):=by
 unfold fP at h
 refine lc Tryz.func77 rfl Tryz.ntmps77 Tryz.results77 rfl ?_
 refine iw (enc:=Za.enc) (xs:=p4) (a:=a_4) tF (fun hl ha=>?_);subst hl;clear ha
 refine iw (enc:=Zd.enc) (xs:=p5) (a:=a_5) DQ (fun hl ha=>?_);subst hl;clear ha
 refine af (aa (aj rfl (br (cs:=(gM p0)) rfl rfl (fun b1=>bm [7] (by kernel_rfl) (dQ h fun x2 hx2 h=>aa (cw 6 [0,1] [16] [(13,pL Zc.enc p1),(14,pL Zb.enc p2),(15,pS p3),(17,.agg [pI p0.claim.Product,pI p0.claim.Agreement]),(18,pO a_4 p4.length c_4)] (by kernel_rfl) ?_))))))
 refine aj rfl (bf rfl rfl (ρ1:=[_]) (aC (by exact ak (ak aD)) (List.Perm.refl _)) (nT hx2) ?_);rintro _ _ ⟨rfl,rfl⟩
 refine cV 3 [12] [(20,.agg (bP x2.1)),(21,pL Za.enc x2.2)] (by kernel_rfl) (aj rfl (aV (cs:=[pS ByteArray.empty,pI 0,pB false,pN,pN]) rfl rfl rfl rfl (fun b3=>ba rfl rfl (am (vs:=(bP x2.1)) rfl rfl rfl rfl rfl cP EH (aS [(9,pL Za.enc x2.2)] (by kernel_rfl) (dQ h fun x4 hx4 h=>aq [2,0] [23,24,25,26,22,27,28] [(10,pL eI x4.1),(11,pB x4.2)] (bJ 3 (tP hx4) bG) (by kernel_rfl) (dr (al [(29,pB x4.2)] (by kernel_rfl) (jo h fun q10 hq10 h=>?_)))))))))
 refine aA (Y:=(Option Addr×Nat)×((List Zd))) (fun ((a7,c8),l9)=>[(11,pB x4.2)]) (fun ((a7,c8),l9)=>[PRes.b b4 31 [pO a_4 p4.length c_4],PRes.b b5 45 [pO a7 l9.length c8],PRes.row a_4 p4.length c_4 28 2 (List.map Za.enc p4),PRes.row a7 l9.length c8 61 4 (List.map Zd.enc l9)]) (fun ((a7,c8),l9)=>q10=l9) ?_ ?_
 ·skip
  refine kx rfl hq10 (fun hc11 hq10=>?_) fun hc11 hq10=>?_
  ·refine aa ?_
   refine cw 6 [4,2] [31,32,33,34] [(30,pO a_5 p5.length c_5),(35,.agg [pI p0.claim.Product,pI p0.claim.Agreement,pL eI x4.1,pL Za.enc x2.2])] (by kernel_rfl) (aj rfl (bD rfl rfl rfl rfl rfl (f0 rfl ja) rfl rfl rfl rfl (fun b12=>ae hq10 fun l14 hl14 hq10=>?_)))
   refine aj rfl (bT (enc:=Zd.enc) rfl rfl rfl rfl rfl rfl rfl rfl rfl e8 (by exact ak (ak (ak (ak (ak (ak aD)))))) hl14 (fun a15 c16=>?_))
   refine ba rfl rfl (am (vs:=[pO a15 l14.length c16]) rfl rfl rfl rfl rfl (dl (dl (dl (dl (dl (dl cP)))))) mP (aw ?_))
   obtain rfl:=osi hq10
   exact aF ((a15,c16),l14) (wz rfl) (bh (ak (ak (ak (ak (ak aD))))) (bh (ak (ak (ak (ak (ak aD))))) (bh (ak (ak (ak aD))) dB))) rfl
  refine ai ?_
  obtain rfl:=osi hq10
  exact aF ((a_5,c_5),p5) (wz rfl) (bh (ak (ak (ak aD))) (bh (ak (ak (ak aD))) (bh (ak aD) (bh (ak (ak aD)) ce)))) rfl
 rintro ⟨⟨a7,c8⟩,l9⟩ τ hz;(try dsimp only at hz);subst q10;(try dsimp only at h);dsimp only [aG]
 refine af (ah [38] [(7,pB x4.2)] (by kernel_rfl) (dX ?_))
 obtain rfl:=osi h
 exact aL (cT (aN rfl)) (bh aD (bh (ak aD) qV)) ⟨rfl,_,_,_,_,rfl⟩
def km (p0:(List Zc)) (p1:(List Zb)) (p2:ByteArray):Option (List Zj):=(aO (S:=(List Zj)×Int) (T:=((List Zj))) (fun (l2,v5)=>cond (decide (v5<(p0.length:Int))) ((idx p0 v5).bind fun m14=>(aO (S:=(List Zj)×Int) (T:=((List Zj))) (fun (l17,v20)=>cond (decide (v20<(p1.length:Int))) (((idx p1 v20).bind fun m33=>(dA m33 m14.Code).bind fun x36=>(gd x36.2 (cq p0 p1 p2 (⟨m14.ID,m33.ID⟩:Za))).bind fun x38=>cond (x36.2&&x38) ((app 112 l17 [(⟨(⟨m14.ID,m33.ID⟩:Za),x36.1⟩:Zj)]).bind fun l42=>some l42) (some l17)).bind fun l31=>some (.inl (l31,(IntKind.i64.wrap (v20+1))))) (some (.inr l17))) FUEL (l2,0)).bind fun l24=>some (.inl (l24,(IntKind.i64.wrap (v5+1))))) (some (.inr l2))) FUEL (([]:List Zj),0)).bind fun l9=>some l9
theorem tQ {p0:(List Zc)} {p1:(List Zb)} {p2:ByteArray} {r:(List Zj)}  (h:km p0 p1 p2=some r):PF 79 [pL Zc.enc p0,pL Zb.enc p1,pS p2] (pL Zj.enc r):=by
 unfold km at h
 refine bt ?_
 refine eQ Tryz.func79 rfl Tryz.ntmps79 Tryz.results79 rfl (be [6] (by kernel_rfl) (bQ (al [(7,pN)] (by kernel_rfl) (dr (al [(15,pL Zc.enc p0),(16,pI (p0.length:Int)),(17,pI 0)] (by kernel_rfl) (aQ (cA 138 9 (ae h fun q11 hq11 h=>?_))))))))
 refine aA (Y:=(Option Addr×Nat)×((List Zj))) (fun ((a7,c8),l9)=>[(7,pO a7 l9.length c8)]) (fun ((a7,c8),l9)=>[PRes.row a7 l9.length c8 138 9 (List.map Zj.enc l9)]) (fun ((a7,c8),l9)=>q11=l9) ?_ ?_
 ·refine aI ?_
  refine aM (Y:=Option Addr×Nat) (S:=(List Zj)×Int) _ hq11 (fun (a3,c4) (l2,v5)=>[(0,pL Zc.enc p0),(1,pL Zb.enc p1),(2,pS p2),(7,pO a3 l2.length c4),(15,pL Zc.enc p0),(16,pI (p0.length:Int)),(17,pI v5)]) (fun (a3,c4) (l2,v5)=>[PRes.row a3 l2.length c4 138 9 (List.map Zj.enc l2)]) (none,0) (rm rfl) dB ?_
  rintro ⟨a3,c4⟩ ⟨l2,v5⟩ o τ hb10;(try dsimp only at hb10);dsimp only [aG]
  refine af (al [(18,pB (decide (v5<(p0.length:Int))))] (by kernel_rfl) (bQ (kx rfl hb10 (fun hc13 hb10=>?_) fun hc13 hb10=>?_)))
  ·refine ai ?_
   refine bQ (iA (ae hb10 fun m14 hm14 hb10=>aa (bi 2 [] [19] [(20,.agg (bd m14))] (eU 0 Zc.enc hm14 bG) (by kernel_rfl) (aj rfl (aV (cs:=[pI 0,pS ByteArray.empty,pS ByteArray.empty,pI 0,pB false,pN,pN]) rfl rfl rfl rfl (fun b15=>ba rfl rfl (am (vs:=(bd m14)) rfl rfl rfl rfl rfl cP qC (aw (bQ (al [(21,pL Zb.enc p1),(22,pI (p1.length:Int)),(23,pI 0)] (by kernel_rfl) (jo hb10 fun q26 hq26 hb10=>?_)))))))))))
   refine ll (Y:=(Option Addr×Nat)×((List Zj))) (fun ((a22,c23),l24)=>[(0,pL Zc.enc p0),(1,pL Zb.enc p1),(2,pS p2),(7,pO a22 l24.length c23),(15,pL Zc.enc p0),(16,pI (p0.length:Int)),(17,pI v5)]) (fun ((a22,c23),l24)=>[PRes.row a22 l24.length c23 138 9 (List.map Zj.enc l24)]) (fun ((a22,c23),l24)=>q26=l24) ?_ ?_
   ·refine aI ?_
    refine aM (Y:=Option Addr×Nat) (S:=(List Zj)×Int) _ hq26 (fun (a18,c19) (l17,v20)=>[(0,pL Zc.enc p0),(1,pL Zb.enc p1),(2,pS p2),(7,pO a18 l17.length c19),(9,pP b15 0),(15,pL Zc.enc p0),(16,pI (p0.length:Int)),(17,pI v5),(21,pL Zb.enc p1),(22,pI (p1.length:Int)),(23,pI v20)]) (fun (a18,c19) (l17,v20)=>[PRes.b b15 76 (bd m14),PRes.row a18 l17.length c19 138 9 (List.map Zj.enc l17)]) (a3,c4) (i6 rfl (i6 rfl (DR rfl))) qV ?_
    rintro ⟨a18,c19⟩ ⟨l17,v20⟩ o τ hb25;(try dsimp only at hb25);dsimp only [aG]
    refine af (al [(24,pB (decide (v20<(p1.length:Int))))] (by kernel_rfl) (bQ (kx rfl hb25 (fun hc27 hb25=>?_) fun hc27 hb25=>?_)))
    ·refine ai ?_
     refine dQ hb25 fun q32 hq32 hb25=>?_
     refine aA (Y:=(Option Addr×Nat)×((List Zj))) (fun ((a29,c30),l31)=>[(0,pL Zc.enc p0),(1,pL Zb.enc p1),(2,pS p2),(7,pO a29 l31.length c30),(9,pP b15 0),(15,pL Zc.enc p0),(16,pI (p0.length:Int)),(17,pI v5),(21,pL Zb.enc p1),(22,pI (p1.length:Int)),(23,pI v20)]) (fun ((a29,c30),l31)=>[PRes.b b15 76 (bd m14),PRes.row a29 l31.length c30 138 9 (List.map Zj.enc l31)]) (fun ((a29,c30),l31)=>q32=l31) ?_ ?_
     ·skip
      refine iA (ae hq32 fun m33 hm33 hq32=>aa (bi 2 [] [25] [(26,.agg (aR m33))] (eU 0 Zb.enc hm33 bG) (by kernel_rfl) (aj rfl (aV (cs:=[pI 0,pI 0,pN,pN]) rfl rfl rfl rfl (fun b34=>ba rfl rfl (am (vs:=(aR m33)) rfl rfl rfl rfl rfl cP wA (aw (bQ (aa (cw 5 [1,0] [27,28,29,30] [(31,.agg [pI m14.ID,pI m33.ID])] (by kernel_rfl) (aj rfl (aV (cs:=[pI 0,pI 0]) rfl rfl rfl rfl (fun b35=>ba rfl rfl (am (vs:=[pI m14.ID,pI m33.ID]) rfl rfl rfl rfl rfl cP B4 (aw (dQ hq32 fun x36 hx36 hq32=>aa (bi 7 [1,2] [33,34,35,36,32] [(37,.agg (aT x36.1)),(38,pB x36.2)] (bJ 3 (iI hx36) bG) (by kernel_rfl) (aj rfl (aV (cs:=[pI 0,pI 0,pN,pI 0,pI 0,pS ByteArray.empty,pN]) rfl rfl rfl rfl (fun b37=>ba rfl rfl (am (vs:=(aT x36.1)) rfl rfl rfl rfl rfl cP qC (aS [(14,pB x36.2)] (by kernel_rfl) (dQ hq32 fun x38 hx38 hq32=>aq [1] (rg 39 7) [(46,pB (x36.2&&x38))] (iY 6 (fun hc=>eW (gJ hx38 hc)) bG) (by kernel_rfl) (cE rfl hq32 (fun hc39 hq32=>?_) fun hc39 hq32=>?_))))))))))))))))))))))))
      ·refine aa ?_
       refine cw 4 [1,0] [48,49] [(47,pO a18 l17.length c19),(50,.agg [pI m14.ID,pI m33.ID,pI x36.1.Kind,pI x36.1.Digits,pL eS x36.1.Except,pI x36.1.Tolerance,pI x36.1.Limit,pS x36.1.Name,pL Zf.enc x36.1.Args])] (by kernel_rfl) (aj rfl (bD rfl rfl rfl rfl rfl (f0 rfl ja) rfl rfl rfl rfl (fun b40=>ae hq32 fun l42 hl42 hq32=>?_)))
       refine aj rfl (bT (enc:=Zj.enc) rfl rfl rfl rfl rfl rfl rfl rfl rfl e8 (by exact ak (ak (ak (ak (ak aD))))) hl42 (fun a43 c44=>?_))
       refine aS [(7,pO a43 l42.length c44)] (by kernel_rfl) (aH ?_)
       obtain rfl:=osi hq32
       exact aF ((a43,c44),l42) (i6 rfl (i6 rfl (DR rfl))) (bh (ak (ak (ak (ak (ak aD))))) dB) rfl
      refine ai ?_
      refine aH ?_
      obtain rfl:=osi hq32
      exact aF ((a18,c19),l17) (i6 rfl (i6 rfl (DR rfl))) (bh (ak (ak (ak aD))) (bh (ak (ak (ak aD))) ce)) rfl
     rintro ⟨⟨a29,c30⟩,l31⟩ τ hz;(try dsimp only at hz);subst q32;(try dsimp only at hb25);dsimp only [aG]
     refine ah [53] [(23,pI (IntKind.i64.wrap (v20+1)))] (by kernel_rfl) ?_
     exact bj hb25 (a29,c30) (i6 rfl (i6 rfl (DR rfl))) qV
    refine aW ?_
    refine av (an hb25 (fun ht=>ar rfl ?_))
    exact gV ((a18,c19),l17) (rm rfl) (bh (ak aD) ce) ht.symm
   rintro ⟨⟨a22,c23⟩,l24⟩ τ ρ1 hsub46 hz;(try dsimp only at hz hsub46);subst q26;(try dsimp only at hb10);dsimp only [aG]
   refine fU (rP hsub46 (ah [54] [(17,pI (IntKind.i64.wrap (v5+1)))] (by kernel_rfl) ?_))
   exact bj hb10 (a22,c23) (rm rfl) dB
  refine aW ?_
  refine av (an hb10 (fun ht=>ar rfl ?_))
  exact aF ((a3,c4),l2) (wz rfl) dB ht.symm
 rintro ⟨⟨a7,c8⟩,l9⟩ τ hz;(try dsimp only at hz);subst q11;(try dsimp only at h);dsimp only [aG]
 refine af (ah [55] [(6,pO a7 l9.length c8)] (by kernel_rfl) (aQ ?_))
 refine fk (enc:=Zj.enc) (xs:=l9) 6 rfl (by exact aD) ?_
 refine cd ?_
 exact zz r h rfl
def iU (p0:(List Zc)) (p1:(List Zb)) (p2:ByteArray):Option ((List Zd)×Int):=(dc p0).bind fun x4=>cond (x4 != 0) (some ([],x4)) ((db p1).bind fun x6=>cond (x6 != 0) (some ([],x6)) ((bS p2).bind fun x8=>cond (!x8) (some ([],(1:Int))) ((km p0 p1 p2).bind fun x12=>(aO (S:=(List Zj)×(List Zd)×(List Za)) (T:=(Unit)⊕(_)) (fun (l13,l15,l19)=>(aO (S:=(List Zj)×Int×(List Zd)×(List Za)) (T:=((List Zj)×(List Zd)×(List Za))) (fun (l27,v30,l32,l36)=>cond (decide (v30<(l13.length:Int))) (((idx l13 v30).bind fun m68=>(fP m68 p0 p1 p2 l36 l32).bind fun x70=>cond (!x70.1) ((app 112 l27 [m68]).bind fun l80=>some (l80,x70.2.2,x70.2.1)) (some (l27,x70.2.2,x70.2.1))).bind fun (l58,l62,l66)=>some (.inl (l58,(IntKind.i64.wrap (v30+1)),l62,l66))) (some (.inr (l27,l32,l36)))) FUEL (([]:List Zj),0,l15,l19)).bind fun (l42,l46,l50)=>cond (((l46.length:Nat):Int) == ((l15.length:Nat):Int)) (some (.inr (.inr (l46,(0:Int))))) ((sub l46 ((l15.length:Nat):Int) (l46.length:Int)).bind fun l85=>(aO (S:=Int×(List Za)) (T:=((List Za))) (fun (v86,l88)=>cond (decide (v86<((l46.length - ((l15.length:Nat):Int).toNat:Nat):Int))) ((ln v86).bind fun u100=>(idx l46 (((l15.length:Nat):Int)+v86)).bind fun m101=>(app 16 l88 [m101.Claim]).bind fun l105=>some (.inl ((IntKind.i64.wrap (v86+1)),l105))) (some (.inr l88))) FUEL (0,l50)).bind fun l96=>some (.inl (l42,l46,l96)))) FUEL (x12,([]:List Zd),([]:List Za))).bind fun q=>match q with | .inl _=>none | .inr e=>some e)))
theorem tR {p0:(List Zc)} {p1:(List Zb)} {p2:ByteArray} {r:((List Zd)×Int)}  (h:iU p0 p1 p2=some r):PF 30 [pL Zc.enc p0,pL Zb.enc p1,pS p2] (.tup [pL Zd.enc r.1,pI r.2]):=by
 unfold iU at h
 refine bt ?_
 refine eQ Tryz.func30 rfl Tryz.ntmps30 Tryz.results30 rfl (aa (aj rfl (br (cs:=[pL Zc.enc p0]) rfl rfl (fun b1=>aj rfl (br (cs:=[pL Zb.enc p1]) rfl rfl (fun b2=>aj rfl (br (cs:=[pS p2]) rfl rfl (fun b3=>bm [6,7] (by kernel_rfl) (dr (ae h fun x4 hx4 h=>aq [2] [20,21] [(8,pI x4)] (bJ 1 (kj hx4) bG) (by kernel_rfl) (bQ (ah [22] [(23,pB (x4 != 0))] (by kernel_rfl) (cE rfl h (fun hc5 h=>?_) fun hc5 h=>?_)))))))))))))
 ·refine af ?_
  refine ah [24] [(6,pN),(7,pI x4)] (by kernel_rfl) (aQ (jn 6 rfl (cd (ap ?_))))
  obtain rfl:=osi h
  exact aL (dH (aN rfl) (aN rfl)) ce ⟨rfl,rfl⟩
 refine ai ?_
 refine dr (ae h fun x6 hx6 h=>aq [1] [25,26] [(9,pI x6)] (bJ 1 (ki hx6) bG) (by kernel_rfl) (bQ (ah [27] [(28,pB (x6 != 0))] (by kernel_rfl) (cE rfl h (fun hc7 h=>?_) fun hc7 h=>?_))))
 ·refine af ?_
  refine ah [29] [(6,pN),(7,pI x6)] (by kernel_rfl) (aQ (jn 6 rfl (cd (ap ?_))))
  obtain rfl:=osi h
  exact aL (dH (aN rfl) (aN rfl)) ce ⟨rfl,rfl⟩
 refine ai ?_
 refine dr (ae h fun x8 hx8 h=>aq [0] [30,31] [(32,pB (!x8))] (bJ 1 (eo hx8) bG) (by kernel_rfl) (cE rfl h (fun hc9 h=>?_) fun hc9 h=>?_))
 ·refine af ?_
  refine al [(6,pN),(7,pI 1)] (by kernel_rfl) (aQ (jn 6 rfl (cd (ap ?_))))
  obtain rfl:=osi h
  exact aL (dH (aN rfl) (aN rfl)) ce ⟨rfl,rfl⟩
 refine ai ?_
 refine bQ (aa (aj rfl (aV (cs:=[pN]) rfl rfl rfl rfl (fun b10=>aw (bQ (aa (aj rfl (aV (cs:=[pN]) rfl rfl rfl rfl (fun b11=>aw (bQ (aa ?_)))))))))))
 refine ot 3 rfl (by exact ak (ak (ak (ak aD)))) ?_
 refine ot 4 rfl (by exact ak (ak (ak (ak aD)))) ?_
 refine ot 5 rfl (by exact ak (ak (ak (ak aD)))) ?_
 refine hZ [33] [(12,.fn 77 [.ref [pL Zc.enc p0] 0,.ref [pL Zb.enc p1] 0,.ref [pS p2] 0,pP b11 0,pP b10 0])] (by kernel_rfl) (dQ h fun x12 hx12 h=>aq [] [34,35,36,37] [(13,pL Zj.enc x12)] (bJ 3 (tQ hx12) bG) (by kernel_rfl) (aQ (cA 61 4 (cA 28 2 (ae h fun q23 hq23 h=>aI ?_)))))
 refine aM (Y:=Option Addr×Nat×Option Addr×Nat) (S:=(List Zj)×(List Zd)×(List Za)) _ hq23 (fun (a16,c17,a20,c21) (l13,l15,l19)=>[(10,pP b10 0),(11,pP b11 0),(12,.fn 77 [.ref [pL Zc.enc p0] 0,.ref [pL Zb.enc p1] 0,.ref [pS p2] 0,pP b11 0,pP b10 0]),(13,pL Zj.enc l13)]) (fun (a16,c17,a20,c21) (l13,l15,l19)=>[PRes.b b10 45 [pO a16 l15.length c17],PRes.b b11 31 [pO a20 l19.length c21],PRes.row a16 l15.length c17 61 4 (List.map Zd.enc l15),PRes.row a20 l19.length c21 28 2 (List.map Za.enc l19)]) (none,0,none,0) (lq rfl) (bh (ak (ak (ak (ak (ak (ak aD)))))) (bh (ak (ak (ak (ak (ak aD))))) (bh (ak aD) dB))) ?_
 rintro ⟨a16,c17,a20,c21⟩ ⟨l13,l15,l19⟩ o τ hb22;(try dsimp only at hb22);dsimp only [aG]
 refine iA (al [(14,pN)] (by kernel_rfl) (bQ (bk [0] [38,39] [(15,pI ((l15.length:Nat):Int))] (by kernel_rfl) (dr (al [(40,pL Zj.enc l13),(41,pI (l13.length:Int)),(42,pI 0)] (by kernel_rfl) (aQ (cA 138 9 (ae hb22 fun q52 hq52 hb22=>?_))))))))
 refine aA (Y:=(Option Addr×Nat×Option Addr×Nat×Option Addr×Nat)×((List Zj)×(List Zd)×(List Za))) (fun ((a40,c41,a44,c45,a48,c49),(l42,l46,l50))=>[(10,pP b10 0),(11,pP b11 0),(12,.fn 77 [.ref [pL Zc.enc p0] 0,.ref [pL Zb.enc p1] 0,.ref [pS p2] 0,pP b11 0,pP b10 0]),(14,pO a40 l42.length c41),(15,pI ((l15.length:Nat):Int))]) (fun ((a40,c41,a44,c45,a48,c49),(l42,l46,l50))=>[PRes.b b10 45 [pO a44 l46.length c45],PRes.b b11 31 [pO a48 l50.length c49],PRes.row a40 l42.length c41 138 9 (List.map Zj.enc l42),PRes.row a44 l46.length c45 61 4 (List.map Zd.enc l46),PRes.row a48 l50.length c49 28 2 (List.map Za.enc l50)]) (fun ((a40,c41,a44,c45,a48,c49),(l42,l46,l50))=>q52=(l42,l46,l50)) ?_ ?_
 ·refine aI ?_
  refine aM (Y:=Option Addr×Nat×Option Addr×Nat×Option Addr×Nat) (S:=(List Zj)×Int×(List Zd)×(List Za)) _ hq52 (fun (a28,c29,a33,c34,a37,c38) (l27,v30,l32,l36)=>[(10,pP b10 0),(11,pP b11 0),(12,.fn 77 [.ref [pL Zc.enc p0] 0,.ref [pL Zb.enc p1] 0,.ref [pS p2] 0,pP b11 0,pP b10 0]),(14,pO a28 l27.length c29),(15,pI ((l15.length:Nat):Int)),(40,pL Zj.enc l13),(41,pI (l13.length:Int)),(42,pI v30)]) (fun (a28,c29,a33,c34,a37,c38) (l27,v30,l32,l36)=>[PRes.b b10 45 [pO a33 l32.length c34],PRes.b b11 31 [pO a37 l36.length c38],PRes.row a28 l27.length c29 138 9 (List.map Zj.enc l27),PRes.row a33 l32.length c34 61 4 (List.map Zd.enc l32),PRes.row a37 l36.length c38 28 2 (List.map Za.enc l36)]) (none,0,a16,c17,a20,c21) (rn rfl) (bh (ak aD) (bh (ak aD) zs3)) ?_
  rintro ⟨a28,c29,a33,c34,a37,c38⟩ ⟨l27,v30,l32,l36⟩ o τ hb51;(try dsimp only at hb51);dsimp only [aG]
  refine af (al [(43,pB (decide (v30<(l13.length:Int))))] (by kernel_rfl) (bQ (kx rfl hb51 (fun hc54 hb51=>?_) fun hc54 hb51=>?_)))
  ·refine ai ?_
   refine dQ hb51 fun q67 hq67 hb51=>?_
   refine aA (Y:=(Option Addr×Nat×Option Addr×Nat×Option Addr×Nat)×((List Zj)×(List Zd)×(List Za))) (fun ((a56,c57,a60,c61,a64,c65),(l58,l62,l66))=>[(10,pP b10 0),(11,pP b11 0),(12,.fn 77 [.ref [pL Zc.enc p0] 0,.ref [pL Zb.enc p1] 0,.ref [pS p2] 0,pP b11 0,pP b10 0]),(14,pO a56 l58.length c57),(15,pI ((l15.length:Nat):Int)),(40,pL Zj.enc l13),(41,pI (l13.length:Int)),(42,pI v30)]) (fun ((a56,c57,a60,c61,a64,c65),(l58,l62,l66))=>[PRes.b b10 45 [pO a60 l62.length c61],PRes.b b11 31 [pO a64 l66.length c65],PRes.row a56 l58.length c57 138 9 (List.map Zj.enc l58),PRes.row a60 l62.length c61 61 4 (List.map Zd.enc l62),PRes.row a64 l66.length c65 28 2 (List.map Za.enc l66)]) (fun ((a56,c57,a60,c61,a64,c65),(l58,l62,l66))=>q67=(l58,l62,l66)) ?_ ?_
   ·skip
    refine iA (ae hq67 fun m68 hm68 hq67=>aa (bi 2 [] [44] [(45,.agg (gM m68))] (eU 0 Zj.enc hm68 bG) (by kernel_rfl) (aj rfl (aV (cs:=[pI 0,pI 0,pI 0,pI 0,pN,pI 0,pI 0,pS ByteArray.empty,pN]) rfl rfl rfl rfl (fun b69=>ba rfl rfl (am (vs:=(gM m68)) rfl rfl rfl rfl rfl cP zl9 (aw (dQ hq67 fun x70 hx70 hq67=>aa (gn 2 [0] [(46,.fn 77 [.ref [pL Zc.enc p0] 0,.ref [pL Zb.enc p1] 0,.ref [pS p2] 0,pP b11 0,pP b10 0]),(47,.agg (gM m68))] (by kernel_rfl) ?_)))))))))
    refine aj rfl (Dg rfl rfl rfl (ρ1:=[_,_,_,_]) (aC (by exact ak (ak aD)) (aC (by exact ak (ak (ak (ak aD)))) (aC (by exact ak aD) (aC (by exact ak (ak aD)) (List.Perm.refl _))))) (rV hx70) ?_);rintro _ _ ⟨rfl,a71,c72,a73,c74,rfl⟩
    refine aS [(49,pB (!x70.1))] (by kernel_rfl) (cE rfl hq67 (fun hc77 hq67=>?_) fun hc77 hq67=>?_)
    ·refine aa ?_
     refine gn 2 [4] [(50,pO a28 l27.length c29),(51,.agg (gM m68))] (by kernel_rfl) (aj rfl (bD rfl rfl rfl rfl rfl (f0 rfl ja) rfl rfl rfl rfl (fun b78=>ae hq67 fun l80 hl80 hq67=>?_)))
     refine aj rfl (bT (enc:=Zj.enc) rfl rfl rfl rfl rfl rfl rfl rfl rfl e8 (by exact ak (ak (ak (ak (ak (ak aD)))))) hl80 (fun a81 c82=>?_))
     refine aS [(14,pO a81 l80.length c82)] (by kernel_rfl) (aH ?_)
     obtain rfl:=osi hq67
     exact aF ((a81,c82,a73,c74,a71,c72),(l80,x70.2.2,x70.2.1)) (rn rfl) (bh (ak (ak (ak (ak aD)))) (bh (ak (ak aD)) (bh aD (bh (ak (ak aD)) (bh (ak aD) ce))))) rfl
    refine ai ?_
    refine aH ?_
    obtain rfl:=osi hq67
    exact aF ((a28,c29,a73,c74,a71,c72),(l27,x70.2.2,x70.2.1)) (rn rfl) (bh (ak (ak aD)) (bh aD (bh (ak (ak (ak aD))) (bh (ak aD) dB)))) rfl
   rintro ⟨⟨a56,c57,a60,c61,a64,c65⟩,⟨l58,l62,l66⟩⟩ τ hz;(try dsimp only at hz);subst q67;(try dsimp only at hb51);dsimp only [aG]
   refine ah [54] [(42,pI (IntKind.i64.wrap (v30+1)))] (by kernel_rfl) ?_
   exact bj hb51 (a56,c57,a60,c61,a64,c65) (rn rfl) zs5
  refine aW ?_
  refine av (an hb51 (fun ht=>ar rfl ?_))
  exact aF ((a28,c29,a33,c34,a37,c38),(l27,l32,l36)) (ow rfl) zs5 ht.symm
 rintro ⟨⟨a40,c41,a44,c45,a48,c49⟩,⟨l42,l46,l50⟩⟩ τ hz;(try dsimp only at hz);subst q52;(try dsimp only at hb22);dsimp only [aG]
 refine af (af (bk [0] [55,56,57] [(58,pB (((l46.length:Nat):Int) == ((l15.length:Nat):Int)))] (by kernel_rfl) (cE rfl hb22 (fun hc84 hb22=>?_) fun hc84 hb22=>?_)))
 ·refine af ?_
  refine bk [0] [59] [(6,pO a44 l46.length c45),(7,pI 0)] (by kernel_rfl) (aQ ?_)
  refine fk (enc:=Zd.enc) (xs:=l46) 6 rfl (by exact ak (ak (ak aD))) ?_
  refine cd (ap (az ?_))
  refine aX hb22 (fun ht=>?_);subst ht
  refine az ?_
  obtain rfl:=osi h
  exact aL (dH (aN rfl) (aN rfl)) ce ⟨rfl,rfl⟩
 refine ai ?_
 refine dr (ae hb22 fun l85 hl85 hb22=>aa (gn 2 [0] [(60,pO a44 l46.length c45),(61,pI ((l15.length:Nat):Int))] (by kernel_rfl) (bY rfl rfl rfl (mC (enc:=Zd.enc) (xs:=l46) rfl rfl rfl rfl rfl DQ hl85) (aS [(63,pI ((l46.length - ((l15.length:Nat):Int).toNat:Nat):Int)),(64,pI 0)] (by kernel_rfl) (jo hb22 fun q98 hq98 hb22=>?_)))))
 refine aA (Y:=(Option Addr×Nat)×((List Za))) (fun ((a94,c95),l96)=>[(10,pP b10 0),(11,pP b11 0),(12,.fn 77 [.ref [pL Zc.enc p0] 0,.ref [pL Zb.enc p1] 0,.ref [pS p2] 0,pP b11 0,pP b10 0]),(14,pO a40 l42.length c41)]) (fun ((a94,c95),l96)=>[PRes.b b10 45 [pO a44 l46.length c45],PRes.b b11 31 [pO a94 l96.length c95],PRes.row a40 l42.length c41 138 9 (List.map Zj.enc l42),PRes.row a44 l46.length c45 61 4 (List.map Zd.enc l46),PRes.row a94 l96.length c95 28 2 (List.map Za.enc l96)]) (fun ((a94,c95),l96)=>q98=l96) ?_ ?_
 ·refine aI ?_
  refine aM (Y:=Option Addr×Nat) (S:=Int×(List Za)) _ hq98 (fun (a89,c90) (v86,l88)=>[(10,pP b10 0),(11,pP b11 0),(12,.fn 77 [.ref [pL Zc.enc p0] 0,.ref [pL Zb.enc p1] 0,.ref [pS p2] 0,pP b11 0,pP b10 0]),(14,pO a40 l42.length c41),(62,pQ a44 l46.length c45 ((l15.length:Nat):Int).toNat 4),(63,pI ((l46.length - ((l15.length:Nat):Int).toNat:Nat):Int)),(64,pI v86)]) (fun (a89,c90) (v86,l88)=>[PRes.b b10 45 [pO a44 l46.length c45],PRes.b b11 31 [pO a89 l88.length c90],PRes.row a40 l42.length c41 138 9 (List.map Zj.enc l42),PRes.row a44 l46.length c45 61 4 (List.map Zd.enc l46),PRes.row a89 l88.length c90 28 2 (List.map Za.enc l88)]) (a48,c49) (rm rfl) zs5 ?_
  rintro ⟨a89,c90⟩ ⟨v86,l88⟩ o τ hb97;(try dsimp only at hb97);dsimp only [aG]
  refine af (al [(65,pB (decide (v86<((l46.length - ((l15.length:Nat):Int).toNat:Nat):Int))))] (by kernel_rfl) (bQ (kx rfl hb97 (fun hc99 hb97=>?_) fun hc99 hb97=>?_)))
  ·refine ai ?_
   refine bQ (iA (ae hb97 fun u100 hu100 hb97=>ae hb97 fun m101 hm101 hb97=>aa (bY rfl rfl rfl (jy (enc:=Zd.enc) (xs:=l46) (i:=((l15.length:Nat):Int)) rfl rfl rfl rfl rfl (gm hl85).1.1 (lp hu100) DQ hm101) (bY rfl rfl rfl (cH (sz:=4) (p:=.agg (bA m101)) (enc:=Zd.enc) (xs:=l46) (a:=a44) (((l15.length:Nat):Int)+v86) 0 m101 rfl (.p rfl) rfl DQ (fun _=>hm101) rfl) (aj rfl (aV (cs:=[pI 0,pI 0,pN,pN]) rfl rfl rfl rfl (fun b102=>ba rfl rfl (am (vs:=(bA m101)) rfl rfl rfl rfl rfl cP wA (aw (aQ (aa (cw 3 [2,0] [69] [(68,pO a89 l88.length c90),(70,.agg [pI m101.Claim.Product,pI m101.Claim.Agreement])] (by kernel_rfl) (aj rfl (bD rfl rfl rfl rfl rfl (f0 rfl ja) rfl rfl rfl rfl (fun b103=>ae hb97 fun l105 hl105 hb97=>?_)))))))))))))))
   refine aj rfl (bT (enc:=Za.enc) rfl rfl rfl rfl rfl rfl rfl rfl rfl e8 (by exact ak (ak (ak (ak (ak (ak aD)))))) hl105 (fun a106 c107=>?_))
   refine ba rfl rfl (am (vs:=[pO a106 l105.length c107]) rfl rfl rfl rfl rfl (dl (dl (dl (dl cP)))) mP (aw (fU (ah [73] [(64,pI (IntKind.i64.wrap (v86+1)))] (by kernel_rfl) ?_))))
   exact bj hb97 (a106,c107) (rm rfl) (bh (ak (ak (ak aD))) (bh (ak (ak (ak aD))) (bh (ak (ak (ak aD))) (bh (ak (ak (ak aD))) dB))))
  refine aW ?_
  refine av (an hb97 (fun ht=>ar rfl ?_))
  exact aF ((a89,c90),l88) (lq rfl) zs5 ht.symm
 rintro ⟨⟨a94,c95⟩,l96⟩ τ hz;(try dsimp only at hz);subst q98;(try dsimp only at hb22);dsimp only [aG]
 refine ah [74] [(13,pO a40 l42.length c41)] (by kernel_rfl) (aH ?_)
 refine y7 (EC (enc:=Zj.enc) (xs:=l42) 13 rfl (by exact ak (ak aD))) ?_
 exact bj hb22 (a44,c45,a94,c95) (lq rfl) (bh (ak aD) (bh (ak aD) (bh (ak aD) (bh (ak aD) ce))))
def eu (p0:(List Int)) (p1:(List Int)) (p2:Int) (p3:Int) (p4:Int) (p5:Int) (p6:(List Zd)):Option Bool:=(nL p0).bind fun x1=>(ia p1).bind fun x5=>(jd p2).bind fun x9=>(iU x1 x5 x9).bind fun x10=>(ka x10.1 p3 p4 p5).bind fun x11=>(aO (S:=(List Zd)×Int) (T:=((List Zd))) (fun (l16,v19)=>cond ((decide (v19<(p6.length:Int)))&&(decide (v19<5))) ((idx p6 v19).bind fun m27=>(app 64 l16 [m27]).bind fun l30=>some (.inl (l30,(IntKind.i64.wrap (v19+1))))) (some (.inr l16))) FUEL (x11,0)).bind fun l23=>(cR x1 x5 x9 l23).bind fun x34=>cond (x34.2 != 0) ((jJ).bind fun x36=>some x36) ((aO (S:=Int) (T:=(Unit)⊕(_)) (fun v37=>cond (decide (v37<(l23.length:Int))) ((idx l23 v37).bind fun m41=>(kT x10.1 m41.Claim).bind fun x42=>cond (!x42) (some (.inr (.inr false))) (some (.inl (IntKind.i64.wrap (v37+1))))) (some (.inr (.inl ())))) FUEL 0).bind fun q=>match q with | .inl _=>(jJ).bind (fun x44=>some x44) | .inr e=>some e)
theorem mU {p0:(List Int)} {p1:(List Int)} {p2:Int} {p3:Int} {p4:Int} {p5:Int} {p6:(List Zd)} {r:Bool}  (h:eu p0 p1 p2 p3 p4 p5 p6=some r):PF 10 [pL eI p0,pL eI p1,pI p2,pI p3,pI p4,pI p5,pL Zd.enc p6] (pB r):=by
 unfold eu at h
 refine bt ?_
 refine eQ Tryz.func10 rfl Tryz.ntmps10 Tryz.results10 rfl (be [14] (by kernel_rfl) (dQ h fun x1 hx1 h=>aa (au 1 [(25,pL eI p0)] (by kernel_rfl) ?_)))
 refine aj rfl (bf rfl rfl (ρ1:=[]) (List.Perm.refl _) (xU hx1) ?_);rintro _ _ ⟨a2,c3,rfl,rfl⟩
 refine ae h fun x5 hx5 h=>au 1 [(27,pL eI p1)] (by kernel_rfl) ?_
 refine aj rfl (bf rfl rfl (ρ1:=[]) (List.Perm.refl _) (rp hx5) ?_);rintro _ _ ⟨a6,c7,rfl,rfl⟩
 refine ae h fun x9 hx9 h=>gG [] [29,30] [(15,pO a2 x1.length c3),(16,pO a6 x5.length c7),(17,pS x9)] (bJ 1 (sE hx9) bG) (by kernel_rfl) (bQ (aa (au 3 [(32,pO a2 x1.length c3),(33,pO a6 x5.length c7),(34,pS x9)] (by kernel_rfl) ?_)))
 refine fm (enc:=Zc.enc) (xs:=x1) 32 rfl (by exact ak aD) ?_
 refine fm (enc:=Zb.enc) (xs:=x5) 33 rfl (by exact ak aD) ?_
 refine ae h fun x10 hx10 h=>gG [] [35,31,36,37,19] [(18,pL Zd.enc x10.1)] (bJ 0 (tR hx10) bG) (by kernel_rfl) (dQ h fun x11 hx11 h=>aa (au 4 [(38,pL Zd.enc x10.1),(39,pI p3),(40,pI p4),(41,pI p5)] (by kernel_rfl) ?_))
 refine aj rfl (bf rfl rfl (ρ1:=[]) (List.Perm.refl _) (tK hx11) ?_);rintro _ _ ⟨a12,c13,rfl,rfl⟩
 refine aS [(20,pO a12 x11.length c13)] (by kernel_rfl) (dr (al [(21,pI 0)] (by kernel_rfl) (aQ (rQ (enc:=Zc.enc) (xs:=x1) 15 rfl vM (rQ (enc:=Zb.enc) (xs:=x5) 16 rfl tF (ae h fun q25 hq25 h=>?_))))))
 refine aA (Y:=(Option Addr×Nat)×((List Zd))) (fun ((a21,c22),l23)=>[(15,pL Zc.enc x1),(16,pL Zb.enc x5),(17,pS x9),(18,pL Zd.enc x10.1),(20,pO a21 l23.length c22)]) (fun ((a21,c22),l23)=>[PRes.row a21 l23.length c22 61 4 (List.map Zd.enc l23)]) (fun ((a21,c22),l23)=>q25=l23) ?_ ?_
 ·refine aI ?_
  refine aM (Y:=Option Addr×Nat) (S:=(List Zd)×Int) _ hq25 (fun (a17,c18) (l16,v19)=>[(6,pL Zd.enc p6),(15,pL Zc.enc x1),(16,pL Zb.enc x5),(17,pS x9),(18,pL Zd.enc x10.1),(20,pO a17 l16.length c18),(21,pI v19)]) (fun (a17,c18) (l16,v19)=>[PRes.row a17 l16.length c18 61 4 (List.map Zd.enc l16)]) (a12,c13) (rm rfl) dB ?_
  rintro ⟨a17,c18⟩ ⟨l16,v19⟩ o τ hb24;(try dsimp only at hb24);dsimp only [aG]
  refine af (af (ah (rg 43 7) [(50,pB ((decide (v19<(p6.length:Int)))&&(decide (v19<5))))] (by kernel_rfl) (cE rfl hb24 (fun hc26 hb24=>?_) fun hc26 hb24=>?_)))
  ·refine ai ?_
   refine bQ (aI (ae hb24 fun m27 hm27 hb24=>aa (bi 5 [] [54,55,56] [(53,pO a17 l16.length c18),(57,.agg (bA m27))] (eU 3 Zd.enc hm27 bG) (by kernel_rfl) (aj rfl (bD rfl rfl rfl rfl rfl (f0 rfl ja) rfl rfl rfl rfl (fun b28=>ae hb24 fun l30 hl30 hb24=>?_))))))
   refine aj rfl (bT (enc:=Zd.enc) rfl rfl rfl rfl rfl rfl rfl rfl rfl e8 (by exact ak aD) hl30 (fun a31 c32=>?_))
   refine aS [(20,pO a31 l30.length c32)] (by kernel_rfl) (fU (ah [51,52] [(21,pI (IntKind.i64.wrap (v19+1)))] (by kernel_rfl) ?_))
   exact bj hb24 (a31,c32) (rm rfl) dB
  refine aW ?_
  refine av (an hb24 (fun ht=>ar rfl ?_))
  exact aF ((a17,c18),l16) (ow rfl) dB ht.symm
 rintro ⟨⟨a21,c22⟩,l23⟩ τ hz;(try dsimp only at hz);subst q25;(try dsimp only at h);dsimp only [aG]
 refine af (af (aa (au 4 [(61,pL Zc.enc x1),(62,pL Zb.enc x5),(63,pS x9),(64,pO a21 l23.length c22)] (by kernel_rfl) ?_)))
 refine fm (enc:=Zd.enc) (xs:=l23) 64 rfl (by exact aD) ?_
 refine ae h fun x34 hx34 h=>gG [] [65,60,66,67,22] [(23,pI x34.2)] (bJ 0 (gy hx34) bG) (by kernel_rfl) (bQ (ah [68] [(69,pB (x34.2 != 0))] (by kernel_rfl) (cE rfl h (fun hc35 h=>?_) fun hc35 h=>?_)))
 ·refine af ?_
  refine ae h fun x36 hx36 h=>aq [] [70] [(14,pB x36)] (bJ 0 (qc hx36) bG) (by kernel_rfl) (dX (ap ?_))
  exact zz r h rfl
 refine ai ?_
 refine dr (al [(24,pI 0)] (by kernel_rfl) (aQ (rQ (enc:=Zd.enc) (xs:=l23) 20 rfl e8 (ae h fun q39 hq39 h=>?_))))
 refine aA (Y:=Unit×Unit) (fun (_,_)=>[]) (fun (_,_)=>[]) (fun (_,_)=>q39=Sum.inl ()) ?_ ?_
 ·refine aI ?_
  refine aM (Y:=Unit) (S:=Int) _ hq39 (fun _ v37=>[(18,pL Zd.enc x10.1),(20,pL Zd.enc l23),(24,pI v37)]) (fun _ v37=>[]) () (qW rfl) ce ?_
  rintro _ v37 o τ hb38;(try dsimp only at hb38);dsimp only [aG]
  refine af (af (ah [71,72,73] [(74,pB (decide (v37<(l23.length:Int))))] (by kernel_rfl) (cE rfl hb38 (fun hc40 hb38=>?_) fun hc40 hb38=>?_)))
  ·refine ai ?_
   refine bQ (iA (ae hb38 fun m41 hm41 hb38=>ae hb38 fun x42 hx42 hb38=>aq [] (rg 77 7) [(84,pB (!x42))] (eU 3 Zd.enc hm41 (bJ 6 (vZ hx42) bG)) (by kernel_rfl) (cE rfl hb38 (fun hc43 hb38=>?_) fun hc43 hb38=>?_)))
   ·refine af ?_
    refine fT [(14,pB false)] (by kernel_rfl) (iZ ?_)
    refine aX hb38 (fun ht=>?_);subst ht
    refine az (aU ?_)
    exact zz r h rfl
   refine ai ?_
   refine fU (ah [75,76] [(24,pI (IntKind.i64.wrap (v37+1)))] (by kernel_rfl) ?_)
   exact bj hb38 () (qW rfl) ce
  refine aW ?_
  refine av (an hb38 (fun ht=>ar rfl ?_))
  exact aF ((),()) qP ce ht.symm
 rintro ⟨_,_⟩ τ hz;(try dsimp only at hz);subst q39;(try dsimp only at h);dsimp only [aG]
 refine af (ae h fun x44 hx44 h=>aq [] [85] [(14,pB x44)] (bJ 0 (qc hx44) bG) (by kernel_rfl) (dX ?_))
 exact zz r h rfl
end SX
namespace SX
open Go
theorem mr {S T:Type} {body:S→Option (S⊕T)} (P:S→Prop) (μ:S→Nat) (Q:T→Prop) (step:∀ s,P s→(∃ s',body s=some (.inl s')∧P s'∧μ s'<μ s)∨∃ t,body s=some (.inr t)∧Q t):∀ (N:Nat) (s:S),P s→μ s<N→∃ t,aO body N s=some t∧Q t:=by
 intro N
 induction N with
 | zero=>intro s _ h;exact absurd h (Nat.not_lt_zero _)
 | succ N ih =>
  intro s hp hm
  rw [fE]
  rcases step s hp with ⟨s',h1,h2,h3⟩ | ⟨t,h1,h2⟩
  ·rw [h1];exact ih s' h2 (by omega)
  rw [h1];exact ⟨t,rfl,h2⟩
theorem ix0 {α:Type} {a b:α}:idx [a,b] 0=some a:=rfl
theorem ix1 {α:Type} {a b:α}:idx [a,b] 1=some b:=rfl
theorem cap_eq (c:Int):eZ c=some (decide (65≤c)&&decide (c≤90)):=rfl
def qS (s:ByteArray):Bool:=match s.data.toList with | [a,b]=>decide (65≤(a.toNat:Int))&&decide ((a.toNat:Int)≤90)&&decide (65≤(b.toNat:Int))&&decide ((b.toNat:Int)≤90) | _=>false
theorem zL {s:ByteArray} (h:((s.size:Int) == 2)=true):∃ a b,s.data.toList=[a,b]:=by
 have h2:s.data.toList.length=2:=by
  have:=eq_of_beq h
  rw [Array.length_toList];have e:s.size=s.data.size:=rfl;omega
 match hd:s.data.toList,h2 with
 | [a,b],_=>exact ⟨a,b,rfl⟩
theorem Cg {s:ByteArray} (h:((s.size:Int) == 2)=false):qS s=false:=by
 unfold qS
 split
 ·rename_i a b hd
  have e:s.size=s.data.toList.length:=by rw [Array.length_toList];rfl
  rw [hd] at e
  have e2:(s.size:Int)=2:=by rw [e];rfl
  rw [e2] at h;cases h
 rfl
theorem lg (s:ByteArray):bS s=some (qS s):=by
 unfold bS
 cases h:((s.size:Int) == 2)
 ·rw [Cg h];rfl
 obtain ⟨a,b,hd⟩:=zL h
 simp only [Bool.true_and,cr,cap_eq]
 rw [hd]
 simp only [qS,hd]
 rw [o4 ix0]
 simp only [bc]
 cases h1:(decide (65≤(a.toNat:Int))&&decide ((a.toNat:Int)≤90))
 ·rfl
 simp only [cr,Bool.true_and];rw [o4 ix1];rfl
theorem qd (s:ByteArray):gB s=some (qS s):=by
 unfold gB
 cases h:((s.size:Int) == 2)
 ·rw [Cg h];rfl
 obtain ⟨a,b,hd⟩:=zL h
 simp only [Bool.true_and,cr]
 rw [hd]
 simp only [qS,hd]
 rw [o4 ix0]
 cases h1:decide (65≤(a.toNat:Int))
 ·rfl
 simp only [cr,Bool.true_and];rw [o4 ix0]
 cases h2:decide ((a.toNat:Int)≤90)
 ·rfl
 simp only [cr,Bool.true_and];rw [o4 ix1]
 cases h3:decide (65≤(b.toNat:Int))
 ·rfl
 simp only [cr,Bool.true_and];rw [o4 ix1]
theorem sI (s:ByteArray) (hs:s.size≤140737488355328):iE s=some (dU s):=by
 have hz:s.size=s.data.toList.length:=by rw [Array.length_toList];rfl
 unfold iE
 obtain ⟨t,h5,h6⟩:=mr (body:=fun v1=>cond (decide (v1<(s.size:Int))) (Option.bind (idx s.data.toList v1) (fun c5=>Option.bind (gd (!(decide ((c5.toNat:Int)<48))) (idx s.data.toList v1)) (fun c6=>cond ((decide ((c5.toNat:Int)<48))||(decide (57<(c6.toNat:Int)))) (some (.inr (.inr 0))) (some (.inl (IntKind.i64.wrap (v1+1))))))) (some (.inr (.inl ()))))
  (fun v:Int=>0≤v∧v≤s.size∧∀ j,(h:j<s.data.toList.length)→(j:Int)<v→ke (s.data.toList[j]).toNat=true) (fun v=>(s.size:Int).toNat - v.toNat) (fun t:Unit⊕Int=>(t=.inl ()∧kU s=true)∨(t=.inr 0∧kU s=false))
  (fun v hv=>by
   obtain ⟨a1,a2,a3⟩:=hv
   by_cases hl:v<(s.size:Int)
   ·rw [det hl];simp only [bV]
    obtain ⟨k,rfl⟩:∃ k:Nat,v=(k:Int):=⟨v.toNat,by omega⟩
    have hk:k<s.data.toList.length:=by omega
    rw [o4 (aB hk)]
    by_cases hd:ke (s.data.toList[k]).toNat=true
    ·left
     have hd2:=hd
     simp only [ke,decide_eq_true_eq] at hd2
     rw [bI (show ¬ ((s.data.toList[k].toNat:Nat):Int)<48 by omega)]
     simp only [Bool.not_false,cr,Bool.false_or]
     rw [o4 (aB hk),bI (show ¬ 57<((s.data.toList[k].toNat:Nat):Int) by omega)]
     simp only [bC]
     rw [cS (by omega) (by omega)]
     refine ⟨_,rfl,⟨by omega,by omega,fun j h1 h2=>?_⟩,by omega⟩
     by_cases hj:j=k
     ·subst hj;exact hd
     exact a3 j h1 (by omega)
    right
    refine ⟨.inr 0,?_,.inr ⟨rfl,?_⟩⟩
    ·have hd2:=hd
     simp only [ke,decide_eq_true_eq] at hd2
     by_cases h48:((s.data.toList[k].toNat:Nat):Int)<48
     ·rw [det h48];rfl
     rw [bI h48]
     simp only [Bool.not_false,cr,Bool.false_or]
     rw [o4 (aB hk),det (show 57<((s.data.toList[k].toNat:Nat):Int) by omega)];rfl
    cases ha:kU s
    ·rfl
    exfalso;apply hd
    unfold kU bl at ha
    exact List.all_eq_true.1 ha _ (List.getElem_mem hk)
   right
   rw [bI hl]
   refine ⟨.inl (),rfl,.inl ⟨rfl,?_⟩⟩
   unfold kU bl
   rw [List.all_eq_true]
   intro c hc
   obtain ⟨j,hj,rfl⟩:=List.getElem_of_mem hc
   exact a3 j hj (by omega))
  FUEL 0 ⟨by omega,by omega,fun j _ h=>by omega⟩ (jY (by omega))
 rw [o4 h5]
 unfold dU
 rcases h6 with ⟨rfl,h⟩ | ⟨rfl,h⟩
 ·simp only [h,and_true]
  by_cases h8:(8:Int)<(s.size:Int)
  ·rw [det h8,if_neg (by omega)];rfl
  rw [bI h8]
  simp only [Bool.false_or]
  have e:Int.tmod (s.size:Int) 2=(s.size:Int) % 2:=Int.tmod_eq_emod_of_nonneg (by omega)
  rw [e]
  by_cases hp:(s.size:Int) % 2=1
  ·rw [hp,if_neg (by omega)];rfl
  have:((s.size:Int) % 2 == 1)=false:=by simpa using hp
  rw [this]
  by_cases h0:s.size=0
  ·rw [if_neg (by omega),h0];rfl
  rw [if_pos (by omega)];rfl
 simp [h]
theorem sJ (s:ByteArray):s.size=s.data.toList.length:=by rw [Array.length_toList];rfl
def rD (c:UInt8):Bool:=decide (97≤c.toNat)&&decide (c.toNat≤122)
def gU (s:ByteArray):Bool:=decide (1≤s.size)&&decide (s.size≤12)&&s.data.toList.all rD
theorem zM (s:ByteArray) (hs:s.size≤140737488355328):oD s=some (gU s):=by
 unfold oD gU
 have hz:=sJ s
 rw [hz] at hs ⊢
 generalize s.data.toList=l at hs ⊢
 refine (bz (l:=l) (by omega) (fun _ c=>cond (rD c) none (some (.inr false))) (.inl ()) (fun k hk=>?_) (by simp only [cU,bC])).trans ?_
 ·simp only [gT hk,bV,aB hk,bc,bR hk (show l.length≤4611686018427387904 by omega),rD]
  generalize l[k]=c
  by_cases h1:c.toNat<97
  ·rw [show decide ((c.toNat:Int)<97)=true from det (by omega),show decide (97≤c.toNat)=false from bI (by omega)];rfl
  rw [show decide ((c.toNat:Int)<97)=false from bI (by omega),show decide (97≤c.toNat)=true from det (by omega)]
  simp only [Bool.not_false,cr,bc,Bool.false_or,Bool.true_and]
  by_cases h2:122<c.toNat
  ·rw [show decide ((122:Int)<(c.toNat:Int))=true from det (by omega),show decide (c.toNat≤122)=false from bI (by omega)];rfl
  rw [show decide ((122:Int)<(c.toNat:Int))=false from bI (by omega),show decide (c.toNat≤122)=true from det (by omega)];rfl
 rw [qF]
 have i1:decide ((1:Int)≤(l.length:Int))=decide (1≤l.length):=decide_eq_decide.2 (by omega)
 have i2:decide ((l.length:Int)≤(12:Int))=decide (l.length≤12):=decide_eq_decide.2 (by omega)
 cases l.all rD
 ·simp
 simp [i1,i2]
theorem Di (s:ByteArray) (hs:s.size≤140737488355328):kf s=some (gU s):=by
 unfold kf gU
 have i1:decide ((s.size:Int)<1) = !decide (1≤s.size):=by rw [← decide_not];exact decide_eq_decide.2 (by omega)
 have i2:decide ((12:Int)<(s.size:Int)) = !decide (s.size≤12):=by rw [← decide_not];exact decide_eq_decide.2 (by omega)
 rw [i1,i2]
 cases h1:decide (1≤s.size)
 ·rfl
 cases h2:decide (s.size≤12)
 ·rfl
 simp only [Bool.not_true,Bool.or_self,bC,Bool.true_and]
 have key:∀ n pos N,s.size - pos=n→pos≤s.size→n<N→aO (jH s) N pos=some ((s.data.toList.drop pos).all rD):=by
  intro n
  induction n with
  | zero =>
   intro pos N hn hp hN
   obtain ⟨N,rfl⟩:∃ M,N=M+1:=⟨N - 1,by omega⟩
   have:Nat.blt pos s.size=false:=by cases hb:Nat.blt pos s.size;rfl;simp [Nat.blt] at hb;omega
   rw [fE,jH,this]
   rw [List.drop_of_length_le (by rw [← sJ];omega)];rfl
  | succ n ih =>
   intro pos N hn hp hN
   obtain ⟨N,rfl⟩:∃ M,N=M+1:=⟨N - 1,by omega⟩
   have hlt:pos<s.size:=by omega
   have hb:Nat.blt pos s.size=true:=by simp [Nat.blt];omega
   have hlt2:pos<s.data.toList.length:=by rw [← sJ];exact hlt
   have hget:s[pos]=s.data.toList[pos]:=by
    rw [Array.getElem_toList];rfl
   rw [fE,jH,hb,List.drop_eq_getElem_cons hlt2,List.all_cons,← hget]
   by_cases ha:(s[pos]'hlt).toNat<128
   ·rw [decode_ascii s pos hlt ha]
    simp only [bV,rD]
    by_cases h1:(s[pos]'hlt).toNat<97
    ·rw [show decide (((s[pos]'hlt).toNat:Int)<97)=true from det (by omega),show decide (97≤(s[pos]'hlt).toNat)=false from bI (by omega)];rfl
    by_cases h2:122<(s[pos]'hlt).toNat
    ·rw [show decide ((122:Int)<((s[pos]'hlt).toNat:Int))=true from det (by omega),show decide ((s[pos]'hlt).toNat≤122)=false from bI (by omega),Bool.or_true,Bool.and_false];rfl
    rw [bI (by omega),bI (by omega),det (Nat.not_lt.1 h1),det (Nat.not_lt.1 h2)]
    exact ih (pos+1) N (by omega) (by omega) (by omega)
   have hh:=decode_high s pos hlt (by omega)
   have h122:¬ (s[pos]'hlt).toNat≤122:=by omega
   have:decide (122<((Utf8.decode s pos).1:Int))=true:=det (by omega)
   simp [this,rD,h122]
 have:=key s.size 0 FUEL (by omega) (by omega) (jY (by omega))
 rw [this,List.drop_zero]
def kz (lt:ByteArray→ByteArray→Bool):List ByteArray→Bool
 | []=>true
 | [_]=>true
 | a::b::l=>lt a b&&kz lt (b::l)
def mV (p:ByteArray→Bool) (l:List ByteArray) (k:Nat) (x:ByteArray):Bool:=p x&&(!decide (0<k)||iS (l.getD (k - 1) x) x)
theorem zN (p:ByteArray→Bool) (l:List ByteArray):(∀ i x,l[i]?=some x→mV p l i x=true)↔(l.all p&&kz iS l)=true:=by
 have key:∀ (l:List ByteArray),(∀ i,(h:i+1<l.length)→iS l[i] l[i+1]=true)↔kz iS l=true:=by
  intro l
  induction l with
  | nil=>simp [kz]
  | cons a l ih =>
   cases l with
   | nil=>simp [kz]
   | cons b l =>
    rw [kz,Bool.and_eq_true,← ih]
    constructor
    ·intro h;exact ⟨h 0 (by simp),fun i hi=>h (i+1) (by simpa using hi)⟩
    rintro ⟨h1,h2⟩ i hi
    cases i with
    | zero=>exact h1
    | succ i=>exact h2 i (by simpa using hi)
 rw [Bool.and_eq_true,← key,List.all_eq_true]
 constructor
 ·intro h
  refine ⟨fun x hx=>?_,fun i hi=>?_⟩
  ·obtain ⟨i,hi,rfl⟩:=List.getElem_of_mem hx
   have:=h i _ (List.getElem?_eq_getElem hi)
   simp only [mV,Bool.and_eq_true] at this
   exact this.1
  have:=h (i+1) _ (List.getElem?_eq_getElem hi)
  simp only [mV,Bool.and_eq_true,Nat.zero_lt_succ,decide_true,Bool.not_true,Bool.false_or,Nat.add_sub_cancel] at this
  rw [fc (by omega)] at this
  exact this.2
 rintro ⟨h1,h2⟩ i x hx
 obtain ⟨hi,rfl⟩:=List.getElem?_eq_some_iff.1 hx
 simp only [mV,h1 _ (List.getElem_mem hi),Bool.true_and]
 by_cases h0:0<i
 ·rw [det h0,Bool.not_true,Bool.false_or,fc (by omega)]
  obtain ⟨j,rfl⟩:∃ j,i=j+1:=⟨i - 1,by omega⟩
  exact h2 j hi
 simp [h0]
theorem ms {T:Type} (p:ByteArray→Bool) (l:List ByteArray) (t:T):cu (fun k x=>cond (mV p l k x) none (some t)) l 0=cond (l.all p&&kz iS l) none (some t):=by
 have hn:=mD (g:=fun k x=>cond (mV p l k x) none (some t)) (l:=l) (k:=0)
 cases h:(l.all p&&kz iS l)
 ·cases hf:cu (fun k x=>cond (mV p l k x) none (some t)) l 0 with
  | none =>
   exfalso
   have:(l.all p&&kz iS l)=true:=by
    rw [← zN]
    intro i x hx
    have:=hn.1 hf i x hx
    rw [Nat.zero_add] at this
    cases hk:mV p l i x
    ·rw [hk] at this;cases this
    rfl
   rw [h] at this;cases this
  | some u =>
   have:∀ (m:List ByteArray) (k:Nat) (u:T),cu (fun k x=>cond (mV p l k x) none (some t)) m k=some u→u=t:=by
    intro m
    induction m with
    | nil=>intro k u h;cases h
    | cons x m ih =>
     intro k u h
     rw [cu] at h
     cases hk:mV p l k x
     ·rw [hk] at h;injection h with h;exact h.symm
     rw [hk] at h;exact ih _ _ h
   rw [this _ _ _ hf];rfl
 rw [bV,hn]
 intro i x hx
 rw [Nat.zero_add,(zN p l).2 h i x hx];rfl
def kn (l:List ByteArray):Bool:=decide (l.length≤8)&&(l.all gU&&kz iS l)
def StrsOk (l:List ByteArray):Prop:=l.length≤140737488355328∧∀ s∈l,s.size≤140737488355328
theorem rE (l:List ByteArray) (hl:StrsOk l):dV l=some (kn l):=by
 obtain ⟨hl,hs⟩:=hl
 unfold dV kn
 have i2:decide ((8:Int)<(l.length:Int)) = !decide (l.length≤8):=by rw [← decide_not];exact decide_eq_decide.2 (by omega)
 rw [i2]
 cases decide (l.length≤8)
 ·rfl
 simp only [Bool.not_true,bC,Bool.true_and]
 refine (bz (l:=l) (by omega) (fun k x=>cond (mV gU l k x) none (some (.inr false))) (.inl ()) (fun k hk=>?_) (by simp only [cU,bC])).trans ?_
 ·have h62:l.length≤4611686018427387904:=by omega
  simp only [gT hk,bV,aB hk,bc,Di _ (hs _ (List.getElem_mem hk)),A6,bR hk h62,mV]
  cases hw:gU l[k]
  ·rfl
  by_cases h0:0<k
  ·simp only [h0,decide_true,Bool.not_true,Bool.not_false,Bool.and_true,Bool.true_and,Bool.false_or,cr,fG h0 hk h62,bc,fc (show k - 1<l.length by omega),iS,t8]
   cases Op.bytesLess (l[k-1]'(by omega)).toList l[k].toList <;> rfl
  simp only [h0,decide_false,Bool.and_false,jb,bc,Bool.not_true,Bool.false_or,Bool.false_and,bC,Bool.not_false,Bool.true_and,Bool.true_or,Bool.or_false];rfl
 rw [ms]
 cases (l.all gU&&kz iS l) <;> rfl
mutual
def sK:Zf→Nat
 | ⟨_,_,_,_,_,_,l⟩=>1+zO l
def zO:List Zf→Nat
 | []=>0
 | a::l=>max (sK a) (zO l)
end
mutual
def pm:Zf→Nat
 | ⟨_,_,_,_,_,_,l⟩=>1+nA l
def nA:List Zf→Nat
 | []=>0
 | a::l=>pm a+nA l
end
theorem ko (r:Zf):sK r=1+zO r.Args:=by cases r;rw [sK]
theorem qe (r:Zf):pm r=1+nA r.Args:=by cases r;rw [pm]
theorem Ch:∀ {l:List Zf} {a:Zf},a∈l→sK a≤zO l
 | b::l,a,h=>by
  rw [zO]
  rcases List.mem_cons.1 h with rfl | h
  ·omega
  have:=Ch h;omega
theorem ip {r a:Zf} (h:a∈r.Args):sK a<sK r:=by rw [ko r];have:=Ch h;omega
mutual
theorem oL:∀ r:Zf,sK r≤pm r
 | ⟨_,_,_,_,_,_,l⟩=>by rw [sK,pm];have:=wP l;omega
theorem wP:∀ l:List Zf,zO l≤nA l
 | []=>by rw [zO,nA];exact Nat.le_refl _
 | a::l=>by rw [zO,nA];have h1:=oL a;have h2:=wP l;omega
end
inductive ROk:Zf→Prop
 | mk (r:Zf) (h1:StrsOk r.Except) (h2:r.Name.size≤140737488355328) (h3:r.Args.length≤140737488355328) (h4:∀ a∈r.Args,ROk a):ROk r
theorem ROk.ex {r:Zf} (h:ROk r):StrsOk r.Except:=by cases h;assumption
theorem ROk.nm {r:Zf} (h:ROk r):r.Name.size≤140737488355328:=by cases h;assumption
theorem ROk.len {r:Zf} (h:ROk r):r.Args.length≤140737488355328:=by cases h;assumption
theorem ROk.arg {r:Zf} (h:ROk r) {a:Zf} (ha:a∈r.Args):ROk a:=by cases h with | mk _ _ _ _ h4=>exact h4 a ha
theorem nodes_F (n:Nat):∀ (r:Zf) (lim:Nat),ROk r→sK r≤n→1≤lim→lim≤1000→lV n r (lim:Int)=some ((min (pm r) lim:Nat):Int):=by
 induction n with
 | zero=>intro r lim _ hd;rw [ko] at hd;omega
 | succ n ih =>
  intro r lim hr hd h1 h2
  have hl:=hr.len
  show j5 (lV n) r (lim:Int)=_
  unfold j5
  refine (jZ (l:=r.Args) (by omega) (fun i (a:Nat)=>((a:Int),i)) (fun _ x a=>cond (Nat.ble lim a) (.inr ()) (.inl (min (a+pm x) lim))) (fun (a:Nat)=>.inl (a:Int)) (fun (_:Unit)=>.inr (lim:Int)) (fun _ a=>a≤lim) 1 h1 (fun k hk a ha=>⟨?_,fun a' h=>?_⟩) (fun a ha=>?_)).trans ?_
  ·simp only [gT hk,bV,aB hk,bc]
   cases hb:Nat.ble lim a
   ·have hlt:a<lim:=by rcases Nat.lt_or_ge a lim with h | h;exact h;rw [Nat.ble_eq_true_of_le h] at hb;cases hb
    rw [show decide ((lim:Int)≤(a:Int))=false from bI (by omega),cS (by omega) (by omega),show (lim:Int) - (a:Int)=((lim - a:Nat):Int) by omega,
     ih _ (lim - a) (hr.arg (List.getElem_mem hk)) (by have:=ip (List.getElem_mem hk);omega) (by omega) (by omega)]
    simp only [bC,bc,bR hk (show r.Args.length≤4611686018427387904 by omega),zB]
    rw [cS (by omega) (by omega),show (a:Int)+((min (pm r.Args[k]) (lim - a):Nat):Int)=((min (a+pm r.Args[k]) lim:Nat):Int) by omega]
   have hle:=Nat.le_of_ble_eq_true hb
   rw [show decide ((lim:Int)≤(a:Int))=true from det (by omega)];rfl
  ·cases hb:Nat.ble lim a
   ·rw [hb] at h;injection h with h;omega
   rw [hb] at h;cases h
  ·simp only [cU,bC]
  have key:∀ (l:List Zf) (i a:Nat),a≤lim→vS (fun (a:Nat)=>(a:Int)) (fun (_:Unit)=>(lim:Int)) (run (fun _ x a=>cond (Nat.ble lim a) (.inr ()) (.inl (min (a+pm x) lim))) l i a)=((min (a+nA l) lim:Nat):Int):=by
   intro l
   induction l with
   | nil=>intro i a ha;rw [nA];show (a:Int)=_;omega
   | cons x l ihl =>
    intro i a ha
    rw [jc,nA]
    cases hb:Nat.ble lim a
    ·exact (ihl _ _ (by omega)).trans (by omega)
    have hle:=Nat.le_of_ble_eq_true hb
    show (lim:Int)=_;omega
  have k2:∀ (o:Nat⊕Unit),(match (vS (fun (a:Nat)=>.inl (a:Int)) (fun (_:Unit)=>.inr (lim:Int)) o:Int⊕Int) with | .inl v4=>some v4 | .inr e=>some e)=some (vS (fun (a:Nat)=>(a:Int)) (fun (_:Unit)=>(lim:Int)) o):=fun o=>by cases o <;> rfl
  rw [qe]
  exact (k2 _).trans (congrArg some (key _ _ _ h1))
theorem Ba (n:Nat):∀ (r:Zf),ROk r→sK r≤n→nq n r=some ((min (pm r) 33:Nat):Int):=by
 induction n with
 | zero=>intro r _ hd;rw [ko] at hd;omega
 | succ n ih =>
  intro r hr hd
  have hl:=hr.len
  show np (nq n) r=_
  unfold np
  refine (jZ (l:=r.Args) (by omega) (fun i (a:Nat)=>((a:Int),i)) (fun _ x a=>cond (Nat.ble a 32) (.inl (a+min (pm x) 33)) (.inr a)) (fun a=>(a:Int)) (fun (a:Nat)=>(a:Int)) (fun _ a=>a≤1000) 1 (by omega) (fun k hk a ha=>⟨?_,fun a' h=>?_⟩) (fun a ha=>?_)).trans ?_
  ·simp only [gT hk,Bool.true_and,aB hk,bc]
   cases hb:Nat.ble a 32
   ·have hlt:32<a:=by rcases Nat.lt_or_ge 32 a with h | h;exact h;rw [Nat.ble_eq_true_of_le h] at hb;cases hb
    rw [show decide ((a:Int)≤32)=false from bI (by omega)];rfl
   have hle:=Nat.le_of_ble_eq_true hb
   rw [show decide ((a:Int)≤32)=true from det (by omega),ih _ (hr.arg (List.getElem_mem hk)) (by have:=ip (List.getElem_mem hk);omega)]
   simp only [bV,bc,bR hk (show r.Args.length≤4611686018427387904 by omega),zB]
   rw [cS (by omega) (by omega),show (a:Int)+((min (pm r.Args[k]) 33:Nat):Int)=((a+min (pm r.Args[k]) 33:Nat):Int) by omega]
  ·cases hb:Nat.ble a 32
   ·rw [hb] at h;cases h
   have hle:=Nat.le_of_ble_eq_true hb
   rw [hb] at h;injection h with h;omega
  ·simp only [cU,Bool.false_and,bC]
  have key:∀ (l:List Zf) (i a:Nat),∃ q:Nat,vS (fun (a:Nat)=>(a:Int)) (fun (a:Nat)=>(a:Int)) (run (fun _ x a=>cond (Nat.ble a 32) (.inl (a+min (pm x) 33)) (.inr a)) l i a)=(q:Int)∧min q 33=min (a+nA l) 33:=by
   intro l
   induction l with
   | nil=>intro i a;exact ⟨a,rfl,by rw [nA];omega⟩
   | cons x l ihl =>
    intro i a
    rw [jc,nA]
    cases hb:Nat.ble a 32
    ·have hlt:32<a:=by rcases Nat.lt_or_ge 32 a with h | h;exact h;rw [Nat.ble_eq_true_of_le h] at hb;cases hb
     exact ⟨a,rfl,by omega⟩
    obtain ⟨q,h1,h2⟩:=ihl (i+1) (a+min (pm x) 33)
    exact ⟨q,h1,by omega⟩
  obtain ⟨q,h1,h2⟩:=key r.Args 0 1
  rw [qe,← h2,h1]
  congr 1;unfold pz;split <;> omega
def Ci (s:ByteArray):Bool := !(dU s == 0)
def kV (l:List ByteArray):Bool:=decide (l.length≤6)&&(l.all Ci&&kz iS l)
def Fj (n:Int):Bool:=decide (0≤n)&&decide (n≤1000000)
def kp (r:Zf):Bool:=(r.Kind == 2||(r.Digits == 0&&r.Except.isEmpty&&r.Tolerance == 0))&&(r.Kind == 3||r.Limit == 0)&&(r.Kind == 4||decide (r.Name=⟨#[]⟩))&&(r.Kind == 5||r.Kind == 6||r.Args.isEmpty)
def jK (r:Zf):Bool:=cond (r.Kind == 1) true (cond (r.Kind == 2) ((r.Digits == 2||r.Digits == 4||r.Digits == 6)&&kV r.Except&&Fj r.Tolerance) (cond (r.Kind == 3) (Fj r.Limit) (cond (r.Kind == 4) (gU r.Name) false)))
mutual
def dx:Zf→Bool
 | ⟨k,d,e,t,m,n,l⟩=>kp ⟨k,d,e,t,m,n,l⟩&&cond (k == 5||k == 6) (decide (2≤l.length)&&decide (l.length≤6)&&oM k l) (jK ⟨k,d,e,t,m,n,l⟩)
def oM (k:Int):List Zf→Bool
 | []=>true
 | a::l=>(!(a.Kind == k)&&dx a)&&oM k l
end
theorem vb (k:Int):∀ l:List Zf,oM k l=l.all fun a => !(a.Kind == k)&&dx a
 | []=>by rw [oM];rfl
 | a::l=>by rw [oM,vb k l];rfl
theorem gQ (r:Zf):dx r=(kp r&&cond (r.Kind == 5||r.Kind == 6) (decide (2≤r.Args.length)&&decide (r.Args.length≤6)&&r.Args.all fun a => !(a.Kind == r.Kind)&&dx a) (jK r)):=by
 cases r;rw [dx,vb]
theorem len0 {α:Type} (l:List α):((l.length:Int) == 0)=l.isEmpty:=by cases l <;> rfl
theorem len0' {α:Type} (l:List α):decide (0<(l.length:Int)) = !l.isEmpty:=by cases l with
 | nil=>rfl
 | cons a l=>exact det (by rw [List.length_cons];omega)
theorem Bb (r:Zf):mG r=some (kp r):=by
 unfold mG kp
 rw [len0,len0']
 simp only [bne]
 cases (r.Kind == 2) <;> cases (r.Digits == 0) <;> cases r.Except.isEmpty <;> cases (r.Tolerance == 0) <;> cases (r.Kind == 3) <;> cases (r.Limit == 0) <;> cases (r.Kind == 4) <;> cases decide (r.Name=⟨#[]⟩) <;> rfl
theorem Dj (r:Zf):pT r=some (kp r):=by
 unfold pT kp
 rw [len0,len0']
 simp only [bne]
 cases (r.Kind == 2) <;> cases (r.Digits == 0) <;> cases r.Except.isEmpty <;> cases (r.Tolerance == 0) <;> cases (r.Kind == 3) <;> cases (r.Limit == 0) <;> cases (r.Kind == 4) <;> cases decide (r.Name=⟨#[]⟩) <;> rfl
theorem Bc (l:List ByteArray) (hl:StrsOk l):ie l=some (kV l):=by
 obtain ⟨hl,hs⟩:=hl
 unfold ie kV
 have i2:decide ((6:Int)<(l.length:Int)) = !decide (l.length≤6):=by rw [← decide_not];exact decide_eq_decide.2 (by omega)
 rw [i2]
 cases decide (l.length≤6)
 ·rfl
 simp only [Bool.not_true,bC,Bool.true_and]
 refine (bz (l:=l) (by omega) (fun k x=>cond (mV Ci l k x) none (some (.inr false))) (.inl ()) (fun k hk=>?_) (by simp only [cU,bC])).trans ?_
 ·have h62:l.length≤4611686018427387904:=by omega
  simp only [gT hk,bV,aB hk,bc,show ∀ s,dR s=some (dU s) from fun _=>rfl,A6,bR hk h62,mV,Ci]
  cases hw:(dU l[k] == 0)
  ·by_cases h0:0<k
   ·simp only [h0,decide_true,Bool.not_true,Bool.not_false,Bool.and_true,Bool.true_and,Bool.false_or,cr,fG h0 hk h62,bc,fc (show k - 1<l.length by omega),iS,t8]
    cases Op.bytesLess (l[k-1]'(by omega)).toList l[k].toList <;> rfl
   simp only [h0,decide_false,Bool.and_false,jb,bc,Bool.not_true,Bool.false_or,Bool.false_and,bC,Bool.not_false,Bool.true_and,Bool.true_or,Bool.or_false];rfl
  rfl
 rw [ms]
 cases (l.all Ci&&kz iS l) <;> rfl
theorem Dk (l:List ByteArray) (hl:StrsOk l) {β:Type} (k:Unit⊕Bool→Option β):Option.bind (aO (S:=Int) (T:=(Unit)⊕(_)) (fun v6=>cond (decide (v6<(l.length:Int))) (Option.bind (idx l v6) (fun m10=>Option.bind (iE m10) (fun x11=>Option.bind (gd ((!(x11 == 0))&&(decide (0<v6))) (idx l (IntKind.i64.wrap (v6 - 1)))) (fun m12=>Option.bind (gd ((!(x11 == 0))&&(decide (0<v6))) (idx l v6)) (fun m13=>cond ((x11 == 0)||((decide (0<v6))&&(!Op.bytesLess m12.toList m13.toList))) (some (.inr (.inr false))) (some (.inl (IntKind.i64.wrap (v6+1))))))))) (some (.inr (.inl ())))) FUEL 0) k=k (cond (l.all Ci&&kz iS l) (.inl ()) (.inr false)):=by
 obtain ⟨hl,hs⟩:=hl
 refine (bz (l:=l) (by omega) (fun k x=>cond (mV Ci l k x) none (some (.inr false))) (.inl ()) (fun k hk=>?_) (by simp only [cU,bC])).trans ?_
 ·have h62:l.length≤4611686018427387904:=by omega
  simp only [gT hk,bV,aB hk,bc,sI _ (hs _ (List.getElem_mem hk)),A6,bR hk h62,mV,Ci]
  cases hw:(dU l[k] == 0)
  ·by_cases h0:0<k
   ·simp only [h0,decide_true,Bool.not_true,Bool.not_false,Bool.and_true,Bool.true_and,Bool.false_or,cr,fG h0 hk h62,bc,fc (show k - 1<l.length by omega),iS]
    cases Op.bytesLess (l[k-1]'(by omega)).toList l[k].toList <;> rfl
   simp only [h0,decide_false,Bool.and_false,jb,bc,Bool.not_true,Bool.false_or,Bool.false_and,bC,Bool.not_false,Bool.true_and,Bool.true_or,Bool.or_false];rfl
  rfl
 rw [ms]
 cases (l.all Ci&&kz iS l) <;> rfl
theorem Fk (s:ByteArray) (hs:s.size≤140737488355328):dV [s]=some (gU s):=by
 rw [rE [s] ⟨by simp,by simpa using hs⟩]
 simp [kn,kz]
theorem valid_F (n:Nat):∀ (r:Zf),ROk r→sK r≤n→mi n r=some (dx r):=by
 induction n with
 | zero=>intro r _ hd;rw [ko] at hd;omega
 | succ n ih =>
  intro r hr hd
  have hl:=hr.len
  show kg (mi n) r=_
  unfold kg
  rw [Bb,gQ,bc]
  cases kp r
  ·rfl
  simp only [Bool.not_true,bC,Bool.true_and]
  cases e1:(r.Kind == 1)
  rotate_left
  ·have:=eq_of_beq e1
   simp only [jK,e1,this];rfl
  cases e2:(r.Kind == 2)
  rotate_left
  ·have:=eq_of_beq e2
   simp only [jK,e1,e2,this,bV,bC]
   rw [Bc _ hr.ex]
   show _=some (_&&kV r.Except&&Fj r.Tolerance)
   cases (r.Digits == 2||r.Digits == 4||r.Digits == 6)
   ·rfl
   simp only [cr,Bool.true_and,bc]
   cases kV r.Except <;> rfl
  cases e3:(r.Kind == 3)
  rotate_left
  ·have:=eq_of_beq e3
   simp only [jK,e1,e2,e3,this,bV,bC];rfl
  cases e4:(r.Kind == 4)
  rotate_left
  ·have:=eq_of_beq e4
   simp only [jK,e1,e2,e3,e4,this,bV,bC]
   rw [Fk _ hr.nm];rfl
  simp only [jK,e1,e2,e3,e4,bC]
  have e56:(cond (r.Kind == 5) (some (r.Kind == 5)) (some (r.Kind == 6)):Option Bool)=some (r.Kind == 5||r.Kind == 6):=by cases (r.Kind == 5) <;> rfl
  rw [e56,bc]
  cases (r.Kind == 5||r.Kind == 6)
  ·rfl
  simp only [bV]
  have i1:decide ((r.Args.length:Int)<2) = !decide (2≤r.Args.length):=by rw [← decide_not];exact decide_eq_decide.2 (by omega)
  have i2:decide ((6:Int)<(r.Args.length:Int)) = !decide (r.Args.length≤6):=by rw [← decide_not];exact decide_eq_decide.2 (by omega)
  rw [i1,i2]
  cases decide (2≤r.Args.length)
  ·rfl
  cases decide (r.Args.length≤6)
  ·rfl
  simp only [Bool.not_true,Bool.or_self,bC,Bool.true_and]
  refine (bz (l:=r.Args) (by omega) (fun _ a=>cond (!(a.Kind == r.Kind)&&dx a) none (some (.inr false))) (.inl ()) (fun k hk=>?_) (by simp only [cU,bC])).trans ?_
  ·simp only [gT hk,bV,aB hk,bc,bR hk (show r.Args.length≤4611686018427387904 by omega)]
   have h2:=ih _ (hr.arg (List.getElem_mem hk)) (by have:=ip (List.getElem_mem hk);omega)
   cases (r.Args[k].Kind == r.Kind)
   ·simp only [Bool.not_false,cr,h2,bc,Bool.true_and,Bool.false_or]
    cases dx r.Args[k] <;> rfl
   rfl
  rw [qF]
  cases (r.Args.all fun a => !(a.Kind == r.Kind)&&dx a) <;> rfl
theorem right_F (n:Nat):∀ (r:Zf),ROk r→sK r≤n→nt n r=some (dx r):=by
 induction n with
 | zero=>intro r _ hd;rw [ko] at hd;omega
 | succ n ih =>
  intro r hr hd
  have hl:=hr.len
  show ns (nt n) r=_
  unfold ns
  rw [Dj,gQ,bc]
  cases kp r
  ·rfl
  simp only [Bool.not_true,bC,Bool.true_and]
  cases e1:(r.Kind == 1)
  rotate_left
  ·have:=eq_of_beq e1
   simp only [jK,e1,this];rfl
  cases e2:(r.Kind == 2)
  rotate_left
  ·have:=eq_of_beq e2
   simp only [jK,e1,e2,this,bV,bC]
   rw [Dk _ hr.ex]
   show _=some (_&&kV r.Except&&Fj r.Tolerance)
   unfold kV Fj
   have i2:decide ((r.Except.length:Int)≤6)=decide (r.Except.length≤6):=decide_eq_decide.2 (by omega)
   rw [i2]
   cases (r.Except.all Ci&&kz iS r.Except)
   ·cases (r.Digits == 2||r.Digits == 4||r.Digits == 6) <;> cases decide (r.Except.length≤6) <;> rfl
   cases (r.Digits == 2||r.Digits == 4||r.Digits == 6) <;> cases decide (r.Except.length≤6) <;> rfl
  cases e3:(r.Kind == 3)
  rotate_left
  ·have:=eq_of_beq e3
   simp only [jK,e1,e2,e3,this,bV,bC];rfl
  cases e4:(r.Kind == 4)
  rotate_left
  ·have:=eq_of_beq e4
   simp only [jK,e1,e2,e3,e4,this,bV,bC]
   rw [zM _ hr.nm];rfl
  simp only [jK,e1,e2,e3,e4,bC]
  have e56:(cond (r.Kind == 5) (some (r.Kind == 5)) (some (r.Kind == 6)):Option Bool)=some (r.Kind == 5||r.Kind == 6):=by cases (r.Kind == 5) <;> rfl
  rw [e56,bc]
  cases (r.Kind == 5||r.Kind == 6)
  ·rfl
  simp only [bV]
  have i1:decide ((2:Int)≤(r.Args.length:Int))=decide (2≤r.Args.length):=decide_eq_decide.2 (by omega)
  have i2:decide ((r.Args.length:Int)≤(6:Int))=decide (r.Args.length≤6):=decide_eq_decide.2 (by omega)
  rw [i1,i2]
  refine (bz (l:=r.Args) (by omega) (fun _ a=>cond (!(a.Kind == r.Kind)&&dx a) none (some (.inr false))) (.inl ()) (fun k hk=>?_) (by simp only [cU,bC])).trans ?_
  ·simp only [gT hk,bV,aB hk,bc,bR hk (show r.Args.length≤4611686018427387904 by omega)]
   have h2:=ih _ (hr.arg (List.getElem_mem hk)) (by have:=ip (List.getElem_mem hk);omega)
   cases (r.Args[k].Kind == r.Kind)
   ·simp only [Bool.not_false,cr,h2,bc,Bool.true_and,Bool.false_or]
    cases dx r.Args[k] <;> rfl
   rfl
  rw [qF]
  cases (r.Args.all fun a => !(a.Kind == r.Kind)&&dx a)
  ·simp
  simp
def lQ (r:Zf):Int:=cond (decide (pm r≤32)) (cond (dx r) 0 1) 8
theorem nU (r:Zf) (hr:ROk r) (hd:sK r≤1000):fz r=some (lQ r):=by
 unfold fz rq rC lQ
 have hf:FUEL=1267650600228229401496703205376:=rfl
 have h1:=nodes_F FUEL r 33 hr (by rw [hf];omega) (by omega) (by omega)
 rw [show ((33:Nat):Int)=33 from rfl] at h1
 rw [h1,bc,valid_F FUEL r hr (by rw [hf];omega)]
 by_cases h:pm r≤32
 ·rw [bI (by omega),det h]
  cases dx r <;> rfl
 rw [det (by omega),bI h];rfl
theorem Fl (r:Zf) (hr:ROk r) (hd:sK r≤1000):oF r=some (lQ r):=by
 unfold oF s9 tc lQ
 have hf:FUEL=1267650600228229401496703205376:=rfl
 rw [Ba FUEL r hr (by rw [hf];omega),bc,right_F FUEL r hr (by rw [hf];omega)]
 by_cases h:pm r≤32
 ·rw [bI (by omega),det h]
  cases dx r <;> rfl
 rw [det (by omega),bI h];rfl
theorem kW (r:Zf):lQ r=0↔pm r≤32∧dx r=true:=by
 unfold lQ
 by_cases h:pm r≤32
 ·rw [det h];cases dx r <;> simp [h]
 rw [bI h];simp [h]
structure RFOk (x:Zi):Prop where
 pre:x.Prefix.size≤140737488355328
 rule:ROk x.Rule
 deep:sK x.Rule≤1000
structure AOk (a:Zb):Prop where
 par:StrsOk a.Parties
 len:a.Rules.length≤140737488355328
 rules:∀ x∈a.Rules,RFOk x
structure ASOk (l:List Zb):Prop where
 len:l.length≤140737488355328
 all:∀ a∈l,AOk a
def kq (l:List ByteArray):Bool:=l.all qS&&kz iS l
def nV (l:List Zi) (k:Nat) (x:Zi):Option Int:=cond (Ci x.Prefix) (cond (decide (0<k) && !iS (l.getD (k - 1) x).Prefix x.Prefix) (some 9) (cond (lQ x.Rule == 0) none (some (lQ x.Rule)))) (some 1)
def rulesE (l:List Zi):Int:=(cu (nV l) l 0).getD 0
def ya (l:List Zb) (k:Nat) (a:Zb):Option Int :=
 cond (decide (a.ID<1)||decide (1000<a.ID)||decide (a.Kind<1)||decide (3<a.Kind)) (some 2) (cond (decide (0<k)&&decide (a.ID≤(l.getD (k - 1) a).ID)) (some 9) (cond (decide (12<a.Parties.length)||decide (12<a.Rules.length)) (some 8)
  (cond (kq a.Parties) (cond (rulesE a.Rules == 0) none (some (rulesE a.Rules))) (some 1))))
def Dl (l:List Zb):Int:=cond (decide (l.length≤8)) ((cu (ya l) l 0).getD 0) 8
theorem yb (l:List ByteArray) (hl:StrsOk l):dT l=some (kq l):=by
 obtain ⟨hl,hs⟩:=hl
 unfold dT kq
 refine (bz (l:=l) (by omega) (fun k x=>cond (mV qS l k x) none (some (.inr false))) (.inl ()) (fun k hk=>?_) (by simp only [cU,bC])).trans ?_
 ·have h62:l.length≤4611686018427387904:=by omega
  simp only [gT hk,bV,aB hk,bc,lg,A6,bR hk h62,mV]
  cases hw:qS l[k]
  ·rfl
  by_cases h0:0<k
  ·simp only [h0,decide_true,Bool.not_true,Bool.not_false,Bool.and_true,Bool.true_and,Bool.false_or,cr,fG h0 hk h62,bc,fc (show k - 1<l.length by omega),iS,t8]
   cases Op.bytesLess (l[k-1]'(by omega)).toList l[k].toList <;> rfl
  simp only [h0,decide_false,Bool.and_false,jb,bc,Bool.not_true,Bool.false_or,Bool.false_and,bC,Bool.not_false,Bool.true_and,Bool.true_or,Bool.or_false];rfl
 rw [ms]
 cases (l.all qS&&kz iS l) <;> rfl
theorem zP (l:List Zi) (hl:l.length≤140737488355328) (hr:∀ x∈l,RFOk x):dJ l=some (rulesE l):=by
 unfold dJ rulesE
 have h62:l.length≤4611686018427387904:=by omega
 refine (bz (l:=l) h62 (fun k x=>(nV l k x).map .inr) (.inl ()) (fun k hk=>?_) (by simp only [cU,bC])).trans ?_
 ·simp only [gT hk,bV,aB hk,bc,show ∀ s,dR s=some (dU s) from fun _=>rfl,A6,bR hk h62,nV,Ci]
  cases hw:(dU l[k].Prefix == 0)
  ·have h2:=nU _ (hr _ (List.getElem_mem hk)).rule (hr _ (List.getElem_mem hk)).deep
   by_cases h0:0<k
   ·simp only [h0,decide_true,Bool.true_and,cr,fG h0 hk h62,bc,fc (show k - 1<l.length by omega),iS,t8,Bool.not_false,bV,bC]
    cases Op.bytesLess (l[k-1]'(by omega)).Prefix.toList l[k].Prefix.toList
    ·rfl
    simp only [Bool.not_true,bC]
    rw [h2]
    simp only [bne]
    cases hz:(lQ l[k].Rule == 0) <;> simp [hz,vU]
   simp only [h0,decide_false,Bool.false_and,jb,bc,bC,Bool.not_false,bV]
   rw [h2]
   simp only [bne]
   cases hz:(lQ l[k].Rule == 0) <;> simp [hz,vU]
  rfl
 have key:∀ (g:Nat→Zi→Option Int) (m:List Zi) (i:Nat),cu (fun k x=>(g k x).map (Sum.inr:Int→Unit⊕Int)) m i=(cu g m i).map Sum.inr:=by
  intro g m
  induction m with
  | nil=>intro i;rfl
  | cons x m ih=>intro i;rw [cu,cu];cases g i x with | none=>exact ih _ | some t=>rfl
 rw [key]
 cases cu (nV l) l 0 <;> rfl
theorem qH {α T U:Type} (f:T→U) (g:Nat→α→Option T):∀ (m:List α) (i:Nat),cu (fun k x=>(g k x).map f) m i=(cu g m i).map f
 | [],_=>rfl
 | x::m,i=>by rw [cu,cu];cases g i x with | none=>exact qH f g m _ | some t=>rfl
theorem zQ (l:List Zb) (hl:ASOk l):db l=some (Dl l):=by
 unfold db Dl
 have h62:l.length≤4611686018427387904:=by have:=hl.len;omega
 have i1:decide ((8:Int)<(l.length:Int)) = !decide (l.length≤8):=by rw [← decide_not];exact decide_eq_decide.2 (by omega)
 rw [i1]
 cases decide (l.length≤8)
 ·rfl
 simp only [Bool.not_true,bC,bV]
 refine (bz (l:=l) h62 (fun k x=>(ya l k x).map .inr) (.inl ()) (fun k hk=>?_) (by simp only [cU,bC])).trans ?_
 ·have ha:=hl.all _ (List.getElem_mem hk)
  simp only [gT hk,bV,aB hk,bc,A6,bR hk h62,ya]
  have j1:decide ((12:Int)<(l[k].Parties.length:Int))=decide (12<l[k].Parties.length):=decide_eq_decide.2 (by omega)
  have j2:decide ((12:Int)<(l[k].Rules.length:Int))=decide (12<l[k].Rules.length):=decide_eq_decide.2 (by omega)
  rw [yb _ ha.par,zP _ ha.len ha.rules,j1,j2]
  cases (decide (l[k].ID<1)||decide (1000<l[k].ID)||decide (l[k].Kind<1)||decide (3<l[k].Kind))
  ·by_cases h0:0<k
   ·simp only [h0,decide_true,Bool.true_and,cr,fG h0 hk h62,bc,fc (show k - 1<l.length by omega),bC]
    cases decide (l[k].ID≤(l[k-1]'(by omega)).ID)
    ·cases (decide (12<l[k].Parties.length)||decide (12<l[k].Rules.length))
     ·cases kq l[k].Parties
      ·rfl
      simp only [bC,bV,Bool.not_true,bne]
      cases hz:(rulesE l[k].Rules == 0) <;> simp [hz,vU]
     rfl
    rfl
   simp only [h0,decide_false,Bool.false_and,jb,bc,bC]
   cases (decide (12<l[k].Parties.length)||decide (12<l[k].Rules.length))
   ·cases kq l[k].Parties
    ·rfl
    simp only [bC,bV,Bool.not_true,bne]
    cases hz:(rulesE l[k].Rules == 0) <;> simp [hz,vU]
   rfl
  rfl
 rw [qH]
 cases cu (ya l) l 0 <;> rfl
theorem ref_agr (l:List Zb) (hl:ASOk l):iR l=some (Dl l):=by
  unfold iR Dl
  have h62:l.length≤4611686018427387904:=by have:=hl.len;omega
  have i1:decide ((8:Int)<(l.length:Int)) = !decide (l.length≤8):=by rw [← decide_not];exact decide_eq_decide.2 (by omega)
  rw [i1]
  cases decide (l.length≤8)
  · rfl
  simp only [Bool.not_true,bC,bV]
  refine (bz (l:=l) h62 (fun k x=>(ya l k x).map .inr) (.inl ()) (fun k hk=>?_) (by simp only [cU,bC])).trans ?_
  · have ha:=hl.all _ (List.getElem_mem hk)
    simp only [gT hk,bV,aB hk,bc,A6,bR hk h62,ya]
    have j1:decide ((12:Int)<(l[k].Parties.length:Int))=decide (12<l[k].Parties.length):=decide_eq_decide.2 (by omega)
    have j2:decide ((12:Int)<(l[k].Rules.length:Int))=decide (12<l[k].Rules.length):=decide_eq_decide.2 (by omega)
    rw [j1,j2]
    have tail:(Option.bind (aO (S:=Int) (T:=(Unit)⊕(Int⊕(Unit⊕Int))) (fun v12=>cond (decide (v12<(l[k].Parties.length:Int))) (Option.bind (idx l[k].Parties v12) (fun m16=>Option.bind (gB m16) (fun x17=>Option.bind (gd ((!(!x17))&&(decide (0<v12))) (idx l[k].Parties (IntKind.i64.wrap (v12 - 1)))) (fun m18=>Option.bind (gd ((!(!x17))&&(decide (0<v12))) (idx l[k].Parties v12)) (fun m19=>cond ((!x17)||((decide (0<v12))&&(!Op.bytesLess m18.toList m19.toList))) (some (.inr (.inr (.inr (.inr 1))))) (some (.inl (IntKind.i64.wrap (v12+1))))))))) (some (.inr (.inl ())))) FUEL 0)
        (fun q=>match q with
          | .inl _=>Option.bind (aO (S:=Int) (T:=(Unit)⊕(Int⊕(Unit⊕Int))) (fun v21=>cond (decide (v21<(l[k].Rules.length:Int))) (Option.bind (idx l[k].Rules v21) (fun m25=>Option.bind (iE m25.Prefix) (fun x26=>cond (x26 == 0) (some (.inr (.inr (.inr (.inr 1))))) (Option.bind (gd (decide (0<v21)) (idx l[k].Rules (IntKind.i64.wrap (v21 - 1)))) (fun m28=>Option.bind (gd (decide (0<v21)) (idx l[k].Rules v21)) (fun m29=>cond ((decide (0<v21))&&(!Op.bytesLess m28.Prefix.toList m29.Prefix.toList)) (some (.inr (.inr (.inr (.inr 9))))) (Option.bind (idx l[k].Rules v21) (fun m31=>Option.bind (oF m31.Rule) (fun x32=>cond (x32 != 0) (some (.inr (.inr (.inr (.inr x32))))) (some (.inl (IntKind.i64.wrap (v21+1))))))))))))) (some (.inr (.inl ())))) FUEL 0) (fun q=>match q with | .inl _=>some (.inl ((k+1:Nat):Int)) | .inr e=>some e)
          | .inr e=>some e):Option (Int⊕(Unit⊕Int)))=some (vU k ((cond (kq l[k].Parties) (cond (rulesE l[k].Rules == 0) none (some (rulesE l[k].Rules))) (some 1)).map .inr)):=by
      obtain ⟨hp,hps⟩:=ha.par
      have hq:=ha.len;have hqr:=ha.rules
      generalize l[k].Parties=P at hp hps
      generalize l[k].Rules=R at hq hqr
      have hP:P.length≤4611686018427387904:=by omega
      have hR:R.length≤4611686018427387904:=by omega
      refine (bz (l:=P) hP (fun k x=>cond (mV qS P k x) none (some (.inr (.inr (.inr 1))))) (.inl ()) (fun k hk=>?_) (by simp only [cU,bC])).trans ?_
      · simp only [gT hk,bV,aB hk,bc,qd,A6,bR hk hP,mV]
        cases hw:qS P[k]
        · rfl
        by_cases h0:0<k
        · simp only [h0,decide_true,Bool.not_true,Bool.not_false,Bool.and_true,Bool.true_and,Bool.false_or,cr,fG h0 hk hP,bc,fc (show k - 1<P.length by omega),iS]
          cases Op.bytesLess (P[k-1]'(by omega)).toList P[k].toList <;> rfl
        simp only [h0,decide_false,Bool.and_false,jb,bc,Bool.not_true,Bool.false_or,Bool.false_and,bC,Bool.not_false,Bool.true_and,Bool.true_or,Bool.or_false];rfl
      rw [ms]
      unfold kq
      cases (P.all qS&&kz iS P)
      · rfl
      simp only [bV,Option.getD_none]
      refine (bz (l:=R) hR (fun k x=>(nV R k x).map fun e=>.inr (.inr (.inr e))) (.inl ()) (fun k hk=>?_) (by simp only [cU,bC])).trans ?_
      · simp only [gT hk,bV,aB hk,bc,sI _ (hqr _ (List.getElem_mem hk)).pre,A6,bR hk hR,nV,Ci]
        cases hw:(dU R[k].Prefix == 0)
        · have h2:=Fl _ (hqr _ (List.getElem_mem hk)).rule (hqr _ (List.getElem_mem hk)).deep
          by_cases h0:0<k
          · simp only [h0,decide_true,Bool.true_and,cr,fG h0 hk hR,bc,fc (show k - 1<R.length by omega),iS,Bool.not_false,bV,bC]
            cases Op.bytesLess (R[k-1]'(by omega)).Prefix.toList R[k].Prefix.toList
            · rfl
            simp only [Bool.not_true,bC]
            rw [h2]
            simp only [bne]
            cases hz:(lQ R[k].Rule == 0) <;> simp [hz,vU]
          simp only [h0,decide_false,Bool.false_and,jb,bc,bC,Bool.not_false,bV]
          rw [h2]
          simp only [bne]
          cases hz:(lQ R[k].Rule == 0) <;> simp [hz,vU]
        rfl
      rw [qH]
      unfold rulesE
      have hne:∀ e,cu (nV R) R 0=some e→(e == 0)=false:=by
        have:∀ (m:List Zi) (i:Nat) (e:Int),cu (nV R) m i=some e→(e == 0)=false:=by
          intro m
          induction m with
          | nil=>intro i e h;cases h
          | cons x m ih =>
            intro i e h
            rw [cu] at h
            cases hg:nV R i x with
            | none=>rw [hg] at h;exact ih _ _ h
            | some t =>
              rw [hg] at h;injection h with h;subst h
              unfold nV at hg
              cases hb:Ci x.Prefix
              · rw [hb] at hg;injection hg with hg;subst hg;rfl
              rw [hb] at hg
              cases h9:(decide (0<i) && !iS (R.getD (i - 1) x).Prefix x.Prefix)
              · rw [h9] at hg
                cases hz:(lQ x.Rule == 0)
                · rw [hz] at hg;injection hg with hg;subst hg;exact hz
                rw [hz] at hg;cases hg
              rw [h9] at hg;injection hg with hg;subst hg;rfl
        exact this R 0
      cases hf:cu (nV R) R 0 with
      | none=>rfl
      | some e=>simp [hne e hf,vU]
    cases (decide (l[k].ID<1)||decide (1000<l[k].ID)||decide (l[k].Kind<1)||decide (3<l[k].Kind))
    · by_cases h0:0<k
      · simp only [h0,decide_true,Bool.true_and,cr,fG h0 hk h62,bc,fc (show k - 1<l.length by omega),bC]
        cases decide (l[k].ID≤(l[k-1]'(by omega)).ID)
        · cases (decide (12<l[k].Parties.length)||decide (12<l[k].Rules.length))
          · exact tail
          rfl
        rfl
      simp only [h0,decide_false,Bool.false_and,jb,bc,bC]
      cases (decide (12<l[k].Parties.length)||decide (12<l[k].Rules.length))
      · exact tail
      rfl
    rfl
  rw [qH]
  cases cu (ya l) l 0 <;> rfl
def Y {α:Type} (x:Option α) (P:α→Prop):Prop:=∃ a,x=some a∧P a
section
variable {α β S T:Type} {x y:Option α} {P P':α→Prop} {Q:β→Prop} {f:α→Option β} {a:α} {c:Bool}
theorem Y.bind (h:Y x P) (k:∀ a,P a→Y (f a) Q):Y (x.bind f) Q:=by
 obtain ⟨a,h1,h2⟩:=h;rw [h1];exact k a h2
theorem Y.ret (h:P a):Y (some a) P:=⟨a,rfl,h⟩
theorem Y.mono (h:Y x P) (k:∀ a,P a→P' a):Y x P':=by obtain ⟨a,h1,h2⟩:=h;exact ⟨a,h1,k a h2⟩
theorem Y.cond (h:c=true→Y x P) (k:c=false→Y y P):Y (cond c x y) P:=by cases c;exact k rfl;exact h rfl
theorem Y.eq {r:α} (h:x=some r) (k:Y (f r) Q):Y (x.bind f) Q:=by rw [h];exact k
theorem Y.loop {body:S→Option (S⊕T)} {R:T→Prop} {s:S} (I:S→Prop) (μ:S→Nat) (h0:I s) (hm:μ s≤1267650600228229401496703205000) (step:∀ s,I s→Y (body s) (fun o=>match o with | .inl s'=>I s'∧μ s'<μ s | .inr t=>R t)):Y (aO body FUEL s) R:=by
 obtain ⟨t,h1,h2⟩:=mr (body:=body) I μ R (fun s hs=>by
  obtain ⟨o,k1,k2⟩:=step s hs
  cases o with
  | inl s'=>exact .inl ⟨s',k1,k2⟩
  | inr t=>exact .inr ⟨t,k1,k2⟩) FUEL s h0 (jY hm)
 exact ⟨t,h1,h2⟩
theorem Y.idx {xs:List α} {i:Int} {n:Nat} (h:i=(n:Int)) (hn:n<xs.length) (k:Y (f xs[n]) Q):Y ((idx xs i).bind f) Q:=by subst h;rw [aB hn];exact k
theorem Y.gdp [Inhabited α] {z:Option (α×β)} {m:β} {R:α×β→Prop} (h:c=true→Y z R) (k:c=false→R (default,m)):Y (gdp c z m) R:=by
 cases c
 ·exact ⟨_,rfl,k rfl⟩
 exact h rfl
end
theorem wQ (a n:Int) (h1:1≤n) (h2:n≤4611686018427387904):∃ r,cW a n=some r∧0≤r∧r<n:=by
 have hl:=Int.tmod_lt_of_pos a (show 0<n by omega)
 have hl2:=Int.tmod_lt_of_pos (-a) (show 0<n by omega)
 rw [Int.neg_tmod] at hl2
 unfold cW nz lb
 rw [if_neg (by omega),cS (by omega) (by omega)]
 exact ⟨_,rfl,Int.tmod_nonneg _ (by omega),Int.tmod_lt_of_pos _ (by omega)⟩
def SOK (p:Zk):Prop:=0≤p.I∧p.I≤p.L.length∧p.L.length≤1000000000000000
theorem next_ok {p:Zk} (hp:SOK p) (n:Int) (h1:1≤n) (h2:n≤4611686018427387904):∃ r q,aP p n=some (r,q)∧0≤r∧r<n∧SOK q:=by
 obtain ⟨a1,a2,a3⟩:=hp
 unfold aP
 by_cases h:(p.L.length:Int)≤p.I
 ·rw [det h];exact ⟨_,_,rfl,by omega,by omega,a1,a2,a3⟩
 rw [bI h,cS (r:=p.I+1) (by omega) (by omega),cS (by omega) (by omega)]
 simp only [bC]
 have e:idx p.L (p.I+1 - 1)=some (p.L[p.I.toNat]'(by omega)):=by
  unfold idx;rw [if_pos (by omega)]
  have:(p.I+1 - 1).toNat=p.I.toNat:=by omega
  rw [this];exact List.getElem?_eq_getElem _
 rw [o4 e]
 obtain ⟨r,h3,h4,h5⟩:=wQ (p.L[p.I.toNat]'(by omega)) n h1 h2
 rw [o4 h3]
 exact ⟨_,_,rfl,h4,h5,by simp only;omega,by simp only;omega,a3⟩
theorem cut_ok (l:List Int) (n:Int) (h:0≤n) (h2:n≤1000):∃ m,mF l n=some m∧(m.length:Int)≤n:=by
 unfold mF
 by_cases h1:n<(l.length:Int)
 ·rw [det h1]
  have e:sub l 0 n=some ((l.take n.toNat).drop 0):=by unfold sub;rw [if_pos (by omega)];rfl
  simp only [bV];rw [o4 e];exact ⟨_,rfl,by simp;omega⟩
 rw [bI h1];exact ⟨_,rfl,by omega⟩
theorem iK (a n:Int) (h1:1≤n) (h2:n≤4611686018427387904):Y (cW a n) (fun r=>0≤r∧r<n):=wQ a n h1 h2
theorem eN {p:Zk} (hp:SOK p) (n:Int) (h1:1≤n) (h2:n≤4611686018427387904):Y (aP p n) (fun r=>0≤r.1∧r.1<n∧SOK r.2):=by
 obtain ⟨r,q,h3,h4,h5,h6⟩:=next_ok hp n h1 h2;exact ⟨(r,q),h3,h4,h5,h6⟩
theorem cut_Y (l:List Int) (n:Int) (h:0≤n) (h2:n≤1000):Y (mF l n) (fun m=>SOK ⟨m,0⟩):=by
 obtain ⟨m,h3,h4⟩:=cut_ok l n h h2
 exact ⟨m,h3,by dsimp only;omega,by dsimp only;omega,by dsimp only;omega⟩
theorem Fm {p:Zk} (hp:SOK p):Y (fC p) (fun r=>Fj r.1=true∧SOK r.2):=by
 unfold fC
 refine (eN hp 4 (by omega) (by omega)).bind fun a ⟨h1,h2,h3⟩=>?_
 refine Y.cond (fun _=>?_) (fun _=>?_)
 ·refine (eN h3 101 (by omega) (by omega)).bind fun b ⟨k1,k2,k3⟩=>Y.ret ⟨?_,k3⟩
  rw [cS (by omega) (by omega)];simp only [Fj,Bool.and_eq_true,decide_eq_true_eq];omega
 refine (eN h3 1000001 (by omega) (by omega)).bind fun b ⟨k1,k2,k3⟩=>Y.ret ⟨?_,k3⟩
 simp only [Fj,Bool.and_eq_true,decide_eq_true_eq];omega
structure Good (r:Zf) (m:Nat):Prop where
 ok:ROk r
 valid:dx r=true
 size:pm r≤m
theorem zR:StrsOk []:=⟨by simp,by simp⟩
theorem Fo {r:Zf} (h1:StrsOk r.Except) (h2:r.Name.size≤140737488355328) (h3:r.Args=[]):ROk r:=⟨r,h1,h2,by rw [h3];simp,by rw [h3];simp⟩
theorem Fq {r:Zf} (h:r.Args=[]):pm r=1:=by rw [qe,h];rfl
def nW:Nat→Nat
 | 0=>1
 | d+1=>1+3*nW d
theorem Fr (d:Nat):1≤nW d:=by cases d <;> simp [nW]
theorem Cj {m:Nat}:∀ {l:List Zf},(∀ a∈l,pm a≤m)→nA l≤l.length*m
 | [],_=>by rw [nA];omega
 | a::l,h=>by
  rw [nA,List.length_cons,Nat.add_mul,Nat.one_mul]
  have h1:=h a (by simp);have h2:=Cj (l:=l) fun b hb=>h b (by simp [hb]);omega
theorem yc {but:Int} (hb:but=0∨but=5∨but=6) {r:Zf} {q:Zk} {m:Nat} (hm:1≤m) (hq:SOK q) (h1:StrsOk r.Except) (h2:r.Name.size≤140737488355328) (h3:r.Args=[]) (hk:1≤r.Kind∧r.Kind≤4) (hv:dx r=true):Good r m∧r.Kind≠but∧SOK q :=
 ⟨⟨Fo h1 h2 h3,hv,by rw [Fq h3];exact hm⟩,by omega,hq⟩
theorem wR {d n:Nat} {p:Zk} {but:Int} (hp:SOK p) (hb:but=0∨but=5∨but=6) (hn:d<n) (hd:d≤10)
    (ih:∀ d',d=d'+1→∀ (q:Zk) (but':Int),SOK q→(but'=0∨but'=5∨but'=6)→Y (eK (n - 1) q but' (d':Int)) (fun r=>Good r.1 (nW d')∧r.1.Kind≠but'∧SOK r.2)) :
    Y (eK n p but (d:Int)) (fun r=>Good r.1 (nW d)∧r.1.Kind≠but∧SOK r.2):=by
  obtain ⟨n,rfl⟩:∃ m,n=m+1:=⟨n - 1,by omega⟩
  rw [Nat.add_sub_cancel] at ih
  show Y (fH (eK n) p but (d:Int)) _
  unfold fH
  refine (eN hp 8 (by omega) (by omega)).bind fun a ⟨h1,h2,h3⟩=>?_
  refine Y.cond (fun hc=>?_) (fun hc=>?_)
  · simp only [Bool.and_eq_true,decide_eq_true_eq] at hc
    obtain ⟨d',rfl⟩:∃ d',d=d'+1:=⟨d - 1,by omega⟩
    have ih:=ih d' rfl
    have hm1:0≤Int.tmod a.1 2:=Int.tmod_nonneg _ (by omega)
    have hm2:Int.tmod a.1 2<2:=Int.tmod_lt_of_pos _ (by omega)
    refine Y.bind (P:=fun k=>(k=5∨k=6)∧k≠but) ?_ fun k ⟨hk,hkb⟩=>?_
    · rw [cS (by omega) (by omega)]
      refine Y.cond (fun hc=>Y.ret ?_) (fun hc=>Y.ret ?_)
      · have:=eq_of_beq hc;rw [cS (by omega) (by omega)];omega
      have:¬ 5+Int.tmod a.1 2=but:=by intro h;rw [h] at hc;simp at hc
      omega
    refine (eN h3 2 (by omega) (by omega)).bind fun b ⟨k1,k2,k3⟩=>?_
    rw [cS (r:=2+b.1) (by omega) (by omega)]
    refine Y.bind (P:=fun t:List Int×Int×List Zf=>SOK ⟨t.1,t.2.1⟩∧(2≤t.2.2.length∧t.2.2.length≤3)∧∀ x∈t.2.2,Good x (nW d')∧x.Kind≠k) ?_ fun t ⟨t1,t2,t3⟩=>?_
    · refine Y.loop (fun s:Int×List Int×Int×List Zf=>(0≤s.1∧s.1+s.2.2.2.length=2+b.1)∧SOK ⟨s.2.1,s.2.2.1⟩∧∀ x∈s.2.2.2,Good x (nW d')∧x.Kind≠k) (fun s=>s.1.toNat) ⟨⟨by dsimp only;omega,by simp⟩,k3,by simp⟩ (by dsimp only;omega) fun s hs=>?_
      obtain ⟨v,l,i,m⟩:=s
      obtain ⟨⟨s1,s2⟩,s3,s4⟩:=hs
      dsimp only at s1 s2 s3 s4 ⊢
      refine Y.cond (fun hc=>?_) (fun hc=>Y.ret ⟨s3,?_,s4⟩)
      · have hc:=of_decide_eq_true hc
        rw [cS (by omega) (by omega),show ((d'+1:Nat):Int) - 1=(d':Int) by omega]
        refine (ih _ k s3 (by omega)).bind fun x ⟨x1,x2,x3⟩=>?_
        rw [cF (by simp;omega) (by simp;omega),bc,cS (by omega) (by omega)]
        refine Y.ret ⟨⟨⟨by dsimp only;omega,by simp;omega⟩,x3,fun z hz=>?_⟩,by dsimp only;omega⟩
        rcases List.mem_append.1 hz with hz | hz
        · exact s4 z hz
        rw [List.mem_singleton.1 hz];exact ⟨x1,x2⟩
      have hc:=of_decide_eq_false hc
      dsimp only;omega
    obtain ⟨l,i,m⟩:=t
    dsimp only at t1 t2 t3 ⊢
    refine Y.ret ⟨⟨⟨_,zR,by simp,by dsimp only;omega,fun z hz=>(t3 z hz).1.ok⟩,?_,?_⟩,hkb,t1⟩
    · rw [gQ]
      have e1:(k == 5||k == 6)=true:=by rcases hk with rfl | rfl <;> rfl
      have e2:kp ⟨k,0,[],0,0,ByteArray.empty,m⟩=true:=by rcases hk with rfl | rfl <;> rfl
      rw [e2]
      simp only [e1,bV,Bool.true_and,Bool.and_eq_true,decide_eq_true_eq,List.all_eq_true,Bool.not_eq_true',beq_eq_false_iff_ne,ne_eq]
      exact ⟨by omega,fun z hz=>⟨(t3 z hz).2,(t3 z hz).1.valid⟩⟩
    rw [qe]
    have:=Cj fun z hz=>(t3 z hz).1.size
    have h3:m.length*nW d'≤3*nW d':=Nat.mul_le_mul_right _ t2.2
    dsimp only [nW];omega
  have hpos:=Fr d
  refine Y.bind (P:=fun q:(List Int×Int)⊕(Zf×Zk)=>match q with | .inl s=>SOK ⟨s.1,s.2⟩ | .inr r=>Good r.1 (nW d)∧r.1.Kind≠but∧SOK r.2) ?_ fun q hq=>?_
  · refine Y.cond (fun _=>?_) fun _=>Y.cond (fun _=>?_) fun _=>Y.cond (fun _=>?_) fun _=>Y.ret h3
    · refine (Fm h3).bind fun b ⟨k1,k2⟩=>Y.ret (yc hb hpos k2 zR (by simp) rfl ⟨by simp,by simp⟩ ?_)
      rw [gQ];simp only [kp,jK,k1];rfl
    · refine (eN h3 5 (by omega) (by omega)).bind fun b ⟨k1,k2,k3⟩=>?_
      obtain ⟨j,hj⟩:∃ j:Nat,b.1=(j:Int):=⟨b.1.toNat,by omega⟩
      have hj5:j<5:=by omega
      refine Y.idx hj hj5 (Y.ret ?_)
      have hw:∀ j:Nat,(h:j<5)→gU [(⟨#[97,110,100]⟩:ByteArray),(⟨#[99,117,116]⟩:ByteArray),(⟨#[111,114]⟩:ByteArray),(⟨#[115,101,119]⟩:ByteArray),(⟨#[115,112,105,110]⟩:ByteArray)][j]=true:=by
        intro j h
        match j,h with
        | 0,_=>rfl
        | 1,_=>rfl
        | 2,_=>rfl
        | 3,_=>rfl
        | 4,_=>rfl
      have hw2:=hw j hj5
      refine yc hb hpos k3 zR ?_ rfl ⟨by simp,by simp⟩ ?_
      · have h12:=hw2
        simp only [gU,Bool.and_eq_true,decide_eq_true_eq] at h12
        dsimp only;omega
      rw [gQ];simp only [kp,jK,hw2];rfl
    refine (eN h3 3 (by omega) (by omega)).bind fun b ⟨k1,k2,k3⟩=>Y.cond (fun _=>Y.ret (yc hb hpos k3 zR (by simp) rfl ⟨by simp,by simp⟩ ?_)) fun _=>Y.ret k3
    rw [gQ];rfl
  cases q with
  | inr r=>exact Y.ret hq
  | inl s =>
    obtain ⟨l,i⟩:=s
    dsimp only at hq ⊢
    refine (eN hq 3 (by omega) (by omega)).bind fun b ⟨k1,k2,k3⟩=>?_
    refine (eN k3 3 (by omega) (by omega)).bind fun c ⟨c1,c2,c3⟩=>?_
    refine Y.bind (P:=fun t:List Int×Int×List ByteArray=>SOK ⟨t.1,t.2.1⟩∧StrsOk t.2.2∧kV t.2.2=true) ?_ fun t ⟨t1,t2,t3⟩=>?_
    · refine Y.cond (fun _=>?_) fun _=>Y.ret ⟨c3,zR,rfl⟩
      refine (eN c3 2 (by omega) (by omega)).bind fun e ⟨e1,e2,e3⟩=>?_
      obtain he | he:e.1=0∨e.1=1:=by omega
      · rw [he];exact Y.ret ⟨e3,(show StrsOk [(⟨#[57,52,48,49]⟩:ByteArray),(⟨#[57,53,48,50]⟩:ByteArray)] from ⟨by decide,by decide⟩),(show kV [(⟨#[57,52,48,49]⟩:ByteArray),(⟨#[57,53,48,50]⟩:ByteArray)]=true by kernel_rfl)⟩
      rw [he];exact Y.ret ⟨e3,(show StrsOk [(⟨#[57,53,48,50]⟩:ByteArray)] from ⟨by decide,by decide⟩),(show kV [(⟨#[57,53,48,50]⟩:ByteArray)]=true by kernel_rfl)⟩
    obtain ⟨l2,i2,ex⟩:=t
    dsimp only at t1 t2 t3 ⊢
    refine (eN t1 3 (by omega) (by omega)).bind fun e ⟨e1,e2,e3⟩=>?_
    refine Y.bind (P:=fun t:List Int×Int×Int=>SOK ⟨t.1,t.2.1⟩∧Fj t.2.2=true) (Y.cond (fun _=>(Fm e3).bind fun f ⟨f1,f2⟩=>Y.ret ⟨f2,f1⟩) fun _=>Y.ret ⟨e3,rfl⟩) fun u ⟨u1,u2⟩=>?_
    obtain ⟨l3,i3,tol⟩:=u
    dsimp only at u1 u2 ⊢
    refine Y.ret (yc hb hpos u1 t2 (by simp) rfl ⟨by simp,by simp⟩ ?_)
    rw [cS (r:=2*b.1) (by omega) (by omega),cS (by omega) (by omega),gQ]
    simp only [kp,jK,t3,u2]
    obtain hb0 | hb0 | hb0:b.1=0∨b.1=1∨b.1=2:=by omega
    · rw [hb0];rfl
    · rw [hb0];rfl
    rw [hb0];rfl
theorem rule_Y (d:Nat):∀ (n:Nat) (p:Zk) (but:Int),d<n→d≤10→SOK p→(but=0∨but=5∨but=6)→Y (eK n p but (d:Int)) (fun r=>Good r.1 (nW d)∧r.1.Kind≠but∧SOK r.2):=by
  induction d with
  | zero=>exact fun n p but h1 h2 hp hb=>wR hp hb h1 (by omega) (fun d h=>absurd h (by omega))
  | succ d ih=>exact fun n p but h1 h2 hp hb=>wR hp hb h1 (by omega) (fun d' h q but' hq hb'=>by
      obtain rfl:d'=d:=by omega
      exact ih _ q but' (by omega) (by omega) hq hb')
theorem Fs (x y z:ByteArray) (h1:iS x y=true) (h2:iS y z=true):iS x z=true:=by
 rw [p8] at *;exact det (List.lt_trans (of_decide_eq_true h1) (of_decide_eq_true h2))
theorem Ck (x:ByteArray):iS x x=false:=by rw [p8];exact bI (List.lt_irrefl _)
theorem lA:∀ l:List ByteArray,kz iS l=true↔l.Pairwise (fun a b=>iS a b=true)
 | []=>by simp [kz]
 | [a]=>by simp [kz]
 | a::b::l=>by
  rw [kz,Bool.and_eq_true,lA (b::l)]
  constructor
  ·rintro ⟨h1,h2⟩
   refine List.pairwise_cons.2 ⟨fun c hc=>?_,h2⟩
   rcases List.mem_cons.1 hc with rfl | hc
   ·exact h1
   exact Fs _ _ _ h1 ((List.pairwise_cons.1 h2).1 c hc)
  intro h;obtain ⟨h1,h2⟩:=List.pairwise_cons.1 h;exact ⟨h1 b (by simp),h2⟩
theorem oN {α:Type} {l C:List α} {v:Nat} (h:l.Sublist (C.take v)) (hv:v<C.length):(l++[C[v]]).Sublist (C.take (v+1))∧l.Sublist (C.take (v+1)):=by
 have e:C.take (v+1)=C.take v++[C[v]]:=by rw [List.take_add_one,List.getElem?_eq_getElem hv];rfl
 rw [e]
 exact ⟨h.append (List.Sublist.refl _),h.trans (List.sublist_append_left _ _)⟩
def C6:List ByteArray:=[(⟨#[65,65]⟩:ByteArray),(⟨#[66,66]⟩:ByteArray),(⟨#[67,67]⟩:ByteArray),(⟨#[68,68]⟩:ByteArray),(⟨#[69,69]⟩:ByteArray),(⟨#[70,70]⟩:ByteArray)]
def P5:List ByteArray:=[(⟨#[57,52]⟩:ByteArray),(⟨#[57,52,48,49]⟩:ByteArray),(⟨#[57,52,48,49,48,50]⟩:ByteArray),(⟨#[57,53]⟩:ByteArray),(⟨#[57,53,48,50]⟩:ByteArray)]
theorem C6_ok:C6.all qS=true∧kz iS C6=true∧(C6.all fun s=>decide (s.size≤100))=true:=⟨by kernel_rfl,by kernel_rfl,by kernel_rfl⟩
theorem P5_ok:P5.all Ci=true∧kz iS P5=true∧(P5.all fun s=>decide (s.size≤100))=true:=⟨by kernel_rfl,by kernel_rfl,by kernel_rfl⟩
structure MA (i:Nat) (a:Zb):Prop where
 id:a.ID=2+5*(i:Int)
 kind:1≤a.Kind∧a.Kind≤3
 par:a.Parties.Sublist C6
 pre:(a.Rules.map (·.Prefix)).Sublist P5
 good:∀ x∈a.Rules,Good x.Rule (nW 1)
 ne:a.Rules≠[]
structure MAs (l:List Zb):Prop where
 len:1≤l.length∧l.length≤4
 all:∀ (i:Nat) (a:Zb),l[i]?=some a→MA i a
theorem P5_len {a:Zb} (h:(a.Rules.map (·.Prefix)).Sublist P5):a.Rules.length≤5:=by have:=h.length_le;simpa [P5] using this
theorem MA.strs {i:Nat} {a:Zb} (h:MA i a):StrsOk a.Parties:=by
 refine ⟨?_,fun s hs=>?_⟩
 ·have:=h.par.length_le;have h6:C6.length=6:=rfl;omega
 have:=of_decide_eq_true (List.all_eq_true.1 C6_ok.2.2 s (h.par.subset hs));omega
theorem MA.aok {i:Nat} {a:Zb} (h:MA i a):AOk a:=by
 refine ⟨h.strs,by have:=P5_len h.pre;omega,fun x hx=>?_⟩
 have hp:=of_decide_eq_true (List.all_eq_true.1 P5_ok.2.2 x.Prefix (h.pre.subset (List.mem_map_of_mem hx)))
 have hg:=h.good x hx
 exact ⟨by omega,hg.ok,by have h1:=oL x.Rule;have h2:=hg.size;simp only [nW] at h2;omega⟩
theorem MAs.ok {l:List Zb} (h:MAs l):ASOk l:=⟨by have:=h.len;omega,fun a ha=>by
 obtain ⟨i,hi,rfl⟩:=List.getElem_of_mem ha;exact (h.all i _ (List.getElem?_eq_getElem hi)).aok⟩
theorem MA.parties {i:Nat} {a:Zb} (h:MA i a):kq a.Parties=true:=by
 unfold kq
 rw [Bool.and_eq_true]
 refine ⟨List.all_eq_true.2 fun s hs=>List.all_eq_true.1 C6_ok.1 s (h.par.subset hs),?_⟩
 rw [lA];exact List.Pairwise.sublist h.par ((lA _).1 C6_ok.2.1)
theorem MA.rulesE {i:Nat} {a:Zb} (h:MA i a):rulesE a.Rules=0:=by
 have:cu (nV a.Rules) a.Rules 0=none:=by
  rw [mD]
  intro k x hx
  obtain ⟨hk,rfl⟩:=List.getElem?_eq_some_iff.1 hx
  have hmem:a.Rules[k]∈a.Rules:=List.getElem_mem hk
  have h1:=List.all_eq_true.1 P5_ok.1 _ (h.pre.subset (List.mem_map_of_mem hmem))
  have hg:=h.good _ hmem
  have h2:lQ a.Rules[k].Rule=0:=(kW _).2 ⟨by have:=hg.size;simp only [nW] at this;omega,hg.valid⟩
  unfold nV
  rw [Nat.zero_add,h1,h2]
  have hpw:=List.Pairwise.sublist h.pre ((lA _).1 P5_ok.2.1)
  by_cases h0:0<k
  ·rw [fc (show k - 1<a.Rules.length by omega)]
   have:=(List.pairwise_iff_getElem.1 (List.pairwise_map.1 hpw)) (k - 1) k (by omega) hk (by omega)
   rw [this];simp
  simp [h0]
 unfold SX.rulesE;rw [this];rfl
theorem MAs.valid {l:List Zb} (h:MAs l):Dl l=0:=by
 have:cu (ya l) l 0=none:=by
  rw [mD]
  intro k x hx
  obtain ⟨hk,rfl⟩:=List.getElem?_eq_some_iff.1 hx
  have hm:=h.all k _ hx
  have hl:=h.len
  unfold ya
  rw [Nat.zero_add,hm.parties,hm.rulesE]
  have i1:(decide (l[k].ID<1)||decide (1000<l[k].ID)||decide (l[k].Kind<1)||decide (3<l[k].Kind))=false:=by
   have e1:=hm.id;have e2:=hm.kind
   rw [bI (by omega),bI (by omega),bI (by omega),bI (by omega)];rfl
  have i2:(decide (12<l[k].Parties.length)||decide (12<l[k].Rules.length))=false:=by
   have e1:=hm.par.length_le;have e2:=P5_len hm.pre;have h6:C6.length=6:=rfl
   rw [bI (by omega),bI (by omega)];rfl
  rw [i1,i2]
  by_cases h0:0<k
  ·rw [fc (show k - 1<l.length by omega)]
   have hm2:=h.all (k - 1) _ (List.getElem?_eq_getElem (by omega))
   have e1:=hm.id;have e2:=hm2.id
   rw [bI (show ¬ l[k].ID≤(l[k-1]'(by omega)).ID by omega)];simp
  simp [h0]
 unfold Dl
 rw [det (by have:=h.len;omega),this];rfl
theorem rW:gO=some C6:=rfl
def bitI (m:Int) (v:Int):Bool:=dZ .i64 (cK .i64 m v) 1 == 1
theorem Ft:((List.range 31).all fun m=>(List.range 5).any fun v=>bitI ((m+1:Nat):Int) (v:Int))=true:=by kernel_rfl
theorem has_bit {m:Int} (h1:1≤m) (h2:m≤31):∃ v:Nat,v<5∧bitI m (v:Int)=true:=by
 have:=List.all_eq_true.1 Ft (m.toNat - 1) (List.mem_range.2 (by omega))
 obtain ⟨v,hv,h⟩:=List.any_eq_true.1 this
 rw [show ((m.toNat - 1+1:Nat):Int)=m by omega] at h
 exact ⟨v,List.mem_range.1 hv,h⟩
theorem oO (v:Nat):ln (v:Int)=some ():=by unfold ln;rw [if_pos (by omega)]
theorem Dm {c:Int→Bool}:Y (aO (S:=Int×(List ByteArray)) (T:=((List ByteArray))) (fun (v22,l24)=>cond (decide (v22<6)) (Option.bind (Option.bind (ln v22) (fun _=>cond (c v22) (Option.bind (gO) (fun x44=>Option.bind (idx x44 v22) (fun m45=>Option.bind (app 16 l24 [m45]) (fun l48=>some l48)))) (some l24))) (fun l40=>some (.inl ((IntKind.i64.wrap (v22+1)),l40)))) (some (.inr l24))) FUEL (0,([]:List ByteArray))) (fun l=>l.Sublist C6):=by
 refine Y.loop (fun s=>∃ v:Nat,s.1=(v:Int)∧v≤6∧s.2.Sublist (C6.take v)) (fun s=>(6 - s.1).toNat) ⟨0,rfl,by omega,List.Sublist.refl _⟩ (by dsimp only;omega) fun s hs=>?_
 obtain ⟨i,l⟩:=s
 obtain ⟨v,rfl,h1,h2⟩:=hs
 dsimp only at h2 ⊢
 have hlen:l.length≤6:=by have:=h2.length_le;have h6:C6.length=6:=rfl;rw [List.length_take] at this;omega
 refine Y.cond (fun hc=>?_) (fun hc=>Y.ret (h2.trans (List.take_sublist _ _)))
 have hv:v<6:=by have:=of_decide_eq_true hc;omega
 have hs:=oN h2 (show v<C6.length from hv)
 refine Y.bind (P:=fun m:List ByteArray=>m.Sublist (C6.take (v+1))) (Y.eq (oO v) (Y.cond (fun _=>?_) fun _=>Y.ret hs.2)) fun m hm=>Y.ret ⟨⟨v+1,?_,by omega,hm⟩,?_⟩
 ·refine Y.eq rW (Y.idx rfl (show v<C6.length from hv) ?_)
  rw [cF (by simp;omega) (by simp;omega)];exact Y.ret hs.1
 ·show IntKind.i64.wrap ((v:Int)+1)=_;rw [cS (by omega) (by omega)];omega
 show (6 - IntKind.i64.wrap ((v:Int)+1)).toNat<(6 - (v:Int)).toNat;rw [cS (by omega) (by omega)];omega
theorem yd (p0:List Int):Y (ia p0) MAs:=by
 unfold ia
 refine (cut_Y p0 200 (by omega) (by omega)).bind fun x1 hx1=>?_
 refine (eN hx1 4 (by omega) (by omega)).bind fun x3 ⟨a1,a2,a3⟩=>?_
 rw [cS (r:=1+x3.1) (by omega) (by omega)]
 refine Y.bind (P:=MAs) ?_ fun l hl=>Y.ret hl
 refine Y.loop (fun s:List Zb×Int×List Int×Int=>(s.2.1=(s.1.length:Int)∧s.2.1≤1+x3.1)∧SOK ⟨s.2.2.1,s.2.2.2⟩∧∀ i a,s.1[i]?=some a→MA i a) (fun s=>(1+x3.1 - s.2.1).toNat) ⟨⟨rfl,by dsimp only;omega⟩,a3,by simp⟩ (by dsimp only;omega) fun s hs=>?_
 obtain ⟨l5,v8,l9,v10⟩:=s
 obtain ⟨⟨h1,h2⟩,h3,h4⟩:=hs
 dsimp only at h1 h2 h3 h4 ⊢
 refine Y.cond (fun hc=>?_) (fun hc=>Y.ret ⟨?_,h4⟩)
 rotate_left
 ·have hc:=of_decide_eq_false hc;omega
 have hc:=of_decide_eq_true hc
 refine (eN h3 3 (by omega) (by omega)).bind fun x19 ⟨b1,b2,b3⟩=>?_
 refine (eN b3 64 (by omega) (by omega)).bind fun x21 ⟨c1,c2,c3⟩=>?_
 refine (Dm (c:=fun v=>dZ .i64 (cK .i64 (qQ .i64 x21.1 3) v) 1 == 1)).bind fun l31 hl31=>?_
 refine Y.bind (P:=fun r:Int×Zk=>SOK r.2) (Y.gdp (fun _=>(eN c3 2 (by omega) (by omega)).mono fun r hr=>hr.2.2) fun _=>c3) fun x53 hx53=>?_
 refine Y.bind (P:=fun t:List Int×Int×List Zi=>SOK ⟨t.1,t.2.1⟩∧(t.2.2.map (·.Prefix)).Sublist P5∧(∀ x∈t.2.2,Good x.Rule (nW 1))∧t.2.2≠[]) ?_ fun t ⟨t1,t2,t3,t4⟩=>?_
 ·refine Y.cond (fun hc2=>?_) fun hc2=>?_
  ·simp only [Bool.and_eq_true,decide_eq_true_eq] at hc2
   obtain ⟨j,hj⟩:∃ j:Nat,v8 - 1=(j:Int):=⟨(v8 - 1).toNat,by omega⟩
   refine Y.idx (n:=j) (by rw [cS (by omega) (by omega)];exact hj) (show j<l5.length by omega) ?_
   have:=h4 j _ (List.getElem?_eq_getElem (by omega))
   exact Y.ret ⟨hx53,this.pre,this.good,this.ne⟩
  refine (eN hx53 31 (by omega) (by omega)).bind fun x64 ⟨d1,d2,d3⟩=>?_
  refine Y.bind (P:=fun t:List Int×Int×List Zi=>SOK ⟨t.1,t.2.1⟩∧(t.2.2.map (·.Prefix)).Sublist P5∧(∀ x∈t.2.2,Good x.Rule (nW 1))∧t.2.2≠[]) ?_ fun t ht=>Y.ret ht
  refine Y.loop (fun s:Int×List Int×Int×List Zi=>∃ v:Nat,s.1=(v:Int)∧v≤5∧SOK ⟨s.2.1,s.2.2.1⟩∧(s.2.2.2.map (·.Prefix)).Sublist (P5.take v)∧(∀ x∈s.2.2.2,Good x.Rule (nW 1))∧(s.2.2.2≠[]∨∀ u:Nat,u<v→bitI (1+x64.1) (u:Int)=false)) (fun s=>(5 - s.1).toNat) ⟨0,rfl,by omega,d3,List.Sublist.refl _,by simp,.inr (fun u hu=>absurd hu (Nat.not_lt_zero _))⟩ (by dsimp only;omega) fun s hs=>?_
  obtain ⟨i,l,k,m⟩:=s
  obtain ⟨v,rfl,e1,e2,e3,e4,e5⟩:=hs
  dsimp only at e2 e3 e4 e5 ⊢
  have hlen:m.length≤5:=by have:=e3.length_le;have h6:P5.length=5:=rfl;rw [List.length_take,List.length_map] at this;omega
  refine Y.cond (fun hc3=>?_) (fun hc3=>Y.ret ⟨e2,e3.trans (List.take_sublist _ _),e4,?_⟩)
  rotate_left
  ·have h5:v=5:=by have:=of_decide_eq_false hc3;omega
   rcases e5 with e5 | e5
   ·exact e5
   obtain ⟨u,hu,hb⟩:=has_bit (m:=1+x64.1) (by omega) (by omega)
   rw [e5 u (by omega)] at hb;cases hb
  have hv:v<5:=by have:=of_decide_eq_true hc3;omega
  have hs:=oN e3 (show v<P5.length from hv)
  refine Y.bind (P:=fun t:List Int×Int×List Zi=>SOK ⟨t.1,t.2.1⟩∧(t.2.2.map (·.Prefix)).Sublist (P5.take (v+1))∧(∀ x∈t.2.2,Good x.Rule (nW 1))∧(t.2.2≠[]∨∀ u:Nat,u<v+1→bitI (1+x64.1) (u:Int)=false)) (Y.eq (oO v) (Y.cond (fun _=>?_) fun hbit=>Y.ret ⟨e2,hs.2,e4,?_⟩)) fun t ⟨t1,t2,t3,t4⟩=>Y.ret ⟨⟨v+1,?_,by omega,t1,t2,t3,t4⟩,?_⟩
  ·refine Y.idx (xs:=P5) rfl (show v<P5.length from hv) ?_
   refine (rule_Y 1 FUEL ⟨l,k⟩ 0 (jY (by omega)) (by omega) e2 (.inl rfl)).bind fun r ⟨r1,r2,r3⟩=>?_
   rw [cF (by simp;omega) (by simp;omega)]
   refine Y.ret ⟨r3,by rw [List.map_append];exact hs.1,fun z hz=>?_,.inl (by simp)⟩
   rcases List.mem_append.1 hz with hz | hz
   ·exact e4 z hz
   rw [List.mem_singleton.1 hz];exact r1
  ·rcases e5 with e5 | e5
   ·exact .inl e5
   refine .inr fun u hu=>?_
   rcases Nat.lt_or_ge u v with h | h
   ·exact e5 u h
   obtain rfl:u=v:=by omega
   rw [cS (by omega) (by omega)] at hbit;exact hbit
  ·show IntKind.i64.wrap ((v:Int)+1)=_;rw [cS (by omega) (by omega)];omega
  show (5 - IntKind.i64.wrap ((v:Int)+1)).toNat<(5 - (v:Int)).toNat;rw [cS (by omega) (by omega)];omega
 obtain ⟨l55,v56,l58⟩:=t
 dsimp only at t1 t2 t3 ⊢
 rw [cF (by simp;omega) (by simp;omega),bc,cS (r:=v8+1) (by omega) (by omega),cS (r:=1+x19.1) (by omega) (by omega),cS (r:=5*v8) (by omega) (by omega),cS (by omega) (by omega)]
 refine Y.ret ⟨⟨⟨by simp;omega,by dsimp only;omega⟩,t1,fun i a ha=>?_⟩,by dsimp only;omega⟩
 rw [List.getElem?_append] at ha
 split at ha
 ·exact h4 i a ha
 rename_i hi
 have hi0:i - l5.length=0:=by have:=(List.getElem?_eq_some_iff.1 ha).1;simp at this;omega
 rw [hi0] at ha
 simp only [List.getElem?_cons_zero,eJ] at ha
 subst ha
 exact ⟨by dsimp only;omega,⟨by dsimp only;omega,by dsimp only;omega⟩,hl31,t2,t3,t4⟩
structure RawA (a:Zb):Prop where
 par:StrsOk a.Parties
 len:a.Rules.length≤140737488355328
 rules:∀ x∈a.Rules,x.Prefix.size≤140737488355328∧ROk x.Rule
theorem jA {α:Type} {b:Nat} {l:List α} (h:l.length≤1000000000) (hb:b≤1000):app b ([]:List α) l=some l:=by
 have:=Nat.mul_le_mul h hb
 exact cF (by simpa using (by omega:l.length*b≤140737488355328)) (by simp;omega)
def k0 (W:World):Kr:=⟨W,fun b=>b<W.heap.size⟩
theorem gD {t:Nat} {z:Value} {s b:Nat} (h:fX t=some (z,s,b)):Tryz.prog.cellsOf t=s∧Tryz.prog.bytesOf t=b:=by
 obtain ⟨i,h1,h2,h3,h4⟩:=qz h
 constructor
 ·simp [Program.cellsOf,h1,h3]
 simp [Program.bytesOf,h1,h4]
def Light {H:Type} (t:Nat) (d:DataW H):Prop:=∀ n∈d.weights Tryz.prog t,n≤reachBytes
theorem Fu {H:Type} (d:DataW H):1≤Rows.uptoBulk d:=by
 cases d with
 | lit l=>cases l <;> simp [Rows.uptoBulk]
 | nil=>simp [Rows.uptoBulk]
 | ptr d=>simp [Rows.uptoBulk]
 | slice elems spare=>simp [Rows.uptoBulk]
 | agg parts=>simp [Rows.uptoBulk]
 | iface t d=>simp [Rows.uptoBulk]
 | map entries=>simp [Rows.uptoBulk]
 | held h=>simp [Rows.uptoBulk]
theorem Dn {H:Type} {d:DataW H} {l:List (DataW H)} (h:d∈l):Rows.uptoBulk d≤Rows.uptoBulkAll l:=by
 induction l with
 | nil=>cases h
 | cons x r ih =>
  simp only [Rows.uptoBulkAll]
  cases List.mem_cons.1 h with
  | inl e=>subst e;omega
  | inr e=>have:=ih e;omega
theorem Fv {H:Type} (l:List (DataW H)):l.length≤Rows.uptoBulkAll l:=by
 induction l with
 | nil=>simp [Rows.uptoBulkAll]
 | cons x r ih=>have:=Fu x;simp only [Rows.uptoBulkAll,List.length_cons];omega
def Opens {H:Type} (eh:TypeId×Value→H) {α:Type} (n:Nat) (t:Nat) (e:α→List PV) (B:α→Prop):Prop :=
 ∀ (W:World) (fuel:Nat) (cs:List Value) (x:DataW H×List MemPlace),DataW.trod eh Tryz.prog W 0 (fun _=>true) true fuel t cs=some x→Light t x.1→Rows.uptoBulk x.1≤n→∃ m,Rps (k0 W) (e m) cs∧One cs∧B m
section
variable {H:Type} {eh:TypeId×Value→H} {nb:Nat}
theorem one1 {v:Value} (h:v.oneCell'=true):One [v]:=fun u hu=>by rw [List.mem_singleton.1 hu];exact h
theorem Do {t:Nat} {k:IntKind} (h:eP t=some (.int k)):Opens eh nb t (fun x:Int=>[.v (.int k x)]) (fun _=>True):=fun W fuel cs x hx _ _=>by
 obtain ⟨n,rfl,_,_⟩:=DataW.trod_int (bE h) hx
 exact ⟨n,.cons (.v rfl) .nil,one1 rfl,trivial⟩
theorem qf {e:Nat}:∀ {l:List (DataW H)} {d:DataW H} {n:Nat},d∈l→n∈d.weights Tryz.prog e→n∈DataW.weightsAll Tryz.prog e l
 | d'::l,d,n,hd,hn=>by
  simp only [DataW.weightsAll,List.mem_append]
  rcases List.mem_cons.1 hd with rfl | hd
  ·exact .inl hn
  exact .inr (qf hd hn)
theorem Cl {α β:Type} {R:α→β→Prop}:∀ (l:List β),(∀ b∈l,∃ a,R a b)→∃ la:List α,la.length=l.length∧∀ (i:Nat) (b:β),l[i]?=some b→∃ a,la[i]?=some a∧R a b
 | [],_=>⟨[],rfl,fun i b h=>by simp at h⟩
 | b::l,h=>by
  obtain ⟨a,ha⟩:=h b (by simp)
  obtain ⟨la,h1,h2⟩:=Cl l fun b hb=>h b (by simp [hb])
  refine ⟨a::la,by simp [h1],fun i b' hb=>?_⟩
  cases i with
  | zero=>simp only [List.getElem?_cons_zero,eJ] at hb;subst hb;exact ⟨a,rfl,ha⟩
  | succ i=>simp only [List.getElem?_cons_succ] at hb ⊢;exact h2 i b' hb
def OpensN {H:Type} (eh:TypeId×Value→H) {α:Type} (N n:Nat) (t:Nat) (e:α→List PV) (B:α→Prop):Prop :=
 ∀ (W:World) (fuel:Nat) (cs:List Value) (x:DataW H×List MemPlace),fuel<N→DataW.trod eh Tryz.prog W 0 (fun _=>true) true fuel t cs=some x→Light t x.1→Rows.uptoBulk x.1≤n→∃ m,Rps (k0 W) (e m) cs∧One cs∧B m
theorem ye {α:Type} {N t E sz by':Nat} {z:Value} {e:α→List PV} {B:α→Prop} (hu:eP t=some (.slice E)) (hi:fX E=some (z,sz,by')) (h0:Nat.blt 0 sz=true) (hb0:Nat.blt 0 by'=true) (hE:OpensN eh N nb E e B):OpensN eh (N+1) nb t (eL e) (fun l=>l.length*by'≤140737488355328∧l.length≤nb∧∀ x∈l,B x):=fun W fuel cs x hfu hx hw hbk=>by
 obtain ⟨hcz,hby⟩:=gD hi
 have hsz:0<sz:=by have:=h0;simp [Nat.blt] at this;omega
 have hbp:0<by':=by have:=hb0;simp [Nat.blt] at this;omega
 rcases DataW.trod_slice (bE hu) hx with ⟨rfl,_⟩ | ⟨a,len,cap,elems,rest,n,rfl,rfl,rfl,_,hl,hm,hlen,hel,_,_⟩
 ·exact ⟨[],.cons (.slc (sz:=sz) (css:=[]) Sl.nil (Nat.zero_le _) (fun _ h=>by cases h) .nil) .nil,one1 rfl,by simp,Nat.zero_le _,fun _ h=>by cases h⟩
 rw [hcz] at hel
 have hwl:(elems.length+rest.length)*by'≤reachBytes:=by
  have:=hw ((elems.length+rest.length)*by') (by simp only [DataW.weights,bE hu,hby,List.length_map];exact List.mem_cons_self)
  exact this
 have hn:len≤140737488355328:=by
  unfold reachBytes at hwl
  have:elems.length*1≤(elems.length+rest.length)*by':=Nat.mul_le_mul (by omega) (by omega)
  omega
 have hcells:∀ i∈List.range len,∃ p:α×List Value,W.cells? 0 (a.add (i*sz)) sz=some p.2∧Rps (k0 W) (e p.1) p.2∧One p.2∧B p.1:=fun i hi'=>by
  have hi':i<len:=List.mem_range.1 hi'
  have h1:=hel i hi'
  have hlt:i<elems.length:=by omega
  rw [List.getElem?_eq_getElem hlt] at h1
  obtain ⟨cs,h2,h3⟩:=Option.bind_eq_some_iff.1 h1
  obtain ⟨m,k1,k2,k3⟩:=hE W n cs _ (by omega) h3 (fun q hq=>hw q (by
   simp only [DataW.weights,bE hu]
   exact List.mem_cons_of_mem _ (List.mem_append.2 (.inl (qf (List.mem_map.2 ⟨_,List.getElem_mem hlt,rfl⟩) hq))))) (by
   have h9:=Dn (l:=elems.map (·.1)) (List.mem_map.2 ⟨_,List.getElem_mem hlt,rfl⟩)
   simp only [Rows.uptoBulk] at hbk
   omega)
  exact ⟨(m,cs),h2,k1,k2,k3⟩
 obtain ⟨ps,g1,g2⟩:=Cl (R:=fun (p:α×List Value) i=>W.cells? 0 (a.add (i*sz)) sz=some p.2∧Rps (k0 W) (e p.1) p.2∧One p.2∧B p.1) (List.range len) hcells
 rw [List.length_range] at g1
 have g3:∀ (i:Nat) (p:α×List Value),ps[i]?=some p→W.cells? 0 (a.add (i*sz)) sz=some p.2∧Rps (k0 W) (e p.1) p.2∧One p.2∧B p.1:=fun i p hp=>by
  have hlt:=(List.getElem?_eq_some_iff.1 hp).1
  obtain ⟨p',h1,h2⟩:=g2 i i (by rw [List.getElem?_range (by omega)])
  rw [hp] at h1;injection h1 with h1;subst h1;exact h2
 have hps:(ps.map (·.1)).length=len:=by simp [g1]
 refine ⟨ps.map (·.1),?_,one1 rfl,?_,?_,?_⟩
 rotate_left
 ·rw [hps]
  have h9:len*by'≤(elems.length+rest.length)*by':=Nat.mul_le_mul_right _ (by omega)
  unfold reachBytes at hwl
  omega
 ·rw [hps]
  have h9:=Fv (elems.map (·.1))
  rw [List.length_map] at h9
  simp only [Rows.uptoBulk] at hbk
  omega
 ·intro x hx
  obtain ⟨p,hp,rfl⟩:=List.mem_map.1 hx
  obtain ⟨i,hi',rfl⟩:=List.getElem_of_mem hp
  exact (g3 i _ (List.getElem?_eq_getElem hi')).2.2.2
 unfold eL;rw [hps]
 refine .cons (.slc (sz:=sz) (css:=ps.map (·.2)) ⟨by simp [g1],hl,?_,?_⟩ hn ?_ ?_) .nil
 ·intro c hc
  obtain ⟨p,hp,rfl⟩:=List.mem_map.1 hc
  obtain ⟨i,hi',rfl⟩:=List.getElem_of_mem hp
  exact (World.cells?_some (g3 i _ (List.getElem?_eq_getElem hi')).1).2.1
 ·intro hpos
  have hp0:0<ps.length:=by omega
  have hc0:=(World.cells?_some (g3 0 _ (List.getElem?_eq_getElem hp0)).1)
  have hread:=hc0.2.2 0 hsz
  have hspot:a.spot=none:=by
   have hlt:0<(ps[0]).2.length:=by rw [hc0.2.1];exact hsz
   rw [List.getElem?_eq_getElem hlt] at hread
   unfold World.cell? at hread
   cases hs:a.spot with
   | none=>rfl
   | some q =>
    have hsp:((a.add (0*sz)).add 0).spot.isSome=true:=by simp [Addr.add,hs]
    split at hread
    ·rw [if_pos hsp] at hread;cases hread
    cases hread
  obtain ⟨ab,ao,asp⟩:=a
  simp only at hspot;subst hspot
  refine ⟨ab,ao,rfl,fun j c hj=>?_⟩
  rw [List.getElem?_map] at hj
  cases hpj:ps[j]? with
  | none=>rw [hpj] at hj;cases hj
  | some p =>
   rw [hpj] at hj;simp only [Option.map_some,eJ] at hj;subst hj
   have hcj:=World.cells?_some (g3 j p hpj).1
   refine ⟨?_,fun i u hu'=>?_⟩
   ·have h1:=hcj.2.2 0 hsz
    have hlt:0<p.2.length:=by rw [hcj.2.1];exact hsz
    rw [List.getElem?_eq_getElem hlt,hI,hI] at h1
    unfold World.cell? at h1
    split at h1
    ·rename_i heq
     have:=om heq
     exact this
    cases h1
   have hlt:i<sz:=by have:=(List.getElem?_eq_some_iff.1 hu').1;omega
   have h1:=hcj.2.2 i hlt
   rw [hI,hI] at h1
   rw [← hu'];exact h1
 ·intro c hc
  obtain ⟨p,hp,rfl⟩:=List.mem_map.1 hc
  obtain ⟨i,hi',rfl⟩:=List.getElem_of_mem hp
  exact (g3 i _ (List.getElem?_eq_getElem hi')).2.2.1
 have:∀ (l:List (α×List Value)),(∀ p∈l,Rps (k0 W) (e p.1) p.2)→Rpss (k0 W) ((l.map (·.1)).map e) (l.map (·.2)):=fun l=>by
  induction l with
  | nil=>exact fun _=>.nil
  | cons p l ih=>exact fun h=>.cons (h p (by simp)) (ih fun q hq=>h q (by simp [hq]))
 refine this ps fun p hp=>?_
 obtain ⟨i,hi',rfl⟩:=List.getElem_of_mem hp
 exact (g3 i _ (List.getElem?_eq_getElem hi')).2.1
theorem qg {α:Type} {t E sz by':Nat} {z:Value} {e:α→List PV} {B:α→Prop} (hu:eP t=some (.slice E)) (hi:fX E=some (z,sz,by')) (h0:Nat.blt 0 sz=true) (hb0:Nat.blt 0 by'=true) (hE:Opens eh nb E e B):Opens eh nb t (eL e) (fun l=>l.length*by'≤140737488355328∧l.length≤nb∧∀ x∈l,B x):=fun W fuel cs x hx hw =>
 ye (N:=fuel) hu hi h0 hb0 (fun W' f' cs' x' _=>hE W' f' cs' x') W fuel cs x (Nat.lt_succ_self _) hx hw
theorem qi {κ:Kr} {cs:List Value} {off sz:Nat} {ps qs:List PV} (h:Rps κ ps ((cs.drop off).take sz)) (h2:Rps κ qs (cs.drop (off+sz))):Rps κ (ps++qs) (cs.drop off):=by
 have e:cs.drop off=(cs.drop off).take sz++cs.drop (off+sz):=by rw [← List.drop_drop,List.take_append_drop]
 rw [e];exact h.app h2
theorem qj {cs:List Value} {off sz:Nat} (h:One ((cs.drop off).take sz)) (h2:One (cs.drop (off+sz))):One (cs.drop off):=by
 have e:cs.drop off=(cs.drop off).take sz++cs.drop (off+sz):=by rw [← List.drop_drop,List.take_append_drop]
 rw [e];exact fun u hu=>(List.mem_append.1 hu).elim (h u) (h2 u)
theorem Cm {κ:Kr} {cs:List Value} {off:Nat} (h:cs.length=off):Rps κ [] (cs.drop off):=by rw [List.drop_of_length_le (by omega)];exact .nil
theorem Cn {cs:List Value} {off:Nat} (h:cs.length=off):One (cs.drop off):=by rw [List.drop_of_length_le (by omega)];exact fun _ h=>by cases h
end
end SX
end Go.Proofs.YtgmbmepakpcpaaaGreatDoor
set_option maxRecDepth 100000
namespace Go.Proofs.YtgmbmepakpcpaaaGreatDoor
open Go Go.ChangeShapes Go.WideShapes Go.RowKit
namespace SX
theorem own_ok:ownKnob Tryz.prog.godebug=none:=by kernel_rfl
theorem Bd:laidOutB Tryz.prog=true:=by kernel_rfl
def wT:List (String×DataW Unit):=[("unicode/utf8.acceptRanges",Rows.laid_unicode_utf8_acceptRanges),("customs/nomenclature.lengths",Rows.laid_customs_nomenclature_lengths),("unicode/utf8.first",Rows.laid_unicode_utf8_first)]
mutual
def Be:DataW Unit→List Value
 | .lit (.int k n)=>[.int k n]
 | .agg ds=>Co ds
 | _=>[]
def Co:List (DataW Unit)→List Value
 | []=>[]
 | d::r=>Be d++Co r
end
def c_acc:Array Value:=(Be Rows.laid_unicode_utf8_acceptRanges).toArray
def zS:Array Value:=#[.int .i64 2,.int .i64 4,.int .i64 6,.int .i64 8]
def Cp:Array Value:=(Be Rows.laid_unicode_utf8_first).toArray
def Fw (h:Array Obj) (g:Nat) (cs:Array Value):Array Obj:=h.modify g fun | .cells _ t frozen=>.cells cs t frozen | o=>o
noncomputable def laidWorld (os:Os):World :=
 { World.holding Tryz.prog os ⟨#[],#[],[]⟩ with heap:=Fw (Fw (Fw (World.holding Tryz.prog os ⟨#[],#[],[]⟩).heap 4 c_acc) 0 zS) 3 Cp }
theorem vc:(wT.filter fun x=>x.2.handleName?.isSome)=[]:=by kernel_rfl
def Fx (w:World):MemPlace→Bool
 | .cell b off=>match w.heap[b]? with
  | some (.cells c _ (0,0))=>match c[off]? with | some (.iface _ _)=>false | _=>true
  | _=>false
 | _=>true
theorem Bf {w:World} {ps:List MemPlace} (h:ps.all (Fx w)=true):∀ b off,MemPlace.cell b off∈ps→(∃ c t,w.heap[b]?=some (.cells c t (0,0)))∧∀ u v,w.cell? ⟨b,off,none⟩=some (.iface u v)→Value.okWide Tryz.prog w .any 0 u v:=fun b off hm=>by
 have:=List.all_eq_true.1 h _ hm
 unfold Fx at this
 split at this
 ·rename_i b' off' e
  injection e with e1 e2;subst e1;subst e2
  split at this
  ·rename_i c t heq
   refine ⟨⟨c,t,heq⟩,fun u v hc=>?_⟩
   simp only [World.cell?,heq] at hc
   split at this
   ·cases this
   rename_i hno;exact absurd hc (by simpa using hno u v)
  cases this
 rename_i hno;exact absurd rfl (hno b off)
theorem wc (os:Os) (args:Array Value):laidMetH Tryz.prog wT ((laidWorld os).forCall (fun _ _=>0) ⟨#[],args,[]⟩).memory:=by
 unfold laidMetH
 rw [vc]
 refine ⟨_,⟨4,275,c_acc,8,[],_,by kernel_rfl,by kernel_rfl,by kernel_rfl,by kernel_rfl,⟨0,213,zS,8,[],_,by kernel_rfl,by kernel_rfl,by kernel_rfl,by kernel_rfl,⟨3,272,Cp,8,[],_,by kernel_rfl,by kernel_rfl,by kernel_rfl,by kernel_rfl,rfl,rfl⟩,rfl⟩,rfl⟩,?_,?_⟩
 ·exact of_decide_eq_true (by kernel_rfl)
 exact Bf (by kernel_rfl)
theorem nc {H:Type} {eh:TypeId×Value→H} {P:Program} {w:World} {base:Nat} {sp:Nat→Bool} {held:Bool} {fuel:Nat} {t:TypeId} {k:IntKind} {c:Value} {y:DataW H×List MemPlace} (ht:P.underlying t=some (.int k)) (h:DataW.trod eh P w base sp held fuel t [c]=some y):∃ n,c=.int k n∧y=(.lit (.int k n),[]):=by
 obtain ⟨n,h1,h2,_⟩:=DataW.trod_int ht h
 injection h1 with h1 _
 exact ⟨n,h1,h2⟩
theorem zT {W:World} (h:laidMetH Tryz.prog wT W):GOK (k0 W):=by
 unfold laidMetH at h
 rw [vc] at h
 obtain ⟨ps,⟨_,_,_,_,_,_,_,_,_,_,⟨g,t,cs,fuel,p,q,hg,ht,hvar,hd,_,_⟩,_⟩,_⟩:=h
 obtain rfl:=Option.some.inj ((show Tryz.prog.globalNamed "customs/nomenclature.lengths" = some 0 by kernel_rfl).symm.trans hg)
 obtain rfl:=Option.some.inj ((show (Tryz.prog.globals[0]?).map (·.type)=some 213 by kernel_rfl).symm.trans ht)
 have hcs:cs=zS:=by
  obtain ⟨l⟩:=cs
  cases fuel with
  | zero=>simp [DataW.trod] at hd
  | succ fuel =>
   have hc1:=(gD (t:=213) rfl).1
   have hc2:=(gD (t:=3) rfl).1
   have hu1:Tryz.prog.underlying 213=some (.array 4 3):=bE rfl
   simp only [DataW.trod,hu1,hc1,hc2] at hd
   split at hd
   ·rename_i hl
    obtain ⟨c0,c1,c2,c3,rfl⟩:∃ c0 c1 c2 c3,l=[c0,c1,c2,c3]:=by
     match l,hl with
     | [a,b,c,d],_=>exact ⟨a,b,c,d,rfl⟩
    have e:List.range 4=[0,1,2,3]:=rfl
    rw [e] at hd
    simp only [Option.map_eq_some_iff,List.mapM_cons,List.mapM_nil,Option.bind_eq_bind,Option.bind_eq_some_iff,Option.pure_def,eJ] at hd
    obtain ⟨xs,⟨y0,h0,_,⟨y1,h1,_,⟨y2,h2,_,⟨y3,h3,_,rfl,rfl⟩,rfl⟩,rfl⟩,rfl⟩,hx⟩:=hd
    have hui:Tryz.prog.underlying 3=some (.int .i64):=bE rfl
    obtain ⟨n0,rfl,rfl⟩:=nc hui h0
    obtain ⟨n1,rfl,rfl⟩:=nc hui h1
    obtain ⟨n2,rfl,rfl⟩:=nc hui h2
    obtain ⟨n3,rfl,rfl⟩:=nc hui h3
    simp [Rows.laid_customs_nomenclature_lengths] at hx
    obtain ⟨⟨rfl,rfl,rfl,rfl⟩,_⟩:=hx
    rfl
   cases hd
 subst hcs
 have hcell:∀ j u,zS[j]?=some u→W.cell? ⟨0,j,none⟩=some u:=fun j u hu=>by
  have:=World.var?_cell hg hvar j
  rw [this];exact hu
 refine ⟨?_,fun j u hu=>?_⟩
 ·have h0:=hcell 0 _ rfl
  unfold World.cell? at h0
  split at h0
  ·rename_i heq;exact om heq
  cases h0
 rw [Nat.zero_add];exact hcell j u (by simpa [zS] using hu)
end SX
end Go.Proofs.YtgmbmepakpcpaaaGreatDoor
set_option maxRecDepth 100000
namespace Go.Proofs.YtgmbmepakpcpaaaGreatDoor
open Go Go.ChangeShapes Go.WideShapes Go.RowKit
namespace SX
theorem inv0 (W:World):Zp ⟨k0 W,[]⟩ [] (k0 W):=⟨.refl _ _,fun _ h=>h,(fun _ h=>by cases h),(fun _ h=>by cases h),.nil⟩
theorem Fy {W:World} {ρ:List Res} {κ:Kr} (h:Zp ⟨k0 W,[]⟩ ρ κ):Below W.heap.size W κ.w:=⟨h.le.os,h.le.tape,h.le.output,h.le.kle.size,fun k hk=>h.le.same k hk (by simp)⟩
section
variable {H:Type} {eh:TypeId×Value→H}
theorem wd {W W':World} (hb:Below W.heap.size W W') {ts:List TypeId} (hr:∀ t∈ts,Tryz.prog.readableRec t=true∧t<Tryz.prog.types.size):∀ {vs:List Value} {ds:List (DataW H)} {ps:List MemPlace},DataW.TrodAll eh Tryz.prog W 0 (fun _=>true) true ts vs ds ps→(∀ p∈ps,p.block<W.heap.size)→DataW.TrodAll eh Tryz.prog W' 0 (fun b=>decide (b<W.heap.size)) true ts vs ds ps:=by
 induction ts with
 | nil=>intro vs ds ps h _;cases vs <;> cases ds <;> first | exact h | cases h
 | cons t ts ih =>
  intro vs ds ps h hlt
  cases vs with
  | nil=>cases h
  | cons v vs =>
   cases ds with
   | nil=>cases h
   | cons d ds =>
    obtain ⟨p,q,h1,h2,e⟩:=h
    have ht:=hr t (by simp)
    exact ⟨p,q,Below.trod Bd ht.1 ht.2 h1 hb (fun x hx=>hlt x (by rw [e];simp [hx])),ih (fun u hu=>hr u (by simp [hu])) h2 (fun x hx=>hlt x (by rw [e];simp [hx])),e⟩
theorem readB {ts:List TypeId} (h:(ts.all fun t=>Tryz.prog.readableRec t&&Nat.blt t Tryz.prog.types.size)=true):∀ t∈ts,Tryz.prog.readableRec t=true∧t<Tryz.prog.types.size:=fun t ht=>by
 have:=List.all_eq_true.1 h t ht
 rw [Bool.and_eq_true] at this
 exact ⟨this.1,by have h2:=this.2;exact Nat.le_of_ble_eq_true h2⟩
theorem Fz {f tb:Nat} {fn:Func} {s:ChangeSpec} {W:World} {args:Array Value} {ds gs:List (DataW H)} {before:List MemPlace} {pargs:List PV}
    (hrd:∀ t∈fn.params.toList,Tryz.prog.readableRec t=true∧t<Tryz.prog.types.size) (hres:fn.resultTypes=#[tb]) (hub:Tryz.prog.underlying tb=some .bool) (hvars:s.vars=[])
    (hspec:s.fn H ds={ results:=[.lit (.bool true)],args:=ds }) (hW:DataW.Whole eh Tryz.prog fn.params.toList s.vars false W args.toList ds gs before) (hG:GOK (k0 W)) (hargs:Rps (k0 W) pargs args.toList) (hPF:PF f pargs (.v (.bool true))) :
    Calls Tryz.prog f args W fun e W'=>∃ v,e=.returned v∧s.post eh Tryz.prog fn false true false false W args v W':=by
  have hc:=(hPF (k0 W) args.toList hG hargs).2 (inv0 W)
  have e:args.toList.toArray=args:=by simp
  rw [e] at hc
  refine Calls.mono hc fun en W' ⟨v,ρ',κ',h1,h2,h3,h4,h5⟩=>⟨v,h1,?_⟩
  subst h2
  have hv:=h5.val
  subst hv
  have hb:=Fy h3
  have hW':=hW
  obtain ⟨p,q,hA,hV,rfl,hfz,hnd⟩:=hW
  rw [hvars] at hV
  obtain ⟨rfl,rfl⟩:gs=[]∧q=[]:=by
    cases gs with
    | nil=>exact ⟨rfl,hV⟩
    | cons g r=>exact absurd hV (by intro h;cases h)
  refine ⟨ds,[],_,[],p,[],hW',?_,?_,?_,hb.frame _,fun h=>by cases h⟩
  · rw [List.append_nil,hspec,hres];exact trodAll_mk1 (shut_bool hub true)
  · rw [List.append_nil,hspec];exact wd hb hrd hA (DataW.TrodAll.lt hA)
  rw [hvars,List.append_nil,hspec];rfl
theorem trodAll_cons {W:World} {t:TypeId} {ts:List TypeId} {vs:List Value} {ds:List (DataW H)} {ps:List MemPlace} (h:DataW.TrodAll eh Tryz.prog W 0 (fun _=>true) true (t::ts) vs ds ps):∃ v vs' d ds' p q,vs=v::vs'∧ds=d::ds'∧DataW.Trod eh Tryz.prog W 0 (fun _=>true) true t v d p∧DataW.TrodAll eh Tryz.prog W 0 (fun _=>true) true ts vs' ds' q:=by
 cases vs with
 | nil=>cases h
 | cons v vs =>
  cases ds with
  | nil=>cases h
  | cons d ds=>obtain ⟨p,q,h1,h2,_⟩:=h;exact ⟨v,vs,d,ds,p,q,rfl,rfl,h1,h2⟩
theorem trodAll_nil {W:World} {vs:List Value} {ds:List (DataW H)} {ps:List MemPlace} (h:DataW.TrodAll eh Tryz.prog W 0 (fun _=>true) true [] vs ds ps):vs=[]∧ds=[]:=by
 cases vs <;> cases ds <;> first | exact ⟨rfl,rfl⟩ | cases h
theorem zU {l:Array TypeId} (h:(l.toList.all fun t => !Tryz.prog.wantsStandIn t)=true) {j:Nat} {t:TypeId} (ht:l[j]?=some t):Tryz.prog.wantsStandIn t=false:=by
 have:=List.all_eq_true.1 h t (by have:=Array.mem_of_getElem? ht;simpa using this)
 simpa using this
theorem light_head {t:Nat} {ts:List Nat} {d:DataW H} {ds:List (DataW H)} (h:(DataW.weightsEach Tryz.prog (t::ts) (d::ds)).all (· ≤ reachBytes)=true):Light t d∧(DataW.weightsEach Tryz.prog ts ds).all (· ≤ reachBytes)=true:=by
 simp only [DataW.weightsEach,List.all_append,Bool.and_eq_true] at h
 exact ⟨fun n hn=>by simpa using List.all_eq_true.1 h.1 n hn,h.2⟩
def vd:TypeDesc→Bool
 | .int _ | .bool | .string | .slice _=>true
 | _=>false
theorem not_agg {W:World} {r:Reach} {base t:Nat} {v:Value} {D:TypeDesc} (hu:eP t=some D) (hD:vd D=true) (h:Value.okWide Tryz.prog W r base t v):∀ cs,v.cells.toList=[cs]→v=cs:=fun cs he=>by
 cases v with
 | agg arr =>
  exfalso
  unfold Value.okWide at h
  rw [bE hu] at h
  cases D <;> first | (revert hD;simp [vd];done) | (simp only at h;unfold Cell.okWide at h;rw [bE hu] at h;simp only at h;unfold Cell.ok at h;rw [bE hu] at h;simp at h)
 | _=>simpa [Value.cells] using he
theorem oP {nb:Nat} {W:World} {r:Reach} {base t:Nat} {v:Value} {D:TypeDesc} {α:Type} {e:α→List PV} {B:α→Prop} {d:DataW H} {ps:List MemPlace} (hu:eP t=some D) (hD:vd D=true) (hO:Opens eh nb t e B) (h1:∀ m,∃ p,e m=[p]) (h:Value.okWide Tryz.prog W r base t v) (hd:DataW.Trod eh Tryz.prog W 0 (fun _=>true) true t v d ps) (hl:Light t d) (hn:Rows.uptoBulk d≤nb):∃ m,Rps (k0 W) (e m) [v]∧B m:=by
 obtain ⟨fuel,hf⟩:=hd
 obtain ⟨m,h2,_,h9⟩:=hO W fuel _ _ hf hl hn
 refine ⟨m,?_,h9⟩
 obtain ⟨p,hp⟩:=h1 m
 rw [hp] at h2
 generalize hc:v.cells.toList=cs at h2
 obtain ⟨w,ws,rfl,h3,h4⟩:=h2.cons_inv
 rw [h4.nil_inv] at hc
 rw [not_agg hu hD h w hc,hp]
 exact .cons h3 .nil
end
theorem Cq {κ:Kr} {ps:List PV} {vs:List Value} {k:Nat} {s:ByteArray} (h:Rps κ ps vs) (hk:ps[k]?=some (.v (.string s))):s.size≤140737488355328:=by
 obtain ⟨v,_,h2⟩:=h.get hk
 exact Nat.le_of_ble_eq_true h2.ok
theorem uc {κ:Kr} {ps:List PV} {vs:List Value} {k mm:Nat} {xs:List (List PV)} (h:Rps κ ps vs) (hk:ps[k]?=some (.slc mm xs)):xs.length≤140737488355328:=by
 obtain ⟨v,_,h2⟩:=h.get hk
 cases h2 with
 | slc hs hb _ hss=>rw [hss.len,hs.len];exact hb
theorem vf {κ:Kr} {ps:List PV} {vs:List Value} {k mm:Nat} {xs:List (List PV)} {x:List PV} (h:Rps κ ps vs) (hk:ps[k]?=some (.slc mm xs)) (hx:x∈xs):∃ ds,Rps κ x ds:=by
 obtain ⟨v,_,h2⟩:=h.get hk
 cases h2 with
 | slc hs hb _ hss =>
  obtain ⟨i,hi,rfl⟩:=List.getElem_of_mem hx
  obtain ⟨ds,_,h3⟩:=hss.get (List.getElem?_eq_getElem hi)
  exact ⟨ds,h3⟩
end SX
end Go.Proofs.YtgmbmepakpcpaaaGreatDoor
namespace Go.Proofs.YtgmbmepakpcpaaaGreatDoor
namespace SX
open Go
theorem strs_of {κ:Kr} {ps:List PV} {vs:List Value} {k:Nat} {l:List ByteArray} (h:Rps κ ps vs) (hk:ps[k]?=some (pL eS l)):StrsOk l:=by
 refine ⟨by have:=uc h hk;simpa using this,fun s hs=>?_⟩
 obtain ⟨ds,hd⟩:=vf h hk (List.mem_map_of_mem (f:=eS) hs)
 exact Cq (k:=0) hd rfl
mutual
theorem rok_of {κ:Kr}:∀ (r:Zf) (ds:List Value),Rps κ (Zf.enc r) ds→ROk r
 | ⟨k,d,e,t,m,n,l⟩,ds,h=>by
  rw [Zf.enc_eq] at h
  have hl:l.length≤140737488355328:=by have:=uc (k:=6) h rfl;simpa using this
  exact ⟨_,strs_of (k:=2) h rfl,Cq (k:=5) h rfl,hl,Cr l (fun a ha=>vf (k:=6) h rfl (List.mem_map_of_mem (f:=Zf.enc) ha))⟩
theorem Cr {κ:Kr}:∀ (l:List Zf),(∀ a∈l,∃ ds,Rps κ (Zf.enc a) ds)→∀ a∈l,ROk a
 | [],_,_,h=>by cases h
 | b::l,h,a,ha=>by
  rcases List.mem_cons.1 ha with e | ha
  ·obtain ⟨ds,hd⟩:=h b (by simp)
   rw [e];exact rok_of b ds hd
  exact Cr l (fun a ha=>h a (by simp [ha])) a ha
end
def ig (s p:ByteArray):Bool:=decide (p.size≤s.size)&&decide (s.extract 0 p.size=p)
theorem zV (s p:ByteArray):Option.bind (gd (decide ((p.size:Int)≤(s.size:Int))) (jW s 0 (p.size:Int))) (fun s1=>some ((decide ((p.size:Int)≤(s.size:Int)))&&(decide (s1=p))))=some (ig s p):=by
 unfold ig
 by_cases h:p.size≤s.size
 ·rw [det h,show decide ((p.size:Int)≤(s.size:Int))=true from det (by omega),cr]
  unfold jW;rw [if_pos (by omega)];rfl
 rw [bI h,show decide ((p.size:Int)≤(s.size:Int))=false from bI (by omega)];rfl
theorem sL (s p:ByteArray):dz s p=some (ig s p):=by
 unfold dz fQ;rw [zV];rfl
theorem zW (s p:ByteArray):j7 s p=some (ig s p):=by unfold j7;exact zV s p
def jj (l:List Zi) (code:ByteArray) (k:Nat) (x:Zi) (b:Option Nat):Option Nat :=
 cond (ig code x.Prefix&&(match b with | none=>true | some j=>decide ((l.getD j x).Prefix.size<x.Prefix.size))) (some k) b
def noE {α:Type} (e:Empty):α:=nomatch e
def rX (l:List Zi) (code:ByteArray):Option Nat:=vS (fun b=>b) noE (run (fun k x b=>(.inl (jj l code k x b):Option Nat⊕Empty)) l 0 none)
def tS:Option Nat→Int
 | none => -1
 | some j=>(j:Int)
theorem rY (b:Option Nat):decide (tS b<0)=b.isNone:=by
 cases b with
 | none=>rfl
 | some j=>exact bI (by simp only [tS];omega)
def inB (n:Nat) (b:Option Nat):Prop:=∀ j,b=some j→j<n
theorem yf {l:List Zi} {code:ByteArray} {k:Nat} {x:Zi} {b:Option Nat} (h:inB k b):inB (k+1) (jj l code k x b):=by
 intro j hj
 unfold jj at hj
 split at hj
 all_goals (cases hc:(ig code x.Prefix&&_) <;> rw [hc] at hj <;> simp only [bV,bC] at hj)
 all_goals first | (injection hj with hj;omega) | (have:=h j hj;omega) | (cases hj)
theorem FA (l:List Zi) (code:ByteArray):inB l.length (rX l code):=by
 have key:∀ (m:List Zi) (i:Nat) (b:Option Nat),inB i b→inB (i+m.length) (vS (fun b=>b) noE (run (fun k x b=>(.inl (jj l code k x b):Option Nat⊕Empty)) m i b)):=by
  intro m
  induction m with
  | nil=>intro i b h;exact h
  | cons x m ih =>
   intro i b h
   rw [jc,List.length_cons,show i+(m.length+1)=(i+1)+m.length by omega]
   exact ih _ _ (yf h)
 have:=key l 0 none (fun j h=>by cases h)
 rwa [Nat.zero_add] at this
theorem Dp (l:List Zi) (code:ByteArray) (hl:l.length≤140737488355328) {β:Type} (K:Int→Option β):Option.bind (aO (S:=Int×Int) (T:=(Int)) (fun (v3,v4)=>cond (decide (v4<(l.length:Int))) (Option.bind (Option.bind (idx l v4) (fun m11=>Option.bind (dz code m11.Prefix) (fun x13=>Option.bind (gd (x13&&(!(decide (v3<0)))) (idx l v3)) (fun m14=>cond (x13&&((decide (v3<0))||(decide ((m14.Prefix.size:Int)<(m11.Prefix.size:Int))))) (some v4) (some v3))))) (fun v9=>some (.inl (v9,(IntKind.i64.wrap (v4+1)))))) (some (.inr v3))) FUEL ((-1),0)) K=K (tS (rX l code)):=by
 have h62:l.length≤4611686018427387904:=by omega
 refine (jZ (l:=l) h62 (fun i (b:Option Nat)=>(tS b,i)) (fun k x b=>(.inl (jj l code k x b):Option Nat⊕Empty)) tS noE (fun k b=>inB k b) none (fun j h=>by cases h) (fun k hk b hb=>⟨?_,fun b' h=>by injection h with h;rw [← h];exact yf hb⟩) (fun b hb=>by simp only [cU,bC])).trans ?_
 ·simp only [gT hk,bV,aB hk,bc,sL,bR hk h62,zB,rY]
  unfold jj
  cases hp:ig code l[k].Prefix
  ·rfl
  cases b with
  | none=>rfl
  | some j =>
   have hj:=hb j rfl
   simp only [Option.isNone_some,Bool.not_false,Bool.and_true,cr,tS,aB (show j<l.length by omega),bc,Bool.true_and,Bool.false_or,fc (show j<l.length by omega)]
   have e:decide (((l[j]'(by omega)).Prefix.size:Int)<(l[k].Prefix.size:Int))=decide ((l[j]'(by omega)).Prefix.size<l[k].Prefix.size):=decide_eq_decide.2 (by omega)
   rw [e]
   cases decide ((l[j]'(by omega)).Prefix.size<l[k].Prefix.size) <;> rfl
 unfold rX
 congr 1
 cases run (fun k x b=>(.inl (jj l code k x b):Option Nat⊕Empty)) l 0 none with
 | inl b=>rfl
 | inr e=>nomatch e
theorem FB (l:List Zi) (code:ByteArray) (hl:l.length≤140737488355328) {β:Type} (K:Int→Option β):Option.bind (aO (S:=Int×Int) (T:=(Int)) (fun (v3,v4)=>cond (decide (v4<(l.length:Int))) (Option.bind (Option.bind (idx l v4) (fun m11=>Option.bind (j7 code m11.Prefix) (fun x12=>Option.bind (gd (x12&&(!(decide (v3<0)))) (idx l v4)) (fun m13=>Option.bind (gd (x12&&(!(decide (v3<0)))) (idx l v3)) (fun m14=>cond (x12&&((decide (v3<0))||(decide ((m14.Prefix.size:Int)<(m13.Prefix.size:Int))))) (some v4) (some v3)))))) (fun v9=>some (.inl (v9,(IntKind.i64.wrap (v4+1)))))) (some (.inr v3))) FUEL ((-1),0)) K=K (tS (rX l code)):=by
 have h62:l.length≤4611686018427387904:=by omega
 refine (jZ (l:=l) h62 (fun i (b:Option Nat)=>(tS b,i)) (fun k x b=>(.inl (jj l code k x b):Option Nat⊕Empty)) tS noE (fun k b=>inB k b) none (fun j h=>by cases h) (fun k hk b hb=>⟨?_,fun b' h=>by injection h with h;rw [← h];exact yf hb⟩) (fun b hb=>by simp only [cU,bC])).trans ?_
 ·simp only [gT hk,bV,aB hk,bc,zW,bR hk h62,zB,rY]
  unfold jj
  cases hp:ig code l[k].Prefix
  ·rfl
  cases b with
  | none=>rfl
  | some j =>
   have hj:=hb j rfl
   simp only [Option.isNone_some,Bool.not_false,Bool.and_true,cr,tS,aB (show j<l.length by omega),bc,Bool.true_and,Bool.false_or,fc (show j<l.length by omega)]
   have e:decide (((l[j]'(by omega)).Prefix.size:Int)<(l[k].Prefix.size:Int))=decide ((l[j]'(by omega)).Prefix.size<l[k].Prefix.size):=decide_eq_decide.2 (by omega)
   rw [e]
   cases decide ((l[j]'(by omega)).Prefix.size<l[k].Prefix.size) <;> rfl
 unfold rX
 congr 1
 cases run (fun k x b=>(.inl (jj l code k x b):Option Nat⊕Empty)) l 0 none with
 | inl b=>rfl
 | inr e=>nomatch e
def gZ {α:Type} (z:α):Option α→α×Bool
 | some r=>(r,true)
 | none=>(z,false)
def qZ:Zf:=⟨0,0,[],0,0,ByteArray.empty,[]⟩
def dq (a:Zb) (code:ByteArray):Option Zf:=(rX a.Rules code).bind fun j=>(a.Rules[j]?).map (·.Rule)
theorem oQ (a:Zb) (code:ByteArray):(rX a.Rules code=none∧dq a code=none)∨∃ j,∃ h:j<a.Rules.length,rX a.Rules code=some j∧dq a code=some a.Rules[j].Rule:=by
 cases hb:rX a.Rules code with
 | none=>left;exact ⟨rfl,by unfold dq;rw [hb];rfl⟩
 | some j =>
  have hj:=FA a.Rules code j hb
  right;exact ⟨j,hj,rfl,by unfold dq;rw [hb,bc,List.getElem?_eq_getElem hj];rfl⟩
theorem oR (a:Zb) (code:ByteArray) (hl:a.Rules.length≤140737488355328):gt a code=some (gZ qZ (dq a code)):=by
 unfold gt
 rw [FB _ _ hl]
 rcases oQ a code with ⟨h1,h2⟩ | ⟨j,hj,h1,h2⟩
 ·rw [h1,h2];rfl
 rw [h1,h2,rY];simp only [Option.isNone_some,bC,tS,aB hj,bc];rfl
theorem jL {r:Zf} (h:dx r=true):r.Args.length≤6∧(∀ a∈r.Args,dx a=true)∧r.Except.length≤6:=by
 rw [gQ,Bool.and_eq_true] at h
 obtain ⟨h1,h2⟩:=h
 unfold kp at h1
 simp only [Bool.and_eq_true,Bool.or_eq_true] at h1
 obtain ⟨⟨⟨p1,p2⟩,p3⟩,p4⟩:=h1
 have hE:r.Except.length≤6:=by
  rcases p1 with p1 | ⟨⟨_,p1⟩,_⟩
  ·have hk:=eq_of_beq p1
   rw [hk] at h2
   simp only [jK,hk] at h2
   have h3:kV r.Except=true:=by
    cases hc:kV r.Except
    ·rw [hc] at h2;simp at h2
    rfl
   unfold kV at h3
   simp only [Bool.and_eq_true,decide_eq_true_eq] at h3
   exact h3.1
  have:=List.isEmpty_iff.1 p1;rw [this];simp
 cases h56:(r.Kind == 5||r.Kind == 6)
 ·rw [Bool.or_eq_false_iff] at h56
  rcases p4 with (p4 | p4) | p4
  ·rw [h56.1] at p4;cases p4
  ·rw [h56.2] at p4;cases p4
  have:=List.isEmpty_iff.1 p4;rw [this];exact ⟨by simp,by simp,hE⟩
 rw [h56] at h2
 simp only [bV,Bool.and_eq_true,decide_eq_true_eq,List.all_eq_true] at h2
 exact ⟨h2.1.2,fun a ha=>(h2.2 a ha).2,hE⟩
theorem clone_F (n:Nat):∀ (r:Zf),dx r=true→sK r≤n→fx n r=some r:=by
 induction n with
 | zero=>intro r _ hd;rw [ko] at hd;omega
 | succ n ih =>
  intro r hr hd
  obtain ⟨h1,h2,h3⟩:=jL hr
  show ee (fx n) r=_
  unfold ee bZ
  rw [jA (by omega) (by omega),bc,A7 (by omega) (by omega),bc]
  refine (cI (l:=r.Args) (by omega) (fun i (a:List Zf)=>(a,i)) (fun a x=>a++[x]) (fun a=>a) (fun k a=>a.length=k) [] rfl (fun k hk a ha=>⟨?_,by simp [ha]⟩) (fun a ha=>by simp only [cU,bC])).1.trans ?_
  ·simp only [gT hk,bV,aB hk,bc,bR hk (show r.Args.length≤4611686018427387904 by omega)]
   rw [ih _ (h2 _ (List.getElem_mem hk)) (by have:=ip (List.getElem_mem hk);omega),bc,cF (by simp;omega) (by simp;omega)];rfl
  have:∀ (m acc:List Zf),m.foldl (fun a x=>a++[x]) acc=acc++m:=by
   intro m
   induction m with
   | nil=>intro acc;simp
   | cons x m ih=>intro acc;rw [List.foldl_cons,ih];simp
  rw [this,List.nil_append];cases r;rfl
theorem Bg (r:Zf) (h:dx r=true) (hd:sK r≤1000):iC r=some r:=clone_F FUEL r h (by have hf:FUEL=1267650600228229401496703205376:=rfl;omega)
structure VA (a:Zb):Prop where
 ok:AOk a
 rules:∀ x∈a.Rules,lQ x.Rule=0
 len:a.Rules.length≤12∧a.Parties.length≤12
theorem qk (a:Zb) (code:ByteArray) (ha:VA a):dA a code=some (gZ qZ (dq a code)):=by
 unfold dA
 rw [Dp _ _ ha.ok.len]
 rcases oQ a code with ⟨h1,h2⟩ | ⟨j,hj,h1,h2⟩
 ·rw [h1,h2];rfl
 have hm:=List.getElem_mem hj
 have hr:=ha.ok.rules _ hm
 have hv:=ha.rules _ hm
 rw [h1,h2,rY]
 simp only [Option.isNone_some,Bool.not_false,cr,tS,aB hj,bc,nU _ hr.rule hr.deep,hv,bne_self_eq_false,Bool.or_self,bC,Bg _ ((kW _).1 hv).2 hr.deep]
 rfl
theorem MA.va {i:Nat} {a:Zb} (h:MA i a):VA a:=⟨h.aok,fun x hx=>(kW _).2 ⟨by have:=(h.good x hx).size;simp only [nW] at this;omega,(h.good x hx).valid⟩,by have:=P5_len h.pre;omega,by have:=h.par.length_le;have h6:C6.length=6:=rfl;omega⟩
theorem nX {α T:Type} (p:α→Bool) (f:Nat→T):∀ (l:List α) (i:Nat),(cu (fun k x=>cond (p x) (some (f k)) none) l i=none∧l.find? p=none)∨∃ j,∃ h:j<l.length,cu (fun k x=>cond (p x) (some (f k)) none) l i=some (f (i+j))∧l.find? p=some l[j]
 | [],_=>.inl ⟨rfl,rfl⟩
 | x::xs,i=>by
  rw [cu,List.find?_cons]
  cases hp:p x
  ·rcases nX p f xs (i+1) with ⟨h1,h2⟩ | ⟨j,hj,h1,h2⟩
   ·exact .inl ⟨h1,h2⟩
   exact .inr ⟨j+1,by simpa using hj,by rw [show i+(j+1)=i+1+j by omega];exact h1,h2⟩
  exact .inr ⟨0,by simp,rfl,rfl⟩
def lL (l:List ByteArray) (s:ByteArray):Bool:=l.any fun x=>decide (x=s)
theorem FC (l:List ByteArray) (s:ByteArray):lL l s=true↔s∈l:=by
 unfold lL;simp
theorem rZ (l:List ByteArray) (s:ByteArray) (hl:l.length≤140737488355328):bO l s=some (lL l s):=by
 unfold bO
 have e:dg l s=some (match cu (fun k x=>cond (decide (x=s)) (some (Sum.inr (k:Int):Unit⊕Int)) none) l 0 with | some (.inr k)=>k | _ => -1):=by
  unfold dg
  refine (bz (l:=l) (by omega) (fun k x=>cond (decide (x=s)) (some (.inr (k:Int))) none) (.inl ()) (fun k hk=>?_) (by simp only [cU,bC])).trans ?_
  ·simp only [gT hk,bV,aB hk,bc,bR hk (show l.length≤4611686018427387904 by omega)]
   have e:decide (s=l[k])=decide (l[k]=s):=decide_eq_decide.2 eq_comm
   rw [e];cases decide (l[k]=s) <;> rfl
  cases cu (fun k x=>cond (decide (x=s)) (some (Sum.inr (k:Int):Unit⊕Int)) none) l 0 with
  | none=>rfl
  | some t=>cases t <;> rfl
 rw [e,bc]
 rcases nX (fun x=>decide (x=s)) (fun k=>(Sum.inr (k:Int):Unit⊕Int)) l 0 with ⟨h1,h2⟩ | ⟨j,hj,h1,h2⟩
 ·rw [h1]
  have:lL l s=false:=by unfold lL;rw [List.any_eq_false];exact fun x hx=>by have:=List.find?_eq_none.1 h2 x hx;simpa using this
  rw [this];rfl
 rw [h1]
 have:lL l s=true:=by
  have:=List.find?_some h2
  rw [FC];rw [← of_decide_eq_true this];exact List.getElem_mem hj
 rw [this]
 show some (decide (0≤((0+j:Nat):Int)))=_
 rw [det (by omega)]
theorem qI (l:List ByteArray) (s:ByteArray) (hl:l.length≤140737488355328):jE l s=some (lL l s):=by
 unfold jE
 refine (bz (l:=l) (by omega) (fun _ x=>cond (decide (x=s)) (some (.inr true)) none) (.inl ()) (fun k hk=>?_) (by simp only [cU,bC])).trans ?_
 ·simp only [gT hk,bV,aB hk,bc,bR hk (show l.length≤4611686018427387904 by omega)]
  cases decide (l[k]=s) <;> rfl
 rw [qE (fun x=>decide (x=s))]
 unfold lL;cases (l.any fun x=>decide (x=s)) <;> rfl
def jM (l:List Zb) (id:Int):Option Zb:=l.find? fun a=>a.ID == id
def Dq:Zb:=⟨0,0,[],[]⟩
theorem qJ (l:List Zb) (id:Int) (hl:l.length≤140737488355328):fi l id=some (gZ Dq (jM l id)):=by
 unfold fi jM
 refine (bz (l:=l) (by omega) (fun _ x=>cond (x.ID == id) (some (.inr (x,true))) none) (.inl ()) (fun k hk=>?_) (by simp only [cU,bC])).trans ?_
 ·simp only [gT hk,bV,aB hk,bc,bR hk (show l.length≤4611686018427387904 by omega)]
  cases (l[k].ID == id) <;> rfl
 rw [iz (fun x:Zb=>x.ID == id) (fun x=>(Sum.inr (x,true):Unit⊕(Zb×Bool)))]
 cases l.find? (fun x:Zb=>x.ID == id) <;> rfl
theorem rF (l:List Zb) (id:Int) (hl:l.length≤140737488355328):eE l id=some (gZ Dq (jM l id)):=by
 unfold eE jM
 have e:bF l (fun y3=>gr y3 id)=some (match cu (fun k (x:Zb)=>cond (x.ID == id) (some (Sum.inr (k:Int):Unit⊕Int)) none) l 0 with | some (.inr k)=>k | _ => -1):=by
  unfold bF gr
  refine (bz (l:=l) (by omega) (fun k x=>cond (x.ID == id) (some (.inr (k:Int))) none) (.inl ()) (fun k hk=>?_) (by simp only [cU,bC])).trans ?_
  ·simp only [gT hk,bV,aB hk,bc,bR hk (show l.length≤4611686018427387904 by omega)]
   cases (l[k].ID == id) <;> rfl
  cases cu (fun k (x:Zb)=>cond (x.ID == id) (some (Sum.inr (k:Int):Unit⊕Int)) none) l 0 with
  | none=>rfl
  | some t=>cases t <;> rfl
 rw [e,bc]
 rcases nX (fun x:Zb=>x.ID == id) (fun k=>(Sum.inr (k:Int):Unit⊕Int)) l 0 with ⟨h1,h2⟩ | ⟨j,hj,h1,h2⟩
 ·rw [h1,h2];rfl
 rw [h1,h2]
 show cond (decide (((0+j:Nat):Int)<0)) _ (Option.bind (idx l ((0+j:Nat):Int)) _)=_
 rw [bI (by omega),Nat.zero_add,aB hj];rfl
def we {α:Type} (R:α→α→Bool):List α→List α→Bool
 | [],_=>true
 | _::_,[]=>true
 | x::a,y::b=>R x y&&we R a b
def kA {α:Type} (R:α→α→Bool) (a b:List α):Bool:=a.length == b.length&&we R a b
theorem wU {α T:Type} (R:α→α→Bool) (t:T) (B:List α):∀ (a b:List α) (i:Nat),B.drop i=b→a.length=b.length→cu (fun k x=>cond (R x (B.getD k x)) none (some t)) a i=cond (we R a b) none (some t)
 | [],b,_,_,_=>by cases b <;> rfl
 | x::a,[],_,_,h=>by simp at h
 | x::a,y::b,i,hd,h=>by
  have hi:i<B.length:=by
   rcases Nat.lt_or_ge i B.length with h | h
   ·exact h
   rw [List.drop_of_length_le h] at hd;cases hd
  rw [List.drop_eq_getElem_cons hi] at hd
  injection hd with h1 h2
  rw [cu,we,fc hi,h1,wU R t B a b (i+1) h2 (by simpa using h)]
  cases R x y <;> rfl
theorem vg {α:Type} {R:α→α→Bool}:∀ {a b:List α},(∀ x∈a,∀ y∈b,R x y=true↔x=y)→(kA R a b=true↔a=b)
 | [],[],_=>by simp [kA,we]
 | [],y::b,_=>by simp [kA]
 | x::a,[],_=>by simp [kA]
 | x::a,y::b,h=>by
  have ih:=vg (R:=R) (a:=a) (b:=b) fun u hu v hv=>h u (by simp [hu]) v (by simp [hv])
  have h0:=h x (by simp) y (by simp)
  unfold kA at ih ⊢
  rw [we]
  simp only [List.length_cons,Bool.and_eq_true,beq_iff_eq,Nat.add_right_cancel_iff,List.cons.injEq] at ih ⊢
  constructor
  ·rintro ⟨h1,h2,h3⟩;exact ⟨h0.1 h2,ih.1 ⟨h1,h3⟩⟩
  rintro ⟨h1,h2⟩;exact ⟨(ih.2 h2).1,h0.2 h1,(ih.2 h2).2⟩
theorem qK {α:Type} (a b:List α):((a.length:Int) != (b.length:Int)) = !(a.length == b.length):=by
 by_cases h:a.length=b.length
 ·rw [h];simp
 have h2:¬ (a.length:Int)=(b.length:Int):=by omega
 have e1:(a.length == b.length)=false:=by simpa using h
 have e2:((a.length:Int) == (b.length:Int))=false:=by simpa using h2
 rw [e1,bne,e2]
theorem qL {α:Type} {a b:List α} (ha:a.length≤140737488355328) (R:α→α→Bool) {body:Int→Option (Int⊕(Unit⊕Bool))} {k:Unit⊕Bool→Option Bool} (hk:k (.inl ())=some true∧k (.inr false)=some false) (hab:a.length=b.length)
    (hstep:∀ (k:Nat) (hk:k<a.length) (hk2:k<b.length),body (k:Int)=some (vU k (cond (R a[k] b[k]) none (some (.inr false))))) (hend:body (a.length:Int)=some (.inr (.inl ()))):Option.bind (aO body FUEL 0) k=some (we R a b):=by
  refine (bz (l:=a) (by omega) (fun i x=>cond (R x (b.getD i x)) none (some (.inr false))) (.inl ()) (fun i hi=>?_) hend).trans ?_
  · rw [hstep i hi (by omega),fc (show i<b.length by omega)]
  rw [wU R (Sum.inr false:Unit⊕Bool) b a b 0 rfl hab]
  cases we R a b
  · exact hk.2
  exact hk.1
theorem qm (a b:List ByteArray) (ha:a.length≤140737488355328):j8 a b=some (decide (a=b)):=by
 have hiff:kA (fun x y=>decide (x=y)) a b=decide (a=b):=by
  have:=vg (R:=fun x y:ByteArray=>decide (x=y)) (a:=a) (b:=b) (fun x _ y _=>by simp)
  cases h:kA (fun x y=>decide (x=y)) a b
  ·rw [h] at this;exact (bI fun e=>by have:=this.2 e;cases this).symm
  exact (det (this.1 h)).symm
 rw [← hiff]
 unfold j8 kA
 rw [qK]
 cases h:(a.length == b.length)
 ·rfl
 simp only [Bool.not_true,bC,Bool.true_and]
 refine qL ha _ ⟨rfl,rfl⟩ (eq_of_beq h) (fun k hk hk2=>?_) (by simp only [cU,bC])
 simp only [gT hk,bV,aB hk,aB hk2,bc,bR hk (show a.length≤4611686018427387904 by omega)]
 cases decide (a[k]=b[k]) <;> rfl
theorem tT (a b:List ByteArray) (ha:a.length≤140737488355328):ef a b=some (decide (a=b)):=by
 rw [← qm a b ha];rfl
theorem q9 (a b:List Za) (ha:a.length≤140737488355328):iQ a b=some (decide (a=b)):=by
 have hiff:kA Za.eqb a b=decide (a=b):=by
  have:=vg (R:=Za.eqb) (a:=a) (b:=b) (fun x _ y _=>Za.eqb_iff)
  cases h:kA Za.eqb a b
  ·rw [h] at this;exact (bI fun e=>by have:=this.2 e;cases this).symm
  exact (det (this.1 h)).symm
 rw [← hiff]
 unfold iQ kA
 rw [qK]
 cases h:(a.length == b.length)
 ·rfl
 simp only [Bool.not_true,bC,Bool.true_and]
 refine qL ha _ ⟨rfl,rfl⟩ (eq_of_beq h) (fun k hk hk2=>?_) (by simp only [cU,bC])
 simp only [gT hk,bV,aB hk,aB hk2,bc,bR hk (show a.length≤4611686018427387904 by omega)]
 cases Za.eqb a[k] b[k] <;> rfl
mutual
def hC:Zf→Zf→Bool
 | ⟨k,d,e,t,m,n,l⟩,⟨k',d',e',t',m',n',l'⟩=>k == k'&&d == d'&&t == t'&&m == m'&&decide (n=n')&&decide (e=e')&&js l l'
def js:List Zf→List Zf→Bool
 | [],[]=>true
 | [],_::_=>false
 | _::_,[]=>false
 | a::l,b::m=>hC a b&&js l m
end
mutual
theorem Bh:∀ a b:Zf,hC a b=true↔a=b
 | ⟨k,d,e,t,m,n,l⟩,⟨k',d',e',t',m',n',l'⟩=>by
  rw [hC]
  simp only [Bool.and_eq_true,beq_iff_eq,decide_eq_true_eq,tl l l',Zf.mk.injEq]
  constructor
  ·rintro ⟨⟨⟨⟨⟨⟨h1,h2⟩,h3⟩,h4⟩,h5⟩,h6⟩,h7⟩;exact ⟨h1,h2,h6,h3,h4,h5,h7⟩
  rintro ⟨h1,h2,h6,h3,h4,h5,h7⟩;exact ⟨⟨⟨⟨⟨⟨h1,h2⟩,h3⟩,h4⟩,h5⟩,h6⟩,h7⟩
theorem tl:∀ a b:List Zf,js a b=true↔a=b
 | [],[]=>by simp [js]
 | [],_::_=>by simp [js]
 | _::_,[]=>by simp [js]
 | a::l,b::m=>by rw [js,Bool.and_eq_true,Bh a b,tl l m,List.cons.injEq]
end
theorem tm:∀ a b:List Zf,js a b=kA hC a b
 | [],[]=>by simp [js,kA,we]
 | [],_::_=>by simp [js,kA]
 | _::_,[]=>by simp [js,kA]
 | a::l,b::m=>by
  rw [js,tm l m]
  unfold kA
  rw [we,List.length_cons,List.length_cons]
  have:(l.length+1 == m.length+1)=(l.length == m.length):=by
   cases h:(l.length == m.length)
   ·have:=(beq_eq_false_iff_ne).1 h;exact beq_eq_false_iff_ne.2 (by omega)
   have:=eq_of_beq h;rw [this];simp
  rw [this]
  cases hC a b <;> cases (l.length == m.length) <;> rfl
theorem vh (a b:Zf):hC a b=(a.Kind == b.Kind&&a.Digits == b.Digits&&a.Tolerance == b.Tolerance&&a.Limit == b.Limit&&decide (a.Name=b.Name)&&decide (a.Except=b.Except)&&kA hC a.Args b.Args):=by
 cases a;cases b;rw [hC,tm]
theorem Bi (n:Nat):∀ (a b:Zf),ROk a→sK a≤n→kQ n a b=some (hC a b):=by
 induction n with
 | zero=>intro a b _ hd;rw [ko] at hd;omega
 | succ n ih =>
  intro a b ha hd
  show kO (kQ n) a b=_
  unfold kO
  rw [qm _ _ ha.ex.1,vh,qK]
  simp only [bne]
  have hl:=ha.len
  cases (a.Kind == b.Kind)
  ·rfl
  cases (a.Digits == b.Digits)
  ·rfl
  cases (a.Tolerance == b.Tolerance)
  ·rfl
  cases (a.Limit == b.Limit)
  ·rfl
  cases decide (a.Name=b.Name)
  ·rfl
  simp only [Bool.not_true,Bool.or_self,Bool.not_false,cr,bc,Bool.false_or,Bool.and_self,Bool.true_and]
  cases decide (a.Except=b.Except)
  ·rfl
  unfold kA
  cases h:(a.Args.length == b.Args.length)
  ·rfl
  simp only [Bool.not_true,Bool.or_self,bC,Bool.true_and]
  refine qL hl _ ⟨rfl,rfl⟩ (eq_of_beq h) (fun k hk hk2=>?_) (by simp only [cU,bC])
  simp only [gT hk,bV,aB hk,aB hk2,bc,bR hk (show a.Args.length≤4611686018427387904 by omega)]
  rw [ih _ _ (ha.arg (List.getElem_mem hk)) (by have:=ip (List.getElem_mem hk);omega),bc]
  cases hC a.Args[k] b.Args[k] <;> rfl
theorem zX (n:Nat):∀ (a b:Zf),ROk a→sK a≤n→el n a b=some (hC a b):=by
 induction n with
 | zero=>intro a b _ hd;rw [ko] at hd;omega
 | succ n ih =>
  intro a b ha hd
  have hl:=ha.len
  have hA:bp a.Args b.Args (fun y4 y5=>el n y4 y5)=some (kA hC a.Args b.Args):=by
   unfold bp kA
   rw [qK]
   cases h:(a.Args.length == b.Args.length)
   ·rfl
   simp only [Bool.not_true,bC,Bool.true_and]
   refine qL hl _ ⟨rfl,rfl⟩ (eq_of_beq h) (fun k hk hk2=>?_) (by simp only [cU,bC])
   simp only [gT hk,bV,aB hk,aB hk2,bc,bR hk (show a.Args.length≤4611686018427387904 by omega)]
   rw [ih _ _ (ha.arg (List.getElem_mem hk)) (by have:=ip (List.getElem_mem hk);omega),bc]
   cases hC a.Args[k] b.Args[k] <;> rfl
  show eg (el n) a b=_
  unfold eg
  rw [tT _ _ ha.ex.1,vh,hA]
  cases (a.Kind == b.Kind&&a.Digits == b.Digits&&a.Tolerance == b.Tolerance&&a.Limit == b.Limit&&decide (a.Name=b.Name))
  ·rfl
  cases decide (a.Except=b.Except)
  ·rfl
  cases kA hC a.Args b.Args <;> rfl
def zY (x y:Zi):Bool:=decide (x.Prefix=y.Prefix)&&hC x.Rule y.Rule
theorem wf (a b:List Zi) (ha:a.length≤140737488355328) (hr:∀ x∈a,RFOk x):lF a b=some (kA zY a b):=by
 unfold lF kA
 rw [qK]
 cases h:(a.length == b.length)
 ·rfl
 simp only [Bool.not_true,bC,Bool.true_and]
 refine qL ha _ ⟨rfl,rfl⟩ (eq_of_beq h) (fun k hk hk2=>?_) (by simp only [cU,bC])
 have hx:=hr _ (List.getElem_mem hk)
 simp only [gT hk,bV,aB hk,aB hk2,bc,bR hk (show a.length≤4611686018427387904 by omega),zY]
 cases decide (a[k].Prefix=b[k].Prefix)
 ·rfl
 have e:pM a[k].Rule b[k].Rule=some (hC a[k].Rule b[k].Rule):=Bi FUEL _ _ hx.rule (by have hf:FUEL=1267650600228229401496703205376:=rfl;have:=hx.deep;omega)
 simp only [Bool.not_true,Bool.not_false,cr,bc,e,Bool.false_or,Bool.true_and]
 cases hC a[k].Rule b[k].Rule <;> rfl
theorem vi (a b:List Zi) (ha:a.length≤140737488355328) (hr:∀ x∈a,RFOk x) (hv:∀ x∈a,lQ x.Rule=0):eH a b=some (kA zY a b):=by
 unfold eH bo kA
 rw [qK]
 cases h:(a.length == b.length)
 ·rfl
 simp only [Bool.not_true,bC,Bool.true_and]
 rw [qL ha zY ⟨rfl,rfl⟩ (eq_of_beq h) (fun k hk hk2=>?_) (by simp only [cU,bC])]
 ·rfl
 have hx:=hr _ (List.getElem_mem hk)
 have hxv:=hv _ (List.getElem_mem hk)
 simp only [gT hk,bV,aB hk,aB hk2,bc,bR hk (show a.length≤4611686018427387904 by omega),zY]
 unfold fe
 cases decide (a[k].Prefix=b[k].Prefix)
 ·rfl
 have e:iD a[k].Rule b[k].Rule=some (hC a[k].Rule b[k].Rule):=zX FUEL _ _ hx.rule (by have hf:FUEL=1267650600228229401496703205376:=rfl;have:=hx.deep;omega)
 simp only [cr,nU _ hx.rule hx.deep,hxv,bc,beq_self_eq_true,Bool.and_self,e,Bool.true_and]
 cases hC a[k].Rule b[k].Rule <;> rfl
def Digs (l:List Int):Prop:=∀ x∈l,48≤x∧x≤57
theorem code_Y {p:Zk} (hp:SOK p) (n:Nat) (hn:n=6∨n=8):Y (gN p (n:Int)) (fun r=>(∃ l:List Int,r.1=strOfNums l∧l.length=n∧Digs l)∧SOK r.2):=by
 unfold gN
 refine (eN hp 2 (by omega) (by omega)).bind fun a ⟨a1,a2,a3⟩=>?_
 rw [cS (by omega) (by omega),xy (by omega)]
 refine Y.bind (P:=fun t:List Int×List Int×Int=>t.1.length=n∧Digs t.1∧SOK ⟨t.2.1,t.2.2⟩) ?_ fun t ⟨t1,t2,t3⟩=>?_
 ·refine Y.loop (fun s:List Int×List Int×Int=>(s.1.length % 2=0∧s.1.length≤n)∧Digs s.1∧SOK ⟨s.2.1,s.2.2⟩) (fun s=>n - s.1.length) ⟨⟨by simp,by simp;omega⟩,fun x hx=>by simp at hx;omega,a3⟩ (by dsimp only;omega) fun s hs=>?_
  obtain ⟨l,m,i⟩:=s
  obtain ⟨⟨s0,s1⟩,s2,s3⟩:=hs
  dsimp only at s0 s1 s2 s3 ⊢
  refine Y.cond (fun hc=>?_) (fun hc=>Y.ret ⟨by have:=of_decide_eq_false hc;dsimp only;omega,s2,s3⟩)
  have hc:=of_decide_eq_true hc
  refine (eN s3 3 (by omega) (by omega)).bind fun x ⟨x1,x2,x3⟩=>?_
  rw [cF (by simp;omega) (by simp;omega),bc,cS (by omega) (by omega),xy (by omega)]
  refine Y.ret ⟨⟨⟨by simp;omega,by simp;omega⟩,fun z hz=>?_,x3⟩,by simp;omega⟩
  rcases List.mem_append.1 hz with hz | hz
  ·exact s2 z hz
  simp only [List.mem_cons,List.not_mem_nil,or_false] at hz;omega
 obtain ⟨l,m,i⟩:=t
 exact Y.ret ⟨⟨l,rfl,t1,t2⟩,t3⟩
theorem FD {l:List Int} {n:Nat} (hn:n=6∨n=8) (h1:l.length=n) (h2:Digs l):dU (strOfNums l)=(n:Int)∧(strOfNums l).size=n:=by
 have hs:(strOfNums l).size=n:=by
  unfold strOfNums
  show (Array.mk _).size=n
  simp [h1]
 have hd:kU (strOfNums l)=true:=by
  unfold kU bl strOfNums
  rw [List.all_eq_true]
  intro c hc
  simp only [List.mem_map] at hc
  obtain ⟨x,hx,rfl⟩:=hc
  have:=h2 x hx
  have h3:(UInt8.ofNat x.toNat).toNat=x.toNat:=by
   rw [UInt8.toNat_ofNat'];omega
  simp only [ke,h3,decide_eq_true_eq]
  omega
 refine ⟨?_,hs⟩
 unfold dU
 rw [if_pos ⟨by omega,hd⟩,hs]
def W5:List ByteArray:=[(⟨#[97,110,100]⟩:ByteArray),(⟨#[99,117,116]⟩:ByteArray),(⟨#[111,114]⟩:ByteArray),(⟨#[115,101,119]⟩:ByteArray),(⟨#[115,112,105,110]⟩:ByteArray)]
theorem W5_ok:W5.all gU=true∧kz iS W5=true∧(W5.all fun s=>decide (s.size≤100))=true:=⟨by kernel_rfl,by kernel_rfl,by kernel_rfl⟩
theorem zZ {p:Zk} (hp:SOK p):Y (eG p) (fun r=>r.1.Sublist W5∧SOK r.2):=by
 unfold eG
 refine (eN hp 32 (by omega) (by omega)).bind fun a ⟨a1,a2,a3⟩=>?_
 refine Y.bind (P:=fun l:List ByteArray=>l.Sublist W5) ?_ fun l hl=>Y.ret ⟨hl,a3⟩
 refine Y.loop (fun s=>∃ v:Nat,s.2=(v:Int)∧v≤5∧s.1.Sublist (W5.take v)) (fun s=>(5 - s.2).toNat) ⟨0,rfl,by omega,List.Sublist.refl _⟩ (by dsimp only;omega) fun s hs=>?_
 obtain ⟨l,i⟩:=s
 obtain ⟨v,rfl,h1,h2⟩:=hs
 dsimp only at h2 ⊢
 have hlen:l.length≤5:=by have:=h2.length_le;have h6:W5.length=5:=rfl;rw [List.length_take] at this;omega
 refine Y.cond (fun hc=>?_) (fun hc=>Y.ret (h2.trans (List.take_sublist _ _)))
 have hv:v<5:=by have:=of_decide_eq_true hc;omega
 have hs:=oN h2 (show v<W5.length from hv)
 refine Y.bind (P:=fun m:List ByteArray=>m.Sublist (W5.take (v+1))) (Y.eq (oO v) (Y.cond (fun _=>?_) fun _=>Y.ret hs.2)) fun m hm=>Y.ret ⟨⟨v+1,?_,by omega,hm⟩,?_⟩
 ·refine Y.idx (xs:=W5) rfl (show v<W5.length from hv) ?_
  rw [cF (by simp;omega) (by simp;omega)];exact Y.ret hs.1
 ·show IntKind.i64.wrap ((v:Int)+1)=_;rw [cS (by omega) (by omega)];omega
 show (5 - IntKind.i64.wrap ((v:Int)+1)).toNat<(5 - (v:Int)).toNat;rw [cS (by omega) (by omega)];omega
theorem codeN {x:Int} (h1:0≤x) (h2:x<2):∃ n:Nat,(n=6∨n=8)∧IntKind.i64.wrap (6+IntKind.i64.wrap (2*x))=(n:Int):=by
 rw [cS (r:=2*x) (by omega) (by omega),cS (by omega) (by omega)]
 exact ⟨(6+2*x).toNat,by omega,by omega⟩
structure MProd (n:Nat) (i:Nat) (p:Zc):Prop where
 id:p.ID=3*((i:Int)+1)
 lvl:(dU p.Code=6∨dU p.Code=8)∧6≤p.Code.size∧p.Code.size≤8
 ctr:p.Country∈C6
 price:1≤p.Price∧p.Price≤200
 proc:p.Processes.Sublist W5
 few:p.Inputs.length≤4
 asc:p.Inputs.Pairwise fun a b=>a.Product<b.Product
 inp:∀ x∈p.Inputs,(∃ k:Nat,k<n∧x.Product=3*((k:Int)+1))∧0≤x.Value∧x.Value<100
 obt:p.Obtained=true→p.Inputs=[]
structure MPs (l:List Zc):Prop where
 len:1≤l.length∧l.length≤10
 all:∀ (i:Nat) (p:Zc),l[i]?=some p→MProd l.length i p
theorem plan_Y (p0:List Int):Y (nL p0) MPs:=by
 unfold nL
 refine (cut_Y p0 300 (by omega) (by omega)).bind fun x1 hx1=>?_
 refine (eN hx1 10 (by omega) (by omega)).bind fun x3 ⟨a1,a2,a3⟩=>?_
 rw [cS (r:=1+x3.1) (by omega) (by omega)]
 obtain ⟨n,hn⟩:∃ n:Nat,1+x3.1=(n:Int):=⟨(1+x3.1).toNat,by omega⟩
 rw [hn]
 have hn1:1≤n∧n≤10:=by omega
 refine Y.bind (P:=MPs) ?_ fun l hl=>Y.ret hl
 refine Y.loop (fun s:List Zc×Int×List Int×Int=>(s.2.1=(s.1.length:Int)+1∧s.1.length≤n)∧SOK ⟨s.2.2.1,s.2.2.2⟩∧∀ i p,s.1[i]?=some p→MProd n i p) (fun s=>n - s.1.length) ⟨⟨rfl,by simp⟩,a3,by simp⟩ (by dsimp only;omega) fun s hs=>?_
 obtain ⟨l5,v8,l9,v10⟩:=s
 obtain ⟨⟨h1,h2⟩,h3,h4⟩:=hs
 dsimp only at h1 h2 h3 h4 ⊢
 refine Y.cond (fun hc=>?_) (fun hc=>Y.ret ?_)
 rotate_left
 ·have hc:=of_decide_eq_false hc
  have e:l5.length=n:=by omega
  exact ⟨by omega,by rw [e];exact h4⟩
 have hc:=of_decide_eq_true hc
 refine (eN h3 2 (by omega) (by omega)).bind fun x19 ⟨b1,b2,b3⟩=>?_
 obtain ⟨w,hw,e⟩:=codeN b1 b2
 rw [e]
 refine (code_Y b3 w hw).bind fun x20 ⟨⟨cl,hc1,hc2,hc3⟩,hx20⟩=>?_
 have hcode:=FD hw hc2 hc3
 refine Y.eq rW ?_
 refine (eN hx20 4 (by omega) (by omega)).bind fun x22 ⟨c1,c2,c3⟩=>?_
 obtain ⟨j,hj⟩:∃ j:Nat,x22.1=(j:Int):=⟨x22.1.toNat,by omega⟩
 refine Y.idx hj (show j<C6.length by have h6:C6.length=6:=rfl;omega) ?_
 refine (eN c3 200 (by omega) (by omega)).bind fun x24 ⟨d1,d2,d3⟩=>?_
 refine (zZ d3).bind fun x25 ⟨hpr,hx25⟩=>?_
 refine (eN hx25 4 (by omega) (by omega)).bind fun x26 ⟨_,_,h26⟩=>?_
 refine (eN h26 1024 (by omega) (by omega)).bind fun x28 ⟨_,_,h28⟩=>?_
 refine Y.bind (P:=fun t:List Int×Int×List Zh=>SOK ⟨t.1,t.2.1⟩∧t.2.2.length≤4∧(t.2.2.Pairwise fun a b=>a.Product<b.Product)∧(∀ x∈t.2.2,(∃ k:Nat,k<n∧x.Product=3*((k:Int)+1))∧0≤x.Value∧x.Value<100)∧((x26.1 == 1)=true→t.2.2=[])) ?_ fun t ⟨t1,t2,t3,t4,t5⟩=>?_
 ·refine Y.loop (fun s:Int×List Int×Int×List Zh=>∃ v:Nat,s.1=(v:Int)+1∧v≤n∧SOK ⟨s.2.1,s.2.2.1⟩∧s.2.2.2.length≤4∧(s.2.2.2.Pairwise fun a b=>a.Product<b.Product)∧(∀ x∈s.2.2.2,(∃ k:Nat,k<v∧x.Product=3*((k:Int)+1))∧0≤x.Value∧x.Value<100)∧((x26.1 == 1)=true→s.2.2.2=[])) (fun s=>(n+1 - s.1).toNat) ⟨0,rfl,by omega,h28,by simp,List.Pairwise.nil,by simp,fun _=>rfl⟩ (by dsimp only;omega) fun s hs=>?_
  obtain ⟨i,l,k,m⟩:=s
  obtain ⟨v,rfl,s1,s2,s3,s4,s5,s6⟩:=hs
  dsimp only at s2 s3 s4 s5 s6 ⊢
  refine Y.cond (fun hc3=>?_) (fun hc3=>Y.ret ⟨s2,s3,s4,fun x hx=>?_,s6⟩)
  rotate_left
  ·obtain ⟨⟨k,h5,h6⟩,h7⟩:=s5 x hx;exact ⟨⟨k,by omega,h6⟩,h7⟩
  simp only [Bool.and_eq_true,decide_eq_true_eq,Bool.not_eq_true'] at hc3
  obtain ⟨⟨hc4,hc5⟩,hc6⟩:=hc3
  rw [cS (r:=(v:Int)+1 - 1) (by omega) (by omega),cS (r:=(v:Int)+1+1) (by omega) (by omega),cS (r:=3*((v:Int)+1)) (by omega) (by omega)]
  refine Y.bind (P:=fun t:List Int×Int×List Zh=>SOK ⟨t.1,t.2.1⟩∧t.2.2.length≤4∧(t.2.2.Pairwise fun a b=>a.Product<b.Product)∧(∀ x∈t.2.2,(∃ k:Nat,k<v+1∧x.Product=3*((k:Int)+1))∧0≤x.Value∧x.Value<100)) ?_ fun t ⟨t1,t2,t3,t4⟩=>Y.ret ⟨⟨v+1,by dsimp only;omega,by omega,t1,t2,t3,t4,fun h=>by rw [hc6] at h;cases h⟩,by dsimp only;omega⟩
  rw [show (v:Int)+1 - 1=(v:Int) by omega]
  refine Y.eq (oO v) ?_
  refine Y.bind (P:=fun r:Int×Zk=>SOK r.2) (Y.gdp (fun _=>(eN s2 3 (by omega) (by omega)).mono fun r hr=>hr.2.2) fun _=>s2) fun x56 hx56=>?_
  refine Y.cond (fun _=>?_) (fun _=>Y.ret ⟨hx56,s3,s4,fun x hx=>?_⟩)
  rotate_left
  ·obtain ⟨⟨k,h5,h6⟩,h7⟩:=s5 x hx;exact ⟨⟨k,by omega,h6⟩,h7⟩
  refine (eN hx56 100 (by omega) (by omega)).bind fun x58 ⟨e1,e2,e3⟩=>?_
  rw [cF (by simp;omega) (by simp;omega),bc]
  refine Y.ret ⟨e3,by simp;omega,?_,fun x hx=>?_⟩
  ·rw [List.pairwise_append]
   refine ⟨s4,List.pairwise_singleton _ _,fun a ha b hb=>?_⟩
   rw [List.mem_singleton.1 hb]
   obtain ⟨⟨k,h5,h6⟩,_⟩:=s5 a ha
   dsimp only;omega
  rcases List.mem_append.1 hx with hx | hx
  ·obtain ⟨⟨k,h5,h6⟩,h7⟩:=s5 x hx;exact ⟨⟨k,by omega,h6⟩,h7⟩
  rw [List.mem_singleton.1 hx];exact ⟨⟨v,by omega,rfl⟩,e1,e2⟩
 obtain ⟨l37,v38,l42⟩:=t
 dsimp only at t1 t2 t3 t4 t5 ⊢
 rw [cF (by simp;omega) (by simp;omega),bc,cS (r:=v8+1) (by omega) (by omega),cS (r:=1+x24.1) (by omega) (by omega),cS (r:=3*v8) (by omega) (by omega)]
 refine Y.ret ⟨⟨⟨by simp;omega,by simp;omega⟩,t1,fun i p hp=>?_⟩,by simp;omega⟩
 rw [List.getElem?_append] at hp
 split at hp
 ·exact h4 i p hp
 rename_i hi
 have hi0:i - l5.length=0:=by have:=(List.getElem?_eq_some_iff.1 hp).1;simp at this;omega
 rw [hi0] at hp
 simp only [List.getElem?_cons_zero,eJ] at hp
 subst hp
 refine ⟨by dsimp only;omega,?_,List.getElem_mem _,⟨by dsimp only;omega,by dsimp only;omega⟩,hpr,t2,t3,t4,t5⟩
 dsimp only;rw [hc1,hcode.1,hcode.2];omega
structure Sorted (l:List Zc):Prop where
 len:l.length≤1000000
 asc:l.Pairwise fun a b=>a.ID<b.ID
 small:∀ p∈l,p.Processes.length≤1000000∧p.Inputs.length≤1000000
def cZ (l:List Zc) (id:Int):Option Zc:=l.find? fun p=>p.ID == id
def FE:Zc:=⟨0,ByteArray.empty,ByteArray.empty,0,false,[],[]⟩
theorem wV (l:List Zc) (id:Int) (hl:l.length≤140737488355328):fK l id=some (gZ FE (cZ l id)):=by
 unfold fK cZ
 refine (bz (l:=l) (by omega) (fun _ x=>cond (x.ID == id) (some (.inr (x,true))) none) (.inl ()) (fun k hk=>?_) (by simp only [cU,bC])).trans ?_
 ·simp only [gT hk,bV,aB hk,bc,bR hk (show l.length≤4611686018427387904 by omega)]
  cases (l[k].ID == id) <;> rfl
 rw [iz (fun x:Zc=>x.ID == id) (fun x=>(Sum.inr (x,true):Unit⊕(Zc×Bool)))]
 cases l.find? (fun x:Zc=>x.ID == id) <;> rfl
theorem half_u (x:Nat) (h:x≤10000000):IntKind.i64.wrap (cK .u64 (IntKind.u64.wrap (IntKind.i64.wrap (x:Int))) 1)=((x / 2:Nat):Int):=by
 rw [cS (r:=(x:Int)) (by omega) (by omega),u64s (by omega) (by omega)]
 have:cK .u64 (x:Int) 1=(x:Int) / 2:=Int.fdiv_eq_ediv_of_nonneg _ (by decide)
 rw [this,cS (by omega) (by omega)];omega
theorem Dr (l:List Zc) (id:Int) (h:Sorted l):∃ j:Nat,gp l id=some ((j:Int),(cZ l id).isSome)∧(∀ p,cZ l id=some p→∃ hj:j<l.length,l[j]=p):=by
 have hl:=h.len
 have cmp:∀ p:Zc,eA p id=some (if p.ID<id then -1 else if id<p.ID then 1 else 0):=fun p=>by unfold eA;rw [Fh];rfl
 unfold gp bM
 have hloop:Y (aO (S:=Int×Int) (T:=(Int×Int)) (fun (v1,v2)=>cond (decide (v1<v2)) (lb ((IntKind.i64.wrap (cK .u64 (IntKind.u64.wrap (IntKind.i64.wrap (v1+v2))) 1))) (fun w8=>Option.bind (idx l w8) (fun m9=>Option.bind (eA m9 id) (fun x10=>cond (decide (x10<0)) (some (.inl ((IntKind.i64.wrap (w8+1)),v2))) (some (.inl (v1,w8))))))) (some (.inr (id,v1)))) FUEL (0,(l.length:Int))) (fun t=>t.1=id∧∃ j:Nat,t.2=(j:Int)∧j≤l.length∧(∀ (k:Nat) (p:Zc),l[k]?=some p→k<j→p.ID<id)∧(∀ (k:Nat) (p:Zc),l[k]?=some p→j≤k→id≤p.ID)):=by
  refine Y.loop (fun s:Int×Int=>∃ i j:Nat,s.1=(i:Int)∧s.2=(j:Int)∧i≤j∧j≤l.length∧(∀ (k:Nat) (p:Zc),l[k]?=some p→k<i→p.ID<id)∧(∀ (k:Nat) (p:Zc),l[k]?=some p→j≤k→id≤p.ID)) (fun s=>(s.2 - s.1).toNat) ⟨0,l.length,rfl,rfl,by omega,by omega,fun k p _ hk=>absurd hk (Nat.not_lt_zero _),fun k p hp hk=>by have:=(List.getElem?_eq_some_iff.1 hp).1;omega⟩ (by dsimp only;omega) fun s hs=>?_
  obtain ⟨a,b⟩:=s
  obtain ⟨i,j,rfl,rfl,h1,h2,h3,h4⟩:=hs
  dsimp only
  refine Y.cond (fun hc=>?_) (fun hc=>Y.ret ⟨rfl,i,rfl,by omega,h3,fun k p hp hk=>h4 k p hp (by have:=of_decide_eq_false hc;omega)⟩)
  have hc:i<j:=by have:=of_decide_eq_true hc;omega
  unfold lb
  rw [show (i:Int)+(j:Int)=((i+j:Nat):Int) by omega,half_u _ (by omega)]
  have hm:(i+j) / 2<l.length:=by omega
  have pw:=List.pairwise_iff_getElem.1 h.asc
  refine Y.idx rfl hm (Y.eq (cmp _) ?_)
  by_cases hlt:l[(i+j) / 2].ID<id
  ·rw [if_pos hlt]
   refine Y.ret ⟨⟨(i+j) / 2+1,j,?_,rfl,by omega,h2,fun k p hp hk=>?_,h4⟩,?_⟩
   ·show IntKind.i64.wrap _=_;rw [cS (by omega) (by omega)];omega
   ·obtain ⟨hk2,rfl⟩:=List.getElem?_eq_some_iff.1 hp
    rcases Nat.lt_or_ge k ((i+j) / 2) with h5 | h5
    ·have:=pw k ((i+j) / 2) hk2 hm h5;omega
    have e:k=(i+j) / 2:=by omega
    subst e;exact hlt
   show ((j:Int) - IntKind.i64.wrap _).toNat<_;rw [cS (by omega) (by omega)];omega
  rw [if_neg hlt]
  have hd:decide ((if id<l[(i+j) / 2].ID then (1:Int) else 0)<0)=false:=by split <;> rfl
  rw [hd]
  refine Y.ret ⟨⟨i,(i+j) / 2,rfl,rfl,by omega,by omega,h3,fun k p hp hk=>?_⟩,by dsimp only;omega⟩
  obtain ⟨hk2,rfl⟩:=List.getElem?_eq_some_iff.1 hp
  rcases Nat.lt_or_ge ((i+j) / 2) k with h5 | h5
  ·have:=pw ((i+j) / 2) k hm hk2 h5;omega
  have e:k=(i+j) / 2:=by omega
  subst e;omega
 obtain ⟨⟨t1,t2⟩,e,rfl,j,hj,h1,h2,h3⟩:=hloop
 dsimp only at hj
 subst hj
 rw [e]
 simp only [bc]
 by_cases hjl:j<l.length
 ·rw [det (show (j:Int)<(l.length:Int) by omega),cr,aB hjl,bc,cr,cmp,bc]
  have h4:=h3 j _ (List.getElem?_eq_getElem hjl) (Nat.le_refl _)
  rw [if_neg (by omega)]
  by_cases heq:t1<l[j].ID
  ·have hn:cZ l t1=none:=by
    unfold cZ;rw [List.find?_eq_none]
    intro p hp
    obtain ⟨k,hk,rfl⟩:=List.getElem_of_mem hp
    have:l[k].ID≠t1:=by
     rcases Nat.lt_or_ge k j with h5 | h5
     ·have:=h2 k _ (List.getElem?_eq_getElem hk) h5;omega
     rcases Nat.lt_or_ge j k with h6 | h6
     ·have:=List.pairwise_iff_getElem.1 h.asc j k hjl hk h6;omega
     have e:k=j:=by omega
     subst e;omega
    simpa using this
   rw [if_pos heq,hn];exact ⟨j,rfl,fun p hp=>by cases hp⟩
  ·have hid:l[j].ID=t1:=by omega
   have hs:cZ l t1=some l[j]:=by
    unfold cZ
    rw [List.find?_eq_some_iff_getElem]
    refine ⟨by simpa using hid,j,hjl,rfl,fun k hk=>?_⟩
    have:=h2 k _ (List.getElem?_eq_getElem (by omega)) hk
    have:l[k].ID≠t1:=by omega
    simpa using this
   rw [if_neg heq,hs];exact ⟨j,rfl,fun p hp=>by injection hp with hp;exact ⟨hjl,hp⟩⟩
 rw [bI (show ¬ (j:Int)<(l.length:Int) by omega),jb,bc,jb,bc]
 have hn:cZ l t1=none:=by
  unfold cZ;rw [List.find?_eq_none]
  intro p hp
  obtain ⟨k,hk,rfl⟩:=List.getElem_of_mem hp
  have:=h2 k _ (List.getElem?_eq_getElem hk) (by omega)
  have:l[k].ID≠t1:=by omega
  simpa using this
 rw [hn];exact ⟨j,rfl,fun p hp=>by cases hp⟩
theorem vj (l:List Zc) (id:Int) (h:Sorted l):cY l id=some (gZ FE (cZ l id)):=by
 unfold cY
 obtain ⟨j,e,hj⟩:=Dr l id h
 rw [e,bc]
 cases hf:cZ l id with
 | none=>rfl
 | some p =>
  obtain ⟨hjl,rfl⟩:=hj p hf
  have hs:=h.small _ (List.getElem_mem hjl)
  simp only [Option.isSome_some,Bool.not_true,bC,aB hjl,bc]
  unfold bZ cj
  rw [jA (by omega) (by omega),bc,jA (by omega) (by omega),bc];rfl
theorem MPs.sorted {l:List Zc} (h:MPs l):Sorted l:=by
 refine ⟨by have:=h.len;omega,?_,fun p hp=>?_⟩
 ·rw [List.pairwise_iff_getElem]
  intro i j hi hj hij
  have h1:=(h.all i _ (List.getElem?_eq_getElem hi)).id
  have h2:=(h.all j _ (List.getElem?_eq_getElem hj)).id
  omega
 obtain ⟨i,hi,rfl⟩:=List.getElem_of_mem hp
 have hm:=h.all i _ (List.getElem?_eq_getElem hi)
 have h1:=hm.proc.length_le;have h2:=hm.few;have h6:W5.length=5:=rfl
 omega
structure VAs (l:List Zb):Prop where
 len:l.length≤1000
 all:∀ a∈l,VA a
theorem MAs.vas {l:List Zb} (h:MAs l):VAs l:=⟨by have:=h.len;omega,fun a ha=>by obtain ⟨i,hi,rfl⟩:=List.getElem_of_mem ha;exact (h.all i _ (List.getElem?_eq_getElem hi)).va⟩
theorem mO {l:List Zb} (h:VAs l) {id:Int} {a:Zb} (ha:jM l id=some a):VA a∧a.ID=id∧a∈l:=by
 have hm:=List.mem_of_find?_eq_some ha
 exact ⟨h.all a hm,by have:=List.find?_some ha;simpa using this,hm⟩
def yg (a:Zb) (x y:ByteArray):Bool:=lL a.Parties x&&lL a.Parties y
theorem wW (a:Zb) (x y:ByteArray) (ha:VA a):dC a x y=some (yg a x y):=by
 have:=ha.ok.par.1
 unfold dC yg
 rw [rZ _ _ this,rZ _ _ this,bc]
 cases lL a.Parties x <;> rfl
def iV (p:List Zc) (l:List Zb) (i:ByteArray) (c:Za):Bool:=match cZ p c.Product,jM l c.Agreement with
 | some q,some a => !decide (q.Country=i)&&yg a q.Country i&&(dq a q.Code).isSome
 | _,_=>false
theorem vk (p:List Zc) (l:List Zb) (i:ByteArray) (c:Za) (hp:Sorted p) (hl:VAs l):cq p l i c=some (iV p l i c):=by
 unfold cq iV
 have:=hl.len
 rw [vj _ _ hp,bc]
 cases cZ p c.Product with
 | none=>rfl
 | some q =>
  rw [rF _ _ (by omega)]
  simp only [gZ,Bool.not_true,bC,bc]
  cases ha:jM l c.Agreement with
  | none=>rfl
  | some a =>
   have hv:=(mO hl ha).1
   rw [wW _ _ _ hv,qk _ _ hv]
   by_cases hq:q.Country=i
   ·simp [hq,gd]
   cases h1:yg a q.Country i
   ·simp [hq,gd,h1]
   cases h2:dq a q.Code <;> simp [hq,gd,gZ,h1,h2]
theorem yh (p:List Zc) (l:List Zb) (i:ByteArray) (c:Za) (hp:p.length≤140737488355328) (hl:VAs l):dS p l i c=some (iV p l i c):=by
 unfold dS iV
 have:=hl.len
 rw [wV _ _ hp,bc,qJ _ _ (by omega),bc]
 cases ha:jM l c.Agreement with
 | none =>
  rw [oR _ _ (by simp [gZ,Dq]),bc]
  cases cZ p c.Product with
  | none=>rfl
  | some q=>rfl
 | some a =>
  have hv:=(mO hl ha).1
  rw [show (gZ Dq (some a)).1=a from rfl,oR _ _ hv.ok.len,bc,qI _ _ hv.ok.par.1,qI _ _ hv.ok.par.1]
  cases cZ p c.Product with
  | none=>rfl
  | some q =>
   unfold yg
   cases hr:dq a q.Code with
   | none=>simp [gZ,gd,hr]
   | some r =>
    by_cases hq:q.Country=i
    ·simp [gZ,gd,hr,hq]
    cases h1:lL a.Parties q.Country
    ·simp [gZ,gd,hr,hq,h1]
    cases h2:lL a.Parties i <;> simp [gZ,gd,hr,hq,h1,h2]
def oS (a:Zb) (id:Int) (e i:ByteArray) (b:Zb):Bool := !(b.ID == id)&&yg b e i&&kA zY a.Rules b.Rules
def dF (l:List Zb) (id:Int) (e i:ByteArray):List Int:=match jM l id with
 | none=>[]
 | some a=>id::cond (a.Kind == 2) ((l.filter (oS a id e i)).map (·.ID)) []
theorem qn (P:Zb→Bool):∀ (l:List Zb) (acc:List Int),l.foldl (fun acc b=>cond (P b) (acc++[b.ID]) acc) acc=acc++(l.filter P).map (·.ID)
 | [],acc=>by simp
 | b::l,acc=>by
  rw [List.foldl_cons,qn P l,List.filter_cons]
  cases P b <;> simp
theorem wg (l:List Zb) (id:Int) (e i:ByteArray) (hl:VAs l):eC l id e i=some (dF l id e i):=by
 unfold eC dF
 have hlen:=hl.len
 rw [rF _ _ (by omega),bc]
 cases ha:jM l id with
 | none=>rfl
 | some a =>
  have hv:=(mO hl ha).1
  simp only [gZ,Bool.not_true,bC,bne]
  cases hk:(a.Kind == 2)
  ·rfl
  simp only [Bool.not_true,bC,bV]
  refine (cI (l:=l) (by omega) (fun i (a:List Int)=>(a,i)) (fun acc b=>cond (oS a id e i b) (acc++[b.ID]) acc) (fun a=>a) (fun k acc=>acc.length≤k+1) [id] (by simp) (fun k hk acc hacc=>⟨?_,?_⟩) (fun acc _=>by simp only [cU,bC])).1.trans ?_
  ·have hb:=hl.all _ (List.getElem_mem hk)
   simp only [gT hk,bV,aB hk,bc,bR hk (show l.length≤4611686018427387904 by omega),oS,bne]
   rw [wW _ _ _ hb,vi _ _ hv.ok.len hv.ok.rules hv.rules]
   cases (l[k].ID == id)
   ·cases yg l[k] e i
    ·rfl
    cases kA zY a.Rules l[k].Rules
    ·rfl
    simp only [Bool.not_false,cr,bc,Bool.and_self,bV]
    rw [cF (by simp;omega) (by simp;omega)];rfl
   rfl
  ·cases oS a id e i l[k] <;> simp <;> omega
  rw [qn];rfl
theorem yi (l:List Zb) (id:Int) (e i:ByteArray) (hl:VAs l):mJ l id e i=some (dF l id e i):=by
 unfold mJ dF
 have hlen:=hl.len
 rw [qJ _ _ (by omega),bc]
 cases ha:jM l id with
 | none=>rfl
 | some a =>
  have hv:=(mO hl ha).1
  simp only [gZ,Bool.not_true,bC]
  cases hk:(a.Kind == 2)
  ·refine (cI (l:=([]:List Zb)) (by simp) (fun i (a:List Int)=>(a,i)) (fun acc b=>acc) (fun a=>a) (fun k acc=>True) [id] trivial (fun k hk acc hacc=>by simp at hk) (fun acc _=>by simp only [Bool.and_false,bC])).1.trans ?_
   rfl
  simp only [Bool.and_true,bV]
  refine (cI (l:=l) (by omega) (fun i (a:List Int)=>(a,i)) (fun acc b=>cond (oS a id e i b) (acc++[b.ID]) acc) (fun a=>a) (fun k acc=>acc.length≤k+1) [id] (by simp) (fun k hk acc hacc=>⟨?_,?_⟩) (fun acc _=>by simp only [cU,bC])).1.trans ?_
  ·have hb:=hl.all _ (List.getElem_mem hk)
   simp only [gT hk,bV,aB hk,bc,bR hk (show l.length≤4611686018427387904 by omega),oS,bne,yg]
   rw [qI _ _ hb.ok.par.1,qI _ _ hb.ok.par.1,wf _ _ hv.ok.len hv.ok.rules]
   cases (l[k].ID == id)
   ·cases lL l[k].Parties e
    ·rfl
    cases lL l[k].Parties i
    ·rfl
    cases kA zY a.Rules l[k].Rules
    ·rfl
    simp only [Bool.not_false,cr,bc,Bool.and_self,bV]
    rw [cF (by simp;omega) (by simp;omega)];rfl
   rfl
  ·cases oS a id e i l[k] <;> simp <;> omega
  rw [qn];rfl
def AscA (l:List Zb):Prop:=l.Pairwise fun a b=>a.ID<b.ID
theorem Ds {l:List Zb} (h:AscA l) {a:Zb} (ha:a∈l):jM l a.ID=some a:=by
 obtain ⟨i,hi,rfl⟩:=List.getElem_of_mem ha
 unfold jM
 rw [List.find?_eq_some_iff_getElem]
 refine ⟨by simp,i,hi,rfl,fun k hk=>?_⟩
 have:=List.pairwise_iff_getElem.1 h k i (by omega) hi hk
 have:l[k].ID≠l[i].ID:=by omega
 simpa using this
theorem MAs.asc {l:List Zb} (h:MAs l):AscA l:=by
 unfold AscA;rw [List.pairwise_iff_getElem]
 intro i j hi hj hij
 have h1:=(h.all i _ (List.getElem?_eq_getElem hi)).id
 have h2:=(h.all j _ (List.getElem?_eq_getElem hj)).id
 omega
theorem r4 (l:List Zb) (id:Int) (e i:ByteArray):(dF l id e i).length≤l.length+1:=by
 unfold dF
 cases jM l id with
 | none=>simp
 | some a=>cases h:(a.Kind == 2) <;> simp [h];exact List.length_filter_le _ _
theorem Bj (x:Int):Y (jd x) (fun s=>s∈C6):=by
 unfold jd
 refine (iK x 8 (by omega) (by omega)).bind fun r ⟨h1,h2⟩=>?_
 obtain ⟨j,hj⟩:∃ j:Nat,r=(j:Int):=⟨r.toNat,by omega⟩
 refine Y.idx hj (show j<8 by omega) (Y.ret ?_)
 have hj8:j<8:=by omega
 match j,hj8 with
 | 0,_=>exact .tail _ (.head _)
 | 1,_=>exact .tail _ (.head _)
 | 2,_=>exact .tail _ (.head _)
 | 3,_=>exact .head _
 | 4,_=>exact .tail _ (.tail _ (.head _))
 | 5,_=>exact .tail _ (.tail _ (.tail _ (.head _)))
 | 6,_=>exact .tail _ (.tail _ (.tail _ (.tail _ (.head _))))
 | 7,_=>exact .tail _ (.tail _ (.tail _ (.tail _ (.tail _ (.head _)))))
end SX
end Go.Proofs.YtgmbmepakpcpaaaGreatDoor
