/- A part of the proof: texts of the walk and of the plain laws, merged. No condition. -/
import Derived.Test.YtgmbmepakpcpaaaGreatDoorM3
set_option linter.unusedVariables false
set_option linter.unusedSimpArgs false
set_option maxHeartbeats 4000000
set_option maxRecDepth 100000
namespace Go.Proofs.YtgmbmepakpcpaaaGreatDoor
namespace SX
open Go
attribute [local irreducible] PWL PWC PWD POpL POpQ PEv PGuardIs PSub PPick PUpd PSplice PFill PLit PF PFV PCall FOk ga fa my nL jt lJ Cov PHolds aN idx app mk gd lb nz kZ DP sub jW dU qI vR fS cH py vU IntKind.wrap Int.tmod Int.tdiv Op.bytesLess strOfNums
def dO (p0:(List ByteArray)):Option Bool:=cond (decide (8<(p0.length:Int))) (some false) ((aN (S:=Int) (T:=(Unit)⊕(_)) (fun v2=>cond (decide (v2<(p0.length:Int))) ((idx p0 v2).bind fun m6=>(kb m6).bind fun x7=>(gd ((!(!x7))&&(decide (0<v2))) (idx p0 (IntKind.i64.wrap (v2 - 1)))).bind fun m8=>cond ((!x7)||((decide (0<v2))&&(Op.bytesLess m6.toList m8.toList||decide (m6=m8)))) (some (.inr (.inr false))) (some (.inl (IntKind.i64.wrap (v2+1))))) (some (.inr (.inl ())))) FUEL 0).bind fun q=>match q with | .inl _=>some true | .inr e=>some e)
theorem i5 {p0:(List ByteArray)} {r:Bool}  (h:dO p0=some r):PF 63 [pL eS p0] (pB r):=by
 unfold dO at h
 refine bv ?_
 refine fh Tryz.func63 rfl Tryz.ntmps63 Tryz.results63 rfl (bd [2] (by kernel_rfl) (dn (ah [5,6] [(7,pB (decide (8<(p0.length:Int))))] (by kernel_rfl) (cG rfl h (fun hc1 h=>?_) fun hc1 h=>?_))))
 ·refine af ?_
  refine fY [(2,pB false)] (by kernel_rfl) (am ?_)
  exact zz r h rfl
 refine ai ?_
 refine dn (al [(8,pL eS p0),(9,pI (p0.length:Int)),(10,pI 0)] (by kernel_rfl) (jB h fun q4 hq4 h=>?_))
 refine az (Y:=Unit×Unit) (fun (_,_)=>[]) (fun (_,_)=>[]) (fun (_,_)=>q4=Sum.inl ()) ?_ ?_
 ·refine aJ ?_
  refine aP (Y:=Unit) (S:=Int) _ hq4 (fun _ v2=>[(0,pL eS p0),(8,pL eS p0),(9,pI (p0.length:Int)),(10,pI v2)]) (fun _ v2=>[]) () (kQ rfl) cd ?_
  rintro _ v2 o τ hb3;(try dsimp only at hb3);dsimp only [aF]
  refine af (al [(11,pB (decide (v2<(p0.length:Int))))] (by kernel_rfl) (bP (jX rfl hb3 (fun hc5 hb3=>?_) fun hc5 hb3=>?_)))
  ·refine ai ?_
   refine bP (iM (ae hb3 fun m6 hm6 hb3=>av [] [12,13,14] [(3,pI v2),(4,pS m6)] (eO 1 eS hm6 bN) (by kernel_rfl) (dD hb3 fun x7 hx7 hb3=>ae hb3 fun m8 hm8 hb3=>av [] (rg 15 15) [(30,pB ((!x7)||((decide (0<v2))&&(Op.bytesLess m6.toList m8.toList||decide (m6=m8)))))] (bR 1 (tK hx7) (mX 11 eS (gS hm8) bN)) (by kernel_rfl) (cG rfl hb3 (fun hc9 hb3=>?_) fun hc9 hb3=>?_))))
   ·refine af ?_
    refine fY [(2,pB false)] (by kernel_rfl) (ja ?_)
    refine aX hb3 (fun ht=>?_);subst ht
    refine aC (aY ?_)
    exact zz r h rfl
   refine ai ?_
   refine gC (ah [31] [(10,pI (IntKind.i64.wrap (v2+1)))] (by kernel_rfl) ?_)
   exact bh hb3 () (kQ rfl) cd
  refine aV ?_
  refine aw (ap hb3 (fun ht=>au rfl ?_))
  exact aH ((),()) rt cd ht.symm
 rintro ⟨_,_⟩ τ hz;(try dsimp only at hz);subst q4;(try dsimp only at h);dsimp only [aF]
 refine af (fY [(2,pB true)] (by kernel_rfl) ?_)
 exact zz r h rfl
def ig (p0:(List ByteArray)):Option Bool:=cond (decide (6<(p0.length:Int))) (some false) ((aN (S:=Int) (T:=(Unit)⊕(_)) (fun v2=>cond (decide (v2<(p0.length:Int))) ((idx p0 v2).bind fun m6=>(dJ m6).bind fun x7=>(gd ((!(x7 == 0))&&(decide (0<v2))) (idx p0 (IntKind.i64.wrap (v2 - 1)))).bind fun m8=>cond ((x7 == 0)||((decide (0<v2))&&(Op.bytesLess m6.toList m8.toList||decide (m6=m8)))) (some (.inr (.inr false))) (some (.inl (IntKind.i64.wrap (v2+1))))) (some (.inr (.inl ())))) FUEL 0).bind fun q=>match q with | .inl _=>some true | .inr e=>some e)
theorem rj {p0:(List ByteArray)} {r:Bool}  (h:ig p0=some r):PF 189 [pL eS p0] (pB r):=by
 unfold ig at h
 refine bv ?_
 refine fh Tryz.func189 rfl Tryz.ntmps189 Tryz.results189 rfl (bd [2] (by kernel_rfl) (dn (ah [5,6] [(7,pB (decide (6<(p0.length:Int))))] (by kernel_rfl) (cG rfl h (fun hc1 h=>?_) fun hc1 h=>?_))))
 ·refine af ?_
  refine fY [(2,pB false)] (by kernel_rfl) (am ?_)
  exact zz r h rfl
 refine ai ?_
 refine dn (al [(8,pL eS p0),(9,pI (p0.length:Int)),(10,pI 0)] (by kernel_rfl) (jB h fun q4 hq4 h=>?_))
 refine az (Y:=Unit×Unit) (fun (_,_)=>[]) (fun (_,_)=>[]) (fun (_,_)=>q4=Sum.inl ()) ?_ ?_
 ·refine aJ ?_
  refine aP (Y:=Unit) (S:=Int) _ hq4 (fun _ v2=>[(0,pL eS p0),(8,pL eS p0),(9,pI (p0.length:Int)),(10,pI v2)]) (fun _ v2=>[]) () (kQ rfl) cd ?_
  rintro _ v2 o τ hb3;(try dsimp only at hb3);dsimp only [aF]
  refine af (al [(11,pB (decide (v2<(p0.length:Int))))] (by kernel_rfl) (bP (jX rfl hb3 (fun hc5 hb3=>?_) fun hc5 hb3=>?_)))
  ·refine ai ?_
   refine bP (iM (ae hb3 fun m6 hm6 hb3=>av [] [12,13,14] [(3,pI v2),(4,pS m6)] (eO 1 eS hm6 bN) (by kernel_rfl) (dD hb3 fun x7 hx7 hb3=>ae hb3 fun m8 hm8 hb3=>av [] (rg 15 15) [(30,pB ((x7 == 0)||((decide (0<v2))&&(Op.bytesLess m6.toList m8.toList||decide (m6=m8)))))] (bR 1 (fQ hx7) (mX 11 eS (gS hm8) bN)) (by kernel_rfl) (cG rfl hb3 (fun hc9 hb3=>?_) fun hc9 hb3=>?_))))
   ·refine af ?_
    refine fY [(2,pB false)] (by kernel_rfl) (ja ?_)
    refine aX hb3 (fun ht=>?_);subst ht
    refine aC (aY ?_)
    exact zz r h rfl
   refine ai ?_
   refine gC (ah [31] [(10,pI (IntKind.i64.wrap (v2+1)))] (by kernel_rfl) ?_)
   exact bh hb3 () (kQ rfl) cd
  refine aV ?_
  refine aw (ap hb3 (fun ht=>au rfl ?_))
  exact aH ((),()) rt cd ht.symm
 rintro ⟨_,_⟩ τ hz;(try dsimp only at hz);subst q4;(try dsimp only at h);dsimp only [aF]
 refine af (fY [(2,pB true)] (by kernel_rfl) ?_)
 exact zz r h rfl
def ke (rec:Ze→Option Bool) (p0:Ze):Option Bool:=(mG p0).bind fun x2=>cond (!x2) (some false) (cond (p0.Kind == 1) (some true) (cond (p0.Kind == 2) ((gd (((p0.Digits == 2)||(p0.Digits == 4))||(p0.Digits == 6)) (ig p0.Except)).bind fun x6=>(gd ((((p0.Digits == 2)||(p0.Digits == 4))||(p0.Digits == 6))&&x6) (jm p0.Tolerance)).bind fun x7=>some (((((p0.Digits == 2)||(p0.Digits == 4))||(p0.Digits == 6))&&x6)&&x7)) (cond (p0.Kind == 3) ((jm p0.Limit).bind fun x9=>some x9) (cond (p0.Kind == 4) ((dO [p0.Name]).bind fun x13=>some x13) (Option.bind (cond (p0.Kind == 5) (some (p0.Kind == 5)) (some (p0.Kind == 6))) (fun v14=>cond v14 (cond ((decide ((p0.Args.length:Int)<2))||(decide (6<(p0.Args.length:Int)))) (some false) ((aN (S:=Int) (T:=(Unit)⊕(_)) (fun v19=>cond (decide (v19<(p0.Args.length:Int))) ((idx p0.Args v19).bind fun m23=>(gd (!(m23.Kind == p0.Kind)) (rec m23)).bind fun x25=>cond ((m23.Kind == p0.Kind)||(!x25)) (some (.inr (.inr false))) (some (.inl (IntKind.i64.wrap (v19+1))))) (some (.inr (.inl ())))) FUEL 0).bind fun q=>match q with | .inl _=>some true | .inr e=>some e)) (some false)))))))
theorem tL {rec:Ze→Option Bool} (hrec:∀ {p0:Ze} {r:Bool},rec p0=some r→PF 166 [.agg (aT p0)] (pB r)) {p0:Ze} {r:Bool} (h:ke rec p0=some r):PF 166 [.agg (aT p0)] (pB r):=by
 unfold ke at h
 refine bv ?_
 refine fh Tryz.func166 rfl Tryz.ntmps166 Tryz.results166 rfl (aa (aj rfl (bu (cs:=(aT p0)) rfl rfl (fun b1=>bo [2] (by kernel_rfl) (dn (ae h fun x2 hx2 h=>av [0] [6,7] [(8,pB (!x2))] (bR 1 (wa hx2) bN) (by kernel_rfl) (cG rfl h (fun hc3 h=>?_) fun hc3 h=>?_)))))))
 ·refine af ?_
  refine fY [(2,pB false)] (by kernel_rfl) (am ?_)
  exact zz r h rfl
 refine ai ?_
 refine dn (bj [0] [9] [(10,pI p0.Kind)] (by kernel_rfl) (aM (iM (ah [12] [(11,pB (p0.Kind == 1))] (by kernel_rfl) (cG rfl h (fun hc4 h=>?_) fun hc4 h=>?_)))))
 ·refine af ?_
  refine fY [(2,pB true)] (by kernel_rfl) (ja ?_)
  exact zz r h rfl
 refine af ?_
 refine ah [14] [(13,pB (p0.Kind == 2))] (by kernel_rfl) (cG rfl h (fun hc5 h=>?_) fun hc5 h=>?_)
 ·refine af ?_
  refine bj [0,0,0] (rg 15 13) [(3,pB (((p0.Digits == 2)||(p0.Digits == 4))||(p0.Digits == 6)))] (by kernel_rfl) (dD h fun x6 hx6 h=>ae h fun x7 hx7 h=>av [0,0] (rg 28 11) [(2,pB (((((p0.Digits == 2)||(p0.Digits == 4))||(p0.Digits == 6))&&x6)&&x7))] (iW 4 (fun hc=>rj (gS hx6 hc)) (iW 9 (fun hc=>mH (gS hx7 hc)) bN)) (by kernel_rfl) (eD (ja ?_)))
  exact zz r h rfl
 refine af ?_
 refine ah [40] [(39,pB (p0.Kind == 3))] (by kernel_rfl) (cG rfl h (fun hc8 h=>?_) fun hc8 h=>?_)
 ·refine af ?_
  refine ae h fun x9 hx9 h=>av [0] [41,42,43] [(2,pB x9)] (bR 2 (mH hx9) bN) (by kernel_rfl) (eD (ja ?_))
  exact zz r h rfl
 refine af ?_
 refine ah [45] [(44,pB (p0.Kind == 4))] (by kernel_rfl) (cG rfl h (fun hc10 h=>?_) fun hc10 h=>?_)
 ·refine af ?_
  refine aa (co 2 [0] [46] [(47,pS p0.Name)] (by kernel_rfl) (aj rfl (bI rfl rfl rfl rfl rfl (gw rfl jO) rfl rfl rfl rfl (fun b11=>?_))))
  refine fC (enc:=eS) (xs:=[p0.Name]) 48 rfl (by exact aB) ?_
  refine ae h fun x13 hx13 h=>gE [] [49] [(2,pB x13)] (bR 0 (i5 hx13) bN) (by kernel_rfl) (eD (ja ?_))
  exact zz r h rfl
 refine af ?_
 refine af (ah [51] [(50,pB (p0.Kind == 5))] (by kernel_rfl) (jB h fun q15 hq15 h=>?_))
 refine az (Y:=Unit×Bool) (fun (_,v14)=>[(1,pP b1 0),(50,pB v14)]) (fun (_,v14)=>[PRes.b b1 84 (aT p0)]) (fun (_,v14)=>q15=v14) ?_ ?_
 ·skip
  refine jX rfl hq15 (fun hc16 hq15=>?_) fun hc16 hq15=>?_
  ·refine ai ?_
   obtain rfl:=osi hq15
   exact aH ((),(p0.Kind == 5)) (sX rfl) dC rfl
  refine ah [52] [(50,pB (p0.Kind == 6))] (by kernel_rfl) ?_
  obtain rfl:=osi hq15
  exact aH ((),(p0.Kind == 6)) (sX rfl) dC rfl
 rintro ⟨_,v14⟩ τ hz;(try dsimp only at hz);subst q15;(try dsimp only at h);dsimp only [aF]
 refine jX rfl h (fun hc17 h=>?_) fun hc17 h=>?_
 ·refine af ?_
  refine af (bj [0,0] (rg 53 9) [(62,pB ((decide ((p0.Args.length:Int)<2))||(decide (6<(p0.Args.length:Int)))))] (by kernel_rfl) (cG rfl h (fun hc18 h=>?_) fun hc18 h=>?_))
  ·refine af ?_
   refine fY [(2,pB false)] (by kernel_rfl) (am (ja ?_))
   exact zz r h rfl
  refine ai ?_
  refine dn (bj [0] [63] [(64,pL Ze.enc p0.Args),(65,pI (p0.Args.length:Int)),(66,pI 0)] (by kernel_rfl) (jB h fun q21 hq21 h=>?_))
  refine az (Y:=Unit×Unit) (fun (_,_)=>[]) (fun (_,_)=>[]) (fun (_,_)=>q21=Sum.inl ()) ?_ ?_
  ·refine aJ ?_
   refine aP (Y:=Unit) (S:=Int) _ hq21 (fun _ v19=>[(1,pP b1 0),(64,pL Ze.enc p0.Args),(65,pI (p0.Args.length:Int)),(66,pI v19)]) (fun _ v19=>[PRes.b b1 84 (aT p0)]) () (kQ rfl) dC ?_
   rintro _ v19 o τ hb20;(try dsimp only at hb20);dsimp only [aF]
   refine af (al [(67,pB (decide (v19<(p0.Args.length:Int))))] (by kernel_rfl) (bP (jX rfl hb20 (fun hc22 hb20=>?_) fun hc22 hb20=>?_)))
   ·refine ai ?_
    refine bP (iM (ae hb20 fun m23 hm23 hb20=>aa (bg 2 [] [68] [(69,.agg (aT m23))] (wy 0 Ze.enc (Ze.enc_eq _) hm23 bN) (by kernel_rfl) (aj rfl (aU (cs:=[pI 0,pI 0,pN,pI 0,pI 0,pS ByteArray.empty,pN]) rfl rfl rfl rfl (fun b24=>aW rfl rfl (an (vs:=(aT m23)) rfl rfl rfl rfl rfl cR qu (aq (dD hb20 fun x25 hx25 hb20=>av [0,1,0] (rg 70 9) [(79,pB ((m23.Kind == p0.Kind)||(!x25)))] (iW 7 (fun hc=>hrec (gS hx25 hc)) bN) (by kernel_rfl) (cG rfl hb20 (fun hc26 hb20=>?_) fun hc26 hb20=>?_))))))))))
    ·refine af ?_
     refine fY [(2,pB false)] (by kernel_rfl) (ja ?_)
     refine aX hb20 (fun ht=>?_);subst ht
     refine aC (aY (ja ?_))
     exact zz r h rfl
    refine ai ?_
    refine gC (ah [80] [(66,pI (IntKind.i64.wrap (v19+1)))] (by kernel_rfl) ?_)
    exact bh hb20 () (kQ rfl) (be (ak aB) cd)
   refine aV ?_
   refine aw (ap hb20 (fun ht=>au rfl ?_))
   exact aH ((),()) rt cd ht.symm
  rintro ⟨_,_⟩ τ hz;(try dsimp only at hz);subst q21;(try dsimp only at h);dsimp only [aF]
  refine af (fY [(2,pB true)] (by kernel_rfl) (ja ?_))
  exact zz r h rfl
 refine ai ?_
 refine aG (bP (fY [(2,pB false)] (by kernel_rfl) ?_))
 exact zz r h rfl
def mb (n:Nat):Ze→Option Bool:=Nat.rec (motive:=fun _=>Ze→Option Bool) (fun _=>none) (fun _ ih=>ke ih) n
def rk (p0:Ze):Option Bool:=mb FUEL p0
theorem vb (n:Nat):∀ {p0:Ze} {r:Bool},mb n p0=some r→PF 166 [.agg (aT p0)] (pB r):=by
 induction n with
 | zero=>intros;rename_i h;exact nomatch h
 | succ n ih=>intros;rename_i h;exact tL (fun hr=>ih hr) h
theorem wc {p0:Ze} {r:Bool} (h:rk p0=some r):PF 166 [.agg (aT p0)] (pB r):=vb FUEL h
def fw (p0:Ze):Option Int:=(qZ p0 33).bind fun x2=>cond (decide (32<x2)) (some (8:Int)) ((rk p0).bind fun x4=>cond (!x4) (some (1:Int)) (some (0:Int)))
theorem iU {p0:Ze} {r:Int}  (h:fw p0=some r):PF 130 [.agg (aT p0)] (pI r):=by
 unfold fw at h
 refine bv ?_
 refine fh Tryz.func130 rfl Tryz.ntmps130 Tryz.results130 rfl (aa (aj rfl (bu (cs:=(aT p0)) rfl rfl (fun b1=>bo [2] (by kernel_rfl) (dn (ae h fun x2 hx2 h=>av [0] [3,4] [(5,pB (decide (32<x2)))] (bR 1 (vZ hx2) bN) (by kernel_rfl) (cG rfl h (fun hc3 h=>?_) fun hc3 h=>?_)))))))
 ·refine af ?_
  refine fY [(2,pI 8)] (by kernel_rfl) (am ?_)
  exact zz r h rfl
 refine ai ?_
 refine dn (ae h fun x4 hx4 h=>av [0] [6,7] [(8,pB (!x4))] (bR 1 (wc hx4) bN) (by kernel_rfl) (cG rfl h (fun hc5 h=>?_) fun hc5 h=>?_))
 ·refine af ?_
  refine fY [(2,pI 1)] (by kernel_rfl) (am ?_)
  exact zz r h rfl
 refine ai ?_
 refine bP (fY [(2,pI 0)] (by kernel_rfl) ?_)
 exact zz r h rfl
def dr (p0:Zb) (p1:ByteArray):Option (Ze×Bool):=(aN (S:=Int×Int) (T:=(Int)) (fun (v3,v4)=>cond (decide (v4<(p0.Rules.length:Int))) (((idx p0.Rules v4).bind fun m11=>(dq p1 m11.Prefix).bind fun x13=>(gd (x13&&(!(decide (v3<0)))) (idx p0.Rules v3)).bind fun m14=>cond (x13&&((decide (v3<0))||(decide ((m14.Prefix.size:Int)<(m11.Prefix.size:Int))))) (some v4) (some v3)).bind fun v9=>some (.inl (v9,(IntKind.i64.wrap (v4+1))))) (some (.inr v3))) FUEL ((-1),0)).bind fun v5=>(gd (!(decide (v5<0))) (idx p0.Rules v5)).bind fun m16=>(gd (!(decide (v5<0))) (fw m16.Rule)).bind fun x17=>cond ((decide (v5<0))||(x17 != 0)) (some ((⟨0,0,[],0,0,ByteArray.empty,[]⟩:Ze),false)) ((idx p0.Rules v5).bind fun m19=>(iC m19.Rule).bind fun x20=>some (x20,true))
theorem iI {p0:Zb} {p1:ByteArray} {r:(Ze×Bool)}  (h:dr p0 p1=some r):PF 89 [.agg (aS p0),pS p1] (.tup [.agg (aT r.1),pB r.2]):=by
 unfold dr at h
 refine bv ?_
 refine fh Tryz.func89 rfl Tryz.ntmps89 Tryz.results89 rfl (aa (aj rfl (bu (cs:=(aS p0)) rfl rfl (fun b1=>aj rfl (aU (cs:=[pI 0,pI 0,pN,pI 0,pI 0,pS ByteArray.empty,pN]) rfl rfl rfl rfl (fun b2=>bo [5] (by kernel_rfl) (bP (al [(6,pI (-1))] (by kernel_rfl) (dn (bj [1] [9] [(10,pL Zi.enc p0.Rules),(11,pI (p0.Rules.length:Int)),(12,pI 0)] (by kernel_rfl) (jB h fun q7 hq7 h=>?_)))))))))))
 refine az (Y:=Unit×Int) (fun (_,v5)=>[(2,pP b1 0),(4,pP b2 0),(6,pI v5)]) (fun (_,v5)=>[PRes.b b1 81 (aS p0),PRes.b b2 84 [pI 0,pI 0,pN,pI 0,pI 0,pS ByteArray.empty,pN]]) (fun (_,v5)=>q7=v5) ?_ ?_
 ·refine aJ ?_
  refine aP (Y:=Unit) (S:=Int×Int) _ hq7 (fun _ (v3,v4)=>[(1,pS p1),(2,pP b1 0),(4,pP b2 0),(6,pI v3),(10,pL Zi.enc p0.Rules),(11,pI (p0.Rules.length:Int)),(12,pI v4)]) (fun _ (v3,v4)=>[PRes.b b1 81 (aS p0),PRes.b b2 84 [pI 0,pI 0,pN,pI 0,pI 0,pS ByteArray.empty,pN]]) () (rF rfl) (be (ak aB) dC) ?_
  rintro _ ⟨v3,v4⟩ o τ hb6;(try dsimp only at hb6);dsimp only [aF]
  refine af (al [(13,pB (decide (v4<(p0.Rules.length:Int))))] (by kernel_rfl) (bP (jX rfl hb6 (fun hc8 hb6=>?_) fun hc8 hb6=>?_)))
  ·refine ai ?_
   refine dD hb6 fun q10 hq10 hb6=>?_
   refine az (Y:=Unit×Int) (fun (_,v9)=>[(1,pS p1),(2,pP b1 0),(4,pP b2 0),(6,pI v9),(10,pL Zi.enc p0.Rules),(11,pI (p0.Rules.length:Int)),(12,pI v4)]) (fun (_,v9)=>[PRes.b b1 81 (aS p0),PRes.b b2 84 [pI 0,pI 0,pN,pI 0,pI 0,pS ByteArray.empty,pN]]) (fun (_,v9)=>q10=v9) ?_ ?_
   ·skip
    refine iM (ae hq10 fun m11 hm11 hq10=>aa (bg 3 [] [15] [(14,pI v4),(16,.agg (dY m11))] (eO 1 Zi.enc hm11 bN) (by kernel_rfl) (aj rfl (aU (cs:=[pS ByteArray.empty,pI 0,pI 0,pN,pI 0,pI 0,pS ByteArray.empty,pN]) rfl rfl rfl rfl (fun b12=>ar 1 [(7,pI v4)] (by kernel_rfl) (aW rfl rfl (an (vs:=(dY m11)) rfl rfl rfl rfl rfl cR zl8 (aq (bP (cC (ρd:=[]) [(0,0),(1,0),(2,0),(3,1),(4,0),(5,0),(6,0),(7,0),(8,0),(9,0),(10,0),(11,0),(12,0),(13,0),(14,0),(15,0),(16,0),(17,0),(18,0),(19,0),(20,0)] _ (List.Perm.refl _) (by kernel_rfl) rfl (ae hq10 fun x13 hx13 hq10=>ae hq10 fun m14 hm14 hq10=>cP 21 [0,0,1] (rg 17 20) [(37,pB (x13&&((decide (v3<0))||(decide ((m14.Prefix.size:Int)<(m11.Prefix.size:Int))))))] (bR 3 (iB hx13) (mX 14 Zi.enc (gS hm14) bN)) (by kernel_rfl) (da (cG rfl hq10 (fun hc15 hq10=>?_) fun hc15 hq10=>?_)))))))))))))
    ·refine ah [38] [(6,pI v4)] (by kernel_rfl) ?_
     refine aG ?_
     obtain rfl:=osi hq10
     exact aH ((),v4) (rF rfl) (be (ak aB) (be (ak aB) cd)) rfl
    refine ai ?_
    refine aG ?_
    obtain rfl:=osi hq10
    exact aH ((),v3) (rF rfl) (be (ak aB) (be (ak aB) cd)) rfl
   rintro ⟨_,v9⟩ τ hz;(try dsimp only at hz);subst q10;(try dsimp only at hb6);dsimp only [aF]
   refine ah [39] [(12,pI (IntKind.i64.wrap (v4+1)))] (by kernel_rfl) ?_
   exact bh hb6 () (rF rfl) sY
  refine aV ?_
  refine aw (ap hb6 (fun ht=>au rfl ?_))
  exact aH ((),v3) (AV rfl) sY ht.symm
 rintro ⟨_,v5⟩ τ hz;(try dsimp only at hz);subst q7;(try dsimp only at h);dsimp only [aF]
 refine af (af (ae h fun m16 hm16 h=>ae h fun x17 hx17 h=>av [0] (rg 40 11) [(51,pB ((decide (v5<0))||(x17 != 0)))] (mX 6 Zi.enc (gS hm16) (iW 9 (fun hc=>iU (gS hx17 hc)) bN)) (by kernel_rfl) (cG rfl h (fun hc18 h=>?_) fun hc18 h=>?_)))
 ·refine af ?_
  refine aa (ar 1 [(52,.agg [pI 0,pI 0,pN,pI 0,pI 0,pS ByteArray.empty,pN])] (by kernel_rfl) (aW rfl rfl (an (vs:=[pI 0,pI 0,pN,pI 0,pI 0,pS ByteArray.empty,pN]) rfl rfl rfl rfl rfl (dh cR) qu (aQ [(5,pB false)] (by kernel_rfl) (aM (dV (k:=2) (b:=b2) rfl (dh cR) (dV (k:=6) (b:=b2) rfl (dh cR) (bV (am ?_)))))))))
  obtain rfl:=osi h
  exact aK (di (gy rfl tX rfl) (aL rfl)) cd ⟨rfl,rfl⟩
 refine ai ?_
 refine dD h fun m19 hm19 h=>ae h fun x20 hx20 h=>aa (bg 7 [0] (rg 53 6) [(59,.agg (aT x20))] (eO 3 Zi.enc hm19 (bR 6 (nS hx20) bN)) (by kernel_rfl) (aW rfl rfl (an (vs:=(aT x20)) rfl rfl rfl rfl rfl (dh cR) qu (aQ [(5,pB true)] (by kernel_rfl) (eD ?_)))))
 obtain rfl:=osi h
 exact aK (di (gy rfl tX rfl) (aL rfl)) cd ⟨rfl,rfl⟩
def cg (p0:(List Zc)) (p1:(List Zb)) (p2:ByteArray) (p3:Za):Option Bool:=(cO p0 p3.Product).bind fun x2=>cond (!x2.2) (some false) ((ey p1 p3.Agreement).bind fun x5=>(gd (!((!x5.2)||(decide (x2.1.Country=p2)))) (du x5.1 x2.1.Country p2)).bind fun x7=>cond (((!x5.2)||(decide (x2.1.Country=p2)))||(!x7)) (some false) ((dr x5.1 x2.1.Code).bind fun x9=>some x9.2))
theorem eQ {p0:(List Zc)} {p1:(List Zb)} {p2:ByteArray} {p3:Za} {r:Bool}  (h:cg p0 p1 p2 p3=some r):PF 44 [pL Zc.enc p0,pL Zb.enc p1,pS p2,.agg [pI p3.Product,pI p3.Agreement]] (pB r):=by
 unfold cg at h
 refine bv ?_
 refine fh Tryz.func44 rfl Tryz.ntmps44 Tryz.results44 rfl (aa (aj rfl (bu (cs:=[pI p3.Product,pI p3.Agreement]) rfl rfl (fun b1=>bo [8] (by kernel_rfl) (dD h fun x2 hx2 h=>aa (bg 7 [0] [13,14,15,16,12] [(17,.agg (aZ x2.1)),(18,pB x2.2)] (bR 3 (eJ hx2) bN) (by kernel_rfl) (aj rfl (aU (cs:=[pI 0,pS ByteArray.empty,pS ByteArray.empty,pI 0,pB false,pN,pN]) rfl rfl rfl rfl (fun b3=>aW rfl rfl (an (vs:=(aZ x2.1)) rfl rfl rfl rfl rfl cR qu (aQ [(10,pB x2.2)] (by kernel_rfl) (dn (ah [19] [(20,pB (!x2.2))] (by kernel_rfl) (cG rfl h (fun hc4 h=>?_) fun hc4 h=>?_))))))))))))))
 ·refine af ?_
  refine fY [(8,pB false)] (by kernel_rfl) (am ?_)
  exact zz r h rfl
 refine ai ?_
 refine dD h fun x5 hx5 h=>aa (bg 7 [1] [22,23,24,25,21] [(26,.agg (aS x5.1)),(27,pB x5.2)] (bR 3 (gZ hx5) bN) (by kernel_rfl) (aj rfl (aU (cs:=[pI 0,pI 0,pN,pN]) rfl rfl rfl rfl (fun b6=>aW rfl rfl (an (vs:=(aS x5.1)) rfl rfl rfl rfl rfl cR AB (aQ [(10,pB x5.2)] (by kernel_rfl) (dn (ae h fun x7 hx7 h=>av [1,0,1] (rg 28 15) [(43,pB (((!x5.2)||(decide (x2.1.Country=p2)))||(!x7)))] (iW 13 (fun hc=>jd (gS hx7 hc)) bN) (by kernel_rfl) (cG rfl h (fun hc8 h=>?_) fun hc8 h=>?_)))))))))
 ·refine af ?_
  refine fY [(8,pB false)] (by kernel_rfl) (am ?_)
  exact zz r h rfl
 refine ai ?_
 refine dD h fun x9 hx9 h=>av [0,1] [45,46,47,48,44,49,50] [(10,pB x9.2)] (bR 3 (iI hx9) bN) (by kernel_rfl) (bP (ah [51] [(8,pB x9.2)] (by kernel_rfl) (eD ?_)))
 exact zz r h rfl
def fe (p0:Zi) (p1:Zi):Option Bool:=(gd (decide (p0.Prefix=p1.Prefix)) (fw p0.Rule)).bind fun x3=>(gd ((decide (p0.Prefix=p1.Prefix))&&(x3 == 0)) (iD p0.Rule p1.Rule)).bind fun x4=>some (((decide (p0.Prefix=p1.Prefix))&&(x3 == 0))&&x4)
theorem mM {p0:Zi} {p1:Zi} {r:Bool}  (h:fe p0 p1=some r):PF 135 [.agg (dY p0),.agg (dY p1)] (pB r):=by
 unfold fe at h
 refine bv ?_
 refine fh Tryz.func135 rfl Tryz.ntmps135 Tryz.results135 rfl (aa (aj rfl (bu (cs:=(dY p0)) rfl rfl (fun b1=>aj rfl (bu (cs:=(dY p1)) rfl rfl (fun b2=>bo [4] (by kernel_rfl) (dD h fun x3 hx3 h=>ae h fun x4 hx4 h=>av [1,0,1,1,0] (rg 5 18) [(4,pB (((decide (p0.Prefix=p1.Prefix))&&(x3 == 0))&&x4))] (iW 8 (fun hc=>iU (gS hx3 hc)) (iW 16 (fun hc=>nT (gS hx4 hc)) bN)) (by kernel_rfl) (eD ?_))))))))
 exact zz r h rfl
def eF (p0:(List Zi)) (p1:(List Zi)):Option Bool:=(bk p0 p1 (fun y1 y2=>fe y1 y2)).bind fun x3=>some x3
theorem nC {p0:(List Zi)} {p1:(List Zi)} {r:Bool}  (h:eF p0 p1=some r):PF 95 [pL Zi.enc p0,pL Zi.enc p1] (pB r):=by
 unfold eF at h
 refine bv ?_
 refine fh Tryz.func95 rfl Tryz.ntmps95 Tryz.results95 rfl (bd [4] (by kernel_rfl) (dD h fun x3 hx3 h=>av [] [5,6,7] [(4,pB x3)] (bR 2 (dF (fun hr=>sc (mM hr)) hx3) bN) (by kernel_rfl) (eD ?_)))
 exact zz r h rfl
def eo (p0:(List Zb)) (p1:Int) (p2:ByteArray) (p3:ByteArray):Option (List Int):=(ey p0 p1).bind fun x1=>cond (!x1.2) (some []) (cond (x1.1.Kind != 2) (some [p1]) ((aN (S:=(List Int)×Int) (T:=((List Int))) (fun (l8,v11)=>cond (decide (v11<(p0.length:Int))) (((idx p0 v11).bind fun m24=>(gd (m24.ID != p1) (du m24 p2 p3)).bind fun x26=>(gd ((m24.ID != p1)&&x26) (eF x1.1.Rules m24.Rules)).bind fun x27=>cond (((m24.ID != p1)&&x26)&&x27) ((app 8 l8 [m24.ID]).bind fun l31=>some l31) (some l8)).bind fun l22=>some (.inl (l22,(IntKind.i64.wrap (v11+1))))) (some (.inr l8))) FUEL ([p1],0)).bind fun l15=>some l15))
theorem kf {p0:(List Zb)} {p1:Int} {p2:ByteArray} {p3:ByteArray} {r:(List Int)}  (h:eo p0 p1 p2 p3=some r):PF 47 [pL Zb.enc p0,pI p1,pS p2,pS p3] (pL eI r):=by
 unfold eo at h
 refine bv ?_
 refine fh Tryz.func47 rfl Tryz.ntmps47 Tryz.results47 rfl (bd [8] (by kernel_rfl) (dD h fun x1 hx1 h=>aa (bg 6 [] [15,16,17,14] [(18,.agg (aS x1.1)),(19,pB x1.2)] (bR 2 (gZ hx1) bN) (by kernel_rfl) (aj rfl (aU (cs:=[pI 0,pI 0,pN,pN]) rfl rfl rfl rfl (fun b2=>aW rfl rfl (an (vs:=(aS x1.1)) rfl rfl rfl rfl rfl cR AB (aQ [(10,pB x1.2)] (by kernel_rfl) (dn (ah [20] [(21,pB (!x1.2))] (by kernel_rfl) (cG rfl h (fun hc3 h=>?_) fun hc3 h=>?_)))))))))))
 ·refine af ?_
  refine al [(8,pN)] (by kernel_rfl) (aM (iO 8 rfl (bV (am ?_))))
  exact zz r h rfl
 refine ai ?_
 refine bP (aa (ar 1 [(22,pI p1)] (by kernel_rfl) (aj rfl (bI rfl rfl rfl rfl rfl (gw rfl jO) rfl rfl rfl rfl (fun b4=>aQ [(11,pO (some ⟨b4,0,none⟩) 1 1)] (by kernel_rfl) (dn (bj [1] [24,25] [(26,pB (x1.1.Kind != 2))] (by kernel_rfl) (cG rfl h (fun hc6 h=>?_) fun hc6 h=>?_))))))))
 ·refine af ?_
  refine ah [27] [(8,pO (some ⟨b4,0,none⟩) 1 1)] (by kernel_rfl) (aM ?_)
  refine fB (enc:=eI) (xs:=[p1]) 8 rfl (by exact aB) ?_
  refine bV (am ?_)
  exact zz r h rfl
 refine ai ?_
 refine dn (al [(28,pL Zb.enc p0),(29,pI (p0.length:Int)),(30,pI 0)] (by kernel_rfl) (jB h fun q17 hq17 h=>?_))
 refine az (Y:=(Option Addr×Nat)×((List Int))) (fun ((a13,c14),l15)=>[(11,pO a13 l15.length c14)]) (fun ((a13,c14),l15)=>[PRes.row a13 l15.length c14 3 1 (List.map eI l15)]) (fun ((a13,c14),l15)=>q17=l15) ?_ ?_
 ·refine aJ ?_
  refine aP (Y:=Option Addr×Nat) (S:=(List Int)×Int) _ hq17 (fun (a9,c10) (l8,v11)=>[(1,pI p1),(2,pS p2),(3,pS p3),(9,pP b2 0),(11,pO a9 l8.length c10),(28,pL Zb.enc p0),(29,pI (p0.length:Int)),(30,pI v11)]) (fun (a9,c10) (l8,v11)=>[PRes.b b2 81 (aS x1.1),PRes.row a9 l8.length c10 3 1 (List.map eI l8)]) ((some ⟨b4,0,none⟩),1) (qW rfl) (be (ak aB) dC) ?_
  rintro ⟨a9,c10⟩ ⟨l8,v11⟩ o τ hb16;(try dsimp only at hb16);dsimp only [aF]
  refine af (al [(31,pB (decide (v11<(p0.length:Int))))] (by kernel_rfl) (bP (jX rfl hb16 (fun hc18 hb16=>?_) fun hc18 hb16=>?_)))
  ·refine ai ?_
   refine dD hb16 fun q23 hq23 hb16=>?_
   refine az (Y:=(Option Addr×Nat)×((List Int))) (fun ((a20,c21),l22)=>[(1,pI p1),(2,pS p2),(3,pS p3),(9,pP b2 0),(11,pO a20 l22.length c21),(28,pL Zb.enc p0),(29,pI (p0.length:Int)),(30,pI v11)]) (fun ((a20,c21),l22)=>[PRes.b b2 81 (aS x1.1),PRes.row a20 l22.length c21 3 1 (List.map eI l22)]) (fun ((a20,c21),l22)=>q23=l22) ?_ ?_
   ·skip
    refine iM (ae hq23 fun m24 hm24 hq23=>aa (bg 2 [] [32] [(33,.agg (aS m24))] (eO 0 Zb.enc hm24 bN) (by kernel_rfl) (aj rfl (aU (cs:=[pI 0,pI 0,pN,pN]) rfl rfl rfl rfl (fun b25=>aW rfl rfl (an (vs:=(aS m24)) rfl rfl rfl rfl rfl cR AB (aq (dD hq23 fun x26 hx26 hq23=>ae hq23 fun x27 hx27 hq23=>av [0,0,1,0] (rg 34 16) [(50,pB (((m24.ID != p1)&&x26)&&x27))] (iW 8 (fun hc=>jd (gS hx26 hc)) (iW 15 (fun hc=>nC (gS hx27 hc)) bN)) (by kernel_rfl) (cG rfl hq23 (fun hc28 hq23=>?_) fun hc28 hq23=>?_)))))))))
    ·refine aa ?_
     refine co 3 [0] [52] [(51,pO a9 l8.length c10),(53,pI m24.ID)] (by kernel_rfl) (aj rfl (bI rfl rfl rfl rfl rfl (gw rfl jO) rfl rfl rfl rfl (fun b29=>ae hq23 fun l31 hl31 hq23=>?_)))
     refine aj rfl (bX (enc:=eI) rfl rfl rfl rfl rfl rfl rfl rfl rfl gx (by exact ak (ak (ak aB))) hl31 (fun a32 c33=>?_))
     refine aQ [(11,pO a32 l31.length c33)] (by kernel_rfl) (aG ?_)
     obtain rfl:=osi hq23
     exact aH ((a32,c33),l31) (qW rfl) (be (ak (ak (ak aB))) dC) rfl
    refine ai ?_
    refine aG ?_
    obtain rfl:=osi hq23
    exact aH ((a9,c10),l8) (qW rfl) (be (ak aB) (be (ak aB) cd)) rfl
   rintro ⟨⟨a20,c21⟩,l22⟩ τ hz;(try dsimp only at hz);subst q23;(try dsimp only at hb16);dsimp only [aF]
   refine ah [56] [(30,pI (IntKind.i64.wrap (v11+1)))] (by kernel_rfl) ?_
   exact bh hb16 (a20,c21) (qW rfl) sY
  refine aV ?_
  refine aw (ap hb16 (fun ht=>au rfl ?_))
  exact aH ((a9,c10),l8) (xF rfl) (be (ak aB) cd) ht.symm
 rintro ⟨⟨a13,c14⟩,l15⟩ τ hz;(try dsimp only at hz);subst q17;(try dsimp only at h);dsimp only [aF]
 refine af (ah [57] [(8,pO a13 l15.length c14)] (by kernel_rfl) (aM ?_))
 refine fB (enc:=eI) (xs:=l15) 8 rfl (by exact aB) ?_
 refine bV ?_
 exact zz r h rfl
def jH (p0:(List ByteArray)) (p1:(List ByteArray)):Option (List ByteArray):=(cV [p0,p1]).bind fun x3=>(iX x3).bind fun x7=>(dG x7).bind fun x8=>some x8
theorem vc {p0:(List ByteArray)} {p1:(List ByteArray)} {r:(List ByteArray)}  (h:jH p0 p1=some r):PF 97 [pL eS p0,pL eS p1] (pL eS r):=by
 unfold jH at h
 refine bv ?_
 refine fh Tryz.func97 rfl Tryz.ntmps97 Tryz.results97 rfl (bd [4] (by kernel_rfl) (bP (aa (ar 2 [(6,pL eS p0),(7,pL eS p1)] (by kernel_rfl) (aj rfl (bI rfl rfl rfl rfl rfl (gw rfl (gw rfl jO)) rfl rfl rfl rfl (fun b1=>?_)))))))
 refine fC (enc:=(eL eS)) (xs:=[p0,p1]) 8 rfl (by exact aB) ?_
 refine ae h fun x3 hx3 h=>?_
 refine aj rfl (bc rfl rfl (ρ1:=[]) (List.Perm.refl _) (kF hx3) ?_);rintro _ _ ⟨a4,c5,rfl,rfl⟩
 refine aQ [(5,pO a4 x3.length c5)] (by kernel_rfl) (dD h fun x7 hx7 h=>aa (ar 1 [(10,pO a4 x3.length c5)] (by kernel_rfl) ?_))
 refine aj rfl (bc rfl rfl (ρ1:=[_]) (aA (by exact aB) (List.Perm.refl _)) (lG hx7) ?_);rintro _ _ ⟨rfl,rfl⟩
 refine aq (dD h fun x8 hx8 h=>aa (ar 1 [(12,pO a4 x3.length c5)] (by kernel_rfl) ?_))
 refine aj rfl (bc rfl rfl (ρ1:=[_]) (aA (by exact aB) (List.Perm.refl _)) (kr hx8) ?_);rintro _ _ ⟨a9,c10,rfl,rfl⟩
 refine aQ [(4,pO a9 x8.length c10)] (by kernel_rfl) (aM ?_)
 refine fB (enc:=eS) (xs:=x8) 4 rfl (by exact aB) ?_
 refine bV ?_
 exact zz r h rfl
def ff (p0:(List Zc)) (p1:Zb) (p2:Zc) (p3:Zt):Option ((List Zd)×(List ByteArray)):=(bY p2.Processes).bind fun x4=>(aN (S:=(List Zd)×(List ByteArray)×Int) (T:=((List Zd)×(List ByteArray))) (fun (l9,l12,v13)=>cond (decide (v13<(p2.Inputs.length:Int))) (((idx p2.Inputs v13).bind fun m29=>(cO p0 m29.Product).bind fun x31=>(gd (p1.Kind == 3) (bJ p1.Parties x31.1.Country)).bind fun x33=>Option.bind (cond ((p1.Kind == 3)&&x33) ((jH l12 x31.1.Processes).bind fun x38=>some x38) (some l12)) (fun l35=>(cQ p3 x31.1 m29.Value).bind fun x39=>cond (((Zd.is_proved_ x39)||(!((p1.Kind == 3)&&x33)))||((x31.1.Inputs.length:Int) == 0)) ((app 16 l9 [x39]).bind fun l44=>some (l44,l35)) ((aN (S:=(List Zd)×Int) (T:=((List Zd))) (fun (l49,v52)=>cond (decide (v52<(x31.1.Inputs.length:Int))) ((idx x31.1.Inputs v52).bind fun m60=>(cO p0 m60.Product).bind fun x62=>(fG m29.Value m60.Value x31.1.Price).bind fun x64=>(cQ p3 x62.1 x64).bind fun x65=>(app 16 l49 [x65]).bind fun l68=>some (.inl (l68,(IntKind.i64.wrap (v52+1))))) (some (.inr l49))) FUEL (l9,0)).bind fun l56=>some (l56,l35)))).bind fun (l26,l27)=>some (.inl (l26,l27,(IntKind.i64.wrap (v13+1))))) (some (.inr (l9,l12)))) FUEL (([]:List Zd),x4,0)).bind fun (l17,l18)=>(sub l18 0 (py (l18.length:Int) 8)).bind fun l73=>some (l17,l73)
theorem ln {p0:(List Zc)} {p1:Zb} {p2:Zc} {p3:Zt} {m3_set_:Nat} {r:((List Zd)×(List ByteArray))}  (h:ff p0 p1 p2 p3=some r):PCall 48 [pL Zc.enc p0,.agg (aS p1),.agg (aZ p2),.agg [pL eI p3.partners,.v (.map (some m3_set_))]] [PRes.mp (some m3_set_) (e7 Za.key vT p3.set_)] (fun pv ρ'=>pv=.tup [pL Zd.enc r.1,pL eS r.2]∧ρ'=[PRes.mp (some m3_set_) (e7 Za.key vT p3.set_)]):=by
 unfold ff at h
 refine fh Tryz.func48 rfl Tryz.ntmps48 Tryz.results48 rfl (aa (aj rfl (bu (cs:=(aS p1)) rfl rfl (fun b1=>aj rfl (bu (cs:=(aZ p2)) rfl rfl (fun b2=>aj rfl (bu (cs:=[pL eI p3.partners,.v (.map (some m3_set_))]) rfl rfl (fun b3=>bo [8,9] (by kernel_rfl) (bP (al [(10,pN)] (by kernel_rfl) (dD h fun x4 hx4 h=>aa (co 2 [1] [24] [(25,pL eS p2.Processes)] (by kernel_rfl) ?_))))))))))))
 refine aj rfl (bc rfl rfl (ρ1:=[]) (List.Perm.refl _) (eV hx4) ?_);rintro _ _ ⟨a5,c6,rfl,rfl⟩
 refine aQ [(11,pO a5 x4.length c6)] (by kernel_rfl) (dn (bj [2] [27] [(28,pL Zh.enc p2.Inputs),(29,pI (p2.Inputs.length:Int)),(30,pI 0)] (by kernel_rfl) (aM (ca 101 1 ?_))))
 refine fB (enc:=eS) (xs:=x4) 11 rfl (by exact ak aB) ?_
 refine ae h fun q20 hq20 h=>?_
 refine az (Y:=(Option Addr×Nat)×((List Zd)×(List ByteArray))) (fun ((a15,c16),(l17,l18))=>[(10,pO a15 l17.length c16),(11,pL eS l18)]) (fun ((a15,c16),(l17,l18))=>[PRes.mp (some m3_set_) (e7 Za.key vT p3.set_),PRes.row a15 l17.length c16 101 1 (List.map Zd.enc l17)]) (fun ((a15,c16),(l17,l18))=>q20=(l17,l18)) ?_ ?_
 ·refine aJ ?_
  refine aP (Y:=Option Addr×Nat) (S:=(List Zd)×(List ByteArray)×Int) _ hq20 (fun (a10,c11) (l9,l12,v13)=>[(0,pL Zc.enc p0),(5,pP b1 0),(7,pP b3 0),(10,pO a10 l9.length c11),(11,pL eS l12),(28,pL Zh.enc p2.Inputs),(29,pI (p2.Inputs.length:Int)),(30,pI v13)]) (fun (a10,c11) (l9,l12,v13)=>[PRes.b b1 81 (aS p1),PRes.b b3 96 [pL eI p3.partners,.v (.map (some m3_set_))],PRes.mp (some m3_set_) (e7 Za.key vT p3.set_),PRes.row a10 l9.length c11 101 1 (List.map Zd.enc l9)]) (none,0) (qW rfl) (be (ak (ak (ak (ak aB)))) (be (ak (ak aB)) (be (ak (ak (ak aB))) (be (ak aB) cd)))) ?_
  rintro ⟨a10,c11⟩ ⟨l9,l12,v13⟩ o τ hb19;(try dsimp only at hb19);dsimp only [aF]
  refine af (al [(31,pB (decide (v13<(p2.Inputs.length:Int))))] (by kernel_rfl) (bP (jX rfl hb19 (fun hc22 hb19=>?_) fun hc22 hb19=>?_)))
  ·refine ai ?_
   refine dD hb19 fun q28 hq28 hb19=>?_
   refine az (Y:=(Option Addr×Nat)×((List Zd)×(List ByteArray))) (fun ((a24,c25),(l26,l27))=>[(0,pL Zc.enc p0),(5,pP b1 0),(7,pP b3 0),(10,pO a24 l26.length c25),(11,pL eS l27),(28,pL Zh.enc p2.Inputs),(29,pI (p2.Inputs.length:Int)),(30,pI v13)]) (fun ((a24,c25),(l26,l27))=>[PRes.b b1 81 (aS p1),PRes.b b3 96 [pL eI p3.partners,.v (.map (some m3_set_))],PRes.mp (some m3_set_) (e7 Za.key vT p3.set_),PRes.row a24 l26.length c25 101 1 (List.map Zd.enc l26)]) (fun ((a24,c25),(l26,l27))=>q28=(l26,l27)) ?_ ?_
   ·skip
    refine iM (ae hq28 fun m29 hm29 hq28=>aa (bg 2 [] [32] [(33,.agg [pI m29.Product,pI m29.Value])] (eO 0 Zh.enc hm29 bN) (by kernel_rfl) (aj rfl (aU (cs:=[pI 0,pI 0]) rfl rfl rfl rfl (fun b30=>aW rfl rfl (an (vs:=[pI m29.Product,pI m29.Value]) rfl rfl rfl rfl rfl cR AU (aq (dD hq28 fun x31 hx31 hq28=>aa (bg 7 [0] [35,36,37,38,34] [(39,.agg (aZ x31.1)),(40,pB x31.2)] (bR 3 (eJ hx31) bN) (by kernel_rfl) (aj rfl (aU (cs:=[pI 0,pS ByteArray.empty,pS ByteArray.empty,pI 0,pB false,pN,pN]) rfl rfl rfl rfl (fun b32=>aW rfl rfl (an (vs:=(aZ x31.1)) rfl rfl rfl rfl rfl cR qu (bo [15] (by kernel_rfl) (dD hq28 fun x33 hx33 hq28=>av [2,2,0] (rg 41 10) [(16,pB ((p1.Kind == 3)&&x33))] (iW 8 (fun hc=>cU (gS hx33 hc)) bN) (by kernel_rfl) (dn (al [(51,pB ((p1.Kind == 3)&&x33))] (by kernel_rfl) (jB hq28 fun q36 hq36 hq28=>?_))))))))))))))))))
    refine az (Y:=Unit×((List ByteArray))) (fun (_,l35)=>[(0,pL Zc.enc p0),(5,pP b1 0),(7,pP b3 0),(10,pO a10 l9.length c11),(11,pL eS l35),(13,pP b30 0),(14,pP b32 0),(16,pB ((p1.Kind == 3)&&x33)),(28,pL Zh.enc p2.Inputs),(29,pI (p2.Inputs.length:Int)),(30,pI v13)]) (fun (_,l35)=>[PRes.b b1 81 (aS p1),PRes.b b3 96 [pL eI p3.partners,.v (.map (some m3_set_))],PRes.b b30 78 [pI m29.Product,pI m29.Value],PRes.b b32 76 (aZ x31.1),PRes.mp (some m3_set_) (e7 Za.key vT p3.set_),PRes.row a10 l9.length c11 101 1 (List.map Zd.enc l9)]) (fun (_,l35)=>q36=l35) ?_ ?_
    ·skip
     refine jX rfl hq36 (fun hc37 hq36=>?_) fun hc37 hq36=>?_
     ·refine ae hq36 ?_;clear hq36;intro x38 hx38 hq36
      refine av [0] [52,53,54,55] [(11,pL eS x38)] (bR 3 (vc hx38) bN) (by kernel_rfl) ?_
      obtain rfl:=osi hq36
      exact aH ((),x38) (iY rfl (iY rfl (DR rfl))) (be (ak (ak aB)) (be (ak (ak aB)) (be (ak aB) zs3))) rfl
     refine ai ?_
     obtain rfl:=osi hq36
     exact aH ((),l12) (iY rfl (iY rfl (DR rfl))) (be (ak (ak aB)) (be (ak (ak aB)) (be (ak aB) zs3))) rfl
    rintro ⟨_,l35⟩ τ hz;(try dsimp only at hz);subst q36;(try dsimp only at hq28);dsimp only [aF]
    refine af (ae hq28 fun x39 hx39 hq28=>aa (co 4 [1,3,2] [58] [(56,.agg [pL eI p3.partners,.v (.map (some m3_set_))]),(57,.agg (aZ x31.1)),(59,pI m29.Value)] (by kernel_rfl) ?_))
    refine aj rfl (bc rfl rfl (ρ1:=[_]) (aA (by exact ak (ak (ak (ak aB)))) (List.Perm.refl _)) (iq hx39) ?_);rintro _ _ ⟨rfl,rfl⟩
    refine aQ [(17,Zd.pv x39)] (by kernel_rfl) (dn (aa (bg 5 [] [62,63,61] [(64,.agg [pS ((((Zd.as_proved_ x39)).use).Code),pI ((((Zd.as_proved_ x39)).use).Value),pB ((((Zd.as_proved_ x39)).use).Originating),pI ((((Zd.as_proved_ x39)).premise).Product),pI ((((Zd.as_proved_ x39)).premise).Agreement)]),(65,pB (Zd.is_proved_ x39))] (fota 1 (Zd.ta_proved_ x39) bN) (by kernel_rfl) (aj rfl (aU (cs:=[pS ByteArray.empty,pI 0,pB false,pI 0,pI 0]) rfl rfl rfl rfl (fun b40=>aW rfl rfl (an (vs:=[pS ((((Zd.as_proved_ x39)).use).Code),pI ((((Zd.as_proved_ x39)).use).Value),pB ((((Zd.as_proved_ x39)).use).Originating),pI ((((Zd.as_proved_ x39)).premise).Product),pI ((((Zd.as_proved_ x39)).premise).Agreement)]) rfl rfl rfl rfl rfl cR EG (aQ [(19,pB (Zd.is_proved_ x39))] (by kernel_rfl) (bP (bj [5] (rg 66 10) [(76,pB (((Zd.is_proved_ x39)||(!((p1.Kind == 3)&&x33)))||((x31.1.Inputs.length:Int) == 0)))] (by kernel_rfl) (cG rfl hq28 (fun hc41 hq28=>?_) fun hc41 hq28=>?_)))))))))))
    ·refine af ?_
     refine aa (ar 2 [(77,pO a10 l9.length c11),(78,Zd.pv x39)] (by kernel_rfl) (aj rfl (bI rfl rfl rfl rfl rfl (gw rfl jO) rfl rfl rfl rfl (fun b42=>ae hq28 fun l44 hl44 hq28=>?_))))
     refine aj rfl (bX (enc:=Zd.enc) rfl rfl rfl rfl rfl rfl rfl rfl rfl gx (by exact ak (ak (ak (ak (ak (ak (ak aB))))))) hl44 (fun a45 c46=>?_))
     refine aQ [(10,pO a45 l44.length c46)] (by kernel_rfl) (aM (aV (aw (au rfl ?_))))
     obtain rfl:=osi hq28
     exact aH ((a45,c46),(l44,l35)) (qW rfl) (be (ak (ak (ak (ak aB)))) (be (ak (ak (ak (ak aB)))) (be (ak (ak (ak aB))) dC))) rfl
    refine ai ?_
    refine bP (bj [5] [81] [(82,pL Zh.enc x31.1.Inputs),(83,pI (x31.1.Inputs.length:Int)),(84,pI 0)] (by kernel_rfl) (jB hq28 fun q58 hq58 hq28=>?_))
    refine mz (Y:=(Option Addr×Nat)×((List Zd))) (fun ((a54,c55),l56)=>[(0,pL Zc.enc p0),(5,pP b1 0),(7,pP b3 0),(10,pO a54 l56.length c55),(11,pL eS l35),(28,pL Zh.enc p2.Inputs),(29,pI (p2.Inputs.length:Int)),(30,pI v13)]) (fun ((a54,c55),l56)=>[PRes.b b1 81 (aS p1),PRes.b b3 96 [pL eI p3.partners,.v (.map (some m3_set_))],PRes.mp (some m3_set_) (e7 Za.key vT p3.set_),PRes.row a54 l56.length c55 101 1 (List.map Zd.enc l56)]) (fun ((a54,c55),l56)=>q58=l56) ?_ ?_
    ·refine aJ ?_
     refine aP (Y:=Option Addr×Nat) (S:=(List Zd)×Int) _ hq58 (fun (a50,c51) (l49,v52)=>[(0,pL Zc.enc p0),(5,pP b1 0),(7,pP b3 0),(10,pO a50 l49.length c51),(11,pL eS l35),(13,pP b30 0),(14,pP b32 0),(28,pL Zh.enc p2.Inputs),(29,pI (p2.Inputs.length:Int)),(30,pI v13),(82,pL Zh.enc x31.1.Inputs),(83,pI (x31.1.Inputs.length:Int)),(84,pI v52)]) (fun (a50,c51) (l49,v52)=>[PRes.b b1 81 (aS p1),PRes.b b3 96 [pL eI p3.partners,.v (.map (some m3_set_))],PRes.b b30 78 [pI m29.Product,pI m29.Value],PRes.b b32 76 (aZ x31.1),PRes.mp (some m3_set_) (e7 Za.key vT p3.set_),PRes.row a50 l49.length c51 101 1 (List.map Zd.enc l49)]) (a10,c11) (iY rfl (iY rfl (iY rfl (iY rfl (DR rfl))))) (be (ak (ak aB)) (be (ak (ak aB)) (be (ak (ak aB)) (be (ak (ak aB)) (be (ak aB) (be (ak aB) cd)))))) ?_
     rintro ⟨a50,c51⟩ ⟨l49,v52⟩ o τ hb57;(try dsimp only at hb57);dsimp only [aF]
     refine af (al [(85,pB (decide (v52<(x31.1.Inputs.length:Int))))] (by kernel_rfl) (bP (jX rfl hb57 (fun hc59 hb57=>?_) fun hc59 hb57=>?_)))
     ·refine ai ?_
      refine bP (iM (ae hb57 fun m60 hm60 hb57=>aa (bg 2 [] [86] [(87,.agg [pI m60.Product,pI m60.Value])] (eO 0 Zh.enc hm60 bN) (by kernel_rfl) (aj rfl (aU (cs:=[pI 0,pI 0]) rfl rfl rfl rfl (fun b61=>aW rfl rfl (an (vs:=[pI m60.Product,pI m60.Value]) rfl rfl rfl rfl rfl cR AU (aq (dD hb57 fun x62 hx62 hb57=>aa (bg 7 [0] [89,90,91,92,88] [(93,.agg (aZ x62.1)),(94,pB x62.2)] (bR 3 (eJ hx62) bN) (by kernel_rfl) (aj rfl (aU (cs:=[pI 0,pS ByteArray.empty,pS ByteArray.empty,pI 0,pB false,pN,pN]) rfl rfl rfl rfl (fun b63=>aW rfl rfl (an (vs:=(aZ x62.1)) rfl rfl rfl rfl rfl cR qu (bo [23] (by kernel_rfl) (aM (cC (ρd:=[PRes.mp (some m3_set_) _,PRes.row a50 _ _ _ _ _]) [(0,0),(1,0),(2,0),(3,0),(4,0),(5,0),(6,0),(7,0),(8,0),(9,1),(10,1),(11,1),(12,1),(13,0)] _ (aA (ak (ak (ak (ak (ak (ak aB)))))) (aA (ak (ak (ak (ak (ak (ak aB)))))) (List.Perm.refl _))) (by kernel_rfl) rfl (ae hb57 fun x64 hx64 hb57=>ae hb57 fun x65 hx65 hb57=>cP 10 [3,0,4,1,5] (rg 98 6) [(95,pO a50 l49.length c51),(96,.agg [pL eI p3.partners,.v (.map (some m3_set_))]),(97,.agg (aZ x62.1)),(104,pI x64)] (bR 9 (pg hx64) bN) (by kernel_rfl) ?_))))))))))))))))))
      refine kY rfl rfl rfl (bc rfl rfl (ρ1:=[_]) (aA (by exact aB) (List.Perm.refl _)) (iq hx65) ?_);rintro _ _ ⟨rfl,rfl⟩
      refine kY rfl rfl rfl (bI rfl rfl rfl rfl rfl (gw rfl jO) rfl rfl rfl rfl (fun b66=>ae hb57 fun l68 hl68 hb57=>?_))
      refine kY rfl rfl rfl (bX (enc:=Zd.enc) rfl rfl rfl rfl rfl rfl rfl rfl rfl gx (by exact ak (ak aB)) hl68 (fun a69 c70=>?_))
      refine iA 1 [(10,pO a69 l68.length c70)] (by kernel_rfl) (da (gC (ah [108] [(84,pI (IntKind.i64.wrap (v52+1)))] (by kernel_rfl) ?_)))
      exact bh hb57 (a69,c70) (iY rfl (iY rfl (iY rfl (iY rfl (DR rfl))))) (be (ak (ak (ak (ak (ak aB))))) (be (ak (ak (ak (ak (ak aB))))) (be (ak (ak (ak (ak (ak aB))))) (be (ak (ak (ak (ak (ak aB))))) (be (ak (ak aB)) dC)))))
     refine aV ?_
     refine aw (ap hb57 (fun ht=>au rfl ?_))
     exact iZ ((a50,c51),l49) (qW rfl) (be aB (be aB (be (ak (ak aB)) (be (ak (ak aB)) cd)))) ht.symm
    rintro ⟨⟨a54,c55⟩,l56⟩ τ ρ1 hsub72 hz;(try dsimp only at hz hsub72);subst q58;(try dsimp only at hq28);dsimp only [aF]
    refine aG ?_
    obtain rfl:=osi hq28
    exact aH ((a54,c55),(l56,l35)) (qW rfl) (PSub.trans F4 hsub72) rfl
   rintro ⟨⟨a24,c25⟩,⟨l26,l27⟩⟩ τ hz;(try dsimp only at hz);subst q28;(try dsimp only at hb19);dsimp only [aF]
   refine ah [109] [(30,pI (IntKind.i64.wrap (v13+1)))] (by kernel_rfl) ?_
   exact bh hb19 (a24,c25) (qW rfl) F4
  refine aV ?_
  refine aw (ap hb19 (fun ht=>au rfl ?_))
  exact aH ((a10,c11),(l9,l12)) (sX rfl) (be (ak (ak aB)) (be (ak (ak aB)) cd)) ht.symm
 rintro ⟨⟨a15,c16⟩,⟨l17,l18⟩⟩ τ hz;(try dsimp only at hz);subst q20;(try dsimp only at h);dsimp only [aF]
 refine af (cC (ρd:=[]) [(0,0),(1,0),(2,0),(3,0),(4,0),(5,0),(6,0),(7,0)] _ (List.Perm.refl _) (by kernel_rfl) rfl (ae h fun l73 hl73 h=>cP 8 [] (rg 110 6) [(8,pO a15 l17.length c16),(9,pL eS l73)] (fosl 5 eS 1 (fun _=>rfl) hl73 bN) (by kernel_rfl) (da (aM ?_))))
 refine fB (enc:=Zd.enc) (xs:=l17) 8 rfl (by exact ak aB) ?_
 refine bV ?_
 obtain rfl:=osi h
 exact aK (di (aL rfl) (aL rfl)) (be (ak aB) cd) ⟨rfl,rfl⟩
def fg (p0:(List Zc)) (p1:(List Zb)) (p2:ByteArray) (p3:Za) (p4:(List Za)):Option (Zl×(List Za)):=(cg p0 p1 p2 p3).bind fun x3=>cond (!x3) (some ((⟨ByteArray.empty,0,false,[],[]⟩:Zl),[])) ((cO p0 p3.Product).bind fun x5=>(ey p1 p3.Agreement).bind fun x7=>(eo p1 p3.Agreement x5.1.Country p2).bind fun x9=>(aN (S:=Int×(List (Za×Bool))) (T:=((List (Za×Bool)))) (fun (v12,l13)=>cond (decide (v12<(p4.length:Int))) ((idx p4 v12).bind fun m18=>some (.inl ((IntKind.i64.wrap (v12+1)),(nO l13 m18 true)))) (some (.inr l13))) FUEL (0,([]:List (Za×Bool)))).bind fun l14=>(ff p0 x7.1 x5.1 (⟨x9,l14⟩:Zt)).bind fun x20=>(aN (S:=(List Za)×Int×(List Zm)) (T:=((List Za)×(List Zm))) (fun (l23,v26,l28)=>cond (decide (v26<(x20.1.length:Int))) (((idx x20.1 v26).bind fun m53=>(Icumulation_supply_input m53).bind fun x54=>(app 32 l28 [x54]).bind fun l57=>cond (Zd.is_proved_ m53) ((app 16 l23 [(((Zd.as_proved_ m53)).premise)]).bind fun l65=>some (l65,l57)) (some (l23,l57))).bind fun (l47,l51)=>some (.inl (l47,(IntKind.i64.wrap (v26+1)),l51))) (some (.inr (l23,l28)))) FUEL (([]:List Za),0,([]:List Zm))).bind fun (l34,l38)=>(br l34).bind fun x69=>(bw x69).bind fun x70=>some ((⟨x5.1.Code,x5.1.Price,x5.1.Obtained,x20.2,l38⟩:Zl),x70))
theorem p6 {p0:(List Zc)} {p1:(List Zb)} {p2:ByteArray} {p3:Za} {p4:(List Za)} {r:(Zl×(List Za))}  (h:fg p0 p1 p2 p3 p4=some r):PF 17 [pL Zc.enc p0,pL Zb.enc p1,pS p2,.agg [pI p3.Product,pI p3.Agreement],pL Za.enc p4] (.tup [.agg (bL r.1),pL Za.enc r.2]):=by
 unfold fg at h
 refine bv ?_
 refine fh Tryz.func17 rfl Tryz.ntmps17 Tryz.results17 rfl (aa (aj rfl (bu (cs:=[pI p3.Product,pI p3.Agreement]) rfl rfl (fun b1=>aj rfl (aU (cs:=[pS ByteArray.empty,pI 0,pB false,pN,pN]) rfl rfl rfl rfl (fun b2=>bo [11] (by kernel_rfl) (dn (ae h fun x3 hx3 h=>av [1] (rg 27 5) [(32,pB (!x3))] (bR 4 (eQ hx3) bN) (by kernel_rfl) (cG rfl h (fun hc4 h=>?_) fun hc4 h=>?_)))))))))
 ·refine af ?_
  refine aa (ar 1 [(33,.agg [pS ByteArray.empty,pI 0,pB false,pN,pN])] (by kernel_rfl) (aW rfl rfl (an (vs:=[pS ByteArray.empty,pI 0,pB false,pN,pN]) rfl rfl rfl rfl rfl cR EG (aQ [(11,pN)] (by kernel_rfl) (aM (dV (k:=3) (b:=b2) rfl cR (dV (k:=4) (b:=b2) rfl cR (iO 11 rfl (bV (am ?_))))))))))
  obtain rfl:=osi h
  exact aK (di (gy rfl gx rfl) (aL rfl)) cd ⟨rfl,rfl⟩
 refine ai ?_
 refine dD h fun x5 hx5 h=>aa (bg 7 [1] [35,36,37,38,34] [(39,.agg (aZ x5.1)),(40,pB x5.2)] (bR 3 (eJ hx5) bN) (by kernel_rfl) (aj rfl (aU (cs:=[pI 0,pS ByteArray.empty,pS ByteArray.empty,pI 0,pB false,pN,pN]) rfl rfl rfl rfl (fun b6=>aW rfl rfl (an (vs:=(aZ x5.1)) rfl rfl rfl rfl rfl cR qu (bo [13] (by kernel_rfl) (dD h fun x7 hx7 h=>aa (bg 7 [2] [42,43,44,45,41] [(46,.agg (aS x7.1)),(47,pB x7.2)] (bR 3 (gZ hx7) bN) (by kernel_rfl) (aj rfl (aU (cs:=[pI 0,pI 0,pN,pN]) rfl rfl rfl rfl (fun b8=>aW rfl rfl (an (vs:=(aS x7.1)) rfl rfl rfl rfl rfl cR AB (bo [15] (by kernel_rfl) (dD h fun x9 hx9 h=>aa (bg 7 [3,1] (rg 48 6) [(54,pL eI x9)] (bR 6 (kf hx9) bN) (by kernel_rfl) (aj rfl (mY Za.key vT rfl (fun b10=>ar 1 [(56,.agg [pL eI x9,.v (.map (some b10))])] (by kernel_rfl) (aj rfl (aU (cs:=[pN,.v (.map none)]) rfl rfl rfl rfl (fun b11=>aW rfl rfl (an (vs:=[pL eI x9,.v (.map (some b10))]) rfl rfl rfl rfl rfl cR AU (aq (dn (al [(57,pL Za.enc p4),(58,pI (p4.length:Int)),(59,pI 0)] (by kernel_rfl) (jB h fun q16 hq16 h=>?_))))))))))))))))))))))))))
 refine az (Y:=Unit×((List (Za×Bool)))) (fun (_,l14)=>[(0,pL Zc.enc p0),(10,pP b2 0),(12,pP b6 0),(14,pP b8 0),(16,pP b11 0)]) (fun (_,l14)=>[PRes.mp (some b10) (e7 Za.key vT l14),PRes.b b11 96 [pL eI x9,.v (.map (some b10))],PRes.b b2 36 [pS ByteArray.empty,pI 0,pB false,pN,pN],PRes.b b6 76 (aZ x5.1),PRes.b b8 81 (aS x7.1)]) (fun (_,l14)=>q16=l14) ?_ ?_
 ·refine aJ ?_
  refine aP (Y:=Unit) (S:=Int×(List (Za×Bool))) _ hq16 (fun _ (v12,l13)=>[(0,pL Zc.enc p0),(10,pP b2 0),(12,pP b6 0),(14,pP b8 0),(16,pP b11 0),(57,pL Za.enc p4),(58,pI (p4.length:Int)),(59,pI v12)]) (fun _ (v12,l13)=>[PRes.mp (some b10) (e7 Za.key vT l13),PRes.b b11 96 [pL eI x9,.v (.map (some b10))],PRes.b b2 36 [pS ByteArray.empty,pI 0,pB false,pN,pN],PRes.b b6 76 (aZ x5.1),PRes.b b8 81 (aS x7.1)]) () (qW rfl) (be (ak aB) (be aB (be (ak (ak aB)) (be (ak aB) dC)))) ?_
  rintro _ ⟨v12,l13⟩ o τ hb15;(try dsimp only at hb15);dsimp only [aF]
  refine af (al [(60,pB (decide (v12<(p4.length:Int))))] (by kernel_rfl) (bP (jX rfl hb15 (fun hc17 hb15=>?_) fun hc17 hb15=>?_)))
  ·refine ai ?_
   refine bP (iM (ae hb15 fun m18 hm18 hb15=>aa (bg 2 [] [61] [(62,.agg [pI m18.Product,pI m18.Agreement])] (eO 0 Za.enc hm18 bN) (by kernel_rfl) (aj rfl (aU (cs:=[pI 0,pI 0]) rfl rfl rfl rfl (fun b19=>aW rfl rfl (an (vs:=[pI m18.Product,pI m18.Agreement]) rfl rfl rfl rfl rfl cR AU (aq (aM (aa (co 3 [2,0] [63] [(64,.v (.map (some b10))),(65,.agg [pI m18.Product,pI m18.Agreement])] (by kernel_rfl) (aW rfl rfl (lQ (xs:=l13) (k:=m18) (ek:=Za.key) (vv:=vT) (v:=true) rfl rfl Za.kenc28 rfl rfl pC rfl (dh cR) (aq (gC (ah [66] [(59,pI (IntKind.i64.wrap (v12+1)))] (by kernel_rfl) ?_))))))))))))))))
   exact bh hb15 () (qW rfl) (be (ak aB) (be (ak aB) (be (ak aB) (be (ak aB) (be (ak aB) cd)))))
  refine aV ?_
  refine aw (ap hb15 (fun ht=>au rfl ?_))
  exact aH ((),l13) (nG rfl) zs5 ht.symm
 rintro ⟨_,l14⟩ τ hz;(try dsimp only at hz);subst q16;(try dsimp only at h);dsimp only [aF]
 refine af (ae h fun x20 hx20 h=>aa (gg 4 [4,3,1] [(68,pL Zc.enc p0),(69,.agg (aS x7.1)),(70,.agg (aZ x5.1)),(71,.agg [pL eI x9,.v (.map (some b10))])] (by kernel_rfl) ?_))
 refine aj rfl (bc rfl rfl (ρ1:=[_]) (aA (by exact aB) (List.Perm.refl _)) (ln hx20) ?_);rintro _ _ ⟨rfl,rfl⟩
 refine gf [67,73,74] [(19,pL Zd.enc x20.1),(20,pL eS x20.2)] (by kernel_rfl) (bP (aa (co 8 [3,3,3] (rg 75 7) [(82,.agg [pS x5.1.Code,pI x5.1.Price,pB x5.1.Obtained,pL eS x20.2,pN])] (by kernel_rfl) (aj rfl (aU (cs:=[pS ByteArray.empty,pI 0,pB false,pN,pN]) rfl rfl rfl rfl (fun b21=>aW rfl rfl (an (vs:=[pS x5.1.Code,pI x5.1.Price,pB x5.1.Obtained,pL eS x20.2,pN]) rfl rfl rfl rfl rfl cR EG (aq (bP (al [(22,pN)] (by kernel_rfl) (dn (al [(83,pL Zd.enc x20.1),(84,pI (x20.1.length:Int)),(85,pI 0)] (by kernel_rfl) (aM (ca 28 2 (ca 103 3 (ae h fun q40 hq40 h=>?_))))))))))))))))
 refine az (Y:=(Option Addr×Nat×Option Addr×Nat)×((List Za)×(List Zm))) (fun ((a32,c33,a36,c37),(l34,l38))=>[(10,pP b2 0),(21,pP b21 0),(22,pO a32 l34.length c33)]) (fun ((a32,c33,a36,c37),(l34,l38))=>[PRes.b b2 36 [pS ByteArray.empty,pI 0,pB false,pN,pN],PRes.b b21 36 [pS x5.1.Code,pI x5.1.Price,pB x5.1.Obtained,pL eS x20.2,pO a36 l38.length c37],PRes.row a32 l34.length c33 28 2 (List.map Za.enc l34),PRes.row a36 l38.length c37 103 3 (List.map Zm.enc l38)]) (fun ((a32,c33,a36,c37),(l34,l38))=>q40=(l34,l38)) ?_ ?_
 ·refine aJ ?_
  refine aP (Y:=Option Addr×Nat×Option Addr×Nat) (S:=(List Za)×Int×(List Zm)) _ hq40 (fun (a24,c25,a29,c30) (l23,v26,l28)=>[(10,pP b2 0),(21,pP b21 0),(22,pO a24 l23.length c25),(83,pL Zd.enc x20.1),(84,pI (x20.1.length:Int)),(85,pI v26)]) (fun (a24,c25,a29,c30) (l23,v26,l28)=>[PRes.b b2 36 [pS ByteArray.empty,pI 0,pB false,pN,pN],PRes.b b21 36 [pS x5.1.Code,pI x5.1.Price,pB x5.1.Obtained,pL eS x20.2,pO a29 l28.length c30],PRes.row a24 l23.length c25 28 2 (List.map Za.enc l23),PRes.row a29 l28.length c30 103 3 (List.map Zm.enc l28)]) (none,0,none,0) (uH rfl) (be (ak (ak (ak (ak (ak aB))))) (be (ak (ak aB)) (be (ak aB) dC))) ?_
  rintro ⟨a24,c25,a29,c30⟩ ⟨l23,v26,l28⟩ o τ hb39;(try dsimp only at hb39);dsimp only [aF]
  refine af (al [(86,pB (decide (v26<(x20.1.length:Int))))] (by kernel_rfl) (bP (jX rfl hb39 (fun hc43 hb39=>?_) fun hc43 hb39=>?_)))
  ·refine ai ?_
   refine dD hb39 fun q52 hq52 hb39=>?_
   refine az (Y:=(Option Addr×Nat×Option Addr×Nat)×((List Za)×(List Zm))) (fun ((a45,c46,a49,c50),(l47,l51))=>[(10,pP b2 0),(21,pP b21 0),(22,pO a45 l47.length c46),(83,pL Zd.enc x20.1),(84,pI (x20.1.length:Int)),(85,pI v26)]) (fun ((a45,c46,a49,c50),(l47,l51))=>[PRes.b b2 36 [pS ByteArray.empty,pI 0,pB false,pN,pN],PRes.b b21 36 [pS x5.1.Code,pI x5.1.Price,pB x5.1.Obtained,pL eS x20.2,pO a49 l51.length c50],PRes.row a45 l47.length c46 28 2 (List.map Za.enc l47),PRes.row a49 l51.length c50 103 3 (List.map Zm.enc l51)]) (fun ((a45,c46,a49,c50),(l47,l51))=>q52=(l47,l51)) ?_ ?_
   ·skip
    refine iM (ae hq52 fun m53 hm53 hq52=>av [] [87,88] [(24,Zd.pv m53)] (eO 0 Zd.enc hm53 bN) (by kernel_rfl) (dD hq52 fun x54 hx54 hq52=>ae hq52 fun l57 hl57 hq52=>?_))
    refine az (Y:=Option Addr×Nat) (fun (a58,c59)=>[(10,pP b2 0),(21,pP b21 0),(22,pO a24 l23.length c25),(24,Zd.pv m53),(83,pL Zd.enc x20.1),(84,pI (x20.1.length:Int)),(85,pI v26)]) (fun (a58,c59)=>[PRes.b b2 36 [pS ByteArray.empty,pI 0,pB false,pN,pN],PRes.b b21 36 [pS x5.1.Code,pI x5.1.Price,pB x5.1.Obtained,pL eS x20.2,pO a58 l57.length c59],PRes.row a24 l23.length c25 28 2 (List.map Za.enc l23),PRes.row a58 l57.length c59 103 3 (List.map Zm.enc l57)]) (fun _=>True) ?_ ?_
    ·refine ml (ρd:=[PRes.row a29 _ _ _ _ _,PRes.b b21 _ _]) _ (aA (ak (ak (ak aB))) (aA (ak aB) (List.Perm.refl _))) ?_
     refine cY 0 (by kernel_rfl) rfl rfl rfl rfl (bq rfl rfl rfl rfl rfl (.p rfl)) (cY 2 (by kernel_rfl) rfl rfl rfl rfl (fb (p:=Zd.pv m53) rfl (.p rfl)) ?_)
     refine iP 1 3 (by kernel_rfl) ?_ ?_
     ·skip
      refine bf rfl rfl rfl rfl (nk (cK (p:=pO a29 l28.length c30) rfl (.p rfl) tX rfl) (bi 3 (by kernel_rfl) (bf rfl rfl rfl rfl (qv rfl rfl (Icumulation_supply_input_ok hx54) (bi 4 (by kernel_rfl) (bf rfl rfl rfl rfl (bI rfl rfl rfl rfl rfl (gw rfl jO) rfl rfl rfl rfl (fun b55=>bi 5 (by kernel_rfl) ?_))))))))
      refine bf rfl rfl rfl rfl (bX (enc:=Zm.enc) rfl rfl rfl rfl rfl rfl rfl rfl rfl gx (by exact ak aB) hl57 (fun a58 c59=>?_))
      refine cY 6 (by kernel_rfl) rfl rfl rfl rfl (bq rfl rfl rfl rfl rfl (.p rfl)) (bi 7 (by kernel_rfl) (dX rfl rfl rfl (an (vs:=[pO a58 l57.length c59]) rfl rfl rfl rfl rfl (dh (dh cR)) (eg (eg (eg (eg og)))) (dW (by kernel_rfl) ?_))))
      exact aH (a58,c59) (rF rfl) (be (ak (ak (ak aB))) (be (ak (ak aB)) (be (ak (ak aB)) dC))) trivial
     skip
     refine bf rfl rfl rfl rfl (qv rfl rfl (Icumulation_supply_input_ok hx54) ?_)
     refine iP 1 4 (by kernel_rfl) ?_ ?_
     ·skip
      refine bf rfl rfl rfl rfl (nk (cK (p:=pO a29 l28.length c30) rfl (.p rfl) tX rfl) (bi 4 (by kernel_rfl) (bf rfl rfl rfl rfl (bI rfl rfl rfl rfl rfl (gw rfl jO) rfl rfl rfl rfl (fun b55=>bi 5 (by kernel_rfl) ?_)))))
      refine bf rfl rfl rfl rfl (bX (enc:=Zm.enc) rfl rfl rfl rfl rfl rfl rfl rfl rfl gx (by exact ak aB) hl57 (fun a58 c59=>?_))
      refine cY 6 (by kernel_rfl) rfl rfl rfl rfl (bq rfl rfl rfl rfl rfl (.p rfl)) (bi 7 (by kernel_rfl) (dX rfl rfl rfl (an (vs:=[pO a58 l57.length c59]) rfl rfl rfl rfl rfl (dh (dh cR)) (eg (eg (eg (eg og)))) (dW (by kernel_rfl) ?_))))
      exact aH (a58,c59) (rF rfl) (be (ak (ak (ak aB))) (be (ak (ak aB)) (be (ak (ak aB)) dC))) trivial
     skip
     refine bf rfl rfl rfl rfl (bI rfl rfl rfl rfl rfl (gw rfl jO) rfl rfl rfl rfl (fun b55=>bi 1 (by kernel_rfl) (bf rfl rfl rfl rfl (nk (cK (p:=pO a29 l28.length c30) rfl (.p rfl) sm rfl) (bi 5 (by kernel_rfl) ?_)))))
     refine bf rfl rfl rfl rfl (bX (enc:=Zm.enc) rfl rfl rfl rfl rfl rfl rfl rfl rfl gx (by exact ak aB) hl57 (fun a58 c59=>?_))
     refine cY 6 (by kernel_rfl) rfl rfl rfl rfl (bq rfl rfl rfl rfl rfl (.p rfl)) (bi 7 (by kernel_rfl) (dX rfl rfl rfl (an (vs:=[pO a58 l57.length c59]) rfl rfl rfl rfl rfl (dh (dh cR)) (eg (eg (eg (eg og)))) (dW (by kernel_rfl) ?_))))
     exact aH (a58,c59) (rF rfl) (be (ak (ak (ak aB))) (be (ak (ak aB)) (be (ak (ak aB)) dC))) trivial
    rintro ⟨a58,c59⟩ τ _;dsimp only [aF]
    refine af (aa (bg 5 [] [97,98,96] [(99,.agg [pS ((((Zd.as_proved_ m53)).use).Code),pI ((((Zd.as_proved_ m53)).use).Value),pB ((((Zd.as_proved_ m53)).use).Originating),pI ((((Zd.as_proved_ m53)).premise).Product),pI ((((Zd.as_proved_ m53)).premise).Agreement)]),(100,pB (Zd.is_proved_ m53))] (fota 1 (Zd.ta_proved_ m53) bN) (by kernel_rfl) (aj rfl (aU (cs:=[pS ByteArray.empty,pI 0,pB false,pI 0,pI 0]) rfl rfl rfl rfl (fun b61=>aW rfl rfl (an (vs:=[pS ((((Zd.as_proved_ m53)).use).Code),pI ((((Zd.as_proved_ m53)).use).Value),pB ((((Zd.as_proved_ m53)).use).Originating),pI ((((Zd.as_proved_ m53)).premise).Product),pI ((((Zd.as_proved_ m53)).premise).Agreement)]) rfl rfl rfl rfl rfl cR EG (aQ [(26,pB (Zd.is_proved_ m53))] (by kernel_rfl) (bP (al [(101,pB (Zd.is_proved_ m53))] (by kernel_rfl) (cG rfl hq52 (fun hc62 hq52=>?_) fun hc62 hq52=>?_))))))))))
    ·refine aa ?_
     refine co 3 [0] [103] [(102,pO a24 l23.length c25),(104,.agg [pI ((((Zd.as_proved_ m53)).premise).Product),pI ((((Zd.as_proved_ m53)).premise).Agreement)])] (by kernel_rfl) (aj rfl (bI rfl rfl rfl rfl rfl (gw rfl jO) rfl rfl rfl rfl (fun b63=>ae hq52 fun l65 hl65 hq52=>?_)))
     refine aj rfl (bX (enc:=Za.enc) rfl rfl rfl rfl rfl rfl rfl rfl rfl gx (by exact ak (ak (ak (ak aB)))) hl65 (fun a66 c67=>?_))
     refine aQ [(22,pO a66 l65.length c67)] (by kernel_rfl) (aG ?_)
     obtain rfl:=osi hq52
     exact aH ((a66,c67,a58,c59),(l65,l57)) (uH rfl) (be (ak (ak (ak aB))) (be (ak (ak (ak aB))) (be aB (be (ak (ak aB)) cd)))) rfl
    refine ai ?_
    refine aG ?_
    obtain rfl:=osi hq52
    exact aH ((a24,c25,a58,c59),(l23,l57)) (uH rfl) (be (ak aB) (be (ak aB) (be (ak aB) (be (ak aB) cd)))) rfl
   rintro ⟨⟨a45,c46,a49,c50⟩,⟨l47,l51⟩⟩ τ hz;(try dsimp only at hz);subst q52;(try dsimp only at hb39);dsimp only [aF]
   refine ah [107] [(85,pI (IntKind.i64.wrap (v26+1)))] (by kernel_rfl) ?_
   exact bh hb39 (a45,c46,a49,c50) (uH rfl) F4
  refine aV ?_
  refine aw (ap hb39 (fun ht=>au rfl ?_))
  exact aH ((a24,c25,a29,c30),(l23,l28)) (AV rfl) F4 ht.symm
 rintro ⟨⟨a32,c33,a36,c37⟩,⟨l34,l38⟩⟩ τ hz;(try dsimp only at hz);subst q40;(try dsimp only at h);dsimp only [aF]
 refine af (ae h fun x69 hx69 h=>aa (ar 1 [(108,pO a32 l34.length c33)] (by kernel_rfl) ?_))
 refine aj rfl (bc rfl rfl (ρ1:=[_]) (aA (by exact ak (ak aB)) (List.Perm.refl _)) (bW hx69) ?_);rintro _ _ ⟨rfl,rfl⟩
 refine aq (bP ?_)
 refine tV (css:=List.map Zm.enc l38) (a:=a36) (by exact ak (ak (ak aB))) ?_
 refine sf (k:=4) (enc:=Zm.enc) (xs:=l38) (b:=b21) (a:=a36) rfl gx (dh (dh (dh cR))) (cC (ρd:=[PRes.row a32 _ _ _ _ _,PRes.b b2 _ _]) [(0,0),(1,0),(2,1),(3,1),(4,0)] _ (aA (ak aB) (aA (ak aB) (List.Perm.refl _))) (by kernel_rfl) rfl (ae h fun x70 hx70 h=>zA 2 [1] [(110,.agg [pS x5.1.Code,pI x5.1.Price,pB x5.1.Obtained,pL eS x20.2,pL Zm.enc l38]),(111,pO a32 l34.length c33)] (by kernel_rfl) ?_))
 refine kY rfl rfl rfl (bc rfl rfl (ρ1:=[_]) (aA (by exact aB) (List.Perm.refl _)) (dg hx70) ?_);rintro _ _ ⟨a71,c72,rfl,rfl⟩
 refine AP rfl rfl (an (vs:=[pS x5.1.Code,pI x5.1.Price,pB x5.1.Obtained,pL eS x20.2,pL Zm.enc l38]) rfl rfl rfl rfl rfl (dh cR) EG (iA 1 [(11,pO a71 x70.length c72)] (by kernel_rfl) (da (aM ?_))))
 refine fB (enc:=Za.enc) (xs:=x70) 11 rfl (by exact aB) ?_
 refine bV ?_
 obtain rfl:=osi h
 exact aK (di (gy rfl tX rfl) (aL rfl)) cd ⟨rfl,rfl⟩
def iJ (p0:ByteArray):Option Bool:=(dJ p0).bind fun x1=>some (decide (6≤x1))
theorem nc {p0:ByteArray} {r:Bool}  (h:iJ p0=some r):PF 62 [pS p0] (pB r):=by
 unfold iJ at h
 refine bv ?_
 refine fh Tryz.func62 rfl Tryz.ntmps62 Tryz.results62 rfl (bd [2] (by kernel_rfl) (dD h fun x1 hx1 h=>av [] [3,4,5] [(2,pB (decide (6≤x1)))] (bR 1 (fQ hx1) bN) (by kernel_rfl) (eD ?_)))
 exact zz r h rfl
def gt (p0:Zl):Option Int:=(iJ p0.Code).bind fun x2=>cond (!x2) (some (1:Int)) (cond ((decide (p0.Price<1))||(decide (1000000000000<p0.Price))) (some (2:Int)) ((dO p0.Processes).bind fun x5=>cond (!x5) (some (1:Int)) (cond (decide (100<(p0.Inputs.length:Int))) (some (8:Int)) ((aN (S:=Int) (T:=(Unit)⊕(_)) (fun v8=>cond (decide (v8<(p0.Inputs.length:Int))) ((idx p0.Inputs v8).bind fun m12=>(iJ m12.Code).bind fun x14=>cond (!x14) (some (.inr (.inr (1:Int)))) (cond ((decide (m12.Value<0))||(decide (1000000000000<m12.Value))) (some (.inr (.inr (2:Int)))) (some (.inl (IntKind.i64.wrap (v8+1)))))) (some (.inr (.inl ())))) FUEL 0).bind fun q=>match q with | .inl _=>some (0:Int) | .inr e=>some e))))
theorem p7 {p0:Zl} {r:Int}  (h:gt p0=some r):PF 21 [.agg (bL p0)] (pI r):=by
 unfold gt at h
 refine bv ?_
 refine fh Tryz.func21 rfl Tryz.ntmps21 Tryz.results21 rfl (aa (aj rfl (bu (cs:=(bL p0)) rfl rfl (fun b1=>bo [2] (by kernel_rfl) (bP (iM (ae h fun x2 hx2 h=>av [0] [6,7,8,9] [(5,pB (!x2))] (bR 2 (nc hx2) bN) (by kernel_rfl) (cG rfl h (fun hc3 h=>?_) fun hc3 h=>?_))))))))
 ·refine af ?_
  refine fY [(2,pI 1)] (by kernel_rfl) (ja ?_)
  exact zz r h rfl
 refine af ?_
 refine bj [0,0] (rg 11 8) [(10,pB ((decide (p0.Price<1))||(decide (1000000000000<p0.Price))))] (by kernel_rfl) (cG rfl h (fun hc4 h=>?_) fun hc4 h=>?_)
 ·refine af ?_
  refine fY [(2,pI 2)] (by kernel_rfl) (ja ?_)
  exact zz r h rfl
 refine af ?_
 refine ae h fun x5 hx5 h=>av [0] [20,21,22,23] [(19,pB (!x5))] (bR 2 (i5 hx5) bN) (by kernel_rfl) (cG rfl h (fun hc6 h=>?_) fun hc6 h=>?_)
 ·refine af ?_
  refine fY [(2,pI 1)] (by kernel_rfl) (ja ?_)
  exact zz r h rfl
 refine af ?_
 refine bj [0] [25,26,27,28] [(24,pB (decide (100<(p0.Inputs.length:Int))))] (by kernel_rfl) (cG rfl h (fun hc7 h=>?_) fun hc7 h=>?_)
 ·refine af ?_
  refine fY [(2,pI 8)] (by kernel_rfl) (ja ?_)
  exact zz r h rfl
 refine ai ?_
 refine aG (dn (bj [0] [29] [(30,pL Zm.enc p0.Inputs),(31,pI (p0.Inputs.length:Int)),(32,pI 0)] (by kernel_rfl) (jB h fun q10 hq10 h=>?_)))
 refine az (Y:=Unit×Unit) (fun (_,_)=>[]) (fun (_,_)=>[]) (fun (_,_)=>q10=Sum.inl ()) ?_ ?_
 ·refine aJ ?_
  refine aP (Y:=Unit) (S:=Int) _ hq10 (fun _ v8=>[(30,pL Zm.enc p0.Inputs),(31,pI (p0.Inputs.length:Int)),(32,pI v8)]) (fun _ v8=>[]) () (AV rfl) cd ?_
  rintro _ v8 o τ hb9;(try dsimp only at hb9);dsimp only [aF]
  refine af (al [(33,pB (decide (v8<(p0.Inputs.length:Int))))] (by kernel_rfl) (bP (jX rfl hb9 (fun hc11 hb9=>?_) fun hc11 hb9=>?_)))
  ·refine ai ?_
   refine bP (iM (ae hb9 fun m12 hm12 hb9=>aa (bg 2 [] [34] [(35,.agg [pS m12.Code,pI m12.Value,pB m12.Originating])] (eO 0 Zm.enc hm12 bN) (by kernel_rfl) (aj rfl (aU (cs:=[pS ByteArray.empty,pI 0,pB false]) rfl rfl rfl rfl (fun b13=>aW rfl rfl (an (vs:=[pS m12.Code,pI m12.Value,pB m12.Originating]) rfl rfl rfl rfl rfl cR zl3 (aq (dn (ae hb9 fun x14 hx14 hb9=>av [0] [36,37,38] [(39,pB (!x14))] (bR 2 (nc hx14) bN) (by kernel_rfl) (cG rfl hb9 (fun hc15 hb9=>?_) fun hc15 hb9=>?_)))))))))))
   ·refine af ?_
    refine fY [(2,pI 1)] (by kernel_rfl) (am (ja ?_))
    refine aX hb9 (fun ht=>?_);subst ht
    refine aC (aY ?_)
    exact zz r h rfl
   refine ai ?_
   refine bP (bj [0,0] (rg 40 7) [(47,pB ((decide (m12.Value<0))||(decide (1000000000000<m12.Value))))] (by kernel_rfl) (cG rfl hb9 (fun hc16 hb9=>?_) fun hc16 hb9=>?_))
   ·refine af ?_
    refine fY [(2,pI 2)] (by kernel_rfl) (ja ?_)
    refine aX hb9 (fun ht=>?_);subst ht
    refine aC (aY ?_)
    exact zz r h rfl
   refine ai ?_
   refine gC (ah [48] [(32,pI (IntKind.i64.wrap (v8+1)))] (by kernel_rfl) ?_)
   exact bh hb9 () (AV rfl) cd
  refine aV ?_
  refine aw (ap hb9 (fun ht=>au rfl ?_))
  exact aH ((),()) rt cd ht.symm
 rintro ⟨_,_⟩ τ hz;(try dsimp only at hz);subst q10;(try dsimp only at h);dsimp only [aF]
 refine af (fY [(2,pI 0)] (by kernel_rfl) ?_)
 exact zz r h rfl
def dz (p0:(List Zi)):Option Int:=(aN (S:=Int) (T:=(Unit)⊕(_)) (fun v1=>cond (decide (v1<(p0.length:Int))) ((idx p0 v1).bind fun m5=>(dJ m5.Prefix).bind fun x7=>cond (x7 == 0) (some (.inr (.inr (1:Int)))) ((gd (decide (0<v1)) (idx p0 (IntKind.i64.wrap (v1 - 1)))).bind fun m9=>cond ((decide (0<v1))&&(Op.bytesLess m5.Prefix.toList m9.Prefix.toList||decide (m5.Prefix=m9.Prefix))) (some (.inr (.inr (9:Int)))) ((fw m5.Rule).bind fun x11=>cond (x11 != 0) (some (.inr (.inr x11))) (some (.inl (IntKind.i64.wrap (v1+1))))))) (some (.inr (.inl ())))) FUEL 0).bind fun q=>match q with | .inl _=>some (0:Int) | .inr e=>some e
theorem mg {p0:(List Zi)} {r:Int}  (h:dz p0=some r):PF 112 [pL Zi.enc p0] (pI r):=by
 unfold dz at h
 refine bv ?_
 refine fh Tryz.func112 rfl Tryz.ntmps112 Tryz.results112 rfl (bd [2] (by kernel_rfl) (dn (al [(6,pL Zi.enc p0),(7,pI (p0.length:Int)),(8,pI 0)] (by kernel_rfl) (jB h fun q3 hq3 h=>?_))))
 refine az (Y:=Unit×Unit) (fun (_,_)=>[]) (fun (_,_)=>[]) (fun (_,_)=>q3=Sum.inl ()) ?_ ?_
 ·refine aJ ?_
  refine aP (Y:=Unit) (S:=Int) _ hq3 (fun _ v1=>[(0,pL Zi.enc p0),(6,pL Zi.enc p0),(7,pI (p0.length:Int)),(8,pI v1)]) (fun _ v1=>[]) () (kQ rfl) cd ?_
  rintro _ v1 o τ hb2;(try dsimp only at hb2);dsimp only [aF]
  refine af (al [(9,pB (decide (v1<(p0.length:Int))))] (by kernel_rfl) (bP (jX rfl hb2 (fun hc4 hb2=>?_) fun hc4 hb2=>?_)))
  ·refine ai ?_
   refine bP (iM (ae hb2 fun m5 hm5 hb2=>aa (bg 3 [] [11] [(10,pI v1),(12,.agg (dY m5))] (eO 1 Zi.enc hm5 bN) (by kernel_rfl) (aj rfl (aU (cs:=[pS ByteArray.empty,pI 0,pI 0,pN,pI 0,pI 0,pS ByteArray.empty,pN]) rfl rfl rfl rfl (fun b6=>ar 1 [(3,pI v1)] (by kernel_rfl) (aW rfl rfl (an (vs:=(dY m5)) rfl rfl rfl rfl rfl cR zl8 (aq (dn (ae hb2 fun x7 hx7 hb2=>av [0] [13,14,15] [(16,pB (x7 == 0))] (bR 2 (fQ hx7) bN) (by kernel_rfl) (cG rfl hb2 (fun hc8 hb2=>?_) fun hc8 hb2=>?_))))))))))))
   ·refine af ?_
    refine fY [(2,pI 1)] (by kernel_rfl) (am (ja ?_))
    refine aX hb2 (fun ht=>?_);subst ht
    refine aC (aY ?_)
    exact zz r h rfl
   refine ai ?_
   refine dn (cC (ρd:=[]) [(0,0),(1,0),(2,0),(3,0),(4,0),(5,0),(6,0),(7,0),(8,0),(9,0),(10,0),(11,0),(12,0)] _ (List.Perm.refl _) (by kernel_rfl) rfl (ae hb2 fun m9 hm9 hb2=>cP 13 [0] (rg 17 12) [(29,pB ((decide (0<v1))&&(Op.bytesLess m5.Prefix.toList m9.Prefix.toList||decide (m5.Prefix=m9.Prefix))))] (mX 8 Zi.enc (gS hm9) bN) (by kernel_rfl) (da (cG rfl hb2 (fun hc10 hb2=>?_) fun hc10 hb2=>?_))))
   ·refine af ?_
    refine fY [(2,pI 9)] (by kernel_rfl) (am (ja ?_))
    refine aX hb2 (fun ht=>?_);subst ht
    refine aC (aY ?_)
    exact zz r h rfl
   refine ai ?_
   refine dD hb2 fun x11 hx11 hb2=>av [0] [30,31,32] [(5,pI x11)] (bR 2 (iU hx11) bN) (by kernel_rfl) (bP (ah [33] [(34,pB (x11 != 0))] (by kernel_rfl) (cG rfl hb2 (fun hc12 hb2=>?_) fun hc12 hb2=>?_)))
   ·refine af ?_
    refine ah [35] [(2,pI x11)] (by kernel_rfl) (eD (ja ?_))
    refine aX hb2 (fun ht=>?_);subst ht
    refine aC (aY ?_)
    exact zz r h rfl
   refine ai ?_
   refine gC (ah [36] [(8,pI (IntKind.i64.wrap (v1+1)))] (by kernel_rfl) ?_)
   exact bh hb2 () (kQ rfl) cd
  refine aV ?_
  refine aw (ap hb2 (fun ht=>au rfl ?_))
  exact aH ((),()) rt cd ht.symm
 rintro ⟨_,_⟩ τ hz;(try dsimp only at hz);subst q3;(try dsimp only at h);dsimp only [aF]
 refine af (fY [(2,pI 0)] (by kernel_rfl) ?_)
 exact zz r h rfl
def cS (p0:(List Zb)):Option Int:=cond (decide (8<(p0.length:Int))) (some (8:Int)) ((aN (S:=Int) (T:=(Unit)⊕(_)) (fun v2=>cond (decide (v2<(p0.length:Int))) ((idx p0 v2).bind fun m6=>cond ((((decide (m6.ID<1))||(decide (1000<m6.ID)))||(decide (m6.Kind<1)))||(decide (3<m6.Kind))) (some (.inr (.inr (2:Int)))) ((gd (decide (0<v2)) (idx p0 (IntKind.i64.wrap (v2 - 1)))).bind fun m9=>cond ((decide (0<v2))&&(decide (m6.ID≤m9.ID))) (some (.inr (.inr (9:Int)))) (cond ((decide (12<(m6.Parties.length:Int)))||(decide (12<(m6.Rules.length:Int)))) (some (.inr (.inr (8:Int)))) ((dM m6.Parties).bind fun x12=>cond (!x12) (some (.inr (.inr (1:Int)))) ((dz m6.Rules).bind fun x14=>cond (x14 != 0) (some (.inr (.inr x14))) (some (.inl (IntKind.i64.wrap (v2+1))))))))) (some (.inr (.inl ())))) FUEL 0).bind fun q=>match q with | .inl _=>some (0:Int) | .inr e=>some e)
theorem kg {p0:(List Zb)} {r:Int}  (h:cS p0=some r):PF 64 [pL Zb.enc p0] (pI r):=by
 unfold cS at h
 refine bv ?_
 refine fh Tryz.func64 rfl Tryz.ntmps64 Tryz.results64 rfl (bd [2] (by kernel_rfl) (dn (ah [6,7] [(8,pB (decide (8<(p0.length:Int))))] (by kernel_rfl) (cG rfl h (fun hc1 h=>?_) fun hc1 h=>?_))))
 ·refine af ?_
  refine fY [(2,pI 8)] (by kernel_rfl) (am ?_)
  exact zz r h rfl
 refine ai ?_
 refine dn (al [(9,pL Zb.enc p0),(10,pI (p0.length:Int)),(11,pI 0)] (by kernel_rfl) (jB h fun q4 hq4 h=>?_))
 refine az (Y:=Unit×Unit) (fun (_,_)=>[]) (fun (_,_)=>[]) (fun (_,_)=>q4=Sum.inl ()) ?_ ?_
 ·refine aJ ?_
  refine aP (Y:=Unit) (S:=Int) _ hq4 (fun _ v2=>[(0,pL Zb.enc p0),(9,pL Zb.enc p0),(10,pI (p0.length:Int)),(11,pI v2)]) (fun _ v2=>[]) () (kQ rfl) cd ?_
  rintro _ v2 o τ hb3;(try dsimp only at hb3);dsimp only [aF]
  refine af (al [(12,pB (decide (v2<(p0.length:Int))))] (by kernel_rfl) (bP (jX rfl hb3 (fun hc5 hb3=>?_) fun hc5 hb3=>?_)))
  ·refine ai ?_
   refine bP (iM (ae hb3 fun m6 hm6 hb3=>aa (bg 3 [] [14] [(13,pI v2),(15,.agg (aS m6))] (eO 1 Zb.enc hm6 bN) (by kernel_rfl) (aj rfl (aU (cs:=[pI 0,pI 0,pN,pN]) rfl rfl rfl rfl (fun b7=>ar 1 [(3,pI v2)] (by kernel_rfl) (aW rfl rfl (an (vs:=(aS m6)) rfl rfl rfl rfl rfl cR AB (aq (dn (bj [0,0,0,0] (rg 16 17) [(33,pB ((((decide (m6.ID<1))||(decide (1000<m6.ID)))||(decide (m6.Kind<1)))||(decide (3<m6.Kind))))] (by kernel_rfl) (cG rfl hb3 (fun hc8 hb3=>?_) fun hc8 hb3=>?_))))))))))))
   ·refine af ?_
    refine fY [(2,pI 2)] (by kernel_rfl) (am (ja ?_))
    refine aX hb3 (fun ht=>?_);subst ht
    refine aC (aY ?_)
    exact zz r h rfl
   refine ai ?_
   refine dn (cC (ρd:=[]) [(0,0),(1,0),(2,0),(3,0),(4,0),(5,0),(6,0),(7,0),(8,0),(9,0),(10,0),(11,0),(12,0)] _ (List.Perm.refl _) (by kernel_rfl) rfl (ae hb3 fun m9 hm9 hb3=>cP 13 [0] (rg 34 12) [(46,pB ((decide (0<v2))&&(decide (m6.ID≤m9.ID))))] (mX 8 Zb.enc (gS hm9) bN) (by kernel_rfl) (da (cG rfl hb3 (fun hc10 hb3=>?_) fun hc10 hb3=>?_))))
   ·refine af ?_
    refine fY [(2,pI 9)] (by kernel_rfl) (am (ja ?_))
    refine aX hb3 (fun ht=>?_);subst ht
    refine aC (aY ?_)
    exact zz r h rfl
   refine ai ?_
   refine dn (bj [0,0] (rg 47 9) [(56,pB ((decide (12<(m6.Parties.length:Int)))||(decide (12<(m6.Rules.length:Int)))))] (by kernel_rfl) (cG rfl hb3 (fun hc11 hb3=>?_) fun hc11 hb3=>?_))
   ·refine af ?_
    refine fY [(2,pI 8)] (by kernel_rfl) (am (ja ?_))
    refine aX hb3 (fun ht=>?_);subst ht
    refine aC (aY ?_)
    exact zz r h rfl
   refine ai ?_
   refine dn (ae hb3 fun x12 hx12 hb3=>av [0] [57,58,59] [(60,pB (!x12))] (bR 2 (mK hx12) bN) (by kernel_rfl) (cG rfl hb3 (fun hc13 hb3=>?_) fun hc13 hb3=>?_))
   ·refine af ?_
    refine fY [(2,pI 1)] (by kernel_rfl) (am (ja ?_))
    refine aX hb3 (fun ht=>?_);subst ht
    refine aC (aY ?_)
    exact zz r h rfl
   refine ai ?_
   refine dD hb3 fun x14 hx14 hb3=>av [0] [61,62,63] [(5,pI x14)] (bR 2 (mg hx14) bN) (by kernel_rfl) (bP (ah [64] [(65,pB (x14 != 0))] (by kernel_rfl) (cG rfl hb3 (fun hc15 hb3=>?_) fun hc15 hb3=>?_)))
   ·refine af ?_
    refine ah [66] [(2,pI x14)] (by kernel_rfl) (eD (ja ?_))
    refine aX hb3 (fun ht=>?_);subst ht
    refine aC (aY ?_)
    exact zz r h rfl
   refine ai ?_
   refine gC (ah [67] [(11,pI (IntKind.i64.wrap (v2+1)))] (by kernel_rfl) ?_)
   exact bh hb3 () (kQ rfl) cd
  refine aV ?_
  refine aw (ap hb3 (fun ht=>au rfl ?_))
  exact aH ((),()) rt cd ht.symm
 rintro ⟨_,_⟩ τ hz;(try dsimp only at hz);subst q4;(try dsimp only at h);dsimp only [aF]
 refine af (fY [(2,pI 0)] (by kernel_rfl) ?_)
 exact zz r h rfl
def de (p0:Zc):Option Int:=(dJ p0.Code).bind fun x2=>(gd (!((x2 != 6)&&(x2 != 8))) (bQ p0.Country)).bind fun x3=>(gd (!(((x2 != 6)&&(x2 != 8))||(!x3))) (dO p0.Processes)).bind fun x4=>cond ((((x2 != 6)&&(x2 != 8))||(!x3))||(!x4)) (some (1:Int)) (cond ((decide (p0.Price<1))||(decide (1000000000000<p0.Price))) (some (2:Int)) (cond (decide (8<(p0.Inputs.length:Int))) (some (8:Int)) (cond (p0.Obtained&&(decide (0<(p0.Inputs.length:Int)))) (some (1:Int)) (some (0:Int)))))
theorem lp {p0:Zc} {r:Int}  (h:de p0=some r):PF 118 [.agg (aZ p0)] (pI r):=by
 unfold de at h
 refine bv ?_
 refine fh Tryz.func118 rfl Tryz.ntmps118 Tryz.results118 rfl (aa (aj rfl (bu (cs:=(aZ p0)) rfl rfl (fun b1=>bo [2] (by kernel_rfl) (dD h fun x2 hx2 h=>av [0] [4,5,6] [(3,pI x2)] (bR 2 (fQ hx2) bN) (by kernel_rfl) (dn (ae h fun x3 hx3 h=>ae h fun x4 hx4 h=>av [0,0] (rg 7 17) [(24,pB ((((x2 != 6)&&(x2 != 8))||(!x3))||(!x4)))] (iW 9 (fun hc=>ef (gS hx3 hc)) (iW 15 (fun hc=>i5 (gS hx4 hc)) bN)) (by kernel_rfl) (cG rfl h (fun hc5 h=>?_) fun hc5 h=>?_))))))))
 ·refine af ?_
  refine fY [(2,pI 1)] (by kernel_rfl) (am ?_)
  exact zz r h rfl
 refine ai ?_
 refine dn (bj [0,0] (rg 25 7) [(32,pB ((decide (p0.Price<1))||(decide (1000000000000<p0.Price))))] (by kernel_rfl) (cG rfl h (fun hc6 h=>?_) fun hc6 h=>?_))
 ·refine af ?_
  refine fY [(2,pI 2)] (by kernel_rfl) (am ?_)
  exact zz r h rfl
 refine ai ?_
 refine dn (bj [0] [33,34,35] [(36,pB (decide (8<(p0.Inputs.length:Int))))] (by kernel_rfl) (cG rfl h (fun hc7 h=>?_) fun hc7 h=>?_))
 ·refine af ?_
  refine fY [(2,pI 8)] (by kernel_rfl) (am ?_)
  exact zz r h rfl
 refine ai ?_
 refine dn (bj [0,0] (rg 37 7) [(44,pB (p0.Obtained&&(decide (0<(p0.Inputs.length:Int)))))] (by kernel_rfl) (cG rfl h (fun hc8 h=>?_) fun hc8 h=>?_))
 ·refine af ?_
  refine fY [(2,pI 1)] (by kernel_rfl) (am ?_)
  exact zz r h rfl
 refine ai ?_
 refine bP (fY [(2,pI 0)] (by kernel_rfl) ?_)
 exact zz r h rfl
def cT (p0:(List Zc)):Option Int:=cond (decide (64<(p0.length:Int))) (some (8:Int)) ((aN (S:=Int) (T:=(Unit)⊕(_)) (fun v2=>cond (decide (v2<(p0.length:Int))) ((idx p0 v2).bind fun m6=>cond ((decide (m6.ID<1))||(decide (1000000<m6.ID))) (some (.inr (.inr (2:Int)))) ((gd (decide (0<v2)) (idx p0 (IntKind.i64.wrap (v2 - 1)))).bind fun m9=>cond ((decide (0<v2))&&(decide (m6.ID≤m9.ID))) (some (.inr (.inr (9:Int)))) ((de m6).bind fun x11=>cond (x11 != 0) (some (.inr (.inr x11))) ((dj p0 m6.Inputs).bind fun x13=>cond (x13 != 0) (some (.inr (.inr x13))) (some (.inl (IntKind.i64.wrap (v2+1)))))))) (some (.inr (.inl ())))) FUEL 0).bind fun q=>match q with | .inl _=>some (0:Int) | .inr e=>some e)
theorem kh {p0:(List Zc)} {r:Int}  (h:cT p0=some r):PF 71 [pL Zc.enc p0] (pI r):=by
 unfold cT at h
 refine bv ?_
 refine fh Tryz.func71 rfl Tryz.ntmps71 Tryz.results71 rfl (bd [2] (by kernel_rfl) (dn (ah [7,8] [(9,pB (decide (64<(p0.length:Int))))] (by kernel_rfl) (cG rfl h (fun hc1 h=>?_) fun hc1 h=>?_))))
 ·refine af ?_
  refine fY [(2,pI 8)] (by kernel_rfl) (am ?_)
  exact zz r h rfl
 refine ai ?_
 refine dn (al [(10,pL Zc.enc p0),(11,pI (p0.length:Int)),(12,pI 0)] (by kernel_rfl) (jB h fun q4 hq4 h=>?_))
 refine az (Y:=Unit×Unit) (fun (_,_)=>[]) (fun (_,_)=>[]) (fun (_,_)=>q4=Sum.inl ()) ?_ ?_
 ·refine aJ ?_
  refine aP (Y:=Unit) (S:=Int) _ hq4 (fun _ v2=>[(0,pL Zc.enc p0),(10,pL Zc.enc p0),(11,pI (p0.length:Int)),(12,pI v2)]) (fun _ v2=>[]) () (kQ rfl) cd ?_
  rintro _ v2 o τ hb3;(try dsimp only at hb3);dsimp only [aF]
  refine af (al [(13,pB (decide (v2<(p0.length:Int))))] (by kernel_rfl) (bP (jX rfl hb3 (fun hc5 hb3=>?_) fun hc5 hb3=>?_)))
  ·refine ai ?_
   refine bP (iM (ae hb3 fun m6 hm6 hb3=>aa (bg 3 [] [15] [(14,pI v2),(16,.agg (aZ m6))] (eO 1 Zc.enc hm6 bN) (by kernel_rfl) (aj rfl (aU (cs:=[pI 0,pS ByteArray.empty,pS ByteArray.empty,pI 0,pB false,pN,pN]) rfl rfl rfl rfl (fun b7=>ar 1 [(3,pI v2)] (by kernel_rfl) (aW rfl rfl (an (vs:=(aZ m6)) rfl rfl rfl rfl rfl cR qu (aq (dn (bj [0,0] (rg 17 7) [(24,pB ((decide (m6.ID<1))||(decide (1000000<m6.ID))))] (by kernel_rfl) (cG rfl hb3 (fun hc8 hb3=>?_) fun hc8 hb3=>?_))))))))))))
   ·refine af ?_
    refine fY [(2,pI 2)] (by kernel_rfl) (am (ja ?_))
    refine aX hb3 (fun ht=>?_);subst ht
    refine aC (aY ?_)
    exact zz r h rfl
   refine ai ?_
   refine dn (cC (ρd:=[]) [(0,0),(1,0),(2,0),(3,0),(4,0),(5,0),(6,0),(7,0),(8,0),(9,0),(10,0),(11,0),(12,0)] _ (List.Perm.refl _) (by kernel_rfl) rfl (ae hb3 fun m9 hm9 hb3=>cP 13 [0] (rg 25 12) [(37,pB ((decide (0<v2))&&(decide (m6.ID≤m9.ID))))] (mX 8 Zc.enc (gS hm9) bN) (by kernel_rfl) (da (cG rfl hb3 (fun hc10 hb3=>?_) fun hc10 hb3=>?_))))
   ·refine af ?_
    refine fY [(2,pI 9)] (by kernel_rfl) (am (ja ?_))
    refine aX hb3 (fun ht=>?_);subst ht
    refine aC (aY ?_)
    exact zz r h rfl
   refine ai ?_
   refine dn (ae hb3 fun x11 hx11 hb3=>av [0] [38,39] [(5,pI x11)] (bR 1 (lp hx11) bN) (by kernel_rfl) (bP (ah [40] [(41,pB (x11 != 0))] (by kernel_rfl) (cG rfl hb3 (fun hc12 hb3=>?_) fun hc12 hb3=>?_))))
   ·refine af ?_
    refine ah [42] [(2,pI x11)] (by kernel_rfl) (eD (am (ja ?_)))
    refine aX hb3 (fun ht=>?_);subst ht
    refine aC (aY ?_)
    exact zz r h rfl
   refine ai ?_
   refine dD hb3 fun x13 hx13 hb3=>av [0] [43,44,45,46] [(6,pI x13)] (bR 3 (lE hx13) bN) (by kernel_rfl) (bP (ah [47] [(48,pB (x13 != 0))] (by kernel_rfl) (cG rfl hb3 (fun hc14 hb3=>?_) fun hc14 hb3=>?_)))
   ·refine af ?_
    refine ah [49] [(2,pI x13)] (by kernel_rfl) (eD (ja ?_))
    refine aX hb3 (fun ht=>?_);subst ht
    refine aC (aY ?_)
    exact zz r h rfl
   refine ai ?_
   refine gC (ah [50] [(12,pI (IntKind.i64.wrap (v2+1)))] (by kernel_rfl) ?_)
   exact bh hb3 () (kQ rfl) cd
  refine aV ?_
  refine aw (ap hb3 (fun ht=>au rfl ?_))
  exact aH ((),()) rt cd ht.symm
 rintro ⟨_,_⟩ τ hz;(try dsimp only at hz);subst q4;(try dsimp only at h);dsimp only [aF]
 refine af (fY [(2,pI 0)] (by kernel_rfl) ?_)
 exact zz r h rfl
def f8 (p0:Ze) (p1:Zl):Option Bool:=(fw p0).bind fun x3=>(gd (x3 == 0) (gt p1)).bind fun x4=>some ((x3 == 0)&&(x4 == 0))
theorem mN {p0:Ze} {p1:Zl} {r:Bool}  (h:f8 p0 p1=some r):PF 126 [.agg (aT p0),.agg (bL p1)] (pB r):=by
 unfold f8 at h
 refine bv ?_
 refine fh Tryz.func126 rfl Tryz.ntmps126 Tryz.results126 rfl (aa (aj rfl (bu (cs:=(aT p0)) rfl rfl (fun b1=>aj rfl (bu (cs:=(bL p1)) rfl rfl (fun b2=>bo [4] (by kernel_rfl) (dD h fun x3 hx3 h=>ae h fun x4 hx4 h=>av [1,0] (rg 5 8) [(4,pB ((x3 == 0)&&(x4 == 0)))] (bR 1 (iU hx3) (iW 5 (fun hc=>p7 (gS hx4 hc)) bN)) (by kernel_rfl) (eD ?_))))))))
 exact zz r h rfl
def lq (p0:Ze) (p1:Zl) (p2:(List Int)):Option Bool:=(f8 p0 p1).bind fun x3=>cond (!x3) (some false) ((pR p0).bind fun x5=>(Irule_test_follow x5 p1 p2).bind fun x6=>some (x6.2&&((x6.1.length:Int) == 0)))
theorem vd {p0:Ze} {p1:Zl} {p2:(List Int)} {r:Bool}  (h:lq p0 p1 p2=some r):PF 123 [.agg (aT p0),.agg (bL p1),pL eI p2] (pB r):=by
 unfold lq at h
 refine bv ?_
 refine fh Tryz.func123 rfl Tryz.ntmps123 Tryz.results123 rfl (aa (aj rfl (bu (cs:=(aT p0)) rfl rfl (fun b1=>aj rfl (bu (cs:=(bL p1)) rfl rfl (fun b2=>bo [6] (by kernel_rfl) (dn (ae h fun x3 hx3 h=>av [1,0] [9,10,11] [(12,pB (!x3))] (bR 2 (mN hx3) bN) (by kernel_rfl) (cG rfl h (fun hc4 h=>?_) fun hc4 h=>?_)))))))))
 ·refine af ?_
  refine fY [(6,pB false)] (by kernel_rfl) (am ?_)
  exact zz r h rfl
 refine ai ?_
 refine bP (cC (ρd:=[]) [(0,0),(2,0),(3,0),(1,1),(4,1),(5,0),(6,0),(7,0),(8,0),(9,0)] _ (List.Perm.refl _) (by kernel_rfl) rfl (ae h fun x5 hx5 h=>ae h fun x6 hx6 h=>cP 10 [1,0] [14,16,17,15,18,13,19,20] [(7,pL eI x6.1),(8,pB x6.2)] (bR 3 (pT hx5) (C4 4 (Irule_test_follow_ok hx6) bN)) (by kernel_rfl) (da (bP (ah (rg 21 6) [(6,pB (x6.2&&((x6.1.length:Int) == 0)))] (by kernel_rfl) (eD ?_))))))
 exact zz r h rfl
def df (p0:Zv) (p1:Za):Option Ze:=(cO p0.plan p1.Product).bind fun x4=>(aN (S:=Int) (T:=(Unit)⊕(_)) (fun v6=>cond (decide (v6<(p0.list.length:Int))) ((idx p0.list v6).bind fun m10=>cond (m10.ID == p1.Agreement) ((dr m10 x4.1.Code).bind fun x13=>some (.inr (.inr x13.1))) (some (.inl (IntKind.i64.wrap (v6+1))))) (some (.inr (.inl ())))) FUEL 0).bind fun q=>match q with | .inl _=>some (⟨0,0,[],0,0,ByteArray.empty,[]⟩:Ze) | .inr e=>some e
theorem lr {p0:Zv} {p1:Za} {m0_known_claims:Nat} {r:Ze}  (h:df p0 p1=some r):PCall 124 [.agg [.v (.map (some m0_known_claims)),pL Zc.enc p0.plan,pL Zb.enc p0.list,pS p0.importer],.agg [pI p1.Product,pI p1.Agreement]] [PRes.mp (some m0_known_claims) (e7 Za.key vT p0.known.claims)] (fun pv ρ'=>pv=.agg (aT r)∧ρ'=[PRes.mp (some m0_known_claims) (e7 Za.key vT p0.known.claims)]):=by
 unfold df at h
 refine fh Tryz.func124 rfl Tryz.ntmps124 Tryz.results124 rfl (aa (aj rfl (bu (cs:=[.v (.map (some m0_known_claims)),pL Zc.enc p0.plan,pL Zb.enc p0.list,pS p0.importer]) rfl rfl (fun b1=>aj rfl (bu (cs:=[pI p1.Product,pI p1.Agreement]) rfl rfl (fun b2=>aj rfl (aU (cs:=[pI 0,pI 0,pN,pI 0,pI 0,pS ByteArray.empty,pN]) rfl rfl rfl rfl (fun b3=>aq (dD h fun x4 hx4 h=>aa (bg 8 [2,1] ((rg 12 5)++[11]) [(17,.agg (aZ x4.1)),(18,pB x4.2)] (bR 4 (eJ hx4) bN) (by kernel_rfl) (aj rfl (aU (cs:=[pI 0,pS ByteArray.empty,pS ByteArray.empty,pI 0,pB false,pN,pN]) rfl rfl rfl rfl (fun b5=>aW rfl rfl (an (vs:=(aZ x4.1)) rfl rfl rfl rfl rfl cR qu (bo [6] (by kernel_rfl) (dn (bj [3] [19] [(20,pL Zb.enc p0.list),(21,pI (p0.list.length:Int)),(22,pI 0)] (by kernel_rfl) (jB h fun q8 hq8 h=>?_))))))))))))))))))
 refine az (Y:=Unit×Unit) (fun (_,_)=>[(4,pP b3 0)]) (fun (_,_)=>[PRes.b b3 84 [pI 0,pI 0,pN,pI 0,pI 0,pS ByteArray.empty,pN],PRes.mp (some m0_known_claims) (e7 Za.key vT p0.known.claims)]) (fun (_,_)=>q8=Sum.inl ()) ?_ ?_
 ·refine aJ ?_
  refine aP (Y:=Unit) (S:=Int) _ hq8 (fun _ v6=>[(3,pP b2 0),(4,pP b3 0),(5,pP b5 0),(20,pL Zb.enc p0.list),(21,pI (p0.list.length:Int)),(22,pI v6)]) (fun _ v6=>[PRes.b b2 28 [pI p1.Product,pI p1.Agreement],PRes.b b3 84 [pI 0,pI 0,pN,pI 0,pI 0,pS ByteArray.empty,pN],PRes.b b5 76 (aZ x4.1),PRes.mp (some m0_known_claims) (e7 Za.key vT p0.known.claims)]) () (uH rfl) (be (ak (ak aB)) (be (ak aB) (be aB (be (ak aB) cd)))) ?_
  rintro _ v6 o τ hb7;(try dsimp only at hb7);dsimp only [aF]
  refine af (al [(23,pB (decide (v6<(p0.list.length:Int))))] (by kernel_rfl) (bP (jX rfl hb7 (fun hc9 hb7=>?_) fun hc9 hb7=>?_)))
  ·refine ai ?_
   refine bP (iM (ae hb7 fun m10 hm10 hb7=>aa (bg 2 [] [24] [(25,.agg (aS m10))] (eO 0 Zb.enc hm10 bN) (by kernel_rfl) (aj rfl (aU (cs:=[pI 0,pI 0,pN,pN]) rfl rfl rfl rfl (fun b11=>aW rfl rfl (an (vs:=(aS m10)) rfl rfl rfl rfl rfl cR AB (aq (bP (bj [0,1] [26,27,28,29] [(30,pB (m10.ID == p1.Agreement))] (by kernel_rfl) (cG rfl hb7 (fun hc12 hb7=>?_) fun hc12 hb7=>?_)))))))))))
   ·refine af ?_
    refine ae hb7 fun x13 hx13 hb7=>aa (bg 7 [0,3] [32,33,34,35,31] [(36,.agg (aT x13.1)),(37,pB x13.2)] (bR 3 (iI hx13) bN) (by kernel_rfl) (aj rfl (aU (cs:=[pI 0,pI 0,pN,pI 0,pI 0,pS ByteArray.empty,pN]) rfl rfl rfl rfl (fun b14=>aW rfl rfl (an (vs:=(aT x13.1)) rfl rfl rfl rfl rfl cR qu (bo [10] (by kernel_rfl) (bP (aa (gg 1 [0] [(38,.agg (aT x13.1))] (by kernel_rfl) (aW rfl rfl (an (vs:=(aT x13.1)) rfl rfl rfl rfl rfl (dh (dh (dh cR))) qu (aq (eD (ja ?_))))))))))))))
    refine aX hb7 (fun ht=>?_);subst ht
    refine aC (aY ?_)
    obtain rfl:=osi h
    exact aK (cN (gy rfl DQ rfl)) (be (ak (ak (ak (ak (ak aB))))) cd) ⟨rfl,rfl⟩
   refine ai ?_
   refine gC (ah [39] [(22,pI (IntKind.i64.wrap (v6+1)))] (by kernel_rfl) ?_)
   exact bh hb7 () (uH rfl) (be (ak aB) (be (ak aB) (be (ak aB) (be (ak aB) cd))))
  refine aV ?_
  refine aw (ap hb7 (fun ht=>au rfl ?_))
  exact aH ((),()) (xF rfl) (be (ak aB) (be (ak (ak aB)) cd)) ht.symm
 rintro ⟨_,_⟩ τ hz;(try dsimp only at hz);subst q8;(try dsimp only at h);dsimp only [aF]
 refine af (aa (ar 1 [(40,.agg [pI 0,pI 0,pN,pI 0,pI 0,pS ByteArray.empty,pN])] (by kernel_rfl) (aW rfl rfl (an (vs:=[pI 0,pI 0,pN,pI 0,pI 0,pS ByteArray.empty,pN]) rfl rfl rfl rfl rfl cR qu (aq (aM (dV (k:=2) (b:=b3) rfl cR (dV (k:=6) (b:=b3) rfl cR (bV ?_)))))))))
 obtain rfl:=osi h
 exact aK (cN (gy rfl gx rfl)) (be (ak aB) cd) ⟨rfl,rfl⟩
def dm (p0:Zv) (p1:Zf):Option Bool:=(cg p0.plan p0.list p0.importer p1.Claim).bind fun x3=>(gd (!(!x3)) (dw p0.known p1.Claim)).bind fun x4=>cond ((!x3)||x4) (some false) ((aN (S:=Int) (T:=(Unit)⊕(_)) (fun v6=>cond (decide (v6<(p1.Premises.length:Int))) ((idx p1.Premises v6).bind fun m10=>(dw p0.known m10).bind fun x12=>(gd ((!(!x12))&&(decide (0<v6))) (idx p1.Premises (IntKind.i64.wrap (v6 - 1)))).bind fun m13=>(gd ((!(!x12))&&(decide (0<v6))) (dl m13 m10)).bind fun x14=>cond ((!x12)||((decide (0<v6))&&(decide (0≤x14)))) (some (.inr (.inr false))) (some (.inl (IntKind.i64.wrap (v6+1))))) (some (.inr (.inl ())))) FUEL 0).bind fun q=>match q with | .inl _=>(fg p0.plan p0.list p0.importer p1.Claim p1.Premises).bind (fun x16=>(bZ x16.2 p1.Premises).bind fun x18=>cond (!x18) (some false) ((df p0 p1.Claim).bind fun x20=>(lq x20 x16.1 p1.Path).bind fun x21=>some x21)) | .inr e=>some e)
theorem lH {p0:Zv} {p1:Zf} {m0_known_claims:Nat} {r:Bool}  (h:dm p0 p1=some r):PCall 73 [.agg [.v (.map (some m0_known_claims)),pL Zc.enc p0.plan,pL Zb.enc p0.list,pS p0.importer],.agg (cE p1)] [PRes.mp (some m0_known_claims) (e7 Za.key vT p0.known.claims)] (fun pv ρ'=>pv=pB r∧ρ'=[PRes.mp (some m0_known_claims) (e7 Za.key vT p0.known.claims)]):=by
 unfold dm at h
 refine fh Tryz.func73 rfl Tryz.ntmps73 Tryz.results73 rfl (aa (aj rfl (bu (cs:=[.v (.map (some m0_known_claims)),pL Zc.enc p0.plan,pL Zb.enc p0.list,pS p0.importer]) rfl rfl (fun b1=>aj rfl (bu (cs:=(cE p1)) rfl rfl (fun b2=>bo [4] (by kernel_rfl) (dn (ae h fun x3 hx3 h=>ae h fun x4 hx4 h=>aa (bg 15 [1,1,1,0,1,0] ((rg 9 10)++[20,22]) [(19,pB (!x3)),(21,pgv (!(!x3)) (.agg [.v (.map (some m0_known_claims))])),(23,pgv (!(!x3)) (.agg [pI p1.Claim.Product,pI p1.Claim.Agreement]))] (bR 8 (eQ hx3) bN) (by kernel_rfl) ?_)))))))))
 refine qX (yS rfl rfl rfl) rfl rfl rfl (by exact ak (ak aB)) (kC (.g rfl) (kC (.g rfl) sj)) (fun hc=>je (gS hx4 hc)) (fun _=>rfl) ?_
 refine bz rfl rfl rfl (Eu rfl (.p rfl) (.p rfl) (.g rfl)) (aq (cG rfl h (fun hc5 h=>?_) fun hc5 h=>?_))
 ·refine af ?_
  refine fY [(4,pB false)] (by kernel_rfl) (am ?_)
  obtain rfl:=osi h
  exact aK (cN (aL rfl)) dC ⟨rfl,rfl⟩
 refine ai ?_
 refine dn (bj [1] [26] [(27,pL Za.enc p1.Premises),(28,pI (p1.Premises.length:Int)),(29,pI 0)] (by kernel_rfl) (jB h fun q8 hq8 h=>?_))
 refine az (Y:=Unit×Unit) (fun (_,_)=>[(2,pP b1 0),(3,pP b2 0)]) (fun (_,_)=>[PRes.b b1 132 [.v (.map (some m0_known_claims)),pL Zc.enc p0.plan,pL Zb.enc p0.list,pS p0.importer],PRes.b b2 61 (cE p1),PRes.mp (some m0_known_claims) (e7 Za.key vT p0.known.claims)]) (fun (_,_)=>q8=Sum.inl ()) ?_ ?_
 ·refine aJ ?_
  refine aP (Y:=Unit) (S:=Int) _ hq8 (fun _ v6=>[(2,pP b1 0),(3,pP b2 0),(27,pL Za.enc p1.Premises),(28,pI (p1.Premises.length:Int)),(29,pI v6)]) (fun _ v6=>[PRes.b b1 132 [.v (.map (some m0_known_claims)),pL Zc.enc p0.plan,pL Zb.enc p0.list,pS p0.importer],PRes.b b2 61 (cE p1),PRes.mp (some m0_known_claims) (e7 Za.key vT p0.known.claims)]) () (nG rfl) (be (ak (ak aB)) (be (ak aB) dC)) ?_
  rintro _ v6 o τ hb7;(try dsimp only at hb7);dsimp only [aF]
  refine af (al [(30,pB (decide (v6<(p1.Premises.length:Int))))] (by kernel_rfl) (bP (jX rfl hb7 (fun hc9 hb7=>?_) fun hc9 hb7=>?_)))
  ·refine ai ?_
   refine bP (iM (ae hb7 fun m10 hm10 hb7=>aa (bg 3 [] [32] [(31,pI v6),(33,.agg [pI m10.Product,pI m10.Agreement])] (eO 1 Za.enc hm10 bN) (by kernel_rfl) (aj rfl (aU (cs:=[pI 0,pI 0]) rfl rfl rfl rfl (fun b11=>ar 1 [(5,pI v6)] (by kernel_rfl) (aW rfl rfl (an (vs:=[pI m10.Product,pI m10.Agreement]) rfl rfl rfl rfl rfl cR AU (aq (bP (cC (ρd:=[PRes.mp (some m0_known_claims) _]) [(0,0),(1,0),(2,0),(3,1),(4,0),(5,0),(6,0),(7,0),(8,0),(9,0),(10,0),(11,0),(12,0),(13,0),(14,0),(15,0),(16,1),(17,0),(18,0),(19,0)] _ (aA (ak (ak (ak aB))) (List.Perm.refl _)) (by kernel_rfl) rfl (ae hb7 fun x12 hx12 hb7=>uV 3 [1,0] [34] [(35,.agg [.v (.map (some m0_known_claims))]),(36,.agg [pI m10.Product,pI m10.Agreement])] (by kernel_rfl) ?_))))))))))))
   refine kY rfl rfl rfl (bc rfl rfl (ρ1:=[_]) (aA (by exact aB) (List.Perm.refl _)) (je hx12) ?_);rintro _ _ ⟨rfl,rfl⟩
   refine ae hb7 fun m13 hm13 hb7=>ae hb7 fun x14 hx14 hb7=>cP 16 [2,0] (rg 38 15) [(53,pB ((!x12)||((decide (0<v6))&&(decide (0≤x14)))))] (mX 9 Za.enc (gS hm13) (iW 12 (fun hc=>lF (gS hx14 hc)) bN)) (by kernel_rfl) (da (cG rfl hb7 (fun hc15 hb7=>?_) fun hc15 hb7=>?_))
   ·refine af ?_
    refine fY [(4,pB false)] (by kernel_rfl) (ja ?_)
    refine aX hb7 (fun ht=>?_);subst ht
    refine aC (aY ?_)
    obtain rfl:=osi h
    exact aK (cN (aL rfl)) dC ⟨rfl,rfl⟩
   refine ai ?_
   refine gC (ah [54] [(29,pI (IntKind.i64.wrap (v6+1)))] (by kernel_rfl) ?_)
   exact bh hb7 () (nG rfl) (be (ak (ak aB)) (be (ak (ak aB)) dC))
  refine aV ?_
  refine aw (ap hb7 (fun ht=>au rfl ?_))
  exact aH ((),()) (sX rfl) zs3 ht.symm
 rintro ⟨_,_⟩ τ hz;(try dsimp only at hz);subst q8;(try dsimp only at h);dsimp only [aF]
 refine af (ae h fun x16 hx16 h=>aa (bg 14 [0,0,0,1,1] ((rg 56 11)++[55]) [(67,.agg (bL x16.1)),(68,pL Za.enc x16.2)] (bR 10 (p6 hx16) bN) (by kernel_rfl) (aj rfl (aU (cs:=[pS ByteArray.empty,pI 0,pB false,pN,pN]) rfl rfl rfl rfl (fun b17=>aW rfl rfl (an (vs:=(bL x16.1)) rfl rfl rfl rfl rfl cR EG (aQ [(8,pL Za.enc x16.2)] (by kernel_rfl) (dn (ae h fun x18 hx18 h=>av [2] [69,70,71,72] [(73,pB (!x18))] (bR 3 (gn hx18) bN) (by kernel_rfl) (cG rfl h (fun hc19 h=>?_) fun hc19 h=>?_))))))))))
 ·refine af ?_
  refine fY [(4,pB false)] (by kernel_rfl) (am ?_)
  obtain rfl:=osi h
  exact aK (cN (aL rfl)) (be (ak (ak (ak aB))) cd) ⟨rfl,rfl⟩
 refine ai ?_
 refine bP (cC (ρd:=[PRes.mp (some m0_known_claims) _]) [(0,0),(1,0),(2,0),(4,0),(5,0),(6,0),(3,1),(7,1),(8,0)] _ (aA (ak (ak (ak aB))) (List.Perm.refl _)) (by kernel_rfl) rfl (ae h fun x20 hx20 h=>uV 6 [1,2,0,2] [75,79] [(74,.agg [.v (.map (some m0_known_claims)),pL Zc.enc p0.plan,pL Zb.enc p0.list,pS p0.importer]),(76,.agg [pI p1.Claim.Product,pI p1.Claim.Agreement]),(78,.agg (bL x16.1)),(80,pL eI p1.Path)] (by kernel_rfl) ?_))
 refine kY rfl rfl rfl (bc rfl rfl (ρ1:=[_]) (aA (by exact aB) (List.Perm.refl _)) (lr hx20) ?_);rintro _ _ ⟨rfl,rfl⟩
 refine ae h fun x21 hx21 h=>cP 2 [] [81] [(4,pB x21)] (bR 0 (vd hx21) bN) (by kernel_rfl) (da (eD ?_))
 obtain rfl:=osi h
 exact aK (cN (aL rfl)) dC ⟨rfl,rfl⟩
def cw (p0:(List Zc)) (p1:(List Zb)) (p2:ByteArray) (p3:(List Zf)):Option (Int×Int):=(cT p0).bind fun x1=>cond (x1 != 0) (some ((0:Int),x1)) ((cS p1).bind fun x3=>cond (x3 != 0) (some ((0:Int),x3)) ((bQ p2).bind fun x5=>cond (!x5) (some ((0:Int),(1:Int))) ((aN (S:=Int×(List (Za×Bool))) (T:=(Unit)⊕(_)) (fun (v9,l10)=>cond (decide (v9<(p3.length:Int))) ((idx p3 v9).bind fun m14=>(dm (⟨(⟨l10⟩:Zs),p0,p1,p2⟩:Zv) m14).bind fun x16=>cond (!x16) (some (.inr (.inr (v9,(10:Int))))) ((fP (⟨l10⟩:Zs) m14.Claim).bind fun x18=>some (.inl ((IntKind.i64.wrap (v9+1)),x18)))) (some (.inr (.inl ())))) FUEL (0,([]:List (Za×Bool)))).bind fun q=>match q with | .inl _=>some ((p3.length:Int),(0:Int)) | .inr e=>some e)))
theorem eZ {p0:(List Zc)} {p1:(List Zb)} {p2:ByteArray} {p3:(List Zf)} {r:(Int×Int)}  (h:cw p0 p1 p2 p3=some r):PF 25 [pL Zc.enc p0,pL Zb.enc p1,pS p2,pL Zf.enc p3] (.tup [pI r.1,pI r.2]):=by
 unfold cw at h
 refine bv ?_
 refine fh Tryz.func25 rfl Tryz.ntmps25 Tryz.results25 rfl (bd [8,9] (by kernel_rfl) (dn (ae h fun x1 hx1 h=>av [] [15,16] [(10,pI x1)] (bR 1 (kh hx1) bN) (by kernel_rfl) (bP (ah [17] [(18,pB (x1 != 0))] (by kernel_rfl) (cG rfl h (fun hc2 h=>?_) fun hc2 h=>?_))))))
 ·refine af ?_
  refine ah [19] [(8,pI 0),(9,pI x1)] (by kernel_rfl) (eD (am ?_))
  obtain rfl:=osi h
  exact aK (di (aL rfl) (aL rfl)) cd ⟨rfl,rfl⟩
 refine ai ?_
 refine dn (ae h fun x3 hx3 h=>av [] [20,21] [(11,pI x3)] (bR 1 (kg hx3) bN) (by kernel_rfl) (bP (ah [22] [(23,pB (x3 != 0))] (by kernel_rfl) (cG rfl h (fun hc4 h=>?_) fun hc4 h=>?_))))
 ·refine af ?_
  refine ah [24] [(8,pI 0),(9,pI x3)] (by kernel_rfl) (eD (am ?_))
  obtain rfl:=osi h
  exact aK (di (aL rfl) (aL rfl)) cd ⟨rfl,rfl⟩
 refine ai ?_
 refine dn (ae h fun x5 hx5 h=>av [] [25,26] [(27,pB (!x5))] (bR 1 (ef hx5) bN) (by kernel_rfl) (cG rfl h (fun hc6 h=>?_) fun hc6 h=>?_))
 ·refine af ?_
  refine fY [(8,pI 0),(9,pI 1)] (by kernel_rfl) (am ?_)
  obtain rfl:=osi h
  exact aK (di (aL rfl) (aL rfl)) cd ⟨rfl,rfl⟩
 refine ai ?_
 refine bP (aa (aj rfl (mY Za.key vT rfl (fun b7=>cu 5 [29,30,31,32] [(33,.agg [.v (.map (some b7)),pL Zc.enc p0,pL Zb.enc p1,pS p2])] (by kernel_rfl) (aj rfl (aU (cs:=[.v (.map none),pN,pN,pS ByteArray.empty]) rfl rfl rfl rfl (fun b8=>aW rfl rfl (an (vs:=[.v (.map (some b7)),pL Zc.enc p0,pL Zb.enc p1,pS p2]) rfl rfl rfl rfl rfl cR AB (aq (dn (al [(34,pL Zf.enc p3),(35,pI (p3.length:Int)),(36,pI 0)] (by kernel_rfl) (jB h fun q12 hq12 h=>?_))))))))))))
 refine az (Y:=Unit×Unit) (fun (_,_)=>[(3,pL Zf.enc p3)]) (fun (_,_)=>[]) (fun (_,_)=>q12=Sum.inl ()) ?_ ?_
 ·refine aJ ?_
  refine aP (Y:=Unit) (S:=Int×(List (Za×Bool))) _ hq12 (fun _ (v9,l10)=>[(3,pL Zf.enc p3),(12,pP b8 0),(34,pL Zf.enc p3),(35,pI (p3.length:Int)),(36,pI v9)]) (fun _ (v9,l10)=>[PRes.mp (some b7) (e7 Za.key vT l10),PRes.b b8 132 [.v (.map (some b7)),pL Zc.enc p0,pL Zb.enc p1,pS p2]]) () (nG rfl) (be (ak aB) dC) ?_
  rintro _ ⟨v9,l10⟩ o τ hb11;(try dsimp only at hb11);dsimp only [aF]
  refine af (al [(37,pB (decide (v9<(p3.length:Int))))] (by kernel_rfl) (bP (jX rfl hb11 (fun hc13 hb11=>?_) fun hc13 hb11=>?_)))
  ·refine ai ?_
   refine bP (iM (ae hb11 fun m14 hm14 hb11=>aa (bg 3 [] [39] [(38,pI v9),(40,.agg (cE m14))] (eO 1 Zf.enc hm14 bN) (by kernel_rfl) (aj rfl (aU (cs:=[pI 0,pI 0,pN,pN]) rfl rfl rfl rfl (fun b15=>ar 1 [(13,pI v9)] (by kernel_rfl) (aW rfl rfl (an (vs:=(cE m14)) rfl rfl rfl rfl rfl cR AB (aq (dn (ae hb11 fun x16 hx16 hb11=>aa (gg 2 [2,0] [(41,.agg [.v (.map (some b7)),pL Zc.enc p0,pL Zb.enc p1,pS p2]),(42,.agg (cE m14))] (by kernel_rfl) ?_))))))))))))
   refine aj rfl (bc rfl rfl (ρ1:=[_]) (aA (by exact ak aB) (List.Perm.refl _)) (lH hx16) ?_);rintro _ _ ⟨rfl,rfl⟩
   refine aQ [(44,pB (!x16))] (by kernel_rfl) (cG rfl hb11 (fun hc17 hb11=>?_) fun hc17 hb11=>?_)
   ·refine af ?_
    refine ah [45] [(8,pI v9),(9,pI 10)] (by kernel_rfl) (eD (am (ja ?_)))
    refine aX hb11 (fun ht=>?_);subst ht
    refine aC (aY ?_)
    obtain rfl:=osi h
    exact aK (di (aL rfl) (aL rfl)) cd ⟨rfl,rfl⟩
   refine ai ?_
   refine jB hb11 fun x18 hx18 hb11=>aa (co 4 [2,1] [46,48] [(47,.agg [.v (.map (some b7))]),(49,.agg [pI m14.Claim.Product,pI m14.Claim.Agreement])] (by kernel_rfl) ?_)
   refine aj rfl (bc rfl rfl (ρ1:=[_]) (aA (by exact aB) (List.Perm.refl _)) (nA hx18) ?_);rintro _ _ ⟨rfl,rfl⟩
   refine aq (gC (ah [51] [(36,pI (IntKind.i64.wrap (v9+1)))] (by kernel_rfl) ?_))
   exact bh hb11 () (nG rfl) (be aB (be (ak aB) cd))
  refine aV ?_
  refine aw (ap hb11 (fun ht=>au rfl ?_))
  exact aH ((),()) (xF rfl) cd ht.symm
 rintro ⟨_,_⟩ τ hz;(try dsimp only at hz);subst q12;(try dsimp only at h);dsimp only [aF]
 refine af (ah [52,53] [(8,pI (p3.length:Int)),(9,pI 0)] (by kernel_rfl) (eD ?_))
 obtain rfl:=osi h
 exact aK (di (aL rfl) (aL rfl)) cd ⟨rfl,rfl⟩
def ls  : Option Bool:=(cw [(⟨1,(⟨#[57,52,48,49,48,49]⟩:ByteArray),(⟨#[65,65]⟩:ByteArray),10,true,[],[]⟩:Zc)] [(⟨7,1,[(⟨#[65,65]⟩:ByteArray),(⟨#[67,67]⟩:ByteArray)],[(⟨(⟨#[57,52]⟩:ByteArray),(⟨1,0,[],0,0,ByteArray.empty,[]⟩:Ze)⟩:Zi)]⟩:Zb)] (⟨#[67,67]⟩:ByteArray) []).bind fun x9=>(cw [(⟨1,(⟨#[57,52,48,49,48,49]⟩:ByteArray),(⟨#[65,65]⟩:ByteArray),10,true,[],[]⟩:Zc)] [(⟨7,1,[(⟨#[65,65]⟩:ByteArray),(⟨#[67,67]⟩:ByteArray)],[(⟨(⟨#[57,52]⟩:ByteArray),(⟨1,0,[],0,0,ByteArray.empty,[]⟩:Ze)⟩:Zi)]⟩:Zb)] (⟨#[67,67]⟩:ByteArray) [(⟨(⟨1,7⟩:Za),[],[]⟩:Zf)]).bind fun x12=>(cw [(⟨1,(⟨#[57,52,48,49,48,49]⟩:ByteArray),(⟨#[65,65]⟩:ByteArray),10,true,[],[]⟩:Zc)] [(⟨7,1,[(⟨#[65,65]⟩:ByteArray),(⟨#[67,67]⟩:ByteArray)],[(⟨(⟨#[57,52]⟩:ByteArray),(⟨1,0,[],0,0,ByteArray.empty,[]⟩:Ze)⟩:Zi)]⟩:Zb)] (⟨#[67,67]⟩:ByteArray) [(⟨(⟨1,8⟩:Za),[],[]⟩:Zf)]).bind fun x15=>some (((((x9.1 == 0)&&(x9.2 == 0))&&(x12.1 == 1))&&(x12.2 == 0))&&(x15.2 == 10))
theorem p8  {r:Bool}  (h:ls  = some r):PF 27 [] (pB r):=by
 unfold ls at h
 refine bv ?_
 refine fh Tryz.func27 rfl Tryz.ntmps27 Tryz.results27 rfl (bd [0] (by kernel_rfl) (bP (aa (aj rfl (bI rfl rfl rfl rfl rfl (gw rfl (gw rfl jO)) rfl rfl rfl rfl (fun b1=>ar 1 [(10,.agg [pI 1,pI 0,pN,pI 0,pI 0,pS ByteArray.empty,pN])] (by kernel_rfl) (iy 10 2 rfl rfl (iy 10 6 rfl rfl (ar 1 [(11,.agg [pS (⟨#[57,52]⟩:ByteArray),pI 1,pI 0,pL eS [],pI 0,pI 0,pS ByteArray.empty,pL Ze.enc []])] (by kernel_rfl) (aj rfl (bI rfl rfl rfl rfl rfl (gw rfl jO) rfl rfl rfl rfl (fun b3=>?_))))))))))))
 refine fC (enc:=eS) (xs:=[(⟨#[65,65]⟩:ByteArray),(⟨#[67,67]⟩:ByteArray)]) 9 rfl (by exact ak aB) ?_
 refine fC (enc:=Zi.enc) (xs:=[(⟨(⟨#[57,52]⟩:ByteArray),(⟨1,0,[],0,0,ByteArray.empty,[]⟩:Ze)⟩:Zi)]) 12 rfl (by exact ak aB) ?_
 refine ar 1 [(13,.agg [pI 7,pI 1,pL eS [(⟨#[65,65]⟩:ByteArray),(⟨#[67,67]⟩:ByteArray)],pL Zi.enc [(⟨(⟨#[57,52]⟩:ByteArray),(⟨1,0,[],0,0,ByteArray.empty,[]⟩:Ze)⟩:Zi)]])] (by kernel_rfl) (aj rfl (bI rfl rfl rfl rfl rfl (gw rfl jO) rfl rfl rfl rfl (fun b5=>aQ [(1,pO (some ⟨b5,0,none⟩) 1 1)] (by kernel_rfl) (bP (aa (ar 1 [(15,.agg [pI 1,pS (⟨#[57,52,48,49,48,49]⟩:ByteArray),pS (⟨#[65,65]⟩:ByteArray),pI 10,pB true,pN,pN])] (by kernel_rfl) (iy 15 5 rfl rfl (iy 15 6 rfl rfl (aj rfl (bI rfl rfl rfl rfl rfl (gw rfl jO) rfl rfl rfl rfl (fun b7=>aQ [(2,pO (some ⟨b7,0,none⟩) 1 1)] (by kernel_rfl) (bP (aa (ar 2 [(18,pO (some ⟨b7,0,none⟩) 1 1),(19,pO (some ⟨b5,0,none⟩) 1 1)] (by kernel_rfl) ?_))))))))))))))
 refine fC (enc:=Zc.enc) (xs:=[(⟨1,(⟨#[57,52,48,49,48,49]⟩:ByteArray),(⟨#[65,65]⟩:ByteArray),10,true,[],[]⟩:Zc)]) 18 rfl (by exact aB) ?_
 refine fC (enc:=Zb.enc) (xs:=[(⟨7,1,[(⟨#[65,65]⟩:ByteArray),(⟨#[67,67]⟩:ByteArray)],[(⟨(⟨#[57,52]⟩:ByteArray),(⟨1,0,[],0,0,ByteArray.empty,[]⟩:Ze)⟩:Zi)]⟩:Zb)]) 19 rfl (by exact ak aB) ?_
 refine ae h fun x9 hx9 h=>Ep rfl rfl rfl rfl rfl (pf_nil1 [_,_,_] [] (eZ hx9)) (gf [17,21,22] [(3,pI x9.1),(4,pI x9.2)] (by kernel_rfl) (bP (aa (cu 4 [26] [(24,pO (some ⟨b7,0,none⟩) 1 1),(25,pO (some ⟨b5,0,none⟩) 1 1),(27,.agg [pI 1,pI 7,pN,pN])] (by kernel_rfl) (iy 27 2 rfl rfl (iy 27 3 rfl rfl (aj rfl (bI rfl rfl rfl rfl rfl (gw rfl jO) rfl rfl rfl rfl (fun b10=>jV (enc:=Zc.enc) (xs:=[(⟨1,(⟨#[57,52,48,49,48,49]⟩:ByteArray),(⟨#[65,65]⟩:ByteArray),10,true,[],[]⟩:Zc)]) 24 rfl sm (jV (enc:=Zb.enc) (xs:=[(⟨7,1,[(⟨#[65,65]⟩:ByteArray),(⟨#[67,67]⟩:ByteArray)],[(⟨(⟨#[57,52]⟩:ByteArray),(⟨1,0,[],0,0,ByteArray.empty,[]⟩:Ze)⟩:Zi)]⟩:Zb)]) 25 rfl tX ?_))))))))))
 refine fC (enc:=Zf.enc) (xs:=[(⟨(⟨1,7⟩:Za),[],[]⟩:Zf)]) 28 rfl (by exact aB) ?_
 refine ae h fun x12 hx12 h=>gE [] [29,23,30,31] [(5,pI x12.1),(6,pI x12.2)] (bR 0 (eZ hx12) bN) (by kernel_rfl) (bP (aa (cu 4 [35] [(33,pO (some ⟨b7,0,none⟩) 1 1),(34,pO (some ⟨b5,0,none⟩) 1 1),(36,.agg [pI 1,pI 8,pN,pN])] (by kernel_rfl) (iy 36 2 rfl rfl (iy 36 3 rfl rfl (aj rfl (bI rfl rfl rfl rfl rfl (gw rfl jO) rfl rfl rfl rfl (fun b13=>jV (enc:=Zc.enc) (xs:=[(⟨1,(⟨#[57,52,48,49,48,49]⟩:ByteArray),(⟨#[65,65]⟩:ByteArray),10,true,[],[]⟩:Zc)]) 33 rfl DQ (jV (enc:=Zb.enc) (xs:=[(⟨7,1,[(⟨#[65,65]⟩:ByteArray),(⟨#[67,67]⟩:ByteArray)],[(⟨(⟨#[57,52]⟩:ByteArray),(⟨1,0,[],0,0,ByteArray.empty,[]⟩:Ze)⟩:Zi)]⟩:Zb)]) 34 rfl sm ?_)))))))))
 refine fC (enc:=Zf.enc) (xs:=[(⟨(⟨1,8⟩:Za),[],[]⟩:Zf)]) 37 rfl (by exact aB) ?_
 refine ae h fun x15 hx15 h=>gE [] [38,32,39,40,7] [(8,pI x15.2)] (bR 0 (eZ hx15) bN) (by kernel_rfl) (bP (ah (rg 41 18) [(0,pB (((((x9.1 == 0)&&(x9.2 == 0))&&(x12.1 == 1))&&(x12.2 == 0))&&(x15.2 == 10)))] (by kernel_rfl) (eD ?_)))
 exact zz r h rfl
def gu (p0:(List Zc)) (p1:(List Zb)) (p2:ByteArray) (p3:Za) (p4:(List Za)):Option (Zl×(List Za)):=(cg p0 p1 p2 p3).bind fun x3=>cond (!x3) (some ((⟨ByteArray.empty,0,false,[],[]⟩:Zl),[])) ((cO p0 p3.Product).bind fun x5=>(ey p1 p3.Agreement).bind fun x7=>(eo p1 p3.Agreement x5.1.Country p2).bind fun x9=>(aN (S:=Int×(List (Za×Bool))) (T:=((List (Za×Bool)))) (fun (v12,l13)=>cond (decide (v12<((p4.length:Nat):Int))) ((idx p4 v12).bind fun m19=>some (.inl ((IntKind.i64.wrap (v12+1)),(nO l13 m19 true)))) (some (.inr l13))) FUEL (0,([]:List (Za×Bool)))).bind fun l15=>(ff p0 x7.1 x5.1 (⟨x9,l15⟩:Zt)).bind fun x21=>(aN (S:=(List Za)×Int×(List Zm)) (T:=((List Za)×(List Zm))) (fun (l24,v27,l29)=>cond (decide (v27<(x21.1.length:Int))) (((idx x21.1 v27).bind fun m56=>(Icumulation_supply_input m56).bind fun x57=>(app 32 l29 [x57]).bind fun l60=>cond (Zd.is_proved_ m56) ((app 16 l24 [(((Zd.as_proved_ m56)).premise)]).bind fun l68=>some (l68,l60)) (some (l24,l60))).bind fun (l49,l54)=>some (.inl (l49,(IntKind.i64.wrap (v27+1)),l54))) (some (.inr (l24,l29)))) FUEL (([]:List Za),0,([]:List Zm))).bind fun (l35,l40)=>(br l35).bind fun x72=>(bw x72).bind fun x73=>some ((⟨x5.1.Code,x5.1.Price,x5.1.Obtained,x21.2,l40⟩:Zl),x73))
theorem nZ {p0:(List Zc)} {p1:(List Zb)} {p2:ByteArray} {p3:Za} {p4:(List Za)} {a_4:Option Addr}  {n_4:Nat}  {c_4:Nat} {r:(Zl×(List Za))}  (h:gu p0 p1 p2 p3 p4=some r):PCall 17 [pL Zc.enc p0,pL Zb.enc p1,pS p2,.agg [pI p3.Product,pI p3.Agreement],.v (.slice a_4 n_4 c_4)] [PRes.row a_4 n_4 c_4 28 2 (List.map Za.enc p4)] (fun pv ρ'=>pv=.tup [.agg (bL r.1),pL Za.enc r.2]∧ρ'=[PRes.row a_4 n_4 c_4 28 2 (List.map Za.enc p4)]):=by
 unfold gu at h
 refine jl Tryz.func17 rfl Tryz.ntmps17 Tryz.results17 rfl ?_
 refine ld (enc:=Za.enc) (xs:=p4) (a:=a_4) gx (fun hl ha=>?_);subst hl;clear ha
 refine af (aa (aj rfl (bu (cs:=[pI p3.Product,pI p3.Agreement]) rfl rfl (fun b1=>aj rfl (aU (cs:=[pS ByteArray.empty,pI 0,pB false,pN,pN]) rfl rfl rfl rfl (fun b2=>bo [11] (by kernel_rfl) (dn (ae h fun x3 hx3 h=>av [1] (rg 27 5) [(32,pB (!x3))] (bR 4 (eQ hx3) bN) (by kernel_rfl) (cG rfl h (fun hc4 h=>?_) fun hc4 h=>?_)))))))))
 ·refine af ?_
  refine aa (ar 1 [(33,.agg [pS ByteArray.empty,pI 0,pB false,pN,pN])] (by kernel_rfl) (aW rfl rfl (an (vs:=[pS ByteArray.empty,pI 0,pB false,pN,pN]) rfl rfl rfl rfl rfl cR EG (aQ [(11,pN)] (by kernel_rfl) (aM (dV (k:=3) (b:=b2) rfl cR (dV (k:=4) (b:=b2) rfl cR (iO 11 rfl (bV (am ?_))))))))))
  obtain rfl:=osi h
  exact aK (di (gy rfl gx rfl) (aL rfl)) (be (ak (ak aB)) cd) ⟨rfl,rfl⟩
 refine ai ?_
 refine dD h fun x5 hx5 h=>aa (bg 7 [1] [35,36,37,38,34] [(39,.agg (aZ x5.1)),(40,pB x5.2)] (bR 3 (eJ hx5) bN) (by kernel_rfl) (aj rfl (aU (cs:=[pI 0,pS ByteArray.empty,pS ByteArray.empty,pI 0,pB false,pN,pN]) rfl rfl rfl rfl (fun b6=>aW rfl rfl (an (vs:=(aZ x5.1)) rfl rfl rfl rfl rfl cR qu (bo [13] (by kernel_rfl) (dD h fun x7 hx7 h=>aa (bg 7 [2] [42,43,44,45,41] [(46,.agg (aS x7.1)),(47,pB x7.2)] (bR 3 (gZ hx7) bN) (by kernel_rfl) (aj rfl (aU (cs:=[pI 0,pI 0,pN,pN]) rfl rfl rfl rfl (fun b8=>aW rfl rfl (an (vs:=(aS x7.1)) rfl rfl rfl rfl rfl cR AB (bo [15] (by kernel_rfl) (dD h fun x9 hx9 h=>aa (bg 7 [3,1] (rg 48 6) [(54,pL eI x9)] (bR 6 (kf hx9) bN) (by kernel_rfl) (aj rfl (mY Za.key vT rfl (fun b10=>ar 1 [(56,.agg [pL eI x9,.v (.map (some b10))])] (by kernel_rfl) (aj rfl (aU (cs:=[pN,.v (.map none)]) rfl rfl rfl rfl (fun b11=>aW rfl rfl (an (vs:=[pL eI x9,.v (.map (some b10))]) rfl rfl rfl rfl rfl cR AU (aq (dn (al [(57,pO a_4 p4.length c_4),(58,pI ((p4.length:Nat):Int)),(59,pI 0)] (by kernel_rfl) (jB h fun q17 hq17 h=>?_))))))))))))))))))))))))))
 refine az (Y:=Unit×((List (Za×Bool)))) (fun (_,l15)=>[(0,pL Zc.enc p0),(10,pP b2 0),(12,pP b6 0),(14,pP b8 0),(16,pP b11 0)]) (fun (_,l15)=>[PRes.mp (some b10) (e7 Za.key vT l15),PRes.b b11 96 [pL eI x9,.v (.map (some b10))],PRes.b b2 36 [pS ByteArray.empty,pI 0,pB false,pN,pN],PRes.b b6 76 (aZ x5.1),PRes.b b8 81 (aS x7.1),PRes.row a_4 p4.length c_4 28 2 (List.map Za.enc p4)]) (fun (_,l15)=>q17=l15) ?_ ?_
 ·refine aJ ?_
  refine aP (Y:=Unit) (S:=Int×(List (Za×Bool))) _ hq17 (fun _ (v12,l13)=>[(0,pL Zc.enc p0),(10,pP b2 0),(12,pP b6 0),(14,pP b8 0),(16,pP b11 0),(57,pO a_4 p4.length c_4),(58,pI ((p4.length:Nat):Int)),(59,pI v12)]) (fun _ (v12,l13)=>[PRes.mp (some b10) (e7 Za.key vT l13),PRes.b b11 96 [pL eI x9,.v (.map (some b10))],PRes.b b2 36 [pS ByteArray.empty,pI 0,pB false,pN,pN],PRes.b b6 76 (aZ x5.1),PRes.b b8 81 (aS x7.1),PRes.row a_4 p4.length c_4 28 2 (List.map Za.enc p4)]) () (qW rfl) (be (ak aB) (be aB (be (ak (ak aB)) (be (ak aB) (be aB (be (ak aB) cd)))))) ?_
  rintro _ ⟨v12,l13⟩ o τ hb16;(try dsimp only at hb16);dsimp only [aF]
  refine af (al [(60,pB (decide (v12<((p4.length:Nat):Int))))] (by kernel_rfl) (bP (jX rfl hb16 (fun hc18 hb16=>?_) fun hc18 hb16=>?_)))
  ·refine ai ?_
   refine bP (iM (ae hb16 fun m19 hm19 hb16=>aa (bz rfl rfl rfl (el (enc:=Za.enc) (xs:=p4) rfl rfl rfl (.p rfl) zm5 (.p rfl) (fun _=>hm19)) (bz rfl rfl rfl (cX (sz:=2) (p:=.agg [pI m19.Product,pI m19.Agreement]) (enc:=Za.enc) (xs:=p4) (a:=a_4) v12 0 m19 rfl (.p rfl) rfl zm5 (fun _=>hm19) rfl) (aj rfl (aU (cs:=[pI 0,pI 0]) rfl rfl rfl rfl (fun b20=>aW rfl rfl (an (vs:=[pI m19.Product,pI m19.Agreement]) rfl rfl rfl rfl rfl cR AU (aq (aM (aa (co 3 [2,0] [63] [(64,.v (.map (some b10))),(65,.agg [pI m19.Product,pI m19.Agreement])] (by kernel_rfl) (aW rfl rfl (lQ (xs:=l13) (k:=m19) (ek:=Za.key) (vv:=vT) (v:=true) rfl rfl Za.kenc28 rfl rfl pC rfl (dh cR) (aq (gC (ah [66] [(59,pI (IntKind.i64.wrap (v12+1)))] (by kernel_rfl) ?_)))))))))))))))))
   exact bh hb16 () (qW rfl) (be (ak aB) (be (ak aB) (be (ak aB) (be (ak aB) (be (ak aB) (be (ak aB) cd))))))
  refine aV ?_
  refine aw (ap hb16 (fun ht=>au rfl ?_))
  exact aH ((),l13) (nG rfl) zs6 ht.symm
 rintro ⟨_,l15⟩ τ hz;(try dsimp only at hz);subst q17;(try dsimp only at h);dsimp only [aF]
 refine af (ae h fun x21 hx21 h=>aa (gg 4 [4,3,1] [(68,pL Zc.enc p0),(69,.agg (aS x7.1)),(70,.agg (aZ x5.1)),(71,.agg [pL eI x9,.v (.map (some b10))])] (by kernel_rfl) ?_))
 refine aj rfl (bc rfl rfl (ρ1:=[_]) (aA (by exact aB) (List.Perm.refl _)) (ln hx21) ?_);rintro _ _ ⟨rfl,rfl⟩
 refine gf [67,73,74] [(19,pL Zd.enc x21.1),(20,pL eS x21.2)] (by kernel_rfl) (bP (aa (co 8 [3,3,3] (rg 75 7) [(82,.agg [pS x5.1.Code,pI x5.1.Price,pB x5.1.Obtained,pL eS x21.2,pN])] (by kernel_rfl) (aj rfl (aU (cs:=[pS ByteArray.empty,pI 0,pB false,pN,pN]) rfl rfl rfl rfl (fun b22=>aW rfl rfl (an (vs:=[pS x5.1.Code,pI x5.1.Price,pB x5.1.Obtained,pL eS x21.2,pN]) rfl rfl rfl rfl rfl cR EG (aq (bP (al [(22,pN)] (by kernel_rfl) (dn (al [(83,pL Zd.enc x21.1),(84,pI (x21.1.length:Int)),(85,pI 0)] (by kernel_rfl) (aM (ca 28 2 (ca 103 3 (ae h fun q42 hq42 h=>?_))))))))))))))))
 refine az (Y:=(Option Addr×Nat×Option Addr×Nat)×((List Za)×(List Zm))) (fun ((a33,c34,a38,c39),(l35,l40))=>[(10,pP b2 0),(21,pP b22 0),(22,pO a33 l35.length c34)]) (fun ((a33,c34,a38,c39),(l35,l40))=>[PRes.b b2 36 [pS ByteArray.empty,pI 0,pB false,pN,pN],PRes.b b22 36 [pS x5.1.Code,pI x5.1.Price,pB x5.1.Obtained,pL eS x21.2,pO a38 l40.length c39],PRes.row a33 l35.length c34 28 2 (List.map Za.enc l35),PRes.row a_4 p4.length c_4 28 2 (List.map Za.enc p4),PRes.row a38 l40.length c39 103 3 (List.map Zm.enc l40)]) (fun ((a33,c34,a38,c39),(l35,l40))=>q42=(l35,l40)) ?_ ?_
 ·refine aJ ?_
  refine aP (Y:=Option Addr×Nat×Option Addr×Nat) (S:=(List Za)×Int×(List Zm)) _ hq42 (fun (a25,c26,a30,c31) (l24,v27,l29)=>[(10,pP b2 0),(21,pP b22 0),(22,pO a25 l24.length c26),(83,pL Zd.enc x21.1),(84,pI (x21.1.length:Int)),(85,pI v27)]) (fun (a25,c26,a30,c31) (l24,v27,l29)=>[PRes.b b2 36 [pS ByteArray.empty,pI 0,pB false,pN,pN],PRes.b b22 36 [pS x5.1.Code,pI x5.1.Price,pB x5.1.Obtained,pL eS x21.2,pO a30 l29.length c31],PRes.row a_4 p4.length c_4 28 2 (List.map Za.enc p4),PRes.row a25 l24.length c26 28 2 (List.map Za.enc l24),PRes.row a30 l29.length c31 103 3 (List.map Zm.enc l29)]) (none,0,none,0) (uH rfl) (be (ak (ak (ak (ak (ak aB))))) (be (ak (ak aB)) (be (ak (ak (ak (ak (ak (ak aB)))))) (be (ak aB) dC)))) ?_
  rintro ⟨a25,c26,a30,c31⟩ ⟨l24,v27,l29⟩ o τ hb41;(try dsimp only at hb41);dsimp only [aF]
  refine af (al [(86,pB (decide (v27<(x21.1.length:Int))))] (by kernel_rfl) (bP (jX rfl hb41 (fun hc45 hb41=>?_) fun hc45 hb41=>?_)))
  ·refine ai ?_
   refine dD hb41 fun q55 hq55 hb41=>?_
   refine az (Y:=(Option Addr×Nat×Option Addr×Nat)×((List Za)×(List Zm))) (fun ((a47,c48,a52,c53),(l49,l54))=>[(10,pP b2 0),(21,pP b22 0),(22,pO a47 l49.length c48),(83,pL Zd.enc x21.1),(84,pI (x21.1.length:Int)),(85,pI v27)]) (fun ((a47,c48,a52,c53),(l49,l54))=>[PRes.b b2 36 [pS ByteArray.empty,pI 0,pB false,pN,pN],PRes.b b22 36 [pS x5.1.Code,pI x5.1.Price,pB x5.1.Obtained,pL eS x21.2,pO a52 l54.length c53],PRes.row a47 l49.length c48 28 2 (List.map Za.enc l49),PRes.row a_4 p4.length c_4 28 2 (List.map Za.enc p4),PRes.row a52 l54.length c53 103 3 (List.map Zm.enc l54)]) (fun ((a47,c48,a52,c53),(l49,l54))=>q55=(l49,l54)) ?_ ?_
   ·skip
    refine iM (ae hq55 fun m56 hm56 hq55=>av [] [87,88] [(24,Zd.pv m56)] (eO 0 Zd.enc hm56 bN) (by kernel_rfl) (dD hq55 fun x57 hx57 hq55=>ae hq55 fun l60 hl60 hq55=>?_))
    refine az (Y:=Option Addr×Nat) (fun (a61,c62)=>[(10,pP b2 0),(21,pP b22 0),(22,pO a25 l24.length c26),(24,Zd.pv m56),(83,pL Zd.enc x21.1),(84,pI (x21.1.length:Int)),(85,pI v27)]) (fun (a61,c62)=>[PRes.b b2 36 [pS ByteArray.empty,pI 0,pB false,pN,pN],PRes.b b22 36 [pS x5.1.Code,pI x5.1.Price,pB x5.1.Obtained,pL eS x21.2,pO a61 l60.length c62],PRes.row a_4 p4.length c_4 28 2 (List.map Za.enc p4),PRes.row a25 l24.length c26 28 2 (List.map Za.enc l24),PRes.row a61 l60.length c62 103 3 (List.map Zm.enc l60)]) (fun _=>True) ?_ ?_
    ·refine ml (ρd:=[PRes.row a30 _ _ _ _ _,PRes.b b22 _ _]) _ (aA (ak (ak (ak (ak aB)))) (aA (ak aB) (List.Perm.refl _))) ?_
     refine cY 0 (by kernel_rfl) rfl rfl rfl rfl (bq rfl rfl rfl rfl rfl (.p rfl)) (cY 2 (by kernel_rfl) rfl rfl rfl rfl (fb (p:=Zd.pv m56) rfl (.p rfl)) ?_)
     refine iP 1 3 (by kernel_rfl) ?_ ?_
     ·skip
      refine bf rfl rfl rfl rfl (nk (cK (p:=pO a30 l29.length c31) rfl (.p rfl) tX rfl) (bi 3 (by kernel_rfl) (bf rfl rfl rfl rfl (qv rfl rfl (Icumulation_supply_input_ok hx57) (bi 4 (by kernel_rfl) (bf rfl rfl rfl rfl (bI rfl rfl rfl rfl rfl (gw rfl jO) rfl rfl rfl rfl (fun b58=>bi 5 (by kernel_rfl) ?_))))))))
      refine bf rfl rfl rfl rfl (bX (enc:=Zm.enc) rfl rfl rfl rfl rfl rfl rfl rfl rfl gx (by exact ak aB) hl60 (fun a61 c62=>?_))
      refine cY 6 (by kernel_rfl) rfl rfl rfl rfl (bq rfl rfl rfl rfl rfl (.p rfl)) (bi 7 (by kernel_rfl) (dX rfl rfl rfl (an (vs:=[pO a61 l60.length c62]) rfl rfl rfl rfl rfl (dh (dh cR)) (eg (eg (eg (eg og)))) (dW (by kernel_rfl) ?_))))
      exact aH (a61,c62) (rF rfl) (be (ak (ak (ak aB))) (be (ak (ak aB)) (be (ak (ak aB)) (be (ak (ak aB)) dC)))) trivial
     skip
     refine bf rfl rfl rfl rfl (qv rfl rfl (Icumulation_supply_input_ok hx57) ?_)
     refine iP 1 4 (by kernel_rfl) ?_ ?_
     ·skip
      refine bf rfl rfl rfl rfl (nk (cK (p:=pO a30 l29.length c31) rfl (.p rfl) tX rfl) (bi 4 (by kernel_rfl) (bf rfl rfl rfl rfl (bI rfl rfl rfl rfl rfl (gw rfl jO) rfl rfl rfl rfl (fun b58=>bi 5 (by kernel_rfl) ?_)))))
      refine bf rfl rfl rfl rfl (bX (enc:=Zm.enc) rfl rfl rfl rfl rfl rfl rfl rfl rfl gx (by exact ak aB) hl60 (fun a61 c62=>?_))
      refine cY 6 (by kernel_rfl) rfl rfl rfl rfl (bq rfl rfl rfl rfl rfl (.p rfl)) (bi 7 (by kernel_rfl) (dX rfl rfl rfl (an (vs:=[pO a61 l60.length c62]) rfl rfl rfl rfl rfl (dh (dh cR)) (eg (eg (eg (eg og)))) (dW (by kernel_rfl) ?_))))
      exact aH (a61,c62) (rF rfl) (be (ak (ak (ak aB))) (be (ak (ak aB)) (be (ak (ak aB)) (be (ak (ak aB)) dC)))) trivial
     skip
     refine bf rfl rfl rfl rfl (bI rfl rfl rfl rfl rfl (gw rfl jO) rfl rfl rfl rfl (fun b58=>bi 1 (by kernel_rfl) (bf rfl rfl rfl rfl (nk (cK (p:=pO a30 l29.length c31) rfl (.p rfl) sm rfl) (bi 5 (by kernel_rfl) ?_)))))
     refine bf rfl rfl rfl rfl (bX (enc:=Zm.enc) rfl rfl rfl rfl rfl rfl rfl rfl rfl gx (by exact ak aB) hl60 (fun a61 c62=>?_))
     refine cY 6 (by kernel_rfl) rfl rfl rfl rfl (bq rfl rfl rfl rfl rfl (.p rfl)) (bi 7 (by kernel_rfl) (dX rfl rfl rfl (an (vs:=[pO a61 l60.length c62]) rfl rfl rfl rfl rfl (dh (dh cR)) (eg (eg (eg (eg og)))) (dW (by kernel_rfl) ?_))))
     exact aH (a61,c62) (rF rfl) (be (ak (ak (ak aB))) (be (ak (ak aB)) (be (ak (ak aB)) (be (ak (ak aB)) dC)))) trivial
    rintro ⟨a61,c62⟩ τ _;dsimp only [aF]
    refine af (aa (bg 5 [] [97,98,96] [(99,.agg [pS ((((Zd.as_proved_ m56)).use).Code),pI ((((Zd.as_proved_ m56)).use).Value),pB ((((Zd.as_proved_ m56)).use).Originating),pI ((((Zd.as_proved_ m56)).premise).Product),pI ((((Zd.as_proved_ m56)).premise).Agreement)]),(100,pB (Zd.is_proved_ m56))] (fota 1 (Zd.ta_proved_ m56) bN) (by kernel_rfl) (aj rfl (aU (cs:=[pS ByteArray.empty,pI 0,pB false,pI 0,pI 0]) rfl rfl rfl rfl (fun b64=>aW rfl rfl (an (vs:=[pS ((((Zd.as_proved_ m56)).use).Code),pI ((((Zd.as_proved_ m56)).use).Value),pB ((((Zd.as_proved_ m56)).use).Originating),pI ((((Zd.as_proved_ m56)).premise).Product),pI ((((Zd.as_proved_ m56)).premise).Agreement)]) rfl rfl rfl rfl rfl cR EG (aQ [(26,pB (Zd.is_proved_ m56))] (by kernel_rfl) (bP (al [(101,pB (Zd.is_proved_ m56))] (by kernel_rfl) (cG rfl hq55 (fun hc65 hq55=>?_) fun hc65 hq55=>?_))))))))))
    ·refine aa ?_
     refine co 3 [0] [103] [(102,pO a25 l24.length c26),(104,.agg [pI ((((Zd.as_proved_ m56)).premise).Product),pI ((((Zd.as_proved_ m56)).premise).Agreement)])] (by kernel_rfl) (aj rfl (bI rfl rfl rfl rfl rfl (gw rfl jO) rfl rfl rfl rfl (fun b66=>ae hq55 fun l68 hl68 hq55=>?_)))
     refine aj rfl (bX (enc:=Za.enc) rfl rfl rfl rfl rfl rfl rfl rfl rfl gx (by exact ak (ak (ak (ak (ak aB))))) hl68 (fun a69 c70=>?_))
     refine aQ [(22,pO a69 l68.length c70)] (by kernel_rfl) (aG ?_)
     obtain rfl:=osi hq55
     exact aH ((a69,c70,a61,c62),(l68,l60)) (uH rfl) (be (ak (ak (ak aB))) (be (ak (ak (ak aB))) (be aB (be (ak (ak aB)) (be (ak (ak aB)) cd))))) rfl
    refine ai ?_
    refine aG ?_
    obtain rfl:=osi hq55
    exact aH ((a25,c26,a61,c62),(l24,l60)) (uH rfl) (be (ak aB) (be (ak aB) (be (ak (ak aB)) (be (ak aB) (be (ak aB) cd))))) rfl
   rintro ⟨⟨a47,c48,a52,c53⟩,⟨l49,l54⟩⟩ τ hz;(try dsimp only at hz);subst q55;(try dsimp only at hb41);dsimp only [aF]
   refine ah [107] [(85,pI (IntKind.i64.wrap (v27+1)))] (by kernel_rfl) ?_
   exact bh hb41 (a47,c48,a52,c53) (uH rfl) (be aB (be aB (be (ak aB) sY)))
  refine aV ?_
  refine aw (ap hb41 (fun ht=>au rfl ?_))
  exact aH ((a25,c26,a30,c31),(l24,l29)) (AV rfl) (be aB (be aB (be (ak aB) sY))) ht.symm
 rintro ⟨⟨a33,c34,a38,c39⟩,⟨l35,l40⟩⟩ τ hz;(try dsimp only at hz);subst q42;(try dsimp only at h);dsimp only [aF]
 refine af (ae h fun x72 hx72 h=>aa (ar 1 [(108,pO a33 l35.length c34)] (by kernel_rfl) ?_))
 refine aj rfl (bc rfl rfl (ρ1:=[_]) (aA (by exact ak (ak aB)) (List.Perm.refl _)) (bW hx72) ?_);rintro _ _ ⟨rfl,rfl⟩
 refine aq (bP ?_)
 refine tV (css:=List.map Zm.enc l40) (a:=a38) (by exact ak (ak (ak (ak aB)))) ?_
 refine sf (k:=4) (enc:=Zm.enc) (xs:=l40) (b:=b22) (a:=a38) rfl gx (dh (dh (dh cR))) (cC (ρd:=[PRes.row a33 _ _ _ _ _,PRes.b b2 _ _]) [(0,0),(1,0),(2,1),(3,1),(4,0)] _ (aA (ak aB) (aA (ak aB) (List.Perm.refl _))) (by kernel_rfl) rfl (ae h fun x73 hx73 h=>zA 2 [1] [(110,.agg [pS x5.1.Code,pI x5.1.Price,pB x5.1.Obtained,pL eS x21.2,pL Zm.enc l40]),(111,pO a33 l35.length c34)] (by kernel_rfl) ?_))
 refine kY rfl rfl rfl (bc rfl rfl (ρ1:=[_]) (aA (by exact aB) (List.Perm.refl _)) (dg hx73) ?_);rintro _ _ ⟨a74,c75,rfl,rfl⟩
 refine AP rfl rfl (an (vs:=[pS x5.1.Code,pI x5.1.Price,pB x5.1.Obtained,pL eS x21.2,pL Zm.enc l40]) rfl rfl rfl rfl rfl (dh cR) EG (iA 1 [(11,pO a74 x73.length c75)] (by kernel_rfl) (da (aM ?_))))
 refine fB (enc:=Za.enc) (xs:=x73) 11 rfl (by exact aB) ?_
 refine bV ?_
 obtain rfl:=osi h
 exact aK (di (gy rfl tX rfl) (aL rfl)) (be (ak (ak (ak (ak aB)))) cd) ⟨rfl,rfl⟩
def ki (p0:Ze) (p1:Zl):Option ((List Int)×Bool):=(f8 p0 p1).bind fun x3=>cond (!x3) (some ([],false)) ((pR p0).bind fun x5=>(Irule_test_witness x5 p1).bind fun x6=>some (x6.1,x6.2))
theorem tM {p0:Ze} {p1:Zl} {r:((List Int)×Bool)}  (h:ki p0 p1=some r):PF 78 [.agg (aT p0),.agg (bL p1)] (.tup [pL eI r.1,pB r.2]):=by
 unfold ki at h
 refine bv ?_
 refine fh Tryz.func78 rfl Tryz.ntmps78 Tryz.results78 rfl (aa (aj rfl (bu (cs:=(aT p0)) rfl rfl (fun b1=>aj rfl (bu (cs:=(bL p1)) rfl rfl (fun b2=>bo [4,5] (by kernel_rfl) (dn (ae h fun x3 hx3 h=>av [1,0] [6,7,8] [(9,pB (!x3))] (bR 2 (mN hx3) bN) (by kernel_rfl) (cG rfl h (fun hc4 h=>?_) fun hc4 h=>?_)))))))))
 ·refine af ?_
  refine al [(4,pN),(5,pB false)] (by kernel_rfl) (aM (iO 4 rfl (bV (am ?_))))
  obtain rfl:=osi h
  exact aK (di (aL rfl) (aL rfl)) cd ⟨rfl,rfl⟩
 refine ai ?_
 refine bP (cC (ρd:=[]) [(0,0),(2,0),(1,1),(3,1),(4,0),(5,0),(6,0),(7,0)] _ (List.Perm.refl _) (by kernel_rfl) rfl (ae h fun x5 hx5 h=>ae h fun x6 hx6 h=>cP 8 [1,0] [10,12,11,13,14,15] [(4,pL eI x6.1),(5,pB x6.2)] (bR 2 (pT hx5) (C4 3 (Irule_test_witness_ok hx6) bN)) (by kernel_rfl) (da (eD ?_))))
 obtain rfl:=osi h
 exact aK (di (aL rfl) (aL rfl)) cd ⟨rfl,rfl⟩
def fM (p0:Zj) (p1:(List Zc)) (p2:(List Zb)) (p3:ByteArray) (p4:(List Za)) (p5:(List Zf)):Option (Bool×(List Za)×(List Zf)):=(gu p1 p2 p3 p0.claim p4).bind fun x2=>(ki p0.rule x2.1).bind fun x4=>Option.bind (cond x4.2 ((app 64 p5 [(⟨p0.claim,x4.1,x2.2⟩:Zf)]).bind fun l14=>some l14) (some p5)) (fun l9=>some (x4.2,p4,l9))
theorem rK {p0:Zj} {p1:(List Zc)} {p2:(List Zb)} {p3:ByteArray} {p4:(List Za)} {p5:(List Zf)} {b4:Nat}  {a_4:Option Addr}  {n_4:Nat}  {c_4:Nat}  {b5:Nat}  {a_5:Option Addr}  {n_5:Nat}  {c_5:Nat} {r:(Bool×(List Za)×(List Zf))}  (h:fM p0 p1 p2 p3 p4 p5=some r):PCall 77 [.agg (gM p0),.ref [pL Zc.enc p1] 0,.ref [pL Zb.enc p2] 0,.ref [pS p3] 0,pP b4 0,pP b5 0] [PRes.b b4 31 [.v (.slice a_4 n_4 c_4)],PRes.row a_4 n_4 c_4 28 2 (List.map Za.enc p4),PRes.b b5 45 [.v (.slice a_5 n_5 c_5)],PRes.row a_5 n_5 c_5 61 4 (List.map Zf.enc p5)] (fun pv ρ'=>pv=pB r.1∧∃ (x0:Option Addr) (z0:Nat) (x1:Option Addr) (z1:Nat),ρ'=[PRes.b b4 31 [.v (.slice x0 (r.2.1).length z0)],PRes.row x0 (r.2.1).length z0 28 2 (List.map Za.enc r.2.1),PRes.b b5 45 [.v (.slice x1 (r.2.2).length z1)],PRes.row x1 (r.2.2).length z1 61 4 (List.map Zf.enc r.2.2)]):=by
 unfold fM at h
 refine jl Tryz.func77 rfl Tryz.ntmps77 Tryz.results77 rfl ?_
 refine ld (enc:=Za.enc) (xs:=p4) (a:=a_4) tX (fun hl ha=>?_);subst hl;clear ha
 refine ld (enc:=Zf.enc) (xs:=p5) (a:=a_5) DQ (fun hl ha=>?_);subst hl;clear ha
 refine af (aa (aj rfl (bu (cs:=(gM p0)) rfl rfl (fun b1=>bo [7] (by kernel_rfl) (dD h fun x2 hx2 h=>aa (co 6 [0,1] [16] [(13,pL Zc.enc p1),(14,pL Zb.enc p2),(15,pS p3),(17,.agg [pI p0.claim.Product,pI p0.claim.Agreement]),(18,pO a_4 p4.length c_4)] (by kernel_rfl) ?_))))))
 refine aj rfl (bc rfl rfl (ρ1:=[_]) (aA (by exact ak (ak aB)) (List.Perm.refl _)) (nZ hx2) ?_);rintro _ _ ⟨rfl,rfl⟩
 refine cu 3 [12] [(20,.agg (bL x2.1)),(21,pL Za.enc x2.2)] (by kernel_rfl) (aj rfl (aU (cs:=[pS ByteArray.empty,pI 0,pB false,pN,pN]) rfl rfl rfl rfl (fun b3=>aW rfl rfl (an (vs:=(bL x2.1)) rfl rfl rfl rfl rfl cR EG (aQ [(9,pL Za.enc x2.2)] (by kernel_rfl) (dD h fun x4 hx4 h=>av [2,0] [23,24,25,26,22,27,28] [(10,pL eI x4.1),(11,pB x4.2)] (bR 3 (tM hx4) bN) (by kernel_rfl) (dn (al [(29,pB x4.2)] (by kernel_rfl) (jB h fun q10 hq10 h=>?_)))))))))
 refine az (Y:=(Option Addr×Nat)×((List Zf))) (fun ((a7,c8),l9)=>[(11,pB x4.2)]) (fun ((a7,c8),l9)=>[PRes.b b4 31 [pO a_4 p4.length c_4],PRes.b b5 45 [pO a7 l9.length c8],PRes.row a_4 p4.length c_4 28 2 (List.map Za.enc p4),PRes.row a7 l9.length c8 61 4 (List.map Zf.enc l9)]) (fun ((a7,c8),l9)=>q10=l9) ?_ ?_
 ·skip
  refine jX rfl hq10 (fun hc11 hq10=>?_) fun hc11 hq10=>?_
  ·refine aa ?_
   refine co 6 [4,2] [31,32,33,34] [(30,pO a_5 p5.length c_5),(35,.agg [pI p0.claim.Product,pI p0.claim.Agreement,pL eI x4.1,pL Za.enc x2.2])] (by kernel_rfl) (aj rfl (bI rfl rfl rfl rfl rfl (gw rfl jO) rfl rfl rfl rfl (fun b12=>ae hq10 fun l14 hl14 hq10=>?_)))
   refine aj rfl (bX (enc:=Zf.enc) rfl rfl rfl rfl rfl rfl rfl rfl rfl gx (by exact ak (ak (ak (ak (ak (ak aB)))))) hl14 (fun a15 c16=>?_))
   refine aW rfl rfl (an (vs:=[pO a15 l14.length c16]) rfl rfl rfl rfl rfl (dh (dh (dh (dh (dh (dh cR)))))) og (aq ?_))
   obtain rfl:=osi hq10
   exact aH ((a15,c16),l14) (xF rfl) (be (ak (ak (ak (ak (ak aB))))) (be (ak (ak (ak (ak (ak aB))))) (be (ak (ak (ak aB))) dC))) rfl
  refine ai ?_
  obtain rfl:=osi hq10
  exact aH ((a_5,c_5),p5) (xF rfl) (be (ak (ak (ak aB))) (be (ak (ak (ak aB))) (be (ak aB) (be (ak (ak aB)) cd)))) rfl
 rintro ⟨⟨a7,c8⟩,l9⟩ τ hz;(try dsimp only at hz);subst q10;(try dsimp only at h);dsimp only [aF]
 refine af (ah [38] [(7,pB x4.2)] (by kernel_rfl) (eD ?_))
 obtain rfl:=osi h
 exact aK (cN (aL rfl)) (be aB (be (ak aB) sY)) ⟨rfl,_,_,_,_,rfl⟩
def kj (p0:(List Zc)) (p1:(List Zb)) (p2:ByteArray):Option (List Zj):=(aN (S:=(List Zj)×Int) (T:=((List Zj))) (fun (l2,v5)=>cond (decide (v5<(p0.length:Int))) ((idx p0 v5).bind fun m14=>(aN (S:=(List Zj)×Int) (T:=((List Zj))) (fun (l17,v20)=>cond (decide (v20<(p1.length:Int))) (((idx p1 v20).bind fun m33=>(dr m33 m14.Code).bind fun x36=>(gd x36.2 (cg p0 p1 p2 (⟨m14.ID,m33.ID⟩:Za))).bind fun x38=>cond (x36.2&&x38) ((app 112 l17 [(⟨(⟨m14.ID,m33.ID⟩:Za),x36.1⟩:Zj)]).bind fun l42=>some l42) (some l17)).bind fun l31=>some (.inl (l31,(IntKind.i64.wrap (v20+1))))) (some (.inr l17))) FUEL (l2,0)).bind fun l24=>some (.inl (l24,(IntKind.i64.wrap (v5+1))))) (some (.inr l2))) FUEL (([]:List Zj),0)).bind fun l9=>some l9
theorem tN {p0:(List Zc)} {p1:(List Zb)} {p2:ByteArray} {r:(List Zj)}  (h:kj p0 p1 p2=some r):PF 79 [pL Zc.enc p0,pL Zb.enc p1,pS p2] (pL Zj.enc r):=by
 unfold kj at h
 refine bv ?_
 refine fh Tryz.func79 rfl Tryz.ntmps79 Tryz.results79 rfl (bd [6] (by kernel_rfl) (bP (al [(7,pN)] (by kernel_rfl) (dn (al [(15,pL Zc.enc p0),(16,pI (p0.length:Int)),(17,pI 0)] (by kernel_rfl) (aM (ca 138 9 (ae h fun q11 hq11 h=>?_))))))))
 refine az (Y:=(Option Addr×Nat)×((List Zj))) (fun ((a7,c8),l9)=>[(7,pO a7 l9.length c8)]) (fun ((a7,c8),l9)=>[PRes.row a7 l9.length c8 138 9 (List.map Zj.enc l9)]) (fun ((a7,c8),l9)=>q11=l9) ?_ ?_
 ·refine aJ ?_
  refine aP (Y:=Option Addr×Nat) (S:=(List Zj)×Int) _ hq11 (fun (a3,c4) (l2,v5)=>[(0,pL Zc.enc p0),(1,pL Zb.enc p1),(2,pS p2),(7,pO a3 l2.length c4),(15,pL Zc.enc p0),(16,pI (p0.length:Int)),(17,pI v5)]) (fun (a3,c4) (l2,v5)=>[PRes.row a3 l2.length c4 138 9 (List.map Zj.enc l2)]) (none,0) (rF rfl) dC ?_
  rintro ⟨a3,c4⟩ ⟨l2,v5⟩ o τ hb10;(try dsimp only at hb10);dsimp only [aF]
  refine af (al [(18,pB (decide (v5<(p0.length:Int))))] (by kernel_rfl) (bP (jX rfl hb10 (fun hc13 hb10=>?_) fun hc13 hb10=>?_)))
  ·refine ai ?_
   refine bP (iM (ae hb10 fun m14 hm14 hb10=>aa (bg 2 [] [19] [(20,.agg (aZ m14))] (eO 0 Zc.enc hm14 bN) (by kernel_rfl) (aj rfl (aU (cs:=[pI 0,pS ByteArray.empty,pS ByteArray.empty,pI 0,pB false,pN,pN]) rfl rfl rfl rfl (fun b15=>aW rfl rfl (an (vs:=(aZ m14)) rfl rfl rfl rfl rfl cR qu (aq (bP (al [(21,pL Zb.enc p1),(22,pI (p1.length:Int)),(23,pI 0)] (by kernel_rfl) (jB hb10 fun q26 hq26 hb10=>?_)))))))))))
   refine mz (Y:=(Option Addr×Nat)×((List Zj))) (fun ((a22,c23),l24)=>[(0,pL Zc.enc p0),(1,pL Zb.enc p1),(2,pS p2),(7,pO a22 l24.length c23),(15,pL Zc.enc p0),(16,pI (p0.length:Int)),(17,pI v5)]) (fun ((a22,c23),l24)=>[PRes.row a22 l24.length c23 138 9 (List.map Zj.enc l24)]) (fun ((a22,c23),l24)=>q26=l24) ?_ ?_
   ·refine aJ ?_
    refine aP (Y:=Option Addr×Nat) (S:=(List Zj)×Int) _ hq26 (fun (a18,c19) (l17,v20)=>[(0,pL Zc.enc p0),(1,pL Zb.enc p1),(2,pS p2),(7,pO a18 l17.length c19),(9,pP b15 0),(15,pL Zc.enc p0),(16,pI (p0.length:Int)),(17,pI v5),(21,pL Zb.enc p1),(22,pI (p1.length:Int)),(23,pI v20)]) (fun (a18,c19) (l17,v20)=>[PRes.b b15 76 (aZ m14),PRes.row a18 l17.length c19 138 9 (List.map Zj.enc l17)]) (a3,c4) (iY rfl (iY rfl (DR rfl))) sY ?_
    rintro ⟨a18,c19⟩ ⟨l17,v20⟩ o τ hb25;(try dsimp only at hb25);dsimp only [aF]
    refine af (al [(24,pB (decide (v20<(p1.length:Int))))] (by kernel_rfl) (bP (jX rfl hb25 (fun hc27 hb25=>?_) fun hc27 hb25=>?_)))
    ·refine ai ?_
     refine dD hb25 fun q32 hq32 hb25=>?_
     refine az (Y:=(Option Addr×Nat)×((List Zj))) (fun ((a29,c30),l31)=>[(0,pL Zc.enc p0),(1,pL Zb.enc p1),(2,pS p2),(7,pO a29 l31.length c30),(9,pP b15 0),(15,pL Zc.enc p0),(16,pI (p0.length:Int)),(17,pI v5),(21,pL Zb.enc p1),(22,pI (p1.length:Int)),(23,pI v20)]) (fun ((a29,c30),l31)=>[PRes.b b15 76 (aZ m14),PRes.row a29 l31.length c30 138 9 (List.map Zj.enc l31)]) (fun ((a29,c30),l31)=>q32=l31) ?_ ?_
     ·skip
      refine iM (ae hq32 fun m33 hm33 hq32=>aa (bg 2 [] [25] [(26,.agg (aS m33))] (eO 0 Zb.enc hm33 bN) (by kernel_rfl) (aj rfl (aU (cs:=[pI 0,pI 0,pN,pN]) rfl rfl rfl rfl (fun b34=>aW rfl rfl (an (vs:=(aS m33)) rfl rfl rfl rfl rfl cR AB (aq (bP (aa (co 5 [1,0] [27,28,29,30] [(31,.agg [pI m14.ID,pI m33.ID])] (by kernel_rfl) (aj rfl (aU (cs:=[pI 0,pI 0]) rfl rfl rfl rfl (fun b35=>aW rfl rfl (an (vs:=[pI m14.ID,pI m33.ID]) rfl rfl rfl rfl rfl cR AU (aq (dD hq32 fun x36 hx36 hq32=>aa (bg 7 [1,2] [33,34,35,36,32] [(37,.agg (aT x36.1)),(38,pB x36.2)] (bR 3 (iI hx36) bN) (by kernel_rfl) (aj rfl (aU (cs:=[pI 0,pI 0,pN,pI 0,pI 0,pS ByteArray.empty,pN]) rfl rfl rfl rfl (fun b37=>aW rfl rfl (an (vs:=(aT x36.1)) rfl rfl rfl rfl rfl cR qu (aQ [(14,pB x36.2)] (by kernel_rfl) (dD hq32 fun x38 hx38 hq32=>av [1] (rg 39 7) [(46,pB (x36.2&&x38))] (iW 6 (fun hc=>eQ (gS hx38 hc)) bN) (by kernel_rfl) (cG rfl hq32 (fun hc39 hq32=>?_) fun hc39 hq32=>?_))))))))))))))))))))))))
      ·refine aa ?_
       refine co 4 [1,0] [48,49] [(47,pO a18 l17.length c19),(50,.agg [pI m14.ID,pI m33.ID,pI x36.1.Kind,pI x36.1.Digits,pL eS x36.1.Except,pI x36.1.Tolerance,pI x36.1.Limit,pS x36.1.Name,pL Ze.enc x36.1.Args])] (by kernel_rfl) (aj rfl (bI rfl rfl rfl rfl rfl (gw rfl jO) rfl rfl rfl rfl (fun b40=>ae hq32 fun l42 hl42 hq32=>?_)))
       refine aj rfl (bX (enc:=Zj.enc) rfl rfl rfl rfl rfl rfl rfl rfl rfl gx (by exact ak (ak (ak (ak (ak aB))))) hl42 (fun a43 c44=>?_))
       refine aQ [(7,pO a43 l42.length c44)] (by kernel_rfl) (aG ?_)
       obtain rfl:=osi hq32
       exact aH ((a43,c44),l42) (iY rfl (iY rfl (DR rfl))) (be (ak (ak (ak (ak (ak aB))))) dC) rfl
      refine ai ?_
      refine aG ?_
      obtain rfl:=osi hq32
      exact aH ((a18,c19),l17) (iY rfl (iY rfl (DR rfl))) (be (ak (ak (ak aB))) (be (ak (ak (ak aB))) cd)) rfl
     rintro ⟨⟨a29,c30⟩,l31⟩ τ hz;(try dsimp only at hz);subst q32;(try dsimp only at hb25);dsimp only [aF]
     refine ah [53] [(23,pI (IntKind.i64.wrap (v20+1)))] (by kernel_rfl) ?_
     exact bh hb25 (a29,c30) (iY rfl (iY rfl (DR rfl))) sY
    refine aV ?_
    refine aw (ap hb25 (fun ht=>au rfl ?_))
    exact iZ ((a18,c19),l17) (rF rfl) (be (ak aB) cd) ht.symm
   rintro ⟨⟨a22,c23⟩,l24⟩ τ ρ1 hsub46 hz;(try dsimp only at hz hsub46);subst q26;(try dsimp only at hb10);dsimp only [aF]
   refine gC (rE hsub46 (ah [54] [(17,pI (IntKind.i64.wrap (v5+1)))] (by kernel_rfl) ?_))
   exact bh hb10 (a22,c23) (rF rfl) dC
  refine aV ?_
  refine aw (ap hb10 (fun ht=>au rfl ?_))
  exact aH ((a3,c4),l2) (xF rfl) dC ht.symm
 rintro ⟨⟨a7,c8⟩,l9⟩ τ hz;(try dsimp only at hz);subst q11;(try dsimp only at h);dsimp only [aF]
 refine af (ah [55] [(6,pO a7 l9.length c8)] (by kernel_rfl) (aM ?_))
 refine fB (enc:=Zj.enc) (xs:=l9) 6 rfl (by exact aB) ?_
 refine bV ?_
 exact zz r h rfl
def iV (p0:(List Zc)) (p1:(List Zb)) (p2:ByteArray):Option ((List Zf)×Int):=(cT p0).bind fun x4=>cond (x4 != 0) (some ([],x4)) ((cS p1).bind fun x6=>cond (x6 != 0) (some ([],x6)) ((bQ p2).bind fun x8=>cond (!x8) (some ([],(1:Int))) ((kj p0 p1 p2).bind fun x12=>(aN (S:=(List Zj)×(List Zf)×(List Za)) (T:=(Unit)⊕(_)) (fun (l13,l15,l19)=>(aN (S:=(List Zj)×Int×(List Zf)×(List Za)) (T:=((List Zj)×(List Zf)×(List Za))) (fun (l27,v30,l32,l36)=>cond (decide (v30<(l13.length:Int))) (((idx l13 v30).bind fun m68=>(fM m68 p0 p1 p2 l36 l32).bind fun x70=>cond (!x70.1) ((app 112 l27 [m68]).bind fun l80=>some (l80,x70.2.2,x70.2.1)) (some (l27,x70.2.2,x70.2.1))).bind fun (l58,l62,l66)=>some (.inl (l58,(IntKind.i64.wrap (v30+1)),l62,l66))) (some (.inr (l27,l32,l36)))) FUEL (([]:List Zj),0,l15,l19)).bind fun (l42,l46,l50)=>cond (((l46.length:Nat):Int) == ((l15.length:Nat):Int)) (some (.inr (.inr (l46,(0:Int))))) ((sub l46 ((l15.length:Nat):Int) (l46.length:Int)).bind fun l85=>(aN (S:=Int×(List Za)) (T:=((List Za))) (fun (v86,l88)=>cond (decide (v86<((l46.length - ((l15.length:Nat):Int).toNat:Nat):Int))) ((kZ v86).bind fun u100=>(idx l46 (((l15.length:Nat):Int)+v86)).bind fun m101=>(app 16 l88 [m101.Claim]).bind fun l105=>some (.inl ((IntKind.i64.wrap (v86+1)),l105))) (some (.inr l88))) FUEL (0,l50)).bind fun l96=>some (.inl (l42,l46,l96)))) FUEL (x12,([]:List Zf),([]:List Za))).bind fun q=>match q with | .inl _=>none | .inr e=>some e)))
theorem tO {p0:(List Zc)} {p1:(List Zb)} {p2:ByteArray} {r:((List Zf)×Int)}  (h:iV p0 p1 p2=some r):PF 30 [pL Zc.enc p0,pL Zb.enc p1,pS p2] (.tup [pL Zf.enc r.1,pI r.2]):=by
 unfold iV at h
 refine bv ?_
 refine fh Tryz.func30 rfl Tryz.ntmps30 Tryz.results30 rfl (aa (aj rfl (bu (cs:=[pL Zc.enc p0]) rfl rfl (fun b1=>aj rfl (bu (cs:=[pL Zb.enc p1]) rfl rfl (fun b2=>aj rfl (bu (cs:=[pS p2]) rfl rfl (fun b3=>bo [6,7] (by kernel_rfl) (dn (ae h fun x4 hx4 h=>av [2] [20,21] [(8,pI x4)] (bR 1 (kh hx4) bN) (by kernel_rfl) (bP (ah [22] [(23,pB (x4 != 0))] (by kernel_rfl) (cG rfl h (fun hc5 h=>?_) fun hc5 h=>?_)))))))))))))
 ·refine af ?_
  refine ah [24] [(6,pN),(7,pI x4)] (by kernel_rfl) (aM (iO 6 rfl (bV (am ?_))))
  obtain rfl:=osi h
  exact aK (di (aL rfl) (aL rfl)) cd ⟨rfl,rfl⟩
 refine ai ?_
 refine dn (ae h fun x6 hx6 h=>av [1] [25,26] [(9,pI x6)] (bR 1 (kg hx6) bN) (by kernel_rfl) (bP (ah [27] [(28,pB (x6 != 0))] (by kernel_rfl) (cG rfl h (fun hc7 h=>?_) fun hc7 h=>?_))))
 ·refine af ?_
  refine ah [29] [(6,pN),(7,pI x6)] (by kernel_rfl) (aM (iO 6 rfl (bV (am ?_))))
  obtain rfl:=osi h
  exact aK (di (aL rfl) (aL rfl)) cd ⟨rfl,rfl⟩
 refine ai ?_
 refine dn (ae h fun x8 hx8 h=>av [0] [30,31] [(32,pB (!x8))] (bR 1 (ef hx8) bN) (by kernel_rfl) (cG rfl h (fun hc9 h=>?_) fun hc9 h=>?_))
 ·refine af ?_
  refine al [(6,pN),(7,pI 1)] (by kernel_rfl) (aM (iO 6 rfl (bV (am ?_))))
  obtain rfl:=osi h
  exact aK (di (aL rfl) (aL rfl)) cd ⟨rfl,rfl⟩
 refine ai ?_
 refine bP (aa (aj rfl (aU (cs:=[pN]) rfl rfl rfl rfl (fun b10=>aq (bP (aa (aj rfl (aU (cs:=[pN]) rfl rfl rfl rfl (fun b11=>aq (bP (aa ?_)))))))))))
 refine qr 3 rfl (by exact ak (ak (ak (ak aB)))) ?_
 refine qr 4 rfl (by exact ak (ak (ak (ak aB)))) ?_
 refine qr 5 rfl (by exact ak (ak (ak (ak aB)))) ?_
 refine gf [33] [(12,.fn 77 [.ref [pL Zc.enc p0] 0,.ref [pL Zb.enc p1] 0,.ref [pS p2] 0,pP b11 0,pP b10 0])] (by kernel_rfl) (dD h fun x12 hx12 h=>av [] [34,35,36,37] [(13,pL Zj.enc x12)] (bR 3 (tN hx12) bN) (by kernel_rfl) (aM (ca 61 4 (ca 28 2 (ae h fun q23 hq23 h=>aJ ?_)))))
 refine aP (Y:=Option Addr×Nat×Option Addr×Nat) (S:=(List Zj)×(List Zf)×(List Za)) _ hq23 (fun (a16,c17,a20,c21) (l13,l15,l19)=>[(10,pP b10 0),(11,pP b11 0),(12,.fn 77 [.ref [pL Zc.enc p0] 0,.ref [pL Zb.enc p1] 0,.ref [pS p2] 0,pP b11 0,pP b10 0]),(13,pL Zj.enc l13)]) (fun (a16,c17,a20,c21) (l13,l15,l19)=>[PRes.b b10 45 [pO a16 l15.length c17],PRes.b b11 31 [pO a20 l19.length c21],PRes.row a16 l15.length c17 61 4 (List.map Zf.enc l15),PRes.row a20 l19.length c21 28 2 (List.map Za.enc l19)]) (none,0,none,0) (kQ rfl) (be (ak (ak (ak (ak (ak (ak aB)))))) (be (ak (ak (ak (ak (ak aB))))) (be (ak aB) dC))) ?_
 rintro ⟨a16,c17,a20,c21⟩ ⟨l13,l15,l19⟩ o τ hb22;(try dsimp only at hb22);dsimp only [aF]
 refine iM (al [(14,pN)] (by kernel_rfl) (bP (bj [0] [38,39] [(15,pI ((l15.length:Nat):Int))] (by kernel_rfl) (dn (al [(40,pL Zj.enc l13),(41,pI (l13.length:Int)),(42,pI 0)] (by kernel_rfl) (aM (ca 138 9 (ae hb22 fun q52 hq52 hb22=>?_))))))))
 refine az (Y:=(Option Addr×Nat×Option Addr×Nat×Option Addr×Nat)×((List Zj)×(List Zf)×(List Za))) (fun ((a40,c41,a44,c45,a48,c49),(l42,l46,l50))=>[(10,pP b10 0),(11,pP b11 0),(12,.fn 77 [.ref [pL Zc.enc p0] 0,.ref [pL Zb.enc p1] 0,.ref [pS p2] 0,pP b11 0,pP b10 0]),(14,pO a40 l42.length c41),(15,pI ((l15.length:Nat):Int))]) (fun ((a40,c41,a44,c45,a48,c49),(l42,l46,l50))=>[PRes.b b10 45 [pO a44 l46.length c45],PRes.b b11 31 [pO a48 l50.length c49],PRes.row a40 l42.length c41 138 9 (List.map Zj.enc l42),PRes.row a44 l46.length c45 61 4 (List.map Zf.enc l46),PRes.row a48 l50.length c49 28 2 (List.map Za.enc l50)]) (fun ((a40,c41,a44,c45,a48,c49),(l42,l46,l50))=>q52=(l42,l46,l50)) ?_ ?_
 ·refine aJ ?_
  refine aP (Y:=Option Addr×Nat×Option Addr×Nat×Option Addr×Nat) (S:=(List Zj)×Int×(List Zf)×(List Za)) _ hq52 (fun (a28,c29,a33,c34,a37,c38) (l27,v30,l32,l36)=>[(10,pP b10 0),(11,pP b11 0),(12,.fn 77 [.ref [pL Zc.enc p0] 0,.ref [pL Zb.enc p1] 0,.ref [pS p2] 0,pP b11 0,pP b10 0]),(14,pO a28 l27.length c29),(15,pI ((l15.length:Nat):Int)),(40,pL Zj.enc l13),(41,pI (l13.length:Int)),(42,pI v30)]) (fun (a28,c29,a33,c34,a37,c38) (l27,v30,l32,l36)=>[PRes.b b10 45 [pO a33 l32.length c34],PRes.b b11 31 [pO a37 l36.length c38],PRes.row a28 l27.length c29 138 9 (List.map Zj.enc l27),PRes.row a33 l32.length c34 61 4 (List.map Zf.enc l32),PRes.row a37 l36.length c38 28 2 (List.map Za.enc l36)]) (none,0,a16,c17,a20,c21) (qW rfl) (be (ak aB) (be (ak aB) zs3)) ?_
  rintro ⟨a28,c29,a33,c34,a37,c38⟩ ⟨l27,v30,l32,l36⟩ o τ hb51;(try dsimp only at hb51);dsimp only [aF]
  refine af (al [(43,pB (decide (v30<(l13.length:Int))))] (by kernel_rfl) (bP (jX rfl hb51 (fun hc54 hb51=>?_) fun hc54 hb51=>?_)))
  ·refine ai ?_
   refine dD hb51 fun q67 hq67 hb51=>?_
   refine az (Y:=(Option Addr×Nat×Option Addr×Nat×Option Addr×Nat)×((List Zj)×(List Zf)×(List Za))) (fun ((a56,c57,a60,c61,a64,c65),(l58,l62,l66))=>[(10,pP b10 0),(11,pP b11 0),(12,.fn 77 [.ref [pL Zc.enc p0] 0,.ref [pL Zb.enc p1] 0,.ref [pS p2] 0,pP b11 0,pP b10 0]),(14,pO a56 l58.length c57),(15,pI ((l15.length:Nat):Int)),(40,pL Zj.enc l13),(41,pI (l13.length:Int)),(42,pI v30)]) (fun ((a56,c57,a60,c61,a64,c65),(l58,l62,l66))=>[PRes.b b10 45 [pO a60 l62.length c61],PRes.b b11 31 [pO a64 l66.length c65],PRes.row a56 l58.length c57 138 9 (List.map Zj.enc l58),PRes.row a60 l62.length c61 61 4 (List.map Zf.enc l62),PRes.row a64 l66.length c65 28 2 (List.map Za.enc l66)]) (fun ((a56,c57,a60,c61,a64,c65),(l58,l62,l66))=>q67=(l58,l62,l66)) ?_ ?_
   ·skip
    refine iM (ae hq67 fun m68 hm68 hq67=>aa (bg 2 [] [44] [(45,.agg (gM m68))] (eO 0 Zj.enc hm68 bN) (by kernel_rfl) (aj rfl (aU (cs:=[pI 0,pI 0,pI 0,pI 0,pN,pI 0,pI 0,pS ByteArray.empty,pN]) rfl rfl rfl rfl (fun b69=>aW rfl rfl (an (vs:=(gM m68)) rfl rfl rfl rfl rfl cR zl9 (aq (dD hq67 fun x70 hx70 hq67=>aa (gg 2 [0] [(46,.fn 77 [.ref [pL Zc.enc p0] 0,.ref [pL Zb.enc p1] 0,.ref [pS p2] 0,pP b11 0,pP b10 0]),(47,.agg (gM m68))] (by kernel_rfl) ?_)))))))))
    refine aj rfl (De rfl rfl rfl (ρ1:=[_,_,_,_]) (aA (by exact ak (ak aB)) (aA (by exact ak (ak (ak (ak aB)))) (aA (by exact ak aB) (aA (by exact ak (ak aB)) (List.Perm.refl _))))) (rK hx70) ?_);rintro _ _ ⟨rfl,a71,c72,a73,c74,rfl⟩
    refine aQ [(49,pB (!x70.1))] (by kernel_rfl) (cG rfl hq67 (fun hc77 hq67=>?_) fun hc77 hq67=>?_)
    ·refine aa ?_
     refine gg 2 [4] [(50,pO a28 l27.length c29),(51,.agg (gM m68))] (by kernel_rfl) (aj rfl (bI rfl rfl rfl rfl rfl (gw rfl jO) rfl rfl rfl rfl (fun b78=>ae hq67 fun l80 hl80 hq67=>?_)))
     refine aj rfl (bX (enc:=Zj.enc) rfl rfl rfl rfl rfl rfl rfl rfl rfl gx (by exact ak (ak (ak (ak (ak (ak aB)))))) hl80 (fun a81 c82=>?_))
     refine aQ [(14,pO a81 l80.length c82)] (by kernel_rfl) (aG ?_)
     obtain rfl:=osi hq67
     exact aH ((a81,c82,a73,c74,a71,c72),(l80,x70.2.2,x70.2.1)) (qW rfl) (be (ak (ak (ak (ak aB)))) (be (ak (ak aB)) (be aB (be (ak (ak aB)) (be (ak aB) cd))))) rfl
    refine ai ?_
    refine aG ?_
    obtain rfl:=osi hq67
    exact aH ((a28,c29,a73,c74,a71,c72),(l27,x70.2.2,x70.2.1)) (qW rfl) (be (ak (ak aB)) (be aB (be (ak (ak (ak aB))) (be (ak aB) dC)))) rfl
   rintro ⟨⟨a56,c57,a60,c61,a64,c65⟩,⟨l58,l62,l66⟩⟩ τ hz;(try dsimp only at hz);subst q67;(try dsimp only at hb51);dsimp only [aF]
   refine ah [54] [(42,pI (IntKind.i64.wrap (v30+1)))] (by kernel_rfl) ?_
   exact bh hb51 (a56,c57,a60,c61,a64,c65) (qW rfl) zs5
  refine aV ?_
  refine aw (ap hb51 (fun ht=>au rfl ?_))
  exact aH ((a28,c29,a33,c34,a37,c38),(l27,l32,l36)) (nG rfl) zs5 ht.symm
 rintro ⟨⟨a40,c41,a44,c45,a48,c49⟩,⟨l42,l46,l50⟩⟩ τ hz;(try dsimp only at hz);subst q52;(try dsimp only at hb22);dsimp only [aF]
 refine af (af (bj [0] [55,56,57] [(58,pB (((l46.length:Nat):Int) == ((l15.length:Nat):Int)))] (by kernel_rfl) (cG rfl hb22 (fun hc84 hb22=>?_) fun hc84 hb22=>?_)))
 ·refine af ?_
  refine bj [0] [59] [(6,pO a44 l46.length c45),(7,pI 0)] (by kernel_rfl) (aM ?_)
  refine fB (enc:=Zf.enc) (xs:=l46) 6 rfl (by exact ak (ak (ak aB))) ?_
  refine bV (am (aC ?_))
  refine aX hb22 (fun ht=>?_);subst ht
  refine aC ?_
  obtain rfl:=osi h
  exact aK (di (aL rfl) (aL rfl)) cd ⟨rfl,rfl⟩
 refine ai ?_
 refine dn (ae hb22 fun l85 hl85 hb22=>aa (gg 2 [0] [(60,pO a44 l46.length c45),(61,pI ((l15.length:Nat):Int))] (by kernel_rfl) (bz rfl rfl rfl (mB (enc:=Zf.enc) (xs:=l46) rfl rfl rfl rfl rfl DQ hl85) (aQ [(63,pI ((l46.length - ((l15.length:Nat):Int).toNat:Nat):Int)),(64,pI 0)] (by kernel_rfl) (jB hb22 fun q98 hq98 hb22=>?_)))))
 refine az (Y:=(Option Addr×Nat)×((List Za))) (fun ((a94,c95),l96)=>[(10,pP b10 0),(11,pP b11 0),(12,.fn 77 [.ref [pL Zc.enc p0] 0,.ref [pL Zb.enc p1] 0,.ref [pS p2] 0,pP b11 0,pP b10 0]),(14,pO a40 l42.length c41)]) (fun ((a94,c95),l96)=>[PRes.b b10 45 [pO a44 l46.length c45],PRes.b b11 31 [pO a94 l96.length c95],PRes.row a40 l42.length c41 138 9 (List.map Zj.enc l42),PRes.row a44 l46.length c45 61 4 (List.map Zf.enc l46),PRes.row a94 l96.length c95 28 2 (List.map Za.enc l96)]) (fun ((a94,c95),l96)=>q98=l96) ?_ ?_
 ·refine aJ ?_
  refine aP (Y:=Option Addr×Nat) (S:=Int×(List Za)) _ hq98 (fun (a89,c90) (v86,l88)=>[(10,pP b10 0),(11,pP b11 0),(12,.fn 77 [.ref [pL Zc.enc p0] 0,.ref [pL Zb.enc p1] 0,.ref [pS p2] 0,pP b11 0,pP b10 0]),(14,pO a40 l42.length c41),(62,pQ a44 l46.length c45 ((l15.length:Nat):Int).toNat 4),(63,pI ((l46.length - ((l15.length:Nat):Int).toNat:Nat):Int)),(64,pI v86)]) (fun (a89,c90) (v86,l88)=>[PRes.b b10 45 [pO a44 l46.length c45],PRes.b b11 31 [pO a89 l88.length c90],PRes.row a40 l42.length c41 138 9 (List.map Zj.enc l42),PRes.row a44 l46.length c45 61 4 (List.map Zf.enc l46),PRes.row a89 l88.length c90 28 2 (List.map Za.enc l88)]) (a48,c49) (rF rfl) zs5 ?_
  rintro ⟨a89,c90⟩ ⟨v86,l88⟩ o τ hb97;(try dsimp only at hb97);dsimp only [aF]
  refine af (al [(65,pB (decide (v86<((l46.length - ((l15.length:Nat):Int).toNat:Nat):Int))))] (by kernel_rfl) (bP (jX rfl hb97 (fun hc99 hb97=>?_) fun hc99 hb97=>?_)))
  ·refine ai ?_
   refine bP (iM (ae hb97 fun u100 hu100 hb97=>ae hb97 fun m101 hm101 hb97=>aa (bz rfl rfl rfl (ju (enc:=Zf.enc) (xs:=l46) (i:=((l15.length:Nat):Int)) rfl rfl rfl rfl rfl (gJ hl85).1.1 (lc hu100) DQ hm101) (bz rfl rfl rfl (cX (sz:=4) (p:=.agg (cE m101)) (enc:=Zf.enc) (xs:=l46) (a:=a44) (((l15.length:Nat):Int)+v86) 0 m101 rfl (.p rfl) rfl DQ (fun _=>hm101) rfl) (aj rfl (aU (cs:=[pI 0,pI 0,pN,pN]) rfl rfl rfl rfl (fun b102=>aW rfl rfl (an (vs:=(cE m101)) rfl rfl rfl rfl rfl cR AB (aq (aM (aa (co 3 [2,0] [69] [(68,pO a89 l88.length c90),(70,.agg [pI m101.Claim.Product,pI m101.Claim.Agreement])] (by kernel_rfl) (aj rfl (bI rfl rfl rfl rfl rfl (gw rfl jO) rfl rfl rfl rfl (fun b103=>ae hb97 fun l105 hl105 hb97=>?_)))))))))))))))
   refine aj rfl (bX (enc:=Za.enc) rfl rfl rfl rfl rfl rfl rfl rfl rfl gx (by exact ak (ak (ak (ak (ak (ak aB)))))) hl105 (fun a106 c107=>?_))
   refine aW rfl rfl (an (vs:=[pO a106 l105.length c107]) rfl rfl rfl rfl rfl (dh (dh (dh (dh cR)))) og (aq (gC (ah [73] [(64,pI (IntKind.i64.wrap (v86+1)))] (by kernel_rfl) ?_))))
   exact bh hb97 (a106,c107) (rF rfl) (be (ak (ak (ak aB))) (be (ak (ak (ak aB))) (be (ak (ak (ak aB))) (be (ak (ak (ak aB))) dC))))
  refine aV ?_
  refine aw (ap hb97 (fun ht=>au rfl ?_))
  exact aH ((a89,c90),l88) (kQ rfl) zs5 ht.symm
 rintro ⟨⟨a94,c95⟩,l96⟩ τ hz;(try dsimp only at hz);subst q98;(try dsimp only at hb22);dsimp only [aF]
 refine ah [74] [(13,pO a40 l42.length c41)] (by kernel_rfl) (aG ?_)
 refine yW (EB (enc:=Zj.enc) (xs:=l42) 13 rfl (by exact ak (ak aB))) ?_
 exact bh hb22 (a44,c45,a94,c95) (kQ rfl) (be (ak aB) (be (ak aB) (be (ak aB) (be (ak aB) cd))))
def dA (p0:(List Int)) (p1:(List Int)) (p2:Int) (p3:Int):Option Bool:=(nP p0).bind fun x1=>(ib p1).bind fun x5=>(jb p2).bind fun x9=>(iV x1 x5 x9).bind fun x10=>(cw x1 x5 x9 x10.1).bind fun x11=>cond (((x10.2 != 0)||(x11.2 != 0))||(x11.1 != (x10.1.length:Int))) (some false) (cond ((x10.1.length:Int) == 0) ((ls).bind fun x14=>some x14) ((gW p3 (x10.1.length:Int)).bind fun x15=>(idx x10.1 x15).bind fun m16=>(lm x10.1 m16.Claim).bind fun x17=>(cw x1 x5 x9 x17.1).bind fun x18=>(gd (((x17.2 == 0)&&(x18.2 == 0))&&(x18.1 == (x17.1.length:Int))) (ls)).bind fun x19=>some ((((x17.2 == 0)&&(x18.2 == 0))&&(x18.1 == (x17.1.length:Int)))&&x19)))
theorem mh {p0:(List Int)} {p1:(List Int)} {p2:Int} {p3:Int} {r:Bool}  (h:dA p0 p1 p2 p3=some r):PF 11 [pL eI p0,pL eI p1,pI p2,pI p3] (pB r):=by
 unfold dA at h
 refine bv ?_
 refine fh Tryz.func11 rfl Tryz.ntmps11 Tryz.results11 rfl (bd [8] (by kernel_rfl) (dD h fun x1 hx1 h=>aa (ar 1 [(20,pL eI p0)] (by kernel_rfl) ?_)))
 refine aj rfl (bc rfl rfl (ρ1:=[]) (List.Perm.refl _) (xP hx1) ?_);rintro _ _ ⟨a2,c3,rfl,rfl⟩
 refine ae h fun x5 hx5 h=>ar 1 [(22,pL eI p1)] (by kernel_rfl) ?_
 refine aj rfl (bc rfl rfl (ρ1:=[]) (List.Perm.refl _) (qY hx5) ?_);rintro _ _ ⟨a6,c7,rfl,rfl⟩
 refine ae h fun x9 hx9 h=>gE [] [24,25] [(9,pO a2 x1.length c3),(10,pO a6 x5.length c7),(11,pS x9)] (bR 1 (sv hx9) bN) (by kernel_rfl) (bP (aa (ar 3 [(27,pO a2 x1.length c3),(28,pO a6 x5.length c7),(29,pS x9)] (by kernel_rfl) ?_)))
 refine fC (enc:=Zc.enc) (xs:=x1) 27 rfl (by exact ak aB) ?_
 refine fC (enc:=Zb.enc) (xs:=x5) 28 rfl (by exact ak aB) ?_
 refine ae h fun x10 hx10 h=>gE [] [30,26,31,32] [(12,pL Zf.enc x10.1),(13,pI x10.2)] (bR 0 (tO hx10) bN) (by kernel_rfl) (bP (aa (ar 4 [(34,pO a2 x1.length c3),(35,pO a6 x5.length c7),(36,pS x9),(37,pL Zf.enc x10.1)] (by kernel_rfl) (jV (enc:=Zc.enc) (xs:=x1) 34 rfl tX (jV (enc:=Zb.enc) (xs:=x5) 35 rfl gx (ae h fun x11 hx11 h=>gE [] [38,33,39,40] [(14,pI x11.1),(15,pI x11.2)] (bR 0 (eZ hx11) bN) (by kernel_rfl) (dn (ah (rg 41 11) [(52,pB (((x10.2 != 0)||(x11.2 != 0))||(x11.1 != (x10.1.length:Int))))] (by kernel_rfl) (cG rfl h (fun hc12 h=>?_) fun hc12 h=>?_)))))))))
 ·refine af ?_
  refine fY [(8,pB false)] (by kernel_rfl) (am ?_)
  exact zz r h rfl
 refine ai ?_
 refine dn (ah [53,54] [(55,pB ((x10.1.length:Int) == 0))] (by kernel_rfl) (cG rfl h (fun hc13 h=>?_) fun hc13 h=>?_))
 ·refine af ?_
  refine ae h fun x14 hx14 h=>av [] [56] [(8,pB x14)] (bR 0 (p8 hx14) bN) (by kernel_rfl) (eD (am ?_))
  exact zz r h rfl
 refine ai ?_
 refine dD h fun x15 hx15 h=>ae h fun m16 hm16 h=>ae h fun x17 hx17 h=>av [] ((rg 58 10)++[57,68,69]) [(16,pL Zf.enc x17.1),(17,pI x17.2)] (bR 5 (mF hx15) (eO 6 Zf.enc hm16 (bR 9 (uX hx17) bN))) (by kernel_rfl) (bP (aa (ar 4 [(71,pO a2 x1.length c3),(72,pO a6 x5.length c7),(73,pS x9),(74,pL Zf.enc x17.1)] (by kernel_rfl) (jV (enc:=Zc.enc) (xs:=x1) 71 rfl tX (jV (enc:=Zb.enc) (xs:=x5) 72 rfl gx (ae h fun x18 hx18 h=>gE [] [75,70,76,77] [(18,pI x18.1),(19,pI x18.2)] (bR 0 (eZ hx18) bN) (by kernel_rfl) (dD h fun x19 hx19 h=>av [] (rg 78 15) [(8,pB ((((x17.2 == 0)&&(x18.2 == 0))&&(x18.1 == (x17.1.length:Int)))&&x19))] (iW 13 (fun hc=>p8 (gS hx19 hc)) bN) (by kernel_rfl) (eD ?_))))))))
 exact zz r h rfl
end SX
namespace SX
open Go
theorem mq {S T:Type} {body:S→Option (S⊕T)} (P:S→Prop) (μ:S→Nat) (Q:T→Prop) (step:∀ s,P s→(∃ s',body s=some (.inl s')∧P s'∧μ s'<μ s)∨∃ t,body s=some (.inr t)∧Q t):∀ (N:Nat) (s:S),P s→μ s<N→∃ t,aN body N s=some t∧Q t:=by
 intro N
 induction N with
 | zero=>intro s _ h;exact absurd h (Nat.not_lt_zero _)
 | succ N ih =>
  intro s hp hm
  rw [fA]
  rcases step s hp with ⟨s',h1,h2,h3⟩ | ⟨t,h1,h2⟩
  ·rw [h1];exact ih s' h2 (by omega)
  rw [h1];exact ⟨t,rfl,h2⟩
theorem ix0 {α:Type} {a b:α}:idx [a,b] 0=some a:=rfl
theorem ix1 {α:Type} {a b:α}:idx [a,b] 1=some b:=rfl
theorem cap_eq (c:Int):eW c=some (decide (65≤c)&&decide (c≤90)):=rfl
def qK (s:ByteArray):Bool:=match s.data.toList with | [a,b]=>decide (65≤(a.toNat:Int))&&decide ((a.toNat:Int)≤90)&&decide (65≤(b.toNat:Int))&&decide ((b.toNat:Int)≤90) | _=>false
theorem zG {s:ByteArray} (h:((s.size:Int) == 2)=true):∃ a b,s.data.toList=[a,b]:=by
 have h2:s.data.toList.length=2:=by
  have:=eq_of_beq h
  rw [Array.length_toList];have e:s.size=s.data.size:=rfl;omega
 match hd:s.data.toList,h2 with
 | [a,b],_=>exact ⟨a,b,rfl⟩
theorem Cd {s:ByteArray} (h:((s.size:Int) == 2)=false):qK s=false:=by
 unfold qK
 split
 ·rename_i a b hd
  have e:s.size=s.data.toList.length:=by rw [Array.length_toList];rfl
  rw [hd] at e
  have e2:(s.size:Int)=2:=by rw [e];rfl
  rw [e2] at h;cases h
 rfl
theorem kT (s:ByteArray):bQ s=some (qK s):=by
 unfold bQ
 cases h:((s.size:Int) == 2)
 ·rw [Cd h];rfl
 obtain ⟨a,b,hd⟩:=zG h
 simp only [Bool.true_and,cj,cap_eq]
 rw [hd]
 simp only [qK,hd]
 rw [o8 ix0]
 simp only [ba]
 cases h1:(decide (65≤(a.toNat:Int))&&decide ((a.toNat:Int)≤90))
 ·rfl
 simp only [cj,Bool.true_and];rw [o8 ix1];rfl
theorem p9 (s:ByteArray):gz s=some (qK s):=by
 unfold gz
 cases h:((s.size:Int) == 2)
 ·rw [Cd h];rfl
 obtain ⟨a,b,hd⟩:=zG h
 simp only [Bool.true_and,cj]
 rw [hd]
 simp only [qK,hd]
 rw [o8 ix0]
 cases h1:decide (65≤(a.toNat:Int))
 ·rfl
 simp only [cj,Bool.true_and];rw [o8 ix0]
 cases h2:decide ((a.toNat:Int)≤90)
 ·rfl
 simp only [cj,Bool.true_and];rw [o8 ix1]
 cases h3:decide (65≤(b.toNat:Int))
 ·rfl
 simp only [cj,Bool.true_and];rw [o8 ix1]
theorem sB (s:ByteArray) (hs:s.size≤140737488355328):iE s=some (dN s):=by
 have hz:s.size=s.data.toList.length:=by rw [Array.length_toList];rfl
 unfold iE
 obtain ⟨t,h5,h6⟩:=mq (body:=fun v1=>cond (decide (v1<(s.size:Int))) (Option.bind (idx s.data.toList v1) (fun c5=>Option.bind (gd (!(decide ((c5.toNat:Int)<48))) (idx s.data.toList v1)) (fun c6=>cond ((decide ((c5.toNat:Int)<48))||(decide (57<(c6.toNat:Int)))) (some (.inr (.inr 0))) (some (.inl (IntKind.i64.wrap (v1+1))))))) (some (.inr (.inl ()))))
  (fun v:Int=>0≤v∧v≤s.size∧∀ j,(h:j<s.data.toList.length)→(j:Int)<v→ka (s.data.toList[j]).toNat=true) (fun v=>(s.size:Int).toNat - v.toNat) (fun t:Unit⊕Int=>(t=.inl ()∧kK s=true)∨(t=.inr 0∧kK s=false))
  (fun v hv=>by
   obtain ⟨a1,a2,a3⟩:=hv
   by_cases hl:v<(s.size:Int)
   ·rw [det hl];simp only [bT]
    obtain ⟨k,rfl⟩:∃ k:Nat,v=(k:Int):=⟨v.toNat,by omega⟩
    have hk:k<s.data.toList.length:=by omega
    rw [o8 (aD hk)]
    by_cases hd:ka (s.data.toList[k]).toNat=true
    ·left
     have hd2:=hd
     simp only [ka,decide_eq_true_eq] at hd2
     rw [bD (show ¬ ((s.data.toList[k].toNat:Nat):Int)<48 by omega)]
     simp only [Bool.not_false,cj,Bool.false_or]
     rw [o8 (aD hk),bD (show ¬ 57<((s.data.toList[k].toNat:Nat):Int) by omega)]
     simp only [bx]
     rw [cI (by omega) (by omega)]
     refine ⟨_,rfl,⟨by omega,by omega,fun j h1 h2=>?_⟩,by omega⟩
     by_cases hj:j=k
     ·subst hj;exact hd
     exact a3 j h1 (by omega)
    right
    refine ⟨.inr 0,?_,.inr ⟨rfl,?_⟩⟩
    ·have hd2:=hd
     simp only [ka,decide_eq_true_eq] at hd2
     by_cases h48:((s.data.toList[k].toNat:Nat):Int)<48
     ·rw [det h48];rfl
     rw [bD h48]
     simp only [Bool.not_false,cj,Bool.false_or]
     rw [o8 (aD hk),det (show 57<((s.data.toList[k].toNat:Nat):Int) by omega)];rfl
    cases ha:kK s
    ·rfl
    exfalso;apply hd
    unfold kK bl at ha
    exact List.all_eq_true.1 ha _ (List.getElem_mem hk)
   right
   rw [bD hl]
   refine ⟨.inl (),rfl,.inl ⟨rfl,?_⟩⟩
   unfold kK bl
   rw [List.all_eq_true]
   intro c hc
   obtain ⟨j,hj,rfl⟩:=List.getElem_of_mem hc
   exact a3 j hj (by omega))
  FUEL 0 ⟨by omega,by omega,fun j _ h=>by omega⟩ (jY (by omega))
 rw [o8 h5]
 unfold dN
 rcases h6 with ⟨rfl,h⟩ | ⟨rfl,h⟩
 ·simp only [h,and_true]
  by_cases h8:(8:Int)<(s.size:Int)
  ·rw [det h8,if_neg (by omega)];rfl
  rw [bD h8]
  simp only [Bool.false_or]
  have e:Int.tmod (s.size:Int) 2=(s.size:Int) % 2:=Int.tmod_eq_emod_of_nonneg (by omega)
  rw [e]
  by_cases hp:(s.size:Int) % 2=1
  ·rw [hp,if_neg (by omega)];rfl
  have:((s.size:Int) % 2 == 1)=false:=by simpa using hp
  rw [this]
  by_cases h0:s.size=0
  ·rw [if_neg (by omega),h0];rfl
  rw [if_pos (by omega)];rfl
 simp [h]
theorem sC (s:ByteArray):s.size=s.data.toList.length:=by rw [Array.length_toList];rfl
def rl (c:UInt8):Bool:=decide (97≤c.toNat)&&decide (c.toNat≤122)
def gX (s:ByteArray):Bool:=decide (1≤s.size)&&decide (s.size≤12)&&s.data.toList.all rl
theorem zH (s:ByteArray) (hs:s.size≤140737488355328):oI s=some (gX s):=by
 unfold oI gX
 have hz:=sC s
 rw [hz] at hs ⊢
 generalize s.data.toList=l at hs ⊢
 refine (bA (l:=l) (by omega) (fun _ c=>cond (rl c) none (some (.inr false))) (.inl ()) (fun k hk=>?_) (by simp only [cJ,bx])).trans ?_
 ·simp only [gV hk,bT,aD hk,ba,bO hk (show l.length≤4611686018427387904 by omega),rl]
  generalize l[k]=c
  by_cases h1:c.toNat<97
  ·rw [show decide ((c.toNat:Int)<97)=true from det (by omega),show decide (97≤c.toNat)=false from bD (by omega)];rfl
  rw [show decide ((c.toNat:Int)<97)=false from bD (by omega),show decide (97≤c.toNat)=true from det (by omega)]
  simp only [Bool.not_false,cj,ba,Bool.false_or,Bool.true_and]
  by_cases h2:122<c.toNat
  ·rw [show decide ((122:Int)<(c.toNat:Int))=true from det (by omega),show decide (c.toNat≤122)=false from bD (by omega)];rfl
  rw [show decide ((122:Int)<(c.toNat:Int))=false from bD (by omega),show decide (c.toNat≤122)=true from det (by omega)];rfl
 rw [qy]
 have i1:decide ((1:Int)≤(l.length:Int))=decide (1≤l.length):=decide_eq_decide.2 (by omega)
 have i2:decide ((l.length:Int)≤(12:Int))=decide (l.length≤12):=decide_eq_decide.2 (by omega)
 cases l.all rl
 ·simp
 simp [i1,i2]
theorem Dg (s:ByteArray) (hs:s.size≤140737488355328):kb s=some (gX s):=by
 unfold kb gX
 have i1:decide ((s.size:Int)<1) = !decide (1≤s.size):=by rw [← decide_not];exact decide_eq_decide.2 (by omega)
 have i2:decide ((12:Int)<(s.size:Int)) = !decide (s.size≤12):=by rw [← decide_not];exact decide_eq_decide.2 (by omega)
 rw [i1,i2]
 cases h1:decide (1≤s.size)
 ·rfl
 cases h2:decide (s.size≤12)
 ·rfl
 simp only [Bool.not_true,Bool.or_self,bx,Bool.true_and]
 have key:∀ n pos N,s.size - pos=n→pos≤s.size→n<N→aN (jG s) N pos=some ((s.data.toList.drop pos).all rl):=by
  intro n
  induction n with
  | zero =>
   intro pos N hn hp hN
   obtain ⟨N,rfl⟩:∃ M,N=M+1:=⟨N - 1,by omega⟩
   have:Nat.blt pos s.size=false:=by cases hb:Nat.blt pos s.size;rfl;simp [Nat.blt] at hb;omega
   rw [fA,jG,this]
   rw [List.drop_of_length_le (by rw [← sC];omega)];rfl
  | succ n ih =>
   intro pos N hn hp hN
   obtain ⟨N,rfl⟩:∃ M,N=M+1:=⟨N - 1,by omega⟩
   have hlt:pos<s.size:=by omega
   have hb:Nat.blt pos s.size=true:=by simp [Nat.blt];omega
   have hlt2:pos<s.data.toList.length:=by rw [← sC];exact hlt
   have hget:s[pos]=s.data.toList[pos]:=by
    rw [Array.getElem_toList];rfl
   rw [fA,jG,hb,List.drop_eq_getElem_cons hlt2,List.all_cons,← hget]
   by_cases ha:(s[pos]'hlt).toNat<128
   ·rw [decode_ascii s pos hlt ha]
    simp only [bT,rl]
    by_cases h1:(s[pos]'hlt).toNat<97
    ·rw [show decide (((s[pos]'hlt).toNat:Int)<97)=true from det (by omega),show decide (97≤(s[pos]'hlt).toNat)=false from bD (by omega)];rfl
    by_cases h2:122<(s[pos]'hlt).toNat
    ·rw [show decide ((122:Int)<((s[pos]'hlt).toNat:Int))=true from det (by omega),show decide ((s[pos]'hlt).toNat≤122)=false from bD (by omega),Bool.or_true,Bool.and_false];rfl
    rw [bD (by omega),bD (by omega),det (Nat.not_lt.1 h1),det (Nat.not_lt.1 h2)]
    exact ih (pos+1) N (by omega) (by omega) (by omega)
   have hh:=decode_high s pos hlt (by omega)
   have h122:¬ (s[pos]'hlt).toNat≤122:=by omega
   have:decide (122<((Utf8.decode s pos).1:Int))=true:=det (by omega)
   simp [this,rl,h122]
 have:=key s.size 0 FUEL (by omega) (by omega) (jY (by omega))
 rw [this,List.drop_zero]
def ku (lt:ByteArray→ByteArray→Bool):List ByteArray→Bool
 | []=>true
 | [_]=>true
 | a::b::l=>lt a b&&ku lt (b::l)
def mU (p:ByteArray→Bool) (l:List ByteArray) (k:Nat) (x:ByteArray):Bool:=p x&&(!decide (0<k)||iT (l.getD (k - 1) x) x)
theorem zI (p:ByteArray→Bool) (l:List ByteArray):(∀ i x,l[i]?=some x→mU p l i x=true)↔(l.all p&&ku iT l)=true:=by
 have key:∀ (l:List ByteArray),(∀ i,(h:i+1<l.length)→iT l[i] l[i+1]=true)↔ku iT l=true:=by
  intro l
  induction l with
  | nil=>simp [ku]
  | cons a l ih =>
   cases l with
   | nil=>simp [ku]
   | cons b l =>
    rw [ku,Bool.and_eq_true,← ih]
    constructor
    ·intro h;exact ⟨h 0 (by simp),fun i hi=>h (i+1) (by simpa using hi)⟩
    rintro ⟨h1,h2⟩ i hi
    cases i with
    | zero=>exact h1
    | succ i=>exact h2 i (by simpa using hi)
 rw [Bool.and_eq_true,← key,List.all_eq_true]
 constructor
 ·intro h
  refine ⟨fun x hx=>?_,fun i hi=>?_⟩
  ·obtain ⟨i,hi,rfl⟩:=List.getElem_of_mem hx
   have:=h i _ (List.getElem?_eq_getElem hi)
   simp only [mU,Bool.and_eq_true] at this
   exact this.1
  have:=h (i+1) _ (List.getElem?_eq_getElem hi)
  simp only [mU,Bool.and_eq_true,Nat.zero_lt_succ,decide_true,Bool.not_true,Bool.false_or,Nat.add_sub_cancel] at this
  rw [fc (by omega)] at this
  exact this.2
 rintro ⟨h1,h2⟩ i x hx
 obtain ⟨hi,rfl⟩:=List.getElem?_eq_some_iff.1 hx
 simp only [mU,h1 _ (List.getElem_mem hi),Bool.true_and]
 by_cases h0:0<i
 ·rw [det h0,Bool.not_true,Bool.false_or,fc (by omega)]
  obtain ⟨j,rfl⟩:∃ j,i=j+1:=⟨i - 1,by omega⟩
  exact h2 j hi
 simp [h0]
theorem mr {T:Type} (p:ByteArray→Bool) (l:List ByteArray) (t:T):cr (fun k x=>cond (mU p l k x) none (some t)) l 0=cond (l.all p&&ku iT l) none (some t):=by
 have hn:=mC (g:=fun k x=>cond (mU p l k x) none (some t)) (l:=l) (k:=0)
 cases h:(l.all p&&ku iT l)
 ·cases hf:cr (fun k x=>cond (mU p l k x) none (some t)) l 0 with
  | none =>
   exfalso
   have:(l.all p&&ku iT l)=true:=by
    rw [← zI]
    intro i x hx
    have:=hn.1 hf i x hx
    rw [Nat.zero_add] at this
    cases hk:mU p l i x
    ·rw [hk] at this;cases this
    rfl
   rw [h] at this;cases this
  | some u =>
   have:∀ (m:List ByteArray) (k:Nat) (u:T),cr (fun k x=>cond (mU p l k x) none (some t)) m k=some u→u=t:=by
    intro m
    induction m with
    | nil=>intro k u h;cases h
    | cons x m ih =>
     intro k u h
     rw [cr] at h
     cases hk:mU p l k x
     ·rw [hk] at h;injection h with h;exact h.symm
     rw [hk] at h;exact ih _ _ h
   rw [this _ _ _ hf];rfl
 rw [bT,hn]
 intro i x hx
 rw [Nat.zero_add,(zI p l).2 h i x hx];rfl
def kl (l:List ByteArray):Bool:=decide (l.length≤8)&&(l.all gX&&ku iT l)
def StrsOk (l:List ByteArray):Prop:=l.length≤140737488355328∧∀ s∈l,s.size≤140737488355328
theorem rm (l:List ByteArray) (hl:StrsOk l):dO l=some (kl l):=by
 obtain ⟨hl,hs⟩:=hl
 unfold dO kl
 have i2:decide ((8:Int)<(l.length:Int)) = !decide (l.length≤8):=by rw [← decide_not];exact decide_eq_decide.2 (by omega)
 rw [i2]
 cases decide (l.length≤8)
 ·rfl
 simp only [Bool.not_true,bx,Bool.true_and]
 refine (bA (l:=l) (by omega) (fun k x=>cond (mU gX l k x) none (some (.inr false))) (.inl ()) (fun k hk=>?_) (by simp only [cJ,bx])).trans ?_
 ·have h62:l.length≤4611686018427387904:=by omega
  simp only [gV hk,bT,aD hk,ba,Dg _ (hs _ (List.getElem_mem hk)),A9,bO hk h62,mU]
  cases hw:gX l[k]
  ·rfl
  by_cases h0:0<k
  ·simp only [h0,decide_true,Bool.not_true,Bool.not_false,Bool.and_true,Bool.true_and,Bool.false_or,cj,fD h0 hk h62,ba,fc (show k - 1<l.length by omega),iT,t7]
   cases Op.bytesLess (l[k-1]'(by omega)).toList l[k].toList <;> rfl
  simp only [h0,decide_false,Bool.and_false,i7,ba,Bool.not_true,Bool.false_or,Bool.false_and,bx,Bool.not_false,Bool.true_and,Bool.true_or,Bool.or_false];rfl
 rw [mr]
 cases (l.all gX&&ku iT l) <;> rfl
mutual
def sD:Ze→Nat
 | ⟨_,_,_,_,_,_,l⟩=>1+zJ l
def zJ:List Ze→Nat
 | []=>0
 | a::l=>max (sD a) (zJ l)
end
mutual
def pn:Ze→Nat
 | ⟨_,_,_,_,_,_,l⟩=>1+nD l
def nD:List Ze→Nat
 | []=>0
 | a::l=>pn a+nD l
end
theorem km (r:Ze):sD r=1+zJ r.Args:=by cases r;rw [sD]
theorem qa (r:Ze):pn r=1+nD r.Args:=by cases r;rw [pn]
theorem Ce:∀ {l:List Ze} {a:Ze},a∈l→sD a≤zJ l
 | b::l,a,h=>by
  rw [zJ]
  rcases List.mem_cons.1 h with rfl | h
  ·omega
  have:=Ce h;omega
theorem ir {r a:Ze} (h:a∈r.Args):sD a<sD r:=by rw [km r];have:=Ce h;omega
mutual
theorem oQ:∀ r:Ze,sD r≤pn r
 | ⟨_,_,_,_,_,_,l⟩=>by rw [sD,pn];have:=wL l;omega
theorem wL:∀ l:List Ze,zJ l≤nD l
 | []=>by rw [zJ,nD];exact Nat.le_refl _
 | a::l=>by rw [zJ,nD];have h1:=oQ a;have h2:=wL l;omega
end
inductive ROk:Ze→Prop
 | mk (r:Ze) (h1:StrsOk r.Except) (h2:r.Name.size≤140737488355328) (h3:r.Args.length≤140737488355328) (h4:∀ a∈r.Args,ROk a):ROk r
theorem ROk.ex {r:Ze} (h:ROk r):StrsOk r.Except:=by cases h;assumption
theorem ROk.nm {r:Ze} (h:ROk r):r.Name.size≤140737488355328:=by cases h;assumption
theorem ROk.len {r:Ze} (h:ROk r):r.Args.length≤140737488355328:=by cases h;assumption
theorem ROk.arg {r:Ze} (h:ROk r) {a:Ze} (ha:a∈r.Args):ROk a:=by cases h with | mk _ _ _ _ h4=>exact h4 a ha
theorem nodes_F (n:Nat):∀ (r:Ze) (lim:Nat),ROk r→sD r≤n→1≤lim→lim≤1000→lS n r (lim:Int)=some ((min (pn r) lim:Nat):Int):=by
 induction n with
 | zero=>intro r lim _ hd;rw [km] at hd;omega
 | succ n ih =>
  intro r lim hr hd h1 h2
  have hl:=hr.len
  show j5 (lS n) r (lim:Int)=_
  unfold j5
  refine (jZ (l:=r.Args) (by omega) (fun i (a:Nat)=>((a:Int),i)) (fun _ x a=>cond (Nat.ble lim a) (.inr ()) (.inl (min (a+pn x) lim))) (fun (a:Nat)=>.inl (a:Int)) (fun (_:Unit)=>.inr (lim:Int)) (fun _ a=>a≤lim) 1 h1 (fun k hk a ha=>⟨?_,fun a' h=>?_⟩) (fun a ha=>?_)).trans ?_
  ·simp only [gV hk,bT,aD hk,ba]
   cases hb:Nat.ble lim a
   ·have hlt:a<lim:=by rcases Nat.lt_or_ge a lim with h | h;exact h;rw [Nat.ble_eq_true_of_le h] at hb;cases hb
    rw [show decide ((lim:Int)≤(a:Int))=false from bD (by omega),cI (by omega) (by omega),show (lim:Int) - (a:Int)=((lim - a:Nat):Int) by omega,
     ih _ (lim - a) (hr.arg (List.getElem_mem hk)) (by have:=ir (List.getElem_mem hk);omega) (by omega) (by omega)]
    simp only [bx,ba,bO hk (show r.Args.length≤4611686018427387904 by omega),zu]
    rw [cI (by omega) (by omega),show (a:Int)+((min (pn r.Args[k]) (lim - a):Nat):Int)=((min (a+pn r.Args[k]) lim:Nat):Int) by omega]
   have hle:=Nat.le_of_ble_eq_true hb
   rw [show decide ((lim:Int)≤(a:Int))=true from det (by omega)];rfl
  ·cases hb:Nat.ble lim a
   ·rw [hb] at h;injection h with h;omega
   rw [hb] at h;cases h
  ·simp only [cJ,bx]
  have key:∀ (l:List Ze) (i a:Nat),a≤lim→vX (fun (a:Nat)=>(a:Int)) (fun (_:Unit)=>(lim:Int)) (run (fun _ x a=>cond (Nat.ble lim a) (.inr ()) (.inl (min (a+pn x) lim))) l i a)=((min (a+nD l) lim:Nat):Int):=by
   intro l
   induction l with
   | nil=>intro i a ha;rw [nD];show (a:Int)=_;omega
   | cons x l ihl =>
    intro i a ha
    rw [i9,nD]
    cases hb:Nat.ble lim a
    ·exact (ihl _ _ (by omega)).trans (by omega)
    have hle:=Nat.le_of_ble_eq_true hb
    show (lim:Int)=_;omega
  have k2:∀ (o:Nat⊕Unit),(match (vX (fun (a:Nat)=>.inl (a:Int)) (fun (_:Unit)=>.inr (lim:Int)) o:Int⊕Int) with | .inl v4=>some v4 | .inr e=>some e)=some (vX (fun (a:Nat)=>(a:Int)) (fun (_:Unit)=>(lim:Int)) o):=fun o=>by cases o <;> rfl
  rw [qa]
  exact (k2 _).trans (congrArg some (key _ _ _ h1))
theorem Bd (n:Nat):∀ (r:Ze),ROk r→sD r≤n→nu n r=some ((min (pn r) 33:Nat):Int):=by
 induction n with
 | zero=>intro r _ hd;rw [km] at hd;omega
 | succ n ih =>
  intro r hr hd
  have hl:=hr.len
  show nt (nu n) r=_
  unfold nt
  refine (jZ (l:=r.Args) (by omega) (fun i (a:Nat)=>((a:Int),i)) (fun _ x a=>cond (Nat.ble a 32) (.inl (a+min (pn x) 33)) (.inr a)) (fun a=>(a:Int)) (fun (a:Nat)=>(a:Int)) (fun _ a=>a≤1000) 1 (by omega) (fun k hk a ha=>⟨?_,fun a' h=>?_⟩) (fun a ha=>?_)).trans ?_
  ·simp only [gV hk,Bool.true_and,aD hk,ba]
   cases hb:Nat.ble a 32
   ·have hlt:32<a:=by rcases Nat.lt_or_ge 32 a with h | h;exact h;rw [Nat.ble_eq_true_of_le h] at hb;cases hb
    rw [show decide ((a:Int)≤32)=false from bD (by omega)];rfl
   have hle:=Nat.le_of_ble_eq_true hb
   rw [show decide ((a:Int)≤32)=true from det (by omega),ih _ (hr.arg (List.getElem_mem hk)) (by have:=ir (List.getElem_mem hk);omega)]
   simp only [bT,ba,bO hk (show r.Args.length≤4611686018427387904 by omega),zu]
   rw [cI (by omega) (by omega),show (a:Int)+((min (pn r.Args[k]) 33:Nat):Int)=((a+min (pn r.Args[k]) 33:Nat):Int) by omega]
  ·cases hb:Nat.ble a 32
   ·rw [hb] at h;cases h
   have hle:=Nat.le_of_ble_eq_true hb
   rw [hb] at h;injection h with h;omega
  ·simp only [cJ,Bool.false_and,bx]
  have key:∀ (l:List Ze) (i a:Nat),∃ q:Nat,vX (fun (a:Nat)=>(a:Int)) (fun (a:Nat)=>(a:Int)) (run (fun _ x a=>cond (Nat.ble a 32) (.inl (a+min (pn x) 33)) (.inr a)) l i a)=(q:Int)∧min q 33=min (a+nD l) 33:=by
   intro l
   induction l with
   | nil=>intro i a;exact ⟨a,rfl,by rw [nD];omega⟩
   | cons x l ihl =>
    intro i a
    rw [i9,nD]
    cases hb:Nat.ble a 32
    ·have hlt:32<a:=by rcases Nat.lt_or_ge 32 a with h | h;exact h;rw [Nat.ble_eq_true_of_le h] at hb;cases hb
     exact ⟨a,rfl,by omega⟩
    obtain ⟨q,h1,h2⟩:=ihl (i+1) (a+min (pn x) 33)
    exact ⟨q,h1,by omega⟩
  obtain ⟨q,h1,h2⟩:=key r.Args 0 1
  rw [qa,← h2,h1]
  congr 1;unfold py;split <;> omega
def Cf (s:ByteArray):Bool := !(dN s == 0)
def kL (l:List ByteArray):Bool:=decide (l.length≤6)&&(l.all Cf&&ku iT l)
def Fk (n:Int):Bool:=decide (0≤n)&&decide (n≤1000000)
def kn (r:Ze):Bool:=(r.Kind == 2||(r.Digits == 0&&r.Except.isEmpty&&r.Tolerance == 0))&&(r.Kind == 3||r.Limit == 0)&&(r.Kind == 4||decide (r.Name=⟨#[]⟩))&&(r.Kind == 5||r.Kind == 6||r.Args.isEmpty)
def jI (r:Ze):Bool:=cond (r.Kind == 1) true (cond (r.Kind == 2) ((r.Digits == 2||r.Digits == 4||r.Digits == 6)&&kL r.Except&&Fk r.Tolerance) (cond (r.Kind == 3) (Fk r.Limit) (cond (r.Kind == 4) (gX r.Name) false)))
mutual
def dt:Ze→Bool
 | ⟨k,d,e,t,m,n,l⟩=>kn ⟨k,d,e,t,m,n,l⟩&&cond (k == 5||k == 6) (decide (2≤l.length)&&decide (l.length≤6)&&oR k l) (jI ⟨k,d,e,t,m,n,l⟩)
def oR (k:Int):List Ze→Bool
 | []=>true
 | a::l=>(!(a.Kind == k)&&dt a)&&oR k l
end
theorem vf (k:Int):∀ l:List Ze,oR k l=l.all fun a => !(a.Kind == k)&&dt a
 | []=>by rw [oR];rfl
 | a::l=>by rw [oR,vf k l];rfl
theorem gQ (r:Ze):dt r=(kn r&&cond (r.Kind == 5||r.Kind == 6) (decide (2≤r.Args.length)&&decide (r.Args.length≤6)&&r.Args.all fun a => !(a.Kind == r.Kind)&&dt a) (jI r)):=by
 cases r;rw [dt,vf]
theorem len0 {α:Type} (l:List α):((l.length:Int) == 0)=l.isEmpty:=by cases l <;> rfl
theorem len0' {α:Type} (l:List α):decide (0<(l.length:Int)) = !l.isEmpty:=by cases l with
 | nil=>rfl
 | cons a l=>exact det (by rw [List.length_cons];omega)
theorem Be (r:Ze):mG r=some (kn r):=by
 unfold mG kn
 rw [len0,len0']
 simp only [bne]
 cases (r.Kind == 2) <;> cases (r.Digits == 0) <;> cases r.Except.isEmpty <;> cases (r.Tolerance == 0) <;> cases (r.Kind == 3) <;> cases (r.Limit == 0) <;> cases (r.Kind == 4) <;> cases decide (r.Name=⟨#[]⟩) <;> rfl
theorem Dh (r:Ze):pK r=some (kn r):=by
 unfold pK kn
 rw [len0,len0']
 simp only [bne]
 cases (r.Kind == 2) <;> cases (r.Digits == 0) <;> cases r.Except.isEmpty <;> cases (r.Tolerance == 0) <;> cases (r.Kind == 3) <;> cases (r.Limit == 0) <;> cases (r.Kind == 4) <;> cases decide (r.Name=⟨#[]⟩) <;> rfl
theorem Bf (l:List ByteArray) (hl:StrsOk l):ig l=some (kL l):=by
 obtain ⟨hl,hs⟩:=hl
 unfold ig kL
 have i2:decide ((6:Int)<(l.length:Int)) = !decide (l.length≤6):=by rw [← decide_not];exact decide_eq_decide.2 (by omega)
 rw [i2]
 cases decide (l.length≤6)
 ·rfl
 simp only [Bool.not_true,bx,Bool.true_and]
 refine (bA (l:=l) (by omega) (fun k x=>cond (mU Cf l k x) none (some (.inr false))) (.inl ()) (fun k hk=>?_) (by simp only [cJ,bx])).trans ?_
 ·have h62:l.length≤4611686018427387904:=by omega
  simp only [gV hk,bT,aD hk,ba,show ∀ s,dJ s=some (dN s) from fun _=>rfl,A9,bO hk h62,mU,Cf]
  cases hw:(dN l[k] == 0)
  ·by_cases h0:0<k
   ·simp only [h0,decide_true,Bool.not_true,Bool.not_false,Bool.and_true,Bool.true_and,Bool.false_or,cj,fD h0 hk h62,ba,fc (show k - 1<l.length by omega),iT,t7]
    cases Op.bytesLess (l[k-1]'(by omega)).toList l[k].toList <;> rfl
   simp only [h0,decide_false,Bool.and_false,i7,ba,Bool.not_true,Bool.false_or,Bool.false_and,bx,Bool.not_false,Bool.true_and,Bool.true_or,Bool.or_false];rfl
  rfl
 rw [mr]
 cases (l.all Cf&&ku iT l) <;> rfl
theorem Di (l:List ByteArray) (hl:StrsOk l) {β:Type} (k:Unit⊕Bool→Option β):Option.bind (aN (S:=Int) (T:=(Unit)⊕(_)) (fun v6=>cond (decide (v6<(l.length:Int))) (Option.bind (idx l v6) (fun m10=>Option.bind (iE m10) (fun x11=>Option.bind (gd ((!(x11 == 0))&&(decide (0<v6))) (idx l (IntKind.i64.wrap (v6 - 1)))) (fun m12=>Option.bind (gd ((!(x11 == 0))&&(decide (0<v6))) (idx l v6)) (fun m13=>cond ((x11 == 0)||((decide (0<v6))&&(!Op.bytesLess m12.toList m13.toList))) (some (.inr (.inr false))) (some (.inl (IntKind.i64.wrap (v6+1))))))))) (some (.inr (.inl ())))) FUEL 0) k=k (cond (l.all Cf&&ku iT l) (.inl ()) (.inr false)):=by
 obtain ⟨hl,hs⟩:=hl
 refine (bA (l:=l) (by omega) (fun k x=>cond (mU Cf l k x) none (some (.inr false))) (.inl ()) (fun k hk=>?_) (by simp only [cJ,bx])).trans ?_
 ·have h62:l.length≤4611686018427387904:=by omega
  simp only [gV hk,bT,aD hk,ba,sB _ (hs _ (List.getElem_mem hk)),A9,bO hk h62,mU,Cf]
  cases hw:(dN l[k] == 0)
  ·by_cases h0:0<k
   ·simp only [h0,decide_true,Bool.not_true,Bool.not_false,Bool.and_true,Bool.true_and,Bool.false_or,cj,fD h0 hk h62,ba,fc (show k - 1<l.length by omega),iT]
    cases Op.bytesLess (l[k-1]'(by omega)).toList l[k].toList <;> rfl
   simp only [h0,decide_false,Bool.and_false,i7,ba,Bool.not_true,Bool.false_or,Bool.false_and,bx,Bool.not_false,Bool.true_and,Bool.true_or,Bool.or_false];rfl
  rfl
 rw [mr]
 cases (l.all Cf&&ku iT l) <;> rfl
theorem Fl (s:ByteArray) (hs:s.size≤140737488355328):dO [s]=some (gX s):=by
 rw [rm [s] ⟨by simp,by simpa using hs⟩]
 simp [kl,ku]
theorem valid_F (n:Nat):∀ (r:Ze),ROk r→sD r≤n→mb n r=some (dt r):=by
 induction n with
 | zero=>intro r _ hd;rw [km] at hd;omega
 | succ n ih =>
  intro r hr hd
  have hl:=hr.len
  show ke (mb n) r=_
  unfold ke
  rw [Be,gQ,ba]
  cases kn r
  ·rfl
  simp only [Bool.not_true,bx,Bool.true_and]
  cases e1:(r.Kind == 1)
  rotate_left
  ·have:=eq_of_beq e1
   simp only [jI,e1,this];rfl
  cases e2:(r.Kind == 2)
  rotate_left
  ·have:=eq_of_beq e2
   simp only [jI,e1,e2,this,bT,bx]
   rw [Bf _ hr.ex]
   show _=some (_&&kL r.Except&&Fk r.Tolerance)
   cases (r.Digits == 2||r.Digits == 4||r.Digits == 6)
   ·rfl
   simp only [cj,Bool.true_and,ba]
   cases kL r.Except <;> rfl
  cases e3:(r.Kind == 3)
  rotate_left
  ·have:=eq_of_beq e3
   simp only [jI,e1,e2,e3,this,bT,bx];rfl
  cases e4:(r.Kind == 4)
  rotate_left
  ·have:=eq_of_beq e4
   simp only [jI,e1,e2,e3,e4,this,bT,bx]
   rw [Fl _ hr.nm];rfl
  simp only [jI,e1,e2,e3,e4,bx]
  have e56:(cond (r.Kind == 5) (some (r.Kind == 5)) (some (r.Kind == 6)):Option Bool)=some (r.Kind == 5||r.Kind == 6):=by cases (r.Kind == 5) <;> rfl
  rw [e56,ba]
  cases (r.Kind == 5||r.Kind == 6)
  ·rfl
  simp only [bT]
  have i1:decide ((r.Args.length:Int)<2) = !decide (2≤r.Args.length):=by rw [← decide_not];exact decide_eq_decide.2 (by omega)
  have i2:decide ((6:Int)<(r.Args.length:Int)) = !decide (r.Args.length≤6):=by rw [← decide_not];exact decide_eq_decide.2 (by omega)
  rw [i1,i2]
  cases decide (2≤r.Args.length)
  ·rfl
  cases decide (r.Args.length≤6)
  ·rfl
  simp only [Bool.not_true,Bool.or_self,bx,Bool.true_and]
  refine (bA (l:=r.Args) (by omega) (fun _ a=>cond (!(a.Kind == r.Kind)&&dt a) none (some (.inr false))) (.inl ()) (fun k hk=>?_) (by simp only [cJ,bx])).trans ?_
  ·simp only [gV hk,bT,aD hk,ba,bO hk (show r.Args.length≤4611686018427387904 by omega)]
   have h2:=ih _ (hr.arg (List.getElem_mem hk)) (by have:=ir (List.getElem_mem hk);omega)
   cases (r.Args[k].Kind == r.Kind)
   ·simp only [Bool.not_false,cj,h2,ba,Bool.true_and,Bool.false_or]
    cases dt r.Args[k] <;> rfl
   rfl
  rw [qy]
  cases (r.Args.all fun a => !(a.Kind == r.Kind)&&dt a) <;> rfl
theorem right_F (n:Nat):∀ (r:Ze),ROk r→sD r≤n→nw n r=some (dt r):=by
 induction n with
 | zero=>intro r _ hd;rw [km] at hd;omega
 | succ n ih =>
  intro r hr hd
  have hl:=hr.len
  show nv (nw n) r=_
  unfold nv
  rw [Dh,gQ,ba]
  cases kn r
  ·rfl
  simp only [Bool.not_true,bx,Bool.true_and]
  cases e1:(r.Kind == 1)
  rotate_left
  ·have:=eq_of_beq e1
   simp only [jI,e1,this];rfl
  cases e2:(r.Kind == 2)
  rotate_left
  ·have:=eq_of_beq e2
   simp only [jI,e1,e2,this,bT,bx]
   rw [Di _ hr.ex]
   show _=some (_&&kL r.Except&&Fk r.Tolerance)
   unfold kL Fk
   have i2:decide ((r.Except.length:Int)≤6)=decide (r.Except.length≤6):=decide_eq_decide.2 (by omega)
   rw [i2]
   cases (r.Except.all Cf&&ku iT r.Except)
   ·cases (r.Digits == 2||r.Digits == 4||r.Digits == 6) <;> cases decide (r.Except.length≤6) <;> rfl
   cases (r.Digits == 2||r.Digits == 4||r.Digits == 6) <;> cases decide (r.Except.length≤6) <;> rfl
  cases e3:(r.Kind == 3)
  rotate_left
  ·have:=eq_of_beq e3
   simp only [jI,e1,e2,e3,this,bT,bx];rfl
  cases e4:(r.Kind == 4)
  rotate_left
  ·have:=eq_of_beq e4
   simp only [jI,e1,e2,e3,e4,this,bT,bx]
   rw [zH _ hr.nm];rfl
  simp only [jI,e1,e2,e3,e4,bx]
  have e56:(cond (r.Kind == 5) (some (r.Kind == 5)) (some (r.Kind == 6)):Option Bool)=some (r.Kind == 5||r.Kind == 6):=by cases (r.Kind == 5) <;> rfl
  rw [e56,ba]
  cases (r.Kind == 5||r.Kind == 6)
  ·rfl
  simp only [bT]
  have i1:decide ((2:Int)≤(r.Args.length:Int))=decide (2≤r.Args.length):=decide_eq_decide.2 (by omega)
  have i2:decide ((r.Args.length:Int)≤(6:Int))=decide (r.Args.length≤6):=decide_eq_decide.2 (by omega)
  rw [i1,i2]
  refine (bA (l:=r.Args) (by omega) (fun _ a=>cond (!(a.Kind == r.Kind)&&dt a) none (some (.inr false))) (.inl ()) (fun k hk=>?_) (by simp only [cJ,bx])).trans ?_
  ·simp only [gV hk,bT,aD hk,ba,bO hk (show r.Args.length≤4611686018427387904 by omega)]
   have h2:=ih _ (hr.arg (List.getElem_mem hk)) (by have:=ir (List.getElem_mem hk);omega)
   cases (r.Args[k].Kind == r.Kind)
   ·simp only [Bool.not_false,cj,h2,ba,Bool.true_and,Bool.false_or]
    cases dt r.Args[k] <;> rfl
   rfl
  rw [qy]
  cases (r.Args.all fun a => !(a.Kind == r.Kind)&&dt a)
  ·simp
  simp
def lM (r:Ze):Int:=cond (decide (pn r≤32)) (cond (dt r) 0 1) 8
theorem n4 (r:Ze) (hr:ROk r) (hd:sD r≤1000):fw r=some (lM r):=by
 unfold fw qZ rk lM
 have hf:FUEL=1267650600228229401496703205376:=rfl
 have h1:=nodes_F FUEL r 33 hr (by rw [hf];omega) (by omega) (by omega)
 rw [show ((33:Nat):Int)=33 from rfl] at h1
 rw [h1,ba,valid_F FUEL r hr (by rw [hf];omega)]
 by_cases h:pn r≤32
 ·rw [bD (by omega),det h]
  cases dt r <;> rfl
 rw [det (by omega),bD h];rfl
theorem Fm (r:Ze) (hr:ROk r) (hd:sD r≤1000):oK r=some (lM r):=by
 unfold oK td te lM
 have hf:FUEL=1267650600228229401496703205376:=rfl
 rw [Bd FUEL r hr (by rw [hf];omega),ba,right_F FUEL r hr (by rw [hf];omega)]
 by_cases h:pn r≤32
 ·rw [bD (by omega),det h]
  cases dt r <;> rfl
 rw [det (by omega),bD h];rfl
theorem kM (r:Ze):lM r=0↔pn r≤32∧dt r=true:=by
 unfold lM
 by_cases h:pn r≤32
 ·rw [det h];cases dt r <;> simp [h]
 rw [bD h];simp [h]
structure RFOk (x:Zi):Prop where
 pre:x.Prefix.size≤140737488355328
 rule:ROk x.Rule
 deep:sD x.Rule≤1000
structure AOk (a:Zb):Prop where
 par:StrsOk a.Parties
 len:a.Rules.length≤140737488355328
 rules:∀ x∈a.Rules,RFOk x
structure ASOk (l:List Zb):Prop where
 len:l.length≤140737488355328
 all:∀ a∈l,AOk a
def ko (l:List ByteArray):Bool:=l.all qK&&ku iT l
def n5 (l:List Zi) (k:Nat) (x:Zi):Option Int:=cond (Cf x.Prefix) (cond (decide (0<k) && !iT (l.getD (k - 1) x).Prefix x.Prefix) (some 9) (cond (lM x.Rule == 0) none (some (lM x.Rule)))) (some 1)
def rulesE (l:List Zi):Int:=(cr (n5 l) l 0).getD 0
def xW (l:List Zb) (k:Nat) (a:Zb):Option Int :=
 cond (decide (a.ID<1)||decide (1000<a.ID)||decide (a.Kind<1)||decide (3<a.Kind)) (some 2) (cond (decide (0<k)&&decide (a.ID≤(l.getD (k - 1) a).ID)) (some 9) (cond (decide (12<a.Parties.length)||decide (12<a.Rules.length)) (some 8)
  (cond (ko a.Parties) (cond (rulesE a.Rules == 0) none (some (rulesE a.Rules))) (some 1))))
def Dj (l:List Zb):Int:=cond (decide (l.length≤8)) ((cr (xW l) l 0).getD 0) 8
theorem xX (l:List ByteArray) (hl:StrsOk l):dM l=some (ko l):=by
 obtain ⟨hl,hs⟩:=hl
 unfold dM ko
 refine (bA (l:=l) (by omega) (fun k x=>cond (mU qK l k x) none (some (.inr false))) (.inl ()) (fun k hk=>?_) (by simp only [cJ,bx])).trans ?_
 ·have h62:l.length≤4611686018427387904:=by omega
  simp only [gV hk,bT,aD hk,ba,kT,A9,bO hk h62,mU]
  cases hw:qK l[k]
  ·rfl
  by_cases h0:0<k
  ·simp only [h0,decide_true,Bool.not_true,Bool.not_false,Bool.and_true,Bool.true_and,Bool.false_or,cj,fD h0 hk h62,ba,fc (show k - 1<l.length by omega),iT,t7]
   cases Op.bytesLess (l[k-1]'(by omega)).toList l[k].toList <;> rfl
  simp only [h0,decide_false,Bool.and_false,i7,ba,Bool.not_true,Bool.false_or,Bool.false_and,bx,Bool.not_false,Bool.true_and,Bool.true_or,Bool.or_false];rfl
 rw [mr]
 cases (l.all qK&&ku iT l) <;> rfl
theorem zK (l:List Zi) (hl:l.length≤140737488355328) (hr:∀ x∈l,RFOk x):dz l=some (rulesE l):=by
 unfold dz rulesE
 have h62:l.length≤4611686018427387904:=by omega
 refine (bA (l:=l) h62 (fun k x=>(n5 l k x).map .inr) (.inl ()) (fun k hk=>?_) (by simp only [cJ,bx])).trans ?_
 ·simp only [gV hk,bT,aD hk,ba,show ∀ s,dJ s=some (dN s) from fun _=>rfl,A9,bO hk h62,n5,Cf]
  cases hw:(dN l[k].Prefix == 0)
  ·have h2:=n4 _ (hr _ (List.getElem_mem hk)).rule (hr _ (List.getElem_mem hk)).deep
   by_cases h0:0<k
   ·simp only [h0,decide_true,Bool.true_and,cj,fD h0 hk h62,ba,fc (show k - 1<l.length by omega),iT,t7,Bool.not_false,bT,bx]
    cases Op.bytesLess (l[k-1]'(by omega)).Prefix.toList l[k].Prefix.toList
    ·rfl
    simp only [Bool.not_true,bx]
    rw [h2]
    simp only [bne]
    cases hz:(lM l[k].Rule == 0) <;> simp [hz,vY]
   simp only [h0,decide_false,Bool.false_and,i7,ba,bx,Bool.not_false,bT]
   rw [h2]
   simp only [bne]
   cases hz:(lM l[k].Rule == 0) <;> simp [hz,vY]
  rfl
 have key:∀ (g:Nat→Zi→Option Int) (m:List Zi) (i:Nat),cr (fun k x=>(g k x).map (Sum.inr:Int→Unit⊕Int)) m i=(cr g m i).map Sum.inr:=by
  intro g m
  induction m with
  | nil=>intro i;rfl
  | cons x m ih=>intro i;rw [cr,cr];cases g i x with | none=>exact ih _ | some t=>rfl
 rw [key]
 cases cr (n5 l) l 0 <;> rfl
theorem qA {α T U:Type} (f:T→U) (g:Nat→α→Option T):∀ (m:List α) (i:Nat),cr (fun k x=>(g k x).map f) m i=(cr g m i).map f
 | [],_=>rfl
 | x::m,i=>by rw [cr,cr];cases g i x with | none=>exact qA f g m _ | some t=>rfl
theorem zL (l:List Zb) (hl:ASOk l):cS l=some (Dj l):=by
 unfold cS Dj
 have h62:l.length≤4611686018427387904:=by have:=hl.len;omega
 have i1:decide ((8:Int)<(l.length:Int)) = !decide (l.length≤8):=by rw [← decide_not];exact decide_eq_decide.2 (by omega)
 rw [i1]
 cases decide (l.length≤8)
 ·rfl
 simp only [Bool.not_true,bx,bT]
 refine (bA (l:=l) h62 (fun k x=>(xW l k x).map .inr) (.inl ()) (fun k hk=>?_) (by simp only [cJ,bx])).trans ?_
 ·have ha:=hl.all _ (List.getElem_mem hk)
  simp only [gV hk,bT,aD hk,ba,A9,bO hk h62,xW]
  have j1:decide ((12:Int)<(l[k].Parties.length:Int))=decide (12<l[k].Parties.length):=decide_eq_decide.2 (by omega)
  have j2:decide ((12:Int)<(l[k].Rules.length:Int))=decide (12<l[k].Rules.length):=decide_eq_decide.2 (by omega)
  rw [xX _ ha.par,zK _ ha.len ha.rules,j1,j2]
  cases (decide (l[k].ID<1)||decide (1000<l[k].ID)||decide (l[k].Kind<1)||decide (3<l[k].Kind))
  ·by_cases h0:0<k
   ·simp only [h0,decide_true,Bool.true_and,cj,fD h0 hk h62,ba,fc (show k - 1<l.length by omega),bx]
    cases decide (l[k].ID≤(l[k-1]'(by omega)).ID)
    ·cases (decide (12<l[k].Parties.length)||decide (12<l[k].Rules.length))
     ·cases ko l[k].Parties
      ·rfl
      simp only [bx,bT,Bool.not_true,bne]
      cases hz:(rulesE l[k].Rules == 0) <;> simp [hz,vY]
     rfl
    rfl
   simp only [h0,decide_false,Bool.false_and,i7,ba,bx]
   cases (decide (12<l[k].Parties.length)||decide (12<l[k].Rules.length))
   ·cases ko l[k].Parties
    ·rfl
    simp only [bx,bT,Bool.not_true,bne]
    cases hz:(rulesE l[k].Rules == 0) <;> simp [hz,vY]
   rfl
  rfl
 rw [qA]
 cases cr (xW l) l 0 <;> rfl
theorem ref_agr (l:List Zb) (hl:ASOk l):iS l=some (Dj l):=by
  unfold iS Dj
  have h62:l.length≤4611686018427387904:=by have:=hl.len;omega
  have i1:decide ((8:Int)<(l.length:Int)) = !decide (l.length≤8):=by rw [← decide_not];exact decide_eq_decide.2 (by omega)
  rw [i1]
  cases decide (l.length≤8)
  · rfl
  simp only [Bool.not_true,bx,bT]
  refine (bA (l:=l) h62 (fun k x=>(xW l k x).map .inr) (.inl ()) (fun k hk=>?_) (by simp only [cJ,bx])).trans ?_
  · have ha:=hl.all _ (List.getElem_mem hk)
    simp only [gV hk,bT,aD hk,ba,A9,bO hk h62,xW]
    have j1:decide ((12:Int)<(l[k].Parties.length:Int))=decide (12<l[k].Parties.length):=decide_eq_decide.2 (by omega)
    have j2:decide ((12:Int)<(l[k].Rules.length:Int))=decide (12<l[k].Rules.length):=decide_eq_decide.2 (by omega)
    rw [j1,j2]
    have tail:(Option.bind (aN (S:=Int) (T:=(Unit)⊕(Int⊕(Unit⊕Int))) (fun v12=>cond (decide (v12<(l[k].Parties.length:Int))) (Option.bind (idx l[k].Parties v12) (fun m16=>Option.bind (gz m16) (fun x17=>Option.bind (gd ((!(!x17))&&(decide (0<v12))) (idx l[k].Parties (IntKind.i64.wrap (v12 - 1)))) (fun m18=>Option.bind (gd ((!(!x17))&&(decide (0<v12))) (idx l[k].Parties v12)) (fun m19=>cond ((!x17)||((decide (0<v12))&&(!Op.bytesLess m18.toList m19.toList))) (some (.inr (.inr (.inr (.inr 1))))) (some (.inl (IntKind.i64.wrap (v12+1))))))))) (some (.inr (.inl ())))) FUEL 0)
        (fun q=>match q with
          | .inl _=>Option.bind (aN (S:=Int) (T:=(Unit)⊕(Int⊕(Unit⊕Int))) (fun v21=>cond (decide (v21<(l[k].Rules.length:Int))) (Option.bind (idx l[k].Rules v21) (fun m25=>Option.bind (iE m25.Prefix) (fun x26=>cond (x26 == 0) (some (.inr (.inr (.inr (.inr 1))))) (Option.bind (gd (decide (0<v21)) (idx l[k].Rules (IntKind.i64.wrap (v21 - 1)))) (fun m28=>Option.bind (gd (decide (0<v21)) (idx l[k].Rules v21)) (fun m29=>cond ((decide (0<v21))&&(!Op.bytesLess m28.Prefix.toList m29.Prefix.toList)) (some (.inr (.inr (.inr (.inr 9))))) (Option.bind (idx l[k].Rules v21) (fun m31=>Option.bind (oK m31.Rule) (fun x32=>cond (x32 != 0) (some (.inr (.inr (.inr (.inr x32))))) (some (.inl (IntKind.i64.wrap (v21+1))))))))))))) (some (.inr (.inl ())))) FUEL 0) (fun q=>match q with | .inl _=>some (.inl ((k+1:Nat):Int)) | .inr e=>some e)
          | .inr e=>some e):Option (Int⊕(Unit⊕Int)))=some (vY k ((cond (ko l[k].Parties) (cond (rulesE l[k].Rules == 0) none (some (rulesE l[k].Rules))) (some 1)).map .inr)):=by
      obtain ⟨hp,hps⟩:=ha.par
      have hq:=ha.len;have hqr:=ha.rules
      generalize l[k].Parties=P at hp hps
      generalize l[k].Rules=R at hq hqr
      have hP:P.length≤4611686018427387904:=by omega
      have hR:R.length≤4611686018427387904:=by omega
      refine (bA (l:=P) hP (fun k x=>cond (mU qK P k x) none (some (.inr (.inr (.inr 1))))) (.inl ()) (fun k hk=>?_) (by simp only [cJ,bx])).trans ?_
      · simp only [gV hk,bT,aD hk,ba,p9,A9,bO hk hP,mU]
        cases hw:qK P[k]
        · rfl
        by_cases h0:0<k
        · simp only [h0,decide_true,Bool.not_true,Bool.not_false,Bool.and_true,Bool.true_and,Bool.false_or,cj,fD h0 hk hP,ba,fc (show k - 1<P.length by omega),iT]
          cases Op.bytesLess (P[k-1]'(by omega)).toList P[k].toList <;> rfl
        simp only [h0,decide_false,Bool.and_false,i7,ba,Bool.not_true,Bool.false_or,Bool.false_and,bx,Bool.not_false,Bool.true_and,Bool.true_or,Bool.or_false];rfl
      rw [mr]
      unfold ko
      cases (P.all qK&&ku iT P)
      · rfl
      simp only [bT,Option.getD_none]
      refine (bA (l:=R) hR (fun k x=>(n5 R k x).map fun e=>.inr (.inr (.inr e))) (.inl ()) (fun k hk=>?_) (by simp only [cJ,bx])).trans ?_
      · simp only [gV hk,bT,aD hk,ba,sB _ (hqr _ (List.getElem_mem hk)).pre,A9,bO hk hR,n5,Cf]
        cases hw:(dN R[k].Prefix == 0)
        · have h2:=Fm _ (hqr _ (List.getElem_mem hk)).rule (hqr _ (List.getElem_mem hk)).deep
          by_cases h0:0<k
          · simp only [h0,decide_true,Bool.true_and,cj,fD h0 hk hR,ba,fc (show k - 1<R.length by omega),iT,Bool.not_false,bT,bx]
            cases Op.bytesLess (R[k-1]'(by omega)).Prefix.toList R[k].Prefix.toList
            · rfl
            simp only [Bool.not_true,bx]
            rw [h2]
            simp only [bne]
            cases hz:(lM R[k].Rule == 0) <;> simp [hz,vY]
          simp only [h0,decide_false,Bool.false_and,i7,ba,bx,Bool.not_false,bT]
          rw [h2]
          simp only [bne]
          cases hz:(lM R[k].Rule == 0) <;> simp [hz,vY]
        rfl
      rw [qA]
      unfold rulesE
      have hne:∀ e,cr (n5 R) R 0=some e→(e == 0)=false:=by
        have:∀ (m:List Zi) (i:Nat) (e:Int),cr (n5 R) m i=some e→(e == 0)=false:=by
          intro m
          induction m with
          | nil=>intro i e h;cases h
          | cons x m ih =>
            intro i e h
            rw [cr] at h
            cases hg:n5 R i x with
            | none=>rw [hg] at h;exact ih _ _ h
            | some t =>
              rw [hg] at h;injection h with h;subst h
              unfold n5 at hg
              cases hb:Cf x.Prefix
              · rw [hb] at hg;injection hg with hg;subst hg;rfl
              rw [hb] at hg
              cases h9:(decide (0<i) && !iT (R.getD (i - 1) x).Prefix x.Prefix)
              · rw [h9] at hg
                cases hz:(lM x.Rule == 0)
                · rw [hz] at hg;injection hg with hg;subst hg;exact hz
                rw [hz] at hg;cases hg
              rw [h9] at hg;injection hg with hg;subst hg;rfl
        exact this R 0
      cases hf:cr (n5 R) R 0 with
      | none=>rfl
      | some e=>simp [hne e hf,vY]
    cases (decide (l[k].ID<1)||decide (1000<l[k].ID)||decide (l[k].Kind<1)||decide (3<l[k].Kind))
    · by_cases h0:0<k
      · simp only [h0,decide_true,Bool.true_and,cj,fD h0 hk h62,ba,fc (show k - 1<l.length by omega),bx]
        cases decide (l[k].ID≤(l[k-1]'(by omega)).ID)
        · cases (decide (12<l[k].Parties.length)||decide (12<l[k].Rules.length))
          · exact tail
          rfl
        rfl
      simp only [h0,decide_false,Bool.false_and,i7,ba,bx]
      cases (decide (12<l[k].Parties.length)||decide (12<l[k].Rules.length))
      · exact tail
      rfl
    rfl
  rw [qA]
  cases cr (xW l) l 0 <;> rfl
def Y {α:Type} (x:Option α) (P:α→Prop):Prop:=∃ a,x=some a∧P a
section
variable {α β S T:Type} {x y:Option α} {P P':α→Prop} {Q:β→Prop} {f:α→Option β} {a:α} {c:Bool}
theorem Y.bind (h:Y x P) (k:∀ a,P a→Y (f a) Q):Y (x.bind f) Q:=by
 obtain ⟨a,h1,h2⟩:=h;rw [h1];exact k a h2
theorem Y.ret (h:P a):Y (some a) P:=⟨a,rfl,h⟩
theorem Y.mono (h:Y x P) (k:∀ a,P a→P' a):Y x P':=by obtain ⟨a,h1,h2⟩:=h;exact ⟨a,h1,k a h2⟩
theorem Y.cond (h:c=true→Y x P) (k:c=false→Y y P):Y (cond c x y) P:=by cases c;exact k rfl;exact h rfl
theorem Y.eq {r:α} (h:x=some r) (k:Y (f r) Q):Y (x.bind f) Q:=by rw [h];exact k
theorem Y.loop {body:S→Option (S⊕T)} {R:T→Prop} {s:S} (I:S→Prop) (μ:S→Nat) (h0:I s) (hm:μ s≤1267650600228229401496703205000) (step:∀ s,I s→Y (body s) (fun o=>match o with | .inl s'=>I s'∧μ s'<μ s | .inr t=>R t)):Y (aN body FUEL s) R:=by
 obtain ⟨t,h1,h2⟩:=mq (body:=body) I μ R (fun s hs=>by
  obtain ⟨o,k1,k2⟩:=step s hs
  cases o with
  | inl s'=>exact .inl ⟨s',k1,k2⟩
  | inr t=>exact .inr ⟨t,k1,k2⟩) FUEL s h0 (jY hm)
 exact ⟨t,h1,h2⟩
theorem Y.idx {xs:List α} {i:Int} {n:Nat} (h:i=(n:Int)) (hn:n<xs.length) (k:Y (f xs[n]) Q):Y ((idx xs i).bind f) Q:=by subst h;rw [aD hn];exact k
theorem Y.gdp [Inhabited α] {z:Option (α×β)} {m:β} {R:α×β→Prop} (h:c=true→Y z R) (k:c=false→R (default,m)):Y (gdp c z m) R:=by
 cases c
 ·exact ⟨_,rfl,k rfl⟩
 exact h rfl
end
theorem wM (a n:Int) (h1:1≤n) (h2:n≤4611686018427387904):∃ r,gW a n=some r∧0≤r∧r<n:=by
 have hl:=Int.tmod_lt_of_pos a (show 0<n by omega)
 have hl2:=Int.tmod_lt_of_pos (-a) (show 0<n by omega)
 rw [Int.neg_tmod] at hl2
 unfold gW nz lb
 rw [if_neg (by omega),cI (by omega) (by omega)]
 exact ⟨_,rfl,Int.tmod_nonneg _ (by omega),Int.tmod_lt_of_pos _ (by omega)⟩
def SOK (p:Zk):Prop:=0≤p.I∧p.I≤p.L.length∧p.L.length≤1000000000000000
theorem next_ok {p:Zk} (hp:SOK p) (n:Int) (h1:1≤n) (h2:n≤4611686018427387904):∃ r q,aR p n=some (r,q)∧0≤r∧r<n∧SOK q:=by
 obtain ⟨a1,a2,a3⟩:=hp
 unfold aR
 by_cases h:(p.L.length:Int)≤p.I
 ·rw [det h];exact ⟨_,_,rfl,by omega,by omega,a1,a2,a3⟩
 rw [bD h,cI (r:=p.I+1) (by omega) (by omega),cI (by omega) (by omega)]
 simp only [bx]
 have e:idx p.L (p.I+1 - 1)=some (p.L[p.I.toNat]'(by omega)):=by
  unfold idx;rw [if_pos (by omega)]
  have:(p.I+1 - 1).toNat=p.I.toNat:=by omega
  rw [this];exact List.getElem?_eq_getElem _
 rw [o8 e]
 obtain ⟨r,h3,h4,h5⟩:=wM (p.L[p.I.toNat]'(by omega)) n h1 h2
 rw [o8 h3]
 exact ⟨_,_,rfl,h4,h5,by simp only;omega,by simp only;omega,a3⟩
theorem cut_ok (l:List Int) (n:Int) (h:0≤n) (h2:n≤1000):∃ m,mE l n=some m∧(m.length:Int)≤n:=by
 unfold mE
 by_cases h1:n<(l.length:Int)
 ·rw [det h1]
  have e:sub l 0 n=some ((l.take n.toNat).drop 0):=by unfold sub;rw [if_pos (by omega)];rfl
  simp only [bT];rw [o8 e];exact ⟨_,rfl,by simp;omega⟩
 rw [bD h1];exact ⟨_,rfl,by omega⟩
theorem zM (a n:Int) (h1:1≤n) (h2:n≤4611686018427387904):Y (gW a n) (fun r=>0≤r∧r<n):=wM a n h1 h2
theorem eK {p:Zk} (hp:SOK p) (n:Int) (h1:1≤n) (h2:n≤4611686018427387904):Y (aR p n) (fun r=>0≤r.1∧r.1<n∧SOK r.2):=by
 obtain ⟨r,q,h3,h4,h5,h6⟩:=next_ok hp n h1 h2;exact ⟨(r,q),h3,h4,h5,h6⟩
theorem cut_Y (l:List Int) (n:Int) (h:0≤n) (h2:n≤1000):Y (mE l n) (fun m=>SOK ⟨m,0⟩):=by
 obtain ⟨m,h3,h4⟩:=cut_ok l n h h2
 exact ⟨m,h3,by dsimp only;omega,by dsimp only;omega,by dsimp only;omega⟩
theorem Fo {p:Zk} (hp:SOK p):Y (fz p) (fun r=>Fk r.1=true∧SOK r.2):=by
 unfold fz
 refine (eK hp 4 (by omega) (by omega)).bind fun a ⟨h1,h2,h3⟩=>?_
 refine Y.cond (fun _=>?_) (fun _=>?_)
 ·refine (eK h3 101 (by omega) (by omega)).bind fun b ⟨k1,k2,k3⟩=>Y.ret ⟨?_,k3⟩
  rw [cI (by omega) (by omega)];simp only [Fk,Bool.and_eq_true,decide_eq_true_eq];omega
 refine (eK h3 1000001 (by omega) (by omega)).bind fun b ⟨k1,k2,k3⟩=>Y.ret ⟨?_,k3⟩
 simp only [Fk,Bool.and_eq_true,decide_eq_true_eq];omega
structure Good (r:Ze) (m:Nat):Prop where
 ok:ROk r
 valid:dt r=true
 size:pn r≤m
theorem zN:StrsOk []:=⟨by simp,by simp⟩
theorem Fq {r:Ze} (h1:StrsOk r.Except) (h2:r.Name.size≤140737488355328) (h3:r.Args=[]):ROk r:=⟨r,h1,h2,by rw [h3];simp,by rw [h3];simp⟩
theorem Fr {r:Ze} (h:r.Args=[]):pn r=1:=by rw [qa,h];rfl
def n7:Nat→Nat
 | 0=>1
 | d+1=>1+3*n7 d
theorem Fs (d:Nat):1≤n7 d:=by cases d <;> simp [n7]
theorem Cg {m:Nat}:∀ {l:List Ze},(∀ a∈l,pn a≤m)→nD l≤l.length*m
 | [],_=>by rw [nD];omega
 | a::l,h=>by
  rw [nD,List.length_cons,Nat.add_mul,Nat.one_mul]
  have h1:=h a (by simp);have h2:=Cg (l:=l) fun b hb=>h b (by simp [hb]);omega
theorem xY {but:Int} (hb:but=0∨but=5∨but=6) {r:Ze} {q:Zk} {m:Nat} (hm:1≤m) (hq:SOK q) (h1:StrsOk r.Except) (h2:r.Name.size≤140737488355328) (h3:r.Args=[]) (hk:1≤r.Kind∧r.Kind≤4) (hv:dt r=true):Good r m∧r.Kind≠but∧SOK q :=
 ⟨⟨Fq h1 h2 h3,hv,by rw [Fr h3];exact hm⟩,by omega,hq⟩
theorem wN {d n:Nat} {p:Zk} {but:Int} (hp:SOK p) (hb:but=0∨but=5∨but=6) (hn:d<n) (hd:d≤10)
    (ih:∀ d',d=d'+1→∀ (q:Zk) (but':Int),SOK q→(but'=0∨but'=5∨but'=6)→Y (eH (n - 1) q but' (d':Int)) (fun r=>Good r.1 (n7 d')∧r.1.Kind≠but'∧SOK r.2)) :
    Y (eH n p but (d:Int)) (fun r=>Good r.1 (n7 d)∧r.1.Kind≠but∧SOK r.2):=by
  obtain ⟨n,rfl⟩:∃ m,n=m+1:=⟨n - 1,by omega⟩
  rw [Nat.add_sub_cancel] at ih
  show Y (fE (eH n) p but (d:Int)) _
  unfold fE
  refine (eK hp 8 (by omega) (by omega)).bind fun a ⟨h1,h2,h3⟩=>?_
  refine Y.cond (fun hc=>?_) (fun hc=>?_)
  · simp only [Bool.and_eq_true,decide_eq_true_eq] at hc
    obtain ⟨d',rfl⟩:∃ d',d=d'+1:=⟨d - 1,by omega⟩
    have ih:=ih d' rfl
    have hm1:0≤Int.tmod a.1 2:=Int.tmod_nonneg _ (by omega)
    have hm2:Int.tmod a.1 2<2:=Int.tmod_lt_of_pos _ (by omega)
    refine Y.bind (P:=fun k=>(k=5∨k=6)∧k≠but) ?_ fun k ⟨hk,hkb⟩=>?_
    · rw [cI (by omega) (by omega)]
      refine Y.cond (fun hc=>Y.ret ?_) (fun hc=>Y.ret ?_)
      · have:=eq_of_beq hc;rw [cI (by omega) (by omega)];omega
      have:¬ 5+Int.tmod a.1 2=but:=by intro h;rw [h] at hc;simp at hc
      omega
    refine (eK h3 2 (by omega) (by omega)).bind fun b ⟨k1,k2,k3⟩=>?_
    rw [cI (r:=2+b.1) (by omega) (by omega)]
    refine Y.bind (P:=fun t:List Int×Int×List Ze=>SOK ⟨t.1,t.2.1⟩∧(2≤t.2.2.length∧t.2.2.length≤3)∧∀ x∈t.2.2,Good x (n7 d')∧x.Kind≠k) ?_ fun t ⟨t1,t2,t3⟩=>?_
    · refine Y.loop (fun s:Int×List Int×Int×List Ze=>(0≤s.1∧s.1+s.2.2.2.length=2+b.1)∧SOK ⟨s.2.1,s.2.2.1⟩∧∀ x∈s.2.2.2,Good x (n7 d')∧x.Kind≠k) (fun s=>s.1.toNat) ⟨⟨by dsimp only;omega,by simp⟩,k3,by simp⟩ (by dsimp only;omega) fun s hs=>?_
      obtain ⟨v,l,i,m⟩:=s
      obtain ⟨⟨s1,s2⟩,s3,s4⟩:=hs
      dsimp only at s1 s2 s3 s4 ⊢
      refine Y.cond (fun hc=>?_) (fun hc=>Y.ret ⟨s3,?_,s4⟩)
      · have hc:=of_decide_eq_true hc
        rw [cI (by omega) (by omega),show ((d'+1:Nat):Int) - 1=(d':Int) by omega]
        refine (ih _ k s3 (by omega)).bind fun x ⟨x1,x2,x3⟩=>?_
        rw [cL (by simp;omega) (by simp;omega),ba,cI (by omega) (by omega)]
        refine Y.ret ⟨⟨⟨by dsimp only;omega,by simp;omega⟩,x3,fun z hz=>?_⟩,by dsimp only;omega⟩
        rcases List.mem_append.1 hz with hz | hz
        · exact s4 z hz
        rw [List.mem_singleton.1 hz];exact ⟨x1,x2⟩
      have hc:=of_decide_eq_false hc
      dsimp only;omega
    obtain ⟨l,i,m⟩:=t
    dsimp only at t1 t2 t3 ⊢
    refine Y.ret ⟨⟨⟨_,zN,by simp,by dsimp only;omega,fun z hz=>(t3 z hz).1.ok⟩,?_,?_⟩,hkb,t1⟩
    · rw [gQ]
      have e1:(k == 5||k == 6)=true:=by rcases hk with rfl | rfl <;> rfl
      have e2:kn ⟨k,0,[],0,0,ByteArray.empty,m⟩=true:=by rcases hk with rfl | rfl <;> rfl
      rw [e2]
      simp only [e1,bT,Bool.true_and,Bool.and_eq_true,decide_eq_true_eq,List.all_eq_true,Bool.not_eq_true',beq_eq_false_iff_ne,ne_eq]
      exact ⟨by omega,fun z hz=>⟨(t3 z hz).2,(t3 z hz).1.valid⟩⟩
    rw [qa]
    have:=Cg fun z hz=>(t3 z hz).1.size
    have h3:m.length*n7 d'≤3*n7 d':=Nat.mul_le_mul_right _ t2.2
    dsimp only [n7];omega
  have hpos:=Fs d
  refine Y.bind (P:=fun q:(List Int×Int)⊕(Ze×Zk)=>match q with | .inl s=>SOK ⟨s.1,s.2⟩ | .inr r=>Good r.1 (n7 d)∧r.1.Kind≠but∧SOK r.2) ?_ fun q hq=>?_
  · refine Y.cond (fun _=>?_) fun _=>Y.cond (fun _=>?_) fun _=>Y.cond (fun _=>?_) fun _=>Y.ret h3
    · refine (Fo h3).bind fun b ⟨k1,k2⟩=>Y.ret (xY hb hpos k2 zN (by simp) rfl ⟨by simp,by simp⟩ ?_)
      rw [gQ];simp only [kn,jI,k1];rfl
    · refine (eK h3 5 (by omega) (by omega)).bind fun b ⟨k1,k2,k3⟩=>?_
      obtain ⟨j,hj⟩:∃ j:Nat,b.1=(j:Int):=⟨b.1.toNat,by omega⟩
      have hj5:j<5:=by omega
      refine Y.idx hj hj5 (Y.ret ?_)
      have hw:∀ j:Nat,(h:j<5)→gX [(⟨#[97,110,100]⟩:ByteArray),(⟨#[99,117,116]⟩:ByteArray),(⟨#[111,114]⟩:ByteArray),(⟨#[115,101,119]⟩:ByteArray),(⟨#[115,112,105,110]⟩:ByteArray)][j]=true:=by
        intro j h
        match j,h with
        | 0,_=>rfl
        | 1,_=>rfl
        | 2,_=>rfl
        | 3,_=>rfl
        | 4,_=>rfl
      have hw2:=hw j hj5
      refine xY hb hpos k3 zN ?_ rfl ⟨by simp,by simp⟩ ?_
      · have h12:=hw2
        simp only [gX,Bool.and_eq_true,decide_eq_true_eq] at h12
        dsimp only;omega
      rw [gQ];simp only [kn,jI,hw2];rfl
    refine (eK h3 3 (by omega) (by omega)).bind fun b ⟨k1,k2,k3⟩=>Y.cond (fun _=>Y.ret (xY hb hpos k3 zN (by simp) rfl ⟨by simp,by simp⟩ ?_)) fun _=>Y.ret k3
    rw [gQ];rfl
  cases q with
  | inr r=>exact Y.ret hq
  | inl s =>
    obtain ⟨l,i⟩:=s
    dsimp only at hq ⊢
    refine (eK hq 3 (by omega) (by omega)).bind fun b ⟨k1,k2,k3⟩=>?_
    refine (eK k3 3 (by omega) (by omega)).bind fun c ⟨c1,c2,c3⟩=>?_
    refine Y.bind (P:=fun t:List Int×Int×List ByteArray=>SOK ⟨t.1,t.2.1⟩∧StrsOk t.2.2∧kL t.2.2=true) ?_ fun t ⟨t1,t2,t3⟩=>?_
    · refine Y.cond (fun _=>?_) fun _=>Y.ret ⟨c3,zN,rfl⟩
      refine (eK c3 2 (by omega) (by omega)).bind fun e ⟨e1,e2,e3⟩=>?_
      obtain he | he:e.1=0∨e.1=1:=by omega
      · rw [he];exact Y.ret ⟨e3,(show StrsOk [(⟨#[57,52,48,49]⟩:ByteArray),(⟨#[57,53,48,50]⟩:ByteArray)] from ⟨by decide,by decide⟩),(show kL [(⟨#[57,52,48,49]⟩:ByteArray),(⟨#[57,53,48,50]⟩:ByteArray)]=true by kernel_rfl)⟩
      rw [he];exact Y.ret ⟨e3,(show StrsOk [(⟨#[57,53,48,50]⟩:ByteArray)] from ⟨by decide,by decide⟩),(show kL [(⟨#[57,53,48,50]⟩:ByteArray)]=true by kernel_rfl)⟩
    obtain ⟨l2,i2,ex⟩:=t
    dsimp only at t1 t2 t3 ⊢
    refine (eK t1 3 (by omega) (by omega)).bind fun e ⟨e1,e2,e3⟩=>?_
    refine Y.bind (P:=fun t:List Int×Int×Int=>SOK ⟨t.1,t.2.1⟩∧Fk t.2.2=true) (Y.cond (fun _=>(Fo e3).bind fun f ⟨f1,f2⟩=>Y.ret ⟨f2,f1⟩) fun _=>Y.ret ⟨e3,rfl⟩) fun u ⟨u1,u2⟩=>?_
    obtain ⟨l3,i3,tol⟩:=u
    dsimp only at u1 u2 ⊢
    refine Y.ret (xY hb hpos u1 t2 (by simp) rfl ⟨by simp,by simp⟩ ?_)
    rw [cI (r:=2*b.1) (by omega) (by omega),cI (by omega) (by omega),gQ]
    simp only [kn,jI,t3,u2]
    obtain hb0 | hb0 | hb0:b.1=0∨b.1=1∨b.1=2:=by omega
    · rw [hb0];rfl
    · rw [hb0];rfl
    rw [hb0];rfl
theorem rule_Y (d:Nat):∀ (n:Nat) (p:Zk) (but:Int),d<n→d≤10→SOK p→(but=0∨but=5∨but=6)→Y (eH n p but (d:Int)) (fun r=>Good r.1 (n7 d)∧r.1.Kind≠but∧SOK r.2):=by
  induction d with
  | zero=>exact fun n p but h1 h2 hp hb=>wN hp hb h1 (by omega) (fun d h=>absurd h (by omega))
  | succ d ih=>exact fun n p but h1 h2 hp hb=>wN hp hb h1 (by omega) (fun d' h q but' hq hb'=>by
      obtain rfl:d'=d:=by omega
      exact ih _ q but' (by omega) (by omega) hq hb')
theorem Ft (x y z:ByteArray) (h1:iT x y=true) (h2:iT y z=true):iT x z=true:=by
 rw [pX] at *;exact det (List.lt_trans (of_decide_eq_true h1) (of_decide_eq_true h2))
theorem Ch (x:ByteArray):iT x x=false:=by rw [pX];exact bD (List.lt_irrefl _)
theorem lu:∀ l:List ByteArray,ku iT l=true↔l.Pairwise (fun a b=>iT a b=true)
 | []=>by simp [ku]
 | [a]=>by simp [ku]
 | a::b::l=>by
  rw [ku,Bool.and_eq_true,lu (b::l)]
  constructor
  ·rintro ⟨h1,h2⟩
   refine List.pairwise_cons.2 ⟨fun c hc=>?_,h2⟩
   rcases List.mem_cons.1 hc with rfl | hc
   ·exact h1
   exact Ft _ _ _ h1 ((List.pairwise_cons.1 h2).1 c hc)
  intro h;obtain ⟨h1,h2⟩:=List.pairwise_cons.1 h;exact ⟨h1 b (by simp),h2⟩
theorem oS {α:Type} {l C:List α} {v:Nat} (h:l.Sublist (C.take v)) (hv:v<C.length):(l++[C[v]]).Sublist (C.take (v+1))∧l.Sublist (C.take (v+1)):=by
 have e:C.take (v+1)=C.take v++[C[v]]:=by rw [List.take_add_one,List.getElem?_eq_getElem hv];rfl
 rw [e]
 exact ⟨h.append (List.Sublist.refl _),h.trans (List.sublist_append_left _ _)⟩
def C6:List ByteArray:=[(⟨#[65,65]⟩:ByteArray),(⟨#[66,66]⟩:ByteArray),(⟨#[67,67]⟩:ByteArray),(⟨#[68,68]⟩:ByteArray),(⟨#[69,69]⟩:ByteArray),(⟨#[70,70]⟩:ByteArray)]
def P5:List ByteArray:=[(⟨#[57,52]⟩:ByteArray),(⟨#[57,52,48,49]⟩:ByteArray),(⟨#[57,52,48,49,48,50]⟩:ByteArray),(⟨#[57,53]⟩:ByteArray),(⟨#[57,53,48,50]⟩:ByteArray)]
theorem C6_ok:C6.all qK=true∧ku iT C6=true∧(C6.all fun s=>decide (s.size≤100))=true:=⟨by kernel_rfl,by kernel_rfl,by kernel_rfl⟩
theorem P5_ok:P5.all Cf=true∧ku iT P5=true∧(P5.all fun s=>decide (s.size≤100))=true:=⟨by kernel_rfl,by kernel_rfl,by kernel_rfl⟩
structure MA (i:Nat) (a:Zb):Prop where
 id:a.ID=2+5*(i:Int)
 kind:1≤a.Kind∧a.Kind≤3
 par:a.Parties.Sublist C6
 pre:(a.Rules.map (·.Prefix)).Sublist P5
 good:∀ x∈a.Rules,Good x.Rule (n7 1)
 ne:a.Rules≠[]
structure MAs (l:List Zb):Prop where
 len:1≤l.length∧l.length≤4
 all:∀ (i:Nat) (a:Zb),l[i]?=some a→MA i a
theorem P5_len {a:Zb} (h:(a.Rules.map (·.Prefix)).Sublist P5):a.Rules.length≤5:=by have:=h.length_le;simpa [P5] using this
theorem MA.strs {i:Nat} {a:Zb} (h:MA i a):StrsOk a.Parties:=by
 refine ⟨?_,fun s hs=>?_⟩
 ·have:=h.par.length_le;have h6:C6.length=6:=rfl;omega
 have:=of_decide_eq_true (List.all_eq_true.1 C6_ok.2.2 s (h.par.subset hs));omega
theorem MA.aok {i:Nat} {a:Zb} (h:MA i a):AOk a:=by
 refine ⟨h.strs,by have:=P5_len h.pre;omega,fun x hx=>?_⟩
 have hp:=of_decide_eq_true (List.all_eq_true.1 P5_ok.2.2 x.Prefix (h.pre.subset (List.mem_map_of_mem hx)))
 have hg:=h.good x hx
 exact ⟨by omega,hg.ok,by have h1:=oQ x.Rule;have h2:=hg.size;simp only [n7] at h2;omega⟩
theorem MAs.ok {l:List Zb} (h:MAs l):ASOk l:=⟨by have:=h.len;omega,fun a ha=>by
 obtain ⟨i,hi,rfl⟩:=List.getElem_of_mem ha;exact (h.all i _ (List.getElem?_eq_getElem hi)).aok⟩
theorem MA.parties {i:Nat} {a:Zb} (h:MA i a):ko a.Parties=true:=by
 unfold ko
 rw [Bool.and_eq_true]
 refine ⟨List.all_eq_true.2 fun s hs=>List.all_eq_true.1 C6_ok.1 s (h.par.subset hs),?_⟩
 rw [lu];exact List.Pairwise.sublist h.par ((lu _).1 C6_ok.2.1)
theorem MA.rulesE {i:Nat} {a:Zb} (h:MA i a):rulesE a.Rules=0:=by
 have:cr (n5 a.Rules) a.Rules 0=none:=by
  rw [mC]
  intro k x hx
  obtain ⟨hk,rfl⟩:=List.getElem?_eq_some_iff.1 hx
  have hmem:a.Rules[k]∈a.Rules:=List.getElem_mem hk
  have h1:=List.all_eq_true.1 P5_ok.1 _ (h.pre.subset (List.mem_map_of_mem hmem))
  have hg:=h.good _ hmem
  have h2:lM a.Rules[k].Rule=0:=(kM _).2 ⟨by have:=hg.size;simp only [n7] at this;omega,hg.valid⟩
  unfold n5
  rw [Nat.zero_add,h1,h2]
  have hpw:=List.Pairwise.sublist h.pre ((lu _).1 P5_ok.2.1)
  by_cases h0:0<k
  ·rw [fc (show k - 1<a.Rules.length by omega)]
   have:=(List.pairwise_iff_getElem.1 (List.pairwise_map.1 hpw)) (k - 1) k (by omega) hk (by omega)
   rw [this];simp
  simp [h0]
 unfold SX.rulesE;rw [this];rfl
theorem MAs.valid {l:List Zb} (h:MAs l):Dj l=0:=by
 have:cr (xW l) l 0=none:=by
  rw [mC]
  intro k x hx
  obtain ⟨hk,rfl⟩:=List.getElem?_eq_some_iff.1 hx
  have hm:=h.all k _ hx
  have hl:=h.len
  unfold xW
  rw [Nat.zero_add,hm.parties,hm.rulesE]
  have i1:(decide (l[k].ID<1)||decide (1000<l[k].ID)||decide (l[k].Kind<1)||decide (3<l[k].Kind))=false:=by
   have e1:=hm.id;have e2:=hm.kind
   rw [bD (by omega),bD (by omega),bD (by omega),bD (by omega)];rfl
  have i2:(decide (12<l[k].Parties.length)||decide (12<l[k].Rules.length))=false:=by
   have e1:=hm.par.length_le;have e2:=P5_len hm.pre;have h6:C6.length=6:=rfl
   rw [bD (by omega),bD (by omega)];rfl
  rw [i1,i2]
  by_cases h0:0<k
  ·rw [fc (show k - 1<l.length by omega)]
   have hm2:=h.all (k - 1) _ (List.getElem?_eq_getElem (by omega))
   have e1:=hm.id;have e2:=hm2.id
   rw [bD (show ¬ l[k].ID≤(l[k-1]'(by omega)).ID by omega)];simp
  simp [h0]
 unfold Dj
 rw [det (by have:=h.len;omega),this];rfl
theorem rL:gO=some C6:=rfl
def bitI (m:Int) (v:Int):Bool:=dU .i64 (cH .i64 m v) 1 == 1
theorem Fu:((List.range 31).all fun m=>(List.range 5).any fun v=>bitI ((m+1:Nat):Int) (v:Int))=true:=by kernel_rfl
theorem has_bit {m:Int} (h1:1≤m) (h2:m≤31):∃ v:Nat,v<5∧bitI m (v:Int)=true:=by
 have:=List.all_eq_true.1 Fu (m.toNat - 1) (List.mem_range.2 (by omega))
 obtain ⟨v,hv,h⟩:=List.any_eq_true.1 this
 rw [show ((m.toNat - 1+1:Nat):Int)=m by omega] at h
 exact ⟨v,List.mem_range.1 hv,h⟩
theorem oT (v:Nat):kZ (v:Int)=some ():=by unfold kZ;rw [if_pos (by omega)]
theorem Dk {c:Int→Bool}:Y (aN (S:=Int×(List ByteArray)) (T:=((List ByteArray))) (fun (v22,l24)=>cond (decide (v22<6)) (Option.bind (Option.bind (kZ v22) (fun _=>cond (c v22) (Option.bind (gO) (fun x44=>Option.bind (idx x44 v22) (fun m45=>Option.bind (app 16 l24 [m45]) (fun l48=>some l48)))) (some l24))) (fun l40=>some (.inl ((IntKind.i64.wrap (v22+1)),l40)))) (some (.inr l24))) FUEL (0,([]:List ByteArray))) (fun l=>l.Sublist C6):=by
 refine Y.loop (fun s=>∃ v:Nat,s.1=(v:Int)∧v≤6∧s.2.Sublist (C6.take v)) (fun s=>(6 - s.1).toNat) ⟨0,rfl,by omega,List.Sublist.refl _⟩ (by dsimp only;omega) fun s hs=>?_
 obtain ⟨i,l⟩:=s
 obtain ⟨v,rfl,h1,h2⟩:=hs
 dsimp only at h2 ⊢
 have hlen:l.length≤6:=by have:=h2.length_le;have h6:C6.length=6:=rfl;rw [List.length_take] at this;omega
 refine Y.cond (fun hc=>?_) (fun hc=>Y.ret (h2.trans (List.take_sublist _ _)))
 have hv:v<6:=by have:=of_decide_eq_true hc;omega
 have hs:=oS h2 (show v<C6.length from hv)
 refine Y.bind (P:=fun m:List ByteArray=>m.Sublist (C6.take (v+1))) (Y.eq (oT v) (Y.cond (fun _=>?_) fun _=>Y.ret hs.2)) fun m hm=>Y.ret ⟨⟨v+1,?_,by omega,hm⟩,?_⟩
 ·refine Y.eq rL (Y.idx rfl (show v<C6.length from hv) ?_)
  rw [cL (by simp;omega) (by simp;omega)];exact Y.ret hs.1
 ·show IntKind.i64.wrap ((v:Int)+1)=_;rw [cI (by omega) (by omega)];omega
 show (6 - IntKind.i64.wrap ((v:Int)+1)).toNat<(6 - (v:Int)).toNat;rw [cI (by omega) (by omega)];omega
theorem xZ (p0:List Int):Y (ib p0) MAs:=by
 unfold ib
 refine (cut_Y p0 200 (by omega) (by omega)).bind fun x1 hx1=>?_
 refine (eK hx1 4 (by omega) (by omega)).bind fun x3 ⟨a1,a2,a3⟩=>?_
 rw [cI (r:=1+x3.1) (by omega) (by omega)]
 refine Y.bind (P:=MAs) ?_ fun l hl=>Y.ret hl
 refine Y.loop (fun s:List Zb×Int×List Int×Int=>(s.2.1=(s.1.length:Int)∧s.2.1≤1+x3.1)∧SOK ⟨s.2.2.1,s.2.2.2⟩∧∀ i a,s.1[i]?=some a→MA i a) (fun s=>(1+x3.1 - s.2.1).toNat) ⟨⟨rfl,by dsimp only;omega⟩,a3,by simp⟩ (by dsimp only;omega) fun s hs=>?_
 obtain ⟨l5,v8,l9,v10⟩:=s
 obtain ⟨⟨h1,h2⟩,h3,h4⟩:=hs
 dsimp only at h1 h2 h3 h4 ⊢
 refine Y.cond (fun hc=>?_) (fun hc=>Y.ret ⟨?_,h4⟩)
 rotate_left
 ·have hc:=of_decide_eq_false hc;omega
 have hc:=of_decide_eq_true hc
 refine (eK h3 3 (by omega) (by omega)).bind fun x19 ⟨b1,b2,b3⟩=>?_
 refine (eK b3 64 (by omega) (by omega)).bind fun x21 ⟨c1,c2,c3⟩=>?_
 refine (Dk (c:=fun v=>dU .i64 (cH .i64 (qI .i64 x21.1 3) v) 1 == 1)).bind fun l31 hl31=>?_
 refine Y.bind (P:=fun r:Int×Zk=>SOK r.2) (Y.gdp (fun _=>(eK c3 2 (by omega) (by omega)).mono fun r hr=>hr.2.2) fun _=>c3) fun x53 hx53=>?_
 refine Y.bind (P:=fun t:List Int×Int×List Zi=>SOK ⟨t.1,t.2.1⟩∧(t.2.2.map (·.Prefix)).Sublist P5∧(∀ x∈t.2.2,Good x.Rule (n7 1))∧t.2.2≠[]) ?_ fun t ⟨t1,t2,t3,t4⟩=>?_
 ·refine Y.cond (fun hc2=>?_) fun hc2=>?_
  ·simp only [Bool.and_eq_true,decide_eq_true_eq] at hc2
   obtain ⟨j,hj⟩:∃ j:Nat,v8 - 1=(j:Int):=⟨(v8 - 1).toNat,by omega⟩
   refine Y.idx (n:=j) (by rw [cI (by omega) (by omega)];exact hj) (show j<l5.length by omega) ?_
   have:=h4 j _ (List.getElem?_eq_getElem (by omega))
   exact Y.ret ⟨hx53,this.pre,this.good,this.ne⟩
  refine (eK hx53 31 (by omega) (by omega)).bind fun x64 ⟨d1,d2,d3⟩=>?_
  refine Y.bind (P:=fun t:List Int×Int×List Zi=>SOK ⟨t.1,t.2.1⟩∧(t.2.2.map (·.Prefix)).Sublist P5∧(∀ x∈t.2.2,Good x.Rule (n7 1))∧t.2.2≠[]) ?_ fun t ht=>Y.ret ht
  refine Y.loop (fun s:Int×List Int×Int×List Zi=>∃ v:Nat,s.1=(v:Int)∧v≤5∧SOK ⟨s.2.1,s.2.2.1⟩∧(s.2.2.2.map (·.Prefix)).Sublist (P5.take v)∧(∀ x∈s.2.2.2,Good x.Rule (n7 1))∧(s.2.2.2≠[]∨∀ u:Nat,u<v→bitI (1+x64.1) (u:Int)=false)) (fun s=>(5 - s.1).toNat) ⟨0,rfl,by omega,d3,List.Sublist.refl _,by simp,.inr (fun u hu=>absurd hu (Nat.not_lt_zero _))⟩ (by dsimp only;omega) fun s hs=>?_
  obtain ⟨i,l,k,m⟩:=s
  obtain ⟨v,rfl,e1,e2,e3,e4,e5⟩:=hs
  dsimp only at e2 e3 e4 e5 ⊢
  have hlen:m.length≤5:=by have:=e3.length_le;have h6:P5.length=5:=rfl;rw [List.length_take,List.length_map] at this;omega
  refine Y.cond (fun hc3=>?_) (fun hc3=>Y.ret ⟨e2,e3.trans (List.take_sublist _ _),e4,?_⟩)
  rotate_left
  ·have h5:v=5:=by have:=of_decide_eq_false hc3;omega
   rcases e5 with e5 | e5
   ·exact e5
   obtain ⟨u,hu,hb⟩:=has_bit (m:=1+x64.1) (by omega) (by omega)
   rw [e5 u (by omega)] at hb;cases hb
  have hv:v<5:=by have:=of_decide_eq_true hc3;omega
  have hs:=oS e3 (show v<P5.length from hv)
  refine Y.bind (P:=fun t:List Int×Int×List Zi=>SOK ⟨t.1,t.2.1⟩∧(t.2.2.map (·.Prefix)).Sublist (P5.take (v+1))∧(∀ x∈t.2.2,Good x.Rule (n7 1))∧(t.2.2≠[]∨∀ u:Nat,u<v+1→bitI (1+x64.1) (u:Int)=false)) (Y.eq (oT v) (Y.cond (fun _=>?_) fun hbit=>Y.ret ⟨e2,hs.2,e4,?_⟩)) fun t ⟨t1,t2,t3,t4⟩=>Y.ret ⟨⟨v+1,?_,by omega,t1,t2,t3,t4⟩,?_⟩
  ·refine Y.idx (xs:=P5) rfl (show v<P5.length from hv) ?_
   refine (rule_Y 1 FUEL ⟨l,k⟩ 0 (jY (by omega)) (by omega) e2 (.inl rfl)).bind fun r ⟨r1,r2,r3⟩=>?_
   rw [cL (by simp;omega) (by simp;omega)]
   refine Y.ret ⟨r3,by rw [List.map_append];exact hs.1,fun z hz=>?_,.inl (by simp)⟩
   rcases List.mem_append.1 hz with hz | hz
   ·exact e4 z hz
   rw [List.mem_singleton.1 hz];exact r1
  ·rcases e5 with e5 | e5
   ·exact .inl e5
   refine .inr fun u hu=>?_
   rcases Nat.lt_or_ge u v with h | h
   ·exact e5 u h
   obtain rfl:u=v:=by omega
   rw [cI (by omega) (by omega)] at hbit;exact hbit
  ·show IntKind.i64.wrap ((v:Int)+1)=_;rw [cI (by omega) (by omega)];omega
  show (5 - IntKind.i64.wrap ((v:Int)+1)).toNat<(5 - (v:Int)).toNat;rw [cI (by omega) (by omega)];omega
 obtain ⟨l55,v56,l58⟩:=t
 dsimp only at t1 t2 t3 ⊢
 rw [cL (by simp;omega) (by simp;omega),ba,cI (r:=v8+1) (by omega) (by omega),cI (r:=1+x19.1) (by omega) (by omega),cI (r:=5*v8) (by omega) (by omega),cI (by omega) (by omega)]
 refine Y.ret ⟨⟨⟨by simp;omega,by dsimp only;omega⟩,t1,fun i a ha=>?_⟩,by dsimp only;omega⟩
 rw [List.getElem?_append] at ha
 split at ha
 ·exact h4 i a ha
 rename_i hi
 have hi0:i - l5.length=0:=by have:=(List.getElem?_eq_some_iff.1 ha).1;simp at this;omega
 rw [hi0] at ha
 simp only [List.getElem?_cons_zero,eG] at ha
 subst ha
 exact ⟨by dsimp only;omega,⟨by dsimp only;omega,by dsimp only;omega⟩,hl31,t2,t3,t4⟩
structure RawA (a:Zb):Prop where
 par:StrsOk a.Parties
 len:a.Rules.length≤140737488355328
 rules:∀ x∈a.Rules,x.Prefix.size≤140737488355328∧ROk x.Rule
theorem jv {α:Type} {b:Nat} {l:List α} (h:l.length≤1000000000) (hb:b≤1000):app b ([]:List α) l=some l:=by
 have:=Nat.mul_le_mul h hb
 exact cL (by simpa using (by omega:l.length*b≤140737488355328)) (by simp;omega)
def k0 (W:World):Kr:=⟨W,fun b=>b<W.heap.size⟩
theorem rn {t:Nat} {z:Value} {s b:Nat} (h:fU t=some (z,s,b)):Tryz.prog.cellsOf t=s∧Tryz.prog.bytesOf t=b:=by
 obtain ⟨i,h1,h2,h3,h4⟩:=ol h
 constructor
 ·simp [Program.cellsOf,h1,h3]
 simp [Program.bytesOf,h1,h4]
def Light {H:Type} (t:Nat) (d:DataW H):Prop:=∀ n∈d.weights Tryz.prog t,n≤reachBytes
theorem Fv {H:Type} (d:DataW H):1≤Rows.uptoBulk d:=by
 cases d with
 | lit l=>cases l <;> simp [Rows.uptoBulk]
 | nil=>simp [Rows.uptoBulk]
 | ptr d=>simp [Rows.uptoBulk]
 | slice elems spare=>simp [Rows.uptoBulk]
 | agg parts=>simp [Rows.uptoBulk]
 | iface t d=>simp [Rows.uptoBulk]
 | map entries=>simp [Rows.uptoBulk]
 | held h=>simp [Rows.uptoBulk]
theorem Dl {H:Type} {d:DataW H} {l:List (DataW H)} (h:d∈l):Rows.uptoBulk d≤Rows.uptoBulkAll l:=by
 induction l with
 | nil=>cases h
 | cons x r ih =>
  simp only [Rows.uptoBulkAll]
  cases List.mem_cons.1 h with
  | inl e=>subst e;omega
  | inr e=>have:=ih e;omega
theorem Fw {H:Type} (l:List (DataW H)):l.length≤Rows.uptoBulkAll l:=by
 induction l with
 | nil=>simp [Rows.uptoBulkAll]
 | cons x r ih=>have:=Fv x;simp only [Rows.uptoBulkAll,List.length_cons];omega
def Opens {H:Type} (eh:TypeId×Value→H) {α:Type} (n:Nat) (t:Nat) (e:α→List PV) (B:α→Prop):Prop :=
 ∀ (W:World) (fuel:Nat) (cs:List Value) (x:DataW H×List MemPlace),DataW.trod eh Tryz.prog W 0 (fun _=>true) true fuel t cs=some x→Light t x.1→Rows.uptoBulk x.1≤n→∃ m,Rps (k0 W) (e m) cs∧One cs∧B m
section
variable {H:Type} {eh:TypeId×Value→H} {nb:Nat}
theorem one1 {v:Value} (h:v.oneCell'=true):One [v]:=fun u hu=>by rw [List.mem_singleton.1 hu];exact h
theorem Dm {t:Nat} {k:IntKind} (h:eR t=some (.int k)):Opens eh nb t (fun x:Int=>[.v (.int k x)]) (fun _=>True):=fun W fuel cs x hx _ _=>by
 obtain ⟨n,rfl,_,_⟩:=DataW.trod_int (bK h) hx
 exact ⟨n,.cons (.v rfl) .nil,one1 rfl,trivial⟩
theorem qb {e:Nat}:∀ {l:List (DataW H)} {d:DataW H} {n:Nat},d∈l→n∈d.weights Tryz.prog e→n∈DataW.weightsAll Tryz.prog e l
 | d'::l,d,n,hd,hn=>by
  simp only [DataW.weightsAll,List.mem_append]
  rcases List.mem_cons.1 hd with rfl | hd
  ·exact .inl hn
  exact .inr (qb hd hn)
theorem Ci {α β:Type} {R:α→β→Prop}:∀ (l:List β),(∀ b∈l,∃ a,R a b)→∃ la:List α,la.length=l.length∧∀ (i:Nat) (b:β),l[i]?=some b→∃ a,la[i]?=some a∧R a b
 | [],_=>⟨[],rfl,fun i b h=>by simp at h⟩
 | b::l,h=>by
  obtain ⟨a,ha⟩:=h b (by simp)
  obtain ⟨la,h1,h2⟩:=Ci l fun b hb=>h b (by simp [hb])
  refine ⟨a::la,by simp [h1],fun i b' hb=>?_⟩
  cases i with
  | zero=>simp only [List.getElem?_cons_zero,eG] at hb;subst hb;exact ⟨a,rfl,ha⟩
  | succ i=>simp only [List.getElem?_cons_succ] at hb ⊢;exact h2 i b' hb
def OpensN {H:Type} (eh:TypeId×Value→H) {α:Type} (N n:Nat) (t:Nat) (e:α→List PV) (B:α→Prop):Prop :=
 ∀ (W:World) (fuel:Nat) (cs:List Value) (x:DataW H×List MemPlace),fuel<N→DataW.trod eh Tryz.prog W 0 (fun _=>true) true fuel t cs=some x→Light t x.1→Rows.uptoBulk x.1≤n→∃ m,Rps (k0 W) (e m) cs∧One cs∧B m
theorem ya {α:Type} {N t E sz by':Nat} {z:Value} {e:α→List PV} {B:α→Prop} (hu:eR t=some (.slice E)) (hi:fU E=some (z,sz,by')) (h0:Nat.blt 0 sz=true) (hb0:Nat.blt 0 by'=true) (hE:OpensN eh N nb E e B):OpensN eh (N+1) nb t (eL e) (fun l=>l.length*by'≤140737488355328∧l.length≤nb∧∀ x∈l,B x):=fun W fuel cs x hfu hx hw hbk=>by
 obtain ⟨hcz,hby⟩:=rn hi
 have hsz:0<sz:=by have:=h0;simp [Nat.blt] at this;omega
 have hbp:0<by':=by have:=hb0;simp [Nat.blt] at this;omega
 rcases DataW.trod_slice (bK hu) hx with ⟨rfl,_⟩ | ⟨a,len,cap,elems,rest,n,rfl,rfl,rfl,_,hl,hm,hlen,hel,_,_⟩
 ·exact ⟨[],.cons (.slc (sz:=sz) (css:=[]) Sl.nil (Nat.zero_le _) (fun _ h=>by cases h) .nil) .nil,one1 rfl,by simp,Nat.zero_le _,fun _ h=>by cases h⟩
 rw [hcz] at hel
 have hwl:(elems.length+rest.length)*by'≤reachBytes:=by
  have:=hw ((elems.length+rest.length)*by') (by simp only [DataW.weights,bK hu,hby,List.length_map];exact List.mem_cons_self)
  exact this
 have hn:len≤140737488355328:=by
  unfold reachBytes at hwl
  have:elems.length*1≤(elems.length+rest.length)*by':=Nat.mul_le_mul (by omega) (by omega)
  omega
 have hcells:∀ i∈List.range len,∃ p:α×List Value,W.cells? 0 (a.add (i*sz)) sz=some p.2∧Rps (k0 W) (e p.1) p.2∧One p.2∧B p.1:=fun i hi'=>by
  have hi':i<len:=List.mem_range.1 hi'
  have h1:=hel i hi'
  have hlt:i<elems.length:=by omega
  rw [List.getElem?_eq_getElem hlt] at h1
  obtain ⟨cs,h2,h3⟩:=Option.bind_eq_some_iff.1 h1
  obtain ⟨m,k1,k2,k3⟩:=hE W n cs _ (by omega) h3 (fun q hq=>hw q (by
   simp only [DataW.weights,bK hu]
   exact List.mem_cons_of_mem _ (List.mem_append.2 (.inl (qb (List.mem_map.2 ⟨_,List.getElem_mem hlt,rfl⟩) hq))))) (by
   have h9:=Dl (l:=elems.map (·.1)) (List.mem_map.2 ⟨_,List.getElem_mem hlt,rfl⟩)
   simp only [Rows.uptoBulk] at hbk
   omega)
  exact ⟨(m,cs),h2,k1,k2,k3⟩
 obtain ⟨ps,g1,g2⟩:=Ci (R:=fun (p:α×List Value) i=>W.cells? 0 (a.add (i*sz)) sz=some p.2∧Rps (k0 W) (e p.1) p.2∧One p.2∧B p.1) (List.range len) hcells
 rw [List.length_range] at g1
 have g3:∀ (i:Nat) (p:α×List Value),ps[i]?=some p→W.cells? 0 (a.add (i*sz)) sz=some p.2∧Rps (k0 W) (e p.1) p.2∧One p.2∧B p.1:=fun i p hp=>by
  have hlt:=(List.getElem?_eq_some_iff.1 hp).1
  obtain ⟨p',h1,h2⟩:=g2 i i (by rw [List.getElem?_range (by omega)])
  rw [hp] at h1;injection h1 with h1;subst h1;exact h2
 have hps:(ps.map (·.1)).length=len:=by simp [g1]
 refine ⟨ps.map (·.1),?_,one1 rfl,?_,?_,?_⟩
 rotate_left
 ·rw [hps]
  have h9:len*by'≤(elems.length+rest.length)*by':=Nat.mul_le_mul_right _ (by omega)
  unfold reachBytes at hwl
  omega
 ·rw [hps]
  have h9:=Fw (elems.map (·.1))
  rw [List.length_map] at h9
  simp only [Rows.uptoBulk] at hbk
  omega
 ·intro x hx
  obtain ⟨p,hp,rfl⟩:=List.mem_map.1 hx
  obtain ⟨i,hi',rfl⟩:=List.getElem_of_mem hp
  exact (g3 i _ (List.getElem?_eq_getElem hi')).2.2.2
 unfold eL;rw [hps]
 refine .cons (.slc (sz:=sz) (css:=ps.map (·.2)) ⟨by simp [g1],hl,?_,?_⟩ hn ?_ ?_) .nil
 ·intro c hc
  obtain ⟨p,hp,rfl⟩:=List.mem_map.1 hc
  obtain ⟨i,hi',rfl⟩:=List.getElem_of_mem hp
  exact (World.cells?_some (g3 i _ (List.getElem?_eq_getElem hi')).1).2.1
 ·intro hpos
  have hp0:0<ps.length:=by omega
  have hc0:=(World.cells?_some (g3 0 _ (List.getElem?_eq_getElem hp0)).1)
  have hread:=hc0.2.2 0 hsz
  have hspot:a.spot=none:=by
   have hlt:0<(ps[0]).2.length:=by rw [hc0.2.1];exact hsz
   rw [List.getElem?_eq_getElem hlt] at hread
   unfold World.cell? at hread
   cases hs:a.spot with
   | none=>rfl
   | some q =>
    have hsp:((a.add (0*sz)).add 0).spot.isSome=true:=by simp [Addr.add,hs]
    split at hread
    ·rw [if_pos hsp] at hread;cases hread
    cases hread
  obtain ⟨ab,ao,asp⟩:=a
  simp only at hspot;subst hspot
  refine ⟨ab,ao,rfl,fun j c hj=>?_⟩
  rw [List.getElem?_map] at hj
  cases hpj:ps[j]? with
  | none=>rw [hpj] at hj;cases hj
  | some p =>
   rw [hpj] at hj;simp only [Option.map_some,eG] at hj;subst hj
   have hcj:=World.cells?_some (g3 j p hpj).1
   refine ⟨?_,fun i u hu'=>?_⟩
   ·have h1:=hcj.2.2 0 hsz
    have hlt:0<p.2.length:=by rw [hcj.2.1];exact hsz
    rw [List.getElem?_eq_getElem hlt,iw,iw] at h1
    unfold World.cell? at h1
    split at h1
    ·rename_i heq
     have:=ox heq
     exact this
    cases h1
   have hlt:i<sz:=by have:=(List.getElem?_eq_some_iff.1 hu').1;omega
   have h1:=hcj.2.2 i hlt
   rw [iw,iw] at h1
   rw [← hu'];exact h1
 ·intro c hc
  obtain ⟨p,hp,rfl⟩:=List.mem_map.1 hc
  obtain ⟨i,hi',rfl⟩:=List.getElem_of_mem hp
  exact (g3 i _ (List.getElem?_eq_getElem hi')).2.2.1
 have:∀ (l:List (α×List Value)),(∀ p∈l,Rps (k0 W) (e p.1) p.2)→Rpss (k0 W) ((l.map (·.1)).map e) (l.map (·.2)):=fun l=>by
  induction l with
  | nil=>exact fun _=>.nil
  | cons p l ih=>exact fun h=>.cons (h p (by simp)) (ih fun q hq=>h q (by simp [hq]))
 refine this ps fun p hp=>?_
 obtain ⟨i,hi',rfl⟩:=List.getElem_of_mem hp
 exact (g3 i _ (List.getElem?_eq_getElem hi')).2.1
theorem zO {α:Type} {t E sz by':Nat} {z:Value} {e:α→List PV} {B:α→Prop} (hu:eR t=some (.slice E)) (hi:fU E=some (z,sz,by')) (h0:Nat.blt 0 sz=true) (hb0:Nat.blt 0 by'=true) (hE:Opens eh nb E e B):Opens eh nb t (eL e) (fun l=>l.length*by'≤140737488355328∧l.length≤nb∧∀ x∈l,B x):=fun W fuel cs x hx hw =>
 ya (N:=fuel) hu hi h0 hb0 (fun W' f' cs' x' _=>hE W' f' cs' x') W fuel cs x (Nat.lt_succ_self _) hx hw
end
end SX
end Go.Proofs.YtgmbmepakpcpaaaGreatDoor
set_option maxRecDepth 100000
namespace Go.Proofs.YtgmbmepakpcpaaaGreatDoor
open Go Go.ChangeShapes Go.WideShapes Go.RowKit
namespace SX
theorem own_ok:ownKnob Tryz.prog.godebug=none:=by kernel_rfl
theorem Bg:laidOutB Tryz.prog=true:=by kernel_rfl
def wO:List (String×DataW Unit):=[("unicode/utf8.acceptRanges",Rows.laid_unicode_utf8_acceptRanges),("customs/nomenclature.lengths",Rows.laid_customs_nomenclature_lengths),("unicode/utf8.first",Rows.laid_unicode_utf8_first)]
mutual
def Bh:DataW Unit→List Value
 | .lit (.int k n)=>[.int k n]
 | .agg ds=>Cj ds
 | _=>[]
def Cj:List (DataW Unit)→List Value
 | []=>[]
 | d::r=>Bh d++Cj r
end
def c_acc:Array Value:=(Bh Rows.laid_unicode_utf8_acceptRanges).toArray
def zP:Array Value:=#[.int .i64 2,.int .i64 4,.int .i64 6,.int .i64 8]
def Ck:Array Value:=(Bh Rows.laid_unicode_utf8_first).toArray
def Fx (h:Array Obj) (g:Nat) (cs:Array Value):Array Obj:=h.modify g fun | .cells _ t frozen=>.cells cs t frozen | o=>o
noncomputable def laidWorld (os:Os):World :=
 { World.holding Tryz.prog os ⟨#[],#[],[]⟩ with heap:=Fx (Fx (Fx (World.holding Tryz.prog os ⟨#[],#[],[]⟩).heap 4 c_acc) 0 zP) 3 Ck }
theorem vg:(wO.filter fun x=>x.2.handleName?.isSome)=[]:=by kernel_rfl
def Fy (w:World):MemPlace→Bool
 | .cell b off=>match w.heap[b]? with
  | some (.cells c _ (0,0))=>match c[off]? with | some (.iface _ _)=>false | _=>true
  | _=>false
 | _=>true
theorem Bi {w:World} {ps:List MemPlace} (h:ps.all (Fy w)=true):∀ b off,MemPlace.cell b off∈ps→(∃ c t,w.heap[b]?=some (.cells c t (0,0)))∧∀ u v,w.cell? ⟨b,off,none⟩=some (.iface u v)→Value.okWide Tryz.prog w .any 0 u v:=fun b off hm=>by
 have:=List.all_eq_true.1 h _ hm
 unfold Fy at this
 split at this
 ·rename_i b' off' e
  injection e with e1 e2;subst e1;subst e2
  split at this
  ·rename_i c t heq
   refine ⟨⟨c,t,heq⟩,fun u v hc=>?_⟩
   simp only [World.cell?,heq] at hc
   split at this
   ·cases this
   rename_i hno;exact absurd hc (by simpa using hno u v)
  cases this
 rename_i hno;exact absurd rfl (hno b off)
theorem wd (os:Os) (args:Array Value):laidMetH Tryz.prog wO ((laidWorld os).forCall (fun _ _=>0) ⟨#[],args,[]⟩).memory:=by
 unfold laidMetH
 rw [vg]
 refine ⟨_,⟨4,275,c_acc,8,[],_,by kernel_rfl,by kernel_rfl,by kernel_rfl,by kernel_rfl,⟨0,213,zP,8,[],_,by kernel_rfl,by kernel_rfl,by kernel_rfl,by kernel_rfl,⟨3,272,Ck,8,[],_,by kernel_rfl,by kernel_rfl,by kernel_rfl,by kernel_rfl,rfl,rfl⟩,rfl⟩,rfl⟩,?_,?_⟩
 ·exact of_decide_eq_true (by kernel_rfl)
 exact Bi (by kernel_rfl)
theorem nf {H:Type} {eh:TypeId×Value→H} {P:Program} {w:World} {base:Nat} {sp:Nat→Bool} {held:Bool} {fuel:Nat} {t:TypeId} {k:IntKind} {c:Value} {y:DataW H×List MemPlace} (ht:P.underlying t=some (.int k)) (h:DataW.trod eh P w base sp held fuel t [c]=some y):∃ n,c=.int k n∧y=(.lit (.int k n),[]):=by
 obtain ⟨n,h1,h2,_⟩:=DataW.trod_int ht h
 injection h1 with h1 _
 exact ⟨n,h1,h2⟩
theorem zQ {W:World} (h:laidMetH Tryz.prog wO W):GOK (k0 W):=by
 unfold laidMetH at h
 rw [vg] at h
 obtain ⟨ps,⟨_,_,_,_,_,_,_,_,_,_,⟨g,t,cs,fuel,p,q,hg,ht,hvar,hd,_,_⟩,_⟩,_⟩:=h
 obtain rfl:=Option.some.inj ((show Tryz.prog.globalNamed "customs/nomenclature.lengths" = some 0 by kernel_rfl).symm.trans hg)
 obtain rfl:=Option.some.inj ((show (Tryz.prog.globals[0]?).map (·.type)=some 213 by kernel_rfl).symm.trans ht)
 have hcs:cs=zP:=by
  obtain ⟨l⟩:=cs
  cases fuel with
  | zero=>simp [DataW.trod] at hd
  | succ fuel =>
   have hc1:=(rn (t:=213) rfl).1
   have hc2:=(rn (t:=3) rfl).1
   have hu1:Tryz.prog.underlying 213=some (.array 4 3):=bK rfl
   simp only [DataW.trod,hu1,hc1,hc2] at hd
   split at hd
   ·rename_i hl
    obtain ⟨c0,c1,c2,c3,rfl⟩:∃ c0 c1 c2 c3,l=[c0,c1,c2,c3]:=by
     match l,hl with
     | [a,b,c,d],_=>exact ⟨a,b,c,d,rfl⟩
    have e:List.range 4=[0,1,2,3]:=rfl
    rw [e] at hd
    simp only [Option.map_eq_some_iff,List.mapM_cons,List.mapM_nil,Option.bind_eq_bind,Option.bind_eq_some_iff,Option.pure_def,eG] at hd
    obtain ⟨xs,⟨y0,h0,_,⟨y1,h1,_,⟨y2,h2,_,⟨y3,h3,_,rfl,rfl⟩,rfl⟩,rfl⟩,rfl⟩,hx⟩:=hd
    have hui:Tryz.prog.underlying 3=some (.int .i64):=bK rfl
    obtain ⟨n0,rfl,rfl⟩:=nf hui h0
    obtain ⟨n1,rfl,rfl⟩:=nf hui h1
    obtain ⟨n2,rfl,rfl⟩:=nf hui h2
    obtain ⟨n3,rfl,rfl⟩:=nf hui h3
    simp [Rows.laid_customs_nomenclature_lengths] at hx
    obtain ⟨⟨rfl,rfl,rfl,rfl⟩,_⟩:=hx
    rfl
   cases hd
 subst hcs
 have hcell:∀ j u,zP[j]?=some u→W.cell? ⟨0,j,none⟩=some u:=fun j u hu=>by
  have:=World.var?_cell hg hvar j
  rw [this];exact hu
 refine ⟨?_,fun j u hu=>?_⟩
 ·have h0:=hcell 0 _ rfl
  unfold World.cell? at h0
  split at h0
  ·rename_i heq;exact ox heq
  cases h0
 rw [Nat.zero_add];exact hcell j u (by simpa [zP] using hu)
end SX
end Go.Proofs.YtgmbmepakpcpaaaGreatDoor
set_option maxRecDepth 100000
namespace Go.Proofs.YtgmbmepakpcpaaaGreatDoor
open Go Go.ChangeShapes Go.WideShapes Go.RowKit
namespace SX
theorem inv0 (W:World):Zp ⟨k0 W,[]⟩ [] (k0 W):=⟨.refl _ _,fun _ h=>h,(fun _ h=>by cases h),(fun _ h=>by cases h),.nil⟩
theorem Fz {W:World} {ρ:List Res} {κ:Kr} (h:Zp ⟨k0 W,[]⟩ ρ κ):Below W.heap.size W κ.w:=⟨h.le.os,h.le.tape,h.le.output,h.le.kle.size,fun k hk=>h.le.same k hk (by simp)⟩
section
variable {H:Type} {eh:TypeId×Value→H}
theorem we {W W':World} (hb:Below W.heap.size W W') {ts:List TypeId} (hr:∀ t∈ts,Tryz.prog.readableRec t=true∧t<Tryz.prog.types.size):∀ {vs:List Value} {ds:List (DataW H)} {ps:List MemPlace},DataW.TrodAll eh Tryz.prog W 0 (fun _=>true) true ts vs ds ps→(∀ p∈ps,p.block<W.heap.size)→DataW.TrodAll eh Tryz.prog W' 0 (fun b=>decide (b<W.heap.size)) true ts vs ds ps:=by
 induction ts with
 | nil=>intro vs ds ps h _;cases vs <;> cases ds <;> first | exact h | cases h
 | cons t ts ih =>
  intro vs ds ps h hlt
  cases vs with
  | nil=>cases h
  | cons v vs =>
   cases ds with
   | nil=>cases h
   | cons d ds =>
    obtain ⟨p,q,h1,h2,e⟩:=h
    have ht:=hr t (by simp)
    exact ⟨p,q,Below.trod Bg ht.1 ht.2 h1 hb (fun x hx=>hlt x (by rw [e];simp [hx])),ih (fun u hu=>hr u (by simp [hu])) h2 (fun x hx=>hlt x (by rw [e];simp [hx])),e⟩
theorem readB {ts:List TypeId} (h:(ts.all fun t=>Tryz.prog.readableRec t&&Nat.blt t Tryz.prog.types.size)=true):∀ t∈ts,Tryz.prog.readableRec t=true∧t<Tryz.prog.types.size:=fun t ht=>by
 have:=List.all_eq_true.1 h t ht
 rw [Bool.and_eq_true] at this
 exact ⟨this.1,by have h2:=this.2;exact Nat.le_of_ble_eq_true h2⟩
theorem FA {f tb:Nat} {fn:Func} {s:ChangeSpec} {W:World} {args:Array Value} {ds gs:List (DataW H)} {before:List MemPlace} {pargs:List PV}
    (hrd:∀ t∈fn.params.toList,Tryz.prog.readableRec t=true∧t<Tryz.prog.types.size) (hres:fn.resultTypes=#[tb]) (hub:Tryz.prog.underlying tb=some .bool) (hvars:s.vars=[])
    (hspec:s.fn H ds={ results:=[.lit (.bool true)],args:=ds }) (hW:DataW.Whole eh Tryz.prog fn.params.toList s.vars false W args.toList ds gs before) (hG:GOK (k0 W)) (hargs:Rps (k0 W) pargs args.toList) (hPF:PF f pargs (.v (.bool true))) :
    Calls Tryz.prog f args W fun e W'=>∃ v,e=.returned v∧s.post eh Tryz.prog fn false true false false W args v W':=by
  have hc:=(hPF (k0 W) args.toList hG hargs).2 (inv0 W)
  have e:args.toList.toArray=args:=by simp
  rw [e] at hc
  refine Calls.mono hc fun en W' ⟨v,ρ',κ',h1,h2,h3,h4,h5⟩=>⟨v,h1,?_⟩
  subst h2
  have hv:=h5.val
  subst hv
  have hb:=Fz h3
  have hW':=hW
  obtain ⟨p,q,hA,hV,rfl,hfz,hnd⟩:=hW
  rw [hvars] at hV
  obtain ⟨rfl,rfl⟩:gs=[]∧q=[]:=by
    cases gs with
    | nil=>exact ⟨rfl,hV⟩
    | cons g r=>exact absurd hV (by intro h;cases h)
  refine ⟨ds,[],_,[],p,[],hW',?_,?_,?_,hb.frame _,fun h=>by cases h⟩
  · rw [List.append_nil,hspec,hres];exact trodAll_mk1 (shut_bool hub true)
  · rw [List.append_nil,hspec];exact we hb hrd hA (DataW.TrodAll.lt hA)
  rw [hvars,List.append_nil,hspec];rfl
theorem trodAll_cons {W:World} {t:TypeId} {ts:List TypeId} {vs:List Value} {ds:List (DataW H)} {ps:List MemPlace} (h:DataW.TrodAll eh Tryz.prog W 0 (fun _=>true) true (t::ts) vs ds ps):∃ v vs' d ds' p q,vs=v::vs'∧ds=d::ds'∧DataW.Trod eh Tryz.prog W 0 (fun _=>true) true t v d p∧DataW.TrodAll eh Tryz.prog W 0 (fun _=>true) true ts vs' ds' q:=by
 cases vs with
 | nil=>cases h
 | cons v vs =>
  cases ds with
  | nil=>cases h
  | cons d ds=>obtain ⟨p,q,h1,h2,_⟩:=h;exact ⟨v,vs,d,ds,p,q,rfl,rfl,h1,h2⟩
theorem trodAll_nil {W:World} {vs:List Value} {ds:List (DataW H)} {ps:List MemPlace} (h:DataW.TrodAll eh Tryz.prog W 0 (fun _=>true) true [] vs ds ps):vs=[]∧ds=[]:=by
 cases vs <;> cases ds <;> first | exact ⟨rfl,rfl⟩ | cases h
theorem zR {l:Array TypeId} (h:(l.toList.all fun t => !Tryz.prog.wantsStandIn t)=true) {j:Nat} {t:TypeId} (ht:l[j]?=some t):Tryz.prog.wantsStandIn t=false:=by
 have:=List.all_eq_true.1 h t (by have:=Array.mem_of_getElem? ht;simpa using this)
 simpa using this
theorem light_head {t:Nat} {ts:List Nat} {d:DataW H} {ds:List (DataW H)} (h:(DataW.weightsEach Tryz.prog (t::ts) (d::ds)).all (· ≤ reachBytes)=true):Light t d∧(DataW.weightsEach Tryz.prog ts ds).all (· ≤ reachBytes)=true:=by
 simp only [DataW.weightsEach,List.all_append,Bool.and_eq_true] at h
 exact ⟨fun n hn=>by simpa using List.all_eq_true.1 h.1 n hn,h.2⟩
def vh:TypeDesc→Bool
 | .int _ | .bool | .string | .slice _=>true
 | _=>false
theorem not_agg {W:World} {r:Reach} {base t:Nat} {v:Value} {D:TypeDesc} (hu:eR t=some D) (hD:vh D=true) (h:Value.okWide Tryz.prog W r base t v):∀ cs,v.cells.toList=[cs]→v=cs:=fun cs he=>by
 cases v with
 | agg arr =>
  exfalso
  unfold Value.okWide at h
  rw [bK hu] at h
  cases D <;> first | (revert hD;simp [vh];done) | (simp only at h;unfold Cell.okWide at h;rw [bK hu] at h;simp only at h;unfold Cell.ok at h;rw [bK hu] at h;simp at h)
 | _=>simpa [Value.cells] using he
theorem ub {nb:Nat} {W:World} {r:Reach} {base t:Nat} {v:Value} {D:TypeDesc} {α:Type} {e:α→List PV} {B:α→Prop} {d:DataW H} {ps:List MemPlace} (hu:eR t=some D) (hD:vh D=true) (hO:Opens eh nb t e B) (h1:∀ m,∃ p,e m=[p]) (h:Value.okWide Tryz.prog W r base t v) (hd:DataW.Trod eh Tryz.prog W 0 (fun _=>true) true t v d ps) (hl:Light t d) (hn:Rows.uptoBulk d≤nb):∃ m,Rps (k0 W) (e m) [v]∧B m:=by
 obtain ⟨fuel,hf⟩:=hd
 obtain ⟨m,h2,_,h9⟩:=hO W fuel _ _ hf hl hn
 refine ⟨m,?_,h9⟩
 obtain ⟨p,hp⟩:=h1 m
 rw [hp] at h2
 generalize hc:v.cells.toList=cs at h2
 obtain ⟨w,ws,rfl,h3,h4⟩:=h2.cons_inv
 rw [h4.nil_inv] at hc
 rw [not_agg hu hD h w hc,hp]
 exact .cons h3 .nil
end
theorem Cl {κ:Kr} {ps:List PV} {vs:List Value} {k:Nat} {s:ByteArray} (h:Rps κ ps vs) (hk:ps[k]?=some (.v (.string s))):s.size≤140737488355328:=by
 obtain ⟨v,_,h2⟩:=h.get hk
 exact Nat.le_of_ble_eq_true h2.ok
theorem Cm {κ:Kr} {ps:List PV} {vs:List Value} {k mm:Nat} {xs:List (List PV)} (h:Rps κ ps vs) (hk:ps[k]?=some (.slc mm xs)):xs.length≤140737488355328:=by
 obtain ⟨v,_,h2⟩:=h.get hk
 cases h2 with
 | slc hs hb _ hss=>rw [hss.len,hs.len];exact hb
theorem zS {κ:Kr} {ps:List PV} {vs:List Value} {k mm:Nat} {xs:List (List PV)} {x:List PV} (h:Rps κ ps vs) (hk:ps[k]?=some (.slc mm xs)) (hx:x∈xs):∃ ds,Rps κ x ds:=by
 obtain ⟨v,_,h2⟩:=h.get hk
 cases h2 with
 | slc hs hb _ hss =>
  obtain ⟨i,hi,rfl⟩:=List.getElem_of_mem hx
  obtain ⟨ds,_,h3⟩:=hss.get (List.getElem?_eq_getElem hi)
  exact ⟨ds,h3⟩
end SX
end Go.Proofs.YtgmbmepakpcpaaaGreatDoor
namespace Go.Proofs.YtgmbmepakpcpaaaGreatDoor
namespace SX
open Go
theorem strs_of {κ:Kr} {ps:List PV} {vs:List Value} {k:Nat} {l:List ByteArray} (h:Rps κ ps vs) (hk:ps[k]?=some (pL eS l)):StrsOk l:=by
 refine ⟨by have:=Cm h hk;simpa using this,fun s hs=>?_⟩
 obtain ⟨ds,hd⟩:=zS h hk (List.mem_map_of_mem (f:=eS) hs)
 exact Cl (k:=0) hd rfl
mutual
theorem rok_of {κ:Kr}:∀ (r:Ze) (ds:List Value),Rps κ (Ze.enc r) ds→ROk r
 | ⟨k,d,e,t,m,n,l⟩,ds,h=>by
  rw [Ze.enc_eq] at h
  have hl:l.length≤140737488355328:=by have:=Cm (k:=6) h rfl;simpa using this
  exact ⟨_,strs_of (k:=2) h rfl,Cl (k:=5) h rfl,hl,Cn l (fun a ha=>zS (k:=6) h rfl (List.mem_map_of_mem (f:=Ze.enc) ha))⟩
theorem Cn {κ:Kr}:∀ (l:List Ze),(∀ a∈l,∃ ds,Rps κ (Ze.enc a) ds)→∀ a∈l,ROk a
 | [],_,_,h=>by cases h
 | b::l,h,a,ha=>by
  rcases List.mem_cons.1 ha with e | ha
  ·obtain ⟨ds,hd⟩:=h b (by simp)
   rw [e];exact rok_of b ds hd
  exact Cn l (fun a ha=>h a (by simp [ha])) a ha
end
def ii (s p:ByteArray):Bool:=decide (p.size≤s.size)&&decide (s.extract 0 p.size=p)
theorem zT (s p:ByteArray):Option.bind (gd (decide ((p.size:Int)≤(s.size:Int))) (jW s 0 (p.size:Int))) (fun s1=>some ((decide ((p.size:Int)≤(s.size:Int)))&&(decide (s1=p))))=some (ii s p):=by
 unfold ii
 by_cases h:p.size≤s.size
 ·rw [det h,show decide ((p.size:Int)≤(s.size:Int))=true from det (by omega),cj]
  unfold jW;rw [if_pos (by omega)];rfl
 rw [bD h,show decide ((p.size:Int)≤(s.size:Int))=false from bD (by omega)];rfl
theorem sE (s p:ByteArray):dq s p=some (ii s p):=by
 unfold dq fO;rw [zT];rfl
theorem zU (s p:ByteArray):j7 s p=some (ii s p):=by unfold j7;exact zT s p
def jh (l:List Zi) (code:ByteArray) (k:Nat) (x:Zi) (b:Option Nat):Option Nat :=
 cond (ii code x.Prefix&&(match b with | none=>true | some j=>decide ((l.getD j x).Prefix.size<x.Prefix.size))) (some k) b
def noE {α:Type} (e:Empty):α:=nomatch e
def rM (l:List Zi) (code:ByteArray):Option Nat:=vX (fun b=>b) noE (run (fun k x b=>(.inl (jh l code k x b):Option Nat⊕Empty)) l 0 none)
def tP:Option Nat→Int
 | none => -1
 | some j=>(j:Int)
theorem rN (b:Option Nat):decide (tP b<0)=b.isNone:=by
 cases b with
 | none=>rfl
 | some j=>exact bD (by simp only [tP];omega)
def inB (n:Nat) (b:Option Nat):Prop:=∀ j,b=some j→j<n
theorem yb {l:List Zi} {code:ByteArray} {k:Nat} {x:Zi} {b:Option Nat} (h:inB k b):inB (k+1) (jh l code k x b):=by
 intro j hj
 unfold jh at hj
 split at hj
 all_goals (cases hc:(ii code x.Prefix&&_) <;> rw [hc] at hj <;> simp only [bT,bx] at hj)
 all_goals first | (injection hj with hj;omega) | (have:=h j hj;omega) | (cases hj)
theorem FB (l:List Zi) (code:ByteArray):inB l.length (rM l code):=by
 have key:∀ (m:List Zi) (i:Nat) (b:Option Nat),inB i b→inB (i+m.length) (vX (fun b=>b) noE (run (fun k x b=>(.inl (jh l code k x b):Option Nat⊕Empty)) m i b)):=by
  intro m
  induction m with
  | nil=>intro i b h;exact h
  | cons x m ih =>
   intro i b h
   rw [i9,List.length_cons,show i+(m.length+1)=(i+1)+m.length by omega]
   exact ih _ _ (yb h)
 have:=key l 0 none (fun j h=>by cases h)
 rwa [Nat.zero_add] at this
theorem Dn (l:List Zi) (code:ByteArray) (hl:l.length≤140737488355328) {β:Type} (K:Int→Option β):Option.bind (aN (S:=Int×Int) (T:=(Int)) (fun (v3,v4)=>cond (decide (v4<(l.length:Int))) (Option.bind (Option.bind (idx l v4) (fun m11=>Option.bind (dq code m11.Prefix) (fun x13=>Option.bind (gd (x13&&(!(decide (v3<0)))) (idx l v3)) (fun m14=>cond (x13&&((decide (v3<0))||(decide ((m14.Prefix.size:Int)<(m11.Prefix.size:Int))))) (some v4) (some v3))))) (fun v9=>some (.inl (v9,(IntKind.i64.wrap (v4+1)))))) (some (.inr v3))) FUEL ((-1),0)) K=K (tP (rM l code)):=by
 have h62:l.length≤4611686018427387904:=by omega
 refine (jZ (l:=l) h62 (fun i (b:Option Nat)=>(tP b,i)) (fun k x b=>(.inl (jh l code k x b):Option Nat⊕Empty)) tP noE (fun k b=>inB k b) none (fun j h=>by cases h) (fun k hk b hb=>⟨?_,fun b' h=>by injection h with h;rw [← h];exact yb hb⟩) (fun b hb=>by simp only [cJ,bx])).trans ?_
 ·simp only [gV hk,bT,aD hk,ba,sE,bO hk h62,zu,rN]
  unfold jh
  cases hp:ii code l[k].Prefix
  ·rfl
  cases b with
  | none=>rfl
  | some j =>
   have hj:=hb j rfl
   simp only [Option.isNone_some,Bool.not_false,Bool.and_true,cj,tP,aD (show j<l.length by omega),ba,Bool.true_and,Bool.false_or,fc (show j<l.length by omega)]
   have e:decide (((l[j]'(by omega)).Prefix.size:Int)<(l[k].Prefix.size:Int))=decide ((l[j]'(by omega)).Prefix.size<l[k].Prefix.size):=decide_eq_decide.2 (by omega)
   rw [e]
   cases decide ((l[j]'(by omega)).Prefix.size<l[k].Prefix.size) <;> rfl
 unfold rM
 congr 1
 cases run (fun k x b=>(.inl (jh l code k x b):Option Nat⊕Empty)) l 0 none with
 | inl b=>rfl
 | inr e=>nomatch e
theorem FC (l:List Zi) (code:ByteArray) (hl:l.length≤140737488355328) {β:Type} (K:Int→Option β):Option.bind (aN (S:=Int×Int) (T:=(Int)) (fun (v3,v4)=>cond (decide (v4<(l.length:Int))) (Option.bind (Option.bind (idx l v4) (fun m11=>Option.bind (j7 code m11.Prefix) (fun x12=>Option.bind (gd (x12&&(!(decide (v3<0)))) (idx l v4)) (fun m13=>Option.bind (gd (x12&&(!(decide (v3<0)))) (idx l v3)) (fun m14=>cond (x12&&((decide (v3<0))||(decide ((m14.Prefix.size:Int)<(m13.Prefix.size:Int))))) (some v4) (some v3)))))) (fun v9=>some (.inl (v9,(IntKind.i64.wrap (v4+1)))))) (some (.inr v3))) FUEL ((-1),0)) K=K (tP (rM l code)):=by
 have h62:l.length≤4611686018427387904:=by omega
 refine (jZ (l:=l) h62 (fun i (b:Option Nat)=>(tP b,i)) (fun k x b=>(.inl (jh l code k x b):Option Nat⊕Empty)) tP noE (fun k b=>inB k b) none (fun j h=>by cases h) (fun k hk b hb=>⟨?_,fun b' h=>by injection h with h;rw [← h];exact yb hb⟩) (fun b hb=>by simp only [cJ,bx])).trans ?_
 ·simp only [gV hk,bT,aD hk,ba,zU,bO hk h62,zu,rN]
  unfold jh
  cases hp:ii code l[k].Prefix
  ·rfl
  cases b with
  | none=>rfl
  | some j =>
   have hj:=hb j rfl
   simp only [Option.isNone_some,Bool.not_false,Bool.and_true,cj,tP,aD (show j<l.length by omega),ba,Bool.true_and,Bool.false_or,fc (show j<l.length by omega)]
   have e:decide (((l[j]'(by omega)).Prefix.size:Int)<(l[k].Prefix.size:Int))=decide ((l[j]'(by omega)).Prefix.size<l[k].Prefix.size):=decide_eq_decide.2 (by omega)
   rw [e]
   cases decide ((l[j]'(by omega)).Prefix.size<l[k].Prefix.size) <;> rfl
 unfold rM
 congr 1
 cases run (fun k x b=>(.inl (jh l code k x b):Option Nat⊕Empty)) l 0 none with
 | inl b=>rfl
 | inr e=>nomatch e
def hX {α:Type} (z:α):Option α→α×Bool
 | some r=>(r,true)
 | none=>(z,false)
def qP:Ze:=⟨0,0,[],0,0,ByteArray.empty,[]⟩
def cM (a:Zb) (code:ByteArray):Option Ze:=(rM a.Rules code).bind fun j=>(a.Rules[j]?).map (·.Rule)
theorem oU (a:Zb) (code:ByteArray):(rM a.Rules code=none∧cM a code=none)∨∃ j,∃ h:j<a.Rules.length,rM a.Rules code=some j∧cM a code=some a.Rules[j].Rule:=by
 cases hb:rM a.Rules code with
 | none=>left;exact ⟨rfl,by unfold cM;rw [hb];rfl⟩
 | some j =>
  have hj:=FB a.Rules code j hb
  right;exact ⟨j,hj,rfl,by unfold cM;rw [hb,ba,List.getElem?_eq_getElem hj];rfl⟩
theorem oV (a:Zb) (code:ByteArray) (hl:a.Rules.length≤140737488355328):gm a code=some (hX qP (cM a code)):=by
 unfold gm
 rw [FC _ _ hl]
 rcases oU a code with ⟨h1,h2⟩ | ⟨j,hj,h1,h2⟩
 ·rw [h1,h2];rfl
 rw [h1,h2,rN];simp only [Option.isNone_some,bx,tP,aD hj,ba];rfl
theorem jJ {r:Ze} (h:dt r=true):r.Args.length≤6∧(∀ a∈r.Args,dt a=true)∧r.Except.length≤6:=by
 rw [gQ,Bool.and_eq_true] at h
 obtain ⟨h1,h2⟩:=h
 unfold kn at h1
 simp only [Bool.and_eq_true,Bool.or_eq_true] at h1
 obtain ⟨⟨⟨p1,p2⟩,p3⟩,p4⟩:=h1
 have hE:r.Except.length≤6:=by
  rcases p1 with p1 | ⟨⟨_,p1⟩,_⟩
  ·have hk:=eq_of_beq p1
   rw [hk] at h2
   simp only [jI,hk] at h2
   have h3:kL r.Except=true:=by
    cases hc:kL r.Except
    ·rw [hc] at h2;simp at h2
    rfl
   unfold kL at h3
   simp only [Bool.and_eq_true,decide_eq_true_eq] at h3
   exact h3.1
  have:=List.isEmpty_iff.1 p1;rw [this];simp
 cases h56:(r.Kind == 5||r.Kind == 6)
 ·rw [Bool.or_eq_false_iff] at h56
  rcases p4 with (p4 | p4) | p4
  ·rw [h56.1] at p4;cases p4
  ·rw [h56.2] at p4;cases p4
  have:=List.isEmpty_iff.1 p4;rw [this];exact ⟨by simp,by simp,hE⟩
 rw [h56] at h2
 simp only [bT,Bool.and_eq_true,decide_eq_true_eq,List.all_eq_true] at h2
 exact ⟨h2.1.2,fun a ha=>(h2.2 a ha).2,hE⟩
theorem clone_F (n:Nat):∀ (r:Ze),dt r=true→sD r≤n→ft n r=some r:=by
 induction n with
 | zero=>intro r _ hd;rw [km] at hd;omega
 | succ n ih =>
  intro r hr hd
  obtain ⟨h1,h2,h3⟩:=jJ hr
  show dZ (ft n) r=_
  unfold dZ bY
  rw [jv (by omega) (by omega),ba,Ba (by omega) (by omega),ba]
  refine (cA (l:=r.Args) (by omega) (fun i (a:List Ze)=>(a,i)) (fun a x=>a++[x]) (fun a=>a) (fun k a=>a.length=k) [] rfl (fun k hk a ha=>⟨?_,by simp [ha]⟩) (fun a ha=>by simp only [cJ,bx])).1.trans ?_
  ·simp only [gV hk,bT,aD hk,ba,bO hk (show r.Args.length≤4611686018427387904 by omega)]
   rw [ih _ (h2 _ (List.getElem_mem hk)) (by have:=ir (List.getElem_mem hk);omega),ba,cL (by simp;omega) (by simp;omega)];rfl
  have:∀ (m acc:List Ze),m.foldl (fun a x=>a++[x]) acc=acc++m:=by
   intro m
   induction m with
   | nil=>intro acc;simp
   | cons x m ih=>intro acc;rw [List.foldl_cons,ih];simp
  rw [this,List.nil_append];cases r;rfl
theorem Bj (r:Ze) (h:dt r=true) (hd:sD r≤1000):iC r=some r:=clone_F FUEL r h (by have hf:FUEL=1267650600228229401496703205376:=rfl;omega)
structure VA (a:Zb):Prop where
 ok:AOk a
 rules:∀ x∈a.Rules,lM x.Rule=0
 len:a.Rules.length≤12∧a.Parties.length≤12
theorem qc (a:Zb) (code:ByteArray) (ha:VA a):dr a code=some (hX qP (cM a code)):=by
 unfold dr
 rw [Dn _ _ ha.ok.len]
 rcases oU a code with ⟨h1,h2⟩ | ⟨j,hj,h1,h2⟩
 ·rw [h1,h2];rfl
 have hm:=List.getElem_mem hj
 have hr:=ha.ok.rules _ hm
 have hv:=ha.rules _ hm
 rw [h1,h2,rN]
 simp only [Option.isNone_some,Bool.not_false,cj,tP,aD hj,ba,n4 _ hr.rule hr.deep,hv,bne_self_eq_false,Bool.or_self,bx,Bj _ ((kM _).1 hv).2 hr.deep]
 rfl
theorem MA.va {i:Nat} {a:Zb} (h:MA i a):VA a:=⟨h.aok,fun x hx=>(kM _).2 ⟨by have:=(h.good x hx).size;simp only [n7] at this;omega,(h.good x hx).valid⟩,by have:=P5_len h.pre;omega,by have:=h.par.length_le;have h6:C6.length=6:=rfl;omega⟩
theorem qd {α T:Type} (p:α→Bool) (f:Nat→T):∀ (l:List α) (i:Nat),(cr (fun k x=>cond (p x) (some (f k)) none) l i=none∧l.find? p=none)∨∃ j,∃ h:j<l.length,cr (fun k x=>cond (p x) (some (f k)) none) l i=some (f (i+j))∧l.find? p=some l[j]
 | [],_=>.inl ⟨rfl,rfl⟩
 | x::xs,i=>by
  rw [cr,List.find?_cons]
  cases hp:p x
  ·rcases qd p f xs (i+1) with ⟨h1,h2⟩ | ⟨j,hj,h1,h2⟩
   ·exact .inl ⟨h1,h2⟩
   exact .inr ⟨j+1,by simpa using hj,by rw [show i+(j+1)=i+1+j by omega];exact h1,h2⟩
  exact .inr ⟨0,by simp,rfl,rfl⟩
def lI (l:List ByteArray) (s:ByteArray):Bool:=l.any fun x=>decide (x=s)
theorem FD (l:List ByteArray) (s:ByteArray):lI l s=true↔s∈l:=by
 unfold lI;simp
theorem rO (l:List ByteArray) (s:ByteArray) (hl:l.length≤140737488355328):bJ l s=some (lI l s):=by
 unfold bJ
 have e:db l s=some (match cr (fun k x=>cond (decide (x=s)) (some (Sum.inr (k:Int):Unit⊕Int)) none) l 0 with | some (.inr k)=>k | _ => -1):=by
  unfold db
  refine (bA (l:=l) (by omega) (fun k x=>cond (decide (x=s)) (some (.inr (k:Int))) none) (.inl ()) (fun k hk=>?_) (by simp only [cJ,bx])).trans ?_
  ·simp only [gV hk,bT,aD hk,ba,bO hk (show l.length≤4611686018427387904 by omega)]
   have e:decide (s=l[k])=decide (l[k]=s):=decide_eq_decide.2 eq_comm
   rw [e];cases decide (l[k]=s) <;> rfl
  cases cr (fun k x=>cond (decide (x=s)) (some (Sum.inr (k:Int):Unit⊕Int)) none) l 0 with
  | none=>rfl
  | some t=>cases t <;> rfl
 rw [e,ba]
 rcases qd (fun x=>decide (x=s)) (fun k=>(Sum.inr (k:Int):Unit⊕Int)) l 0 with ⟨h1,h2⟩ | ⟨j,hj,h1,h2⟩
 ·rw [h1]
  have:lI l s=false:=by unfold lI;rw [List.any_eq_false];exact fun x hx=>by have:=List.find?_eq_none.1 h2 x hx;simpa using this
  rw [this];rfl
 rw [h1]
 have:lI l s=true:=by
  have:=List.find?_some h2
  rw [FD];rw [← of_decide_eq_true this];exact List.getElem_mem hj
 rw [this]
 show some (decide (0≤((0+j:Nat):Int)))=_
 rw [det (by omega)]
theorem qB (l:List ByteArray) (s:ByteArray) (hl:l.length≤140737488355328):jD l s=some (lI l s):=by
 unfold jD
 refine (bA (l:=l) (by omega) (fun _ x=>cond (decide (x=s)) (some (.inr true)) none) (.inl ()) (fun k hk=>?_) (by simp only [cJ,bx])).trans ?_
 ·simp only [gV hk,bT,aD hk,ba,bO hk (show l.length≤4611686018427387904 by omega)]
  cases decide (l[k]=s) <;> rfl
 rw [qw (fun x=>decide (x=s))]
 unfold lI;cases (l.any fun x=>decide (x=s)) <;> rfl
def jK (l:List Zb) (id:Int):Option Zb:=l.find? fun a=>a.ID == id
def Do:Zb:=⟨0,0,[],[]⟩
theorem qC (l:List Zb) (id:Int) (hl:l.length≤140737488355328):fj l id=some (hX Do (jK l id)):=by
 unfold fj jK
 refine (bA (l:=l) (by omega) (fun _ x=>cond (x.ID == id) (some (.inr (x,true))) none) (.inl ()) (fun k hk=>?_) (by simp only [cJ,bx])).trans ?_
 ·simp only [gV hk,bT,aD hk,ba,bO hk (show l.length≤4611686018427387904 by omega)]
  cases (l[k].ID == id) <;> rfl
 rw [iz (fun x:Zb=>x.ID == id) (fun x=>(Sum.inr (x,true):Unit⊕(Zb×Bool)))]
 cases l.find? (fun x:Zb=>x.ID == id) <;> rfl
theorem ro (l:List Zb) (id:Int) (hl:l.length≤140737488355328):ey l id=some (hX Do (jK l id)):=by
 unfold ey jK
 have e:bB l (fun y3=>gj y3 id)=some (match cr (fun k (x:Zb)=>cond (x.ID == id) (some (Sum.inr (k:Int):Unit⊕Int)) none) l 0 with | some (.inr k)=>k | _ => -1):=by
  unfold bB gj
  refine (bA (l:=l) (by omega) (fun k x=>cond (x.ID == id) (some (.inr (k:Int))) none) (.inl ()) (fun k hk=>?_) (by simp only [cJ,bx])).trans ?_
  ·simp only [gV hk,bT,aD hk,ba,bO hk (show l.length≤4611686018427387904 by omega)]
   cases (l[k].ID == id) <;> rfl
  cases cr (fun k (x:Zb)=>cond (x.ID == id) (some (Sum.inr (k:Int):Unit⊕Int)) none) l 0 with
  | none=>rfl
  | some t=>cases t <;> rfl
 rw [e,ba]
 rcases qd (fun x:Zb=>x.ID == id) (fun k=>(Sum.inr (k:Int):Unit⊕Int)) l 0 with ⟨h1,h2⟩ | ⟨j,hj,h1,h2⟩
 ·rw [h1,h2];rfl
 rw [h1,h2]
 show cond (decide (((0+j:Nat):Int)<0)) _ (Option.bind (idx l ((0+j:Nat):Int)) _)=_
 rw [bD (by omega),Nat.zero_add,aD hj];rfl
def wf {α:Type} (R:α→α→Bool):List α→List α→Bool
 | [],_=>true
 | _::_,[]=>true
 | x::a,y::b=>R x y&&wf R a b
def kv {α:Type} (R:α→α→Bool) (a b:List α):Bool:=a.length == b.length&&wf R a b
theorem wP {α T:Type} (R:α→α→Bool) (t:T) (B:List α):∀ (a b:List α) (i:Nat),B.drop i=b→a.length=b.length→cr (fun k x=>cond (R x (B.getD k x)) none (some t)) a i=cond (wf R a b) none (some t)
 | [],b,_,_,_=>by cases b <;> rfl
 | x::a,[],_,_,h=>by simp at h
 | x::a,y::b,i,hd,h=>by
  have hi:i<B.length:=by
   rcases Nat.lt_or_ge i B.length with h | h
   ·exact h
   rw [List.drop_of_length_le h] at hd;cases hd
  rw [List.drop_eq_getElem_cons hi] at hd
  injection hd with h1 h2
  rw [cr,wf,fc hi,h1,wP R t B a b (i+1) h2 (by simpa using h)]
  cases R x y <;> rfl
theorem vi {α:Type} {R:α→α→Bool}:∀ {a b:List α},(∀ x∈a,∀ y∈b,R x y=true↔x=y)→(kv R a b=true↔a=b)
 | [],[],_=>by simp [kv,wf]
 | [],y::b,_=>by simp [kv]
 | x::a,[],_=>by simp [kv]
 | x::a,y::b,h=>by
  have ih:=vi (R:=R) (a:=a) (b:=b) fun u hu v hv=>h u (by simp [hu]) v (by simp [hv])
  have h0:=h x (by simp) y (by simp)
  unfold kv at ih ⊢
  rw [wf]
  simp only [List.length_cons,Bool.and_eq_true,beq_iff_eq,Nat.add_right_cancel_iff,List.cons.injEq] at ih ⊢
  constructor
  ·rintro ⟨h1,h2,h3⟩;exact ⟨h0.1 h2,ih.1 ⟨h1,h3⟩⟩
  rintro ⟨h1,h2⟩;exact ⟨(ih.2 h2).1,h0.2 h1,(ih.2 h2).2⟩
theorem qD {α:Type} (a b:List α):((a.length:Int) != (b.length:Int)) = !(a.length == b.length):=by
 by_cases h:a.length=b.length
 ·rw [h];simp
 have h2:¬ (a.length:Int)=(b.length:Int):=by omega
 have e1:(a.length == b.length)=false:=by simpa using h
 have e2:((a.length:Int) == (b.length:Int))=false:=by simpa using h2
 rw [e1,bne,e2]
theorem qE {α:Type} {a b:List α} (ha:a.length≤140737488355328) (R:α→α→Bool) {body:Int→Option (Int⊕(Unit⊕Bool))} {k:Unit⊕Bool→Option Bool} (hk:k (.inl ())=some true∧k (.inr false)=some false) (hab:a.length=b.length)
    (hstep:∀ (k:Nat) (hk:k<a.length) (hk2:k<b.length),body (k:Int)=some (vY k (cond (R a[k] b[k]) none (some (.inr false))))) (hend:body (a.length:Int)=some (.inr (.inl ()))):Option.bind (aN body FUEL 0) k=some (wf R a b):=by
  refine (bA (l:=a) (by omega) (fun i x=>cond (R x (b.getD i x)) none (some (.inr false))) (.inl ()) (fun i hi=>?_) hend).trans ?_
  · rw [hstep i hi (by omega),fc (show i<b.length by omega)]
  rw [wP R (Sum.inr false:Unit⊕Bool) b a b 0 rfl hab]
  cases wf R a b
  · exact hk.2
  exact hk.1
theorem qe (a b:List ByteArray) (ha:a.length≤140737488355328):j8 a b=some (decide (a=b)):=by
 have hiff:kv (fun x y=>decide (x=y)) a b=decide (a=b):=by
  have:=vi (R:=fun x y:ByteArray=>decide (x=y)) (a:=a) (b:=b) (fun x _ y _=>by simp)
  cases h:kv (fun x y=>decide (x=y)) a b
  ·rw [h] at this;exact (bD fun e=>by have:=this.2 e;cases this).symm
  exact (det (this.1 h)).symm
 rw [← hiff]
 unfold j8 kv
 rw [qD]
 cases h:(a.length == b.length)
 ·rfl
 simp only [Bool.not_true,bx,Bool.true_and]
 refine qE ha _ ⟨rfl,rfl⟩ (eq_of_beq h) (fun k hk hk2=>?_) (by simp only [cJ,bx])
 simp only [gV hk,bT,aD hk,aD hk2,ba,bO hk (show a.length≤4611686018427387904 by omega)]
 cases decide (a[k]=b[k]) <;> rfl
theorem tQ (a b:List ByteArray) (ha:a.length≤140737488355328):d9 a b=some (decide (a=b)):=by
 rw [← qe a b ha];rfl
theorem qQ (a b:List Za) (ha:a.length≤140737488355328):iR a b=some (decide (a=b)):=by
 have hiff:kv Za.eqb a b=decide (a=b):=by
  have:=vi (R:=Za.eqb) (a:=a) (b:=b) (fun x _ y _=>Za.eqb_iff)
  cases h:kv Za.eqb a b
  ·rw [h] at this;exact (bD fun e=>by have:=this.2 e;cases this).symm
  exact (det (this.1 h)).symm
 rw [← hiff]
 unfold iR kv
 rw [qD]
 cases h:(a.length == b.length)
 ·rfl
 simp only [Bool.not_true,bx,Bool.true_and]
 refine qE ha _ ⟨rfl,rfl⟩ (eq_of_beq h) (fun k hk hk2=>?_) (by simp only [cJ,bx])
 simp only [gV hk,bT,aD hk,aD hk2,ba,bO hk (show a.length≤4611686018427387904 by omega)]
 cases Za.eqb a[k] b[k] <;> rfl
mutual
def hY:Ze→Ze→Bool
 | ⟨k,d,e,t,m,n,l⟩,⟨k',d',e',t',m',n',l'⟩=>k == k'&&d == d'&&t == t'&&m == m'&&decide (n=n')&&decide (e=e')&&jo l l'
def jo:List Ze→List Ze→Bool
 | [],[]=>true
 | [],_::_=>false
 | _::_,[]=>false
 | a::l,b::m=>hY a b&&jo l m
end
mutual
theorem Bk:∀ a b:Ze,hY a b=true↔a=b
 | ⟨k,d,e,t,m,n,l⟩,⟨k',d',e',t',m',n',l'⟩=>by
  rw [hY]
  simp only [Bool.and_eq_true,beq_iff_eq,decide_eq_true_eq,tn l l',Ze.mk.injEq]
  constructor
  ·rintro ⟨⟨⟨⟨⟨⟨h1,h2⟩,h3⟩,h4⟩,h5⟩,h6⟩,h7⟩;exact ⟨h1,h2,h6,h3,h4,h5,h7⟩
  rintro ⟨h1,h2,h6,h3,h4,h5,h7⟩;exact ⟨⟨⟨⟨⟨⟨h1,h2⟩,h3⟩,h4⟩,h5⟩,h6⟩,h7⟩
theorem tn:∀ a b:List Ze,jo a b=true↔a=b
 | [],[]=>by simp [jo]
 | [],_::_=>by simp [jo]
 | _::_,[]=>by simp [jo]
 | a::l,b::m=>by rw [jo,Bool.and_eq_true,Bk a b,tn l m,List.cons.injEq]
end
theorem tp:∀ a b:List Ze,jo a b=kv hY a b
 | [],[]=>by simp [jo,kv,wf]
 | [],_::_=>by simp [jo,kv]
 | _::_,[]=>by simp [jo,kv]
 | a::l,b::m=>by
  rw [jo,tp l m]
  unfold kv
  rw [wf,List.length_cons,List.length_cons]
  have:(l.length+1 == m.length+1)=(l.length == m.length):=by
   cases h:(l.length == m.length)
   ·have:=(beq_eq_false_iff_ne).1 h;exact beq_eq_false_iff_ne.2 (by omega)
   have:=eq_of_beq h;rw [this];simp
  rw [this]
  cases hY a b <;> cases (l.length == m.length) <;> rfl
theorem vj (a b:Ze):hY a b=(a.Kind == b.Kind&&a.Digits == b.Digits&&a.Tolerance == b.Tolerance&&a.Limit == b.Limit&&decide (a.Name=b.Name)&&decide (a.Except=b.Except)&&kv hY a.Args b.Args):=by
 cases a;cases b;rw [hY,tp]
theorem Bl (n:Nat):∀ (a b:Ze),ROk a→sD a≤n→kI n a b=some (hY a b):=by
 induction n with
 | zero=>intro a b _ hd;rw [km] at hd;omega
 | succ n ih =>
  intro a b ha hd
  show kH (kI n) a b=_
  unfold kH
  rw [qe _ _ ha.ex.1,vj,qD]
  simp only [bne]
  have hl:=ha.len
  cases (a.Kind == b.Kind)
  ·rfl
  cases (a.Digits == b.Digits)
  ·rfl
  cases (a.Tolerance == b.Tolerance)
  ·rfl
  cases (a.Limit == b.Limit)
  ·rfl
  cases decide (a.Name=b.Name)
  ·rfl
  simp only [Bool.not_true,Bool.or_self,Bool.not_false,cj,ba,Bool.false_or,Bool.and_self,Bool.true_and]
  cases decide (a.Except=b.Except)
  ·rfl
  unfold kv
  cases h:(a.Args.length == b.Args.length)
  ·rfl
  simp only [Bool.not_true,Bool.or_self,bx,Bool.true_and]
  refine qE hl _ ⟨rfl,rfl⟩ (eq_of_beq h) (fun k hk hk2=>?_) (by simp only [cJ,bx])
  simp only [gV hk,bT,aD hk,aD hk2,ba,bO hk (show a.Args.length≤4611686018427387904 by omega)]
  rw [ih _ _ (ha.arg (List.getElem_mem hk)) (by have:=ir (List.getElem_mem hk);omega),ba]
  cases hY a.Args[k] b.Args[k] <;> rfl
theorem zV (n:Nat):∀ (a b:Ze),ROk a→sD a≤n→ee n a b=some (hY a b):=by
 induction n with
 | zero=>intro a b _ hd;rw [km] at hd;omega
 | succ n ih =>
  intro a b ha hd
  have hl:=ha.len
  have hA:bp a.Args b.Args (fun y4 y5=>ee n y4 y5)=some (kv hY a.Args b.Args):=by
   unfold bp kv
   rw [qD]
   cases h:(a.Args.length == b.Args.length)
   ·rfl
   simp only [Bool.not_true,bx,Bool.true_and]
   refine qE hl _ ⟨rfl,rfl⟩ (eq_of_beq h) (fun k hk hk2=>?_) (by simp only [cJ,bx])
   simp only [gV hk,bT,aD hk,aD hk2,ba,bO hk (show a.Args.length≤4611686018427387904 by omega)]
   rw [ih _ _ (ha.arg (List.getElem_mem hk)) (by have:=ir (List.getElem_mem hk);omega),ba]
   cases hY a.Args[k] b.Args[k] <;> rfl
  show ed (ee n) a b=_
  unfold ed
  rw [tQ _ _ ha.ex.1,vj,hA]
  cases (a.Kind == b.Kind&&a.Digits == b.Digits&&a.Tolerance == b.Tolerance&&a.Limit == b.Limit&&decide (a.Name=b.Name))
  ·rfl
  cases decide (a.Except=b.Except)
  ·rfl
  cases kv hY a.Args b.Args <;> rfl
def zW (x y:Zi):Bool:=decide (x.Prefix=y.Prefix)&&hY x.Rule y.Rule
theorem wg (a b:List Zi) (ha:a.length≤140737488355328) (hr:∀ x∈a,RFOk x):lC a b=some (kv zW a b):=by
 unfold lC kv
 rw [qD]
 cases h:(a.length == b.length)
 ·rfl
 simp only [Bool.not_true,bx,Bool.true_and]
 refine qE ha _ ⟨rfl,rfl⟩ (eq_of_beq h) (fun k hk hk2=>?_) (by simp only [cJ,bx])
 have hx:=hr _ (List.getElem_mem hk)
 simp only [gV hk,bT,aD hk,aD hk2,ba,bO hk (show a.length≤4611686018427387904 by omega),zW]
 cases decide (a[k].Prefix=b[k].Prefix)
 ·rfl
 have e:pH a[k].Rule b[k].Rule=some (hY a[k].Rule b[k].Rule):=Bl FUEL _ _ hx.rule (by have hf:FUEL=1267650600228229401496703205376:=rfl;have:=hx.deep;omega)
 simp only [Bool.not_true,Bool.not_false,cj,ba,e,Bool.false_or,Bool.true_and]
 cases hY a[k].Rule b[k].Rule <;> rfl
theorem vk (a b:List Zi) (ha:a.length≤140737488355328) (hr:∀ x∈a,RFOk x) (hv:∀ x∈a,lM x.Rule=0):eF a b=some (kv zW a b):=by
 unfold eF bk kv
 rw [qD]
 cases h:(a.length == b.length)
 ·rfl
 simp only [Bool.not_true,bx,Bool.true_and]
 rw [qE ha zW ⟨rfl,rfl⟩ (eq_of_beq h) (fun k hk hk2=>?_) (by simp only [cJ,bx])]
 ·rfl
 have hx:=hr _ (List.getElem_mem hk)
 have hxv:=hv _ (List.getElem_mem hk)
 simp only [gV hk,bT,aD hk,aD hk2,ba,bO hk (show a.length≤4611686018427387904 by omega),zW]
 unfold fe
 cases decide (a[k].Prefix=b[k].Prefix)
 ·rfl
 have e:iD a[k].Rule b[k].Rule=some (hY a[k].Rule b[k].Rule):=zV FUEL _ _ hx.rule (by have hf:FUEL=1267650600228229401496703205376:=rfl;have:=hx.deep;omega)
 simp only [cj,n4 _ hx.rule hx.deep,hxv,ba,beq_self_eq_true,Bool.and_self,e,Bool.true_and]
 cases hY a[k].Rule b[k].Rule <;> rfl
def Digs (l:List Int):Prop:=∀ x∈l,48≤x∧x≤57
theorem code_Y {p:Zk} (hp:SOK p) (n:Nat) (hn:n=6∨n=8):Y (gN p (n:Int)) (fun r=>(∃ l:List Int,r.1=strOfNums l∧l.length=n∧Digs l)∧SOK r.2):=by
 unfold gN
 refine (eK hp 2 (by omega) (by omega)).bind fun a ⟨a1,a2,a3⟩=>?_
 rw [cI (by omega) (by omega),xu (by omega)]
 refine Y.bind (P:=fun t:List Int×List Int×Int=>t.1.length=n∧Digs t.1∧SOK ⟨t.2.1,t.2.2⟩) ?_ fun t ⟨t1,t2,t3⟩=>?_
 ·refine Y.loop (fun s:List Int×List Int×Int=>(s.1.length % 2=0∧s.1.length≤n)∧Digs s.1∧SOK ⟨s.2.1,s.2.2⟩) (fun s=>n - s.1.length) ⟨⟨by simp,by simp;omega⟩,fun x hx=>by simp at hx;omega,a3⟩ (by dsimp only;omega) fun s hs=>?_
  obtain ⟨l,m,i⟩:=s
  obtain ⟨⟨s0,s1⟩,s2,s3⟩:=hs
  dsimp only at s0 s1 s2 s3 ⊢
  refine Y.cond (fun hc=>?_) (fun hc=>Y.ret ⟨by have:=of_decide_eq_false hc;dsimp only;omega,s2,s3⟩)
  have hc:=of_decide_eq_true hc
  refine (eK s3 3 (by omega) (by omega)).bind fun x ⟨x1,x2,x3⟩=>?_
  rw [cL (by simp;omega) (by simp;omega),ba,cI (by omega) (by omega),xu (by omega)]
  refine Y.ret ⟨⟨⟨by simp;omega,by simp;omega⟩,fun z hz=>?_,x3⟩,by simp;omega⟩
  rcases List.mem_append.1 hz with hz | hz
  ·exact s2 z hz
  simp only [List.mem_cons,List.not_mem_nil,or_false] at hz;omega
 obtain ⟨l,m,i⟩:=t
 exact Y.ret ⟨⟨l,rfl,t1,t2⟩,t3⟩
theorem FE {l:List Int} {n:Nat} (hn:n=6∨n=8) (h1:l.length=n) (h2:Digs l):dN (strOfNums l)=(n:Int)∧(strOfNums l).size=n:=by
 have hs:(strOfNums l).size=n:=by
  unfold strOfNums
  show (Array.mk _).size=n
  simp [h1]
 have hd:kK (strOfNums l)=true:=by
  unfold kK bl strOfNums
  rw [List.all_eq_true]
  intro c hc
  simp only [List.mem_map] at hc
  obtain ⟨x,hx,rfl⟩:=hc
  have:=h2 x hx
  have h3:(UInt8.ofNat x.toNat).toNat=x.toNat:=by
   rw [UInt8.toNat_ofNat'];omega
  simp only [ka,h3,decide_eq_true_eq]
  omega
 refine ⟨?_,hs⟩
 unfold dN
 rw [if_pos ⟨by omega,hd⟩,hs]
def W5:List ByteArray:=[(⟨#[97,110,100]⟩:ByteArray),(⟨#[99,117,116]⟩:ByteArray),(⟨#[111,114]⟩:ByteArray),(⟨#[115,101,119]⟩:ByteArray),(⟨#[115,112,105,110]⟩:ByteArray)]
theorem W5_ok:W5.all gX=true∧ku iT W5=true∧(W5.all fun s=>decide (s.size≤100))=true:=⟨by kernel_rfl,by kernel_rfl,by kernel_rfl⟩
theorem zX {p:Zk} (hp:SOK p):Y (eE p) (fun r=>r.1.Sublist W5∧SOK r.2):=by
 unfold eE
 refine (eK hp 32 (by omega) (by omega)).bind fun a ⟨a1,a2,a3⟩=>?_
 refine Y.bind (P:=fun l:List ByteArray=>l.Sublist W5) ?_ fun l hl=>Y.ret ⟨hl,a3⟩
 refine Y.loop (fun s=>∃ v:Nat,s.2=(v:Int)∧v≤5∧s.1.Sublist (W5.take v)) (fun s=>(5 - s.2).toNat) ⟨0,rfl,by omega,List.Sublist.refl _⟩ (by dsimp only;omega) fun s hs=>?_
 obtain ⟨l,i⟩:=s
 obtain ⟨v,rfl,h1,h2⟩:=hs
 dsimp only at h2 ⊢
 have hlen:l.length≤5:=by have:=h2.length_le;have h6:W5.length=5:=rfl;rw [List.length_take] at this;omega
 refine Y.cond (fun hc=>?_) (fun hc=>Y.ret (h2.trans (List.take_sublist _ _)))
 have hv:v<5:=by have:=of_decide_eq_true hc;omega
 have hs:=oS h2 (show v<W5.length from hv)
 refine Y.bind (P:=fun m:List ByteArray=>m.Sublist (W5.take (v+1))) (Y.eq (oT v) (Y.cond (fun _=>?_) fun _=>Y.ret hs.2)) fun m hm=>Y.ret ⟨⟨v+1,?_,by omega,hm⟩,?_⟩
 ·refine Y.idx (xs:=W5) rfl (show v<W5.length from hv) ?_
  rw [cL (by simp;omega) (by simp;omega)];exact Y.ret hs.1
 ·show IntKind.i64.wrap ((v:Int)+1)=_;rw [cI (by omega) (by omega)];omega
 show (5 - IntKind.i64.wrap ((v:Int)+1)).toNat<(5 - (v:Int)).toNat;rw [cI (by omega) (by omega)];omega
theorem codeN {x:Int} (h1:0≤x) (h2:x<2):∃ n:Nat,(n=6∨n=8)∧IntKind.i64.wrap (6+IntKind.i64.wrap (2*x))=(n:Int):=by
 rw [cI (r:=2*x) (by omega) (by omega),cI (by omega) (by omega)]
 exact ⟨(6+2*x).toNat,by omega,by omega⟩
structure MProd (n:Nat) (i:Nat) (p:Zc):Prop where
 id:p.ID=3*((i:Int)+1)
 lvl:(dN p.Code=6∨dN p.Code=8)∧6≤p.Code.size∧p.Code.size≤8
 ctr:p.Country∈C6
 price:1≤p.Price∧p.Price≤200
 proc:p.Processes.Sublist W5
 few:p.Inputs.length≤4
 asc:p.Inputs.Pairwise fun a b=>a.Product<b.Product
 inp:∀ x∈p.Inputs,(∃ k:Nat,k<n∧x.Product=3*((k:Int)+1))∧0≤x.Value∧x.Value<100
 obt:p.Obtained=true→p.Inputs=[]
structure MPs (l:List Zc):Prop where
 len:1≤l.length∧l.length≤10
 all:∀ (i:Nat) (p:Zc),l[i]?=some p→MProd l.length i p
theorem plan_Y (p0:List Int):Y (nP p0) MPs:=by
 unfold nP
 refine (cut_Y p0 300 (by omega) (by omega)).bind fun x1 hx1=>?_
 refine (eK hx1 10 (by omega) (by omega)).bind fun x3 ⟨a1,a2,a3⟩=>?_
 rw [cI (r:=1+x3.1) (by omega) (by omega)]
 obtain ⟨n,hn⟩:∃ n:Nat,1+x3.1=(n:Int):=⟨(1+x3.1).toNat,by omega⟩
 rw [hn]
 have hn1:1≤n∧n≤10:=by omega
 refine Y.bind (P:=MPs) ?_ fun l hl=>Y.ret hl
 refine Y.loop (fun s:List Zc×Int×List Int×Int=>(s.2.1=(s.1.length:Int)+1∧s.1.length≤n)∧SOK ⟨s.2.2.1,s.2.2.2⟩∧∀ i p,s.1[i]?=some p→MProd n i p) (fun s=>n - s.1.length) ⟨⟨rfl,by simp⟩,a3,by simp⟩ (by dsimp only;omega) fun s hs=>?_
 obtain ⟨l5,v8,l9,v10⟩:=s
 obtain ⟨⟨h1,h2⟩,h3,h4⟩:=hs
 dsimp only at h1 h2 h3 h4 ⊢
 refine Y.cond (fun hc=>?_) (fun hc=>Y.ret ?_)
 rotate_left
 ·have hc:=of_decide_eq_false hc
  have e:l5.length=n:=by omega
  exact ⟨by omega,by rw [e];exact h4⟩
 have hc:=of_decide_eq_true hc
 refine (eK h3 2 (by omega) (by omega)).bind fun x19 ⟨b1,b2,b3⟩=>?_
 obtain ⟨w,hw,e⟩:=codeN b1 b2
 rw [e]
 refine (code_Y b3 w hw).bind fun x20 ⟨⟨cl,hc1,hc2,hc3⟩,hx20⟩=>?_
 have hcode:=FE hw hc2 hc3
 refine Y.eq rL ?_
 refine (eK hx20 4 (by omega) (by omega)).bind fun x22 ⟨c1,c2,c3⟩=>?_
 obtain ⟨j,hj⟩:∃ j:Nat,x22.1=(j:Int):=⟨x22.1.toNat,by omega⟩
 refine Y.idx hj (show j<C6.length by have h6:C6.length=6:=rfl;omega) ?_
 refine (eK c3 200 (by omega) (by omega)).bind fun x24 ⟨d1,d2,d3⟩=>?_
 refine (zX d3).bind fun x25 ⟨hpr,hx25⟩=>?_
 refine (eK hx25 4 (by omega) (by omega)).bind fun x26 ⟨_,_,h26⟩=>?_
 refine (eK h26 1024 (by omega) (by omega)).bind fun x28 ⟨_,_,h28⟩=>?_
 refine Y.bind (P:=fun t:List Int×Int×List Zh=>SOK ⟨t.1,t.2.1⟩∧t.2.2.length≤4∧(t.2.2.Pairwise fun a b=>a.Product<b.Product)∧(∀ x∈t.2.2,(∃ k:Nat,k<n∧x.Product=3*((k:Int)+1))∧0≤x.Value∧x.Value<100)∧((x26.1 == 1)=true→t.2.2=[])) ?_ fun t ⟨t1,t2,t3,t4,t5⟩=>?_
 ·refine Y.loop (fun s:Int×List Int×Int×List Zh=>∃ v:Nat,s.1=(v:Int)+1∧v≤n∧SOK ⟨s.2.1,s.2.2.1⟩∧s.2.2.2.length≤4∧(s.2.2.2.Pairwise fun a b=>a.Product<b.Product)∧(∀ x∈s.2.2.2,(∃ k:Nat,k<v∧x.Product=3*((k:Int)+1))∧0≤x.Value∧x.Value<100)∧((x26.1 == 1)=true→s.2.2.2=[])) (fun s=>(n+1 - s.1).toNat) ⟨0,rfl,by omega,h28,by simp,List.Pairwise.nil,by simp,fun _=>rfl⟩ (by dsimp only;omega) fun s hs=>?_
  obtain ⟨i,l,k,m⟩:=s
  obtain ⟨v,rfl,s1,s2,s3,s4,s5,s6⟩:=hs
  dsimp only at s2 s3 s4 s5 s6 ⊢
  refine Y.cond (fun hc3=>?_) (fun hc3=>Y.ret ⟨s2,s3,s4,fun x hx=>?_,s6⟩)
  rotate_left
  ·obtain ⟨⟨k,h5,h6⟩,h7⟩:=s5 x hx;exact ⟨⟨k,by omega,h6⟩,h7⟩
  simp only [Bool.and_eq_true,decide_eq_true_eq,Bool.not_eq_true'] at hc3
  obtain ⟨⟨hc4,hc5⟩,hc6⟩:=hc3
  rw [cI (r:=(v:Int)+1 - 1) (by omega) (by omega),cI (r:=(v:Int)+1+1) (by omega) (by omega),cI (r:=3*((v:Int)+1)) (by omega) (by omega)]
  refine Y.bind (P:=fun t:List Int×Int×List Zh=>SOK ⟨t.1,t.2.1⟩∧t.2.2.length≤4∧(t.2.2.Pairwise fun a b=>a.Product<b.Product)∧(∀ x∈t.2.2,(∃ k:Nat,k<v+1∧x.Product=3*((k:Int)+1))∧0≤x.Value∧x.Value<100)) ?_ fun t ⟨t1,t2,t3,t4⟩=>Y.ret ⟨⟨v+1,by dsimp only;omega,by omega,t1,t2,t3,t4,fun h=>by rw [hc6] at h;cases h⟩,by dsimp only;omega⟩
  rw [show (v:Int)+1 - 1=(v:Int) by omega]
  refine Y.eq (oT v) ?_
  refine Y.bind (P:=fun r:Int×Zk=>SOK r.2) (Y.gdp (fun _=>(eK s2 3 (by omega) (by omega)).mono fun r hr=>hr.2.2) fun _=>s2) fun x56 hx56=>?_
  refine Y.cond (fun _=>?_) (fun _=>Y.ret ⟨hx56,s3,s4,fun x hx=>?_⟩)
  rotate_left
  ·obtain ⟨⟨k,h5,h6⟩,h7⟩:=s5 x hx;exact ⟨⟨k,by omega,h6⟩,h7⟩
  refine (eK hx56 100 (by omega) (by omega)).bind fun x58 ⟨e1,e2,e3⟩=>?_
  rw [cL (by simp;omega) (by simp;omega),ba]
  refine Y.ret ⟨e3,by simp;omega,?_,fun x hx=>?_⟩
  ·rw [List.pairwise_append]
   refine ⟨s4,List.pairwise_singleton _ _,fun a ha b hb=>?_⟩
   rw [List.mem_singleton.1 hb]
   obtain ⟨⟨k,h5,h6⟩,_⟩:=s5 a ha
   dsimp only;omega
  rcases List.mem_append.1 hx with hx | hx
  ·obtain ⟨⟨k,h5,h6⟩,h7⟩:=s5 x hx;exact ⟨⟨k,by omega,h6⟩,h7⟩
  rw [List.mem_singleton.1 hx];exact ⟨⟨v,by omega,rfl⟩,e1,e2⟩
 obtain ⟨l37,v38,l42⟩:=t
 dsimp only at t1 t2 t3 t4 t5 ⊢
 rw [cL (by simp;omega) (by simp;omega),ba,cI (r:=v8+1) (by omega) (by omega),cI (r:=1+x24.1) (by omega) (by omega),cI (r:=3*v8) (by omega) (by omega)]
 refine Y.ret ⟨⟨⟨by simp;omega,by simp;omega⟩,t1,fun i p hp=>?_⟩,by simp;omega⟩
 rw [List.getElem?_append] at hp
 split at hp
 ·exact h4 i p hp
 rename_i hi
 have hi0:i - l5.length=0:=by have:=(List.getElem?_eq_some_iff.1 hp).1;simp at this;omega
 rw [hi0] at hp
 simp only [List.getElem?_cons_zero,eG] at hp
 subst hp
 refine ⟨by dsimp only;omega,?_,List.getElem_mem _,⟨by dsimp only;omega,by dsimp only;omega⟩,hpr,t2,t3,t4,t5⟩
 dsimp only;rw [hc1,hcode.1,hcode.2];omega
structure Sorted (l:List Zc):Prop where
 len:l.length≤1000000
 asc:l.Pairwise fun a b=>a.ID<b.ID
 small:∀ p∈l,p.Processes.length≤1000000∧p.Inputs.length≤1000000
def cW (l:List Zc) (id:Int):Option Zc:=l.find? fun p=>p.ID == id
def FF:Zc:=⟨0,ByteArray.empty,ByteArray.empty,0,false,[],[]⟩
theorem wQ (l:List Zc) (id:Int) (hl:l.length≤140737488355328):fH l id=some (hX FF (cW l id)):=by
 unfold fH cW
 refine (bA (l:=l) (by omega) (fun _ x=>cond (x.ID == id) (some (.inr (x,true))) none) (.inl ()) (fun k hk=>?_) (by simp only [cJ,bx])).trans ?_
 ·simp only [gV hk,bT,aD hk,ba,bO hk (show l.length≤4611686018427387904 by omega)]
  cases (l[k].ID == id) <;> rfl
 rw [iz (fun x:Zc=>x.ID == id) (fun x=>(Sum.inr (x,true):Unit⊕(Zc×Bool)))]
 cases l.find? (fun x:Zc=>x.ID == id) <;> rfl
theorem half_u (x:Nat) (h:x≤10000000):IntKind.i64.wrap (cH .u64 (IntKind.u64.wrap (IntKind.i64.wrap (x:Int))) 1)=((x / 2:Nat):Int):=by
 rw [cI (r:=(x:Int)) (by omega) (by omega),u64s (by omega) (by omega)]
 have:cH .u64 (x:Int) 1=(x:Int) / 2:=Int.fdiv_eq_ediv_of_nonneg _ (by decide)
 rw [this,cI (by omega) (by omega)];omega
theorem Dp (l:List Zc) (id:Int) (h:Sorted l):∃ j:Nat,gh l id=some ((j:Int),(cW l id).isSome)∧(∀ p,cW l id=some p→∃ hj:j<l.length,l[j]=p):=by
 have hl:=h.len
 have cmp:∀ p:Zc,em p id=some (if p.ID<id then -1 else if id<p.ID then 1 else 0):=fun p=>by unfold em;rw [Fi];rfl
 unfold gh bH
 have hloop:Y (aN (S:=Int×Int) (T:=(Int×Int)) (fun (v1,v2)=>cond (decide (v1<v2)) (lb ((IntKind.i64.wrap (cH .u64 (IntKind.u64.wrap (IntKind.i64.wrap (v1+v2))) 1))) (fun w8=>Option.bind (idx l w8) (fun m9=>Option.bind (em m9 id) (fun x10=>cond (decide (x10<0)) (some (.inl ((IntKind.i64.wrap (w8+1)),v2))) (some (.inl (v1,w8))))))) (some (.inr (id,v1)))) FUEL (0,(l.length:Int))) (fun t=>t.1=id∧∃ j:Nat,t.2=(j:Int)∧j≤l.length∧(∀ (k:Nat) (p:Zc),l[k]?=some p→k<j→p.ID<id)∧(∀ (k:Nat) (p:Zc),l[k]?=some p→j≤k→id≤p.ID)):=by
  refine Y.loop (fun s:Int×Int=>∃ i j:Nat,s.1=(i:Int)∧s.2=(j:Int)∧i≤j∧j≤l.length∧(∀ (k:Nat) (p:Zc),l[k]?=some p→k<i→p.ID<id)∧(∀ (k:Nat) (p:Zc),l[k]?=some p→j≤k→id≤p.ID)) (fun s=>(s.2 - s.1).toNat) ⟨0,l.length,rfl,rfl,by omega,by omega,fun k p _ hk=>absurd hk (Nat.not_lt_zero _),fun k p hp hk=>by have:=(List.getElem?_eq_some_iff.1 hp).1;omega⟩ (by dsimp only;omega) fun s hs=>?_
  obtain ⟨a,b⟩:=s
  obtain ⟨i,j,rfl,rfl,h1,h2,h3,h4⟩:=hs
  dsimp only
  refine Y.cond (fun hc=>?_) (fun hc=>Y.ret ⟨rfl,i,rfl,by omega,h3,fun k p hp hk=>h4 k p hp (by have:=of_decide_eq_false hc;omega)⟩)
  have hc:i<j:=by have:=of_decide_eq_true hc;omega
  unfold lb
  rw [show (i:Int)+(j:Int)=((i+j:Nat):Int) by omega,half_u _ (by omega)]
  have hm:(i+j) / 2<l.length:=by omega
  have pw:=List.pairwise_iff_getElem.1 h.asc
  refine Y.idx rfl hm (Y.eq (cmp _) ?_)
  by_cases hlt:l[(i+j) / 2].ID<id
  ·rw [if_pos hlt]
   refine Y.ret ⟨⟨(i+j) / 2+1,j,?_,rfl,by omega,h2,fun k p hp hk=>?_,h4⟩,?_⟩
   ·show IntKind.i64.wrap _=_;rw [cI (by omega) (by omega)];omega
   ·obtain ⟨hk2,rfl⟩:=List.getElem?_eq_some_iff.1 hp
    rcases Nat.lt_or_ge k ((i+j) / 2) with h5 | h5
    ·have:=pw k ((i+j) / 2) hk2 hm h5;omega
    have e:k=(i+j) / 2:=by omega
    subst e;exact hlt
   show ((j:Int) - IntKind.i64.wrap _).toNat<_;rw [cI (by omega) (by omega)];omega
  rw [if_neg hlt]
  have hd:decide ((if id<l[(i+j) / 2].ID then (1:Int) else 0)<0)=false:=by split <;> rfl
  rw [hd]
  refine Y.ret ⟨⟨i,(i+j) / 2,rfl,rfl,by omega,by omega,h3,fun k p hp hk=>?_⟩,by dsimp only;omega⟩
  obtain ⟨hk2,rfl⟩:=List.getElem?_eq_some_iff.1 hp
  rcases Nat.lt_or_ge ((i+j) / 2) k with h5 | h5
  ·have:=pw ((i+j) / 2) k hm hk2 h5;omega
  have e:k=(i+j) / 2:=by omega
  subst e;omega
 obtain ⟨⟨t1,t2⟩,e,rfl,j,hj,h1,h2,h3⟩:=hloop
 dsimp only at hj
 subst hj
 rw [e]
 simp only [ba]
 by_cases hjl:j<l.length
 ·rw [det (show (j:Int)<(l.length:Int) by omega),cj,aD hjl,ba,cj,cmp,ba]
  have h4:=h3 j _ (List.getElem?_eq_getElem hjl) (Nat.le_refl _)
  rw [if_neg (by omega)]
  by_cases heq:t1<l[j].ID
  ·have hn:cW l t1=none:=by
    unfold cW;rw [List.find?_eq_none]
    intro p hp
    obtain ⟨k,hk,rfl⟩:=List.getElem_of_mem hp
    have:l[k].ID≠t1:=by
     rcases Nat.lt_or_ge k j with h5 | h5
     ·have:=h2 k _ (List.getElem?_eq_getElem hk) h5;omega
     rcases Nat.lt_or_ge j k with h6 | h6
     ·have:=List.pairwise_iff_getElem.1 h.asc j k hjl hk h6;omega
     have e:k=j:=by omega
     subst e;omega
    simpa using this
   rw [if_pos heq,hn];exact ⟨j,rfl,fun p hp=>by cases hp⟩
  ·have hid:l[j].ID=t1:=by omega
   have hs:cW l t1=some l[j]:=by
    unfold cW
    rw [List.find?_eq_some_iff_getElem]
    refine ⟨by simpa using hid,j,hjl,rfl,fun k hk=>?_⟩
    have:=h2 k _ (List.getElem?_eq_getElem (by omega)) hk
    have:l[k].ID≠t1:=by omega
    simpa using this
   rw [if_neg heq,hs];exact ⟨j,rfl,fun p hp=>by injection hp with hp;exact ⟨hjl,hp⟩⟩
 rw [bD (show ¬ (j:Int)<(l.length:Int) by omega),i7,ba,i7,ba]
 have hn:cW l t1=none:=by
  unfold cW;rw [List.find?_eq_none]
  intro p hp
  obtain ⟨k,hk,rfl⟩:=List.getElem_of_mem hp
  have:=h2 k _ (List.getElem?_eq_getElem hk) (by omega)
  have:l[k].ID≠t1:=by omega
  simpa using this
 rw [hn];exact ⟨j,rfl,fun p hp=>by cases hp⟩
theorem vl (l:List Zc) (id:Int) (h:Sorted l):cO l id=some (hX FF (cW l id)):=by
 unfold cO
 obtain ⟨j,e,hj⟩:=Dp l id h
 rw [e,ba]
 cases hf:cW l id with
 | none=>rfl
 | some p =>
  obtain ⟨hjl,rfl⟩:=hj p hf
  have hs:=h.small _ (List.getElem_mem hjl)
  simp only [Option.isSome_some,Bool.not_true,bx,aD hjl,ba]
  unfold bY ce
  rw [jv (by omega) (by omega),ba,jv (by omega) (by omega),ba];rfl
theorem MPs.sorted {l:List Zc} (h:MPs l):Sorted l:=by
 refine ⟨by have:=h.len;omega,?_,fun p hp=>?_⟩
 ·rw [List.pairwise_iff_getElem]
  intro i j hi hj hij
  have h1:=(h.all i _ (List.getElem?_eq_getElem hi)).id
  have h2:=(h.all j _ (List.getElem?_eq_getElem hj)).id
  omega
 obtain ⟨i,hi,rfl⟩:=List.getElem_of_mem hp
 have hm:=h.all i _ (List.getElem?_eq_getElem hi)
 have h1:=hm.proc.length_le;have h2:=hm.few;have h6:W5.length=5:=rfl
 omega
structure VAs (l:List Zb):Prop where
 len:l.length≤1000
 all:∀ a∈l,VA a
theorem MAs.vas {l:List Zb} (h:MAs l):VAs l:=⟨by have:=h.len;omega,fun a ha=>by obtain ⟨i,hi,rfl⟩:=List.getElem_of_mem ha;exact (h.all i _ (List.getElem?_eq_getElem hi)).va⟩
theorem mO {l:List Zb} (h:VAs l) {id:Int} {a:Zb} (ha:jK l id=some a):VA a∧a.ID=id∧a∈l:=by
 have hm:=List.mem_of_find?_eq_some ha
 exact ⟨h.all a hm,by have:=List.find?_some ha;simpa using this,hm⟩
def yc (a:Zb) (x y:ByteArray):Bool:=lI a.Parties x&&lI a.Parties y
theorem wR (a:Zb) (x y:ByteArray) (ha:VA a):du a x y=some (yc a x y):=by
 have:=ha.ok.par.1
 unfold du yc
 rw [rO _ _ this,rO _ _ this,ba]
 cases lI a.Parties x <;> rfl
def gU (p:List Zc) (l:List Zb) (i:ByteArray) (c:Za):Bool:=match cW p c.Product,jK l c.Agreement with
 | some q,some a => !decide (q.Country=i)&&yc a q.Country i&&(cM a q.Code).isSome
 | _,_=>false
theorem vm (p:List Zc) (l:List Zb) (i:ByteArray) (c:Za) (hp:Sorted p) (hl:VAs l):cg p l i c=some (gU p l i c):=by
 unfold cg gU
 have:=hl.len
 rw [vl _ _ hp,ba]
 cases cW p c.Product with
 | none=>rfl
 | some q =>
  rw [ro _ _ (by omega)]
  simp only [hX,Bool.not_true,bx,ba]
  cases ha:jK l c.Agreement with
  | none=>rfl
  | some a =>
   have hv:=(mO hl ha).1
   rw [wR _ _ _ hv,qc _ _ hv]
   by_cases hq:q.Country=i
   ·simp [hq,gd]
   cases h1:yc a q.Country i
   ·simp [hq,gd,h1]
   cases h2:cM a q.Code <;> simp [hq,gd,hX,h1,h2]
theorem yd (p:List Zc) (l:List Zb) (i:ByteArray) (c:Za) (hp:p.length≤140737488355328) (hl:VAs l):dL p l i c=some (gU p l i c):=by
 unfold dL gU
 have:=hl.len
 rw [wQ _ _ hp,ba,qC _ _ (by omega),ba]
 cases ha:jK l c.Agreement with
 | none =>
  rw [oV _ _ (by simp [hX,Do]),ba]
  cases cW p c.Product with
  | none=>rfl
  | some q=>rfl
 | some a =>
  have hv:=(mO hl ha).1
  rw [show (hX Do (some a)).1=a from rfl,oV _ _ hv.ok.len,ba,qB _ _ hv.ok.par.1,qB _ _ hv.ok.par.1]
  cases cW p c.Product with
  | none=>rfl
  | some q =>
   unfold yc
   cases hr:cM a q.Code with
   | none=>simp [hX,gd,hr]
   | some r =>
    by_cases hq:q.Country=i
    ·simp [hX,gd,hr,hq]
    cases h1:lI a.Parties q.Country
    ·simp [hX,gd,hr,hq,h1]
    cases h2:lI a.Parties i <;> simp [hX,gd,hr,hq,h1,h2]
def oW (a:Zb) (id:Int) (e i:ByteArray) (b:Zb):Bool := !(b.ID == id)&&yc b e i&&kv zW a.Rules b.Rules
def dP (l:List Zb) (id:Int) (e i:ByteArray):List Int:=match jK l id with
 | none=>[]
 | some a=>id::cond (a.Kind == 2) ((l.filter (oW a id e i)).map (·.ID)) []
theorem qf (P:Zb→Bool):∀ (l:List Zb) (acc:List Int),l.foldl (fun acc b=>cond (P b) (acc++[b.ID]) acc) acc=acc++(l.filter P).map (·.ID)
 | [],acc=>by simp
 | b::l,acc=>by
  rw [List.foldl_cons,qf P l,List.filter_cons]
  cases P b <;> simp
theorem wh (l:List Zb) (id:Int) (e i:ByteArray) (hl:VAs l):eo l id e i=some (dP l id e i):=by
 unfold eo dP
 have hlen:=hl.len
 rw [ro _ _ (by omega),ba]
 cases ha:jK l id with
 | none=>rfl
 | some a =>
  have hv:=(mO hl ha).1
  simp only [hX,Bool.not_true,bx,bne]
  cases hk:(a.Kind == 2)
  ·rfl
  simp only [Bool.not_true,bx,bT]
  refine (cA (l:=l) (by omega) (fun i (a:List Int)=>(a,i)) (fun acc b=>cond (oW a id e i b) (acc++[b.ID]) acc) (fun a=>a) (fun k acc=>acc.length≤k+1) [id] (by simp) (fun k hk acc hacc=>⟨?_,?_⟩) (fun acc _=>by simp only [cJ,bx])).1.trans ?_
  ·have hb:=hl.all _ (List.getElem_mem hk)
   simp only [gV hk,bT,aD hk,ba,bO hk (show l.length≤4611686018427387904 by omega),oW,bne]
   rw [wR _ _ _ hb,vk _ _ hv.ok.len hv.ok.rules hv.rules]
   cases (l[k].ID == id)
   ·cases yc l[k] e i
    ·rfl
    cases kv zW a.Rules l[k].Rules
    ·rfl
    simp only [Bool.not_false,cj,ba,Bool.and_self,bT]
    rw [cL (by simp;omega) (by simp;omega)];rfl
   rfl
  ·cases oW a id e i l[k] <;> simp <;> omega
  rw [qf];rfl
theorem ye (l:List Zb) (id:Int) (e i:ByteArray) (hl:VAs l):mJ l id e i=some (dP l id e i):=by
 unfold mJ dP
 have hlen:=hl.len
 rw [qC _ _ (by omega),ba]
 cases ha:jK l id with
 | none=>rfl
 | some a =>
  have hv:=(mO hl ha).1
  simp only [hX,Bool.not_true,bx]
  cases hk:(a.Kind == 2)
  ·refine (cA (l:=([]:List Zb)) (by simp) (fun i (a:List Int)=>(a,i)) (fun acc b=>acc) (fun a=>a) (fun k acc=>True) [id] trivial (fun k hk acc hacc=>by simp at hk) (fun acc _=>by simp only [Bool.and_false,bx])).1.trans ?_
   rfl
  simp only [Bool.and_true,bT]
  refine (cA (l:=l) (by omega) (fun i (a:List Int)=>(a,i)) (fun acc b=>cond (oW a id e i b) (acc++[b.ID]) acc) (fun a=>a) (fun k acc=>acc.length≤k+1) [id] (by simp) (fun k hk acc hacc=>⟨?_,?_⟩) (fun acc _=>by simp only [cJ,bx])).1.trans ?_
  ·have hb:=hl.all _ (List.getElem_mem hk)
   simp only [gV hk,bT,aD hk,ba,bO hk (show l.length≤4611686018427387904 by omega),oW,bne,yc]
   rw [qB _ _ hb.ok.par.1,qB _ _ hb.ok.par.1,wg _ _ hv.ok.len hv.ok.rules]
   cases (l[k].ID == id)
   ·cases lI l[k].Parties e
    ·rfl
    cases lI l[k].Parties i
    ·rfl
    cases kv zW a.Rules l[k].Rules
    ·rfl
    simp only [Bool.not_false,cj,ba,Bool.and_self,bT]
    rw [cL (by simp;omega) (by simp;omega)];rfl
   rfl
  ·cases oW a id e i l[k] <;> simp <;> omega
  rw [qf];rfl
def AscA (l:List Zb):Prop:=l.Pairwise fun a b=>a.ID<b.ID
theorem Dq {l:List Zb} (h:AscA l) {a:Zb} (ha:a∈l):jK l a.ID=some a:=by
 obtain ⟨i,hi,rfl⟩:=List.getElem_of_mem ha
 unfold jK
 rw [List.find?_eq_some_iff_getElem]
 refine ⟨by simp,i,hi,rfl,fun k hk=>?_⟩
 have:=List.pairwise_iff_getElem.1 h k i (by omega) hi hk
 have:l[k].ID≠l[i].ID:=by omega
 simpa using this
theorem MAs.asc {l:List Zb} (h:MAs l):AscA l:=by
 unfold AscA;rw [List.pairwise_iff_getElem]
 intro i j hi hj hij
 have h1:=(h.all i _ (List.getElem?_eq_getElem hi)).id
 have h2:=(h.all j _ (List.getElem?_eq_getElem hj)).id
 omega
theorem rP (l:List Zb) (id:Int) (e i:ByteArray):(dP l id e i).length≤l.length+1:=by
 unfold dP
 cases jK l id with
 | none=>simp
 | some a=>cases h:(a.Kind == 2) <;> simp [h];exact List.length_filter_le _ _
theorem Bm (x:Int):Y (jb x) (fun s=>s∈C6):=by
 unfold jb
 refine (zM x 8 (by omega) (by omega)).bind fun r ⟨h1,h2⟩=>?_
 obtain ⟨j,hj⟩:∃ j:Nat,r=(j:Int):=⟨r.toNat,by omega⟩
 refine Y.idx hj (show j<8 by omega) (Y.ret ?_)
 have hj8:j<8:=by omega
 match j,hj8 with
 | 0,_=>exact .tail _ (.head _)
 | 1,_=>exact .tail _ (.head _)
 | 2,_=>exact .tail _ (.head _)
 | 3,_=>exact .head _
 | 4,_=>exact .tail _ (.tail _ (.head _))
 | 5,_=>exact .tail _ (.tail _ (.tail _ (.head _)))
 | 6,_=>exact .tail _ (.tail _ (.tail _ (.tail _ (.head _))))
 | 7,_=>exact .tail _ (.tail _ (.tail _ (.tail _ (.tail _ (.head _)))))
end SX
end Go.Proofs.YtgmbmepakpcpaaaGreatDoor
set_option maxRecDepth 100000
set_option linter.unusedSectionVars false
namespace Go.Proofs.YtgmbmepakpcpaaaGreatDoor
namespace SX
open Go
section
variable {α:Type} [DecidableEq α]
def dd:List α→List α
 | []=>[]
 | [x]=>[x]
 | x::y::l=>cond (decide (x=y)) (dd (y::l)) (x::dd (y::l))
theorem yf (x y:α):∀ l:List α,dd (l++[x,y])=cond (decide (x=y)) (dd (l++[x])) (dd (l++[x])++[y])
 | []=>by
  show dd [x,y]=_
  rw [dd]
  cases h:decide (x=y)
  ·rfl
  ·have:=of_decide_eq_true h;subst this;rfl
 | [a]=>by
  have ih:=yf x y []
  simp only [List.nil_append] at ih
  simp only [List.cons_append,List.nil_append]
  rw [show dd [a,x,y]=cond (decide (a=x)) (dd [x,y]) (a::dd [x,y]) from rfl,ih,show dd [a,x]=cond (decide (a=x)) (dd [x]) (a::dd [x]) from rfl]
  cases decide (x=y) <;> cases decide (a=x) <;> rfl
 | a::b::l=>by
  show dd (a::b::(l++[x,y]))=_
  have ih:=yf x y (b::l)
  simp only [List.cons_append] at ih
  rw [dd,ih]
  show _=cond _ (dd (a::b::(l++[x]))) (dd (a::b::(l++[x]))++[y])
  rw [dd]
  cases decide (x=y) <;> cases decide (a=b) <;> rfl
theorem Bn:∀ {l:List α} {z:α},z∈dd l↔z∈l
 | [],z=>Iff.rfl
 | [x],z=>Iff.rfl
 | x::y::l,z=>by
  rw [dd]
  have ih:=Bn (l:=y::l) (z:=z)
  cases h:decide (x=y)
  ·rw [bx,List.mem_cons,ih];simp
  have:=of_decide_eq_true h;subst this
  rw [bT,ih];simp
theorem FG:∀ l:List α,(dd l).length≤l.length
 | []=>Nat.le_refl _
 | [x]=>Nat.le_refl _
 | x::y::l=>by
  rw [dd]
  have ih:=FG (y::l)
  cases decide (x=y)
  ·simp only [bx,List.length_cons] at ih ⊢;omega
  simp only [bT,List.length_cons] at ih ⊢;omega
theorem yg:∀ {l:List α},(∀ i,(h:i+1<l.length)→l[i]≠l[i+1])→dd l=l
 | [],_=>rfl
 | [x],_=>rfl
 | x::y::l,h=>by
  have h0:=h 0 (by simp)
  simp only [List.getElem_cons_zero,List.getElem_cons_succ,Nat.zero_add] at h0
  rw [dd,bD h0,bx,yg (l:=y::l) fun i hi=>by have:=h (i+1) (by simpa using hi);simpa using this]
variable {lt:α→α→Bool}
def Strict (lt:α→α→Bool) (l:List α):Prop:=l.Pairwise fun a b=>lt a b=true
theorem wT (htot:∀ x y,lt x y=false→lt y x=false→x=y) (htr:∀ x y z,lt x y=true→lt y z=true→lt x z=true):∀ {l:List α},l.Pairwise (fun a b=>lt b a=false)→Strict lt (dd l)
 | [],_=>List.Pairwise.nil
 | [x],_=>List.pairwise_singleton _ _
 | x::y::l,h=>by
  obtain ⟨h1,h2⟩:=List.pairwise_cons.1 h
  have ih:=wT htot htr h2
  rw [dd]
  cases hxy:decide (x=y)
  ·refine List.pairwise_cons.2 ⟨fun z hz=>?_,ih⟩
   have hz:=Bn.1 hz
   have hne:x≠y:=of_decide_eq_false hxy
   have hlt:lt x y=true:=by
    cases hl:lt x y
    ·exact absurd (htot x y hl (h1 y (by simp))) hne
    rfl
   rcases List.mem_cons.1 hz with rfl | hz
   ·exact hlt
   cases hyz:lt y z
   ·have:=(List.pairwise_cons.1 h2).1 z hz
    rw [← htot y z hyz this];exact hlt
   exact htr _ _ _ hlt hyz
  exact ih
theorem tq (hir:∀ x,lt x x=false) (htr:∀ x y z,lt x y=true→lt y z=true→lt x z=true):∀ {l m:List α},Strict lt l→Strict lt m→(∀ z,z∈l↔z∈m)→l=m
 | [],[],_,_,_=>rfl
 | [],y::m,_,_,h=>absurd ((h y).2 (by simp)) (by simp)
 | x::l,[],_,_,h=>absurd ((h x).1 (by simp)) (by simp)
 | x::l,y::m,h1,h2,h=>by
  obtain ⟨a1,a2⟩:=List.pairwise_cons.1 h1
  obtain ⟨b1,b2⟩:=List.pairwise_cons.1 h2
  have hxy:x=y:=by
   rcases List.mem_cons.1 ((h x).1 (by simp)) with e | hx
   ·exact e
   rcases List.mem_cons.1 ((h y).2 (by simp)) with e | hy
   ·exact e.symm
   have:=htr _ _ _ (a1 y hy) (b1 x hx);rw [hir] at this;cases this
  subst hxy
  congr 1
  refine tq hir htr a2 b2 fun z=>?_
  constructor
  ·intro hz
   rcases List.mem_cons.1 ((h z).1 (by simp [hz])) with rfl | hz2
   ·have:=a1 z hz;rw [hir] at this;cases this
   exact hz2
  intro hz
  rcases List.mem_cons.1 ((h z).2 (by simp [hz])) with rfl | hz2
  ·have:=b1 z hz;rw [hir] at this;cases this
  exact hz2
def aO (l:List α) (c:α):Bool:=l.any fun x=>decide (x=c)
theorem dB {l:List α} {c:α}:aO l c=true↔c∈l:=by unfold aO;rw [List.any_eq_true];exact ⟨fun ⟨x,h1,h2⟩=>of_decide_eq_true h2 ▸ h1,fun h=>⟨c,h,det rfl⟩⟩
theorem lv {l:List α} {c:α}:aO l c=false↔c ∉ l:=by rw [← dB];simp
def ij (lt:α→α→Bool) (l:List α) (c:α):List α:=cond (aO l c) l (l.takeWhile (fun x=>lt x c)++c::l.dropWhile (fun x=>lt x c))
theorem rQ (l:List α) (c z:α):z∈ij lt l c↔z=c∨z∈l:=by
 unfold ij
 cases h:aO l c
 ·rw [bx,List.mem_append,List.mem_cons]
  have:z∈l↔z∈l.takeWhile (fun x=>lt x c)∨z∈l.dropWhile (fun x=>lt x c):=by
   rw [← List.mem_append,List.takeWhile_append_dropWhile]
  rw [this]
  constructor
  ·rintro (h | h | h);exact .inr (.inl h);exact .inl h;exact .inr (.inr h)
  rintro (h | h | h);exact .inr (.inl h);exact .inl h;exact .inr (.inr h)
 have:=dB.1 h
 rw [bT]
 constructor
 ·exact fun h=>.inr h
 rintro (rfl | h);exact this;exact h
theorem qg (htot:∀ x y,lt x y=false→lt y x=false→x=y) (htr:∀ x y z,lt x y=true→lt y z=true→lt x z=true) {l:List α} {c:α} (h:Strict lt l):Strict lt (ij lt l c):=by
 unfold ij
 cases hc:aO l c
 ·have hc:=lv.1 hc
  rw [bx]
  have hd:∀ z∈l.dropWhile (fun x=>lt x c),lt c z=true:=by
   have key:∀ m:List α,Strict lt m→c ∉ m→∀ z∈m.dropWhile (fun x=>lt x c),lt c z=true:=by
    intro m
    induction m with
    | nil=>intro _ _ z hz;cases hz
    | cons x m ih =>
     intro hm hcm z hz
     obtain ⟨m1,m2⟩:=List.pairwise_cons.1 hm
     rw [List.dropWhile_cons] at hz
     cases hx:lt x c
     ·rw [hx] at hz
      simp only [Bool.false_eq_true,if_false] at hz
      have hcx:lt c x=true:=by
       cases h2:lt c x
       ·exact absurd (htot x c hx h2) (fun e=>hcm (by simp [e]))
       rfl
      rcases List.mem_cons.1 hz with rfl | hz
      ·exact hcx
      exact htr _ _ _ hcx (m1 z hz)
     rw [hx] at hz
     simp only [if_true] at hz
     exact ih m2 (fun h=>hcm (by simp [h])) z hz
   exact key l h hc
  have ht:∀ z∈l.takeWhile (fun x=>lt x c),lt z c=true:=by
   have key:∀ m:List α,∀ z∈m.takeWhile (fun x=>lt x c),lt z c=true:=by
    intro m
    induction m with
    | nil=>intro z hz;cases hz
    | cons x m ih =>
     intro z hz
     rw [List.takeWhile_cons] at hz
     cases hx:lt x c
     ·rw [hx] at hz;cases hz
     rw [hx] at hz
     simp only [if_true] at hz
     rcases List.mem_cons.1 hz with rfl | hz
     ·exact hx
     exact ih z hz
   exact key l
  refine List.pairwise_append.2 ⟨h.sublist (List.takeWhile_sublist _),List.pairwise_cons.2 ⟨hd,h.sublist (List.dropWhile_sublist _)⟩,fun a ha b hb=>?_⟩
  rcases List.mem_cons.1 hb with rfl | hb
  ·exact ht a ha
  exact htr _ _ _ (ht a ha) (hd b hb)
 exact h
theorem lw (l:List α) (c:α):(ij lt l c).length≤l.length+1:=by
 unfold ij
 cases aO l c
 ·rw [bx,List.length_append,List.length_cons]
  have:=congrArg List.length (List.takeWhile_append_dropWhile (p:=fun x=>lt x c) (l:=l))
  rw [List.length_append] at this;omega
 exact Nat.le_succ _
def sd (lt:α→α→Bool) (l:List α):List α:=dd (lf lt l)
theorem yh (l:List α) (z:α):z∈sd lt l↔z∈l:=by unfold sd;rw [Bn,kD.mem_iff]
theorem FH (l:List α):(sd lt l).length≤l.length:=by unfold sd;have:=FG (lf lt l);rw [nY] at this;exact this
structure Ord (lt:α→α→Bool):Prop where
 irr:∀ x,lt x x=false
 tr:∀ x y z,lt x y=true→lt y z=true→lt x z=true
 ntr:∀ x y z,lt x y=false→lt y z=false→lt x z=false
 tot:∀ x y,lt x y=false→lt y x=false→x=y
theorem sF (o:Ord lt) (l:List α):Strict lt (sd lt l):=wT o.tot o.tr (lR o.tr o.ntr o.irr l)
theorem rR (o:Ord lt):∀ (l acc:List α),Strict lt acc→Strict lt (l.foldl (ij lt) acc)∧(∀ z,z∈l.foldl (ij lt) acc↔z∈acc∨z∈l)∧(l.foldl (ij lt) acc).length≤acc.length+l.length
 | [],acc,h=>⟨h,fun z=>by simp,by simp⟩
 | c::l,acc,h=>by
  obtain ⟨h1,h2,h3⟩:=rR o l (ij lt acc c) (qg o.tot o.tr h)
  refine ⟨h1,fun z=>?_,?_⟩
  ·rw [List.foldl_cons,h2,rQ,List.mem_cons]
   constructor
   ·rintro ((h | h) | h);exact .inr (.inl h);exact .inl h;exact .inr (.inr h)
   rintro (h | h | h);exact .inl (.inr h);exact .inl (.inl h);exact .inr h
  rw [List.foldl_cons,List.length_cons];have:=lw (lt:=lt) acc c;omega
theorem tu (o:Ord lt) (l:List α):l.foldl (ij lt) []=sd lt l :=
 tq o.irr o.tr (rR o l [] List.Pairwise.nil).1 (sF o l) fun z=>by rw [(rR o l [] List.Pairwise.nil).2.1,yh];simp
end
theorem Bo:Ord iT:=⟨Ch,Ft,fun x y z h1 h2=>by
 rw [pX] at *;exact bD (List.not_lt.2 (List.le_trans (List.not_lt.1 (of_decide_eq_false h2)) (List.not_lt.1 (of_decide_eq_false h1)))),fun x y h1 h2=>by
 rw [pX] at h1 h2
 exact str_ext.2 (List.le_antisymm (List.not_lt.1 (of_decide_eq_false h2)) (List.not_lt.1 (of_decide_eq_false h1)))⟩
theorem ordC:Ord bm:=⟨tk,u9,tl,tm⟩
section
variable {α:Type} [DecidableEq α]
theorem Co {p:List α} {n:Nat} (h0:1≤n) (h:n<p.length):dd (p.take (n+1))=cond (decide (p[n-1]'(by omega)=p[n])) (dd (p.take n)) (dd (p.take n)++[p[n]]):=by
 obtain ⟨m,rfl⟩:∃ m,n=m+1:=⟨n - 1,by omega⟩
 have e1:p.take (m+1)=p.take m++[p[m]'(by omega)]:=by rw [List.take_add_one,List.getElem?_eq_getElem (by omega)];rfl
 have e3:p.take (m+1+1)=p.take (m+1)++[p[m+1]]:=by rw [List.take_add_one,List.getElem?_eq_getElem h];rfl
 have e2:p.take (m+1+1)=p.take m++[p[m]'(by omega),p[m+1]]:=by rw [e3,e1,List.append_assoc];rfl
 rw [e2,yf,e1];rfl
structure CInv (p:List α) (v:Nat) (l:List α) (k i:Nat):Prop where
 i1:1≤i
 le:v+i≤p.length
 len:l.length=p.length
 kk:k=(dd (p.take (v+i))).length
 klt:k+1≤v+i
 pre:l.take k=dd (p.take (v+i))
 suf:∀ j,v+i≤j+1→l[j]?=p[j]?
theorem CInv.step {p l:List α} {v k i:Nat} (c:CInv p v l k i) (h:v+i<p.length) (hv:1≤v):∃ x y,l[v+i]?=some x∧l[v+i - 1]?=some y∧(decide (x=y)=true→CInv p v l k (i+1))∧(decide (x=y)=false→k<l.length∧CInv p v (l.set k x) (k+1) (i+1)):=by
 have hx:=c.suf (v+i) (by omega)
 have hy:=c.suf (v+i - 1) (by omega)
 rw [List.getElem?_eq_getElem h] at hx
 rw [List.getElem?_eq_getElem (show v+i - 1<p.length by omega)] at hy
 have hd:=Co (p:=p) (n:=v+i) (by omega) h
 refine ⟨_,_,hx,hy,fun e=>?_,fun e=>?_⟩
 ·have e':decide (p[v+i - 1]'(by omega)=p[v+i])=true:=det (of_decide_eq_true e).symm
  rw [e',bT] at hd
  exact ⟨by omega,by omega,c.len,by rw [← Nat.add_assoc,hd];exact c.kk,by have:=c.klt;omega,by rw [← Nat.add_assoc,hd];exact c.pre,fun j hj=>c.suf j (by omega)⟩
 have e':decide (p[v+i - 1]'(by omega)=p[v+i])=false:=bD (fun q=>of_decide_eq_false e q.symm)
 rw [e',bx] at hd
 have hk:k<l.length:=by have:=c.klt;have:=c.len;omega
 refine ⟨hk,by omega,by omega,by rw [List.length_set];exact c.len,by rw [← Nat.add_assoc,hd,List.length_append,← c.kk];rfl,by have:=c.klt;omega,?_,fun j hj=>?_⟩
 ·rw [← Nat.add_assoc,hd,← c.pre]
  rw [List.take_add_one,List.getElem?_set]
  simp only [if_true,hk]
  rw [List.take_set_of_le (Nat.le_refl k)];rfl
 rw [List.getElem?_set,if_neg (by have:=c.klt;omega)];exact c.suf j (by omega)
theorem CInv.start {p:List α} {v:Nat} (hv:1≤v) (h:v<p.length) (he:p[v]=p[v-1]'(by omega)) (hb:∀ j,1≤j→(hj:j<v)→p[j]'(by omega)≠p[j-1]'(by omega)):CInv p v p v 1:=by
 have e1:dd (p.take v)=p.take v:=yg fun i hi=>by
  rw [List.length_take] at hi
  rw [List.getElem_take,List.getElem_take]
  have:=hb (i+1) (by omega) (by omega)
  exact fun e=>this e.symm
 have hd:=Co (p:=p) (n:=v) hv h
 rw [det he.symm,bT,e1] at hd
 exact ⟨Nat.le_refl _,by omega,rfl,by rw [hd,List.length_take];omega,by omega,by rw [hd],fun j _=>rfl⟩
end
end SX
end Go.Proofs.YtgmbmepakpcpaaaGreatDoor
