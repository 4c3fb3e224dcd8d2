/- A part of the proof: texts of the walk and of the plain laws, merged. No condition. -/
import Derived.Test.YtgmbmepakpcpaaaGreatDoorM3
set_option linter.unusedVariables false
set_option linter.unusedSimpArgs false
set_option maxHeartbeats 4000000
set_option maxRecDepth 100000
namespace Go.Proofs.YtgmbmepakpcpaaaGreatDoor
namespace SX
open Go
attribute [local irreducible] PWL PWC PWD POpL POpQ PEv PGuardIs PSub PPick PUpd PSplice PFill PLit PF PFV PCall FOk eX eH ml n4 kn mn Cov PHolds aT idx app mk gd lb nz lF Er sub ko dq oz wQ fz cD oM wT IntKind.wrap Int.tmod Int.tdiv Op.bytesLess strOfNums
def dx (p0:(List Zc)) (p1:(List Zi)):Option Int:=(aT (S:=Int) (T:=(Unit)⊕(_)) (fun v1=>cond (decide (v1<(p1.length:Int))) ((idx p1 v1).bind fun m5=>(gd (decide (0<v1)) (idx p1 (IntKind.i64.wrap (v1 - 1)))).bind fun m7=>cond ((decide (0<v1))&&(decide (m5.Product≤m7.Product))) (some (.inr (.inr (9:Int)))) ((bG p0 (fun y9=>cC y9 m5)).bind fun x10=>cond (!x10) (some (.inr (.inr (6:Int)))) (cond ((decide (m5.Value<0))||(decide (1000000000000<m5.Value))) (some (.inr (.inr (2:Int)))) (some (.inl (IntKind.i64.wrap (v1+1))))))) (some (.inr (.inl ())))) FUEL 0).bind fun q=>match q with | .inl _=>some (0:Int) | .inr e=>some e
theorem mb {p0:(List Zc)} {p1:(List Zi)} {r:Int}  (h:dx p0 p1=some r):PF 119 [pL Zc.enc p0,pL Zi.enc p1] (pI r):=by
 unfold dx at h
 refine bd ?_
 refine du Tryz.func119 rfl Tryz.ntmps119 Tryz.results119 rfl (aW [4] (by kernel_rfl) (cj (ak [(7,pL Zi.enc p1),(8,pI (p1.length:Int)),(9,pI 0)] (by kernel_rfl) (ft h fun q3 hq3 h=>?_))))
 refine ar (Y:=Unit×Unit) (fun (_,_)=>[]) (fun (_,_)=>[]) (fun (_,_)=>q3=Sum.inl ()) ?_ ?_
 ·refine av ?_
  refine aC (Y:=Unit) (S:=Int) _ hq3 (fun _ v1=>[(0,pL Zc.enc p0),(1,pL Zi.enc p1),(7,pL Zi.enc p1),(8,pI (p1.length:Int)),(9,pI v1)]) (fun _ v1=>[]) () (ns rfl) bB ?_
  rintro _ v1 o τ hb2;(try dsimp only at hb2);dsimp only [az]
  refine ae (ak [(10,pB (decide (v1<(p1.length:Int))))] (by kernel_rfl) (bZ (kq rfl hb2 (fun hc4 hb2=>?_) fun hc4 hb2=>?_)))
  ·refine ah ?_
   refine dJ (aa hb2 fun m5 hm5 hb2=>af (aU 3 [] [12] [(11,pI v1),(13,.agg [pI m5.Product,pI m5.Value])] (cL 1 Zi.enc hm5 bj) (by kernel_rfl) (ap rfl (aL (cs:=[pI 0,pI 0]) rfl rfl rfl rfl (fun b6=>aD 1 [(5,pI v1)] (by kernel_rfl) (aP rfl rfl (am (vs:=[pI m5.Product,pI m5.Value]) rfl rfl rfl rfl rfl ce sQ (aF (cj (bi (ρd:=[]) [(0,0),(1,0),(2,0),(3,0),(4,0),(5,0),(6,0),(7,0),(8,0),(9,0),(10,0),(11,0),(12,0)] _ (List.Perm.refl _) (by kernel_rfl) rfl (aa hb2 fun m7 hm7 hb2=>bt 13 [0] (rg 14 12) [(26,pB ((decide (0<v1))&&(decide (m5.Product≤m7.Product))))] (eK 8 Zi.enc (cF hm7) bj) (by kernel_rfl) (bA (cR rfl hb2 (fun hc8 hb2=>?_) fun hc8 hb2=>?_)))))))))))))
   ·refine ae ?_
    refine dg [(4,pI 9)] (by kernel_rfl) (al (dH ?_))
    refine au hb2 (fun ht=>?_);subst ht
    refine cP ?_
    exact zz r h rfl
   refine ah ?_
   refine cj (af (aD 1 [(27,pL Zc.enc p0)] (by kernel_rfl) ?_))
   refine yy 6 rfl (by exact aO) ?_
   refine aa hb2 fun x10 hx10 hb2=>jN [] [28,29] [(30,pB (!x10))] (bg 1 (gF (fun hr=>sZ (ln hr)) hx10) bj) (by kernel_rfl) (cR rfl hb2 (fun hc11 hb2=>?_) fun hc11 hb2=>?_)
   ·refine ae ?_
    refine dg [(4,pI 6)] (by kernel_rfl) (al (dH ?_))
    refine au hb2 (fun ht=>?_);subst ht
    refine cP ?_
    exact zz r h rfl
   refine ah ?_
   refine bZ (bF (rg 31 7) [(38,pB ((decide (m5.Value<0))||(decide (1000000000000<m5.Value))))] (by kernel_rfl) rfl hb2 (fun hc12 hb2=>?_) fun hc12 hb2=>?_)
   ·refine ae ?_
    refine dg [(4,pI 2)] (by kernel_rfl) (dH ?_)
    refine au hb2 (fun ht=>?_);subst ht
    refine cP ?_
    exact zz r h rfl
   refine ah ?_
   refine dI (ai [39] [(9,pI (IntKind.i64.wrap (v1+1)))] (by kernel_rfl) ?_)
   exact aS hb2 () (ns rfl) bB
  refine aH ?_
  refine cq hb2 (fun ht=>aj rfl ?_)
  exact aw ((),()) pz bB ht.symm
 rintro ⟨_,_⟩ τ hz;(try dsimp only at hz);subst q3;(try dsimp only at h);dsimp only [az]
 refine ae (dg [(4,pI 0)] (by kernel_rfl) ?_)
 exact zz r h rfl
def dy (p0:Za) (p1:Za):Option Int:=(dQ p0.Product p1.Product).bind fun x3=>(dQ p0.Agreement p1.Agreement).bind fun x4=>(kZ [x3,x4]).bind fun x6=>some x6
theorem mg {p0:Za} {p1:Za} {r:Int}  (h:dy p0 p1=some r):PF 81 [.agg [pI p0.Product,pI p0.Agreement],.agg [pI p1.Product,pI p1.Agreement]] (pI r):=by
 unfold dy at h
 refine bd ?_
 refine du Tryz.func81 rfl Tryz.ntmps81 Tryz.results81 rfl (da rfl (bf (cs:=[pI p0.Product,pI p0.Agreement]) rfl rfl (fun b1=>ap rfl (bf (cs:=[pI p1.Product,pI p1.Agreement]) rfl rfl (fun b2=>ba [4] (by kernel_rfl) (bZ (bi (ρd:=[]) [(0,0),(1,0),(2,0),(3,0),(5,0),(6,0),(7,0),(8,0),(4,1),(9,1),(10,1),(11,1),(12,0)] _ (List.Perm.refl _) (by kernel_rfl) rfl (aa h fun x3 hx3 h=>aa h fun x4 hx4 h=>bt 10 [1,0,1,0] [5,6,7,8,10,11,12,13] [(9,pI x3),(14,pI x4)] (bg 8 (fP hx3) (bg 9 (fP hx4) bj)) (by kernel_rfl) ?_))))))))
 refine iT rfl rfl rfl (pl_fz (bN rfl rfl rfl rfl rfl (ij rfl (ij rfl kf)) rfl rfl rfl rfl (fun b5=>⟨_,_,_,_,_,_,_,rfl,by (repeat (first | exact aO | apply aB)),?_⟩)))
 refine aa h fun x6 hx6 h=>bt 2 [] [16] [(4,pI x6)] (bg 0 (rl hx6) bj) (by kernel_rfl) (bA (cX ?_))
 exact zz r h rfl
def dL (p0:Zr) (p1:Za):Option Bool:=some ((kr p0.claims p1).getD false)
theorem jE {p0:Zr} {p1:Za} {m0_claims:Nat} {r:Bool}  (h:dL p0 p1=some r):PCall 121 [.agg [.v (.map (some m0_claims))],.agg [pI p1.Product,pI p1.Agreement]] [PRes.mp (some m0_claims) (gi Za.key vT p0.claims)] (fun pv ρ'=>pv=pB r∧ρ'=[PRes.mp (some m0_claims) (gi Za.key vT p0.claims)]):=by
 unfold dL at h
 refine du Tryz.func121 rfl Tryz.ntmps121 Tryz.results121 rfl (da rfl (bf (cs:=[.v (.map (some m0_claims))]) rfl rfl (fun b1=>ap rfl (bf (cs:=[pI p1.Product,pI p1.Agreement]) rfl rfl (fun b2=>ba [4] (by kernel_rfl) (bZ (af (cO 3 [1,0] [5] [(6,.v (.map (some m0_claims))),(7,.agg [pI p1.Product,pI p1.Agreement])] (by kernel_rfl) (bX rfl rfl rfl (show POpQ _ _ _ _ (pB ((kr p0.claims p1).getD false)) from xD (xs:=p0.claims) (k:=p1) (ek:=Za.key) (vv:=vT) (z0:=false) rfl rfl rfl (fun _=>.v rfl) Za.kenc28 (.p rfl) (.p rfl) yL (Aj um)) (aN [(4,pB ((kr p0.claims p1).getD false))] (by kernel_rfl) (cX ?_)))))))))))
 obtain rfl:=osi h
 exact aM (dp (aK rfl)) (be (aB (aB aO)) bB) ⟨rfl,rfl⟩
def bW (p0:(List Za)) (p1:(List Za)):Option Bool:=cond ((p0.length:Int) != (p1.length:Int)) (some false) ((aT (S:=Int) (T:=(Unit)⊕(_)) (fun v2=>cond (decide (v2<(p0.length:Int))) ((idx p0 v2).bind fun m6=>(idx p1 v2).bind fun m7=>cond (!(Za.eqb m6 m7)) (some (.inr (.inr false))) (some (.inl (IntKind.i64.wrap (v2+1))))) (some (.inr (.inl ())))) FUEL 0).bind fun q=>match q with | .inl _=>some true | .inr e=>some e)
theorem gA {p0:(List Za)} {p1:(List Za)} {r:Bool}  (h:bW p0 p1=some r):PF 122 [pL Za.enc p0,pL Za.enc p1] (pB r):=by
 unfold bW at h
 refine bd ?_
 refine du Tryz.func122 rfl Tryz.ntmps122 Tryz.results122 rfl (aW [4] (by kernel_rfl) (cj (bF [6,7,8,9] [(10,pB ((p0.length:Int) != (p1.length:Int)))] (by kernel_rfl) rfl h (fun hc1 h=>?_) fun hc1 h=>?_)))
 ·refine ae ?_
  refine dg [(4,pB false)] (by kernel_rfl) (al ?_)
  exact zz r h rfl
 refine ah ?_
 refine cj (ai [11] [(12,pI (p0.length:Int)),(13,pI 0)] (by kernel_rfl) (ft h fun q4 hq4 h=>?_))
 refine ar (Y:=Unit×Unit) (fun (_,_)=>[]) (fun (_,_)=>[]) (fun (_,_)=>q4=Sum.inl ()) ?_ ?_
 ·refine av ?_
  refine aC (Y:=Unit) (S:=Int) _ hq4 (fun _ v2=>[(0,pL Za.enc p0),(1,pL Za.enc p1),(12,pI (p0.length:Int)),(13,pI v2)]) (fun _ v2=>[]) () (iR rfl) bB ?_
  rintro _ v2 o τ hb3;(try dsimp only at hb3);dsimp only [az]
  refine ae (ak [(14,pB (decide (v2<(p0.length:Int))))] (by kernel_rfl) (bZ (kq rfl hb3 (fun hc5 hb3=>?_) fun hc5 hb3=>?_)))
  ·refine ah ?_
   refine dJ (ai [15] [(5,pI v2)] (by kernel_rfl) (bZ (bi (ρd:=[]) [(0,0),(1,0),(2,0),(3,0),(4,0),(5,0),(6,0),(7,0),(8,0)] _ (List.Perm.refl _) (by kernel_rfl) rfl (aa hb3 fun m6 hm6 hb3=>aa hb3 fun m7 hm7 hb3=>bt 9 [] (rg 16 8) [(24,pB (!(Za.eqb m6 m7)))] (cL 2 Za.enc hm6 (cL 6 Za.enc hm7 (DF 8 Za.eqok28 bj))) (by kernel_rfl) (bA (cR rfl hb3 (fun hc8 hb3=>?_) fun hc8 hb3=>?_))))))
   ·refine ae ?_
    refine dg [(4,pB false)] (by kernel_rfl) (dH ?_)
    refine au hb3 (fun ht=>?_);subst ht
    refine cP ?_
    exact zz r h rfl
   refine ah ?_
   refine dI (ai [25] [(13,pI (IntKind.i64.wrap (v2+1)))] (by kernel_rfl) ?_)
   exact aS hb3 () (iR rfl) bB
  refine aH ?_
  refine cq hb3 (fun ht=>aj rfl ?_)
  exact aw ((),()) pz bB ht.symm
 rintro ⟨_,_⟩ τ hz;(try dsimp only at hz);subst q4;(try dsimp only at h);dsimp only [az]
 refine ae (dg [(4,pB true)] (by kernel_rfl) ?_)
 exact zz r h rfl
def jF (rec:Zd→Option Zg) (p0:Zd):Option Zg:=(aT (S:=(List Zg)×Int) (T:=((List Zg))) (fun (l3,v6)=>cond (decide (v6<(p0.Args.length:Int))) ((idx p0.Args v6).bind fun m15=>(rec m15).bind fun x17=>(app 16 l3 [x17]).bind fun l20=>some (.inl (l20,(IntKind.i64.wrap (v6+1))))) (some (.inr l3))) FUEL (([]:List Zg),0)).bind fun l10=>cond (p0.Kind == 5) (some (Zg.every_ l10)) (cond (p0.Kind == 6) (some (Zg.some_ l10)) (some (Zg.single_ (⟨p0⟩:Zu))))
theorem tq {rec:Zd→Option Zg} (hrec:∀ {p0:Zd} {r:Zg},rec p0=some r→PF 127 [.agg (an p0)] (Zg.pv r)) {p0:Zd} {r:Zg} (h:jF rec p0=some r):PF 127 [.agg (an p0)] (Zg.pv r):=by
 unfold jF at h
 refine bd ?_
 refine du Tryz.func127 rfl Tryz.ntmps127 Tryz.results127 rfl (da rfl (bf (cs:=(an p0)) rfl rfl (fun b1=>ba [2] (by kernel_rfl) (bZ (ak [(3,pN)] (by kernel_rfl) (cj (aJ [0] [6] [(7,pL Zd.enc p0.Args),(8,pI (p0.Args.length:Int)),(9,pI 0)] (by kernel_rfl) (aX (di 181 1 (aa h fun q12 hq12 h=>?_))))))))))
 refine ar (Y:=(Option Addr×Nat)×((List Zg))) (fun ((a8,c9),l10)=>[(1,pP b1 0),(3,pO a8 l10.length c9)]) (fun ((a8,c9),l10)=>[PRes.b b1 84 (an p0),PRes.row a8 l10.length c9 181 1 (List.map Zg.enc l10)]) (fun ((a8,c9),l10)=>q12=l10) ?_ ?_
 ·refine av ?_
  refine aC (Y:=Option Addr×Nat) (S:=(List Zg)×Int) _ hq12 (fun (a4,c5) (l3,v6)=>[(1,pP b1 0),(3,pO a4 l3.length c5),(7,pL Zd.enc p0.Args),(8,pI (p0.Args.length:Int)),(9,pI v6)]) (fun (a4,c5) (l3,v6)=>[PRes.b b1 84 (an p0),PRes.row a4 l3.length c5 181 1 (List.map Zg.enc l3)]) (none,0) (ns rfl) (be (aB aO) cK) ?_
  rintro ⟨a4,c5⟩ ⟨l3,v6⟩ o τ hb11;(try dsimp only at hb11);dsimp only [az]
  refine ae (ak [(10,pB (decide (v6<(p0.Args.length:Int))))] (by kernel_rfl) (bZ (kq rfl hb11 (fun hc14 hb11=>?_) fun hc14 hb11=>?_)))
  ·refine ah ?_
   refine dJ (aa hb11 fun m15 hm15 hb11=>af (aU 2 [] [11] [(12,.agg (an m15))] (ny 0 Zd.enc (Zd.enc_eq _) hm15 bj) (by kernel_rfl) (ap rfl (aL (cs:=[pI 0,pI 0,pN,pI 0,pI 0,pS ByteArray.empty,pN]) rfl rfl rfl rfl (fun b16=>aP rfl rfl (am (vs:=(an m15)) rfl rfl rfl rfl rfl ce mX (aF (ft hb11 fun x17 hx17 hb11=>af (aU 3 [0] [14] [(13,pO a4 l3.length c5),(15,Zg.pv x17)] (bg 2 (hrec hx17) bj) (by kernel_rfl) (ap rfl (bN rfl rfl rfl rfl rfl (ij rfl kf) rfl rfl rfl rfl (fun b18=>aa hb11 fun l20 hl20 hb11=>?_))))))))))))
   refine ap rfl (cr (enc:=Zg.enc) rfl rfl rfl rfl rfl rfl rfl rfl rfl gb (by exact aB (aB (aB aO))) hl20 (fun a21 c22=>?_))
   refine aN [(3,pO a21 l20.length c22)] (by kernel_rfl) (dI (ai [18] [(9,pI (IntKind.i64.wrap (v6+1)))] (by kernel_rfl) ?_))
   exact aS hb11 (a21,c22) (ns rfl) (be (aB (aB (aB aO))) cK)
  refine aH ?_
  refine cq hb11 (fun ht=>aj rfl ?_)
  exact aw ((a4,c5),l3) (mq rfl) n8 ht.symm
 rintro ⟨⟨a8,c9⟩,l10⟩ τ hz;(try dsimp only at hz);subst q12;(try dsimp only at h);dsimp only [az]
 refine cT (aJ [0] [19] [(20,pI p0.Kind)] (by kernel_rfl) (aX (qU (bF [22] [(21,pB (p0.Kind == 5))] (by kernel_rfl) rfl h (fun hc24 h=>?_) fun hc24 h=>?_))))
 ·refine ae ?_
  refine af (aD 1 [(23,pO a8 l10.length c9)] (by kernel_rfl) ?_)
  refine ip (enc:=Zg.enc) (xs:=l10) 23 rfl (by exact aB aO) ?_
  refine aD 1 [(24,.ifc 223 (pL Zg.enc l10))] (by kernel_rfl) (xG 24 rfl (Zg.pv_every_ l10) (aN [(2,Zg.pv (Zg.every_ l10))] (by kernel_rfl) (cX (dH ?_))))
  exact zz r h rfl
 refine ae ?_
 refine bF [26] [(25,pB (p0.Kind == 6))] (by kernel_rfl) rfl h (fun hc25 h=>?_) fun hc25 h=>?_
 ·refine ae ?_
  refine af (aD 1 [(27,pO a8 l10.length c9)] (by kernel_rfl) ?_)
  refine ip (enc:=Zg.enc) (xs:=l10) 27 rfl (by exact aB aO) ?_
  refine aD 1 [(28,.ifc 224 (pL Zg.enc l10))] (by kernel_rfl) (xG 28 rfl (Zg.pv_some_ l10) (aN [(2,Zg.pv (Zg.some_ l10))] (by kernel_rfl) (cX (dH ?_))))
  exact zz r h rfl
 refine ah ?_
 refine aG (bZ (aJ [0] [29,30,31] [(2,Zg.pv (Zg.single_ (⟨p0⟩:Zu)))] (by kernel_rfl) (cX ?_)))
 exact zz r h rfl
def iK (n:Nat):Zd→Option Zg:=Nat.rec (motive:=fun _=>Zd→Option Zg) (fun _=>none) (fun _ ih=>jF ih) n
def qn (p0:Zd):Option Zg:=iK FUEL p0
theorem ux (n:Nat):∀ {p0:Zd} {r:Zg},iK n p0=some r→PF 127 [.agg (an p0)] (Zg.pv r):=by
 induction n with
 | zero=>intros;rename_i h;exact nomatch h
 | succ n ih=>intros;rename_i h;exact tq (fun hr=>ih hr) h
theorem vU {p0:Zd} {r:Zg} (h:qn p0=some r):PF 127 [.agg (an p0)] (Zg.pv r):=ux FUEL h
def fy (rec:Zg→Zl→(List Int)→Option ((List Int)×Bool)) (p0:(List Zg)) (p1:Zl) (p2:(List Int)):Option ((List Int)×Bool):=(aT (S:=(List Int)×Int) (T:=((List Int))⊕(_)) (fun (l2,v3)=>cond (decide (v3<(p0.length:Int))) ((idx p0 v3).bind fun m8=>(rec m8 p1 l2).bind fun x9=>cond (!x9.2) (some (.inr (.inr ([],false)))) (some (.inl (x9.1,(IntKind.i64.wrap (v3+1)))))) (some (.inr (.inl l2)))) FUEL (p2,0)).bind fun q=>match q with | .inl l4=>some (l4,true) | .inr e=>some e
theorem oT {rec:Zg→Zl→(List Int)→Option ((List Int)×Bool)} (hrec:∀ {x:Zg} {y0:Zl} {y1:(List Int)} {w:((List Int)×Bool)},rec x y0 y1=some w→PFI x.pv "customs/rule.follow" [.agg (bk y0),pL eI y1] (.tup [pL eI w.1,pB w.2])) {p0:(List Zg)} {p1:Zl} {p2:(List Int)} {r:((List Int)×Bool)} (h:fy rec p0 p1 p2=some r):PF 242 [pL Zg.enc p0,.agg (bk p1),pL eI p2] (.tup [pL eI r.1,pB r.2]):=by
 unfold fy at h
 refine bd ?_
 refine du Tryz.func242 rfl Tryz.ntmps242 Tryz.results242 rfl (da rfl (bf (cs:=(bk p1)) rfl rfl (fun b1=>ba [6,7] (by kernel_rfl) (cj (ak [(12,pL Zg.enc p0),(13,pI (p0.length:Int)),(14,pI 0)] (by kernel_rfl) (ft h fun q6 hq6 h=>?_))))))
 refine ar (Y:=Unit×((List Int))) (fun (_,l4)=>[(2,pL eI l4)]) (fun (_,l4)=>[]) (fun (_,l4)=>q6=Sum.inl l4) ?_ ?_
 ·refine av ?_
  refine aC (Y:=Unit) (S:=(List Int)×Int) _ hq6 (fun _ (l2,v3)=>[(2,pL eI l2),(4,pP b1 0),(12,pL Zg.enc p0),(13,pI (p0.length:Int)),(14,pI v3)]) (fun _ (l2,v3)=>[PRes.b b1 36 (bk p1)]) () (ns rfl) cK ?_
  rintro _ ⟨l2,v3⟩ o τ hb5;(try dsimp only at hb5);dsimp only [az]
  refine ae (ak [(15,pB (decide (v3<(p0.length:Int))))] (by kernel_rfl) (bZ (kq rfl hb5 (fun hc7 hb5=>?_) fun hc7 hb5=>?_)))
  ·refine ah ?_
   refine dJ (aa hb5 fun m8 hm8 hb5=>aq [] [16,17] [(9,Zg.pv m8)] (cL 0 Zg.enc hm8 bj) (by kernel_rfl) (de hb5 fun x9 hx9 hb5=>aq [0] [19,20,21,22,18,23,24] [(10,pL eI x9.1),(11,pB x9.2)] (foci 3 (hrec hx9) bj) (by kernel_rfl) (cj (bF [25] [(26,pB (!x9.2))] (by kernel_rfl) rfl hb5 (fun hc10 hb5=>?_) fun hc10 hb5=>?_))))
   ·refine ae ?_
    refine ak [(6,pN),(7,pB false)] (by kernel_rfl) (aX (hZ 6 rfl (bR (al (dH ?_)))))
    refine au hb5 (fun ht=>?_);subst ht
    refine cP ?_
    obtain rfl:=osi h
    exact aM (cd (aK rfl) (aK rfl)) bB ⟨rfl,rfl⟩
   refine ah ?_
   refine aX (ai [27] [(2,pL eI x9.1)] (by kernel_rfl) (dI (ai [28] [(14,pI (IntKind.i64.wrap (v3+1)))] (by kernel_rfl) ?_)))
   exact aS hb5 () (ns rfl) cK
  refine aH ?_
  refine cq hb5 (fun ht=>aj rfl ?_)
  exact aw ((),l2) (rD rfl) bB ht.symm
 rintro ⟨_,l4⟩ τ hz;(try dsimp only at hz);subst q6;(try dsimp only at h);dsimp only [az]
 refine ae (ai [29] [(6,pL eI l4),(7,pB true)] (by kernel_rfl) (cX ?_))
 obtain rfl:=osi h
 exact aM (cd (aK rfl) (aK rfl)) bB ⟨rfl,rfl⟩
def fT (rec:Zg→Zl→(List Int)→Option ((List Int)×Bool)) (p0:(List Zg)) (p1:Zl) (p2:(List Int)):Option ((List Int)×Bool):=(gd (!((p2.length:Int) == 0)) (idx p2 0)).bind fun m2=>(gd (!(((p2.length:Int) == 0)||(decide (m2<0)))) (idx p2 0)).bind fun m3=>cond ((((p2.length:Int) == 0)||(decide (m2<0)))||(decide ((p0.length:Int)≤m3))) (some ([],false)) ((idx p2 0).bind fun m5=>(idx p0 m5).bind fun m6=>(sub p2 1 (p2.length:Int)).bind fun l7=>(rec m6 p1 l7).bind fun x8=>some (x8.1,x8.2))
theorem pM {rec:Zg→Zl→(List Int)→Option ((List Int)×Bool)} (hrec:∀ {x:Zg} {y0:Zl} {y1:(List Int)} {w:((List Int)×Bool)},rec x y0 y1=some w→PFI x.pv "customs/rule.follow" [.agg (bk y0),pL eI y1] (.tup [pL eI w.1,pB w.2])) {p0:(List Zg)} {p1:Zl} {p2:(List Int)} {r:((List Int)×Bool)} (h:fT rec p0 p1 p2=some r):PF 244 [pL Zg.enc p0,.agg (bk p1),pL eI p2] (.tup [pL eI r.1,pB r.2]):=by
 unfold fT at h
 refine bd ?_
 refine du Tryz.func244 rfl Tryz.ntmps244 Tryz.results244 rfl (da rfl (bf (cs:=(bk p1)) rfl rfl (fun b1=>ba [6,7] (by kernel_rfl) (cj (aa h fun m2 hm2 h=>aa h fun m3 hm3 h=>aq [] (rg 8 16) [(24,pB ((((p2.length:Int) == 0)||(decide (m2<0)))||(decide ((p0.length:Int)≤m3))))] (eK 5 eI (cF hm2) (eK 11 eI (cF hm3) bj)) (by kernel_rfl) (cR rfl h (fun hc4 h=>?_) fun hc4 h=>?_))))))
 ·refine ae ?_
  refine ak [(6,pN),(7,pB false)] (by kernel_rfl) (aX (hZ 6 rfl (bR (al ?_))))
  obtain rfl:=osi h
  exact aM (cd (aK rfl) (aK rfl)) bB ⟨rfl,rfl⟩
 refine ah ?_
 refine bZ (bi (ρd:=[]) [(0,0),(1,0),(2,0),(3,0),(4,0),(5,0),(6,0),(7,0),(8,0),(9,0),(10,0),(11,1),(12,0),(13,0),(14,0),(15,0)] _ (List.Perm.refl _) (by kernel_rfl) rfl (aa h fun m5 hm5 h=>aa h fun m6 hm6 h=>aa h fun l7 hl7 h=>aa h fun x8 hx8 h=>bt 16 [0] (rg 25 14) [(6,pL eI x8.1),(7,pB x8.2)] (cL 2 eI hm5 (cL 4 Zg.enc hm6 (vz 8 eI 1 (fun _=>rfl) hl7 (foci 11 (hrec hx8) bj)))) (by kernel_rfl) (bA (cX ?_))))
 obtain rfl:=osi h
 exact aM (cd (aK rfl) (aK rfl)) bB ⟨rfl,rfl⟩
def cH (p0:(List ByteArray)) (p1:(ByteArray→Option Bool)):Option Int:=(aT (S:=Int) (T:=(Unit)⊕(_)) (fun v1=>cond (decide (v1<(p0.length:Int))) ((idx p0 v1).bind fun m5=>(p1 m5).bind fun x6=>cond x6 (some (.inr (.inr v1))) (some (.inl (IntKind.i64.wrap (v1+1))))) (some (.inr (.inl ())))) FUEL 0).bind fun q=>match q with | .inl _=>some (-1) | .inr e=>some e
theorem kg {p0:(List ByteArray)} {p1:(ByteArray→Option Bool)} {r:Int} {g1:PV} (hg1:∀ {y0:ByteArray} {w:Bool},p1 y0=some w→PFV g1 [pS y0] (pB w)) (h:cH p0 p1=some r):PF 256 [pL eS p0,g1] (pI r):=by
 unfold cH at h
 refine bd ?_
 refine du Tryz.func256 rfl Tryz.ntmps256 Tryz.results256 rfl (aW [4] (by kernel_rfl) (cj (ai [6] [(7,pI (p0.length:Int)),(8,pI 0)] (by kernel_rfl) (ft h fun q3 hq3 h=>?_))))
 refine ar (Y:=Unit×Unit) (fun (_,_)=>[]) (fun (_,_)=>[]) (fun (_,_)=>q3=Sum.inl ()) ?_ ?_
 ·refine av ?_
  refine aC (Y:=Unit) (S:=Int) _ hq3 (fun _ v1=>[(0,pL eS p0),(1,g1),(7,pI (p0.length:Int)),(8,pI v1)]) (fun _ v1=>[]) () (iR rfl) bB ?_
  rintro _ v1 o τ hb2;(try dsimp only at hb2);dsimp only [az]
  refine ae (ak [(9,pB (decide (v1<(p0.length:Int))))] (by kernel_rfl) (bZ (kq rfl hb2 (fun hc4 hb2=>?_) fun hc4 hb2=>?_)))
  ·refine ah ?_
   refine dJ (ai [10] [(5,pI v1)] (by kernel_rfl) (de hb2 fun m5 hm5 hb2=>aa hb2 fun x6 hx6 hb2=>aq [] (rg 11 5) [(16,pB x6)] (cL 3 eS hm5 (DG 5 (hg1 hx6) bj)) (by kernel_rfl) (cR rfl hb2 (fun hc7 hb2=>?_) fun hc7 hb2=>?_)))
   ·refine ae ?_
    refine ai [17] [(4,pI v1)] (by kernel_rfl) (cX (dH ?_))
    refine au hb2 (fun ht=>?_);subst ht
    refine cP ?_
    exact zz r h rfl
   refine ah ?_
   refine dI (ai [18] [(8,pI (IntKind.i64.wrap (v1+1)))] (by kernel_rfl) ?_)
   exact aS hb2 () (iR rfl) bB
  refine aH ?_
  refine cq hb2 (fun ht=>aj rfl ?_)
  exact aw ((),()) pz bB ht.symm
 rintro ⟨_,_⟩ τ hz;(try dsimp only at hz);subst q3;(try dsimp only at h);dsimp only [az]
 refine ae (dg [(4,pI (-1))] (by kernel_rfl) ?_)
 exact zz r h rfl
def cw (p0:(List ByteArray)) (p1:(ByteArray→Option Bool)):Option Bool:=(cH p0 p1).bind fun x1=>some (decide (0≤x1))
theorem jn {p0:(List ByteArray)} {p1:(ByteArray→Option Bool)} {r:Bool} {g1:PV} (hg1:∀ {y0:ByteArray} {w:Bool},p1 y0=some w→PFV g1 [pS y0] (pB w)) (h:cw p0 p1=some r):PF 253 [pL eS p0,g1] (pB r):=by
 unfold cw at h
 refine bd ?_
 refine du Tryz.func253 rfl Tryz.ntmps253 Tryz.results253 rfl (aW [4] (by kernel_rfl) (de h fun x1 hx1 h=>aq [] [5,6,7,8] [(4,pB (decide (0≤x1)))] (bg 2 (kg hg1 hx1) bj) (by kernel_rfl) (cX ?_)))
 exact zz r h rfl
def gp (p0:ByteArray) (p1:ByteArray):Option Bool:=(dE p1 p0).bind fun x1=>some x1
theorem rN {p0:ByteArray} {p1:ByteArray} {r:Bool}  (h:gp p0 p1=some r):PF 254 [pS p0,.ref [pS p1] 0] (pB r):=by
 unfold gp at h
 refine bd ?_
 refine du Tryz.func254 rfl Tryz.ntmps254 Tryz.results254 rfl (aW [3] (by kernel_rfl) (de h fun x1 hx1 h=>aq [] [4,5,6] [(3,pB x1)] (bg 2 (iX hx1) bj) (by kernel_rfl) (cX ?_)))
 exact zz r h rfl
def iM (p0:Zd) (p1:ByteArray) (p2:ByteArray):Option Bool:=(ko p1 0 p0.Digits).bind fun s3=>(dE p2 s3).bind fun x4=>cond x4 (some true) ((cw p0.Except (fun y6=>gp y6 p2)).bind fun x7=>some x7)
theorem tu {p0:Zd} {p1:ByteArray} {p2:ByteArray} {r:Bool}  (h:iM p0 p1 p2=some r):PF 251 [.agg (an p0),pS p1,pS p2] (pB r):=by
 unfold iM at h
 refine bd ?_
 refine du Tryz.func251 rfl Tryz.ntmps251 Tryz.results251 rfl (da rfl (bf (cs:=(an p0)) rfl rfl (fun b1=>ap rfl (bf (cs:=[pS p2]) rfl rfl (fun b2=>ba [6] (by kernel_rfl) (cj (bi (ρd:=[]) [(0,0),(1,0),(2,0),(3,0),(4,0),(5,1)] _ (List.Perm.refl _) (by kernel_rfl) rfl (aa h fun s3 hs3 h=>aa h fun x4 hx4 h=>bt 6 [0,1] (rg 7 5) [(12,pB x4)] (foss 4 hs3 (bg 5 (iX hx4) bj)) (by kernel_rfl) (bA (cR rfl h (fun hc5 h=>?_) fun hc5 h=>?_))))))))))
 ·refine ae ?_
  refine dg [(6,pB true)] (by kernel_rfl) (al ?_)
  exact zz r h rfl
 refine ah ?_
 refine bZ (af (cO 2 [1] [13] [(14,pL eS p0.Except)] (by kernel_rfl) ?_))
 refine yy 5 rfl (by exact aO) ?_
 refine aa h fun x7 hx7 h=>jN [] [15,16] [(6,pB x7)] (bg 1 (jn (fun hr=>sZ (rN hr)) hx7) bj) (by kernel_rfl) (cX ?_)
 exact zz r h rfl
def gB (p0:Zo) (p1:Zo):Option Int:=cond ((decide (p0.Hi<p1.Hi))||((p0.Hi == p1.Hi)&&(decide (p0.Lo<p1.Lo)))) (some (-1)) (cond (Zo.eqb p0 p1) (some (0:Int)) (some (1:Int)))
theorem qo {p0:Zo} {p1:Zo} {r:Int}  (h:gB p0 p1=some r):PF 255 [.agg [pU p0.Hi,pU p0.Lo],.agg [pU p1.Hi,pU p1.Lo]] (pI r):=by
 unfold gB at h
 refine bd ?_
 refine du Tryz.func255 rfl Tryz.ntmps255 Tryz.results255 rfl (da rfl (bf (cs:=[pU p0.Hi,pU p0.Lo]) rfl rfl (fun b1=>ap rfl (bf (cs:=[pU p1.Hi,pU p1.Lo]) rfl rfl (fun b2=>ba [4] (by kernel_rfl) (dJ (aJ [1,0,1,0,1,0] (rg 6 19) [(5,pB ((decide (p0.Hi<p1.Hi))||((p0.Hi == p1.Hi)&&(decide (p0.Lo<p1.Lo)))))] (by kernel_rfl) (cR rfl h (fun hc3 h=>?_) fun hc3 h=>?_))))))))
 ·refine ae ?_
  refine dg [(4,pI (-1))] (by kernel_rfl) (dH ?_)
  exact zz r h rfl
 refine ae ?_
 refine aq [1,0] [26,27,28] [(25,pB (Zo.eqb p0 p1))] (DF 2 Zo.eqok233 bj) (by kernel_rfl) (cR rfl h (fun hc4 h=>?_) fun hc4 h=>?_)
 ·refine ae ?_
  refine dg [(4,pI 0)] (by kernel_rfl) (dH ?_)
  exact zz r h rfl
 refine ah ?_
 refine aG (bZ (dg [(4,pI 1)] (by kernel_rfl) ?_))
 exact zz r h rfl
def j0 (p0:Int) (p1:Int) (p2:Int):Option Bool:=(jV (IntKind.u64.wrap p0) 1000000).bind fun x1=>(jV (IntKind.u64.wrap p1) (IntKind.u64.wrap p2)).bind fun x3=>(gB x1 x3).bind fun x5=>some (decide (x5≤0))
theorem qp {p0:Int} {p1:Int} {p2:Int} {r:Bool}  (h:j0 p0 p1 p2=some r):PF 252 [pI p0,pI p1,pI p2] (pB r):=by
 unfold j0 at h
 refine bd ?_
 refine du Tryz.func252 rfl Tryz.ntmps252 Tryz.results252 rfl (aW [6] (by kernel_rfl) (de h fun x1 hx1 h=>af (aU 3 [] [9,10] [(11,.agg [pU x1.Hi,pU x1.Lo])] (bg 2 (oR hx1) bj) (by kernel_rfl) (ap rfl (aL (cs:=[pU 0,pU 0]) rfl rfl rfl rfl (fun b2=>aP rfl rfl (am (vs:=[pU x1.Hi,pU x1.Lo]) rfl rfl rfl rfl rfl ce sQ (aF (de h fun x3 hx3 h=>af (aU 5 [] [12,13,14,15] [(16,.agg [pU x3.Hi,pU x3.Lo])] (bg 4 (oR hx3) bj) (by kernel_rfl) (ap rfl (aL (cs:=[pU 0,pU 0]) rfl rfl rfl rfl (fun b4=>aP rfl rfl (am (vs:=[pU x3.Hi,pU x3.Lo]) rfl rfl rfl rfl rfl ce sQ (aF (de h fun x5 hx5 h=>aq [1,0] [17,18,19,20] [(6,pB (decide (x5≤0)))] (bg 2 (qo hx5) bj) (by kernel_rfl) (cX ?_)))))))))))))))))
 exact zz r h rfl
def rule_holds (p0:Zd) (p1:Zl):Option Bool:=(aT (S:=Int×Int×Int×Int) (T:=(Int×Int×Int)) (fun (v3,v4,v5,v6)=>cond (decide (v6<(p1.Inputs.length:Int))) (((idx p1.Inputs v6).bind fun m17=>cond m17.Originating (some (v3,v4,v5)) ((gd (p0.Kind == 2) (iM p0 p1.Code m17.Code)).bind fun x20=>cond ((p0.Kind == 2)&&x20) (some ((IntKind.i64.wrap (v3+m17.Value)),(IntKind.i64.wrap (v4+m17.Value)),(IntKind.i64.wrap (v5+1)))) (some ((IntKind.i64.wrap (v3+m17.Value)),v4,(IntKind.i64.wrap (v5+1)))))).bind fun (v13,v14,v15)=>some (.inl (v13,v14,v15,(IntKind.i64.wrap (v6+1))))) (some (.inr (v3,v4,v5)))) FUEL (0,0,0,0)).bind fun (v7,v8,v9)=>cond (p0.Kind == 1) (some (p1.Obtained&&(v9 == 0))) (cond (p0.Kind == 2) ((j0 v8 p0.Tolerance p1.Price).bind fun x24=>some x24) (cond (p0.Kind == 3) ((j0 v7 p0.Limit p1.Price).bind fun x26=>some x26) (cond (p0.Kind == 4) ((bJ p1.Processes p0.Name).bind fun x28=>some x28) (some false))))
theorem w7 {p0:Zd} {p1:Zl} {r:Bool}  (h:rule_holds p0 p1=some r):PF 250 [.agg (an p0),.agg (bk p1)] (pB r):=by
 unfold rule_holds at h
 refine bd ?_
 refine du Tryz.func250 rfl Tryz.ntmps250 Tryz.results250 rfl (da rfl (bf (cs:=(an p0)) rfl rfl (fun b1=>ap rfl (bf (cs:=(bk p1)) rfl rfl (fun b2=>ba [4] (by kernel_rfl) (bZ (ak [(5,pI 0),(6,pI 0),(7,pI 0)] (by kernel_rfl) (cj (aJ [0] [10] [(11,pL Zk.enc p1.Inputs),(12,pI (p1.Inputs.length:Int)),(13,pI 0)] (by kernel_rfl) (ft h fun q11 hq11 h=>?_))))))))))
 refine ar (Y:=Unit×(Int×Int×Int)) (fun (_,(v7,v8,v9))=>[(2,pP b1 0),(3,pP b2 0),(5,pI v7),(6,pI v8),(7,pI v9)]) (fun (_,(v7,v8,v9))=>[PRes.b b1 84 (an p0),PRes.b b2 36 (bk p1)]) (fun (_,(v7,v8,v9))=>q11=(v7,v8,v9)) ?_ ?_
 ·refine av ?_
  refine aC (Y:=Unit) (S:=Int×Int×Int×Int) _ hq11 (fun _ (v3,v4,v5,v6)=>[(2,pP b1 0),(3,pP b2 0),(5,pI v3),(6,pI v4),(7,pI v5),(11,pL Zk.enc p1.Inputs),(12,pI (p1.Inputs.length:Int)),(13,pI v6)]) (fun _ (v3,v4,v5,v6)=>[PRes.b b1 84 (an p0),PRes.b b2 36 (bk p1)]) () (r8 rfl) (be (aB aO) cK) ?_
  rintro _ ⟨v3,v4,v5,v6⟩ o τ hb10;(try dsimp only at hb10);dsimp only [az]
  refine ae (ak [(14,pB (decide (v6<(p1.Inputs.length:Int))))] (by kernel_rfl) (bZ (kq rfl hb10 (fun hc12 hb10=>?_) fun hc12 hb10=>?_)))
  ·refine ah ?_
   refine de hb10 fun q16 hq16 hb10=>?_
   refine ar (Y:=Unit×(Int×Int×Int)) (fun (_,(v13,v14,v15))=>[(2,pP b1 0),(3,pP b2 0),(5,pI v13),(6,pI v14),(7,pI v15),(11,pL Zk.enc p1.Inputs),(12,pI (p1.Inputs.length:Int)),(13,pI v6)]) (fun (_,(v13,v14,v15))=>[PRes.b b1 84 (an p0),PRes.b b2 36 (bk p1)]) (fun (_,(v13,v14,v15))=>q16=(v13,v14,v15)) ?_ ?_
   ·skip
    refine qU (aa hq16 fun m17 hm17 hq16=>af (aU 2 [] [15] [(16,.agg [pS m17.Code,pI m17.Value,pB m17.Originating])] (cL 0 Zk.enc hm17 bj) (by kernel_rfl) (ap rfl (aL (cs:=[pS ByteArray.empty,pI 0,pB false]) rfl rfl rfl rfl (fun b18=>aP rfl rfl (am (vs:=[pS m17.Code,pI m17.Value,pB m17.Originating]) rfl rfl rfl rfl rfl ce zl3 (aF (cj (aJ [0] [17] [(18,pB m17.Originating)] (by kernel_rfl) (cR rfl hq16 (fun hc19 hq16=>?_) fun hc19 hq16=>?_))))))))))
    ·refine aH ?_
     refine hC (aj rfl ?_)
     obtain rfl:=osi hq16
     exact aw ((),(v3,v4,v5)) (r8 rfl) (be (aB aO) (be (aB aO) bB)) rfl
    refine ah ?_
    refine bZ (ai [19,20] [(7,pI (IntKind.i64.wrap (v5+1)))] (by kernel_rfl) (bZ (aJ [0] [21,22,23,24] [(5,pI (IntKind.i64.wrap (v3+m17.Value)))] (by kernel_rfl) (de hq16 fun x20 hx20 hq16=>aq [1,1,2,0] (rg 25 10) [(35,pB ((p0.Kind == 2)&&x20))] (eM 9 (fun hc=>tu (cF hx20 hc)) bj) (by kernel_rfl) (cR rfl hq16 (fun hc21 hq16=>?_) fun hc21 hq16=>?_)))))
    ·refine aJ [0] [36,37,38,39] [(6,pI (IntKind.i64.wrap (v4+m17.Value)))] (by kernel_rfl) ?_
     refine aG ?_
     obtain rfl:=osi hq16
     exact aw ((),((IntKind.i64.wrap (v3+m17.Value)),(IntKind.i64.wrap (v4+m17.Value)),(IntKind.i64.wrap (v5+1)))) (r8 rfl) (be (aB aO) (be (aB aO) bB)) rfl
    refine ah ?_
    refine aG ?_
    obtain rfl:=osi hq16
    exact aw ((),((IntKind.i64.wrap (v3+m17.Value)),v4,(IntKind.i64.wrap (v5+1)))) (r8 rfl) (be (aB aO) (be (aB aO) bB)) rfl
   rintro ⟨_,⟨v13,v14,v15⟩⟩ τ hz;(try dsimp only at hz);subst q16;(try dsimp only at hb10);dsimp only [az]
   refine ai [40] [(13,pI (IntKind.i64.wrap (v6+1)))] (by kernel_rfl) ?_
   exact aS hb10 () (r8 rfl) n8
  refine aH ?_
  refine cq hb10 (fun ht=>aj rfl ?_)
  exact aw ((),(v3,v4,v5)) (ns rfl) n8 ht.symm
 rintro ⟨_,⟨v7,v8,v9⟩⟩ τ hz;(try dsimp only at hz);subst q11;(try dsimp only at h);dsimp only [az]
 refine cT (aJ [0] [41] [(42,pI p0.Kind)] (by kernel_rfl) (aX (qU (bF [44] [(43,pB (p0.Kind == 1))] (by kernel_rfl) rfl h (fun hc22 h=>?_) fun hc22 h=>?_))))
 ·refine ae ?_
  refine aJ [1] (rg 45 6) [(4,pB (p1.Obtained&&(v9 == 0)))] (by kernel_rfl) (cX (dH ?_))
  exact zz r h rfl
 refine ae ?_
 refine bF [52] [(51,pB (p0.Kind == 2))] (by kernel_rfl) rfl h (fun hc23 h=>?_) fun hc23 h=>?_
 ·refine ae ?_
  refine aa h fun x24 hx24 h=>aq [0,1] (rg 53 6) [(4,pB x24)] (bg 5 (qp hx24) bj) (by kernel_rfl) (cX (dH ?_))
  exact zz r h rfl
 refine ae ?_
 refine bF [60] [(59,pB (p0.Kind == 3))] (by kernel_rfl) rfl h (fun hc25 h=>?_) fun hc25 h=>?_
 ·refine ae ?_
  refine aa h fun x26 hx26 h=>aq [0,1] (rg 61 6) [(4,pB x26)] (bg 5 (qp hx26) bj) (by kernel_rfl) (cX (dH ?_))
  exact zz r h rfl
 refine ae ?_
 refine bF [68] [(67,pB (p0.Kind == 4))] (by kernel_rfl) rfl h (fun hc27 h=>?_) fun hc27 h=>?_
 ·refine ae ?_
  refine aa h fun x28 hx28 h=>aq [1,0] (rg 69 5) [(4,pB x28)] (bg 4 (db hx28) bj) (by kernel_rfl) (cX (dH ?_))
  exact zz r h rfl
 refine ah ?_
 refine aG (bZ (dg [(4,pB false)] (by kernel_rfl) ?_))
 exact zz r h rfl
def fU (p0:Zu) (p1:Zl) (p2:(List Int)):Option ((List Int)×Bool):=(rule_holds p0.rule p1).bind fun x3=>some (p2,x3)
theorem pR {p0:Zu} {p1:Zl} {p2:(List Int)} {r:((List Int)×Bool)}  (h:fU p0 p1 p2=some r):PF 248 [.agg (an p0.rule),.agg (bk p1),pL eI p2] (.tup [pL eI r.1,pB r.2]):=by
 unfold fU at h
 refine bd ?_
 refine du Tryz.func248 rfl Tryz.ntmps248 Tryz.results248 rfl (da rfl (bf (cs:=(an p0.rule)) rfl rfl (fun b1=>ap rfl (bf (cs:=(bk p1)) rfl rfl (fun b2=>ba [6,7] (by kernel_rfl) (de h fun x3 hx3 h=>aq [1,0] (rg 8 5) [(6,pL eI p2),(7,pB x3)] (bg 4 (w7 hx3) bj) (by kernel_rfl) (cX ?_)))))))
 obtain rfl:=osi h
 exact aM (cd (aK rfl) (aK rfl)) bB ⟨rfl,rfl⟩
def Irule_test_follow_B (rec:Zg→Zl→(List Int)→Option ((List Int)×Bool)) (x:Zg) (y0:Zl) (y1:(List Int)):Option ((List Int)×Bool):=match x with | .single_ a=>fU a y0 y1 | .every_ a=>fy rec a y0 y1 | .some_ a=>fT rec a y0 y1
theorem Irule_test_follow_B_ok {rec:Zg→Zl→(List Int)→Option ((List Int)×Bool)} (hrec:∀ {x:Zg} {y0:Zl} {y1:(List Int)} {w:((List Int)×Bool)},rec x y0 y1=some w→PFI x.pv "customs/rule.follow" [.agg (bk y0),pL eI y1] (.tup [pL eI w.1,pB w.2])) {x:Zg} {y0:Zl} {y1:(List Int)} {w:((List Int)×Bool)} (h:Irule_test_follow_B rec x y0 y1=some w):PFI x.pv "customs/rule.follow" [.agg (bk y0),pL eI y1] (.tup [pL eI w.1,pB w.2]):=by
 cases x with
 | single_ a=>rw [Zg.pv_single_];exact vw ⟨fun _ _=>by kernel_rfl⟩ (pR h)
 | every_ a=>rw [Zg.pv_every_];exact vw ⟨fun _ _=>by kernel_rfl⟩ (oT hrec h)
 | some_ a=>rw [Zg.pv_some_];exact vw ⟨fun _ _=>by kernel_rfl⟩ (pM hrec h)
def Irule_test_follow_F (n:Nat):Zg→Zl→(List Int)→Option ((List Int)×Bool):=Nat.rec (motive:=fun _=>Zg→Zl→(List Int)→Option ((List Int)×Bool)) (fun _ _ _=>none) (fun _ ih=>Irule_test_follow_B ih) n
def Irule_test_follow (x:Zg) (y0:Zl) (y1:(List Int)):Option ((List Int)×Bool):=Irule_test_follow_F FUEL x y0 y1
theorem Irule_test_follow_Fok (n:Nat):∀ {x:Zg} {y0:Zl} {y1:(List Int)} {w:((List Int)×Bool)},Irule_test_follow_F n x y0 y1=some w→PFI x.pv "customs/rule.follow" [.agg (bk y0),pL eI y1] (.tup [pL eI w.1,pB w.2]):=by
 induction n with
 | zero=>intros;rename_i h;exact nomatch h
 | succ n ih=>intros;rename_i h;exact Irule_test_follow_B_ok (fun hr=>ih hr) h
theorem Irule_test_follow_ok {x:Zg} {y0:Zl} {y1:(List Int)} {w:((List Int)×Bool)} (h:Irule_test_follow x y0 y1=some w):PFI x.pv "customs/rule.follow" [.agg (bk y0),pL eI y1] (.tup [pL eI w.1,pB w.2]):=Irule_test_follow_Fok FUEL h
def fZ (p0:Zr) (p1:Za):Option (List (Za×Bool)):=some (qb p0.claims p1 true)
theorem nN {p0:Zr} {p1:Za} {m0_claims:Nat} {r:(List (Za×Bool))}  (h:fZ p0 p1=some r):PCall 74 [.agg [.v (.map (some m0_claims))],.agg [pI p1.Product,pI p1.Agreement]] [PRes.mp (some m0_claims) (gi Za.key vT p0.claims)] (fun pv ρ'=>pv=.tup []∧ρ'=[PRes.mp (some m0_claims) (gi Za.key vT r)]):=by
 unfold fZ at h
 refine du Tryz.func74 rfl Tryz.ntmps74 Tryz.results74 rfl (da rfl (bf (cs:=[.v (.map (some m0_claims))]) rfl rfl (fun b1=>ap rfl (bf (cs:=[pI p1.Product,pI p1.Agreement]) rfl rfl (fun b2=>aF (aX (af (cO 3 [1,0] [4] [(5,.v (.map (some m0_claims))),(6,.agg [pI p1.Product,pI p1.Agreement])] (by kernel_rfl) (aP rfl rfl (sq (xs:=p0.claims) (k:=p1) (ek:=Za.key) (vv:=vT) (v:=true) rfl rfl Za.kenc28 rfl rfl yL rfl (dA (dA ce)) (aF ?_)))))))))))
 obtain rfl:=osi h
 exact E5 (rfl:PRV [] _ _ (.tup [])) (be (aB (aB aO)) bB) ⟨rfl,rfl⟩
def i5 (rec:Zd→Zl→(List Int)→Option ((List Int)×Bool)) (p0:Zd) (p1:Zl) (p2:(List Int)):Option ((List Int)×Bool):=cond (p0.Kind == 5) ((aT (S:=(List Int)×Int) (T:=((List Int))⊕(_)) (fun (l4,v5)=>cond (decide (v5<(p0.Args.length:Int))) ((idx p0.Args v5).bind fun m10=>(rec m10 p1 l4).bind fun x11=>cond (!x11.2) (some (.inr (.inr ([],false)))) (some (.inl (x11.1,(IntKind.i64.wrap (v5+1)))))) (some (.inr (.inl l4)))) FUEL (p2,0)).bind fun q=>match q with | .inl l6=>some (l6,true) | .inr e=>some e) (cond (p0.Kind == 6) ((gd (!((p2.length:Int) == 0)) (idx p2 0)).bind fun m14=>(gd (!(((p2.length:Int) == 0)||(decide (m14<0)))) (idx p2 0)).bind fun m15=>cond ((((p2.length:Int) == 0)||(decide (m14<0)))||(decide ((p0.Args.length:Int)≤m15))) (some ([],false)) ((idx p2 0).bind fun m17=>(idx p0.Args m17).bind fun m18=>(sub p2 1 (p2.length:Int)).bind fun l19=>(rec m18 p1 l19).bind fun x20=>some (x20.1,x20.2))) ((nB p0 p1).bind fun x21=>some (p2,x21)))
theorem sy {rec:Zd→Zl→(List Int)→Option ((List Int)×Bool)} (hrec:∀ {p0:Zd} {p1:Zl} {p2:(List Int)} {r:((List Int)×Bool)},rec p0 p1 p2=some r→PF 125 [.agg (an p0),.agg (bk p1),pL eI p2] (.tup [pL eI r.1,pB r.2])) {p0:Zd} {p1:Zl} {p2:(List Int)} {r:((List Int)×Bool)} (h:i5 rec p0 p1 p2=some r):PF 125 [.agg (an p0),.agg (bk p1),pL eI p2] (.tup [pL eI r.1,pB r.2]):=by
 unfold i5 at h
 refine bd ?_
 refine du Tryz.func125 rfl Tryz.ntmps125 Tryz.results125 rfl (da rfl (bf (cs:=(an p0)) rfl rfl (fun b1=>ap rfl (bf (cs:=(bk p1)) rfl rfl (fun b2=>ba [6,7] (by kernel_rfl) (cj (aJ [1] [11] [(12,pI p0.Kind)] (by kernel_rfl) (aX (qU (bF [14] [(13,pB (p0.Kind == 5))] (by kernel_rfl) rfl h (fun hc3 h=>?_) fun hc3 h=>?_))))))))))
 ·refine ae ?_
  refine ae (ak [(8,pI 0)] (by kernel_rfl) (ft h fun q8 hq8 h=>?_))
  refine ar (Y:=Unit×((List Int))) (fun (_,l6)=>[(2,pL eI l6)]) (fun (_,l6)=>[]) (fun (_,l6)=>q8=Sum.inl l6) ?_ ?_
  ·refine av ?_
   refine aC (Y:=Unit) (S:=(List Int)×Int) _ hq8 (fun _ (l4,v5)=>[(2,pL eI l4),(3,pP b1 0),(4,pP b2 0),(8,pI v5)]) (fun _ (l4,v5)=>[PRes.b b1 84 (an p0),PRes.b b2 36 (bk p1)]) () (iR rfl) (be (aB aO) cK) ?_
   rintro _ ⟨l4,v5⟩ o τ hb7;(try dsimp only at hb7);dsimp only [az]
   refine cT (aJ [0] [15,16,17,18] [(19,pB (decide (v5<(p0.Args.length:Int))))] (by kernel_rfl) (cR rfl hb7 (fun hc9 hb7=>?_) fun hc9 hb7=>?_))
   ·refine ah ?_
    refine dJ (bi (ρd:=[]) [(0,0),(1,0),(2,0),(3,0),(4,0),(5,0),(6,0),(7,1),(8,0),(9,0),(10,0),(11,0),(12,0)] _ (List.Perm.refl _) (by kernel_rfl) rfl (aa hb7 fun m10 hm10 hb7=>aa hb7 fun x11 hx11 hb7=>bt 13 [0,1] ((rg 23 8)++[22,31,32]) [(9,pL eI x11.1),(10,pB x11.2)] (ny 3 Zd.enc (Zd.enc_eq _) hm10 (bg 7 (hrec hx11) bj)) (by kernel_rfl) (bA (cj (bF [33] [(34,pB (!x11.2))] (by kernel_rfl) rfl hb7 (fun hc12 hb7=>?_) fun hc12 hb7=>?_)))))
    ·refine ae ?_
     refine ak [(6,pN),(7,pB false)] (by kernel_rfl) (aX (hZ 6 rfl (bR (al (dH ?_)))))
     refine au hb7 (fun ht=>?_);subst ht
     refine cP (dH ?_)
     obtain rfl:=osi h
     exact aM (cd (aK rfl) (aK rfl)) bB ⟨rfl,rfl⟩
    refine ah ?_
    refine aX (ai [35] [(2,pL eI x11.1)] (by kernel_rfl) (dI (ai [20,21] [(8,pI (IntKind.i64.wrap (v5+1)))] (by kernel_rfl) ?_)))
    exact aS hb7 () (iR rfl) n8
   refine aH ?_
   refine cq hb7 (fun ht=>aj rfl ?_)
   exact aw ((),l4) (rD rfl) bB ht.symm
  rintro ⟨_,l6⟩ τ hz;(try dsimp only at hz);subst q8;(try dsimp only at h);dsimp only [az]
  refine ae (ai [36] [(6,pL eI l6),(7,pB true)] (by kernel_rfl) (cX (dH ?_)))
  obtain rfl:=osi h
  exact aM (cd (aK rfl) (aK rfl)) bB ⟨rfl,rfl⟩
 refine ae ?_
 refine bF [38] [(37,pB (p0.Kind == 6))] (by kernel_rfl) rfl h (fun hc13 h=>?_) fun hc13 h=>?_
 ·refine ae ?_
  refine ae (bi (ρd:=[]) [(0,0),(1,0),(2,0),(3,0),(4,0),(5,0),(6,0),(7,0),(8,0),(9,0),(10,0),(11,0),(12,0),(13,0),(14,0),(15,0),(16,0),(17,0)] _ (List.Perm.refl _) (by kernel_rfl) rfl (aa h fun m14 hm14 h=>aa h fun m15 hm15 h=>bt 18 [1] (rg 39 17) [(56,pB ((((p2.length:Int) == 0)||(decide (m14<0)))||(decide ((p0.Args.length:Int)≤m15))))] (eK 5 eI (cF hm14) (eK 11 eI (cF hm15) bj)) (by kernel_rfl) (bA (cR rfl h (fun hc16 h=>?_) fun hc16 h=>?_))))
  ·refine ae ?_
   refine ak [(6,pN),(7,pB false)] (by kernel_rfl) (aX (hZ 6 rfl (bR (al (dH ?_)))))
   obtain rfl:=osi h
   exact aM (cd (aK rfl) (aK rfl)) bB ⟨rfl,rfl⟩
  refine ah ?_
  refine bZ (bi (ρd:=[]) [(0,0),(1,0),(2,0),(3,0),(4,0),(5,0),(6,0),(7,0),(8,0),(9,0),(10,1),(11,0),(12,0),(13,0),(14,0)] _ (List.Perm.refl _) (by kernel_rfl) rfl (aa h fun m17 hm17 h=>aa h fun m18 hm18 h=>aa h fun l19 hl19 h=>aa h fun x20 hx20 h=>bt 15 [1,0] (rg 57 13) [(6,pL eI x20.1),(7,pB x20.2)] (cL 3 eI hm17 (ny 5 Zd.enc (Zd.enc_eq _) hm18 (vz 9 eI 1 (fun _=>rfl) hl19 (bg 10 (hrec hx20) bj)))) (by kernel_rfl) (bA (cX (dH ?_)))))
  obtain rfl:=osi h
  exact aM (cd (aK rfl) (aK rfl)) bB ⟨rfl,rfl⟩
 refine ah ?_
 refine aG (de h fun x21 hx21 h=>aq [1,0] [70,71,72,73] [(6,pL eI p2),(7,pB x21)] (bg 3 (qm hx21) bj) (by kernel_rfl) (cX ?_))
 obtain rfl:=osi h
 exact aM (cd (aK rfl) (aK rfl)) bB ⟨rfl,rfl⟩
def gU (n:Nat):Zd→Zl→(List Int)→Option ((List Int)×Bool):=Nat.rec (motive:=fun _=>Zd→Zl→(List Int)→Option ((List Int)×Bool)) (fun _ _ _=>none) (fun _ ih=>i5 ih) n
def sA (p0:Zd) (p1:Zl) (p2:(List Int)):Option ((List Int)×Bool):=gU FUEL p0 p1 p2
theorem tv (n:Nat):∀ {p0:Zd} {p1:Zl} {p2:(List Int)} {r:((List Int)×Bool)},gU n p0 p1 p2=some r→PF 125 [.agg (an p0),.agg (bk p1),pL eI p2] (.tup [pL eI r.1,pB r.2]):=by
 induction n with
 | zero=>intros;rename_i h;exact nomatch h
 | succ n ih=>intros;rename_i h;exact sy (fun hr=>ih hr) h
theorem uy {p0:Zd} {p1:Zl} {p2:(List Int)} {r:((List Int)×Bool)} (h:sA p0 p1 p2=some r):PF 125 [.agg (an p0),.agg (bk p1),pL eI p2] (.tup [pL eI r.1,pB r.2]):=tv FUEL h
def jh (p0:Zd) (p1:Zl) (p2:(List Int)):Option Bool:=(sA p0 p1 p2).bind fun x3=>some (x3.2&&((x3.1.length:Int) == 0))
theorem uz {p0:Zd} {p1:Zl} {p2:(List Int)} {r:Bool}  (h:jh p0 p1 p2=some r):PF 75 [.agg (an p0),.agg (bk p1),pL eI p2] (pB r):=by
 unfold jh at h
 refine bd ?_
 refine du Tryz.func75 rfl Tryz.ntmps75 Tryz.results75 rfl (da rfl (bf (cs:=(an p0)) rfl rfl (fun b1=>ap rfl (bf (cs:=(bk p1)) rfl rfl (fun b2=>ba [6] (by kernel_rfl) (de h fun x3 hx3 h=>aq [1,0] [10,11,12,13,9,14,15] [(7,pL eI x3.1),(8,pB x3.2)] (bg 3 (uy hx3) bj) (by kernel_rfl) (bZ (ai (rg 16 6) [(6,pB (x3.2&&((x3.1.length:Int) == 0)))] (by kernel_rfl) (cX ?_)))))))))
 exact zz r h rfl
def hQ (p0:(List Zc)) (p1:(List Zb)) (p2:ByteArray) (p3:(List Zf)):Option (Int×Int):=(fE p0 p1 p2).bind fun x1=>cond (x1.2 != 0) (some ((0:Int),x1.2)) ((aT (S:=(List Za)×Int) (T:=((List Zf))⊕(_)) (fun (l3,v4)=>cond (decide (v4<(p3.length:Int))) ((idx p3 v4).bind fun m9=>(cW p0 p1 p2 m9.Claim).bind fun x11=>(gd (!(!x11)) (cG l3 m9.Claim)).bind fun x12=>cond ((!x11)||x12) (some (.inr (.inr (v4,(10:Int))))) ((aT (S:=Int) (T:=(Unit)⊕(_)) (fun v14=>cond (decide (v14<(m9.Premises.length:Int))) ((idx m9.Premises v14).bind fun m18=>(cG l3 m18).bind fun x19=>cond (!x19) (some (.inr (.inr (.inr (.inr (v4,(10:Int))))))) (some (.inl (IntKind.i64.wrap (v14+1))))) (some (.inr (.inl ())))) FUEL 0).bind fun q=>match q with | .inl _=>(fB p0 p1 p2 m9.Claim m9.Premises).bind (fun x21=>(dV p0 m9.Claim.Product).bind fun x23=>(dT p1 m9.Claim.Agreement).bind fun x25=>(fb x25.1 x23.1.Code).bind fun x27=>(fJ x21.2 m9.Premises).bind fun x29=>(gd (!(!x29)) (jh x27.1 x21.1 m9.Path)).bind fun x30=>cond ((!x29)||(!x30)) (some (.inr (.inr (v4,(10:Int))))) ((eU l3 m9.Claim).bind fun x32=>some (.inl (x32,(IntKind.i64.wrap (v4+1)))))) | .inr e=>some e)) (some (.inr (.inl p3)))) FUEL ([],0)).bind fun q=>match q with | .inl l5=>some ((l5.length:Int),(0:Int)) | .inr e=>some e)
theorem vV {p0:(List Zc)} {p1:(List Zb)} {p2:ByteArray} {p3:(List Zf)} {r:(Int×Int)}  (h:hQ p0 p1 p2 p3=some r):PF 26 [pL Zc.enc p0,pL Zb.enc p1,pS p2,pL Zf.enc p3] (.tup [pI r.1,pI r.2]):=by
 unfold hQ at h
 refine bd ?_
 refine du Tryz.func26 rfl Tryz.ntmps26 Tryz.results26 rfl (aW [8,9] (by kernel_rfl) (cj (aa h fun x1 hx1 h=>aq [] [25,26,27,28,24,29,30,10] [(11,pI x1.2)] (bg 3 (vS hx1) bj) (by kernel_rfl) (bZ (bF [31] [(32,pB (x1.2 != 0))] (by kernel_rfl) rfl h (fun hc2 h=>?_) fun hc2 h=>?_)))))
 ·refine ae ?_
  refine ai [33] [(8,pI 0),(9,pI x1.2)] (by kernel_rfl) (cX (al ?_))
  obtain rfl:=osi h
  exact aM (cd (aK rfl) (aK rfl)) bB ⟨rfl,rfl⟩
 refine ah ?_
 refine bZ (ak [(12,pN)] (by kernel_rfl) (cj (ak [(13,pI 0)] (by kernel_rfl) (aX (hZ 12 rfl (aa h fun q7 hq7 h=>?_))))))
 refine ar (Y:=Unit×((List Zf))) (fun (_,l5)=>[(3,pL Zf.enc l5)]) (fun (_,l5)=>[]) (fun (_,l5)=>q7=Sum.inl l5) ?_ ?_
 ·refine av ?_
  refine aC (Y:=Unit) (S:=(List Za)×Int) _ hq7 (fun _ (l3,v4)=>[(0,pL Zc.enc p0),(1,pL Zb.enc p1),(2,pS p2),(3,pL Zf.enc p3),(12,pL Za.enc l3),(13,pI v4)]) (fun _ (l3,v4)=>[]) () (p9 rfl) bB ?_
  rintro _ ⟨l3,v4⟩ o τ hb6;(try dsimp only at hb6);dsimp only [az]
  refine cT (bF [34,35,36] [(37,pB (decide (v4<(p3.length:Int))))] (by kernel_rfl) rfl hb6 (fun hc8 hb6=>?_) fun hc8 hb6=>?_)
  ·refine ah ?_
   refine dJ (aa hb6 fun m9 hm9 hb6=>af (aU 4 [] [40,41,42] [(43,.agg (dj m9))] (cL 2 Zf.enc hm9 bj) (by kernel_rfl) (ap rfl (aL (cs:=[pI 0,pI 0,pN,pN]) rfl rfl rfl rfl (fun b10=>aP rfl rfl (am (vs:=(dj m9)) rfl rfl rfl rfl rfl ce xx (aF (cj (aa hb6 fun x11 hx11 hb6=>aa hb6 fun x12 hx12 hb6=>aq [0,0] (rg 44 12) [(56,pB ((!x11)||x12))] (bg 5 (jm hx11) (eM 11 (fun hc=>gz (cF hx12 hc)) bj)) (by kernel_rfl) (cR rfl hb6 (fun hc13 hb6=>?_) fun hc13 hb6=>?_))))))))))
   ·refine ae ?_
    refine ai [57] [(8,pI v4),(9,pI 10)] (by kernel_rfl) (cX (al (dH ?_)))
    refine au hb6 (fun ht=>?_);subst ht
    refine cP ?_
    obtain rfl:=osi h
    exact aM (cd (aK rfl) (aK rfl)) bB ⟨rfl,rfl⟩
   refine ah ?_
   refine cj (ak [(15,pI 0)] (by kernel_rfl) (ft hb6 fun q16 hq16 hb6=>?_))
   refine ar (Y:=Unit×Unit) (fun (_,_)=>[(0,pL Zc.enc p0),(1,pL Zb.enc p1),(2,pS p2),(3,pL Zf.enc p3),(12,pL Za.enc l3),(13,pI v4),(14,pP b10 0)]) (fun (_,_)=>[PRes.b b10 61 (dj m9)]) (fun (_,_)=>q16=Sum.inl ()) ?_ ?_
   ·refine av ?_
    refine aC (Y:=Unit) (S:=Int) _ hq16 (fun _ v14=>[(0,pL Zc.enc p0),(1,pL Zb.enc p1),(2,pS p2),(3,pL Zf.enc p3),(12,pL Za.enc l3),(13,pI v4),(14,pP b10 0),(15,pI v14)]) (fun _ v14=>[PRes.b b10 61 (dj m9)]) () (r8 rfl) cK ?_
    rintro _ v14 o τ hb15;(try dsimp only at hb15);dsimp only [az]
    refine cT (aJ [0] [58,59,60,61] [(62,pB (decide (v14<(m9.Premises.length:Int))))] (by kernel_rfl) (cR rfl hb15 (fun hc17 hb15=>?_) fun hc17 hb15=>?_))
    ·refine ah ?_
     refine dJ (aa hb15 fun m18 hm18 hb15=>aa hb15 fun x19 hx19 hb15=>aq [0] (rg 65 7) [(72,pB (!x19))] (cL 4 Za.enc hm18 (bg 6 (gz hx19) bj)) (by kernel_rfl) (cR rfl hb15 (fun hc20 hb15=>?_) fun hc20 hb15=>?_))
     ·refine ae ?_
      refine ai [73] [(8,pI v4),(9,pI 10)] (by kernel_rfl) (cX (dH ?_))
      refine au hb15 (fun ht=>?_);subst ht
      refine cP (dH ?_)
      refine au hb6 (fun ht=>?_);subst ht
      refine cP ?_
      obtain rfl:=osi h
      exact aM (cd (aK rfl) (aK rfl)) bB ⟨rfl,rfl⟩
     refine ah ?_
     refine dI (ai [63,64] [(15,pI (IntKind.i64.wrap (v14+1)))] (by kernel_rfl) ?_)
     exact aS hb15 () (r8 rfl) cK
    refine aH ?_
    refine cq hb15 (fun ht=>aj rfl ?_)
    exact aw ((),()) (sR rfl) cK ht.symm
   rintro ⟨_,_⟩ τ hz;(try dsimp only at hz);subst q16;(try dsimp only at hb6);dsimp only [az]
   refine ae (aa hb6 fun x21 hx21 hb6=>af (aU 11 [0,0] ((rg 75 8)++[74]) [(83,.agg (bk x21.1)),(84,pL Za.enc x21.2)] (bg 7 (pD hx21) bj) (by kernel_rfl) (ap rfl (aL (cs:=[pS ByteArray.empty,pI 0,pB false,pN,pN]) rfl rfl rfl rfl (fun b22=>aP rfl rfl (am (vs:=(bk x21.1)) rfl rfl rfl rfl rfl ce Fi (aN [(17,pL Za.enc x21.2)] (by kernel_rfl) (de hb6 fun x23 hx23 hb6=>af (aU 8 [1] ((rg 86 5)++[85]) [(91,.agg (aI x23.1)),(92,pB x23.2)] (bg 4 (iH hx23) bj) (by kernel_rfl) (ap rfl (aL (cs:=[pI 0,pS ByteArray.empty,pS ByteArray.empty,pI 0,pB false,pN,pN]) rfl rfl rfl rfl (fun b24=>aP rfl rfl (am (vs:=(aI x23.1)) rfl rfl rfl rfl rfl ce mX (ba [19] (by kernel_rfl) (de hb6 fun x25 hx25 hb6=>af (aU 8 [2] ((rg 94 5)++[93]) [(99,.agg (aA x25.1)),(100,pB x25.2)] (bg 4 (ic hx25) bj) (by kernel_rfl) (ap rfl (aL (cs:=[pI 0,pI 0,pN,pN]) rfl rfl rfl rfl (fun b26=>aP rfl rfl (am (vs:=(aA x25.1)) rfl rfl rfl rfl rfl ce xx (ba [21] (by kernel_rfl) (de hb6 fun x27 hx27 hb6=>af (aU 7 [0,1] [102,103,104,105,101] [(106,.agg (an x27.1)),(107,pB x27.2)] (bg 3 (ma hx27) bj) (by kernel_rfl) (ap rfl (aL (cs:=[pI 0,pI 0,pN,pI 0,pI 0,pS ByteArray.empty,pN]) rfl rfl rfl rfl (fun b28=>aP rfl rfl (am (vs:=(an x27.1)) rfl rfl rfl rfl rfl ce mX (ba [23] (by kernel_rfl) (cj (aa hb6 fun x29 hx29 hb6=>aa hb6 fun x30 hx30 hb6=>aq [4,0,3,4] (rg 108 12) [(120,pB ((!x29)||(!x30)))] (bg 3 (re hx29) (eM 10 (fun hc=>uz (cF hx30 hc)) bj)) (by kernel_rfl) (cR rfl hb6 (fun hc31 hb6=>?_) fun hc31 hb6=>?_)))))))))))))))))))))))))))))))
   ·refine ae ?_
    refine ai [121] [(8,pI v4),(9,pI 10)] (by kernel_rfl) (cX (al (dH ?_)))
    refine au hb6 (fun ht=>?_);subst ht
    refine cP ?_
    obtain rfl:=osi h
    exact aM (cd (aK rfl) (aK rfl)) bB ⟨rfl,rfl⟩
   refine ah ?_
   refine ft hb6 fun x32 hx32 hb6=>aq [4] [122,123,124,125] [(12,pL Za.enc x32)] (bg 3 (lx hx32) bj) (by kernel_rfl) (dI (ai [38,39] [(13,pI (IntKind.i64.wrap (v4+1)))] (by kernel_rfl) ?_))
   exact aS hb6 () (p9 rfl) bB
  refine aH ?_
  refine cq hb6 (fun ht=>aj rfl ?_)
  exact aw ((),p3) (rD rfl) bB ht.symm
 rintro ⟨_,l5⟩ τ hz;(try dsimp only at hz);subst q7;(try dsimp only at h);dsimp only [az]
 refine ae (ai [126,127] [(8,pI (l5.length:Int)),(9,pI 0)] (by kernel_rfl) (cX ?_))
 obtain rfl:=osi h
 exact aM (cd (aK rfl) (aK rfl)) bB ⟨rfl,rfl⟩
def gG (rec:Zd→Int→Option Zd) (p0:Zd) (p1:Int):Option Zd:=Option.bind (cond (decide (5≤p1)) (some 8) (some 4)) (fun v3=>Option.bind (cond (decide (p1<1)) (some 0) (some v3)) (fun v6=>(sub p0.Args 0 (oM (p0.Args.length:Int) v6)).bind fun l11=>(app 96 ([]:List Zd) l11).bind fun l12=>(aT (S:=(List Zd)×Int) (T:=((List Zd))) (fun (l17,v18)=>cond (decide (v18<((l12.length:Nat):Int))) ((idx l17 v18).bind fun m24=>(rec m24 (IntKind.i64.wrap (p1 - 1))).bind fun x25=>(idx l17 v18).bind fun m26=>some (.inl ((l17.set v18.toNat x25),(IntKind.i64.wrap (v18+1))))) (some (.inr l17))) FUEL (l12,0)).bind fun l20=>some (⟨p0.Kind,p0.Digits,p0.Except,p0.Tolerance,p0.Limit,p0.Name,l20⟩:Zd)))
theorem tw {rec:Zd→Int→Option Zd} (hrec:∀ {p0:Zd} {p1:Int} {r:Zd},rec p0 p1=some r→PF 76 [.agg (an p0),pI p1] (.agg (an r))) {p0:Zd} {p1:Int} {r:Zd} (h:gG rec p0 p1=some r):PF 76 [.agg (an p0),pI p1] (.agg (an r)):=by
 unfold gG at h
 refine bd ?_
 refine du Tryz.func76 rfl Tryz.ntmps76 Tryz.results76 rfl (da rfl (bf (cs:=(an p0)) rfl rfl (fun b1=>ap rfl (aL (cs:=[pI 0,pI 0,pN,pI 0,pI 0,pS ByteArray.empty,pN]) rfl rfl rfl rfl (fun b2=>aF (bZ (ak [(5,pI 4)] (by kernel_rfl) (cj (ai [8] [(9,pB (decide (5≤p1)))] (by kernel_rfl) (ft h fun q4 hq4 h=>?_))))))))))
 refine ar (Y:=Unit×Int) (fun (_,v3)=>[(1,pI p1),(2,pP b1 0),(4,pP b2 0),(5,pI v3)]) (fun (_,v3)=>[PRes.b b1 84 (an p0),PRes.b b2 84 [pI 0,pI 0,pN,pI 0,pI 0,pS ByteArray.empty,pN]]) (fun (_,v3)=>q4=v3) ?_ ?_
 ·skip
  refine kq rfl hq4 (fun hc5 hq4=>?_) fun hc5 hq4=>?_
  ·refine ak [(5,pI 8)] (by kernel_rfl) ?_
   obtain rfl:=osi hq4
   exact aw ((),8) (iR rfl) (be (aB aO) cK) rfl
  refine ah ?_
  obtain rfl:=osi hq4
  exact aw ((),4) (iR rfl) (be (aB aO) cK) rfl
 rintro ⟨_,v3⟩ τ hz;(try dsimp only at hz);subst q4;(try dsimp only at h);dsimp only [az]
 refine cT (ai [10] [(11,pB (decide (p1<1)))] (by kernel_rfl) (ft h fun q7 hq7 h=>?_))
 refine ar (Y:=Unit×Int) (fun (_,v6)=>[(1,pI p1),(2,pP b1 0),(4,pP b2 0),(5,pI v6)]) (fun (_,v6)=>[PRes.b b1 84 (an p0),PRes.b b2 84 [pI 0,pI 0,pN,pI 0,pI 0,pS ByteArray.empty,pN]]) (fun (_,v6)=>q7=v6) ?_ ?_
 ·skip
  refine kq rfl hq7 (fun hc8 hq7=>?_) fun hc8 hq7=>?_
  ·refine ak [(5,pI 0)] (by kernel_rfl) ?_
   obtain rfl:=osi hq7
   exact aw ((),0) (iR rfl) n8 rfl
  refine ah ?_
  obtain rfl:=osi hq7
  exact aw ((),v3) (iR rfl) n8 rfl
 rintro ⟨_,v6⟩ τ hz;(try dsimp only at hz);subst q7;(try dsimp only at h);dsimp only [az]
 refine ae (af ?_)
 refine ap rfl (bN (css:=List.map Zd.enc ([]:List Zd)) rfl rfl rfl rfl rfl (by (simp only [List.map_cons,List.map_nil,Zd.enc_eq];(repeat (first | exact kf | apply ij rfl)))) rfl (by (simp only [List.map_cons,List.map_nil,Zd.enc_eq];rfl)) rfl rfl (fun b9=>?_))
 refine aa h fun l11 hl11 h=>aa h fun l12 hl12 h=>aU 8 [1,1] (rg 13 7) [(20,pL Zd.enc l11)] (vz 7 Zd.enc 7 Zd.enc_len hl11 bj) (by kernel_rfl) ?_
 refine ap rfl (iq (enc:=Zd.enc) rfl rfl rfl rfl rfl Zd.enc_lenb rfl rfl rfl (by exact aO) hl12 (fun a13 c14=>?_))
 refine aN [(6,pO a13 l12.length c14)] (by kernel_rfl) (cj (ak [(7,pI 0)] (by kernel_rfl) (ft h fun q22 hq22 h=>?_)))
 refine ar (Y:=Unit×((List Zd))) (fun (_,l20)=>[(2,pP b1 0),(4,pP b2 0),(6,pO a13 l12.length c14)]) (fun (_,l20)=>[PRes.b b1 84 (an p0),PRes.b b2 84 [pI 0,pI 0,pN,pI 0,pI 0,pS ByteArray.empty,pN],PRes.row a13 l12.length c14 84 7 (List.map Zd.enc l20)]) (fun (_,l20)=>q22=l20) ?_ ?_
 ·refine av ?_
  refine aC (Y:=Unit) (S:=(List Zd)×Int) _ hq22 (fun _ (l17,v18)=>[(1,pI p1),(2,pP b1 0),(4,pP b2 0),(6,pO a13 l12.length c14),(7,pI v18)]) (fun _ (l17,v18)=>[PRes.b b1 84 (an p0),PRes.b b2 84 [pI 0,pI 0,pN,pI 0,pI 0,pS ByteArray.empty,pN],PRes.row a13 l12.length c14 84 7 (List.map Zd.enc l17)]) () (ns rfl) (be (aB aO) (be (aB aO) cK)) ?_
  rintro _ ⟨l17,v18⟩ o τ hb21;(try dsimp only at hb21);dsimp only [az]
  refine cT (bF [22,23,24] [(25,pB (decide (v18<((l12.length:Nat):Int))))] (by kernel_rfl) rfl hb21 (fun hc23 hb21=>?_) fun hc23 hb21=>?_)
  ·refine ah ?_
   refine bZ (av (aa hb21 fun m24 hm24 hb21=>af (aD 4 [(28,pO a13 l12.length c14),(29,pI v18),(30,pO a13 l12.length c14),(31,pI v18)] (by kernel_rfl) (bX rfl rfl rfl (eA (enc:=Zd.enc) (xs:=l17) rfl rfl rfl (.p rfl) um (.p rfl) (fun _=>hm24)) ?_))))
   refine bX rfl rfl rfl (dY (sz:=7) (p:=.agg (an m24)) (enc:=Zd.enc) (xs:=l17) (a:=a13) v18 0 m24 rfl (.p rfl) rfl um (fun _=>hm24) (by rw [Zd.enc_eq];rfl)) ?_
   refine aa hb21 fun x25 hx25 hb21=>aa hb21 fun m26 hm26 hb21=>aU 3 [] [34,35] [(36,.agg (an x25))] (bg 2 (hrec hx25) bj) (by kernel_rfl) (bX rfl rfl rfl (eA (enc:=Zd.enc) (xs:=l17) rfl rfl rfl (.p rfl) um (.p rfl) (fun _=>hm26)) ?_)
   refine aP rfl rfl (mV (enc:=Zd.enc) (xs:=l17) (a:=a13) v18 0 m26 x25 rfl rfl rfl rfl Zd.enc_lenb rfl rfl hm26 (by rw [Zd.enc_eq,Zd.enc_eq];(repeat (first | exact zln | apply ry | apply dX))) (dA (dA ce)) ?_)
   refine aF (dI (ai [26,27] [(7,pI (IntKind.i64.wrap (v18+1)))] (by kernel_rfl) ?_))
   exact aS hb21 () (ns rfl) A7
  refine aH ?_
  refine cq hb21 (fun ht=>aj rfl ?_)
  exact aw ((),l17) (nV rfl) A7 ht.symm
 rintro ⟨_,l20⟩ τ hz;(try dsimp only at hz);subst q22;(try dsimp only at h);dsimp only [az]
 refine ae (af (aD 2 [(38,pO a13 l12.length c14),(39,pP b1 6)] (by kernel_rfl) (aP rfl rfl (am (vs:=[pO a13 l12.length c14]) rfl rfl rfl rfl rfl ce (dX (dX (dX (dX (dX (dX oA)))))) (aF (bZ (af ?_)))))))
 refine lw (css:=List.map Zd.enc l20) (a:=a13) (by exact aB (aB aO)) ?_
 refine jd (k:=6) (enc:=Zd.enc) (xs:=l20) (b:=b1) (a:=a13) rfl gb (dA ce) (gt 1 [1] [(40,.agg [pI p0.Kind,pI p0.Digits,pL eS p0.Except,pI p0.Tolerance,pI p0.Limit,pS p0.Name,pL Zd.enc l20])] (by kernel_rfl) (aP rfl rfl (am (vs:=[pI p0.Kind,pI p0.Digits,pL eS p0.Except,pI p0.Tolerance,pI p0.Limit,pS p0.Name,pL Zd.enc l20]) rfl rfl rfl rfl rfl (dA (dA ce)) mX (aF (cX ?_)))))
 obtain rfl:=osi h
 exact aM (dp (dC rfl um rfl)) bB ⟨rfl,rfl⟩
def jG (n:Nat):Zd→Int→Option Zd:=Nat.rec (motive:=fun _=>Zd→Int→Option Zd) (fun _ _=>none) (fun _ ih=>gG ih) n
def tX (p0:Zd) (p1:Int):Option Zd:=jG FUEL p0 p1
theorem uA (n:Nat):∀ {p0:Zd} {p1:Int} {r:Zd},jG n p0 p1=some r→PF 76 [.agg (an p0),pI p1] (.agg (an r)):=by
 induction n with
 | zero=>intros;rename_i h;exact nomatch h
 | succ n ih=>intros;rename_i h;exact tw (fun hr=>ih hr) h
theorem vW {p0:Zd} {p1:Int} {r:Zd} (h:tX p0 p1=some r):PF 76 [.agg (an p0),pI p1] (.agg (an r)):=uA FUEL h
def eO (p0:(List Zb)):Option (List Zb):=(app 64 ([]:List Zb) p0).bind fun l3=>(aT (S:=(List Zb)×Int) (T:=((List Zb))) (fun (l8,v9)=>cond (decide (v9<((l3.length:Nat):Int))) ((idx l8 v9).bind fun m17=>(app 112 ([]:List Zh) m17.Rules).bind fun l18=>(aT (S:=(List Zh)×Int) (T:=((List Zh))) (fun (l23,v24)=>cond (decide (v24<((l18.length:Nat):Int))) ((idx l23 v24).bind fun m31=>(tX m31.Rule 5).bind fun x32=>(idx l23 v24).bind fun m33=>some (.inl ((l23.set v24.toNat (⟨m33.Prefix,x32⟩:Zh)),(IntKind.i64.wrap (v24+1))))) (some (.inr l23))) FUEL (l18,0)).bind fun l27=>(idx l8 v9).bind fun m35=>some (.inl ((l8.set v9.toNat (⟨m35.ID,m35.Kind,m35.Parties,l27⟩:Zb)),(IntKind.i64.wrap (v9+1))))) (some (.inr l8))) FUEL (l3,0)).bind fun l11=>some l11
theorem nO {p0:(List Zb)} {r:(List Zb)}  (h:eO p0=some r):PF 28 [pL Zb.enc p0] (pL Zb.enc r):=by
 unfold eO at h
 refine bd ?_
 refine du Tryz.func28 rfl Tryz.ntmps28 Tryz.results28 rfl (aW [2] (by kernel_rfl) (bZ (da rfl (bN rfl rfl rfl rfl rfl kf rfl rfl rfl rfl (fun b1=>aa h fun l3 hl3 h=>aD 1 [(7,pL Zb.enc p0)] (by kernel_rfl) ?_)))))
 refine ap rfl (iq (enc:=Zb.enc) rfl rfl rfl rfl rfl (fun _=>rfl) rfl rfl rfl (by exact aO) hl3 (fun a4 c5=>?_))
 refine aN [(0,pO a4 l3.length c5)] (by kernel_rfl) (cj (ak [(3,pI 0)] (by kernel_rfl) (ft h fun q13 hq13 h=>?_)))
 refine ar (Y:=Unit×((List Zb))) (fun (_,l11)=>[(0,pO a4 l3.length c5)]) (fun (_,l11)=>[PRes.row a4 l3.length c5 81 4 (List.map Zb.enc l11)]) (fun (_,l11)=>q13=l11) ?_ ?_
 ·refine av ?_
  refine aC (Y:=Unit) (S:=(List Zb)×Int) _ hq13 (fun _ (l8,v9)=>[(0,pO a4 l3.length c5),(3,pI v9)]) (fun _ (l8,v9)=>[PRes.row a4 l3.length c5 81 4 (List.map Zb.enc l8)]) () (mq rfl) cK ?_
  rintro _ ⟨l8,v9⟩ o τ hb12;(try dsimp only at hb12);dsimp only [az]
  refine cT (bF [9,10,11] [(12,pB (decide (v9<((l3.length:Nat):Int))))] (by kernel_rfl) rfl hb12 (fun hc14 hb12=>?_) fun hc14 hb12=>?_)
  ·refine ah ?_
   refine dJ (da rfl (bN rfl rfl rfl rfl rfl kf rfl rfl rfl rfl (fun b15=>aa hb12 fun m17 hm17 hb12=>aD 2 [(16,pO a4 l3.length c5),(17,pI v9)] (by kernel_rfl) (bX rfl rfl rfl (eA (enc:=Zb.enc) (xs:=l8) rfl rfl rfl (.p rfl) wU (.p rfl) (fun _=>hm17)) (aD 1 [(19,pP (rC a4) (v9.toNat * 4+3))] (by kernel_rfl) (bX rfl rfl rfl (dY (sz:=4) (p:=pL Zh.enc m17.Rules) (enc:=Zb.enc) (xs:=l8) (a:=a4) v9 3 m17 rfl (.p rfl) rfl wU (fun _=>hm17) rfl) (aa hb12 fun l18 hl18 hb12=>?_)))))))
   refine ap rfl (iq (enc:=Zh.enc) rfl rfl rfl rfl rfl (fun _=>rfl) rfl rfl rfl (by exact aO) hl18 (fun a19 c20=>?_))
   refine aN [(4,pO a19 l18.length c20)] (by kernel_rfl) (cj (ak [(5,pI 0)] (by kernel_rfl) (ft hb12 fun q29 hq29 hb12=>?_)))
   refine ar (Y:=Unit×((List Zh))) (fun (_,l27)=>[(0,pO a4 l3.length c5),(3,pI v9),(4,pO a19 l18.length c20)]) (fun (_,l27)=>[PRes.row a4 l3.length c5 81 4 (List.map Zb.enc l8),PRes.row a19 l18.length c20 87 8 (List.map Zh.enc l27)]) (fun (_,l27)=>q29=l27) ?_ ?_
   ·refine av ?_
    refine aC (Y:=Unit) (S:=(List Zh)×Int) _ hq29 (fun _ (l23,v24)=>[(0,pO a4 l3.length c5),(3,pI v9),(4,pO a19 l18.length c20),(5,pI v24)]) (fun _ (l23,v24)=>[PRes.row a19 l18.length c20 87 8 (List.map Zh.enc l23),PRes.row a4 l3.length c5 81 4 (List.map Zb.enc l8)]) () (iR rfl) n8 ?_
    rintro _ ⟨l23,v24⟩ o τ hb28;(try dsimp only at hb28);dsimp only [az]
    refine cT (bF [22,23,24] [(25,pB (decide (v24<((l18.length:Nat):Int))))] (by kernel_rfl) rfl hb28 (fun hc30 hb28=>?_) fun hc30 hb28=>?_)
    ·refine ah ?_
     refine bZ (av (aa hb28 fun m31 hm31 hb28=>af (aD 4 [(28,pO a19 l18.length c20),(29,pI v24),(30,pO a19 l18.length c20),(31,pI v24)] (by kernel_rfl) (bX rfl rfl rfl (eA (enc:=Zh.enc) (xs:=l23) rfl rfl rfl (.p rfl) gb (.p rfl) (fun _=>hm31)) (aD 1 [(33,pP (rC a19) (v24.toNat * 8+1))] (by kernel_rfl) (bX rfl rfl rfl (dY (sz:=8) (p:=.agg (an m31.Rule)) (enc:=Zh.enc) (xs:=l23) (a:=a19) v24 1 m31 rfl (.p rfl) rfl gb (fun _=>hm31) rfl) (aa hb28 fun x32 hx32 hb28=>aa hb28 fun m33 hm33 hb28=>aU 1 [] [] [(35,.agg (an x32))] (bg 0 (vW hx32) bj) (by kernel_rfl) (bX rfl rfl rfl (eA (enc:=Zh.enc) (xs:=l23) rfl rfl rfl (.p rfl) gb (.p rfl) (fun _=>hm33)) (aD 1 [(37,pP (rC a19) (v24.toNat * 8+1))] (by kernel_rfl) (aP rfl rfl (mV (enc:=Zh.enc) (xs:=l23) (a:=a19) v24 1 m33 (⟨m33.Prefix,x32⟩:Zh) rfl rfl rfl rfl (fun _=>rfl) rfl rfl hm33 (dX mX) ce (aF (dI (ai [26,27] [(5,pI (IntKind.i64.wrap (v24+1)))] (by kernel_rfl) ?_))))))))))))))
     exact aS hb28 () (iR rfl) n8
    refine aH ?_
    refine cq hb28 (fun ht=>aj rfl ?_)
    exact aw ((),l23) (nV rfl) (be (aB aO) cK) ht.symm
   rintro ⟨_,l27⟩ τ hz;(try dsimp only at hz);subst q29;(try dsimp only at hb12);dsimp only [az]
   refine aa hb12 fun m35 hm35 hb12=>af (aD 3 [(38,pO a4 l3.length c5),(39,pI v9),(40,pO a19 l18.length c20)] (by kernel_rfl) (bX rfl rfl rfl (eA (enc:=Zb.enc) (xs:=l8) rfl rfl rfl (.p rfl) gb (.p rfl) (fun _=>hm35)) (aD 1 [(42,pP (rC a4) (v9.toNat * 4+3))] (by kernel_rfl) ?_)))
   refine ip (enc:=Zh.enc) (xs:=l27) 40 rfl (by exact aB aO) ?_
   refine aP rfl rfl (mV (enc:=Zb.enc) (xs:=l8) (a:=a4) v9 3 m35 (⟨m35.ID,m35.Kind,m35.Parties,l27⟩:Zb) rfl rfl rfl rfl (fun _=>rfl) rfl rfl hm35 (dX (dX (dX oA))) (dA ce) (aF (dI (ai [13,14] [(3,pI (IntKind.i64.wrap (v9+1)))] (by kernel_rfl) ?_))))
   exact aS hb12 () (mq rfl) (be (aB aO) bB)
  refine aH ?_
  refine cq hb12 (fun ht=>aj rfl ?_)
  exact aw ((),l8) (rD rfl) cK ht.symm
 rintro ⟨_,l11⟩ τ hz;(try dsimp only at hz);subst q13;(try dsimp only at h);dsimp only [az]
 refine ae (ai [43] [(2,pO a4 l3.length c5)] (by kernel_rfl) (aX ?_))
 refine fe (enc:=Zb.enc) (xs:=l11) 2 rfl (by exact aO) ?_
 refine bR ?_
 exact zz r h rfl
def i6 (rec:Zg→Zl→Option ((List Int)×Bool)) (p0:(List Zg)) (p1:Zl):Option ((List Int)×Bool):=(aT (S:=(List Int)×Int) (T:=((List Int))⊕(_)) (fun (l3,v6)=>cond (decide (v6<(p0.length:Int))) ((idx p0 v6).bind fun m15=>(rec m15 p1).bind fun x16=>cond (!x16.2) (some (.inr (.inr ([],false)))) ((app 8 l3 x16.1).bind fun l18=>some (.inl (l18,(IntKind.i64.wrap (v6+1)))))) (some (.inr (.inl l3)))) FUEL (([]:List Int),0)).bind fun q=>match q with | .inl l10=>some (l10,true) | .inr e=>some e
def mt (p1:Int):Option (List Int):=(DM 8 p1).bind fun _=>some []
def f0 (p0:(List (List Int))):Option (List Int):=(aT (S:=Int×Int) (T:=(Int)) (fun (v1,v2)=>cond (decide (v2<(p0.length:Int))) ((idx p0 v2).bind fun m7=>cond (decide ((IntKind.i64.wrap (v1+(m7.length:Int)))<0)) (none) (some (.inl ((IntKind.i64.wrap (v1+(m7.length:Int))),(IntKind.i64.wrap (v2+1)))))) (some (.inr v1))) FUEL (0,0)).bind fun v3=>(mt v3).bind fun x9=>(aT (S:=(List Int)×Int) (T:=((List Int))) (fun (l14,v17)=>cond (decide (v17<(p0.length:Int))) ((idx p0 v17).bind fun m25=>(app 8 l14 m25).bind fun l26=>some (.inl (l26,(IntKind.i64.wrap (v17+1))))) (some (.inr l14))) FUEL (x9,0)).bind fun l21=>some l21
def jo (rec:Zg→Zl→Option ((List Int)×Bool)) (p0:(List Zg)) (p1:Zl):Option ((List Int)×Bool):=(aT (S:=Int) (T:=(Unit)⊕(_)) (fun v2=>cond (decide (v2<(p0.length:Int))) ((idx p0 v2).bind fun m6=>(rec m6 p1).bind fun x7=>cond x7.2 ((f0 [[v2],x7.1]).bind fun x13=>some (.inr (.inr (x13,true)))) (some (.inl (IntKind.i64.wrap (v2+1))))) (some (.inr (.inl ())))) FUEL 0).bind fun q=>match q with | .inl _=>some ([],false) | .inr e=>some e
def jq (p0:Zu) (p1:Zl):Option ((List Int)×Bool):=(rule_holds p0.rule p1).bind fun x3=>some ([],x3)
def Irule_test_witness_B (rec:Zg→Zl→Option ((List Int)×Bool)) (x:Zg) (y0:Zl):Option ((List Int)×Bool):=match x with | .single_ a=>jq a y0 | .every_ a=>i6 rec a y0 | .some_ a=>jo rec a y0
def Irule_test_witness_F (n:Nat):Zg→Zl→Option ((List Int)×Bool):=Nat.rec (motive:=fun _=>Zg→Zl→Option ((List Int)×Bool)) (fun _ _=>none) (fun _ ih=>Irule_test_witness_B ih) n
def Irule_test_witness (x:Zg) (y0:Zl):Option ((List Int)×Bool):=Irule_test_witness_F FUEL x y0
end SX
namespace SX
open Go
abbrev bl (s:ByteArray):List UInt8:=s.data.toList
theorem bl_hi (s:ByteArray) (k:Nat):bl (s.extract 0 k)=(bl s).take k:=by simp [bl]
theorem bl_lo (s:ByteArray) (k:Nat):bl (s.extract k s.size)=(bl s).drop k:=by
  simp only [bl,ByteArray.data_extract,Array.toList_extract,List.extract_eq_take_drop]
  rw [List.take_of_length_le];simp
theorem mG (s:ByteArray):s.size=(bl s).length:=by simp [bl]
theorem bl_inj {s u:ByteArray} (h:bl s=bl u):s=u:=by
  obtain ⟨⟨x⟩⟩:=s;obtain ⟨⟨y⟩⟩:=u;simp [bl] at h;subst h;rfl
def kB (n:Nat):Bool:=decide (48≤n∧n≤57)
def fX (p:Nat→Bool):List Value:=(List.range 256).map fun i=>.bool (p i)
theorem fC (p:Nat→Bool):(fX p).length=256:=by simp [fX]
theorem mH (p:Nat→Bool) {j:Nat} (h:j<256):(fX p)[j]?=some (.bool (p j)):=by simp [fX,h]
theorem yP (p q:Nat→Bool) {j:Nat} (h:∀ i,q i=(decide (i=j)||p i)):(fX p).set j (.bool true)=fX q:=by
  apply List.ext_getElem?
  intro i
  rw [List.getElem?_set]
  simp only [fC]
  rcases Nat.lt_or_ge i 256 with hi | hi
  · rw [mH q hi,mH p hi,h i]
    by_cases e:j=i
    · subst e;simp [hi]
    · rw [if_neg e];simp [show ¬ i=j from fun h=>e h.symm]
  · rw [List.getElem?_eq_none (by rw [fC];exact hi),List.getElem?_eq_none (by rw [fC];exact hi)]
    split
    · rw [if_neg (by omega)]
    · rfl
section
variable {o:Oper} {σ:Env} {ρ:List Res} {κ:Kr} {c:Bool} {x y:Operand} {K:Value→List Res→Kr→Prop}
theorem Sh.at1 {b k:Nat} {cs:List Value} {v:Value} (h:Sh κ b 0 cs) (hv:cs[k]?=some v):Sh κ b (0+k*1) [v]:=⟨h.1,fun j u hu=>by
  cases j with
  | zero=>simp at hu;subst hu;have:=h.2 k v hv;simpa using this
  | succ j=>simp at hu⟩
theorem An {t b T sz by':Nat} {cs:List Value} {z:Value} {d:TypeDesc} (ho:o.op=.load t x) (hx:Ev σ c x (.pointer (some ⟨b,0,none⟩))) (hm:Res.b b T cs∈ρ) (hd:eY t=some d) (ha:lW d=true) (hi:gr t=some (z,sz,by')) (hl:cs.length=sz):OpQ c o σ ρ κ (.agg cs.toArray):=by
  refine xj ho hx hm ?_
  unfold kj
  simp only [hd,hi,ha,cond_true,List.drop_zero]
  rw [Nat.ble_eq_true_of_le (by omega)]
  simp [← hl]
end
attribute [local irreducible] WL WC WD OpL OpQ OpG Ev GuardIs Bc lV EK Call CallP midK vi Holds uW Sub Pick WS Step Lit Upd SetAt SpliceAt FillR Sh LateRun
theorem tY (κ:Kr) (b:Nat) (p:Nat→Bool) (m:Int) (hs:Sh κ b 0 (fX p)) (h0:0≤m) (h1:m≤255):CallP 204 [.pointer (some ⟨b,0,none⟩),.int .u8 m] κ fun v _=>v=.bool (p m.toNat):=by
  (unfold CallP;apply oG Tryz.func204 (GT Tryz.func204 rfl) rfl Tryz.ntmps204 Tryz.results204 rfl)
  repeat (first | (first | (apply eZ rfl rfl rfl;(focus (first | exact bY (v:=(.int _ _)) rfl (.p rfl) | exact bY (v:=(.pointer _)) rfl (.p rfl) | exact cA (v:=(.bool _)) rfl (.p rfl) | exact pX rfl (.p rfl)))) | apply dB) | (first | apply el | apply bH | apply ef))
  apply eZ rfl rfl rfl (xo (j:=m.toNat) rfl rfl rfl (.p rfl) (.p rfl) (fun _=>by omega) (fun _=>by omega))
  apply eZ rfl rfl rfl (sV rfl (.p rfl) (fun _=>(hs.mono (by (repeat (exact Kle.refl _)))).at1 (mH p (by omega))) rfl)
  repeat (first | (first | (apply eZ rfl rfl rfl;(focus (exact cA (v:=(.bool _)) rfl (.p rfl)))) | apply dB) | (first | apply ef | apply mQ))
  exact nI (yo (v:=.bool _) rfl) .none ⟨rfl,rfl⟩
def jH:ByteArray:=⟨#[48,49,50,51,52,53,54,55,56,57]⟩
theorem yQ:∀ {k:Nat},k<10→((jH.data.toList.getD k 0).toNat:Int)=48+(k:Int):=by decide
theorem FP (κ:Kr):CallP 180 [.string jH] κ fun v _=>v=.tuple #[.agg (fX kB).toArray,.bool true]:=by
  (unfold CallP;apply oG Tryz.func180 (GT Tryz.func180 rfl) rfl Tryz.ntmps180 Tryz.results180 rfl)
  repeat (first | (first | (apply eZ rfl rfl rfl;(focus (first | exact cA (v:=(.int _ _)) rfl (.p rfl) | exact cA (v:=(.bool _)) rfl (.p rfl)))) | (apply zo rfl rfl rfl;apply xk rfl rfl;intro _ _ _) | apply dB) | (first | apply el | apply bH | apply ki | apply ef))
  rename_i b2 κ1 _
  have e0:List.replicate 256 (Value.bool false)=fX (fun i=>decide (48≤i∧i<48+0)):=by
    apply List.ext_getElem?
    intro i
    rcases Nat.lt_or_ge i 256 with hi | hi
    · rw [mH _ hi,List.getElem?_replicate,if_pos hi];congr 2;symm;rw [decide_eq_false_iff_not];omega
    · rw [List.getElem?_eq_none (by simpa using hi),List.getElem?_eq_none (by rw [fC];exact hi)]
  rw [e0]
  refine sg (X:=Nat) (fun k=>[(0,.string jH),(2,.pointer (some ⟨b2,0,none⟩)),(4,.int .i64 (k:Int))]) (fun k=>[Res.b b2 243 (fX fun i=>decide (48≤i∧i<48+k))]) (fun k _=>k≤10) (fun k=>10 - k) 0 (by (repeat (first | exact Holds.nil | apply Holds.cons rfl))) (by (repeat (first | exact Sub.nil | (apply Sub.cons;(focus (repeat (exact Pick.h))))))) (by omega) ?_
  intro k τ κ2 _ hk
  simp only [uW]
  repeat (first | (first | (apply eZ rfl rfl rfl;(focus (first | exact bY (v:=(.int _ _)) rfl (.p rfl) | exact bY (v:=(.string _)) rfl (.p rfl) | exact oD rfl (.p rfl) (.p rfl) rfl | exact nx rfl rfl (.p rfl)))) | apply dB) | (first | apply el | apply bH | apply ef))
  apply yp rfl <;> intro hc
  · have hk10:k<10:=by
      have e:(jH.size:Int)=10:=rfl
      rw [e] at hc;omega
    repeat (first | (apply eZ rfl rfl rfl;(focus (first | exact bY (v:=(.int _ _)) rfl (.p rfl) | exact bY (v:=(.string _)) rfl (.p rfl)))) | (first | apply el | apply bH | apply ki | apply ef | apply kh))
    apply eZ rfl rfl rfl (nX (s:=jH) (j:=k) rfl rfl (.p rfl) (.p rfl) (fun _=>rfl) (fun _=>hk10))
    rw [yQ hk10]
    repeat (first | (first | (apply eZ rfl rfl rfl;(focus (first | exact bY (v:=(.int _ _)) rfl (.p rfl) | exact cA (v:=(.int _ _)) rfl (.p rfl) | exact oD rfl (.p rfl) (.p rfl) rfl))) | apply dB) | (first | apply el | apply bH | apply ef))
    apply EB (by have:¬ (128:Int)≤48+(k:Int):=by omega
                 simp [ev,upd,this])
    repeat (first | (apply eZ rfl rfl rfl;(focus (exact bY (v:=(.int _ _)) rfl (.p rfl)))) | (first | apply bH | apply ef | apply kh))
    apply eZ rfl rfl rfl (xo (j:=48+k) rfl rfl rfl (.p rfl) (.p rfl) (fun _=>by omega) (fun _=>by omega))
    apply Co rfl rfl
    apply Du (v:=.bool true) rfl rfl rfl rfl rfl rfl (by (repeat (exact Upd.h))) (by rw [fC];omega)
    intro κ3 _
    have e1:(fX fun i=>decide (48≤i∧i<48+k)).set (0+(48+k)*1) (.bool true)=fX fun i=>decide (48≤i∧i<48+(k+1)) :=
      yP _ _ fun i=>by rw [Bool.eq_iff_iff];simp;omega
    rw [e1]
    repeat (first | (first | (apply eZ rfl rfl rfl;(focus (first | exact bY (v:=(.int _ _)) rfl (.p rfl) | exact cA (v:=(.int _ _)) rfl (.p rfl) | exact oE rfl (.p rfl) (.p rfl) rfl (fun _=>by omega)))) | apply dB) | (first | apply bH | apply ef | apply qQ))
    exact yn (k+1) (by (repeat (first | exact Holds.nil | apply Holds.cons rfl))) (by (repeat (first | exact Sub.nil | (apply Sub.cons;(focus (repeat (exact Pick.h))))))) (by omega) (by omega)
  · have hk10:k=10:=by
      have e:(jH.size:Int)=10:=rfl
      rw [e] at hc;omega
    subst hk10
    have e2:(fun i=>decide (48≤i∧i<48+10))=kB:=by funext i;simp only [kB];rw [Bool.eq_iff_iff];simp;omega
    rw [e2]
    apply oC;apply kR;apply jU;apply kS rfl;apply ef;apply el;apply bH
    apply eZ rfl rfl rfl (An rfl (.p rfl) (by (repeat (exact List.Mem.head _))) rfl rfl rfl (fC _))
    apply Co rfl rfl
    apply xl rfl rfl rfl rfl (fC _) (by simp [fX,Value.oneCell']) (by (repeat (exact Upd.h))) rfl
    intro κ3 _
    repeat (first | (first | (apply eZ rfl rfl rfl;(focus (exact cA (v:=(.bool _)) rfl (.p rfl)))) | apply dB) | (first | apply ef | apply mQ))
    refine nI (rv_2 (RV1.cell rfl (by (repeat (exact List.Mem.head _))) ?_) (rv1_t (v:=.bool _) rfl)) .none ⟨rfl,rfl⟩
    unfold kj
    simp only [show eY 243=some (.array 256 4) from rfl,show gr 243=some (.agg (List.replicate 256 (.bool false)).toArray,256,256) from rfl,lW,cond_true,List.drop_zero,fC]
    rw [List.take_of_length_le (by rw [fC];omega)];rfl
theorem uR {l:List UInt8} {j:Nat} (h:j<l.length):l.getD j 0=l[j]:=by simp [List.getD_eq_getElem?_getD,h]
theorem yR (κ:Kr) (b:Nat) (s:ByteArray) (hs:Sh κ b 0 (fX kB)) (hz:s.size≤1000000000):CallP 182 [.string s,.pointer (some ⟨b,0,none⟩)] κ fun v _=>∃ u k,v=.string u∧bl u=(bl s).take k∧k≤(bl s).length∧(∀ c∈(bl s).drop k,kB c.toNat=true)∧(∀ c,(bl u).getLast?=some c→kB c.toNat=false):=by
  (unfold CallP;apply oG Tryz.func182 (GT Tryz.func182 rfl) rfl Tryz.ntmps182 Tryz.results182 rfl)
  repeat (first | (first | (apply eZ rfl rfl rfl;(focus (exact cA (v:=(.string _)) rfl (.p rfl)))) | apply dB) | (first | apply el | apply bH | apply ki | apply ef))
  refine sg (X:=ByteArray×Nat) (fun z=>[(0,.string z.1),(1,.pointer (some ⟨b,0,none⟩))]) (fun _=>[]) (fun z _=>bl z.1=(bl s).take z.2∧z.2≤(bl s).length∧∀ c∈(bl s).drop z.2,kB c.toNat=true) (fun z=>z.2) (s,(bl s).length) (by (repeat (first | exact Holds.nil | apply Holds.cons rfl))) (by (repeat (exact Sub.nil))) ⟨(List.take_length).symm,Nat.le_refl _,by rw [List.drop_length];simp⟩ ?_
  rw [mG] at hz
  rintro ⟨u,k⟩ τ κ2 _ ⟨h1,h2,h3⟩
  dsimp only at h1 h2 h3
  have hsz:u.size=k:=by rw [mG,h1,List.length_take];omega
  simp only [uW]
  repeat (first | (first | (apply eZ rfl rfl rfl;(focus (first | exact bY (v:=(.string _)) rfl (.p rfl) | exact oD rfl (.p rfl) (.p rfl) rfl | exact nx rfl rfl (.p rfl)))) | apply dB) | (first | apply el | apply bH | apply ef))
  apply yp rfl <;> intro hc
  · have hk0:0<k:=by omega
    repeat (first | (apply eZ rfl rfl rfl;(focus (first | exact bY (v:=(.pointer _)) rfl (.p rfl) | exact bY (v:=(.string _)) rfl (.p rfl) | exact oE rfl (.p rfl) (.p rfl) rfl (fun _=>by omega) | exact nx rfl rfl (.p rfl)))) | (first | apply el | apply bH | apply ki | apply ef | apply kh))
    apply eZ rfl rfl rfl (nX (j:=k - 1) rfl rfl (.p rfl) (.p rfl) (fun _=>by omega) (fun _=>by omega))
    have hlast:(bl u).getLast?=some ((bl u).getD (k - 1) 0):=by
      rw [List.getLast?_eq_getElem?,← mG,hsz,uR (by rw [← mG];omega),List.getElem?_eq_getElem]
    apply zo rfl rfl rfl;apply mR rfl rfl (tY _ b kB ((u.data.toList.getD (k - 1) 0).toNat:Int) (hs.mono (by (repeat (assumption)))) (by omega) (by have:=(u.data.toList.getD (k - 1) 0).toNat_lt;omega))
    rintro v κ3 _ rfl
    repeat (first | (first | (apply eZ rfl rfl rfl;(focus (exact Be rfl (.p rfl)))) | apply dB) | (apply ef))
    rw [Int.toNat_natCast]
    apply mv rfl <;> intro hb
    · repeat (first | (first | (apply eZ rfl rfl rfl;(focus (first | exact bY (v:=(.string _)) rfl (.p rfl) | exact cA (v:=(.string _)) rfl (.p rfl)))) | apply dB) | (first | apply el | apply bH | apply ef | apply mQ | apply oC | apply kR | apply kS rfl | apply vh rfl | apply jU))
      refine nI (yo (v:=.string _) rfl) .none ⟨rfl,u,k,rfl,h1,h2,h3,fun c hc=>?_⟩
      rw [hlast] at hc;injection hc with hc;subst hc;simpa using hb
    · repeat (first | (apply eZ rfl rfl rfl;(focus (first | exact bY (v:=(.string _)) rfl (.p rfl) | exact oE rfl (.p rfl) (.p rfl) rfl (fun _=>by omega) | exact nx rfl rfl (.p rfl)))) | (first | apply bH | apply ef | apply kh))
      apply eZ rfl rfl rfl (tO (h:=k - 1) rfl rfl (.p rfl) (.p rfl) (fun _=>by omega) (fun _=>by omega))
      repeat (first | (first | (apply eZ rfl rfl rfl;(focus (exact cA (v:=(.string _)) rfl (.p rfl)))) | apply dB) | (apply qQ))
      refine yn (u.extract 0 (k - 1),k - 1) (by (repeat (first | exact Holds.nil | apply Holds.cons rfl))) (by (repeat (exact Sub.nil))) ⟨?_,by ((try dsimp only at *) <;> omega),?_⟩ (by ((try dsimp only at *) <;> omega))
      · rw [bl_hi,h1,List.take_take];congr 1;omega
      · intro c hc
        rw [List.drop_eq_getElem_cons (by omega)] at hc
        rcases List.mem_cons.1 hc with rfl | hc
        · have e:(bl u).getD (k - 1) 0=(bl s)[k - 1]'(by omega):=by
            rw [uR (by rw [← mG];omega)];simp [h1]
          rw [← e];simpa using hb
        · rw [show k - 1+1=k by omega] at hc;exact h3 c hc
  · repeat (first | (first | (apply eZ rfl rfl rfl;(focus (first | exact bY (v:=(.string _)) rfl (.p rfl) | exact cA (v:=(.string _)) rfl (.p rfl)))) | apply dB) | (first | apply el | apply bH | apply ef | apply mQ | apply oC | apply kR | apply kS rfl | apply jU))
    refine nI (yo (v:=.string _) rfl) .none ⟨rfl,u,k,rfl,h1,h2,h3,fun c hc'=>?_⟩
    have:bl u=[]:=List.eq_nil_of_length_eq_zero (by rw [← mG];omega)
    rw [this] at hc';cases hc'
end SX
namespace SX
open Go
attribute [local irreducible] WL WC WD OpL OpQ OpG Ev GuardIs Bc lV EK Call CallP midK vi Holds uW Sub Pick WS Step Lit Upd SetAt SpliceAt FillR Sh LateRun
theorem Ao (κ:Kr) (b:Nat) (s:ByteArray) (hs:Sh κ b 0 (fX kB)):CallP 181 [.string s,.pointer (some ⟨b,0,none⟩)] κ fun v _=>∃ u k,v=.string u∧bl u=(bl s).drop k∧k≤(bl s).length∧(∀ c∈(bl s).take k,kB c.toNat=true)∧(∀ c,(bl u).head?=some c→kB c.toNat=false):=by
  (unfold CallP;apply oG Tryz.func181 (GT Tryz.func181 rfl) rfl Tryz.ntmps181 Tryz.results181 rfl)
  repeat (first | (first | (apply eZ rfl rfl rfl;(focus (exact cA (v:=(.string _)) rfl (.p rfl)))) | apply dB) | (first | apply el | apply bH | apply ki | apply ef))
  refine sg (X:=ByteArray×Nat) (fun z=>[(0,.string z.1),(1,.pointer (some ⟨b,0,none⟩))]) (fun _=>[]) (fun z _=>bl z.1=(bl s).drop z.2∧z.2≤(bl s).length∧∀ c∈(bl s).take z.2,kB c.toNat=true) (fun z=>(bl s).length - z.2) (s,0) (by (repeat (first | exact Holds.nil | apply Holds.cons rfl))) (by (repeat (exact Sub.nil))) ⟨rfl,Nat.zero_le _,by simp⟩ ?_
  rintro ⟨u,k⟩ τ κ2 _ ⟨h1,h2,h3⟩
  dsimp only at h1 h2 h3
  have hsz:u.size=(bl s).length - k:=by rw [mG,h1,List.length_drop]
  simp only [uW]
  repeat (first | (first | (apply eZ rfl rfl rfl;(focus (first | exact bY (v:=(.string _)) rfl (.p rfl) | exact oD rfl (.p rfl) (.p rfl) rfl | exact nx rfl rfl (.p rfl)))) | apply dB) | (first | apply el | apply bH | apply ef))
  apply yp rfl <;> intro hc
  · have hk0:k<(bl s).length:=by omega
    have hu0:0<(bl u).length:=by rw [← mG];omega
    repeat (first | (apply eZ rfl rfl rfl;(focus (first | exact bY (v:=(.pointer _)) rfl (.p rfl) | exact bY (v:=(.string _)) rfl (.p rfl)))) | (first | apply el | apply bH | apply ki | apply ef | apply kh))
    apply eZ rfl rfl rfl (nX (j:=0) rfl rfl (.p rfl) (.p rfl) (fun _=>by omega) (fun _=>by omega))
    have hhead:(bl u).head?=some ((bl u).getD 0 0):=by
      rw [List.head?_eq_getElem?,uR hu0,List.getElem?_eq_getElem hu0]
    apply zo rfl rfl rfl;apply mR rfl rfl (tY _ b kB ((u.data.toList.getD 0 0).toNat:Int) (hs.mono (by (repeat (assumption)))) (by omega) (by have:=(u.data.toList.getD 0 0).toNat_lt;omega))
    rintro v κ3 _ rfl
    repeat (first | (first | (apply eZ rfl rfl rfl;(focus (exact Be rfl (.p rfl)))) | apply dB) | (apply ef))
    rw [Int.toNat_natCast]
    apply mv rfl <;> intro hb
    · repeat (first | (first | (apply eZ rfl rfl rfl;(focus (first | exact bY (v:=(.string _)) rfl (.p rfl) | exact cA (v:=(.string _)) rfl (.p rfl)))) | apply dB) | (first | apply el | apply bH | apply ef | apply mQ | apply oC | apply kR | apply kS rfl | apply vh rfl | apply jU))
      refine nI (yo (v:=.string _) rfl) .none ⟨rfl,u,k,rfl,h1,h2,h3,fun c hc=>?_⟩
      rw [hhead] at hc;injection hc with hc;subst hc;simpa using hb
    · repeat (first | (apply eZ rfl rfl rfl;(focus (exact bY (v:=(.string _)) rfl (.p rfl)))) | (first | apply bH | apply ef | apply kh))
      apply eZ rfl rfl rfl (tP (l:=1) rfl rfl (.p rfl) (.p rfl) (fun _=>by omega) (fun _=>by omega))
      repeat (first | (first | (apply eZ rfl rfl rfl;(focus (exact cA (v:=(.string _)) rfl (.p rfl)))) | apply dB) | (apply qQ))
      refine yn (u.extract 1 u.size,k+1) (by (repeat (first | exact Holds.nil | apply Holds.cons rfl))) (by (repeat (exact Sub.nil))) ⟨?_,by ((try dsimp only at *) <;> omega),?_⟩ (by ((try dsimp only at *) <;> omega))
      · rw [bl_lo,h1,List.drop_drop]
      · intro c hc
        rw [List.take_add_one] at hc
        rcases List.mem_append.1 hc with hc | hc
        · exact h3 c hc
        · have e:(bl u).getD 0 0=(bl s)[k]'hk0:=by rw [uR hu0];simp [h1]
          rw [List.getElem?_eq_getElem hk0] at hc
          simp only [Option.toList_some,List.mem_cons,List.not_mem_nil,or_false] at hc
          subst hc;rw [← e];simpa using hb
  · repeat (first | (first | (apply eZ rfl rfl rfl;(focus (first | exact bY (v:=(.string _)) rfl (.p rfl) | exact cA (v:=(.string _)) rfl (.p rfl)))) | apply dB) | (first | apply el | apply bH | apply ef | apply mQ | apply oC | apply kR | apply kS rfl | apply jU))
    refine nI (yo (v:=.string _) rfl) .none ⟨rfl,u,k,rfl,h1,h2,h3,fun c hc'=>?_⟩
    have:bl u=[]:=List.eq_nil_of_length_eq_zero (by rw [← mG];omega)
    rw [this] at hc';cases hc'
def lp (s:ByteArray):Bool:=(bl s).all fun c=>kB c.toNat
theorem xJ {s:ByteArray}:s=⟨#[]⟩↔bl s=[]:=⟨fun h=>by rw [h],fun h=>bl_inj (by rw [h])⟩
theorem trim_ok (κ:Kr) (s:ByteArray) (hz:s.size≤1000000000):CallP 156 [.string s,.string jH] κ fun v _=>∃ u,v=.string u∧(u=⟨#[]⟩↔lp s=true):=by
  (unfold CallP;apply oG Tryz.func156 (GT Tryz.func156 rfl) rfl Tryz.ntmps156 Tryz.results156 rfl)
  repeat (first | (first | (apply eZ rfl rfl rfl;(focus (first | exact bY (v:=(.bool _)) rfl (.p rfl) | exact bY (v:=(.string _)) rfl (.p rfl) | exact cA (v:=(.string _)) rfl (.p rfl) | exact oq_or rfl (.p rfl) (.p rfl) (.g rfl) | exact yg rfl (.p rfl) (.p rfl) rfl))) | (apply uY;(focus (exact Cn rfl rfl rfl));rfl;rfl;(focus (first | (apply bY (v:=(.string _)) rfl;(focus (exact Ev.p rfl))) | (apply yg rfl (by (focus (exact Ev.g rfl))) (by (focus (exact Ev.p rfl)));rfl)))) | apply dB) | (first | apply el | apply bH | apply ef))
  apply mv rfl <;> intro hb
  · repeat (first | (first | (apply eZ rfl rfl rfl;(focus (first | exact bY (v:=(.string _)) rfl (.p rfl) | exact cA (v:=(.string _)) rfl (.p rfl)))) | apply dB) | (first | apply el | apply bH | apply ef | apply mQ | apply sX))
    have:s=⟨#[]⟩:=by simpa [jH] using hb
    refine nI (yo (v:=.string _) rfl) .none ⟨rfl,s,rfl,?_⟩
    subst this;simp [lp,bl]
  · have hne:¬ bl s=[]:=fun h=>by rw [xJ.2 h] at hb;simp at hb
    repeat (first | (first | (apply eZ rfl rfl rfl;(focus (first | exact bY (v:=(.bool _)) rfl (.p rfl) | exact bY (v:=(.string _)) rfl (.p rfl) | exact oD rfl (.p rfl) (.p rfl) rfl | exact nx rfl rfl (.p rfl)))) | (apply uY;(focus (exact oB rfl rfl rfl));rfl;rfl;(focus (apply bY (v:=(.string _)) rfl;(focus (exact Ev.p rfl)))))) | (first | apply el | apply bH | apply ef | apply kh))
    apply uY;(focus (exact oB rfl rfl rfl));rfl;rfl;exact nX (s:=jH) (j:=0) rfl rfl (.g rfl) (.p rfl) (fun _=>rfl) (fun _=>by decide)
    repeat (first | (first | (apply eZ rfl rfl rfl;(focus (exact Bd rfl (.p rfl) (.p rfl) (.g rfl)))) | (apply uY;(focus (exact oB rfl rfl rfl));rfl;rfl;(focus (apply oD rfl (by (focus (exact Ev.g rfl))) (by (focus (exact Ev.p rfl)));rfl))) | apply dB) | (apply ef))
    apply mv rfl <;> intro hb2
    · have e:(jH.size:Int)=10:=rfl
      rw [e] at hb2;simp at hb2
    repeat (first | (apply eZ rfl rfl rfl;(focus (exact bY (v:=(.string _)) rfl (.p rfl)))) | (first | apply el | apply bH | apply ef | apply kh))
    refine wl_fun rfl rfl rfl rfl rfl (FP _) fun κ1 _=>?_
    repeat (first | (first | (apply eZ rfl rfl rfl;(focus (first | exact bY (v:=(.bool _)) rfl (.p rfl) | exact bY (v:=(.tuple _)) rfl (.p rfl) | exact cA (v:=(.bool _)) rfl (.p rfl) | exact uZ rfl (.p rfl) rfl))) | (apply zo rfl rfl rfl;apply xk rfl rfl;intro _ _ _) | (apply Co rfl rfl;apply xl rfl rfl rfl rfl rfl rfl;(focus (repeat (exact Upd.h)));rfl;intro _ _) | apply dB) | (first | apply el | apply bH | apply ef))
    rename_i b5 _ _ _ _
    apply wc_pub (b:=b5) Pick.h rfl;intro κ3 _ hS hsays
    have hset:=EX hS hsays
    apply EA rfl
    repeat (first | (apply eZ rfl rfl rfl;(focus (exact bY (v:=(.string _)) rfl (.p rfl)))) | (first | apply el | apply bH))
    apply zo rfl rfl rfl;apply mR rfl rfl (yR _ b5 s (hset.mono (by (repeat (exact Kle.refl _)))) hz)
    rintro v κ4 _ ⟨u,k,rfl,h1,h2,h3,h4⟩
    apply zo rfl rfl rfl;apply mR rfl rfl (Ao _ b5 u (hset.mono (by (repeat (assumption)))))
    rintro v κ5 _ ⟨u2,k2,rfl,g1,g2,g3,g4⟩
    repeat (first | (first | (apply eZ rfl rfl rfl;(focus (exact cA (v:=(.string _)) rfl (.p rfl)))) | apply dB) | (first | apply ef | apply mQ | apply sX))
    refine nI (yo (v:=.string _) rfl) .none ⟨rfl,u2,rfl,?_⟩
    rw [xJ]
    unfold lp
    rw [List.all_eq_true]
    constructor
    · intro h
      have hk2:k2=(bl u).length:=by
        have:=congrArg List.length (g1.symm.trans h);simp only [List.length_drop,List.length_nil] at this;omega
      intro c hc
      rw [← List.take_append_drop k (bl s)] at hc
      rcases List.mem_append.1 hc with hc | hc
      · rw [← h1] at hc;rw [hk2,List.take_length] at g3;exact g3 c hc
      · exact h3 c hc
    · intro h
      have hu:bl u=[]:=by
        rcases List.eq_nil_or_concat (bl u) with hu | ⟨l,c,hu⟩
        · exact hu
        · have hc:=h4 c (by rw [hu];simp)
          have hm:c∈bl s:=List.mem_of_mem_take (i:=k) (by rw [← h1,hu];simp)
          rw [h c hm] at hc;cases hc
      rw [g1,hu];simp
def Glob (κ:Kr):Prop:=Sh κ 0 0 [.int .i64 2,.int .i64 4,.int .i64 6,.int .i64 8]
theorem Glob.mono {κ κ':Kr} (h:Glob κ) (k:Kle κ κ'):Glob κ':=Sh.mono h k
def cQ (s:ByteArray):Int:=if (s.size=2∨s.size=4∨s.size=6∨s.size=8)∧lp s=true then (s.size:Int) else 0
theorem gv_some {c:Bool} {v:Value} {P:ByteArray→Prop} (h:c=true→∃ u,v=.string u∧P u):∃ u,gv c v=gv c (.string u)∧(c=true→P u):=by
  cases c
  · exact ⟨⟨#[]⟩,by rw [iS,iS],fun h=>by cases h⟩
  · obtain ⟨u,rfl,h2⟩:=h rfl;exact ⟨u,rfl,fun _=>h2⟩
theorem FQ (κ:Kr) (s:ByteArray) (hg:Glob κ):CallP 109 [.string s] κ fun v _=>v=.int .i64 (cQ s):=by
  (unfold CallP;apply oG Tryz.func109 (GT Tryz.func109 rfl) rfl Tryz.ntmps109 Tryz.results109 rfl)
  repeat (first | (first | (apply eZ rfl rfl rfl;(focus (exact cA (v:=(.int _ _)) rfl (.p rfl)))) | apply dB) | (first | apply el | apply bH | apply ef))
  apply eZ rfl rfl rfl (sV rfl (.p rfl) (fun _=>hg) rfl)
  repeat (first | (first | (apply eZ rfl rfl rfl;(focus (exact bY (v:=(.int _ _)) rfl (.p rfl)))) | apply dB) | (first | apply ki | apply ef))
  refine sg (X:=Nat) (fun k=>[(0,.string s),(5,.agg #[.int .i64 2,.int .i64 4,.int .i64 6,.int .i64 8]),(6,.int .i64 (k:Int))]) (fun _=>[]) (fun k _=>k≤4∧∀ j,j<k→¬ (s.size=2*(j+1)∧lp s=true)) (fun k=>4 - k) 0 (by (repeat (first | exact Holds.nil | apply Holds.cons rfl))) (by (repeat (exact Sub.nil))) ⟨by omega,by omega⟩ ?_
  rintro k τ κ1 _ ⟨hk,hno⟩
  simp only [uW]
  repeat (first | (first | (apply eZ rfl rfl rfl;(focus (exact oD rfl (.p rfl) (.p rfl) rfl))) | apply dB) | (first | apply el | apply bH | apply ef))
  apply yp rfl <;> intro hc
  · have hk4:k<4:=by omega
    repeat (first | apply el | apply bH | apply ki | apply ef | apply kh)
    apply eZ rfl rfl rfl (Dt (cs:=[.int .i64 2,.int .i64 4,.int .i64 6,.int .i64 8]) (v:=.int .i64 (2*((k:Int)+1))) (j:=k) rfl rfl rfl rfl rfl (.p rfl) (.p rfl) (fun _=>rfl) (fun _=>hk4) (fun _=>by
      have:k=0∨k=1∨k=2∨k=3:=by omega
      rcases this with rfl | rfl | rfl | rfl <;> rfl))
    repeat (first | (first | (apply eZ rfl rfl rfl;(focus (first | exact bY (v:=(.int _ _)) rfl (.p rfl) | exact bY (v:=(.bool _)) rfl (.p rfl) | exact bY (v:=(.string _)) rfl (.p rfl) | exact cA (v:=(.int _ _)) rfl (.p rfl) | exact oD rfl (.p rfl) (.p rfl) rfl | exact nx rfl rfl (.p rfl)))) | (apply uY;(focus (exact oB rfl rfl rfl));rfl;rfl;(focus (apply bY (v:=(.string _)) rfl;(focus (exact Ev.p rfl))))) | apply dB) | (first | apply el | apply bH | apply ef))
    apply wl_g;(focus (exact oB rfl rfl rfl));rfl;rfl
    refine zw rfl (ar2 (.g rfl) (.p rfl)) (fun hcc=>trim_ok _ s (by simp at hcc;omega)) fun v κ2 _ hv=>?_
    obtain ⟨u,hu,hP⟩:=gv_some hv
    rw [hu]
    repeat (first | (first | (apply eZ rfl rfl rfl;(focus (exact Bd rfl (.p rfl) (.p rfl) (.g rfl)))) | (apply uY;(focus (exact oB rfl rfl rfl));rfl;rfl;(focus (apply yg rfl (by (focus (exact Ev.g rfl))) (by (focus (exact Ev.p rfl)));rfl))) | apply dB) | (apply ef))
    apply mv rfl <;> intro hb
    · simp only [Bool.and_eq_true,beq_iff_eq,decide_eq_true_eq] at hb
      have hd:lp s=true:=(hP (by simpa using hb.1)).1 hb.2
      repeat (first | (first | (apply eZ rfl rfl rfl;(focus (first | exact bY (v:=(.int _ _)) rfl (.p rfl) | exact cA (v:=(.int _ _)) rfl (.p rfl)))) | apply dB) | (first | apply el | apply bH | apply ef | apply mQ | apply sX | apply zF | apply Bg))
      refine nI (yo (v:=.int _ _) rfl) .none ⟨rfl,?_⟩
      show Value.int .i64 (2*((k:Int)+1))=.int .i64 (cQ s)
      unfold cQ
      rw [if_pos ⟨by omega,hd⟩,← hb.1]
    · repeat (first | (first | (apply eZ rfl rfl rfl;(focus (first | exact bY (v:=(.int _ _)) rfl (.p rfl) | exact oE rfl (.p rfl) (.p rfl) rfl (fun _=>by omega)))) | apply dB) | (first | apply bH | apply ef | apply kh | apply qQ))
      refine yn (k+1) (by (repeat (first | exact Holds.nil | apply Holds.cons rfl))) (by (repeat (exact Sub.nil))) ⟨by omega,fun j hj=>?_⟩ (by omega)
      rcases Nat.lt_or_ge j k with h | h
      · exact hno j h
      · have:j=k:=by omega
        subst this
        rintro ⟨h1,h2⟩
        have hcc:((s.size:Int) == 2*((j:Int)+1))=true:=by simp;omega
        have:=(hP (by simpa using hcc)).2 h2
        subst this
        rw [hcc] at hb;simp at hb
  · repeat (first | (first | (apply eZ rfl rfl rfl;(focus (exact cA (v:=(.int _ _)) rfl (.p rfl)))) | apply dB) | (first | apply el | apply bH | apply ef | apply mQ | apply oC | apply kR | apply kS rfl | apply jU))
    refine nI (yo (v:=.int _ _) rfl) .none ⟨rfl,?_⟩
    show Value.int .i64 0=.int .i64 (cQ s)
    unfold cQ
    rw [if_neg]
    rintro ⟨h1,h2⟩
    have:k=4:=by omega
    subst this
    rcases h1 with h1 | h1 | h1 | h1
    · exact hno 0 (by omega) ⟨h1,h2⟩
    · exact hno 1 (by omega) ⟨h1,h2⟩
    · exact hno 2 (by omega) ⟨h1,h2⟩
    · exact hno 3 (by omega) ⟨h1,h2⟩
end SX
namespace SX
open Go
def dW (p0:ByteArray):Option Int:=some (cQ p0)
theorem f8 {p0:ByteArray} {r:Int} (h:dW p0=some r):PF 109 [.v (.string p0)] (.v (.int .i64 r)):=fun κ args g ha=>by
 obtain ⟨v,ws,rfl,h1,h2⟩:=ha.cons_inv
 rw [h2.nil_inv,h1.val]
 have h:=Option.some.inj h;subst h
 exact (FQ κ p0 g).mono fun v κ' _ hv=>by subst hv;exact .v rfl
def itr (b:Nat) (s:ByteArray) (pos:Nat):Res:=⟨some b,fun o=>o=some (.stringIter s pos)⟩
theorem FS {o:Oper} {σ:PEnv} {ρ:List PRes} {x:Operand} {t:Nat} {s:ByteArray} {K:PV→List PRes→Prop} (ho:o.op=.range t x) (hu:eY t=some .string) (hx:bz σ x=.v (.string s)) (h:∀ b,K (.v (.pointer (some ⟨b,0,none⟩))) (.raw (itr b s 0)::ρ)):POpL o σ ρ K:=fun κ σ' ρ' g hs hr β hi Nx hk=>by
 have e1:=hs.v1 hx
 have h1:=run_underlying (w:=κ.w) (bq hu)
 have hrun:(execOp (ev σ') o).run Tryz.prog κ.w=.ok (.value (.pointer (some ⟨κ.w.heap.size,0,none⟩))) (κ.w.alloc (.stringIter s 0)):=by
  simp [execOp,ho,e1,Instr.range,h1,run_newObj_alloc]
 rw [hrun]
 exact hk _ _ ⟨κ.w.alloc (.stringIter s 0),κ.S⟩ (hi.alloc _ (itr κ.w.heap.size s 0) rfl rfl) (fi hi.fin _) ⟨_,_,.v rfl,.cons .raw (hr.mono (fi hi.fin _)),h _⟩
theorem pl_next {o:Oper} {σ:PEnv} {ρ ρ1:List PRes} {x:Operand} {b pos:Nat} {s:ByteArray} {K:PV→List PRes→Prop} (ho:o.op=.next x true) (hx:bz σ x=.v (.pointer (some ⟨b,0,none⟩))) (hu:PUpd ρ (.raw (itr b s pos)) (.raw (itr b s (pos+(Utf8.decode s pos).2))) ρ1) (h1:pos<s.size→K (.tup [.v (.bool true),.v (.int .i64 (pos:Int)),.v (.int .i32 ((Utf8.decode s pos).1:Int))]) ρ1) (h2:s.size≤pos→K (.tup [.v (.bool false)]) ρ):POpL o σ ρ K:=fun κ σ' ρ' g hs hr β hi Nx hk=>by
 have e1:=hs.v1 hx
 have hr0:=hr
 obtain ⟨r0,l1,l2,rfl,h4,h5⟩:=hr.upd hu
 cases h4 with
 | raw =>
  have hb:κ.w.heap[b]?=some (.stringIter s pos):=hi.own (itr b s pos) (by simp)
  have hg:(getObj b).run Tryz.prog κ.w=.ok (.stringIter s pos) κ.w:=by simp [getObj,Sem.run,hb]
  have hset:∀ ob,(setObj b ob).run Tryz.prog κ.w=.ok () { κ.w with heap:=κ.w.heap.setIfInBounds b ob }:=fun ob=>by simp [setObj,Sem.run,hb]
  rcases Nat.lt_or_ge pos s.size with hlt | hge
  ·have hrun:(execOp (ev σ') o).run Tryz.prog κ.w=.ok (.value (.tuple #[.bool true,goInt pos,.int .i32 ((Utf8.decode s pos).1:Int)])) { κ.w with heap:=κ.w.heap.setIfInBounds b (.stringIter s (pos+(Utf8.decode s pos).2)) }:=by
    simp [execOp,ho,e1,Instr.next,hg,hlt,hset]
   rw [hrun]
   obtain ⟨i1,i2⟩:=hi.turn (r:=itr b s pos) (r':=itr b s (pos+(Utf8.decode s pos).2)) (b:=b) (w':={ κ.w with heap:=κ.w.heap.setIfInBounds b (.stringIter s (pos+(Utf8.decode s pos).2)) }) rfl rfl rfl (fun i hi=>tT hi) (by simp) (tU hb) rfl rfl rfl (Nat.le_refl _)
   exact hk _ _ _ i1 i2 ⟨_,ρ1,.tup (ws:=[_,_,_]) (.cons (.v rfl) (.cons (.v rfl) (.cons (.v rfl) .nil))),h5 _ _ i2 .raw,h1 hlt⟩
  ·have hrun:(execOp (ev σ') o).run Tryz.prog κ.w=.ok (.value (.tuple #[.bool false])) κ.w:=by
    simp [execOp,ho,e1,Instr.next,hg,Nat.not_lt.2 hge]
   rw [hrun]
   exact hk _ _ κ hi (.refl _) ⟨_,ρ,.tup (ws:=[_]) (.cons (.v rfl) .nil),hr0,h2 hge⟩
def j5 (s:ByteArray) (pos:Nat):Option (Nat⊕Bool):=cond (Nat.blt pos s.size) (cond (decide (((Utf8.decode s pos).1:Int)<97)||decide (122<((Utf8.decode s pos).1:Int))) (some (.inr false)) (some (.inl (pos+(Utf8.decode s pos).2)))) (some (.inr true))
def kC (p0:ByteArray):Option Bool:=cond (decide ((p0.size:Int)<1)||decide (12<(p0.size:Int))) (some false) (aT (j5 p0) FUEL 0)
attribute [local irreducible] PWL PWC PWD POpL POpQ PEv PGuardIs PSub PPick PUpd PSplice PFill PLit PF PFV PCall FOk eX eH ml n4 kn mn Cov PHolds aT j5
theorem uB {p0:ByteArray} {r:Bool} (h:kC p0=some r):PF 110 [pS p0] (pB r):=by
 unfold kC at h
 refine bd ?_
 refine oN Tryz.func110 rfl Tryz.ntmps110 Tryz.results110 rfl ?_
 (repeat refine ae ?_)
 refine aq [] [2] [] bj (by kernel_rfl) ?_
 (repeat (first | apply aG | apply aX))
 (repeat refine ae ?_)
 refine aq [] [5,6,7,8,9,10,11] [(12,pB (decide ((p0.size:Int)<1)||decide (12<(p0.size:Int))))] bj (by kernel_rfl) ?_
 (repeat (first | apply aG | apply aX))
 (repeat refine ae ?_)
 refine km rfl (fun hc=>?_) (fun hc=>?_)
 ·replace h:=Bp hc h
  (repeat refine ae ?_)
  refine aq [] [] [(2,pB false)] bj (by kernel_rfl) ?_
  (repeat (first | apply aG | apply aX))
  (repeat refine ae ?_)
  refine bR ?_
  (repeat (first | apply al | apply dP | apply mU | apply gE))
  obtain rfl:=Option.some.inj h
  exact aM (dp (aK rfl)) bB ⟨rfl,rfl⟩
 replace h:=Bq hc h
 refine ah ?_
 (repeat (first | apply aG | apply aX))
 (repeat refine ae ?_)
 refine af ?_
 refine aU 1 [] [] [(13,pS p0)] bj (by kernel_rfl) ?_
 refine Cx rfl rfl rfl (FS rfl rfl rfl fun b=>?_)
 refine aF ?_
 (repeat (first | apply aG | apply aX))
 (repeat refine ae ?_)
 refine ar (Y:=Unit) (fun _=>[]) (fun _=>[]) (fun _=>r=true) ?_ ?_
 ·refine av ?_
  refine aC (Y:=Unit) (S:=Nat) _ h (fun _ _=>[(14,pP b 0)]) (fun _ pos=>[PRes.raw (itr b p0 pos)]) () (by (repeat (first | exact pz | apply eF rfl))) (by (repeat (first | exact bB | (apply be;(focus (repeat (first | exact aO | apply aB))))))) ?_
  rintro _ pos o τ hb;dsimp only [az]
  unfold j5 at hb
  (repeat refine ae ?_)
  refine af ?_
  refine Cx rfl rfl rfl (pl_next rfl rfl ce (fun hlt=>?_) (fun hge=>?_))
  ·have hlt':Nat.blt pos p0.size=true:=by simp [Nat.blt];omega
   rw [hlt'] at hb;simp only [bL] at hb
   refine jN [] [] [(16,pB true)] bj (by kernel_rfl) ?_
   (repeat (first | apply aG | apply aX))
   (repeat refine ae ?_)
   refine km (p:=true) rfl (fun _=>?_) (fun hf=>by cases hf)
   refine ah ?_
   (repeat (first | apply aG | apply aX))
   (repeat refine ae ?_)
   refine av ?_
   (repeat refine ae ?_)
   refine aq [] [17] [(4,.v (.int .i32 ((Utf8.decode p0 pos).1:Int)))] bj (by kernel_rfl) ?_
   (repeat (first | apply aG | apply aX))
   (repeat refine ae ?_)
   refine aq [] [18,19,20,21,22] [(23,pB (decide (((Utf8.decode p0 pos).1:Int)<97)||decide (122<((Utf8.decode p0 pos).1:Int))))] bj (by kernel_rfl) ?_
   (repeat (first | apply aG | apply aX))
   (repeat refine ae ?_)
   refine km rfl (fun hc2=>?_) (fun hc2=>?_)
   ·replace hb:=Bp hc2 hb
    (repeat refine ae ?_)
    refine aq [] [] [(2,pB false)] bj (by kernel_rfl) ?_
    (repeat (first | apply aG | apply aX))
    (repeat refine ae ?_)
    refine bR ?_
    (repeat (first | apply al | apply dP | apply mU | apply gE))
    refine au hb (fun ht=>?_);subst ht
    (repeat (first | apply al | apply dP | apply mU | apply gE))
    exact aM (dp (aK rfl)) bB ⟨rfl,rfl⟩
   replace hb:=Bq hc2 hb
   refine ah ?_
   (repeat apply aG)
   exact aS hb () (by (repeat (first | exact pz | apply eF rfl))) (by (repeat (first | exact bB | (apply be;(focus (repeat (first | exact aO | apply aB)))))))
  have hge':Nat.blt pos p0.size=false:=by cases e:Nat.blt pos p0.size;rfl;exact absurd (Nat.le_of_ble_eq_true e) (by omega)
  rw [hge'] at hb;simp only [bv] at hb
  refine jN [] [] [(16,pB false)] bj (by kernel_rfl) ?_
  (repeat (first | apply aG | apply aX))
  (repeat refine ae ?_)
  refine km (p:=false) rfl (fun hf=>by cases hf) (fun _=>?_)
  refine aH ?_
  (repeat (first | apply hC | apply zP | apply zQ | apply pZ rfl))
  refine my hb (fun ht=>?_)
  refine aj rfl ?_
  exact aw () pz bB ht.symm
 rintro _ τ hz;subst hz;dsimp only [az]
 (repeat refine ae ?_)
 refine aq [] [] [(2,pB true)] bj (by kernel_rfl) ?_
 (repeat (first | apply aG | apply aX))
 (repeat refine ae ?_)
 refine bR ?_
 (repeat (first | apply al | apply dP | apply mU | apply gE))
 exact aM (dp (aK rfl)) bB ⟨rfl,rfl⟩
end SX
end Go.Proofs.YtgmbmepakpcpaaaGreatDoor
namespace Go.Proofs
open Go.Shelf
def Tryz.lSF_ren:Go.Shelf.Ren:=⟨fun | 6=>49 | 15=>101 | 14=>100 | 28=>150 | 29=>151 | 20=>142 | 21=>143 | 22=>144 | 23=>145 | 24=>146 | 25=>147 | 26=>148 | 27=>149 | 46=>173 | 47=>174 | 48=>175 | 49=>176 | 50=>177 | 57=>203 | n=>n,fun | 22=>31 | 24=>28 | 25=>109 | 3=>3 | 39=>49 | 0=>0 | 53=>206 | 55=>116 | 4=>4 | 46=>200 | 45=>199 | 50=>144 | 5=>5 | 9=>9 | 66=>235 | 70=>239 | 76=>259 | 77=>260 | n=>n,fun | n=>n⟩
theorem Tryz.lSF:Go.Proofs.SlLaysF0.n6 Tryz.prog Tryz.lSF_ren:={
 mixed:=by kernel_rfl
 f6:=⟨Tryz.f49.name,by decide,Tryz.func49.trans (congrArg some (by kernel_rfl))⟩
 f14:=⟨Tryz.f100.name,by decide,Tryz.func100.trans (congrArg some (by kernel_rfl))⟩
 f15:=Tryz.func101.trans (congrArg some (by kernel_rfl))
 f20:=⟨Tryz.f142.name,by decide,Tryz.func142.trans (congrArg some (by kernel_rfl))⟩
 f21:=⟨Tryz.f143.name,by decide,Tryz.func143.trans (congrArg some (by kernel_rfl))⟩
 f22:=⟨Tryz.f144.name,by decide,Tryz.func144.trans (congrArg some (by kernel_rfl))⟩
 f23:=⟨Tryz.f145.name,by decide,Tryz.func145.trans (congrArg some (by kernel_rfl))⟩
 f24:=⟨Tryz.f146.name,by decide,Tryz.func146.trans (congrArg some (by kernel_rfl))⟩
 f25:=⟨Tryz.f147.name,by decide,Tryz.func147.trans (congrArg some (by kernel_rfl))⟩
 f26:=⟨Tryz.f148.name,by decide,Tryz.func148.trans (congrArg some (by kernel_rfl))⟩
 f27:=⟨Tryz.f149.name,by decide,Tryz.func149.trans (congrArg some (by kernel_rfl))⟩
 f28:=Tryz.func150.trans (congrArg some (by kernel_rfl))
 f29:=Tryz.func151.trans (congrArg some (by kernel_rfl))
 f46:=⟨Tryz.f173.name,by decide,Tryz.func173.trans (congrArg some (by kernel_rfl))⟩
 f47:=Tryz.func174.trans (congrArg some (by kernel_rfl))
 f48:=Tryz.func175.trans (congrArg some (by kernel_rfl))
 f49:=⟨Tryz.f176.name,by decide,Tryz.func176.trans (congrArg some (by kernel_rfl))⟩
 f50:=⟨Tryz.f177.name,by decide,Tryz.func177.trans (congrArg some (by kernel_rfl))⟩
 f57:=⟨Tryz.f203.name,by decide,Tryz.func203.trans (congrArg some (by kernel_rfl))⟩
 t0:=Tryz.underlying0
 a0:=Tryz.isAgg0
 z0:=Tryz.sizeOf0
 v0:=Tryz.zeroValue0
 t3:=Tryz.underlying3
 a3:=Tryz.isAgg3
 z3:=Tryz.sizeOf3
 v3:=Tryz.zeroValue3
 t4:=Tryz.underlying4
 a4:=Tryz.isAgg4
 z4:=Tryz.sizeOf4
 v4:=Tryz.zeroValue4
 t5:=Tryz.underlying5
 a5:=Tryz.isAgg5
 z5:=Tryz.sizeOf5
 v5:=Tryz.zeroValue5
 t9:=Tryz.underlying9
 a9:=Tryz.isAgg9
 z9:=Tryz.sizeOf9
 v9:=Tryz.zeroValue9
 t22:=Tryz.underlying31
 a22:=Tryz.isAgg31
 z22:=Tryz.sizeOf31
 v22:=Tryz.zeroValue31
 t25:=Tryz.underlying109
 a25:=Tryz.isAgg109
 z25:=Tryz.sizeOf109
 v25:=Tryz.zeroValue109
 t39:=Tryz.underlying49
 a39:=Tryz.isAgg49
 z39:=Tryz.sizeOf49
 v39:=Tryz.zeroValue49
 t45:=Tryz.underlying199
 a45:=Tryz.isAgg199
 z45:=Tryz.sizeOf199
 v45:=Tryz.zeroValue199
 t46:=Tryz.underlying200
 a46:=Tryz.isAgg200
 z46:=Tryz.sizeOf200
 v46:=Tryz.zeroValue200
 t50:=Tryz.underlying144
 a50:=Tryz.isAgg144
 z50:=Tryz.sizeOf144
 v50:=Tryz.zeroValue144
 t53:=Tryz.underlying206
 a53:=Tryz.isAgg206
 z53:=Tryz.sizeOf206
 v53:=Tryz.zeroValue206
 t55:=Tryz.underlying116
 a55:=Tryz.isAgg116
 z55:=Tryz.sizeOf116
 v55:=Tryz.zeroValue116
 t66:=Tryz.underlying235
 a66:=Tryz.isAgg235
 z66:=Tryz.sizeOf235
 v66:=Tryz.zeroValue235
 t70:=Tryz.underlying239
 a70:=Tryz.isAgg239
 z70:=Tryz.sizeOf239
 v70:=Tryz.zeroValue239
 t76:=Tryz.underlying259
 a76:=Tryz.isAgg259
 z76:=Tryz.sizeOf259
 v76:=Tryz.zeroValue259
 t77:=Tryz.underlying260
 a77:=Tryz.isAgg260
 z77:=Tryz.sizeOf260
 v77:=Tryz.zeroValue260 }
end Go.Proofs
namespace Go.Proofs
open Go.Shelf
def Tryz.lSs_ren:Go.Shelf.Ren:=⟨fun | 190=>139 | 125=>101 | 258=>170 | 128=>150 | 129=>151 | 302=>191 | 303=>192 | 304=>193 | 305=>194 | 306=>195 | 307=>196 | 308=>197 | 309=>198 | 310=>199 | 333=>209 | 329=>174 | 330=>175 | 334=>210 | 335=>211 | 336=>212 | 344=>217 | n=>n,fun | 31=>33 | 9=>9 | 3=>3 | 46=>49 | 0=>0 | 51=>206 | 53=>116 | 4=>4 | 183=>200 | 182=>199 | 131=>144 | 5=>5 | 218=>235 | 222=>239 | 228=>259 | 229=>260 | n=>n,fun | n=>n⟩
theorem Tryz.lSs:Go.Proofs.Lays.n190 Tryz.prog Tryz.lSs_ren:={
 mixed:=by kernel_rfl
 f125:=Tryz.func101.trans (congrArg some (by kernel_rfl))
 f128:=Tryz.func150.trans (congrArg some (by kernel_rfl))
 f129:=Tryz.func151.trans (congrArg some (by kernel_rfl))
 f190:=Tryz.func139.trans (congrArg some (by kernel_rfl))
 f258:=Tryz.func170.trans (congrArg some (by kernel_rfl))
 f302:=Tryz.func191.trans (congrArg some (by kernel_rfl))
 f303:=Tryz.func192.trans (congrArg some (by kernel_rfl))
 f304:=Tryz.func193.trans (congrArg some (by kernel_rfl))
 f305:=Tryz.func194.trans (congrArg some (by kernel_rfl))
 f306:=Tryz.func195.trans (congrArg some (by kernel_rfl))
 f307:=Tryz.func196.trans (congrArg some (by kernel_rfl))
 f308:=Tryz.func197.trans (congrArg some (by kernel_rfl))
 f309:=Tryz.func198.trans (congrArg some (by kernel_rfl))
 f310:=Tryz.func199.trans (congrArg some (by kernel_rfl))
 f329:=Tryz.func174.trans (congrArg some (by kernel_rfl))
 f330:=Tryz.func175.trans (congrArg some (by kernel_rfl))
 f333:=Tryz.func209.trans (congrArg some (by kernel_rfl))
 f334:=Tryz.func210.trans (congrArg some (by kernel_rfl))
 f335:=Tryz.func211.trans (congrArg some (by kernel_rfl))
 f336:=Tryz.func212.trans (congrArg some (by kernel_rfl))
 f344:=Tryz.func217.trans (congrArg some (by kernel_rfl))
 t0:=Tryz.underlying0
 a0:=Tryz.isAgg0
 z0:=Tryz.sizeOf0
 v0:=Tryz.zeroValue0
 t3:=Tryz.underlying3
 a3:=Tryz.isAgg3
 z3:=Tryz.sizeOf3
 v3:=Tryz.zeroValue3
 t4:=Tryz.underlying4
 a4:=Tryz.isAgg4
 z4:=Tryz.sizeOf4
 v4:=Tryz.zeroValue4
 t5:=Tryz.underlying5
 a5:=Tryz.isAgg5
 z5:=Tryz.sizeOf5
 v5:=Tryz.zeroValue5
 t9:=Tryz.underlying9
 a9:=Tryz.isAgg9
 z9:=Tryz.sizeOf9
 v9:=Tryz.zeroValue9
 t31:=Tryz.underlying33
 a31:=Tryz.isAgg33
 z31:=Tryz.sizeOf33
 v31:=Tryz.zeroValue33
 t46:=Tryz.underlying49
 a46:=Tryz.isAgg49
 z46:=Tryz.sizeOf49
 v46:=Tryz.zeroValue49
 t51:=Tryz.underlying206
 a51:=Tryz.isAgg206
 z51:=Tryz.sizeOf206
 v51:=Tryz.zeroValue206
 t53:=Tryz.underlying116
 a53:=Tryz.isAgg116
 z53:=Tryz.sizeOf116
 v53:=Tryz.zeroValue116
 t131:=Tryz.underlying144
 a131:=Tryz.isAgg144
 z131:=Tryz.sizeOf144
 v131:=Tryz.zeroValue144
 t182:=Tryz.underlying199
 a182:=Tryz.isAgg199
 z182:=Tryz.sizeOf199
 v182:=Tryz.zeroValue199
 t183:=Tryz.underlying200
 a183:=Tryz.isAgg200
 z183:=Tryz.sizeOf200
 v183:=Tryz.zeroValue200
 t218:=Tryz.underlying235
 a218:=Tryz.isAgg235
 z218:=Tryz.sizeOf235
 v218:=Tryz.zeroValue235
 t222:=Tryz.underlying239
 a222:=Tryz.isAgg239
 z222:=Tryz.sizeOf239
 v222:=Tryz.zeroValue239
 t228:=Tryz.underlying259
 a228:=Tryz.isAgg259
 z228:=Tryz.sizeOf259
 v228:=Tryz.zeroValue259
 t229:=Tryz.underlying260
 a229:=Tryz.isAgg260
 z229:=Tryz.sizeOf260
 v229:=Tryz.zeroValue260 }
end Go.Proofs
namespace Go.Proofs.YtgmbmepakpcpaaaGreatDoor
namespace SX
open Go
section
variable {γ:Type} [Inhabited γ]
theorem xa (e:γ→Value) (D:Array γ) (cur:Array Value) (h:D.size≤cur.size):(Sort.putCells e 0 D cur).toList.take D.size=D.toList.map e:=by
 apply List.ext_getElem
 ·simp [Sort.putCells];omega
 intro i h1 h2
 have h3:i<D.size:=by simpa using h2
 simp [Sort.putCells,h3]
theorem Ap {e:γ→Value} {w:World} {b:Nat} {D:Array γ} {cur:Array Value} {T:Nat} {fr:Nat×Nat} (h:w.heap[b]?=some (.cells cur T fr)):(Sort.putRow e w b 0 D).heap[b]?=some (.cells (Sort.putCells e 0 D cur) T fr):=by
 simp [Sort.putRow,Sort.mapBlock,Array.getElem?_modify,h,Sort.onCells]
theorem vX {e:γ→Value} {w:World} {b i:Nat} {D:Array γ} (h:i≠b):(Sort.putRow e w b 0 D).heap[i]?=w.heap[i]?:=by
 simp only [Sort.putRow,Sort.mapBlock,Array.getElem?_modify]
 rw [if_neg (fun e=>h e.symm)]
theorem rO {β:Base} {l:List Res} {κ:Kr} {b n c T sz m:Nat} {css css':List (List Value)} {os:Array Obj} {e:γ→Value} {D:Array γ} (hi:Zp β (Res.row (some ⟨b,0,none⟩) n c T sz css::l) κ) (hF:D.toList.map e=css'.flatten) (hl:css'.length=n) (hw:∀ cs∈css',cs.length=sz) :
    Zp β (Res.row (some ⟨b,0,none⟩) n c T sz css'::l) ⟨Sort.grow (Sort.putRow e (Sort.ahead κ.w m) b 0 D) os,κ.S⟩∧Kle κ ⟨Sort.grow (Sort.putRow e (Sort.ahead κ.w m) b 0 D) os,κ.S⟩:=by
  have ho:=hi.own _ (List.mem_cons_self)
  obtain ⟨h1,h2,h3,h4,h5,cur,h6,h7,h8⟩:=ho
  have hD:D.size=n*sz:=by
    have:=congrArg List.length hF
    rw [List.length_map,fc hw,hl] at this
    simpa using this
  have hle:D.size≤cur.size:=by rw [hD,h7];exact Nat.mul_le_mul_right _ h4
  have t1:=hi.turn (r':=Res.row (some ⟨b,0,none⟩) n c T sz css') (l1:=[]) (b:=b) (w':=Sort.putRow e (Sort.ahead κ.w m) b 0 D) rfl rfl rfl (fun i hne=>vX hne) (by simp [Sort.putRow,Sort.mapBlock,Sort.ahead])
    ⟨h1,hl,hw,h4,h5,_,Ap (w:=Sort.ahead κ.w m) h6,by simpa [Sort.putCells] using h7,by rw [← hD,xa e D cur hle,hF]⟩ rfl rfl rfl (by simp [Sort.putRow,Sort.mapBlock,Sort.ahead])
  have hh:=t1.1.own _ (List.mem_cons_self)
  have hb2:b<(Sort.putRow e (Sort.ahead κ.w m) b 0 D).heap.size:=by
    have:=(t1.1.blk _ (List.mem_cons_self) b rfl).1;exact this
  have hold:∀ i,i<(Sort.putRow e (Sort.ahead κ.w m) b 0 D).heap.size→(Sort.grow (Sort.putRow e (Sort.ahead κ.w m) b 0 D) os).heap[i]?=(Sort.putRow e (Sort.ahead κ.w m) b 0 D).heap[i]?:=fun i h=>by
    simp only [Sort.grow];rw [Array.getElem?_append_left h]
  have hh2:(Res.row (some ⟨b,0,none⟩) n c T sz css').holds (Sort.grow (Sort.putRow e (Sort.ahead κ.w m) b 0 D) os):=by
    have:(Sort.grow (Sort.putRow e (Sort.ahead κ.w m) b 0 D) os).heap[b]?=(Sort.putRow e (Sort.ahead κ.w m) b 0 D).heap[b]?:=hold b hb2
    unfold Res.holds at hh ⊢
    show (Res.row (some ⟨b,0,none⟩) n c T sz css').says (Sort.grow (Sort.putRow e (Sort.ahead κ.w m) b 0 D) os).heap[b]?
    rw [this];exact hh
  obtain ⟨i3,k3⟩:=t1.1.grow (r':=Res.row (some ⟨b,0,none⟩) n c T sz css') (w':=Sort.grow (Sort.putRow e (Sort.ahead κ.w m) b 0 D) os) ⟨rfl,rfl,rfl,by simp [Sort.grow],fun i h _=>hold i h⟩ (.inr (.inl rfl)) hh2 (Bh hh2) (Nat.le_refl _)
  exact ⟨i3,t1.2.trans k3⟩
end
def i7 (a b:ByteArray):Bool:=Op.bytesLess a.toList b.toList
theorem qq (a b:ByteArray):i7 a b=decide (a.data.toList<b.data.toList):=by
 unfold i7;rw [bytesLess_eq,ByteArray.toList_eq,ByteArray.toList_eq]
theorem CM {κ:Kr}:∀ {xs:List ByteArray} {dss:List (List Value)},Rpss κ (xs.map eS) dss→dss=xs.map fun s=>[.string s]
 | [],_,h=>h.nil_inv
 | x::xs,_,h=>by
  obtain ⟨d,ds,rfl,h1,h2⟩:=h.cons_inv
  obtain ⟨v,vs,rfl,h3,h4⟩:=h1.cons_inv
  rw [CM h2,h4.nil_inv,h3.val];rfl
theorem vY {κ:Kr}:∀ {xs:List ByteArray} {dss:List (List Value)},Rpss κ (xs.map eS) dss→∀ x∈xs,yt (.string x)=true
 | [],_,_=>by simp
 | x::xs,_,h=>by
  obtain ⟨d,ds,rfl,h1,h2⟩:=h.cons_inv
  obtain ⟨v,vs,rfl,h3,h4⟩:=h1.cons_inv
  intro y hy
  rcases List.mem_cons.1 hy with rfl | hy
  ·cases h3 with | v hq=>exact hq
  exact vY h2 y hy
theorem vZ {κ:Kr}:∀ {xs:List ByteArray},(∀ x∈xs,yt (.string x)=true)→Rpss κ (xs.map eS) (xs.map fun s=>[.string s])
 | [],_=>.nil
 | x::xs,h=>.cons (.cons (.v (h x (by simp))) .nil) (vZ fun y hy=>h y (by simp [hy]))
theorem FT (l:List ByteArray):(l.map fun s=>[Value.string s]).flatten=l.map Value.string:=by
 induction l with
 | nil=>rfl
 | cons x xs ih=>simp [ih]
def jl (l:List ByteArray):Option (List ByteArray):=some (lH i7 l)
theorem om {α:Type} {lt:α→α→Bool} (l:List α):(lH lt l).length=l.length:=kX.length_eq
theorem BI (l:List ByteArray):(l.map fun s=>s.data.toList).mergeSort (fun x y=>decide (x≤y))=(lH i7 l).map fun s=>s.data.toList:=by
 have key:∀ x y:List UInt8,decide (x≤y) = !decide (y<x):=fun x y=>by
  rw [← decide_not];exact decide_eq_decide.2 (by rw [List.not_lt])
 refine qc (lt:=fun x y=>decide (x<y)) (fun x y h1 h2=>?_) ?_ ?_ ?_
 ·have h1:=of_decide_eq_false h1;have h2:=of_decide_eq_false h2
  exact List.le_antisymm (List.not_lt.1 h2) (List.not_lt.1 h1)
 ·have h:=List.pairwise_mergeSort (le:=fun x y:List UInt8=>decide (x≤y)) (fun a b c h1 h2=>det (List.le_trans (of_decide_eq_true h1) (of_decide_eq_true h2))) (fun a b=>by
   rcases List.le_total a b with h | h
   ·simp [h]
   simp [h]) (l.map fun s=>s.data.toList)
  exact h.imp fun {a b} hab=>by rw [key] at hab;simpa using hab
 ·rw [List.pairwise_map]
  have h:=mA (lt:=i7) (fun x y z h1 h2=>by
   rw [qq] at *;exact det (List.lt_trans (of_decide_eq_true h1) (of_decide_eq_true h2))) (fun x y z h1 h2=>by
   rw [qq] at *;exact cb (List.not_lt.2 (List.le_trans (List.not_lt.1 (of_decide_eq_false h2)) (List.not_lt.1 (of_decide_eq_false h1))))) (fun x=>by rw [qq];exact cb (List.lt_irrefl _)) l
  exact h.imp fun {a b} hab=>by rw [← qq];exact hab
 exact (List.mergeSort_perm _ _).trans (kX.symm.map _)
theorem mh {p0 r:List ByteArray} (h:jl p0=some r) {a:Option Addr} {n c:Nat}:PCall 139 [.v (.slice a n c)] [PRes.row a n c 9 1 (List.map eS p0)] (fun pv ρ'=>pv=.tup []∧ρ'=[PRes.row a n c 9 1 (List.map eS r)]):=fun κ args ρ g ha hr=>by
 obtain rfl:=Option.some.inj h
 obtain ⟨v,ws,rfl,ha1,ha2⟩:=ha.cons_inv
 rw [ha2.nil_inv,ha1.val]
 obtain ⟨r0,l',rfl,hr1,hr2⟩:=hr.cons_inv
 have:=hr2.nil_inv;subst this
 refine ⟨(GT Tryz.func139 rfl),fun hi=>?_⟩
 cases hr1 with
 | row hb ho hc =>
  have hok:=vY hc
  have hd:=CM hc;subst hd
  have how:=hi.own _ (List.mem_cons_self)
  cases a with
  | none =>
   obtain ⟨rfl,rfl,h3⟩:=how
   have hp:p0=[]:=List.map_eq_nil_iff.1 h3
   subst hp
   refine (Any.slices_Sort_string_none Tryz.lSs none 0 κ.w).mono fun e w' ⟨h1,h2⟩=>?_
   subst h1 h2
   exact ⟨_,_,κ,rfl,rfl,hi,.tup [],_,.tup .nil,.cons (.row hb ho (by exact .nil)) .nil,rfl,rfl⟩
  | some ad =>
   have how2:=how
   obtain ⟨h1,h2,h3,h4,h5,cur,h6,h7,h8⟩:=how
   obtain ⟨b,off,sp⟩:=ad
   injection h1 with h1a h1b h1c
   subst h1b h1c
   have hblk:b<κ.w.heap.size:=(hi.blk _ (List.mem_cons_self) b rfl).1
   have hn:n=(p0.map fun s=>s.data.toList).length:=by rw [← h2];simp
   have hH:Sort.Holds encStr κ.w b 0 (p0.map fun s=>s.data.toList).toArray:=by
    intro j hj
    have hj2:j<p0.length:=by simpa using hj
    rw [FT,Nat.mul_one] at h8
    have hj3:cur.toList[j]?=some (Value.string p0[j]):=by
     have e:=congrArg (fun l=>l[j]?) h8
     simp only [List.getElem?_take,List.getElem?_map] at e
     rw [if_pos (by rw [← h2];simpa using hj2),List.getElem?_eq_getElem hj2] at e
     exact e
    have hj4:cur[j]?=some (Value.string p0[j]):=by rw [← Array.getElem?_toList];exact hj3
    constructor
    ·simp only [World.cell?,h6,Option.isSome_none,Bool.false_eq_true,if_false,Nat.zero_add]
     rw [hj4]
     congr 1
     simp [getElem!_pos,hj2]
    simp [World.frozen?,h6]
   rw [hn]
   refine (Any.slices_Sort_string Tryz.lSs b 0 c _ κ.w hH hblk (by rw [← hn];unfold maxLen at h5;omega)).mono fun e w' ⟨k1,m,os,k2⟩=>?_
   subst k1 k2
   obtain ⟨i1,i2⟩:=rO (m:=m) (os:=os) (e:=encStr) (css':=(lH i7 p0).map fun s=>[Value.string s]) (D:=((p0.map fun s=>s.data.toList).mergeSort fun x y=>decide (x≤y)).toArray) hi (by
    rw [BI]
    generalize lH i7 p0=q
    induction q with
    | nil=>rfl
    | cons x xs ih=>simp at ih ⊢;exact ih) (by rw [List.length_map,om];rw [← h2];simp) (by simp)
   exact ⟨_,_,⟨_,κ.S⟩,rfl,rfl,i1,.tup [],_,.tup .nil,.cons (.row hb (by intro cs hcs;obtain ⟨q,_,rfl⟩:=List.mem_map.1 hcs;intro u hu;rw [List.mem_singleton.1 hu];rfl) (vZ fun y hy=>hok y (kX.mem_iff.1 hy))) .nil,rfl,by rw [← hn]⟩
theorem le_grow {κ κ':Kr} (h:Le [] κ κ'):∃ q os',κ'.w=Sort.grow (κ.w.drewN q) os':=by
 refine ⟨κ'.w.drawn - κ.w.drawn,κ'.w.heap.extract κ.w.heap.size κ'.w.heap.size,?_⟩
 have hz:=h.kle.size
 have hd:=h.drawn
 have e1:κ'.w.heap=κ.w.heap++κ'.w.heap.extract κ.w.heap.size κ'.w.heap.size:=by
  apply Array.ext_getElem?
  intro i
  rcases Nat.lt_or_ge i κ.w.heap.size with hi | hi
  ·rw [Array.getElem?_append_left hi];exact h.same i hi (by simp)
  rw [Array.getElem?_append_right hi,Array.getElem?_extract]
  split
  ·congr 1;omega
  rw [Array.getElem?_eq_none (by omega)]
 cases hw:κ'.w with
 | mk heap tape drawn os output =>
  have h2:=h.tape;have h3:=h.os;have h4:=h.output
  rw [hw] at e1 h2 h3 h4 hd
  simp only at e1 h2 h3 h4 hd
  simp only [Sort.grow,World.drewN]
  subst h2 h3 h4
  rw [← e1]
  congr 1;omega
theorem xK {γ:Type} [Inhabited γ] (enc:γ→List Value) (k:Nat) (hk:∀ x,(enc x).length=k):∀ L:List γ,(List.range (L.length*k)).map (fun t=>(enc L[t / k]!)[t % k]!)=(L.map enc).flatten
 | []=>by simp
 | x::xs=>by
  have ih:=xK enc k hk xs
  rcases Nat.eq_zero_or_pos k with h0 | h0
  ·subst h0
   have:∀ M:List γ,(M.map enc).flatten=[]:=fun M=>by
    rw [List.flatten_eq_nil_iff];intro l hl;obtain ⟨y,_,rfl⟩:=List.mem_map.1 hl;exact List.eq_nil_of_length_eq_zero (hk y)
   rw [this];simp
  rw [List.length_cons,Nat.add_mul,Nat.one_mul,Nat.add_comm,List.range_add,List.map_append,List.map_cons,List.flatten_cons,← ih,List.map_map]
  congr 1
  ·apply List.ext_getElem
   ·simp [hk]
   intro i h1 h2
   have hi:i<k:=by simpa using h1
   simp [Nat.div_eq_of_lt hi,Nat.mod_eq_of_lt hi,getElem!_pos,h2]
  apply List.map_congr_left
  intro t _
  simp only [Function.comp,Nat.add_div_left _ h0,Nat.add_mod_left]
  rfl
theorem wa {γ:Type} [Inhabited γ] (enc:γ→List Value) (k:Nat) (hk:∀ x,(enc x).length=k) (d:Array γ):(Sort.flatK enc k d).toList.map id=(d.toList.map enc).flatten:=by
 rw [List.map_id,← xK enc k hk]
 simp only [Sort.flatK,Array.toList_map,Array.toList_range,Array.length_toList]
 apply List.map_congr_left
 intro t _
 congr 2
 simp [getElem!_def]
section
variable {α:Type} {enc:α→List PV} {encV:α→List Value}
theorem Aq {κ:Kr} (hinv:∀ x ds,Rps κ (enc x) ds→ds=encV x):∀ {xs:List α} {dss:List (List Value)},Rpss κ (xs.map enc) dss→dss=xs.map encV
 | [],_,h=>h.nil_inv
 | x::xs,_,h=>by
  obtain ⟨d,ds,rfl,h1,h2⟩:=h.cons_inv
  rw [Aq hinv h2,hinv _ _ h1];rfl
theorem tZ {κ:Kr} (hmk:∀ x,Rps κ (enc x) (encV x)):∀ {xs:List α},Rpss κ (xs.map enc) (xs.map encV)
 | []=>.nil
 | x::xs=>.cons (hmk x) (tZ hmk)
theorem callSF [Inhabited α] {f g T k:Nat} {ρs:Shelf.Ren} (L:SlLaysF0.n6 Tryz.prog ρs) (hf:ρs.f 6=f) (fOk:FnOk f) (gOk:FnOk g) (aE:∀ w,(isAgg (ρs.t 24)).run Tryz.prog w=.ok true w) (zE:∀ w,(Go.sizeOf (ρs.t 24)).run Tryz.prog w=.ok k w)
    (hk:∀ x,(encV x).length=k) (h1:∀ x,∀ v∈encV x,v.oneCell'=true) (hinv:∀ κ x ds,Rps κ (enc x) ds→ds=encV x) (hmk:∀ κ x,Rps κ (enc x) (encV x)) (cf:α→α→Int) (hO:Sort.SWO (ltOf cf)) (hT:∀ x y,ltOf cf x y=false→ltOf cf y x=false→x=y)
    (hcmp:∀ x y,PF g [.agg (enc x),.agg (enc y)] (pI (cf x y))) {p0:List α} {a:Option Addr} {n c:Nat}:PCall f [.v (.slice a n c),.fn g []] [PRes.row a n c T k (List.map enc p0)] (fun pv ρ'=>pv=.tup []∧ρ'=[PRes.row a n c T k (List.map enc (lH (ltOf cf) p0))]):=fun κ args ρ gk ha hr=>by
  subst hf
  obtain ⟨v,ws,rfl,ha1,ha2⟩:=ha.cons_inv
  obtain ⟨v2,ws2,rfl,ha3,ha4⟩:=ha2.cons_inv
  rw [ha4.nil_inv,ha1.val]
  have hv2:v2=.func (.func g) #[] #[]:=by
    cases ha3 with
    | fn h=>rw [h.nil_inv]
  subst hv2
  obtain ⟨r0,l',rfl,hr1,hr2⟩:=hr.cons_inv
  have:=hr2.nil_inv;subst this
  refine ⟨fOk,fun hi=>?_⟩
  have hn1:∀ l:List α,∀ cs∈l.map encV,cs.length=k:=fun l cs hcs=>by obtain ⟨q,_,rfl⟩:=List.mem_map.1 hcs;exact hk q
  cases hr1 with
  | row hb ho hc =>
    have hd:=Aq (hinv κ) hc;subst hd
    have how:=hi.own _ (List.mem_cons_self)
    cases a with
    | none =>
      obtain ⟨rfl,rfl,h3⟩:=how
      have hp:p0=[]:=List.map_eq_nil_iff.1 h3
      subst hp
      refine (AnyF.slices_SortFunc_none L none 0 _ κ.w).mono fun e w' ⟨h1,h2⟩=>?_
      subst h1 h2
      exact ⟨_,_,κ,rfl,rfl,hi,.tup [],_,.tup .nil,.cons (.row hb ho (by exact .nil)) .nil,rfl,rfl⟩
    | some ad =>
      obtain ⟨q1,h2,h3,h4,h5,cur,h6,h7,h8⟩:=how
      obtain ⟨b,off,sp⟩:=ad
      injection q1 with h1a h1b h1c
      subst h1b h1c
      have hblk:b<κ.w.heap.size:=(hi.blk _ (List.mem_cons_self) b rfl).1
      have hn:n=p0.toArray.size:=by rw [← h2];simp
      have hz:(Sort.flatK encV k p0.toArray).size=n*k:=by rw [Sort.size_flatK,← hn]
      have hft:(Sort.flatK encV k p0.toArray).toList=cur.toList.take (n*k):=by
        rw [h8,← wa encV k hk,List.map_id]
      have hH:Sort.HoldsK encV k κ.w b 0 p0.toArray:=by
        intro j hj
        have hj2:j<n*k:=by rw [← hz];exact hj
        have hj3:(Sort.flatK encV k p0.toArray)[j]?=cur[j]?:=by
          rw [← Array.getElem?_toList,hft,List.getElem?_take,if_pos hj2,Array.getElem?_toList]
        constructor
        · simp only [World.cell?,h6,Option.isSome_none,Bool.false_eq_true,if_false,Nat.zero_add]
          rw [← hj3,Array.getElem?_eq_getElem hj,getElem!_pos _ j hj];rfl
        simp [World.frozen?,h6]
      have hcl:CmpLays Tryz.prog g #[] encV k cf b 0 p0.toArray.size κ.w:=fun m os dk hs x y=>by
        obtain ⟨i1,k1⟩:=rO (m:=m) (os:=os) (e:=id) (D:=Sort.flatK encV k dk) (css':=dk.toList.map encV) hi (wa encV k hk dk) (by rw [List.length_map,Array.length_toList,hs,hn]) (hn1 _)
        have hc2:=hcmp x y ⟨_,κ.S⟩ [.agg (encV x).toArray,.agg (encV y).toArray] (gk.mono k1) (.cons (.agg (h1 x) (hmk _ x)) (.cons (.agg (h1 y) (hmk _ y)) .nil))
        refine (hc2.2 ⟨Le.refl _ _,i1.fin,by simp,by simp,List.Pairwise.nil⟩).mono fun e w' ⟨v,ρ',κ',g1,g2,g3,g4⟩=>?_
        obtain ⟨q,os',hq⟩:=le_grow g3.le
        subst g1 g2
        exact ⟨by rw [g4.2.val],q,os',hq⟩
      rw [hn]
      refine (AnyQ.slices_SortFunc_total L k aE zE encV hk h1 cf hO g #[] b 0 c p0.toArray κ.w (fun args w=>mw gOk args w) hcl hH hblk (by rw [← hn];unfold maxLen at h5;omega) hT).mono fun e w' ⟨k1,m,os,k2⟩=>?_
      have hso:(p0.toArray.toList.mergeSort fun x y => !(ltOf cf) y x)=lH (ltOf cf) p0:=by
        refine qc (lt:=ltOf cf) hT ?_ (mA hO.trans hO.ntrans hO.irrefl p0) ((List.mergeSort_perm _ _).trans kX.symm)
        have h:=List.pairwise_mergeSort (le:=fun x y:α => !(ltOf cf) y x) (fun a b c h1 h2=>by
          simp only [Bool.not_eq_true'] at h1 h2 ⊢;exact hO.ntrans _ _ _ h2 h1) (fun a b=>by
          cases e1:ltOf cf b a
          · simp
          cases e2:ltOf cf a b
          · simp
          have:=hO.trans _ _ _ e1 e2;rw [hO.irrefl] at this;cases this) p0
        exact h.imp fun {a b} hab=>by simpa using hab
      rw [hso] at k2
      subst k1 k2
      obtain ⟨i1,i2⟩:=rO (m:=m) (os:=os) (e:=id) (css':=(lH (ltOf cf) p0).map encV) (D:=Sort.flatK encV k (lH (ltOf cf) p0).toArray) hi (wa encV k hk _) (by rw [List.length_map,om];rw [← h2];simp) (hn1 _)
      exact ⟨_,_,⟨_,κ.S⟩,rfl,rfl,i1,.tup [],_,.tup .nil,.cons (.row hb (by intro cs hcs;obtain ⟨q,_,rfl⟩:=List.mem_map.1 hcs;exact h1 q) (tZ (hmk _))) .nil,rfl,by rw [← hn]⟩
end
theorem FU (a b:Int):dQ a b=some (if a<b then -1 else if b<a then 1 else 0):=by
 unfold dQ jy
 simp only [bne_self_eq_false,bc,bv]
 by_cases h:a<b
 ·rw [det h,if_pos h];rfl
 rw [cb h,if_neg h]
 by_cases h2:b<a
 ·rw [det h2,if_pos h2];rfl
 rw [cb h2,if_neg h2];rfl
theorem FV (a b:Int):kZ [a,b]=some (if a=0 then b else a):=by
 unfold kZ
 refine (bD (l:=[a,b]) (by simp) (fun _ x=>cond (x != 0) (some (.inr x)) none) (.inl ()) (fun k hk=>?_) (by rw [cN];rfl)).trans ?_
 ·rw [gY hk,bL,pA (aQ hk),bM hk (by simp)]
  cases ([a,b][k] != 0) <;> rfl
 rw [iV (fun x:Int=>x != 0) (fun x=>(Sum.inr x:Unit⊕Int))]
 by_cases ha:a=0
 ·subst ha
  by_cases hb:b=0
  ·subst hb;rfl
  simp [hb]
 simp [ha]
def bu (x y:Za):Bool:=decide (x.Product<y.Product)||(decide (x.Product=y.Product)&&decide (x.Agreement<y.Agreement))
def mI (x y:Za):Int:=if (if x.Product<y.Product then (-1:Int) else if y.Product<x.Product then 1 else 0)=0 then (if x.Agreement<y.Agreement then -1 else if y.Agreement<x.Agreement then 1 else 0) else (if x.Product<y.Product then -1 else if y.Product<x.Product then 1 else 0)
theorem rP:ltOf mI=bu:=by
 funext x y
 unfold ltOf mI bu
 rcases Int.lt_trichotomy x.Product y.Product with h | h | h
 ·rw [if_pos h];simp [h]
 ·simp only [h,Int.lt_irrefl,if_false,if_true,decide_false,decide_true,Bool.false_or,Bool.true_and]
  rcases Int.lt_trichotomy x.Agreement y.Agreement with h2 | h2 | h2
  ·rw [if_pos h2];simp [h2]
  ·simp [h2]
  rw [if_neg (by omega),if_pos h2];simp;omega
 have h1:¬ x.Product<y.Product:=by omega
 have h3:¬ x.Product=y.Product:=by omega
 simp [h,h1,h3]
theorem DP (x y:Za):fa x y=some (mI x y):=by
 unfold fa mI
 rw [FU,FU]
 simp only [bc,FV]
theorem t6 (x y:Za):bu x y=true↔x.Product<y.Product∨(x.Product=y.Product∧x.Agreement<y.Agreement):=by simp [bu]
theorem qr (x y:Za):bu x y=false↔¬ (x.Product<y.Product∨(x.Product=y.Product∧x.Agreement<y.Agreement)):=by rw [← t6];simp
theorem t7 (x:Za):bu x x=false:=by rw [qr];omega
theorem wb (x y z:Za):bu x y=true→bu y z=true→bu x z=true:=by simp only [t6];omega
theorem t8 (x y z:Za):bu x y=false→bu y z=false→bu x z=false:=by simp only [qr];omega
theorem ua (x y:Za):bu x y=false→bu y x=false→x=y:=by
 simp only [qr];intro h1 h2
 cases x;cases y;simp at h1 h2 ⊢;omega
def bx (l:List Za):Option (List Za):=some (lH bu l)
theorem dh {p0 r:List Za} (h:bx p0=some r) {a:Option Addr} {n c:Nat}:PCall 49 [.v (.slice a n c),.fn 50 []] [PRes.row a n c 28 2 (List.map Za.enc p0)] (fun pv ρ'=>pv=.tup []∧ρ'=[PRes.row a n c 28 2 (List.map Za.enc r)]):=by
 obtain rfl:=Option.some.inj h
 rw [← rP]
 exact callSF Tryz.lSF rfl (GT Tryz.func49 rfl) (GT Tryz.func50 rfl) Tryz.isAgg28 Tryz.sizeOf28 (encV:=fun x=>[.int .i64 x.Product,.int .i64 x.Agreement]) (fun _=>rfl)
  (fun x v hv=>by simp at hv;rcases hv with rfl | rfl <;> rfl) (fun κ x ds h=>by
   obtain ⟨v,ws,rfl,h1,h2⟩:=h.cons_inv
   obtain ⟨v2,ws2,rfl,h3,h4⟩:=h2.cons_inv
   rw [h1.val,h3.val,h4.nil_inv]) (fun κ x=>.cons (.v rfl) (.cons (.v rfl) .nil)) mI
  (by rw [rP];exact ⟨t7,wb,t8⟩) (by rw [rP];exact ua) (fun x y=>mE (DP x y))
theorem BJ (x y:Za):dy x y=some (mI x y):=by
 unfold dy mI
 rw [FU,FU]
 simp only [bc,FV]
end SX
namespace SX
open Go
attribute [local irreducible] PWL PWC PWD POpL POpQ PEv PGuardIs PSub PPick PUpd PSplice PFill PLit PF PFV PCall FOk eX eH ml n4 kn mn Cov PHolds aT idx app mk gd lb nz lF Er sub ko dq oz wQ fz cD oM wT IntKind.wrap Int.tmod Int.tdiv Op.bytesLess strOfNums
def d9 (p0:(List ByteArray)):Option Bool:=cond (decide (8<(p0.length:Int))) (some false) ((aT (S:=Int) (T:=(Unit)⊕(_)) (fun v2=>cond (decide (v2<(p0.length:Int))) ((idx p0 v2).bind fun m6=>(kC m6).bind fun x7=>(gd ((!(!x7))&&(decide (0<v2))) (idx p0 (IntKind.i64.wrap (v2 - 1)))).bind fun m8=>cond ((!x7)||((decide (0<v2))&&(Op.bytesLess m6.toList m8.toList||decide (m6=m8)))) (some (.inr (.inr false))) (some (.inl (IntKind.i64.wrap (v2+1))))) (some (.inr (.inl ())))) FUEL 0).bind fun q=>match q with | .inl _=>some true | .inr e=>some e)
theorem jr {p0:(List ByteArray)} {r:Bool}  (h:d9 p0=some r):PF 63 [pL eS p0] (pB r):=by
 unfold d9 at h
 refine bd ?_
 refine du Tryz.func63 rfl Tryz.ntmps63 Tryz.results63 rfl (aW [2] (by kernel_rfl) (cj (bF [5,6] [(7,pB (decide (8<(p0.length:Int))))] (by kernel_rfl) rfl h (fun hc1 h=>?_) fun hc1 h=>?_)))
 ·refine ae ?_
  refine dg [(2,pB false)] (by kernel_rfl) (al ?_)
  exact zz r h rfl
 refine ah ?_
 refine cj (ak [(8,pL eS p0),(9,pI (p0.length:Int)),(10,pI 0)] (by kernel_rfl) (ft h fun q4 hq4 h=>?_))
 refine ar (Y:=Unit×Unit) (fun (_,_)=>[]) (fun (_,_)=>[]) (fun (_,_)=>q4=Sum.inl ()) ?_ ?_
 ·refine av ?_
  refine aC (Y:=Unit) (S:=Int) _ hq4 (fun _ v2=>[(0,pL eS p0),(8,pL eS p0),(9,pI (p0.length:Int)),(10,pI v2)]) (fun _ v2=>[]) () (iR rfl) bB ?_
  rintro _ v2 o τ hb3;(try dsimp only at hb3);dsimp only [az]
  refine ae (ak [(11,pB (decide (v2<(p0.length:Int))))] (by kernel_rfl) (bZ (kq rfl hb3 (fun hc5 hb3=>?_) fun hc5 hb3=>?_)))
  ·refine ah ?_
   refine dJ (aa hb3 fun m6 hm6 hb3=>aq [] [12,13,14] [(3,pI v2),(4,pS m6)] (cL 1 eS hm6 bj) (by kernel_rfl) (de hb3 fun x7 hx7 hb3=>aa hb3 fun m8 hm8 hb3=>aq [] (rg 15 15) [(30,pB ((!x7)||((decide (0<v2))&&(Op.bytesLess m6.toList m8.toList||decide (m6=m8)))))] (bg 1 (uB hx7) (eK 11 eS (cF hm8) bj)) (by kernel_rfl) (cR rfl hb3 (fun hc9 hb3=>?_) fun hc9 hb3=>?_)))
   ·refine ae ?_
    refine dg [(2,pB false)] (by kernel_rfl) (dH ?_)
    refine au hb3 (fun ht=>?_);subst ht
    refine cP ?_
    exact zz r h rfl
   refine ah ?_
   refine dI (ai [31] [(10,pI (IntKind.i64.wrap (v2+1)))] (by kernel_rfl) ?_)
   exact aS hb3 () (iR rfl) bB
  refine aH ?_
  refine cq hb3 (fun ht=>aj rfl ?_)
  exact aw ((),()) pz bB ht.symm
 rintro ⟨_,_⟩ τ hz;(try dsimp only at hz);subst q4;(try dsimp only at h);dsimp only [az]
 refine ae (dg [(2,pB true)] (by kernel_rfl) ?_)
 exact zz r h rfl
def iB (p0:(List ByteArray)):Option Bool:=cond (decide (6<(p0.length:Int))) (some false) ((aT (S:=Int) (T:=(Unit)⊕(_)) (fun v2=>cond (decide (v2<(p0.length:Int))) ((idx p0 v2).bind fun m6=>(dW m6).bind fun x7=>(gd ((!(x7 == 0))&&(decide (0<v2))) (idx p0 (IntKind.i64.wrap (v2 - 1)))).bind fun m8=>cond ((x7 == 0)||((decide (0<v2))&&(Op.bytesLess m6.toList m8.toList||decide (m6=m8)))) (some (.inr (.inr false))) (some (.inl (IntKind.i64.wrap (v2+1))))) (some (.inr (.inl ())))) FUEL 0).bind fun q=>match q with | .inl _=>some true | .inr e=>some e)
theorem rQ {p0:(List ByteArray)} {r:Bool}  (h:iB p0=some r):PF 189 [pL eS p0] (pB r):=by
 unfold iB at h
 refine bd ?_
 refine du Tryz.func189 rfl Tryz.ntmps189 Tryz.results189 rfl (aW [2] (by kernel_rfl) (cj (bF [5,6] [(7,pB (decide (6<(p0.length:Int))))] (by kernel_rfl) rfl h (fun hc1 h=>?_) fun hc1 h=>?_)))
 ·refine ae ?_
  refine dg [(2,pB false)] (by kernel_rfl) (al ?_)
  exact zz r h rfl
 refine ah ?_
 refine cj (ak [(8,pL eS p0),(9,pI (p0.length:Int)),(10,pI 0)] (by kernel_rfl) (ft h fun q4 hq4 h=>?_))
 refine ar (Y:=Unit×Unit) (fun (_,_)=>[]) (fun (_,_)=>[]) (fun (_,_)=>q4=Sum.inl ()) ?_ ?_
 ·refine av ?_
  refine aC (Y:=Unit) (S:=Int) _ hq4 (fun _ v2=>[(0,pL eS p0),(8,pL eS p0),(9,pI (p0.length:Int)),(10,pI v2)]) (fun _ v2=>[]) () (iR rfl) bB ?_
  rintro _ v2 o τ hb3;(try dsimp only at hb3);dsimp only [az]
  refine ae (ak [(11,pB (decide (v2<(p0.length:Int))))] (by kernel_rfl) (bZ (kq rfl hb3 (fun hc5 hb3=>?_) fun hc5 hb3=>?_)))
  ·refine ah ?_
   refine dJ (aa hb3 fun m6 hm6 hb3=>aq [] [12,13,14] [(3,pI v2),(4,pS m6)] (cL 1 eS hm6 bj) (by kernel_rfl) (de hb3 fun x7 hx7 hb3=>aa hb3 fun m8 hm8 hb3=>aq [] (rg 15 15) [(30,pB ((x7 == 0)||((decide (0<v2))&&(Op.bytesLess m6.toList m8.toList||decide (m6=m8)))))] (bg 1 (f8 hx7) (eK 11 eS (cF hm8) bj)) (by kernel_rfl) (cR rfl hb3 (fun hc9 hb3=>?_) fun hc9 hb3=>?_)))
   ·refine ae ?_
    refine dg [(2,pB false)] (by kernel_rfl) (dH ?_)
    refine au hb3 (fun ht=>?_);subst ht
    refine cP ?_
    exact zz r h rfl
   refine ah ?_
   refine dI (ai [31] [(10,pI (IntKind.i64.wrap (v2+1)))] (by kernel_rfl) ?_)
   exact aS hb3 () (iR rfl) bB
  refine aH ?_
  refine cq hb3 (fun ht=>aj rfl ?_)
  exact aw ((),()) pz bB ht.symm
 rintro ⟨_,_⟩ τ hz;(try dsimp only at hz);subst q4;(try dsimp only at h);dsimp only [az]
 refine ae (dg [(2,pB true)] (by kernel_rfl) ?_)
 exact zz r h rfl
def kD (rec:Zd→Option Bool) (p0:Zd):Option Bool:=(nc p0).bind fun x2=>cond (!x2) (some false) (cond (p0.Kind == 1) (some true) (cond (p0.Kind == 2) ((gd (((p0.Digits == 2)||(p0.Digits == 4))||(p0.Digits == 6)) (iB p0.Except)).bind fun x6=>(gd ((((p0.Digits == 2)||(p0.Digits == 4))||(p0.Digits == 6))&&x6) (jO p0.Tolerance)).bind fun x7=>some (((((p0.Digits == 2)||(p0.Digits == 4))||(p0.Digits == 6))&&x6)&&x7)) (cond (p0.Kind == 3) ((jO p0.Limit).bind fun x9=>some x9) (cond (p0.Kind == 4) ((d9 [p0.Name]).bind fun x13=>some x13) (Option.bind (cond (p0.Kind == 5) (some (p0.Kind == 5)) (some (p0.Kind == 6))) (fun v14=>cond v14 (cond ((decide ((p0.Args.length:Int)<2))||(decide (6<(p0.Args.length:Int)))) (some false) ((aT (S:=Int) (T:=(Unit)⊕(_)) (fun v19=>cond (decide (v19<(p0.Args.length:Int))) ((idx p0.Args v19).bind fun m23=>(gd (!(m23.Kind == p0.Kind)) (rec m23)).bind fun x25=>cond ((m23.Kind == p0.Kind)||(!x25)) (some (.inr (.inr false))) (some (.inl (IntKind.i64.wrap (v19+1))))) (some (.inr (.inl ())))) FUEL 0).bind fun q=>match q with | .inl _=>some true | .inr e=>some e)) (some false)))))))
theorem uC {rec:Zd→Option Bool} (hrec:∀ {p0:Zd} {r:Bool},rec p0=some r→PF 166 [.agg (an p0)] (pB r)) {p0:Zd} {r:Bool} (h:kD rec p0=some r):PF 166 [.agg (an p0)] (pB r):=by
 unfold kD at h
 refine bd ?_
 refine du Tryz.func166 rfl Tryz.ntmps166 Tryz.results166 rfl (da rfl (bf (cs:=(an p0)) rfl rfl (fun b1=>ba [2] (by kernel_rfl) (cj (aa h fun x2 hx2 h=>aq [0] [6,7] [(8,pB (!x2))] (bg 1 (wZ hx2) bj) (by kernel_rfl) (cR rfl h (fun hc3 h=>?_) fun hc3 h=>?_))))))
 ·refine ae ?_
  refine dg [(2,pB false)] (by kernel_rfl) (al ?_)
  exact zz r h rfl
 refine ah ?_
 refine cj (aJ [0] [9] [(10,pI p0.Kind)] (by kernel_rfl) (aX (qU (bF [12] [(11,pB (p0.Kind == 1))] (by kernel_rfl) rfl h (fun hc4 h=>?_) fun hc4 h=>?_))))
 ·refine ae ?_
  refine dg [(2,pB true)] (by kernel_rfl) (dH ?_)
  exact zz r h rfl
 refine ae ?_
 refine bF [14] [(13,pB (p0.Kind == 2))] (by kernel_rfl) rfl h (fun hc5 h=>?_) fun hc5 h=>?_
 ·refine ae ?_
  refine aJ [0,0,0] (rg 15 13) [(3,pB (((p0.Digits == 2)||(p0.Digits == 4))||(p0.Digits == 6)))] (by kernel_rfl) (de h fun x6 hx6 h=>aa h fun x7 hx7 h=>aq [0,0] (rg 28 11) [(2,pB (((((p0.Digits == 2)||(p0.Digits == 4))||(p0.Digits == 6))&&x6)&&x7))] (eM 4 (fun hc=>rQ (cF hx6 hc)) (eM 9 (fun hc=>nf (cF hx7 hc)) bj)) (by kernel_rfl) (cX (dH ?_)))
  exact zz r h rfl
 refine ae ?_
 refine bF [40] [(39,pB (p0.Kind == 3))] (by kernel_rfl) rfl h (fun hc8 h=>?_) fun hc8 h=>?_
 ·refine ae ?_
  refine aa h fun x9 hx9 h=>aq [0] [41,42,43] [(2,pB x9)] (bg 2 (nf hx9) bj) (by kernel_rfl) (cX (dH ?_))
  exact zz r h rfl
 refine ae ?_
 refine bF [45] [(44,pB (p0.Kind == 4))] (by kernel_rfl) rfl h (fun hc10 h=>?_) fun hc10 h=>?_
 ·refine ae ?_
  refine af (cO 2 [0] [46] [(47,pS p0.Name)] (by kernel_rfl) (ap rfl (bN rfl rfl rfl rfl rfl (ij rfl kf) rfl rfl rfl rfl (fun b11=>?_))))
  refine ip (enc:=eS) (xs:=[p0.Name]) 48 rfl (by exact aO) ?_
  refine aa h fun x13 hx13 h=>jN [] [49] [(2,pB x13)] (bg 0 (jr hx13) bj) (by kernel_rfl) (cX (dH ?_))
  exact zz r h rfl
 refine ae ?_
 refine ae (ai [51] [(50,pB (p0.Kind == 5))] (by kernel_rfl) (ft h fun q15 hq15 h=>?_))
 refine ar (Y:=Unit×Bool) (fun (_,v14)=>[(1,pP b1 0),(50,pB v14)]) (fun (_,v14)=>[PRes.b b1 84 (an p0)]) (fun (_,v14)=>q15=v14) ?_ ?_
 ·skip
  refine kq rfl hq15 (fun hc16 hq15=>?_) fun hc16 hq15=>?_
  ·refine ah ?_
   obtain rfl:=osi hq15
   exact aw ((),(p0.Kind == 5)) (mq rfl) cK rfl
  refine ai [52] [(50,pB (p0.Kind == 6))] (by kernel_rfl) ?_
  obtain rfl:=osi hq15
  exact aw ((),(p0.Kind == 6)) (mq rfl) cK rfl
 rintro ⟨_,v14⟩ τ hz;(try dsimp only at hz);subst q15;(try dsimp only at h);dsimp only [az]
 refine kq rfl h (fun hc17 h=>?_) fun hc17 h=>?_
 ·refine ae ?_
  refine ae (aJ [0,0] (rg 53 9) [(62,pB ((decide ((p0.Args.length:Int)<2))||(decide (6<(p0.Args.length:Int)))))] (by kernel_rfl) (cR rfl h (fun hc18 h=>?_) fun hc18 h=>?_))
  ·refine ae ?_
   refine dg [(2,pB false)] (by kernel_rfl) (al (dH ?_))
   exact zz r h rfl
  refine ah ?_
  refine cj (aJ [0] [63] [(64,pL Zd.enc p0.Args),(65,pI (p0.Args.length:Int)),(66,pI 0)] (by kernel_rfl) (ft h fun q21 hq21 h=>?_))
  refine ar (Y:=Unit×Unit) (fun (_,_)=>[]) (fun (_,_)=>[]) (fun (_,_)=>q21=Sum.inl ()) ?_ ?_
  ·refine av ?_
   refine aC (Y:=Unit) (S:=Int) _ hq21 (fun _ v19=>[(1,pP b1 0),(64,pL Zd.enc p0.Args),(65,pI (p0.Args.length:Int)),(66,pI v19)]) (fun _ v19=>[PRes.b b1 84 (an p0)]) () (iR rfl) cK ?_
   rintro _ v19 o τ hb20;(try dsimp only at hb20);dsimp only [az]
   refine ae (ak [(67,pB (decide (v19<(p0.Args.length:Int))))] (by kernel_rfl) (bZ (kq rfl hb20 (fun hc22 hb20=>?_) fun hc22 hb20=>?_)))
   ·refine ah ?_
    refine dJ (aa hb20 fun m23 hm23 hb20=>af (aU 2 [] [68] [(69,.agg (an m23))] (ny 0 Zd.enc (Zd.enc_eq _) hm23 bj) (by kernel_rfl) (ap rfl (aL (cs:=[pI 0,pI 0,pN,pI 0,pI 0,pS ByteArray.empty,pN]) rfl rfl rfl rfl (fun b24=>aP rfl rfl (am (vs:=(an m23)) rfl rfl rfl rfl rfl ce mX (aF (de hb20 fun x25 hx25 hb20=>aq [0,1,0] (rg 70 9) [(79,pB ((m23.Kind == p0.Kind)||(!x25)))] (eM 7 (fun hc=>hrec (cF hx25 hc)) bj) (by kernel_rfl) (cR rfl hb20 (fun hc26 hb20=>?_) fun hc26 hb20=>?_)))))))))
    ·refine ae ?_
     refine dg [(2,pB false)] (by kernel_rfl) (dH ?_)
     refine au hb20 (fun ht=>?_);subst ht
     refine cP (dH ?_)
     exact zz r h rfl
    refine ah ?_
    refine dI (ai [80] [(66,pI (IntKind.i64.wrap (v19+1)))] (by kernel_rfl) ?_)
    exact aS hb20 () (iR rfl) (be (aB aO) bB)
   refine aH ?_
   refine cq hb20 (fun ht=>aj rfl ?_)
   exact aw ((),()) pz bB ht.symm
  rintro ⟨_,_⟩ τ hz;(try dsimp only at hz);subst q21;(try dsimp only at h);dsimp only [az]
  refine ae (dg [(2,pB true)] (by kernel_rfl) (dH ?_))
  exact zz r h rfl
 refine ah ?_
 refine aG (bZ (dg [(2,pB false)] (by kernel_rfl) ?_))
 exact zz r h rfl
def mJ (n:Nat):Zd→Option Bool:=Nat.rec (motive:=fun _=>Zd→Option Bool) (fun _=>none) (fun _ ih=>kD ih) n
def rR (p0:Zd):Option Bool:=mJ FUEL p0
theorem wc (n:Nat):∀ {p0:Zd} {r:Bool},mJ n p0=some r→PF 166 [.agg (an p0)] (pB r):=by
 induction n with
 | zero=>intros;rename_i h;exact nomatch h
 | succ n ih=>intros;rename_i h;exact uC (fun hr=>ih hr) h
theorem xb {p0:Zd} {r:Bool} (h:rR p0=some r):PF 166 [.agg (an p0)] (pB r):=wc FUEL h
def fF (p0:Zd):Option Int:=(rG p0 33).bind fun x2=>cond (decide (32<x2)) (some (8:Int)) ((rR p0).bind fun x4=>cond (!x4) (some (1:Int)) (some (0:Int)))
theorem ji {p0:Zd} {r:Int}  (h:fF p0=some r):PF 130 [.agg (an p0)] (pI r):=by
 unfold fF at h
 refine bd ?_
 refine du Tryz.func130 rfl Tryz.ntmps130 Tryz.results130 rfl (da rfl (bf (cs:=(an p0)) rfl rfl (fun b1=>ba [2] (by kernel_rfl) (cj (aa h fun x2 hx2 h=>aq [0] [3,4] [(5,pB (decide (32<x2)))] (bg 1 (wY hx2) bj) (by kernel_rfl) (cR rfl h (fun hc3 h=>?_) fun hc3 h=>?_))))))
 ·refine ae ?_
  refine dg [(2,pI 8)] (by kernel_rfl) (al ?_)
  exact zz r h rfl
 refine ah ?_
 refine cj (aa h fun x4 hx4 h=>aq [0] [6,7] [(8,pB (!x4))] (bg 1 (xb hx4) bj) (by kernel_rfl) (cR rfl h (fun hc5 h=>?_) fun hc5 h=>?_))
 ·refine ae ?_
  refine dg [(2,pI 1)] (by kernel_rfl) (al ?_)
  exact zz r h rfl
 refine ah ?_
 refine bZ (dg [(2,pI 0)] (by kernel_rfl) ?_)
 exact zz r h rfl
def dF (p0:Zb) (p1:ByteArray):Option (Zd×Bool):=(aT (S:=Int×Int) (T:=(Int)) (fun (v3,v4)=>cond (decide (v4<(p0.Rules.length:Int))) (((idx p0.Rules v4).bind fun m11=>(dE p1 m11.Prefix).bind fun x13=>(gd (x13&&(!(decide (v3<0)))) (idx p0.Rules v3)).bind fun m14=>cond (x13&&((decide (v3<0))||(decide ((m14.Prefix.size:Int)<(m11.Prefix.size:Int))))) (some v4) (some v3)).bind fun v9=>some (.inl (v9,(IntKind.i64.wrap (v4+1))))) (some (.inr v3))) FUEL ((-1),0)).bind fun v5=>(gd (!(decide (v5<0))) (idx p0.Rules v5)).bind fun m16=>(gd (!(decide (v5<0))) (fF m16.Rule)).bind fun x17=>cond ((decide (v5<0))||(x17 != 0)) (some ((⟨0,0,[],0,0,ByteArray.empty,[]⟩:Zd),false)) ((idx p0.Rules v5).bind fun m19=>(iY m19.Rule).bind fun x20=>some (x20,true))
theorem lM {p0:Zb} {p1:ByteArray} {r:(Zd×Bool)}  (h:dF p0 p1=some r):PF 89 [.agg (aA p0),pS p1] (.tup [.agg (an r.1),pB r.2]):=by
 unfold dF at h
 refine bd ?_
 refine du Tryz.func89 rfl Tryz.ntmps89 Tryz.results89 rfl (da rfl (bf (cs:=(aA p0)) rfl rfl (fun b1=>ap rfl (aL (cs:=[pI 0,pI 0,pN,pI 0,pI 0,pS ByteArray.empty,pN]) rfl rfl rfl rfl (fun b2=>ba [5] (by kernel_rfl) (bZ (ak [(6,pI (-1))] (by kernel_rfl) (cj (aJ [1] [9] [(10,pL Zh.enc p0.Rules),(11,pI (p0.Rules.length:Int)),(12,pI 0)] (by kernel_rfl) (ft h fun q7 hq7 h=>?_))))))))))
 refine ar (Y:=Unit×Int) (fun (_,v5)=>[(2,pP b1 0),(4,pP b2 0),(6,pI v5)]) (fun (_,v5)=>[PRes.b b1 81 (aA p0),PRes.b b2 84 [pI 0,pI 0,pN,pI 0,pI 0,pS ByteArray.empty,pN]]) (fun (_,v5)=>q7=v5) ?_ ?_
 ·refine av ?_
  refine aC (Y:=Unit) (S:=Int×Int) _ hq7 (fun _ (v3,v4)=>[(1,pS p1),(2,pP b1 0),(4,pP b2 0),(6,pI v3),(10,pL Zh.enc p0.Rules),(11,pI (p0.Rules.length:Int)),(12,pI v4)]) (fun _ (v3,v4)=>[PRes.b b1 81 (aA p0),PRes.b b2 84 [pI 0,pI 0,pN,pI 0,pI 0,pS ByteArray.empty,pN]]) () (sR rfl) (be (aB aO) cK) ?_
  rintro _ ⟨v3,v4⟩ o τ hb6;(try dsimp only at hb6);dsimp only [az]
  refine ae (ak [(13,pB (decide (v4<(p0.Rules.length:Int))))] (by kernel_rfl) (bZ (kq rfl hb6 (fun hc8 hb6=>?_) fun hc8 hb6=>?_)))
  ·refine ah ?_
   refine de hb6 fun q10 hq10 hb6=>?_
   refine ar (Y:=Unit×Int) (fun (_,v9)=>[(1,pS p1),(2,pP b1 0),(4,pP b2 0),(6,pI v9),(10,pL Zh.enc p0.Rules),(11,pI (p0.Rules.length:Int)),(12,pI v4)]) (fun (_,v9)=>[PRes.b b1 81 (aA p0),PRes.b b2 84 [pI 0,pI 0,pN,pI 0,pI 0,pS ByteArray.empty,pN]]) (fun (_,v9)=>q10=v9) ?_ ?_
   ·skip
    refine qU (aa hq10 fun m11 hm11 hq10=>af (aU 3 [] [15] [(14,pI v4),(16,.agg (em m11))] (cL 1 Zh.enc hm11 bj) (by kernel_rfl) (ap rfl (aL (cs:=[pS ByteArray.empty,pI 0,pI 0,pN,pI 0,pI 0,pS ByteArray.empty,pN]) rfl rfl rfl rfl (fun b12=>aD 1 [(7,pI v4)] (by kernel_rfl) (aP rfl rfl (am (vs:=(em m11)) rfl rfl rfl rfl rfl ce zl8 (aF (bZ (bi (ρd:=[]) [(0,0),(1,0),(2,0),(3,1),(4,0),(5,0),(6,0),(7,0),(8,0),(9,0),(10,0),(11,0),(12,0),(13,0),(14,0),(15,0),(16,0),(17,0),(18,0),(19,0),(20,0)] _ (List.Perm.refl _) (by kernel_rfl) rfl (aa hq10 fun x13 hx13 hq10=>aa hq10 fun m14 hm14 hq10=>bt 21 [0,0,1] (rg 17 20) [(37,pB (x13&&((decide (v3<0))||(decide ((m14.Prefix.size:Int)<(m11.Prefix.size:Int))))))] (bg 3 (iX hx13) (eK 14 Zh.enc (cF hm14) bj)) (by kernel_rfl) (bA (cR rfl hq10 (fun hc15 hq10=>?_) fun hc15 hq10=>?_)))))))))))))
    ·refine ai [38] [(6,pI v4)] (by kernel_rfl) ?_
     refine aG ?_
     obtain rfl:=osi hq10
     exact aw ((),v4) (sR rfl) (be (aB aO) (be (aB aO) bB)) rfl
    refine ah ?_
    refine aG ?_
    obtain rfl:=osi hq10
    exact aw ((),v3) (sR rfl) (be (aB aO) (be (aB aO) bB)) rfl
   rintro ⟨_,v9⟩ τ hz;(try dsimp only at hz);subst q10;(try dsimp only at hb6);dsimp only [az]
   refine ai [39] [(12,pI (IntKind.i64.wrap (v4+1)))] (by kernel_rfl) ?_
   exact aS hb6 () (sR rfl) n8
  refine aH ?_
  refine cq hb6 (fun ht=>aj rfl ?_)
  exact aw ((),v3) (nV rfl) n8 ht.symm
 rintro ⟨_,v5⟩ τ hz;(try dsimp only at hz);subst q7;(try dsimp only at h);dsimp only [az]
 refine cT (aa h fun m16 hm16 h=>aa h fun x17 hx17 h=>aq [0] (rg 40 11) [(51,pB ((decide (v5<0))||(x17 != 0)))] (eK 6 Zh.enc (cF hm16) (eM 9 (fun hc=>ji (cF hx17 hc)) bj)) (by kernel_rfl) (cR rfl h (fun hc18 h=>?_) fun hc18 h=>?_))
 ·refine ae ?_
  refine af (aD 1 [(52,.agg [pI 0,pI 0,pN,pI 0,pI 0,pS ByteArray.empty,pN])] (by kernel_rfl) (aP rfl rfl (am (vs:=[pI 0,pI 0,pN,pI 0,pI 0,pS ByteArray.empty,pN]) rfl rfl rfl rfl rfl (dA ce) mX (aN [(5,pB false)] (by kernel_rfl) (aX (cS (k:=2) (b:=b2) rfl (dA ce) (cS (k:=6) (b:=b2) rfl (dA ce) (bR (al ?_)))))))))
  obtain rfl:=osi h
  exact aM (cd (dC rfl wU rfl) (aK rfl)) bB ⟨rfl,rfl⟩
 refine ah ?_
 refine de h fun m19 hm19 h=>aa h fun x20 hx20 h=>af (aU 7 [0] (rg 53 6) [(59,.agg (an x20))] (cL 3 Zh.enc hm19 (bg 6 (oe hx20) bj)) (by kernel_rfl) (aP rfl rfl (am (vs:=(an x20)) rfl rfl rfl rfl rfl (dA ce) mX (aN [(5,pB true)] (by kernel_rfl) (cX ?_)))))
 obtain rfl:=osi h
 exact aM (cd (dC rfl wU rfl) (aK rfl)) bB ⟨rfl,rfl⟩
def cg (p0:(List Zc)) (p1:(List Zb)) (p2:ByteArray) (p3:Za):Option Bool:=(cU p0 p3.Product).bind fun x2=>cond (!x2.2) (some false) ((eG p1 p3.Agreement).bind fun x5=>(gd (!((!x5.2)||(decide (x2.1.Country=p2)))) (dK x5.1 x2.1.Country p2)).bind fun x7=>cond (((!x5.2)||(decide (x2.1.Country=p2)))||(!x7)) (some false) ((dF x5.1 x2.1.Code).bind fun x9=>some x9.2))
theorem jI {p0:(List Zc)} {p1:(List Zb)} {p2:ByteArray} {p3:Za} {r:Bool}  (h:cg p0 p1 p2 p3=some r):PF 44 [pL Zc.enc p0,pL Zb.enc p1,pS p2,.agg [pI p3.Product,pI p3.Agreement]] (pB r):=by
 unfold cg at h
 refine bd ?_
 refine du Tryz.func44 rfl Tryz.ntmps44 Tryz.results44 rfl (da rfl (bf (cs:=[pI p3.Product,pI p3.Agreement]) rfl rfl (fun b1=>ba [8] (by kernel_rfl) (de h fun x2 hx2 h=>af (aU 7 [0] [13,14,15,16,12] [(17,.agg (aI x2.1)),(18,pB x2.2)] (bg 3 (fQ hx2) bj) (by kernel_rfl) (ap rfl (aL (cs:=[pI 0,pS ByteArray.empty,pS ByteArray.empty,pI 0,pB false,pN,pN]) rfl rfl rfl rfl (fun b3=>aP rfl rfl (am (vs:=(aI x2.1)) rfl rfl rfl rfl rfl ce mX (aN [(10,pB x2.2)] (by kernel_rfl) (cj (bF [19] [(20,pB (!x2.2))] (by kernel_rfl) rfl h (fun hc4 h=>?_) fun hc4 h=>?_))))))))))))
 ·refine ae ?_
  refine dg [(8,pB false)] (by kernel_rfl) (al ?_)
  exact zz r h rfl
 refine ah ?_
 refine de h fun x5 hx5 h=>af (aU 7 [1] [22,23,24,25,21] [(26,.agg (aA x5.1)),(27,pB x5.2)] (bg 3 (jS hx5) bj) (by kernel_rfl) (ap rfl (aL (cs:=[pI 0,pI 0,pN,pN]) rfl rfl rfl rfl (fun b6=>aP rfl rfl (am (vs:=(aA x5.1)) rfl rfl rfl rfl rfl ce xx (aN [(10,pB x5.2)] (by kernel_rfl) (cj (aa h fun x7 hx7 h=>aq [1,0,1] (rg 28 15) [(43,pB (((!x5.2)||(decide (x2.1.Country=p2)))||(!x7)))] (eM 13 (fun hc=>jz (cF hx7 hc)) bj) (by kernel_rfl) (cR rfl h (fun hc8 h=>?_) fun hc8 h=>?_)))))))))
 ·refine ae ?_
  refine dg [(8,pB false)] (by kernel_rfl) (al ?_)
  exact zz r h rfl
 refine ah ?_
 refine de h fun x9 hx9 h=>aq [0,1] [45,46,47,48,44,49,50] [(10,pB x9.2)] (bg 3 (lM hx9) bj) (by kernel_rfl) (bZ (ai [51] [(8,pB x9.2)] (by kernel_rfl) (cX ?_)))
 exact zz r h rfl
def fj (p0:Zh) (p1:Zh):Option Bool:=(gd (decide (p0.Prefix=p1.Prefix)) (fF p0.Rule)).bind fun x3=>(gd ((decide (p0.Prefix=p1.Prefix))&&(x3 == 0)) (iZ p0.Rule p1.Rule)).bind fun x4=>some (((decide (p0.Prefix=p1.Prefix))&&(x3 == 0))&&x4)
theorem nk {p0:Zh} {p1:Zh} {r:Bool}  (h:fj p0 p1=some r):PF 135 [.agg (em p0),.agg (em p1)] (pB r):=by
 unfold fj at h
 refine bd ?_
 refine du Tryz.func135 rfl Tryz.ntmps135 Tryz.results135 rfl (da rfl (bf (cs:=(em p0)) rfl rfl (fun b1=>ap rfl (bf (cs:=(em p1)) rfl rfl (fun b2=>ba [4] (by kernel_rfl) (de h fun x3 hx3 h=>aa h fun x4 hx4 h=>aq [1,0,1,1,0] (rg 5 18) [(4,pB (((decide (p0.Prefix=p1.Prefix))&&(x3 == 0))&&x4))] (eM 8 (fun hc=>ji (cF hx3 hc)) (eM 16 (fun hc=>og (cF hx4 hc)) bj)) (by kernel_rfl) (cX ?_)))))))
 exact zz r h rfl
def eP (p0:(List Zh)) (p1:(List Zh)):Option Bool:=(bm p0 p1 (fun y1 y2=>fj y1 y2)).bind fun x3=>some x3
theorem nP {p0:(List Zh)} {p1:(List Zh)} {r:Bool}  (h:eP p0 p1=some r):PF 95 [pL Zh.enc p0,pL Zh.enc p1] (pB r):=by
 unfold eP at h
 refine bd ?_
 refine du Tryz.func95 rfl Tryz.ntmps95 Tryz.results95 rfl (aW [4] (by kernel_rfl) (de h fun x3 hx3 h=>aq [] [5,6,7] [(4,pB x3)] (bg 2 (dR (fun hr=>sZ (nk hr)) hx3) bj) (by kernel_rfl) (cX ?_)))
 exact zz r h rfl
def eD (p0:(List Zb)) (p1:Int) (p2:ByteArray) (p3:ByteArray):Option (List Int):=(eG p0 p1).bind fun x1=>cond (!x1.2) (some []) (cond (x1.1.Kind != 2) (some [p1]) ((aT (S:=(List Int)×Int) (T:=((List Int))) (fun (l8,v11)=>cond (decide (v11<(p0.length:Int))) (((idx p0 v11).bind fun m24=>(gd (m24.ID != p1) (dK m24 p2 p3)).bind fun x26=>(gd ((m24.ID != p1)&&x26) (eP x1.1.Rules m24.Rules)).bind fun x27=>cond (((m24.ID != p1)&&x26)&&x27) ((app 8 l8 [m24.ID]).bind fun l31=>some l31) (some l8)).bind fun l22=>some (.inl (l22,(IntKind.i64.wrap (v11+1))))) (some (.inr l8))) FUEL ([p1],0)).bind fun l15=>some l15))
theorem oU {p0:(List Zb)} {p1:Int} {p2:ByteArray} {p3:ByteArray} {r:(List Int)}  (h:eD p0 p1 p2 p3=some r):PF 47 [pL Zb.enc p0,pI p1,pS p2,pS p3] (pL eI r):=by
 unfold eD at h
 refine bd ?_
 refine du Tryz.func47 rfl Tryz.ntmps47 Tryz.results47 rfl (aW [8] (by kernel_rfl) (de h fun x1 hx1 h=>af (aU 6 [] [15,16,17,14] [(18,.agg (aA x1.1)),(19,pB x1.2)] (bg 2 (jS hx1) bj) (by kernel_rfl) (ap rfl (aL (cs:=[pI 0,pI 0,pN,pN]) rfl rfl rfl rfl (fun b2=>aP rfl rfl (am (vs:=(aA x1.1)) rfl rfl rfl rfl rfl ce xx (aN [(10,pB x1.2)] (by kernel_rfl) (cj (bF [20] [(21,pB (!x1.2))] (by kernel_rfl) rfl h (fun hc3 h=>?_) fun hc3 h=>?_))))))))))
 ·refine ae ?_
  refine ak [(8,pN)] (by kernel_rfl) (aX (hZ 8 rfl (bR (al ?_))))
  exact zz r h rfl
 refine ah ?_
 refine bZ (af (aD 1 [(22,pI p1)] (by kernel_rfl) (ap rfl (bN rfl rfl rfl rfl rfl (ij rfl kf) rfl rfl rfl rfl (fun b4=>aN [(11,pO (some ⟨b4,0,none⟩) 1 1)] (by kernel_rfl) (cj (aJ [1] [24,25] [(26,pB (x1.1.Kind != 2))] (by kernel_rfl) (cR rfl h (fun hc6 h=>?_) fun hc6 h=>?_))))))))
 ·refine ae ?_
  refine ai [27] [(8,pO (some ⟨b4,0,none⟩) 1 1)] (by kernel_rfl) (aX ?_)
  refine fe (enc:=eI) (xs:=[p1]) 8 rfl (by exact aO) ?_
  refine bR (al ?_)
  exact zz r h rfl
 refine ah ?_
 refine cj (ak [(28,pL Zb.enc p0),(29,pI (p0.length:Int)),(30,pI 0)] (by kernel_rfl) (ft h fun q17 hq17 h=>?_))
 refine ar (Y:=(Option Addr×Nat)×((List Int))) (fun ((a13,c14),l15)=>[(11,pO a13 l15.length c14)]) (fun ((a13,c14),l15)=>[PRes.row a13 l15.length c14 3 1 (List.map eI l15)]) (fun ((a13,c14),l15)=>q17=l15) ?_ ?_
 ·refine av ?_
  refine aC (Y:=Option Addr×Nat) (S:=(List Int)×Int) _ hq17 (fun (a9,c10) (l8,v11)=>[(1,pI p1),(2,pS p2),(3,pS p3),(9,pP b2 0),(11,pO a9 l8.length c10),(28,pL Zb.enc p0),(29,pI (p0.length:Int)),(30,pI v11)]) (fun (a9,c10) (l8,v11)=>[PRes.b b2 81 (aA x1.1),PRes.row a9 l8.length c10 3 1 (List.map eI l8)]) ((some ⟨b4,0,none⟩),1) (r8 rfl) (be (aB aO) cK) ?_
  rintro ⟨a9,c10⟩ ⟨l8,v11⟩ o τ hb16;(try dsimp only at hb16);dsimp only [az]
  refine ae (ak [(31,pB (decide (v11<(p0.length:Int))))] (by kernel_rfl) (bZ (kq rfl hb16 (fun hc18 hb16=>?_) fun hc18 hb16=>?_)))
  ·refine ah ?_
   refine de hb16 fun q23 hq23 hb16=>?_
   refine ar (Y:=(Option Addr×Nat)×((List Int))) (fun ((a20,c21),l22)=>[(1,pI p1),(2,pS p2),(3,pS p3),(9,pP b2 0),(11,pO a20 l22.length c21),(28,pL Zb.enc p0),(29,pI (p0.length:Int)),(30,pI v11)]) (fun ((a20,c21),l22)=>[PRes.b b2 81 (aA x1.1),PRes.row a20 l22.length c21 3 1 (List.map eI l22)]) (fun ((a20,c21),l22)=>q23=l22) ?_ ?_
   ·skip
    refine qU (aa hq23 fun m24 hm24 hq23=>af (aU 2 [] [32] [(33,.agg (aA m24))] (cL 0 Zb.enc hm24 bj) (by kernel_rfl) (ap rfl (aL (cs:=[pI 0,pI 0,pN,pN]) rfl rfl rfl rfl (fun b25=>aP rfl rfl (am (vs:=(aA m24)) rfl rfl rfl rfl rfl ce xx (aF (de hq23 fun x26 hx26 hq23=>aa hq23 fun x27 hx27 hq23=>aq [0,0,1,0] (rg 34 16) [(50,pB (((m24.ID != p1)&&x26)&&x27))] (eM 8 (fun hc=>jz (cF hx26 hc)) (eM 15 (fun hc=>nP (cF hx27 hc)) bj)) (by kernel_rfl) (cR rfl hq23 (fun hc28 hq23=>?_) fun hc28 hq23=>?_)))))))))
    ·refine af ?_
     refine cO 3 [0] [52] [(51,pO a9 l8.length c10),(53,pI m24.ID)] (by kernel_rfl) (ap rfl (bN rfl rfl rfl rfl rfl (ij rfl kf) rfl rfl rfl rfl (fun b29=>aa hq23 fun l31 hl31 hq23=>?_)))
     refine ap rfl (cr (enc:=eI) rfl rfl rfl rfl rfl rfl rfl rfl rfl gb (by exact aB (aB (aB aO))) hl31 (fun a32 c33=>?_))
     refine aN [(11,pO a32 l31.length c33)] (by kernel_rfl) (aG ?_)
     obtain rfl:=osi hq23
     exact aw ((a32,c33),l31) (r8 rfl) (be (aB (aB (aB aO))) cK) rfl
    refine ah ?_
    refine aG ?_
    obtain rfl:=osi hq23
    exact aw ((a9,c10),l8) (r8 rfl) (be (aB aO) (be (aB aO) bB)) rfl
   rintro ⟨⟨a20,c21⟩,l22⟩ τ hz;(try dsimp only at hz);subst q23;(try dsimp only at hb16);dsimp only [az]
   refine ai [56] [(30,pI (IntKind.i64.wrap (v11+1)))] (by kernel_rfl) ?_
   exact aS hb16 (a20,c21) (r8 rfl) n8
  refine aH ?_
  refine cq hb16 (fun ht=>aj rfl ?_)
  exact aw ((a9,c10),l8) (rD rfl) (be (aB aO) bB) ht.symm
 rintro ⟨⟨a13,c14⟩,l15⟩ τ hz;(try dsimp only at hz);subst q17;(try dsimp only at h);dsimp only [az]
 refine ae (ai [57] [(8,pO a13 l15.length c14)] (by kernel_rfl) (aX ?_))
 refine fe (enc:=eI) (xs:=l15) 8 rfl (by exact aO) ?_
 refine bR ?_
 exact zz r h rfl
def j6 (p0:(List ByteArray)) (p1:(List ByteArray)):Option (List ByteArray):=(dc [p0,p1]).bind fun x3=>(jl x3).bind fun x7=>(dS x7).bind fun x8=>some x8
theorem wd {p0:(List ByteArray)} {p1:(List ByteArray)} {r:(List ByteArray)}  (h:j6 p0 p1=some r):PF 97 [pL eS p0,pL eS p1] (pL eS r):=by
 unfold j6 at h
 refine bd ?_
 refine du Tryz.func97 rfl Tryz.ntmps97 Tryz.results97 rfl (aW [4] (by kernel_rfl) (bZ (af (aD 2 [(6,pL eS p0),(7,pL eS p1)] (by kernel_rfl) (ap rfl (bN rfl rfl rfl rfl rfl (ij rfl (ij rfl kf)) rfl rfl rfl rfl (fun b1=>?_)))))))
 refine ip (enc:=(eL eS)) (xs:=[p0,p1]) 8 rfl (by exact aO) ?_
 refine aa h fun x3 hx3 h=>?_
 refine ap rfl (bh rfl rfl (ρ1:=[]) (List.Perm.refl _) (kY hx3) ?_);rintro _ _ ⟨a4,c5,rfl,rfl⟩
 refine aN [(5,pO a4 x3.length c5)] (by kernel_rfl) (de h fun x7 hx7 h=>af (aD 1 [(10,pO a4 x3.length c5)] (by kernel_rfl) ?_))
 refine ap rfl (bh rfl rfl (ρ1:=[_]) (aY (by exact aO) (List.Perm.refl _)) (mh hx7) ?_);rintro _ _ ⟨rfl,rfl⟩
 refine aF (de h fun x8 hx8 h=>af (aD 1 [(12,pO a4 x3.length c5)] (by kernel_rfl) ?_))
 refine ap rfl (bh rfl rfl (ρ1:=[_]) (aY (by exact aO) (List.Perm.refl _)) (kJ hx8) ?_);rintro _ _ ⟨a9,c10,rfl,rfl⟩
 refine aN [(4,pO a9 x8.length c10)] (by kernel_rfl) (aX ?_)
 refine fe (enc:=eS) (xs:=x8) 4 rfl (by exact aO) ?_
 refine bR ?_
 exact zz r h rfl
def fk (p0:(List Zc)) (p1:Zb) (p2:Zc) (p3:Zs):Option ((List Ze)×(List ByteArray)):=(bU p2.Processes).bind fun x4=>(aT (S:=(List Ze)×(List ByteArray)×Int) (T:=((List Ze)×(List ByteArray))) (fun (l9,l12,v13)=>cond (decide (v13<(p2.Inputs.length:Int))) (((idx p2.Inputs v13).bind fun m29=>(cU p0 m29.Product).bind fun x31=>(gd (p1.Kind == 3) (bJ p1.Parties x31.1.Country)).bind fun x33=>Option.bind (cond ((p1.Kind == 3)&&x33) ((j6 l12 x31.1.Processes).bind fun x38=>some x38) (some l12)) (fun l35=>(cV p3 x31.1 m29.Value).bind fun x39=>cond (((Ze.is_proved_ x39)||(!((p1.Kind == 3)&&x33)))||((x31.1.Inputs.length:Int) == 0)) ((app 16 l9 [x39]).bind fun l44=>some (l44,l35)) ((aT (S:=(List Ze)×Int) (T:=((List Ze))) (fun (l49,v52)=>cond (decide (v52<(x31.1.Inputs.length:Int))) ((idx x31.1.Inputs v52).bind fun m60=>(cU p0 m60.Product).bind fun x62=>(fR m29.Value m60.Value x31.1.Price).bind fun x64=>(cV p3 x62.1 x64).bind fun x65=>(app 16 l49 [x65]).bind fun l68=>some (.inl (l68,(IntKind.i64.wrap (v52+1))))) (some (.inr l49))) FUEL (l9,0)).bind fun l56=>some (l56,l35)))).bind fun (l26,l27)=>some (.inl (l26,l27,(IntKind.i64.wrap (v13+1))))) (some (.inr (l9,l12)))) FUEL (([]:List Ze),x4,0)).bind fun (l17,l18)=>(sub l18 0 (oM (l18.length:Int) 8)).bind fun l73=>some (l17,l73)
theorem qt {p0:(List Zc)} {p1:Zb} {p2:Zc} {p3:Zs} {m3_set_:Nat} {r:((List Ze)×(List ByteArray))}  (h:fk p0 p1 p2 p3=some r):PCall 48 [pL Zc.enc p0,.agg (aA p1),.agg (aI p2),.agg [pL eI p3.partners,.v (.map (some m3_set_))]] [PRes.mp (some m3_set_) (gi Za.key vT p3.set_)] (fun pv ρ'=>pv=.tup [pL Ze.enc r.1,pL eS r.2]∧ρ'=[PRes.mp (some m3_set_) (gi Za.key vT p3.set_)]):=by
 unfold fk at h
 refine du Tryz.func48 rfl Tryz.ntmps48 Tryz.results48 rfl (da rfl (bf (cs:=(aA p1)) rfl rfl (fun b1=>ap rfl (bf (cs:=(aI p2)) rfl rfl (fun b2=>ap rfl (bf (cs:=[pL eI p3.partners,.v (.map (some m3_set_))]) rfl rfl (fun b3=>ba [8,9] (by kernel_rfl) (bZ (ak [(10,pN)] (by kernel_rfl) (de h fun x4 hx4 h=>af (cO 2 [1] [24] [(25,pL eS p2.Processes)] (by kernel_rfl) ?_)))))))))))
 refine ap rfl (bh rfl rfl (ρ1:=[]) (List.Perm.refl _) (ff hx4) ?_);rintro _ _ ⟨a5,c6,rfl,rfl⟩
 refine aN [(11,pO a5 x4.length c6)] (by kernel_rfl) (cj (aJ [2] [27] [(28,pL Zi.enc p2.Inputs),(29,pI (p2.Inputs.length:Int)),(30,pI 0)] (by kernel_rfl) (aX (di 101 1 ?_))))
 refine fe (enc:=eS) (xs:=x4) 11 rfl (by exact aB aO) ?_
 refine aa h fun q20 hq20 h=>?_
 refine ar (Y:=(Option Addr×Nat)×((List Ze)×(List ByteArray))) (fun ((a15,c16),(l17,l18))=>[(10,pO a15 l17.length c16),(11,pL eS l18)]) (fun ((a15,c16),(l17,l18))=>[PRes.mp (some m3_set_) (gi Za.key vT p3.set_),PRes.row a15 l17.length c16 101 1 (List.map Ze.enc l17)]) (fun ((a15,c16),(l17,l18))=>q20=(l17,l18)) ?_ ?_
 ·refine av ?_
  refine aC (Y:=Option Addr×Nat) (S:=(List Ze)×(List ByteArray)×Int) _ hq20 (fun (a10,c11) (l9,l12,v13)=>[(0,pL Zc.enc p0),(5,pP b1 0),(7,pP b3 0),(10,pO a10 l9.length c11),(11,pL eS l12),(28,pL Zi.enc p2.Inputs),(29,pI (p2.Inputs.length:Int)),(30,pI v13)]) (fun (a10,c11) (l9,l12,v13)=>[PRes.b b1 81 (aA p1),PRes.b b3 96 [pL eI p3.partners,.v (.map (some m3_set_))],PRes.mp (some m3_set_) (gi Za.key vT p3.set_),PRes.row a10 l9.length c11 101 1 (List.map Ze.enc l9)]) (none,0) (r8 rfl) (be (aB (aB (aB (aB aO)))) (be (aB (aB aO)) (be (aB (aB (aB aO))) (be (aB aO) bB)))) ?_
  rintro ⟨a10,c11⟩ ⟨l9,l12,v13⟩ o τ hb19;(try dsimp only at hb19);dsimp only [az]
  refine ae (ak [(31,pB (decide (v13<(p2.Inputs.length:Int))))] (by kernel_rfl) (bZ (kq rfl hb19 (fun hc22 hb19=>?_) fun hc22 hb19=>?_)))
  ·refine ah ?_
   refine de hb19 fun q28 hq28 hb19=>?_
   refine ar (Y:=(Option Addr×Nat)×((List Ze)×(List ByteArray))) (fun ((a24,c25),(l26,l27))=>[(0,pL Zc.enc p0),(5,pP b1 0),(7,pP b3 0),(10,pO a24 l26.length c25),(11,pL eS l27),(28,pL Zi.enc p2.Inputs),(29,pI (p2.Inputs.length:Int)),(30,pI v13)]) (fun ((a24,c25),(l26,l27))=>[PRes.b b1 81 (aA p1),PRes.b b3 96 [pL eI p3.partners,.v (.map (some m3_set_))],PRes.mp (some m3_set_) (gi Za.key vT p3.set_),PRes.row a24 l26.length c25 101 1 (List.map Ze.enc l26)]) (fun ((a24,c25),(l26,l27))=>q28=(l26,l27)) ?_ ?_
   ·skip
    refine qU (aa hq28 fun m29 hm29 hq28=>af (aU 2 [] [32] [(33,.agg [pI m29.Product,pI m29.Value])] (cL 0 Zi.enc hm29 bj) (by kernel_rfl) (ap rfl (aL (cs:=[pI 0,pI 0]) rfl rfl rfl rfl (fun b30=>aP rfl rfl (am (vs:=[pI m29.Product,pI m29.Value]) rfl rfl rfl rfl rfl ce sQ (aF (de hq28 fun x31 hx31 hq28=>af (aU 7 [0] [35,36,37,38,34] [(39,.agg (aI x31.1)),(40,pB x31.2)] (bg 3 (fQ hx31) bj) (by kernel_rfl) (ap rfl (aL (cs:=[pI 0,pS ByteArray.empty,pS ByteArray.empty,pI 0,pB false,pN,pN]) rfl rfl rfl rfl (fun b32=>aP rfl rfl (am (vs:=(aI x31.1)) rfl rfl rfl rfl rfl ce mX (ba [15] (by kernel_rfl) (de hq28 fun x33 hx33 hq28=>aq [2,2,0] (rg 41 10) [(16,pB ((p1.Kind == 3)&&x33))] (eM 8 (fun hc=>db (cF hx33 hc)) bj) (by kernel_rfl) (cj (ak [(51,pB ((p1.Kind == 3)&&x33))] (by kernel_rfl) (ft hq28 fun q36 hq36 hq28=>?_))))))))))))))))))
    refine ar (Y:=Unit×((List ByteArray))) (fun (_,l35)=>[(0,pL Zc.enc p0),(5,pP b1 0),(7,pP b3 0),(10,pO a10 l9.length c11),(11,pL eS l35),(13,pP b30 0),(14,pP b32 0),(16,pB ((p1.Kind == 3)&&x33)),(28,pL Zi.enc p2.Inputs),(29,pI (p2.Inputs.length:Int)),(30,pI v13)]) (fun (_,l35)=>[PRes.b b1 81 (aA p1),PRes.b b3 96 [pL eI p3.partners,.v (.map (some m3_set_))],PRes.b b30 78 [pI m29.Product,pI m29.Value],PRes.b b32 76 (aI x31.1),PRes.mp (some m3_set_) (gi Za.key vT p3.set_),PRes.row a10 l9.length c11 101 1 (List.map Ze.enc l9)]) (fun (_,l35)=>q36=l35) ?_ ?_
    ·skip
     refine kq rfl hq36 (fun hc37 hq36=>?_) fun hc37 hq36=>?_
     ·refine aa hq36 ?_;clear hq36;intro x38 hx38 hq36
      refine aq [0] [52,53,54,55] [(11,pL eS x38)] (bg 3 (wd hx38) bj) (by kernel_rfl) ?_
      obtain rfl:=osi hq36
      exact aw ((),x38) (eF rfl (eF rfl (sS rfl))) (be (aB (aB aO)) (be (aB (aB aO)) (be (aB aO) A7))) rfl
     refine ah ?_
     obtain rfl:=osi hq36
     exact aw ((),l12) (eF rfl (eF rfl (sS rfl))) (be (aB (aB aO)) (be (aB (aB aO)) (be (aB aO) A7))) rfl
    rintro ⟨_,l35⟩ τ hz;(try dsimp only at hz);subst q36;(try dsimp only at hq28);dsimp only [az]
    refine ae (aa hq28 fun x39 hx39 hq28=>af (cO 4 [1,3,2] [58] [(56,.agg [pL eI p3.partners,.v (.map (some m3_set_))]),(57,.agg (aI x31.1)),(59,pI m29.Value)] (by kernel_rfl) ?_))
    refine ap rfl (bh rfl rfl (ρ1:=[_]) (aY (by exact aB (aB (aB (aB aO)))) (List.Perm.refl _)) (iP hx39) ?_);rintro _ _ ⟨rfl,rfl⟩
    refine aN [(17,Ze.pv x39)] (by kernel_rfl) (cj (af (aU 5 [] [62,63,61] [(64,.agg [pS ((((Ze.as_proved_ x39)).use).Code),pI ((((Ze.as_proved_ x39)).use).Value),pB ((((Ze.as_proved_ x39)).use).Originating),pI ((((Ze.as_proved_ x39)).premise).Product),pI ((((Ze.as_proved_ x39)).premise).Agreement)]),(65,pB (Ze.is_proved_ x39))] (fota 1 (Ze.ta_proved_ x39) bj) (by kernel_rfl) (ap rfl (aL (cs:=[pS ByteArray.empty,pI 0,pB false,pI 0,pI 0]) rfl rfl rfl rfl (fun b40=>aP rfl rfl (am (vs:=[pS ((((Ze.as_proved_ x39)).use).Code),pI ((((Ze.as_proved_ x39)).use).Value),pB ((((Ze.as_proved_ x39)).use).Originating),pI ((((Ze.as_proved_ x39)).premise).Product),pI ((((Ze.as_proved_ x39)).premise).Agreement)]) rfl rfl rfl rfl rfl ce Fi (aN [(19,pB (Ze.is_proved_ x39))] (by kernel_rfl) (bZ (aJ [5] (rg 66 10) [(76,pB (((Ze.is_proved_ x39)||(!((p1.Kind == 3)&&x33)))||((x31.1.Inputs.length:Int) == 0)))] (by kernel_rfl) (cR rfl hq28 (fun hc41 hq28=>?_) fun hc41 hq28=>?_)))))))))))
    ·refine ae ?_
     refine af (aD 2 [(77,pO a10 l9.length c11),(78,Ze.pv x39)] (by kernel_rfl) (ap rfl (bN rfl rfl rfl rfl rfl (ij rfl kf) rfl rfl rfl rfl (fun b42=>aa hq28 fun l44 hl44 hq28=>?_))))
     refine ap rfl (cr (enc:=Ze.enc) rfl rfl rfl rfl rfl rfl rfl rfl rfl gb (by exact aB (aB (aB (aB (aB (aB (aB aO))))))) hl44 (fun a45 c46=>?_))
     refine aN [(10,pO a45 l44.length c46)] (by kernel_rfl) (aX (aH (hC (aj rfl ?_))))
     obtain rfl:=osi hq28
     exact aw ((a45,c46),(l44,l35)) (r8 rfl) (be (aB (aB (aB (aB aO)))) (be (aB (aB (aB (aB aO)))) (be (aB (aB (aB aO))) cK))) rfl
    refine ah ?_
    refine bZ (aJ [5] [81] [(82,pL Zi.enc x31.1.Inputs),(83,pI (x31.1.Inputs.length:Int)),(84,pI 0)] (by kernel_rfl) (ft hq28 fun q58 hq58 hq28=>?_))
    refine ju (Y:=(Option Addr×Nat)×((List Ze))) (fun ((a54,c55),l56)=>[(0,pL Zc.enc p0),(5,pP b1 0),(7,pP b3 0),(10,pO a54 l56.length c55),(11,pL eS l35),(28,pL Zi.enc p2.Inputs),(29,pI (p2.Inputs.length:Int)),(30,pI v13)]) (fun ((a54,c55),l56)=>[PRes.b b1 81 (aA p1),PRes.b b3 96 [pL eI p3.partners,.v (.map (some m3_set_))],PRes.mp (some m3_set_) (gi Za.key vT p3.set_),PRes.row a54 l56.length c55 101 1 (List.map Ze.enc l56)]) (fun ((a54,c55),l56)=>q58=l56) ?_ ?_
    ·refine av ?_
     refine aC (Y:=Option Addr×Nat) (S:=(List Ze)×Int) _ hq58 (fun (a50,c51) (l49,v52)=>[(0,pL Zc.enc p0),(5,pP b1 0),(7,pP b3 0),(10,pO a50 l49.length c51),(11,pL eS l35),(13,pP b30 0),(14,pP b32 0),(28,pL Zi.enc p2.Inputs),(29,pI (p2.Inputs.length:Int)),(30,pI v13),(82,pL Zi.enc x31.1.Inputs),(83,pI (x31.1.Inputs.length:Int)),(84,pI v52)]) (fun (a50,c51) (l49,v52)=>[PRes.b b1 81 (aA p1),PRes.b b3 96 [pL eI p3.partners,.v (.map (some m3_set_))],PRes.b b30 78 [pI m29.Product,pI m29.Value],PRes.b b32 76 (aI x31.1),PRes.mp (some m3_set_) (gi Za.key vT p3.set_),PRes.row a50 l49.length c51 101 1 (List.map Ze.enc l49)]) (a10,c11) (eF rfl (eF rfl (eF rfl (eF rfl (sS rfl))))) (be (aB (aB aO)) (be (aB (aB aO)) (be (aB (aB aO)) (be (aB (aB aO)) (be (aB aO) (be (aB aO) bB)))))) ?_
     rintro ⟨a50,c51⟩ ⟨l49,v52⟩ o τ hb57;(try dsimp only at hb57);dsimp only [az]
     refine ae (ak [(85,pB (decide (v52<(x31.1.Inputs.length:Int))))] (by kernel_rfl) (bZ (kq rfl hb57 (fun hc59 hb57=>?_) fun hc59 hb57=>?_)))
     ·refine ah ?_
      refine dJ (aa hb57 fun m60 hm60 hb57=>af (aU 2 [] [86] [(87,.agg [pI m60.Product,pI m60.Value])] (cL 0 Zi.enc hm60 bj) (by kernel_rfl) (ap rfl (aL (cs:=[pI 0,pI 0]) rfl rfl rfl rfl (fun b61=>aP rfl rfl (am (vs:=[pI m60.Product,pI m60.Value]) rfl rfl rfl rfl rfl ce sQ (aF (de hb57 fun x62 hx62 hb57=>af (aU 7 [0] [89,90,91,92,88] [(93,.agg (aI x62.1)),(94,pB x62.2)] (bg 3 (fQ hx62) bj) (by kernel_rfl) (ap rfl (aL (cs:=[pI 0,pS ByteArray.empty,pS ByteArray.empty,pI 0,pB false,pN,pN]) rfl rfl rfl rfl (fun b63=>aP rfl rfl (am (vs:=(aI x62.1)) rfl rfl rfl rfl rfl ce mX (ba [23] (by kernel_rfl) (aX (bi (ρd:=[PRes.mp (some m3_set_) _,PRes.row a50 _ _ _ _ _]) [(0,0),(1,0),(2,0),(3,0),(4,0),(5,0),(6,0),(7,0),(8,0),(9,1),(10,1),(11,1),(12,1),(13,0)] _ (aY (aB (aB (aB (aB (aB (aB aO)))))) (aY (aB (aB (aB (aB (aB (aB aO)))))) (List.Perm.refl _))) (by kernel_rfl) rfl (aa hb57 fun x64 hx64 hb57=>aa hb57 fun x65 hx65 hb57=>bt 10 [3,0,4,1,5] (rg 98 6) [(95,pO a50 l49.length c51),(96,.agg [pL eI p3.partners,.v (.map (some m3_set_))]),(97,.agg (aI x62.1)),(104,pI x64)] (bg 9 (pK hx64) bj) (by kernel_rfl) ?_)))))))))))))))))
      refine iT rfl rfl rfl (bh rfl rfl (ρ1:=[_]) (aY (by exact aO) (List.Perm.refl _)) (iP hx65) ?_);rintro _ _ ⟨rfl,rfl⟩
      refine iT rfl rfl rfl (bN rfl rfl rfl rfl rfl (ij rfl kf) rfl rfl rfl rfl (fun b66=>aa hb57 fun l68 hl68 hb57=>?_))
      refine iT rfl rfl rfl (cr (enc:=Ze.enc) rfl rfl rfl rfl rfl rfl rfl rfl rfl gb (by exact aB (aB aO)) hl68 (fun a69 c70=>?_))
      refine iW 1 [(10,pO a69 l68.length c70)] (by kernel_rfl) (bA (dI (ai [108] [(84,pI (IntKind.i64.wrap (v52+1)))] (by kernel_rfl) ?_)))
      exact aS hb57 (a69,c70) (eF rfl (eF rfl (eF rfl (eF rfl (sS rfl))))) (be (aB (aB (aB (aB (aB aO))))) (be (aB (aB (aB (aB (aB aO))))) (be (aB (aB (aB (aB (aB aO))))) (be (aB (aB (aB (aB (aB aO))))) (be (aB (aB aO)) cK)))))
     refine aH ?_
     refine cq hb57 (fun ht=>aj rfl ?_)
     exact hY ((a50,c51),l49) (r8 rfl) (be aO (be aO (be (aB (aB aO)) (be (aB (aB aO)) bB)))) ht.symm
    rintro ⟨⟨a54,c55⟩,l56⟩ τ ρ1 hsub72 hz;(try dsimp only at hz hsub72);subst q58;(try dsimp only at hq28);dsimp only [az]
    refine aG ?_
    obtain rfl:=osi hq28
    exact aw ((a54,c55),(l56,l35)) (r8 rfl) (PSub.trans Es hsub72) rfl
   rintro ⟨⟨a24,c25⟩,⟨l26,l27⟩⟩ τ hz;(try dsimp only at hz);subst q28;(try dsimp only at hb19);dsimp only [az]
   refine ai [109] [(30,pI (IntKind.i64.wrap (v13+1)))] (by kernel_rfl) ?_
   exact aS hb19 (a24,c25) (r8 rfl) Es
  refine aH ?_
  refine cq hb19 (fun ht=>aj rfl ?_)
  exact aw ((a10,c11),(l9,l12)) (mq rfl) (be (aB (aB aO)) (be (aB (aB aO)) bB)) ht.symm
 rintro ⟨⟨a15,c16⟩,⟨l17,l18⟩⟩ τ hz;(try dsimp only at hz);subst q20;(try dsimp only at h);dsimp only [az]
 refine ae (bi (ρd:=[]) [(0,0),(1,0),(2,0),(3,0),(4,0),(5,0),(6,0),(7,0)] _ (List.Perm.refl _) (by kernel_rfl) rfl (aa h fun l73 hl73 h=>bt 8 [] (rg 110 6) [(8,pO a15 l17.length c16),(9,pL eS l73)] (vz 5 eS 1 (fun _=>rfl) hl73 bj) (by kernel_rfl) (bA (aX ?_))))
 refine fe (enc:=Ze.enc) (xs:=l17) 8 rfl (by exact aB aO) ?_
 refine bR ?_
 obtain rfl:=osi h
 exact aM (cd (aK rfl) (aK rfl)) (be (aB aO) bB) ⟨rfl,rfl⟩
def fm (p0:(List Zc)) (p1:(List Zb)) (p2:ByteArray) (p3:Za) (p4:(List Za)):Option (Zl×(List Za)):=(cg p0 p1 p2 p3).bind fun x3=>cond (!x3) (some ((⟨ByteArray.empty,0,false,[],[]⟩:Zl),[])) ((cU p0 p3.Product).bind fun x5=>(eG p1 p3.Agreement).bind fun x7=>(eD p1 p3.Agreement x5.1.Country p2).bind fun x9=>(aT (S:=Int×(List (Za×Bool))) (T:=((List (Za×Bool)))) (fun (v12,l13)=>cond (decide (v12<(p4.length:Int))) ((idx p4 v12).bind fun m18=>some (.inl ((IntKind.i64.wrap (v12+1)),(qb l13 m18 true)))) (some (.inr l13))) FUEL (0,([]:List (Za×Bool)))).bind fun l14=>(fk p0 x7.1 x5.1 (⟨x9,l14⟩:Zs)).bind fun x20=>(aT (S:=(List Za)×Int×(List Zk)) (T:=((List Za)×(List Zk))) (fun (l23,v26,l28)=>cond (decide (v26<(x20.1.length:Int))) (((idx x20.1 v26).bind fun m53=>(Icumulation_supply_input m53).bind fun x54=>(app 32 l28 [x54]).bind fun l57=>cond (Ze.is_proved_ m53) ((app 16 l23 [(((Ze.as_proved_ m53)).premise)]).bind fun l65=>some (l65,l57)) (some (l23,l57))).bind fun (l47,l51)=>some (.inl (l47,(IntKind.i64.wrap (v26+1)),l51))) (some (.inr (l23,l28)))) FUEL (([]:List Za),0,([]:List Zk))).bind fun (l34,l38)=>(bx l34).bind fun x69=>(bC x69).bind fun x70=>some ((⟨x5.1.Code,x5.1.Price,x5.1.Obtained,x20.2,l38⟩:Zl),x70))
theorem qu {p0:(List Zc)} {p1:(List Zb)} {p2:ByteArray} {p3:Za} {p4:(List Za)} {r:(Zl×(List Za))}  (h:fm p0 p1 p2 p3 p4=some r):PF 17 [pL Zc.enc p0,pL Zb.enc p1,pS p2,.agg [pI p3.Product,pI p3.Agreement],pL Za.enc p4] (.tup [.agg (bk r.1),pL Za.enc r.2]):=by
 unfold fm at h
 refine bd ?_
 refine du Tryz.func17 rfl Tryz.ntmps17 Tryz.results17 rfl (da rfl (bf (cs:=[pI p3.Product,pI p3.Agreement]) rfl rfl (fun b1=>ap rfl (aL (cs:=[pS ByteArray.empty,pI 0,pB false,pN,pN]) rfl rfl rfl rfl (fun b2=>ba [11] (by kernel_rfl) (cj (aa h fun x3 hx3 h=>aq [1] (rg 27 5) [(32,pB (!x3))] (bg 4 (jI hx3) bj) (by kernel_rfl) (cR rfl h (fun hc4 h=>?_) fun hc4 h=>?_))))))))
 ·refine ae ?_
  refine af (aD 1 [(33,.agg [pS ByteArray.empty,pI 0,pB false,pN,pN])] (by kernel_rfl) (aP rfl rfl (am (vs:=[pS ByteArray.empty,pI 0,pB false,pN,pN]) rfl rfl rfl rfl rfl ce Fi (aN [(11,pN)] (by kernel_rfl) (aX (cS (k:=3) (b:=b2) rfl ce (cS (k:=4) (b:=b2) rfl ce (hZ 11 rfl (bR (al ?_))))))))))
  obtain rfl:=osi h
  exact aM (cd (dC rfl gb rfl) (aK rfl)) bB ⟨rfl,rfl⟩
 refine ah ?_
 refine de h fun x5 hx5 h=>af (aU 7 [1] [35,36,37,38,34] [(39,.agg (aI x5.1)),(40,pB x5.2)] (bg 3 (fQ hx5) bj) (by kernel_rfl) (ap rfl (aL (cs:=[pI 0,pS ByteArray.empty,pS ByteArray.empty,pI 0,pB false,pN,pN]) rfl rfl rfl rfl (fun b6=>aP rfl rfl (am (vs:=(aI x5.1)) rfl rfl rfl rfl rfl ce mX (ba [13] (by kernel_rfl) (de h fun x7 hx7 h=>af (aU 7 [2] [42,43,44,45,41] [(46,.agg (aA x7.1)),(47,pB x7.2)] (bg 3 (jS hx7) bj) (by kernel_rfl) (ap rfl (aL (cs:=[pI 0,pI 0,pN,pN]) rfl rfl rfl rfl (fun b8=>aP rfl rfl (am (vs:=(aA x7.1)) rfl rfl rfl rfl rfl ce xx (ba [15] (by kernel_rfl) (de h fun x9 hx9 h=>af (aU 7 [3,1] (rg 48 6) [(54,pL eI x9)] (bg 6 (oU hx9) bj) (by kernel_rfl) (ap rfl (tV Za.key vT rfl (fun b10=>aD 1 [(56,.agg [pL eI x9,.v (.map (some b10))])] (by kernel_rfl) (ap rfl (aL (cs:=[pN,.v (.map none)]) rfl rfl rfl rfl (fun b11=>aP rfl rfl (am (vs:=[pL eI x9,.v (.map (some b10))]) rfl rfl rfl rfl rfl ce sQ (aF (cj (ak [(57,pL Za.enc p4),(58,pI (p4.length:Int)),(59,pI 0)] (by kernel_rfl) (ft h fun q16 hq16 h=>?_))))))))))))))))))))))))))
 refine ar (Y:=Unit×((List (Za×Bool)))) (fun (_,l14)=>[(0,pL Zc.enc p0),(10,pP b2 0),(12,pP b6 0),(14,pP b8 0),(16,pP b11 0)]) (fun (_,l14)=>[PRes.mp (some b10) (gi Za.key vT l14),PRes.b b11 96 [pL eI x9,.v (.map (some b10))],PRes.b b2 36 [pS ByteArray.empty,pI 0,pB false,pN,pN],PRes.b b6 76 (aI x5.1),PRes.b b8 81 (aA x7.1)]) (fun (_,l14)=>q16=l14) ?_ ?_
 ·refine av ?_
  refine aC (Y:=Unit) (S:=Int×(List (Za×Bool))) _ hq16 (fun _ (v12,l13)=>[(0,pL Zc.enc p0),(10,pP b2 0),(12,pP b6 0),(14,pP b8 0),(16,pP b11 0),(57,pL Za.enc p4),(58,pI (p4.length:Int)),(59,pI v12)]) (fun _ (v12,l13)=>[PRes.mp (some b10) (gi Za.key vT l13),PRes.b b11 96 [pL eI x9,.v (.map (some b10))],PRes.b b2 36 [pS ByteArray.empty,pI 0,pB false,pN,pN],PRes.b b6 76 (aI x5.1),PRes.b b8 81 (aA x7.1)]) () (r8 rfl) (be (aB aO) (be aO (be (aB (aB aO)) (be (aB aO) cK)))) ?_
  rintro _ ⟨v12,l13⟩ o τ hb15;(try dsimp only at hb15);dsimp only [az]
  refine ae (ak [(60,pB (decide (v12<(p4.length:Int))))] (by kernel_rfl) (bZ (kq rfl hb15 (fun hc17 hb15=>?_) fun hc17 hb15=>?_)))
  ·refine ah ?_
   refine dJ (aa hb15 fun m18 hm18 hb15=>af (aU 2 [] [61] [(62,.agg [pI m18.Product,pI m18.Agreement])] (cL 0 Za.enc hm18 bj) (by kernel_rfl) (ap rfl (aL (cs:=[pI 0,pI 0]) rfl rfl rfl rfl (fun b19=>aP rfl rfl (am (vs:=[pI m18.Product,pI m18.Agreement]) rfl rfl rfl rfl rfl ce sQ (aF (aX (af (cO 3 [2,0] [63] [(64,.v (.map (some b10))),(65,.agg [pI m18.Product,pI m18.Agreement])] (by kernel_rfl) (aP rfl rfl (sq (xs:=l13) (k:=m18) (ek:=Za.key) (vv:=vT) (v:=true) rfl rfl Za.kenc28 rfl rfl yL rfl (dA ce) (aF (dI (ai [66] [(59,pI (IntKind.i64.wrap (v12+1)))] (by kernel_rfl) ?_)))))))))))))))
   exact aS hb15 () (r8 rfl) (be (aB aO) (be (aB aO) (be (aB aO) (be (aB aO) (be (aB aO) bB)))))
  refine aH ?_
  refine cq hb15 (fun ht=>aj rfl ?_)
  exact aw ((),l13) (ns rfl) zs5 ht.symm
 rintro ⟨_,l14⟩ τ hz;(try dsimp only at hz);subst q16;(try dsimp only at h);dsimp only [az]
 refine ae (aa h fun x20 hx20 h=>af (gt 4 [4,3,1] [(68,pL Zc.enc p0),(69,.agg (aA x7.1)),(70,.agg (aI x5.1)),(71,.agg [pL eI x9,.v (.map (some b10))])] (by kernel_rfl) ?_))
 refine ap rfl (bh rfl rfl (ρ1:=[_]) (aY (by exact aO) (List.Perm.refl _)) (qt hx20) ?_);rintro _ _ ⟨rfl,rfl⟩
 refine kv [67,73,74] [(19,pL Ze.enc x20.1),(20,pL eS x20.2)] (by kernel_rfl) (bZ (af (cO 8 [3,3,3] (rg 75 7) [(82,.agg [pS x5.1.Code,pI x5.1.Price,pB x5.1.Obtained,pL eS x20.2,pN])] (by kernel_rfl) (ap rfl (aL (cs:=[pS ByteArray.empty,pI 0,pB false,pN,pN]) rfl rfl rfl rfl (fun b21=>aP rfl rfl (am (vs:=[pS x5.1.Code,pI x5.1.Price,pB x5.1.Obtained,pL eS x20.2,pN]) rfl rfl rfl rfl rfl ce Fi (aF (bZ (ak [(22,pN)] (by kernel_rfl) (cj (ak [(83,pL Ze.enc x20.1),(84,pI (x20.1.length:Int)),(85,pI 0)] (by kernel_rfl) (aX (di 28 2 (di 103 3 (aa h fun q40 hq40 h=>?_))))))))))))))))
 refine ar (Y:=(Option Addr×Nat×Option Addr×Nat)×((List Za)×(List Zk))) (fun ((a32,c33,a36,c37),(l34,l38))=>[(10,pP b2 0),(21,pP b21 0),(22,pO a32 l34.length c33)]) (fun ((a32,c33,a36,c37),(l34,l38))=>[PRes.b b2 36 [pS ByteArray.empty,pI 0,pB false,pN,pN],PRes.b b21 36 [pS x5.1.Code,pI x5.1.Price,pB x5.1.Obtained,pL eS x20.2,pO a36 l38.length c37],PRes.row a32 l34.length c33 28 2 (List.map Za.enc l34),PRes.row a36 l38.length c37 103 3 (List.map Zk.enc l38)]) (fun ((a32,c33,a36,c37),(l34,l38))=>q40=(l34,l38)) ?_ ?_
 ·refine av ?_
  refine aC (Y:=Option Addr×Nat×Option Addr×Nat) (S:=(List Za)×Int×(List Zk)) _ hq40 (fun (a24,c25,a29,c30) (l23,v26,l28)=>[(10,pP b2 0),(21,pP b21 0),(22,pO a24 l23.length c25),(83,pL Ze.enc x20.1),(84,pI (x20.1.length:Int)),(85,pI v26)]) (fun (a24,c25,a29,c30) (l23,v26,l28)=>[PRes.b b2 36 [pS ByteArray.empty,pI 0,pB false,pN,pN],PRes.b b21 36 [pS x5.1.Code,pI x5.1.Price,pB x5.1.Obtained,pL eS x20.2,pO a29 l28.length c30],PRes.row a24 l23.length c25 28 2 (List.map Za.enc l23),PRes.row a29 l28.length c30 103 3 (List.map Zk.enc l28)]) (none,0,none,0) (p9 rfl) (be (aB (aB (aB (aB (aB aO))))) (be (aB (aB aO)) (be (aB aO) cK))) ?_
  rintro ⟨a24,c25,a29,c30⟩ ⟨l23,v26,l28⟩ o τ hb39;(try dsimp only at hb39);dsimp only [az]
  refine ae (ak [(86,pB (decide (v26<(x20.1.length:Int))))] (by kernel_rfl) (bZ (kq rfl hb39 (fun hc43 hb39=>?_) fun hc43 hb39=>?_)))
  ·refine ah ?_
   refine de hb39 fun q52 hq52 hb39=>?_
   refine ar (Y:=(Option Addr×Nat×Option Addr×Nat)×((List Za)×(List Zk))) (fun ((a45,c46,a49,c50),(l47,l51))=>[(10,pP b2 0),(21,pP b21 0),(22,pO a45 l47.length c46),(83,pL Ze.enc x20.1),(84,pI (x20.1.length:Int)),(85,pI v26)]) (fun ((a45,c46,a49,c50),(l47,l51))=>[PRes.b b2 36 [pS ByteArray.empty,pI 0,pB false,pN,pN],PRes.b b21 36 [pS x5.1.Code,pI x5.1.Price,pB x5.1.Obtained,pL eS x20.2,pO a49 l51.length c50],PRes.row a45 l47.length c46 28 2 (List.map Za.enc l47),PRes.row a49 l51.length c50 103 3 (List.map Zk.enc l51)]) (fun ((a45,c46,a49,c50),(l47,l51))=>q52=(l47,l51)) ?_ ?_
   ·skip
    refine qU (aa hq52 fun m53 hm53 hq52=>aq [] [87,88] [(24,Ze.pv m53)] (cL 0 Ze.enc hm53 bj) (by kernel_rfl) (de hq52 fun x54 hx54 hq52=>aa hq52 fun l57 hl57 hq52=>?_))
    refine ar (Y:=Option Addr×Nat) (fun (a58,c59)=>[(10,pP b2 0),(21,pP b21 0),(22,pO a24 l23.length c25),(24,Ze.pv m53),(83,pL Ze.enc x20.1),(84,pI (x20.1.length:Int)),(85,pI v26)]) (fun (a58,c59)=>[PRes.b b2 36 [pS ByteArray.empty,pI 0,pB false,pN,pN],PRes.b b21 36 [pS x5.1.Code,pI x5.1.Price,pB x5.1.Obtained,pL eS x20.2,pO a58 l57.length c59],PRes.row a24 l23.length c25 28 2 (List.map Za.enc l23),PRes.row a58 l57.length c59 103 3 (List.map Zk.enc l57)]) (fun _=>True) ?_ ?_
    ·refine n7 (ρd:=[PRes.row a29 _ _ _ _ _,PRes.b b21 _ _]) _ (aY (aB (aB (aB aO))) (aY (aB aO) (List.Perm.refl _))) ?_
     refine dM 0 (by kernel_rfl) rfl rfl rfl rfl (bK rfl rfl rfl rfl rfl (.p rfl)) (dM 2 (by kernel_rfl) rfl rfl rfl rfl (ia (p:=Ze.pv m53) rfl (.p rfl)) ?_)
     refine kp 1 3 (by kernel_rfl) ?_ ?_
     ·skip
      refine bo rfl rfl rfl rfl (pG (dr (p:=pO a29 l28.length c30) rfl (.p rfl) wU rfl) (bw 3 (by kernel_rfl) (bo rfl rfl rfl rfl (xy rfl rfl (Icumulation_supply_input_ok hx54) (bw 4 (by kernel_rfl) (bo rfl rfl rfl rfl (bN rfl rfl rfl rfl rfl (ij rfl kf) rfl rfl rfl rfl (fun b55=>bw 5 (by kernel_rfl) ?_))))))))
      refine bo rfl rfl rfl rfl (cr (enc:=Zk.enc) rfl rfl rfl rfl rfl rfl rfl rfl rfl gb (by exact aB aO) hl57 (fun a58 c59=>?_))
      refine dM 6 (by kernel_rfl) rfl rfl rfl rfl (bK rfl rfl rfl rfl rfl (.p rfl)) (bw 7 (by kernel_rfl) (fx rfl rfl rfl (am (vs:=[pO a58 l57.length c59]) rfl rfl rfl rfl rfl (dA (dA ce)) (dX (dX (dX (dX oA)))) (fw (by kernel_rfl) ?_))))
      exact aw (a58,c59) (sR rfl) (be (aB (aB (aB aO))) (be (aB (aB aO)) (be (aB (aB aO)) cK))) trivial
     skip
     refine bo rfl rfl rfl rfl (xy rfl rfl (Icumulation_supply_input_ok hx54) ?_)
     refine kp 1 4 (by kernel_rfl) ?_ ?_
     ·skip
      refine bo rfl rfl rfl rfl (pG (dr (p:=pO a29 l28.length c30) rfl (.p rfl) wU rfl) (bw 4 (by kernel_rfl) (bo rfl rfl rfl rfl (bN rfl rfl rfl rfl rfl (ij rfl kf) rfl rfl rfl rfl (fun b55=>bw 5 (by kernel_rfl) ?_)))))
      refine bo rfl rfl rfl rfl (cr (enc:=Zk.enc) rfl rfl rfl rfl rfl rfl rfl rfl rfl gb (by exact aB aO) hl57 (fun a58 c59=>?_))
      refine dM 6 (by kernel_rfl) rfl rfl rfl rfl (bK rfl rfl rfl rfl rfl (.p rfl)) (bw 7 (by kernel_rfl) (fx rfl rfl rfl (am (vs:=[pO a58 l57.length c59]) rfl rfl rfl rfl rfl (dA (dA ce)) (dX (dX (dX (dX oA)))) (fw (by kernel_rfl) ?_))))
      exact aw (a58,c59) (sR rfl) (be (aB (aB (aB aO))) (be (aB (aB aO)) (be (aB (aB aO)) cK))) trivial
     skip
     refine bo rfl rfl rfl rfl (bN rfl rfl rfl rfl rfl (ij rfl kf) rfl rfl rfl rfl (fun b55=>bw 1 (by kernel_rfl) (bo rfl rfl rfl rfl (pG (dr (p:=pO a29 l28.length c30) rfl (.p rfl) um rfl) (bw 5 (by kernel_rfl) ?_)))))
     refine bo rfl rfl rfl rfl (cr (enc:=Zk.enc) rfl rfl rfl rfl rfl rfl rfl rfl rfl gb (by exact aB aO) hl57 (fun a58 c59=>?_))
     refine dM 6 (by kernel_rfl) rfl rfl rfl rfl (bK rfl rfl rfl rfl rfl (.p rfl)) (bw 7 (by kernel_rfl) (fx rfl rfl rfl (am (vs:=[pO a58 l57.length c59]) rfl rfl rfl rfl rfl (dA (dA ce)) (dX (dX (dX (dX oA)))) (fw (by kernel_rfl) ?_))))
     exact aw (a58,c59) (sR rfl) (be (aB (aB (aB aO))) (be (aB (aB aO)) (be (aB (aB aO)) cK))) trivial
    rintro ⟨a58,c59⟩ τ _;dsimp only [az]
    refine ae (af (aU 5 [] [97,98,96] [(99,.agg [pS ((((Ze.as_proved_ m53)).use).Code),pI ((((Ze.as_proved_ m53)).use).Value),pB ((((Ze.as_proved_ m53)).use).Originating),pI ((((Ze.as_proved_ m53)).premise).Product),pI ((((Ze.as_proved_ m53)).premise).Agreement)]),(100,pB (Ze.is_proved_ m53))] (fota 1 (Ze.ta_proved_ m53) bj) (by kernel_rfl) (ap rfl (aL (cs:=[pS ByteArray.empty,pI 0,pB false,pI 0,pI 0]) rfl rfl rfl rfl (fun b61=>aP rfl rfl (am (vs:=[pS ((((Ze.as_proved_ m53)).use).Code),pI ((((Ze.as_proved_ m53)).use).Value),pB ((((Ze.as_proved_ m53)).use).Originating),pI ((((Ze.as_proved_ m53)).premise).Product),pI ((((Ze.as_proved_ m53)).premise).Agreement)]) rfl rfl rfl rfl rfl ce Fi (aN [(26,pB (Ze.is_proved_ m53))] (by kernel_rfl) (bZ (ak [(101,pB (Ze.is_proved_ m53))] (by kernel_rfl) (cR rfl hq52 (fun hc62 hq52=>?_) fun hc62 hq52=>?_))))))))))
    ·refine af ?_
     refine cO 3 [0] [103] [(102,pO a24 l23.length c25),(104,.agg [pI ((((Ze.as_proved_ m53)).premise).Product),pI ((((Ze.as_proved_ m53)).premise).Agreement)])] (by kernel_rfl) (ap rfl (bN rfl rfl rfl rfl rfl (ij rfl kf) rfl rfl rfl rfl (fun b63=>aa hq52 fun l65 hl65 hq52=>?_)))
     refine ap rfl (cr (enc:=Za.enc) rfl rfl rfl rfl rfl rfl rfl rfl rfl gb (by exact aB (aB (aB (aB aO)))) hl65 (fun a66 c67=>?_))
     refine aN [(22,pO a66 l65.length c67)] (by kernel_rfl) (aG ?_)
     obtain rfl:=osi hq52
     exact aw ((a66,c67,a58,c59),(l65,l57)) (p9 rfl) (be (aB (aB (aB aO))) (be (aB (aB (aB aO))) (be aO (be (aB (aB aO)) bB)))) rfl
    refine ah ?_
    refine aG ?_
    obtain rfl:=osi hq52
    exact aw ((a24,c25,a58,c59),(l23,l57)) (p9 rfl) (be (aB aO) (be (aB aO) (be (aB aO) (be (aB aO) bB)))) rfl
   rintro ⟨⟨a45,c46,a49,c50⟩,⟨l47,l51⟩⟩ τ hz;(try dsimp only at hz);subst q52;(try dsimp only at hb39);dsimp only [az]
   refine ai [107] [(85,pI (IntKind.i64.wrap (v26+1)))] (by kernel_rfl) ?_
   exact aS hb39 (a45,c46,a49,c50) (p9 rfl) Es
  refine aH ?_
  refine cq hb39 (fun ht=>aj rfl ?_)
  exact aw ((a24,c25,a29,c30),(l23,l28)) (nV rfl) Es ht.symm
 rintro ⟨⟨a32,c33,a36,c37⟩,⟨l34,l38⟩⟩ τ hz;(try dsimp only at hz);subst q40;(try dsimp only at h);dsimp only [az]
 refine ae (aa h fun x69 hx69 h=>af (aD 1 [(108,pO a32 l34.length c33)] (by kernel_rfl) ?_))
 refine ap rfl (bh rfl rfl (ρ1:=[_]) (aY (by exact aB (aB aO)) (List.Perm.refl _)) (dh hx69) ?_);rintro _ _ ⟨rfl,rfl⟩
 refine aF (bZ ?_)
 refine yw (css:=List.map Zk.enc l38) (a:=a36) (by exact aB (aB (aB aO))) ?_
 refine xt (k:=4) (enc:=Zk.enc) (xs:=l38) (b:=b21) (a:=a36) rfl gb (dA (dA (dA ce))) (bi (ρd:=[PRes.row a32 _ _ _ _ _,PRes.b b2 _ _]) [(0,0),(1,0),(2,1),(3,1),(4,0)] _ (aY (aB aO) (aY (aB aO) (List.Perm.refl _))) (by kernel_rfl) rfl (aa h fun x70 hx70 h=>FO 2 [1] [(110,.agg [pS x5.1.Code,pI x5.1.Price,pB x5.1.Obtained,pL eS x20.2,pL Zk.enc l38]),(111,pO a32 l34.length c33)] (by kernel_rfl) ?_))
 refine iT rfl rfl rfl (bh rfl rfl (ρ1:=[_]) (aY (by exact aO) (List.Perm.refl _)) (ga hx70) ?_);rintro _ _ ⟨a71,c72,rfl,rfl⟩
 refine yB rfl rfl (am (vs:=[pS x5.1.Code,pI x5.1.Price,pB x5.1.Obtained,pL eS x20.2,pL Zk.enc l38]) rfl rfl rfl rfl rfl (dA ce) Fi (iW 1 [(11,pO a71 x70.length c72)] (by kernel_rfl) (bA (aX ?_))))
 refine fe (enc:=Za.enc) (xs:=x70) 11 rfl (by exact aO) ?_
 refine bR ?_
 obtain rfl:=osi h
 exact aM (cd (dC rfl wU rfl) (aK rfl)) bB ⟨rfl,rfl⟩
def i9 (p0:ByteArray):Option Bool:=(dW p0).bind fun x1=>some (decide (6≤x1))
theorem nC {p0:ByteArray} {r:Bool}  (h:i9 p0=some r):PF 62 [pS p0] (pB r):=by
 unfold i9 at h
 refine bd ?_
 refine du Tryz.func62 rfl Tryz.ntmps62 Tryz.results62 rfl (aW [2] (by kernel_rfl) (de h fun x1 hx1 h=>aq [] [3,4,5] [(2,pB (decide (6≤x1)))] (bg 1 (f8 hx1) bj) (by kernel_rfl) (cX ?_)))
 exact zz r h rfl
def gC (p0:Zl):Option Int:=(i9 p0.Code).bind fun x2=>cond (!x2) (some (1:Int)) (cond ((decide (p0.Price<1))||(decide (1000000000000<p0.Price))) (some (2:Int)) ((d9 p0.Processes).bind fun x5=>cond (!x5) (some (1:Int)) (cond (decide (100<(p0.Inputs.length:Int))) (some (8:Int)) ((aT (S:=Int) (T:=(Unit)⊕(_)) (fun v8=>cond (decide (v8<(p0.Inputs.length:Int))) ((idx p0.Inputs v8).bind fun m12=>(i9 m12.Code).bind fun x14=>cond (!x14) (some (.inr (.inr (1:Int)))) (cond ((decide (m12.Value<0))||(decide (1000000000000<m12.Value))) (some (.inr (.inr (2:Int)))) (some (.inl (IntKind.i64.wrap (v8+1)))))) (some (.inr (.inl ())))) FUEL 0).bind fun q=>match q with | .inl _=>some (0:Int) | .inr e=>some e))))
theorem qv {p0:Zl} {r:Int}  (h:gC p0=some r):PF 21 [.agg (bk p0)] (pI r):=by
 unfold gC at h
 refine bd ?_
 refine du Tryz.func21 rfl Tryz.ntmps21 Tryz.results21 rfl (da rfl (bf (cs:=(bk p0)) rfl rfl (fun b1=>ba [2] (by kernel_rfl) (dJ (aa h fun x2 hx2 h=>aq [0] [6,7,8,9] [(5,pB (!x2))] (bg 2 (nC hx2) bj) (by kernel_rfl) (cR rfl h (fun hc3 h=>?_) fun hc3 h=>?_))))))
 ·refine ae ?_
  refine dg [(2,pI 1)] (by kernel_rfl) (dH ?_)
  exact zz r h rfl
 refine ae ?_
 refine aJ [0,0] (rg 11 8) [(10,pB ((decide (p0.Price<1))||(decide (1000000000000<p0.Price))))] (by kernel_rfl) (cR rfl h (fun hc4 h=>?_) fun hc4 h=>?_)
 ·refine ae ?_
  refine dg [(2,pI 2)] (by kernel_rfl) (dH ?_)
  exact zz r h rfl
 refine ae ?_
 refine aa h fun x5 hx5 h=>aq [0] [20,21,22,23] [(19,pB (!x5))] (bg 2 (jr hx5) bj) (by kernel_rfl) (cR rfl h (fun hc6 h=>?_) fun hc6 h=>?_)
 ·refine ae ?_
  refine dg [(2,pI 1)] (by kernel_rfl) (dH ?_)
  exact zz r h rfl
 refine ae ?_
 refine aJ [0] [25,26,27,28] [(24,pB (decide (100<(p0.Inputs.length:Int))))] (by kernel_rfl) (cR rfl h (fun hc7 h=>?_) fun hc7 h=>?_)
 ·refine ae ?_
  refine dg [(2,pI 8)] (by kernel_rfl) (dH ?_)
  exact zz r h rfl
 refine ah ?_
 refine aG (cj (aJ [0] [29] [(30,pL Zk.enc p0.Inputs),(31,pI (p0.Inputs.length:Int)),(32,pI 0)] (by kernel_rfl) (ft h fun q10 hq10 h=>?_)))
 refine ar (Y:=Unit×Unit) (fun (_,_)=>[]) (fun (_,_)=>[]) (fun (_,_)=>q10=Sum.inl ()) ?_ ?_
 ·refine av ?_
  refine aC (Y:=Unit) (S:=Int) _ hq10 (fun _ v8=>[(30,pL Zk.enc p0.Inputs),(31,pI (p0.Inputs.length:Int)),(32,pI v8)]) (fun _ v8=>[]) () (nV rfl) bB ?_
  rintro _ v8 o τ hb9;(try dsimp only at hb9);dsimp only [az]
  refine ae (ak [(33,pB (decide (v8<(p0.Inputs.length:Int))))] (by kernel_rfl) (bZ (kq rfl hb9 (fun hc11 hb9=>?_) fun hc11 hb9=>?_)))
  ·refine ah ?_
   refine dJ (aa hb9 fun m12 hm12 hb9=>af (aU 2 [] [34] [(35,.agg [pS m12.Code,pI m12.Value,pB m12.Originating])] (cL 0 Zk.enc hm12 bj) (by kernel_rfl) (ap rfl (aL (cs:=[pS ByteArray.empty,pI 0,pB false]) rfl rfl rfl rfl (fun b13=>aP rfl rfl (am (vs:=[pS m12.Code,pI m12.Value,pB m12.Originating]) rfl rfl rfl rfl rfl ce zl3 (aF (cj (aa hb9 fun x14 hx14 hb9=>aq [0] [36,37,38] [(39,pB (!x14))] (bg 2 (nC hx14) bj) (by kernel_rfl) (cR rfl hb9 (fun hc15 hb9=>?_) fun hc15 hb9=>?_))))))))))
   ·refine ae ?_
    refine dg [(2,pI 1)] (by kernel_rfl) (al (dH ?_))
    refine au hb9 (fun ht=>?_);subst ht
    refine cP ?_
    exact zz r h rfl
   refine ah ?_
   refine bZ (aJ [0,0] (rg 40 7) [(47,pB ((decide (m12.Value<0))||(decide (1000000000000<m12.Value))))] (by kernel_rfl) (cR rfl hb9 (fun hc16 hb9=>?_) fun hc16 hb9=>?_))
   ·refine ae ?_
    refine dg [(2,pI 2)] (by kernel_rfl) (dH ?_)
    refine au hb9 (fun ht=>?_);subst ht
    refine cP ?_
    exact zz r h rfl
   refine ah ?_
   refine dI (ai [48] [(32,pI (IntKind.i64.wrap (v8+1)))] (by kernel_rfl) ?_)
   exact aS hb9 () (nV rfl) bB
  refine aH ?_
  refine cq hb9 (fun ht=>aj rfl ?_)
  exact aw ((),()) pz bB ht.symm
 rintro ⟨_,_⟩ τ hz;(try dsimp only at hz);subst q10;(try dsimp only at h);dsimp only [az]
 refine ae (dg [(2,pI 0)] (by kernel_rfl) ?_)
 exact zz r h rfl
def dO (p0:(List Zh)):Option Int:=(aT (S:=Int) (T:=(Unit)⊕(_)) (fun v1=>cond (decide (v1<(p0.length:Int))) ((idx p0 v1).bind fun m5=>(dW m5.Prefix).bind fun x7=>cond (x7 == 0) (some (.inr (.inr (1:Int)))) ((gd (decide (0<v1)) (idx p0 (IntKind.i64.wrap (v1 - 1)))).bind fun m9=>cond ((decide (0<v1))&&(Op.bytesLess m5.Prefix.toList m9.Prefix.toList||decide (m5.Prefix=m9.Prefix))) (some (.inr (.inr (9:Int)))) ((fF m5.Rule).bind fun x11=>cond (x11 != 0) (some (.inr (.inr x11))) (some (.inl (IntKind.i64.wrap (v1+1))))))) (some (.inr (.inl ())))) FUEL 0).bind fun q=>match q with | .inl _=>some (0:Int) | .inr e=>some e
theorem mK {p0:(List Zh)} {r:Int}  (h:dO p0=some r):PF 112 [pL Zh.enc p0] (pI r):=by
 unfold dO at h
 refine bd ?_
 refine du Tryz.func112 rfl Tryz.ntmps112 Tryz.results112 rfl (aW [2] (by kernel_rfl) (cj (ak [(6,pL Zh.enc p0),(7,pI (p0.length:Int)),(8,pI 0)] (by kernel_rfl) (ft h fun q3 hq3 h=>?_))))
 refine ar (Y:=Unit×Unit) (fun (_,_)=>[]) (fun (_,_)=>[]) (fun (_,_)=>q3=Sum.inl ()) ?_ ?_
 ·refine av ?_
  refine aC (Y:=Unit) (S:=Int) _ hq3 (fun _ v1=>[(0,pL Zh.enc p0),(6,pL Zh.enc p0),(7,pI (p0.length:Int)),(8,pI v1)]) (fun _ v1=>[]) () (iR rfl) bB ?_
  rintro _ v1 o τ hb2;(try dsimp only at hb2);dsimp only [az]
  refine ae (ak [(9,pB (decide (v1<(p0.length:Int))))] (by kernel_rfl) (bZ (kq rfl hb2 (fun hc4 hb2=>?_) fun hc4 hb2=>?_)))
  ·refine ah ?_
   refine dJ (aa hb2 fun m5 hm5 hb2=>af (aU 3 [] [11] [(10,pI v1),(12,.agg (em m5))] (cL 1 Zh.enc hm5 bj) (by kernel_rfl) (ap rfl (aL (cs:=[pS ByteArray.empty,pI 0,pI 0,pN,pI 0,pI 0,pS ByteArray.empty,pN]) rfl rfl rfl rfl (fun b6=>aD 1 [(3,pI v1)] (by kernel_rfl) (aP rfl rfl (am (vs:=(em m5)) rfl rfl rfl rfl rfl ce zl8 (aF (cj (aa hb2 fun x7 hx7 hb2=>aq [0] [13,14,15] [(16,pB (x7 == 0))] (bg 2 (f8 hx7) bj) (by kernel_rfl) (cR rfl hb2 (fun hc8 hb2=>?_) fun hc8 hb2=>?_)))))))))))
   ·refine ae ?_
    refine dg [(2,pI 1)] (by kernel_rfl) (al (dH ?_))
    refine au hb2 (fun ht=>?_);subst ht
    refine cP ?_
    exact zz r h rfl
   refine ah ?_
   refine cj (bi (ρd:=[]) [(0,0),(1,0),(2,0),(3,0),(4,0),(5,0),(6,0),(7,0),(8,0),(9,0),(10,0),(11,0),(12,0)] _ (List.Perm.refl _) (by kernel_rfl) rfl (aa hb2 fun m9 hm9 hb2=>bt 13 [0] (rg 17 12) [(29,pB ((decide (0<v1))&&(Op.bytesLess m5.Prefix.toList m9.Prefix.toList||decide (m5.Prefix=m9.Prefix))))] (eK 8 Zh.enc (cF hm9) bj) (by kernel_rfl) (bA (cR rfl hb2 (fun hc10 hb2=>?_) fun hc10 hb2=>?_))))
   ·refine ae ?_
    refine dg [(2,pI 9)] (by kernel_rfl) (al (dH ?_))
    refine au hb2 (fun ht=>?_);subst ht
    refine cP ?_
    exact zz r h rfl
   refine ah ?_
   refine de hb2 fun x11 hx11 hb2=>aq [0] [30,31,32] [(5,pI x11)] (bg 2 (ji hx11) bj) (by kernel_rfl) (bZ (bF [33] [(34,pB (x11 != 0))] (by kernel_rfl) rfl hb2 (fun hc12 hb2=>?_) fun hc12 hb2=>?_))
   ·refine ae ?_
    refine ai [35] [(2,pI x11)] (by kernel_rfl) (cX (dH ?_))
    refine au hb2 (fun ht=>?_);subst ht
    refine cP ?_
    exact zz r h rfl
   refine ah ?_
   refine dI (ai [36] [(8,pI (IntKind.i64.wrap (v1+1)))] (by kernel_rfl) ?_)
   exact aS hb2 () (iR rfl) bB
  refine aH ?_
  refine cq hb2 (fun ht=>aj rfl ?_)
  exact aw ((),()) pz bB ht.symm
 rintro ⟨_,_⟩ τ hz;(try dsimp only at hz);subst q3;(try dsimp only at h);dsimp only [az]
 refine ae (dg [(2,pI 0)] (by kernel_rfl) ?_)
 exact zz r h rfl
def cY (p0:(List Zb)):Option Int:=cond (decide (8<(p0.length:Int))) (some (8:Int)) ((aT (S:=Int) (T:=(Unit)⊕(_)) (fun v2=>cond (decide (v2<(p0.length:Int))) ((idx p0 v2).bind fun m6=>cond ((((decide (m6.ID<1))||(decide (1000<m6.ID)))||(decide (m6.Kind<1)))||(decide (3<m6.Kind))) (some (.inr (.inr (2:Int)))) ((gd (decide (0<v2)) (idx p0 (IntKind.i64.wrap (v2 - 1)))).bind fun m9=>cond ((decide (0<v2))&&(decide (m6.ID≤m9.ID))) (some (.inr (.inr (9:Int)))) (cond ((decide (12<(m6.Parties.length:Int)))||(decide (12<(m6.Rules.length:Int)))) (some (.inr (.inr (8:Int)))) ((dZ m6.Parties).bind fun x12=>cond (!x12) (some (.inr (.inr (1:Int)))) ((dO m6.Rules).bind fun x14=>cond (x14 != 0) (some (.inr (.inr x14))) (some (.inl (IntKind.i64.wrap (v2+1))))))))) (some (.inr (.inl ())))) FUEL 0).bind fun q=>match q with | .inl _=>some (0:Int) | .inr e=>some e)
theorem oV {p0:(List Zb)} {r:Int}  (h:cY p0=some r):PF 64 [pL Zb.enc p0] (pI r):=by
 unfold cY at h
 refine bd ?_
 refine du Tryz.func64 rfl Tryz.ntmps64 Tryz.results64 rfl (aW [2] (by kernel_rfl) (cj (bF [6,7] [(8,pB (decide (8<(p0.length:Int))))] (by kernel_rfl) rfl h (fun hc1 h=>?_) fun hc1 h=>?_)))
 ·refine ae ?_
  refine dg [(2,pI 8)] (by kernel_rfl) (al ?_)
  exact zz r h rfl
 refine ah ?_
 refine cj (ak [(9,pL Zb.enc p0),(10,pI (p0.length:Int)),(11,pI 0)] (by kernel_rfl) (ft h fun q4 hq4 h=>?_))
 refine ar (Y:=Unit×Unit) (fun (_,_)=>[]) (fun (_,_)=>[]) (fun (_,_)=>q4=Sum.inl ()) ?_ ?_
 ·refine av ?_
  refine aC (Y:=Unit) (S:=Int) _ hq4 (fun _ v2=>[(0,pL Zb.enc p0),(9,pL Zb.enc p0),(10,pI (p0.length:Int)),(11,pI v2)]) (fun _ v2=>[]) () (iR rfl) bB ?_
  rintro _ v2 o τ hb3;(try dsimp only at hb3);dsimp only [az]
  refine ae (ak [(12,pB (decide (v2<(p0.length:Int))))] (by kernel_rfl) (bZ (kq rfl hb3 (fun hc5 hb3=>?_) fun hc5 hb3=>?_)))
  ·refine ah ?_
   refine dJ (aa hb3 fun m6 hm6 hb3=>af (aU 3 [] [14] [(13,pI v2),(15,.agg (aA m6))] (cL 1 Zb.enc hm6 bj) (by kernel_rfl) (ap rfl (aL (cs:=[pI 0,pI 0,pN,pN]) rfl rfl rfl rfl (fun b7=>aD 1 [(3,pI v2)] (by kernel_rfl) (aP rfl rfl (am (vs:=(aA m6)) rfl rfl rfl rfl rfl ce xx (aF (cj (aJ [0,0,0,0] (rg 16 17) [(33,pB ((((decide (m6.ID<1))||(decide (1000<m6.ID)))||(decide (m6.Kind<1)))||(decide (3<m6.Kind))))] (by kernel_rfl) (cR rfl hb3 (fun hc8 hb3=>?_) fun hc8 hb3=>?_)))))))))))
   ·refine ae ?_
    refine dg [(2,pI 2)] (by kernel_rfl) (al (dH ?_))
    refine au hb3 (fun ht=>?_);subst ht
    refine cP ?_
    exact zz r h rfl
   refine ah ?_
   refine cj (bi (ρd:=[]) [(0,0),(1,0),(2,0),(3,0),(4,0),(5,0),(6,0),(7,0),(8,0),(9,0),(10,0),(11,0),(12,0)] _ (List.Perm.refl _) (by kernel_rfl) rfl (aa hb3 fun m9 hm9 hb3=>bt 13 [0] (rg 34 12) [(46,pB ((decide (0<v2))&&(decide (m6.ID≤m9.ID))))] (eK 8 Zb.enc (cF hm9) bj) (by kernel_rfl) (bA (cR rfl hb3 (fun hc10 hb3=>?_) fun hc10 hb3=>?_))))
   ·refine ae ?_
    refine dg [(2,pI 9)] (by kernel_rfl) (al (dH ?_))
    refine au hb3 (fun ht=>?_);subst ht
    refine cP ?_
    exact zz r h rfl
   refine ah ?_
   refine cj (aJ [0,0] (rg 47 9) [(56,pB ((decide (12<(m6.Parties.length:Int)))||(decide (12<(m6.Rules.length:Int)))))] (by kernel_rfl) (cR rfl hb3 (fun hc11 hb3=>?_) fun hc11 hb3=>?_))
   ·refine ae ?_
    refine dg [(2,pI 8)] (by kernel_rfl) (al (dH ?_))
    refine au hb3 (fun ht=>?_);subst ht
    refine cP ?_
    exact zz r h rfl
   refine ah ?_
   refine cj (aa hb3 fun x12 hx12 hb3=>aq [0] [57,58,59] [(60,pB (!x12))] (bg 2 (ni hx12) bj) (by kernel_rfl) (cR rfl hb3 (fun hc13 hb3=>?_) fun hc13 hb3=>?_))
   ·refine ae ?_
    refine dg [(2,pI 1)] (by kernel_rfl) (al (dH ?_))
    refine au hb3 (fun ht=>?_);subst ht
    refine cP ?_
    exact zz r h rfl
   refine ah ?_
   refine de hb3 fun x14 hx14 hb3=>aq [0] [61,62,63] [(5,pI x14)] (bg 2 (mK hx14) bj) (by kernel_rfl) (bZ (bF [64] [(65,pB (x14 != 0))] (by kernel_rfl) rfl hb3 (fun hc15 hb3=>?_) fun hc15 hb3=>?_))
   ·refine ae ?_
    refine ai [66] [(2,pI x14)] (by kernel_rfl) (cX (dH ?_))
    refine au hb3 (fun ht=>?_);subst ht
    refine cP ?_
    exact zz r h rfl
   refine ah ?_
   refine dI (ai [67] [(11,pI (IntKind.i64.wrap (v2+1)))] (by kernel_rfl) ?_)
   exact aS hb3 () (iR rfl) bB
  refine aH ?_
  refine cq hb3 (fun ht=>aj rfl ?_)
  exact aw ((),()) pz bB ht.symm
 rintro ⟨_,_⟩ τ hz;(try dsimp only at hz);subst q4;(try dsimp only at h);dsimp only [az]
 refine ae (dg [(2,pI 0)] (by kernel_rfl) ?_)
 exact zz r h rfl
def dm (p0:Zc):Option Int:=(dW p0.Code).bind fun x2=>(gd (!((x2 != 6)&&(x2 != 8))) (bO p0.Country)).bind fun x3=>(gd (!(((x2 != 6)&&(x2 != 8))||(!x3))) (d9 p0.Processes)).bind fun x4=>cond ((((x2 != 6)&&(x2 != 8))||(!x3))||(!x4)) (some (1:Int)) (cond ((decide (p0.Price<1))||(decide (1000000000000<p0.Price))) (some (2:Int)) (cond (decide (8<(p0.Inputs.length:Int))) (some (8:Int)) (cond (p0.Obtained&&(decide (0<(p0.Inputs.length:Int)))) (some (1:Int)) (some (0:Int)))))
theorem lN {p0:Zc} {r:Int}  (h:dm p0=some r):PF 118 [.agg (aI p0)] (pI r):=by
 unfold dm at h
 refine bd ?_
 refine du Tryz.func118 rfl Tryz.ntmps118 Tryz.results118 rfl (da rfl (bf (cs:=(aI p0)) rfl rfl (fun b1=>ba [2] (by kernel_rfl) (de h fun x2 hx2 h=>aq [0] [4,5,6] [(3,pI x2)] (bg 2 (f8 hx2) bj) (by kernel_rfl) (cj (aa h fun x3 hx3 h=>aa h fun x4 hx4 h=>aq [0,0] (rg 7 17) [(24,pB ((((x2 != 6)&&(x2 != 8))||(!x3))||(!x4)))] (eM 9 (fun hc=>fS (cF hx3 hc)) (eM 15 (fun hc=>jr (cF hx4 hc)) bj)) (by kernel_rfl) (cR rfl h (fun hc5 h=>?_) fun hc5 h=>?_)))))))
 ·refine ae ?_
  refine dg [(2,pI 1)] (by kernel_rfl) (al ?_)
  exact zz r h rfl
 refine ah ?_
 refine cj (aJ [0,0] (rg 25 7) [(32,pB ((decide (p0.Price<1))||(decide (1000000000000<p0.Price))))] (by kernel_rfl) (cR rfl h (fun hc6 h=>?_) fun hc6 h=>?_))
 ·refine ae ?_
  refine dg [(2,pI 2)] (by kernel_rfl) (al ?_)
  exact zz r h rfl
 refine ah ?_
 refine cj (aJ [0] [33,34,35] [(36,pB (decide (8<(p0.Inputs.length:Int))))] (by kernel_rfl) (cR rfl h (fun hc7 h=>?_) fun hc7 h=>?_))
 ·refine ae ?_
  refine dg [(2,pI 8)] (by kernel_rfl) (al ?_)
  exact zz r h rfl
 refine ah ?_
 refine cj (aJ [0,0] (rg 37 7) [(44,pB (p0.Obtained&&(decide (0<(p0.Inputs.length:Int)))))] (by kernel_rfl) (cR rfl h (fun hc8 h=>?_) fun hc8 h=>?_))
 ·refine ae ?_
  refine dg [(2,pI 1)] (by kernel_rfl) (al ?_)
  exact zz r h rfl
 refine ah ?_
 refine bZ (dg [(2,pI 0)] (by kernel_rfl) ?_)
 exact zz r h rfl
def cZ (p0:(List Zc)):Option Int:=cond (decide (64<(p0.length:Int))) (some (8:Int)) ((aT (S:=Int) (T:=(Unit)⊕(_)) (fun v2=>cond (decide (v2<(p0.length:Int))) ((idx p0 v2).bind fun m6=>cond ((decide (m6.ID<1))||(decide (1000000<m6.ID))) (some (.inr (.inr (2:Int)))) ((gd (decide (0<v2)) (idx p0 (IntKind.i64.wrap (v2 - 1)))).bind fun m9=>cond ((decide (0<v2))&&(decide (m6.ID≤m9.ID))) (some (.inr (.inr (9:Int)))) ((dm m6).bind fun x11=>cond (x11 != 0) (some (.inr (.inr x11))) ((dx p0 m6.Inputs).bind fun x13=>cond (x13 != 0) (some (.inr (.inr x13))) (some (.inl (IntKind.i64.wrap (v2+1)))))))) (some (.inr (.inl ())))) FUEL 0).bind fun q=>match q with | .inl _=>some (0:Int) | .inr e=>some e)
theorem oW {p0:(List Zc)} {r:Int}  (h:cZ p0=some r):PF 71 [pL Zc.enc p0] (pI r):=by
 unfold cZ at h
 refine bd ?_
 refine du Tryz.func71 rfl Tryz.ntmps71 Tryz.results71 rfl (aW [2] (by kernel_rfl) (cj (bF [7,8] [(9,pB (decide (64<(p0.length:Int))))] (by kernel_rfl) rfl h (fun hc1 h=>?_) fun hc1 h=>?_)))
 ·refine ae ?_
  refine dg [(2,pI 8)] (by kernel_rfl) (al ?_)
  exact zz r h rfl
 refine ah ?_
 refine cj (ak [(10,pL Zc.enc p0),(11,pI (p0.length:Int)),(12,pI 0)] (by kernel_rfl) (ft h fun q4 hq4 h=>?_))
 refine ar (Y:=Unit×Unit) (fun (_,_)=>[]) (fun (_,_)=>[]) (fun (_,_)=>q4=Sum.inl ()) ?_ ?_
 ·refine av ?_
  refine aC (Y:=Unit) (S:=Int) _ hq4 (fun _ v2=>[(0,pL Zc.enc p0),(10,pL Zc.enc p0),(11,pI (p0.length:Int)),(12,pI v2)]) (fun _ v2=>[]) () (iR rfl) bB ?_
  rintro _ v2 o τ hb3;(try dsimp only at hb3);dsimp only [az]
  refine ae (ak [(13,pB (decide (v2<(p0.length:Int))))] (by kernel_rfl) (bZ (kq rfl hb3 (fun hc5 hb3=>?_) fun hc5 hb3=>?_)))
  ·refine ah ?_
   refine dJ (aa hb3 fun m6 hm6 hb3=>af (aU 3 [] [15] [(14,pI v2),(16,.agg (aI m6))] (cL 1 Zc.enc hm6 bj) (by kernel_rfl) (ap rfl (aL (cs:=[pI 0,pS ByteArray.empty,pS ByteArray.empty,pI 0,pB false,pN,pN]) rfl rfl rfl rfl (fun b7=>aD 1 [(3,pI v2)] (by kernel_rfl) (aP rfl rfl (am (vs:=(aI m6)) rfl rfl rfl rfl rfl ce mX (aF (cj (aJ [0,0] (rg 17 7) [(24,pB ((decide (m6.ID<1))||(decide (1000000<m6.ID))))] (by kernel_rfl) (cR rfl hb3 (fun hc8 hb3=>?_) fun hc8 hb3=>?_)))))))))))
   ·refine ae ?_
    refine dg [(2,pI 2)] (by kernel_rfl) (al (dH ?_))
    refine au hb3 (fun ht=>?_);subst ht
    refine cP ?_
    exact zz r h rfl
   refine ah ?_
   refine cj (bi (ρd:=[]) [(0,0),(1,0),(2,0),(3,0),(4,0),(5,0),(6,0),(7,0),(8,0),(9,0),(10,0),(11,0),(12,0)] _ (List.Perm.refl _) (by kernel_rfl) rfl (aa hb3 fun m9 hm9 hb3=>bt 13 [0] (rg 25 12) [(37,pB ((decide (0<v2))&&(decide (m6.ID≤m9.ID))))] (eK 8 Zc.enc (cF hm9) bj) (by kernel_rfl) (bA (cR rfl hb3 (fun hc10 hb3=>?_) fun hc10 hb3=>?_))))
   ·refine ae ?_
    refine dg [(2,pI 9)] (by kernel_rfl) (al (dH ?_))
    refine au hb3 (fun ht=>?_);subst ht
    refine cP ?_
    exact zz r h rfl
   refine ah ?_
   refine cj (aa hb3 fun x11 hx11 hb3=>aq [0] [38,39] [(5,pI x11)] (bg 1 (lN hx11) bj) (by kernel_rfl) (bZ (bF [40] [(41,pB (x11 != 0))] (by kernel_rfl) rfl hb3 (fun hc12 hb3=>?_) fun hc12 hb3=>?_)))
   ·refine ae ?_
    refine ai [42] [(2,pI x11)] (by kernel_rfl) (cX (al (dH ?_)))
    refine au hb3 (fun ht=>?_);subst ht
    refine cP ?_
    exact zz r h rfl
   refine ah ?_
   refine de hb3 fun x13 hx13 hb3=>aq [0] [43,44,45,46] [(6,pI x13)] (bg 3 (mb hx13) bj) (by kernel_rfl) (bZ (bF [47] [(48,pB (x13 != 0))] (by kernel_rfl) rfl hb3 (fun hc14 hb3=>?_) fun hc14 hb3=>?_))
   ·refine ae ?_
    refine ai [49] [(2,pI x13)] (by kernel_rfl) (cX (dH ?_))
    refine au hb3 (fun ht=>?_);subst ht
    refine cP ?_
    exact zz r h rfl
   refine ah ?_
   refine dI (ai [50] [(12,pI (IntKind.i64.wrap (v2+1)))] (by kernel_rfl) ?_)
   exact aS hb3 () (iR rfl) bB
  refine aH ?_
  refine cq hb3 (fun ht=>aj rfl ?_)
  exact aw ((),()) pz bB ht.symm
 rintro ⟨_,_⟩ τ hz;(try dsimp only at hz);subst q4;(try dsimp only at h);dsimp only [az]
 refine ae (dg [(2,pI 0)] (by kernel_rfl) ?_)
 exact zz r h rfl
def gq (p0:Zd) (p1:Zl):Option Bool:=(fF p0).bind fun x3=>(gd (x3 == 0) (gC p1)).bind fun x4=>some ((x3 == 0)&&(x4 == 0))
theorem rS {p0:Zd} {p1:Zl} {r:Bool}  (h:gq p0 p1=some r):PF 126 [.agg (an p0),.agg (bk p1)] (pB r):=by
 unfold gq at h
 refine bd ?_
 refine du Tryz.func126 rfl Tryz.ntmps126 Tryz.results126 rfl (da rfl (bf (cs:=(an p0)) rfl rfl (fun b1=>ap rfl (bf (cs:=(bk p1)) rfl rfl (fun b2=>ba [4] (by kernel_rfl) (de h fun x3 hx3 h=>aa h fun x4 hx4 h=>aq [1,0] (rg 5 8) [(4,pB ((x3 == 0)&&(x4 == 0)))] (bg 1 (ji hx3) (eM 5 (fun hc=>qv (cF hx4 hc)) bj)) (by kernel_rfl) (cX ?_)))))))
 exact zz r h rfl
def lO (p0:Zd) (p1:Zl) (p2:(List Int)):Option Bool:=(gq p0 p1).bind fun x3=>cond (!x3) (some false) ((qn p0).bind fun x5=>(Irule_test_follow x5 p1 p2).bind fun x6=>some (x6.2&&((x6.1.length:Int) == 0)))
theorem we {p0:Zd} {p1:Zl} {p2:(List Int)} {r:Bool}  (h:lO p0 p1 p2=some r):PF 123 [.agg (an p0),.agg (bk p1),pL eI p2] (pB r):=by
 unfold lO at h
 refine bd ?_
 refine du Tryz.func123 rfl Tryz.ntmps123 Tryz.results123 rfl (da rfl (bf (cs:=(an p0)) rfl rfl (fun b1=>ap rfl (bf (cs:=(bk p1)) rfl rfl (fun b2=>ba [6] (by kernel_rfl) (cj (aa h fun x3 hx3 h=>aq [1,0] [9,10,11] [(12,pB (!x3))] (bg 2 (rS hx3) bj) (by kernel_rfl) (cR rfl h (fun hc4 h=>?_) fun hc4 h=>?_))))))))
 ·refine ae ?_
  refine dg [(6,pB false)] (by kernel_rfl) (al ?_)
  exact zz r h rfl
 refine ah ?_
 refine bZ (bi (ρd:=[]) [(0,0),(2,0),(3,0),(1,1),(4,1),(5,0),(6,0),(7,0),(8,0),(9,0)] _ (List.Perm.refl _) (by kernel_rfl) rfl (aa h fun x5 hx5 h=>aa h fun x6 hx6 h=>bt 10 [1,0] [14,16,17,15,18,13,19,20] [(7,pL eI x6.1),(8,pB x6.2)] (bg 3 (vU hx5) (foci 4 (Irule_test_follow_ok hx6) bj)) (by kernel_rfl) (bA (bZ (ai (rg 21 6) [(6,pB (x6.2&&((x6.1.length:Int) == 0)))] (by kernel_rfl) (cX ?_))))))
 exact zz r h rfl
def dn (p0:Zv) (p1:Za):Option Zd:=(cU p0.plan p1.Product).bind fun x4=>(aT (S:=Int) (T:=(Unit)⊕(_)) (fun v6=>cond (decide (v6<(p0.list.length:Int))) ((idx p0.list v6).bind fun m10=>cond (m10.ID == p1.Agreement) ((dF m10 x4.1.Code).bind fun x13=>some (.inr (.inr x13.1))) (some (.inl (IntKind.i64.wrap (v6+1))))) (some (.inr (.inl ())))) FUEL 0).bind fun q=>match q with | .inl _=>some (⟨0,0,[],0,0,ByteArray.empty,[]⟩:Zd) | .inr e=>some e
theorem lP {p0:Zv} {p1:Za} {m0_known_claims:Nat} {r:Zd}  (h:dn p0 p1=some r):PCall 124 [.agg [.v (.map (some m0_known_claims)),pL Zc.enc p0.plan,pL Zb.enc p0.list,pS p0.importer],.agg [pI p1.Product,pI p1.Agreement]] [PRes.mp (some m0_known_claims) (gi Za.key vT p0.known.claims)] (fun pv ρ'=>pv=.agg (an r)∧ρ'=[PRes.mp (some m0_known_claims) (gi Za.key vT p0.known.claims)]):=by
 unfold dn at h
 refine du Tryz.func124 rfl Tryz.ntmps124 Tryz.results124 rfl (da rfl (bf (cs:=[.v (.map (some m0_known_claims)),pL Zc.enc p0.plan,pL Zb.enc p0.list,pS p0.importer]) rfl rfl (fun b1=>ap rfl (bf (cs:=[pI p1.Product,pI p1.Agreement]) rfl rfl (fun b2=>ap rfl (aL (cs:=[pI 0,pI 0,pN,pI 0,pI 0,pS ByteArray.empty,pN]) rfl rfl rfl rfl (fun b3=>aF (de h fun x4 hx4 h=>af (aU 8 [2,1] ((rg 12 5)++[11]) [(17,.agg (aI x4.1)),(18,pB x4.2)] (bg 4 (fQ hx4) bj) (by kernel_rfl) (ap rfl (aL (cs:=[pI 0,pS ByteArray.empty,pS ByteArray.empty,pI 0,pB false,pN,pN]) rfl rfl rfl rfl (fun b5=>aP rfl rfl (am (vs:=(aI x4.1)) rfl rfl rfl rfl rfl ce mX (ba [6] (by kernel_rfl) (cj (aJ [3] [19] [(20,pL Zb.enc p0.list),(21,pI (p0.list.length:Int)),(22,pI 0)] (by kernel_rfl) (ft h fun q8 hq8 h=>?_)))))))))))))))))
 refine ar (Y:=Unit×Unit) (fun (_,_)=>[(4,pP b3 0)]) (fun (_,_)=>[PRes.b b3 84 [pI 0,pI 0,pN,pI 0,pI 0,pS ByteArray.empty,pN],PRes.mp (some m0_known_claims) (gi Za.key vT p0.known.claims)]) (fun (_,_)=>q8=Sum.inl ()) ?_ ?_
 ·refine av ?_
  refine aC (Y:=Unit) (S:=Int) _ hq8 (fun _ v6=>[(3,pP b2 0),(4,pP b3 0),(5,pP b5 0),(20,pL Zb.enc p0.list),(21,pI (p0.list.length:Int)),(22,pI v6)]) (fun _ v6=>[PRes.b b2 28 [pI p1.Product,pI p1.Agreement],PRes.b b3 84 [pI 0,pI 0,pN,pI 0,pI 0,pS ByteArray.empty,pN],PRes.b b5 76 (aI x4.1),PRes.mp (some m0_known_claims) (gi Za.key vT p0.known.claims)]) () (p9 rfl) (be (aB (aB aO)) (be (aB aO) (be aO (be (aB aO) bB)))) ?_
  rintro _ v6 o τ hb7;(try dsimp only at hb7);dsimp only [az]
  refine ae (ak [(23,pB (decide (v6<(p0.list.length:Int))))] (by kernel_rfl) (bZ (kq rfl hb7 (fun hc9 hb7=>?_) fun hc9 hb7=>?_)))
  ·refine ah ?_
   refine dJ (aa hb7 fun m10 hm10 hb7=>af (aU 2 [] [24] [(25,.agg (aA m10))] (cL 0 Zb.enc hm10 bj) (by kernel_rfl) (ap rfl (aL (cs:=[pI 0,pI 0,pN,pN]) rfl rfl rfl rfl (fun b11=>aP rfl rfl (am (vs:=(aA m10)) rfl rfl rfl rfl rfl ce xx (aF (bZ (aJ [0,1] [26,27,28,29] [(30,pB (m10.ID == p1.Agreement))] (by kernel_rfl) (cR rfl hb7 (fun hc12 hb7=>?_) fun hc12 hb7=>?_))))))))))
   ·refine ae ?_
    refine aa hb7 fun x13 hx13 hb7=>af (aU 7 [0,3] [32,33,34,35,31] [(36,.agg (an x13.1)),(37,pB x13.2)] (bg 3 (lM hx13) bj) (by kernel_rfl) (ap rfl (aL (cs:=[pI 0,pI 0,pN,pI 0,pI 0,pS ByteArray.empty,pN]) rfl rfl rfl rfl (fun b14=>aP rfl rfl (am (vs:=(an x13.1)) rfl rfl rfl rfl rfl ce mX (ba [10] (by kernel_rfl) (bZ (af (gt 1 [0] [(38,.agg (an x13.1))] (by kernel_rfl) (aP rfl rfl (am (vs:=(an x13.1)) rfl rfl rfl rfl rfl (dA (dA (dA ce))) mX (aF (cX (dH ?_))))))))))))))
    refine au hb7 (fun ht=>?_);subst ht
    refine cP ?_
    obtain rfl:=osi h
    exact aM (dp (dC rfl zm3 rfl)) (be (aB (aB (aB (aB (aB aO))))) bB) ⟨rfl,rfl⟩
   refine ah ?_
   refine dI (ai [39] [(22,pI (IntKind.i64.wrap (v6+1)))] (by kernel_rfl) ?_)
   exact aS hb7 () (p9 rfl) (be (aB aO) (be (aB aO) (be (aB aO) (be (aB aO) bB))))
  refine aH ?_
  refine cq hb7 (fun ht=>aj rfl ?_)
  exact aw ((),()) (rD rfl) (be (aB aO) (be (aB (aB aO)) bB)) ht.symm
 rintro ⟨_,_⟩ τ hz;(try dsimp only at hz);subst q8;(try dsimp only at h);dsimp only [az]
 refine ae (af (aD 1 [(40,.agg [pI 0,pI 0,pN,pI 0,pI 0,pS ByteArray.empty,pN])] (by kernel_rfl) (aP rfl rfl (am (vs:=[pI 0,pI 0,pN,pI 0,pI 0,pS ByteArray.empty,pN]) rfl rfl rfl rfl rfl ce mX (aF (aX (cS (k:=2) (b:=b3) rfl ce (cS (k:=6) (b:=b3) rfl ce (bR ?_)))))))))
 obtain rfl:=osi h
 exact aM (dp (dC rfl gb rfl)) (be (aB aO) bB) ⟨rfl,rfl⟩
def dz (p0:Zv) (p1:Zf):Option Bool:=(cg p0.plan p0.list p0.importer p1.Claim).bind fun x3=>(gd (!(!x3)) (dL p0.known p1.Claim)).bind fun x4=>cond ((!x3)||x4) (some false) ((aT (S:=Int) (T:=(Unit)⊕(_)) (fun v6=>cond (decide (v6<(p1.Premises.length:Int))) ((idx p1.Premises v6).bind fun m10=>(dL p0.known m10).bind fun x12=>(gd ((!(!x12))&&(decide (0<v6))) (idx p1.Premises (IntKind.i64.wrap (v6 - 1)))).bind fun m13=>(gd ((!(!x12))&&(decide (0<v6))) (dy m13 m10)).bind fun x14=>cond ((!x12)||((decide (0<v6))&&(decide (0≤x14)))) (some (.inr (.inr false))) (some (.inl (IntKind.i64.wrap (v6+1))))) (some (.inr (.inl ())))) FUEL 0).bind fun q=>match q with | .inl _=>(fm p0.plan p0.list p0.importer p1.Claim p1.Premises).bind (fun x16=>(bW x16.2 p1.Premises).bind fun x18=>cond (!x18) (some false) ((dn p0 p1.Claim).bind fun x20=>(lO x20 x16.1 p1.Path).bind fun x21=>some x21)) | .inr e=>some e)
theorem mi {p0:Zv} {p1:Zf} {m0_known_claims:Nat} {r:Bool}  (h:dz p0 p1=some r):PCall 73 [.agg [.v (.map (some m0_known_claims)),pL Zc.enc p0.plan,pL Zb.enc p0.list,pS p0.importer],.agg (dj p1)] [PRes.mp (some m0_known_claims) (gi Za.key vT p0.known.claims)] (fun pv ρ'=>pv=pB r∧ρ'=[PRes.mp (some m0_known_claims) (gi Za.key vT p0.known.claims)]):=by
 unfold dz at h
 refine du Tryz.func73 rfl Tryz.ntmps73 Tryz.results73 rfl (da rfl (bf (cs:=[.v (.map (some m0_known_claims)),pL Zc.enc p0.plan,pL Zb.enc p0.list,pS p0.importer]) rfl rfl (fun b1=>ap rfl (bf (cs:=(dj p1)) rfl rfl (fun b2=>ba [4] (by kernel_rfl) (cj (aa h fun x3 hx3 h=>aa h fun x4 hx4 h=>af (aU 15 [1,1,1,0,1,0] ((rg 9 10)++[20,22]) [(19,pB (!x3)),(21,pgv (!(!x3)) (.agg [.v (.map (some m0_known_claims))])),(23,pgv (!(!x3)) (.agg [pI p1.Claim.Product,pI p1.Claim.Agreement]))] (bg 8 (jI hx3) bj) (by kernel_rfl) ?_))))))))
 refine rE (zN rfl rfl rfl) rfl rfl rfl (by exact aB (aB aO)) (kV (.g rfl) (kV (.g rfl) td)) (fun hc=>jE (cF hx4 hc)) (fun _=>rfl) ?_
 refine bX rfl rfl rfl (E8 rfl (.p rfl) (.p rfl) (.g rfl)) (aF (cR rfl h (fun hc5 h=>?_) fun hc5 h=>?_))
 ·refine ae ?_
  refine dg [(4,pB false)] (by kernel_rfl) (al ?_)
  obtain rfl:=osi h
  exact aM (dp (aK rfl)) cK ⟨rfl,rfl⟩
 refine ah ?_
 refine cj (aJ [1] [26] [(27,pL Za.enc p1.Premises),(28,pI (p1.Premises.length:Int)),(29,pI 0)] (by kernel_rfl) (ft h fun q8 hq8 h=>?_))
 refine ar (Y:=Unit×Unit) (fun (_,_)=>[(2,pP b1 0),(3,pP b2 0)]) (fun (_,_)=>[PRes.b b1 132 [.v (.map (some m0_known_claims)),pL Zc.enc p0.plan,pL Zb.enc p0.list,pS p0.importer],PRes.b b2 61 (dj p1),PRes.mp (some m0_known_claims) (gi Za.key vT p0.known.claims)]) (fun (_,_)=>q8=Sum.inl ()) ?_ ?_
 ·refine av ?_
  refine aC (Y:=Unit) (S:=Int) _ hq8 (fun _ v6=>[(2,pP b1 0),(3,pP b2 0),(27,pL Za.enc p1.Premises),(28,pI (p1.Premises.length:Int)),(29,pI v6)]) (fun _ v6=>[PRes.b b1 132 [.v (.map (some m0_known_claims)),pL Zc.enc p0.plan,pL Zb.enc p0.list,pS p0.importer],PRes.b b2 61 (dj p1),PRes.mp (some m0_known_claims) (gi Za.key vT p0.known.claims)]) () (ns rfl) (be (aB (aB aO)) (be (aB aO) cK)) ?_
  rintro _ v6 o τ hb7;(try dsimp only at hb7);dsimp only [az]
  refine ae (ak [(30,pB (decide (v6<(p1.Premises.length:Int))))] (by kernel_rfl) (bZ (kq rfl hb7 (fun hc9 hb7=>?_) fun hc9 hb7=>?_)))
  ·refine ah ?_
   refine dJ (aa hb7 fun m10 hm10 hb7=>af (aU 3 [] [32] [(31,pI v6),(33,.agg [pI m10.Product,pI m10.Agreement])] (cL 1 Za.enc hm10 bj) (by kernel_rfl) (ap rfl (aL (cs:=[pI 0,pI 0]) rfl rfl rfl rfl (fun b11=>aD 1 [(5,pI v6)] (by kernel_rfl) (aP rfl rfl (am (vs:=[pI m10.Product,pI m10.Agreement]) rfl rfl rfl rfl rfl ce sQ (aF (bZ (bi (ρd:=[PRes.mp (some m0_known_claims) _]) [(0,0),(1,0),(2,0),(3,1),(4,0),(5,0),(6,0),(7,0),(8,0),(9,0),(10,0),(11,0),(12,0),(13,0),(14,0),(15,0),(16,1),(17,0),(18,0),(19,0)] _ (aY (aB (aB (aB aO))) (List.Perm.refl _)) (by kernel_rfl) rfl (aa hb7 fun x12 hx12 hb7=>qd 3 [1,0] [34] [(35,.agg [.v (.map (some m0_known_claims))]),(36,.agg [pI m10.Product,pI m10.Agreement])] (by kernel_rfl) ?_)))))))))))
   refine iT rfl rfl rfl (bh rfl rfl (ρ1:=[_]) (aY (by exact aO) (List.Perm.refl _)) (jE hx12) ?_);rintro _ _ ⟨rfl,rfl⟩
   refine aa hb7 fun m13 hm13 hb7=>aa hb7 fun x14 hx14 hb7=>bt 16 [2,0] (rg 38 15) [(53,pB ((!x12)||((decide (0<v6))&&(decide (0≤x14)))))] (eK 9 Za.enc (cF hm13) (eM 12 (fun hc=>mg (cF hx14 hc)) bj)) (by kernel_rfl) (bA (cR rfl hb7 (fun hc15 hb7=>?_) fun hc15 hb7=>?_))
   ·refine ae ?_
    refine dg [(4,pB false)] (by kernel_rfl) (dH ?_)
    refine au hb7 (fun ht=>?_);subst ht
    refine cP ?_
    obtain rfl:=osi h
    exact aM (dp (aK rfl)) cK ⟨rfl,rfl⟩
   refine ah ?_
   refine dI (ai [54] [(29,pI (IntKind.i64.wrap (v6+1)))] (by kernel_rfl) ?_)
   exact aS hb7 () (ns rfl) (be (aB (aB aO)) (be (aB (aB aO)) cK))
  refine aH ?_
  refine cq hb7 (fun ht=>aj rfl ?_)
  exact aw ((),()) (mq rfl) A7 ht.symm
 rintro ⟨_,_⟩ τ hz;(try dsimp only at hz);subst q8;(try dsimp only at h);dsimp only [az]
 refine ae (aa h fun x16 hx16 h=>af (aU 14 [0,0,0,1,1] ((rg 56 11)++[55]) [(67,.agg (bk x16.1)),(68,pL Za.enc x16.2)] (bg 10 (qu hx16) bj) (by kernel_rfl) (ap rfl (aL (cs:=[pS ByteArray.empty,pI 0,pB false,pN,pN]) rfl rfl rfl rfl (fun b17=>aP rfl rfl (am (vs:=(bk x16.1)) rfl rfl rfl rfl rfl ce Fi (aN [(8,pL Za.enc x16.2)] (by kernel_rfl) (cj (aa h fun x18 hx18 h=>aq [2] [69,70,71,72] [(73,pB (!x18))] (bg 3 (gA hx18) bj) (by kernel_rfl) (cR rfl h (fun hc19 h=>?_) fun hc19 h=>?_))))))))))
 ·refine ae ?_
  refine dg [(4,pB false)] (by kernel_rfl) (al ?_)
  obtain rfl:=osi h
  exact aM (dp (aK rfl)) (be (aB (aB (aB aO))) bB) ⟨rfl,rfl⟩
 refine ah ?_
 refine bZ (bi (ρd:=[PRes.mp (some m0_known_claims) _]) [(0,0),(1,0),(2,0),(4,0),(5,0),(6,0),(3,1),(7,1),(8,0)] _ (aY (aB (aB (aB aO))) (List.Perm.refl _)) (by kernel_rfl) rfl (aa h fun x20 hx20 h=>qd 6 [1,2,0,2] [75,79] [(74,.agg [.v (.map (some m0_known_claims)),pL Zc.enc p0.plan,pL Zb.enc p0.list,pS p0.importer]),(76,.agg [pI p1.Claim.Product,pI p1.Claim.Agreement]),(78,.agg (bk x16.1)),(80,pL eI p1.Path)] (by kernel_rfl) ?_))
 refine iT rfl rfl rfl (bh rfl rfl (ρ1:=[_]) (aY (by exact aO) (List.Perm.refl _)) (lP hx20) ?_);rintro _ _ ⟨rfl,rfl⟩
 refine aa h fun x21 hx21 h=>bt 2 [] [81] [(4,pB x21)] (bg 0 (we hx21) bj) (by kernel_rfl) (bA (cX ?_))
 obtain rfl:=osi h
 exact aM (dp (aK rfl)) cK ⟨rfl,rfl⟩
def cx (p0:(List Zc)) (p1:(List Zb)) (p2:ByteArray) (p3:(List Zf)):Option (Int×Int):=(cZ p0).bind fun x1=>cond (x1 != 0) (some ((0:Int),x1)) ((cY p1).bind fun x3=>cond (x3 != 0) (some ((0:Int),x3)) ((bO p2).bind fun x5=>cond (!x5) (some ((0:Int),(1:Int))) ((aT (S:=Int×(List (Za×Bool))) (T:=(Unit)⊕(_)) (fun (v9,l10)=>cond (decide (v9<(p3.length:Int))) ((idx p3 v9).bind fun m14=>(dz (⟨(⟨l10⟩:Zr),p0,p1,p2⟩:Zv) m14).bind fun x16=>cond (!x16) (some (.inr (.inr (v9,(10:Int))))) ((fZ (⟨l10⟩:Zr) m14.Claim).bind fun x18=>some (.inl ((IntKind.i64.wrap (v9+1)),x18)))) (some (.inr (.inl ())))) FUEL (0,([]:List (Za×Bool)))).bind fun q=>match q with | .inl _=>some ((p3.length:Int),(0:Int)) | .inr e=>some e)))
theorem gD {p0:(List Zc)} {p1:(List Zb)} {p2:ByteArray} {p3:(List Zf)} {r:(Int×Int)}  (h:cx p0 p1 p2 p3=some r):PF 25 [pL Zc.enc p0,pL Zb.enc p1,pS p2,pL Zf.enc p3] (.tup [pI r.1,pI r.2]):=by
 unfold cx at h
 refine bd ?_
 refine du Tryz.func25 rfl Tryz.ntmps25 Tryz.results25 rfl (aW [8,9] (by kernel_rfl) (cj (aa h fun x1 hx1 h=>aq [] [15,16] [(10,pI x1)] (bg 1 (oW hx1) bj) (by kernel_rfl) (bZ (bF [17] [(18,pB (x1 != 0))] (by kernel_rfl) rfl h (fun hc2 h=>?_) fun hc2 h=>?_)))))
 ·refine ae ?_
  refine ai [19] [(8,pI 0),(9,pI x1)] (by kernel_rfl) (cX (al ?_))
  obtain rfl:=osi h
  exact aM (cd (aK rfl) (aK rfl)) bB ⟨rfl,rfl⟩
 refine ah ?_
 refine cj (aa h fun x3 hx3 h=>aq [] [20,21] [(11,pI x3)] (bg 1 (oV hx3) bj) (by kernel_rfl) (bZ (bF [22] [(23,pB (x3 != 0))] (by kernel_rfl) rfl h (fun hc4 h=>?_) fun hc4 h=>?_)))
 ·refine ae ?_
  refine ai [24] [(8,pI 0),(9,pI x3)] (by kernel_rfl) (cX (al ?_))
  obtain rfl:=osi h
  exact aM (cd (aK rfl) (aK rfl)) bB ⟨rfl,rfl⟩
 refine ah ?_
 refine cj (aa h fun x5 hx5 h=>aq [] [25,26] [(27,pB (!x5))] (bg 1 (fS hx5) bj) (by kernel_rfl) (cR rfl h (fun hc6 h=>?_) fun hc6 h=>?_))
 ·refine ae ?_
  refine dg [(8,pI 0),(9,pI 1)] (by kernel_rfl) (al ?_)
  obtain rfl:=osi h
  exact aM (cd (aK rfl) (aK rfl)) bB ⟨rfl,rfl⟩
 refine ah ?_
 refine bZ (da rfl (tV Za.key vT rfl (fun b7=>cE 5 [29,30,31,32] [(33,.agg [.v (.map (some b7)),pL Zc.enc p0,pL Zb.enc p1,pS p2])] (by kernel_rfl) (ap rfl (aL (cs:=[.v (.map none),pN,pN,pS ByteArray.empty]) rfl rfl rfl rfl (fun b8=>aP rfl rfl (am (vs:=[.v (.map (some b7)),pL Zc.enc p0,pL Zb.enc p1,pS p2]) rfl rfl rfl rfl rfl ce xx (aF (cj (ak [(34,pL Zf.enc p3),(35,pI (p3.length:Int)),(36,pI 0)] (by kernel_rfl) (ft h fun q12 hq12 h=>?_)))))))))))
 refine ar (Y:=Unit×Unit) (fun (_,_)=>[(3,pL Zf.enc p3)]) (fun (_,_)=>[]) (fun (_,_)=>q12=Sum.inl ()) ?_ ?_
 ·refine av ?_
  refine aC (Y:=Unit) (S:=Int×(List (Za×Bool))) _ hq12 (fun _ (v9,l10)=>[(3,pL Zf.enc p3),(12,pP b8 0),(34,pL Zf.enc p3),(35,pI (p3.length:Int)),(36,pI v9)]) (fun _ (v9,l10)=>[PRes.mp (some b7) (gi Za.key vT l10),PRes.b b8 132 [.v (.map (some b7)),pL Zc.enc p0,pL Zb.enc p1,pS p2]]) () (ns rfl) (be (aB aO) cK) ?_
  rintro _ ⟨v9,l10⟩ o τ hb11;(try dsimp only at hb11);dsimp only [az]
  refine ae (ak [(37,pB (decide (v9<(p3.length:Int))))] (by kernel_rfl) (bZ (kq rfl hb11 (fun hc13 hb11=>?_) fun hc13 hb11=>?_)))
  ·refine ah ?_
   refine dJ (aa hb11 fun m14 hm14 hb11=>af (aU 3 [] [39] [(38,pI v9),(40,.agg (dj m14))] (cL 1 Zf.enc hm14 bj) (by kernel_rfl) (ap rfl (aL (cs:=[pI 0,pI 0,pN,pN]) rfl rfl rfl rfl (fun b15=>aD 1 [(13,pI v9)] (by kernel_rfl) (aP rfl rfl (am (vs:=(dj m14)) rfl rfl rfl rfl rfl ce xx (aF (cj (aa hb11 fun x16 hx16 hb11=>af (gt 2 [2,0] [(41,.agg [.v (.map (some b7)),pL Zc.enc p0,pL Zb.enc p1,pS p2]),(42,.agg (dj m14))] (by kernel_rfl) ?_)))))))))))
   refine ap rfl (bh rfl rfl (ρ1:=[_]) (aY (by exact aB aO) (List.Perm.refl _)) (mi hx16) ?_);rintro _ _ ⟨rfl,rfl⟩
   refine aN [(44,pB (!x16))] (by kernel_rfl) (cR rfl hb11 (fun hc17 hb11=>?_) fun hc17 hb11=>?_)
   ·refine ae ?_
    refine ai [45] [(8,pI v9),(9,pI 10)] (by kernel_rfl) (cX (al (dH ?_)))
    refine au hb11 (fun ht=>?_);subst ht
    refine cP ?_
    obtain rfl:=osi h
    exact aM (cd (aK rfl) (aK rfl)) bB ⟨rfl,rfl⟩
   refine ah ?_
   refine ft hb11 fun x18 hx18 hb11=>af (cO 4 [2,1] [46,48] [(47,.agg [.v (.map (some b7))]),(49,.agg [pI m14.Claim.Product,pI m14.Claim.Agreement])] (by kernel_rfl) ?_)
   refine ap rfl (bh rfl rfl (ρ1:=[_]) (aY (by exact aO) (List.Perm.refl _)) (nN hx18) ?_);rintro _ _ ⟨rfl,rfl⟩
   refine aF (dI (ai [51] [(36,pI (IntKind.i64.wrap (v9+1)))] (by kernel_rfl) ?_))
   exact aS hb11 () (ns rfl) (be aO (be (aB aO) bB))
  refine aH ?_
  refine cq hb11 (fun ht=>aj rfl ?_)
  exact aw ((),()) (rD rfl) bB ht.symm
 rintro ⟨_,_⟩ τ hz;(try dsimp only at hz);subst q12;(try dsimp only at h);dsimp only [az]
 refine ae (ai [52,53] [(8,pI (p3.length:Int)),(9,pI 0)] (by kernel_rfl) (cX ?_))
 obtain rfl:=osi h
 exact aM (cd (aK rfl) (aK rfl)) bB ⟨rfl,rfl⟩
def lQ  : Option Bool:=(cx [(⟨1,(⟨#[57,52,48,49,48,49]⟩:ByteArray),(⟨#[65,65]⟩:ByteArray),10,true,[],[]⟩:Zc)] [(⟨7,1,[(⟨#[65,65]⟩:ByteArray),(⟨#[67,67]⟩:ByteArray)],[(⟨(⟨#[57,52]⟩:ByteArray),(⟨1,0,[],0,0,ByteArray.empty,[]⟩:Zd)⟩:Zh)]⟩:Zb)] (⟨#[67,67]⟩:ByteArray) []).bind fun x9=>(cx [(⟨1,(⟨#[57,52,48,49,48,49]⟩:ByteArray),(⟨#[65,65]⟩:ByteArray),10,true,[],[]⟩:Zc)] [(⟨7,1,[(⟨#[65,65]⟩:ByteArray),(⟨#[67,67]⟩:ByteArray)],[(⟨(⟨#[57,52]⟩:ByteArray),(⟨1,0,[],0,0,ByteArray.empty,[]⟩:Zd)⟩:Zh)]⟩:Zb)] (⟨#[67,67]⟩:ByteArray) [(⟨(⟨1,7⟩:Za),[],[]⟩:Zf)]).bind fun x12=>(cx [(⟨1,(⟨#[57,52,48,49,48,49]⟩:ByteArray),(⟨#[65,65]⟩:ByteArray),10,true,[],[]⟩:Zc)] [(⟨7,1,[(⟨#[65,65]⟩:ByteArray),(⟨#[67,67]⟩:ByteArray)],[(⟨(⟨#[57,52]⟩:ByteArray),(⟨1,0,[],0,0,ByteArray.empty,[]⟩:Zd)⟩:Zh)]⟩:Zb)] (⟨#[67,67]⟩:ByteArray) [(⟨(⟨1,8⟩:Za),[],[]⟩:Zf)]).bind fun x15=>some (((((x9.1 == 0)&&(x9.2 == 0))&&(x12.1 == 1))&&(x12.2 == 0))&&(x15.2 == 10))
theorem qw  {r:Bool}  (h:lQ  = some r):PF 27 [] (pB r):=by
 unfold lQ at h
 refine bd ?_
 refine du Tryz.func27 rfl Tryz.ntmps27 Tryz.results27 rfl (aW [0] (by kernel_rfl) (bZ (da rfl (bN rfl rfl rfl rfl rfl (ij rfl (ij rfl kf)) rfl rfl rfl rfl (fun b1=>aD 1 [(10,.agg [pI 1,pI 0,pN,pI 0,pI 0,pS ByteArray.empty,pN])] (by kernel_rfl) (iU 10 2 rfl rfl (iU 10 6 rfl rfl (aD 1 [(11,.agg [pS (⟨#[57,52]⟩:ByteArray),pI 1,pI 0,pL eS [],pI 0,pI 0,pS ByteArray.empty,pL Zd.enc []])] (by kernel_rfl) (ap rfl (bN rfl rfl rfl rfl rfl (ij rfl kf) rfl rfl rfl rfl (fun b3=>?_)))))))))))
 refine ip (enc:=eS) (xs:=[(⟨#[65,65]⟩:ByteArray),(⟨#[67,67]⟩:ByteArray)]) 9 rfl (by exact aB aO) ?_
 refine ip (enc:=Zh.enc) (xs:=[(⟨(⟨#[57,52]⟩:ByteArray),(⟨1,0,[],0,0,ByteArray.empty,[]⟩:Zd)⟩:Zh)]) 12 rfl (by exact aB aO) ?_
 refine aD 1 [(13,.agg [pI 7,pI 1,pL eS [(⟨#[65,65]⟩:ByteArray),(⟨#[67,67]⟩:ByteArray)],pL Zh.enc [(⟨(⟨#[57,52]⟩:ByteArray),(⟨1,0,[],0,0,ByteArray.empty,[]⟩:Zd)⟩:Zh)]])] (by kernel_rfl) (ap rfl (bN rfl rfl rfl rfl rfl (ij rfl kf) rfl rfl rfl rfl (fun b5=>aN [(1,pO (some ⟨b5,0,none⟩) 1 1)] (by kernel_rfl) (bZ (af (aD 1 [(15,.agg [pI 1,pS (⟨#[57,52,48,49,48,49]⟩:ByteArray),pS (⟨#[65,65]⟩:ByteArray),pI 10,pB true,pN,pN])] (by kernel_rfl) (iU 15 5 rfl rfl (iU 15 6 rfl rfl (ap rfl (bN rfl rfl rfl rfl rfl (ij rfl kf) rfl rfl rfl rfl (fun b7=>aN [(2,pO (some ⟨b7,0,none⟩) 1 1)] (by kernel_rfl) (bZ (af (aD 2 [(18,pO (some ⟨b7,0,none⟩) 1 1),(19,pO (some ⟨b5,0,none⟩) 1 1)] (by kernel_rfl) ?_))))))))))))))
 refine ip (enc:=Zc.enc) (xs:=[(⟨1,(⟨#[57,52,48,49,48,49]⟩:ByteArray),(⟨#[65,65]⟩:ByteArray),10,true,[],[]⟩:Zc)]) 18 rfl (by exact aO) ?_
 refine ip (enc:=Zb.enc) (xs:=[(⟨7,1,[(⟨#[65,65]⟩:ByteArray),(⟨#[67,67]⟩:ByteArray)],[(⟨(⟨#[57,52]⟩:ByteArray),(⟨1,0,[],0,0,ByteArray.empty,[]⟩:Zd)⟩:Zh)]⟩:Zb)]) 19 rfl (by exact aB aO) ?_
 refine aa h fun x9 hx9 h=>E4 rfl rfl rfl rfl rfl (pf_nil1 [_,_,_] [] (gD hx9)) (kv [17,21,22] [(3,pI x9.1),(4,pI x9.2)] (by kernel_rfl) (bZ (af (cE 4 [26] [(24,pO (some ⟨b7,0,none⟩) 1 1),(25,pO (some ⟨b5,0,none⟩) 1 1),(27,.agg [pI 1,pI 7,pN,pN])] (by kernel_rfl) (iU 27 2 rfl rfl (iU 27 3 rfl rfl (ap rfl (bN rfl rfl rfl rfl rfl (ij rfl kf) rfl rfl rfl rfl (fun b10=>p7 (enc:=Zc.enc) (xs:=[(⟨1,(⟨#[57,52,48,49,48,49]⟩:ByteArray),(⟨#[65,65]⟩:ByteArray),10,true,[],[]⟩:Zc)]) 24 rfl um (p7 (enc:=Zb.enc) (xs:=[(⟨7,1,[(⟨#[65,65]⟩:ByteArray),(⟨#[67,67]⟩:ByteArray)],[(⟨(⟨#[57,52]⟩:ByteArray),(⟨1,0,[],0,0,ByteArray.empty,[]⟩:Zd)⟩:Zh)]⟩:Zb)]) 25 rfl wU ?_))))))))))
 refine ip (enc:=Zf.enc) (xs:=[(⟨(⟨1,7⟩:Za),[],[]⟩:Zf)]) 28 rfl (by exact aO) ?_
 refine aa h fun x12 hx12 h=>jN [] [29,23,30,31] [(5,pI x12.1),(6,pI x12.2)] (bg 0 (gD hx12) bj) (by kernel_rfl) (bZ (af (cE 4 [35] [(33,pO (some ⟨b7,0,none⟩) 1 1),(34,pO (some ⟨b5,0,none⟩) 1 1),(36,.agg [pI 1,pI 8,pN,pN])] (by kernel_rfl) (iU 36 2 rfl rfl (iU 36 3 rfl rfl (ap rfl (bN rfl rfl rfl rfl rfl (ij rfl kf) rfl rfl rfl rfl (fun b13=>p7 (enc:=Zc.enc) (xs:=[(⟨1,(⟨#[57,52,48,49,48,49]⟩:ByteArray),(⟨#[65,65]⟩:ByteArray),10,true,[],[]⟩:Zc)]) 33 rfl zm3 (p7 (enc:=Zb.enc) (xs:=[(⟨7,1,[(⟨#[65,65]⟩:ByteArray),(⟨#[67,67]⟩:ByteArray)],[(⟨(⟨#[57,52]⟩:ByteArray),(⟨1,0,[],0,0,ByteArray.empty,[]⟩:Zd)⟩:Zh)]⟩:Zb)]) 34 rfl um ?_)))))))))
 refine ip (enc:=Zf.enc) (xs:=[(⟨(⟨1,8⟩:Za),[],[]⟩:Zf)]) 37 rfl (by exact aO) ?_
 refine aa h fun x15 hx15 h=>jN [] [38,32,39,40,7] [(8,pI x15.2)] (bg 0 (gD hx15) bj) (by kernel_rfl) (bZ (ai (rg 41 18) [(0,pB (((((x9.1 == 0)&&(x9.2 == 0))&&(x12.1 == 1))&&(x12.2 == 0))&&(x15.2 == 10)))] (by kernel_rfl) (cX ?_)))
 exact zz r h rfl
def ed (p0:(List Zc)) (p1:(List Zb)) (p2:ByteArray) (p3:(List Zf)) (p4:(List Int)) (p5:Int):Option Bool:=cond (((decide (20<(p0.length:Int)))||(decide (10<(p1.length:Int))))||(decide (10<(p3.length:Int)))) ((lQ).bind fun x2=>some x2) ((eO p1).bind fun x3=>Option.bind (cond ((dq .i64 p5 1) == 1) ((n9 p4).bind fun x9=>some (x9,p4,p5)) (some (p0,p4,p5))) (fun (l4,l5,v6)=>Option.bind (cond ((dq .i64 v6 2) == 2) ((iu l5).bind fun x16=>some x16) (some x3)) (fun l13=>(cx l4 l13 p2 p3).bind fun x20=>(hQ l4 l13 p2 p3).bind fun x21=>(gd ((x20.1 == x21.1)&&(x20.2 == x21.2)) (lQ)).bind fun x22=>some (((x20.1 == x21.1)&&(x20.2 == x21.2))&&x22))))
theorem nl {p0:(List Zc)} {p1:(List Zb)} {p2:ByteArray} {p3:(List Zf)} {p4:(List Int)} {p5:Int} {r:Bool}  (h:ed p0 p1 p2 p3 p4 p5=some r):PF 5 [pL Zc.enc p0,pL Zb.enc p1,pS p2,pL Zf.enc p3,pL eI p4,pI p5] (pB r):=by
 unfold ed at h
 refine bd ?_
 refine du Tryz.func5 rfl Tryz.ntmps5 Tryz.results5 rfl (aW [12] (by kernel_rfl) (cj (bF (rg 17 12) [(29,pB (((decide (20<(p0.length:Int)))||(decide (10<(p1.length:Int))))||(decide (10<(p3.length:Int)))))] (by kernel_rfl) rfl h (fun hc1 h=>?_) fun hc1 h=>?_)))
 ·refine ae ?_
  refine aa h fun x2 hx2 h=>aq [] [30] [(12,pB x2)] (bg 0 (qw hx2) bj) (by kernel_rfl) (cX (al ?_))
  exact zz r h rfl
 refine ah ?_
 refine de h fun x3 hx3 h=>aq [] [31,32] [(1,pL Zb.enc x3)] (bg 1 (nO hx3) bj) (by kernel_rfl) (cj (ai [33,34] [(35,pB ((dq .i64 p5 1) == 1))] (by kernel_rfl) (ft h fun q7 hq7 h=>?_)))
 refine ar (Y:=Unit×((List Zc)×(List Int)×Int)) (fun (_,(l4,l5,v6))=>[(0,pL Zc.enc l4),(1,pL Zb.enc x3),(2,pS p2),(3,pL Zf.enc p3),(4,pL eI l5),(5,pI v6)]) (fun (_,(l4,l5,v6))=>[]) (fun (_,(l4,l5,v6))=>q7=(l4,l5,v6)) ?_ ?_
 ·skip
  refine kq rfl hq7 (fun hc8 hq7=>?_) fun hc8 hq7=>?_
  ·refine aa hq7 ?_;clear hq7;intro x9 hx9 hq7
   refine af (aD 1 [(36,pL eI p4)] (by kernel_rfl) ?_)
   refine ap rfl (bh rfl rfl (ρ1:=[]) (List.Perm.refl _) (yM hx9) ?_);rintro _ _ ⟨a10,c11,rfl,rfl⟩
   refine aN [(0,pO a10 x9.length c11)] (by kernel_rfl) ?_
   refine kU (z1 (enc:=Zc.enc) (xs:=x9) 0 rfl (by exact aO)) ?_
   obtain rfl:=osi hq7
   exact aw ((),(x9,p4,p5)) (p9 rfl) bB rfl
  refine ah ?_
  obtain rfl:=osi hq7
  exact aw ((),(p0,p4,p5)) (p9 rfl) bB rfl
 rintro ⟨_,⟨l4,l5,v6⟩⟩ τ hz;(try dsimp only at hz);subst q7;(try dsimp only at h);dsimp only [az]
 refine cT (ai [38,39] [(40,pB ((dq .i64 v6 2) == 2))] (by kernel_rfl) (ft h fun q14 hq14 h=>?_))
 refine ar (Y:=Unit×((List Zb))) (fun (_,l13)=>[(0,pL Zc.enc l4),(1,pL Zb.enc l13),(2,pS p2),(3,pL Zf.enc p3)]) (fun (_,l13)=>[]) (fun (_,l13)=>q14=l13) ?_ ?_
 ·skip
  refine kq rfl hq14 (fun hc15 hq14=>?_) fun hc15 hq14=>?_
  ·refine aa hq14 ?_;clear hq14;intro x16 hx16 hq14
   refine af (aD 1 [(41,pL eI l5)] (by kernel_rfl) ?_)
   refine ap rfl (bh rfl rfl (ρ1:=[]) (List.Perm.refl _) (rF hx16) ?_);rintro _ _ ⟨a17,c18,rfl,rfl⟩
   refine aN [(1,pO a17 x16.length c18)] (by kernel_rfl) ?_
   refine kU (z1 (enc:=Zb.enc) (xs:=x16) 1 rfl (by exact aO)) ?_
   obtain rfl:=osi hq14
   exact aw ((),x16) (iR rfl) bB rfl
  refine ah ?_
  obtain rfl:=osi hq14
  exact aw ((),x3) (iR rfl) bB rfl
 rintro ⟨_,l13⟩ τ hz;(try dsimp only at hz);subst q14;(try dsimp only at h);dsimp only [az]
 refine ae (aa h fun x20 hx20 h=>aq [] ((rg 44 5)++[43,49,50]) [(13,pI x20.1),(14,pI x20.2)] (bg 4 (gD hx20) bj) (by kernel_rfl) (de h fun x21 hx21 h=>aq [] ((rg 52 5)++[51,57,58]) [(15,pI x21.1),(16,pI x21.2)] (bg 4 (vV hx21) bj) (by kernel_rfl) (de h fun x22 hx22 h=>aq [] (rg 59 11) [(12,pB (((x20.1 == x21.1)&&(x20.2 == x21.2))&&x22))] (eM 9 (fun hc=>qw (cF hx22 hc)) bj) (by kernel_rfl) (cX ?_))))
 exact zz r h rfl
def lR (p0:(List Zc)) (p1:(List Zb)) (p2:ByteArray) (p3:Za) (p4:(List Za)):Option (Zl×(List Za)):=(cg p0 p1 p2 p3).bind fun x3=>cond (!x3) (some ((⟨ByteArray.empty,0,false,[],[]⟩:Zl),[])) ((cU p0 p3.Product).bind fun x5=>(eG p1 p3.Agreement).bind fun x7=>(eD p1 p3.Agreement x5.1.Country p2).bind fun x9=>(aT (S:=Int×(List (Za×Bool))) (T:=((List (Za×Bool)))) (fun (v12,l13)=>cond (decide (v12<((p4.length:Nat):Int))) ((idx p4 v12).bind fun m19=>some (.inl ((IntKind.i64.wrap (v12+1)),(qb l13 m19 true)))) (some (.inr l13))) FUEL (0,([]:List (Za×Bool)))).bind fun l15=>(fk p0 x7.1 x5.1 (⟨x9,l15⟩:Zs)).bind fun x21=>(aT (S:=(List Za)×Int×(List Zk)) (T:=((List Za)×(List Zk))) (fun (l24,v27,l29)=>cond (decide (v27<(x21.1.length:Int))) (((idx x21.1 v27).bind fun m56=>(Icumulation_supply_input m56).bind fun x57=>(app 32 l29 [x57]).bind fun l60=>cond (Ze.is_proved_ m56) ((app 16 l24 [(((Ze.as_proved_ m56)).premise)]).bind fun l68=>some (l68,l60)) (some (l24,l60))).bind fun (l49,l54)=>some (.inl (l49,(IntKind.i64.wrap (v27+1)),l54))) (some (.inr (l24,l29)))) FUEL (([]:List Za),0,([]:List Zk))).bind fun (l35,l40)=>(bx l35).bind fun x72=>(bC x72).bind fun x73=>some ((⟨x5.1.Code,x5.1.Price,x5.1.Obtained,x21.2,l40⟩:Zl),x73))
def oX (p0:Zd) (p1:Zl):Option ((List Int)×Bool):=(gq p0 p1).bind fun x3=>cond (!x3) (some ([],false)) ((qn p0).bind fun x5=>(Irule_test_witness x5 p1).bind fun x6=>some (x6.1,x6.2))
def ja (p0:Zn) (p1:(List Zc)) (p2:(List Zb)) (p3:ByteArray) (p4:(List Za)) (p5:(List Zf)):Option (Bool×(List Za)×(List Zf)):=(lR p1 p2 p3 p0.claim p4).bind fun x2=>(oX p0.rule x2.1).bind fun x4=>Option.bind (cond x4.2 ((app 64 p5 [(⟨p0.claim,x4.1,x2.2⟩:Zf)]).bind fun l14=>some l14) (some p5)) (fun l9=>some (x4.2,p4,l9))
def oY (p0:(List Zc)) (p1:(List Zb)) (p2:ByteArray):Option (List Zn):=(aT (S:=(List Zn)×Int) (T:=((List Zn))) (fun (l2,v5)=>cond (decide (v5<(p0.length:Int))) ((idx p0 v5).bind fun m14=>(aT (S:=(List Zn)×Int) (T:=((List Zn))) (fun (l17,v20)=>cond (decide (v20<(p1.length:Int))) (((idx p1 v20).bind fun m33=>(dF m33 m14.Code).bind fun x36=>(gd x36.2 (cg p0 p1 p2 (⟨m14.ID,m33.ID⟩:Za))).bind fun x38=>cond (x36.2&&x38) ((app 112 l17 [(⟨(⟨m14.ID,m33.ID⟩:Za),x36.1⟩:Zn)]).bind fun l42=>some l42) (some l17)).bind fun l31=>some (.inl (l31,(IntKind.i64.wrap (v20+1))))) (some (.inr l17))) FUEL (l2,0)).bind fun l24=>some (.inl (l24,(IntKind.i64.wrap (v5+1))))) (some (.inr l2))) FUEL (([]:List Zn),0)).bind fun l9=>some l9
def jj (p0:(List Zc)) (p1:(List Zb)) (p2:ByteArray):Option ((List Zf)×Int):=(cZ p0).bind fun x4=>cond (x4 != 0) (some ([],x4)) ((cY p1).bind fun x6=>cond (x6 != 0) (some ([],x6)) ((bO p2).bind fun x8=>cond (!x8) (some ([],(1:Int))) ((oY p0 p1 p2).bind fun x12=>(aT (S:=(List Zn)×(List Zf)×(List Za)) (T:=(Unit)⊕(_)) (fun (l13,l15,l19)=>(aT (S:=(List Zn)×Int×(List Zf)×(List Za)) (T:=((List Zn)×(List Zf)×(List Za))) (fun (l27,v30,l32,l36)=>cond (decide (v30<(l13.length:Int))) (((idx l13 v30).bind fun m68=>(ja m68 p0 p1 p2 l36 l32).bind fun x70=>cond (!x70.1) ((app 112 l27 [m68]).bind fun l80=>some (l80,x70.2.2,x70.2.1)) (some (l27,x70.2.2,x70.2.1))).bind fun (l58,l62,l66)=>some (.inl (l58,(IntKind.i64.wrap (v30+1)),l62,l66))) (some (.inr (l27,l32,l36)))) FUEL (([]:List Zn),0,l15,l19)).bind fun (l42,l46,l50)=>cond (((l46.length:Nat):Int) == ((l15.length:Nat):Int)) (some (.inr (.inr (l46,(0:Int))))) ((sub l46 ((l15.length:Nat):Int) (l46.length:Int)).bind fun l85=>(aT (S:=Int×(List Za)) (T:=((List Za))) (fun (v86,l88)=>cond (decide (v86<((l46.length - ((l15.length:Nat):Int).toNat:Nat):Int))) ((lF v86).bind fun u100=>(idx l46 (((l15.length:Nat):Int)+v86)).bind fun m101=>(app 16 l88 [m101.Claim]).bind fun l105=>some (.inl ((IntKind.i64.wrap (v86+1)),l105))) (some (.inr l88))) FUEL (0,l50)).bind fun l96=>some (.inl (l42,l46,l96)))) FUEL (x12,([]:List Zf),([]:List Za))).bind fun q=>match q with | .inl _=>none | .inr e=>some e)))
end SX
namespace SX
open Go
theorem mO {S T:Type} {body:S→Option (S⊕T)} (P:S→Prop) (μ:S→Nat) (Q:T→Prop) (step:∀ s,P s→(∃ s',body s=some (.inl s')∧P s'∧μ s'<μ s)∨∃ t,body s=some (.inr t)∧Q t):∀ (N:Nat) (s:S),P s→μ s<N→∃ t,aT body N s=some t∧Q t:=by
 intro N
 induction N with
 | zero=>intro s _ h;exact absurd h (Nat.not_lt_zero _)
 | succ N ih =>
  intro s hp hm
  rw [fL]
  rcases step s hp with ⟨s',h1,h2,h3⟩ | ⟨t,h1,h2⟩
  ·rw [h1];exact ih s' h2 (by omega)
  rw [h1];exact ⟨t,rfl,h2⟩
theorem ix0 {α:Type} {a b:α}:idx [a,b] 0=some a:=rfl
theorem ix1 {α:Type} {a b:α}:idx [a,b] 1=some b:=rfl
theorem cap_eq (c:Int):fg c=some (decide (65≤c)&&decide (c≤90)):=rfl
def mL (s:ByteArray):Bool:=match s.data.toList with | [a,b]=>decide (65≤(a.toNat:Int))&&decide ((a.toNat:Int)≤90)&&decide (65≤(b.toNat:Int))&&decide ((b.toNat:Int)≤90) | _=>false
theorem Ar {s:ByteArray} (h:((s.size:Int) == 2)=true):∃ a b,s.data.toList=[a,b]:=by
 have h2:s.data.toList.length=2:=by
  have:=eq_of_beq h
  rw [Array.length_toList];have e:s.size=s.data.size:=rfl;omega
 match hd:s.data.toList,h2 with
 | [a,b],_=>exact ⟨a,b,rfl⟩
theorem CN {s:ByteArray} (h:((s.size:Int) == 2)=false):mL s=false:=by
 unfold mL
 split
 ·rename_i a b hd
  have e:s.size=s.data.toList.length:=by rw [Array.length_toList];rfl
  rw [hd] at e
  have e2:(s.size:Int)=2:=by rw [e];rfl
  rw [e2] at h;cases h
 rfl
theorem iN (s:ByteArray):bO s=some (mL s):=by
 unfold bO
 cases h:((s.size:Int) == 2)
 ·rw [CN h];rfl
 obtain ⟨a,b,hd⟩:=Ar h
 simp only [Bool.true_and,cu,cap_eq]
 rw [hd]
 simp only [mL,hd]
 rw [pA ix0]
 simp only [bc]
 cases h1:(decide (65≤(a.toNat:Int))&&decide ((a.toNat:Int)≤90))
 ·rfl
 simp only [cu,Bool.true_and];rw [pA ix1];rfl
theorem nD (s:ByteArray):eg s=some (mL s):=by
 unfold eg
 cases h:((s.size:Int) == 2)
 ·rw [CN h];rfl
 obtain ⟨a,b,hd⟩:=Ar h
 simp only [Bool.true_and,cu]
 rw [hd]
 simp only [mL,hd]
 rw [pA ix0]
 cases h1:decide (65≤(a.toNat:Int))
 ·rfl
 simp only [cu,Bool.true_and];rw [pA ix0]
 cases h2:decide ((a.toNat:Int)≤90)
 ·rfl
 simp only [cu,Bool.true_and];rw [pA ix1]
 cases h3:decide (65≤(b.toNat:Int))
 ·rfl
 simp only [cu,Bool.true_and];rw [pA ix1]
theorem tz (s:ByteArray) (hs:s.size≤140737488355328):fD s=some (cQ s):=by
 have hz:s.size=s.data.toList.length:=by rw [Array.length_toList];rfl
 unfold fD
 obtain ⟨t,h5,h6⟩:=mO (body:=fun v1=>cond (decide (v1<(s.size:Int))) (Option.bind (idx s.data.toList v1) (fun c5=>Option.bind (gd (!(decide ((c5.toNat:Int)<48))) (idx s.data.toList v1)) (fun c6=>cond ((decide ((c5.toNat:Int)<48))||(decide (57<(c6.toNat:Int)))) (some (.inr (.inr 0))) (some (.inl (IntKind.i64.wrap (v1+1))))))) (some (.inr (.inl ()))))
  (fun v:Int=>0≤v∧v≤s.size∧∀ j,(h:j<s.data.toList.length)→(j:Int)<v→kB (s.data.toList[j]).toNat=true) (fun v=>(s.size:Int).toNat - v.toNat) (fun t:Unit⊕Int=>(t=.inl ()∧lp s=true)∨(t=.inr 0∧lp s=false))
  (fun v hv=>by
   obtain ⟨a1,a2,a3⟩:=hv
   by_cases hl:v<(s.size:Int)
   ·rw [det hl];simp only [bL]
    obtain ⟨k,rfl⟩:∃ k:Nat,v=(k:Int):=⟨v.toNat,by omega⟩
    have hk:k<s.data.toList.length:=by omega
    rw [pA (aQ hk)]
    by_cases hd:kB (s.data.toList[k]).toNat=true
    ·left
     have hd2:=hd
     simp only [kB,decide_eq_true_eq] at hd2
     rw [cb (show ¬ ((s.data.toList[k].toNat:Nat):Int)<48 by omega)]
     simp only [Bool.not_false,cu,Bool.false_or]
     rw [pA (aQ hk),cb (show ¬ 57<((s.data.toList[k].toNat:Nat):Int) by omega)]
     simp only [bv]
     rw [cM (by omega) (by omega)]
     refine ⟨_,rfl,⟨by omega,by omega,fun j h1 h2=>?_⟩,by omega⟩
     by_cases hj:j=k
     ·subst hj;exact hd
     exact a3 j h1 (by omega)
    right
    refine ⟨.inr 0,?_,.inr ⟨rfl,?_⟩⟩
    ·have hd2:=hd
     simp only [kB,decide_eq_true_eq] at hd2
     by_cases h48:((s.data.toList[k].toNat:Nat):Int)<48
     ·rw [det h48];rfl
     rw [cb h48]
     simp only [Bool.not_false,cu,Bool.false_or]
     rw [pA (aQ hk),det (show 57<((s.data.toList[k].toNat:Nat):Int) by omega)];rfl
    cases ha:lp s
    ·rfl
    exfalso;apply hd
    unfold lp bl at ha
    exact List.all_eq_true.1 ha _ (List.getElem_mem hk)
   right
   rw [cb hl]
   refine ⟨.inl (),rfl,.inl ⟨rfl,?_⟩⟩
   unfold lp bl
   rw [List.all_eq_true]
   intro c hc
   obtain ⟨j,hj,rfl⟩:=List.getElem_of_mem hc
   exact a3 j hj (by omega))
  FUEL 0 ⟨by omega,by omega,fun j _ h=>by omega⟩ (jv (by omega))
 rw [pA h5]
 unfold cQ
 rcases h6 with ⟨rfl,h⟩ | ⟨rfl,h⟩
 ·simp only [h,and_true]
  by_cases h8:(8:Int)<(s.size:Int)
  ·rw [det h8,if_neg (by omega)];rfl
  rw [cb h8]
  simp only [Bool.false_or]
  have e:Int.tmod (s.size:Int) 2=(s.size:Int) % 2:=Int.tmod_eq_emod_of_nonneg (by omega)
  rw [e]
  by_cases hp:(s.size:Int) % 2=1
  ·rw [hp,if_neg (by omega)];rfl
  have:((s.size:Int) % 2 == 1)=false:=by simpa using hp
  rw [this]
  by_cases h0:s.size=0
  ·rw [if_neg (by omega),h0];rfl
  rw [if_pos (by omega)];rfl
 simp [h]
theorem tA (s:ByteArray):s.size=s.data.toList.length:=by rw [Array.length_toList];rfl
def rT (c:UInt8):Bool:=decide (97≤c.toNat)&&decide (c.toNat≤122)
def hU (s:ByteArray):Bool:=decide (1≤s.size)&&decide (s.size≤12)&&s.data.toList.all rT
theorem As (s:ByteArray) (hs:s.size≤140737488355328):lg s=some (hU s):=by
 unfold lg hU
 have hz:=tA s
 rw [hz] at hs ⊢
 generalize s.data.toList=l at hs ⊢
 refine (bD (l:=l) (by omega) (fun _ c=>cond (rT c) none (some (.inr false))) (.inl ()) (fun k hk=>?_) (by simp only [cN,bv])).trans ?_
 ·simp only [gY hk,bL,aQ hk,bc,bM hk (show l.length≤4611686018427387904 by omega),rT]
  generalize l[k]=c
  by_cases h1:c.toNat<97
  ·rw [show decide ((c.toNat:Int)<97)=true from det (by omega),show decide (97≤c.toNat)=false from cb (by omega)];rfl
  rw [show decide ((c.toNat:Int)<97)=false from cb (by omega),show decide (97≤c.toNat)=true from det (by omega)]
  simp only [Bool.not_false,cu,bc,Bool.false_or,Bool.true_and]
  by_cases h2:122<c.toNat
  ·rw [show decide ((122:Int)<(c.toNat:Int))=true from det (by omega),show decide (c.toNat≤122)=false from cb (by omega)];rfl
  rw [show decide ((122:Int)<(c.toNat:Int))=false from cb (by omega),show decide (c.toNat≤122)=true from det (by omega)];rfl
 rw [qT]
 have i1:decide ((1:Int)≤(l.length:Int))=decide (1≤l.length):=decide_eq_decide.2 (by omega)
 have i2:decide ((l.length:Int)≤(12:Int))=decide (l.length≤12):=decide_eq_decide.2 (by omega)
 cases l.all rT
 ·simp
 simp [i1,i2]
theorem DQ (s:ByteArray) (hs:s.size≤140737488355328):kC s=some (hU s):=by
 unfold kC hU
 have i1:decide ((s.size:Int)<1) = !decide (1≤s.size):=by rw [← decide_not];exact decide_eq_decide.2 (by omega)
 have i2:decide ((12:Int)<(s.size:Int)) = !decide (s.size≤12):=by rw [← decide_not];exact decide_eq_decide.2 (by omega)
 rw [i1,i2]
 cases h1:decide (1≤s.size)
 ·rfl
 cases h2:decide (s.size≤12)
 ·rfl
 simp only [Bool.not_true,Bool.or_self,bv,Bool.true_and]
 have key:∀ n pos N,s.size - pos=n→pos≤s.size→n<N→aT (j5 s) N pos=some ((s.data.toList.drop pos).all rT):=by
  intro n
  induction n with
  | zero =>
   intro pos N hn hp hN
   obtain ⟨N,rfl⟩:∃ M,N=M+1:=⟨N - 1,by omega⟩
   have:Nat.blt pos s.size=false:=by cases hb:Nat.blt pos s.size;rfl;simp [Nat.blt] at hb;omega
   rw [fL,j5,this]
   rw [List.drop_of_length_le (by rw [← tA];omega)];rfl
  | succ n ih =>
   intro pos N hn hp hN
   obtain ⟨N,rfl⟩:∃ M,N=M+1:=⟨N - 1,by omega⟩
   have hlt:pos<s.size:=by omega
   have hb:Nat.blt pos s.size=true:=by simp [Nat.blt];omega
   have hlt2:pos<s.data.toList.length:=by rw [← tA];exact hlt
   have hget:s[pos]=s.data.toList[pos]:=by
    rw [Array.getElem_toList];rfl
   rw [fL,j5,hb,List.drop_eq_getElem_cons hlt2,List.all_cons,← hget]
   by_cases ha:(s[pos]'hlt).toNat<128
   ·rw [decode_ascii s pos hlt ha]
    simp only [bL,rT]
    by_cases h1:(s[pos]'hlt).toNat<97
    ·rw [show decide (((s[pos]'hlt).toNat:Int)<97)=true from det (by omega),show decide (97≤(s[pos]'hlt).toNat)=false from cb (by omega)];rfl
    by_cases h2:122<(s[pos]'hlt).toNat
    ·rw [show decide ((122:Int)<((s[pos]'hlt).toNat:Int))=true from det (by omega),show decide ((s[pos]'hlt).toNat≤122)=false from cb (by omega),Bool.or_true,Bool.and_false];rfl
    rw [cb (by omega),cb (by omega),det (Nat.not_lt.1 h1),det (Nat.not_lt.1 h2)]
    exact ih (pos+1) N (by omega) (by omega) (by omega)
   have hh:=decode_high s pos hlt (by omega)
   have h122:¬ (s[pos]'hlt).toNat≤122:=by omega
   have:decide (122<((Utf8.decode s pos).1:Int))=true:=det (by omega)
   simp [this,rT,h122]
 have:=key s.size 0 FUEL (by omega) (by omega) (jv (by omega))
 rw [this,List.drop_zero]
def kK (lt:ByteArray→ByteArray→Bool):List ByteArray→Bool
 | []=>true
 | [_]=>true
 | a::b::l=>lt a b&&kK lt (b::l)
def nw (p:ByteArray→Bool) (l:List ByteArray) (k:Nat) (x:ByteArray):Bool:=p x&&(!decide (0<k)||i7 (l.getD (k - 1) x) x)
theorem At (p:ByteArray→Bool) (l:List ByteArray):(∀ i x,l[i]?=some x→nw p l i x=true)↔(l.all p&&kK i7 l)=true:=by
 have key:∀ (l:List ByteArray),(∀ i,(h:i+1<l.length)→i7 l[i] l[i+1]=true)↔kK i7 l=true:=by
  intro l
  induction l with
  | nil=>simp [kK]
  | cons a l ih =>
   cases l with
   | nil=>simp [kK]
   | cons b l =>
    rw [kK,Bool.and_eq_true,← ih]
    constructor
    ·intro h;exact ⟨h 0 (by simp),fun i hi=>h (i+1) (by simpa using hi)⟩
    rintro ⟨h1,h2⟩ i hi
    cases i with
    | zero=>exact h1
    | succ i=>exact h2 i (by simpa using hi)
 rw [Bool.and_eq_true,← key,List.all_eq_true]
 constructor
 ·intro h
  refine ⟨fun x hx=>?_,fun i hi=>?_⟩
  ·obtain ⟨i,hi,rfl⟩:=List.getElem_of_mem hx
   have:=h i _ (List.getElem?_eq_getElem hi)
   simp only [nw,Bool.and_eq_true] at this
   exact this.1
  have:=h (i+1) _ (List.getElem?_eq_getElem hi)
  simp only [nw,Bool.and_eq_true,Nat.zero_lt_succ,decide_true,Bool.not_true,Bool.false_or,Nat.add_sub_cancel] at this
  rw [dt (by omega)] at this
  exact this.2
 rintro ⟨h1,h2⟩ i x hx
 obtain ⟨hi,rfl⟩:=List.getElem?_eq_some_iff.1 hx
 simp only [nw,h1 _ (List.getElem_mem hi),Bool.true_and]
 by_cases h0:0<i
 ·rw [det h0,Bool.not_true,Bool.false_or,dt (by omega)]
  obtain ⟨j,rfl⟩:∃ j,i=j+1:=⟨i - 1,by omega⟩
  exact h2 j hi
 simp [h0]
theorem mP {T:Type} (p:ByteArray→Bool) (l:List ByteArray) (t:T):bT (fun k x=>cond (nw p l k x) none (some t)) l 0=cond (l.all p&&kK i7 l) none (some t):=by
 have hn:=mY (g:=fun k x=>cond (nw p l k x) none (some t)) (l:=l) (k:=0)
 cases h:(l.all p&&kK i7 l)
 ·cases hf:bT (fun k x=>cond (nw p l k x) none (some t)) l 0 with
  | none =>
   exfalso
   have:(l.all p&&kK i7 l)=true:=by
    rw [← At]
    intro i x hx
    have:=hn.1 hf i x hx
    rw [Nat.zero_add] at this
    cases hk:nw p l i x
    ·rw [hk] at this;cases this
    rfl
   rw [h] at this;cases this
  | some u =>
   have:∀ (m:List ByteArray) (k:Nat) (u:T),bT (fun k x=>cond (nw p l k x) none (some t)) m k=some u→u=t:=by
    intro m
    induction m with
    | nil=>intro k u h;cases h
    | cons x m ih =>
     intro k u h
     rw [bT] at h
     cases hk:nw p l k x
     ·rw [hk] at h;injection h with h;exact h.symm
     rw [hk] at h;exact ih _ _ h
   rw [this _ _ _ hf];rfl
 rw [bL,hn]
 intro i x hx
 rw [Nat.zero_add,(At p l).2 h i x hx];rfl
def ig (l:List ByteArray):Bool:=decide (l.length≤8)&&(l.all hU&&kK i7 l)
def StrsOk (l:List ByteArray):Prop:=l.length≤140737488355328∧∀ s∈l,s.size≤140737488355328
theorem rU (l:List ByteArray) (hl:StrsOk l):d9 l=some (ig l):=by
 obtain ⟨hl,hs⟩:=hl
 unfold d9 ig
 have i2:decide ((8:Int)<(l.length:Int)) = !decide (l.length≤8):=by rw [← decide_not];exact decide_eq_decide.2 (by omega)
 rw [i2]
 cases decide (l.length≤8)
 ·rfl
 simp only [Bool.not_true,bv,Bool.true_and]
 refine (bD (l:=l) (by omega) (fun k x=>cond (nw hU l k x) none (some (.inr false))) (.inl ()) (fun k hk=>?_) (by simp only [cN,bv])).trans ?_
 ·have h62:l.length≤4611686018427387904:=by omega
  simp only [gY hk,bL,aQ hk,bc,DQ _ (hs _ (List.getElem_mem hk)),BG,bM hk h62,nw]
  cases hw:hU l[k]
  ·rfl
  by_cases h0:0<k
  ·simp only [h0,decide_true,Bool.not_true,Bool.not_false,Bool.and_true,Bool.true_and,Bool.false_or,cu,fM h0 hk h62,bc,dt (show k - 1<l.length by omega),i7,uQ]
   cases Op.bytesLess (l[k-1]'(by omega)).toList l[k].toList <;> rfl
  simp only [h0,decide_false,Bool.and_false,iO,bc,Bool.not_true,Bool.false_or,Bool.false_and,bv,Bool.not_false,Bool.true_and,Bool.true_or,Bool.or_false];rfl
 rw [mP]
 cases (l.all hU&&kK i7 l) <;> rfl
mutual
def r9:Zd→Nat
 | ⟨_,_,_,_,_,_,l⟩=>1+uD l
def uD:List Zd→Nat
 | []=>0
 | a::l=>max (r9 a) (uD l)
end
mutual
def pV:Zd→Nat
 | ⟨_,_,_,_,_,_,l⟩=>1+nQ l
def nQ:List Zd→Nat
 | []=>0
 | a::l=>pV a+nQ l
end
theorem js (r:Zd):r9 r=1+uD r.Args:=by cases r;rw [r9]
theorem qy (r:Zd):pV r=1+nQ r.Args:=by cases r;rw [pV]
theorem CO:∀ {l:List Zd} {a:Zd},a∈l→r9 a≤uD l
 | b::l,a,h=>by
  rw [uD]
  rcases List.mem_cons.1 h with rfl | h
  ·omega
  have:=CO h;omega
theorem iQ {r a:Zd} (h:a∈r.Args):r9 a<r9 r:=by rw [js r];have:=CO h;omega
mutual
theorem oZ:∀ r:Zd,r9 r≤pV r
 | ⟨_,_,_,_,_,_,l⟩=>by rw [r9,pV];have:=xL l;omega
theorem xL:∀ l:List Zd,uD l≤nQ l
 | []=>by rw [uD,nQ];exact Nat.le_refl _
 | a::l=>by rw [uD,nQ];have h1:=oZ a;have h2:=xL l;omega
end
inductive ROk:Zd→Prop
 | mk (r:Zd) (h1:StrsOk r.Except) (h2:r.Name.size≤140737488355328) (h3:r.Args.length≤140737488355328) (h4:∀ a∈r.Args,ROk a):ROk r
theorem ROk.ex {r:Zd} (h:ROk r):StrsOk r.Except:=by cases h;assumption
theorem ROk.nm {r:Zd} (h:ROk r):r.Name.size≤140737488355328:=by cases h;assumption
theorem ROk.len {r:Zd} (h:ROk r):r.Args.length≤140737488355328:=by cases h;assumption
theorem ROk.arg {r:Zd} (h:ROk r) {a:Zd} (ha:a∈r.Args):ROk a:=by cases h with | mk _ _ _ _ h4=>exact h4 a ha
theorem nodes_F (n:Nat):∀ (r:Zd) (lim:Nat),ROk r→r9 r≤n→1≤lim→lim≤1000→mB n r (lim:Int)=some ((min (pV r) lim:Nat):Int):=by
 induction n with
 | zero=>intro r lim _ hd;rw [js] at hd;omega
 | succ n ih =>
  intro r lim hr hd h1 h2
  have hl:=hr.len
  show kx (mB n) r (lim:Int)=_
  unfold kx
  refine (ku (l:=r.Args) (by omega) (fun i (a:Nat)=>((a:Int),i)) (fun _ x a=>cond (Nat.ble lim a) (.inr ()) (.inl (min (a+pV x) lim))) (fun (a:Nat)=>.inl (a:Int)) (fun (_:Unit)=>.inr (lim:Int)) (fun _ a=>a≤lim) 1 h1 (fun k hk a ha=>⟨?_,fun a' h=>?_⟩) (fun a ha=>?_)).trans ?_
  ·simp only [gY hk,bL,aQ hk,bc]
   cases hb:Nat.ble lim a
   ·have hlt:a<lim:=by rcases Nat.lt_or_ge a lim with h | h;exact h;rw [Nat.ble_eq_true_of_le h] at hb;cases hb
    rw [show decide ((lim:Int)≤(a:Int))=false from cb (by omega),cM (by omega) (by omega),show (lim:Int) - (a:Int)=((lim - a:Nat):Int) by omega,
     ih _ (lim - a) (hr.arg (List.getElem_mem hk)) (by have:=iQ (List.getElem_mem hk);omega) (by omega) (by omega)]
    simp only [bv,bc,bM hk (show r.Args.length≤4611686018427387904 by omega),Ak]
    rw [cM (by omega) (by omega),show (a:Int)+((min (pV r.Args[k]) (lim - a):Nat):Int)=((min (a+pV r.Args[k]) lim:Nat):Int) by omega]
   have hle:=Nat.le_of_ble_eq_true hb
   rw [show decide ((lim:Int)≤(a:Int))=true from det (by omega)];rfl
  ·cases hb:Nat.ble lim a
   ·rw [hb] at h;injection h with h;omega
   rw [hb] at h;cases h
  ·simp only [cN,bv]
  have key:∀ (l:List Zd) (i a:Nat),a≤lim→wX (fun (a:Nat)=>(a:Int)) (fun (_:Unit)=>(lim:Int)) (run (fun _ x a=>cond (Nat.ble lim a) (.inr ()) (.inl (min (a+pV x) lim))) l i a)=((min (a+nQ l) lim:Nat):Int):=by
   intro l
   induction l with
   | nil=>intro i a ha;rw [nQ];show (a:Int)=_;omega
   | cons x l ihl =>
    intro i a ha
    rw [jx,nQ]
    cases hb:Nat.ble lim a
    ·exact (ihl _ _ (by omega)).trans (by omega)
    have hle:=Nat.le_of_ble_eq_true hb
    show (lim:Int)=_;omega
  have k2:∀ (o:Nat⊕Unit),(match (wX (fun (a:Nat)=>.inl (a:Int)) (fun (_:Unit)=>.inr (lim:Int)) o:Int⊕Int) with | .inl v4=>some v4 | .inr e=>some e)=some (wX (fun (a:Nat)=>(a:Int)) (fun (_:Unit)=>(lim:Int)) o):=fun o=>by cases o <;> rfl
  rw [qy]
  exact (k2 _).trans (congrArg some (key _ _ _ h1))
theorem BK (n:Nat):∀ (r:Zd),ROk r→r9 r≤n→ly n r=some ((min (pV r) 33:Nat):Int):=by
 induction n with
 | zero=>intro r _ hd;rw [js] at hd;omega
 | succ n ih =>
  intro r hr hd
  have hl:=hr.len
  show jA (ly n) r=_
  unfold jA
  refine (ku (l:=r.Args) (by omega) (fun i (a:Nat)=>((a:Int),i)) (fun _ x a=>cond (Nat.ble a 32) (.inl (a+min (pV x) 33)) (.inr a)) (fun a=>(a:Int)) (fun (a:Nat)=>(a:Int)) (fun _ a=>a≤1000) 1 (by omega) (fun k hk a ha=>⟨?_,fun a' h=>?_⟩) (fun a ha=>?_)).trans ?_
  ·simp only [gY hk,Bool.true_and,aQ hk,bc]
   cases hb:Nat.ble a 32
   ·have hlt:32<a:=by rcases Nat.lt_or_ge 32 a with h | h;exact h;rw [Nat.ble_eq_true_of_le h] at hb;cases hb
    rw [show decide ((a:Int)≤32)=false from cb (by omega)];rfl
   have hle:=Nat.le_of_ble_eq_true hb
   rw [show decide ((a:Int)≤32)=true from det (by omega),ih _ (hr.arg (List.getElem_mem hk)) (by have:=iQ (List.getElem_mem hk);omega)]
   simp only [bL,bc,bM hk (show r.Args.length≤4611686018427387904 by omega),Ak]
   rw [cM (by omega) (by omega),show (a:Int)+((min (pV r.Args[k]) 33:Nat):Int)=((a+min (pV r.Args[k]) 33:Nat):Int) by omega]
  ·cases hb:Nat.ble a 32
   ·rw [hb] at h;cases h
   have hle:=Nat.le_of_ble_eq_true hb
   rw [hb] at h;injection h with h;omega
  ·simp only [cN,Bool.false_and,bv]
  have key:∀ (l:List Zd) (i a:Nat),∃ q:Nat,wX (fun (a:Nat)=>(a:Int)) (fun (a:Nat)=>(a:Int)) (run (fun _ x a=>cond (Nat.ble a 32) (.inl (a+min (pV x) 33)) (.inr a)) l i a)=(q:Int)∧min q 33=min (a+nQ l) 33:=by
   intro l
   induction l with
   | nil=>intro i a;exact ⟨a,rfl,by rw [nQ];omega⟩
   | cons x l ihl =>
    intro i a
    rw [jx,nQ]
    cases hb:Nat.ble a 32
    ·have hlt:32<a:=by rcases Nat.lt_or_ge 32 a with h | h;exact h;rw [Nat.ble_eq_true_of_le h] at hb;cases hb
     exact ⟨a,rfl,by omega⟩
    obtain ⟨q,h1,h2⟩:=ihl (i+1) (a+min (pV x) 33)
    exact ⟨q,h1,by omega⟩
  obtain ⟨q,h1,h2⟩:=key r.Args 0 1
  rw [qy,← h2,h1]
  congr 1;unfold oM;split <;> omega
def A8 (s:ByteArray):Bool := !(cQ s == 0)
def lq (l:List ByteArray):Bool:=decide (l.length≤6)&&(l.all A8&&kK i7 l)
def FW (n:Int):Bool:=decide (0≤n)&&decide (n≤1000000)
def kE (r:Zd):Bool:=(r.Kind == 2||(r.Digits == 0&&r.Except.isEmpty&&r.Tolerance == 0))&&(r.Kind == 3||r.Limit == 0)&&(r.Kind == 4||decide (r.Name=⟨#[]⟩))&&(r.Kind == 5||r.Kind == 6||r.Args.isEmpty)
def j7 (r:Zd):Bool:=cond (r.Kind == 1) true (cond (r.Kind == 2) ((r.Digits == 2||r.Digits == 4||r.Digits == 6)&&lq r.Except&&FW r.Tolerance) (cond (r.Kind == 3) (FW r.Limit) (cond (r.Kind == 4) (hU r.Name) false)))
mutual
def dG:Zd→Bool
 | ⟨k,d,e,t,m,n,l⟩=>kE ⟨k,d,e,t,m,n,l⟩&&cond (k == 5||k == 6) (decide (2≤l.length)&&decide (l.length≤6)&&o7 k l) (j7 ⟨k,d,e,t,m,n,l⟩)
def o7 (k:Int):List Zd→Bool
 | []=>true
 | a::l=>(!(a.Kind == k)&&dG a)&&o7 k l
end
theorem wf (k:Int):∀ l:List Zd,o7 k l=l.all fun a => !(a.Kind == k)&&dG a
 | []=>by rw [o7];rfl
 | a::l=>by rw [o7,wf k l];rfl
theorem gV (r:Zd):dG r=(kE r&&cond (r.Kind == 5||r.Kind == 6) (decide (2≤r.Args.length)&&decide (r.Args.length≤6)&&r.Args.all fun a => !(a.Kind == r.Kind)&&dG a) (j7 r)):=by
 cases r;rw [dG,wf]
theorem len0 {α:Type} (l:List α):((l.length:Int) == 0)=l.isEmpty:=by cases l <;> rfl
theorem len0' {α:Type} (l:List α):decide (0<(l.length:Int)) = !l.isEmpty:=by cases l with
 | nil=>rfl
 | cons a l=>exact det (by rw [List.length_cons];omega)
theorem BL (r:Zd):nc r=some (kE r):=by
 unfold nc kE
 rw [len0,len0']
 simp only [bne]
 cases (r.Kind == 2) <;> cases (r.Digits == 0) <;> cases r.Except.isEmpty <;> cases (r.Tolerance == 0) <;> cases (r.Kind == 3) <;> cases (r.Limit == 0) <;> cases (r.Kind == 4) <;> cases decide (r.Name=⟨#[]⟩) <;> rfl
theorem DR (r:Zd):lL r=some (kE r):=by
 unfold lL kE
 rw [len0,len0']
 simp only [bne]
 cases (r.Kind == 2) <;> cases (r.Digits == 0) <;> cases r.Except.isEmpty <;> cases (r.Tolerance == 0) <;> cases (r.Kind == 3) <;> cases (r.Limit == 0) <;> cases (r.Kind == 4) <;> cases decide (r.Name=⟨#[]⟩) <;> rfl
theorem BM (l:List ByteArray) (hl:StrsOk l):iB l=some (lq l):=by
 obtain ⟨hl,hs⟩:=hl
 unfold iB lq
 have i2:decide ((6:Int)<(l.length:Int)) = !decide (l.length≤6):=by rw [← decide_not];exact decide_eq_decide.2 (by omega)
 rw [i2]
 cases decide (l.length≤6)
 ·rfl
 simp only [Bool.not_true,bv,Bool.true_and]
 refine (bD (l:=l) (by omega) (fun k x=>cond (nw A8 l k x) none (some (.inr false))) (.inl ()) (fun k hk=>?_) (by simp only [cN,bv])).trans ?_
 ·have h62:l.length≤4611686018427387904:=by omega
  simp only [gY hk,bL,aQ hk,bc,show ∀ s,dW s=some (cQ s) from fun _=>rfl,BG,bM hk h62,nw,A8]
  cases hw:(cQ l[k] == 0)
  ·by_cases h0:0<k
   ·simp only [h0,decide_true,Bool.not_true,Bool.not_false,Bool.and_true,Bool.true_and,Bool.false_or,cu,fM h0 hk h62,bc,dt (show k - 1<l.length by omega),i7,uQ]
    cases Op.bytesLess (l[k-1]'(by omega)).toList l[k].toList <;> rfl
   simp only [h0,decide_false,Bool.and_false,iO,bc,Bool.not_true,Bool.false_or,Bool.false_and,bv,Bool.not_false,Bool.true_and,Bool.true_or,Bool.or_false];rfl
  rfl
 rw [mP]
 cases (l.all A8&&kK i7 l) <;> rfl
theorem DS (l:List ByteArray) (hl:StrsOk l) {β:Type} (k:Unit⊕Bool→Option β):Option.bind (aT (S:=Int) (T:=(Unit)⊕(_)) (fun v6=>cond (decide (v6<(l.length:Int))) (Option.bind (idx l v6) (fun m10=>Option.bind (fD m10) (fun x11=>Option.bind (gd ((!(x11 == 0))&&(decide (0<v6))) (idx l (IntKind.i64.wrap (v6 - 1)))) (fun m12=>Option.bind (gd ((!(x11 == 0))&&(decide (0<v6))) (idx l v6)) (fun m13=>cond ((x11 == 0)||((decide (0<v6))&&(!Op.bytesLess m12.toList m13.toList))) (some (.inr (.inr false))) (some (.inl (IntKind.i64.wrap (v6+1))))))))) (some (.inr (.inl ())))) FUEL 0) k=k (cond (l.all A8&&kK i7 l) (.inl ()) (.inr false)):=by
 obtain ⟨hl,hs⟩:=hl
 refine (bD (l:=l) (by omega) (fun k x=>cond (nw A8 l k x) none (some (.inr false))) (.inl ()) (fun k hk=>?_) (by simp only [cN,bv])).trans ?_
 ·have h62:l.length≤4611686018427387904:=by omega
  simp only [gY hk,bL,aQ hk,bc,tz _ (hs _ (List.getElem_mem hk)),BG,bM hk h62,nw,A8]
  cases hw:(cQ l[k] == 0)
  ·by_cases h0:0<k
   ·simp only [h0,decide_true,Bool.not_true,Bool.not_false,Bool.and_true,Bool.true_and,Bool.false_or,cu,fM h0 hk h62,bc,dt (show k - 1<l.length by omega),i7]
    cases Op.bytesLess (l[k-1]'(by omega)).toList l[k].toList <;> rfl
   simp only [h0,decide_false,Bool.and_false,iO,bc,Bool.not_true,Bool.false_or,Bool.false_and,bv,Bool.not_false,Bool.true_and,Bool.true_or,Bool.or_false];rfl
  rfl
 rw [mP]
 cases (l.all A8&&kK i7 l) <;> rfl
theorem FX (s:ByteArray) (hs:s.size≤140737488355328):d9 [s]=some (hU s):=by
 rw [rU [s] ⟨by simp,by simpa using hs⟩]
 simp [ig,kK]
theorem valid_F (n:Nat):∀ (r:Zd),ROk r→r9 r≤n→mJ n r=some (dG r):=by
 induction n with
 | zero=>intro r _ hd;rw [js] at hd;omega
 | succ n ih =>
  intro r hr hd
  have hl:=hr.len
  show kD (mJ n) r=_
  unfold kD
  rw [BL,gV,bc]
  cases kE r
  ·rfl
  simp only [Bool.not_true,bv,Bool.true_and]
  cases e1:(r.Kind == 1)
  rotate_left
  ·have:=eq_of_beq e1
   simp only [j7,e1,this];rfl
  cases e2:(r.Kind == 2)
  rotate_left
  ·have:=eq_of_beq e2
   simp only [j7,e1,e2,this,bL,bv]
   rw [BM _ hr.ex]
   show _=some (_&&lq r.Except&&FW r.Tolerance)
   cases (r.Digits == 2||r.Digits == 4||r.Digits == 6)
   ·rfl
   simp only [cu,Bool.true_and,bc]
   cases lq r.Except <;> rfl
  cases e3:(r.Kind == 3)
  rotate_left
  ·have:=eq_of_beq e3
   simp only [j7,e1,e2,e3,this,bL,bv];rfl
  cases e4:(r.Kind == 4)
  rotate_left
  ·have:=eq_of_beq e4
   simp only [j7,e1,e2,e3,e4,this,bL,bv]
   rw [FX _ hr.nm];rfl
  simp only [j7,e1,e2,e3,e4,bv]
  have e56:(cond (r.Kind == 5) (some (r.Kind == 5)) (some (r.Kind == 6)):Option Bool)=some (r.Kind == 5||r.Kind == 6):=by cases (r.Kind == 5) <;> rfl
  rw [e56,bc]
  cases (r.Kind == 5||r.Kind == 6)
  ·rfl
  simp only [bL]
  have i1:decide ((r.Args.length:Int)<2) = !decide (2≤r.Args.length):=by rw [← decide_not];exact decide_eq_decide.2 (by omega)
  have i2:decide ((6:Int)<(r.Args.length:Int)) = !decide (r.Args.length≤6):=by rw [← decide_not];exact decide_eq_decide.2 (by omega)
  rw [i1,i2]
  cases decide (2≤r.Args.length)
  ·rfl
  cases decide (r.Args.length≤6)
  ·rfl
  simp only [Bool.not_true,Bool.or_self,bv,Bool.true_and]
  refine (bD (l:=r.Args) (by omega) (fun _ a=>cond (!(a.Kind == r.Kind)&&dG a) none (some (.inr false))) (.inl ()) (fun k hk=>?_) (by simp only [cN,bv])).trans ?_
  ·simp only [gY hk,bL,aQ hk,bc,bM hk (show r.Args.length≤4611686018427387904 by omega)]
   have h2:=ih _ (hr.arg (List.getElem_mem hk)) (by have:=iQ (List.getElem_mem hk);omega)
   cases (r.Args[k].Kind == r.Kind)
   ·simp only [Bool.not_false,cu,h2,bc,Bool.true_and,Bool.false_or]
    cases dG r.Args[k] <;> rfl
   rfl
  rw [qT]
  cases (r.Args.all fun a => !(a.Kind == r.Kind)&&dG a) <;> rfl
theorem right_F (n:Nat):∀ (r:Zd),ROk r→r9 r≤n→lz n r=some (dG r):=by
 induction n with
 | zero=>intro r _ hd;rw [js] at hd;omega
 | succ n ih =>
  intro r hr hd
  have hl:=hr.len
  show jB (lz n) r=_
  unfold jB
  rw [DR,gV,bc]
  cases kE r
  ·rfl
  simp only [Bool.not_true,bv,Bool.true_and]
  cases e1:(r.Kind == 1)
  rotate_left
  ·have:=eq_of_beq e1
   simp only [j7,e1,this];rfl
  cases e2:(r.Kind == 2)
  rotate_left
  ·have:=eq_of_beq e2
   simp only [j7,e1,e2,this,bL,bv]
   rw [DS _ hr.ex]
   show _=some (_&&lq r.Except&&FW r.Tolerance)
   unfold lq FW
   have i2:decide ((r.Except.length:Int)≤6)=decide (r.Except.length≤6):=decide_eq_decide.2 (by omega)
   rw [i2]
   cases (r.Except.all A8&&kK i7 r.Except)
   ·cases (r.Digits == 2||r.Digits == 4||r.Digits == 6) <;> cases decide (r.Except.length≤6) <;> rfl
   cases (r.Digits == 2||r.Digits == 4||r.Digits == 6) <;> cases decide (r.Except.length≤6) <;> rfl
  cases e3:(r.Kind == 3)
  rotate_left
  ·have:=eq_of_beq e3
   simp only [j7,e1,e2,e3,this,bL,bv];rfl
  cases e4:(r.Kind == 4)
  rotate_left
  ·have:=eq_of_beq e4
   simp only [j7,e1,e2,e3,e4,this,bL,bv]
   rw [As _ hr.nm];rfl
  simp only [j7,e1,e2,e3,e4,bv]
  have e56:(cond (r.Kind == 5) (some (r.Kind == 5)) (some (r.Kind == 6)):Option Bool)=some (r.Kind == 5||r.Kind == 6):=by cases (r.Kind == 5) <;> rfl
  rw [e56,bc]
  cases (r.Kind == 5||r.Kind == 6)
  ·rfl
  simp only [bL]
  have i1:decide ((2:Int)≤(r.Args.length:Int))=decide (2≤r.Args.length):=decide_eq_decide.2 (by omega)
  have i2:decide ((r.Args.length:Int)≤(6:Int))=decide (r.Args.length≤6):=decide_eq_decide.2 (by omega)
  rw [i1,i2]
  refine (bD (l:=r.Args) (by omega) (fun _ a=>cond (!(a.Kind == r.Kind)&&dG a) none (some (.inr false))) (.inl ()) (fun k hk=>?_) (by simp only [cN,bv])).trans ?_
  ·simp only [gY hk,bL,aQ hk,bc,bM hk (show r.Args.length≤4611686018427387904 by omega)]
   have h2:=ih _ (hr.arg (List.getElem_mem hk)) (by have:=iQ (List.getElem_mem hk);omega)
   cases (r.Args[k].Kind == r.Kind)
   ·simp only [Bool.not_false,cu,h2,bc,Bool.true_and,Bool.false_or]
    cases dG r.Args[k] <;> rfl
   rfl
  rw [qT]
  cases (r.Args.all fun a => !(a.Kind == r.Kind)&&dG a)
  ·simp
  simp
def kF (r:Zd):Int:=cond (decide (pV r≤32)) (cond (dG r) 0 1) 8
theorem oo (r:Zd) (hr:ROk r) (hd:r9 r≤1000):fF r=some (kF r):=by
 unfold fF rG rR kF
 have hf:FUEL=1267650600228229401496703205376:=rfl
 have h1:=nodes_F FUEL r 33 hr (by rw [hf];omega) (by omega) (by omega)
 rw [show ((33:Nat):Int)=33 from rfl] at h1
 rw [h1,bc,valid_F FUEL r hr (by rw [hf];omega)]
 by_cases h:pV r≤32
 ·rw [cb (by omega),det h]
  cases dG r <;> rfl
 rw [det (by omega),cb h];rfl
theorem FY (r:Zd) (hr:ROk r) (hd:r9 r≤1000):ll r=some (kF r):=by
 unfold ll qj qk kF
 have hf:FUEL=1267650600228229401496703205376:=rfl
 rw [BK FUEL r hr (by rw [hf];omega),bc,right_F FUEL r hr (by rw [hf];omega)]
 by_cases h:pV r≤32
 ·rw [cb (by omega),det h]
  cases dG r <;> rfl
 rw [det (by omega),cb h];rfl
theorem np (r:Zd):kF r=0↔pV r≤32∧dG r=true:=by
 unfold kF
 by_cases h:pV r≤32
 ·rw [det h];cases dG r <;> simp [h]
 rw [cb h];simp [h]
structure RFOk (x:Zh):Prop where
 pre:x.Prefix.size≤140737488355328
 rule:ROk x.Rule
 deep:r9 x.Rule≤1000
structure AOk (a:Zb):Prop where
 par:StrsOk a.Parties
 len:a.Rules.length≤140737488355328
 rules:∀ x∈a.Rules,RFOk x
structure ASOk (l:List Zb):Prop where
 len:l.length≤140737488355328
 all:∀ a∈l,AOk a
def jb (l:List ByteArray):Bool:=l.all mL&&kK i7 l
def mu (l:List Zh) (k:Nat) (x:Zh):Option Int:=cond (A8 x.Prefix) (cond (decide (0<k) && !i7 (l.getD (k - 1) x).Prefix x.Prefix) (some 9) (cond (kF x.Rule == 0) none (some (kF x.Rule)))) (some 1)
def rulesE (l:List Zh):Int:=(bT (mu l) l 0).getD 0
def uE (l:List Zb) (k:Nat) (a:Zb):Option Int :=
 cond (decide (a.ID<1)||decide (1000<a.ID)||decide (a.Kind<1)||decide (3<a.Kind)) (some 2) (cond (decide (0<k)&&decide (a.ID≤(l.getD (k - 1) a).ID)) (some 9) (cond (decide (12<a.Parties.length)||decide (12<a.Rules.length)) (some 8)
  (cond (jb a.Parties) (cond (rulesE a.Rules == 0) none (some (rulesE a.Rules))) (some 1))))
def sB (l:List Zb):Int:=cond (decide (l.length≤8)) ((bT (uE l) l 0).getD 0) 8
theorem yS (l:List ByteArray) (hl:StrsOk l):dZ l=some (jb l):=by
 obtain ⟨hl,hs⟩:=hl
 unfold dZ jb
 refine (bD (l:=l) (by omega) (fun k x=>cond (nw mL l k x) none (some (.inr false))) (.inl ()) (fun k hk=>?_) (by simp only [cN,bv])).trans ?_
 ·have h62:l.length≤4611686018427387904:=by omega
  simp only [gY hk,bL,aQ hk,bc,iN,BG,bM hk h62,nw]
  cases hw:mL l[k]
  ·rfl
  by_cases h0:0<k
  ·simp only [h0,decide_true,Bool.not_true,Bool.not_false,Bool.and_true,Bool.true_and,Bool.false_or,cu,fM h0 hk h62,bc,dt (show k - 1<l.length by omega),i7,uQ]
   cases Op.bytesLess (l[k-1]'(by omega)).toList l[k].toList <;> rfl
  simp only [h0,decide_false,Bool.and_false,iO,bc,Bool.not_true,Bool.false_or,Bool.false_and,bv,Bool.not_false,Bool.true_and,Bool.true_or,Bool.or_false];rfl
 rw [mP]
 cases (l.all mL&&kK i7 l) <;> rfl
theorem Au (l:List Zh) (hl:l.length≤140737488355328) (hr:∀ x∈l,RFOk x):dO l=some (rulesE l):=by
 unfold dO rulesE
 have h62:l.length≤4611686018427387904:=by omega
 refine (bD (l:=l) h62 (fun k x=>(mu l k x).map .inr) (.inl ()) (fun k hk=>?_) (by simp only [cN,bv])).trans ?_
 ·simp only [gY hk,bL,aQ hk,bc,show ∀ s,dW s=some (cQ s) from fun _=>rfl,BG,bM hk h62,mu,A8]
  cases hw:(cQ l[k].Prefix == 0)
  ·have h2:=oo _ (hr _ (List.getElem_mem hk)).rule (hr _ (List.getElem_mem hk)).deep
   by_cases h0:0<k
   ·simp only [h0,decide_true,Bool.true_and,cu,fM h0 hk h62,bc,dt (show k - 1<l.length by omega),i7,uQ,Bool.not_false,bL,bv]
    cases Op.bytesLess (l[k-1]'(by omega)).Prefix.toList l[k].Prefix.toList
    ·rfl
    simp only [Bool.not_true,bv]
    rw [h2]
    simp only [bne]
    cases hz:(kF l[k].Rule == 0) <;> simp [hz,ra]
   simp only [h0,decide_false,Bool.false_and,iO,bc,bv,Bool.not_false,bL]
   rw [h2]
   simp only [bne]
   cases hz:(kF l[k].Rule == 0) <;> simp [hz,ra]
  rfl
 have key:∀ (g:Nat→Zh→Option Int) (m:List Zh) (i:Nat),bT (fun k x=>(g k x).map (Sum.inr:Int→Unit⊕Int)) m i=(bT g m i).map Sum.inr:=by
  intro g m
  induction m with
  | nil=>intro i;rfl
  | cons x m ih=>intro i;rw [bT,bT];cases g i x with | none=>exact ih _ | some t=>rfl
 rw [key]
 cases bT (mu l) l 0 <;> rfl
theorem j8 {α T U:Type} (f:T→U) (g:Nat→α→Option T):∀ (m:List α) (i:Nat),bT (fun k x=>(g k x).map f) m i=(bT g m i).map f
 | [],_=>rfl
 | x::m,i=>by rw [bT,bT];cases g i x with | none=>exact j8 f g m _ | some t=>rfl
theorem Av (l:List Zb) (hl:ASOk l):cY l=some (sB l):=by
 unfold cY sB
 have h62:l.length≤4611686018427387904:=by have:=hl.len;omega
 have i1:decide ((8:Int)<(l.length:Int)) = !decide (l.length≤8):=by rw [← decide_not];exact decide_eq_decide.2 (by omega)
 rw [i1]
 cases decide (l.length≤8)
 ·rfl
 simp only [Bool.not_true,bv,bL]
 refine (bD (l:=l) h62 (fun k x=>(uE l k x).map .inr) (.inl ()) (fun k hk=>?_) (by simp only [cN,bv])).trans ?_
 ·have ha:=hl.all _ (List.getElem_mem hk)
  simp only [gY hk,bL,aQ hk,bc,BG,bM hk h62,uE]
  have j1:decide ((12:Int)<(l[k].Parties.length:Int))=decide (12<l[k].Parties.length):=decide_eq_decide.2 (by omega)
  have j2:decide ((12:Int)<(l[k].Rules.length:Int))=decide (12<l[k].Rules.length):=decide_eq_decide.2 (by omega)
  rw [yS _ ha.par,Au _ ha.len ha.rules,j1,j2]
  cases (decide (l[k].ID<1)||decide (1000<l[k].ID)||decide (l[k].Kind<1)||decide (3<l[k].Kind))
  ·by_cases h0:0<k
   ·simp only [h0,decide_true,Bool.true_and,cu,fM h0 hk h62,bc,dt (show k - 1<l.length by omega),bv]
    cases decide (l[k].ID≤(l[k-1]'(by omega)).ID)
    ·cases (decide (12<l[k].Parties.length)||decide (12<l[k].Rules.length))
     ·cases jb l[k].Parties
      ·rfl
      simp only [bv,bL,Bool.not_true,bne]
      cases hz:(rulesE l[k].Rules == 0) <;> simp [hz,ra]
     rfl
    rfl
   simp only [h0,decide_false,Bool.false_and,iO,bc,bv]
   cases (decide (12<l[k].Parties.length)||decide (12<l[k].Rules.length))
   ·cases jb l[k].Parties
    ·rfl
    simp only [bv,bL,Bool.not_true,bne]
    cases hz:(rulesE l[k].Rules == 0) <;> simp [hz,ra]
   rfl
  rfl
 rw [j8]
 cases bT (uE l) l 0 <;> rfl
theorem ref_agr (l:List Zb) (hl:ASOk l):fK l=some (sB l):=by
  unfold fK sB
  have h62:l.length≤4611686018427387904:=by have:=hl.len;omega
  have i1:decide ((8:Int)<(l.length:Int)) = !decide (l.length≤8):=by rw [← decide_not];exact decide_eq_decide.2 (by omega)
  rw [i1]
  cases decide (l.length≤8)
  · rfl
  simp only [Bool.not_true,bv,bL]
  refine (bD (l:=l) h62 (fun k x=>(uE l k x).map .inr) (.inl ()) (fun k hk=>?_) (by simp only [cN,bv])).trans ?_
  · have ha:=hl.all _ (List.getElem_mem hk)
    simp only [gY hk,bL,aQ hk,bc,BG,bM hk h62,uE]
    have j1:decide ((12:Int)<(l[k].Parties.length:Int))=decide (12<l[k].Parties.length):=decide_eq_decide.2 (by omega)
    have j2:decide ((12:Int)<(l[k].Rules.length:Int))=decide (12<l[k].Rules.length):=decide_eq_decide.2 (by omega)
    rw [j1,j2]
    have tail:(Option.bind (aT (S:=Int) (T:=(Unit)⊕(Int⊕(Unit⊕Int))) (fun v12=>cond (decide (v12<(l[k].Parties.length:Int))) (Option.bind (idx l[k].Parties v12) (fun m16=>Option.bind (eg m16) (fun x17=>Option.bind (gd ((!(!x17))&&(decide (0<v12))) (idx l[k].Parties (IntKind.i64.wrap (v12 - 1)))) (fun m18=>Option.bind (gd ((!(!x17))&&(decide (0<v12))) (idx l[k].Parties v12)) (fun m19=>cond ((!x17)||((decide (0<v12))&&(!Op.bytesLess m18.toList m19.toList))) (some (.inr (.inr (.inr (.inr 1))))) (some (.inl (IntKind.i64.wrap (v12+1))))))))) (some (.inr (.inl ())))) FUEL 0)
        (fun q=>match q with
          | .inl _=>Option.bind (aT (S:=Int) (T:=(Unit)⊕(Int⊕(Unit⊕Int))) (fun v21=>cond (decide (v21<(l[k].Rules.length:Int))) (Option.bind (idx l[k].Rules v21) (fun m25=>Option.bind (fD m25.Prefix) (fun x26=>cond (x26 == 0) (some (.inr (.inr (.inr (.inr 1))))) (Option.bind (gd (decide (0<v21)) (idx l[k].Rules (IntKind.i64.wrap (v21 - 1)))) (fun m28=>Option.bind (gd (decide (0<v21)) (idx l[k].Rules v21)) (fun m29=>cond ((decide (0<v21))&&(!Op.bytesLess m28.Prefix.toList m29.Prefix.toList)) (some (.inr (.inr (.inr (.inr 9))))) (Option.bind (idx l[k].Rules v21) (fun m31=>Option.bind (ll m31.Rule) (fun x32=>cond (x32 != 0) (some (.inr (.inr (.inr (.inr x32))))) (some (.inl (IntKind.i64.wrap (v21+1))))))))))))) (some (.inr (.inl ())))) FUEL 0) (fun q=>match q with | .inl _=>some (.inl ((k+1:Nat):Int)) | .inr e=>some e)
          | .inr e=>some e):Option (Int⊕(Unit⊕Int)))=some (ra k ((cond (jb l[k].Parties) (cond (rulesE l[k].Rules == 0) none (some (rulesE l[k].Rules))) (some 1)).map .inr)):=by
      obtain ⟨hp,hps⟩:=ha.par
      have hq:=ha.len;have hqr:=ha.rules
      generalize l[k].Parties=P at hp hps
      generalize l[k].Rules=R at hq hqr
      have hP:P.length≤4611686018427387904:=by omega
      have hR:R.length≤4611686018427387904:=by omega
      refine (bD (l:=P) hP (fun k x=>cond (nw mL P k x) none (some (.inr (.inr (.inr 1))))) (.inl ()) (fun k hk=>?_) (by simp only [cN,bv])).trans ?_
      · simp only [gY hk,bL,aQ hk,bc,nD,BG,bM hk hP,nw]
        cases hw:mL P[k]
        · rfl
        by_cases h0:0<k
        · simp only [h0,decide_true,Bool.not_true,Bool.not_false,Bool.and_true,Bool.true_and,Bool.false_or,cu,fM h0 hk hP,bc,dt (show k - 1<P.length by omega),i7]
          cases Op.bytesLess (P[k-1]'(by omega)).toList P[k].toList <;> rfl
        simp only [h0,decide_false,Bool.and_false,iO,bc,Bool.not_true,Bool.false_or,Bool.false_and,bv,Bool.not_false,Bool.true_and,Bool.true_or,Bool.or_false];rfl
      rw [mP]
      unfold jb
      cases (P.all mL&&kK i7 P)
      · rfl
      simp only [bL,Option.getD_none]
      refine (bD (l:=R) hR (fun k x=>(mu R k x).map fun e=>.inr (.inr (.inr e))) (.inl ()) (fun k hk=>?_) (by simp only [cN,bv])).trans ?_
      · simp only [gY hk,bL,aQ hk,bc,tz _ (hqr _ (List.getElem_mem hk)).pre,BG,bM hk hR,mu,A8]
        cases hw:(cQ R[k].Prefix == 0)
        · have h2:=FY _ (hqr _ (List.getElem_mem hk)).rule (hqr _ (List.getElem_mem hk)).deep
          by_cases h0:0<k
          · simp only [h0,decide_true,Bool.true_and,cu,fM h0 hk hR,bc,dt (show k - 1<R.length by omega),i7,Bool.not_false,bL,bv]
            cases Op.bytesLess (R[k-1]'(by omega)).Prefix.toList R[k].Prefix.toList
            · rfl
            simp only [Bool.not_true,bv]
            rw [h2]
            simp only [bne]
            cases hz:(kF R[k].Rule == 0) <;> simp [hz,ra]
          simp only [h0,decide_false,Bool.false_and,iO,bc,bv,Bool.not_false,bL]
          rw [h2]
          simp only [bne]
          cases hz:(kF R[k].Rule == 0) <;> simp [hz,ra]
        rfl
      rw [j8]
      unfold rulesE
      have hne:∀ e,bT (mu R) R 0=some e→(e == 0)=false:=by
        have:∀ (m:List Zh) (i:Nat) (e:Int),bT (mu R) m i=some e→(e == 0)=false:=by
          intro m
          induction m with
          | nil=>intro i e h;cases h
          | cons x m ih =>
            intro i e h
            rw [bT] at h
            cases hg:mu R i x with
            | none=>rw [hg] at h;exact ih _ _ h
            | some t =>
              rw [hg] at h;injection h with h;subst h
              unfold mu at hg
              cases hb:A8 x.Prefix
              · rw [hb] at hg;injection hg with hg;subst hg;rfl
              rw [hb] at hg
              cases h9:(decide (0<i) && !i7 (R.getD (i - 1) x).Prefix x.Prefix)
              · rw [h9] at hg
                cases hz:(kF x.Rule == 0)
                · rw [hz] at hg;injection hg with hg;subst hg;exact hz
                rw [hz] at hg;cases hg
              rw [h9] at hg;injection hg with hg;subst hg;rfl
        exact this R 0
      cases hf:bT (mu R) R 0 with
      | none=>rfl
      | some e=>simp [hne e hf,ra]
    cases (decide (l[k].ID<1)||decide (1000<l[k].ID)||decide (l[k].Kind<1)||decide (3<l[k].Kind))
    · by_cases h0:0<k
      · simp only [h0,decide_true,Bool.true_and,cu,fM h0 hk h62,bc,dt (show k - 1<l.length by omega),bv]
        cases decide (l[k].ID≤(l[k-1]'(by omega)).ID)
        · cases (decide (12<l[k].Parties.length)||decide (12<l[k].Rules.length))
          · exact tail
          rfl
        rfl
      simp only [h0,decide_false,Bool.false_and,iO,bc,bv]
      cases (decide (12<l[k].Parties.length)||decide (12<l[k].Rules.length))
      · exact tail
      rfl
    rfl
  rw [j8]
  cases bT (uE l) l 0 <;> rfl
def Y {α:Type} (x:Option α) (P:α→Prop):Prop:=∃ a,x=some a∧P a
section
variable {α β S T:Type} {x y:Option α} {P P':α→Prop} {Q:β→Prop} {f:α→Option β} {a:α} {c:Bool}
theorem Y.bind (h:Y x P) (k:∀ a,P a→Y (f a) Q):Y (x.bind f) Q:=by
 obtain ⟨a,h1,h2⟩:=h;rw [h1];exact k a h2
theorem Y.ret (h:P a):Y (some a) P:=⟨a,rfl,h⟩
theorem Y.mono (h:Y x P) (k:∀ a,P a→P' a):Y x P':=by obtain ⟨a,h1,h2⟩:=h;exact ⟨a,h1,k a h2⟩
theorem Y.cond (h:c=true→Y x P) (k:c=false→Y y P):Y (cond c x y) P:=by cases c;exact k rfl;exact h rfl
theorem Y.eq {r:α} (h:x=some r) (k:Y (f r) Q):Y (x.bind f) Q:=by rw [h];exact k
theorem Y.loop {body:S→Option (S⊕T)} {R:T→Prop} {s:S} (I:S→Prop) (μ:S→Nat) (h0:I s) (hm:μ s≤1267650600228229401496703205000) (step:∀ s,I s→Y (body s) (fun o=>match o with | .inl s'=>I s'∧μ s'<μ s | .inr t=>R t)):Y (aT body FUEL s) R:=by
 obtain ⟨t,h1,h2⟩:=mO (body:=body) I μ R (fun s hs=>by
  obtain ⟨o,k1,k2⟩:=step s hs
  cases o with
  | inl s'=>exact .inl ⟨s',k1,k2⟩
  | inr t=>exact .inr ⟨t,k1,k2⟩) FUEL s h0 (jv hm)
 exact ⟨t,h1,h2⟩
theorem Y.idx {xs:List α} {i:Int} {n:Nat} (h:i=(n:Int)) (hn:n<xs.length) (k:Y (f xs[n]) Q):Y ((idx xs i).bind f) Q:=by subst h;rw [aQ hn];exact k
theorem Y.gdp [Inhabited α] {z:Option (α×β)} {m:β} {R:α×β→Prop} (h:c=true→Y z R) (k:c=false→R (default,m)):Y (gdp c z m) R:=by
 cases c
 ·exact ⟨_,rfl,k rfl⟩
 exact h rfl
end
theorem DT (a n:Int) (h1:1≤n) (h2:n≤4611686018427387904):∃ r,lI a n=some r∧0≤r∧r<n:=by
 have hl:=Int.tmod_lt_of_pos a (show 0<n by omega)
 have hl2:=Int.tmod_lt_of_pos (-a) (show 0<n by omega)
 rw [Int.neg_tmod] at hl2
 unfold lI nz lb
 rw [if_neg (by omega),cM (by omega) (by omega)]
 exact ⟨_,rfl,Int.tmod_nonneg _ (by omega),Int.tmod_lt_of_pos _ (by omega)⟩
def SOK (p:Zj):Prop:=0≤p.I∧p.I≤p.L.length∧p.L.length≤1000000000000000
theorem next_ok {p:Zj} (hp:SOK p) (n:Int) (h1:1≤n) (h2:n≤4611686018427387904):∃ r q,aV p n=some (r,q)∧0≤r∧r<n∧SOK q:=by
 obtain ⟨a1,a2,a3⟩:=hp
 unfold aV
 by_cases h:(p.L.length:Int)≤p.I
 ·rw [det h];exact ⟨_,_,rfl,by omega,by omega,a1,a2,a3⟩
 rw [cb h,cM (r:=p.I+1) (by omega) (by omega),cM (by omega) (by omega)]
 simp only [bv]
 have e:idx p.L (p.I+1 - 1)=some (p.L[p.I.toNat]'(by omega)):=by
  unfold idx;rw [if_pos (by omega)]
  have:(p.I+1 - 1).toNat=p.I.toNat:=by omega
  rw [this];exact List.getElem?_eq_getElem _
 rw [pA e]
 obtain ⟨r,h3,h4,h5⟩:=DT (p.L[p.I.toNat]'(by omega)) n h1 h2
 rw [pA h3]
 exact ⟨_,_,rfl,h4,h5,by simp only;omega,by simp only;omega,a3⟩
theorem cut_ok (l:List Int) (n:Int) (h:0≤n) (h2:n≤1000):∃ m,na l n=some m∧(m.length:Int)≤n:=by
 unfold na
 by_cases h1:n<(l.length:Int)
 ·rw [det h1]
  have e:sub l 0 n=some ((l.take n.toNat).drop 0):=by unfold sub;rw [if_pos (by omega)];rfl
  simp only [bL];rw [pA e];exact ⟨_,rfl,by simp;omega⟩
 rw [cb h1];exact ⟨_,rfl,by omega⟩
theorem eV {p:Zj} (hp:SOK p) (n:Int) (h1:1≤n) (h2:n≤4611686018427387904):Y (aV p n) (fun r=>0≤r.1∧r.1<n∧SOK r.2):=by
 obtain ⟨r,q,h3,h4,h5,h6⟩:=next_ok hp n h1 h2;exact ⟨(r,q),h3,h4,h5,h6⟩
theorem cut_Y (l:List Int) (n:Int) (h:0≤n) (h2:n≤1000):Y (na l n) (fun m=>SOK ⟨m,0⟩):=by
 obtain ⟨m,h3,h4⟩:=cut_ok l n h h2
 exact ⟨m,h3,by dsimp only;omega,by dsimp only;omega,by dsimp only;omega⟩
theorem FZ {p:Zj} (hp:SOK p):Y (fI p) (fun r=>FW r.1=true∧SOK r.2):=by
 unfold fI
 refine (eV hp 4 (by omega) (by omega)).bind fun a ⟨h1,h2,h3⟩=>?_
 refine Y.cond (fun _=>?_) (fun _=>?_)
 ·refine (eV h3 101 (by omega) (by omega)).bind fun b ⟨k1,k2,k3⟩=>Y.ret ⟨?_,k3⟩
  rw [cM (by omega) (by omega)];simp only [FW,Bool.and_eq_true,decide_eq_true_eq];omega
 refine (eV h3 1000001 (by omega) (by omega)).bind fun b ⟨k1,k2,k3⟩=>Y.ret ⟨?_,k3⟩
 simp only [FW,Bool.and_eq_true,decide_eq_true_eq];omega
structure Good (r:Zd) (m:Nat):Prop where
 ok:ROk r
 valid:dG r=true
 size:pV r≤m
theorem Aw:StrsOk []:=⟨by simp,by simp⟩
theorem F0 {r:Zd} (h1:StrsOk r.Except) (h2:r.Name.size≤140737488355328) (h3:r.Args=[]):ROk r:=⟨r,h1,h2,by rw [h3];simp,by rw [h3];simp⟩
theorem F1 {r:Zd} (h:r.Args=[]):pV r=1:=by rw [qy,h];rfl
def o8:Nat→Nat
 | 0=>1
 | d+1=>1+3*o8 d
theorem F2 (d:Nat):1≤o8 d:=by cases d <;> simp [o8]
theorem CP {m:Nat}:∀ {l:List Zd},(∀ a∈l,pV a≤m)→nQ l≤l.length*m
 | [],_=>by rw [nQ];omega
 | a::l,h=>by
  rw [nQ,List.length_cons,Nat.add_mul,Nat.one_mul]
  have h1:=h a (by simp);have h2:=CP (l:=l) fun b hb=>h b (by simp [hb]);omega
theorem yT {but:Int} (hb:but=0∨but=5∨but=6) {r:Zd} {q:Zj} {m:Nat} (hm:1≤m) (hq:SOK q) (h1:StrsOk r.Except) (h2:r.Name.size≤140737488355328) (h3:r.Args=[]) (hk:1≤r.Kind∧r.Kind≤4) (hv:dG r=true):Good r m∧r.Kind≠but∧SOK q :=
 ⟨⟨F0 h1 h2 h3,hv,by rw [F1 h3];exact hm⟩,by omega,hq⟩
theorem xM {d n:Nat} {p:Zj} {but:Int} (hp:SOK p) (hb:but=0∨but=5∨but=6) (hn:d<n) (hd:d≤10)
    (ih:∀ d',d=d'+1→∀ (q:Zj) (but':Int),SOK q→(but'=0∨but'=5∨but'=6)→Y (eR (n - 1) q but' (d':Int)) (fun r=>Good r.1 (o8 d')∧r.1.Kind≠but'∧SOK r.2)) :
    Y (eR n p but (d:Int)) (fun r=>Good r.1 (o8 d)∧r.1.Kind≠but∧SOK r.2):=by
  obtain ⟨n,rfl⟩:∃ m,n=m+1:=⟨n - 1,by omega⟩
  rw [Nat.add_sub_cancel] at ih
  show Y (fO (eR n) p but (d:Int)) _
  unfold fO
  refine (eV hp 8 (by omega) (by omega)).bind fun a ⟨h1,h2,h3⟩=>?_
  refine Y.cond (fun hc=>?_) (fun hc=>?_)
  · simp only [Bool.and_eq_true,decide_eq_true_eq] at hc
    obtain ⟨d',rfl⟩:∃ d',d=d'+1:=⟨d - 1,by omega⟩
    have ih:=ih d' rfl
    have hm1:0≤Int.tmod a.1 2:=Int.tmod_nonneg _ (by omega)
    have hm2:Int.tmod a.1 2<2:=Int.tmod_lt_of_pos _ (by omega)
    refine Y.bind (P:=fun k=>(k=5∨k=6)∧k≠but) ?_ fun k ⟨hk,hkb⟩=>?_
    · rw [cM (by omega) (by omega)]
      refine Y.cond (fun hc=>Y.ret ?_) (fun hc=>Y.ret ?_)
      · have:=eq_of_beq hc;rw [cM (by omega) (by omega)];omega
      have:¬ 5+Int.tmod a.1 2=but:=by intro h;rw [h] at hc;simp at hc
      omega
    refine (eV h3 2 (by omega) (by omega)).bind fun b ⟨k1,k2,k3⟩=>?_
    rw [cM (r:=2+b.1) (by omega) (by omega)]
    refine Y.bind (P:=fun t:List Int×Int×List Zd=>SOK ⟨t.1,t.2.1⟩∧(2≤t.2.2.length∧t.2.2.length≤3)∧∀ x∈t.2.2,Good x (o8 d')∧x.Kind≠k) ?_ fun t ⟨t1,t2,t3⟩=>?_
    · refine Y.loop (fun s:Int×List Int×Int×List Zd=>(0≤s.1∧s.1+s.2.2.2.length=2+b.1)∧SOK ⟨s.2.1,s.2.2.1⟩∧∀ x∈s.2.2.2,Good x (o8 d')∧x.Kind≠k) (fun s=>s.1.toNat) ⟨⟨by dsimp only;omega,by simp⟩,k3,by simp⟩ (by dsimp only;omega) fun s hs=>?_
      obtain ⟨v,l,i,m⟩:=s
      obtain ⟨⟨s1,s2⟩,s3,s4⟩:=hs
      dsimp only at s1 s2 s3 s4 ⊢
      refine Y.cond (fun hc=>?_) (fun hc=>Y.ret ⟨s3,?_,s4⟩)
      · have hc:=of_decide_eq_true hc
        rw [cM (by omega) (by omega),show ((d'+1:Nat):Int) - 1=(d':Int) by omega]
        refine (ih _ k s3 (by omega)).bind fun x ⟨x1,x2,x3⟩=>?_
        rw [df (by simp;omega) (by simp;omega),bc,cM (by omega) (by omega)]
        refine Y.ret ⟨⟨⟨by dsimp only;omega,by simp;omega⟩,x3,fun z hz=>?_⟩,by dsimp only;omega⟩
        rcases List.mem_append.1 hz with hz | hz
        · exact s4 z hz
        rw [List.mem_singleton.1 hz];exact ⟨x1,x2⟩
      have hc:=of_decide_eq_false hc
      dsimp only;omega
    obtain ⟨l,i,m⟩:=t
    dsimp only at t1 t2 t3 ⊢
    refine Y.ret ⟨⟨⟨_,Aw,by simp,by dsimp only;omega,fun z hz=>(t3 z hz).1.ok⟩,?_,?_⟩,hkb,t1⟩
    · rw [gV]
      have e1:(k == 5||k == 6)=true:=by rcases hk with rfl | rfl <;> rfl
      have e2:kE ⟨k,0,[],0,0,ByteArray.empty,m⟩=true:=by rcases hk with rfl | rfl <;> rfl
      rw [e2]
      simp only [e1,bL,Bool.true_and,Bool.and_eq_true,decide_eq_true_eq,List.all_eq_true,Bool.not_eq_true',beq_eq_false_iff_ne,ne_eq]
      exact ⟨by omega,fun z hz=>⟨(t3 z hz).2,(t3 z hz).1.valid⟩⟩
    rw [qy]
    have:=CP fun z hz=>(t3 z hz).1.size
    have h3:m.length*o8 d'≤3*o8 d':=Nat.mul_le_mul_right _ t2.2
    dsimp only [o8];omega
  have hpos:=F2 d
  refine Y.bind (P:=fun q:(List Int×Int)⊕(Zd×Zj)=>match q with | .inl s=>SOK ⟨s.1,s.2⟩ | .inr r=>Good r.1 (o8 d)∧r.1.Kind≠but∧SOK r.2) ?_ fun q hq=>?_
  · refine Y.cond (fun _=>?_) fun _=>Y.cond (fun _=>?_) fun _=>Y.cond (fun _=>?_) fun _=>Y.ret h3
    · refine (FZ h3).bind fun b ⟨k1,k2⟩=>Y.ret (yT hb hpos k2 Aw (by simp) rfl ⟨by simp,by simp⟩ ?_)
      rw [gV];simp only [kE,j7,k1];rfl
    · refine (eV h3 5 (by omega) (by omega)).bind fun b ⟨k1,k2,k3⟩=>?_
      obtain ⟨j,hj⟩:∃ j:Nat,b.1=(j:Int):=⟨b.1.toNat,by omega⟩
      have hj5:j<5:=by omega
      refine Y.idx hj hj5 (Y.ret ?_)
      have hw:∀ j:Nat,(h:j<5)→hU [(⟨#[97,110,100]⟩:ByteArray),(⟨#[99,117,116]⟩:ByteArray),(⟨#[111,114]⟩:ByteArray),(⟨#[115,101,119]⟩:ByteArray),(⟨#[115,112,105,110]⟩:ByteArray)][j]=true:=by
        intro j h
        match j,h with
        | 0,_=>rfl
        | 1,_=>rfl
        | 2,_=>rfl
        | 3,_=>rfl
        | 4,_=>rfl
      have hw2:=hw j hj5
      refine yT hb hpos k3 Aw ?_ rfl ⟨by simp,by simp⟩ ?_
      · have h12:=hw2
        simp only [hU,Bool.and_eq_true,decide_eq_true_eq] at h12
        dsimp only;omega
      rw [gV];simp only [kE,j7,hw2];rfl
    refine (eV h3 3 (by omega) (by omega)).bind fun b ⟨k1,k2,k3⟩=>Y.cond (fun _=>Y.ret (yT hb hpos k3 Aw (by simp) rfl ⟨by simp,by simp⟩ ?_)) fun _=>Y.ret k3
    rw [gV];rfl
  cases q with
  | inr r=>exact Y.ret hq
  | inl s =>
    obtain ⟨l,i⟩:=s
    dsimp only at hq ⊢
    refine (eV hq 3 (by omega) (by omega)).bind fun b ⟨k1,k2,k3⟩=>?_
    refine (eV k3 3 (by omega) (by omega)).bind fun c ⟨c1,c2,c3⟩=>?_
    refine Y.bind (P:=fun t:List Int×Int×List ByteArray=>SOK ⟨t.1,t.2.1⟩∧StrsOk t.2.2∧lq t.2.2=true) ?_ fun t ⟨t1,t2,t3⟩=>?_
    · refine Y.cond (fun _=>?_) fun _=>Y.ret ⟨c3,Aw,rfl⟩
      refine (eV c3 2 (by omega) (by omega)).bind fun e ⟨e1,e2,e3⟩=>?_
      obtain he | he:e.1=0∨e.1=1:=by omega
      · rw [he];exact Y.ret ⟨e3,(show StrsOk [(⟨#[57,52,48,49]⟩:ByteArray),(⟨#[57,53,48,50]⟩:ByteArray)] from ⟨by decide,by decide⟩),(show lq [(⟨#[57,52,48,49]⟩:ByteArray),(⟨#[57,53,48,50]⟩:ByteArray)]=true by kernel_rfl)⟩
      rw [he];exact Y.ret ⟨e3,(show StrsOk [(⟨#[57,53,48,50]⟩:ByteArray)] from ⟨by decide,by decide⟩),(show lq [(⟨#[57,53,48,50]⟩:ByteArray)]=true by kernel_rfl)⟩
    obtain ⟨l2,i2,ex⟩:=t
    dsimp only at t1 t2 t3 ⊢
    refine (eV t1 3 (by omega) (by omega)).bind fun e ⟨e1,e2,e3⟩=>?_
    refine Y.bind (P:=fun t:List Int×Int×Int=>SOK ⟨t.1,t.2.1⟩∧FW t.2.2=true) (Y.cond (fun _=>(FZ e3).bind fun f ⟨f1,f2⟩=>Y.ret ⟨f2,f1⟩) fun _=>Y.ret ⟨e3,rfl⟩) fun u ⟨u1,u2⟩=>?_
    obtain ⟨l3,i3,tol⟩:=u
    dsimp only at u1 u2 ⊢
    refine Y.ret (yT hb hpos u1 t2 (by simp) rfl ⟨by simp,by simp⟩ ?_)
    rw [cM (r:=2*b.1) (by omega) (by omega),cM (by omega) (by omega),gV]
    simp only [kE,j7,t3,u2]
    obtain hb0 | hb0 | hb0:b.1=0∨b.1=1∨b.1=2:=by omega
    · rw [hb0];rfl
    · rw [hb0];rfl
    rw [hb0];rfl
theorem rule_Y (d:Nat):∀ (n:Nat) (p:Zj) (but:Int),d<n→d≤10→SOK p→(but=0∨but=5∨but=6)→Y (eR n p but (d:Int)) (fun r=>Good r.1 (o8 d)∧r.1.Kind≠but∧SOK r.2):=by
  induction d with
  | zero=>exact fun n p but h1 h2 hp hb=>xM hp hb h1 (by omega) (fun d h=>absurd h (by omega))
  | succ d ih=>exact fun n p but h1 h2 hp hb=>xM hp hb h1 (by omega) (fun d' h q but' hq hb'=>by
      obtain rfl:d'=d:=by omega
      exact ih _ q but' (by omega) (by omega) hq hb')
end SX
end Go.Proofs.YtgmbmepakpcpaaaGreatDoor
