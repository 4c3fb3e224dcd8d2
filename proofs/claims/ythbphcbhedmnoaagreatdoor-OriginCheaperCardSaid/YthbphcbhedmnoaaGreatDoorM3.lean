/- A part of the proof: texts of the walk and of the plain laws, merged. No condition. -/
import Derived.Test.YthbphcbhedmnoaaGreatDoorM2
set_option linter.unusedVariables false
set_option linter.unusedSimpArgs false
set_option maxHeartbeats 4000000
set_option maxRecDepth 100000
namespace Go.Proofs.YthbphcbhedmnoaaGreatDoor
namespace SX
open Go
attribute [local irreducible] PWL PWC PWD POpL POpQ PEv PGuardIs PSub PPick PUpd PSplice PFill PLit PF PFV PCall FOk ff dX jL kS gS jM Cov PHolds bf idx app mk gd lb nz lv zC sub kl fm qo q9 gp cD ji rc IntKind.wrap Int.tmod Int.tdiv Op.bytesLess strOfNums
def fw (p0:Zn) (p1:Zn):Option Int:=cond ((decide (p0.Hi<p1.Hi))||((p0.Hi == p1.Hi)&&(decide (p0.Lo<p1.Lo)))) (some (-1)) (cond (Zn.eqb p0 p1) (some (0:Int)) (some (1:Int)))
theorem nc {p0:Zn} {p1:Zn} {r:Int}  (h:fw p0 p1=some r):PF 147 [.agg [pU p0.Hi,pU p0.Lo],.agg [pU p1.Hi,pU p1.Lo]] (pI r):=by
 unfold fw at h
 refine br ?_
 refine eW Tryz.func147 rfl Tryz.ntmps147 Tryz.results147 rfl (aa (aj rfl (bE (cs:=[pU p0.Hi,pU p0.Lo]) rfl rfl (fun b1=>aj rfl (bE (cs:=[pU p1.Hi,pU p1.Lo]) rfl rfl (fun b2=>bA [4] (by kernel_rfl) (bM (gX (bc [1,0,1,0,1,0] (rg 6 19) [(5,pB ((decide (p0.Hi<p1.Hi))||((p0.Hi == p1.Hi)&&(decide (p0.Lo<p1.Lo)))))] (by kernel_rfl) (cg rfl h (fun hc3 h=>?_) fun hc3 h=>?_))))))))))
 ·refine af ?_
  refine fP [(4,pI (-1))] (by kernel_rfl) (iw ?_)
  exact zz r h rfl
 refine af ?_
 refine ap [1,0] [26,27,28] [(25,pB (Zn.eqb p0 p1))] (foeq 2 Zn.eqok249 bL) (by kernel_rfl) (cg rfl h (fun hc4 h=>?_) fun hc4 h=>?_)
 ·refine af ?_
  refine fP [(4,pI 0)] (by kernel_rfl) (iw ?_)
  exact zz r h rfl
 refine ai ?_
 refine aH (bM (fP [(4,pI 1)] (by kernel_rfl) ?_))
 exact zz r h rfl
def dO (p0:Zj):Option ((List ByteArray)×Zj):=(aI p0 32).bind fun x1=>(bf (S:=(List ByteArray)×Int) (T:=((List ByteArray))) (fun (l3,v6)=>cond (decide (v6<5)) (((lv v6).bind fun u20=>cond ((fm .i64 (cD .i64 x1.1 v6) 1) == 1) ((idx [(⟨#[97,110,100]⟩:ByteArray),(⟨#[99,117,116]⟩:ByteArray),(⟨#[111,114]⟩:ByteArray),(⟨#[115,101,119]⟩:ByteArray),(⟨#[115,112,105,110]⟩:ByteArray)] v6).bind fun m24=>(app 16 l3 [m24]).bind fun l27=>some l27) (some l3)).bind fun l18=>some (.inl (l18,(IntKind.i64.wrap (v6+1))))) (some (.inr l3))) FUEL (([]:List ByteArray),0)).bind fun l10=>some (l10,x1.2)
theorem lf {p0:Zj} {b0:Nat} {r:((List ByteArray)×Zj)}  (h:dO p0=some r):PCall 38 [pP b0 0] [PRes.b b0 77 [pL eI p0.L,pI p0.I]] (fun pv ρ'=>pv=pL eS r.1∧ρ'=[PRes.b b0 77 [pL eI r.2.L,pI r.2.I]]):=by
 unfold dO at h
 refine eW Tryz.func38 rfl Tryz.ntmps38 Tryz.results38 rfl (aU [2] (by kernel_rfl) (bM (al [(3,pN)] (by kernel_rfl) (du h fun x1 hx1 h=>aa (am 1 [(6,pP b0 0)] (by kernel_rfl) ?_)))))
 refine aj rfl (aW rfl rfl (ρ1:=[_]) (aF (by exact aC) (List.Perm.refl _)) (aB hx1) ?_);rintro _ _ ⟨rfl,rfl⟩
 refine aM [(4,pI x1.1)] (by kernel_rfl) (dn (al [(5,pI 0)] (by kernel_rfl) (aL (bI 9 1 (ae h fun q12 hq12 h=>?_)))))
 refine az (Y:=(Option Addr×Nat)×((List ByteArray))) (fun ((a8,c9),l10)=>[(3,pO a8 l10.length c9)]) (fun ((a8,c9),l10)=>[PRes.b b0 77 [pL eI x1.2.L,pI x1.2.I],PRes.row a8 l10.length c9 9 1 (List.map eS l10)]) (fun ((a8,c9),l10)=>q12=l10) ?_ ?_
 ·refine aJ ?_
  refine aK (Y:=Option Addr×Nat) (S:=(List ByteArray)×Int) _ hq12 (fun (a4,c5) (l3,v6)=>[(3,pO a4 l3.length c5),(4,pI x1.1),(5,pI v6)]) (fun (a4,c5) (l3,v6)=>[PRes.b b0 77 [pL eI x1.2.L,pI x1.2.I],PRes.row a4 l3.length c5 9 1 (List.map eS l3)]) (none,0) (zH rfl) (aY (ak aC) dM) ?_
  rintro ⟨a4,c5⟩ ⟨l3,v6⟩ o τ hb11;(try dsimp only at hb11);dsimp only [aD]
  refine af (af (ah [8] [(9,pB (decide (v6<5)))] (by kernel_rfl) (cg rfl hb11 (fun hc14 hb11=>?_) fun hc14 hb11=>?_)))
  ·refine ai ?_
   refine du hb11 fun q19 hq19 hb11=>?_
   refine az (Y:=(Option Addr×Nat)×((List ByteArray))) (fun ((a16,c17),l18)=>[(3,pO a16 l18.length c17),(4,pI x1.1),(5,pI v6)]) (fun ((a16,c17),l18)=>[PRes.b b0 77 [pL eI x1.2.L,pI x1.2.I],PRes.row a16 l18.length c17 9 1 (List.map eS l18)]) (fun ((a16,c17),l18)=>q19=l18) ?_ ?_
   ·skip
    refine gX (ae hq19 fun u20 hu20 hq19=>ap [] [12,13,14,15] [(16,pB ((fm .i64 (cD .i64 x1.1 v6) 1) == 1))] (uk 2 hu20 bL) (by kernel_rfl) (cg rfl hq19 (fun hc21 hq19=>?_) fun hc21 hq19=>?_))
    ·refine aa ?_
     refine am 1 [(17,pO a4 l3.length c5)] (by kernel_rfl) (aj rfl (bG rfl rfl rfl rfl rfl (fL rfl (fL rfl (fL rfl (fL rfl (fL rfl jr))))) rfl rfl rfl rfl (fun b22=>ae hq19 fun m24 hm24 hq19=>am 1 [(19,pI v6)] (by kernel_rfl) (bD rfl rfl rfl (dB (enc:=eS) (xs:=[(⟨#[97,110,100]⟩:ByteArray),(⟨#[99,117,116]⟩:ByteArray),(⟨#[111,114]⟩:ByteArray),(⟨#[115,101,119]⟩:ByteArray),(⟨#[115,112,105,110]⟩:ByteArray)]) rfl rfl rfl (.p rfl) fF (.p rfl) (fun _=>hm24)) (bD rfl rfl rfl (ca (sz:=1) (p:=pS m24) (enc:=eS) (xs:=[(⟨#[97,110,100]⟩:ByteArray),(⟨#[99,117,116]⟩:ByteArray),(⟨#[111,114]⟩:ByteArray),(⟨#[115,101,119]⟩:ByteArray),(⟨#[115,112,105,110]⟩:ByteArray)]) (a:=(some ⟨b22,0,none⟩)) v6 0 m24 rfl (.p rfl) rfl fF (fun _=>hm24) rfl) (aj rfl (bG rfl rfl rfl rfl rfl (fL rfl jr) rfl rfl rfl rfl (fun b25=>ae hq19 fun l27 hl27 hq19=>?_))))))))
     refine aj rfl (bP (enc:=eS) rfl rfl rfl rfl rfl rfl rfl rfl rfl fF (by exact ak (ak (ak aC))) hl27 (fun a28 c29=>?_))
     refine aM [(3,pO a28 l27.length c29)] (by kernel_rfl) (aH ?_)
     obtain rfl:=osi hq19
     exact aG ((a28,c29),l27) (zH rfl) (aY (ak (ak (ak aC))) dM) rfl
    refine ai ?_
    refine aH ?_
    obtain rfl:=osi hq19
    exact aG ((a4,c5),l3) (zH rfl) py rfl
   rintro ⟨⟨a16,c17⟩,l18⟩ τ hz;(try dsimp only at hz);subst q19;(try dsimp only at hb11);dsimp only [aD]
   refine ah [10,11] [(5,pI (IntKind.i64.wrap (v6+1)))] (by kernel_rfl) ?_
   exact bd hb11 (a16,c17) (zH rfl) py
  refine aR ?_
  refine av (an hb11 (fun ht=>ar rfl ?_))
  exact aG ((a4,c5),l3) (xj rfl) py ht.symm
 rintro ⟨⟨a8,c9⟩,l10⟩ τ hz;(try dsimp only at hz);subst q12;(try dsimp only at h);dsimp only [aD]
 refine af (ah [24] [(2,pO a8 l10.length c9)] (by kernel_rfl) (aL ?_))
 refine fk (enc:=eS) (xs:=l10) 2 rfl (by exact ak aC) ?_
 refine bS ?_
 obtain rfl:=osi h
 exact aO (dh (aP rfl)) (aY (ak aC) bX) ⟨rfl,rfl⟩
def lH (p0:(List Int)):Option (List Zb):=(ku p0 300).bind fun x1=>(aI (⟨x1,0⟩:Zj) 10).bind fun x3=>(bf (S:=(List Zb)×Int×(List Int)×Int) (T:=((List Zb))) (fun (l5,v8,l9,v10)=>cond (decide (v8≤(IntKind.i64.wrap (1+x3.1)))) ((aI (⟨l9,v10⟩:Zj) 2).bind fun x19=>(fR x19.2 (IntKind.i64.wrap (6+(IntKind.i64.wrap (2*x19.1))))).bind fun x20=>(fS).bind fun x21=>(aI x20.2 4).bind fun x22=>(idx x21 x22.1).bind fun m23=>(aI x22.2 200).bind fun x24=>(dO x24.2).bind fun x25=>(aI x25.2 4).bind fun x26=>(aI x26.2 1024).bind fun x28=>(bf (S:=Int×(List Int)×Int×(List Zf)) (T:=((List Int)×Int×(List Zf))) (fun (v29,l30,v31,l33)=>cond (((decide (v29≤(IntKind.i64.wrap (1+x3.1))))&&(decide (((l33.length:Nat):Int)<4)))&&(!(x26.1 == 1))) (((lv (IntKind.i64.wrap (v29 - 1))).bind fun u55=>(gdp (((fm .i64 (cD .i64 x28.1 (IntKind.i64.wrap (v29 - 1))) 1) == 1)&&(!(decide (v29<v8)))) (aI (⟨l30,v31⟩:Zj) 3) (⟨l30,v31⟩:Zj)).bind fun x56=>cond (((fm .i64 (cD .i64 x28.1 (IntKind.i64.wrap (v29 - 1))) 1) == 1)&&((decide (v29<v8))||(x56.1 == 1))) ((aI x56.2 100).bind fun x58=>(app 16 l33 [(⟨(IntKind.i64.wrap (3*v29)),x58.1⟩:Zf)]).bind fun l61=>some (x58.2.L,x58.2.I,l61)) (some (x56.2.L,x56.2.I,l33))).bind fun (l48,v49,l53)=>some (.inl ((IntKind.i64.wrap (v29+1)),l48,v49,l53))) (some (.inr (l30,v31,l33)))) FUEL (1,x28.2.L,x28.2.I,([]:List Zf))).bind fun (l37,v38,l42)=>(app 104 l5 [(⟨(IntKind.i64.wrap (3*v8)),x20.1,m23,(IntKind.i64.wrap (1+x24.1)),(x26.1 == 1),x25.1,l42⟩:Zb)]).bind fun l68=>some (.inl (l68,(IntKind.i64.wrap (v8+1)),l37,v38))) (some (.inr l5))) FUEL (([]:List Zb),1,x3.2.L,x3.2.I)).bind fun l14=>some l14
theorem uv {p0:(List Int)} {r:(List Zb)}  (h:lH p0=some r):PCall 14 [pL eI p0] [] (fun pv ρ'=>∃ a c,pv=.v (.slice a r.length c)∧ρ'=[PRes.row a r.length c 52 7 (List.map Zb.enc r)]):=by
 unfold lH at h
 refine eW Tryz.func14 rfl Tryz.ntmps14 Tryz.results14 rfl (aU [2] (by kernel_rfl) (du h fun x1 hx1 h=>aa (bm 3 [] [10,11] [(12,.agg [pL eI x1,pI 0])] (bR 1 (pD hx1) bL) (by kernel_rfl) (aj rfl (bE (cs:=[pL eI x1,pI 0]) rfl rfl (fun b2=>aM [(3,pP b2 0)] (by kernel_rfl) (du h fun x3 hx3 h=>aa (am 1 [(14,pP b2 0)] (by kernel_rfl) ?_))))))))
 refine aj rfl (aW rfl rfl (ρ1:=[_]) (aF (by exact aC) (List.Perm.refl _)) (aB hx3) ?_);rintro _ _ ⟨rfl,rfl⟩
 refine fu [16] [(4,pI (IntKind.i64.wrap (1+x3.1)))] (by kernel_rfl) (bM (al [(5,pN)] (by kernel_rfl) (dn (al [(6,pI 1)] (by kernel_rfl) (aL (bI 52 7 (ae h fun q16 hq16 h=>?_)))))))
 refine az (Y:=(Option Addr×Nat)×((List Zb))) (fun ((a12,c13),l14)=>[(5,pO a12 l14.length c13)]) (fun ((a12,c13),l14)=>[PRes.row a12 l14.length c13 52 7 (List.map Zb.enc l14)]) (fun ((a12,c13),l14)=>q16=l14) ?_ ?_
 ·refine aJ ?_
  refine aK (Y:=Option Addr×Nat) (S:=(List Zb)×Int×(List Int)×Int) _ hq16 (fun (a6,c7) (l5,v8,l9,v10)=>[(3,pP b2 0),(4,pI (IntKind.i64.wrap (1+x3.1))),(5,pO a6 l5.length c7),(6,pI v8)]) (fun (a6,c7) (l5,v8,l9,v10)=>[PRes.b b2 77 [pL eI l9,pI v10],PRes.row a6 l5.length c7 52 7 (List.map Zb.enc l5)]) (none,0) (jt rfl) (aY (ak aC) dM) ?_
  rintro ⟨a6,c7⟩ ⟨l5,v8,l9,v10⟩ o τ hb15;(try dsimp only at hb15);dsimp only [aD]
  refine af (af (ah [17,18] [(19,pB (decide (v8≤(IntKind.i64.wrap (1+x3.1)))))] (by kernel_rfl) (cg rfl hb15 (fun hc18 hb15=>?_) fun hc18 hb15=>?_)))
  ·refine ai ?_
   refine bM (gX (dg (ρd:=[PRes.b b2 _ _]) [(0,0),(1,0),(2,0),(3,0),(9,0),(13,0),(16,0),(18,0),(4,1),(5,0),(6,0),(7,1),(8,1),(10,1),(11,0),(12,0),(14,1),(15,0),(17,1),(19,1),(20,0),(21,0),(22,2),(23,1)] _ (List.Perm.refl _) (by kernel_rfl) rfl (ae hb15 fun x19 hx19 hb15=>kr 8 [22] [(23,pI (IntKind.i64.wrap (3*v8))),(24,pP b2 0),(25,pP b2 0),(31,pP b2 0),(35,pP b2 0),(38,pP b2 0),(40,pP b2 0)] (by kernel_rfl) ?_)))
   refine mX rfl rfl rfl (aW rfl rfl (ρ1:=[_]) (aF (by exact aC) (List.Perm.refl _)) (aB hx19) ?_);rintro _ _ ⟨rfl,rfl⟩
   refine ae hb15 fun x20 hx20 hb15=>kr 2 [27] [(28,pI (IntKind.i64.wrap (6+(IntKind.i64.wrap (2*x19.1)))))] (by kernel_rfl) ?_
   refine mX rfl rfl rfl (aW rfl rfl (ρ1:=[_]) (aF (by exact aC) (List.Perm.refl _)) (nJ hx20) ?_);rintro _ _ ⟨rfl,rfl⟩
   refine ae hb15 fun x21 hx21 hb15=>ae hb15 fun x22 hx22 hb15=>dH 1 [] [] [(30,pL eS x21)] (bR 0 (iQ hx21) bL) (by kernel_rfl) ?_
   refine mX rfl rfl rfl (aW rfl rfl (ρ1:=[_]) (aF (by exact aC) (List.Perm.refl _)) (aB hx22) ?_);rintro _ _ ⟨rfl,rfl⟩
   refine ae hb15 fun m23 hm23 hb15=>ae hb15 fun x24 hx24 hb15=>dH 2 [] [33] [(34,pS m23)] (fG 0 eS hm23 bL) (by kernel_rfl) ?_
   refine mX rfl rfl rfl (aW rfl rfl (ρ1:=[_]) (aF (by exact aC) (List.Perm.refl _)) (aB hx24) ?_);rintro _ _ ⟨rfl,rfl⟩
   refine ae hb15 fun x25 hx25 hb15=>iP 1 [(37,pI (IntKind.i64.wrap (1+x24.1)))] (by kernel_rfl) ?_
   refine mX rfl rfl rfl (aW rfl rfl (ρ1:=[_]) (aF (by exact aC) (List.Perm.refl _)) (lf hx25) ?_);rintro _ _ ⟨rfl,rfl⟩
   refine ae hb15 fun x26 hx26 hb15=>?_
   refine mX rfl rfl rfl (aW rfl rfl (ρ1:=[_]) (aF (by exact aC) (List.Perm.refl _)) (aB hx26) ?_);rintro _ _ ⟨rfl,rfl⟩
   refine kr 2 [42] [(43,.agg [pI (IntKind.i64.wrap (3*v8)),pS x20.1,pS m23,pI (IntKind.i64.wrap (1+x24.1)),pB (x26.1 == 1),pL eS x25.1,pN])] (by kernel_rfl) (Bj (vC rfl rfl rfl rfl rfl) (fun _=>rfl) rfl (fun b27=>Bi rfl rfl (au (vs:=[pI (IntKind.i64.wrap (3*v8)),pS x20.1,pS m23,pI (IntKind.i64.wrap (1+x24.1)),pB (x26.1 == 1),pL eS x25.1,pN]) rfl rfl rfl rfl rfl cY om (ey (du hb15 fun x28 hx28 hb15=>aa (am 1 [(44,pP b2 0)] (by kernel_rfl) ?_))))))
   refine aj rfl (aW rfl rfl (ρ1:=[_]) (aF (by exact ak aC) (List.Perm.refl _)) (aB hx28) ?_);rintro _ _ ⟨rfl,rfl⟩
   refine aM [(8,pI x28.1)] (by kernel_rfl) (dn (al [(9,pI 1)] (by kernel_rfl) (aL (bI 54 2 (ae hb15 fun q44 hq44 hb15=>?_)))))
   refine az (Y:=(Option Addr×Nat)×((List Int)×Int×(List Zf))) (fun ((a40,c41),(l37,v38,l42))=>[(3,pP b2 0),(4,pI (IntKind.i64.wrap (1+x3.1))),(5,pO a6 l5.length c7),(6,pI v8),(7,pP b27 0)]) (fun ((a40,c41),(l37,v38,l42))=>[PRes.b b2 77 [pL eI l37,pI v38],PRes.b b27 52 [pI (IntKind.i64.wrap (3*v8)),pS x20.1,pS m23,pI (IntKind.i64.wrap (1+x24.1)),pB (x26.1 == 1),pL eS x25.1,pO a40 l42.length c41],PRes.row a6 l5.length c7 52 7 (List.map Zb.enc l5),PRes.row a40 l42.length c41 54 2 (List.map Zf.enc l42)]) (fun ((a40,c41),(l37,v38,l42))=>q44=(l37,v38,l42)) ?_ ?_
   ·refine aJ ?_
    refine aK (Y:=Option Addr×Nat) (S:=Int×(List Int)×Int×(List Zf)) _ hq44 (fun (a34,c35) (v29,l30,v31,l33)=>[(3,pP b2 0),(4,pI (IntKind.i64.wrap (1+x3.1))),(5,pO a6 l5.length c7),(6,pI v8),(7,pP b27 0),(8,pI x28.1),(9,pI v29)]) (fun (a34,c35) (v29,l30,v31,l33)=>[PRes.b b2 77 [pL eI l30,pI v31],PRes.b b27 52 [pI (IntKind.i64.wrap (3*v8)),pS x20.1,pS m23,pI (IntKind.i64.wrap (1+x24.1)),pB (x26.1 == 1),pL eS x25.1,pO a34 l33.length c35],PRes.row a34 l33.length c35 54 2 (List.map Zf.enc l33),PRes.row a6 l5.length c7 52 7 (List.map Zb.enc l5)]) (none,0) (ol rfl) (aY (ak aC) (aY (ak aC) py)) ?_
    rintro ⟨a34,c35⟩ ⟨v29,l30,v31,l33⟩ o τ hb43;(try dsimp only at hb43);dsimp only [aD]
    refine af (af (bc [1,1] (rg 46 13) [(59,pB (((decide (v29≤(IntKind.i64.wrap (1+x3.1))))&&(decide (((l33.length:Nat):Int)<4)))&&(!(x26.1 == 1))))] (by kernel_rfl) (cg rfl hb43 (fun hc46 hb43=>?_) fun hc46 hb43=>?_)))
    ·refine ai ?_
     refine du hb43 fun q54 hq54 hb43=>?_
     refine az (Y:=(Option Addr×Nat)×((List Int)×Int×(List Zf))) (fun ((a51,c52),(l48,v49,l53))=>[(3,pP b2 0),(4,pI (IntKind.i64.wrap (1+x3.1))),(5,pO a6 l5.length c7),(6,pI v8),(7,pP b27 0),(8,pI x28.1),(9,pI v29)]) (fun ((a51,c52),(l48,v49,l53))=>[PRes.b b2 77 [pL eI l48,pI v49],PRes.b b27 52 [pI (IntKind.i64.wrap (3*v8)),pS x20.1,pS m23,pI (IntKind.i64.wrap (1+x24.1)),pB (x26.1 == 1),pL eS x25.1,pO a51 l53.length c52],PRes.row a6 l5.length c7 52 7 (List.map Zb.enc l5),PRes.row a51 l53.length c52 54 2 (List.map Zf.enc l53)]) (fun ((a51,c52),(l48,v49,l53))=>q54=(l48,v49,l53)) ?_ ?_
     ·skip
      refine gX (ae hq54 fun u55 hu55 hq54=>ae hq54 fun x56 hx56 hq54=>aa (bm 12 [] ((rg 62 6)++[69,70,71]) [(68,pB ((fm .i64 (cD .i64 x28.1 (IntKind.i64.wrap (v29 - 1))) 1) == 1)),(72,pgv ((fm .i64 (cD .i64 x28.1 (IntKind.i64.wrap (v29 - 1))) 1) == 1) (pB (decide (v29<v8)))),(73,pgv (((fm .i64 (cD .i64 x28.1 (IntKind.i64.wrap (v29 - 1))) 1) == 1)&&(!(decide (v29<v8)))) (pP b2 0))] (uk 3 hu55 bL) (by kernel_rfl) ?_))
      refine rB (oU rfl rfl rfl) rfl rfl rfl (by exact aC) (mi (.g rfl) (mi (.p rfl) sS)) (fun hc=>aB (gdp_t hx56 hc)) (fun hc=>by rw [gdp_f hx56 hc]) ?_
      refine qX (oU rfl rfl rfl) rfl rfl (xc rfl (.g rfl) (.p rfl) rfl) (qX (oz rfl rfl rfl) rfl rfl (pq_or rfl (.g rfl) (.p rfl) (.g rfl)) (bD rfl rfl rfl (xb rfl (.p rfl) (.p rfl) (.g rfl)) (aw (cg rfl hq54 (fun hc57 hq54=>?_) fun hc57 hq54=>?_))))
      ·refine ae hq54 ?_;clear hq54;intro x58 hx58 hq54
       refine ae hq54 fun l61 hl61 hq54=>?_
       refine ki (Y:=Option Addr×Nat) (fun (a62,c63)=>[(3,pP b2 0),(4,pI (IntKind.i64.wrap (1+x3.1))),(5,pO a6 l5.length c7),(6,pI v8),(7,pP b27 0),(8,pI x28.1),(9,pI v29)]) (fun (a62,c63)=>[PRes.b b2 77 [pL eI x58.2.L,pI x58.2.I],PRes.b b27 52 [pI (IntKind.i64.wrap (3*v8)),pS x20.1,pS m23,pI (IntKind.i64.wrap (1+x24.1)),pB (x26.1 == 1),pL eS x25.1,pO a62 l61.length c63],PRes.row a6 l5.length c7 52 7 (List.map Zb.enc l5),PRes.row a62 l61.length c63 54 2 (List.map Zf.enc l61)]) (fun _=>True) ?_ ?_
       ·refine ka (ρd:=[PRes.b b2 _ _,PRes.row a34 _ _ _ _ _,PRes.b b27 _ _]) _ (aF aC (aF (ak aC) (List.Perm.refl _))) ?_
        refine bY 0 (by kernel_rfl) rfl rfl rfl rfl (bo rfl rfl rfl rfl rfl (.p rfl)) (bY 2 (by kernel_rfl) rfl rfl rfl rfl (eu (p:=pI v29) rfl (.p rfl)) (bY 3 (by kernel_rfl) rfl rfl rfl rfl (q8 rfl (.p rfl) (.p rfl) rfl) (bY 4 (by kernel_rfl) rfl rfl rfl rfl (eu (p:=pP b2 0) rfl (.p rfl)) ?_)))
        refine ia 1 5 (by kernel_rfl) ?_ ?_
        ·skip
         refine ba rfl rfl rfl rfl (lA (cJ (p:=pO a34 l33.length c35) rfl (.p rfl) ug rfl) (bg 5 (by kernel_rfl) ?_))
         refine ba rfl rfl rfl rfl (aW rfl rfl (ρ1:=[_]) (aF (by exact aC) (List.Perm.refl _)) (aB hx58) ?_);rintro _ _ ⟨rfl,rfl⟩
         refine bY 6 (by kernel_rfl) rfl rfl rfl rfl (re (cs:=[pI (IntKind.i64.wrap (3*v29)),pI x58.1]) rfl rfl rfl rfl rfl rfl rfl (zfc rfl rfl rfl rfl mG (zfc rfl rfl rfl rfl (dY mG) zfn))) (bg 7 (by kernel_rfl) (ba rfl rfl rfl rfl (bG rfl rfl rfl rfl rfl (fL rfl jr) rfl rfl rfl rfl (fun b59=>bg 8 (by kernel_rfl) ?_))))
         refine ba rfl rfl rfl rfl (bP (enc:=Zf.enc) rfl rfl rfl rfl rfl rfl rfl rfl rfl fF (by exact ak (ak aC)) hl61 (fun a62 c63=>?_))
         refine bY 9 (by kernel_rfl) rfl rfl rfl rfl (bo rfl rfl rfl rfl rfl (.p rfl)) (bg 10 (by kernel_rfl) (dL rfl rfl rfl (au (vs:=[pO a62 l61.length c63]) rfl rfl rfl rfl rfl (de (de (de cY))) (dY (dY (dY (dY (dY (dY mG)))))) (dK (by kernel_rfl) ?_))))
         exact gQ (a62,c63) (ol rfl) (aY (ak (ak aC)) (aY (ak (ak aC)) (aY (ak (ak aC)) dM))) trivial
        skip
        refine ba rfl rfl rfl rfl (aW rfl rfl (ρ1:=[_]) (aF (by exact aC) (List.Perm.refl _)) (aB hx58) ?_);rintro _ _ ⟨rfl,rfl⟩
        refine bY 6 (by kernel_rfl) rfl rfl rfl rfl (re (cs:=[pI (IntKind.i64.wrap (3*v29)),pI x58.1]) rfl rfl rfl rfl rfl rfl rfl (zfc rfl rfl rfl rfl mG (zfc rfl rfl rfl rfl (dY mG) zfn))) ?_
        refine ia 1 7 (by kernel_rfl) ?_ ?_
        ·skip
         refine ba rfl rfl rfl rfl (lA (cJ (p:=pO a34 l33.length c35) rfl (.p rfl) ug rfl) (bg 7 (by kernel_rfl) (ba rfl rfl rfl rfl (bG rfl rfl rfl rfl rfl (fL rfl jr) rfl rfl rfl rfl (fun b59=>bg 8 (by kernel_rfl) ?_)))))
         refine ba rfl rfl rfl rfl (bP (enc:=Zf.enc) rfl rfl rfl rfl rfl rfl rfl rfl rfl fF (by exact ak (ak aC)) hl61 (fun a62 c63=>?_))
         refine bY 9 (by kernel_rfl) rfl rfl rfl rfl (bo rfl rfl rfl rfl rfl (.p rfl)) (bg 10 (by kernel_rfl) (dL rfl rfl rfl (au (vs:=[pO a62 l61.length c63]) rfl rfl rfl rfl rfl (de (de (de cY))) (dY (dY (dY (dY (dY (dY mG)))))) (dK (by kernel_rfl) ?_))))
         exact gQ (a62,c63) (ol rfl) (aY (ak (ak aC)) (aY (ak (ak aC)) (aY (ak (ak aC)) dM))) trivial
        skip
        refine ba rfl rfl rfl rfl (bG rfl rfl rfl rfl rfl (fL rfl jr) rfl rfl rfl rfl (fun b59=>bg 1 (by kernel_rfl) (ba rfl rfl rfl rfl (lA (cJ (p:=pO a34 l33.length c35) rfl (.p rfl) zG rfl) (bg 8 (by kernel_rfl) ?_)))))
        refine ba rfl rfl rfl rfl (bP (enc:=Zf.enc) rfl rfl rfl rfl rfl rfl rfl rfl rfl fF (by exact ak (ak aC)) hl61 (fun a62 c63=>?_))
        refine bY 9 (by kernel_rfl) rfl rfl rfl rfl (bo rfl rfl rfl rfl rfl (.p rfl)) (bg 10 (by kernel_rfl) (dL rfl rfl rfl (au (vs:=[pO a62 l61.length c63]) rfl rfl rfl rfl rfl (de (de (de cY))) (dY (dY (dY (dY (dY (dY mG)))))) (dK (by kernel_rfl) ?_))))
        exact gQ (a62,c63) (ol rfl) (aY (ak (ak aC)) (aY (ak (ak aC)) (aY (ak (ak aC)) dM))) trivial
       rintro ⟨a62,c63⟩ τ ρ1 hsub65 _;(try dsimp only at hsub65);dsimp only [aD]
       refine aH ?_
       obtain rfl:=osi hq54
       exact aG ((a62,c63),(x58.2.L,x58.2.I,l61)) (ol rfl) (PSub.trans zs4 hsub65) rfl
      refine ai ?_
      refine aH ?_
      obtain rfl:=osi hq54
      exact aG ((a34,c35),(x56.2.L,x56.2.I,l33)) (ol rfl) (aY aC (aY aC (aY (ak aC) dM))) rfl
     rintro ⟨⟨a51,c52⟩,⟨l48,v49,l53⟩⟩ τ hz;(try dsimp only at hz);subst q54;(try dsimp only at hb43);dsimp only [aD]
     refine ah [60,61] [(9,pI (IntKind.i64.wrap (v29+1)))] (by kernel_rfl) ?_
     exact bd hb43 (a51,c52) (ol rfl) (aY aC (aY aC (aY (ak aC) dM)))
    refine aR ?_
    refine av (an hb43 (fun ht=>ar rfl ?_))
    exact aG ((a34,c35),(l30,v31,l33)) (mO rfl) (aY aC (aY aC (aY (ak aC) dM))) ht.symm
   rintro ⟨⟨a40,c41⟩,⟨l37,v38,l42⟩⟩ τ hz;(try dsimp only at hz);subst q44;(try dsimp only at hb15);dsimp only [aD]
   refine aa (am 1 [(88,pO a6 l5.length c7)] (by kernel_rfl) ?_)
   refine kT (css:=List.map Zf.enc l42) (a:=a40) (by exact ak (ak (ak aC))) ?_
   refine jh (k:=6) (enc:=Zf.enc) (xs:=l42) (b:=b27) (a:=a40) rfl fF (de (de cY)) (fO 1 [2] [(89,.agg [pI (IntKind.i64.wrap (3*v8)),pS x20.1,pS m23,pI (IntKind.i64.wrap (1+x24.1)),pB (x26.1 == 1),pL eS x25.1,pL Zf.enc l42])] (by kernel_rfl) (aj rfl (bG rfl rfl rfl rfl rfl (fL rfl jr) rfl rfl rfl rfl (fun b66=>ae hb15 fun l68 hl68 hb15=>?_))))
   refine aj rfl (bP (enc:=Zb.enc) rfl rfl rfl rfl rfl rfl rfl rfl rfl fF (by exact ak (ak (ak (ak aC)))) hl68 (fun a69 c70=>?_))
   refine aM [(5,pO a69 l68.length c70)] (by kernel_rfl) (mn (ah [20,21] [(6,pI (IntKind.i64.wrap (v8+1)))] (by kernel_rfl) ?_))
   exact bd hb15 (a69,c70) (jt rfl) (aY (ak (ak (ak aC))) dM)
  refine aR ?_
  refine av (an hb15 (fun ht=>ar rfl ?_))
  exact aG ((a6,c7),l5) (xj rfl) (aY (ak aC) bX) ht.symm
 rintro ⟨⟨a12,c13⟩,l14⟩ τ hz;(try dsimp only at hz);subst q16;(try dsimp only at h);dsimp only [aD]
 refine af (ah [92] [(2,pO a12 l14.length c13)] (by kernel_rfl) (eD ?_))
 obtain rfl:=osi h
 exact aO (dh (aP rfl)) dM ⟨_,_,rfl,rfl⟩
def eX (rec:Zj→Int→Int→Option (Ze×Zj)) (p0:Zj) (p1:Int) (p2:Int):Option (Ze×Zj):=(aI p0 8).bind fun x2=>cond ((decide (5≤x2.1))&&(decide (0<p2))) (Option.bind (cond ((IntKind.i64.wrap (5+(Int.tmod x2.1 2))) == p1) (some (IntKind.i64.wrap (11 - p1))) (some (IntKind.i64.wrap (5+(Int.tmod x2.1 2))))) (fun v5=>(aI x2.2 2).bind fun x8=>(bf (S:=Int×(List Int)×Int×(List Ze)) (T:=((List Int)×Int×(List Ze))) (fun (v9,l10,v11,l13)=>cond (decide (0<v9)) ((rec (⟨l10,v11⟩:Zj) v5 (IntKind.i64.wrap (p2 - 1))).bind fun x26=>(app 96 l13 [x26.1]).bind fun l29=>some (.inl ((IntKind.i64.wrap (v9 - 1)),x26.2.L,x26.2.I,l29))) (some (.inr (l10,v11,l13)))) FUEL ((IntKind.i64.wrap (2+x8.1)),x8.2.L,x8.2.I,([]:List Ze))).bind fun (l16,v17,l21)=>some ((⟨v5,0,[],0,0,ByteArray.empty,l21⟩:Ze),(⟨l16,v17⟩:Zj)))) (Option.bind (α:=((List Int)×Int)⊕_) (cond ((Int.tmod x2.1 4) == 1) ((eT x2.2).bind fun x38=>some (.inr ((⟨3,0,[],0,x38.1,ByteArray.empty,[]⟩:Ze),x38.2))) (cond ((Int.tmod x2.1 4) == 2) ((aI x2.2 5).bind fun x42=>(idx [(⟨#[97,110,100]⟩:ByteArray),(⟨#[99,117,116]⟩:ByteArray),(⟨#[111,114]⟩:ByteArray),(⟨#[115,101,119]⟩:ByteArray),(⟨#[115,112,105,110]⟩:ByteArray)] x42.1).bind fun m43=>some (.inr ((⟨4,0,[],0,0,m43,[]⟩:Ze),x42.2))) (cond ((Int.tmod x2.1 4) == 3) ((aI x2.2 3).bind fun x45=>cond (x45.1 == 1) (some (.inr ((⟨1,0,[],0,0,ByteArray.empty,[]⟩:Ze),x45.2))) (some (.inl (x45.2.L,x45.2.I)))) (some (.inl (x2.2.L,x2.2.I)))))) (fun q=>match q with | .inl (l34,v35)=>(aI (⟨l34,v35⟩:Zj) 3).bind (fun x47=>(aI x47.2 3).bind fun x49=>Option.bind (cond (x49.1 == 1) ((aI x49.2 2).bind fun x57=>(sub [(⟨#[57,52,48,49]⟩:ByteArray),(⟨#[57,53,48,50]⟩:ByteArray)] x57.1 ([(⟨#[57,52,48,49]⟩:ByteArray),(⟨#[57,53,48,50]⟩:ByteArray)].length:Int)).bind fun l58=>some (x57.2.L,x57.2.I,l58)) (some (x49.2.L,x49.2.I,[]))) (fun (l50,v51,l52)=>(aI (⟨l50,v51⟩:Zj) 3).bind fun x59=>Option.bind (cond (x59.1 == 1) ((eT x59.2).bind fun x65=>some (x65.2.L,x65.2.I,x65.1)) (some (x59.2.L,x59.2.I,0))) (fun (l60,v61,v62)=>some ((⟨2,(IntKind.i64.wrap (2+(IntKind.i64.wrap (2*x47.1)))),l52,v62,0,ByteArray.empty,[]⟩:Ze),(⟨l60,v61⟩:Zj))))) | .inr e=>some e))
theorem mK {rec:Zj→Int→Int→Option (Ze×Zj)} (hrec:∀ {p0:Zj} {p1:Int} {p2:Int} {b0:Nat} {r:(Ze×Zj)},rec p0 p1 p2=some r→PCall 39 [pP b0 0,pI p1,pI p2] [PRes.b b0 77 [pL eI p0.L,pI p0.I]] (fun pv ρ'=>pv=.agg (aN r.1)∧ρ'=[PRes.b b0 77 [pL eI r.2.L,pI r.2.I]])) {p0:Zj} {p1:Int} {p2:Int} {b0:Nat} {r:(Ze×Zj)} (h:eX rec p0 p1 p2=some r):PCall 39 [pP b0 0,pI p1,pI p2] [PRes.b b0 77 [pL eI p0.L,pI p0.I]] (fun pv ρ'=>pv=.agg (aN r.1)∧ρ'=[PRes.b b0 77 [pL eI r.2.L,pI r.2.I]]):=by
 unfold eX at h
 refine eW Tryz.func39 rfl Tryz.ntmps39 Tryz.results39 rfl (aa (aj rfl (aT (cs:=[pI 0,pI 0,pN,pI 0,pI 0,pS ByteArray.empty,pN]) rfl rfl rfl rfl (fun b1=>aw (du h fun x2 hx2 h=>aa (am 1 [(11,pP b0 0)] (by kernel_rfl) ?_))))))
 refine aj rfl (aW rfl rfl (ρ1:=[_]) (aF (by exact ak aC) (List.Perm.refl _)) (aB hx2) ?_);rintro _ _ ⟨rfl,rfl⟩
 refine aM [(7,pI x2.1)] (by kernel_rfl) (dn (ah (rg 13 5) [(18,pB ((decide (5≤x2.1))&&(decide (0<p2))))] (by kernel_rfl) (cg rfl h (fun hc3 h=>?_) fun hc3 h=>?_)))
 ·refine af ?_
  refine aa (cE 4 [19,20,21] [(22,.agg [pI (IntKind.i64.wrap (5+(Int.tmod x2.1 2))),pI 0,pN,pI 0,pI 0,pS ByteArray.empty,pN])] (by kernel_rfl) (aj rfl (aT (cs:=[pI 0,pI 0,pN,pI 0,pI 0,pS ByteArray.empty,pN]) rfl rfl rfl rfl (fun b4=>aX rfl rfl (au (vs:=[pI (IntKind.i64.wrap (5+(Int.tmod x2.1 2))),pI 0,pN,pI 0,pI 0,pS ByteArray.empty,pN]) rfl rfl rfl rfl rfl cY om (aw (dn (bc [0] [23,24,25] [(26,pB ((IntKind.i64.wrap (5+(Int.tmod x2.1 2))) == p1))] (by kernel_rfl) (dN h fun q6 hq6 h=>?_)))))))))
  refine az (Y:=Unit×Int) (fun (_,v5)=>[(0,pP b0 0),(2,pI p2),(6,pP b1 0),(8,pP b4 0)]) (fun (_,v5)=>[PRes.b b0 77 [pL eI x2.2.L,pI x2.2.I],PRes.b b1 98 [pI 0,pI 0,pN,pI 0,pI 0,pS ByteArray.empty,pN],PRes.b b4 98 [pI v5,pI 0,pN,pI 0,pI 0,pS ByteArray.empty,pN]]) (fun (_,v5)=>q6=v5) ?_ ?_
  ·skip
   refine js rfl hq6 (fun hc7 hq6=>?_) fun hc7 hq6=>?_
   ·refine aa ?_
    refine cE 3 [27] [(28,pI (IntKind.i64.wrap (11 - p1))),(29,pP b4 0)] (by kernel_rfl) (aX rfl rfl (au (vs:=[pI (IntKind.i64.wrap (11 - p1))]) rfl rfl rfl rfl rfl cY mG (aw ?_)))
    obtain rfl:=osi hq6
    exact aG ((),(IntKind.i64.wrap (11 - p1))) (jt rfl) (aY (ak aC) (aY (ak aC) dM)) rfl
   refine ai ?_
   obtain rfl:=osi hq6
   exact aG ((),(IntKind.i64.wrap (5+(Int.tmod x2.1 2)))) (jt rfl) (aY (ak aC) (aY (ak aC) dM)) rfl
  rintro ⟨_,v5⟩ τ hz;(try dsimp only at hz);subst q6;(try dsimp only at h);dsimp only [aD]
  refine af (af (ae h fun x8 hx8 h=>aa (am 1 [(30,pP b0 0)] (by kernel_rfl) ?_)))
  refine aj rfl (aW rfl rfl (ρ1:=[_]) (aF (by exact aC) (List.Perm.refl _)) (aB hx8) ?_);rintro _ _ ⟨rfl,rfl⟩
  refine fu [32] [(9,pI (IntKind.i64.wrap (2+x8.1)))] (by kernel_rfl) (aL (bI 98 7 (ae h fun q23 hq23 h=>?_)))
  refine az (Y:=(Option Addr×Nat)×((List Int)×Int×(List Ze))) (fun ((a19,c20),(l16,v17,l21))=>[(6,pP b1 0),(8,pP b4 0)]) (fun ((a19,c20),(l16,v17,l21))=>[PRes.b b0 77 [pL eI l16,pI v17],PRes.b b1 98 [pI 0,pI 0,pN,pI 0,pI 0,pS ByteArray.empty,pN],PRes.b b4 98 [pI v5,pI 0,pN,pI 0,pI 0,pS ByteArray.empty,pO a19 l21.length c20],PRes.row a19 l21.length c20 98 7 (List.map Ze.enc l21)]) (fun ((a19,c20),(l16,v17,l21))=>q23=(l16,v17,l21)) ?_ ?_
  ·refine aJ ?_
   refine aK (Y:=Option Addr×Nat) (S:=Int×(List Int)×Int×(List Ze)) _ hq23 (fun (a14,c15) (v9,l10,v11,l13)=>[(0,pP b0 0),(2,pI p2),(6,pP b1 0),(8,pP b4 0),(9,pI v9)]) (fun (a14,c15) (v9,l10,v11,l13)=>[PRes.b b0 77 [pL eI l10,pI v11],PRes.b b1 98 [pI 0,pI 0,pN,pI 0,pI 0,pS ByteArray.empty,pN],PRes.b b4 98 [pI v5,pI 0,pN,pI 0,pI 0,pS ByteArray.empty,pO a14 l13.length c15],PRes.row a14 l13.length c15 98 7 (List.map Ze.enc l13)]) (none,0) (mO rfl) (aY (ak aC) (aY (ak aC) (aY (ak aC) dM))) ?_
   rintro ⟨a14,c15⟩ ⟨v9,l10,v11,l13⟩ o τ hb22;(try dsimp only at hb22);dsimp only [aD]
   refine af (af (ah [33] [(34,pB (decide (0<v9)))] (by kernel_rfl) (cg rfl hb22 (fun hc25 hb22=>?_) fun hc25 hb22=>?_)))
   ·refine ai ?_
    refine bM (aJ (ae hb22 fun x26 hx26 hb22=>ae hb22 fun l29 hl29 hb22=>?_))
    refine ki (Y:=Option Addr×Nat) (fun (a30,c31)=>[(0,pP b0 0),(2,pI p2),(6,pP b1 0),(8,pP b4 0),(9,pI v9)]) (fun (a30,c31)=>[PRes.b b0 77 [pL eI x26.2.L,pI x26.2.I],PRes.b b1 98 [pI 0,pI 0,pN,pI 0,pI 0,pS ByteArray.empty,pN],PRes.b b4 98 [pI v5,pI 0,pN,pI 0,pI 0,pS ByteArray.empty,pO a30 l29.length c31],PRes.row a30 l29.length c31 98 7 (List.map Ze.enc l29)]) (fun _=>True) ?_ ?_
    ·refine ka (ρd:=[PRes.b b0 _ _,PRes.row a14 _ _ _ _ _,PRes.b b4 _ _]) _ (aF aC (aF (ak (ak aC)) (aF (ak aC) (List.Perm.refl _)))) ?_
     refine bY 0 (by kernel_rfl) rfl rfl rfl rfl (bo rfl rfl rfl rfl rfl (.p rfl)) (bY 2 (by kernel_rfl) rfl rfl rfl rfl (eu (p:=pP b0 0) rfl (.p rfl)) (bY 3 (by kernel_rfl) rfl rfl rfl rfl (bo rfl rfl rfl rfl rfl (.p rfl)) (bY 5 (by kernel_rfl) rfl rfl rfl rfl (eu (p:=pI p2) rfl (.p rfl)) (bY 6 (by kernel_rfl) rfl rfl rfl rfl (q8 rfl (.p rfl) (.p rfl) rfl) ?_))))
     refine ia 1 4 (by kernel_rfl) ?_ ?_
     ·skip
      refine ba rfl rfl rfl rfl (lA (cJ (p:=pO a14 l13.length c15) rfl (.p rfl) ug rfl) (bg 4 (by kernel_rfl) (ba rfl rfl rfl rfl (lA (cJ (p:=pI v5) rfl (.p rfl) ug rfl) (bg 7 (by kernel_rfl) ?_)))))
      refine ba rfl rfl rfl rfl (aW rfl rfl (ρ1:=[_]) (aF (by exact aC) (List.Perm.refl _)) (hrec hx26) ?_);rintro _ _ ⟨rfl,rfl⟩
      refine bg 8 (by kernel_rfl) ?_
      refine ba rfl rfl rfl rfl (bG (css:=List.map Ze.enc [x26.1]) rfl rfl rfl rfl rfl (by (simp only [List.map_cons,List.map_nil,Ze.enc_eq];(repeat (first | exact jr | apply fL rfl)))) rfl (by (simp only [List.map_cons,List.map_nil,Ze.enc_eq];rfl)) rfl rfl (fun b27=>?_))
      refine bg 9 (by kernel_rfl) ?_
      refine ba rfl rfl rfl rfl (bP (enc:=Ze.enc) rfl rfl rfl rfl rfl rfl rfl rfl rfl fF (by exact ak (ak aC)) hl29 (fun a30 c31=>?_))
      refine bY 10 (by kernel_rfl) rfl rfl rfl rfl (bo rfl rfl rfl rfl rfl (.p rfl)) (bg 11 (by kernel_rfl) (dL rfl rfl rfl (au (vs:=[pO a30 l29.length c31]) rfl rfl rfl rfl rfl (de (de (de cY))) (dY (dY (dY (dY (dY (dY mG)))))) (dK (by kernel_rfl) ?_))))
      exact gQ (a30,c31) (mO rfl) (aY (ak (ak aC)) (aY (ak (ak (ak aC))) (aY (ak (ak aC)) dM))) trivial
     skip
     refine ba rfl rfl rfl rfl (lA (cJ (p:=pI v5) rfl (.p rfl) ug rfl) ?_)
     refine ia 1 7 (by kernel_rfl) ?_ ?_
     ·skip
      refine ba rfl rfl rfl rfl (lA (cJ (p:=pO a14 l13.length c15) rfl (.p rfl) ug rfl) (bg 7 (by kernel_rfl) ?_))
      refine ba rfl rfl rfl rfl (aW rfl rfl (ρ1:=[_]) (aF (by exact aC) (List.Perm.refl _)) (hrec hx26) ?_);rintro _ _ ⟨rfl,rfl⟩
      refine bg 8 (by kernel_rfl) ?_
      refine ba rfl rfl rfl rfl (bG (css:=List.map Ze.enc [x26.1]) rfl rfl rfl rfl rfl (by (simp only [List.map_cons,List.map_nil,Ze.enc_eq];(repeat (first | exact jr | apply fL rfl)))) rfl (by (simp only [List.map_cons,List.map_nil,Ze.enc_eq];rfl)) rfl rfl (fun b27=>?_))
      refine bg 9 (by kernel_rfl) ?_
      refine ba rfl rfl rfl rfl (bP (enc:=Ze.enc) rfl rfl rfl rfl rfl rfl rfl rfl rfl fF (by exact ak (ak aC)) hl29 (fun a30 c31=>?_))
      refine bY 10 (by kernel_rfl) rfl rfl rfl rfl (bo rfl rfl rfl rfl rfl (.p rfl)) (bg 11 (by kernel_rfl) (dL rfl rfl rfl (au (vs:=[pO a30 l29.length c31]) rfl rfl rfl rfl rfl (de (de (de cY))) (dY (dY (dY (dY (dY (dY mG)))))) (dK (by kernel_rfl) ?_))))
      exact gQ (a30,c31) (mO rfl) (aY (ak (ak aC)) (aY (ak (ak (ak aC))) (aY (ak (ak aC)) dM))) trivial
     skip
     refine ba rfl rfl rfl rfl (aW rfl rfl (ρ1:=[_]) (aF (by exact aC) (List.Perm.refl _)) (hrec hx26) ?_);rintro _ _ ⟨rfl,rfl⟩
     refine ia 1 8 (by kernel_rfl) ?_ ?_
     ·skip
      refine ba rfl rfl rfl rfl (lA (cJ (p:=pO a14 l13.length c15) rfl (.p rfl) ug rfl) (bg 8 (by kernel_rfl) ?_))
      refine ba rfl rfl rfl rfl (bG (css:=List.map Ze.enc [x26.1]) rfl rfl rfl rfl rfl (by (simp only [List.map_cons,List.map_nil,Ze.enc_eq];(repeat (first | exact jr | apply fL rfl)))) rfl (by (simp only [List.map_cons,List.map_nil,Ze.enc_eq];rfl)) rfl rfl (fun b27=>?_))
      refine bg 9 (by kernel_rfl) ?_
      refine ba rfl rfl rfl rfl (bP (enc:=Ze.enc) rfl rfl rfl rfl rfl rfl rfl rfl rfl fF (by exact ak (ak aC)) hl29 (fun a30 c31=>?_))
      refine bY 10 (by kernel_rfl) rfl rfl rfl rfl (bo rfl rfl rfl rfl rfl (.p rfl)) (bg 11 (by kernel_rfl) (dL rfl rfl rfl (au (vs:=[pO a30 l29.length c31]) rfl rfl rfl rfl rfl (de (de (de cY))) (dY (dY (dY (dY (dY (dY mG)))))) (dK (by kernel_rfl) ?_))))
      exact gQ (a30,c31) (mO rfl) (aY (ak (ak aC)) (aY (ak (ak (ak aC))) (aY (ak (ak aC)) dM))) trivial
     skip
     refine ba rfl rfl rfl rfl (bG (css:=List.map Ze.enc [x26.1]) rfl rfl rfl rfl rfl (by (simp only [List.map_cons,List.map_nil,Ze.enc_eq];(repeat (first | exact jr | apply fL rfl)))) rfl (by (simp only [List.map_cons,List.map_nil,Ze.enc_eq];rfl)) rfl rfl (fun b27=>?_))
     refine bg 1 (by kernel_rfl) (ba rfl rfl rfl rfl (lA (cJ (p:=pO a14 l13.length c15) rfl (.p rfl) zG rfl) (bg 9 (by kernel_rfl) ?_)))
     refine ba rfl rfl rfl rfl (bP (enc:=Ze.enc) rfl rfl rfl rfl rfl rfl rfl rfl rfl fF (by exact ak (ak aC)) hl29 (fun a30 c31=>?_))
     refine bY 10 (by kernel_rfl) rfl rfl rfl rfl (bo rfl rfl rfl rfl rfl (.p rfl)) (bg 11 (by kernel_rfl) (dL rfl rfl rfl (au (vs:=[pO a30 l29.length c31]) rfl rfl rfl rfl rfl (de (de (de cY))) (dY (dY (dY (dY (dY (dY mG)))))) (dK (by kernel_rfl) ?_))))
     exact gQ (a30,c31) (mO rfl) (aY (ak (ak aC)) (aY (ak (ak (ak aC))) (aY (ak (ak aC)) dM))) trivial
    rintro ⟨a30,c31⟩ τ ρ1 hsub33 _;(try dsimp only at hsub33);dsimp only [aD]
    refine mn (oA hsub33 (ah [35,36] [(9,pI (IntKind.i64.wrap (v9 - 1)))] (by kernel_rfl) ?_))
    exact bd hb22 (a30,c31) (mO rfl) zs4
   refine aR ?_
   refine av (an hb22 (fun ht=>ar rfl ?_))
   exact aG ((a14,c15),(l10,v11,l13)) (qa rfl) zs4 ht.symm
  rintro ⟨⟨a19,c20⟩,⟨l16,v17,l21⟩⟩ τ hz;(try dsimp only at hz);subst q23;(try dsimp only at h);dsimp only [aD]
  refine af (aa (oB (k:=2) (b:=b4) rfl (de (de cY)) ?_))
  refine kT (css:=List.map Ze.enc l21) (a:=a19) (by exact ak (ak (ak aC))) ?_
  refine jh (k:=6) (enc:=Ze.enc) (xs:=l21) (b:=b4) (a:=a19) rfl fF (de (de (de cY))) (fO 1 [3] [(48,.agg [pI v5,pI 0,pL eS [],pI 0,pI 0,pS ByteArray.empty,pL Ze.enc l21])] (by kernel_rfl) (aX rfl rfl (au (vs:=[pI v5,pI 0,pL eS [],pI 0,pI 0,pS ByteArray.empty,pL Ze.enc l21]) rfl rfl rfl rfl rfl (de (de cY)) om (aw (eD (aq ?_))))))
  obtain rfl:=osi h
  exact aO (dh (gB rfl ug rfl)) (aY (ak aC) bX) ⟨rfl,rfl⟩
 refine ai ?_
 refine dn (ah [49] [(50,pI (Int.tmod x2.1 4))] (by kernel_rfl) (dN h fun q36 hq36 h=>?_))
 refine az (Y:=Unit×((List Int)×Int)) (fun (_,(l34,v35))=>[(0,pP b0 0),(6,pP b1 0)]) (fun (_,(l34,v35))=>[PRes.b b0 77 [pL eI l34,pI v35],PRes.b b1 98 [pI 0,pI 0,pN,pI 0,pI 0,pS ByteArray.empty,pN]]) (fun (_,(l34,v35))=>q36=Sum.inl (l34,v35)) ?_ ?_
 ·skip
  refine gX (ah [52] [(51,pB ((Int.tmod x2.1 4) == 1))] (by kernel_rfl) (cg rfl hq36 (fun hc37 hq36=>?_) fun hc37 hq36=>?_))
  ·refine af ?_
   refine ae hq36 fun x38 hx38 hq36=>aa (am 1 [(53,pP b0 0)] (by kernel_rfl) ?_)
   refine aj rfl (aW rfl rfl (ρ1:=[_]) (aF (by exact aC) (List.Perm.refl _)) (jO hx38) ?_);rintro _ _ ⟨rfl,rfl⟩
   refine am 1 [(55,.agg [pI 3,pI 0,pN,pI 0,pI x38.1,pS ByteArray.empty,pN])] (by kernel_rfl) (aX rfl rfl (au (vs:=[pI 3,pI 0,pN,pI 0,pI x38.1,pS ByteArray.empty,pN]) rfl rfl rfl rfl rfl (de cY) om (aw (aL (eV (k:=2) (b:=b1) rfl (de cY) (eV (k:=6) (b:=b1) rfl (de cY) (bS (aA (aV ?_)))))))))
   obtain rfl:=osi hq36
   obtain rfl:=osi h
   exact aO (dh (gB rfl uV rfl)) dM ⟨rfl,rfl⟩
  refine af ?_
  refine ah [57] [(56,pB ((Int.tmod x2.1 4) == 2))] (by kernel_rfl) (cg rfl hq36 (fun hc39 hq36=>?_) fun hc39 hq36=>?_)
  ·refine af ?_
   refine aa (aj rfl (bG rfl rfl rfl rfl rfl (fL rfl (fL rfl (fL rfl (fL rfl (fL rfl jr))))) rfl rfl rfl rfl (fun b40=>ae hq36 fun x42 hx42 hq36=>am 1 [(59,pP b0 0)] (by kernel_rfl) ?_)))
   refine aj rfl (aW rfl rfl (ρ1:=[_]) (aF (by exact ak aC) (List.Perm.refl _)) (aB hx42) ?_);rintro _ _ ⟨rfl,rfl⟩
   refine ae hq36 fun m43 hm43 hq36=>bD rfl rfl rfl (dB (enc:=eS) (xs:=[(⟨#[97,110,100]⟩:ByteArray),(⟨#[99,117,116]⟩:ByteArray),(⟨#[111,114]⟩:ByteArray),(⟨#[115,101,119]⟩:ByteArray),(⟨#[115,112,105,110]⟩:ByteArray)]) rfl rfl rfl (.p rfl) uV (.p rfl) (fun _=>hm43)) (bD rfl rfl rfl (ca (sz:=1) (p:=pS m43) (enc:=eS) (xs:=[(⟨#[97,110,100]⟩:ByteArray),(⟨#[99,117,116]⟩:ByteArray),(⟨#[111,114]⟩:ByteArray),(⟨#[115,101,119]⟩:ByteArray),(⟨#[115,112,105,110]⟩:ByteArray)]) (a:=(some ⟨b40,0,none⟩)) x42.1 0 m43 rfl (.p rfl) rfl uV (fun _=>hm43) rfl) (am 1 [(63,.agg [pI 4,pI 0,pN,pI 0,pI 0,pS m43,pN])] (by kernel_rfl) (aX rfl rfl (au (vs:=[pI 4,pI 0,pN,pI 0,pI 0,pS m43,pN]) rfl rfl rfl rfl rfl (de (de cY)) om (aw (aL (eV (k:=2) (b:=b1) rfl (de (de cY)) (eV (k:=6) (b:=b1) rfl (de (de cY)) (bS (aA (aV ?_)))))))))))
   obtain rfl:=osi hq36
   obtain rfl:=osi h
   exact aO (dh (gB rfl ug rfl)) dM ⟨rfl,rfl⟩
  refine af ?_
  refine ah [65] [(64,pB ((Int.tmod x2.1 4) == 3))] (by kernel_rfl) (cg rfl hq36 (fun hc44 hq36=>?_) fun hc44 hq36=>?_)
  ·refine af ?_
   refine ae hq36 fun x45 hx45 hq36=>aa (am 1 [(66,pP b0 0)] (by kernel_rfl) ?_)
   refine aj rfl (aW rfl rfl (ρ1:=[_]) (aF (by exact aC) (List.Perm.refl _)) (aB hx45) ?_);rintro _ _ ⟨rfl,rfl⟩
   refine aM [(68,pB (x45.1 == 1))] (by kernel_rfl) (cg rfl hq36 (fun hc46 hq36=>?_) fun hc46 hq36=>?_)
   ·refine af ?_
    refine aa (am 1 [(69,.agg [pI 1,pI 0,pN,pI 0,pI 0,pS ByteArray.empty,pN])] (by kernel_rfl) (aX rfl rfl (au (vs:=[pI 1,pI 0,pN,pI 0,pI 0,pS ByteArray.empty,pN]) rfl rfl rfl rfl rfl (de cY) om (aw (aL (eV (k:=2) (b:=b1) rfl (de cY) (eV (k:=6) (b:=b1) rfl (de cY) (bS (aA (aV ?_))))))))))
    obtain rfl:=osi hq36
    obtain rfl:=osi h
    exact aO (dh (gB rfl uV rfl)) dM ⟨rfl,rfl⟩
   refine ai ?_
   refine aH ?_
   obtain rfl:=osi hq36
   exact aG ((),(x45.2.L,x45.2.I)) (qa rfl) py rfl
  refine ai ?_
  refine aH ?_
  obtain rfl:=osi hq36
  exact aG ((),(x2.2.L,x2.2.I)) (qa rfl) py rfl
 rintro ⟨_,⟨l34,v35⟩⟩ τ hz;(try dsimp only at hz);subst q36;(try dsimp only at h);dsimp only [aD]
 refine af (ae h fun x47 hx47 h=>aa (am 1 [(70,pP b0 0)] (by kernel_rfl) ?_))
 refine aj rfl (aW rfl rfl (ρ1:=[_]) (aF (by exact aC) (List.Perm.refl _)) (aB hx47) ?_);rintro _ _ ⟨rfl,rfl⟩
 refine cE 3 [72,73] [(74,.agg [pI 2,pI (IntKind.i64.wrap (2+(IntKind.i64.wrap (2*x47.1)))),pN,pI 0,pI 0,pS ByteArray.empty,pN])] (by kernel_rfl) (aj rfl (aT (cs:=[pI 0,pI 0,pN,pI 0,pI 0,pS ByteArray.empty,pN]) rfl rfl rfl rfl (fun b48=>aX rfl rfl (au (vs:=[pI 2,pI (IntKind.i64.wrap (2+(IntKind.i64.wrap (2*x47.1)))),pN,pI 0,pI 0,pS ByteArray.empty,pN]) rfl rfl rfl rfl rfl cY om (aw (dn (ae h fun x49 hx49 h=>aa (am 1 [(75,pP b0 0)] (by kernel_rfl) ?_))))))))
 refine aj rfl (aW rfl rfl (ρ1:=[_]) (aF (by exact ak aC) (List.Perm.refl _)) (aB hx49) ?_);rintro _ _ ⟨rfl,rfl⟩
 refine aM [(77,pB (x49.1 == 1))] (by kernel_rfl) (dN h fun q53 hq53 h=>?_)
 refine az (Y:=Unit×((List Int)×Int×(List ByteArray))) (fun (_,(l50,v51,l52))=>[(0,pP b0 0),(6,pP b1 0),(10,pP b48 0)]) (fun (_,(l50,v51,l52))=>[PRes.b b0 77 [pL eI l50,pI v51],PRes.b b1 98 [pI 0,pI 0,pN,pI 0,pI 0,pS ByteArray.empty,pN],PRes.b b48 98 [pI 2,pI (IntKind.i64.wrap (2+(IntKind.i64.wrap (2*x47.1)))),pL eS l52,pI 0,pI 0,pS ByteArray.empty,pN]]) (fun (_,(l50,v51,l52))=>q53=(l50,v51,l52)) ?_ ?_
 ·skip
  refine js rfl hq53 (fun hc54 hq53=>?_) fun hc54 hq53=>?_
  ·refine aa ?_
   refine aj rfl (bG rfl rfl rfl rfl rfl (fL rfl (fL rfl jr)) rfl rfl rfl rfl (fun b55=>ae hq53 fun x57 hx57 hq53=>am 1 [(79,pP b0 0)] (by kernel_rfl) ?_))
   refine aj rfl (aW rfl rfl (ρ1:=[_]) (aF (by exact ak aC) (List.Perm.refl _)) (aB hx57) ?_);rintro _ _ ⟨rfl,rfl⟩
   refine eH (enc:=eS) (xs:=[(⟨#[57,52,48,49]⟩:ByteArray),(⟨#[57,53,48,50]⟩:ByteArray)]) 78 rfl (by exact ak aC) ?_
   refine ae hq53 fun l58 hl58 hq53=>bm 2 [] [] [(81,pL eS l58),(82,pP b48 2)] (fosl 0 eS 1 (fun _=>rfl) hl58 bL) (by kernel_rfl) (aX rfl rfl (au (vs:=[pL eS l58]) rfl rfl rfl rfl rfl (de (de cY)) (dY (dY mG)) (aw ?_)))
   obtain rfl:=osi hq53
   exact aG ((),(x57.2.L,x57.2.I,l58)) (zH rfl) (aY (ak aC) (aY (ak (ak aC)) (aY (ak aC) bX))) rfl
  refine ai ?_
  refine mb (Bl (k:=2) (b:=b48) rfl (de cY)) ?_
  obtain rfl:=osi hq53
  exact aG ((),(x49.2.L,x49.2.I,[])) (zH rfl) (aY aC (aY (ak aC) dM)) rfl
 rintro ⟨_,⟨l50,v51,l52⟩⟩ τ hz;(try dsimp only at hz);subst q53;(try dsimp only at h);dsimp only [aD]
 refine af (af (ae h fun x59 hx59 h=>aa (am 1 [(83,pP b0 0)] (by kernel_rfl) ?_)))
 refine aj rfl (aW rfl rfl (ρ1:=[_]) (aF (by exact aC) (List.Perm.refl _)) (aB hx59) ?_);rintro _ _ ⟨rfl,rfl⟩
 refine aM [(85,pB (x59.1 == 1))] (by kernel_rfl) (dN h fun q63 hq63 h=>?_)
 refine az (Y:=Unit×((List Int)×Int×Int)) (fun (_,(l60,v61,v62))=>[(6,pP b1 0),(10,pP b48 0)]) (fun (_,(l60,v61,v62))=>[PRes.b b0 77 [pL eI l60,pI v61],PRes.b b1 98 [pI 0,pI 0,pN,pI 0,pI 0,pS ByteArray.empty,pN],PRes.b b48 98 [pI 2,pI (IntKind.i64.wrap (2+(IntKind.i64.wrap (2*x47.1)))),pL eS l52,pI v62,pI 0,pS ByteArray.empty,pN]]) (fun (_,(l60,v61,v62))=>q63=(l60,v61,v62)) ?_ ?_
 ·skip
  refine js rfl hq63 (fun hc64 hq63=>?_) fun hc64 hq63=>?_
  ·refine ae hq63 ?_;clear hq63;intro x65 hx65 hq63
   refine aa (am 1 [(86,pP b0 0)] (by kernel_rfl) ?_)
   refine aj rfl (aW rfl rfl (ρ1:=[_]) (aF (by exact aC) (List.Perm.refl _)) (jO hx65) ?_);rintro _ _ ⟨rfl,rfl⟩
   refine am 1 [(88,pP b48 3)] (by kernel_rfl) (aX rfl rfl (au (vs:=[pI x65.1]) rfl rfl rfl rfl rfl (de (de cY)) (dY (dY (dY mG))) (aw ?_)))
   obtain rfl:=osi hq63
   exact aG ((),(x65.2.L,x65.2.I,x65.1)) (qa rfl) zs3 rfl
  refine ai ?_
  obtain rfl:=osi hq63
  exact aG ((),(x59.2.L,x59.2.I,0)) (qa rfl) zs3 rfl
 rintro ⟨_,⟨l60,v61,v62⟩⟩ τ hz;(try dsimp only at hz);subst q63;(try dsimp only at h);dsimp only [aD]
 refine af (aa (oB (k:=6) (b:=b48) rfl (de (de cY)) (fO 1 [2] [(89,.agg [pI 2,pI (IntKind.i64.wrap (2+(IntKind.i64.wrap (2*x47.1)))),pL eS l52,pI v62,pI 0,pS ByteArray.empty,pL Ze.enc []])] (by kernel_rfl) (aX rfl rfl (au (vs:=[pI 2,pI (IntKind.i64.wrap (2+(IntKind.i64.wrap (2*x47.1)))),pL eS l52,pI v62,pI 0,pS ByteArray.empty,pL Ze.enc []]) rfl rfl rfl rfl rfl (de cY) om (aw (eD ?_)))))))
 obtain rfl:=osi h
 exact aO (dh (gB rfl uV rfl)) dM ⟨rfl,rfl⟩
def dS (n:Nat):Zj→Int→Int→Option (Ze×Zj):=Nat.rec (motive:=fun _=>Zj→Int→Int→Option (Ze×Zj)) (fun _ _ _=>none) (fun _ ih=>eX ih) n
def lI (p0:Zj) (p1:Int) (p2:Int):Option (Ze×Zj):=dS FUEL p0 p1 p2
theorem nf (n:Nat):∀ {p0:Zj} {p1:Int} {p2:Int} {b0:Nat} {r:(Ze×Zj)},dS n p0 p1 p2=some r→PCall 39 [pP b0 0,pI p1,pI p2] [PRes.b b0 77 [pL eI p0.L,pI p0.I]] (fun pv ρ'=>pv=.agg (aN r.1)∧ρ'=[PRes.b b0 77 [pL eI r.2.L,pI r.2.I]]):=by
 induction n with
 | zero=>intros;rename_i h;exact nomatch h
 | succ n ih=>intros;rename_i h;exact mK (fun hr=>ih hr) h
theorem jP {p0:Zj} {p1:Int} {p2:Int} {b0:Nat} {r:(Ze×Zj)} (h:lI p0 p1 p2=some r):PCall 39 [pP b0 0,pI p1,pI p2] [PRes.b b0 77 [pL eI p0.L,pI p0.I]] (fun pv ρ'=>pv=.agg (aN r.1)∧ρ'=[PRes.b b0 77 [pL eI r.2.L,pI r.2.I]]):=nf FUEL h
def gg (p0:(List Int)):Option (List Zc):=(ku p0 200).bind fun x1=>(aI (⟨x1,0⟩:Zj) 4).bind fun x3=>(bf (S:=(List Zc)×Int×(List Int)×Int) (T:=((List Zc))) (fun (l5,v8,l9,v10)=>cond (decide (v8<(IntKind.i64.wrap (1+x3.1)))) ((aI (⟨l9,v10⟩:Zj) 3).bind fun x19=>(aI x19.2 64).bind fun x21=>(bf (S:=Int×(List ByteArray)) (T:=((List ByteArray))) (fun (v22,l24)=>cond (decide (v22<6)) (((lv v22).bind fun u42=>cond ((fm .i64 (cD .i64 (qo .i64 x21.1 3) v22) 1) == 1) ((fS).bind fun x44=>(idx x44 v22).bind fun m45=>(app 16 l24 [m45]).bind fun l48=>some l48) (some l24)).bind fun l40=>some (.inl ((IntKind.i64.wrap (v22+1)),l40))) (some (.inr l24))) FUEL (0,([]:List ByteArray))).bind fun l31=>(gdp (decide (0<v8)) (aI x21.2 2) x21.2).bind fun x53=>Option.bind (cond ((decide (0<v8))&&(x53.1 == 1)) ((idx l5 (IntKind.i64.wrap (v8 - 1))).bind fun m61=>some (x53.2.L,x53.2.I,m61.Rules)) ((aI x53.2 31).bind fun x64=>(bf (S:=Int×(List Int)×Int×(List Zk)) (T:=((List Int)×Int×(List Zk))) (fun (v65,l66,v67,l69)=>cond (decide (v65<5)) (((lv v65).bind fun u94=>cond ((fm .i64 (cD .i64 (IntKind.i64.wrap (1+x64.1)) v65) 1) == 1) ((idx [(⟨#[57,52]⟩:ByteArray),(⟨#[57,52,48,49]⟩:ByteArray),(⟨#[57,52,48,49,48,50]⟩:ByteArray),(⟨#[57,53]⟩:ByteArray),(⟨#[57,53,48,50]⟩:ByteArray)] v65).bind fun m96=>(lI (⟨l66,v67⟩:Zj) 0 1).bind fun x97=>(app 112 l69 [(⟨m96,x97.1⟩:Zk)]).bind fun l100=>some (x97.2.L,x97.2.I,l100)) (some (l66,v67,l69))).bind fun (l86,v87,l92)=>some (.inl ((IntKind.i64.wrap (v65+1)),l86,v87,l92))) (some (.inr (l66,v67,l69)))) FUEL (0,x64.2.L,x64.2.I,([]:List Zk))).bind fun (l73,v74,l79)=>some (l73,v74,l79))) (fun (l55,v56,l58)=>(app 64 l5 [(⟨(IntKind.i64.wrap (2+(IntKind.i64.wrap (5*v8)))),(IntKind.i64.wrap (1+x19.1)),l31,l58⟩:Zc)]).bind fun l108=>some (.inl (l108,(IntKind.i64.wrap (v8+1)),l55,v56)))) (some (.inr l5))) FUEL (([]:List Zc),0,x3.2.L,x3.2.I)).bind fun l14=>some l14
theorem nW {p0:(List Int)} {r:(List Zc)}  (h:gg p0=some r):PCall 15 [pL eI p0] [] (fun pv ρ'=>∃ a c,pv=.v (.slice a r.length c)∧ρ'=[PRes.row a r.length c 95 4 (List.map Zc.enc r)]):=by
 unfold gg at h
 refine eW Tryz.func15 rfl Tryz.ntmps15 Tryz.results15 rfl (aU [2] (by kernel_rfl) (du h fun x1 hx1 h=>aa (bm 3 [] [13,14] [(15,.agg [pL eI x1,pI 0])] (bR 1 (pD hx1) bL) (by kernel_rfl) (aj rfl (bE (cs:=[pL eI x1,pI 0]) rfl rfl (fun b2=>aM [(3,pP b2 0)] (by kernel_rfl) (bM (al [(4,pN)] (by kernel_rfl) (dn (ae h fun x3 hx3 h=>aa (am 1 [(17,pP b2 0)] (by kernel_rfl) ?_)))))))))))
 refine aj rfl (aW rfl rfl (ρ1:=[_]) (aF (by exact aC) (List.Perm.refl _)) (aB hx3) ?_);rintro _ _ ⟨rfl,rfl⟩
 refine fu [19] [(5,pI 0),(6,pI (IntKind.i64.wrap (1+x3.1)))] (by kernel_rfl) (aL (bI 95 4 (ae h fun q16 hq16 h=>?_)))
 refine az (Y:=(Option Addr×Nat)×((List Zc))) (fun ((a12,c13),l14)=>[(4,pO a12 l14.length c13)]) (fun ((a12,c13),l14)=>[PRes.row a12 l14.length c13 95 4 (List.map Zc.enc l14)]) (fun ((a12,c13),l14)=>q16=l14) ?_ ?_
 ·refine aJ ?_
  refine aK (Y:=Option Addr×Nat) (S:=(List Zc)×Int×(List Int)×Int) _ hq16 (fun (a6,c7) (l5,v8,l9,v10)=>[(3,pP b2 0),(4,pO a6 l5.length c7),(5,pI v8),(6,pI (IntKind.i64.wrap (1+x3.1)))]) (fun (a6,c7) (l5,v8,l9,v10)=>[PRes.b b2 77 [pL eI l9,pI v10],PRes.row a6 l5.length c7 95 4 (List.map Zc.enc l5)]) (none,0) (jt rfl) (aY (ak aC) dM) ?_
  rintro ⟨a6,c7⟩ ⟨l5,v8,l9,v10⟩ o τ hb15;(try dsimp only at hb15);dsimp only [aD]
  refine af (af (ah [20,21] [(22,pB (decide (v8<(IntKind.i64.wrap (1+x3.1)))))] (by kernel_rfl) (cg rfl hb15 (fun hc18 hb15=>?_) fun hc18 hb15=>?_)))
  ·refine ai ?_
   refine bM (gX (ae hb15 fun x19 hx19 hb15=>aa (cE 4 [25,26] [(27,pI (IntKind.i64.wrap (2+(IntKind.i64.wrap (5*v8))))),(28,pP b2 0)] (by kernel_rfl) ?_)))
   refine aj rfl (aW rfl rfl (ρ1:=[_]) (aF (by exact aC) (List.Perm.refl _)) (aB hx19) ?_);rintro _ _ ⟨rfl,rfl⟩
   refine cE 2 [30] [(31,.agg [pI (IntKind.i64.wrap (2+(IntKind.i64.wrap (5*v8)))),pI (IntKind.i64.wrap (1+x19.1)),pN,pN])] (by kernel_rfl) (aj rfl (aT (cs:=[pI 0,pI 0,pN,pN]) rfl rfl rfl rfl (fun b20=>aX rfl rfl (au (vs:=[pI (IntKind.i64.wrap (2+(IntKind.i64.wrap (5*v8)))),pI (IntKind.i64.wrap (1+x19.1)),pN,pN]) rfl rfl rfl rfl rfl cY Bq (aw (du hb15 fun x21 hx21 hb15=>aa (am 1 [(32,pP b2 0)] (by kernel_rfl) ?_)))))))
   refine aj rfl (aW rfl rfl (ρ1:=[_]) (aF (by exact ak aC) (List.Perm.refl _)) (aB hx21) ?_);rintro _ _ ⟨rfl,rfl⟩
   refine fu [34] [(8,pI (qo .i64 x21.1 3))] (by kernel_rfl) (dn (al [(9,pI 0)] (by kernel_rfl) (aL (bI 9 1 (ae hb15 fun q33 hq33 hb15=>?_)))))
   refine az (Y:=(Option Addr×Nat)×((List ByteArray))) (fun ((a29,c30),l31)=>[(3,pP b2 0),(4,pO a6 l5.length c7),(5,pI v8),(6,pI (IntKind.i64.wrap (1+x3.1))),(7,pP b20 0)]) (fun ((a29,c30),l31)=>[PRes.b b2 77 [pL eI x21.2.L,pI x21.2.I],PRes.b b20 95 [pI (IntKind.i64.wrap (2+(IntKind.i64.wrap (5*v8)))),pI (IntKind.i64.wrap (1+x19.1)),pO a29 l31.length c30,pN],PRes.row a6 l5.length c7 95 4 (List.map Zc.enc l5),PRes.row a29 l31.length c30 9 1 (List.map eS l31)]) (fun ((a29,c30),l31)=>q33=l31) ?_ ?_
   ·refine aJ ?_
    refine aK (Y:=Option Addr×Nat) (S:=Int×(List ByteArray)) _ hq33 (fun (a25,c26) (v22,l24)=>[(3,pP b2 0),(4,pO a6 l5.length c7),(5,pI v8),(6,pI (IntKind.i64.wrap (1+x3.1))),(7,pP b20 0),(8,pI (qo .i64 x21.1 3)),(9,pI v22)]) (fun (a25,c26) (v22,l24)=>[PRes.b b2 77 [pL eI x21.2.L,pI x21.2.I],PRes.b b20 95 [pI (IntKind.i64.wrap (2+(IntKind.i64.wrap (5*v8)))),pI (IntKind.i64.wrap (1+x19.1)),pO a25 l24.length c26,pN],PRes.row a25 l24.length c26 9 1 (List.map eS l24),PRes.row a6 l5.length c7 95 4 (List.map Zc.enc l5)]) (none,0) (ol rfl) (aY (ak aC) (aY (ak aC) py)) ?_
    rintro ⟨a25,c26⟩ ⟨v22,l24⟩ o τ hb32;(try dsimp only at hb32);dsimp only [aD]
    refine af (af (ah [35] [(36,pB (decide (v22<6)))] (by kernel_rfl) (cg rfl hb32 (fun hc35 hb32=>?_) fun hc35 hb32=>?_)))
    ·refine ai ?_
     refine du hb32 fun q41 hq41 hb32=>?_
     refine az (Y:=(Option Addr×Nat)×((List ByteArray))) (fun ((a38,c39),l40)=>[(3,pP b2 0),(4,pO a6 l5.length c7),(5,pI v8),(6,pI (IntKind.i64.wrap (1+x3.1))),(7,pP b20 0),(8,pI (qo .i64 x21.1 3)),(9,pI v22)]) (fun ((a38,c39),l40)=>[PRes.b b2 77 [pL eI x21.2.L,pI x21.2.I],PRes.b b20 95 [pI (IntKind.i64.wrap (2+(IntKind.i64.wrap (5*v8)))),pI (IntKind.i64.wrap (1+x19.1)),pO a38 l40.length c39,pN],PRes.row a6 l5.length c7 95 4 (List.map Zc.enc l5),PRes.row a38 l40.length c39 9 1 (List.map eS l40)]) (fun ((a38,c39),l40)=>q41=l40) ?_ ?_
     ·skip
      refine gX (ae hq41 fun u42 hu42 hq41=>ap [] [39,40,41,42] [(43,pB ((fm .i64 (cD .i64 (qo .i64 x21.1 3) v22) 1) == 1))] (uk 2 hu42 bL) (by kernel_rfl) (cg rfl hq41 (fun hc43 hq41=>?_) fun hc43 hq41=>?_))
      ·refine ae hq41 ?_;clear hq41;intro x44 hx44 hq41
       refine ae hq41 fun m45 hm45 hq41=>ae hq41 fun l48 hl48 hq41=>?_
       refine ki (Y:=Option Addr×Nat) (fun (a49,c50)=>[(3,pP b2 0),(4,pO a6 l5.length c7),(5,pI v8),(6,pI (IntKind.i64.wrap (1+x3.1))),(7,pP b20 0),(8,pI (qo .i64 x21.1 3)),(9,pI v22)]) (fun (a49,c50)=>[PRes.b b2 77 [pL eI x21.2.L,pI x21.2.I],PRes.b b20 95 [pI (IntKind.i64.wrap (2+(IntKind.i64.wrap (5*v8)))),pI (IntKind.i64.wrap (1+x19.1)),pO a49 l48.length c50,pN],PRes.row a6 l5.length c7 95 4 (List.map Zc.enc l5),PRes.row a49 l48.length c50 9 1 (List.map eS l48)]) (fun _=>True) ?_ ?_
       ·refine ka (ρd:=[PRes.row a25 _ _ _ _ _,PRes.b b20 _ _]) _ (aF (ak (ak aC)) (aF (ak aC) (List.Perm.refl _))) ?_
        refine bY 0 (by kernel_rfl) rfl rfl rfl rfl (bo rfl rfl rfl rfl rfl (.p rfl)) (bY 3 (by kernel_rfl) rfl rfl rfl rfl (eu (p:=pI v22) rfl (.p rfl)) ?_)
        refine ia 1 2 (by kernel_rfl) ?_ ?_
        ·skip
         refine ba rfl rfl rfl rfl (lA (cJ (p:=pO a25 l24.length c26) rfl (.p rfl) uV rfl) (bg 2 (by kernel_rfl) (mj rfl rfl rfl rfl rfl rfl (iQ hx44) (bY 4 (by kernel_rfl) rfl rfl rfl rfl (vA (enc:=eS) rfl rfl rfl (fun _=>rfl) (.p rfl) (.p rfl) (fun _=>hm45)) (bY 5 (by kernel_rfl) rfl rfl rfl rfl (oV (p:=pS m45) rfl (.p rfl) rfl) (bg 6 (by kernel_rfl) (ba rfl rfl rfl rfl (bG rfl rfl rfl rfl rfl (fL rfl jr) rfl rfl rfl rfl (fun b46=>bg 7 (by kernel_rfl) ?_)))))))))
         refine ba rfl rfl rfl rfl (bP (enc:=eS) rfl rfl rfl rfl rfl rfl rfl rfl rfl fF (by exact ak aC) hl48 (fun a49 c50=>?_))
         refine bY 8 (by kernel_rfl) rfl rfl rfl rfl (bo rfl rfl rfl rfl rfl (.p rfl)) (bg 9 (by kernel_rfl) (dL rfl rfl rfl (au (vs:=[pO a49 l48.length c50]) rfl rfl rfl rfl rfl (de (de cY)) (dY (dY mG)) (dK (by kernel_rfl) ?_))))
         exact gQ (a49,c50) (ol rfl) (aY (ak (ak (ak aC))) (aY (ak (ak aC)) (aY (ak (ak aC)) dM))) trivial
        skip
        refine mj rfl rfl rfl rfl rfl rfl (iQ hx44) (bY 4 (by kernel_rfl) rfl rfl rfl rfl (vA (enc:=eS) rfl rfl rfl (fun _=>rfl) (.p rfl) (.p rfl) (fun _=>hm45)) (bY 5 (by kernel_rfl) rfl rfl rfl rfl (oV (p:=pS m45) rfl (.p rfl) rfl) ?_))
        refine ia 1 6 (by kernel_rfl) ?_ ?_
        ·skip
         refine ba rfl rfl rfl rfl (lA (cJ (p:=pO a25 l24.length c26) rfl (.p rfl) uV rfl) (bg 6 (by kernel_rfl) (ba rfl rfl rfl rfl (bG rfl rfl rfl rfl rfl (fL rfl jr) rfl rfl rfl rfl (fun b46=>bg 7 (by kernel_rfl) ?_)))))
         refine ba rfl rfl rfl rfl (bP (enc:=eS) rfl rfl rfl rfl rfl rfl rfl rfl rfl fF (by exact ak aC) hl48 (fun a49 c50=>?_))
         refine bY 8 (by kernel_rfl) rfl rfl rfl rfl (bo rfl rfl rfl rfl rfl (.p rfl)) (bg 9 (by kernel_rfl) (dL rfl rfl rfl (au (vs:=[pO a49 l48.length c50]) rfl rfl rfl rfl rfl (de (de cY)) (dY (dY mG)) (dK (by kernel_rfl) ?_))))
         exact gQ (a49,c50) (ol rfl) (aY (ak (ak (ak aC))) (aY (ak (ak aC)) (aY (ak (ak aC)) dM))) trivial
        skip
        refine ba rfl rfl rfl rfl (bG rfl rfl rfl rfl rfl (fL rfl jr) rfl rfl rfl rfl (fun b46=>bg 1 (by kernel_rfl) (ba rfl rfl rfl rfl (lA (cJ (p:=pO a25 l24.length c26) rfl (.p rfl) ug rfl) (bg 7 (by kernel_rfl) ?_)))))
        refine ba rfl rfl rfl rfl (bP (enc:=eS) rfl rfl rfl rfl rfl rfl rfl rfl rfl fF (by exact ak aC) hl48 (fun a49 c50=>?_))
        refine bY 8 (by kernel_rfl) rfl rfl rfl rfl (bo rfl rfl rfl rfl rfl (.p rfl)) (bg 9 (by kernel_rfl) (dL rfl rfl rfl (au (vs:=[pO a49 l48.length c50]) rfl rfl rfl rfl rfl (de (de cY)) (dY (dY mG)) (dK (by kernel_rfl) ?_))))
        exact gQ (a49,c50) (ol rfl) (aY (ak (ak (ak aC))) (aY (ak (ak aC)) (aY (ak (ak aC)) dM))) trivial
       rintro ⟨a49,c50⟩ τ ρ1 hsub52 _;(try dsimp only at hsub52);dsimp only [aD]
       refine aH ?_
       obtain rfl:=osi hq41
       exact aG ((a49,c50),l48) (ol rfl) (PSub.trans zs4 hsub52) rfl
      refine ai ?_
      refine aH ?_
      obtain rfl:=osi hq41
      exact aG ((a25,c26),l24) (ol rfl) (aY aC (aY aC (aY (ak aC) dM))) rfl
     rintro ⟨⟨a38,c39⟩,l40⟩ τ hz;(try dsimp only at hz);subst q41;(try dsimp only at hb32);dsimp only [aD]
     refine ah [37,38] [(9,pI (IntKind.i64.wrap (v22+1)))] (by kernel_rfl) ?_
     exact bd hb32 (a38,c39) (ol rfl) (aY aC (aY aC (aY (ak aC) dM)))
    refine aR ?_
    refine av (an hb32 (fun ht=>ar rfl ?_))
    exact aG ((a25,c26),l24) (mO rfl) (aY aC (aY aC (aY (ak aC) dM))) ht.symm
   rintro ⟨⟨a29,c30⟩,l31⟩ τ hz;(try dsimp only at hz);subst q33;(try dsimp only at hb15);dsimp only [aD]
   refine af (af (ae hb15 fun x53 hx53 hb15=>aa (cE 4 [53,54] [(55,pB (decide (0<v8))),(56,pgv (decide (0<v8)) (pP b2 0))] (by kernel_rfl) ?_)))
   refine rB (oz rfl rfl rfl) rfl rfl rfl (by exact aC) (mi (.g rfl) (mi (.p rfl) sS)) (fun hc=>aB (gdp_t hx53 hc)) (fun hc=>by rw [gdp_f hx53 hc]) ?_
   refine qX (oz rfl rfl rfl) rfl rfl (xc rfl (.g rfl) (.p rfl) rfl) (bD rfl rfl rfl (xb rfl (.p rfl) (.p rfl) (.g rfl)) (aw (dN hb15 fun q59 hq59 hb15=>?_)))
   refine az (Y:=Unit×((List Int)×Int×(List Zk))) (fun (_,(l55,v56,l58))=>[(3,pP b2 0),(4,pO a6 l5.length c7),(5,pI v8),(6,pI (IntKind.i64.wrap (1+x3.1))),(7,pP b20 0)]) (fun (_,(l55,v56,l58))=>[PRes.b b2 77 [pL eI l55,pI v56],PRes.b b20 95 [pI (IntKind.i64.wrap (2+(IntKind.i64.wrap (5*v8)))),pI (IntKind.i64.wrap (1+x19.1)),pO a29 l31.length c30,pL Zk.enc l58],PRes.row a6 l5.length c7 95 4 (List.map Zc.enc l5),PRes.row a29 l31.length c30 9 1 (List.map eS l31)]) (fun (_,(l55,v56,l58))=>q59=(l55,v56,l58)) ?_ ?_
   ·skip
    refine js rfl hq59 (fun hc60 hq59=>?_) fun hc60 hq59=>?_
    ·refine ae hq59 ?_;clear hq59;intro m61 hm61 hq59
     refine aa (cE 3 [61] [(60,pO a6 l5.length c7),(62,pI (IntKind.i64.wrap (v8 - 1)))] (by kernel_rfl) (bD rfl rfl rfl (dB (enc:=Zc.enc) (xs:=l5) rfl rfl rfl (.p rfl) ug (.p rfl) (fun _=>hm61)) (am 1 [(64,pP (mW a6) ((IntKind.i64.wrap (v8 - 1)).toNat * 4+3))] (by kernel_rfl) (bD rfl rfl rfl (ca (sz:=4) (p:=pL Zk.enc m61.Rules) (enc:=Zc.enc) (xs:=l5) (a:=a6) (IntKind.i64.wrap (v8 - 1)) 3 m61 rfl (.p rfl) rfl ug (fun _=>hm61) rfl) (am 1 [(66,pP b20 3)] (by kernel_rfl) (aX rfl rfl (au (vs:=[pL Zk.enc m61.Rules]) rfl rfl rfl rfl rfl (de cY) (dY (dY (dY mG))) (aw ?_))))))))
     obtain rfl:=osi hq59
     exact aG ((),(x53.2.L,x53.2.I,m61.Rules)) (mO rfl) zs4 rfl
    refine af ?_
    refine aa (aj rfl (bG rfl rfl rfl rfl rfl (fL rfl (fL rfl (fL rfl (fL rfl (fL rfl jr))))) rfl rfl rfl rfl (fun b62=>aM [(10,pO (some ⟨b62,0,none⟩) 5 5)] (by kernel_rfl) (du hq59 fun x64 hx64 hq59=>aa (am 1 [(68,pP b2 0)] (by kernel_rfl) ?_)))))
    refine aj rfl (aW rfl rfl (ρ1:=[_]) (aF (by exact ak aC) (List.Perm.refl _)) (aB hx64) ?_);rintro _ _ ⟨rfl,rfl⟩
    refine fu [70] [(11,pI (IntKind.i64.wrap (1+x64.1)))] (by kernel_rfl) (bM (al [(12,pI 0)] (by kernel_rfl) (aL (bI 101 8 (ae hq59 fun q81 hq81 hq59=>?_)))))
    refine ki (Y:=(Option Addr×Nat)×((List Int)×Int×(List Zk))) (fun ((a77,c78),(l73,v74,l79))=>[(3,pP b2 0),(4,pO a6 l5.length c7),(5,pI v8),(6,pI (IntKind.i64.wrap (1+x3.1))),(7,pP b20 0)]) (fun ((a77,c78),(l73,v74,l79))=>[PRes.b b2 77 [pL eI l73,pI v74],PRes.b b20 95 [pI (IntKind.i64.wrap (2+(IntKind.i64.wrap (5*v8)))),pI (IntKind.i64.wrap (1+x19.1)),pO a29 l31.length c30,pO a77 l79.length c78],PRes.row a6 l5.length c7 95 4 (List.map Zc.enc l5),PRes.row a29 l31.length c30 9 1 (List.map eS l31),PRes.row a77 l79.length c78 101 8 (List.map Zk.enc l79)]) (fun ((a77,c78),(l73,v74,l79))=>q81=(l73,v74,l79)) ?_ ?_
    ·refine aJ ?_
     refine aK (Y:=Option Addr×Nat) (S:=Int×(List Int)×Int×(List Zk)) _ hq81 (fun (a70,c71) (v65,l66,v67,l69)=>[(3,pP b2 0),(4,pO a6 l5.length c7),(5,pI v8),(6,pI (IntKind.i64.wrap (1+x3.1))),(7,pP b20 0),(10,pO (some ⟨b62,0,none⟩) 5 5),(11,pI (IntKind.i64.wrap (1+x64.1))),(12,pI v65)]) (fun (a70,c71) (v65,l66,v67,l69)=>[PRes.b b2 77 [pL eI l66,pI v67],PRes.b b20 95 [pI (IntKind.i64.wrap (2+(IntKind.i64.wrap (5*v8)))),pI (IntKind.i64.wrap (1+x19.1)),pO a29 l31.length c30,pO a70 l69.length c71],PRes.row a6 l5.length c7 95 4 (List.map Zc.enc l5),PRes.row a29 l31.length c30 9 1 (List.map eS l31),PRes.row (some ⟨b62,0,none⟩) 5 5 9 1 (List.map eS [(⟨#[57,52]⟩:ByteArray),(⟨#[57,52,48,49]⟩:ByteArray),(⟨#[57,52,48,49,48,50]⟩:ByteArray),(⟨#[57,53]⟩:ByteArray),(⟨#[57,53,48,50]⟩:ByteArray)]),PRes.row a70 l69.length c71 101 8 (List.map Zk.enc l69)]) (none,0) (nH rfl) (aY (ak aC) (aY (ak (ak aC)) (aY (ak (ak aC)) (aY (ak (ak aC)) (aY (ak aC) dM))))) ?_
     rintro ⟨a70,c71⟩ ⟨v65,l66,v67,l69⟩ o τ hb80;(try dsimp only at hb80);dsimp only [aD]
     refine af (af (ah [71] [(72,pB (decide (v65<5)))] (by kernel_rfl) (cg rfl hb80 (fun hc83 hb80=>?_) fun hc83 hb80=>?_)))
     ·refine ai ?_
      refine du hb80 fun q93 hq93 hb80=>?_
      refine az (Y:=(Option Addr×Nat)×((List Int)×Int×(List Zk))) (fun ((a90,c91),(l86,v87,l92))=>[(3,pP b2 0),(4,pO a6 l5.length c7),(5,pI v8),(6,pI (IntKind.i64.wrap (1+x3.1))),(7,pP b20 0),(10,pO (some ⟨b62,0,none⟩) 5 5),(11,pI (IntKind.i64.wrap (1+x64.1))),(12,pI v65)]) (fun ((a90,c91),(l86,v87,l92))=>[PRes.b b2 77 [pL eI l86,pI v87],PRes.b b20 95 [pI (IntKind.i64.wrap (2+(IntKind.i64.wrap (5*v8)))),pI (IntKind.i64.wrap (1+x19.1)),pO a29 l31.length c30,pO a90 l92.length c91],PRes.row a6 l5.length c7 95 4 (List.map Zc.enc l5),PRes.row (some ⟨b62,0,none⟩) 5 5 9 1 (List.map eS [(⟨#[57,52]⟩:ByteArray),(⟨#[57,52,48,49]⟩:ByteArray),(⟨#[57,52,48,49,48,50]⟩:ByteArray),(⟨#[57,53]⟩:ByteArray),(⟨#[57,53,48,50]⟩:ByteArray)]),PRes.row a29 l31.length c30 9 1 (List.map eS l31),PRes.row a90 l92.length c91 101 8 (List.map Zk.enc l92)]) (fun ((a90,c91),(l86,v87,l92))=>q93=(l86,v87,l92)) ?_ ?_
      ·skip
       refine gX (ae hq93 fun u94 hu94 hq93=>ap [] [75,76,77,78] [(79,pB ((fm .i64 (cD .i64 (IntKind.i64.wrap (1+x64.1)) v65) 1) == 1))] (uk 2 hu94 bL) (by kernel_rfl) (cg rfl hq93 (fun hc95 hq93=>?_) fun hc95 hq93=>?_))
       ·refine ae hq93 ?_;clear hq93;intro m96 hm96 hq93
        refine ae hq93 fun x97 hx97 hq93=>ae hq93 fun l100 hl100 hq93=>?_
        refine ki (Y:=Option Addr×Nat) (fun (a101,c102)=>[(3,pP b2 0),(4,pO a6 l5.length c7),(5,pI v8),(6,pI (IntKind.i64.wrap (1+x3.1))),(7,pP b20 0),(10,pO (some ⟨b62,0,none⟩) 5 5),(11,pI (IntKind.i64.wrap (1+x64.1))),(12,pI v65)]) (fun (a101,c102)=>[PRes.b b2 77 [pL eI x97.2.L,pI x97.2.I],PRes.b b20 95 [pI (IntKind.i64.wrap (2+(IntKind.i64.wrap (5*v8)))),pI (IntKind.i64.wrap (1+x19.1)),pO a29 l31.length c30,pO a101 l100.length c102],PRes.row a101 l100.length c102 101 8 (List.map Zk.enc l100),PRes.row a6 l5.length c7 95 4 (List.map Zc.enc l5),PRes.row a29 l31.length c30 9 1 (List.map eS l31),PRes.row (some ⟨b62,0,none⟩) 5 5 9 1 (List.map eS [(⟨#[57,52]⟩:ByteArray),(⟨#[57,52,48,49]⟩:ByteArray),(⟨#[57,52,48,49,48,50]⟩:ByteArray),(⟨#[57,53]⟩:ByteArray),(⟨#[57,53,48,50]⟩:ByteArray)])]) (fun _=>True) ?_ ?_
        ·refine ka (ρd:=[PRes.b b2 _ _,PRes.row a70 _ _ _ _ _,PRes.b b20 _ _]) _ (aF aC (aF (ak (ak (ak (ak aC)))) (List.Perm.refl _))) ?_
         refine bY 0 (by kernel_rfl) rfl rfl rfl rfl (bo rfl rfl rfl rfl rfl (.p rfl)) (bY 2 (by kernel_rfl) rfl rfl rfl rfl (eu (p:=pO (some ⟨b62,0,none⟩) 5 5) rfl (.p rfl)) (bY 3 (by kernel_rfl) rfl rfl rfl rfl (eu (p:=pI v65) rfl (.p rfl)) (bY 4 (by kernel_rfl) rfl rfl rfl rfl (dB (enc:=eS) (xs:=[(⟨#[57,52]⟩:ByteArray),(⟨#[57,52,48,49]⟩:ByteArray),(⟨#[57,52,48,49,48,50]⟩:ByteArray),(⟨#[57,53]⟩:ByteArray),(⟨#[57,53,48,50]⟩:ByteArray)]) rfl rfl rfl (.p rfl) ug (.p rfl) (fun _=>hm96)) (bY 5 (by kernel_rfl) rfl rfl rfl rfl (ca (sz:=1) (p:=pS m96) (enc:=eS) (xs:=[(⟨#[57,52]⟩:ByteArray),(⟨#[57,52,48,49]⟩:ByteArray),(⟨#[57,52,48,49,48,50]⟩:ByteArray),(⟨#[57,53]⟩:ByteArray),(⟨#[57,53,48,50]⟩:ByteArray)]) (a:=(some ⟨b62,0,none⟩)) v65 0 m96 rfl (.p rfl) rfl ug (fun _=>hm96) rfl) (bY 6 (by kernel_rfl) rfl rfl rfl rfl (eu (p:=pP b2 0) rfl (.p rfl)) ?_)))))
         refine ia 1 7 (by kernel_rfl) ?_ ?_
         ·skip
          refine ba rfl rfl rfl rfl (lA (cJ (p:=pO a70 l69.length c71) rfl (.p rfl) ug rfl) (bg 7 (by kernel_rfl) ?_))
          refine ba rfl rfl rfl rfl (aW rfl rfl (ρ1:=[_]) (aF (by exact aC) (List.Perm.refl _)) (jP hx97) ?_);rintro _ _ ⟨rfl,rfl⟩
          refine bY 8 (by kernel_rfl) rfl rfl rfl rfl (sU (cs:=[pS m96,pI x97.1.Kind,pI x97.1.Digits,pL eS x97.1.Except,pI x97.1.Tolerance,pI x97.1.Limit,pS x97.1.Name,pL Ze.enc x97.1.Args]) rfl rfl rfl rfl rfl rfl rfl (zfc rfl rfl rfl rfl mG (zfc rfl rfl rfl rfl (dY om) zfn))) (bg 9 (by kernel_rfl) (ba rfl rfl rfl rfl (bG rfl rfl rfl rfl rfl (fL rfl jr) rfl rfl rfl rfl (fun b98=>bg 10 (by kernel_rfl) ?_))))
          refine ba rfl rfl rfl rfl (bP (enc:=Zk.enc) rfl rfl rfl rfl rfl rfl rfl rfl rfl fF (by exact ak (ak aC)) hl100 (fun a101 c102=>?_))
          refine bY 11 (by kernel_rfl) rfl rfl rfl rfl (bo rfl rfl rfl rfl rfl (.p rfl)) (bg 12 (by kernel_rfl) (dL rfl rfl rfl (au (vs:=[pO a101 l100.length c102]) rfl rfl rfl rfl rfl (de (de (de cY))) (dY (dY (dY mG))) (dK (by kernel_rfl) ?_))))
          exact gQ (a101,c102) (nH rfl) (aY (ak (ak aC)) (aY (ak (ak aC)) (aY aC (aY (ak aC) (aY (ak aC) (aY (ak aC) bX)))))) trivial
         skip
         refine ba rfl rfl rfl rfl (aW rfl rfl (ρ1:=[_]) (aF (by exact aC) (List.Perm.refl _)) (jP hx97) ?_);rintro _ _ ⟨rfl,rfl⟩
         refine bY 8 (by kernel_rfl) rfl rfl rfl rfl (sU (cs:=[pS m96,pI x97.1.Kind,pI x97.1.Digits,pL eS x97.1.Except,pI x97.1.Tolerance,pI x97.1.Limit,pS x97.1.Name,pL Ze.enc x97.1.Args]) rfl rfl rfl rfl rfl rfl rfl (zfc rfl rfl rfl rfl mG (zfc rfl rfl rfl rfl (dY om) zfn))) ?_
         refine ia 1 9 (by kernel_rfl) ?_ ?_
         ·skip
          refine ba rfl rfl rfl rfl (lA (cJ (p:=pO a70 l69.length c71) rfl (.p rfl) ug rfl) (bg 9 (by kernel_rfl) (ba rfl rfl rfl rfl (bG rfl rfl rfl rfl rfl (fL rfl jr) rfl rfl rfl rfl (fun b98=>bg 10 (by kernel_rfl) ?_)))))
          refine ba rfl rfl rfl rfl (bP (enc:=Zk.enc) rfl rfl rfl rfl rfl rfl rfl rfl rfl fF (by exact ak (ak aC)) hl100 (fun a101 c102=>?_))
          refine bY 11 (by kernel_rfl) rfl rfl rfl rfl (bo rfl rfl rfl rfl rfl (.p rfl)) (bg 12 (by kernel_rfl) (dL rfl rfl rfl (au (vs:=[pO a101 l100.length c102]) rfl rfl rfl rfl rfl (de (de (de cY))) (dY (dY (dY mG))) (dK (by kernel_rfl) ?_))))
          exact gQ (a101,c102) (nH rfl) (aY (ak (ak aC)) (aY (ak (ak aC)) (aY aC (aY (ak aC) (aY (ak aC) (aY (ak aC) bX)))))) trivial
         skip
         refine ba rfl rfl rfl rfl (bG rfl rfl rfl rfl rfl (fL rfl jr) rfl rfl rfl rfl (fun b98=>bg 1 (by kernel_rfl) (ba rfl rfl rfl rfl (lA (cJ (p:=pO a70 l69.length c71) rfl (.p rfl) zG rfl) (bg 10 (by kernel_rfl) ?_)))))
         refine ba rfl rfl rfl rfl (bP (enc:=Zk.enc) rfl rfl rfl rfl rfl rfl rfl rfl rfl fF (by exact ak (ak aC)) hl100 (fun a101 c102=>?_))
         refine bY 11 (by kernel_rfl) rfl rfl rfl rfl (bo rfl rfl rfl rfl rfl (.p rfl)) (bg 12 (by kernel_rfl) (dL rfl rfl rfl (au (vs:=[pO a101 l100.length c102]) rfl rfl rfl rfl rfl (de (de (de cY))) (dY (dY (dY mG))) (dK (by kernel_rfl) ?_))))
         exact gQ (a101,c102) (nH rfl) (aY (ak (ak aC)) (aY (ak (ak aC)) (aY aC (aY (ak aC) (aY (ak aC) (aY (ak aC) bX)))))) trivial
        rintro ⟨a101,c102⟩ τ ρ1 hsub104 _;(try dsimp only at hsub104);dsimp only [aD]
        refine aH ?_
        obtain rfl:=osi hq93
        exact aG ((a101,c102),(x97.2.L,x97.2.I,l100)) (nH rfl) (PSub.trans (aY aC (aY aC (aY (ak aC) (aY (ak (ak aC)) (aY (ak aC) dM))))) hsub104) rfl
       refine ai ?_
       refine aH ?_
       obtain rfl:=osi hq93
       exact aG ((a70,c71),(l66,v67,l69)) (nH rfl) (aY aC (aY aC (aY aC (aY (ak aC) py)))) rfl
      rintro ⟨⟨a90,c91⟩,⟨l86,v87,l92⟩⟩ τ hz;(try dsimp only at hz);subst q93;(try dsimp only at hb80);dsimp only [aD]
      refine ah [73,74] [(12,pI (IntKind.i64.wrap (v65+1)))] (by kernel_rfl) ?_
      exact bd hb80 (a90,c91) (nH rfl) (aY aC (aY aC (aY aC (aY (ak aC) py))))
     refine aR ?_
     refine av (an hb80 (fun ht=>ar rfl ?_))
     exact gQ ((a70,c71),(l66,v67,l69)) (mO rfl) (aY aC (aY aC (aY aC (aY aC (aY (ak aC) bX))))) ht.symm
    rintro ⟨⟨a77,c78⟩,⟨l73,v74,l79⟩⟩ τ ρ1 hsub105 hz;(try dsimp only at hz hsub105);subst q81;(try dsimp only at hq59);dsimp only [aD]
    refine mb (cov_sub hsub105) ?_
    refine mb (cov_frz (css:=List.map Zk.enc l79) (a:=a77) (by exact ak (ak (ak (ak aC))))) ?_
    refine mb (zD (k:=3) (enc:=Zk.enc) (xs:=l79) (b:=b20) (a:=a77) rfl fF (de (de cY))) ?_
    obtain rfl:=osi hq59
    exact aG ((),(l73,v74,l79)) (mO rfl) (aY (ak aC) (aY (ak aC) (aY (ak aC) (aY (ak aC) bX)))) rfl
   rintro ⟨_,⟨l55,v56,l58⟩⟩ τ hz;(try dsimp only at hz);subst q59;(try dsimp only at hb15);dsimp only [aD]
   refine aa (am 1 [(92,pO a6 l5.length c7)] (by kernel_rfl) ?_)
   refine kT (css:=List.map eS l31) (a:=a29) (by exact ak (ak (ak aC))) ?_
   refine jh (k:=2) (enc:=eS) (xs:=l31) (b:=b20) (a:=a29) rfl fF (de (de cY)) (fO 1 [2] [(93,.agg [pI (IntKind.i64.wrap (2+(IntKind.i64.wrap (5*v8)))),pI (IntKind.i64.wrap (1+x19.1)),pL eS l31,pL Zk.enc l58])] (by kernel_rfl) (aj rfl (bG rfl rfl rfl rfl rfl (fL rfl jr) rfl rfl rfl rfl (fun b106=>ae hb15 fun l108 hl108 hb15=>?_))))
   refine aj rfl (bP (enc:=Zc.enc) rfl rfl rfl rfl rfl rfl rfl rfl rfl fF (by exact ak (ak (ak (ak aC)))) hl108 (fun a109 c110=>?_))
   refine aM [(4,pO a109 l108.length c110)] (by kernel_rfl) (mn (ah [23,24] [(5,pI (IntKind.i64.wrap (v8+1)))] (by kernel_rfl) ?_))
   exact bd hb15 (a109,c110) (jt rfl) (aY (ak (ak (ak aC))) dM)
  refine aR ?_
  refine av (an hb15 (fun ht=>ar rfl ?_))
  exact aG ((a6,c7),l5) (xj rfl) (aY (ak aC) bX) ht.symm
 rintro ⟨⟨a12,c13⟩,l14⟩ τ hz;(try dsimp only at hz);subst q16;(try dsimp only at h);dsimp only [aD]
 refine af (ah [96] [(2,pO a12 l14.length c13)] (by kernel_rfl) (eD ?_))
 obtain rfl:=osi h
 exact aO (dh (aP rfl)) dM ⟨_,_,rfl,rfl⟩
def gZ (p0:Int):Option ByteArray:=(dF p0 8).bind fun x3=>(idx [(⟨#[66,66]⟩:ByteArray),(⟨#[66,66]⟩:ByteArray),(⟨#[66,66]⟩:ByteArray),(⟨#[65,65]⟩:ByteArray),(⟨#[67,67]⟩:ByteArray),(⟨#[68,68]⟩:ByteArray),(⟨#[69,69]⟩:ByteArray),(⟨#[70,70]⟩:ByteArray)] x3).bind fun m4=>some m4
theorem o5 {p0:Int} {r:ByteArray}  (h:gZ p0=some r):PF 16 [pI p0] (pS r):=by
 unfold gZ at h
 refine br ?_
 refine eW Tryz.func16 rfl Tryz.ntmps16 Tryz.results16 rfl (aU [2] (by kernel_rfl) (bM (aa (aj rfl (bG rfl rfl rfl rfl rfl (fL rfl (fL rfl (fL rfl (fL rfl (fL rfl (fL rfl (fL rfl (fL rfl jr)))))))) rfl rfl rfl rfl (fun b1=>ae h fun x3 hx3 h=>ae h fun m4 hm4 h=>bm 2 [] [4] [(5,pI x3)] (bR 1 (fQ hx3) bL) (by kernel_rfl) (bD rfl rfl rfl (dB (enc:=eS) (xs:=[(⟨#[66,66]⟩:ByteArray),(⟨#[66,66]⟩:ByteArray),(⟨#[66,66]⟩:ByteArray),(⟨#[65,65]⟩:ByteArray),(⟨#[67,67]⟩:ByteArray),(⟨#[68,68]⟩:ByteArray),(⟨#[69,69]⟩:ByteArray),(⟨#[70,70]⟩:ByteArray)]) rfl rfl rfl (.p rfl) fF (.p rfl) (fun _=>hm4)) (bD rfl rfl rfl (ca (sz:=1) (p:=pS m4) (enc:=eS) (xs:=[(⟨#[66,66]⟩:ByteArray),(⟨#[66,66]⟩:ByteArray),(⟨#[66,66]⟩:ByteArray),(⟨#[65,65]⟩:ByteArray),(⟨#[67,67]⟩:ByteArray),(⟨#[68,68]⟩:ByteArray),(⟨#[69,69]⟩:ByteArray),(⟨#[70,70]⟩:ByteArray)]) (a:=(some ⟨b1,0,none⟩)) x3 0 m4 rfl (.p rfl) rfl fF (fun _=>hm4) rfl) (aM [(2,pS m4)] (by kernel_rfl) (eD ?_))))))))))
 exact zz r h rfl
def bC (p0:(List Zb)) (p1:(Zb→Option Bool)):Option Int:=(bf (S:=Int) (T:=(Unit)⊕(_)) (fun v1=>cond (decide (v1<(p0.length:Int))) ((idx p0 v1).bind fun m5=>(p1 m5).bind fun x6=>cond x6 (some (.inr (.inr v1))) (some (.inl (IntKind.i64.wrap (v1+1))))) (some (.inr (.inl ())))) FUEL 0).bind fun q=>match q with | .inl _=>some (-1) | .inr e=>some e
theorem fX {p0:(List Zb)} {p1:(Zb→Option Bool)} {r:Int} {g1:PV} (hg1:∀ {y0:Zb} {w:Bool},p1 y0=some w→PFV g1 [.agg (aZ y0)] (pB w)) (h:bC p0 p1=some r):PF 150 [pL Zb.enc p0,g1] (pI r):=by
 unfold bC at h
 refine br ?_
 refine eW Tryz.func150 rfl Tryz.ntmps150 Tryz.results150 rfl (aU [4] (by kernel_rfl) (dn (ah [6] [(7,pI (p0.length:Int)),(8,pI 0)] (by kernel_rfl) (dN h fun q3 hq3 h=>?_))))
 refine az (Y:=Unit×Unit) (fun (_,_)=>[]) (fun (_,_)=>[]) (fun (_,_)=>q3=Sum.inl ()) ?_ ?_
 ·refine aJ ?_
  refine aK (Y:=Unit) (S:=Int) _ hq3 (fun _ v1=>[(0,pL Zb.enc p0),(1,g1),(7,pI (p0.length:Int)),(8,pI v1)]) (fun _ v1=>[]) () (jt rfl) bX ?_
  rintro _ v1 o τ hb2;(try dsimp only at hb2);dsimp only [aD]
  refine af (al [(9,pB (decide (v1<(p0.length:Int))))] (by kernel_rfl) (bM (js rfl hb2 (fun hc4 hb2=>?_) fun hc4 hb2=>?_)))
  ·refine ai ?_
   refine bM (gX (ah [10] [(5,pI v1)] (by kernel_rfl) (du hb2 fun m5 hm5 hb2=>ae hb2 fun x6 hx6 hb2=>ap [] (rg 11 5) [(16,pB x6)] (fG 3 Zb.enc hm5 (xn 5 (hg1 hx6) bL)) (by kernel_rfl) (cg rfl hb2 (fun hc7 hb2=>?_) fun hc7 hb2=>?_))))
   ·refine af ?_
    refine ah [17] [(4,pI v1)] (by kernel_rfl) (eD (iw ?_))
    refine aS hb2 (fun ht=>?_);subst ht
    refine aA (aV ?_)
    exact zz r h rfl
   refine ai ?_
   refine mn (ah [18] [(8,pI (IntKind.i64.wrap (v1+1)))] (by kernel_rfl) ?_)
   exact bd hb2 () (jt rfl) bX
  refine aR ?_
  refine av (an hb2 (fun ht=>ar rfl ?_))
  exact aG ((),()) oj bX ht.symm
 rintro ⟨_,_⟩ τ hz;(try dsimp only at hz);subst q3;(try dsimp only at h);dsimp only [aD]
 refine af (fP [(4,pI (-1))] (by kernel_rfl) ?_)
 exact zz r h rfl
def bu (p0:(List Zb)) (p1:(Zb→Option Bool)):Option Bool:=(bC p0 p1).bind fun x1=>some (decide (0≤x1))
theorem fE {p0:(List Zb)} {p1:(Zb→Option Bool)} {r:Bool} {g1:PV} (hg1:∀ {y0:Zb} {w:Bool},p1 y0=some w→PFV g1 [.agg (aZ y0)] (pB w)) (h:bu p0 p1=some r):PF 114 [pL Zb.enc p0,g1] (pB r):=by
 unfold bu at h
 refine br ?_
 refine eW Tryz.func114 rfl Tryz.ntmps114 Tryz.results114 rfl (aU [4] (by kernel_rfl) (du h fun x1 hx1 h=>ap [] [5,6,7,8] [(4,pB (decide (0≤x1)))] (bR 2 (fX hg1 hx1) bL) (by kernel_rfl) (eD ?_)))
 exact zz r h rfl
def bW (p0:Zb) (p1:Zf):Option Bool:=some (p0.ID == p1.Product)
theorem jl {p0:Zb} {p1:Zf} {r:Bool}  (h:bW p0 p1=some r):PF 115 [.agg (aZ p0),.ref [pI p1.Product,pI p1.Value] 0] (pB r):=by
 unfold bW at h
 refine br ?_
 refine eW Tryz.func115 rfl Tryz.ntmps115 Tryz.results115 rfl (aa (aj rfl (bE (cs:=(aZ p0)) rfl rfl (fun b1=>bA [3] (by kernel_rfl) (bM (bc [0] (rg 4 5) [(3,pB (p0.ID == p1.Product))] (by kernel_rfl) (eD ?_)))))))
 exact zz r h rfl
def cL (p0:(List Zb)) (p1:(List Zf)):Option Int:=(bf (S:=Int) (T:=(Unit)⊕(_)) (fun v1=>cond (decide (v1<(p1.length:Int))) ((idx p1 v1).bind fun m5=>(gd (decide (0<v1)) (idx p1 (IntKind.i64.wrap (v1 - 1)))).bind fun m7=>cond ((decide (0<v1))&&(decide (m5.Product≤m7.Product))) (some (.inr (.inr (9:Int)))) ((bu p0 (fun y9=>bW y9 m5)).bind fun x10=>cond (!x10) (some (.inr (.inr (6:Int)))) (cond ((decide (m5.Value<0))||(decide (1000000000000<m5.Value))) (some (.inr (.inr (2:Int)))) (some (.inl (IntKind.i64.wrap (v1+1))))))) (some (.inr (.inl ())))) FUEL 0).bind fun q=>match q with | .inl _=>some (0:Int) | .inr e=>some e
theorem jH {p0:(List Zb)} {p1:(List Zf)} {r:Int}  (h:cL p0 p1=some r):PF 74 [pL Zb.enc p0,pL Zf.enc p1] (pI r):=by
 unfold cL at h
 refine br ?_
 refine eW Tryz.func74 rfl Tryz.ntmps74 Tryz.results74 rfl (aU [4] (by kernel_rfl) (dn (al [(7,pL Zf.enc p1),(8,pI (p1.length:Int)),(9,pI 0)] (by kernel_rfl) (dN h fun q3 hq3 h=>?_))))
 refine az (Y:=Unit×Unit) (fun (_,_)=>[]) (fun (_,_)=>[]) (fun (_,_)=>q3=Sum.inl ()) ?_ ?_
 ·refine aJ ?_
  refine aK (Y:=Unit) (S:=Int) _ hq3 (fun _ v1=>[(0,pL Zb.enc p0),(1,pL Zf.enc p1),(7,pL Zf.enc p1),(8,pI (p1.length:Int)),(9,pI v1)]) (fun _ v1=>[]) () (mO rfl) bX ?_
  rintro _ v1 o τ hb2;(try dsimp only at hb2);dsimp only [aD]
  refine af (al [(10,pB (decide (v1<(p1.length:Int))))] (by kernel_rfl) (bM (js rfl hb2 (fun hc4 hb2=>?_) fun hc4 hb2=>?_)))
  ·refine ai ?_
   refine bM (gX (ae hb2 fun m5 hm5 hb2=>aa (bm 3 [] [12] [(11,pI v1),(13,.agg [pI m5.Product,pI m5.Value])] (fG 1 Zf.enc hm5 bL) (by kernel_rfl) (aj rfl (aT (cs:=[pI 0,pI 0]) rfl rfl rfl rfl (fun b6=>am 1 [(5,pI v1)] (by kernel_rfl) (aX rfl rfl (au (vs:=[pI m5.Product,pI m5.Value]) rfl rfl rfl rfl rfl cY Bp (aw (dn (dg (ρd:=[]) [(0,0),(1,0),(2,0),(3,0),(4,0),(5,0),(6,0),(7,0),(8,0),(9,0),(10,0),(11,0),(12,0)] _ (List.Perm.refl _) (by kernel_rfl) rfl (ae hb2 fun m7 hm7 hb2=>dH 13 [0] (rg 14 12) [(26,pB ((decide (0<v1))&&(decide (m5.Product≤m7.Product))))] (mY 8 Zf.enc (gq hm7) bL) (by kernel_rfl) (ey (cg rfl hb2 (fun hc8 hb2=>?_) fun hc8 hb2=>?_))))))))))))))
   ·refine af ?_
    refine fP [(4,pI 9)] (by kernel_rfl) (aq (iw ?_))
    refine aS hb2 (fun ht=>?_);subst ht
    refine aA (aV ?_)
    exact zz r h rfl
   refine ai ?_
   refine dn (aa (am 1 [(27,pL Zb.enc p0)] (by kernel_rfl) ?_))
   refine jo 6 rfl (by exact aC) ?_
   refine ae hb2 fun x10 hx10 hb2=>gr [] [28,29] [(30,pB (!x10))] (bR 1 (fE (fun hr=>nP (jl hr)) hx10) bL) (by kernel_rfl) (cg rfl hb2 (fun hc11 hb2=>?_) fun hc11 hb2=>?_)
   ·refine af ?_
    refine fP [(4,pI 6)] (by kernel_rfl) (aq (iw ?_))
    refine aS hb2 (fun ht=>?_);subst ht
    refine aA (aV ?_)
    exact zz r h rfl
   refine ai ?_
   refine bM (ah (rg 31 7) [(38,pB ((decide (m5.Value<0))||(decide (1000000000000<m5.Value))))] (by kernel_rfl) (cg rfl hb2 (fun hc12 hb2=>?_) fun hc12 hb2=>?_))
   ·refine af ?_
    refine fP [(4,pI 2)] (by kernel_rfl) (iw ?_)
    refine aS hb2 (fun ht=>?_);subst ht
    refine aA (aV ?_)
    exact zz r h rfl
   refine ai ?_
   refine mn (ah [39] [(9,pI (IntKind.i64.wrap (v1+1)))] (by kernel_rfl) ?_)
   exact bd hb2 () (mO rfl) bX
  refine aR ?_
  refine av (an hb2 (fun ht=>ar rfl ?_))
  exact aG ((),()) oj bX ht.symm
 rintro ⟨_,_⟩ τ hz;(try dsimp only at hz);subst q3;(try dsimp only at h);dsimp only [aD]
 refine af (fP [(4,pI 0)] (by kernel_rfl) ?_)
 exact zz r h rfl
def di (p0:(List ByteArray)):Option Bool:=(bf (S:=Int) (T:=(Unit)⊕(_)) (fun v1=>cond (decide (v1<(p0.length:Int))) ((idx p0 v1).bind fun m5=>(bK m5).bind fun x6=>(gd ((!(!x6))&&(decide (0<v1))) (idx p0 (IntKind.i64.wrap (v1 - 1)))).bind fun m7=>cond ((!x6)||((decide (0<v1))&&(Op.bytesLess m5.toList m7.toList||decide (m5=m7)))) (some (.inr (.inr false))) (some (.inl (IntKind.i64.wrap (v1+1))))) (some (.inr (.inl ())))) FUEL 0).bind fun q=>match q with | .inl _=>some true | .inr e=>some e
theorem kw {p0:(List ByteArray)} {r:Bool}  (h:di p0=some r):PF 75 [pL eS p0] (pB r):=by
 unfold di at h
 refine br ?_
 refine eW Tryz.func75 rfl Tryz.ntmps75 Tryz.results75 rfl (aU [2] (by kernel_rfl) (dn (al [(5,pL eS p0),(6,pI (p0.length:Int)),(7,pI 0)] (by kernel_rfl) (dN h fun q3 hq3 h=>?_))))
 refine az (Y:=Unit×Unit) (fun (_,_)=>[]) (fun (_,_)=>[]) (fun (_,_)=>q3=Sum.inl ()) ?_ ?_
 ·refine aJ ?_
  refine aK (Y:=Unit) (S:=Int) _ hq3 (fun _ v1=>[(0,pL eS p0),(5,pL eS p0),(6,pI (p0.length:Int)),(7,pI v1)]) (fun _ v1=>[]) () (jt rfl) bX ?_
  rintro _ v1 o τ hb2;(try dsimp only at hb2);dsimp only [aD]
  refine af (al [(8,pB (decide (v1<(p0.length:Int))))] (by kernel_rfl) (bM (js rfl hb2 (fun hc4 hb2=>?_) fun hc4 hb2=>?_)))
  ·refine ai ?_
   refine bM (gX (ae hb2 fun m5 hm5 hb2=>ap [] [9,10,11] [(3,pI v1),(4,pS m5)] (fG 1 eS hm5 bL) (by kernel_rfl) (du hb2 fun x6 hx6 hb2=>ae hb2 fun m7 hm7 hb2=>ap [] (rg 12 15) [(27,pB ((!x6)||((decide (0<v1))&&(Op.bytesLess m5.toList m7.toList||decide (m5=m7)))))] (bR 1 (dw hx6) (mY 11 eS (gq hm7) bL)) (by kernel_rfl) (cg rfl hb2 (fun hc8 hb2=>?_) fun hc8 hb2=>?_))))
   ·refine af ?_
    refine fP [(2,pB false)] (by kernel_rfl) (iw ?_)
    refine aS hb2 (fun ht=>?_);subst ht
    refine aA (aV ?_)
    exact zz r h rfl
   refine ai ?_
   refine mn (ah [28] [(7,pI (IntKind.i64.wrap (v1+1)))] (by kernel_rfl) ?_)
   exact bd hb2 () (jt rfl) bX
  refine aR ?_
  refine av (an hb2 (fun ht=>ar rfl ?_))
  exact aG ((),()) oj bX ht.symm
 rintro ⟨_,_⟩ τ hz;(try dsimp only at hz);subst q3;(try dsimp only at h);dsimp only [aD]
 refine af (fP [(2,pB true)] (by kernel_rfl) ?_)
 exact zz r h rfl
def iS (rec:Ze→Int→Option Int) (p0:Ze) (p1:Int):Option Int:=(bf (S:=Int×Int) (T:=(Int)⊕(_)) (fun (v2,v3)=>cond (decide (v3<(p0.Args.length:Int))) ((idx p0.Args v3).bind fun m8=>cond (decide (p1≤v2)) (some (.inr (.inr p1))) ((rec m8 (IntKind.i64.wrap (p1 - v2))).bind fun x11=>some (.inl ((IntKind.i64.wrap (v2+x11)),(IntKind.i64.wrap (v3+1)))))) (some (.inr (.inl v2)))) FUEL (1,0)).bind fun q=>match q with | .inl v4=>some v4 | .inr e=>some e
theorem qd {rec:Ze→Int→Option Int} (hrec:∀ {p0:Ze} {p1:Int} {r:Int},rec p0 p1=some r→PF 151 [.agg (aN p0),pI p1] (pI r)) {p0:Ze} {p1:Int} {r:Int} (h:iS rec p0 p1=some r):PF 151 [.agg (aN p0),pI p1] (pI r):=by
 unfold iS at h
 refine br ?_
 refine eW Tryz.func151 rfl Tryz.ntmps151 Tryz.results151 rfl (aa (aj rfl (bE (cs:=(aN p0)) rfl rfl (fun b1=>bA [4] (by kernel_rfl) (bM (al [(5,pI 1)] (by kernel_rfl) (dn (bc [0] [8] [(9,pL Ze.enc p0.Args),(10,pI (p0.Args.length:Int)),(11,pI 0)] (by kernel_rfl) (dN h fun q6 hq6 h=>?_)))))))))
 refine az (Y:=Unit×Int) (fun (_,v4)=>[(5,pI v4)]) (fun (_,v4)=>[]) (fun (_,v4)=>q6=Sum.inl v4) ?_ ?_
 ·refine aJ ?_
  refine aK (Y:=Unit) (S:=Int×Int) _ hq6 (fun _ (v2,v3)=>[(1,pI p1),(5,pI v2),(9,pL Ze.enc p0.Args),(10,pI (p0.Args.length:Int)),(11,pI v3)]) (fun _ (v2,v3)=>[]) () (mO rfl) bX ?_
  rintro _ ⟨v2,v3⟩ o τ hb5;(try dsimp only at hb5);dsimp only [aD]
  refine af (al [(12,pB (decide (v3<(p0.Args.length:Int))))] (by kernel_rfl) (bM (js rfl hb5 (fun hc7 hb5=>?_) fun hc7 hb5=>?_)))
  ·refine ai ?_
   refine bM (gX (ae hb5 fun m8 hm8 hb5=>aa (bm 2 [] [13] [(14,.agg (aN m8))] (sW 0 Ze.enc (Ze.enc_eq _) hm8 bL) (by kernel_rfl) (aj rfl (aT (cs:=[pI 0,pI 0,pN,pI 0,pI 0,pS ByteArray.empty,pN]) rfl rfl rfl rfl (fun b9=>aX rfl rfl (au (vs:=(aN m8)) rfl rfl rfl rfl rfl cY om (aw (dn (ah [15,16] [(17,pB (decide (p1≤v2)))] (by kernel_rfl) (cg rfl hb5 (fun hc10 hb5=>?_) fun hc10 hb5=>?_)))))))))))
   ·refine af ?_
    refine ah [18] [(4,pI p1)] (by kernel_rfl) (eD (aq (iw ?_)))
    refine aS hb5 (fun ht=>?_);subst ht
    refine aA (aV ?_)
    exact zz r h rfl
   refine ai ?_
   refine dN hb5 fun x11 hx11 hb5=>ap [0] (rg 19 7) [(5,pI (IntKind.i64.wrap (v2+x11)))] (bR 5 (hrec hx11) bL) (by kernel_rfl) (mn (ah [26] [(11,pI (IntKind.i64.wrap (v3+1)))] (by kernel_rfl) ?_))
   exact bd hb5 () (mO rfl) bX
  refine aR ?_
  refine av (an hb5 (fun ht=>ar rfl ?_))
  exact aG ((),v2) (xj rfl) bX ht.symm
 rintro ⟨_,v4⟩ τ hz;(try dsimp only at hz);subst q6;(try dsimp only at h);dsimp only [aD]
 refine af (ah [27] [(4,pI v4)] (by kernel_rfl) (eD ?_))
 exact zz r h rfl
def jZ (n:Nat):Ze→Int→Option Int:=Nat.rec (motive:=fun _=>Ze→Int→Option Int) (fun _ _=>none) (fun _ ih=>iS ih) n
def nX (p0:Ze) (p1:Int):Option Int:=jZ FUEL p0 p1
theorem rE (n:Nat):∀ {p0:Ze} {p1:Int} {r:Int},jZ n p0 p1=some r→PF 151 [.agg (aN p0),pI p1] (pI r):=by
 induction n with
 | zero=>intros;rename_i h;exact nomatch h
 | succ n ih=>intros;rename_i h;exact qd (fun hr=>ih hr) h
theorem sr {p0:Ze} {p1:Int} {r:Int} (h:nX p0 p1=some r):PF 151 [.agg (aN p0),pI p1] (pI r):=rE FUEL h
def kx (p0:Ze):Option Bool:=cond ((!(p0.Kind == 2))&&(((p0.Digits != 0)||(decide (0<(p0.Except.length:Int))))||(p0.Tolerance != 0))) (some false) (cond ((p0.Kind != 3)&&(p0.Limit != 0)) (some false) (cond ((p0.Kind != 4)&&(!decide (p0.Name=(⟨#[]⟩:ByteArray)))) (some false) (some (((p0.Kind == 5)||(p0.Kind == 6))||((p0.Args.length:Int) == 0)))))
theorem su {p0:Ze} {r:Bool}  (h:kx p0=some r):PF 188 [.agg (aN p0)] (pB r):=by
 unfold kx at h
 refine br ?_
 refine eW Tryz.func188 rfl Tryz.ntmps188 Tryz.results188 rfl (aa (aj rfl (bE (cs:=(aN p0)) rfl rfl (fun b1=>bA [2] (by kernel_rfl) (bM (bc [0] [5,6,7] [(3,pB (p0.Kind == 2))] (by kernel_rfl) (bM (bc [0,0] (rg 8 8) [(4,pB ((p0.Kind == 5)||(p0.Kind == 6)))] (by kernel_rfl) (bM (gX (bc [0,0,0] (rg 17 18) [(16,pB ((!(p0.Kind == 2))&&(((p0.Digits != 0)||(decide (0<(p0.Except.length:Int))))||(p0.Tolerance != 0))))] (by kernel_rfl) (cg rfl h (fun hc2 h=>?_) fun hc2 h=>?_))))))))))))
 ·refine af ?_
  refine fP [(2,pB false)] (by kernel_rfl) (iw ?_)
  exact zz r h rfl
 refine af ?_
 refine bc [0,0] (rg 36 8) [(35,pB ((p0.Kind != 3)&&(p0.Limit != 0)))] (by kernel_rfl) (cg rfl h (fun hc3 h=>?_) fun hc3 h=>?_)
 ·refine af ?_
  refine fP [(2,pB false)] (by kernel_rfl) (iw ?_)
  exact zz r h rfl
 refine af ?_
 refine bc [0,0] (rg 45 8) [(44,pB ((p0.Kind != 4)&&(!decide (p0.Name=(⟨#[]⟩:ByteArray)))))] (by kernel_rfl) (cg rfl h (fun hc4 h=>?_) fun hc4 h=>?_)
 ·refine af ?_
  refine fP [(2,pB false)] (by kernel_rfl) (iw ?_)
  exact zz r h rfl
 refine ai ?_
 refine aH (bM (bc [0] (rg 53 7) [(2,pB (((p0.Kind == 5)||(p0.Kind == 6))||((p0.Args.length:Int) == 0)))] (by kernel_rfl) (eD ?_)))
 exact zz r h rfl
def ic (p0:Int):Option Bool:=some ((decide (0≤p0))&&(decide (p0≤1000000)))
theorem ky {p0:Int} {r:Bool}  (h:ic p0=some r):PF 190 [pI p0] (pB r):=by
 unfold ic at h
 refine br ?_
 refine eW Tryz.func190 rfl Tryz.ntmps190 Tryz.results190 rfl (aU [2] (by kernel_rfl) (bM (ah (rg 3 6) [(2,pB ((decide (0≤p0))&&(decide (p0≤1000000))))] (by kernel_rfl) (eD ?_))))
 exact zz r h rfl
def bw (p0:(List Zb)) (p1:Int) (p2:(Zb→Int→Option Int)):Option (Int×Bool):=(bf (S:=Int×Int) (T:=(Int)) (fun (v1,v2)=>cond (decide (v1<v2)) (lb ((IntKind.i64.wrap (cD .u64 (IntKind.u64.wrap (IntKind.i64.wrap (v1+v2))) 1))) (fun w7=>(idx p0 w7).bind fun m8=>(p2 m8 p1).bind fun x9=>cond (decide (x9<0)) (some (.inl ((IntKind.i64.wrap (w7+1)),v2))) (some (.inl (v1,w7))))) (some (.inr v1))) FUEL (0,(p0.length:Int))).bind fun v3=>(gd (decide (v3<(p0.length:Int))) (idx p0 v3)).bind fun m11=>(gd (decide (v3<(p0.length:Int))) (p2 m11 p1)).bind fun x12=>some (v3,((decide (v3<(p0.length:Int)))&&(x12 == 0)))
theorem eF {p0:(List Zb)} {p1:Int} {p2:(Zb→Int→Option Int)} {r:(Int×Bool)} {g2:PV} (hg2:∀ {y0:Zb} {y1:Int} {w:Int},p2 y0 y1=some w→PFV g2 [.agg (aZ y0),pI y1] (pI w)) (h:bw p0 p1 p2=some r):PF 153 [pL Zb.enc p0,pI p1,g2] (.tup [pI r.1,pB r.2]):=by
 unfold bw at h
 refine br ?_
 refine eW Tryz.func153 rfl Tryz.ntmps153 Tryz.results153 rfl (aU [6,7] (by kernel_rfl) (bM (ah [12,13] [(8,pI (p0.length:Int))] (by kernel_rfl) (bM (ah [14] [(9,pI 0),(10,pI (p0.length:Int))] (by kernel_rfl) (du h fun q5 hq5 h=>?_))))))
 refine az (Y:=Unit×Int) (fun (_,v3)=>[(0,pL Zb.enc p0),(1,pI p1),(2,g2),(8,pI (p0.length:Int)),(9,pI v3)]) (fun (_,v3)=>[]) (fun (_,v3)=>q5=v3) ?_ ?_
 ·refine aJ ?_
  refine aK (Y:=Unit) (S:=Int×Int) _ hq5 (fun _ (v1,v2)=>[(0,pL Zb.enc p0),(1,pI p1),(2,g2),(8,pI (p0.length:Int)),(9,pI v1),(10,pI v2)]) (fun _ (v1,v2)=>[]) () (zI rfl) bX ?_
  rintro _ ⟨v1,v2⟩ o τ hb4;(try dsimp only at hb4);dsimp only [aD]
  refine af (af (ah [15,16] [(17,pB (decide (v1<v2)))] (by kernel_rfl) (cg rfl hb4 (fun hc6 hb4=>?_) fun hc6 hb4=>?_)))
  ·refine ai ?_
   refine aL (gX ?_)
   refine fp hb4 ?_;clear hb4;intro w7 hw7 hb4
   refine aa (cE 6 (rg 18 5) [(23,pI (IntKind.i64.wrap (cD .u64 (IntKind.u64.wrap (IntKind.i64.wrap (v1+v2))) 1)))] (by kernel_rfl) (bD rfl rfl rfl (bU rfl (.p (congrArg (fun z=>PV.v (Value.int .i64 z)) hw7))) (aw (du hb4 fun m8 hm8 hb4=>ae hb4 fun x9 hx9 hb4=>ap [] (rg 24 7) [(31,pB (decide (x9<0)))] (fG 3 Zb.enc hm8 (xn 6 (hg2 hx9) bL)) (by kernel_rfl) (cg rfl hb4 (fun hc10 hb4=>?_) fun hc10 hb4=>?_)))))
   ·refine ah [32,33] [(9,pI (IntKind.i64.wrap (w7+1)))] (by kernel_rfl) ?_
    refine aH ?_
    exact bd hb4 () (zI rfl) bX
   refine ah [34] [(10,pI w7)] (by kernel_rfl) ?_
   refine aH ?_
   exact bd hb4 () (zI rfl) bX
  refine aR ?_
  refine av (an hb4 (fun ht=>ar rfl ?_))
  exact aG ((),v1) (mO rfl) bX ht.symm
 rintro ⟨_,v3⟩ τ hz;(try dsimp only at hz);subst q5;(try dsimp only at h);dsimp only [aD]
 refine af (ae h fun m11 hm11 h=>ae h fun x12 hx12 h=>ap [] (rg 35 14) [(6,pI v3),(7,pB ((decide (v3<(p0.length:Int)))&&(x12 == 0)))] (mY 8 Zb.enc (gq hm11) (focvg 11 (fun hc=>hg2 (gq hx12 hc)) bL)) (by kernel_rfl) (eD ?_))
 obtain rfl:=osi h
 exact aO (ec (aP rfl) (aP rfl)) bX ⟨rfl,rfl⟩
def dC (p0:Zb) (p1:Int):Option Int:=(eE p0.ID p1).bind fun x2=>some x2
theorem mr {p0:Zb} {p1:Int} {r:Int}  (h:dC p0 p1=some r):PF 154 [.agg (aZ p0),pI p1] (pI r):=by
 unfold dC at h
 refine br ?_
 refine eW Tryz.func154 rfl Tryz.ntmps154 Tryz.results154 rfl (aa (aj rfl (bE (cs:=(aZ p0)) rfl rfl (fun b1=>bA [4] (by kernel_rfl) (du h fun x2 hx2 h=>ap [0] [5,6,7,8] [(4,pI x2)] (bR 3 (il hx2) bL) (by kernel_rfl) (eD ?_))))))
 exact zz r h rfl
def fx (p0:(List Zb)) (p1:Int):Option (Int×Bool):=(bw p0 p1 (fun y1 y2=>dC y1 y2)).bind fun x3=>some (x3.1,x3.2)
theorem ng {p0:(List Zb)} {p1:Int} {r:(Int×Bool)}  (h:fx p0 p1=some r):PF 118 [pL Zb.enc p0,pI p1] (.tup [pI r.1,pB r.2]):=by
 unfold fx at h
 refine br ?_
 refine eW Tryz.func118 rfl Tryz.ntmps118 Tryz.results118 rfl (aU [4,5] (by kernel_rfl) (du h fun x3 hx3 h=>ap [] (rg 6 5) [(4,pI x3.1),(5,pB x3.2)] (bR 2 (eF (fun hr=>nP (mr hr)) hx3) bL) (by kernel_rfl) (eD ?_)))
 obtain rfl:=osi h
 exact aO (ec (aP rfl) (aP rfl)) bX ⟨rfl,rfl⟩
def bO (p0:(List Zf)):Option (List Zf):=app 16 ([]:List Zf) p0
theorem fH {p0:(List Zf)} {r:(List Zf)} (h:bO p0=some r):PCall 119 [pL Zf.enc p0] [] (fun pv ρ'=>∃ a c,pv=.v (.slice a r.length c)∧ρ'=[PRes.row a r.length c 54 2 (List.map Zf.enc r)]):=by
 unfold bO at h
 refine jq Tryz.func119 rfl Tryz.ntmps119 Tryz.results119 rfl ?_
 (repeat refine af ?_)
 refine aa (bD rfl rfl rfl (bU (p:=.v (.slice none 0 0)) rfl (.p rfl)) (aw (aL ?_)))
 (repeat refine af ?_)
 refine aa (bD rfl rfl rfl (eu (p:=pL Zf.enc p0) rfl (.p rfl)) (sT rfl rfl rfl rfl rfl rfl (fun b hb=>aw (aL ?_))))
 refine gz rfl (fun hc=>?_) (fun hc=>?_)
 ·have e0:p0=[]:=List.map_eq_nil_iff.1 (hb hc)
  subst e0;obtain ⟨rfl,_⟩:=oC h
  (repeat refine af ?_)
  refine aa (bD rfl rfl rfl (bU (p:=.v (.slice none 0 0)) rfl (.p rfl)) (aw (aL (bI 54 2 (bS (aq ?_))))))
  exact aO (dh (aP rfl)) dM ⟨_,_,rfl,rfl⟩
 refine ai ?_
 refine aL ?_
 (repeat refine af ?_)
 refine aa (aj rfl (bG rfl rfl rfl rfl rfl jr rfl rfl rfl rfl (fun b1=>bD rfl rfl rfl (eu (p:=pL Zf.enc p0) rfl (.p rfl)) ?_)))
 refine aj rfl (lB (enc:=Zf.enc) (xs:=([]:List Zf)) rfl rfl rfl rfl rfl (fun _=>rfl) rfl rfl rfl (by exact aC) h (fun a c=>?_))
 refine bD rfl rfl rfl (bU (p:=.v (.slice a r.length c)) rfl (.p rfl)) (aw (eD ?_))
 exact aO (dh (aP rfl)) dM ⟨_,_,rfl,rfl⟩
def cI (p0:(List Zb)) (p1:Int):Option (Zb×Bool):=(fx p0 p1).bind fun x2=>cond (!x2.2) (some ((⟨0,ByteArray.empty,ByteArray.empty,0,false,[],[]⟩:Zb),false)) ((idx p0 x2.1).bind fun m4=>(bJ m4.Processes).bind fun x6=>(bO m4.Inputs).bind fun x10=>some ((⟨m4.ID,m4.Code,m4.Country,m4.Price,m4.Obtained,x6,x10⟩:Zb),true))
theorem fZ {p0:(List Zb)} {p1:Int} {r:(Zb×Bool)}  (h:cI p0 p1=some r):PF 79 [pL Zb.enc p0,pI p1] (.tup [.agg (aZ r.1),pB r.2]):=by
 unfold cI at h
 refine br ?_
 refine eW Tryz.func79 rfl Tryz.ntmps79 Tryz.results79 rfl (aa (aj rfl (aT (cs:=[pI 0,pS ByteArray.empty,pS ByteArray.empty,pI 0,pB false,pN,pN]) rfl rfl rfl rfl (fun b1=>bA [5] (by kernel_rfl) (du h fun x2 hx2 h=>ap [] [10,11,12,9,13,14] [(6,pI x2.1),(7,pB x2.2)] (bR 2 (ng hx2) bL) (by kernel_rfl) (dn (ah [15] [(16,pB (!x2.2))] (by kernel_rfl) (cg rfl h (fun hc3 h=>?_) fun hc3 h=>?_))))))))
 ·refine af ?_
  refine aa (am 1 [(17,.agg [pI 0,pS ByteArray.empty,pS ByteArray.empty,pI 0,pB false,pN,pN])] (by kernel_rfl) (aX rfl rfl (au (vs:=[pI 0,pS ByteArray.empty,pS ByteArray.empty,pI 0,pB false,pN,pN]) rfl rfl rfl rfl rfl cY om (aM [(5,pB false)] (by kernel_rfl) (aL (eV (k:=5) (b:=b1) rfl cY (eV (k:=6) (b:=b1) rfl cY (bS (aq ?_)))))))))
  obtain rfl:=osi h
  exact aO (ec (gB rfl fF rfl) (aP rfl)) bX ⟨rfl,rfl⟩
 refine ai ?_
 refine du h fun m4 hm4 h=>aa (bm 4 [] [18,19,20] [(21,.agg (aZ m4))] (fG 2 Zb.enc hm4 bL) (by kernel_rfl) (aj rfl (aT (cs:=[pI 0,pS ByteArray.empty,pS ByteArray.empty,pI 0,pB false,pN,pN]) rfl rfl rfl rfl (fun b5=>aX rfl rfl (au (vs:=(aZ m4)) rfl rfl rfl rfl rfl cY om (aw (du h fun x6 hx6 h=>aa (cq 2 [0] [22] [(23,pL eS m4.Processes)] (by kernel_rfl) ?_))))))))
 refine aj rfl (aW rfl rfl (ρ1:=[]) (List.Perm.refl _) (ef hx6) ?_);rintro _ _ ⟨a7,c8,rfl,rfl⟩
 refine am 1 [(25,pP b5 5)] (by kernel_rfl) (aX rfl rfl (au (vs:=[pO a7 x6.length c8]) rfl rfl rfl rfl rfl (de cY) (dY (dY (dY (dY (dY mG))))) (aw (du h fun x10 hx10 h=>aa (cq 2 [1] [26] [(27,pL Zf.enc m4.Inputs)] (by kernel_rfl) ?_)))))
 refine aj rfl (aW rfl rfl (ρ1:=[]) (List.Perm.refl _) (fH hx10) ?_);rintro _ _ ⟨a11,c12,rfl,rfl⟩
 refine am 1 [(29,pP b5 6)] (by kernel_rfl) (aX rfl rfl (au (vs:=[pO a11 x10.length c12]) rfl rfl rfl rfl rfl (de (de cY)) (dY (dY (dY (dY (dY (dY mG)))))) (aw (bM (aa ?_)))))
 refine kT (css:=List.map eS x6) (a:=a7) (by exact ak aC) ?_
 refine jh (k:=5) (enc:=eS) (xs:=x6) (b:=b5) (a:=a7) rfl fF (de (de cY)) ?_
 refine kT (css:=List.map Zf.enc x10) (a:=a11) (by exact ak aC) ?_
 refine jh (k:=6) (enc:=Zf.enc) (xs:=x10) (b:=b5) (a:=a11) rfl fF (de (de cY)) (fO 1 [2] [(30,.agg [pI m4.ID,pS m4.Code,pS m4.Country,pI m4.Price,pB m4.Obtained,pL eS x6,pL Zf.enc x10])] (by kernel_rfl) (aX rfl rfl (au (vs:=[pI m4.ID,pS m4.Code,pS m4.Country,pI m4.Price,pB m4.Obtained,pL eS x6,pL Zf.enc x10]) rfl rfl rfl rfl rfl (de (de (de cY))) om (aM [(5,pB true)] (by kernel_rfl) (eD ?_)))))
 obtain rfl:=osi h
 exact aO (ec (gB rfl zG rfl) (aP rfl)) bX ⟨rfl,rfl⟩
def bt (p0:(List Zc)) (p1:(Zc→Option Bool)):Option Int:=(bf (S:=Int) (T:=(Unit)⊕(_)) (fun v1=>cond (decide (v1<(p0.length:Int))) ((idx p0 v1).bind fun m5=>(p1 m5).bind fun x6=>cond x6 (some (.inr (.inr v1))) (some (.inl (IntKind.i64.wrap (v1+1))))) (some (.inr (.inl ())))) FUEL 0).bind fun q=>match q with | .inl _=>some (-1) | .inr e=>some e
theorem fy {p0:(List Zc)} {p1:(Zc→Option Bool)} {r:Int} {g1:PV} (hg1:∀ {y0:Zc} {w:Bool},p1 y0=some w→PFV g1 [.agg (aQ y0)] (pB w)) (h:bt p0 p1=some r):PF 120 [pL Zc.enc p0,g1] (pI r):=by
 unfold bt at h
 refine br ?_
 refine eW Tryz.func120 rfl Tryz.ntmps120 Tryz.results120 rfl (aU [4] (by kernel_rfl) (dn (ah [6] [(7,pI (p0.length:Int)),(8,pI 0)] (by kernel_rfl) (dN h fun q3 hq3 h=>?_))))
 refine az (Y:=Unit×Unit) (fun (_,_)=>[]) (fun (_,_)=>[]) (fun (_,_)=>q3=Sum.inl ()) ?_ ?_
 ·refine aJ ?_
  refine aK (Y:=Unit) (S:=Int) _ hq3 (fun _ v1=>[(0,pL Zc.enc p0),(1,g1),(7,pI (p0.length:Int)),(8,pI v1)]) (fun _ v1=>[]) () (jt rfl) bX ?_
  rintro _ v1 o τ hb2;(try dsimp only at hb2);dsimp only [aD]
  refine af (al [(9,pB (decide (v1<(p0.length:Int))))] (by kernel_rfl) (bM (js rfl hb2 (fun hc4 hb2=>?_) fun hc4 hb2=>?_)))
  ·refine ai ?_
   refine bM (gX (ah [10] [(5,pI v1)] (by kernel_rfl) (du hb2 fun m5 hm5 hb2=>ae hb2 fun x6 hx6 hb2=>ap [] (rg 11 5) [(16,pB x6)] (fG 3 Zc.enc hm5 (xn 5 (hg1 hx6) bL)) (by kernel_rfl) (cg rfl hb2 (fun hc7 hb2=>?_) fun hc7 hb2=>?_))))
   ·refine af ?_
    refine ah [17] [(4,pI v1)] (by kernel_rfl) (eD (iw ?_))
    refine aS hb2 (fun ht=>?_);subst ht
    refine aA (aV ?_)
    exact zz r h rfl
   refine ai ?_
   refine mn (ah [18] [(8,pI (IntKind.i64.wrap (v1+1)))] (by kernel_rfl) ?_)
   exact bd hb2 () (jt rfl) bX
  refine aR ?_
  refine av (an hb2 (fun ht=>ar rfl ?_))
  exact aG ((),()) oj bX ht.symm
 rintro ⟨_,_⟩ τ hz;(try dsimp only at hz);subst q3;(try dsimp only at h);dsimp only [aD]
 refine af (fP [(4,pI (-1))] (by kernel_rfl) ?_)
 exact zz r h rfl
def fz (p0:Zc) (p1:Int):Option Bool:=some (p0.ID == p1)
theorem nh {p0:Zc} {p1:Int} {r:Bool}  (h:fz p0 p1=some r):PF 121 [.agg (aQ p0),.ref [pI p1] 0] (pB r):=by
 unfold fz at h
 refine br ?_
 refine eW Tryz.func121 rfl Tryz.ntmps121 Tryz.results121 rfl (aa (aj rfl (bE (cs:=(aQ p0)) rfl rfl (fun b1=>bA [3] (by kernel_rfl) (bM (bc [0] [4,5,6,7] [(3,pB (p0.ID == p1))] (by kernel_rfl) (eD ?_)))))))
 exact zz r h rfl
def dG (p0:(List Zc)) (p1:Int):Option (Zc×Bool):=(bt p0 (fun y3=>fz y3 p1)).bind fun x4=>cond (decide (x4<0)) (some ((⟨0,0,[],[]⟩:Zc),false)) ((idx p0 x4).bind fun m6=>some (m6,true))
theorem im {p0:(List Zc)} {p1:Int} {r:(Zc×Bool)}  (h:dG p0 p1=some r):PF 80 [pL Zc.enc p0,pI p1] (.tup [.agg (aQ r.1),pB r.2]):=by
 unfold dG at h
 refine br ?_
 refine eW Tryz.func80 rfl Tryz.ntmps80 Tryz.results80 rfl (aa (aj rfl (bE (cs:=[pI p1]) rfl rfl (fun b1=>aj rfl (aT (cs:=[pI 0,pI 0,pN,pN]) rfl rfl rfl rfl (fun b2=>bA [5] (by kernel_rfl) (bM (aa (am 1 [(7,pL Zc.enc p0)] (by kernel_rfl) ?_)))))))))
 refine jo 3 rfl (by exact ak aC) ?_
 refine ae h fun x4 hx4 h=>gr [] [8,9] [(6,pI x4)] (bR 1 (fy (fun hr=>nP (nh hr)) hx4) bL) (by kernel_rfl) (dn (ah [10] [(11,pB (decide (x4<0)))] (by kernel_rfl) (cg rfl h (fun hc5 h=>?_) fun hc5 h=>?_)))
 ·refine af ?_
  refine aa (am 1 [(12,.agg [pI 0,pI 0,pN,pN])] (by kernel_rfl) (aX rfl rfl (au (vs:=[pI 0,pI 0,pN,pN]) rfl rfl rfl rfl rfl (de cY) Bq (aM [(5,pB false)] (by kernel_rfl) (aL (eV (k:=2) (b:=b2) rfl (de cY) (eV (k:=3) (b:=b2) rfl (de cY) (bS (aq ?_)))))))))
  obtain rfl:=osi h
  exact aO (ec (gB rfl uV rfl) (aP rfl)) bX ⟨rfl,rfl⟩
 refine ai ?_
 refine du h fun m6 hm6 h=>aa (bm 4 [] [13,14,15] [(16,.agg (aQ m6))] (fG 2 Zc.enc hm6 bL) (by kernel_rfl) (aX rfl rfl (au (vs:=(aQ m6)) rfl rfl rfl rfl rfl (de cY) Bq (aM [(5,pB true)] (by kernel_rfl) (eD ?_)))))
 obtain rfl:=osi h
 exact aO (ec (gB rfl uV rfl) (aP rfl)) bX ⟨rfl,rfl⟩
def dx (rec:Ze→Option Ze) (p0:Ze):Option Ze:=(bJ p0.Except).bind fun x3=>(zS 96 (p0.Args.length:Int)).bind fun u7=>(bf (S:=(List Ze)×Int) (T:=((List Ze))) (fun (l11,v14)=>cond (decide (v14<(p0.Args.length:Int))) ((idx p0.Args v14).bind fun m23=>(rec m23).bind fun x25=>(app 96 l11 [x25]).bind fun l28=>some (.inl (l28,(IntKind.i64.wrap (v14+1))))) (some (.inr l11))) FUEL (([]:List Ze),0)).bind fun l18=>some (⟨p0.Kind,p0.Digits,x3,p0.Tolerance,p0.Limit,p0.Name,l18⟩:Ze)
theorem kM {rec:Ze→Option Ze} (hrec:∀ {p0:Ze} {r:Ze},rec p0=some r→PF 130 [.agg (aN p0)] (.agg (aN r))) {p0:Ze} {r:Ze} (h:dx rec p0=some r):PF 130 [.agg (aN p0)] (.agg (aN r)):=by
 unfold dx at h
 refine br ?_
 refine eW Tryz.func130 rfl Tryz.ntmps130 Tryz.results130 rfl (aa (aj rfl (bE (cs:=(aN p0)) rfl rfl (fun b1=>aj rfl (aT (cs:=[pI 0,pI 0,pN,pI 0,pI 0,pS ByteArray.empty,pN]) rfl rfl rfl rfl (fun b2=>aw (du h fun x3 hx3 h=>aa (cq 2 [1] [6] [(7,pL eS p0.Except)] (by kernel_rfl) ?_))))))))
 refine aj rfl (aW rfl rfl (ρ1:=[]) (List.Perm.refl _) (ef hx3) ?_);rintro _ _ ⟨a4,c5,rfl,rfl⟩
 refine am 1 [(9,pP b1 2)] (by kernel_rfl) (aX rfl rfl (au (vs:=[pO a4 x3.length c5]) rfl rfl rfl rfl rfl (de (de cY)) (dY (dY mG)) (aw (du h fun u7 hu7 h=>aa (cq 3 [2] [10,11] [(12,pI (p0.Args.length:Int))] (by kernel_rfl) (aj rfl (BQ rfl rfl rfl rfl rfl rfl rfl hu7 (fun b8=>aM [(3,pO (some ⟨b8,0,none⟩) 0 ((p0.Args.length:Int).toNat))] (by kernel_rfl) (dn (bc [3] [14] [(15,pL Ze.enc p0.Args),(16,pI (p0.Args.length:Int)),(17,pI 0)] (by kernel_rfl) (dN h fun q21 hq21 h=>?_)))))))))))
 refine az (Y:=(Option Addr×Nat)×((List Ze))) (fun ((a16,c17),l18)=>[(1,pP b1 0),(2,pP b2 0),(3,pO a16 l18.length c17)]) (fun ((a16,c17),l18)=>[PRes.b b1 98 [pI p0.Kind,pI p0.Digits,pO a4 x3.length c5,pI p0.Tolerance,pI p0.Limit,pS p0.Name,pL Ze.enc p0.Args],PRes.b b2 98 [pI 0,pI 0,pN,pI 0,pI 0,pS ByteArray.empty,pN],PRes.row a16 l18.length c17 98 7 (List.map Ze.enc l18),PRes.row a4 x3.length c5 9 1 (List.map eS x3)]) (fun ((a16,c17),l18)=>q21=l18) ?_ ?_
 ·refine aJ ?_
  refine aK (Y:=Option Addr×Nat) (S:=(List Ze)×Int) _ hq21 (fun (a12,c13) (l11,v14)=>[(1,pP b1 0),(2,pP b2 0),(3,pO a12 l11.length c13),(15,pL Ze.enc p0.Args),(16,pI (p0.Args.length:Int)),(17,pI v14)]) (fun (a12,c13) (l11,v14)=>[PRes.b b1 98 [pI p0.Kind,pI p0.Digits,pO a4 x3.length c5,pI p0.Tolerance,pI p0.Limit,pS p0.Name,pL Ze.enc p0.Args],PRes.b b2 98 [pI 0,pI 0,pN,pI 0,pI 0,pS ByteArray.empty,pN],PRes.row a12 l11.length c13 98 7 (List.map Ze.enc l11),PRes.row a4 x3.length c5 9 1 (List.map eS x3)]) ((some ⟨b8,0,none⟩),(p0.Args.length:Int).toNat) (zI rfl) (aY (ak (ak (ak aC))) (aY (ak (ak aC)) py)) ?_
  rintro ⟨a12,c13⟩ ⟨l11,v14⟩ o τ hb20;(try dsimp only at hb20);dsimp only [aD]
  refine af (al [(18,pB (decide (v14<(p0.Args.length:Int))))] (by kernel_rfl) (bM (js rfl hb20 (fun hc22 hb20=>?_) fun hc22 hb20=>?_)))
  ·refine ai ?_
   refine bM (gX (ae hb20 fun m23 hm23 hb20=>aa (bm 2 [] [19] [(20,.agg (aN m23))] (sW 0 Ze.enc (Ze.enc_eq _) hm23 bL) (by kernel_rfl) (aj rfl (aT (cs:=[pI 0,pI 0,pN,pI 0,pI 0,pS ByteArray.empty,pN]) rfl rfl rfl rfl (fun b24=>aX rfl rfl (au (vs:=(aN m23)) rfl rfl rfl rfl rfl cY om (aw (dN hb20 fun x25 hx25 hb20=>aa (bm 3 [0] [22] [(21,pO a12 l11.length c13),(23,.agg (aN x25))] (bR 2 (hrec hx25) bL) (by kernel_rfl) ?_))))))))))
   refine aj rfl (bG (css:=List.map Ze.enc [x25]) rfl rfl rfl rfl rfl (by (simp only [List.map_cons,List.map_nil,Ze.enc_eq];(repeat (first | exact jr | apply fL rfl)))) rfl (by (simp only [List.map_cons,List.map_nil,Ze.enc_eq];rfl)) rfl rfl (fun b26=>?_))
   refine ae hb20 fun l28 hl28 hb20=>?_
   refine aj rfl (bP (enc:=Ze.enc) rfl rfl rfl rfl rfl rfl rfl rfl rfl fF (by exact ak (ak (ak (ak aC)))) hl28 (fun a29 c30=>?_))
   refine aM [(3,pO a29 l28.length c30)] (by kernel_rfl) (mn (ah [26] [(17,pI (IntKind.i64.wrap (v14+1)))] (by kernel_rfl) ?_))
   exact bd hb20 (a29,c30) (zI rfl) (aY (ak (ak (ak aC))) (aY (ak (ak (ak aC))) (aY aC (aY (ak (ak aC)) bX))))
  refine aR ?_
  refine av (an hb20 (fun ht=>ar rfl ?_))
  exact aG ((a12,c13),l11) (zH rfl) zs4 ht.symm
 rintro ⟨⟨a16,c17⟩,l18⟩ τ hz;(try dsimp only at hz);subst q21;(try dsimp only at h);dsimp only [aD]
 refine af (aa (am 2 [(27,pO a16 l18.length c17),(28,pP b1 6)] (by kernel_rfl) (aX rfl rfl (au (vs:=[pO a16 l18.length c17]) rfl rfl rfl rfl rfl cY (dY (dY (dY (dY (dY (dY mG)))))) (aw (bM (aa ?_)))))))
 refine kT (css:=List.map eS x3) (a:=a4) (by exact ak (ak (ak aC))) ?_
 refine jh (k:=2) (enc:=eS) (xs:=x3) (b:=b1) (a:=a4) rfl fF (de cY) ?_
 refine kT (css:=List.map Ze.enc l18) (a:=a16) (by exact ak (ak (ak aC))) ?_
 refine jh (k:=6) (enc:=Ze.enc) (xs:=l18) (b:=b1) (a:=a16) rfl fF (de (de cY)) (fO 1 [2] [(29,.agg [pI p0.Kind,pI p0.Digits,pL eS x3,pI p0.Tolerance,pI p0.Limit,pS p0.Name,pL Ze.enc l18])] (by kernel_rfl) (aX rfl rfl (au (vs:=[pI p0.Kind,pI p0.Digits,pL eS x3,pI p0.Tolerance,pI p0.Limit,pS p0.Name,pL Ze.enc l18]) rfl rfl rfl rfl rfl (de (de (de cY))) om (aw (eD ?_)))))
 obtain rfl:=osi h
 exact aO (dh (gB rfl zG rfl)) bX ⟨rfl,rfl⟩
def eN (n:Nat):Ze→Option Ze:=Nat.rec (motive:=fun _=>Ze→Option Ze) (fun _=>none) (fun _ ih=>dx ih) n
def gF (p0:Ze):Option Ze:=eN FUEL p0
theorem lg (n:Nat):∀ {p0:Ze} {r:Ze},eN n p0=some r→PF 130 [.agg (aN p0)] (.agg (aN r)):=by
 induction n with
 | zero=>intros;rename_i h;exact nomatch h
 | succ n ih=>intros;rename_i h;exact kM (fun hr=>ih hr) h
theorem lJ {p0:Ze} {r:Ze} (h:gF p0=some r):PF 130 [.agg (aN p0)] (.agg (aN r)):=lg FUEL h
def cS (p0:Zc) (p1:ByteArray) (p2:ByteArray):Option Bool:=(bz p0.Parties p1).bind fun x2=>(gd x2 (bz p0.Parties p2)).bind fun x3=>some (x2&&x3)
theorem hC {p0:Zc} {p1:ByteArray} {p2:ByteArray} {r:Bool}  (h:cS p0 p1 p2=some r):PF 117 [.agg (aQ p0),pS p1,pS p2] (pB r):=by
 unfold cS at h
 refine br ?_
 refine eW Tryz.func117 rfl Tryz.ntmps117 Tryz.results117 rfl (aa (aj rfl (bE (cs:=(aQ p0)) rfl rfl (fun b1=>bA [6] (by kernel_rfl) (du h fun x2 hx2 h=>ae h fun x3 hx3 h=>ap [0,0] (rg 7 10) [(6,pB (x2&&x3))] (bR 3 (cr hx2) (gC 8 (fun hc=>cr (gq hx3 hc)) bL)) (by kernel_rfl) (eD ?_))))))
 exact zz r h rfl
def be (p0:(List Zk)) (p1:(List Zk)) (p2:(Zk→Zk→Option Bool)):Option Bool:=cond ((p0.length:Int) != (p1.length:Int)) (some false) ((bf (S:=Int) (T:=(Unit)⊕(_)) (fun v2=>cond (decide (v2<(p0.length:Int))) ((idx p0 v2).bind fun m6=>(idx p1 v2).bind fun m8=>(p2 m6 m8).bind fun x10=>cond (!x10) (some (.inr (.inr false))) (some (.inl (IntKind.i64.wrap (v2+1))))) (some (.inr (.inl ())))) FUEL 0).bind fun q=>match q with | .inl _=>some true | .inr e=>some e)
theorem cZ {p0:(List Zk)} {p1:(List Zk)} {p2:(Zk→Zk→Option Bool)} {r:Bool} {g2:PV} (hg2:∀ {y0:Zk} {y1:Zk} {w:Bool},p2 y0 y1=some w→PFV g2 [.agg (dt y0),.agg (dt y1)] (pB w)) (h:be p0 p1 p2=some r):PF 155 [pL Zk.enc p0,pL Zk.enc p1,g2] (pB r):=by
 unfold be at h
 refine br ?_
 refine eW Tryz.func155 rfl Tryz.ntmps155 Tryz.results155 rfl (aU [6] (by kernel_rfl) (dn (ah [10,11,12,13] [(14,pB ((p0.length:Int) != (p1.length:Int)))] (by kernel_rfl) (cg rfl h (fun hc1 h=>?_) fun hc1 h=>?_))))
 ·refine af ?_
  refine fP [(6,pB false)] (by kernel_rfl) (aq ?_)
  exact zz r h rfl
 refine ai ?_
 refine dn (al [(15,pL Zk.enc p0),(16,pI (p0.length:Int)),(17,pI 0)] (by kernel_rfl) (dN h fun q4 hq4 h=>?_))
 refine az (Y:=Unit×Unit) (fun (_,_)=>[]) (fun (_,_)=>[]) (fun (_,_)=>q4=Sum.inl ()) ?_ ?_
 ·refine aJ ?_
  refine aK (Y:=Unit) (S:=Int) _ hq4 (fun _ v2=>[(1,pL Zk.enc p1),(2,g2),(15,pL Zk.enc p0),(16,pI (p0.length:Int)),(17,pI v2)]) (fun _ v2=>[]) () (mO rfl) bX ?_
  rintro _ v2 o τ hb3;(try dsimp only at hb3);dsimp only [aD]
  refine af (al [(18,pB (decide (v2<(p0.length:Int))))] (by kernel_rfl) (bM (js rfl hb3 (fun hc5 hb3=>?_) fun hc5 hb3=>?_)))
  ·refine ai ?_
   refine bM (gX (ae hb3 fun m6 hm6 hb3=>aa (bm 3 [] [20] [(19,pI v2),(21,.agg (dt m6))] (fG 1 Zk.enc hm6 bL) (by kernel_rfl) (aj rfl (aT (cs:=[pS ByteArray.empty,pI 0,pI 0,pN,pI 0,pI 0,pS ByteArray.empty,pN]) rfl rfl rfl rfl (fun b7=>am 1 [(7,pI v2)] (by kernel_rfl) (aX rfl rfl (au (vs:=(dt m6)) rfl rfl rfl rfl rfl cY zl8 (aw (du hb3 fun m8 hm8 hb3=>aa (bm 4 [] [22,23,24] [(25,.agg (dt m8))] (fG 2 Zk.enc hm8 bL) (by kernel_rfl) (aj rfl (aT (cs:=[pS ByteArray.empty,pI 0,pI 0,pN,pI 0,pI 0,pS ByteArray.empty,pN]) rfl rfl rfl rfl (fun b9=>aX rfl rfl (au (vs:=(dt m8)) rfl rfl rfl rfl rfl cY zl8 (aw (du hb3 fun x10 hx10 hb3=>ap [1,0] [26,27,28,29] [(30,pB (!x10))] (xn 3 (hg2 hx10) bL) (by kernel_rfl) (cg rfl hb3 (fun hc11 hb3=>?_) fun hc11 hb3=>?_))))))))))))))))))
   ·refine af ?_
    refine fP [(6,pB false)] (by kernel_rfl) (iw ?_)
    refine aS hb3 (fun ht=>?_);subst ht
    refine aA (aV ?_)
    exact zz r h rfl
   refine ai ?_
   refine mn (ah [31] [(17,pI (IntKind.i64.wrap (v2+1)))] (by kernel_rfl) ?_)
   exact bd hb3 () (mO rfl) bX
  refine aR ?_
  refine av (an hb3 (fun ht=>ar rfl ?_))
  exact aG ((),()) oj bX ht.symm
 rintro ⟨_,_⟩ τ hz;(try dsimp only at hz);subst q4;(try dsimp only at h);dsimp only [aD]
 refine af (fP [(6,pB true)] (by kernel_rfl) ?_)
 exact zz r h rfl
def cG (p0:(List ByteArray)) (p1:(List ByteArray)):Option Bool:=cond ((p0.length:Int) != (p1.length:Int)) (some false) ((bf (S:=Int) (T:=(Unit)⊕(_)) (fun v2=>cond (decide (v2<(p0.length:Int))) ((idx p0 v2).bind fun m6=>(idx p1 v2).bind fun m7=>cond (!decide (m6=m7)) (some (.inr (.inr false))) (some (.inl (IntKind.i64.wrap (v2+1))))) (some (.inr (.inl ())))) FUEL 0).bind fun q=>match q with | .inl _=>some true | .inr e=>some e)
theorem jy {p0:(List ByteArray)} {p1:(List ByteArray)} {r:Bool}  (h:cG p0 p1=some r):PF 191 [pL eS p0,pL eS p1] (pB r):=by
 unfold cG at h
 refine br ?_
 refine eW Tryz.func191 rfl Tryz.ntmps191 Tryz.results191 rfl (aU [4] (by kernel_rfl) (dn (ah [6,7,8,9] [(10,pB ((p0.length:Int) != (p1.length:Int)))] (by kernel_rfl) (cg rfl h (fun hc1 h=>?_) fun hc1 h=>?_))))
 ·refine af ?_
  refine fP [(4,pB false)] (by kernel_rfl) (aq ?_)
  exact zz r h rfl
 refine ai ?_
 refine dn (ah [11] [(12,pI (p0.length:Int)),(13,pI 0)] (by kernel_rfl) (dN h fun q4 hq4 h=>?_))
 refine az (Y:=Unit×Unit) (fun (_,_)=>[]) (fun (_,_)=>[]) (fun (_,_)=>q4=Sum.inl ()) ?_ ?_
 ·refine aJ ?_
  refine aK (Y:=Unit) (S:=Int) _ hq4 (fun _ v2=>[(0,pL eS p0),(1,pL eS p1),(12,pI (p0.length:Int)),(13,pI v2)]) (fun _ v2=>[]) () (jt rfl) bX ?_
  rintro _ v2 o τ hb3;(try dsimp only at hb3);dsimp only [aD]
  refine af (al [(14,pB (decide (v2<(p0.length:Int))))] (by kernel_rfl) (bM (js rfl hb3 (fun hc5 hb3=>?_) fun hc5 hb3=>?_)))
  ·refine ai ?_
   refine bM (gX (ah [15] [(5,pI v2)] (by kernel_rfl) (bM (dg (ρd:=[]) [(0,0),(1,0),(2,0),(3,0),(4,0),(5,0),(6,0),(7,0),(8,0)] _ (List.Perm.refl _) (by kernel_rfl) rfl (ae hb3 fun m6 hm6 hb3=>ae hb3 fun m7 hm7 hb3=>dH 9 [] (rg 16 8) [(24,pB (!decide (m6=m7)))] (fG 2 eS hm6 (fG 6 eS hm7 bL)) (by kernel_rfl) (ey (cg rfl hb3 (fun hc8 hb3=>?_) fun hc8 hb3=>?_)))))))
   ·refine af ?_
    refine fP [(4,pB false)] (by kernel_rfl) (iw ?_)
    refine aS hb3 (fun ht=>?_);subst ht
    refine aA (aV ?_)
    exact zz r h rfl
   refine ai ?_
   refine mn (ah [25] [(13,pI (IntKind.i64.wrap (v2+1)))] (by kernel_rfl) ?_)
   exact bd hb3 () (jt rfl) bX
  refine aR ?_
  refine av (an hb3 (fun ht=>ar rfl ?_))
  exact aG ((),()) oj bX ht.symm
 rintro ⟨_,_⟩ τ hz;(try dsimp only at hz);subst q4;(try dsimp only at h);dsimp only [aD]
 refine af (fP [(4,pB true)] (by kernel_rfl) ?_)
 exact zz r h rfl
def bh (p0:(List Ze)) (p1:(List Ze)) (p2:(Ze→Ze→Option Bool)):Option Bool:=cond ((p0.length:Int) != (p1.length:Int)) (some false) ((bf (S:=Int) (T:=(Unit)⊕(_)) (fun v2=>cond (decide (v2<(p0.length:Int))) ((idx p0 v2).bind fun m6=>(idx p1 v2).bind fun m8=>(p2 m6 m8).bind fun x10=>cond (!x10) (some (.inr (.inr false))) (some (.inl (IntKind.i64.wrap (v2+1))))) (some (.inr (.inl ())))) FUEL 0).bind fun q=>match q with | .inl _=>some true | .inr e=>some e)
theorem eo {p0:(List Ze)} {p1:(List Ze)} {p2:(Ze→Ze→Option Bool)} {r:Bool} {g2:PV} (hg2:∀ {y0:Ze} {y1:Ze} {w:Bool},p2 y0 y1=some w→PFV g2 [.agg (aN y0),.agg (aN y1)] (pB w)) (h:bh p0 p1 p2=some r):PF 192 [pL Ze.enc p0,pL Ze.enc p1,g2] (pB r):=by
 unfold bh at h
 refine br ?_
 refine eW Tryz.func192 rfl Tryz.ntmps192 Tryz.results192 rfl (aU [6] (by kernel_rfl) (dn (ah [10,11,12,13] [(14,pB ((p0.length:Int) != (p1.length:Int)))] (by kernel_rfl) (cg rfl h (fun hc1 h=>?_) fun hc1 h=>?_))))
 ·refine af ?_
  refine fP [(6,pB false)] (by kernel_rfl) (aq ?_)
  exact zz r h rfl
 refine ai ?_
 refine dn (al [(15,pL Ze.enc p0),(16,pI (p0.length:Int)),(17,pI 0)] (by kernel_rfl) (dN h fun q4 hq4 h=>?_))
 refine az (Y:=Unit×Unit) (fun (_,_)=>[]) (fun (_,_)=>[]) (fun (_,_)=>q4=Sum.inl ()) ?_ ?_
 ·refine aJ ?_
  refine aK (Y:=Unit) (S:=Int) _ hq4 (fun _ v2=>[(1,pL Ze.enc p1),(2,g2),(15,pL Ze.enc p0),(16,pI (p0.length:Int)),(17,pI v2)]) (fun _ v2=>[]) () (mO rfl) bX ?_
  rintro _ v2 o τ hb3;(try dsimp only at hb3);dsimp only [aD]
  refine af (al [(18,pB (decide (v2<(p0.length:Int))))] (by kernel_rfl) (bM (js rfl hb3 (fun hc5 hb3=>?_) fun hc5 hb3=>?_)))
  ·refine ai ?_
   refine bM (gX (ae hb3 fun m6 hm6 hb3=>aa (bm 3 [] [20] [(19,pI v2),(21,.agg (aN m6))] (sW 1 Ze.enc (Ze.enc_eq _) hm6 bL) (by kernel_rfl) (aj rfl (aT (cs:=[pI 0,pI 0,pN,pI 0,pI 0,pS ByteArray.empty,pN]) rfl rfl rfl rfl (fun b7=>am 1 [(7,pI v2)] (by kernel_rfl) (aX rfl rfl (au (vs:=(aN m6)) rfl rfl rfl rfl rfl cY om (aw (du hb3 fun m8 hm8 hb3=>aa (bm 4 [] [22,23,24] [(25,.agg (aN m8))] (sW 2 Ze.enc (Ze.enc_eq _) hm8 bL) (by kernel_rfl) (aj rfl (aT (cs:=[pI 0,pI 0,pN,pI 0,pI 0,pS ByteArray.empty,pN]) rfl rfl rfl rfl (fun b9=>aX rfl rfl (au (vs:=(aN m8)) rfl rfl rfl rfl rfl cY om (aw (du hb3 fun x10 hx10 hb3=>ap [1,0] [26,27,28,29] [(30,pB (!x10))] (xn 3 (hg2 hx10) bL) (by kernel_rfl) (cg rfl hb3 (fun hc11 hb3=>?_) fun hc11 hb3=>?_))))))))))))))))))
   ·refine af ?_
    refine fP [(6,pB false)] (by kernel_rfl) (iw ?_)
    refine aS hb3 (fun ht=>?_);subst ht
    refine aA (aV ?_)
    exact zz r h rfl
   refine ai ?_
   refine mn (ah [31] [(17,pI (IntKind.i64.wrap (v2+1)))] (by kernel_rfl) ?_)
   exact bd hb3 () (mO rfl) bX
  refine aR ?_
  refine av (an hb3 (fun ht=>ar rfl ?_))
  exact aG ((),()) oj bX ht.symm
 rintro ⟨_,_⟩ τ hz;(try dsimp only at hz);subst q4;(try dsimp only at h);dsimp only [aD]
 refine af (fP [(6,pB true)] (by kernel_rfl) ?_)
 exact zz r h rfl
def dy (rec:Ze→Ze→Option Bool) (p0:Ze) (p1:Ze):Option Bool:=(gd (((((p0.Kind == p1.Kind)&&(p0.Digits == p1.Digits))&&(p0.Tolerance == p1.Tolerance))&&(p0.Limit == p1.Limit))&&(decide (p0.Name=p1.Name))) (cG p0.Except p1.Except)).bind fun x3=>(gd ((((((p0.Kind == p1.Kind)&&(p0.Digits == p1.Digits))&&(p0.Tolerance == p1.Tolerance))&&(p0.Limit == p1.Limit))&&(decide (p0.Name=p1.Name)))&&x3) (bh p0.Args p1.Args (fun y4 y5=>rec y4 y5))).bind fun x6=>some (((((((p0.Kind == p1.Kind)&&(p0.Digits == p1.Digits))&&(p0.Tolerance == p1.Tolerance))&&(p0.Limit == p1.Limit))&&(decide (p0.Name=p1.Name)))&&x3)&&x6)
theorem kN {rec:Ze→Ze→Option Bool} (hrec:∀ {p0:Ze} {p1:Ze} {r:Bool},rec p0 p1=some r→PF 157 [.agg (aN p0),.agg (aN p1)] (pB r)) {p0:Ze} {p1:Ze} {r:Bool} (h:dy rec p0 p1=some r):PF 157 [.agg (aN p0),.agg (aN p1)] (pB r):=by
 unfold dy at h
 refine br ?_
 refine eW Tryz.func157 rfl Tryz.ntmps157 Tryz.results157 rfl (aa (aj rfl (bE (cs:=(aN p0)) rfl rfl (fun b1=>aj rfl (bE (cs:=(aN p1)) rfl rfl (fun b2=>bA [4] (by kernel_rfl) (du h fun x3 hx3 h=>ae h fun x6 hx6 h=>ap [1,0,1,0,1,0,1,0,1,0,1,0,1,0] (rg 5 47) [(4,pB (((((((p0.Kind == p1.Kind)&&(p0.Digits == p1.Digits))&&(p0.Tolerance == p1.Tolerance))&&(p0.Limit == p1.Limit))&&(decide (p0.Name=p1.Name)))&&x3)&&x6))] (gC 38 (fun hc=>jy (gq hx3 hc)) (gC 45 (fun hc=>eo (fun hr=>nP (hrec hr)) (gq hx6 hc)) bL)) (by kernel_rfl) (eD ?_))))))))
 exact zz r h rfl
def dz (n:Nat):Ze→Ze→Option Bool:=Nat.rec (motive:=fun _=>Ze→Ze→Option Bool) (fun _ _=>none) (fun _ ih=>dy ih) n
def gG (p0:Ze) (p1:Ze):Option Bool:=dz FUEL p0 p1
theorem lh (n:Nat):∀ {p0:Ze} {p1:Ze} {r:Bool},dz n p0 p1=some r→PF 157 [.agg (aN p0),.agg (aN p1)] (pB r):=by
 induction n with
 | zero=>intros;rename_i h;exact nomatch h
 | succ n ih=>intros;rename_i h;exact kN (fun hr=>ih hr) h
theorem lK {p0:Ze} {p1:Ze} {r:Bool} (h:gG p0 p1=some r):PF 157 [.agg (aN p0),.agg (aN p1)] (pB r):=lh FUEL h
def dI (p1:Int):Option (List ByteArray):=(zS 16 p1).bind fun _=>some []
theorem jI {p1:Int} {r:(List ByteArray)} (h:dI p1=some r):PCall 193 [.v (.slice none 0 0),pI p1] [] (fun pv ρ'=>∃ a c,pv=.v (.slice a r.length c)∧ρ'=[PRes.row a r.length c 9 1 (List.map eS r)]):=by
 unfold dI at h
 obtain ⟨u,hu,h⟩:=Option.bind_eq_some_iff.1 h
 obtain rfl:=osi h
 obtain ⟨hg0,hg1⟩:=BU hu
 have ew:IntKind.i64.wrap (p1 - IntKind.i64.wrap (((0:Nat):Int) - ((0:Nat):Int)))=p1:=tj hg0 hg1
 refine jq Tryz.func193 rfl Tryz.ntmps193 Tryz.results193 rfl ?_
 (repeat refine af ?_)
 refine aU [4] (by kernel_rfl) (aL ?_)
 (repeat refine af ?_)
 refine ah [5] [(6,pB (decide (p1<0)))] (by kernel_rfl) (aL ?_)
 refine gz rfl (fun hc=>absurd (of_decide_eq_true hc) (by omega)) (fun hc=>?_)
 refine ai (aL ?_)
 (repeat refine af ?_)
 refine aa (am 2 [(8,pI p1),(9,.v (.slice none 0 0))] (by kernel_rfl) (bD rfl rfl rfl (qw rfl rfl (.p rfl)) (fu [11,12,13,14] [(1,pI (IntKind.i64.wrap (p1 - IntKind.i64.wrap (((0:Nat):Int) - ((0:Nat):Int)))))] (by kernel_rfl) ?_)))
 rw [ew]
 refine aL ?_
 (repeat refine af ?_)
 refine ah [15] [(16,pB (decide (0<p1)))] (by kernel_rfl) (aL ?_)
 refine gz rfl (fun hc=>?_) (fun hc=>?_)
 ·refine aa ?_
  refine am 2 [(17,.v (.slice none 0 0)),(18,.v (.slice none 0 0))] (by kernel_rfl) (bD rfl rfl rfl (qw rfl rfl (.p rfl)) (bD rfl rfl rfl (nB rfl rfl rfl (.p rfl) (.p rfl) rfl (Nat.zero_le _)) (am 1 [(21,pI p1)] (by kernel_rfl) (qZ 9 1 ?_))))
  refine aj rfl (vX rfl rfl rfl rfl rfl rfl rfl rfl (of_decide_eq_true hc) hu (by exact aC) (fun a c hac=>?_))
  refine am 2 [(23,.v (.slice none 0 0)),(24,pI 0)] (by kernel_rfl) (bD rfl rfl rfl (nB (k:=0) rfl rfl rfl (.p rfl) (.p rfl) rfl (Nat.zero_le _)) (aM [(0,.v (.slice a 0 c))] (by kernel_rfl) (aL ?_)))
  (repeat refine af ?_)
  refine ah [26] [(4,.v (.slice a 0 c))] (by kernel_rfl) (eD ?_)
  exact aO (dh (aP rfl)) dM ⟨_,_,rfl,rfl⟩
 refine ai ?_
 refine aL ?_
 (repeat refine af ?_)
 refine ah [26] [(4,.v (.slice none 0 0))] (by kernel_rfl) (aL (bI 9 1 (bS ?_)))
 exact aO (dh (aP rfl)) dM ⟨_,_,rfl,rfl⟩
def cu (p0:(List (List ByteArray))):Option (List ByteArray):=(bf (S:=Int×Int) (T:=(Int)) (fun (v1,v2)=>cond (decide (v2<(p0.length:Int))) ((idx p0 v2).bind fun m7=>cond (decide ((IntKind.i64.wrap (v1+(m7.length:Int)))<0)) (none) (some (.inl ((IntKind.i64.wrap (v1+(m7.length:Int))),(IntKind.i64.wrap (v2+1)))))) (some (.inr v1))) FUEL (0,0)).bind fun v3=>(dI v3).bind fun x9=>(bf (S:=(List ByteArray)×Int) (T:=((List ByteArray))) (fun (l14,v17)=>cond (decide (v17<(p0.length:Int))) ((idx p0 v17).bind fun m25=>(app 16 l14 m25).bind fun l26=>some (.inl (l26,(IntKind.i64.wrap (v17+1))))) (some (.inr l14))) FUEL (x9,0)).bind fun l21=>some l21
theorem jm {p0:(List (List ByteArray))} {r:(List ByteArray)}  (h:cu p0=some r):PCall 159 [pL (eL eS) p0] [] (fun pv ρ'=>∃ a c,pv=.v (.slice a r.length c)∧ρ'=[PRes.row a r.length c 9 1 (List.map eS r)]):=by
 unfold cu at h
 refine eW Tryz.func159 rfl Tryz.ntmps159 Tryz.results159 rfl (aU [2] (by kernel_rfl) (bM (al [(3,pI 0)] (by kernel_rfl) (dn (al [(9,pL (eL eS) p0),(10,pI (p0.length:Int)),(11,pI 0)] (by kernel_rfl) (dN h fun q5 hq5 h=>?_))))))
 refine az (Y:=Unit×Int) (fun (_,v3)=>[(0,pL (eL eS) p0),(3,pI v3)]) (fun (_,v3)=>[]) (fun (_,v3)=>q5=v3) ?_ ?_
 ·refine aJ ?_
  refine aK (Y:=Unit) (S:=Int×Int) _ hq5 (fun _ (v1,v2)=>[(0,pL (eL eS) p0),(3,pI v1),(9,pL (eL eS) p0),(10,pI (p0.length:Int)),(11,pI v2)]) (fun _ (v1,v2)=>[]) () (mO rfl) bX ?_
  rintro _ ⟨v1,v2⟩ o τ hb4;(try dsimp only at hb4);dsimp only [aD]
  refine af (al [(12,pB (decide (v2<(p0.length:Int))))] (by kernel_rfl) (bM (js rfl hb4 (fun hc6 hb4=>?_) fun hc6 hb4=>?_)))
  ·refine ai ?_
   refine bM (gX (ae hb4 fun m7 hm7 hb4=>ap [] [13,14] [(5,pL eS m7)] (fG 0 (eL eS) hm7 bL) (by kernel_rfl) (bM (ah [15,16,17,18] [(3,pI (IntKind.i64.wrap (v1+(m7.length:Int))))] (by kernel_rfl) (bM (ah [19] [(20,pB (decide ((IntKind.i64.wrap (v1+(m7.length:Int)))<0)))] (by kernel_rfl) (cg rfl hb4 (fun hc8 hb4=>?_) fun hc8 hb4=>?_)))))))
   ·refine aa ?_
    exact absurd hb4 (by simp)
   refine ai ?_
   refine mn (ah [22] [(11,pI (IntKind.i64.wrap (v2+1)))] (by kernel_rfl) ?_)
   exact bd hb4 () (mO rfl) bX
  refine aR ?_
  refine av (an hb4 (fun ht=>ar rfl ?_))
  exact aG ((),v1) (qa rfl) bX ht.symm
 rintro ⟨_,v3⟩ τ hz;(try dsimp only at hz);subst q5;(try dsimp only at h);dsimp only [aD]
 refine af (ae h fun x9 hx9 h=>aa (am 1 [(23,pI v3)] (by kernel_rfl) ?_))
 refine aj rfl (aW rfl rfl (ρ1:=[]) (List.Perm.refl _) (jI hx9) ?_);rintro _ _ ⟨a10,c11,rfl,rfl⟩
 refine aM [(6,pO a10 x9.length c11)] (by kernel_rfl) (dn (al [(25,pL (eL eS) p0),(26,pI (p0.length:Int)),(27,pI 0)] (by kernel_rfl) (dN h fun q23 hq23 h=>?_)))
 refine az (Y:=(Option Addr×Nat)×((List ByteArray))) (fun ((a19,c20),l21)=>[(6,pO a19 l21.length c20)]) (fun ((a19,c20),l21)=>[PRes.row a19 l21.length c20 9 1 (List.map eS l21)]) (fun ((a19,c20),l21)=>q23=l21) ?_ ?_
 ·refine aJ ?_
  refine aK (Y:=Option Addr×Nat) (S:=(List ByteArray)×Int) _ hq23 (fun (a15,c16) (l14,v17)=>[(6,pO a15 l14.length c16),(25,pL (eL eS) p0),(26,pI (p0.length:Int)),(27,pI v17)]) (fun (a15,c16) (l14,v17)=>[PRes.row a15 l14.length c16 9 1 (List.map eS l14)]) (a10,c11) (jt rfl) dM ?_
  rintro ⟨a15,c16⟩ ⟨l14,v17⟩ o τ hb22;(try dsimp only at hb22);dsimp only [aD]
  refine af (al [(28,pB (decide (v17<(p0.length:Int))))] (by kernel_rfl) (bM (js rfl hb22 (fun hc24 hb22=>?_) fun hc24 hb22=>?_)))
  ·refine ai ?_
   refine bM (gX (ae hb22 fun m25 hm25 hb22=>ap [] [29,30] [(8,pL eS m25)] (fG 0 (eL eS) hm25 bL) (by kernel_rfl) (dN hb22 fun l26 hl26 hb22=>aa (am 2 [(31,pO a15 l14.length c16),(32,pL eS m25)] (by kernel_rfl) ?_))))
   refine aj rfl (lB (enc:=eS) rfl rfl rfl rfl rfl (fun _=>rfl) rfl rfl rfl (by exact aC) hl26 (fun a27 c28=>?_))
   refine aM [(6,pO a27 l26.length c28)] (by kernel_rfl) (mn (ah [34] [(27,pI (IntKind.i64.wrap (v17+1)))] (by kernel_rfl) ?_))
   exact bd hb22 (a27,c28) (jt rfl) dM
  refine aR ?_
  refine av (an hb22 (fun ht=>ar rfl ?_))
  exact aG ((a15,c16),l14) (xj rfl) dM ht.symm
 rintro ⟨⟨a19,c20⟩,l21⟩ τ hz;(try dsimp only at hz);subst q23;(try dsimp only at h);dsimp only [aD]
 refine af (ah [35] [(2,pO a19 l21.length c20)] (by kernel_rfl) (eD ?_))
 obtain rfl:=osi h
 exact aO (dh (aP rfl)) dM ⟨_,_,rfl,rfl⟩
def da (p0:(List ByteArray)):Option (List ByteArray):=cond (decide (((p0.length:Nat):Int)<2)) (some p0) ((bf (S:=Int) (T:=(Unit)⊕(_)) (fun v2=>cond (decide (v2<((p0.length:Nat):Int))) ((idx p0 v2).bind fun m7=>(idx p0 (IntKind.i64.wrap (v2 - 1))).bind fun m8=>cond (decide (m7=m8)) ((sub p0 v2 (p0.length:Int)).bind fun l10=>(bf (S:=(List ByteArray)×Int×Int) (T:=((List ByteArray)×Int)) (fun (l12,v13,v14)=>cond (decide (v14<((p0.length - v2.toNat:Nat):Int))) (((lv v14).bind fun u25=>(idx l12 (v2+v14)).bind fun m26=>(lv (IntKind.i64.wrap (v14 - 1))).bind fun u27=>(idx l12 (v2+(IntKind.i64.wrap (v14 - 1)))).bind fun m28=>cond (!decide (m26=m28)) ((lv v14).bind fun u30=>(idx l12 (v2+v14)).bind fun m31=>(idx l12 v13).bind fun m32=>some ((l12.set v13.toNat m31),(IntKind.i64.wrap (v13+1)))) (some (l12,v13))).bind fun (l22,v23)=>some (.inl (l22,v23,(IntKind.i64.wrap (v14+1))))) (some (.inr (l12,v13)))) FUEL (p0,v2,1)).bind fun (l16,v17)=>(sub l16 v17 (l16.length:Int)).bind fun l34=>(sub (List.take v17.toNat l16++List.replicate (p0.length - v17.toNat) ByteArray.empty) 0 v17).bind fun l35=>some (.inr (.inr l35))) (some (.inl (IntKind.i64.wrap (v2+1))))) (some (.inr (.inl ())))) FUEL 1).bind fun q=>match q with | .inl _=>some p0 | .inr e=>some e)
theorem i9 {p0:(List ByteArray)} {a_0:Option Addr}  {n_0:Nat}  {c_0:Nat} {r:(List ByteArray)}  (h:da p0=some r):PCall 161 [.v (.slice a_0 n_0 c_0)] [PRes.row a_0 n_0 c_0 9 1 (List.map eS p0)] (fun pv ρ'=>∃ a c,pv=.v (.slice a r.length c)∧ρ'=[PRes.row a r.length c 9 1 (List.map eS r)]):=by
 unfold da at h
 refine jq Tryz.func161 rfl Tryz.ntmps161 Tryz.results161 rfl ?_
 refine iv (enc:=eS) (xs:=p0) (a:=a_0) fF (fun hl ha=>?_);subst hl;clear ha
 refine af (aU [2] (by kernel_rfl) (dn (ah [6,7] [(8,pB (decide (((p0.length:Nat):Int)<2)))] (by kernel_rfl) (cg rfl h (fun hc1 h=>?_) fun hc1 h=>?_))))
 ·refine af ?_
  refine ah [9] [(2,pO a_0 p0.length c_0)] (by kernel_rfl) (eD (aq ?_))
  obtain rfl:=osi h
  exact aO (dh (aP rfl)) dM ⟨_,_,rfl,rfl⟩
 refine ai ?_
 refine dn (al [(3,pI 1)] (by kernel_rfl) (dN h fun q5 hq5 h=>?_))
 refine az (Y:=Unit×Unit) (fun (_,_)=>[(0,pO a_0 p0.length c_0)]) (fun (_,_)=>[PRes.row a_0 p0.length c_0 9 1 (List.map eS p0)]) (fun (_,_)=>q5=Sum.inl ()) ?_ ?_
 ·refine aJ ?_
  refine aK (Y:=Unit) (S:=Int) _ hq5 (fun _ v2=>[(0,pO a_0 p0.length c_0),(3,pI v2)]) (fun _ v2=>[PRes.row a_0 p0.length c_0 9 1 (List.map eS p0)]) () (qa rfl) dM ?_
  rintro _ v2 o τ hb4;(try dsimp only at hb4);dsimp only [aD]
  refine af (af (ah [10,11,12] [(13,pB (decide (v2<((p0.length:Nat):Int))))] (by kernel_rfl) (cg rfl hb4 (fun hc6 hb4=>?_) fun hc6 hb4=>?_)))
  ·refine ai ?_
   refine bM (gX (dg (ρd:=[]) [(0,0),(1,0),(2,0),(3,0),(4,0),(5,0),(6,0),(7,0),(8,0),(9,0)] _ (List.Perm.refl _) (by kernel_rfl) rfl (ae hb4 fun m7 hm7 hb4=>iP 2 [(16,pO a_0 p0.length c_0),(17,pI v2)] (by kernel_rfl) (jN rfl rfl rfl (dB (enc:=eS) (xs:=p0) rfl rfl rfl (.p rfl) fF (.p rfl) (fun _=>hm7)) (jN rfl rfl rfl (ca (sz:=1) (p:=pS m7) (enc:=eS) (xs:=p0) (a:=a_0) v2 0 m7 rfl (.p rfl) rfl fF (fun _=>hm7) rfl) (ae hb4 fun m8 hm8 hb4=>kr 3 [21] [(20,pO a_0 p0.length c_0),(22,pI (IntKind.i64.wrap (v2 - 1)))] (by kernel_rfl) (jN rfl rfl rfl (dB (enc:=eS) (xs:=p0) rfl rfl rfl (.p rfl) fF (.p rfl) (fun _=>hm8)) (jN rfl rfl rfl (ca (sz:=1) (p:=pS m8) (enc:=eS) (xs:=p0) (a:=a_0) (IntKind.i64.wrap (v2 - 1)) 0 m8 rfl (.p rfl) rfl fF (fun _=>hm8) rfl) (iP 1 [(25,pB (decide (m7=m8)))] (by kernel_rfl) (ey (cg rfl hb4 (fun hc9 hb4=>?_) fun hc9 hb4=>?_)))))))))))
   ·refine af ?_
    refine ae hb4 fun l10 hl10 hb4=>aa (am 2 [(26,pO a_0 p0.length c_0),(27,pI v2)] (by kernel_rfl) (bD rfl rfl rfl (jj (enc:=eS) (xs:=p0) rfl rfl rfl rfl rfl fF hl10) (aM [(4,pQ a_0 p0.length c_0 v2.toNat 1)] (by kernel_rfl) (dn (al [(5,pI 1)] (by kernel_rfl) (dN hb4 fun q19 hq19 hb4=>?_))))))
    refine az (Y:=Unit×((List ByteArray)×Int)) (fun (_,(l16,v17))=>[(0,pO a_0 p0.length c_0),(3,pI v17)]) (fun (_,(l16,v17))=>[PRes.row a_0 p0.length c_0 9 1 (List.map eS l16)]) (fun (_,(l16,v17))=>q19=(l16,v17)) ?_ ?_
    ·refine aJ ?_
     refine aK (Y:=Unit) (S:=(List ByteArray)×Int×Int) _ hq19 (fun _ (l12,v13,v14)=>[(0,pO a_0 p0.length c_0),(3,pI v13),(4,pQ a_0 p0.length c_0 v2.toNat 1),(5,pI v14)]) (fun _ (l12,v13,v14)=>[PRes.row a_0 p0.length c_0 9 1 (List.map eS l12)]) () (jt rfl) dM ?_
     rintro _ ⟨l12,v13,v14⟩ o τ hb18;(try dsimp only at hb18);dsimp only [aD]
     refine af (af (ah [29,30,31] [(32,pB (decide (v14<((p0.length - v2.toNat:Nat):Int))))] (by kernel_rfl) (cg rfl hb18 (fun hc20 hb18=>?_) fun hc20 hb18=>?_)))
     ·refine ai ?_
      refine du hb18 fun q24 hq24 hb18=>?_
      refine az (Y:=Unit×((List ByteArray)×Int)) (fun (_,(l22,v23))=>[(0,pO a_0 p0.length c_0),(3,pI v23),(4,pQ a_0 p0.length c_0 v2.toNat 1),(5,pI v14)]) (fun (_,(l22,v23))=>[PRes.row a_0 p0.length c_0 9 1 (List.map eS l22)]) (fun (_,(l22,v23))=>q24=(l22,v23)) ?_ ?_
      ·skip
       refine gX (dg (ρd:=[]) [(0,0),(1,0),(2,0),(3,0),(4,0),(5,0),(6,0),(7,0),(8,0),(9,0)] _ (List.Perm.refl _) (by kernel_rfl) rfl (ae hq24 fun u25 hu25 hq24=>ae hq24 fun m26 hm26 hq24=>iP 2 [(35,pQ a_0 p0.length c_0 v2.toNat 1),(36,pI v14)] (by kernel_rfl) (jN rfl rfl rfl (gD (enc:=eS) (xs:=l12) (i:=v2) rfl rfl rfl rfl rfl (ft hl10).1.1 (iO hu25) fF hm26) (jN rfl rfl rfl (ca (sz:=1) (p:=pS m26) (enc:=eS) (xs:=l12) (a:=a_0) (v2+v14) 0 m26 rfl (.p rfl) rfl fF (fun _=>hm26) rfl) (ae hq24 fun u27 hu27 hq24=>ae hq24 fun m28 hm28 hq24=>kr 3 [40] [(39,pQ a_0 p0.length c_0 v2.toNat 1),(41,pI (IntKind.i64.wrap (v14 - 1)))] (by kernel_rfl) (jN rfl rfl rfl (gD (enc:=eS) (xs:=l12) (i:=v2) rfl rfl rfl rfl rfl (ft hl10).1.1 (iO hu27) fF hm28) (jN rfl rfl rfl (ca (sz:=1) (p:=pS m28) (enc:=eS) (xs:=l12) (a:=a_0) (v2+(IntKind.i64.wrap (v14 - 1))) 0 m28 rfl (.p rfl) rfl fF (fun _=>hm28) rfl) (iP 1 [(44,pB (!decide (m26=m28)))] (by kernel_rfl) (ey (cg rfl hq24 (fun hc29 hq24=>?_) fun hc29 hq24=>?_))))))))))
       ·refine af ?_
        refine ae hq24 fun u30 hu30 hq24=>ae hq24 fun m31 hm31 hq24=>aa (am 4 [(45,pO a_0 p0.length c_0),(46,pI v13),(47,pQ a_0 p0.length c_0 v2.toNat 1),(48,pI v14)] (by kernel_rfl) (bD rfl rfl rfl (gD (enc:=eS) (xs:=l12) (i:=v2) rfl rfl rfl rfl rfl (ft hl10).1.1 (iO hu30) fF hm31) (bD rfl rfl rfl (ca (sz:=1) (p:=pS m31) (enc:=eS) (xs:=l12) (a:=a_0) (v2+v14) 0 m31 rfl (.p rfl) rfl fF (fun _=>hm31) rfl) (ae hq24 fun m32 hm32 hq24=>bD rfl rfl rfl (dB (enc:=eS) (xs:=l12) rfl rfl rfl (.p rfl) fF (.p rfl) (fun _=>hm32)) (aX rfl rfl (kj (enc:=eS) (xs:=l12) (a:=a_0) v13 0 m32 m31 rfl rfl rfl rfl (fun _=>rfl) rfl rfl hm32 mG cY (aw (aL (ah [52,53] [(3,pI (IntKind.i64.wrap (v13+1)))] (by kernel_rfl) (aH ?_))))))))))
        obtain rfl:=osi hq24
        exact aG ((),((l12.set v13.toNat m31),(IntKind.i64.wrap (v13+1)))) (jt rfl) dM rfl
       refine ai ?_
       refine aH ?_
       obtain rfl:=osi hq24
       exact aG ((),(l12,v13)) (jt rfl) dM rfl
      rintro ⟨_,⟨l22,v23⟩⟩ τ hz;(try dsimp only at hz);subst q24;(try dsimp only at hb18);dsimp only [aD]
      refine ah [33,34] [(5,pI (IntKind.i64.wrap (v14+1)))] (by kernel_rfl) ?_
      exact bd hb18 () (jt rfl) dM
     refine aR ?_
     refine av (an hb18 (fun ht=>ar rfl ?_))
     exact aG ((),(l12,v13)) (qa rfl) dM ht.symm
    rintro ⟨_,⟨l16,v17⟩⟩ τ hz;(try dsimp only at hz);subst q19;(try dsimp only at hb4);dsimp only [aD]
    refine af (ae hb4 fun l34 hl34 hb4=>aa (am 2 [(54,pO a_0 p0.length c_0),(55,pI v17)] (by kernel_rfl) (bD rfl rfl rfl (jj (enc:=eS) (xs:=l16) rfl rfl rfl rfl rfl fF hl34) (aX rfl rfl (td (enc:=eS) (xs:=l16) (z0:=ByteArray.empty) (i:=v17) rfl rfl rfl rfl hl34 rfl rfl rfl rfl cY (aw (du hb4 fun l35 hl35 hb4=>aa (am 2 [(57,pO a_0 p0.length c_0),(58,pI v17)] (by kernel_rfl) ?_))))))))
    refine aj rfl (tc (enc:=eS) (xs:=(List.take v17.toNat l16++List.replicate (p0.length - v17.toNat) ByteArray.empty)) rfl rfl rfl rfl rfl (by exact aC) hl35 ?_)
    refine aM [(2,pO a_0 l35.length c_0)] (by kernel_rfl) (eD (iw ?_))
    refine aS hb4 (fun ht=>?_);subst ht
    refine aA (aV ?_)
    obtain rfl:=osi h
    exact aO (dh (aP rfl)) dM ⟨_,_,rfl,rfl⟩
   refine ai ?_
   refine mn (ah [14,15] [(3,pI (IntKind.i64.wrap (v2+1)))] (by kernel_rfl) ?_)
   exact bd hb4 () (qa rfl) dM
  refine aR ?_
  refine av (an hb4 (fun ht=>ar rfl ?_))
  exact aG ((),()) (xj rfl) dM ht.symm
 rintro ⟨_,_⟩ τ hz;(try dsimp only at hz);subst q5;(try dsimp only at h);dsimp only [aD]
 refine af (ah [60] [(2,pO a_0 p0.length c_0)] (by kernel_rfl) (eD ?_))
 obtain rfl:=osi h
 exact aO (dh (aP rfl)) dM ⟨_,_,rfl,rfl⟩
def ce (p0:Zs) (p1:Zb) (p2:Int):Option Zd:=(bf (S:=Int) (T:=(Unit)⊕(_)) (fun v3=>cond (decide (v3<(p0.partners.length:Int))) ((idx p0.partners v3).bind fun m7=>cond ((kn p0.set_ (⟨p1.ID,m7⟩:Za)).getD false) (some (.inr (.inr (Zd.proved_ (⟨(⟨p1.Code,p2,true⟩:Zl),(⟨p1.ID,m7⟩:Za)⟩:Zq))))) (some (.inl (IntKind.i64.wrap (v3+1))))) (some (.inr (.inl ())))) FUEL 0).bind fun q=>match q with | .inl _=>some (Zd.plain_ (⟨(⟨p1.Code,p2,false⟩:Zl)⟩:Zt)) | .inr e=>some e
theorem gu {p0:Zs} {p1:Zb} {p2:Int} {m0_set_:Nat} {r:Zd}  (h:ce p0 p1 p2=some r):PCall 125 [.agg [pL eI p0.partners,.v (.map (some m0_set_))],.agg (aZ p1),pI p2] [PRes.mp (some m0_set_) (gW Za.key vT p0.set_)] (fun pv ρ'=>pv=Zd.pv r∧ρ'=[PRes.mp (some m0_set_) (gW Za.key vT p0.set_)]):=by
 unfold ce at h
 refine eW Tryz.func125 rfl Tryz.ntmps125 Tryz.results125 rfl (aa (aj rfl (bE (cs:=[pL eI p0.partners,.v (.map (some m0_set_))]) rfl rfl (fun b1=>aj rfl (bE (cs:=(aZ p1)) rfl rfl (fun b2=>bA [6] (by kernel_rfl) (dn (bc [1] [10] [(11,pL eI p0.partners),(12,pI (p0.partners.length:Int)),(13,pI 0)] (by kernel_rfl) (dN h fun q5 hq5 h=>?_)))))))))
 refine az (Y:=Unit×Unit) (fun (_,_)=>[(2,pI p2),(4,pP b2 0)]) (fun (_,_)=>[PRes.b b2 52 (aZ p1),PRes.mp (some m0_set_) (gW Za.key vT p0.set_)]) (fun (_,_)=>q5=Sum.inl ()) ?_ ?_
 ·refine aJ ?_
  refine aK (Y:=Unit) (S:=Int) _ hq5 (fun _ v3=>[(2,pI p2),(3,pP b1 0),(4,pP b2 0),(11,pL eI p0.partners),(12,pI (p0.partners.length:Int)),(13,pI v3)]) (fun _ v3=>[PRes.b b1 169 [pL eI p0.partners,.v (.map (some m0_set_))],PRes.b b2 52 (aZ p1),PRes.mp (some m0_set_) (gW Za.key vT p0.set_)]) () (zI rfl) (aY (ak aC) py) ?_
  rintro _ v3 o τ hb4;(try dsimp only at hb4);dsimp only [aD]
  refine af (al [(14,pB (decide (v3<(p0.partners.length:Int))))] (by kernel_rfl) (bM (js rfl hb4 (fun hc6 hb4=>?_) fun hc6 hb4=>?_)))
  ·refine ai ?_
   refine bM (gX (ae hb4 fun m7 hm7 hb4=>ap [] [15,16] [(8,pI m7)] (fG 0 eI hm7 bL) (by kernel_rfl) (bM (aa (cq 4 [1] [17,18,19] [(20,.agg [pI p1.ID,pI m7])] (by kernel_rfl) (aj rfl (aT (cs:=[pI 0,pI 0]) rfl rfl rfl rfl (fun b8=>aX rfl rfl (au (vs:=[pI p1.ID,pI m7]) rfl rfl rfl rfl rfl cY Bp (aw (bM (aa (cq 3 [1,0] [21] [(22,.v (.map (some m0_set_))),(23,.agg [pI p1.ID,pI m7])] (by kernel_rfl) (bD rfl rfl rfl (show POpQ _ _ _ _ (pB ((kn p0.set_ (⟨p1.ID,m7⟩:Za)).getD false)) from zR (xs:=p0.set_) (k:=(⟨p1.ID,m7⟩:Za)) (ek:=Za.key) (vv:=vT) (z0:=false) rfl rfl rfl (fun _=>.v rfl) Za.kenc57 (.p rfl) (.p rfl) BO (BN zG)) (aw (cg rfl hb4 (fun hc9 hb4=>?_) fun hc9 hb4=>?_))))))))))))))))
   ·refine af ?_
    refine bc [2,0] (rg 25 7) [(6,Zd.pv (Zd.proved_ (⟨(⟨p1.Code,p2,true⟩:Zl),(⟨p1.ID,m7⟩:Za)⟩:Zq)))] (by kernel_rfl) (eD (iw ?_))
    refine aS hb4 (fun ht=>?_);subst ht
    refine aA (aV ?_)
    obtain rfl:=osi h
    exact aO (dh (aP rfl)) (aY (ak (ak (ak aC))) bX) ⟨rfl,rfl⟩
   refine ai ?_
   refine mn (ah [32] [(13,pI (IntKind.i64.wrap (v3+1)))] (by kernel_rfl) ?_)
   exact bd hb4 () (zI rfl) (aY (ak aC) (aY (ak aC) (aY (ak aC) bX)))
  refine aR ?_
  refine av (an hb4 (fun ht=>ar rfl ?_))
  exact aG ((),()) (qa rfl) (aY (ak aC) (aY (ak aC) bX)) ht.symm
 rintro ⟨_,_⟩ τ hz;(try dsimp only at hz);subst q5;(try dsimp only at h);dsimp only [aD]
 refine af (bc [0] (rg 33 6) [(6,Zd.pv (Zd.plain_ (⟨(⟨p1.Code,p2,false⟩:Zl)⟩:Zt)))] (by kernel_rfl) (eD ?_))
 obtain rfl:=osi h
 exact aO (dh (aP rfl)) (aY (ak aC) bX) ⟨rfl,rfl⟩
def eY (p0:Int) (p1:Int) (p2:Int):Option Int:=(jY (IntKind.u64.wrap p0) (IntKind.u64.wrap p1) (IntKind.u64.wrap p2) 1).bind fun x1=>cond ((x1.2 != 0)||(decide (1000000000000<x1.1))) (some (1000000000000:Int)) (some (IntKind.i64.wrap x1.1))
theorem mL {p0:Int} {p1:Int} {p2:Int} {r:Int}  (h:eY p0 p1 p2=some r):PF 126 [pI p0,pI p1,pI p2] (pI r):=by
 unfold eY at h
 refine br ?_
 refine eW Tryz.func126 rfl Tryz.ntmps126 Tryz.results126 rfl (aU [6] (by kernel_rfl) (du h fun x1 hx1 h=>ap [] ((rg 10 7)++[9,17,18]) [(7,pU x1.1),(8,pI x1.2)] (bR 6 (qc hx1) bL) (by kernel_rfl) (dn (ah (rg 19 5) [(24,pB ((x1.2 != 0)||(decide (1000000000000<x1.1))))] (by kernel_rfl) (cg rfl h (fun hc2 h=>?_) fun hc2 h=>?_)))))
 ·refine af ?_
  refine fP [(6,pI 1000000000000)] (by kernel_rfl) (aq ?_)
  exact zz r h rfl
 refine ai ?_
 refine bM (ah [25,26] [(6,pI (IntKind.i64.wrap x1.1))] (by kernel_rfl) (eD ?_))
 exact zz r h rfl
def dZ (p0:Za) (p1:Za):Option Int:=(eE p0.Product p1.Product).bind fun x3=>(eE p0.Agreement p1.Agreement).bind fun x4=>(kv [x3,x4]).bind fun x6=>some x6
theorem j0 {p0:Za} {p1:Za} {r:Int}  (h:dZ p0 p1=some r):PF 84 [.agg [pI p0.Product,pI p0.Agreement],.agg [pI p1.Product,pI p1.Agreement]] (pI r):=by
 unfold dZ at h
 refine br ?_
 refine eW Tryz.func84 rfl Tryz.ntmps84 Tryz.results84 rfl (aa (aj rfl (bE (cs:=[pI p0.Product,pI p0.Agreement]) rfl rfl (fun b1=>aj rfl (bE (cs:=[pI p1.Product,pI p1.Agreement]) rfl rfl (fun b2=>bA [4] (by kernel_rfl) (bM (dg (ρd:=[]) [(0,0),(1,0),(2,0),(3,0),(5,0),(6,0),(7,0),(8,0),(4,1),(9,1),(10,1),(11,1),(12,0)] _ (List.Perm.refl _) (by kernel_rfl) rfl (ae h fun x3 hx3 h=>ae h fun x4 hx4 h=>dH 10 [1,0,1,0] [5,6,7,8,10,11,12,13] [(9,pI x3),(14,pI x4)] (bR 8 (il hx3) (bR 9 (il hx4) bL)) (by kernel_rfl) ?_)))))))))
 refine mX rfl rfl rfl (pl_fz (bG rfl rfl rfl rfl rfl (fL rfl (fL rfl jr)) rfl rfl rfl rfl (fun b5=>⟨_,_,_,_,_,_,_,rfl,by (repeat (first | exact aC | apply ak)),?_⟩)))
 refine ae h fun x6 hx6 h=>dH 2 [] [16] [(4,pI x6)] (bR 0 (sq hx6) bL) (by kernel_rfl) (ey (eD ?_))
 exact zz r h rfl
def bq (p0:(List Za)):Option (List Za):=cond (decide (((p0.length:Nat):Int)<2)) (some p0) ((bf (S:=Int) (T:=(Unit)⊕(_)) (fun v2=>cond (decide (v2<((p0.length:Nat):Int))) ((idx p0 v2).bind fun m7=>(idx p0 (IntKind.i64.wrap (v2 - 1))).bind fun m8=>cond (Za.eqb m7 m8) ((sub p0 v2 (p0.length:Int)).bind fun l10=>(bf (S:=(List Za)×Int×Int) (T:=((List Za)×Int)) (fun (l12,v13,v14)=>cond (decide (v14<((p0.length - v2.toNat:Nat):Int))) (((lv v14).bind fun u25=>(idx l12 (v2+v14)).bind fun m26=>(lv (IntKind.i64.wrap (v14 - 1))).bind fun u27=>(idx l12 (v2+(IntKind.i64.wrap (v14 - 1)))).bind fun m28=>cond (!(Za.eqb m26 m28)) ((lv v14).bind fun u30=>(idx l12 (v2+v14)).bind fun m31=>(idx l12 v13).bind fun m32=>some ((l12.set v13.toNat m31),(IntKind.i64.wrap (v13+1)))) (some (l12,v13))).bind fun (l22,v23)=>some (.inl (l22,v23,(IntKind.i64.wrap (v14+1))))) (some (.inr (l12,v13)))) FUEL (p0,v2,1)).bind fun (l16,v17)=>(sub l16 v17 (l16.length:Int)).bind fun l34=>(sub (List.take v17.toNat l16++List.replicate (p0.length - v17.toNat) (⟨(0:Int),(0:Int)⟩:Za)) 0 v17).bind fun l35=>some (.inr (.inr l35))) (some (.inl (IntKind.i64.wrap (v2+1))))) (some (.inr (.inl ())))) FUEL 1).bind fun q=>match q with | .inl _=>some p0 | .inr e=>some e)
theorem fe {p0:(List Za)} {a_0:Option Addr}  {n_0:Nat}  {c_0:Nat} {r:(List Za)}  (h:bq p0=some r):PCall 85 [.v (.slice a_0 n_0 c_0)] [PRes.row a_0 n_0 c_0 57 2 (List.map Za.enc p0)] (fun pv ρ'=>∃ a c,pv=.v (.slice a r.length c)∧ρ'=[PRes.row a r.length c 57 2 (List.map Za.enc r)]):=by
 unfold bq at h
 refine jq Tryz.func85 rfl Tryz.ntmps85 Tryz.results85 rfl ?_
 refine iv (enc:=Za.enc) (xs:=p0) (a:=a_0) fF (fun hl ha=>?_);subst hl;clear ha
 refine af (aU [2] (by kernel_rfl) (dn (ah [6,7] [(8,pB (decide (((p0.length:Nat):Int)<2)))] (by kernel_rfl) (cg rfl h (fun hc1 h=>?_) fun hc1 h=>?_))))
 ·refine af ?_
  refine ah [9] [(2,pO a_0 p0.length c_0)] (by kernel_rfl) (eD (aq ?_))
  obtain rfl:=osi h
  exact aO (dh (aP rfl)) dM ⟨_,_,rfl,rfl⟩
 refine ai ?_
 refine dn (al [(3,pI 1)] (by kernel_rfl) (dN h fun q5 hq5 h=>?_))
 refine az (Y:=Unit×Unit) (fun (_,_)=>[(0,pO a_0 p0.length c_0)]) (fun (_,_)=>[PRes.row a_0 p0.length c_0 57 2 (List.map Za.enc p0)]) (fun (_,_)=>q5=Sum.inl ()) ?_ ?_
 ·refine aJ ?_
  refine aK (Y:=Unit) (S:=Int) _ hq5 (fun _ v2=>[(0,pO a_0 p0.length c_0),(3,pI v2)]) (fun _ v2=>[PRes.row a_0 p0.length c_0 57 2 (List.map Za.enc p0)]) () (qa rfl) dM ?_
  rintro _ v2 o τ hb4;(try dsimp only at hb4);dsimp only [aD]
  refine af (af (ah [10,11,12] [(13,pB (decide (v2<((p0.length:Nat):Int))))] (by kernel_rfl) (cg rfl hb4 (fun hc6 hb4=>?_) fun hc6 hb4=>?_)))
  ·refine ai ?_
   refine bM (gX (dg (ρd:=[]) [(0,0),(1,0),(2,0),(3,0),(4,0),(5,0),(6,0),(7,0),(8,0),(9,0)] _ (List.Perm.refl _) (by kernel_rfl) rfl (ae hb4 fun m7 hm7 hb4=>iP 2 [(16,pO a_0 p0.length c_0),(17,pI v2)] (by kernel_rfl) (jN rfl rfl rfl (dB (enc:=Za.enc) (xs:=p0) rfl rfl rfl (.p rfl) fF (.p rfl) (fun _=>hm7)) (jN rfl rfl rfl (ca (sz:=2) (p:=.agg [pI m7.Product,pI m7.Agreement]) (enc:=Za.enc) (xs:=p0) (a:=a_0) v2 0 m7 rfl (.p rfl) rfl fF (fun _=>hm7) rfl) (ae hb4 fun m8 hm8 hb4=>kr 3 [21] [(20,pO a_0 p0.length c_0),(22,pI (IntKind.i64.wrap (v2 - 1)))] (by kernel_rfl) (jN rfl rfl rfl (dB (enc:=Za.enc) (xs:=p0) rfl rfl rfl (.p rfl) fF (.p rfl) (fun _=>hm8)) (jN rfl rfl rfl (ca (sz:=2) (p:=.agg [pI m8.Product,pI m8.Agreement]) (enc:=Za.enc) (xs:=p0) (a:=a_0) (IntKind.i64.wrap (v2 - 1)) 0 m8 rfl (.p rfl) rfl fF (fun _=>hm8) rfl) (dH 1 [] [] [(25,pB (Za.eqb m7 m8))] (foeq 0 Za.eqok57 bL) (by kernel_rfl) (ey (cg rfl hb4 (fun hc9 hb4=>?_) fun hc9 hb4=>?_)))))))))))
   ·refine af ?_
    refine ae hb4 fun l10 hl10 hb4=>aa (am 2 [(26,pO a_0 p0.length c_0),(27,pI v2)] (by kernel_rfl) (bD rfl rfl rfl (jj (enc:=Za.enc) (xs:=p0) rfl rfl rfl rfl rfl fF hl10) (aM [(4,pQ a_0 p0.length c_0 v2.toNat 2)] (by kernel_rfl) (dn (al [(5,pI 1)] (by kernel_rfl) (dN hb4 fun q19 hq19 hb4=>?_))))))
    refine az (Y:=Unit×((List Za)×Int)) (fun (_,(l16,v17))=>[(0,pO a_0 p0.length c_0),(3,pI v17)]) (fun (_,(l16,v17))=>[PRes.row a_0 p0.length c_0 57 2 (List.map Za.enc l16)]) (fun (_,(l16,v17))=>q19=(l16,v17)) ?_ ?_
    ·refine aJ ?_
     refine aK (Y:=Unit) (S:=(List Za)×Int×Int) _ hq19 (fun _ (l12,v13,v14)=>[(0,pO a_0 p0.length c_0),(3,pI v13),(4,pQ a_0 p0.length c_0 v2.toNat 2),(5,pI v14)]) (fun _ (l12,v13,v14)=>[PRes.row a_0 p0.length c_0 57 2 (List.map Za.enc l12)]) () (jt rfl) dM ?_
     rintro _ ⟨l12,v13,v14⟩ o τ hb18;(try dsimp only at hb18);dsimp only [aD]
     refine af (af (ah [29,30,31] [(32,pB (decide (v14<((p0.length - v2.toNat:Nat):Int))))] (by kernel_rfl) (cg rfl hb18 (fun hc20 hb18=>?_) fun hc20 hb18=>?_)))
     ·refine ai ?_
      refine du hb18 fun q24 hq24 hb18=>?_
      refine az (Y:=Unit×((List Za)×Int)) (fun (_,(l22,v23))=>[(0,pO a_0 p0.length c_0),(3,pI v23),(4,pQ a_0 p0.length c_0 v2.toNat 2),(5,pI v14)]) (fun (_,(l22,v23))=>[PRes.row a_0 p0.length c_0 57 2 (List.map Za.enc l22)]) (fun (_,(l22,v23))=>q24=(l22,v23)) ?_ ?_
      ·skip
       refine gX (dg (ρd:=[]) [(0,0),(1,0),(2,0),(3,0),(4,0),(5,0),(6,0),(7,0),(8,0),(9,0)] _ (List.Perm.refl _) (by kernel_rfl) rfl (ae hq24 fun u25 hu25 hq24=>ae hq24 fun m26 hm26 hq24=>iP 2 [(35,pQ a_0 p0.length c_0 v2.toNat 2),(36,pI v14)] (by kernel_rfl) (jN rfl rfl rfl (gD (enc:=Za.enc) (xs:=l12) (i:=v2) rfl rfl rfl rfl rfl (ft hl10).1.1 (iO hu25) fF hm26) (jN rfl rfl rfl (ca (sz:=2) (p:=.agg [pI m26.Product,pI m26.Agreement]) (enc:=Za.enc) (xs:=l12) (a:=a_0) (v2+v14) 0 m26 rfl (.p rfl) rfl fF (fun _=>hm26) rfl) (ae hq24 fun u27 hu27 hq24=>ae hq24 fun m28 hm28 hq24=>kr 3 [40] [(39,pQ a_0 p0.length c_0 v2.toNat 2),(41,pI (IntKind.i64.wrap (v14 - 1)))] (by kernel_rfl) (jN rfl rfl rfl (gD (enc:=Za.enc) (xs:=l12) (i:=v2) rfl rfl rfl rfl rfl (ft hl10).1.1 (iO hu27) fF hm28) (jN rfl rfl rfl (ca (sz:=2) (p:=.agg [pI m28.Product,pI m28.Agreement]) (enc:=Za.enc) (xs:=l12) (a:=a_0) (v2+(IntKind.i64.wrap (v14 - 1))) 0 m28 rfl (.p rfl) rfl fF (fun _=>hm28) rfl) (dH 1 [] [] [(44,pB (!(Za.eqb m26 m28)))] (foeq 0 Za.eqok57 bL) (by kernel_rfl) (ey (cg rfl hq24 (fun hc29 hq24=>?_) fun hc29 hq24=>?_))))))))))
       ·refine af ?_
        refine ae hq24 fun u30 hu30 hq24=>ae hq24 fun m31 hm31 hq24=>aa (am 4 [(45,pO a_0 p0.length c_0),(46,pI v13),(47,pQ a_0 p0.length c_0 v2.toNat 2),(48,pI v14)] (by kernel_rfl) (bD rfl rfl rfl (gD (enc:=Za.enc) (xs:=l12) (i:=v2) rfl rfl rfl rfl rfl (ft hl10).1.1 (iO hu30) fF hm31) (bD rfl rfl rfl (ca (sz:=2) (p:=.agg [pI m31.Product,pI m31.Agreement]) (enc:=Za.enc) (xs:=l12) (a:=a_0) (v2+v14) 0 m31 rfl (.p rfl) rfl fF (fun _=>hm31) rfl) (ae hq24 fun m32 hm32 hq24=>bD rfl rfl rfl (dB (enc:=Za.enc) (xs:=l12) rfl rfl rfl (.p rfl) fF (.p rfl) (fun _=>hm32)) (aX rfl rfl (kj (enc:=Za.enc) (xs:=l12) (a:=a_0) v13 0 m32 m31 rfl rfl rfl rfl (fun _=>rfl) rfl rfl hm32 Bp cY (aw (aL (ah [52,53] [(3,pI (IntKind.i64.wrap (v13+1)))] (by kernel_rfl) (aH ?_))))))))))
        obtain rfl:=osi hq24
        exact aG ((),((l12.set v13.toNat m31),(IntKind.i64.wrap (v13+1)))) (jt rfl) dM rfl
       refine ai ?_
       refine aH ?_
       obtain rfl:=osi hq24
       exact aG ((),(l12,v13)) (jt rfl) dM rfl
      rintro ⟨_,⟨l22,v23⟩⟩ τ hz;(try dsimp only at hz);subst q24;(try dsimp only at hb18);dsimp only [aD]
      refine ah [33,34] [(5,pI (IntKind.i64.wrap (v14+1)))] (by kernel_rfl) ?_
      exact bd hb18 () (jt rfl) dM
     refine aR ?_
     refine av (an hb18 (fun ht=>ar rfl ?_))
     exact aG ((),(l12,v13)) (qa rfl) dM ht.symm
    rintro ⟨_,⟨l16,v17⟩⟩ τ hz;(try dsimp only at hz);subst q19;(try dsimp only at hb4);dsimp only [aD]
    refine af (ae hb4 fun l34 hl34 hb4=>aa (am 2 [(54,pO a_0 p0.length c_0),(55,pI v17)] (by kernel_rfl) (bD rfl rfl rfl (jj (enc:=Za.enc) (xs:=l16) rfl rfl rfl rfl rfl fF hl34) (aX rfl rfl (td (enc:=Za.enc) (xs:=l16) (z0:=(⟨(0:Int),(0:Int)⟩:Za)) (i:=v17) rfl rfl rfl rfl hl34 rfl rfl rfl rfl cY (aw (du hb4 fun l35 hl35 hb4=>aa (am 2 [(57,pO a_0 p0.length c_0),(58,pI v17)] (by kernel_rfl) ?_))))))))
    refine aj rfl (tc (enc:=Za.enc) (xs:=(List.take v17.toNat l16++List.replicate (p0.length - v17.toNat) (⟨(0:Int),(0:Int)⟩:Za))) rfl rfl rfl rfl rfl (by exact aC) hl35 ?_)
    refine aM [(2,pO a_0 l35.length c_0)] (by kernel_rfl) (eD (iw ?_))
    refine aS hb4 (fun ht=>?_);subst ht
    refine aA (aV ?_)
    obtain rfl:=osi h
    exact aO (dh (aP rfl)) dM ⟨_,_,rfl,rfl⟩
   refine ai ?_
   refine mn (ah [14,15] [(3,pI (IntKind.i64.wrap (v2+1)))] (by kernel_rfl) ?_)
   exact bd hb4 () (qa rfl) dM
  refine aR ?_
  refine av (an hb4 (fun ht=>ar rfl ?_))
  exact aG ((),()) (xj rfl) dM ht.symm
 rintro ⟨_,_⟩ τ hz;(try dsimp only at hz);subst q5;(try dsimp only at h);dsimp only [aD]
 refine af (ah [60] [(2,pO a_0 p0.length c_0)] (by kernel_rfl) (eD ?_))
 obtain rfl:=osi h
 exact aO (dh (aP rfl)) dM ⟨_,_,rfl,rfl⟩
def fT (p0:Zq):Option Zl:=some p0.use
theorem kz {p0:Zq} {r:Zl}  (h:fT p0=some r):PF 257 [.agg [pS p0.use.Code,pI p0.use.Value,pB p0.use.Originating,pI p0.premise.Product,pI p0.premise.Agreement]] (.agg [pS r.Code,pI r.Value,pB r.Originating]):=by
 unfold fT at h
 refine br ?_
 refine eW Tryz.func257 rfl Tryz.ntmps257 Tryz.results257 rfl (aa (aj rfl (bE (cs:=[pS p0.use.Code,pI p0.use.Value,pB p0.use.Originating,pI p0.premise.Product,pI p0.premise.Agreement]) rfl rfl (fun b1=>aj rfl (aT (cs:=[pS ByteArray.empty,pI 0,pB false]) rfl rfl rfl rfl (fun b2=>aw (bM (aa (cq 2 [1] [3] [(4,.agg [pS p0.use.Code,pI p0.use.Value,pB p0.use.Originating])] (by kernel_rfl) (aX rfl rfl (au (vs:=[pS p0.use.Code,pI p0.use.Value,pB p0.use.Originating]) rfl rfl rfl rfl rfl cY zl3 (aw (eD ?_)))))))))))))
 obtain rfl:=osi h
 exact aO (dh (gB rfl fF rfl)) bX ⟨rfl,rfl⟩
def f0 (p0:Zt):Option Zl:=some p0.use
theorem kO {p0:Zt} {r:Zl}  (h:f0 p0=some r):PF 272 [.agg [pS p0.use.Code,pI p0.use.Value,pB p0.use.Originating]] (.agg [pS r.Code,pI r.Value,pB r.Originating]):=by
 unfold f0 at h
 refine br ?_
 refine eW Tryz.func272 rfl Tryz.ntmps272 Tryz.results272 rfl (aa (aj rfl (bE (cs:=[pS p0.use.Code,pI p0.use.Value,pB p0.use.Originating]) rfl rfl (fun b1=>aj rfl (aT (cs:=[pS ByteArray.empty,pI 0,pB false]) rfl rfl rfl rfl (fun b2=>aw (bM (aa (cq 2 [1] [3] [(4,.agg [pS p0.use.Code,pI p0.use.Value,pB p0.use.Originating])] (by kernel_rfl) (aX rfl rfl (au (vs:=[pS p0.use.Code,pI p0.use.Value,pB p0.use.Originating]) rfl rfl rfl rfl rfl cY zl3 (aw (eD ?_)))))))))))))
 obtain rfl:=osi h
 exact aO (dh (gB rfl fF rfl)) bX ⟨rfl,rfl⟩
def Icumulation_supply_input (x:Zd)  : Option Zl:=match x with | .plain_ a=>f0 a  | .proved_ a=>fT a
theorem Icumulation_supply_input_ok {x:Zd}  {w:Zl} (h:Icumulation_supply_input x  = some w):PFI x.pv "customs/cumulation.input" [] (.agg [pS w.Code,pI w.Value,pB w.Originating]):=by
 cases x with
 | plain_ a=>exact rm ⟨fun _ _=>by kernel_rfl⟩ (kO h)
 | proved_ a=>exact rm ⟨fun _ _=>by kernel_rfl⟩ (kz h)
def hI (rec:Ze→Option Zh) (p0:Ze):Option Zh:=(bf (S:=(List Zh)×Int) (T:=((List Zh))) (fun (l3,v6)=>cond (decide (v6<(p0.Args.length:Int))) ((idx p0.Args v6).bind fun m15=>(rec m15).bind fun x17=>(app 16 l3 [x17]).bind fun l20=>some (.inl (l20,(IntKind.i64.wrap (v6+1))))) (some (.inr l3))) FUEL (([]:List Zh),0)).bind fun l10=>cond (p0.Kind == 5) (some (Zh.every_ l10)) (cond (p0.Kind == 6) (some (Zh.some_ l10)) (some (Zh.single_ (⟨p0⟩:Zv))))
theorem o6 {rec:Ze→Option Zh} (hrec:∀ {p0:Ze} {r:Zh},rec p0=some r→PF 87 [.agg (aN p0)] (Zh.pv r)) {p0:Ze} {r:Zh} (h:hI rec p0=some r):PF 87 [.agg (aN p0)] (Zh.pv r):=by
 unfold hI at h
 refine br ?_
 refine eW Tryz.func87 rfl Tryz.ntmps87 Tryz.results87 rfl (aa (aj rfl (bE (cs:=(aN p0)) rfl rfl (fun b1=>bA [2] (by kernel_rfl) (bM (al [(3,pN)] (by kernel_rfl) (dn (bc [0] [6] [(7,pL Ze.enc p0.Args),(8,pI (p0.Args.length:Int)),(9,pI 0)] (by kernel_rfl) (aL (bI 186 1 (ae h fun q12 hq12 h=>?_)))))))))))
 refine az (Y:=(Option Addr×Nat)×((List Zh))) (fun ((a8,c9),l10)=>[(1,pP b1 0),(3,pO a8 l10.length c9)]) (fun ((a8,c9),l10)=>[PRes.b b1 98 (aN p0),PRes.row a8 l10.length c9 186 1 (List.map Zh.enc l10)]) (fun ((a8,c9),l10)=>q12=l10) ?_ ?_
 ·refine aJ ?_
  refine aK (Y:=Option Addr×Nat) (S:=(List Zh)×Int) _ hq12 (fun (a4,c5) (l3,v6)=>[(1,pP b1 0),(3,pO a4 l3.length c5),(7,pL Ze.enc p0.Args),(8,pI (p0.Args.length:Int)),(9,pI v6)]) (fun (a4,c5) (l3,v6)=>[PRes.b b1 98 (aN p0),PRes.row a4 l3.length c5 186 1 (List.map Zh.enc l3)]) (none,0) (mO rfl) (aY (ak aC) dM) ?_
  rintro ⟨a4,c5⟩ ⟨l3,v6⟩ o τ hb11;(try dsimp only at hb11);dsimp only [aD]
  refine af (al [(10,pB (decide (v6<(p0.Args.length:Int))))] (by kernel_rfl) (bM (js rfl hb11 (fun hc14 hb11=>?_) fun hc14 hb11=>?_)))
  ·refine ai ?_
   refine bM (gX (ae hb11 fun m15 hm15 hb11=>aa (bm 2 [] [11] [(12,.agg (aN m15))] (sW 0 Ze.enc (Ze.enc_eq _) hm15 bL) (by kernel_rfl) (aj rfl (aT (cs:=[pI 0,pI 0,pN,pI 0,pI 0,pS ByteArray.empty,pN]) rfl rfl rfl rfl (fun b16=>aX rfl rfl (au (vs:=(aN m15)) rfl rfl rfl rfl rfl cY om (aw (dN hb11 fun x17 hx17 hb11=>aa (bm 3 [0] [14] [(13,pO a4 l3.length c5),(15,Zh.pv x17)] (bR 2 (hrec hx17) bL) (by kernel_rfl) (aj rfl (bG rfl rfl rfl rfl rfl (fL rfl jr) rfl rfl rfl rfl (fun b18=>ae hb11 fun l20 hl20 hb11=>?_)))))))))))))
   refine aj rfl (bP (enc:=Zh.enc) rfl rfl rfl rfl rfl rfl rfl rfl rfl fF (by exact ak (ak (ak aC))) hl20 (fun a21 c22=>?_))
   refine aM [(3,pO a21 l20.length c22)] (by kernel_rfl) (mn (ah [18] [(9,pI (IntKind.i64.wrap (v6+1)))] (by kernel_rfl) ?_))
   exact bd hb11 (a21,c22) (mO rfl) (aY (ak (ak (ak aC))) dM)
  refine aR ?_
  refine av (an hb11 (fun ht=>ar rfl ?_))
  exact aG ((a4,c5),l3) (qa rfl) py ht.symm
 rintro ⟨⟨a8,c9⟩,l10⟩ τ hz;(try dsimp only at hz);subst q12;(try dsimp only at h);dsimp only [aD]
 refine af (af (bc [0] [19] [(20,pI p0.Kind)] (by kernel_rfl) (aL (gX (ah [22] [(21,pB (p0.Kind == 5))] (by kernel_rfl) (cg rfl h (fun hc24 h=>?_) fun hc24 h=>?_))))))
 ·refine af ?_
  refine aa (am 1 [(23,pO a8 l10.length c9)] (by kernel_rfl) ?_)
  refine eH (enc:=Zh.enc) (xs:=l10) 23 rfl (by exact ak aC) ?_
  refine am 1 [(24,.ifc 224 (pL Zh.enc l10))] (by kernel_rfl) (te 24 rfl (Zh.pv_every_ l10) (aM [(2,Zh.pv (Zh.every_ l10))] (by kernel_rfl) (eD (iw ?_))))
  exact zz r h rfl
 refine af ?_
 refine ah [26] [(25,pB (p0.Kind == 6))] (by kernel_rfl) (cg rfl h (fun hc25 h=>?_) fun hc25 h=>?_)
 ·refine af ?_
  refine aa (am 1 [(27,pO a8 l10.length c9)] (by kernel_rfl) ?_)
  refine eH (enc:=Zh.enc) (xs:=l10) 27 rfl (by exact ak aC) ?_
  refine am 1 [(28,.ifc 225 (pL Zh.enc l10))] (by kernel_rfl) (te 28 rfl (Zh.pv_some_ l10) (aM [(2,Zh.pv (Zh.some_ l10))] (by kernel_rfl) (eD (iw ?_))))
  exact zz r h rfl
 refine ai ?_
 refine aH (bM (bc [0] [29,30,31] [(2,Zh.pv (Zh.single_ (⟨p0⟩:Zv)))] (by kernel_rfl) (eD ?_)))
 exact zz r h rfl
def hQ (n:Nat):Ze→Option Zh:=Nat.rec (motive:=fun _=>Ze→Option Zh) (fun _=>none) (fun _ ih=>hI ih) n
def pE (p0:Ze):Option Zh:=hQ FUEL p0
theorem qe (n:Nat):∀ {p0:Ze} {r:Zh},hQ n p0=some r→PF 87 [.agg (aN p0)] (Zh.pv r):=by
 induction n with
 | zero=>intros;rename_i h;exact nomatch h
 | succ n ih=>intros;rename_i h;exact o6 (fun hr=>ih hr) h
theorem rF {p0:Ze} {r:Zh} (h:pE p0=some r):PF 87 [.agg (aN p0)] (Zh.pv r):=qe FUEL h
def eg (rec:Zh→Zm→Option ((List Int)×Bool)) (p0:(List Zh)) (p1:Zm):Option ((List Int)×Bool):=(bf (S:=(List Int)×Int) (T:=((List Int))⊕(_)) (fun (l3,v6)=>cond (decide (v6<(p0.length:Int))) ((idx p0 v6).bind fun m15=>(rec m15 p1).bind fun x16=>cond (!x16.2) (some (.inr (.inr ([],false)))) ((app 8 l3 x16.1).bind fun l18=>some (.inl (l18,(IntKind.i64.wrap (v6+1)))))) (some (.inr (.inl l3)))) FUEL (([]:List Int),0)).bind fun q=>match q with | .inl l10=>some (l10,true) | .inr e=>some e
theorem lL {rec:Zh→Zm→Option ((List Int)×Bool)} (hrec:∀ {x:Zh} {y0:Zm} {w:((List Int)×Bool)},rec x y0=some w→PFI x.pv "customs/rule.witness" [.agg (cB y0)] (.tup [pL eI w.1,pB w.2])) {p0:(List Zh)} {p1:Zm} {r:((List Int)×Bool)} (h:eg rec p0 p1=some r):PF 259 [pL Zh.enc p0,.agg (cB p1)] (.tup [pL eI r.1,pB r.2]):=by
 unfold eg at h
 refine br ?_
 refine eW Tryz.func259 rfl Tryz.ntmps259 Tryz.results259 rfl (aa (aj rfl (bE (cs:=(cB p1)) rfl rfl (fun b1=>bA [4,5] (by kernel_rfl) (bM (al [(6,pN)] (by kernel_rfl) (dn (al [(11,pL Zh.enc p0),(12,pI (p0.length:Int)),(13,pI 0)] (by kernel_rfl) (aL (bI 3 1 (ae h fun q12 hq12 h=>?_)))))))))))
 refine az (Y:=(Option Addr×Nat)×((List Int))) (fun ((a8,c9),l10)=>[(6,pO a8 l10.length c9)]) (fun ((a8,c9),l10)=>[PRes.row a8 l10.length c9 3 1 (List.map eI l10)]) (fun ((a8,c9),l10)=>q12=Sum.inl l10) ?_ ?_
 ·refine aJ ?_
  refine aK (Y:=Option Addr×Nat) (S:=(List Int)×Int) _ hq12 (fun (a4,c5) (l3,v6)=>[(3,pP b1 0),(6,pO a4 l3.length c5),(11,pL Zh.enc p0),(12,pI (p0.length:Int)),(13,pI v6)]) (fun (a4,c5) (l3,v6)=>[PRes.b b1 109 (cB p1),PRes.row a4 l3.length c5 3 1 (List.map eI l3)]) (none,0) (mO rfl) (aY (ak aC) dM) ?_
  rintro ⟨a4,c5⟩ ⟨l3,v6⟩ o τ hb11;(try dsimp only at hb11);dsimp only [aD]
  refine af (al [(14,pB (decide (v6<(p0.length:Int))))] (by kernel_rfl) (bM (js rfl hb11 (fun hc14 hb11=>?_) fun hc14 hb11=>?_)))
  ·refine ai ?_
   refine bM (gX (ae hb11 fun m15 hm15 hb11=>ap [] [15,16] [(8,Zh.pv m15)] (fG 0 Zh.enc hm15 bL) (by kernel_rfl) (du hb11 fun x16 hx16 hb11=>ap [0] [18,19,20,17,21,22] [(9,pL eI x16.1),(10,pB x16.2)] (foci 2 (hrec hx16) bL) (by kernel_rfl) (dn (ah [23] [(24,pB (!x16.2))] (by kernel_rfl) (cg rfl hb11 (fun hc17 hb11=>?_) fun hc17 hb11=>?_))))))
   ·refine af ?_
    refine al [(4,pN),(5,pB false)] (by kernel_rfl) (aL (jU 4 rfl (bS (aq (iw ?_)))))
    refine aS hb11 (fun ht=>?_);subst ht
    refine aA (aV ?_)
    obtain rfl:=osi h
    exact aO (ec (aP rfl) (aP rfl)) bX ⟨rfl,rfl⟩
   refine ai ?_
   refine dN hb11 fun l18 hl18 hb11=>aa (am 2 [(25,pO a4 l3.length c5),(26,pL eI x16.1)] (by kernel_rfl) ?_)
   refine aj rfl (lB (enc:=eI) rfl rfl rfl rfl rfl (fun _=>rfl) rfl rfl rfl (by exact ak aC) hl18 (fun a19 c20=>?_))
   refine aM [(6,pO a19 l18.length c20)] (by kernel_rfl) (mn (ah [28] [(13,pI (IntKind.i64.wrap (v6+1)))] (by kernel_rfl) ?_))
   exact bd hb11 (a19,c20) (mO rfl) (aY (ak aC) dM)
  refine aR ?_
  refine av (an hb11 (fun ht=>ar rfl ?_))
  exact aG ((a4,c5),l3) (xj rfl) (aY (ak aC) bX) ht.symm
 rintro ⟨⟨a8,c9⟩,l10⟩ τ hz;(try dsimp only at hz);subst q12;(try dsimp only at h);dsimp only [aD]
 refine af (ah [29] [(4,pO a8 l10.length c9),(5,pB true)] (by kernel_rfl) (aL ?_))
 refine fk (enc:=eI) (xs:=l10) 4 rfl (by exact aC) ?_
 refine bS ?_
 obtain rfl:=osi h
 exact aO (ec (aP rfl) (aP rfl)) bX ⟨rfl,rfl⟩
def fI (p1:Int):Option (List Int):=(zS 8 p1).bind fun _=>some []
theorem ms {p1:Int} {r:(List Int)} (h:fI p1=some r):PCall 263 [.v (.slice none 0 0),pI p1] [] (fun pv ρ'=>∃ a c,pv=.v (.slice a r.length c)∧ρ'=[PRes.row a r.length c 3 1 (List.map eI r)]):=by
 unfold fI at h
 obtain ⟨u,hu,h⟩:=Option.bind_eq_some_iff.1 h
 obtain rfl:=osi h
 obtain ⟨hg0,hg1⟩:=BU hu
 have ew:IntKind.i64.wrap (p1 - IntKind.i64.wrap (((0:Nat):Int) - ((0:Nat):Int)))=p1:=tj hg0 hg1
 refine jq Tryz.func263 rfl Tryz.ntmps263 Tryz.results263 rfl ?_
 (repeat refine af ?_)
 refine aU [4] (by kernel_rfl) (aL ?_)
 (repeat refine af ?_)
 refine ah [5] [(6,pB (decide (p1<0)))] (by kernel_rfl) (aL ?_)
 refine gz rfl (fun hc=>absurd (of_decide_eq_true hc) (by omega)) (fun hc=>?_)
 refine ai (aL ?_)
 (repeat refine af ?_)
 refine aa (am 2 [(8,pI p1),(9,.v (.slice none 0 0))] (by kernel_rfl) (bD rfl rfl rfl (qw rfl rfl (.p rfl)) (fu [11,12,13,14] [(1,pI (IntKind.i64.wrap (p1 - IntKind.i64.wrap (((0:Nat):Int) - ((0:Nat):Int)))))] (by kernel_rfl) ?_)))
 rw [ew]
 refine aL ?_
 (repeat refine af ?_)
 refine ah [15] [(16,pB (decide (0<p1)))] (by kernel_rfl) (aL ?_)
 refine gz rfl (fun hc=>?_) (fun hc=>?_)
 ·refine aa ?_
  refine am 2 [(17,.v (.slice none 0 0)),(18,.v (.slice none 0 0))] (by kernel_rfl) (bD rfl rfl rfl (qw rfl rfl (.p rfl)) (bD rfl rfl rfl (nB rfl rfl rfl (.p rfl) (.p rfl) rfl (Nat.zero_le _)) (am 1 [(21,pI p1)] (by kernel_rfl) (qZ 3 1 ?_))))
  refine aj rfl (vX rfl rfl rfl rfl rfl rfl rfl rfl (of_decide_eq_true hc) hu (by exact aC) (fun a c hac=>?_))
  refine am 2 [(23,.v (.slice none 0 0)),(24,pI 0)] (by kernel_rfl) (bD rfl rfl rfl (nB (k:=0) rfl rfl rfl (.p rfl) (.p rfl) rfl (Nat.zero_le _)) (aM [(0,.v (.slice a 0 c))] (by kernel_rfl) (aL ?_)))
  (repeat refine af ?_)
  refine ah [26] [(4,.v (.slice a 0 c))] (by kernel_rfl) (eD ?_)
  exact aO (dh (aP rfl)) dM ⟨_,_,rfl,rfl⟩
 refine ai ?_
 refine aL ?_
 (repeat refine af ?_)
 refine ah [26] [(4,.v (.slice none 0 0))] (by kernel_rfl) (aL (bI 3 1 (bS ?_)))
 exact aO (dh (aP rfl)) dM ⟨_,_,rfl,rfl⟩
def cT (p0:(List (List Int))):Option (List Int):=(bf (S:=Int×Int) (T:=(Int)) (fun (v1,v2)=>cond (decide (v2<(p0.length:Int))) ((idx p0 v2).bind fun m7=>cond (decide ((IntKind.i64.wrap (v1+(m7.length:Int)))<0)) (none) (some (.inl ((IntKind.i64.wrap (v1+(m7.length:Int))),(IntKind.i64.wrap (v2+1)))))) (some (.inr v1))) FUEL (0,0)).bind fun v3=>(fI v3).bind fun x9=>(bf (S:=(List Int)×Int) (T:=((List Int))) (fun (l14,v17)=>cond (decide (v17<(p0.length:Int))) ((idx p0 v17).bind fun m25=>(app 8 l14 m25).bind fun l26=>some (.inl (l26,(IntKind.i64.wrap (v17+1))))) (some (.inr l14))) FUEL (x9,0)).bind fun l21=>some l21
theorem ll {p0:(List (List Int))} {r:(List Int)}  (h:cT p0=some r):PCall 262 [pL (eL eI) p0] [] (fun pv ρ'=>∃ a c,pv=.v (.slice a r.length c)∧ρ'=[PRes.row a r.length c 3 1 (List.map eI r)]):=by
 unfold cT at h
 refine eW Tryz.func262 rfl Tryz.ntmps262 Tryz.results262 rfl (aU [2] (by kernel_rfl) (bM (al [(3,pI 0)] (by kernel_rfl) (dn (al [(9,pL (eL eI) p0),(10,pI (p0.length:Int)),(11,pI 0)] (by kernel_rfl) (dN h fun q5 hq5 h=>?_))))))
 refine az (Y:=Unit×Int) (fun (_,v3)=>[(0,pL (eL eI) p0),(3,pI v3)]) (fun (_,v3)=>[]) (fun (_,v3)=>q5=v3) ?_ ?_
 ·refine aJ ?_
  refine aK (Y:=Unit) (S:=Int×Int) _ hq5 (fun _ (v1,v2)=>[(0,pL (eL eI) p0),(3,pI v1),(9,pL (eL eI) p0),(10,pI (p0.length:Int)),(11,pI v2)]) (fun _ (v1,v2)=>[]) () (mO rfl) bX ?_
  rintro _ ⟨v1,v2⟩ o τ hb4;(try dsimp only at hb4);dsimp only [aD]
  refine af (al [(12,pB (decide (v2<(p0.length:Int))))] (by kernel_rfl) (bM (js rfl hb4 (fun hc6 hb4=>?_) fun hc6 hb4=>?_)))
  ·refine ai ?_
   refine bM (gX (ae hb4 fun m7 hm7 hb4=>ap [] [13,14] [(5,pL eI m7)] (fG 0 (eL eI) hm7 bL) (by kernel_rfl) (bM (ah [15,16,17,18] [(3,pI (IntKind.i64.wrap (v1+(m7.length:Int))))] (by kernel_rfl) (bM (ah [19] [(20,pB (decide ((IntKind.i64.wrap (v1+(m7.length:Int)))<0)))] (by kernel_rfl) (cg rfl hb4 (fun hc8 hb4=>?_) fun hc8 hb4=>?_)))))))
   ·refine aa ?_
    exact absurd hb4 (by simp)
   refine ai ?_
   refine mn (ah [22] [(11,pI (IntKind.i64.wrap (v2+1)))] (by kernel_rfl) ?_)
   exact bd hb4 () (mO rfl) bX
  refine aR ?_
  refine av (an hb4 (fun ht=>ar rfl ?_))
  exact aG ((),v1) (qa rfl) bX ht.symm
 rintro ⟨_,v3⟩ τ hz;(try dsimp only at hz);subst q5;(try dsimp only at h);dsimp only [aD]
 refine af (ae h fun x9 hx9 h=>aa (am 1 [(23,pI v3)] (by kernel_rfl) ?_))
 refine aj rfl (aW rfl rfl (ρ1:=[]) (List.Perm.refl _) (ms hx9) ?_);rintro _ _ ⟨a10,c11,rfl,rfl⟩
 refine aM [(6,pO a10 x9.length c11)] (by kernel_rfl) (dn (al [(25,pL (eL eI) p0),(26,pI (p0.length:Int)),(27,pI 0)] (by kernel_rfl) (dN h fun q23 hq23 h=>?_)))
 refine az (Y:=(Option Addr×Nat)×((List Int))) (fun ((a19,c20),l21)=>[(6,pO a19 l21.length c20)]) (fun ((a19,c20),l21)=>[PRes.row a19 l21.length c20 3 1 (List.map eI l21)]) (fun ((a19,c20),l21)=>q23=l21) ?_ ?_
 ·refine aJ ?_
  refine aK (Y:=Option Addr×Nat) (S:=(List Int)×Int) _ hq23 (fun (a15,c16) (l14,v17)=>[(6,pO a15 l14.length c16),(25,pL (eL eI) p0),(26,pI (p0.length:Int)),(27,pI v17)]) (fun (a15,c16) (l14,v17)=>[PRes.row a15 l14.length c16 3 1 (List.map eI l14)]) (a10,c11) (jt rfl) dM ?_
  rintro ⟨a15,c16⟩ ⟨l14,v17⟩ o τ hb22;(try dsimp only at hb22);dsimp only [aD]
  refine af (al [(28,pB (decide (v17<(p0.length:Int))))] (by kernel_rfl) (bM (js rfl hb22 (fun hc24 hb22=>?_) fun hc24 hb22=>?_)))
  ·refine ai ?_
   refine bM (gX (ae hb22 fun m25 hm25 hb22=>ap [] [29,30] [(8,pL eI m25)] (fG 0 (eL eI) hm25 bL) (by kernel_rfl) (dN hb22 fun l26 hl26 hb22=>aa (am 2 [(31,pO a15 l14.length c16),(32,pL eI m25)] (by kernel_rfl) ?_))))
   refine aj rfl (lB (enc:=eI) rfl rfl rfl rfl rfl (fun _=>rfl) rfl rfl rfl (by exact aC) hl26 (fun a27 c28=>?_))
   refine aM [(6,pO a27 l26.length c28)] (by kernel_rfl) (mn (ah [34] [(27,pI (IntKind.i64.wrap (v17+1)))] (by kernel_rfl) ?_))
   exact bd hb22 (a27,c28) (jt rfl) dM
  refine aR ?_
  refine av (an hb22 (fun ht=>ar rfl ?_))
  exact aG ((a15,c16),l14) (xj rfl) dM ht.symm
 rintro ⟨⟨a19,c20⟩,l21⟩ τ hz;(try dsimp only at hz);subst q23;(try dsimp only at h);dsimp only [aD]
 refine af (ah [35] [(2,pO a19 l21.length c20)] (by kernel_rfl) (eD ?_))
 obtain rfl:=osi h
 exact aO (dh (aP rfl)) dM ⟨_,_,rfl,rfl⟩
def eJ (rec:Zh→Zm→Option ((List Int)×Bool)) (p0:(List Zh)) (p1:Zm):Option ((List Int)×Bool):=(bf (S:=Int) (T:=(Unit)⊕(_)) (fun v2=>cond (decide (v2<(p0.length:Int))) ((idx p0 v2).bind fun m6=>(rec m6 p1).bind fun x7=>cond x7.2 ((cT [[v2],x7.1]).bind fun x13=>some (.inr (.inr (x13,true)))) (some (.inl (IntKind.i64.wrap (v2+1))))) (some (.inr (.inl ())))) FUEL 0).bind fun q=>match q with | .inl _=>some ([],false) | .inr e=>some e
theorem mt {rec:Zh→Zm→Option ((List Int)×Bool)} (hrec:∀ {x:Zh} {y0:Zm} {w:((List Int)×Bool)},rec x y0=some w→PFI x.pv "customs/rule.witness" [.agg (cB y0)] (.tup [pL eI w.1,pB w.2])) {p0:(List Zh)} {p1:Zm} {r:((List Int)×Bool)} (h:eJ rec p0 p1=some r):PF 261 [pL Zh.enc p0,.agg (cB p1)] (.tup [pL eI r.1,pB r.2]):=by
 unfold eJ at h
 refine br ?_
 refine eW Tryz.func261 rfl Tryz.ntmps261 Tryz.results261 rfl (aa (aj rfl (bE (cs:=(cB p1)) rfl rfl (fun b1=>bA [4,5] (by kernel_rfl) (dn (al [(10,pL Zh.enc p0),(11,pI (p0.length:Int)),(12,pI 0)] (by kernel_rfl) (dN h fun q4 hq4 h=>?_)))))))
 refine az (Y:=Unit×Unit) (fun (_,_)=>[]) (fun (_,_)=>[]) (fun (_,_)=>q4=Sum.inl ()) ?_ ?_
 ·refine aJ ?_
  refine aK (Y:=Unit) (S:=Int) _ hq4 (fun _ v2=>[(3,pP b1 0),(10,pL Zh.enc p0),(11,pI (p0.length:Int)),(12,pI v2)]) (fun _ v2=>[PRes.b b1 109 (cB p1)]) () (jt rfl) dM ?_
  rintro _ v2 o τ hb3;(try dsimp only at hb3);dsimp only [aD]
  refine af (al [(13,pB (decide (v2<(p0.length:Int))))] (by kernel_rfl) (bM (js rfl hb3 (fun hc5 hb3=>?_) fun hc5 hb3=>?_)))
  ·refine ai ?_
   refine bM (gX (ae hb3 fun m6 hm6 hb3=>ap [] [14,15,16] [(6,pI v2),(7,Zh.pv m6)] (fG 1 Zh.enc hm6 bL) (by kernel_rfl) (du hb3 fun x7 hx7 hb3=>ap [0] [18,19,20,17,21,22] [(8,pL eI x7.1),(9,pB x7.2)] (foci 2 (hrec hx7) bL) (by kernel_rfl) (bM (al [(23,pB x7.2)] (by kernel_rfl) (cg rfl hb3 (fun hc8 hb3=>?_) fun hc8 hb3=>?_))))))
   ·refine af ?_
    refine aa (am 1 [(24,pI v2)] (by kernel_rfl) (aj rfl (bG rfl rfl rfl rfl rfl (fL rfl jr) rfl rfl rfl rfl (fun b9=>am 1 [(26,pL eI x7.1)] (by kernel_rfl) ?_))))
    refine eH (enc:=eI) (xs:=[v2]) 25 rfl (by exact aC) ?_
    refine aj rfl (bG rfl rfl rfl rfl rfl (fL rfl (fL rfl jr)) rfl rfl rfl rfl (fun b11=>?_))
    refine eH (enc:=(eL eI)) (xs:=[[v2],x7.1]) 27 rfl (by exact aC) ?_
    refine ae hb3 fun x13 hx13 hb3=>?_
    refine aj rfl (aW rfl rfl (ρ1:=[]) (List.Perm.refl _) (ll hx13) ?_);rintro _ _ ⟨a14,c15,rfl,rfl⟩
    refine aM [(4,pO a14 x13.length c15),(5,pB true)] (by kernel_rfl) (aL ?_)
    refine fk (enc:=eI) (xs:=x13) 4 rfl (by exact aC) ?_
    refine bS (iw ?_)
    refine aS hb3 (fun ht=>?_);subst ht
    refine aA (aV ?_)
    obtain rfl:=osi h
    exact aO (ec (aP rfl) (aP rfl)) bX ⟨rfl,rfl⟩
   refine ai ?_
   refine mn (ah [29] [(12,pI (IntKind.i64.wrap (v2+1)))] (by kernel_rfl) ?_)
   exact bd hb3 () (jt rfl) dM
  refine aR ?_
  refine av (an hb3 (fun ht=>ar rfl ?_))
  exact aG ((),()) oj bX ht.symm
 rintro ⟨_,_⟩ τ hz;(try dsimp only at hz);subst q4;(try dsimp only at h);dsimp only [aD]
 refine af (al [(4,pN),(5,pB false)] (by kernel_rfl) (aL (jU 4 rfl (bS ?_))))
 obtain rfl:=osi h
 exact aO (ec (aP rfl) (aP rfl)) bX ⟨rfl,rfl⟩
def cb (p0:(List ByteArray)) (p1:(ByteArray→Option Bool)):Option Int:=(bf (S:=Int) (T:=(Unit)⊕(_)) (fun v1=>cond (decide (v1<(p0.length:Int))) ((idx p0 v1).bind fun m5=>(p1 m5).bind fun x6=>cond x6 (some (.inr (.inr v1))) (some (.inl (IntKind.i64.wrap (v1+1))))) (some (.inr (.inl ())))) FUEL 0).bind fun q=>match q with | .inl _=>some (-1) | .inr e=>some e
theorem iH {p0:(List ByteArray)} {p1:(ByteArray→Option Bool)} {r:Int} {g1:PV} (hg1:∀ {y0:ByteArray} {w:Bool},p1 y0=some w→PFV g1 [pS y0] (pB w)) (h:cb p0 p1=some r):PF 271 [pL eS p0,g1] (pI r):=by
 unfold cb at h
 refine br ?_
 refine eW Tryz.func271 rfl Tryz.ntmps271 Tryz.results271 rfl (aU [4] (by kernel_rfl) (dn (ah [6] [(7,pI (p0.length:Int)),(8,pI 0)] (by kernel_rfl) (dN h fun q3 hq3 h=>?_))))
 refine az (Y:=Unit×Unit) (fun (_,_)=>[]) (fun (_,_)=>[]) (fun (_,_)=>q3=Sum.inl ()) ?_ ?_
 ·refine aJ ?_
  refine aK (Y:=Unit) (S:=Int) _ hq3 (fun _ v1=>[(0,pL eS p0),(1,g1),(7,pI (p0.length:Int)),(8,pI v1)]) (fun _ v1=>[]) () (jt rfl) bX ?_
  rintro _ v1 o τ hb2;(try dsimp only at hb2);dsimp only [aD]
  refine af (al [(9,pB (decide (v1<(p0.length:Int))))] (by kernel_rfl) (bM (js rfl hb2 (fun hc4 hb2=>?_) fun hc4 hb2=>?_)))
  ·refine ai ?_
   refine bM (gX (ah [10] [(5,pI v1)] (by kernel_rfl) (du hb2 fun m5 hm5 hb2=>ae hb2 fun x6 hx6 hb2=>ap [] (rg 11 5) [(16,pB x6)] (fG 3 eS hm5 (xn 5 (hg1 hx6) bL)) (by kernel_rfl) (cg rfl hb2 (fun hc7 hb2=>?_) fun hc7 hb2=>?_))))
   ·refine af ?_
    refine ah [17] [(4,pI v1)] (by kernel_rfl) (eD (iw ?_))
    refine aS hb2 (fun ht=>?_);subst ht
    refine aA (aV ?_)
    exact zz r h rfl
   refine ai ?_
   refine mn (ah [18] [(8,pI (IntKind.i64.wrap (v1+1)))] (by kernel_rfl) ?_)
   exact bd hb2 () (jt rfl) bX
  refine aR ?_
  refine av (an hb2 (fun ht=>ar rfl ?_))
  exact aG ((),()) oj bX ht.symm
 rintro ⟨_,_⟩ τ hz;(try dsimp only at hz);subst q3;(try dsimp only at h);dsimp only [aD]
 refine af (fP [(4,pI (-1))] (by kernel_rfl) ?_)
 exact zz r h rfl
def bT (p0:(List ByteArray)) (p1:(ByteArray→Option Bool)):Option Bool:=(cb p0 p1).bind fun x1=>some (decide (0≤x1))
theorem gT {p0:(List ByteArray)} {p1:(ByteArray→Option Bool)} {r:Bool} {g1:PV} (hg1:∀ {y0:ByteArray} {w:Bool},p1 y0=some w→PFV g1 [pS y0] (pB w)) (h:bT p0 p1=some r):PF 269 [pL eS p0,g1] (pB r):=by
 unfold bT at h
 refine br ?_
 refine eW Tryz.func269 rfl Tryz.ntmps269 Tryz.results269 rfl (aU [4] (by kernel_rfl) (du h fun x1 hx1 h=>ap [] [5,6,7,8] [(4,pB (decide (0≤x1)))] (bR 2 (iH hg1 hx1) bL) (by kernel_rfl) (eD ?_)))
 exact zz r h rfl
def fj (p0:ByteArray) (p1:ByteArray):Option Bool:=(cQ p1 p0).bind fun x1=>some x1
theorem nY {p0:ByteArray} {p1:ByteArray} {r:Bool}  (h:fj p0 p1=some r):PF 270 [pS p0,.ref [pS p1] 0] (pB r):=by
 unfold fj at h
 refine br ?_
 refine eW Tryz.func270 rfl Tryz.ntmps270 Tryz.results270 rfl (aU [3] (by kernel_rfl) (du h fun x1 hx1 h=>ap [] [4,5,6] [(3,pB x1)] (bR 2 (gE hx1) bL) (by kernel_rfl) (eD ?_)))
 exact zz r h rfl
def gn (p0:Ze) (p1:ByteArray) (p2:ByteArray):Option Bool:=(kl p1 0 p0.Digits).bind fun s3=>(cQ p2 s3).bind fun x4=>cond x4 (some true) ((bT p0.Except (fun y6=>fj y6 p2)).bind fun x7=>some x7)
theorem o7 {p0:Ze} {p1:ByteArray} {p2:ByteArray} {r:Bool}  (h:gn p0 p1 p2=some r):PF 267 [.agg (aN p0),pS p1,pS p2] (pB r):=by
 unfold gn at h
 refine br ?_
 refine eW Tryz.func267 rfl Tryz.ntmps267 Tryz.results267 rfl (aa (aj rfl (bE (cs:=(aN p0)) rfl rfl (fun b1=>aj rfl (bE (cs:=[pS p2]) rfl rfl (fun b2=>bA [6] (by kernel_rfl) (dn (dg (ρd:=[]) [(0,0),(1,0),(2,0),(3,0),(4,0),(5,1)] _ (List.Perm.refl _) (by kernel_rfl) rfl (ae h fun s3 hs3 h=>ae h fun x4 hx4 h=>dH 6 [0,1] (rg 7 5) [(12,pB x4)] (foss 4 hs3 (bR 5 (gE hx4) bL)) (by kernel_rfl) (ey (cg rfl h (fun hc5 h=>?_) fun hc5 h=>?_)))))))))))
 ·refine af ?_
  refine fP [(6,pB true)] (by kernel_rfl) (aq ?_)
  exact zz r h rfl
 refine ai ?_
 refine bM (aa (cq 2 [1] [13] [(14,pL eS p0.Except)] (by kernel_rfl) ?_))
 refine jo 5 rfl (by exact aC) ?_
 refine ae h fun x7 hx7 h=>gr [] [15,16] [(6,pB x7)] (bR 1 (gT (fun hr=>nP (nY hr)) hx7) bL) (by kernel_rfl) (eD ?_)
 exact zz r h rfl
def iA (p0:Int) (p1:Int) (p2:Int):Option Bool:=(iz (IntKind.u64.wrap p0) 1000000).bind fun x1=>(iz (IntKind.u64.wrap p1) (IntKind.u64.wrap p2)).bind fun x3=>(fw x1 x3).bind fun x5=>some (decide (x5≤0))
theorem ni {p0:Int} {p1:Int} {p2:Int} {r:Bool}  (h:iA p0 p1 p2=some r):PF 268 [pI p0,pI p1,pI p2] (pB r):=by
 unfold iA at h
 refine br ?_
 refine eW Tryz.func268 rfl Tryz.ntmps268 Tryz.results268 rfl (aU [6] (by kernel_rfl) (du h fun x1 hx1 h=>aa (bm 3 [] [9,10] [(11,.agg [pU x1.Hi,pU x1.Lo])] (bR 2 (mq hx1) bL) (by kernel_rfl) (aj rfl (aT (cs:=[pU 0,pU 0]) rfl rfl rfl rfl (fun b2=>aX rfl rfl (au (vs:=[pU x1.Hi,pU x1.Lo]) rfl rfl rfl rfl rfl cY Bp (aw (du h fun x3 hx3 h=>aa (bm 5 [] [12,13,14,15] [(16,.agg [pU x3.Hi,pU x3.Lo])] (bR 4 (mq hx3) bL) (by kernel_rfl) (aj rfl (aT (cs:=[pU 0,pU 0]) rfl rfl rfl rfl (fun b4=>aX rfl rfl (au (vs:=[pU x3.Hi,pU x3.Lo]) rfl rfl rfl rfl rfl cY Bp (aw (du h fun x5 hx5 h=>ap [1,0] [17,18,19,20] [(6,pB (decide (x5≤0)))] (bR 2 (nc hx5) bL) (by kernel_rfl) (eD ?_)))))))))))))))))
 exact zz r h rfl
def rule_holds (p0:Ze) (p1:Zm):Option Bool:=(bf (S:=Int×Int×Int×Int) (T:=(Int×Int×Int)) (fun (v3,v4,v5,v6)=>cond (decide (v6<(p1.Inputs.length:Int))) (((idx p1.Inputs v6).bind fun m17=>cond m17.Originating (some (v3,v4,v5)) ((gd (p0.Kind == 2) (gn p0 p1.Code m17.Code)).bind fun x20=>cond ((p0.Kind == 2)&&x20) (some ((IntKind.i64.wrap (v3+m17.Value)),(IntKind.i64.wrap (v4+m17.Value)),(IntKind.i64.wrap (v5+1)))) (some ((IntKind.i64.wrap (v3+m17.Value)),v4,(IntKind.i64.wrap (v5+1)))))).bind fun (v13,v14,v15)=>some (.inl (v13,v14,v15,(IntKind.i64.wrap (v6+1))))) (some (.inr (v3,v4,v5)))) FUEL (0,0,0,0)).bind fun (v7,v8,v9)=>cond (p0.Kind == 1) (some (p1.Obtained&&(v9 == 0))) (cond (p0.Kind == 2) ((iA v8 p0.Tolerance p1.Price).bind fun x24=>some x24) (cond (p0.Kind == 3) ((iA v7 p0.Limit p1.Price).bind fun x26=>some x26) (cond (p0.Kind == 4) ((bz p1.Processes p0.Name).bind fun x28=>some x28) (some false))))
theorem sv {p0:Ze} {p1:Zm} {r:Bool}  (h:rule_holds p0 p1=some r):PF 266 [.agg (aN p0),.agg (cB p1)] (pB r):=by
 unfold rule_holds at h
 refine br ?_
 refine eW Tryz.func266 rfl Tryz.ntmps266 Tryz.results266 rfl (aa (aj rfl (bE (cs:=(aN p0)) rfl rfl (fun b1=>aj rfl (bE (cs:=(cB p1)) rfl rfl (fun b2=>bA [4] (by kernel_rfl) (bM (al [(5,pI 0),(6,pI 0),(7,pI 0)] (by kernel_rfl) (dn (bc [0] [10] [(11,pL Zl.enc p1.Inputs),(12,pI (p1.Inputs.length:Int)),(13,pI 0)] (by kernel_rfl) (dN h fun q11 hq11 h=>?_)))))))))))
 refine az (Y:=Unit×(Int×Int×Int)) (fun (_,(v7,v8,v9))=>[(2,pP b1 0),(3,pP b2 0),(5,pI v7),(6,pI v8),(7,pI v9)]) (fun (_,(v7,v8,v9))=>[PRes.b b1 98 (aN p0),PRes.b b2 109 (cB p1)]) (fun (_,(v7,v8,v9))=>q11=(v7,v8,v9)) ?_ ?_
 ·refine aJ ?_
  refine aK (Y:=Unit) (S:=Int×Int×Int×Int) _ hq11 (fun _ (v3,v4,v5,v6)=>[(2,pP b1 0),(3,pP b2 0),(5,pI v3),(6,pI v4),(7,pI v5),(11,pL Zl.enc p1.Inputs),(12,pI (p1.Inputs.length:Int)),(13,pI v6)]) (fun _ (v3,v4,v5,v6)=>[PRes.b b1 98 (aN p0),PRes.b b2 109 (cB p1)]) () (nH rfl) (aY (ak aC) dM) ?_
  rintro _ ⟨v3,v4,v5,v6⟩ o τ hb10;(try dsimp only at hb10);dsimp only [aD]
  refine af (al [(14,pB (decide (v6<(p1.Inputs.length:Int))))] (by kernel_rfl) (bM (js rfl hb10 (fun hc12 hb10=>?_) fun hc12 hb10=>?_)))
  ·refine ai ?_
   refine du hb10 fun q16 hq16 hb10=>?_
   refine az (Y:=Unit×(Int×Int×Int)) (fun (_,(v13,v14,v15))=>[(2,pP b1 0),(3,pP b2 0),(5,pI v13),(6,pI v14),(7,pI v15),(11,pL Zl.enc p1.Inputs),(12,pI (p1.Inputs.length:Int)),(13,pI v6)]) (fun (_,(v13,v14,v15))=>[PRes.b b1 98 (aN p0),PRes.b b2 109 (cB p1)]) (fun (_,(v13,v14,v15))=>q16=(v13,v14,v15)) ?_ ?_
   ·skip
    refine gX (ae hq16 fun m17 hm17 hq16=>aa (bm 2 [] [15] [(16,.agg [pS m17.Code,pI m17.Value,pB m17.Originating])] (fG 0 Zl.enc hm17 bL) (by kernel_rfl) (aj rfl (aT (cs:=[pS ByteArray.empty,pI 0,pB false]) rfl rfl rfl rfl (fun b18=>aX rfl rfl (au (vs:=[pS m17.Code,pI m17.Value,pB m17.Originating]) rfl rfl rfl rfl rfl cY zl3 (aw (dn (bc [0] [17] [(18,pB m17.Originating)] (by kernel_rfl) (cg rfl hq16 (fun hc19 hq16=>?_) fun hc19 hq16=>?_))))))))))
    ·refine aR ?_
     refine av (ar rfl ?_)
     obtain rfl:=osi hq16
     exact aG ((),(v3,v4,v5)) (nH rfl) (aY (ak aC) (aY (ak aC) bX)) rfl
    refine ai ?_
    refine bM (ah [19,20] [(7,pI (IntKind.i64.wrap (v5+1)))] (by kernel_rfl) (bM (bc [0] [21,22,23,24] [(5,pI (IntKind.i64.wrap (v3+m17.Value)))] (by kernel_rfl) (du hq16 fun x20 hx20 hq16=>ap [1,1,2,0] (rg 25 10) [(35,pB ((p0.Kind == 2)&&x20))] (gC 9 (fun hc=>o7 (gq hx20 hc)) bL) (by kernel_rfl) (cg rfl hq16 (fun hc21 hq16=>?_) fun hc21 hq16=>?_)))))
    ·refine bc [0] [36,37,38,39] [(6,pI (IntKind.i64.wrap (v4+m17.Value)))] (by kernel_rfl) ?_
     refine aH ?_
     obtain rfl:=osi hq16
     exact aG ((),((IntKind.i64.wrap (v3+m17.Value)),(IntKind.i64.wrap (v4+m17.Value)),(IntKind.i64.wrap (v5+1)))) (nH rfl) (aY (ak aC) (aY (ak aC) bX)) rfl
    refine ai ?_
    refine aH ?_
    obtain rfl:=osi hq16
    exact aG ((),((IntKind.i64.wrap (v3+m17.Value)),v4,(IntKind.i64.wrap (v5+1)))) (nH rfl) (aY (ak aC) (aY (ak aC) bX)) rfl
   rintro ⟨_,⟨v13,v14,v15⟩⟩ τ hz;(try dsimp only at hz);subst q16;(try dsimp only at hb10);dsimp only [aD]
   refine ah [40] [(13,pI (IntKind.i64.wrap (v6+1)))] (by kernel_rfl) ?_
   exact bd hb10 () (nH rfl) py
  refine aR ?_
  refine av (an hb10 (fun ht=>ar rfl ?_))
  exact aG ((),(v3,v4,v5)) (mO rfl) py ht.symm
 rintro ⟨_,⟨v7,v8,v9⟩⟩ τ hz;(try dsimp only at hz);subst q11;(try dsimp only at h);dsimp only [aD]
 refine af (af (bc [0] [41] [(42,pI p0.Kind)] (by kernel_rfl) (aL (gX (ah [44] [(43,pB (p0.Kind == 1))] (by kernel_rfl) (cg rfl h (fun hc22 h=>?_) fun hc22 h=>?_))))))
 ·refine af ?_
  refine bc [1] (rg 45 6) [(4,pB (p1.Obtained&&(v9 == 0)))] (by kernel_rfl) (eD (iw ?_))
  exact zz r h rfl
 refine af ?_
 refine ah [52] [(51,pB (p0.Kind == 2))] (by kernel_rfl) (cg rfl h (fun hc23 h=>?_) fun hc23 h=>?_)
 ·refine af ?_
  refine ae h fun x24 hx24 h=>ap [0,1] (rg 53 6) [(4,pB x24)] (bR 5 (ni hx24) bL) (by kernel_rfl) (eD (iw ?_))
  exact zz r h rfl
 refine af ?_
 refine ah [60] [(59,pB (p0.Kind == 3))] (by kernel_rfl) (cg rfl h (fun hc25 h=>?_) fun hc25 h=>?_)
 ·refine af ?_
  refine ae h fun x26 hx26 h=>ap [0,1] (rg 61 6) [(4,pB x26)] (bR 5 (ni hx26) bL) (by kernel_rfl) (eD (iw ?_))
  exact zz r h rfl
 refine af ?_
 refine ah [68] [(67,pB (p0.Kind == 4))] (by kernel_rfl) (cg rfl h (fun hc27 h=>?_) fun hc27 h=>?_)
 ·refine af ?_
  refine ae h fun x28 hx28 h=>ap [1,0] (rg 69 5) [(4,pB x28)] (bR 4 (cr hx28) bL) (by kernel_rfl) (eD (iw ?_))
  exact zz r h rfl
 refine ai ?_
 refine aH (bM (fP [(4,pB false)] (by kernel_rfl) ?_))
 exact zz r h rfl
def eK (p0:Zv) (p1:Zm):Option ((List Int)×Bool):=(rule_holds p0.rule p1).bind fun x3=>some ([],x3)
theorem mu {p0:Zv} {p1:Zm} {r:((List Int)×Bool)}  (h:eK p0 p1=some r):PF 265 [.agg (aN p0.rule),.agg (cB p1)] (.tup [pL eI r.1,pB r.2]):=by
 unfold eK at h
 refine br ?_
 refine eW Tryz.func265 rfl Tryz.ntmps265 Tryz.results265 rfl (aa (aj rfl (bE (cs:=(aN p0.rule)) rfl rfl (fun b1=>aj rfl (bE (cs:=(cB p1)) rfl rfl (fun b2=>bA [4,5] (by kernel_rfl) (du h fun x3 hx3 h=>ap [1,0] [6,7,8,9] [(4,pN),(5,pB x3)] (bR 3 (sv hx3) bL) (by kernel_rfl) (aL (jU 4 rfl (bS ?_))))))))))
 obtain rfl:=osi h
 exact aO (ec (aP rfl) (aP rfl)) bX ⟨rfl,rfl⟩
def Irule_test_witness_B (rec:Zh→Zm→Option ((List Int)×Bool)) (x:Zh) (y0:Zm):Option ((List Int)×Bool):=match x with | .single_ a=>eK a y0 | .every_ a=>eg rec a y0 | .some_ a=>eJ rec a y0
theorem Irule_test_witness_B_ok {rec:Zh→Zm→Option ((List Int)×Bool)} (hrec:∀ {x:Zh} {y0:Zm} {w:((List Int)×Bool)},rec x y0=some w→PFI x.pv "customs/rule.witness" [.agg (cB y0)] (.tup [pL eI w.1,pB w.2])) {x:Zh} {y0:Zm} {w:((List Int)×Bool)} (h:Irule_test_witness_B rec x y0=some w):PFI x.pv "customs/rule.witness" [.agg (cB y0)] (.tup [pL eI w.1,pB w.2]):=by
 cases x with
 | single_ a=>rw [Zh.pv_single_];exact rm ⟨fun _ _=>by kernel_rfl⟩ (mu h)
 | every_ a=>rw [Zh.pv_every_];exact rm ⟨fun _ _=>by kernel_rfl⟩ (lL hrec h)
 | some_ a=>rw [Zh.pv_some_];exact rm ⟨fun _ _=>by kernel_rfl⟩ (mt hrec h)
def Irule_test_witness_F (n:Nat):Zh→Zm→Option ((List Int)×Bool):=Nat.rec (motive:=fun _=>Zh→Zm→Option ((List Int)×Bool)) (fun _ _=>none) (fun _ ih=>Irule_test_witness_B ih) n
def Irule_test_witness (x:Zh) (y0:Zm):Option ((List Int)×Bool):=Irule_test_witness_F FUEL x y0
theorem Irule_test_witness_Fok (n:Nat):∀ {x:Zh} {y0:Zm} {w:((List Int)×Bool)},Irule_test_witness_F n x y0=some w→PFI x.pv "customs/rule.witness" [.agg (cB y0)] (.tup [pL eI w.1,pB w.2]):=by
 induction n with
 | zero=>intros;rename_i h;exact nomatch h
 | succ n ih=>intros;rename_i h;exact Irule_test_witness_B_ok (fun hr=>ih hr) h
theorem Irule_test_witness_ok {x:Zh} {y0:Zm} {w:((List Int)×Bool)} (h:Irule_test_witness x y0=some w):PFI x.pv "customs/rule.witness" [.agg (cB y0)] (.tup [pL eI w.1,pB w.2]):=Irule_test_witness_Fok FUEL h
def bk (p0:(List Zg)) (p1:(Zg→Option Bool)):Option Int:=(bf (S:=Int) (T:=(Unit)⊕(_)) (fun v1=>cond (decide (v1<(p0.length:Int))) ((idx p0 v1).bind fun m5=>(p1 m5).bind fun x6=>cond x6 (some (.inr (.inr v1))) (some (.inl (IntKind.i64.wrap (v1+1))))) (some (.inr (.inl ())))) FUEL 0).bind fun q=>match q with | .inl _=>some (-1) | .inr e=>some e
theorem eU {p0:(List Zg)} {p1:(Zg→Option Bool)} {r:Int} {g1:PV} (hg1:∀ {y0:Zg} {w:Bool},p1 y0=some w→PFV g1 [.agg (ed y0)] (pB w)) (h:bk p0 p1=some r):PF 89 [pL Zg.enc p0,g1] (pI r):=by
 unfold bk at h
 refine br ?_
 refine eW Tryz.func89 rfl Tryz.ntmps89 Tryz.results89 rfl (aU [4] (by kernel_rfl) (dn (ah [6] [(7,pI (p0.length:Int)),(8,pI 0)] (by kernel_rfl) (dN h fun q3 hq3 h=>?_))))
 refine az (Y:=Unit×Unit) (fun (_,_)=>[]) (fun (_,_)=>[]) (fun (_,_)=>q3=Sum.inl ()) ?_ ?_
 ·refine aJ ?_
  refine aK (Y:=Unit) (S:=Int) _ hq3 (fun _ v1=>[(0,pL Zg.enc p0),(1,g1),(7,pI (p0.length:Int)),(8,pI v1)]) (fun _ v1=>[]) () (jt rfl) bX ?_
  rintro _ v1 o τ hb2;(try dsimp only at hb2);dsimp only [aD]
  refine af (al [(9,pB (decide (v1<(p0.length:Int))))] (by kernel_rfl) (bM (js rfl hb2 (fun hc4 hb2=>?_) fun hc4 hb2=>?_)))
  ·refine ai ?_
   refine bM (gX (ah [10] [(5,pI v1)] (by kernel_rfl) (du hb2 fun m5 hm5 hb2=>ae hb2 fun x6 hx6 hb2=>ap [] (rg 11 5) [(16,pB x6)] (fG 3 Zg.enc hm5 (xn 5 (hg1 hx6) bL)) (by kernel_rfl) (cg rfl hb2 (fun hc7 hb2=>?_) fun hc7 hb2=>?_))))
   ·refine af ?_
    refine ah [17] [(4,pI v1)] (by kernel_rfl) (eD (iw ?_))
    refine aS hb2 (fun ht=>?_);subst ht
    refine aA (aV ?_)
    exact zz r h rfl
   refine ai ?_
   refine mn (ah [18] [(8,pI (IntKind.i64.wrap (v1+1)))] (by kernel_rfl) ?_)
   exact bd hb2 () (jt rfl) bX
  refine aR ?_
  refine av (an hb2 (fun ht=>ar rfl ?_))
  exact aG ((),()) oj bX ht.symm
 rintro ⟨_,_⟩ τ hz;(try dsimp only at hz);subst q3;(try dsimp only at h);dsimp only [aD]
 refine af (fP [(4,pI (-1))] (by kernel_rfl) ?_)
 exact zz r h rfl
def bx (p0:(List Zg)) (p1:(Zg→Option Bool)):Option Bool:=(bk p0 p1).bind fun x1=>some (decide (0≤x1))
theorem eG {p0:(List Zg)} {p1:(Zg→Option Bool)} {r:Bool} {g1:PV} (hg1:∀ {y0:Zg} {w:Bool},p1 y0=some w→PFV g1 [.agg (ed y0)] (pB w)) (h:bx p0 p1=some r):PF 47 [pL Zg.enc p0,g1] (pB r):=by
 unfold bx at h
 refine br ?_
 refine eW Tryz.func47 rfl Tryz.ntmps47 Tryz.results47 rfl (aU [4] (by kernel_rfl) (du h fun x1 hx1 h=>ap [] [5,6,7,8] [(4,pB (decide (0≤x1)))] (bR 2 (eU hg1 hx1) bL) (by kernel_rfl) (eD ?_)))
 exact zz r h rfl
def iT (p0:Zg) (p1:Za):Option Bool:=some (Za.eqb p0.Claim p1)
theorem qf {p0:Zg} {p1:Za} {r:Bool}  (h:iT p0 p1=some r):PF 48 [.agg (ed p0),.ref [pI p1.Product,pI p1.Agreement] 0] (pB r):=by
 unfold iT at h
 refine br ?_
 refine eW Tryz.func48 rfl Tryz.ntmps48 Tryz.results48 rfl (aa (aj rfl (bE (cs:=(ed p0)) rfl rfl (fun b1=>bA [3] (by kernel_rfl) (bM (ap [0] [4,5,6,7] [(3,pB (Za.eqb p0.Claim p1))] (foeq 3 Za.eqok57 bL) (by kernel_rfl) (eD ?_)))))))
 exact zz r h rfl
def gH (p0:(List Zg)) (p1:Za):Option Bool:=(bx p0 (fun y2=>iT y2 p1)).bind fun x3=>some x3
theorem lm {p0:(List Zg)} {p1:Za} {r:Bool}  (h:gH p0 p1=some r):PF 18 [pL Zg.enc p0,.agg [pI p1.Product,pI p1.Agreement]] (pB r):=by
 unfold gH at h
 refine br ?_
 refine eW Tryz.func18 rfl Tryz.ntmps18 Tryz.results18 rfl (aa (aj rfl (bE (cs:=[pI p1.Product,pI p1.Agreement]) rfl rfl (fun b1=>bA [4] (by kernel_rfl) (bM (aa (am 1 [(5,pL Zg.enc p0)] (by kernel_rfl) ?_)))))))
 refine jo 3 rfl (by exact aC) ?_
 refine ae h fun x3 hx3 h=>gr [] [6,7] [(4,pB x3)] (bR 1 (eG (fun hr=>nP (qf hr)) hx3) bL) (by kernel_rfl) (eD ?_)
 exact zz r h rfl
end SX
namespace SX
open Go
abbrev bl (s:ByteArray):List UInt8:=s.data.toList
theorem bl_hi (s:ByteArray) (k:Nat):bl (s.extract 0 k)=(bl s).take k:=by simp [bl]
theorem bl_lo (s:ByteArray) (k:Nat):bl (s.extract k s.size)=(bl s).drop k:=by
  simp only [bl,ByteArray.data_extract,Array.toList_extract,List.extract_eq_take_drop]
  rw [List.take_of_length_le];simp
theorem j5 (s:ByteArray):s.size=(bl s).length:=by simp [bl]
theorem bl_inj {s u:ByteArray} (h:bl s=bl u):s=u:=by
  obtain ⟨⟨x⟩⟩:=s;obtain ⟨⟨y⟩⟩:=u;simp [bl] at h;subst h;rfl
def kA (n:Nat):Bool:=decide (48≤n∧n≤57)
def eZ (p:Nat→Bool):List Value:=(List.range 256).map fun i=>.bool (p i)
theorem eO (p:Nat→Bool):(eZ p).length=256:=by simp [eZ]
theorem j6 (p:Nat→Bool) {j:Nat} (h:j<256):(eZ p)[j]?=some (.bool (p j)):=by simp [eZ,h]
theorem uw (p q:Nat→Bool) {j:Nat} (h:∀ i,q i=(decide (i=j)||p i)):(eZ p).set j (.bool true)=eZ q:=by
  apply List.ext_getElem?
  intro i
  rw [List.getElem?_set]
  simp only [eO]
  rcases Nat.lt_or_ge i 256 with hi | hi
  · rw [j6 q hi,j6 p hi,h i]
    by_cases e:j=i
    · subst e;simp [hi]
    · rw [if_neg e];simp [show ¬ i=j from fun h=>e h.symm]
  · rw [List.getElem?_eq_none (by rw [eO];exact hi),List.getElem?_eq_none (by rw [eO];exact hi)]
    split
    · rw [if_neg (by omega)]
    · rfl
section
variable {o:Oper} {σ:Env} {ρ:List Res} {κ:Kr} {c:Bool} {x y:Operand} {K:Value→List Res→Kr→Prop}
theorem Sh.at1 {b k:Nat} {cs:List Value} {v:Value} (h:Sh κ b 0 cs) (hv:cs[k]?=some v):Sh κ b (0+k*1) [v]:=⟨h.1,fun j u hu=>by
  cases j with
  | zero=>simp at hu;subst hu;have:=h.2 k v hv;simpa using this
  | succ j=>simp at hu⟩
theorem vY {t b T sz by':Nat} {cs:List Value} {z:Value} {d:TypeDesc} (ho:o.op=.load t x) (hx:Ev σ c x (.pointer (some ⟨b,0,none⟩))) (hm:Res.b b T cs∈ρ) (hd:em t=some d) (ha:jG d=true) (hi:fC t=some (z,sz,by')) (hl:cs.length=sz):OpQ c o σ ρ κ (.agg cs.toArray):=by
  refine sI ho hx hm ?_
  unfold iK
  simp only [hd,hi,ha,cond_true,List.drop_zero]
  rw [Nat.ble_eq_true_of_le (by omega)]
  simp [← hl]
end
attribute [local irreducible] WL WC WD OpL OpQ OpG Ev GuardIs wW jF AS Call CallP midK qU Holds qD Sub Pick WS Step Lit Upd SetAt SpliceAt FillR Sh LateRun
theorem pF (κ:Kr) (b:Nat) (p:Nat→Bool) (m:Int) (hs:Sh κ b 0 (eZ p)) (h0:0≤m) (h1:m≤255):CallP 198 [.pointer (some ⟨b,0,none⟩),.int .u8 m] κ fun v _=>v=.bool (p m.toNat):=by
  (unfold CallP;apply lY Tryz.func198 (CH Tryz.func198 rfl) rfl Tryz.ntmps198 Tryz.results198 rfl)
  repeat (first | (first | (apply dV rfl rfl rfl;(focus (first | exact bN (v:=(.int _ _)) rfl (.p rfl) | exact bN (v:=(.pointer _)) rfl (.p rfl) | exact bV (v:=(.bool _)) rfl (.p rfl) | exact mS rfl (.p rfl)))) | apply cN) | (first | apply dq | apply bv | apply dm))
  apply dV rfl rfl rfl (sN (j:=m.toNat) rfl rfl rfl (.p rfl) (.p rfl) (fun _=>by omega) (fun _=>by omega))
  apply dV rfl rfl rfl (oR rfl (.p rfl) (fun _=>(hs.mono (by (repeat (exact Kle.refl _)))).at1 (j6 p (by omega))) rfl)
  repeat (first | (first | (apply dV rfl rfl rfl;(focus (exact bV (v:=(.bool _)) rfl (.p rfl)))) | apply cN) | (first | apply dm | apply ke))
  exact lc (tX (v:=.bool _) rfl) .none ⟨rfl,rfl⟩
def hU:ByteArray:=⟨#[48,49,50,51,52,53,54,55,56,57]⟩
theorem ux:∀ {k:Nat},k<10→((hU.data.toList.getD k 0).toNat:Int)=48+(k:Int):=by decide
theorem BX (κ:Kr):CallP 175 [.string hU] κ fun v _=>v=.tuple #[.agg (eZ kA).toArray,.bool true]:=by
  (unfold CallP;apply lY Tryz.func175 (CH Tryz.func175 rfl) rfl Tryz.ntmps175 Tryz.results175 rfl)
  repeat (first | (first | (apply dV rfl rfl rfl;(focus (first | exact bV (v:=(.int _ _)) rfl (.p rfl) | exact bV (v:=(.bool _)) rfl (.p rfl)))) | (apply u3 rfl rfl rfl;apply sJ rfl rfl;intro _ _ _) | apply cN) | (first | apply dq | apply bv | apply iJ | apply dm))
  rename_i b2 κ1 _
  have e0:List.replicate 256 (Value.bool false)=eZ (fun i=>decide (48≤i∧i<48+0)):=by
    apply List.ext_getElem?
    intro i
    rcases Nat.lt_or_ge i 256 with hi | hi
    · rw [j6 _ hi,List.getElem?_replicate,if_pos hi];congr 2;symm;rw [decide_eq_false_iff_not];omega
    · rw [List.getElem?_eq_none (by simpa using hi),List.getElem?_eq_none (by rw [eO];exact hi)]
  rw [e0]
  refine ox (X:=Nat) (fun k=>[(0,.string hU),(2,.pointer (some ⟨b2,0,none⟩)),(4,.int .i64 (k:Int))]) (fun k=>[Res.b b2 279 (eZ fun i=>decide (48≤i∧i<48+k))]) (fun k _=>k≤10) (fun k=>10 - k) 0 (by (repeat (first | exact Holds.nil | apply Holds.cons rfl))) (by (repeat (first | exact Sub.nil | (apply Sub.cons;(focus (repeat (exact Pick.h))))))) (by omega) ?_
  intro k τ κ2 _ hk
  simp only [qD]
  repeat (first | (first | (apply dV rfl rfl rfl;(focus (first | exact bN (v:=(.int _ _)) rfl (.p rfl) | exact bN (v:=(.string _)) rfl (.p rfl) | exact lV rfl (.p rfl) (.p rfl) rfl | exact kR rfl rfl (.p rfl)))) | apply cN) | (first | apply dq | apply bv | apply dm))
  apply tY rfl <;> intro hc
  · have hk10:k<10:=by
      have e:(hU.size:Int)=10:=rfl
      rw [e] at hc;omega
    repeat (first | (apply dV rfl rfl rfl;(focus (first | exact bN (v:=(.int _ _)) rfl (.p rfl) | exact bN (v:=(.string _)) rfl (.p rfl)))) | (first | apply dq | apply bv | apply iJ | apply dm | apply iI))
    apply dV rfl rfl rfl (lx (s:=hU) (j:=k) rfl rfl (.p rfl) (.p rfl) (fun _=>rfl) (fun _=>hk10))
    rw [ux hk10]
    repeat (first | (first | (apply dV rfl rfl rfl;(focus (first | exact bN (v:=(.int _ _)) rfl (.p rfl) | exact bV (v:=(.int _ _)) rfl (.p rfl) | exact lV rfl (.p rfl) (.p rfl) rfl))) | apply cN) | (first | apply dq | apply bv | apply dm))
    apply AK (by have:¬ (128:Int)≤48+(k:Int):=by omega
                 simp [ev,upd,this])
    repeat (first | (apply dV rfl rfl rfl;(focus (exact bN (v:=(.int _ _)) rfl (.p rfl)))) | (first | apply bv | apply dm | apply iI))
    apply dV rfl rfl rfl (sN (j:=48+k) rfl rfl rfl (.p rfl) (.p rfl) (fun _=>by omega) (fun _=>by omega))
    apply yn rfl rfl
    apply zu (v:=.bool true) rfl rfl rfl rfl rfl rfl (by (repeat (exact Upd.h))) (by rw [eO];omega)
    intro κ3 _
    have e1:(eZ fun i=>decide (48≤i∧i<48+k)).set (0+(48+k)*1) (.bool true)=eZ fun i=>decide (48≤i∧i<48+(k+1)) :=
      uw _ _ fun i=>by rw [Bool.eq_iff_iff];simp;omega
    rw [e1]
    repeat (first | (first | (apply dV rfl rfl rfl;(focus (first | exact bN (v:=(.int _ _)) rfl (.p rfl) | exact bV (v:=(.int _ _)) rfl (.p rfl) | exact lW rfl (.p rfl) (.p rfl) rfl (fun _=>by omega)))) | apply cN) | (first | apply bv | apply dm | apply nA))
    exact tW (k+1) (by (repeat (first | exact Holds.nil | apply Holds.cons rfl))) (by (repeat (first | exact Sub.nil | (apply Sub.cons;(focus (repeat (exact Pick.h))))))) (by omega) (by omega)
  · have hk10:k=10:=by
      have e:(hU.size:Int)=10:=rfl
      rw [e] at hc;omega
    subst hk10
    have e2:(fun i=>decide (48≤i∧i<48+10))=kA:=by funext i;simp only [kA];rw [Bool.eq_iff_iff];simp;omega
    rw [e2]
    apply lU;apply je;apply iu;apply jf rfl;apply dm;apply dq;apply bv
    apply dV rfl rfl rfl (vY rfl (.p rfl) (by (repeat (exact List.Mem.head _))) rfl rfl rfl (eO _))
    apply yn rfl rfl
    apply sK rfl rfl rfl rfl (eO _) (by simp [eZ,Value.oneCell']) (by (repeat (exact Upd.h))) rfl
    intro κ3 _
    repeat (first | (first | (apply dV rfl rfl rfl;(focus (exact bV (v:=(.bool _)) rfl (.p rfl)))) | apply cN) | (first | apply dm | apply ke))
    refine lc (rv_2 (RV1.cell rfl (by (repeat (exact List.Mem.head _))) ?_) (rv1_t (v:=.bool _) rfl)) .none ⟨rfl,rfl⟩
    unfold iK
    simp only [show em 279=some (.array 256 4) from rfl,show fC 279=some (.agg (List.replicate 256 (.bool false)).toArray,256,256) from rfl,jG,cond_true,List.drop_zero,eO]
    rw [List.take_of_length_le (by rw [eO];omega)];rfl
theorem qy {l:List UInt8} {j:Nat} (h:j<l.length):l.getD j 0=l[j]:=by simp [List.getD_eq_getElem?_getD,h]
theorem uy (κ:Kr) (b:Nat) (s:ByteArray) (hs:Sh κ b 0 (eZ kA)) (hz:s.size≤1000000000):CallP 177 [.string s,.pointer (some ⟨b,0,none⟩)] κ fun v _=>∃ u k,v=.string u∧bl u=(bl s).take k∧k≤(bl s).length∧(∀ c∈(bl s).drop k,kA c.toNat=true)∧(∀ c,(bl u).getLast?=some c→kA c.toNat=false):=by
  (unfold CallP;apply lY Tryz.func177 (CH Tryz.func177 rfl) rfl Tryz.ntmps177 Tryz.results177 rfl)
  repeat (first | (first | (apply dV rfl rfl rfl;(focus (exact bV (v:=(.string _)) rfl (.p rfl)))) | apply cN) | (first | apply dq | apply bv | apply iJ | apply dm))
  refine ox (X:=ByteArray×Nat) (fun z=>[(0,.string z.1),(1,.pointer (some ⟨b,0,none⟩))]) (fun _=>[]) (fun z _=>bl z.1=(bl s).take z.2∧z.2≤(bl s).length∧∀ c∈(bl s).drop z.2,kA c.toNat=true) (fun z=>z.2) (s,(bl s).length) (by (repeat (first | exact Holds.nil | apply Holds.cons rfl))) (by (repeat (exact Sub.nil))) ⟨(List.take_length).symm,Nat.le_refl _,by rw [List.drop_length];simp⟩ ?_
  rw [j5] at hz
  rintro ⟨u,k⟩ τ κ2 _ ⟨h1,h2,h3⟩
  dsimp only at h1 h2 h3
  have hsz:u.size=k:=by rw [j5,h1,List.length_take];omega
  simp only [qD]
  repeat (first | (first | (apply dV rfl rfl rfl;(focus (first | exact bN (v:=(.string _)) rfl (.p rfl) | exact lV rfl (.p rfl) (.p rfl) rfl | exact kR rfl rfl (.p rfl)))) | apply cN) | (first | apply dq | apply bv | apply dm))
  apply tY rfl <;> intro hc
  · have hk0:0<k:=by omega
    repeat (first | (apply dV rfl rfl rfl;(focus (first | exact bN (v:=(.pointer _)) rfl (.p rfl) | exact bN (v:=(.string _)) rfl (.p rfl) | exact lW rfl (.p rfl) (.p rfl) rfl (fun _=>by omega) | exact kR rfl rfl (.p rfl)))) | (first | apply dq | apply bv | apply iJ | apply dm | apply iI))
    apply dV rfl rfl rfl (lx (j:=k - 1) rfl rfl (.p rfl) (.p rfl) (fun _=>by omega) (fun _=>by omega))
    have hlast:(bl u).getLast?=some ((bl u).getD (k - 1) 0):=by
      rw [List.getLast?_eq_getElem?,← j5,hsz,qy (by rw [← j5];omega),List.getElem?_eq_getElem]
    apply u3 rfl rfl rfl;apply kf rfl rfl (pF _ b kA ((u.data.toList.getD (k - 1) 0).toNat:Int) (hs.mono (by (repeat (assumption)))) (by omega) (by have:=(u.data.toList.getD (k - 1) 0).toNat_lt;omega))
    rintro v κ3 _ rfl
    repeat (first | (first | (apply dV rfl rfl rfl;(focus (exact wY rfl (.p rfl)))) | apply cN) | (apply dm))
    rw [Int.toNat_natCast]
    apply jS rfl <;> intro hb
    · repeat (first | (first | (apply dV rfl rfl rfl;(focus (first | exact bN (v:=(.string _)) rfl (.p rfl) | exact bV (v:=(.string _)) rfl (.p rfl)))) | apply cN) | (first | apply dq | apply bv | apply dm | apply ke | apply lU | apply je | apply jf rfl | apply qT rfl | apply iu))
      refine lc (tX (v:=.string _) rfl) .none ⟨rfl,u,k,rfl,h1,h2,h3,fun c hc=>?_⟩
      rw [hlast] at hc;injection hc with hc;subst hc;simpa using hb
    · repeat (first | (apply dV rfl rfl rfl;(focus (first | exact bN (v:=(.string _)) rfl (.p rfl) | exact lW rfl (.p rfl) (.p rfl) rfl (fun _=>by omega) | exact kR rfl rfl (.p rfl)))) | (first | apply bv | apply dm | apply iI))
      apply dV rfl rfl rfl (pr (h:=k - 1) rfl rfl (.p rfl) (.p rfl) (fun _=>by omega) (fun _=>by omega))
      repeat (first | (first | (apply dV rfl rfl rfl;(focus (exact bV (v:=(.string _)) rfl (.p rfl)))) | apply cN) | (apply nA))
      refine tW (u.extract 0 (k - 1),k - 1) (by (repeat (first | exact Holds.nil | apply Holds.cons rfl))) (by (repeat (exact Sub.nil))) ⟨?_,by ((try dsimp only at *) <;> omega),?_⟩ (by ((try dsimp only at *) <;> omega))
      · rw [bl_hi,h1,List.take_take];congr 1;omega
      · intro c hc
        rw [List.drop_eq_getElem_cons (by omega)] at hc
        rcases List.mem_cons.1 hc with rfl | hc
        · have e:(bl u).getD (k - 1) 0=(bl s)[k - 1]'(by omega):=by
            rw [qy (by rw [← j5];omega)];simp [h1]
          rw [← e];simpa using hb
        · rw [show k - 1+1=k by omega] at hc;exact h3 c hc
  · repeat (first | (first | (apply dV rfl rfl rfl;(focus (first | exact bN (v:=(.string _)) rfl (.p rfl) | exact bV (v:=(.string _)) rfl (.p rfl)))) | apply cN) | (first | apply dq | apply bv | apply dm | apply ke | apply lU | apply je | apply jf rfl | apply iu))
    refine lc (tX (v:=.string _) rfl) .none ⟨rfl,u,k,rfl,h1,h2,h3,fun c hc'=>?_⟩
    have:bl u=[]:=List.eq_nil_of_length_eq_zero (by rw [← j5];omega)
    rw [this] at hc';cases hc'
end SX
namespace SX
open Go
attribute [local irreducible] WL WC WD OpL OpQ OpG Ev GuardIs wW jF AS Call CallP midK qU Holds qD Sub Pick WS Step Lit Upd SetAt SpliceAt FillR Sh LateRun
theorem vZ (κ:Kr) (b:Nat) (s:ByteArray) (hs:Sh κ b 0 (eZ kA)):CallP 176 [.string s,.pointer (some ⟨b,0,none⟩)] κ fun v _=>∃ u k,v=.string u∧bl u=(bl s).drop k∧k≤(bl s).length∧(∀ c∈(bl s).take k,kA c.toNat=true)∧(∀ c,(bl u).head?=some c→kA c.toNat=false):=by
  (unfold CallP;apply lY Tryz.func176 (CH Tryz.func176 rfl) rfl Tryz.ntmps176 Tryz.results176 rfl)
  repeat (first | (first | (apply dV rfl rfl rfl;(focus (exact bV (v:=(.string _)) rfl (.p rfl)))) | apply cN) | (first | apply dq | apply bv | apply iJ | apply dm))
  refine ox (X:=ByteArray×Nat) (fun z=>[(0,.string z.1),(1,.pointer (some ⟨b,0,none⟩))]) (fun _=>[]) (fun z _=>bl z.1=(bl s).drop z.2∧z.2≤(bl s).length∧∀ c∈(bl s).take z.2,kA c.toNat=true) (fun z=>(bl s).length - z.2) (s,0) (by (repeat (first | exact Holds.nil | apply Holds.cons rfl))) (by (repeat (exact Sub.nil))) ⟨rfl,Nat.zero_le _,by simp⟩ ?_
  rintro ⟨u,k⟩ τ κ2 _ ⟨h1,h2,h3⟩
  dsimp only at h1 h2 h3
  have hsz:u.size=(bl s).length - k:=by rw [j5,h1,List.length_drop]
  simp only [qD]
  repeat (first | (first | (apply dV rfl rfl rfl;(focus (first | exact bN (v:=(.string _)) rfl (.p rfl) | exact lV rfl (.p rfl) (.p rfl) rfl | exact kR rfl rfl (.p rfl)))) | apply cN) | (first | apply dq | apply bv | apply dm))
  apply tY rfl <;> intro hc
  · have hk0:k<(bl s).length:=by omega
    have hu0:0<(bl u).length:=by rw [← j5];omega
    repeat (first | (apply dV rfl rfl rfl;(focus (first | exact bN (v:=(.pointer _)) rfl (.p rfl) | exact bN (v:=(.string _)) rfl (.p rfl)))) | (first | apply dq | apply bv | apply iJ | apply dm | apply iI))
    apply dV rfl rfl rfl (lx (j:=0) rfl rfl (.p rfl) (.p rfl) (fun _=>by omega) (fun _=>by omega))
    have hhead:(bl u).head?=some ((bl u).getD 0 0):=by
      rw [List.head?_eq_getElem?,qy hu0,List.getElem?_eq_getElem hu0]
    apply u3 rfl rfl rfl;apply kf rfl rfl (pF _ b kA ((u.data.toList.getD 0 0).toNat:Int) (hs.mono (by (repeat (assumption)))) (by omega) (by have:=(u.data.toList.getD 0 0).toNat_lt;omega))
    rintro v κ3 _ rfl
    repeat (first | (first | (apply dV rfl rfl rfl;(focus (exact wY rfl (.p rfl)))) | apply cN) | (apply dm))
    rw [Int.toNat_natCast]
    apply jS rfl <;> intro hb
    · repeat (first | (first | (apply dV rfl rfl rfl;(focus (first | exact bN (v:=(.string _)) rfl (.p rfl) | exact bV (v:=(.string _)) rfl (.p rfl)))) | apply cN) | (first | apply dq | apply bv | apply dm | apply ke | apply lU | apply je | apply jf rfl | apply qT rfl | apply iu))
      refine lc (tX (v:=.string _) rfl) .none ⟨rfl,u,k,rfl,h1,h2,h3,fun c hc=>?_⟩
      rw [hhead] at hc;injection hc with hc;subst hc;simpa using hb
    · repeat (first | (apply dV rfl rfl rfl;(focus (exact bN (v:=(.string _)) rfl (.p rfl)))) | (first | apply bv | apply dm | apply iI))
      apply dV rfl rfl rfl (pu (l:=1) rfl rfl (.p rfl) (.p rfl) (fun _=>by omega) (fun _=>by omega))
      repeat (first | (first | (apply dV rfl rfl rfl;(focus (exact bV (v:=(.string _)) rfl (.p rfl)))) | apply cN) | (apply nA))
      refine tW (u.extract 1 u.size,k+1) (by (repeat (first | exact Holds.nil | apply Holds.cons rfl))) (by (repeat (exact Sub.nil))) ⟨?_,by ((try dsimp only at *) <;> omega),?_⟩ (by ((try dsimp only at *) <;> omega))
      · rw [bl_lo,h1,List.drop_drop]
      · intro c hc
        rw [List.take_add_one] at hc
        rcases List.mem_append.1 hc with hc | hc
        · exact h3 c hc
        · have e:(bl u).getD 0 0=(bl s)[k]'hk0:=by rw [qy hu0];simp [h1]
          rw [List.getElem?_eq_getElem hk0] at hc
          simp only [Option.toList_some,List.mem_cons,List.not_mem_nil,or_false] at hc
          subst hc;rw [← e];simpa using hb
  · repeat (first | (first | (apply dV rfl rfl rfl;(focus (first | exact bN (v:=(.string _)) rfl (.p rfl) | exact bV (v:=(.string _)) rfl (.p rfl)))) | apply cN) | (first | apply dq | apply bv | apply dm | apply ke | apply lU | apply je | apply jf rfl | apply iu))
    refine lc (tX (v:=.string _) rfl) .none ⟨rfl,u,k,rfl,h1,h2,h3,fun c hc'=>?_⟩
    have:bl u=[]:=List.eq_nil_of_length_eq_zero (by rw [← j5];omega)
    rw [this] at hc';cases hc'
def nj (s:ByteArray):Bool:=(bl s).all fun c=>kA c.toNat
theorem tk {s:ByteArray}:s=⟨#[]⟩↔bl s=[]:=⟨fun h=>by rw [h],fun h=>bl_inj (by rw [h])⟩
theorem trim_ok (κ:Kr) (s:ByteArray) (hz:s.size≤1000000000):CallP 136 [.string s,.string hU] κ fun v _=>∃ u,v=.string u∧(u=⟨#[]⟩↔nj s=true):=by
  (unfold CallP;apply lY Tryz.func136 (CH Tryz.func136 rfl) rfl Tryz.ntmps136 Tryz.results136 rfl)
  repeat (first | (first | (apply dV rfl rfl rfl;(focus (first | exact bN (v:=(.bool _)) rfl (.p rfl) | exact bN (v:=(.string _)) rfl (.p rfl) | exact bV (v:=(.string _)) rfl (.p rfl) | exact oq_or rfl (.p rfl) (.p rfl) (.g rfl) | exact tO rfl (.p rfl) (.p rfl) rfl))) | (apply qI;(focus (exact ym rfl rfl rfl));rfl;rfl;(focus (first | (apply bN (v:=(.string _)) rfl;(focus (exact Ev.p rfl))) | (apply tO rfl (by (focus (exact Ev.g rfl))) (by (focus (exact Ev.p rfl)));rfl)))) | apply cN) | (first | apply dq | apply bv | apply dm))
  apply jS rfl <;> intro hb
  · repeat (first | (first | (apply dV rfl rfl rfl;(focus (first | exact bN (v:=(.string _)) rfl (.p rfl) | exact bV (v:=(.string _)) rfl (.p rfl)))) | apply cN) | (first | apply dq | apply bv | apply dm | apply ke | apply oT))
    have:s=⟨#[]⟩:=by simpa [hU] using hb
    refine lc (tX (v:=.string _) rfl) .none ⟨rfl,s,rfl,?_⟩
    subst this;simp [nj,bl]
  · have hne:¬ bl s=[]:=fun h=>by rw [tk.2 h] at hb;simp at hb
    repeat (first | (first | (apply dV rfl rfl rfl;(focus (first | exact bN (v:=(.bool _)) rfl (.p rfl) | exact bN (v:=(.string _)) rfl (.p rfl) | exact lV rfl (.p rfl) (.p rfl) rfl | exact kR rfl rfl (.p rfl)))) | (apply qI;(focus (exact lT rfl rfl rfl));rfl;rfl;(focus (apply bN (v:=(.string _)) rfl;(focus (exact Ev.p rfl)))))) | (first | apply dq | apply bv | apply dm | apply iI))
    apply qI;(focus (exact lT rfl rfl rfl));rfl;rfl;exact lx (s:=hU) (j:=0) rfl rfl (.g rfl) (.p rfl) (fun _=>rfl) (fun _=>by decide)
    repeat (first | (first | (apply dV rfl rfl rfl;(focus (exact wX rfl (.p rfl) (.p rfl) (.g rfl)))) | (apply qI;(focus (exact lT rfl rfl rfl));rfl;rfl;(focus (apply lV rfl (by (focus (exact Ev.g rfl))) (by (focus (exact Ev.p rfl)));rfl))) | apply cN) | (apply dm))
    apply jS rfl <;> intro hb2
    · have e:(hU.size:Int)=10:=rfl
      rw [e] at hb2;simp at hb2
    repeat (first | (apply dV rfl rfl rfl;(focus (exact bN (v:=(.string _)) rfl (.p rfl)))) | (first | apply dq | apply bv | apply dm | apply iI))
    refine wl_fun rfl rfl rfl rfl rfl (BX _) fun κ1 _=>?_
    repeat (first | (first | (apply dV rfl rfl rfl;(focus (first | exact bN (v:=(.bool _)) rfl (.p rfl) | exact bN (v:=(.tuple _)) rfl (.p rfl) | exact bV (v:=(.bool _)) rfl (.p rfl) | exact qJ rfl (.p rfl) rfl))) | (apply u3 rfl rfl rfl;apply sJ rfl rfl;intro _ _ _) | (apply yn rfl rfl;apply sK rfl rfl rfl rfl rfl rfl;(focus (repeat (exact Upd.h)));rfl;intro _ _) | apply cN) | (first | apply dq | apply bv | apply dm))
    rename_i b5 _ _ _ _
    apply wc_pub (b:=b5) Pick.h rfl;intro κ3 _ hS hsays
    have hset:=A5 hS hsays
    apply AJ rfl
    repeat (first | (apply dV rfl rfl rfl;(focus (exact bN (v:=(.string _)) rfl (.p rfl)))) | (first | apply dq | apply bv))
    apply u3 rfl rfl rfl;apply kf rfl rfl (uy _ b5 s (hset.mono (by (repeat (exact Kle.refl _)))) hz)
    rintro v κ4 _ ⟨u,k,rfl,h1,h2,h3,h4⟩
    apply u3 rfl rfl rfl;apply kf rfl rfl (vZ _ b5 u (hset.mono (by (repeat (assumption)))))
    rintro v κ5 _ ⟨u2,k2,rfl,g1,g2,g3,g4⟩
    repeat (first | (first | (apply dV rfl rfl rfl;(focus (exact bV (v:=(.string _)) rfl (.p rfl)))) | apply cN) | (first | apply dm | apply ke | apply oT))
    refine lc (tX (v:=.string _) rfl) .none ⟨rfl,u2,rfl,?_⟩
    rw [tk]
    unfold nj
    rw [List.all_eq_true]
    constructor
    · intro h
      have hk2:k2=(bl u).length:=by
        have:=congrArg List.length (g1.symm.trans h);simp only [List.length_drop,List.length_nil] at this;omega
      intro c hc
      rw [← List.take_append_drop k (bl s)] at hc
      rcases List.mem_append.1 hc with hc | hc
      · rw [← h1] at hc;rw [hk2,List.take_length] at g3;exact g3 c hc
      · exact h3 c hc
    · intro h
      have hu:bl u=[]:=by
        rcases List.eq_nil_or_concat (bl u) with hu | ⟨l,c,hu⟩
        · exact hu
        · have hc:=h4 c (by rw [hu];simp)
          have hm:c∈bl s:=List.mem_of_mem_take (i:=k) (by rw [← h1,hu];simp)
          rw [h c hm] at hc;cases hc
      rw [g1,hu];simp
def Glob (κ:Kr):Prop:=Sh κ 0 0 [.int .i64 2,.int .i64 4,.int .i64 6,.int .i64 8]
theorem Glob.mono {κ κ':Kr} (h:Glob κ) (k:Kle κ κ'):Glob κ':=Sh.mono h k
def e9 (s:ByteArray):Int:=if (s.size=2∨s.size=4∨s.size=6∨s.size=8)∧nj s=true then (s.size:Int) else 0
theorem gv_some {c:Bool} {v:Value} {P:ByteArray→Prop} (h:c=true→∃ u,v=.string u∧P u):∃ u,gv c v=gv c (.string u)∧(c=true→P u):=by
  cases c
  · exact ⟨⟨#[]⟩,by rw [gx,gx],fun h=>by cases h⟩
  · obtain ⟨u,rfl,h2⟩:=h rfl;exact ⟨u,rfl,fun _=>h2⟩
theorem BY (κ:Kr) (s:ByteArray) (hg:Glob κ):CallP 103 [.string s] κ fun v _=>v=.int .i64 (e9 s):=by
  (unfold CallP;apply lY Tryz.func103 (CH Tryz.func103 rfl) rfl Tryz.ntmps103 Tryz.results103 rfl)
  repeat (first | (first | (apply dV rfl rfl rfl;(focus (exact bV (v:=(.int _ _)) rfl (.p rfl)))) | apply cN) | (first | apply dq | apply bv | apply dm))
  apply dV rfl rfl rfl (oR rfl (.p rfl) (fun _=>hg) rfl)
  repeat (first | (first | (apply dV rfl rfl rfl;(focus (exact bN (v:=(.int _ _)) rfl (.p rfl)))) | apply cN) | (first | apply iJ | apply dm))
  refine ox (X:=Nat) (fun k=>[(0,.string s),(5,.agg #[.int .i64 2,.int .i64 4,.int .i64 6,.int .i64 8]),(6,.int .i64 (k:Int))]) (fun _=>[]) (fun k _=>k≤4∧∀ j,j<k→¬ (s.size=2*(j+1)∧nj s=true)) (fun k=>4 - k) 0 (by (repeat (first | exact Holds.nil | apply Holds.cons rfl))) (by (repeat (exact Sub.nil))) ⟨by omega,by omega⟩ ?_
  rintro k τ κ1 _ ⟨hk,hno⟩
  simp only [qD]
  repeat (first | (first | (apply dV rfl rfl rfl;(focus (exact lV rfl (.p rfl) (.p rfl) rfl))) | apply cN) | (first | apply dq | apply bv | apply dm))
  apply tY rfl <;> intro hc
  · have hk4:k<4:=by omega
    repeat (first | apply dq | apply bv | apply iJ | apply dm | apply iI)
    apply dV rfl rfl rfl (zt (cs:=[.int .i64 2,.int .i64 4,.int .i64 6,.int .i64 8]) (v:=.int .i64 (2*((k:Int)+1))) (j:=k) rfl rfl rfl rfl rfl (.p rfl) (.p rfl) (fun _=>rfl) (fun _=>hk4) (fun _=>by
      have:k=0∨k=1∨k=2∨k=3:=by omega
      rcases this with rfl | rfl | rfl | rfl <;> rfl))
    repeat (first | (first | (apply dV rfl rfl rfl;(focus (first | exact bN (v:=(.int _ _)) rfl (.p rfl) | exact bN (v:=(.bool _)) rfl (.p rfl) | exact bN (v:=(.string _)) rfl (.p rfl) | exact bV (v:=(.int _ _)) rfl (.p rfl) | exact lV rfl (.p rfl) (.p rfl) rfl | exact kR rfl rfl (.p rfl)))) | (apply qI;(focus (exact lT rfl rfl rfl));rfl;rfl;(focus (apply bN (v:=(.string _)) rfl;(focus (exact Ev.p rfl))))) | apply cN) | (first | apply dq | apply bv | apply dm))
    apply wl_g;(focus (exact lT rfl rfl rfl));rfl;rfl
    refine vd rfl (ar2 (.g rfl) (.p rfl)) (fun hcc=>trim_ok _ s (by simp at hcc;omega)) fun v κ2 _ hv=>?_
    obtain ⟨u,hu,hP⟩:=gv_some hv
    rw [hu]
    repeat (first | (first | (apply dV rfl rfl rfl;(focus (exact wX rfl (.p rfl) (.p rfl) (.g rfl)))) | (apply qI;(focus (exact lT rfl rfl rfl));rfl;rfl;(focus (apply tO rfl (by (focus (exact Ev.g rfl))) (by (focus (exact Ev.p rfl)));rfl))) | apply cN) | (apply dm))
    apply jS rfl <;> intro hb
    · simp only [Bool.and_eq_true,beq_iff_eq,decide_eq_true_eq] at hb
      have hd:nj s=true:=(hP (by simpa using hb.1)).1 hb.2
      repeat (first | (first | (apply dV rfl rfl rfl;(focus (first | exact bN (v:=(.int _ _)) rfl (.p rfl) | exact bV (v:=(.int _ _)) rfl (.p rfl)))) | apply cN) | (first | apply dq | apply bv | apply dm | apply ke | apply oT | apply vl | apply w0))
      refine lc (tX (v:=.int _ _) rfl) .none ⟨rfl,?_⟩
      show Value.int .i64 (2*((k:Int)+1))=.int .i64 (e9 s)
      unfold e9
      rw [if_pos ⟨by omega,hd⟩,← hb.1]
    · repeat (first | (first | (apply dV rfl rfl rfl;(focus (first | exact bN (v:=(.int _ _)) rfl (.p rfl) | exact lW rfl (.p rfl) (.p rfl) rfl (fun _=>by omega)))) | apply cN) | (first | apply bv | apply dm | apply iI | apply nA))
      refine tW (k+1) (by (repeat (first | exact Holds.nil | apply Holds.cons rfl))) (by (repeat (exact Sub.nil))) ⟨by omega,fun j hj=>?_⟩ (by omega)
      rcases Nat.lt_or_ge j k with h | h
      · exact hno j h
      · have:j=k:=by omega
        subst this
        rintro ⟨h1,h2⟩
        have hcc:((s.size:Int) == 2*((j:Int)+1))=true:=by simp;omega
        have:=(hP (by simpa using hcc)).2 h2
        subst this
        rw [hcc] at hb;simp at hb
  · repeat (first | (first | (apply dV rfl rfl rfl;(focus (exact bV (v:=(.int _ _)) rfl (.p rfl)))) | apply cN) | (first | apply dq | apply bv | apply dm | apply ke | apply lU | apply je | apply jf rfl | apply iu))
    refine lc (tX (v:=.int _ _) rfl) .none ⟨rfl,?_⟩
    show Value.int .i64 0=.int .i64 (e9 s)
    unfold e9
    rw [if_neg]
    rintro ⟨h1,h2⟩
    have:k=4:=by omega
    subst this
    rcases h1 with h1 | h1 | h1 | h1
    · exact hno 0 (by omega) ⟨h1,h2⟩
    · exact hno 1 (by omega) ⟨h1,h2⟩
    · exact hno 2 (by omega) ⟨h1,h2⟩
    · exact hno 3 (by omega) ⟨h1,h2⟩
end SX
namespace SX
open Go
def dc (p0:ByteArray):Option Int:=some (e9 p0)
theorem fb {p0:ByteArray} {r:Int} (h:dc p0=some r):PF 103 [.v (.string p0)] (.v (.int .i64 r)):=fun κ args g ha=>by
 obtain ⟨v,ws,rfl,h1,h2⟩:=ha.cons_inv
 rw [h2.nil_inv,h1.val]
 have h:=Option.some.inj h;subst h
 exact (BY κ p0 (gok_len g)).mono fun v κ' _ hv=>by subst hv;exact .v rfl
def itr (b:Nat) (s:ByteArray) (pos:Nat):Res:=⟨some b,fun o=>o=some (.stringIter s pos)⟩
theorem BZ {o:Oper} {σ:PEnv} {ρ:List PRes} {x:Operand} {t:Nat} {s:ByteArray} {K:PV→List PRes→Prop} (ho:o.op=.range t x) (hu:em t=some .string) (hx:bj σ x=.v (.string s)) (h:∀ b,K (.v (.pointer (some ⟨b,0,none⟩))) (.raw (itr b s 0)::ρ)):POpL o σ ρ K:=fun κ σ' ρ' g hs hr β hi Nx hk=>by
 have e1:=hs.v1 hx
 have h1:=run_underlying (w:=κ.w) (bB hu)
 have hrun:(execOp (ev σ') o).run Tryz.prog κ.w=.ok (.value (.pointer (some ⟨κ.w.heap.size,0,none⟩))) (κ.w.alloc (.stringIter s 0)):=by
  simp [execOp,ho,e1,Instr.range,h1,run_newObj_alloc]
 rw [hrun]
 exact hk _ _ ⟨κ.w.alloc (.stringIter s 0),κ.S⟩ (hi.alloc _ (itr κ.w.heap.size s 0) rfl rfl) (ep hi.fin _) ⟨_,_,.v rfl,.cons .raw (hr.mono (ep hi.fin _)),h _⟩
theorem pl_next {o:Oper} {σ:PEnv} {ρ ρ1:List PRes} {x:Operand} {b pos:Nat} {s:ByteArray} {K:PV→List PRes→Prop} (ho:o.op=.next x true) (hx:bj σ x=.v (.pointer (some ⟨b,0,none⟩))) (hu:PUpd ρ (.raw (itr b s pos)) (.raw (itr b s (pos+(Utf8.decode s pos).2))) ρ1) (h1:pos<s.size→K (.tup [.v (.bool true),.v (.int .i64 (pos:Int)),.v (.int .i32 ((Utf8.decode s pos).1:Int))]) ρ1) (h2:s.size≤pos→K (.tup [.v (.bool false)]) ρ):POpL o σ ρ K:=fun κ σ' ρ' g hs hr β hi Nx hk=>by
 have e1:=hs.v1 hx
 have hr0:=hr
 obtain ⟨r0,l1,l2,rfl,h4,h5⟩:=hr.upd hu
 cases h4 with
 | raw =>
  have hb:κ.w.heap[b]?=some (.stringIter s pos):=hi.own (itr b s pos) (by simp)
  have hg:(getObj b).run Tryz.prog κ.w=.ok (.stringIter s pos) κ.w:=by simp [getObj,Sem.run,hb]
  have hset:∀ ob,(setObj b ob).run Tryz.prog κ.w=.ok () { κ.w with heap:=κ.w.heap.setIfInBounds b ob }:=fun ob=>by simp [setObj,Sem.run,hb]
  rcases Nat.lt_or_ge pos s.size with hlt | hge
  ·have hrun:(execOp (ev σ') o).run Tryz.prog κ.w=.ok (.value (.tuple #[.bool true,goInt pos,.int .i32 ((Utf8.decode s pos).1:Int)])) { κ.w with heap:=κ.w.heap.setIfInBounds b (.stringIter s (pos+(Utf8.decode s pos).2)) }:=by
    simp [execOp,ho,e1,Instr.next,hg,hlt,hset]
   rw [hrun]
   obtain ⟨i1,i2⟩:=hi.turn (r:=itr b s pos) (r':=itr b s (pos+(Utf8.decode s pos).2)) (b:=b) (w':={ κ.w with heap:=κ.w.heap.setIfInBounds b (.stringIter s (pos+(Utf8.decode s pos).2)) }) rfl rfl rfl (fun i hi=>pz hi) (by simp) (pA hb) rfl rfl rfl (Nat.le_refl _)
   exact hk _ _ _ i1 i2 ⟨_,ρ1,.tup (ws:=[_,_,_]) (.cons (.v rfl) (.cons (.v rfl) (.cons (.v rfl) .nil))),h5 _ _ i2 .raw,h1 hlt⟩
  ·have hrun:(execOp (ev σ') o).run Tryz.prog κ.w=.ok (.value (.tuple #[.bool false])) κ.w:=by
    simp [execOp,ho,e1,Instr.next,hg,Nat.not_lt.2 hge]
   rw [hrun]
   exact hk _ _ κ hi (.refl _) ⟨_,ρ,.tup (ws:=[_]) (.cons (.v rfl) .nil),hr0,h2 hge⟩
def iB (s:ByteArray) (pos:Nat):Option (Nat⊕Bool):=cond (Nat.blt pos s.size) (cond (decide (((Utf8.decode s pos).1:Int)<97)||decide (122<((Utf8.decode s pos).1:Int))) (some (.inr false)) (some (.inl (pos+(Utf8.decode s pos).2)))) (some (.inr true))
def iU (p0:ByteArray):Option Bool:=cond (decide ((p0.size:Int)<1)||decide (12<(p0.size:Int))) (some false) (bf (iB p0) FUEL 0)
attribute [local irreducible] PWL PWC PWD POpL POpQ PEv PGuardIs PSub PPick PUpd PSplice PFill PLit PF PFV PCall FOk ff dX jL kS gS jM Cov PHolds bf iB
theorem qg {p0:ByteArray} {r:Bool} (h:iU p0=some r):PF 149 [pS p0] (pB r):=by
 unfold iU at h
 refine br ?_
 refine jq Tryz.func149 rfl Tryz.ntmps149 Tryz.results149 rfl ?_
 (repeat refine af ?_)
 refine ap [] [2] [] bL (by kernel_rfl) ?_
 (repeat (first | apply aH | apply aL))
 (repeat refine af ?_)
 refine ap [] [5,6,7,8,9,10,11] [(12,pB (decide ((p0.size:Int)<1)||decide (12<(p0.size:Int))))] bL (by kernel_rfl) ?_
 (repeat (first | apply aH | apply aL))
 (repeat refine af ?_)
 refine gz rfl (fun hc=>?_) (fun hc=>?_)
 ·replace h:=xf hc h
  (repeat refine af ?_)
  refine ap [] [] [(2,pB false)] bL (by kernel_rfl) ?_
  (repeat (first | apply aH | apply aL))
  (repeat refine af ?_)
  refine bS ?_
  (repeat (first | apply aq | apply aA | apply aV | apply mg))
  obtain rfl:=Option.some.inj h
  exact aO (dh (aP rfl)) bX ⟨rfl,rfl⟩
 replace h:=xg hc h
 refine ai ?_
 (repeat (first | apply aH | apply aL))
 (repeat refine af ?_)
 refine aa ?_
 refine bm 1 [] [] [(13,pS p0)] bL (by kernel_rfl) ?_
 refine Bc rfl rfl rfl (BZ rfl rfl rfl fun b=>?_)
 refine aw ?_
 (repeat (first | apply aH | apply aL))
 (repeat refine af ?_)
 refine az (Y:=Unit) (fun _=>[]) (fun _=>[]) (fun _=>r=true) ?_ ?_
 ·refine aJ ?_
  refine aK (Y:=Unit) (S:=Nat) _ h (fun _ _=>[(14,pP b 0)]) (fun _ pos=>[PRes.raw (itr b p0 pos)]) () (by (repeat (first | exact oj | apply gP rfl))) (by (repeat (first | exact bX | (apply aY;(focus (repeat (first | exact aC | apply ak))))))) ?_
  rintro _ pos o τ hb;dsimp only [aD]
  unfold iB at hb
  (repeat refine af ?_)
  refine aa ?_
  refine Bc rfl rfl rfl (pl_next rfl rfl cY (fun hlt=>?_) (fun hge=>?_))
  ·have hlt':Nat.blt pos p0.size=true:=by simp [Nat.blt];omega
   rw [hlt'] at hb;simp only [cK] at hb
   refine gr [] [] [(16,pB true)] bL (by kernel_rfl) ?_
   (repeat (first | apply aH | apply aL))
   (repeat refine af ?_)
   refine gz (p:=true) rfl (fun _=>?_) (fun hf=>by cases hf)
   refine ai ?_
   (repeat (first | apply aH | apply aL))
   (repeat refine af ?_)
   refine aJ ?_
   (repeat refine af ?_)
   refine ap [] [17] [(4,.v (.int .i32 ((Utf8.decode p0 pos).1:Int)))] bL (by kernel_rfl) ?_
   (repeat (first | apply aH | apply aL))
   (repeat refine af ?_)
   refine ap [] [18,19,20,21,22] [(23,pB (decide (((Utf8.decode p0 pos).1:Int)<97)||decide (122<((Utf8.decode p0 pos).1:Int))))] bL (by kernel_rfl) ?_
   (repeat (first | apply aH | apply aL))
   (repeat refine af ?_)
   refine gz rfl (fun hc2=>?_) (fun hc2=>?_)
   ·replace hb:=xf hc2 hb
    (repeat refine af ?_)
    refine ap [] [] [(2,pB false)] bL (by kernel_rfl) ?_
    (repeat (first | apply aH | apply aL))
    (repeat refine af ?_)
    refine bS ?_
    (repeat (first | apply aq | apply aA | apply aV | apply mg))
    refine aS hb (fun ht=>?_);subst ht
    (repeat (first | apply aq | apply aA | apply aV | apply mg))
    exact aO (dh (aP rfl)) bX ⟨rfl,rfl⟩
   replace hb:=xg hc2 hb
   refine ai ?_
   (repeat apply aH)
   exact bd hb () (by (repeat (first | exact oj | apply gP rfl))) (by (repeat (first | exact bX | (apply aY;(focus (repeat (first | exact aC | apply ak)))))))
  have hge':Nat.blt pos p0.size=false:=by cases e:Nat.blt pos p0.size;rfl;exact absurd (Nat.le_of_ble_eq_true e) (by omega)
  rw [hge'] at hb;simp only [cA] at hb
  refine gr [] [] [(16,pB false)] bL (by kernel_rfl) ?_
  (repeat (first | apply aH | apply aL))
  (repeat refine af ?_)
  refine gz (p:=false) rfl (fun hf=>by cases hf) (fun _=>?_)
  refine aR ?_
  (repeat (first | apply av | apply vu | apply vw | apply mU rfl))
  refine an hb (fun ht=>?_)
  refine ar rfl ?_
  exact aG () oj bX ht.symm
 rintro _ τ hz;subst hz;dsimp only [aD]
 (repeat refine af ?_)
 refine ap [] [] [(2,pB true)] bL (by kernel_rfl) ?_
 (repeat (first | apply aH | apply aL))
 (repeat refine af ?_)
 refine bS ?_
 (repeat (first | apply aq | apply aA | apply aV | apply mg))
 exact aO (dh (aP rfl)) bX ⟨rfl,rfl⟩
end SX
namespace SX
open Go
section
variable {γ:Type} [Inhabited γ]
theorem sw (e:γ→Value) (D:Array γ) (cur:Array Value) (h:D.size≤cur.size):(Sort.putCells e 0 D cur).toList.take D.size=D.toList.map e:=by
 apply List.ext_getElem
 ·simp [Sort.putCells];omega
 intro i h1 h2
 have h3:i<D.size:=by simpa using h2
 simp [Sort.putCells,h3]
theorem wa {e:γ→Value} {w:World} {b:Nat} {D:Array γ} {cur:Array Value} {T:Nat} {fr:Nat×Nat} (h:w.heap[b]?=some (.cells cur T fr)):(Sort.putRow e w b 0 D).heap[b]?=some (.cells (Sort.putCells e 0 D cur) T fr):=by
 simp [Sort.putRow,Sort.mapBlock,Array.getElem?_modify,h,Sort.onCells]
theorem rG {e:γ→Value} {w:World} {b i:Nat} {D:Array γ} (h:i≠b):(Sort.putRow e w b 0 D).heap[i]?=w.heap[i]?:=by
 simp only [Sort.putRow,Sort.mapBlock,Array.getElem?_modify]
 rw [if_neg (fun e=>h e.symm)]
theorem nZ {β:Base} {l:List Res} {κ:Kr} {b n c T sz m:Nat} {css css':List (List Value)} {os:Array Obj} {e:γ→Value} {D:Array γ} (hi:Zo β (Res.row (some ⟨b,0,none⟩) n c T sz css::l) κ) (hF:D.toList.map e=css'.flatten) (hl:css'.length=n) (hw:∀ cs∈css',cs.length=sz) :
    Zo β (Res.row (some ⟨b,0,none⟩) n c T sz css'::l) ⟨Sort.grow (Sort.putRow e (Sort.ahead κ.w m) b 0 D) os,κ.S⟩∧Kle κ ⟨Sort.grow (Sort.putRow e (Sort.ahead κ.w m) b 0 D) os,κ.S⟩:=by
  have ho:=hi.own _ (List.mem_cons_self)
  obtain ⟨h1,h2,h3,h4,h5,cur,h6,h7,h8⟩:=ho
  have hD:D.size=n*sz:=by
    have:=congrArg List.length hF
    rw [List.length_map,d9 hw,hl] at this
    simpa using this
  have hle:D.size≤cur.size:=by rw [hD,h7];exact Nat.mul_le_mul_right _ h4
  have t1:=hi.turn (r':=Res.row (some ⟨b,0,none⟩) n c T sz css') (l1:=[]) (b:=b) (w':=Sort.putRow e (Sort.ahead κ.w m) b 0 D) rfl rfl rfl (fun i hne=>rG hne) (by simp [Sort.putRow,Sort.mapBlock,Sort.ahead])
    ⟨h1,hl,hw,h4,h5,_,wa (w:=Sort.ahead κ.w m) h6,by simpa [Sort.putCells] using h7,by rw [← hD,sw e D cur hle,hF]⟩ rfl rfl rfl (by simp [Sort.putRow,Sort.mapBlock,Sort.ahead])
  have hh:=t1.1.own _ (List.mem_cons_self)
  have hb2:b<(Sort.putRow e (Sort.ahead κ.w m) b 0 D).heap.size:=by
    have:=(t1.1.blk _ (List.mem_cons_self) b rfl).1;exact this
  have hold:∀ i,i<(Sort.putRow e (Sort.ahead κ.w m) b 0 D).heap.size→(Sort.grow (Sort.putRow e (Sort.ahead κ.w m) b 0 D) os).heap[i]?=(Sort.putRow e (Sort.ahead κ.w m) b 0 D).heap[i]?:=fun i h=>by
    simp only [Sort.grow];rw [Array.getElem?_append_left h]
  have hh2:(Res.row (some ⟨b,0,none⟩) n c T sz css').holds (Sort.grow (Sort.putRow e (Sort.ahead κ.w m) b 0 D) os):=by
    have:(Sort.grow (Sort.putRow e (Sort.ahead κ.w m) b 0 D) os).heap[b]?=(Sort.putRow e (Sort.ahead κ.w m) b 0 D).heap[b]?:=hold b hb2
    unfold Res.holds at hh ⊢
    show (Res.row (some ⟨b,0,none⟩) n c T sz css').says (Sort.grow (Sort.putRow e (Sort.ahead κ.w m) b 0 D) os).heap[b]?
    rw [this];exact hh
  obtain ⟨i3,k3⟩:=t1.1.grow (r':=Res.row (some ⟨b,0,none⟩) n c T sz css') (w':=Sort.grow (Sort.putRow e (Sort.ahead κ.w m) b 0 D) os) ⟨rfl,rfl,rfl,by simp [Sort.grow],fun i h _=>hold i h⟩ (.inr (.inl rfl)) hh2 (w5 hh2) (Nat.le_refl _)
  exact ⟨i3,t1.2.trans k3⟩
end
theorem lM {α:Type} {lt:α→α→Bool} (l:List α):(jv lt l).length=l.length:=jk.length_eq
theorem le_grow {κ κ':Kr} (h:Le [] κ κ'):∃ q os',κ'.w=Sort.grow (κ.w.drewN q) os':=by
 refine ⟨κ'.w.drawn - κ.w.drawn,κ'.w.heap.extract κ.w.heap.size κ'.w.heap.size,?_⟩
 have hz:=h.kle.size
 have hd:=h.drawn rfl
 have e1:κ'.w.heap=κ.w.heap++κ'.w.heap.extract κ.w.heap.size κ'.w.heap.size:=by
  apply Array.ext_getElem?
  intro i
  rcases Nat.lt_or_ge i κ.w.heap.size with hi | hi
  ·rw [Array.getElem?_append_left hi];exact h.same i hi (by simp)
  rw [Array.getElem?_append_right hi,Array.getElem?_extract]
  split
  ·congr 1;omega
  rw [Array.getElem?_eq_none (by omega)]
 cases hw:κ'.w with
 | mk heap tape drawn os output =>
  have h2:=h.tape;have h3:=h.os;have h4:=h.output
  rw [hw] at e1 h2 h3 h4 hd
  simp only at e1 h2 h3 h4 hd
  simp only [Sort.grow,World.drewN]
  subst h2 h3 h4
  rw [← e1]
  congr 1;omega
theorem tl {γ:Type} [Inhabited γ] (enc:γ→List Value) (k:Nat) (hk:∀ x,(enc x).length=k):∀ L:List γ,(List.range (L.length*k)).map (fun t=>(enc L[t / k]!)[t % k]!)=(L.map enc).flatten
 | []=>by simp
 | x::xs=>by
  have ih:=tl enc k hk xs
  rcases Nat.eq_zero_or_pos k with h0 | h0
  ·subst h0
   have:∀ M:List γ,(M.map enc).flatten=[]:=fun M=>by
    rw [List.flatten_eq_nil_iff];intro l hl;obtain ⟨y,_,rfl⟩:=List.mem_map.1 hl;exact List.eq_nil_of_length_eq_zero (hk y)
   rw [this];simp
  rw [List.length_cons,Nat.add_mul,Nat.one_mul,Nat.add_comm,List.range_add,List.map_append,List.map_cons,List.flatten_cons,← ih,List.map_map]
  congr 1
  ·apply List.ext_getElem
   ·simp [hk]
   intro i h1 h2
   have hi:i<k:=by simpa using h1
   simp [Nat.div_eq_of_lt hi,Nat.mod_eq_of_lt hi,getElem!_pos,h2]
  apply List.map_congr_left
  intro t _
  simp only [Function.comp,Nat.add_div_left _ h0,Nat.add_mod_left]
  rfl
theorem rH {γ:Type} [Inhabited γ] (enc:γ→List Value) (k:Nat) (hk:∀ x,(enc x).length=k) (d:Array γ):(Sort.flatK enc k d).toList.map id=(d.toList.map enc).flatten:=by
 rw [List.map_id,← tl enc k hk]
 simp only [Sort.flatK,Array.toList_map,Array.toList_range,Array.length_toList]
 apply List.map_congr_left
 intro t _
 congr 2
 simp [getElem!_def]
section
variable {α:Type} {enc:α→List PV} {encV:α→List Value}
theorem wb {κ:Kr} (hinv:∀ x ds,Rps κ (enc x) ds→ds=encV x):∀ {xs:List α} {dss:List (List Value)},Rpss κ (xs.map enc) dss→dss=xs.map encV
 | [],_,h=>h.nil_inv
 | x::xs,_,h=>by
  obtain ⟨d,ds,rfl,h1,h2⟩:=h.cons_inv
  rw [wb hinv h2,hinv _ _ h1];rfl
theorem pG {κ:Kr} (hmk:∀ x,Rps κ (enc x) (encV x)):∀ {xs:List α},Rpss κ (xs.map enc) (xs.map encV)
 | []=>.nil
 | x::xs=>.cons (hmk x) (pG hmk)
theorem callSF [Inhabited α] {f g T k:Nat} {ρs:Shelf.Ren} (L:SlLaysF0.n6 Tryz.prog ρs) (hf:ρs.f 6=f) (fOk:FnOk f) (gOk:FnOk g) (aE:∀ w,(isAgg (ρs.t 24)).run Tryz.prog w=.ok true w) (zE:∀ w,(Go.sizeOf (ρs.t 24)).run Tryz.prog w=.ok k w)
    (hk:∀ x,(encV x).length=k) (h1:∀ x,∀ v∈encV x,v.oneCell'=true) (hinv:∀ κ x ds,Rps κ (enc x) ds→ds=encV x) (hmk:∀ κ x,Rps κ (enc x) (encV x)) (cf:α→α→Int) (hO:Sort.SWO (ltOf cf)) (hT:∀ x y,ltOf cf x y=false→ltOf cf y x=false→x=y)
    (hcmp:∀ x y,PF g [.agg (enc x),.agg (enc y)] (pI (cf x y))) {p0:List α} {a:Option Addr} {n c:Nat}:PCall f [.v (.slice a n c),.fn g []] [PRes.row a n c T k (List.map enc p0)] (fun pv ρ'=>pv=.tup []∧ρ'=[PRes.row a n c T k (List.map enc (jv (ltOf cf) p0))]):=fun κ args ρ gk ha hr=>by
  subst hf
  obtain ⟨v,ws,rfl,ha1,ha2⟩:=ha.cons_inv
  obtain ⟨v2,ws2,rfl,ha3,ha4⟩:=ha2.cons_inv
  rw [ha4.nil_inv,ha1.val]
  have hv2:v2=.func (.func g) #[] #[]:=by
    cases ha3 with
    | fn h=>rw [h.nil_inv]
  subst hv2
  obtain ⟨r0,l',rfl,hr1,hr2⟩:=hr.cons_inv
  have:=hr2.nil_inv;subst this
  refine ⟨fOk,fun hi=>?_⟩
  have hn1:∀ l:List α,∀ cs∈l.map encV,cs.length=k:=fun l cs hcs=>by obtain ⟨q,_,rfl⟩:=List.mem_map.1 hcs;exact hk q
  cases hr1 with
  | row hb ho hc =>
    have hd:=wb (hinv κ) hc;subst hd
    have how:=hi.own _ (List.mem_cons_self)
    cases a with
    | none =>
      obtain ⟨rfl,rfl,h3⟩:=how
      have hp:p0=[]:=List.map_eq_nil_iff.1 h3
      subst hp
      refine (AnyF.slices_SortFunc_none L none 0 _ κ.w).mono fun e w' ⟨h1,h2⟩=>?_
      subst h1 h2
      exact ⟨_,_,κ,rfl,rfl,hi,.tup [],_,.tup .nil,.cons (.row hb ho (by exact .nil)) .nil,rfl,rfl⟩
    | some ad =>
      obtain ⟨q1,h2,h3,h4,h5,cur,h6,h7,h8⟩:=how
      obtain ⟨b,off,sp⟩:=ad
      injection q1 with h1a h1b h1c
      subst h1b h1c
      have hblk:b<κ.w.heap.size:=(hi.blk _ (List.mem_cons_self) b rfl).1
      have hn:n=p0.toArray.size:=by rw [← h2];simp
      have hz:(Sort.flatK encV k p0.toArray).size=n*k:=by rw [Sort.size_flatK,← hn]
      have hft:(Sort.flatK encV k p0.toArray).toList=cur.toList.take (n*k):=by
        rw [h8,← rH encV k hk,List.map_id]
      have hH:Sort.HoldsK encV k κ.w b 0 p0.toArray:=by
        intro j hj
        have hj2:j<n*k:=by rw [← hz];exact hj
        have hj3:(Sort.flatK encV k p0.toArray)[j]?=cur[j]?:=by
          rw [← Array.getElem?_toList,hft,List.getElem?_take,if_pos hj2,Array.getElem?_toList]
        constructor
        · simp only [World.cell?,h6,Option.isSome_none,Bool.false_eq_true,if_false,Nat.zero_add]
          rw [← hj3,Array.getElem?_eq_getElem hj,getElem!_pos _ j hj];rfl
        simp [World.frozen?,h6]
      have hcl:CmpLays Tryz.prog g #[] encV k cf b 0 p0.toArray.size κ.w:=fun m os dk hs x y=>by
        obtain ⟨i1,k1⟩:=nZ (m:=m) (os:=os) (e:=id) (D:=Sort.flatK encV k dk) (css':=dk.toList.map encV) hi (rH encV k hk dk) (by rw [List.length_map,Array.length_toList,hs,hn]) (hn1 _)
        have hc2:=hcmp x y ⟨_,κ.S⟩ [.agg (encV x).toArray,.agg (encV y).toArray] (gk.mono k1) (.cons (.agg (h1 x) (hmk _ x)) (.cons (.agg (h1 y) (hmk _ y)) .nil))
        refine (hc2.2 ⟨Le.refl _ _,i1.fin,by simp,by simp,List.Pairwise.nil⟩).mono fun e w' ⟨v,ρ',κ',g1,g2,g3,g4⟩=>?_
        obtain ⟨q,os',hq⟩:=le_grow g3.le
        subst g1 g2
        exact ⟨by rw [g4.2.val],q,os',hq⟩
      rw [hn]
      refine (AnyQ.slices_SortFunc_total L k aE zE encV hk h1 cf hO g #[] b 0 c p0.toArray κ.w (fun args w=>jT gOk args w) hcl hH hblk (by rw [← hn];unfold maxLen at h5;omega) hT).mono fun e w' ⟨k1,m,os,k2⟩=>?_
      have hso:(p0.toArray.toList.mergeSort fun x y => !(ltOf cf) y x)=jv (ltOf cf) p0:=by
        refine na (lt:=ltOf cf) hT ?_ (jW hO.trans hO.ntrans hO.irrefl p0) ((List.mergeSort_perm _ _).trans jk.symm)
        have h:=List.pairwise_mergeSort (le:=fun x y:α => !(ltOf cf) y x) (fun a b c h1 h2=>by
          simp only [Bool.not_eq_true'] at h1 h2 ⊢;exact hO.ntrans _ _ _ h2 h1) (fun a b=>by
          cases e1:ltOf cf b a
          · simp
          cases e2:ltOf cf a b
          · simp
          have:=hO.trans _ _ _ e1 e2;rw [hO.irrefl] at this;cases this) p0
        exact h.imp fun {a b} hab=>by simpa using hab
      rw [hso] at k2
      subst k1 k2
      obtain ⟨i1,i2⟩:=nZ (m:=m) (os:=os) (e:=id) (css':=(jv (ltOf cf) p0).map encV) (D:=Sort.flatK encV k (jv (ltOf cf) p0).toArray) hi (rH encV k hk _) (by rw [List.length_map,lM];rw [← h2];simp) (hn1 _)
      exact ⟨_,_,⟨_,κ.S⟩,rfl,rfl,i1,.tup [],_,.tup .nil,.cons (.row hb (by intro cs hcs;obtain ⟨q,_,rfl⟩:=List.mem_map.1 hcs;exact h1 q) (pG (hmk _))) .nil,rfl,by rw [← hn]⟩
end
end SX
end Go.Proofs.YthbphcbhedmnoaaGreatDoor
namespace Go.Proofs
open Go.Shelf
def Tryz.lSF_ren:Go.Shelf.Ren:=⟨fun | 6=>83 | 15=>64 | 14=>127 | 28=>101 | 29=>102 | 20=>162 | 21=>163 | 22=>164 | 23=>165 | 24=>166 | 25=>167 | 26=>168 | 27=>169 | 46=>195 | 47=>132 | 48=>133 | 49=>196 | 50=>197 | 57=>214 | n=>n,fun | 22=>58 | 24=>57 | 25=>182 | 3=>3 | 39=>144 | 0=>0 | 53=>203 | 55=>122 | 4=>4 | 46=>197 | 45=>196 | 50=>141 | 5=>5 | 9=>9 | 66=>229 | 70=>233 | 76=>274 | 77=>275 | n=>n,fun | n=>n⟩
theorem Tryz.lSF:Go.Proofs.SlLaysF0.n6 Tryz.prog Tryz.lSF_ren:={
 mixed:=by kernel_rfl
 f6:=⟨Tryz.f83.name,by decide,Tryz.func83.trans (congrArg some (by kernel_rfl))⟩
 f14:=⟨Tryz.f127.name,by decide,Tryz.func127.trans (congrArg some (by kernel_rfl))⟩
 f15:=Tryz.func64.trans (congrArg some (by kernel_rfl))
 f20:=⟨Tryz.f162.name,by decide,Tryz.func162.trans (congrArg some (by kernel_rfl))⟩
 f21:=⟨Tryz.f163.name,by decide,Tryz.func163.trans (congrArg some (by kernel_rfl))⟩
 f22:=⟨Tryz.f164.name,by decide,Tryz.func164.trans (congrArg some (by kernel_rfl))⟩
 f23:=⟨Tryz.f165.name,by decide,Tryz.func165.trans (congrArg some (by kernel_rfl))⟩
 f24:=⟨Tryz.f166.name,by decide,Tryz.func166.trans (congrArg some (by kernel_rfl))⟩
 f25:=⟨Tryz.f167.name,by decide,Tryz.func167.trans (congrArg some (by kernel_rfl))⟩
 f26:=⟨Tryz.f168.name,by decide,Tryz.func168.trans (congrArg some (by kernel_rfl))⟩
 f27:=⟨Tryz.f169.name,by decide,Tryz.func169.trans (congrArg some (by kernel_rfl))⟩
 f28:=Tryz.func101.trans (congrArg some (by kernel_rfl))
 f29:=Tryz.func102.trans (congrArg some (by kernel_rfl))
 f46:=⟨Tryz.f195.name,by decide,Tryz.func195.trans (congrArg some (by kernel_rfl))⟩
 f47:=Tryz.func132.trans (congrArg some (by kernel_rfl))
 f48:=Tryz.func133.trans (congrArg some (by kernel_rfl))
 f49:=⟨Tryz.f196.name,by decide,Tryz.func196.trans (congrArg some (by kernel_rfl))⟩
 f50:=⟨Tryz.f197.name,by decide,Tryz.func197.trans (congrArg some (by kernel_rfl))⟩
 f57:=⟨Tryz.f214.name,by decide,Tryz.func214.trans (congrArg some (by kernel_rfl))⟩
 t0:=Tryz.underlying0
 a0:=Tryz.isAgg0
 z0:=Tryz.sizeOf0
 v0:=Tryz.zeroValue0
 t3:=Tryz.underlying3
 a3:=Tryz.isAgg3
 z3:=Tryz.sizeOf3
 v3:=Tryz.zeroValue3
 t4:=Tryz.underlying4
 a4:=Tryz.isAgg4
 z4:=Tryz.sizeOf4
 v4:=Tryz.zeroValue4
 t5:=Tryz.underlying5
 a5:=Tryz.isAgg5
 z5:=Tryz.sizeOf5
 v5:=Tryz.zeroValue5
 t9:=Tryz.underlying9
 a9:=Tryz.isAgg9
 z9:=Tryz.sizeOf9
 v9:=Tryz.zeroValue9
 t22:=Tryz.underlying58
 a22:=Tryz.isAgg58
 z22:=Tryz.sizeOf58
 v22:=Tryz.zeroValue58
 t25:=Tryz.underlying182
 a25:=Tryz.isAgg182
 z25:=Tryz.sizeOf182
 v25:=Tryz.zeroValue182
 t39:=Tryz.underlying144
 a39:=Tryz.isAgg144
 z39:=Tryz.sizeOf144
 v39:=Tryz.zeroValue144
 t45:=Tryz.underlying196
 a45:=Tryz.isAgg196
 z45:=Tryz.sizeOf196
 v45:=Tryz.zeroValue196
 t46:=Tryz.underlying197
 a46:=Tryz.isAgg197
 z46:=Tryz.sizeOf197
 v46:=Tryz.zeroValue197
 t50:=Tryz.underlying141
 a50:=Tryz.isAgg141
 z50:=Tryz.sizeOf141
 v50:=Tryz.zeroValue141
 t53:=Tryz.underlying203
 a53:=Tryz.isAgg203
 z53:=Tryz.sizeOf203
 v53:=Tryz.zeroValue203
 t55:=Tryz.underlying122
 a55:=Tryz.isAgg122
 z55:=Tryz.sizeOf122
 v55:=Tryz.zeroValue122
 t66:=Tryz.underlying229
 a66:=Tryz.isAgg229
 z66:=Tryz.sizeOf229
 v66:=Tryz.zeroValue229
 t70:=Tryz.underlying233
 a70:=Tryz.isAgg233
 z70:=Tryz.sizeOf233
 v70:=Tryz.zeroValue233
 t76:=Tryz.underlying274
 a76:=Tryz.isAgg274
 z76:=Tryz.sizeOf274
 v76:=Tryz.zeroValue274
 t77:=Tryz.underlying275
 a77:=Tryz.isAgg275
 z77:=Tryz.sizeOf275
 v77:=Tryz.zeroValue275 }
end Go.Proofs
namespace Go.Proofs.YthbphcbhedmnoaaGreatDoor
namespace SX
open Go
theorem cmpI (a b:Int):eE a b=some (if a<b then -1 else if b<a then 1 else 0):=by
 unfold eE gY
 simp only [bne_self_eq_false,bQ,cA]
 by_cases h:a<b
 ·rw [det h,if_pos h];rfl
 rw [cC h,if_neg h]
 by_cases h2:b<a
 ·rw [det h2,if_pos h2];rfl
 rw [cC h2,if_neg h2];rfl
theorem cmpOr2 (a b:Int):kv [a,b]=some (if a=0 then b else a):=by
 unfold kv
 refine (cR (l:=[a,b]) (by simp) (fun _ x=>cond (x != 0) (some (.inr x)) none) (.inl ()) (fun k hk=>?_) (by rw [fY];rfl)).trans ?_
 ·rw [ml hk,cK,uX (bp hk),dr hk (by simp)]
  cases ([a,b][k] != 0) <;> rfl
 rw [nS (fun x:Int=>x != 0) (fun x=>(Sum.inr x:Unit⊕Int))]
 by_cases ha:a=0
 ·subst ha
  by_cases hb:b=0
  ·subst hb;rfl
  simp [hb]
 simp [ha]
def fc (x y:Za):Bool:=decide (x.Product<y.Product)||(decide (x.Product=y.Product)&&decide (x.Agreement<y.Agreement))
def oG (x y:Za):Int:=if (if x.Product<y.Product then (-1:Int) else if y.Product<x.Product then 1 else 0)=0 then (if x.Agreement<y.Agreement then -1 else if y.Agreement<x.Agreement then 1 else 0) else (if x.Product<y.Product then -1 else if y.Product<x.Product then 1 else 0)
theorem n4:ltOf oG=fc:=by
 funext x y
 unfold ltOf oG fc
 rcases Int.lt_trichotomy x.Product y.Product with h | h | h
 ·rw [if_pos h];simp [h]
 ·simp only [h,Int.lt_irrefl,if_false,if_true,decide_false,decide_true,Bool.false_or,Bool.true_and]
  rcases Int.lt_trichotomy x.Agreement y.Agreement with h2 | h2 | h2
  ·rw [if_pos h2];simp [h2]
  ·simp [h2]
  rw [if_neg (by omega),if_pos h2];simp;omega
 have h1:¬ x.Product<y.Product:=by omega
 have h3:¬ x.Product=y.Product:=by omega
 simp [h,h1,h3]
theorem zW (x y:Za):dZ x y=some (oG x y):=by
 unfold dZ oG
 rw [cmpI,cmpI]
 simp only [bQ,cmpOr2]
theorem pH (x y:Za):fc x y=true↔x.Product<y.Product∨(x.Product=y.Product∧x.Agreement<y.Agreement):=by simp [fc]
theorem nk (x y:Za):fc x y=false↔¬ (x.Product<y.Product∨(x.Product=y.Product∧x.Agreement<y.Agreement)):=by rw [← pH];simp
theorem wc (x:Za):fc x x=false:=by rw [nk];omega
theorem xC (x y z:Za):fc x y=true→fc y z=true→fc x z=true:=by simp only [pH];omega
theorem wd (x y z:Za):fc x y=false→fc y z=false→fc x z=false:=by simp only [nk];omega
theorem we (x y:Za):fc x y=false→fc y x=false→x=y:=by
 simp only [nk];intro h1 h2
 cases x;cases y;simp at h1 h2 ⊢;omega
def bi (l:List Za):Option (List Za):=some (jv fc l)
theorem cx {p0 r:List Za} (h:bi p0=some r) {a:Option Addr} {n c:Nat}:PCall 83 [.v (.slice a n c),.fn 84 []] [PRes.row a n c 57 2 (List.map Za.enc p0)] (fun pv ρ'=>pv=.tup []∧ρ'=[PRes.row a n c 57 2 (List.map Za.enc r)]):=by
 obtain rfl:=Option.some.inj h
 rw [← n4]
 exact callSF Tryz.lSF rfl (CH Tryz.func83 rfl) (CH Tryz.func84 rfl) Tryz.isAgg57 Tryz.sizeOf57 (encV:=fun x=>[.int .i64 x.Product,.int .i64 x.Agreement]) (fun _=>rfl)
  (fun x v hv=>by simp at hv;rcases hv with rfl | rfl <;> rfl) (fun κ x ds h=>by
   obtain ⟨v,ws,rfl,h1,h2⟩:=h.cons_inv
   obtain ⟨v2,ws2,rfl,h3,h4⟩:=h2.cons_inv
   rw [h1.val,h3.val,h4.nil_inv]) (fun κ x=>.cons (.v rfl) (.cons (.v rfl) .nil)) oG
  (by rw [n4];exact ⟨wc,xC,wd⟩) (by rw [n4];exact we) (fun x y=>j0 (zW x y))
end SX
end Go.Proofs.YthbphcbhedmnoaaGreatDoor
namespace Go.Proofs
open Go.Shelf
def Tryz.lSs_ren:Go.Shelf.Ren:=⟨fun | 190=>160 | 125=>64 | 258=>194 | 128=>101 | 129=>102 | 302=>205 | 303=>206 | 304=>207 | 305=>208 | 306=>209 | 307=>210 | 308=>211 | 309=>212 | 310=>213 | 333=>226 | 329=>132 | 330=>133 | 334=>227 | 335=>228 | 336=>229 | 344=>237 | n=>n,fun | 31=>49 | 9=>9 | 3=>3 | 46=>144 | 0=>0 | 51=>203 | 53=>122 | 4=>4 | 183=>197 | 182=>196 | 131=>141 | 5=>5 | 218=>229 | 222=>233 | 228=>274 | 229=>275 | n=>n,fun | n=>n⟩
theorem Tryz.lSs:Go.Proofs.Lays.n190 Tryz.prog Tryz.lSs_ren:={
 mixed:=by kernel_rfl
 f125:=Tryz.func64.trans (congrArg some (by kernel_rfl))
 f128:=Tryz.func101.trans (congrArg some (by kernel_rfl))
 f129:=Tryz.func102.trans (congrArg some (by kernel_rfl))
 f190:=Tryz.func160.trans (congrArg some (by kernel_rfl))
 f258:=Tryz.func194.trans (congrArg some (by kernel_rfl))
 f302:=Tryz.func205.trans (congrArg some (by kernel_rfl))
 f303:=Tryz.func206.trans (congrArg some (by kernel_rfl))
 f304:=Tryz.func207.trans (congrArg some (by kernel_rfl))
 f305:=Tryz.func208.trans (congrArg some (by kernel_rfl))
 f306:=Tryz.func209.trans (congrArg some (by kernel_rfl))
 f307:=Tryz.func210.trans (congrArg some (by kernel_rfl))
 f308:=Tryz.func211.trans (congrArg some (by kernel_rfl))
 f309:=Tryz.func212.trans (congrArg some (by kernel_rfl))
 f310:=Tryz.func213.trans (congrArg some (by kernel_rfl))
 f329:=Tryz.func132.trans (congrArg some (by kernel_rfl))
 f330:=Tryz.func133.trans (congrArg some (by kernel_rfl))
 f333:=Tryz.func226.trans (congrArg some (by kernel_rfl))
 f334:=Tryz.func227.trans (congrArg some (by kernel_rfl))
 f335:=Tryz.func228.trans (congrArg some (by kernel_rfl))
 f336:=Tryz.func229.trans (congrArg some (by kernel_rfl))
 f344:=Tryz.func237.trans (congrArg some (by kernel_rfl))
 t0:=Tryz.underlying0
 a0:=Tryz.isAgg0
 z0:=Tryz.sizeOf0
 v0:=Tryz.zeroValue0
 t3:=Tryz.underlying3
 a3:=Tryz.isAgg3
 z3:=Tryz.sizeOf3
 v3:=Tryz.zeroValue3
 t4:=Tryz.underlying4
 a4:=Tryz.isAgg4
 z4:=Tryz.sizeOf4
 v4:=Tryz.zeroValue4
 t5:=Tryz.underlying5
 a5:=Tryz.isAgg5
 z5:=Tryz.sizeOf5
 v5:=Tryz.zeroValue5
 t9:=Tryz.underlying9
 a9:=Tryz.isAgg9
 z9:=Tryz.sizeOf9
 v9:=Tryz.zeroValue9
 t31:=Tryz.underlying49
 a31:=Tryz.isAgg49
 z31:=Tryz.sizeOf49
 v31:=Tryz.zeroValue49
 t46:=Tryz.underlying144
 a46:=Tryz.isAgg144
 z46:=Tryz.sizeOf144
 v46:=Tryz.zeroValue144
 t51:=Tryz.underlying203
 a51:=Tryz.isAgg203
 z51:=Tryz.sizeOf203
 v51:=Tryz.zeroValue203
 t53:=Tryz.underlying122
 a53:=Tryz.isAgg122
 z53:=Tryz.sizeOf122
 v53:=Tryz.zeroValue122
 t131:=Tryz.underlying141
 a131:=Tryz.isAgg141
 z131:=Tryz.sizeOf141
 v131:=Tryz.zeroValue141
 t182:=Tryz.underlying196
 a182:=Tryz.isAgg196
 z182:=Tryz.sizeOf196
 v182:=Tryz.zeroValue196
 t183:=Tryz.underlying197
 a183:=Tryz.isAgg197
 z183:=Tryz.sizeOf197
 v183:=Tryz.zeroValue197
 t218:=Tryz.underlying229
 a218:=Tryz.isAgg229
 z218:=Tryz.sizeOf229
 v218:=Tryz.zeroValue229
 t222:=Tryz.underlying233
 a222:=Tryz.isAgg233
 z222:=Tryz.sizeOf233
 v222:=Tryz.zeroValue233
 t228:=Tryz.underlying274
 a228:=Tryz.isAgg274
 z228:=Tryz.sizeOf274
 v228:=Tryz.zeroValue274
 t229:=Tryz.underlying275
 a229:=Tryz.isAgg275
 z229:=Tryz.sizeOf275
 v229:=Tryz.zeroValue275 }
end Go.Proofs
namespace Go.Proofs.YthbphcbhedmnoaaGreatDoor
namespace SX
open Go
def kQ (a b:ByteArray):Bool:=Op.bytesLess a.toList b.toList
theorem nl (a b:ByteArray):kQ a b=decide (a.data.toList<b.data.toList):=by
 unfold kQ;rw [bytesLess_eq,ByteArray.toList_eq,ByteArray.toList_eq]
theorem yI {κ:Kr}:∀ {xs:List ByteArray} {dss:List (List Value)},Rpss κ (xs.map eS) dss→dss=xs.map fun s=>[.string s]
 | [],_,h=>h.nil_inv
 | x::xs,_,h=>by
  obtain ⟨d,ds,rfl,h1,h2⟩:=h.cons_inv
  obtain ⟨v,vs,rfl,h3,h4⟩:=h1.cons_inv
  rw [yI h2,h4.nil_inv,h3.val];rfl
theorem rI {κ:Kr}:∀ {xs:List ByteArray} {dss:List (List Value)},Rpss κ (xs.map eS) dss→∀ x∈xs,t7 (.string x)=true
 | [],_,_=>by simp
 | x::xs,_,h=>by
  obtain ⟨d,ds,rfl,h1,h2⟩:=h.cons_inv
  obtain ⟨v,vs,rfl,h3,h4⟩:=h1.cons_inv
  intro y hy
  rcases List.mem_cons.1 hy with rfl | hy
  ·cases h3 with | v hq=>exact hq
  exact rI h2 y hy
theorem rJ {κ:Kr}:∀ {xs:List ByteArray},(∀ x∈xs,t7 (.string x)=true)→Rpss κ (xs.map eS) (xs.map fun s=>[.string s])
 | [],_=>.nil
 | x::xs,h=>.cons (.cons (.v (h x (by simp))) .nil) (rJ fun y hy=>h y (by simp [hy]))
theorem B0 (l:List ByteArray):(l.map fun s=>[Value.string s]).flatten=l.map Value.string:=by
 induction l with
 | nil=>rfl
 | cons x xs ih=>simp [ih]
def gO (l:List ByteArray):Option (List ByteArray):=some (jv kQ l)
theorem xD (l:List ByteArray):(l.map fun s=>s.data.toList).mergeSort (fun x y=>decide (x≤y))=(jv kQ l).map fun s=>s.data.toList:=by
 have key:∀ x y:List UInt8,decide (x≤y) = !decide (y<x):=fun x y=>by
  rw [← decide_not];exact decide_eq_decide.2 (by rw [List.not_lt])
 refine na (lt:=fun x y=>decide (x<y)) (fun x y h1 h2=>?_) ?_ ?_ ?_
 ·have h1:=of_decide_eq_false h1;have h2:=of_decide_eq_false h2
  exact List.le_antisymm (List.not_lt.1 h2) (List.not_lt.1 h1)
 ·have h:=List.pairwise_mergeSort (le:=fun x y:List UInt8=>decide (x≤y)) (fun a b c h1 h2=>det (List.le_trans (of_decide_eq_true h1) (of_decide_eq_true h2))) (fun a b=>by
   rcases List.le_total a b with h | h
   ·simp [h]
   simp [h]) (l.map fun s=>s.data.toList)
  exact h.imp fun {a b} hab=>by rw [key] at hab;simpa using hab
 ·rw [List.pairwise_map]
  have h:=jW (lt:=kQ) (fun x y z h1 h2=>by
   rw [nl] at *;exact det (List.lt_trans (of_decide_eq_true h1) (of_decide_eq_true h2))) (fun x y z h1 h2=>by
   rw [nl] at *;exact cC (List.not_lt.2 (List.le_trans (List.not_lt.1 (of_decide_eq_false h2)) (List.not_lt.1 (of_decide_eq_false h1))))) (fun x=>by rw [nl];exact cC (List.lt_irrefl _)) l
  exact h.imp fun {a b} hab=>by rw [← nl];exact hab
 exact (List.mergeSort_perm _ _).trans (jk.symm.map _)
theorem jJ {p0 r:List ByteArray} (h:gO p0=some r) {a:Option Addr} {n c:Nat}:PCall 160 [.v (.slice a n c)] [PRes.row a n c 9 1 (List.map eS p0)] (fun pv ρ'=>pv=.tup []∧ρ'=[PRes.row a n c 9 1 (List.map eS r)]):=fun κ args ρ g ha hr=>by
 obtain rfl:=Option.some.inj h
 obtain ⟨v,ws,rfl,ha1,ha2⟩:=ha.cons_inv
 rw [ha2.nil_inv,ha1.val]
 obtain ⟨r0,l',rfl,hr1,hr2⟩:=hr.cons_inv
 have:=hr2.nil_inv;subst this
 refine ⟨(CH Tryz.func160 rfl),fun hi=>?_⟩
 cases hr1 with
 | row hb ho hc =>
  have hok:=rI hc
  have hd:=yI hc;subst hd
  have how:=hi.own _ (List.mem_cons_self)
  cases a with
  | none =>
   obtain ⟨rfl,rfl,h3⟩:=how
   have hp:p0=[]:=List.map_eq_nil_iff.1 h3
   subst hp
   refine (Any.slices_Sort_string_none Tryz.lSs none 0 κ.w).mono fun e w' ⟨h1,h2⟩=>?_
   subst h1 h2
   exact ⟨_,_,κ,rfl,rfl,hi,.tup [],_,.tup .nil,.cons (.row hb ho (by exact .nil)) .nil,rfl,rfl⟩
  | some ad =>
   have how2:=how
   obtain ⟨h1,h2,h3,h4,h5,cur,h6,h7,h8⟩:=how
   obtain ⟨b,off,sp⟩:=ad
   injection h1 with h1a h1b h1c
   subst h1b h1c
   have hblk:b<κ.w.heap.size:=(hi.blk _ (List.mem_cons_self) b rfl).1
   have hn:n=(p0.map fun s=>s.data.toList).length:=by rw [← h2];simp
   have hH:Sort.Holds encStr κ.w b 0 (p0.map fun s=>s.data.toList).toArray:=by
    intro j hj
    have hj2:j<p0.length:=by simpa using hj
    rw [B0,Nat.mul_one] at h8
    have hj3:cur.toList[j]?=some (Value.string p0[j]):=by
     have e:=congrArg (fun l=>l[j]?) h8
     simp only [List.getElem?_take,List.getElem?_map] at e
     rw [if_pos (by rw [← h2];simpa using hj2),List.getElem?_eq_getElem hj2] at e
     exact e
    have hj4:cur[j]?=some (Value.string p0[j]):=by rw [← Array.getElem?_toList];exact hj3
    constructor
    ·simp only [World.cell?,h6,Option.isSome_none,Bool.false_eq_true,if_false,Nat.zero_add]
     rw [hj4]
     congr 1
     simp [getElem!_pos,hj2]
    simp [World.frozen?,h6]
   rw [hn]
   refine (Any.slices_Sort_string Tryz.lSs b 0 c _ κ.w hH hblk (by rw [← hn];unfold maxLen at h5;omega)).mono fun e w' ⟨k1,m,os,k2⟩=>?_
   subst k1 k2
   obtain ⟨i1,i2⟩:=nZ (m:=m) (os:=os) (e:=encStr) (css':=(jv kQ p0).map fun s=>[Value.string s]) (D:=((p0.map fun s=>s.data.toList).mergeSort fun x y=>decide (x≤y)).toArray) hi (by
    rw [xD]
    generalize jv kQ p0=q
    induction q with
    | nil=>rfl
    | cons x xs ih=>simp at ih ⊢;exact ih) (by rw [List.length_map,lM];rw [← h2];simp) (by simp)
   exact ⟨_,_,⟨_,κ.S⟩,rfl,rfl,i1,.tup [],_,.tup .nil,.cons (.row hb (by intro cs hcs;obtain ⟨q,_,rfl⟩:=List.mem_map.1 hcs;intro u hu;rw [List.mem_singleton.1 hu];rfl) (rJ fun y hy=>hok y (jk.mem_iff.1 hy))) .nil,rfl,by rw [← hn]⟩
end SX
end Go.Proofs.YthbphcbhedmnoaaGreatDoor
