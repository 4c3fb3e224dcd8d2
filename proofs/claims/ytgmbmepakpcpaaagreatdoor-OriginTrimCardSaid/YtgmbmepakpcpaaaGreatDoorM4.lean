/- A part of the proof: texts of the walk and of the plain laws, merged. No condition. -/
import Derived.Test.YtgmbmepakpcpaaaGreatDoorM3
set_option linter.unusedVariables false
set_option linter.unusedSimpArgs false
set_option maxHeartbeats 4000000
set_option maxRecDepth 100000
namespace Go.Proofs.YtgmbmepakpcpaaaGreatDoor
namespace SX
open Go
attribute [local irreducible] PWL PWC PWD POpL POpQ PEv PGuardIs PSub PPick PUpd PSplice PFill PLit PF PFV PCall FOk eQ eE lW nU je mO Cov PHolds aV idx app mk gd lb nz lw Ek sub ki dw ow wx fB cC pu wz IntKind.wrap Int.tmod Int.tdiv Op.bytesLess strOfNums
def fx (p0:Zt) (p1:Zn):Option ((List Int)×Bool):=(rule_holds p0.rule p1).bind fun x3=>some ([],x3)
theorem oU {p0:Zt} {p1:Zn} {r:((List Int)×Bool)}  (h:fx p0 p1=some r):PF 249 [.agg (aC p0.rule),.agg (bC p1)] (.tup [pL eI r.1,pB r.2]):=by
 unfold fx at h
 refine bd ?_
 refine dp Tryz.func249 rfl Tryz.ntmps249 Tryz.results249 rfl (cU rfl (bg (cs:=(aC p0.rule)) rfl rfl (fun b1=>al rfl (bg (cs:=(bC p1)) rfl rfl (fun b2=>bc [4,5] (by kernel_rfl) (cN h fun x3 hx3 h=>aq [1,0] [6,7,8,9] [(4,pN),(5,pB x3)] (bi 3 (wK hx3) bh) (by kernel_rfl) (aL (fz 4 rfl (bq ?_)))))))))
 obtain rfl:=osi h
 exact aP (cD (aO rfl) (aO rfl)) bz ⟨rfl,rfl⟩
def Irule_test_witness_B (rec:Zh→Zn→Option ((List Int)×Bool)) (x:Zh) (y0:Zn):Option ((List Int)×Bool):=match x with | .single_ a=>fx a y0 | .every_ a=>e8 rec a y0 | .some_ a=>fw rec a y0
theorem Irule_test_witness_B_ok {rec:Zh→Zn→Option ((List Int)×Bool)} (hrec:∀ {x:Zh} {y0:Zn} {w:((List Int)×Bool)},rec x y0=some w→PFI x.pv "customs/rule.witness" [.agg (bC y0)] (.tup [pL eI w.1,pB w.2])) {x:Zh} {y0:Zn} {w:((List Int)×Bool)} (h:Irule_test_witness_B rec x y0=some w):PFI x.pv "customs/rule.witness" [.agg (bC y0)] (.tup [pL eI w.1,pB w.2]):=by
 cases x with
 | single_ a=>rw [Zh.pv_single_];exact u9 ⟨fun _ _=>by kernel_rfl⟩ (oU h)
 | every_ a=>rw [Zh.pv_every_];exact u9 ⟨fun _ _=>by kernel_rfl⟩ (od hrec h)
 | some_ a=>rw [Zh.pv_some_];exact u9 ⟨fun _ _=>by kernel_rfl⟩ (oT hrec h)
def Irule_test_witness_F (n:Nat):Zh→Zn→Option ((List Int)×Bool):=Nat.rec (motive:=fun _=>Zh→Zn→Option ((List Int)×Bool)) (fun _ _=>none) (fun _ ih=>Irule_test_witness_B ih) n
def Irule_test_witness (x:Zh) (y0:Zn):Option ((List Int)×Bool):=Irule_test_witness_F FUEL x y0
theorem Irule_test_witness_Fok (n:Nat):∀ {x:Zh} {y0:Zn} {w:((List Int)×Bool)},Irule_test_witness_F n x y0=some w→PFI x.pv "customs/rule.witness" [.agg (bC y0)] (.tup [pL eI w.1,pB w.2]):=by
 induction n with
 | zero=>intros;rename_i h;exact nomatch h
 | succ n ih=>intros;rename_i h;exact Irule_test_witness_B_ok (fun hr=>ih hr) h
theorem Irule_test_witness_ok {x:Zh} {y0:Zn} {w:((List Int)×Bool)} (h:Irule_test_witness x y0=some w):PFI x.pv "customs/rule.witness" [.agg (bC y0)] (.tup [pL eI w.1,pB w.2]):=Irule_test_witness_Fok FUEL h
def bu (p0:(List Zc)) (p1:(Zc→Option Bool)):Option Int:=(aV (S:=Int) (T:=(Unit)⊕(_)) (fun v1=>cond (decide (v1<(p0.length:Int))) ((idx p0 v1).bind fun m5=>(p1 m5).bind fun x6=>cond x6 (some (.inr (.inr v1))) (some (.inl (IntKind.i64.wrap (v1+1))))) (some (.inr (.inl ())))) FUEL 0).bind fun q=>match q with | .inl _=>some (-1) | .inr e=>some e
theorem fK {p0:(List Zc)} {p1:(Zc→Option Bool)} {r:Int} {g1:PV} (hg1:∀ {y0:Zc} {w:Bool},p1 y0=some w→PFV g1 [.agg (dg y0)] (pB w)) (h:bu p0 p1=some r):PF 128 [pL Zc.enc p0,g1] (pI r):=by
 unfold bu at h
 refine bd ?_
 refine dp Tryz.func128 rfl Tryz.ntmps128 Tryz.results128 rfl (aU [4] (by kernel_rfl) (co (ai [6] [(7,pI (p0.length:Int)),(8,pI 0)] (by kernel_rfl) (fa h fun q3 hq3 h=>?_))))
 refine am (Y:=Unit×Unit) (fun (_,_)=>[]) (fun (_,_)=>[]) (fun (_,_)=>q3=Sum.inl ()) ?_ ?_
 ·refine aw ?_
  refine aB (Y:=Unit) (S:=Int) _ hq3 (fun _ v1=>[(0,pL Zc.enc p0),(1,g1),(7,pI (p0.length:Int)),(8,pI v1)]) (fun _ v1=>[]) () (iq rfl) bz ?_
  rintro _ v1 o τ hb2;(try dsimp only at hb2);dsimp only [au]
  refine ae (aj [(9,pB (decide (v1<(p0.length:Int))))] (by kernel_rfl) (ca (jG rfl hb2 (fun hc4 hb2=>?_) fun hc4 hb2=>?_)))
  ·refine ah ?_
   refine dq (ai [10] [(5,pI v1)] (by kernel_rfl) (cN hb2 fun m5 hm5 hb2=>aa hb2 fun x6 hx6 hb2=>aq [] (rg 11 5) [(16,pB x6)] (cr 3 Zc.enc hm5 (Bv 5 (hg1 hx6) bh)) (by kernel_rfl) (cR rfl hb2 (fun hc7 hb2=>?_) fun hc7 hb2=>?_)))
   ·refine ae ?_
    refine ai [17] [(4,pI v1)] (by kernel_rfl) (dm (dM ?_))
    refine az hb2 (fun ht=>?_);subst ht
    refine cS ?_
    exact zz r h rfl
   refine ah ?_
   refine dx (ai [18] [(8,pI (IntKind.i64.wrap (v1+1)))] (by kernel_rfl) ?_)
   exact aR hb2 () (iq rfl) bz
  refine aH ?_
  refine cd hb2 (fun ht=>ak rfl ?_)
  exact av ((),()) nC bz ht.symm
 rintro ⟨_,_⟩ τ hz;(try dsimp only at hz);subst q3;(try dsimp only at h);dsimp only [au]
 refine ae (cZ [(4,pI (-1))] (by kernel_rfl) ?_)
 exact zz r h rfl
def bN (p0:(List Zc)) (p1:(Zc→Option Bool)):Option Bool:=(bu p0 p1).bind fun x1=>some (decide (0≤x1))
theorem fm {p0:(List Zc)} {p1:(Zc→Option Bool)} {r:Bool} {g1:PV} (hg1:∀ {y0:Zc} {w:Bool},p1 y0=some w→PFV g1 [.agg (dg y0)] (pB w)) (h:bN p0 p1=some r):PF 85 [pL Zc.enc p0,g1] (pB r):=by
 unfold bN at h
 refine bd ?_
 refine dp Tryz.func85 rfl Tryz.ntmps85 Tryz.results85 rfl (aU [4] (by kernel_rfl) (cN h fun x1 hx1 h=>aq [] [5,6,7,8] [(4,pB (decide (0≤x1)))] (bi 2 (fK hg1 hx1) bh) (by kernel_rfl) (dm ?_)))
 exact zz r h rfl
def kv (p0:Zc) (p1:Za):Option Bool:=some (Za.eqb p0.Claim p1)
theorem t6 {p0:Zc} {p1:Za} {r:Bool}  (h:kv p0 p1=some r):PF 86 [.agg (dg p0),.ref [pI p1.Product,pI p1.Agreement] 0] (pB r):=by
 unfold kv at h
 refine bd ?_
 refine dp Tryz.func86 rfl Tryz.ntmps86 Tryz.results86 rfl (cU rfl (bg (cs:=(dg p0)) rfl rfl (fun b1=>bc [3] (by kernel_rfl) (ca (aq [0] [4,5,6,7] [(3,pB (Za.eqb p0.Claim p1))] (yC 3 Za.eqok28 bh) (by kernel_rfl) (dm ?_))))))
 exact zz r h rfl
def iV (p0:(List Zc)) (p1:Za):Option Bool:=(bN p0 (fun y2=>kv y2 p1)).bind fun x3=>some x3
theorem ls {p0:(List Zc)} {p1:Za} {r:Bool}  (h:iV p0 p1=some r):PF 37 [pL Zc.enc p0,.agg [pI p1.Product,pI p1.Agreement]] (pB r):=by
 unfold iV at h
 refine bd ?_
 refine dp Tryz.func37 rfl Tryz.ntmps37 Tryz.results37 rfl (cU rfl (bg (cs:=[pI p1.Product,pI p1.Agreement]) rfl rfl (fun b1=>bc [4] (by kernel_rfl) (ca (af (aF 1 [(5,pL Zc.enc p0)] (by kernel_rfl) ?_))))))
 refine oK 3 rfl (by exact aJ) ?_
 refine aa h fun x3 hx3 h=>gI [] [6,7] [(4,pB x3)] (bi 1 (fm (fun hr=>qY (t6 hr)) hx3) bh) (by kernel_rfl) (dm ?_)
 exact zz r h rfl
def nf (p0:(List Int)) (p1:(List Int)):Option Bool:=cond ((p0.length:Int) != (p1.length:Int)) (some false) ((aV (S:=Int) (T:=(Unit)⊕(_)) (fun v2=>cond (decide (v2<(p0.length:Int))) ((idx p0 v2).bind fun m6=>(idx p1 v2).bind fun m7=>cond (m6 != m7) (some (.inr (.inr false))) (some (.inl (IntKind.i64.wrap (v2+1))))) (some (.inr (.inl ())))) FUEL 0).bind fun q=>match q with | .inl _=>some true | .inr e=>some e)
theorem wL {p0:(List Int)} {p1:(List Int)} {r:Bool}  (h:nf p0 p1=some r):PF 80 [pL eI p0,pL eI p1] (pB r):=by
 unfold nf at h
 refine bd ?_
 refine dp Tryz.func80 rfl Tryz.ntmps80 Tryz.results80 rfl (aU [4] (by kernel_rfl) (co (bF [6,7,8,9] [(10,pB ((p0.length:Int) != (p1.length:Int)))] (by kernel_rfl) rfl h (fun hc1 h=>?_) fun hc1 h=>?_)))
 ·refine ae ?_
  refine cZ [(4,pB false)] (by kernel_rfl) (ap ?_)
  exact zz r h rfl
 refine ah ?_
 refine co (aj [(5,pI 0)] (by kernel_rfl) (fa h fun q4 hq4 h=>?_))
 refine am (Y:=Unit×Unit) (fun (_,_)=>[]) (fun (_,_)=>[]) (fun (_,_)=>q4=Sum.inl ()) ?_ ?_
 ·refine aw ?_
  refine aB (Y:=Unit) (S:=Int) _ hq4 (fun _ v2=>[(0,pL eI p0),(1,pL eI p1),(5,pI v2)]) (fun _ v2=>[]) () (lM rfl) bz ?_
  rintro _ v2 o τ hb3;(try dsimp only at hb3);dsimp only [au]
  refine cT (bF [11,12,13] [(14,pB (decide (v2<(p0.length:Int))))] (by kernel_rfl) rfl hb3 (fun hc5 hb3=>?_) fun hc5 hb3=>?_)
  ·refine ah ?_
   refine dq (bj (ρd:=[]) [(0,0),(1,0),(2,0),(3,0),(4,0),(5,0),(6,0),(7,0),(8,0)] _ (List.Perm.refl _) (by kernel_rfl) rfl (aa hb3 fun m6 hm6 hb3=>aa hb3 fun m7 hm7 hb3=>bv 9 [] (rg 17 8) [(25,pB (m6 != m7))] (cr 2 eI hm6 (cr 6 eI hm7 bh)) (by kernel_rfl) (bB (cR rfl hb3 (fun hc8 hb3=>?_) fun hc8 hb3=>?_))))
   ·refine ae ?_
    refine cZ [(4,pB false)] (by kernel_rfl) (dM ?_)
    refine az hb3 (fun ht=>?_);subst ht
    refine cS ?_
    exact zz r h rfl
   refine ah ?_
   refine dx (ai [15,16] [(5,pI (IntKind.i64.wrap (v2+1)))] (by kernel_rfl) ?_)
   exact aR hb3 () (lM rfl) bz
  refine aH ?_
  refine cd hb3 (fun ht=>ak rfl ?_)
  exact av ((),()) nC bz ht.symm
 rintro ⟨_,_⟩ τ hz;(try dsimp only at hz);subst q4;(try dsimp only at h);dsimp only [au]
 refine ae (cZ [(4,pB true)] (by kernel_rfl) ?_)
 exact zz r h rfl
def lf (p0:(List Zc)) (p1:(List Zc)):Option Bool:=cond ((p0.length:Int) != (p1.length:Int)) (some false) ((aV (S:=Int) (T:=(Unit)⊕(_)) (fun v2=>cond (decide (v2<(p0.length:Int))) ((idx p0 v2).bind fun m6=>(idx p1 v2).bind fun m7=>(gd (!(!(Za.eqb m6.Claim m7.Claim))) (idx p0 v2)).bind fun m8=>(gd (!(!(Za.eqb m6.Claim m7.Claim))) (idx p1 v2)).bind fun m9=>(gd (!(!(Za.eqb m6.Claim m7.Claim))) (nf m8.Path m9.Path)).bind fun x10=>(gd (!((!(Za.eqb m6.Claim m7.Claim))||(!x10))) (idx p0 v2)).bind fun m11=>(gd (!((!(Za.eqb m6.Claim m7.Claim))||(!x10))) (idx p1 v2)).bind fun m12=>(gd (!((!(Za.eqb m6.Claim m7.Claim))||(!x10))) (gY m11.Premises m12.Premises)).bind fun x13=>cond (((!(Za.eqb m6.Claim m7.Claim))||(!x10))||(!x13)) (some (.inr (.inr false))) (some (.inl (IntKind.i64.wrap (v2+1))))) (some (.inr (.inl ())))) FUEL 0).bind fun q=>match q with | .inl _=>some true | .inr e=>some e)
theorem wM {p0:(List Zc)} {p1:(List Zc)} {r:Bool}  (h:lf p0 p1=some r):PF 31 [pL Zc.enc p0,pL Zc.enc p1] (pB r):=by
 unfold lf at h
 refine bd ?_
 refine dp Tryz.func31 rfl Tryz.ntmps31 Tryz.results31 rfl (aU [4] (by kernel_rfl) (co (bF [6,7,8,9] [(10,pB ((p0.length:Int) != (p1.length:Int)))] (by kernel_rfl) rfl h (fun hc1 h=>?_) fun hc1 h=>?_)))
 ·refine ae ?_
  refine cZ [(4,pB false)] (by kernel_rfl) (ap ?_)
  exact zz r h rfl
 refine ah ?_
 refine co (aj [(5,pI 0)] (by kernel_rfl) (fa h fun q4 hq4 h=>?_))
 refine am (Y:=Unit×Unit) (fun (_,_)=>[]) (fun (_,_)=>[]) (fun (_,_)=>q4=Sum.inl ()) ?_ ?_
 ·refine aw ?_
  refine aB (Y:=Unit) (S:=Int) _ hq4 (fun _ v2=>[(0,pL Zc.enc p0),(1,pL Zc.enc p1),(5,pI v2)]) (fun _ v2=>[]) () (lM rfl) bz ?_
  rintro _ v2 o τ hb3;(try dsimp only at hb3);dsimp only [au]
  refine cT (bF [11,12,13] [(14,pB (decide (v2<(p0.length:Int))))] (by kernel_rfl) rfl hb3 (fun hc5 hb3=>?_) fun hc5 hb3=>?_)
  ·refine ah ?_
   refine dq (bj (ρd:=[]) [(0,0),(1,0),(2,0),(3,0),(4,0),(5,0),(6,0),(7,0),(8,0),(9,0),(10,0),(11,0),(12,0),(13,0),(14,0),(15,0),(16,0),(17,0),(18,0),(19,0),(20,0),(21,0),(22,1),(23,0),(24,0),(25,0),(26,0),(27,0),(28,0),(29,0),(30,0),(31,0),(32,0),(33,0),(34,0),(35,0),(36,1),(37,0),(38,0)] _ (List.Perm.refl _) (by kernel_rfl) rfl (aa hb3 fun m6 hm6 hb3=>aa hb3 fun m7 hm7 hb3=>aa hb3 fun m8 hm8 hb3=>aa hb3 fun m9 hm9 hb3=>aa hb3 fun x10 hx10 hb3=>aa hb3 fun m11 hm11 hb3=>aa hb3 fun m12 hm12 hb3=>aa hb3 fun x13 hx13 hb3=>bv 39 [] (rg 17 38) [(55,pB (((!(Za.eqb m6.Claim m7.Claim))||(!x10))||(!x13)))] (cr 2 Zc.enc hm6 (cr 7 Zc.enc hm7 (yC 10 Za.eqok28 (eG 14 Zc.enc (cA hm8) (eG 19 Zc.enc (cA hm9) (dK 22 (fun hc=>wL (cA hx10 hc)) (eG 28 Zc.enc (cA hm11) (eG 33 Zc.enc (cA hm12) (dK 36 (fun hc=>qJ (cA hx13 hc)) bh))))))))) (by kernel_rfl) (bB (cR rfl hb3 (fun hc14 hb3=>?_) fun hc14 hb3=>?_))))
   ·refine ae ?_
    refine cZ [(4,pB false)] (by kernel_rfl) (dM ?_)
    refine az hb3 (fun ht=>?_);subst ht
    refine cS ?_
    exact zz r h rfl
   refine ah ?_
   refine dx (ai [15,16] [(5,pI (IntKind.i64.wrap (v2+1)))] (by kernel_rfl) ?_)
   exact aR hb3 () (lM rfl) bz
  refine aH ?_
  refine cd hb3 (fun ht=>ak rfl ?_)
  exact av ((),()) nC bz ht.symm
 rintro ⟨_,_⟩ τ hz;(try dsimp only at hz);subst q4;(try dsimp only at h);dsimp only [au]
 refine ae (cZ [(4,pB true)] (by kernel_rfl) ?_)
 exact zz r h rfl
def e9 (p0:(List Int)):Option (List Int):=app 8 ([]:List Int) p0
theorem oe {p0:(List Int)} {r:(List Int)} (h:e9 p0=some r):PCall 82 [pL eI p0] [] (fun pv ρ'=>∃ a c,pv=.v (.slice a r.length c)∧ρ'=[PRes.row a r.length c 3 1 (List.map eI r)]):=by
 unfold e9 at h
 refine i4 Tryz.func82 rfl Tryz.ntmps82 Tryz.results82 rfl ?_
 (repeat refine ae ?_)
 refine af (bx rfl rfl rfl (bD (p:=.v (.slice none 0 0)) rfl (.p rfl)) (aG (aL ?_)))
 (repeat refine ae ?_)
 refine af (bx rfl rfl rfl (fA (p:=pL eI p0) rfl (.p rfl)) (qv rfl rfl rfl rfl rfl rfl (fun b hb=>aG (aL ?_))))
 refine gN rfl (fun hc=>?_) (fun hc=>?_)
 ·have e0:p0=[]:=List.map_eq_nil_iff.1 (hb hc)
  subst e0;obtain ⟨rfl,_⟩:=mP h
  (repeat refine ae ?_)
  refine af (bx rfl rfl rfl (bD (p:=.v (.slice none 0 0)) rfl (.p rfl)) (aG (aL (bX 3 1 (bq (ap ?_))))))
  exact aP (da (aO rfl)) cg ⟨_,_,rfl,rfl⟩
 refine ah ?_
 refine aL ?_
 (repeat refine ae ?_)
 refine cU rfl (bw rfl rfl rfl rfl rfl iP rfl rfl rfl rfl (fun b1=>bx rfl rfl rfl (fA (p:=pL eI p0) rfl (.p rfl)) ?_))
 refine al rfl (gn (enc:=eI) (xs:=([]:List Int)) rfl rfl rfl rfl rfl (fun _=>rfl) rfl rfl rfl (by exact aJ) h (fun a c=>?_))
 refine bx rfl rfl rfl (bD (p:=.v (.slice a r.length c)) rfl (.p rfl)) (aG (dm ?_))
 exact aP (da (aO rfl)) cg ⟨_,_,rfl,rfl⟩
theorem og {p0:(List Int)} {r:(List Int)} (h:e9 p0=some r):PF 82 [pL eI p0] (pL eI r):=FB (oe h)
def bH (p0:(List Za)):Option (List Za):=app 16 ([]:List Za) p0
theorem gz {p0:(List Za)} {r:(List Za)} (h:bH p0=some r):PCall 83 [pL Za.enc p0] [] (fun pv ρ'=>∃ a c,pv=.v (.slice a r.length c)∧ρ'=[PRes.row a r.length c 28 2 (List.map Za.enc r)]):=by
 unfold bH at h
 refine i4 Tryz.func83 rfl Tryz.ntmps83 Tryz.results83 rfl ?_
 (repeat refine ae ?_)
 refine af (bx rfl rfl rfl (bD (p:=.v (.slice none 0 0)) rfl (.p rfl)) (aG (aL ?_)))
 (repeat refine ae ?_)
 refine af (bx rfl rfl rfl (fA (p:=pL Za.enc p0) rfl (.p rfl)) (qv rfl rfl rfl rfl rfl rfl (fun b hb=>aG (aL ?_))))
 refine gN rfl (fun hc=>?_) (fun hc=>?_)
 ·have e0:p0=[]:=List.map_eq_nil_iff.1 (hb hc)
  subst e0;obtain ⟨rfl,_⟩:=mP h
  (repeat refine ae ?_)
  refine af (bx rfl rfl rfl (bD (p:=.v (.slice none 0 0)) rfl (.p rfl)) (aG (aL (bX 28 2 (bq (ap ?_))))))
  exact aP (da (aO rfl)) cg ⟨_,_,rfl,rfl⟩
 refine ah ?_
 refine aL ?_
 (repeat refine ae ?_)
 refine cU rfl (bw rfl rfl rfl rfl rfl iP rfl rfl rfl rfl (fun b1=>bx rfl rfl rfl (fA (p:=pL Za.enc p0) rfl (.p rfl)) ?_))
 refine al rfl (gn (enc:=Za.enc) (xs:=([]:List Za)) rfl rfl rfl rfl rfl (fun _=>rfl) rfl rfl rfl (by exact aJ) h (fun a c=>?_))
 refine bx rfl rfl rfl (bD (p:=.v (.slice a r.length c)) rfl (.p rfl)) (aG (dm ?_))
 exact aP (da (aO rfl)) cg ⟨_,_,rfl,rfl⟩
theorem gA {p0:(List Za)} {r:(List Za)} (h:bH p0=some r):PF 83 [pL Za.enc p0] (pL Za.enc r):=FB (gz h)
def lE (p0:(List Zc)) (p1:Za):Option ((List Zc)×Int):=(aV (S:=Int×(List (Za×Int))) (T:=((List (Za×Int)))) (fun (v3,l4)=>cond (decide (v3<(p0.length:Int))) (((idx p0 v3).bind fun m11=>cond (!((fh l4 m11.Claim).isSome)) (some (oO l4 m11.Claim v3)) (some l4)).bind fun l9=>some (.inl ((IntKind.i64.wrap (v3+1)),l9))) (some (.inr l4))) FUEL (0,([]:List (Za×Int)))).bind fun l5=>(mk 1 false (p0.length:Int)).bind fun l14=>(aV (S:=(List Bool)×(List Za)) (T:=((List Bool))⊕(_)) (fun (l20,l22)=>cond (decide (0<((l22.length:Nat):Int))) ((idx l22 (IntKind.i64.wrap (((l22.length:Nat):Int) - 1))).bind fun m30=>(sub l22 0 (IntKind.i64.wrap (((l22.length:Nat):Int) - 1))).bind fun l31=>cond (!((fh l5 m30).isSome)) (some (.inr (.inr ([],(6:Int))))) ((idx l20 ((fh l5 m30).getD (0:Int))).bind fun m34=>cond (!m34) ((idx l20 ((fh l5 m30).getD (0:Int))).bind fun m36=>(idx p0 ((fh l5 m30).getD (0:Int))).bind fun m38=>(app 16 l31 m38.Premises).bind fun l39=>some (.inl ((l20.set ((fh l5 m30).getD (0:Int)).toNat true),l39))) (some (.inl (l20,l31))))) (some (.inr (.inl l20)))) FUEL (l14,[p1])).bind fun q=>match q with | .inl l26=>(aV (S:=(List Zc)×Int) (T:=((List Zc))) (fun (l44,v47)=>cond (decide (v47<(p0.length:Int))) (((idx p0 v47).bind fun m62=>(idx l26 v47).bind fun m64=>cond m64 ((e9 m62.Path).bind fun x66=>(bH m62.Premises).bind fun x67=>(app 64 l44 [(⟨m62.Claim,x66,x67⟩:Zc)]).bind fun l70=>some l70) (some l44)).bind fun l60=>some (.inl (l60,(IntKind.i64.wrap (v47+1))))) (some (.inr l44))) FUEL (([]:List Zc),0)).bind (fun l51=>some (l51,(0:Int))) | .inr e=>some e
theorem vE {p0:(List Zc)} {p1:Za} {r:((List Zc)×Int)}  (h:lE p0 p1=some r):PF 35 [pL Zc.enc p0,.agg [pI p1.Product,pI p1.Agreement]] (.tup [pL Zc.enc r.1,pI r.2]):=by
 unfold lE at h
 refine bd ?_
 refine dp Tryz.func35 rfl Tryz.ntmps35 Tryz.results35 rfl (cU rfl (bg (cs:=[pI p1.Product,pI p1.Agreement]) rfl rfl (fun b1=>bc [4,5] (by kernel_rfl) (ca (cU rfl (tu Za.key vI rfl (fun b2=>aI [(6,.v (.map (some b2)))] (by kernel_rfl) (co (aj [(19,pL Zc.enc p0),(20,pI (p0.length:Int)),(21,pI 0)] (by kernel_rfl) (fa h fun q7 hq7 h=>?_))))))))))
 refine am (Y:=Unit×((List (Za×Int)))) (fun (_,l5)=>[(0,pL Zc.enc p0),(3,pP b1 0),(6,.v (.map (some b2)))]) (fun (_,l5)=>[PRes.b b1 28 [pI p1.Product,pI p1.Agreement],PRes.mp (some b2) (iK Za.key vI l5)]) (fun (_,l5)=>q7=l5) ?_ ?_
 ·refine aw ?_
  refine aB (Y:=Unit) (S:=Int×(List (Za×Int))) _ hq7 (fun _ (v3,l4)=>[(0,pL Zc.enc p0),(3,pP b1 0),(6,.v (.map (some b2))),(19,pL Zc.enc p0),(20,pI (p0.length:Int)),(21,pI v3)]) (fun _ (v3,l4)=>[PRes.b b1 28 [pI p1.Product,pI p1.Agreement],PRes.mp (some b2) (iK Za.key vI l4)]) () (qG rfl) (ba (ar aJ) cg) ?_
  rintro _ ⟨v3,l4⟩ o τ hb6;(try dsimp only at hb6);dsimp only [au]
  refine ae (aj [(22,pB (decide (v3<(p0.length:Int))))] (by kernel_rfl) (ca (jG rfl hb6 (fun hc8 hb6=>?_) fun hc8 hb6=>?_)))
  ·refine ah ?_
   refine cN hb6 fun q10 hq10 hb6=>?_
   refine am (Y:=Unit×((List (Za×Int)))) (fun (_,l9)=>[(0,pL Zc.enc p0),(3,pP b1 0),(6,.v (.map (some b2))),(19,pL Zc.enc p0),(20,pI (p0.length:Int)),(21,pI v3)]) (fun (_,l9)=>[PRes.b b1 28 [pI p1.Product,pI p1.Agreement],PRes.mp (some b2) (iK Za.key vI l9)]) (fun (_,l9)=>q10=l9) ?_ ?_
   ·skip
    refine nX (aa hq10 fun m11 hm11 hq10=>af (aY 3 [] [24] [(23,pI v3),(25,.agg (dg m11))] (cr 1 Zc.enc hm11 bh) (by kernel_rfl) (al rfl (aN (cs:=[pI 0,pI 0,pN,pN]) rfl rfl rfl rfl (fun b12=>aF 1 [(7,pI v3)] (by kernel_rfl) (aS rfl rfl (an (vs:=(dg m11)) rfl rfl rfl rfl rfl cw yy (aG (ca (af (cj 3 [0] [28] [(27,.v (.map (some b2))),(29,.agg [pI m11.Claim.Product,pI m11.Claim.Agreement])] (by kernel_rfl) (bx rfl rfl rfl (show POpQ _ _ _ _ (.tup [pI ((fh l4 m11.Claim).getD (0:Int)),pB ((fh l4 m11.Claim).isSome)]) from tq (xs:=l4) (k:=m11.Claim) (ek:=Za.key) (vv:=vI) (z0:=(0:Int)) rfl rfl rfl (fun _=>.v rfl) Za.kenc28 (.p rfl) (.p rfl) vn (vm uk)) (ir [26,31,32,9] [(10,pB ((fh l4 m11.Claim).isSome))] (by kernel_rfl) (ca (bF [33] [(34,pB (!((fh l4 m11.Claim).isSome)))] (by kernel_rfl) rfl hq10 (fun hc13 hq10=>?_) fun hc13 hq10=>?_)))))))))))))))
    ·refine af ?_
     refine cj 4 [0] [36] [(35,.v (.map (some b2))),(37,.agg [pI m11.Claim.Product,pI m11.Claim.Agreement]),(38,pI v3)] (by kernel_rfl) (aS rfl rfl (rW (xs:=l4) (k:=m11.Claim) (ek:=Za.key) (vv:=vI) (v:=v3) rfl rfl Za.kenc28 rfl rfl vn rfl (dl (dl cw)) (aG (aA ?_))))
     obtain rfl:=osi hq10
     exact av ((),(oO l4 m11.Claim v3)) (qG rfl) (ba (ar aJ) (ba (ar aJ) bz)) rfl
    refine ah ?_
    refine aA ?_
    obtain rfl:=osi hq10
    exact av ((),l4) (qG rfl) (ba (ar aJ) (ba (ar aJ) bz)) rfl
   rintro ⟨_,l9⟩ τ hz;(try dsimp only at hz);subst q10;(try dsimp only at hb6);dsimp only [au]
   refine ai [39] [(21,pI (IntKind.i64.wrap (v3+1)))] (by kernel_rfl) ?_
   exact aR hb6 () (qG rfl) mE
  refine aH ?_
  refine cd hb6 (fun ht=>ak rfl ?_)
  exact av ((),l4) (lM rfl) mE ht.symm
 rintro ⟨_,l5⟩ τ hz;(try dsimp only at hz);subst q7;(try dsimp only at h);dsimp only [au]
 refine ae (aa h fun l14 hl14 h=>af (cB 2 [40] [(41,pI (p0.length:Int))] (by kernel_rfl) (al rfl (pl_make (enc:=eT) rfl rfl rfl rfl rfl rfl rfl rfl rfl hl14 (fun b15=>aI [(11,pO (some ⟨b15,0,none⟩) l14.length l14.length)] (by kernel_rfl) (ca (af (fu 1 [1] [(43,.agg [pI p1.Product,pI p1.Agreement])] (by kernel_rfl) (al rfl (bw rfl rfl rfl rfl rfl (fL rfl iP) rfl rfl rfl rfl (fun b17=>aI [(12,pO (some ⟨b17,0,none⟩) 1 1)] (by kernel_rfl) (cN h fun q28 hq28 h=>?_))))))))))))
 refine am (Y:=Unit×((List Bool))) (fun (_,l26)=>[(0,pL Zc.enc p0),(11,pO (some ⟨b15,0,none⟩) l14.length l14.length)]) (fun (_,l26)=>[PRes.row (some ⟨b15,0,none⟩) l14.length l14.length 4 1 (List.map eT l26)]) (fun (_,l26)=>q28=Sum.inl l26) ?_ ?_
 ·refine aw ?_
  refine aB (Y:=Option Addr×Nat) (S:=(List Bool)×(List Za)) _ hq28 (fun (a23,c24) (l20,l22)=>[(0,pL Zc.enc p0),(6,.v (.map (some b2))),(11,pO (some ⟨b15,0,none⟩) l14.length l14.length),(12,pO a23 l22.length c24)]) (fun (a23,c24) (l20,l22)=>[PRes.mp (some b2) (iK Za.key vI l5),PRes.row (some ⟨b15,0,none⟩) l14.length l14.length 4 1 (List.map eT l20),PRes.row a23 l22.length c24 28 2 (List.map Za.enc l22)]) ((some ⟨b17,0,none⟩),1) (iq rfl) (ba (ar (ar (ar aJ))) (ba (ar aJ) cg)) ?_
  rintro ⟨a23,c24⟩ ⟨l20,l22⟩ o τ hb27;(try dsimp only at hb27);dsimp only [au]
  refine cT (bF [45,46] [(47,pB (decide (0<((l22.length:Nat):Int))))] (by kernel_rfl) rfl hb27 (fun hc29 hb27=>?_) fun hc29 hb27=>?_)
  ·refine ah ?_
   refine aL (nX (aa hb27 fun m30 hm30 hb27=>af (cB 5 [51,52] [(49,.v (.map (some b2))),(50,pO a23 l22.length c24),(53,pI (IntKind.i64.wrap (((l22.length:Nat):Int) - 1)))] (by kernel_rfl) (bx rfl rfl rfl (dA (enc:=Za.enc) (xs:=l22) rfl rfl rfl (.p rfl) uk (.p rfl) (fun _=>hm30)) (bx rfl rfl rfl (cP (sz:=2) (p:=.agg [pI m30.Product,pI m30.Agreement]) (enc:=Za.enc) (xs:=l22) (a:=a23) (IntKind.i64.wrap (((l22.length:Nat):Int) - 1)) 0 m30 rfl (.p rfl) rfl uk (fun _=>hm30) rfl) (bx rfl rfl rfl (show POpQ _ _ _ _ (.tup [pI ((fh l5 m30).getD (0:Int)),pB ((fh l5 m30).isSome)]) from tq (xs:=l5) (k:=m30) (ek:=Za.key) (vv:=vI) (z0:=(0:Int)) rfl rfl rfl (fun _=>.v rfl) Za.kenc28 (.p rfl) (.p rfl) vn (vm fy)) (ir [48,57,58] [(13,pI ((fh l5 m30).getD (0:Int))),(14,pB ((fh l5 m30).isSome))] (by kernel_rfl) (cN hb27 fun l31 hl31 hb27=>af (cB 4 [60,61] [(59,pO a23 l22.length c24),(62,pI (IntKind.i64.wrap (((l22.length:Nat):Int) - 1)))] (by kernel_rfl) ?_)))))))))
   refine al rfl (sI (enc:=Za.enc) (xs:=l22) rfl rfl rfl rfl rfl (by exact ar (ar aJ)) hl31 ?_)
   refine aI [(12,pO a23 l31.length c24)] (by kernel_rfl) (co (bF [64] [(65,pB (!((fh l5 m30).isSome)))] (by kernel_rfl) rfl hb27 (fun hc33 hb27=>?_) fun hc33 hb27=>?_))
   ·refine ae ?_
    refine aj [(4,pN),(5,pI 6)] (by kernel_rfl) (aL (fz 4 rfl (bq (ap (cQ ?_)))))
    refine az hb27 (fun ht=>?_);subst ht
    refine cS ?_
    obtain rfl:=osi h
    exact aP (cD (aO rfl) (aO rfl)) bz ⟨rfl,rfl⟩
   refine ah ?_
   refine cN hb27 fun m34 hm34 hb27=>af (aF 2 [(66,pO (some ⟨b15,0,none⟩) l14.length l14.length),(67,pI ((fh l5 m30).getD (0:Int)))] (by kernel_rfl) (bx rfl rfl rfl (dA (enc:=eT) (xs:=l20) rfl rfl rfl (.p rfl) uk (.p rfl) (fun _=>hm34)) (bx rfl rfl rfl (cP (sz:=1) (p:=pB m34) (enc:=eT) (xs:=l20) (a:=(some ⟨b15,0,none⟩)) ((fh l5 m30).getD (0:Int)) 0 m34 rfl (.p rfl) rfl uk (fun _=>hm34) rfl) (aI [(70,pB (!m34))] (by kernel_rfl) (cR rfl hb27 (fun hc35 hb27=>?_) fun hc35 hb27=>?_)))))
   ·refine ae ?_
    refine aa hb27 fun m36 hm36 hb27=>af (aF 2 [(71,pO (some ⟨b15,0,none⟩) l14.length l14.length),(72,pI ((fh l5 m30).getD (0:Int)))] (by kernel_rfl) (bx rfl rfl rfl (dA (enc:=eT) (xs:=l20) rfl rfl rfl (.p rfl) uk (.p rfl) (fun _=>hm36)) (aS rfl rfl (rc (enc:=eT) (xs:=l20) (a:=(some ⟨b15,0,none⟩)) ((fh l5 m30).getD (0:Int)) 0 m36 true rfl rfl rfl rfl (fun _=>rfl) rfl rfl hm36 nD (dl (dl cw)) (aG (fa hb27 fun m38 hm38 hb27=>aa hb27 fun l39 hl39 hb27=>af (aY 6 [] [75,76,77,78] [(74,pO a23 l31.length c24),(79,pL Za.enc m38.Premises)] (cr 3 Zc.enc hm38 bh) (by kernel_rfl) ?_)))))))
    refine al rfl (gn (enc:=Za.enc) rfl rfl rfl rfl rfl (fun _=>rfl) rfl rfl rfl (by exact aJ) hl39 (fun a40 c41=>?_))
    refine aI [(12,pO a40 l39.length c41)] (by kernel_rfl) (aA ?_)
    exact aR hb27 (a40,c41) (iq rfl) (ba (ar aJ) (ba (ar aJ) cg))
   refine ah ?_
   refine aA ?_
   exact aR hb27 (a23,c24) (iq rfl) (ba (ar aJ) (ba (ar aJ) cg))
  refine aH ?_
  refine cd hb27 (fun ht=>ak rfl ?_)
  exact av ((),l20) (lL rfl) (ba (ar aJ) bz) ht.symm
 rintro ⟨_,l26⟩ τ hz;(try dsimp only at hz);subst q28;(try dsimp only at h);dsimp only [au]
 refine ae (aj [(15,pN)] (by kernel_rfl) (co (aj [(81,pL Zc.enc p0),(82,pI (p0.length:Int)),(83,pI 0)] (by kernel_rfl) (aL (bX 61 4 (aa h fun q53 hq53 h=>?_))))))
 refine am (Y:=(Option Addr×Nat)×((List Zc))) (fun ((a49,c50),l51)=>[(15,pO a49 l51.length c50)]) (fun ((a49,c50),l51)=>[PRes.row a49 l51.length c50 61 4 (List.map Zc.enc l51)]) (fun ((a49,c50),l51)=>q53=l51) ?_ ?_
 ·refine aw ?_
  refine aB (Y:=Option Addr×Nat) (S:=(List Zc)×Int) _ hq53 (fun (a45,c46) (l44,v47)=>[(11,pO (some ⟨b15,0,none⟩) l14.length l14.length),(15,pO a45 l44.length c46),(81,pL Zc.enc p0),(82,pI (p0.length:Int)),(83,pI v47)]) (fun (a45,c46) (l44,v47)=>[PRes.row (some ⟨b15,0,none⟩) l14.length l14.length 4 1 (List.map eT l26),PRes.row a45 l44.length c46 61 4 (List.map Zc.enc l44)]) (none,0) (lP rfl) (ba (ar aJ) cg) ?_
  rintro ⟨a45,c46⟩ ⟨l44,v47⟩ o τ hb52;(try dsimp only at hb52);dsimp only [au]
  refine ae (aj [(84,pB (decide (v47<(p0.length:Int))))] (by kernel_rfl) (ca (jG rfl hb52 (fun hc55 hb52=>?_) fun hc55 hb52=>?_)))
  ·refine ah ?_
   refine cN hb52 fun q61 hq61 hb52=>?_
   refine am (Y:=(Option Addr×Nat)×((List Zc))) (fun ((a58,c59),l60)=>[(11,pO (some ⟨b15,0,none⟩) l14.length l14.length),(15,pO a58 l60.length c59),(81,pL Zc.enc p0),(82,pI (p0.length:Int)),(83,pI v47)]) (fun ((a58,c59),l60)=>[PRes.row (some ⟨b15,0,none⟩) l14.length l14.length 4 1 (List.map eT l26),PRes.row a58 l60.length c59 61 4 (List.map Zc.enc l60)]) (fun ((a58,c59),l60)=>q61=l60) ?_ ?_
   ·skip
    refine nX (aa hq61 fun m62 hm62 hq61=>af (aY 3 [] [86] [(85,pI v47),(87,.agg (dg m62))] (cr 1 Zc.enc hm62 bh) (by kernel_rfl) (al rfl (aN (cs:=[pI 0,pI 0,pN,pN]) rfl rfl rfl rfl (fun b63=>aF 1 [(16,pI v47)] (by kernel_rfl) (aS rfl rfl (an (vs:=(dg m62)) rfl rfl rfl rfl rfl cw yy (aG (cN hq61 fun m64 hm64 hq61=>af (aF 2 [(88,pO (some ⟨b15,0,none⟩) l14.length l14.length),(89,pI v47)] (by kernel_rfl) (bx rfl rfl rfl (dA (enc:=eT) (xs:=l26) rfl rfl rfl (.p rfl) u3 (.p rfl) (fun _=>hm64)) (bx rfl rfl rfl (cP (sz:=1) (p:=pB m64) (enc:=eT) (xs:=l26) (a:=(some ⟨b15,0,none⟩)) v47 0 m64 rfl (.p rfl) rfl u3 (fun _=>hm64) rfl) (aG (cR rfl hq61 (fun hc65 hq61=>?_) fun hc65 hq61=>?_))))))))))))))
    ·refine bj (ρd:=[PRes.row a45 _ _ _ _ _]) [(0,0),(1,0),(2,0),(3,0),(4,0),(6,0),(7,0),(5,1),(8,1),(9,0),(10,1),(11,1),(12,0)] _ (aW (ar (ar aJ)) (List.Perm.refl _)) (by kernel_rfl) rfl ?_
     refine aa hq61 fun x66 hx66 hq61=>aa hq61 fun x67 hx67 hq61=>bv 9 [0,0,0] [93,95,96,98,99] [(92,pO a45 l44.length c46),(94,.agg [pI m62.Claim.Product,pI m62.Claim.Agreement]),(97,pL eI x66),(100,pL Za.enc x67)] (bi 7 (og hx66) (bi 8 (gA hx67) bh)) (by kernel_rfl) (jS rfl rfl rfl (qw (cs:=[pI m62.Claim.Product,pI m62.Claim.Agreement,pL eI x66,pL Za.enc x67]) rfl rfl rfl rfl rfl rfl rfl (Cv rfl rfl rfl rfl re (Cv rfl rfl rfl rfl (dZ (dZ nD)) (Cv rfl rfl rfl rfl (dZ (dZ (dZ nD))) zfn)))) (jc rfl rfl rfl (bw rfl rfl rfl rfl rfl (fL rfl iP) rfl rfl rfl rfl (fun b68=>aa hq61 fun l70 hl70 hq61=>?_))))
     refine jc rfl rfl rfl (bV (enc:=Zc.enc) rfl rfl rfl rfl rfl rfl rfl rfl rfl fy (by exact ar aJ) hl70 (fun a71 c72=>?_))
     refine gS 1 [(15,pO a71 l70.length c72)] (by kernel_rfl) (bB (aA ?_))
     obtain rfl:=osi hq61
     exact av ((a71,c72),l70) (lP rfl) (ba (ar (ar (ar aJ))) cg) rfl
    refine ah ?_
    refine aA ?_
    obtain rfl:=osi hq61
    exact av ((a45,c46),l44) (lP rfl) (ba (ar aJ) (ba (ar aJ) bz)) rfl
   rintro ⟨⟨a58,c59⟩,l60⟩ τ hz;(try dsimp only at hz);subst q61;(try dsimp only at hb52);dsimp only [au]
   refine ai [104] [(83,pI (IntKind.i64.wrap (v47+1)))] (by kernel_rfl) ?_
   exact aR hb52 (a58,c59) (lP rfl) mE
  refine aH ?_
  refine cd hb52 (fun ht=>ak rfl ?_)
  exact av ((a45,c46),l44) (qP rfl) (ba (ar aJ) bz) ht.symm
 rintro ⟨⟨a49,c50⟩,l51⟩ τ hz;(try dsimp only at hz);subst q53;(try dsimp only at h);dsimp only [au]
 refine ae (ai [105] [(4,pO a49 l51.length c50),(5,pI 0)] (by kernel_rfl) (aL ?_))
 refine dr (enc:=Zc.enc) (xs:=l51) 4 rfl (by exact aJ) ?_
 refine bq ?_
 obtain rfl:=osi h
 exact aP (cD (aO rfl) (aO rfl)) bz ⟨rfl,rfl⟩
def fe (p0:(List Za)) (p1:Za):Option Bool:=(aV (S:=Int) (T:=(Unit)⊕(_)) (fun v2=>cond (decide (v2<((p0.length:Nat):Int))) ((idx p0 v2).bind fun m7=>cond (Za.eqb m7 p1) (some (.inr (.inr true))) (some (.inl (IntKind.i64.wrap (v2+1))))) (some (.inr (.inl ())))) FUEL 0).bind fun q=>match q with | .inl _=>some false | .inr e=>some e
theorem lF {p0:(List Za)} {p1:Za} {a_0:Option Addr}  {n_0:Nat}  {c_0:Nat} {r:Bool}  (h:fe p0 p1=some r):PCall 68 [.v (.slice a_0 n_0 c_0),.agg [pI p1.Product,pI p1.Agreement]] [PRes.row a_0 n_0 c_0 28 2 (List.map Za.enc p0)] (fun pv ρ'=>pv=pB r∧ρ'=[PRes.row a_0 n_0 c_0 28 2 (List.map Za.enc p0)]):=by
 unfold fe at h
 refine i4 Tryz.func68 rfl Tryz.ntmps68 Tryz.results68 rfl ?_
 refine jT (enc:=Za.enc) (xs:=p0) (a:=a_0) fy (fun hl ha=>?_);subst hl;clear ha
 refine ae (cU rfl (bg (cs:=[pI p1.Product,pI p1.Agreement]) rfl rfl (fun b1=>bc [4] (by kernel_rfl) (co (aj [(5,pI 0)] (by kernel_rfl) (fa h fun q5 hq5 h=>?_))))))
 refine am (Y:=Unit×Unit) (fun (_,_)=>[]) (fun (_,_)=>[PRes.row a_0 p0.length c_0 28 2 (List.map Za.enc p0)]) (fun (_,_)=>q5=Sum.inl ()) ?_ ?_
 ·refine aw ?_
  refine aB (Y:=Unit) (S:=Int) _ hq5 (fun _ v2=>[(0,pO a_0 p0.length c_0),(3,pP b1 0),(5,pI v2)]) (fun _ v2=>[PRes.b b1 28 [pI p1.Product,pI p1.Agreement],PRes.row a_0 p0.length c_0 28 2 (List.map Za.enc p0)]) () (lM rfl) mE ?_
  rintro _ v2 o τ hb4;(try dsimp only at hb4);dsimp only [au]
  refine cT (bF [6,7,8] [(9,pB (decide (v2<((p0.length:Nat):Int))))] (by kernel_rfl) rfl hb4 (fun hc6 hb4=>?_) fun hc6 hb4=>?_)
  ·refine ah ?_
   refine dq (bj (ρd:=[]) [(0,0),(1,0),(2,0),(3,0),(4,0),(5,0)] _ (List.Perm.refl _) (by kernel_rfl) rfl (aa hb4 fun m7 hm7 hb4=>gS 2 [(12,pO a_0 p0.length c_0),(13,pI v2)] (by kernel_rfl) (jS rfl rfl rfl (dA (enc:=Za.enc) (xs:=p0) rfl rfl rfl (.p rfl) u3 (.p rfl) (fun _=>hm7)) (jS rfl rfl rfl (cP (sz:=2) (p:=.agg [pI m7.Product,pI m7.Agreement]) (enc:=Za.enc) (xs:=p0) (a:=a_0) v2 0 m7 rfl (.p rfl) rfl u3 (fun _=>hm7) rfl) (bv 2 [0] [16] [(17,pB (Za.eqb m7 p1))] (yC 1 Za.eqok28 bh) (by kernel_rfl) (bB (cR rfl hb4 (fun hc8 hb4=>?_) fun hc8 hb4=>?_)))))))
   ·refine ae ?_
    refine cZ [(4,pB true)] (by kernel_rfl) (dM ?_)
    refine az hb4 (fun ht=>?_);subst ht
    refine cS ?_
    obtain rfl:=osi h
    exact aP (da (aO rfl)) (ba (ar aJ) bz) ⟨rfl,rfl⟩
   refine ah ?_
   refine dx (ai [10,11] [(5,pI (IntKind.i64.wrap (v2+1)))] (by kernel_rfl) ?_)
   exact aR hb4 () (lM rfl) mE
  refine aH ?_
  refine cd hb4 (fun ht=>ak rfl ?_)
  exact av ((),()) nC (ba (ar aJ) bz) ht.symm
 rintro ⟨_,_⟩ τ hz;(try dsimp only at hz);subst q5;(try dsimp only at h);dsimp only [au]
 refine ae (cZ [(4,pB false)] (by kernel_rfl) ?_)
 obtain rfl:=osi h
 exact aP (da (aO rfl)) cg ⟨rfl,rfl⟩
def j0 (p0:(List Zc)) (p1:Za):Option Int:=(aV (S:=Int) (T:=(Unit)⊕(_)) (fun v2=>cond (decide (v2<(p0.length:Int))) ((idx p0 v2).bind fun m6=>cond (Za.eqb m6.Claim p1) (some (.inr (.inr v2))) (some (.inl (IntKind.i64.wrap (v2+1))))) (some (.inr (.inl ())))) FUEL 0).bind fun q=>match q with | .inl _=>some (-1) | .inr e=>some e
theorem p7 {p0:(List Zc)} {p1:Za} {r:Int}  (h:j0 p0 p1=some r):PF 84 [pL Zc.enc p0,.agg [pI p1.Product,pI p1.Agreement]] (pI r):=by
 unfold j0 at h
 refine bd ?_
 refine dp Tryz.func84 rfl Tryz.ntmps84 Tryz.results84 rfl (cU rfl (bg (cs:=[pI p1.Product,pI p1.Agreement]) rfl rfl (fun b1=>bc [4] (by kernel_rfl) (co (aj [(5,pI 0)] (by kernel_rfl) (fa h fun q4 hq4 h=>?_))))))
 refine am (Y:=Unit×Unit) (fun (_,_)=>[]) (fun (_,_)=>[]) (fun (_,_)=>q4=Sum.inl ()) ?_ ?_
 ·refine aw ?_
  refine aB (Y:=Unit) (S:=Int) _ hq4 (fun _ v2=>[(0,pL Zc.enc p0),(3,pP b1 0),(5,pI v2)]) (fun _ v2=>[PRes.b b1 28 [pI p1.Product,pI p1.Agreement]]) () (lM rfl) cg ?_
  rintro _ v2 o τ hb3;(try dsimp only at hb3);dsimp only [au]
  refine cT (bF [6,7,8] [(9,pB (decide (v2<(p0.length:Int))))] (by kernel_rfl) rfl hb3 (fun hc5 hb3=>?_) fun hc5 hb3=>?_)
  ·refine ah ?_
   refine dq (bj (ρd:=[]) [(0,0),(1,0),(2,0),(3,0),(4,0),(5,0),(6,0)] _ (List.Perm.refl _) (by kernel_rfl) rfl (aa hb3 fun m6 hm6 hb3=>bv 7 [0] (rg 12 6) [(18,pB (Za.eqb m6.Claim p1))] (cr 2 Zc.enc hm6 (yC 6 Za.eqok28 bh)) (by kernel_rfl) (bB (cR rfl hb3 (fun hc7 hb3=>?_) fun hc7 hb3=>?_))))
   ·refine ae ?_
    refine ai [19] [(4,pI v2)] (by kernel_rfl) (dm (dM ?_))
    refine az hb3 (fun ht=>?_);subst ht
    refine cS ?_
    exact zz r h rfl
   refine ah ?_
   refine dx (ai [10,11] [(5,pI (IntKind.i64.wrap (v2+1)))] (by kernel_rfl) ?_)
   exact aR hb3 () (lM rfl) cg
  refine aH ?_
  refine cd hb3 (fun ht=>ak rfl ?_)
  exact av ((),()) nC bz ht.symm
 rintro ⟨_,_⟩ τ hz;(try dsimp only at hz);subst q4;(try dsimp only at h);dsimp only [au]
 refine ae (cZ [(4,pI (-1))] (by kernel_rfl) ?_)
 exact zz r h rfl
def ng (p0:(List Zc)) (p1:Za):Option ((List Zc)×Int):=(aV (S:=(List Za)×Int) (T:=((List Za))⊕(_)) (fun (l5,v8)=>cond (decide (v8<((l5.length:Nat):Int))) ((idx l5 v8).bind fun m16=>(j0 p0 m16).bind fun x17=>cond (decide (x17<0)) (some (.inr (.inr ([],(6:Int))))) ((aV (S:=(List Za)×Int) (T:=((List Za))) (fun (l20,v23)=>(idx p0 x17).bind fun m30=>cond (decide (v23<(m30.Premises.length:Int))) (((idx p0 x17).bind fun m37=>(idx m37.Premises v23).bind fun m38=>(fe l20 m38).bind fun x39=>cond (!x39) ((idx p0 x17).bind fun m41=>(idx m41.Premises v23).bind fun m42=>(app 16 l20 [m42]).bind fun l45=>some l45) (some l20)).bind fun l35=>some (.inl (l35,(IntKind.i64.wrap (v23+1))))) (some (.inr l20))) FUEL (l5,0)).bind fun l27=>some (.inl (l27,(IntKind.i64.wrap (v8+1)))))) (some (.inr (.inl l5)))) FUEL ([p1],0)).bind fun q=>match q with | .inl l12=>(aV (S:=(List Zc)×Int) (T:=((List Zc))) (fun (l51,v54)=>cond (decide (v54<(p0.length:Int))) (((idx p0 v54).bind fun m69=>(fe l12 m69.Claim).bind fun x70=>(gd x70 (idx p0 v54)).bind fun m71=>(gd x70 (j0 p0 m71.Claim)).bind fun x72=>cond (x70&&(x72 == v54)) ((idx p0 v54).bind fun m74=>(app 64 l51 [m74]).bind fun l77=>some l77) (some l51)).bind fun l67=>some (.inl (l67,(IntKind.i64.wrap (v54+1))))) (some (.inr l51))) FUEL (([]:List Zc),0)).bind (fun l58=>some (l58,(0:Int))) | .inr e=>some e
theorem wN {p0:(List Zc)} {p1:Za} {r:((List Zc)×Int)}  (h:ng p0 p1=some r):PF 36 [pL Zc.enc p0,.agg [pI p1.Product,pI p1.Agreement]] (.tup [pL Zc.enc r.1,pI r.2]):=by
 unfold ng at h
 refine bd ?_
 refine dp Tryz.func36 rfl Tryz.ntmps36 Tryz.results36 rfl (cU rfl (bg (cs:=[pI p1.Product,pI p1.Agreement]) rfl rfl (fun b1=>bc [4,5] (by kernel_rfl) (ca (af (fu 1 [0] [(12,.agg [pI p1.Product,pI p1.Agreement])] (by kernel_rfl) (al rfl (bw rfl rfl rfl rfl rfl (fL rfl iP) rfl rfl rfl rfl (fun b2=>aI [(6,pO (some ⟨b2,0,none⟩) 1 1)] (by kernel_rfl) (co (aj [(7,pI 0)] (by kernel_rfl) (fa h fun q14 hq14 h=>?_))))))))))))
 refine am (Y:=(Option Addr×Nat)×((List Za))) (fun ((a10,c11),l12)=>[(0,pL Zc.enc p0),(6,pO a10 l12.length c11)]) (fun ((a10,c11),l12)=>[PRes.row a10 l12.length c11 28 2 (List.map Za.enc l12)]) (fun ((a10,c11),l12)=>q14=Sum.inl l12) ?_ ?_
 ·refine aw ?_
  refine aB (Y:=Option Addr×Nat) (S:=(List Za)×Int) _ hq14 (fun (a6,c7) (l5,v8)=>[(0,pL Zc.enc p0),(6,pO a6 l5.length c7),(7,pI v8)]) (fun (a6,c7) (l5,v8)=>[PRes.row a6 l5.length c7 28 2 (List.map Za.enc l5)]) ((some ⟨b2,0,none⟩),1) (lM rfl) cg ?_
  rintro ⟨a6,c7⟩ ⟨l5,v8⟩ o τ hb13;(try dsimp only at hb13);dsimp only [au]
  refine cT (bF [14,15,16] [(17,pB (decide (v8<((l5.length:Nat):Int))))] (by kernel_rfl) rfl hb13 (fun hc15 hb13=>?_) fun hc15 hb13=>?_)
  ·refine ah ?_
   refine dq (aa hb13 fun m16 hm16 hb13=>af (aF 3 [(20,pL Zc.enc p0),(21,pO a6 l5.length c7),(22,pI v8)] (by kernel_rfl) (bx rfl rfl rfl (dA (enc:=Za.enc) (xs:=l5) rfl rfl rfl (.p rfl) fy (.p rfl) (fun _=>hm16)) (bx rfl rfl rfl (cP (sz:=2) (p:=.agg [pI m16.Product,pI m16.Agreement]) (enc:=Za.enc) (xs:=l5) (a:=a6) v8 0 m16 rfl (.p rfl) rfl fy (fun _=>hm16) rfl) (aa hb13 fun x17 hx17 hb13=>gI [] [25] [(8,pI x17)] (bi 0 (p7 hx17) bh) (by kernel_rfl) (co (bF [26] [(27,pB (decide (x17<0)))] (by kernel_rfl) rfl hb13 (fun hc18 hb13=>?_) fun hc18 hb13=>?_)))))))
   ·refine ae ?_
    refine aj [(4,pN),(5,pI 6)] (by kernel_rfl) (aL (fz 4 rfl (bq (ap (dM ?_)))))
    refine az hb13 (fun ht=>?_);subst ht
    refine cS ?_
    obtain rfl:=osi h
    exact aP (cD (aO rfl) (aO rfl)) bz ⟨rfl,rfl⟩
   refine ah ?_
   refine ca (aj [(9,pI 0)] (by kernel_rfl) (fa hb13 fun q29 hq29 hb13=>?_))
   refine ip (Y:=(Option Addr×Nat)×((List Za))) (fun ((a25,c26),l27)=>[(0,pL Zc.enc p0),(6,pO a25 l27.length c26),(7,pI v8)]) (fun ((a25,c26),l27)=>[PRes.row a25 l27.length c26 28 2 (List.map Za.enc l27)]) (fun ((a25,c26),l27)=>q29=l27) ?_ ?_
   ·refine aw ?_
    refine aB (Y:=Option Addr×Nat) (S:=(List Za)×Int) _ hq29 (fun (a21,c22) (l20,v23)=>[(0,pL Zc.enc p0),(6,pO a21 l20.length c22),(7,pI v8),(8,pI x17),(9,pI v23)]) (fun (a21,c22) (l20,v23)=>[PRes.row a21 l20.length c22 28 2 (List.map Za.enc l20)]) (a6,c7) (lP rfl) cg ?_
    rintro ⟨a21,c22⟩ ⟨l20,v23⟩ o τ hb28;(try dsimp only at hb28);dsimp only [au]
    refine cT (aa hb28 fun m30 hm30 hb28=>aq [] (rg 28 7) [(35,pB (decide (v23<(m30.Premises.length:Int))))] (cr 3 Zc.enc hm30 bh) (by kernel_rfl) (cR rfl hb28 (fun hc31 hb28=>?_) fun hc31 hb28=>?_))
    ·refine ah ?_
     refine cN hb28 fun q36 hq36 hb28=>?_
     refine am (Y:=(Option Addr×Nat)×((List Za))) (fun ((a33,c34),l35)=>[(0,pL Zc.enc p0),(6,pO a33 l35.length c34),(7,pI v8),(8,pI x17),(9,pI v23)]) (fun ((a33,c34),l35)=>[PRes.row a33 l35.length c34 28 2 (List.map Za.enc l35)]) (fun ((a33,c34),l35)=>q36=l35) ?_ ?_
     ·skip
      refine nX (aa hq36 fun m37 hm37 hq36=>aa hq36 fun m38 hm38 hq36=>aa hq36 fun x39 hx39 hq36=>af (aY 9 [] (rg 39 7) [(38,pO a21 l20.length c22),(46,.agg [pI m38.Product,pI m38.Agreement])] (cr 3 Zc.enc hm37 (cr 7 Za.enc hm38 bh)) (by kernel_rfl) ?_))
      refine al rfl (bf rfl rfl (ρ1:=[_]) (aW (by exact aJ) (List.Perm.refl _)) (lF hx39) ?_);rintro _ _ ⟨rfl,rfl⟩
      refine aI [(48,pB (!x39))] (by kernel_rfl) (cR rfl hq36 (fun hc40 hq36=>?_) fun hc40 hq36=>?_)
      ·refine aa hq36 ?_;clear hq36;intro m41 hm41 hq36
       refine aa hq36 fun m42 hm42 hq36=>af (aY 9 [] (rg 50 7) [(49,pO a21 l20.length c22),(57,.agg [pI m42.Product,pI m42.Agreement])] (cr 3 Zc.enc hm41 (cr 7 Za.enc hm42 bh)) (by kernel_rfl) (al rfl (bw rfl rfl rfl rfl rfl (fL rfl iP) rfl rfl rfl rfl (fun b43=>aa hq36 fun l45 hl45 hq36=>?_))))
       refine al rfl (bV (enc:=Za.enc) rfl rfl rfl rfl rfl rfl rfl rfl rfl fy (by exact ar aJ) hl45 (fun a46 c47=>?_))
       refine aI [(6,pO a46 l45.length c47)] (by kernel_rfl) (aA ?_)
       obtain rfl:=osi hq36
       exact av ((a46,c47),l45) (lP rfl) cg rfl
      refine ah ?_
      refine aA ?_
      obtain rfl:=osi hq36
      exact av ((a21,c22),l20) (lP rfl) cg rfl
     rintro ⟨⟨a33,c34⟩,l35⟩ τ hz;(try dsimp only at hz);subst q36;(try dsimp only at hb28);dsimp only [au]
     refine ai [36,37] [(9,pI (IntKind.i64.wrap (v23+1)))] (by kernel_rfl) ?_
     exact aR hb28 (a33,c34) (lP rfl) cg
    refine aH ?_
    refine cd hb28 (fun ht=>ak rfl ?_)
    exact gE ((a21,c22),l20) (lM rfl) cg ht.symm
   rintro ⟨⟨a25,c26⟩,l27⟩ τ ρ1 hsub49 hz;(try dsimp only at hz hsub49);subst q29;(try dsimp only at hb13);dsimp only [au]
   refine dx (ml hsub49 (ai [18,19] [(7,pI (IntKind.i64.wrap (v8+1)))] (by kernel_rfl) ?_))
   exact aR hb13 (a25,c26) (lM rfl) cg
  refine aH ?_
  refine cd hb13 (fun ht=>ak rfl ?_)
  exact av ((a6,c7),l5) (lL rfl) cg ht.symm
 rintro ⟨⟨a10,c11⟩,l12⟩ τ hz;(try dsimp only at hz);subst q14;(try dsimp only at h);dsimp only [au]
 refine ae (aj [(10,pN)] (by kernel_rfl) (co (aj [(11,pI 0)] (by kernel_rfl) (aL (bX 61 4 (aa h fun q60 hq60 h=>?_))))))
 refine am (Y:=(Option Addr×Nat)×((List Zc))) (fun ((a56,c57),l58)=>[(10,pO a56 l58.length c57)]) (fun ((a56,c57),l58)=>[PRes.row a56 l58.length c57 61 4 (List.map Zc.enc l58)]) (fun ((a56,c57),l58)=>q60=l58) ?_ ?_
 ·refine aw ?_
  refine aB (Y:=Option Addr×Nat) (S:=(List Zc)×Int) _ hq60 (fun (a52,c53) (l51,v54)=>[(0,pL Zc.enc p0),(6,pO a10 l12.length c11),(10,pO a52 l51.length c53),(11,pI v54)]) (fun (a52,c53) (l51,v54)=>[PRes.row a52 l51.length c53 61 4 (List.map Zc.enc l51),PRes.row a10 l12.length c11 28 2 (List.map Za.enc l12)]) (none,0) (iq rfl) mE ?_
  rintro ⟨a52,c53⟩ ⟨l51,v54⟩ o τ hb59;(try dsimp only at hb59);dsimp only [au]
  refine cT (bF [60,61,62] [(63,pB (decide (v54<(p0.length:Int))))] (by kernel_rfl) rfl hb59 (fun hc62 hb59=>?_) fun hc62 hb59=>?_)
  ·refine ah ?_
   refine cN hb59 fun q68 hq68 hb59=>?_
   refine am (Y:=(Option Addr×Nat)×((List Zc))) (fun ((a65,c66),l67)=>[(0,pL Zc.enc p0),(6,pO a10 l12.length c11),(10,pO a65 l67.length c66),(11,pI v54)]) (fun ((a65,c66),l67)=>[PRes.row a10 l12.length c11 28 2 (List.map Za.enc l12),PRes.row a65 l67.length c66 61 4 (List.map Zc.enc l67)]) (fun ((a65,c66),l67)=>q68=l67) ?_ ?_
   ·skip
    refine nX (aa hq68 fun m69 hm69 hq68=>aa hq68 fun x70 hx70 hq68=>af (aY 6 [] [67,68,69,70] [(66,pO a10 l12.length c11),(71,.agg [pI m69.Claim.Product,pI m69.Claim.Agreement])] (cr 3 Zc.enc hm69 bh) (by kernel_rfl) ?_))
    refine al rfl (bf rfl rfl (ρ1:=[_]) (aW (by exact ar aJ) (List.Perm.refl _)) (lF hx70) ?_);rintro _ _ ⟨rfl,rfl⟩
    refine aa hq68 fun m71 hm71 hq68=>aa hq68 fun x72 hx72 hq68=>gI [] (rg 73 10) [(83,pB (x70&&(x72 == v54)))] (eG 4 Zc.enc (cA hm71) (dK 7 (fun hc=>p7 (cA hx72 hc)) bh)) (by kernel_rfl) (cR rfl hq68 (fun hc73 hq68=>?_) fun hc73 hq68=>?_)
    ·refine aa hq68 ?_;clear hq68;intro m74 hm74 hq68
     refine af (aY 5 [] [85,86,87] [(84,pO a52 l51.length c53),(88,.agg (dg m74))] (cr 3 Zc.enc hm74 bh) (by kernel_rfl) (al rfl (bw rfl rfl rfl rfl rfl (fL rfl iP) rfl rfl rfl rfl (fun b75=>aa hq68 fun l77 hl77 hq68=>?_))))
     refine al rfl (bV (enc:=Zc.enc) rfl rfl rfl rfl rfl rfl rfl rfl rfl fy (by exact ar (ar aJ)) hl77 (fun a78 c79=>?_))
     refine aI [(10,pO a78 l77.length c79)] (by kernel_rfl) (aA ?_)
     obtain rfl:=osi hq68
     exact av ((a78,c79),l77) (iq rfl) (ba (ar (ar aJ)) cg) rfl
    refine ah ?_
    refine aA ?_
    obtain rfl:=osi hq68
    exact av ((a52,c53),l51) (iq rfl) mE rfl
   rintro ⟨⟨a65,c66⟩,l67⟩ τ hz;(try dsimp only at hz);subst q68;(try dsimp only at hb59);dsimp only [au]
   refine ai [64,65] [(11,pI (IntKind.i64.wrap (v54+1)))] (by kernel_rfl) ?_
   exact aR hb59 (a65,c66) (iq rfl) (ba (ar aJ) cg)
  refine aH ?_
  refine cd hb59 (fun ht=>ak rfl ?_)
  exact av ((a52,c53),l51) (qP rfl) cg ht.symm
 rintro ⟨⟨a56,c57⟩,l58⟩ τ hz;(try dsimp only at hz);subst q60;(try dsimp only at h);dsimp only [au]
 refine ae (ai [91] [(4,pO a56 l58.length c57),(5,pI 0)] (by kernel_rfl) (aL ?_))
 refine dr (enc:=Zc.enc) (xs:=l58) 4 rfl (by exact aJ) ?_
 refine bq ?_
 obtain rfl:=osi h
 exact aP (cD (aO rfl) (aO rfl)) bz ⟨rfl,rfl⟩
end SX
namespace SX
open Go
abbrev bl (s:ByteArray):List UInt8:=s.data.toList
theorem bl_hi (s:ByteArray) (k:Nat):bl (s.extract 0 k)=(bl s).take k:=by simp [bl]
theorem bl_lo (s:ByteArray) (k:Nat):bl (s.extract k s.size)=(bl s).drop k:=by
  simp only [bl,ByteArray.data_extract,Array.toList_extract,List.extract_eq_take_drop]
  rw [List.take_of_length_le];simp
theorem mz (s:ByteArray):s.size=(bl s).length:=by simp [bl]
theorem bl_inj {s u:ByteArray} (h:bl s=bl u):s=u:=by
  obtain ⟨⟨x⟩⟩:=s;obtain ⟨⟨y⟩⟩:=u;simp [bl] at h;subst h;rfl
def kw (n:Nat):Bool:=decide (48≤n∧n≤57)
def fU (p:Nat→Bool):List Value:=(List.range 256).map fun i=>.bool (p i)
theorem fD (p:Nat→Bool):(fU p).length=256:=by simp [fU]
theorem mA (p:Nat→Bool) {j:Nat} (h:j<256):(fU p)[j]?=some (.bool (p j)):=by simp [fU,h]
theorem yL (p q:Nat→Bool) {j:Nat} (h:∀ i,q i=(decide (i=j)||p i)):(fU p).set j (.bool true)=fU q:=by
  apply List.ext_getElem?
  intro i
  rw [List.getElem?_set]
  simp only [fD]
  rcases Nat.lt_or_ge i 256 with hi | hi
  · rw [mA q hi,mA p hi,h i]
    by_cases e:j=i
    · subst e;simp [hi]
    · rw [if_neg e];simp [show ¬ i=j from fun h=>e h.symm]
  · rw [List.getElem?_eq_none (by rw [fD];exact hi),List.getElem?_eq_none (by rw [fD];exact hi)]
    split
    · rw [if_neg (by omega)]
    · rfl
section
variable {o:Oper} {σ:Env} {ρ:List Res} {κ:Kr} {c:Bool} {x y:Operand} {K:Value→List Res→Kr→Prop}
theorem Sh.at1 {b k:Nat} {cs:List Value} {v:Value} (h:Sh κ b 0 cs) (hv:cs[k]?=some v):Sh κ b (0+k*1) [v]:=⟨h.1,fun j u hu=>by
  cases j with
  | zero=>simp at hu;subst hu;have:=h.2 k v hv;simpa using this
  | succ j=>simp at hu⟩
theorem An {t b T sz by':Nat} {cs:List Value} {z:Value} {d:TypeDesc} (ho:o.op=.load t x) (hx:Ev σ c x (.pointer (some ⟨b,0,none⟩))) (hm:Res.b b T cs∈ρ) (hd:eP t=some d) (ha:lO d=true) (hi:ga t=some (z,sz,by')) (hl:cs.length=sz):OpQ c o σ ρ κ (.agg cs.toArray):=by
  refine w5 ho hx hm ?_
  unfold kf
  simp only [hd,hi,ha,cond_true,List.drop_zero]
  rw [Nat.ble_eq_true_of_le (by omega)]
  simp [← hl]
end
attribute [local irreducible] WL WC WD OpL OpQ OpG Ev GuardIs Be lN EC Call CallP midK uK Holds uw Sub Pick WS Step Lit Upd SetAt SpliceAt FillR Sh LateRun
theorem tz (κ:Kr) (b:Nat) (p:Nat→Bool) (m:Int) (hs:Sh κ b 0 (fU p)) (h0:0≤m) (h1:m≤255):CallP 204 [.pointer (some ⟨b,0,none⟩),.int .u8 m] κ fun v _=>v=.bool (p m.toNat):=by
  (unfold CallP;apply oE Tryz.func204 (Gv Tryz.func204 rfl) rfl Tryz.ntmps204 Tryz.results204 rfl)
  repeat (first | (first | (apply eR rfl rfl rfl;(focus (first | exact cb (v:=(.int _ _)) rfl (.p rfl) | exact cb (v:=(.pointer _)) rfl (.p rfl) | exact cF (v:=(.bool _)) rfl (.p rfl) | exact pE rfl (.p rfl)))) | apply du) | (first | apply dY | apply bL | apply dW))
  apply eR rfl rfl rfl (xc (j:=m.toNat) rfl rfl rfl (.p rfl) (.p rfl) (fun _=>by omega) (fun _=>by omega))
  apply eR rfl rfl rfl (sy rfl (.p rfl) (fun _=>(hs.mono (by (repeat (exact Kle.refl _)))).at1 (mA p (by omega))) rfl)
  repeat (first | (first | (apply eR rfl rfl rfl;(focus (exact cF (v:=(.bool _)) rfl (.p rfl)))) | apply du) | (first | apply dW | apply mJ))
  exact nB (yh (v:=.bool _) rfl) .none ⟨rfl,rfl⟩
def jv:ByteArray:=⟨#[48,49,50,51,52,53,54,55,56,57]⟩
theorem yM:∀ {k:Nat},k<10→((jv.data.toList.getD k 0).toNat:Int)=48+(k:Int):=by decide
theorem FH (κ:Kr):CallP 180 [.string jv] κ fun v _=>v=.tuple #[.agg (fU kw).toArray,.bool true]:=by
  (unfold CallP;apply oE Tryz.func180 (Gv Tryz.func180 rfl) rfl Tryz.ntmps180 Tryz.results180 rfl)
  repeat (first | (first | (apply eR rfl rfl rfl;(focus (first | exact cF (v:=(.int _ _)) rfl (.p rfl) | exact cF (v:=(.bool _)) rfl (.p rfl)))) | (apply zn rfl rfl rfl;apply w6 rfl rfl;intro _ _ _) | apply du) | (first | apply dY | apply bL | apply ke | apply dW))
  rename_i b2 κ1 _
  have e0:List.replicate 256 (Value.bool false)=fU (fun i=>decide (48≤i∧i<48+0)):=by
    apply List.ext_getElem?
    intro i
    rcases Nat.lt_or_ge i 256 with hi | hi
    · rw [mA _ hi,List.getElem?_replicate,if_pos hi];congr 2;symm;rw [decide_eq_false_iff_not];omega
    · rw [List.getElem?_eq_none (by simpa using hi),List.getElem?_eq_none (by rw [fD];exact hi)]
  rw [e0]
  refine rO (X:=Nat) (fun k=>[(0,.string jv),(2,.pointer (some ⟨b2,0,none⟩)),(4,.int .i64 (k:Int))]) (fun k=>[Res.b b2 243 (fU fun i=>decide (48≤i∧i<48+k))]) (fun k _=>k≤10) (fun k=>10 - k) 0 (by (repeat (first | exact Holds.nil | apply Holds.cons rfl))) (by (repeat (first | exact Sub.nil | (apply Sub.cons;(focus (repeat (exact Pick.h))))))) (by omega) ?_
  intro k τ κ2 _ hk
  simp only [uw]
  repeat (first | (first | (apply eR rfl rfl rfl;(focus (first | exact cb (v:=(.int _ _)) rfl (.p rfl) | exact cb (v:=(.string _)) rfl (.p rfl) | exact oB rfl (.p rfl) (.p rfl) rfl | exact nt rfl rfl (.p rfl)))) | apply du) | (first | apply dY | apply bL | apply dW))
  apply yk rfl <;> intro hc
  · have hk10:k<10:=by
      have e:(jv.size:Int)=10:=rfl
      rw [e] at hc;omega
    repeat (first | (apply eR rfl rfl rfl;(focus (first | exact cb (v:=(.int _ _)) rfl (.p rfl) | exact cb (v:=(.string _)) rfl (.p rfl)))) | (first | apply dY | apply bL | apply ke | apply dW | apply kb))
    apply eR rfl rfl rfl (nR (s:=jv) (j:=k) rfl rfl (.p rfl) (.p rfl) (fun _=>rfl) (fun _=>hk10))
    rw [yM hk10]
    repeat (first | (first | (apply eR rfl rfl rfl;(focus (first | exact cb (v:=(.int _ _)) rfl (.p rfl) | exact cF (v:=(.int _ _)) rfl (.p rfl) | exact oB rfl (.p rfl) (.p rfl) rfl))) | apply du) | (first | apply dY | apply bL | apply dW))
    apply Et (by have:¬ (128:Int)≤48+(k:Int):=by omega
                 simp [ev,upd,this])
    repeat (first | (apply eR rfl rfl rfl;(focus (exact cb (v:=(.int _ _)) rfl (.p rfl)))) | (first | apply bL | apply dW | apply kb))
    apply eR rfl rfl rfl (xc (j:=48+k) rfl rfl rfl (.p rfl) (.p rfl) (fun _=>by omega) (fun _=>by omega))
    apply Co rfl rfl
    apply Dq (v:=.bool true) rfl rfl rfl rfl rfl rfl (by (repeat (exact Upd.h))) (by rw [fD];omega)
    intro κ3 _
    have e1:(fU fun i=>decide (48≤i∧i<48+k)).set (0+(48+k)*1) (.bool true)=fU fun i=>decide (48≤i∧i<48+(k+1)) :=
      yL _ _ fun i=>by rw [Bool.eq_iff_iff];simp;omega
    rw [e1]
    repeat (first | (first | (apply eR rfl rfl rfl;(focus (first | exact cb (v:=(.int _ _)) rfl (.p rfl) | exact cF (v:=(.int _ _)) rfl (.p rfl) | exact oC rfl (.p rfl) (.p rfl) rfl (fun _=>by omega)))) | apply du) | (first | apply bL | apply dW | apply qt))
    exact yg (k+1) (by (repeat (first | exact Holds.nil | apply Holds.cons rfl))) (by (repeat (first | exact Sub.nil | (apply Sub.cons;(focus (repeat (exact Pick.h))))))) (by omega) (by omega)
  · have hk10:k=10:=by
      have e:(jv.size:Int)=10:=rfl
      rw [e] at hc;omega
    subst hk10
    have e2:(fun i=>decide (48≤i∧i<48+10))=kw:=by funext i;simp only [kw];rw [Bool.eq_iff_iff];simp;omega
    rw [e2]
    apply oz;apply kO;apply jP;apply kQ rfl;apply dW;apply dY;apply bL
    apply eR rfl rfl rfl (An rfl (.p rfl) (by (repeat (exact List.Mem.head _))) rfl rfl rfl (fD _))
    apply Co rfl rfl
    apply w7 rfl rfl rfl rfl (fD _) (by simp [fU,Value.oneCell']) (by (repeat (exact Upd.h))) rfl
    intro κ3 _
    repeat (first | (first | (apply eR rfl rfl rfl;(focus (exact cF (v:=(.bool _)) rfl (.p rfl)))) | apply du) | (first | apply dW | apply mJ))
    refine nB (rv_2 (RV1.cell rfl (by (repeat (exact List.Mem.head _))) ?_) (rv1_t (v:=.bool _) rfl)) .none ⟨rfl,rfl⟩
    unfold kf
    simp only [show eP 243=some (.array 256 4) from rfl,show ga 243=some (.agg (List.replicate 256 (.bool false)).toArray,256,256) from rfl,lO,cond_true,List.drop_zero,fD]
    rw [List.take_of_length_le (by rw [fD];omega)];rfl
theorem ur {l:List UInt8} {j:Nat} (h:j<l.length):l.getD j 0=l[j]:=by simp [List.getD_eq_getElem?_getD,h]
theorem yN (κ:Kr) (b:Nat) (s:ByteArray) (hs:Sh κ b 0 (fU kw)) (hz:s.size≤1000000000):CallP 182 [.string s,.pointer (some ⟨b,0,none⟩)] κ fun v _=>∃ u k,v=.string u∧bl u=(bl s).take k∧k≤(bl s).length∧(∀ c∈(bl s).drop k,kw c.toNat=true)∧(∀ c,(bl u).getLast?=some c→kw c.toNat=false):=by
  (unfold CallP;apply oE Tryz.func182 (Gv Tryz.func182 rfl) rfl Tryz.ntmps182 Tryz.results182 rfl)
  repeat (first | (first | (apply eR rfl rfl rfl;(focus (exact cF (v:=(.string _)) rfl (.p rfl)))) | apply du) | (first | apply dY | apply bL | apply ke | apply dW))
  refine rO (X:=ByteArray×Nat) (fun z=>[(0,.string z.1),(1,.pointer (some ⟨b,0,none⟩))]) (fun _=>[]) (fun z _=>bl z.1=(bl s).take z.2∧z.2≤(bl s).length∧∀ c∈(bl s).drop z.2,kw c.toNat=true) (fun z=>z.2) (s,(bl s).length) (by (repeat (first | exact Holds.nil | apply Holds.cons rfl))) (by (repeat (exact Sub.nil))) ⟨(List.take_length).symm,Nat.le_refl _,by rw [List.drop_length];simp⟩ ?_
  rw [mz] at hz
  rintro ⟨u,k⟩ τ κ2 _ ⟨h1,h2,h3⟩
  dsimp only at h1 h2 h3
  have hsz:u.size=k:=by rw [mz,h1,List.length_take];omega
  simp only [uw]
  repeat (first | (first | (apply eR rfl rfl rfl;(focus (first | exact cb (v:=(.string _)) rfl (.p rfl) | exact oB rfl (.p rfl) (.p rfl) rfl | exact nt rfl rfl (.p rfl)))) | apply du) | (first | apply dY | apply bL | apply dW))
  apply yk rfl <;> intro hc
  · have hk0:0<k:=by omega
    repeat (first | (apply eR rfl rfl rfl;(focus (first | exact cb (v:=(.pointer _)) rfl (.p rfl) | exact cb (v:=(.string _)) rfl (.p rfl) | exact oC rfl (.p rfl) (.p rfl) rfl (fun _=>by omega) | exact nt rfl rfl (.p rfl)))) | (first | apply dY | apply bL | apply ke | apply dW | apply kb))
    apply eR rfl rfl rfl (nR (j:=k - 1) rfl rfl (.p rfl) (.p rfl) (fun _=>by omega) (fun _=>by omega))
    have hlast:(bl u).getLast?=some ((bl u).getD (k - 1) 0):=by
      rw [List.getLast?_eq_getElem?,← mz,hsz,ur (by rw [← mz];omega),List.getElem?_eq_getElem]
    apply zn rfl rfl rfl;apply mK rfl rfl (tz _ b kw ((u.data.toList.getD (k - 1) 0).toNat:Int) (hs.mono (by (repeat (assumption)))) (by omega) (by have:=(u.data.toList.getD (k - 1) 0).toNat_lt;omega))
    rintro v κ3 _ rfl
    repeat (first | (first | (apply eR rfl rfl rfl;(focus (exact Bg rfl (.p rfl)))) | apply du) | (apply dW))
    rw [Int.toNat_natCast]
    apply mi rfl <;> intro hb
    · repeat (first | (first | (apply eR rfl rfl rfl;(focus (first | exact cb (v:=(.string _)) rfl (.p rfl) | exact cF (v:=(.string _)) rfl (.p rfl)))) | apply du) | (first | apply dY | apply bL | apply dW | apply mJ | apply oz | apply kO | apply kQ rfl | apply uJ rfl | apply jP))
      refine nB (yh (v:=.string _) rfl) .none ⟨rfl,u,k,rfl,h1,h2,h3,fun c hc=>?_⟩
      rw [hlast] at hc;injection hc with hc;subst hc;simpa using hb
    · repeat (first | (apply eR rfl rfl rfl;(focus (first | exact cb (v:=(.string _)) rfl (.p rfl) | exact oC rfl (.p rfl) (.p rfl) rfl (fun _=>by omega) | exact nt rfl rfl (.p rfl)))) | (first | apply bL | apply dW | apply kb))
      apply eR rfl rfl rfl (tj (h:=k - 1) rfl rfl (.p rfl) (.p rfl) (fun _=>by omega) (fun _=>by omega))
      repeat (first | (first | (apply eR rfl rfl rfl;(focus (exact cF (v:=(.string _)) rfl (.p rfl)))) | apply du) | (apply qt))
      refine yg (u.extract 0 (k - 1),k - 1) (by (repeat (first | exact Holds.nil | apply Holds.cons rfl))) (by (repeat (exact Sub.nil))) ⟨?_,by ((try dsimp only at *) <;> omega),?_⟩ (by ((try dsimp only at *) <;> omega))
      · rw [bl_hi,h1,List.take_take];congr 1;omega
      · intro c hc
        rw [List.drop_eq_getElem_cons (by omega)] at hc
        rcases List.mem_cons.1 hc with rfl | hc
        · have e:(bl u).getD (k - 1) 0=(bl s)[k - 1]'(by omega):=by
            rw [ur (by rw [← mz];omega)];simp [h1]
          rw [← e];simpa using hb
        · rw [show k - 1+1=k by omega] at hc;exact h3 c hc
  · repeat (first | (first | (apply eR rfl rfl rfl;(focus (first | exact cb (v:=(.string _)) rfl (.p rfl) | exact cF (v:=(.string _)) rfl (.p rfl)))) | apply du) | (first | apply dY | apply bL | apply dW | apply mJ | apply oz | apply kO | apply kQ rfl | apply jP))
    refine nB (yh (v:=.string _) rfl) .none ⟨rfl,u,k,rfl,h1,h2,h3,fun c hc'=>?_⟩
    have:bl u=[]:=List.eq_nil_of_length_eq_zero (by rw [← mz];omega)
    rw [this] at hc';cases hc'
end SX
namespace SX
open Go
attribute [local irreducible] WL WC WD OpL OpQ OpG Ev GuardIs Be lN EC Call CallP midK uK Holds uw Sub Pick WS Step Lit Upd SetAt SpliceAt FillR Sh LateRun
theorem Ao (κ:Kr) (b:Nat) (s:ByteArray) (hs:Sh κ b 0 (fU kw)):CallP 181 [.string s,.pointer (some ⟨b,0,none⟩)] κ fun v _=>∃ u k,v=.string u∧bl u=(bl s).drop k∧k≤(bl s).length∧(∀ c∈(bl s).take k,kw c.toNat=true)∧(∀ c,(bl u).head?=some c→kw c.toNat=false):=by
  (unfold CallP;apply oE Tryz.func181 (Gv Tryz.func181 rfl) rfl Tryz.ntmps181 Tryz.results181 rfl)
  repeat (first | (first | (apply eR rfl rfl rfl;(focus (exact cF (v:=(.string _)) rfl (.p rfl)))) | apply du) | (first | apply dY | apply bL | apply ke | apply dW))
  refine rO (X:=ByteArray×Nat) (fun z=>[(0,.string z.1),(1,.pointer (some ⟨b,0,none⟩))]) (fun _=>[]) (fun z _=>bl z.1=(bl s).drop z.2∧z.2≤(bl s).length∧∀ c∈(bl s).take z.2,kw c.toNat=true) (fun z=>(bl s).length - z.2) (s,0) (by (repeat (first | exact Holds.nil | apply Holds.cons rfl))) (by (repeat (exact Sub.nil))) ⟨rfl,Nat.zero_le _,by simp⟩ ?_
  rintro ⟨u,k⟩ τ κ2 _ ⟨h1,h2,h3⟩
  dsimp only at h1 h2 h3
  have hsz:u.size=(bl s).length - k:=by rw [mz,h1,List.length_drop]
  simp only [uw]
  repeat (first | (first | (apply eR rfl rfl rfl;(focus (first | exact cb (v:=(.string _)) rfl (.p rfl) | exact oB rfl (.p rfl) (.p rfl) rfl | exact nt rfl rfl (.p rfl)))) | apply du) | (first | apply dY | apply bL | apply dW))
  apply yk rfl <;> intro hc
  · have hk0:k<(bl s).length:=by omega
    have hu0:0<(bl u).length:=by rw [← mz];omega
    repeat (first | (apply eR rfl rfl rfl;(focus (first | exact cb (v:=(.pointer _)) rfl (.p rfl) | exact cb (v:=(.string _)) rfl (.p rfl)))) | (first | apply dY | apply bL | apply ke | apply dW | apply kb))
    apply eR rfl rfl rfl (nR (j:=0) rfl rfl (.p rfl) (.p rfl) (fun _=>by omega) (fun _=>by omega))
    have hhead:(bl u).head?=some ((bl u).getD 0 0):=by
      rw [List.head?_eq_getElem?,ur hu0,List.getElem?_eq_getElem hu0]
    apply zn rfl rfl rfl;apply mK rfl rfl (tz _ b kw ((u.data.toList.getD 0 0).toNat:Int) (hs.mono (by (repeat (assumption)))) (by omega) (by have:=(u.data.toList.getD 0 0).toNat_lt;omega))
    rintro v κ3 _ rfl
    repeat (first | (first | (apply eR rfl rfl rfl;(focus (exact Bg rfl (.p rfl)))) | apply du) | (apply dW))
    rw [Int.toNat_natCast]
    apply mi rfl <;> intro hb
    · repeat (first | (first | (apply eR rfl rfl rfl;(focus (first | exact cb (v:=(.string _)) rfl (.p rfl) | exact cF (v:=(.string _)) rfl (.p rfl)))) | apply du) | (first | apply dY | apply bL | apply dW | apply mJ | apply oz | apply kO | apply kQ rfl | apply uJ rfl | apply jP))
      refine nB (yh (v:=.string _) rfl) .none ⟨rfl,u,k,rfl,h1,h2,h3,fun c hc=>?_⟩
      rw [hhead] at hc;injection hc with hc;subst hc;simpa using hb
    · repeat (first | (apply eR rfl rfl rfl;(focus (exact cb (v:=(.string _)) rfl (.p rfl)))) | (first | apply bL | apply dW | apply kb))
      apply eR rfl rfl rfl (tk (l:=1) rfl rfl (.p rfl) (.p rfl) (fun _=>by omega) (fun _=>by omega))
      repeat (first | (first | (apply eR rfl rfl rfl;(focus (exact cF (v:=(.string _)) rfl (.p rfl)))) | apply du) | (apply qt))
      refine yg (u.extract 1 u.size,k+1) (by (repeat (first | exact Holds.nil | apply Holds.cons rfl))) (by (repeat (exact Sub.nil))) ⟨?_,by ((try dsimp only at *) <;> omega),?_⟩ (by ((try dsimp only at *) <;> omega))
      · rw [bl_lo,h1,List.drop_drop]
      · intro c hc
        rw [List.take_add_one] at hc
        rcases List.mem_append.1 hc with hc | hc
        · exact h3 c hc
        · have e:(bl u).getD 0 0=(bl s)[k]'hk0:=by rw [ur hu0];simp [h1]
          rw [List.getElem?_eq_getElem hk0] at hc
          simp only [Option.toList_some,List.mem_cons,List.not_mem_nil,or_false] at hc
          subst hc;rw [← e];simpa using hb
  · repeat (first | (first | (apply eR rfl rfl rfl;(focus (first | exact cb (v:=(.string _)) rfl (.p rfl) | exact cF (v:=(.string _)) rfl (.p rfl)))) | apply du) | (first | apply dY | apply bL | apply dW | apply mJ | apply oz | apply kO | apply kQ rfl | apply jP))
    refine nB (yh (v:=.string _) rfl) .none ⟨rfl,u,k,rfl,h1,h2,h3,fun c hc'=>?_⟩
    have:bl u=[]:=List.eq_nil_of_length_eq_zero (by rw [← mz];omega)
    rw [this] at hc';cases hc'
def lg (s:ByteArray):Bool:=(bl s).all fun c=>kw c.toNat
theorem xr {s:ByteArray}:s=⟨#[]⟩↔bl s=[]:=⟨fun h=>by rw [h],fun h=>bl_inj (by rw [h])⟩
theorem trim_ok (κ:Kr) (s:ByteArray) (hz:s.size≤1000000000):CallP 156 [.string s,.string jv] κ fun v _=>∃ u,v=.string u∧(u=⟨#[]⟩↔lg s=true):=by
  (unfold CallP;apply oE Tryz.func156 (Gv Tryz.func156 rfl) rfl Tryz.ntmps156 Tryz.results156 rfl)
  repeat (first | (first | (apply eR rfl rfl rfl;(focus (first | exact cb (v:=(.bool _)) rfl (.p rfl) | exact cb (v:=(.string _)) rfl (.p rfl) | exact cF (v:=(.string _)) rfl (.p rfl) | exact oq_or rfl (.p rfl) (.p rfl) (.g rfl) | exact xZ rfl (.p rfl) (.p rfl) rfl))) | (apply uy;(focus (exact Cn rfl rfl rfl));rfl;rfl;(focus (first | (apply cb (v:=(.string _)) rfl;(focus (exact Ev.p rfl))) | (apply xZ rfl (by (focus (exact Ev.g rfl))) (by (focus (exact Ev.p rfl)));rfl)))) | apply du) | (first | apply dY | apply bL | apply dW))
  apply mi rfl <;> intro hb
  · repeat (first | (first | (apply eR rfl rfl rfl;(focus (first | exact cb (v:=(.string _)) rfl (.p rfl) | exact cF (v:=(.string _)) rfl (.p rfl)))) | apply du) | (first | apply dY | apply bL | apply dW | apply mJ | apply sB))
    have:s=⟨#[]⟩:=by simpa [jv] using hb
    refine nB (yh (v:=.string _) rfl) .none ⟨rfl,s,rfl,?_⟩
    subst this;simp [lg,bl]
  · have hne:¬ bl s=[]:=fun h=>by rw [xr.2 h] at hb;simp at hb
    repeat (first | (first | (apply eR rfl rfl rfl;(focus (first | exact cb (v:=(.bool _)) rfl (.p rfl) | exact cb (v:=(.string _)) rfl (.p rfl) | exact oB rfl (.p rfl) (.p rfl) rfl | exact nt rfl rfl (.p rfl)))) | (apply uy;(focus (exact oy rfl rfl rfl));rfl;rfl;(focus (apply cb (v:=(.string _)) rfl;(focus (exact Ev.p rfl)))))) | (first | apply dY | apply bL | apply dW | apply kb))
    apply uy;(focus (exact oy rfl rfl rfl));rfl;rfl;exact nR (s:=jv) (j:=0) rfl rfl (.g rfl) (.p rfl) (fun _=>rfl) (fun _=>by decide)
    repeat (first | (first | (apply eR rfl rfl rfl;(focus (exact Bf rfl (.p rfl) (.p rfl) (.g rfl)))) | (apply uy;(focus (exact oy rfl rfl rfl));rfl;rfl;(focus (apply oB rfl (by (focus (exact Ev.g rfl))) (by (focus (exact Ev.p rfl)));rfl))) | apply du) | (apply dW))
    apply mi rfl <;> intro hb2
    · have e:(jv.size:Int)=10:=rfl
      rw [e] at hb2;simp at hb2
    repeat (first | (apply eR rfl rfl rfl;(focus (exact cb (v:=(.string _)) rfl (.p rfl)))) | (first | apply dY | apply bL | apply dW | apply kb))
    refine wl_fun rfl rfl rfl rfl rfl (FH _) fun κ1 _=>?_
    repeat (first | (first | (apply eR rfl rfl rfl;(focus (first | exact cb (v:=(.bool _)) rfl (.p rfl) | exact cb (v:=(.tuple _)) rfl (.p rfl) | exact cF (v:=(.bool _)) rfl (.p rfl) | exact uz rfl (.p rfl) rfl))) | (apply zn rfl rfl rfl;apply w6 rfl rfl;intro _ _ _) | (apply Co rfl rfl;apply w7 rfl rfl rfl rfl rfl rfl;(focus (repeat (exact Upd.h)));rfl;intro _ _) | apply du) | (first | apply dY | apply bL | apply dW))
    rename_i b5 _ _ _ _
    apply wc_pub (b:=b5) Pick.h rfl;intro κ3 _ hS hsays
    have hset:=EO hS hsays
    apply Es rfl
    repeat (first | (apply eR rfl rfl rfl;(focus (exact cb (v:=(.string _)) rfl (.p rfl)))) | (first | apply dY | apply bL))
    apply zn rfl rfl rfl;apply mK rfl rfl (yN _ b5 s (hset.mono (by (repeat (exact Kle.refl _)))) hz)
    rintro v κ4 _ ⟨u,k,rfl,h1,h2,h3,h4⟩
    apply zn rfl rfl rfl;apply mK rfl rfl (Ao _ b5 u (hset.mono (by (repeat (assumption)))))
    rintro v κ5 _ ⟨u2,k2,rfl,g1,g2,g3,g4⟩
    repeat (first | (first | (apply eR rfl rfl rfl;(focus (exact cF (v:=(.string _)) rfl (.p rfl)))) | apply du) | (first | apply dW | apply mJ | apply sB))
    refine nB (yh (v:=.string _) rfl) .none ⟨rfl,u2,rfl,?_⟩
    rw [xr]
    unfold lg
    rw [List.all_eq_true]
    constructor
    · intro h
      have hk2:k2=(bl u).length:=by
        have:=congrArg List.length (g1.symm.trans h);simp only [List.length_drop,List.length_nil] at this;omega
      intro c hc
      rw [← List.take_append_drop k (bl s)] at hc
      rcases List.mem_append.1 hc with hc | hc
      · rw [← h1] at hc;rw [hk2,List.take_length] at g3;exact g3 c hc
      · exact h3 c hc
    · intro h
      have hu:bl u=[]:=by
        rcases List.eq_nil_or_concat (bl u) with hu | ⟨l,c,hu⟩
        · exact hu
        · have hc:=h4 c (by rw [hu];simp)
          have hm:c∈bl s:=List.mem_of_mem_take (i:=k) (by rw [← h1,hu];simp)
          rw [h c hm] at hc;cases hc
      rw [g1,hu];simp
def Glob (κ:Kr):Prop:=Sh κ 0 0 [.int .i64 2,.int .i64 4,.int .i64 6,.int .i64 8]
theorem Glob.mono {κ κ':Kr} (h:Glob κ) (k:Kle κ κ'):Glob κ':=Sh.mono h k
def dQ (s:ByteArray):Int:=if (s.size=2∨s.size=4∨s.size=6∨s.size=8)∧lg s=true then (s.size:Int) else 0
theorem gv_some {c:Bool} {v:Value} {P:ByteArray→Prop} (h:c=true→∃ u,v=.string u∧P u):∃ u,gv c v=gv c (.string u)∧(c=true→P u):=by
  cases c
  · exact ⟨⟨#[]⟩,by rw [iO,iO],fun h=>by cases h⟩
  · obtain ⟨u,rfl,h2⟩:=h rfl;exact ⟨u,rfl,fun _=>h2⟩
theorem FI (κ:Kr) (s:ByteArray) (hg:Glob κ):CallP 109 [.string s] κ fun v _=>v=.int .i64 (dQ s):=by
  (unfold CallP;apply oE Tryz.func109 (Gv Tryz.func109 rfl) rfl Tryz.ntmps109 Tryz.results109 rfl)
  repeat (first | (first | (apply eR rfl rfl rfl;(focus (exact cF (v:=(.int _ _)) rfl (.p rfl)))) | apply du) | (first | apply dY | apply bL | apply dW))
  apply eR rfl rfl rfl (sy rfl (.p rfl) (fun _=>hg) rfl)
  repeat (first | (first | (apply eR rfl rfl rfl;(focus (exact cb (v:=(.int _ _)) rfl (.p rfl)))) | apply du) | (first | apply ke | apply dW))
  refine rO (X:=Nat) (fun k=>[(0,.string s),(5,.agg #[.int .i64 2,.int .i64 4,.int .i64 6,.int .i64 8]),(6,.int .i64 (k:Int))]) (fun _=>[]) (fun k _=>k≤4∧∀ j,j<k→¬ (s.size=2*(j+1)∧lg s=true)) (fun k=>4 - k) 0 (by (repeat (first | exact Holds.nil | apply Holds.cons rfl))) (by (repeat (exact Sub.nil))) ⟨by omega,by omega⟩ ?_
  rintro k τ κ1 _ ⟨hk,hno⟩
  simp only [uw]
  repeat (first | (first | (apply eR rfl rfl rfl;(focus (exact oB rfl (.p rfl) (.p rfl) rfl))) | apply du) | (first | apply dY | apply bL | apply dW))
  apply yk rfl <;> intro hc
  · have hk4:k<4:=by omega
    repeat (first | apply dY | apply bL | apply ke | apply dW | apply kb)
    apply eR rfl rfl rfl (Dp (cs:=[.int .i64 2,.int .i64 4,.int .i64 6,.int .i64 8]) (v:=.int .i64 (2*((k:Int)+1))) (j:=k) rfl rfl rfl rfl rfl (.p rfl) (.p rfl) (fun _=>rfl) (fun _=>hk4) (fun _=>by
      have:k=0∨k=1∨k=2∨k=3:=by omega
      rcases this with rfl | rfl | rfl | rfl <;> rfl))
    repeat (first | (first | (apply eR rfl rfl rfl;(focus (first | exact cb (v:=(.int _ _)) rfl (.p rfl) | exact cb (v:=(.bool _)) rfl (.p rfl) | exact cb (v:=(.string _)) rfl (.p rfl) | exact cF (v:=(.int _ _)) rfl (.p rfl) | exact oB rfl (.p rfl) (.p rfl) rfl | exact nt rfl rfl (.p rfl)))) | (apply uy;(focus (exact oy rfl rfl rfl));rfl;rfl;(focus (apply cb (v:=(.string _)) rfl;(focus (exact Ev.p rfl))))) | apply du) | (first | apply dY | apply bL | apply dW))
    apply wl_g;(focus (exact oy rfl rfl rfl));rfl;rfl
    refine zw rfl (ar2 (.g rfl) (.p rfl)) (fun hcc=>trim_ok _ s (by simp at hcc;omega)) fun v κ2 _ hv=>?_
    obtain ⟨u,hu,hP⟩:=gv_some hv
    rw [hu]
    repeat (first | (first | (apply eR rfl rfl rfl;(focus (exact Bf rfl (.p rfl) (.p rfl) (.g rfl)))) | (apply uy;(focus (exact oy rfl rfl rfl));rfl;rfl;(focus (apply xZ rfl (by (focus (exact Ev.g rfl))) (by (focus (exact Ev.p rfl)));rfl))) | apply du) | (apply dW))
    apply mi rfl <;> intro hb
    · simp only [Bool.and_eq_true,beq_iff_eq,decide_eq_true_eq] at hb
      have hd:lg s=true:=(hP (by simpa using hb.1)).1 hb.2
      repeat (first | (first | (apply eR rfl rfl rfl;(focus (first | exact cb (v:=(.int _ _)) rfl (.p rfl) | exact cF (v:=(.int _ _)) rfl (.p rfl)))) | apply du) | (first | apply dY | apply bL | apply dW | apply mJ | apply sB | apply zF | apply Bi))
      refine nB (yh (v:=.int _ _) rfl) .none ⟨rfl,?_⟩
      show Value.int .i64 (2*((k:Int)+1))=.int .i64 (dQ s)
      unfold dQ
      rw [if_pos ⟨by omega,hd⟩,← hb.1]
    · repeat (first | (first | (apply eR rfl rfl rfl;(focus (first | exact cb (v:=(.int _ _)) rfl (.p rfl) | exact oC rfl (.p rfl) (.p rfl) rfl (fun _=>by omega)))) | apply du) | (first | apply bL | apply dW | apply kb | apply qt))
      refine yg (k+1) (by (repeat (first | exact Holds.nil | apply Holds.cons rfl))) (by (repeat (exact Sub.nil))) ⟨by omega,fun j hj=>?_⟩ (by omega)
      rcases Nat.lt_or_ge j k with h | h
      · exact hno j h
      · have:j=k:=by omega
        subst this
        rintro ⟨h1,h2⟩
        have hcc:((s.size:Int) == 2*((j:Int)+1))=true:=by simp;omega
        have:=(hP (by simpa using hcc)).2 h2
        subst this
        rw [hcc] at hb;simp at hb
  · repeat (first | (first | (apply eR rfl rfl rfl;(focus (exact cF (v:=(.int _ _)) rfl (.p rfl)))) | apply du) | (first | apply dY | apply bL | apply dW | apply mJ | apply oz | apply kO | apply kQ rfl | apply jP))
    refine nB (yh (v:=.int _ _) rfl) .none ⟨rfl,?_⟩
    show Value.int .i64 0=.int .i64 (dQ s)
    unfold dQ
    rw [if_neg]
    rintro ⟨h1,h2⟩
    have:k=4:=by omega
    subst this
    rcases h1 with h1 | h1 | h1 | h1
    · exact hno 0 (by omega) ⟨h1,h2⟩
    · exact hno 1 (by omega) ⟨h1,h2⟩
    · exact hno 2 (by omega) ⟨h1,h2⟩
    · exact hno 3 (by omega) ⟨h1,h2⟩
end SX
namespace SX
open Go
def dN (p0:ByteArray):Option Int:=some (dQ p0)
theorem f0 {p0:ByteArray} {r:Int} (h:dN p0=some r):PF 109 [.v (.string p0)] (.v (.int .i64 r)):=fun κ args g ha=>by
 obtain ⟨v,ws,rfl,h1,h2⟩:=ha.cons_inv
 rw [h2.nil_inv,h1.val]
 have h:=Option.some.inj h;subst h
 exact (FI κ p0 g).mono fun v κ' _ hv=>by subst hv;exact .v rfl
def itr (b:Nat) (s:ByteArray) (pos:Nat):Res:=⟨some b,fun o=>o=some (.stringIter s pos)⟩
theorem FJ {o:Oper} {σ:PEnv} {ρ:List PRes} {x:Operand} {t:Nat} {s:ByteArray} {K:PV→List PRes→Prop} (ho:o.op=.range t x) (hu:eP t=some .string) (hx:bp σ x=.v (.string s)) (h:∀ b,K (.v (.pointer (some ⟨b,0,none⟩))) (.raw (itr b s 0)::ρ)):POpL o σ ρ K:=fun κ σ' ρ' g hs hr β hi Nx hk=>by
 have e1:=hs.v1 hx
 have h1:=run_underlying (w:=κ.w) (bP hu)
 have hrun:(execOp (ev σ') o).run Tryz.prog κ.w=.ok (.value (.pointer (some ⟨κ.w.heap.size,0,none⟩))) (κ.w.alloc (.stringIter s 0)):=by
  simp [execOp,ho,e1,Instr.range,h1,run_newObj_alloc]
 rw [hrun]
 exact hk _ _ ⟨κ.w.alloc (.stringIter s 0),κ.S⟩ (hi.alloc _ (itr κ.w.heap.size s 0) rfl rfl) (fc hi.fin _) ⟨_,_,.v rfl,.cons .raw (hr.mono (fc hi.fin _)),h _⟩
theorem pl_next {o:Oper} {σ:PEnv} {ρ ρ1:List PRes} {x:Operand} {b pos:Nat} {s:ByteArray} {K:PV→List PRes→Prop} (ho:o.op=.next x true) (hx:bp σ x=.v (.pointer (some ⟨b,0,none⟩))) (hu:PUpd ρ (.raw (itr b s pos)) (.raw (itr b s (pos+(Utf8.decode s pos).2))) ρ1) (h1:pos<s.size→K (.tup [.v (.bool true),.v (.int .i64 (pos:Int)),.v (.int .i32 ((Utf8.decode s pos).1:Int))]) ρ1) (h2:s.size≤pos→K (.tup [.v (.bool false)]) ρ):POpL o σ ρ K:=fun κ σ' ρ' g hs hr β hi Nx hk=>by
 have e1:=hs.v1 hx
 have hr0:=hr
 obtain ⟨r0,l1,l2,rfl,h4,h5⟩:=hr.upd hu
 cases h4 with
 | raw =>
  have hb:κ.w.heap[b]?=some (.stringIter s pos):=hi.own (itr b s pos) (by simp)
  have hg:(getObj b).run Tryz.prog κ.w=.ok (.stringIter s pos) κ.w:=by simp [getObj,Sem.run,hb]
  have hset:∀ ob,(setObj b ob).run Tryz.prog κ.w=.ok () { κ.w with heap:=κ.w.heap.setIfInBounds b ob }:=fun ob=>by simp [setObj,Sem.run,hb]
  rcases Nat.lt_or_ge pos s.size with hlt | hge
  ·have hrun:(execOp (ev σ') o).run Tryz.prog κ.w=.ok (.value (.tuple #[.bool true,goInt pos,.int .i32 ((Utf8.decode s pos).1:Int)])) { κ.w with heap:=κ.w.heap.setIfInBounds b (.stringIter s (pos+(Utf8.decode s pos).2)) }:=by
    simp [execOp,ho,e1,Instr.next,hg,hlt,hset]
   rw [hrun]
   obtain ⟨i1,i2⟩:=hi.turn (r:=itr b s pos) (r':=itr b s (pos+(Utf8.decode s pos).2)) (b:=b) (w':={ κ.w with heap:=κ.w.heap.setIfInBounds b (.stringIter s (pos+(Utf8.decode s pos).2)) }) rfl rfl rfl (fun i hi=>tn hi) (by simp) (tp hb) rfl rfl rfl (Nat.le_refl _)
   exact hk _ _ _ i1 i2 ⟨_,ρ1,.tup (ws:=[_,_,_]) (.cons (.v rfl) (.cons (.v rfl) (.cons (.v rfl) .nil))),h5 _ _ i2 .raw,h1 hlt⟩
  ·have hrun:(execOp (ev σ') o).run Tryz.prog κ.w=.ok (.value (.tuple #[.bool false])) κ.w:=by
    simp [execOp,ho,e1,Instr.next,hg,Nat.not_lt.2 hge]
   rw [hrun]
   exact hk _ _ κ hi (.refl _) ⟨_,ρ,.tup (ws:=[_]) (.cons (.v rfl) .nil),hr0,h2 hge⟩
def j5 (s:ByteArray) (pos:Nat):Option (Nat⊕Bool):=cond (Nat.blt pos s.size) (cond (decide (((Utf8.decode s pos).1:Int)<97)||decide (122<((Utf8.decode s pos).1:Int))) (some (.inr false)) (some (.inl (pos+(Utf8.decode s pos).2)))) (some (.inr true))
def kx (p0:ByteArray):Option Bool:=cond (decide ((p0.size:Int)<1)||decide (12<(p0.size:Int))) (some false) (aV (j5 p0) FUEL 0)
attribute [local irreducible] PWL PWC PWD POpL POpQ PEv PGuardIs PSub PPick PUpd PSplice PFill PLit PF PFV PCall FOk eQ eE lW nU je mO Cov PHolds aV j5
theorem t7 {p0:ByteArray} {r:Bool} (h:kx p0=some r):PF 110 [pS p0] (pB r):=by
 unfold kx at h
 refine bd ?_
 refine i4 Tryz.func110 rfl Tryz.ntmps110 Tryz.results110 rfl ?_
 (repeat refine ae ?_)
 refine aq [] [2] [] bh (by kernel_rfl) ?_
 (repeat (first | apply aA | apply aL))
 (repeat refine ae ?_)
 refine aq [] [5,6,7,8,9,10,11] [(12,pB (decide ((p0.size:Int)<1)||decide (12<(p0.size:Int))))] bh (by kernel_rfl) ?_
 (repeat (first | apply aA | apply aL))
 (repeat refine ae ?_)
 refine gN rfl (fun hc=>?_) (fun hc=>?_)
 ·replace h:=Bo hc h
  (repeat refine ae ?_)
  refine aq [] [] [(2,pB false)] bh (by kernel_rfl) ?_
  (repeat (first | apply aA | apply aL))
  (repeat refine ae ?_)
  refine bq ?_
  (repeat (first | apply ap | apply cQ | apply mN | apply gF))
  obtain rfl:=Option.some.inj h
  exact aP (da (aO rfl)) bz ⟨rfl,rfl⟩
 replace h:=Bp hc h
 refine ah ?_
 (repeat (first | apply aA | apply aL))
 (repeat refine ae ?_)
 refine af ?_
 refine aY 1 [] [] [(13,pS p0)] bh (by kernel_rfl) ?_
 refine EU rfl rfl rfl (FJ rfl rfl rfl fun b=>?_)
 refine aG ?_
 (repeat (first | apply aA | apply aL))
 (repeat refine ae ?_)
 refine am (Y:=Unit) (fun _=>[]) (fun _=>[]) (fun _=>r=true) ?_ ?_
 ·refine aw ?_
  refine aB (Y:=Unit) (S:=Nat) _ h (fun _ _=>[(14,pP b 0)]) (fun _ pos=>[PRes.raw (itr b p0 pos)]) () (by (repeat (first | exact nC | apply dU rfl))) (by (repeat (first | exact bz | (apply ba;(focus (repeat (first | exact aJ | apply ar))))))) ?_
  rintro _ pos o τ hb;dsimp only [au]
  unfold j5 at hb
  (repeat refine ae ?_)
  refine af ?_
  refine EU rfl rfl rfl (pl_next rfl rfl cw (fun hlt=>?_) (fun hge=>?_))
  ·have hlt':Nat.blt pos p0.size=true:=by simp [Nat.blt];omega
   rw [hlt'] at hb;simp only [bZ] at hb
   refine gI [] [] [(16,pB true)] bh (by kernel_rfl) ?_
   (repeat (first | apply aA | apply aL))
   (repeat refine ae ?_)
   refine gN (p:=true) rfl (fun _=>?_) (fun hf=>by cases hf)
   refine ah ?_
   (repeat (first | apply aA | apply aL))
   (repeat refine ae ?_)
   refine aw ?_
   (repeat refine ae ?_)
   refine aq [] [17] [(4,.v (.int .i32 ((Utf8.decode p0 pos).1:Int)))] bh (by kernel_rfl) ?_
   (repeat (first | apply aA | apply aL))
   (repeat refine ae ?_)
   refine aq [] [18,19,20,21,22] [(23,pB (decide (((Utf8.decode p0 pos).1:Int)<97)||decide (122<((Utf8.decode p0 pos).1:Int))))] bh (by kernel_rfl) ?_
   (repeat (first | apply aA | apply aL))
   (repeat refine ae ?_)
   refine gN rfl (fun hc2=>?_) (fun hc2=>?_)
   ·replace hb:=Bo hc2 hb
    (repeat refine ae ?_)
    refine aq [] [] [(2,pB false)] bh (by kernel_rfl) ?_
    (repeat (first | apply aA | apply aL))
    (repeat refine ae ?_)
    refine bq ?_
    (repeat (first | apply ap | apply cQ | apply mN | apply gF))
    refine az hb (fun ht=>?_);subst ht
    (repeat (first | apply ap | apply cQ | apply mN | apply gF))
    exact aP (da (aO rfl)) bz ⟨rfl,rfl⟩
   replace hb:=Bp hc2 hb
   refine ah ?_
   (repeat apply aA)
   exact aR hb () (by (repeat (first | exact nC | apply dU rfl))) (by (repeat (first | exact bz | (apply ba;(focus (repeat (first | exact aJ | apply ar)))))))
  have hge':Nat.blt pos p0.size=false:=by cases e:Nat.blt pos p0.size;rfl;exact absurd (Nat.le_of_ble_eq_true e) (by omega)
  rw [hge'] at hb;simp only [bI] at hb
  refine gI [] [] [(16,pB false)] bh (by kernel_rfl) ?_
  (repeat (first | apply aA | apply aL))
  (repeat refine ae ?_)
  refine gN (p:=false) rfl (fun hf=>by cases hf) (fun _=>?_)
  refine aH ?_
  (repeat (first | apply hY | apply zP | apply zQ | apply pF rfl))
  refine mn hb (fun ht=>?_)
  refine ak rfl ?_
  exact av () nC bz ht.symm
 rintro _ τ hz;subst hz;dsimp only [au]
 (repeat refine ae ?_)
 refine aq [] [] [(2,pB true)] bh (by kernel_rfl) ?_
 (repeat (first | apply aA | apply aL))
 (repeat refine ae ?_)
 refine bq ?_
 (repeat (first | apply ap | apply cQ | apply mN | apply gF))
 exact aP (da (aO rfl)) bz ⟨rfl,rfl⟩
end SX
end Go.Proofs.YtgmbmepakpcpaaaGreatDoor
namespace Go.Proofs
open Go.Shelf
def Tryz.lSF_ren:Go.Shelf.Ren:=⟨fun | 6=>49 | 15=>101 | 14=>100 | 28=>150 | 29=>151 | 20=>142 | 21=>143 | 22=>144 | 23=>145 | 24=>146 | 25=>147 | 26=>148 | 27=>149 | 46=>173 | 47=>174 | 48=>175 | 49=>176 | 50=>177 | 57=>203 | n=>n,fun | 22=>31 | 24=>28 | 25=>109 | 3=>3 | 39=>49 | 0=>0 | 53=>206 | 55=>116 | 4=>4 | 46=>200 | 45=>199 | 50=>144 | 5=>5 | 9=>9 | 66=>235 | 70=>239 | 76=>259 | 77=>260 | n=>n,fun | n=>n⟩
theorem Tryz.lSF:Go.Proofs.SlLaysF0.n6 Tryz.prog Tryz.lSF_ren:={
 mixed:=by kernel_rfl
 f6:=⟨Tryz.f49.name,by decide,Tryz.func49.trans (congrArg some (by kernel_rfl))⟩
 f14:=⟨Tryz.f100.name,by decide,Tryz.func100.trans (congrArg some (by kernel_rfl))⟩
 f15:=Tryz.func101.trans (congrArg some (by kernel_rfl))
 f20:=⟨Tryz.f142.name,by decide,Tryz.func142.trans (congrArg some (by kernel_rfl))⟩
 f21:=⟨Tryz.f143.name,by decide,Tryz.func143.trans (congrArg some (by kernel_rfl))⟩
 f22:=⟨Tryz.f144.name,by decide,Tryz.func144.trans (congrArg some (by kernel_rfl))⟩
 f23:=⟨Tryz.f145.name,by decide,Tryz.func145.trans (congrArg some (by kernel_rfl))⟩
 f24:=⟨Tryz.f146.name,by decide,Tryz.func146.trans (congrArg some (by kernel_rfl))⟩
 f25:=⟨Tryz.f147.name,by decide,Tryz.func147.trans (congrArg some (by kernel_rfl))⟩
 f26:=⟨Tryz.f148.name,by decide,Tryz.func148.trans (congrArg some (by kernel_rfl))⟩
 f27:=⟨Tryz.f149.name,by decide,Tryz.func149.trans (congrArg some (by kernel_rfl))⟩
 f28:=Tryz.func150.trans (congrArg some (by kernel_rfl))
 f29:=Tryz.func151.trans (congrArg some (by kernel_rfl))
 f46:=⟨Tryz.f173.name,by decide,Tryz.func173.trans (congrArg some (by kernel_rfl))⟩
 f47:=Tryz.func174.trans (congrArg some (by kernel_rfl))
 f48:=Tryz.func175.trans (congrArg some (by kernel_rfl))
 f49:=⟨Tryz.f176.name,by decide,Tryz.func176.trans (congrArg some (by kernel_rfl))⟩
 f50:=⟨Tryz.f177.name,by decide,Tryz.func177.trans (congrArg some (by kernel_rfl))⟩
 f57:=⟨Tryz.f203.name,by decide,Tryz.func203.trans (congrArg some (by kernel_rfl))⟩
 t0:=Tryz.underlying0
 a0:=Tryz.isAgg0
 z0:=Tryz.sizeOf0
 v0:=Tryz.zeroValue0
 t3:=Tryz.underlying3
 a3:=Tryz.isAgg3
 z3:=Tryz.sizeOf3
 v3:=Tryz.zeroValue3
 t4:=Tryz.underlying4
 a4:=Tryz.isAgg4
 z4:=Tryz.sizeOf4
 v4:=Tryz.zeroValue4
 t5:=Tryz.underlying5
 a5:=Tryz.isAgg5
 z5:=Tryz.sizeOf5
 v5:=Tryz.zeroValue5
 t9:=Tryz.underlying9
 a9:=Tryz.isAgg9
 z9:=Tryz.sizeOf9
 v9:=Tryz.zeroValue9
 t22:=Tryz.underlying31
 a22:=Tryz.isAgg31
 z22:=Tryz.sizeOf31
 v22:=Tryz.zeroValue31
 t25:=Tryz.underlying109
 a25:=Tryz.isAgg109
 z25:=Tryz.sizeOf109
 v25:=Tryz.zeroValue109
 t39:=Tryz.underlying49
 a39:=Tryz.isAgg49
 z39:=Tryz.sizeOf49
 v39:=Tryz.zeroValue49
 t45:=Tryz.underlying199
 a45:=Tryz.isAgg199
 z45:=Tryz.sizeOf199
 v45:=Tryz.zeroValue199
 t46:=Tryz.underlying200
 a46:=Tryz.isAgg200
 z46:=Tryz.sizeOf200
 v46:=Tryz.zeroValue200
 t50:=Tryz.underlying144
 a50:=Tryz.isAgg144
 z50:=Tryz.sizeOf144
 v50:=Tryz.zeroValue144
 t53:=Tryz.underlying206
 a53:=Tryz.isAgg206
 z53:=Tryz.sizeOf206
 v53:=Tryz.zeroValue206
 t55:=Tryz.underlying116
 a55:=Tryz.isAgg116
 z55:=Tryz.sizeOf116
 v55:=Tryz.zeroValue116
 t66:=Tryz.underlying235
 a66:=Tryz.isAgg235
 z66:=Tryz.sizeOf235
 v66:=Tryz.zeroValue235
 t70:=Tryz.underlying239
 a70:=Tryz.isAgg239
 z70:=Tryz.sizeOf239
 v70:=Tryz.zeroValue239
 t76:=Tryz.underlying259
 a76:=Tryz.isAgg259
 z76:=Tryz.sizeOf259
 v76:=Tryz.zeroValue259
 t77:=Tryz.underlying260
 a77:=Tryz.isAgg260
 z77:=Tryz.sizeOf260
 v77:=Tryz.zeroValue260 }
end Go.Proofs
namespace Go.Proofs
open Go.Shelf
def Tryz.lSs_ren:Go.Shelf.Ren:=⟨fun | 190=>139 | 125=>101 | 258=>170 | 128=>150 | 129=>151 | 302=>191 | 303=>192 | 304=>193 | 305=>194 | 306=>195 | 307=>196 | 308=>197 | 309=>198 | 310=>199 | 333=>209 | 329=>174 | 330=>175 | 334=>210 | 335=>211 | 336=>212 | 344=>217 | n=>n,fun | 31=>33 | 9=>9 | 3=>3 | 46=>49 | 0=>0 | 51=>206 | 53=>116 | 4=>4 | 183=>200 | 182=>199 | 131=>144 | 5=>5 | 218=>235 | 222=>239 | 228=>259 | 229=>260 | n=>n,fun | n=>n⟩
theorem Tryz.lSs:Go.Proofs.Lays.n190 Tryz.prog Tryz.lSs_ren:={
 mixed:=by kernel_rfl
 f125:=Tryz.func101.trans (congrArg some (by kernel_rfl))
 f128:=Tryz.func150.trans (congrArg some (by kernel_rfl))
 f129:=Tryz.func151.trans (congrArg some (by kernel_rfl))
 f190:=Tryz.func139.trans (congrArg some (by kernel_rfl))
 f258:=Tryz.func170.trans (congrArg some (by kernel_rfl))
 f302:=Tryz.func191.trans (congrArg some (by kernel_rfl))
 f303:=Tryz.func192.trans (congrArg some (by kernel_rfl))
 f304:=Tryz.func193.trans (congrArg some (by kernel_rfl))
 f305:=Tryz.func194.trans (congrArg some (by kernel_rfl))
 f306:=Tryz.func195.trans (congrArg some (by kernel_rfl))
 f307:=Tryz.func196.trans (congrArg some (by kernel_rfl))
 f308:=Tryz.func197.trans (congrArg some (by kernel_rfl))
 f309:=Tryz.func198.trans (congrArg some (by kernel_rfl))
 f310:=Tryz.func199.trans (congrArg some (by kernel_rfl))
 f329:=Tryz.func174.trans (congrArg some (by kernel_rfl))
 f330:=Tryz.func175.trans (congrArg some (by kernel_rfl))
 f333:=Tryz.func209.trans (congrArg some (by kernel_rfl))
 f334:=Tryz.func210.trans (congrArg some (by kernel_rfl))
 f335:=Tryz.func211.trans (congrArg some (by kernel_rfl))
 f336:=Tryz.func212.trans (congrArg some (by kernel_rfl))
 f344:=Tryz.func217.trans (congrArg some (by kernel_rfl))
 t0:=Tryz.underlying0
 a0:=Tryz.isAgg0
 z0:=Tryz.sizeOf0
 v0:=Tryz.zeroValue0
 t3:=Tryz.underlying3
 a3:=Tryz.isAgg3
 z3:=Tryz.sizeOf3
 v3:=Tryz.zeroValue3
 t4:=Tryz.underlying4
 a4:=Tryz.isAgg4
 z4:=Tryz.sizeOf4
 v4:=Tryz.zeroValue4
 t5:=Tryz.underlying5
 a5:=Tryz.isAgg5
 z5:=Tryz.sizeOf5
 v5:=Tryz.zeroValue5
 t9:=Tryz.underlying9
 a9:=Tryz.isAgg9
 z9:=Tryz.sizeOf9
 v9:=Tryz.zeroValue9
 t31:=Tryz.underlying33
 a31:=Tryz.isAgg33
 z31:=Tryz.sizeOf33
 v31:=Tryz.zeroValue33
 t46:=Tryz.underlying49
 a46:=Tryz.isAgg49
 z46:=Tryz.sizeOf49
 v46:=Tryz.zeroValue49
 t51:=Tryz.underlying206
 a51:=Tryz.isAgg206
 z51:=Tryz.sizeOf206
 v51:=Tryz.zeroValue206
 t53:=Tryz.underlying116
 a53:=Tryz.isAgg116
 z53:=Tryz.sizeOf116
 v53:=Tryz.zeroValue116
 t131:=Tryz.underlying144
 a131:=Tryz.isAgg144
 z131:=Tryz.sizeOf144
 v131:=Tryz.zeroValue144
 t182:=Tryz.underlying199
 a182:=Tryz.isAgg199
 z182:=Tryz.sizeOf199
 v182:=Tryz.zeroValue199
 t183:=Tryz.underlying200
 a183:=Tryz.isAgg200
 z183:=Tryz.sizeOf200
 v183:=Tryz.zeroValue200
 t218:=Tryz.underlying235
 a218:=Tryz.isAgg235
 z218:=Tryz.sizeOf235
 v218:=Tryz.zeroValue235
 t222:=Tryz.underlying239
 a222:=Tryz.isAgg239
 z222:=Tryz.sizeOf239
 v222:=Tryz.zeroValue239
 t228:=Tryz.underlying259
 a228:=Tryz.isAgg259
 z228:=Tryz.sizeOf259
 v228:=Tryz.zeroValue259
 t229:=Tryz.underlying260
 a229:=Tryz.isAgg260
 z229:=Tryz.sizeOf260
 v229:=Tryz.zeroValue260 }
end Go.Proofs
namespace Go.Proofs.YtgmbmepakpcpaaaGreatDoor
namespace SX
open Go
section
variable {γ:Type} [Inhabited γ]
theorem wO (e:γ→Value) (D:Array γ) (cur:Array Value) (h:D.size≤cur.size):(Sort.putCells e 0 D cur).toList.take D.size=D.toList.map e:=by
 apply List.ext_getElem
 ·simp [Sort.putCells];omega
 intro i h1 h2
 have h3:i<D.size:=by simpa using h2
 simp [Sort.putCells,h3]
theorem Ap {e:γ→Value} {w:World} {b:Nat} {D:Array γ} {cur:Array Value} {T:Nat} {fr:Nat×Nat} (h:w.heap[b]?=some (.cells cur T fr)):(Sort.putRow e w b 0 D).heap[b]?=some (.cells (Sort.putCells e 0 D cur) T fr):=by
 simp [Sort.putRow,Sort.mapBlock,Array.getElem?_modify,h,Sort.onCells]
theorem vF {e:γ→Value} {w:World} {b i:Nat} {D:Array γ} (h:i≠b):(Sort.putRow e w b 0 D).heap[i]?=w.heap[i]?:=by
 simp only [Sort.putRow,Sort.mapBlock,Array.getElem?_modify]
 rw [if_neg (fun e=>h e.symm)]
theorem rt {β:Base} {l:List Res} {κ:Kr} {b n c T sz m:Nat} {css css':List (List Value)} {os:Array Obj} {e:γ→Value} {D:Array γ} (hi:Zp β (Res.row (some ⟨b,0,none⟩) n c T sz css::l) κ) (hF:D.toList.map e=css'.flatten) (hl:css'.length=n) (hw:∀ cs∈css',cs.length=sz) :
    Zp β (Res.row (some ⟨b,0,none⟩) n c T sz css'::l) ⟨Sort.grow (Sort.putRow e (Sort.ahead κ.w m) b 0 D) os,κ.S⟩∧Kle κ ⟨Sort.grow (Sort.putRow e (Sort.ahead κ.w m) b 0 D) os,κ.S⟩:=by
  have ho:=hi.own _ (List.mem_cons_self)
  obtain ⟨h1,h2,h3,h4,h5,cur,h6,h7,h8⟩:=ho
  have hD:D.size=n*sz:=by
    have:=congrArg List.length hF
    rw [List.length_map,eY hw,hl] at this
    simpa using this
  have hle:D.size≤cur.size:=by rw [hD,h7];exact Nat.mul_le_mul_right _ h4
  have t1:=hi.turn (r':=Res.row (some ⟨b,0,none⟩) n c T sz css') (l1:=[]) (b:=b) (w':=Sort.putRow e (Sort.ahead κ.w m) b 0 D) rfl rfl rfl (fun i hne=>vF hne) (by simp [Sort.putRow,Sort.mapBlock,Sort.ahead])
    ⟨h1,hl,hw,h4,h5,_,Ap (w:=Sort.ahead κ.w m) h6,by simpa [Sort.putCells] using h7,by rw [← hD,wO e D cur hle,hF]⟩ rfl rfl rfl (by simp [Sort.putRow,Sort.mapBlock,Sort.ahead])
  have hh:=t1.1.own _ (List.mem_cons_self)
  have hb2:b<(Sort.putRow e (Sort.ahead κ.w m) b 0 D).heap.size:=by
    have:=(t1.1.blk _ (List.mem_cons_self) b rfl).1;exact this
  have hold:∀ i,i<(Sort.putRow e (Sort.ahead κ.w m) b 0 D).heap.size→(Sort.grow (Sort.putRow e (Sort.ahead κ.w m) b 0 D) os).heap[i]?=(Sort.putRow e (Sort.ahead κ.w m) b 0 D).heap[i]?:=fun i h=>by
    simp only [Sort.grow];rw [Array.getElem?_append_left h]
  have hh2:(Res.row (some ⟨b,0,none⟩) n c T sz css').holds (Sort.grow (Sort.putRow e (Sort.ahead κ.w m) b 0 D) os):=by
    have:(Sort.grow (Sort.putRow e (Sort.ahead κ.w m) b 0 D) os).heap[b]?=(Sort.putRow e (Sort.ahead κ.w m) b 0 D).heap[b]?:=hold b hb2
    unfold Res.holds at hh ⊢
    show (Res.row (some ⟨b,0,none⟩) n c T sz css').says (Sort.grow (Sort.putRow e (Sort.ahead κ.w m) b 0 D) os).heap[b]?
    rw [this];exact hh
  obtain ⟨i3,k3⟩:=t1.1.grow (r':=Res.row (some ⟨b,0,none⟩) n c T sz css') (w':=Sort.grow (Sort.putRow e (Sort.ahead κ.w m) b 0 D) os) ⟨rfl,rfl,rfl,by simp [Sort.grow],fun i h _=>hold i h⟩ (.inr (.inl rfl)) hh2 (Bj hh2) (Nat.le_refl _)
  exact ⟨i3,t1.2.trans k3⟩
end
def i9 (a b:ByteArray):Bool:=Op.bytesLess a.toList b.toList
theorem p8 (a b:ByteArray):i9 a b=decide (a.data.toList<b.data.toList):=by
 unfold i9;rw [bytesLess_eq,ByteArray.toList_eq,ByteArray.toList_eq]
theorem CL {κ:Kr}:∀ {xs:List ByteArray} {dss:List (List Value)},Rpss κ (xs.map eS) dss→dss=xs.map fun s=>[.string s]
 | [],_,h=>h.nil_inv
 | x::xs,_,h=>by
  obtain ⟨d,ds,rfl,h1,h2⟩:=h.cons_inv
  obtain ⟨v,vs,rfl,h3,h4⟩:=h1.cons_inv
  rw [CL h2,h4.nil_inv,h3.val];rfl
theorem vG {κ:Kr}:∀ {xs:List ByteArray} {dss:List (List Value)},Rpss κ (xs.map eS) dss→∀ x∈xs,yn (.string x)=true
 | [],_,_=>by simp
 | x::xs,_,h=>by
  obtain ⟨d,ds,rfl,h1,h2⟩:=h.cons_inv
  obtain ⟨v,vs,rfl,h3,h4⟩:=h1.cons_inv
  intro y hy
  rcases List.mem_cons.1 hy with rfl | hy
  ·cases h3 with | v hq=>exact hq
  exact vG h2 y hy
theorem vH {κ:Kr}:∀ {xs:List ByteArray},(∀ x∈xs,yn (.string x)=true)→Rpss κ (xs.map eS) (xs.map fun s=>[.string s])
 | [],_=>.nil
 | x::xs,h=>.cons (.cons (.v (h x (by simp))) .nil) (vH fun y hy=>h y (by simp [hy]))
theorem FK (l:List ByteArray):(l.map fun s=>[Value.string s]).flatten=l.map Value.string:=by
 induction l with
 | nil=>rfl
 | cons x xs ih=>simp [ih]
def jd (l:List ByteArray):Option (List ByteArray):=some (lz i9 l)
theorem oh {α:Type} {lt:α→α→Bool} (l:List α):(lz lt l).length=l.length:=kR.length_eq
theorem BH (l:List ByteArray):(l.map fun s=>s.data.toList).mergeSort (fun x y=>decide (x≤y))=(lz i9 l).map fun s=>s.data.toList:=by
 have key:∀ x y:List UInt8,decide (x≤y) = !decide (y<x):=fun x y=>by
  rw [← decide_not];exact decide_eq_decide.2 (by rw [List.not_lt])
 refine pJ (lt:=fun x y=>decide (x<y)) (fun x y h1 h2=>?_) ?_ ?_ ?_
 ·have h1:=of_decide_eq_false h1;have h2:=of_decide_eq_false h2
  exact List.le_antisymm (List.not_lt.1 h2) (List.not_lt.1 h1)
 ·have h:=List.pairwise_mergeSort (le:=fun x y:List UInt8=>decide (x≤y)) (fun a b c h1 h2=>det (List.le_trans (of_decide_eq_true h1) (of_decide_eq_true h2))) (fun a b=>by
   rcases List.le_total a b with h | h
   ·simp [h]
   simp [h]) (l.map fun s=>s.data.toList)
  exact h.imp fun {a b} hab=>by rw [key] at hab;simpa using hab
 ·rw [List.pairwise_map]
  have h:=ms (lt:=i9) (fun x y z h1 h2=>by
   rw [p8] at *;exact det (List.lt_trans (of_decide_eq_true h1) (of_decide_eq_true h2))) (fun x y z h1 h2=>by
   rw [p8] at *;exact bQ (List.not_lt.2 (List.le_trans (List.not_lt.1 (of_decide_eq_false h2)) (List.not_lt.1 (of_decide_eq_false h1))))) (fun x=>by rw [p8];exact bQ (List.lt_irrefl _)) l
  exact h.imp fun {a b} hab=>by rw [← p8];exact hab
 exact (List.mergeSort_perm _ _).trans (kR.symm.map _)
theorem lT {p0 r:List ByteArray} (h:jd p0=some r) {a:Option Addr} {n c:Nat}:PCall 139 [.v (.slice a n c)] [PRes.row a n c 9 1 (List.map eS p0)] (fun pv ρ'=>pv=.tup []∧ρ'=[PRes.row a n c 9 1 (List.map eS r)]):=fun κ args ρ g ha hr=>by
 obtain rfl:=Option.some.inj h
 obtain ⟨v,ws,rfl,ha1,ha2⟩:=ha.cons_inv
 rw [ha2.nil_inv,ha1.val]
 obtain ⟨r0,l',rfl,hr1,hr2⟩:=hr.cons_inv
 have:=hr2.nil_inv;subst this
 refine ⟨(Gv Tryz.func139 rfl),fun hi=>?_⟩
 cases hr1 with
 | row hb ho hc =>
  have hok:=vG hc
  have hd:=CL hc;subst hd
  have how:=hi.own _ (List.mem_cons_self)
  cases a with
  | none =>
   obtain ⟨rfl,rfl,h3⟩:=how
   have hp:p0=[]:=List.map_eq_nil_iff.1 h3
   subst hp
   refine (Any.slices_Sort_string_none Tryz.lSs none 0 κ.w).mono fun e w' ⟨h1,h2⟩=>?_
   subst h1 h2
   exact ⟨_,_,κ,rfl,rfl,hi,.tup [],_,.tup .nil,.cons (.row hb ho (by exact .nil)) .nil,rfl,rfl⟩
  | some ad =>
   have how2:=how
   obtain ⟨h1,h2,h3,h4,h5,cur,h6,h7,h8⟩:=how
   obtain ⟨b,off,sp⟩:=ad
   injection h1 with h1a h1b h1c
   subst h1b h1c
   have hblk:b<κ.w.heap.size:=(hi.blk _ (List.mem_cons_self) b rfl).1
   have hn:n=(p0.map fun s=>s.data.toList).length:=by rw [← h2];simp
   have hH:Sort.Holds encStr κ.w b 0 (p0.map fun s=>s.data.toList).toArray:=by
    intro j hj
    have hj2:j<p0.length:=by simpa using hj
    rw [FK,Nat.mul_one] at h8
    have hj3:cur.toList[j]?=some (Value.string p0[j]):=by
     have e:=congrArg (fun l=>l[j]?) h8
     simp only [List.getElem?_take,List.getElem?_map] at e
     rw [if_pos (by rw [← h2];simpa using hj2),List.getElem?_eq_getElem hj2] at e
     exact e
    have hj4:cur[j]?=some (Value.string p0[j]):=by rw [← Array.getElem?_toList];exact hj3
    constructor
    ·simp only [World.cell?,h6,Option.isSome_none,Bool.false_eq_true,if_false,Nat.zero_add]
     rw [hj4]
     congr 1
     simp [getElem!_pos,hj2]
    simp [World.frozen?,h6]
   rw [hn]
   refine (Any.slices_Sort_string Tryz.lSs b 0 c _ κ.w hH hblk (by rw [← hn];unfold maxLen at h5;omega)).mono fun e w' ⟨k1,m,os,k2⟩=>?_
   subst k1 k2
   obtain ⟨i1,i2⟩:=rt (m:=m) (os:=os) (e:=encStr) (css':=(lz i9 p0).map fun s=>[Value.string s]) (D:=((p0.map fun s=>s.data.toList).mergeSort fun x y=>decide (x≤y)).toArray) hi (by
    rw [BH]
    generalize lz i9 p0=q
    induction q with
    | nil=>rfl
    | cons x xs ih=>simp at ih ⊢;exact ih) (by rw [List.length_map,oh];rw [← h2];simp) (by simp)
   exact ⟨_,_,⟨_,κ.S⟩,rfl,rfl,i1,.tup [],_,.tup .nil,.cons (.row hb (by intro cs hcs;obtain ⟨q,_,rfl⟩:=List.mem_map.1 hcs;intro u hu;rw [List.mem_singleton.1 hu];rfl) (vH fun y hy=>hok y (kR.mem_iff.1 hy))) .nil,rfl,by rw [← hn]⟩
theorem le_grow {κ κ':Kr} (h:Le [] κ κ'):∃ q os',κ'.w=Sort.grow (κ.w.drewN q) os':=by
 refine ⟨κ'.w.drawn - κ.w.drawn,κ'.w.heap.extract κ.w.heap.size κ'.w.heap.size,?_⟩
 have hz:=h.kle.size
 have hd:=h.drawn
 have e1:κ'.w.heap=κ.w.heap++κ'.w.heap.extract κ.w.heap.size κ'.w.heap.size:=by
  apply Array.ext_getElem?
  intro i
  rcases Nat.lt_or_ge i κ.w.heap.size with hi | hi
  ·rw [Array.getElem?_append_left hi];exact h.same i hi (by simp)
  rw [Array.getElem?_append_right hi,Array.getElem?_extract]
  split
  ·congr 1;omega
  rw [Array.getElem?_eq_none (by omega)]
 cases hw:κ'.w with
 | mk heap tape drawn os output =>
  have h2:=h.tape;have h3:=h.os;have h4:=h.output
  rw [hw] at e1 h2 h3 h4 hd
  simp only at e1 h2 h3 h4 hd
  simp only [Sort.grow,World.drewN]
  subst h2 h3 h4
  rw [← e1]
  congr 1;omega
theorem xt {γ:Type} [Inhabited γ] (enc:γ→List Value) (k:Nat) (hk:∀ x,(enc x).length=k):∀ L:List γ,(List.range (L.length*k)).map (fun t=>(enc L[t / k]!)[t % k]!)=(L.map enc).flatten
 | []=>by simp
 | x::xs=>by
  have ih:=xt enc k hk xs
  rcases Nat.eq_zero_or_pos k with h0 | h0
  ·subst h0
   have:∀ M:List γ,(M.map enc).flatten=[]:=fun M=>by
    rw [List.flatten_eq_nil_iff];intro l hl;obtain ⟨y,_,rfl⟩:=List.mem_map.1 hl;exact List.eq_nil_of_length_eq_zero (hk y)
   rw [this];simp
  rw [List.length_cons,Nat.add_mul,Nat.one_mul,Nat.add_comm,List.range_add,List.map_append,List.map_cons,List.flatten_cons,← ih,List.map_map]
  congr 1
  ·apply List.ext_getElem
   ·simp [hk]
   intro i h1 h2
   have hi:i<k:=by simpa using h1
   simp [Nat.div_eq_of_lt hi,Nat.mod_eq_of_lt hi,getElem!_pos,h2]
  apply List.map_congr_left
  intro t _
  simp only [Function.comp,Nat.add_div_left _ h0,Nat.add_mod_left]
  rfl
theorem vJ {γ:Type} [Inhabited γ] (enc:γ→List Value) (k:Nat) (hk:∀ x,(enc x).length=k) (d:Array γ):(Sort.flatK enc k d).toList.map id=(d.toList.map enc).flatten:=by
 rw [List.map_id,← xt enc k hk]
 simp only [Sort.flatK,Array.toList_map,Array.toList_range,Array.length_toList]
 apply List.map_congr_left
 intro t _
 congr 2
 simp [getElem!_def]
section
variable {α:Type} {enc:α→List PV} {encV:α→List Value}
theorem Aq {κ:Kr} (hinv:∀ x ds,Rps κ (enc x) ds→ds=encV x):∀ {xs:List α} {dss:List (List Value)},Rpss κ (xs.map enc) dss→dss=xs.map encV
 | [],_,h=>h.nil_inv
 | x::xs,_,h=>by
  obtain ⟨d,ds,rfl,h1,h2⟩:=h.cons_inv
  rw [Aq hinv h2,hinv _ _ h1];rfl
theorem tA {κ:Kr} (hmk:∀ x,Rps κ (enc x) (encV x)):∀ {xs:List α},Rpss κ (xs.map enc) (xs.map encV)
 | []=>.nil
 | x::xs=>.cons (hmk x) (tA hmk)
theorem callSF [Inhabited α] {f g T k:Nat} {ρs:Shelf.Ren} (L:SlLaysF0.n6 Tryz.prog ρs) (hf:ρs.f 6=f) (fOk:FnOk f) (gOk:FnOk g) (aE:∀ w,(isAgg (ρs.t 24)).run Tryz.prog w=.ok true w) (zE:∀ w,(Go.sizeOf (ρs.t 24)).run Tryz.prog w=.ok k w)
    (hk:∀ x,(encV x).length=k) (h1:∀ x,∀ v∈encV x,v.oneCell'=true) (hinv:∀ κ x ds,Rps κ (enc x) ds→ds=encV x) (hmk:∀ κ x,Rps κ (enc x) (encV x)) (cf:α→α→Int) (hO:Sort.SWO (ltOf cf)) (hT:∀ x y,ltOf cf x y=false→ltOf cf y x=false→x=y)
    (hcmp:∀ x y,PF g [.agg (enc x),.agg (enc y)] (pI (cf x y))) {p0:List α} {a:Option Addr} {n c:Nat}:PCall f [.v (.slice a n c),.fn g []] [PRes.row a n c T k (List.map enc p0)] (fun pv ρ'=>pv=.tup []∧ρ'=[PRes.row a n c T k (List.map enc (lz (ltOf cf) p0))]):=fun κ args ρ gk ha hr=>by
  subst hf
  obtain ⟨v,ws,rfl,ha1,ha2⟩:=ha.cons_inv
  obtain ⟨v2,ws2,rfl,ha3,ha4⟩:=ha2.cons_inv
  rw [ha4.nil_inv,ha1.val]
  have hv2:v2=.func (.func g) #[] #[]:=by
    cases ha3 with
    | fn h=>rw [h.nil_inv]
  subst hv2
  obtain ⟨r0,l',rfl,hr1,hr2⟩:=hr.cons_inv
  have:=hr2.nil_inv;subst this
  refine ⟨fOk,fun hi=>?_⟩
  have hn1:∀ l:List α,∀ cs∈l.map encV,cs.length=k:=fun l cs hcs=>by obtain ⟨q,_,rfl⟩:=List.mem_map.1 hcs;exact hk q
  cases hr1 with
  | row hb ho hc =>
    have hd:=Aq (hinv κ) hc;subst hd
    have how:=hi.own _ (List.mem_cons_self)
    cases a with
    | none =>
      obtain ⟨rfl,rfl,h3⟩:=how
      have hp:p0=[]:=List.map_eq_nil_iff.1 h3
      subst hp
      refine (AnyF.slices_SortFunc_none L none 0 _ κ.w).mono fun e w' ⟨h1,h2⟩=>?_
      subst h1 h2
      exact ⟨_,_,κ,rfl,rfl,hi,.tup [],_,.tup .nil,.cons (.row hb ho (by exact .nil)) .nil,rfl,rfl⟩
    | some ad =>
      obtain ⟨q1,h2,h3,h4,h5,cur,h6,h7,h8⟩:=how
      obtain ⟨b,off,sp⟩:=ad
      injection q1 with h1a h1b h1c
      subst h1b h1c
      have hblk:b<κ.w.heap.size:=(hi.blk _ (List.mem_cons_self) b rfl).1
      have hn:n=p0.toArray.size:=by rw [← h2];simp
      have hz:(Sort.flatK encV k p0.toArray).size=n*k:=by rw [Sort.size_flatK,← hn]
      have hft:(Sort.flatK encV k p0.toArray).toList=cur.toList.take (n*k):=by
        rw [h8,← vJ encV k hk,List.map_id]
      have hH:Sort.HoldsK encV k κ.w b 0 p0.toArray:=by
        intro j hj
        have hj2:j<n*k:=by rw [← hz];exact hj
        have hj3:(Sort.flatK encV k p0.toArray)[j]?=cur[j]?:=by
          rw [← Array.getElem?_toList,hft,List.getElem?_take,if_pos hj2,Array.getElem?_toList]
        constructor
        · simp only [World.cell?,h6,Option.isSome_none,Bool.false_eq_true,if_false,Nat.zero_add]
          rw [← hj3,Array.getElem?_eq_getElem hj,getElem!_pos _ j hj];rfl
        simp [World.frozen?,h6]
      have hcl:CmpLays Tryz.prog g #[] encV k cf b 0 p0.toArray.size κ.w:=fun m os dk hs x y=>by
        obtain ⟨i1,k1⟩:=rt (m:=m) (os:=os) (e:=id) (D:=Sort.flatK encV k dk) (css':=dk.toList.map encV) hi (vJ encV k hk dk) (by rw [List.length_map,Array.length_toList,hs,hn]) (hn1 _)
        have hc2:=hcmp x y ⟨_,κ.S⟩ [.agg (encV x).toArray,.agg (encV y).toArray] (gk.mono k1) (.cons (.agg (h1 x) (hmk _ x)) (.cons (.agg (h1 y) (hmk _ y)) .nil))
        refine (hc2.2 ⟨Le.refl _ _,i1.fin,by simp,by simp,List.Pairwise.nil⟩).mono fun e w' ⟨v,ρ',κ',g1,g2,g3,g4⟩=>?_
        obtain ⟨q,os',hq⟩:=le_grow g3.le
        subst g1 g2
        exact ⟨by rw [g4.2.val],q,os',hq⟩
      rw [hn]
      refine (AnyQ.slices_SortFunc_total L k aE zE encV hk h1 cf hO g #[] b 0 c p0.toArray κ.w (fun args w=>mj gOk args w) hcl hH hblk (by rw [← hn];unfold maxLen at h5;omega) hT).mono fun e w' ⟨k1,m,os,k2⟩=>?_
      have hso:(p0.toArray.toList.mergeSort fun x y => !(ltOf cf) y x)=lz (ltOf cf) p0:=by
        refine pJ (lt:=ltOf cf) hT ?_ (ms hO.trans hO.ntrans hO.irrefl p0) ((List.mergeSort_perm _ _).trans kR.symm)
        have h:=List.pairwise_mergeSort (le:=fun x y:α => !(ltOf cf) y x) (fun a b c h1 h2=>by
          simp only [Bool.not_eq_true'] at h1 h2 ⊢;exact hO.ntrans _ _ _ h2 h1) (fun a b=>by
          cases e1:ltOf cf b a
          · simp
          cases e2:ltOf cf a b
          · simp
          have:=hO.trans _ _ _ e1 e2;rw [hO.irrefl] at this;cases this) p0
        exact h.imp fun {a b} hab=>by simpa using hab
      rw [hso] at k2
      subst k1 k2
      obtain ⟨i1,i2⟩:=rt (m:=m) (os:=os) (e:=id) (css':=(lz (ltOf cf) p0).map encV) (D:=Sort.flatK encV k (lz (ltOf cf) p0).toArray) hi (vJ encV k hk _) (by rw [List.length_map,oh];rw [← h2];simp) (hn1 _)
      exact ⟨_,_,⟨_,κ.S⟩,rfl,rfl,i1,.tup [],_,.tup .nil,.cons (.row hb (by intro cs hcs;obtain ⟨q,_,rfl⟩:=List.mem_map.1 hcs;exact h1 q) (tA (hmk _))) .nil,rfl,by rw [← hn]⟩
end
theorem cmpI (a b:Int):fj a b=some (if a<b then -1 else if b<a then 1 else 0):=by
 unfold fj jl
 simp only [bne_self_eq_false,be,bI]
 by_cases h:a<b
 ·rw [det h,if_pos h];rfl
 rw [bQ h,if_neg h]
 by_cases h2:b<a
 ·rw [det h2,if_pos h2];rfl
 rw [bQ h2,if_neg h2];rfl
theorem cmpOr2 (a b:Int):mX [a,b]=some (if a=0 then b else a):=by
 unfold mX
 refine (bE (l:=[a,b]) (by simp) (fun _ x=>cond (x != 0) (some (.inr x)) none) (.inl ()) (fun k hk=>?_) (by rw [cO];rfl)).trans ?_
 ·rw [hZ hk,bZ,pn (aQ hk),bU hk (by simp)]
  cases ([a,b][k] != 0) <;> rfl
 rw [kS (fun x:Int=>x != 0) (fun x=>(Sum.inr x:Unit⊕Int))]
 by_cases ha:a=0
 ·subst ha
  by_cases hb:b=0
  ·subst hb;rfl
  simp [hb]
 simp [ha]
def bJ (x y:Za):Bool:=decide (x.Product<y.Product)||(decide (x.Product=y.Product)&&decide (x.Agreement<y.Agreement))
def r5 (x y:Za):Int:=if (if x.Product<y.Product then (-1:Int) else if y.Product<x.Product then 1 else 0)=0 then (if x.Agreement<y.Agreement then -1 else if y.Agreement<x.Agreement then 1 else 0) else (if x.Product<y.Product then -1 else if y.Product<x.Product then 1 else 0)
theorem ru:ltOf r5=bJ:=by
 funext x y
 unfold ltOf r5 bJ
 rcases Int.lt_trichotomy x.Product y.Product with h | h | h
 ·rw [if_pos h];simp [h]
 ·simp only [h,Int.lt_irrefl,if_false,if_true,decide_false,decide_true,Bool.false_or,Bool.true_and]
  rcases Int.lt_trichotomy x.Agreement y.Agreement with h2 | h2 | h2
  ·rw [if_pos h2];simp [h2]
  ·simp [h2]
  rw [if_neg (by omega),if_pos h2];simp;omega
 have h1:¬ x.Product<y.Product:=by omega
 have h3:¬ x.Product=y.Product:=by omega
 simp [h,h1,h3]
theorem DK (x y:Za):eW x y=some (r5 x y):=by
 unfold eW r5
 rw [cmpI,cmpI]
 simp only [be,cmpOr2]
theorem tB (x y:Za):bJ x y=true↔x.Product<y.Product∨(x.Product=y.Product∧x.Agreement<y.Agreement):=by simp [bJ]
theorem p9 (x y:Za):bJ x y=false↔¬ (x.Product<y.Product∨(x.Product=y.Product∧x.Agreement<y.Agreement)):=by rw [← tB];simp
theorem tC (x:Za):bJ x x=false:=by rw [p9];omega
theorem vK (x y z:Za):bJ x y=true→bJ y z=true→bJ x z=true:=by simp only [tB];omega
theorem tD (x y z:Za):bJ x y=false→bJ y z=false→bJ x z=false:=by simp only [p9];omega
theorem tE (x y:Za):bJ x y=false→bJ y x=false→x=y:=by
 simp only [p9];intro h1 h2
 cases x;cases y;simp at h1 h2 ⊢;omega
def bt (l:List Za):Option (List Za):=some (lz bJ l)
theorem de {p0 r:List Za} (h:bt p0=some r) {a:Option Addr} {n c:Nat}:PCall 49 [.v (.slice a n c),.fn 50 []] [PRes.row a n c 28 2 (List.map Za.enc p0)] (fun pv ρ'=>pv=.tup []∧ρ'=[PRes.row a n c 28 2 (List.map Za.enc r)]):=by
 obtain rfl:=Option.some.inj h
 rw [← ru]
 exact callSF Tryz.lSF rfl (Gv Tryz.func49 rfl) (Gv Tryz.func50 rfl) Tryz.isAgg28 Tryz.sizeOf28 (encV:=fun x=>[.int .i64 x.Product,.int .i64 x.Agreement]) (fun _=>rfl)
  (fun x v hv=>by simp at hv;rcases hv with rfl | rfl <;> rfl) (fun κ x ds h=>by
   obtain ⟨v,ws,rfl,h1,h2⟩:=h.cons_inv
   obtain ⟨v2,ws2,rfl,h3,h4⟩:=h2.cons_inv
   rw [h1.val,h3.val,h4.nil_inv]) (fun κ x=>.cons (.v rfl) (.cons (.v rfl) .nil)) r5
  (by rw [ru];exact ⟨tC,vK,tD⟩) (by rw [ru];exact tE) (fun x y=>mw (DK x y))

end SX
namespace SX
open Go
attribute [local irreducible] PWL PWC PWD POpL POpQ PEv PGuardIs PSub PPick PUpd PSplice PFill PLit PF PFV PCall FOk eQ eE lW nU je mO Cov PHolds aV idx app mk gd lb nz lw Ek sub ki dw ow wx fB cC pu wz IntKind.wrap Int.tmod Int.tdiv Op.bytesLess strOfNums
def dR (p0:(List ByteArray)):Option Bool:=cond (decide (8<(p0.length:Int))) (some false) ((aV (S:=Int) (T:=(Unit)⊕(_)) (fun v2=>cond (decide (v2<(p0.length:Int))) ((idx p0 v2).bind fun m6=>(kx m6).bind fun x7=>(gd ((!(!x7))&&(decide (0<v2))) (idx p0 (IntKind.i64.wrap (v2 - 1)))).bind fun m8=>cond ((!x7)||((decide (0<v2))&&(Op.bytesLess m6.toList m8.toList||decide (m6=m8)))) (some (.inr (.inr false))) (some (.inl (IntKind.i64.wrap (v2+1))))) (some (.inr (.inl ())))) FUEL 0).bind fun q=>match q with | .inl _=>some true | .inr e=>some e)
theorem jg {p0:(List ByteArray)} {r:Bool}  (h:dR p0=some r):PF 63 [pL eS p0] (pB r):=by
 unfold dR at h
 refine bd ?_
 refine dp Tryz.func63 rfl Tryz.ntmps63 Tryz.results63 rfl (aU [2] (by kernel_rfl) (co (bF [5,6] [(7,pB (decide (8<(p0.length:Int))))] (by kernel_rfl) rfl h (fun hc1 h=>?_) fun hc1 h=>?_)))
 ·refine ae ?_
  refine cZ [(2,pB false)] (by kernel_rfl) (ap ?_)
  exact zz r h rfl
 refine ah ?_
 refine co (aj [(8,pL eS p0),(9,pI (p0.length:Int)),(10,pI 0)] (by kernel_rfl) (fa h fun q4 hq4 h=>?_))
 refine am (Y:=Unit×Unit) (fun (_,_)=>[]) (fun (_,_)=>[]) (fun (_,_)=>q4=Sum.inl ()) ?_ ?_
 ·refine aw ?_
  refine aB (Y:=Unit) (S:=Int) _ hq4 (fun _ v2=>[(0,pL eS p0),(8,pL eS p0),(9,pI (p0.length:Int)),(10,pI v2)]) (fun _ v2=>[]) () (iq rfl) bz ?_
  rintro _ v2 o τ hb3;(try dsimp only at hb3);dsimp only [au]
  refine ae (aj [(11,pB (decide (v2<(p0.length:Int))))] (by kernel_rfl) (ca (jG rfl hb3 (fun hc5 hb3=>?_) fun hc5 hb3=>?_)))
  ·refine ah ?_
   refine dq (aa hb3 fun m6 hm6 hb3=>aq [] [12,13,14] [(3,pI v2),(4,pS m6)] (cr 1 eS hm6 bh) (by kernel_rfl) (cN hb3 fun x7 hx7 hb3=>aa hb3 fun m8 hm8 hb3=>aq [] (rg 15 15) [(30,pB ((!x7)||((decide (0<v2))&&(Op.bytesLess m6.toList m8.toList||decide (m6=m8)))))] (bi 1 (t7 hx7) (eG 11 eS (cA hm8) bh)) (by kernel_rfl) (cR rfl hb3 (fun hc9 hb3=>?_) fun hc9 hb3=>?_)))
   ·refine ae ?_
    refine cZ [(2,pB false)] (by kernel_rfl) (dM ?_)
    refine az hb3 (fun ht=>?_);subst ht
    refine cS ?_
    exact zz r h rfl
   refine ah ?_
   refine dx (ai [31] [(10,pI (IntKind.i64.wrap (v2+1)))] (by kernel_rfl) ?_)
   exact aR hb3 () (iq rfl) bz
  refine aH ?_
  refine cd hb3 (fun ht=>ak rfl ?_)
  exact av ((),()) nC bz ht.symm
 rintro ⟨_,_⟩ τ hz;(try dsimp only at hz);subst q4;(try dsimp only at h);dsimp only [au]
 refine ae (cZ [(2,pB true)] (by kernel_rfl) ?_)
 exact zz r h rfl
def iB (p0:(List ByteArray)):Option Bool:=cond (decide (6<(p0.length:Int))) (some false) ((aV (S:=Int) (T:=(Unit)⊕(_)) (fun v2=>cond (decide (v2<(p0.length:Int))) ((idx p0 v2).bind fun m6=>(dN m6).bind fun x7=>(gd ((!(x7 == 0))&&(decide (0<v2))) (idx p0 (IntKind.i64.wrap (v2 - 1)))).bind fun m8=>cond ((x7 == 0)||((decide (0<v2))&&(Op.bytesLess m6.toList m8.toList||decide (m6=m8)))) (some (.inr (.inr false))) (some (.inl (IntKind.i64.wrap (v2+1))))) (some (.inr (.inl ())))) FUEL 0).bind fun q=>match q with | .inl _=>some true | .inr e=>some e)
theorem rx {p0:(List ByteArray)} {r:Bool}  (h:iB p0=some r):PF 189 [pL eS p0] (pB r):=by
 unfold iB at h
 refine bd ?_
 refine dp Tryz.func189 rfl Tryz.ntmps189 Tryz.results189 rfl (aU [2] (by kernel_rfl) (co (bF [5,6] [(7,pB (decide (6<(p0.length:Int))))] (by kernel_rfl) rfl h (fun hc1 h=>?_) fun hc1 h=>?_)))
 ·refine ae ?_
  refine cZ [(2,pB false)] (by kernel_rfl) (ap ?_)
  exact zz r h rfl
 refine ah ?_
 refine co (aj [(8,pL eS p0),(9,pI (p0.length:Int)),(10,pI 0)] (by kernel_rfl) (fa h fun q4 hq4 h=>?_))
 refine am (Y:=Unit×Unit) (fun (_,_)=>[]) (fun (_,_)=>[]) (fun (_,_)=>q4=Sum.inl ()) ?_ ?_
 ·refine aw ?_
  refine aB (Y:=Unit) (S:=Int) _ hq4 (fun _ v2=>[(0,pL eS p0),(8,pL eS p0),(9,pI (p0.length:Int)),(10,pI v2)]) (fun _ v2=>[]) () (iq rfl) bz ?_
  rintro _ v2 o τ hb3;(try dsimp only at hb3);dsimp only [au]
  refine ae (aj [(11,pB (decide (v2<(p0.length:Int))))] (by kernel_rfl) (ca (jG rfl hb3 (fun hc5 hb3=>?_) fun hc5 hb3=>?_)))
  ·refine ah ?_
   refine dq (aa hb3 fun m6 hm6 hb3=>aq [] [12,13,14] [(3,pI v2),(4,pS m6)] (cr 1 eS hm6 bh) (by kernel_rfl) (cN hb3 fun x7 hx7 hb3=>aa hb3 fun m8 hm8 hb3=>aq [] (rg 15 15) [(30,pB ((x7 == 0)||((decide (0<v2))&&(Op.bytesLess m6.toList m8.toList||decide (m6=m8)))))] (bi 1 (f0 hx7) (eG 11 eS (cA hm8) bh)) (by kernel_rfl) (cR rfl hb3 (fun hc9 hb3=>?_) fun hc9 hb3=>?_)))
   ·refine ae ?_
    refine cZ [(2,pB false)] (by kernel_rfl) (dM ?_)
    refine az hb3 (fun ht=>?_);subst ht
    refine cS ?_
    exact zz r h rfl
   refine ah ?_
   refine dx (ai [31] [(10,pI (IntKind.i64.wrap (v2+1)))] (by kernel_rfl) ?_)
   exact aR hb3 () (iq rfl) bz
  refine aH ?_
  refine cd hb3 (fun ht=>ak rfl ?_)
  exact av ((),()) nC bz ht.symm
 rintro ⟨_,_⟩ τ hz;(try dsimp only at hz);subst q4;(try dsimp only at h);dsimp only [au]
 refine ae (cZ [(2,pB true)] (by kernel_rfl) ?_)
 exact zz r h rfl
def ky (rec:Ze→Option Bool) (p0:Ze):Option Bool:=(mV p0).bind fun x2=>cond (!x2) (some false) (cond (p0.Kind == 1) (some true) (cond (p0.Kind == 2) ((gd (((p0.Digits == 2)||(p0.Digits == 4))||(p0.Digits == 6)) (iB p0.Except)).bind fun x6=>(gd ((((p0.Digits == 2)||(p0.Digits == 4))||(p0.Digits == 6))&&x6) (jA p0.Tolerance)).bind fun x7=>some (((((p0.Digits == 2)||(p0.Digits == 4))||(p0.Digits == 6))&&x6)&&x7)) (cond (p0.Kind == 3) ((jA p0.Limit).bind fun x9=>some x9) (cond (p0.Kind == 4) ((dR [p0.Name]).bind fun x13=>some x13) (Option.bind (cond (p0.Kind == 5) (some (p0.Kind == 5)) (some (p0.Kind == 6))) (fun v14=>cond v14 (cond ((decide ((p0.Args.length:Int)<2))||(decide (6<(p0.Args.length:Int)))) (some false) ((aV (S:=Int) (T:=(Unit)⊕(_)) (fun v19=>cond (decide (v19<(p0.Args.length:Int))) ((idx p0.Args v19).bind fun m23=>(gd (!(m23.Kind == p0.Kind)) (rec m23)).bind fun x25=>cond ((m23.Kind == p0.Kind)||(!x25)) (some (.inr (.inr false))) (some (.inl (IntKind.i64.wrap (v19+1))))) (some (.inr (.inl ())))) FUEL 0).bind fun q=>match q with | .inl _=>some true | .inr e=>some e)) (some false)))))))
theorem t8 {rec:Ze→Option Bool} (hrec:∀ {p0:Ze} {r:Bool},rec p0=some r→PF 166 [.agg (aC p0)] (pB r)) {p0:Ze} {r:Bool} (h:ky rec p0=some r):PF 166 [.agg (aC p0)] (pB r):=by
 unfold ky at h
 refine bd ?_
 refine dp Tryz.func166 rfl Tryz.ntmps166 Tryz.results166 rfl (cU rfl (bg (cs:=(aC p0)) rfl rfl (fun b1=>bc [2] (by kernel_rfl) (co (aa h fun x2 hx2 h=>aq [0] [6,7] [(8,pB (!x2))] (bi 1 (wF hx2) bh) (by kernel_rfl) (cR rfl h (fun hc3 h=>?_) fun hc3 h=>?_))))))
 ·refine ae ?_
  refine cZ [(2,pB false)] (by kernel_rfl) (ap ?_)
  exact zz r h rfl
 refine ah ?_
 refine co (aM [0] [9] [(10,pI p0.Kind)] (by kernel_rfl) (aL (nX (bF [12] [(11,pB (p0.Kind == 1))] (by kernel_rfl) rfl h (fun hc4 h=>?_) fun hc4 h=>?_))))
 ·refine ae ?_
  refine cZ [(2,pB true)] (by kernel_rfl) (dM ?_)
  exact zz r h rfl
 refine ae ?_
 refine bF [14] [(13,pB (p0.Kind == 2))] (by kernel_rfl) rfl h (fun hc5 h=>?_) fun hc5 h=>?_
 ·refine ae ?_
  refine aM [0,0,0] (rg 15 13) [(3,pB (((p0.Digits == 2)||(p0.Digits == 4))||(p0.Digits == 6)))] (by kernel_rfl) (cN h fun x6 hx6 h=>aa h fun x7 hx7 h=>aq [0,0] (rg 28 11) [(2,pB (((((p0.Digits == 2)||(p0.Digits == 4))||(p0.Digits == 6))&&x6)&&x7))] (dK 4 (fun hc=>rx (cA hx6 hc)) (dK 9 (fun hc=>mW (cA hx7 hc)) bh)) (by kernel_rfl) (dm (dM ?_)))
  exact zz r h rfl
 refine ae ?_
 refine bF [40] [(39,pB (p0.Kind == 3))] (by kernel_rfl) rfl h (fun hc8 h=>?_) fun hc8 h=>?_
 ·refine ae ?_
  refine aa h fun x9 hx9 h=>aq [0] [41,42,43] [(2,pB x9)] (bi 2 (mW hx9) bh) (by kernel_rfl) (dm (dM ?_))
  exact zz r h rfl
 refine ae ?_
 refine bF [45] [(44,pB (p0.Kind == 4))] (by kernel_rfl) rfl h (fun hc10 h=>?_) fun hc10 h=>?_
 ·refine ae ?_
  refine af (cj 2 [0] [46] [(47,pS p0.Name)] (by kernel_rfl) (al rfl (bw rfl rfl rfl rfl rfl (fL rfl iP) rfl rfl rfl rfl (fun b11=>?_))))
  refine fO (enc:=eS) (xs:=[p0.Name]) 48 rfl (by exact aJ) ?_
  refine aa h fun x13 hx13 h=>gI [] [49] [(2,pB x13)] (bi 0 (jg hx13) bh) (by kernel_rfl) (dm (dM ?_))
  exact zz r h rfl
 refine ae ?_
 refine ae (ai [51] [(50,pB (p0.Kind == 5))] (by kernel_rfl) (fa h fun q15 hq15 h=>?_))
 refine am (Y:=Unit×Bool) (fun (_,v14)=>[(1,pP b1 0),(50,pB v14)]) (fun (_,v14)=>[PRes.b b1 84 (aC p0)]) (fun (_,v14)=>q15=v14) ?_ ?_
 ·skip
  refine jG rfl hq15 (fun hc16 hq15=>?_) fun hc16 hq15=>?_
  ·refine ah ?_
   obtain rfl:=osi hq15
   exact av ((),(p0.Kind == 5)) (lL rfl) cg rfl
  refine ai [52] [(50,pB (p0.Kind == 6))] (by kernel_rfl) ?_
  obtain rfl:=osi hq15
  exact av ((),(p0.Kind == 6)) (lL rfl) cg rfl
 rintro ⟨_,v14⟩ τ hz;(try dsimp only at hz);subst q15;(try dsimp only at h);dsimp only [au]
 refine jG rfl h (fun hc17 h=>?_) fun hc17 h=>?_
 ·refine ae ?_
  refine ae (aM [0,0] (rg 53 9) [(62,pB ((decide ((p0.Args.length:Int)<2))||(decide (6<(p0.Args.length:Int)))))] (by kernel_rfl) (cR rfl h (fun hc18 h=>?_) fun hc18 h=>?_))
  ·refine ae ?_
   refine cZ [(2,pB false)] (by kernel_rfl) (ap (dM ?_))
   exact zz r h rfl
  refine ah ?_
  refine co (aM [0] [63] [(64,pL Ze.enc p0.Args),(65,pI (p0.Args.length:Int)),(66,pI 0)] (by kernel_rfl) (fa h fun q21 hq21 h=>?_))
  refine am (Y:=Unit×Unit) (fun (_,_)=>[]) (fun (_,_)=>[]) (fun (_,_)=>q21=Sum.inl ()) ?_ ?_
  ·refine aw ?_
   refine aB (Y:=Unit) (S:=Int) _ hq21 (fun _ v19=>[(1,pP b1 0),(64,pL Ze.enc p0.Args),(65,pI (p0.Args.length:Int)),(66,pI v19)]) (fun _ v19=>[PRes.b b1 84 (aC p0)]) () (iq rfl) cg ?_
   rintro _ v19 o τ hb20;(try dsimp only at hb20);dsimp only [au]
   refine ae (aj [(67,pB (decide (v19<(p0.Args.length:Int))))] (by kernel_rfl) (ca (jG rfl hb20 (fun hc22 hb20=>?_) fun hc22 hb20=>?_)))
   ·refine ah ?_
    refine dq (aa hb20 fun m23 hm23 hb20=>af (aY 2 [] [68] [(69,.agg (aC m23))] (pm 0 Ze.enc (Ze.enc_eq _) hm23 bh) (by kernel_rfl) (al rfl (aN (cs:=[pI 0,pI 0,pN,pI 0,pI 0,pS ByteArray.empty,pN]) rfl rfl rfl rfl (fun b24=>aS rfl rfl (an (vs:=(aC m23)) rfl rfl rfl rfl rfl cw nP (aG (cN hb20 fun x25 hx25 hb20=>aq [0,1,0] (rg 70 9) [(79,pB ((m23.Kind == p0.Kind)||(!x25)))] (dK 7 (fun hc=>hrec (cA hx25 hc)) bh) (by kernel_rfl) (cR rfl hb20 (fun hc26 hb20=>?_) fun hc26 hb20=>?_)))))))))
    ·refine ae ?_
     refine cZ [(2,pB false)] (by kernel_rfl) (dM ?_)
     refine az hb20 (fun ht=>?_);subst ht
     refine cS (dM ?_)
     exact zz r h rfl
    refine ah ?_
    refine dx (ai [80] [(66,pI (IntKind.i64.wrap (v19+1)))] (by kernel_rfl) ?_)
    exact aR hb20 () (iq rfl) (ba (ar aJ) bz)
   refine aH ?_
   refine cd hb20 (fun ht=>ak rfl ?_)
   exact av ((),()) nC bz ht.symm
  rintro ⟨_,_⟩ τ hz;(try dsimp only at hz);subst q21;(try dsimp only at h);dsimp only [au]
  refine ae (cZ [(2,pB true)] (by kernel_rfl) (dM ?_))
  exact zz r h rfl
 refine ah ?_
 refine aA (ca (cZ [(2,pB false)] (by kernel_rfl) ?_))
 exact zz r h rfl
def mB (n:Nat):Ze→Option Bool:=Nat.rec (motive:=fun _=>Ze→Option Bool) (fun _=>none) (fun _ ih=>ky ih) n
def ry (p0:Ze):Option Bool:=mB FUEL p0
theorem vL (n:Nat):∀ {p0:Ze} {r:Bool},mB n p0=some r→PF 166 [.agg (aC p0)] (pB r):=by
 induction n with
 | zero=>intros;rename_i h;exact nomatch h
 | succ n ih=>intros;rename_i h;exact t8 (fun hr=>ih hr) h
theorem wP {p0:Ze} {r:Bool} (h:ry p0=some r):PF 166 [.agg (aC p0)] (pB r):=vL FUEL h
def fF (p0:Ze):Option Int:=(rj p0 33).bind fun x2=>cond (decide (32<x2)) (some (8:Int)) ((ry p0).bind fun x4=>cond (!x4) (some (1:Int)) (some (0:Int)))
theorem ja {p0:Ze} {r:Int}  (h:fF p0=some r):PF 130 [.agg (aC p0)] (pI r):=by
 unfold fF at h
 refine bd ?_
 refine dp Tryz.func130 rfl Tryz.ntmps130 Tryz.results130 rfl (cU rfl (bg (cs:=(aC p0)) rfl rfl (fun b1=>bc [2] (by kernel_rfl) (co (aa h fun x2 hx2 h=>aq [0] [3,4] [(5,pB (decide (32<x2)))] (bi 1 (wE hx2) bh) (by kernel_rfl) (cR rfl h (fun hc3 h=>?_) fun hc3 h=>?_))))))
 ·refine ae ?_
  refine cZ [(2,pI 8)] (by kernel_rfl) (ap ?_)
  exact zz r h rfl
 refine ah ?_
 refine co (aa h fun x4 hx4 h=>aq [0] [6,7] [(8,pB (!x4))] (bi 1 (wP hx4) bh) (by kernel_rfl) (cR rfl h (fun hc5 h=>?_) fun hc5 h=>?_))
 ·refine ae ?_
  refine cZ [(2,pI 1)] (by kernel_rfl) (ap ?_)
  exact zz r h rfl
 refine ah ?_
 refine ca (cZ [(2,pI 0)] (by kernel_rfl) ?_)
 exact zz r h rfl
def el (p0:Zb) (p1:ByteArray):Option (Ze×Bool):=(aV (S:=Int×Int) (T:=(Int)) (fun (v3,v4)=>cond (decide (v4<(p0.Rules.length:Int))) (((idx p0.Rules v4).bind fun m11=>(dy p1 m11.Prefix).bind fun x13=>(gd (x13&&(!(decide (v3<0)))) (idx p0.Rules v3)).bind fun m14=>cond (x13&&((decide (v3<0))||(decide ((m14.Prefix.size:Int)<(m11.Prefix.size:Int))))) (some v4) (some v3)).bind fun v9=>some (.inl (v9,(IntKind.i64.wrap (v4+1))))) (some (.inr v3))) FUEL ((-1),0)).bind fun v5=>(gd (!(decide (v5<0))) (idx p0.Rules v5)).bind fun m16=>(gd (!(decide (v5<0))) (fF m16.Rule)).bind fun x17=>cond ((decide (v5<0))||(x17 != 0)) (some ((⟨0,0,[],0,0,ByteArray.empty,[]⟩:Ze),false)) ((idx p0.Rules v5).bind fun m19=>(iS m19.Rule).bind fun x20=>some (x20,true))
theorem lG {p0:Zb} {p1:ByteArray} {r:(Ze×Bool)}  (h:el p0 p1=some r):PF 89 [.agg (aD p0),pS p1] (.tup [.agg (aC r.1),pB r.2]):=by
 unfold el at h
 refine bd ?_
 refine dp Tryz.func89 rfl Tryz.ntmps89 Tryz.results89 rfl (cU rfl (bg (cs:=(aD p0)) rfl rfl (fun b1=>al rfl (aN (cs:=[pI 0,pI 0,pN,pI 0,pI 0,pS ByteArray.empty,pN]) rfl rfl rfl rfl (fun b2=>bc [5] (by kernel_rfl) (ca (aj [(6,pI (-1))] (by kernel_rfl) (co (aM [1] [9] [(10,pL Zi.enc p0.Rules),(11,pI (p0.Rules.length:Int)),(12,pI 0)] (by kernel_rfl) (fa h fun q7 hq7 h=>?_))))))))))
 refine am (Y:=Unit×Int) (fun (_,v5)=>[(2,pP b1 0),(4,pP b2 0),(6,pI v5)]) (fun (_,v5)=>[PRes.b b1 81 (aD p0),PRes.b b2 84 [pI 0,pI 0,pN,pI 0,pI 0,pS ByteArray.empty,pN]]) (fun (_,v5)=>q7=v5) ?_ ?_
 ·refine aw ?_
  refine aB (Y:=Unit) (S:=Int×Int) _ hq7 (fun _ (v3,v4)=>[(1,pS p1),(2,pP b1 0),(4,pP b2 0),(6,pI v3),(10,pL Zi.enc p0.Rules),(11,pI (p0.Rules.length:Int)),(12,pI v4)]) (fun _ (v3,v4)=>[PRes.b b1 81 (aD p0),PRes.b b2 84 [pI 0,pI 0,pN,pI 0,pI 0,pS ByteArray.empty,pN]]) () (qQ rfl) (ba (ar aJ) cg) ?_
  rintro _ ⟨v3,v4⟩ o τ hb6;(try dsimp only at hb6);dsimp only [au]
  refine ae (aj [(13,pB (decide (v4<(p0.Rules.length:Int))))] (by kernel_rfl) (ca (jG rfl hb6 (fun hc8 hb6=>?_) fun hc8 hb6=>?_)))
  ·refine ah ?_
   refine cN hb6 fun q10 hq10 hb6=>?_
   refine am (Y:=Unit×Int) (fun (_,v9)=>[(1,pS p1),(2,pP b1 0),(4,pP b2 0),(6,pI v9),(10,pL Zi.enc p0.Rules),(11,pI (p0.Rules.length:Int)),(12,pI v4)]) (fun (_,v9)=>[PRes.b b1 81 (aD p0),PRes.b b2 84 [pI 0,pI 0,pN,pI 0,pI 0,pS ByteArray.empty,pN]]) (fun (_,v9)=>q10=v9) ?_ ?_
   ·skip
    refine nX (aa hq10 fun m11 hm11 hq10=>af (aY 3 [] [15] [(14,pI v4),(16,.agg (d9 m11))] (cr 1 Zi.enc hm11 bh) (by kernel_rfl) (al rfl (aN (cs:=[pS ByteArray.empty,pI 0,pI 0,pN,pI 0,pI 0,pS ByteArray.empty,pN]) rfl rfl rfl rfl (fun b12=>aF 1 [(7,pI v4)] (by kernel_rfl) (aS rfl rfl (an (vs:=(d9 m11)) rfl rfl rfl rfl rfl cw zl8 (aG (ca (bj (ρd:=[]) [(0,0),(1,0),(2,0),(3,1),(4,0),(5,0),(6,0),(7,0),(8,0),(9,0),(10,0),(11,0),(12,0),(13,0),(14,0),(15,0),(16,0),(17,0),(18,0),(19,0),(20,0)] _ (List.Perm.refl _) (by kernel_rfl) rfl (aa hq10 fun x13 hx13 hq10=>aa hq10 fun m14 hm14 hq10=>bv 21 [0,0,1] (rg 17 20) [(37,pB (x13&&((decide (v3<0))||(decide ((m14.Prefix.size:Int)<(m11.Prefix.size:Int))))))] (bi 3 (iR hx13) (eG 14 Zi.enc (cA hm14) bh)) (by kernel_rfl) (bB (cR rfl hq10 (fun hc15 hq10=>?_) fun hc15 hq10=>?_)))))))))))))
    ·refine ai [38] [(6,pI v4)] (by kernel_rfl) ?_
     refine aA ?_
     obtain rfl:=osi hq10
     exact av ((),v4) (qQ rfl) (ba (ar aJ) (ba (ar aJ) bz)) rfl
    refine ah ?_
    refine aA ?_
    obtain rfl:=osi hq10
    exact av ((),v3) (qQ rfl) (ba (ar aJ) (ba (ar aJ) bz)) rfl
   rintro ⟨_,v9⟩ τ hz;(try dsimp only at hz);subst q10;(try dsimp only at hb6);dsimp only [au]
   refine ai [39] [(12,pI (IntKind.i64.wrap (v4+1)))] (by kernel_rfl) ?_
   exact aR hb6 () (qQ rfl) mE
  refine aH ?_
  refine cd hb6 (fun ht=>ak rfl ?_)
  exact av ((),v3) (lM rfl) mE ht.symm
 rintro ⟨_,v5⟩ τ hz;(try dsimp only at hz);subst q7;(try dsimp only at h);dsimp only [au]
 refine cT (aa h fun m16 hm16 h=>aa h fun x17 hx17 h=>aq [0] (rg 40 11) [(51,pB ((decide (v5<0))||(x17 != 0)))] (eG 6 Zi.enc (cA hm16) (dK 9 (fun hc=>ja (cA hx17 hc)) bh)) (by kernel_rfl) (cR rfl h (fun hc18 h=>?_) fun hc18 h=>?_))
 ·refine ae ?_
  refine af (aF 1 [(52,.agg [pI 0,pI 0,pN,pI 0,pI 0,pS ByteArray.empty,pN])] (by kernel_rfl) (aS rfl rfl (an (vs:=[pI 0,pI 0,pN,pI 0,pI 0,pS ByteArray.empty,pN]) rfl rfl rfl rfl rfl (dl cw) nP (aI [(5,pB false)] (by kernel_rfl) (aL (df (k:=2) (b:=b2) rfl (dl cw) (df (k:=6) (b:=b2) rfl (dl cw) (bq (ap ?_)))))))))
  obtain rfl:=osi h
  exact aP (cD (dV rfl u3 rfl) (aO rfl)) bz ⟨rfl,rfl⟩
 refine ah ?_
 refine cN h fun m19 hm19 h=>aa h fun x20 hx20 h=>af (aY 7 [0] (rg 53 6) [(59,.agg (aC x20))] (cr 3 Zi.enc hm19 (bi 6 (n5 hx20) bh)) (by kernel_rfl) (aS rfl rfl (an (vs:=(aC x20)) rfl rfl rfl rfl rfl (dl cw) nP (aI [(5,pB true)] (by kernel_rfl) (dm ?_)))))
 obtain rfl:=osi h
 exact aP (cD (dV rfl u3 rfl) (aO rfl)) bz ⟨rfl,rfl⟩
def cJ (p0:(List Zd)) (p1:(List Zb)) (p2:ByteArray) (p3:Za):Option Bool:=(dj p0 p3.Product).bind fun x2=>cond (!x2.2) (some false) ((eC p1 p3.Agreement).bind fun x5=>(gd (!((!x5.2)||(decide (x2.1.Country=p2)))) (dB x5.1 x2.1.Country p2)).bind fun x7=>cond (((!x5.2)||(decide (x2.1.Country=p2)))||(!x7)) (some false) ((el x5.1 x2.1.Code).bind fun x9=>some x9.2))
theorem jx {p0:(List Zd)} {p1:(List Zb)} {p2:ByteArray} {p3:Za} {r:Bool}  (h:cJ p0 p1 p2 p3=some r):PF 44 [pL Zd.enc p0,pL Zb.enc p1,pS p2,.agg [pI p3.Product,pI p3.Agreement]] (pB r):=by
 unfold cJ at h
 refine bd ?_
 refine dp Tryz.func44 rfl Tryz.ntmps44 Tryz.results44 rfl (cU rfl (bg (cs:=[pI p3.Product,pI p3.Agreement]) rfl rfl (fun b1=>bc [8] (by kernel_rfl) (cN h fun x2 hx2 h=>af (aY 7 [0] [13,14,15,16,12] [(17,.agg (aK x2.1)),(18,pB x2.2)] (bi 3 (ib hx2) bh) (by kernel_rfl) (al rfl (aN (cs:=[pI 0,pS ByteArray.empty,pS ByteArray.empty,pI 0,pB false,pN,pN]) rfl rfl rfl rfl (fun b3=>aS rfl rfl (an (vs:=(aK x2.1)) rfl rfl rfl rfl rfl cw nP (aI [(10,pB x2.2)] (by kernel_rfl) (co (bF [19] [(20,pB (!x2.2))] (by kernel_rfl) rfl h (fun hc4 h=>?_) fun hc4 h=>?_))))))))))))
 ·refine ae ?_
  refine cZ [(8,pB false)] (by kernel_rfl) (ap ?_)
  exact zz r h rfl
 refine ah ?_
 refine cN h fun x5 hx5 h=>af (aY 7 [1] [22,23,24,25,21] [(26,.agg (aD x5.1)),(27,pB x5.2)] (bi 3 (jJ hx5) bh) (by kernel_rfl) (al rfl (aN (cs:=[pI 0,pI 0,pN,pN]) rfl rfl rfl rfl (fun b6=>aS rfl rfl (an (vs:=(aD x5.1)) rfl rfl rfl rfl rfl cw yy (aI [(10,pB x5.2)] (by kernel_rfl) (co (aa h fun x7 hx7 h=>aq [1,0,1] (rg 28 15) [(43,pB (((!x5.2)||(decide (x2.1.Country=p2)))||(!x7)))] (dK 13 (fun hc=>jm (cA hx7 hc)) bh) (by kernel_rfl) (cR rfl h (fun hc8 h=>?_) fun hc8 h=>?_)))))))))
 ·refine ae ?_
  refine cZ [(8,pB false)] (by kernel_rfl) (ap ?_)
  exact zz r h rfl
 refine ah ?_
 refine cN h fun x9 hx9 h=>aq [0,1] [45,46,47,48,44,49,50] [(10,pB x9.2)] (bi 3 (lG hx9) bh) (by kernel_rfl) (ca (ai [51] [(8,pB x9.2)] (by kernel_rfl) (dm ?_)))
 exact zz r h rfl
def ff (p0:Zi) (p1:Zi):Option Bool:=(gd (decide (p0.Prefix=p1.Prefix)) (fF p0.Rule)).bind fun x3=>(gd ((decide (p0.Prefix=p1.Prefix))&&(x3 == 0)) (iT p0.Rule p1.Rule)).bind fun x4=>some (((decide (p0.Prefix=p1.Prefix))&&(x3 == 0))&&x4)
theorem nh {p0:Zi} {p1:Zi} {r:Bool}  (h:ff p0 p1=some r):PF 135 [.agg (d9 p0),.agg (d9 p1)] (pB r):=by
 unfold ff at h
 refine bd ?_
 refine dp Tryz.func135 rfl Tryz.ntmps135 Tryz.results135 rfl (cU rfl (bg (cs:=(d9 p0)) rfl rfl (fun b1=>al rfl (bg (cs:=(d9 p1)) rfl rfl (fun b2=>bc [4] (by kernel_rfl) (cN h fun x3 hx3 h=>aa h fun x4 hx4 h=>aq [1,0,1,1,0] (rg 5 18) [(4,pB (((decide (p0.Prefix=p1.Prefix))&&(x3 == 0))&&x4))] (dK 8 (fun hc=>ja (cA hx3 hc)) (dK 16 (fun hc=>n7 (cA hx4 hc)) bh)) (by kernel_rfl) (dm ?_)))))))
 exact zz r h rfl
def eJ (p0:(List Zi)) (p1:(List Zi)):Option Bool:=(bk p0 p1 (fun y1 y2=>ff y1 y2)).bind fun x3=>some x3
theorem nK {p0:(List Zi)} {p1:(List Zi)} {r:Bool}  (h:eJ p0 p1=some r):PF 95 [pL Zi.enc p0,pL Zi.enc p1] (pB r):=by
 unfold eJ at h
 refine bd ?_
 refine dp Tryz.func95 rfl Tryz.ntmps95 Tryz.results95 rfl (aU [4] (by kernel_rfl) (cN h fun x3 hx3 h=>aq [] [5,6,7] [(4,pB x3)] (bi 2 (dH (fun hr=>qY (nh hr)) hx3) bh) (by kernel_rfl) (dm ?_)))
 exact zz r h rfl
def eu (p0:(List Zb)) (p1:Int) (p2:ByteArray) (p3:ByteArray):Option (List Int):=(eC p0 p1).bind fun x1=>cond (!x1.2) (some []) (cond (x1.1.Kind != 2) (some [p1]) ((aV (S:=(List Int)×Int) (T:=((List Int))) (fun (l8,v11)=>cond (decide (v11<(p0.length:Int))) (((idx p0 v11).bind fun m24=>(gd (m24.ID != p1) (dB m24 p2 p3)).bind fun x26=>(gd ((m24.ID != p1)&&x26) (eJ x1.1.Rules m24.Rules)).bind fun x27=>cond (((m24.ID != p1)&&x26)&&x27) ((app 8 l8 [m24.ID]).bind fun l31=>some l31) (some l8)).bind fun l22=>some (.inl (l22,(IntKind.i64.wrap (v11+1))))) (some (.inr l8))) FUEL ([p1],0)).bind fun l15=>some l15))
theorem oV {p0:(List Zb)} {p1:Int} {p2:ByteArray} {p3:ByteArray} {r:(List Int)}  (h:eu p0 p1 p2 p3=some r):PF 47 [pL Zb.enc p0,pI p1,pS p2,pS p3] (pL eI r):=by
 unfold eu at h
 refine bd ?_
 refine dp Tryz.func47 rfl Tryz.ntmps47 Tryz.results47 rfl (aU [8] (by kernel_rfl) (cN h fun x1 hx1 h=>af (aY 6 [] [15,16,17,14] [(18,.agg (aD x1.1)),(19,pB x1.2)] (bi 2 (jJ hx1) bh) (by kernel_rfl) (al rfl (aN (cs:=[pI 0,pI 0,pN,pN]) rfl rfl rfl rfl (fun b2=>aS rfl rfl (an (vs:=(aD x1.1)) rfl rfl rfl rfl rfl cw yy (aI [(10,pB x1.2)] (by kernel_rfl) (co (bF [20] [(21,pB (!x1.2))] (by kernel_rfl) rfl h (fun hc3 h=>?_) fun hc3 h=>?_))))))))))
 ·refine ae ?_
  refine aj [(8,pN)] (by kernel_rfl) (aL (fz 8 rfl (bq (ap ?_))))
  exact zz r h rfl
 refine ah ?_
 refine ca (af (aF 1 [(22,pI p1)] (by kernel_rfl) (al rfl (bw rfl rfl rfl rfl rfl (fL rfl iP) rfl rfl rfl rfl (fun b4=>aI [(11,pO (some ⟨b4,0,none⟩) 1 1)] (by kernel_rfl) (co (aM [1] [24,25] [(26,pB (x1.1.Kind != 2))] (by kernel_rfl) (cR rfl h (fun hc6 h=>?_) fun hc6 h=>?_))))))))
 ·refine ae ?_
  refine ai [27] [(8,pO (some ⟨b4,0,none⟩) 1 1)] (by kernel_rfl) (aL ?_)
  refine dr (enc:=eI) (xs:=[p1]) 8 rfl (by exact aJ) ?_
  refine bq (ap ?_)
  exact zz r h rfl
 refine ah ?_
 refine co (aj [(28,pL Zb.enc p0),(29,pI (p0.length:Int)),(30,pI 0)] (by kernel_rfl) (fa h fun q17 hq17 h=>?_))
 refine am (Y:=(Option Addr×Nat)×((List Int))) (fun ((a13,c14),l15)=>[(11,pO a13 l15.length c14)]) (fun ((a13,c14),l15)=>[PRes.row a13 l15.length c14 3 1 (List.map eI l15)]) (fun ((a13,c14),l15)=>q17=l15) ?_ ?_
 ·refine aw ?_
  refine aB (Y:=Option Addr×Nat) (S:=(List Int)×Int) _ hq17 (fun (a9,c10) (l8,v11)=>[(1,pI p1),(2,pS p2),(3,pS p3),(9,pP b2 0),(11,pO a9 l8.length c10),(28,pL Zb.enc p0),(29,pI (p0.length:Int)),(30,pI v11)]) (fun (a9,c10) (l8,v11)=>[PRes.b b2 81 (aD x1.1),PRes.row a9 l8.length c10 3 1 (List.map eI l8)]) ((some ⟨b4,0,none⟩),1) (qR rfl) (ba (ar aJ) cg) ?_
  rintro ⟨a9,c10⟩ ⟨l8,v11⟩ o τ hb16;(try dsimp only at hb16);dsimp only [au]
  refine ae (aj [(31,pB (decide (v11<(p0.length:Int))))] (by kernel_rfl) (ca (jG rfl hb16 (fun hc18 hb16=>?_) fun hc18 hb16=>?_)))
  ·refine ah ?_
   refine cN hb16 fun q23 hq23 hb16=>?_
   refine am (Y:=(Option Addr×Nat)×((List Int))) (fun ((a20,c21),l22)=>[(1,pI p1),(2,pS p2),(3,pS p3),(9,pP b2 0),(11,pO a20 l22.length c21),(28,pL Zb.enc p0),(29,pI (p0.length:Int)),(30,pI v11)]) (fun ((a20,c21),l22)=>[PRes.b b2 81 (aD x1.1),PRes.row a20 l22.length c21 3 1 (List.map eI l22)]) (fun ((a20,c21),l22)=>q23=l22) ?_ ?_
   ·skip
    refine nX (aa hq23 fun m24 hm24 hq23=>af (aY 2 [] [32] [(33,.agg (aD m24))] (cr 0 Zb.enc hm24 bh) (by kernel_rfl) (al rfl (aN (cs:=[pI 0,pI 0,pN,pN]) rfl rfl rfl rfl (fun b25=>aS rfl rfl (an (vs:=(aD m24)) rfl rfl rfl rfl rfl cw yy (aG (cN hq23 fun x26 hx26 hq23=>aa hq23 fun x27 hx27 hq23=>aq [0,0,1,0] (rg 34 16) [(50,pB (((m24.ID != p1)&&x26)&&x27))] (dK 8 (fun hc=>jm (cA hx26 hc)) (dK 15 (fun hc=>nK (cA hx27 hc)) bh)) (by kernel_rfl) (cR rfl hq23 (fun hc28 hq23=>?_) fun hc28 hq23=>?_)))))))))
    ·refine af ?_
     refine cj 3 [0] [52] [(51,pO a9 l8.length c10),(53,pI m24.ID)] (by kernel_rfl) (al rfl (bw rfl rfl rfl rfl rfl (fL rfl iP) rfl rfl rfl rfl (fun b29=>aa hq23 fun l31 hl31 hq23=>?_)))
     refine al rfl (bV (enc:=eI) rfl rfl rfl rfl rfl rfl rfl rfl rfl fy (by exact ar (ar (ar aJ))) hl31 (fun a32 c33=>?_))
     refine aI [(11,pO a32 l31.length c33)] (by kernel_rfl) (aA ?_)
     obtain rfl:=osi hq23
     exact av ((a32,c33),l31) (qR rfl) (ba (ar (ar (ar aJ))) cg) rfl
    refine ah ?_
    refine aA ?_
    obtain rfl:=osi hq23
    exact av ((a9,c10),l8) (qR rfl) (ba (ar aJ) (ba (ar aJ) bz)) rfl
   rintro ⟨⟨a20,c21⟩,l22⟩ τ hz;(try dsimp only at hz);subst q23;(try dsimp only at hb16);dsimp only [au]
   refine ai [56] [(30,pI (IntKind.i64.wrap (v11+1)))] (by kernel_rfl) ?_
   exact aR hb16 (a20,c21) (qR rfl) mE
  refine aH ?_
  refine cd hb16 (fun ht=>ak rfl ?_)
  exact av ((a9,c10),l8) (qP rfl) (ba (ar aJ) bz) ht.symm
 rintro ⟨⟨a13,c14⟩,l15⟩ τ hz;(try dsimp only at hz);subst q17;(try dsimp only at h);dsimp only [au]
 refine ae (ai [57] [(8,pO a13 l15.length c14)] (by kernel_rfl) (aL ?_))
 refine dr (enc:=eI) (xs:=l15) 8 rfl (by exact aJ) ?_
 refine bq ?_
 exact zz r h rfl
def j6 (p0:(List ByteArray)) (p1:(List ByteArray)):Option (List ByteArray):=(cY [p0,p1]).bind fun x3=>(jd x3).bind fun x7=>(dI x7).bind fun x8=>some x8
theorem vM {p0:(List ByteArray)} {p1:(List ByteArray)} {r:(List ByteArray)}  (h:j6 p0 p1=some r):PF 97 [pL eS p0,pL eS p1] (pL eS r):=by
 unfold j6 at h
 refine bd ?_
 refine dp Tryz.func97 rfl Tryz.ntmps97 Tryz.results97 rfl (aU [4] (by kernel_rfl) (ca (af (aF 2 [(6,pL eS p0),(7,pL eS p1)] (by kernel_rfl) (al rfl (bw rfl rfl rfl rfl rfl (fL rfl (fL rfl iP)) rfl rfl rfl rfl (fun b1=>?_)))))))
 refine fO (enc:=(eL eS)) (xs:=[p0,p1]) 8 rfl (by exact aJ) ?_
 refine aa h fun x3 hx3 h=>?_
 refine al rfl (bf rfl rfl (ρ1:=[]) (List.Perm.refl _) (kT hx3) ?_);rintro _ _ ⟨a4,c5,rfl,rfl⟩
 refine aI [(5,pO a4 x3.length c5)] (by kernel_rfl) (cN h fun x7 hx7 h=>af (aF 1 [(10,pO a4 x3.length c5)] (by kernel_rfl) ?_))
 refine al rfl (bf rfl rfl (ρ1:=[_]) (aW (by exact aJ) (List.Perm.refl _)) (lT hx7) ?_);rintro _ _ ⟨rfl,rfl⟩
 refine aG (cN h fun x8 hx8 h=>af (aF 1 [(12,pO a4 x3.length c5)] (by kernel_rfl) ?_))
 refine al rfl (bf rfl rfl (ρ1:=[_]) (aW (by exact aJ) (List.Perm.refl _)) (kI hx8) ?_);rintro _ _ ⟨a9,c10,rfl,rfl⟩
 refine aI [(4,pO a9 x8.length c10)] (by kernel_rfl) (aL ?_)
 refine dr (enc:=eS) (xs:=x8) 4 rfl (by exact aJ) ?_
 refine bq ?_
 exact zz r h rfl
def fg (p0:(List Zd)) (p1:Zb) (p2:Zd) (p3:Zr):Option ((List Zf)×(List ByteArray)):=(bY p2.Processes).bind fun x4=>(aV (S:=(List Zf)×(List ByteArray)×Int) (T:=((List Zf)×(List ByteArray))) (fun (l9,l12,v13)=>cond (decide (v13<(p2.Inputs.length:Int))) (((idx p2.Inputs v13).bind fun m29=>(dj p0 m29.Product).bind fun x31=>(gd (p1.Kind == 3) (bO p1.Parties x31.1.Country)).bind fun x33=>Option.bind (cond ((p1.Kind == 3)&&x33) ((j6 l12 x31.1.Processes).bind fun x38=>some x38) (some l12)) (fun l35=>(cV p3 x31.1 m29.Value).bind fun x39=>cond (((Zf.is_proved_ x39)||(!((p1.Kind == 3)&&x33)))||((x31.1.Inputs.length:Int) == 0)) ((app 16 l9 [x39]).bind fun l44=>some (l44,l35)) ((aV (S:=(List Zf)×Int) (T:=((List Zf))) (fun (l49,v52)=>cond (decide (v52<(x31.1.Inputs.length:Int))) ((idx x31.1.Inputs v52).bind fun m60=>(dj p0 m60.Product).bind fun x62=>(fQ m29.Value m60.Value x31.1.Price).bind fun x64=>(cV p3 x62.1 x64).bind fun x65=>(app 16 l49 [x65]).bind fun l68=>some (.inl (l68,(IntKind.i64.wrap (v52+1))))) (some (.inr l49))) FUEL (l9,0)).bind fun l56=>some (l56,l35)))).bind fun (l26,l27)=>some (.inl (l26,l27,(IntKind.i64.wrap (v13+1))))) (some (.inr (l9,l12)))) FUEL (([]:List Zf),x4,0)).bind fun (l17,l18)=>(sub l18 0 (pu (l18.length:Int) 8)).bind fun l73=>some (l17,l73)
theorem qa {p0:(List Zd)} {p1:Zb} {p2:Zd} {p3:Zr} {m3_set_:Nat} {r:((List Zf)×(List ByteArray))}  (h:fg p0 p1 p2 p3=some r):PCall 48 [pL Zd.enc p0,.agg (aD p1),.agg (aK p2),.agg [pL eI p3.partners,.v (.map (some m3_set_))]] [PRes.mp (some m3_set_) (iK Za.key vT p3.set_)] (fun pv ρ'=>pv=.tup [pL Zf.enc r.1,pL eS r.2]∧ρ'=[PRes.mp (some m3_set_) (iK Za.key vT p3.set_)]):=by
 unfold fg at h
 refine dp Tryz.func48 rfl Tryz.ntmps48 Tryz.results48 rfl (cU rfl (bg (cs:=(aD p1)) rfl rfl (fun b1=>al rfl (bg (cs:=(aK p2)) rfl rfl (fun b2=>al rfl (bg (cs:=[pL eI p3.partners,.v (.map (some m3_set_))]) rfl rfl (fun b3=>bc [8,9] (by kernel_rfl) (ca (aj [(10,pN)] (by kernel_rfl) (cN h fun x4 hx4 h=>af (cj 2 [1] [24] [(25,pL eS p2.Processes)] (by kernel_rfl) ?_)))))))))))
 refine al rfl (bf rfl rfl (ρ1:=[]) (List.Perm.refl _) (eZ hx4) ?_);rintro _ _ ⟨a5,c6,rfl,rfl⟩
 refine aI [(11,pO a5 x4.length c6)] (by kernel_rfl) (co (aM [2] [27] [(28,pL Zg.enc p2.Inputs),(29,pI (p2.Inputs.length:Int)),(30,pI 0)] (by kernel_rfl) (aL (bX 101 1 ?_))))
 refine dr (enc:=eS) (xs:=x4) 11 rfl (by exact ar aJ) ?_
 refine aa h fun q20 hq20 h=>?_
 refine am (Y:=(Option Addr×Nat)×((List Zf)×(List ByteArray))) (fun ((a15,c16),(l17,l18))=>[(10,pO a15 l17.length c16),(11,pL eS l18)]) (fun ((a15,c16),(l17,l18))=>[PRes.mp (some m3_set_) (iK Za.key vT p3.set_),PRes.row a15 l17.length c16 101 1 (List.map Zf.enc l17)]) (fun ((a15,c16),(l17,l18))=>q20=(l17,l18)) ?_ ?_
 ·refine aw ?_
  refine aB (Y:=Option Addr×Nat) (S:=(List Zf)×(List ByteArray)×Int) _ hq20 (fun (a10,c11) (l9,l12,v13)=>[(0,pL Zd.enc p0),(5,pP b1 0),(7,pP b3 0),(10,pO a10 l9.length c11),(11,pL eS l12),(28,pL Zg.enc p2.Inputs),(29,pI (p2.Inputs.length:Int)),(30,pI v13)]) (fun (a10,c11) (l9,l12,v13)=>[PRes.b b1 81 (aD p1),PRes.b b3 96 [pL eI p3.partners,.v (.map (some m3_set_))],PRes.mp (some m3_set_) (iK Za.key vT p3.set_),PRes.row a10 l9.length c11 101 1 (List.map Zf.enc l9)]) (none,0) (qR rfl) (ba (ar (ar (ar (ar aJ)))) (ba (ar (ar aJ)) (ba (ar (ar (ar aJ))) (ba (ar aJ) bz)))) ?_
  rintro ⟨a10,c11⟩ ⟨l9,l12,v13⟩ o τ hb19;(try dsimp only at hb19);dsimp only [au]
  refine ae (aj [(31,pB (decide (v13<(p2.Inputs.length:Int))))] (by kernel_rfl) (ca (jG rfl hb19 (fun hc22 hb19=>?_) fun hc22 hb19=>?_)))
  ·refine ah ?_
   refine cN hb19 fun q28 hq28 hb19=>?_
   refine am (Y:=(Option Addr×Nat)×((List Zf)×(List ByteArray))) (fun ((a24,c25),(l26,l27))=>[(0,pL Zd.enc p0),(5,pP b1 0),(7,pP b3 0),(10,pO a24 l26.length c25),(11,pL eS l27),(28,pL Zg.enc p2.Inputs),(29,pI (p2.Inputs.length:Int)),(30,pI v13)]) (fun ((a24,c25),(l26,l27))=>[PRes.b b1 81 (aD p1),PRes.b b3 96 [pL eI p3.partners,.v (.map (some m3_set_))],PRes.mp (some m3_set_) (iK Za.key vT p3.set_),PRes.row a24 l26.length c25 101 1 (List.map Zf.enc l26)]) (fun ((a24,c25),(l26,l27))=>q28=(l26,l27)) ?_ ?_
   ·skip
    refine nX (aa hq28 fun m29 hm29 hq28=>af (aY 2 [] [32] [(33,.agg [pI m29.Product,pI m29.Value])] (cr 0 Zg.enc hm29 bh) (by kernel_rfl) (al rfl (aN (cs:=[pI 0,pI 0]) rfl rfl rfl rfl (fun b30=>aS rfl rfl (an (vs:=[pI m29.Product,pI m29.Value]) rfl rfl rfl rfl rfl cw re (aG (cN hq28 fun x31 hx31 hq28=>af (aY 7 [0] [35,36,37,38,34] [(39,.agg (aK x31.1)),(40,pB x31.2)] (bi 3 (ib hx31) bh) (by kernel_rfl) (al rfl (aN (cs:=[pI 0,pS ByteArray.empty,pS ByteArray.empty,pI 0,pB false,pN,pN]) rfl rfl rfl rfl (fun b32=>aS rfl rfl (an (vs:=(aK x31.1)) rfl rfl rfl rfl rfl cw nP (bc [15] (by kernel_rfl) (cN hq28 fun x33 hx33 hq28=>aq [2,2,0] (rg 41 10) [(16,pB ((p1.Kind == 3)&&x33))] (dK 8 (fun hc=>cX (cA hx33 hc)) bh) (by kernel_rfl) (co (aj [(51,pB ((p1.Kind == 3)&&x33))] (by kernel_rfl) (fa hq28 fun q36 hq36 hq28=>?_))))))))))))))))))
    refine am (Y:=Unit×((List ByteArray))) (fun (_,l35)=>[(0,pL Zd.enc p0),(5,pP b1 0),(7,pP b3 0),(10,pO a10 l9.length c11),(11,pL eS l35),(13,pP b30 0),(14,pP b32 0),(16,pB ((p1.Kind == 3)&&x33)),(28,pL Zg.enc p2.Inputs),(29,pI (p2.Inputs.length:Int)),(30,pI v13)]) (fun (_,l35)=>[PRes.b b1 81 (aD p1),PRes.b b3 96 [pL eI p3.partners,.v (.map (some m3_set_))],PRes.b b30 78 [pI m29.Product,pI m29.Value],PRes.b b32 76 (aK x31.1),PRes.mp (some m3_set_) (iK Za.key vT p3.set_),PRes.row a10 l9.length c11 101 1 (List.map Zf.enc l9)]) (fun (_,l35)=>q36=l35) ?_ ?_
    ·skip
     refine jG rfl hq36 (fun hc37 hq36=>?_) fun hc37 hq36=>?_
     ·refine aa hq36 ?_;clear hq36;intro x38 hx38 hq36
      refine aq [0] [52,53,54,55] [(11,pL eS x38)] (bi 3 (vM hx38) bh) (by kernel_rfl) ?_
      obtain rfl:=osi hq36
      exact av ((),x38) (dU rfl (dU rfl (qS rfl))) (ba (ar (ar aJ)) (ba (ar (ar aJ)) (ba (ar aJ) Cz))) rfl
     refine ah ?_
     obtain rfl:=osi hq36
     exact av ((),l12) (dU rfl (dU rfl (qS rfl))) (ba (ar (ar aJ)) (ba (ar (ar aJ)) (ba (ar aJ) Cz))) rfl
    rintro ⟨_,l35⟩ τ hz;(try dsimp only at hz);subst q36;(try dsimp only at hq28);dsimp only [au]
    refine ae (aa hq28 fun x39 hx39 hq28=>af (cj 4 [1,3,2] [58] [(56,.agg [pL eI p3.partners,.v (.map (some m3_set_))]),(57,.agg (aK x31.1)),(59,pI m29.Value)] (by kernel_rfl) ?_))
    refine al rfl (bf rfl rfl (ρ1:=[_]) (aW (by exact ar (ar (ar (ar aJ)))) (List.Perm.refl _)) (iM hx39) ?_);rintro _ _ ⟨rfl,rfl⟩
    refine aI [(17,Zf.pv x39)] (by kernel_rfl) (co (af (aY 5 [] [62,63,61] [(64,.agg [pS ((((Zf.as_proved_ x39)).use).Code),pI ((((Zf.as_proved_ x39)).use).Value),pB ((((Zf.as_proved_ x39)).use).Originating),pI ((((Zf.as_proved_ x39)).premise).Product),pI ((((Zf.as_proved_ x39)).premise).Agreement)]),(65,pB (Zf.is_proved_ x39))] (fota 1 (Zf.ta_proved_ x39) bh) (by kernel_rfl) (al rfl (aN (cs:=[pS ByteArray.empty,pI 0,pB false,pI 0,pI 0]) rfl rfl rfl rfl (fun b40=>aS rfl rfl (an (vs:=[pS ((((Zf.as_proved_ x39)).use).Code),pI ((((Zf.as_proved_ x39)).use).Value),pB ((((Zf.as_proved_ x39)).use).Originating),pI ((((Zf.as_proved_ x39)).premise).Product),pI ((((Zf.as_proved_ x39)).premise).Agreement)]) rfl rfl rfl rfl rfl cw Gy (aI [(19,pB (Zf.is_proved_ x39))] (by kernel_rfl) (ca (aM [5] (rg 66 10) [(76,pB (((Zf.is_proved_ x39)||(!((p1.Kind == 3)&&x33)))||((x31.1.Inputs.length:Int) == 0)))] (by kernel_rfl) (cR rfl hq28 (fun hc41 hq28=>?_) fun hc41 hq28=>?_)))))))))))
    ·refine ae ?_
     refine af (aF 2 [(77,pO a10 l9.length c11),(78,Zf.pv x39)] (by kernel_rfl) (al rfl (bw rfl rfl rfl rfl rfl (fL rfl iP) rfl rfl rfl rfl (fun b42=>aa hq28 fun l44 hl44 hq28=>?_))))
     refine al rfl (bV (enc:=Zf.enc) rfl rfl rfl rfl rfl rfl rfl rfl rfl fy (by exact ar (ar (ar (ar (ar (ar (ar aJ))))))) hl44 (fun a45 c46=>?_))
     refine aI [(10,pO a45 l44.length c46)] (by kernel_rfl) (aL (aH (hY (ak rfl ?_))))
     obtain rfl:=osi hq28
     exact av ((a45,c46),(l44,l35)) (qR rfl) (ba (ar (ar (ar (ar aJ)))) (ba (ar (ar (ar (ar aJ)))) (ba (ar (ar (ar aJ))) cg))) rfl
    refine ah ?_
    refine ca (aM [5] [81] [(82,pL Zg.enc x31.1.Inputs),(83,pI (x31.1.Inputs.length:Int)),(84,pI 0)] (by kernel_rfl) (fa hq28 fun q58 hq58 hq28=>?_))
    refine ip (Y:=(Option Addr×Nat)×((List Zf))) (fun ((a54,c55),l56)=>[(0,pL Zd.enc p0),(5,pP b1 0),(7,pP b3 0),(10,pO a54 l56.length c55),(11,pL eS l35),(28,pL Zg.enc p2.Inputs),(29,pI (p2.Inputs.length:Int)),(30,pI v13)]) (fun ((a54,c55),l56)=>[PRes.b b1 81 (aD p1),PRes.b b3 96 [pL eI p3.partners,.v (.map (some m3_set_))],PRes.mp (some m3_set_) (iK Za.key vT p3.set_),PRes.row a54 l56.length c55 101 1 (List.map Zf.enc l56)]) (fun ((a54,c55),l56)=>q58=l56) ?_ ?_
    ·refine aw ?_
     refine aB (Y:=Option Addr×Nat) (S:=(List Zf)×Int) _ hq58 (fun (a50,c51) (l49,v52)=>[(0,pL Zd.enc p0),(5,pP b1 0),(7,pP b3 0),(10,pO a50 l49.length c51),(11,pL eS l35),(13,pP b30 0),(14,pP b32 0),(28,pL Zg.enc p2.Inputs),(29,pI (p2.Inputs.length:Int)),(30,pI v13),(82,pL Zg.enc x31.1.Inputs),(83,pI (x31.1.Inputs.length:Int)),(84,pI v52)]) (fun (a50,c51) (l49,v52)=>[PRes.b b1 81 (aD p1),PRes.b b3 96 [pL eI p3.partners,.v (.map (some m3_set_))],PRes.b b30 78 [pI m29.Product,pI m29.Value],PRes.b b32 76 (aK x31.1),PRes.mp (some m3_set_) (iK Za.key vT p3.set_),PRes.row a50 l49.length c51 101 1 (List.map Zf.enc l49)]) (a10,c11) (dU rfl (dU rfl (dU rfl (dU rfl (qS rfl))))) (ba (ar (ar aJ)) (ba (ar (ar aJ)) (ba (ar (ar aJ)) (ba (ar (ar aJ)) (ba (ar aJ) (ba (ar aJ) bz)))))) ?_
     rintro ⟨a50,c51⟩ ⟨l49,v52⟩ o τ hb57;(try dsimp only at hb57);dsimp only [au]
     refine ae (aj [(85,pB (decide (v52<(x31.1.Inputs.length:Int))))] (by kernel_rfl) (ca (jG rfl hb57 (fun hc59 hb57=>?_) fun hc59 hb57=>?_)))
     ·refine ah ?_
      refine dq (aa hb57 fun m60 hm60 hb57=>af (aY 2 [] [86] [(87,.agg [pI m60.Product,pI m60.Value])] (cr 0 Zg.enc hm60 bh) (by kernel_rfl) (al rfl (aN (cs:=[pI 0,pI 0]) rfl rfl rfl rfl (fun b61=>aS rfl rfl (an (vs:=[pI m60.Product,pI m60.Value]) rfl rfl rfl rfl rfl cw re (aG (cN hb57 fun x62 hx62 hb57=>af (aY 7 [0] [89,90,91,92,88] [(93,.agg (aK x62.1)),(94,pB x62.2)] (bi 3 (ib hx62) bh) (by kernel_rfl) (al rfl (aN (cs:=[pI 0,pS ByteArray.empty,pS ByteArray.empty,pI 0,pB false,pN,pN]) rfl rfl rfl rfl (fun b63=>aS rfl rfl (an (vs:=(aK x62.1)) rfl rfl rfl rfl rfl cw nP (bc [23] (by kernel_rfl) (aL (bj (ρd:=[PRes.mp (some m3_set_) _,PRes.row a50 _ _ _ _ _]) [(0,0),(1,0),(2,0),(3,0),(4,0),(5,0),(6,0),(7,0),(8,0),(9,1),(10,1),(11,1),(12,1),(13,0)] _ (aW (ar (ar (ar (ar (ar (ar aJ)))))) (aW (ar (ar (ar (ar (ar (ar aJ)))))) (List.Perm.refl _))) (by kernel_rfl) rfl (aa hb57 fun x64 hx64 hb57=>aa hb57 fun x65 hx65 hb57=>bv 10 [3,0,4,1,5] (rg 98 6) [(95,pO a50 l49.length c51),(96,.agg [pL eI p3.partners,.v (.map (some m3_set_))]),(97,.agg (aK x62.1)),(104,pI x64)] (bi 9 (pA hx64) bh) (by kernel_rfl) ?_)))))))))))))))))
      refine jc rfl rfl rfl (bf rfl rfl (ρ1:=[_]) (aW (by exact aJ) (List.Perm.refl _)) (iM hx65) ?_);rintro _ _ ⟨rfl,rfl⟩
      refine jc rfl rfl rfl (bw rfl rfl rfl rfl rfl (fL rfl iP) rfl rfl rfl rfl (fun b66=>aa hb57 fun l68 hl68 hb57=>?_))
      refine jc rfl rfl rfl (bV (enc:=Zf.enc) rfl rfl rfl rfl rfl rfl rfl rfl rfl fy (by exact ar (ar aJ)) hl68 (fun a69 c70=>?_))
      refine gS 1 [(10,pO a69 l68.length c70)] (by kernel_rfl) (bB (dx (ai [108] [(84,pI (IntKind.i64.wrap (v52+1)))] (by kernel_rfl) ?_)))
      exact aR hb57 (a69,c70) (dU rfl (dU rfl (dU rfl (dU rfl (qS rfl))))) (ba (ar (ar (ar (ar (ar aJ))))) (ba (ar (ar (ar (ar (ar aJ))))) (ba (ar (ar (ar (ar (ar aJ))))) (ba (ar (ar (ar (ar (ar aJ))))) (ba (ar (ar aJ)) cg)))))
     refine aH ?_
     refine cd hb57 (fun ht=>ak rfl ?_)
     exact gE ((a50,c51),l49) (qR rfl) (ba aJ (ba aJ (ba (ar (ar aJ)) (ba (ar (ar aJ)) bz)))) ht.symm
    rintro ⟨⟨a54,c55⟩,l56⟩ τ ρ1 hsub72 hz;(try dsimp only at hz hsub72);subst q58;(try dsimp only at hq28);dsimp only [au]
    refine aA ?_
    obtain rfl:=osi hq28
    exact av ((a54,c55),(l56,l35)) (qR rfl) (PSub.trans Gx hsub72) rfl
   rintro ⟨⟨a24,c25⟩,⟨l26,l27⟩⟩ τ hz;(try dsimp only at hz);subst q28;(try dsimp only at hb19);dsimp only [au]
   refine ai [109] [(30,pI (IntKind.i64.wrap (v13+1)))] (by kernel_rfl) ?_
   exact aR hb19 (a24,c25) (qR rfl) Gx
  refine aH ?_
  refine cd hb19 (fun ht=>ak rfl ?_)
  exact av ((a10,c11),(l9,l12)) (lL rfl) (ba (ar (ar aJ)) (ba (ar (ar aJ)) bz)) ht.symm
 rintro ⟨⟨a15,c16⟩,⟨l17,l18⟩⟩ τ hz;(try dsimp only at hz);subst q20;(try dsimp only at h);dsimp only [au]
 refine ae (bj (ρd:=[]) [(0,0),(1,0),(2,0),(3,0),(4,0),(5,0),(6,0),(7,0)] _ (List.Perm.refl _) (by kernel_rfl) rfl (aa h fun l73 hl73 h=>bv 8 [] (rg 110 6) [(8,pO a15 l17.length c16),(9,pL eS l73)] (Ab 5 eS 1 (fun _=>rfl) hl73 bh) (by kernel_rfl) (bB (aL ?_))))
 refine dr (enc:=Zf.enc) (xs:=l17) 8 rfl (by exact ar aJ) ?_
 refine bq ?_
 obtain rfl:=osi h
 exact aP (cD (aO rfl) (aO rfl)) (ba (ar aJ) bz) ⟨rfl,rfl⟩
def kz (p0:(List Zd)) (p1:(List Zb)) (p2:ByteArray) (p3:Za) (p4:(List Za)):Option (Zn×(List Za)):=(cJ p0 p1 p2 p3).bind fun x3=>cond (!x3) (some ((⟨ByteArray.empty,0,false,[],[]⟩:Zn),[])) ((dj p0 p3.Product).bind fun x5=>(eC p1 p3.Agreement).bind fun x7=>(eu p1 p3.Agreement x5.1.Country p2).bind fun x9=>(aV (S:=Int×(List (Za×Bool))) (T:=((List (Za×Bool)))) (fun (v12,l13)=>cond (decide (v12<(p4.length:Int))) ((idx p4 v12).bind fun m18=>some (.inl ((IntKind.i64.wrap (v12+1)),(oO l13 m18 true)))) (some (.inr l13))) FUEL (0,([]:List (Za×Bool)))).bind fun l14=>(fg p0 x7.1 x5.1 (⟨x9,l14⟩:Zr)).bind fun x20=>(aV (S:=(List Za)×Int×(List Zl)) (T:=((List Za)×(List Zl))) (fun (l23,v26,l28)=>cond (decide (v26<(x20.1.length:Int))) (((idx x20.1 v26).bind fun m53=>(Icumulation_supply_input m53).bind fun x54=>(app 32 l28 [x54]).bind fun l57=>cond (Zf.is_proved_ m53) ((app 16 l23 [(((Zf.as_proved_ m53)).premise)]).bind fun l65=>some (l65,l57)) (some (l23,l57))).bind fun (l47,l51)=>some (.inl (l47,(IntKind.i64.wrap (v26+1)),l51))) (some (.inr (l23,l28)))) FUEL (([]:List Za),0,([]:List Zl))).bind fun (l34,l38)=>(bt l34).bind fun x69=>(bA x69).bind fun x70=>some ((⟨x5.1.Code,x5.1.Price,x5.1.Obtained,x20.2,l38⟩:Zn),x70))
def iW (p0:ByteArray):Option Bool:=(dN p0).bind fun x1=>some (decide (6≤x1))
theorem nv {p0:ByteArray} {r:Bool}  (h:iW p0=some r):PF 62 [pS p0] (pB r):=by
 unfold iW at h
 refine bd ?_
 refine dp Tryz.func62 rfl Tryz.ntmps62 Tryz.results62 rfl (aU [2] (by kernel_rfl) (cN h fun x1 hx1 h=>aq [] [3,4,5] [(2,pB (decide (6≤x1)))] (bi 1 (f0 hx1) bh) (by kernel_rfl) (dm ?_)))
 exact zz r h rfl
def gB (p0:Zn):Option Int:=(iW p0.Code).bind fun x2=>cond (!x2) (some (1:Int)) (cond ((decide (p0.Price<1))||(decide (1000000000000<p0.Price))) (some (2:Int)) ((dR p0.Processes).bind fun x5=>cond (!x5) (some (1:Int)) (cond (decide (100<(p0.Inputs.length:Int))) (some (8:Int)) ((aV (S:=Int) (T:=(Unit)⊕(_)) (fun v8=>cond (decide (v8<(p0.Inputs.length:Int))) ((idx p0.Inputs v8).bind fun m12=>(iW m12.Code).bind fun x14=>cond (!x14) (some (.inr (.inr (1:Int)))) (cond ((decide (m12.Value<0))||(decide (1000000000000<m12.Value))) (some (.inr (.inr (2:Int)))) (some (.inl (IntKind.i64.wrap (v8+1)))))) (some (.inr (.inl ())))) FUEL 0).bind fun q=>match q with | .inl _=>some (0:Int) | .inr e=>some e))))
theorem qb {p0:Zn} {r:Int}  (h:gB p0=some r):PF 21 [.agg (bC p0)] (pI r):=by
 unfold gB at h
 refine bd ?_
 refine dp Tryz.func21 rfl Tryz.ntmps21 Tryz.results21 rfl (cU rfl (bg (cs:=(bC p0)) rfl rfl (fun b1=>bc [2] (by kernel_rfl) (dq (aa h fun x2 hx2 h=>aq [0] [6,7,8,9] [(5,pB (!x2))] (bi 2 (nv hx2) bh) (by kernel_rfl) (cR rfl h (fun hc3 h=>?_) fun hc3 h=>?_))))))
 ·refine ae ?_
  refine cZ [(2,pI 1)] (by kernel_rfl) (dM ?_)
  exact zz r h rfl
 refine ae ?_
 refine aM [0,0] (rg 11 8) [(10,pB ((decide (p0.Price<1))||(decide (1000000000000<p0.Price))))] (by kernel_rfl) (cR rfl h (fun hc4 h=>?_) fun hc4 h=>?_)
 ·refine ae ?_
  refine cZ [(2,pI 2)] (by kernel_rfl) (dM ?_)
  exact zz r h rfl
 refine ae ?_
 refine aa h fun x5 hx5 h=>aq [0] [20,21,22,23] [(19,pB (!x5))] (bi 2 (jg hx5) bh) (by kernel_rfl) (cR rfl h (fun hc6 h=>?_) fun hc6 h=>?_)
 ·refine ae ?_
  refine cZ [(2,pI 1)] (by kernel_rfl) (dM ?_)
  exact zz r h rfl
 refine ae ?_
 refine aM [0] [25,26,27,28] [(24,pB (decide (100<(p0.Inputs.length:Int))))] (by kernel_rfl) (cR rfl h (fun hc7 h=>?_) fun hc7 h=>?_)
 ·refine ae ?_
  refine cZ [(2,pI 8)] (by kernel_rfl) (dM ?_)
  exact zz r h rfl
 refine ah ?_
 refine aA (co (aM [0] [29] [(30,pL Zl.enc p0.Inputs),(31,pI (p0.Inputs.length:Int)),(32,pI 0)] (by kernel_rfl) (fa h fun q10 hq10 h=>?_)))
 refine am (Y:=Unit×Unit) (fun (_,_)=>[]) (fun (_,_)=>[]) (fun (_,_)=>q10=Sum.inl ()) ?_ ?_
 ·refine aw ?_
  refine aB (Y:=Unit) (S:=Int) _ hq10 (fun _ v8=>[(30,pL Zl.enc p0.Inputs),(31,pI (p0.Inputs.length:Int)),(32,pI v8)]) (fun _ v8=>[]) () (lM rfl) bz ?_
  rintro _ v8 o τ hb9;(try dsimp only at hb9);dsimp only [au]
  refine ae (aj [(33,pB (decide (v8<(p0.Inputs.length:Int))))] (by kernel_rfl) (ca (jG rfl hb9 (fun hc11 hb9=>?_) fun hc11 hb9=>?_)))
  ·refine ah ?_
   refine dq (aa hb9 fun m12 hm12 hb9=>af (aY 2 [] [34] [(35,.agg [pS m12.Code,pI m12.Value,pB m12.Originating])] (cr 0 Zl.enc hm12 bh) (by kernel_rfl) (al rfl (aN (cs:=[pS ByteArray.empty,pI 0,pB false]) rfl rfl rfl rfl (fun b13=>aS rfl rfl (an (vs:=[pS m12.Code,pI m12.Value,pB m12.Originating]) rfl rfl rfl rfl rfl cw zl3 (aG (co (aa hb9 fun x14 hx14 hb9=>aq [0] [36,37,38] [(39,pB (!x14))] (bi 2 (nv hx14) bh) (by kernel_rfl) (cR rfl hb9 (fun hc15 hb9=>?_) fun hc15 hb9=>?_))))))))))
   ·refine ae ?_
    refine cZ [(2,pI 1)] (by kernel_rfl) (ap (dM ?_))
    refine az hb9 (fun ht=>?_);subst ht
    refine cS ?_
    exact zz r h rfl
   refine ah ?_
   refine ca (aM [0,0] (rg 40 7) [(47,pB ((decide (m12.Value<0))||(decide (1000000000000<m12.Value))))] (by kernel_rfl) (cR rfl hb9 (fun hc16 hb9=>?_) fun hc16 hb9=>?_))
   ·refine ae ?_
    refine cZ [(2,pI 2)] (by kernel_rfl) (dM ?_)
    refine az hb9 (fun ht=>?_);subst ht
    refine cS ?_
    exact zz r h rfl
   refine ah ?_
   refine dx (ai [48] [(32,pI (IntKind.i64.wrap (v8+1)))] (by kernel_rfl) ?_)
   exact aR hb9 () (lM rfl) bz
  refine aH ?_
  refine cd hb9 (fun ht=>ak rfl ?_)
  exact av ((),()) nC bz ht.symm
 rintro ⟨_,_⟩ τ hz;(try dsimp only at hz);subst q10;(try dsimp only at h);dsimp only [au]
 refine ae (cZ [(2,pI 0)] (by kernel_rfl) ?_)
 exact zz r h rfl
def dG (p0:(List Zi)):Option Int:=(aV (S:=Int) (T:=(Unit)⊕(_)) (fun v1=>cond (decide (v1<(p0.length:Int))) ((idx p0 v1).bind fun m5=>(dN m5.Prefix).bind fun x7=>cond (x7 == 0) (some (.inr (.inr (1:Int)))) ((gd (decide (0<v1)) (idx p0 (IntKind.i64.wrap (v1 - 1)))).bind fun m9=>cond ((decide (0<v1))&&(Op.bytesLess m5.Prefix.toList m9.Prefix.toList||decide (m5.Prefix=m9.Prefix))) (some (.inr (.inr (9:Int)))) ((fF m5.Rule).bind fun x11=>cond (x11 != 0) (some (.inr (.inr x11))) (some (.inl (IntKind.i64.wrap (v1+1))))))) (some (.inr (.inl ())))) FUEL 0).bind fun q=>match q with | .inl _=>some (0:Int) | .inr e=>some e
theorem mC {p0:(List Zi)} {r:Int}  (h:dG p0=some r):PF 112 [pL Zi.enc p0] (pI r):=by
 unfold dG at h
 refine bd ?_
 refine dp Tryz.func112 rfl Tryz.ntmps112 Tryz.results112 rfl (aU [2] (by kernel_rfl) (co (aj [(6,pL Zi.enc p0),(7,pI (p0.length:Int)),(8,pI 0)] (by kernel_rfl) (fa h fun q3 hq3 h=>?_))))
 refine am (Y:=Unit×Unit) (fun (_,_)=>[]) (fun (_,_)=>[]) (fun (_,_)=>q3=Sum.inl ()) ?_ ?_
 ·refine aw ?_
  refine aB (Y:=Unit) (S:=Int) _ hq3 (fun _ v1=>[(0,pL Zi.enc p0),(6,pL Zi.enc p0),(7,pI (p0.length:Int)),(8,pI v1)]) (fun _ v1=>[]) () (iq rfl) bz ?_
  rintro _ v1 o τ hb2;(try dsimp only at hb2);dsimp only [au]
  refine ae (aj [(9,pB (decide (v1<(p0.length:Int))))] (by kernel_rfl) (ca (jG rfl hb2 (fun hc4 hb2=>?_) fun hc4 hb2=>?_)))
  ·refine ah ?_
   refine dq (aa hb2 fun m5 hm5 hb2=>af (aY 3 [] [11] [(10,pI v1),(12,.agg (d9 m5))] (cr 1 Zi.enc hm5 bh) (by kernel_rfl) (al rfl (aN (cs:=[pS ByteArray.empty,pI 0,pI 0,pN,pI 0,pI 0,pS ByteArray.empty,pN]) rfl rfl rfl rfl (fun b6=>aF 1 [(3,pI v1)] (by kernel_rfl) (aS rfl rfl (an (vs:=(d9 m5)) rfl rfl rfl rfl rfl cw zl8 (aG (co (aa hb2 fun x7 hx7 hb2=>aq [0] [13,14,15] [(16,pB (x7 == 0))] (bi 2 (f0 hx7) bh) (by kernel_rfl) (cR rfl hb2 (fun hc8 hb2=>?_) fun hc8 hb2=>?_)))))))))))
   ·refine ae ?_
    refine cZ [(2,pI 1)] (by kernel_rfl) (ap (dM ?_))
    refine az hb2 (fun ht=>?_);subst ht
    refine cS ?_
    exact zz r h rfl
   refine ah ?_
   refine co (bj (ρd:=[]) [(0,0),(1,0),(2,0),(3,0),(4,0),(5,0),(6,0),(7,0),(8,0),(9,0),(10,0),(11,0),(12,0)] _ (List.Perm.refl _) (by kernel_rfl) rfl (aa hb2 fun m9 hm9 hb2=>bv 13 [0] (rg 17 12) [(29,pB ((decide (0<v1))&&(Op.bytesLess m5.Prefix.toList m9.Prefix.toList||decide (m5.Prefix=m9.Prefix))))] (eG 8 Zi.enc (cA hm9) bh) (by kernel_rfl) (bB (cR rfl hb2 (fun hc10 hb2=>?_) fun hc10 hb2=>?_))))
   ·refine ae ?_
    refine cZ [(2,pI 9)] (by kernel_rfl) (ap (dM ?_))
    refine az hb2 (fun ht=>?_);subst ht
    refine cS ?_
    exact zz r h rfl
   refine ah ?_
   refine cN hb2 fun x11 hx11 hb2=>aq [0] [30,31,32] [(5,pI x11)] (bi 2 (ja hx11) bh) (by kernel_rfl) (ca (bF [33] [(34,pB (x11 != 0))] (by kernel_rfl) rfl hb2 (fun hc12 hb2=>?_) fun hc12 hb2=>?_))
   ·refine ae ?_
    refine ai [35] [(2,pI x11)] (by kernel_rfl) (dm (dM ?_))
    refine az hb2 (fun ht=>?_);subst ht
    refine cS ?_
    exact zz r h rfl
   refine ah ?_
   refine dx (ai [36] [(8,pI (IntKind.i64.wrap (v1+1)))] (by kernel_rfl) ?_)
   exact aR hb2 () (iq rfl) bz
  refine aH ?_
  refine cd hb2 (fun ht=>ak rfl ?_)
  exact av ((),()) nC bz ht.symm
 rintro ⟨_,_⟩ τ hz;(try dsimp only at hz);subst q3;(try dsimp only at h);dsimp only [au]
 refine ae (cZ [(2,pI 0)] (by kernel_rfl) ?_)
 exact zz r h rfl
def ey (p0:(List Zb)):Option Int:=cond (decide (8<(p0.length:Int))) (some (8:Int)) ((aV (S:=Int) (T:=(Unit)⊕(_)) (fun v2=>cond (decide (v2<(p0.length:Int))) ((idx p0 v2).bind fun m6=>cond ((((decide (m6.ID<1))||(decide (1000<m6.ID)))||(decide (m6.Kind<1)))||(decide (3<m6.Kind))) (some (.inr (.inr (2:Int)))) ((gd (decide (0<v2)) (idx p0 (IntKind.i64.wrap (v2 - 1)))).bind fun m9=>cond ((decide (0<v2))&&(decide (m6.ID≤m9.ID))) (some (.inr (.inr (9:Int)))) (cond ((decide (12<(m6.Parties.length:Int)))||(decide (12<(m6.Rules.length:Int)))) (some (.inr (.inr (8:Int)))) ((dP m6.Parties).bind fun x12=>cond (!x12) (some (.inr (.inr (1:Int)))) ((dG m6.Rules).bind fun x14=>cond (x14 != 0) (some (.inr (.inr x14))) (some (.inl (IntKind.i64.wrap (v2+1))))))))) (some (.inr (.inl ())))) FUEL 0).bind fun q=>match q with | .inl _=>some (0:Int) | .inr e=>some e)
theorem oW {p0:(List Zb)} {r:Int}  (h:ey p0=some r):PF 64 [pL Zb.enc p0] (pI r):=by
 unfold ey at h
 refine bd ?_
 refine dp Tryz.func64 rfl Tryz.ntmps64 Tryz.results64 rfl (aU [2] (by kernel_rfl) (co (bF [6,7] [(8,pB (decide (8<(p0.length:Int))))] (by kernel_rfl) rfl h (fun hc1 h=>?_) fun hc1 h=>?_)))
 ·refine ae ?_
  refine cZ [(2,pI 8)] (by kernel_rfl) (ap ?_)
  exact zz r h rfl
 refine ah ?_
 refine co (aj [(9,pL Zb.enc p0),(10,pI (p0.length:Int)),(11,pI 0)] (by kernel_rfl) (fa h fun q4 hq4 h=>?_))
 refine am (Y:=Unit×Unit) (fun (_,_)=>[]) (fun (_,_)=>[]) (fun (_,_)=>q4=Sum.inl ()) ?_ ?_
 ·refine aw ?_
  refine aB (Y:=Unit) (S:=Int) _ hq4 (fun _ v2=>[(0,pL Zb.enc p0),(9,pL Zb.enc p0),(10,pI (p0.length:Int)),(11,pI v2)]) (fun _ v2=>[]) () (iq rfl) bz ?_
  rintro _ v2 o τ hb3;(try dsimp only at hb3);dsimp only [au]
  refine ae (aj [(12,pB (decide (v2<(p0.length:Int))))] (by kernel_rfl) (ca (jG rfl hb3 (fun hc5 hb3=>?_) fun hc5 hb3=>?_)))
  ·refine ah ?_
   refine dq (aa hb3 fun m6 hm6 hb3=>af (aY 3 [] [14] [(13,pI v2),(15,.agg (aD m6))] (cr 1 Zb.enc hm6 bh) (by kernel_rfl) (al rfl (aN (cs:=[pI 0,pI 0,pN,pN]) rfl rfl rfl rfl (fun b7=>aF 1 [(3,pI v2)] (by kernel_rfl) (aS rfl rfl (an (vs:=(aD m6)) rfl rfl rfl rfl rfl cw yy (aG (co (aM [0,0,0,0] (rg 16 17) [(33,pB ((((decide (m6.ID<1))||(decide (1000<m6.ID)))||(decide (m6.Kind<1)))||(decide (3<m6.Kind))))] (by kernel_rfl) (cR rfl hb3 (fun hc8 hb3=>?_) fun hc8 hb3=>?_)))))))))))
   ·refine ae ?_
    refine cZ [(2,pI 2)] (by kernel_rfl) (ap (dM ?_))
    refine az hb3 (fun ht=>?_);subst ht
    refine cS ?_
    exact zz r h rfl
   refine ah ?_
   refine co (bj (ρd:=[]) [(0,0),(1,0),(2,0),(3,0),(4,0),(5,0),(6,0),(7,0),(8,0),(9,0),(10,0),(11,0),(12,0)] _ (List.Perm.refl _) (by kernel_rfl) rfl (aa hb3 fun m9 hm9 hb3=>bv 13 [0] (rg 34 12) [(46,pB ((decide (0<v2))&&(decide (m6.ID≤m9.ID))))] (eG 8 Zb.enc (cA hm9) bh) (by kernel_rfl) (bB (cR rfl hb3 (fun hc10 hb3=>?_) fun hc10 hb3=>?_))))
   ·refine ae ?_
    refine cZ [(2,pI 9)] (by kernel_rfl) (ap (dM ?_))
    refine az hb3 (fun ht=>?_);subst ht
    refine cS ?_
    exact zz r h rfl
   refine ah ?_
   refine co (aM [0,0] (rg 47 9) [(56,pB ((decide (12<(m6.Parties.length:Int)))||(decide (12<(m6.Rules.length:Int)))))] (by kernel_rfl) (cR rfl hb3 (fun hc11 hb3=>?_) fun hc11 hb3=>?_))
   ·refine ae ?_
    refine cZ [(2,pI 8)] (by kernel_rfl) (ap (dM ?_))
    refine az hb3 (fun ht=>?_);subst ht
    refine cS ?_
    exact zz r h rfl
   refine ah ?_
   refine co (aa hb3 fun x12 hx12 hb3=>aq [0] [57,58,59] [(60,pB (!x12))] (bi 2 (na hx12) bh) (by kernel_rfl) (cR rfl hb3 (fun hc13 hb3=>?_) fun hc13 hb3=>?_))
   ·refine ae ?_
    refine cZ [(2,pI 1)] (by kernel_rfl) (ap (dM ?_))
    refine az hb3 (fun ht=>?_);subst ht
    refine cS ?_
    exact zz r h rfl
   refine ah ?_
   refine cN hb3 fun x14 hx14 hb3=>aq [0] [61,62,63] [(5,pI x14)] (bi 2 (mC hx14) bh) (by kernel_rfl) (ca (bF [64] [(65,pB (x14 != 0))] (by kernel_rfl) rfl hb3 (fun hc15 hb3=>?_) fun hc15 hb3=>?_))
   ·refine ae ?_
    refine ai [66] [(2,pI x14)] (by kernel_rfl) (dm (dM ?_))
    refine az hb3 (fun ht=>?_);subst ht
    refine cS ?_
    exact zz r h rfl
   refine ah ?_
   refine dx (ai [67] [(11,pI (IntKind.i64.wrap (v2+1)))] (by kernel_rfl) ?_)
   exact aR hb3 () (iq rfl) bz
  refine aH ?_
  refine cd hb3 (fun ht=>ak rfl ?_)
  exact av ((),()) nC bz ht.symm
 rintro ⟨_,_⟩ τ hz;(try dsimp only at hz);subst q4;(try dsimp only at h);dsimp only [au]
 refine ae (cZ [(2,pI 0)] (by kernel_rfl) ?_)
 exact zz r h rfl
def di (p0:Zd):Option Int:=(dN p0.Code).bind fun x2=>(gd (!((x2 != 6)&&(x2 != 8))) (cq p0.Country)).bind fun x3=>(gd (!(((x2 != 6)&&(x2 != 8))||(!x3))) (dR p0.Processes)).bind fun x4=>cond ((((x2 != 6)&&(x2 != 8))||(!x3))||(!x4)) (some (1:Int)) (cond ((decide (p0.Price<1))||(decide (1000000000000<p0.Price))) (some (2:Int)) (cond (decide (8<(p0.Inputs.length:Int))) (some (8:Int)) (cond (p0.Obtained&&(decide (0<(p0.Inputs.length:Int)))) (some (1:Int)) (some (0:Int)))))
theorem lH {p0:Zd} {r:Int}  (h:di p0=some r):PF 118 [.agg (aK p0)] (pI r):=by
 unfold di at h
 refine bd ?_
 refine dp Tryz.func118 rfl Tryz.ntmps118 Tryz.results118 rfl (cU rfl (bg (cs:=(aK p0)) rfl rfl (fun b1=>bc [2] (by kernel_rfl) (cN h fun x2 hx2 h=>aq [0] [4,5,6] [(3,pI x2)] (bi 2 (f0 hx2) bh) (by kernel_rfl) (co (aa h fun x3 hx3 h=>aa h fun x4 hx4 h=>aq [0,0] (rg 7 17) [(24,pB ((((x2 != 6)&&(x2 != 8))||(!x3))||(!x4)))] (dK 9 (fun hc=>fT (cA hx3 hc)) (dK 15 (fun hc=>jg (cA hx4 hc)) bh)) (by kernel_rfl) (cR rfl h (fun hc5 h=>?_) fun hc5 h=>?_)))))))
 ·refine ae ?_
  refine cZ [(2,pI 1)] (by kernel_rfl) (ap ?_)
  exact zz r h rfl
 refine ah ?_
 refine co (aM [0,0] (rg 25 7) [(32,pB ((decide (p0.Price<1))||(decide (1000000000000<p0.Price))))] (by kernel_rfl) (cR rfl h (fun hc6 h=>?_) fun hc6 h=>?_))
 ·refine ae ?_
  refine cZ [(2,pI 2)] (by kernel_rfl) (ap ?_)
  exact zz r h rfl
 refine ah ?_
 refine co (aM [0] [33,34,35] [(36,pB (decide (8<(p0.Inputs.length:Int))))] (by kernel_rfl) (cR rfl h (fun hc7 h=>?_) fun hc7 h=>?_))
 ·refine ae ?_
  refine cZ [(2,pI 8)] (by kernel_rfl) (ap ?_)
  exact zz r h rfl
 refine ah ?_
 refine co (aM [0,0] (rg 37 7) [(44,pB (p0.Obtained&&(decide (0<(p0.Inputs.length:Int)))))] (by kernel_rfl) (cR rfl h (fun hc8 h=>?_) fun hc8 h=>?_))
 ·refine ae ?_
  refine cZ [(2,pI 1)] (by kernel_rfl) (ap ?_)
  exact zz r h rfl
 refine ah ?_
 refine ca (cZ [(2,pI 0)] (by kernel_rfl) ?_)
 exact zz r h rfl
def ez (p0:(List Zd)):Option Int:=cond (decide (64<(p0.length:Int))) (some (8:Int)) ((aV (S:=Int) (T:=(Unit)⊕(_)) (fun v2=>cond (decide (v2<(p0.length:Int))) ((idx p0 v2).bind fun m6=>cond ((decide (m6.ID<1))||(decide (1000000<m6.ID))) (some (.inr (.inr (2:Int)))) ((gd (decide (0<v2)) (idx p0 (IntKind.i64.wrap (v2 - 1)))).bind fun m9=>cond ((decide (0<v2))&&(decide (m6.ID≤m9.ID))) (some (.inr (.inr (9:Int)))) ((di m6).bind fun x11=>cond (x11 != 0) (some (.inr (.inr x11))) ((dt p0 m6.Inputs).bind fun x13=>cond (x13 != 0) (some (.inr (.inr x13))) (some (.inl (IntKind.i64.wrap (v2+1)))))))) (some (.inr (.inl ())))) FUEL 0).bind fun q=>match q with | .inl _=>some (0:Int) | .inr e=>some e)
theorem oX {p0:(List Zd)} {r:Int}  (h:ez p0=some r):PF 71 [pL Zd.enc p0] (pI r):=by
 unfold ez at h
 refine bd ?_
 refine dp Tryz.func71 rfl Tryz.ntmps71 Tryz.results71 rfl (aU [2] (by kernel_rfl) (co (bF [7,8] [(9,pB (decide (64<(p0.length:Int))))] (by kernel_rfl) rfl h (fun hc1 h=>?_) fun hc1 h=>?_)))
 ·refine ae ?_
  refine cZ [(2,pI 8)] (by kernel_rfl) (ap ?_)
  exact zz r h rfl
 refine ah ?_
 refine co (aj [(10,pL Zd.enc p0),(11,pI (p0.length:Int)),(12,pI 0)] (by kernel_rfl) (fa h fun q4 hq4 h=>?_))
 refine am (Y:=Unit×Unit) (fun (_,_)=>[]) (fun (_,_)=>[]) (fun (_,_)=>q4=Sum.inl ()) ?_ ?_
 ·refine aw ?_
  refine aB (Y:=Unit) (S:=Int) _ hq4 (fun _ v2=>[(0,pL Zd.enc p0),(10,pL Zd.enc p0),(11,pI (p0.length:Int)),(12,pI v2)]) (fun _ v2=>[]) () (iq rfl) bz ?_
  rintro _ v2 o τ hb3;(try dsimp only at hb3);dsimp only [au]
  refine ae (aj [(13,pB (decide (v2<(p0.length:Int))))] (by kernel_rfl) (ca (jG rfl hb3 (fun hc5 hb3=>?_) fun hc5 hb3=>?_)))
  ·refine ah ?_
   refine dq (aa hb3 fun m6 hm6 hb3=>af (aY 3 [] [15] [(14,pI v2),(16,.agg (aK m6))] (cr 1 Zd.enc hm6 bh) (by kernel_rfl) (al rfl (aN (cs:=[pI 0,pS ByteArray.empty,pS ByteArray.empty,pI 0,pB false,pN,pN]) rfl rfl rfl rfl (fun b7=>aF 1 [(3,pI v2)] (by kernel_rfl) (aS rfl rfl (an (vs:=(aK m6)) rfl rfl rfl rfl rfl cw nP (aG (co (aM [0,0] (rg 17 7) [(24,pB ((decide (m6.ID<1))||(decide (1000000<m6.ID))))] (by kernel_rfl) (cR rfl hb3 (fun hc8 hb3=>?_) fun hc8 hb3=>?_)))))))))))
   ·refine ae ?_
    refine cZ [(2,pI 2)] (by kernel_rfl) (ap (dM ?_))
    refine az hb3 (fun ht=>?_);subst ht
    refine cS ?_
    exact zz r h rfl
   refine ah ?_
   refine co (bj (ρd:=[]) [(0,0),(1,0),(2,0),(3,0),(4,0),(5,0),(6,0),(7,0),(8,0),(9,0),(10,0),(11,0),(12,0)] _ (List.Perm.refl _) (by kernel_rfl) rfl (aa hb3 fun m9 hm9 hb3=>bv 13 [0] (rg 25 12) [(37,pB ((decide (0<v2))&&(decide (m6.ID≤m9.ID))))] (eG 8 Zd.enc (cA hm9) bh) (by kernel_rfl) (bB (cR rfl hb3 (fun hc10 hb3=>?_) fun hc10 hb3=>?_))))
   ·refine ae ?_
    refine cZ [(2,pI 9)] (by kernel_rfl) (ap (dM ?_))
    refine az hb3 (fun ht=>?_);subst ht
    refine cS ?_
    exact zz r h rfl
   refine ah ?_
   refine co (aa hb3 fun x11 hx11 hb3=>aq [0] [38,39] [(5,pI x11)] (bi 1 (lH hx11) bh) (by kernel_rfl) (ca (bF [40] [(41,pB (x11 != 0))] (by kernel_rfl) rfl hb3 (fun hc12 hb3=>?_) fun hc12 hb3=>?_)))
   ·refine ae ?_
    refine ai [42] [(2,pI x11)] (by kernel_rfl) (dm (ap (dM ?_)))
    refine az hb3 (fun ht=>?_);subst ht
    refine cS ?_
    exact zz r h rfl
   refine ah ?_
   refine cN hb3 fun x13 hx13 hb3=>aq [0] [43,44,45,46] [(6,pI x13)] (bi 3 (lS hx13) bh) (by kernel_rfl) (ca (bF [47] [(48,pB (x13 != 0))] (by kernel_rfl) rfl hb3 (fun hc14 hb3=>?_) fun hc14 hb3=>?_))
   ·refine ae ?_
    refine ai [49] [(2,pI x13)] (by kernel_rfl) (dm (dM ?_))
    refine az hb3 (fun ht=>?_);subst ht
    refine cS ?_
    exact zz r h rfl
   refine ah ?_
   refine dx (ai [50] [(12,pI (IntKind.i64.wrap (v2+1)))] (by kernel_rfl) ?_)
   exact aR hb3 () (iq rfl) bz
  refine aH ?_
  refine cd hb3 (fun ht=>ak rfl ?_)
  exact av ((),()) nC bz ht.symm
 rintro ⟨_,_⟩ τ hz;(try dsimp only at hz);subst q4;(try dsimp only at h);dsimp only [au]
 refine ae (cZ [(2,pI 0)] (by kernel_rfl) ?_)
 exact zz r h rfl
def jB (p0:Ze) (p1:Zn):Option Bool:=(fF p0).bind fun x3=>(gd (x3 == 0) (gB p1)).bind fun x4=>some ((x3 == 0)&&(x4 == 0))
theorem rz {p0:Ze} {p1:Zn} {r:Bool}  (h:jB p0 p1=some r):PF 126 [.agg (aC p0),.agg (bC p1)] (pB r):=by
 unfold jB at h
 refine bd ?_
 refine dp Tryz.func126 rfl Tryz.ntmps126 Tryz.results126 rfl (cU rfl (bg (cs:=(aC p0)) rfl rfl (fun b1=>al rfl (bg (cs:=(bC p1)) rfl rfl (fun b2=>bc [4] (by kernel_rfl) (cN h fun x3 hx3 h=>aa h fun x4 hx4 h=>aq [1,0] (rg 5 8) [(4,pB ((x3 == 0)&&(x4 == 0)))] (bi 1 (ja hx3) (dK 5 (fun hc=>qb (cA hx4 hc)) bh)) (by kernel_rfl) (dm ?_)))))))
 exact zz r h rfl
def gC (p0:(List Zd)) (p1:(List Zb)) (p2:ByteArray) (p3:Za) (p4:(List Za)):Option (Zn×(List Za)):=(cJ p0 p1 p2 p3).bind fun x3=>cond (!x3) (some ((⟨ByteArray.empty,0,false,[],[]⟩:Zn),[])) ((dj p0 p3.Product).bind fun x5=>(eC p1 p3.Agreement).bind fun x7=>(eu p1 p3.Agreement x5.1.Country p2).bind fun x9=>(aV (S:=Int×(List (Za×Bool))) (T:=((List (Za×Bool)))) (fun (v12,l13)=>cond (decide (v12<((p4.length:Nat):Int))) ((idx p4 v12).bind fun m19=>some (.inl ((IntKind.i64.wrap (v12+1)),(oO l13 m19 true)))) (some (.inr l13))) FUEL (0,([]:List (Za×Bool)))).bind fun l15=>(fg p0 x7.1 x5.1 (⟨x9,l15⟩:Zr)).bind fun x21=>(aV (S:=(List Za)×Int×(List Zl)) (T:=((List Za)×(List Zl))) (fun (l24,v27,l29)=>cond (decide (v27<(x21.1.length:Int))) (((idx x21.1 v27).bind fun m56=>(Icumulation_supply_input m56).bind fun x57=>(app 32 l29 [x57]).bind fun l60=>cond (Zf.is_proved_ m56) ((app 16 l24 [(((Zf.as_proved_ m56)).premise)]).bind fun l68=>some (l68,l60)) (some (l24,l60))).bind fun (l49,l54)=>some (.inl (l49,(IntKind.i64.wrap (v27+1)),l54))) (some (.inr (l24,l29)))) FUEL (([]:List Za),0,([]:List Zl))).bind fun (l35,l40)=>(bt l35).bind fun x72=>(bA x72).bind fun x73=>some ((⟨x5.1.Code,x5.1.Price,x5.1.Obtained,x21.2,l40⟩:Zn),x73))
theorem oj {p0:(List Zd)} {p1:(List Zb)} {p2:ByteArray} {p3:Za} {p4:(List Za)} {a_4:Option Addr}  {n_4:Nat}  {c_4:Nat} {r:(Zn×(List Za))}  (h:gC p0 p1 p2 p3 p4=some r):PCall 17 [pL Zd.enc p0,pL Zb.enc p1,pS p2,.agg [pI p3.Product,pI p3.Agreement],.v (.slice a_4 n_4 c_4)] [PRes.row a_4 n_4 c_4 28 2 (List.map Za.enc p4)] (fun pv ρ'=>pv=.tup [.agg (bC r.1),pL Za.enc r.2]∧ρ'=[PRes.row a_4 n_4 c_4 28 2 (List.map Za.enc p4)]):=by
 unfold gC at h
 refine i4 Tryz.func17 rfl Tryz.ntmps17 Tryz.results17 rfl ?_
 refine jT (enc:=Za.enc) (xs:=p4) (a:=a_4) fy (fun hl ha=>?_);subst hl;clear ha
 refine ae (cU rfl (bg (cs:=[pI p3.Product,pI p3.Agreement]) rfl rfl (fun b1=>al rfl (aN (cs:=[pS ByteArray.empty,pI 0,pB false,pN,pN]) rfl rfl rfl rfl (fun b2=>bc [11] (by kernel_rfl) (co (aa h fun x3 hx3 h=>aq [1] (rg 27 5) [(32,pB (!x3))] (bi 4 (jx hx3) bh) (by kernel_rfl) (cR rfl h (fun hc4 h=>?_) fun hc4 h=>?_))))))))
 ·refine ae ?_
  refine af (aF 1 [(33,.agg [pS ByteArray.empty,pI 0,pB false,pN,pN])] (by kernel_rfl) (aS rfl rfl (an (vs:=[pS ByteArray.empty,pI 0,pB false,pN,pN]) rfl rfl rfl rfl rfl cw Gy (aI [(11,pN)] (by kernel_rfl) (aL (df (k:=3) (b:=b2) rfl cw (df (k:=4) (b:=b2) rfl cw (fz 11 rfl (bq (ap ?_))))))))))
  obtain rfl:=osi h
  exact aP (cD (dV rfl fy rfl) (aO rfl)) (ba (ar (ar aJ)) bz) ⟨rfl,rfl⟩
 refine ah ?_
 refine cN h fun x5 hx5 h=>af (aY 7 [1] [35,36,37,38,34] [(39,.agg (aK x5.1)),(40,pB x5.2)] (bi 3 (ib hx5) bh) (by kernel_rfl) (al rfl (aN (cs:=[pI 0,pS ByteArray.empty,pS ByteArray.empty,pI 0,pB false,pN,pN]) rfl rfl rfl rfl (fun b6=>aS rfl rfl (an (vs:=(aK x5.1)) rfl rfl rfl rfl rfl cw nP (bc [13] (by kernel_rfl) (cN h fun x7 hx7 h=>af (aY 7 [2] [42,43,44,45,41] [(46,.agg (aD x7.1)),(47,pB x7.2)] (bi 3 (jJ hx7) bh) (by kernel_rfl) (al rfl (aN (cs:=[pI 0,pI 0,pN,pN]) rfl rfl rfl rfl (fun b8=>aS rfl rfl (an (vs:=(aD x7.1)) rfl rfl rfl rfl rfl cw yy (bc [15] (by kernel_rfl) (cN h fun x9 hx9 h=>af (aY 7 [3,1] (rg 48 6) [(54,pL eI x9)] (bi 6 (oV hx9) bh) (by kernel_rfl) (al rfl (tu Za.key vT rfl (fun b10=>aF 1 [(56,.agg [pL eI x9,.v (.map (some b10))])] (by kernel_rfl) (al rfl (aN (cs:=[pN,.v (.map none)]) rfl rfl rfl rfl (fun b11=>aS rfl rfl (an (vs:=[pL eI x9,.v (.map (some b10))]) rfl rfl rfl rfl rfl cw re (aG (co (aj [(57,pO a_4 p4.length c_4),(58,pI ((p4.length:Nat):Int)),(59,pI 0)] (by kernel_rfl) (fa h fun q17 hq17 h=>?_))))))))))))))))))))))))))
 refine am (Y:=Unit×((List (Za×Bool)))) (fun (_,l15)=>[(0,pL Zd.enc p0),(10,pP b2 0),(12,pP b6 0),(14,pP b8 0),(16,pP b11 0)]) (fun (_,l15)=>[PRes.mp (some b10) (iK Za.key vT l15),PRes.b b11 96 [pL eI x9,.v (.map (some b10))],PRes.b b2 36 [pS ByteArray.empty,pI 0,pB false,pN,pN],PRes.b b6 76 (aK x5.1),PRes.b b8 81 (aD x7.1),PRes.row a_4 p4.length c_4 28 2 (List.map Za.enc p4)]) (fun (_,l15)=>q17=l15) ?_ ?_
 ·refine aw ?_
  refine aB (Y:=Unit) (S:=Int×(List (Za×Bool))) _ hq17 (fun _ (v12,l13)=>[(0,pL Zd.enc p0),(10,pP b2 0),(12,pP b6 0),(14,pP b8 0),(16,pP b11 0),(57,pO a_4 p4.length c_4),(58,pI ((p4.length:Nat):Int)),(59,pI v12)]) (fun _ (v12,l13)=>[PRes.mp (some b10) (iK Za.key vT l13),PRes.b b11 96 [pL eI x9,.v (.map (some b10))],PRes.b b2 36 [pS ByteArray.empty,pI 0,pB false,pN,pN],PRes.b b6 76 (aK x5.1),PRes.b b8 81 (aD x7.1),PRes.row a_4 p4.length c_4 28 2 (List.map Za.enc p4)]) () (qR rfl) (ba (ar aJ) (ba aJ (ba (ar (ar aJ)) (ba (ar aJ) (ba aJ (ba (ar aJ) bz)))))) ?_
  rintro _ ⟨v12,l13⟩ o τ hb16;(try dsimp only at hb16);dsimp only [au]
  refine ae (aj [(60,pB (decide (v12<((p4.length:Nat):Int))))] (by kernel_rfl) (ca (jG rfl hb16 (fun hc18 hb16=>?_) fun hc18 hb16=>?_)))
  ·refine ah ?_
   refine dq (aa hb16 fun m19 hm19 hb16=>af (bx rfl rfl rfl (dA (enc:=Za.enc) (xs:=p4) rfl rfl rfl (.p rfl) zm5 (.p rfl) (fun _=>hm19)) (bx rfl rfl rfl (cP (sz:=2) (p:=.agg [pI m19.Product,pI m19.Agreement]) (enc:=Za.enc) (xs:=p4) (a:=a_4) v12 0 m19 rfl (.p rfl) rfl zm5 (fun _=>hm19) rfl) (al rfl (aN (cs:=[pI 0,pI 0]) rfl rfl rfl rfl (fun b20=>aS rfl rfl (an (vs:=[pI m19.Product,pI m19.Agreement]) rfl rfl rfl rfl rfl cw re (aG (aL (af (cj 3 [2,0] [63] [(64,.v (.map (some b10))),(65,.agg [pI m19.Product,pI m19.Agreement])] (by kernel_rfl) (aS rfl rfl (rW (xs:=l13) (k:=m19) (ek:=Za.key) (vv:=vT) (v:=true) rfl rfl Za.kenc28 rfl rfl vn rfl (dl cw) (aG (dx (ai [66] [(59,pI (IntKind.i64.wrap (v12+1)))] (by kernel_rfl) ?_))))))))))))))))
   exact aR hb16 () (qR rfl) (ba (ar aJ) (ba (ar aJ) (ba (ar aJ) (ba (ar aJ) (ba (ar aJ) (ba (ar aJ) bz))))))
  refine aH ?_
  refine cd hb16 (fun ht=>ak rfl ?_)
  exact av ((),l13) (lP rfl) zs6 ht.symm
 rintro ⟨_,l15⟩ τ hz;(try dsimp only at hz);subst q17;(try dsimp only at h);dsimp only [au]
 refine ae (aa h fun x21 hx21 h=>af (fu 4 [4,3,1] [(68,pL Zd.enc p0),(69,.agg (aD x7.1)),(70,.agg (aK x5.1)),(71,.agg [pL eI x9,.v (.map (some b10))])] (by kernel_rfl) ?_))
 refine al rfl (bf rfl rfl (ρ1:=[_]) (aW (by exact aJ) (List.Perm.refl _)) (qa hx21) ?_);rintro _ _ ⟨rfl,rfl⟩
 refine ir [67,73,74] [(19,pL Zf.enc x21.1),(20,pL eS x21.2)] (by kernel_rfl) (ca (af (cj 8 [3,3,3] (rg 75 7) [(82,.agg [pS x5.1.Code,pI x5.1.Price,pB x5.1.Obtained,pL eS x21.2,pN])] (by kernel_rfl) (al rfl (aN (cs:=[pS ByteArray.empty,pI 0,pB false,pN,pN]) rfl rfl rfl rfl (fun b22=>aS rfl rfl (an (vs:=[pS x5.1.Code,pI x5.1.Price,pB x5.1.Obtained,pL eS x21.2,pN]) rfl rfl rfl rfl rfl cw Gy (aG (ca (aj [(22,pN)] (by kernel_rfl) (co (aj [(83,pL Zf.enc x21.1),(84,pI (x21.1.length:Int)),(85,pI 0)] (by kernel_rfl) (aL (bX 28 2 (bX 103 3 (aa h fun q42 hq42 h=>?_))))))))))))))))
 refine am (Y:=(Option Addr×Nat×Option Addr×Nat)×((List Za)×(List Zl))) (fun ((a33,c34,a38,c39),(l35,l40))=>[(10,pP b2 0),(21,pP b22 0),(22,pO a33 l35.length c34)]) (fun ((a33,c34,a38,c39),(l35,l40))=>[PRes.b b2 36 [pS ByteArray.empty,pI 0,pB false,pN,pN],PRes.b b22 36 [pS x5.1.Code,pI x5.1.Price,pB x5.1.Obtained,pL eS x21.2,pO a38 l40.length c39],PRes.row a33 l35.length c34 28 2 (List.map Za.enc l35),PRes.row a_4 p4.length c_4 28 2 (List.map Za.enc p4),PRes.row a38 l40.length c39 103 3 (List.map Zl.enc l40)]) (fun ((a33,c34,a38,c39),(l35,l40))=>q42=(l35,l40)) ?_ ?_
 ·refine aw ?_
  refine aB (Y:=Option Addr×Nat×Option Addr×Nat) (S:=(List Za)×Int×(List Zl)) _ hq42 (fun (a25,c26,a30,c31) (l24,v27,l29)=>[(10,pP b2 0),(21,pP b22 0),(22,pO a25 l24.length c26),(83,pL Zf.enc x21.1),(84,pI (x21.1.length:Int)),(85,pI v27)]) (fun (a25,c26,a30,c31) (l24,v27,l29)=>[PRes.b b2 36 [pS ByteArray.empty,pI 0,pB false,pN,pN],PRes.b b22 36 [pS x5.1.Code,pI x5.1.Price,pB x5.1.Obtained,pL eS x21.2,pO a30 l29.length c31],PRes.row a_4 p4.length c_4 28 2 (List.map Za.enc p4),PRes.row a25 l24.length c26 28 2 (List.map Za.enc l24),PRes.row a30 l29.length c31 103 3 (List.map Zl.enc l29)]) (none,0,none,0) (qG rfl) (ba (ar (ar (ar (ar (ar aJ))))) (ba (ar (ar aJ)) (ba (ar (ar (ar (ar (ar (ar aJ)))))) (ba (ar aJ) cg)))) ?_
  rintro ⟨a25,c26,a30,c31⟩ ⟨l24,v27,l29⟩ o τ hb41;(try dsimp only at hb41);dsimp only [au]
  refine ae (aj [(86,pB (decide (v27<(x21.1.length:Int))))] (by kernel_rfl) (ca (jG rfl hb41 (fun hc45 hb41=>?_) fun hc45 hb41=>?_)))
  ·refine ah ?_
   refine cN hb41 fun q55 hq55 hb41=>?_
   refine am (Y:=(Option Addr×Nat×Option Addr×Nat)×((List Za)×(List Zl))) (fun ((a47,c48,a52,c53),(l49,l54))=>[(10,pP b2 0),(21,pP b22 0),(22,pO a47 l49.length c48),(83,pL Zf.enc x21.1),(84,pI (x21.1.length:Int)),(85,pI v27)]) (fun ((a47,c48,a52,c53),(l49,l54))=>[PRes.b b2 36 [pS ByteArray.empty,pI 0,pB false,pN,pN],PRes.b b22 36 [pS x5.1.Code,pI x5.1.Price,pB x5.1.Obtained,pL eS x21.2,pO a52 l54.length c53],PRes.row a47 l49.length c48 28 2 (List.map Za.enc l49),PRes.row a_4 p4.length c_4 28 2 (List.map Za.enc p4),PRes.row a52 l54.length c53 103 3 (List.map Zl.enc l54)]) (fun ((a47,c48,a52,c53),(l49,l54))=>q55=(l49,l54)) ?_ ?_
   ·skip
    refine nX (aa hq55 fun m56 hm56 hq55=>aq [] [87,88] [(24,Zf.pv m56)] (cr 0 Zf.enc hm56 bh) (by kernel_rfl) (cN hq55 fun x57 hx57 hq55=>aa hq55 fun l60 hl60 hq55=>?_))
    refine am (Y:=Option Addr×Nat) (fun (a61,c62)=>[(10,pP b2 0),(21,pP b22 0),(22,pO a25 l24.length c26),(24,Zf.pv m56),(83,pL Zf.enc x21.1),(84,pI (x21.1.length:Int)),(85,pI v27)]) (fun (a61,c62)=>[PRes.b b2 36 [pS ByteArray.empty,pI 0,pB false,pN,pN],PRes.b b22 36 [pS x5.1.Code,pI x5.1.Price,pB x5.1.Obtained,pL eS x21.2,pO a61 l60.length c62],PRes.row a_4 p4.length c_4 28 2 (List.map Za.enc p4),PRes.row a25 l24.length c26 28 2 (List.map Za.enc l24),PRes.row a61 l60.length c62 103 3 (List.map Zl.enc l60)]) (fun _=>True) ?_ ?_
    ·refine nW (ρd:=[PRes.row a30 _ _ _ _ _,PRes.b b22 _ _]) _ (aW (ar (ar (ar (ar aJ)))) (aW (ar aJ) (List.Perm.refl _))) ?_
     refine dD 0 (by kernel_rfl) rfl rfl rfl rfl (bR rfl rfl rfl rfl rfl (.p rfl)) (dD 2 (by kernel_rfl) rfl rfl rfl rfl (fA (p:=Zf.pv m56) rfl (.p rfl)) ?_)
     refine kj 1 3 (by kernel_rfl) ?_ ?_
     ·skip
      refine bm rfl rfl rfl rfl (px (dn (p:=pO a30 l29.length c31) rfl (.p rfl) u3 rfl) (br 3 (by kernel_rfl) (bm rfl rfl rfl rfl (xi rfl rfl (Icumulation_supply_input_ok hx57) (br 4 (by kernel_rfl) (bm rfl rfl rfl rfl (bw rfl rfl rfl rfl rfl (fL rfl iP) rfl rfl rfl rfl (fun b58=>br 5 (by kernel_rfl) ?_))))))))
      refine bm rfl rfl rfl rfl (bV (enc:=Zl.enc) rfl rfl rfl rfl rfl rfl rfl rfl rfl fy (by exact ar aJ) hl60 (fun a61 c62=>?_))
      refine dD 6 (by kernel_rfl) rfl rfl rfl rfl (bR rfl rfl rfl rfl rfl (.p rfl)) (br 7 (by kernel_rfl) (ft rfl rfl rfl (an (vs:=[pO a61 l60.length c62]) rfl rfl rfl rfl rfl (dl (dl cw)) (dZ (dZ (dZ (dZ nD)))) (fp (by kernel_rfl) ?_))))
      exact av (a61,c62) (qQ rfl) (ba (ar (ar (ar aJ))) (ba (ar (ar aJ)) (ba (ar (ar aJ)) (ba (ar (ar aJ)) cg)))) trivial
     skip
     refine bm rfl rfl rfl rfl (xi rfl rfl (Icumulation_supply_input_ok hx57) ?_)
     refine kj 1 4 (by kernel_rfl) ?_ ?_
     ·skip
      refine bm rfl rfl rfl rfl (px (dn (p:=pO a30 l29.length c31) rfl (.p rfl) u3 rfl) (br 4 (by kernel_rfl) (bm rfl rfl rfl rfl (bw rfl rfl rfl rfl rfl (fL rfl iP) rfl rfl rfl rfl (fun b58=>br 5 (by kernel_rfl) ?_)))))
      refine bm rfl rfl rfl rfl (bV (enc:=Zl.enc) rfl rfl rfl rfl rfl rfl rfl rfl rfl fy (by exact ar aJ) hl60 (fun a61 c62=>?_))
      refine dD 6 (by kernel_rfl) rfl rfl rfl rfl (bR rfl rfl rfl rfl rfl (.p rfl)) (br 7 (by kernel_rfl) (ft rfl rfl rfl (an (vs:=[pO a61 l60.length c62]) rfl rfl rfl rfl rfl (dl (dl cw)) (dZ (dZ (dZ (dZ nD)))) (fp (by kernel_rfl) ?_))))
      exact av (a61,c62) (qQ rfl) (ba (ar (ar (ar aJ))) (ba (ar (ar aJ)) (ba (ar (ar aJ)) (ba (ar (ar aJ)) cg)))) trivial
     skip
     refine bm rfl rfl rfl rfl (bw rfl rfl rfl rfl rfl (fL rfl iP) rfl rfl rfl rfl (fun b58=>br 1 (by kernel_rfl) (bm rfl rfl rfl rfl (px (dn (p:=pO a30 l29.length c31) rfl (.p rfl) uk rfl) (br 5 (by kernel_rfl) ?_)))))
     refine bm rfl rfl rfl rfl (bV (enc:=Zl.enc) rfl rfl rfl rfl rfl rfl rfl rfl rfl fy (by exact ar aJ) hl60 (fun a61 c62=>?_))
     refine dD 6 (by kernel_rfl) rfl rfl rfl rfl (bR rfl rfl rfl rfl rfl (.p rfl)) (br 7 (by kernel_rfl) (ft rfl rfl rfl (an (vs:=[pO a61 l60.length c62]) rfl rfl rfl rfl rfl (dl (dl cw)) (dZ (dZ (dZ (dZ nD)))) (fp (by kernel_rfl) ?_))))
     exact av (a61,c62) (qQ rfl) (ba (ar (ar (ar aJ))) (ba (ar (ar aJ)) (ba (ar (ar aJ)) (ba (ar (ar aJ)) cg)))) trivial
    rintro ⟨a61,c62⟩ τ _;dsimp only [au]
    refine ae (af (aY 5 [] [97,98,96] [(99,.agg [pS ((((Zf.as_proved_ m56)).use).Code),pI ((((Zf.as_proved_ m56)).use).Value),pB ((((Zf.as_proved_ m56)).use).Originating),pI ((((Zf.as_proved_ m56)).premise).Product),pI ((((Zf.as_proved_ m56)).premise).Agreement)]),(100,pB (Zf.is_proved_ m56))] (fota 1 (Zf.ta_proved_ m56) bh) (by kernel_rfl) (al rfl (aN (cs:=[pS ByteArray.empty,pI 0,pB false,pI 0,pI 0]) rfl rfl rfl rfl (fun b64=>aS rfl rfl (an (vs:=[pS ((((Zf.as_proved_ m56)).use).Code),pI ((((Zf.as_proved_ m56)).use).Value),pB ((((Zf.as_proved_ m56)).use).Originating),pI ((((Zf.as_proved_ m56)).premise).Product),pI ((((Zf.as_proved_ m56)).premise).Agreement)]) rfl rfl rfl rfl rfl cw Gy (aI [(26,pB (Zf.is_proved_ m56))] (by kernel_rfl) (ca (aj [(101,pB (Zf.is_proved_ m56))] (by kernel_rfl) (cR rfl hq55 (fun hc65 hq55=>?_) fun hc65 hq55=>?_))))))))))
    ·refine af ?_
     refine cj 3 [0] [103] [(102,pO a25 l24.length c26),(104,.agg [pI ((((Zf.as_proved_ m56)).premise).Product),pI ((((Zf.as_proved_ m56)).premise).Agreement)])] (by kernel_rfl) (al rfl (bw rfl rfl rfl rfl rfl (fL rfl iP) rfl rfl rfl rfl (fun b66=>aa hq55 fun l68 hl68 hq55=>?_)))
     refine al rfl (bV (enc:=Za.enc) rfl rfl rfl rfl rfl rfl rfl rfl rfl fy (by exact ar (ar (ar (ar (ar aJ))))) hl68 (fun a69 c70=>?_))
     refine aI [(22,pO a69 l68.length c70)] (by kernel_rfl) (aA ?_)
     obtain rfl:=osi hq55
     exact av ((a69,c70,a61,c62),(l68,l60)) (qG rfl) (ba (ar (ar (ar aJ))) (ba (ar (ar (ar aJ))) (ba aJ (ba (ar (ar aJ)) (ba (ar (ar aJ)) bz))))) rfl
    refine ah ?_
    refine aA ?_
    obtain rfl:=osi hq55
    exact av ((a25,c26,a61,c62),(l24,l60)) (qG rfl) (ba (ar aJ) (ba (ar aJ) (ba (ar (ar aJ)) (ba (ar aJ) (ba (ar aJ) bz))))) rfl
   rintro ⟨⟨a47,c48,a52,c53⟩,⟨l49,l54⟩⟩ τ hz;(try dsimp only at hz);subst q55;(try dsimp only at hb41);dsimp only [au]
   refine ai [107] [(85,pI (IntKind.i64.wrap (v27+1)))] (by kernel_rfl) ?_
   exact aR hb41 (a47,c48,a52,c53) (qG rfl) (ba aJ (ba aJ (ba (ar aJ) mE)))
  refine aH ?_
  refine cd hb41 (fun ht=>ak rfl ?_)
  exact av ((a25,c26,a30,c31),(l24,l29)) (lM rfl) (ba aJ (ba aJ (ba (ar aJ) mE))) ht.symm
 rintro ⟨⟨a33,c34,a38,c39⟩,⟨l35,l40⟩⟩ τ hz;(try dsimp only at hz);subst q42;(try dsimp only at h);dsimp only [au]
 refine ae (aa h fun x72 hx72 h=>af (aF 1 [(108,pO a33 l35.length c34)] (by kernel_rfl) ?_))
 refine al rfl (bf rfl rfl (ρ1:=[_]) (aW (by exact ar (ar aJ)) (List.Perm.refl _)) (de hx72) ?_);rintro _ _ ⟨rfl,rfl⟩
 refine aG (ca ?_)
 refine yq (css:=List.map Zl.enc l40) (a:=a38) (by exact ar (ar (ar (ar aJ)))) ?_
 refine xg (k:=4) (enc:=Zl.enc) (xs:=l40) (b:=b22) (a:=a38) rfl fy (dl (dl (dl cw))) (bj (ρd:=[PRes.row a33 _ _ _ _ _,PRes.b b2 _ _]) [(0,0),(1,0),(2,1),(3,1),(4,0)] _ (aW (ar aJ) (aW (ar aJ) (List.Perm.refl _))) (by kernel_rfl) rfl (aa h fun x73 hx73 h=>FG 2 [1] [(110,.agg [pS x5.1.Code,pI x5.1.Price,pB x5.1.Obtained,pL eS x21.2,pL Zl.enc l40]),(111,pO a33 l35.length c34)] (by kernel_rfl) ?_))
 refine jc rfl rfl rfl (bf rfl rfl (ρ1:=[_]) (aW (by exact aJ) (List.Perm.refl _)) (f9 hx73) ?_);rintro _ _ ⟨a74,c75,rfl,rfl⟩
 refine yw rfl rfl (an (vs:=[pS x5.1.Code,pI x5.1.Price,pB x5.1.Obtained,pL eS x21.2,pL Zl.enc l40]) rfl rfl rfl rfl rfl (dl cw) Gy (gS 1 [(11,pO a74 x73.length c75)] (by kernel_rfl) (bB (aL ?_))))
 refine dr (enc:=Za.enc) (xs:=x73) 11 rfl (by exact aJ) ?_
 refine bq ?_
 obtain rfl:=osi h
 exact aP (cD (dV rfl u3 rfl) (aO rfl)) (ba (ar (ar (ar (ar aJ)))) bz) ⟨rfl,rfl⟩
def kA (p0:Ze) (p1:Zn):Option ((List Int)×Bool):=(jB p0 p1).bind fun x3=>cond (!x3) (some ([],false)) ((tw p0).bind fun x5=>(Irule_test_witness x5 p1).bind fun x6=>some (x6.1,x6.2))
theorem ua {p0:Ze} {p1:Zn} {r:((List Int)×Bool)}  (h:kA p0 p1=some r):PF 78 [.agg (aC p0),.agg (bC p1)] (.tup [pL eI r.1,pB r.2]):=by
 unfold kA at h
 refine bd ?_
 refine dp Tryz.func78 rfl Tryz.ntmps78 Tryz.results78 rfl (cU rfl (bg (cs:=(aC p0)) rfl rfl (fun b1=>al rfl (bg (cs:=(bC p1)) rfl rfl (fun b2=>bc [4,5] (by kernel_rfl) (co (aa h fun x3 hx3 h=>aq [1,0] [6,7,8] [(9,pB (!x3))] (bi 2 (rz hx3) bh) (by kernel_rfl) (cR rfl h (fun hc4 h=>?_) fun hc4 h=>?_))))))))
 ·refine ae ?_
  refine aj [(4,pN),(5,pB false)] (by kernel_rfl) (aL (fz 4 rfl (bq (ap ?_))))
  obtain rfl:=osi h
  exact aP (cD (aO rfl) (aO rfl)) bz ⟨rfl,rfl⟩
 refine ah ?_
 refine ca (bj (ρd:=[]) [(0,0),(2,0),(1,1),(3,1),(4,0),(5,0),(6,0),(7,0)] _ (List.Perm.refl _) (by kernel_rfl) rfl (aa h fun x5 hx5 h=>aa h fun x6 hx6 h=>bv 8 [1,0] [10,12,11,13,14,15] [(4,pL eI x6.1),(5,pB x6.2)] (bi 2 (vD hx5) (foci 3 (Irule_test_witness_ok hx6) bh)) (by kernel_rfl) (bB (dm ?_))))
 obtain rfl:=osi h
 exact aP (cD (aO rfl) (aO rfl)) bz ⟨rfl,rfl⟩
def fX (p0:Zj) (p1:(List Zd)) (p2:(List Zb)) (p3:ByteArray) (p4:(List Za)) (p5:(List Zc)):Option (Bool×(List Za)×(List Zc)):=(gC p1 p2 p3 p0.claim p4).bind fun x2=>(kA p0.rule x2.1).bind fun x4=>Option.bind (cond x4.2 ((app 64 p5 [(⟨p0.claim,x4.1,x2.2⟩:Zc)]).bind fun l14=>some l14) (some p5)) (fun l9=>some (x4.2,p4,l9))
theorem r6 {p0:Zj} {p1:(List Zd)} {p2:(List Zb)} {p3:ByteArray} {p4:(List Za)} {p5:(List Zc)} {b4:Nat}  {a_4:Option Addr}  {n_4:Nat}  {c_4:Nat}  {b5:Nat}  {a_5:Option Addr}  {n_5:Nat}  {c_5:Nat} {r:(Bool×(List Za)×(List Zc))}  (h:fX p0 p1 p2 p3 p4 p5=some r):PCall 77 [.agg (gQ p0),.ref [pL Zd.enc p1] 0,.ref [pL Zb.enc p2] 0,.ref [pS p3] 0,pP b4 0,pP b5 0] [PRes.b b4 31 [.v (.slice a_4 n_4 c_4)],PRes.row a_4 n_4 c_4 28 2 (List.map Za.enc p4),PRes.b b5 45 [.v (.slice a_5 n_5 c_5)],PRes.row a_5 n_5 c_5 61 4 (List.map Zc.enc p5)] (fun pv ρ'=>pv=pB r.1∧∃ (x0:Option Addr) (z0:Nat) (x1:Option Addr) (z1:Nat),ρ'=[PRes.b b4 31 [.v (.slice x0 (r.2.1).length z0)],PRes.row x0 (r.2.1).length z0 28 2 (List.map Za.enc r.2.1),PRes.b b5 45 [.v (.slice x1 (r.2.2).length z1)],PRes.row x1 (r.2.2).length z1 61 4 (List.map Zc.enc r.2.2)]):=by
 unfold fX at h
 refine i4 Tryz.func77 rfl Tryz.ntmps77 Tryz.results77 rfl ?_
 refine jT (enc:=Za.enc) (xs:=p4) (a:=a_4) u3 (fun hl ha=>?_);subst hl;clear ha
 refine jT (enc:=Zc.enc) (xs:=p5) (a:=a_5) Gw (fun hl ha=>?_);subst hl;clear ha
 refine ae (cU rfl (bg (cs:=(gQ p0)) rfl rfl (fun b1=>bc [7] (by kernel_rfl) (cN h fun x2 hx2 h=>af (cj 6 [0,1] [16] [(13,pL Zd.enc p1),(14,pL Zb.enc p2),(15,pS p3),(17,.agg [pI p0.claim.Product,pI p0.claim.Agreement]),(18,pO a_4 p4.length c_4)] (by kernel_rfl) ?_)))))
 refine al rfl (bf rfl rfl (ρ1:=[_]) (aW (by exact ar (ar aJ)) (List.Perm.refl _)) (oj hx2) ?_);rintro _ _ ⟨rfl,rfl⟩
 refine cB 3 [12] [(20,.agg (bC x2.1)),(21,pL Za.enc x2.2)] (by kernel_rfl) (al rfl (aN (cs:=[pS ByteArray.empty,pI 0,pB false,pN,pN]) rfl rfl rfl rfl (fun b3=>aS rfl rfl (an (vs:=(bC x2.1)) rfl rfl rfl rfl rfl cw Gy (aI [(9,pL Za.enc x2.2)] (by kernel_rfl) (cN h fun x4 hx4 h=>aq [2,0] [23,24,25,26,22,27,28] [(10,pL eI x4.1),(11,pB x4.2)] (bi 3 (ua hx4) bh) (by kernel_rfl) (co (aj [(29,pB x4.2)] (by kernel_rfl) (fa h fun q10 hq10 h=>?_)))))))))
 refine am (Y:=(Option Addr×Nat)×((List Zc))) (fun ((a7,c8),l9)=>[(11,pB x4.2)]) (fun ((a7,c8),l9)=>[PRes.b b4 31 [pO a_4 p4.length c_4],PRes.b b5 45 [pO a7 l9.length c8],PRes.row a_4 p4.length c_4 28 2 (List.map Za.enc p4),PRes.row a7 l9.length c8 61 4 (List.map Zc.enc l9)]) (fun ((a7,c8),l9)=>q10=l9) ?_ ?_
 ·skip
  refine jG rfl hq10 (fun hc11 hq10=>?_) fun hc11 hq10=>?_
  ·refine af ?_
   refine cj 6 [4,2] [31,32,33,34] [(30,pO a_5 p5.length c_5),(35,.agg [pI p0.claim.Product,pI p0.claim.Agreement,pL eI x4.1,pL Za.enc x2.2])] (by kernel_rfl) (al rfl (bw rfl rfl rfl rfl rfl (fL rfl iP) rfl rfl rfl rfl (fun b12=>aa hq10 fun l14 hl14 hq10=>?_)))
   refine al rfl (bV (enc:=Zc.enc) rfl rfl rfl rfl rfl rfl rfl rfl rfl fy (by exact ar (ar (ar (ar (ar (ar aJ)))))) hl14 (fun a15 c16=>?_))
   refine aS rfl rfl (an (vs:=[pO a15 l14.length c16]) rfl rfl rfl rfl rfl (dl (dl (dl (dl (dl (dl cw)))))) nD (aG ?_))
   obtain rfl:=osi hq10
   exact av ((a15,c16),l14) (qP rfl) (ba (ar (ar (ar (ar (ar aJ))))) (ba (ar (ar (ar (ar (ar aJ))))) (ba (ar (ar (ar aJ))) cg))) rfl
  refine ah ?_
  obtain rfl:=osi hq10
  exact av ((a_5,c_5),p5) (qP rfl) (ba (ar (ar (ar aJ))) (ba (ar (ar (ar aJ))) (ba (ar aJ) (ba (ar (ar aJ)) bz)))) rfl
 rintro ⟨⟨a7,c8⟩,l9⟩ τ hz;(try dsimp only at hz);subst q10;(try dsimp only at h);dsimp only [au]
 refine ae (ai [38] [(7,pB x4.2)] (by kernel_rfl) (dm ?_))
 obtain rfl:=osi h
 exact aP (da (aO rfl)) (ba aJ (ba (ar aJ) mE)) ⟨rfl,_,_,_,_,rfl⟩
def kB (p0:(List Zd)) (p1:(List Zb)) (p2:ByteArray):Option (List Zj):=(aV (S:=(List Zj)×Int) (T:=((List Zj))) (fun (l2,v5)=>cond (decide (v5<(p0.length:Int))) ((idx p0 v5).bind fun m14=>(aV (S:=(List Zj)×Int) (T:=((List Zj))) (fun (l17,v20)=>cond (decide (v20<(p1.length:Int))) (((idx p1 v20).bind fun m33=>(el m33 m14.Code).bind fun x36=>(gd x36.2 (cJ p0 p1 p2 (⟨m14.ID,m33.ID⟩:Za))).bind fun x38=>cond (x36.2&&x38) ((app 112 l17 [(⟨(⟨m14.ID,m33.ID⟩:Za),x36.1⟩:Zj)]).bind fun l42=>some l42) (some l17)).bind fun l31=>some (.inl (l31,(IntKind.i64.wrap (v20+1))))) (some (.inr l17))) FUEL (l2,0)).bind fun l24=>some (.inl (l24,(IntKind.i64.wrap (v5+1))))) (some (.inr l2))) FUEL (([]:List Zj),0)).bind fun l9=>some l9
theorem ub {p0:(List Zd)} {p1:(List Zb)} {p2:ByteArray} {r:(List Zj)}  (h:kB p0 p1 p2=some r):PF 79 [pL Zd.enc p0,pL Zb.enc p1,pS p2] (pL Zj.enc r):=by
 unfold kB at h
 refine bd ?_
 refine dp Tryz.func79 rfl Tryz.ntmps79 Tryz.results79 rfl (aU [6] (by kernel_rfl) (ca (aj [(7,pN)] (by kernel_rfl) (co (aj [(15,pL Zd.enc p0),(16,pI (p0.length:Int)),(17,pI 0)] (by kernel_rfl) (aL (bX 138 9 (aa h fun q11 hq11 h=>?_))))))))
 refine am (Y:=(Option Addr×Nat)×((List Zj))) (fun ((a7,c8),l9)=>[(7,pO a7 l9.length c8)]) (fun ((a7,c8),l9)=>[PRes.row a7 l9.length c8 138 9 (List.map Zj.enc l9)]) (fun ((a7,c8),l9)=>q11=l9) ?_ ?_
 ·refine aw ?_
  refine aB (Y:=Option Addr×Nat) (S:=(List Zj)×Int) _ hq11 (fun (a3,c4) (l2,v5)=>[(0,pL Zd.enc p0),(1,pL Zb.enc p1),(2,pS p2),(7,pO a3 l2.length c4),(15,pL Zd.enc p0),(16,pI (p0.length:Int)),(17,pI v5)]) (fun (a3,c4) (l2,v5)=>[PRes.row a3 l2.length c4 138 9 (List.map Zj.enc l2)]) (none,0) (qQ rfl) cg ?_
  rintro ⟨a3,c4⟩ ⟨l2,v5⟩ o τ hb10;(try dsimp only at hb10);dsimp only [au]
  refine ae (aj [(18,pB (decide (v5<(p0.length:Int))))] (by kernel_rfl) (ca (jG rfl hb10 (fun hc13 hb10=>?_) fun hc13 hb10=>?_)))
  ·refine ah ?_
   refine dq (aa hb10 fun m14 hm14 hb10=>af (aY 2 [] [19] [(20,.agg (aK m14))] (cr 0 Zd.enc hm14 bh) (by kernel_rfl) (al rfl (aN (cs:=[pI 0,pS ByteArray.empty,pS ByteArray.empty,pI 0,pB false,pN,pN]) rfl rfl rfl rfl (fun b15=>aS rfl rfl (an (vs:=(aK m14)) rfl rfl rfl rfl rfl cw nP (aG (ca (aj [(21,pL Zb.enc p1),(22,pI (p1.length:Int)),(23,pI 0)] (by kernel_rfl) (fa hb10 fun q26 hq26 hb10=>?_))))))))))
   refine ip (Y:=(Option Addr×Nat)×((List Zj))) (fun ((a22,c23),l24)=>[(0,pL Zd.enc p0),(1,pL Zb.enc p1),(2,pS p2),(7,pO a22 l24.length c23),(15,pL Zd.enc p0),(16,pI (p0.length:Int)),(17,pI v5)]) (fun ((a22,c23),l24)=>[PRes.row a22 l24.length c23 138 9 (List.map Zj.enc l24)]) (fun ((a22,c23),l24)=>q26=l24) ?_ ?_
   ·refine aw ?_
    refine aB (Y:=Option Addr×Nat) (S:=(List Zj)×Int) _ hq26 (fun (a18,c19) (l17,v20)=>[(0,pL Zd.enc p0),(1,pL Zb.enc p1),(2,pS p2),(7,pO a18 l17.length c19),(9,pP b15 0),(15,pL Zd.enc p0),(16,pI (p0.length:Int)),(17,pI v5),(21,pL Zb.enc p1),(22,pI (p1.length:Int)),(23,pI v20)]) (fun (a18,c19) (l17,v20)=>[PRes.b b15 76 (aK m14),PRes.row a18 l17.length c19 138 9 (List.map Zj.enc l17)]) (a3,c4) (dU rfl (dU rfl (qS rfl))) mE ?_
    rintro ⟨a18,c19⟩ ⟨l17,v20⟩ o τ hb25;(try dsimp only at hb25);dsimp only [au]
    refine ae (aj [(24,pB (decide (v20<(p1.length:Int))))] (by kernel_rfl) (ca (jG rfl hb25 (fun hc27 hb25=>?_) fun hc27 hb25=>?_)))
    ·refine ah ?_
     refine cN hb25 fun q32 hq32 hb25=>?_
     refine am (Y:=(Option Addr×Nat)×((List Zj))) (fun ((a29,c30),l31)=>[(0,pL Zd.enc p0),(1,pL Zb.enc p1),(2,pS p2),(7,pO a29 l31.length c30),(9,pP b15 0),(15,pL Zd.enc p0),(16,pI (p0.length:Int)),(17,pI v5),(21,pL Zb.enc p1),(22,pI (p1.length:Int)),(23,pI v20)]) (fun ((a29,c30),l31)=>[PRes.b b15 76 (aK m14),PRes.row a29 l31.length c30 138 9 (List.map Zj.enc l31)]) (fun ((a29,c30),l31)=>q32=l31) ?_ ?_
     ·skip
      refine nX (aa hq32 fun m33 hm33 hq32=>af (aY 2 [] [25] [(26,.agg (aD m33))] (cr 0 Zb.enc hm33 bh) (by kernel_rfl) (al rfl (aN (cs:=[pI 0,pI 0,pN,pN]) rfl rfl rfl rfl (fun b34=>aS rfl rfl (an (vs:=(aD m33)) rfl rfl rfl rfl rfl cw yy (aG (ca (af (cj 5 [1,0] [27,28,29,30] [(31,.agg [pI m14.ID,pI m33.ID])] (by kernel_rfl) (al rfl (aN (cs:=[pI 0,pI 0]) rfl rfl rfl rfl (fun b35=>aS rfl rfl (an (vs:=[pI m14.ID,pI m33.ID]) rfl rfl rfl rfl rfl cw re (aG (cN hq32 fun x36 hx36 hq32=>af (aY 7 [1,2] [33,34,35,36,32] [(37,.agg (aC x36.1)),(38,pB x36.2)] (bi 3 (lG hx36) bh) (by kernel_rfl) (al rfl (aN (cs:=[pI 0,pI 0,pN,pI 0,pI 0,pS ByteArray.empty,pN]) rfl rfl rfl rfl (fun b37=>aS rfl rfl (an (vs:=(aC x36.1)) rfl rfl rfl rfl rfl cw nP (aI [(14,pB x36.2)] (by kernel_rfl) (cN hq32 fun x38 hx38 hq32=>aq [1] (rg 39 7) [(46,pB (x36.2&&x38))] (dK 6 (fun hc=>jx (cA hx38 hc)) bh) (by kernel_rfl) (cR rfl hq32 (fun hc39 hq32=>?_) fun hc39 hq32=>?_))))))))))))))))))))))))
      ·refine af ?_
       refine cj 4 [1,0] [48,49] [(47,pO a18 l17.length c19),(50,.agg [pI m14.ID,pI m33.ID,pI x36.1.Kind,pI x36.1.Digits,pL eS x36.1.Except,pI x36.1.Tolerance,pI x36.1.Limit,pS x36.1.Name,pL Ze.enc x36.1.Args])] (by kernel_rfl) (al rfl (bw rfl rfl rfl rfl rfl (fL rfl iP) rfl rfl rfl rfl (fun b40=>aa hq32 fun l42 hl42 hq32=>?_)))
       refine al rfl (bV (enc:=Zj.enc) rfl rfl rfl rfl rfl rfl rfl rfl rfl fy (by exact ar (ar (ar (ar (ar aJ))))) hl42 (fun a43 c44=>?_))
       refine aI [(7,pO a43 l42.length c44)] (by kernel_rfl) (aA ?_)
       obtain rfl:=osi hq32
       exact av ((a43,c44),l42) (dU rfl (dU rfl (qS rfl))) (ba (ar (ar (ar (ar (ar aJ))))) cg) rfl
      refine ah ?_
      refine aA ?_
      obtain rfl:=osi hq32
      exact av ((a18,c19),l17) (dU rfl (dU rfl (qS rfl))) (ba (ar (ar (ar aJ))) (ba (ar (ar (ar aJ))) bz)) rfl
     rintro ⟨⟨a29,c30⟩,l31⟩ τ hz;(try dsimp only at hz);subst q32;(try dsimp only at hb25);dsimp only [au]
     refine ai [53] [(23,pI (IntKind.i64.wrap (v20+1)))] (by kernel_rfl) ?_
     exact aR hb25 (a29,c30) (dU rfl (dU rfl (qS rfl))) mE
    refine aH ?_
    refine cd hb25 (fun ht=>ak rfl ?_)
    exact gE ((a18,c19),l17) (qQ rfl) (ba (ar aJ) bz) ht.symm
   rintro ⟨⟨a22,c23⟩,l24⟩ τ ρ1 hsub46 hz;(try dsimp only at hz hsub46);subst q26;(try dsimp only at hb10);dsimp only [au]
   refine dx (ml hsub46 (ai [54] [(17,pI (IntKind.i64.wrap (v5+1)))] (by kernel_rfl) ?_))
   exact aR hb10 (a22,c23) (qQ rfl) cg
  refine aH ?_
  refine cd hb10 (fun ht=>ak rfl ?_)
  exact av ((a3,c4),l2) (qP rfl) cg ht.symm
 rintro ⟨⟨a7,c8⟩,l9⟩ τ hz;(try dsimp only at hz);subst q11;(try dsimp only at h);dsimp only [au]
 refine ae (ai [55] [(6,pO a7 l9.length c8)] (by kernel_rfl) (aL ?_))
 refine dr (enc:=Zj.enc) (xs:=l9) 6 rfl (by exact aJ) ?_
 refine bq ?_
 exact zz r h rfl
def jb (p0:(List Zd)) (p1:(List Zb)) (p2:ByteArray):Option ((List Zc)×Int):=(ez p0).bind fun x4=>cond (x4 != 0) (some ([],x4)) ((ey p1).bind fun x6=>cond (x6 != 0) (some ([],x6)) ((cq p2).bind fun x8=>cond (!x8) (some ([],(1:Int))) ((kB p0 p1 p2).bind fun x12=>(aV (S:=(List Zj)×(List Zc)×(List Za)) (T:=(Unit)⊕(_)) (fun (l13,l15,l19)=>(aV (S:=(List Zj)×Int×(List Zc)×(List Za)) (T:=((List Zj)×(List Zc)×(List Za))) (fun (l27,v30,l32,l36)=>cond (decide (v30<(l13.length:Int))) (((idx l13 v30).bind fun m68=>(fX m68 p0 p1 p2 l36 l32).bind fun x70=>cond (!x70.1) ((app 112 l27 [m68]).bind fun l80=>some (l80,x70.2.2,x70.2.1)) (some (l27,x70.2.2,x70.2.1))).bind fun (l58,l62,l66)=>some (.inl (l58,(IntKind.i64.wrap (v30+1)),l62,l66))) (some (.inr (l27,l32,l36)))) FUEL (([]:List Zj),0,l15,l19)).bind fun (l42,l46,l50)=>cond (((l46.length:Nat):Int) == ((l15.length:Nat):Int)) (some (.inr (.inr (l46,(0:Int))))) ((sub l46 ((l15.length:Nat):Int) (l46.length:Int)).bind fun l85=>(aV (S:=Int×(List Za)) (T:=((List Za))) (fun (v86,l88)=>cond (decide (v86<((l46.length - ((l15.length:Nat):Int).toNat:Nat):Int))) ((lw v86).bind fun u100=>(idx l46 (((l15.length:Nat):Int)+v86)).bind fun m101=>(app 16 l88 [m101.Claim]).bind fun l105=>some (.inl ((IntKind.i64.wrap (v86+1)),l105))) (some (.inr l88))) FUEL (0,l50)).bind fun l96=>some (.inl (l42,l46,l96)))) FUEL (x12,([]:List Zc),([]:List Za))).bind fun q=>match q with | .inl _=>none | .inr e=>some e)))
theorem uc {p0:(List Zd)} {p1:(List Zb)} {p2:ByteArray} {r:((List Zc)×Int)}  (h:jb p0 p1 p2=some r):PF 30 [pL Zd.enc p0,pL Zb.enc p1,pS p2] (.tup [pL Zc.enc r.1,pI r.2]):=by
 unfold jb at h
 refine bd ?_
 refine dp Tryz.func30 rfl Tryz.ntmps30 Tryz.results30 rfl (cU rfl (bg (cs:=[pL Zd.enc p0]) rfl rfl (fun b1=>al rfl (bg (cs:=[pL Zb.enc p1]) rfl rfl (fun b2=>al rfl (bg (cs:=[pS p2]) rfl rfl (fun b3=>bc [6,7] (by kernel_rfl) (co (aa h fun x4 hx4 h=>aq [2] [20,21] [(8,pI x4)] (bi 1 (oX hx4) bh) (by kernel_rfl) (ca (bF [22] [(23,pB (x4 != 0))] (by kernel_rfl) rfl h (fun hc5 h=>?_) fun hc5 h=>?_)))))))))))
 ·refine ae ?_
  refine ai [24] [(6,pN),(7,pI x4)] (by kernel_rfl) (aL (fz 6 rfl (bq (ap ?_))))
  obtain rfl:=osi h
  exact aP (cD (aO rfl) (aO rfl)) bz ⟨rfl,rfl⟩
 refine ah ?_
 refine co (aa h fun x6 hx6 h=>aq [1] [25,26] [(9,pI x6)] (bi 1 (oW hx6) bh) (by kernel_rfl) (ca (bF [27] [(28,pB (x6 != 0))] (by kernel_rfl) rfl h (fun hc7 h=>?_) fun hc7 h=>?_)))
 ·refine ae ?_
  refine ai [29] [(6,pN),(7,pI x6)] (by kernel_rfl) (aL (fz 6 rfl (bq (ap ?_))))
  obtain rfl:=osi h
  exact aP (cD (aO rfl) (aO rfl)) bz ⟨rfl,rfl⟩
 refine ah ?_
 refine co (aa h fun x8 hx8 h=>aq [0] [30,31] [(32,pB (!x8))] (bi 1 (fT hx8) bh) (by kernel_rfl) (cR rfl h (fun hc9 h=>?_) fun hc9 h=>?_))
 ·refine ae ?_
  refine aj [(6,pN),(7,pI 1)] (by kernel_rfl) (aL (fz 6 rfl (bq (ap ?_))))
  obtain rfl:=osi h
  exact aP (cD (aO rfl) (aO rfl)) bz ⟨rfl,rfl⟩
 refine ah ?_
 refine ca (cU rfl (aN (cs:=[pN]) rfl rfl rfl rfl (fun b10=>aG (ca (cU rfl (aN (cs:=[pN]) rfl rfl rfl rfl (fun b11=>aG (ca (af ?_)))))))))
 refine oK 3 rfl (by exact ar (ar (ar (ar aJ)))) ?_
 refine oK 4 rfl (by exact ar (ar (ar (ar aJ)))) ?_
 refine oK 5 rfl (by exact ar (ar (ar (ar aJ)))) ?_
 refine ir [33] [(12,.fn 77 [.ref [pL Zd.enc p0] 0,.ref [pL Zb.enc p1] 0,.ref [pS p2] 0,pP b11 0,pP b10 0])] (by kernel_rfl) (cN h fun x12 hx12 h=>aq [] [34,35,36,37] [(13,pL Zj.enc x12)] (bi 3 (ub hx12) bh) (by kernel_rfl) (aL (bX 61 4 (bX 28 2 (aa h fun q23 hq23 h=>aw ?_)))))
 refine aB (Y:=Option Addr×Nat×Option Addr×Nat) (S:=(List Zj)×(List Zc)×(List Za)) _ hq23 (fun (a16,c17,a20,c21) (l13,l15,l19)=>[(10,pP b10 0),(11,pP b11 0),(12,.fn 77 [.ref [pL Zd.enc p0] 0,.ref [pL Zb.enc p1] 0,.ref [pS p2] 0,pP b11 0,pP b10 0]),(13,pL Zj.enc l13)]) (fun (a16,c17,a20,c21) (l13,l15,l19)=>[PRes.b b10 45 [pO a16 l15.length c17],PRes.b b11 31 [pO a20 l19.length c21],PRes.row a16 l15.length c17 61 4 (List.map Zc.enc l15),PRes.row a20 l19.length c21 28 2 (List.map Za.enc l19)]) (none,0,none,0) (iq rfl) (ba (ar (ar (ar (ar (ar (ar aJ)))))) (ba (ar (ar (ar (ar (ar aJ))))) (ba (ar aJ) cg))) ?_
 rintro ⟨a16,c17,a20,c21⟩ ⟨l13,l15,l19⟩ o τ hb22;(try dsimp only at hb22);dsimp only [au]
 refine nX (aj [(14,pN)] (by kernel_rfl) (ca (aM [0] [38,39] [(15,pI ((l15.length:Nat):Int))] (by kernel_rfl) (co (aj [(40,pL Zj.enc l13),(41,pI (l13.length:Int)),(42,pI 0)] (by kernel_rfl) (aL (bX 138 9 (aa hb22 fun q52 hq52 hb22=>?_))))))))
 refine am (Y:=(Option Addr×Nat×Option Addr×Nat×Option Addr×Nat)×((List Zj)×(List Zc)×(List Za))) (fun ((a40,c41,a44,c45,a48,c49),(l42,l46,l50))=>[(10,pP b10 0),(11,pP b11 0),(12,.fn 77 [.ref [pL Zd.enc p0] 0,.ref [pL Zb.enc p1] 0,.ref [pS p2] 0,pP b11 0,pP b10 0]),(14,pO a40 l42.length c41),(15,pI ((l15.length:Nat):Int))]) (fun ((a40,c41,a44,c45,a48,c49),(l42,l46,l50))=>[PRes.b b10 45 [pO a44 l46.length c45],PRes.b b11 31 [pO a48 l50.length c49],PRes.row a40 l42.length c41 138 9 (List.map Zj.enc l42),PRes.row a44 l46.length c45 61 4 (List.map Zc.enc l46),PRes.row a48 l50.length c49 28 2 (List.map Za.enc l50)]) (fun ((a40,c41,a44,c45,a48,c49),(l42,l46,l50))=>q52=(l42,l46,l50)) ?_ ?_
 ·refine aw ?_
  refine aB (Y:=Option Addr×Nat×Option Addr×Nat×Option Addr×Nat) (S:=(List Zj)×Int×(List Zc)×(List Za)) _ hq52 (fun (a28,c29,a33,c34,a37,c38) (l27,v30,l32,l36)=>[(10,pP b10 0),(11,pP b11 0),(12,.fn 77 [.ref [pL Zd.enc p0] 0,.ref [pL Zb.enc p1] 0,.ref [pS p2] 0,pP b11 0,pP b10 0]),(14,pO a28 l27.length c29),(15,pI ((l15.length:Nat):Int)),(40,pL Zj.enc l13),(41,pI (l13.length:Int)),(42,pI v30)]) (fun (a28,c29,a33,c34,a37,c38) (l27,v30,l32,l36)=>[PRes.b b10 45 [pO a33 l32.length c34],PRes.b b11 31 [pO a37 l36.length c38],PRes.row a28 l27.length c29 138 9 (List.map Zj.enc l27),PRes.row a33 l32.length c34 61 4 (List.map Zc.enc l32),PRes.row a37 l36.length c38 28 2 (List.map Za.enc l36)]) (none,0,a16,c17,a20,c21) (qR rfl) (ba (ar aJ) (ba (ar aJ) Cz)) ?_
  rintro ⟨a28,c29,a33,c34,a37,c38⟩ ⟨l27,v30,l32,l36⟩ o τ hb51;(try dsimp only at hb51);dsimp only [au]
  refine ae (aj [(43,pB (decide (v30<(l13.length:Int))))] (by kernel_rfl) (ca (jG rfl hb51 (fun hc54 hb51=>?_) fun hc54 hb51=>?_)))
  ·refine ah ?_
   refine cN hb51 fun q67 hq67 hb51=>?_
   refine am (Y:=(Option Addr×Nat×Option Addr×Nat×Option Addr×Nat)×((List Zj)×(List Zc)×(List Za))) (fun ((a56,c57,a60,c61,a64,c65),(l58,l62,l66))=>[(10,pP b10 0),(11,pP b11 0),(12,.fn 77 [.ref [pL Zd.enc p0] 0,.ref [pL Zb.enc p1] 0,.ref [pS p2] 0,pP b11 0,pP b10 0]),(14,pO a56 l58.length c57),(15,pI ((l15.length:Nat):Int)),(40,pL Zj.enc l13),(41,pI (l13.length:Int)),(42,pI v30)]) (fun ((a56,c57,a60,c61,a64,c65),(l58,l62,l66))=>[PRes.b b10 45 [pO a60 l62.length c61],PRes.b b11 31 [pO a64 l66.length c65],PRes.row a56 l58.length c57 138 9 (List.map Zj.enc l58),PRes.row a60 l62.length c61 61 4 (List.map Zc.enc l62),PRes.row a64 l66.length c65 28 2 (List.map Za.enc l66)]) (fun ((a56,c57,a60,c61,a64,c65),(l58,l62,l66))=>q67=(l58,l62,l66)) ?_ ?_
   ·skip
    refine nX (aa hq67 fun m68 hm68 hq67=>af (aY 2 [] [44] [(45,.agg (gQ m68))] (cr 0 Zj.enc hm68 bh) (by kernel_rfl) (al rfl (aN (cs:=[pI 0,pI 0,pI 0,pI 0,pN,pI 0,pI 0,pS ByteArray.empty,pN]) rfl rfl rfl rfl (fun b69=>aS rfl rfl (an (vs:=(gQ m68)) rfl rfl rfl rfl rfl cw zl9 (aG (cN hq67 fun x70 hx70 hq67=>af (fu 2 [0] [(46,.fn 77 [.ref [pL Zd.enc p0] 0,.ref [pL Zb.enc p1] 0,.ref [pS p2] 0,pP b11 0,pP b10 0]),(47,.agg (gQ m68))] (by kernel_rfl) ?_)))))))))
    refine al rfl (DJ rfl rfl rfl (ρ1:=[_,_,_,_]) (aW (by exact ar (ar aJ)) (aW (by exact ar (ar (ar (ar aJ)))) (aW (by exact ar aJ) (aW (by exact ar (ar aJ)) (List.Perm.refl _))))) (r6 hx70) ?_);rintro _ _ ⟨rfl,a71,c72,a73,c74,rfl⟩
    refine aI [(49,pB (!x70.1))] (by kernel_rfl) (cR rfl hq67 (fun hc77 hq67=>?_) fun hc77 hq67=>?_)
    ·refine af ?_
     refine fu 2 [4] [(50,pO a28 l27.length c29),(51,.agg (gQ m68))] (by kernel_rfl) (al rfl (bw rfl rfl rfl rfl rfl (fL rfl iP) rfl rfl rfl rfl (fun b78=>aa hq67 fun l80 hl80 hq67=>?_)))
     refine al rfl (bV (enc:=Zj.enc) rfl rfl rfl rfl rfl rfl rfl rfl rfl fy (by exact ar (ar (ar (ar (ar (ar aJ)))))) hl80 (fun a81 c82=>?_))
     refine aI [(14,pO a81 l80.length c82)] (by kernel_rfl) (aA ?_)
     obtain rfl:=osi hq67
     exact av ((a81,c82,a73,c74,a71,c72),(l80,x70.2.2,x70.2.1)) (qR rfl) (ba (ar (ar (ar (ar aJ)))) (ba (ar (ar aJ)) (ba aJ (ba (ar (ar aJ)) (ba (ar aJ) bz))))) rfl
    refine ah ?_
    refine aA ?_
    obtain rfl:=osi hq67
    exact av ((a28,c29,a73,c74,a71,c72),(l27,x70.2.2,x70.2.1)) (qR rfl) (ba (ar (ar aJ)) (ba aJ (ba (ar (ar (ar aJ))) (ba (ar aJ) cg)))) rfl
   rintro ⟨⟨a56,c57,a60,c61,a64,c65⟩,⟨l58,l62,l66⟩⟩ τ hz;(try dsimp only at hz);subst q67;(try dsimp only at hb51);dsimp only [au]
   refine ai [54] [(42,pI (IntKind.i64.wrap (v30+1)))] (by kernel_rfl) ?_
   exact aR hb51 (a56,c57,a60,c61,a64,c65) (qR rfl) zs5
  refine aH ?_
  refine cd hb51 (fun ht=>ak rfl ?_)
  exact av ((a28,c29,a33,c34,a37,c38),(l27,l32,l36)) (lP rfl) zs5 ht.symm
 rintro ⟨⟨a40,c41,a44,c45,a48,c49⟩,⟨l42,l46,l50⟩⟩ τ hz;(try dsimp only at hz);subst q52;(try dsimp only at hb22);dsimp only [au]
 refine cT (aM [0] [55,56,57] [(58,pB (((l46.length:Nat):Int) == ((l15.length:Nat):Int)))] (by kernel_rfl) (cR rfl hb22 (fun hc84 hb22=>?_) fun hc84 hb22=>?_))
 ·refine ae ?_
  refine aM [0] [59] [(6,pO a44 l46.length c45),(7,pI 0)] (by kernel_rfl) (aL ?_)
  refine dr (enc:=Zc.enc) (xs:=l46) 6 rfl (by exact ar (ar (ar aJ))) ?_
  refine bq (ap (cQ ?_))
  refine az hb22 (fun ht=>?_);subst ht
  refine cQ ?_
  obtain rfl:=osi h
  exact aP (cD (aO rfl) (aO rfl)) bz ⟨rfl,rfl⟩
 refine ah ?_
 refine co (aa hb22 fun l85 hl85 hb22=>af (fu 2 [0] [(60,pO a44 l46.length c45),(61,pI ((l15.length:Nat):Int))] (by kernel_rfl) (bx rfl rfl rfl (mQ (enc:=Zc.enc) (xs:=l46) rfl rfl rfl rfl rfl Gw hl85) (aI [(63,pI ((l46.length - ((l15.length:Nat):Int).toNat:Nat):Int)),(64,pI 0)] (by kernel_rfl) (fa hb22 fun q98 hq98 hb22=>?_)))))
 refine am (Y:=(Option Addr×Nat)×((List Za))) (fun ((a94,c95),l96)=>[(10,pP b10 0),(11,pP b11 0),(12,.fn 77 [.ref [pL Zd.enc p0] 0,.ref [pL Zb.enc p1] 0,.ref [pS p2] 0,pP b11 0,pP b10 0]),(14,pO a40 l42.length c41)]) (fun ((a94,c95),l96)=>[PRes.b b10 45 [pO a44 l46.length c45],PRes.b b11 31 [pO a94 l96.length c95],PRes.row a40 l42.length c41 138 9 (List.map Zj.enc l42),PRes.row a44 l46.length c45 61 4 (List.map Zc.enc l46),PRes.row a94 l96.length c95 28 2 (List.map Za.enc l96)]) (fun ((a94,c95),l96)=>q98=l96) ?_ ?_
 ·refine aw ?_
  refine aB (Y:=Option Addr×Nat) (S:=Int×(List Za)) _ hq98 (fun (a89,c90) (v86,l88)=>[(10,pP b10 0),(11,pP b11 0),(12,.fn 77 [.ref [pL Zd.enc p0] 0,.ref [pL Zb.enc p1] 0,.ref [pS p2] 0,pP b11 0,pP b10 0]),(14,pO a40 l42.length c41),(62,pQ a44 l46.length c45 ((l15.length:Nat):Int).toNat 4),(63,pI ((l46.length - ((l15.length:Nat):Int).toNat:Nat):Int)),(64,pI v86)]) (fun (a89,c90) (v86,l88)=>[PRes.b b10 45 [pO a44 l46.length c45],PRes.b b11 31 [pO a89 l88.length c90],PRes.row a40 l42.length c41 138 9 (List.map Zj.enc l42),PRes.row a44 l46.length c45 61 4 (List.map Zc.enc l46),PRes.row a89 l88.length c90 28 2 (List.map Za.enc l88)]) (a48,c49) (qQ rfl) zs5 ?_
  rintro ⟨a89,c90⟩ ⟨v86,l88⟩ o τ hb97;(try dsimp only at hb97);dsimp only [au]
  refine ae (aj [(65,pB (decide (v86<((l46.length - ((l15.length:Nat):Int).toNat:Nat):Int))))] (by kernel_rfl) (ca (jG rfl hb97 (fun hc99 hb97=>?_) fun hc99 hb97=>?_)))
  ·refine ah ?_
   refine dq (aa hb97 fun u100 hu100 hb97=>aa hb97 fun m101 hm101 hb97=>af (bx rfl rfl rfl (jH (enc:=Zc.enc) (xs:=l46) (i:=((l15.length:Nat):Int)) rfl rfl rfl rfl rfl (gO hl85).1.1 (lx hu100) Gw hm101) (bx rfl rfl rfl (cP (sz:=4) (p:=.agg (dg m101)) (enc:=Zc.enc) (xs:=l46) (a:=a44) (((l15.length:Nat):Int)+v86) 0 m101 rfl (.p rfl) rfl Gw (fun _=>hm101) rfl) (al rfl (aN (cs:=[pI 0,pI 0,pN,pN]) rfl rfl rfl rfl (fun b102=>aS rfl rfl (an (vs:=(dg m101)) rfl rfl rfl rfl rfl cw yy (aG (aL (af (cj 3 [2,0] [69] [(68,pO a89 l88.length c90),(70,.agg [pI m101.Claim.Product,pI m101.Claim.Agreement])] (by kernel_rfl) (al rfl (bw rfl rfl rfl rfl rfl (fL rfl iP) rfl rfl rfl rfl (fun b103=>aa hb97 fun l105 hl105 hb97=>?_))))))))))))))
   refine al rfl (bV (enc:=Za.enc) rfl rfl rfl rfl rfl rfl rfl rfl rfl fy (by exact ar (ar (ar (ar (ar (ar aJ)))))) hl105 (fun a106 c107=>?_))
   refine aS rfl rfl (an (vs:=[pO a106 l105.length c107]) rfl rfl rfl rfl rfl (dl (dl (dl (dl cw)))) nD (aG (dx (ai [73] [(64,pI (IntKind.i64.wrap (v86+1)))] (by kernel_rfl) ?_))))
   exact aR hb97 (a106,c107) (qQ rfl) (ba (ar (ar (ar aJ))) (ba (ar (ar (ar aJ))) (ba (ar (ar (ar aJ))) (ba (ar (ar (ar aJ))) cg))))
  refine aH ?_
  refine cd hb97 (fun ht=>ak rfl ?_)
  exact av ((a89,c90),l88) (iq rfl) zs5 ht.symm
 rintro ⟨⟨a94,c95⟩,l96⟩ τ hz;(try dsimp only at hz);subst q98;(try dsimp only at hb22);dsimp only [au]
 refine ai [74] [(13,pO a40 l42.length c41)] (by kernel_rfl) (aA ?_)
 refine zR (E4 (enc:=Zj.enc) (xs:=l42) 13 rfl (by exact ar (ar aJ))) ?_
 exact aR hb22 (a44,c45,a94,c95) (iq rfl) (ba (ar aJ) (ba (ar aJ) (ba (ar aJ) (ba (ar aJ) bz))))
def nw  : Option Bool:=(jb [(⟨1,(⟨#[57,52,48,49,48,49]⟩:ByteArray),(⟨#[65,65]⟩:ByteArray),10,false,[],[(⟨1,5⟩:Zg)]⟩:Zd),(⟨2,(⟨#[57,52,48,49,48,50]⟩:ByteArray),(⟨#[65,65]⟩:ByteArray),10,false,[],[(⟨1,5⟩:Zg)]⟩:Zd)] [(⟨7,1,[(⟨#[65,65]⟩:ByteArray),(⟨#[67,67]⟩:ByteArray)],[(⟨(⟨#[57,52]⟩:ByteArray),(⟨2,6,[],0,0,ByteArray.empty,[]⟩:Ze)⟩:Zi)]⟩:Zb)] (⟨#[67,67]⟩:ByteArray)).bind fun x14=>(gd ((x14.2 == 0)&&((x14.1.length:Int) == 1)) (iV x14.1 (⟨2,7⟩:Za))).bind fun x15=>(gd (((x14.2 == 0)&&((x14.1.length:Int) == 1))&&x15) (iV x14.1 (⟨1,7⟩:Za))).bind fun x16=>some ((((x14.2 == 0)&&((x14.1.length:Int) == 1))&&x15)&&(!x16))
theorem vN  {r:Bool}  (h:nw  = some r):PF 29 [] (pB r):=by
 unfold nw at h
 refine bd ?_
 refine dp Tryz.func29 rfl Tryz.ntmps29 Tryz.results29 rfl (aU [0] (by kernel_rfl) (ca (af (aF 1 [(6,.agg [pI 2,pI 6,pN,pI 0,pI 0,pS ByteArray.empty,pN])] (by kernel_rfl) (al rfl (aN (cs:=[pI 0,pI 0,pN,pI 0,pI 0,pS ByteArray.empty,pN]) rfl rfl rfl rfl (fun b1=>aS rfl rfl (an (vs:=[pI 2,pI 6,pN,pI 0,pI 0,pS ByteArray.empty,pN]) rfl rfl rfl rfl rfl cw nP (aG (ca (cU rfl (bw rfl rfl rfl rfl rfl (fL rfl (fL rfl iP)) rfl rfl rfl rfl (fun b2=>rR (k:=2) (b:=b1) rfl (dl cw) (rR (k:=6) (b:=b1) rfl (dl cw) (cj 2 [1] [8] [(9,.agg [pS (⟨#[57,52]⟩:ByteArray),pI 2,pI 6,pL eS [],pI 0,pI 0,pS ByteArray.empty,pL Ze.enc []])] (by kernel_rfl) (al rfl (bw rfl rfl rfl rfl rfl (fL rfl iP) rfl rfl rfl rfl (fun b4=>?_))))))))))))))))))
 refine fO (enc:=eS) (xs:=[(⟨#[65,65]⟩:ByteArray),(⟨#[67,67]⟩:ByteArray)]) 7 rfl (by exact ar aJ) ?_
 refine fO (enc:=Zi.enc) (xs:=[(⟨(⟨#[57,52]⟩:ByteArray),(⟨2,6,[],0,0,ByteArray.empty,[]⟩:Ze)⟩:Zi)]) 10 rfl (by exact ar aJ) ?_
 refine aF 1 [(11,.agg [pI 7,pI 1,pL eS [(⟨#[65,65]⟩:ByteArray),(⟨#[67,67]⟩:ByteArray)],pL Zi.enc [(⟨(⟨#[57,52]⟩:ByteArray),(⟨2,6,[],0,0,ByteArray.empty,[]⟩:Ze)⟩:Zi)]])] (by kernel_rfl) (al rfl (bw rfl rfl rfl rfl rfl (fL rfl iP) rfl rfl rfl rfl (fun b6=>aI [(2,pO (some ⟨b6,0,none⟩) 1 1)] (by kernel_rfl) (ca (af (aF 1 [(13,.agg [pI 1,pI 5])] (by kernel_rfl) (al rfl (bw rfl rfl rfl rfl rfl (fL rfl iP) rfl rfl rfl rfl (fun b8=>?_)))))))))
 refine fO (enc:=Zg.enc) (xs:=[(⟨1,5⟩:Zg)]) 14 rfl (by exact aJ) ?_
 refine aF 2 [(15,.agg [pI 1,pS (⟨#[57,52,48,49,48,49]⟩:ByteArray),pS (⟨#[65,65]⟩:ByteArray),pI 10,pB false,pN,pL Zg.enc [(⟨1,5⟩:Zg)]]),(16,.agg [pI 1,pI 5])] (by kernel_rfl) (al rfl (bw rfl rfl rfl rfl rfl (fL rfl iP) rfl rfl rfl rfl (fun b10=>?_)))
 refine fO (enc:=Zg.enc) (xs:=[(⟨1,5⟩:Zg)]) 17 rfl (by exact aJ) ?_
 refine aF 1 [(18,.agg [pI 2,pS (⟨#[57,52,48,49,48,50]⟩:ByteArray),pS (⟨#[65,65]⟩:ByteArray),pI 10,pB false,pN,pL Zg.enc [(⟨1,5⟩:Zg)]])] (by kernel_rfl) (uZ 15 5 rfl rfl (uZ 18 5 rfl rfl (al rfl (bw rfl rfl rfl rfl rfl (fL rfl (fL rfl iP)) rfl rfl rfl rfl (fun b12=>aI [(3,pO (some ⟨b12,0,none⟩) 2 2)] (by kernel_rfl) (ca (af (aF 2 [(21,pO (some ⟨b12,0,none⟩) 2 2),(22,pO (some ⟨b6,0,none⟩) 1 1)] (by kernel_rfl) ?_))))))))
 refine fO (enc:=Zd.enc) (xs:=[(⟨1,(⟨#[57,52,48,49,48,49]⟩:ByteArray),(⟨#[65,65]⟩:ByteArray),10,false,[],[(⟨1,5⟩:Zg)]⟩:Zd),(⟨2,(⟨#[57,52,48,49,48,50]⟩:ByteArray),(⟨#[65,65]⟩:ByteArray),10,false,[],[(⟨1,5⟩:Zg)]⟩:Zd)]) 21 rfl (by exact aJ) ?_
 refine fO (enc:=Zb.enc) (xs:=[(⟨7,1,[(⟨#[65,65]⟩:ByteArray),(⟨#[67,67]⟩:ByteArray)],[(⟨(⟨#[57,52]⟩:ByteArray),(⟨2,6,[],0,0,ByteArray.empty,[]⟩:Ze)⟩:Zi)]⟩:Zb)]) 22 rfl (by exact ar (ar (ar aJ))) ?_
 refine aa h fun x14 hx14 h=>gI [] [23,20,24,25] [(4,pL Zc.enc x14.1),(5,pI x14.2)] (bi 0 (uc hx14) bh) (by kernel_rfl) (cN h fun x15 hx15 h=>aa h fun x16 hx16 h=>aq [] (rg 26 18) [(0,pB ((((x14.2 == 0)&&((x14.1.length:Int) == 1))&&x15)&&(!x16)))] (dK 10 (fun hc=>ls (cA hx15 hc)) (dK 15 (fun hc=>ls (cA hx16 hc)) bh)) (by kernel_rfl) (dm ?_))
 exact zz r h rfl
def hC (p0:(List Int)) (p1:(List Int)) (p2:Int) (p3:Int) (p4:Int):Option Bool:=(nY p0).bind fun x1=>(iu p1).bind fun x5=>(jk p2).bind fun x9=>(jY x1 x5 x9).bind fun x10=>(fE p3 12).bind fun x11=>(fE p4 5).bind fun x12=>Option.bind (cond ((decide (0<(x10.1.length:Int)))&&((dw .i64 p3 1) == 1)) ((fE (cC .i64 p3 1) (x10.1.length:Int)).bind fun x18=>(idx x10.1 x18).bind fun m19=>some (m19.Claim.Product,m19.Claim.Agreement)) (some ((IntKind.i64.wrap (3*x11)),(IntKind.i64.wrap (2+(IntKind.i64.wrap (5*x12))))))) (fun (v14,v15)=>(lE x10.1 (⟨v14,v15⟩:Za)).bind fun x20=>(ng x10.1 (⟨v14,v15⟩:Za)).bind fun x21=>(gd (!(x20.2 != x21.2)) (lf x20.1 x21.1)).bind fun x22=>(gd (!((x20.2 != x21.2)||(!x22))) (iV x10.1 (⟨v14,v15⟩:Za))).bind fun x23=>cond (((x20.2 != x21.2)||(!x22))||(x23 != (x20.2 == 0))) (some false) ((iV x20.1 (⟨v14,v15⟩:Za)).bind fun x25=>(gd ((x25 == (x20.2 == 0))&&(decide ((x20.1.length:Int)≤(x10.1.length:Int)))) (nw)).bind fun x26=>some (((x25 == (x20.2 == 0))&&(decide ((x20.1.length:Int)≤(x10.1.length:Int))))&&x26)))
theorem qL {p0:(List Int)} {p1:(List Int)} {p2:Int} {p3:Int} {p4:Int} {r:Bool}  (h:hC p0 p1 p2 p3 p4=some r):PF 8 [pL eI p0,pL eI p1,pI p2,pI p3,pI p4] (pB r):=by
 unfold hC at h
 refine bd ?_
 refine dp Tryz.func8 rfl Tryz.ntmps8 Tryz.results8 rfl (aU [10] (by kernel_rfl) (cN h fun x1 hx1 h=>af (aF 1 [(22,pL eI p0)] (by kernel_rfl) ?_)))
 refine al rfl (bf rfl rfl (ρ1:=[]) (List.Perm.refl _) (yI hx1) ?_);rintro _ _ ⟨a2,c3,rfl,rfl⟩
 refine aa h fun x5 hx5 h=>aF 1 [(24,pL eI p1)] (by kernel_rfl) ?_
 refine al rfl (bf rfl rfl (ρ1:=[]) (List.Perm.refl _) (ri hx5) ?_);rintro _ _ ⟨a6,c7,rfl,rfl⟩
 refine aa h fun x9 hx9 h=>gI [] [26,27] [(11,pO a2 x1.length c3),(12,pO a6 x5.length c7),(13,pS x9)] (bi 1 (sK hx9) bh) (by kernel_rfl) (ca (af (aF 3 [(29,pO a2 x1.length c3),(30,pO a6 x5.length c7),(31,pS x9)] (by kernel_rfl) ?_)))
 refine fO (enc:=Zd.enc) (xs:=x1) 29 rfl (by exact ar aJ) ?_
 refine fO (enc:=Zb.enc) (xs:=x5) 30 rfl (by exact ar aJ) ?_
 refine aa h fun x10 hx10 h=>gI [] [32,28,33,34,15] [(14,pL Zc.enc x10.1)] (bi 0 (vC hx10) bh) (by kernel_rfl) (cN h fun x11 hx11 h=>aa h fun x12 hx12 h=>af (aY 8 [] (rg 35 7) [(42,.agg [pI (IntKind.i64.wrap (3*x11)),pI (IntKind.i64.wrap (2+(IntKind.i64.wrap (5*x12))))])] (bi 1 (iQ hx11) (bi 4 (iQ hx12) bh)) (by kernel_rfl) (al rfl (aN (cs:=[pI 0,pI 0]) rfl rfl rfl rfl (fun b13=>aS rfl rfl (an (vs:=[pI (IntKind.i64.wrap (3*x11)),pI (IntKind.i64.wrap (2+(IntKind.i64.wrap (5*x12))))]) rfl rfl rfl rfl rfl cw re (aG (co (ai [43,44] [(17,pI (x10.1.length:Int))] (by kernel_rfl) (ca (ai (rg 45 6) [(51,pB ((decide (0<(x10.1.length:Int)))&&((dw .i64 p3 1) == 1)))] (by kernel_rfl) (fa h fun q16 hq16 h=>?_))))))))))))
 refine am (Y:=Unit×(Int×Int)) (fun (_,(v14,v15))=>[(14,pL Zc.enc x10.1),(16,pP b13 0)]) (fun (_,(v14,v15))=>[PRes.b b13 28 [pI v14,pI v15]]) (fun (_,(v14,v15))=>q16=(v14,v15)) ?_ ?_
 ·skip
  refine jG rfl hq16 (fun hc17 hq16=>?_) fun hc17 hq16=>?_
  ·refine aa hq16 ?_;clear hq16;intro x18 hx18 hq16
   refine aa hq16 fun m19 hm19 hq16=>af (aY 8 [] (rg 52 7) [(59,.agg [pI m19.Claim.Product,pI m19.Claim.Agreement])] (bi 4 (iQ hx18) (cr 5 Zc.enc hm19 bh)) (by kernel_rfl) (aS rfl rfl (an (vs:=[pI m19.Claim.Product,pI m19.Claim.Agreement]) rfl rfl rfl rfl rfl cw re (aG ?_))))
   obtain rfl:=osi hq16
   exact av ((),(m19.Claim.Product,m19.Claim.Agreement)) (lL rfl) cg rfl
  refine ah ?_
  obtain rfl:=osi hq16
  exact av ((),((IntKind.i64.wrap (3*x11)),(IntKind.i64.wrap (2+(IntKind.i64.wrap (5*x12)))))) (lL rfl) cg rfl
 rintro ⟨_,⟨v14,v15⟩⟩ τ hz;(try dsimp only at hz);subst q16;(try dsimp only at h);dsimp only [au]
 refine ae (aa h fun x20 hx20 h=>aq [0] [61,62,63,60,64,65] [(18,pL Zc.enc x20.1),(19,pI x20.2)] (bi 2 (vE hx20) bh) (by kernel_rfl) (cN h fun x21 hx21 h=>aq [0] [67,68,69,66,70,71] [(20,pL Zc.enc x21.1),(21,pI x21.2)] (bi 2 (wN hx21) bh) (by kernel_rfl) (co (aa h fun x22 hx22 h=>aa h fun x23 hx23 h=>aq [0] (rg 72 16) [(88,pB (((x20.2 != x21.2)||(!x22))||(x23 != (x20.2 == 0))))] (dK 6 (fun hc=>wM (cA hx22 hc)) (dK 12 (fun hc=>ls (cA hx23 hc)) bh)) (by kernel_rfl) (cR rfl h (fun hc24 h=>?_) fun hc24 h=>?_)))))
 ·refine ae ?_
  refine cZ [(10,pB false)] (by kernel_rfl) (ap ?_)
  exact zz r h rfl
 refine ah ?_
 refine cN h fun x25 hx25 h=>aa h fun x26 hx26 h=>aq [0] (rg 89 16) [(10,pB (((x25 == (x20.2 == 0))&&(decide ((x20.1.length:Int)≤(x10.1.length:Int))))&&x26))] (bi 2 (ls hx25) (dK 14 (fun hc=>vN (cA hx26 hc)) bh)) (by kernel_rfl) (dm ?_)
 exact zz r h rfl
end SX
namespace SX
open Go
theorem mF {S T:Type} {body:S→Option (S⊕T)} (P:S→Prop) (μ:S→Nat) (Q:T→Prop) (step:∀ s,P s→(∃ s',body s=some (.inl s')∧P s'∧μ s'<μ s)∨∃ t,body s=some (.inr t)∧Q t):∀ (N:Nat) (s:S),P s→μ s<N→∃ t,aV body N s=some t∧Q t:=by
 intro N
 induction N with
 | zero=>intro s _ h;exact absurd h (Nat.not_lt_zero _)
 | succ N ih =>
  intro s hp hm
  rw [fM]
  rcases step s hp with ⟨s',h1,h2,h3⟩ | ⟨t,h1,h2⟩
  ·rw [h1];exact ih s' h2 (by omega)
  rw [h1];exact ⟨t,rfl,h2⟩
theorem ix0 {α:Type} {a b:α}:idx [a,b] 0=some a:=rfl
theorem ix1 {α:Type} {a b:α}:idx [a,b] 1=some b:=rfl
theorem cap_eq (c:Int):e7 c=some (decide (65≤c)&&decide (c≤90)):=rfl
def qM (s:ByteArray):Bool:=match s.data.toList with | [a,b]=>decide (65≤(a.toNat:Int))&&decide ((a.toNat:Int)≤90)&&decide (65≤(b.toNat:Int))&&decide ((b.toNat:Int)≤90) | _=>false
theorem Ar {s:ByteArray} (h:((s.size:Int) == 2)=true):∃ a b,s.data.toList=[a,b]:=by
 have h2:s.data.toList.length=2:=by
  have:=eq_of_beq h
  rw [Array.length_toList];have e:s.size=s.data.size:=rfl;omega
 match hd:s.data.toList,h2 with
 | [a,b],_=>exact ⟨a,b,rfl⟩
theorem CM {s:ByteArray} (h:((s.size:Int) == 2)=false):qM s=false:=by
 unfold qM
 split
 ·rename_i a b hd
  have e:s.size=s.data.toList.length:=by rw [Array.length_toList];rfl
  rw [hd] at e
  have e2:(s.size:Int)=2:=by rw [e];rfl
  rw [e2] at h;cases h
 rfl
theorem nL (s:ByteArray):cq s=some (qM s):=by
 unfold cq
 cases h:((s.size:Int) == 2)
 ·rw [CM h];rfl
 obtain ⟨a,b,hd⟩:=Ar h
 simp only [Bool.true_and,cH,cap_eq]
 rw [hd]
 simp only [qM,hd]
 rw [pn ix0]
 simp only [be]
 cases h1:(decide (65≤(a.toNat:Int))&&decide ((a.toNat:Int)≤90))
 ·rfl
 simp only [cH,Bool.true_and];rw [pn ix1];rfl
theorem qc (s:ByteArray):eX s=some (qM s):=by
 unfold eX
 cases h:((s.size:Int) == 2)
 ·rw [CM h];rfl
 obtain ⟨a,b,hd⟩:=Ar h
 simp only [Bool.true_and,cH]
 rw [hd]
 simp only [qM,hd]
 rw [pn ix0]
 cases h1:decide (65≤(a.toNat:Int))
 ·rfl
 simp only [cH,Bool.true_and];rw [pn ix0]
 cases h2:decide ((a.toNat:Int)≤90)
 ·rfl
 simp only [cH,Bool.true_and];rw [pn ix1]
 cases h3:decide (65≤(b.toNat:Int))
 ·rfl
 simp only [cH,Bool.true_and];rw [pn ix1]
theorem sR (s:ByteArray) (hs:s.size≤140737488355328):gx s=some (dQ s):=by
 have hz:s.size=s.data.toList.length:=by rw [Array.length_toList];rfl
 unfold gx
 obtain ⟨t,h5,h6⟩:=mF (body:=fun v1=>cond (decide (v1<(s.size:Int))) (Option.bind (idx s.data.toList v1) (fun c5=>Option.bind (gd (!(decide ((c5.toNat:Int)<48))) (idx s.data.toList v1)) (fun c6=>cond ((decide ((c5.toNat:Int)<48))||(decide (57<(c6.toNat:Int)))) (some (.inr (.inr 0))) (some (.inl (IntKind.i64.wrap (v1+1))))))) (some (.inr (.inl ()))))
  (fun v:Int=>0≤v∧v≤s.size∧∀ j,(h:j<s.data.toList.length)→(j:Int)<v→kw (s.data.toList[j]).toNat=true) (fun v=>(s.size:Int).toNat - v.toNat) (fun t:Unit⊕Int=>(t=.inl ()∧lg s=true)∨(t=.inr 0∧lg s=false))
  (fun v hv=>by
   obtain ⟨a1,a2,a3⟩:=hv
   by_cases hl:v<(s.size:Int)
   ·rw [det hl];simp only [bZ]
    obtain ⟨k,rfl⟩:∃ k:Nat,v=(k:Int):=⟨v.toNat,by omega⟩
    have hk:k<s.data.toList.length:=by omega
    rw [pn (aQ hk)]
    by_cases hd:kw (s.data.toList[k]).toNat=true
    ·left
     have hd2:=hd
     simp only [kw,decide_eq_true_eq] at hd2
     rw [bQ (show ¬ ((s.data.toList[k].toNat:Nat):Int)<48 by omega)]
     simp only [Bool.not_false,cH,Bool.false_or]
     rw [pn (aQ hk),bQ (show ¬ 57<((s.data.toList[k].toNat:Nat):Int) by omega)]
     simp only [bI]
     rw [cM (by omega) (by omega)]
     refine ⟨_,rfl,⟨by omega,by omega,fun j h1 h2=>?_⟩,by omega⟩
     by_cases hj:j=k
     ·subst hj;exact hd
     exact a3 j h1 (by omega)
    right
    refine ⟨.inr 0,?_,.inr ⟨rfl,?_⟩⟩
    ·have hd2:=hd
     simp only [kw,decide_eq_true_eq] at hd2
     by_cases h48:((s.data.toList[k].toNat:Nat):Int)<48
     ·rw [det h48];rfl
     rw [bQ h48]
     simp only [Bool.not_false,cH,Bool.false_or]
     rw [pn (aQ hk),det (show 57<((s.data.toList[k].toNat:Nat):Int) by omega)];rfl
    cases ha:lg s
    ·rfl
    exfalso;apply hd
    unfold lg bl at ha
    exact List.all_eq_true.1 ha _ (List.getElem_mem hk)
   right
   rw [bQ hl]
   refine ⟨.inl (),rfl,.inl ⟨rfl,?_⟩⟩
   unfold lg bl
   rw [List.all_eq_true]
   intro c hc
   obtain ⟨j,hj,rfl⟩:=List.getElem_of_mem hc
   exact a3 j hj (by omega))
  FUEL 0 ⟨by omega,by omega,fun j _ h=>by omega⟩ (kl (by omega))
 rw [pn h5]
 unfold dQ
 rcases h6 with ⟨rfl,h⟩ | ⟨rfl,h⟩
 ·simp only [h,and_true]
  by_cases h8:(8:Int)<(s.size:Int)
  ·rw [det h8,if_neg (by omega)];rfl
  rw [bQ h8]
  simp only [Bool.false_or]
  have e:Int.tmod (s.size:Int) 2=(s.size:Int) % 2:=Int.tmod_eq_emod_of_nonneg (by omega)
  rw [e]
  by_cases hp:(s.size:Int) % 2=1
  ·rw [hp,if_neg (by omega)];rfl
  have:((s.size:Int) % 2 == 1)=false:=by simpa using hp
  rw [this]
  by_cases h0:s.size=0
  ·rw [if_neg (by omega),h0];rfl
  rw [if_pos (by omega)];rfl
 simp [h]
theorem sS (s:ByteArray):s.size=s.data.toList.length:=by rw [Array.length_toList];rfl
def rA (c:UInt8):Bool:=decide (97≤c.toNat)&&decide (c.toNat≤122)
def ia (s:ByteArray):Bool:=decide (1≤s.size)&&decide (s.size≤12)&&s.data.toList.all rA
theorem As (s:ByteArray) (hs:s.size≤140737488355328):kX s=some (ia s):=by
 unfold kX ia
 have hz:=sS s
 rw [hz] at hs ⊢
 generalize s.data.toList=l at hs ⊢
 refine (bE (l:=l) (by omega) (fun _ c=>cond (rA c) none (some (.inr false))) (.inl ()) (fun k hk=>?_) (by simp only [cO,bI])).trans ?_
 ·simp only [hZ hk,bZ,aQ hk,be,bU hk (show l.length≤4611686018427387904 by omega),rA]
  generalize l[k]=c
  by_cases h1:c.toNat<97
  ·rw [show decide ((c.toNat:Int)<97)=true from det (by omega),show decide (97≤c.toNat)=false from bQ (by omega)];rfl
  rw [show decide ((c.toNat:Int)<97)=false from bQ (by omega),show decide (97≤c.toNat)=true from det (by omega)]
  simp only [Bool.not_false,cH,be,Bool.false_or,Bool.true_and]
  by_cases h2:122<c.toNat
  ·rw [show decide ((122:Int)<(c.toNat:Int))=true from det (by omega),show decide (c.toNat≤122)=false from bQ (by omega)];rfl
  rw [show decide ((122:Int)<(c.toNat:Int))=false from bQ (by omega),show decide (c.toNat≤122)=true from det (by omega)];rfl
 rw [qz]
 have i1:decide ((1:Int)≤(l.length:Int))=decide (1≤l.length):=decide_eq_decide.2 (by omega)
 have i2:decide ((l.length:Int)≤(12:Int))=decide (l.length≤12):=decide_eq_decide.2 (by omega)
 cases l.all rA
 ·simp
 simp [i1,i2]
theorem DL (s:ByteArray) (hs:s.size≤140737488355328):kx s=some (ia s):=by
 unfold kx ia
 have i1:decide ((s.size:Int)<1) = !decide (1≤s.size):=by rw [← decide_not];exact decide_eq_decide.2 (by omega)
 have i2:decide ((12:Int)<(s.size:Int)) = !decide (s.size≤12):=by rw [← decide_not];exact decide_eq_decide.2 (by omega)
 rw [i1,i2]
 cases h1:decide (1≤s.size)
 ·rfl
 cases h2:decide (s.size≤12)
 ·rfl
 simp only [Bool.not_true,Bool.or_self,bI,Bool.true_and]
 have key:∀ n pos N,s.size - pos=n→pos≤s.size→n<N→aV (j5 s) N pos=some ((s.data.toList.drop pos).all rA):=by
  intro n
  induction n with
  | zero =>
   intro pos N hn hp hN
   obtain ⟨N,rfl⟩:∃ M,N=M+1:=⟨N - 1,by omega⟩
   have:Nat.blt pos s.size=false:=by cases hb:Nat.blt pos s.size;rfl;simp [Nat.blt] at hb;omega
   rw [fM,j5,this]
   rw [List.drop_of_length_le (by rw [← sS];omega)];rfl
  | succ n ih =>
   intro pos N hn hp hN
   obtain ⟨N,rfl⟩:∃ M,N=M+1:=⟨N - 1,by omega⟩
   have hlt:pos<s.size:=by omega
   have hb:Nat.blt pos s.size=true:=by simp [Nat.blt];omega
   have hlt2:pos<s.data.toList.length:=by rw [← sS];exact hlt
   have hget:s[pos]=s.data.toList[pos]:=by
    rw [Array.getElem_toList];rfl
   rw [fM,j5,hb,List.drop_eq_getElem_cons hlt2,List.all_cons,← hget]
   by_cases ha:(s[pos]'hlt).toNat<128
   ·rw [decode_ascii s pos hlt ha]
    simp only [bZ,rA]
    by_cases h1:(s[pos]'hlt).toNat<97
    ·rw [show decide (((s[pos]'hlt).toNat:Int)<97)=true from det (by omega),show decide (97≤(s[pos]'hlt).toNat)=false from bQ (by omega)];rfl
    by_cases h2:122<(s[pos]'hlt).toNat
    ·rw [show decide ((122:Int)<((s[pos]'hlt).toNat:Int))=true from det (by omega),show decide ((s[pos]'hlt).toNat≤122)=false from bQ (by omega),Bool.or_true,Bool.and_false];rfl
    rw [bQ (by omega),bQ (by omega),det (Nat.not_lt.1 h1),det (Nat.not_lt.1 h2)]
    exact ih (pos+1) N (by omega) (by omega) (by omega)
   have hh:=decode_high s pos hlt (by omega)
   have h122:¬ (s[pos]'hlt).toNat≤122:=by omega
   have:decide (122<((Utf8.decode s pos).1:Int))=true:=det (by omega)
   simp [this,rA,h122]
 have:=key s.size 0 FUEL (by omega) (by omega) (kl (by omega))
 rw [this,List.drop_zero]
def kJ (lt:ByteArray→ByteArray→Bool):List ByteArray→Bool
 | []=>true
 | [_]=>true
 | a::b::l=>lt a b&&kJ lt (b::l)
def ns (p:ByteArray→Bool) (l:List ByteArray) (k:Nat) (x:ByteArray):Bool:=p x&&(!decide (0<k)||i9 (l.getD (k - 1) x) x)
theorem At (p:ByteArray→Bool) (l:List ByteArray):(∀ i x,l[i]?=some x→ns p l i x=true)↔(l.all p&&kJ i9 l)=true:=by
 have key:∀ (l:List ByteArray),(∀ i,(h:i+1<l.length)→i9 l[i] l[i+1]=true)↔kJ i9 l=true:=by
  intro l
  induction l with
  | nil=>simp [kJ]
  | cons a l ih =>
   cases l with
   | nil=>simp [kJ]
   | cons b l =>
    rw [kJ,Bool.and_eq_true,← ih]
    constructor
    ·intro h;exact ⟨h 0 (by simp),fun i hi=>h (i+1) (by simpa using hi)⟩
    rintro ⟨h1,h2⟩ i hi
    cases i with
    | zero=>exact h1
    | succ i=>exact h2 i (by simpa using hi)
 rw [Bool.and_eq_true,← key,List.all_eq_true]
 constructor
 ·intro h
  refine ⟨fun x hx=>?_,fun i hi=>?_⟩
  ·obtain ⟨i,hi,rfl⟩:=List.getElem_of_mem hx
   have:=h i _ (List.getElem?_eq_getElem hi)
   simp only [ns,Bool.and_eq_true] at this
   exact this.1
  have:=h (i+1) _ (List.getElem?_eq_getElem hi)
  simp only [ns,Bool.and_eq_true,Nat.zero_lt_succ,decide_true,Bool.not_true,Bool.false_or,Nat.add_sub_cancel] at this
  rw [fY (by omega)] at this
  exact this.2
 rintro ⟨h1,h2⟩ i x hx
 obtain ⟨hi,rfl⟩:=List.getElem?_eq_some_iff.1 hx
 simp only [ns,h1 _ (List.getElem_mem hi),Bool.true_and]
 by_cases h0:0<i
 ·rw [det h0,Bool.not_true,Bool.false_or,fY (by omega)]
  obtain ⟨j,rfl⟩:∃ j,i=j+1:=⟨i - 1,by omega⟩
  exact h2 j hi
 simp [h0]
theorem mG {T:Type} (p:ByteArray→Bool) (l:List ByteArray) (t:T):cE (fun k x=>cond (ns p l k x) none (some t)) l 0=cond (l.all p&&kJ i9 l) none (some t):=by
 have hn:=mS (g:=fun k x=>cond (ns p l k x) none (some t)) (l:=l) (k:=0)
 cases h:(l.all p&&kJ i9 l)
 ·cases hf:cE (fun k x=>cond (ns p l k x) none (some t)) l 0 with
  | none =>
   exfalso
   have:(l.all p&&kJ i9 l)=true:=by
    rw [← At]
    intro i x hx
    have:=hn.1 hf i x hx
    rw [Nat.zero_add] at this
    cases hk:ns p l i x
    ·rw [hk] at this;cases this
    rfl
   rw [h] at this;cases this
  | some u =>
   have:∀ (m:List ByteArray) (k:Nat) (u:T),cE (fun k x=>cond (ns p l k x) none (some t)) m k=some u→u=t:=by
    intro m
    induction m with
    | nil=>intro k u h;cases h
    | cons x m ih =>
     intro k u h
     rw [cE] at h
     cases hk:ns p l k x
     ·rw [hk] at h;injection h with h;exact h.symm
     rw [hk] at h;exact ih _ _ h
   rw [this _ _ _ hf];rfl
 rw [bZ,hn]
 intro i x hx
 rw [Nat.zero_add,(At p l).2 h i x hx];rfl
def kC (l:List ByteArray):Bool:=decide (l.length≤8)&&(l.all ia&&kJ i9 l)
def StrsOk (l:List ByteArray):Prop:=l.length≤140737488355328∧∀ s∈l,s.size≤140737488355328
theorem rB (l:List ByteArray) (hl:StrsOk l):dR l=some (kC l):=by
 obtain ⟨hl,hs⟩:=hl
 unfold dR kC
 have i2:decide ((8:Int)<(l.length:Int)) = !decide (l.length≤8):=by rw [← decide_not];exact decide_eq_decide.2 (by omega)
 rw [i2]
 cases decide (l.length≤8)
 ·rfl
 simp only [Bool.not_true,bI,Bool.true_and]
 refine (bE (l:=l) (by omega) (fun k x=>cond (ns ia l k x) none (some (.inr false))) (.inl ()) (fun k hk=>?_) (by simp only [cO,bI])).trans ?_
 ·have h62:l.length≤4611686018427387904:=by omega
  simp only [hZ hk,bZ,aQ hk,be,DL _ (hs _ (List.getElem_mem hk)),CJ,bU hk h62,ns]
  cases hw:ia l[k]
  ·rfl
  by_cases h0:0<k
  ·simp only [h0,decide_true,Bool.not_true,Bool.not_false,Bool.and_true,Bool.true_and,Bool.false_or,cH,gp h0 hk h62,be,fY (show k - 1<l.length by omega),i9,uo]
   cases Op.bytesLess (l[k-1]'(by omega)).toList l[k].toList <;> rfl
  simp only [h0,decide_false,Bool.and_false,ji,be,Bool.not_true,Bool.false_or,Bool.false_and,bI,Bool.not_false,Bool.true_and,Bool.true_or,Bool.or_false];rfl
 rw [mG]
 cases (l.all ia&&kJ i9 l) <;> rfl
mutual
def us:Ze→Nat
 | ⟨_,_,_,_,_,_,l⟩=>1+Au l
def Au:List Ze→Nat
 | []=>0
 | a::l=>max (us a) (Au l)
end
mutual
def qN:Ze→Nat
 | ⟨_,_,_,_,_,_,l⟩=>1+nM l
def nM:List Ze→Nat
 | []=>0
 | a::l=>qN a+nM l
end
theorem lU (r:Ze):us r=1+Au r.Args:=by cases r;rw [us]
theorem qd (r:Ze):qN r=1+nM r.Args:=by cases r;rw [qN]
theorem CN:∀ {l:List Ze} {a:Ze},a∈l→us a≤Au l
 | b::l,a,h=>by
  rw [Au]
  rcases List.mem_cons.1 h with rfl | h
  ·omega
  have:=CN h;omega
theorem kD {r a:Ze} (h:a∈r.Args):us a<us r:=by rw [lU r];have:=CN h;omega
mutual
theorem r7:∀ r:Ze,us r≤qN r
 | ⟨_,_,_,_,_,_,l⟩=>by rw [us,qN];have:=xu l;omega
theorem xu:∀ l:List Ze,Au l≤nM l
 | []=>by rw [Au,nM];exact Nat.le_refl _
 | a::l=>by rw [Au,nM];have h1:=r7 a;have h2:=xu l;omega
end
inductive ROk:Ze→Prop
 | mk (r:Ze) (h1:StrsOk r.Except) (h2:r.Name.size≤140737488355328) (h3:r.Args.length≤140737488355328) (h4:∀ a∈r.Args,ROk a):ROk r
theorem ROk.ex {r:Ze} (h:ROk r):StrsOk r.Except:=by cases h;assumption
theorem ROk.nm {r:Ze} (h:ROk r):r.Name.size≤140737488355328:=by cases h;assumption
theorem ROk.len {r:Ze} (h:ROk r):r.Args.length≤140737488355328:=by cases h;assumption
theorem ROk.arg {r:Ze} (h:ROk r) {a:Ze} (ha:a∈r.Args):ROk a:=by cases h with | mk _ _ _ _ h4=>exact h4 a ha
theorem nodes_F (n:Nat):∀ (r:Ze) (lim:Nat),ROk r→us r≤n→1≤lim→lim≤1000→mt n r (lim:Int)=some ((min (qN r) lim:Nat):Int):=by
 induction n with
 | zero=>intro r lim _ hd;rw [lU] at hd;omega
 | succ n ih =>
  intro r lim hr hd h1 h2
  have hl:=hr.len
  show ko (mt n) r (lim:Int)=_
  unfold ko
  refine (km (l:=r.Args) (by omega) (fun i (a:Nat)=>((a:Int),i)) (fun _ x a=>cond (Nat.ble lim a) (.inr ()) (.inl (min (a+qN x) lim))) (fun (a:Nat)=>.inl (a:Int)) (fun (_:Unit)=>.inr (lim:Int)) (fun _ a=>a≤lim) 1 h1 (fun k hk a ha=>⟨?_,fun a' h=>?_⟩) (fun a ha=>?_)).trans ?_
  ·simp only [hZ hk,bZ,aQ hk,be]
   cases hb:Nat.ble lim a
   ·have hlt:a<lim:=by rcases Nat.lt_or_ge a lim with h | h;exact h;rw [Nat.ble_eq_true_of_le h] at hb;cases hb
    rw [show decide ((lim:Int)≤(a:Int))=false from bQ (by omega),cM (by omega) (by omega),show (lim:Int) - (a:Int)=((lim - a:Nat):Int) by omega,
     ih _ (lim - a) (hr.arg (List.getElem_mem hk)) (by have:=kD (List.getElem_mem hk);omega) (by omega) (by omega)]
    simp only [bI,be,bU hk (show r.Args.length≤4611686018427387904 by omega),Ak]
    rw [cM (by omega) (by omega),show (a:Int)+((min (qN r.Args[k]) (lim - a):Nat):Int)=((min (a+qN r.Args[k]) lim:Nat):Int) by omega]
   have hle:=Nat.le_of_ble_eq_true hb
   rw [show decide ((lim:Int)≤(a:Int))=true from det (by omega)];rfl
  ·cases hb:Nat.ble lim a
   ·rw [hb] at h;injection h with h;omega
   rw [hb] at h;cases h
  ·simp only [cO,bI]
  have key:∀ (l:List Ze) (i a:Nat),a≤lim→wC (fun (a:Nat)=>(a:Int)) (fun (_:Unit)=>(lim:Int)) (run (fun _ x a=>cond (Nat.ble lim a) (.inr ()) (.inl (min (a+qN x) lim))) l i a)=((min (a+nM l) lim:Nat):Int):=by
   intro l
   induction l with
   | nil=>intro i a ha;rw [nM];show (a:Int)=_;omega
   | cons x l ihl =>
    intro i a ha
    rw [jj,nM]
    cases hb:Nat.ble lim a
    ·exact (ihl _ _ (by omega)).trans (by omega)
    have hle:=Nat.le_of_ble_eq_true hb
    show (lim:Int)=_;omega
  have k2:∀ (o:Nat⊕Unit),(match (wC (fun (a:Nat)=>.inl (a:Int)) (fun (_:Unit)=>.inr (lim:Int)) o:Int⊕Int) with | .inl v4=>some v4 | .inr e=>some e)=some (wC (fun (a:Nat)=>(a:Int)) (fun (_:Unit)=>(lim:Int)) o):=fun o=>by cases o <;> rfl
  rw [qd]
  exact (k2 _).trans (congrArg some (key _ _ _ h1))
theorem BI (n:Nat):∀ (r:Ze),ROk r→us r≤n→lp n r=some ((min (qN r) 33:Nat):Int):=by
 induction n with
 | zero=>intro r _ hd;rw [lU] at hd;omega
 | succ n ih =>
  intro r hr hd
  have hl:=hr.len
  show jo (lp n) r=_
  unfold jo
  refine (km (l:=r.Args) (by omega) (fun i (a:Nat)=>((a:Int),i)) (fun _ x a=>cond (Nat.ble a 32) (.inl (a+min (qN x) 33)) (.inr a)) (fun a=>(a:Int)) (fun (a:Nat)=>(a:Int)) (fun _ a=>a≤1000) 1 (by omega) (fun k hk a ha=>⟨?_,fun a' h=>?_⟩) (fun a ha=>?_)).trans ?_
  ·simp only [hZ hk,Bool.true_and,aQ hk,be]
   cases hb:Nat.ble a 32
   ·have hlt:32<a:=by rcases Nat.lt_or_ge 32 a with h | h;exact h;rw [Nat.ble_eq_true_of_le h] at hb;cases hb
    rw [show decide ((a:Int)≤32)=false from bQ (by omega)];rfl
   have hle:=Nat.le_of_ble_eq_true hb
   rw [show decide ((a:Int)≤32)=true from det (by omega),ih _ (hr.arg (List.getElem_mem hk)) (by have:=kD (List.getElem_mem hk);omega)]
   simp only [bZ,be,bU hk (show r.Args.length≤4611686018427387904 by omega),Ak]
   rw [cM (by omega) (by omega),show (a:Int)+((min (qN r.Args[k]) 33:Nat):Int)=((a+min (qN r.Args[k]) 33:Nat):Int) by omega]
  ·cases hb:Nat.ble a 32
   ·rw [hb] at h;cases h
   have hle:=Nat.le_of_ble_eq_true hb
   rw [hb] at h;injection h with h;omega
  ·simp only [cO,Bool.false_and,bI]
  have key:∀ (l:List Ze) (i a:Nat),∃ q:Nat,wC (fun (a:Nat)=>(a:Int)) (fun (a:Nat)=>(a:Int)) (run (fun _ x a=>cond (Nat.ble a 32) (.inl (a+min (qN x) 33)) (.inr a)) l i a)=(q:Int)∧min q 33=min (a+nM l) 33:=by
   intro l
   induction l with
   | nil=>intro i a;exact ⟨a,rfl,by rw [nM];omega⟩
   | cons x l ihl =>
    intro i a
    rw [jj,nM]
    cases hb:Nat.ble a 32
    ·have hlt:32<a:=by rcases Nat.lt_or_ge 32 a with h | h;exact h;rw [Nat.ble_eq_true_of_le h] at hb;cases hb
     exact ⟨a,rfl,by omega⟩
    obtain ⟨q,h1,h2⟩:=ihl (i+1) (a+min (qN x) 33)
    exact ⟨q,h1,by omega⟩
  obtain ⟨q,h1,h2⟩:=key r.Args 0 1
  rw [qd,← h2,h1]
  congr 1;unfold pu;split <;> omega
def CO (s:ByteArray):Bool := !(dQ s == 0)
def lh (l:List ByteArray):Bool:=decide (l.length≤6)&&(l.all CO&&kJ i9 l)
def FL (n:Int):Bool:=decide (0≤n)&&decide (n≤1000000)
def kE (r:Ze):Bool:=(r.Kind == 2||(r.Digits == 0&&r.Except.isEmpty&&r.Tolerance == 0))&&(r.Kind == 3||r.Limit == 0)&&(r.Kind == 4||decide (r.Name=⟨#[]⟩))&&(r.Kind == 5||r.Kind == 6||r.Args.isEmpty)
def j7 (r:Ze):Bool:=cond (r.Kind == 1) true (cond (r.Kind == 2) ((r.Digits == 2||r.Digits == 4||r.Digits == 6)&&lh r.Except&&FL r.Tolerance) (cond (r.Kind == 3) (FL r.Limit) (cond (r.Kind == 4) (ia r.Name) false)))
mutual
def em:Ze→Bool
 | ⟨k,d,e,t,m,n,l⟩=>kE ⟨k,d,e,t,m,n,l⟩&&cond (k == 5||k == 6) (decide (2≤l.length)&&decide (l.length≤6)&&oY k l) (j7 ⟨k,d,e,t,m,n,l⟩)
def oY (k:Int):List Ze→Bool
 | []=>true
 | a::l=>(!(a.Kind == k)&&em a)&&oY k l
end
theorem vO (k:Int):∀ l:List Ze,oY k l=l.all fun a => !(a.Kind == k)&&em a
 | []=>by rw [oY];rfl
 | a::l=>by rw [oY,vO k l];rfl
theorem hQ (r:Ze):em r=(kE r&&cond (r.Kind == 5||r.Kind == 6) (decide (2≤r.Args.length)&&decide (r.Args.length≤6)&&r.Args.all fun a => !(a.Kind == r.Kind)&&em a) (j7 r)):=by
 cases r;rw [em,vO]
theorem len0 {α:Type} (l:List α):((l.length:Int) == 0)=l.isEmpty:=by cases l <;> rfl
theorem len0' {α:Type} (l:List α):decide (0<(l.length:Int)) = !l.isEmpty:=by cases l with
 | nil=>rfl
 | cons a l=>exact det (by rw [List.length_cons];omega)
theorem BJ (r:Ze):mV r=some (kE r):=by
 unfold mV kE
 rw [len0,len0']
 simp only [bne]
 cases (r.Kind == 2) <;> cases (r.Digits == 0) <;> cases r.Except.isEmpty <;> cases (r.Tolerance == 0) <;> cases (r.Kind == 3) <;> cases (r.Limit == 0) <;> cases (r.Kind == 4) <;> cases decide (r.Name=⟨#[]⟩) <;> rfl
theorem DM (r:Ze):lD r=some (kE r):=by
 unfold lD kE
 rw [len0,len0']
 simp only [bne]
 cases (r.Kind == 2) <;> cases (r.Digits == 0) <;> cases r.Except.isEmpty <;> cases (r.Tolerance == 0) <;> cases (r.Kind == 3) <;> cases (r.Limit == 0) <;> cases (r.Kind == 4) <;> cases decide (r.Name=⟨#[]⟩) <;> rfl
theorem BK (l:List ByteArray) (hl:StrsOk l):iB l=some (lh l):=by
 obtain ⟨hl,hs⟩:=hl
 unfold iB lh
 have i2:decide ((6:Int)<(l.length:Int)) = !decide (l.length≤6):=by rw [← decide_not];exact decide_eq_decide.2 (by omega)
 rw [i2]
 cases decide (l.length≤6)
 ·rfl
 simp only [Bool.not_true,bI,Bool.true_and]
 refine (bE (l:=l) (by omega) (fun k x=>cond (ns CO l k x) none (some (.inr false))) (.inl ()) (fun k hk=>?_) (by simp only [cO,bI])).trans ?_
 ·have h62:l.length≤4611686018427387904:=by omega
  simp only [hZ hk,bZ,aQ hk,be,show ∀ s,dN s=some (dQ s) from fun _=>rfl,CJ,bU hk h62,ns,CO]
  cases hw:(dQ l[k] == 0)
  ·by_cases h0:0<k
   ·simp only [h0,decide_true,Bool.not_true,Bool.not_false,Bool.and_true,Bool.true_and,Bool.false_or,cH,gp h0 hk h62,be,fY (show k - 1<l.length by omega),i9,uo]
    cases Op.bytesLess (l[k-1]'(by omega)).toList l[k].toList <;> rfl
   simp only [h0,decide_false,Bool.and_false,ji,be,Bool.not_true,Bool.false_or,Bool.false_and,bI,Bool.not_false,Bool.true_and,Bool.true_or,Bool.or_false];rfl
  rfl
 rw [mG]
 cases (l.all CO&&kJ i9 l) <;> rfl
theorem DN (l:List ByteArray) (hl:StrsOk l) {β:Type} (k:Unit⊕Bool→Option β):Option.bind (aV (S:=Int) (T:=(Unit)⊕(_)) (fun v6=>cond (decide (v6<(l.length:Int))) (Option.bind (idx l v6) (fun m10=>Option.bind (gx m10) (fun x11=>Option.bind (gd ((!(x11 == 0))&&(decide (0<v6))) (idx l (IntKind.i64.wrap (v6 - 1)))) (fun m12=>Option.bind (gd ((!(x11 == 0))&&(decide (0<v6))) (idx l v6)) (fun m13=>cond ((x11 == 0)||((decide (0<v6))&&(!Op.bytesLess m12.toList m13.toList))) (some (.inr (.inr false))) (some (.inl (IntKind.i64.wrap (v6+1))))))))) (some (.inr (.inl ())))) FUEL 0) k=k (cond (l.all CO&&kJ i9 l) (.inl ()) (.inr false)):=by
 obtain ⟨hl,hs⟩:=hl
 refine (bE (l:=l) (by omega) (fun k x=>cond (ns CO l k x) none (some (.inr false))) (.inl ()) (fun k hk=>?_) (by simp only [cO,bI])).trans ?_
 ·have h62:l.length≤4611686018427387904:=by omega
  simp only [hZ hk,bZ,aQ hk,be,sR _ (hs _ (List.getElem_mem hk)),CJ,bU hk h62,ns,CO]
  cases hw:(dQ l[k] == 0)
  ·by_cases h0:0<k
   ·simp only [h0,decide_true,Bool.not_true,Bool.not_false,Bool.and_true,Bool.true_and,Bool.false_or,cH,gp h0 hk h62,be,fY (show k - 1<l.length by omega),i9]
    cases Op.bytesLess (l[k-1]'(by omega)).toList l[k].toList <;> rfl
   simp only [h0,decide_false,Bool.and_false,ji,be,Bool.not_true,Bool.false_or,Bool.false_and,bI,Bool.not_false,Bool.true_and,Bool.true_or,Bool.or_false];rfl
  rfl
 rw [mG]
 cases (l.all CO&&kJ i9 l) <;> rfl
theorem FM (s:ByteArray) (hs:s.size≤140737488355328):dR [s]=some (ia s):=by
 rw [rB [s] ⟨by simp,by simpa using hs⟩]
 simp [kC,kJ]
theorem valid_F (n:Nat):∀ (r:Ze),ROk r→us r≤n→mB n r=some (em r):=by
 induction n with
 | zero=>intro r _ hd;rw [lU] at hd;omega
 | succ n ih =>
  intro r hr hd
  have hl:=hr.len
  show ky (mB n) r=_
  unfold ky
  rw [BJ,hQ,be]
  cases kE r
  ·rfl
  simp only [Bool.not_true,bI,Bool.true_and]
  cases e1:(r.Kind == 1)
  rotate_left
  ·have:=eq_of_beq e1
   simp only [j7,e1,this];rfl
  cases e2:(r.Kind == 2)
  rotate_left
  ·have:=eq_of_beq e2
   simp only [j7,e1,e2,this,bZ,bI]
   rw [BK _ hr.ex]
   show _=some (_&&lh r.Except&&FL r.Tolerance)
   cases (r.Digits == 2||r.Digits == 4||r.Digits == 6)
   ·rfl
   simp only [cH,Bool.true_and,be]
   cases lh r.Except <;> rfl
  cases e3:(r.Kind == 3)
  rotate_left
  ·have:=eq_of_beq e3
   simp only [j7,e1,e2,e3,this,bZ,bI];rfl
  cases e4:(r.Kind == 4)
  rotate_left
  ·have:=eq_of_beq e4
   simp only [j7,e1,e2,e3,e4,this,bZ,bI]
   rw [FM _ hr.nm];rfl
  simp only [j7,e1,e2,e3,e4,bI]
  have e56:(cond (r.Kind == 5) (some (r.Kind == 5)) (some (r.Kind == 6)):Option Bool)=some (r.Kind == 5||r.Kind == 6):=by cases (r.Kind == 5) <;> rfl
  rw [e56,be]
  cases (r.Kind == 5||r.Kind == 6)
  ·rfl
  simp only [bZ]
  have i1:decide ((r.Args.length:Int)<2) = !decide (2≤r.Args.length):=by rw [← decide_not];exact decide_eq_decide.2 (by omega)
  have i2:decide ((6:Int)<(r.Args.length:Int)) = !decide (r.Args.length≤6):=by rw [← decide_not];exact decide_eq_decide.2 (by omega)
  rw [i1,i2]
  cases decide (2≤r.Args.length)
  ·rfl
  cases decide (r.Args.length≤6)
  ·rfl
  simp only [Bool.not_true,Bool.or_self,bI,Bool.true_and]
  refine (bE (l:=r.Args) (by omega) (fun _ a=>cond (!(a.Kind == r.Kind)&&em a) none (some (.inr false))) (.inl ()) (fun k hk=>?_) (by simp only [cO,bI])).trans ?_
  ·simp only [hZ hk,bZ,aQ hk,be,bU hk (show r.Args.length≤4611686018427387904 by omega)]
   have h2:=ih _ (hr.arg (List.getElem_mem hk)) (by have:=kD (List.getElem_mem hk);omega)
   cases (r.Args[k].Kind == r.Kind)
   ·simp only [Bool.not_false,cH,h2,be,Bool.true_and,Bool.false_or]
    cases em r.Args[k] <;> rfl
   rfl
  rw [qz]
  cases (r.Args.all fun a => !(a.Kind == r.Kind)&&em a) <;> rfl
theorem right_F (n:Nat):∀ (r:Ze),ROk r→us r≤n→lq n r=some (em r):=by
 induction n with
 | zero=>intro r _ hd;rw [lU] at hd;omega
 | succ n ih =>
  intro r hr hd
  have hl:=hr.len
  show jq (lq n) r=_
  unfold jq
  rw [DM,hQ,be]
  cases kE r
  ·rfl
  simp only [Bool.not_true,bI,Bool.true_and]
  cases e1:(r.Kind == 1)
  rotate_left
  ·have:=eq_of_beq e1
   simp only [j7,e1,this];rfl
  cases e2:(r.Kind == 2)
  rotate_left
  ·have:=eq_of_beq e2
   simp only [j7,e1,e2,this,bZ,bI]
   rw [DN _ hr.ex]
   show _=some (_&&lh r.Except&&FL r.Tolerance)
   unfold lh FL
   have i2:decide ((r.Except.length:Int)≤6)=decide (r.Except.length≤6):=decide_eq_decide.2 (by omega)
   rw [i2]
   cases (r.Except.all CO&&kJ i9 r.Except)
   ·cases (r.Digits == 2||r.Digits == 4||r.Digits == 6) <;> cases decide (r.Except.length≤6) <;> rfl
   cases (r.Digits == 2||r.Digits == 4||r.Digits == 6) <;> cases decide (r.Except.length≤6) <;> rfl
  cases e3:(r.Kind == 3)
  rotate_left
  ·have:=eq_of_beq e3
   simp only [j7,e1,e2,e3,this,bZ,bI];rfl
  cases e4:(r.Kind == 4)
  rotate_left
  ·have:=eq_of_beq e4
   simp only [j7,e1,e2,e3,e4,this,bZ,bI]
   rw [As _ hr.nm];rfl
  simp only [j7,e1,e2,e3,e4,bI]
  have e56:(cond (r.Kind == 5) (some (r.Kind == 5)) (some (r.Kind == 6)):Option Bool)=some (r.Kind == 5||r.Kind == 6):=by cases (r.Kind == 5) <;> rfl
  rw [e56,be]
  cases (r.Kind == 5||r.Kind == 6)
  ·rfl
  simp only [bZ]
  have i1:decide ((2:Int)≤(r.Args.length:Int))=decide (2≤r.Args.length):=decide_eq_decide.2 (by omega)
  have i2:decide ((r.Args.length:Int)≤(6:Int))=decide (r.Args.length≤6):=decide_eq_decide.2 (by omega)
  rw [i1,i2]
  refine (bE (l:=r.Args) (by omega) (fun _ a=>cond (!(a.Kind == r.Kind)&&em a) none (some (.inr false))) (.inl ()) (fun k hk=>?_) (by simp only [cO,bI])).trans ?_
  ·simp only [hZ hk,bZ,aQ hk,be,bU hk (show r.Args.length≤4611686018427387904 by omega)]
   have h2:=ih _ (hr.arg (List.getElem_mem hk)) (by have:=kD (List.getElem_mem hk);omega)
   cases (r.Args[k].Kind == r.Kind)
   ·simp only [Bool.not_false,cH,h2,be,Bool.true_and,Bool.false_or]
    cases em r.Args[k] <;> rfl
   rfl
  rw [qz]
  cases (r.Args.all fun a => !(a.Kind == r.Kind)&&em a)
  ·simp
  simp
def ma (r:Ze):Int:=cond (decide (qN r≤32)) (cond (em r) 0 1) 8
theorem qB (r:Ze) (hr:ROk r) (hd:us r≤1000):fF r=some (ma r):=by
 unfold fF rj ry ma
 have hf:FUEL=1267650600228229401496703205376:=rfl
 have h1:=nodes_F FUEL r 33 hr (by rw [hf];omega) (by omega) (by omega)
 rw [show ((33:Nat):Int)=33 from rfl] at h1
 rw [h1,be,valid_F FUEL r hr (by rw [hf];omega)]
 by_cases h:qN r≤32
 ·rw [bQ (by omega),det h]
  cases em r <;> rfl
 rw [det (by omega),bQ h];rfl
theorem FN (r:Ze) (hr:ROk r) (hd:us r≤1000):kZ r=some (ma r):=by
 unfold kZ pV pW ma
 have hf:FUEL=1267650600228229401496703205376:=rfl
 rw [BI FUEL r hr (by rw [hf];omega),be,right_F FUEL r hr (by rw [hf];omega)]
 by_cases h:qN r≤32
 ·rw [bQ (by omega),det h]
  cases em r <;> rfl
 rw [det (by omega),bQ h];rfl
theorem ni (r:Ze):ma r=0↔qN r≤32∧em r=true:=by
 unfold ma
 by_cases h:qN r≤32
 ·rw [det h];cases em r <;> simp [h]
 rw [bQ h];simp [h]
structure RFOk (x:Zi):Prop where
 pre:x.Prefix.size≤140737488355328
 rule:ROk x.Rule
 deep:us x.Rule≤1000
structure AOk (a:Zb):Prop where
 par:StrsOk a.Parties
 len:a.Rules.length≤140737488355328
 rules:∀ x∈a.Rules,RFOk x
structure ASOk (l:List Zb):Prop where
 len:l.length≤140737488355328
 all:∀ a∈l,AOk a
def kF (l:List ByteArray):Bool:=l.all qM&&kJ i9 l
def ol (l:List Zi) (k:Nat) (x:Zi):Option Int:=cond (CO x.Prefix) (cond (decide (0<k) && !i9 (l.getD (k - 1) x).Prefix x.Prefix) (some 9) (cond (ma x.Rule == 0) none (some (ma x.Rule)))) (some 1)
def rulesE (l:List Zi):Int:=(cE (ol l) l 0).getD 0
def yO (l:List Zb) (k:Nat) (a:Zb):Option Int :=
 cond (decide (a.ID<1)||decide (1000<a.ID)||decide (a.Kind<1)||decide (3<a.Kind)) (some 2) (cond (decide (0<k)&&decide (a.ID≤(l.getD (k - 1) a).ID)) (some 9) (cond (decide (12<a.Parties.length)||decide (12<a.Rules.length)) (some 8)
  (cond (kF a.Parties) (cond (rulesE a.Rules == 0) none (some (rulesE a.Rules))) (some 1))))
def DO (l:List Zb):Int:=cond (decide (l.length≤8)) ((cE (yO l) l 0).getD 0) 8
theorem yP (l:List ByteArray) (hl:StrsOk l):dP l=some (kF l):=by
 obtain ⟨hl,hs⟩:=hl
 unfold dP kF
 refine (bE (l:=l) (by omega) (fun k x=>cond (ns qM l k x) none (some (.inr false))) (.inl ()) (fun k hk=>?_) (by simp only [cO,bI])).trans ?_
 ·have h62:l.length≤4611686018427387904:=by omega
  simp only [hZ hk,bZ,aQ hk,be,nL,CJ,bU hk h62,ns]
  cases hw:qM l[k]
  ·rfl
  by_cases h0:0<k
  ·simp only [h0,decide_true,Bool.not_true,Bool.not_false,Bool.and_true,Bool.true_and,Bool.false_or,cH,gp h0 hk h62,be,fY (show k - 1<l.length by omega),i9,uo]
   cases Op.bytesLess (l[k-1]'(by omega)).toList l[k].toList <;> rfl
  simp only [h0,decide_false,Bool.and_false,ji,be,Bool.not_true,Bool.false_or,Bool.false_and,bI,Bool.not_false,Bool.true_and,Bool.true_or,Bool.or_false];rfl
 rw [mG]
 cases (l.all qM&&kJ i9 l) <;> rfl
theorem Av (l:List Zi) (hl:l.length≤140737488355328) (hr:∀ x∈l,RFOk x):dG l=some (rulesE l):=by
 unfold dG rulesE
 have h62:l.length≤4611686018427387904:=by omega
 refine (bE (l:=l) h62 (fun k x=>(ol l k x).map .inr) (.inl ()) (fun k hk=>?_) (by simp only [cO,bI])).trans ?_
 ·simp only [hZ hk,bZ,aQ hk,be,show ∀ s,dN s=some (dQ s) from fun _=>rfl,CJ,bU hk h62,ol,CO]
  cases hw:(dQ l[k].Prefix == 0)
  ·have h2:=qB _ (hr _ (List.getElem_mem hk)).rule (hr _ (List.getElem_mem hk)).deep
   by_cases h0:0<k
   ·simp only [h0,decide_true,Bool.true_and,cH,gp h0 hk h62,be,fY (show k - 1<l.length by omega),i9,uo,Bool.not_false,bZ,bI]
    cases Op.bytesLess (l[k-1]'(by omega)).Prefix.toList l[k].Prefix.toList
    ·rfl
    simp only [Bool.not_true,bI]
    rw [h2]
    simp only [bne]
    cases hz:(ma l[k].Rule == 0) <;> simp [hz,wD]
   simp only [h0,decide_false,Bool.false_and,ji,be,bI,Bool.not_false,bZ]
   rw [h2]
   simp only [bne]
   cases hz:(ma l[k].Rule == 0) <;> simp [hz,wD]
  rfl
 have key:∀ (g:Nat→Zi→Option Int) (m:List Zi) (i:Nat),cE (fun k x=>(g k x).map (Sum.inr:Int→Unit⊕Int)) m i=(cE g m i).map Sum.inr:=by
  intro g m
  induction m with
  | nil=>intro i;rfl
  | cons x m ih=>intro i;rw [cE,cE];cases g i x with | none=>exact ih _ | some t=>rfl
 rw [key]
 cases cE (ol l) l 0 <;> rfl
theorem qC {α T U:Type} (f:T→U) (g:Nat→α→Option T):∀ (m:List α) (i:Nat),cE (fun k x=>(g k x).map f) m i=(cE g m i).map f
 | [],_=>rfl
 | x::m,i=>by rw [cE,cE];cases g i x with | none=>exact qC f g m _ | some t=>rfl
theorem FO (l:List Zb) (hl:ASOk l):ey l=some (DO l):=by
 unfold ey DO
 have h62:l.length≤4611686018427387904:=by have:=hl.len;omega
 have i1:decide ((8:Int)<(l.length:Int)) = !decide (l.length≤8):=by rw [← decide_not];exact decide_eq_decide.2 (by omega)
 rw [i1]
 cases decide (l.length≤8)
 ·rfl
 simp only [Bool.not_true,bI,bZ]
 refine (bE (l:=l) h62 (fun k x=>(yO l k x).map .inr) (.inl ()) (fun k hk=>?_) (by simp only [cO,bI])).trans ?_
 ·have ha:=hl.all _ (List.getElem_mem hk)
  simp only [hZ hk,bZ,aQ hk,be,CJ,bU hk h62,yO]
  have j1:decide ((12:Int)<(l[k].Parties.length:Int))=decide (12<l[k].Parties.length):=decide_eq_decide.2 (by omega)
  have j2:decide ((12:Int)<(l[k].Rules.length:Int))=decide (12<l[k].Rules.length):=decide_eq_decide.2 (by omega)
  rw [yP _ ha.par,Av _ ha.len ha.rules,j1,j2]
  cases (decide (l[k].ID<1)||decide (1000<l[k].ID)||decide (l[k].Kind<1)||decide (3<l[k].Kind))
  ·by_cases h0:0<k
   ·simp only [h0,decide_true,Bool.true_and,cH,gp h0 hk h62,be,fY (show k - 1<l.length by omega),bI]
    cases decide (l[k].ID≤(l[k-1]'(by omega)).ID)
    ·cases (decide (12<l[k].Parties.length)||decide (12<l[k].Rules.length))
     ·cases kF l[k].Parties
      ·rfl
      simp only [bI,bZ,Bool.not_true,bne]
      cases hz:(rulesE l[k].Rules == 0) <;> simp [hz,wD]
     rfl
    rfl
   simp only [h0,decide_false,Bool.false_and,ji,be,bI]
   cases (decide (12<l[k].Parties.length)||decide (12<l[k].Rules.length))
   ·cases kF l[k].Parties
    ·rfl
    simp only [bI,bZ,Bool.not_true,bne]
    cases hz:(rulesE l[k].Rules == 0) <;> simp [hz,wD]
   rfl
  rfl
 rw [qC]
 cases cE (yO l) l 0 <;> rfl
theorem ref_agr (l:List Zb) (hl:ASOk l):fJ l=some (DO l):=by
  unfold fJ DO
  have h62:l.length≤4611686018427387904:=by have:=hl.len;omega
  have i1:decide ((8:Int)<(l.length:Int)) = !decide (l.length≤8):=by rw [← decide_not];exact decide_eq_decide.2 (by omega)
  rw [i1]
  cases decide (l.length≤8)
  · rfl
  simp only [Bool.not_true,bI,bZ]
  refine (bE (l:=l) h62 (fun k x=>(yO l k x).map .inr) (.inl ()) (fun k hk=>?_) (by simp only [cO,bI])).trans ?_
  · have ha:=hl.all _ (List.getElem_mem hk)
    simp only [hZ hk,bZ,aQ hk,be,CJ,bU hk h62,yO]
    have j1:decide ((12:Int)<(l[k].Parties.length:Int))=decide (12<l[k].Parties.length):=decide_eq_decide.2 (by omega)
    have j2:decide ((12:Int)<(l[k].Rules.length:Int))=decide (12<l[k].Rules.length):=decide_eq_decide.2 (by omega)
    rw [j1,j2]
    have tail:(Option.bind (aV (S:=Int) (T:=(Unit)⊕(Int⊕(Unit⊕Int))) (fun v12=>cond (decide (v12<(l[k].Parties.length:Int))) (Option.bind (idx l[k].Parties v12) (fun m16=>Option.bind (eX m16) (fun x17=>Option.bind (gd ((!(!x17))&&(decide (0<v12))) (idx l[k].Parties (IntKind.i64.wrap (v12 - 1)))) (fun m18=>Option.bind (gd ((!(!x17))&&(decide (0<v12))) (idx l[k].Parties v12)) (fun m19=>cond ((!x17)||((decide (0<v12))&&(!Op.bytesLess m18.toList m19.toList))) (some (.inr (.inr (.inr (.inr 1))))) (some (.inl (IntKind.i64.wrap (v12+1))))))))) (some (.inr (.inl ())))) FUEL 0)
        (fun q=>match q with
          | .inl _=>Option.bind (aV (S:=Int) (T:=(Unit)⊕(Int⊕(Unit⊕Int))) (fun v21=>cond (decide (v21<(l[k].Rules.length:Int))) (Option.bind (idx l[k].Rules v21) (fun m25=>Option.bind (gx m25.Prefix) (fun x26=>cond (x26 == 0) (some (.inr (.inr (.inr (.inr 1))))) (Option.bind (gd (decide (0<v21)) (idx l[k].Rules (IntKind.i64.wrap (v21 - 1)))) (fun m28=>Option.bind (gd (decide (0<v21)) (idx l[k].Rules v21)) (fun m29=>cond ((decide (0<v21))&&(!Op.bytesLess m28.Prefix.toList m29.Prefix.toList)) (some (.inr (.inr (.inr (.inr 9))))) (Option.bind (idx l[k].Rules v21) (fun m31=>Option.bind (kZ m31.Rule) (fun x32=>cond (x32 != 0) (some (.inr (.inr (.inr (.inr x32))))) (some (.inl (IntKind.i64.wrap (v21+1))))))))))))) (some (.inr (.inl ())))) FUEL 0) (fun q=>match q with | .inl _=>some (.inl ((k+1:Nat):Int)) | .inr e=>some e)
          | .inr e=>some e):Option (Int⊕(Unit⊕Int)))=some (wD k ((cond (kF l[k].Parties) (cond (rulesE l[k].Rules == 0) none (some (rulesE l[k].Rules))) (some 1)).map .inr)):=by
      obtain ⟨hp,hps⟩:=ha.par
      have hq:=ha.len;have hqr:=ha.rules
      generalize l[k].Parties=P at hp hps
      generalize l[k].Rules=R at hq hqr
      have hP:P.length≤4611686018427387904:=by omega
      have hR:R.length≤4611686018427387904:=by omega
      refine (bE (l:=P) hP (fun k x=>cond (ns qM P k x) none (some (.inr (.inr (.inr 1))))) (.inl ()) (fun k hk=>?_) (by simp only [cO,bI])).trans ?_
      · simp only [hZ hk,bZ,aQ hk,be,qc,CJ,bU hk hP,ns]
        cases hw:qM P[k]
        · rfl
        by_cases h0:0<k
        · simp only [h0,decide_true,Bool.not_true,Bool.not_false,Bool.and_true,Bool.true_and,Bool.false_or,cH,gp h0 hk hP,be,fY (show k - 1<P.length by omega),i9]
          cases Op.bytesLess (P[k-1]'(by omega)).toList P[k].toList <;> rfl
        simp only [h0,decide_false,Bool.and_false,ji,be,Bool.not_true,Bool.false_or,Bool.false_and,bI,Bool.not_false,Bool.true_and,Bool.true_or,Bool.or_false];rfl
      rw [mG]
      unfold kF
      cases (P.all qM&&kJ i9 P)
      · rfl
      simp only [bZ,Option.getD_none]
      refine (bE (l:=R) hR (fun k x=>(ol R k x).map fun e=>.inr (.inr (.inr e))) (.inl ()) (fun k hk=>?_) (by simp only [cO,bI])).trans ?_
      · simp only [hZ hk,bZ,aQ hk,be,sR _ (hqr _ (List.getElem_mem hk)).pre,CJ,bU hk hR,ol,CO]
        cases hw:(dQ R[k].Prefix == 0)
        · have h2:=FN _ (hqr _ (List.getElem_mem hk)).rule (hqr _ (List.getElem_mem hk)).deep
          by_cases h0:0<k
          · simp only [h0,decide_true,Bool.true_and,cH,gp h0 hk hR,be,fY (show k - 1<R.length by omega),i9,Bool.not_false,bZ,bI]
            cases Op.bytesLess (R[k-1]'(by omega)).Prefix.toList R[k].Prefix.toList
            · rfl
            simp only [Bool.not_true,bI]
            rw [h2]
            simp only [bne]
            cases hz:(ma R[k].Rule == 0) <;> simp [hz,wD]
          simp only [h0,decide_false,Bool.false_and,ji,be,bI,Bool.not_false,bZ]
          rw [h2]
          simp only [bne]
          cases hz:(ma R[k].Rule == 0) <;> simp [hz,wD]
        rfl
      rw [qC]
      unfold rulesE
      have hne:∀ e,cE (ol R) R 0=some e→(e == 0)=false:=by
        have:∀ (m:List Zi) (i:Nat) (e:Int),cE (ol R) m i=some e→(e == 0)=false:=by
          intro m
          induction m with
          | nil=>intro i e h;cases h
          | cons x m ih =>
            intro i e h
            rw [cE] at h
            cases hg:ol R i x with
            | none=>rw [hg] at h;exact ih _ _ h
            | some t =>
              rw [hg] at h;injection h with h;subst h
              unfold ol at hg
              cases hb:CO x.Prefix
              · rw [hb] at hg;injection hg with hg;subst hg;rfl
              rw [hb] at hg
              cases h9:(decide (0<i) && !i9 (R.getD (i - 1) x).Prefix x.Prefix)
              · rw [h9] at hg
                cases hz:(ma x.Rule == 0)
                · rw [hz] at hg;injection hg with hg;subst hg;exact hz
                rw [hz] at hg;cases hg
              rw [h9] at hg;injection hg with hg;subst hg;rfl
        exact this R 0
      cases hf:cE (ol R) R 0 with
      | none=>rfl
      | some e=>simp [hne e hf,wD]
    cases (decide (l[k].ID<1)||decide (1000<l[k].ID)||decide (l[k].Kind<1)||decide (3<l[k].Kind))
    · by_cases h0:0<k
      · simp only [h0,decide_true,Bool.true_and,cH,gp h0 hk h62,be,fY (show k - 1<l.length by omega),bI]
        cases decide (l[k].ID≤(l[k-1]'(by omega)).ID)
        · cases (decide (12<l[k].Parties.length)||decide (12<l[k].Rules.length))
          · exact tail
          rfl
        rfl
      simp only [h0,decide_false,Bool.false_and,ji,be,bI]
      cases (decide (12<l[k].Parties.length)||decide (12<l[k].Rules.length))
      · exact tail
      rfl
    rfl
  rw [qC]
  cases cE (yO l) l 0 <;> rfl
def Y {α:Type} (x:Option α) (P:α→Prop):Prop:=∃ a,x=some a∧P a
section
variable {α β S T:Type} {x y:Option α} {P P':α→Prop} {Q:β→Prop} {f:α→Option β} {a:α} {c:Bool}
theorem Y.bind (h:Y x P) (k:∀ a,P a→Y (f a) Q):Y (x.bind f) Q:=by
 obtain ⟨a,h1,h2⟩:=h;rw [h1];exact k a h2
theorem Y.ret (h:P a):Y (some a) P:=⟨a,rfl,h⟩
theorem Y.mono (h:Y x P) (k:∀ a,P a→P' a):Y x P':=by obtain ⟨a,h1,h2⟩:=h;exact ⟨a,h1,k a h2⟩
theorem Y.cond (h:c=true→Y x P) (k:c=false→Y y P):Y (cond c x y) P:=by cases c;exact k rfl;exact h rfl
theorem Y.eq {r:α} (h:x=some r) (k:Y (f r) Q):Y (x.bind f) Q:=by rw [h];exact k
theorem Y.loop {body:S→Option (S⊕T)} {R:T→Prop} {s:S} (I:S→Prop) (μ:S→Nat) (h0:I s) (hm:μ s≤1267650600228229401496703205000) (step:∀ s,I s→Y (body s) (fun o=>match o with | .inl s'=>I s'∧μ s'<μ s | .inr t=>R t)):Y (aV body FUEL s) R:=by
 obtain ⟨t,h1,h2⟩:=mF (body:=body) I μ R (fun s hs=>by
  obtain ⟨o,k1,k2⟩:=step s hs
  cases o with
  | inl s'=>exact .inl ⟨s',k1,k2⟩
  | inr t=>exact .inr ⟨t,k1,k2⟩) FUEL s h0 (kl hm)
 exact ⟨t,h1,h2⟩
theorem Y.idx {xs:List α} {i:Int} {n:Nat} (h:i=(n:Int)) (hn:n<xs.length) (k:Y (f xs[n]) Q):Y ((idx xs i).bind f) Q:=by subst h;rw [aQ hn];exact k
theorem Y.gdp [Inhabited α] {z:Option (α×β)} {m:β} {R:α×β→Prop} (h:c=true→Y z R) (k:c=false→R (default,m)):Y (gdp c z m) R:=by
 cases c
 ·exact ⟨_,rfl,k rfl⟩
 exact h rfl
end
theorem xx (a n:Int) (h1:1≤n) (h2:n≤4611686018427387904):∃ r,fE a n=some r∧0≤r∧r<n:=by
 have hl:=Int.tmod_lt_of_pos a (show 0<n by omega)
 have hl2:=Int.tmod_lt_of_pos (-a) (show 0<n by omega)
 rw [Int.neg_tmod] at hl2
 unfold fE nz lb
 rw [if_neg (by omega),cM (by omega) (by omega)]
 exact ⟨_,rfl,Int.tmod_nonneg _ (by omega),Int.tmod_lt_of_pos _ (by omega)⟩
def SOK (p:Zk):Prop:=0≤p.I∧p.I≤p.L.length∧p.L.length≤1000000000000000
theorem next_ok {p:Zk} (hp:SOK p) (n:Int) (h1:1≤n) (h2:n≤4611686018427387904):∃ r q,aX p n=some (r,q)∧0≤r∧r<n∧SOK q:=by
 obtain ⟨a1,a2,a3⟩:=hp
 unfold aX
 by_cases h:(p.L.length:Int)≤p.I
 ·rw [det h];exact ⟨_,_,rfl,by omega,by omega,a1,a2,a3⟩
 rw [bQ h,cM (r:=p.I+1) (by omega) (by omega),cM (by omega) (by omega)]
 simp only [bI]
 have e:idx p.L (p.I+1 - 1)=some (p.L[p.I.toNat]'(by omega)):=by
  unfold idx;rw [if_pos (by omega)]
  have:(p.I+1 - 1).toNat=p.I.toNat:=by omega
  rw [this];exact List.getElem?_eq_getElem _
 rw [pn e]
 obtain ⟨r,h3,h4,h5⟩:=xx (p.L[p.I.toNat]'(by omega)) n h1 h2
 rw [pn h3]
 exact ⟨_,_,rfl,h4,h5,by simp only;omega,by simp only;omega,a3⟩
theorem cut_ok (l:List Int) (n:Int) (h:0≤n) (h2:n≤1000):∃ m,mU l n=some m∧(m.length:Int)≤n:=by
 unfold mU
 by_cases h1:n<(l.length:Int)
 ·rw [det h1]
  have e:sub l 0 n=some ((l.take n.toNat).drop 0):=by unfold sub;rw [if_pos (by omega)];rfl
  simp only [bZ];rw [pn e];exact ⟨_,rfl,by simp;omega⟩
 rw [bQ h1];exact ⟨_,rfl,by omega⟩
theorem r8 (a n:Int) (h1:1≤n) (h2:n≤4611686018427387904):Y (fE a n) (fun r=>0≤r∧r<n):=xx a n h1 h2
theorem eO {p:Zk} (hp:SOK p) (n:Int) (h1:1≤n) (h2:n≤4611686018427387904):Y (aX p n) (fun r=>0≤r.1∧r.1<n∧SOK r.2):=by
 obtain ⟨r,q,h3,h4,h5,h6⟩:=next_ok hp n h1 h2;exact ⟨(r,q),h3,h4,h5,h6⟩
theorem cut_Y (l:List Int) (n:Int) (h:0≤n) (h2:n≤1000):Y (mU l n) (fun m=>SOK ⟨m,0⟩):=by
 obtain ⟨m,h3,h4⟩:=cut_ok l n h h2
 exact ⟨m,h3,by dsimp only;omega,by dsimp only;omega,by dsimp only;omega⟩
theorem FP {p:Zk} (hp:SOK p):Y (fI p) (fun r=>FL r.1=true∧SOK r.2):=by
 unfold fI
 refine (eO hp 4 (by omega) (by omega)).bind fun a ⟨h1,h2,h3⟩=>?_
 refine Y.cond (fun _=>?_) (fun _=>?_)
 ·refine (eO h3 101 (by omega) (by omega)).bind fun b ⟨k1,k2,k3⟩=>Y.ret ⟨?_,k3⟩
  rw [cM (by omega) (by omega)];simp only [FL,Bool.and_eq_true,decide_eq_true_eq];omega
 refine (eO h3 1000001 (by omega) (by omega)).bind fun b ⟨k1,k2,k3⟩=>Y.ret ⟨?_,k3⟩
 simp only [FL,Bool.and_eq_true,decide_eq_true_eq];omega
structure Good (r:Ze) (m:Nat):Prop where
 ok:ROk r
 valid:em r=true
 size:qN r≤m
theorem Aw:StrsOk []:=⟨by simp,by simp⟩
theorem FQ {r:Ze} (h1:StrsOk r.Except) (h2:r.Name.size≤140737488355328) (h3:r.Args=[]):ROk r:=⟨r,h1,h2,by rw [h3];simp,by rw [h3];simp⟩
theorem FR {r:Ze} (h:r.Args=[]):qN r=1:=by rw [qd,h];rfl
def om:Nat→Nat
 | 0=>1
 | d+1=>1+3*om d
theorem FS (d:Nat):1≤om d:=by cases d <;> simp [om]
theorem CP {m:Nat}:∀ {l:List Ze},(∀ a∈l,qN a≤m)→nM l≤l.length*m
 | [],_=>by rw [nM];omega
 | a::l,h=>by
  rw [nM,List.length_cons,Nat.add_mul,Nat.one_mul]
  have h1:=h a (by simp);have h2:=CP (l:=l) fun b hb=>h b (by simp [hb]);omega
theorem yQ {but:Int} (hb:but=0∨but=5∨but=6) {r:Ze} {q:Zk} {m:Nat} (hm:1≤m) (hq:SOK q) (h1:StrsOk r.Except) (h2:r.Name.size≤140737488355328) (h3:r.Args=[]) (hk:1≤r.Kind∧r.Kind≤4) (hv:em r=true):Good r m∧r.Kind≠but∧SOK q :=
 ⟨⟨FQ h1 h2 h3,hv,by rw [FR h3];exact hm⟩,by omega,hq⟩
theorem xy {d n:Nat} {p:Zk} {but:Int} (hp:SOK p) (hb:but=0∨but=5∨but=6) (hn:d<n) (hd:d≤10)
    (ih:∀ d',d=d'+1→∀ (q:Zk) (but':Int),SOK q→(but'=0∨but'=5∨but'=6)→Y (eN (n - 1) q but' (d':Int)) (fun r=>Good r.1 (om d')∧r.1.Kind≠but'∧SOK r.2)) :
    Y (eN n p but (d:Int)) (fun r=>Good r.1 (om d)∧r.1.Kind≠but∧SOK r.2):=by
  obtain ⟨n,rfl⟩:∃ m,n=m+1:=⟨n - 1,by omega⟩
  rw [Nat.add_sub_cancel] at ih
  show Y (fP (eN n) p but (d:Int)) _
  unfold fP
  refine (eO hp 8 (by omega) (by omega)).bind fun a ⟨h1,h2,h3⟩=>?_
  refine Y.cond (fun hc=>?_) (fun hc=>?_)
  · simp only [Bool.and_eq_true,decide_eq_true_eq] at hc
    obtain ⟨d',rfl⟩:∃ d',d=d'+1:=⟨d - 1,by omega⟩
    have ih:=ih d' rfl
    have hm1:0≤Int.tmod a.1 2:=Int.tmod_nonneg _ (by omega)
    have hm2:Int.tmod a.1 2<2:=Int.tmod_lt_of_pos _ (by omega)
    refine Y.bind (P:=fun k=>(k=5∨k=6)∧k≠but) ?_ fun k ⟨hk,hkb⟩=>?_
    · rw [cM (by omega) (by omega)]
      refine Y.cond (fun hc=>Y.ret ?_) (fun hc=>Y.ret ?_)
      · have:=eq_of_beq hc;rw [cM (by omega) (by omega)];omega
      have:¬ 5+Int.tmod a.1 2=but:=by intro h;rw [h] at hc;simp at hc
      omega
    refine (eO h3 2 (by omega) (by omega)).bind fun b ⟨k1,k2,k3⟩=>?_
    rw [cM (r:=2+b.1) (by omega) (by omega)]
    refine Y.bind (P:=fun t:List Int×Int×List Ze=>SOK ⟨t.1,t.2.1⟩∧(2≤t.2.2.length∧t.2.2.length≤3)∧∀ x∈t.2.2,Good x (om d')∧x.Kind≠k) ?_ fun t ⟨t1,t2,t3⟩=>?_
    · refine Y.loop (fun s:Int×List Int×Int×List Ze=>(0≤s.1∧s.1+s.2.2.2.length=2+b.1)∧SOK ⟨s.2.1,s.2.2.1⟩∧∀ x∈s.2.2.2,Good x (om d')∧x.Kind≠k) (fun s=>s.1.toNat) ⟨⟨by dsimp only;omega,by simp⟩,k3,by simp⟩ (by dsimp only;omega) fun s hs=>?_
      obtain ⟨v,l,i,m⟩:=s
      obtain ⟨⟨s1,s2⟩,s3,s4⟩:=hs
      dsimp only at s1 s2 s3 s4 ⊢
      refine Y.cond (fun hc=>?_) (fun hc=>Y.ret ⟨s3,?_,s4⟩)
      · have hc:=of_decide_eq_true hc
        rw [cM (by omega) (by omega),show ((d'+1:Nat):Int) - 1=(d':Int) by omega]
        refine (ih _ k s3 (by omega)).bind fun x ⟨x1,x2,x3⟩=>?_
        rw [cK (by simp;omega) (by simp;omega),be,cM (by omega) (by omega)]
        refine Y.ret ⟨⟨⟨by dsimp only;omega,by simp;omega⟩,x3,fun z hz=>?_⟩,by dsimp only;omega⟩
        rcases List.mem_append.1 hz with hz | hz
        · exact s4 z hz
        rw [List.mem_singleton.1 hz];exact ⟨x1,x2⟩
      have hc:=of_decide_eq_false hc
      dsimp only;omega
    obtain ⟨l,i,m⟩:=t
    dsimp only at t1 t2 t3 ⊢
    refine Y.ret ⟨⟨⟨_,Aw,by simp,by dsimp only;omega,fun z hz=>(t3 z hz).1.ok⟩,?_,?_⟩,hkb,t1⟩
    · rw [hQ]
      have e1:(k == 5||k == 6)=true:=by rcases hk with rfl | rfl <;> rfl
      have e2:kE ⟨k,0,[],0,0,ByteArray.empty,m⟩=true:=by rcases hk with rfl | rfl <;> rfl
      rw [e2]
      simp only [e1,bZ,Bool.true_and,Bool.and_eq_true,decide_eq_true_eq,List.all_eq_true,Bool.not_eq_true',beq_eq_false_iff_ne,ne_eq]
      exact ⟨by omega,fun z hz=>⟨(t3 z hz).2,(t3 z hz).1.valid⟩⟩
    rw [qd]
    have:=CP fun z hz=>(t3 z hz).1.size
    have h3:m.length*om d'≤3*om d':=Nat.mul_le_mul_right _ t2.2
    dsimp only [om];omega
  have hpos:=FS d
  refine Y.bind (P:=fun q:(List Int×Int)⊕(Ze×Zk)=>match q with | .inl s=>SOK ⟨s.1,s.2⟩ | .inr r=>Good r.1 (om d)∧r.1.Kind≠but∧SOK r.2) ?_ fun q hq=>?_
  · refine Y.cond (fun _=>?_) fun _=>Y.cond (fun _=>?_) fun _=>Y.cond (fun _=>?_) fun _=>Y.ret h3
    · refine (FP h3).bind fun b ⟨k1,k2⟩=>Y.ret (yQ hb hpos k2 Aw (by simp) rfl ⟨by simp,by simp⟩ ?_)
      rw [hQ];simp only [kE,j7,k1];rfl
    · refine (eO h3 5 (by omega) (by omega)).bind fun b ⟨k1,k2,k3⟩=>?_
      obtain ⟨j,hj⟩:∃ j:Nat,b.1=(j:Int):=⟨b.1.toNat,by omega⟩
      have hj5:j<5:=by omega
      refine Y.idx hj hj5 (Y.ret ?_)
      have hw:∀ j:Nat,(h:j<5)→ia [(⟨#[97,110,100]⟩:ByteArray),(⟨#[99,117,116]⟩:ByteArray),(⟨#[111,114]⟩:ByteArray),(⟨#[115,101,119]⟩:ByteArray),(⟨#[115,112,105,110]⟩:ByteArray)][j]=true:=by
        intro j h
        match j,h with
        | 0,_=>rfl
        | 1,_=>rfl
        | 2,_=>rfl
        | 3,_=>rfl
        | 4,_=>rfl
      have hw2:=hw j hj5
      refine yQ hb hpos k3 Aw ?_ rfl ⟨by simp,by simp⟩ ?_
      · have h12:=hw2
        simp only [ia,Bool.and_eq_true,decide_eq_true_eq] at h12
        dsimp only;omega
      rw [hQ];simp only [kE,j7,hw2];rfl
    refine (eO h3 3 (by omega) (by omega)).bind fun b ⟨k1,k2,k3⟩=>Y.cond (fun _=>Y.ret (yQ hb hpos k3 Aw (by simp) rfl ⟨by simp,by simp⟩ ?_)) fun _=>Y.ret k3
    rw [hQ];rfl
  cases q with
  | inr r=>exact Y.ret hq
  | inl s =>
    obtain ⟨l,i⟩:=s
    dsimp only at hq ⊢
    refine (eO hq 3 (by omega) (by omega)).bind fun b ⟨k1,k2,k3⟩=>?_
    refine (eO k3 3 (by omega) (by omega)).bind fun c ⟨c1,c2,c3⟩=>?_
    refine Y.bind (P:=fun t:List Int×Int×List ByteArray=>SOK ⟨t.1,t.2.1⟩∧StrsOk t.2.2∧lh t.2.2=true) ?_ fun t ⟨t1,t2,t3⟩=>?_
    · refine Y.cond (fun _=>?_) fun _=>Y.ret ⟨c3,Aw,rfl⟩
      refine (eO c3 2 (by omega) (by omega)).bind fun e ⟨e1,e2,e3⟩=>?_
      obtain he | he:e.1=0∨e.1=1:=by omega
      · rw [he];exact Y.ret ⟨e3,(show StrsOk [(⟨#[57,52,48,49]⟩:ByteArray),(⟨#[57,53,48,50]⟩:ByteArray)] from ⟨by decide,by decide⟩),(show lh [(⟨#[57,52,48,49]⟩:ByteArray),(⟨#[57,53,48,50]⟩:ByteArray)]=true by kernel_rfl)⟩
      rw [he];exact Y.ret ⟨e3,(show StrsOk [(⟨#[57,53,48,50]⟩:ByteArray)] from ⟨by decide,by decide⟩),(show lh [(⟨#[57,53,48,50]⟩:ByteArray)]=true by kernel_rfl)⟩
    obtain ⟨l2,i2,ex⟩:=t
    dsimp only at t1 t2 t3 ⊢
    refine (eO t1 3 (by omega) (by omega)).bind fun e ⟨e1,e2,e3⟩=>?_
    refine Y.bind (P:=fun t:List Int×Int×Int=>SOK ⟨t.1,t.2.1⟩∧FL t.2.2=true) (Y.cond (fun _=>(FP e3).bind fun f ⟨f1,f2⟩=>Y.ret ⟨f2,f1⟩) fun _=>Y.ret ⟨e3,rfl⟩) fun u ⟨u1,u2⟩=>?_
    obtain ⟨l3,i3,tol⟩:=u
    dsimp only at u1 u2 ⊢
    refine Y.ret (yQ hb hpos u1 t2 (by simp) rfl ⟨by simp,by simp⟩ ?_)
    rw [cM (r:=2*b.1) (by omega) (by omega),cM (by omega) (by omega),hQ]
    simp only [kE,j7,t3,u2]
    obtain hb0 | hb0 | hb0:b.1=0∨b.1=1∨b.1=2:=by omega
    · rw [hb0];rfl
    · rw [hb0];rfl
    rw [hb0];rfl
theorem rule_Y (d:Nat):∀ (n:Nat) (p:Zk) (but:Int),d<n→d≤10→SOK p→(but=0∨but=5∨but=6)→Y (eN n p but (d:Int)) (fun r=>Good r.1 (om d)∧r.1.Kind≠but∧SOK r.2):=by
  induction d with
  | zero=>exact fun n p but h1 h2 hp hb=>xy hp hb h1 (by omega) (fun d h=>absurd h (by omega))
  | succ d ih=>exact fun n p but h1 h2 hp hb=>xy hp hb h1 (by omega) (fun d' h q but' hq hb'=>by
      obtain rfl:d'=d:=by omega
      exact ih _ q but' (by omega) (by omega) hq hb')
theorem FT (x y z:ByteArray) (h1:i9 x y=true) (h2:i9 y z=true):i9 x z=true:=by
 rw [p8] at *;exact det (List.lt_trans (of_decide_eq_true h1) (of_decide_eq_true h2))
theorem CQ (x:ByteArray):i9 x x=false:=by rw [p8];exact bQ (List.lt_irrefl _)
theorem lI:∀ l:List ByteArray,kJ i9 l=true↔l.Pairwise (fun a b=>i9 a b=true)
 | []=>by simp [kJ]
 | [a]=>by simp [kJ]
 | a::b::l=>by
  rw [kJ,Bool.and_eq_true,lI (b::l)]
  constructor
  ·rintro ⟨h1,h2⟩
   refine List.pairwise_cons.2 ⟨fun c hc=>?_,h2⟩
   rcases List.mem_cons.1 hc with rfl | hc
   ·exact h1
   exact FT _ _ _ h1 ((List.pairwise_cons.1 h2).1 c hc)
  intro h;obtain ⟨h1,h2⟩:=List.pairwise_cons.1 h;exact ⟨h1 b (by simp),h2⟩
theorem oZ {α:Type} {l C:List α} {v:Nat} (h:l.Sublist (C.take v)) (hv:v<C.length):(l++[C[v]]).Sublist (C.take (v+1))∧l.Sublist (C.take (v+1)):=by
 have e:C.take (v+1)=C.take v++[C[v]]:=by rw [List.take_add_one,List.getElem?_eq_getElem hv];rfl
 rw [e]
 exact ⟨h.append (List.Sublist.refl _),h.trans (List.sublist_append_left _ _)⟩
def C6:List ByteArray:=[(⟨#[65,65]⟩:ByteArray),(⟨#[66,66]⟩:ByteArray),(⟨#[67,67]⟩:ByteArray),(⟨#[68,68]⟩:ByteArray),(⟨#[69,69]⟩:ByteArray),(⟨#[70,70]⟩:ByteArray)]
def P5:List ByteArray:=[(⟨#[57,52]⟩:ByteArray),(⟨#[57,52,48,49]⟩:ByteArray),(⟨#[57,52,48,49,48,50]⟩:ByteArray),(⟨#[57,53]⟩:ByteArray),(⟨#[57,53,48,50]⟩:ByteArray)]
theorem C6_ok:C6.all qM=true∧kJ i9 C6=true∧(C6.all fun s=>decide (s.size≤100))=true:=⟨by kernel_rfl,by kernel_rfl,by kernel_rfl⟩
theorem P5_ok:P5.all CO=true∧kJ i9 P5=true∧(P5.all fun s=>decide (s.size≤100))=true:=⟨by kernel_rfl,by kernel_rfl,by kernel_rfl⟩
structure MA (i:Nat) (a:Zb):Prop where
 id:a.ID=2+5*(i:Int)
 kind:1≤a.Kind∧a.Kind≤3
 par:a.Parties.Sublist C6
 pre:(a.Rules.map (·.Prefix)).Sublist P5
 good:∀ x∈a.Rules,Good x.Rule (om 1)
 ne:a.Rules≠[]
structure MAs (l:List Zb):Prop where
 len:1≤l.length∧l.length≤4
 all:∀ (i:Nat) (a:Zb),l[i]?=some a→MA i a
theorem P5_len {a:Zb} (h:(a.Rules.map (·.Prefix)).Sublist P5):a.Rules.length≤5:=by have:=h.length_le;simpa [P5] using this
theorem MA.strs {i:Nat} {a:Zb} (h:MA i a):StrsOk a.Parties:=by
 refine ⟨?_,fun s hs=>?_⟩
 ·have:=h.par.length_le;have h6:C6.length=6:=rfl;omega
 have:=of_decide_eq_true (List.all_eq_true.1 C6_ok.2.2 s (h.par.subset hs));omega
theorem MA.aok {i:Nat} {a:Zb} (h:MA i a):AOk a:=by
 refine ⟨h.strs,by have:=P5_len h.pre;omega,fun x hx=>?_⟩
 have hp:=of_decide_eq_true (List.all_eq_true.1 P5_ok.2.2 x.Prefix (h.pre.subset (List.mem_map_of_mem hx)))
 have hg:=h.good x hx
 exact ⟨by omega,hg.ok,by have h1:=r7 x.Rule;have h2:=hg.size;simp only [om] at h2;omega⟩
theorem MAs.ok {l:List Zb} (h:MAs l):ASOk l:=⟨by have:=h.len;omega,fun a ha=>by
 obtain ⟨i,hi,rfl⟩:=List.getElem_of_mem ha;exact (h.all i _ (List.getElem?_eq_getElem hi)).aok⟩
theorem MA.parties {i:Nat} {a:Zb} (h:MA i a):kF a.Parties=true:=by
 unfold kF
 rw [Bool.and_eq_true]
 refine ⟨List.all_eq_true.2 fun s hs=>List.all_eq_true.1 C6_ok.1 s (h.par.subset hs),?_⟩
 rw [lI];exact List.Pairwise.sublist h.par ((lI _).1 C6_ok.2.1)
theorem MA.rulesE {i:Nat} {a:Zb} (h:MA i a):rulesE a.Rules=0:=by
 have:cE (ol a.Rules) a.Rules 0=none:=by
  rw [mS]
  intro k x hx
  obtain ⟨hk,rfl⟩:=List.getElem?_eq_some_iff.1 hx
  have hmem:a.Rules[k]∈a.Rules:=List.getElem_mem hk
  have h1:=List.all_eq_true.1 P5_ok.1 _ (h.pre.subset (List.mem_map_of_mem hmem))
  have hg:=h.good _ hmem
  have h2:ma a.Rules[k].Rule=0:=(ni _).2 ⟨by have:=hg.size;simp only [om] at this;omega,hg.valid⟩
  unfold ol
  rw [Nat.zero_add,h1,h2]
  have hpw:=List.Pairwise.sublist h.pre ((lI _).1 P5_ok.2.1)
  by_cases h0:0<k
  ·rw [fY (show k - 1<a.Rules.length by omega)]
   have:=(List.pairwise_iff_getElem.1 (List.pairwise_map.1 hpw)) (k - 1) k (by omega) hk (by omega)
   rw [this];simp
  simp [h0]
 unfold SX.rulesE;rw [this];rfl
theorem MAs.valid {l:List Zb} (h:MAs l):DO l=0:=by
 have:cE (yO l) l 0=none:=by
  rw [mS]
  intro k x hx
  obtain ⟨hk,rfl⟩:=List.getElem?_eq_some_iff.1 hx
  have hm:=h.all k _ hx
  have hl:=h.len
  unfold yO
  rw [Nat.zero_add,hm.parties,hm.rulesE]
  have i1:(decide (l[k].ID<1)||decide (1000<l[k].ID)||decide (l[k].Kind<1)||decide (3<l[k].Kind))=false:=by
   have e1:=hm.id;have e2:=hm.kind
   rw [bQ (by omega),bQ (by omega),bQ (by omega),bQ (by omega)];rfl
  have i2:(decide (12<l[k].Parties.length)||decide (12<l[k].Rules.length))=false:=by
   have e1:=hm.par.length_le;have e2:=P5_len hm.pre;have h6:C6.length=6:=rfl
   rw [bQ (by omega),bQ (by omega)];rfl
  rw [i1,i2]
  by_cases h0:0<k
  ·rw [fY (show k - 1<l.length by omega)]
   have hm2:=h.all (k - 1) _ (List.getElem?_eq_getElem (by omega))
   have e1:=hm.id;have e2:=hm2.id
   rw [bQ (show ¬ l[k].ID≤(l[k-1]'(by omega)).ID by omega)];simp
  simp [h0]
 unfold DO
 rw [det (by have:=h.len;omega),this];rfl
theorem r9:gU=some C6:=rfl
def bitI (m:Int) (v:Int):Bool:=dw .i64 (cC .i64 m v) 1 == 1
theorem FU:((List.range 31).all fun m=>(List.range 5).any fun v=>bitI ((m+1:Nat):Int) (v:Int))=true:=by kernel_rfl
theorem has_bit {m:Int} (h1:1≤m) (h2:m≤31):∃ v:Nat,v<5∧bitI m (v:Int)=true:=by
 have:=List.all_eq_true.1 FU (m.toNat - 1) (List.mem_range.2 (by omega))
 obtain ⟨v,hv,h⟩:=List.any_eq_true.1 this
 rw [show ((m.toNat - 1+1:Nat):Int)=m by omega] at h
 exact ⟨v,List.mem_range.1 hv,h⟩
theorem o3 (v:Nat):lw (v:Int)=some ():=by unfold lw;rw [if_pos (by omega)]
theorem DP {c:Int→Bool}:Y (aV (S:=Int×(List ByteArray)) (T:=((List ByteArray))) (fun (v22,l24)=>cond (decide (v22<6)) (Option.bind (Option.bind (lw v22) (fun _=>cond (c v22) (Option.bind (gU) (fun x44=>Option.bind (idx x44 v22) (fun m45=>Option.bind (app 16 l24 [m45]) (fun l48=>some l48)))) (some l24))) (fun l40=>some (.inl ((IntKind.i64.wrap (v22+1)),l40)))) (some (.inr l24))) FUEL (0,([]:List ByteArray))) (fun l=>l.Sublist C6):=by
 refine Y.loop (fun s=>∃ v:Nat,s.1=(v:Int)∧v≤6∧s.2.Sublist (C6.take v)) (fun s=>(6 - s.1).toNat) ⟨0,rfl,by omega,List.Sublist.refl _⟩ (by dsimp only;omega) fun s hs=>?_
 obtain ⟨i,l⟩:=s
 obtain ⟨v,rfl,h1,h2⟩:=hs
 dsimp only at h2 ⊢
 have hlen:l.length≤6:=by have:=h2.length_le;have h6:C6.length=6:=rfl;rw [List.length_take] at this;omega
 refine Y.cond (fun hc=>?_) (fun hc=>Y.ret (h2.trans (List.take_sublist _ _)))
 have hv:v<6:=by have:=of_decide_eq_true hc;omega
 have hs:=oZ h2 (show v<C6.length from hv)
 refine Y.bind (P:=fun m:List ByteArray=>m.Sublist (C6.take (v+1))) (Y.eq (o3 v) (Y.cond (fun _=>?_) fun _=>Y.ret hs.2)) fun m hm=>Y.ret ⟨⟨v+1,?_,by omega,hm⟩,?_⟩
 ·refine Y.eq r9 (Y.idx rfl (show v<C6.length from hv) ?_)
  rw [cK (by simp;omega) (by simp;omega)];exact Y.ret hs.1
 ·show IntKind.i64.wrap ((v:Int)+1)=_;rw [cM (by omega) (by omega)];omega
 show (6 - IntKind.i64.wrap ((v:Int)+1)).toNat<(6 - (v:Int)).toNat;rw [cM (by omega) (by omega)];omega
theorem yR (p0:List Int):Y (iu p0) MAs:=by
 unfold iu
 refine (cut_Y p0 200 (by omega) (by omega)).bind fun x1 hx1=>?_
 refine (eO hx1 4 (by omega) (by omega)).bind fun x3 ⟨a1,a2,a3⟩=>?_
 rw [cM (r:=1+x3.1) (by omega) (by omega)]
 refine Y.bind (P:=MAs) ?_ fun l hl=>Y.ret hl
 refine Y.loop (fun s:List Zb×Int×List Int×Int=>(s.2.1=(s.1.length:Int)∧s.2.1≤1+x3.1)∧SOK ⟨s.2.2.1,s.2.2.2⟩∧∀ i a,s.1[i]?=some a→MA i a) (fun s=>(1+x3.1 - s.2.1).toNat) ⟨⟨rfl,by dsimp only;omega⟩,a3,by simp⟩ (by dsimp only;omega) fun s hs=>?_
 obtain ⟨l5,v8,l9,v10⟩:=s
 obtain ⟨⟨h1,h2⟩,h3,h4⟩:=hs
 dsimp only at h1 h2 h3 h4 ⊢
 refine Y.cond (fun hc=>?_) (fun hc=>Y.ret ⟨?_,h4⟩)
 rotate_left
 ·have hc:=of_decide_eq_false hc;omega
 have hc:=of_decide_eq_true hc
 refine (eO h3 3 (by omega) (by omega)).bind fun x19 ⟨b1,b2,b3⟩=>?_
 refine (eO b3 64 (by omega) (by omega)).bind fun x21 ⟨c1,c2,c3⟩=>?_
 refine (DP (c:=fun v=>dw .i64 (cC .i64 (ow .i64 x21.1 3) v) 1 == 1)).bind fun l31 hl31=>?_
 refine Y.bind (P:=fun r:Int×Zk=>SOK r.2) (Y.gdp (fun _=>(eO c3 2 (by omega) (by omega)).mono fun r hr=>hr.2.2) fun _=>c3) fun x53 hx53=>?_
 refine Y.bind (P:=fun t:List Int×Int×List Zi=>SOK ⟨t.1,t.2.1⟩∧(t.2.2.map (·.Prefix)).Sublist P5∧(∀ x∈t.2.2,Good x.Rule (om 1))∧t.2.2≠[]) ?_ fun t ⟨t1,t2,t3,t4⟩=>?_
 ·refine Y.cond (fun hc2=>?_) fun hc2=>?_
  ·simp only [Bool.and_eq_true,decide_eq_true_eq] at hc2
   obtain ⟨j,hj⟩:∃ j:Nat,v8 - 1=(j:Int):=⟨(v8 - 1).toNat,by omega⟩
   refine Y.idx (n:=j) (by rw [cM (by omega) (by omega)];exact hj) (show j<l5.length by omega) ?_
   have:=h4 j _ (List.getElem?_eq_getElem (by omega))
   exact Y.ret ⟨hx53,this.pre,this.good,this.ne⟩
  refine (eO hx53 31 (by omega) (by omega)).bind fun x64 ⟨d1,d2,d3⟩=>?_
  refine Y.bind (P:=fun t:List Int×Int×List Zi=>SOK ⟨t.1,t.2.1⟩∧(t.2.2.map (·.Prefix)).Sublist P5∧(∀ x∈t.2.2,Good x.Rule (om 1))∧t.2.2≠[]) ?_ fun t ht=>Y.ret ht
  refine Y.loop (fun s:Int×List Int×Int×List Zi=>∃ v:Nat,s.1=(v:Int)∧v≤5∧SOK ⟨s.2.1,s.2.2.1⟩∧(s.2.2.2.map (·.Prefix)).Sublist (P5.take v)∧(∀ x∈s.2.2.2,Good x.Rule (om 1))∧(s.2.2.2≠[]∨∀ u:Nat,u<v→bitI (1+x64.1) (u:Int)=false)) (fun s=>(5 - s.1).toNat) ⟨0,rfl,by omega,d3,List.Sublist.refl _,by simp,.inr (fun u hu=>absurd hu (Nat.not_lt_zero _))⟩ (by dsimp only;omega) fun s hs=>?_
  obtain ⟨i,l,k,m⟩:=s
  obtain ⟨v,rfl,e1,e2,e3,e4,e5⟩:=hs
  dsimp only at e2 e3 e4 e5 ⊢
  have hlen:m.length≤5:=by have:=e3.length_le;have h6:P5.length=5:=rfl;rw [List.length_take,List.length_map] at this;omega
  refine Y.cond (fun hc3=>?_) (fun hc3=>Y.ret ⟨e2,e3.trans (List.take_sublist _ _),e4,?_⟩)
  rotate_left
  ·have h5:v=5:=by have:=of_decide_eq_false hc3;omega
   rcases e5 with e5 | e5
   ·exact e5
   obtain ⟨u,hu,hb⟩:=has_bit (m:=1+x64.1) (by omega) (by omega)
   rw [e5 u (by omega)] at hb;cases hb
  have hv:v<5:=by have:=of_decide_eq_true hc3;omega
  have hs:=oZ e3 (show v<P5.length from hv)
  refine Y.bind (P:=fun t:List Int×Int×List Zi=>SOK ⟨t.1,t.2.1⟩∧(t.2.2.map (·.Prefix)).Sublist (P5.take (v+1))∧(∀ x∈t.2.2,Good x.Rule (om 1))∧(t.2.2≠[]∨∀ u:Nat,u<v+1→bitI (1+x64.1) (u:Int)=false)) (Y.eq (o3 v) (Y.cond (fun _=>?_) fun hbit=>Y.ret ⟨e2,hs.2,e4,?_⟩)) fun t ⟨t1,t2,t3,t4⟩=>Y.ret ⟨⟨v+1,?_,by omega,t1,t2,t3,t4⟩,?_⟩
  ·refine Y.idx (xs:=P5) rfl (show v<P5.length from hv) ?_
   refine (rule_Y 1 FUEL ⟨l,k⟩ 0 (kl (by omega)) (by omega) e2 (.inl rfl)).bind fun r ⟨r1,r2,r3⟩=>?_
   rw [cK (by simp;omega) (by simp;omega)]
   refine Y.ret ⟨r3,by rw [List.map_append];exact hs.1,fun z hz=>?_,.inl (by simp)⟩
   rcases List.mem_append.1 hz with hz | hz
   ·exact e4 z hz
   rw [List.mem_singleton.1 hz];exact r1
  ·rcases e5 with e5 | e5
   ·exact .inl e5
   refine .inr fun u hu=>?_
   rcases Nat.lt_or_ge u v with h | h
   ·exact e5 u h
   obtain rfl:u=v:=by omega
   rw [cM (by omega) (by omega)] at hbit;exact hbit
  ·show IntKind.i64.wrap ((v:Int)+1)=_;rw [cM (by omega) (by omega)];omega
  show (5 - IntKind.i64.wrap ((v:Int)+1)).toNat<(5 - (v:Int)).toNat;rw [cM (by omega) (by omega)];omega
 obtain ⟨l55,v56,l58⟩:=t
 dsimp only at t1 t2 t3 ⊢
 rw [cK (by simp;omega) (by simp;omega),be,cM (r:=v8+1) (by omega) (by omega),cM (r:=1+x19.1) (by omega) (by omega),cM (r:=5*v8) (by omega) (by omega),cM (by omega) (by omega)]
 refine Y.ret ⟨⟨⟨by simp;omega,by dsimp only;omega⟩,t1,fun i a ha=>?_⟩,by dsimp only;omega⟩
 rw [List.getElem?_append] at ha
 split at ha
 ·exact h4 i a ha
 rename_i hi
 have hi0:i - l5.length=0:=by have:=(List.getElem?_eq_some_iff.1 ha).1;simp at this;omega
 rw [hi0] at ha
 simp only [List.getElem?_cons_zero,eM] at ha
 subst ha
 exact ⟨by dsimp only;omega,⟨by dsimp only;omega,by dsimp only;omega⟩,hl31,t2,t3,t4⟩
structure RawA (a:Zb):Prop where
 par:StrsOk a.Parties
 len:a.Rules.length≤140737488355328
 rules:∀ x∈a.Rules,x.Prefix.size≤140737488355328∧ROk x.Rule
theorem jL {α:Type} {b:Nat} {l:List α} (h:l.length≤1000000000) (hb:b≤1000):app b ([]:List α) l=some l:=by
 have:=Nat.mul_le_mul h hb
 exact cK (by simpa using (by omega:l.length*b≤140737488355328)) (by simp;omega)
end SX
end Go.Proofs.YtgmbmepakpcpaaaGreatDoor
