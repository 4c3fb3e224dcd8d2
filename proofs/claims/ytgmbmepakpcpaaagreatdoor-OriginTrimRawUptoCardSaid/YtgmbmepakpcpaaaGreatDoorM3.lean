/- A part of the proof: texts of the walk and of the plain laws, merged. No condition. -/
import Derived.Test.YtgmbmepakpcpaaaGreatDoorM2
set_option linter.unusedVariables false
set_option linter.unusedSimpArgs false
set_option maxHeartbeats 4000000
set_option maxRecDepth 100000
namespace Go.Proofs.YtgmbmepakpcpaaaGreatDoor
namespace SX
open Go
attribute [local irreducible] PWL PWC PWD POpL POpQ PEv PGuardIs PSub PPick PUpd PSplice PFill PLit PF PFV PCall FOk dz cI jc jd fp ie Cov PHolds bf idx app mk gd lb nz nO uU sub ka fP uT oO ft cS nL oQ IntKind.wrap Int.tmod Int.tdiv Op.bytesLess strOfNums
def e7 (p0:Zs) (p1:Zl):Option ((List Int)×Bool):=(rule_holds p0.rule p1).bind fun x3=>some ([],x3)
theorem jR {p0:Zs} {p1:Zl} {r:((List Int)×Bool)}  (h:e7 p0 p1=some r):PF 249 [.agg (aK p0.rule),.agg (bM p1)] (.tup [pL eI r.1,pB r.2]):=by
 unfold e7 at h
 refine aY ?_
 refine dw Tryz.func249 rfl Tryz.ntmps249 Tryz.results249 rfl (aa (aj rfl (bj (cs:=(aK p0.rule)) rfl rfl (fun b1=>aj rfl (bj (cs:=(bM p1)) rfl rfl (fun b2=>aZ [4,5] (by kernel_rfl) (cr h fun x3 hx3 h=>an [1,0] [6,7,8,9] [(4,pN),(5,pB x3)] (bA 3 (oY hx3) bo) (by kernel_rfl) (aG (fM 4 rfl (bx ?_))))))))))
 obtain rfl:=osi h
 exact aO (cC (aN rfl) (aN rfl)) bz ⟨rfl,rfl⟩
def Irule_test_witness_B (rec:Zf→Zl→Option ((List Int)×Bool)) (x:Zf) (y0:Zl):Option ((List Int)×Bool):=match x with | .single_ a=>e7 a y0 | .every_ a=>eJ rec a y0 | .some_ a=>eZ rec a y0
theorem Irule_test_witness_B_ok {rec:Zf→Zl→Option ((List Int)×Bool)} (hrec:∀ {x:Zf} {y0:Zl} {w:((List Int)×Bool)},rec x y0=some w→PFI x.pv "customs/rule.witness" [.agg (bM y0)] (.tup [pL eI w.1,pB w.2])) {x:Zf} {y0:Zl} {w:((List Int)×Bool)} (h:Irule_test_witness_B rec x y0=some w):PFI x.pv "customs/rule.witness" [.agg (bM y0)] (.tup [pL eI w.1,pB w.2]):=by
 cases x with
 | single_ a=>rw [Zf.pv_single_];exact nV ⟨fun _ _=>by kernel_rfl⟩ (jR h)
 | every_ a=>rw [Zf.pv_every_];exact nV ⟨fun _ _=>by kernel_rfl⟩ (jn hrec h)
 | some_ a=>rw [Zf.pv_some_];exact nV ⟨fun _ _=>by kernel_rfl⟩ (jQ hrec h)
def Irule_test_witness_F (n:Nat):Zf→Zl→Option ((List Int)×Bool):=Nat.rec (motive:=fun _=>Zf→Zl→Option ((List Int)×Bool)) (fun _ _=>none) (fun _ ih=>Irule_test_witness_B ih) n
def Irule_test_witness (x:Zf) (y0:Zl):Option ((List Int)×Bool):=Irule_test_witness_F FUEL x y0
theorem Irule_test_witness_Fok (n:Nat):∀ {x:Zf} {y0:Zl} {w:((List Int)×Bool)},Irule_test_witness_F n x y0=some w→PFI x.pv "customs/rule.witness" [.agg (bM y0)] (.tup [pL eI w.1,pB w.2]):=by
 induction n with
 | zero=>intros;rename_i h;exact nomatch h
 | succ n ih=>intros;rename_i h;exact Irule_test_witness_B_ok (fun hr=>ih hr) h
theorem Irule_test_witness_ok {x:Zf} {y0:Zl} {w:((List Int)×Bool)} (h:Irule_test_witness x y0=some w):PFI x.pv "customs/rule.witness" [.agg (bM y0)] (.tup [pL eI w.1,pB w.2]):=Irule_test_witness_Fok FUEL h
def bw (p0:(List Zb)) (p1:(Zb→Option Bool)):Option Int:=(bf (S:=Int) (T:=(Unit)⊕(_)) (fun v1=>cond (decide (v1<(p0.length:Int))) ((idx p0 v1).bind fun m5=>(p1 m5).bind fun x6=>cond x6 (some (.inr (.inr v1))) (some (.inl (IntKind.i64.wrap (v1+1))))) (some (.inr (.inl ())))) FUEL 0).bind fun q=>match q with | .inl _=>some (-1) | .inr e=>some e
theorem cX {p0:(List Zb)} {p1:(Zb→Option Bool)} {r:Int} {g1:PV} (hg1:∀ {y0:Zb} {w:Bool},p1 y0=some w→PFV g1 [.agg (bP y0)] (pB w)) (h:bw p0 p1=some r):PF 128 [pL Zb.enc p0,g1] (pI r):=by
 unfold bw at h
 refine aY ?_
 refine dw Tryz.func128 rfl Tryz.ntmps128 Tryz.results128 rfl (aR [4] (by kernel_rfl) (cg (ah [6] [(7,pI (p0.length:Int)),(8,pI 0)] (by kernel_rfl) (fG h fun q3 hq3 h=>?_))))
 refine av (Y:=Unit×Unit) (fun (_,_)=>[]) (fun (_,_)=>[]) (fun (_,_)=>q3=Sum.inl ()) ?_ ?_
 ·refine aA ?_
  refine aC (Y:=Unit) (S:=Int) _ hq3 (fun _ v1=>[(0,pL Zb.enc p0),(1,g1),(7,pI (p0.length:Int)),(8,pI v1)]) (fun _ v1=>[]) () (gI rfl) bz ?_
  rintro _ v1 o τ hb2;(try dsimp only at hb2);dsimp only [aw]
  refine ae (ak [(9,pB (decide (v1<(p0.length:Int))))] (by kernel_rfl) (br (gM rfl hb2 (fun hc4 hb2=>?_) fun hc4 hb2=>?_)))
  ·refine ai ?_
   refine br (ff (ah [10] [(5,pI v1)] (by kernel_rfl) (cr hb2 fun m5 hm5 hb2=>af hb2 fun x6 hx6 hb2=>an [] (rg 11 5) [(16,pB x6)] (cn 3 Zb.enc hm5 (sJ 5 (hg1 hx6) bo)) (by kernel_rfl) (bK rfl hb2 (fun hc7 hb2=>?_) fun hc7 hb2=>?_))))
   ·refine ae ?_
    refine ah [17] [(4,pI v1)] (by kernel_rfl) (df (eV ?_))
    refine aF hb2 (fun ht=>?_);subst ht
    refine ar (aJ ?_)
    exact zz r h rfl
   refine ai ?_
   refine dY (ah [18] [(8,pI (IntKind.i64.wrap (v1+1)))] (by kernel_rfl) ?_)
   exact aT hb2 () (gI rfl) bz
  refine aM ?_
  refine aq (al hb2 (fun ht=>ap rfl ?_))
  exact aD ((),()) kl bz ht.symm
 rintro ⟨_,_⟩ τ hz;(try dsimp only at hz);subst q3;(try dsimp only at h);dsimp only [aw]
 refine ae (dn [(4,pI (-1))] (by kernel_rfl) ?_)
 exact zz r h rfl
def bt (p0:(List Zb)) (p1:(Zb→Option Bool)):Option Bool:=(bw p0 p1).bind fun x1=>some (decide (0≤x1))
theorem cO {p0:(List Zb)} {p1:(Zb→Option Bool)} {r:Bool} {g1:PV} (hg1:∀ {y0:Zb} {w:Bool},p1 y0=some w→PFV g1 [.agg (bP y0)] (pB w)) (h:bt p0 p1=some r):PF 85 [pL Zb.enc p0,g1] (pB r):=by
 unfold bt at h
 refine aY ?_
 refine dw Tryz.func85 rfl Tryz.ntmps85 Tryz.results85 rfl (aR [4] (by kernel_rfl) (cr h fun x1 hx1 h=>an [] [5,6,7,8] [(4,pB (decide (0≤x1)))] (bA 2 (cX hg1 hx1) bo) (by kernel_rfl) (df ?_)))
 exact zz r h rfl
def jS (p0:Zb) (p1:Za):Option Bool:=some (Za.eqb p0.Claim p1)
theorem mQ {p0:Zb} {p1:Za} {r:Bool}  (h:jS p0 p1=some r):PF 86 [.agg (bP p0),.ref [pI p1.Product,pI p1.Agreement] 0] (pB r):=by
 unfold jS at h
 refine aY ?_
 refine dw Tryz.func86 rfl Tryz.ntmps86 Tryz.results86 rfl (aa (aj rfl (bj (cs:=(bP p0)) rfl rfl (fun b1=>aZ [3] (by kernel_rfl) (br (an [0] [4,5,6,7] [(3,pB (Za.eqb p0.Claim p1))] (rG 3 Za.eqok28 bo) (by kernel_rfl) (df ?_)))))))
 exact zz r h rfl
def jT (p0:(List Zb)) (p1:Za):Option Bool:=(bt p0 (fun y2=>jS y2 p1)).bind fun x3=>some x3
theorem kX {p0:(List Zb)} {p1:Za} {r:Bool}  (h:jT p0 p1=some r):PF 37 [pL Zb.enc p0,.agg [pI p1.Product,pI p1.Agreement]] (pB r):=by
 unfold jT at h
 refine aY ?_
 refine dw Tryz.func37 rfl Tryz.ntmps37 Tryz.results37 rfl (aa (aj rfl (bj (cs:=[pI p1.Product,pI p1.Agreement]) rfl rfl (fun b1=>aZ [4] (by kernel_rfl) (br (aa (aI 1 [(5,pL Zb.enc p0)] (by kernel_rfl) ?_)))))))
 refine jG 3 rfl (by exact aV) ?_
 refine af h fun x3 hx3 h=>eB [] [6,7] [(4,pB x3)] (bA 1 (cO (fun hr=>k9 (mQ hr)) hx3) bo) (by kernel_rfl) (df ?_)
 exact zz r h rfl
def ir (p0:(List Int)) (p1:(List Int)):Option Bool:=cond ((p0.length:Int) != (p1.length:Int)) (some false) ((bf (S:=Int) (T:=(Unit)⊕(_)) (fun v2=>cond (decide (v2<(p0.length:Int))) ((idx p0 v2).bind fun m6=>(idx p1 v2).bind fun m7=>cond (m6 != m7) (some (.inr (.inr false))) (some (.inl (IntKind.i64.wrap (v2+1))))) (some (.inr (.inl ())))) FUEL 0).bind fun q=>match q with | .inl _=>some true | .inr e=>some e)
theorem oZ {p0:(List Int)} {p1:(List Int)} {r:Bool}  (h:ir p0 p1=some r):PF 80 [pL eI p0,pL eI p1] (pB r):=by
 unfold ir at h
 refine aY ?_
 refine dw Tryz.func80 rfl Tryz.ntmps80 Tryz.results80 rfl (aR [4] (by kernel_rfl) (cg (ah [6,7,8,9] [(10,pB ((p0.length:Int) != (p1.length:Int)))] (by kernel_rfl) (bK rfl h (fun hc1 h=>?_) fun hc1 h=>?_))))
 ·refine ae ?_
  refine dn [(4,pB false)] (by kernel_rfl) (am ?_)
  exact zz r h rfl
 refine ai ?_
 refine cg (ak [(5,pI 0)] (by kernel_rfl) (fG h fun q4 hq4 h=>?_))
 refine av (Y:=Unit×Unit) (fun (_,_)=>[]) (fun (_,_)=>[]) (fun (_,_)=>q4=Sum.inl ()) ?_ ?_
 ·refine aA ?_
  refine aC (Y:=Unit) (S:=Int) _ hq4 (fun _ v2=>[(0,pL eI p0),(1,pL eI p1),(5,pI v2)]) (fun _ v2=>[]) () (oS rfl) bz ?_
  rintro _ v2 o τ hb3;(try dsimp only at hb3);dsimp only [aw]
  refine ae (ae (ah [11,12,13] [(14,pB (decide (v2<(p0.length:Int))))] (by kernel_rfl) (bK rfl hb3 (fun hc5 hb3=>?_) fun hc5 hb3=>?_)))
  ·refine ai ?_
   refine br (ff (bN (ρd:=[]) [(0,0),(1,0),(2,0),(3,0),(4,0),(5,0),(6,0),(7,0),(8,0)] _ (List.Perm.refl _) (by kernel_rfl) rfl (af hb3 fun m6 hm6 hb3=>af hb3 fun m7 hm7 hb3=>bY 9 [] (rg 17 8) [(25,pB (m6 != m7))] (cn 2 eI hm6 (cn 6 eI hm7 bo)) (by kernel_rfl) (cd (bK rfl hb3 (fun hc8 hb3=>?_) fun hc8 hb3=>?_)))))
   ·refine ae ?_
    refine dn [(4,pB false)] (by kernel_rfl) (eV ?_)
    refine aF hb3 (fun ht=>?_);subst ht
    refine ar (aJ ?_)
    exact zz r h rfl
   refine ai ?_
   refine dY (ah [15,16] [(5,pI (IntKind.i64.wrap (v2+1)))] (by kernel_rfl) ?_)
   exact aT hb3 () (oS rfl) bz
  refine aM ?_
  refine aq (al hb3 (fun ht=>ap rfl ?_))
  exact aD ((),()) kl bz ht.symm
 rintro ⟨_,_⟩ τ hz;(try dsimp only at hz);subst q4;(try dsimp only at h);dsimp only [aw]
 refine ae (dn [(4,pB true)] (by kernel_rfl) ?_)
 exact zz r h rfl
def gn (p0:(List Zb)) (p1:(List Zb)):Option Bool:=cond ((p0.length:Int) != (p1.length:Int)) (some false) ((bf (S:=Int) (T:=(Unit)⊕(_)) (fun v2=>cond (decide (v2<(p0.length:Int))) ((idx p0 v2).bind fun m6=>(idx p1 v2).bind fun m7=>(gd (!(!(Za.eqb m6.Claim m7.Claim))) (idx p0 v2)).bind fun m8=>(gd (!(!(Za.eqb m6.Claim m7.Claim))) (idx p1 v2)).bind fun m9=>(gd (!(!(Za.eqb m6.Claim m7.Claim))) (ir m8.Path m9.Path)).bind fun x10=>(gd (!((!(Za.eqb m6.Claim m7.Claim))||(!x10))) (idx p0 v2)).bind fun m11=>(gd (!((!(Za.eqb m6.Claim m7.Claim))||(!x10))) (idx p1 v2)).bind fun m12=>(gd (!((!(Za.eqb m6.Claim m7.Claim))||(!x10))) (dU m11.Premises m12.Premises)).bind fun x13=>cond (((!(Za.eqb m6.Claim m7.Claim))||(!x10))||(!x13)) (some (.inr (.inr false))) (some (.inl (IntKind.i64.wrap (v2+1))))) (some (.inr (.inl ())))) FUEL 0).bind fun q=>match q with | .inl _=>some true | .inr e=>some e)
theorem o3 {p0:(List Zb)} {p1:(List Zb)} {r:Bool}  (h:gn p0 p1=some r):PF 31 [pL Zb.enc p0,pL Zb.enc p1] (pB r):=by
 unfold gn at h
 refine aY ?_
 refine dw Tryz.func31 rfl Tryz.ntmps31 Tryz.results31 rfl (aR [4] (by kernel_rfl) (cg (ah [6,7,8,9] [(10,pB ((p0.length:Int) != (p1.length:Int)))] (by kernel_rfl) (bK rfl h (fun hc1 h=>?_) fun hc1 h=>?_))))
 ·refine ae ?_
  refine dn [(4,pB false)] (by kernel_rfl) (am ?_)
  exact zz r h rfl
 refine ai ?_
 refine cg (ak [(5,pI 0)] (by kernel_rfl) (fG h fun q4 hq4 h=>?_))
 refine av (Y:=Unit×Unit) (fun (_,_)=>[]) (fun (_,_)=>[]) (fun (_,_)=>q4=Sum.inl ()) ?_ ?_
 ·refine aA ?_
  refine aC (Y:=Unit) (S:=Int) _ hq4 (fun _ v2=>[(0,pL Zb.enc p0),(1,pL Zb.enc p1),(5,pI v2)]) (fun _ v2=>[]) () (oS rfl) bz ?_
  rintro _ v2 o τ hb3;(try dsimp only at hb3);dsimp only [aw]
  refine ae (ae (ah [11,12,13] [(14,pB (decide (v2<(p0.length:Int))))] (by kernel_rfl) (bK rfl hb3 (fun hc5 hb3=>?_) fun hc5 hb3=>?_)))
  ·refine ai ?_
   refine br (ff (bN (ρd:=[]) [(0,0),(1,0),(2,0),(3,0),(4,0),(5,0),(6,0),(7,0),(8,0),(9,0),(10,0),(11,0),(12,0),(13,0),(14,0),(15,0),(16,0),(17,0),(18,0),(19,0),(20,0),(21,0),(22,1),(23,0),(24,0),(25,0),(26,0),(27,0),(28,0),(29,0),(30,0),(31,0),(32,0),(33,0),(34,0),(35,0),(36,1),(37,0),(38,0)] _ (List.Perm.refl _) (by kernel_rfl) rfl (af hb3 fun m6 hm6 hb3=>af hb3 fun m7 hm7 hb3=>af hb3 fun m8 hm8 hb3=>af hb3 fun m9 hm9 hb3=>af hb3 fun x10 hx10 hb3=>af hb3 fun m11 hm11 hb3=>af hb3 fun m12 hm12 hb3=>af hb3 fun x13 hx13 hb3=>bY 39 [] (rg 17 38) [(55,pB (((!(Za.eqb m6.Claim m7.Claim))||(!x10))||(!x13)))] (cn 2 Zb.enc hm6 (cn 7 Zb.enc hm7 (rG 10 Za.eqok28 (gX 14 Zb.enc (dj hm8) (gX 19 Zb.enc (dj hm9) (dR 22 (fun hc=>oZ (dj hx10 hc)) (gX 28 Zb.enc (dj hm11) (gX 33 Zb.enc (dj hm12) (dR 36 (fun hc=>kT (dj hx13 hc)) bo))))))))) (by kernel_rfl) (cd (bK rfl hb3 (fun hc14 hb3=>?_) fun hc14 hb3=>?_)))))
   ·refine ae ?_
    refine dn [(4,pB false)] (by kernel_rfl) (eV ?_)
    refine aF hb3 (fun ht=>?_);subst ht
    refine ar (aJ ?_)
    exact zz r h rfl
   refine ai ?_
   refine dY (ah [15,16] [(5,pI (IntKind.i64.wrap (v2+1)))] (by kernel_rfl) ?_)
   exact aT hb3 () (oS rfl) bz
  refine aM ?_
  refine aq (al hb3 (fun ht=>ap rfl ?_))
  exact aD ((),()) kl bz ht.symm
 rintro ⟨_,_⟩ τ hz;(try dsimp only at hz);subst q4;(try dsimp only at h);dsimp only [aw]
 refine ae (dn [(4,pB true)] (by kernel_rfl) ?_)
 exact zz r h rfl
def cF (p0:(List Int)):Option (List Int):=app 8 ([]:List Int) p0
theorem jo {p0:(List Int)} {r:(List Int)} (h:cF p0=some r):PCall 82 [pL eI p0] [] (fun pv ρ'=>∃ a c,pv=.v (.slice a r.length c)∧ρ'=[PRes.row a r.length c 3 1 (List.map eI r)]):=by
 unfold cF at h
 refine eP Tryz.func82 rfl Tryz.ntmps82 Tryz.results82 rfl ?_
 (repeat refine ae ?_)
 refine aa (bh rfl rfl rfl (bi (p:=.v (.slice none 0 0)) rfl (.p rfl)) (au (aG ?_)))
 (repeat refine ae ?_)
 refine aa (bh rfl rfl rfl (fO (p:=pL eI p0) rfl (.p rfl)) (kQ rfl rfl rfl rfl rfl rfl (fun b hb=>au (aG ?_))))
 refine dN rfl (fun hc=>?_) (fun hc=>?_)
 ·have e0:p0=[]:=List.map_eq_nil_iff.1 (hb hc)
  subst e0;obtain ⟨rfl,_⟩:=je h
  (repeat refine ae ?_)
  refine aa (bh rfl rfl rfl (bi (p:=.v (.slice none 0 0)) rfl (.p rfl)) (au (aG (bO 3 1 (bx (am ?_))))))
  exact aO (cJ (aN rfl)) dl ⟨_,_,rfl,rfl⟩
 refine ai ?_
 refine aG ?_
 (repeat refine ae ?_)
 refine aa (aj rfl (bR rfl rfl rfl rfl rfl kO rfl rfl rfl rfl (fun b1=>bh rfl rfl rfl (fO (p:=pL eI p0) rfl (.p rfl)) ?_)))
 refine aj rfl (gw (enc:=eI) (xs:=([]:List Int)) rfl rfl rfl rfl rfl (fun _=>rfl) rfl rfl rfl (by exact aV) h (fun a c=>?_))
 refine bh rfl rfl rfl (bi (p:=.v (.slice a r.length c)) rfl (.p rfl)) (au (df ?_))
 exact aO (cJ (aN rfl)) dl ⟨_,_,rfl,rfl⟩
theorem jq {p0:(List Int)} {r:(List Int)} (h:cF p0=some r):PF 82 [pL eI p0] (pL eI r):=wz (jo h)
def bc (p0:(List Za)):Option (List Za):=app 16 ([]:List Za) p0
theorem dE {p0:(List Za)} {r:(List Za)} (h:bc p0=some r):PCall 83 [pL Za.enc p0] [] (fun pv ρ'=>∃ a c,pv=.v (.slice a r.length c)∧ρ'=[PRes.row a r.length c 28 2 (List.map Za.enc r)]):=by
 unfold bc at h
 refine eP Tryz.func83 rfl Tryz.ntmps83 Tryz.results83 rfl ?_
 (repeat refine ae ?_)
 refine aa (bh rfl rfl rfl (bi (p:=.v (.slice none 0 0)) rfl (.p rfl)) (au (aG ?_)))
 (repeat refine ae ?_)
 refine aa (bh rfl rfl rfl (fO (p:=pL Za.enc p0) rfl (.p rfl)) (kQ rfl rfl rfl rfl rfl rfl (fun b hb=>au (aG ?_))))
 refine dN rfl (fun hc=>?_) (fun hc=>?_)
 ·have e0:p0=[]:=List.map_eq_nil_iff.1 (hb hc)
  subst e0;obtain ⟨rfl,_⟩:=je h
  (repeat refine ae ?_)
  refine aa (bh rfl rfl rfl (bi (p:=.v (.slice none 0 0)) rfl (.p rfl)) (au (aG (bO 28 2 (bx (am ?_))))))
  exact aO (cJ (aN rfl)) dl ⟨_,_,rfl,rfl⟩
 refine ai ?_
 refine aG ?_
 (repeat refine ae ?_)
 refine aa (aj rfl (bR rfl rfl rfl rfl rfl kO rfl rfl rfl rfl (fun b1=>bh rfl rfl rfl (fO (p:=pL Za.enc p0) rfl (.p rfl)) ?_)))
 refine aj rfl (gw (enc:=Za.enc) (xs:=([]:List Za)) rfl rfl rfl rfl rfl (fun _=>rfl) rfl rfl rfl (by exact aV) h (fun a c=>?_))
 refine bh rfl rfl rfl (bi (p:=.v (.slice a r.length c)) rfl (.p rfl)) (au (df ?_))
 exact aO (cJ (aN rfl)) dl ⟨_,_,rfl,rfl⟩
theorem dF {p0:(List Za)} {r:(List Za)} (h:bc p0=some r):PF 83 [pL Za.enc p0] (pL Za.enc r):=wz (dE h)
def gE (p0:(List Zb)) (p1:Za):Option ((List Zb)×Int):=(bf (S:=Int×(List (Za×Int))) (T:=((List (Za×Int)))) (fun (v3,l4)=>cond (decide (v3<(p0.length:Int))) (((idx p0 v3).bind fun m11=>cond (!((dm l4 m11.Claim).isSome)) (some (lg l4 m11.Claim v3)) (some l4)).bind fun l9=>some (.inl ((IntKind.i64.wrap (v3+1)),l9))) (some (.inr l4))) FUEL (0,([]:List (Za×Int)))).bind fun l5=>(mk 1 false (p0.length:Int)).bind fun l14=>(bf (S:=(List Bool)×(List Za)) (T:=((List Bool))⊕(_)) (fun (l20,l22)=>cond (decide (0<((l22.length:Nat):Int))) ((idx l22 (IntKind.i64.wrap (((l22.length:Nat):Int) - 1))).bind fun m30=>(sub l22 0 (IntKind.i64.wrap (((l22.length:Nat):Int) - 1))).bind fun l31=>cond (!((dm l5 m30).isSome)) (some (.inr (.inr ([],(6:Int))))) ((idx l20 ((dm l5 m30).getD (0:Int))).bind fun m34=>cond (!m34) ((idx l20 ((dm l5 m30).getD (0:Int))).bind fun m36=>(idx p0 ((dm l5 m30).getD (0:Int))).bind fun m38=>(app 16 l31 m38.Premises).bind fun l39=>some (.inl ((l20.set ((dm l5 m30).getD (0:Int)).toNat true),l39))) (some (.inl (l20,l31))))) (some (.inr (.inl l20)))) FUEL (l14,[p1])).bind fun q=>match q with | .inl l26=>(bf (S:=(List Zb)×Int) (T:=((List Zb))) (fun (l44,v47)=>cond (decide (v47<(p0.length:Int))) (((idx p0 v47).bind fun m62=>(idx l26 v47).bind fun m64=>cond m64 ((cF m62.Path).bind fun x66=>(bc m62.Premises).bind fun x67=>(app 64 l44 [(⟨m62.Claim,x66,x67⟩:Zb)]).bind fun l70=>some l70) (some l44)).bind fun l60=>some (.inl (l60,(IntKind.i64.wrap (v47+1))))) (some (.inr l44))) FUEL (([]:List Zb),0)).bind (fun l51=>some (l51,(0:Int))) | .inr e=>some e
theorem ot {p0:(List Zb)} {p1:Za} {r:((List Zb)×Int)}  (h:gE p0 p1=some r):PF 35 [pL Zb.enc p0,.agg [pI p1.Product,pI p1.Agreement]] (.tup [pL Zb.enc r.1,pI r.2]):=by
 unfold gE at h
 refine aY ?_
 refine dw Tryz.func35 rfl Tryz.ntmps35 Tryz.results35 rfl (aa (aj rfl (bj (cs:=[pI p1.Product,pI p1.Agreement]) rfl rfl (fun b1=>aZ [4,5] (by kernel_rfl) (br (aa (aj rfl (mC Za.key vI rfl (fun b2=>aP [(6,.v (.map (some b2)))] (by kernel_rfl) (cg (ak [(19,pL Zb.enc p0),(20,pI (p0.length:Int)),(21,pI 0)] (by kernel_rfl) (fG h fun q7 hq7 h=>?_))))))))))))
 refine av (Y:=Unit×((List (Za×Int)))) (fun (_,l5)=>[(0,pL Zb.enc p0),(3,pP b1 0),(6,.v (.map (some b2)))]) (fun (_,l5)=>[PRes.b b1 28 [pI p1.Product,pI p1.Agreement],PRes.mp (some b2) (ex Za.key vI l5)]) (fun (_,l5)=>q7=l5) ?_ ?_
 ·refine aA ?_
  refine aC (Y:=Unit) (S:=Int×(List (Za×Int))) _ hq7 (fun _ (v3,l4)=>[(0,pL Zb.enc p0),(3,pP b1 0),(6,.v (.map (some b2))),(19,pL Zb.enc p0),(20,pI (p0.length:Int)),(21,pI v3)]) (fun _ (v3,l4)=>[PRes.b b1 28 [pI p1.Product,pI p1.Agreement],PRes.mp (some b2) (ex Za.key vI l4)]) () (rB rfl) (bu (az aV) dl) ?_
  rintro _ ⟨v3,l4⟩ o τ hb6;(try dsimp only at hb6);dsimp only [aw]
  refine ae (ak [(22,pB (decide (v3<(p0.length:Int))))] (by kernel_rfl) (br (gM rfl hb6 (fun hc8 hb6=>?_) fun hc8 hb6=>?_)))
  ·refine ai ?_
   refine cr hb6 fun q10 hq10 hb6=>?_
   refine av (Y:=Unit×((List (Za×Int)))) (fun (_,l9)=>[(0,pL Zb.enc p0),(3,pP b1 0),(6,.v (.map (some b2))),(19,pL Zb.enc p0),(20,pI (p0.length:Int)),(21,pI v3)]) (fun (_,l9)=>[PRes.b b1 28 [pI p1.Product,pI p1.Agreement],PRes.mp (some b2) (ex Za.key vI l9)]) (fun (_,l9)=>q10=l9) ?_ ?_
   ·skip
    refine ff (af hq10 fun m11 hm11 hq10=>aa (aU 3 [] [24] [(23,pI v3),(25,.agg (bP m11))] (cn 1 Zb.enc hm11 bo) (by kernel_rfl) (aj rfl (aQ (cs:=[pI 0,pI 0,pN,pN]) rfl rfl rfl rfl (fun b12=>aI 1 [(7,pI v3)] (by kernel_rfl) (aX rfl rfl (aH (vs:=(bP m11)) rfl rfl rfl rfl rfl dy vV (au (br (aa (bI 3 [0] [28] [(27,.v (.map (some b2))),(29,.agg [pI m11.Claim.Product,pI m11.Claim.Agreement])] (by kernel_rfl) (bh rfl rfl rfl (show POpQ _ _ _ _ (.tup [pI ((dm l4 m11.Claim).getD (0:Int)),pB ((dm l4 m11.Claim).isSome)]) from mB (xs:=l4) (k:=m11.Claim) (ek:=Za.key) (vv:=vI) (z0:=(0:Int)) rfl rfl rfl (fun _=>.v rfl) Za.kenc28 (.p rfl) (.p rfl) od (oa zm2)) (ji [26,31,32,9] [(10,pB ((dm l4 m11.Claim).isSome))] (by kernel_rfl) (br (ah [33] [(34,pB (!((dm l4 m11.Claim).isSome)))] (by kernel_rfl) (bK rfl hq10 (fun hc13 hq10=>?_) fun hc13 hq10=>?_))))))))))))))))
    ·refine aa ?_
     refine bI 4 [0] [36] [(35,.v (.map (some b2))),(37,.agg [pI m11.Claim.Product,pI m11.Claim.Agreement]),(38,pI v3)] (by kernel_rfl) (aX rfl rfl (lG (xs:=l4) (k:=m11.Claim) (ek:=Za.key) (vv:=vI) (v:=v3) rfl rfl Za.kenc28 rfl rfl od rfl (gu (gu dy)) (au (aB ?_))))
     obtain rfl:=osi hq10
     exact aD ((),(lg l4 m11.Claim v3)) (rB rfl) (bu (az aV) (bu (az aV) bz)) rfl
    refine ai ?_
    refine aB ?_
    obtain rfl:=osi hq10
    exact aD ((),l4) (rB rfl) (bu (az aV) (bu (az aV) bz)) rfl
   rintro ⟨_,l9⟩ τ hz;(try dsimp only at hz);subst q10;(try dsimp only at hb6);dsimp only [aw]
   refine ah [39] [(21,pI (IntKind.i64.wrap (v3+1)))] (by kernel_rfl) ?_
   exact aT hb6 () (rB rfl) pu
  refine aM ?_
  refine aq (al hb6 (fun ht=>ap rfl ?_))
  exact aD ((),l4) (oS rfl) pu ht.symm
 rintro ⟨_,l5⟩ τ hz;(try dsimp only at hz);subst q7;(try dsimp only at h);dsimp only [aw]
 refine ae (af h fun l14 hl14 h=>aa (cD 2 [40] [(41,pI (p0.length:Int))] (by kernel_rfl) (aj rfl (pl_make (enc:=eT) rfl rfl rfl rfl rfl rfl rfl rfl rfl hl14 (fun b15=>aP [(11,pO (some ⟨b15,0,none⟩) l14.length l14.length)] (by kernel_rfl) (br (aa (gz 1 [1] [(43,.agg [pI p1.Product,pI p1.Agreement])] (by kernel_rfl) (aj rfl (bR rfl rfl rfl rfl rfl (ko rfl kO) rfl rfl rfl rfl (fun b17=>aP [(12,pO (some ⟨b17,0,none⟩) 1 1)] (by kernel_rfl) (cr h fun q28 hq28 h=>?_))))))))))))
 refine av (Y:=Unit×((List Bool))) (fun (_,l26)=>[(0,pL Zb.enc p0),(11,pO (some ⟨b15,0,none⟩) l14.length l14.length)]) (fun (_,l26)=>[PRes.row (some ⟨b15,0,none⟩) l14.length l14.length 4 1 (List.map eT l26)]) (fun (_,l26)=>q28=Sum.inl l26) ?_ ?_
 ·refine aA ?_
  refine aC (Y:=Option Addr×Nat) (S:=(List Bool)×(List Za)) _ hq28 (fun (a23,c24) (l20,l22)=>[(0,pL Zb.enc p0),(6,.v (.map (some b2))),(11,pO (some ⟨b15,0,none⟩) l14.length l14.length),(12,pO a23 l22.length c24)]) (fun (a23,c24) (l20,l22)=>[PRes.mp (some b2) (ex Za.key vI l5),PRes.row (some ⟨b15,0,none⟩) l14.length l14.length 4 1 (List.map eT l20),PRes.row a23 l22.length c24 28 2 (List.map Za.enc l22)]) ((some ⟨b17,0,none⟩),1) (gI rfl) (bu (az (az (az aV))) (bu (az aV) dl)) ?_
  rintro ⟨a23,c24⟩ ⟨l20,l22⟩ o τ hb27;(try dsimp only at hb27);dsimp only [aw]
  refine ae (ae (ah [45,46] [(47,pB (decide (0<((l22.length:Nat):Int))))] (by kernel_rfl) (bK rfl hb27 (fun hc29 hb27=>?_) fun hc29 hb27=>?_)))
  ·refine ai ?_
   refine aG (ff (af hb27 fun m30 hm30 hb27=>aa (cD 5 [51,52] [(49,.v (.map (some b2))),(50,pO a23 l22.length c24),(53,pI (IntKind.i64.wrap (((l22.length:Nat):Int) - 1)))] (by kernel_rfl) (bh rfl rfl rfl (cW (enc:=Za.enc) (xs:=l22) rfl rfl rfl (.p rfl) zm2 (.p rfl) (fun _=>hm30)) (bh rfl rfl rfl (bW (sz:=2) (p:=.agg [pI m30.Product,pI m30.Agreement]) (enc:=Za.enc) (xs:=l22) (a:=a23) (IntKind.i64.wrap (((l22.length:Nat):Int) - 1)) 0 m30 rfl (.p rfl) rfl zm2 (fun _=>hm30) rfl) (bh rfl rfl rfl (show POpQ _ _ _ _ (.tup [pI ((dm l5 m30).getD (0:Int)),pB ((dm l5 m30).isSome)]) from mB (xs:=l5) (k:=m30) (ek:=Za.key) (vv:=vI) (z0:=(0:Int)) rfl rfl rfl (fun _=>.v rfl) Za.kenc28 (.p rfl) (.p rfl) od (oa fT)) (ji [48,57,58] [(13,pI ((dm l5 m30).getD (0:Int))),(14,pB ((dm l5 m30).isSome))] (by kernel_rfl) (cr hb27 fun l31 hl31 hb27=>aa (cD 4 [60,61] [(59,pO a23 l22.length c24),(62,pI (IntKind.i64.wrap (((l22.length:Nat):Int) - 1)))] (by kernel_rfl) ?_)))))))))
   refine aj rfl (l7 (enc:=Za.enc) (xs:=l22) rfl rfl rfl rfl rfl (by exact az (az aV)) hl31 ?_)
   refine aP [(12,pO a23 l31.length c24)] (by kernel_rfl) (cg (ah [64] [(65,pB (!((dm l5 m30).isSome)))] (by kernel_rfl) (bK rfl hb27 (fun hc33 hb27=>?_) fun hc33 hb27=>?_)))
   ·refine ae ?_
    refine ak [(4,pN),(5,pI 6)] (by kernel_rfl) (aG (fM 4 rfl (bx (am (ar ?_)))))
    refine aF hb27 (fun ht=>?_);subst ht
    refine ar (aJ ?_)
    obtain rfl:=osi h
    exact aO (cC (aN rfl) (aN rfl)) bz ⟨rfl,rfl⟩
   refine ai ?_
   refine cr hb27 fun m34 hm34 hb27=>aa (aI 2 [(66,pO (some ⟨b15,0,none⟩) l14.length l14.length),(67,pI ((dm l5 m30).getD (0:Int)))] (by kernel_rfl) (bh rfl rfl rfl (cW (enc:=eT) (xs:=l20) rfl rfl rfl (.p rfl) zm2 (.p rfl) (fun _=>hm34)) (bh rfl rfl rfl (bW (sz:=1) (p:=pB m34) (enc:=eT) (xs:=l20) (a:=(some ⟨b15,0,none⟩)) ((dm l5 m30).getD (0:Int)) 0 m34 rfl (.p rfl) rfl zm2 (fun _=>hm34) rfl) (aP [(70,pB (!m34))] (by kernel_rfl) (bK rfl hb27 (fun hc35 hb27=>?_) fun hc35 hb27=>?_)))))
   ·refine ae ?_
    refine af hb27 fun m36 hm36 hb27=>aa (aI 2 [(71,pO (some ⟨b15,0,none⟩) l14.length l14.length),(72,pI ((dm l5 m30).getD (0:Int)))] (by kernel_rfl) (bh rfl rfl rfl (cW (enc:=eT) (xs:=l20) rfl rfl rfl (.p rfl) zm2 (.p rfl) (fun _=>hm36)) (aX rfl rfl (lf (enc:=eT) (xs:=l20) (a:=(some ⟨b15,0,none⟩)) ((dm l5 m30).getD (0:Int)) 0 m36 true rfl rfl rfl rfl (fun _=>rfl) rfl rfl hm36 uv (gu (gu dy)) (au (fG hb27 fun m38 hm38 hb27=>af hb27 fun l39 hl39 hb27=>aa (aU 6 [] [75,76,77,78] [(74,pO a23 l31.length c24),(79,pL Za.enc m38.Premises)] (cn 3 Zb.enc hm38 bo) (by kernel_rfl) ?_)))))))
    refine aj rfl (gw (enc:=Za.enc) rfl rfl rfl rfl rfl (fun _=>rfl) rfl rfl rfl (by exact aV) hl39 (fun a40 c41=>?_))
    refine aP [(12,pO a40 l39.length c41)] (by kernel_rfl) (aB ?_)
    exact aT hb27 (a40,c41) (gI rfl) (bu (az aV) (bu (az aV) dl))
   refine ai ?_
   refine aB ?_
   exact aT hb27 (a23,c24) (gI rfl) (bu (az aV) (bu (az aV) dl))
  refine aM ?_
  refine aq (al hb27 (fun ht=>ap rfl ?_))
  exact aD ((),l20) (nT rfl) (bu (az aV) bz) ht.symm
 rintro ⟨_,l26⟩ τ hz;(try dsimp only at hz);subst q28;(try dsimp only at h);dsimp only [aw]
 refine ae (ak [(15,pN)] (by kernel_rfl) (cg (ak [(81,pL Zb.enc p0),(82,pI (p0.length:Int)),(83,pI 0)] (by kernel_rfl) (aG (bO 61 4 (af h fun q53 hq53 h=>?_))))))
 refine av (Y:=(Option Addr×Nat)×((List Zb))) (fun ((a49,c50),l51)=>[(15,pO a49 l51.length c50)]) (fun ((a49,c50),l51)=>[PRes.row a49 l51.length c50 61 4 (List.map Zb.enc l51)]) (fun ((a49,c50),l51)=>q53=l51) ?_ ?_
 ·refine aA ?_
  refine aC (Y:=Option Addr×Nat) (S:=(List Zb)×Int) _ hq53 (fun (a45,c46) (l44,v47)=>[(11,pO (some ⟨b15,0,none⟩) l14.length l14.length),(15,pO a45 l44.length c46),(81,pL Zb.enc p0),(82,pI (p0.length:Int)),(83,pI v47)]) (fun (a45,c46) (l44,v47)=>[PRes.row (some ⟨b15,0,none⟩) l14.length l14.length 4 1 (List.map eT l26),PRes.row a45 l44.length c46 61 4 (List.map Zb.enc l44)]) (none,0) (lQ rfl) (bu (az aV) dl) ?_
  rintro ⟨a45,c46⟩ ⟨l44,v47⟩ o τ hb52;(try dsimp only at hb52);dsimp only [aw]
  refine ae (ak [(84,pB (decide (v47<(p0.length:Int))))] (by kernel_rfl) (br (gM rfl hb52 (fun hc55 hb52=>?_) fun hc55 hb52=>?_)))
  ·refine ai ?_
   refine cr hb52 fun q61 hq61 hb52=>?_
   refine av (Y:=(Option Addr×Nat)×((List Zb))) (fun ((a58,c59),l60)=>[(11,pO (some ⟨b15,0,none⟩) l14.length l14.length),(15,pO a58 l60.length c59),(81,pL Zb.enc p0),(82,pI (p0.length:Int)),(83,pI v47)]) (fun ((a58,c59),l60)=>[PRes.row (some ⟨b15,0,none⟩) l14.length l14.length 4 1 (List.map eT l26),PRes.row a58 l60.length c59 61 4 (List.map Zb.enc l60)]) (fun ((a58,c59),l60)=>q61=l60) ?_ ?_
   ·skip
    refine ff (af hq61 fun m62 hm62 hq61=>aa (aU 3 [] [86] [(85,pI v47),(87,.agg (bP m62))] (cn 1 Zb.enc hm62 bo) (by kernel_rfl) (aj rfl (aQ (cs:=[pI 0,pI 0,pN,pN]) rfl rfl rfl rfl (fun b63=>aI 1 [(16,pI v47)] (by kernel_rfl) (aX rfl rfl (aH (vs:=(bP m62)) rfl rfl rfl rfl rfl dy vV (au (cr hq61 fun m64 hm64 hq61=>aa (aI 2 [(88,pO (some ⟨b15,0,none⟩) l14.length l14.length),(89,pI v47)] (by kernel_rfl) (bh rfl rfl rfl (cW (enc:=eT) (xs:=l26) rfl rfl rfl (.p rfl) uV (.p rfl) (fun _=>hm64)) (bh rfl rfl rfl (bW (sz:=1) (p:=pB m64) (enc:=eT) (xs:=l26) (a:=(some ⟨b15,0,none⟩)) v47 0 m64 rfl (.p rfl) rfl uV (fun _=>hm64) rfl) (au (bK rfl hq61 (fun hc65 hq61=>?_) fun hc65 hq61=>?_))))))))))))))
    ·refine bN (ρd:=[PRes.row a45 _ _ _ _ _]) [(0,0),(1,0),(2,0),(3,0),(4,0),(6,0),(7,0),(5,1),(8,1),(9,0),(10,1),(11,1),(12,0)] _ (bG (az (az aV)) (List.Perm.refl _)) (by kernel_rfl) rfl ?_
     refine af hq61 fun x66 hx66 hq61=>af hq61 fun x67 hx67 hq61=>bY 9 [0,0,0] [93,95,96,98,99] [(92,pO a45 l44.length c46),(94,.agg [pI m62.Claim.Product,pI m62.Claim.Agreement]),(97,pL eI x66),(100,pL Za.enc x67)] (bA 7 (jq hx66) (bA 8 (dF hx67) bo)) (by kernel_rfl) (fR rfl rfl rfl (ut (cs:=[pI m62.Claim.Product,pI m62.Claim.Agreement,pL eI x66,pL Za.enc x67]) rfl rfl rfl rfl rfl rfl rfl (zfc rfl rfl rfl rfl uw (zfc rfl rfl rfl rfl (kh (kh uv)) (zfc rfl rfl rfl rfl (kh (kh (kh uv))) zfn)))) (nN rfl rfl rfl (bR rfl rfl rfl rfl rfl (ko rfl kO) rfl rfl rfl rfl (fun b68=>af hq61 fun l70 hl70 hq61=>?_))))
     refine nN rfl rfl rfl (cQ (enc:=Zb.enc) rfl rfl rfl rfl rfl rfl rfl rfl rfl fT (by exact az aV) hl70 (fun a71 c72=>?_))
     refine fe 1 [(15,pO a71 l70.length c72)] (by kernel_rfl) (cd (aB ?_))
     obtain rfl:=osi hq61
     exact aD ((a71,c72),l70) (lQ rfl) (bu (az (az (az aV))) dl) rfl
    refine ai ?_
    refine aB ?_
    obtain rfl:=osi hq61
    exact aD ((a45,c46),l44) (lQ rfl) (bu (az aV) (bu (az aV) bz)) rfl
   rintro ⟨⟨a58,c59⟩,l60⟩ τ hz;(try dsimp only at hz);subst q61;(try dsimp only at hb52);dsimp only [aw]
   refine ah [104] [(83,pI (IntKind.i64.wrap (v47+1)))] (by kernel_rfl) ?_
   exact aT hb52 (a58,c59) (lQ rfl) pu
  refine aM ?_
  refine aq (al hb52 (fun ht=>ap rfl ?_))
  exact aD ((a45,c46),l44) (uu rfl) (bu (az aV) bz) ht.symm
 rintro ⟨⟨a49,c50⟩,l51⟩ τ hz;(try dsimp only at hz);subst q53;(try dsimp only at h);dsimp only [aw]
 refine ae (ah [105] [(4,pO a49 l51.length c50),(5,pI 0)] (by kernel_rfl) (aG ?_))
 refine dO (enc:=Zb.enc) (xs:=l51) 4 rfl (by exact aV) ?_
 refine bx ?_
 obtain rfl:=osi h
 exact aO (cC (aN rfl) (aN rfl)) bz ⟨rfl,rfl⟩
def cK (p0:(List Za)) (p1:Za):Option Bool:=(bf (S:=Int) (T:=(Unit)⊕(_)) (fun v2=>cond (decide (v2<((p0.length:Nat):Int))) ((idx p0 v2).bind fun m7=>cond (Za.eqb m7 p1) (some (.inr (.inr true))) (some (.inl (IntKind.i64.wrap (v2+1))))) (some (.inr (.inl ())))) FUEL 0).bind fun q=>match q with | .inl _=>some false | .inr e=>some e
theorem gF {p0:(List Za)} {p1:Za} {a_0:Option Addr}  {n_0:Nat}  {c_0:Nat} {r:Bool}  (h:cK p0 p1=some r):PCall 68 [.v (.slice a_0 n_0 c_0),.agg [pI p1.Product,pI p1.Agreement]] [PRes.row a_0 n_0 c_0 28 2 (List.map Za.enc p0)] (fun pv ρ'=>pv=pB r∧ρ'=[PRes.row a_0 n_0 c_0 28 2 (List.map Za.enc p0)]):=by
 unfold cK at h
 refine eP Tryz.func68 rfl Tryz.ntmps68 Tryz.results68 rfl ?_
 refine fB (enc:=Za.enc) (xs:=p0) (a:=a_0) fT (fun hl ha=>?_);subst hl;clear ha
 refine ae (aa (aj rfl (bj (cs:=[pI p1.Product,pI p1.Agreement]) rfl rfl (fun b1=>aZ [4] (by kernel_rfl) (cg (ak [(5,pI 0)] (by kernel_rfl) (fG h fun q5 hq5 h=>?_)))))))
 refine av (Y:=Unit×Unit) (fun (_,_)=>[]) (fun (_,_)=>[PRes.row a_0 p0.length c_0 28 2 (List.map Za.enc p0)]) (fun (_,_)=>q5=Sum.inl ()) ?_ ?_
 ·refine aA ?_
  refine aC (Y:=Unit) (S:=Int) _ hq5 (fun _ v2=>[(0,pO a_0 p0.length c_0),(3,pP b1 0),(5,pI v2)]) (fun _ v2=>[PRes.b b1 28 [pI p1.Product,pI p1.Agreement],PRes.row a_0 p0.length c_0 28 2 (List.map Za.enc p0)]) () (oS rfl) pu ?_
  rintro _ v2 o τ hb4;(try dsimp only at hb4);dsimp only [aw]
  refine ae (ae (ah [6,7,8] [(9,pB (decide (v2<((p0.length:Nat):Int))))] (by kernel_rfl) (bK rfl hb4 (fun hc6 hb4=>?_) fun hc6 hb4=>?_)))
  ·refine ai ?_
   refine br (ff (bN (ρd:=[]) [(0,0),(1,0),(2,0),(3,0),(4,0),(5,0)] _ (List.Perm.refl _) (by kernel_rfl) rfl (af hb4 fun m7 hm7 hb4=>fe 2 [(12,pO a_0 p0.length c_0),(13,pI v2)] (by kernel_rfl) (fR rfl rfl rfl (cW (enc:=Za.enc) (xs:=p0) rfl rfl rfl (.p rfl) uV (.p rfl) (fun _=>hm7)) (fR rfl rfl rfl (bW (sz:=2) (p:=.agg [pI m7.Product,pI m7.Agreement]) (enc:=Za.enc) (xs:=p0) (a:=a_0) v2 0 m7 rfl (.p rfl) rfl uV (fun _=>hm7) rfl) (bY 2 [0] [16] [(17,pB (Za.eqb m7 p1))] (rG 1 Za.eqok28 bo) (by kernel_rfl) (cd (bK rfl hb4 (fun hc8 hb4=>?_) fun hc8 hb4=>?_))))))))
   ·refine ae ?_
    refine dn [(4,pB true)] (by kernel_rfl) (eV ?_)
    refine aF hb4 (fun ht=>?_);subst ht
    refine ar (aJ ?_)
    obtain rfl:=osi h
    exact aO (cJ (aN rfl)) (bu (az aV) bz) ⟨rfl,rfl⟩
   refine ai ?_
   refine dY (ah [10,11] [(5,pI (IntKind.i64.wrap (v2+1)))] (by kernel_rfl) ?_)
   exact aT hb4 () (oS rfl) pu
  refine aM ?_
  refine aq (al hb4 (fun ht=>ap rfl ?_))
  exact aD ((),()) kl (bu (az aV) bz) ht.symm
 rintro ⟨_,_⟩ τ hz;(try dsimp only at hz);subst q5;(try dsimp only at h);dsimp only [aw]
 refine ae (dn [(4,pB false)] (by kernel_rfl) ?_)
 obtain rfl:=osi h
 exact aO (cJ (aN rfl)) dl ⟨rfl,rfl⟩
def fE (p0:(List Zb)) (p1:Za):Option Int:=(bf (S:=Int) (T:=(Unit)⊕(_)) (fun v2=>cond (decide (v2<(p0.length:Int))) ((idx p0 v2).bind fun m6=>cond (Za.eqb m6.Claim p1) (some (.inr (.inr v2))) (some (.inl (IntKind.i64.wrap (v2+1))))) (some (.inr (.inl ())))) FUEL 0).bind fun q=>match q with | .inl _=>some (-1) | .inr e=>some e
theorem kx {p0:(List Zb)} {p1:Za} {r:Int}  (h:fE p0 p1=some r):PF 84 [pL Zb.enc p0,.agg [pI p1.Product,pI p1.Agreement]] (pI r):=by
 unfold fE at h
 refine aY ?_
 refine dw Tryz.func84 rfl Tryz.ntmps84 Tryz.results84 rfl (aa (aj rfl (bj (cs:=[pI p1.Product,pI p1.Agreement]) rfl rfl (fun b1=>aZ [4] (by kernel_rfl) (cg (ak [(5,pI 0)] (by kernel_rfl) (fG h fun q4 hq4 h=>?_)))))))
 refine av (Y:=Unit×Unit) (fun (_,_)=>[]) (fun (_,_)=>[]) (fun (_,_)=>q4=Sum.inl ()) ?_ ?_
 ·refine aA ?_
  refine aC (Y:=Unit) (S:=Int) _ hq4 (fun _ v2=>[(0,pL Zb.enc p0),(3,pP b1 0),(5,pI v2)]) (fun _ v2=>[PRes.b b1 28 [pI p1.Product,pI p1.Agreement]]) () (oS rfl) dl ?_
  rintro _ v2 o τ hb3;(try dsimp only at hb3);dsimp only [aw]
  refine ae (ae (ah [6,7,8] [(9,pB (decide (v2<(p0.length:Int))))] (by kernel_rfl) (bK rfl hb3 (fun hc5 hb3=>?_) fun hc5 hb3=>?_)))
  ·refine ai ?_
   refine br (ff (bN (ρd:=[]) [(0,0),(1,0),(2,0),(3,0),(4,0),(5,0),(6,0)] _ (List.Perm.refl _) (by kernel_rfl) rfl (af hb3 fun m6 hm6 hb3=>bY 7 [0] (rg 12 6) [(18,pB (Za.eqb m6.Claim p1))] (cn 2 Zb.enc hm6 (rG 6 Za.eqok28 bo)) (by kernel_rfl) (cd (bK rfl hb3 (fun hc7 hb3=>?_) fun hc7 hb3=>?_)))))
   ·refine ae ?_
    refine ah [19] [(4,pI v2)] (by kernel_rfl) (df (eV ?_))
    refine aF hb3 (fun ht=>?_);subst ht
    refine ar (aJ ?_)
    exact zz r h rfl
   refine ai ?_
   refine dY (ah [10,11] [(5,pI (IntKind.i64.wrap (v2+1)))] (by kernel_rfl) ?_)
   exact aT hb3 () (oS rfl) dl
  refine aM ?_
  refine aq (al hb3 (fun ht=>ap rfl ?_))
  exact aD ((),()) kl bz ht.symm
 rintro ⟨_,_⟩ τ hz;(try dsimp only at hz);subst q4;(try dsimp only at h);dsimp only [aw]
 refine ae (dn [(4,pI (-1))] (by kernel_rfl) ?_)
 exact zz r h rfl
def iu (p0:(List Zb)) (p1:Za):Option ((List Zb)×Int):=(bf (S:=(List Za)×Int) (T:=((List Za))⊕(_)) (fun (l5,v8)=>cond (decide (v8<((l5.length:Nat):Int))) ((idx l5 v8).bind fun m16=>(fE p0 m16).bind fun x17=>cond (decide (x17<0)) (some (.inr (.inr ([],(6:Int))))) ((bf (S:=(List Za)×Int) (T:=((List Za))) (fun (l20,v23)=>(idx p0 x17).bind fun m30=>cond (decide (v23<(m30.Premises.length:Int))) (((idx p0 x17).bind fun m37=>(idx m37.Premises v23).bind fun m38=>(cK l20 m38).bind fun x39=>cond (!x39) ((idx p0 x17).bind fun m41=>(idx m41.Premises v23).bind fun m42=>(app 16 l20 [m42]).bind fun l45=>some l45) (some l20)).bind fun l35=>some (.inl (l35,(IntKind.i64.wrap (v23+1))))) (some (.inr l20))) FUEL (l5,0)).bind fun l27=>some (.inl (l27,(IntKind.i64.wrap (v8+1)))))) (some (.inr (.inl l5)))) FUEL ([p1],0)).bind fun q=>match q with | .inl l12=>(bf (S:=(List Zb)×Int) (T:=((List Zb))) (fun (l51,v54)=>cond (decide (v54<(p0.length:Int))) (((idx p0 v54).bind fun m69=>(cK l12 m69.Claim).bind fun x70=>(gd x70 (idx p0 v54)).bind fun m71=>(gd x70 (fE p0 m71.Claim)).bind fun x72=>cond (x70&&(x72 == v54)) ((idx p0 v54).bind fun m74=>(app 64 l51 [m74]).bind fun l77=>some l77) (some l51)).bind fun l67=>some (.inl (l67,(IntKind.i64.wrap (v54+1))))) (some (.inr l51))) FUEL (([]:List Zb),0)).bind (fun l58=>some (l58,(0:Int))) | .inr e=>some e
theorem o4 {p0:(List Zb)} {p1:Za} {r:((List Zb)×Int)}  (h:iu p0 p1=some r):PF 36 [pL Zb.enc p0,.agg [pI p1.Product,pI p1.Agreement]] (.tup [pL Zb.enc r.1,pI r.2]):=by
 unfold iu at h
 refine aY ?_
 refine dw Tryz.func36 rfl Tryz.ntmps36 Tryz.results36 rfl (aa (aj rfl (bj (cs:=[pI p1.Product,pI p1.Agreement]) rfl rfl (fun b1=>aZ [4,5] (by kernel_rfl) (br (aa (gz 1 [0] [(12,.agg [pI p1.Product,pI p1.Agreement])] (by kernel_rfl) (aj rfl (bR rfl rfl rfl rfl rfl (ko rfl kO) rfl rfl rfl rfl (fun b2=>aP [(6,pO (some ⟨b2,0,none⟩) 1 1)] (by kernel_rfl) (cg (ak [(7,pI 0)] (by kernel_rfl) (fG h fun q14 hq14 h=>?_)))))))))))))
 refine av (Y:=(Option Addr×Nat)×((List Za))) (fun ((a10,c11),l12)=>[(0,pL Zb.enc p0),(6,pO a10 l12.length c11)]) (fun ((a10,c11),l12)=>[PRes.row a10 l12.length c11 28 2 (List.map Za.enc l12)]) (fun ((a10,c11),l12)=>q14=Sum.inl l12) ?_ ?_
 ·refine aA ?_
  refine aC (Y:=Option Addr×Nat) (S:=(List Za)×Int) _ hq14 (fun (a6,c7) (l5,v8)=>[(0,pL Zb.enc p0),(6,pO a6 l5.length c7),(7,pI v8)]) (fun (a6,c7) (l5,v8)=>[PRes.row a6 l5.length c7 28 2 (List.map Za.enc l5)]) ((some ⟨b2,0,none⟩),1) (oS rfl) dl ?_
  rintro ⟨a6,c7⟩ ⟨l5,v8⟩ o τ hb13;(try dsimp only at hb13);dsimp only [aw]
  refine ae (ae (ah [14,15,16] [(17,pB (decide (v8<((l5.length:Nat):Int))))] (by kernel_rfl) (bK rfl hb13 (fun hc15 hb13=>?_) fun hc15 hb13=>?_)))
  ·refine ai ?_
   refine br (ff (af hb13 fun m16 hm16 hb13=>aa (aI 3 [(20,pL Zb.enc p0),(21,pO a6 l5.length c7),(22,pI v8)] (by kernel_rfl) (bh rfl rfl rfl (cW (enc:=Za.enc) (xs:=l5) rfl rfl rfl (.p rfl) fT (.p rfl) (fun _=>hm16)) (bh rfl rfl rfl (bW (sz:=2) (p:=.agg [pI m16.Product,pI m16.Agreement]) (enc:=Za.enc) (xs:=l5) (a:=a6) v8 0 m16 rfl (.p rfl) rfl fT (fun _=>hm16) rfl) (af hb13 fun x17 hx17 hb13=>eB [] [25] [(8,pI x17)] (bA 0 (kx hx17) bo) (by kernel_rfl) (cg (ah [26] [(27,pB (decide (x17<0)))] (by kernel_rfl) (bK rfl hb13 (fun hc18 hb13=>?_) fun hc18 hb13=>?_)))))))))
   ·refine ae ?_
    refine ak [(4,pN),(5,pI 6)] (by kernel_rfl) (aG (fM 4 rfl (bx (am (eV ?_)))))
    refine aF hb13 (fun ht=>?_);subst ht
    refine ar (aJ ?_)
    obtain rfl:=osi h
    exact aO (cC (aN rfl) (aN rfl)) bz ⟨rfl,rfl⟩
   refine ai ?_
   refine br (ak [(9,pI 0)] (by kernel_rfl) (fG hb13 fun q29 hq29 hb13=>?_))
   refine nG (Y:=(Option Addr×Nat)×((List Za))) (fun ((a25,c26),l27)=>[(0,pL Zb.enc p0),(6,pO a25 l27.length c26),(7,pI v8)]) (fun ((a25,c26),l27)=>[PRes.row a25 l27.length c26 28 2 (List.map Za.enc l27)]) (fun ((a25,c26),l27)=>q29=l27) ?_ ?_
   ·refine aA ?_
    refine aC (Y:=Option Addr×Nat) (S:=(List Za)×Int) _ hq29 (fun (a21,c22) (l20,v23)=>[(0,pL Zb.enc p0),(6,pO a21 l20.length c22),(7,pI v8),(8,pI x17),(9,pI v23)]) (fun (a21,c22) (l20,v23)=>[PRes.row a21 l20.length c22 28 2 (List.map Za.enc l20)]) (a6,c7) (lQ rfl) dl ?_
    rintro ⟨a21,c22⟩ ⟨l20,v23⟩ o τ hb28;(try dsimp only at hb28);dsimp only [aw]
    refine ae (ae (af hb28 fun m30 hm30 hb28=>an [] (rg 28 7) [(35,pB (decide (v23<(m30.Premises.length:Int))))] (cn 3 Zb.enc hm30 bo) (by kernel_rfl) (bK rfl hb28 (fun hc31 hb28=>?_) fun hc31 hb28=>?_)))
    ·refine ai ?_
     refine cr hb28 fun q36 hq36 hb28=>?_
     refine av (Y:=(Option Addr×Nat)×((List Za))) (fun ((a33,c34),l35)=>[(0,pL Zb.enc p0),(6,pO a33 l35.length c34),(7,pI v8),(8,pI x17),(9,pI v23)]) (fun ((a33,c34),l35)=>[PRes.row a33 l35.length c34 28 2 (List.map Za.enc l35)]) (fun ((a33,c34),l35)=>q36=l35) ?_ ?_
     ·skip
      refine ff (af hq36 fun m37 hm37 hq36=>af hq36 fun m38 hm38 hq36=>af hq36 fun x39 hx39 hq36=>aa (aU 9 [] (rg 39 7) [(38,pO a21 l20.length c22),(46,.agg [pI m38.Product,pI m38.Agreement])] (cn 3 Zb.enc hm37 (cn 7 Za.enc hm38 bo)) (by kernel_rfl) ?_))
      refine aj rfl (co rfl rfl (ρ1:=[_]) (bG (by exact aV) (List.Perm.refl _)) (gF hx39) ?_);rintro _ _ ⟨rfl,rfl⟩
      refine aP [(48,pB (!x39))] (by kernel_rfl) (bK rfl hq36 (fun hc40 hq36=>?_) fun hc40 hq36=>?_)
      ·refine af hq36 ?_;clear hq36;intro m41 hm41 hq36
       refine af hq36 fun m42 hm42 hq36=>aa (aU 9 [] (rg 50 7) [(49,pO a21 l20.length c22),(57,.agg [pI m42.Product,pI m42.Agreement])] (cn 3 Zb.enc hm41 (cn 7 Za.enc hm42 bo)) (by kernel_rfl) (aj rfl (bR rfl rfl rfl rfl rfl (ko rfl kO) rfl rfl rfl rfl (fun b43=>af hq36 fun l45 hl45 hq36=>?_))))
       refine aj rfl (cQ (enc:=Za.enc) rfl rfl rfl rfl rfl rfl rfl rfl rfl fT (by exact az aV) hl45 (fun a46 c47=>?_))
       refine aP [(6,pO a46 l45.length c47)] (by kernel_rfl) (aB ?_)
       obtain rfl:=osi hq36
       exact aD ((a46,c47),l45) (lQ rfl) dl rfl
      refine ai ?_
      refine aB ?_
      obtain rfl:=osi hq36
      exact aD ((a21,c22),l20) (lQ rfl) dl rfl
     rintro ⟨⟨a33,c34⟩,l35⟩ τ hz;(try dsimp only at hz);subst q36;(try dsimp only at hb28);dsimp only [aw]
     refine ah [36,37] [(9,pI (IntKind.i64.wrap (v23+1)))] (by kernel_rfl) ?_
     exact aT hb28 (a33,c34) (lQ rfl) dl
    refine aM ?_
    refine aq (al hb28 (fun ht=>ap rfl ?_))
    exact sA ((a21,c22),l20) (oS rfl) dl ht.symm
   rintro ⟨⟨a25,c26⟩,l27⟩ τ ρ1 hsub49 hz;(try dsimp only at hz hsub49);subst q29;(try dsimp only at hb13);dsimp only [aw]
   refine dY (mZ hsub49 (ah [18,19] [(7,pI (IntKind.i64.wrap (v8+1)))] (by kernel_rfl) ?_))
   exact aT hb13 (a25,c26) (oS rfl) dl
  refine aM ?_
  refine aq (al hb13 (fun ht=>ap rfl ?_))
  exact aD ((a6,c7),l5) (nT rfl) dl ht.symm
 rintro ⟨⟨a10,c11⟩,l12⟩ τ hz;(try dsimp only at hz);subst q14;(try dsimp only at h);dsimp only [aw]
 refine ae (ak [(10,pN)] (by kernel_rfl) (cg (ak [(11,pI 0)] (by kernel_rfl) (aG (bO 61 4 (af h fun q60 hq60 h=>?_))))))
 refine av (Y:=(Option Addr×Nat)×((List Zb))) (fun ((a56,c57),l58)=>[(10,pO a56 l58.length c57)]) (fun ((a56,c57),l58)=>[PRes.row a56 l58.length c57 61 4 (List.map Zb.enc l58)]) (fun ((a56,c57),l58)=>q60=l58) ?_ ?_
 ·refine aA ?_
  refine aC (Y:=Option Addr×Nat) (S:=(List Zb)×Int) _ hq60 (fun (a52,c53) (l51,v54)=>[(0,pL Zb.enc p0),(6,pO a10 l12.length c11),(10,pO a52 l51.length c53),(11,pI v54)]) (fun (a52,c53) (l51,v54)=>[PRes.row a52 l51.length c53 61 4 (List.map Zb.enc l51),PRes.row a10 l12.length c11 28 2 (List.map Za.enc l12)]) (none,0) (gI rfl) pu ?_
  rintro ⟨a52,c53⟩ ⟨l51,v54⟩ o τ hb59;(try dsimp only at hb59);dsimp only [aw]
  refine ae (ae (ah [60,61,62] [(63,pB (decide (v54<(p0.length:Int))))] (by kernel_rfl) (bK rfl hb59 (fun hc62 hb59=>?_) fun hc62 hb59=>?_)))
  ·refine ai ?_
   refine cr hb59 fun q68 hq68 hb59=>?_
   refine av (Y:=(Option Addr×Nat)×((List Zb))) (fun ((a65,c66),l67)=>[(0,pL Zb.enc p0),(6,pO a10 l12.length c11),(10,pO a65 l67.length c66),(11,pI v54)]) (fun ((a65,c66),l67)=>[PRes.row a10 l12.length c11 28 2 (List.map Za.enc l12),PRes.row a65 l67.length c66 61 4 (List.map Zb.enc l67)]) (fun ((a65,c66),l67)=>q68=l67) ?_ ?_
   ·skip
    refine ff (af hq68 fun m69 hm69 hq68=>af hq68 fun x70 hx70 hq68=>aa (aU 6 [] [67,68,69,70] [(66,pO a10 l12.length c11),(71,.agg [pI m69.Claim.Product,pI m69.Claim.Agreement])] (cn 3 Zb.enc hm69 bo) (by kernel_rfl) ?_))
    refine aj rfl (co rfl rfl (ρ1:=[_]) (bG (by exact az aV) (List.Perm.refl _)) (gF hx70) ?_);rintro _ _ ⟨rfl,rfl⟩
    refine af hq68 fun m71 hm71 hq68=>af hq68 fun x72 hx72 hq68=>eB [] (rg 73 10) [(83,pB (x70&&(x72 == v54)))] (gX 4 Zb.enc (dj hm71) (dR 7 (fun hc=>kx (dj hx72 hc)) bo)) (by kernel_rfl) (bK rfl hq68 (fun hc73 hq68=>?_) fun hc73 hq68=>?_)
    ·refine af hq68 ?_;clear hq68;intro m74 hm74 hq68
     refine aa (aU 5 [] [85,86,87] [(84,pO a52 l51.length c53),(88,.agg (bP m74))] (cn 3 Zb.enc hm74 bo) (by kernel_rfl) (aj rfl (bR rfl rfl rfl rfl rfl (ko rfl kO) rfl rfl rfl rfl (fun b75=>af hq68 fun l77 hl77 hq68=>?_))))
     refine aj rfl (cQ (enc:=Zb.enc) rfl rfl rfl rfl rfl rfl rfl rfl rfl fT (by exact az (az aV)) hl77 (fun a78 c79=>?_))
     refine aP [(10,pO a78 l77.length c79)] (by kernel_rfl) (aB ?_)
     obtain rfl:=osi hq68
     exact aD ((a78,c79),l77) (gI rfl) (bu (az (az aV)) dl) rfl
    refine ai ?_
    refine aB ?_
    obtain rfl:=osi hq68
    exact aD ((a52,c53),l51) (gI rfl) pu rfl
   rintro ⟨⟨a65,c66⟩,l67⟩ τ hz;(try dsimp only at hz);subst q68;(try dsimp only at hb59);dsimp only [aw]
   refine ah [64,65] [(11,pI (IntKind.i64.wrap (v54+1)))] (by kernel_rfl) ?_
   exact aT hb59 (a65,c66) (gI rfl) (bu (az aV) dl)
  refine aM ?_
  refine aq (al hb59 (fun ht=>ap rfl ?_))
  exact aD ((a52,c53),l51) (uu rfl) dl ht.symm
 rintro ⟨⟨a56,c57⟩,l58⟩ τ hz;(try dsimp only at hz);subst q60;(try dsimp only at h);dsimp only [aw]
 refine ae (ah [91] [(4,pO a56 l58.length c57),(5,pI 0)] (by kernel_rfl) (aG ?_))
 refine dO (enc:=Zb.enc) (xs:=l58) 4 rfl (by exact aV) ?_
 refine bx ?_
 obtain rfl:=osi h
 exact aO (cC (aN rfl) (aN rfl)) bz ⟨rfl,rfl⟩
end SX
namespace SX
open Go
abbrev bl (s:ByteArray):List UInt8:=s.data.toList
theorem bl_hi (s:ByteArray) (k:Nat):bl (s.extract 0 k)=(bl s).take k:=by simp [bl]
theorem bl_lo (s:ByteArray) (k:Nat):bl (s.extract k s.size)=(bl s).drop k:=by
  simp only [bl,ByteArray.data_extract,Array.toList_extract,List.extract_eq_take_drop]
  rw [List.take_of_length_le];simp
theorem hU (s:ByteArray):s.size=(bl s).length:=by simp [bl]
theorem bl_inj {s u:ByteArray} (h:bl s=bl u):s=u:=by
  obtain ⟨⟨x⟩⟩:=s;obtain ⟨⟨y⟩⟩:=u;simp [bl] at h;subst h;rfl
def iI (n:Nat):Bool:=decide (48≤n∧n≤57)
def db (p:Nat→Bool):List Value:=(List.range 256).map fun i=>.bool (p i)
theorem cV (p:Nat→Bool):(db p).length=256:=by simp [db]
theorem hX (p:Nat→Bool) {j:Nat} (h:j<256):(db p)[j]?=some (.bool (p j)):=by simp [db,h]
theorem qF (p q:Nat→Bool) {j:Nat} (h:∀ i,q i=(decide (i=j)||p i)):(db p).set j (.bool true)=db q:=by
  apply List.ext_getElem?
  intro i
  rw [List.getElem?_set]
  simp only [cV]
  rcases Nat.lt_or_ge i 256 with hi | hi
  · rw [hX q hi,hX p hi,h i]
    by_cases e:j=i
    · subst e;simp [hi]
    · rw [if_neg e];simp [show ¬ i=j from fun h=>e h.symm]
  · rw [List.getElem?_eq_none (by rw [cV];exact hi),List.getElem?_eq_none (by rw [cV];exact hi)]
    split
    · rw [if_neg (by omega)]
    · rfl
section
variable {o:Oper} {σ:Env} {ρ:List Res} {κ:Kr} {c:Bool} {x y:Operand} {K:Value→List Res→Kr→Prop}
theorem Sh.at1 {b k:Nat} {cs:List Value} {v:Value} (h:Sh κ b 0 cs) (hv:cs[k]?=some v):Sh κ b (0+k*1) [v]:=⟨h.1,fun j u hu=>by
  cases j with
  | zero=>simp at hu;subst hu;have:=h.2 k v hv;simpa using this
  | succ j=>simp at hu⟩
theorem rT {t b T sz by':Nat} {cs:List Value} {z:Value} {d:TypeDesc} (ho:o.op=.load t x) (hx:Ev σ c x (.pointer (some ⟨b,0,none⟩))) (hm:Res.b b T cs∈ρ) (hd:cP t=some d) (ha:fJ d=true) (hi:dG t=some (z,sz,by')) (hl:cs.length=sz):OpQ c o σ ρ κ (.agg cs.toArray):=by
  refine pg ho hx hm ?_
  unfold fK
  simp only [hd,hi,ha,cond_true,List.drop_zero]
  rw [Nat.ble_eq_true_of_le (by omega)]
  simp [← hl]
end
attribute [local irreducible] WL WC WD OpL OpQ OpG Ev GuardIs sn gJ vk Call CallP midK nD Holds nk Sub Pick WS Step Lit Upd SetAt SpliceAt FillR Sh LateRun
theorem mE (κ:Kr) (b:Nat) (p:Nat→Bool) (m:Int) (hs:Sh κ b 0 (db p)) (h0:0≤m) (h1:m≤255):CallP 204 [.pointer (some ⟨b,0,none⟩),.int .u8 m] κ fun v _=>v=.bool (p m.toNat):=by
  (unfold CallP;apply jz Tryz.func204 (w7 Tryz.func204 rfl) rfl Tryz.ntmps204 Tryz.results204 rfl)
  repeat (first | (first | (apply cw rfl rfl rfl;(focus (first | exact bp (v:=(.int _ _)) rfl (.p rfl) | exact bp (v:=(.pointer _)) rfl (.p rfl) | exact bC (v:=(.bool _)) rfl (.p rfl) | exact kj rfl (.p rfl)))) | apply bT) | (first | apply cb | apply bg | apply ca))
  apply cw rfl rfl rfl (pn (j:=m.toNat) rfl rfl rfl (.p rfl) (.p rfl) (fun _=>by omega) (fun _=>by omega))
  apply cw rfl rfl rfl (lT rfl (.p rfl) (fun _=>(hs.mono (by (repeat (exact Kle.refl _)))).at1 (hX p (by omega))) rfl)
  repeat (first | (first | (apply cw rfl rfl rfl;(focus (exact bC (v:=(.bool _)) rfl (.p rfl)))) | apply bT) | (first | apply ca | apply ib))
  exact iR (qj (v:=.bool _) rfl) .none ⟨rfl,rfl⟩
def fi:ByteArray:=⟨#[48,49,50,51,52,53,54,55,56,57]⟩
theorem qG:∀ {k:Nat},k<10→((fi.data.toList.getD k 0).toNat:Int)=48+(k:Int):=by decide
theorem wG (κ:Kr):CallP 180 [.string fi] κ fun v _=>v=.tuple #[.agg (db iI).toArray,.bool true]:=by
  (unfold CallP;apply jz Tryz.func180 (w7 Tryz.func180 rfl) rfl Tryz.ntmps180 Tryz.results180 rfl)
  repeat (first | (first | (apply cw rfl rfl rfl;(focus (first | exact bC (v:=(.int _ _)) rfl (.p rfl) | exact bC (v:=(.bool _)) rfl (.p rfl)))) | (apply qP rfl rfl rfl;apply ph rfl rfl;intro _ _ _) | apply bT) | (first | apply cb | apply bg | apply fI | apply ca))
  rename_i b2 κ1 _
  have e0:List.replicate 256 (Value.bool false)=db (fun i=>decide (48≤i∧i<48+0)):=by
    apply List.ext_getElem?
    intro i
    rcases Nat.lt_or_ge i 256 with hi | hi
    · rw [hX _ hi,List.getElem?_replicate,if_pos hi];congr 2;symm;rw [decide_eq_false_iff_not];omega
    · rw [List.getElem?_eq_none (by simpa using hi),List.getElem?_eq_none (by rw [cV];exact hi)]
  rw [e0]
  refine lA (X:=Nat) (fun k=>[(0,.string fi),(2,.pointer (some ⟨b2,0,none⟩)),(4,.int .i64 (k:Int))]) (fun k=>[Res.b b2 243 (db fun i=>decide (48≤i∧i<48+k))]) (fun k _=>k≤10) (fun k=>10 - k) 0 (by (repeat (first | exact Holds.nil | apply Holds.cons rfl))) (by (repeat (first | exact Sub.nil | (apply Sub.cons;(focus (repeat (exact Pick.h))))))) (by omega) ?_
  intro k τ κ2 _ hk
  simp only [nk]
  repeat (first | (first | (apply cw rfl rfl rfl;(focus (first | exact bp (v:=(.int _ _)) rfl (.p rfl) | exact bp (v:=(.string _)) rfl (.p rfl) | exact jv rfl (.p rfl) (.p rfl) rfl | exact iE rfl rfl (.p rfl)))) | apply bT) | (first | apply cb | apply bg | apply ca))
  apply qm rfl <;> intro hc
  · have hk10:k<10:=by
      have e:(fi.size:Int)=10:=rfl
      rw [e] at hc;omega
    repeat (first | (apply cw rfl rfl rfl;(focus (first | exact bp (v:=(.int _ _)) rfl (.p rfl) | exact bp (v:=(.string _)) rfl (.p rfl)))) | (first | apply cb | apply bg | apply fI | apply ca | apply fH))
    apply cw rfl rfl rfl (i6 (s:=fi) (j:=k) rfl rfl (.p rfl) (.p rfl) (fun _=>rfl) (fun _=>hk10))
    rw [qG hk10]
    repeat (first | (first | (apply cw rfl rfl rfl;(focus (first | exact bp (v:=(.int _ _)) rfl (.p rfl) | exact bC (v:=(.int _ _)) rfl (.p rfl) | exact jv rfl (.p rfl) (.p rfl) rfl))) | apply bT) | (first | apply cb | apply bg | apply ca))
    apply vb (by have:¬ (128:Int)≤48+(k:Int):=by omega
                 simp [ev,upd,this])
    repeat (first | (apply cw rfl rfl rfl;(focus (exact bp (v:=(.int _ _)) rfl (.p rfl)))) | (first | apply bg | apply ca | apply fH))
    apply cw rfl rfl rfl (pn (j:=48+k) rfl rfl rfl (.p rfl) (.p rfl) (fun _=>by omega) (fun _=>by omega))
    apply td rfl rfl
    apply uh (v:=.bool true) rfl rfl rfl rfl rfl rfl (by (repeat (exact Upd.h))) (by rw [cV];omega)
    intro κ3 _
    have e1:(db fun i=>decide (48≤i∧i<48+k)).set (0+(48+k)*1) (.bool true)=db fun i=>decide (48≤i∧i<48+(k+1)) :=
      qF _ _ fun i=>by rw [Bool.eq_iff_iff];simp;omega
    rw [e1]
    repeat (first | (first | (apply cw rfl rfl rfl;(focus (first | exact bp (v:=(.int _ _)) rfl (.p rfl) | exact bC (v:=(.int _ _)) rfl (.p rfl) | exact jx rfl (.p rfl) (.p rfl) rfl (fun _=>by omega)))) | apply bT) | (first | apply bg | apply ca | apply kL))
    exact qi (k+1) (by (repeat (first | exact Holds.nil | apply Holds.cons rfl))) (by (repeat (first | exact Sub.nil | (apply Sub.cons;(focus (repeat (exact Pick.h))))))) (by omega) (by omega)
  · have hk10:k=10:=by
      have e:(fi.size:Int)=10:=rfl
      rw [e] at hc;omega
    subst hk10
    have e2:(fun i=>decide (48≤i∧i<48+10))=iI:=by funext i;simp only [iI];rw [Bool.eq_iff_iff];simp;omega
    rw [e2]
    apply jt;apply gg;apply fA;apply gh rfl;apply ca;apply cb;apply bg
    apply cw rfl rfl rfl (rT rfl (.p rfl) (by (repeat (exact List.Mem.head _))) rfl rfl rfl (cV _))
    apply td rfl rfl
    apply pj rfl rfl rfl rfl (cV _) (by simp [db,Value.oneCell']) (by (repeat (exact Upd.h))) rfl
    intro κ3 _
    repeat (first | (first | (apply cw rfl rfl rfl;(focus (exact bC (v:=(.bool _)) rfl (.p rfl)))) | apply bT) | (first | apply ca | apply ib))
    refine iR (rv_2 (RV1.cell rfl (by (repeat (exact List.Mem.head _))) ?_) (rv1_t (v:=.bool _) rfl)) .none ⟨rfl,rfl⟩
    unfold fK
    simp only [show cP 243=some (.array 256 4) from rfl,show dG 243=some (.agg (List.replicate 256 (.bool false)).toArray,256,256) from rfl,fJ,cond_true,List.drop_zero,cV]
    rw [List.take_of_length_le (by rw [cV];omega)];rfl
theorem nj {l:List UInt8} {j:Nat} (h:j<l.length):l.getD j 0=l[j]:=by simp [List.getD_eq_getElem?_getD,h]
theorem qH (κ:Kr) (b:Nat) (s:ByteArray) (hs:Sh κ b 0 (db iI)) (hz:s.size≤1000000000):CallP 182 [.string s,.pointer (some ⟨b,0,none⟩)] κ fun v _=>∃ u k,v=.string u∧bl u=(bl s).take k∧k≤(bl s).length∧(∀ c∈(bl s).drop k,iI c.toNat=true)∧(∀ c,(bl u).getLast?=some c→iI c.toNat=false):=by
  (unfold CallP;apply jz Tryz.func182 (w7 Tryz.func182 rfl) rfl Tryz.ntmps182 Tryz.results182 rfl)
  repeat (first | (first | (apply cw rfl rfl rfl;(focus (exact bC (v:=(.string _)) rfl (.p rfl)))) | apply bT) | (first | apply cb | apply bg | apply fI | apply ca))
  refine lA (X:=ByteArray×Nat) (fun z=>[(0,.string z.1),(1,.pointer (some ⟨b,0,none⟩))]) (fun _=>[]) (fun z _=>bl z.1=(bl s).take z.2∧z.2≤(bl s).length∧∀ c∈(bl s).drop z.2,iI c.toNat=true) (fun z=>z.2) (s,(bl s).length) (by (repeat (first | exact Holds.nil | apply Holds.cons rfl))) (by (repeat (exact Sub.nil))) ⟨(List.take_length).symm,Nat.le_refl _,by rw [List.drop_length];simp⟩ ?_
  rw [hU] at hz
  rintro ⟨u,k⟩ τ κ2 _ ⟨h1,h2,h3⟩
  dsimp only at h1 h2 h3
  have hsz:u.size=k:=by rw [hU,h1,List.length_take];omega
  simp only [nk]
  repeat (first | (first | (apply cw rfl rfl rfl;(focus (first | exact bp (v:=(.string _)) rfl (.p rfl) | exact jv rfl (.p rfl) (.p rfl) rfl | exact iE rfl rfl (.p rfl)))) | apply bT) | (first | apply cb | apply bg | apply ca))
  apply qm rfl <;> intro hc
  · have hk0:0<k:=by omega
    repeat (first | (apply cw rfl rfl rfl;(focus (first | exact bp (v:=(.pointer _)) rfl (.p rfl) | exact bp (v:=(.string _)) rfl (.p rfl) | exact jx rfl (.p rfl) (.p rfl) rfl (fun _=>by omega) | exact iE rfl rfl (.p rfl)))) | (first | apply cb | apply bg | apply fI | apply ca | apply fH))
    apply cw rfl rfl rfl (i6 (j:=k - 1) rfl rfl (.p rfl) (.p rfl) (fun _=>by omega) (fun _=>by omega))
    have hlast:(bl u).getLast?=some ((bl u).getD (k - 1) 0):=by
      rw [List.getLast?_eq_getElem?,← hU,hsz,nj (by rw [← hU];omega),List.getElem?_eq_getElem]
    apply qP rfl rfl rfl;apply i7 rfl rfl (mE _ b iI ((u.data.toList.getD (k - 1) 0).toNat:Int) (hs.mono (by (repeat (assumption)))) (by omega) (by have:=(u.data.toList.getD (k - 1) 0).toNat_lt;omega))
    rintro v κ3 _ rfl
    repeat (first | (first | (apply cw rfl rfl rfl;(focus (exact sq rfl (.p rfl)))) | apply bT) | (apply ca))
    rw [Int.toNat_natCast]
    apply gY rfl <;> intro hb
    · repeat (first | (first | (apply cw rfl rfl rfl;(focus (first | exact bp (v:=(.string _)) rfl (.p rfl) | exact bC (v:=(.string _)) rfl (.p rfl)))) | apply bT) | (first | apply cb | apply bg | apply ca | apply ib | apply jt | apply gg | apply gh rfl | apply nC rfl | apply fA))
      refine iR (qj (v:=.string _) rfl) .none ⟨rfl,u,k,rfl,h1,h2,h3,fun c hc=>?_⟩
      rw [hlast] at hc;injection hc with hc;subst hc;simpa using hb
    · repeat (first | (apply cw rfl rfl rfl;(focus (first | exact bp (v:=(.string _)) rfl (.p rfl) | exact jx rfl (.p rfl) (.p rfl) rfl (fun _=>by omega) | exact iE rfl rfl (.p rfl)))) | (first | apply bg | apply ca | apply fH))
      apply cw rfl rfl rfl (mw (h:=k - 1) rfl rfl (.p rfl) (.p rfl) (fun _=>by omega) (fun _=>by omega))
      repeat (first | (first | (apply cw rfl rfl rfl;(focus (exact bC (v:=(.string _)) rfl (.p rfl)))) | apply bT) | (apply kL))
      refine qi (u.extract 0 (k - 1),k - 1) (by (repeat (first | exact Holds.nil | apply Holds.cons rfl))) (by (repeat (exact Sub.nil))) ⟨?_,by ((try dsimp only at *) <;> omega),?_⟩ (by ((try dsimp only at *) <;> omega))
      · rw [bl_hi,h1,List.take_take];congr 1;omega
      · intro c hc
        rw [List.drop_eq_getElem_cons (by omega)] at hc
        rcases List.mem_cons.1 hc with rfl | hc
        · have e:(bl u).getD (k - 1) 0=(bl s)[k - 1]'(by omega):=by
            rw [nj (by rw [← hU];omega)];simp [h1]
          rw [← e];simpa using hb
        · rw [show k - 1+1=k by omega] at hc;exact h3 c hc
  · repeat (first | (first | (apply cw rfl rfl rfl;(focus (first | exact bp (v:=(.string _)) rfl (.p rfl) | exact bC (v:=(.string _)) rfl (.p rfl)))) | apply bT) | (first | apply cb | apply bg | apply ca | apply ib | apply jt | apply gg | apply gh rfl | apply fA))
    refine iR (qj (v:=.string _) rfl) .none ⟨rfl,u,k,rfl,h1,h2,h3,fun c hc'=>?_⟩
    have:bl u=[]:=List.eq_nil_of_length_eq_zero (by rw [← hU];omega)
    rw [this] at hc';cases hc'
end SX
namespace SX
open Go
attribute [local irreducible] WL WC WD OpL OpQ OpG Ev GuardIs sn gJ vk Call CallP midK nD Holds nk Sub Pick WS Step Lit Upd SetAt SpliceAt FillR Sh LateRun
theorem rU (κ:Kr) (b:Nat) (s:ByteArray) (hs:Sh κ b 0 (db iI)):CallP 181 [.string s,.pointer (some ⟨b,0,none⟩)] κ fun v _=>∃ u k,v=.string u∧bl u=(bl s).drop k∧k≤(bl s).length∧(∀ c∈(bl s).take k,iI c.toNat=true)∧(∀ c,(bl u).head?=some c→iI c.toNat=false):=by
  (unfold CallP;apply jz Tryz.func181 (w7 Tryz.func181 rfl) rfl Tryz.ntmps181 Tryz.results181 rfl)
  repeat (first | (first | (apply cw rfl rfl rfl;(focus (exact bC (v:=(.string _)) rfl (.p rfl)))) | apply bT) | (first | apply cb | apply bg | apply fI | apply ca))
  refine lA (X:=ByteArray×Nat) (fun z=>[(0,.string z.1),(1,.pointer (some ⟨b,0,none⟩))]) (fun _=>[]) (fun z _=>bl z.1=(bl s).drop z.2∧z.2≤(bl s).length∧∀ c∈(bl s).take z.2,iI c.toNat=true) (fun z=>(bl s).length - z.2) (s,0) (by (repeat (first | exact Holds.nil | apply Holds.cons rfl))) (by (repeat (exact Sub.nil))) ⟨rfl,Nat.zero_le _,by simp⟩ ?_
  rintro ⟨u,k⟩ τ κ2 _ ⟨h1,h2,h3⟩
  dsimp only at h1 h2 h3
  have hsz:u.size=(bl s).length - k:=by rw [hU,h1,List.length_drop]
  simp only [nk]
  repeat (first | (first | (apply cw rfl rfl rfl;(focus (first | exact bp (v:=(.string _)) rfl (.p rfl) | exact jv rfl (.p rfl) (.p rfl) rfl | exact iE rfl rfl (.p rfl)))) | apply bT) | (first | apply cb | apply bg | apply ca))
  apply qm rfl <;> intro hc
  · have hk0:k<(bl s).length:=by omega
    have hu0:0<(bl u).length:=by rw [← hU];omega
    repeat (first | (apply cw rfl rfl rfl;(focus (first | exact bp (v:=(.pointer _)) rfl (.p rfl) | exact bp (v:=(.string _)) rfl (.p rfl)))) | (first | apply cb | apply bg | apply fI | apply ca | apply fH))
    apply cw rfl rfl rfl (i6 (j:=0) rfl rfl (.p rfl) (.p rfl) (fun _=>by omega) (fun _=>by omega))
    have hhead:(bl u).head?=some ((bl u).getD 0 0):=by
      rw [List.head?_eq_getElem?,nj hu0,List.getElem?_eq_getElem hu0]
    apply qP rfl rfl rfl;apply i7 rfl rfl (mE _ b iI ((u.data.toList.getD 0 0).toNat:Int) (hs.mono (by (repeat (assumption)))) (by omega) (by have:=(u.data.toList.getD 0 0).toNat_lt;omega))
    rintro v κ3 _ rfl
    repeat (first | (first | (apply cw rfl rfl rfl;(focus (exact sq rfl (.p rfl)))) | apply bT) | (apply ca))
    rw [Int.toNat_natCast]
    apply gY rfl <;> intro hb
    · repeat (first | (first | (apply cw rfl rfl rfl;(focus (first | exact bp (v:=(.string _)) rfl (.p rfl) | exact bC (v:=(.string _)) rfl (.p rfl)))) | apply bT) | (first | apply cb | apply bg | apply ca | apply ib | apply jt | apply gg | apply gh rfl | apply nC rfl | apply fA))
      refine iR (qj (v:=.string _) rfl) .none ⟨rfl,u,k,rfl,h1,h2,h3,fun c hc=>?_⟩
      rw [hhead] at hc;injection hc with hc;subst hc;simpa using hb
    · repeat (first | (apply cw rfl rfl rfl;(focus (exact bp (v:=(.string _)) rfl (.p rfl)))) | (first | apply bg | apply ca | apply fH))
      apply cw rfl rfl rfl (my (l:=1) rfl rfl (.p rfl) (.p rfl) (fun _=>by omega) (fun _=>by omega))
      repeat (first | (first | (apply cw rfl rfl rfl;(focus (exact bC (v:=(.string _)) rfl (.p rfl)))) | apply bT) | (apply kL))
      refine qi (u.extract 1 u.size,k+1) (by (repeat (first | exact Holds.nil | apply Holds.cons rfl))) (by (repeat (exact Sub.nil))) ⟨?_,by ((try dsimp only at *) <;> omega),?_⟩ (by ((try dsimp only at *) <;> omega))
      · rw [bl_lo,h1,List.drop_drop]
      · intro c hc
        rw [List.take_add_one] at hc
        rcases List.mem_append.1 hc with hc | hc
        · exact h3 c hc
        · have e:(bl u).getD 0 0=(bl s)[k]'hk0:=by rw [nj hu0];simp [h1]
          rw [List.getElem?_eq_getElem hk0] at hc
          simp only [Option.toList_some,List.mem_cons,List.not_mem_nil,or_false] at hc
          subst hc;rw [← e];simpa using hb
  · repeat (first | (first | (apply cw rfl rfl rfl;(focus (first | exact bp (v:=(.string _)) rfl (.p rfl) | exact bC (v:=(.string _)) rfl (.p rfl)))) | apply bT) | (first | apply cb | apply bg | apply ca | apply ib | apply jt | apply gg | apply gh rfl | apply fA))
    refine iR (qj (v:=.string _) rfl) .none ⟨rfl,u,k,rfl,h1,h2,h3,fun c hc'=>?_⟩
    have:bl u=[]:=List.eq_nil_of_length_eq_zero (by rw [← hU];omega)
    rw [this] at hc';cases hc'
def mj (s:ByteArray):Bool:=(bl s).all fun c=>iI c.toNat
theorem pK {s:ByteArray}:s=⟨#[]⟩↔bl s=[]:=⟨fun h=>by rw [h],fun h=>bl_inj (by rw [h])⟩
theorem trim_ok (κ:Kr) (s:ByteArray) (hz:s.size≤1000000000):CallP 156 [.string s,.string fi] κ fun v _=>∃ u,v=.string u∧(u=⟨#[]⟩↔mj s=true):=by
  (unfold CallP;apply jz Tryz.func156 (w7 Tryz.func156 rfl) rfl Tryz.ntmps156 Tryz.results156 rfl)
  repeat (first | (first | (apply cw rfl rfl rfl;(focus (first | exact bp (v:=(.bool _)) rfl (.p rfl) | exact bp (v:=(.string _)) rfl (.p rfl) | exact bC (v:=(.string _)) rfl (.p rfl) | exact oq_or rfl (.p rfl) (.p rfl) (.g rfl) | exact qc rfl (.p rfl) (.p rfl) rfl))) | (apply nm;(focus (exact tc rfl rfl rfl));rfl;rfl;(focus (first | (apply bp (v:=(.string _)) rfl;(focus (exact Ev.p rfl))) | (apply qc rfl (by (focus (exact Ev.g rfl))) (by (focus (exact Ev.p rfl)));rfl)))) | apply bT) | (first | apply cb | apply bg | apply ca))
  apply gY rfl <;> intro hb
  · repeat (first | (first | (apply cw rfl rfl rfl;(focus (first | exact bp (v:=(.string _)) rfl (.p rfl) | exact bC (v:=(.string _)) rfl (.p rfl)))) | apply bT) | (first | apply cb | apply bg | apply ca | apply ib | apply lV))
    have:s=⟨#[]⟩:=by simpa [fi] using hb
    refine iR (qj (v:=.string _) rfl) .none ⟨rfl,s,rfl,?_⟩
    subst this;simp [mj,bl]
  · have hne:¬ bl s=[]:=fun h=>by rw [pK.2 h] at hb;simp at hb
    repeat (first | (first | (apply cw rfl rfl rfl;(focus (first | exact bp (v:=(.bool _)) rfl (.p rfl) | exact bp (v:=(.string _)) rfl (.p rfl) | exact jv rfl (.p rfl) (.p rfl) rfl | exact iE rfl rfl (.p rfl)))) | (apply nm;(focus (exact js rfl rfl rfl));rfl;rfl;(focus (apply bp (v:=(.string _)) rfl;(focus (exact Ev.p rfl)))))) | (first | apply cb | apply bg | apply ca | apply fH))
    apply nm;(focus (exact js rfl rfl rfl));rfl;rfl;exact i6 (s:=fi) (j:=0) rfl rfl (.g rfl) (.p rfl) (fun _=>rfl) (fun _=>by decide)
    repeat (first | (first | (apply cw rfl rfl rfl;(focus (exact so rfl (.p rfl) (.p rfl) (.g rfl)))) | (apply nm;(focus (exact js rfl rfl rfl));rfl;rfl;(focus (apply jv rfl (by (focus (exact Ev.g rfl))) (by (focus (exact Ev.p rfl)));rfl))) | apply bT) | (apply ca))
    apply gY rfl <;> intro hb2
    · have e:(fi.size:Int)=10:=rfl
      rw [e] at hb2;simp at hb2
    repeat (first | (apply cw rfl rfl rfl;(focus (exact bp (v:=(.string _)) rfl (.p rfl)))) | (first | apply cb | apply bg | apply ca | apply fH))
    refine wl_fun rfl rfl rfl rfl rfl (wG _) fun κ1 _=>?_
    repeat (first | (first | (apply cw rfl rfl rfl;(focus (first | exact bp (v:=(.bool _)) rfl (.p rfl) | exact bp (v:=(.tuple _)) rfl (.p rfl) | exact bC (v:=(.bool _)) rfl (.p rfl) | exact np rfl (.p rfl) rfl))) | (apply qP rfl rfl rfl;apply ph rfl rfl;intro _ _ _) | (apply td rfl rfl;apply pj rfl rfl rfl rfl rfl rfl;(focus (repeat (exact Upd.h)));rfl;intro _ _) | apply bT) | (first | apply cb | apply bg | apply ca))
    rename_i b5 _ _ _ _
    apply wc_pub (b:=b5) Pick.h rfl;intro κ3 _ hS hsays
    have hset:=vy hS hsays
    apply va rfl
    repeat (first | (apply cw rfl rfl rfl;(focus (exact bp (v:=(.string _)) rfl (.p rfl)))) | (first | apply cb | apply bg))
    apply qP rfl rfl rfl;apply i7 rfl rfl (qH _ b5 s (hset.mono (by (repeat (exact Kle.refl _)))) hz)
    rintro v κ4 _ ⟨u,k,rfl,h1,h2,h3,h4⟩
    apply qP rfl rfl rfl;apply i7 rfl rfl (rU _ b5 u (hset.mono (by (repeat (assumption)))))
    rintro v κ5 _ ⟨u2,k2,rfl,g1,g2,g3,g4⟩
    repeat (first | (first | (apply cw rfl rfl rfl;(focus (exact bC (v:=(.string _)) rfl (.p rfl)))) | apply bT) | (first | apply ca | apply ib | apply lV))
    refine iR (qj (v:=.string _) rfl) .none ⟨rfl,u2,rfl,?_⟩
    rw [pK]
    unfold mj
    rw [List.all_eq_true]
    constructor
    · intro h
      have hk2:k2=(bl u).length:=by
        have:=congrArg List.length (g1.symm.trans h);simp only [List.length_drop,List.length_nil] at this;omega
      intro c hc
      rw [← List.take_append_drop k (bl s)] at hc
      rcases List.mem_append.1 hc with hc | hc
      · rw [← h1] at hc;rw [hk2,List.take_length] at g3;exact g3 c hc
      · exact h3 c hc
    · intro h
      have hu:bl u=[]:=by
        rcases List.eq_nil_or_concat (bl u) with hu | ⟨l,c,hu⟩
        · exact hu
        · have hc:=h4 c (by rw [hu];simp)
          have hm:c∈bl s:=List.mem_of_mem_take (i:=k) (by rw [← h1,hu];simp)
          rw [h c hm] at hc;cases hc
      rw [g1,hu];simp
def Glob (κ:Kr):Prop:=Sh κ 0 0 [.int .i64 2,.int .i64 4,.int .i64 6,.int .i64 8]
theorem Glob.mono {κ κ':Kr} (h:Glob κ) (k:Kle κ κ'):Glob κ':=Sh.mono h k
def iJ (s:ByteArray):Int:=if (s.size=2∨s.size=4∨s.size=6∨s.size=8)∧mj s=true then (s.size:Int) else 0
theorem gv_some {c:Bool} {v:Value} {P:ByteArray→Prop} (h:c=true→∃ u,v=.string u∧P u):∃ u,gv c v=gv c (.string u)∧(c=true→P u):=by
  cases c
  · exact ⟨⟨#[]⟩,by rw [eE,eE],fun h=>by cases h⟩
  · obtain ⟨u,rfl,h2⟩:=h rfl;exact ⟨u,rfl,fun _=>h2⟩
theorem wH (κ:Kr) (s:ByteArray) (hg:Glob κ):CallP 109 [.string s] κ fun v _=>v=.int .i64 (iJ s):=by
  (unfold CallP;apply jz Tryz.func109 (w7 Tryz.func109 rfl) rfl Tryz.ntmps109 Tryz.results109 rfl)
  repeat (first | (first | (apply cw rfl rfl rfl;(focus (exact bC (v:=(.int _ _)) rfl (.p rfl)))) | apply bT) | (first | apply cb | apply bg | apply ca))
  apply cw rfl rfl rfl (lT rfl (.p rfl) (fun _=>hg) rfl)
  repeat (first | (first | (apply cw rfl rfl rfl;(focus (exact bp (v:=(.int _ _)) rfl (.p rfl)))) | apply bT) | (first | apply fI | apply ca))
  refine lA (X:=Nat) (fun k=>[(0,.string s),(5,.agg #[.int .i64 2,.int .i64 4,.int .i64 6,.int .i64 8]),(6,.int .i64 (k:Int))]) (fun _=>[]) (fun k _=>k≤4∧∀ j,j<k→¬ (s.size=2*(j+1)∧mj s=true)) (fun k=>4 - k) 0 (by (repeat (first | exact Holds.nil | apply Holds.cons rfl))) (by (repeat (exact Sub.nil))) ⟨by omega,by omega⟩ ?_
  rintro k τ κ1 _ ⟨hk,hno⟩
  simp only [nk]
  repeat (first | (first | (apply cw rfl rfl rfl;(focus (exact jv rfl (.p rfl) (.p rfl) rfl))) | apply bT) | (first | apply cb | apply bg | apply ca))
  apply qm rfl <;> intro hc
  · have hk4:k<4:=by omega
    repeat (first | apply cb | apply bg | apply fI | apply ca | apply fH)
    apply cw rfl rfl rfl (ug (cs:=[.int .i64 2,.int .i64 4,.int .i64 6,.int .i64 8]) (v:=.int .i64 (2*((k:Int)+1))) (j:=k) rfl rfl rfl rfl rfl (.p rfl) (.p rfl) (fun _=>rfl) (fun _=>hk4) (fun _=>by
      have:k=0∨k=1∨k=2∨k=3:=by omega
      rcases this with rfl | rfl | rfl | rfl <;> rfl))
    repeat (first | (first | (apply cw rfl rfl rfl;(focus (first | exact bp (v:=(.int _ _)) rfl (.p rfl) | exact bp (v:=(.bool _)) rfl (.p rfl) | exact bp (v:=(.string _)) rfl (.p rfl) | exact bC (v:=(.int _ _)) rfl (.p rfl) | exact jv rfl (.p rfl) (.p rfl) rfl | exact iE rfl rfl (.p rfl)))) | (apply nm;(focus (exact js rfl rfl rfl));rfl;rfl;(focus (apply bp (v:=(.string _)) rfl;(focus (exact Ev.p rfl))))) | apply bT) | (first | apply cb | apply bg | apply ca))
    apply wl_g;(focus (exact js rfl rfl rfl));rfl;rfl
    refine qU rfl (ar2 (.g rfl) (.p rfl)) (fun hcc=>trim_ok _ s (by simp at hcc;omega)) fun v κ2 _ hv=>?_
    obtain ⟨u,hu,hP⟩:=gv_some hv
    rw [hu]
    repeat (first | (first | (apply cw rfl rfl rfl;(focus (exact so rfl (.p rfl) (.p rfl) (.g rfl)))) | (apply nm;(focus (exact js rfl rfl rfl));rfl;rfl;(focus (apply qc rfl (by (focus (exact Ev.g rfl))) (by (focus (exact Ev.p rfl)));rfl))) | apply bT) | (apply ca))
    apply gY rfl <;> intro hb
    · simp only [Bool.and_eq_true,beq_iff_eq,decide_eq_true_eq] at hb
      have hd:mj s=true:=(hP (by simpa using hb.1)).1 hb.2
      repeat (first | (first | (apply cw rfl rfl rfl;(focus (first | exact bp (v:=(.int _ _)) rfl (.p rfl) | exact bC (v:=(.int _ _)) rfl (.p rfl)))) | apply bT) | (first | apply cb | apply bg | apply ca | apply ib | apply lV | apply q8 | apply sv))
      refine iR (qj (v:=.int _ _) rfl) .none ⟨rfl,?_⟩
      show Value.int .i64 (2*((k:Int)+1))=.int .i64 (iJ s)
      unfold iJ
      rw [if_pos ⟨by omega,hd⟩,← hb.1]
    · repeat (first | (first | (apply cw rfl rfl rfl;(focus (first | exact bp (v:=(.int _ _)) rfl (.p rfl) | exact jx rfl (.p rfl) (.p rfl) rfl (fun _=>by omega)))) | apply bT) | (first | apply bg | apply ca | apply fH | apply kL))
      refine qi (k+1) (by (repeat (first | exact Holds.nil | apply Holds.cons rfl))) (by (repeat (exact Sub.nil))) ⟨by omega,fun j hj=>?_⟩ (by omega)
      rcases Nat.lt_or_ge j k with h | h
      · exact hno j h
      · have:j=k:=by omega
        subst this
        rintro ⟨h1,h2⟩
        have hcc:((s.size:Int) == 2*((j:Int)+1))=true:=by simp;omega
        have:=(hP (by simpa using hcc)).2 h2
        subst this
        rw [hcc] at hb;simp at hb
  · repeat (first | (first | (apply cw rfl rfl rfl;(focus (exact bC (v:=(.int _ _)) rfl (.p rfl)))) | apply bT) | (first | apply cb | apply bg | apply ca | apply ib | apply jt | apply gg | apply gh rfl | apply fA))
    refine iR (qj (v:=.int _ _) rfl) .none ⟨rfl,?_⟩
    show Value.int .i64 0=.int .i64 (iJ s)
    unfold iJ
    rw [if_neg]
    rintro ⟨h1,h2⟩
    have:k=4:=by omega
    subst this
    rcases h1 with h1 | h1 | h1 | h1
    · exact hno 0 (by omega) ⟨h1,h2⟩
    · exact hno 1 (by omega) ⟨h1,h2⟩
    · exact hno 2 (by omega) ⟨h1,h2⟩
    · exact hno 3 (by omega) ⟨h1,h2⟩
end SX
namespace SX
open Go
def dc (p0:ByteArray):Option Int:=some (iJ p0)
theorem dh {p0:ByteArray} {r:Int} (h:dc p0=some r):PF 109 [.v (.string p0)] (.v (.int .i64 r)):=fun κ args g ha=>by
 obtain ⟨v,ws,rfl,h1,h2⟩:=ha.cons_inv
 rw [h2.nil_inv,h1.val]
 have h:=Option.some.inj h;subst h
 exact (wH κ p0 g).mono fun v κ' _ hv=>by subst hv;exact .v rfl
def itr (b:Nat) (s:ByteArray) (pos:Nat):Res:=⟨some b,fun o=>o=some (.stringIter s pos)⟩
theorem wI {o:Oper} {σ:PEnv} {ρ:List PRes} {x:Operand} {t:Nat} {s:ByteArray} {K:PV→List PRes→Prop} (ho:o.op=.range t x) (hu:cP t=some .string) (hx:ba σ x=.v (.string s)) (h:∀ b,K (.v (.pointer (some ⟨b,0,none⟩))) (.raw (itr b s 0)::ρ)):POpL o σ ρ K:=fun κ σ' ρ' g hs hr β hi Nx hk=>by
 have e1:=hs.v1 hx
 have h1:=run_underlying (w:=κ.w) (bd hu)
 have hrun:(execOp (ev σ') o).run Tryz.prog κ.w=.ok (.value (.pointer (some ⟨κ.w.heap.size,0,none⟩))) (κ.w.alloc (.stringIter s 0)):=by
  simp [execOp,ho,e1,Instr.range,h1,run_newObj_alloc]
 rw [hrun]
 exact hk _ _ ⟨κ.w.alloc (.stringIter s 0),κ.S⟩ (hi.alloc _ (itr κ.w.heap.size s 0) rfl rfl) (cH hi.fin _) ⟨_,_,.v rfl,.cons .raw (hr.mono (cH hi.fin _)),h _⟩
theorem pl_next {o:Oper} {σ:PEnv} {ρ ρ1:List PRes} {x:Operand} {b pos:Nat} {s:ByteArray} {K:PV→List PRes→Prop} (ho:o.op=.next x true) (hx:ba σ x=.v (.pointer (some ⟨b,0,none⟩))) (hu:PUpd ρ (.raw (itr b s pos)) (.raw (itr b s (pos+(Utf8.decode s pos).2))) ρ1) (h1:pos<s.size→K (.tup [.v (.bool true),.v (.int .i64 (pos:Int)),.v (.int .i32 ((Utf8.decode s pos).1:Int))]) ρ1) (h2:s.size≤pos→K (.tup [.v (.bool false)]) ρ):POpL o σ ρ K:=fun κ σ' ρ' g hs hr β hi Nx hk=>by
 have e1:=hs.v1 hx
 have hr0:=hr
 obtain ⟨r0,l1,l2,rfl,h4,h5⟩:=hr.upd hu
 cases h4 with
 | raw =>
  have hb:κ.w.heap[b]?=some (.stringIter s pos):=hi.own (itr b s pos) (by simp)
  have hg:(getObj b).run Tryz.prog κ.w=.ok (.stringIter s pos) κ.w:=by simp [getObj,Sem.run,hb]
  have hset:∀ ob,(setObj b ob).run Tryz.prog κ.w=.ok () { κ.w with heap:=κ.w.heap.setIfInBounds b ob }:=fun ob=>by simp [setObj,Sem.run,hb]
  rcases Nat.lt_or_ge pos s.size with hlt | hge
  ·have hrun:(execOp (ev σ') o).run Tryz.prog κ.w=.ok (.value (.tuple #[.bool true,goInt pos,.int .i32 ((Utf8.decode s pos).1:Int)])) { κ.w with heap:=κ.w.heap.setIfInBounds b (.stringIter s (pos+(Utf8.decode s pos).2)) }:=by
    simp [execOp,ho,e1,Instr.next,hg,hlt,hset]
   rw [hrun]
   obtain ⟨i1,i2⟩:=hi.turn (r:=itr b s pos) (r':=itr b s (pos+(Utf8.decode s pos).2)) (b:=b) (w':={ κ.w with heap:=κ.w.heap.setIfInBounds b (.stringIter s (pos+(Utf8.decode s pos).2)) }) rfl rfl rfl (fun i hi=>mz hi) (by simp) (mA hb) rfl rfl rfl (Nat.le_refl _)
   exact hk _ _ _ i1 i2 ⟨_,ρ1,.tup (ws:=[_,_,_]) (.cons (.v rfl) (.cons (.v rfl) (.cons (.v rfl) .nil))),h5 _ _ i2 .raw,h1 hlt⟩
  ·have hrun:(execOp (ev σ') o).run Tryz.prog κ.w=.ok (.value (.tuple #[.bool false])) κ.w:=by
    simp [execOp,ho,e1,Instr.next,hg,Nat.not_lt.2 hge]
   rw [hrun]
   exact hk _ _ κ hi (.refl _) ⟨_,ρ,.tup (ws:=[_]) (.cons (.v rfl) .nil),hr0,h2 hge⟩
def ky (s:ByteArray) (pos:Nat):Option (Nat⊕Bool):=cond (Nat.blt pos s.size) (cond (decide (((Utf8.decode s pos).1:Int)<97)||decide (122<((Utf8.decode s pos).1:Int))) (some (.inr false)) (some (.inl (pos+(Utf8.decode s pos).2)))) (some (.inr true))
def jU (p0:ByteArray):Option Bool:=cond (decide ((p0.size:Int)<1)||decide (12<(p0.size:Int))) (some false) (bf (ky p0) FUEL 0)
attribute [local irreducible] PWL PWC PWD POpL POpQ PEv PGuardIs PSub PPick PUpd PSplice PFill PLit PF PFV PCall FOk dz cI jc jd fp ie Cov PHolds bf ky
theorem mR {p0:ByteArray} {r:Bool} (h:jU p0=some r):PF 110 [pS p0] (pB r):=by
 unfold jU at h
 refine aY ?_
 refine eP Tryz.func110 rfl Tryz.ntmps110 Tryz.results110 rfl ?_
 (repeat refine ae ?_)
 refine an [] [2] [] bo (by kernel_rfl) ?_
 (repeat (first | apply aB | apply aG))
 (repeat refine ae ?_)
 refine an [] [5,6,7,8,9,10,11] [(12,pB (decide ((p0.size:Int)<1)||decide (12<(p0.size:Int))))] bo (by kernel_rfl) ?_
 (repeat (first | apply aB | apply aG))
 (repeat refine ae ?_)
 refine dN rfl (fun hc=>?_) (fun hc=>?_)
 ·replace h:=sC hc h
  (repeat refine ae ?_)
  refine an [] [] [(2,pB false)] bo (by kernel_rfl) ?_
  (repeat (first | apply aB | apply aG))
  (repeat refine ae ?_)
  refine bx ?_
  (repeat (first | apply am | apply ar | apply aJ | apply jE))
  obtain rfl:=Option.some.inj h
  exact aO (cJ (aN rfl)) bz ⟨rfl,rfl⟩
 replace h:=sD hc h
 refine ai ?_
 (repeat (first | apply aB | apply aG))
 (repeat refine ae ?_)
 refine aa ?_
 refine aU 1 [] [] [(13,pS p0)] bo (by kernel_rfl) ?_
 refine vG rfl rfl rfl (wI rfl rfl rfl fun b=>?_)
 refine au ?_
 (repeat (first | apply aB | apply aG))
 (repeat refine ae ?_)
 refine av (Y:=Unit) (fun _=>[]) (fun _=>[]) (fun _=>r=true) ?_ ?_
 ·refine aA ?_
  refine aC (Y:=Unit) (S:=Nat) _ h (fun _ _=>[(14,pP b 0)]) (fun _ pos=>[PRes.raw (itr b p0 pos)]) () (by (repeat (first | exact kl | apply eU rfl))) (by (repeat (first | exact bz | (apply bu;(focus (repeat (first | exact aV | apply az))))))) ?_
  rintro _ pos o τ hb;dsimp only [aw]
  unfold ky at hb
  (repeat refine ae ?_)
  refine aa ?_
  refine vG rfl rfl rfl (pl_next rfl rfl dy (fun hlt=>?_) (fun hge=>?_))
  ·have hlt':Nat.blt pos p0.size=true:=by simp [Nat.blt];omega
   rw [hlt'] at hb;simp only [ga] at hb
   refine eB [] [] [(16,pB true)] bo (by kernel_rfl) ?_
   (repeat (first | apply aB | apply aG))
   (repeat refine ae ?_)
   refine dN (p:=true) rfl (fun _=>?_) (fun hf=>by cases hf)
   refine ai ?_
   (repeat (first | apply aB | apply aG))
   (repeat refine ae ?_)
   refine aA ?_
   (repeat refine ae ?_)
   refine an [] [17] [(4,.v (.int .i32 ((Utf8.decode p0 pos).1:Int)))] bo (by kernel_rfl) ?_
   (repeat (first | apply aB | apply aG))
   (repeat refine ae ?_)
   refine an [] [18,19,20,21,22] [(23,pB (decide (((Utf8.decode p0 pos).1:Int)<97)||decide (122<((Utf8.decode p0 pos).1:Int))))] bo (by kernel_rfl) ?_
   (repeat (first | apply aB | apply aG))
   (repeat refine ae ?_)
   refine dN rfl (fun hc2=>?_) (fun hc2=>?_)
   ·replace hb:=sC hc2 hb
    (repeat refine ae ?_)
    refine an [] [] [(2,pB false)] bo (by kernel_rfl) ?_
    (repeat (first | apply aB | apply aG))
    (repeat refine ae ?_)
    refine bx ?_
    (repeat (first | apply am | apply ar | apply aJ | apply jE))
    refine aF hb (fun ht=>?_);subst ht
    (repeat (first | apply am | apply ar | apply aJ | apply jE))
    exact aO (cJ (aN rfl)) bz ⟨rfl,rfl⟩
   replace hb:=sD hc2 hb
   refine ai ?_
   (repeat apply aB)
   exact aT hb () (by (repeat (first | exact kl | apply eU rfl))) (by (repeat (first | exact bz | (apply bu;(focus (repeat (first | exact aV | apply az)))))))
  have hge':Nat.blt pos p0.size=false:=by cases e:Nat.blt pos p0.size;rfl;exact absurd (Nat.le_of_ble_eq_true e) (by omega)
  rw [hge'] at hb;simp only [i0] at hb
  refine eB [] [] [(16,pB false)] bo (by kernel_rfl) ?_
  (repeat (first | apply aB | apply aG))
  (repeat refine ae ?_)
  refine dN (p:=false) rfl (fun hf=>by cases hf) (fun _=>?_)
  refine aM ?_
  (repeat (first | apply aq | apply rl | apply rm | apply km rfl))
  refine al hb (fun ht=>?_)
  refine ap rfl ?_
  exact aD () kl bz ht.symm
 rintro _ τ hz;subst hz;dsimp only [aw]
 (repeat refine ae ?_)
 refine an [] [] [(2,pB true)] bo (by kernel_rfl) ?_
 (repeat (first | apply aB | apply aG))
 (repeat refine ae ?_)
 refine bx ?_
 (repeat (first | apply am | apply ar | apply aJ | apply jE))
 exact aO (cJ (aN rfl)) bz ⟨rfl,rfl⟩
end SX
end Go.Proofs.YtgmbmepakpcpaaaGreatDoor
namespace Go.Proofs
open Go.Shelf
def Tryz.lSF_ren:Go.Shelf.Ren:=⟨fun | 6=>49 | 15=>101 | 14=>100 | 28=>150 | 29=>151 | 20=>142 | 21=>143 | 22=>144 | 23=>145 | 24=>146 | 25=>147 | 26=>148 | 27=>149 | 46=>173 | 47=>174 | 48=>175 | 49=>176 | 50=>177 | 57=>203 | n=>n,fun | 22=>31 | 24=>28 | 25=>109 | 3=>3 | 39=>49 | 0=>0 | 53=>206 | 55=>116 | 4=>4 | 46=>200 | 45=>199 | 50=>144 | 5=>5 | 9=>9 | 66=>235 | 70=>239 | 76=>259 | 77=>260 | n=>n,fun | n=>n⟩
theorem Tryz.lSF:Go.Proofs.SlLaysF0.n6 Tryz.prog Tryz.lSF_ren:={
 mixed:=by kernel_rfl
 f6:=⟨Tryz.f49.name,by decide,Tryz.func49.trans (congrArg some (by kernel_rfl))⟩
 f14:=⟨Tryz.f100.name,by decide,Tryz.func100.trans (congrArg some (by kernel_rfl))⟩
 f15:=Tryz.func101.trans (congrArg some (by kernel_rfl))
 f20:=⟨Tryz.f142.name,by decide,Tryz.func142.trans (congrArg some (by kernel_rfl))⟩
 f21:=⟨Tryz.f143.name,by decide,Tryz.func143.trans (congrArg some (by kernel_rfl))⟩
 f22:=⟨Tryz.f144.name,by decide,Tryz.func144.trans (congrArg some (by kernel_rfl))⟩
 f23:=⟨Tryz.f145.name,by decide,Tryz.func145.trans (congrArg some (by kernel_rfl))⟩
 f24:=⟨Tryz.f146.name,by decide,Tryz.func146.trans (congrArg some (by kernel_rfl))⟩
 f25:=⟨Tryz.f147.name,by decide,Tryz.func147.trans (congrArg some (by kernel_rfl))⟩
 f26:=⟨Tryz.f148.name,by decide,Tryz.func148.trans (congrArg some (by kernel_rfl))⟩
 f27:=⟨Tryz.f149.name,by decide,Tryz.func149.trans (congrArg some (by kernel_rfl))⟩
 f28:=Tryz.func150.trans (congrArg some (by kernel_rfl))
 f29:=Tryz.func151.trans (congrArg some (by kernel_rfl))
 f46:=⟨Tryz.f173.name,by decide,Tryz.func173.trans (congrArg some (by kernel_rfl))⟩
 f47:=Tryz.func174.trans (congrArg some (by kernel_rfl))
 f48:=Tryz.func175.trans (congrArg some (by kernel_rfl))
 f49:=⟨Tryz.f176.name,by decide,Tryz.func176.trans (congrArg some (by kernel_rfl))⟩
 f50:=⟨Tryz.f177.name,by decide,Tryz.func177.trans (congrArg some (by kernel_rfl))⟩
 f57:=⟨Tryz.f203.name,by decide,Tryz.func203.trans (congrArg some (by kernel_rfl))⟩
 t0:=Tryz.underlying0
 a0:=Tryz.isAgg0
 z0:=Tryz.sizeOf0
 v0:=Tryz.zeroValue0
 t3:=Tryz.underlying3
 a3:=Tryz.isAgg3
 z3:=Tryz.sizeOf3
 v3:=Tryz.zeroValue3
 t4:=Tryz.underlying4
 a4:=Tryz.isAgg4
 z4:=Tryz.sizeOf4
 v4:=Tryz.zeroValue4
 t5:=Tryz.underlying5
 a5:=Tryz.isAgg5
 z5:=Tryz.sizeOf5
 v5:=Tryz.zeroValue5
 t9:=Tryz.underlying9
 a9:=Tryz.isAgg9
 z9:=Tryz.sizeOf9
 v9:=Tryz.zeroValue9
 t22:=Tryz.underlying31
 a22:=Tryz.isAgg31
 z22:=Tryz.sizeOf31
 v22:=Tryz.zeroValue31
 t25:=Tryz.underlying109
 a25:=Tryz.isAgg109
 z25:=Tryz.sizeOf109
 v25:=Tryz.zeroValue109
 t39:=Tryz.underlying49
 a39:=Tryz.isAgg49
 z39:=Tryz.sizeOf49
 v39:=Tryz.zeroValue49
 t45:=Tryz.underlying199
 a45:=Tryz.isAgg199
 z45:=Tryz.sizeOf199
 v45:=Tryz.zeroValue199
 t46:=Tryz.underlying200
 a46:=Tryz.isAgg200
 z46:=Tryz.sizeOf200
 v46:=Tryz.zeroValue200
 t50:=Tryz.underlying144
 a50:=Tryz.isAgg144
 z50:=Tryz.sizeOf144
 v50:=Tryz.zeroValue144
 t53:=Tryz.underlying206
 a53:=Tryz.isAgg206
 z53:=Tryz.sizeOf206
 v53:=Tryz.zeroValue206
 t55:=Tryz.underlying116
 a55:=Tryz.isAgg116
 z55:=Tryz.sizeOf116
 v55:=Tryz.zeroValue116
 t66:=Tryz.underlying235
 a66:=Tryz.isAgg235
 z66:=Tryz.sizeOf235
 v66:=Tryz.zeroValue235
 t70:=Tryz.underlying239
 a70:=Tryz.isAgg239
 z70:=Tryz.sizeOf239
 v70:=Tryz.zeroValue239
 t76:=Tryz.underlying259
 a76:=Tryz.isAgg259
 z76:=Tryz.sizeOf259
 v76:=Tryz.zeroValue259
 t77:=Tryz.underlying260
 a77:=Tryz.isAgg260
 z77:=Tryz.sizeOf260
 v77:=Tryz.zeroValue260 }
end Go.Proofs
namespace Go.Proofs
open Go.Shelf
def Tryz.lSs_ren:Go.Shelf.Ren:=⟨fun | 190=>139 | 125=>101 | 258=>170 | 128=>150 | 129=>151 | 302=>191 | 303=>192 | 304=>193 | 305=>194 | 306=>195 | 307=>196 | 308=>197 | 309=>198 | 310=>199 | 333=>209 | 329=>174 | 330=>175 | 334=>210 | 335=>211 | 336=>212 | 344=>217 | n=>n,fun | 31=>33 | 9=>9 | 3=>3 | 46=>49 | 0=>0 | 51=>206 | 53=>116 | 4=>4 | 183=>200 | 182=>199 | 131=>144 | 5=>5 | 218=>235 | 222=>239 | 228=>259 | 229=>260 | n=>n,fun | n=>n⟩
theorem Tryz.lSs:Go.Proofs.Lays.n190 Tryz.prog Tryz.lSs_ren:={
 mixed:=by kernel_rfl
 f125:=Tryz.func101.trans (congrArg some (by kernel_rfl))
 f128:=Tryz.func150.trans (congrArg some (by kernel_rfl))
 f129:=Tryz.func151.trans (congrArg some (by kernel_rfl))
 f190:=Tryz.func139.trans (congrArg some (by kernel_rfl))
 f258:=Tryz.func170.trans (congrArg some (by kernel_rfl))
 f302:=Tryz.func191.trans (congrArg some (by kernel_rfl))
 f303:=Tryz.func192.trans (congrArg some (by kernel_rfl))
 f304:=Tryz.func193.trans (congrArg some (by kernel_rfl))
 f305:=Tryz.func194.trans (congrArg some (by kernel_rfl))
 f306:=Tryz.func195.trans (congrArg some (by kernel_rfl))
 f307:=Tryz.func196.trans (congrArg some (by kernel_rfl))
 f308:=Tryz.func197.trans (congrArg some (by kernel_rfl))
 f309:=Tryz.func198.trans (congrArg some (by kernel_rfl))
 f310:=Tryz.func199.trans (congrArg some (by kernel_rfl))
 f329:=Tryz.func174.trans (congrArg some (by kernel_rfl))
 f330:=Tryz.func175.trans (congrArg some (by kernel_rfl))
 f333:=Tryz.func209.trans (congrArg some (by kernel_rfl))
 f334:=Tryz.func210.trans (congrArg some (by kernel_rfl))
 f335:=Tryz.func211.trans (congrArg some (by kernel_rfl))
 f336:=Tryz.func212.trans (congrArg some (by kernel_rfl))
 f344:=Tryz.func217.trans (congrArg some (by kernel_rfl))
 t0:=Tryz.underlying0
 a0:=Tryz.isAgg0
 z0:=Tryz.sizeOf0
 v0:=Tryz.zeroValue0
 t3:=Tryz.underlying3
 a3:=Tryz.isAgg3
 z3:=Tryz.sizeOf3
 v3:=Tryz.zeroValue3
 t4:=Tryz.underlying4
 a4:=Tryz.isAgg4
 z4:=Tryz.sizeOf4
 v4:=Tryz.zeroValue4
 t5:=Tryz.underlying5
 a5:=Tryz.isAgg5
 z5:=Tryz.sizeOf5
 v5:=Tryz.zeroValue5
 t9:=Tryz.underlying9
 a9:=Tryz.isAgg9
 z9:=Tryz.sizeOf9
 v9:=Tryz.zeroValue9
 t31:=Tryz.underlying33
 a31:=Tryz.isAgg33
 z31:=Tryz.sizeOf33
 v31:=Tryz.zeroValue33
 t46:=Tryz.underlying49
 a46:=Tryz.isAgg49
 z46:=Tryz.sizeOf49
 v46:=Tryz.zeroValue49
 t51:=Tryz.underlying206
 a51:=Tryz.isAgg206
 z51:=Tryz.sizeOf206
 v51:=Tryz.zeroValue206
 t53:=Tryz.underlying116
 a53:=Tryz.isAgg116
 z53:=Tryz.sizeOf116
 v53:=Tryz.zeroValue116
 t131:=Tryz.underlying144
 a131:=Tryz.isAgg144
 z131:=Tryz.sizeOf144
 v131:=Tryz.zeroValue144
 t182:=Tryz.underlying199
 a182:=Tryz.isAgg199
 z182:=Tryz.sizeOf199
 v182:=Tryz.zeroValue199
 t183:=Tryz.underlying200
 a183:=Tryz.isAgg200
 z183:=Tryz.sizeOf200
 v183:=Tryz.zeroValue200
 t218:=Tryz.underlying235
 a218:=Tryz.isAgg235
 z218:=Tryz.sizeOf235
 v218:=Tryz.zeroValue235
 t222:=Tryz.underlying239
 a222:=Tryz.isAgg239
 z222:=Tryz.sizeOf239
 v222:=Tryz.zeroValue239
 t228:=Tryz.underlying259
 a228:=Tryz.isAgg259
 z228:=Tryz.sizeOf259
 v228:=Tryz.zeroValue259
 t229:=Tryz.underlying260
 a229:=Tryz.isAgg260
 z229:=Tryz.sizeOf260
 v229:=Tryz.zeroValue260 }
end Go.Proofs
namespace Go.Proofs.YtgmbmepakpcpaaaGreatDoor
namespace SX
open Go
section
variable {γ:Type} [Inhabited γ]
theorem o5 (e:γ→Value) (D:Array γ) (cur:Array Value) (h:D.size≤cur.size):(Sort.putCells e 0 D cur).toList.take D.size=D.toList.map e:=by
 apply List.ext_getElem
 ·simp [Sort.putCells];omega
 intro i h1 h2
 have h3:i<D.size:=by simpa using h2
 simp [Sort.putCells,h3]
theorem rV {e:γ→Value} {w:World} {b:Nat} {D:Array γ} {cur:Array Value} {T:Nat} {fr:Nat×Nat} (h:w.heap[b]?=some (.cells cur T fr)):(Sort.putRow e w b 0 D).heap[b]?=some (.cells (Sort.putCells e 0 D cur) T fr):=by
 simp [Sort.putRow,Sort.mapBlock,Array.getElem?_modify,h,Sort.onCells]
theorem ou {e:γ→Value} {w:World} {b i:Nat} {D:Array γ} (h:i≠b):(Sort.putRow e w b 0 D).heap[i]?=w.heap[i]?:=by
 simp only [Sort.putRow,Sort.mapBlock,Array.getElem?_modify]
 rw [if_neg (fun e=>h e.symm)]
theorem lq {β:Base} {l:List Res} {κ:Kr} {b n c T sz m:Nat} {css css':List (List Value)} {os:Array Obj} {e:γ→Value} {D:Array γ} (hi:Zm β (Res.row (some ⟨b,0,none⟩) n c T sz css::l) κ) (hF:D.toList.map e=css'.flatten) (hl:css'.length=n) (hw:∀ cs∈css',cs.length=sz) :
    Zm β (Res.row (some ⟨b,0,none⟩) n c T sz css'::l) ⟨Sort.grow (Sort.putRow e (Sort.ahead κ.w m) b 0 D) os,κ.S⟩∧Kle κ ⟨Sort.grow (Sort.putRow e (Sort.ahead κ.w m) b 0 D) os,κ.S⟩:=by
  have ho:=hi.own _ (List.mem_cons_self)
  obtain ⟨h1,h2,h3,h4,h5,cur,h6,h7,h8⟩:=ho
  have hD:D.size=n*sz:=by
    have:=congrArg List.length hF
    rw [List.length_map,cB hw,hl] at this
    simpa using this
  have hle:D.size≤cur.size:=by rw [hD,h7];exact Nat.mul_le_mul_right _ h4
  have t1:=hi.turn (r':=Res.row (some ⟨b,0,none⟩) n c T sz css') (l1:=[]) (b:=b) (w':=Sort.putRow e (Sort.ahead κ.w m) b 0 D) rfl rfl rfl (fun i hne=>ou hne) (by simp [Sort.putRow,Sort.mapBlock,Sort.ahead])
    ⟨h1,hl,hw,h4,h5,_,rV (w:=Sort.ahead κ.w m) h6,by simpa [Sort.putCells] using h7,by rw [← hD,o5 e D cur hle,hF]⟩ rfl rfl rfl (by simp [Sort.putRow,Sort.mapBlock,Sort.ahead])
  have hh:=t1.1.own _ (List.mem_cons_self)
  have hb2:b<(Sort.putRow e (Sort.ahead κ.w m) b 0 D).heap.size:=by
    have:=(t1.1.blk _ (List.mem_cons_self) b rfl).1;exact this
  have hold:∀ i,i<(Sort.putRow e (Sort.ahead κ.w m) b 0 D).heap.size→(Sort.grow (Sort.putRow e (Sort.ahead κ.w m) b 0 D) os).heap[i]?=(Sort.putRow e (Sort.ahead κ.w m) b 0 D).heap[i]?:=fun i h=>by
    simp only [Sort.grow];rw [Array.getElem?_append_left h]
  have hh2:(Res.row (some ⟨b,0,none⟩) n c T sz css').holds (Sort.grow (Sort.putRow e (Sort.ahead κ.w m) b 0 D) os):=by
    have:(Sort.grow (Sort.putRow e (Sort.ahead κ.w m) b 0 D) os).heap[b]?=(Sort.putRow e (Sort.ahead κ.w m) b 0 D).heap[b]?:=hold b hb2
    unfold Res.holds at hh ⊢
    show (Res.row (some ⟨b,0,none⟩) n c T sz css').says (Sort.grow (Sort.putRow e (Sort.ahead κ.w m) b 0 D) os).heap[b]?
    rw [this];exact hh
  obtain ⟨i3,k3⟩:=t1.1.grow (r':=Res.row (some ⟨b,0,none⟩) n c T sz css') (w':=Sort.grow (Sort.putRow e (Sort.ahead κ.w m) b 0 D) os) ⟨rfl,rfl,rfl,by simp [Sort.grow],fun i h _=>hold i h⟩ (.inr (.inl rfl)) hh2 (sw hh2) (Nat.le_refl _)
  exact ⟨i3,t1.2.trans k3⟩
end
def qN (a b:ByteArray):Bool:=Op.bytesLess a.toList b.toList
theorem ow (a b:ByteArray):qN a b=decide (a.data.toList<b.data.toList):=by
 unfold qN;rw [bytesLess_eq,ByteArray.toList_eq,ByteArray.toList_eq]
theorem tI {κ:Kr}:∀ {xs:List ByteArray} {dss:List (List Value)},Rpss κ (xs.map eS) dss→dss=xs.map fun s=>[.string s]
 | [],_,h=>h.nil_inv
 | x::xs,_,h=>by
  obtain ⟨d,ds,rfl,h1,h2⟩:=h.cons_inv
  obtain ⟨v,vs,rfl,h3,h4⟩:=h1.cons_inv
  rw [tI h2,h4.nil_inv,h3.val];rfl
theorem ox {κ:Kr}:∀ {xs:List ByteArray} {dss:List (List Value)},Rpss κ (xs.map eS) dss→∀ x∈xs,re (.string x)=true
 | [],_,_=>by simp
 | x::xs,_,h=>by
  obtain ⟨d,ds,rfl,h1,h2⟩:=h.cons_inv
  obtain ⟨v,vs,rfl,h3,h4⟩:=h1.cons_inv
  intro y hy
  rcases List.mem_cons.1 hy with rfl | hy
  ·cases h3 with | v hq=>exact hq
  exact ox h2 y hy
theorem oy {κ:Kr}:∀ {xs:List ByteArray},(∀ x∈xs,re (.string x)=true)→Rpss κ (xs.map eS) (xs.map fun s=>[.string s])
 | [],_=>.nil
 | x::xs,h=>.cons (.cons (.v (h x (by simp))) .nil) (oy fun y hy=>h y (by simp [hy]))
theorem wJ (l:List ByteArray):(l.map fun s=>[Value.string s]).flatten=l.map Value.string:=by
 induction l with
 | nil=>rfl
 | cons x xs ih=>simp [ih]
def eR (l:List ByteArray):Option (List ByteArray):=some (jg qN l)
theorem pM {α:Type} {lt:α→α→Bool} (l:List α):(jg lt l).length=l.length:=ij.length_eq
theorem sU (l:List ByteArray):(l.map fun s=>s.data.toList).mergeSort (fun x y=>decide (x≤y))=(jg qN l).map fun s=>s.data.toList:=by
 have key:∀ x y:List UInt8,decide (x≤y) = !decide (y<x):=fun x y=>by
  rw [← decide_not];exact decide_eq_decide.2 (by rw [List.not_lt])
 refine kq (lt:=fun x y=>decide (x<y)) (fun x y h1 h2=>?_) ?_ ?_ ?_
 ·have h1:=of_decide_eq_false h1;have h2:=of_decide_eq_false h2
  exact List.le_antisymm (List.not_lt.1 h2) (List.not_lt.1 h1)
 ·have h:=List.pairwise_mergeSort (le:=fun x y:List UInt8=>decide (x≤y)) (fun a b c h1 h2=>det (List.le_trans (of_decide_eq_true h1) (of_decide_eq_true h2))) (fun a b=>by
   rcases List.le_total a b with h | h
   ·simp [h]
   simp [h]) (l.map fun s=>s.data.toList)
  exact h.imp fun {a b} hab=>by rw [key] at hab;simpa using hab
 ·rw [List.pairwise_map]
  have h:=jI (lt:=qN) (fun x y z h1 h2=>by
   rw [ow] at *;exact det (List.lt_trans (of_decide_eq_true h1) (of_decide_eq_true h2))) (fun x y z h1 h2=>by
   rw [ow] at *;exact i4 (List.not_lt.2 (List.le_trans (List.not_lt.1 (of_decide_eq_false h2)) (List.not_lt.1 (of_decide_eq_false h1))))) (fun x=>by rw [ow];exact i4 (List.lt_irrefl _)) l
  exact h.imp fun {a b} hab=>by rw [← ow];exact hab
 exact (List.mergeSort_perm _ _).trans (ij.symm.map _)
theorem gU {p0 r:List ByteArray} (h:eR p0=some r) {a:Option Addr} {n c:Nat}:PCall 139 [.v (.slice a n c)] [PRes.row a n c 9 1 (List.map eS p0)] (fun pv ρ'=>pv=.tup []∧ρ'=[PRes.row a n c 9 1 (List.map eS r)]):=fun κ args ρ g ha hr=>by
 obtain rfl:=Option.some.inj h
 obtain ⟨v,ws,rfl,ha1,ha2⟩:=ha.cons_inv
 rw [ha2.nil_inv,ha1.val]
 obtain ⟨r0,l',rfl,hr1,hr2⟩:=hr.cons_inv
 have:=hr2.nil_inv;subst this
 refine ⟨(w7 Tryz.func139 rfl),fun hi=>?_⟩
 cases hr1 with
 | row hb ho hc =>
  have hok:=ox hc
  have hd:=tI hc;subst hd
  have how:=hi.own _ (List.mem_cons_self)
  cases a with
  | none =>
   obtain ⟨rfl,rfl,h3⟩:=how
   have hp:p0=[]:=List.map_eq_nil_iff.1 h3
   subst hp
   refine (Any.slices_Sort_string_none Tryz.lSs none 0 κ.w).mono fun e w' ⟨h1,h2⟩=>?_
   subst h1 h2
   exact ⟨_,_,κ,rfl,rfl,hi,.tup [],_,.tup .nil,.cons (.row hb ho (by exact .nil)) .nil,rfl,rfl⟩
  | some ad =>
   have how2:=how
   obtain ⟨h1,h2,h3,h4,h5,cur,h6,h7,h8⟩:=how
   obtain ⟨b,off,sp⟩:=ad
   injection h1 with h1a h1b h1c
   subst h1b h1c
   have hblk:b<κ.w.heap.size:=(hi.blk _ (List.mem_cons_self) b rfl).1
   have hn:n=(p0.map fun s=>s.data.toList).length:=by rw [← h2];simp
   have hH:Sort.Holds encStr κ.w b 0 (p0.map fun s=>s.data.toList).toArray:=by
    intro j hj
    have hj2:j<p0.length:=by simpa using hj
    rw [wJ,Nat.mul_one] at h8
    have hj3:cur.toList[j]?=some (Value.string p0[j]):=by
     have e:=congrArg (fun l=>l[j]?) h8
     simp only [List.getElem?_take,List.getElem?_map] at e
     rw [if_pos (by rw [← h2];simpa using hj2),List.getElem?_eq_getElem hj2] at e
     exact e
    have hj4:cur[j]?=some (Value.string p0[j]):=by rw [← Array.getElem?_toList];exact hj3
    constructor
    ·simp only [World.cell?,h6,Option.isSome_none,Bool.false_eq_true,if_false,Nat.zero_add]
     rw [hj4]
     congr 1
     simp [getElem!_pos,hj2]
    simp [World.frozen?,h6]
   rw [hn]
   refine (Any.slices_Sort_string Tryz.lSs b 0 c _ κ.w hH hblk (by rw [← hn];unfold maxLen at h5;omega)).mono fun e w' ⟨k1,m,os,k2⟩=>?_
   subst k1 k2
   obtain ⟨i1,i2⟩:=lq (m:=m) (os:=os) (e:=encStr) (css':=(jg qN p0).map fun s=>[Value.string s]) (D:=((p0.map fun s=>s.data.toList).mergeSort fun x y=>decide (x≤y)).toArray) hi (by
    rw [sU]
    generalize jg qN p0=q
    induction q with
    | nil=>rfl
    | cons x xs ih=>simp at ih ⊢;exact ih) (by rw [List.length_map,pM];rw [← h2];simp) (by simp)
   exact ⟨_,_,⟨_,κ.S⟩,rfl,rfl,i1,.tup [],_,.tup .nil,.cons (.row hb (by intro cs hcs;obtain ⟨q,_,rfl⟩:=List.mem_map.1 hcs;intro u hu;rw [List.mem_singleton.1 hu];rfl) (oy fun y hy=>hok y (ij.mem_iff.1 hy))) .nil,rfl,by rw [← hn]⟩
theorem le_grow {κ κ':Kr} (h:Le [] κ κ'):∃ q os',κ'.w=Sort.grow (κ.w.drewN q) os':=by
 refine ⟨κ'.w.drawn - κ.w.drawn,κ'.w.heap.extract κ.w.heap.size κ'.w.heap.size,?_⟩
 have hz:=h.kle.size
 have hd:=h.drawn
 have e1:κ'.w.heap=κ.w.heap++κ'.w.heap.extract κ.w.heap.size κ'.w.heap.size:=by
  apply Array.ext_getElem?
  intro i
  rcases Nat.lt_or_ge i κ.w.heap.size with hi | hi
  ·rw [Array.getElem?_append_left hi];exact h.same i hi (by simp)
  rw [Array.getElem?_append_right hi,Array.getElem?_extract]
  split
  ·congr 1;omega
  rw [Array.getElem?_eq_none (by omega)]
 cases hw:κ'.w with
 | mk heap tape drawn os output =>
  have h2:=h.tape;have h3:=h.os;have h4:=h.output
  rw [hw] at e1 h2 h3 h4 hd
  simp only at e1 h2 h3 h4 hd
  simp only [Sort.grow,World.drewN]
  subst h2 h3 h4
  rw [← e1]
  congr 1;omega
theorem pR {γ:Type} [Inhabited γ] (enc:γ→List Value) (k:Nat) (hk:∀ x,(enc x).length=k):∀ L:List γ,(List.range (L.length*k)).map (fun t=>(enc L[t / k]!)[t % k]!)=(L.map enc).flatten
 | []=>by simp
 | x::xs=>by
  have ih:=pR enc k hk xs
  rcases Nat.eq_zero_or_pos k with h0 | h0
  ·subst h0
   have:∀ M:List γ,(M.map enc).flatten=[]:=fun M=>by
    rw [List.flatten_eq_nil_iff];intro l hl;obtain ⟨y,_,rfl⟩:=List.mem_map.1 hl;exact List.eq_nil_of_length_eq_zero (hk y)
   rw [this];simp
  rw [List.length_cons,Nat.add_mul,Nat.one_mul,Nat.add_comm,List.range_add,List.map_append,List.map_cons,List.flatten_cons,← ih,List.map_map]
  congr 1
  ·apply List.ext_getElem
   ·simp [hk]
   intro i h1 h2
   have hi:i<k:=by simpa using h1
   simp [Nat.div_eq_of_lt hi,Nat.mod_eq_of_lt hi,getElem!_pos,h2]
  apply List.map_congr_left
  intro t _
  simp only [Function.comp,Nat.add_div_left _ h0,Nat.add_mod_left]
  rfl
theorem oz {γ:Type} [Inhabited γ] (enc:γ→List Value) (k:Nat) (hk:∀ x,(enc x).length=k) (d:Array γ):(Sort.flatK enc k d).toList.map id=(d.toList.map enc).flatten:=by
 rw [List.map_id,← pR enc k hk]
 simp only [Sort.flatK,Array.toList_map,Array.toList_range,Array.length_toList]
 apply List.map_congr_left
 intro t _
 congr 2
 simp [getElem!_def]
section
variable {α:Type} {enc:α→List PV} {encV:α→List Value}
theorem rW {κ:Kr} (hinv:∀ x ds,Rps κ (enc x) ds→ds=encV x):∀ {xs:List α} {dss:List (List Value)},Rpss κ (xs.map enc) dss→dss=xs.map encV
 | [],_,h=>h.nil_inv
 | x::xs,_,h=>by
  obtain ⟨d,ds,rfl,h1,h2⟩:=h.cons_inv
  rw [rW hinv h2,hinv _ _ h1];rfl
theorem mF {κ:Kr} (hmk:∀ x,Rps κ (enc x) (encV x)):∀ {xs:List α},Rpss κ (xs.map enc) (xs.map encV)
 | []=>.nil
 | x::xs=>.cons (hmk x) (mF hmk)
theorem callSF [Inhabited α] {f g T k:Nat} {ρs:Shelf.Ren} (L:SlLaysF0.n6 Tryz.prog ρs) (hf:ρs.f 6=f) (fOk:FnOk f) (gOk:FnOk g) (aE:∀ w,(isAgg (ρs.t 24)).run Tryz.prog w=.ok true w) (zE:∀ w,(Go.sizeOf (ρs.t 24)).run Tryz.prog w=.ok k w)
    (hk:∀ x,(encV x).length=k) (h1:∀ x,∀ v∈encV x,v.oneCell'=true) (hinv:∀ κ x ds,Rps κ (enc x) ds→ds=encV x) (hmk:∀ κ x,Rps κ (enc x) (encV x)) (cf:α→α→Int) (hO:Sort.SWO (ltOf cf)) (hT:∀ x y,ltOf cf x y=false→ltOf cf y x=false→x=y)
    (hcmp:∀ x y,PF g [.agg (enc x),.agg (enc y)] (pI (cf x y))) {p0:List α} {a:Option Addr} {n c:Nat}:PCall f [.v (.slice a n c),.fn g []] [PRes.row a n c T k (List.map enc p0)] (fun pv ρ'=>pv=.tup []∧ρ'=[PRes.row a n c T k (List.map enc (jg (ltOf cf) p0))]):=fun κ args ρ gk ha hr=>by
  subst hf
  obtain ⟨v,ws,rfl,ha1,ha2⟩:=ha.cons_inv
  obtain ⟨v2,ws2,rfl,ha3,ha4⟩:=ha2.cons_inv
  rw [ha4.nil_inv,ha1.val]
  have hv2:v2=.func (.func g) #[] #[]:=by
    cases ha3 with
    | fn h=>rw [h.nil_inv]
  subst hv2
  obtain ⟨r0,l',rfl,hr1,hr2⟩:=hr.cons_inv
  have:=hr2.nil_inv;subst this
  refine ⟨fOk,fun hi=>?_⟩
  have hn1:∀ l:List α,∀ cs∈l.map encV,cs.length=k:=fun l cs hcs=>by obtain ⟨q,_,rfl⟩:=List.mem_map.1 hcs;exact hk q
  cases hr1 with
  | row hb ho hc =>
    have hd:=rW (hinv κ) hc;subst hd
    have how:=hi.own _ (List.mem_cons_self)
    cases a with
    | none =>
      obtain ⟨rfl,rfl,h3⟩:=how
      have hp:p0=[]:=List.map_eq_nil_iff.1 h3
      subst hp
      refine (AnyF.slices_SortFunc_none L none 0 _ κ.w).mono fun e w' ⟨h1,h2⟩=>?_
      subst h1 h2
      exact ⟨_,_,κ,rfl,rfl,hi,.tup [],_,.tup .nil,.cons (.row hb ho (by exact .nil)) .nil,rfl,rfl⟩
    | some ad =>
      obtain ⟨q1,h2,h3,h4,h5,cur,h6,h7,h8⟩:=how
      obtain ⟨b,off,sp⟩:=ad
      injection q1 with h1a h1b h1c
      subst h1b h1c
      have hblk:b<κ.w.heap.size:=(hi.blk _ (List.mem_cons_self) b rfl).1
      have hn:n=p0.toArray.size:=by rw [← h2];simp
      have hz:(Sort.flatK encV k p0.toArray).size=n*k:=by rw [Sort.size_flatK,← hn]
      have hft:(Sort.flatK encV k p0.toArray).toList=cur.toList.take (n*k):=by
        rw [h8,← oz encV k hk,List.map_id]
      have hH:Sort.HoldsK encV k κ.w b 0 p0.toArray:=by
        intro j hj
        have hj2:j<n*k:=by rw [← hz];exact hj
        have hj3:(Sort.flatK encV k p0.toArray)[j]?=cur[j]?:=by
          rw [← Array.getElem?_toList,hft,List.getElem?_take,if_pos hj2,Array.getElem?_toList]
        constructor
        · simp only [World.cell?,h6,Option.isSome_none,Bool.false_eq_true,if_false,Nat.zero_add]
          rw [← hj3,Array.getElem?_eq_getElem hj,getElem!_pos _ j hj];rfl
        simp [World.frozen?,h6]
      have hcl:CmpLays Tryz.prog g #[] encV k cf b 0 p0.toArray.size κ.w:=fun m os dk hs x y=>by
        obtain ⟨i1,k1⟩:=lq (m:=m) (os:=os) (e:=id) (D:=Sort.flatK encV k dk) (css':=dk.toList.map encV) hi (oz encV k hk dk) (by rw [List.length_map,Array.length_toList,hs,hn]) (hn1 _)
        have hc2:=hcmp x y ⟨_,κ.S⟩ [.agg (encV x).toArray,.agg (encV y).toArray] (gk.mono k1) (.cons (.agg (h1 x) (hmk _ x)) (.cons (.agg (h1 y) (hmk _ y)) .nil))
        refine (hc2.2 ⟨Le.refl _ _,i1.fin,by simp,by simp,List.Pairwise.nil⟩).mono fun e w' ⟨v,ρ',κ',g1,g2,g3,g4⟩=>?_
        obtain ⟨q,os',hq⟩:=le_grow g3.le
        subst g1 g2
        exact ⟨by rw [g4.2.val],q,os',hq⟩
      rw [hn]
      refine (AnyQ.slices_SortFunc_total L k aE zE encV hk h1 cf hO g #[] b 0 c p0.toArray κ.w (fun args w=>gZ gOk args w) hcl hH hblk (by rw [← hn];unfold maxLen at h5;omega) hT).mono fun e w' ⟨k1,m,os,k2⟩=>?_
      have hso:(p0.toArray.toList.mergeSort fun x y => !(ltOf cf) y x)=jg (ltOf cf) p0:=by
        refine kq (lt:=ltOf cf) hT ?_ (jI hO.trans hO.ntrans hO.irrefl p0) ((List.mergeSort_perm _ _).trans ij.symm)
        have h:=List.pairwise_mergeSort (le:=fun x y:α => !(ltOf cf) y x) (fun a b c h1 h2=>by
          simp only [Bool.not_eq_true'] at h1 h2 ⊢;exact hO.ntrans _ _ _ h2 h1) (fun a b=>by
          cases e1:ltOf cf b a
          · simp
          cases e2:ltOf cf a b
          · simp
          have:=hO.trans _ _ _ e1 e2;rw [hO.irrefl] at this;cases this) p0
        exact h.imp fun {a b} hab=>by simpa using hab
      rw [hso] at k2
      subst k1 k2
      obtain ⟨i1,i2⟩:=lq (m:=m) (os:=os) (e:=id) (css':=(jg (ltOf cf) p0).map encV) (D:=Sort.flatK encV k (jg (ltOf cf) p0).toArray) hi (oz encV k hk _) (by rw [List.length_map,pM];rw [← h2];simp) (hn1 _)
      exact ⟨_,_,⟨_,κ.S⟩,rfl,rfl,i1,.tup [],_,.tup .nil,.cons (.row hb (by intro cs hcs;obtain ⟨q,_,rfl⟩:=List.mem_map.1 hcs;exact h1 q) (mF (hmk _))) .nil,rfl,by rw [← hn]⟩
end
theorem cmpI (a b:Int):cM a b=some (if a<b then -1 else if b<a then 1 else 0):=by
 unfold cM fg
 simp only [bne_self_eq_false,iD,i0]
 by_cases h:a<b
 ·rw [det h,if_pos h];rfl
 rw [i4 h,if_neg h]
 by_cases h2:b<a
 ·rw [det h2,if_pos h2];rfl
 rw [i4 h2,if_neg h2];rfl
theorem cmpOr2 (a b:Int):il [a,b]=some (if a=0 then b else a):=by
 unfold il
 refine (jh (l:=[a,b]) (by simp) (fun _ x=>cond (x != 0) (some (.inr x)) none) (.inl ()) (fun k hk=>?_) (by rw [oh];rfl)).trans ?_
 ·rw [wA hk,ga,bnd (cy hk),kV hk (by simp)]
  cases ([a,b][k] != 0) <;> rfl
 rw [oj (fun x:Int=>x != 0) (fun x=>(Sum.inr x:Unit⊕Int))]
 by_cases ha:a=0
 ·subst ha
  by_cases hb:b=0
  ·subst hb;rfl
  simp [hb]
 simp [ha]
def ee (x y:Za):Bool:=decide (x.Product<y.Product)||(decide (x.Product=y.Product)&&decide (x.Agreement<y.Agreement))
def lK (x y:Za):Int:=if (if x.Product<y.Product then (-1:Int) else if y.Product<x.Product then 1 else 0)=0 then (if x.Agreement<y.Agreement then -1 else if y.Agreement<x.Agreement then 1 else 0) else (if x.Product<y.Product then -1 else if y.Product<x.Product then 1 else 0)
theorem lr:ltOf lK=ee:=by
 funext x y
 unfold ltOf lK ee
 rcases Int.lt_trichotomy x.Product y.Product with h | h | h
 ·rw [if_pos h];simp [h]
 ·simp only [h,Int.lt_irrefl,if_false,if_true,decide_false,decide_true,Bool.false_or,Bool.true_and]
  rcases Int.lt_trichotomy x.Agreement y.Agreement with h2 | h2 | h2
  ·rw [if_pos h2];simp [h2]
  ·simp [h2]
  rw [if_neg (by omega),if_pos h2];simp;omega
 have h1:¬ x.Product<y.Product:=by omega
 have h3:¬ x.Product=y.Product:=by omega
 simp [h,h1,h3]
theorem uJ (x y:Za):cA x y=some (lK x y):=by
 unfold cA lK
 rw [cmpI,cmpI]
 simp only [iD,cmpOr2]
theorem mG (x y:Za):ee x y=true↔x.Product<y.Product∨(x.Product=y.Product∧x.Agreement<y.Agreement):=by simp [ee]
theorem kz (x y:Za):ee x y=false↔¬ (x.Product<y.Product∨(x.Product=y.Product∧x.Agreement<y.Agreement)):=by rw [← mG];simp
theorem rX (x:Za):ee x x=false:=by rw [kz];omega
theorem sV (x y z:Za):ee x y=true→ee y z=true→ee x z=true:=by simp only [mG];omega
theorem rY (x y z:Za):ee x y=false→ee y z=false→ee x z=false:=by simp only [kz];omega
theorem rZ (x y:Za):ee x y=false→ee y x=false→x=y:=by
 simp only [kz];intro h1 h2
 cases x;cases y;simp at h1 h2 ⊢;omega
def bm (l:List Za):Option (List Za):=some (jg ee l)
theorem bL {p0 r:List Za} (h:bm p0=some r) {a:Option Addr} {n c:Nat}:PCall 49 [.v (.slice a n c),.fn 50 []] [PRes.row a n c 28 2 (List.map Za.enc p0)] (fun pv ρ'=>pv=.tup []∧ρ'=[PRes.row a n c 28 2 (List.map Za.enc r)]):=by
 obtain rfl:=Option.some.inj h
 rw [← lr]
 exact callSF Tryz.lSF rfl (w7 Tryz.func49 rfl) (w7 Tryz.func50 rfl) Tryz.isAgg28 Tryz.sizeOf28 (encV:=fun x=>[.int .i64 x.Product,.int .i64 x.Agreement]) (fun _=>rfl)
  (fun x v hv=>by simp at hv;rcases hv with rfl | rfl <;> rfl) (fun κ x ds h=>by
   obtain ⟨v,ws,rfl,h1,h2⟩:=h.cons_inv
   obtain ⟨v2,ws2,rfl,h3,h4⟩:=h2.cons_inv
   rw [h1.val,h3.val,h4.nil_inv]) (fun κ x=>.cons (.v rfl) (.cons (.v rfl) .nil)) lK
  (by rw [lr];exact ⟨rX,sV,rY⟩) (by rw [lr];exact rZ) (fun x y=>hQ (uJ x y))

end SX
namespace SX
open Go
attribute [local irreducible] PWL PWC PWD POpL POpQ PEv PGuardIs PSub PPick PUpd PSplice PFill PLit PF PFV PCall FOk dz cI jc jd fp ie Cov PHolds bf idx app mk gd lb nz nO uU sub ka fP uT oO ft cS nL oQ IntKind.wrap Int.tmod Int.tdiv Op.bytesLess strOfNums
def dW (p0:(List ByteArray)):Option Bool:=cond (decide (8<(p0.length:Int))) (some false) ((bf (S:=Int) (T:=(Unit)⊕(_)) (fun v2=>cond (decide (v2<(p0.length:Int))) ((idx p0 v2).bind fun m6=>(jU m6).bind fun x7=>(gd ((!(!x7))&&(decide (0<v2))) (idx p0 (IntKind.i64.wrap (v2 - 1)))).bind fun m8=>cond ((!x7)||((decide (0<v2))&&(Op.bytesLess m6.toList m8.toList||decide (m6=m8)))) (some (.inr (.inr false))) (some (.inl (IntKind.i64.wrap (v2+1))))) (some (.inr (.inl ())))) FUEL 0).bind fun q=>match q with | .inl _=>some true | .inr e=>some e)
theorem e8 {p0:(List ByteArray)} {r:Bool}  (h:dW p0=some r):PF 63 [pL eS p0] (pB r):=by
 unfold dW at h
 refine aY ?_
 refine dw Tryz.func63 rfl Tryz.ntmps63 Tryz.results63 rfl (aR [2] (by kernel_rfl) (cg (ah [5,6] [(7,pB (decide (8<(p0.length:Int))))] (by kernel_rfl) (bK rfl h (fun hc1 h=>?_) fun hc1 h=>?_))))
 ·refine ae ?_
  refine dn [(2,pB false)] (by kernel_rfl) (am ?_)
  exact zz r h rfl
 refine ai ?_
 refine cg (ak [(8,pL eS p0),(9,pI (p0.length:Int)),(10,pI 0)] (by kernel_rfl) (fG h fun q4 hq4 h=>?_))
 refine av (Y:=Unit×Unit) (fun (_,_)=>[]) (fun (_,_)=>[]) (fun (_,_)=>q4=Sum.inl ()) ?_ ?_
 ·refine aA ?_
  refine aC (Y:=Unit) (S:=Int) _ hq4 (fun _ v2=>[(0,pL eS p0),(8,pL eS p0),(9,pI (p0.length:Int)),(10,pI v2)]) (fun _ v2=>[]) () (gI rfl) bz ?_
  rintro _ v2 o τ hb3;(try dsimp only at hb3);dsimp only [aw]
  refine ae (ak [(11,pB (decide (v2<(p0.length:Int))))] (by kernel_rfl) (br (gM rfl hb3 (fun hc5 hb3=>?_) fun hc5 hb3=>?_)))
  ·refine ai ?_
   refine br (ff (af hb3 fun m6 hm6 hb3=>an [] [12,13,14] [(3,pI v2),(4,pS m6)] (cn 1 eS hm6 bo) (by kernel_rfl) (cr hb3 fun x7 hx7 hb3=>af hb3 fun m8 hm8 hb3=>an [] (rg 15 15) [(30,pB ((!x7)||((decide (0<v2))&&(Op.bytesLess m6.toList m8.toList||decide (m6=m8)))))] (bA 1 (mR hx7) (gX 11 eS (dj hm8) bo)) (by kernel_rfl) (bK rfl hb3 (fun hc9 hb3=>?_) fun hc9 hb3=>?_))))
   ·refine ae ?_
    refine dn [(2,pB false)] (by kernel_rfl) (eV ?_)
    refine aF hb3 (fun ht=>?_);subst ht
    refine ar (aJ ?_)
    exact zz r h rfl
   refine ai ?_
   refine dY (ah [31] [(10,pI (IntKind.i64.wrap (v2+1)))] (by kernel_rfl) ?_)
   exact aT hb3 () (gI rfl) bz
  refine aM ?_
  refine aq (al hb3 (fun ht=>ap rfl ?_))
  exact aD ((),()) kl bz ht.symm
 rintro ⟨_,_⟩ τ hz;(try dsimp only at hz);subst q4;(try dsimp only at h);dsimp only [aw]
 refine ae (dn [(2,pB true)] (by kernel_rfl) ?_)
 exact zz r h rfl
def gV (p0:(List ByteArray)):Option Bool:=cond (decide (6<(p0.length:Int))) (some false) ((bf (S:=Int) (T:=(Unit)⊕(_)) (fun v2=>cond (decide (v2<(p0.length:Int))) ((idx p0 v2).bind fun m6=>(dc m6).bind fun x7=>(gd ((!(x7 == 0))&&(decide (0<v2))) (idx p0 (IntKind.i64.wrap (v2 - 1)))).bind fun m8=>cond ((x7 == 0)||((decide (0<v2))&&(Op.bytesLess m6.toList m8.toList||decide (m6=m8)))) (some (.inr (.inr false))) (some (.inl (IntKind.i64.wrap (v2+1))))) (some (.inr (.inl ())))) FUEL 0).bind fun q=>match q with | .inl _=>some true | .inr e=>some e)
theorem ls {p0:(List ByteArray)} {r:Bool}  (h:gV p0=some r):PF 189 [pL eS p0] (pB r):=by
 unfold gV at h
 refine aY ?_
 refine dw Tryz.func189 rfl Tryz.ntmps189 Tryz.results189 rfl (aR [2] (by kernel_rfl) (cg (ah [5,6] [(7,pB (decide (6<(p0.length:Int))))] (by kernel_rfl) (bK rfl h (fun hc1 h=>?_) fun hc1 h=>?_))))
 ·refine ae ?_
  refine dn [(2,pB false)] (by kernel_rfl) (am ?_)
  exact zz r h rfl
 refine ai ?_
 refine cg (ak [(8,pL eS p0),(9,pI (p0.length:Int)),(10,pI 0)] (by kernel_rfl) (fG h fun q4 hq4 h=>?_))
 refine av (Y:=Unit×Unit) (fun (_,_)=>[]) (fun (_,_)=>[]) (fun (_,_)=>q4=Sum.inl ()) ?_ ?_
 ·refine aA ?_
  refine aC (Y:=Unit) (S:=Int) _ hq4 (fun _ v2=>[(0,pL eS p0),(8,pL eS p0),(9,pI (p0.length:Int)),(10,pI v2)]) (fun _ v2=>[]) () (gI rfl) bz ?_
  rintro _ v2 o τ hb3;(try dsimp only at hb3);dsimp only [aw]
  refine ae (ak [(11,pB (decide (v2<(p0.length:Int))))] (by kernel_rfl) (br (gM rfl hb3 (fun hc5 hb3=>?_) fun hc5 hb3=>?_)))
  ·refine ai ?_
   refine br (ff (af hb3 fun m6 hm6 hb3=>an [] [12,13,14] [(3,pI v2),(4,pS m6)] (cn 1 eS hm6 bo) (by kernel_rfl) (cr hb3 fun x7 hx7 hb3=>af hb3 fun m8 hm8 hb3=>an [] (rg 15 15) [(30,pB ((x7 == 0)||((decide (0<v2))&&(Op.bytesLess m6.toList m8.toList||decide (m6=m8)))))] (bA 1 (dh hx7) (gX 11 eS (dj hm8) bo)) (by kernel_rfl) (bK rfl hb3 (fun hc9 hb3=>?_) fun hc9 hb3=>?_))))
   ·refine ae ?_
    refine dn [(2,pB false)] (by kernel_rfl) (eV ?_)
    refine aF hb3 (fun ht=>?_);subst ht
    refine ar (aJ ?_)
    exact zz r h rfl
   refine ai ?_
   refine dY (ah [31] [(10,pI (IntKind.i64.wrap (v2+1)))] (by kernel_rfl) ?_)
   exact aT hb3 () (gI rfl) bz
  refine aM ?_
  refine aq (al hb3 (fun ht=>ap rfl ?_))
  exact aD ((),()) kl bz ht.symm
 rintro ⟨_,_⟩ τ hz;(try dsimp only at hz);subst q4;(try dsimp only at h);dsimp only [aw]
 refine ae (dn [(2,pB true)] (by kernel_rfl) ?_)
 exact zz r h rfl
def jV (rec:Ze→Option Bool) (p0:Ze):Option Bool:=(lh p0).bind fun x2=>cond (!x2) (some false) (cond (p0.Kind == 1) (some true) (cond (p0.Kind == 2) ((gd (((p0.Digits == 2)||(p0.Digits == 4))||(p0.Digits == 6)) (gV p0.Except)).bind fun x6=>(gd ((((p0.Digits == 2)||(p0.Digits == 4))||(p0.Digits == 6))&&x6) (fk p0.Tolerance)).bind fun x7=>some (((((p0.Digits == 2)||(p0.Digits == 4))||(p0.Digits == 6))&&x6)&&x7)) (cond (p0.Kind == 3) ((fk p0.Limit).bind fun x9=>some x9) (cond (p0.Kind == 4) ((dW [p0.Name]).bind fun x13=>some x13) (Option.bind (cond (p0.Kind == 5) (some (p0.Kind == 5)) (some (p0.Kind == 6))) (fun v14=>cond v14 (cond ((decide ((p0.Args.length:Int)<2))||(decide (6<(p0.Args.length:Int)))) (some false) ((bf (S:=Int) (T:=(Unit)⊕(_)) (fun v19=>cond (decide (v19<(p0.Args.length:Int))) ((idx p0.Args v19).bind fun m23=>(gd (!(m23.Kind == p0.Kind)) (rec m23)).bind fun x25=>cond ((m23.Kind == p0.Kind)||(!x25)) (some (.inr (.inr false))) (some (.inl (IntKind.i64.wrap (v19+1))))) (some (.inr (.inl ())))) FUEL 0).bind fun q=>match q with | .inl _=>some true | .inr e=>some e)) (some false)))))))
theorem mS {rec:Ze→Option Bool} (hrec:∀ {p0:Ze} {r:Bool},rec p0=some r→PF 166 [.agg (aK p0)] (pB r)) {p0:Ze} {r:Bool} (h:jV rec p0=some r):PF 166 [.agg (aK p0)] (pB r):=by
 unfold jV at h
 refine aY ?_
 refine dw Tryz.func166 rfl Tryz.ntmps166 Tryz.results166 rfl (aa (aj rfl (bj (cs:=(aK p0)) rfl rfl (fun b1=>aZ [2] (by kernel_rfl) (cg (af h fun x2 hx2 h=>an [0] [6,7] [(8,pB (!x2))] (bA 1 (oW hx2) bo) (by kernel_rfl) (bK rfl h (fun hc3 h=>?_) fun hc3 h=>?_)))))))
 ·refine ae ?_
  refine dn [(2,pB false)] (by kernel_rfl) (am ?_)
  exact zz r h rfl
 refine ai ?_
 refine cg (aW [0] [9] [(10,pI p0.Kind)] (by kernel_rfl) (aG (ff (ah [12] [(11,pB (p0.Kind == 1))] (by kernel_rfl) (bK rfl h (fun hc4 h=>?_) fun hc4 h=>?_)))))
 ·refine ae ?_
  refine dn [(2,pB true)] (by kernel_rfl) (eV ?_)
  exact zz r h rfl
 refine ae ?_
 refine ah [14] [(13,pB (p0.Kind == 2))] (by kernel_rfl) (bK rfl h (fun hc5 h=>?_) fun hc5 h=>?_)
 ·refine ae ?_
  refine aW [0,0,0] (rg 15 13) [(3,pB (((p0.Digits == 2)||(p0.Digits == 4))||(p0.Digits == 6)))] (by kernel_rfl) (cr h fun x6 hx6 h=>af h fun x7 hx7 h=>an [0,0] (rg 28 11) [(2,pB (((((p0.Digits == 2)||(p0.Digits == 4))||(p0.Digits == 6))&&x6)&&x7))] (dR 4 (fun hc=>ls (dj hx6 hc)) (dR 9 (fun hc=>ik (dj hx7 hc)) bo)) (by kernel_rfl) (df (eV ?_)))
  exact zz r h rfl
 refine ae ?_
 refine ah [40] [(39,pB (p0.Kind == 3))] (by kernel_rfl) (bK rfl h (fun hc8 h=>?_) fun hc8 h=>?_)
 ·refine ae ?_
  refine af h fun x9 hx9 h=>an [0] [41,42,43] [(2,pB x9)] (bA 2 (ik hx9) bo) (by kernel_rfl) (df (eV ?_))
  exact zz r h rfl
 refine ae ?_
 refine ah [45] [(44,pB (p0.Kind == 4))] (by kernel_rfl) (bK rfl h (fun hc10 h=>?_) fun hc10 h=>?_)
 ·refine ae ?_
  refine aa (bI 2 [0] [46] [(47,pS p0.Name)] (by kernel_rfl) (aj rfl (bR rfl rfl rfl rfl rfl (ko rfl kO) rfl rfl rfl rfl (fun b11=>?_))))
  refine eo (enc:=eS) (xs:=[p0.Name]) 48 rfl (by exact aV) ?_
  refine af h fun x13 hx13 h=>eB [] [49] [(2,pB x13)] (bA 0 (e8 hx13) bo) (by kernel_rfl) (df (eV ?_))
  exact zz r h rfl
 refine ae ?_
 refine ae (ah [51] [(50,pB (p0.Kind == 5))] (by kernel_rfl) (fG h fun q15 hq15 h=>?_))
 refine av (Y:=Unit×Bool) (fun (_,v14)=>[(1,pP b1 0),(50,pB v14)]) (fun (_,v14)=>[PRes.b b1 84 (aK p0)]) (fun (_,v14)=>q15=v14) ?_ ?_
 ·skip
  refine gM rfl hq15 (fun hc16 hq15=>?_) fun hc16 hq15=>?_
  ·refine ai ?_
   obtain rfl:=osi hq15
   exact aD ((),(p0.Kind == 5)) (nT rfl) dl rfl
  refine ah [52] [(50,pB (p0.Kind == 6))] (by kernel_rfl) ?_
  obtain rfl:=osi hq15
  exact aD ((),(p0.Kind == 6)) (nT rfl) dl rfl
 rintro ⟨_,v14⟩ τ hz;(try dsimp only at hz);subst q15;(try dsimp only at h);dsimp only [aw]
 refine gM rfl h (fun hc17 h=>?_) fun hc17 h=>?_
 ·refine ae ?_
  refine ae (aW [0,0] (rg 53 9) [(62,pB ((decide ((p0.Args.length:Int)<2))||(decide (6<(p0.Args.length:Int)))))] (by kernel_rfl) (bK rfl h (fun hc18 h=>?_) fun hc18 h=>?_))
  ·refine ae ?_
   refine dn [(2,pB false)] (by kernel_rfl) (am (eV ?_))
   exact zz r h rfl
  refine ai ?_
  refine cg (aW [0] [63] [(64,pL Ze.enc p0.Args),(65,pI (p0.Args.length:Int)),(66,pI 0)] (by kernel_rfl) (fG h fun q21 hq21 h=>?_))
  refine av (Y:=Unit×Unit) (fun (_,_)=>[]) (fun (_,_)=>[]) (fun (_,_)=>q21=Sum.inl ()) ?_ ?_
  ·refine aA ?_
   refine aC (Y:=Unit) (S:=Int) _ hq21 (fun _ v19=>[(1,pP b1 0),(64,pL Ze.enc p0.Args),(65,pI (p0.Args.length:Int)),(66,pI v19)]) (fun _ v19=>[PRes.b b1 84 (aK p0)]) () (gI rfl) dl ?_
   rintro _ v19 o τ hb20;(try dsimp only at hb20);dsimp only [aw]
   refine ae (ak [(67,pB (decide (v19<(p0.Args.length:Int))))] (by kernel_rfl) (br (gM rfl hb20 (fun hc22 hb20=>?_) fun hc22 hb20=>?_)))
   ·refine ai ?_
    refine br (ff (af hb20 fun m23 hm23 hb20=>aa (aU 2 [] [68] [(69,.agg (aK m23))] (pz 0 Ze.enc (Ze.enc_eq _) hm23 bo) (by kernel_rfl) (aj rfl (aQ (cs:=[pI 0,pI 0,pN,pI 0,pI 0,pS ByteArray.empty,pN]) rfl rfl rfl rfl (fun b24=>aX rfl rfl (aH (vs:=(aK m23)) rfl rfl rfl rfl rfl dy px (au (cr hb20 fun x25 hx25 hb20=>an [0,1,0] (rg 70 9) [(79,pB ((m23.Kind == p0.Kind)||(!x25)))] (dR 7 (fun hc=>hrec (dj hx25 hc)) bo) (by kernel_rfl) (bK rfl hb20 (fun hc26 hb20=>?_) fun hc26 hb20=>?_))))))))))
    ·refine ae ?_
     refine dn [(2,pB false)] (by kernel_rfl) (eV ?_)
     refine aF hb20 (fun ht=>?_);subst ht
     refine ar (aJ (eV ?_))
     exact zz r h rfl
    refine ai ?_
    refine dY (ah [80] [(66,pI (IntKind.i64.wrap (v19+1)))] (by kernel_rfl) ?_)
    exact aT hb20 () (gI rfl) (bu (az aV) bz)
   refine aM ?_
   refine aq (al hb20 (fun ht=>ap rfl ?_))
   exact aD ((),()) kl bz ht.symm
  rintro ⟨_,_⟩ τ hz;(try dsimp only at hz);subst q21;(try dsimp only at h);dsimp only [aw]
  refine ae (dn [(2,pB true)] (by kernel_rfl) (eV ?_))
  exact zz r h rfl
 refine ai ?_
 refine aB (br (dn [(2,pB false)] (by kernel_rfl) ?_))
 exact zz r h rfl
def lL (n:Nat):Ze→Option Bool:=Nat.rec (motive:=fun _=>Ze→Option Bool) (fun _=>none) (fun _ ih=>jV ih) n
def oA (p0:Ze):Option Bool:=lL FUEL p0
theorem oB (n:Nat):∀ {p0:Ze} {r:Bool},lL n p0=some r→PF 166 [.agg (aK p0)] (pB r):=by
 induction n with
 | zero=>intros;rename_i h;exact nomatch h
 | succ n ih=>intros;rename_i h;exact mS (fun hr=>ih hr) h
theorem o6 {p0:Ze} {r:Bool} (h:oA p0=some r):PF 166 [.agg (aK p0)] (pB r):=oB FUEL h
def eu (p0:Ze):Option Int:=(om p0 33).bind fun x2=>cond (decide (32<x2)) (some (8:Int)) ((oA p0).bind fun x4=>cond (!x4) (some (1:Int)) (some (0:Int)))
theorem eQ {p0:Ze} {r:Int}  (h:eu p0=some r):PF 130 [.agg (aK p0)] (pI r):=by
 unfold eu at h
 refine aY ?_
 refine dw Tryz.func130 rfl Tryz.ntmps130 Tryz.results130 rfl (aa (aj rfl (bj (cs:=(aK p0)) rfl rfl (fun b1=>aZ [2] (by kernel_rfl) (cg (af h fun x2 hx2 h=>an [0] [3,4] [(5,pB (decide (32<x2)))] (bA 1 (oV hx2) bo) (by kernel_rfl) (bK rfl h (fun hc3 h=>?_) fun hc3 h=>?_)))))))
 ·refine ae ?_
  refine dn [(2,pI 8)] (by kernel_rfl) (am ?_)
  exact zz r h rfl
 refine ai ?_
 refine cg (af h fun x4 hx4 h=>an [0] [6,7] [(8,pB (!x4))] (bA 1 (o6 hx4) bo) (by kernel_rfl) (bK rfl h (fun hc5 h=>?_) fun hc5 h=>?_))
 ·refine ae ?_
  refine dn [(2,pI 1)] (by kernel_rfl) (am ?_)
  exact zz r h rfl
 refine ai ?_
 refine br (dn [(2,pI 0)] (by kernel_rfl) ?_)
 exact zz r h rfl
def eD (p0:Zg) (p1:ByteArray):Option (Ze×Bool):=(bf (S:=Int×Int) (T:=(Int)) (fun (v3,v4)=>cond (decide (v4<(p0.Rules.length:Int))) (((idx p0.Rules v4).bind fun m11=>(dC p1 m11.Prefix).bind fun x13=>(gd (x13&&(!(decide (v3<0)))) (idx p0.Rules v3)).bind fun m14=>cond (x13&&((decide (v3<0))||(decide ((m14.Prefix.size:Int)<(m11.Prefix.size:Int))))) (some v4) (some v3)).bind fun v9=>some (.inl (v9,(IntKind.i64.wrap (v4+1))))) (some (.inr v3))) FUEL ((-1),0)).bind fun v5=>(gd (!(decide (v5<0))) (idx p0.Rules v5)).bind fun m16=>(gd (!(decide (v5<0))) (eu m16.Rule)).bind fun x17=>cond ((decide (v5<0))||(x17 != 0)) (some ((⟨0,0,[],0,0,ByteArray.empty,[]⟩:Ze),false)) ((idx p0.Rules v5).bind fun m19=>(gB m19.Rule).bind fun x20=>some (x20,true))
theorem gG {p0:Zg} {p1:ByteArray} {r:(Ze×Bool)}  (h:eD p0 p1=some r):PF 89 [.agg (aL p0),pS p1] (.tup [.agg (aK r.1),pB r.2]):=by
 unfold eD at h
 refine aY ?_
 refine dw Tryz.func89 rfl Tryz.ntmps89 Tryz.results89 rfl (aa (aj rfl (bj (cs:=(aL p0)) rfl rfl (fun b1=>aj rfl (aQ (cs:=[pI 0,pI 0,pN,pI 0,pI 0,pS ByteArray.empty,pN]) rfl rfl rfl rfl (fun b2=>aZ [5] (by kernel_rfl) (br (ak [(6,pI (-1))] (by kernel_rfl) (cg (aW [1] [9] [(10,pL Zj.enc p0.Rules),(11,pI (p0.Rules.length:Int)),(12,pI 0)] (by kernel_rfl) (fG h fun q7 hq7 h=>?_)))))))))))
 refine av (Y:=Unit×Int) (fun (_,v5)=>[(2,pP b1 0),(4,pP b2 0),(6,pI v5)]) (fun (_,v5)=>[PRes.b b1 81 (aL p0),PRes.b b2 84 [pI 0,pI 0,pN,pI 0,pI 0,pS ByteArray.empty,pN]]) (fun (_,v5)=>q7=v5) ?_ ?_
 ·refine aA ?_
  refine aC (Y:=Unit) (S:=Int×Int) _ hq7 (fun _ (v3,v4)=>[(1,pS p1),(2,pP b1 0),(4,pP b2 0),(6,pI v3),(10,pL Zj.enc p0.Rules),(11,pI (p0.Rules.length:Int)),(12,pI v4)]) (fun _ (v3,v4)=>[PRes.b b1 81 (aL p0),PRes.b b2 84 [pI 0,pI 0,pN,pI 0,pI 0,pS ByteArray.empty,pN]]) () (uW rfl) (bu (az aV) dl) ?_
  rintro _ ⟨v3,v4⟩ o τ hb6;(try dsimp only at hb6);dsimp only [aw]
  refine ae (ak [(13,pB (decide (v4<(p0.Rules.length:Int))))] (by kernel_rfl) (br (gM rfl hb6 (fun hc8 hb6=>?_) fun hc8 hb6=>?_)))
  ·refine ai ?_
   refine cr hb6 fun q10 hq10 hb6=>?_
   refine av (Y:=Unit×Int) (fun (_,v9)=>[(1,pS p1),(2,pP b1 0),(4,pP b2 0),(6,pI v9),(10,pL Zj.enc p0.Rules),(11,pI (p0.Rules.length:Int)),(12,pI v4)]) (fun (_,v9)=>[PRes.b b1 81 (aL p0),PRes.b b2 84 [pI 0,pI 0,pN,pI 0,pI 0,pS ByteArray.empty,pN]]) (fun (_,v9)=>q10=v9) ?_ ?_
   ·skip
    refine ff (af hq10 fun m11 hm11 hq10=>aa (aU 3 [] [15] [(14,pI v4),(16,.agg (ce m11))] (cn 1 Zj.enc hm11 bo) (by kernel_rfl) (aj rfl (aQ (cs:=[pS ByteArray.empty,pI 0,pI 0,pN,pI 0,pI 0,pS ByteArray.empty,pN]) rfl rfl rfl rfl (fun b12=>aI 1 [(7,pI v4)] (by kernel_rfl) (aX rfl rfl (aH (vs:=(ce m11)) rfl rfl rfl rfl rfl dy zl8 (au (br (bN (ρd:=[]) [(0,0),(1,0),(2,0),(3,1),(4,0),(5,0),(6,0),(7,0),(8,0),(9,0),(10,0),(11,0),(12,0),(13,0),(14,0),(15,0),(16,0),(17,0),(18,0),(19,0),(20,0)] _ (List.Perm.refl _) (by kernel_rfl) rfl (af hq10 fun x13 hx13 hq10=>af hq10 fun m14 hm14 hq10=>bY 21 [0,0,1] (rg 17 20) [(37,pB (x13&&((decide (v3<0))||(decide ((m14.Prefix.size:Int)<(m11.Prefix.size:Int))))))] (bA 3 (eH hx13) (gX 14 Zj.enc (dj hm14) bo)) (by kernel_rfl) (cd (bK rfl hq10 (fun hc15 hq10=>?_) fun hc15 hq10=>?_)))))))))))))
    ·refine ah [38] [(6,pI v4)] (by kernel_rfl) ?_
     refine aB ?_
     obtain rfl:=osi hq10
     exact aD ((),v4) (uW rfl) (bu (az aV) (bu (az aV) bz)) rfl
    refine ai ?_
    refine aB ?_
    obtain rfl:=osi hq10
    exact aD ((),v3) (uW rfl) (bu (az aV) (bu (az aV) bz)) rfl
   rintro ⟨_,v9⟩ τ hz;(try dsimp only at hz);subst q10;(try dsimp only at hb6);dsimp only [aw]
   refine ah [39] [(12,pI (IntKind.i64.wrap (v4+1)))] (by kernel_rfl) ?_
   exact aT hb6 () (uW rfl) pu
  refine aM ?_
  refine aq (al hb6 (fun ht=>ap rfl ?_))
  exact aD ((),v3) (oS rfl) pu ht.symm
 rintro ⟨_,v5⟩ τ hz;(try dsimp only at hz);subst q7;(try dsimp only at h);dsimp only [aw]
 refine ae (ae (af h fun m16 hm16 h=>af h fun x17 hx17 h=>an [0] (rg 40 11) [(51,pB ((decide (v5<0))||(x17 != 0)))] (gX 6 Zj.enc (dj hm16) (dR 9 (fun hc=>eQ (dj hx17 hc)) bo)) (by kernel_rfl) (bK rfl h (fun hc18 h=>?_) fun hc18 h=>?_)))
 ·refine ae ?_
  refine aa (aI 1 [(52,.agg [pI 0,pI 0,pN,pI 0,pI 0,pS ByteArray.empty,pN])] (by kernel_rfl) (aX rfl rfl (aH (vs:=[pI 0,pI 0,pN,pI 0,pI 0,pS ByteArray.empty,pN]) rfl rfl rfl rfl rfl (gu dy) px (aP [(5,pB false)] (by kernel_rfl) (aG (gy (k:=2) (b:=b2) rfl (gu dy) (gy (k:=6) (b:=b2) rfl (gu dy) (bx (am ?_)))))))))
  obtain rfl:=osi h
  exact aO (cC (gK rfl uV rfl) (aN rfl)) bz ⟨rfl,rfl⟩
 refine ai ?_
 refine cr h fun m19 hm19 h=>af h fun x20 hx20 h=>aa (aU 7 [0] (rg 53 6) [(59,.agg (aK x20))] (cn 3 Zj.enc hm19 (bA 6 (jk hx20) bo)) (by kernel_rfl) (aX rfl rfl (aH (vs:=(aK x20)) rfl rfl rfl rfl rfl (gu dy) px (aP [(5,pB true)] (by kernel_rfl) (df ?_)))))
 obtain rfl:=osi h
 exact aO (cC (gK rfl uV rfl) (aN rfl)) bz ⟨rfl,rfl⟩
def di (p0:(List Zd)) (p1:(List Zg)) (p2:ByteArray) (p3:Za):Option Bool:=(dx p0 p3.Product).bind fun x2=>cond (!x2.2) (some false) ((ep p1 p3.Agreement).bind fun x5=>(gd (!((!x5.2)||(decide (x2.1.Country=p2)))) (dg x5.1 x2.1.Country p2)).bind fun x7=>cond (((!x5.2)||(decide (x2.1.Country=p2)))||(!x7)) (some false) ((eD x5.1 x2.1.Code).bind fun x9=>some x9.2))
theorem fj {p0:(List Zd)} {p1:(List Zg)} {p2:ByteArray} {p3:Za} {r:Bool}  (h:di p0 p1 p2 p3=some r):PF 44 [pL Zd.enc p0,pL Zg.enc p1,pS p2,.agg [pI p3.Product,pI p3.Agreement]] (pB r):=by
 unfold di at h
 refine aY ?_
 refine dw Tryz.func44 rfl Tryz.ntmps44 Tryz.results44 rfl (aa (aj rfl (bj (cs:=[pI p3.Product,pI p3.Agreement]) rfl rfl (fun b1=>aZ [8] (by kernel_rfl) (cr h fun x2 hx2 h=>aa (aU 7 [0] [13,14,15,16,12] [(17,.agg (aS x2.1)),(18,pB x2.2)] (bA 3 (ea hx2) bo) (by kernel_rfl) (aj rfl (aQ (cs:=[pI 0,pS ByteArray.empty,pS ByteArray.empty,pI 0,pB false,pN,pN]) rfl rfl rfl rfl (fun b3=>aX rfl rfl (aH (vs:=(aS x2.1)) rfl rfl rfl rfl rfl dy px (aP [(10,pB x2.2)] (by kernel_rfl) (cg (ah [19] [(20,pB (!x2.2))] (by kernel_rfl) (bK rfl h (fun hc4 h=>?_) fun hc4 h=>?_))))))))))))))
 ·refine ae ?_
  refine dn [(8,pB false)] (by kernel_rfl) (am ?_)
  exact zz r h rfl
 refine ai ?_
 refine cr h fun x5 hx5 h=>aa (aU 7 [1] [22,23,24,25,21] [(26,.agg (aL x5.1)),(27,pB x5.2)] (bA 3 (fx hx5) bo) (by kernel_rfl) (aj rfl (aQ (cs:=[pI 0,pI 0,pN,pN]) rfl rfl rfl rfl (fun b6=>aX rfl rfl (aH (vs:=(aL x5.1)) rfl rfl rfl rfl rfl dy vV (aP [(10,pB x5.2)] (by kernel_rfl) (cg (af h fun x7 hx7 h=>an [1,0,1] (rg 28 15) [(43,pB (((!x5.2)||(decide (x2.1.Country=p2)))||(!x7)))] (dR 13 (fun hc=>fh (dj hx7 hc)) bo) (by kernel_rfl) (bK rfl h (fun hc8 h=>?_) fun hc8 h=>?_)))))))))
 ·refine ae ?_
  refine dn [(8,pB false)] (by kernel_rfl) (am ?_)
  exact zz r h rfl
 refine ai ?_
 refine cr h fun x9 hx9 h=>an [0,1] [45,46,47,48,44,49,50] [(10,pB x9.2)] (bA 3 (gG hx9) bo) (by kernel_rfl) (br (ah [51] [(8,pB x9.2)] (by kernel_rfl) (df ?_)))
 exact zz r h rfl
def dX (p0:Zj) (p1:Zj):Option Bool:=(gd (decide (p0.Prefix=p1.Prefix)) (eu p0.Rule)).bind fun x3=>(gd ((decide (p0.Prefix=p1.Prefix))&&(x3 == 0)) (gD p0.Rule p1.Rule)).bind fun x4=>some (((decide (p0.Prefix=p1.Prefix))&&(x3 == 0))&&x4)
theorem iv {p0:Zj} {p1:Zj} {r:Bool}  (h:dX p0 p1=some r):PF 135 [.agg (ce p0),.agg (ce p1)] (pB r):=by
 unfold dX at h
 refine aY ?_
 refine dw Tryz.func135 rfl Tryz.ntmps135 Tryz.results135 rfl (aa (aj rfl (bj (cs:=(ce p0)) rfl rfl (fun b1=>aj rfl (bj (cs:=(ce p1)) rfl rfl (fun b2=>aZ [4] (by kernel_rfl) (cr h fun x3 hx3 h=>af h fun x4 hx4 h=>an [1,0,1,1,0] (rg 5 18) [(4,pB (((decide (p0.Prefix=p1.Prefix))&&(x3 == 0))&&x4))] (dR 8 (fun hc=>eQ (dj hx3 hc)) (dR 16 (fun hc=>jl (dj hx4 hc)) bo)) (by kernel_rfl) (df ?_))))))))
 exact zz r h rfl
def eA (p0:(List Zj)) (p1:(List Zj)):Option Bool:=(be p0 p1 (fun y1 y2=>dX y1 y2)).bind fun x3=>some x3
theorem iZ {p0:(List Zj)} {p1:(List Zj)} {r:Bool}  (h:eA p0 p1=some r):PF 95 [pL Zj.enc p0,pL Zj.enc p1] (pB r):=by
 unfold eA at h
 refine aY ?_
 refine dw Tryz.func95 rfl Tryz.ntmps95 Tryz.results95 rfl (aR [4] (by kernel_rfl) (cr h fun x3 hx3 h=>an [] [5,6,7] [(4,pB x3)] (bA 2 (bU (fun hr=>k9 (iv hr)) hx3) bo) (by kernel_rfl) (df ?_)))
 exact zz r h rfl
def e9 (p0:(List Zg)) (p1:Int) (p2:ByteArray) (p3:ByteArray):Option (List Int):=(ep p0 p1).bind fun x1=>cond (!x1.2) (some []) (cond (x1.1.Kind != 2) (some [p1]) ((bf (S:=(List Int)×Int) (T:=((List Int))) (fun (l8,v11)=>cond (decide (v11<(p0.length:Int))) (((idx p0 v11).bind fun m24=>(gd (m24.ID != p1) (dg m24 p2 p3)).bind fun x26=>(gd ((m24.ID != p1)&&x26) (eA x1.1.Rules m24.Rules)).bind fun x27=>cond (((m24.ID != p1)&&x26)&&x27) ((app 8 l8 [m24.ID]).bind fun l31=>some l31) (some l8)).bind fun l22=>some (.inl (l22,(IntKind.i64.wrap (v11+1))))) (some (.inr l8))) FUEL ([p1],0)).bind fun l15=>some l15))
theorem jW {p0:(List Zg)} {p1:Int} {p2:ByteArray} {p3:ByteArray} {r:(List Int)}  (h:e9 p0 p1 p2 p3=some r):PF 47 [pL Zg.enc p0,pI p1,pS p2,pS p3] (pL eI r):=by
 unfold e9 at h
 refine aY ?_
 refine dw Tryz.func47 rfl Tryz.ntmps47 Tryz.results47 rfl (aR [8] (by kernel_rfl) (cr h fun x1 hx1 h=>aa (aU 6 [] [15,16,17,14] [(18,.agg (aL x1.1)),(19,pB x1.2)] (bA 2 (fx hx1) bo) (by kernel_rfl) (aj rfl (aQ (cs:=[pI 0,pI 0,pN,pN]) rfl rfl rfl rfl (fun b2=>aX rfl rfl (aH (vs:=(aL x1.1)) rfl rfl rfl rfl rfl dy vV (aP [(10,pB x1.2)] (by kernel_rfl) (cg (ah [20] [(21,pB (!x1.2))] (by kernel_rfl) (bK rfl h (fun hc3 h=>?_) fun hc3 h=>?_)))))))))))
 ·refine ae ?_
  refine ak [(8,pN)] (by kernel_rfl) (aG (fM 8 rfl (bx (am ?_))))
  exact zz r h rfl
 refine ai ?_
 refine br (aa (aI 1 [(22,pI p1)] (by kernel_rfl) (aj rfl (bR rfl rfl rfl rfl rfl (ko rfl kO) rfl rfl rfl rfl (fun b4=>aP [(11,pO (some ⟨b4,0,none⟩) 1 1)] (by kernel_rfl) (cg (aW [1] [24,25] [(26,pB (x1.1.Kind != 2))] (by kernel_rfl) (bK rfl h (fun hc6 h=>?_) fun hc6 h=>?_))))))))
 ·refine ae ?_
  refine ah [27] [(8,pO (some ⟨b4,0,none⟩) 1 1)] (by kernel_rfl) (aG ?_)
  refine dO (enc:=eI) (xs:=[p1]) 8 rfl (by exact aV) ?_
  refine bx (am ?_)
  exact zz r h rfl
 refine ai ?_
 refine cg (ak [(28,pL Zg.enc p0),(29,pI (p0.length:Int)),(30,pI 0)] (by kernel_rfl) (fG h fun q17 hq17 h=>?_))
 refine av (Y:=(Option Addr×Nat)×((List Int))) (fun ((a13,c14),l15)=>[(11,pO a13 l15.length c14)]) (fun ((a13,c14),l15)=>[PRes.row a13 l15.length c14 3 1 (List.map eI l15)]) (fun ((a13,c14),l15)=>q17=l15) ?_ ?_
 ·refine aA ?_
  refine aC (Y:=Option Addr×Nat) (S:=(List Int)×Int) _ hq17 (fun (a9,c10) (l8,v11)=>[(1,pI p1),(2,pS p2),(3,pS p3),(9,pP b2 0),(11,pO a9 l8.length c10),(28,pL Zg.enc p0),(29,pI (p0.length:Int)),(30,pI v11)]) (fun (a9,c10) (l8,v11)=>[PRes.b b2 81 (aL x1.1),PRes.row a9 l8.length c10 3 1 (List.map eI l8)]) ((some ⟨b4,0,none⟩),1) (oN rfl) (bu (az aV) dl) ?_
  rintro ⟨a9,c10⟩ ⟨l8,v11⟩ o τ hb16;(try dsimp only at hb16);dsimp only [aw]
  refine ae (ak [(31,pB (decide (v11<(p0.length:Int))))] (by kernel_rfl) (br (gM rfl hb16 (fun hc18 hb16=>?_) fun hc18 hb16=>?_)))
  ·refine ai ?_
   refine cr hb16 fun q23 hq23 hb16=>?_
   refine av (Y:=(Option Addr×Nat)×((List Int))) (fun ((a20,c21),l22)=>[(1,pI p1),(2,pS p2),(3,pS p3),(9,pP b2 0),(11,pO a20 l22.length c21),(28,pL Zg.enc p0),(29,pI (p0.length:Int)),(30,pI v11)]) (fun ((a20,c21),l22)=>[PRes.b b2 81 (aL x1.1),PRes.row a20 l22.length c21 3 1 (List.map eI l22)]) (fun ((a20,c21),l22)=>q23=l22) ?_ ?_
   ·skip
    refine ff (af hq23 fun m24 hm24 hq23=>aa (aU 2 [] [32] [(33,.agg (aL m24))] (cn 0 Zg.enc hm24 bo) (by kernel_rfl) (aj rfl (aQ (cs:=[pI 0,pI 0,pN,pN]) rfl rfl rfl rfl (fun b25=>aX rfl rfl (aH (vs:=(aL m24)) rfl rfl rfl rfl rfl dy vV (au (cr hq23 fun x26 hx26 hq23=>af hq23 fun x27 hx27 hq23=>an [0,0,1,0] (rg 34 16) [(50,pB (((m24.ID != p1)&&x26)&&x27))] (dR 8 (fun hc=>fh (dj hx26 hc)) (dR 15 (fun hc=>iZ (dj hx27 hc)) bo)) (by kernel_rfl) (bK rfl hq23 (fun hc28 hq23=>?_) fun hc28 hq23=>?_)))))))))
    ·refine aa ?_
     refine bI 3 [0] [52] [(51,pO a9 l8.length c10),(53,pI m24.ID)] (by kernel_rfl) (aj rfl (bR rfl rfl rfl rfl rfl (ko rfl kO) rfl rfl rfl rfl (fun b29=>af hq23 fun l31 hl31 hq23=>?_)))
     refine aj rfl (cQ (enc:=eI) rfl rfl rfl rfl rfl rfl rfl rfl rfl fT (by exact az (az (az aV))) hl31 (fun a32 c33=>?_))
     refine aP [(11,pO a32 l31.length c33)] (by kernel_rfl) (aB ?_)
     obtain rfl:=osi hq23
     exact aD ((a32,c33),l31) (oN rfl) (bu (az (az (az aV))) dl) rfl
    refine ai ?_
    refine aB ?_
    obtain rfl:=osi hq23
    exact aD ((a9,c10),l8) (oN rfl) (bu (az aV) (bu (az aV) bz)) rfl
   rintro ⟨⟨a20,c21⟩,l22⟩ τ hz;(try dsimp only at hz);subst q23;(try dsimp only at hb16);dsimp only [aw]
   refine ah [56] [(30,pI (IntKind.i64.wrap (v11+1)))] (by kernel_rfl) ?_
   exact aT hb16 (a20,c21) (oN rfl) pu
  refine aM ?_
  refine aq (al hb16 (fun ht=>ap rfl ?_))
  exact aD ((a9,c10),l8) (uu rfl) (bu (az aV) bz) ht.symm
 rintro ⟨⟨a13,c14⟩,l15⟩ τ hz;(try dsimp only at hz);subst q17;(try dsimp only at h);dsimp only [aw]
 refine ae (ah [57] [(8,pO a13 l15.length c14)] (by kernel_rfl) (aG ?_))
 refine dO (enc:=eI) (xs:=l15) 8 rfl (by exact aV) ?_
 refine bx ?_
 exact zz r h rfl
def kA (p0:(List ByteArray)) (p1:(List ByteArray)):Option (List ByteArray):=(cT [p0,p1]).bind fun x3=>(eR x3).bind fun x7=>(cN x7).bind fun x8=>some x8
theorem oC {p0:(List ByteArray)} {p1:(List ByteArray)} {r:(List ByteArray)}  (h:kA p0 p1=some r):PF 97 [pL eS p0,pL eS p1] (pL eS r):=by
 unfold kA at h
 refine aY ?_
 refine dw Tryz.func97 rfl Tryz.ntmps97 Tryz.results97 rfl (aR [4] (by kernel_rfl) (br (aa (aI 2 [(6,pL eS p0),(7,pL eS p1)] (by kernel_rfl) (aj rfl (bR rfl rfl rfl rfl rfl (ko rfl (ko rfl kO)) rfl rfl rfl rfl (fun b1=>?_)))))))
 refine eo (enc:=(eL eS)) (xs:=[p0,p1]) 8 rfl (by exact aV) ?_
 refine af h fun x3 hx3 h=>?_
 refine aj rfl (co rfl rfl (ρ1:=[]) (List.Perm.refl _) (gj hx3) ?_);rintro _ _ ⟨a4,c5,rfl,rfl⟩
 refine aP [(5,pO a4 x3.length c5)] (by kernel_rfl) (cr h fun x7 hx7 h=>aa (aI 1 [(10,pO a4 x3.length c5)] (by kernel_rfl) ?_))
 refine aj rfl (co rfl rfl (ρ1:=[_]) (bG (by exact aV) (List.Perm.refl _)) (gU hx7) ?_);rintro _ _ ⟨rfl,rfl⟩
 refine au (cr h fun x8 hx8 h=>aa (aI 1 [(12,pO a4 x3.length c5)] (by kernel_rfl) ?_))
 refine aj rfl (co rfl rfl (ρ1:=[_]) (bG (by exact aV) (List.Perm.refl _)) (f8 hx8) ?_);rintro _ _ ⟨a9,c10,rfl,rfl⟩
 refine aP [(4,pO a9 x8.length c10)] (by kernel_rfl) (aG ?_)
 refine dO (enc:=eS) (xs:=x8) 4 rfl (by exact aV) ?_
 refine bx ?_
 exact zz r h rfl
def f4 (p0:(List Zd)) (p1:Zg) (p2:Zd) (p3:Zq):Option ((List Zc)×(List ByteArray)):=(bQ p2.Processes).bind fun x4=>(bf (S:=(List Zc)×(List ByteArray)×Int) (T:=((List Zc)×(List ByteArray))) (fun (l9,l12,v13)=>cond (decide (v13<(p2.Inputs.length:Int))) (((idx p2.Inputs v13).bind fun m29=>(dx p0 m29.Product).bind fun x31=>(gd (p1.Kind == 3) (bv p1.Parties x31.1.Country)).bind fun x33=>Option.bind (cond ((p1.Kind == 3)&&x33) ((kA l12 x31.1.Processes).bind fun x38=>some x38) (some l12)) (fun l35=>(cz p3 x31.1 m29.Value).bind fun x39=>cond (((Zc.is_proved_ x39)||(!((p1.Kind == 3)&&x33)))||((x31.1.Inputs.length:Int) == 0)) ((app 16 l9 [x39]).bind fun l44=>some (l44,l35)) ((bf (S:=(List Zc)×Int) (T:=((List Zc))) (fun (l49,v52)=>cond (decide (v52<(x31.1.Inputs.length:Int))) ((idx x31.1.Inputs v52).bind fun m60=>(dx p0 m60.Product).bind fun x62=>(fy m29.Value m60.Value x31.1.Price).bind fun x64=>(cz p3 x62.1 x64).bind fun x65=>(app 16 l49 [x65]).bind fun l68=>some (.inl (l68,(IntKind.i64.wrap (v52+1))))) (some (.inr l49))) FUEL (l9,0)).bind fun l56=>some (l56,l35)))).bind fun (l26,l27)=>some (.inl (l26,l27,(IntKind.i64.wrap (v13+1))))) (some (.inr (l9,l12)))) FUEL (([]:List Zc),x4,0)).bind fun (l17,l18)=>(sub l18 0 (nL (l18.length:Int) 8)).bind fun l73=>some (l17,l73)
theorem kB {p0:(List Zd)} {p1:Zg} {p2:Zd} {p3:Zq} {m3_set_:Nat} {r:((List Zc)×(List ByteArray))}  (h:f4 p0 p1 p2 p3=some r):PCall 48 [pL Zd.enc p0,.agg (aL p1),.agg (aS p2),.agg [pL eI p3.partners,.v (.map (some m3_set_))]] [PRes.mp (some m3_set_) (ex Za.key vT p3.set_)] (fun pv ρ'=>pv=.tup [pL Zc.enc r.1,pL eS r.2]∧ρ'=[PRes.mp (some m3_set_) (ex Za.key vT p3.set_)]):=by
 unfold f4 at h
 refine dw Tryz.func48 rfl Tryz.ntmps48 Tryz.results48 rfl (aa (aj rfl (bj (cs:=(aL p1)) rfl rfl (fun b1=>aj rfl (bj (cs:=(aS p2)) rfl rfl (fun b2=>aj rfl (bj (cs:=[pL eI p3.partners,.v (.map (some m3_set_))]) rfl rfl (fun b3=>aZ [8,9] (by kernel_rfl) (br (ak [(10,pN)] (by kernel_rfl) (cr h fun x4 hx4 h=>aa (bI 2 [1] [24] [(25,pL eS p2.Processes)] (by kernel_rfl) ?_))))))))))))
 refine aj rfl (co rfl rfl (ρ1:=[]) (List.Perm.refl _) (cE hx4) ?_);rintro _ _ ⟨a5,c6,rfl,rfl⟩
 refine aP [(11,pO a5 x4.length c6)] (by kernel_rfl) (cg (aW [2] [27] [(28,pL Zh.enc p2.Inputs),(29,pI (p2.Inputs.length:Int)),(30,pI 0)] (by kernel_rfl) (aG (bO 101 1 ?_))))
 refine dO (enc:=eS) (xs:=x4) 11 rfl (by exact az aV) ?_
 refine af h fun q20 hq20 h=>?_
 refine av (Y:=(Option Addr×Nat)×((List Zc)×(List ByteArray))) (fun ((a15,c16),(l17,l18))=>[(10,pO a15 l17.length c16),(11,pL eS l18)]) (fun ((a15,c16),(l17,l18))=>[PRes.mp (some m3_set_) (ex Za.key vT p3.set_),PRes.row a15 l17.length c16 101 1 (List.map Zc.enc l17)]) (fun ((a15,c16),(l17,l18))=>q20=(l17,l18)) ?_ ?_
 ·refine aA ?_
  refine aC (Y:=Option Addr×Nat) (S:=(List Zc)×(List ByteArray)×Int) _ hq20 (fun (a10,c11) (l9,l12,v13)=>[(0,pL Zd.enc p0),(5,pP b1 0),(7,pP b3 0),(10,pO a10 l9.length c11),(11,pL eS l12),(28,pL Zh.enc p2.Inputs),(29,pI (p2.Inputs.length:Int)),(30,pI v13)]) (fun (a10,c11) (l9,l12,v13)=>[PRes.b b1 81 (aL p1),PRes.b b3 96 [pL eI p3.partners,.v (.map (some m3_set_))],PRes.mp (some m3_set_) (ex Za.key vT p3.set_),PRes.row a10 l9.length c11 101 1 (List.map Zc.enc l9)]) (none,0) (oN rfl) (bu (az (az (az (az aV)))) (bu (az (az aV)) (bu (az (az (az aV))) (bu (az aV) bz)))) ?_
  rintro ⟨a10,c11⟩ ⟨l9,l12,v13⟩ o τ hb19;(try dsimp only at hb19);dsimp only [aw]
  refine ae (ak [(31,pB (decide (v13<(p2.Inputs.length:Int))))] (by kernel_rfl) (br (gM rfl hb19 (fun hc22 hb19=>?_) fun hc22 hb19=>?_)))
  ·refine ai ?_
   refine cr hb19 fun q28 hq28 hb19=>?_
   refine av (Y:=(Option Addr×Nat)×((List Zc)×(List ByteArray))) (fun ((a24,c25),(l26,l27))=>[(0,pL Zd.enc p0),(5,pP b1 0),(7,pP b3 0),(10,pO a24 l26.length c25),(11,pL eS l27),(28,pL Zh.enc p2.Inputs),(29,pI (p2.Inputs.length:Int)),(30,pI v13)]) (fun ((a24,c25),(l26,l27))=>[PRes.b b1 81 (aL p1),PRes.b b3 96 [pL eI p3.partners,.v (.map (some m3_set_))],PRes.mp (some m3_set_) (ex Za.key vT p3.set_),PRes.row a24 l26.length c25 101 1 (List.map Zc.enc l26)]) (fun ((a24,c25),(l26,l27))=>q28=(l26,l27)) ?_ ?_
   ·skip
    refine ff (af hq28 fun m29 hm29 hq28=>aa (aU 2 [] [32] [(33,.agg [pI m29.Product,pI m29.Value])] (cn 0 Zh.enc hm29 bo) (by kernel_rfl) (aj rfl (aQ (cs:=[pI 0,pI 0]) rfl rfl rfl rfl (fun b30=>aX rfl rfl (aH (vs:=[pI m29.Product,pI m29.Value]) rfl rfl rfl rfl rfl dy uw (au (cr hq28 fun x31 hx31 hq28=>aa (aU 7 [0] [35,36,37,38,34] [(39,.agg (aS x31.1)),(40,pB x31.2)] (bA 3 (ea hx31) bo) (by kernel_rfl) (aj rfl (aQ (cs:=[pI 0,pS ByteArray.empty,pS ByteArray.empty,pI 0,pB false,pN,pN]) rfl rfl rfl rfl (fun b32=>aX rfl rfl (aH (vs:=(aS x31.1)) rfl rfl rfl rfl rfl dy px (aZ [15] (by kernel_rfl) (cr hq28 fun x33 hx33 hq28=>an [2,2,0] (rg 41 10) [(16,pB ((p1.Kind == 3)&&x33))] (dR 8 (fun hc=>bJ (dj hx33 hc)) bo) (by kernel_rfl) (cg (ak [(51,pB ((p1.Kind == 3)&&x33))] (by kernel_rfl) (fG hq28 fun q36 hq36 hq28=>?_))))))))))))))))))
    refine av (Y:=Unit×((List ByteArray))) (fun (_,l35)=>[(0,pL Zd.enc p0),(5,pP b1 0),(7,pP b3 0),(10,pO a10 l9.length c11),(11,pL eS l35),(13,pP b30 0),(14,pP b32 0),(16,pB ((p1.Kind == 3)&&x33)),(28,pL Zh.enc p2.Inputs),(29,pI (p2.Inputs.length:Int)),(30,pI v13)]) (fun (_,l35)=>[PRes.b b1 81 (aL p1),PRes.b b3 96 [pL eI p3.partners,.v (.map (some m3_set_))],PRes.b b30 78 [pI m29.Product,pI m29.Value],PRes.b b32 76 (aS x31.1),PRes.mp (some m3_set_) (ex Za.key vT p3.set_),PRes.row a10 l9.length c11 101 1 (List.map Zc.enc l9)]) (fun (_,l35)=>q36=l35) ?_ ?_
    ·skip
     refine gM rfl hq36 (fun hc37 hq36=>?_) fun hc37 hq36=>?_
     ·refine af hq36 ?_;clear hq36;intro x38 hx38 hq36
      refine an [0] [52,53,54,55] [(11,pL eS x38)] (bA 3 (oC hx38) bo) (by kernel_rfl) ?_
      obtain rfl:=osi hq36
      exact aD ((),x38) (eU rfl (eU rfl (uX rfl))) (bu (az (az aV)) (bu (az (az aV)) (bu (az aV) zs3))) rfl
     refine ai ?_
     obtain rfl:=osi hq36
     exact aD ((),l12) (eU rfl (eU rfl (uX rfl))) (bu (az (az aV)) (bu (az (az aV)) (bu (az aV) zs3))) rfl
    rintro ⟨_,l35⟩ τ hz;(try dsimp only at hz);subst q36;(try dsimp only at hq28);dsimp only [aw]
    refine ae (af hq28 fun x39 hx39 hq28=>aa (bI 4 [1,3,2] [58] [(56,.agg [pL eI p3.partners,.v (.map (some m3_set_))]),(57,.agg (aS x31.1)),(59,pI m29.Value)] (by kernel_rfl) ?_))
    refine aj rfl (co rfl rfl (ρ1:=[_]) (bG (by exact az (az (az (az aV)))) (List.Perm.refl _)) (eC hx39) ?_);rintro _ _ ⟨rfl,rfl⟩
    refine aP [(17,Zc.pv x39)] (by kernel_rfl) (cg (aa (aU 5 [] [62,63,61] [(64,.agg [pS ((((Zc.as_proved_ x39)).use).Code),pI ((((Zc.as_proved_ x39)).use).Value),pB ((((Zc.as_proved_ x39)).use).Originating),pI ((((Zc.as_proved_ x39)).premise).Product),pI ((((Zc.as_proved_ x39)).premise).Agreement)]),(65,pB (Zc.is_proved_ x39))] (fota 1 (Zc.ta_proved_ x39) bo) (by kernel_rfl) (aj rfl (aQ (cs:=[pS ByteArray.empty,pI 0,pB false,pI 0,pI 0]) rfl rfl rfl rfl (fun b40=>aX rfl rfl (aH (vs:=[pS ((((Zc.as_proved_ x39)).use).Code),pI ((((Zc.as_proved_ x39)).use).Value),pB ((((Zc.as_proved_ x39)).use).Originating),pI ((((Zc.as_proved_ x39)).premise).Product),pI ((((Zc.as_proved_ x39)).premise).Agreement)]) rfl rfl rfl rfl rfl dy zl5 (aP [(19,pB (Zc.is_proved_ x39))] (by kernel_rfl) (br (aW [5] (rg 66 10) [(76,pB (((Zc.is_proved_ x39)||(!((p1.Kind == 3)&&x33)))||((x31.1.Inputs.length:Int) == 0)))] (by kernel_rfl) (bK rfl hq28 (fun hc41 hq28=>?_) fun hc41 hq28=>?_)))))))))))
    ·refine ae ?_
     refine aa (aI 2 [(77,pO a10 l9.length c11),(78,Zc.pv x39)] (by kernel_rfl) (aj rfl (bR rfl rfl rfl rfl rfl (ko rfl kO) rfl rfl rfl rfl (fun b42=>af hq28 fun l44 hl44 hq28=>?_))))
     refine aj rfl (cQ (enc:=Zc.enc) rfl rfl rfl rfl rfl rfl rfl rfl rfl fT (by exact az (az (az (az (az (az (az aV))))))) hl44 (fun a45 c46=>?_))
     refine aP [(10,pO a45 l44.length c46)] (by kernel_rfl) (aG (aM (aq (ap rfl ?_))))
     obtain rfl:=osi hq28
     exact aD ((a45,c46),(l44,l35)) (oN rfl) (bu (az (az (az (az aV)))) (bu (az (az (az (az aV)))) (bu (az (az (az aV))) dl))) rfl
    refine ai ?_
    refine br (aW [5] [81] [(82,pL Zh.enc x31.1.Inputs),(83,pI (x31.1.Inputs.length:Int)),(84,pI 0)] (by kernel_rfl) (fG hq28 fun q58 hq58 hq28=>?_))
    refine nG (Y:=(Option Addr×Nat)×((List Zc))) (fun ((a54,c55),l56)=>[(0,pL Zd.enc p0),(5,pP b1 0),(7,pP b3 0),(10,pO a54 l56.length c55),(11,pL eS l35),(28,pL Zh.enc p2.Inputs),(29,pI (p2.Inputs.length:Int)),(30,pI v13)]) (fun ((a54,c55),l56)=>[PRes.b b1 81 (aL p1),PRes.b b3 96 [pL eI p3.partners,.v (.map (some m3_set_))],PRes.mp (some m3_set_) (ex Za.key vT p3.set_),PRes.row a54 l56.length c55 101 1 (List.map Zc.enc l56)]) (fun ((a54,c55),l56)=>q58=l56) ?_ ?_
    ·refine aA ?_
     refine aC (Y:=Option Addr×Nat) (S:=(List Zc)×Int) _ hq58 (fun (a50,c51) (l49,v52)=>[(0,pL Zd.enc p0),(5,pP b1 0),(7,pP b3 0),(10,pO a50 l49.length c51),(11,pL eS l35),(13,pP b30 0),(14,pP b32 0),(28,pL Zh.enc p2.Inputs),(29,pI (p2.Inputs.length:Int)),(30,pI v13),(82,pL Zh.enc x31.1.Inputs),(83,pI (x31.1.Inputs.length:Int)),(84,pI v52)]) (fun (a50,c51) (l49,v52)=>[PRes.b b1 81 (aL p1),PRes.b b3 96 [pL eI p3.partners,.v (.map (some m3_set_))],PRes.b b30 78 [pI m29.Product,pI m29.Value],PRes.b b32 76 (aS x31.1),PRes.mp (some m3_set_) (ex Za.key vT p3.set_),PRes.row a50 l49.length c51 101 1 (List.map Zc.enc l49)]) (a10,c11) (eU rfl (eU rfl (eU rfl (eU rfl (uX rfl))))) (bu (az (az aV)) (bu (az (az aV)) (bu (az (az aV)) (bu (az (az aV)) (bu (az aV) (bu (az aV) bz)))))) ?_
     rintro ⟨a50,c51⟩ ⟨l49,v52⟩ o τ hb57;(try dsimp only at hb57);dsimp only [aw]
     refine ae (ak [(85,pB (decide (v52<(x31.1.Inputs.length:Int))))] (by kernel_rfl) (br (gM rfl hb57 (fun hc59 hb57=>?_) fun hc59 hb57=>?_)))
     ·refine ai ?_
      refine br (ff (af hb57 fun m60 hm60 hb57=>aa (aU 2 [] [86] [(87,.agg [pI m60.Product,pI m60.Value])] (cn 0 Zh.enc hm60 bo) (by kernel_rfl) (aj rfl (aQ (cs:=[pI 0,pI 0]) rfl rfl rfl rfl (fun b61=>aX rfl rfl (aH (vs:=[pI m60.Product,pI m60.Value]) rfl rfl rfl rfl rfl dy uw (au (cr hb57 fun x62 hx62 hb57=>aa (aU 7 [0] [89,90,91,92,88] [(93,.agg (aS x62.1)),(94,pB x62.2)] (bA 3 (ea hx62) bo) (by kernel_rfl) (aj rfl (aQ (cs:=[pI 0,pS ByteArray.empty,pS ByteArray.empty,pI 0,pB false,pN,pN]) rfl rfl rfl rfl (fun b63=>aX rfl rfl (aH (vs:=(aS x62.1)) rfl rfl rfl rfl rfl dy px (aZ [23] (by kernel_rfl) (aG (bN (ρd:=[PRes.mp (some m3_set_) _,PRes.row a50 _ _ _ _ _]) [(0,0),(1,0),(2,0),(3,0),(4,0),(5,0),(6,0),(7,0),(8,0),(9,1),(10,1),(11,1),(12,1),(13,0)] _ (bG (az (az (az (az (az (az aV)))))) (bG (az (az (az (az (az (az aV)))))) (List.Perm.refl _))) (by kernel_rfl) rfl (af hb57 fun x64 hx64 hb57=>af hb57 fun x65 hx65 hb57=>bY 10 [3,0,4,1,5] (rg 98 6) [(95,pO a50 l49.length c51),(96,.agg [pL eI p3.partners,.v (.map (some m3_set_))]),(97,.agg (aS x62.1)),(104,pI x64)] (bA 9 (kf hx64) bo) (by kernel_rfl) ?_))))))))))))))))))
      refine nN rfl rfl rfl (co rfl rfl (ρ1:=[_]) (bG (by exact aV) (List.Perm.refl _)) (eC hx65) ?_);rintro _ _ ⟨rfl,rfl⟩
      refine nN rfl rfl rfl (bR rfl rfl rfl rfl rfl (ko rfl kO) rfl rfl rfl rfl (fun b66=>af hb57 fun l68 hl68 hb57=>?_))
      refine nN rfl rfl rfl (cQ (enc:=Zc.enc) rfl rfl rfl rfl rfl rfl rfl rfl rfl fT (by exact az (az aV)) hl68 (fun a69 c70=>?_))
      refine fe 1 [(10,pO a69 l68.length c70)] (by kernel_rfl) (cd (dY (ah [108] [(84,pI (IntKind.i64.wrap (v52+1)))] (by kernel_rfl) ?_)))
      exact aT hb57 (a69,c70) (eU rfl (eU rfl (eU rfl (eU rfl (uX rfl))))) (bu (az (az (az (az (az aV))))) (bu (az (az (az (az (az aV))))) (bu (az (az (az (az (az aV))))) (bu (az (az (az (az (az aV))))) (bu (az (az aV)) dl)))))
     refine aM ?_
     refine aq (al hb57 (fun ht=>ap rfl ?_))
     exact sA ((a50,c51),l49) (oN rfl) (bu aV (bu aV (bu (az (az aV)) (bu (az (az aV)) bz)))) ht.symm
    rintro ⟨⟨a54,c55⟩,l56⟩ τ ρ1 hsub72 hz;(try dsimp only at hz hsub72);subst q58;(try dsimp only at hq28);dsimp only [aw]
    refine aB ?_
    obtain rfl:=osi hq28
    exact aD ((a54,c55),(l56,l35)) (oN rfl) (PSub.trans zs4 hsub72) rfl
   rintro ⟨⟨a24,c25⟩,⟨l26,l27⟩⟩ τ hz;(try dsimp only at hz);subst q28;(try dsimp only at hb19);dsimp only [aw]
   refine ah [109] [(30,pI (IntKind.i64.wrap (v13+1)))] (by kernel_rfl) ?_
   exact aT hb19 (a24,c25) (oN rfl) zs4
  refine aM ?_
  refine aq (al hb19 (fun ht=>ap rfl ?_))
  exact aD ((a10,c11),(l9,l12)) (nT rfl) (bu (az (az aV)) (bu (az (az aV)) bz)) ht.symm
 rintro ⟨⟨a15,c16⟩,⟨l17,l18⟩⟩ τ hz;(try dsimp only at hz);subst q20;(try dsimp only at h);dsimp only [aw]
 refine ae (bN (ρd:=[]) [(0,0),(1,0),(2,0),(3,0),(4,0),(5,0),(6,0),(7,0)] _ (List.Perm.refl _) (by kernel_rfl) rfl (af h fun l73 hl73 h=>bY 8 [] (rg 110 6) [(8,pO a15 l17.length c16),(9,pL eS l73)] (fosl 5 eS 1 (fun _=>rfl) hl73 bo) (by kernel_rfl) (cd (aG ?_))))
 refine dO (enc:=Zc.enc) (xs:=l17) 8 rfl (by exact az aV) ?_
 refine bx ?_
 obtain rfl:=osi h
 exact aO (cC (aN rfl) (aN rfl)) (bu (az aV) bz) ⟨rfl,rfl⟩
def f5 (p0:ByteArray):Option Bool:=(dc p0).bind fun x1=>some (decide (6≤x1))
theorem iK {p0:ByteArray} {r:Bool}  (h:f5 p0=some r):PF 62 [pS p0] (pB r):=by
 unfold f5 at h
 refine aY ?_
 refine dw Tryz.func62 rfl Tryz.ntmps62 Tryz.results62 rfl (aR [2] (by kernel_rfl) (cr h fun x1 hx1 h=>an [] [3,4,5] [(2,pB (decide (6≤x1)))] (bA 1 (dh hx1) bo) (by kernel_rfl) (df ?_)))
 exact zz r h rfl
def f7 (p0:Zl):Option Int:=(f5 p0.Code).bind fun x2=>cond (!x2) (some (1:Int)) (cond ((decide (p0.Price<1))||(decide (1000000000000<p0.Price))) (some (2:Int)) ((dW p0.Processes).bind fun x5=>cond (!x5) (some (1:Int)) (cond (decide (100<(p0.Inputs.length:Int))) (some (8:Int)) ((bf (S:=Int) (T:=(Unit)⊕(_)) (fun v8=>cond (decide (v8<(p0.Inputs.length:Int))) ((idx p0.Inputs v8).bind fun m12=>(f5 m12.Code).bind fun x14=>cond (!x14) (some (.inr (.inr (1:Int)))) (cond ((decide (m12.Value<0))||(decide (1000000000000<m12.Value))) (some (.inr (.inr (2:Int)))) (some (.inl (IntKind.i64.wrap (v8+1)))))) (some (.inr (.inl ())))) FUEL 0).bind fun q=>match q with | .inl _=>some (0:Int) | .inr e=>some e))))
theorem kC {p0:Zl} {r:Int}  (h:f7 p0=some r):PF 21 [.agg (bM p0)] (pI r):=by
 unfold f7 at h
 refine aY ?_
 refine dw Tryz.func21 rfl Tryz.ntmps21 Tryz.results21 rfl (aa (aj rfl (bj (cs:=(bM p0)) rfl rfl (fun b1=>aZ [2] (by kernel_rfl) (br (ff (af h fun x2 hx2 h=>an [0] [6,7,8,9] [(5,pB (!x2))] (bA 2 (iK hx2) bo) (by kernel_rfl) (bK rfl h (fun hc3 h=>?_) fun hc3 h=>?_))))))))
 ·refine ae ?_
  refine dn [(2,pI 1)] (by kernel_rfl) (eV ?_)
  exact zz r h rfl
 refine ae ?_
 refine aW [0,0] (rg 11 8) [(10,pB ((decide (p0.Price<1))||(decide (1000000000000<p0.Price))))] (by kernel_rfl) (bK rfl h (fun hc4 h=>?_) fun hc4 h=>?_)
 ·refine ae ?_
  refine dn [(2,pI 2)] (by kernel_rfl) (eV ?_)
  exact zz r h rfl
 refine ae ?_
 refine af h fun x5 hx5 h=>an [0] [20,21,22,23] [(19,pB (!x5))] (bA 2 (e8 hx5) bo) (by kernel_rfl) (bK rfl h (fun hc6 h=>?_) fun hc6 h=>?_)
 ·refine ae ?_
  refine dn [(2,pI 1)] (by kernel_rfl) (eV ?_)
  exact zz r h rfl
 refine ae ?_
 refine aW [0] [25,26,27,28] [(24,pB (decide (100<(p0.Inputs.length:Int))))] (by kernel_rfl) (bK rfl h (fun hc7 h=>?_) fun hc7 h=>?_)
 ·refine ae ?_
  refine dn [(2,pI 8)] (by kernel_rfl) (eV ?_)
  exact zz r h rfl
 refine ai ?_
 refine aB (cg (aW [0] [29] [(30,pL Zk.enc p0.Inputs),(31,pI (p0.Inputs.length:Int)),(32,pI 0)] (by kernel_rfl) (fG h fun q10 hq10 h=>?_)))
 refine av (Y:=Unit×Unit) (fun (_,_)=>[]) (fun (_,_)=>[]) (fun (_,_)=>q10=Sum.inl ()) ?_ ?_
 ·refine aA ?_
  refine aC (Y:=Unit) (S:=Int) _ hq10 (fun _ v8=>[(30,pL Zk.enc p0.Inputs),(31,pI (p0.Inputs.length:Int)),(32,pI v8)]) (fun _ v8=>[]) () (oS rfl) bz ?_
  rintro _ v8 o τ hb9;(try dsimp only at hb9);dsimp only [aw]
  refine ae (ak [(33,pB (decide (v8<(p0.Inputs.length:Int))))] (by kernel_rfl) (br (gM rfl hb9 (fun hc11 hb9=>?_) fun hc11 hb9=>?_)))
  ·refine ai ?_
   refine br (ff (af hb9 fun m12 hm12 hb9=>aa (aU 2 [] [34] [(35,.agg [pS m12.Code,pI m12.Value,pB m12.Originating])] (cn 0 Zk.enc hm12 bo) (by kernel_rfl) (aj rfl (aQ (cs:=[pS ByteArray.empty,pI 0,pB false]) rfl rfl rfl rfl (fun b13=>aX rfl rfl (aH (vs:=[pS m12.Code,pI m12.Value,pB m12.Originating]) rfl rfl rfl rfl rfl dy zl3 (au (cg (af hb9 fun x14 hx14 hb9=>an [0] [36,37,38] [(39,pB (!x14))] (bA 2 (iK hx14) bo) (by kernel_rfl) (bK rfl hb9 (fun hc15 hb9=>?_) fun hc15 hb9=>?_)))))))))))
   ·refine ae ?_
    refine dn [(2,pI 1)] (by kernel_rfl) (am (eV ?_))
    refine aF hb9 (fun ht=>?_);subst ht
    refine ar (aJ ?_)
    exact zz r h rfl
   refine ai ?_
   refine br (aW [0,0] (rg 40 7) [(47,pB ((decide (m12.Value<0))||(decide (1000000000000<m12.Value))))] (by kernel_rfl) (bK rfl hb9 (fun hc16 hb9=>?_) fun hc16 hb9=>?_))
   ·refine ae ?_
    refine dn [(2,pI 2)] (by kernel_rfl) (eV ?_)
    refine aF hb9 (fun ht=>?_);subst ht
    refine ar (aJ ?_)
    exact zz r h rfl
   refine ai ?_
   refine dY (ah [48] [(32,pI (IntKind.i64.wrap (v8+1)))] (by kernel_rfl) ?_)
   exact aT hb9 () (oS rfl) bz
  refine aM ?_
  refine aq (al hb9 (fun ht=>ap rfl ?_))
  exact aD ((),()) kl bz ht.symm
 rintro ⟨_,_⟩ τ hz;(try dsimp only at hz);subst q10;(try dsimp only at h);dsimp only [aw]
 refine ae (dn [(2,pI 0)] (by kernel_rfl) ?_)
 exact zz r h rfl
def dJ (p0:(List Zj)):Option Int:=(bf (S:=Int) (T:=(Unit)⊕(_)) (fun v1=>cond (decide (v1<(p0.length:Int))) ((idx p0 v1).bind fun m5=>(dc m5.Prefix).bind fun x7=>cond (x7 == 0) (some (.inr (.inr (1:Int)))) ((gd (decide (0<v1)) (idx p0 (IntKind.i64.wrap (v1 - 1)))).bind fun m9=>cond ((decide (0<v1))&&(Op.bytesLess m5.Prefix.toList m9.Prefix.toList||decide (m5.Prefix=m9.Prefix))) (some (.inr (.inr (9:Int)))) ((eu m5.Rule).bind fun x11=>cond (x11 != 0) (some (.inr (.inr x11))) (some (.inl (IntKind.i64.wrap (v1+1))))))) (some (.inr (.inl ())))) FUEL 0).bind fun q=>match q with | .inl _=>some (0:Int) | .inr e=>some e
theorem hY {p0:(List Zj)} {r:Int}  (h:dJ p0=some r):PF 112 [pL Zj.enc p0] (pI r):=by
 unfold dJ at h
 refine aY ?_
 refine dw Tryz.func112 rfl Tryz.ntmps112 Tryz.results112 rfl (aR [2] (by kernel_rfl) (cg (ak [(6,pL Zj.enc p0),(7,pI (p0.length:Int)),(8,pI 0)] (by kernel_rfl) (fG h fun q3 hq3 h=>?_))))
 refine av (Y:=Unit×Unit) (fun (_,_)=>[]) (fun (_,_)=>[]) (fun (_,_)=>q3=Sum.inl ()) ?_ ?_
 ·refine aA ?_
  refine aC (Y:=Unit) (S:=Int) _ hq3 (fun _ v1=>[(0,pL Zj.enc p0),(6,pL Zj.enc p0),(7,pI (p0.length:Int)),(8,pI v1)]) (fun _ v1=>[]) () (gI rfl) bz ?_
  rintro _ v1 o τ hb2;(try dsimp only at hb2);dsimp only [aw]
  refine ae (ak [(9,pB (decide (v1<(p0.length:Int))))] (by kernel_rfl) (br (gM rfl hb2 (fun hc4 hb2=>?_) fun hc4 hb2=>?_)))
  ·refine ai ?_
   refine br (ff (af hb2 fun m5 hm5 hb2=>aa (aU 3 [] [11] [(10,pI v1),(12,.agg (ce m5))] (cn 1 Zj.enc hm5 bo) (by kernel_rfl) (aj rfl (aQ (cs:=[pS ByteArray.empty,pI 0,pI 0,pN,pI 0,pI 0,pS ByteArray.empty,pN]) rfl rfl rfl rfl (fun b6=>aI 1 [(3,pI v1)] (by kernel_rfl) (aX rfl rfl (aH (vs:=(ce m5)) rfl rfl rfl rfl rfl dy zl8 (au (cg (af hb2 fun x7 hx7 hb2=>an [0] [13,14,15] [(16,pB (x7 == 0))] (bA 2 (dh hx7) bo) (by kernel_rfl) (bK rfl hb2 (fun hc8 hb2=>?_) fun hc8 hb2=>?_))))))))))))
   ·refine ae ?_
    refine dn [(2,pI 1)] (by kernel_rfl) (am (eV ?_))
    refine aF hb2 (fun ht=>?_);subst ht
    refine ar (aJ ?_)
    exact zz r h rfl
   refine ai ?_
   refine cg (bN (ρd:=[]) [(0,0),(1,0),(2,0),(3,0),(4,0),(5,0),(6,0),(7,0),(8,0),(9,0),(10,0),(11,0),(12,0)] _ (List.Perm.refl _) (by kernel_rfl) rfl (af hb2 fun m9 hm9 hb2=>bY 13 [0] (rg 17 12) [(29,pB ((decide (0<v1))&&(Op.bytesLess m5.Prefix.toList m9.Prefix.toList||decide (m5.Prefix=m9.Prefix))))] (gX 8 Zj.enc (dj hm9) bo) (by kernel_rfl) (cd (bK rfl hb2 (fun hc10 hb2=>?_) fun hc10 hb2=>?_))))
   ·refine ae ?_
    refine dn [(2,pI 9)] (by kernel_rfl) (am (eV ?_))
    refine aF hb2 (fun ht=>?_);subst ht
    refine ar (aJ ?_)
    exact zz r h rfl
   refine ai ?_
   refine cr hb2 fun x11 hx11 hb2=>an [0] [30,31,32] [(5,pI x11)] (bA 2 (eQ hx11) bo) (by kernel_rfl) (br (ah [33] [(34,pB (x11 != 0))] (by kernel_rfl) (bK rfl hb2 (fun hc12 hb2=>?_) fun hc12 hb2=>?_)))
   ·refine ae ?_
    refine ah [35] [(2,pI x11)] (by kernel_rfl) (df (eV ?_))
    refine aF hb2 (fun ht=>?_);subst ht
    refine ar (aJ ?_)
    exact zz r h rfl
   refine ai ?_
   refine dY (ah [36] [(8,pI (IntKind.i64.wrap (v1+1)))] (by kernel_rfl) ?_)
   exact aT hb2 () (gI rfl) bz
  refine aM ?_
  refine aq (al hb2 (fun ht=>ap rfl ?_))
  exact aD ((),()) kl bz ht.symm
 rintro ⟨_,_⟩ τ hz;(try dsimp only at hz);subst q3;(try dsimp only at h);dsimp only [aw]
 refine ae (dn [(2,pI 0)] (by kernel_rfl) ?_)
 exact zz r h rfl
def fa (p0:(List Zg)):Option Int:=cond (decide (8<(p0.length:Int))) (some (8:Int)) ((bf (S:=Int) (T:=(Unit)⊕(_)) (fun v2=>cond (decide (v2<(p0.length:Int))) ((idx p0 v2).bind fun m6=>cond ((((decide (m6.ID<1))||(decide (1000<m6.ID)))||(decide (m6.Kind<1)))||(decide (3<m6.Kind))) (some (.inr (.inr (2:Int)))) ((gd (decide (0<v2)) (idx p0 (IntKind.i64.wrap (v2 - 1)))).bind fun m9=>cond ((decide (0<v2))&&(decide (m6.ID≤m9.ID))) (some (.inr (.inr (9:Int)))) (cond ((decide (12<(m6.Parties.length:Int)))||(decide (12<(m6.Rules.length:Int)))) (some (.inr (.inr (8:Int)))) ((dV m6.Parties).bind fun x12=>cond (!x12) (some (.inr (.inr (1:Int)))) ((dJ m6.Rules).bind fun x14=>cond (x14 != 0) (some (.inr (.inr x14))) (some (.inl (IntKind.i64.wrap (v2+1))))))))) (some (.inr (.inl ())))) FUEL 0).bind fun q=>match q with | .inl _=>some (0:Int) | .inr e=>some e)
theorem jX {p0:(List Zg)} {r:Int}  (h:fa p0=some r):PF 64 [pL Zg.enc p0] (pI r):=by
 unfold fa at h
 refine aY ?_
 refine dw Tryz.func64 rfl Tryz.ntmps64 Tryz.results64 rfl (aR [2] (by kernel_rfl) (cg (ah [6,7] [(8,pB (decide (8<(p0.length:Int))))] (by kernel_rfl) (bK rfl h (fun hc1 h=>?_) fun hc1 h=>?_))))
 ·refine ae ?_
  refine dn [(2,pI 8)] (by kernel_rfl) (am ?_)
  exact zz r h rfl
 refine ai ?_
 refine cg (ak [(9,pL Zg.enc p0),(10,pI (p0.length:Int)),(11,pI 0)] (by kernel_rfl) (fG h fun q4 hq4 h=>?_))
 refine av (Y:=Unit×Unit) (fun (_,_)=>[]) (fun (_,_)=>[]) (fun (_,_)=>q4=Sum.inl ()) ?_ ?_
 ·refine aA ?_
  refine aC (Y:=Unit) (S:=Int) _ hq4 (fun _ v2=>[(0,pL Zg.enc p0),(9,pL Zg.enc p0),(10,pI (p0.length:Int)),(11,pI v2)]) (fun _ v2=>[]) () (gI rfl) bz ?_
  rintro _ v2 o τ hb3;(try dsimp only at hb3);dsimp only [aw]
  refine ae (ak [(12,pB (decide (v2<(p0.length:Int))))] (by kernel_rfl) (br (gM rfl hb3 (fun hc5 hb3=>?_) fun hc5 hb3=>?_)))
  ·refine ai ?_
   refine br (ff (af hb3 fun m6 hm6 hb3=>aa (aU 3 [] [14] [(13,pI v2),(15,.agg (aL m6))] (cn 1 Zg.enc hm6 bo) (by kernel_rfl) (aj rfl (aQ (cs:=[pI 0,pI 0,pN,pN]) rfl rfl rfl rfl (fun b7=>aI 1 [(3,pI v2)] (by kernel_rfl) (aX rfl rfl (aH (vs:=(aL m6)) rfl rfl rfl rfl rfl dy vV (au (cg (aW [0,0,0,0] (rg 16 17) [(33,pB ((((decide (m6.ID<1))||(decide (1000<m6.ID)))||(decide (m6.Kind<1)))||(decide (3<m6.Kind))))] (by kernel_rfl) (bK rfl hb3 (fun hc8 hb3=>?_) fun hc8 hb3=>?_))))))))))))
   ·refine ae ?_
    refine dn [(2,pI 2)] (by kernel_rfl) (am (eV ?_))
    refine aF hb3 (fun ht=>?_);subst ht
    refine ar (aJ ?_)
    exact zz r h rfl
   refine ai ?_
   refine cg (bN (ρd:=[]) [(0,0),(1,0),(2,0),(3,0),(4,0),(5,0),(6,0),(7,0),(8,0),(9,0),(10,0),(11,0),(12,0)] _ (List.Perm.refl _) (by kernel_rfl) rfl (af hb3 fun m9 hm9 hb3=>bY 13 [0] (rg 34 12) [(46,pB ((decide (0<v2))&&(decide (m6.ID≤m9.ID))))] (gX 8 Zg.enc (dj hm9) bo) (by kernel_rfl) (cd (bK rfl hb3 (fun hc10 hb3=>?_) fun hc10 hb3=>?_))))
   ·refine ae ?_
    refine dn [(2,pI 9)] (by kernel_rfl) (am (eV ?_))
    refine aF hb3 (fun ht=>?_);subst ht
    refine ar (aJ ?_)
    exact zz r h rfl
   refine ai ?_
   refine cg (aW [0,0] (rg 47 9) [(56,pB ((decide (12<(m6.Parties.length:Int)))||(decide (12<(m6.Rules.length:Int)))))] (by kernel_rfl) (bK rfl hb3 (fun hc11 hb3=>?_) fun hc11 hb3=>?_))
   ·refine ae ?_
    refine dn [(2,pI 8)] (by kernel_rfl) (am (eV ?_))
    refine aF hb3 (fun ht=>?_);subst ht
    refine ar (aJ ?_)
    exact zz r h rfl
   refine ai ?_
   refine cg (af hb3 fun x12 hx12 hb3=>an [0] [57,58,59] [(60,pB (!x12))] (bA 2 (iq hx12) bo) (by kernel_rfl) (bK rfl hb3 (fun hc13 hb3=>?_) fun hc13 hb3=>?_))
   ·refine ae ?_
    refine dn [(2,pI 1)] (by kernel_rfl) (am (eV ?_))
    refine aF hb3 (fun ht=>?_);subst ht
    refine ar (aJ ?_)
    exact zz r h rfl
   refine ai ?_
   refine cr hb3 fun x14 hx14 hb3=>an [0] [61,62,63] [(5,pI x14)] (bA 2 (hY hx14) bo) (by kernel_rfl) (br (ah [64] [(65,pB (x14 != 0))] (by kernel_rfl) (bK rfl hb3 (fun hc15 hb3=>?_) fun hc15 hb3=>?_)))
   ·refine ae ?_
    refine ah [66] [(2,pI x14)] (by kernel_rfl) (df (eV ?_))
    refine aF hb3 (fun ht=>?_);subst ht
    refine ar (aJ ?_)
    exact zz r h rfl
   refine ai ?_
   refine dY (ah [67] [(11,pI (IntKind.i64.wrap (v2+1)))] (by kernel_rfl) ?_)
   exact aT hb3 () (gI rfl) bz
  refine aM ?_
  refine aq (al hb3 (fun ht=>ap rfl ?_))
  exact aD ((),()) kl bz ht.symm
 rintro ⟨_,_⟩ τ hz;(try dsimp only at hz);subst q4;(try dsimp only at h);dsimp only [aw]
 refine ae (dn [(2,pI 0)] (by kernel_rfl) ?_)
 exact zz r h rfl
def de (p0:Zd):Option Int:=(dc p0.Code).bind fun x2=>(gd (!((x2 != 6)&&(x2 != 8))) (bX p0.Country)).bind fun x3=>(gd (!(((x2 != 6)&&(x2 != 8))||(!x3))) (dW p0.Processes)).bind fun x4=>cond ((((x2 != 6)&&(x2 != 8))||(!x3))||(!x4)) (some (1:Int)) (cond ((decide (p0.Price<1))||(decide (1000000000000<p0.Price))) (some (2:Int)) (cond (decide (8<(p0.Inputs.length:Int))) (some (8:Int)) (cond (p0.Obtained&&(decide (0<(p0.Inputs.length:Int)))) (some (1:Int)) (some (0:Int)))))
theorem gH {p0:Zd} {r:Int}  (h:de p0=some r):PF 118 [.agg (aS p0)] (pI r):=by
 unfold de at h
 refine aY ?_
 refine dw Tryz.func118 rfl Tryz.ntmps118 Tryz.results118 rfl (aa (aj rfl (bj (cs:=(aS p0)) rfl rfl (fun b1=>aZ [2] (by kernel_rfl) (cr h fun x2 hx2 h=>an [0] [4,5,6] [(3,pI x2)] (bA 2 (dh hx2) bo) (by kernel_rfl) (cg (af h fun x3 hx3 h=>af h fun x4 hx4 h=>an [0,0] (rg 7 17) [(24,pB ((((x2 != 6)&&(x2 != 8))||(!x3))||(!x4)))] (dR 9 (fun hc=>da (dj hx3 hc)) (dR 15 (fun hc=>e8 (dj hx4 hc)) bo)) (by kernel_rfl) (bK rfl h (fun hc5 h=>?_) fun hc5 h=>?_))))))))
 ·refine ae ?_
  refine dn [(2,pI 1)] (by kernel_rfl) (am ?_)
  exact zz r h rfl
 refine ai ?_
 refine cg (aW [0,0] (rg 25 7) [(32,pB ((decide (p0.Price<1))||(decide (1000000000000<p0.Price))))] (by kernel_rfl) (bK rfl h (fun hc6 h=>?_) fun hc6 h=>?_))
 ·refine ae ?_
  refine dn [(2,pI 2)] (by kernel_rfl) (am ?_)
  exact zz r h rfl
 refine ai ?_
 refine cg (aW [0] [33,34,35] [(36,pB (decide (8<(p0.Inputs.length:Int))))] (by kernel_rfl) (bK rfl h (fun hc7 h=>?_) fun hc7 h=>?_))
 ·refine ae ?_
  refine dn [(2,pI 8)] (by kernel_rfl) (am ?_)
  exact zz r h rfl
 refine ai ?_
 refine cg (aW [0,0] (rg 37 7) [(44,pB (p0.Obtained&&(decide (0<(p0.Inputs.length:Int)))))] (by kernel_rfl) (bK rfl h (fun hc8 h=>?_) fun hc8 h=>?_))
 ·refine ae ?_
  refine dn [(2,pI 1)] (by kernel_rfl) (am ?_)
  exact zz r h rfl
 refine ai ?_
 refine br (dn [(2,pI 0)] (by kernel_rfl) ?_)
 exact zz r h rfl
def fb (p0:(List Zd)):Option Int:=cond (decide (64<(p0.length:Int))) (some (8:Int)) ((bf (S:=Int) (T:=(Unit)⊕(_)) (fun v2=>cond (decide (v2<(p0.length:Int))) ((idx p0 v2).bind fun m6=>cond ((decide (m6.ID<1))||(decide (1000000<m6.ID))) (some (.inr (.inr (2:Int)))) ((gd (decide (0<v2)) (idx p0 (IntKind.i64.wrap (v2 - 1)))).bind fun m9=>cond ((decide (0<v2))&&(decide (m6.ID≤m9.ID))) (some (.inr (.inr (9:Int)))) ((de m6).bind fun x11=>cond (x11 != 0) (some (.inr (.inr x11))) ((dt p0 m6.Inputs).bind fun x13=>cond (x13 != 0) (some (.inr (.inr x13))) (some (.inl (IntKind.i64.wrap (v2+1)))))))) (some (.inr (.inl ())))) FUEL 0).bind fun q=>match q with | .inl _=>some (0:Int) | .inr e=>some e)
theorem jY {p0:(List Zd)} {r:Int}  (h:fb p0=some r):PF 71 [pL Zd.enc p0] (pI r):=by
 unfold fb at h
 refine aY ?_
 refine dw Tryz.func71 rfl Tryz.ntmps71 Tryz.results71 rfl (aR [2] (by kernel_rfl) (cg (ah [7,8] [(9,pB (decide (64<(p0.length:Int))))] (by kernel_rfl) (bK rfl h (fun hc1 h=>?_) fun hc1 h=>?_))))
 ·refine ae ?_
  refine dn [(2,pI 8)] (by kernel_rfl) (am ?_)
  exact zz r h rfl
 refine ai ?_
 refine cg (ak [(10,pL Zd.enc p0),(11,pI (p0.length:Int)),(12,pI 0)] (by kernel_rfl) (fG h fun q4 hq4 h=>?_))
 refine av (Y:=Unit×Unit) (fun (_,_)=>[]) (fun (_,_)=>[]) (fun (_,_)=>q4=Sum.inl ()) ?_ ?_
 ·refine aA ?_
  refine aC (Y:=Unit) (S:=Int) _ hq4 (fun _ v2=>[(0,pL Zd.enc p0),(10,pL Zd.enc p0),(11,pI (p0.length:Int)),(12,pI v2)]) (fun _ v2=>[]) () (gI rfl) bz ?_
  rintro _ v2 o τ hb3;(try dsimp only at hb3);dsimp only [aw]
  refine ae (ak [(13,pB (decide (v2<(p0.length:Int))))] (by kernel_rfl) (br (gM rfl hb3 (fun hc5 hb3=>?_) fun hc5 hb3=>?_)))
  ·refine ai ?_
   refine br (ff (af hb3 fun m6 hm6 hb3=>aa (aU 3 [] [15] [(14,pI v2),(16,.agg (aS m6))] (cn 1 Zd.enc hm6 bo) (by kernel_rfl) (aj rfl (aQ (cs:=[pI 0,pS ByteArray.empty,pS ByteArray.empty,pI 0,pB false,pN,pN]) rfl rfl rfl rfl (fun b7=>aI 1 [(3,pI v2)] (by kernel_rfl) (aX rfl rfl (aH (vs:=(aS m6)) rfl rfl rfl rfl rfl dy px (au (cg (aW [0,0] (rg 17 7) [(24,pB ((decide (m6.ID<1))||(decide (1000000<m6.ID))))] (by kernel_rfl) (bK rfl hb3 (fun hc8 hb3=>?_) fun hc8 hb3=>?_))))))))))))
   ·refine ae ?_
    refine dn [(2,pI 2)] (by kernel_rfl) (am (eV ?_))
    refine aF hb3 (fun ht=>?_);subst ht
    refine ar (aJ ?_)
    exact zz r h rfl
   refine ai ?_
   refine cg (bN (ρd:=[]) [(0,0),(1,0),(2,0),(3,0),(4,0),(5,0),(6,0),(7,0),(8,0),(9,0),(10,0),(11,0),(12,0)] _ (List.Perm.refl _) (by kernel_rfl) rfl (af hb3 fun m9 hm9 hb3=>bY 13 [0] (rg 25 12) [(37,pB ((decide (0<v2))&&(decide (m6.ID≤m9.ID))))] (gX 8 Zd.enc (dj hm9) bo) (by kernel_rfl) (cd (bK rfl hb3 (fun hc10 hb3=>?_) fun hc10 hb3=>?_))))
   ·refine ae ?_
    refine dn [(2,pI 9)] (by kernel_rfl) (am (eV ?_))
    refine aF hb3 (fun ht=>?_);subst ht
    refine ar (aJ ?_)
    exact zz r h rfl
   refine ai ?_
   refine cg (af hb3 fun x11 hx11 hb3=>an [0] [38,39] [(5,pI x11)] (bA 1 (gH hx11) bo) (by kernel_rfl) (br (ah [40] [(41,pB (x11 != 0))] (by kernel_rfl) (bK rfl hb3 (fun hc12 hb3=>?_) fun hc12 hb3=>?_))))
   ·refine ae ?_
    refine ah [42] [(2,pI x11)] (by kernel_rfl) (df (am (eV ?_)))
    refine aF hb3 (fun ht=>?_);subst ht
    refine ar (aJ ?_)
    exact zz r h rfl
   refine ai ?_
   refine cr hb3 fun x13 hx13 hb3=>an [0] [43,44,45,46] [(6,pI x13)] (bA 3 (gS hx13) bo) (by kernel_rfl) (br (ah [47] [(48,pB (x13 != 0))] (by kernel_rfl) (bK rfl hb3 (fun hc14 hb3=>?_) fun hc14 hb3=>?_)))
   ·refine ae ?_
    refine ah [49] [(2,pI x13)] (by kernel_rfl) (df (eV ?_))
    refine aF hb3 (fun ht=>?_);subst ht
    refine ar (aJ ?_)
    exact zz r h rfl
   refine ai ?_
   refine dY (ah [50] [(12,pI (IntKind.i64.wrap (v2+1)))] (by kernel_rfl) ?_)
   exact aT hb3 () (gI rfl) bz
  refine aM ?_
  refine aq (al hb3 (fun ht=>ap rfl ?_))
  exact aD ((),()) kl bz ht.symm
 rintro ⟨_,_⟩ τ hz;(try dsimp only at hz);subst q4;(try dsimp only at h);dsimp only [aw]
 refine ae (dn [(2,pI 0)] (by kernel_rfl) ?_)
 exact zz r h rfl
def gW (p0:Ze) (p1:Zl):Option Bool:=(eu p0).bind fun x3=>(gd (x3 == 0) (f7 p1)).bind fun x4=>some ((x3 == 0)&&(x4 == 0))
theorem lu {p0:Ze} {p1:Zl} {r:Bool}  (h:gW p0 p1=some r):PF 126 [.agg (aK p0),.agg (bM p1)] (pB r):=by
 unfold gW at h
 refine aY ?_
 refine dw Tryz.func126 rfl Tryz.ntmps126 Tryz.results126 rfl (aa (aj rfl (bj (cs:=(aK p0)) rfl rfl (fun b1=>aj rfl (bj (cs:=(bM p1)) rfl rfl (fun b2=>aZ [4] (by kernel_rfl) (cr h fun x3 hx3 h=>af h fun x4 hx4 h=>an [1,0] (rg 5 8) [(4,pB ((x3 == 0)&&(x4 == 0)))] (bA 1 (eQ hx3) (dR 5 (fun hc=>kC (dj hx4 hc)) bo)) (by kernel_rfl) (df ?_))))))))
 exact zz r h rfl
def eK (p0:(List Zd)) (p1:(List Zg)) (p2:ByteArray) (p3:Za) (p4:(List Za)):Option (Zl×(List Za)):=(di p0 p1 p2 p3).bind fun x3=>cond (!x3) (some ((⟨ByteArray.empty,0,false,[],[]⟩:Zl),[])) ((dx p0 p3.Product).bind fun x5=>(ep p1 p3.Agreement).bind fun x7=>(e9 p1 p3.Agreement x5.1.Country p2).bind fun x9=>(bf (S:=Int×(List (Za×Bool))) (T:=((List (Za×Bool)))) (fun (v12,l13)=>cond (decide (v12<((p4.length:Nat):Int))) ((idx p4 v12).bind fun m19=>some (.inl ((IntKind.i64.wrap (v12+1)),(lg l13 m19 true)))) (some (.inr l13))) FUEL (0,([]:List (Za×Bool)))).bind fun l15=>(f4 p0 x7.1 x5.1 (⟨x9,l15⟩:Zq)).bind fun x21=>(bf (S:=(List Za)×Int×(List Zk)) (T:=((List Za)×(List Zk))) (fun (l24,v27,l29)=>cond (decide (v27<(x21.1.length:Int))) (((idx x21.1 v27).bind fun m56=>(Icumulation_supply_input m56).bind fun x57=>(app 32 l29 [x57]).bind fun l60=>cond (Zc.is_proved_ m56) ((app 16 l24 [(((Zc.as_proved_ m56)).premise)]).bind fun l68=>some (l68,l60)) (some (l24,l60))).bind fun (l49,l54)=>some (.inl (l49,(IntKind.i64.wrap (v27+1)),l54))) (some (.inr (l24,l29)))) FUEL (([]:List Za),0,([]:List Zk))).bind fun (l35,l40)=>(bm l35).bind fun x72=>(bB x72).bind fun x73=>some ((⟨x5.1.Code,x5.1.Price,x5.1.Obtained,x21.2,l40⟩:Zl),x73))
theorem jr {p0:(List Zd)} {p1:(List Zg)} {p2:ByteArray} {p3:Za} {p4:(List Za)} {a_4:Option Addr}  {n_4:Nat}  {c_4:Nat} {r:(Zl×(List Za))}  (h:eK p0 p1 p2 p3 p4=some r):PCall 17 [pL Zd.enc p0,pL Zg.enc p1,pS p2,.agg [pI p3.Product,pI p3.Agreement],.v (.slice a_4 n_4 c_4)] [PRes.row a_4 n_4 c_4 28 2 (List.map Za.enc p4)] (fun pv ρ'=>pv=.tup [.agg (bM r.1),pL Za.enc r.2]∧ρ'=[PRes.row a_4 n_4 c_4 28 2 (List.map Za.enc p4)]):=by
 unfold eK at h
 refine eP Tryz.func17 rfl Tryz.ntmps17 Tryz.results17 rfl ?_
 refine fB (enc:=Za.enc) (xs:=p4) (a:=a_4) fT (fun hl ha=>?_);subst hl;clear ha
 refine ae (aa (aj rfl (bj (cs:=[pI p3.Product,pI p3.Agreement]) rfl rfl (fun b1=>aj rfl (aQ (cs:=[pS ByteArray.empty,pI 0,pB false,pN,pN]) rfl rfl rfl rfl (fun b2=>aZ [11] (by kernel_rfl) (cg (af h fun x3 hx3 h=>an [1] (rg 27 5) [(32,pB (!x3))] (bA 4 (fj hx3) bo) (by kernel_rfl) (bK rfl h (fun hc4 h=>?_) fun hc4 h=>?_)))))))))
 ·refine ae ?_
  refine aa (aI 1 [(33,.agg [pS ByteArray.empty,pI 0,pB false,pN,pN])] (by kernel_rfl) (aX rfl rfl (aH (vs:=[pS ByteArray.empty,pI 0,pB false,pN,pN]) rfl rfl rfl rfl rfl dy zl5 (aP [(11,pN)] (by kernel_rfl) (aG (gy (k:=3) (b:=b2) rfl dy (gy (k:=4) (b:=b2) rfl dy (fM 11 rfl (bx (am ?_))))))))))
  obtain rfl:=osi h
  exact aO (cC (gK rfl fT rfl) (aN rfl)) (bu (az (az aV)) bz) ⟨rfl,rfl⟩
 refine ai ?_
 refine cr h fun x5 hx5 h=>aa (aU 7 [1] [35,36,37,38,34] [(39,.agg (aS x5.1)),(40,pB x5.2)] (bA 3 (ea hx5) bo) (by kernel_rfl) (aj rfl (aQ (cs:=[pI 0,pS ByteArray.empty,pS ByteArray.empty,pI 0,pB false,pN,pN]) rfl rfl rfl rfl (fun b6=>aX rfl rfl (aH (vs:=(aS x5.1)) rfl rfl rfl rfl rfl dy px (aZ [13] (by kernel_rfl) (cr h fun x7 hx7 h=>aa (aU 7 [2] [42,43,44,45,41] [(46,.agg (aL x7.1)),(47,pB x7.2)] (bA 3 (fx hx7) bo) (by kernel_rfl) (aj rfl (aQ (cs:=[pI 0,pI 0,pN,pN]) rfl rfl rfl rfl (fun b8=>aX rfl rfl (aH (vs:=(aL x7.1)) rfl rfl rfl rfl rfl dy vV (aZ [15] (by kernel_rfl) (cr h fun x9 hx9 h=>aa (aU 7 [3,1] (rg 48 6) [(54,pL eI x9)] (bA 6 (jW hx9) bo) (by kernel_rfl) (aj rfl (mC Za.key vT rfl (fun b10=>aI 1 [(56,.agg [pL eI x9,.v (.map (some b10))])] (by kernel_rfl) (aj rfl (aQ (cs:=[pN,.v (.map none)]) rfl rfl rfl rfl (fun b11=>aX rfl rfl (aH (vs:=[pL eI x9,.v (.map (some b10))]) rfl rfl rfl rfl rfl dy uw (au (cg (ak [(57,pO a_4 p4.length c_4),(58,pI ((p4.length:Nat):Int)),(59,pI 0)] (by kernel_rfl) (fG h fun q17 hq17 h=>?_))))))))))))))))))))))))))
 refine av (Y:=Unit×((List (Za×Bool)))) (fun (_,l15)=>[(0,pL Zd.enc p0),(10,pP b2 0),(12,pP b6 0),(14,pP b8 0),(16,pP b11 0)]) (fun (_,l15)=>[PRes.mp (some b10) (ex Za.key vT l15),PRes.b b11 96 [pL eI x9,.v (.map (some b10))],PRes.b b2 36 [pS ByteArray.empty,pI 0,pB false,pN,pN],PRes.b b6 76 (aS x5.1),PRes.b b8 81 (aL x7.1),PRes.row a_4 p4.length c_4 28 2 (List.map Za.enc p4)]) (fun (_,l15)=>q17=l15) ?_ ?_
 ·refine aA ?_
  refine aC (Y:=Unit) (S:=Int×(List (Za×Bool))) _ hq17 (fun _ (v12,l13)=>[(0,pL Zd.enc p0),(10,pP b2 0),(12,pP b6 0),(14,pP b8 0),(16,pP b11 0),(57,pO a_4 p4.length c_4),(58,pI ((p4.length:Nat):Int)),(59,pI v12)]) (fun _ (v12,l13)=>[PRes.mp (some b10) (ex Za.key vT l13),PRes.b b11 96 [pL eI x9,.v (.map (some b10))],PRes.b b2 36 [pS ByteArray.empty,pI 0,pB false,pN,pN],PRes.b b6 76 (aS x5.1),PRes.b b8 81 (aL x7.1),PRes.row a_4 p4.length c_4 28 2 (List.map Za.enc p4)]) () (oN rfl) (bu (az aV) (bu aV (bu (az (az aV)) (bu (az aV) (bu aV (bu (az aV) bz)))))) ?_
  rintro _ ⟨v12,l13⟩ o τ hb16;(try dsimp only at hb16);dsimp only [aw]
  refine ae (ak [(60,pB (decide (v12<((p4.length:Nat):Int))))] (by kernel_rfl) (br (gM rfl hb16 (fun hc18 hb16=>?_) fun hc18 hb16=>?_)))
  ·refine ai ?_
   refine br (ff (af hb16 fun m19 hm19 hb16=>aa (bh rfl rfl rfl (cW (enc:=Za.enc) (xs:=p4) rfl rfl rfl (.p rfl) zm5 (.p rfl) (fun _=>hm19)) (bh rfl rfl rfl (bW (sz:=2) (p:=.agg [pI m19.Product,pI m19.Agreement]) (enc:=Za.enc) (xs:=p4) (a:=a_4) v12 0 m19 rfl (.p rfl) rfl zm5 (fun _=>hm19) rfl) (aj rfl (aQ (cs:=[pI 0,pI 0]) rfl rfl rfl rfl (fun b20=>aX rfl rfl (aH (vs:=[pI m19.Product,pI m19.Agreement]) rfl rfl rfl rfl rfl dy uw (au (aG (aa (bI 3 [2,0] [63] [(64,.v (.map (some b10))),(65,.agg [pI m19.Product,pI m19.Agreement])] (by kernel_rfl) (aX rfl rfl (lG (xs:=l13) (k:=m19) (ek:=Za.key) (vv:=vT) (v:=true) rfl rfl Za.kenc28 rfl rfl od rfl (gu dy) (au (dY (ah [66] [(59,pI (IntKind.i64.wrap (v12+1)))] (by kernel_rfl) ?_)))))))))))))))))
   exact aT hb16 () (oN rfl) (bu (az aV) (bu (az aV) (bu (az aV) (bu (az aV) (bu (az aV) (bu (az aV) bz))))))
  refine aM ?_
  refine aq (al hb16 (fun ht=>ap rfl ?_))
  exact aD ((),l13) (lQ rfl) zs6 ht.symm
 rintro ⟨_,l15⟩ τ hz;(try dsimp only at hz);subst q17;(try dsimp only at h);dsimp only [aw]
 refine ae (af h fun x21 hx21 h=>aa (gz 4 [4,3,1] [(68,pL Zd.enc p0),(69,.agg (aL x7.1)),(70,.agg (aS x5.1)),(71,.agg [pL eI x9,.v (.map (some b10))])] (by kernel_rfl) ?_))
 refine aj rfl (co rfl rfl (ρ1:=[_]) (bG (by exact aV) (List.Perm.refl _)) (kB hx21) ?_);rintro _ _ ⟨rfl,rfl⟩
 refine ji [67,73,74] [(19,pL Zc.enc x21.1),(20,pL eS x21.2)] (by kernel_rfl) (br (aa (bI 8 [3,3,3] (rg 75 7) [(82,.agg [pS x5.1.Code,pI x5.1.Price,pB x5.1.Obtained,pL eS x21.2,pN])] (by kernel_rfl) (aj rfl (aQ (cs:=[pS ByteArray.empty,pI 0,pB false,pN,pN]) rfl rfl rfl rfl (fun b22=>aX rfl rfl (aH (vs:=[pS x5.1.Code,pI x5.1.Price,pB x5.1.Obtained,pL eS x21.2,pN]) rfl rfl rfl rfl rfl dy zl5 (au (br (ak [(22,pN)] (by kernel_rfl) (cg (ak [(83,pL Zc.enc x21.1),(84,pI (x21.1.length:Int)),(85,pI 0)] (by kernel_rfl) (aG (bO 28 2 (bO 103 3 (af h fun q42 hq42 h=>?_))))))))))))))))
 refine av (Y:=(Option Addr×Nat×Option Addr×Nat)×((List Za)×(List Zk))) (fun ((a33,c34,a38,c39),(l35,l40))=>[(10,pP b2 0),(21,pP b22 0),(22,pO a33 l35.length c34)]) (fun ((a33,c34,a38,c39),(l35,l40))=>[PRes.b b2 36 [pS ByteArray.empty,pI 0,pB false,pN,pN],PRes.b b22 36 [pS x5.1.Code,pI x5.1.Price,pB x5.1.Obtained,pL eS x21.2,pO a38 l40.length c39],PRes.row a33 l35.length c34 28 2 (List.map Za.enc l35),PRes.row a_4 p4.length c_4 28 2 (List.map Za.enc p4),PRes.row a38 l40.length c39 103 3 (List.map Zk.enc l40)]) (fun ((a33,c34,a38,c39),(l35,l40))=>q42=(l35,l40)) ?_ ?_
 ·refine aA ?_
  refine aC (Y:=Option Addr×Nat×Option Addr×Nat) (S:=(List Za)×Int×(List Zk)) _ hq42 (fun (a25,c26,a30,c31) (l24,v27,l29)=>[(10,pP b2 0),(21,pP b22 0),(22,pO a25 l24.length c26),(83,pL Zc.enc x21.1),(84,pI (x21.1.length:Int)),(85,pI v27)]) (fun (a25,c26,a30,c31) (l24,v27,l29)=>[PRes.b b2 36 [pS ByteArray.empty,pI 0,pB false,pN,pN],PRes.b b22 36 [pS x5.1.Code,pI x5.1.Price,pB x5.1.Obtained,pL eS x21.2,pO a30 l29.length c31],PRes.row a_4 p4.length c_4 28 2 (List.map Za.enc p4),PRes.row a25 l24.length c26 28 2 (List.map Za.enc l24),PRes.row a30 l29.length c31 103 3 (List.map Zk.enc l29)]) (none,0,none,0) (rB rfl) (bu (az (az (az (az (az aV))))) (bu (az (az aV)) (bu (az (az (az (az (az (az aV)))))) (bu (az aV) dl)))) ?_
  rintro ⟨a25,c26,a30,c31⟩ ⟨l24,v27,l29⟩ o τ hb41;(try dsimp only at hb41);dsimp only [aw]
  refine ae (ak [(86,pB (decide (v27<(x21.1.length:Int))))] (by kernel_rfl) (br (gM rfl hb41 (fun hc45 hb41=>?_) fun hc45 hb41=>?_)))
  ·refine ai ?_
   refine cr hb41 fun q55 hq55 hb41=>?_
   refine av (Y:=(Option Addr×Nat×Option Addr×Nat)×((List Za)×(List Zk))) (fun ((a47,c48,a52,c53),(l49,l54))=>[(10,pP b2 0),(21,pP b22 0),(22,pO a47 l49.length c48),(83,pL Zc.enc x21.1),(84,pI (x21.1.length:Int)),(85,pI v27)]) (fun ((a47,c48,a52,c53),(l49,l54))=>[PRes.b b2 36 [pS ByteArray.empty,pI 0,pB false,pN,pN],PRes.b b22 36 [pS x5.1.Code,pI x5.1.Price,pB x5.1.Obtained,pL eS x21.2,pO a52 l54.length c53],PRes.row a47 l49.length c48 28 2 (List.map Za.enc l49),PRes.row a_4 p4.length c_4 28 2 (List.map Za.enc p4),PRes.row a52 l54.length c53 103 3 (List.map Zk.enc l54)]) (fun ((a47,c48,a52,c53),(l49,l54))=>q55=(l49,l54)) ?_ ?_
   ·skip
    refine ff (af hq55 fun m56 hm56 hq55=>an [] [87,88] [(24,Zc.pv m56)] (cn 0 Zc.enc hm56 bo) (by kernel_rfl) (cr hq55 fun x57 hx57 hq55=>af hq55 fun l60 hl60 hq55=>?_))
    refine av (Y:=Option Addr×Nat) (fun (a61,c62)=>[(10,pP b2 0),(21,pP b22 0),(22,pO a25 l24.length c26),(24,Zc.pv m56),(83,pL Zc.enc x21.1),(84,pI (x21.1.length:Int)),(85,pI v27)]) (fun (a61,c62)=>[PRes.b b2 36 [pS ByteArray.empty,pI 0,pB false,pN,pN],PRes.b b22 36 [pS x5.1.Code,pI x5.1.Price,pB x5.1.Obtained,pL eS x21.2,pO a61 l60.length c62],PRes.row a_4 p4.length c_4 28 2 (List.map Za.enc p4),PRes.row a25 l24.length c26 28 2 (List.map Za.enc l24),PRes.row a61 l60.length c62 103 3 (List.map Zk.enc l60)]) (fun _=>True) ?_ ?_
    ·refine ur (ρd:=[PRes.row a30 _ _ _ _ _,PRes.b b22 _ _]) _ (bG (az (az (az (az aV)))) (bG (az aV) (List.Perm.refl _))) ?_
     refine rA 0 (by kernel_rfl) rfl rfl rfl rfl (fQ rfl rfl rfl rfl rfl (.p rfl)) (rA 2 (by kernel_rfl) rfl rfl rfl rfl (fO (p:=Zc.pv m56) rfl (.p rfl)) ?_)
     refine tu 1 3 (by kernel_rfl) ?_ ?_
     ·skip
      refine fS rfl rfl rfl rfl (pl_q (kN (p:=pO a30 l29.length c31) rfl (.p rfl) uV rfl) (gq 3 (by kernel_rfl) (fS rfl rfl rfl rfl (py rfl rfl (Icumulation_supply_input_ok hx57) (gq 4 (by kernel_rfl) (fS rfl rfl rfl rfl (bR rfl rfl rfl rfl rfl (ko rfl kO) rfl rfl rfl rfl (fun b58=>gq 5 (by kernel_rfl) ?_))))))))
      refine fS rfl rfl rfl rfl (cQ (enc:=Zk.enc) rfl rfl rfl rfl rfl rfl rfl rfl rfl fT (by exact az aV) hl60 (fun a61 c62=>?_))
      refine rA 6 (by kernel_rfl) rfl rfl rfl rfl (fQ rfl rfl rfl rfl rfl (.p rfl)) (gq 7 (by kernel_rfl) (nR rfl rfl rfl (aH (vs:=[pO a61 l60.length c62]) rfl rfl rfl rfl rfl (gu (gu dy)) (kh (kh (kh (kh uv)))) (nQ (by kernel_rfl) ?_))))
      exact aD (a61,c62) (uW rfl) (bu (az (az (az aV))) (bu (az (az aV)) (bu (az (az aV)) (bu (az (az aV)) dl)))) trivial
     skip
     refine fS rfl rfl rfl rfl (py rfl rfl (Icumulation_supply_input_ok hx57) ?_)
     refine tu 1 4 (by kernel_rfl) ?_ ?_
     ·skip
      refine fS rfl rfl rfl rfl (pl_q (kN (p:=pO a30 l29.length c31) rfl (.p rfl) uV rfl) (gq 4 (by kernel_rfl) (fS rfl rfl rfl rfl (bR rfl rfl rfl rfl rfl (ko rfl kO) rfl rfl rfl rfl (fun b58=>gq 5 (by kernel_rfl) ?_)))))
      refine fS rfl rfl rfl rfl (cQ (enc:=Zk.enc) rfl rfl rfl rfl rfl rfl rfl rfl rfl fT (by exact az aV) hl60 (fun a61 c62=>?_))
      refine rA 6 (by kernel_rfl) rfl rfl rfl rfl (fQ rfl rfl rfl rfl rfl (.p rfl)) (gq 7 (by kernel_rfl) (nR rfl rfl rfl (aH (vs:=[pO a61 l60.length c62]) rfl rfl rfl rfl rfl (gu (gu dy)) (kh (kh (kh (kh uv)))) (nQ (by kernel_rfl) ?_))))
      exact aD (a61,c62) (uW rfl) (bu (az (az (az aV))) (bu (az (az aV)) (bu (az (az aV)) (bu (az (az aV)) dl)))) trivial
     skip
     refine fS rfl rfl rfl rfl (bR rfl rfl rfl rfl rfl (ko rfl kO) rfl rfl rfl rfl (fun b58=>gq 1 (by kernel_rfl) (fS rfl rfl rfl rfl (pl_q (kN (p:=pO a30 l29.length c31) rfl (.p rfl) zm2 rfl) (gq 5 (by kernel_rfl) ?_)))))
     refine fS rfl rfl rfl rfl (cQ (enc:=Zk.enc) rfl rfl rfl rfl rfl rfl rfl rfl rfl fT (by exact az aV) hl60 (fun a61 c62=>?_))
     refine rA 6 (by kernel_rfl) rfl rfl rfl rfl (fQ rfl rfl rfl rfl rfl (.p rfl)) (gq 7 (by kernel_rfl) (nR rfl rfl rfl (aH (vs:=[pO a61 l60.length c62]) rfl rfl rfl rfl rfl (gu (gu dy)) (kh (kh (kh (kh uv)))) (nQ (by kernel_rfl) ?_))))
     exact aD (a61,c62) (uW rfl) (bu (az (az (az aV))) (bu (az (az aV)) (bu (az (az aV)) (bu (az (az aV)) dl)))) trivial
    rintro ⟨a61,c62⟩ τ _;dsimp only [aw]
    refine ae (aa (aU 5 [] [97,98,96] [(99,.agg [pS ((((Zc.as_proved_ m56)).use).Code),pI ((((Zc.as_proved_ m56)).use).Value),pB ((((Zc.as_proved_ m56)).use).Originating),pI ((((Zc.as_proved_ m56)).premise).Product),pI ((((Zc.as_proved_ m56)).premise).Agreement)]),(100,pB (Zc.is_proved_ m56))] (fota 1 (Zc.ta_proved_ m56) bo) (by kernel_rfl) (aj rfl (aQ (cs:=[pS ByteArray.empty,pI 0,pB false,pI 0,pI 0]) rfl rfl rfl rfl (fun b64=>aX rfl rfl (aH (vs:=[pS ((((Zc.as_proved_ m56)).use).Code),pI ((((Zc.as_proved_ m56)).use).Value),pB ((((Zc.as_proved_ m56)).use).Originating),pI ((((Zc.as_proved_ m56)).premise).Product),pI ((((Zc.as_proved_ m56)).premise).Agreement)]) rfl rfl rfl rfl rfl dy zl5 (aP [(26,pB (Zc.is_proved_ m56))] (by kernel_rfl) (br (ak [(101,pB (Zc.is_proved_ m56))] (by kernel_rfl) (bK rfl hq55 (fun hc65 hq55=>?_) fun hc65 hq55=>?_))))))))))
    ·refine aa ?_
     refine bI 3 [0] [103] [(102,pO a25 l24.length c26),(104,.agg [pI ((((Zc.as_proved_ m56)).premise).Product),pI ((((Zc.as_proved_ m56)).premise).Agreement)])] (by kernel_rfl) (aj rfl (bR rfl rfl rfl rfl rfl (ko rfl kO) rfl rfl rfl rfl (fun b66=>af hq55 fun l68 hl68 hq55=>?_)))
     refine aj rfl (cQ (enc:=Za.enc) rfl rfl rfl rfl rfl rfl rfl rfl rfl fT (by exact az (az (az (az (az aV))))) hl68 (fun a69 c70=>?_))
     refine aP [(22,pO a69 l68.length c70)] (by kernel_rfl) (aB ?_)
     obtain rfl:=osi hq55
     exact aD ((a69,c70,a61,c62),(l68,l60)) (rB rfl) (bu (az (az (az aV))) (bu (az (az (az aV))) (bu aV (bu (az (az aV)) (bu (az (az aV)) bz))))) rfl
    refine ai ?_
    refine aB ?_
    obtain rfl:=osi hq55
    exact aD ((a25,c26,a61,c62),(l24,l60)) (rB rfl) (bu (az aV) (bu (az aV) (bu (az (az aV)) (bu (az aV) (bu (az aV) bz))))) rfl
   rintro ⟨⟨a47,c48,a52,c53⟩,⟨l49,l54⟩⟩ τ hz;(try dsimp only at hz);subst q55;(try dsimp only at hb41);dsimp only [aw]
   refine ah [107] [(85,pI (IntKind.i64.wrap (v27+1)))] (by kernel_rfl) ?_
   exact aT hb41 (a47,c48,a52,c53) (rB rfl) (bu aV (bu aV (bu (az aV) pu)))
  refine aM ?_
  refine aq (al hb41 (fun ht=>ap rfl ?_))
  exact aD ((a25,c26,a30,c31),(l24,l29)) (oS rfl) (bu aV (bu aV (bu (az aV) pu))) ht.symm
 rintro ⟨⟨a33,c34,a38,c39⟩,⟨l35,l40⟩⟩ τ hz;(try dsimp only at hz);subst q42;(try dsimp only at h);dsimp only [aw]
 refine ae (af h fun x72 hx72 h=>aa (aI 1 [(108,pO a33 l35.length c34)] (by kernel_rfl) ?_))
 refine aj rfl (co rfl rfl (ρ1:=[_]) (bG (by exact az (az aV)) (List.Perm.refl _)) (bL hx72) ?_);rintro _ _ ⟨rfl,rfl⟩
 refine au (br ?_)
 refine tm (css:=List.map Zk.enc l40) (a:=a38) (by exact az (az (az (az aV)))) ?_
 refine um (k:=4) (enc:=Zk.enc) (xs:=l40) (b:=b22) (a:=a38) rfl fT (gu (gu (gu dy))) (bN (ρd:=[PRes.row a33 _ _ _ _ _,PRes.b b2 _ _]) [(0,0),(1,0),(2,1),(3,1),(4,0)] _ (bG (az aV) (bG (az aV) (List.Perm.refl _))) (by kernel_rfl) rfl (af h fun x73 hx73 h=>wF 2 [1] [(110,.agg [pS x5.1.Code,pI x5.1.Price,pB x5.1.Obtained,pL eS x21.2,pL Zk.enc l40]),(111,pO a33 l35.length c34)] (by kernel_rfl) ?_))
 refine nN rfl rfl rfl (co rfl rfl (ρ1:=[_]) (bG (by exact aV) (List.Perm.refl _)) (dp hx73) ?_);rintro _ _ ⟨a74,c75,rfl,rfl⟩
 refine pwd_l0 rfl rfl (aH (vs:=[pS x5.1.Code,pI x5.1.Price,pB x5.1.Obtained,pL eS x21.2,pL Zk.enc l40]) rfl rfl rfl rfl rfl (gu dy) zl5 (fe 1 [(11,pO a74 x73.length c75)] (by kernel_rfl) (cd (aG ?_))))
 refine dO (enc:=Za.enc) (xs:=x73) 11 rfl (by exact aV) ?_
 refine bx ?_
 obtain rfl:=osi h
 exact aO (cC (gK rfl uV rfl) (aN rfl)) (bu (az (az (az (az aV)))) bz) ⟨rfl,rfl⟩
def jZ (p0:Ze) (p1:Zl):Option ((List Int)×Bool):=(gW p0 p1).bind fun x3=>cond (!x3) (some ([],false)) ((mD p0).bind fun x5=>(Irule_test_witness x5 p1).bind fun x6=>some (x6.1,x6.2))
theorem mT {p0:Ze} {p1:Zl} {r:((List Int)×Bool)}  (h:jZ p0 p1=some r):PF 78 [.agg (aK p0),.agg (bM p1)] (.tup [pL eI r.1,pB r.2]):=by
 unfold jZ at h
 refine aY ?_
 refine dw Tryz.func78 rfl Tryz.ntmps78 Tryz.results78 rfl (aa (aj rfl (bj (cs:=(aK p0)) rfl rfl (fun b1=>aj rfl (bj (cs:=(bM p1)) rfl rfl (fun b2=>aZ [4,5] (by kernel_rfl) (cg (af h fun x3 hx3 h=>an [1,0] [6,7,8] [(9,pB (!x3))] (bA 2 (lu hx3) bo) (by kernel_rfl) (bK rfl h (fun hc4 h=>?_) fun hc4 h=>?_)))))))))
 ·refine ae ?_
  refine ak [(4,pN),(5,pB false)] (by kernel_rfl) (aG (fM 4 rfl (bx (am ?_))))
  obtain rfl:=osi h
  exact aO (cC (aN rfl) (aN rfl)) bz ⟨rfl,rfl⟩
 refine ai ?_
 refine br (bN (ρd:=[]) [(0,0),(2,0),(1,1),(3,1),(4,0),(5,0),(6,0),(7,0)] _ (List.Perm.refl _) (by kernel_rfl) rfl (af h fun x5 hx5 h=>af h fun x6 hx6 h=>bY 8 [1,0] [10,12,11,13,14,15] [(4,pL eI x6.1),(5,pB x6.2)] (bA 2 (oq hx5) (foci 3 (Irule_test_witness_ok hx6) bo)) (by kernel_rfl) (cd (df ?_))))
 obtain rfl:=osi h
 exact aO (cC (aN rfl) (aN rfl)) bz ⟨rfl,rfl⟩
def iw (p0:Zi) (p1:(List Zd)) (p2:(List Zg)) (p3:ByteArray) (p4:(List Za)) (p5:(List Zb)):Option (Bool×(List Za)×(List Zb)):=(eK p1 p2 p3 p0.claim p4).bind fun x2=>(jZ p0.rule x2.1).bind fun x4=>Option.bind (cond x4.2 ((app 64 p5 [(⟨p0.claim,x4.1,x2.2⟩:Zb)]).bind fun l14=>some l14) (some p5)) (fun l9=>some (x4.2,p4,l9))
theorem lM {p0:Zi} {p1:(List Zd)} {p2:(List Zg)} {p3:ByteArray} {p4:(List Za)} {p5:(List Zb)} {b4:Nat}  {a_4:Option Addr}  {n_4:Nat}  {c_4:Nat}  {b5:Nat}  {a_5:Option Addr}  {n_5:Nat}  {c_5:Nat} {r:(Bool×(List Za)×(List Zb))}  (h:iw p0 p1 p2 p3 p4 p5=some r):PCall 77 [.agg (dS p0),.ref [pL Zd.enc p1] 0,.ref [pL Zg.enc p2] 0,.ref [pS p3] 0,pP b4 0,pP b5 0] [PRes.b b4 31 [.v (.slice a_4 n_4 c_4)],PRes.row a_4 n_4 c_4 28 2 (List.map Za.enc p4),PRes.b b5 45 [.v (.slice a_5 n_5 c_5)],PRes.row a_5 n_5 c_5 61 4 (List.map Zb.enc p5)] (fun pv ρ'=>pv=pB r.1∧∃ (x0:Option Addr) (z0:Nat) (x1:Option Addr) (z1:Nat),ρ'=[PRes.b b4 31 [.v (.slice x0 (r.2.1).length z0)],PRes.row x0 (r.2.1).length z0 28 2 (List.map Za.enc r.2.1),PRes.b b5 45 [.v (.slice x1 (r.2.2).length z1)],PRes.row x1 (r.2.2).length z1 61 4 (List.map Zb.enc r.2.2)]):=by
 unfold iw at h
 refine eP Tryz.func77 rfl Tryz.ntmps77 Tryz.results77 rfl ?_
 refine fB (enc:=Za.enc) (xs:=p4) (a:=a_4) uV (fun hl ha=>?_);subst hl;clear ha
 refine fB (enc:=Zb.enc) (xs:=p5) (a:=a_5) zm3 (fun hl ha=>?_);subst hl;clear ha
 refine ae (aa (aj rfl (bj (cs:=(dS p0)) rfl rfl (fun b1=>aZ [7] (by kernel_rfl) (cr h fun x2 hx2 h=>aa (bI 6 [0,1] [16] [(13,pL Zd.enc p1),(14,pL Zg.enc p2),(15,pS p3),(17,.agg [pI p0.claim.Product,pI p0.claim.Agreement]),(18,pO a_4 p4.length c_4)] (by kernel_rfl) ?_))))))
 refine aj rfl (co rfl rfl (ρ1:=[_]) (bG (by exact az (az aV)) (List.Perm.refl _)) (jr hx2) ?_);rintro _ _ ⟨rfl,rfl⟩
 refine cD 3 [12] [(20,.agg (bM x2.1)),(21,pL Za.enc x2.2)] (by kernel_rfl) (aj rfl (aQ (cs:=[pS ByteArray.empty,pI 0,pB false,pN,pN]) rfl rfl rfl rfl (fun b3=>aX rfl rfl (aH (vs:=(bM x2.1)) rfl rfl rfl rfl rfl dy zl5 (aP [(9,pL Za.enc x2.2)] (by kernel_rfl) (cr h fun x4 hx4 h=>an [2,0] [23,24,25,26,22,27,28] [(10,pL eI x4.1),(11,pB x4.2)] (bA 3 (mT hx4) bo) (by kernel_rfl) (cg (ak [(29,pB x4.2)] (by kernel_rfl) (fG h fun q10 hq10 h=>?_)))))))))
 refine av (Y:=(Option Addr×Nat)×((List Zb))) (fun ((a7,c8),l9)=>[(11,pB x4.2)]) (fun ((a7,c8),l9)=>[PRes.b b4 31 [pO a_4 p4.length c_4],PRes.b b5 45 [pO a7 l9.length c8],PRes.row a_4 p4.length c_4 28 2 (List.map Za.enc p4),PRes.row a7 l9.length c8 61 4 (List.map Zb.enc l9)]) (fun ((a7,c8),l9)=>q10=l9) ?_ ?_
 ·skip
  refine gM rfl hq10 (fun hc11 hq10=>?_) fun hc11 hq10=>?_
  ·refine aa ?_
   refine bI 6 [4,2] [31,32,33,34] [(30,pO a_5 p5.length c_5),(35,.agg [pI p0.claim.Product,pI p0.claim.Agreement,pL eI x4.1,pL Za.enc x2.2])] (by kernel_rfl) (aj rfl (bR rfl rfl rfl rfl rfl (ko rfl kO) rfl rfl rfl rfl (fun b12=>af hq10 fun l14 hl14 hq10=>?_)))
   refine aj rfl (cQ (enc:=Zb.enc) rfl rfl rfl rfl rfl rfl rfl rfl rfl fT (by exact az (az (az (az (az (az aV)))))) hl14 (fun a15 c16=>?_))
   refine aX rfl rfl (aH (vs:=[pO a15 l14.length c16]) rfl rfl rfl rfl rfl (gu (gu (gu (gu (gu (gu dy)))))) uv (au ?_))
   obtain rfl:=osi hq10
   exact aD ((a15,c16),l14) (uu rfl) (bu (az (az (az (az (az aV))))) (bu (az (az (az (az (az aV))))) (bu (az (az (az aV))) dl))) rfl
  refine ai ?_
  obtain rfl:=osi hq10
  exact aD ((a_5,c_5),p5) (uu rfl) (bu (az (az (az aV))) (bu (az (az (az aV))) (bu (az aV) (bu (az (az aV)) bz)))) rfl
 rintro ⟨⟨a7,c8⟩,l9⟩ τ hz;(try dsimp only at hz);subst q10;(try dsimp only at h);dsimp only [aw]
 refine ae (ah [38] [(7,pB x4.2)] (by kernel_rfl) (df ?_))
 obtain rfl:=osi h
 exact aO (cJ (aN rfl)) (bu aV (bu (az aV) pu)) ⟨rfl,_,_,_,_,rfl⟩
def j0 (p0:(List Zd)) (p1:(List Zg)) (p2:ByteArray):Option (List Zi):=(bf (S:=(List Zi)×Int) (T:=((List Zi))) (fun (l2,v5)=>cond (decide (v5<(p0.length:Int))) ((idx p0 v5).bind fun m14=>(bf (S:=(List Zi)×Int) (T:=((List Zi))) (fun (l17,v20)=>cond (decide (v20<(p1.length:Int))) (((idx p1 v20).bind fun m33=>(eD m33 m14.Code).bind fun x36=>(gd x36.2 (di p0 p1 p2 (⟨m14.ID,m33.ID⟩:Za))).bind fun x38=>cond (x36.2&&x38) ((app 112 l17 [(⟨(⟨m14.ID,m33.ID⟩:Za),x36.1⟩:Zi)]).bind fun l42=>some l42) (some l17)).bind fun l31=>some (.inl (l31,(IntKind.i64.wrap (v20+1))))) (some (.inr l17))) FUEL (l2,0)).bind fun l24=>some (.inl (l24,(IntKind.i64.wrap (v5+1))))) (some (.inr l2))) FUEL (([]:List Zi),0)).bind fun l9=>some l9
theorem mU {p0:(List Zd)} {p1:(List Zg)} {p2:ByteArray} {r:(List Zi)}  (h:j0 p0 p1 p2=some r):PF 79 [pL Zd.enc p0,pL Zg.enc p1,pS p2] (pL Zi.enc r):=by
 unfold j0 at h
 refine aY ?_
 refine dw Tryz.func79 rfl Tryz.ntmps79 Tryz.results79 rfl (aR [6] (by kernel_rfl) (br (ak [(7,pN)] (by kernel_rfl) (cg (ak [(15,pL Zd.enc p0),(16,pI (p0.length:Int)),(17,pI 0)] (by kernel_rfl) (aG (bO 138 9 (af h fun q11 hq11 h=>?_))))))))
 refine av (Y:=(Option Addr×Nat)×((List Zi))) (fun ((a7,c8),l9)=>[(7,pO a7 l9.length c8)]) (fun ((a7,c8),l9)=>[PRes.row a7 l9.length c8 138 9 (List.map Zi.enc l9)]) (fun ((a7,c8),l9)=>q11=l9) ?_ ?_
 ·refine aA ?_
  refine aC (Y:=Option Addr×Nat) (S:=(List Zi)×Int) _ hq11 (fun (a3,c4) (l2,v5)=>[(0,pL Zd.enc p0),(1,pL Zg.enc p1),(2,pS p2),(7,pO a3 l2.length c4),(15,pL Zd.enc p0),(16,pI (p0.length:Int)),(17,pI v5)]) (fun (a3,c4) (l2,v5)=>[PRes.row a3 l2.length c4 138 9 (List.map Zi.enc l2)]) (none,0) (uW rfl) dl ?_
  rintro ⟨a3,c4⟩ ⟨l2,v5⟩ o τ hb10;(try dsimp only at hb10);dsimp only [aw]
  refine ae (ak [(18,pB (decide (v5<(p0.length:Int))))] (by kernel_rfl) (br (gM rfl hb10 (fun hc13 hb10=>?_) fun hc13 hb10=>?_)))
  ·refine ai ?_
   refine br (ff (af hb10 fun m14 hm14 hb10=>aa (aU 2 [] [19] [(20,.agg (aS m14))] (cn 0 Zd.enc hm14 bo) (by kernel_rfl) (aj rfl (aQ (cs:=[pI 0,pS ByteArray.empty,pS ByteArray.empty,pI 0,pB false,pN,pN]) rfl rfl rfl rfl (fun b15=>aX rfl rfl (aH (vs:=(aS m14)) rfl rfl rfl rfl rfl dy px (au (br (ak [(21,pL Zg.enc p1),(22,pI (p1.length:Int)),(23,pI 0)] (by kernel_rfl) (fG hb10 fun q26 hq26 hb10=>?_)))))))))))
   refine nG (Y:=(Option Addr×Nat)×((List Zi))) (fun ((a22,c23),l24)=>[(0,pL Zd.enc p0),(1,pL Zg.enc p1),(2,pS p2),(7,pO a22 l24.length c23),(15,pL Zd.enc p0),(16,pI (p0.length:Int)),(17,pI v5)]) (fun ((a22,c23),l24)=>[PRes.row a22 l24.length c23 138 9 (List.map Zi.enc l24)]) (fun ((a22,c23),l24)=>q26=l24) ?_ ?_
   ·refine aA ?_
    refine aC (Y:=Option Addr×Nat) (S:=(List Zi)×Int) _ hq26 (fun (a18,c19) (l17,v20)=>[(0,pL Zd.enc p0),(1,pL Zg.enc p1),(2,pS p2),(7,pO a18 l17.length c19),(9,pP b15 0),(15,pL Zd.enc p0),(16,pI (p0.length:Int)),(17,pI v5),(21,pL Zg.enc p1),(22,pI (p1.length:Int)),(23,pI v20)]) (fun (a18,c19) (l17,v20)=>[PRes.b b15 76 (aS m14),PRes.row a18 l17.length c19 138 9 (List.map Zi.enc l17)]) (a3,c4) (eU rfl (eU rfl (uX rfl))) pu ?_
    rintro ⟨a18,c19⟩ ⟨l17,v20⟩ o τ hb25;(try dsimp only at hb25);dsimp only [aw]
    refine ae (ak [(24,pB (decide (v20<(p1.length:Int))))] (by kernel_rfl) (br (gM rfl hb25 (fun hc27 hb25=>?_) fun hc27 hb25=>?_)))
    ·refine ai ?_
     refine cr hb25 fun q32 hq32 hb25=>?_
     refine av (Y:=(Option Addr×Nat)×((List Zi))) (fun ((a29,c30),l31)=>[(0,pL Zd.enc p0),(1,pL Zg.enc p1),(2,pS p2),(7,pO a29 l31.length c30),(9,pP b15 0),(15,pL Zd.enc p0),(16,pI (p0.length:Int)),(17,pI v5),(21,pL Zg.enc p1),(22,pI (p1.length:Int)),(23,pI v20)]) (fun ((a29,c30),l31)=>[PRes.b b15 76 (aS m14),PRes.row a29 l31.length c30 138 9 (List.map Zi.enc l31)]) (fun ((a29,c30),l31)=>q32=l31) ?_ ?_
     ·skip
      refine ff (af hq32 fun m33 hm33 hq32=>aa (aU 2 [] [25] [(26,.agg (aL m33))] (cn 0 Zg.enc hm33 bo) (by kernel_rfl) (aj rfl (aQ (cs:=[pI 0,pI 0,pN,pN]) rfl rfl rfl rfl (fun b34=>aX rfl rfl (aH (vs:=(aL m33)) rfl rfl rfl rfl rfl dy vV (au (br (aa (bI 5 [1,0] [27,28,29,30] [(31,.agg [pI m14.ID,pI m33.ID])] (by kernel_rfl) (aj rfl (aQ (cs:=[pI 0,pI 0]) rfl rfl rfl rfl (fun b35=>aX rfl rfl (aH (vs:=[pI m14.ID,pI m33.ID]) rfl rfl rfl rfl rfl dy uw (au (cr hq32 fun x36 hx36 hq32=>aa (aU 7 [1,2] [33,34,35,36,32] [(37,.agg (aK x36.1)),(38,pB x36.2)] (bA 3 (gG hx36) bo) (by kernel_rfl) (aj rfl (aQ (cs:=[pI 0,pI 0,pN,pI 0,pI 0,pS ByteArray.empty,pN]) rfl rfl rfl rfl (fun b37=>aX rfl rfl (aH (vs:=(aK x36.1)) rfl rfl rfl rfl rfl dy px (aP [(14,pB x36.2)] (by kernel_rfl) (cr hq32 fun x38 hx38 hq32=>an [1] (rg 39 7) [(46,pB (x36.2&&x38))] (dR 6 (fun hc=>fj (dj hx38 hc)) bo) (by kernel_rfl) (bK rfl hq32 (fun hc39 hq32=>?_) fun hc39 hq32=>?_))))))))))))))))))))))))
      ·refine aa ?_
       refine bI 4 [1,0] [48,49] [(47,pO a18 l17.length c19),(50,.agg [pI m14.ID,pI m33.ID,pI x36.1.Kind,pI x36.1.Digits,pL eS x36.1.Except,pI x36.1.Tolerance,pI x36.1.Limit,pS x36.1.Name,pL Ze.enc x36.1.Args])] (by kernel_rfl) (aj rfl (bR rfl rfl rfl rfl rfl (ko rfl kO) rfl rfl rfl rfl (fun b40=>af hq32 fun l42 hl42 hq32=>?_)))
       refine aj rfl (cQ (enc:=Zi.enc) rfl rfl rfl rfl rfl rfl rfl rfl rfl fT (by exact az (az (az (az (az aV))))) hl42 (fun a43 c44=>?_))
       refine aP [(7,pO a43 l42.length c44)] (by kernel_rfl) (aB ?_)
       obtain rfl:=osi hq32
       exact aD ((a43,c44),l42) (eU rfl (eU rfl (uX rfl))) (bu (az (az (az (az (az aV))))) dl) rfl
      refine ai ?_
      refine aB ?_
      obtain rfl:=osi hq32
      exact aD ((a18,c19),l17) (eU rfl (eU rfl (uX rfl))) (bu (az (az (az aV))) (bu (az (az (az aV))) bz)) rfl
     rintro ⟨⟨a29,c30⟩,l31⟩ τ hz;(try dsimp only at hz);subst q32;(try dsimp only at hb25);dsimp only [aw]
     refine ah [53] [(23,pI (IntKind.i64.wrap (v20+1)))] (by kernel_rfl) ?_
     exact aT hb25 (a29,c30) (eU rfl (eU rfl (uX rfl))) pu
    refine aM ?_
    refine aq (al hb25 (fun ht=>ap rfl ?_))
    exact sA ((a18,c19),l17) (uW rfl) (bu (az aV) bz) ht.symm
   rintro ⟨⟨a22,c23⟩,l24⟩ τ ρ1 hsub46 hz;(try dsimp only at hz hsub46);subst q26;(try dsimp only at hb10);dsimp only [aw]
   refine dY (mZ hsub46 (ah [54] [(17,pI (IntKind.i64.wrap (v5+1)))] (by kernel_rfl) ?_))
   exact aT hb10 (a22,c23) (uW rfl) dl
  refine aM ?_
  refine aq (al hb10 (fun ht=>ap rfl ?_))
  exact aD ((a3,c4),l2) (uu rfl) dl ht.symm
 rintro ⟨⟨a7,c8⟩,l9⟩ τ hz;(try dsimp only at hz);subst q11;(try dsimp only at h);dsimp only [aw]
 refine ae (ah [55] [(6,pO a7 l9.length c8)] (by kernel_rfl) (aG ?_))
 refine dO (enc:=Zi.enc) (xs:=l9) 6 rfl (by exact aV) ?_
 refine bx ?_
 exact zz r h rfl
def j5 (p0:(List Zd)) (p1:(List Zg)) (p2:ByteArray):Option ((List Zb)×Int):=(fb p0).bind fun x4=>cond (x4 != 0) (some ([],x4)) ((fa p1).bind fun x6=>cond (x6 != 0) (some ([],x6)) ((bX p2).bind fun x8=>cond (!x8) (some ([],(1:Int))) ((j0 p0 p1 p2).bind fun x12=>(bf (S:=(List Zi)×(List Zb)×(List Za)) (T:=(Unit)⊕(_)) (fun (l13,l15,l19)=>(bf (S:=(List Zi)×Int×(List Zb)×(List Za)) (T:=((List Zi)×(List Zb)×(List Za))) (fun (l27,v30,l32,l36)=>cond (decide (v30<(l13.length:Int))) (((idx l13 v30).bind fun m68=>(iw m68 p0 p1 p2 l36 l32).bind fun x70=>cond (!x70.1) ((app 112 l27 [m68]).bind fun l80=>some (l80,x70.2.2,x70.2.1)) (some (l27,x70.2.2,x70.2.1))).bind fun (l58,l62,l66)=>some (.inl (l58,(IntKind.i64.wrap (v30+1)),l62,l66))) (some (.inr (l27,l32,l36)))) FUEL (([]:List Zi),0,l15,l19)).bind fun (l42,l46,l50)=>cond (((l46.length:Nat):Int) == ((l15.length:Nat):Int)) (some (.inr (.inr (l46,(0:Int))))) ((sub l46 ((l15.length:Nat):Int) (l46.length:Int)).bind fun l85=>(bf (S:=Int×(List Za)) (T:=((List Za))) (fun (v86,l88)=>cond (decide (v86<((l46.length - ((l15.length:Nat):Int).toNat:Nat):Int))) ((nO v86).bind fun u100=>(idx l46 (((l15.length:Nat):Int)+v86)).bind fun m101=>(app 16 l88 [m101.Claim]).bind fun l105=>some (.inl ((IntKind.i64.wrap (v86+1)),l105))) (some (.inr l88))) FUEL (0,l50)).bind fun l96=>some (.inl (l42,l46,l96)))) FUEL (x12,([]:List Zb),([]:List Za))).bind fun q=>match q with | .inl _=>none | .inr e=>some e)))
theorem mV {p0:(List Zd)} {p1:(List Zg)} {p2:ByteArray} {r:((List Zb)×Int)}  (h:j5 p0 p1 p2=some r):PF 30 [pL Zd.enc p0,pL Zg.enc p1,pS p2] (.tup [pL Zb.enc r.1,pI r.2]):=by
 unfold j5 at h
 refine aY ?_
 refine dw Tryz.func30 rfl Tryz.ntmps30 Tryz.results30 rfl (aa (aj rfl (bj (cs:=[pL Zd.enc p0]) rfl rfl (fun b1=>aj rfl (bj (cs:=[pL Zg.enc p1]) rfl rfl (fun b2=>aj rfl (bj (cs:=[pS p2]) rfl rfl (fun b3=>aZ [6,7] (by kernel_rfl) (cg (af h fun x4 hx4 h=>an [2] [20,21] [(8,pI x4)] (bA 1 (jY hx4) bo) (by kernel_rfl) (br (ah [22] [(23,pB (x4 != 0))] (by kernel_rfl) (bK rfl h (fun hc5 h=>?_) fun hc5 h=>?_)))))))))))))
 ·refine ae ?_
  refine ah [24] [(6,pN),(7,pI x4)] (by kernel_rfl) (aG (fM 6 rfl (bx (am ?_))))
  obtain rfl:=osi h
  exact aO (cC (aN rfl) (aN rfl)) bz ⟨rfl,rfl⟩
 refine ai ?_
 refine cg (af h fun x6 hx6 h=>an [1] [25,26] [(9,pI x6)] (bA 1 (jX hx6) bo) (by kernel_rfl) (br (ah [27] [(28,pB (x6 != 0))] (by kernel_rfl) (bK rfl h (fun hc7 h=>?_) fun hc7 h=>?_))))
 ·refine ae ?_
  refine ah [29] [(6,pN),(7,pI x6)] (by kernel_rfl) (aG (fM 6 rfl (bx (am ?_))))
  obtain rfl:=osi h
  exact aO (cC (aN rfl) (aN rfl)) bz ⟨rfl,rfl⟩
 refine ai ?_
 refine cg (af h fun x8 hx8 h=>an [0] [30,31] [(32,pB (!x8))] (bA 1 (da hx8) bo) (by kernel_rfl) (bK rfl h (fun hc9 h=>?_) fun hc9 h=>?_))
 ·refine ae ?_
  refine ak [(6,pN),(7,pI 1)] (by kernel_rfl) (aG (fM 6 rfl (bx (am ?_))))
  obtain rfl:=osi h
  exact aO (cC (aN rfl) (aN rfl)) bz ⟨rfl,rfl⟩
 refine ai ?_
 refine br (aa (aj rfl (aQ (cs:=[pN]) rfl rfl rfl rfl (fun b10=>au (br (aa (aj rfl (aQ (cs:=[pN]) rfl rfl rfl rfl (fun b11=>au (br (aa ?_)))))))))))
 refine jG 3 rfl (by exact az (az (az (az aV)))) ?_
 refine jG 4 rfl (by exact az (az (az (az aV)))) ?_
 refine jG 5 rfl (by exact az (az (az (az aV)))) ?_
 refine ji [33] [(12,.fn 77 [.ref [pL Zd.enc p0] 0,.ref [pL Zg.enc p1] 0,.ref [pS p2] 0,pP b11 0,pP b10 0])] (by kernel_rfl) (cr h fun x12 hx12 h=>an [] [34,35,36,37] [(13,pL Zi.enc x12)] (bA 3 (mU hx12) bo) (by kernel_rfl) (aG (bO 61 4 (bO 28 2 (af h fun q23 hq23 h=>aA ?_)))))
 refine aC (Y:=Option Addr×Nat×Option Addr×Nat) (S:=(List Zi)×(List Zb)×(List Za)) _ hq23 (fun (a16,c17,a20,c21) (l13,l15,l19)=>[(10,pP b10 0),(11,pP b11 0),(12,.fn 77 [.ref [pL Zd.enc p0] 0,.ref [pL Zg.enc p1] 0,.ref [pS p2] 0,pP b11 0,pP b10 0]),(13,pL Zi.enc l13)]) (fun (a16,c17,a20,c21) (l13,l15,l19)=>[PRes.b b10 45 [pO a16 l15.length c17],PRes.b b11 31 [pO a20 l19.length c21],PRes.row a16 l15.length c17 61 4 (List.map Zb.enc l15),PRes.row a20 l19.length c21 28 2 (List.map Za.enc l19)]) (none,0,none,0) (gI rfl) (bu (az (az (az (az (az (az aV)))))) (bu (az (az (az (az (az aV))))) (bu (az aV) dl))) ?_
 rintro ⟨a16,c17,a20,c21⟩ ⟨l13,l15,l19⟩ o τ hb22;(try dsimp only at hb22);dsimp only [aw]
 refine ff (ak [(14,pN)] (by kernel_rfl) (br (aW [0] [38,39] [(15,pI ((l15.length:Nat):Int))] (by kernel_rfl) (cg (ak [(40,pL Zi.enc l13),(41,pI (l13.length:Int)),(42,pI 0)] (by kernel_rfl) (aG (bO 138 9 (af hb22 fun q52 hq52 hb22=>?_))))))))
 refine av (Y:=(Option Addr×Nat×Option Addr×Nat×Option Addr×Nat)×((List Zi)×(List Zb)×(List Za))) (fun ((a40,c41,a44,c45,a48,c49),(l42,l46,l50))=>[(10,pP b10 0),(11,pP b11 0),(12,.fn 77 [.ref [pL Zd.enc p0] 0,.ref [pL Zg.enc p1] 0,.ref [pS p2] 0,pP b11 0,pP b10 0]),(14,pO a40 l42.length c41),(15,pI ((l15.length:Nat):Int))]) (fun ((a40,c41,a44,c45,a48,c49),(l42,l46,l50))=>[PRes.b b10 45 [pO a44 l46.length c45],PRes.b b11 31 [pO a48 l50.length c49],PRes.row a40 l42.length c41 138 9 (List.map Zi.enc l42),PRes.row a44 l46.length c45 61 4 (List.map Zb.enc l46),PRes.row a48 l50.length c49 28 2 (List.map Za.enc l50)]) (fun ((a40,c41,a44,c45,a48,c49),(l42,l46,l50))=>q52=(l42,l46,l50)) ?_ ?_
 ·refine aA ?_
  refine aC (Y:=Option Addr×Nat×Option Addr×Nat×Option Addr×Nat) (S:=(List Zi)×Int×(List Zb)×(List Za)) _ hq52 (fun (a28,c29,a33,c34,a37,c38) (l27,v30,l32,l36)=>[(10,pP b10 0),(11,pP b11 0),(12,.fn 77 [.ref [pL Zd.enc p0] 0,.ref [pL Zg.enc p1] 0,.ref [pS p2] 0,pP b11 0,pP b10 0]),(14,pO a28 l27.length c29),(15,pI ((l15.length:Nat):Int)),(40,pL Zi.enc l13),(41,pI (l13.length:Int)),(42,pI v30)]) (fun (a28,c29,a33,c34,a37,c38) (l27,v30,l32,l36)=>[PRes.b b10 45 [pO a33 l32.length c34],PRes.b b11 31 [pO a37 l36.length c38],PRes.row a28 l27.length c29 138 9 (List.map Zi.enc l27),PRes.row a33 l32.length c34 61 4 (List.map Zb.enc l32),PRes.row a37 l36.length c38 28 2 (List.map Za.enc l36)]) (none,0,a16,c17,a20,c21) (oN rfl) (bu (az aV) (bu (az aV) zs3)) ?_
  rintro ⟨a28,c29,a33,c34,a37,c38⟩ ⟨l27,v30,l32,l36⟩ o τ hb51;(try dsimp only at hb51);dsimp only [aw]
  refine ae (ak [(43,pB (decide (v30<(l13.length:Int))))] (by kernel_rfl) (br (gM rfl hb51 (fun hc54 hb51=>?_) fun hc54 hb51=>?_)))
  ·refine ai ?_
   refine cr hb51 fun q67 hq67 hb51=>?_
   refine av (Y:=(Option Addr×Nat×Option Addr×Nat×Option Addr×Nat)×((List Zi)×(List Zb)×(List Za))) (fun ((a56,c57,a60,c61,a64,c65),(l58,l62,l66))=>[(10,pP b10 0),(11,pP b11 0),(12,.fn 77 [.ref [pL Zd.enc p0] 0,.ref [pL Zg.enc p1] 0,.ref [pS p2] 0,pP b11 0,pP b10 0]),(14,pO a56 l58.length c57),(15,pI ((l15.length:Nat):Int)),(40,pL Zi.enc l13),(41,pI (l13.length:Int)),(42,pI v30)]) (fun ((a56,c57,a60,c61,a64,c65),(l58,l62,l66))=>[PRes.b b10 45 [pO a60 l62.length c61],PRes.b b11 31 [pO a64 l66.length c65],PRes.row a56 l58.length c57 138 9 (List.map Zi.enc l58),PRes.row a60 l62.length c61 61 4 (List.map Zb.enc l62),PRes.row a64 l66.length c65 28 2 (List.map Za.enc l66)]) (fun ((a56,c57,a60,c61,a64,c65),(l58,l62,l66))=>q67=(l58,l62,l66)) ?_ ?_
   ·skip
    refine ff (af hq67 fun m68 hm68 hq67=>aa (aU 2 [] [44] [(45,.agg (dS m68))] (cn 0 Zi.enc hm68 bo) (by kernel_rfl) (aj rfl (aQ (cs:=[pI 0,pI 0,pI 0,pI 0,pN,pI 0,pI 0,pS ByteArray.empty,pN]) rfl rfl rfl rfl (fun b69=>aX rfl rfl (aH (vs:=(dS m68)) rfl rfl rfl rfl rfl dy zl9 (au (cr hq67 fun x70 hx70 hq67=>aa (gz 2 [0] [(46,.fn 77 [.ref [pL Zd.enc p0] 0,.ref [pL Zg.enc p1] 0,.ref [pS p2] 0,pP b11 0,pP b10 0]),(47,.agg (dS m68))] (by kernel_rfl) ?_)))))))))
    refine aj rfl (uI rfl rfl rfl (ρ1:=[_,_,_,_]) (bG (by exact az (az aV)) (bG (by exact az (az (az (az aV)))) (bG (by exact az aV) (bG (by exact az (az aV)) (List.Perm.refl _))))) (lM hx70) ?_);rintro _ _ ⟨rfl,a71,c72,a73,c74,rfl⟩
    refine aP [(49,pB (!x70.1))] (by kernel_rfl) (bK rfl hq67 (fun hc77 hq67=>?_) fun hc77 hq67=>?_)
    ·refine aa ?_
     refine gz 2 [4] [(50,pO a28 l27.length c29),(51,.agg (dS m68))] (by kernel_rfl) (aj rfl (bR rfl rfl rfl rfl rfl (ko rfl kO) rfl rfl rfl rfl (fun b78=>af hq67 fun l80 hl80 hq67=>?_)))
     refine aj rfl (cQ (enc:=Zi.enc) rfl rfl rfl rfl rfl rfl rfl rfl rfl fT (by exact az (az (az (az (az (az aV)))))) hl80 (fun a81 c82=>?_))
     refine aP [(14,pO a81 l80.length c82)] (by kernel_rfl) (aB ?_)
     obtain rfl:=osi hq67
     exact aD ((a81,c82,a73,c74,a71,c72),(l80,x70.2.2,x70.2.1)) (oN rfl) (bu (az (az (az (az aV)))) (bu (az (az aV)) (bu aV (bu (az (az aV)) (bu (az aV) bz))))) rfl
    refine ai ?_
    refine aB ?_
    obtain rfl:=osi hq67
    exact aD ((a28,c29,a73,c74,a71,c72),(l27,x70.2.2,x70.2.1)) (oN rfl) (bu (az (az aV)) (bu aV (bu (az (az (az aV))) (bu (az aV) dl)))) rfl
   rintro ⟨⟨a56,c57,a60,c61,a64,c65⟩,⟨l58,l62,l66⟩⟩ τ hz;(try dsimp only at hz);subst q67;(try dsimp only at hb51);dsimp only [aw]
   refine ah [54] [(42,pI (IntKind.i64.wrap (v30+1)))] (by kernel_rfl) ?_
   exact aT hb51 (a56,c57,a60,c61,a64,c65) (oN rfl) zs5
  refine aM ?_
  refine aq (al hb51 (fun ht=>ap rfl ?_))
  exact aD ((a28,c29,a33,c34,a37,c38),(l27,l32,l36)) (lQ rfl) zs5 ht.symm
 rintro ⟨⟨a40,c41,a44,c45,a48,c49⟩,⟨l42,l46,l50⟩⟩ τ hz;(try dsimp only at hz);subst q52;(try dsimp only at hb22);dsimp only [aw]
 refine ae (ae (aW [0] [55,56,57] [(58,pB (((l46.length:Nat):Int) == ((l15.length:Nat):Int)))] (by kernel_rfl) (bK rfl hb22 (fun hc84 hb22=>?_) fun hc84 hb22=>?_)))
 ·refine ae ?_
  refine aW [0] [59] [(6,pO a44 l46.length c45),(7,pI 0)] (by kernel_rfl) (aG ?_)
  refine dO (enc:=Zb.enc) (xs:=l46) 6 rfl (by exact az (az (az aV))) ?_
  refine bx (am (ar ?_))
  refine aF hb22 (fun ht=>?_);subst ht
  refine ar ?_
  obtain rfl:=osi h
  exact aO (cC (aN rfl) (aN rfl)) bz ⟨rfl,rfl⟩
 refine ai ?_
 refine cg (af hb22 fun l85 hl85 hb22=>aa (gz 2 [0] [(60,pO a44 l46.length c45),(61,pI ((l15.length:Nat):Int))] (by kernel_rfl) (bh rfl rfl rfl (ii (enc:=Zb.enc) (xs:=l46) rfl rfl rfl rfl rfl zm3 hl85) (aP [(63,pI ((l46.length - ((l15.length:Nat):Int).toNat:Nat):Int)),(64,pI 0)] (by kernel_rfl) (fG hb22 fun q98 hq98 hb22=>?_)))))
 refine av (Y:=(Option Addr×Nat)×((List Za))) (fun ((a94,c95),l96)=>[(10,pP b10 0),(11,pP b11 0),(12,.fn 77 [.ref [pL Zd.enc p0] 0,.ref [pL Zg.enc p1] 0,.ref [pS p2] 0,pP b11 0,pP b10 0]),(14,pO a40 l42.length c41)]) (fun ((a94,c95),l96)=>[PRes.b b10 45 [pO a44 l46.length c45],PRes.b b11 31 [pO a94 l96.length c95],PRes.row a40 l42.length c41 138 9 (List.map Zi.enc l42),PRes.row a44 l46.length c45 61 4 (List.map Zb.enc l46),PRes.row a94 l96.length c95 28 2 (List.map Za.enc l96)]) (fun ((a94,c95),l96)=>q98=l96) ?_ ?_
 ·refine aA ?_
  refine aC (Y:=Option Addr×Nat) (S:=Int×(List Za)) _ hq98 (fun (a89,c90) (v86,l88)=>[(10,pP b10 0),(11,pP b11 0),(12,.fn 77 [.ref [pL Zd.enc p0] 0,.ref [pL Zg.enc p1] 0,.ref [pS p2] 0,pP b11 0,pP b10 0]),(14,pO a40 l42.length c41),(62,pQ a44 l46.length c45 ((l15.length:Nat):Int).toNat 4),(63,pI ((l46.length - ((l15.length:Nat):Int).toNat:Nat):Int)),(64,pI v86)]) (fun (a89,c90) (v86,l88)=>[PRes.b b10 45 [pO a44 l46.length c45],PRes.b b11 31 [pO a89 l88.length c90],PRes.row a40 l42.length c41 138 9 (List.map Zi.enc l42),PRes.row a44 l46.length c45 61 4 (List.map Zb.enc l46),PRes.row a89 l88.length c90 28 2 (List.map Za.enc l88)]) (a48,c49) (uW rfl) zs5 ?_
  rintro ⟨a89,c90⟩ ⟨v86,l88⟩ o τ hb97;(try dsimp only at hb97);dsimp only [aw]
  refine ae (ak [(65,pB (decide (v86<((l46.length - ((l15.length:Nat):Int).toNat:Nat):Int))))] (by kernel_rfl) (br (gM rfl hb97 (fun hc99 hb97=>?_) fun hc99 hb97=>?_)))
  ·refine ai ?_
   refine br (ff (af hb97 fun u100 hu100 hb97=>af hb97 fun m101 hm101 hb97=>aa (bh rfl rfl rfl (fu (enc:=Zb.enc) (xs:=l46) (i:=((l15.length:Nat):Int)) rfl rfl rfl rfl rfl (dP hl85).1.1 (gx hu100) zm3 hm101) (bh rfl rfl rfl (bW (sz:=4) (p:=.agg (bP m101)) (enc:=Zb.enc) (xs:=l46) (a:=a44) (((l15.length:Nat):Int)+v86) 0 m101 rfl (.p rfl) rfl zm3 (fun _=>hm101) rfl) (aj rfl (aQ (cs:=[pI 0,pI 0,pN,pN]) rfl rfl rfl rfl (fun b102=>aX rfl rfl (aH (vs:=(bP m101)) rfl rfl rfl rfl rfl dy vV (au (aG (aa (bI 3 [2,0] [69] [(68,pO a89 l88.length c90),(70,.agg [pI m101.Claim.Product,pI m101.Claim.Agreement])] (by kernel_rfl) (aj rfl (bR rfl rfl rfl rfl rfl (ko rfl kO) rfl rfl rfl rfl (fun b103=>af hb97 fun l105 hl105 hb97=>?_)))))))))))))))
   refine aj rfl (cQ (enc:=Za.enc) rfl rfl rfl rfl rfl rfl rfl rfl rfl fT (by exact az (az (az (az (az (az aV)))))) hl105 (fun a106 c107=>?_))
   refine aX rfl rfl (aH (vs:=[pO a106 l105.length c107]) rfl rfl rfl rfl rfl (gu (gu (gu (gu dy)))) uv (au (dY (ah [73] [(64,pI (IntKind.i64.wrap (v86+1)))] (by kernel_rfl) ?_))))
   exact aT hb97 (a106,c107) (uW rfl) (bu (az (az (az aV))) (bu (az (az (az aV))) (bu (az (az (az aV))) (bu (az (az (az aV))) dl))))
  refine aM ?_
  refine aq (al hb97 (fun ht=>ap rfl ?_))
  exact aD ((a89,c90),l88) (gI rfl) zs5 ht.symm
 rintro ⟨⟨a94,c95⟩,l96⟩ τ hz;(try dsimp only at hz);subst q98;(try dsimp only at hb22);dsimp only [aw]
 refine ah [74] [(13,pO a40 l42.length c41)] (by kernel_rfl) (aB ?_)
 refine rn (vR (enc:=Zi.enc) (xs:=l42) 13 rfl (by exact az (az aV))) ?_
 exact aT hb22 (a44,c45,a94,c95) (gI rfl) (bu (az aV) (bu (az aV) (bu (az aV) (bu (az aV) bz))))
def iM  : Option Bool:=(j5 [(⟨1,(⟨#[57,52,48,49,48,49]⟩:ByteArray),(⟨#[65,65]⟩:ByteArray),10,false,[],[(⟨1,5⟩:Zh)]⟩:Zd),(⟨2,(⟨#[57,52,48,49,48,50]⟩:ByteArray),(⟨#[65,65]⟩:ByteArray),10,false,[],[(⟨1,5⟩:Zh)]⟩:Zd)] [(⟨7,1,[(⟨#[65,65]⟩:ByteArray),(⟨#[67,67]⟩:ByteArray)],[(⟨(⟨#[57,52]⟩:ByteArray),(⟨2,6,[],0,0,ByteArray.empty,[]⟩:Ze)⟩:Zj)]⟩:Zg)] (⟨#[67,67]⟩:ByteArray)).bind fun x14=>(gd ((x14.2 == 0)&&((x14.1.length:Int) == 1)) (jT x14.1 (⟨2,7⟩:Za))).bind fun x15=>(gd (((x14.2 == 0)&&((x14.1.length:Int) == 1))&&x15) (jT x14.1 (⟨1,7⟩:Za))).bind fun x16=>some ((((x14.2 == 0)&&((x14.1.length:Int) == 1))&&x15)&&(!x16))
theorem oD  {r:Bool}  (h:iM  = some r):PF 29 [] (pB r):=by
 unfold iM at h
 refine aY ?_
 refine dw Tryz.func29 rfl Tryz.ntmps29 Tryz.results29 rfl (aR [0] (by kernel_rfl) (br (aa (aI 1 [(6,.agg [pI 2,pI 6,pN,pI 0,pI 0,pS ByteArray.empty,pN])] (by kernel_rfl) (aj rfl (aQ (cs:=[pI 0,pI 0,pN,pI 0,pI 0,pS ByteArray.empty,pN]) rfl rfl rfl rfl (fun b1=>aX rfl rfl (aH (vs:=[pI 2,pI 6,pN,pI 0,pI 0,pS ByteArray.empty,pN]) rfl rfl rfl rfl rfl dy px (au (br (aa (aj rfl (bR rfl rfl rfl rfl rfl (ko rfl (ko rfl kO)) rfl rfl rfl rfl (fun b2=>rp (k:=2) (b:=b1) rfl (gu dy) (rp (k:=6) (b:=b1) rfl (gu dy) (bI 2 [1] [8] [(9,.agg [pS (⟨#[57,52]⟩:ByteArray),pI 2,pI 6,pL eS [],pI 0,pI 0,pS ByteArray.empty,pL Ze.enc []])] (by kernel_rfl) (aj rfl (bR rfl rfl rfl rfl rfl (ko rfl kO) rfl rfl rfl rfl (fun b4=>?_)))))))))))))))))))
 refine eo (enc:=eS) (xs:=[(⟨#[65,65]⟩:ByteArray),(⟨#[67,67]⟩:ByteArray)]) 7 rfl (by exact az aV) ?_
 refine eo (enc:=Zj.enc) (xs:=[(⟨(⟨#[57,52]⟩:ByteArray),(⟨2,6,[],0,0,ByteArray.empty,[]⟩:Ze)⟩:Zj)]) 10 rfl (by exact az aV) ?_
 refine aI 1 [(11,.agg [pI 7,pI 1,pL eS [(⟨#[65,65]⟩:ByteArray),(⟨#[67,67]⟩:ByteArray)],pL Zj.enc [(⟨(⟨#[57,52]⟩:ByteArray),(⟨2,6,[],0,0,ByteArray.empty,[]⟩:Ze)⟩:Zj)]])] (by kernel_rfl) (aj rfl (bR rfl rfl rfl rfl rfl (ko rfl kO) rfl rfl rfl rfl (fun b6=>aP [(2,pO (some ⟨b6,0,none⟩) 1 1)] (by kernel_rfl) (br (aa (aI 1 [(13,.agg [pI 1,pI 5])] (by kernel_rfl) (aj rfl (bR rfl rfl rfl rfl rfl (ko rfl kO) rfl rfl rfl rfl (fun b8=>?_)))))))))
 refine eo (enc:=Zh.enc) (xs:=[(⟨1,5⟩:Zh)]) 14 rfl (by exact aV) ?_
 refine aI 2 [(15,.agg [pI 1,pS (⟨#[57,52,48,49,48,49]⟩:ByteArray),pS (⟨#[65,65]⟩:ByteArray),pI 10,pB false,pN,pL Zh.enc [(⟨1,5⟩:Zh)]]),(16,.agg [pI 1,pI 5])] (by kernel_rfl) (aj rfl (bR rfl rfl rfl rfl rfl (ko rfl kO) rfl rfl rfl rfl (fun b10=>?_)))
 refine eo (enc:=Zh.enc) (xs:=[(⟨1,5⟩:Zh)]) 17 rfl (by exact aV) ?_
 refine aI 1 [(18,.agg [pI 2,pS (⟨#[57,52,48,49,48,50]⟩:ByteArray),pS (⟨#[65,65]⟩:ByteArray),pI 10,pB false,pN,pL Zh.enc [(⟨1,5⟩:Zh)]])] (by kernel_rfl) (nS 15 5 rfl rfl (nS 18 5 rfl rfl (aj rfl (bR rfl rfl rfl rfl rfl (ko rfl (ko rfl kO)) rfl rfl rfl rfl (fun b12=>aP [(3,pO (some ⟨b12,0,none⟩) 2 2)] (by kernel_rfl) (br (aa (aI 2 [(21,pO (some ⟨b12,0,none⟩) 2 2),(22,pO (some ⟨b6,0,none⟩) 1 1)] (by kernel_rfl) ?_))))))))
 refine eo (enc:=Zd.enc) (xs:=[(⟨1,(⟨#[57,52,48,49,48,49]⟩:ByteArray),(⟨#[65,65]⟩:ByteArray),10,false,[],[(⟨1,5⟩:Zh)]⟩:Zd),(⟨2,(⟨#[57,52,48,49,48,50]⟩:ByteArray),(⟨#[65,65]⟩:ByteArray),10,false,[],[(⟨1,5⟩:Zh)]⟩:Zd)]) 21 rfl (by exact aV) ?_
 refine eo (enc:=Zg.enc) (xs:=[(⟨7,1,[(⟨#[65,65]⟩:ByteArray),(⟨#[67,67]⟩:ByteArray)],[(⟨(⟨#[57,52]⟩:ByteArray),(⟨2,6,[],0,0,ByteArray.empty,[]⟩:Ze)⟩:Zj)]⟩:Zg)]) 22 rfl (by exact az (az (az aV))) ?_
 refine af h fun x14 hx14 h=>eB [] [23,20,24,25] [(4,pL Zb.enc x14.1),(5,pI x14.2)] (bA 0 (mV hx14) bo) (by kernel_rfl) (cr h fun x15 hx15 h=>af h fun x16 hx16 h=>an [] (rg 26 18) [(0,pB ((((x14.2 == 0)&&((x14.1.length:Int) == 1))&&x15)&&(!x16)))] (dR 10 (fun hc=>kX (dj hx15 hc)) (dR 15 (fun hc=>kX (dj hx16 hc)) bo)) (by kernel_rfl) (df ?_))
 exact zz r h rfl
def cR (p0:(List Zb)) (p1:Za) (p2:Int):Option Bool:=Option.bind (cond (decide (30<(p0.length:Int))) ((sub p0 0 30).bind fun l6=>some (l6,p2)) (some (p0,p2))) (fun (l2,v3)=>Option.bind (cond ((decide (0<(l2.length:Int)))&&((fP .i64 v3 1) == 1)) ((fC (cS .i64 v3 1) (l2.length:Int)).bind fun x11=>(idx l2 x11).bind fun m12=>some (m12.Claim.Product,m12.Claim.Agreement)) (some (p1.Product,p1.Agreement))) (fun (v7,v8)=>(gE l2 (⟨v7,v8⟩:Za)).bind fun x13=>(iu l2 (⟨v7,v8⟩:Za)).bind fun x14=>(gd (x13.2 == x14.2) (gn x13.1 x14.1)).bind fun x15=>(gd ((x13.2 == x14.2)&&x15) (iM)).bind fun x16=>some (((x13.2 == x14.2)&&x15)&&x16)))
theorem j6 {p0:(List Zb)} {p1:Za} {p2:Int} {r:Bool}  (h:cR p0 p1 p2=some r):PF 9 [pL Zb.enc p0,.agg [pI p1.Product,pI p1.Agreement],pI p2] (pB r):=by
 unfold cR at h
 refine aY ?_
 refine dw Tryz.func9 rfl Tryz.ntmps9 Tryz.results9 rfl (aa (aj rfl (bj (cs:=[pI p1.Product,pI p1.Agreement]) rfl rfl (fun b1=>aZ [6] (by kernel_rfl) (cg (ah [12,13] [(14,pB (decide (30<(p0.length:Int))))] (by kernel_rfl) (fG h fun q4 hq4 h=>?_)))))))
 refine av (Y:=Unit×((List Zb)×Int)) (fun (_,(l2,v3))=>[(0,pL Zb.enc l2),(2,pI v3),(4,pP b1 0)]) (fun (_,(l2,v3))=>[PRes.b b1 28 [pI p1.Product,pI p1.Agreement]]) (fun (_,(l2,v3))=>q4=(l2,v3)) ?_ ?_
 ·skip
  refine gM rfl hq4 (fun hc5 hq4=>?_) fun hc5 hq4=>?_
  ·refine af hq4 ?_;clear hq4;intro l6 hl6 hq4
   refine an [] [15,16] [(0,pL Zb.enc l6)] (fosl 1 Zb.enc 4 (fun _=>rfl) hl6 bo) (by kernel_rfl) ?_
   obtain rfl:=osi hq4
   exact aD ((),(l6,p2)) (oS rfl) dl rfl
  refine ai ?_
  obtain rfl:=osi hq4
  exact aD ((),(p0,p2)) (oS rfl) dl rfl
 rintro ⟨_,⟨l2,v3⟩⟩ τ hz;(try dsimp only at hz);subst q4;(try dsimp only at h);dsimp only [aw]
 refine ae (ae (ah [17,18] [(7,pI (l2.length:Int))] (by kernel_rfl) (br (ah (rg 19 6) [(25,pB ((decide (0<(l2.length:Int)))&&((fP .i64 v3 1) == 1)))] (by kernel_rfl) (fG h fun q9 hq9 h=>?_)))))
 refine av (Y:=Unit×(Int×Int)) (fun (_,(v7,v8))=>[(0,pL Zb.enc l2),(4,pP b1 0)]) (fun (_,(v7,v8))=>[PRes.b b1 28 [pI v7,pI v8]]) (fun (_,(v7,v8))=>q9=(v7,v8)) ?_ ?_
 ·skip
  refine gM rfl hq9 (fun hc10 hq9=>?_) fun hc10 hq9=>?_
  ·refine af hq9 ?_;clear hq9;intro x11 hx11 hq9
   refine af hq9 fun m12 hm12 hq9=>aa (aU 8 [] (rg 26 7) [(33,.agg [pI m12.Claim.Product,pI m12.Claim.Agreement])] (bA 4 (ol hx11) (cn 5 Zb.enc hm12 bo)) (by kernel_rfl) (aX rfl rfl (aH (vs:=[pI m12.Claim.Product,pI m12.Claim.Agreement]) rfl rfl rfl rfl rfl dy uw (au ?_))))
   obtain rfl:=osi hq9
   exact aD ((),(m12.Claim.Product,m12.Claim.Agreement)) (nT rfl) dl rfl
  refine ai ?_
  obtain rfl:=osi hq9
  exact aD ((),(p1.Product,p1.Agreement)) (nT rfl) dl rfl
 rintro ⟨_,⟨v7,v8⟩⟩ τ hz;(try dsimp only at hz);subst q9;(try dsimp only at h);dsimp only [aw]
 refine ae (af h fun x13 hx13 h=>an [0] [35,36,37,34,38,39] [(8,pL Zb.enc x13.1),(9,pI x13.2)] (bA 2 (ot hx13) bo) (by kernel_rfl) (cr h fun x14 hx14 h=>an [0] [41,42,43,40,44,45] [(10,pL Zb.enc x14.1),(11,pI x14.2)] (bA 2 (o4 hx14) bo) (by kernel_rfl) (cr h fun x15 hx15 h=>af h fun x16 hx16 h=>an [] (rg 46 11) [(6,pB (((x13.2 == x14.2)&&x15)&&x16))] (dR 6 (fun hc=>o3 (dj hx15 hc)) (dR 9 (fun hc=>oD (dj hx16 hc)) bo)) (by kernel_rfl) (df ?_))))
 exact zz r h rfl
end SX
namespace SX
open Go
theorem uK {S T:Type} {body:S→Option (S⊕T)} (P:S→Prop) (μ:S→Nat) (Q:T→Prop) (step:∀ s,P s→(∃ s',body s=some (.inl s')∧P s'∧μ s'<μ s)∨∃ t,body s=some (.inr t)∧Q t):∀ (N:Nat) (s:S),P s→μ s<N→∃ t,bf body N s=some t∧Q t:=by
 intro N
 induction N with
 | zero=>intro s _ h;exact absurd h (Nat.not_lt_zero _)
 | succ N ih =>
  intro s hp hm
  rw [jF]
  rcases step s hp with ⟨s',h1,h2,h3⟩ | ⟨t,h1,h2⟩
  ·rw [h1];exact ih s' h2 (by omega)
  rw [h1];exact ⟨t,rfl,h2⟩
def ctry (s:ByteArray):Bool:=match s.data.toList with | [a,b]=>decide (65≤(a.toNat:Int))&&decide ((a.toNat:Int)≤90)&&decide (65≤(b.toNat:Int))&&decide ((b.toNat:Int)≤90) | _=>false
def letter (c:UInt8):Bool:=decide (97≤c.toNat)&&decide (c.toNat≤122)
def wordB (s:ByteArray):Bool:=decide (1≤s.size)&&decide (s.size≤12)&&s.data.toList.all letter
def o7 (lt:ByteArray→ByteArray→Bool):List ByteArray→Bool
 | []=>true
 | [_]=>true
 | a::b::l=>lt a b&&o7 lt (b::l)
def wK (l:List ByteArray):Bool:=decide (l.length≤8)&&(l.all wordB&&o7 qN l)
def StrsOk (l:List ByteArray):Prop:=l.length≤140737488355328∧∀ s∈l,s.size≤140737488355328
mutual
def dep:Ze→Nat
 | ⟨_,_,_,_,_,_,l⟩=>1+wL l
def wL:List Ze→Nat
 | []=>0
 | a::l=>max (dep a) (wL l)
end
mutual
def cnt:Ze→Nat
 | ⟨_,_,_,_,_,_,l⟩=>1+qI l
def qI:List Ze→Nat
 | []=>0
 | a::l=>cnt a+qI l
end
mutual
theorem tJ:∀ r:Ze,dep r≤cnt r
 | ⟨_,_,_,_,_,_,l⟩=>by rw [dep,cnt];have:=pT l;omega
theorem pT:∀ l:List Ze,wL l≤qI l
 | []=>by rw [wL,qI];exact Nat.le_refl _
 | a::l=>by rw [wL,qI];have h1:=tJ a;have h2:=pT l;omega
end
inductive ROk:Ze→Prop
 | mk (r:Ze) (h1:StrsOk r.Except) (h2:r.Name.size≤140737488355328) (h3:r.Args.length≤140737488355328) (h4:∀ a∈r.Args,ROk a):ROk r
theorem ROk.len {r:Ze} (h:ROk r):r.Args.length≤140737488355328:=by cases h;assumption
def lev (s:ByteArray):Bool := !(iJ s == 0)
def codesB (l:List ByteArray):Bool:=decide (l.length≤6)&&(l.all lev&&o7 qN l)
def mil (n:Int):Bool:=decide (0≤n)&&decide (n≤1000000)
def plainB (r:Ze):Bool:=(r.Kind == 2||(r.Digits == 0&&r.Except.isEmpty&&r.Tolerance == 0))&&(r.Kind == 3||r.Limit == 0)&&(r.Kind == 4||decide (r.Name=⟨#[]⟩))&&(r.Kind == 5||r.Kind == 6||r.Args.isEmpty)
def leafB (r:Ze):Bool:=cond (r.Kind == 1) true (cond (r.Kind == 2) ((r.Digits == 2||r.Digits == 4||r.Digits == 6)&&codesB r.Except&&mil r.Tolerance) (cond (r.Kind == 3) (mil r.Limit) (cond (r.Kind == 4) (wordB r.Name) false)))
mutual
def kY:Ze→Bool
 | ⟨k,d,e,t,m,n,l⟩=>plainB ⟨k,d,e,t,m,n,l⟩&&cond (k == 5||k == 6) (decide (2≤l.length)&&decide (l.length≤6)&&ml k l) (leafB ⟨k,d,e,t,m,n,l⟩)
def ml (k:Int):List Ze→Bool
 | []=>true
 | a::l=>(!(a.Kind == k)&&kY a)&&ml k l
end
def pV (r:Ze):Int:=cond (decide (cnt r≤32)) (cond (kY r) 0 1) 8
theorem sW (r:Ze):pV r=0↔cnt r≤32∧kY r=true:=by
 unfold pV
 by_cases h:cnt r≤32
 ·rw [det h];cases kY r <;> simp [h]
 rw [i4 h];simp [h]
structure RFOk (x:Zj):Prop where
 pre:x.Prefix.size≤140737488355328
 rule:ROk x.Rule
 deep:dep x.Rule≤1000
structure AOk (a:Zg):Prop where
 par:StrsOk a.Parties
 len:a.Rules.length≤140737488355328
 rules:∀ x∈a.Rules,RFOk x
structure ASOk (l:List Zg):Prop where
 len:l.length≤140737488355328
 all:∀ a∈l,AOk a
def oE (l:List ByteArray):Bool:=l.all ctry&&o7 qN l
def wM (l:List Zj) (k:Nat) (x:Zj):Option Int:=cond (lev x.Prefix) (cond (decide (0<k) && !qN (l.getD (k - 1) x).Prefix x.Prefix) (some 9) (cond (pV x.Rule == 0) none (some (pV x.Rule)))) (some 1)
def rulesE (l:List Zj):Int:=(fc (wM l) l 0).getD 0
def gAgr (l:List Zg) (k:Nat) (a:Zg):Option Int :=
 cond (decide (a.ID<1)||decide (1000<a.ID)||decide (a.Kind<1)||decide (3<a.Kind)) (some 2) (cond (decide (0<k)&&decide (a.ID≤(l.getD (k - 1) a).ID)) (some 9) (cond (decide (12<a.Parties.length)||decide (12<a.Rules.length)) (some 8)
  (cond (oE a.Parties) (cond (rulesE a.Rules == 0) none (some (rulesE a.Rules))) (some 1))))
def agrE (l:List Zg):Int:=cond (decide (l.length≤8)) ((fc (gAgr l) l 0).getD 0) 8
def Y {α:Type} (x:Option α) (P:α→Prop):Prop:=∃ a,x=some a∧P a
section
variable {α β S T:Type} {x y:Option α} {P P':α→Prop} {Q:β→Prop} {f:α→Option β} {a:α} {c:Bool}
theorem Y.bind (h:Y x P) (k:∀ a,P a→Y (f a) Q):Y (x.bind f) Q:=by
 obtain ⟨a,h1,h2⟩:=h;rw [h1];exact k a h2
theorem Y.ret (h:P a):Y (some a) P:=⟨a,rfl,h⟩
theorem Y.mono (h:Y x P) (k:∀ a,P a→P' a):Y x P':=by obtain ⟨a,h1,h2⟩:=h;exact ⟨a,h1,k a h2⟩
theorem Y.cond (h:c=true→Y x P) (k:c=false→Y y P):Y (cond c x y) P:=by cases c;exact k rfl;exact h rfl
theorem Y.eq {r:α} (h:x=some r) (k:Y (f r) Q):Y (x.bind f) Q:=by rw [h];exact k
theorem Y.loop {body:S→Option (S⊕T)} {R:T→Prop} {s:S} (I:S→Prop) (μ:S→Nat) (h0:I s) (hm:μ s≤1267650600228229401496703205000) (step:∀ s,I s→Y (body s) (fun o=>match o with | .inl s'=>I s'∧μ s'<μ s | .inr t=>R t)):Y (bf body FUEL s) R:=by
 obtain ⟨t,h1,h2⟩:=uK (body:=body) I μ R (fun s hs=>by
  obtain ⟨o,k1,k2⟩:=step s hs
  cases o with
  | inl s'=>exact .inl ⟨s',k1,k2⟩
  | inr t=>exact .inr ⟨t,k1,k2⟩) FUEL s h0 (rQ hm)
 exact ⟨t,h1,h2⟩
theorem Y.idx {xs:List α} {i:Int} {n:Nat} (h:i=(n:Int)) (hn:n<xs.length) (k:Y (f xs[n]) Q):Y ((idx xs i).bind f) Q:=by subst h;rw [cy hn];exact k
end
theorem uM (a n:Int) (h1:1≤n) (h2:n≤4611686018427387904):∃ r,fC a n=some r∧0≤r∧r<n:=by
 have hl:=Int.tmod_lt_of_pos a (show 0<n by omega)
 have hl2:=Int.tmod_lt_of_pos (-a) (show 0<n by omega)
 rw [Int.neg_tmod] at hl2
 unfold fC nz lb
 rw [if_neg (by omega),i64s (by omega) (by omega)]
 exact ⟨_,rfl,Int.tmod_nonneg _ (by omega),Int.tmod_lt_of_pos _ (by omega)⟩
theorem wN (a n:Int) (h1:1≤n) (h2:n≤4611686018427387904):Y (fC a n) (fun r=>0≤r∧r<n):=uM a n h1 h2
structure Good (r:Ze) (m:Nat):Prop where
 ok:ROk r
 valid:kY r=true
 size:cnt r≤m
def bnd3:Nat→Nat
 | 0=>1
 | d+1=>1+3*bnd3 d
theorem ltS_tr (x y z:ByteArray) (h1:qN x y=true) (h2:qN y z=true):qN x z=true:=by
 rw [ow] at *;exact det (List.lt_trans (of_decide_eq_true h1) (of_decide_eq_true h2))
theorem lN:∀ l:List ByteArray,o7 qN l=true↔l.Pairwise (fun a b=>qN a b=true)
 | []=>by simp [o7]
 | [a]=>by simp [o7]
 | a::b::l=>by
  rw [o7,Bool.and_eq_true,lN (b::l)]
  constructor
  ·rintro ⟨h1,h2⟩
   refine List.pairwise_cons.2 ⟨fun c hc=>?_,h2⟩
   rcases List.mem_cons.1 hc with rfl | hc
   ·exact h1
   exact ltS_tr _ _ _ h1 ((List.pairwise_cons.1 h2).1 c hc)
  intro h;obtain ⟨h1,h2⟩:=List.pairwise_cons.1 h;exact ⟨h1 b (by simp),h2⟩
def C6:List ByteArray:=[(⟨#[65,65]⟩:ByteArray),(⟨#[66,66]⟩:ByteArray),(⟨#[67,67]⟩:ByteArray),(⟨#[68,68]⟩:ByteArray),(⟨#[69,69]⟩:ByteArray),(⟨#[70,70]⟩:ByteArray)]
def P5:List ByteArray:=[(⟨#[57,52]⟩:ByteArray),(⟨#[57,52,48,49]⟩:ByteArray),(⟨#[57,52,48,49,48,50]⟩:ByteArray),(⟨#[57,53]⟩:ByteArray),(⟨#[57,53,48,50]⟩:ByteArray)]
theorem C6_ok:C6.all ctry=true∧o7 qN C6=true∧(C6.all fun s=>decide (s.size≤100))=true:=⟨by kernel_rfl,by kernel_rfl,by kernel_rfl⟩
theorem P5_ok:P5.all lev=true∧o7 qN P5=true∧(P5.all fun s=>decide (s.size≤100))=true:=⟨by kernel_rfl,by kernel_rfl,by kernel_rfl⟩
structure MA (i:Nat) (a:Zg):Prop where
 id:a.ID=2+5*(i:Int)
 kind:1≤a.Kind∧a.Kind≤3
 par:a.Parties.Sublist C6
 pre:(a.Rules.map (·.Prefix)).Sublist P5
 good:∀ x∈a.Rules,Good x.Rule (bnd3 1)
 ne:a.Rules≠[]
structure MAs (l:List Zg):Prop where
 len:1≤l.length∧l.length≤4
 all:∀ (i:Nat) (a:Zg),l[i]?=some a→MA i a
theorem P5_len {a:Zg} (h:(a.Rules.map (·.Prefix)).Sublist P5):a.Rules.length≤5:=by have:=h.length_le;simpa [P5] using this
theorem MA.strs {i:Nat} {a:Zg} (h:MA i a):StrsOk a.Parties:=by
 refine ⟨?_,fun s hs=>?_⟩
 ·have:=h.par.length_le;have h6:C6.length=6:=rfl;omega
 have:=of_decide_eq_true (List.all_eq_true.1 C6_ok.2.2 s (h.par.subset hs));omega
theorem MA.aok {i:Nat} {a:Zg} (h:MA i a):AOk a:=by
 refine ⟨h.strs,by have:=P5_len h.pre;omega,fun x hx=>?_⟩
 have hp:=of_decide_eq_true (List.all_eq_true.1 P5_ok.2.2 x.Prefix (h.pre.subset (List.mem_map_of_mem hx)))
 have hg:=h.good x hx
 exact ⟨by omega,hg.ok,by have h1:=tJ x.Rule;have h2:=hg.size;simp only [bnd3] at h2;omega⟩
theorem MAs.ok {l:List Zg} (h:MAs l):ASOk l:=⟨by have:=h.len;omega,fun a ha=>by
 obtain ⟨i,hi,rfl⟩:=List.getElem_of_mem ha;exact (h.all i _ (List.getElem?_eq_getElem hi)).aok⟩
theorem MA.parties {i:Nat} {a:Zg} (h:MA i a):oE a.Parties=true:=by
 unfold oE
 rw [Bool.and_eq_true]
 refine ⟨List.all_eq_true.2 fun s hs=>List.all_eq_true.1 C6_ok.1 s (h.par.subset hs),?_⟩
 rw [lN];exact List.Pairwise.sublist h.par ((lN _).1 C6_ok.2.1)
theorem MA.rulesE {i:Nat} {a:Zg} (h:MA i a):rulesE a.Rules=0:=by
 have:fc (wM a.Rules) a.Rules 0=none:=by
  rw [jJ]
  intro k x hx
  obtain ⟨hk,rfl⟩:=List.getElem?_eq_some_iff.1 hx
  have hmem:a.Rules[k]∈a.Rules:=List.getElem_mem hk
  have h1:=List.all_eq_true.1 P5_ok.1 _ (h.pre.subset (List.mem_map_of_mem hmem))
  have hg:=h.good _ hmem
  have h2:pV a.Rules[k].Rule=0:=(sW _).2 ⟨by have:=hg.size;simp only [bnd3] at this;omega,hg.valid⟩
  unfold wM
  rw [Nat.zero_add,h1,h2]
  have hpw:=List.Pairwise.sublist h.pre ((lN _).1 P5_ok.2.1)
  by_cases h0:0<k
  ·rw [nh (show k - 1<a.Rules.length by omega)]
   have:=(List.pairwise_iff_getElem.1 (List.pairwise_map.1 hpw)) (k - 1) k (by omega) hk (by omega)
   rw [this];simp
  simp [h0]
 unfold SX.rulesE;rw [this];rfl
theorem MAs.valid {l:List Zg} (h:MAs l):agrE l=0:=by
 have:fc (gAgr l) l 0=none:=by
  rw [jJ]
  intro k x hx
  obtain ⟨hk,rfl⟩:=List.getElem?_eq_some_iff.1 hx
  have hm:=h.all k _ hx
  have hl:=h.len
  unfold gAgr
  rw [Nat.zero_add,hm.parties,hm.rulesE]
  have i1:(decide (l[k].ID<1)||decide (1000<l[k].ID)||decide (l[k].Kind<1)||decide (3<l[k].Kind))=false:=by
   have e1:=hm.id;have e2:=hm.kind
   rw [i4 (by omega),i4 (by omega),i4 (by omega),i4 (by omega)];rfl
  have i2:(decide (12<l[k].Parties.length)||decide (12<l[k].Rules.length))=false:=by
   have e1:=hm.par.length_le;have e2:=P5_len hm.pre;have h6:C6.length=6:=rfl
   rw [i4 (by omega),i4 (by omega)];rfl
  rw [i1,i2]
  by_cases h0:0<k
  ·rw [nh (show k - 1<l.length by omega)]
   have hm2:=h.all (k - 1) _ (List.getElem?_eq_getElem (by omega))
   have e1:=hm.id;have e2:=hm2.id
   rw [i4 (show ¬ l[k].ID≤(l[k-1]'(by omega)).ID by omega)];simp
  simp [h0]
 unfold agrE
 rw [det (by have:=h.len;omega),this];rfl
structure RawA (a:Zg):Prop where
 par:StrsOk a.Parties
 len:a.Rules.length≤140737488355328
 rules:∀ x∈a.Rules,x.Prefix.size≤140737488355328∧ROk x.Rule
def k0 (W:World):Kr:=⟨W,fun b=>b<W.heap.size⟩
theorem dK {t:Nat} {z:Value} {s b:Nat} (h:dG t=some (z,s,b)):Tryz.prog.cellsOf t=s∧Tryz.prog.bytesOf t=b:=by
 obtain ⟨i,h1,h2,h3,h4⟩:=ju h
 constructor
 ·simp [Program.cellsOf,h1,h3]
 simp [Program.bytesOf,h1,h4]
def Light {H:Type} (t:Nat) (d:DataW H):Prop:=∀ n∈d.weights Tryz.prog t,n≤reachBytes
theorem wO {H:Type} (d:DataW H):1≤Rows.uptoBulk d:=by
 cases d with
 | lit l=>cases l <;> simp [Rows.uptoBulk]
 | nil=>simp [Rows.uptoBulk]
 | ptr d=>simp [Rows.uptoBulk]
 | slice elems spare=>simp [Rows.uptoBulk]
 | agg parts=>simp [Rows.uptoBulk]
 | iface t d=>simp [Rows.uptoBulk]
 | map entries=>simp [Rows.uptoBulk]
 | held h=>simp [Rows.uptoBulk]
theorem uN {H:Type} {d:DataW H} {l:List (DataW H)} (h:d∈l):Rows.uptoBulk d≤Rows.uptoBulkAll l:=by
 induction l with
 | nil=>cases h
 | cons x r ih =>
  simp only [Rows.uptoBulkAll]
  cases List.mem_cons.1 h with
  | inl e=>subst e;omega
  | inr e=>have:=ih e;omega
theorem wP {H:Type} (l:List (DataW H)):l.length≤Rows.uptoBulkAll l:=by
 induction l with
 | nil=>simp [Rows.uptoBulkAll]
 | cons x r ih=>have:=wO x;simp only [Rows.uptoBulkAll,List.length_cons];omega
def Opens {H:Type} (eh:TypeId×Value→H) {α:Type} (n:Nat) (t:Nat) (e:α→List PV) (B:α→Prop):Prop :=
 ∀ (W:World) (fuel:Nat) (cs:List Value) (x:DataW H×List MemPlace),DataW.trod eh Tryz.prog W 0 (fun _=>true) true fuel t cs=some x→Light t x.1→Rows.uptoBulk x.1≤n→∃ m,Rps (k0 W) (e m) cs∧One cs∧B m
section
variable {H:Type} {eh:TypeId×Value→H} {nb:Nat}
theorem one1 {v:Value} (h:v.oneCell'=true):One [v]:=fun u hu=>by rw [List.mem_singleton.1 hu];exact h
theorem uO {t:Nat} {k:IntKind} (h:cP t=some (.int k)):Opens eh nb t (fun x:Int=>[.v (.int k x)]) (fun _=>True):=fun W fuel cs x hx _ _=>by
 obtain ⟨n,rfl,_,_⟩:=DataW.trod_int (bd h) hx
 exact ⟨n,.cons (.v rfl) .nil,one1 rfl,trivial⟩
theorem kD {e:Nat}:∀ {l:List (DataW H)} {d:DataW H} {n:Nat},d∈l→n∈d.weights Tryz.prog e→n∈DataW.weightsAll Tryz.prog e l
 | d'::l,d,n,hd,hn=>by
  simp only [DataW.weightsAll,List.mem_append]
  rcases List.mem_cons.1 hd with rfl | hd
  ·exact .inl hn
  exact .inr (kD hd hn)
theorem tK {α β:Type} {R:α→β→Prop}:∀ (l:List β),(∀ b∈l,∃ a,R a b)→∃ la:List α,la.length=l.length∧∀ (i:Nat) (b:β),l[i]?=some b→∃ a,la[i]?=some a∧R a b
 | [],_=>⟨[],rfl,fun i b h=>by simp at h⟩
 | b::l,h=>by
  obtain ⟨a,ha⟩:=h b (by simp)
  obtain ⟨la,h1,h2⟩:=tK l fun b hb=>h b (by simp [hb])
  refine ⟨a::la,by simp [h1],fun i b' hb=>?_⟩
  cases i with
  | zero=>simp only [List.getElem?_cons_zero,cu] at hb;subst hb;exact ⟨a,rfl,ha⟩
  | succ i=>simp only [List.getElem?_cons_succ] at hb ⊢;exact h2 i b' hb
def OpensN {H:Type} (eh:TypeId×Value→H) {α:Type} (N n:Nat) (t:Nat) (e:α→List PV) (B:α→Prop):Prop :=
 ∀ (W:World) (fuel:Nat) (cs:List Value) (x:DataW H×List MemPlace),fuel<N→DataW.trod eh Tryz.prog W 0 (fun _=>true) true fuel t cs=some x→Light t x.1→Rows.uptoBulk x.1≤n→∃ m,Rps (k0 W) (e m) cs∧One cs∧B m
theorem qJ {α:Type} {N t E sz by':Nat} {z:Value} {e:α→List PV} {B:α→Prop} (hu:cP t=some (.slice E)) (hi:dG E=some (z,sz,by')) (h0:Nat.blt 0 sz=true) (hb0:Nat.blt 0 by'=true) (hE:OpensN eh N nb E e B):OpensN eh (N+1) nb t (eL e) (fun l=>l.length*by'≤140737488355328∧l.length≤nb∧∀ x∈l,B x):=fun W fuel cs x hfu hx hw hbk=>by
 obtain ⟨hcz,hby⟩:=dK hi
 have hsz:0<sz:=by have:=h0;simp [Nat.blt] at this;omega
 have hbp:0<by':=by have:=hb0;simp [Nat.blt] at this;omega
 rcases DataW.trod_slice (bd hu) hx with ⟨rfl,_⟩ | ⟨a,len,cap,elems,rest,n,rfl,rfl,rfl,_,hl,hm,hlen,hel,_,_⟩
 ·exact ⟨[],.cons (.slc (sz:=sz) (css:=[]) Sl.nil (Nat.zero_le _) (fun _ h=>by cases h) .nil) .nil,one1 rfl,by simp,Nat.zero_le _,fun _ h=>by cases h⟩
 rw [hcz] at hel
 have hwl:(elems.length+rest.length)*by'≤reachBytes:=by
  have:=hw ((elems.length+rest.length)*by') (by simp only [DataW.weights,bd hu,hby,List.length_map];exact List.mem_cons_self)
  exact this
 have hn:len≤140737488355328:=by
  unfold reachBytes at hwl
  have:elems.length*1≤(elems.length+rest.length)*by':=Nat.mul_le_mul (by omega) (by omega)
  omega
 have hcells:∀ i∈List.range len,∃ p:α×List Value,W.cells? 0 (a.add (i*sz)) sz=some p.2∧Rps (k0 W) (e p.1) p.2∧One p.2∧B p.1:=fun i hi'=>by
  have hi':i<len:=List.mem_range.1 hi'
  have h1:=hel i hi'
  have hlt:i<elems.length:=by omega
  rw [List.getElem?_eq_getElem hlt] at h1
  obtain ⟨cs,h2,h3⟩:=Option.bind_eq_some_iff.1 h1
  obtain ⟨m,k1,k2,k3⟩:=hE W n cs _ (by omega) h3 (fun q hq=>hw q (by
   simp only [DataW.weights,bd hu]
   exact List.mem_cons_of_mem _ (List.mem_append.2 (.inl (kD (List.mem_map.2 ⟨_,List.getElem_mem hlt,rfl⟩) hq))))) (by
   have h9:=uN (l:=elems.map (·.1)) (List.mem_map.2 ⟨_,List.getElem_mem hlt,rfl⟩)
   simp only [Rows.uptoBulk] at hbk
   omega)
  exact ⟨(m,cs),h2,k1,k2,k3⟩
 obtain ⟨ps,g1,g2⟩:=tK (R:=fun (p:α×List Value) i=>W.cells? 0 (a.add (i*sz)) sz=some p.2∧Rps (k0 W) (e p.1) p.2∧One p.2∧B p.1) (List.range len) hcells
 rw [List.length_range] at g1
 have g3:∀ (i:Nat) (p:α×List Value),ps[i]?=some p→W.cells? 0 (a.add (i*sz)) sz=some p.2∧Rps (k0 W) (e p.1) p.2∧One p.2∧B p.1:=fun i p hp=>by
  have hlt:=(List.getElem?_eq_some_iff.1 hp).1
  obtain ⟨p',h1,h2⟩:=g2 i i (by rw [List.getElem?_range (by omega)])
  rw [hp] at h1;injection h1 with h1;subst h1;exact h2
 have hps:(ps.map (·.1)).length=len:=by simp [g1]
 refine ⟨ps.map (·.1),?_,one1 rfl,?_,?_,?_⟩
 rotate_left
 ·rw [hps]
  have h9:len*by'≤(elems.length+rest.length)*by':=Nat.mul_le_mul_right _ (by omega)
  unfold reachBytes at hwl
  omega
 ·rw [hps]
  have h9:=wP (elems.map (·.1))
  rw [List.length_map] at h9
  simp only [Rows.uptoBulk] at hbk
  omega
 ·intro x hx
  obtain ⟨p,hp,rfl⟩:=List.mem_map.1 hx
  obtain ⟨i,hi',rfl⟩:=List.getElem_of_mem hp
  exact (g3 i _ (List.getElem?_eq_getElem hi')).2.2.2
 unfold eL;rw [hps]
 refine .cons (.slc (sz:=sz) (css:=ps.map (·.2)) ⟨by simp [g1],hl,?_,?_⟩ hn ?_ ?_) .nil
 ·intro c hc
  obtain ⟨p,hp,rfl⟩:=List.mem_map.1 hc
  obtain ⟨i,hi',rfl⟩:=List.getElem_of_mem hp
  exact (World.cells?_some (g3 i _ (List.getElem?_eq_getElem hi')).1).2.1
 ·intro hpos
  have hp0:0<ps.length:=by omega
  have hc0:=(World.cells?_some (g3 0 _ (List.getElem?_eq_getElem hp0)).1)
  have hread:=hc0.2.2 0 hsz
  have hspot:a.spot=none:=by
   have hlt:0<(ps[0]).2.length:=by rw [hc0.2.1];exact hsz
   rw [List.getElem?_eq_getElem hlt] at hread
   unfold World.cell? at hread
   cases hs:a.spot with
   | none=>rfl
   | some q =>
    have hsp:((a.add (0*sz)).add 0).spot.isSome=true:=by simp [Addr.add,hs]
    split at hread
    ·rw [if_pos hsp] at hread;cases hread
    cases hread
  obtain ⟨ab,ao,asp⟩:=a
  simp only at hspot;subst hspot
  refine ⟨ab,ao,rfl,fun j c hj=>?_⟩
  rw [List.getElem?_map] at hj
  cases hpj:ps[j]? with
  | none=>rw [hpj] at hj;cases hj
  | some p =>
   rw [hpj] at hj;simp only [Option.map_some,cu] at hj;subst hj
   have hcj:=World.cells?_some (g3 j p hpj).1
   refine ⟨?_,fun i u hu'=>?_⟩
   ·have h1:=hcj.2.2 0 hsz
    have hlt:0<p.2.length:=by rw [hcj.2.1];exact hsz
    rw [List.getElem?_eq_getElem hlt,eF,eF] at h1
    unfold World.cell? at h1
    split at h1
    ·rename_i heq
     have:=jC heq
     exact this
    cases h1
   have hlt:i<sz:=by have:=(List.getElem?_eq_some_iff.1 hu').1;omega
   have h1:=hcj.2.2 i hlt
   rw [eF,eF] at h1
   rw [← hu'];exact h1
 ·intro c hc
  obtain ⟨p,hp,rfl⟩:=List.mem_map.1 hc
  obtain ⟨i,hi',rfl⟩:=List.getElem_of_mem hp
  exact (g3 i _ (List.getElem?_eq_getElem hi')).2.2.1
 have:∀ (l:List (α×List Value)),(∀ p∈l,Rps (k0 W) (e p.1) p.2)→Rpss (k0 W) ((l.map (·.1)).map e) (l.map (·.2)):=fun l=>by
  induction l with
  | nil=>exact fun _=>.nil
  | cons p l ih=>exact fun h=>.cons (h p (by simp)) (ih fun q hq=>h q (by simp [hq]))
 refine this ps fun p hp=>?_
 obtain ⟨i,hi',rfl⟩:=List.getElem_of_mem hp
 exact (g3 i _ (List.getElem?_eq_getElem hi')).2.1
theorem kE {α:Type} {t E sz by':Nat} {z:Value} {e:α→List PV} {B:α→Prop} (hu:cP t=some (.slice E)) (hi:dG E=some (z,sz,by')) (h0:Nat.blt 0 sz=true) (hb0:Nat.blt 0 by'=true) (hE:Opens eh nb E e B):Opens eh nb t (eL e) (fun l=>l.length*by'≤140737488355328∧l.length≤nb∧∀ x∈l,B x):=fun W fuel cs x hx hw =>
 qJ (N:=fuel) hu hi h0 hb0 (fun W' f' cs' x' _=>hE W' f' cs' x') W fuel cs x (Nat.lt_succ_self _) hx hw
theorem kF {κ:Kr} {cs:List Value} {off sz:Nat} {ps qs:List PV} (h:Rps κ ps ((cs.drop off).take sz)) (h2:Rps κ qs (cs.drop (off+sz))):Rps κ (ps++qs) (cs.drop off):=by
 have e:cs.drop off=(cs.drop off).take sz++cs.drop (off+sz):=by rw [← List.drop_drop,List.take_append_drop]
 rw [e];exact h.app h2
theorem kG {cs:List Value} {off sz:Nat} (h:One ((cs.drop off).take sz)) (h2:One (cs.drop (off+sz))):One (cs.drop off):=by
 have e:cs.drop off=(cs.drop off).take sz++cs.drop (off+sz):=by rw [← List.drop_drop,List.take_append_drop]
 rw [e];exact fun u hu=>(List.mem_append.1 hu).elim (h u) (h2 u)
theorem tL {κ:Kr} {cs:List Value} {off:Nat} (h:cs.length=off):Rps κ [] (cs.drop off):=by rw [List.drop_of_length_le (by omega)];exact .nil
theorem tM {cs:List Value} {off:Nat} (h:cs.length=off):One (cs.drop off):=by rw [List.drop_of_length_le (by omega)];exact fun _ h=>by cases h
end
end SX
end Go.Proofs.YtgmbmepakpcpaaaGreatDoor
set_option maxRecDepth 100000
namespace Go.Proofs.YtgmbmepakpcpaaaGreatDoor
open Go Go.ChangeShapes Go.WideShapes Go.RowKit
namespace SX
theorem own_ok:ownKnob Tryz.prog.godebug=none:=by kernel_rfl
theorem sX:laidOutB Tryz.prog=true:=by kernel_rfl
def wQ:List (String×DataW Unit):=[("unicode/utf8.acceptRanges",Rows.laid_unicode_utf8_acceptRanges),("customs/nomenclature.lengths",Rows.laid_customs_nomenclature_lengths),("unicode/utf8.first",Rows.laid_unicode_utf8_first)]
mutual
def sY:DataW Unit→List Value
 | .lit (.int k n)=>[.int k n]
 | .agg ds=>tN ds
 | _=>[]
def tN:List (DataW Unit)→List Value
 | []=>[]
 | d::r=>sY d++tN r
end
def c_acc:Array Value:=(sY Rows.laid_unicode_utf8_acceptRanges).toArray
def r4:Array Value:=#[.int .i64 2,.int .i64 4,.int .i64 6,.int .i64 8]
def tO:Array Value:=(sY Rows.laid_unicode_utf8_first).toArray
def wR (h:Array Obj) (g:Nat) (cs:Array Value):Array Obj:=h.modify g fun | .cells _ t frozen=>.cells cs t frozen | o=>o
noncomputable def laidWorld (os:Os):World :=
 { World.holding Tryz.prog os ⟨#[],#[],[]⟩ with heap:=wR (wR (wR (World.holding Tryz.prog os ⟨#[],#[],[]⟩).heap 4 c_acc) 0 r4) 3 tO }
theorem oF:(wQ.filter fun x=>x.2.handleName?.isSome)=[]:=by kernel_rfl
def wT (w:World):MemPlace→Bool
 | .cell b off=>match w.heap[b]? with
  | some (.cells c _ (0,0))=>match c[off]? with | some (.iface _ _)=>false | _=>true
  | _=>false
 | _=>true
theorem sZ {w:World} {ps:List MemPlace} (h:ps.all (wT w)=true):∀ b off,MemPlace.cell b off∈ps→(∃ c t,w.heap[b]?=some (.cells c t (0,0)))∧∀ u v,w.cell? ⟨b,off,none⟩=some (.iface u v)→Value.okWide Tryz.prog w .any 0 u v:=fun b off hm=>by
 have:=List.all_eq_true.1 h _ hm
 unfold wT at this
 split at this
 ·rename_i b' off' e
  injection e with e1 e2;subst e1;subst e2
  split at this
  ·rename_i c t heq
   refine ⟨⟨c,t,heq⟩,fun u v hc=>?_⟩
   simp only [World.cell?,heq] at hc
   split at this
   ·cases this
   rename_i hno;exact absurd hc (by simpa using hno u v)
  cases this
 rename_i hno;exact absurd rfl (hno b off)
theorem o8 (os:Os) (args:Array Value):laidMetH Tryz.prog wQ ((laidWorld os).forCall (fun _ _=>0) ⟨#[],args,[]⟩).memory:=by
 unfold laidMetH
 rw [oF]
 refine ⟨_,⟨4,275,c_acc,8,[],_,by kernel_rfl,by kernel_rfl,by kernel_rfl,by kernel_rfl,⟨0,213,r4,8,[],_,by kernel_rfl,by kernel_rfl,by kernel_rfl,by kernel_rfl,⟨3,272,tO,8,[],_,by kernel_rfl,by kernel_rfl,by kernel_rfl,by kernel_rfl,rfl,rfl⟩,rfl⟩,rfl⟩,?_,?_⟩
 ·exact of_decide_eq_true (by kernel_rfl)
 exact sZ (by kernel_rfl)
theorem iN {H:Type} {eh:TypeId×Value→H} {P:Program} {w:World} {base:Nat} {sp:Nat→Bool} {held:Bool} {fuel:Nat} {t:TypeId} {k:IntKind} {c:Value} {y:DataW H×List MemPlace} (ht:P.underlying t=some (.int k)) (h:DataW.trod eh P w base sp held fuel t [c]=some y):∃ n,c=.int k n∧y=(.lit (.int k n),[]):=by
 obtain ⟨n,h1,h2,_⟩:=DataW.trod_int ht h
 injection h1 with h1 _
 exact ⟨n,h1,h2⟩
theorem r5 {W:World} (h:laidMetH Tryz.prog wQ W):GOK (k0 W):=by
 unfold laidMetH at h
 rw [oF] at h
 obtain ⟨ps,⟨_,_,_,_,_,_,_,_,_,_,⟨g,t,cs,fuel,p,q,hg,ht,hvar,hd,_,_⟩,_⟩,_⟩:=h
 obtain rfl:=Option.some.inj ((show Tryz.prog.globalNamed "customs/nomenclature.lengths" = some 0 by kernel_rfl).symm.trans hg)
 obtain rfl:=Option.some.inj ((show (Tryz.prog.globals[0]?).map (·.type)=some 213 by kernel_rfl).symm.trans ht)
 have hcs:cs=r4:=by
  obtain ⟨l⟩:=cs
  cases fuel with
  | zero=>simp [DataW.trod] at hd
  | succ fuel =>
   have hc1:=(dK (t:=213) rfl).1
   have hc2:=(dK (t:=3) rfl).1
   have hu1:Tryz.prog.underlying 213=some (.array 4 3):=bd rfl
   simp only [DataW.trod,hu1,hc1,hc2] at hd
   split at hd
   ·rename_i hl
    obtain ⟨c0,c1,c2,c3,rfl⟩:∃ c0 c1 c2 c3,l=[c0,c1,c2,c3]:=by
     match l,hl with
     | [a,b,c,d],_=>exact ⟨a,b,c,d,rfl⟩
    have e:List.range 4=[0,1,2,3]:=rfl
    rw [e] at hd
    simp only [Option.map_eq_some_iff,List.mapM_cons,List.mapM_nil,Option.bind_eq_bind,Option.bind_eq_some_iff,Option.pure_def,cu] at hd
    obtain ⟨xs,⟨y0,h0,_,⟨y1,h1,_,⟨y2,h2,_,⟨y3,h3,_,rfl,rfl⟩,rfl⟩,rfl⟩,rfl⟩,hx⟩:=hd
    have hui:Tryz.prog.underlying 3=some (.int .i64):=bd rfl
    obtain ⟨n0,rfl,rfl⟩:=iN hui h0
    obtain ⟨n1,rfl,rfl⟩:=iN hui h1
    obtain ⟨n2,rfl,rfl⟩:=iN hui h2
    obtain ⟨n3,rfl,rfl⟩:=iN hui h3
    simp [Rows.laid_customs_nomenclature_lengths] at hx
    obtain ⟨⟨rfl,rfl,rfl,rfl⟩,_⟩:=hx
    rfl
   cases hd
 subst hcs
 have hcell:∀ j u,r4[j]?=some u→W.cell? ⟨0,j,none⟩=some u:=fun j u hu=>by
  have:=World.var?_cell hg hvar j
  rw [this];exact hu
 refine ⟨?_,fun j u hu=>?_⟩
 ·have h0:=hcell 0 _ rfl
  unfold World.cell? at h0
  split at h0
  ·rename_i heq;exact jC heq
  cases h0
 rw [Nat.zero_add];exact hcell j u (by simpa [r4] using hu)
end SX
end Go.Proofs.YtgmbmepakpcpaaaGreatDoor
set_option maxRecDepth 100000
namespace Go.Proofs.YtgmbmepakpcpaaaGreatDoor
open Go Go.ChangeShapes Go.WideShapes Go.RowKit
namespace SX
theorem inv0 (W:World):Zm ⟨k0 W,[]⟩ [] (k0 W):=⟨.refl _ _,fun _ h=>h,(fun _ h=>by cases h),(fun _ h=>by cases h),.nil⟩
theorem wU {W:World} {ρ:List Res} {κ:Kr} (h:Zm ⟨k0 W,[]⟩ ρ κ):Below W.heap.size W κ.w:=⟨h.le.os,h.le.tape,h.le.output,h.le.kle.size,fun k hk=>h.le.same k hk (by simp)⟩
section
variable {H:Type} {eh:TypeId×Value→H}
theorem o9 {W W':World} (hb:Below W.heap.size W W') {ts:List TypeId} (hr:∀ t∈ts,Tryz.prog.readableRec t=true∧t<Tryz.prog.types.size):∀ {vs:List Value} {ds:List (DataW H)} {ps:List MemPlace},DataW.TrodAll eh Tryz.prog W 0 (fun _=>true) true ts vs ds ps→(∀ p∈ps,p.block<W.heap.size)→DataW.TrodAll eh Tryz.prog W' 0 (fun b=>decide (b<W.heap.size)) true ts vs ds ps:=by
 induction ts with
 | nil=>intro vs ds ps h _;cases vs <;> cases ds <;> first | exact h | cases h
 | cons t ts ih =>
  intro vs ds ps h hlt
  cases vs with
  | nil=>cases h
  | cons v vs =>
   cases ds with
   | nil=>cases h
   | cons d ds =>
    obtain ⟨p,q,h1,h2,e⟩:=h
    have ht:=hr t (by simp)
    exact ⟨p,q,Below.trod sX ht.1 ht.2 h1 hb (fun x hx=>hlt x (by rw [e];simp [hx])),ih (fun u hu=>hr u (by simp [hu])) h2 (fun x hx=>hlt x (by rw [e];simp [hx])),e⟩
theorem readB {ts:List TypeId} (h:(ts.all fun t=>Tryz.prog.readableRec t&&Nat.blt t Tryz.prog.types.size)=true):∀ t∈ts,Tryz.prog.readableRec t=true∧t<Tryz.prog.types.size:=fun t ht=>by
 have:=List.all_eq_true.1 h t ht
 rw [Bool.and_eq_true] at this
 exact ⟨this.1,by have h2:=this.2;exact Nat.le_of_ble_eq_true h2⟩
theorem wV {f tb:Nat} {fn:Func} {s:ChangeSpec} {W:World} {args:Array Value} {ds gs:List (DataW H)} {before:List MemPlace} {pargs:List PV}
    (hrd:∀ t∈fn.params.toList,Tryz.prog.readableRec t=true∧t<Tryz.prog.types.size) (hres:fn.resultTypes=#[tb]) (hub:Tryz.prog.underlying tb=some .bool) (hvars:s.vars=[])
    (hspec:s.fn H ds={ results:=[.lit (.bool true)],args:=ds }) (hW:DataW.Whole eh Tryz.prog fn.params.toList s.vars false W args.toList ds gs before) (hG:GOK (k0 W)) (hargs:Rps (k0 W) pargs args.toList) (hPF:PF f pargs (.v (.bool true))) :
    Calls Tryz.prog f args W fun e W'=>∃ v,e=.returned v∧s.post eh Tryz.prog fn false true false false W args v W':=by
  have hc:=(hPF (k0 W) args.toList hG hargs).2 (inv0 W)
  have e:args.toList.toArray=args:=by simp
  rw [e] at hc
  refine Calls.mono hc fun en W' ⟨v,ρ',κ',h1,h2,h3,h4,h5⟩=>⟨v,h1,?_⟩
  subst h2
  have hv:=h5.val
  subst hv
  have hb:=wU h3
  have hW':=hW
  obtain ⟨p,q,hA,hV,rfl,hfz,hnd⟩:=hW
  rw [hvars] at hV
  obtain ⟨rfl,rfl⟩:gs=[]∧q=[]:=by
    cases gs with
    | nil=>exact ⟨rfl,hV⟩
    | cons g r=>exact absurd hV (by intro h;cases h)
  refine ⟨ds,[],_,[],p,[],hW',?_,?_,?_,hb.frame _,fun h=>by cases h⟩
  · rw [List.append_nil,hspec,hres];exact trodAll_mk1 (shut_bool hub true)
  · rw [List.append_nil,hspec];exact o9 hb hrd hA (DataW.TrodAll.lt hA)
  rw [hvars,List.append_nil,hspec];rfl
theorem trodAll_cons {W:World} {t:TypeId} {ts:List TypeId} {vs:List Value} {ds:List (DataW H)} {ps:List MemPlace} (h:DataW.TrodAll eh Tryz.prog W 0 (fun _=>true) true (t::ts) vs ds ps):∃ v vs' d ds' p q,vs=v::vs'∧ds=d::ds'∧DataW.Trod eh Tryz.prog W 0 (fun _=>true) true t v d p∧DataW.TrodAll eh Tryz.prog W 0 (fun _=>true) true ts vs' ds' q:=by
 cases vs with
 | nil=>cases h
 | cons v vs =>
  cases ds with
  | nil=>cases h
  | cons d ds=>obtain ⟨p,q,h1,h2,_⟩:=h;exact ⟨v,vs,d,ds,p,q,rfl,rfl,h1,h2⟩
theorem trodAll_nil {W:World} {vs:List Value} {ds:List (DataW H)} {ps:List MemPlace} (h:DataW.TrodAll eh Tryz.prog W 0 (fun _=>true) true [] vs ds ps):vs=[]∧ds=[]:=by
 cases vs <;> cases ds <;> first | exact ⟨rfl,rfl⟩ | cases h
theorem r6 {l:Array TypeId} (h:(l.toList.all fun t => !Tryz.prog.wantsStandIn t)=true) {j:Nat} {t:TypeId} (ht:l[j]?=some t):Tryz.prog.wantsStandIn t=false:=by
 have:=List.all_eq_true.1 h t (by have:=Array.mem_of_getElem? ht;simpa using this)
 simpa using this
theorem light_head {t:Nat} {ts:List Nat} {d:DataW H} {ds:List (DataW H)} (h:(DataW.weightsEach Tryz.prog (t::ts) (d::ds)).all (· ≤ reachBytes)=true):Light t d∧(DataW.weightsEach Tryz.prog ts ds).all (· ≤ reachBytes)=true:=by
 simp only [DataW.weightsEach,List.all_append,Bool.and_eq_true] at h
 exact ⟨fun n hn=>by simpa using List.all_eq_true.1 h.1 n hn,h.2⟩
def oG:TypeDesc→Bool
 | .int _ | .bool | .string | .slice _=>true
 | _=>false
theorem not_agg {W:World} {r:Reach} {base t:Nat} {v:Value} {D:TypeDesc} (hu:cP t=some D) (hD:oG D=true) (h:Value.okWide Tryz.prog W r base t v):∀ cs,v.cells.toList=[cs]→v=cs:=fun cs he=>by
 cases v with
 | agg arr =>
  exfalso
  unfold Value.okWide at h
  rw [bd hu] at h
  cases D <;> first | (revert hD;simp [oG];done) | (simp only at h;unfold Cell.okWide at h;rw [bd hu] at h;simp only at h;unfold Cell.ok at h;rw [bd hu] at h;simp at h)
 | _=>simpa [Value.cells] using he
theorem arg_agg {nb:Nat} {W:World} {r:Reach} {base t:Nat} {v:Value} {D:TypeDesc} {α:Type} {e:α→List PV} {B:α→Prop} {d:DataW H} {ps:List MemPlace} (hu:cP t=some D) (hD:fJ D=true) (hO:Opens eh nb t e B) (h:Value.okWide Tryz.prog W r base t v) (hd:DataW.Trod eh Tryz.prog W 0 (fun _=>true) true t v d ps) (hl:Light t d) (hn:Rows.uptoBulk d≤nb):∃ m,Rp (k0 W) (.agg (e m)) v∧B m:=by
 obtain ⟨fuel,hf⟩:=hd
 obtain ⟨m,h1,h2,h9⟩:=hO W fuel _ _ hf hl hn
 have:∃ cs,v=.agg cs:=by
  unfold Value.okWide at h
  rw [bd hu] at h
  cases D <;> first | (revert hD;simp [fJ];done) | (obtain ⟨cs,e,_⟩:=h;exact ⟨cs,e⟩)
 obtain ⟨cs,rfl⟩:=this
 refine ⟨m,?_,h9⟩
 have e2:(Value.agg cs)=.agg cs.toList.toArray:=by simp
 rw [e2]
 exact .agg h2 h1
theorem tP {nb:Nat} {W:World} {r:Reach} {base t:Nat} {v:Value} {D:TypeDesc} {α:Type} {e:α→List PV} {B:α→Prop} {d:DataW H} {ps:List MemPlace} (hu:cP t=some D) (hD:oG D=true) (hO:Opens eh nb t e B) (h1:∀ m,∃ p,e m=[p]) (h:Value.okWide Tryz.prog W r base t v) (hd:DataW.Trod eh Tryz.prog W 0 (fun _=>true) true t v d ps) (hl:Light t d) (hn:Rows.uptoBulk d≤nb):∃ m,Rps (k0 W) (e m) [v]∧B m:=by
 obtain ⟨fuel,hf⟩:=hd
 obtain ⟨m,h2,_,h9⟩:=hO W fuel _ _ hf hl hn
 refine ⟨m,?_,h9⟩
 obtain ⟨p,hp⟩:=h1 m
 rw [hp] at h2
 generalize hc:v.cells.toList=cs at h2
 obtain ⟨w,ws,rfl,h3,h4⟩:=h2.cons_inv
 rw [h4.nil_inv] at hc
 rw [not_agg hu hD h w hc,hp]
 exact .cons h3 .nil
end
theorem tQ {κ:Kr} {ps:List PV} {vs:List Value} {k:Nat} {s:ByteArray} (h:Rps κ ps vs) (hk:ps[k]?=some (.v (.string s))):s.size≤140737488355328:=by
 obtain ⟨v,_,h2⟩:=h.get hk
 exact Nat.le_of_ble_eq_true h2.ok
theorem tR {κ:Kr} {ps:List PV} {vs:List Value} {k mm:Nat} {xs:List (List PV)} (h:Rps κ ps vs) (hk:ps[k]?=some (.slc mm xs)):xs.length≤140737488355328:=by
 obtain ⟨v,_,h2⟩:=h.get hk
 cases h2 with
 | slc hs hb _ hss=>rw [hss.len,hs.len];exact hb
theorem r7 {κ:Kr} {ps:List PV} {vs:List Value} {k mm:Nat} {xs:List (List PV)} {x:List PV} (h:Rps κ ps vs) (hk:ps[k]?=some (.slc mm xs)) (hx:x∈xs):∃ ds,Rps κ x ds:=by
 obtain ⟨v,_,h2⟩:=h.get hk
 cases h2 with
 | slc hs hb _ hss =>
  obtain ⟨i,hi,rfl⟩:=List.getElem_of_mem hx
  obtain ⟨ds,_,h3⟩:=hss.get (List.getElem?_eq_getElem hi)
  exact ⟨ds,h3⟩
end SX
end Go.Proofs.YtgmbmepakpcpaaaGreatDoor
namespace Go.Proofs.YtgmbmepakpcpaaaGreatDoor
namespace SX
open Go
theorem strs_of {κ:Kr} {ps:List PV} {vs:List Value} {k:Nat} {l:List ByteArray} (h:Rps κ ps vs) (hk:ps[k]?=some (pL eS l)):StrsOk l:=by
 refine ⟨by have:=tR h hk;simpa using this,fun s hs=>?_⟩
 obtain ⟨ds,hd⟩:=r7 h hk (List.mem_map_of_mem (f:=eS) hs)
 exact tQ (k:=0) hd rfl
mutual
theorem rok_of {κ:Kr}:∀ (r:Ze) (ds:List Value),Rps κ (Ze.enc r) ds→ROk r
 | ⟨k,d,e,t,m,n,l⟩,ds,h=>by
  rw [Ze.enc_eq] at h
  have hl:l.length≤140737488355328:=by have:=tR (k:=6) h rfl;simpa using this
  exact ⟨_,strs_of (k:=2) h rfl,tQ (k:=5) h rfl,hl,tS l (fun a ha=>r7 (k:=6) h rfl (List.mem_map_of_mem (f:=Ze.enc) ha))⟩
theorem tS {κ:Kr}:∀ (l:List Ze),(∀ a∈l,∃ ds,Rps κ (Ze.enc a) ds)→∀ a∈l,ROk a
 | [],_,_,h=>by cases h
 | b::l,h,a,ha=>by
  rcases List.mem_cons.1 ha with e | ha
  ·obtain ⟨ds,hd⟩:=h b (by simp)
   rw [e];exact rok_of b ds hd
  exact tS l (fun a ha=>h a (by simp [ha])) a ha
end
def prefB (s p:ByteArray):Bool:=decide (p.size≤s.size)&&decide (s.extract 0 p.size=p)
structure VA (a:Zg):Prop where
 ok:AOk a
 rules:∀ x∈a.Rules,pV x.Rule=0
 len:a.Rules.length≤12∧a.Parties.length≤12
def hasS (l:List ByteArray) (s:ByteArray):Bool:=l.any fun x=>decide (x=s)
def r8 {α:Type} (R:α→α→Bool):List α→List α→Bool
 | [],_=>true
 | _::_,[]=>true
 | x::a,y::b=>R x y&&r8 R a b
def oH {α:Type} (R:α→α→Bool) (a b:List α):Bool:=a.length == b.length&&r8 R a b
theorem pW {α T:Type} (R:α→α→Bool) (t:T) (B:List α):∀ (a b:List α) (i:Nat),B.drop i=b→a.length=b.length→fc (fun k x=>cond (R x (B.getD k x)) none (some t)) a i=cond (r8 R a b) none (some t)
 | [],b,_,_,_=>by cases b <;> rfl
 | x::a,[],_,_,h=>by simp at h
 | x::a,y::b,i,hd,h=>by
  have hi:i<B.length:=by
   rcases Nat.lt_or_ge i B.length with h | h
   ·exact h
   rw [List.drop_of_length_le h] at hd;cases hd
  rw [List.drop_eq_getElem_cons hi] at hd
  injection hd with h1 h2
  rw [fc,r8,nh hi,h1,pW R t B a b (i+1) h2 (by simpa using h)]
  cases R x y <;> rfl
theorem oI {α:Type} {R:α→α→Bool}:∀ {a b:List α},(∀ x∈a,∀ y∈b,R x y=true↔x=y)→(oH R a b=true↔a=b)
 | [],[],_=>by simp [oH,r8]
 | [],y::b,_=>by simp [oH]
 | x::a,[],_=>by simp [oH]
 | x::a,y::b,h=>by
  have ih:=oI (R:=R) (a:=a) (b:=b) fun u hu v hv=>h u (by simp [hu]) v (by simp [hv])
  have h0:=h x (by simp) y (by simp)
  unfold oH at ih ⊢
  rw [r8]
  simp only [List.length_cons,Bool.and_eq_true,beq_iff_eq,Nat.add_right_cancel_iff,List.cons.injEq] at ih ⊢
  constructor
  ·rintro ⟨h1,h2,h3⟩;exact ⟨h0.1 h2,ih.1 ⟨h1,h3⟩⟩
  rintro ⟨h1,h2⟩;exact ⟨(ih.2 h2).1,h0.2 h1,(ih.2 h2).2⟩
theorem tT {α:Type} (a b:List α):((a.length:Int) != (b.length:Int)) = !(a.length == b.length):=by
 by_cases h:a.length=b.length
 ·rw [h];simp
 have h2:¬ (a.length:Int)=(b.length:Int):=by omega
 have e1:(a.length == b.length)=false:=by simpa using h
 have e2:((a.length:Int) == (b.length:Int))=false:=by simpa using h2
 rw [e1,bne,e2]
theorem tU {α:Type} {a b:List α} (ha:a.length≤140737488355328) (R:α→α→Bool) {body:Int→Option (Int⊕(Unit⊕Bool))} {k:Unit⊕Bool→Option Bool} (hk:k (.inl ())=some true∧k (.inr false)=some false) (hab:a.length=b.length)
    (hstep:∀ (k:Nat) (hk:k<a.length) (hk2:k<b.length),body (k:Int)=some (outg k (cond (R a[k] b[k]) none (some (.inr false))))) (hend:body (a.length:Int)=some (.inr (.inl ()))):Option.bind (bf body FUEL 0) k=some (r8 R a b):=by
  refine (jh (l:=a) (by omega) (fun i x=>cond (R x (b.getD i x)) none (some (.inr false))) (.inl ()) (fun i hi=>?_) hend).trans ?_
  · rw [hstep i hi (by omega),nh (show i<b.length by omega)]
  rw [pW R (Sum.inr false:Unit⊕Bool) b a b 0 rfl hab]
  cases r8 R a b
  · exact hk.2
  exact hk.1
theorem r9 (a b:List Int) (ha:a.length≤140737488355328):ir a b=some (decide (a=b)):=by
 have hiff:oH (fun x y:Int=>x == y) a b=decide (a=b):=by
  have:=oI (R:=fun x y:Int=>x == y) (a:=a) (b:=b) (fun x _ y _=>by simp)
  cases h:oH (fun x y:Int=>x == y) a b
  ·rw [h] at this;exact (i4 fun e=>by have:=this.2 e;cases this).symm
  exact (det (this.1 h)).symm
 rw [← hiff]
 unfold ir oH
 rw [tT]
 cases h:(a.length == b.length)
 ·rfl
 simp only [Bool.not_true,i0,Bool.true_and]
 refine tU ha _ ⟨rfl,rfl⟩ (eq_of_beq h) (fun k hk hk2=>?_) (by simp only [oh,i0])
 simp only [wA hk,ga,cy hk,cy hk2,iD,kV hk (show a.length≤4611686018427387904 by omega),bne]
 cases (a[k] == b[k]) <;> rfl
theorem pa (a b:List Za) (ha:a.length≤140737488355328):dU a b=some (decide (a=b)):=by
 have hiff:oH Za.eqb a b=decide (a=b):=by
  have:=oI (R:=Za.eqb) (a:=a) (b:=b) (fun x _ y _=>Za.eqb_iff)
  cases h:oH Za.eqb a b
  ·rw [h] at this;exact (i4 fun e=>by have:=this.2 e;cases this).symm
  exact (det (this.1 h)).symm
 rw [← hiff]
 unfold dU oH
 rw [tT]
 cases h:(a.length == b.length)
 ·rfl
 simp only [Bool.not_true,i0,Bool.true_and]
 refine tU ha _ ⟨rfl,rfl⟩ (eq_of_beq h) (fun k hk hk2=>?_) (by simp only [oh,i0])
 simp only [wA hk,ga,cy hk,cy hk2,iD,kV hk (show a.length≤4611686018427387904 by omega)]
 cases Za.eqb a[k] b[k] <;> rfl
mutual
def s4:Ze→Ze→Bool
 | ⟨k,d,e,t,m,n,l⟩,⟨k',d',e',t',m',n',l'⟩=>k == k'&&d == d'&&t == t'&&m == m'&&decide (n=n')&&decide (e=e')&&j7 l l'
def j7:List Ze→List Ze→Bool
 | [],[]=>true
 | [],_::_=>false
 | _::_,[]=>false
 | a::l,b::m=>s4 a b&&j7 l m
end
mutual
theorem s5:∀ a b:Ze,s4 a b=true↔a=b
 | ⟨k,d,e,t,m,n,l⟩,⟨k',d',e',t',m',n',l'⟩=>by
  rw [s4]
  simp only [Bool.and_eq_true,beq_iff_eq,decide_eq_true_eq,mH l l',Ze.mk.injEq]
  constructor
  ·rintro ⟨⟨⟨⟨⟨⟨h1,h2⟩,h3⟩,h4⟩,h5⟩,h6⟩,h7⟩;exact ⟨h1,h2,h6,h3,h4,h5,h7⟩
  rintro ⟨h1,h2,h6,h3,h4,h5,h7⟩;exact ⟨⟨⟨⟨⟨⟨h1,h2⟩,h3⟩,h4⟩,h5⟩,h6⟩,h7⟩
theorem mH:∀ a b:List Ze,j7 a b=true↔a=b
 | [],[]=>by simp [j7]
 | [],_::_=>by simp [j7]
 | _::_,[]=>by simp [j7]
 | a::l,b::m=>by rw [j7,Bool.and_eq_true,s5 a b,mH l m,List.cons.injEq]
end
def W5:List ByteArray:=[(⟨#[97,110,100]⟩:ByteArray),(⟨#[99,117,116]⟩:ByteArray),(⟨#[111,114]⟩:ByteArray),(⟨#[115,101,119]⟩:ByteArray),(⟨#[115,112,105,110]⟩:ByteArray)]
structure MProd (n:Nat) (i:Nat) (p:Zd):Prop where
 id:p.ID=3*((i:Int)+1)
 lvl:(iJ p.Code=6∨iJ p.Code=8)∧6≤p.Code.size∧p.Code.size≤8
 ctr:p.Country∈C6
 price:1≤p.Price∧p.Price≤200
 proc:p.Processes.Sublist W5
 few:p.Inputs.length≤4
 asc:p.Inputs.Pairwise fun a b=>a.Product<b.Product
 inp:∀ x∈p.Inputs,(∃ k:Nat,k<n∧x.Product=3*((k:Int)+1))∧0≤x.Value∧x.Value<100
 obt:p.Obtained=true→p.Inputs=[]
structure MPs (l:List Zd):Prop where
 len:1≤l.length∧l.length≤10
 all:∀ (i:Nat) (p:Zd),l[i]?=some p→MProd l.length i p
structure Sorted (l:List Zd):Prop where
 len:l.length≤1000000
 asc:l.Pairwise fun a b=>a.ID<b.ID
 small:∀ p∈l,p.Processes.length≤1000000∧p.Inputs.length≤1000000
def mI (l:List Zd) (id:Int):Option Zd:=l.find? fun p=>p.ID == id
def zProd:Zd:=⟨0,ByteArray.empty,ByteArray.empty,0,false,[],[]⟩
structure VAs (l:List Zg):Prop where
 len:l.length≤1000
 all:∀ a∈l,VA a
def AscA (l:List Zg):Prop:=l.Pairwise fun a b=>a.ID<b.ID
theorem MAs.asc {l:List Zg} (h:MAs l):AscA l:=by
 unfold AscA;rw [List.pairwise_iff_getElem]
 intro i j hi hj hij
 have h1:=(h.all i _ (List.getElem?_eq_getElem hi)).id
 have h2:=(h.all j _ (List.getElem?_eq_getElem hj)).id
 omega
end SX
end Go.Proofs.YtgmbmepakpcpaaaGreatDoor
set_option maxRecDepth 100000
set_option linter.unusedSectionVars false
namespace Go.Proofs.YtgmbmepakpcpaaaGreatDoor
namespace SX
open Go
section
variable {α:Type} [DecidableEq α]
def dd:List α→List α
 | []=>[]
 | [x]=>[x]
 | x::y::l=>cond (decide (x=y)) (dd (y::l)) (x::dd (y::l))
theorem qK (x y:α):∀ l:List α,dd (l++[x,y])=cond (decide (x=y)) (dd (l++[x])) (dd (l++[x])++[y])
 | []=>by
  show dd [x,y]=_
  rw [dd]
  cases h:decide (x=y)
  ·rfl
  ·have:=of_decide_eq_true h;subst this;rfl
 | [a]=>by
  have ih:=qK x y []
  simp only [List.nil_append] at ih
  simp only [List.cons_append,List.nil_append]
  rw [show dd [a,x,y]=cond (decide (a=x)) (dd [x,y]) (a::dd [x,y]) from rfl,ih,show dd [a,x]=cond (decide (a=x)) (dd [x]) (a::dd [x]) from rfl]
  cases decide (x=y) <;> cases decide (a=x) <;> rfl
 | a::b::l=>by
  show dd (a::b::(l++[x,y]))=_
  have ih:=qK x y (b::l)
  simp only [List.cons_append] at ih
  rw [dd,ih]
  show _=cond _ (dd (a::b::(l++[x]))) (dd (a::b::(l++[x]))++[y])
  rw [dd]
  cases decide (x=y) <;> cases decide (a=b) <;> rfl
variable {lt:α→α→Bool}
def kH (l:List α) (c:α):Bool:=l.any fun x=>decide (x=c)
theorem oJ {l:List α} {c:α}:kH l c=true↔c∈l:=by unfold kH;rw [List.any_eq_true];exact ⟨fun ⟨x,h1,h2⟩=>of_decide_eq_true h2 ▸ h1,fun h=>⟨c,h,det rfl⟩⟩
theorem wW {l:List α} {c:α}:kH l c=false↔c ∉ l:=by rw [← oJ];simp
structure Ord (lt:α→α→Bool):Prop where
 irr:∀ x,lt x x=false
 tr:∀ x y z,lt x y=true→lt y z=true→lt x z=true
 ntr:∀ x y z,lt x y=false→lt y z=false→lt x z=false
 tot:∀ x y,lt x y=false→lt y x=false→x=y
end
section
variable {α:Type} [DecidableEq α]
theorem dd_take {p:List α} {n:Nat} (h0:1≤n) (h:n<p.length):dd (p.take (n+1))=cond (decide (p[n-1]'(by omega)=p[n])) (dd (p.take n)) (dd (p.take n)++[p[n]]):=by
 obtain ⟨m,rfl⟩:∃ m,n=m+1:=⟨n - 1,by omega⟩
 have e1:p.take (m+1)=p.take m++[p[m]'(by omega)]:=by rw [List.take_add_one,List.getElem?_eq_getElem (by omega)];rfl
 have e3:p.take (m+1+1)=p.take (m+1)++[p[m+1]]:=by rw [List.take_add_one,List.getElem?_eq_getElem h];rfl
 have e2:p.take (m+1+1)=p.take m++[p[m]'(by omega),p[m+1]]:=by rw [e3,e1,List.append_assoc];rfl
 rw [e2,qK,e1];rfl
structure CInv (p:List α) (v:Nat) (l:List α) (k i:Nat):Prop where
 i1:1≤i
 le:v+i≤p.length
 len:l.length=p.length
 kk:k=(dd (p.take (v+i))).length
 klt:k+1≤v+i
 pre:l.take k=dd (p.take (v+i))
 suf:∀ j,v+i≤j+1→l[j]?=p[j]?
theorem CInv.step {p l:List α} {v k i:Nat} (c:CInv p v l k i) (h:v+i<p.length) (hv:1≤v):∃ x y,l[v+i]?=some x∧l[v+i - 1]?=some y∧(decide (x=y)=true→CInv p v l k (i+1))∧(decide (x=y)=false→k<l.length∧CInv p v (l.set k x) (k+1) (i+1)):=by
 have hx:=c.suf (v+i) (by omega)
 have hy:=c.suf (v+i - 1) (by omega)
 rw [List.getElem?_eq_getElem h] at hx
 rw [List.getElem?_eq_getElem (show v+i - 1<p.length by omega)] at hy
 have hd:=dd_take (p:=p) (n:=v+i) (by omega) h
 refine ⟨_,_,hx,hy,fun e=>?_,fun e=>?_⟩
 ·have e':decide (p[v+i - 1]'(by omega)=p[v+i])=true:=det (of_decide_eq_true e).symm
  rw [e',ga] at hd
  exact ⟨by omega,by omega,c.len,by rw [← Nat.add_assoc,hd];exact c.kk,by have:=c.klt;omega,by rw [← Nat.add_assoc,hd];exact c.pre,fun j hj=>c.suf j (by omega)⟩
 have e':decide (p[v+i - 1]'(by omega)=p[v+i])=false:=i4 (fun q=>of_decide_eq_false e q.symm)
 rw [e',i0] at hd
 have hk:k<l.length:=by have:=c.klt;have:=c.len;omega
 refine ⟨hk,by omega,by omega,by rw [List.length_set];exact c.len,by rw [← Nat.add_assoc,hd,List.length_append,← c.kk];rfl,by have:=c.klt;omega,?_,fun j hj=>?_⟩
 ·rw [← Nat.add_assoc,hd,← c.pre]
  rw [List.take_add_one,List.getElem?_set]
  simp only [if_true,hk]
  rw [List.take_set_of_le (Nat.le_refl k)];rfl
 rw [List.getElem?_set,if_neg (by have:=c.klt;omega)];exact c.suf j (by omega)
end
end SX
end Go.Proofs.YtgmbmepakpcpaaaGreatDoor
namespace Go.Proofs.YtgmbmepakpcpaaaGreatDoor
namespace SX
open Go
theorem tV (x y:Za):Za.eqb x y=decide (x=y):=by
 cases h:Za.eqb x y
 ·exact (i4 fun e=>by rw [Za.eqb_iff.2 e] at h;cases h).symm
 exact (det (Za.eqb_iff.1 h)).symm
theorem lO (l:List Za) (c:Za) (hl:l.length≤140737488355328):ip l c=some (kH l c):=by
 unfold ip
 refine (jh (l:=l) (by omega) (fun _ x=>cond (Za.eqb x c) (some (.inr true)) none) (.inl ()) (fun k hk=>?_) (by simp only [oh,i0])).trans ?_
 ·simp only [wA hk,ga,cy hk,iD,kV hk (show l.length≤4611686018427387904 by omega)]
  cases Za.eqb l[k] c <;> rfl
 rw [pH (fun x=>Za.eqb x c)]
 have:(l.any fun x=>Za.eqb x c)=kH l c:=by unfold kH;congr 1;funext x;exact tV x c
 rw [this];cases kH l c <;> rfl

def rv (w:Zr):Int:=w.Hi*18446744073709551616+w.Lo

structure KnInv (u u1 y1 y0 q rh:Int):Prop where
 eq:u=q*y1+rh
 r0:0≤rh
 r1:rh<4294967296
 q0:0≤q
 q1:q≤4294967297
 up:u*4294967296+u1<q*(y1*4294967296+y0)+(y1*4294967296+y0)
section
variable {u u1 y1 y0 q rh:Int} (hu:0≤u) (huy:u<y1*4294967296+y0) (h1:0≤u1) (h1':u1<4294967296) (hy:2147483648≤y1) (hy':y1<4294967296) (hz:0≤y0) (hz':y0<4294967296)
include hu huy h1 h1' hy hy' hz hz'
end
section
variable {u u1 y1 y0:Int} (hu:0≤u) (huy:u<y1*4294967296+y0) (h1:0≤u1) (h1':u1<4294967296) (hy:2147483648≤y1) (hy':y1<4294967296) (hz:0≤y0) (hz':y0<4294967296)
include hu huy h1 h1' hy hy' hz hz'
end

structure VProd (l:List Zd) (p:Zd):Prop where
 price:1≤p.Price∧p.Price≤1000000000000
 lvl:6≤iJ p.Code
 ctr:ctry p.Country=true
 proc:wK p.Processes=true
 few:p.Inputs.length≤8
 asc:p.Inputs.Pairwise fun a b=>a.Product<b.Product
 inp:∀ x∈p.Inputs,(mI l x.Product).isSome=true∧0≤x.Value∧x.Value≤1000000000000
 obt:p.Obtained=true→p.Inputs=[]
structure VPs (l:List Zd):Prop where
 len:l.length≤64
 asc:l.Pairwise fun a b=>a.ID<b.ID
 all:∀ p∈l,VProd l p
def getP (l:List Zd) (id:Int):Zd:=(mI l id).getD zProd
abbrev CSet:=Za→Bool
theorem uP {K V:Type} [DecidableEq K] (m:List (K×V)) (k c:K) (v:V):dm (lg m k v) c=if k=c then some v else dm m c:=by
 induction m with
 | nil=>simp only [lg,dm]
 | cons p m ih =>
  obtain ⟨a,w⟩:=p
  simp only [lg]
  by_cases h:a=k
  ·subst h
   simp only [if_true,dm]
   split <;> rfl
  rw [if_neg h]
  simp only [dm,ih]
  by_cases h2:a=c
  ·subst h2;simp [show ¬ k=a from fun e=>h e.symm]
  simp [h2]

structure VCase (x:Zl):Prop where
 lvl:6≤iJ x.Code
 price:1≤x.Price∧x.Price≤1000000000000
 proc:wK x.Processes=true∧StrsOk x.Processes
 few:x.Inputs.length≤100
 inp:∀ y∈x.Inputs,6≤iJ y.Code∧0≤y.Value∧y.Value≤1000000000000
def violB (r:Ze) (code inp:ByteArray):Bool:=prefB inp (code.extract 0 r.Digits.toNat)||r.Except.any fun x=>prefB inp x
def wS (f:Zk→Int):List Zk→Int
 | []=>0
 | i::l=>cond i.Originating 0 (f i)+wS f l
def fV (i:Zk):Int:=i.Value
def fW (r:Ze) (code:ByteArray) (i:Zk):Int:=cond (violB r code i.Code) i.Value 0
def fN (_:Zk):Int:=1
def j9 (r:Ze) (x:Zl):Bool :=
 cond (r.Kind == 1) (x.Obtained&&(wS fN x.Inputs == 0)) (cond (r.Kind == 2) (decide (wS (fW r x.Code) x.Inputs*1000000≤r.Tolerance*x.Price)) (cond (r.Kind == 3) (decide (wS fV x.Inputs*1000000≤r.Limit*x.Price)) (cond (r.Kind == 4) (hasS x.Processes r.Name) false)))
mutual
def tt:Ze→Zf
 | ⟨k,d,e,t,m,n,l⟩=>cond (k == 5) (.every_ (tts l)) (cond (k == 6) (.some_ (tts l)) (.single_ ⟨⟨k,d,e,t,m,n,l⟩⟩))
def tts:List Ze→List Zf
 | []=>[]
 | a::l=>tt a::tts l
end
section
variable (x:Zl)
mutual
def oK:Ze→Option (List Int)
 | ⟨k,d,e,t,m,n,l⟩=>cond (k == 5) (iC l) (cond (k == 6) (kg 0 l) (cond (j9 ⟨k,d,e,t,m,n,l⟩ x) (some []) none))
def iC:List Ze→Option (List Int)
 | []=>some []
 | a::l=>(oK a).bind fun p=>(iC l).bind fun q=>some (p++q)
def kg (i:Nat):List Ze→Option (List Int)
 | []=>none
 | a::l=>match oK a with
  | some p=>some ((i:Int)::p)
  | none=>kg (i+1) l
end
end
mutual
theorem tW (x:Zl):∀ (r:Ze) (p:List Int),oK x r=some p→p.length≤cnt r
 | ⟨k,d,e,t,m,n,l⟩,p,h=>by
  rw [oK] at h
  rw [cnt]
  cases h5:(k == 5)
  ·rw [h5] at h
   simp only [i0] at h
   cases h6:(k == 6)
   ·rw [h6] at h
    simp only [i0] at h
    cases hh:j9 ⟨k,d,e,t,m,n,l⟩ x
    ·rw [hh] at h;cases h
    rw [hh] at h;injection h with h;subst h;simp
   rw [h6] at h
   exact sa x l 0 p h
  rw [h5] at h
  have:=sb x l p h;omega
theorem sb (x:Zl):∀ (l:List Ze) (p:List Int),iC x l=some p→p.length≤qI l
 | [],p,h=>by rw [iC] at h;injection h with h;subst h;simp
 | a::l,p,h=>by
  rw [iC] at h
  rw [qI]
  cases ha:oK x a with
  | none=>rw [ha] at h;cases h
  | some q =>
   rw [ha,iD] at h
   cases hl:iC x l with
   | none=>rw [hl] at h;cases h
   | some s =>
    rw [hl,iD] at h
    injection h with h
    subst h
    have h1:=tW x a q ha
    have h2:=sb x l s hl
    rw [List.length_append];omega
theorem sa (x:Zl):∀ (l:List Ze) (i:Nat) (p:List Int),kg x i l=some p→p.length≤1+qI l
 | [],i,p,h=>by rw [kg] at h;cases h
 | a::l,i,p,h=>by
  rw [kg] at h
  rw [qI]
  cases ha:oK x a with
  | none =>
   rw [ha] at h
   have:=sa x l (i+1) p h;omega
  | some q =>
   rw [ha] at h
   injection h with h
   subst h
   have h1:=tW x a q ha
   rw [List.length_cons];omega
end
mutual
theorem sc {x y:Zl} (h:∀ r,kY r=true→j9 r x=true→j9 r y=true):∀ r:Ze,kY r=true→(oK x r).isSome=true→(oK y r).isSome=true
 | ⟨k,d,e,t,m,n,l⟩,hr,hw=>by
  have hl:=hr
  rw [kY] at hl
  rw [oK] at hw ⊢
  cases h5:(k == 5)
  ·rw [h5] at hw hl
   simp only [i0] at hw ⊢
   cases h6:(k == 6)
   ·rw [h6] at hw
    simp only [i0] at hw ⊢
    cases hh:j9 ⟨k,d,e,t,m,n,l⟩ x
    ·rw [hh] at hw;cases hw
    rw [h _ hr hh];rfl
   rw [h6] at hw hl
   simp only [Bool.or_true,ga,Bool.and_eq_true] at hl
   exact pX h l 0 0 k hl.2.2 hw
  rw [h5] at hw hl
  simp only [Bool.true_or,ga,Bool.and_eq_true] at hl
  exact pZ h l k hl.2.2 hw
theorem pZ {x y:Zl} (h:∀ r,kY r=true→j9 r x=true→j9 r y=true):∀ (l:List Ze) (k:Int),ml k l=true→(iC x l).isSome=true→(iC y l).isSome=true
 | [],k,_,_=>by rw [iC];rfl
 | a::l,k,hr,hw=>by
  rw [ml] at hr
  simp only [Bool.and_eq_true] at hr
  rw [iC] at hw ⊢
  have h1:=sc h a hr.1.2
  have h2:=pZ h l k hr.2
  cases ha:oK x a with
  | none=>rw [ha] at hw;cases hw
  | some p =>
   cases hl:iC x l with
   | none=>rw [ha,hl] at hw;cases hw
   | some q =>
    rw [ha] at h1;rw [hl] at h2
    obtain ⟨p',e1⟩:=Option.isSome_iff_exists.1 (h1 rfl)
    obtain ⟨q',e2⟩:=Option.isSome_iff_exists.1 (h2 rfl)
    rw [e1,e2];rfl
theorem pX {x y:Zl} (h:∀ r,kY r=true→j9 r x=true→j9 r y=true):∀ (l:List Ze) (i j:Nat) (k:Int),ml k l=true→(kg x i l).isSome=true→(kg y j l).isSome=true
 | [],i,j,k,_,hw=>by rw [kg] at hw;cases hw
 | a::l,i,j,k,hr,hw=>by
  rw [ml] at hr
  simp only [Bool.and_eq_true] at hr
  rw [kg] at hw ⊢
  have h1:=sc h a hr.1.2
  cases ha:oK x a with
  | none =>
   rw [ha] at hw
   cases oK y a with
   | none=>exact pX h l (i+1) (j+1) k hr.2 hw
   | some p=>rfl
  | some p =>
   rw [ha] at h1
   obtain ⟨p',e1⟩:=Option.isSome_iff_exists.1 (h1 rfl)
   rw [e1];rfl
end
structure Wt (f:Zk→Int):Prop where
 same:∀ c v a b,f ⟨c,v,a⟩=f ⟨c,v,b⟩
 pos:∀ i:Zk,0≤i.Value→0≤f i
section
variable {γ δ π:Type} [DecidableEq δ] (gc:γ→δ) (cl:π→δ) (pv:(δ→Bool)→γ→Option π)
def Closed (G:List γ) (T:δ→Bool):Prop:=∀ g∈G,(pv T g).isSome=true→T (gc g)=true
structure RInv (G o:List γ) (ps:List π):Prop where
 all:∀ g∈G,g∈o∨kH (ps.map cl) (gc g)=true
 opn:∀ g∈o,g∈G∧kH (ps.map cl) (gc g)=false
 prv:∀ p∈ps,∃ g∈G,gc g=cl p∧(pv (kH (ps.map cl)) g).isSome=true
 lst:∀ T,Closed gc pv G T→∀ p∈ps,T (cl p)=true
variable {gc cl pv} (hcl:∀ S g p,pv S g=some p→cl p=gc g)
end
abbrev Prf:=Za×List Int×List Za
inductive Chp:List Zh→List Zh→Prop
 | nil:Chp [] []
 | cons {x y:Zh} {l m:List Zh} (h1:y.Product=x.Product) (h2:0≤y.Value) (h3:y.Value≤x.Value) (h:Chp l m):Chp (x::l) (y::m)
theorem Chp.empty {l m:List Zh} (h:Chp l m):m.isEmpty=l.isEmpty:=by cases h <;> rfl
theorem Chp.refl:∀ {l:List Zh},(∀ x∈l,0≤x.Value)→Chp l l
 | [],_=>.nil
 | x::l,h=>.cons rfl (h x (by simp)) (Int.le_refl _) (Chp.refl fun y hy=>h y (by simp [hy]))
structure PLe (p q:Zd):Prop where
 id:q.ID=p.ID
 code:q.Code=p.Code
 ctr:q.Country=p.Country
 price:q.Price=p.Price
 obt:q.Obtained=p.Obtained
 proc:q.Processes=p.Processes
 inp:Chp p.Inputs q.Inputs
structure WtM (f:Zk→Int):Prop where
 wt:Wt f
 le:∀ c v w a,0≤v→v≤w→f ⟨c,v,a⟩≤f ⟨c,w,a⟩
section
variable {ps ps':List Int} {S T:CSet} (hps:∀ x∈ps,x∈ps') (hST:∀ c,S c=true→T c=true)
variable {plan plan':List Zd} (hpl:∀ id,(mI plan id).isSome=true→PLe (getP plan id) (getP plan' id))
end
inductive PsLe:List Zd→List Zd→Prop
 | nil:PsLe [] []
 | cons {p q:Zd} {l m:List Zd} (h1:PLe p q) (h:PsLe l m):PsLe (p::l) (q::m)
theorem PsLe.find {l m:List Zd} (h:PsLe l m) (id:Int):(mI l id=none∧mI m id=none)∨∃ p q,mI l id=some p∧mI m id=some q∧PLe p q:=by
 induction h with
 | nil=>exact .inl ⟨rfl,rfl⟩
 | @cons p q l m h1 h ih =>
  unfold mI at ih ⊢
  rw [List.find?_cons,List.find?_cons,h1.id]
  cases p.ID == id
  ·exact ih
  exact .inr ⟨p,q,rfl,rfl,h1⟩
theorem PsLe.mem {l m:List Zd} (h:PsLe l m) {p:Zd} (hp:p∈l):∃ q∈m,PLe p q:=by
 induction h with
 | nil=>cases hp
 | @cons x q l m h1 h ih =>
  rcases List.mem_cons.1 hp with e | hp'
  ·subst e;exact ⟨q,by simp,h1⟩
  obtain ⟨r,k1,k2⟩:=ih hp'
  exact ⟨r,by simp [k1],k2⟩
theorem PLe.refl {plan:List Zd} {p:Zd} (h:VProd plan p):PLe p p:=⟨rfl,rfl,rfl,rfl,rfl,rfl,Chp.refl fun x hx=>(h.inp x hx).2.1⟩
section
variable {plan:List Zd} (R:Int→Bool) (hR:∀ p∈plan,R p.ID=true→∀ y∈p.Inputs,R y.Product=true)
end
section
variable (x:Zl)
mutual
def fol:Ze→List Int→Option (List Int)
 | ⟨k,d,e,t,m,n,l⟩,p=>cond (k == 5) (s6 l p) (cond (k == 6) (cond (!p.isEmpty&&decide (0≤p.headD 0)) (pb l (p.headD 0).toNat p.tail) none) (cond (j9 ⟨k,d,e,t,m,n,l⟩ x) (some p) none))
def s6:List Ze→List Int→Option (List Int)
 | [],p=>some p
 | a::l,p=>match fol a p with
  | some q=>s6 l q
  | none=>none
def pb:List Ze→Nat→List Int→Option (List Int)
 | [],_,_=>none
 | a::_,0,p=>fol a p
 | _::l,n+1,p=>pb l n p
end
end
mutual
theorem tX (x:Zl):∀ (r:Ze) (p q:List Int),fol x r p=some q→(oK x r).isSome=true
 | ⟨k,d,e,t,m,n,l⟩,p,q,h=>by
  rw [fol] at h
  rw [oK]
  cases h5:(k == 5)
  ·rw [h5] at h
   simp only [i0] at h ⊢
   cases h6:(k == 6)
   ·rw [h6] at h
    simp only [i0] at h ⊢
    cases hh:j9 ⟨k,d,e,t,m,n,l⟩ x
    ·rw [hh] at h;cases h
    rfl
   rw [h6] at h
   simp only [ga] at h ⊢
   cases hi:(!p.isEmpty&&decide (0≤p.headD 0))
   ·rw [hi] at h;cases h
   rw [hi] at h;exact sd x l _ 0 _ q h
  rw [h5] at h
  exact se x l p q h
theorem se (x:Zl):∀ (l:List Ze) (p q:List Int),s6 x l p=some q→(iC x l).isSome=true
 | [],p,q,h=>by rw [iC];rfl
 | a::l,p,q,h=>by
  rw [s6] at h
  rw [iC]
  cases ha:fol x a p with
  | none=>rw [ha] at h;cases h
  | some s =>
   rw [ha] at h
   obtain ⟨w,e1⟩:=Option.isSome_iff_exists.1 (tX x a p s ha)
   obtain ⟨v,e2⟩:=Option.isSome_iff_exists.1 (se x l s q h)
   rw [e1,e2];rfl
theorem sd (x:Zl):∀ (l:List Ze) (n i:Nat) (p q:List Int),pb x l n p=some q→(kg x i l).isSome=true
 | [],n,i,p,q,h=>by rw [pb] at h;cases h
 | a::l,0,i,p,q,h=>by
  rw [pb] at h
  rw [kg]
  obtain ⟨w,e1⟩:=Option.isSome_iff_exists.1 (tX x a p q h)
  rw [e1];rfl
 | a::l,n+1,i,p,q,h=>by
  rw [pb] at h
  rw [kg]
  cases oK x a with
  | none=>exact sd x l n (i+1) p q h
  | some w=>rfl
end
mutual
theorem tY (x:Zl):∀ (r:Ze) (w t:List Int),oK x r=some w→fol x r (w++t)=some t
 | ⟨k,d,e,u,m,n,l⟩,w,t,h=>by
  rw [oK] at h
  rw [fol]
  cases h5:(k == 5)
  ·rw [h5] at h
   simp only [i0] at h ⊢
   cases h6:(k == 6)
   ·rw [h6] at h
    simp only [i0] at h ⊢
    cases hh:j9 ⟨k,d,e,u,m,n,l⟩ x
    ·rw [hh] at h;cases h
    rw [hh] at h;injection h with h;subst h;rfl
   rw [h6] at h
   simp only [ga] at h ⊢
   obtain ⟨j,v,e1,e2⟩:=sf x l 0 w t h
   subst e1
   show cond (true&&decide (0≤((0+j:Nat):Int))) (pb x l ((0+j:Nat):Int).toNat (v++t)) none=_
   rw [det (by omega),Bool.and_self,ga,show ((0+j:Nat):Int).toNat=j by omega]
   exact e2
  rw [h5] at h
  exact sg x l w t h
theorem sg (x:Zl):∀ (l:List Ze) (w t:List Int),iC x l=some w→s6 x l (w++t)=some t
 | [],w,t,h=>by rw [iC] at h;injection h with h;subst h;rw [s6];rfl
 | a::l,w,t,h=>by
  rw [iC] at h
  rw [s6]
  cases ha:oK x a with
  | none=>rw [ha] at h;cases h
  | some p =>
   cases hl:iC x l with
   | none=>rw [ha,hl] at h;cases h
   | some q =>
    rw [ha,hl,iD,iD] at h
    injection h with h
    subst h
    rw [List.append_assoc,tY x a p (q++t) ha]
    exact sg x l q t hl
theorem sf (x:Zl):∀ (l:List Ze) (i:Nat) (w t:List Int),kg x i l=some w→∃ (j:Nat) (v:List Int),w=((i+j:Nat):Int)::v∧pb x l j (v++t)=some t
 | [],i,w,t,h=>by rw [kg] at h;cases h
 | a::l,i,w,t,h=>by
  rw [kg] at h
  cases ha:oK x a with
  | none =>
   rw [ha] at h
   obtain ⟨j,v,e1,e2⟩:=sf x l (i+1) w t h
   exact ⟨j+1,v,by rw [e1];congr 2;omega,by rw [pb];exact e2⟩
  | some p =>
   rw [ha] at h
   injection h with h
   exact ⟨0,p,h.symm,by rw [pb];exact tY x a p t ha⟩
end

section
variable {γ π:Type}
end
section
variable (ps:List Prf)
def bS (d:Za):Option Nat:=ps.findIdx? fun p=>decide (p.1=d)
inductive Reach (c:Za):Za→Prop
 | base:Reach c c
 | step {d e:Za} {i:Nat} {p:Prf} (h:Reach c d) (h1:bS ps d=some i) (h2:ps[i]?=some p) (h3:e∈p.2.2):Reach c e
variable {ps} {c:Za}
theorem eM {d:Za} {i:Nat} (h:bS ps d=some i):∃ p,ps[i]?=some p∧p.1=d:=by
 unfold bS at h
 rw [List.findIdx?_eq_some_iff_getElem] at h
 obtain ⟨h1,h2,_⟩:=h
 exact ⟨ps[i],List.getElem?_eq_getElem h1,of_decide_eq_true h2⟩
def TCov (ps:List Prf) (nd:List Bool) (todo:List Za) (e:Za):Prop:=e∈todo∨∃ j,bS ps e=some j∧nd[j]?=some true
structure Zt (ps:List Prf) (c:Za) (nd:List Bool) (todo:List Za):Prop where
 len:nd.length=ps.length
 tr:∀ d∈todo,Reach ps c d
 nr:∀ i:Nat,nd[i]?=some true→∃ d,Reach ps c d∧bS ps d=some i
 cl:∀ (i:Nat) p,nd[i]?=some true→ps[i]?=some p→∀ e∈p.2.2,TCov ps nd todo e
 st:TCov ps nd todo c
def TOk (ps:List Prf) (c:Za) (P:Nat→Prop):Prop:=(∀ i,P i↔∃ d,Reach ps c d∧bS ps d=some i)∧∀ d,Reach ps c d→bS ps d≠none
def TErr (ps:List Prf) (c:Za):Prop:=∃ d,Reach ps c d∧bS ps d=none
theorem t_start:Zt ps c (List.replicate ps.length false) [c]:=by
 have hn:∀ i:Nat,(List.replicate ps.length false)[i]?≠some true:=by
  intro i h
  rw [List.getElem?_replicate] at h
  split at h
  ·injection h with h;cases h
  cases h
 exact ⟨by simp,fun d hd=>by rw [List.mem_singleton.1 hd];exact .base,fun i h=>absurd h (hn i),fun i p h=>absurd h (hn i),.inl (by simp)⟩
theorem t_fail {nd:List Bool} {t:List Za} {d:Za} (h:Zt ps c nd (t++[d])) (hf:bS ps d=none):TErr ps c:=⟨d,h.tr d (by simp),hf⟩
theorem t_skip {nd:List Bool} {t:List Za} {d:Za} {i:Nat} (h:Zt ps c nd (t++[d])) (hf:bS ps d=some i) (hn:nd[i]?=some true):Zt ps c nd t:=by
 have hc:∀ e,TCov ps nd (t++[d]) e→TCov ps nd t e:=by
  rintro e (h1 | h1)
  ·rcases List.mem_append.1 h1 with h1 | h1
   ·exact .inl h1
   rw [List.mem_singleton.1 h1];exact .inr ⟨i,hf,hn⟩
  exact .inr h1
 exact ⟨h.len,fun d hd=>h.tr d (by simp [hd]),h.nr,fun i p h1 h2 e he=>hc e (h.cl i p h1 h2 e he),hc c h.st⟩
theorem t_add {nd:List Bool} {t:List Za} {d:Za} {i:Nat} {p:Prf} (h:Zt ps c nd (t++[d])) (hf:bS ps d=some i) (hp:ps[i]?=some p):Zt ps c (nd.set i true) (t++p.2.2):=by
 have hi:i<nd.length:=by rw [h.len];exact (List.getElem?_eq_some_iff.1 hp).1
 have hset:(nd.set i true)[i]?=some true:=by rw [List.getElem?_set_self hi]
 have hup:∀ j:Nat,nd[j]?=some true→(nd.set i true)[j]?=some true:=by
  intro j hj
  by_cases e:i=j
  ·subst e;exact hset
  rw [List.getElem?_set_ne e];exact hj
 have hdn:∀ j:Nat,(nd.set i true)[j]?=some true→j=i∨nd[j]?=some true:=by
  intro j hj
  by_cases e:i=j
  ·exact .inl e.symm
  rw [List.getElem?_set_ne e] at hj;exact .inr hj
 have hrd:Reach ps c d:=h.tr d (by simp)
 have hc:∀ e,TCov ps nd (t++[d]) e→TCov ps (nd.set i true) (t++p.2.2) e:=by
  rintro e (h1 | ⟨j,h1,h2⟩)
  ·rcases List.mem_append.1 h1 with h1 | h1
   ·exact .inl (List.mem_append.2 (.inl h1))
   rw [List.mem_singleton.1 h1];exact .inr ⟨i,hf,hset⟩
  exact .inr ⟨j,h1,hup j h2⟩
 refine ⟨by rw [List.length_set];exact h.len,fun e he=>?_,fun j hj=>?_,fun j q h1 h2 e he=>?_,hc c h.st⟩
 ·rcases List.mem_append.1 he with he | he
  ·exact h.tr e (by simp [he])
  exact .step hrd hf hp he
 ·rcases hdn j hj with rfl | hj
  ·exact ⟨d,hrd,hf⟩
  exact h.nr j hj
 rcases hdn j h1 with rfl | h1
 ·rw [hp] at h2
  injection h2 with h2
  subst h2
  exact .inl (List.mem_append.2 (.inr he))
 exact hc e (h.cl j q h1 h2 e he)
theorem t_end {nd:List Bool} (h:Zt ps c nd []):TOk ps c fun i=>nd[i]?=some true:=by
 have key:∀ d,Reach ps c d→∃ j,bS ps d=some j∧nd[j]?=some true:=by
  intro d hd
  induction hd with
  | base=>rcases h.st with h1 | h1;cases h1;exact h1
  | @step d e i p _ h1 h2 h3 ih =>
   obtain ⟨j,k1,k2⟩:=ih
   rw [h1] at k1
   injection k1 with k1
   subst k1
   rcases h.cl i p k2 h2 e h3 with h4 | h4
   ·cases h4
   exact h4
 refine ⟨fun i=>⟨h.nr i,fun ⟨d,hd,hi⟩=>?_⟩,fun d hd=>?_⟩
 ·obtain ⟨j,k1,k2⟩:=key d hd
  rw [hi] at k1
  injection k1 with k1
  subst k1;exact k2
 obtain ⟨j,k1,_⟩:=key d hd
 rw [k1];simp
structure NInv (ps:List Prf) (c:Za) (need:List Za) (k:Nat):Prop where
 rr:∀ d∈need,Reach ps c d
 st:c∈need
 nd:need.Nodup
 cl:∀ (j:Nat),j<k→∀ d,need[j]?=some d→∃ i p,bS ps d=some i∧ps[i]?=some p∧∀ e∈p.2.2,e∈need
theorem n_start:NInv ps c [c] 0:=⟨fun d hd=>by rw [List.mem_singleton.1 hd];exact .base,by simp,by simp,fun j h=>by omega⟩
def ef (need:List Za) (e:Za):List Za:=cond (kH need e) need (need++[e])
theorem j8:∀ (es need:List Za),∃ m,es.foldl ef need=need++m∧(∀ e∈es,e∈es.foldl ef need)∧(∀ d∈m,d∈es)∧(need.Nodup→(es.foldl ef need).Nodup)
 | [],need=>⟨[],by simp,by simp,by simp,fun h=>h⟩
 | e::es,need=>by
  obtain ⟨m,h1,h2,h3,h4⟩:=j8 es (ef need e)
  rw [List.foldl_cons]
  cases hm:kH need e
  ·have he:ef need e=need++[e]:=by unfold ef;rw [hm];rfl
   rw [he] at h1 h2 h4 ⊢
   refine ⟨e::m,by rw [h1];simp,fun x hx=>?_,fun d hd=>?_,fun hn=>h4 ?_⟩
   ·rcases List.mem_cons.1 hx with rfl | hx
    ·rw [h1];simp
    exact h2 x hx
   ·rcases List.mem_cons.1 hd with rfl | hd
    ·simp
    exact List.mem_cons.2 (.inr (h3 d hd))
   rw [List.nodup_append]
   refine ⟨hn,by simp,fun a ha b hb=>?_⟩
   rw [List.mem_singleton.1 hb]
   rintro rfl
   exact (wW.1 hm) ha
  have he:ef need e=need:=by unfold ef;rw [hm];rfl
  rw [he] at h1 h2 h4 ⊢
  refine ⟨m,h1,fun x hx=>?_,fun d hd=>List.mem_cons.2 (.inr (h3 d hd)),h4⟩
  rcases List.mem_cons.1 hx with rfl | hx
  ·rw [h1];exact List.mem_append.2 (.inl (oJ.1 hm))
  exact h2 x hx
theorem n_fail {need:List Za} {k:Nat} {d:Za} (h:NInv ps c need k) (hd:need[k]?=some d) (hf:bS ps d=none):TErr ps c:=⟨d,h.rr d (List.mem_of_getElem? hd),hf⟩
theorem n_add {need:List Za} {k i:Nat} {d:Za} {p:Prf} (h:NInv ps c need k) (hd:need[k]?=some d) (hf:bS ps d=some i) (hp:ps[i]?=some p):NInv ps c (p.2.2.foldl ef need) (k+1):=by
 obtain ⟨m,h1,h2,h3,h4⟩:=j8 p.2.2 need
 have hrd:=h.rr d (List.mem_of_getElem? hd)
 have hk:=(List.getElem?_eq_some_iff.1 hd).1
 refine ⟨fun e he=>?_,by rw [h1];exact List.mem_append.2 (.inl h.st),h4 h.nd,fun j hj x hx=>?_⟩
 ·rw [h1] at he
  rcases List.mem_append.1 he with he | he
  ·exact h.rr e he
  exact .step hrd hf hp (h3 e he)
 rw [h1,List.getElem?_append_left (by omega)] at hx
 by_cases e:j=k
 ·subst e
  rw [hd] at hx
  injection hx with hx
  subst hx
  exact ⟨i,p,hf,hp,h2⟩
 obtain ⟨i',q,k1,k2,k3⟩:=h.cl j (by omega) x hx
 exact ⟨i',q,k1,k2,fun e he=>by rw [h1];exact List.mem_append.2 (.inl (k3 e he))⟩
theorem n_end {need:List Za} (h:NInv ps c need need.length):TOk ps c fun i=>∃ p,ps[i]?=some p∧p.1∈need∧bS ps p.1=some i:=by
 have key:∀ d,Reach ps c d→d∈need:=by
  intro d hd
  induction hd with
  | base=>exact h.st
  | @step d e i p _ h1 h2 h3 ih =>
   obtain ⟨j,hj,e1⟩:=List.getElem_of_mem ih
   obtain ⟨i',q,k1,k2,k3⟩:=h.cl j hj d (by rw [List.getElem?_eq_getElem hj,e1])
   rw [h1] at k1
   injection k1 with k1
   subst k1
   rw [h2] at k2
   injection k2 with k2
   subst k2
   exact k3 e h3
 refine ⟨fun i=>⟨fun ⟨p,_,h2,h3⟩=>⟨p.1,h.rr _ h2,h3⟩,fun ⟨d,hd,hi⟩=>?_⟩,fun d hd=>?_⟩
 ·obtain ⟨p,h1,h2⟩:=eM hi
  exact ⟨p,h1,by rw [h2];exact key d hd,by rw [h2];exact hi⟩
 obtain ⟨j,hj,e1⟩:=List.getElem_of_mem (key d hd)
 obtain ⟨i',q,k1,_⟩:=h.cl j hj d (by rw [List.getElem?_eq_getElem hj,e1])
 rw [k1];simp
theorem wX {P Q:Nat→Prop} (h1:TOk ps c P) (h2:TOk ps c Q) (i:Nat):P i↔Q i:=(h1.1 i).trans (h2.1 i).symm
theorem tZ {P:Nat→Prop} (h1:TOk ps c P) (h2:TErr ps c):False:=by obtain ⟨d,hd,hn⟩:=h2;exact h1.2 d hd hn
end
mutual
theorem wY (x:Zl):∀ l:List Ze,(iC x l).isSome=l.all fun a=>(oK x a).isSome
 | []=>by rw [iC];rfl
 | a::l=>by
  have h:=wY x l
  rw [iC,List.all_cons,← h]
  cases oK x a with
  | none=>rfl
  | some p=>cases iC x l <;> rfl
theorem wZ (x:Zl):∀ (l:List Ze) (i:Nat),(kg x i l).isSome=l.any fun a=>(oK x a).isSome
 | [],i=>by rw [kg];rfl
 | a::l,i=>by
  have h:=wZ x l (i+1)
  rw [kg,List.any_cons,← h]
  cases oK x a <;> rfl
end




section
variable {γ δ π:Type} [DecidableEq δ] {gc:γ→δ} {cl:π→δ} {pv:(δ→Bool)→γ→Option π}
end
theorem p6 {α T:Type}:∀ (m:List α) (i:Nat),fc (fun (_:Nat) (_:α)=>(none:Option T)) m i=none
 | [],_=>rfl
 | _::m,i=>p6 m (i+1)
structure VIds (l:List Zd):Prop where
 id:∀ p∈l,1≤p.ID∧p.ID≤1000000
 lvl:∀ p∈l,iJ p.Code=6∨iJ p.Code=8


theorem awake15:iM=some true:=by kernel_rfl
theorem same15 (x:List Zb) (hx:x.length≤140737488355328) (hp:∀ p∈x,p.Path.length≤140737488355328∧p.Premises.length≤140737488355328):gn x x=some true:=by
 unfold gn
 simp only [bne_self_eq_false,i0]
 refine (jh (l:=x) (by omega) (fun _ _=>none) (.inl ()) (fun k hk=>?_) (by simp only [oh,i0])).trans ?_
 ·obtain ⟨g1,g2⟩:=hp _ (List.getElem_mem hk)
  simp only [wA hk,ga,cy hk,iD,kV hk (show x.length≤4611686018427387904 by omega)]
  rw [Za.eqb_iff.2 rfl]
  simp only [Bool.not_true,Bool.not_false,tH,iD]
  rw [r9 _ _ g1,iD,det rfl]
  simp only [Bool.not_true,Bool.not_false,tH,iD,Bool.or_self]
  rw [pa _ _ g2,iD,det rfl];rfl
 rw [p6];rfl




structure POk (p:Zd):Prop where
 code:p.Code.size≤140737488355328
 proc:StrsOk p.Processes
 len:p.Inputs.length≤140737488355328
structure PSOk (l:List Zd):Prop where
 len:l.length≤140737488355328
 all:∀ p∈l,POk p

end SX
end Go.Proofs.YtgmbmepakpcpaaaGreatDoor
