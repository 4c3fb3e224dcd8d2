/- A part of the proof: texts of the walk and of the plain laws, merged. No condition. -/
import Derived.Test.YtknkknahmebbfaaGreatDoorM2
set_option linter.unusedVariables false
set_option linter.unusedSimpArgs false
set_option maxHeartbeats 4000000
set_option maxRecDepth 100000
namespace Go.Proofs.YtknkknahmebbfaaGreatDoor
namespace SX
open Go
attribute [local irreducible] PWL PWC PWD POpL POpQ PEv PGuardIs PSub PPick PUpd PSplice PFill PLit PF PFV PCall FOk ee eu jI kF iY jn Cov PHolds bk idx app mk gd lb nz lG xQ sub kv dd mj ry dV co mC cX IntKind.wrap Int.tmod Int.tdiv Op.bytesLess strOfNums
def cx (p0:Zf):Option (Zk×Zf):=(ap p0 3).bind fun x3=>Option.bind (cond (decide (0<x3.1)) ((ca x3.2).bind fun x9=>some (x9.2.L,x9.2.I,(IntKind.i64.wrap (Int.tdiv x9.1 4)))) (some (x3.2.L,x3.2.I,0))) (fun (l4,v5,v6)=>(ap (⟨l4,v5⟩:Zf) 3).bind fun x10=>Option.bind (cond (x10.1 == 1) ((ap x10.2 500).bind fun x17=>(ap x17.2 5).bind fun x20=>(idx [1,100,1000,1000000,7] x20.1).bind fun m21=>some (x20.2.L,x20.2.I,(IntKind.i64.wrap (1+x17.1)),m21)) (some (x10.2.L,x10.2.I,0,0))) (fun (l11,v12,v13,v14)=>(ap (⟨l11,v12⟩:Zf) 4).bind fun x23=>Option.bind (cond (x23.1 == 1) ((ca x23.2).bind fun x30=>some (x30.2.L,x30.2.I,true,x30.1)) (some (x23.2.L,x23.2.I,false,0))) (fun (l24,v25,v26,v27)=>(ap (⟨l24,v25⟩:Zf) 4).bind fun x31=>Option.bind (cond (x31.1 == 1) ((ca x31.2).bind fun x38=>cond v26 (some (x38.2.L,x38.2.I,true,(mC (IntKind.i64.wrap (Int.tdiv x38.1 8)) v27))) (some (x38.2.L,x38.2.I,true,(IntKind.i64.wrap (Int.tdiv x38.1 8))))) (some (x31.2.L,x31.2.I,false,0))) (fun (l32,v33,v34,v35)=>some ((⟨v6,v13,v14,v26,v27,v34,v35⟩:Zk),(⟨l32,v33⟩:Zf))))))
theorem fD {p0:Zf} {b0:Nat} {r:(Zk×Zf)}  (h:cx p0=some r):PCall 18 [pP b0 0] [PRes.b b0 56 [pL eI p0.L,pI p0.I]] (fun pv ρ'=>pv=.agg (gt r.1)∧ρ'=[PRes.b b0 56 [pL eI r.2.L,pI r.2.I]]):=by
 unfold cx at h
 refine eg Tryz.func18 rfl Tryz.ntmps18 Tryz.results18 rfl (ae (ar rfl (be (cs:=[pI 0,pI 0,pI 0,pB false,pI 0,pB false,pI 0]) rfl rfl rfl rfl (fun b1=>az (bN (ae (aA 1 [(4,.agg [pI 0,pI 0,pI 0,pB false,pI 0,pB false,pI 0])] (by kernel_rfl) (ar rfl (be (cs:=[pI 0,pI 0,pI 0,pB false,pI 0,pB false,pI 0]) rfl rfl rfl rfl (fun b2=>aQ rfl rfl (ak (vs:=[pI 0,pI 0,pI 0,pB false,pI 0,pB false,pI 0]) rfl rfl rfl rfl rfl cn zl7 (az (cH (aa h fun x3 hx3 h=>ae (aA 1 [(5,pP b0 0)] (by kernel_rfl) ?_)))))))))))))))
 refine ar rfl (aV rfl rfl (ρ1:=[_]) (aC (by exact aR (aR aZ)) (List.Perm.refl _)) (aq hx3) ?_);rintro _ _ ⟨rfl,rfl⟩
 refine aL [(7,pB (decide (0<x3.1)))] (by kernel_rfl) (fu h fun q7 hq7 h=>?_)
 refine av (Y:=Unit×((List Int)×Int×Int)) (fun (_,(l4,v5,v6))=>[(0,pP b0 0),(2,pP b1 0),(3,pP b2 0)]) (fun (_,(l4,v5,v6))=>[PRes.b b0 56 [pL eI l4,pI v5],PRes.b b1 46 [pI 0,pI 0,pI 0,pB false,pI 0,pB false,pI 0],PRes.b b2 46 [pI v6,pI 0,pI 0,pB false,pI 0,pB false,pI 0]]) (fun (_,(l4,v5,v6))=>q7=(l4,v5,v6)) ?_ ?_
 ·skip
  refine iQ rfl hq7 (fun hc8 hq7=>?_) fun hc8 hq7=>?_
  ·refine aa hq7 ?_;clear hq7;intro x9 hx9 hq7
   refine ae (aA 1 [(8,pP b0 0)] (by kernel_rfl) ?_)
   refine ar rfl (aV rfl rfl (ρ1:=[_]) (aC (by exact aZ) (List.Perm.refl _)) (fC hx9) ?_);rintro _ _ ⟨rfl,rfl⟩
   refine aA 2 [(10,pI (IntKind.i64.wrap (Int.tdiv x9.1 4))),(11,pP b2 0)] (by kernel_rfl) (aQ rfl rfl (ak (vs:=[pI (IntKind.i64.wrap (Int.tdiv x9.1 4))]) rfl rfl rfl rfl rfl (cA cn) eX (az ?_)))
   obtain rfl:=osi hq7
   exact au ((),(x9.2.L,x9.2.I,(IntKind.i64.wrap (Int.tdiv x9.1 4)))) (jh rfl) (bv aZ (bv (aR aZ) dx)) rfl
  refine ag ?_
  obtain rfl:=osi hq7
  exact au ((),(x3.2.L,x3.2.I,0)) (jh rfl) (bv aZ (bv (aR aZ) dx)) rfl
 rintro ⟨_,⟨l4,v5,v6⟩⟩ τ hz;(try dsimp only at hz);subst q7;(try dsimp only at h);dsimp only [aF]
 refine fW (aa h fun x10 hx10 h=>ae (aA 1 [(12,pP b0 0)] (by kernel_rfl) ?_))
 refine ar rfl (aV rfl rfl (ρ1:=[_]) (aC (by exact aZ) (List.Perm.refl _)) (aq hx10) ?_);rintro _ _ ⟨rfl,rfl⟩
 refine aL [(14,pB (x10.1 == 1))] (by kernel_rfl) (fu h fun q15 hq15 h=>?_)
 refine av (Y:=Unit×((List Int)×Int×Int×Int)) (fun (_,(l11,v12,v13,v14))=>[(0,pP b0 0),(2,pP b1 0),(3,pP b2 0)]) (fun (_,(l11,v12,v13,v14))=>[PRes.b b0 56 [pL eI l11,pI v12],PRes.b b1 46 [pI 0,pI 0,pI 0,pB false,pI 0,pB false,pI 0],PRes.b b2 46 [pI v6,pI v13,pI v14,pB false,pI 0,pB false,pI 0]]) (fun (_,(l11,v12,v13,v14))=>q15=(l11,v12,v13,v14)) ?_ ?_
 ·skip
  refine iQ rfl hq15 (fun hc16 hq15=>?_) fun hc16 hq15=>?_
  ·refine aa hq15 ?_;clear hq15;intro x17 hx17 hq15
   refine aa hq15 fun x20 hx20 hq15=>aa hq15 fun m21 hm21 hq15=>?_
   refine hI (Y:=Unit) (fun _=>[(0,pP b0 0),(2,pP b1 0),(3,pP b2 0)]) (fun _=>[PRes.b b0 56 [pL eI x20.2.L,pI x20.2.I],PRes.b b1 46 [pI 0,pI 0,pI 0,pB false,pI 0,pB false,pI 0],PRes.b b2 46 [pI v6,pI (IntKind.i64.wrap (1+x17.1)),pI m21,pB false,pI 0,pB false,pI 0]]) (fun _=>True) ?_ ?_
   ·refine eN (ρd:=[PRes.b b0 _ _,PRes.b b2 _ _]) _ (aC aZ (aC (aR aZ) (List.Perm.refl _))) ?_
    refine aS 0 (by kernel_rfl) rfl rfl rfl rfl (bC (p:=pP b0 0) rfl (.p rfl)) (aS 4 (by kernel_rfl) rfl rfl rfl rfl (bC (p:=pP b0 0) rfl (.p rfl)) ?_)
    refine dI 1 3 (by kernel_rfl) ?_ ?_
    ·skip
     refine aX rfl rfl rfl rfl (aV rfl rfl (ρ1:=[_]) (aC (by exact aZ) (List.Perm.refl _)) (aq hx17) ?_);rintro _ _ ⟨rfl,rfl⟩
     refine aS 2 (by kernel_rfl) rfl rfl rfl rfl (dw rfl (.p rfl) (.p rfl) rfl) (aS 8 (by kernel_rfl) rfl rfl rfl rfl (aJ rfl rfl rfl rfl rfl (.p rfl)) ?_)
     refine dI 3 5 (by kernel_rfl) ?_ ?_
     ·skip
      refine aX rfl rfl rfl rfl (bW rfl rfl rfl rfl rfl (eW rfl (eW rfl (eW rfl (eW rfl (eW rfl jD))))) rfl rfl rfl rfl (fun b18=>aW 5 (by kernel_rfl) ?_))
      refine aX rfl rfl rfl rfl (aV rfl rfl (ρ1:=[_]) (aC (by exact aR aZ) (List.Perm.refl _)) (aq hx20) ?_);rintro _ _ ⟨rfl,rfl⟩
      refine dI 6 9 (by kernel_rfl) ?_ ?_
      ·skip
       refine aX rfl rfl rfl rfl (eV (bo (enc:=eI) (xs:=[1,100,1000,1000000,7]) rfl rfl rfl (.p rfl) iZ (.p rfl) (fun _=>hm21)) ?_)
       refine dI 7 9 (by kernel_rfl) ?_ ?_
       ·skip
        refine aX rfl rfl rfl rfl (eV (bj (sz:=1) (p:=pI m21) (enc:=eI) (xs:=[1,100,1000,1000000,7]) (a:=(some ⟨b18,0,none⟩)) x20.1 0 m21 rfl (.p rfl) rfl iZ (fun _=>hm21) rfl) (aW 9 (by kernel_rfl) (bq rfl rfl rfl (ak (vs:=[pI (IntKind.i64.wrap (1+x17.1))]) rfl rfl rfl rfl rfl (cA (cA cn)) (bQ eX) (aS 10 (by kernel_rfl) rfl rfl rfl rfl (aJ rfl rfl rfl rfl rfl (.p rfl)) (aW 11 (by kernel_rfl) (bq rfl rfl rfl (ak (vs:=[pI m21]) rfl rfl rfl rfl rfl (cA (cA cn)) (bQ (bQ eX)) (bK (by kernel_rfl) ?_)))))))))
        exact dM () (jh rfl) (bv aZ (bv (aR (aR aZ)) (bv (aR aZ) bD))) trivial
       skip
       refine bq rfl rfl rfl (ak (vs:=[pI (IntKind.i64.wrap (1+x17.1))]) rfl rfl rfl rfl rfl (cA (cA cn)) (bQ eX) (aW 7 (by kernel_rfl) (aX rfl rfl rfl rfl (eV (bj (sz:=1) (p:=pI m21) (enc:=eI) (xs:=[1,100,1000,1000000,7]) (a:=(some ⟨b18,0,none⟩)) x20.1 0 m21 rfl (.p rfl) rfl iZ (fun _=>hm21) rfl) (aS 10 (by kernel_rfl) rfl rfl rfl rfl (aJ rfl rfl rfl rfl rfl (.p rfl)) (aW 11 (by kernel_rfl) (bq rfl rfl rfl (ak (vs:=[pI m21]) rfl rfl rfl rfl rfl (cA (cA cn)) (bQ (bQ eX)) (bK (by kernel_rfl) ?_)))))))))
       exact dM () (jh rfl) (bv aZ (bv (aR (aR aZ)) (bv (aR aZ) bD))) trivial
      skip
      refine bq rfl rfl rfl (ak (vs:=[pI (IntKind.i64.wrap (1+x17.1))]) rfl rfl rfl rfl rfl (cA (cA cn)) (bQ eX) (aW 6 (by kernel_rfl) (aX rfl rfl rfl rfl (eV (bo (enc:=eI) (xs:=[1,100,1000,1000000,7]) rfl rfl rfl (.p rfl) iZ (.p rfl) (fun _=>hm21)) (aW 7 (by kernel_rfl) (aX rfl rfl rfl rfl (eV (bj (sz:=1) (p:=pI m21) (enc:=eI) (xs:=[1,100,1000,1000000,7]) (a:=(some ⟨b18,0,none⟩)) x20.1 0 m21 rfl (.p rfl) rfl iZ (fun _=>hm21) rfl) (aS 10 (by kernel_rfl) rfl rfl rfl rfl (aJ rfl rfl rfl rfl rfl (.p rfl)) (aW 11 (by kernel_rfl) (bq rfl rfl rfl (ak (vs:=[pI m21]) rfl rfl rfl rfl rfl (cA (cA cn)) (bQ (bQ eX)) (bK (by kernel_rfl) ?_))))))))))))
      exact dM () (jh rfl) (bv aZ (bv (aR (aR aZ)) (bv (aR aZ) bD))) trivial
     skip
     refine aX rfl rfl rfl rfl (aV rfl rfl (ρ1:=[_]) (aC (by exact aZ) (List.Perm.refl _)) (aq hx20) ?_);rintro _ _ ⟨rfl,rfl⟩
     refine dI 3 9 (by kernel_rfl) ?_ ?_
     ·skip
      refine aX rfl rfl rfl rfl (bW rfl rfl rfl rfl rfl (eW rfl (eW rfl (eW rfl (eW rfl (eW rfl jD))))) rfl rfl rfl rfl (fun b18=>?_))
      refine dI 6 9 (by kernel_rfl) ?_ ?_
      ·skip
       refine aX rfl rfl rfl rfl (eV (bo (enc:=eI) (xs:=[1,100,1000,1000000,7]) rfl rfl rfl (.p rfl) eD (.p rfl) (fun _=>hm21)) ?_)
       refine dI 7 9 (by kernel_rfl) ?_ ?_
       ·skip
        refine aX rfl rfl rfl rfl (eV (bj (sz:=1) (p:=pI m21) (enc:=eI) (xs:=[1,100,1000,1000000,7]) (a:=(some ⟨b18,0,none⟩)) x20.1 0 m21 rfl (.p rfl) rfl eD (fun _=>hm21) rfl) (aW 9 (by kernel_rfl) (bq rfl rfl rfl (ak (vs:=[pI (IntKind.i64.wrap (1+x17.1))]) rfl rfl rfl rfl rfl (cA (cA cn)) (bQ eX) (aS 10 (by kernel_rfl) rfl rfl rfl rfl (aJ rfl rfl rfl rfl rfl (.p rfl)) (aW 11 (by kernel_rfl) (bq rfl rfl rfl (ak (vs:=[pI m21]) rfl rfl rfl rfl rfl (cA (cA cn)) (bQ (bQ eX)) (bK (by kernel_rfl) ?_)))))))))
        exact dM () (jh rfl) (bv (aR aZ) (bv (aR (aR aZ)) (bv (aR aZ) bD))) trivial
       skip
       refine bq rfl rfl rfl (ak (vs:=[pI (IntKind.i64.wrap (1+x17.1))]) rfl rfl rfl rfl rfl (cA (cA cn)) (bQ eX) (aW 7 (by kernel_rfl) (aX rfl rfl rfl rfl (eV (bj (sz:=1) (p:=pI m21) (enc:=eI) (xs:=[1,100,1000,1000000,7]) (a:=(some ⟨b18,0,none⟩)) x20.1 0 m21 rfl (.p rfl) rfl eD (fun _=>hm21) rfl) (aS 10 (by kernel_rfl) rfl rfl rfl rfl (aJ rfl rfl rfl rfl rfl (.p rfl)) (aW 11 (by kernel_rfl) (bq rfl rfl rfl (ak (vs:=[pI m21]) rfl rfl rfl rfl rfl (cA (cA cn)) (bQ (bQ eX)) (bK (by kernel_rfl) ?_)))))))))
       exact dM () (jh rfl) (bv (aR aZ) (bv (aR (aR aZ)) (bv (aR aZ) bD))) trivial
      skip
      refine bq rfl rfl rfl (ak (vs:=[pI (IntKind.i64.wrap (1+x17.1))]) rfl rfl rfl rfl rfl (cA (cA cn)) (bQ eX) (aW 6 (by kernel_rfl) (aX rfl rfl rfl rfl (eV (bo (enc:=eI) (xs:=[1,100,1000,1000000,7]) rfl rfl rfl (.p rfl) eD (.p rfl) (fun _=>hm21)) (aW 7 (by kernel_rfl) (aX rfl rfl rfl rfl (eV (bj (sz:=1) (p:=pI m21) (enc:=eI) (xs:=[1,100,1000,1000000,7]) (a:=(some ⟨b18,0,none⟩)) x20.1 0 m21 rfl (.p rfl) rfl eD (fun _=>hm21) rfl) (aS 10 (by kernel_rfl) rfl rfl rfl rfl (aJ rfl rfl rfl rfl rfl (.p rfl)) (aW 11 (by kernel_rfl) (bq rfl rfl rfl (ak (vs:=[pI m21]) rfl rfl rfl rfl rfl (cA (cA cn)) (bQ (bQ eX)) (bK (by kernel_rfl) ?_))))))))))))
      exact dM () (jh rfl) (bv (aR aZ) (bv (aR (aR aZ)) (bv (aR aZ) bD))) trivial
     skip
     refine bq rfl rfl rfl (ak (vs:=[pI (IntKind.i64.wrap (1+x17.1))]) rfl rfl rfl rfl rfl (cA cn) (bQ eX) (aW 3 (by kernel_rfl) (aX rfl rfl rfl rfl (bW rfl rfl rfl rfl rfl (eW rfl (eW rfl (eW rfl (eW rfl (eW rfl jD))))) rfl rfl rfl rfl (fun b18=>aW 6 (by kernel_rfl) (aX rfl rfl rfl rfl (eV (bo (enc:=eI) (xs:=[1,100,1000,1000000,7]) rfl rfl rfl (.p rfl) eD (.p rfl) (fun _=>hm21)) (aW 7 (by kernel_rfl) (aX rfl rfl rfl rfl (eV (bj (sz:=1) (p:=pI m21) (enc:=eI) (xs:=[1,100,1000,1000000,7]) (a:=(some ⟨b18,0,none⟩)) x20.1 0 m21 rfl (.p rfl) rfl eD (fun _=>hm21) rfl) (aS 10 (by kernel_rfl) rfl rfl rfl rfl (aJ rfl rfl rfl rfl rfl (.p rfl)) (aW 11 (by kernel_rfl) (bq rfl rfl rfl (ak (vs:=[pI m21]) rfl rfl rfl rfl rfl (cA (cA cn)) (bQ (bQ eX)) (bK (by kernel_rfl) ?_)))))))))))))))
     exact dM () (jh rfl) (bv (aR aZ) (bv (aR (aR aZ)) (bv (aR aZ) bD))) trivial
    skip
    refine aX rfl rfl rfl rfl (bW rfl rfl rfl rfl rfl (eW rfl (eW rfl (eW rfl (eW rfl (eW rfl jD))))) rfl rfl rfl rfl (fun b18=>aW 1 (by kernel_rfl) ?_))
    refine aX rfl rfl rfl rfl (aV rfl rfl (ρ1:=[_]) (aC (by exact aR aZ) (List.Perm.refl _)) (aq hx17) ?_);rintro _ _ ⟨rfl,rfl⟩
    refine aS 2 (by kernel_rfl) rfl rfl rfl rfl (dw rfl (.p rfl) (.p rfl) rfl) (aS 8 (by kernel_rfl) rfl rfl rfl rfl (aJ rfl rfl rfl rfl rfl (.p rfl)) (aW 5 (by kernel_rfl) ?_))
    refine aX rfl rfl rfl rfl (aV rfl rfl (ρ1:=[_]) (aC (by exact aZ) (List.Perm.refl _)) (aq hx20) ?_);rintro _ _ ⟨rfl,rfl⟩
    refine dI 6 9 (by kernel_rfl) ?_ ?_
    ·skip
     refine aX rfl rfl rfl rfl (eV (bo (enc:=eI) (xs:=[1,100,1000,1000000,7]) rfl rfl rfl (.p rfl) iZ (.p rfl) (fun _=>hm21)) ?_)
     refine dI 7 9 (by kernel_rfl) ?_ ?_
     ·skip
      refine aX rfl rfl rfl rfl (eV (bj (sz:=1) (p:=pI m21) (enc:=eI) (xs:=[1,100,1000,1000000,7]) (a:=(some ⟨b18,0,none⟩)) x20.1 0 m21 rfl (.p rfl) rfl iZ (fun _=>hm21) rfl) (aW 9 (by kernel_rfl) (bq rfl rfl rfl (ak (vs:=[pI (IntKind.i64.wrap (1+x17.1))]) rfl rfl rfl rfl rfl (cA (cA cn)) (bQ eX) (aS 10 (by kernel_rfl) rfl rfl rfl rfl (aJ rfl rfl rfl rfl rfl (.p rfl)) (aW 11 (by kernel_rfl) (bq rfl rfl rfl (ak (vs:=[pI m21]) rfl rfl rfl rfl rfl (cA (cA cn)) (bQ (bQ eX)) (bK (by kernel_rfl) ?_)))))))))
      exact dM () (jh rfl) (bv aZ (bv (aR (aR aZ)) (bv (aR aZ) bD))) trivial
     skip
     refine bq rfl rfl rfl (ak (vs:=[pI (IntKind.i64.wrap (1+x17.1))]) rfl rfl rfl rfl rfl (cA (cA cn)) (bQ eX) (aW 7 (by kernel_rfl) (aX rfl rfl rfl rfl (eV (bj (sz:=1) (p:=pI m21) (enc:=eI) (xs:=[1,100,1000,1000000,7]) (a:=(some ⟨b18,0,none⟩)) x20.1 0 m21 rfl (.p rfl) rfl iZ (fun _=>hm21) rfl) (aS 10 (by kernel_rfl) rfl rfl rfl rfl (aJ rfl rfl rfl rfl rfl (.p rfl)) (aW 11 (by kernel_rfl) (bq rfl rfl rfl (ak (vs:=[pI m21]) rfl rfl rfl rfl rfl (cA (cA cn)) (bQ (bQ eX)) (bK (by kernel_rfl) ?_)))))))))
     exact dM () (jh rfl) (bv aZ (bv (aR (aR aZ)) (bv (aR aZ) bD))) trivial
    skip
    refine bq rfl rfl rfl (ak (vs:=[pI (IntKind.i64.wrap (1+x17.1))]) rfl rfl rfl rfl rfl (cA (cA cn)) (bQ eX) (aW 6 (by kernel_rfl) (aX rfl rfl rfl rfl (eV (bo (enc:=eI) (xs:=[1,100,1000,1000000,7]) rfl rfl rfl (.p rfl) iZ (.p rfl) (fun _=>hm21)) (aW 7 (by kernel_rfl) (aX rfl rfl rfl rfl (eV (bj (sz:=1) (p:=pI m21) (enc:=eI) (xs:=[1,100,1000,1000000,7]) (a:=(some ⟨b18,0,none⟩)) x20.1 0 m21 rfl (.p rfl) rfl iZ (fun _=>hm21) rfl) (aS 10 (by kernel_rfl) rfl rfl rfl rfl (aJ rfl rfl rfl rfl rfl (.p rfl)) (aW 11 (by kernel_rfl) (bq rfl rfl rfl (ak (vs:=[pI m21]) rfl rfl rfl rfl rfl (cA (cA cn)) (bQ (bQ eX)) (bK (by kernel_rfl) ?_))))))))))))
    exact dM () (jh rfl) (bv aZ (bv (aR (aR aZ)) (bv (aR aZ) bD))) trivial
   rintro _ τ ρ1 hsub22 _;(try dsimp only at hsub22);dsimp only [aF]
   obtain rfl:=osi hq15
   exact au ((),(x20.2.L,x20.2.I,(IntKind.i64.wrap (1+x17.1)),m21)) (jh rfl) (PSub.trans mH hsub22) rfl
  refine ag ?_
  obtain rfl:=osi hq15
  exact au ((),(x10.2.L,x10.2.I,0,0)) (jh rfl) mH rfl
 rintro ⟨_,⟨l11,v12,v13,v14⟩⟩ τ hz;(try dsimp only at hz);subst q15;(try dsimp only at h);dsimp only [aF]
 refine fW (aa h fun x23 hx23 h=>ae (aA 1 [(25,pP b0 0)] (by kernel_rfl) ?_))
 refine ar rfl (aV rfl rfl (ρ1:=[_]) (aC (by exact aZ) (List.Perm.refl _)) (aq hx23) ?_);rintro _ _ ⟨rfl,rfl⟩
 refine aL [(27,pB (x23.1 == 1))] (by kernel_rfl) (fu h fun q28 hq28 h=>?_)
 refine av (Y:=Unit×((List Int)×Int×Bool×Int)) (fun (_,(l24,v25,v26,v27))=>[(0,pP b0 0),(2,pP b1 0),(3,pP b2 0)]) (fun (_,(l24,v25,v26,v27))=>[PRes.b b0 56 [pL eI l24,pI v25],PRes.b b1 46 [pI 0,pI 0,pI 0,pB false,pI 0,pB false,pI 0],PRes.b b2 46 [pI v6,pI v13,pI v14,pB v26,pI v27,pB false,pI 0]]) (fun (_,(l24,v25,v26,v27))=>q28=(l24,v25,v26,v27)) ?_ ?_
 ·skip
  refine iQ rfl hq28 (fun hc29 hq28=>?_) fun hc29 hq28=>?_
  ·refine aa hq28 ?_;clear hq28;intro x30 hx30 hq28
   refine ae (aA 1 [(28,pP b0 0)] (by kernel_rfl) ?_)
   refine ar rfl (aV rfl rfl (ρ1:=[_]) (aC (by exact aZ) (List.Perm.refl _)) (fC hx30) ?_);rintro _ _ ⟨rfl,rfl⟩
   refine aA 1 [(30,pP b2 3)] (by kernel_rfl) (aQ rfl rfl (ak (vs:=[pB true]) rfl rfl rfl rfl rfl (cA (cA cn)) (bQ (bQ (bQ eX))) (aA 1 [(31,pP b2 4)] (by kernel_rfl) (aQ rfl rfl (ak (vs:=[pI x30.1]) rfl rfl rfl rfl rfl (cA (cA cn)) (bQ (bQ (bQ (bQ eX)))) (az ?_))))))
   obtain rfl:=osi hq28
   exact au ((),(x30.2.L,x30.2.I,true,x30.1)) (jh rfl) mH rfl
  refine ag ?_
  obtain rfl:=osi hq28
  exact au ((),(x23.2.L,x23.2.I,false,0)) (jh rfl) mH rfl
 rintro ⟨_,⟨l24,v25,v26,v27⟩⟩ τ hz;(try dsimp only at hz);subst q28;(try dsimp only at h);dsimp only [aF]
 refine fW (aa h fun x31 hx31 h=>ae (aA 1 [(32,pP b0 0)] (by kernel_rfl) ?_))
 refine ar rfl (aV rfl rfl (ρ1:=[_]) (aC (by exact aZ) (List.Perm.refl _)) (aq hx31) ?_);rintro _ _ ⟨rfl,rfl⟩
 refine aL [(34,pB (x31.1 == 1))] (by kernel_rfl) (fu h fun q36 hq36 h=>?_)
 refine av (Y:=Unit×((List Int)×Int×Bool×Int)) (fun (_,(l32,v33,v34,v35))=>[(2,pP b1 0),(3,pP b2 0)]) (fun (_,(l32,v33,v34,v35))=>[PRes.b b0 56 [pL eI l32,pI v33],PRes.b b1 46 [pI 0,pI 0,pI 0,pB false,pI 0,pB false,pI 0],PRes.b b2 46 [pI v6,pI v13,pI v14,pB v26,pI v27,pB v34,pI v35]]) (fun (_,(l32,v33,v34,v35))=>q36=(l32,v33,v34,v35)) ?_ ?_
 ·skip
  refine iQ rfl hq36 (fun hc37 hq36=>?_) fun hc37 hq36=>?_
  ·refine af ?_
   refine aa hq36 fun x38 hx38 hq36=>ae (aA 1 [(35,pP b0 0)] (by kernel_rfl) ?_)
   refine ar rfl (aV rfl rfl (ρ1:=[_]) (aC (by exact aZ) (List.Perm.refl _)) (fC hx38) ?_);rintro _ _ ⟨rfl,rfl⟩
   refine aA 2 [(37,pI (IntKind.i64.wrap (Int.tdiv x38.1 8))),(38,pP b2 5)] (by kernel_rfl) (aQ rfl rfl (ak (vs:=[pB true]) rfl rfl rfl rfl rfl (cA (cA cn)) (bQ (bQ (bQ (bQ (bQ eX))))) (aA 1 [(39,pP b2 6)] (by kernel_rfl) (aQ rfl rfl (ak (vs:=[pI (IntKind.i64.wrap (Int.tdiv x38.1 8))]) rfl rfl rfl rfl rfl (cA (cA cn)) (bQ (bQ (bQ (bQ (bQ (bQ eX)))))) (az (bN (aT [2] [40] [(41,pB v26)] (by kernel_rfl) (bZ rfl hq36 (fun hc39 hq36=>?_) fun hc39 hq36=>?_)))))))))
   ·refine ae ?_
    refine cq 6 [2,2] [42,43,44,45] [(46,pI (mC (IntKind.i64.wrap (Int.tdiv x38.1 8)) v27)),(47,pP b2 6)] (by kernel_rfl) (aQ rfl rfl (ak (vs:=[pI (mC (IntKind.i64.wrap (Int.tdiv x38.1 8)) v27)]) rfl rfl rfl rfl rfl (cA (cA cn)) (bQ (bQ (bQ (bQ (bQ (bQ eX)))))) (az ?_)))
    obtain rfl:=osi hq36
    exact au ((),(x38.2.L,x38.2.I,true,(mC (IntKind.i64.wrap (Int.tdiv x38.1 8)) v27))) (ke rfl) mH rfl
   refine ag ?_
   obtain rfl:=osi hq36
   exact au ((),(x38.2.L,x38.2.I,true,(IntKind.i64.wrap (Int.tdiv x38.1 8)))) (ke rfl) mH rfl
  refine ag ?_
  obtain rfl:=osi hq36
  exact au ((),(x31.2.L,x31.2.I,false,0)) (ke rfl) mH rfl
 rintro ⟨_,⟨l32,v33,v34,v35⟩⟩ τ hz;(try dsimp only at hz);subst q36;(try dsimp only at h);dsimp only [aF]
 refine af (ae (fe 1 [2] [(48,.agg [pI v6,pI v13,pI v14,pB v26,pI v27,pB v34,pI v35])] (by kernel_rfl) (aQ rfl rfl (ak (vs:=[pI v6,pI v13,pI v14,pB v26,pI v27,pB v34,pI v35]) rfl rfl rfl rfl rfl (cA cn) zl7 (az (dB ?_))))))
 obtain rfl:=osi h
 exact aM (gp (dh rfl iZ rfl)) dx ⟨rfl,rfl⟩
def cG (p0:Zf) (p1:Int):Option (ByteArray×Zf):=(ap p0 2).bind fun x1=>(bk (S:=(List Int)×(List Int)×Int) (T:=((List Int)×(List Int)×Int)) (fun (l5,l8,v9)=>cond (decide (((l5.length:Nat):Int)<p1)) ((ap (⟨l8,v9⟩:Zf) 3).bind fun x19=>(app 1 l5 [48,(IntKind.u8.wrap (IntKind.i64.wrap (49+x19.1)))]).bind fun l22=>some (.inl (l22,x19.2.L,x19.2.I))) (some (.inr (l5,l8,v9)))) FUEL ([57,(IntKind.u8.wrap (IntKind.i64.wrap (52+x1.1)))],x1.2.L,x1.2.I)).bind fun (l13,l14,v15)=>some ((strOfNums l13),(⟨l14,v15⟩:Zf))
theorem iz {p0:Zf} {p1:Int} {b0:Nat} {r:(ByteArray×Zf)}  (h:cG p0 p1=some r):PCall 19 [pP b0 0,pI p1] [PRes.b b0 56 [pL eI p0.L,pI p0.I]] (fun pv ρ'=>pv=pS r.1∧ρ'=[PRes.b b0 56 [pL eI r.2.L,pI r.2.I]]):=by
 unfold cG at h
 refine eg Tryz.func19 rfl Tryz.ntmps19 Tryz.results19 rfl (bf [4] (by kernel_rfl) (eo h fun x1 hx1 h=>ae (aA 1 [(6,pP b0 0)] (by kernel_rfl) ?_)))
 refine ar rfl (aV rfl rfl (ρ1:=[_]) (aC (by exact aZ) (List.Perm.refl _)) (aq hx1) ?_);rintro _ _ ⟨rfl,rfl⟩
 refine bY 2 [8] [(9,pY (IntKind.u8.wrap (IntKind.i64.wrap (52+x1.1))))] (by kernel_rfl) (ar rfl (bW rfl rfl rfl rfl rfl (eW rfl (eW rfl jD)) rfl rfl rfl rfl (fun b2=>aL [(5,pO (some ⟨b2,0,none⟩) 2 2)] (by kernel_rfl) (eo h fun q17 hq17 h=>?_))))
 refine av (Y:=(Option Addr×Nat)×((List Int)×(List Int)×Int)) (fun ((a11,c12),(l13,l14,v15))=>[(5,pO a11 l13.length c12)]) (fun ((a11,c12),(l13,l14,v15))=>[PRes.b b0 56 [pL eI l14,pI v15],PRes.row a11 l13.length c12 5 1 (List.map eB l13)]) (fun ((a11,c12),(l13,l14,v15))=>q17=(l13,l14,v15)) ?_ ?_
 ·refine an ?_
  refine aY (Y:=Option Addr×Nat) (S:=(List Int)×(List Int)×Int) _ hq17 (fun (a6,c7) (l5,l8,v9)=>[(0,pP b0 0),(1,pI p1),(5,pO a6 l5.length c7)]) (fun (a6,c7) (l5,l8,v9)=>[PRes.b b0 56 [pL eI l8,pI v9],PRes.row a6 l5.length c7 5 1 (List.map eB l5)]) ((some ⟨b2,0,none⟩),2) (jh rfl) (bv (aR aZ) dx) ?_
  rintro ⟨a6,c7⟩ ⟨l5,l8,v9⟩ o τ hb16;(try dsimp only at hb16);dsimp only [aF]
  refine fW (ah [11,12,13] [(14,pB (decide (((l5.length:Nat):Int)<p1)))] (by kernel_rfl) (bZ rfl hb16 (fun hc18 hb16=>?_) fun hc18 hb16=>?_))
  ·refine ag ?_
   refine aH (an (aa hb16 fun x19 hx19 hb16=>ae (aA 2 [(15,pO a6 l5.length c7),(16,pP b0 0)] (by kernel_rfl) ?_)))
   refine ar rfl (aV rfl rfl (ρ1:=[_]) (aC (by exact aZ) (List.Perm.refl _)) (aq hx19) ?_);rintro _ _ ⟨rfl,rfl⟩
   refine bY 2 [18] [(19,pY (IntKind.u8.wrap (IntKind.i64.wrap (49+x19.1))))] (by kernel_rfl) (ar rfl (bW rfl rfl rfl rfl rfl (eW rfl (eW rfl jD)) rfl rfl rfl rfl (fun b20=>aa hb16 fun l22 hl22 hb16=>?_)))
   refine ar rfl (cV (enc:=eB) rfl rfl rfl rfl rfl rfl rfl rfl rfl eD (by exact aR (aR aZ)) hl22 (fun a23 c24=>?_))
   refine aL [(5,pO a23 l22.length c24)] (by kernel_rfl) (aj ?_)
   exact bm hb16 (a23,c24) (jh rfl) (bv (aR (aR aZ)) dx)
  refine ba ?_
  refine aI (aB hb16 (fun ht=>aG rfl ?_))
  exact au ((a6,c7),(l5,l8,v9)) (wZ rfl) ml ht.symm
 rintro ⟨⟨a11,c12⟩,⟨l13,l14,v15⟩⟩ τ hz;(try dsimp only at hz);subst q17;(try dsimp only at h);dsimp only [aF]
 refine af (ae (aA 1 [(22,pO a11 l13.length c12)] (by kernel_rfl) (ar rfl (xV rfl rfl rfl rfl rfl (xs:=l13) iZ rfl (aL [(4,pS (strOfNums l13))] (by kernel_rfl) (dB ?_))))))
 obtain rfl:=osi h
 exact aM (gp (aK rfl)) dx ⟨rfl,rfl⟩
def di  : Option (List ByteArray):=some [(⟨#[65,65]⟩:ByteArray),(⟨#[66,66]⟩:ByteArray),(⟨#[67,67]⟩:ByteArray),(⟨#[68,68]⟩:ByteArray),(⟨#[69,69]⟩:ByteArray),(⟨#[70,70]⟩:ByteArray)]
theorem gy  {r:(List ByteArray)}  (h:di  = some r):PF 20 [] (pL eS r):=by
 unfold di at h
 refine bi ?_
 refine eg Tryz.func20 rfl Tryz.ntmps20 Tryz.results20 rfl (bf [0] (by kernel_rfl) (bN (ae (ar rfl (bW rfl rfl rfl rfl rfl (eW rfl (eW rfl (eW rfl (eW rfl (eW rfl (eW rfl jD)))))) rfl rfl rfl rfl (fun b1=>aL [(0,pO (some ⟨b1,0,none⟩) 6 6)] (by kernel_rfl) (aH ?_)))))))
 refine e8 (enc:=eS) (xs:=[(⟨#[65,65]⟩:ByteArray),(⟨#[66,66]⟩:ByteArray),(⟨#[67,67]⟩:ByteArray),(⟨#[68,68]⟩:ByteArray),(⟨#[69,69]⟩:ByteArray),(⟨#[70,70]⟩:ByteArray)]) 0 rfl (by exact aZ) ?_
 refine cu ?_
 exact zz r h rfl
def eO (p0:(List Int)):Option (List Zc):=(jN p0 300).bind fun x1=>(ap (⟨x1,0⟩:Zf) 8).bind fun x3=>Option.bind (cond (decide (0<x3.1)) ((cx x3.2).bind fun x12=>(cx x12.2).bind fun x13=>(app 144 ([]:List Zc) [(⟨1,1,(⟨#[57,52]⟩:ByteArray),[],0,0,36525,(-1),x12.1⟩:Zc),(⟨2,1,(⟨#[57,53]⟩:ByteArray),[],0,0,25,(-1),x13.1⟩:Zc)]).bind fun l17=>some (l17,x13.2.L,x13.2.I)) (some (([]:(List Zc)),x3.2.L,x3.2.I))) (fun (l7,l8,v9)=>(ap (⟨l8,v9⟩:Zf) 13).bind fun x21=>(bk (S:=(List Zc)×Int×(List Int)×Int) (T:=((List Zc))) (fun (l23,v26,l27,v28)=>cond (decide (v26<x21.1)) ((ap (⟨l27,v28⟩:Zf) 6).bind fun x36=>(ap x36.2 4).bind fun x37=>(cG x37.2 (IntKind.i64.wrap (2+(IntKind.i64.wrap (2*x37.1))))).bind fun x38=>(ap x38.2 20).bind fun x39=>(cx x39.2).bind fun x40=>(ap x40.2 30).bind fun x42=>(ap x42.2 3).bind fun x43=>Option.bind (cond (x43.1 == 1) ((ap x43.2 (IntKind.i64.wrap (x39.1+1))).bind fun x50=>some (x50.2.L,x50.2.I,x50.1)) (some (x43.2.L,x43.2.I,(-1)))) (fun (l45,v46,v47)=>(ap (⟨l45,v46⟩:Zf) 3).bind fun x51=>Option.bind (cond (x51.1 == 1) ((ap x51.2 2).bind fun x58=>some (x58.2.L,x58.2.I,(IntKind.i64.wrap (1+x58.1)))) (some (x51.2.L,x51.2.I,0))) (fun (l53,v54,v55)=>(ap (⟨l53,v54⟩:Zf) 16).bind fun x59=>(bk (S:=Int×(List ByteArray)) (T:=((List ByteArray))) (fun (v60,l62)=>cond ((decide (v60<3))&&(decide (7<x59.1))) (((lG v60).bind fun u80=>cond ((dd .i64 (co .i64 x59.1 v60) 1) == 1) ((di).bind fun x82=>(idx x82 v60).bind fun m83=>(app 16 l62 [m83]).bind fun l86=>some l86) (some l62)).bind fun l78=>some (.inl ((IntKind.i64.wrap (v60+1)),l78))) (some (.inr l62))) FUEL (0,([]:List ByteArray))).bind fun l69=>(app 144 l23 [(⟨(IntKind.i64.wrap (3+(IntKind.i64.wrap (2*v26)))),(IntKind.i64.wrap (1+x36.1)),x38.1,l69,v55,x39.1,(IntKind.i64.wrap ((IntKind.i64.wrap (x39.1+1))+x42.1)),v47,x40.1⟩:Zc)]).bind fun l93=>some (.inl (l93,(IntKind.i64.wrap (v26+1)),x59.2.L,x59.2.I))))) (some (.inr l23))) FUEL (l7,0,x21.2.L,x21.2.I)).bind fun l32=>some l32)
theorem jO {p0:(List Int)} {r:(List Zc)}  (h:eO p0=some r):PF 5 [pL eI p0] (pL Zc.enc r):=by
 unfold eO at h
 refine bi ?_
 refine eg Tryz.func5 rfl Tryz.ntmps5 Tryz.results5 rfl (bf [2] (by kernel_rfl) (eo h fun x1 hx1 h=>ae (bd 3 [] [10,11] [(12,.agg [pL eI x1,pI 0])] (bz 1 (n7 hx1) bA) (by kernel_rfl) (ar rfl (bB (cs:=[pL eI x1,pI 0]) rfl rfl (fun b2=>aL [(3,pP b2 0)] (by kernel_rfl) (bN (ai [(4,pN)] (by kernel_rfl) (cH (aa h fun x3 hx3 h=>ae (aA 1 [(14,pP b2 0)] (by kernel_rfl) ?_)))))))))))
 refine ar rfl (aV rfl rfl (ρ1:=[_]) (aC (by exact aZ) (List.Perm.refl _)) (aq hx3) ?_);rintro _ _ ⟨rfl,rfl⟩
 refine aL [(16,pB (decide (0<x3.1)))] (by kernel_rfl) (fu h fun q10 hq10 h=>?_)
 refine av (Y:=(Option Addr×Nat)×((List Zc)×(List Int)×Int)) (fun ((a5,c6),(l7,l8,v9))=>[(3,pP b2 0),(4,pO a5 l7.length c6)]) (fun ((a5,c6),(l7,l8,v9))=>[PRes.b b2 56 [pL eI l8,pI v9],PRes.row a5 l7.length c6 48 15 (List.map Zc.enc l7)]) (fun ((a5,c6),(l7,l8,v9))=>q10=(l7,l8,v9)) ?_ ?_
 ·skip
  refine iQ rfl hq10 (fun hc11 hq10=>?_) fun hc11 hq10=>?_
  ·refine aa hq10 ?_;clear hq10;intro x12 hx12 hq10
   refine ae (aA 2 [(17,pN),(18,pP b2 0)] (by kernel_rfl) ?_)
   refine ar rfl (aV rfl rfl (ρ1:=[_]) (aC (by exact aZ) (List.Perm.refl _)) (fD hx12) ?_);rintro _ _ ⟨rfl,rfl⟩
   refine aa hq10 fun x13 hx13 hq10=>aA 2 [(20,.agg [pI 1,pI 1,pS (⟨#[57,52]⟩:ByteArray),pN,pI 0,pI 0,pI 36525,pI (-1),pI x12.1.Rate,pI x12.1.Amount,pI x12.1.Per,pB x12.1.HasMost,pI x12.1.Most,pB x12.1.HasLeast,pI x12.1.Least]),(21,pP b2 0)] (by kernel_rfl) ?_
   refine ar rfl (aV rfl rfl (ρ1:=[_]) (aC (by exact aZ) (List.Perm.refl _)) (fD hx13) ?_);rintro _ _ ⟨rfl,rfl⟩
   refine aA 1 [(23,.agg [pI 2,pI 1,pS (⟨#[57,53]⟩:ByteArray),pN,pI 0,pI 0,pI 25,pI (-1),pI x13.1.Rate,pI x13.1.Amount,pI x13.1.Per,pB x13.1.HasMost,pI x13.1.Most,pB x13.1.HasLeast,pI x13.1.Least])] (by kernel_rfl) (kb 20 3 rfl rfl (kb 23 3 rfl rfl (ar rfl (bW rfl rfl rfl rfl rfl (eW rfl (eW rfl jD)) rfl rfl rfl rfl (fun b14=>ux 48 15 (aa hq10 fun l17 hl17 hq10=>?_))))))
   refine ar rfl (cV (enc:=Zc.enc) rfl rfl rfl rfl rfl rfl rfl rfl rfl iZ (by exact aZ) hl17 (fun a18 c19=>?_))
   refine aL [(4,pO a18 l17.length c19)] (by kernel_rfl) ?_
   obtain rfl:=osi hq10
   exact au ((a18,c19),(l17,x13.2.L,x13.2.I)) (ke rfl) (bv (aR (aR aZ)) dx) rfl
  refine ag ?_
  refine fN (pg 48 15) ?_
  obtain rfl:=osi hq10
  exact au ((none,0),(([]:(List Zc)),x3.2.L,x3.2.I)) (ke rfl) (bv (aR aZ) dx) rfl
 rintro ⟨⟨a5,c6⟩,⟨l7,l8,v9⟩⟩ τ hz;(try dsimp only at hz);subst q10;(try dsimp only at h);dsimp only [aF]
 refine fW (aa h fun x21 hx21 h=>ae (aA 1 [(26,pP b2 0)] (by kernel_rfl) ?_))
 refine ar rfl (aV rfl rfl (ρ1:=[_]) (aC (by exact aZ) (List.Perm.refl _)) (aq hx21) ?_);rintro _ _ ⟨rfl,rfl⟩
 refine aL [(5,pI 0),(6,pI x21.1)] (by kernel_rfl) (fu h fun q34 hq34 h=>?_)
 refine av (Y:=(Option Addr×Nat)×((List Zc))) (fun ((a30,c31),l32)=>[(4,pO a30 l32.length c31)]) (fun ((a30,c31),l32)=>[PRes.row a30 l32.length c31 48 15 (List.map Zc.enc l32)]) (fun ((a30,c31),l32)=>q34=l32) ?_ ?_
 ·refine an ?_
  refine aY (Y:=Option Addr×Nat) (S:=(List Zc)×Int×(List Int)×Int) _ hq34 (fun (a24,c25) (l23,v26,l27,v28)=>[(3,pP b2 0),(4,pO a24 l23.length c25),(5,pI v26),(6,pI x21.1)]) (fun (a24,c25) (l23,v26,l27,v28)=>[PRes.b b2 56 [pL eI l27,pI v28],PRes.row a24 l23.length c25 48 15 (List.map Zc.enc l23)]) (a5,c6) (kf rfl) ml ?_
  rintro ⟨a24,c25⟩ ⟨l23,v26,l27,v28⟩ o τ hb33;(try dsimp only at hb33);dsimp only [aF]
  refine fW (ah [28,29] [(30,pB (decide (v26<x21.1)))] (by kernel_rfl) (bZ rfl hb33 (fun hc35 hb33=>?_) fun hc35 hb33=>?_))
  ·refine ag ?_
   refine bN (an (af (aa hb33 fun x36 hx36 hb33=>ae (bY 4 [33,34] [(35,pI (IntKind.i64.wrap (3+(IntKind.i64.wrap (2*v26))))),(36,pP b2 0)] (by kernel_rfl) ?_))))
   refine ar rfl (aV rfl rfl (ρ1:=[_]) (aC (by exact aZ) (List.Perm.refl _)) (aq hx36) ?_);rintro _ _ ⟨rfl,rfl⟩
   refine aa hb33 fun x37 hx37 hb33=>aA 3 [(38,pI (IntKind.i64.wrap (1+x36.1))),(39,pP b2 0),(40,pP b2 0)] (by kernel_rfl) ?_
   refine ar rfl (aV rfl rfl (ρ1:=[_]) (aC (by exact aZ) (List.Perm.refl _)) (aq hx37) ?_);rintro _ _ ⟨rfl,rfl⟩
   refine aa hb33 fun x38 hx38 hb33=>bY 2 [42] [(43,pI (IntKind.i64.wrap (2+(IntKind.i64.wrap (2*x37.1)))))] (by kernel_rfl) ?_
   refine ar rfl (aV rfl rfl (ρ1:=[_]) (aC (by exact aZ) (List.Perm.refl _)) (iz hx38) ?_);rintro _ _ ⟨rfl,rfl⟩
   refine aa hb33 fun x39 hx39 hb33=>aA 1 [(45,pP b2 0)] (by kernel_rfl) ?_
   refine ar rfl (aV rfl rfl (ρ1:=[_]) (aC (by exact aZ) (List.Perm.refl _)) (aq hx39) ?_);rintro _ _ ⟨rfl,rfl⟩
   refine aa hb33 fun x40 hx40 hb33=>aA 1 [(47,pP b2 0)] (by kernel_rfl) ?_
   refine ar rfl (aV rfl rfl (ρ1:=[_]) (aC (by exact aZ) (List.Perm.refl _)) (fD hx40) ?_);rintro _ _ ⟨rfl,rfl⟩
   refine aA 1 [(49,.agg [pI (IntKind.i64.wrap (3+(IntKind.i64.wrap (2*v26)))),pI (IntKind.i64.wrap (1+x36.1)),pS x38.1,pN,pI 0,pI x39.1,pI 0,pI (-1),pI x40.1.Rate,pI x40.1.Amount,pI x40.1.Per,pB x40.1.HasMost,pI x40.1.Most,pB x40.1.HasLeast,pI x40.1.Least])] (by kernel_rfl) (ar rfl (be (cs:=[pI 0,pI 0,pS ByteArray.empty,pN,pI 0,pI 0,pI 0,pI 0,pI 0,pI 0,pI 0,pB false,pI 0,pB false,pI 0]) rfl rfl rfl rfl (fun b41=>aQ rfl rfl (ak (vs:=[pI (IntKind.i64.wrap (3+(IntKind.i64.wrap (2*v26)))),pI (IntKind.i64.wrap (1+x36.1)),pS x38.1,pN,pI 0,pI x39.1,pI 0,pI (-1),pI x40.1.Rate,pI x40.1.Amount,pI x40.1.Per,pB x40.1.HasMost,pI x40.1.Most,pB x40.1.HasLeast,pI x40.1.Least]) rfl rfl rfl rfl rfl cn (dg (dg (dg (dg (dg (dg xX)))))) (az (eo hb33 fun x42 hx42 hb33=>?_))))))
   refine av (Y:=Unit) (fun _=>[(3,pP b2 0),(4,pO a24 l23.length c25),(5,pI v26),(6,pI x21.1),(7,pP b41 0)]) (fun _=>[PRes.b b2 56 [pL eI x42.2.L,pI x42.2.I],PRes.b b41 48 [pI (IntKind.i64.wrap (3+(IntKind.i64.wrap (2*v26)))),pI (IntKind.i64.wrap (1+x36.1)),pS x38.1,pN,pI 0,pI x39.1,pI (IntKind.i64.wrap ((IntKind.i64.wrap (x39.1+1))+x42.1)),pI (-1),pI x40.1.Rate,pI x40.1.Amount,pI x40.1.Per,pB x40.1.HasMost,pI x40.1.Most,pB x40.1.HasLeast,pI x40.1.Least],PRes.row a24 l23.length c25 48 15 (List.map Zc.enc l23)]) (fun _=>True) ?_ ?_
   ·refine eN (ρd:=[PRes.b b2 _ _,PRes.b b41 _ _]) _ (aC (aR aZ) (List.Perm.refl _)) ?_
    refine aS 0 (by kernel_rfl) rfl rfl rfl rfl (aJ rfl rfl rfl rfl rfl (.p rfl)) (aS 3 (by kernel_rfl) rfl rfl rfl rfl (bC (p:=pP b2 0) rfl (.p rfl)) ?_)
    refine dI 1 4 (by kernel_rfl) ?_ ?_
    ·skip
     refine aX rfl rfl rfl rfl (eV (bU (p:=pI x39.1) rfl (.p rfl) iZ rfl) (aS 2 (by kernel_rfl) rfl rfl rfl rfl (dw rfl (.p rfl) (.p rfl) rfl) (aW 4 (by kernel_rfl) ?_)))
     refine aX rfl rfl rfl rfl (aV rfl rfl (ρ1:=[_]) (aC (by exact aZ) (List.Perm.refl _)) (aq hx42) ?_);rintro _ _ ⟨rfl,rfl⟩
     refine aS 5 (by kernel_rfl) rfl rfl rfl rfl (dw rfl (.p rfl) (.p rfl) rfl) (aS 6 (by kernel_rfl) rfl rfl rfl rfl (aJ rfl rfl rfl rfl rfl (.p rfl)) (aW 7 (by kernel_rfl) (bq rfl rfl rfl (ak (vs:=[pI (IntKind.i64.wrap ((IntKind.i64.wrap (x39.1+1))+x42.1))]) rfl rfl rfl rfl rfl (cA cn) (bQ (bQ (bQ (bQ (bQ (bQ eX)))))) (bK (by kernel_rfl) ?_)))))
     exact au () (kO rfl) mH trivial
    skip
    refine aX rfl rfl rfl rfl (aV rfl rfl (ρ1:=[_]) (aC (by exact aZ) (List.Perm.refl _)) (aq hx42) ?_);rintro _ _ ⟨rfl,rfl⟩
    refine aW 1 (by kernel_rfl) (aX rfl rfl rfl rfl (eV (bU (p:=pI x39.1) rfl (.p rfl) iZ rfl) (aS 2 (by kernel_rfl) rfl rfl rfl rfl (dw rfl (.p rfl) (.p rfl) rfl) (aS 5 (by kernel_rfl) rfl rfl rfl rfl (dw rfl (.p rfl) (.p rfl) rfl) (aS 6 (by kernel_rfl) rfl rfl rfl rfl (aJ rfl rfl rfl rfl rfl (.p rfl)) (aW 7 (by kernel_rfl) (bq rfl rfl rfl (ak (vs:=[pI (IntKind.i64.wrap ((IntKind.i64.wrap (x39.1+1))+x42.1))]) rfl rfl rfl rfl rfl (cA cn) (bQ (bQ (bQ (bQ (bQ (bQ eX)))))) (bK (by kernel_rfl) ?_)))))))))
    exact au () (kO rfl) mH trivial
   rintro _ τ _;dsimp only [aF]
   refine fW (aa hb33 fun x43 hx43 hb33=>ae (aA 1 [(57,pP b2 0)] (by kernel_rfl) ?_))
   refine ar rfl (aV rfl rfl (ρ1:=[_]) (aC (by exact aZ) (List.Perm.refl _)) (aq hx43) ?_);rintro _ _ ⟨rfl,rfl⟩
   refine aL [(59,pB (x43.1 == 1))] (by kernel_rfl) (fu hb33 fun q48 hq48 hb33=>?_)
   refine av (Y:=Unit×((List Int)×Int×Int)) (fun (_,(l45,v46,v47))=>[(3,pP b2 0),(4,pO a24 l23.length c25),(5,pI v26),(6,pI x21.1),(7,pP b41 0)]) (fun (_,(l45,v46,v47))=>[PRes.b b2 56 [pL eI l45,pI v46],PRes.b b41 48 [pI (IntKind.i64.wrap (3+(IntKind.i64.wrap (2*v26)))),pI (IntKind.i64.wrap (1+x36.1)),pS x38.1,pN,pI 0,pI x39.1,pI (IntKind.i64.wrap ((IntKind.i64.wrap (x39.1+1))+x42.1)),pI v47,pI x40.1.Rate,pI x40.1.Amount,pI x40.1.Per,pB x40.1.HasMost,pI x40.1.Most,pB x40.1.HasLeast,pI x40.1.Least],PRes.row a24 l23.length c25 48 15 (List.map Zc.enc l23)]) (fun (_,(l45,v46,v47))=>q48=(l45,v46,v47)) ?_ ?_
   ·skip
    refine iQ rfl hq48 (fun hc49 hq48=>?_) fun hc49 hq48=>?_
    ·refine aa hq48 ?_;clear hq48;intro x50 hx50 hq48
     refine ae (cq 4 [1] [61,62] [(60,pP b2 0),(63,pI (IntKind.i64.wrap (x39.1+1)))] (by kernel_rfl) ?_)
     refine ar rfl (aV rfl rfl (ρ1:=[_]) (aC (by exact aZ) (List.Perm.refl _)) (aq hx50) ?_);rintro _ _ ⟨rfl,rfl⟩
     refine aA 1 [(65,pP b41 7)] (by kernel_rfl) (aQ rfl rfl (ak (vs:=[pI x50.1]) rfl rfl rfl rfl rfl (cA cn) (bQ (bQ (bQ (bQ (bQ (bQ (bQ eX))))))) (az ?_)))
     obtain rfl:=osi hq48
     exact au ((),(x50.2.L,x50.2.I,x50.1)) (kO rfl) mH rfl
    refine ag ?_
    obtain rfl:=osi hq48
    exact au ((),(x43.2.L,x43.2.I,(-1))) (kO rfl) mH rfl
   rintro ⟨_,⟨l45,v46,v47⟩⟩ τ hz;(try dsimp only at hz);subst q48;(try dsimp only at hb33);dsimp only [aF]
   refine fW (aa hb33 fun x51 hx51 hb33=>ae (aA 1 [(66,pP b2 0)] (by kernel_rfl) ?_))
   refine ar rfl (aV rfl rfl (ρ1:=[_]) (aC (by exact aZ) (List.Perm.refl _)) (aq hx51) ?_);rintro _ _ ⟨rfl,rfl⟩
   refine aL [(68,pB (x51.1 == 1))] (by kernel_rfl) (fu hb33 fun q56 hq56 hb33=>?_)
   refine av (Y:=Unit×((List Int)×Int×Int)) (fun (_,(l53,v54,v55))=>[(3,pP b2 0),(4,pO a24 l23.length c25),(5,pI v26),(6,pI x21.1),(7,pP b41 0)]) (fun (_,(l53,v54,v55))=>[PRes.b b2 56 [pL eI l53,pI v54],PRes.b b41 48 [pI (IntKind.i64.wrap (3+(IntKind.i64.wrap (2*v26)))),pI (IntKind.i64.wrap (1+x36.1)),pS x38.1,pN,pI v55,pI x39.1,pI (IntKind.i64.wrap ((IntKind.i64.wrap (x39.1+1))+x42.1)),pI v47,pI x40.1.Rate,pI x40.1.Amount,pI x40.1.Per,pB x40.1.HasMost,pI x40.1.Most,pB x40.1.HasLeast,pI x40.1.Least],PRes.row a24 l23.length c25 48 15 (List.map Zc.enc l23)]) (fun (_,(l53,v54,v55))=>q56=(l53,v54,v55)) ?_ ?_
   ·skip
    refine iQ rfl hq56 (fun hc57 hq56=>?_) fun hc57 hq56=>?_
    ·refine aa hq56 ?_;clear hq56;intro x58 hx58 hq56
     refine ae (aA 1 [(69,pP b2 0)] (by kernel_rfl) ?_)
     refine ar rfl (aV rfl rfl (ρ1:=[_]) (aC (by exact aZ) (List.Perm.refl _)) (aq hx58) ?_);rintro _ _ ⟨rfl,rfl⟩
     refine aA 2 [(71,pI (IntKind.i64.wrap (1+x58.1))),(72,pP b41 4)] (by kernel_rfl) (aQ rfl rfl (ak (vs:=[pI (IntKind.i64.wrap (1+x58.1))]) rfl rfl rfl rfl rfl (cA cn) (bQ (bQ (bQ (bQ eX)))) (az ?_)))
     obtain rfl:=osi hq56
     exact au ((),(x58.2.L,x58.2.I,(IntKind.i64.wrap (1+x58.1)))) (kO rfl) mH rfl
    refine ag ?_
    obtain rfl:=osi hq56
    exact au ((),(x51.2.L,x51.2.I,0)) (kO rfl) mH rfl
   rintro ⟨_,⟨l53,v54,v55⟩⟩ τ hz;(try dsimp only at hz);subst q56;(try dsimp only at hb33);dsimp only [aF]
   refine af (aa hb33 fun x59 hx59 hb33=>ae (aA 1 [(73,pP b2 0)] (by kernel_rfl) ?_))
   refine ar rfl (aV rfl rfl (ρ1:=[_]) (aC (by exact aZ) (List.Perm.refl _)) (aq hx59) ?_);rintro _ _ ⟨rfl,rfl⟩
   refine aL [(8,pI x59.1)] (by kernel_rfl) (cH (ai [(9,pI 0)] (by kernel_rfl) (aH (dn 9 1 (aa hb33 fun q71 hq71 hb33=>?_)))))
   refine av (Y:=(Option Addr×Nat)×((List ByteArray))) (fun ((a67,c68),l69)=>[(3,pP b2 0),(4,pO a24 l23.length c25),(5,pI v26),(6,pI x21.1),(7,pP b41 0)]) (fun ((a67,c68),l69)=>[PRes.b b2 56 [pL eI x59.2.L,pI x59.2.I],PRes.b b41 48 [pI (IntKind.i64.wrap (3+(IntKind.i64.wrap (2*v26)))),pI (IntKind.i64.wrap (1+x36.1)),pS x38.1,pO a67 l69.length c68,pI v55,pI x39.1,pI (IntKind.i64.wrap ((IntKind.i64.wrap (x39.1+1))+x42.1)),pI v47,pI x40.1.Rate,pI x40.1.Amount,pI x40.1.Per,pB x40.1.HasMost,pI x40.1.Most,pB x40.1.HasLeast,pI x40.1.Least],PRes.row a24 l23.length c25 48 15 (List.map Zc.enc l23),PRes.row a67 l69.length c68 9 1 (List.map eS l69)]) (fun ((a67,c68),l69)=>q71=l69) ?_ ?_
   ·refine an ?_
    refine aY (Y:=Option Addr×Nat) (S:=Int×(List ByteArray)) _ hq71 (fun (a63,c64) (v60,l62)=>[(3,pP b2 0),(4,pO a24 l23.length c25),(5,pI v26),(6,pI x21.1),(7,pP b41 0),(8,pI x59.1),(9,pI v60)]) (fun (a63,c64) (v60,l62)=>[PRes.b b2 56 [pL eI x59.2.L,pI x59.2.I],PRes.b b41 48 [pI (IntKind.i64.wrap (3+(IntKind.i64.wrap (2*v26)))),pI (IntKind.i64.wrap (1+x36.1)),pS x38.1,pO a63 l62.length c64,pI v55,pI x39.1,pI (IntKind.i64.wrap ((IntKind.i64.wrap (x39.1+1))+x42.1)),pI v47,pI x40.1.Rate,pI x40.1.Amount,pI x40.1.Per,pB x40.1.HasMost,pI x40.1.Most,pB x40.1.HasLeast,pI x40.1.Least],PRes.row a24 l23.length c25 48 15 (List.map Zc.enc l23),PRes.row a63 l62.length c64 9 1 (List.map eS l62)]) (none,0) (ui rfl) (bv (aR aZ) (bv (aR aZ) (bv (aR aZ) dx))) ?_
    rintro ⟨a63,c64⟩ ⟨v60,l62⟩ o τ hb70;(try dsimp only at hb70);dsimp only [aF]
    refine fW (ah (rg 75 5) [(80,pB ((decide (v60<3))&&(decide (7<x59.1))))] (by kernel_rfl) (bZ rfl hb70 (fun hc73 hb70=>?_) fun hc73 hb70=>?_))
    ·refine ag ?_
     refine eo hb70 fun q79 hq79 hb70=>?_
     refine av (Y:=(Option Addr×Nat)×((List ByteArray))) (fun ((a76,c77),l78)=>[(3,pP b2 0),(4,pO a24 l23.length c25),(5,pI v26),(6,pI x21.1),(7,pP b41 0),(8,pI x59.1),(9,pI v60)]) (fun ((a76,c77),l78)=>[PRes.b b2 56 [pL eI x59.2.L,pI x59.2.I],PRes.b b41 48 [pI (IntKind.i64.wrap (3+(IntKind.i64.wrap (2*v26)))),pI (IntKind.i64.wrap (1+x36.1)),pS x38.1,pO a76 l78.length c77,pI v55,pI x39.1,pI (IntKind.i64.wrap ((IntKind.i64.wrap (x39.1+1))+x42.1)),pI v47,pI x40.1.Rate,pI x40.1.Amount,pI x40.1.Per,pB x40.1.HasMost,pI x40.1.Most,pB x40.1.HasLeast,pI x40.1.Least],PRes.row a24 l23.length c25 48 15 (List.map Zc.enc l23),PRes.row a76 l78.length c77 9 1 (List.map eS l78)]) (fun ((a76,c77),l78)=>q79=l78) ?_ ?_
     ·skip
      refine an (af (aa hq79 fun u80 hu80 hq79=>aD [] [83,84,85,86] [(87,pB ((dd .i64 (co .i64 x59.1 v60) 1) == 1))] (rI 2 hu80 bA) (by kernel_rfl) (bZ rfl hq79 (fun hc81 hq79=>?_) fun hc81 hq79=>?_)))
      ·refine aa hq79 ?_;clear hq79;intro x82 hx82 hq79
       refine aa hq79 fun m83 hm83 hq79=>aa hq79 fun l86 hl86 hq79=>?_
       refine hI (Y:=Option Addr×Nat) (fun (a87,c88)=>[(3,pP b2 0),(4,pO a24 l23.length c25),(5,pI v26),(6,pI x21.1),(7,pP b41 0),(8,pI x59.1),(9,pI v60)]) (fun (a87,c88)=>[PRes.b b2 56 [pL eI x59.2.L,pI x59.2.I],PRes.b b41 48 [pI (IntKind.i64.wrap (3+(IntKind.i64.wrap (2*v26)))),pI (IntKind.i64.wrap (1+x36.1)),pS x38.1,pO a87 l86.length c88,pI v55,pI x39.1,pI (IntKind.i64.wrap ((IntKind.i64.wrap (x39.1+1))+x42.1)),pI v47,pI x40.1.Rate,pI x40.1.Amount,pI x40.1.Per,pB x40.1.HasMost,pI x40.1.Most,pB x40.1.HasLeast,pI x40.1.Least],PRes.row a24 l23.length c25 48 15 (List.map Zc.enc l23),PRes.row a87 l86.length c88 9 1 (List.map eS l86)]) (fun _=>True) ?_ ?_
       ·refine eN (ρd:=[PRes.row a63 _ _ _ _ _,PRes.b b41 _ _]) _ (aC (aR (aR (aR aZ))) (aC (aR aZ) (List.Perm.refl _))) ?_
        refine aS 0 (by kernel_rfl) rfl rfl rfl rfl (aJ rfl rfl rfl rfl rfl (.p rfl)) (aS 3 (by kernel_rfl) rfl rfl rfl rfl (bC (p:=pI v60) rfl (.p rfl)) ?_)
        refine dI 1 2 (by kernel_rfl) ?_ ?_
        ·skip
         refine aX rfl rfl rfl rfl (eV (bU (p:=pO a63 l62.length c64) rfl (.p rfl) iZ rfl) (aW 2 (by kernel_rfl) (pm rfl rfl rfl rfl rfl rfl (gy hx82) (aS 4 (by kernel_rfl) rfl rfl rfl rfl (sU (enc:=eS) rfl rfl rfl (fun _=>rfl) (.p rfl) (.p rfl) (fun _=>hm83)) (aS 5 (by kernel_rfl) rfl rfl rfl rfl (nr (p:=pS m83) rfl (.p rfl) rfl) (aW 6 (by kernel_rfl) (aX rfl rfl rfl rfl (bW rfl rfl rfl rfl rfl (eW rfl jD) rfl rfl rfl rfl (fun b84=>aW 7 (by kernel_rfl) ?_)))))))))
         refine aX rfl rfl rfl rfl (cV (enc:=eS) rfl rfl rfl rfl rfl rfl rfl rfl rfl eD (by exact aR aZ) hl86 (fun a87 c88=>?_))
         refine aS 8 (by kernel_rfl) rfl rfl rfl rfl (aJ rfl rfl rfl rfl rfl (.p rfl)) (aW 9 (by kernel_rfl) (bq rfl rfl rfl (ak (vs:=[pO a87 l86.length c88]) rfl rfl rfl rfl rfl (cA (cA cn)) (bQ (bQ (bQ eX))) (bK (by kernel_rfl) ?_))))
         exact dM (a87,c88) (ui rfl) (bv (aR (aR (aR aZ))) (bv (aR (aR aZ)) (bv (aR (aR aZ)) dx))) trivial
        skip
        refine pm rfl rfl rfl rfl rfl rfl (gy hx82) (aS 4 (by kernel_rfl) rfl rfl rfl rfl (sU (enc:=eS) rfl rfl rfl (fun _=>rfl) (.p rfl) (.p rfl) (fun _=>hm83)) (aS 5 (by kernel_rfl) rfl rfl rfl rfl (nr (p:=pS m83) rfl (.p rfl) rfl) ?_))
        refine dI 1 6 (by kernel_rfl) ?_ ?_
        ·skip
         refine aX rfl rfl rfl rfl (eV (bU (p:=pO a63 l62.length c64) rfl (.p rfl) iZ rfl) (aW 6 (by kernel_rfl) (aX rfl rfl rfl rfl (bW rfl rfl rfl rfl rfl (eW rfl jD) rfl rfl rfl rfl (fun b84=>aW 7 (by kernel_rfl) ?_)))))
         refine aX rfl rfl rfl rfl (cV (enc:=eS) rfl rfl rfl rfl rfl rfl rfl rfl rfl eD (by exact aR aZ) hl86 (fun a87 c88=>?_))
         refine aS 8 (by kernel_rfl) rfl rfl rfl rfl (aJ rfl rfl rfl rfl rfl (.p rfl)) (aW 9 (by kernel_rfl) (bq rfl rfl rfl (ak (vs:=[pO a87 l86.length c88]) rfl rfl rfl rfl rfl (cA (cA cn)) (bQ (bQ (bQ eX))) (bK (by kernel_rfl) ?_))))
         exact dM (a87,c88) (ui rfl) (bv (aR (aR (aR aZ))) (bv (aR (aR aZ)) (bv (aR (aR aZ)) dx))) trivial
        skip
        refine aX rfl rfl rfl rfl (bW rfl rfl rfl rfl rfl (eW rfl jD) rfl rfl rfl rfl (fun b84=>aW 1 (by kernel_rfl) (aX rfl rfl rfl rfl (eV (bU (p:=pO a63 l62.length c64) rfl (.p rfl) zd rfl) (aW 7 (by kernel_rfl) ?_)))))
        refine aX rfl rfl rfl rfl (cV (enc:=eS) rfl rfl rfl rfl rfl rfl rfl rfl rfl eD (by exact aR aZ) hl86 (fun a87 c88=>?_))
        refine aS 8 (by kernel_rfl) rfl rfl rfl rfl (aJ rfl rfl rfl rfl rfl (.p rfl)) (aW 9 (by kernel_rfl) (bq rfl rfl rfl (ak (vs:=[pO a87 l86.length c88]) rfl rfl rfl rfl rfl (cA (cA cn)) (bQ (bQ (bQ eX))) (bK (by kernel_rfl) ?_))))
        exact dM (a87,c88) (ui rfl) (bv (aR (aR (aR aZ))) (bv (aR (aR aZ)) (bv (aR (aR aZ)) dx))) trivial
       rintro ⟨a87,c88⟩ τ ρ1 hsub90 _;(try dsimp only at hsub90);dsimp only [aF]
       refine aj ?_
       obtain rfl:=osi hq79
       exact au ((a87,c88),l86) (ui rfl) (PSub.trans zs4 hsub90) rfl
      refine ag ?_
      refine aj ?_
      obtain rfl:=osi hq79
      exact au ((a63,c64),l62) (ui rfl) zs4 rfl
     rintro ⟨⟨a76,c77⟩,l78⟩ τ hz;(try dsimp only at hz);subst q79;(try dsimp only at hb70);dsimp only [aF]
     refine ah [81,82] [(9,pI (IntKind.i64.wrap (v60+1)))] (by kernel_rfl) ?_
     exact bm hb70 (a76,c77) (ui rfl) zs4
    refine ba ?_
    refine aI (aB hb70 (fun ht=>aG rfl ?_))
    exact au ((a63,c64),l62) (kO rfl) zs4 ht.symm
   rintro ⟨⟨a67,c68⟩,l69⟩ τ hz;(try dsimp only at hz);subst q71;(try dsimp only at hb33);dsimp only [aF]
   refine ae (aA 1 [(97,pO a24 l23.length c25)] (by kernel_rfl) ?_)
   refine mA (css:=List.map eS l69) (a:=a67) (by exact aR (aR (aR aZ))) ?_
   refine lm (k:=3) (enc:=eS) (xs:=l69) (b:=b41) (a:=a67) rfl eD (cA (cA cn)) (fe 1 [2] [(98,.agg [pI (IntKind.i64.wrap (3+(IntKind.i64.wrap (2*v26)))),pI (IntKind.i64.wrap (1+x36.1)),pS x38.1,pL eS l69,pI v55,pI x39.1,pI (IntKind.i64.wrap ((IntKind.i64.wrap (x39.1+1))+x42.1)),pI v47,pI x40.1.Rate,pI x40.1.Amount,pI x40.1.Per,pB x40.1.HasMost,pI x40.1.Most,pB x40.1.HasLeast,pI x40.1.Least])] (by kernel_rfl) (ar rfl (bW rfl rfl rfl rfl rfl (eW rfl jD) rfl rfl rfl rfl (fun b91=>aa hb33 fun l93 hl93 hb33=>?_))))
   refine ar rfl (cV (enc:=Zc.enc) rfl rfl rfl rfl rfl rfl rfl rfl rfl eD (by exact aR (aR (aR (aR aZ)))) hl93 (fun a94 c95=>?_))
   refine aL [(4,pO a94 l93.length c95)] (by kernel_rfl) (aj (aH (ah [31,32] [(5,pI (IntKind.i64.wrap (v26+1)))] (by kernel_rfl) ?_)))
   exact bm hb33 (a94,c95) (kf rfl) (bv (aR (aR (aR aZ))) dx)
  refine ba ?_
  refine aI (aB hb33 (fun ht=>aG rfl ?_))
  exact au ((a24,c25),l23) (wZ rfl) (bv (aR aZ) bD) ht.symm
 rintro ⟨⟨a30,c31⟩,l32⟩ τ hz;(try dsimp only at hz);subst q34;(try dsimp only at h);dsimp only [aF]
 refine af (ah [101] [(2,pO a30 l32.length c31)] (by kernel_rfl) (aH ?_))
 refine e8 (enc:=Zc.enc) (xs:=l32) 2 rfl (by exact aZ) ?_
 refine cu ?_
 exact zz r h rfl
def iS (p0:(List Int)):Option Zj:=(jN p0 20).bind fun x2=>(cG (⟨x2,0⟩:Zf) 8).bind fun x4=>(di).bind fun x5=>(ap x4.2 4).bind fun x6=>(idx x5 x6.1).bind fun m7=>(ap x6.2 2).bind fun x8=>(ap x8.2 3).bind fun x9=>(ap x9.2 41).bind fun x10=>(ap x10.2 1000).bind fun x11=>(ap x11.2 1000000).bind fun x12=>(ap x12.2 6).bind fun x14=>Option.bind (cond (x14.1 == 1) ((ap x14.2 1000000001).bind fun x21=>(ap x21.2 1000000000001).bind fun x22=>some (x21.1,x22.1,x22.2.L,x22.2.I)) (some (x11.1,x12.1,x14.2.L,x14.2.I))) (fun (v15,v16,l17,v18)=>(ap (⟨l17,v18⟩:Zf) 6).bind fun x23=>Option.bind (cond (x23.1 == 1) (some 0) (some v15)) (fun v24=>(ap x23.2 2).bind fun x27=>Option.bind (cond (x27.1 == 1) ((ap x27.2 (IntKind.i64.wrap (v24+1))).bind fun x31=>some x31.1) (some 0)) (fun v28=>some (⟨x4.1,m7,(x8.1 == 1),x9.1,x10.1,v24,v16,v28⟩:Zj))))
theorem mU {p0:(List Int)} {r:Zj}  (h:iS p0=some r):PF 6 [pL eI p0] (.agg (cw r)):=by
 unfold iS at h
 refine bi ?_
 refine eg Tryz.func6 rfl Tryz.ntmps6 Tryz.results6 rfl (ae (ar rfl (be (cs:=[pS ByteArray.empty,pS ByteArray.empty,pB false,pI 0,pI 0,pI 0,pI 0,pI 0]) rfl rfl rfl rfl (fun b1=>az (eo h fun x2 hx2 h=>ae (bd 3 [] [5,6] [(7,.agg [pL eI x2,pI 0])] (bz 1 (n7 hx2) bA) (by kernel_rfl) (ar rfl (bB (cs:=[pL eI x2,pI 0]) rfl rfl (fun b3=>aL [(3,pP b3 0)] (by kernel_rfl) (bN (bH (ρd:=[PRes.b b3 _ _]) [(0,0),(3,0),(7,0),(10,0),(12,0),(14,0),(16,0),(1,1),(2,1),(4,1),(5,0),(6,0),(8,1),(9,0),(11,1),(13,1),(15,1),(17,1),(18,0),(19,2),(20,1)] _ (List.Perm.refl _) (by kernel_rfl) rfl (aa h fun x4 hx4 h=>gu 7 [(9,pP b3 0),(12,pP b3 0),(16,pP b3 0),(19,pP b3 0),(21,pP b3 0),(23,pP b3 0),(25,pP b3 0)] (by kernel_rfl) ?_))))))))))))
 refine hX rfl rfl rfl (aV rfl rfl (ρ1:=[_]) (aC (by exact aZ) (List.Perm.refl _)) (iz hx4) ?_);rintro _ _ ⟨rfl,rfl⟩
 refine aa h fun x5 hx5 h=>aa h fun x6 hx6 h=>bV 1 [] [] [(11,pL eS x5)] (bz 0 (gy hx5) bA) (by kernel_rfl) ?_
 refine hX rfl rfl rfl (aV rfl rfl (ρ1:=[_]) (aC (by exact aZ) (List.Perm.refl _)) (aq hx6) ?_);rintro _ _ ⟨rfl,rfl⟩
 refine aa h fun m7 hm7 h=>aa h fun x8 hx8 h=>bV 2 [] [14] [(15,pS m7)] (eH 0 eS hm7 bA) (by kernel_rfl) ?_
 refine hX rfl rfl rfl (aV rfl rfl (ρ1:=[_]) (aC (by exact aZ) (List.Perm.refl _)) (aq hx8) ?_);rintro _ _ ⟨rfl,rfl⟩
 refine aa h fun x9 hx9 h=>gu 1 [(18,pB (x8.1 == 1))] (by kernel_rfl) ?_
 refine hX rfl rfl rfl (aV rfl rfl (ρ1:=[_]) (aC (by exact aZ) (List.Perm.refl _)) (aq hx9) ?_);rintro _ _ ⟨rfl,rfl⟩
 refine aa h fun x10 hx10 h=>?_
 refine hX rfl rfl rfl (aV rfl rfl (ρ1:=[_]) (aC (by exact aZ) (List.Perm.refl _)) (aq hx10) ?_);rintro _ _ ⟨rfl,rfl⟩
 refine aa h fun x11 hx11 h=>?_
 refine hX rfl rfl rfl (aV rfl rfl (ρ1:=[_]) (aC (by exact aZ) (List.Perm.refl _)) (aq hx11) ?_);rintro _ _ ⟨rfl,rfl⟩
 refine aa h fun x12 hx12 h=>?_
 refine hX rfl rfl rfl (aV rfl rfl (ρ1:=[_]) (aC (by exact aZ) (List.Perm.refl _)) (aq hx12) ?_);rintro _ _ ⟨rfl,rfl⟩
 refine kp rfl rfl rfl (lq (cs:=[pS x4.1,pS m7,pB (x8.1 == 1),pI x9.1,pI x10.1,pI x11.1,pI x12.1,pI 0]) rfl rfl rfl rfl rfl rfl rfl (rA rfl rfl rfl rfl eX (rA rfl rfl rfl rfl (bQ eX) (rA rfl rfl rfl rfl (bQ (bQ eX)) (rA rfl rfl rfl rfl (bQ (bQ (bQ eX))) (rA rfl rfl rfl rfl (bQ (bQ (bQ (bQ eX)))) (rA rfl rfl rfl rfl (bQ (bQ (bQ (bQ (bQ eX))))) (rA rfl rfl rfl rfl (bQ (bQ (bQ (bQ (bQ (bQ eX)))))) zfn)))))))) (kN (kL rfl rfl rfl rfl rfl) (fun _=>rfl) rfl (fun b13=>rD rfl rfl (ak (vs:=[pS x4.1,pS m7,pB (x8.1 == 1),pI x9.1,pI x10.1,pI x11.1,pI x12.1,pI 0]) rfl rfl rfl rfl rfl cn zl8 (ce (cH (aa h fun x14 hx14 h=>ae (aA 1 [(28,pP b3 0)] (by kernel_rfl) ?_)))))))
 refine ar rfl (aV rfl rfl (ρ1:=[_]) (aC (by exact aR aZ) (List.Perm.refl _)) (aq hx14) ?_);rintro _ _ ⟨rfl,rfl⟩
 refine aL [(30,pB (x14.1 == 1))] (by kernel_rfl) (fu h fun q19 hq19 h=>?_)
 refine av (Y:=Unit×(Int×Int×(List Int)×Int)) (fun (_,(v15,v16,l17,v18))=>[(2,pP b1 0),(3,pP b3 0),(4,pP b13 0)]) (fun (_,(v15,v16,l17,v18))=>[PRes.b b1 32 [pS ByteArray.empty,pS ByteArray.empty,pB false,pI 0,pI 0,pI 0,pI 0,pI 0],PRes.b b13 32 [pS x4.1,pS m7,pB (x8.1 == 1),pI x9.1,pI x10.1,pI v15,pI v16,pI 0],PRes.b b3 56 [pL eI l17,pI v18]]) (fun (_,(v15,v16,l17,v18))=>q19=(v15,v16,l17,v18)) ?_ ?_
 ·skip
  refine iQ rfl hq19 (fun hc20 hq19=>?_) fun hc20 hq19=>?_
  ·refine aa hq19 ?_;clear hq19;intro x21 hx21 hq19
   refine ae (aA 1 [(31,pP b3 0)] (by kernel_rfl) ?_)
   refine ar rfl (aV rfl rfl (ρ1:=[_]) (aC (by exact aZ) (List.Perm.refl _)) (aq hx21) ?_);rintro _ _ ⟨rfl,rfl⟩
   refine aa hq19 fun x22 hx22 hq19=>aA 1 [(33,pP b3 0)] (by kernel_rfl) ?_
   refine ar rfl (aV rfl rfl (ρ1:=[_]) (aC (by exact aZ) (List.Perm.refl _)) (aq hx22) ?_);rintro _ _ ⟨rfl,rfl⟩
   refine aA 1 [(35,pP b13 5)] (by kernel_rfl) (aQ rfl rfl (ak (vs:=[pI x21.1]) rfl rfl rfl rfl rfl (cA cn) (bQ (bQ (bQ (bQ (bQ eX))))) (aA 1 [(36,pP b13 6)] (by kernel_rfl) (aQ rfl rfl (ak (vs:=[pI x22.1]) rfl rfl rfl rfl rfl (cA cn) (bQ (bQ (bQ (bQ (bQ (bQ eX)))))) (az ?_))))))
   obtain rfl:=osi hq19
   exact au ((),(x21.1,x22.1,x22.2.L,x22.2.I)) (jh rfl) (bv (aR (aR aZ)) (bv (aR aZ) dx)) rfl
  refine ag ?_
  obtain rfl:=osi hq19
  exact au ((),(x11.1,x12.1,x14.2.L,x14.2.I)) (jh rfl) (bv (aR (aR aZ)) (bv (aR aZ) dx)) rfl
 rintro ⟨_,⟨v15,v16,l17,v18⟩⟩ τ hz;(try dsimp only at hz);subst q19;(try dsimp only at h);dsimp only [aF]
 refine fW (aa h fun x23 hx23 h=>ae (aA 1 [(37,pP b3 0)] (by kernel_rfl) ?_))
 refine ar rfl (aV rfl rfl (ρ1:=[_]) (aC (by exact aR (aR aZ)) (List.Perm.refl _)) (aq hx23) ?_);rintro _ _ ⟨rfl,rfl⟩
 refine aL [(39,pB (x23.1 == 1))] (by kernel_rfl) (fu h fun q25 hq25 h=>?_)
 refine av (Y:=Unit×Int) (fun (_,v24)=>[(2,pP b1 0),(3,pP b3 0),(4,pP b13 0)]) (fun (_,v24)=>[PRes.b b1 32 [pS ByteArray.empty,pS ByteArray.empty,pB false,pI 0,pI 0,pI 0,pI 0,pI 0],PRes.b b13 32 [pS x4.1,pS m7,pB (x8.1 == 1),pI x9.1,pI x10.1,pI v24,pI v16,pI 0],PRes.b b3 56 [pL eI x23.2.L,pI x23.2.I]]) (fun (_,v24)=>q25=v24) ?_ ?_
 ·skip
  refine iQ rfl hq25 (fun hc26 hq25=>?_) fun hc26 hq25=>?_
  ·refine ae ?_
   refine aA 1 [(40,pP b13 5)] (by kernel_rfl) (aQ rfl rfl (ak (vs:=[pI 0]) rfl rfl rfl rfl rfl (cA (cA cn)) (bQ (bQ (bQ (bQ (bQ eX))))) (az ?_)))
   obtain rfl:=osi hq25
   exact au ((),0) (jh rfl) (bv (aR aZ) (bv (aR aZ) dx)) rfl
  refine ag ?_
  obtain rfl:=osi hq25
  exact au ((),v15) (jh rfl) (bv (aR aZ) (bv (aR aZ) dx)) rfl
 rintro ⟨_,v24⟩ τ hz;(try dsimp only at hz);subst q25;(try dsimp only at h);dsimp only [aF]
 refine fW (aa h fun x27 hx27 h=>ae (aA 1 [(41,pP b3 0)] (by kernel_rfl) ?_))
 refine ar rfl (aV rfl rfl (ρ1:=[_]) (aC (by exact aR (aR aZ)) (List.Perm.refl _)) (aq hx27) ?_);rintro _ _ ⟨rfl,rfl⟩
 refine aL [(43,pB (x27.1 == 1))] (by kernel_rfl) (fu h fun q29 hq29 h=>?_)
 refine av (Y:=Unit×Int) (fun (_,v28)=>[(2,pP b1 0),(4,pP b13 0)]) (fun (_,v28)=>[PRes.b b1 32 [pS ByteArray.empty,pS ByteArray.empty,pB false,pI 0,pI 0,pI 0,pI 0,pI 0],PRes.b b13 32 [pS x4.1,pS m7,pB (x8.1 == 1),pI x9.1,pI x10.1,pI v24,pI v16,pI v28]]) (fun (_,v28)=>q29=v28) ?_ ?_
 ·skip
  refine iQ rfl hq29 (fun hc30 hq29=>?_) fun hc30 hq29=>?_
  ·refine aa hq29 ?_;clear hq29;intro x31 hx31 hq29
   refine ae (cq 4 [2] [45,46] [(44,pP b3 0),(47,pI (IntKind.i64.wrap (v24+1)))] (by kernel_rfl) ?_)
   refine ar rfl (aV rfl rfl (ρ1:=[_]) (aC (by exact aZ) (List.Perm.refl _)) (aq hx31) ?_);rintro _ _ ⟨rfl,rfl⟩
   refine aA 1 [(49,pP b13 7)] (by kernel_rfl) (aQ rfl rfl (ak (vs:=[pI x31.1]) rfl rfl rfl rfl rfl (cA (cA cn)) (bQ (bQ (bQ (bQ (bQ (bQ (bQ eX))))))) (az ?_)))
   obtain rfl:=osi hq29
   exact au ((),x31.1) (ke rfl) (bv (aR aZ) (bv (aR aZ) bD)) rfl
  refine ag ?_
  obtain rfl:=osi hq29
  exact au ((),0) (ke rfl) (bv (aR aZ) (bv (aR aZ) bD)) rfl
 rintro ⟨_,v28⟩ τ hz;(try dsimp only at hz);subst q29;(try dsimp only at h);dsimp only [aF]
 refine af (ae (fe 1 [1] [(50,.agg [pS x4.1,pS m7,pB (x8.1 == 1),pI x9.1,pI x10.1,pI v24,pI v16,pI v28])] (by kernel_rfl) (aQ rfl rfl (ak (vs:=[pS x4.1,pS m7,pB (x8.1 == 1),pI x9.1,pI x10.1,pI v24,pI v16,pI v28]) rfl rfl rfl rfl rfl cn zl8 (az (dB ?_))))))
 obtain rfl:=osi h
 exact aM (gp (dh rfl eD rfl)) bD ⟨rfl,rfl⟩
def ik (p0:Int):Option Int:=Option.bind (cond (decide (65536≤p0)) (some ((co .u32 p0 16),16)) (some (p0,0))) (fun (v1,v2)=>Option.bind (cond (decide (256≤v1)) (some ((co .u32 v1 8),(IntKind.i64.wrap (v2+8)))) (some (v1,v2))) (fun (v5,v6)=>(idx (⟨#[0,1,2,2,3,3,3,3,4,4,4,4,4,4,4,4,5,5,5,5,5,5,5,5,5,5,5,5,5,5,5,5,6,6,6,6,6,6,6,6,6,6,6,6,6,6,6,6,6,6,6,6,6,6,6,6,6,6,6,6,6,6,6,6,7,7,7,7,7,7,7,7,7,7,7,7,7,7,7,7,7,7,7,7,7,7,7,7,7,7,7,7,7,7,7,7,7,7,7,7,7,7,7,7,7,7,7,7,7,7,7,7,7,7,7,7,7,7,7,7,7,7,7,7,7,7,7,7,8,8,8,8,8,8,8,8,8,8,8,8,8,8,8,8,8,8,8,8,8,8,8,8,8,8,8,8,8,8,8,8,8,8,8,8,8,8,8,8,8,8,8,8,8,8,8,8,8,8,8,8,8,8,8,8,8,8,8,8,8,8,8,8,8,8,8,8,8,8,8,8,8,8,8,8,8,8,8,8,8,8,8,8,8,8,8,8,8,8,8,8,8,8,8,8,8,8,8,8,8,8,8,8,8,8,8,8,8,8,8,8,8,8,8,8,8,8,8,8,8,8,8,8,8,8,8,8]⟩:ByteArray).data.toList (IntKind.u8.wrap v5)).bind fun c9=>lb ((IntKind.i64.wrap (v6+(IntKind.i64.wrap (c9.toNat:Int))))) (fun w10=>some w10)))
theorem lS {p0:Int} {r:Int}  (h:ik p0=some r):PF 65 [.v (.int .u32 p0)] (pI r):=by
 unfold ik at h
 refine bi ?_
 refine eg Tryz.func65 rfl Tryz.ntmps65 Tryz.results65 rfl (ai [(2,pI 0)] (by kernel_rfl) (cH (ah [3] [(4,pB (decide (65536≤p0)))] (by kernel_rfl) (fu h fun q3 hq3 h=>?_))))
 refine av (Y:=Unit×(Int×Int)) (fun (_,(v1,v2))=>[(0,.v (.int .u32 v1)),(2,pI v2)]) (fun (_,(v1,v2))=>[]) (fun (_,(v1,v2))=>q3=(v1,v2)) ?_ ?_
 ·skip
  refine iQ rfl hq3 (fun hc4 hq3=>?_) fun hc4 hq3=>?_
  ·refine af ?_
   refine ah [5,6] [(0,.v (.int .u32 (co .u32 p0 16)))] (by kernel_rfl) (aH (ai [(2,pI 16)] (by kernel_rfl) ?_))
   obtain rfl:=osi hq3
   exact au ((),((co .u32 p0 16),16)) (ke rfl) bD rfl
  refine ag ?_
  obtain rfl:=osi hq3
  exact au ((),(p0,0)) (ke rfl) bD rfl
 rintro ⟨_,⟨v1,v2⟩⟩ τ hz;(try dsimp only at hz);subst q3;(try dsimp only at h);dsimp only [aF]
 refine fW (ah [7] [(8,pB (decide (256≤v1)))] (by kernel_rfl) (fu h fun q7 hq7 h=>?_))
 refine av (Y:=Unit×(Int×Int)) (fun (_,(v5,v6))=>[(0,.v (.int .u32 v5)),(2,pI v6)]) (fun (_,(v5,v6))=>[]) (fun (_,(v5,v6))=>q7=(v5,v6)) ?_ ?_
 ·skip
  refine iQ rfl hq7 (fun hc8 hq7=>?_) fun hc8 hq7=>?_
  ·refine af ?_
   refine ah [9,10] [(0,.v (.int .u32 (co .u32 v1 8)))] (by kernel_rfl) (aH (ah [11,12] [(2,pI (IntKind.i64.wrap (v2+8)))] (by kernel_rfl) ?_))
   obtain rfl:=osi hq7
   exact au ((),((co .u32 v1 8),(IntKind.i64.wrap (v2+8)))) (ke rfl) bD rfl
  refine ag ?_
  obtain rfl:=osi hq7
  exact au ((),(v1,v2)) (ke rfl) bD rfl
 rintro ⟨_,⟨v5,v6⟩⟩ τ hz;(try dsimp only at hz);subst q7;(try dsimp only at h);dsimp only [aF]
 refine af (aa h fun c9 hc9 h=>?_)
 refine cL h ?_;clear h;intro w10 hw10 h
 refine ae (bd 6 [] (rg 13 5) [(18,pI (IntKind.i64.wrap (v6+(IntKind.i64.wrap (c9.toNat:Int)))))] (fosx 3 (s:=(⟨#[0,1,2,2,3,3,3,3,4,4,4,4,4,4,4,4,5,5,5,5,5,5,5,5,5,5,5,5,5,5,5,5,6,6,6,6,6,6,6,6,6,6,6,6,6,6,6,6,6,6,6,6,6,6,6,6,6,6,6,6,6,6,6,6,7,7,7,7,7,7,7,7,7,7,7,7,7,7,7,7,7,7,7,7,7,7,7,7,7,7,7,7,7,7,7,7,7,7,7,7,7,7,7,7,7,7,7,7,7,7,7,7,7,7,7,7,7,7,7,7,7,7,7,7,7,7,7,7,8,8,8,8,8,8,8,8,8,8,8,8,8,8,8,8,8,8,8,8,8,8,8,8,8,8,8,8,8,8,8,8,8,8,8,8,8,8,8,8,8,8,8,8,8,8,8,8,8,8,8,8,8,8,8,8,8,8,8,8,8,8,8,8,8,8,8,8,8,8,8,8,8,8,8,8,8,8,8,8,8,8,8,8,8,8,8,8,8,8,8,8,8,8,8,8,8,8,8,8,8,8,8,8,8,8,8,8,8,8,8,8,8,8,8,8,8,8,8,8,8,8,8,8,8,8,8,8]⟩:ByteArray)) hc9 bA) (by kernel_rfl) (bE rfl rfl rfl (bc rfl (.p (congrArg (fun z=>PV.v (Value.int .i64 z)) hw10))) (az (dB ?_))))
 exact zz r h rfl
def fK (p0:Int):Option Int:=Option.bind (cond (decide (4294967296≤p0)) (some ((co .u64 p0 32),32)) (some (p0,0))) (fun (v1,v2)=>Option.bind (cond (decide (65536≤v1)) (some ((co .u64 v1 16),(IntKind.i64.wrap (v2+16)))) (some (v1,v2))) (fun (v5,v6)=>Option.bind (cond (decide (256≤v5)) (some ((co .u64 v5 8),(IntKind.i64.wrap (v6+8)))) (some (v5,v6))) (fun (v9,v10)=>(idx (⟨#[0,1,2,2,3,3,3,3,4,4,4,4,4,4,4,4,5,5,5,5,5,5,5,5,5,5,5,5,5,5,5,5,6,6,6,6,6,6,6,6,6,6,6,6,6,6,6,6,6,6,6,6,6,6,6,6,6,6,6,6,6,6,6,6,7,7,7,7,7,7,7,7,7,7,7,7,7,7,7,7,7,7,7,7,7,7,7,7,7,7,7,7,7,7,7,7,7,7,7,7,7,7,7,7,7,7,7,7,7,7,7,7,7,7,7,7,7,7,7,7,7,7,7,7,7,7,7,7,8,8,8,8,8,8,8,8,8,8,8,8,8,8,8,8,8,8,8,8,8,8,8,8,8,8,8,8,8,8,8,8,8,8,8,8,8,8,8,8,8,8,8,8,8,8,8,8,8,8,8,8,8,8,8,8,8,8,8,8,8,8,8,8,8,8,8,8,8,8,8,8,8,8,8,8,8,8,8,8,8,8,8,8,8,8,8,8,8,8,8,8,8,8,8,8,8,8,8,8,8,8,8,8,8,8,8,8,8,8,8,8,8,8,8,8,8,8,8,8,8,8,8,8,8,8,8,8]⟩:ByteArray).data.toList (IntKind.u8.wrap v9)).bind fun c13=>lb ((IntKind.i64.wrap (v10+(IntKind.i64.wrap (c13.toNat:Int))))) (fun w14=>some w14))))
theorem i0 {p0:Int} {r:Int}  (h:fK p0=some r):PF 66 [pU p0] (pI r):=by
 unfold fK at h
 refine bi ?_
 refine eg Tryz.func66 rfl Tryz.ntmps66 Tryz.results66 rfl (ai [(2,pI 0)] (by kernel_rfl) (cH (ah [3] [(4,pB (decide (4294967296≤p0)))] (by kernel_rfl) (fu h fun q3 hq3 h=>?_))))
 refine av (Y:=Unit×(Int×Int)) (fun (_,(v1,v2))=>[(0,pU v1),(2,pI v2)]) (fun (_,(v1,v2))=>[]) (fun (_,(v1,v2))=>q3=(v1,v2)) ?_ ?_
 ·skip
  refine iQ rfl hq3 (fun hc4 hq3=>?_) fun hc4 hq3=>?_
  ·refine af ?_
   refine ah [5,6] [(0,pU (co .u64 p0 32))] (by kernel_rfl) (aH (ai [(2,pI 32)] (by kernel_rfl) ?_))
   obtain rfl:=osi hq3
   exact au ((),((co .u64 p0 32),32)) (ke rfl) bD rfl
  refine ag ?_
  obtain rfl:=osi hq3
  exact au ((),(p0,0)) (ke rfl) bD rfl
 rintro ⟨_,⟨v1,v2⟩⟩ τ hz;(try dsimp only at hz);subst q3;(try dsimp only at h);dsimp only [aF]
 refine fW (ah [7] [(8,pB (decide (65536≤v1)))] (by kernel_rfl) (fu h fun q7 hq7 h=>?_))
 refine av (Y:=Unit×(Int×Int)) (fun (_,(v5,v6))=>[(0,pU v5),(2,pI v6)]) (fun (_,(v5,v6))=>[]) (fun (_,(v5,v6))=>q7=(v5,v6)) ?_ ?_
 ·skip
  refine iQ rfl hq7 (fun hc8 hq7=>?_) fun hc8 hq7=>?_
  ·refine af ?_
   refine ah [9,10] [(0,pU (co .u64 v1 16))] (by kernel_rfl) (aH (ah [11,12] [(2,pI (IntKind.i64.wrap (v2+16)))] (by kernel_rfl) ?_))
   obtain rfl:=osi hq7
   exact au ((),((co .u64 v1 16),(IntKind.i64.wrap (v2+16)))) (ke rfl) bD rfl
  refine ag ?_
  obtain rfl:=osi hq7
  exact au ((),(v1,v2)) (ke rfl) bD rfl
 rintro ⟨_,⟨v5,v6⟩⟩ τ hz;(try dsimp only at hz);subst q7;(try dsimp only at h);dsimp only [aF]
 refine fW (ah [13] [(14,pB (decide (256≤v5)))] (by kernel_rfl) (fu h fun q11 hq11 h=>?_))
 refine av (Y:=Unit×(Int×Int)) (fun (_,(v9,v10))=>[(0,pU v9),(2,pI v10)]) (fun (_,(v9,v10))=>[]) (fun (_,(v9,v10))=>q11=(v9,v10)) ?_ ?_
 ·skip
  refine iQ rfl hq11 (fun hc12 hq11=>?_) fun hc12 hq11=>?_
  ·refine af ?_
   refine ah [15,16] [(0,pU (co .u64 v5 8))] (by kernel_rfl) (aH (ah [17,18] [(2,pI (IntKind.i64.wrap (v6+8)))] (by kernel_rfl) ?_))
   obtain rfl:=osi hq11
   exact au ((),((co .u64 v5 8),(IntKind.i64.wrap (v6+8)))) (ke rfl) bD rfl
  refine ag ?_
  obtain rfl:=osi hq11
  exact au ((),(v5,v6)) (ke rfl) bD rfl
 rintro ⟨_,⟨v9,v10⟩⟩ τ hz;(try dsimp only at hz);subst q11;(try dsimp only at h);dsimp only [aF]
 refine af (aa h fun c13 hc13 h=>?_)
 refine cL h ?_;clear h;intro w14 hw14 h
 refine ae (bd 6 [] (rg 19 5) [(24,pI (IntKind.i64.wrap (v10+(IntKind.i64.wrap (c13.toNat:Int)))))] (fosx 3 (s:=(⟨#[0,1,2,2,3,3,3,3,4,4,4,4,4,4,4,4,5,5,5,5,5,5,5,5,5,5,5,5,5,5,5,5,6,6,6,6,6,6,6,6,6,6,6,6,6,6,6,6,6,6,6,6,6,6,6,6,6,6,6,6,6,6,6,6,7,7,7,7,7,7,7,7,7,7,7,7,7,7,7,7,7,7,7,7,7,7,7,7,7,7,7,7,7,7,7,7,7,7,7,7,7,7,7,7,7,7,7,7,7,7,7,7,7,7,7,7,7,7,7,7,7,7,7,7,7,7,7,7,8,8,8,8,8,8,8,8,8,8,8,8,8,8,8,8,8,8,8,8,8,8,8,8,8,8,8,8,8,8,8,8,8,8,8,8,8,8,8,8,8,8,8,8,8,8,8,8,8,8,8,8,8,8,8,8,8,8,8,8,8,8,8,8,8,8,8,8,8,8,8,8,8,8,8,8,8,8,8,8,8,8,8,8,8,8,8,8,8,8,8,8,8,8,8,8,8,8,8,8,8,8,8,8,8,8,8,8,8,8,8,8,8,8,8,8,8,8,8,8,8,8,8,8,8,8,8,8]⟩:ByteArray)) hc13 bA) (by kernel_rfl) (bE rfl rfl rfl (bc rfl (.p (congrArg (fun z=>PV.v (Value.int .i64 z)) hw14))) (az (dB ?_))))
 exact zz r h rfl
def jz (p0:Int):Option Int:=cond false ((ik (IntKind.u32.wrap p0)).bind fun x2=>some x2) ((fK p0).bind fun x3=>some x3)
theorem nG {p0:Int} {r:Int}  (h:jz p0=some r):PF 45 [pU p0] (pI r):=by
 unfold jz at h
 refine bi ?_
 refine eg Tryz.func45 rfl Tryz.ntmps45 Tryz.results45 rfl (bf [2] (by kernel_rfl) (bN (iQ rfl h (fun hc1 h=>?_) fun hc1 h=>?_)))
 ·refine af ?_
  refine aa h fun x2 hx2 h=>aD [] [3,4,5] [(2,pI x2)] (bz 2 (lS hx2) bA) (by kernel_rfl) (fB ?_)
  exact zz r h rfl
 refine ag ?_
 refine eo h fun x3 hx3 h=>aD [] [6,7] [(2,pI x3)] (bz 1 (i0 hx3) bA) (by kernel_rfl) (dB ?_)
 exact zz r h rfl
def i7 (p0:(List Int)):Option Int:=(bk (S:=Int) (T:=(Unit)⊕(_)) (fun v1=>cond (decide (v1<(p0.length:Int))) ((idx p0 v1).bind fun m5=>cond (m5 != 0) (some (.inr (.inr m5))) (some (.inl (IntKind.i64.wrap (v1+1))))) (some (.inr (.inl ())))) FUEL 0).bind fun q=>match q with | .inl _=>some (0:Int) | .inr e=>some e
theorem qo {p0:(List Int)} {r:Int}  (h:i7 p0=some r):PF 24 [pL eI p0] (pI r):=by
 unfold i7 at h
 refine bi ?_
 refine eg Tryz.func24 rfl Tryz.ntmps24 Tryz.results24 rfl (bf [2] (by kernel_rfl) (bN (ai [(3,pI 0)] (by kernel_rfl) (cH (ai [(6,pL eI p0),(7,pI (p0.length:Int)),(8,pI 0)] (by kernel_rfl) (fu h fun q3 hq3 h=>?_))))))
 refine av (Y:=Unit×Unit) (fun (_,_)=>[(3,pI 0)]) (fun (_,_)=>[]) (fun (_,_)=>q3=Sum.inl ()) ?_ ?_
 ·refine an ?_
  refine aY (Y:=Unit) (S:=Int) _ hq3 (fun _ v1=>[(3,pI 0),(6,pL eI p0),(7,pI (p0.length:Int)),(8,pI v1)]) (fun _ v1=>[]) () (kf rfl) bD ?_
  rintro _ v1 o τ hb2;(try dsimp only at hb2);dsimp only [aF]
  refine af (ai [(9,pB (decide (v1<(p0.length:Int))))] (by kernel_rfl) (bN (iQ rfl hb2 (fun hc4 hb2=>?_) fun hc4 hb2=>?_)))
  ·refine ag ?_
   refine bN (an (af (aa hb2 fun m5 hm5 hb2=>aD [] [10,11] [(5,pI m5)] (eH 0 eI hm5 bA) (by kernel_rfl) (bN (ah [12,13] [(14,pB (m5 != 0))] (by kernel_rfl) (bZ rfl hb2 (fun hc6 hb2=>?_) fun hc6 hb2=>?_))))))
   ·refine af ?_
    refine ah [15] [(2,pI m5)] (by kernel_rfl) (dB (aw (aP ?_)))
    refine bp hb2 (fun ht=>?_);subst ht
    refine aw (bt ?_)
    exact zz r h rfl
   refine ag ?_
   refine aj (aH (ah [16] [(8,pI (IntKind.i64.wrap (v1+1)))] (by kernel_rfl) ?_))
   exact bm hb2 () (kf rfl) bD
  refine ba ?_
  refine aI (aB hb2 (fun ht=>aG rfl ?_))
  exact au ((),()) (wZ rfl) bD ht.symm
 rintro ⟨_,_⟩ τ hz;(try dsimp only at hz);subst q3;(try dsimp only at h);dsimp only [aF]
 refine af (ah [17] [(2,pI 0)] (by kernel_rfl) (dB ?_))
 exact zz r h rfl
def fH (p0:Int):Option Bool:=some (p0 != p0)
theorem jP {p0:Int} {r:Bool}  (h:fH p0=some r):PF 46 [pI p0] (pB r):=by
 unfold fH at h
 refine bi ?_
 refine eg Tryz.func46 rfl Tryz.ntmps46 Tryz.results46 rfl (bf [2] (by kernel_rfl) (bN (ah [3,4,5] [(2,pB (p0 != p0))] (by kernel_rfl) (dB ?_))))
 exact zz r h rfl
def dr (p0:Int) (p1:Int):Option Int:=(fH p0).bind fun x1=>(fH p1).bind fun x2=>cond x1 (cond x2 (some (0:Int)) (some (-1))) (cond x2 (some (1:Int)) (cond (decide (p0<p1)) (some (-1)) (cond (decide (p1<p0)) (some (1:Int)) (some (0:Int)))))
theorem fP {p0:Int} {p1:Int} {r:Int}  (h:dr p0 p1=some r):PF 25 [pI p0,pI p1] (pI r):=by
 unfold dr at h
 refine bi ?_
 refine eg Tryz.func25 rfl Tryz.ntmps25 Tryz.results25 rfl (bf [4] (by kernel_rfl) (eo h fun x1 hx1 h=>aD [] [7,8] [(5,pB x1)] (bz 1 (jP hx1) bA) (by kernel_rfl) (eo h fun x2 hx2 h=>aD [] [9,10] [(6,pB x2)] (bz 1 (jP hx2) bA) (by kernel_rfl) (cH (ai [(11,pB x1)] (by kernel_rfl) (bZ rfl h (fun hc3 h=>?_) fun hc3 h=>?_))))))
 ·refine af ?_
  refine af (ai [(12,pB x2)] (by kernel_rfl) (bZ rfl h (fun hc4 h=>?_) fun hc4 h=>?_))
  ·refine af ?_
   refine ai [(4,pI 0)] (by kernel_rfl) (fB (aP ?_))
   exact zz r h rfl
  refine ag ?_
  refine bN (ai [(4,pI (-1))] (by kernel_rfl) (fB ?_))
  exact zz r h rfl
 refine ag ?_
 refine cH (ai [(13,pB x2)] (by kernel_rfl) (bZ rfl h (fun hc5 h=>?_) fun hc5 h=>?_))
 ·refine af ?_
  refine ai [(4,pI 1)] (by kernel_rfl) (fB ?_)
  exact zz r h rfl
 refine ag ?_
 refine cH (ah [14,15] [(16,pB (decide (p0<p1)))] (by kernel_rfl) (bZ rfl h (fun hc6 h=>?_) fun hc6 h=>?_))
 ·refine af ?_
  refine ai [(4,pI (-1))] (by kernel_rfl) (fB ?_)
  exact zz r h rfl
 refine ag ?_
 refine cH (ah [17,18] [(19,pB (decide (p1<p0)))] (by kernel_rfl) (bZ rfl h (fun hc7 h=>?_) fun hc7 h=>?_))
 ·refine af ?_
  refine ai [(4,pI 1)] (by kernel_rfl) (fB ?_)
  exact zz r h rfl
 refine ag ?_
 refine bN (ai [(4,pI 0)] (by kernel_rfl) (dB ?_))
 exact zz r h rfl
def ea (p0:Zb) (p1:Zb):Option Int:=(dr p0.kind p1.kind).bind fun x3=>(dr p0.measure p1.measure).bind fun x4=>(i7 [x3,x4]).bind fun x6=>some x6
theorem kh {p0:Zb} {p1:Zb} {r:Int}  (h:ea p0 p1=some r):PF 23 [.agg [pI p0.kind,pI p0.measure],.agg [pI p1.kind,pI p1.measure]] (pI r):=by
 unfold ea at h
 refine bi ?_
 refine eg Tryz.func23 rfl Tryz.ntmps23 Tryz.results23 rfl (ae (ar rfl (bB (cs:=[pI p0.kind,pI p0.measure]) rfl rfl (fun b1=>ar rfl (bB (cs:=[pI p1.kind,pI p1.measure]) rfl rfl (fun b2=>bu [4] (by kernel_rfl) (bN (bH (ρd:=[]) [(0,0),(1,0),(2,0),(3,0),(5,0),(6,0),(7,0),(8,0),(4,1),(9,1),(10,1),(11,1),(12,0)] _ (List.Perm.refl _) (by kernel_rfl) rfl (aa h fun x3 hx3 h=>aa h fun x4 hx4 h=>bV 10 [1,0,1,0] [5,6,7,8,10,11,12,13] [(9,pI x3),(14,pI x4)] (bz 8 (fP hx3) (bz 9 (fP hx4) bA)) (by kernel_rfl) ?_)))))))))
 refine hX rfl rfl rfl (pl_fz (bW rfl rfl rfl rfl rfl (eW rfl (eW rfl jD)) rfl rfl rfl rfl (fun b5=>⟨_,_,_,_,_,_,_,rfl,by (repeat (first | exact aZ | apply aR)),?_⟩)))
 refine aa h fun x6 hx6 h=>bV 2 [] [16] [(4,pI x6)] (bz 0 (qo hx6) bA) (by kernel_rfl) (ce (dB ?_))
 exact zz r h rfl
def eM (p0:(List Za)) (p1:(List Za)):Option Bool:=cond ((p0.length:Int) != (p1.length:Int)) (some false) ((bk (S:=Int) (T:=(Unit)⊕(_)) (fun v2=>cond (decide (v2<(p0.length:Int))) ((idx p0 v2).bind fun m6=>(idx p1 v2).bind fun m7=>cond (!(Za.eqb m6 m7)) (some (.inr (.inr false))) (some (.inl (IntKind.i64.wrap (v2+1))))) (some (.inr (.inl ())))) FUEL 0).bind fun q=>match q with | .inl _=>some true | .inr e=>some e)
theorem lT {p0:(List Za)} {p1:(List Za)} {r:Bool}  (h:eM p0 p1=some r):PF 8 [pL Za.enc p0,pL Za.enc p1] (pB r):=by
 unfold eM at h
 refine bi ?_
 refine eg Tryz.func8 rfl Tryz.ntmps8 Tryz.results8 rfl (bf [4] (by kernel_rfl) (cH (ah [6,7,8,9] [(10,pB ((p0.length:Int) != (p1.length:Int)))] (by kernel_rfl) (bZ rfl h (fun hc1 h=>?_) fun hc1 h=>?_))))
 ·refine af ?_
  refine ai [(4,pB false)] (by kernel_rfl) (fB ?_)
  exact zz r h rfl
 refine ag ?_
 refine cH (ai [(5,pI 0)] (by kernel_rfl) (fu h fun q4 hq4 h=>?_))
 refine av (Y:=Unit×Unit) (fun (_,_)=>[]) (fun (_,_)=>[]) (fun (_,_)=>q4=Sum.inl ()) ?_ ?_
 ·refine an ?_
  refine aY (Y:=Unit) (S:=Int) _ hq4 (fun _ v2=>[(0,pL Za.enc p0),(1,pL Za.enc p1),(5,pI v2)]) (fun _ v2=>[]) () (jh rfl) bD ?_
  rintro _ v2 o τ hb3;(try dsimp only at hb3);dsimp only [aF]
  refine fW (ah [11,12,13] [(14,pB (decide (v2<(p0.length:Int))))] (by kernel_rfl) (bZ rfl hb3 (fun hc5 hb3=>?_) fun hc5 hb3=>?_))
  ·refine ag ?_
   refine bN (an (af (bH (ρd:=[]) [(0,0),(1,0),(2,0),(3,0),(4,0),(5,0),(6,0),(7,0),(8,0)] _ (List.Perm.refl _) (by kernel_rfl) rfl (aa hb3 fun m6 hm6 hb3=>aa hb3 fun m7 hm7 hb3=>bV 9 [] (rg 17 8) [(25,pB (!(Za.eqb m6 m7)))] (eH 2 Za.enc hm6 (eH 6 Za.enc hm7 (foeq 8 Za.eqok37 bA))) (by kernel_rfl) (ce (bZ rfl hb3 (fun hc8 hb3=>?_) fun hc8 hb3=>?_))))))
   ·refine af ?_
    refine ai [(4,pB false)] (by kernel_rfl) (dB (aw (aP ?_)))
    refine bp hb3 (fun ht=>?_);subst ht
    refine aw (bt ?_)
    exact zz r h rfl
   refine ag ?_
   refine aj (aH (ah [15,16] [(5,pI (IntKind.i64.wrap (v2+1)))] (by kernel_rfl) ?_))
   exact bm hb3 () (jh rfl) bD
  refine ba ?_
  refine aI (aB hb3 (fun ht=>aG rfl ?_))
  exact au ((),()) lw bD ht.symm
 rintro ⟨_,_⟩ τ hz;(try dsimp only at hz);subst q4;(try dsimp only at h);dsimp only [aF]
 refine af (ai [(4,pB true)] (by kernel_rfl) (dB ?_))
 exact zz r h rfl
def f0 (p0:(List Za)) (p1:Za) (p2:Int):Option (List Za):=(bk (S:=Int) (T:=(Int)) (fun v2=>(gd (decide (v2<((p0.length:Nat):Int))) (idx p0 v2)).bind fun m7=>(gd ((decide (v2<((p0.length:Nat):Int)))&&(!(decide (m7.Kind<p1.Kind)))) (idx p0 v2)).bind fun m8=>(gd (((decide (v2<((p0.length:Nat):Int)))&&(!(decide (m7.Kind<p1.Kind))))&&(m8.Kind == p1.Kind)) (idx p0 v2)).bind fun m9=>cond ((decide (v2<((p0.length:Nat):Int)))&&((decide (m7.Kind<p1.Kind))||((m8.Kind == p1.Kind)&&(decide (m9.Measure<p1.Measure))))) (some (.inl (IntKind.i64.wrap (v2+1)))) (some (.inr v2))) FUEL 0).bind fun v4=>(gd (!(v4 == ((p0.length:Nat):Int))) (idx p0 v4)).bind fun m11=>(gd (!((v4 == ((p0.length:Nat):Int))||(m11.Kind != p1.Kind))) (idx p0 v4)).bind fun m12=>Option.bind (cond (((v4 == ((p0.length:Nat):Int))||(m11.Kind != p1.Kind))||(m12.Measure != p1.Measure)) ((sub p0 0 v4).bind fun l19=>(sub p0 v4 (p0.length:Int)).bind fun l20=>(app 40 ([]:List Za) l19).bind fun l23=>(app 40 l23 [(⟨p1.Kind,p1.Measure,0,0,0⟩:Za)]).bind fun l29=>(app 40 l29 l20).bind fun l33=>some l33) (some p0)) (fun l16=>(idx l16 v4).bind fun m39=>(idx l16 v4).bind fun m40=>some (l16.set v4.toNat (⟨m40.Kind,m40.Measure,m40.Quantity,m40.Value,(IntKind.i64.wrap (m39.Amount+(IntKind.i64.wrap (p2*p1.Amount))))⟩:Za)))
theorem mV {p0:(List Za)} {p1:Za} {p2:Int} {a_0:Option Addr}  {n_0:Nat}  {c_0:Nat} {r:(List Za)}  (h:f0 p0 p1 p2=some r):PCall 26 [.v (.slice a_0 n_0 c_0),.agg (cD p1),pI p2] [PRes.row a_0 n_0 c_0 37 5 (List.map Za.enc p0)] (fun pv ρ'=>∃ a c,pv=.v (.slice a r.length c)∧ρ'=[PRes.row a r.length c 37 5 (List.map Za.enc r)]):=by
 unfold f0 at h
 refine gW Tryz.func26 rfl Tryz.ntmps26 Tryz.results26 rfl ?_
 refine fb (enc:=Za.enc) (xs:=p0) (a:=a_0) eD (fun hl ha=>?_);subst hl;clear ha
 refine af (ae (ar rfl (bB (cs:=(cD p1)) rfl rfl (fun b1=>bu [6] (by kernel_rfl) (bN (ai [(7,pI 0)] (by kernel_rfl) (eo h fun q6 hq6 h=>?_)))))))
 refine av (Y:=Unit×Int) (fun (_,v4)=>[(0,pO a_0 p0.length c_0),(2,pI p2),(4,pP b1 0),(7,pI v4)]) (fun (_,v4)=>[PRes.b b1 37 (cD p1),PRes.row a_0 p0.length c_0 37 5 (List.map Za.enc p0)]) (fun (_,v4)=>q6=v4) ?_ ?_
 ·refine an ?_
  refine aY (Y:=Unit) (S:=Int) _ hq6 (fun _ v2=>[(0,pO a_0 p0.length c_0),(2,pI p2),(4,pP b1 0),(7,pI v2)]) (fun _ v2=>[PRes.b b1 37 (cD p1),PRes.row a_0 p0.length c_0 37 5 (List.map Za.enc p0)]) () (kf rfl) ml ?_
  rintro _ v2 o τ hb5;(try dsimp only at hb5);dsimp only [aF]
  refine fW (bH (ρd:=[]) [(0,0),(1,0),(2,0),(3,0),(4,0),(5,0),(6,0),(7,0),(8,0),(9,0),(10,0),(11,0),(12,0),(13,0),(14,0),(15,0),(16,0),(17,0),(18,0),(19,0),(20,0),(21,0),(22,0),(23,0),(24,0),(25,0),(26,0),(27,0),(28,0),(29,0),(30,0),(31,0),(32,0),(33,0)] _ (List.Perm.refl _) (by kernel_rfl) rfl (aa hb5 fun m7 hm7 hb5=>mS 7 [8,9,10,11] [(12,pB (decide (v2<((p0.length:Nat):Int)))),(13,pgv (decide (v2<((p0.length:Nat):Int))) (pO a_0 p0.length c_0)),(14,pgv (decide (v2<((p0.length:Nat):Int))) (pI v2))] (by kernel_rfl) (bX (ec rfl rfl rfl) rfl rfl (bo (enc:=Za.enc) (xs:=p0) rfl rfl rfl (.g rfl) iZ (.g rfl) (cB hm7)) (bX (ec rfl rfl rfl) rfl rfl (aJ rfl rfl rfl rfl rfl (.g rfl)) (bX (ec rfl rfl rfl) rfl rfl (bj (sz:=5) (p:=pI m7.Kind) (enc:=Za.enc) (xs:=p0) (a:=a_0) v2 0 m7 rfl (.g rfl) rfl iZ (cB hm7) rfl) (kS 2 [0] [18] [(19,pgv (decide (v2<((p0.length:Nat):Int))) (pI p1.Kind))] (by kernel_rfl) (bX (ec rfl rfl rfl) rfl rfl (lO rfl (.g rfl) (.g rfl) rfl) (bX (ec rfl rfl rfl) rfl rfl (bC (p:=pB (decide (m7.Kind<p1.Kind))) rfl (.g rfl)) (bX (ed rfl rfl rfl) rfl rfl (bC (p:=pO a_0 p0.length c_0) rfl (.p rfl)) (bX (ed rfl rfl rfl) rfl rfl (bC (p:=pI v2) rfl (.p rfl)) (aa hb5 fun m8 hm8 hb5=>bX (ed rfl rfl rfl) rfl rfl (bo (enc:=Za.enc) (xs:=p0) rfl rfl rfl (.g rfl) iZ (.g rfl) (cB hm8)) (bX (ed rfl rfl rfl) rfl rfl (aJ rfl rfl rfl rfl rfl (.g rfl)) (bX (ed rfl rfl rfl) rfl rfl (bj (sz:=5) (p:=pI m8.Kind) (enc:=Za.enc) (xs:=p0) (a:=a_0) v2 0 m8 rfl (.g rfl) rfl iZ (cB hm8) rfl) (bX (ed rfl rfl rfl) rfl rfl (aJ rfl rfl rfl rfl rfl (.p rfl)) (bX (ed rfl rfl rfl) rfl rfl (bU (p:=pI p1.Kind) rfl (.g rfl) eD rfl) (bX (ed rfl rfl rfl) rfl rfl (lO rfl (.g rfl) (.g rfl) rfl) (bX (ed rfl rfl rfl) rfl rfl (bC (p:=pB (m8.Kind == p1.Kind)) rfl (.g rfl)) (bX (fx rfl rfl rfl) rfl rfl (bC (p:=pO a_0 p0.length c_0) rfl (.p rfl)) (bX (fx rfl rfl rfl) rfl rfl (bC (p:=pI v2) rfl (.p rfl)) (aa hb5 fun m9 hm9 hb5=>bX (fx rfl rfl rfl) rfl rfl (bo (enc:=Za.enc) (xs:=p0) rfl rfl rfl (.g rfl) iZ (.g rfl) (cB hm9)) (bX (fx rfl rfl rfl) rfl rfl (aJ rfl rfl rfl rfl rfl (.g rfl)) (bX (fx rfl rfl rfl) rfl rfl (bj (sz:=5) (p:=pI m9.Measure) (enc:=Za.enc) (xs:=p0) (a:=a_0) v2 1 m9 rfl (.g rfl) rfl iZ (cB hm9) rfl) (bX (fx rfl rfl rfl) rfl rfl (aJ rfl rfl rfl rfl rfl (.p rfl)) (bX (fx rfl rfl rfl) rfl rfl (bU (p:=pI p1.Measure) rfl (.g rfl) eD rfl) (bX (fx rfl rfl rfl) rfl rfl (lO rfl (.g rfl) (.g rfl) rfl) (bX (ed rfl rfl rfl) rfl rfl (rx rfl (.g rfl) (.p rfl) (.g rfl)) (bX (ec rfl rfl rfl) rfl rfl (vo rfl (.g rfl) (.p rfl) (.g rfl)) (kp rfl rfl rfl (rx rfl (.p rfl) (.p rfl) (.g rfl)) (ce (bZ rfl hb5 (fun hc10 hb5=>?_) fun hc10 hb5=>?_))))))))))))))))))))))))))))))
  ·refine ag ?_
   refine aH (an (ah [42,43] [(7,pI (IntKind.i64.wrap (v2+1)))] (by kernel_rfl) (aj ?_)))
   exact bm hb5 () (kf rfl) ml
  refine ba ?_
  refine aI (aB hb5 (fun ht=>aG rfl ?_))
  exact au ((),v2) (kf rfl) ml ht.symm
 rintro ⟨_,v4⟩ τ hz;(try dsimp only at hz);subst q6;(try dsimp only at h);dsimp only [aF]
 refine fW (bH (ρd:=[]) [(0,0),(1,0),(2,0),(3,0),(4,0),(5,0),(6,0),(7,0),(8,0),(9,0),(10,0),(11,0),(12,0),(13,0),(14,0),(15,0),(16,0),(17,0),(18,0),(19,0),(20,0),(21,0),(22,0),(23,0)] _ (List.Perm.refl _) (by kernel_rfl) rfl (aa h fun m11 hm11 h=>mS 7 [44,45,46,47] [(48,pB (v4 == ((p0.length:Nat):Int))),(49,pgv (!(v4 == ((p0.length:Nat):Int))) (pO a_0 p0.length c_0)),(50,pgv (!(v4 == ((p0.length:Nat):Int))) (pI v4))] (by kernel_rfl) (bX (gn rfl rfl rfl) rfl rfl (bo (enc:=Za.enc) (xs:=p0) rfl rfl rfl (.g rfl) iZ (.g rfl) (cB hm11)) (bX (gn rfl rfl rfl) rfl rfl (aJ rfl rfl rfl rfl rfl (.g rfl)) (bX (gn rfl rfl rfl) rfl rfl (bj (sz:=5) (p:=pI m11.Kind) (enc:=Za.enc) (xs:=p0) (a:=a_0) v4 0 m11 rfl (.g rfl) rfl iZ (cB hm11) rfl) (kS 2 [0] [54] [(55,pgv (!(v4 == ((p0.length:Nat):Int))) (pI p1.Kind))] (by kernel_rfl) (bX (gn rfl rfl rfl) rfl rfl (lO rfl (.g rfl) (.g rfl) rfl) (kp rfl rfl rfl (vo rfl (.p rfl) (.p rfl) (.g rfl)) (aa h fun m12 hm12 h=>gu 3 [(58,pB ((v4 == ((p0.length:Nat):Int))||(m11.Kind != p1.Kind))),(59,pgv (!((v4 == ((p0.length:Nat):Int))||(m11.Kind != p1.Kind))) (pO a_0 p0.length c_0)),(60,pgv (!((v4 == ((p0.length:Nat):Int))||(m11.Kind != p1.Kind))) (pI v4))] (by kernel_rfl) (bX (gn rfl rfl rfl) rfl rfl (bo (enc:=Za.enc) (xs:=p0) rfl rfl rfl (.g rfl) iZ (.g rfl) (cB hm12)) (bX (gn rfl rfl rfl) rfl rfl (aJ rfl rfl rfl rfl rfl (.g rfl)) (bX (gn rfl rfl rfl) rfl rfl (bj (sz:=5) (p:=pI m12.Measure) (enc:=Za.enc) (xs:=p0) (a:=a_0) v4 1 m12 rfl (.g rfl) rfl iZ (cB hm12) rfl) (kS 2 [0] [64] [(65,pgv (!((v4 == ((p0.length:Nat):Int))||(m11.Kind != p1.Kind))) (pI p1.Measure))] (by kernel_rfl) (bX (gn rfl rfl rfl) rfl rfl (lO rfl (.g rfl) (.g rfl) rfl) (kp rfl rfl rfl (vo rfl (.p rfl) (.p rfl) (.g rfl)) (ce (fu h fun q17 hq17 h=>?_)))))))))))))))))
 refine av (Y:=(Option Addr×Nat)×((List Za))) (fun ((a14,c15),l16)=>[(0,pO a14 l16.length c15),(2,pI p2),(4,pP b1 0),(7,pI v4)]) (fun ((a14,c15),l16)=>[PRes.b b1 37 (cD p1),PRes.row a14 l16.length c15 37 5 (List.map Za.enc l16)]) (fun ((a14,c15),l16)=>q17=l16) ?_ ?_
 ·skip
  refine iQ rfl hq17 (fun hc18 hq17=>?_) fun hc18 hq17=>?_
  ·refine e8 (enc:=Za.enc) (xs:=p0) 0 rfl (by exact aR aZ) ?_
   refine bH (ρd:=[]) [(1,0),(2,0),(3,0),(5,0),(6,0),(7,0),(8,0),(9,0),(10,3),(12,0),(13,0),(14,0),(0,1),(4,1),(10,2),(11,1),(15,1),(16,0)] _ (List.Perm.refl _) (by kernel_rfl) rfl (aa hq17 fun l19 hl19 hq17=>bV 7 [1,1] [69,70,73,75] [(71,pL Za.enc l19),(74,pI p1.Kind),(76,pI p1.Measure)] (fosl 2 Za.enc 5 (fun _=>rfl) hl19 bA) (by kernel_rfl) (kp rfl rfl rfl (lq (cs:=[pI p1.Kind,pI p1.Measure,pI 0,pI 0,pI 0]) rfl rfl rfl rfl rfl rfl rfl (rA rfl rfl rfl rfl eX (rA rfl rfl rfl rfl (bQ eX) zfn))) (sX (ln rfl rfl rfl rfl rfl (eW rfl jD) rfl rfl rfl) (aa hq17 fun l20 hl20 hq17=>bV 3 [] [80,81] [(82,pL Za.enc l20)] (fosl 2 Za.enc 5 (fun _=>rfl) hl20 bA) (by kernel_rfl) (hX rfl rfl rfl (bW rfl rfl rfl rfl rfl jD rfl rfl rfl rfl (fun b21=>aa hq17 fun l23 hl23 hq17=>?_)))))))
   refine hX rfl rfl rfl (mD (enc:=Za.enc) rfl rfl rfl rfl rfl (fun _=>rfl) rfl rfl rfl (by exact aZ) hl23 (fun a24 c25=>?_))
   refine kN (ln rfl rfl rfl rfl rfl (eW rfl jD) rfl rfl rfl) (fun _=>rfl) rfl (fun b27=>aa hq17 fun l29 hl29 hq17=>?_)
   refine hX rfl rfl rfl (sW (enc:=Za.enc) rfl rfl rfl rfl rfl (fun _=>rfl) rfl rfl rfl rfl eD rfl (by exact aR aZ) hl29 (fun a30 c31=>?_))
   refine aa hq17 fun l33 hl33 hq17=>?_
   refine hX rfl rfl rfl (mD (enc:=Za.enc) rfl rfl rfl rfl rfl (fun _=>rfl) rfl rfl rfl (by exact aZ) hl33 (fun a34 c35=>?_))
   refine gu 1 [(0,pO a34 l33.length c35)] (by kernel_rfl) (ce ?_)
   obtain rfl:=osi hq17
   exact au ((a34,c35),l33) (kf rfl) (bv (aR (aR (aR aZ))) dx) rfl
  refine ag ?_
  obtain rfl:=osi hq17
  exact au ((a_0,c_0),p0) (kf rfl) ml rfl
 rintro ⟨⟨a14,c15⟩,l16⟩ τ hz;(try dsimp only at hz);subst q17;(try dsimp only at h);dsimp only [aF]
 refine af (fb (enc:=Za.enc) (xs:=l16) (a:=a14) iZ (fun hl37 ha38=>aa h fun m39 hm39 h=>aa h fun m40 hm40 h=>eN (ρd:=[PRes.row a14 _ _ _ _ _]) _ (aC (aR aZ) (List.Perm.refl _)) (aS 0 (by kernel_rfl) rfl rfl rfl rfl (bC (p:=pO a14 l16.length c15) rfl (.p rfl)) (aS 1 (by kernel_rfl) rfl rfl rfl rfl (bC (p:=pI v4) rfl (.p rfl)) (aS 2 (by kernel_rfl) rfl rfl rfl rfl (bC (p:=pO a14 l16.length c15) rfl (.p rfl)) (aS 3 (by kernel_rfl) rfl rfl rfl rfl (bC (p:=pI v4) rfl (.p rfl)) ?_))))))
 refine aS 4 (by kernel_rfl) rfl rfl rfl rfl (fV (xs:=l16) (by first | exact hl37 | rfl | (simp only [List.length_set];exact hl37) | simp only [List.length_set]) ha38 rfl rfl rfl (.p rfl) (.p rfl) (fun _=>hm39)) ?_
 refine aS 5 (by kernel_rfl) rfl rfl rfl rfl (aJ rfl rfl rfl rfl rfl (.p rfl)) (aS 7 (by kernel_rfl) rfl rfl rfl rfl (bC (p:=pI p2) rfl (.p rfl)) (aS 8 (by kernel_rfl) rfl rfl rfl rfl (aJ rfl rfl rfl rfl rfl (.p rfl)) (aS 9 (by kernel_rfl) rfl rfl rfl rfl (bU (p:=pI p1.Amount) rfl (.p rfl) eD rfl) (aS 10 (by kernel_rfl) rfl rfl rfl rfl (dw rfl (.p rfl) (.p rfl) rfl) (aW 6 (by kernel_rfl) (aX rfl rfl rfl rfl (eV (bj (sz:=5) (p:=pI m39.Amount) (enc:=Za.enc) (xs:=l16) (a:=a14) v4 4 m39 rfl (.p rfl) rfl eD (fun _=>hm39) rfl) (aS 11 (by kernel_rfl) rfl rfl rfl rfl (dw rfl (.p rfl) (.p rfl) rfl) ?_))))))))
 refine aS 12 (by kernel_rfl) rfl rfl rfl rfl (fV (xs:=l16) (by first | exact hl37 | rfl | (simp only [List.length_set];exact hl37) | simp only [List.length_set]) ha38 rfl rfl rfl (.p rfl) (.p rfl) (fun _=>hm40)) ?_
 refine aS 13 (by kernel_rfl) rfl rfl rfl rfl (aJ rfl rfl rfl rfl rfl (.p rfl)) (aW 14 (by kernel_rfl) (bq rfl rfl rfl (dq (enc:=Za.enc) (xs:=l16) (a:=a14) v4 4 m40 (⟨m40.Kind,m40.Measure,m40.Quantity,m40.Value,(IntKind.i64.wrap (m39.Amount+(IntKind.i64.wrap (p2*p1.Amount))))⟩:Za) rfl rfl rfl rfl (fun _=>rfl) rfl rfl hm40 (bQ (bQ (bQ (bQ eX)))) cn (bK (by kernel_rfl) (bN (ah [98] [(6,pO a14 l16.length c15)] (by kernel_rfl) (dB ?_)))))))
 obtain rfl:=osi h
 (try simp only [List.length_set])
 exact aM (gp (aK rfl)) dx ⟨_,_,rfl,rfl⟩
def el (p0:Zl) (p1:Zl):Option (List Za):=(bk (S:=(List Za)×Int) (T:=((List Za))) (fun (l4,v7)=>cond (decide (v7<(p0.Lines.length:Int))) ((idx p0.Lines v7).bind fun m16=>(f0 l4 m16 (-1)).bind fun x17=>some (.inl (x17,(IntKind.i64.wrap (v7+1))))) (some (.inr l4))) FUEL (([]:List Za),0)).bind fun l11=>(bk (S:=(List Za)×Int) (T:=((List Za))) (fun (l22,v25)=>cond (decide (v25<(p1.Lines.length:Int))) ((idx p1.Lines v25).bind fun m33=>(f0 l22 m33 1).bind fun x34=>some (.inl (x34,(IntKind.i64.wrap (v25+1))))) (some (.inr l22))) FUEL (l11,0)).bind fun l29=>(bk (S:=(List Za)×Int) (T:=((List Za))) (fun (l39,v42)=>cond (decide (v42<((l29.length:Nat):Int))) (((idx l29 v42).bind fun m57=>cond (m57.Amount != 0) ((idx l29 v42).bind fun m59=>(app 40 l39 [m59]).bind fun l62=>some l62) (some l39)).bind fun l55=>some (.inl (l55,(IntKind.i64.wrap (v42+1))))) (some (.inr l39))) FUEL (([]:List Za),0)).bind fun l46=>some l46
theorem ly {p0:Zl} {p1:Zl} {r:(List Za)}  (h:el p0 p1=some r):PF 9 [.agg [pL Za.enc p0.Lines,pI p0.Total],.agg [pL Za.enc p1.Lines,pI p1.Total]] (pL Za.enc r):=by
 unfold el at h
 refine bi ?_
 refine eg Tryz.func9 rfl Tryz.ntmps9 Tryz.results9 rfl (ae (ar rfl (bB (cs:=[pL Za.enc p0.Lines,pI p0.Total]) rfl rfl (fun b1=>ar rfl (bB (cs:=[pL Za.enc p1.Lines,pI p1.Total]) rfl rfl (fun b2=>bu [4] (by kernel_rfl) (bN (ai [(5,pN),(6,pN)] (by kernel_rfl) (cH (ai [(7,pI 0)] (by kernel_rfl) (aH (dn 37 5 (aa h fun q13 hq13 h=>?_)))))))))))))
 refine av (Y:=(Option Addr×Nat)×((List Za))) (fun ((a9,c10),l11)=>[(3,pP b2 0),(5,pO a9 l11.length c10),(6,pN)]) (fun ((a9,c10),l11)=>[PRes.b b2 25 [pL Za.enc p1.Lines,pI p1.Total],PRes.row a9 l11.length c10 37 5 (List.map Za.enc l11)]) (fun ((a9,c10),l11)=>q13=l11) ?_ ?_
 ·refine an ?_
  refine aY (Y:=Option Addr×Nat) (S:=(List Za)×Int) _ hq13 (fun (a5,c6) (l4,v7)=>[(2,pP b1 0),(3,pP b2 0),(5,pO a5 l4.length c6),(6,pN),(7,pI v7)]) (fun (a5,c6) (l4,v7)=>[PRes.b b1 25 [pL Za.enc p0.Lines,pI p0.Total],PRes.b b2 25 [pL Za.enc p1.Lines,pI p1.Total],PRes.row a5 l4.length c6 37 5 (List.map Za.enc l4)]) (none,0) (kO rfl) (bv (aR (aR aZ)) (bv (aR aZ) dx)) ?_
  rintro ⟨a5,c6⟩ ⟨l4,v7⟩ o τ hb12;(try dsimp only at hb12);dsimp only [aF]
  refine fW (aT [0] [10,11,12,13] [(14,pB (decide (v7<(p0.Lines.length:Int))))] (by kernel_rfl) (bZ rfl hb12 (fun hc15 hb12=>?_) fun hc15 hb12=>?_))
  ·refine ag ?_
   refine bN (an (aa hb12 fun m16 hm16 hb12=>aa hb12 fun x17 hx17 hb12=>ae (bd 6 [0] [18,19,20,21] [(17,pO a5 l4.length c6),(22,.agg (cD m16))] (eH 4 Za.enc hm16 bA) (by kernel_rfl) ?_)))
   refine ar rfl (aV rfl rfl (ρ1:=[_]) (aC (by exact aR (aR aZ)) (List.Perm.refl _)) (mV hx17) ?_);rintro _ _ ⟨a18,c19,rfl,rfl⟩
   refine aL [(5,pO a18 x17.length c19)] (by kernel_rfl) (aj (aH (ah [15,16] [(7,pI (IntKind.i64.wrap (v7+1)))] (by kernel_rfl) ?_)))
   exact bm hb12 (a18,c19) (kO rfl) (bv (aR aZ) (bv (aR aZ) dx))
  refine ba ?_
  refine aI (aB hb12 (fun ht=>aG rfl ?_))
  exact au ((a5,c6),l4) (jh rfl) (bv (aR aZ) (bv (aR aZ) bD)) ht.symm
 rintro ⟨⟨a9,c10⟩,l11⟩ τ hz;(try dsimp only at hz);subst q13;(try dsimp only at h);dsimp only [aF]
 refine fW (ai [(8,pI 0)] (by kernel_rfl) (fu h fun q31 hq31 h=>?_))
 refine av (Y:=(Option Addr×Nat)×((List Za))) (fun ((a27,c28),l29)=>[(5,pO a27 l29.length c28),(6,pN)]) (fun ((a27,c28),l29)=>[PRes.row a27 l29.length c28 37 5 (List.map Za.enc l29)]) (fun ((a27,c28),l29)=>q31=l29) ?_ ?_
 ·refine an ?_
  refine aY (Y:=Option Addr×Nat) (S:=(List Za)×Int) _ hq31 (fun (a23,c24) (l22,v25)=>[(3,pP b2 0),(5,pO a23 l22.length c24),(6,pN),(8,pI v25)]) (fun (a23,c24) (l22,v25)=>[PRes.b b2 25 [pL Za.enc p1.Lines,pI p1.Total],PRes.row a23 l22.length c24 37 5 (List.map Za.enc l22)]) (a9,c10) (kf rfl) ml ?_
  rintro ⟨a23,c24⟩ ⟨l22,v25⟩ o τ hb30;(try dsimp only at hb30);dsimp only [aF]
  refine fW (aT [0] [24,25,26,27] [(28,pB (decide (v25<(p1.Lines.length:Int))))] (by kernel_rfl) (bZ rfl hb30 (fun hc32 hb30=>?_) fun hc32 hb30=>?_))
  ·refine ag ?_
   refine bN (an (aa hb30 fun m33 hm33 hb30=>aa hb30 fun x34 hx34 hb30=>ae (bd 6 [0] [32,33,34,35] [(31,pO a23 l22.length c24),(36,.agg (cD m33))] (eH 4 Za.enc hm33 bA) (by kernel_rfl) ?_)))
   refine ar rfl (aV rfl rfl (ρ1:=[_]) (aC (by exact aR aZ) (List.Perm.refl _)) (mV hx34) ?_);rintro _ _ ⟨a35,c36,rfl,rfl⟩
   refine aL [(5,pO a35 x34.length c36)] (by kernel_rfl) (aj (aH (ah [29,30] [(8,pI (IntKind.i64.wrap (v25+1)))] (by kernel_rfl) ?_)))
   exact bm hb30 (a35,c36) (kf rfl) (bv (aR aZ) dx)
  refine ba ?_
  refine aI (aB hb30 (fun ht=>aG rfl ?_))
  exact au ((a23,c24),l22) (ke rfl) (bv (aR aZ) bD) ht.symm
 rintro ⟨⟨a27,c28⟩,l29⟩ τ hz;(try dsimp only at hz);subst q31;(try dsimp only at h);dsimp only [aF]
 refine fW (ai [(9,pI 0)] (by kernel_rfl) (aH (dn 37 5 (aa h fun q48 hq48 h=>?_))))
 refine av (Y:=(Option Addr×Nat)×((List Za))) (fun ((a44,c45),l46)=>[(6,pO a44 l46.length c45)]) (fun ((a44,c45),l46)=>[PRes.row a44 l46.length c45 37 5 (List.map Za.enc l46)]) (fun ((a44,c45),l46)=>q48=l46) ?_ ?_
 ·refine an ?_
  refine aY (Y:=Option Addr×Nat) (S:=(List Za)×Int) _ hq48 (fun (a40,c41) (l39,v42)=>[(5,pO a27 l29.length c28),(6,pO a40 l39.length c41),(9,pI v42)]) (fun (a40,c41) (l39,v42)=>[PRes.row a27 l29.length c28 37 5 (List.map Za.enc l29),PRes.row a40 l39.length c41 37 5 (List.map Za.enc l39)]) (none,0) (jh rfl) (bv (aR aZ) dx) ?_
  rintro ⟨a40,c41⟩ ⟨l39,v42⟩ o τ hb47;(try dsimp only at hb47);dsimp only [aF]
  refine fW (ah [38,39,40] [(41,pB (decide (v42<((l29.length:Nat):Int))))] (by kernel_rfl) (bZ rfl hb47 (fun hc50 hb47=>?_) fun hc50 hb47=>?_))
  ·refine ag ?_
   refine eo hb47 fun q56 hq56 hb47=>?_
   refine av (Y:=(Option Addr×Nat)×((List Za))) (fun ((a53,c54),l55)=>[(5,pO a27 l29.length c28),(6,pO a53 l55.length c54),(9,pI v42)]) (fun ((a53,c54),l55)=>[PRes.row a27 l29.length c28 37 5 (List.map Za.enc l29),PRes.row a53 l55.length c54 37 5 (List.map Za.enc l55)]) (fun ((a53,c54),l55)=>q56=l55) ?_ ?_
   ·skip
    refine an (af (aa hq56 fun m57 hm57 hq56=>ae (aA 2 [(44,pO a27 l29.length c28),(45,pI v42)] (by kernel_rfl) (bE rfl rfl rfl (bo (enc:=Za.enc) (xs:=l29) rfl rfl rfl (.p rfl) eD (.p rfl) (fun _=>hm57)) (aA 1 [(47,pP (rB a27) (v42.toNat * 5+4))] (by kernel_rfl) (bE rfl rfl rfl (bj (sz:=5) (p:=pI m57.Amount) (enc:=Za.enc) (xs:=l29) (a:=a27) v42 4 m57 rfl (.p rfl) rfl eD (fun _=>hm57) rfl) (aL [(49,pB (m57.Amount != 0))] (by kernel_rfl) (bZ rfl hq56 (fun hc58 hq56=>?_) fun hc58 hq56=>?_))))))))
    ·refine aa hq56 ?_;clear hq56;intro m59 hm59 hq56
     refine ae (aA 3 [(50,pO a40 l39.length c41),(51,pO a27 l29.length c28),(52,pI v42)] (by kernel_rfl) (bE rfl rfl rfl (bo (enc:=Za.enc) (xs:=l29) rfl rfl rfl (.p rfl) eD (.p rfl) (fun _=>hm59)) (bE rfl rfl rfl (bj (sz:=5) (p:=.agg (cD m59)) (enc:=Za.enc) (xs:=l29) (a:=a27) v42 0 m59 rfl (.p rfl) rfl eD (fun _=>hm59) rfl) (ar rfl (bW rfl rfl rfl rfl rfl (eW rfl jD) rfl rfl rfl rfl (fun b60=>aa hq56 fun l62 hl62 hq56=>?_))))))
     refine ar rfl (cV (enc:=Za.enc) rfl rfl rfl rfl rfl rfl rfl rfl rfl eD (by exact aR (aR aZ)) hl62 (fun a63 c64=>?_))
     refine aL [(6,pO a63 l62.length c64)] (by kernel_rfl) (aj ?_)
     obtain rfl:=osi hq56
     exact au ((a63,c64),l62) (jh rfl) (bv (aR (aR aZ)) dx) rfl
    refine ag ?_
    refine aj ?_
    obtain rfl:=osi hq56
    exact au ((a40,c41),l39) (jh rfl) ml rfl
   rintro ⟨⟨a53,c54⟩,l55⟩ τ hz;(try dsimp only at hz);subst q56;(try dsimp only at hb47);dsimp only [aF]
   refine ah [42,43] [(9,pI (IntKind.i64.wrap (v42+1)))] (by kernel_rfl) ?_
   exact bm hb47 (a53,c54) (jh rfl) ml
  refine ba ?_
  refine aI (aB hb47 (fun ht=>aG rfl ?_))
  exact au ((a40,c41),l39) (wZ rfl) (bv (aR aZ) bD) ht.symm
 rintro ⟨⟨a44,c45⟩,l46⟩ τ hz;(try dsimp only at hz);subst q48;(try dsimp only at h);dsimp only [aF]
 refine af (ah [57] [(4,pO a44 l46.length c45)] (by kernel_rfl) (aH ?_))
 refine e8 (enc:=Za.enc) (xs:=l46) 4 rfl (by exact aZ) ?_
 refine cu ?_
 exact zz r h rfl
def dj (p0:Int):Option Bool:=some ((decide (65≤p0))&&(decide (p0≤90)))
theorem ga {p0:Int} {r:Bool}  (h:dj p0=some r):PF 84 [pY p0] (pB r):=by
 unfold dj at h
 refine bi ?_
 refine eg Tryz.func84 rfl Tryz.ntmps84 Tryz.results84 rfl (bf [2] (by kernel_rfl) (bN (ah (rg 3 6) [(2,pB ((decide (65≤p0))&&(decide (p0≤90))))] (by kernel_rfl) (dB ?_))))
 exact zz r h rfl
def cj (p0:ByteArray):Option Bool:=(gd ((p0.size:Int) == 2) (idx p0.data.toList 0)).bind fun c1=>(gd ((p0.size:Int) == 2) (dj (c1.toNat:Int))).bind fun x2=>(gd (((p0.size:Int) == 2)&&x2) (idx p0.data.toList 1)).bind fun c3=>(gd (((p0.size:Int) == 2)&&x2) (dj (c3.toNat:Int))).bind fun x4=>some ((((p0.size:Int) == 2)&&x2)&&x4)
theorem fg {p0:ByteArray} {r:Bool}  (h:cj p0=some r):PF 70 [pS p0] (pB r):=by
 unfold cj at h
 refine bi ?_
 refine eg Tryz.func70 rfl Tryz.ntmps70 Tryz.results70 rfl (bf [2] (by kernel_rfl) (eo h fun c1 hc1 h=>aa h fun x2 hx2 h=>aa h fun c3 hc3 h=>aa h fun x4 hx4 h=>aD [] (rg 3 13) [(2,pB ((((p0.size:Int) == 2)&&x2)&&x4))] (pq 5 (cB hc1) (eJ 6 (fun hc=>ga (cB hx2 hc)) (pq 10 (cB hc3) (eJ 11 (fun hc=>ga (cB hx4 hc)) bA)))) (by kernel_rfl) (dB ?_)))
 exact zz r h rfl
def fh (p0:(List ByteArray)):Option Bool:=(bk (S:=Int) (T:=(Unit)⊕(_)) (fun v1=>cond (decide (v1<(p0.length:Int))) ((idx p0 v1).bind fun m5=>(cj m5).bind fun x6=>(gd ((!(!x6))&&(decide (0<v1))) (idx p0 (IntKind.i64.wrap (v1 - 1)))).bind fun m7=>cond ((!x6)||((decide (0<v1))&&(Op.bytesLess m5.toList m7.toList||decide (m5=m7)))) (some (.inr (.inr false))) (some (.inl (IntKind.i64.wrap (v1+1))))) (some (.inr (.inl ())))) FUEL 0).bind fun q=>match q with | .inl _=>some true | .inr e=>some e
theorem jQ {p0:(List ByteArray)} {r:Bool}  (h:fh p0=some r):PF 68 [pL eS p0] (pB r):=by
 unfold fh at h
 refine bi ?_
 refine eg Tryz.func68 rfl Tryz.ntmps68 Tryz.results68 rfl (bf [2] (by kernel_rfl) (cH (ai [(5,pL eS p0),(6,pI (p0.length:Int)),(7,pI 0)] (by kernel_rfl) (fu h fun q3 hq3 h=>?_))))
 refine av (Y:=Unit×Unit) (fun (_,_)=>[]) (fun (_,_)=>[]) (fun (_,_)=>q3=Sum.inl ()) ?_ ?_
 ·refine an ?_
  refine aY (Y:=Unit) (S:=Int) _ hq3 (fun _ v1=>[(0,pL eS p0),(5,pL eS p0),(6,pI (p0.length:Int)),(7,pI v1)]) (fun _ v1=>[]) () (kf rfl) bD ?_
  rintro _ v1 o τ hb2;(try dsimp only at hb2);dsimp only [aF]
  refine af (ai [(8,pB (decide (v1<(p0.length:Int))))] (by kernel_rfl) (bN (iQ rfl hb2 (fun hc4 hb2=>?_) fun hc4 hb2=>?_)))
  ·refine ag ?_
   refine bN (an (af (aa hb2 fun m5 hm5 hb2=>aD [] [9,10,11] [(3,pI v1),(4,pS m5)] (eH 1 eS hm5 bA) (by kernel_rfl) (eo hb2 fun x6 hx6 hb2=>aa hb2 fun m7 hm7 hb2=>aD [] (rg 12 15) [(27,pB ((!x6)||((decide (0<v1))&&(Op.bytesLess m5.toList m7.toList||decide (m5=m7)))))] (bz 1 (fg hx6) (hY 11 eS (cB hm7) bA)) (by kernel_rfl) (bZ rfl hb2 (fun hc8 hb2=>?_) fun hc8 hb2=>?_)))))
   ·refine af ?_
    refine ai [(2,pB false)] (by kernel_rfl) (dB (aw (aP ?_)))
    refine bp hb2 (fun ht=>?_);subst ht
    refine aw (bt ?_)
    exact zz r h rfl
   refine ag ?_
   refine aj (aH (ah [28] [(7,pI (IntKind.i64.wrap (v1+1)))] (by kernel_rfl) ?_))
   exact bm hb2 () (kf rfl) bD
  refine ba ?_
  refine aI (aB hb2 (fun ht=>aG rfl ?_))
  exact au ((),()) lw bD ht.symm
 rintro ⟨_,_⟩ τ hz;(try dsimp only at hz);subst q3;(try dsimp only at h);dsimp only [aF]
 refine af (ai [(2,pB true)] (by kernel_rfl) (dB ?_))
 exact zz r h rfl
def cE (p0:Zk):Option Int:=cond ((((decide (p0.Rate<0))||(decide (10000000<p0.Rate)))||(decide (p0.Amount<0)))||(decide (100000000<p0.Amount))) (some (2:Int)) (cond (((decide (0<p0.Amount))&&((decide (p0.Per<1))||(decide (1000000<p0.Per))))||((p0.Amount == 0)&&(p0.Per != 0))) (some (2:Int)) (cond ((((decide (p0.Most<0))||(decide (10000000<p0.Most)))||(decide (p0.Least<0)))||(decide (10000000<p0.Least))) (some (2:Int)) (cond (((p0.Most != 0)&&(!p0.HasMost))||((p0.Least != 0)&&(!p0.HasLeast))) (some (1:Int)) (cond ((p0.HasMost&&p0.HasLeast)&&(decide (p0.Most<p0.Least))) (some (1:Int)) (some (0:Int))))))
theorem jR {p0:Zk} {r:Int}  (h:cE p0=some r):PF 69 [.agg (gt p0)] (pI r):=by
 unfold cE at h
 refine bi ?_
 refine eg Tryz.func69 rfl Tryz.ntmps69 Tryz.results69 rfl (ae (ar rfl (bB (cs:=(gt p0)) rfl rfl (fun b1=>bu [2] (by kernel_rfl) (cH (aT [0,0,0,0] (rg 3 17) [(20,pB ((((decide (p0.Rate<0))||(decide (10000000<p0.Rate)))||(decide (p0.Amount<0)))||(decide (100000000<p0.Amount))))] (by kernel_rfl) (bZ rfl h (fun hc2 h=>?_) fun hc2 h=>?_)))))))
 ·refine af ?_
  refine ai [(2,pI 2)] (by kernel_rfl) (fB ?_)
  exact zz r h rfl
 refine ag ?_
 refine cH (aT [0,0,0,0,0] (rg 21 22) [(43,pB (((decide (0<p0.Amount))&&((decide (p0.Per<1))||(decide (1000000<p0.Per))))||((p0.Amount == 0)&&(p0.Per != 0))))] (by kernel_rfl) (bZ rfl h (fun hc3 h=>?_) fun hc3 h=>?_))
 ·refine af ?_
  refine ai [(2,pI 2)] (by kernel_rfl) (fB ?_)
  exact zz r h rfl
 refine ag ?_
 refine cH (aT [0,0,0,0] (rg 44 17) [(61,pB ((((decide (p0.Most<0))||(decide (10000000<p0.Most)))||(decide (p0.Least<0)))||(decide (10000000<p0.Least))))] (by kernel_rfl) (bZ rfl h (fun hc4 h=>?_) fun hc4 h=>?_))
 ·refine af ?_
  refine ai [(2,pI 2)] (by kernel_rfl) (fB ?_)
  exact zz r h rfl
 refine ag ?_
 refine cH (aT [0,0,0,0] (rg 62 17) [(79,pB (((p0.Most != 0)&&(!p0.HasMost))||((p0.Least != 0)&&(!p0.HasLeast))))] (by kernel_rfl) (bZ rfl h (fun hc5 h=>?_) fun hc5 h=>?_))
 ·refine af ?_
  refine ai [(2,pI 1)] (by kernel_rfl) (fB ?_)
  exact zz r h rfl
 refine ag ?_
 refine cH (aT [0,0,0,0] (rg 80 12) [(92,pB ((p0.HasMost&&p0.HasLeast)&&(decide (p0.Most<p0.Least))))] (by kernel_rfl) (bZ rfl h (fun hc6 h=>?_) fun hc6 h=>?_))
 ·refine af ?_
  refine ai [(2,pI 1)] (by kernel_rfl) (fB ?_)
  exact zz r h rfl
 refine ag ?_
 refine bN (ai [(2,pI 0)] (by kernel_rfl) (dB ?_))
 exact zz r h rfl
def il (p0:Zc) (p1:Int):Option Bool:=some (((decide (p0.From≤p1))&&(decide (p1<p0.To)))||(((p0.Registered != (-1))&&(decide (p0.Registered≤p1)))&&(decide (p1<p0.From))))
theorem lU {p0:Zc} {p1:Int} {r:Bool}  (h:il p0 p1=some r):PF 85 [.agg (aU p0),pI p1] (pB r):=by
 unfold il at h
 refine bi ?_
 refine eg Tryz.func85 rfl Tryz.ntmps85 Tryz.results85 rfl (ae (ar rfl (bB (cs:=(aU p0)) rfl rfl (fun b1=>bu [4] (by kernel_rfl) (bN (aT [0,0,0,0,0] (rg 5 27) [(4,pB (((decide (p0.From≤p1))&&(decide (p1<p0.To)))||(((p0.Registered != (-1))&&(decide (p0.Registered≤p1)))&&(decide (p1<p0.From)))))] (by kernel_rfl) (dB ?_)))))))
 exact zz r h rfl
def eP (p0:ByteArray) (p1:ByteArray):Option Bool:=(gd (decide ((p1.size:Int)≤(p0.size:Int))) (kv p0 0 (p1.size:Int))).bind fun s1=>some ((decide ((p1.size:Int)≤(p0.size:Int)))&&(decide (s1=p1)))
theorem jA {p0:ByteArray} {p1:ByteArray} {r:Bool}  (h:eP p0 p1=some r):PF 107 [pS p0,pS p1] (pB r):=by
 unfold eP at h
 refine bi ?_
 refine eg Tryz.func107 rfl Tryz.ntmps107 Tryz.results107 rfl (bf [4] (by kernel_rfl) (eo h fun s1 hs1 h=>aD [] (rg 5 13) [(4,pB ((decide ((p1.size:Int)≤(p0.size:Int)))&&(decide (s1=p1))))] (fossg 9 (cB hs1) bA) (by kernel_rfl) (dB ?_)))
 exact zz r h rfl
def gz (p0:ByteArray) (p1:ByteArray):Option Bool:=(eP p0 p1).bind fun x1=>some x1
theorem kW {p0:ByteArray} {p1:ByteArray} {r:Bool}  (h:gz p0 p1=some r):PF 86 [pS p0,pS p1] (pB r):=by
 unfold gz at h
 refine bi ?_
 refine eg Tryz.func86 rfl Tryz.ntmps86 Tryz.results86 rfl (bf [4] (by kernel_rfl) (eo h fun x1 hx1 h=>aD [] [5,6,7] [(4,pB x1)] (bz 2 (jA hx1) bA) (by kernel_rfl) (dB ?_)))
 exact zz r h rfl
def cP (p0:(List ByteArray)) (p1:ByteArray):Option Int:=(bk (S:=Int) (T:=(Unit)⊕(_)) (fun v1=>cond (decide (v1<(p0.length:Int))) ((idx p0 v1).bind fun m5=>cond (decide (p1=m5)) (some (.inr (.inr v1))) (some (.inl (IntKind.i64.wrap (v1+1))))) (some (.inr (.inl ())))) FUEL 0).bind fun q=>match q with | .inl _=>some (-1) | .inr e=>some e
theorem ib {p0:(List ByteArray)} {p1:ByteArray} {r:Int}  (h:cP p0 p1=some r):PF 108 [pL eS p0,pS p1] (pI r):=by
 unfold cP at h
 refine bi ?_
 refine eg Tryz.func108 rfl Tryz.ntmps108 Tryz.results108 rfl (bf [4] (by kernel_rfl) (cH (ah [6] [(7,pI (p0.length:Int)),(8,pI 0)] (by kernel_rfl) (fu h fun q3 hq3 h=>?_))))
 refine av (Y:=Unit×Unit) (fun (_,_)=>[]) (fun (_,_)=>[]) (fun (_,_)=>q3=Sum.inl ()) ?_ ?_
 ·refine an ?_
  refine aY (Y:=Unit) (S:=Int) _ hq3 (fun _ v1=>[(0,pL eS p0),(1,pS p1),(7,pI (p0.length:Int)),(8,pI v1)]) (fun _ v1=>[]) () (kf rfl) bD ?_
  rintro _ v1 o τ hb2;(try dsimp only at hb2);dsimp only [aF]
  refine af (ai [(9,pB (decide (v1<(p0.length:Int))))] (by kernel_rfl) (bN (iQ rfl hb2 (fun hc4 hb2=>?_) fun hc4 hb2=>?_)))
  ·refine ag ?_
   refine bN (an (af (ah [10] [(5,pI v1)] (by kernel_rfl) (eo hb2 fun m5 hm5 hb2=>aD [] (rg 11 5) [(16,pB (decide (p1=m5)))] (eH 3 eS hm5 bA) (by kernel_rfl) (bZ rfl hb2 (fun hc6 hb2=>?_) fun hc6 hb2=>?_)))))
   ·refine af ?_
    refine ah [17] [(4,pI v1)] (by kernel_rfl) (dB (aw (aP ?_)))
    refine bp hb2 (fun ht=>?_);subst ht
    refine aw (bt ?_)
    exact zz r h rfl
   refine ag ?_
   refine aj (aH (ah [18] [(8,pI (IntKind.i64.wrap (v1+1)))] (by kernel_rfl) ?_))
   exact bm hb2 () (kf rfl) bD
  refine ba ?_
  refine aI (aB hb2 (fun ht=>aG rfl ?_))
  exact au ((),()) lw bD ht.symm
 rintro ⟨_,_⟩ τ hz;(try dsimp only at hz);subst q3;(try dsimp only at h);dsimp only [aF]
 refine af (ai [(4,pI (-1))] (by kernel_rfl) (dB ?_))
 exact zz r h rfl
def bT (p0:(List ByteArray)) (p1:ByteArray):Option Bool:=(cP p0 p1).bind fun x1=>some (decide (0≤x1))
theorem gA {p0:(List ByteArray)} {p1:ByteArray} {r:Bool}  (h:bT p0 p1=some r):PF 87 [pL eS p0,pS p1] (pB r):=by
 unfold bT at h
 refine bi ?_
 refine eg Tryz.func87 rfl Tryz.ntmps87 Tryz.results87 rfl (bf [4] (by kernel_rfl) (eo h fun x1 hx1 h=>aD [] [5,6,7,8] [(4,pB (decide (0≤x1)))] (bz 2 (ib hx1) bA) (by kernel_rfl) (dB ?_)))
 exact zz r h rfl
def i9 (p0:Zc) (p1:ByteArray) (p2:ByteArray) (p3:Int) (p4:Int):Option Bool:=(il p0 p4).bind fun x2=>(gd x2 (gz p1 p0.Prefix)).bind fun x3=>(gd ((x2&&x3)&&(!((p0.Origins.length:Int) == 0))) (bT p0.Origins p2)).bind fun x4=>some (((x2&&x3)&&(((p0.Origins.length:Int) == 0)||x4))&&((p0.Company == 0)||(p0.Company == p3)))
theorem mW {p0:Zc} {p1:ByteArray} {p2:ByteArray} {p3:Int} {p4:Int} {r:Bool}  (h:i9 p0 p1 p2 p3 p4=some r):PF 71 [.agg (aU p0),pS p1,pS p2,pI p3,pI p4] (pB r):=by
 unfold i9 at h
 refine bi ?_
 refine eg Tryz.func71 rfl Tryz.ntmps71 Tryz.results71 rfl (ae (ar rfl (bB (cs:=(aU p0)) rfl rfl (fun b1=>bu [10] (by kernel_rfl) (eo h fun x2 hx2 h=>aa h fun x3 hx3 h=>aa h fun x4 hx4 h=>aD [0,0,0,0,0,0] (rg 11 32) [(10,pB (((x2&&x3)&&(((p0.Origins.length:Int) == 0)||x4))&&((p0.Company == 0)||(p0.Company == p3))))] (bz 2 (lU hx2) (eJ 7 (fun hc=>kW (cB hx3 hc)) (eJ 18 (fun hc=>gA (cB hx4 hc)) bA))) (by kernel_rfl) (dB ?_))))))
 exact zz r h rfl
def gO (p0:Zc) (p1:Zc):Option Bool:=cond ((p0.Prefix.size:Int) != (p1.Prefix.size:Int)) (some (decide ((p1.Prefix.size:Int)<(p0.Prefix.size:Int)))) (cond ((p0.Company != 0) != (p1.Company != 0)) (some (p0.Company != 0)) (cond ((p0.Origins.length:Int) != (p1.Origins.length:Int)) (some (((p1.Origins.length:Int) == 0)||(((p0.Origins.length:Int) != 0)&&(decide ((p0.Origins.length:Int)<(p1.Origins.length:Int)))))) (some (decide (p1.ID<p0.ID)))))
theorem lz {p0:Zc} {p1:Zc} {r:Bool}  (h:gO p0 p1=some r):PF 72 [.agg (aU p0),.agg (aU p1)] (pB r):=by
 unfold gO at h
 refine bi ?_
 refine eg Tryz.func72 rfl Tryz.ntmps72 Tryz.results72 rfl (ae (ar rfl (bB (cs:=(aU p0)) rfl rfl (fun b1=>ar rfl (bB (cs:=(aU p1)) rfl rfl (fun b2=>bu [4] (by kernel_rfl) (cH (aT [1,0] (rg 5 6) [(11,pB ((p0.Prefix.size:Int) != (p1.Prefix.size:Int)))] (by kernel_rfl) (bZ rfl h (fun hc3 h=>?_) fun hc3 h=>?_)))))))))
 ·refine af ?_
  refine aT [1,0] (rg 12 7) [(4,pB (decide ((p1.Prefix.size:Int)<(p0.Prefix.size:Int))))] (by kernel_rfl) (fB ?_)
  exact zz r h rfl
 refine ag ?_
 refine cH (aT [1,0] (rg 19 6) [(25,pB ((p0.Company != 0) != (p1.Company != 0)))] (by kernel_rfl) (bZ rfl h (fun hc4 h=>?_) fun hc4 h=>?_))
 ·refine af ?_
  refine aT [1] [26,27,28] [(4,pB (p0.Company != 0))] (by kernel_rfl) (fB ?_)
  exact zz r h rfl
 refine ag ?_
 refine cH (aT [1,0] (rg 29 6) [(35,pB ((p0.Origins.length:Int) != (p1.Origins.length:Int)))] (by kernel_rfl) (bZ rfl h (fun hc5 h=>?_) fun hc5 h=>?_))
 ·refine af ?_
  refine aT [0,1,1,0] (rg 36 19) [(4,pB (((p1.Origins.length:Int) == 0)||(((p0.Origins.length:Int) != 0)&&(decide ((p0.Origins.length:Int)<(p1.Origins.length:Int))))))] (by kernel_rfl) (fB ?_)
  exact zz r h rfl
 refine ag ?_
 refine bN (aT [1,0] (rg 55 5) [(4,pB (decide (p1.ID<p0.ID)))] (by kernel_rfl) (dB ?_))
 exact zz r h rfl
def dE (p0:(List ByteArray)):Option (List ByteArray):=app 16 ([]:List ByteArray) p0
theorem ic {p0:(List ByteArray)} {r:(List ByteArray)} (h:dE p0=some r):PCall 73 [pL eS p0] [] (fun pv ρ'=>∃ a c,pv=.v (.slice a r.length c)∧ρ'=[PRes.row a r.length c 9 1 (List.map eS r)]):=by
 unfold dE at h
 refine gW Tryz.func73 rfl Tryz.ntmps73 Tryz.results73 rfl ?_
 (repeat refine af ?_)
 refine ae (bE rfl rfl rfl (bc (p:=.v (.slice none 0 0)) rfl (.p rfl)) (az (aH ?_)))
 (repeat refine af ?_)
 refine ae (bE rfl rfl rfl (bC (p:=pL eS p0) rfl (.p rfl)) (qE rfl rfl rfl rfl rfl rfl (fun b hb=>az (aH ?_))))
 refine fE rfl (fun hc=>?_) (fun hc=>?_)
 ·have e0:p0=[]:=List.map_eq_nil_iff.1 (hb hc)
  subst e0;obtain ⟨rfl,_⟩:=kM h
  (repeat refine af ?_)
  refine ae (bE rfl rfl rfl (bc (p:=.v (.slice none 0 0)) rfl (.p rfl)) (az (aH (dn 9 1 (cu (aP ?_))))))
  exact aM (gp (aK rfl)) dx ⟨_,_,rfl,rfl⟩
 refine ag ?_
 refine aH ?_
 (repeat refine af ?_)
 refine ae (ar rfl (bW rfl rfl rfl rfl rfl jD rfl rfl rfl rfl (fun b1=>bE rfl rfl rfl (bC (p:=pL eS p0) rfl (.p rfl)) ?_)))
 refine ar rfl (mD (enc:=eS) (xs:=([]:List ByteArray)) rfl rfl rfl rfl rfl (fun _=>rfl) rfl rfl rfl (by exact aZ) h (fun a c=>?_))
 refine bE rfl rfl rfl (bc (p:=.v (.slice a r.length c)) rfl (.p rfl)) (az (dB ?_))
 exact aM (gp (aK rfl)) dx ⟨_,_,rfl,rfl⟩
def fQ (p0:(List Zc)) (p1:ByteArray) (p2:ByteArray) (p3:Int) (p4:Int):Option (List Zc):=(bk (S:=(List Zc)×Int) (T:=((List Zc))) (fun (l2,v5)=>cond (decide (v5≤6)) (((bk (S:=Int×Int) (T:=(Int)) (fun (v19,v20)=>cond (decide (v20<(p0.length:Int))) (((idx p0 v20).bind fun m29=>(gd (m29.Kind == v5) (i9 m29 p1 p2 p3 p4)).bind fun x31=>(gd (((m29.Kind == v5)&&x31)&&(!(decide (v19<0)))) (idx p0 v19)).bind fun m32=>(gd (((m29.Kind == v5)&&x31)&&(!(decide (v19<0)))) (gO m29 m32)).bind fun x33=>cond (((m29.Kind == v5)&&x31)&&((decide (v19<0))||x33)) (some v20) (some v19)).bind fun v27=>some (.inl (v27,(IntKind.i64.wrap (v20+1))))) (some (.inr v19))) FUEL ((-1),0)).bind fun v22=>cond (decide (0≤v22)) ((idx p0 v22).bind fun m36=>(dE m36.Origins).bind fun x38=>(app 144 l2 [(⟨m36.ID,m36.Kind,m36.Prefix,x38,m36.Company,m36.From,m36.To,m36.Registered,m36.Duty⟩:Zc)]).bind fun l44=>some l44) (some l2)).bind fun l17=>some (.inl (l17,(IntKind.i64.wrap (v5+1))))) (some (.inr l2))) FUEL (([]:List Zc),1)).bind fun l9=>some l9
theorem kx {p0:(List Zc)} {p1:ByteArray} {p2:ByteArray} {p3:Int} {p4:Int} {r:(List Zc)}  (h:fQ p0 p1 p2 p3 p4=some r):PF 49 [pL Zc.enc p0,pS p1,pS p2,pI p3,pI p4] (pL Zc.enc r):=by
 unfold fQ at h
 refine bi ?_
 refine eg Tryz.func49 rfl Tryz.ntmps49 Tryz.results49 rfl (bf [10] (by kernel_rfl) (bN (ai [(11,pN)] (by kernel_rfl) (cH (ai [(12,pI 1)] (by kernel_rfl) (aH (dn 48 15 (aa h fun q11 hq11 h=>?_))))))))
 refine av (Y:=(Option Addr×Nat)×((List Zc))) (fun ((a7,c8),l9)=>[(11,pO a7 l9.length c8)]) (fun ((a7,c8),l9)=>[PRes.row a7 l9.length c8 48 15 (List.map Zc.enc l9)]) (fun ((a7,c8),l9)=>q11=l9) ?_ ?_
 ·refine an ?_
  refine aY (Y:=Option Addr×Nat) (S:=(List Zc)×Int) _ hq11 (fun (a3,c4) (l2,v5)=>[(0,pL Zc.enc p0),(1,pS p1),(2,pS p2),(3,pI p3),(4,pI p4),(11,pO a3 l2.length c4),(12,pI v5)]) (fun (a3,c4) (l2,v5)=>[PRes.row a3 l2.length c4 48 15 (List.map Zc.enc l2)]) (none,0) (ui rfl) dx ?_
  rintro ⟨a3,c4⟩ ⟨l2,v5⟩ o τ hb10;(try dsimp only at hb10);dsimp only [aF]
  refine fW (ah [17] [(18,pB (decide (v5≤6)))] (by kernel_rfl) (bZ rfl hb10 (fun hc13 hb10=>?_) fun hc13 hb10=>?_))
  ·refine ag ?_
   refine eo hb10 fun q18 hq18 hb10=>?_
   refine av (Y:=(Option Addr×Nat)×((List Zc))) (fun ((a15,c16),l17)=>[(0,pL Zc.enc p0),(1,pS p1),(2,pS p2),(3,pI p3),(4,pI p4),(11,pO a15 l17.length c16),(12,pI v5)]) (fun ((a15,c16),l17)=>[PRes.row a15 l17.length c16 48 15 (List.map Zc.enc l17)]) (fun ((a15,c16),l17)=>q18=l17) ?_ ?_
   ·skip
    refine an (af (ai [(13,pI (-1))] (by kernel_rfl) (cH (ai [(21,pL Zc.enc p0),(22,pI (p0.length:Int)),(23,pI 0)] (by kernel_rfl) (fu hq18 fun q24 hq24 hq18=>?_)))))
    refine av (Y:=Unit×Int) (fun (_,v22)=>[(0,pL Zc.enc p0),(1,pS p1),(2,pS p2),(3,pI p3),(4,pI p4),(11,pO a3 l2.length c4),(12,pI v5),(13,pI v22)]) (fun (_,v22)=>[PRes.row a3 l2.length c4 48 15 (List.map Zc.enc l2)]) (fun (_,v22)=>q24=v22) ?_ ?_
    ·refine an ?_
     refine aY (Y:=Unit) (S:=Int×Int) _ hq24 (fun _ (v19,v20)=>[(0,pL Zc.enc p0),(1,pS p1),(2,pS p2),(3,pI p3),(4,pI p4),(11,pO a3 l2.length c4),(12,pI v5),(13,pI v19),(21,pL Zc.enc p0),(22,pI (p0.length:Int)),(23,pI v20)]) (fun _ (v19,v20)=>[PRes.row a3 l2.length c4 48 15 (List.map Zc.enc l2)]) () (dK rfl (dK rfl (mI rfl))) dx ?_
     rintro _ ⟨v19,v20⟩ o τ hb23;(try dsimp only at hb23);dsimp only [aF]
     refine af (ai [(24,pB (decide (v20<(p0.length:Int))))] (by kernel_rfl) (bN (iQ rfl hb23 (fun hc25 hb23=>?_) fun hc25 hb23=>?_)))
     ·refine ag ?_
      refine eo hb23 fun q28 hq28 hb23=>?_
      refine av (Y:=Unit×Int) (fun (_,v27)=>[(0,pL Zc.enc p0),(1,pS p1),(2,pS p2),(3,pI p3),(4,pI p4),(11,pO a3 l2.length c4),(12,pI v5),(13,pI v27),(21,pL Zc.enc p0),(22,pI (p0.length:Int)),(23,pI v20)]) (fun (_,v27)=>[PRes.row a3 l2.length c4 48 15 (List.map Zc.enc l2)]) (fun (_,v27)=>q28=v27) ?_ ?_
      ·skip
       refine an (af (aa hq28 fun m29 hm29 hq28=>ae (bd 3 [] [26] [(25,pI v20),(27,.agg (aU m29))] (eH 1 Zc.enc hm29 bA) (by kernel_rfl) (ar rfl (be (cs:=[pI 0,pI 0,pS ByteArray.empty,pN,pI 0,pI 0,pI 0,pI 0,pI 0,pI 0,pI 0,pB false,pI 0,pB false,pI 0]) rfl rfl rfl rfl (fun b30=>aA 1 [(14,pI v20)] (by kernel_rfl) (aQ rfl rfl (ak (vs:=(aU m29)) rfl rfl rfl rfl rfl cn (dg (dg (dg (dg (dg (dg xX)))))) (az (bN (bH (ρd:=[]) [(0,0),(1,0),(2,0),(3,0),(4,0),(5,0),(6,0),(7,0),(8,0),(9,0),(10,1),(11,0),(12,0),(13,0),(14,0),(15,0),(16,0),(17,0),(18,0),(19,0),(20,0),(21,1),(22,0),(23,0)] _ (List.Perm.refl _) (by kernel_rfl) rfl (aa hq28 fun x31 hx31 hq28=>aa hq28 fun m32 hm32 hq28=>aa hq28 fun x33 hx33 hq28=>bV 24 [0,0,0] (rg 28 23) [(51,pB (((m29.Kind == v5)&&x31)&&((decide (v19<0))||x33)))] (eJ 10 (fun hc=>mW (cB hx31 hc)) (hY 19 Zc.enc (cB hm32) (eJ 21 (fun hc=>lz (cB hx33 hc)) bA))) (by kernel_rfl) (ce (bZ rfl hq28 (fun hc34 hq28=>?_) fun hc34 hq28=>?_))))))))))))))
       ·refine ah [52] [(13,pI v20)] (by kernel_rfl) ?_
        refine aj ?_
        obtain rfl:=osi hq28
        exact au ((),v20) (dK rfl (dK rfl (mI rfl))) (bv (aR aZ) bD) rfl
       refine ag ?_
       refine aj ?_
       obtain rfl:=osi hq28
       exact au ((),v19) (dK rfl (dK rfl (mI rfl))) (bv (aR aZ) bD) rfl
      rintro ⟨_,v27⟩ τ hz;(try dsimp only at hz);subst q28;(try dsimp only at hb23);dsimp only [aF]
      refine ah [53] [(23,pI (IntKind.i64.wrap (v20+1)))] (by kernel_rfl) ?_
      exact bm hb23 () (dK rfl (dK rfl (mI rfl))) dx
     refine ba ?_
     refine aI (aB hb23 (fun ht=>aG rfl ?_))
     exact au ((),v19) (ze rfl) dx ht.symm
    rintro ⟨_,v22⟩ τ hz;(try dsimp only at hz);subst q24;(try dsimp only at hq18);dsimp only [aF]
    refine af (ah [54] [(55,pB (decide (0≤v22)))] (by kernel_rfl) (bZ rfl hq18 (fun hc35 hq18=>?_) fun hc35 hq18=>?_))
    ·refine af ?_
     refine aa hq18 fun m36 hm36 hq18=>ae (bd 4 [] [56,57,58] [(59,.agg (aU m36))] (eH 2 Zc.enc hm36 bA) (by kernel_rfl) (ar rfl (be (cs:=[pI 0,pI 0,pS ByteArray.empty,pN,pI 0,pI 0,pI 0,pI 0,pI 0,pI 0,pI 0,pB false,pI 0,pB false,pI 0]) rfl rfl rfl rfl (fun b37=>aQ rfl rfl (ak (vs:=(aU m36)) rfl rfl rfl rfl rfl cn (dg (dg (dg (dg (dg (dg xX)))))) (az (eo hq18 fun x38 hx38 hq18=>ae (cq 2 [0] [60] [(61,pL eS m36.Origins)] (by kernel_rfl) ?_))))))))
     refine ar rfl (aV rfl rfl (ρ1:=[]) (List.Perm.refl _) (ic hx38) ?_);rintro _ _ ⟨a39,c40,rfl,rfl⟩
     refine aA 1 [(63,pP b37 3)] (by kernel_rfl) (aQ rfl rfl (ak (vs:=[pO a39 x38.length c40]) rfl rfl rfl rfl rfl (cA cn) (bQ (bQ (bQ eX))) (az (aH (ae (aA 1 [(64,pO a3 l2.length c4)] (by kernel_rfl) ?_))))))
     refine mA (css:=List.map eS x38) (a:=a39) (by exact aZ) ?_
     refine lm (k:=3) (enc:=eS) (xs:=x38) (b:=b37) (a:=a39) rfl eD (cA cn) (fe 1 [1] [(65,.agg [pI m36.ID,pI m36.Kind,pS m36.Prefix,pL eS x38,pI m36.Company,pI m36.From,pI m36.To,pI m36.Registered,pI m36.Duty.Rate,pI m36.Duty.Amount,pI m36.Duty.Per,pB m36.Duty.HasMost,pI m36.Duty.Most,pB m36.Duty.HasLeast,pI m36.Duty.Least])] (by kernel_rfl) (ar rfl (bW rfl rfl rfl rfl rfl (eW rfl jD) rfl rfl rfl rfl (fun b42=>aa hq18 fun l44 hl44 hq18=>?_))))
     refine ar rfl (cV (enc:=Zc.enc) rfl rfl rfl rfl rfl rfl rfl rfl rfl eD (by exact aR (aR (aR aZ))) hl44 (fun a45 c46=>?_))
     refine aL [(11,pO a45 l44.length c46)] (by kernel_rfl) (aj ?_)
     obtain rfl:=osi hq18
     exact au ((a45,c46),l44) (ui rfl) dx rfl
    refine ag ?_
    refine aj ?_
    obtain rfl:=osi hq18
    exact au ((a3,c4),l2) (ui rfl) dx rfl
   rintro ⟨⟨a15,c16⟩,l17⟩ τ hz;(try dsimp only at hz);subst q18;(try dsimp only at hb10);dsimp only [aF]
   refine ah [19,20] [(12,pI (IntKind.i64.wrap (v5+1)))] (by kernel_rfl) ?_
   exact bm hb10 (a15,c16) (ui rfl) dx
  refine ba ?_
  refine aI (aB hb10 (fun ht=>aG rfl ?_))
  exact au ((a3,c4),l2) (wZ rfl) dx ht.symm
 rintro ⟨⟨a7,c8⟩,l9⟩ τ hz;(try dsimp only at hz);subst q11;(try dsimp only at h);dsimp only [aF]
 refine af (ah [68] [(10,pO a7 l9.length c8)] (by kernel_rfl) (aH ?_))
 refine e8 (enc:=Zc.enc) (xs:=l9) 10 rfl (by exact aZ) ?_
 refine cu ?_
 exact zz r h rfl
def cb (p0:(List Zc)) (p1:(Zc→Option Bool)):Option Int:=(bk (S:=Int) (T:=(Unit)⊕(_)) (fun v1=>cond (decide (v1<(p0.length:Int))) ((idx p0 v1).bind fun m5=>(p1 m5).bind fun x6=>cond x6 (some (.inr (.inr v1))) (some (.inl (IntKind.i64.wrap (v1+1))))) (some (.inr (.inl ())))) FUEL 0).bind fun q=>match q with | .inl _=>some (-1) | .inr e=>some e
theorem ep {p0:(List Zc)} {p1:(Zc→Option Bool)} {r:Int} {g1:PV} (hg1:∀ {y0:Zc} {w:Bool},p1 y0=some w→PFV g1 [.agg (aU y0)] (pB w)) (h:cb p0 p1=some r):PF 74 [pL Zc.enc p0,g1] (pI r):=by
 unfold cb at h
 refine bi ?_
 refine eg Tryz.func74 rfl Tryz.ntmps74 Tryz.results74 rfl (bf [4] (by kernel_rfl) (cH (ah [6] [(7,pI (p0.length:Int)),(8,pI 0)] (by kernel_rfl) (fu h fun q3 hq3 h=>?_))))
 refine av (Y:=Unit×Unit) (fun (_,_)=>[]) (fun (_,_)=>[]) (fun (_,_)=>q3=Sum.inl ()) ?_ ?_
 ·refine an ?_
  refine aY (Y:=Unit) (S:=Int) _ hq3 (fun _ v1=>[(0,pL Zc.enc p0),(1,g1),(7,pI (p0.length:Int)),(8,pI v1)]) (fun _ v1=>[]) () (kf rfl) bD ?_
  rintro _ v1 o τ hb2;(try dsimp only at hb2);dsimp only [aF]
  refine af (ai [(9,pB (decide (v1<(p0.length:Int))))] (by kernel_rfl) (bN (iQ rfl hb2 (fun hc4 hb2=>?_) fun hc4 hb2=>?_)))
  ·refine ag ?_
   refine bN (an (af (ah [10] [(5,pI v1)] (by kernel_rfl) (eo hb2 fun m5 hm5 hb2=>aa hb2 fun x6 hx6 hb2=>aD [] (rg 11 5) [(16,pB x6)] (eH 3 Zc.enc hm5 (ye 5 (hg1 hx6) bA)) (by kernel_rfl) (bZ rfl hb2 (fun hc7 hb2=>?_) fun hc7 hb2=>?_)))))
   ·refine af ?_
    refine ah [17] [(4,pI v1)] (by kernel_rfl) (dB (aw (aP ?_)))
    refine bp hb2 (fun ht=>?_);subst ht
    refine aw (bt ?_)
    exact zz r h rfl
   refine ag ?_
   refine aj (aH (ah [18] [(8,pI (IntKind.i64.wrap (v1+1)))] (by kernel_rfl) ?_))
   exact bm hb2 () (kf rfl) bD
  refine ba ?_
  refine aI (aB hb2 (fun ht=>aG rfl ?_))
  exact au ((),()) lw bD ht.symm
 rintro ⟨_,_⟩ τ hz;(try dsimp only at hz);subst q3;(try dsimp only at h);dsimp only [aF]
 refine af (ai [(4,pI (-1))] (by kernel_rfl) (dB ?_))
 exact zz r h rfl
def bS (p0:(List Zc)) (p1:(Zc→Option Bool)):Option Bool:=(cb p0 p1).bind fun x1=>some (decide (0≤x1))
theorem dX {p0:(List Zc)} {p1:(Zc→Option Bool)} {r:Bool} {g1:PV} (hg1:∀ {y0:Zc} {w:Bool},p1 y0=some w→PFV g1 [.agg (aU y0)] (pB w)) (h:bS p0 p1=some r):PF 50 [pL Zc.enc p0,g1] (pB r):=by
 unfold bS at h
 refine bi ?_
 refine eg Tryz.func50 rfl Tryz.ntmps50 Tryz.results50 rfl (bf [4] (by kernel_rfl) (eo h fun x1 hx1 h=>aD [] [5,6,7,8] [(4,pB (decide (0≤x1)))] (bz 2 (ep hg1 hx1) bA) (by kernel_rfl) (dB ?_)))
 exact zz r h rfl
def im (p0:Zc):Option Bool:=some (p0.Kind == 1)
theorem lV {p0:Zc} {r:Bool}  (h:im p0=some r):PF 51 [.agg (aU p0)] (pB r):=by
 unfold im at h
 refine bi ?_
 refine eg Tryz.func51 rfl Tryz.ntmps51 Tryz.results51 rfl (ae (ar rfl (bB (cs:=(aU p0)) rfl rfl (fun b1=>bu [2] (by kernel_rfl) (bN (aT [0] [3,4,5] [(2,pB (p0.Kind == 1))] (by kernel_rfl) (dB ?_)))))))
 exact zz r h rfl
def ip (p0:Int) (p1:(List Int)):Option Int:=cond (decide (1000<(p1.length:Int))) (some (8:Int)) (cond ((decide (p0<0))||(decide (1000000000000<p0))) (some (2:Int)) ((bk (S:=Int) (T:=(Unit)⊕(_)) (fun v3=>cond (decide (v3<(p1.length:Int))) ((idx p1 v3).bind fun m7=>cond ((decide (m7<0))||(decide (1000000000000<m7))) (some (.inr (.inr (2:Int)))) (some (.inl (IntKind.i64.wrap (v3+1))))) (some (.inr (.inl ())))) FUEL 0).bind fun q=>match q with | .inl _=>cond (((p1.length:Int) == 0)&&(decide (0<p0))) (some (7:Int)) (some (0:Int)) | .inr e=>some e))
theorem lW {p0:Int} {p1:(List Int)} {r:Int}  (h:ip p0 p1=some r):PF 88 [pI p0,pL eI p1] (pI r):=by
 unfold ip at h
 refine bi ?_
 refine eg Tryz.func88 rfl Tryz.ntmps88 Tryz.results88 rfl (bf [4] (by kernel_rfl) (cH (ah [7,8] [(9,pB (decide (1000<(p1.length:Int))))] (by kernel_rfl) (bZ rfl h (fun hc1 h=>?_) fun hc1 h=>?_))))
 ·refine af ?_
  refine ai [(4,pI 8)] (by kernel_rfl) (fB ?_)
  exact zz r h rfl
 refine ag ?_
 refine cH (ah (rg 10 5) [(15,pB ((decide (p0<0))||(decide (1000000000000<p0))))] (by kernel_rfl) (bZ rfl h (fun hc2 h=>?_) fun hc2 h=>?_))
 ·refine af ?_
  refine ai [(4,pI 2)] (by kernel_rfl) (fB ?_)
  exact zz r h rfl
 refine ag ?_
 refine cH (ai [(16,pL eI p1),(17,pI (p1.length:Int)),(18,pI 0)] (by kernel_rfl) (fu h fun q5 hq5 h=>?_))
 refine av (Y:=Unit×Unit) (fun (_,_)=>[(0,pI p0),(1,pL eI p1)]) (fun (_,_)=>[]) (fun (_,_)=>q5=Sum.inl ()) ?_ ?_
 ·refine an ?_
  refine aY (Y:=Unit) (S:=Int) _ hq5 (fun _ v3=>[(0,pI p0),(1,pL eI p1),(16,pL eI p1),(17,pI (p1.length:Int)),(18,pI v3)]) (fun _ v3=>[]) () (kO rfl) bD ?_
  rintro _ v3 o τ hb4;(try dsimp only at hb4);dsimp only [aF]
  refine af (ai [(19,pB (decide (v3<(p1.length:Int))))] (by kernel_rfl) (bN (iQ rfl hb4 (fun hc6 hb4=>?_) fun hc6 hb4=>?_)))
  ·refine ag ?_
   refine bN (an (af (aa hb4 fun m7 hm7 hb4=>aD [] [20,21] [(6,pI m7)] (eH 0 eI hm7 bA) (by kernel_rfl) (bN (ah (rg 22 5) [(27,pB ((decide (m7<0))||(decide (1000000000000<m7))))] (by kernel_rfl) (bZ rfl hb4 (fun hc8 hb4=>?_) fun hc8 hb4=>?_))))))
   ·refine af ?_
    refine ai [(4,pI 2)] (by kernel_rfl) (dB (aw (aP ?_)))
    refine bp hb4 (fun ht=>?_);subst ht
    refine aw (bt ?_)
    exact zz r h rfl
   refine ag ?_
   refine aj (aH (ah [28] [(18,pI (IntKind.i64.wrap (v3+1)))] (by kernel_rfl) ?_))
   exact bm hb4 () (kO rfl) bD
  refine ba ?_
  refine aI (aB hb4 (fun ht=>aG rfl ?_))
  exact au ((),()) (ke rfl) bD ht.symm
 rintro ⟨_,_⟩ τ hz;(try dsimp only at hz);subst q5;(try dsimp only at h);dsimp only [aF]
 refine fW (ah (rg 29 6) [(35,pB (((p1.length:Int) == 0)&&(decide (0<p0))))] (by kernel_rfl) (bZ rfl h (fun hc9 h=>?_) fun hc9 h=>?_))
 ·refine af ?_
  refine ai [(4,pI 7)] (by kernel_rfl) (fB ?_)
  exact zz r h rfl
 refine ag ?_
 refine bN (ai [(4,pI 0)] (by kernel_rfl) (dB ?_))
 exact zz r h rfl
def iq (p0:(List Int)):Option Int:=(bk (S:=Int×Int) (T:=(Int)) (fun (v1,v2)=>cond (decide (v2<(p0.length:Int))) ((idx p0 v2).bind fun m7=>some (.inl ((IntKind.i64.wrap (v1+m7)),(IntKind.i64.wrap (v2+1))))) (some (.inr v1))) FUEL (0,0)).bind fun v3=>some v3
theorem lX {p0:(List Int)} {r:Int}  (h:iq p0=some r):PF 89 [pL eI p0] (pI r):=by
 unfold iq at h
 refine bi ?_
 refine eg Tryz.func89 rfl Tryz.ntmps89 Tryz.results89 rfl (bf [2] (by kernel_rfl) (bN (ai [(3,pI 0)] (by kernel_rfl) (cH (ai [(6,pL eI p0),(7,pI (p0.length:Int)),(8,pI 0)] (by kernel_rfl) (fu h fun q5 hq5 h=>?_))))))
 refine av (Y:=Unit×Int) (fun (_,v3)=>[(3,pI v3)]) (fun (_,v3)=>[]) (fun (_,v3)=>q5=v3) ?_ ?_
 ·refine an ?_
  refine aY (Y:=Unit) (S:=Int×Int) _ hq5 (fun _ (v1,v2)=>[(3,pI v1),(6,pL eI p0),(7,pI (p0.length:Int)),(8,pI v2)]) (fun _ (v1,v2)=>[]) () (kf rfl) bD ?_
  rintro _ ⟨v1,v2⟩ o τ hb4;(try dsimp only at hb4);dsimp only [aF]
  refine af (ai [(9,pB (decide (v2<(p0.length:Int))))] (by kernel_rfl) (bN (iQ rfl hb4 (fun hc6 hb4=>?_) fun hc6 hb4=>?_)))
  ·refine ag ?_
   refine bN (an (af (aa hb4 fun m7 hm7 hb4=>aD [] [10,11] [(5,pI m7)] (eH 0 eI hm7 bA) (by kernel_rfl) (aH (ah [12,13,14] [(3,pI (IntKind.i64.wrap (v1+m7)))] (by kernel_rfl) (aj (aH (ah [15] [(8,pI (IntKind.i64.wrap (v2+1)))] (by kernel_rfl) ?_))))))))
   exact bm hb4 () (kf rfl) bD
  refine ba ?_
  refine aI (aB hb4 (fun ht=>aG rfl ?_))
  exact au ((),v1) (wZ rfl) bD ht.symm
 rintro ⟨_,v3⟩ τ hz;(try dsimp only at hz);subst q5;(try dsimp only at h);dsimp only [aF]
 refine af (ah [16] [(2,pI v3)] (by kernel_rfl) (dB ?_))
 exact zz r h rfl
def ir (p0:Int) (p1:Int):Option (Int×Int):=lb ((IntKind.u64.wrap ((dd .u64 p0 4294967295)*(dd .u64 p1 4294967295)))) (fun w1=>lb ((IntKind.u64.wrap ((IntKind.u64.wrap ((co .u64 p0 32)*(dd .u64 p1 4294967295)))+(co .u64 w1 32)))) (fun w2=>lb ((IntKind.u64.wrap ((dd .u64 w2 4294967295)+(IntKind.u64.wrap ((dd .u64 p0 4294967295)*(co .u64 p1 32)))))) (fun w3=>lb ((IntKind.u64.wrap ((IntKind.u64.wrap ((IntKind.u64.wrap ((co .u64 p0 32)*(co .u64 p1 32)))+(co .u64 w2 32)))+(co .u64 w3 32)))) (fun w4=>some (w4,(IntKind.u64.wrap (p0*p1)))))))
theorem lY {p0:Int} {p1:Int} {r:(Int×Int)}  (h:ir p0 p1=some r):PF 113 [pU p0,pU p1] (.tup [pU r.1,pU r.2]):=by
 unfold ir at h
 refine bi ?_
 refine eg Tryz.func113 rfl Tryz.ntmps113 Tryz.results113 rfl (bf [4,5] (by kernel_rfl) (bN (ah [14,15] [(6,pU (dd .u64 p0 4294967295))] (by kernel_rfl) (bN (ah [16,17] [(7,pU (co .u64 p0 32))] (by kernel_rfl) (bN (ah [18,19] [(8,pU (dd .u64 p1 4294967295))] (by kernel_rfl) (bN (ah [20,21] [(9,pU (co .u64 p1 32))] (by kernel_rfl) (bN ?_))))))))))
 refine cL h ?_;clear h;intro w1 hw1 h
 refine ae (bY 3 [22,23] [(24,pU (IntKind.u64.wrap ((dd .u64 p0 4294967295)*(dd .u64 p1 4294967295))))] (by kernel_rfl) (bE rfl rfl rfl (bc rfl (.p (congrArg (fun z=>PV.v (Value.int .u64 z)) hw1))) (az (bN ?_))))
 refine cL h ?_;clear h;intro w2 hw2 h
 refine ae (bY 6 (rg 25 5) [(30,pU (IntKind.u64.wrap ((IntKind.u64.wrap ((co .u64 p0 32)*(dd .u64 p1 4294967295)))+(co .u64 w1 32))))] (by kernel_rfl) (bE rfl rfl rfl (bc rfl (.p (congrArg (fun z=>PV.v (Value.int .u64 z)) hw2))) (az (bN (ah [31,32] [(12,pU (dd .u64 w2 4294967295))] (by kernel_rfl) (bN (ah [33,34] [(13,pU (co .u64 w2 32))] (by kernel_rfl) (bN ?_))))))))
 refine cL h ?_;clear h;intro w3 hw3 h
 refine ae (bY 5 [35,36,37,38] [(39,pU (IntKind.u64.wrap ((dd .u64 w2 4294967295)+(IntKind.u64.wrap ((dd .u64 p0 4294967295)*(co .u64 p1 32))))))] (by kernel_rfl) (bE rfl rfl rfl (bc rfl (.p (congrArg (fun z=>PV.v (Value.int .u64 z)) hw3))) (az (bN ?_))))
 refine cL h ?_;clear h;intro w4 hw4 h
 refine ae (bY 8 (rg 40 7) [(47,pU (IntKind.u64.wrap ((IntKind.u64.wrap ((IntKind.u64.wrap ((co .u64 p0 32)*(co .u64 p1 32)))+(co .u64 w2 32)))+(co .u64 w3 32))))] (by kernel_rfl) (bE rfl rfl rfl (bc rfl (.p (congrArg (fun z=>PV.v (Value.int .u64 z)) hw4))) (az (bN (ah [48,49,50] [(5,pU (IntKind.u64.wrap (p0*p1)))] (by kernel_rfl) (dB ?_))))))
 obtain rfl:=osi h
 exact aM (bR (aK rfl) (aK rfl)) bD ⟨rfl,rfl⟩
def iT (p0:Int) (p1:Int):Option Zh:=(ir p0 p1).bind fun x2=>some (⟨x2.1,x2.2⟩:Zh)
theorem iH {p0:Int} {p1:Int} {r:Zh}  (h:iT p0 p1=some r):PF 95 [pU p0,pU p1] (.agg [pU r.Hi,pU r.Lo]):=by
 unfold iT at h
 refine bi ?_
 refine eg Tryz.func95 rfl Tryz.ntmps95 Tryz.results95 rfl (ae (ar rfl (be (cs:=[pU 0,pU 0]) rfl rfl rfl rfl (fun b1=>az (eo h fun x2 hx2 h=>aD [] [8,9,10,7,11,12] [(5,pU x2.1),(6,pU x2.2)] (bz 2 (lY hx2) bA) (by kernel_rfl) (bN (ae (bY 3 [13,14] [(15,.agg [pU x2.1,pU x2.2])] (by kernel_rfl) (aQ rfl rfl (ak (vs:=[pU x2.1,pU x2.2]) rfl rfl rfl rfl rfl cn jV (az (dB ?_))))))))))))
 obtain rfl:=osi h
 exact aM (gp (dh rfl eD rfl)) bD ⟨rfl,rfl⟩
def dY (p0:Int):Option Int:=(fK p0).bind fun x1=>some (IntKind.i64.wrap (64 - x1))
theorem iI {p0:Int} {r:Int}  (h:dY p0=some r):PF 123 [pU p0] (pI r):=by
 unfold dY at h
 refine bi ?_
 refine eg Tryz.func123 rfl Tryz.ntmps123 Tryz.results123 rfl (bf [2] (by kernel_rfl) (eo h fun x1 hx1 h=>aD [] [3,4,5] [(2,pI (IntKind.i64.wrap (64 - x1)))] (bz 1 (i0 hx1) bA) (by kernel_rfl) (dB ?_)))
 exact zz r h rfl
def fL (p0:Int) (p1:Int) (p2:Int):Option (Int×Int):=cond (p2 == 0) (none) (cond (decide (p2≤p0)) (none) (cond (p0 == 0) ((nz p2).bind fun u4=>(nz p2).bind fun u5=>some ((IntKind.u64.wrap (Int.tdiv p1 p2)),(Int.tmod p1 p2))) ((dY p2).bind fun x6=>(lG (IntKind.u64.wrap x6)).bind fun u7=>lb ((co .u64 (dV .u64 p2 (IntKind.u64.wrap x6)) 32)) (fun w8=>lb ((dd .u64 (dV .u64 p2 (IntKind.u64.wrap x6)) 4294967295)) (fun w9=>(lG (IntKind.u64.wrap x6)).bind fun u10=>(lG (IntKind.u64.wrap (64 - (IntKind.u64.wrap x6)))).bind fun u11=>lb ((mj .u64 (dV .u64 p0 (IntKind.u64.wrap x6)) (co .u64 p1 (IntKind.u64.wrap (64 - (IntKind.u64.wrap x6)))))) (fun w12=>(lG (IntKind.u64.wrap x6)).bind fun u13=>lb ((co .u64 (dV .u64 p1 (IntKind.u64.wrap x6)) 32)) (fun w14=>lb ((dd .u64 (dV .u64 p1 (IntKind.u64.wrap x6)) 4294967295)) (fun w15=>(nz w8).bind fun u16=>lb ((IntKind.u64.wrap (w12 - (IntKind.u64.wrap ((IntKind.u64.wrap (Int.tdiv w12 w8))*w8))))) (fun w17=>(bk (S:=Int×Int) (T:=(Int)) (fun (v18,v19)=>cond ((decide (4294967296≤v18))||(decide ((IntKind.u64.wrap ((IntKind.u64.wrap (4294967296*v19))+w14))<(IntKind.u64.wrap (v18*w9))))) (cond (decide (4294967296≤(IntKind.u64.wrap (v19+w8)))) (some (.inr (IntKind.u64.wrap (v18 - 1)))) (some (.inl ((IntKind.u64.wrap (v18 - 1)),(IntKind.u64.wrap (v19+w8)))))) (some (.inr v18))) FUEL ((IntKind.u64.wrap (Int.tdiv w12 w8)),w17)).bind fun v20=>lb ((IntKind.u64.wrap ((IntKind.u64.wrap ((IntKind.u64.wrap (w12*4294967296))+w14)) - (IntKind.u64.wrap (v20*(dV .u64 p2 (IntKind.u64.wrap x6))))))) (fun w25=>(nz w8).bind fun u26=>lb ((IntKind.u64.wrap (w25 - (IntKind.u64.wrap ((IntKind.u64.wrap (Int.tdiv w25 w8))*w8))))) (fun w27=>(bk (S:=Int×Int) (T:=(Int)) (fun (v28,v29)=>cond ((decide (4294967296≤v29))||(decide ((IntKind.u64.wrap ((IntKind.u64.wrap (4294967296*v28))+w15))<(IntKind.u64.wrap (v29*w9))))) (cond (decide (4294967296≤(IntKind.u64.wrap (v28+w8)))) (some (.inr (IntKind.u64.wrap (v29 - 1)))) (some (.inl ((IntKind.u64.wrap (v28+w8)),(IntKind.u64.wrap (v29 - 1)))))) (some (.inr v29))) FUEL (w27,(IntKind.u64.wrap (Int.tdiv w25 w8)))).bind fun v30=>(lG (IntKind.u64.wrap x6)).bind fun u35=>lb ((IntKind.u64.wrap ((IntKind.u64.wrap (v20*4294967296))+v30))) (fun w36=>lb ((co .u64 (IntKind.u64.wrap ((IntKind.u64.wrap ((IntKind.u64.wrap (w25*4294967296))+w15)) - (IntKind.u64.wrap (v30*(dV .u64 p2 (IntKind.u64.wrap x6)))))) (IntKind.u64.wrap x6))) (fun w37=>some (w36,w37))))))))))))))
theorem ja {p0:Int} {p1:Int} {p2:Int} {r:(Int×Int)}  (h:fL p0 p1 p2=some r):PF 115 [pU p0,pU p1,pU p2] (.tup [pU r.1,pU r.2]):=by
 unfold fL at h
 refine bi ?_
 refine eg Tryz.func115 rfl Tryz.ntmps115 Tryz.results115 rfl (bf [6,7] (by kernel_rfl) (cH (ah [19] [(20,pB (p2 == 0))] (by kernel_rfl) (bZ rfl h (fun hc1 h=>?_) fun hc1 h=>?_))))
 ·refine ae ?_
  exact absurd h (by simp)
 refine ag ?_
 refine cH (ah [22,23] [(24,pB (decide (p2≤p0)))] (by kernel_rfl) (bZ rfl h (fun hc2 h=>?_) fun hc2 h=>?_))
 ·refine ae ?_
  exact absurd h (by simp)
 refine ag ?_
 refine cH (ah [26] [(27,pB (p0 == 0))] (by kernel_rfl) (bZ rfl h (fun hc3 h=>?_) fun hc3 h=>?_))
 ·refine af ?_
  refine bH (ρd:=[]) [(0,0),(1,0),(2,0),(3,0),(4,0),(5,0),(6,0),(7,0)] _ (List.Perm.refl _) (by kernel_rfl) rfl (aa h fun u4 hu4 h=>aa h fun u5 hu5 h=>bV 8 [] (rg 28 6) [(6,pU (IntKind.u64.wrap (Int.tdiv p1 p2))),(7,pU (Int.tmod p1 p2))] (uH 2 hu4 (uH 5 hu5 bA)) (by kernel_rfl) (ce (fB ?_)))
  obtain rfl:=osi h
  exact aM (bR (aK rfl) (aK rfl)) bD ⟨rfl,rfl⟩
 refine ag ?_
 refine eo h fun x6 hx6 h=>aD [] [34,35,36] [(8,pU (IntKind.u64.wrap x6))] (bz 1 (iI hx6) bA) (by kernel_rfl) (eo h fun u7 hu7 h=>aD [] [37,38,39] [(2,pU (dV .u64 p2 (IntKind.u64.wrap x6)))] (rI 2 hu7 bA) (by kernel_rfl) (bN ?_))
 refine cL h ?_;clear h;intro w8 hw8 h
 refine ae (bY 2 [40] [(41,pU (co .u64 (dV .u64 p2 (IntKind.u64.wrap x6)) 32))] (by kernel_rfl) (bE rfl rfl rfl (bc rfl (.p (congrArg (fun z=>PV.v (Value.int .u64 z)) hw8))) (az (bN ?_))))
 refine cL h ?_;clear h;intro w9 hw9 h
 refine ae (bY 2 [42] [(43,pU (dd .u64 (dV .u64 p2 (IntKind.u64.wrap x6)) 4294967295))] (by kernel_rfl) (bE rfl rfl rfl (bc rfl (.p (congrArg (fun z=>PV.v (Value.int .u64 z)) hw9))) (az (eo h fun u10 hu10 h=>aa h fun u11 hu11 h=>?_))))
 refine cL h ?_;clear h;intro w12 hw12 h
 refine ae (bd 8 [] (rg 44 7) [(51,pU (mj .u64 (dV .u64 p0 (IntKind.u64.wrap x6)) (co .u64 p1 (IntKind.u64.wrap (64 - (IntKind.u64.wrap x6))))))] (rI 2 hu10 (rI 6 hu11 bA)) (by kernel_rfl) (bE rfl rfl rfl (bc rfl (.p (congrArg (fun z=>PV.v (Value.int .u64 z)) hw12))) (az (eo h fun u13 hu13 h=>aD [] [52,53,54] [(12,pU (dV .u64 p1 (IntKind.u64.wrap x6)))] (rI 2 hu13 bA) (by kernel_rfl) (bN ?_)))))
 refine cL h ?_;clear h;intro w14 hw14 h
 refine ae (bY 2 [55] [(56,pU (co .u64 (dV .u64 p1 (IntKind.u64.wrap x6)) 32))] (by kernel_rfl) (bE rfl rfl rfl (bc rfl (.p (congrArg (fun z=>PV.v (Value.int .u64 z)) hw14))) (az (bN ?_))))
 refine cL h ?_;clear h;intro w15 hw15 h
 refine ae (bY 2 [57] [(58,pU (dd .u64 (dV .u64 p1 (IntKind.u64.wrap x6)) 4294967295))] (by kernel_rfl) (bE rfl rfl rfl (bc rfl (.p (congrArg (fun z=>PV.v (Value.int .u64 z)) hw15))) (az (eo h fun u16 hu16 h=>aD [] [59,60,61] [(15,pU (IntKind.u64.wrap (Int.tdiv w12 w8)))] (uH 2 hu16 bA) (by kernel_rfl) (bN ?_)))))
 refine cL h ?_;clear h;intro w17 hw17 h
 refine ae (bY 5 [62,63,64,65] [(66,pU (IntKind.u64.wrap (w12 - (IntKind.u64.wrap ((IntKind.u64.wrap (Int.tdiv w12 w8))*w8)))))] (by kernel_rfl) (bE rfl rfl rfl (bc rfl (.p (congrArg (fun z=>PV.v (Value.int .u64 z)) hw17))) (az (eo h fun q22 hq22 h=>?_))))
 refine av (Y:=Unit×Int) (fun (_,v20)=>[(2,pU (dV .u64 p2 (IntKind.u64.wrap x6))),(8,pU (IntKind.u64.wrap x6)),(9,pU w8),(10,pU w9),(11,pU w12),(13,pU w14),(14,pU w15),(15,pU v20)]) (fun (_,v20)=>[]) (fun (_,v20)=>q22=v20) ?_ ?_
 ·refine an ?_
  refine aY (Y:=Unit) (S:=Int×Int) _ hq22 (fun _ (v18,v19)=>[(2,pU (dV .u64 p2 (IntKind.u64.wrap x6))),(8,pU (IntKind.u64.wrap x6)),(9,pU w8),(10,pU w9),(11,pU w12),(13,pU w14),(14,pU w15),(15,pU v18),(16,pU v19)]) (fun _ (v18,v19)=>[]) () (mI rfl) bD ?_
  rintro _ ⟨v18,v19⟩ o τ hb21;(try dsimp only at hb21);dsimp only [aF]
  refine fW (ah (rg 67 11) [(78,pB ((decide (4294967296≤v18))||(decide ((IntKind.u64.wrap ((IntKind.u64.wrap (4294967296*v19))+w14))<(IntKind.u64.wrap (v18*w9))))))] (by kernel_rfl) (bZ rfl hb21 (fun hc23 hb21=>?_) fun hc23 hb21=>?_))
  ·refine ag ?_
   refine aH (an (af (ah [79,80] [(15,pU (IntKind.u64.wrap (v18 - 1)))] (by kernel_rfl) (bN (ah [81,82,83] [(16,pU (IntKind.u64.wrap (v19+w8)))] (by kernel_rfl) (bN (ah [84] [(85,pB (decide (4294967296≤(IntKind.u64.wrap (v19+w8)))))] (by kernel_rfl) (bZ rfl hb21 (fun hc24 hb21=>?_) fun hc24 hb21=>?_))))))))
   ·refine ba ?_
    refine hQ rfl (aB hb21 (fun ht=>aG rfl ?_))
    exact au ((),(IntKind.u64.wrap (v18 - 1))) (ze rfl) bD ht.symm
   refine ag ?_
   refine aj ?_
   exact bm hb21 () (mI rfl) bD
  refine ba ?_
  refine aI (aB hb21 (fun ht=>aG rfl ?_))
  exact au ((),v18) (ze rfl) bD ht.symm
 rintro ⟨_,v20⟩ τ hz;(try dsimp only at hz);subst q22;(try dsimp only at h);dsimp only [aF]
 refine af ?_
 refine cL h ?_;clear h;intro w25 hw25 h
 refine ae (bY 8 (rg 86 7) [(93,pU (IntKind.u64.wrap ((IntKind.u64.wrap ((IntKind.u64.wrap (w12*4294967296))+w14)) - (IntKind.u64.wrap (v20*(dV .u64 p2 (IntKind.u64.wrap x6)))))))] (by kernel_rfl) (bE rfl rfl rfl (bc rfl (.p (congrArg (fun z=>PV.v (Value.int .u64 z)) hw25))) (az (eo h fun u26 hu26 h=>aD [] [94,95,96] [(18,pU (IntKind.u64.wrap (Int.tdiv w25 w8)))] (uH 2 hu26 bA) (by kernel_rfl) (bN ?_)))))
 refine cL h ?_;clear h;intro w27 hw27 h
 refine ae (bY 5 [97,98,99,100] [(101,pU (IntKind.u64.wrap (w25 - (IntKind.u64.wrap ((IntKind.u64.wrap (Int.tdiv w25 w8))*w8)))))] (by kernel_rfl) (bE rfl rfl rfl (bc rfl (.p (congrArg (fun z=>PV.v (Value.int .u64 z)) hw27))) (az (eo h fun q32 hq32 h=>?_))))
 refine av (Y:=Unit×Int) (fun (_,v30)=>[(2,pU (dV .u64 p2 (IntKind.u64.wrap x6))),(8,pU (IntKind.u64.wrap x6)),(14,pU w15),(15,pU v20),(17,pU w25),(18,pU v30)]) (fun (_,v30)=>[]) (fun (_,v30)=>q32=v30) ?_ ?_
 ·refine an ?_
  refine aY (Y:=Unit) (S:=Int×Int) _ hq32 (fun _ (v28,v29)=>[(2,pU (dV .u64 p2 (IntKind.u64.wrap x6))),(8,pU (IntKind.u64.wrap x6)),(9,pU w8),(10,pU w9),(14,pU w15),(15,pU v20),(16,pU v28),(17,pU w25),(18,pU v29)]) (fun _ (v28,v29)=>[]) () (mI rfl) bD ?_
  rintro _ ⟨v28,v29⟩ o τ hb31;(try dsimp only at hb31);dsimp only [aF]
  refine fW (ah (rg 102 11) [(113,pB ((decide (4294967296≤v29))||(decide ((IntKind.u64.wrap ((IntKind.u64.wrap (4294967296*v28))+w15))<(IntKind.u64.wrap (v29*w9))))))] (by kernel_rfl) (bZ rfl hb31 (fun hc33 hb31=>?_) fun hc33 hb31=>?_))
  ·refine ag ?_
   refine aH (an (af (ah [114,115] [(18,pU (IntKind.u64.wrap (v29 - 1)))] (by kernel_rfl) (bN (ah [116,117,118] [(16,pU (IntKind.u64.wrap (v28+w8)))] (by kernel_rfl) (bN (ah [119] [(120,pB (decide (4294967296≤(IntKind.u64.wrap (v28+w8)))))] (by kernel_rfl) (bZ rfl hb31 (fun hc34 hb31=>?_) fun hc34 hb31=>?_))))))))
   ·refine ba ?_
    refine hQ rfl (aB hb31 (fun ht=>aG rfl ?_))
    exact au ((),(IntKind.u64.wrap (v29 - 1))) (qj rfl) bD ht.symm
   refine ag ?_
   refine aj ?_
   exact bm hb31 () (mI rfl) bD
  refine ba ?_
  refine aI (aB hb31 (fun ht=>aG rfl ?_))
  exact au ((),v29) (qj rfl) bD ht.symm
 rintro ⟨_,v30⟩ τ hz;(try dsimp only at hz);subst q32;(try dsimp only at h);dsimp only [aF]
 refine af (aa h fun u35 hu35 h=>?_)
 refine cL h ?_;clear h;intro w36 hw36 h
 refine ae (bd 14 [] [121,122,123,125,126,127,128,129,130,131,132,133] [(124,pU (IntKind.u64.wrap ((IntKind.u64.wrap (v20*4294967296))+v30))),(134,pU (co .u64 (IntKind.u64.wrap ((IntKind.u64.wrap ((IntKind.u64.wrap (w25*4294967296))+w15)) - (IntKind.u64.wrap (v30*(dV .u64 p2 (IntKind.u64.wrap x6)))))) (IntKind.u64.wrap x6)))] (rI 13 hu35 bA) (by kernel_rfl) (bE rfl rfl rfl (bc rfl (.p (congrArg (fun z=>PV.v (Value.int .u64 z)) hw36))) ?_))
 refine cL h ?_;clear h;intro w37 hw37 h
 refine bE rfl rfl rfl (bc rfl (.p (congrArg (fun z=>PV.v (Value.int .u64 z)) hw37))) (az (dB ?_))
 obtain rfl:=osi h
 exact aM (bR (aK rfl) (aK rfl)) bD ⟨rfl,rfl⟩
def ki (p0:Int) (p1:Int) (p2:Int) (p3:Int):Option Bool:=cond (p3 == 1) (some (decide (0<p1))) (cond (p3 == 2) (some (decide ((IntKind.u64.wrap (p2 - p1))≤p1))) (cond (p3 == 3) (some ((decide ((IntKind.u64.wrap (p2 - p1))<p1))||((p1 == (IntKind.u64.wrap (p2 - p1)))&&((Int.tmod p0 2) == 1)))) (some false)))
theorem ot {p0:Int} {p1:Int} {p2:Int} {p3:Int} {r:Bool}  (h:ki p0 p1 p2 p3=some r):PF 116 [pU p0,pU p1,pU p2,pI p3] (pB r):=by
 unfold ki at h
 refine bi ?_
 refine eg Tryz.func116 rfl Tryz.ntmps116 Tryz.results116 rfl (bf [8] (by kernel_rfl) (bN (ah [10,11,12] [(9,pU (IntKind.u64.wrap (p2 - p1)))] (by kernel_rfl) (cH (ai [(13,pI p3)] (by kernel_rfl) (aH (an (af (ah [15] [(14,pB (p3 == 1))] (by kernel_rfl) (bZ rfl h (fun hc1 h=>?_) fun hc1 h=>?_))))))))))
 ·refine af ?_
  refine ah [16,17] [(8,pB (decide (0<p1)))] (by kernel_rfl) (dB (aw (aP ?_)))
  exact zz r h rfl
 refine af ?_
 refine ah [19] [(18,pB (p3 == 2))] (by kernel_rfl) (bZ rfl h (fun hc2 h=>?_) fun hc2 h=>?_)
 ·refine af ?_
  refine ah [20,21,22] [(8,pB (decide ((IntKind.u64.wrap (p2 - p1))≤p1)))] (by kernel_rfl) (dB (aw (aP ?_)))
  exact zz r h rfl
 refine af ?_
 refine ah [24] [(23,pB (p3 == 3))] (by kernel_rfl) (bZ rfl h (fun hc3 h=>?_) fun hc3 h=>?_)
 ·refine af ?_
  refine ah (rg 25 13) [(8,pB ((decide ((IntKind.u64.wrap (p2 - p1))<p1))||((p1 == (IntKind.u64.wrap (p2 - p1)))&&((Int.tmod p0 2) == 1))))] (by kernel_rfl) (dB (aw (aP ?_)))
  exact zz r h rfl
 refine ag ?_
 refine aj (bN (ai [(8,pB false)] (by kernel_rfl) (dB ?_)))
 exact zz r h rfl
def lr (p0:Zh) (p1:Int) (p2:Int):Option (Int×Int):=cond (((p1 == 0)||(decide (p2<0)))||(decide (3<p2))) (some ((0:Int),(2:Int))) (cond (decide (p1≤p0.Hi)) (some ((0:Int),(3:Int))) ((fL p0.Hi p0.Lo p1).bind fun x4=>(ki x4.1 x4.2 p1 p2).bind fun x5=>cond (!x5) (some (x4.1,(0:Int))) (cond (x4.1 == 18446744073709551615) (some ((0:Int),(3:Int))) (some ((IntKind.u64.wrap (x4.1+1)),(0:Int))))))
theorem mX {p0:Zh} {p1:Int} {p2:Int} {r:(Int×Int)}  (h:lr p0 p1 p2=some r):PF 98 [.agg [pU p0.Hi,pU p0.Lo],pU p1,pI p2] (.tup [pU r.1,pI r.2]):=by
 unfold lr at h
 refine bi ?_
 refine eg Tryz.func98 rfl Tryz.ntmps98 Tryz.results98 rfl (ae (ar rfl (bB (cs:=[pU p0.Hi,pU p0.Lo]) rfl rfl (fun b1=>bu [6,7] (by kernel_rfl) (cH (ah (rg 10 9) [(19,pB (((p1 == 0)||(decide (p2<0)))||(decide (3<p2))))] (by kernel_rfl) (bZ rfl h (fun hc2 h=>?_) fun hc2 h=>?_)))))))
 ·refine af ?_
  refine ai [(6,pU 0),(7,pI 2)] (by kernel_rfl) (fB ?_)
  obtain rfl:=osi h
  exact aM (bR (aK rfl) (aK rfl)) bD ⟨rfl,rfl⟩
 refine ag ?_
 refine cH (aT [0] [20,21,22] [(23,pB (decide (p1≤p0.Hi)))] (by kernel_rfl) (bZ rfl h (fun hc3 h=>?_) fun hc3 h=>?_))
 ·refine af ?_
  refine ai [(6,pU 0),(7,pI 3)] (by kernel_rfl) (fB ?_)
  obtain rfl:=osi h
  exact aM (bR (aK rfl) (aK rfl)) bD ⟨rfl,rfl⟩
 refine ag ?_
 refine eo h fun x4 hx4 h=>aD [0,0] ((rg 25 6)++[24,31,32]) [(8,pU x4.1),(9,pU x4.2)] (bz 5 (ja hx4) bA) (by kernel_rfl) (cH (aa h fun x5 hx5 h=>aD [] (rg 33 5) [(38,pB (!x5))] (bz 4 (ot hx5) bA) (by kernel_rfl) (bZ rfl h (fun hc6 h=>?_) fun hc6 h=>?_)))
 ·refine af ?_
  refine ah [39] [(6,pU x4.1),(7,pI 0)] (by kernel_rfl) (fB ?_)
  obtain rfl:=osi h
  exact aM (bR (aK rfl) (aK rfl)) bD ⟨rfl,rfl⟩
 refine ag ?_
 refine cH (ah [40] [(41,pB (x4.1 == 18446744073709551615))] (by kernel_rfl) (bZ rfl h (fun hc7 h=>?_) fun hc7 h=>?_))
 ·refine af ?_
  refine ai [(6,pU 0),(7,pI 3)] (by kernel_rfl) (fB ?_)
  obtain rfl:=osi h
  exact aM (bR (aK rfl) (aK rfl)) bD ⟨rfl,rfl⟩
 refine ag ?_
 refine bN (ah [42,43] [(6,pU (IntKind.u64.wrap (x4.1+1))),(7,pI 0)] (by kernel_rfl) (dB ?_))
 obtain rfl:=osi h
 exact aM (bR (aK rfl) (aK rfl)) bD ⟨rfl,rfl⟩
def kj (p0:Int) (p1:Int) (p2:Int) (p3:Int):Option (Int×Int):=(iT p0 p1).bind fun x1=>(lr x1 p2 p3).bind fun x2=>some (x2.1,x2.2)
theorem ou {p0:Int} {p1:Int} {p2:Int} {p3:Int} {r:(Int×Int)}  (h:kj p0 p1 p2 p3=some r):PF 90 [pU p0,pU p1,pU p2,pI p3] (.tup [pU r.1,pI r.2]):=by
 unfold kj at h
 refine bi ?_
 refine eg Tryz.func90 rfl Tryz.ntmps90 Tryz.results90 rfl (bf [8,9] (by kernel_rfl) (eo h fun x1 hx1 h=>aa h fun x2 hx2 h=>aD [] (rg 10 8) [(8,pU x2.1),(9,pI x2.2)] (bz 2 (iH hx1) (bz 5 (mX hx2) bA)) (by kernel_rfl) (dB ?_)))
 obtain rfl:=osi h
 exact aM (bR (aK rfl) (aK rfl)) bD ⟨rfl,rfl⟩
def iu (p0:Int) (p1:Int) (p2:Int):Option Int:=(nz p2).bind fun u1=>(fL (Int.tmod p0 p2) p1 p2).bind fun x2=>some x2.2
theorem lZ {p0:Int} {p1:Int} {p2:Int} {r:Int}  (h:iu p0 p1 p2=some r):PF 109 [pU p0,pU p1,pU p2] (pU r):=by
 unfold iu at h
 refine bi ?_
 refine eg Tryz.func109 rfl Tryz.ntmps109 Tryz.results109 rfl (bf [6] (by kernel_rfl) (eo h fun u1 hu1 h=>aa h fun x2 hx2 h=>aD [] ((rg 10 6)++[9,16,17,7]) [(8,pU x2.2)] (uH 2 hu1 (bz 5 (ja hx2) bA)) (by kernel_rfl) (bN (ah [18] [(6,pU x2.2)] (by kernel_rfl) (dB ?_)))))
 exact zz r h rfl
def km (p0:Int) (p1:Int) (p2:Int):Option Int:=cond (p2 == 0) (some (0:Int)) ((iT p0 p1).bind fun x2=>(iu x2.Hi x2.Lo p2).bind fun x4=>some x4)
theorem ow {p0:Int} {p1:Int} {p2:Int} {r:Int}  (h:km p0 p1 p2=some r):PF 91 [pU p0,pU p1,pU p2] (pU r):=by
 unfold km at h
 refine bi ?_
 refine eg Tryz.func91 rfl Tryz.ntmps91 Tryz.results91 rfl (bf [6] (by kernel_rfl) (cH (ah [8] [(9,pB (p2 == 0))] (by kernel_rfl) (bZ rfl h (fun hc1 h=>?_) fun hc1 h=>?_))))
 ·refine af ?_
  refine ai [(6,pU 0)] (by kernel_rfl) (fB ?_)
  exact zz r h rfl
 refine ag ?_
 refine eo h fun x2 hx2 h=>ae (bd 3 [] [10,11] [(12,.agg [pU x2.Hi,pU x2.Lo])] (bz 2 (iH hx2) bA) (by kernel_rfl) (ar rfl (be (cs:=[pU 0,pU 0]) rfl rfl rfl rfl (fun b3=>aQ rfl rfl (ak (vs:=[pU x2.Hi,pU x2.Lo]) rfl rfl rfl rfl rfl cn jV (az (eo h fun x4 hx4 h=>aD [0,0] (rg 13 6) [(6,pU x4)] (bz 5 (lZ hx4) bA) (by kernel_rfl) (dB ?_))))))))
 exact zz r h rfl
def fA (p0:Int):Option Bool:=some (p0 != p0)
theorem iA {p0:Int} {r:Bool}  (h:fA p0=some r):PF 121 [pU p0] (pB r):=by
 unfold fA at h
 refine bi ?_
 refine eg Tryz.func121 rfl Tryz.ntmps121 Tryz.results121 rfl (bf [2] (by kernel_rfl) (bN (ah [3,4,5] [(2,pB (p0 != p0))] (by kernel_rfl) (dB ?_))))
 exact zz r h rfl
def fR (p0:Int) (p1:Int):Option Int:=(fA p0).bind fun x1=>(fA p1).bind fun x2=>cond x1 (cond x2 (some (0:Int)) (some (-1))) (cond x2 (some (1:Int)) (cond (decide (p0<p1)) (some (-1)) (cond (decide (p1<p0)) (some (1:Int)) (some (0:Int)))))
theorem ky {p0:Int} {p1:Int} {r:Int}  (h:fR p0 p1=some r):PF 110 [pU p0,pU p1] (pI r):=by
 unfold fR at h
 refine bi ?_
 refine eg Tryz.func110 rfl Tryz.ntmps110 Tryz.results110 rfl (bf [4] (by kernel_rfl) (eo h fun x1 hx1 h=>aD [] [7,8] [(5,pB x1)] (bz 1 (iA hx1) bA) (by kernel_rfl) (eo h fun x2 hx2 h=>aD [] [9,10] [(6,pB x2)] (bz 1 (iA hx2) bA) (by kernel_rfl) (cH (ai [(11,pB x1)] (by kernel_rfl) (bZ rfl h (fun hc3 h=>?_) fun hc3 h=>?_))))))
 ·refine af ?_
  refine af (ai [(12,pB x2)] (by kernel_rfl) (bZ rfl h (fun hc4 h=>?_) fun hc4 h=>?_))
  ·refine af ?_
   refine ai [(4,pI 0)] (by kernel_rfl) (fB (aP ?_))
   exact zz r h rfl
  refine ag ?_
  refine bN (ai [(4,pI (-1))] (by kernel_rfl) (fB ?_))
  exact zz r h rfl
 refine ag ?_
 refine cH (ai [(13,pB x2)] (by kernel_rfl) (bZ rfl h (fun hc5 h=>?_) fun hc5 h=>?_))
 ·refine af ?_
  refine ai [(4,pI 1)] (by kernel_rfl) (fB ?_)
  exact zz r h rfl
 refine ag ?_
 refine cH (ah [14,15] [(16,pB (decide (p0<p1)))] (by kernel_rfl) (bZ rfl h (fun hc6 h=>?_) fun hc6 h=>?_))
 ·refine af ?_
  refine ai [(4,pI (-1))] (by kernel_rfl) (fB ?_)
  exact zz r h rfl
 refine ag ?_
 refine cH (ah [17,18] [(19,pB (decide (p1<p0)))] (by kernel_rfl) (bZ rfl h (fun hc7 h=>?_) fun hc7 h=>?_))
 ·refine af ?_
  refine ai [(4,pI 1)] (by kernel_rfl) (fB ?_)
  exact zz r h rfl
 refine ag ?_
 refine bN (ai [(4,pI 0)] (by kernel_rfl) (dB ?_))
 exact zz r h rfl
def gP (p0:Zd) (p1:Zd):Option Int:=(fR p1.rest p0.rest).bind fun x3=>cond (x3 != 0) (some x3) ((dr p0.index_ p1.index_).bind fun x5=>some x5)
theorem lA {p0:Zd} {p1:Zd} {r:Int}  (h:gP p0 p1=some r):PF 92 [.agg [pI p0.index_,pU p0.share,pU p0.rest],.agg [pI p1.index_,pU p1.share,pU p1.rest]] (pI r):=by
 unfold gP at h
 refine bi ?_
 refine eg Tryz.func92 rfl Tryz.ntmps92 Tryz.results92 rfl (ae (ar rfl (bB (cs:=[pI p0.index_,pU p0.share,pU p0.rest]) rfl rfl (fun b1=>ar rfl (bB (cs:=[pI p1.index_,pU p1.share,pU p1.rest]) rfl rfl (fun b2=>bu [4] (by kernel_rfl) (cH (aa h fun x3 hx3 h=>aD [0,1] (rg 6 5) [(5,pI x3)] (bz 4 (ky hx3) bA) (by kernel_rfl) (bN (ah [11] [(12,pB (x3 != 0))] (by kernel_rfl) (bZ rfl h (fun hc4 h=>?_) fun hc4 h=>?_)))))))))))
 ·refine af ?_
  refine ah [13] [(4,pI x3)] (by kernel_rfl) (fB ?_)
  exact zz r h rfl
 refine ag ?_
 refine eo h fun x5 hx5 h=>aD [1,0] (rg 14 5) [(4,pI x5)] (bz 4 (fP hx5) bA) (by kernel_rfl) (dB ?_)
 exact zz r h rfl
def bO (p0:(List Zd)) (p1:Int) (p2:Int) (p3:(Zd→Zd→Option Int)):Option (List Zd):=(bk (S:=(List Zd)×Int) (T:=((List Zd))) (fun (l2,v3)=>cond (decide (v3<p2)) ((bk (S:=(List Zd)×Int) (T:=((List Zd))) (fun (l10,v11)=>(gd (decide (p1<v11)) (idx l10 v11)).bind fun m16=>(gd (decide (p1<v11)) (idx l10 (IntKind.i64.wrap (v11 - 1)))).bind fun m17=>(gd (decide (p1<v11)) (p3 m16 m17)).bind fun x18=>cond ((decide (p1<v11))&&(decide (x18<0))) ((idx l10 (IntKind.i64.wrap (v11 - 1))).bind fun m22=>(idx l10 v11).bind fun m23=>(idx l10 v11).bind fun m24=>(idx (l10.set v11.toNat m22) (IntKind.i64.wrap (v11 - 1))).bind fun m26=>some (.inl (((l10.set v11.toNat m22).set (IntKind.i64.wrap (v11 - 1)).toNat m23),(IntKind.i64.wrap (v11 - 1))))) (some (.inr l10))) FUEL (l2,v3)).bind fun l13=>some (.inl (l13,(IntKind.i64.wrap (v3+1))))) (some (.inr l2))) FUEL (p0,(IntKind.i64.wrap (p1+1)))).bind fun l5=>some l5
theorem dN {p0:(List Zd)} {p1:Int} {p2:Int} {p3:(Zd→Zd→Option Int)} {a_0:Option Addr}  {n_0:Nat}  {c_0:Nat} {r:(List Zd)} {g3:PV} (hg3:∀ {y0:Zd} {y1:Zd} {w:Int},p3 y0 y1=some w→PFV g3 [.agg [pI y0.index_,pU y0.share,pU y0.rest],.agg [pI y1.index_,pU y1.share,pU y1.rest]] (pI w)) (h:bO p0 p1 p2 p3=some r):PCall 127 [.v (.slice a_0 n_0 c_0),pI p1,pI p2,g3] [PRes.row a_0 n_0 c_0 146 3 (List.map Zd.enc p0)] (fun pv ρ'=>pv=.tup []∧ρ'=[PRes.row a_0 n_0 c_0 146 3 (List.map Zd.enc r)]):=by
 unfold bO at h
 refine gW Tryz.func127 rfl Tryz.ntmps127 Tryz.results127 rfl ?_
 refine fb (enc:=Zd.enc) (xs:=p0) (a:=a_0) eD (fun hl ha=>?_);subst hl;clear ha
 refine af (ah [10,11] [(8,pI (IntKind.i64.wrap (p1+1)))] (by kernel_rfl) (fu h fun q7 hq7 h=>?_))
 refine hI (Y:=Unit×((List Zd))) (fun (_,l5)=>[]) (fun (_,l5)=>[PRes.row a_0 p0.length c_0 146 3 (List.map Zd.enc l5)]) (fun (_,l5)=>q7=l5) ?_ ?_
 ·refine an ?_
  refine aY (Y:=Unit) (S:=(List Zd)×Int) _ hq7 (fun _ (l2,v3)=>[(0,pO a_0 p0.length c_0),(1,pI p1),(2,pI p2),(3,g3),(8,pI v3)]) (fun _ (l2,v3)=>[PRes.row a_0 p0.length c_0 146 3 (List.map Zd.enc l2)]) () (kO rfl) dx ?_
  rintro _ ⟨l2,v3⟩ o τ hb6;(try dsimp only at hb6);dsimp only [aF]
  refine fW (ah [12,13] [(14,pB (decide (v3<p2)))] (by kernel_rfl) (bZ rfl hb6 (fun hc8 hb6=>?_) fun hc8 hb6=>?_))
  ·refine ag ?_
   refine bN (an (af (ah [17] [(9,pI v3)] (by kernel_rfl) (fu hb6 fun q15 hq15 hb6=>?_))))
   refine hI (Y:=Unit×((List Zd))) (fun (_,l13)=>[(0,pO a_0 p0.length c_0),(1,pI p1),(2,pI p2),(3,g3),(8,pI v3)]) (fun (_,l13)=>[PRes.row a_0 p0.length c_0 146 3 (List.map Zd.enc l13)]) (fun (_,l13)=>q15=l13) ?_ ?_
   ·refine an ?_
    refine aY (Y:=Unit) (S:=(List Zd)×Int) _ hq15 (fun _ (l10,v11)=>[(0,pO a_0 p0.length c_0),(1,pI p1),(2,pI p2),(3,g3),(8,pI v3),(9,pI v11)]) (fun _ (l10,v11)=>[PRes.row a_0 p0.length c_0 146 3 (List.map Zd.enc l10)]) () (qj rfl) dx ?_
    rintro _ ⟨l10,v11⟩ o τ hb14;(try dsimp only at hb14);dsimp only [aF]
    refine fW (bH (ρd:=[]) [(0,0),(1,0),(2,0),(3,0),(4,0),(5,0),(6,0),(7,0),(8,0),(9,0),(10,0),(11,0),(12,0),(13,0),(14,1),(15,0),(16,0)] _ (List.Perm.refl _) (by kernel_rfl) rfl (aa hb14 fun m16 hm16 hb14=>mS 7 [18,19,20] [(21,pB (decide (p1<v11))),(22,pgv (decide (p1<v11)) (g3)),(23,pgv (decide (p1<v11)) (pO a_0 p0.length c_0)),(24,pgv (decide (p1<v11)) (pI v11))] (by kernel_rfl) (bX (ec rfl rfl rfl) rfl rfl (bo (enc:=Zd.enc) (xs:=l10) rfl rfl rfl (.g rfl) eD (.g rfl) (cB hm16)) (bX (ec rfl rfl rfl) rfl rfl (bj (sz:=3) (p:=.agg [pI m16.index_,pU m16.share,pU m16.rest]) (enc:=Zd.enc) (xs:=l10) (a:=a_0) v11 0 m16 rfl (.g rfl) rfl eD (cB hm16) rfl) (aa hb14 fun m17 hm17 hb14=>mS 3 [28] [(27,pgv (decide (p1<v11)) (pO a_0 p0.length c_0)),(29,pgv (decide (p1<v11)) (pI (IntKind.i64.wrap (v11 - 1))))] (by kernel_rfl) (bX (ec rfl rfl rfl) rfl rfl (bo (enc:=Zd.enc) (xs:=l10) rfl rfl rfl (.g rfl) eD (.g rfl) (cB hm17)) (bX (ec rfl rfl rfl) rfl rfl (bj (sz:=3) (p:=.agg [pI m17.index_,pU m17.share,pU m17.rest]) (enc:=Zd.enc) (xs:=l10) (a:=a_0) (IntKind.i64.wrap (v11 - 1)) 0 m17 rfl (.g rfl) rfl eD (cB hm17) rfl) (aa hb14 fun x18 hx18 hb14=>uC (ec rfl rfl rfl) rfl rfl rfl (.g rfl) (pb (.g rfl) (pb (.g rfl) wq)) (fun hc=>hg3 (cB hx18 hc)) (bX (ec rfl rfl rfl) rfl rfl (lO rfl (.g rfl) (.p rfl) rfl) (kp rfl rfl rfl (rx rfl (.p rfl) (.p rfl) (.g rfl)) (ce (bZ rfl hb14 (fun hc19 hb14=>?_) fun hc19 hb14=>?_))))))))))))
    ·refine ag ?_
     refine bN (an (fb (enc:=Zd.enc) (xs:=l10) (a:=a_0) eD (fun hl20 ha21=>aa hb14 fun m22 hm22 hb14=>aa hb14 fun m23 hm23 hb14=>aa hb14 fun m24 hm24 hb14=>aa hb14 fun m26 hm26 hb14=>?_)))
     refine hI (Y:=Unit) (fun _=>[(0,pO a_0 p0.length c_0),(1,pI p1),(2,pI p2),(3,g3),(8,pI v3),(9,pI v11)]) (fun _=>[PRes.row a_0 p0.length c_0 146 3 (List.map Zd.enc ((l10.set v11.toNat m22).set (IntKind.i64.wrap (v11 - 1)).toNat m23))]) (fun _=>True) ?_ ?_
     ·refine eN (ρd:=[PRes.row a_0 _ _ _ _ _]) _ (List.Perm.refl _) ?_
      refine aS 0 (by kernel_rfl) rfl rfl rfl rfl (bC (p:=pO a_0 p0.length c_0) rfl (.p rfl)) (aS 1 (by kernel_rfl) rfl rfl rfl rfl (bC (p:=pI v11) rfl (.p rfl)) (aS 2 (by kernel_rfl) rfl rfl rfl rfl (bC (p:=pO a_0 p0.length c_0) rfl (.p rfl)) (aS 3 (by kernel_rfl) rfl rfl rfl rfl (bC (p:=pI v11) rfl (.p rfl)) (aS 4 (by kernel_rfl) rfl rfl rfl rfl (dw rfl (.p rfl) (.p rfl) rfl) (aS 5 (by kernel_rfl) rfl rfl rfl rfl (bC (p:=pO a_0 p0.length c_0) rfl (.p rfl)) (aS 6 (by kernel_rfl) rfl rfl rfl rfl (bC (p:=pI v11) rfl (.p rfl)) (aS 7 (by kernel_rfl) rfl rfl rfl rfl (dw rfl (.p rfl) (.p rfl) rfl) ?_)))))))
      refine aS 8 (by kernel_rfl) rfl rfl rfl rfl (fV (xs:=l10) (by first | exact hl20 | rfl | (simp only [List.length_set];exact hl20) | simp only [List.length_set]) ha21 rfl rfl rfl (.p rfl) (.p rfl) (fun _=>hm22)) ?_
      refine aS 10 (by kernel_rfl) rfl rfl rfl rfl (bC (p:=pO a_0 p0.length c_0) rfl (.p rfl)) (aS 11 (by kernel_rfl) rfl rfl rfl rfl (bC (p:=pI v11) rfl (.p rfl)) ?_)
      refine aS 12 (by kernel_rfl) rfl rfl rfl rfl (fV (xs:=l10) (by first | exact hl20 | rfl | (simp only [List.length_set];exact hl20) | simp only [List.length_set]) ha21 rfl rfl rfl (.p rfl) (.p rfl) (fun _=>hm23)) ?_
      refine dI 9 13 (by kernel_rfl) ?_ ?_
      ·skip
       refine aX rfl rfl rfl rfl (eV (bj (sz:=3) (p:=.agg [pI m22.index_,pU m22.share,pU m22.rest]) (enc:=Zd.enc) (xs:=l10) (a:=a_0) (IntKind.i64.wrap (v11 - 1)) 0 m22 rfl (.p rfl) rfl eD (fun _=>hm22) rfl) (aW 13 (by kernel_rfl) (aX rfl rfl rfl rfl (eV (bj (sz:=3) (p:=.agg [pI m23.index_,pU m23.share,pU m23.rest]) (enc:=Zd.enc) (xs:=l10) (a:=a_0) v11 0 m23 rfl (.p rfl) rfl eD (fun _=>hm23) rfl) ?_))))
       refine aS 14 (by kernel_rfl) rfl rfl rfl rfl (fV (xs:=l10) (by first | exact hl20 | rfl | (simp only [List.length_set];exact hl20) | simp only [List.length_set]) ha21 rfl rfl rfl (.p rfl) (.p rfl) (fun _=>hm24)) ?_
       refine aW 15 (by kernel_rfl) (bq rfl rfl rfl (dq (enc:=Zd.enc) (xs:=l10) (a:=a_0) v11 0 m24 m22 rfl rfl rfl rfl (fun _=>rfl) rfl rfl hm24 zl3 cn ?_))
       refine aS 16 (by kernel_rfl) rfl rfl rfl rfl (fV (xs:=(l10.set v11.toNat m22)) (by first | exact hl20 | rfl | (simp only [List.length_set];exact hl20) | simp only [List.length_set]) ha21 rfl rfl rfl (.p rfl) (.p rfl) (fun _=>hm26)) ?_
       refine aW 17 (by kernel_rfl) (bq rfl rfl rfl (dq (enc:=Zd.enc) (xs:=(l10.set v11.toNat m22)) (a:=a_0) (IntKind.i64.wrap (v11 - 1)) 0 m26 m23 rfl rfl rfl rfl (fun _=>rfl) rfl rfl hm26 zl3 cn (bK (by kernel_rfl) ?_)))
       exact dM () (qj rfl) dx trivial
      skip
      refine aX rfl rfl rfl rfl (eV (bj (sz:=3) (p:=.agg [pI m23.index_,pU m23.share,pU m23.rest]) (enc:=Zd.enc) (xs:=l10) (a:=a_0) v11 0 m23 rfl (.p rfl) rfl eD (fun _=>hm23) rfl) (aW 9 (by kernel_rfl) (aX rfl rfl rfl rfl (eV (bj (sz:=3) (p:=.agg [pI m22.index_,pU m22.share,pU m22.rest]) (enc:=Zd.enc) (xs:=l10) (a:=a_0) (IntKind.i64.wrap (v11 - 1)) 0 m22 rfl (.p rfl) rfl eD (fun _=>hm22) rfl) ?_))))
      refine aS 14 (by kernel_rfl) rfl rfl rfl rfl (fV (xs:=l10) (by first | exact hl20 | rfl | (simp only [List.length_set];exact hl20) | simp only [List.length_set]) ha21 rfl rfl rfl (.p rfl) (.p rfl) (fun _=>hm24)) ?_
      refine aW 15 (by kernel_rfl) (bq rfl rfl rfl (dq (enc:=Zd.enc) (xs:=l10) (a:=a_0) v11 0 m24 m22 rfl rfl rfl rfl (fun _=>rfl) rfl rfl hm24 zl3 cn ?_))
      refine aS 16 (by kernel_rfl) rfl rfl rfl rfl (fV (xs:=(l10.set v11.toNat m22)) (by first | exact hl20 | rfl | (simp only [List.length_set];exact hl20) | simp only [List.length_set]) ha21 rfl rfl rfl (.p rfl) (.p rfl) (fun _=>hm26)) ?_
      refine aW 17 (by kernel_rfl) (bq rfl rfl rfl (dq (enc:=Zd.enc) (xs:=(l10.set v11.toNat m22)) (a:=a_0) (IntKind.i64.wrap (v11 - 1)) 0 m26 m23 rfl rfl rfl rfl (fun _=>rfl) rfl rfl hm26 zl3 cn (bK (by kernel_rfl) ?_)))
      exact dM () (qj rfl) dx trivial
     rintro _ τ ρ1 hsub28 _;(try dsimp only at hsub28);dsimp only [aF]
     refine aj (aH (lh hsub28 (ah [35,36] [(9,pI (IntKind.i64.wrap (v11 - 1)))] (by kernel_rfl) ?_)))
     exact bm hb14 () (qj rfl) dx
    refine ba ?_
    refine aI (aB hb14 (fun ht=>aG rfl ?_))
    exact dM ((),l10) (kO rfl) dx ht.symm
   rintro ⟨_,l13⟩ τ ρ1 hsub29 hz;(try dsimp only at hz hsub29);subst q15;(try dsimp only at hb6);dsimp only [aF]
   refine aj (aH (lh hsub29 (ah [15,16] [(8,pI (IntKind.i64.wrap (v3+1)))] (by kernel_rfl) ?_)))
   exact bm hb6 () (kO rfl) dx
  refine ba ?_
  refine aI (aB hb6 (fun ht=>aG rfl ?_))
  exact dM ((),l2) lw dx ht.symm
 rintro ⟨_,l5⟩ τ ρ1 hsub30 hz;(try dsimp only at hz hsub30);subst q7;(try dsimp only at h);dsimp only [aF]
 obtain rfl:=osi h
 exact kI (rfl:PRV [] _ _ (.tup [])) (PSub.trans dx hsub30) ⟨rfl,rfl⟩
def cg (p0:(List Zd)) (p1:Int) (p2:Int) (p3:Int) (p4:(Zd→Zd→Option Int)):Option (List Zd):=(bk (S:=Unit) (T:=(Unit)⊕(_)) (fun _=>cond (decide ((IntKind.i64.wrap (p2 - p1))≤12)) ((bO p0 p1 p2 p4).bind fun x4=>some (.inr (.inr x4))) (cond (p3 == 0) (none) (cond (!true) (none) (none)))) FUEL ()).bind fun q=>match q with | .inl _=>none | .inr e=>some e
theorem eA {p0:(List Zd)} {p1:Int} {p2:Int} {p3:Int} {p4:(Zd→Zd→Option Int)} {a_0:Option Addr}  {n_0:Nat}  {c_0:Nat} {r:(List Zd)} {g4:PV} (hg4:∀ {y0:Zd} {y1:Zd} {w:Int},p4 y0 y1=some w→PFV g4 [.agg [pI y0.index_,pU y0.share,pU y0.rest],.agg [pI y1.index_,pU y1.share,pU y1.rest]] (pI w)) (h:cg p0 p1 p2 p3 p4=some r):PCall 122 [.v (.slice a_0 n_0 c_0),pI p1,pI p2,pI p3,g4] [PRes.row a_0 n_0 c_0 146 3 (List.map Zd.enc p0)] (fun pv ρ'=>pv=.tup []∧ρ'=[PRes.row a_0 n_0 c_0 146 3 (List.map Zd.enc r)]):=by
 unfold cg at h
 refine gW Tryz.func122 rfl Tryz.ntmps122 Tryz.results122 rfl ?_
 refine fb (enc:=Zd.enc) (xs:=p0) (a:=a_0) eD (fun hl ha=>?_);subst hl;clear ha
 refine af (ai [(10,pB true)] (by kernel_rfl) (bN (ai [(11,pB true)] (by kernel_rfl) (fu h fun q2 hq2 h=>an ?_))))
 refine aY (Y:=Unit) (S:=Unit) _ hq2 (fun _ _=>[(0,pO a_0 p0.length c_0),(1,pI p1),(2,pI p2),(3,pI p3),(4,g4),(10,pB true),(11,pB true)]) (fun _ _=>[PRes.row a_0 p0.length c_0 146 3 (List.map Zd.enc p0)]) () (ui rfl) dx ?_
 rintro _ _ o τ hb1;(try dsimp only at hb1);dsimp only [aF]
 refine an (af (ah [21,22,23] [(12,pI (IntKind.i64.wrap (p2 - p1)))] (by kernel_rfl) (cH (ah [24] [(25,pB (decide ((IntKind.i64.wrap (p2 - p1))≤12)))] (by kernel_rfl) (bZ rfl hb1 (fun hc3 hb1=>?_) fun hc3 hb1=>?_)))))
 ·refine af ?_
  refine aa hb1 fun x4 hx4 hb1=>ae (aA 4 [(26,pO a_0 p0.length c_0),(27,pI p1),(28,pI p2),(29,g4)] (by kernel_rfl) ?_)
  refine ar rfl (aV rfl rfl (ρ1:=[_]) (aC (by exact aZ) (List.Perm.refl _)) (dN hg4 hx4) ?_);rintro _ _ ⟨rfl,rfl⟩
  refine az (fB (aw ?_))
  refine bp hb1 (fun ht=>?_);subst ht
  refine aw ?_
  obtain rfl:=osi h
  exact aM (rfl:PRV [] _ _ (.tup [])) dx ⟨rfl,rfl⟩
 refine ag ?_
 refine cH (ah [31] [(32,pB (p3 == 0))] (by kernel_rfl) (bZ rfl hb1 (fun hc5 hb1=>?_) fun hc5 hb1=>?_))
 ·refine af ?_
  refine ae (aA 4 [(33,pO a_0 p0.length c_0),(34,pI p1),(35,pI p2),(36,g4)] (by kernel_rfl) ?_)
  exact absurd hb1 (by simp)
 refine ag ?_
 refine cH (ah [38] [(39,pB (!true))] (by kernel_rfl) (bZ rfl hb1 (fun hc6 hb1=>?_) fun hc6 hb1=>?_))
 ·refine af ?_
  refine ae (aA 4 [(40,pO a_0 p0.length c_0),(41,pI p1),(42,pI p2),(43,g4)] (by kernel_rfl) ?_)
  exact absurd hb1 (by simp)
 refine ag ?_
 refine bN (ae (aA 4 [(48,pO a_0 p0.length c_0),(49,pI p1),(50,pI p2),(51,g4)] (by kernel_rfl) ?_))
 exact absurd hb1 (by simp)
def bx (p0:(List Zd)) (p1:(Zd→Zd→Option Int)):Option (List Zd):=(jz (IntKind.u64.wrap ((p0.length:Nat):Int))).bind fun x1=>(cg p0 0 ((p0.length:Nat):Int) x1 p1).bind fun x2=>some x2
theorem dt {p0:(List Zd)} {p1:(Zd→Zd→Option Int)} {a_0:Option Addr}  {n_0:Nat}  {c_0:Nat} {r:(List Zd)} {g1:PV} (hg1:∀ {y0:Zd} {y1:Zd} {w:Int},p1 y0 y1=some w→PFV g1 [.agg [pI y0.index_,pU y0.share,pU y0.rest],.agg [pI y1.index_,pU y1.share,pU y1.rest]] (pI w)) (h:bx p0 p1=some r):PCall 111 [.v (.slice a_0 n_0 c_0),g1] [PRes.row a_0 n_0 c_0 146 3 (List.map Zd.enc p0)] (fun pv ρ'=>pv=.tup []∧ρ'=[PRes.row a_0 n_0 c_0 146 3 (List.map Zd.enc r)]):=by
 unfold bx at h
 refine gW Tryz.func111 rfl Tryz.ntmps111 Tryz.results111 rfl ?_
 refine fb (enc:=Zd.enc) (xs:=p0) (a:=a_0) eD (fun hl ha=>?_);subst hl;clear ha
 refine af (ah [5,6] [(4,pI ((p0.length:Nat):Int))] (by kernel_rfl) (fu h fun x1 hx1 h=>aa h fun x2 hx2 h=>ae (bd 6 [] [9,10] [(7,pO a_0 p0.length c_0),(8,pI ((p0.length:Nat):Int)),(11,pI x1),(12,g1)] (bz 4 (nG hx1) bA) (by kernel_rfl) ?_)))
 refine ar rfl (aV rfl rfl (ρ1:=[_]) (aC (by exact aZ) (List.Perm.refl _)) (eA hg1 hx2) ?_);rintro _ _ ⟨rfl,rfl⟩
 refine az ?_
 obtain rfl:=osi h
 exact kI (rfl:PRV [] _ _ (.tup [])) dx ⟨rfl,rfl⟩
def dZ (p0:Zd) (p1:Zd) (p2:Zm):Option Int:=(gP p0 p1).bind fun x3=>some x3
theorem iJ {p0:Zd} {p1:Zd} {p2:Zm} {r:Int}  (h:dZ p0 p1 p2=some r):PF 112 [.agg [pI p0.index_,pU p0.share,pU p0.rest],.agg [pI p1.index_,pU p1.share,pU p1.rest],.ref [.fn 92 []] 0] (pI r):=by
 unfold dZ at h
 refine bi ?_
 refine eg Tryz.func112 rfl Tryz.ntmps112 Tryz.results112 rfl (ae (ar rfl (bB (cs:=[pI p0.index_,pU p0.share,pU p0.rest]) rfl rfl (fun b1=>ar rfl (bB (cs:=[pI p1.index_,pU p1.share,pU p1.rest]) rfl rfl (fun b2=>bu [5] (by kernel_rfl) (eo h fun x3 hx3 h=>aD [1,0] (rg 6 5) [(5,pI x3)] (ye 4 (kE (pargs:=[.agg [pI p0.index_,pU p0.share,pU p0.rest],.agg [pI p1.index_,pU p1.share,pU p1.rest]]) (caps:=[]) (lA hx3)) bA) (by kernel_rfl) (dB ?_))))))))
 exact zz r h rfl
def eC (p0:Zm) (p1:(List Zd)):Option (List Zd):=(bx p1 (fun y2 y3=>dZ y2 y3 (⟨()⟩:Zm))).bind fun x4=>some x4
theorem jj {p0:Zm} {p1:(List Zd)} {a_1:Option Addr}  {n_1:Nat}  {c_1:Nat} {r:(List Zd)}  (h:eC p0 p1=some r):PCall 93 [.agg [.fn 92 []],.v (.slice a_1 n_1 c_1)] [PRes.row a_1 n_1 c_1 146 3 (List.map Zd.enc p1)] (fun pv ρ'=>pv=.tup []∧ρ'=[PRes.row a_1 n_1 c_1 146 3 (List.map Zd.enc r)]):=by
 unfold eC at h
 refine gW Tryz.func93 rfl Tryz.ntmps93 Tryz.results93 rfl ?_
 refine fb (enc:=Zd.enc) (xs:=p1) (a:=a_1) eD (fun hl ha=>?_);subst hl;clear ha
 refine af (ae (ar rfl (bB (cs:=[.fn 92 []]) rfl rfl (fun b1=>az (aH (ae (aA 1 [(4,pO a_1 p1.length c_1)] (by kernel_rfl) ?_)))))))
 refine ru 2 rfl (by exact aZ) ?_
 refine aa h fun x4 hx4 h=>aA 1 [(5,.fn 112 [.ref [.fn 92 []] 0])] (by kernel_rfl) ?_
 refine ar rfl (aV rfl rfl (ρ1:=[_]) (aC (by exact aR aZ) (List.Perm.refl _)) (dt (fun hr=>kE (iJ hr)) hx4) ?_);rintro _ _ ⟨rfl,rfl⟩
 refine az ?_
 obtain rfl:=osi h
 exact kI (rfl:PRV [] _ _ (.tup [])) dx ⟨rfl,rfl⟩
def iv (p0:Int) (p1:(List Int)):Option ((List Int)×Int):=(ip p0 p1).bind fun x1=>cond (x1 != 0) (some ([],x1)) ((iq p1).bind fun x3=>Option.bind (cond (x3 == 0) (some (p1.length:Int)) (some x3)) (fun v4=>(mk 24 (⟨(0:Int),(0:Int),(0:Int)⟩:Zd) (p1.length:Int)).bind fun l7=>(bk (S:=Int×(List Zd)×Int) (T:=(Int×(List Zd))) (fun (v10,l12,v13)=>cond (decide (v13<(p1.length:Int))) ((idx p1 v13).bind fun m20=>Option.bind (cond (x3 == 0) (some 1) (some m20)) (fun v22=>(kj (IntKind.u64.wrap p0) (IntKind.u64.wrap v22) (IntKind.u64.wrap v4) 0).bind fun x25=>(km (IntKind.u64.wrap p0) (IntKind.u64.wrap v22) (IntKind.u64.wrap v4)).bind fun x26=>(idx l12 v13).bind fun m27=>lb ((IntKind.i64.wrap (v10 - (IntKind.i64.wrap x25.1)))) (fun w29=>some (.inl (w29,(l12.set v13.toNat (⟨v13,x25.1,x26⟩:Zd)),(IntKind.i64.wrap (v13+1))))))) (some (.inr (v10,l12)))) FUEL (p0,l7,0)).bind fun (v14,l16)=>(eC (⟨()⟩:Zm) l16).bind fun x30=>(mk 8 (0:Int) (p1.length:Int)).bind fun l31=>(bk (S:=(List Int)×Int) (T:=((List Int))) (fun (l35,v36)=>cond (decide (v36<((l7.length:Nat):Int))) (((idx x30 v36).bind fun m46=>(idx l35 m46.index_).bind fun m48=>cond (decide (v36<v14)) ((idx (l35.set m46.index_.toNat (IntKind.i64.wrap m46.share)) m46.index_).bind fun m51=>(idx (l35.set m46.index_.toNat (IntKind.i64.wrap m46.share)) m46.index_).bind fun m52=>some ((l35.set m46.index_.toNat (IntKind.i64.wrap m46.share)).set m46.index_.toNat (IntKind.i64.wrap (m51+1)))) (some (l35.set m46.index_.toNat (IntKind.i64.wrap m46.share)))).bind fun l43=>some (.inl (l43,(IntKind.i64.wrap (v36+1))))) (some (.inr l35))) FUEL (l31,0)).bind fun l38=>some (l38,(0:Int))))
theorem l6 {p0:Int} {p1:(List Int)} {r:((List Int)×Int)}  (h:iv p0 p1=some r):PF 75 [pI p0,pL eI p1] (.tup [pL eI r.1,pI r.2]):=by
 unfold iv at h
 refine bi ?_
 refine eg Tryz.func75 rfl Tryz.ntmps75 Tryz.results75 rfl (bf [4,5] (by kernel_rfl) (cH (aa h fun x1 hx1 h=>aD [] [19,20,21] [(6,pI x1)] (bz 2 (lW hx1) bA) (by kernel_rfl) (bN (ah [22] [(23,pB (x1 != 0))] (by kernel_rfl) (bZ rfl h (fun hc2 h=>?_) fun hc2 h=>?_))))))
 ·refine af ?_
  refine ah [24] [(4,pN),(5,pI x1)] (by kernel_rfl) (aH (mB 4 rfl (cu (aP ?_))))
  obtain rfl:=osi h
  exact aM (bR (aK rfl) (aK rfl)) bD ⟨rfl,rfl⟩
 refine ag ?_
 refine eo h fun x3 hx3 h=>aD [] [25,26] [(7,pI x3)] (bz 1 (lX hx3) bA) (by kernel_rfl) (bN (ah [27,28] [(8,pB (x3 == 0))] (by kernel_rfl) (cH (ai [(29,pB (x3 == 0))] (by kernel_rfl) (fu h fun q5 hq5 h=>?_)))))
 refine av (Y:=Unit×Int) (fun (_,v4)=>[(0,pI p0),(1,pL eI p1),(7,pI v4),(8,pB (x3 == 0))]) (fun (_,v4)=>[]) (fun (_,v4)=>q5=v4) ?_ ?_
 ·skip
  refine iQ rfl hq5 (fun hc6 hq5=>?_) fun hc6 hq5=>?_
  ·refine ah [30,31] [(7,pI (p1.length:Int))] (by kernel_rfl) ?_
   obtain rfl:=osi hq5
   exact au ((),(p1.length:Int)) (kf rfl) bD rfl
  refine ag ?_
  obtain rfl:=osi hq5
  exact au ((),x3) (kf rfl) bD rfl
 rintro ⟨_,v4⟩ τ hz;(try dsimp only at hz);subst q5;(try dsimp only at h);dsimp only [aF]
 refine af (ah [32] [(9,pI p0)] (by kernel_rfl) (eo h fun l7 hl7 h=>ae (bY 2 [33] [(34,pI (p1.length:Int))] (by kernel_rfl) (ar rfl (lp (enc:=Zd.enc) rfl rfl rfl rfl rfl rfl rfl rfl rfl hl7 (fun b8=>aL [(10,pO (some ⟨b8,0,none⟩) l7.length l7.length)] (by kernel_rfl) (cH (ai [(36,pL eI p1),(37,pI (p1.length:Int)),(38,pI 0)] (by kernel_rfl) (fu h fun q18 hq18 h=>?_)))))))))
 refine av (Y:=Unit×(Int×(List Zd))) (fun (_,(v14,l16))=>[(1,pL eI p1),(9,pI v14),(10,pO (some ⟨b8,0,none⟩) l7.length l7.length)]) (fun (_,(v14,l16))=>[PRes.row (some ⟨b8,0,none⟩) l7.length l7.length 146 3 (List.map Zd.enc l16)]) (fun (_,(v14,l16))=>q18=(v14,l16)) ?_ ?_
 ·refine an ?_
  refine aY (Y:=Unit) (S:=Int×(List Zd)×Int) _ hq18 (fun _ (v10,l12,v13)=>[(0,pI p0),(1,pL eI p1),(7,pI v4),(8,pB (x3 == 0)),(9,pI v10),(10,pO (some ⟨b8,0,none⟩) l7.length l7.length),(36,pL eI p1),(37,pI (p1.length:Int)),(38,pI v13)]) (fun _ (v10,l12,v13)=>[PRes.row (some ⟨b8,0,none⟩) l7.length l7.length 146 3 (List.map Zd.enc l12)]) () (mI rfl) dx ?_
  rintro _ ⟨v10,l12,v13⟩ o τ hb17;(try dsimp only at hb17);dsimp only [aF]
  refine af (ai [(39,pB (decide (v13<(p1.length:Int))))] (by kernel_rfl) (bN (iQ rfl hb17 (fun hc19 hb17=>?_) fun hc19 hb17=>?_)))
  ·refine ag ?_
   refine bN (an (af (aa hb17 fun m20 hm20 hb17=>aD [] [40,41,42] [(11,pI v13),(12,pI m20)] (eH 1 eI hm20 bA) (by kernel_rfl) (cH (ai [(43,pB (x3 == 0))] (by kernel_rfl) (fu hb17 fun q23 hq23 hb17=>?_))))))
   refine av (Y:=Unit×Int) (fun (_,v22)=>[(0,pI p0),(1,pL eI p1),(7,pI v4),(8,pB (x3 == 0)),(9,pI v10),(10,pO (some ⟨b8,0,none⟩) l7.length l7.length),(11,pI v13),(12,pI v22),(36,pL eI p1),(37,pI (p1.length:Int)),(38,pI v13)]) (fun (_,v22)=>[PRes.row (some ⟨b8,0,none⟩) l7.length l7.length 146 3 (List.map Zd.enc l12)]) (fun (_,v22)=>q23=v22) ?_ ?_
   ·skip
    refine iQ rfl hq23 (fun hc24 hq23=>?_) fun hc24 hq23=>?_
    ·refine ai [(12,pI 1)] (by kernel_rfl) ?_
     obtain rfl:=osi hq23
     exact au ((),1) (dK rfl (dK rfl (mI rfl))) dx rfl
    refine ag ?_
    obtain rfl:=osi hq23
    exact au ((),m20) (dK rfl (dK rfl (mI rfl))) dx rfl
   rintro ⟨_,v22⟩ τ hz;(try dsimp only at hz);subst q23;(try dsimp only at hb17);dsimp only [aF]
   refine af (aa hb17 fun x25 hx25 hb17=>aD [] ((rg 45 7)++[44,52,53,14]) [(13,pU x25.1)] (bz 6 (ou hx25) bA) (by kernel_rfl) (eo hb17 fun x26 hx26 hb17=>aD [] (rg 54 7) [(15,pU x26)] (bz 6 (ow hx26) bA) (by kernel_rfl) (eo hb17 fun m27 hm27 hb17=>ae (bY 6 [63,64,65] [(61,pO (some ⟨b8,0,none⟩) l7.length l7.length),(62,pI v13),(66,.agg [pI v13,pU x25.1,pU x26])] (by kernel_rfl) (bE rfl rfl rfl (bo (enc:=Zd.enc) (xs:=l12) rfl rfl rfl (.p rfl) eD (.p rfl) (fun _=>hm27)) (aQ rfl rfl (dq (enc:=Zd.enc) (xs:=l12) (a:=(some ⟨b8,0,none⟩)) v13 0 m27 (⟨v13,x25.1,x26⟩:Zd) rfl rfl rfl rfl (fun _=>rfl) rfl rfl hm27 zl3 cn (az (aH ?_)))))))))
   refine cL hb17 ?_;clear hb17;intro w29 hw29 hb17
   refine ae (bY 4 [68,69,70] [(71,pI (IntKind.i64.wrap (v10 - (IntKind.i64.wrap x25.1))))] (by kernel_rfl) (bE rfl rfl rfl (bc rfl (.p (congrArg (fun z=>PV.v (Value.int .i64 z)) hw29))) (az (aj (aH (ah [72] [(38,pI (IntKind.i64.wrap (v13+1)))] (by kernel_rfl) ?_))))))
   exact bm hb17 () (mI rfl) dx
  refine ba ?_
  refine aI (aB hb17 (fun ht=>aG rfl ?_))
  exact au ((),(v10,l12)) (jh rfl) dx ht.symm
 rintro ⟨_,⟨v14,l16⟩⟩ τ hz;(try dsimp only at hz);subst q18;(try dsimp only at h);dsimp only [aF]
 refine af (aa h fun x30 hx30 h=>ae (aA 2 [(73,.agg [.fn 92 []]),(74,pO (some ⟨b8,0,none⟩) l7.length l7.length)] (by kernel_rfl) ?_))
 refine ar rfl (aV rfl rfl (ρ1:=[_]) (aC (by exact aZ) (List.Perm.refl _)) (jj hx30) ?_);rintro _ _ ⟨rfl,rfl⟩
 refine az (eo h fun l31 hl31 h=>ae (bY 2 [76] [(77,pI (p1.length:Int))] (by kernel_rfl) (ar rfl (lp (enc:=eI) rfl rfl rfl rfl rfl rfl rfl rfl rfl hl31 (fun b32=>aL [(16,pO (some ⟨b32,0,none⟩) l31.length l31.length)] (by kernel_rfl) (cH (ai [(79,pO (some ⟨b8,0,none⟩) l7.length l7.length),(80,pI ((l7.length:Nat):Int)),(81,pI 0)] (by kernel_rfl) (fu h fun q40 hq40 h=>?_))))))))
 refine av (Y:=Unit×((List Int))) (fun (_,l38)=>[(16,pO (some ⟨b32,0,none⟩) l31.length l31.length)]) (fun (_,l38)=>[PRes.row (some ⟨b32,0,none⟩) l31.length l31.length 3 1 (List.map eI l38)]) (fun (_,l38)=>q40=l38) ?_ ?_
 ·refine an ?_
  refine aY (Y:=Unit) (S:=(List Int)×Int) _ hq40 (fun _ (l35,v36)=>[(9,pI v14),(16,pO (some ⟨b32,0,none⟩) l31.length l31.length),(79,pO (some ⟨b8,0,none⟩) l7.length l7.length),(80,pI ((l7.length:Nat):Int)),(81,pI v36)]) (fun _ (l35,v36)=>[PRes.row (some ⟨b8,0,none⟩) l7.length l7.length 146 3 (List.map Zd.enc x30),PRes.row (some ⟨b32,0,none⟩) l31.length l31.length 3 1 (List.map eI l35)]) () (kO rfl) (bv (aR aZ) dx) ?_
  rintro _ ⟨l35,v36⟩ o τ hb39;(try dsimp only at hb39);dsimp only [aF]
  refine af (ai [(82,pB (decide (v36<((l7.length:Nat):Int))))] (by kernel_rfl) (bN (iQ rfl hb39 (fun hc41 hb39=>?_) fun hc41 hb39=>?_)))
  ·refine ag ?_
   refine eo hb39 fun q45 hq45 hb39=>?_
   refine av (Y:=Unit×((List Int))) (fun (_,l43)=>[(9,pI v14),(16,pO (some ⟨b32,0,none⟩) l31.length l31.length),(79,pO (some ⟨b8,0,none⟩) l7.length l7.length),(80,pI ((l7.length:Nat):Int)),(81,pI v36)]) (fun (_,l43)=>[PRes.row (some ⟨b32,0,none⟩) l31.length l31.length 3 1 (List.map eI l43),PRes.row (some ⟨b8,0,none⟩) l7.length l7.length 146 3 (List.map Zd.enc x30)]) (fun (_,l43)=>q45=l43) ?_ ?_
   ·skip
    refine an (af (aa hq45 fun m46 hm46 hq45=>ae (aA 1 [(83,pI v36)] (by kernel_rfl) (bE rfl rfl rfl (bo (enc:=Zd.enc) (xs:=x30) rfl rfl rfl (.p rfl) eD (.p rfl) (fun _=>hm46)) (bE rfl rfl rfl (bj (sz:=3) (p:=.agg [pI m46.index_,pU m46.share,pU m46.rest]) (enc:=Zd.enc) (xs:=x30) (a:=(some ⟨b8,0,none⟩)) v36 0 m46 rfl (.p rfl) rfl eD (fun _=>hm46) rfl) (ar rfl (be (cs:=[pI 0,pU 0,pU 0]) rfl rfl rfl rfl (fun b47=>aA 1 [(17,pI v36)] (by kernel_rfl) (aQ rfl rfl (ak (vs:=[pI m46.index_,pU m46.share,pU m46.rest]) rfl rfl rfl rfl rfl cn zl3 (az (eo hq45 fun m48 hm48 hq45=>ae (cq 6 [0,0] [87,89,90] [(86,pO (some ⟨b32,0,none⟩) l31.length l31.length),(88,pI m46.index_),(91,pI (IntKind.i64.wrap m46.share))] (by kernel_rfl) (bE rfl rfl rfl (bo (enc:=eI) (xs:=l35) rfl rfl rfl (.p rfl) zd (.p rfl) (fun _=>hm48)) (aQ rfl rfl (dq (enc:=eI) (xs:=l35) (a:=(some ⟨b32,0,none⟩)) m46.index_ 0 m48 (IntKind.i64.wrap m46.share) rfl rfl rfl rfl (fun _=>rfl) rfl rfl hm48 eX (cA (cA cn)) (az (bN (ah [93,94] [(95,pB (decide (v36<v14)))] (by kernel_rfl) (bZ rfl hq45 (fun hc50 hq45=>?_) fun hc50 hq45=>?_))))))))))))))))))))
    ·refine aa hq45 ?_;clear hq45;intro m51 hm51 hq45
     refine ae (cq 3 [0] [97] [(96,pO (some ⟨b32,0,none⟩) l31.length l31.length),(98,pI m46.index_)] (by kernel_rfl) (bE rfl rfl rfl (bo (enc:=eI) (xs:=(l35.set m46.index_.toNat (IntKind.i64.wrap m46.share))) rfl rfl rfl (.p rfl) zd (.p rfl) (fun _=>hm51)) (bE rfl rfl rfl (bj (sz:=1) (p:=pI m51) (enc:=eI) (xs:=(l35.set m46.index_.toNat (IntKind.i64.wrap m46.share))) (a:=(some ⟨b32,0,none⟩)) m46.index_ 0 m51 rfl (.p rfl) rfl zd (fun _=>hm51) rfl) (aa hq45 fun m52 hm52 hq45=>aA 1 [(101,pI (IntKind.i64.wrap (m51+1)))] (by kernel_rfl) (bE rfl rfl rfl (bo (enc:=eI) (xs:=(l35.set m46.index_.toNat (IntKind.i64.wrap m46.share))) rfl rfl rfl (.p rfl) zd (.p rfl) (fun _=>hm52)) (aQ rfl rfl (dq (enc:=eI) (xs:=(l35.set m46.index_.toNat (IntKind.i64.wrap m46.share))) (a:=(some ⟨b32,0,none⟩)) m46.index_ 0 m52 (IntKind.i64.wrap (m51+1)) rfl rfl rfl rfl (fun _=>rfl) rfl rfl hm52 eX (cA (cA cn)) (az (aj ?_)))))))))
     obtain rfl:=osi hq45
     exact au ((),((l35.set m46.index_.toNat (IntKind.i64.wrap m46.share)).set m46.index_.toNat (IntKind.i64.wrap (m51+1)))) (kO rfl) (bv (aR (aR aZ)) (bv (aR aZ) bD)) rfl
    refine ag ?_
    refine aj ?_
    obtain rfl:=osi hq45
    exact au ((),(l35.set m46.index_.toNat (IntKind.i64.wrap m46.share))) (kO rfl) (bv (aR (aR aZ)) (bv (aR aZ) bD)) rfl
   rintro ⟨_,l43⟩ τ hz;(try dsimp only at hz);subst q45;(try dsimp only at hb39);dsimp only [aF]
   refine ah [103] [(81,pI (IntKind.i64.wrap (v36+1)))] (by kernel_rfl) ?_
   exact bm hb39 () (kO rfl) (bv (aR aZ) dx)
  refine ba ?_
  refine aI (aB hb39 (fun ht=>aG rfl ?_))
  exact au ((),l35) (wZ rfl) (bv (aR aZ) bD) ht.symm
 rintro ⟨_,l38⟩ τ hz;(try dsimp only at hz);subst q40;(try dsimp only at h);dsimp only [aF]
 refine af (ah [104] [(4,pO (some ⟨b32,0,none⟩) l31.length l31.length),(5,pI 0)] (by kernel_rfl) (aH ?_))
 refine e8 (enc:=eI) (xs:=l38) 4 rfl (by exact aZ) ?_
 refine cu ?_
 obtain rfl:=osi h
 exact aM (bR (aK rfl) (aK rfl)) bD ⟨rfl,rfl⟩
def fi (p0:(List Int)):Option (List Int):=app 8 ([]:List Int) p0
theorem jS {p0:(List Int)} {r:(List Int)} (h:fi p0=some r):PCall 76 [pL eI p0] [] (fun pv ρ'=>∃ a c,pv=.v (.slice a r.length c)∧ρ'=[PRes.row a r.length c 3 1 (List.map eI r)]):=by
 unfold fi at h
 refine gW Tryz.func76 rfl Tryz.ntmps76 Tryz.results76 rfl ?_
 (repeat refine af ?_)
 refine ae (bE rfl rfl rfl (bc (p:=.v (.slice none 0 0)) rfl (.p rfl)) (az (aH ?_)))
 (repeat refine af ?_)
 refine ae (bE rfl rfl rfl (bC (p:=pL eI p0) rfl (.p rfl)) (qE rfl rfl rfl rfl rfl rfl (fun b hb=>az (aH ?_))))
 refine fE rfl (fun hc=>?_) (fun hc=>?_)
 ·have e0:p0=[]:=List.map_eq_nil_iff.1 (hb hc)
  subst e0;obtain ⟨rfl,_⟩:=kM h
  (repeat refine af ?_)
  refine ae (bE rfl rfl rfl (bc (p:=.v (.slice none 0 0)) rfl (.p rfl)) (az (aH (dn 3 1 (cu (aP ?_))))))
  exact aM (gp (aK rfl)) dx ⟨_,_,rfl,rfl⟩
 refine ag ?_
 refine aH ?_
 (repeat refine af ?_)
 refine ae (ar rfl (bW rfl rfl rfl rfl rfl jD rfl rfl rfl rfl (fun b1=>bE rfl rfl rfl (bC (p:=pL eI p0) rfl (.p rfl)) ?_)))
 refine ar rfl (mD (enc:=eI) (xs:=([]:List Int)) rfl rfl rfl rfl rfl (fun _=>rfl) rfl rfl rfl (by exact aZ) h (fun a c=>?_))
 refine bE rfl rfl rfl (bc (p:=.v (.slice a r.length c)) rfl (.p rfl)) (az (dB ?_))
 exact aM (gp (aK rfl)) dx ⟨_,_,rfl,rfl⟩
def jb (p0:Zj):Option ((List Zg)×Int):=Option.bind (α:=((List Int))⊕_) (cond (decide (0<p0.Quantity)) ((iv p0.Value [p0.Granted,(IntKind.i64.wrap (p0.Quantity - p0.Granted))]).bind fun x9=>cond (x9.2 != 0) (some (.inr ([],x9.2))) (some (.inl x9.1))) (some (.inl [0,p0.Value]))) (fun q=>match q with | .inl l4=>Option.bind (cond p0.Proof ((app 8 [1,2] [3]).bind fun l21=>some l21) (some [1,2])) (fun l16=>Option.bind (cond (decide (0<p0.Granted)) ((idx l4 0).bind fun m32=>(fi l16).bind fun x33=>(app 8 x33 [4]).bind fun l39=>(app 40 ([]:List Zg) [(⟨p0.Granted,m32,l39⟩:Zg)]).bind fun l44=>some l44) (some ([]:(List Zg)))) (fun l28=>Option.bind (cond ((decide (0<(IntKind.i64.wrap (p0.Quantity - p0.Granted))))||(p0.Quantity == 0)) ((idx l4 1).bind fun m54=>(app 40 l28 [(⟨(IntKind.i64.wrap (p0.Quantity - p0.Granted)),m54,l16⟩:Zg)]).bind fun l57=>some l57) (some l28)) (fun l51=>(app 40 l51 [(⟨p0.Quantity,p0.Value,[5]⟩:Zg),(⟨p0.Quantity,p0.Value,[6]⟩:Zg)]).bind fun l67=>some (l67,(0:Int))))) | .inr e=>some e)
theorem mY {p0:Zj} {r:((List Zg)×Int)}  (h:jb p0=some r):PF 52 [.agg (cw p0)] (.tup [pL Zg.enc r.1,pI r.2]):=by
 unfold jb at h
 refine bi ?_
 refine eg Tryz.func52 rfl Tryz.ntmps52 Tryz.results52 rfl (ae (ar rfl (bB (cs:=(cw p0)) rfl rfl (fun b1=>bu [2,3] (by kernel_rfl) (bN (aT [0,0] (rg 9 5) [(4,pI (IntKind.i64.wrap (p0.Quantity - p0.Granted)))] (by kernel_rfl) (bN (ae (cq 2 [0] [14] [(15,pI p0.Value)] (by kernel_rfl) (ar rfl (bW rfl rfl rfl rfl rfl (eW rfl (eW rfl jD)) rfl rfl rfl rfl (fun b2=>aL [(5,pO (some ⟨b2,0,none⟩) 2 2)] (by kernel_rfl) (cH (aT [1] [17,18] [(19,pB (decide (0<p0.Quantity)))] (by kernel_rfl) (fu h fun q5 hq5 h=>?_)))))))))))))))
 refine av (Y:=Unit×((List Int))) (fun (_,l4)=>[(1,pP b1 0),(4,pI (IntKind.i64.wrap (p0.Quantity - p0.Granted))),(5,pL eI l4)]) (fun (_,l4)=>[PRes.b b1 32 (cw p0)]) (fun (_,l4)=>q5=Sum.inl l4) ?_ ?_
 ·skip
  refine iQ rfl hq5 (fun hc6 hq5=>?_) fun hc6 hq5=>?_
  ·refine af ?_
   refine bf [6] (by kernel_rfl) (bN (ae (cq 5 [1,1] [21,23] [(22,pI p0.Value),(24,pI p0.Granted),(25,pI (IntKind.i64.wrap (p0.Quantity - p0.Granted)))] (by kernel_rfl) (ar rfl (bW rfl rfl rfl rfl rfl (eW rfl (eW rfl jD)) rfl rfl rfl rfl (fun b7=>?_))))))
   refine kK (enc:=eI) (xs:=[p0.Granted,(IntKind.i64.wrap (p0.Quantity - p0.Granted))]) 26 rfl (by exact aZ) ?_
   refine aa hq5 fun x9 hx9 hq5=>gX [] [27,20,28,29] [(5,pL eI x9.1),(6,pI x9.2)] (bz 0 (l6 hx9) bA) (by kernel_rfl) (bN (ah [30] [(31,pB (x9.2 != 0))] (by kernel_rfl) (bZ rfl hq5 (fun hc10 hq5=>?_) fun hc10 hq5=>?_)))
   ·refine af ?_
    refine ah [32] [(2,pN),(3,pI x9.2)] (by kernel_rfl) (aH (mB 2 rfl (cu (bt ?_))))
    obtain rfl:=osi hq5
    obtain rfl:=osi h
    exact aM (bR (aK rfl) (aK rfl)) bD ⟨rfl,rfl⟩
   refine ag ?_
   obtain rfl:=osi hq5
   exact au ((),x9.1) (jh rfl) (bv (aR (aR aZ)) bD) rfl
  refine ag ?_
  refine fN (mG (enc:=eI) (xs:=[0,p0.Value]) 5 rfl (by exact aZ)) ?_
  obtain rfl:=osi hq5
  exact au ((),[0,p0.Value]) (jh rfl) (bv (aR aZ) bD) rfl
 rintro ⟨_,l4⟩ τ hz;(try dsimp only at hz);subst q5;(try dsimp only at h);dsimp only [aF]
 refine af (ae (ar rfl (bW rfl rfl rfl rfl rfl (eW rfl (eW rfl jD)) rfl rfl rfl rfl (fun b11=>aL [(7,pO (some ⟨b11,0,none⟩) 2 2)] (by kernel_rfl) (cH (aT [1] [34] [(35,pB p0.Proof)] (by kernel_rfl) (fu h fun q17 hq17 h=>?_)))))))
 refine av (Y:=(Option Addr×Nat)×((List Int))) (fun ((a14,c15),l16)=>[(1,pP b1 0),(4,pI (IntKind.i64.wrap (p0.Quantity - p0.Granted))),(5,pL eI l4),(7,pO a14 l16.length c15)]) (fun ((a14,c15),l16)=>[PRes.b b1 32 (cw p0),PRes.row a14 l16.length c15 3 1 (List.map eI l16)]) (fun ((a14,c15),l16)=>q17=l16) ?_ ?_
 ·skip
  refine iQ rfl hq17 (fun hc18 hq17=>?_) fun hc18 hq17=>?_
  ·refine ae ?_
   refine aA 1 [(36,pO (some ⟨b11,0,none⟩) 2 2)] (by kernel_rfl) (ar rfl (bW rfl rfl rfl rfl rfl (eW rfl jD) rfl rfl rfl rfl (fun b19=>aa hq17 fun l21 hl21 hq17=>?_)))
   refine ar rfl (cV (enc:=eI) rfl rfl rfl rfl rfl rfl rfl rfl rfl eD (by exact aR aZ) hl21 (fun a22 c23=>?_))
   refine aL [(7,pO a22 l21.length c23)] (by kernel_rfl) ?_
   obtain rfl:=osi hq17
   exact au ((a22,c23),l21) (kf rfl) (bv (aR (aR aZ)) dx) rfl
  refine ag ?_
  obtain rfl:=osi hq17
  exact au (((some ⟨b11,0,none⟩),2),[1,2]) (kf rfl) (bv (aR aZ) dx) rfl
 rintro ⟨⟨a14,c15⟩,l16⟩ τ hz;(try dsimp only at hz);subst q17;(try dsimp only at h);dsimp only [aF]
 refine af (ai [(8,pN)] (by kernel_rfl) (cH (aT [0] [39,40] [(41,pB (decide (0<p0.Granted)))] (by kernel_rfl) (fu h fun q29 hq29 h=>?_))))
 refine av (Y:=(Option Addr×Nat)×((List Zg))) (fun ((a26,c27),l28)=>[(1,pP b1 0),(4,pI (IntKind.i64.wrap (p0.Quantity - p0.Granted))),(5,pL eI l4),(7,pL eI l16),(8,pO a26 l28.length c27)]) (fun ((a26,c27),l28)=>[PRes.b b1 32 (cw p0),PRes.row a26 l28.length c27 109 3 (List.map Zg.enc l28)]) (fun ((a26,c27),l28)=>q29=l28) ?_ ?_
 ·skip
  refine iQ rfl hq29 (fun hc30 hq29=>?_) fun hc30 hq29=>?_
  ·refine e8 (enc:=eI) (xs:=l16) 7 rfl (by exact aR aZ) ?_
   refine dn 109 3 (bH (ρd:=[PRes.row none _ _ _ _ _]) [(8,3),(0,0),(1,0),(2,0),(3,0),(4,0),(5,0),(6,0),(7,1),(8,2),(9,1),(10,0),(11,1),(12,1),(13,0)] _ (List.Perm.refl _) (by kernel_rfl) rfl (sX (ln rfl rfl rfl rfl rfl (eW rfl jD) rfl rfl rfl) (aa hq29 fun m32 hm32 hq29=>aa hq29 fun x33 hx33 hq29=>bV 7 [1] [43,45,46] [(42,pO none 0 0),(44,pI p0.Granted),(47,pI m32),(48,pL eI l16)] (eH 4 eI hm32 bA) (by kernel_rfl) ?_)))
   refine hX rfl rfl rfl (aV rfl rfl (ρ1:=[]) (List.Perm.refl _) (jS hx33) ?_);rintro _ _ ⟨a34,c35,rfl,rfl⟩
   refine kN (ln rfl rfl rfl rfl rfl (eW rfl jD) rfl rfl rfl) (fun _=>rfl) rfl (fun b37=>aa hq29 fun l39 hl39 hq29=>?_)
   refine hX rfl rfl rfl (pl_fz (sW (enc:=eI) rfl rfl rfl rfl rfl (fun _=>rfl) rfl rfl rfl rfl eD rfl (by exact aR aZ) hl39 (fun a40 c41=>⟨_,_,_,_,_,_,_,rfl,by (repeat (first | exact aZ | apply aR)),?_⟩)))
   refine kp rfl rfl rfl (lq (cs:=[pI p0.Granted,pI m32,pL eI l39]) rfl rfl rfl rfl rfl rfl rfl (rA rfl rfl rfl rfl eX (rA rfl rfl rfl rfl (bQ eX) (rA rfl rfl rfl rfl (bQ (bQ eX)) zfn)))) (hX rfl rfl rfl (bW rfl rfl rfl rfl rfl (eW rfl jD) rfl rfl rfl rfl (fun b42=>aa hq29 fun l44 hl44 hq29=>?_)))
   refine hX rfl rfl rfl (cV (enc:=Zg.enc) rfl rfl rfl rfl rfl rfl rfl rfl rfl eD (by exact aR (aR aZ)) hl44 (fun a45 c46=>?_))
   refine gu 1 [(8,pO a45 l44.length c46)] (by kernel_rfl) (ce ?_)
   obtain rfl:=osi hq29
   exact au ((a45,c46),l44) (kO rfl) (bv (aR (aR (aR (aR aZ)))) dx) rfl
  refine ag ?_
  refine fN (mG (enc:=eI) (xs:=l16) 7 rfl (by exact aR aZ)) ?_
  refine fN (pg 109 3) ?_
  obtain rfl:=osi hq29
  exact au ((none,0),([]:(List Zg))) (kO rfl) (bv (aR (aR aZ)) dx) rfl
 rintro ⟨⟨a26,c27⟩,l28⟩ τ hz;(try dsimp only at hz);subst q29;(try dsimp only at h);dsimp only [aF]
 refine fW (aT [0] (rg 55 6) [(61,pB ((decide (0<(IntKind.i64.wrap (p0.Quantity - p0.Granted))))||(p0.Quantity == 0)))] (by kernel_rfl) (fu h fun q52 hq52 h=>?_))
 refine av (Y:=(Option Addr×Nat)×((List Zg))) (fun ((a49,c50),l51)=>[(1,pP b1 0),(8,pO a49 l51.length c50)]) (fun ((a49,c50),l51)=>[PRes.b b1 32 (cw p0),PRes.row a49 l51.length c50 109 3 (List.map Zg.enc l51)]) (fun ((a49,c50),l51)=>q52=l51) ?_ ?_
 ·skip
  refine iQ rfl hq52 (fun hc53 hq52=>?_) fun hc53 hq52=>?_
  ·refine aa hq52 ?_;clear hq52;intro m54 hm54 hq52
   refine ae (bd 7 [] (rg 63 5) [(62,pO a26 l28.length c27),(68,.agg [pI (IntKind.i64.wrap (p0.Quantity - p0.Granted)),pI m54,pL eI l16])] (eH 3 eI hm54 bA) (by kernel_rfl) (ar rfl (bW rfl rfl rfl rfl rfl (eW rfl jD) rfl rfl rfl rfl (fun b55=>aa hq52 fun l57 hl57 hq52=>?_))))
   refine ar rfl (cV (enc:=Zg.enc) rfl rfl rfl rfl rfl rfl rfl rfl rfl eD (by exact aR (aR aZ)) hl57 (fun a58 c59=>?_))
   refine aL [(8,pO a58 l57.length c59)] (by kernel_rfl) ?_
   obtain rfl:=osi hq52
   exact au ((a58,c59),l57) (ke rfl) (bv (aR (aR aZ)) dx) rfl
  refine ag ?_
  obtain rfl:=osi hq52
  exact au ((a26,c27),l28) (ke rfl) ml rfl
 rintro ⟨⟨a49,c50⟩,l51⟩ τ hz;(try dsimp only at hz);subst q52;(try dsimp only at h);dsimp only [aF]
 refine af (ae (cq 5 [0,0] [72,74] [(71,pO a49 l51.length c50),(73,pI p0.Quantity),(75,pI p0.Value)] (by kernel_rfl) (ar rfl (bW rfl rfl rfl rfl rfl (eW rfl jD) rfl rfl rfl rfl (fun b61=>?_)))))
 refine kK (enc:=eI) (xs:=[5]) 76 rfl (by exact aZ) ?_
 refine cq 5 [1,1] [78,80] [(77,.agg [pI p0.Quantity,pI p0.Value,pL eI [5]]),(79,pI p0.Quantity),(81,pI p0.Value)] (by kernel_rfl) (ar rfl (bW rfl rfl rfl rfl rfl (eW rfl jD) rfl rfl rfl rfl (fun b63=>?_)))
 refine kK (enc:=eI) (xs:=[6]) 82 rfl (by exact aZ) ?_
 refine aA 1 [(83,.agg [pI p0.Quantity,pI p0.Value,pL eI [6]])] (by kernel_rfl) (ar rfl (bW rfl rfl rfl rfl rfl (eW rfl (eW rfl jD)) rfl rfl rfl rfl (fun b65=>aa h fun l67 hl67 h=>?_)))
 refine ar rfl (cV (enc:=Zg.enc) rfl rfl rfl rfl rfl rfl rfl rfl rfl eD (by exact aR (aR (aR (aR aZ)))) hl67 (fun a68 c69=>?_))
 refine aL [(2,pO a68 l67.length c69),(3,pI 0)] (by kernel_rfl) (aH ?_)
 refine e8 (enc:=Zg.enc) (xs:=l67) 2 rfl (by exact aZ) ?_
 refine cu ?_
 obtain rfl:=osi h
 exact aM (bR (aK rfl) (aK rfl)) bD ⟨rfl,rfl⟩
def du (p0:Int) (p1:Int) (p2:Int):Option Zh:=(iT (IntKind.u64.wrap ((IntKind.u64.wrap p0)*(IntKind.u64.wrap p1))) p2).bind fun x2=>some x2
theorem dF {p0:Int} {p1:Int} {p2:Int} {r:Zh}  (h:du p0 p1 p2=some r):PF 94 [pI p0,.ref [pI p1] 0,.ref [pU p2] 0] (.agg [pU r.Hi,pU r.Lo]):=by
 unfold du at h
 refine bi ?_
 refine eg Tryz.func94 rfl Tryz.ntmps94 Tryz.results94 rfl (ae (ar rfl (be (cs:=[pU 0,pU 0]) rfl rfl rfl rfl (fun b1=>az (eo h fun x2 hx2 h=>ae (bd 7 [] (rg 5 6) [(11,.agg [pU x2.Hi,pU x2.Lo])] (bz 6 (iH hx2) bA) (by kernel_rfl) (aQ rfl rfl (ak (vs:=[pU x2.Hi,pU x2.Lo]) rfl rfl rfl rfl rfl cn jV (az (dB ?_))))))))))
 obtain rfl:=osi h
 exact aM (gp (dh rfl eD rfl)) bD ⟨rfl,rfl⟩
def nH (p0:Zh) (p1:Zh):Option (Zh×Int):=(fJ p0.Lo p1.Lo 0).bind fun x4=>(fJ p0.Hi p1.Hi x4.2).bind fun x5=>cond (x5.2 != 0) (some ((⟨0,0⟩:Zh),(3:Int))) (some ((⟨x5.1,x4.1⟩:Zh),(0:Int)))
theorem rV {p0:Zh} {p1:Zh} {r:(Zh×Int)}  (h:nH p0 p1=some r):PF 96 [.agg [pU p0.Hi,pU p0.Lo],.agg [pU p1.Hi,pU p1.Lo]] (.tup [.agg [pU r.1.Hi,pU r.1.Lo],pI r.2]):=by
 unfold nH at h
 refine bi ?_
 refine eg Tryz.func96 rfl Tryz.ntmps96 Tryz.results96 rfl (ae (ar rfl (bB (cs:=[pU p0.Hi,pU p0.Lo]) rfl rfl (fun b1=>ar rfl (bB (cs:=[pU p1.Hi,pU p1.Lo]) rfl rfl (fun b2=>ar rfl (be (cs:=[pU 0,pU 0]) rfl rfl rfl rfl (fun b3=>bu [5] (by kernel_rfl) (eo h fun x4 hx4 h=>ae (cq 4 [2,1] [10,12] [(11,pU p0.Lo),(13,pU p1.Lo)] (by kernel_rfl) (ar rfl (te rfl rfl hx4 (kT [9,15,16] [(6,pU x4.1),(7,pU x4.2)] (by kernel_rfl) (eo h fun x5 hx5 h=>ae (cq 5 [2,1] [18,20] [(19,pU p0.Hi),(21,pU p1.Hi),(22,pU x4.2)] (by kernel_rfl) (ar rfl (te rfl rfl hx5 (kT [17,24,25] [(8,pU x5.1),(7,pU x5.2)] (by kernel_rfl) (cH (ah [26] [(27,pB (x5.2 != 0))] (by kernel_rfl) (bZ rfl h (fun hc6 h=>?_) fun hc6 h=>?_)))))))))))))))))))))
 ·refine af ?_
  refine ae (aA 1 [(28,.agg [pU 0,pU 0])] (by kernel_rfl) (aQ rfl rfl (ak (vs:=[pU 0,pU 0]) rfl rfl rfl rfl rfl cn jV (aL [(5,pI 3)] (by kernel_rfl) (fB ?_)))))
  obtain rfl:=osi h
  exact aM (bR (dh rfl eD rfl) (aK rfl)) bD ⟨rfl,rfl⟩
 refine ag ?_
 refine bN (ae (bY 3 [29,30] [(31,.agg [pU x5.1,pU x4.1])] (by kernel_rfl) (aQ rfl rfl (ak (vs:=[pU x5.1,pU x4.1]) rfl rfl rfl rfl rfl cn jV (aL [(5,pI 0)] (by kernel_rfl) (dB ?_))))))
 obtain rfl:=osi h
 exact aM (bR (dh rfl eD rfl) (aK rfl)) bD ⟨rfl,rfl⟩
def eR (p0:Zh) (p1:Zh):Option Int:=cond ((decide (p0.Hi<p1.Hi))||((p0.Hi == p1.Hi)&&(decide (p0.Lo<p1.Lo)))) (some (-1)) (cond (Zh.eqb p0 p1) (some (0:Int)) (some (1:Int)))
theorem ie {p0:Zh} {p1:Zh} {r:Int}  (h:eR p0 p1=some r):PF 97 [.agg [pU p0.Hi,pU p0.Lo],.agg [pU p1.Hi,pU p1.Lo]] (pI r):=by
 unfold eR at h
 refine bi ?_
 refine eg Tryz.func97 rfl Tryz.ntmps97 Tryz.results97 rfl (ae (ar rfl (bB (cs:=[pU p0.Hi,pU p0.Lo]) rfl rfl (fun b1=>ar rfl (bB (cs:=[pU p1.Hi,pU p1.Lo]) rfl rfl (fun b2=>bu [4] (by kernel_rfl) (bN (an (af (aT [1,0,1,0,1,0] (rg 6 19) [(5,pB ((decide (p0.Hi<p1.Hi))||((p0.Hi == p1.Hi)&&(decide (p0.Lo<p1.Lo)))))] (by kernel_rfl) (bZ rfl h (fun hc3 h=>?_) fun hc3 h=>?_)))))))))))
 ·refine af ?_
  refine ai [(4,pI (-1))] (by kernel_rfl) (dB (aw (aP ?_)))
  exact zz r h rfl
 refine af ?_
 refine aD [1,0] [26,27,28] [(25,pB (Zh.eqb p0 p1))] (foeq 2 Zh.eqok151 bA) (by kernel_rfl) (bZ rfl h (fun hc4 h=>?_) fun hc4 h=>?_)
 ·refine af ?_
  refine ai [(4,pI 0)] (by kernel_rfl) (dB (aw (aP ?_)))
  exact zz r h rfl
 refine ag ?_
 refine aj (bN (ai [(4,pI 1)] (by kernel_rfl) (dB ?_)))
 exact zz r h rfl
def jB (p0:Zk) (p1:Int) (p2:Int):Option (Int×Int):=(cE p0).bind fun x3=>cond (x3 != 0) (some ((0:Int),x3)) (cond ((((decide (p1<0))||(decide (1000000000000<p1)))||(decide (p2<0)))||(decide (1000000000<p2))) (some ((0:Int),(2:Int))) ((du p0.Rate p1 (IntKind.u64.wrap (cX p0.Per 1))).bind fun x7=>(iT (IntKind.u64.wrap ((IntKind.u64.wrap p0.Amount)*(IntKind.u64.wrap p2))) 1000000).bind fun x8=>(nH x7 x8).bind fun x9=>cond (x9.2 != 0) (some ((0:Int),(3:Int))) ((gd p0.HasMost (du p0.Most p1 (IntKind.u64.wrap (cX p0.Per 1)))).bind fun x12=>(gd p0.HasMost (eR x9.1 x12)).bind fun x13=>Option.bind (cond (p0.HasMost&&(decide (0<x13))) ((du p0.Most p1 (IntKind.u64.wrap (cX p0.Per 1))).bind fun x18=>some (x18.Hi,x18.Lo)) (some (x9.1.Hi,x9.1.Lo))) (fun (v14,v15)=>(gd p0.HasLeast (du p0.Least p1 (IntKind.u64.wrap (cX p0.Per 1)))).bind fun x19=>(gd p0.HasLeast (eR (⟨v14,v15⟩:Zh) x19)).bind fun x20=>Option.bind (cond (p0.HasLeast&&(decide (x20<0))) ((du p0.Least p1 (IntKind.u64.wrap (cX p0.Per 1))).bind fun x25=>some (x25.Hi,x25.Lo)) (some (v14,v15))) (fun (v21,v22)=>(lr (⟨v21,v22⟩:Zh) (IntKind.u64.wrap (1000000*(IntKind.u64.wrap (cX p0.Per 1)))) 2).bind fun x26=>cond ((x26.2 != 0)||(decide (1000000000000<x26.1))) (some ((0:Int),(3:Int))) (some ((IntKind.i64.wrap x26.1),(0:Int))))))))
theorem nI {p0:Zk} {p1:Int} {p2:Int} {r:(Int×Int)}  (h:jB p0 p1 p2=some r):PF 77 [.agg (gt p0),pI p1,pI p2] (.tup [pI r.1,pI r.2]):=by
 unfold jB at h
 refine bi ?_
 refine eg Tryz.func77 rfl Tryz.ntmps77 Tryz.results77 rfl (ae (ar rfl (bB (cs:=(gt p0)) rfl rfl (fun b1=>ar rfl (bB (cs:=[pI p1]) rfl rfl (fun b2=>bu [6,7] (by kernel_rfl) (cH (aa h fun x3 hx3 h=>aD [1] [14,15] [(8,pI x3)] (bz 1 (jR hx3) bA) (by kernel_rfl) (bN (ah [16] [(17,pB (x3 != 0))] (by kernel_rfl) (bZ rfl h (fun hc4 h=>?_) fun hc4 h=>?_)))))))))))
 ·refine af ?_
  refine ah [18] [(6,pI 0),(7,pI x3)] (by kernel_rfl) (fB ?_)
  obtain rfl:=osi h
  exact aM (bR (aK rfl) (aK rfl)) bD ⟨rfl,rfl⟩
 refine ag ?_
 refine cH (aT [0,0] (rg 19 13) [(32,pB ((((decide (p1<0))||(decide (1000000000000<p1)))||(decide (p2<0)))||(decide (1000000000<p2))))] (by kernel_rfl) (bZ rfl h (fun hc5 h=>?_) fun hc5 h=>?_))
 ·refine af ?_
  refine ai [(6,pI 0),(7,pI 2)] (by kernel_rfl) (fB ?_)
  obtain rfl:=osi h
  exact aM (bR (aK rfl) (aK rfl)) bD ⟨rfl,rfl⟩
 refine ag ?_
 refine bN (ae (cq 4 [1] [33,34,35] [(36,pU (IntKind.u64.wrap (cX p0.Per 1)))] (by kernel_rfl) (ar rfl (be (cs:=[pU 0]) rfl rfl rfl rfl (fun b6=>aQ rfl rfl (ak (vs:=[pU (IntKind.u64.wrap (cX p0.Per 1))]) rfl rfl rfl rfl rfl cn eX (az (bN (ae ?_)))))))))
 refine ru 4 rfl (by exact aR aZ) ?_
 refine ru 9 rfl (by exact aR aZ) ?_
 refine kT [37] [(10,.fn 94 [.ref [pI p1] 0,.ref [pU (IntKind.u64.wrap (cX p0.Per 1))] 0])] (by kernel_rfl) (bN (bH (ρd:=[]) [(0,0),(1,0),(2,0),(4,0),(5,0),(6,0),(7,0),(8,0),(9,0),(3,1),(10,1),(11,1),(12,0),(13,0),(14,0),(15,2),(16,1),(17,0)] _ (List.Perm.refl _) (by kernel_rfl) rfl (aa h fun x7 hx7 h=>aa h fun x8 hx8 h=>aa h fun x9 hx9 h=>bV 15 [2,2] [39,40,41,43,44,45,46,47,48,42,49,50,38] [(51,.agg [pU x9.1.Hi,pU x9.1.Lo]),(52,pI x9.2)] (ye 9 (kE (pargs:=[pI p0.Rate]) (caps:=[.ref [pI p1] 0,.ref [pU (IntKind.u64.wrap (cX p0.Per 1))] 0]) (dF hx7)) (bz 10 (iH hx8) (bz 11 (rV hx9) bA))) (by kernel_rfl) (kN (kL rfl rfl rfl rfl rfl) (fun _=>rfl) rfl (fun b10=>rD rfl rfl (ak (vs:=[pU x9.1.Hi,pU x9.1.Lo]) rfl rfl rfl rfl rfl cn jV (gu 1 [(12,pI x9.2)] (by kernel_rfl) (ce (cH (ah [53] [(54,pB (x9.2 != 0))] (by kernel_rfl) (bZ rfl h (fun hc11 h=>?_) fun hc11 h=>?_)))))))))))
 ·refine af ?_
  refine ai [(6,pI 0),(7,pI 3)] (by kernel_rfl) (fB ?_)
  obtain rfl:=osi h
  exact aM (bR (aK rfl) (aK rfl)) bD ⟨rfl,rfl⟩
 refine ag ?_
 refine cH (bH (ρd:=[]) [(0,0),(1,0),(2,0),(3,0),(4,0),(5,0),(6,0),(7,1),(8,1),(9,0),(10,0)] _ (List.Perm.refl _) (by kernel_rfl) rfl (aa h fun x12 hx12 h=>aa h fun x13 hx13 h=>bV 11 [3,0,3] (rg 55 10) [(65,pB (p0.HasMost&&(decide (0<x13))))] (focvg 7 (fun hc=>kE (pargs:=[pI p0.Most]) (caps:=[.ref [pI p1] 0,.ref [pU (IntKind.u64.wrap (cX p0.Per 1))] 0]) (dF (cB hx12 hc))) (eJ 8 (fun hc=>ie (cB hx13 hc)) bA)) (by kernel_rfl) (ce (fu h fun q16 hq16 h=>?_))))
 refine av (Y:=Unit×(Int×Int)) (fun (_,(v14,v15))=>[(3,pP b1 0),(9,.ref [pU (IntKind.u64.wrap (cX p0.Per 1))] 0),(10,.fn 94 [.ref [pI p1] 0,.ref [pU (IntKind.u64.wrap (cX p0.Per 1))] 0]),(11,pP b10 0)]) (fun (_,(v14,v15))=>[PRes.b b1 46 (gt p0),PRes.b b10 151 [pU v14,pU v15]]) (fun (_,(v14,v15))=>q16=(v14,v15)) ?_ ?_
 ·skip
  refine iQ rfl hq16 (fun hc17 hq16=>?_) fun hc17 hq16=>?_
  ·refine aa hq16 ?_;clear hq16;intro x18 hx18 hq16
   refine ae (bd 4 [3] [66,67,68] [(69,.agg [pU x18.Hi,pU x18.Lo])] (ye 3 (kE (pargs:=[pI p0.Most]) (caps:=[.ref [pI p1] 0,.ref [pU (IntKind.u64.wrap (cX p0.Per 1))] 0]) (dF hx18)) bA) (by kernel_rfl) (aQ rfl rfl (ak (vs:=[pU x18.Hi,pU x18.Lo]) rfl rfl rfl rfl rfl cn jV (az ?_))))
   obtain rfl:=osi hq16
   exact au ((),(x18.Hi,x18.Lo)) (kf rfl) (bv (aR (aR (aR aZ))) dx) rfl
  refine ag ?_
  obtain rfl:=osi hq16
  exact au ((),(x9.1.Hi,x9.1.Lo)) (kf rfl) (bv (aR (aR (aR aZ))) dx) rfl
 rintro ⟨_,⟨v14,v15⟩⟩ τ hz;(try dsimp only at hz);subst q16;(try dsimp only at h);dsimp only [aF]
 refine fW (bH (ρd:=[]) [(0,0),(1,0),(2,0),(3,0),(4,0),(5,0),(6,0),(7,1),(8,1),(9,0),(10,0)] _ (List.Perm.refl _) (by kernel_rfl) rfl (aa h fun x19 hx19 h=>aa h fun x20 hx20 h=>bV 11 [0,1,0] (rg 70 10) [(80,pB (p0.HasLeast&&(decide (x20<0))))] (focvg 7 (fun hc=>kE (pargs:=[pI p0.Least]) (caps:=[.ref [pI p1] 0,.ref [pU (IntKind.u64.wrap (cX p0.Per 1))] 0]) (dF (cB hx19 hc))) (eJ 8 (fun hc=>ie (cB hx20 hc)) bA)) (by kernel_rfl) (ce (fu h fun q23 hq23 h=>?_))))
 refine av (Y:=Unit×(Int×Int)) (fun (_,(v21,v22))=>[(9,.ref [pU (IntKind.u64.wrap (cX p0.Per 1))] 0),(11,pP b10 0)]) (fun (_,(v21,v22))=>[PRes.b b10 151 [pU v21,pU v22]]) (fun (_,(v21,v22))=>q23=(v21,v22)) ?_ ?_
 ·skip
  refine iQ rfl hq23 (fun hc24 hq23=>?_) fun hc24 hq23=>?_
  ·refine aa hq23 ?_;clear hq23;intro x25 hx25 hq23
   refine ae (bd 4 [0] [81,82,83] [(84,.agg [pU x25.Hi,pU x25.Lo])] (ye 3 (kE (pargs:=[pI p0.Least]) (caps:=[.ref [pI p1] 0,.ref [pU (IntKind.u64.wrap (cX p0.Per 1))] 0]) (dF hx25)) bA) (by kernel_rfl) (aQ rfl rfl (ak (vs:=[pU x25.Hi,pU x25.Lo]) rfl rfl rfl rfl rfl (cA cn) jV (az ?_))))
   obtain rfl:=osi hq23
   exact au ((),(x25.Hi,x25.Lo)) (ke rfl) (bv (aR aZ) bD) rfl
  refine ag ?_
  obtain rfl:=osi hq23
  exact au ((),(v14,v15)) (ke rfl) (bv (aR aZ) bD) rfl
 rintro ⟨_,⟨v21,v22⟩⟩ τ hz;(try dsimp only at hz);subst q23;(try dsimp only at h);dsimp only [aF]
 refine af (aa h fun x26 hx26 h=>aD [0] [86,87,88,89,85,90,91] [(13,pU x26.1),(12,pI x26.2)] (bz 3 (mX hx26) bA) (by kernel_rfl) (cH (ah (rg 92 5) [(97,pB ((x26.2 != 0)||(decide (1000000000000<x26.1))))] (by kernel_rfl) (bZ rfl h (fun hc27 h=>?_) fun hc27 h=>?_))))
 ·refine af ?_
  refine ai [(6,pI 0),(7,pI 3)] (by kernel_rfl) (fB ?_)
  obtain rfl:=osi h
  exact aM (bR (aK rfl) (aK rfl)) bD ⟨rfl,rfl⟩
 refine ag ?_
 refine bN (ah [98,99] [(6,pI (IntKind.i64.wrap x26.1)),(7,pI 0)] (by kernel_rfl) (dB ?_))
 obtain rfl:=osi h
 exact aM (bR (aK rfl) (aK rfl)) bD ⟨rfl,rfl⟩
def gQ (p0:(List Zc)) (p1:Zg):Option (Za×Bool×Int):=(bk (S:=Bool×Int×Int×Int×Int×Int×Int) (T:=(Bool×Int×Int×Int×Int×Int)⊕(_)) (fun (v4,v5,v6,v7,v8,v9,v10)=>cond (decide (v5<(p1.kinds.length:Int))) ((idx p1.kinds v5).bind fun m20=>(bk (S:=Bool×Int×Int×Int×Int×Int×Int) (T:=(Bool×Int×Int×Int×Int×Int)⊕(_)) (fun (v21,v22,v23,v24,v25,v26,v27)=>cond (decide (v22<(p0.length:Int))) (Option.bind (α:=(Bool×Int×Int×Int×Int×Int)⊕_) ((idx p0 v22).bind fun m44=>cond (m44.Kind != m20) (some (.inl (v21,v23,v24,v25,v26,v27))) ((jB m44.Duty p1.value p1.quantity).bind fun x47=>cond (x47.2 != 0) (some (.inr (.inr (.inr (.inr (.inr ((⟨0,0,0,0,0⟩:Za),false,x47.2))))))) (cond ((!v21)||(decide (x47.1<v27))) (some (.inl (true,m44.Kind,m44.ID,p1.quantity,p1.value,x47.1))) (some (.inl (v21,v23,v24,v25,v26,v27)))))) (fun q=>match q with | .inl (v37,v38,v39,v40,v41,v42)=>some (.inl (v37,(IntKind.i64.wrap (v22+1)),v38,v39,v40,v41,v42)) | .inr e=>some e)) (some (.inr (.inl (v21,v23,v24,v25,v26,v27))))) FUEL (v4,0,v6,v7,v8,v9,v10)).bind fun q=>match q with | .inl (v28,v29,v30,v31,v32,v33)=>some (.inl (v28,(IntKind.i64.wrap (v5+1)),v29,v30,v31,v32,v33)) | .inr e=>some e) (some (.inr (.inl (v4,v6,v7,v8,v9,v10))))) FUEL (false,0,0,0,0,0,0)).bind fun q=>match q with | .inl (v11,v12,v13,v14,v15,v16)=>some ((⟨v12,v13,v14,v15,v16⟩:Za),v11,(0:Int)) | .inr e=>some e
theorem lB {p0:(List Zc)} {p1:Zg} {r:(Za×Bool×Int)}  (h:gQ p0 p1=some r):PF 53 [pL Zc.enc p0,.agg [pI p1.quantity,pI p1.value,pL eI p1.kinds]] (.tup [.agg (cD r.1),pB r.2.1,pI r.2.2]):=by
 unfold gQ at h
 refine bi ?_
 refine eg Tryz.func53 rfl Tryz.ntmps53 Tryz.results53 rfl (ae (ar rfl (bB (cs:=[pI p1.quantity,pI p1.value,pL eI p1.kinds]) rfl rfl (fun b1=>ar rfl (be (cs:=[pI 0,pI 0,pI 0,pI 0,pI 0]) rfl rfl rfl rfl (fun b2=>bu [5,6] (by kernel_rfl) (bN (ae (ar rfl (be (cs:=[pI 0,pI 0,pI 0,pI 0,pI 0]) rfl rfl rfl rfl (fun b3=>az (bN (ai [(8,pB false)] (by kernel_rfl) (cH (aT [2] [15] [(16,pL eI p1.kinds),(17,pI (p1.kinds.length:Int)),(18,pI 0)] (by kernel_rfl) (fu h fun q18 hq18 h=>?_))))))))))))))))
 refine av (Y:=Unit×(Bool×Int×Int×Int×Int×Int)) (fun (_,(v11,v12,v13,v14,v15,v16))=>[(4,pP b2 0),(7,pP b3 0),(8,pB v11)]) (fun (_,(v11,v12,v13,v14,v15,v16))=>[PRes.b b2 37 [pI 0,pI 0,pI 0,pI 0,pI 0],PRes.b b3 37 [pI v12,pI v13,pI v14,pI v15,pI v16]]) (fun (_,(v11,v12,v13,v14,v15,v16))=>q18=Sum.inl (v11,v12,v13,v14,v15,v16)) ?_ ?_
 ·refine an ?_
  refine aY (Y:=Unit) (S:=Bool×Int×Int×Int×Int×Int×Int) _ hq18 (fun _ (v4,v5,v6,v7,v8,v9,v10)=>[(0,pL Zc.enc p0),(3,pP b1 0),(4,pP b2 0),(7,pP b3 0),(8,pB v4),(16,pL eI p1.kinds),(17,pI (p1.kinds.length:Int)),(18,pI v5)]) (fun _ (v4,v5,v6,v7,v8,v9,v10)=>[PRes.b b1 109 [pI p1.quantity,pI p1.value,pL eI p1.kinds],PRes.b b2 37 [pI 0,pI 0,pI 0,pI 0,pI 0],PRes.b b3 37 [pI v6,pI v7,pI v8,pI v9,pI v10]]) () (ze rfl) (bv (aR (aR aZ)) (bv (aR aZ) dx)) ?_
  rintro _ ⟨v4,v5,v6,v7,v8,v9,v10⟩ o τ hb17;(try dsimp only at hb17);dsimp only [aF]
  refine af (ai [(19,pB (decide (v5<(p1.kinds.length:Int))))] (by kernel_rfl) (bN (iQ rfl hb17 (fun hc19 hb17=>?_) fun hc19 hb17=>?_)))
  ·refine ag ?_
   refine bN (an (af (aa hb17 fun m20 hm20 hb17=>aD [] [20,21] [(10,pI m20)] (eH 0 eI hm20 bA) (by kernel_rfl) (bN (ai [(22,pL Zc.enc p0),(23,pI (p0.length:Int)),(24,pI 0)] (by kernel_rfl) (fu hb17 fun q35 hq35 hb17=>?_))))))
   refine hI (Y:=Unit×(Bool×Int×Int×Int×Int×Int)) (fun (_,(v28,v29,v30,v31,v32,v33))=>[(0,pL Zc.enc p0),(3,pP b1 0),(4,pP b2 0),(7,pP b3 0),(8,pB v28),(16,pL eI p1.kinds),(17,pI (p1.kinds.length:Int)),(18,pI v5)]) (fun (_,(v28,v29,v30,v31,v32,v33))=>[PRes.b b1 109 [pI p1.quantity,pI p1.value,pL eI p1.kinds],PRes.b b2 37 [pI 0,pI 0,pI 0,pI 0,pI 0],PRes.b b3 37 [pI v29,pI v30,pI v31,pI v32,pI v33]]) (fun (_,(v28,v29,v30,v31,v32,v33))=>q35=Sum.inl (v28,v29,v30,v31,v32,v33)) ?_ ?_
   ·refine an ?_
    refine aY (Y:=Unit) (S:=Bool×Int×Int×Int×Int×Int×Int) _ hq35 (fun _ (v21,v22,v23,v24,v25,v26,v27)=>[(0,pL Zc.enc p0),(3,pP b1 0),(4,pP b2 0),(7,pP b3 0),(8,pB v21),(10,pI m20),(16,pL eI p1.kinds),(17,pI (p1.kinds.length:Int)),(18,pI v5),(22,pL Zc.enc p0),(23,pI (p0.length:Int)),(24,pI v22)]) (fun _ (v21,v22,v23,v24,v25,v26,v27)=>[PRes.b b1 109 [pI p1.quantity,pI p1.value,pL eI p1.kinds],PRes.b b2 37 [pI 0,pI 0,pI 0,pI 0,pI 0],PRes.b b3 37 [pI v23,pI v24,pI v25,pI v26,pI v27]]) () (dK rfl (dK rfl (dK rfl (mI rfl)))) mH ?_
    rintro _ ⟨v21,v22,v23,v24,v25,v26,v27⟩ o τ hb34;(try dsimp only at hb34);dsimp only [aF]
    refine af (ai [(25,pB (decide (v22<(p0.length:Int))))] (by kernel_rfl) (bN (iQ rfl hb34 (fun hc36 hb34=>?_) fun hc36 hb34=>?_)))
    ·refine ag ?_
     refine eo hb34 fun q43 hq43 hb34=>?_
     refine av (Y:=Unit×(Bool×Int×Int×Int×Int×Int)) (fun (_,(v37,v38,v39,v40,v41,v42))=>[(0,pL Zc.enc p0),(3,pP b1 0),(4,pP b2 0),(7,pP b3 0),(8,pB v37),(10,pI m20),(16,pL eI p1.kinds),(17,pI (p1.kinds.length:Int)),(18,pI v5),(22,pL Zc.enc p0),(23,pI (p0.length:Int)),(24,pI v22)]) (fun (_,(v37,v38,v39,v40,v41,v42))=>[PRes.b b1 109 [pI p1.quantity,pI p1.value,pL eI p1.kinds],PRes.b b2 37 [pI 0,pI 0,pI 0,pI 0,pI 0],PRes.b b3 37 [pI v38,pI v39,pI v40,pI v41,pI v42]]) (fun (_,(v37,v38,v39,v40,v41,v42))=>q43=Sum.inl (v37,v38,v39,v40,v41,v42)) ?_ ?_
     ·skip
      refine an (af (aa hq43 fun m44 hm44 hq43=>ae (bd 2 [] [26] [(27,.agg (aU m44))] (eH 0 Zc.enc hm44 bA) (by kernel_rfl) (ar rfl (be (cs:=[pI 0,pI 0,pS ByteArray.empty,pN,pI 0,pI 0,pI 0,pI 0,pI 0,pI 0,pI 0,pB false,pI 0,pB false,pI 0]) rfl rfl rfl rfl (fun b45=>aQ rfl rfl (ak (vs:=(aU m44)) rfl rfl rfl rfl rfl cn (dg (dg (dg (dg (dg (dg xX)))))) (az (cH (aT [0] [28,29,30] [(31,pB (m44.Kind != m20))] (by kernel_rfl) (bZ rfl hq43 (fun hc46 hq43=>?_) fun hc46 hq43=>?_)))))))))))
      ·refine ba ?_
       refine aI (aG rfl ?_)
       obtain rfl:=osi hq43
       exact au ((),(v21,v23,v24,v25,v26,v27)) (dK rfl (dK rfl (dK rfl (mI rfl)))) (bv (aR aZ) (bv (aR aZ) (bv (aR aZ) bD))) rfl
      refine ag ?_
      refine eo hq43 fun x47 hx47 hq43=>aD [0,1,1] ((rg 33 7)++[32,40,41]) [(13,pI x47.1),(14,pI x47.2)] (bz 6 (nI hx47) bA) (by kernel_rfl) (cH (ah [42] [(43,pB (x47.2 != 0))] (by kernel_rfl) (bZ rfl hq43 (fun hc48 hq43=>?_) fun hc48 hq43=>?_)))
      ·refine af ?_
       refine ae (aA 2 [(44,.agg [pI 0,pI 0,pI 0,pI 0,pI 0]),(45,pI x47.2)] (by kernel_rfl) (aQ rfl rfl (ak (vs:=[pI 0,pI 0,pI 0,pI 0,pI 0]) rfl rfl rfl rfl rfl (cA (cA cn)) zl5 (aL [(5,pB false),(6,pI x47.2)] (by kernel_rfl) (fB (aw (bt ?_)))))))
       obtain rfl:=osi hq43
       refine bp hb34 (fun ht=>?_);subst ht
       refine aw (o7 (aw (aP ?_)))
       refine bp hb17 (fun ht=>?_);subst ht
       refine aw (bt ?_)
       obtain rfl:=osi h
       exact aM (prv_3 (dh rfl zd rfl) (aK rfl) (aK rfl)) bD ⟨rfl,rfl⟩
      refine ag ?_
      refine bN (aT [3] (rg 46 7) [(53,pB ((!v21)||(decide (x47.1<v27))))] (by kernel_rfl) (bZ rfl hq43 (fun hc49 hq43=>?_) fun hc49 hq43=>?_))
      ·refine af ?_
       refine ae (cq 10 [0,0,1,1] (rg 54 9) [(63,.agg [pI m44.Kind,pI m44.ID,pI p1.quantity,pI p1.value,pI x47.1])] (by kernel_rfl) (aQ rfl rfl (ak (vs:=[pI m44.Kind,pI m44.ID,pI p1.quantity,pI p1.value,pI x47.1]) rfl rfl rfl rfl rfl (cA (cA (cA cn))) zl5 (az (aH (ai [(8,pB true)] (by kernel_rfl) (aj ?_)))))))
       obtain rfl:=osi hq43
       exact au ((),(true,m44.Kind,m44.ID,p1.quantity,p1.value,x47.1)) (dK rfl (dK rfl (dK rfl (mI rfl)))) (bv (aR aZ) (bv (aR aZ) (bv (aR aZ) bD))) rfl
      refine ag ?_
      refine aj ?_
      obtain rfl:=osi hq43
      exact au ((),(v21,v23,v24,v25,v26,v27)) (dK rfl (dK rfl (dK rfl (mI rfl)))) (bv (aR aZ) (bv (aR aZ) (bv (aR aZ) bD))) rfl
     rintro ⟨_,⟨v37,v38,v39,v40,v41,v42⟩⟩ τ hz;(try dsimp only at hz);subst q43;(try dsimp only at hb34);dsimp only [aF]
     refine ah [64] [(24,pI (IntKind.i64.wrap (v22+1)))] (by kernel_rfl) ?_
     exact bm hb34 () (dK rfl (dK rfl (dK rfl (mI rfl)))) mH
    refine ba ?_
    refine aI (aB hb34 (fun ht=>aG rfl ?_))
    exact dM ((),(v21,v23,v24,v25,v26,v27)) (ze rfl) mH ht.symm
   rintro ⟨_,⟨v28,v29,v30,v31,v32,v33⟩⟩ τ ρ1 hsub50 hz;(try dsimp only at hz hsub50);subst q35;(try dsimp only at hb17);dsimp only [aF]
   refine aj (aH (lh hsub50 (ah [65] [(18,pI (IntKind.i64.wrap (v5+1)))] (by kernel_rfl) ?_)))
   exact bm hb17 () (ze rfl) mH
  refine ba ?_
  refine aI (aB hb17 (fun ht=>aG rfl ?_))
  exact au ((),(v4,v6,v7,v8,v9,v10)) (jh rfl) (bv (aR aZ) (bv (aR aZ) bD)) ht.symm
 rintro ⟨_,⟨v11,v12,v13,v14,v15,v16⟩⟩ τ hz;(try dsimp only at hz);subst q18;(try dsimp only at h);dsimp only [aF]
 refine af (ae (fe 2 [1] [(66,.agg [pI v12,pI v13,pI v14,pI v15,pI v16]),(67,pB v11)] (by kernel_rfl) (aQ rfl rfl (ak (vs:=[pI v12,pI v13,pI v14,pI v15,pI v16]) rfl rfl rfl rfl rfl cn zl5 (aL [(5,pB v11),(6,pI 0)] (by kernel_rfl) (dB ?_))))))
 obtain rfl:=osi h
 exact aM (prv_3 (dh rfl eD rfl) (aK rfl) (aK rfl)) bD ⟨rfl,rfl⟩
end SX
namespace SX
open Go
theorem gb {S T:Type} {body:S→Option (S⊕T)} (P:S→Prop) (μ:S→Nat) (Q:T→Prop) (step:∀ s,P s→(∃ s',body s=some (.inl s')∧P s'∧μ s'<μ s)∨∃ t,body s=some (.inr t)∧Q t):∀ (N:Nat) (s:S),P s→μ s<N→∃ t,bk body N s=some t∧Q t:=by
 intro N
 induction N with
 | zero=>intro s _ h;exact absurd h (Nat.not_lt_zero _)
 | succ N ih =>
  intro s hp hm
  rw [gJ]
  rcases step s hp with ⟨s',h1,h2,h3⟩ | ⟨t,h1,h2⟩
  ·rw [h1];exact ih s' h2 (by omega)
  rw [h1];exact ⟨t,rfl,h2⟩
def Y {α:Type} (x:Option α) (P:α→Prop):Prop:=∃ a,x=some a∧P a
section
variable {α β S T:Type} {x y:Option α} {P P':α→Prop} {Q:β→Prop} {f:α→Option β} {a:α} {c:Bool}
theorem Y.bind (h:Y x P) (k:∀ a,P a→Y (f a) Q):Y (x.bind f) Q:=by
 obtain ⟨a,h1,h2⟩:=h;rw [h1];exact k a h2
theorem Y.ret (h:P a):Y (some a) P:=⟨a,rfl,h⟩
theorem Y.mono (h:Y x P) (k:∀ a,P a→P' a):Y x P':=by obtain ⟨a,h1,h2⟩:=h;exact ⟨a,h1,k a h2⟩
theorem Y.cond (h:c=true→Y x P) (k:c=false→Y y P):Y (cond c x y) P:=by cases c;exact k rfl;exact h rfl
theorem Y.eq {r:α} (h:x=some r) (k:Y (f r) Q):Y (x.bind f) Q:=by rw [h];exact k
theorem Y.loop {body:S→Option (S⊕T)} {R:T→Prop} {s:S} (I:S→Prop) (μ:S→Nat) (h0:I s) (hm:μ s≤1267650600228229401496703205000) (step:∀ s,I s→Y (body s) (fun o=>match o with | .inl s'=>I s'∧μ s'<μ s | .inr t=>R t)):Y (bk body FUEL s) R:=by
 obtain ⟨t,h1,h2⟩:=gb (body:=body) I μ R (fun s hs=>by
  obtain ⟨o,k1,k2⟩:=step s hs
  cases o with
  | inl s'=>exact .inl ⟨s',k1,k2⟩
  | inr t=>exact .inr ⟨t,k1,k2⟩) FUEL s h0 (gq hm)
 exact ⟨t,h1,h2⟩
theorem Y.idx {xs:List α} {i:Int} {n:Nat} (h:i=(n:Int)) (hn:n<xs.length) (k:Y (f xs[n]) Q):Y ((idx xs i).bind f) Q:=by subst h;rw [cC hn];exact k
theorem Y.is {v:α} (h:Y x (fun a=>a=v)):x=some v:=by obtain ⟨a,h1,rfl⟩:=h;exact h1
end
theorem wE (a n:Int) (h1:1≤n) (h2:n≤4611686018427387904):∃ r,ia a n=some r∧0≤r∧r<n:=by
 have hl:=Int.tmod_lt_of_pos a (show 0<n by omega)
 have hl2:=Int.tmod_lt_of_pos (-a) (show 0<n by omega)
 rw [Int.neg_tmod] at hl2
 unfold ia nz lb
 rw [if_neg (by omega),cy (by omega) (by omega)]
 exact ⟨_,rfl,Int.tmod_nonneg _ (by omega),Int.tmod_lt_of_pos _ (by omega)⟩
def SOK (p:Zf):Prop:=0≤p.I∧p.I≤p.L.length∧p.L.length≤1000000000000000
theorem bG {p:Zf} (hp:SOK p) (n:Int) (h1:1≤n) (h2:n≤4611686018427387904):∃ r q,ap p n=some (r,q)∧0≤r∧r<n∧SOK q:=by
 obtain ⟨a1,a2,a3⟩:=hp
 unfold ap
 by_cases h:(p.L.length:Int)≤p.I
 ·rw [det h];exact ⟨_,_,rfl,by omega,by omega,a1,a2,a3⟩
 rw [cU h,cy (r:=p.I+1) (by omega) (by omega),cy (by omega) (by omega)]
 simp only [eY]
 have e:idx p.L (p.I+1 - 1)=some (p.L[p.I.toNat]'(by omega)):=by
  unfold idx;rw [if_pos (by omega)]
  have:(p.I+1 - 1).toNat=p.I.toNat:=by omega
  rw [this];exact List.getElem?_eq_getElem _
 rw [bM e]
 obtain ⟨r,h3,h4,h5⟩:=wE (p.L[p.I.toNat]'(by omega)) n h1 h2
 rw [bM h3]
 exact ⟨_,_,rfl,h4,h5,by simp only;omega,by simp only;omega,a3⟩
theorem yA (l:List Int) (n:Int) (h:0≤n) (h2:n≤1000):∃ m,jN l n=some m∧(m.length:Int)≤n:=by
 unfold jN
 by_cases h1:n<(l.length:Int)
 ·rw [det h1]
  have e:sub l 0 n=some ((l.take n.toNat).drop 0):=by unfold sub;rw [if_pos (by omega)];rfl
  simp only [cZ];rw [bM e];exact ⟨_,rfl,by simp;omega⟩
 rw [cU h1];exact ⟨_,rfl,by omega⟩
section
variable {γ:Type} [Inhabited γ]
theorem qp (e:γ→Value) (D:Array γ) (cur:Array Value) (h:D.size≤cur.size):(Sort.putCells e 0 D cur).toList.take D.size=D.toList.map e:=by
 apply List.ext_getElem
 ·simp [Sort.putCells];omega
 intro i h1 h2
 have h3:i<D.size:=by simpa using h2
 simp [Sort.putCells,h3]
theorem tD {e:γ→Value} {w:World} {b:Nat} {D:Array γ} {cur:Array Value} {T:Nat} {fr:Nat×Nat} (h:w.heap[b]?=some (.cells cur T fr)):(Sort.putRow e w b 0 D).heap[b]?=some (.cells (Sort.putCells e 0 D cur) T fr):=by
 simp [Sort.putRow,Sort.mapBlock,Array.getElem?_modify,h,Sort.onCells]
theorem pM {e:γ→Value} {w:World} {b i:Nat} {D:Array γ} (h:i≠b):(Sort.putRow e w b 0 D).heap[i]?=w.heap[i]?:=by
 simp only [Sort.putRow,Sort.mapBlock,Array.getElem?_modify]
 rw [if_neg (fun e=>h e.symm)]
theorem pQ {β:Base} {l:List Res} {κ:Kr} {b n c T sz m:Nat} {css css':List (List Value)} {os:Array Obj} {e:γ→Value} {D:Array γ} (hi:Zi β (Res.row (some ⟨b,0,none⟩) n c T sz css::l) κ) (hF:D.toList.map e=css'.flatten) (hl:css'.length=n) (hw:∀ cs∈css',cs.length=sz) :
    Zi β (Res.row (some ⟨b,0,none⟩) n c T sz css'::l) ⟨Sort.grow (Sort.putRow e (Sort.ahead κ.w m) b 0 D) os,κ.S⟩∧Kle κ ⟨Sort.grow (Sort.putRow e (Sort.ahead κ.w m) b 0 D) os,κ.S⟩:=by
  have ho:=hi.own _ (List.mem_cons_self)
  obtain ⟨h1,h2,h3,h4,h5,cur,h6,h7,h8⟩:=ho
  have hD:D.size=n*sz:=by
    have:=congrArg List.length hF
    rw [List.length_map,dR hw,hl] at this
    simpa using this
  have hle:D.size≤cur.size:=by rw [hD,h7];exact Nat.mul_le_mul_right _ h4
  have t1:=hi.turn (r':=Res.row (some ⟨b,0,none⟩) n c T sz css') (l1:=[]) (b:=b) (w':=Sort.putRow e (Sort.ahead κ.w m) b 0 D) rfl rfl rfl (fun i hne=>pM hne) (by simp [Sort.putRow,Sort.mapBlock,Sort.ahead])
    ⟨h1,hl,hw,h4,h5,_,tD (w:=Sort.ahead κ.w m) h6,by simpa [Sort.putCells] using h7,by rw [← hD,qp e D cur hle,hF]⟩ rfl rfl rfl (by simp [Sort.putRow,Sort.mapBlock,Sort.ahead])
  have hh:=t1.1.own _ (List.mem_cons_self)
  have hb2:b<(Sort.putRow e (Sort.ahead κ.w m) b 0 D).heap.size:=by
    have:=(t1.1.blk _ (List.mem_cons_self) b rfl).1;exact this
  have hold:∀ i,i<(Sort.putRow e (Sort.ahead κ.w m) b 0 D).heap.size→(Sort.grow (Sort.putRow e (Sort.ahead κ.w m) b 0 D) os).heap[i]?=(Sort.putRow e (Sort.ahead κ.w m) b 0 D).heap[i]?:=fun i h=>by
    simp only [Sort.grow];rw [Array.getElem?_append_left h]
  have hh2:(Res.row (some ⟨b,0,none⟩) n c T sz css').holds (Sort.grow (Sort.putRow e (Sort.ahead κ.w m) b 0 D) os):=by
    have:(Sort.grow (Sort.putRow e (Sort.ahead κ.w m) b 0 D) os).heap[b]?=(Sort.putRow e (Sort.ahead κ.w m) b 0 D).heap[b]?:=hold b hb2
    unfold Res.holds at hh ⊢
    show (Res.row (some ⟨b,0,none⟩) n c T sz css').says (Sort.grow (Sort.putRow e (Sort.ahead κ.w m) b 0 D) os).heap[b]?
    rw [this];exact hh
  obtain ⟨i3,k3⟩:=t1.1.grow (r':=Res.row (some ⟨b,0,none⟩) n c T sz css') (w':=Sort.grow (Sort.putRow e (Sort.ahead κ.w m) b 0 D) os) ⟨rfl,rfl,rfl,by simp [Sort.grow],fun i h _=>hold i h⟩ (.inr (.inl rfl)) hh2 (xA hh2) (Nat.le_refl _)
  exact ⟨i3,t1.2.trans k3⟩
end
theorem wF {α:Type} {lt:α→α→Bool} (l:List α):(jq lt l).length=l.length:=gK.length_eq
theorem le_grow {κ κ':Kr} (h:Le [] κ κ'):∃ q os',κ'.w=Sort.grow (κ.w.drewN q) os':=by
 refine ⟨κ'.w.drawn - κ.w.drawn,κ'.w.heap.extract κ.w.heap.size κ'.w.heap.size,?_⟩
 have hz:=h.kle.size
 have hd:=h.drawn rfl
 have e1:κ'.w.heap=κ.w.heap++κ'.w.heap.extract κ.w.heap.size κ'.w.heap.size:=by
  apply Array.ext_getElem?
  intro i
  rcases Nat.lt_or_ge i κ.w.heap.size with hi | hi
  ·rw [Array.getElem?_append_left hi];exact h.same i hi (by simp)
  rw [Array.getElem?_append_right hi,Array.getElem?_extract]
  split
  ·congr 1;omega
  rw [Array.getElem?_eq_none (by omega)]
 cases hw:κ'.w with
 | mk heap tape drawn os output =>
  have h2:=h.tape;have h3:=h.os;have h4:=h.output
  rw [hw] at e1 h2 h3 h4 hd
  simp only at e1 h2 h3 h4 hd
  simp only [Sort.grow,World.drewN]
  subst h2 h3 h4
  rw [← e1]
  congr 1;omega
theorem qL {γ:Type} [Inhabited γ] (enc:γ→List Value) (k:Nat) (hk:∀ x,(enc x).length=k):∀ L:List γ,(List.range (L.length*k)).map (fun t=>(enc L[t / k]!)[t % k]!)=(L.map enc).flatten
 | []=>by simp
 | x::xs=>by
  have ih:=qL enc k hk xs
  rcases Nat.eq_zero_or_pos k with h0 | h0
  ·subst h0
   have:∀ M:List γ,(M.map enc).flatten=[]:=fun M=>by
    rw [List.flatten_eq_nil_iff];intro l hl;obtain ⟨y,_,rfl⟩:=List.mem_map.1 hl;exact List.eq_nil_of_length_eq_zero (hk y)
   rw [this];simp
  rw [List.length_cons,Nat.add_mul,Nat.one_mul,Nat.add_comm,List.range_add,List.map_append,List.map_cons,List.flatten_cons,← ih,List.map_map]
  congr 1
  ·apply List.ext_getElem
   ·simp [hk]
   intro i h1 h2
   have hi:i<k:=by simpa using h1
   simp [Nat.div_eq_of_lt hi,Nat.mod_eq_of_lt hi,getElem!_pos,h2]
  apply List.map_congr_left
  intro t _
  simp only [Function.comp,Nat.add_div_left _ h0,Nat.add_mod_left]
  rfl
theorem pR {γ:Type} [Inhabited γ] (enc:γ→List Value) (k:Nat) (hk:∀ x,(enc x).length=k) (d:Array γ):(Sort.flatK enc k d).toList.map id=(d.toList.map enc).flatten:=by
 rw [List.map_id,← qL enc k hk]
 simp only [Sort.flatK,Array.toList_map,Array.toList_range,Array.length_toList]
 apply List.map_congr_left
 intro t _
 congr 2
 simp [getElem!_def]
section
variable {α:Type} {enc:α→List PV} {encV:α→List Value}
theorem tE {κ:Kr} (hinv:∀ x ds,Rps κ (enc x) ds→ds=encV x):∀ {xs:List α} {dss:List (List Value)},Rpss κ (xs.map enc) dss→dss=xs.map encV
 | [],_,h=>h.nil_inv
 | x::xs,_,h=>by
  obtain ⟨d,ds,rfl,h1,h2⟩:=h.cons_inv
  rw [tE hinv h2,hinv _ _ h1];rfl
theorem n8 {κ:Kr} (hmk:∀ x,Rps κ (enc x) (encV x)):∀ {xs:List α},Rpss κ (xs.map enc) (xs.map encV)
 | []=>.nil
 | x::xs=>.cons (hmk x) (n8 hmk)
theorem callSF [Inhabited α] {f g T k:Nat} {ρs:Shelf.Ren} (L:SlLaysF0.n6 Tryz.prog ρs) (hf:ρs.f 6=f) (fOk:FnOk f) (gOk:FnOk g) (aE:∀ w,(isAgg (ρs.t 24)).run Tryz.prog w=.ok true w) (zE:∀ w,(Go.sizeOf (ρs.t 24)).run Tryz.prog w=.ok k w)
    (hk:∀ x,(encV x).length=k) (h1:∀ x,∀ v∈encV x,v.oneCell'=true) (hinv:∀ κ x ds,Rps κ (enc x) ds→ds=encV x) (hmk:∀ κ x,Rps κ (enc x) (encV x)) (cf:α→α→Int) (hO:Sort.SWO (ltOf cf)) (hT:∀ x y,ltOf cf x y=false→ltOf cf y x=false→x=y)
    (hcmp:∀ x y,PF g [.agg (enc x),.agg (enc y)] (pI (cf x y))) {p0:List α} {a:Option Addr} {n c:Nat}:PCall f [.v (.slice a n c),.fn g []] [PRes.row a n c T k (List.map enc p0)] (fun pv ρ'=>pv=.tup []∧ρ'=[PRes.row a n c T k (List.map enc (jq (ltOf cf) p0))]):=fun κ args ρ gk ha hr=>by
  subst hf
  obtain ⟨v,ws,rfl,ha1,ha2⟩:=ha.cons_inv
  obtain ⟨v2,ws2,rfl,ha3,ha4⟩:=ha2.cons_inv
  rw [ha4.nil_inv,ha1.val]
  have hv2:v2=.func (.func g) #[] #[]:=by
    cases ha3 with
    | fn h=>rw [h.nil_inv]
  subst hv2
  obtain ⟨r0,l',rfl,hr1,hr2⟩:=hr.cons_inv
  have:=hr2.nil_inv;subst this
  refine ⟨fOk,fun hi=>?_⟩
  have hn1:∀ l:List α,∀ cs∈l.map encV,cs.length=k:=fun l cs hcs=>by obtain ⟨q,_,rfl⟩:=List.mem_map.1 hcs;exact hk q
  cases hr1 with
  | row hb ho hc =>
    have hd:=tE (hinv κ) hc;subst hd
    have how:=hi.own _ (List.mem_cons_self)
    cases a with
    | none =>
      obtain ⟨rfl,rfl,h3⟩:=how
      have hp:p0=[]:=List.map_eq_nil_iff.1 h3
      subst hp
      refine (AnyF.slices_SortFunc_none L none 0 _ κ.w).mono fun e w' ⟨h1,h2⟩=>?_
      subst h1 h2
      exact ⟨_,_,κ,rfl,rfl,hi,.tup [],_,.tup .nil,.cons (.row hb ho (by exact .nil)) .nil,rfl,rfl⟩
    | some ad =>
      obtain ⟨q1,h2,h3,h4,h5,cur,h6,h7,h8⟩:=how
      obtain ⟨b,off,sp⟩:=ad
      injection q1 with h1a h1b h1c
      subst h1b h1c
      have hblk:b<κ.w.heap.size:=(hi.blk _ (List.mem_cons_self) b rfl).1
      have hn:n=p0.toArray.size:=by rw [← h2];simp
      have hz:(Sort.flatK encV k p0.toArray).size=n*k:=by rw [Sort.size_flatK,← hn]
      have hft:(Sort.flatK encV k p0.toArray).toList=cur.toList.take (n*k):=by
        rw [h8,← pR encV k hk,List.map_id]
      have hH:Sort.HoldsK encV k κ.w b 0 p0.toArray:=by
        intro j hj
        have hj2:j<n*k:=by rw [← hz];exact hj
        have hj3:(Sort.flatK encV k p0.toArray)[j]?=cur[j]?:=by
          rw [← Array.getElem?_toList,hft,List.getElem?_take,if_pos hj2,Array.getElem?_toList]
        constructor
        · simp only [World.cell?,h6,Option.isSome_none,Bool.false_eq_true,if_false,Nat.zero_add]
          rw [← hj3,Array.getElem?_eq_getElem hj,getElem!_pos _ j hj];rfl
        simp [World.frozen?,h6]
      have hcl:CmpLays Tryz.prog g #[] encV k cf b 0 p0.toArray.size κ.w:=fun m os dk hs x y=>by
        obtain ⟨i1,k1⟩:=pQ (m:=m) (os:=os) (e:=id) (D:=Sort.flatK encV k dk) (css':=dk.toList.map encV) hi (pR encV k hk dk) (by rw [List.length_map,Array.length_toList,hs,hn]) (hn1 _)
        have hc2:=hcmp x y ⟨_,κ.S⟩ [.agg (encV x).toArray,.agg (encV y).toArray] (gk.mono k1) (.cons (.agg (h1 x) (hmk _ x)) (.cons (.agg (h1 y) (hmk _ y)) .nil))
        refine (hc2.2 ⟨Le.refl _ _,i1.fin,by simp,by simp,List.Pairwise.nil⟩).mono fun e w' ⟨v,ρ',κ',g1,g2,g3,g4⟩=>?_
        obtain ⟨q,os',hq⟩:=le_grow g3.le
        subst g1 g2
        exact ⟨by rw [g4.2.val],q,os',hq⟩
      rw [hn]
      refine (AnyQ.slices_SortFunc_total L k aE zE encV hk h1 cf hO g #[] b 0 c p0.toArray κ.w (fun args w=>iD gOk args w) hcl hH hblk (by rw [← hn];unfold maxLen at h5;omega) hT).mono fun e w' ⟨k1,m,os,k2⟩=>?_
      have hso:(p0.toArray.toList.mergeSort fun x y => !(ltOf cf) y x)=jq (ltOf cf) p0:=by
        refine n5 (lt:=ltOf cf) hT ?_ (mQ hO.trans hO.ntrans hO.irrefl p0) ((List.mergeSort_perm _ _).trans gK.symm)
        have h:=List.pairwise_mergeSort (le:=fun x y:α => !(ltOf cf) y x) (fun a b c h1 h2=>by
          simp only [Bool.not_eq_true'] at h1 h2 ⊢;exact hO.ntrans _ _ _ h2 h1) (fun a b=>by
          cases e1:ltOf cf b a
          · simp
          cases e2:ltOf cf a b
          · simp
          have:=hO.trans _ _ _ e1 e2;rw [hO.irrefl] at this;cases this) p0
        exact h.imp fun {a b} hab=>by simpa using hab
      rw [hso] at k2
      subst k1 k2
      obtain ⟨i1,i2⟩:=pQ (m:=m) (os:=os) (e:=id) (css':=(jq (ltOf cf) p0).map encV) (D:=Sort.flatK encV k (jq (ltOf cf) p0).toArray) hi (pR encV k hk _) (by rw [List.length_map,wF];rw [← h2];simp) (hn1 _)
      exact ⟨_,_,⟨_,κ.S⟩,rfl,rfl,i1,.tup [],_,.tup .nil,.cons (.row hb (by intro cs hcs;obtain ⟨q,_,rfl⟩:=List.mem_map.1 hcs;exact h1 q) (n8 (hmk _))) .nil,rfl,by rw [← hn]⟩
end
end SX
end Go.Proofs.YtknkknahmebbfaaGreatDoor
namespace Go.Proofs
open Go.Shelf
def Tryz.lSA_ren:Go.Shelf.Ren:=⟨fun | 6=>22 | 15=>45 | 14=>44 | 28=>65 | 29=>66 | 20=>57 | 21=>58 | 22=>59 | 23=>60 | 24=>61 | 25=>62 | 26=>63 | 27=>64 | 46=>78 | 47=>79 | 48=>80 | 49=>81 | 50=>82 | 57=>99 | n=>n,fun | 22=>61 | 24=>67 | 25=>71 | 3=>3 | 39=>100 | 0=>0 | 53=>123 | 55=>78 | 4=>4 | 46=>117 | 45=>116 | 50=>97 | 5=>5 | 9=>9 | 66=>130 | 70=>134 | 76=>158 | 77=>159 | n=>n,fun | n=>n⟩
theorem Tryz.lSA:Go.Proofs.SlLaysF0.n6 Tryz.prog Tryz.lSA_ren:={
 mixed:=by kernel_rfl
 f6:=⟨Tryz.f22.name,by decide,Tryz.func22.trans (congrArg some (by kernel_rfl))⟩
 f14:=⟨Tryz.f44.name,by decide,Tryz.func44.trans (congrArg some (by kernel_rfl))⟩
 f15:=Tryz.func45.trans (congrArg some (by kernel_rfl))
 f20:=⟨Tryz.f57.name,by decide,Tryz.func57.trans (congrArg some (by kernel_rfl))⟩
 f21:=⟨Tryz.f58.name,by decide,Tryz.func58.trans (congrArg some (by kernel_rfl))⟩
 f22:=⟨Tryz.f59.name,by decide,Tryz.func59.trans (congrArg some (by kernel_rfl))⟩
 f23:=⟨Tryz.f60.name,by decide,Tryz.func60.trans (congrArg some (by kernel_rfl))⟩
 f24:=⟨Tryz.f61.name,by decide,Tryz.func61.trans (congrArg some (by kernel_rfl))⟩
 f25:=⟨Tryz.f62.name,by decide,Tryz.func62.trans (congrArg some (by kernel_rfl))⟩
 f26:=⟨Tryz.f63.name,by decide,Tryz.func63.trans (congrArg some (by kernel_rfl))⟩
 f27:=⟨Tryz.f64.name,by decide,Tryz.func64.trans (congrArg some (by kernel_rfl))⟩
 f28:=Tryz.func65.trans (congrArg some (by kernel_rfl))
 f29:=Tryz.func66.trans (congrArg some (by kernel_rfl))
 f46:=⟨Tryz.f78.name,by decide,Tryz.func78.trans (congrArg some (by kernel_rfl))⟩
 f47:=Tryz.func79.trans (congrArg some (by kernel_rfl))
 f48:=Tryz.func80.trans (congrArg some (by kernel_rfl))
 f49:=⟨Tryz.f81.name,by decide,Tryz.func81.trans (congrArg some (by kernel_rfl))⟩
 f50:=⟨Tryz.f82.name,by decide,Tryz.func82.trans (congrArg some (by kernel_rfl))⟩
 f57:=⟨Tryz.f99.name,by decide,Tryz.func99.trans (congrArg some (by kernel_rfl))⟩
 t0:=Tryz.underlying0
 a0:=Tryz.isAgg0
 z0:=Tryz.sizeOf0
 v0:=Tryz.zeroValue0
 t3:=Tryz.underlying3
 a3:=Tryz.isAgg3
 z3:=Tryz.sizeOf3
 v3:=Tryz.zeroValue3
 t4:=Tryz.underlying4
 a4:=Tryz.isAgg4
 z4:=Tryz.sizeOf4
 v4:=Tryz.zeroValue4
 t5:=Tryz.underlying5
 a5:=Tryz.isAgg5
 z5:=Tryz.sizeOf5
 v5:=Tryz.zeroValue5
 t9:=Tryz.underlying9
 a9:=Tryz.isAgg9
 z9:=Tryz.sizeOf9
 v9:=Tryz.zeroValue9
 t22:=Tryz.underlying61
 a22:=Tryz.isAgg61
 z22:=Tryz.sizeOf61
 v22:=Tryz.zeroValue61
 t25:=Tryz.underlying71
 a25:=Tryz.isAgg71
 z25:=Tryz.sizeOf71
 v25:=Tryz.zeroValue71
 t39:=Tryz.underlying100
 a39:=Tryz.isAgg100
 z39:=Tryz.sizeOf100
 v39:=Tryz.zeroValue100
 t45:=Tryz.underlying116
 a45:=Tryz.isAgg116
 z45:=Tryz.sizeOf116
 v45:=Tryz.zeroValue116
 t46:=Tryz.underlying117
 a46:=Tryz.isAgg117
 z46:=Tryz.sizeOf117
 v46:=Tryz.zeroValue117
 t50:=Tryz.underlying97
 a50:=Tryz.isAgg97
 z50:=Tryz.sizeOf97
 v50:=Tryz.zeroValue97
 t53:=Tryz.underlying123
 a53:=Tryz.isAgg123
 z53:=Tryz.sizeOf123
 v53:=Tryz.zeroValue123
 t55:=Tryz.underlying78
 a55:=Tryz.isAgg78
 z55:=Tryz.sizeOf78
 v55:=Tryz.zeroValue78
 t66:=Tryz.underlying130
 a66:=Tryz.isAgg130
 z66:=Tryz.sizeOf130
 v66:=Tryz.zeroValue130
 t70:=Tryz.underlying134
 a70:=Tryz.isAgg134
 z70:=Tryz.sizeOf134
 v70:=Tryz.zeroValue134
 t76:=Tryz.underlying158
 a76:=Tryz.isAgg158
 z76:=Tryz.sizeOf158
 v76:=Tryz.zeroValue158
 t77:=Tryz.underlying159
 a77:=Tryz.isAgg159
 z77:=Tryz.sizeOf159
 v77:=Tryz.zeroValue159 }
end Go.Proofs
namespace Go.Proofs.YtknkknahmebbfaaGreatDoor
namespace SX
open Go
theorem cmpI (a b:Int):dr a b=some (if a<b then -1 else if b<a then 1 else 0):=by
 unfold dr fH
 simp only [bne_self_eq_false,ft,eY]
 by_cases h:a<b
 ·rw [det h,if_pos h];rfl
 rw [cU h,if_neg h]
 by_cases h2:b<a
 ·rw [det h2,if_pos h2];rfl
 rw [cU h2,if_neg h2];rfl
theorem cmpOr2 (a b:Int):i7 [a,b]=some (if a=0 then b else a):=by
 unfold i7
 refine (qK (l:=[a,b]) (by simp) (fun _ x=>cond (x != 0) (some (.inr x)) none) (.inl ()) (fun k hk=>?_) (by rw [nD];rfl)).trans ?_
 ·rw [wD hk,cZ,bM (cC hk),jJ hk (by simp)]
  cases ([a,b][k] != 0) <;> rfl
 rw [pH (fun x:Int=>x != 0) (fun x=>(Sum.inr x:Unit⊕Int))]
 by_cases ha:a=0
 ·subst ha
  by_cases hb:b=0
  ·subst hb;rfl
  simp [hb]
 simp [ha]
def bF (x y:Zb):Bool:=decide (x.kind<y.kind)||(decide (x.kind=y.kind)&&decide (x.measure<y.measure))
def tF (x y:Zb):Int:=if (if x.kind<y.kind then (-1:Int) else if y.kind<x.kind then 1 else 0)=0 then (if x.measure<y.measure then -1 else if y.measure<x.measure then 1 else 0) else (if x.kind<y.kind then -1 else if y.kind<x.kind then 1 else 0)
theorem pT:ltOf tF=bF:=by
 funext x y
 unfold ltOf tF bF
 rcases Int.lt_trichotomy x.kind y.kind with h | h | h
 ·rw [if_pos h];simp [h]
 ·simp only [h,Int.lt_irrefl,if_false,if_true,decide_false,decide_true,Bool.false_or,Bool.true_and]
  rcases Int.lt_trichotomy x.measure y.measure with h2 | h2 | h2
  ·rw [if_pos h2];simp [h2]
  ·simp [h2]
  rw [if_neg (by omega),if_pos h2];simp;omega
 have h1:¬ x.kind<y.kind:=by omega
 have h3:¬ x.kind=y.kind:=by omega
 simp [h,h1,h3]
theorem cmpAcc (x y:Zb):ea x y=some (tF x y):=by
 unfold ea tF
 rw [cmpI,cmpI]
 simp only [ft,cmpOr2]
theorem qM (x y:Zb):bF x y=true↔x.kind<y.kind∨(x.kind=y.kind∧x.measure<y.measure):=by simp [bF]
theorem nJ (x y:Zb):bF x y=false↔¬ (x.kind<y.kind∨(x.kind=y.kind∧x.measure<y.measure)):=by rw [← qM];simp
theorem gc (x:Zb):bF x x=false:=by rw [nJ];omega
theorem jc (x y z:Zb):bF x y=true→bF y z=true→bF x z=true:=by simp only [qM];omega
theorem wG (x y z:Zb):bF x y=false→bF y z=false→bF x z=false:=by simp only [nJ];omega
theorem lu (x y:Zb):bF x y=false→bF y x=false→x=y:=by
 simp only [nJ];intro h1 h2
 cases x;cases y;simp at h1 h2 ⊢;omega
def vB (l:List Zb):Option (List Zb):=some (jq bF l)
theorem uU {p0 r:List Zb} (h:vB p0=some r) {a:Option Addr} {n c:Nat}:PCall 22 [.v (.slice a n c),.fn 23 []] [PRes.row a n c 67 2 (List.map Zb.enc p0)] (fun pv ρ'=>pv=.tup []∧ρ'=[PRes.row a n c 67 2 (List.map Zb.enc r)]):=by
 obtain rfl:=Option.some.inj h
 rw [← pT]
 exact callSF Tryz.lSA rfl (fnk Tryz.func22 rfl) (fnk Tryz.func23 rfl) Tryz.isAgg67 Tryz.sizeOf67 (encV:=fun x=>[.int .i64 x.kind,.int .i64 x.measure]) (fun _=>rfl)
  (fun x v hv=>by simp at hv;rcases hv with rfl | rfl <;> rfl) (fun κ x ds h=>by
   obtain ⟨v,ws,rfl,h1,h2⟩:=h.cons_inv
   obtain ⟨v2,ws2,rfl,h3,h4⟩:=h2.cons_inv
   rw [h1.val,h3.val,h4.nil_inv]) (fun κ x=>.cons (.v rfl) (.cons (.v rfl) .nil)) tF
  (by rw [pT];exact ⟨gc,jc,wG⟩) (by rw [pT];exact lu) (fun x y=>kh (cmpAcc x y))
abbrev bl (s:ByteArray):List UInt8:=s.data.toList
theorem bl_hi (s:ByteArray) (k:Nat):bl (s.extract 0 k)=(bl s).take k:=by simp [bl]
theorem bl_lo (s:ByteArray) (k:Nat):bl (s.extract k s.size)=(bl s).drop k:=by
  simp only [bl,ByteArray.data_extract,Array.toList_extract,List.extract_eq_take_drop]
  rw [List.take_of_length_le];simp
theorem iK (s:ByteArray):s.size=(bl s).length:=by simp [bl]
theorem bl_inj {s u:ByteArray} (h:bl s=bl u):s=u:=by
  obtain ⟨⟨x⟩⟩:=s;obtain ⟨⟨y⟩⟩:=u;simp [bl] at h;subst h;rfl
def gB (n:Nat):Bool:=decide (48≤n∧n≤57)
def dG (p:Nat→Bool):List Value:=(List.range 256).map fun i=>.bool (p i)
theorem dz (p:Nat→Bool):(dG p).length=256:=by simp [dG]
theorem iM (p:Nat→Bool) {j:Nat} (h:j<256):(dG p)[j]?=some (.bool (p j)):=by simp [dG,h]
theorem rW (p q:Nat→Bool) {j:Nat} (h:∀ i,q i=(decide (i=j)||p i)):(dG p).set j (.bool true)=dG q:=by
  apply List.ext_getElem?
  intro i
  rw [List.getElem?_set]
  simp only [dz]
  rcases Nat.lt_or_ge i 256 with hi | hi
  · rw [iM q hi,iM p hi,h i]
    by_cases e:j=i
    · subst e;simp [hi]
    · rw [if_neg e];simp [show ¬ i=j from fun h=>e h.symm]
  · rw [List.getElem?_eq_none (by rw [dz];exact hi),List.getElem?_eq_none (by rw [dz];exact hi)]
    split
    · rw [if_neg (by omega)]
    · rfl
section
variable {o:Oper} {σ:Env} {ρ:List Res} {κ:Kr} {c:Bool} {x y:Operand} {K:Value→List Res→Kr→Prop}
theorem Sh.at1 {b k:Nat} {cs:List Value} {v:Value} (h:Sh κ b 0 cs) (hv:cs[k]?=some v):Sh κ b (0+k*1) [v]:=⟨h.1,fun j u hu=>by
  cases j with
  | zero=>simp at hu;subst hu;have:=h.2 k v hv;simpa using this
  | succ j=>simp at hu⟩
theorem tG {t b T sz by':Nat} {cs:List Value} {z:Value} {d:TypeDesc} (ho:o.op=.load t x) (hx:Ev σ c x (.pointer (some ⟨b,0,none⟩))) (hm:Res.b b T cs∈ρ) (hd:dv t=some d) (ha:ij d=true) (hi:dU t=some (z,sz,by')) (hl:cs.length=sz):OpQ c o σ ρ κ (.agg cs.toArray):=by
  refine qu ho hx hm ?_
  unfold gi
  simp only [hd,hi,ha,cond_true,List.drop_zero]
  rw [Nat.ble_eq_true_of_le (by omega)]
  simp [← hl]
end
attribute [local irreducible] WL WC WD OpL OpQ OpG Ev GuardIs um ii xr Call CallP midK o5 Holds oL Sub Pick WS Step Lit Upd SetAt SpliceAt FillR Sh LateRun
theorem n9 (κ:Kr) (b:Nat) (p:Nat→Bool) (m:Int) (hs:Sh κ b 0 (dG p)) (h0:0≤m) (h1:m≤255):CallP 117 [.pointer (some ⟨b,0,none⟩),.int .u8 m] κ fun v _=>v=.bool (p m.toNat):=by
  (unfold CallP;apply j5 Tryz.func117 (fnk Tryz.func117 rfl) rfl Tryz.ntmps117 Tryz.results117 rfl)
  repeat (first | (first | (apply db rfl rfl rfl;(focus (first | exact bw (v:=(.int _ _)) rfl (.p rfl) | exact bw (v:=(.pointer _)) rfl (.p rfl) | exact bJ (v:=(.bool _)) rfl (.p rfl) | exact kD rfl (.p rfl)))) | apply cz) | (first | apply cK | apply bh | apply cJ))
  apply db rfl rfl rfl (qB (j:=m.toNat) rfl rfl rfl (.p rfl) (.p rfl) (fun _=>by omega) (fun _=>by omega))
  apply db rfl rfl rfl (nm rfl (.p rfl) (fun _=>(hs.mono (by (repeat (exact Kle.refl _)))).at1 (iM p (by omega))) rfl)
  repeat (first | (first | (apply db rfl rfl rfl;(focus (exact bJ (v:=(.bool _)) rfl (.p rfl)))) | apply cz) | (first | apply cJ | apply iU))
  exact jx (rl (v:=.bool _) rfl) .none ⟨rfl,rfl⟩
def fI:ByteArray:=⟨#[48,49,50,51,52,53,54,55,56,57]⟩
theorem rX:∀ {k:Nat},k<10→((fI.data.toList.getD k 0).toNat:Int)=48+(k:Int):=by decide
theorem yB (κ:Kr):CallP 102 [.string fI] κ fun v _=>v=.tuple #[.agg (dG gB).toArray,.bool true]:=by
  (unfold CallP;apply j5 Tryz.func102 (fnk Tryz.func102 rfl) rfl Tryz.ntmps102 Tryz.results102 rfl)
  repeat (first | (first | (apply db rfl rfl rfl;(focus (first | exact bJ (v:=(.int _ _)) rfl (.p rfl) | exact bJ (v:=(.bool _)) rfl (.p rfl)))) | (apply sq rfl rfl rfl;apply qv rfl rfl;intro _ _ _) | apply cz) | (first | apply cK | apply bh | apply gh | apply cJ))
  rename_i b2 κ1 _
  have e0:List.replicate 256 (Value.bool false)=dG (fun i=>decide (48≤i∧i<48+0)):=by
    apply List.ext_getElem?
    intro i
    rcases Nat.lt_or_ge i 256 with hi | hi
    · rw [iM _ hi,List.getElem?_replicate,if_pos hi];congr 2;symm;rw [decide_eq_false_iff_not];omega
    · rw [List.getElem?_eq_none (by simpa using hi),List.getElem?_eq_none (by rw [dz];exact hi)]
  rw [e0]
  refine my (X:=Nat) (fun k=>[(0,.string fI),(2,.pointer (some ⟨b2,0,none⟩)),(4,.int .i64 (k:Int))]) (fun k=>[Res.b b2 163 (dG fun i=>decide (48≤i∧i<48+k))]) (fun k _=>k≤10) (fun k=>10 - k) 0 (by (repeat (first | exact Holds.nil | apply Holds.cons rfl))) (by (repeat (first | exact Sub.nil | (apply Sub.cons;(focus (repeat (exact Pick.h))))))) (by omega) ?_
  intro k τ κ2 _ hk
  simp only [oL]
  repeat (first | (first | (apply db rfl rfl rfl;(focus (first | exact bw (v:=(.int _ _)) rfl (.p rfl) | exact bw (v:=(.string _)) rfl (.p rfl) | exact jY rfl (.p rfl) (.p rfl) rfl | exact jl rfl rfl (.p rfl)))) | apply cz) | (first | apply cK | apply bh | apply cJ))
  apply rm rfl <;> intro hc
  · have hk10:k<10:=by
      have e:(fI.size:Int)=10:=rfl
      rw [e] at hc;omega
    repeat (first | (apply db rfl rfl rfl;(focus (first | exact bw (v:=(.int _ _)) rfl (.p rfl) | exact bw (v:=(.string _)) rfl (.p rfl)))) | (first | apply cK | apply bh | apply gh | apply cJ | apply gg))
    apply db rfl rfl rfl (jE (s:=fI) (j:=k) rfl rfl (.p rfl) (.p rfl) (fun _=>rfl) (fun _=>hk10))
    rw [rX hk10]
    repeat (first | (first | (apply db rfl rfl rfl;(focus (first | exact bw (v:=(.int _ _)) rfl (.p rfl) | exact bJ (v:=(.int _ _)) rfl (.p rfl) | exact jY rfl (.p rfl) (.p rfl) rfl))) | apply cz) | (first | apply cK | apply bh | apply cJ))
    apply xi (by have:¬ (128:Int)≤48+(k:Int):=by omega
                 simp [ev,upd,this])
    repeat (first | (apply db rfl rfl rfl;(focus (exact bw (v:=(.int _ _)) rfl (.p rfl)))) | (first | apply bh | apply cJ | apply gg))
    apply db rfl rfl rfl (qB (j:=48+k) rfl rfl rfl (.p rfl) (.p rfl) (fun _=>by omega) (fun _=>by omega))
    apply vg rfl rfl
    apply wj (v:=.bool true) rfl rfl rfl rfl rfl rfl (by (repeat (exact Upd.h))) (by rw [dz];omega)
    intro κ3 _
    have e1:(dG fun i=>decide (48≤i∧i<48+k)).set (0+(48+k)*1) (.bool true)=dG fun i=>decide (48≤i∧i<48+(k+1)) :=
      rW _ _ fun i=>by rw [Bool.eq_iff_iff];simp;omega
    rw [e1]
    repeat (first | (first | (apply db rfl rfl rfl;(focus (first | exact bw (v:=(.int _ _)) rfl (.p rfl) | exact bJ (v:=(.int _ _)) rfl (.p rfl) | exact jZ rfl (.p rfl) (.p rfl) rfl (fun _=>by omega)))) | apply cz) | (first | apply bh | apply cJ | apply lg))
    exact rk (k+1) (by (repeat (first | exact Holds.nil | apply Holds.cons rfl))) (by (repeat (first | exact Sub.nil | (apply Sub.cons;(focus (repeat (exact Pick.h))))))) (by omega) (by omega)
  · have hk10:k=10:=by
      have e:(fI.size:Int)=10:=rfl
      rw [e] at hc;omega
    subst hk10
    have e2:(fun i=>decide (48≤i∧i<48+10))=gB:=by funext i;simp only [gB];rw [Bool.eq_iff_iff];simp;omega
    rw [e2]
    apply jX;apply gG;apply fU;apply gH rfl;apply cJ;apply cK;apply bh
    apply db rfl rfl rfl (tG rfl (.p rfl) (by (repeat (exact List.Mem.head _))) rfl rfl rfl (dz _))
    apply vg rfl rfl
    apply qw rfl rfl rfl rfl (dz _) (by simp [dG,Value.oneCell']) (by (repeat (exact Upd.h))) rfl
    intro κ3 _
    repeat (first | (first | (apply db rfl rfl rfl;(focus (exact bJ (v:=(.bool _)) rfl (.p rfl)))) | apply cz) | (first | apply cJ | apply iU))
    refine jx (rv_2 (RV1.cell rfl (by (repeat (exact List.Mem.head _))) ?_) (rv1_t (v:=.bool _) rfl)) .none ⟨rfl,rfl⟩
    unfold gi
    simp only [show dv 163=some (.array 256 4) from rfl,show dU 163=some (.agg (List.replicate 256 (.bool false)).toArray,256,256) from rfl,ij,cond_true,List.drop_zero,dz]
    rw [List.take_of_length_le (by rw [dz];omega)];rfl
theorem oF {l:List UInt8} {j:Nat} (h:j<l.length):l.getD j 0=l[j]:=by simp [List.getD_eq_getElem?_getD,h]
theorem rY (κ:Kr) (b:Nat) (s:ByteArray) (hs:Sh κ b 0 (dG gB)) (hz:s.size≤1000000000):CallP 104 [.string s,.pointer (some ⟨b,0,none⟩)] κ fun v _=>∃ u k,v=.string u∧bl u=(bl s).take k∧k≤(bl s).length∧(∀ c∈(bl s).drop k,gB c.toNat=true)∧(∀ c,(bl u).getLast?=some c→gB c.toNat=false):=by
  (unfold CallP;apply j5 Tryz.func104 (fnk Tryz.func104 rfl) rfl Tryz.ntmps104 Tryz.results104 rfl)
  repeat (first | (first | (apply db rfl rfl rfl;(focus (exact bJ (v:=(.string _)) rfl (.p rfl)))) | apply cz) | (first | apply cK | apply bh | apply gh | apply cJ))
  refine my (X:=ByteArray×Nat) (fun z=>[(0,.string z.1),(1,.pointer (some ⟨b,0,none⟩))]) (fun _=>[]) (fun z _=>bl z.1=(bl s).take z.2∧z.2≤(bl s).length∧∀ c∈(bl s).drop z.2,gB c.toNat=true) (fun z=>z.2) (s,(bl s).length) (by (repeat (first | exact Holds.nil | apply Holds.cons rfl))) (by (repeat (exact Sub.nil))) ⟨(List.take_length).symm,Nat.le_refl _,by rw [List.drop_length];simp⟩ ?_
  rw [iK] at hz
  rintro ⟨u,k⟩ τ κ2 _ ⟨h1,h2,h3⟩
  dsimp only at h1 h2 h3
  have hsz:u.size=k:=by rw [iK,h1,List.length_take];omega
  simp only [oL]
  repeat (first | (first | (apply db rfl rfl rfl;(focus (first | exact bw (v:=(.string _)) rfl (.p rfl) | exact jY rfl (.p rfl) (.p rfl) rfl | exact jl rfl rfl (.p rfl)))) | apply cz) | (first | apply cK | apply bh | apply cJ))
  apply rm rfl <;> intro hc
  · have hk0:0<k:=by omega
    repeat (first | (apply db rfl rfl rfl;(focus (first | exact bw (v:=(.pointer _)) rfl (.p rfl) | exact bw (v:=(.string _)) rfl (.p rfl) | exact jZ rfl (.p rfl) (.p rfl) rfl (fun _=>by omega) | exact jl rfl rfl (.p rfl)))) | (first | apply cK | apply bh | apply gh | apply cJ | apply gg))
    apply db rfl rfl rfl (jE (j:=k - 1) rfl rfl (.p rfl) (.p rfl) (fun _=>by omega) (fun _=>by omega))
    have hlast:(bl u).getLast?=some ((bl u).getD (k - 1) 0):=by
      rw [List.getLast?_eq_getElem?,← iK,hsz,oF (by rw [← iK];omega),List.getElem?_eq_getElem]
    apply sq rfl rfl rfl;apply iV rfl rfl (n9 _ b gB ((u.data.toList.getD (k - 1) 0).toNat:Int) (hs.mono (by (repeat (assumption)))) (by omega) (by have:=(u.data.toList.getD (k - 1) 0).toNat_lt;omega))
    rintro v κ3 _ rfl
    repeat (first | (first | (apply db rfl rfl rfl;(focus (exact uo rfl (.p rfl)))) | apply cz) | (apply cJ))
    rw [Int.toNat_natCast]
    apply iC rfl <;> intro hb
    · repeat (first | (first | (apply db rfl rfl rfl;(focus (first | exact bw (v:=(.string _)) rfl (.p rfl) | exact bJ (v:=(.string _)) rfl (.p rfl)))) | apply cz) | (first | apply cK | apply bh | apply cJ | apply iU | apply jX | apply gG | apply gH rfl | apply o4 rfl | apply fU))
      refine jx (rl (v:=.string _) rfl) .none ⟨rfl,u,k,rfl,h1,h2,h3,fun c hc=>?_⟩
      rw [hlast] at hc;injection hc with hc;subst hc;simpa using hb
    · repeat (first | (apply db rfl rfl rfl;(focus (first | exact bw (v:=(.string _)) rfl (.p rfl) | exact jZ rfl (.p rfl) (.p rfl) rfl (fun _=>by omega) | exact jl rfl rfl (.p rfl)))) | (first | apply bh | apply cJ | apply gg))
      apply db rfl rfl rfl (nY (h:=k - 1) rfl rfl (.p rfl) (.p rfl) (fun _=>by omega) (fun _=>by omega))
      repeat (first | (first | (apply db rfl rfl rfl;(focus (exact bJ (v:=(.string _)) rfl (.p rfl)))) | apply cz) | (apply lg))
      refine rk (u.extract 0 (k - 1),k - 1) (by (repeat (first | exact Holds.nil | apply Holds.cons rfl))) (by (repeat (exact Sub.nil))) ⟨?_,by ((try dsimp only at *) <;> omega),?_⟩ (by ((try dsimp only at *) <;> omega))
      · rw [bl_hi,h1,List.take_take];congr 1;omega
      · intro c hc
        rw [List.drop_eq_getElem_cons (by omega)] at hc
        rcases List.mem_cons.1 hc with rfl | hc
        · have e:(bl u).getD (k - 1) 0=(bl s)[k - 1]'(by omega):=by
            rw [oF (by rw [← iK];omega)];simp [h1]
          rw [← e];simpa using hb
        · rw [show k - 1+1=k by omega] at hc;exact h3 c hc
  · repeat (first | (first | (apply db rfl rfl rfl;(focus (first | exact bw (v:=(.string _)) rfl (.p rfl) | exact bJ (v:=(.string _)) rfl (.p rfl)))) | apply cz) | (first | apply cK | apply bh | apply cJ | apply iU | apply jX | apply gG | apply gH rfl | apply fU))
    refine jx (rl (v:=.string _) rfl) .none ⟨rfl,u,k,rfl,h1,h2,h3,fun c hc'=>?_⟩
    have:bl u=[]:=List.eq_nil_of_length_eq_zero (by rw [← iK];omega)
    rw [this] at hc';cases hc'
end SX
namespace SX
open Go
attribute [local irreducible] WL WC WD OpL OpQ OpG Ev GuardIs um ii xr Call CallP midK o5 Holds oL Sub Pick WS Step Lit Upd SetAt SpliceAt FillR Sh LateRun
theorem tH (κ:Kr) (b:Nat) (s:ByteArray) (hs:Sh κ b 0 (dG gB)):CallP 103 [.string s,.pointer (some ⟨b,0,none⟩)] κ fun v _=>∃ u k,v=.string u∧bl u=(bl s).drop k∧k≤(bl s).length∧(∀ c∈(bl s).take k,gB c.toNat=true)∧(∀ c,(bl u).head?=some c→gB c.toNat=false):=by
  (unfold CallP;apply j5 Tryz.func103 (fnk Tryz.func103 rfl) rfl Tryz.ntmps103 Tryz.results103 rfl)
  repeat (first | (first | (apply db rfl rfl rfl;(focus (exact bJ (v:=(.string _)) rfl (.p rfl)))) | apply cz) | (first | apply cK | apply bh | apply gh | apply cJ))
  refine my (X:=ByteArray×Nat) (fun z=>[(0,.string z.1),(1,.pointer (some ⟨b,0,none⟩))]) (fun _=>[]) (fun z _=>bl z.1=(bl s).drop z.2∧z.2≤(bl s).length∧∀ c∈(bl s).take z.2,gB c.toNat=true) (fun z=>(bl s).length - z.2) (s,0) (by (repeat (first | exact Holds.nil | apply Holds.cons rfl))) (by (repeat (exact Sub.nil))) ⟨rfl,Nat.zero_le _,by simp⟩ ?_
  rintro ⟨u,k⟩ τ κ2 _ ⟨h1,h2,h3⟩
  dsimp only at h1 h2 h3
  have hsz:u.size=(bl s).length - k:=by rw [iK,h1,List.length_drop]
  simp only [oL]
  repeat (first | (first | (apply db rfl rfl rfl;(focus (first | exact bw (v:=(.string _)) rfl (.p rfl) | exact jY rfl (.p rfl) (.p rfl) rfl | exact jl rfl rfl (.p rfl)))) | apply cz) | (first | apply cK | apply bh | apply cJ))
  apply rm rfl <;> intro hc
  · have hk0:k<(bl s).length:=by omega
    have hu0:0<(bl u).length:=by rw [← iK];omega
    repeat (first | (apply db rfl rfl rfl;(focus (first | exact bw (v:=(.pointer _)) rfl (.p rfl) | exact bw (v:=(.string _)) rfl (.p rfl)))) | (first | apply cK | apply bh | apply gh | apply cJ | apply gg))
    apply db rfl rfl rfl (jE (j:=0) rfl rfl (.p rfl) (.p rfl) (fun _=>by omega) (fun _=>by omega))
    have hhead:(bl u).head?=some ((bl u).getD 0 0):=by
      rw [List.head?_eq_getElem?,oF hu0,List.getElem?_eq_getElem hu0]
    apply sq rfl rfl rfl;apply iV rfl rfl (n9 _ b gB ((u.data.toList.getD 0 0).toNat:Int) (hs.mono (by (repeat (assumption)))) (by omega) (by have:=(u.data.toList.getD 0 0).toNat_lt;omega))
    rintro v κ3 _ rfl
    repeat (first | (first | (apply db rfl rfl rfl;(focus (exact uo rfl (.p rfl)))) | apply cz) | (apply cJ))
    rw [Int.toNat_natCast]
    apply iC rfl <;> intro hb
    · repeat (first | (first | (apply db rfl rfl rfl;(focus (first | exact bw (v:=(.string _)) rfl (.p rfl) | exact bJ (v:=(.string _)) rfl (.p rfl)))) | apply cz) | (first | apply cK | apply bh | apply cJ | apply iU | apply jX | apply gG | apply gH rfl | apply o4 rfl | apply fU))
      refine jx (rl (v:=.string _) rfl) .none ⟨rfl,u,k,rfl,h1,h2,h3,fun c hc=>?_⟩
      rw [hhead] at hc;injection hc with hc;subst hc;simpa using hb
    · repeat (first | (apply db rfl rfl rfl;(focus (exact bw (v:=(.string _)) rfl (.p rfl)))) | (first | apply bh | apply cJ | apply gg))
      apply db rfl rfl rfl (nZ (l:=1) rfl rfl (.p rfl) (.p rfl) (fun _=>by omega) (fun _=>by omega))
      repeat (first | (first | (apply db rfl rfl rfl;(focus (exact bJ (v:=(.string _)) rfl (.p rfl)))) | apply cz) | (apply lg))
      refine rk (u.extract 1 u.size,k+1) (by (repeat (first | exact Holds.nil | apply Holds.cons rfl))) (by (repeat (exact Sub.nil))) ⟨?_,by ((try dsimp only at *) <;> omega),?_⟩ (by ((try dsimp only at *) <;> omega))
      · rw [bl_lo,h1,List.drop_drop]
      · intro c hc
        rw [List.take_add_one] at hc
        rcases List.mem_append.1 hc with hc | hc
        · exact h3 c hc
        · have e:(bl u).getD 0 0=(bl s)[k]'hk0:=by rw [oF hu0];simp [h1]
          rw [List.getElem?_eq_getElem hk0] at hc
          simp only [Option.toList_some,List.mem_cons,List.not_mem_nil,or_false] at hc
          subst hc;rw [← e];simpa using hb
  · repeat (first | (first | (apply db rfl rfl rfl;(focus (first | exact bw (v:=(.string _)) rfl (.p rfl) | exact bJ (v:=(.string _)) rfl (.p rfl)))) | apply cz) | (first | apply cK | apply bh | apply cJ | apply iU | apply jX | apply gG | apply gH rfl | apply fU))
    refine jx (rl (v:=.string _) rfl) .none ⟨rfl,u,k,rfl,h1,h2,h3,fun c hc'=>?_⟩
    have:bl u=[]:=List.eq_nil_of_length_eq_zero (by rw [← iK];omega)
    rw [this] at hc';cases hc'
def iw (s:ByteArray):Bool:=(bl s).all fun c=>gB c.toNat
theorem qN {s:ByteArray}:s=⟨#[]⟩↔bl s=[]:=⟨fun h=>by rw [h],fun h=>bl_inj (by rw [h])⟩
theorem trim_ok (κ:Kr) (s:ByteArray) (hz:s.size≤1000000000):CallP 83 [.string s,.string fI] κ fun v _=>∃ u,v=.string u∧(u=⟨#[]⟩↔iw s=true):=by
  (unfold CallP;apply j5 Tryz.func83 (fnk Tryz.func83 rfl) rfl Tryz.ntmps83 Tryz.results83 rfl)
  repeat (first | (first | (apply db rfl rfl rfl;(focus (first | exact bw (v:=(.bool _)) rfl (.p rfl) | exact bw (v:=(.string _)) rfl (.p rfl) | exact bJ (v:=(.string _)) rfl (.p rfl) | exact oq_or rfl (.p rfl) (.p rfl) (.g rfl) | exact qZ rfl (.p rfl) (.p rfl) rfl))) | (apply oQ;(focus (exact vf rfl rfl rfl));rfl;rfl;(focus (first | (apply bw (v:=(.string _)) rfl;(focus (exact Ev.p rfl))) | (apply qZ rfl (by (focus (exact Ev.g rfl))) (by (focus (exact Ev.p rfl)));rfl)))) | apply cz) | (first | apply cK | apply bh | apply cJ))
  apply iC rfl <;> intro hb
  · repeat (first | (first | (apply db rfl rfl rfl;(focus (first | exact bw (v:=(.string _)) rfl (.p rfl) | exact bJ (v:=(.string _)) rfl (.p rfl)))) | apply cz) | (first | apply cK | apply bh | apply cJ | apply iU | apply nq))
    have:s=⟨#[]⟩:=by simpa [fI] using hb
    refine jx (rl (v:=.string _) rfl) .none ⟨rfl,s,rfl,?_⟩
    subst this;simp [iw,bl]
  · have hne:¬ bl s=[]:=fun h=>by rw [qN.2 h] at hb;simp at hb
    repeat (first | (first | (apply db rfl rfl rfl;(focus (first | exact bw (v:=(.bool _)) rfl (.p rfl) | exact bw (v:=(.string _)) rfl (.p rfl) | exact jY rfl (.p rfl) (.p rfl) rfl | exact jl rfl rfl (.p rfl)))) | (apply oQ;(focus (exact jW rfl rfl rfl));rfl;rfl;(focus (apply bw (v:=(.string _)) rfl;(focus (exact Ev.p rfl)))))) | (first | apply cK | apply bh | apply cJ | apply gg))
    apply oQ;(focus (exact jW rfl rfl rfl));rfl;rfl;exact jE (s:=fI) (j:=0) rfl rfl (.g rfl) (.p rfl) (fun _=>rfl) (fun _=>by decide)
    repeat (first | (first | (apply db rfl rfl rfl;(focus (exact un rfl (.p rfl) (.p rfl) (.g rfl)))) | (apply oQ;(focus (exact jW rfl rfl rfl));rfl;rfl;(focus (apply jY rfl (by (focus (exact Ev.g rfl))) (by (focus (exact Ev.p rfl)));rfl))) | apply cz) | (apply cJ))
    apply iC rfl <;> intro hb2
    · have e:(fI.size:Int)=10:=rfl
      rw [e] at hb2;simp at hb2
    repeat (first | (apply db rfl rfl rfl;(focus (exact bw (v:=(.string _)) rfl (.p rfl)))) | (first | apply cK | apply bh | apply cJ | apply gg))
    refine wl_fun rfl rfl rfl rfl rfl (yB _) fun κ1 _=>?_
    repeat (first | (first | (apply db rfl rfl rfl;(focus (first | exact bw (v:=(.bool _)) rfl (.p rfl) | exact bw (v:=(.tuple _)) rfl (.p rfl) | exact bJ (v:=(.bool _)) rfl (.p rfl) | exact oR rfl (.p rfl) rfl))) | (apply sq rfl rfl rfl;apply qv rfl rfl;intro _ _ _) | (apply vg rfl rfl;apply qw rfl rfl rfl rfl rfl rfl;(focus (repeat (exact Upd.h)));rfl;intro _ _) | apply cz) | (first | apply cK | apply bh | apply cJ))
    rename_i b5 _ _ _ _
    apply wc_pub (b:=b5) Pick.h rfl;intro κ3 _ hS hsays
    have hset:=xF hS hsays
    apply xh rfl
    repeat (first | (apply db rfl rfl rfl;(focus (exact bw (v:=(.string _)) rfl (.p rfl)))) | (first | apply cK | apply bh))
    apply sq rfl rfl rfl;apply iV rfl rfl (rY _ b5 s (hset.mono (by (repeat (exact Kle.refl _)))) hz)
    rintro v κ4 _ ⟨u,k,rfl,h1,h2,h3,h4⟩
    apply sq rfl rfl rfl;apply iV rfl rfl (tH _ b5 u (hset.mono (by (repeat (assumption)))))
    rintro v κ5 _ ⟨u2,k2,rfl,g1,g2,g3,g4⟩
    repeat (first | (first | (apply db rfl rfl rfl;(focus (exact bJ (v:=(.string _)) rfl (.p rfl)))) | apply cz) | (first | apply cJ | apply iU | apply nq))
    refine jx (rl (v:=.string _) rfl) .none ⟨rfl,u2,rfl,?_⟩
    rw [qN]
    unfold iw
    rw [List.all_eq_true]
    constructor
    · intro h
      have hk2:k2=(bl u).length:=by
        have:=congrArg List.length (g1.symm.trans h);simp only [List.length_drop,List.length_nil] at this;omega
      intro c hc
      rw [← List.take_append_drop k (bl s)] at hc
      rcases List.mem_append.1 hc with hc | hc
      · rw [← h1] at hc;rw [hk2,List.take_length] at g3;exact g3 c hc
      · exact h3 c hc
    · intro h
      have hu:bl u=[]:=by
        rcases List.eq_nil_or_concat (bl u) with hu | ⟨l,c,hu⟩
        · exact hu
        · have hc:=h4 c (by rw [hu];simp)
          have hm:c∈bl s:=List.mem_of_mem_take (i:=k) (by rw [← h1,hu];simp)
          rw [h c hm] at hc;cases hc
      rw [g1,hu];simp
def Glob (κ:Kr):Prop:=Sh κ 0 0 [.int .i64 2,.int .i64 4,.int .i64 6,.int .i64 8]
theorem Glob.mono {κ κ':Kr} (h:Glob κ) (k:Kle κ κ'):Glob κ':=Sh.mono h k
def eT (s:ByteArray):Int:=if (s.size=2∨s.size=4∨s.size=6∨s.size=8)∧iw s=true then (s.size:Int) else 0
theorem gv_some {c:Bool} {v:Value} {P:ByteArray→Prop} (h:c=true→∃ u,v=.string u∧P u):∃ u,gv c v=gv c (.string u)∧(c=true→P u):=by
  cases c
  · exact ⟨⟨#[]⟩,by rw [eZ,eZ],fun h=>by cases h⟩
  · obtain ⟨u,rfl,h2⟩:=h rfl;exact ⟨u,rfl,fun _=>h2⟩
theorem yC (κ:Kr) (s:ByteArray) (hg:Glob κ):CallP 67 [.string s] κ fun v _=>v=.int .i64 (eT s):=by
  (unfold CallP;apply j5 Tryz.func67 (fnk Tryz.func67 rfl) rfl Tryz.ntmps67 Tryz.results67 rfl)
  repeat (first | (first | (apply db rfl rfl rfl;(focus (exact bJ (v:=(.int _ _)) rfl (.p rfl)))) | apply cz) | (first | apply cK | apply bh | apply cJ))
  apply db rfl rfl rfl (nm rfl (.p rfl) (fun _=>hg) rfl)
  repeat (first | (first | (apply db rfl rfl rfl;(focus (exact bw (v:=(.int _ _)) rfl (.p rfl)))) | apply cz) | (first | apply gh | apply cJ))
  refine my (X:=Nat) (fun k=>[(0,.string s),(5,.agg #[.int .i64 2,.int .i64 4,.int .i64 6,.int .i64 8]),(6,.int .i64 (k:Int))]) (fun _=>[]) (fun k _=>k≤4∧∀ j,j<k→¬ (s.size=2*(j+1)∧iw s=true)) (fun k=>4 - k) 0 (by (repeat (first | exact Holds.nil | apply Holds.cons rfl))) (by (repeat (exact Sub.nil))) ⟨by omega,by omega⟩ ?_
  rintro k τ κ1 _ ⟨hk,hno⟩
  simp only [oL]
  repeat (first | (first | (apply db rfl rfl rfl;(focus (exact jY rfl (.p rfl) (.p rfl) rfl))) | apply cz) | (first | apply cK | apply bh | apply cJ))
  apply rm rfl <;> intro hc
  · have hk4:k<4:=by omega
    repeat (first | apply cK | apply bh | apply gh | apply cJ | apply gg)
    apply db rfl rfl rfl (wi (cs:=[.int .i64 2,.int .i64 4,.int .i64 6,.int .i64 8]) (v:=.int .i64 (2*((k:Int)+1))) (j:=k) rfl rfl rfl rfl rfl (.p rfl) (.p rfl) (fun _=>rfl) (fun _=>hk4) (fun _=>by
      have:k=0∨k=1∨k=2∨k=3:=by omega
      rcases this with rfl | rfl | rfl | rfl <;> rfl))
    repeat (first | (first | (apply db rfl rfl rfl;(focus (first | exact bw (v:=(.int _ _)) rfl (.p rfl) | exact bw (v:=(.bool _)) rfl (.p rfl) | exact bw (v:=(.string _)) rfl (.p rfl) | exact bJ (v:=(.int _ _)) rfl (.p rfl) | exact jY rfl (.p rfl) (.p rfl) rfl | exact jl rfl rfl (.p rfl)))) | (apply oQ;(focus (exact jW rfl rfl rfl));rfl;rfl;(focus (apply bw (v:=(.string _)) rfl;(focus (exact Ev.p rfl))))) | apply cz) | (first | apply cK | apply bh | apply cJ))
    apply wl_g;(focus (exact jW rfl rfl rfl));rfl;rfl
    refine sw rfl (ar2 (.g rfl) (.p rfl)) (fun hcc=>trim_ok _ s (by simp at hcc;omega)) fun v κ2 _ hv=>?_
    obtain ⟨u,hu,hP⟩:=gv_some hv
    rw [hu]
    repeat (first | (first | (apply db rfl rfl rfl;(focus (exact un rfl (.p rfl) (.p rfl) (.g rfl)))) | (apply oQ;(focus (exact jW rfl rfl rfl));rfl;rfl;(focus (apply qZ rfl (by (focus (exact Ev.g rfl))) (by (focus (exact Ev.p rfl)));rfl))) | apply cz) | (apply cJ))
    apply iC rfl <;> intro hb
    · simp only [Bool.and_eq_true,beq_iff_eq,decide_eq_true_eq] at hb
      have hd:iw s=true:=(hP (by simpa using hb.1)).1 hb.2
      repeat (first | (first | (apply db rfl rfl rfl;(focus (first | exact bw (v:=(.int _ _)) rfl (.p rfl) | exact bJ (v:=(.int _ _)) rfl (.p rfl)))) | apply cz) | (first | apply cK | apply bh | apply cJ | apply iU | apply nq | apply sF | apply ur))
      refine jx (rl (v:=.int _ _) rfl) .none ⟨rfl,?_⟩
      show Value.int .i64 (2*((k:Int)+1))=.int .i64 (eT s)
      unfold eT
      rw [if_pos ⟨by omega,hd⟩,← hb.1]
    · repeat (first | (first | (apply db rfl rfl rfl;(focus (first | exact bw (v:=(.int _ _)) rfl (.p rfl) | exact jZ rfl (.p rfl) (.p rfl) rfl (fun _=>by omega)))) | apply cz) | (first | apply bh | apply cJ | apply gg | apply lg))
      refine rk (k+1) (by (repeat (first | exact Holds.nil | apply Holds.cons rfl))) (by (repeat (exact Sub.nil))) ⟨by omega,fun j hj=>?_⟩ (by omega)
      rcases Nat.lt_or_ge j k with h | h
      · exact hno j h
      · have:j=k:=by omega
        subst this
        rintro ⟨h1,h2⟩
        have hcc:((s.size:Int) == 2*((j:Int)+1))=true:=by simp;omega
        have:=(hP (by simpa using hcc)).2 h2
        subst this
        rw [hcc] at hb;simp at hb
  · repeat (first | (first | (apply db rfl rfl rfl;(focus (exact bJ (v:=(.int _ _)) rfl (.p rfl)))) | apply cz) | (first | apply cK | apply bh | apply cJ | apply iU | apply jX | apply gG | apply gH rfl | apply fU))
    refine jx (rl (v:=.int _ _) rfl) .none ⟨rfl,?_⟩
    show Value.int .i64 0=.int .i64 (eT s)
    unfold eT
    rw [if_neg]
    rintro ⟨h1,h2⟩
    have:k=4:=by omega
    subst this
    rcases h1 with h1 | h1 | h1 | h1
    · exact hno 0 (by omega) ⟨h1,h2⟩
    · exact hno 1 (by omega) ⟨h1,h2⟩
    · exact hno 2 (by omega) ⟨h1,h2⟩
    · exact hno 3 (by omega) ⟨h1,h2⟩
end SX
namespace SX
open Go
def cY (p0:ByteArray):Option Int:=some (eT p0)
theorem gC {p0:ByteArray} {r:Int} (h:cY p0=some r):PF 67 [.v (.string p0)] (.v (.int .i64 r)):=fun κ args g ha=>by
 obtain ⟨v,ws,rfl,h1,h2⟩:=ha.cons_inv
 rw [h2.nil_inv,h1.val]
 have h:=Option.some.inj h;subst h
 exact (yC κ p0 (gok_len g)).mono fun v κ' _ hv=>by subst hv;exact .v rfl
section
variable {o:Oper} {c:Bool} {x y:Operand}
theorem wH {σ:Env} {ρ:List Res} {κ:Kr} {t t' kt et:Nat} {mo:Option Nat} (ho:o.op=.binOp .eql t x y t') (hu:dv t=some (.map kt et)) (hx:Ev σ c x (.map mo)) (hy:Ev σ c y (.map none)):OpQ c o σ ρ κ (.bool mo.isNone):=fun hc w _=>by
 simp only [execOp,ho,hx hc,hy hc,Sem.run_bind]
 simp [eqGuard,run_eql_map_nil w t kt et mo (br hu)]
theorem qO {σ:PEnv} {ρ:List PRes} {t t' kt et:Nat} {mo:Option Nat} (ho:o.op=.binOp .eql t x y t') (hu:dv t=some (.map kt et)) (hx:PEv σ c x (.v (.map mo))) (hy:PEv σ c y (.v (.map none))):POpQ c o σ ρ (.v (.bool mo.isNone)):=fun _ _ _ _ hs _=>⟨_,fun _=>.v rfl,wH ho hu (hs.ve hx) (hs.ve hy)⟩
theorem uV {n:Nat} {z:Code} {K:Exit→PPost} {σ:PEnv} {ρ:List PRes} {KT VT:Type} {ek:KT→Value} {vv:VT→PV} {xs:List (KT×VT)} (hm:PRes.mp none (ew ek vv xs)∈ρ) (h:xs=[]→PWC n z K σ ρ):PWC n z K σ ρ:=fun β κ σ' ρ' g hs hr hi=>by
 obtain ⟨es,clock,h1,h2,h3,h4⟩:=mO hm κ ρ' hr
 have e:=h2 rfl
 subst e
 refine h ?_ β κ σ' ρ' g hs hr hi
 cases xs with
 | nil=>rfl
 | cons q l =>
  generalize hz:ew ek vv (q::l)=z at h4
  cases h4
  exact absurd hz (by simp [ew])
end
attribute [local irreducible] PWL PWC PWD POpL POpQ PEv PGuardIs PSub PPick PUpd PSplice PFill PLit PF PFV PCall FOk ee eu jI kF iY jn Cov PHolds bk idx app mk gd lb nz lG xQ sub kv dd mj ry dV co mC cX IntKind.wrap Int.tmod Int.tdiv Op.bytesLess strOfNums
def kX (ks:List Zb) (ms:List (Zb×Int)) (k:Zb) (n:Int):Option (List Zb×List (Zb×Int)):=Option.bind (cond (!(cr ms k).isSome) (app 16 ks [k]) (some ks)) (fun l=>some (l,mM ms k (IntKind.i64.wrap ((cr ms k).getD 0+n))))
theorem yD {b:Nat} {a:Option Addr} {c:Nat} {mo:Option Nat} {ks:List Zb} {ms:List (Zb×Int)} {k:Zb} {n:Int} {r:List Zb×List (Zb×Int)} (h:kX ks ms k n=some r):PCall 21 [pP b 0,.agg [pI k.kind,pI k.measure],pI n] [PRes.b b 64 [pO a ks.length c,.v (.map mo)],PRes.row a ks.length c 67 2 (ks.map Zb.enc),PRes.mp mo (ew Zb.key vI ms)] (fun pv ρ'=>pv=.tup []∧∃ a' c' b',ρ'=[PRes.b b 64 [pO a' r.1.length c',.v (.map (some b'))],PRes.row a' r.1.length c' 67 2 (r.1.map Zb.enc),PRes.mp (some b') (ew Zb.key vI r.2)]):=by
 unfold kX at h
 refine gW Tryz.func21 rfl Tryz.ntmps21 Tryz.results21 rfl ?_
 refine af ?_
 refine ae ?_
 refine jm rfl rfl rfl (bB (cs:=[pI k.kind,pI k.measure]) rfl rfl (fun b4=>?_))
 refine az ?_
 (repeat (first | apply aj | apply aH))
 refine af ?_
 refine av (Y:=Nat) (fun _=>[(0,pP b 0),(2,pI n),(4,pP b4 0)]) (fun mb=>[PRes.b b 64 [pO a ks.length c,.v (.map (some mb))],PRes.b b4 67 [pI k.kind,pI k.measure],PRes.row a ks.length c 67 2 (ks.map Zb.enc),PRes.mp (some mb) (ew Zb.key vI ms)]) (fun _=>True) ?_ ?_
 ·cases mo with
  | none =>
   refine uV (ek:=Zb.key) (vv:=vI) (xs:=ms) (by (repeat (first | exact List.Mem.head _ | apply List.Mem.tail))) (fun e=>?_)
   subst e
   refine af ?_
   refine ae ?_
   refine bd 4 [1] [8,9,10] [(11,.v (.map none))] bA (by kernel_rfl) ?_
   refine bE rfl rfl rfl (qO (mo:=none) rfl rfl (.p rfl) (.p rfl)) ?_
   refine az ?_
   (repeat (first | apply aj | apply aH))
   refine fE (p:=true) rfl (fun _=>?_) (fun h=>nomatch h)
   refine ae ?_
   refine bd 1 [] [] [(13,pP b 0)] bA (by kernel_rfl) ?_
   refine jm rfl rfl rfl (tz Zb.key vI rfl (fun mb=>?_))
   refine bd 2 [] [15] [(16,pP b 1)] bA (by kernel_rfl) ?_
   refine aQ rfl rfl (ak (vs:=[.v (.map (some mb))]) rfl rfl rfl rfl rfl (by (repeat (first | exact cn | apply cA))) (by (repeat (first | exact vp | apply dg | apply bQ))) ?_)
   refine az ?_
   exact au mb (by (repeat (first | exact lw | apply dK rfl))) (by (repeat (first | exact bD | (apply bv;(focus (repeat (first | exact aZ | apply aR))))))) trivial
  | some mb =>
   refine af ?_
   refine ae ?_
   refine bd 4 [1] [8,9,10] [(11,.v (.map (some mb)))] bA (by kernel_rfl) ?_
   refine bE rfl rfl rfl (qO (mo:=some mb) rfl rfl (.p rfl) (.p rfl)) ?_
   refine az ?_
   (repeat (first | apply aj | apply aH))
   refine fE (p:=false) rfl (fun h=>nomatch h) (fun _=>?_)
   refine ag ?_
   exact au mb (by (repeat (first | exact lw | apply dK rfl))) (by (repeat (first | exact bD | (apply bv;(focus (repeat (first | exact aZ | apply aR))))))) trivial
 rintro mb τ _;dsimp only [aF]
 refine aa h ?_;clear h;intro l hl h
 refine af ?_
 refine af ?_
 refine bH (ρd:=[PRes.mp _ _]) [(0,0),(1,0),(2,0),(3,0),(4,0),(5,1),(6,0),(7,0),(8,0),(9,0),(10,0)] _ (by (repeat (first | exact List.Perm.refl _ | (refine aC (by (repeat (first | exact aZ | apply aR))) ?_)))) (by kernel_rfl) rfl ?_
 refine bV 5 [0,1] [18,19,20] [(21,.v (.map (some mb))),(22,.agg [pI k.kind,pI k.measure])] bA (by kernel_rfl) ?_
 refine hX rfl rfl rfl (eV (show POpQ _ _ _ _ (.tup [vI ((cr ms k).getD 0),.v (.bool (cr ms k).isSome)]) from tx (xs:=ms) (k:=k) (ek:=Zb.key) (vv:=vI) (z0:=0) rfl rfl rfl (fun _=>.v rfl) Zb.kenc67 (.p rfl) (.p rfl) nC (mO (by (repeat (first | exact List.Mem.head _ | apply List.Mem.tail))))) ?_)
 refine bV 5 [] [17,24,25] [(6,vI ((cr ms k).getD 0)),(7,pB (cr ms k).isSome)] bA (by kernel_rfl) ?_
 refine ce ?_
 (repeat (first | apply aj | apply aH))
 refine af ?_
 refine aD [] [26] [(27,pB (!(cr ms k).isSome))] bA (by kernel_rfl) ?_
 (repeat (first | apply aj | apply aH))
 refine av (Y:=Option Addr×Nat) (fun _=>[(0,pP b 0),(2,pI n),(4,pP b4 0)]) (fun (a',c')=>[PRes.b b 64 [pO a' l.length c',.v (.map (some mb))],PRes.b b4 67 [pI k.kind,pI k.measure],PRes.row a' l.length c' 67 2 (l.map Zb.enc),PRes.mp (some mb) (ew Zb.key vI ms)]) (fun _=>True) ?_ ?_
 ·refine fE rfl (fun hc=>?_) (fun hc=>?_)
  ·replace hl:=ns hc hl
   refine eN (ρd:=[PRes.b b _ _,PRes.row a _ _ _ _ _]) _ (by (repeat (first | exact List.Perm.refl _ | (refine aC (by (repeat (first | exact aZ | apply aR))) ?_)))) ?_
   refine aS 0 (by kernel_rfl) rfl rfl rfl rfl (bC (p:=pP b 0) rfl (.p rfl)) ?_
   refine aS 1 (by kernel_rfl) rfl rfl rfl rfl (bC (p:=pP b 0) rfl (.p rfl)) ?_
   refine aS 2 (by kernel_rfl) rfl rfl rfl rfl (hR rfl (.p rfl)) ?_
   refine aS 3 (by kernel_rfl) rfl rfl rfl rfl (aJ rfl rfl rfl rfl rfl (.p rfl)) ?_
   refine aS 5 (by kernel_rfl) rfl rfl rfl rfl (bU (p:=.agg [pI k.kind,pI k.measure]) rfl (.p rfl) (by (repeat (first | exact List.Mem.head _ | apply List.Mem.tail))) rfl) ?_
   refine dI 4 6 (by kernel_rfl) ?_ ?_
   ·skip
    refine aX rfl rfl rfl rfl (eV (bU (p:=pO a ks.length c) rfl (.p rfl) (by (repeat (first | exact List.Mem.head _ | apply List.Mem.tail))) rfl) ?_)
    refine aW 6 (by kernel_rfl) ?_
    refine aX rfl rfl rfl rfl (bW rfl rfl rfl rfl rfl (by (repeat (first | exact jD | apply eW rfl))) rfl rfl rfl rfl (fun bL=>?_))
    refine aW 7 (by kernel_rfl) ?_
    refine aX rfl rfl rfl rfl (cV (enc:=Zb.enc) rfl rfl rfl rfl rfl rfl rfl rfl rfl (by (repeat (first | exact List.Mem.head _ | apply List.Mem.tail))) (by (repeat (first | exact aZ | apply aR))) hl (fun a' c'=>?_))
    refine aS 8 (by kernel_rfl) rfl rfl rfl rfl (hR rfl (.p rfl)) ?_
    refine aS 9 (by kernel_rfl) rfl rfl rfl rfl (aJ rfl rfl rfl rfl rfl (.p rfl)) ?_
    refine aW 10 (by kernel_rfl) ?_
    refine bq rfl rfl rfl (ak (vs:=[pO a' l.length c']) rfl rfl rfl rfl rfl (by (repeat (first | exact cn | apply cA))) (by (repeat (first | exact vp | apply dg | apply bQ))) ?_)
    refine bK (by kernel_rfl) ?_
    exact au (a',c') (by (repeat (first | exact lw | apply dK rfl))) (by (repeat (first | exact bD | (apply bv;(focus (repeat (first | exact aZ | apply aR))))))) trivial
   skip
   refine aX rfl rfl rfl rfl (bW rfl rfl rfl rfl rfl (by (repeat (first | exact jD | apply eW rfl))) rfl rfl rfl rfl (fun bL=>?_))
   refine aW 4 (by kernel_rfl) ?_
   refine aX rfl rfl rfl rfl (eV (bU (p:=pO a ks.length c) rfl (.p rfl) (by (repeat (first | exact List.Mem.head _ | apply List.Mem.tail))) rfl) ?_)
   refine aW 7 (by kernel_rfl) ?_
   refine aX rfl rfl rfl rfl (cV (enc:=Zb.enc) rfl rfl rfl rfl rfl rfl rfl rfl rfl (by (repeat (first | exact List.Mem.head _ | apply List.Mem.tail))) (by (repeat (first | exact aZ | apply aR))) hl (fun a' c'=>?_))
   refine aS 8 (by kernel_rfl) rfl rfl rfl rfl (hR rfl (.p rfl)) ?_
   refine aS 9 (by kernel_rfl) rfl rfl rfl rfl (aJ rfl rfl rfl rfl rfl (.p rfl)) ?_
   refine aW 10 (by kernel_rfl) ?_
   refine bq rfl rfl rfl (ak (vs:=[pO a' l.length c']) rfl rfl rfl rfl rfl (by (repeat (first | exact cn | apply cA))) (by (repeat (first | exact vp | apply dg | apply bQ))) ?_)
   refine bK (by kernel_rfl) ?_
   exact au (a',c') (by (repeat (first | exact lw | apply dK rfl))) (by (repeat (first | exact bD | (apply bv;(focus (repeat (first | exact aZ | apply aR))))))) trivial
  replace hl:=nt hc hl
  obtain rfl:=Option.some.inj hl
  refine ag ?_
  exact au (a,c) (by (repeat (first | exact lw | apply dK rfl))) (by (repeat (first | exact bD | (apply bv;(focus (repeat (first | exact aZ | apply aR))))))) trivial
 rintro ⟨a',c'⟩ τ _;dsimp only [aF]
 (try refine aH ?_)
 refine eN (ρd:=[PRes.mp _ _]) _ (by (repeat (first | exact List.Perm.refl _ | (refine aC (by (repeat (first | exact aZ | apply aR))) ?_)))) ?_
 refine aS 0 (by kernel_rfl) rfl rfl rfl rfl (bC (p:=pP b 0) rfl (.p rfl)) ?_
 refine aS 1 (by kernel_rfl) rfl rfl rfl rfl (hR rfl (.p rfl)) ?_
 refine aS 2 (by kernel_rfl) rfl rfl rfl rfl (aJ rfl rfl rfl rfl rfl (.p rfl)) ?_
 refine aS 3 (by kernel_rfl) rfl rfl rfl rfl (bU (p:=.v (.map (some mb))) rfl (.p rfl) (by (repeat (first | exact List.Mem.head _ | apply List.Mem.tail))) rfl) ?_
 refine aS 4 (by kernel_rfl) rfl rfl rfl rfl (bU (p:=.agg [pI k.kind,pI k.measure]) rfl (.p rfl) (by (repeat (first | exact List.Mem.head _ | apply List.Mem.tail))) rfl) ?_
 refine aS 6 (by kernel_rfl) rfl rfl rfl rfl (bC (p:=pI n) rfl (.p rfl)) ?_
 refine dI 5 8 (by kernel_rfl) ?_ ?_
 ·skip
  refine aX rfl rfl rfl rfl (eV (show POpQ _ _ _ _ (vI ((cr ms k).getD 0)) from nB (xs:=ms) (k:=k) (ek:=Zb.key) (vv:=vI) (z0:=0) rfl rfl rfl (fun _=>.v rfl) Zb.kenc67 (.p rfl) (.p rfl) nC (mO (by (repeat (first | exact List.Mem.head _ | apply List.Mem.tail))))) ?_)
  refine aS 7 (by kernel_rfl) rfl rfl rfl rfl (dw rfl (.p rfl) (.p rfl) rfl) ?_
  refine aW 8 (by kernel_rfl) ?_
  refine aX rfl rfl rfl rfl (n4 (xs:=ms) (k:=k) (ek:=Zb.key) (vv:=vI) (z0:=0) rfl rfl rfl (fun _=>.v rfl) Zb.kenc67 rfl rfl nC (by (repeat (first | exact aZ | apply aR))) (fun nn=>?_))
  refine aS 9 (by kernel_rfl) rfl rfl rfl rfl (ka (p:=.v (.int .i64 ((nn:Nat):Int))) rfl (.p rfl) rfl) ?_
  refine aW 10 (by kernel_rfl) ?_
  refine bq rfl rfl rfl (lH (xs:=ms) (k:=k) (z0:=0) (v:=IntKind.i64.wrap ((cr ms k).getD 0+n)) (ek:=Zb.key) (vv:=vI) rfl rfl rfl rfl (by (repeat (first | exact aZ | apply aR))) (.inr trivial) ?_)
  refine bK (by kernel_rfl) ?_
  obtain rfl:=Option.some.inj h
  exact kI (rfl:PRV [] _ _ (.tup [])) (by (repeat (first | exact bD | (apply bv;(focus (repeat (first | exact aZ | apply aR))))))) ⟨rfl,_,_,_,rfl⟩
 skip
 refine aX rfl rfl rfl rfl (n4 (xs:=ms) (k:=k) (ek:=Zb.key) (vv:=vI) (z0:=0) rfl rfl rfl (fun _=>.v rfl) Zb.kenc67 rfl rfl nC (by (repeat (first | exact aZ | apply aR))) (fun nn=>?_))
 refine aS 9 (by kernel_rfl) rfl rfl rfl rfl (ka (p:=.v (.int .i64 ((nn:Nat):Int))) rfl (.p rfl) rfl) ?_
 refine aW 5 (by kernel_rfl) ?_
 refine aX rfl rfl rfl rfl (eV (show POpQ _ _ _ _ (vI ((cr ms k).getD 0)) from tA (xs:=ms) (k:=k) (ek:=Zb.key) (vv:=vI) (z0:=0) rfl rfl rfl (fun _=>.v rfl) Zb.kenc67 (.p rfl) (.p rfl) nC (by (repeat (first | exact List.Mem.head _ | apply List.Mem.tail)))) ?_)
 refine aS 7 (by kernel_rfl) rfl rfl rfl rfl (dw rfl (.p rfl) (.p rfl) rfl) ?_
 refine aW 10 (by kernel_rfl) ?_
 refine bq rfl rfl rfl (lH (xs:=ms) (k:=k) (z0:=0) (v:=IntKind.i64.wrap ((cr ms k).getD 0+n)) (ek:=Zb.key) (vv:=vI) rfl rfl rfl rfl (by (repeat (first | exact aZ | apply aR))) (.inr trivial) ?_)
 refine bK (by kernel_rfl) ?_
 obtain rfl:=Option.some.inj h
 exact kI (rfl:PRV [] _ _ (.tup [])) (by (repeat (first | exact bD | (apply bv;(focus (repeat (first | exact aZ | apply aR))))))) ⟨rfl,_,_,_,rfl⟩
end SX
namespace SX
open Go
theorem Zi.nilmap {β:Base} {ρ:List Res} {κ:Kr} (h:Zi β ρ κ):Zi β (Res.mp none [] 0::ρ) κ :=
 ⟨h.le,h.fin,fun r hr=>by
  rcases List.mem_cons.1 hr with rfl | hr
  ·exact trivial
  ·exact h.own r hr,fun r hr=>by
  rcases List.mem_cons.1 hr with rfl | hr
  ·intro b hb;cases hb
  exact h.blk r hr,List.pairwise_cons.2 ⟨fun s _ b hb=>(by cases hb),h.nd⟩⟩
theorem uW {n:Nat} {z:Code} {K:Exit→PPost} {σ:PEnv} {ρ:List PRes} {KT VT:Type} (ek:KT→Value) (vv:VT→PV) (h:PWC n z K σ (PRes.mp none (ew ek vv [])::ρ)):PWC n z K σ ρ:=fun β κ σ' ρ' g hs hr hi=>h β κ σ' _ g hs (.cons (.mp (clock:=0) (fun _=>rfl) ⟨.nil,.nil,fun e h=>by cases h⟩ .nil) hr) hi.nilmap
attribute [local irreducible] PWL PWC PWD POpL POpQ PEv PGuardIs PSub PPick PUpd PSplice PFill PLit PF PFV PCall FOk ee eu jI kF iY jn Cov PHolds bk idx app mk gd lb nz lG xQ sub kv dd mj ry dV co mC cX IntKind.wrap Int.tmod Int.tdiv Op.bytesLess strOfNums
def jT (sg:Int→Int) (l:List Za) (s:List Zb×List (Zb×Int)):Option (List Zb×List (Zb×Int)):=bk (S:=List Zb×List (Zb×Int)×Int) (T:=List Zb×List (Zb×Int)) (fun (ks,ms,i)=>cond (decide (i<(l.length:Int))) (Option.bind (idx l i) (fun x=>Option.bind (kX ks ms ⟨x.Kind,x.Measure⟩ (sg x.Amount)) (fun r=>some (.inl (r.1,r.2,IntKind.i64.wrap (i+1)))))) (some (.inr (ks,ms)))) FUEL (s.1,s.2,0)
def mZ (n:Nat) (ks:List Zb) (ms:List (Zb×Int)):Option (List Za):=bk (S:=List Za×Int) (T:=List Za) (fun (l,i)=>cond (decide (i<(n:Int))) (Option.bind (idx ks i) (fun k=>Option.bind (cond ((cr ms k).getD 0 != 0) (app 40 l [(⟨k.kind,k.measure,0,0,(cr ms k).getD 0⟩:Za)]) (some l)) (fun l'=>some (.inl (l',IntKind.i64.wrap (i+1)))))) (some (.inr l))) FUEL ([],0)
def cQ (p0 p1:Zl):Option (List Za):=Option.bind (jT (fun v=>IntKind.i64.wrap (0 - v)) p0.Lines ([],[])) (fun q1=>Option.bind (jT (fun v=>v) p1.Lines q1) (fun q2=>Option.bind (vB q2.1) (fun ks=>Option.bind (mZ q2.1.length ks q2.2) (fun l=>some l))))
theorem fj {p0 p1:Zl} {r:List Za} (h:cQ p0 p1=some r):PF 7 [.agg [pL Za.enc p0.Lines,pI p0.Total],.agg [pL Za.enc p1.Lines,pI p1.Total]] (pL Za.enc r):=by
 unfold cQ at h
 refine bi ?_
 refine gW Tryz.func7 rfl Tryz.ntmps7 Tryz.results7 rfl ?_
 refine af ?_
 refine ae ?_
 refine jm rfl rfl rfl (bB (cs:=[pL Za.enc p0.Lines,pI p0.Total]) rfl rfl (fun b2=>?_))
 refine jm rfl rfl rfl (bB (cs:=[pL Za.enc p1.Lines,pI p1.Total]) rfl rfl (fun b3=>?_))
 refine gX [] [] [(4,pN)] bA (by kernel_rfl) ?_
 (repeat (first | apply aj | apply aH))
 refine af ?_
 refine ae ?_
 refine jm rfl rfl rfl (be (cs:=[pN,.v (.map none)]) rfl rfl rfl rfl (fun b5=>?_))
 refine az ?_
 (repeat (first | apply aj | apply aH))
 refine dn 67 2 ?_
 refine uW Zb.key vI ?_
 refine af ?_
 refine af ?_
 refine aD [4] [14] [(15,pL Za.enc p0.Lines),(16,pI (p0.Lines.length:Int)),(17,pI 0)] bA (by kernel_rfl) ?_
 (repeat (first | apply aj | apply aH))
 refine aa h ?_;clear h;intro q1 hq1 h;unfold jT at hq1;dsimp only at hq1
 refine av (Y:=(Option Addr×Nat×Option Nat)×(List Zb×List (Zb×Int))) (fun _=>[(3,pP b3 0),(5,pP b5 0)]) (fun ((a,c,mo),(ks,ms))=>[PRes.b b3 25 [pL Za.enc p1.Lines,pI p1.Total],PRes.b b5 64 [pO a ks.length c,.v (.map mo)],PRes.row a ks.length c 67 2 (ks.map Zb.enc),PRes.mp mo (ew Zb.key vI ms)]) (fun (_,z)=>q1=z) ?_ ?_
 ·refine an ?_
  refine aY (Y:=Option Addr×Nat×Option Nat) (S:=List Zb×List (Zb×Int)×Int) _ hq1 (fun _ (_,_,i)=>[(3,pP b3 0),(5,pP b5 0),(15,pL Za.enc p0.Lines),(16,pI (p0.Lines.length:Int)),(17,pI i)]) (fun (a,c,mo) (ks,ms,_)=>[PRes.b b3 25 [pL Za.enc p1.Lines,pI p1.Total],PRes.b b5 64 [pO a ks.length c,.v (.map mo)],PRes.row a ks.length c 67 2 (ks.map Zb.enc),PRes.mp mo (ew Zb.key vI ms)]) (none,0,none) (by (repeat (first | exact lw | apply dK rfl))) (by (repeat (first | exact bD | (apply bv;(focus (repeat (first | exact aZ | apply aR))))))) ?_
  rintro ⟨a,c,mo⟩ ⟨ks,ms,i⟩ o τ hb;(try dsimp only at hb);dsimp only [aF]
  refine af ?_
  refine aD [] [] [(18,pB (decide (i<(p0.Lines.length:Int))))] bA (by kernel_rfl) ?_
  (repeat (first | apply aj | apply aH))
  refine af ?_
  refine fE rfl (fun hc=>?_) (fun hc=>?_)
  ·replace hb:=ns hc hb
   refine ag ?_
   (repeat (first | apply aj | apply aH))
   refine aa hb ?_;clear hb;intro x hx hb
   refine aa hb ?_;clear hb;intro r1 hr1 hb
   refine af ?_
   refine an ?_
   refine af ?_
   refine ae ?_
   refine bd 2 [] [19] [(20,.agg (Za.enc x))] (eH 0 Za.enc hx bA) (by kernel_rfl) ?_
   refine jm rfl rfl rfl (be (cs:=[pI 0,pI 0,pI 0,pI 0,pI 0]) rfl rfl rfl rfl (fun b7=>?_))
   refine aQ rfl rfl (ak (vs:=(cD x)) rfl rfl rfl rfl rfl (by (repeat (first | exact cn | apply cA))) (by (repeat (first | exact vp | apply dg | apply bQ))) ?_)
   refine az ?_
   (repeat (first | apply aj | apply aH))
   refine ae ?_
   refine bd 8 [0,0,0] [21,22,23,24,26,27] [(25,.agg [pI x.Kind,pI x.Measure]),(28,pI (IntKind.i64.wrap (0 - x.Amount)))] bA (by kernel_rfl) ?_
   refine jm rfl rfl rfl (aV rfl rfl (ρ1:=[_,_,_]) (aC (by (repeat (first | exact aZ | apply aR))) (aC (by (repeat (first | exact aZ | apply aR))) (aC (by (repeat (first | exact aZ | apply aR))) (List.Perm.refl _)))) (yD hr1) ?_);rintro _ _ ⟨rfl,a',c',mb,rfl⟩
   refine az ?_
   (repeat (first | apply aj | apply aH))
   refine aD [] [30] [(17,pI (IntKind.i64.wrap (i+1)))] bA (by kernel_rfl) ?_
   (repeat apply aj)
   exact bm hb (a',c',some mb) (by (repeat (first | exact lw | apply dK rfl))) (by (repeat (first | exact bD | (apply bv;(focus (repeat (first | exact aZ | apply aR)))))))
  replace hb:=nt hc hb
  refine ba ?_
  (repeat (first | apply aI | apply kG | apply kH | apply hQ rfl))
  refine aB hb (fun ht=>?_)
  refine aG rfl ?_
  exact au ((a,c,mo),(ks,ms)) (by (repeat (first | exact lw | apply dK rfl))) (by (repeat (first | exact bD | (apply bv;(focus (repeat (first | exact aZ | apply aR))))))) ht.symm
 rintro ⟨⟨a,c,mo⟩,⟨ks,ms⟩⟩ τ hz;(try dsimp only at hz);subst hz;(try dsimp only at h);dsimp only [aF]
 refine af ?_
 refine af ?_
 refine aD [0] [31] [(32,pL Za.enc p1.Lines),(33,pI (p1.Lines.length:Int)),(34,pI 0)] bA (by kernel_rfl) ?_
 (repeat (first | apply aj | apply aH))
 refine aa h ?_;clear h;intro q2 hq2 h;unfold jT at hq2;dsimp only at hq2
 refine av (Y:=(Option Addr×Nat×Option Nat)×(List Zb×List (Zb×Int))) (fun _=>[(5,pP b5 0)]) (fun ((a,c,mo),(ks,ms))=>[PRes.b b5 64 [pO a ks.length c,.v (.map mo)],PRes.row a ks.length c 67 2 (ks.map Zb.enc),PRes.mp mo (ew Zb.key vI ms)]) (fun (_,z)=>q2=z) ?_ ?_
 ·refine an ?_
  refine aY (Y:=Option Addr×Nat×Option Nat) (S:=List Zb×List (Zb×Int)×Int) _ hq2 (fun _ (_,_,i)=>[(5,pP b5 0),(32,pL Za.enc p1.Lines),(33,pI (p1.Lines.length:Int)),(34,pI i)]) (fun (a,c,mo) (ks,ms,_)=>[PRes.b b5 64 [pO a ks.length c,.v (.map mo)],PRes.row a ks.length c 67 2 (ks.map Zb.enc),PRes.mp mo (ew Zb.key vI ms)]) (a,c,mo) (by (repeat (first | exact lw | apply dK rfl))) (by (repeat (first | exact bD | (apply bv;(focus (repeat (first | exact aZ | apply aR))))))) ?_
  rintro ⟨a,c,mo⟩ ⟨ks,ms,i⟩ o τ hb;(try dsimp only at hb);dsimp only [aF]
  refine af ?_
  refine aD [] [] [(35,pB (decide (i<(p1.Lines.length:Int))))] bA (by kernel_rfl) ?_
  (repeat (first | apply aj | apply aH))
  refine af ?_
  refine fE rfl (fun hc=>?_) (fun hc=>?_)
  ·replace hb:=ns hc hb
   refine ag ?_
   (repeat (first | apply aj | apply aH))
   refine aa hb ?_;clear hb;intro x hx hb
   refine aa hb ?_;clear hb;intro r1 hr1 hb
   refine af ?_
   refine an ?_
   refine af ?_
   refine ae ?_
   refine bd 2 [] [36] [(37,.agg (Za.enc x))] (eH 0 Za.enc hx bA) (by kernel_rfl) ?_
   refine jm rfl rfl rfl (be (cs:=[pI 0,pI 0,pI 0,pI 0,pI 0]) rfl rfl rfl rfl (fun b9=>?_))
   refine aQ rfl rfl (ak (vs:=(cD x)) rfl rfl rfl rfl rfl (by (repeat (first | exact cn | apply cA))) (by (repeat (first | exact vp | apply dg | apply bQ))) ?_)
   refine az ?_
   (repeat (first | apply aj | apply aH))
   refine ae ?_
   refine bd 7 [0,0,0] [38,39,40,41,43] [(42,.agg [pI x.Kind,pI x.Measure]),(44,pI x.Amount)] bA (by kernel_rfl) ?_
   refine jm rfl rfl rfl (aV rfl rfl (ρ1:=[_,_,_]) (aC (by (repeat (first | exact aZ | apply aR))) (aC (by (repeat (first | exact aZ | apply aR))) (aC (by (repeat (first | exact aZ | apply aR))) (List.Perm.refl _)))) (yD hr1) ?_);rintro _ _ ⟨rfl,a',c',mb,rfl⟩
   refine az ?_
   (repeat (first | apply aj | apply aH))
   refine aD [] [46] [(34,pI (IntKind.i64.wrap (i+1)))] bA (by kernel_rfl) ?_
   (repeat apply aj)
   exact bm hb (a',c',some mb) (by (repeat (first | exact lw | apply dK rfl))) (by (repeat (first | exact bD | (apply bv;(focus (repeat (first | exact aZ | apply aR)))))))
  replace hb:=nt hc hb
  refine ba ?_
  (repeat (first | apply aI | apply kG | apply kH | apply hQ rfl))
  refine aB hb (fun ht=>?_)
  refine aG rfl ?_
  exact au ((a,c,mo),(ks,ms)) (by (repeat (first | exact lw | apply dK rfl))) (by (repeat (first | exact bD | (apply bv;(focus (repeat (first | exact aZ | apply aR))))))) ht.symm
 rintro ⟨⟨a,c,mo⟩,⟨ks,ms⟩⟩ τ hz;(try dsimp only at hz);subst hz;(try dsimp only at h);dsimp only [aF]
 refine aa h ?_;clear h;intro kz hkz h
 refine aa h ?_;clear h;intro lo hlo h;unfold mZ at hlo;dsimp only at hlo
 refine af ?_
 refine ae ?_
 refine bd 2 [0] [47] [(48,pO a ks.length c)] bA (by kernel_rfl) ?_
 refine jm rfl rfl rfl (aV rfl rfl (ρ1:=[_]) (aC (by (repeat (first | exact aZ | apply aR))) (List.Perm.refl _)) (uU hkz) ?_);rintro _ _ ⟨rfl,rfl⟩
 refine az ?_
 (repeat (first | apply aj | apply aH))
 refine dn 37 5 ?_
 refine af ?_
 refine aD [] [] [(10,pN)] bA (by kernel_rfl) ?_
 (repeat (first | apply aj | apply aH))
 refine af ?_
 refine af ?_
 refine aD [2] [50] [(51,pO a ks.length c),(52,pI ((ks.length:Nat):Int)),(53,pI 0)] bA (by kernel_rfl) ?_
 (repeat (first | apply aj | apply aH))
 refine av (Y:=(Option Addr×Nat)×List Za) (fun ((aO,cO),l)=>[(10,pO aO l.length cO)]) (fun ((aO,cO),l)=>[PRes.row aO l.length cO 37 5 (l.map Za.enc)]) (fun (_,z)=>lo=z) ?_ ?_
 ·refine an ?_
  refine aY (Y:=Option Addr×Nat) (S:=List Za×Int) _ hlo (fun (aO,cO) (l,i)=>[(5,pP b5 0),(10,pO aO l.length cO),(51,pO a ks.length c),(52,pI ((ks.length:Nat):Int)),(53,pI i)]) (fun (aO,cO) (l,_)=>[PRes.b b5 64 [pO a ks.length c,.v (.map mo)],PRes.row a ks.length c 67 2 (kz.map Zb.enc),PRes.mp mo (ew Zb.key vI ms),PRes.row aO l.length cO 37 5 (l.map Za.enc)]) (none,0) (by (repeat (first | exact lw | apply dK rfl))) (by (repeat (first | exact bD | (apply bv;(focus (repeat (first | exact aZ | apply aR))))))) ?_
  rintro ⟨aO,cO⟩ ⟨l,i⟩ o τ hb;(try dsimp only at hb);dsimp only [aF]
  refine af ?_
  refine aD [] [] [(54,pB (decide (i<((ks.length:Nat):Int))))] bA (by kernel_rfl) ?_
  (repeat (first | apply aj | apply aH))
  refine af ?_
  refine fE rfl (fun hc=>?_) (fun hc=>?_)
  ·replace hb:=ns hc hb
   refine ag ?_
   (repeat (first | apply aj | apply aH))
   refine aa hb ?_;clear hb;intro k hk hb
   refine aa hb ?_;clear hb;intro l' hl' hb
   refine af ?_
   refine an ?_
   refine af ?_
   refine ae ?_
   refine bE rfl rfl rfl (bo (enc:=Zb.enc) (xs:=kz) rfl rfl rfl (.p rfl) (by (repeat (first | exact List.Mem.head _ | apply List.Mem.tail))) (.p rfl) (fun _=>hk)) ?_
   refine bE rfl rfl rfl (bj (sz:=2) (p:=.agg [pI k.kind,pI k.measure]) (enc:=Zb.enc) (xs:=kz) (a:=a) i 0 k rfl (.p rfl) rfl (by (repeat (first | exact List.Mem.head _ | apply List.Mem.tail))) (fun _=>hk) rfl) ?_
   refine jm rfl rfl rfl (be (cs:=[pI 0,pI 0]) rfl rfl rfl rfl (fun b12=>?_))
   refine aQ rfl rfl (ak (vs:=[pI k.kind,pI k.measure]) rfl rfl rfl rfl rfl (by (repeat (first | exact cn | apply cA))) (by (repeat (first | exact vp | apply dg | apply bQ))) ?_)
   refine az ?_
   (repeat (first | apply aj | apply aH))
   refine af ?_
   refine ae ?_
   refine bd 3 [1,0] [57] [(58,.v (.map mo)),(59,.agg [pI k.kind,pI k.measure])] bA (by kernel_rfl) ?_
   refine bE rfl rfl rfl (show POpQ _ _ _ _ (vI ((cr ms k).getD 0)) from nB (xs:=ms) (k:=k) (ek:=Zb.key) (vv:=vI) (z0:=0) rfl rfl rfl (fun _=>.v rfl) Zb.kenc67 (.p rfl) (.p rfl) nC (mO (by (repeat (first | exact List.Mem.head _ | apply List.Mem.tail))))) ?_
   refine gX [] [] [(13,pI ((cr ms k).getD 0))] bA (by kernel_rfl) ?_
   (repeat (first | apply aj | apply aH))
   refine af ?_
   refine aD [] [61] [(62,pB ((cr ms k).getD 0 != 0))] bA (by kernel_rfl) ?_
   (repeat (first | apply aj | apply aH))
   refine hI (Y:=Option Addr×Nat) (fun (aN,cN)=>[(5,pP b5 0),(10,pO aN l'.length cN),(51,pO a ks.length c),(52,pI ((ks.length:Nat):Int)),(53,pI i)]) (fun (aN,cN)=>[PRes.b b5 64 [pO a ks.length c,.v (.map mo)],PRes.row a ks.length c 67 2 (kz.map Zb.enc),PRes.mp mo (ew Zb.key vI ms),PRes.row aN l'.length cN 37 5 (l'.map Za.enc)]) (fun _=>True) ?_ ?_
   ·refine fE rfl (fun hd=>?_) (fun hd=>?_)
    ·replace hl':=ns hd hl'
     refine ae ?_
     refine bd 6 [0,0] [64,66] [(63,pO aO l.length cO),(65,pI k.kind),(67,pI k.measure),(68,pI ((cr ms k).getD 0))] bA (by kernel_rfl) ?_
     refine bE rfl rfl rfl (sV (cs:=[pI k.kind,pI k.measure,pI 0,pI 0,pI ((cr ms k).getD 0)]) rfl rfl rfl rfl rfl rfl rfl (by (repeat (first | exact zfn | (apply rA rfl rfl rfl rfl;(focus (repeat (first | exact vp | apply dg | apply bQ)))))))) ?_
     refine jm rfl rfl rfl (bW rfl rfl rfl rfl rfl (by (repeat (first | exact jD | apply eW rfl))) rfl rfl rfl rfl (fun bL=>?_))
     refine jm rfl rfl rfl (cV (enc:=Za.enc) rfl rfl rfl rfl rfl rfl rfl rfl rfl (by (repeat (first | exact List.Mem.head _ | apply List.Mem.tail))) (by (repeat (first | exact aZ | apply aR))) hl' (fun aN cN=>?_))
     refine gX [] [] [(10,pO aN l'.length cN)] bA (by kernel_rfl) ?_
     exact dM (aN,cN) (by (repeat (first | exact lw | apply dK rfl))) (by (repeat (first | exact bD | (apply bv;(focus (repeat (first | exact aZ | apply aR))))))) trivial
    replace hl':=nt hd hl'
    obtain rfl:=Option.some.inj hl'
    refine ag ?_
    exact dM (aO,cO) (by (repeat (first | exact lw | apply dK rfl))) (by (repeat (first | exact bD | (apply bv;(focus (repeat (first | exact aZ | apply aR))))))) trivial
   rintro ⟨aN,cN⟩ τ ρ1 hsub _;(try dsimp only at hsub);dsimp only [aF]
   (repeat (first | apply aj | apply aH))
   refine aD [] [72] [(53,pI (IntKind.i64.wrap (i+1)))] bA (by kernel_rfl) ?_
   (repeat apply aj)
   exact bm hb (aN,cN) (by (repeat (first | exact lw | apply dK rfl))) (PSub.trans (by (repeat (first | exact bD | (apply bv;(focus (repeat (first | exact aZ | apply aR))))))) hsub)
  replace hb:=nt hc hb
  refine ba ?_
  (repeat (first | apply aI | apply kG | apply kH | apply hQ rfl))
  refine aB hb (fun ht=>?_)
  refine aG rfl ?_
  exact au ((aO,cO),l) (by (repeat (first | exact lw | apply dK rfl))) (by (repeat (first | exact bD | (apply bv;(focus (repeat (first | exact aZ | apply aR))))))) ht.symm
 rintro ⟨⟨aO,cO⟩,l⟩ τ hz;(try dsimp only at hz);subst hz;(try dsimp only at h);dsimp only [aF]
 refine af ?_
 refine aD [] [73] [(4,pO aO lo.length cO)] bA (by kernel_rfl) ?_
 (repeat (first | apply aj | apply aH))
 refine e8 (enc:=Za.enc) (xs:=lo) 4 rfl (by (repeat (first | exact aZ | apply aR))) ?_
 refine cu ?_
 (repeat (first | apply aP | apply aw | apply bt | apply o7))
 obtain rfl:=Option.some.inj h
 exact aM (gp (aK rfl)) bD ⟨rfl,rfl⟩
end SX
end Go.Proofs.YtknkknahmebbfaaGreatDoor
