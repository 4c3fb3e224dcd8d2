/- AssessDifferenceRaw: for every input the law returns true, and each argument reads afterwards as it read before. Conditions: the package variables are as the program's text lays them (the card ties them). -/
import Derived.Test.YthbphcbhedmnoaaGreatDoorM3
import Derived.Test.YthbphcbhedmnoaaGreatDoorL2q
set_option linter.unusedVariables false
set_option linter.unusedSimpArgs false
set_option maxHeartbeats 4000000
set_option maxRecDepth 100000
namespace Go.Proofs.YthbphcbhedmnoaaGreatDoor
namespace SX
open Go
attribute [local irreducible] PWL PWC PWD POpL POpQ PEv PGuardIs PSub PPick PUpd PSplice PFill PLit PF PFV PCall FOk dg ce ew eM dG ex Cov PHolds bs idx app mk gd lb nz mn oF sub gt dW oA jc dK cg gF dX IntKind.wrap Int.tmod Int.tdiv Op.bytesLess strOfNums
def bS (p0:(List Za)) (p1:(List Za)):Option Bool:=(sub p0 0 (gF (p0.length:Int) 100)).bind fun l1=>(sub p1 0 (gF (p1.length:Int) 100)).bind fun l2=>(app 40 ([]:List Za) l1).bind fun l5=>(app 40 ([]:List Za) l2).bind fun l11=>(bs (S:=Int×(List Za)) (T:=((List Za))) (fun (v17,l19)=>cond (decide (v17<((l5.length:Nat):Int))) ((idx l19 v17).bind fun m28=>(du m28.Amount 1000).bind fun x29=>(idx l19 v17).bind fun m30=>some (.inl ((IntKind.i64.wrap (v17+1)),(l19.set v17.toNat (⟨m30.Kind,m30.Measure,m30.Quantity,m30.Value,x29⟩:Za))))) (some (.inr l19))) FUEL (0,l5)).bind fun l21=>(bs (S:=Int×(List Za)) (T:=((List Za))) (fun (v32,l34)=>cond (decide (v32<((l11.length:Nat):Int))) ((idx l34 v32).bind fun m43=>(du m43.Amount 1000).bind fun x44=>(idx l34 v32).bind fun m45=>some (.inl ((IntKind.i64.wrap (v32+1)),(l34.set v32.toNat (⟨m45.Kind,m45.Measure,m45.Quantity,m45.Value,x44⟩:Za))))) (some (.inr l34))) FUEL (0,l11)).bind fun l37=>(cY (⟨l21,0⟩:Zn) (⟨l37,0⟩:Zn)).bind fun x47=>(dq (⟨l21,0⟩:Zn) (⟨l37,0⟩:Zn)).bind fun x48=>(dF x47 x48).bind fun x49=>(gd x49 (gn)).bind fun x50=>some (x49&&x50)
theorem fF {p0:(List Za)} {p1:(List Za)} {r:Bool}  (h:bS p0 p1=some r):PF 4 [pL Za.enc p0,pL Za.enc p1] (pB r):=by
 unfold bS at h
 refine bC ?_
 refine aL Tryz.func4 rfl Tryz.ntmps4 Tryz.results4 rfl (ag (bi [4] (by kernel_rfl) ?_))
 (repeat (first | apply av | apply az))
 refine ag (ae h fun l1 hl1 h=>ae h fun l2 hl2 h=>ae h fun l5 hl5 h=>ae h fun l11 hl11 h=>?_)
 refine aQ (Y:=Option Addr×Nat×Option Addr×Nat×Nat×Nat) (fun (a6,c7,a12,c13,b15,b16)=>[(5,pP b15 0),(6,pP b16 0)]) (fun (a6,c7,a12,c13,b15,b16)=>[PRes.b b15 25 [pO a6 l5.length c7,pI 0],PRes.b b16 25 [pO a12 l11.length c13,pI 0],PRes.row a12 l11.length c13 37 5 (List.map Za.enc l11),PRes.row a6 l5.length c7 37 5 (List.map Za.enc l5)]) (fun _=>True) ?_ ?_
 ·refine eV (ρd:=[]) _ (by (repeat (first | exact List.Perm.refl _ | (refine bM (by (repeat (first | exact aF | apply aC))) ?_)))) ?_
  refine au 1 (by kernel_rfl) rfl rfl rfl rfl (bm (p:=pL Za.enc p0) rfl (.p rfl)) (au 2 (by kernel_rfl) rfl rfl rfl rfl (bm (p:=pL Za.enc p0) rfl (.p rfl)) (au 3 (by kernel_rfl) rfl rfl rfl rfl (qR (enc:=Za.enc) rfl rfl (.p rfl)) (au 4 (by kernel_rfl) rfl rfl rfl rfl (p7 rfl (.p rfl) (.p rfl)) (au 5 (by kernel_rfl) rfl rfl rfl rfl (mK (enc:=Za.enc) rfl rfl rfl (fun _=>rfl) (.p rfl) (.p rfl) (fun _=>hl1)) (au 9 (by kernel_rfl) rfl rfl rfl rfl (bm (p:=pL Za.enc p1) rfl (.p rfl)) (au 10 (by kernel_rfl) rfl rfl rfl rfl (bm (p:=pL Za.enc p1) rfl (.p rfl)) (au 11 (by kernel_rfl) rfl rfl rfl rfl (qR (enc:=Za.enc) rfl rfl (.p rfl)) (au 12 (by kernel_rfl) rfl rfl rfl rfl (p7 rfl (.p rfl) (.p rfl)) (au 13 (by kernel_rfl) rfl rfl rfl rfl (mK (enc:=Za.enc) rfl rfl rfl (fun _=>rfl) (.p rfl) (.p rfl) (fun _=>hl2)) ?_)))))))))
  refine oK 0 8 16 17 (by kernel_rfl) ?_ ?_ ?_ ?_
  ·skip
   refine af rfl rfl rfl rfl (aS rfl rfl rfl rfl rfl (by (repeat (first | exact dH | apply dA rfl))) rfl rfl rfl rfl (fun b3=>?_))
   refine oK 6 8 16 17 (by kernel_rfl) ?_ ?_ ?_ ?_
   ·skip
    refine af rfl rfl rfl rfl (al (enc:=Za.enc) rfl rfl rfl rfl rfl (fun _=>rfl) rfl rfl rfl (by (repeat (first | exact aF | apply aC))) hl5 (fun a6 c7=>?_))
    refine au 7 (by kernel_rfl) rfl rfl rfl rfl (ak (cs:=[pO a6 l5.length c7,pI 0]) rfl rfl rfl rfl rfl rfl rfl (by (repeat (first | exact bQ | (apply bO rfl rfl rfl rfl;(focus (repeat (first | exact aJ | apply aD | apply aI)))))))) ?_
    refine cD 8 16 17 (by kernel_rfl) ?_ ?_ ?_
    ·skip
     refine af rfl rfl rfl rfl (aS rfl rfl rfl rfl rfl (by (repeat (first | exact dH | apply dA rfl))) rfl rfl rfl rfl (fun b9=>?_))
     refine cD 14 16 17 (by kernel_rfl) ?_ ?_ ?_
     ·skip
      refine af rfl rfl rfl rfl (al (enc:=Za.enc) rfl rfl rfl rfl rfl (fun _=>rfl) rfl rfl rfl (by (repeat (first | exact aF | apply aC))) hl11 (fun a12 c13=>?_))
      refine au 15 (by kernel_rfl) rfl rfl rfl rfl (ak (cs:=[pO a12 l11.length c13,pI 0]) rfl rfl rfl rfl rfl rfl rfl (by (repeat (first | exact bQ | (apply bO rfl rfl rfl rfl;(focus (repeat (first | exact aJ | apply aD | apply aI)))))))) ?_
      refine aP 16 17 (by kernel_rfl) ?_ ?_
      ·skip
       refine af rfl rfl rfl rfl (an (cs:=[pN,pI 0]) rfl rfl rfl rfl (fun b15=>aa 17 (by kernel_rfl) (af rfl rfl rfl rfl (an (cs:=[pN,pI 0]) rfl rfl rfl rfl (fun b16=>aa 18 (by kernel_rfl) ?_)))))
       refine ai rfl rfl rfl (ah (vs:=[pO a6 l5.length c7,pI 0]) rfl rfl rfl rfl rfl (by (repeat (first | exact aY | apply ba))) (by (repeat (first | exact aJ | apply aD | apply aI))) ?_)
       refine aa 19 (by kernel_rfl) ?_
       refine ai rfl rfl rfl (ah (vs:=[pO a12 l11.length c13,pI 0]) rfl rfl rfl rfl rfl (by (repeat (first | exact aY | apply ba))) (by (repeat (first | exact aJ | apply aD | apply aI))) ?_)
       refine aw (by kernel_rfl) ?_
       exact aq (a6,c7,a12,c13,b15,b16) (by (repeat (first | exact bX | apply bq rfl))) (by (repeat (first | exact be | (apply bv;(focus (repeat (first | exact aF | apply aC))))))) trivial
      skip
      refine af rfl rfl rfl rfl (an (cs:=[pN,pI 0]) rfl rfl rfl rfl (fun b16=>aa 16 (by kernel_rfl) (af rfl rfl rfl rfl (an (cs:=[pN,pI 0]) rfl rfl rfl rfl (fun b15=>aa 18 (by kernel_rfl) ?_)))))
      refine ai rfl rfl rfl (ah (vs:=[pO a6 l5.length c7,pI 0]) rfl rfl rfl rfl rfl (by (repeat (first | exact aY | apply ba))) (by (repeat (first | exact aJ | apply aD | apply aI))) ?_)
      refine aa 19 (by kernel_rfl) ?_
      refine ai rfl rfl rfl (ah (vs:=[pO a12 l11.length c13,pI 0]) rfl rfl rfl rfl rfl (by (repeat (first | exact aY | apply ba))) (by (repeat (first | exact aJ | apply aD | apply aI))) ?_)
      refine aw (by kernel_rfl) ?_
      exact aq (a6,c7,a12,c13,b15,b16) (by (repeat (first | exact bX | apply bq rfl))) (by (repeat (first | exact be | (apply bv;(focus (repeat (first | exact aF | apply aC))))))) trivial
     ·skip
      refine af rfl rfl rfl rfl (an (cs:=[pN,pI 0]) rfl rfl rfl rfl (fun b15=>?_))
      refine aP 14 17 (by kernel_rfl) ?_ ?_
      ·skip
       refine af rfl rfl rfl rfl (al (enc:=Za.enc) rfl rfl rfl rfl rfl (fun _=>rfl) rfl rfl rfl (by (repeat (first | exact aF | apply aC))) hl11 (fun a12 c13=>?_))
       refine au 15 (by kernel_rfl) rfl rfl rfl rfl (ak (cs:=[pO a12 l11.length c13,pI 0]) rfl rfl rfl rfl rfl rfl rfl (by (repeat (first | exact bQ | (apply bO rfl rfl rfl rfl;(focus (repeat (first | exact aJ | apply aD | apply aI)))))))) ?_
       refine aa 17 (by kernel_rfl) (af rfl rfl rfl rfl (an (cs:=[pN,pI 0]) rfl rfl rfl rfl (fun b16=>aa 18 (by kernel_rfl) ?_)))
       refine ai rfl rfl rfl (ah (vs:=[pO a6 l5.length c7,pI 0]) rfl rfl rfl rfl rfl (by (repeat (first | exact aY | apply ba))) (by (repeat (first | exact aJ | apply aD | apply aI))) ?_)
       refine aa 19 (by kernel_rfl) ?_
       refine ai rfl rfl rfl (ah (vs:=[pO a12 l11.length c13,pI 0]) rfl rfl rfl rfl rfl (by (repeat (first | exact aY | apply ba))) (by (repeat (first | exact aJ | apply aD | apply aI))) ?_)
       refine aw (by kernel_rfl) ?_
       exact aq (a6,c7,a12,c13,b15,b16) (by (repeat (first | exact bX | apply bq rfl))) (by (repeat (first | exact be | (apply bv;(focus (repeat (first | exact aF | apply aC))))))) trivial
      skip
      refine af rfl rfl rfl rfl (an (cs:=[pN,pI 0]) rfl rfl rfl rfl (fun b16=>aa 14 (by kernel_rfl) ?_))
      refine af rfl rfl rfl rfl (al (enc:=Za.enc) rfl rfl rfl rfl rfl (fun _=>rfl) rfl rfl rfl (by (repeat (first | exact aF | apply aC))) hl11 (fun a12 c13=>?_))
      refine au 15 (by kernel_rfl) rfl rfl rfl rfl (ak (cs:=[pO a12 l11.length c13,pI 0]) rfl rfl rfl rfl rfl rfl rfl (by (repeat (first | exact bQ | (apply bO rfl rfl rfl rfl;(focus (repeat (first | exact aJ | apply aD | apply aI)))))))) ?_
      refine aa 18 (by kernel_rfl) ?_
      refine ai rfl rfl rfl (ah (vs:=[pO a6 l5.length c7,pI 0]) rfl rfl rfl rfl rfl (by (repeat (first | exact aY | apply ba))) (by (repeat (first | exact aJ | apply aD | apply aI))) ?_)
      refine aa 19 (by kernel_rfl) ?_
      refine ai rfl rfl rfl (ah (vs:=[pO a12 l11.length c13,pI 0]) rfl rfl rfl rfl rfl (by (repeat (first | exact aY | apply ba))) (by (repeat (first | exact aJ | apply aD | apply aI))) ?_)
      refine aw (by kernel_rfl) ?_
      exact aq (a6,c7,a12,c13,b15,b16) (by (repeat (first | exact bX | apply bq rfl))) (by (repeat (first | exact be | (apply bv;(focus (repeat (first | exact aF | apply aC))))))) trivial
     skip
     refine af rfl rfl rfl rfl (an (cs:=[pN,pI 0]) rfl rfl rfl rfl (fun b16=>?_))
     refine aP 14 16 (by kernel_rfl) ?_ ?_
     ·skip
      refine af rfl rfl rfl rfl (al (enc:=Za.enc) rfl rfl rfl rfl rfl (fun _=>rfl) rfl rfl rfl (by (repeat (first | exact aF | apply aC))) hl11 (fun a12 c13=>?_))
      refine au 15 (by kernel_rfl) rfl rfl rfl rfl (ak (cs:=[pO a12 l11.length c13,pI 0]) rfl rfl rfl rfl rfl rfl rfl (by (repeat (first | exact bQ | (apply bO rfl rfl rfl rfl;(focus (repeat (first | exact aJ | apply aD | apply aI)))))))) ?_
      refine aa 16 (by kernel_rfl) (af rfl rfl rfl rfl (an (cs:=[pN,pI 0]) rfl rfl rfl rfl (fun b15=>aa 18 (by kernel_rfl) ?_)))
      refine ai rfl rfl rfl (ah (vs:=[pO a6 l5.length c7,pI 0]) rfl rfl rfl rfl rfl (by (repeat (first | exact aY | apply ba))) (by (repeat (first | exact aJ | apply aD | apply aI))) ?_)
      refine aa 19 (by kernel_rfl) ?_
      refine ai rfl rfl rfl (ah (vs:=[pO a12 l11.length c13,pI 0]) rfl rfl rfl rfl rfl (by (repeat (first | exact aY | apply ba))) (by (repeat (first | exact aJ | apply aD | apply aI))) ?_)
      refine aw (by kernel_rfl) ?_
      exact aq (a6,c7,a12,c13,b15,b16) (by (repeat (first | exact bX | apply bq rfl))) (by (repeat (first | exact be | (apply bv;(focus (repeat (first | exact aF | apply aC))))))) trivial
     skip
     refine af rfl rfl rfl rfl (an (cs:=[pN,pI 0]) rfl rfl rfl rfl (fun b15=>aa 14 (by kernel_rfl) ?_))
     refine af rfl rfl rfl rfl (al (enc:=Za.enc) rfl rfl rfl rfl rfl (fun _=>rfl) rfl rfl rfl (by (repeat (first | exact aF | apply aC))) hl11 (fun a12 c13=>?_))
     refine au 15 (by kernel_rfl) rfl rfl rfl rfl (ak (cs:=[pO a12 l11.length c13,pI 0]) rfl rfl rfl rfl rfl rfl rfl (by (repeat (first | exact bQ | (apply bO rfl rfl rfl rfl;(focus (repeat (first | exact aJ | apply aD | apply aI)))))))) ?_
     refine aa 18 (by kernel_rfl) ?_
     refine ai rfl rfl rfl (ah (vs:=[pO a6 l5.length c7,pI 0]) rfl rfl rfl rfl rfl (by (repeat (first | exact aY | apply ba))) (by (repeat (first | exact aJ | apply aD | apply aI))) ?_)
     refine aa 19 (by kernel_rfl) ?_
     refine ai rfl rfl rfl (ah (vs:=[pO a12 l11.length c13,pI 0]) rfl rfl rfl rfl rfl (by (repeat (first | exact aY | apply ba))) (by (repeat (first | exact aJ | apply aD | apply aI))) ?_)
     refine aw (by kernel_rfl) ?_
     exact aq (a6,c7,a12,c13,b15,b16) (by (repeat (first | exact bX | apply bq rfl))) (by (repeat (first | exact be | (apply bv;(focus (repeat (first | exact aF | apply aC))))))) trivial
    ·skip
     refine af rfl rfl rfl rfl (an (cs:=[pN,pI 0]) rfl rfl rfl rfl (fun b15=>?_))
     refine aP 8 17 (by kernel_rfl) ?_ ?_
     ·skip
      refine af rfl rfl rfl rfl (aS rfl rfl rfl rfl rfl (by (repeat (first | exact dH | apply dA rfl))) rfl rfl rfl rfl (fun b9=>?_))
      refine aP 14 17 (by kernel_rfl) ?_ ?_
      ·skip
       refine af rfl rfl rfl rfl (al (enc:=Za.enc) rfl rfl rfl rfl rfl (fun _=>rfl) rfl rfl rfl (by (repeat (first | exact aF | apply aC))) hl11 (fun a12 c13=>?_))
       refine au 15 (by kernel_rfl) rfl rfl rfl rfl (ak (cs:=[pO a12 l11.length c13,pI 0]) rfl rfl rfl rfl rfl rfl rfl (by (repeat (first | exact bQ | (apply bO rfl rfl rfl rfl;(focus (repeat (first | exact aJ | apply aD | apply aI)))))))) ?_
       refine aa 17 (by kernel_rfl) (af rfl rfl rfl rfl (an (cs:=[pN,pI 0]) rfl rfl rfl rfl (fun b16=>aa 18 (by kernel_rfl) ?_)))
       refine ai rfl rfl rfl (ah (vs:=[pO a6 l5.length c7,pI 0]) rfl rfl rfl rfl rfl (by (repeat (first | exact aY | apply ba))) (by (repeat (first | exact aJ | apply aD | apply aI))) ?_)
       refine aa 19 (by kernel_rfl) ?_
       refine ai rfl rfl rfl (ah (vs:=[pO a12 l11.length c13,pI 0]) rfl rfl rfl rfl rfl (by (repeat (first | exact aY | apply ba))) (by (repeat (first | exact aJ | apply aD | apply aI))) ?_)
       refine aw (by kernel_rfl) ?_
       exact aq (a6,c7,a12,c13,b15,b16) (by (repeat (first | exact bX | apply bq rfl))) (by (repeat (first | exact be | (apply bv;(focus (repeat (first | exact aF | apply aC))))))) trivial
      skip
      refine af rfl rfl rfl rfl (an (cs:=[pN,pI 0]) rfl rfl rfl rfl (fun b16=>aa 14 (by kernel_rfl) ?_))
      refine af rfl rfl rfl rfl (al (enc:=Za.enc) rfl rfl rfl rfl rfl (fun _=>rfl) rfl rfl rfl (by (repeat (first | exact aF | apply aC))) hl11 (fun a12 c13=>?_))
      refine au 15 (by kernel_rfl) rfl rfl rfl rfl (ak (cs:=[pO a12 l11.length c13,pI 0]) rfl rfl rfl rfl rfl rfl rfl (by (repeat (first | exact bQ | (apply bO rfl rfl rfl rfl;(focus (repeat (first | exact aJ | apply aD | apply aI)))))))) ?_
      refine aa 18 (by kernel_rfl) ?_
      refine ai rfl rfl rfl (ah (vs:=[pO a6 l5.length c7,pI 0]) rfl rfl rfl rfl rfl (by (repeat (first | exact aY | apply ba))) (by (repeat (first | exact aJ | apply aD | apply aI))) ?_)
      refine aa 19 (by kernel_rfl) ?_
      refine ai rfl rfl rfl (ah (vs:=[pO a12 l11.length c13,pI 0]) rfl rfl rfl rfl rfl (by (repeat (first | exact aY | apply ba))) (by (repeat (first | exact aJ | apply aD | apply aI))) ?_)
      refine aw (by kernel_rfl) ?_
      exact aq (a6,c7,a12,c13,b15,b16) (by (repeat (first | exact bX | apply bq rfl))) (by (repeat (first | exact be | (apply bv;(focus (repeat (first | exact aF | apply aC))))))) trivial
     skip
     refine af rfl rfl rfl rfl (an (cs:=[pN,pI 0]) rfl rfl rfl rfl (fun b16=>aa 8 (by kernel_rfl) ?_))
     refine af rfl rfl rfl rfl (aS rfl rfl rfl rfl rfl (by (repeat (first | exact dH | apply dA rfl))) rfl rfl rfl rfl (fun b9=>?_))
     refine aa 14 (by kernel_rfl) ?_
     refine af rfl rfl rfl rfl (al (enc:=Za.enc) rfl rfl rfl rfl rfl (fun _=>rfl) rfl rfl rfl (by (repeat (first | exact aF | apply aC))) hl11 (fun a12 c13=>?_))
     refine au 15 (by kernel_rfl) rfl rfl rfl rfl (ak (cs:=[pO a12 l11.length c13,pI 0]) rfl rfl rfl rfl rfl rfl rfl (by (repeat (first | exact bQ | (apply bO rfl rfl rfl rfl;(focus (repeat (first | exact aJ | apply aD | apply aI)))))))) ?_
     refine aa 18 (by kernel_rfl) ?_
     refine ai rfl rfl rfl (ah (vs:=[pO a6 l5.length c7,pI 0]) rfl rfl rfl rfl rfl (by (repeat (first | exact aY | apply ba))) (by (repeat (first | exact aJ | apply aD | apply aI))) ?_)
     refine aa 19 (by kernel_rfl) ?_
     refine ai rfl rfl rfl (ah (vs:=[pO a12 l11.length c13,pI 0]) rfl rfl rfl rfl rfl (by (repeat (first | exact aY | apply ba))) (by (repeat (first | exact aJ | apply aD | apply aI))) ?_)
     refine aw (by kernel_rfl) ?_
     exact aq (a6,c7,a12,c13,b15,b16) (by (repeat (first | exact bX | apply bq rfl))) (by (repeat (first | exact be | (apply bv;(focus (repeat (first | exact aF | apply aC))))))) trivial
    skip
    refine af rfl rfl rfl rfl (an (cs:=[pN,pI 0]) rfl rfl rfl rfl (fun b16=>?_))
    refine aP 8 16 (by kernel_rfl) ?_ ?_
    ·skip
     refine af rfl rfl rfl rfl (aS rfl rfl rfl rfl rfl (by (repeat (first | exact dH | apply dA rfl))) rfl rfl rfl rfl (fun b9=>?_))
     refine aP 14 16 (by kernel_rfl) ?_ ?_
     ·skip
      refine af rfl rfl rfl rfl (al (enc:=Za.enc) rfl rfl rfl rfl rfl (fun _=>rfl) rfl rfl rfl (by (repeat (first | exact aF | apply aC))) hl11 (fun a12 c13=>?_))
      refine au 15 (by kernel_rfl) rfl rfl rfl rfl (ak (cs:=[pO a12 l11.length c13,pI 0]) rfl rfl rfl rfl rfl rfl rfl (by (repeat (first | exact bQ | (apply bO rfl rfl rfl rfl;(focus (repeat (first | exact aJ | apply aD | apply aI)))))))) ?_
      refine aa 16 (by kernel_rfl) (af rfl rfl rfl rfl (an (cs:=[pN,pI 0]) rfl rfl rfl rfl (fun b15=>aa 18 (by kernel_rfl) ?_)))
      refine ai rfl rfl rfl (ah (vs:=[pO a6 l5.length c7,pI 0]) rfl rfl rfl rfl rfl (by (repeat (first | exact aY | apply ba))) (by (repeat (first | exact aJ | apply aD | apply aI))) ?_)
      refine aa 19 (by kernel_rfl) ?_
      refine ai rfl rfl rfl (ah (vs:=[pO a12 l11.length c13,pI 0]) rfl rfl rfl rfl rfl (by (repeat (first | exact aY | apply ba))) (by (repeat (first | exact aJ | apply aD | apply aI))) ?_)
      refine aw (by kernel_rfl) ?_
      exact aq (a6,c7,a12,c13,b15,b16) (by (repeat (first | exact bX | apply bq rfl))) (by (repeat (first | exact be | (apply bv;(focus (repeat (first | exact aF | apply aC))))))) trivial
     skip
     refine af rfl rfl rfl rfl (an (cs:=[pN,pI 0]) rfl rfl rfl rfl (fun b15=>aa 14 (by kernel_rfl) ?_))
     refine af rfl rfl rfl rfl (al (enc:=Za.enc) rfl rfl rfl rfl rfl (fun _=>rfl) rfl rfl rfl (by (repeat (first | exact aF | apply aC))) hl11 (fun a12 c13=>?_))
     refine au 15 (by kernel_rfl) rfl rfl rfl rfl (ak (cs:=[pO a12 l11.length c13,pI 0]) rfl rfl rfl rfl rfl rfl rfl (by (repeat (first | exact bQ | (apply bO rfl rfl rfl rfl;(focus (repeat (first | exact aJ | apply aD | apply aI)))))))) ?_
     refine aa 18 (by kernel_rfl) ?_
     refine ai rfl rfl rfl (ah (vs:=[pO a6 l5.length c7,pI 0]) rfl rfl rfl rfl rfl (by (repeat (first | exact aY | apply ba))) (by (repeat (first | exact aJ | apply aD | apply aI))) ?_)
     refine aa 19 (by kernel_rfl) ?_
     refine ai rfl rfl rfl (ah (vs:=[pO a12 l11.length c13,pI 0]) rfl rfl rfl rfl rfl (by (repeat (first | exact aY | apply ba))) (by (repeat (first | exact aJ | apply aD | apply aI))) ?_)
     refine aw (by kernel_rfl) ?_
     exact aq (a6,c7,a12,c13,b15,b16) (by (repeat (first | exact bX | apply bq rfl))) (by (repeat (first | exact be | (apply bv;(focus (repeat (first | exact aF | apply aC))))))) trivial
    skip
    refine af rfl rfl rfl rfl (an (cs:=[pN,pI 0]) rfl rfl rfl rfl (fun b15=>aa 8 (by kernel_rfl) ?_))
    refine af rfl rfl rfl rfl (aS rfl rfl rfl rfl rfl (by (repeat (first | exact dH | apply dA rfl))) rfl rfl rfl rfl (fun b9=>?_))
    refine aa 14 (by kernel_rfl) ?_
    refine af rfl rfl rfl rfl (al (enc:=Za.enc) rfl rfl rfl rfl rfl (fun _=>rfl) rfl rfl rfl (by (repeat (first | exact aF | apply aC))) hl11 (fun a12 c13=>?_))
    refine au 15 (by kernel_rfl) rfl rfl rfl rfl (ak (cs:=[pO a12 l11.length c13,pI 0]) rfl rfl rfl rfl rfl rfl rfl (by (repeat (first | exact bQ | (apply bO rfl rfl rfl rfl;(focus (repeat (first | exact aJ | apply aD | apply aI)))))))) ?_
    refine aa 18 (by kernel_rfl) ?_
    refine ai rfl rfl rfl (ah (vs:=[pO a6 l5.length c7,pI 0]) rfl rfl rfl rfl rfl (by (repeat (first | exact aY | apply ba))) (by (repeat (first | exact aJ | apply aD | apply aI))) ?_)
    refine aa 19 (by kernel_rfl) ?_
    refine ai rfl rfl rfl (ah (vs:=[pO a12 l11.length c13,pI 0]) rfl rfl rfl rfl rfl (by (repeat (first | exact aY | apply ba))) (by (repeat (first | exact aJ | apply aD | apply aI))) ?_)
    refine aw (by kernel_rfl) ?_
    exact aq (a6,c7,a12,c13,b15,b16) (by (repeat (first | exact bX | apply bq rfl))) (by (repeat (first | exact be | (apply bv;(focus (repeat (first | exact aF | apply aC))))))) trivial
   ·skip
    refine af rfl rfl rfl rfl (aS rfl rfl rfl rfl rfl (by (repeat (first | exact dH | apply dA rfl))) rfl rfl rfl rfl (fun b9=>?_))
    refine cD 6 16 17 (by kernel_rfl) ?_ ?_ ?_
    ·skip
     refine af rfl rfl rfl rfl (al (enc:=Za.enc) rfl rfl rfl rfl rfl (fun _=>rfl) rfl rfl rfl (by (repeat (first | exact aF | apply aC))) hl5 (fun a6 c7=>?_))
     refine au 7 (by kernel_rfl) rfl rfl rfl rfl (ak (cs:=[pO a6 l5.length c7,pI 0]) rfl rfl rfl rfl rfl rfl rfl (by (repeat (first | exact bQ | (apply bO rfl rfl rfl rfl;(focus (repeat (first | exact aJ | apply aD | apply aI)))))))) ?_
     refine cD 14 16 17 (by kernel_rfl) ?_ ?_ ?_
     ·skip
      refine af rfl rfl rfl rfl (al (enc:=Za.enc) rfl rfl rfl rfl rfl (fun _=>rfl) rfl rfl rfl (by (repeat (first | exact aF | apply aC))) hl11 (fun a12 c13=>?_))
      refine au 15 (by kernel_rfl) rfl rfl rfl rfl (ak (cs:=[pO a12 l11.length c13,pI 0]) rfl rfl rfl rfl rfl rfl rfl (by (repeat (first | exact bQ | (apply bO rfl rfl rfl rfl;(focus (repeat (first | exact aJ | apply aD | apply aI)))))))) ?_
      refine aP 16 17 (by kernel_rfl) ?_ ?_
      ·skip
       refine af rfl rfl rfl rfl (an (cs:=[pN,pI 0]) rfl rfl rfl rfl (fun b15=>aa 17 (by kernel_rfl) (af rfl rfl rfl rfl (an (cs:=[pN,pI 0]) rfl rfl rfl rfl (fun b16=>aa 18 (by kernel_rfl) ?_)))))
       refine ai rfl rfl rfl (ah (vs:=[pO a6 l5.length c7,pI 0]) rfl rfl rfl rfl rfl (by (repeat (first | exact aY | apply ba))) (by (repeat (first | exact aJ | apply aD | apply aI))) ?_)
       refine aa 19 (by kernel_rfl) ?_
       refine ai rfl rfl rfl (ah (vs:=[pO a12 l11.length c13,pI 0]) rfl rfl rfl rfl rfl (by (repeat (first | exact aY | apply ba))) (by (repeat (first | exact aJ | apply aD | apply aI))) ?_)
       refine aw (by kernel_rfl) ?_
       exact aq (a6,c7,a12,c13,b15,b16) (by (repeat (first | exact bX | apply bq rfl))) (by (repeat (first | exact be | (apply bv;(focus (repeat (first | exact aF | apply aC))))))) trivial
      skip
      refine af rfl rfl rfl rfl (an (cs:=[pN,pI 0]) rfl rfl rfl rfl (fun b16=>aa 16 (by kernel_rfl) (af rfl rfl rfl rfl (an (cs:=[pN,pI 0]) rfl rfl rfl rfl (fun b15=>aa 18 (by kernel_rfl) ?_)))))
      refine ai rfl rfl rfl (ah (vs:=[pO a6 l5.length c7,pI 0]) rfl rfl rfl rfl rfl (by (repeat (first | exact aY | apply ba))) (by (repeat (first | exact aJ | apply aD | apply aI))) ?_)
      refine aa 19 (by kernel_rfl) ?_
      refine ai rfl rfl rfl (ah (vs:=[pO a12 l11.length c13,pI 0]) rfl rfl rfl rfl rfl (by (repeat (first | exact aY | apply ba))) (by (repeat (first | exact aJ | apply aD | apply aI))) ?_)
      refine aw (by kernel_rfl) ?_
      exact aq (a6,c7,a12,c13,b15,b16) (by (repeat (first | exact bX | apply bq rfl))) (by (repeat (first | exact be | (apply bv;(focus (repeat (first | exact aF | apply aC))))))) trivial
     ·skip
      refine af rfl rfl rfl rfl (an (cs:=[pN,pI 0]) rfl rfl rfl rfl (fun b15=>?_))
      refine aP 14 17 (by kernel_rfl) ?_ ?_
      ·skip
       refine af rfl rfl rfl rfl (al (enc:=Za.enc) rfl rfl rfl rfl rfl (fun _=>rfl) rfl rfl rfl (by (repeat (first | exact aF | apply aC))) hl11 (fun a12 c13=>?_))
       refine au 15 (by kernel_rfl) rfl rfl rfl rfl (ak (cs:=[pO a12 l11.length c13,pI 0]) rfl rfl rfl rfl rfl rfl rfl (by (repeat (first | exact bQ | (apply bO rfl rfl rfl rfl;(focus (repeat (first | exact aJ | apply aD | apply aI)))))))) ?_
       refine aa 17 (by kernel_rfl) (af rfl rfl rfl rfl (an (cs:=[pN,pI 0]) rfl rfl rfl rfl (fun b16=>aa 18 (by kernel_rfl) ?_)))
       refine ai rfl rfl rfl (ah (vs:=[pO a6 l5.length c7,pI 0]) rfl rfl rfl rfl rfl (by (repeat (first | exact aY | apply ba))) (by (repeat (first | exact aJ | apply aD | apply aI))) ?_)
       refine aa 19 (by kernel_rfl) ?_
       refine ai rfl rfl rfl (ah (vs:=[pO a12 l11.length c13,pI 0]) rfl rfl rfl rfl rfl (by (repeat (first | exact aY | apply ba))) (by (repeat (first | exact aJ | apply aD | apply aI))) ?_)
       refine aw (by kernel_rfl) ?_
       exact aq (a6,c7,a12,c13,b15,b16) (by (repeat (first | exact bX | apply bq rfl))) (by (repeat (first | exact be | (apply bv;(focus (repeat (first | exact aF | apply aC))))))) trivial
      skip
      refine af rfl rfl rfl rfl (an (cs:=[pN,pI 0]) rfl rfl rfl rfl (fun b16=>aa 14 (by kernel_rfl) ?_))
      refine af rfl rfl rfl rfl (al (enc:=Za.enc) rfl rfl rfl rfl rfl (fun _=>rfl) rfl rfl rfl (by (repeat (first | exact aF | apply aC))) hl11 (fun a12 c13=>?_))
      refine au 15 (by kernel_rfl) rfl rfl rfl rfl (ak (cs:=[pO a12 l11.length c13,pI 0]) rfl rfl rfl rfl rfl rfl rfl (by (repeat (first | exact bQ | (apply bO rfl rfl rfl rfl;(focus (repeat (first | exact aJ | apply aD | apply aI)))))))) ?_
      refine aa 18 (by kernel_rfl) ?_
      refine ai rfl rfl rfl (ah (vs:=[pO a6 l5.length c7,pI 0]) rfl rfl rfl rfl rfl (by (repeat (first | exact aY | apply ba))) (by (repeat (first | exact aJ | apply aD | apply aI))) ?_)
      refine aa 19 (by kernel_rfl) ?_
      refine ai rfl rfl rfl (ah (vs:=[pO a12 l11.length c13,pI 0]) rfl rfl rfl rfl rfl (by (repeat (first | exact aY | apply ba))) (by (repeat (first | exact aJ | apply aD | apply aI))) ?_)
      refine aw (by kernel_rfl) ?_
      exact aq (a6,c7,a12,c13,b15,b16) (by (repeat (first | exact bX | apply bq rfl))) (by (repeat (first | exact be | (apply bv;(focus (repeat (first | exact aF | apply aC))))))) trivial
     skip
     refine af rfl rfl rfl rfl (an (cs:=[pN,pI 0]) rfl rfl rfl rfl (fun b16=>?_))
     refine aP 14 16 (by kernel_rfl) ?_ ?_
     ·skip
      refine af rfl rfl rfl rfl (al (enc:=Za.enc) rfl rfl rfl rfl rfl (fun _=>rfl) rfl rfl rfl (by (repeat (first | exact aF | apply aC))) hl11 (fun a12 c13=>?_))
      refine au 15 (by kernel_rfl) rfl rfl rfl rfl (ak (cs:=[pO a12 l11.length c13,pI 0]) rfl rfl rfl rfl rfl rfl rfl (by (repeat (first | exact bQ | (apply bO rfl rfl rfl rfl;(focus (repeat (first | exact aJ | apply aD | apply aI)))))))) ?_
      refine aa 16 (by kernel_rfl) (af rfl rfl rfl rfl (an (cs:=[pN,pI 0]) rfl rfl rfl rfl (fun b15=>aa 18 (by kernel_rfl) ?_)))
      refine ai rfl rfl rfl (ah (vs:=[pO a6 l5.length c7,pI 0]) rfl rfl rfl rfl rfl (by (repeat (first | exact aY | apply ba))) (by (repeat (first | exact aJ | apply aD | apply aI))) ?_)
      refine aa 19 (by kernel_rfl) ?_
      refine ai rfl rfl rfl (ah (vs:=[pO a12 l11.length c13,pI 0]) rfl rfl rfl rfl rfl (by (repeat (first | exact aY | apply ba))) (by (repeat (first | exact aJ | apply aD | apply aI))) ?_)
      refine aw (by kernel_rfl) ?_
      exact aq (a6,c7,a12,c13,b15,b16) (by (repeat (first | exact bX | apply bq rfl))) (by (repeat (first | exact be | (apply bv;(focus (repeat (first | exact aF | apply aC))))))) trivial
     skip
     refine af rfl rfl rfl rfl (an (cs:=[pN,pI 0]) rfl rfl rfl rfl (fun b15=>aa 14 (by kernel_rfl) ?_))
     refine af rfl rfl rfl rfl (al (enc:=Za.enc) rfl rfl rfl rfl rfl (fun _=>rfl) rfl rfl rfl (by (repeat (first | exact aF | apply aC))) hl11 (fun a12 c13=>?_))
     refine au 15 (by kernel_rfl) rfl rfl rfl rfl (ak (cs:=[pO a12 l11.length c13,pI 0]) rfl rfl rfl rfl rfl rfl rfl (by (repeat (first | exact bQ | (apply bO rfl rfl rfl rfl;(focus (repeat (first | exact aJ | apply aD | apply aI)))))))) ?_
     refine aa 18 (by kernel_rfl) ?_
     refine ai rfl rfl rfl (ah (vs:=[pO a6 l5.length c7,pI 0]) rfl rfl rfl rfl rfl (by (repeat (first | exact aY | apply ba))) (by (repeat (first | exact aJ | apply aD | apply aI))) ?_)
     refine aa 19 (by kernel_rfl) ?_
     refine ai rfl rfl rfl (ah (vs:=[pO a12 l11.length c13,pI 0]) rfl rfl rfl rfl rfl (by (repeat (first | exact aY | apply ba))) (by (repeat (first | exact aJ | apply aD | apply aI))) ?_)
     refine aw (by kernel_rfl) ?_
     exact aq (a6,c7,a12,c13,b15,b16) (by (repeat (first | exact bX | apply bq rfl))) (by (repeat (first | exact be | (apply bv;(focus (repeat (first | exact aF | apply aC))))))) trivial
    ·skip
     refine af rfl rfl rfl rfl (an (cs:=[pN,pI 0]) rfl rfl rfl rfl (fun b15=>?_))
     refine aP 6 17 (by kernel_rfl) ?_ ?_
     ·skip
      refine af rfl rfl rfl rfl (al (enc:=Za.enc) rfl rfl rfl rfl rfl (fun _=>rfl) rfl rfl rfl (by (repeat (first | exact aF | apply aC))) hl5 (fun a6 c7=>?_))
      refine au 7 (by kernel_rfl) rfl rfl rfl rfl (ak (cs:=[pO a6 l5.length c7,pI 0]) rfl rfl rfl rfl rfl rfl rfl (by (repeat (first | exact bQ | (apply bO rfl rfl rfl rfl;(focus (repeat (first | exact aJ | apply aD | apply aI)))))))) ?_
      refine aP 14 17 (by kernel_rfl) ?_ ?_
      ·skip
       refine af rfl rfl rfl rfl (al (enc:=Za.enc) rfl rfl rfl rfl rfl (fun _=>rfl) rfl rfl rfl (by (repeat (first | exact aF | apply aC))) hl11 (fun a12 c13=>?_))
       refine au 15 (by kernel_rfl) rfl rfl rfl rfl (ak (cs:=[pO a12 l11.length c13,pI 0]) rfl rfl rfl rfl rfl rfl rfl (by (repeat (first | exact bQ | (apply bO rfl rfl rfl rfl;(focus (repeat (first | exact aJ | apply aD | apply aI)))))))) ?_
       refine aa 17 (by kernel_rfl) (af rfl rfl rfl rfl (an (cs:=[pN,pI 0]) rfl rfl rfl rfl (fun b16=>aa 18 (by kernel_rfl) ?_)))
       refine ai rfl rfl rfl (ah (vs:=[pO a6 l5.length c7,pI 0]) rfl rfl rfl rfl rfl (by (repeat (first | exact aY | apply ba))) (by (repeat (first | exact aJ | apply aD | apply aI))) ?_)
       refine aa 19 (by kernel_rfl) ?_
       refine ai rfl rfl rfl (ah (vs:=[pO a12 l11.length c13,pI 0]) rfl rfl rfl rfl rfl (by (repeat (first | exact aY | apply ba))) (by (repeat (first | exact aJ | apply aD | apply aI))) ?_)
       refine aw (by kernel_rfl) ?_
       exact aq (a6,c7,a12,c13,b15,b16) (by (repeat (first | exact bX | apply bq rfl))) (by (repeat (first | exact be | (apply bv;(focus (repeat (first | exact aF | apply aC))))))) trivial
      skip
      refine af rfl rfl rfl rfl (an (cs:=[pN,pI 0]) rfl rfl rfl rfl (fun b16=>aa 14 (by kernel_rfl) ?_))
      refine af rfl rfl rfl rfl (al (enc:=Za.enc) rfl rfl rfl rfl rfl (fun _=>rfl) rfl rfl rfl (by (repeat (first | exact aF | apply aC))) hl11 (fun a12 c13=>?_))
      refine au 15 (by kernel_rfl) rfl rfl rfl rfl (ak (cs:=[pO a12 l11.length c13,pI 0]) rfl rfl rfl rfl rfl rfl rfl (by (repeat (first | exact bQ | (apply bO rfl rfl rfl rfl;(focus (repeat (first | exact aJ | apply aD | apply aI)))))))) ?_
      refine aa 18 (by kernel_rfl) ?_
      refine ai rfl rfl rfl (ah (vs:=[pO a6 l5.length c7,pI 0]) rfl rfl rfl rfl rfl (by (repeat (first | exact aY | apply ba))) (by (repeat (first | exact aJ | apply aD | apply aI))) ?_)
      refine aa 19 (by kernel_rfl) ?_
      refine ai rfl rfl rfl (ah (vs:=[pO a12 l11.length c13,pI 0]) rfl rfl rfl rfl rfl (by (repeat (first | exact aY | apply ba))) (by (repeat (first | exact aJ | apply aD | apply aI))) ?_)
      refine aw (by kernel_rfl) ?_
      exact aq (a6,c7,a12,c13,b15,b16) (by (repeat (first | exact bX | apply bq rfl))) (by (repeat (first | exact be | (apply bv;(focus (repeat (first | exact aF | apply aC))))))) trivial
     skip
     refine af rfl rfl rfl rfl (an (cs:=[pN,pI 0]) rfl rfl rfl rfl (fun b16=>aa 6 (by kernel_rfl) ?_))
     refine af rfl rfl rfl rfl (al (enc:=Za.enc) rfl rfl rfl rfl rfl (fun _=>rfl) rfl rfl rfl (by (repeat (first | exact aF | apply aC))) hl5 (fun a6 c7=>?_))
     refine au 7 (by kernel_rfl) rfl rfl rfl rfl (ak (cs:=[pO a6 l5.length c7,pI 0]) rfl rfl rfl rfl rfl rfl rfl (by (repeat (first | exact bQ | (apply bO rfl rfl rfl rfl;(focus (repeat (first | exact aJ | apply aD | apply aI)))))))) ?_
     refine aa 14 (by kernel_rfl) ?_
     refine af rfl rfl rfl rfl (al (enc:=Za.enc) rfl rfl rfl rfl rfl (fun _=>rfl) rfl rfl rfl (by (repeat (first | exact aF | apply aC))) hl11 (fun a12 c13=>?_))
     refine au 15 (by kernel_rfl) rfl rfl rfl rfl (ak (cs:=[pO a12 l11.length c13,pI 0]) rfl rfl rfl rfl rfl rfl rfl (by (repeat (first | exact bQ | (apply bO rfl rfl rfl rfl;(focus (repeat (first | exact aJ | apply aD | apply aI)))))))) ?_
     refine aa 18 (by kernel_rfl) ?_
     refine ai rfl rfl rfl (ah (vs:=[pO a6 l5.length c7,pI 0]) rfl rfl rfl rfl rfl (by (repeat (first | exact aY | apply ba))) (by (repeat (first | exact aJ | apply aD | apply aI))) ?_)
     refine aa 19 (by kernel_rfl) ?_
     refine ai rfl rfl rfl (ah (vs:=[pO a12 l11.length c13,pI 0]) rfl rfl rfl rfl rfl (by (repeat (first | exact aY | apply ba))) (by (repeat (first | exact aJ | apply aD | apply aI))) ?_)
     refine aw (by kernel_rfl) ?_
     exact aq (a6,c7,a12,c13,b15,b16) (by (repeat (first | exact bX | apply bq rfl))) (by (repeat (first | exact be | (apply bv;(focus (repeat (first | exact aF | apply aC))))))) trivial
    skip
    refine af rfl rfl rfl rfl (an (cs:=[pN,pI 0]) rfl rfl rfl rfl (fun b16=>?_))
    refine aP 6 16 (by kernel_rfl) ?_ ?_
    ·skip
     refine af rfl rfl rfl rfl (al (enc:=Za.enc) rfl rfl rfl rfl rfl (fun _=>rfl) rfl rfl rfl (by (repeat (first | exact aF | apply aC))) hl5 (fun a6 c7=>?_))
     refine au 7 (by kernel_rfl) rfl rfl rfl rfl (ak (cs:=[pO a6 l5.length c7,pI 0]) rfl rfl rfl rfl rfl rfl rfl (by (repeat (first | exact bQ | (apply bO rfl rfl rfl rfl;(focus (repeat (first | exact aJ | apply aD | apply aI)))))))) ?_
     refine aP 14 16 (by kernel_rfl) ?_ ?_
     ·skip
      refine af rfl rfl rfl rfl (al (enc:=Za.enc) rfl rfl rfl rfl rfl (fun _=>rfl) rfl rfl rfl (by (repeat (first | exact aF | apply aC))) hl11 (fun a12 c13=>?_))
      refine au 15 (by kernel_rfl) rfl rfl rfl rfl (ak (cs:=[pO a12 l11.length c13,pI 0]) rfl rfl rfl rfl rfl rfl rfl (by (repeat (first | exact bQ | (apply bO rfl rfl rfl rfl;(focus (repeat (first | exact aJ | apply aD | apply aI)))))))) ?_
      refine aa 16 (by kernel_rfl) (af rfl rfl rfl rfl (an (cs:=[pN,pI 0]) rfl rfl rfl rfl (fun b15=>aa 18 (by kernel_rfl) ?_)))
      refine ai rfl rfl rfl (ah (vs:=[pO a6 l5.length c7,pI 0]) rfl rfl rfl rfl rfl (by (repeat (first | exact aY | apply ba))) (by (repeat (first | exact aJ | apply aD | apply aI))) ?_)
      refine aa 19 (by kernel_rfl) ?_
      refine ai rfl rfl rfl (ah (vs:=[pO a12 l11.length c13,pI 0]) rfl rfl rfl rfl rfl (by (repeat (first | exact aY | apply ba))) (by (repeat (first | exact aJ | apply aD | apply aI))) ?_)
      refine aw (by kernel_rfl) ?_
      exact aq (a6,c7,a12,c13,b15,b16) (by (repeat (first | exact bX | apply bq rfl))) (by (repeat (first | exact be | (apply bv;(focus (repeat (first | exact aF | apply aC))))))) trivial
     skip
     refine af rfl rfl rfl rfl (an (cs:=[pN,pI 0]) rfl rfl rfl rfl (fun b15=>aa 14 (by kernel_rfl) ?_))
     refine af rfl rfl rfl rfl (al (enc:=Za.enc) rfl rfl rfl rfl rfl (fun _=>rfl) rfl rfl rfl (by (repeat (first | exact aF | apply aC))) hl11 (fun a12 c13=>?_))
     refine au 15 (by kernel_rfl) rfl rfl rfl rfl (ak (cs:=[pO a12 l11.length c13,pI 0]) rfl rfl rfl rfl rfl rfl rfl (by (repeat (first | exact bQ | (apply bO rfl rfl rfl rfl;(focus (repeat (first | exact aJ | apply aD | apply aI)))))))) ?_
     refine aa 18 (by kernel_rfl) ?_
     refine ai rfl rfl rfl (ah (vs:=[pO a6 l5.length c7,pI 0]) rfl rfl rfl rfl rfl (by (repeat (first | exact aY | apply ba))) (by (repeat (first | exact aJ | apply aD | apply aI))) ?_)
     refine aa 19 (by kernel_rfl) ?_
     refine ai rfl rfl rfl (ah (vs:=[pO a12 l11.length c13,pI 0]) rfl rfl rfl rfl rfl (by (repeat (first | exact aY | apply ba))) (by (repeat (first | exact aJ | apply aD | apply aI))) ?_)
     refine aw (by kernel_rfl) ?_
     exact aq (a6,c7,a12,c13,b15,b16) (by (repeat (first | exact bX | apply bq rfl))) (by (repeat (first | exact be | (apply bv;(focus (repeat (first | exact aF | apply aC))))))) trivial
    skip
    refine af rfl rfl rfl rfl (an (cs:=[pN,pI 0]) rfl rfl rfl rfl (fun b15=>aa 6 (by kernel_rfl) ?_))
    refine af rfl rfl rfl rfl (al (enc:=Za.enc) rfl rfl rfl rfl rfl (fun _=>rfl) rfl rfl rfl (by (repeat (first | exact aF | apply aC))) hl5 (fun a6 c7=>?_))
    refine au 7 (by kernel_rfl) rfl rfl rfl rfl (ak (cs:=[pO a6 l5.length c7,pI 0]) rfl rfl rfl rfl rfl rfl rfl (by (repeat (first | exact bQ | (apply bO rfl rfl rfl rfl;(focus (repeat (first | exact aJ | apply aD | apply aI)))))))) ?_
    refine aa 14 (by kernel_rfl) ?_
    refine af rfl rfl rfl rfl (al (enc:=Za.enc) rfl rfl rfl rfl rfl (fun _=>rfl) rfl rfl rfl (by (repeat (first | exact aF | apply aC))) hl11 (fun a12 c13=>?_))
    refine au 15 (by kernel_rfl) rfl rfl rfl rfl (ak (cs:=[pO a12 l11.length c13,pI 0]) rfl rfl rfl rfl rfl rfl rfl (by (repeat (first | exact bQ | (apply bO rfl rfl rfl rfl;(focus (repeat (first | exact aJ | apply aD | apply aI)))))))) ?_
    refine aa 18 (by kernel_rfl) ?_
    refine ai rfl rfl rfl (ah (vs:=[pO a6 l5.length c7,pI 0]) rfl rfl rfl rfl rfl (by (repeat (first | exact aY | apply ba))) (by (repeat (first | exact aJ | apply aD | apply aI))) ?_)
    refine aa 19 (by kernel_rfl) ?_
    refine ai rfl rfl rfl (ah (vs:=[pO a12 l11.length c13,pI 0]) rfl rfl rfl rfl rfl (by (repeat (first | exact aY | apply ba))) (by (repeat (first | exact aJ | apply aD | apply aI))) ?_)
    refine aw (by kernel_rfl) ?_
    exact aq (a6,c7,a12,c13,b15,b16) (by (repeat (first | exact bX | apply bq rfl))) (by (repeat (first | exact be | (apply bv;(focus (repeat (first | exact aF | apply aC))))))) trivial
   ·skip
    refine af rfl rfl rfl rfl (an (cs:=[pN,pI 0]) rfl rfl rfl rfl (fun b15=>?_))
    refine cD 6 8 17 (by kernel_rfl) ?_ ?_ ?_
    ·skip
     refine af rfl rfl rfl rfl (al (enc:=Za.enc) rfl rfl rfl rfl rfl (fun _=>rfl) rfl rfl rfl (by (repeat (first | exact aF | apply aC))) hl5 (fun a6 c7=>?_))
     refine au 7 (by kernel_rfl) rfl rfl rfl rfl (ak (cs:=[pO a6 l5.length c7,pI 0]) rfl rfl rfl rfl rfl rfl rfl (by (repeat (first | exact bQ | (apply bO rfl rfl rfl rfl;(focus (repeat (first | exact aJ | apply aD | apply aI)))))))) ?_
     refine aP 8 17 (by kernel_rfl) ?_ ?_
     ·skip
      refine af rfl rfl rfl rfl (aS rfl rfl rfl rfl rfl (by (repeat (first | exact dH | apply dA rfl))) rfl rfl rfl rfl (fun b9=>?_))
      refine aP 14 17 (by kernel_rfl) ?_ ?_
      ·skip
       refine af rfl rfl rfl rfl (al (enc:=Za.enc) rfl rfl rfl rfl rfl (fun _=>rfl) rfl rfl rfl (by (repeat (first | exact aF | apply aC))) hl11 (fun a12 c13=>?_))
       refine au 15 (by kernel_rfl) rfl rfl rfl rfl (ak (cs:=[pO a12 l11.length c13,pI 0]) rfl rfl rfl rfl rfl rfl rfl (by (repeat (first | exact bQ | (apply bO rfl rfl rfl rfl;(focus (repeat (first | exact aJ | apply aD | apply aI)))))))) ?_
       refine aa 17 (by kernel_rfl) (af rfl rfl rfl rfl (an (cs:=[pN,pI 0]) rfl rfl rfl rfl (fun b16=>aa 18 (by kernel_rfl) ?_)))
       refine ai rfl rfl rfl (ah (vs:=[pO a6 l5.length c7,pI 0]) rfl rfl rfl rfl rfl (by (repeat (first | exact aY | apply ba))) (by (repeat (first | exact aJ | apply aD | apply aI))) ?_)
       refine aa 19 (by kernel_rfl) ?_
       refine ai rfl rfl rfl (ah (vs:=[pO a12 l11.length c13,pI 0]) rfl rfl rfl rfl rfl (by (repeat (first | exact aY | apply ba))) (by (repeat (first | exact aJ | apply aD | apply aI))) ?_)
       refine aw (by kernel_rfl) ?_
       exact aq (a6,c7,a12,c13,b15,b16) (by (repeat (first | exact bX | apply bq rfl))) (by (repeat (first | exact be | (apply bv;(focus (repeat (first | exact aF | apply aC))))))) trivial
      skip
      refine af rfl rfl rfl rfl (an (cs:=[pN,pI 0]) rfl rfl rfl rfl (fun b16=>aa 14 (by kernel_rfl) ?_))
      refine af rfl rfl rfl rfl (al (enc:=Za.enc) rfl rfl rfl rfl rfl (fun _=>rfl) rfl rfl rfl (by (repeat (first | exact aF | apply aC))) hl11 (fun a12 c13=>?_))
      refine au 15 (by kernel_rfl) rfl rfl rfl rfl (ak (cs:=[pO a12 l11.length c13,pI 0]) rfl rfl rfl rfl rfl rfl rfl (by (repeat (first | exact bQ | (apply bO rfl rfl rfl rfl;(focus (repeat (first | exact aJ | apply aD | apply aI)))))))) ?_
      refine aa 18 (by kernel_rfl) ?_
      refine ai rfl rfl rfl (ah (vs:=[pO a6 l5.length c7,pI 0]) rfl rfl rfl rfl rfl (by (repeat (first | exact aY | apply ba))) (by (repeat (first | exact aJ | apply aD | apply aI))) ?_)
      refine aa 19 (by kernel_rfl) ?_
      refine ai rfl rfl rfl (ah (vs:=[pO a12 l11.length c13,pI 0]) rfl rfl rfl rfl rfl (by (repeat (first | exact aY | apply ba))) (by (repeat (first | exact aJ | apply aD | apply aI))) ?_)
      refine aw (by kernel_rfl) ?_
      exact aq (a6,c7,a12,c13,b15,b16) (by (repeat (first | exact bX | apply bq rfl))) (by (repeat (first | exact be | (apply bv;(focus (repeat (first | exact aF | apply aC))))))) trivial
     skip
     refine af rfl rfl rfl rfl (an (cs:=[pN,pI 0]) rfl rfl rfl rfl (fun b16=>aa 8 (by kernel_rfl) ?_))
     refine af rfl rfl rfl rfl (aS rfl rfl rfl rfl rfl (by (repeat (first | exact dH | apply dA rfl))) rfl rfl rfl rfl (fun b9=>?_))
     refine aa 14 (by kernel_rfl) ?_
     refine af rfl rfl rfl rfl (al (enc:=Za.enc) rfl rfl rfl rfl rfl (fun _=>rfl) rfl rfl rfl (by (repeat (first | exact aF | apply aC))) hl11 (fun a12 c13=>?_))
     refine au 15 (by kernel_rfl) rfl rfl rfl rfl (ak (cs:=[pO a12 l11.length c13,pI 0]) rfl rfl rfl rfl rfl rfl rfl (by (repeat (first | exact bQ | (apply bO rfl rfl rfl rfl;(focus (repeat (first | exact aJ | apply aD | apply aI)))))))) ?_
     refine aa 18 (by kernel_rfl) ?_
     refine ai rfl rfl rfl (ah (vs:=[pO a6 l5.length c7,pI 0]) rfl rfl rfl rfl rfl (by (repeat (first | exact aY | apply ba))) (by (repeat (first | exact aJ | apply aD | apply aI))) ?_)
     refine aa 19 (by kernel_rfl) ?_
     refine ai rfl rfl rfl (ah (vs:=[pO a12 l11.length c13,pI 0]) rfl rfl rfl rfl rfl (by (repeat (first | exact aY | apply ba))) (by (repeat (first | exact aJ | apply aD | apply aI))) ?_)
     refine aw (by kernel_rfl) ?_
     exact aq (a6,c7,a12,c13,b15,b16) (by (repeat (first | exact bX | apply bq rfl))) (by (repeat (first | exact be | (apply bv;(focus (repeat (first | exact aF | apply aC))))))) trivial
    ·skip
     refine af rfl rfl rfl rfl (aS rfl rfl rfl rfl rfl (by (repeat (first | exact dH | apply dA rfl))) rfl rfl rfl rfl (fun b9=>?_))
     refine aP 6 17 (by kernel_rfl) ?_ ?_
     ·skip
      refine af rfl rfl rfl rfl (al (enc:=Za.enc) rfl rfl rfl rfl rfl (fun _=>rfl) rfl rfl rfl (by (repeat (first | exact aF | apply aC))) hl5 (fun a6 c7=>?_))
      refine au 7 (by kernel_rfl) rfl rfl rfl rfl (ak (cs:=[pO a6 l5.length c7,pI 0]) rfl rfl rfl rfl rfl rfl rfl (by (repeat (first | exact bQ | (apply bO rfl rfl rfl rfl;(focus (repeat (first | exact aJ | apply aD | apply aI)))))))) ?_
      refine aP 14 17 (by kernel_rfl) ?_ ?_
      ·skip
       refine af rfl rfl rfl rfl (al (enc:=Za.enc) rfl rfl rfl rfl rfl (fun _=>rfl) rfl rfl rfl (by (repeat (first | exact aF | apply aC))) hl11 (fun a12 c13=>?_))
       refine au 15 (by kernel_rfl) rfl rfl rfl rfl (ak (cs:=[pO a12 l11.length c13,pI 0]) rfl rfl rfl rfl rfl rfl rfl (by (repeat (first | exact bQ | (apply bO rfl rfl rfl rfl;(focus (repeat (first | exact aJ | apply aD | apply aI)))))))) ?_
       refine aa 17 (by kernel_rfl) (af rfl rfl rfl rfl (an (cs:=[pN,pI 0]) rfl rfl rfl rfl (fun b16=>aa 18 (by kernel_rfl) ?_)))
       refine ai rfl rfl rfl (ah (vs:=[pO a6 l5.length c7,pI 0]) rfl rfl rfl rfl rfl (by (repeat (first | exact aY | apply ba))) (by (repeat (first | exact aJ | apply aD | apply aI))) ?_)
       refine aa 19 (by kernel_rfl) ?_
       refine ai rfl rfl rfl (ah (vs:=[pO a12 l11.length c13,pI 0]) rfl rfl rfl rfl rfl (by (repeat (first | exact aY | apply ba))) (by (repeat (first | exact aJ | apply aD | apply aI))) ?_)
       refine aw (by kernel_rfl) ?_
       exact aq (a6,c7,a12,c13,b15,b16) (by (repeat (first | exact bX | apply bq rfl))) (by (repeat (first | exact be | (apply bv;(focus (repeat (first | exact aF | apply aC))))))) trivial
      skip
      refine af rfl rfl rfl rfl (an (cs:=[pN,pI 0]) rfl rfl rfl rfl (fun b16=>aa 14 (by kernel_rfl) ?_))
      refine af rfl rfl rfl rfl (al (enc:=Za.enc) rfl rfl rfl rfl rfl (fun _=>rfl) rfl rfl rfl (by (repeat (first | exact aF | apply aC))) hl11 (fun a12 c13=>?_))
      refine au 15 (by kernel_rfl) rfl rfl rfl rfl (ak (cs:=[pO a12 l11.length c13,pI 0]) rfl rfl rfl rfl rfl rfl rfl (by (repeat (first | exact bQ | (apply bO rfl rfl rfl rfl;(focus (repeat (first | exact aJ | apply aD | apply aI)))))))) ?_
      refine aa 18 (by kernel_rfl) ?_
      refine ai rfl rfl rfl (ah (vs:=[pO a6 l5.length c7,pI 0]) rfl rfl rfl rfl rfl (by (repeat (first | exact aY | apply ba))) (by (repeat (first | exact aJ | apply aD | apply aI))) ?_)
      refine aa 19 (by kernel_rfl) ?_
      refine ai rfl rfl rfl (ah (vs:=[pO a12 l11.length c13,pI 0]) rfl rfl rfl rfl rfl (by (repeat (first | exact aY | apply ba))) (by (repeat (first | exact aJ | apply aD | apply aI))) ?_)
      refine aw (by kernel_rfl) ?_
      exact aq (a6,c7,a12,c13,b15,b16) (by (repeat (first | exact bX | apply bq rfl))) (by (repeat (first | exact be | (apply bv;(focus (repeat (first | exact aF | apply aC))))))) trivial
     skip
     refine af rfl rfl rfl rfl (an (cs:=[pN,pI 0]) rfl rfl rfl rfl (fun b16=>aa 6 (by kernel_rfl) ?_))
     refine af rfl rfl rfl rfl (al (enc:=Za.enc) rfl rfl rfl rfl rfl (fun _=>rfl) rfl rfl rfl (by (repeat (first | exact aF | apply aC))) hl5 (fun a6 c7=>?_))
     refine au 7 (by kernel_rfl) rfl rfl rfl rfl (ak (cs:=[pO a6 l5.length c7,pI 0]) rfl rfl rfl rfl rfl rfl rfl (by (repeat (first | exact bQ | (apply bO rfl rfl rfl rfl;(focus (repeat (first | exact aJ | apply aD | apply aI)))))))) ?_
     refine aa 14 (by kernel_rfl) ?_
     refine af rfl rfl rfl rfl (al (enc:=Za.enc) rfl rfl rfl rfl rfl (fun _=>rfl) rfl rfl rfl (by (repeat (first | exact aF | apply aC))) hl11 (fun a12 c13=>?_))
     refine au 15 (by kernel_rfl) rfl rfl rfl rfl (ak (cs:=[pO a12 l11.length c13,pI 0]) rfl rfl rfl rfl rfl rfl rfl (by (repeat (first | exact bQ | (apply bO rfl rfl rfl rfl;(focus (repeat (first | exact aJ | apply aD | apply aI)))))))) ?_
     refine aa 18 (by kernel_rfl) ?_
     refine ai rfl rfl rfl (ah (vs:=[pO a6 l5.length c7,pI 0]) rfl rfl rfl rfl rfl (by (repeat (first | exact aY | apply ba))) (by (repeat (first | exact aJ | apply aD | apply aI))) ?_)
     refine aa 19 (by kernel_rfl) ?_
     refine ai rfl rfl rfl (ah (vs:=[pO a12 l11.length c13,pI 0]) rfl rfl rfl rfl rfl (by (repeat (first | exact aY | apply ba))) (by (repeat (first | exact aJ | apply aD | apply aI))) ?_)
     refine aw (by kernel_rfl) ?_
     exact aq (a6,c7,a12,c13,b15,b16) (by (repeat (first | exact bX | apply bq rfl))) (by (repeat (first | exact be | (apply bv;(focus (repeat (first | exact aF | apply aC))))))) trivial
    skip
    refine af rfl rfl rfl rfl (an (cs:=[pN,pI 0]) rfl rfl rfl rfl (fun b16=>?_))
    refine aP 6 8 (by kernel_rfl) ?_ ?_
    ·skip
     refine af rfl rfl rfl rfl (al (enc:=Za.enc) rfl rfl rfl rfl rfl (fun _=>rfl) rfl rfl rfl (by (repeat (first | exact aF | apply aC))) hl5 (fun a6 c7=>?_))
     refine au 7 (by kernel_rfl) rfl rfl rfl rfl (ak (cs:=[pO a6 l5.length c7,pI 0]) rfl rfl rfl rfl rfl rfl rfl (by (repeat (first | exact bQ | (apply bO rfl rfl rfl rfl;(focus (repeat (first | exact aJ | apply aD | apply aI)))))))) ?_
     refine aa 8 (by kernel_rfl) ?_
     refine af rfl rfl rfl rfl (aS rfl rfl rfl rfl rfl (by (repeat (first | exact dH | apply dA rfl))) rfl rfl rfl rfl (fun b9=>?_))
     refine aa 14 (by kernel_rfl) ?_
     refine af rfl rfl rfl rfl (al (enc:=Za.enc) rfl rfl rfl rfl rfl (fun _=>rfl) rfl rfl rfl (by (repeat (first | exact aF | apply aC))) hl11 (fun a12 c13=>?_))
     refine au 15 (by kernel_rfl) rfl rfl rfl rfl (ak (cs:=[pO a12 l11.length c13,pI 0]) rfl rfl rfl rfl rfl rfl rfl (by (repeat (first | exact bQ | (apply bO rfl rfl rfl rfl;(focus (repeat (first | exact aJ | apply aD | apply aI)))))))) ?_
     refine aa 18 (by kernel_rfl) ?_
     refine ai rfl rfl rfl (ah (vs:=[pO a6 l5.length c7,pI 0]) rfl rfl rfl rfl rfl (by (repeat (first | exact aY | apply ba))) (by (repeat (first | exact aJ | apply aD | apply aI))) ?_)
     refine aa 19 (by kernel_rfl) ?_
     refine ai rfl rfl rfl (ah (vs:=[pO a12 l11.length c13,pI 0]) rfl rfl rfl rfl rfl (by (repeat (first | exact aY | apply ba))) (by (repeat (first | exact aJ | apply aD | apply aI))) ?_)
     refine aw (by kernel_rfl) ?_
     exact aq (a6,c7,a12,c13,b15,b16) (by (repeat (first | exact bX | apply bq rfl))) (by (repeat (first | exact be | (apply bv;(focus (repeat (first | exact aF | apply aC))))))) trivial
    skip
    refine af rfl rfl rfl rfl (aS rfl rfl rfl rfl rfl (by (repeat (first | exact dH | apply dA rfl))) rfl rfl rfl rfl (fun b9=>?_))
    refine aa 6 (by kernel_rfl) ?_
    refine af rfl rfl rfl rfl (al (enc:=Za.enc) rfl rfl rfl rfl rfl (fun _=>rfl) rfl rfl rfl (by (repeat (first | exact aF | apply aC))) hl5 (fun a6 c7=>?_))
    refine au 7 (by kernel_rfl) rfl rfl rfl rfl (ak (cs:=[pO a6 l5.length c7,pI 0]) rfl rfl rfl rfl rfl rfl rfl (by (repeat (first | exact bQ | (apply bO rfl rfl rfl rfl;(focus (repeat (first | exact aJ | apply aD | apply aI)))))))) ?_
    refine aa 14 (by kernel_rfl) ?_
    refine af rfl rfl rfl rfl (al (enc:=Za.enc) rfl rfl rfl rfl rfl (fun _=>rfl) rfl rfl rfl (by (repeat (first | exact aF | apply aC))) hl11 (fun a12 c13=>?_))
    refine au 15 (by kernel_rfl) rfl rfl rfl rfl (ak (cs:=[pO a12 l11.length c13,pI 0]) rfl rfl rfl rfl rfl rfl rfl (by (repeat (first | exact bQ | (apply bO rfl rfl rfl rfl;(focus (repeat (first | exact aJ | apply aD | apply aI)))))))) ?_
    refine aa 18 (by kernel_rfl) ?_
    refine ai rfl rfl rfl (ah (vs:=[pO a6 l5.length c7,pI 0]) rfl rfl rfl rfl rfl (by (repeat (first | exact aY | apply ba))) (by (repeat (first | exact aJ | apply aD | apply aI))) ?_)
    refine aa 19 (by kernel_rfl) ?_
    refine ai rfl rfl rfl (ah (vs:=[pO a12 l11.length c13,pI 0]) rfl rfl rfl rfl rfl (by (repeat (first | exact aY | apply ba))) (by (repeat (first | exact aJ | apply aD | apply aI))) ?_)
    refine aw (by kernel_rfl) ?_
    exact aq (a6,c7,a12,c13,b15,b16) (by (repeat (first | exact bX | apply bq rfl))) (by (repeat (first | exact be | (apply bv;(focus (repeat (first | exact aF | apply aC))))))) trivial
   skip
   refine af rfl rfl rfl rfl (an (cs:=[pN,pI 0]) rfl rfl rfl rfl (fun b16=>?_))
   refine cD 6 8 16 (by kernel_rfl) ?_ ?_ ?_
   ·skip
    refine af rfl rfl rfl rfl (al (enc:=Za.enc) rfl rfl rfl rfl rfl (fun _=>rfl) rfl rfl rfl (by (repeat (first | exact aF | apply aC))) hl5 (fun a6 c7=>?_))
    refine au 7 (by kernel_rfl) rfl rfl rfl rfl (ak (cs:=[pO a6 l5.length c7,pI 0]) rfl rfl rfl rfl rfl rfl rfl (by (repeat (first | exact bQ | (apply bO rfl rfl rfl rfl;(focus (repeat (first | exact aJ | apply aD | apply aI)))))))) ?_
    refine aP 8 16 (by kernel_rfl) ?_ ?_
    ·skip
     refine af rfl rfl rfl rfl (aS rfl rfl rfl rfl rfl (by (repeat (first | exact dH | apply dA rfl))) rfl rfl rfl rfl (fun b9=>?_))
     refine aP 14 16 (by kernel_rfl) ?_ ?_
     ·skip
      refine af rfl rfl rfl rfl (al (enc:=Za.enc) rfl rfl rfl rfl rfl (fun _=>rfl) rfl rfl rfl (by (repeat (first | exact aF | apply aC))) hl11 (fun a12 c13=>?_))
      refine au 15 (by kernel_rfl) rfl rfl rfl rfl (ak (cs:=[pO a12 l11.length c13,pI 0]) rfl rfl rfl rfl rfl rfl rfl (by (repeat (first | exact bQ | (apply bO rfl rfl rfl rfl;(focus (repeat (first | exact aJ | apply aD | apply aI)))))))) ?_
      refine aa 16 (by kernel_rfl) (af rfl rfl rfl rfl (an (cs:=[pN,pI 0]) rfl rfl rfl rfl (fun b15=>aa 18 (by kernel_rfl) ?_)))
      refine ai rfl rfl rfl (ah (vs:=[pO a6 l5.length c7,pI 0]) rfl rfl rfl rfl rfl (by (repeat (first | exact aY | apply ba))) (by (repeat (first | exact aJ | apply aD | apply aI))) ?_)
      refine aa 19 (by kernel_rfl) ?_
      refine ai rfl rfl rfl (ah (vs:=[pO a12 l11.length c13,pI 0]) rfl rfl rfl rfl rfl (by (repeat (first | exact aY | apply ba))) (by (repeat (first | exact aJ | apply aD | apply aI))) ?_)
      refine aw (by kernel_rfl) ?_
      exact aq (a6,c7,a12,c13,b15,b16) (by (repeat (first | exact bX | apply bq rfl))) (by (repeat (first | exact be | (apply bv;(focus (repeat (first | exact aF | apply aC))))))) trivial
     skip
     refine af rfl rfl rfl rfl (an (cs:=[pN,pI 0]) rfl rfl rfl rfl (fun b15=>aa 14 (by kernel_rfl) ?_))
     refine af rfl rfl rfl rfl (al (enc:=Za.enc) rfl rfl rfl rfl rfl (fun _=>rfl) rfl rfl rfl (by (repeat (first | exact aF | apply aC))) hl11 (fun a12 c13=>?_))
     refine au 15 (by kernel_rfl) rfl rfl rfl rfl (ak (cs:=[pO a12 l11.length c13,pI 0]) rfl rfl rfl rfl rfl rfl rfl (by (repeat (first | exact bQ | (apply bO rfl rfl rfl rfl;(focus (repeat (first | exact aJ | apply aD | apply aI)))))))) ?_
     refine aa 18 (by kernel_rfl) ?_
     refine ai rfl rfl rfl (ah (vs:=[pO a6 l5.length c7,pI 0]) rfl rfl rfl rfl rfl (by (repeat (first | exact aY | apply ba))) (by (repeat (first | exact aJ | apply aD | apply aI))) ?_)
     refine aa 19 (by kernel_rfl) ?_
     refine ai rfl rfl rfl (ah (vs:=[pO a12 l11.length c13,pI 0]) rfl rfl rfl rfl rfl (by (repeat (first | exact aY | apply ba))) (by (repeat (first | exact aJ | apply aD | apply aI))) ?_)
     refine aw (by kernel_rfl) ?_
     exact aq (a6,c7,a12,c13,b15,b16) (by (repeat (first | exact bX | apply bq rfl))) (by (repeat (first | exact be | (apply bv;(focus (repeat (first | exact aF | apply aC))))))) trivial
    skip
    refine af rfl rfl rfl rfl (an (cs:=[pN,pI 0]) rfl rfl rfl rfl (fun b15=>aa 8 (by kernel_rfl) ?_))
    refine af rfl rfl rfl rfl (aS rfl rfl rfl rfl rfl (by (repeat (first | exact dH | apply dA rfl))) rfl rfl rfl rfl (fun b9=>?_))
    refine aa 14 (by kernel_rfl) ?_
    refine af rfl rfl rfl rfl (al (enc:=Za.enc) rfl rfl rfl rfl rfl (fun _=>rfl) rfl rfl rfl (by (repeat (first | exact aF | apply aC))) hl11 (fun a12 c13=>?_))
    refine au 15 (by kernel_rfl) rfl rfl rfl rfl (ak (cs:=[pO a12 l11.length c13,pI 0]) rfl rfl rfl rfl rfl rfl rfl (by (repeat (first | exact bQ | (apply bO rfl rfl rfl rfl;(focus (repeat (first | exact aJ | apply aD | apply aI)))))))) ?_
    refine aa 18 (by kernel_rfl) ?_
    refine ai rfl rfl rfl (ah (vs:=[pO a6 l5.length c7,pI 0]) rfl rfl rfl rfl rfl (by (repeat (first | exact aY | apply ba))) (by (repeat (first | exact aJ | apply aD | apply aI))) ?_)
    refine aa 19 (by kernel_rfl) ?_
    refine ai rfl rfl rfl (ah (vs:=[pO a12 l11.length c13,pI 0]) rfl rfl rfl rfl rfl (by (repeat (first | exact aY | apply ba))) (by (repeat (first | exact aJ | apply aD | apply aI))) ?_)
    refine aw (by kernel_rfl) ?_
    exact aq (a6,c7,a12,c13,b15,b16) (by (repeat (first | exact bX | apply bq rfl))) (by (repeat (first | exact be | (apply bv;(focus (repeat (first | exact aF | apply aC))))))) trivial
   ·skip
    refine af rfl rfl rfl rfl (aS rfl rfl rfl rfl rfl (by (repeat (first | exact dH | apply dA rfl))) rfl rfl rfl rfl (fun b9=>?_))
    refine aP 6 16 (by kernel_rfl) ?_ ?_
    ·skip
     refine af rfl rfl rfl rfl (al (enc:=Za.enc) rfl rfl rfl rfl rfl (fun _=>rfl) rfl rfl rfl (by (repeat (first | exact aF | apply aC))) hl5 (fun a6 c7=>?_))
     refine au 7 (by kernel_rfl) rfl rfl rfl rfl (ak (cs:=[pO a6 l5.length c7,pI 0]) rfl rfl rfl rfl rfl rfl rfl (by (repeat (first | exact bQ | (apply bO rfl rfl rfl rfl;(focus (repeat (first | exact aJ | apply aD | apply aI)))))))) ?_
     refine aP 14 16 (by kernel_rfl) ?_ ?_
     ·skip
      refine af rfl rfl rfl rfl (al (enc:=Za.enc) rfl rfl rfl rfl rfl (fun _=>rfl) rfl rfl rfl (by (repeat (first | exact aF | apply aC))) hl11 (fun a12 c13=>?_))
      refine au 15 (by kernel_rfl) rfl rfl rfl rfl (ak (cs:=[pO a12 l11.length c13,pI 0]) rfl rfl rfl rfl rfl rfl rfl (by (repeat (first | exact bQ | (apply bO rfl rfl rfl rfl;(focus (repeat (first | exact aJ | apply aD | apply aI)))))))) ?_
      refine aa 16 (by kernel_rfl) (af rfl rfl rfl rfl (an (cs:=[pN,pI 0]) rfl rfl rfl rfl (fun b15=>aa 18 (by kernel_rfl) ?_)))
      refine ai rfl rfl rfl (ah (vs:=[pO a6 l5.length c7,pI 0]) rfl rfl rfl rfl rfl (by (repeat (first | exact aY | apply ba))) (by (repeat (first | exact aJ | apply aD | apply aI))) ?_)
      refine aa 19 (by kernel_rfl) ?_
      refine ai rfl rfl rfl (ah (vs:=[pO a12 l11.length c13,pI 0]) rfl rfl rfl rfl rfl (by (repeat (first | exact aY | apply ba))) (by (repeat (first | exact aJ | apply aD | apply aI))) ?_)
      refine aw (by kernel_rfl) ?_
      exact aq (a6,c7,a12,c13,b15,b16) (by (repeat (first | exact bX | apply bq rfl))) (by (repeat (first | exact be | (apply bv;(focus (repeat (first | exact aF | apply aC))))))) trivial
     skip
     refine af rfl rfl rfl rfl (an (cs:=[pN,pI 0]) rfl rfl rfl rfl (fun b15=>aa 14 (by kernel_rfl) ?_))
     refine af rfl rfl rfl rfl (al (enc:=Za.enc) rfl rfl rfl rfl rfl (fun _=>rfl) rfl rfl rfl (by (repeat (first | exact aF | apply aC))) hl11 (fun a12 c13=>?_))
     refine au 15 (by kernel_rfl) rfl rfl rfl rfl (ak (cs:=[pO a12 l11.length c13,pI 0]) rfl rfl rfl rfl rfl rfl rfl (by (repeat (first | exact bQ | (apply bO rfl rfl rfl rfl;(focus (repeat (first | exact aJ | apply aD | apply aI)))))))) ?_
     refine aa 18 (by kernel_rfl) ?_
     refine ai rfl rfl rfl (ah (vs:=[pO a6 l5.length c7,pI 0]) rfl rfl rfl rfl rfl (by (repeat (first | exact aY | apply ba))) (by (repeat (first | exact aJ | apply aD | apply aI))) ?_)
     refine aa 19 (by kernel_rfl) ?_
     refine ai rfl rfl rfl (ah (vs:=[pO a12 l11.length c13,pI 0]) rfl rfl rfl rfl rfl (by (repeat (first | exact aY | apply ba))) (by (repeat (first | exact aJ | apply aD | apply aI))) ?_)
     refine aw (by kernel_rfl) ?_
     exact aq (a6,c7,a12,c13,b15,b16) (by (repeat (first | exact bX | apply bq rfl))) (by (repeat (first | exact be | (apply bv;(focus (repeat (first | exact aF | apply aC))))))) trivial
    skip
    refine af rfl rfl rfl rfl (an (cs:=[pN,pI 0]) rfl rfl rfl rfl (fun b15=>aa 6 (by kernel_rfl) ?_))
    refine af rfl rfl rfl rfl (al (enc:=Za.enc) rfl rfl rfl rfl rfl (fun _=>rfl) rfl rfl rfl (by (repeat (first | exact aF | apply aC))) hl5 (fun a6 c7=>?_))
    refine au 7 (by kernel_rfl) rfl rfl rfl rfl (ak (cs:=[pO a6 l5.length c7,pI 0]) rfl rfl rfl rfl rfl rfl rfl (by (repeat (first | exact bQ | (apply bO rfl rfl rfl rfl;(focus (repeat (first | exact aJ | apply aD | apply aI)))))))) ?_
    refine aa 14 (by kernel_rfl) ?_
    refine af rfl rfl rfl rfl (al (enc:=Za.enc) rfl rfl rfl rfl rfl (fun _=>rfl) rfl rfl rfl (by (repeat (first | exact aF | apply aC))) hl11 (fun a12 c13=>?_))
    refine au 15 (by kernel_rfl) rfl rfl rfl rfl (ak (cs:=[pO a12 l11.length c13,pI 0]) rfl rfl rfl rfl rfl rfl rfl (by (repeat (first | exact bQ | (apply bO rfl rfl rfl rfl;(focus (repeat (first | exact aJ | apply aD | apply aI)))))))) ?_
    refine aa 18 (by kernel_rfl) ?_
    refine ai rfl rfl rfl (ah (vs:=[pO a6 l5.length c7,pI 0]) rfl rfl rfl rfl rfl (by (repeat (first | exact aY | apply ba))) (by (repeat (first | exact aJ | apply aD | apply aI))) ?_)
    refine aa 19 (by kernel_rfl) ?_
    refine ai rfl rfl rfl (ah (vs:=[pO a12 l11.length c13,pI 0]) rfl rfl rfl rfl rfl (by (repeat (first | exact aY | apply ba))) (by (repeat (first | exact aJ | apply aD | apply aI))) ?_)
    refine aw (by kernel_rfl) ?_
    exact aq (a6,c7,a12,c13,b15,b16) (by (repeat (first | exact bX | apply bq rfl))) (by (repeat (first | exact be | (apply bv;(focus (repeat (first | exact aF | apply aC))))))) trivial
   skip
   refine af rfl rfl rfl rfl (an (cs:=[pN,pI 0]) rfl rfl rfl rfl (fun b15=>?_))
   refine aP 6 8 (by kernel_rfl) ?_ ?_
   ·skip
    refine af rfl rfl rfl rfl (al (enc:=Za.enc) rfl rfl rfl rfl rfl (fun _=>rfl) rfl rfl rfl (by (repeat (first | exact aF | apply aC))) hl5 (fun a6 c7=>?_))
    refine au 7 (by kernel_rfl) rfl rfl rfl rfl (ak (cs:=[pO a6 l5.length c7,pI 0]) rfl rfl rfl rfl rfl rfl rfl (by (repeat (first | exact bQ | (apply bO rfl rfl rfl rfl;(focus (repeat (first | exact aJ | apply aD | apply aI)))))))) ?_
    refine aa 8 (by kernel_rfl) ?_
    refine af rfl rfl rfl rfl (aS rfl rfl rfl rfl rfl (by (repeat (first | exact dH | apply dA rfl))) rfl rfl rfl rfl (fun b9=>?_))
    refine aa 14 (by kernel_rfl) ?_
    refine af rfl rfl rfl rfl (al (enc:=Za.enc) rfl rfl rfl rfl rfl (fun _=>rfl) rfl rfl rfl (by (repeat (first | exact aF | apply aC))) hl11 (fun a12 c13=>?_))
    refine au 15 (by kernel_rfl) rfl rfl rfl rfl (ak (cs:=[pO a12 l11.length c13,pI 0]) rfl rfl rfl rfl rfl rfl rfl (by (repeat (first | exact bQ | (apply bO rfl rfl rfl rfl;(focus (repeat (first | exact aJ | apply aD | apply aI)))))))) ?_
    refine aa 18 (by kernel_rfl) ?_
    refine ai rfl rfl rfl (ah (vs:=[pO a6 l5.length c7,pI 0]) rfl rfl rfl rfl rfl (by (repeat (first | exact aY | apply ba))) (by (repeat (first | exact aJ | apply aD | apply aI))) ?_)
    refine aa 19 (by kernel_rfl) ?_
    refine ai rfl rfl rfl (ah (vs:=[pO a12 l11.length c13,pI 0]) rfl rfl rfl rfl rfl (by (repeat (first | exact aY | apply ba))) (by (repeat (first | exact aJ | apply aD | apply aI))) ?_)
    refine aw (by kernel_rfl) ?_
    exact aq (a6,c7,a12,c13,b15,b16) (by (repeat (first | exact bX | apply bq rfl))) (by (repeat (first | exact be | (apply bv;(focus (repeat (first | exact aF | apply aC))))))) trivial
   skip
   refine af rfl rfl rfl rfl (aS rfl rfl rfl rfl rfl (by (repeat (first | exact dH | apply dA rfl))) rfl rfl rfl rfl (fun b9=>?_))
   refine aa 6 (by kernel_rfl) ?_
   refine af rfl rfl rfl rfl (al (enc:=Za.enc) rfl rfl rfl rfl rfl (fun _=>rfl) rfl rfl rfl (by (repeat (first | exact aF | apply aC))) hl5 (fun a6 c7=>?_))
   refine au 7 (by kernel_rfl) rfl rfl rfl rfl (ak (cs:=[pO a6 l5.length c7,pI 0]) rfl rfl rfl rfl rfl rfl rfl (by (repeat (first | exact bQ | (apply bO rfl rfl rfl rfl;(focus (repeat (first | exact aJ | apply aD | apply aI)))))))) ?_
   refine aa 14 (by kernel_rfl) ?_
   refine af rfl rfl rfl rfl (al (enc:=Za.enc) rfl rfl rfl rfl rfl (fun _=>rfl) rfl rfl rfl (by (repeat (first | exact aF | apply aC))) hl11 (fun a12 c13=>?_))
   refine au 15 (by kernel_rfl) rfl rfl rfl rfl (ak (cs:=[pO a12 l11.length c13,pI 0]) rfl rfl rfl rfl rfl rfl rfl (by (repeat (first | exact bQ | (apply bO rfl rfl rfl rfl;(focus (repeat (first | exact aJ | apply aD | apply aI)))))))) ?_
   refine aa 18 (by kernel_rfl) ?_
   refine ai rfl rfl rfl (ah (vs:=[pO a6 l5.length c7,pI 0]) rfl rfl rfl rfl rfl (by (repeat (first | exact aY | apply ba))) (by (repeat (first | exact aJ | apply aD | apply aI))) ?_)
   refine aa 19 (by kernel_rfl) ?_
   refine ai rfl rfl rfl (ah (vs:=[pO a12 l11.length c13,pI 0]) rfl rfl rfl rfl rfl (by (repeat (first | exact aY | apply ba))) (by (repeat (first | exact aJ | apply aD | apply aI))) ?_)
   refine aw (by kernel_rfl) ?_
   exact aq (a6,c7,a12,c13,b15,b16) (by (repeat (first | exact bX | apply bq rfl))) (by (repeat (first | exact be | (apply bv;(focus (repeat (first | exact aF | apply aC))))))) trivial
  ·skip
   refine af rfl rfl rfl rfl (aS rfl rfl rfl rfl rfl (by (repeat (first | exact dH | apply dA rfl))) rfl rfl rfl rfl (fun b9=>?_))
   refine cD 0 16 17 (by kernel_rfl) ?_ ?_ ?_
   ·skip
    refine af rfl rfl rfl rfl (aS rfl rfl rfl rfl rfl (by (repeat (first | exact dH | apply dA rfl))) rfl rfl rfl rfl (fun b3=>?_))
    refine cD 6 16 17 (by kernel_rfl) ?_ ?_ ?_
    ·skip
     refine af rfl rfl rfl rfl (al (enc:=Za.enc) rfl rfl rfl rfl rfl (fun _=>rfl) rfl rfl rfl (by (repeat (first | exact aF | apply aC))) hl5 (fun a6 c7=>?_))
     refine au 7 (by kernel_rfl) rfl rfl rfl rfl (ak (cs:=[pO a6 l5.length c7,pI 0]) rfl rfl rfl rfl rfl rfl rfl (by (repeat (first | exact bQ | (apply bO rfl rfl rfl rfl;(focus (repeat (first | exact aJ | apply aD | apply aI)))))))) ?_
     refine cD 14 16 17 (by kernel_rfl) ?_ ?_ ?_
     ·skip
      refine af rfl rfl rfl rfl (al (enc:=Za.enc) rfl rfl rfl rfl rfl (fun _=>rfl) rfl rfl rfl (by (repeat (first | exact aF | apply aC))) hl11 (fun a12 c13=>?_))
      refine au 15 (by kernel_rfl) rfl rfl rfl rfl (ak (cs:=[pO a12 l11.length c13,pI 0]) rfl rfl rfl rfl rfl rfl rfl (by (repeat (first | exact bQ | (apply bO rfl rfl rfl rfl;(focus (repeat (first | exact aJ | apply aD | apply aI)))))))) ?_
      refine aP 16 17 (by kernel_rfl) ?_ ?_
      ·skip
       refine af rfl rfl rfl rfl (an (cs:=[pN,pI 0]) rfl rfl rfl rfl (fun b15=>aa 17 (by kernel_rfl) (af rfl rfl rfl rfl (an (cs:=[pN,pI 0]) rfl rfl rfl rfl (fun b16=>aa 18 (by kernel_rfl) ?_)))))
       refine ai rfl rfl rfl (ah (vs:=[pO a6 l5.length c7,pI 0]) rfl rfl rfl rfl rfl (by (repeat (first | exact aY | apply ba))) (by (repeat (first | exact aJ | apply aD | apply aI))) ?_)
       refine aa 19 (by kernel_rfl) ?_
       refine ai rfl rfl rfl (ah (vs:=[pO a12 l11.length c13,pI 0]) rfl rfl rfl rfl rfl (by (repeat (first | exact aY | apply ba))) (by (repeat (first | exact aJ | apply aD | apply aI))) ?_)
       refine aw (by kernel_rfl) ?_
       exact aq (a6,c7,a12,c13,b15,b16) (by (repeat (first | exact bX | apply bq rfl))) (by (repeat (first | exact be | (apply bv;(focus (repeat (first | exact aF | apply aC))))))) trivial
      skip
      refine af rfl rfl rfl rfl (an (cs:=[pN,pI 0]) rfl rfl rfl rfl (fun b16=>aa 16 (by kernel_rfl) (af rfl rfl rfl rfl (an (cs:=[pN,pI 0]) rfl rfl rfl rfl (fun b15=>aa 18 (by kernel_rfl) ?_)))))
      refine ai rfl rfl rfl (ah (vs:=[pO a6 l5.length c7,pI 0]) rfl rfl rfl rfl rfl (by (repeat (first | exact aY | apply ba))) (by (repeat (first | exact aJ | apply aD | apply aI))) ?_)
      refine aa 19 (by kernel_rfl) ?_
      refine ai rfl rfl rfl (ah (vs:=[pO a12 l11.length c13,pI 0]) rfl rfl rfl rfl rfl (by (repeat (first | exact aY | apply ba))) (by (repeat (first | exact aJ | apply aD | apply aI))) ?_)
      refine aw (by kernel_rfl) ?_
      exact aq (a6,c7,a12,c13,b15,b16) (by (repeat (first | exact bX | apply bq rfl))) (by (repeat (first | exact be | (apply bv;(focus (repeat (first | exact aF | apply aC))))))) trivial
     ·skip
      refine af rfl rfl rfl rfl (an (cs:=[pN,pI 0]) rfl rfl rfl rfl (fun b15=>?_))
      refine aP 14 17 (by kernel_rfl) ?_ ?_
      ·skip
       refine af rfl rfl rfl rfl (al (enc:=Za.enc) rfl rfl rfl rfl rfl (fun _=>rfl) rfl rfl rfl (by (repeat (first | exact aF | apply aC))) hl11 (fun a12 c13=>?_))
       refine au 15 (by kernel_rfl) rfl rfl rfl rfl (ak (cs:=[pO a12 l11.length c13,pI 0]) rfl rfl rfl rfl rfl rfl rfl (by (repeat (first | exact bQ | (apply bO rfl rfl rfl rfl;(focus (repeat (first | exact aJ | apply aD | apply aI)))))))) ?_
       refine aa 17 (by kernel_rfl) (af rfl rfl rfl rfl (an (cs:=[pN,pI 0]) rfl rfl rfl rfl (fun b16=>aa 18 (by kernel_rfl) ?_)))
       refine ai rfl rfl rfl (ah (vs:=[pO a6 l5.length c7,pI 0]) rfl rfl rfl rfl rfl (by (repeat (first | exact aY | apply ba))) (by (repeat (first | exact aJ | apply aD | apply aI))) ?_)
       refine aa 19 (by kernel_rfl) ?_
       refine ai rfl rfl rfl (ah (vs:=[pO a12 l11.length c13,pI 0]) rfl rfl rfl rfl rfl (by (repeat (first | exact aY | apply ba))) (by (repeat (first | exact aJ | apply aD | apply aI))) ?_)
       refine aw (by kernel_rfl) ?_
       exact aq (a6,c7,a12,c13,b15,b16) (by (repeat (first | exact bX | apply bq rfl))) (by (repeat (first | exact be | (apply bv;(focus (repeat (first | exact aF | apply aC))))))) trivial
      skip
      refine af rfl rfl rfl rfl (an (cs:=[pN,pI 0]) rfl rfl rfl rfl (fun b16=>aa 14 (by kernel_rfl) ?_))
      refine af rfl rfl rfl rfl (al (enc:=Za.enc) rfl rfl rfl rfl rfl (fun _=>rfl) rfl rfl rfl (by (repeat (first | exact aF | apply aC))) hl11 (fun a12 c13=>?_))
      refine au 15 (by kernel_rfl) rfl rfl rfl rfl (ak (cs:=[pO a12 l11.length c13,pI 0]) rfl rfl rfl rfl rfl rfl rfl (by (repeat (first | exact bQ | (apply bO rfl rfl rfl rfl;(focus (repeat (first | exact aJ | apply aD | apply aI)))))))) ?_
      refine aa 18 (by kernel_rfl) ?_
      refine ai rfl rfl rfl (ah (vs:=[pO a6 l5.length c7,pI 0]) rfl rfl rfl rfl rfl (by (repeat (first | exact aY | apply ba))) (by (repeat (first | exact aJ | apply aD | apply aI))) ?_)
      refine aa 19 (by kernel_rfl) ?_
      refine ai rfl rfl rfl (ah (vs:=[pO a12 l11.length c13,pI 0]) rfl rfl rfl rfl rfl (by (repeat (first | exact aY | apply ba))) (by (repeat (first | exact aJ | apply aD | apply aI))) ?_)
      refine aw (by kernel_rfl) ?_
      exact aq (a6,c7,a12,c13,b15,b16) (by (repeat (first | exact bX | apply bq rfl))) (by (repeat (first | exact be | (apply bv;(focus (repeat (first | exact aF | apply aC))))))) trivial
     skip
     refine af rfl rfl rfl rfl (an (cs:=[pN,pI 0]) rfl rfl rfl rfl (fun b16=>?_))
     refine aP 14 16 (by kernel_rfl) ?_ ?_
     ·skip
      refine af rfl rfl rfl rfl (al (enc:=Za.enc) rfl rfl rfl rfl rfl (fun _=>rfl) rfl rfl rfl (by (repeat (first | exact aF | apply aC))) hl11 (fun a12 c13=>?_))
      refine au 15 (by kernel_rfl) rfl rfl rfl rfl (ak (cs:=[pO a12 l11.length c13,pI 0]) rfl rfl rfl rfl rfl rfl rfl (by (repeat (first | exact bQ | (apply bO rfl rfl rfl rfl;(focus (repeat (first | exact aJ | apply aD | apply aI)))))))) ?_
      refine aa 16 (by kernel_rfl) (af rfl rfl rfl rfl (an (cs:=[pN,pI 0]) rfl rfl rfl rfl (fun b15=>aa 18 (by kernel_rfl) ?_)))
      refine ai rfl rfl rfl (ah (vs:=[pO a6 l5.length c7,pI 0]) rfl rfl rfl rfl rfl (by (repeat (first | exact aY | apply ba))) (by (repeat (first | exact aJ | apply aD | apply aI))) ?_)
      refine aa 19 (by kernel_rfl) ?_
      refine ai rfl rfl rfl (ah (vs:=[pO a12 l11.length c13,pI 0]) rfl rfl rfl rfl rfl (by (repeat (first | exact aY | apply ba))) (by (repeat (first | exact aJ | apply aD | apply aI))) ?_)
      refine aw (by kernel_rfl) ?_
      exact aq (a6,c7,a12,c13,b15,b16) (by (repeat (first | exact bX | apply bq rfl))) (by (repeat (first | exact be | (apply bv;(focus (repeat (first | exact aF | apply aC))))))) trivial
     skip
     refine af rfl rfl rfl rfl (an (cs:=[pN,pI 0]) rfl rfl rfl rfl (fun b15=>aa 14 (by kernel_rfl) ?_))
     refine af rfl rfl rfl rfl (al (enc:=Za.enc) rfl rfl rfl rfl rfl (fun _=>rfl) rfl rfl rfl (by (repeat (first | exact aF | apply aC))) hl11 (fun a12 c13=>?_))
     refine au 15 (by kernel_rfl) rfl rfl rfl rfl (ak (cs:=[pO a12 l11.length c13,pI 0]) rfl rfl rfl rfl rfl rfl rfl (by (repeat (first | exact bQ | (apply bO rfl rfl rfl rfl;(focus (repeat (first | exact aJ | apply aD | apply aI)))))))) ?_
     refine aa 18 (by kernel_rfl) ?_
     refine ai rfl rfl rfl (ah (vs:=[pO a6 l5.length c7,pI 0]) rfl rfl rfl rfl rfl (by (repeat (first | exact aY | apply ba))) (by (repeat (first | exact aJ | apply aD | apply aI))) ?_)
     refine aa 19 (by kernel_rfl) ?_
     refine ai rfl rfl rfl (ah (vs:=[pO a12 l11.length c13,pI 0]) rfl rfl rfl rfl rfl (by (repeat (first | exact aY | apply ba))) (by (repeat (first | exact aJ | apply aD | apply aI))) ?_)
     refine aw (by kernel_rfl) ?_
     exact aq (a6,c7,a12,c13,b15,b16) (by (repeat (first | exact bX | apply bq rfl))) (by (repeat (first | exact be | (apply bv;(focus (repeat (first | exact aF | apply aC))))))) trivial
    ·skip
     refine af rfl rfl rfl rfl (an (cs:=[pN,pI 0]) rfl rfl rfl rfl (fun b15=>?_))
     refine aP 6 17 (by kernel_rfl) ?_ ?_
     ·skip
      refine af rfl rfl rfl rfl (al (enc:=Za.enc) rfl rfl rfl rfl rfl (fun _=>rfl) rfl rfl rfl (by (repeat (first | exact aF | apply aC))) hl5 (fun a6 c7=>?_))
      refine au 7 (by kernel_rfl) rfl rfl rfl rfl (ak (cs:=[pO a6 l5.length c7,pI 0]) rfl rfl rfl rfl rfl rfl rfl (by (repeat (first | exact bQ | (apply bO rfl rfl rfl rfl;(focus (repeat (first | exact aJ | apply aD | apply aI)))))))) ?_
      refine aP 14 17 (by kernel_rfl) ?_ ?_
      ·skip
       refine af rfl rfl rfl rfl (al (enc:=Za.enc) rfl rfl rfl rfl rfl (fun _=>rfl) rfl rfl rfl (by (repeat (first | exact aF | apply aC))) hl11 (fun a12 c13=>?_))
       refine au 15 (by kernel_rfl) rfl rfl rfl rfl (ak (cs:=[pO a12 l11.length c13,pI 0]) rfl rfl rfl rfl rfl rfl rfl (by (repeat (first | exact bQ | (apply bO rfl rfl rfl rfl;(focus (repeat (first | exact aJ | apply aD | apply aI)))))))) ?_
       refine aa 17 (by kernel_rfl) (af rfl rfl rfl rfl (an (cs:=[pN,pI 0]) rfl rfl rfl rfl (fun b16=>aa 18 (by kernel_rfl) ?_)))
       refine ai rfl rfl rfl (ah (vs:=[pO a6 l5.length c7,pI 0]) rfl rfl rfl rfl rfl (by (repeat (first | exact aY | apply ba))) (by (repeat (first | exact aJ | apply aD | apply aI))) ?_)
       refine aa 19 (by kernel_rfl) ?_
       refine ai rfl rfl rfl (ah (vs:=[pO a12 l11.length c13,pI 0]) rfl rfl rfl rfl rfl (by (repeat (first | exact aY | apply ba))) (by (repeat (first | exact aJ | apply aD | apply aI))) ?_)
       refine aw (by kernel_rfl) ?_
       exact aq (a6,c7,a12,c13,b15,b16) (by (repeat (first | exact bX | apply bq rfl))) (by (repeat (first | exact be | (apply bv;(focus (repeat (first | exact aF | apply aC))))))) trivial
      skip
      refine af rfl rfl rfl rfl (an (cs:=[pN,pI 0]) rfl rfl rfl rfl (fun b16=>aa 14 (by kernel_rfl) ?_))
      refine af rfl rfl rfl rfl (al (enc:=Za.enc) rfl rfl rfl rfl rfl (fun _=>rfl) rfl rfl rfl (by (repeat (first | exact aF | apply aC))) hl11 (fun a12 c13=>?_))
      refine au 15 (by kernel_rfl) rfl rfl rfl rfl (ak (cs:=[pO a12 l11.length c13,pI 0]) rfl rfl rfl rfl rfl rfl rfl (by (repeat (first | exact bQ | (apply bO rfl rfl rfl rfl;(focus (repeat (first | exact aJ | apply aD | apply aI)))))))) ?_
      refine aa 18 (by kernel_rfl) ?_
      refine ai rfl rfl rfl (ah (vs:=[pO a6 l5.length c7,pI 0]) rfl rfl rfl rfl rfl (by (repeat (first | exact aY | apply ba))) (by (repeat (first | exact aJ | apply aD | apply aI))) ?_)
      refine aa 19 (by kernel_rfl) ?_
      refine ai rfl rfl rfl (ah (vs:=[pO a12 l11.length c13,pI 0]) rfl rfl rfl rfl rfl (by (repeat (first | exact aY | apply ba))) (by (repeat (first | exact aJ | apply aD | apply aI))) ?_)
      refine aw (by kernel_rfl) ?_
      exact aq (a6,c7,a12,c13,b15,b16) (by (repeat (first | exact bX | apply bq rfl))) (by (repeat (first | exact be | (apply bv;(focus (repeat (first | exact aF | apply aC))))))) trivial
     skip
     refine af rfl rfl rfl rfl (an (cs:=[pN,pI 0]) rfl rfl rfl rfl (fun b16=>aa 6 (by kernel_rfl) ?_))
     refine af rfl rfl rfl rfl (al (enc:=Za.enc) rfl rfl rfl rfl rfl (fun _=>rfl) rfl rfl rfl (by (repeat (first | exact aF | apply aC))) hl5 (fun a6 c7=>?_))
     refine au 7 (by kernel_rfl) rfl rfl rfl rfl (ak (cs:=[pO a6 l5.length c7,pI 0]) rfl rfl rfl rfl rfl rfl rfl (by (repeat (first | exact bQ | (apply bO rfl rfl rfl rfl;(focus (repeat (first | exact aJ | apply aD | apply aI)))))))) ?_
     refine aa 14 (by kernel_rfl) ?_
     refine af rfl rfl rfl rfl (al (enc:=Za.enc) rfl rfl rfl rfl rfl (fun _=>rfl) rfl rfl rfl (by (repeat (first | exact aF | apply aC))) hl11 (fun a12 c13=>?_))
     refine au 15 (by kernel_rfl) rfl rfl rfl rfl (ak (cs:=[pO a12 l11.length c13,pI 0]) rfl rfl rfl rfl rfl rfl rfl (by (repeat (first | exact bQ | (apply bO rfl rfl rfl rfl;(focus (repeat (first | exact aJ | apply aD | apply aI)))))))) ?_
     refine aa 18 (by kernel_rfl) ?_
     refine ai rfl rfl rfl (ah (vs:=[pO a6 l5.length c7,pI 0]) rfl rfl rfl rfl rfl (by (repeat (first | exact aY | apply ba))) (by (repeat (first | exact aJ | apply aD | apply aI))) ?_)
     refine aa 19 (by kernel_rfl) ?_
     refine ai rfl rfl rfl (ah (vs:=[pO a12 l11.length c13,pI 0]) rfl rfl rfl rfl rfl (by (repeat (first | exact aY | apply ba))) (by (repeat (first | exact aJ | apply aD | apply aI))) ?_)
     refine aw (by kernel_rfl) ?_
     exact aq (a6,c7,a12,c13,b15,b16) (by (repeat (first | exact bX | apply bq rfl))) (by (repeat (first | exact be | (apply bv;(focus (repeat (first | exact aF | apply aC))))))) trivial
    skip
    refine af rfl rfl rfl rfl (an (cs:=[pN,pI 0]) rfl rfl rfl rfl (fun b16=>?_))
    refine aP 6 16 (by kernel_rfl) ?_ ?_
    ·skip
     refine af rfl rfl rfl rfl (al (enc:=Za.enc) rfl rfl rfl rfl rfl (fun _=>rfl) rfl rfl rfl (by (repeat (first | exact aF | apply aC))) hl5 (fun a6 c7=>?_))
     refine au 7 (by kernel_rfl) rfl rfl rfl rfl (ak (cs:=[pO a6 l5.length c7,pI 0]) rfl rfl rfl rfl rfl rfl rfl (by (repeat (first | exact bQ | (apply bO rfl rfl rfl rfl;(focus (repeat (first | exact aJ | apply aD | apply aI)))))))) ?_
     refine aP 14 16 (by kernel_rfl) ?_ ?_
     ·skip
      refine af rfl rfl rfl rfl (al (enc:=Za.enc) rfl rfl rfl rfl rfl (fun _=>rfl) rfl rfl rfl (by (repeat (first | exact aF | apply aC))) hl11 (fun a12 c13=>?_))
      refine au 15 (by kernel_rfl) rfl rfl rfl rfl (ak (cs:=[pO a12 l11.length c13,pI 0]) rfl rfl rfl rfl rfl rfl rfl (by (repeat (first | exact bQ | (apply bO rfl rfl rfl rfl;(focus (repeat (first | exact aJ | apply aD | apply aI)))))))) ?_
      refine aa 16 (by kernel_rfl) (af rfl rfl rfl rfl (an (cs:=[pN,pI 0]) rfl rfl rfl rfl (fun b15=>aa 18 (by kernel_rfl) ?_)))
      refine ai rfl rfl rfl (ah (vs:=[pO a6 l5.length c7,pI 0]) rfl rfl rfl rfl rfl (by (repeat (first | exact aY | apply ba))) (by (repeat (first | exact aJ | apply aD | apply aI))) ?_)
      refine aa 19 (by kernel_rfl) ?_
      refine ai rfl rfl rfl (ah (vs:=[pO a12 l11.length c13,pI 0]) rfl rfl rfl rfl rfl (by (repeat (first | exact aY | apply ba))) (by (repeat (first | exact aJ | apply aD | apply aI))) ?_)
      refine aw (by kernel_rfl) ?_
      exact aq (a6,c7,a12,c13,b15,b16) (by (repeat (first | exact bX | apply bq rfl))) (by (repeat (first | exact be | (apply bv;(focus (repeat (first | exact aF | apply aC))))))) trivial
     skip
     refine af rfl rfl rfl rfl (an (cs:=[pN,pI 0]) rfl rfl rfl rfl (fun b15=>aa 14 (by kernel_rfl) ?_))
     refine af rfl rfl rfl rfl (al (enc:=Za.enc) rfl rfl rfl rfl rfl (fun _=>rfl) rfl rfl rfl (by (repeat (first | exact aF | apply aC))) hl11 (fun a12 c13=>?_))
     refine au 15 (by kernel_rfl) rfl rfl rfl rfl (ak (cs:=[pO a12 l11.length c13,pI 0]) rfl rfl rfl rfl rfl rfl rfl (by (repeat (first | exact bQ | (apply bO rfl rfl rfl rfl;(focus (repeat (first | exact aJ | apply aD | apply aI)))))))) ?_
     refine aa 18 (by kernel_rfl) ?_
     refine ai rfl rfl rfl (ah (vs:=[pO a6 l5.length c7,pI 0]) rfl rfl rfl rfl rfl (by (repeat (first | exact aY | apply ba))) (by (repeat (first | exact aJ | apply aD | apply aI))) ?_)
     refine aa 19 (by kernel_rfl) ?_
     refine ai rfl rfl rfl (ah (vs:=[pO a12 l11.length c13,pI 0]) rfl rfl rfl rfl rfl (by (repeat (first | exact aY | apply ba))) (by (repeat (first | exact aJ | apply aD | apply aI))) ?_)
     refine aw (by kernel_rfl) ?_
     exact aq (a6,c7,a12,c13,b15,b16) (by (repeat (first | exact bX | apply bq rfl))) (by (repeat (first | exact be | (apply bv;(focus (repeat (first | exact aF | apply aC))))))) trivial
    skip
    refine af rfl rfl rfl rfl (an (cs:=[pN,pI 0]) rfl rfl rfl rfl (fun b15=>aa 6 (by kernel_rfl) ?_))
    refine af rfl rfl rfl rfl (al (enc:=Za.enc) rfl rfl rfl rfl rfl (fun _=>rfl) rfl rfl rfl (by (repeat (first | exact aF | apply aC))) hl5 (fun a6 c7=>?_))
    refine au 7 (by kernel_rfl) rfl rfl rfl rfl (ak (cs:=[pO a6 l5.length c7,pI 0]) rfl rfl rfl rfl rfl rfl rfl (by (repeat (first | exact bQ | (apply bO rfl rfl rfl rfl;(focus (repeat (first | exact aJ | apply aD | apply aI)))))))) ?_
    refine aa 14 (by kernel_rfl) ?_
    refine af rfl rfl rfl rfl (al (enc:=Za.enc) rfl rfl rfl rfl rfl (fun _=>rfl) rfl rfl rfl (by (repeat (first | exact aF | apply aC))) hl11 (fun a12 c13=>?_))
    refine au 15 (by kernel_rfl) rfl rfl rfl rfl (ak (cs:=[pO a12 l11.length c13,pI 0]) rfl rfl rfl rfl rfl rfl rfl (by (repeat (first | exact bQ | (apply bO rfl rfl rfl rfl;(focus (repeat (first | exact aJ | apply aD | apply aI)))))))) ?_
    refine aa 18 (by kernel_rfl) ?_
    refine ai rfl rfl rfl (ah (vs:=[pO a6 l5.length c7,pI 0]) rfl rfl rfl rfl rfl (by (repeat (first | exact aY | apply ba))) (by (repeat (first | exact aJ | apply aD | apply aI))) ?_)
    refine aa 19 (by kernel_rfl) ?_
    refine ai rfl rfl rfl (ah (vs:=[pO a12 l11.length c13,pI 0]) rfl rfl rfl rfl rfl (by (repeat (first | exact aY | apply ba))) (by (repeat (first | exact aJ | apply aD | apply aI))) ?_)
    refine aw (by kernel_rfl) ?_
    exact aq (a6,c7,a12,c13,b15,b16) (by (repeat (first | exact bX | apply bq rfl))) (by (repeat (first | exact be | (apply bv;(focus (repeat (first | exact aF | apply aC))))))) trivial
   ·skip
    refine af rfl rfl rfl rfl (an (cs:=[pN,pI 0]) rfl rfl rfl rfl (fun b15=>?_))
    refine aP 0 17 (by kernel_rfl) ?_ ?_
    ·skip
     refine af rfl rfl rfl rfl (aS rfl rfl rfl rfl rfl (by (repeat (first | exact dH | apply dA rfl))) rfl rfl rfl rfl (fun b3=>?_))
     refine aP 6 17 (by kernel_rfl) ?_ ?_
     ·skip
      refine af rfl rfl rfl rfl (al (enc:=Za.enc) rfl rfl rfl rfl rfl (fun _=>rfl) rfl rfl rfl (by (repeat (first | exact aF | apply aC))) hl5 (fun a6 c7=>?_))
      refine au 7 (by kernel_rfl) rfl rfl rfl rfl (ak (cs:=[pO a6 l5.length c7,pI 0]) rfl rfl rfl rfl rfl rfl rfl (by (repeat (first | exact bQ | (apply bO rfl rfl rfl rfl;(focus (repeat (first | exact aJ | apply aD | apply aI)))))))) ?_
      refine aP 14 17 (by kernel_rfl) ?_ ?_
      ·skip
       refine af rfl rfl rfl rfl (al (enc:=Za.enc) rfl rfl rfl rfl rfl (fun _=>rfl) rfl rfl rfl (by (repeat (first | exact aF | apply aC))) hl11 (fun a12 c13=>?_))
       refine au 15 (by kernel_rfl) rfl rfl rfl rfl (ak (cs:=[pO a12 l11.length c13,pI 0]) rfl rfl rfl rfl rfl rfl rfl (by (repeat (first | exact bQ | (apply bO rfl rfl rfl rfl;(focus (repeat (first | exact aJ | apply aD | apply aI)))))))) ?_
       refine aa 17 (by kernel_rfl) (af rfl rfl rfl rfl (an (cs:=[pN,pI 0]) rfl rfl rfl rfl (fun b16=>aa 18 (by kernel_rfl) ?_)))
       refine ai rfl rfl rfl (ah (vs:=[pO a6 l5.length c7,pI 0]) rfl rfl rfl rfl rfl (by (repeat (first | exact aY | apply ba))) (by (repeat (first | exact aJ | apply aD | apply aI))) ?_)
       refine aa 19 (by kernel_rfl) ?_
       refine ai rfl rfl rfl (ah (vs:=[pO a12 l11.length c13,pI 0]) rfl rfl rfl rfl rfl (by (repeat (first | exact aY | apply ba))) (by (repeat (first | exact aJ | apply aD | apply aI))) ?_)
       refine aw (by kernel_rfl) ?_
       exact aq (a6,c7,a12,c13,b15,b16) (by (repeat (first | exact bX | apply bq rfl))) (by (repeat (first | exact be | (apply bv;(focus (repeat (first | exact aF | apply aC))))))) trivial
      skip
      refine af rfl rfl rfl rfl (an (cs:=[pN,pI 0]) rfl rfl rfl rfl (fun b16=>aa 14 (by kernel_rfl) ?_))
      refine af rfl rfl rfl rfl (al (enc:=Za.enc) rfl rfl rfl rfl rfl (fun _=>rfl) rfl rfl rfl (by (repeat (first | exact aF | apply aC))) hl11 (fun a12 c13=>?_))
      refine au 15 (by kernel_rfl) rfl rfl rfl rfl (ak (cs:=[pO a12 l11.length c13,pI 0]) rfl rfl rfl rfl rfl rfl rfl (by (repeat (first | exact bQ | (apply bO rfl rfl rfl rfl;(focus (repeat (first | exact aJ | apply aD | apply aI)))))))) ?_
      refine aa 18 (by kernel_rfl) ?_
      refine ai rfl rfl rfl (ah (vs:=[pO a6 l5.length c7,pI 0]) rfl rfl rfl rfl rfl (by (repeat (first | exact aY | apply ba))) (by (repeat (first | exact aJ | apply aD | apply aI))) ?_)
      refine aa 19 (by kernel_rfl) ?_
      refine ai rfl rfl rfl (ah (vs:=[pO a12 l11.length c13,pI 0]) rfl rfl rfl rfl rfl (by (repeat (first | exact aY | apply ba))) (by (repeat (first | exact aJ | apply aD | apply aI))) ?_)
      refine aw (by kernel_rfl) ?_
      exact aq (a6,c7,a12,c13,b15,b16) (by (repeat (first | exact bX | apply bq rfl))) (by (repeat (first | exact be | (apply bv;(focus (repeat (first | exact aF | apply aC))))))) trivial
     skip
     refine af rfl rfl rfl rfl (an (cs:=[pN,pI 0]) rfl rfl rfl rfl (fun b16=>aa 6 (by kernel_rfl) ?_))
     refine af rfl rfl rfl rfl (al (enc:=Za.enc) rfl rfl rfl rfl rfl (fun _=>rfl) rfl rfl rfl (by (repeat (first | exact aF | apply aC))) hl5 (fun a6 c7=>?_))
     refine au 7 (by kernel_rfl) rfl rfl rfl rfl (ak (cs:=[pO a6 l5.length c7,pI 0]) rfl rfl rfl rfl rfl rfl rfl (by (repeat (first | exact bQ | (apply bO rfl rfl rfl rfl;(focus (repeat (first | exact aJ | apply aD | apply aI)))))))) ?_
     refine aa 14 (by kernel_rfl) ?_
     refine af rfl rfl rfl rfl (al (enc:=Za.enc) rfl rfl rfl rfl rfl (fun _=>rfl) rfl rfl rfl (by (repeat (first | exact aF | apply aC))) hl11 (fun a12 c13=>?_))
     refine au 15 (by kernel_rfl) rfl rfl rfl rfl (ak (cs:=[pO a12 l11.length c13,pI 0]) rfl rfl rfl rfl rfl rfl rfl (by (repeat (first | exact bQ | (apply bO rfl rfl rfl rfl;(focus (repeat (first | exact aJ | apply aD | apply aI)))))))) ?_
     refine aa 18 (by kernel_rfl) ?_
     refine ai rfl rfl rfl (ah (vs:=[pO a6 l5.length c7,pI 0]) rfl rfl rfl rfl rfl (by (repeat (first | exact aY | apply ba))) (by (repeat (first | exact aJ | apply aD | apply aI))) ?_)
     refine aa 19 (by kernel_rfl) ?_
     refine ai rfl rfl rfl (ah (vs:=[pO a12 l11.length c13,pI 0]) rfl rfl rfl rfl rfl (by (repeat (first | exact aY | apply ba))) (by (repeat (first | exact aJ | apply aD | apply aI))) ?_)
     refine aw (by kernel_rfl) ?_
     exact aq (a6,c7,a12,c13,b15,b16) (by (repeat (first | exact bX | apply bq rfl))) (by (repeat (first | exact be | (apply bv;(focus (repeat (first | exact aF | apply aC))))))) trivial
    skip
    refine af rfl rfl rfl rfl (an (cs:=[pN,pI 0]) rfl rfl rfl rfl (fun b16=>aa 0 (by kernel_rfl) ?_))
    refine af rfl rfl rfl rfl (aS rfl rfl rfl rfl rfl (by (repeat (first | exact dH | apply dA rfl))) rfl rfl rfl rfl (fun b3=>?_))
    refine aa 6 (by kernel_rfl) ?_
    refine af rfl rfl rfl rfl (al (enc:=Za.enc) rfl rfl rfl rfl rfl (fun _=>rfl) rfl rfl rfl (by (repeat (first | exact aF | apply aC))) hl5 (fun a6 c7=>?_))
    refine au 7 (by kernel_rfl) rfl rfl rfl rfl (ak (cs:=[pO a6 l5.length c7,pI 0]) rfl rfl rfl rfl rfl rfl rfl (by (repeat (first | exact bQ | (apply bO rfl rfl rfl rfl;(focus (repeat (first | exact aJ | apply aD | apply aI)))))))) ?_
    refine aa 14 (by kernel_rfl) ?_
    refine af rfl rfl rfl rfl (al (enc:=Za.enc) rfl rfl rfl rfl rfl (fun _=>rfl) rfl rfl rfl (by (repeat (first | exact aF | apply aC))) hl11 (fun a12 c13=>?_))
    refine au 15 (by kernel_rfl) rfl rfl rfl rfl (ak (cs:=[pO a12 l11.length c13,pI 0]) rfl rfl rfl rfl rfl rfl rfl (by (repeat (first | exact bQ | (apply bO rfl rfl rfl rfl;(focus (repeat (first | exact aJ | apply aD | apply aI)))))))) ?_
    refine aa 18 (by kernel_rfl) ?_
    refine ai rfl rfl rfl (ah (vs:=[pO a6 l5.length c7,pI 0]) rfl rfl rfl rfl rfl (by (repeat (first | exact aY | apply ba))) (by (repeat (first | exact aJ | apply aD | apply aI))) ?_)
    refine aa 19 (by kernel_rfl) ?_
    refine ai rfl rfl rfl (ah (vs:=[pO a12 l11.length c13,pI 0]) rfl rfl rfl rfl rfl (by (repeat (first | exact aY | apply ba))) (by (repeat (first | exact aJ | apply aD | apply aI))) ?_)
    refine aw (by kernel_rfl) ?_
    exact aq (a6,c7,a12,c13,b15,b16) (by (repeat (first | exact bX | apply bq rfl))) (by (repeat (first | exact be | (apply bv;(focus (repeat (first | exact aF | apply aC))))))) trivial
   skip
   refine af rfl rfl rfl rfl (an (cs:=[pN,pI 0]) rfl rfl rfl rfl (fun b16=>?_))
   refine aP 0 16 (by kernel_rfl) ?_ ?_
   ·skip
    refine af rfl rfl rfl rfl (aS rfl rfl rfl rfl rfl (by (repeat (first | exact dH | apply dA rfl))) rfl rfl rfl rfl (fun b3=>?_))
    refine aP 6 16 (by kernel_rfl) ?_ ?_
    ·skip
     refine af rfl rfl rfl rfl (al (enc:=Za.enc) rfl rfl rfl rfl rfl (fun _=>rfl) rfl rfl rfl (by (repeat (first | exact aF | apply aC))) hl5 (fun a6 c7=>?_))
     refine au 7 (by kernel_rfl) rfl rfl rfl rfl (ak (cs:=[pO a6 l5.length c7,pI 0]) rfl rfl rfl rfl rfl rfl rfl (by (repeat (first | exact bQ | (apply bO rfl rfl rfl rfl;(focus (repeat (first | exact aJ | apply aD | apply aI)))))))) ?_
     refine aP 14 16 (by kernel_rfl) ?_ ?_
     ·skip
      refine af rfl rfl rfl rfl (al (enc:=Za.enc) rfl rfl rfl rfl rfl (fun _=>rfl) rfl rfl rfl (by (repeat (first | exact aF | apply aC))) hl11 (fun a12 c13=>?_))
      refine au 15 (by kernel_rfl) rfl rfl rfl rfl (ak (cs:=[pO a12 l11.length c13,pI 0]) rfl rfl rfl rfl rfl rfl rfl (by (repeat (first | exact bQ | (apply bO rfl rfl rfl rfl;(focus (repeat (first | exact aJ | apply aD | apply aI)))))))) ?_
      refine aa 16 (by kernel_rfl) (af rfl rfl rfl rfl (an (cs:=[pN,pI 0]) rfl rfl rfl rfl (fun b15=>aa 18 (by kernel_rfl) ?_)))
      refine ai rfl rfl rfl (ah (vs:=[pO a6 l5.length c7,pI 0]) rfl rfl rfl rfl rfl (by (repeat (first | exact aY | apply ba))) (by (repeat (first | exact aJ | apply aD | apply aI))) ?_)
      refine aa 19 (by kernel_rfl) ?_
      refine ai rfl rfl rfl (ah (vs:=[pO a12 l11.length c13,pI 0]) rfl rfl rfl rfl rfl (by (repeat (first | exact aY | apply ba))) (by (repeat (first | exact aJ | apply aD | apply aI))) ?_)
      refine aw (by kernel_rfl) ?_
      exact aq (a6,c7,a12,c13,b15,b16) (by (repeat (first | exact bX | apply bq rfl))) (by (repeat (first | exact be | (apply bv;(focus (repeat (first | exact aF | apply aC))))))) trivial
     skip
     refine af rfl rfl rfl rfl (an (cs:=[pN,pI 0]) rfl rfl rfl rfl (fun b15=>aa 14 (by kernel_rfl) ?_))
     refine af rfl rfl rfl rfl (al (enc:=Za.enc) rfl rfl rfl rfl rfl (fun _=>rfl) rfl rfl rfl (by (repeat (first | exact aF | apply aC))) hl11 (fun a12 c13=>?_))
     refine au 15 (by kernel_rfl) rfl rfl rfl rfl (ak (cs:=[pO a12 l11.length c13,pI 0]) rfl rfl rfl rfl rfl rfl rfl (by (repeat (first | exact bQ | (apply bO rfl rfl rfl rfl;(focus (repeat (first | exact aJ | apply aD | apply aI)))))))) ?_
     refine aa 18 (by kernel_rfl) ?_
     refine ai rfl rfl rfl (ah (vs:=[pO a6 l5.length c7,pI 0]) rfl rfl rfl rfl rfl (by (repeat (first | exact aY | apply ba))) (by (repeat (first | exact aJ | apply aD | apply aI))) ?_)
     refine aa 19 (by kernel_rfl) ?_
     refine ai rfl rfl rfl (ah (vs:=[pO a12 l11.length c13,pI 0]) rfl rfl rfl rfl rfl (by (repeat (first | exact aY | apply ba))) (by (repeat (first | exact aJ | apply aD | apply aI))) ?_)
     refine aw (by kernel_rfl) ?_
     exact aq (a6,c7,a12,c13,b15,b16) (by (repeat (first | exact bX | apply bq rfl))) (by (repeat (first | exact be | (apply bv;(focus (repeat (first | exact aF | apply aC))))))) trivial
    skip
    refine af rfl rfl rfl rfl (an (cs:=[pN,pI 0]) rfl rfl rfl rfl (fun b15=>aa 6 (by kernel_rfl) ?_))
    refine af rfl rfl rfl rfl (al (enc:=Za.enc) rfl rfl rfl rfl rfl (fun _=>rfl) rfl rfl rfl (by (repeat (first | exact aF | apply aC))) hl5 (fun a6 c7=>?_))
    refine au 7 (by kernel_rfl) rfl rfl rfl rfl (ak (cs:=[pO a6 l5.length c7,pI 0]) rfl rfl rfl rfl rfl rfl rfl (by (repeat (first | exact bQ | (apply bO rfl rfl rfl rfl;(focus (repeat (first | exact aJ | apply aD | apply aI)))))))) ?_
    refine aa 14 (by kernel_rfl) ?_
    refine af rfl rfl rfl rfl (al (enc:=Za.enc) rfl rfl rfl rfl rfl (fun _=>rfl) rfl rfl rfl (by (repeat (first | exact aF | apply aC))) hl11 (fun a12 c13=>?_))
    refine au 15 (by kernel_rfl) rfl rfl rfl rfl (ak (cs:=[pO a12 l11.length c13,pI 0]) rfl rfl rfl rfl rfl rfl rfl (by (repeat (first | exact bQ | (apply bO rfl rfl rfl rfl;(focus (repeat (first | exact aJ | apply aD | apply aI)))))))) ?_
    refine aa 18 (by kernel_rfl) ?_
    refine ai rfl rfl rfl (ah (vs:=[pO a6 l5.length c7,pI 0]) rfl rfl rfl rfl rfl (by (repeat (first | exact aY | apply ba))) (by (repeat (first | exact aJ | apply aD | apply aI))) ?_)
    refine aa 19 (by kernel_rfl) ?_
    refine ai rfl rfl rfl (ah (vs:=[pO a12 l11.length c13,pI 0]) rfl rfl rfl rfl rfl (by (repeat (first | exact aY | apply ba))) (by (repeat (first | exact aJ | apply aD | apply aI))) ?_)
    refine aw (by kernel_rfl) ?_
    exact aq (a6,c7,a12,c13,b15,b16) (by (repeat (first | exact bX | apply bq rfl))) (by (repeat (first | exact be | (apply bv;(focus (repeat (first | exact aF | apply aC))))))) trivial
   skip
   refine af rfl rfl rfl rfl (an (cs:=[pN,pI 0]) rfl rfl rfl rfl (fun b15=>aa 0 (by kernel_rfl) ?_))
   refine af rfl rfl rfl rfl (aS rfl rfl rfl rfl rfl (by (repeat (first | exact dH | apply dA rfl))) rfl rfl rfl rfl (fun b3=>?_))
   refine aa 6 (by kernel_rfl) ?_
   refine af rfl rfl rfl rfl (al (enc:=Za.enc) rfl rfl rfl rfl rfl (fun _=>rfl) rfl rfl rfl (by (repeat (first | exact aF | apply aC))) hl5 (fun a6 c7=>?_))
   refine au 7 (by kernel_rfl) rfl rfl rfl rfl (ak (cs:=[pO a6 l5.length c7,pI 0]) rfl rfl rfl rfl rfl rfl rfl (by (repeat (first | exact bQ | (apply bO rfl rfl rfl rfl;(focus (repeat (first | exact aJ | apply aD | apply aI)))))))) ?_
   refine aa 14 (by kernel_rfl) ?_
   refine af rfl rfl rfl rfl (al (enc:=Za.enc) rfl rfl rfl rfl rfl (fun _=>rfl) rfl rfl rfl (by (repeat (first | exact aF | apply aC))) hl11 (fun a12 c13=>?_))
   refine au 15 (by kernel_rfl) rfl rfl rfl rfl (ak (cs:=[pO a12 l11.length c13,pI 0]) rfl rfl rfl rfl rfl rfl rfl (by (repeat (first | exact bQ | (apply bO rfl rfl rfl rfl;(focus (repeat (first | exact aJ | apply aD | apply aI)))))))) ?_
   refine aa 18 (by kernel_rfl) ?_
   refine ai rfl rfl rfl (ah (vs:=[pO a6 l5.length c7,pI 0]) rfl rfl rfl rfl rfl (by (repeat (first | exact aY | apply ba))) (by (repeat (first | exact aJ | apply aD | apply aI))) ?_)
   refine aa 19 (by kernel_rfl) ?_
   refine ai rfl rfl rfl (ah (vs:=[pO a12 l11.length c13,pI 0]) rfl rfl rfl rfl rfl (by (repeat (first | exact aY | apply ba))) (by (repeat (first | exact aJ | apply aD | apply aI))) ?_)
   refine aw (by kernel_rfl) ?_
   exact aq (a6,c7,a12,c13,b15,b16) (by (repeat (first | exact bX | apply bq rfl))) (by (repeat (first | exact be | (apply bv;(focus (repeat (first | exact aF | apply aC))))))) trivial
  ·skip
   refine af rfl rfl rfl rfl (an (cs:=[pN,pI 0]) rfl rfl rfl rfl (fun b15=>?_))
   refine cD 0 8 17 (by kernel_rfl) ?_ ?_ ?_
   ·skip
    refine af rfl rfl rfl rfl (aS rfl rfl rfl rfl rfl (by (repeat (first | exact dH | apply dA rfl))) rfl rfl rfl rfl (fun b3=>?_))
    refine cD 6 8 17 (by kernel_rfl) ?_ ?_ ?_
    ·skip
     refine af rfl rfl rfl rfl (al (enc:=Za.enc) rfl rfl rfl rfl rfl (fun _=>rfl) rfl rfl rfl (by (repeat (first | exact aF | apply aC))) hl5 (fun a6 c7=>?_))
     refine au 7 (by kernel_rfl) rfl rfl rfl rfl (ak (cs:=[pO a6 l5.length c7,pI 0]) rfl rfl rfl rfl rfl rfl rfl (by (repeat (first | exact bQ | (apply bO rfl rfl rfl rfl;(focus (repeat (first | exact aJ | apply aD | apply aI)))))))) ?_
     refine aP 8 17 (by kernel_rfl) ?_ ?_
     ·skip
      refine af rfl rfl rfl rfl (aS rfl rfl rfl rfl rfl (by (repeat (first | exact dH | apply dA rfl))) rfl rfl rfl rfl (fun b9=>?_))
      refine aP 14 17 (by kernel_rfl) ?_ ?_
      ·skip
       refine af rfl rfl rfl rfl (al (enc:=Za.enc) rfl rfl rfl rfl rfl (fun _=>rfl) rfl rfl rfl (by (repeat (first | exact aF | apply aC))) hl11 (fun a12 c13=>?_))
       refine au 15 (by kernel_rfl) rfl rfl rfl rfl (ak (cs:=[pO a12 l11.length c13,pI 0]) rfl rfl rfl rfl rfl rfl rfl (by (repeat (first | exact bQ | (apply bO rfl rfl rfl rfl;(focus (repeat (first | exact aJ | apply aD | apply aI)))))))) ?_
       refine aa 17 (by kernel_rfl) (af rfl rfl rfl rfl (an (cs:=[pN,pI 0]) rfl rfl rfl rfl (fun b16=>aa 18 (by kernel_rfl) ?_)))
       refine ai rfl rfl rfl (ah (vs:=[pO a6 l5.length c7,pI 0]) rfl rfl rfl rfl rfl (by (repeat (first | exact aY | apply ba))) (by (repeat (first | exact aJ | apply aD | apply aI))) ?_)
       refine aa 19 (by kernel_rfl) ?_
       refine ai rfl rfl rfl (ah (vs:=[pO a12 l11.length c13,pI 0]) rfl rfl rfl rfl rfl (by (repeat (first | exact aY | apply ba))) (by (repeat (first | exact aJ | apply aD | apply aI))) ?_)
       refine aw (by kernel_rfl) ?_
       exact aq (a6,c7,a12,c13,b15,b16) (by (repeat (first | exact bX | apply bq rfl))) (by (repeat (first | exact be | (apply bv;(focus (repeat (first | exact aF | apply aC))))))) trivial
      skip
      refine af rfl rfl rfl rfl (an (cs:=[pN,pI 0]) rfl rfl rfl rfl (fun b16=>aa 14 (by kernel_rfl) ?_))
      refine af rfl rfl rfl rfl (al (enc:=Za.enc) rfl rfl rfl rfl rfl (fun _=>rfl) rfl rfl rfl (by (repeat (first | exact aF | apply aC))) hl11 (fun a12 c13=>?_))
      refine au 15 (by kernel_rfl) rfl rfl rfl rfl (ak (cs:=[pO a12 l11.length c13,pI 0]) rfl rfl rfl rfl rfl rfl rfl (by (repeat (first | exact bQ | (apply bO rfl rfl rfl rfl;(focus (repeat (first | exact aJ | apply aD | apply aI)))))))) ?_
      refine aa 18 (by kernel_rfl) ?_
      refine ai rfl rfl rfl (ah (vs:=[pO a6 l5.length c7,pI 0]) rfl rfl rfl rfl rfl (by (repeat (first | exact aY | apply ba))) (by (repeat (first | exact aJ | apply aD | apply aI))) ?_)
      refine aa 19 (by kernel_rfl) ?_
      refine ai rfl rfl rfl (ah (vs:=[pO a12 l11.length c13,pI 0]) rfl rfl rfl rfl rfl (by (repeat (first | exact aY | apply ba))) (by (repeat (first | exact aJ | apply aD | apply aI))) ?_)
      refine aw (by kernel_rfl) ?_
      exact aq (a6,c7,a12,c13,b15,b16) (by (repeat (first | exact bX | apply bq rfl))) (by (repeat (first | exact be | (apply bv;(focus (repeat (first | exact aF | apply aC))))))) trivial
     skip
     refine af rfl rfl rfl rfl (an (cs:=[pN,pI 0]) rfl rfl rfl rfl (fun b16=>aa 8 (by kernel_rfl) ?_))
     refine af rfl rfl rfl rfl (aS rfl rfl rfl rfl rfl (by (repeat (first | exact dH | apply dA rfl))) rfl rfl rfl rfl (fun b9=>?_))
     refine aa 14 (by kernel_rfl) ?_
     refine af rfl rfl rfl rfl (al (enc:=Za.enc) rfl rfl rfl rfl rfl (fun _=>rfl) rfl rfl rfl (by (repeat (first | exact aF | apply aC))) hl11 (fun a12 c13=>?_))
     refine au 15 (by kernel_rfl) rfl rfl rfl rfl (ak (cs:=[pO a12 l11.length c13,pI 0]) rfl rfl rfl rfl rfl rfl rfl (by (repeat (first | exact bQ | (apply bO rfl rfl rfl rfl;(focus (repeat (first | exact aJ | apply aD | apply aI)))))))) ?_
     refine aa 18 (by kernel_rfl) ?_
     refine ai rfl rfl rfl (ah (vs:=[pO a6 l5.length c7,pI 0]) rfl rfl rfl rfl rfl (by (repeat (first | exact aY | apply ba))) (by (repeat (first | exact aJ | apply aD | apply aI))) ?_)
     refine aa 19 (by kernel_rfl) ?_
     refine ai rfl rfl rfl (ah (vs:=[pO a12 l11.length c13,pI 0]) rfl rfl rfl rfl rfl (by (repeat (first | exact aY | apply ba))) (by (repeat (first | exact aJ | apply aD | apply aI))) ?_)
     refine aw (by kernel_rfl) ?_
     exact aq (a6,c7,a12,c13,b15,b16) (by (repeat (first | exact bX | apply bq rfl))) (by (repeat (first | exact be | (apply bv;(focus (repeat (first | exact aF | apply aC))))))) trivial
    ·skip
     refine af rfl rfl rfl rfl (aS rfl rfl rfl rfl rfl (by (repeat (first | exact dH | apply dA rfl))) rfl rfl rfl rfl (fun b9=>?_))
     refine aP 6 17 (by kernel_rfl) ?_ ?_
     ·skip
      refine af rfl rfl rfl rfl (al (enc:=Za.enc) rfl rfl rfl rfl rfl (fun _=>rfl) rfl rfl rfl (by (repeat (first | exact aF | apply aC))) hl5 (fun a6 c7=>?_))
      refine au 7 (by kernel_rfl) rfl rfl rfl rfl (ak (cs:=[pO a6 l5.length c7,pI 0]) rfl rfl rfl rfl rfl rfl rfl (by (repeat (first | exact bQ | (apply bO rfl rfl rfl rfl;(focus (repeat (first | exact aJ | apply aD | apply aI)))))))) ?_
      refine aP 14 17 (by kernel_rfl) ?_ ?_
      ·skip
       refine af rfl rfl rfl rfl (al (enc:=Za.enc) rfl rfl rfl rfl rfl (fun _=>rfl) rfl rfl rfl (by (repeat (first | exact aF | apply aC))) hl11 (fun a12 c13=>?_))
       refine au 15 (by kernel_rfl) rfl rfl rfl rfl (ak (cs:=[pO a12 l11.length c13,pI 0]) rfl rfl rfl rfl rfl rfl rfl (by (repeat (first | exact bQ | (apply bO rfl rfl rfl rfl;(focus (repeat (first | exact aJ | apply aD | apply aI)))))))) ?_
       refine aa 17 (by kernel_rfl) (af rfl rfl rfl rfl (an (cs:=[pN,pI 0]) rfl rfl rfl rfl (fun b16=>aa 18 (by kernel_rfl) ?_)))
       refine ai rfl rfl rfl (ah (vs:=[pO a6 l5.length c7,pI 0]) rfl rfl rfl rfl rfl (by (repeat (first | exact aY | apply ba))) (by (repeat (first | exact aJ | apply aD | apply aI))) ?_)
       refine aa 19 (by kernel_rfl) ?_
       refine ai rfl rfl rfl (ah (vs:=[pO a12 l11.length c13,pI 0]) rfl rfl rfl rfl rfl (by (repeat (first | exact aY | apply ba))) (by (repeat (first | exact aJ | apply aD | apply aI))) ?_)
       refine aw (by kernel_rfl) ?_
       exact aq (a6,c7,a12,c13,b15,b16) (by (repeat (first | exact bX | apply bq rfl))) (by (repeat (first | exact be | (apply bv;(focus (repeat (first | exact aF | apply aC))))))) trivial
      skip
      refine af rfl rfl rfl rfl (an (cs:=[pN,pI 0]) rfl rfl rfl rfl (fun b16=>aa 14 (by kernel_rfl) ?_))
      refine af rfl rfl rfl rfl (al (enc:=Za.enc) rfl rfl rfl rfl rfl (fun _=>rfl) rfl rfl rfl (by (repeat (first | exact aF | apply aC))) hl11 (fun a12 c13=>?_))
      refine au 15 (by kernel_rfl) rfl rfl rfl rfl (ak (cs:=[pO a12 l11.length c13,pI 0]) rfl rfl rfl rfl rfl rfl rfl (by (repeat (first | exact bQ | (apply bO rfl rfl rfl rfl;(focus (repeat (first | exact aJ | apply aD | apply aI)))))))) ?_
      refine aa 18 (by kernel_rfl) ?_
      refine ai rfl rfl rfl (ah (vs:=[pO a6 l5.length c7,pI 0]) rfl rfl rfl rfl rfl (by (repeat (first | exact aY | apply ba))) (by (repeat (first | exact aJ | apply aD | apply aI))) ?_)
      refine aa 19 (by kernel_rfl) ?_
      refine ai rfl rfl rfl (ah (vs:=[pO a12 l11.length c13,pI 0]) rfl rfl rfl rfl rfl (by (repeat (first | exact aY | apply ba))) (by (repeat (first | exact aJ | apply aD | apply aI))) ?_)
      refine aw (by kernel_rfl) ?_
      exact aq (a6,c7,a12,c13,b15,b16) (by (repeat (first | exact bX | apply bq rfl))) (by (repeat (first | exact be | (apply bv;(focus (repeat (first | exact aF | apply aC))))))) trivial
     skip
     refine af rfl rfl rfl rfl (an (cs:=[pN,pI 0]) rfl rfl rfl rfl (fun b16=>aa 6 (by kernel_rfl) ?_))
     refine af rfl rfl rfl rfl (al (enc:=Za.enc) rfl rfl rfl rfl rfl (fun _=>rfl) rfl rfl rfl (by (repeat (first | exact aF | apply aC))) hl5 (fun a6 c7=>?_))
     refine au 7 (by kernel_rfl) rfl rfl rfl rfl (ak (cs:=[pO a6 l5.length c7,pI 0]) rfl rfl rfl rfl rfl rfl rfl (by (repeat (first | exact bQ | (apply bO rfl rfl rfl rfl;(focus (repeat (first | exact aJ | apply aD | apply aI)))))))) ?_
     refine aa 14 (by kernel_rfl) ?_
     refine af rfl rfl rfl rfl (al (enc:=Za.enc) rfl rfl rfl rfl rfl (fun _=>rfl) rfl rfl rfl (by (repeat (first | exact aF | apply aC))) hl11 (fun a12 c13=>?_))
     refine au 15 (by kernel_rfl) rfl rfl rfl rfl (ak (cs:=[pO a12 l11.length c13,pI 0]) rfl rfl rfl rfl rfl rfl rfl (by (repeat (first | exact bQ | (apply bO rfl rfl rfl rfl;(focus (repeat (first | exact aJ | apply aD | apply aI)))))))) ?_
     refine aa 18 (by kernel_rfl) ?_
     refine ai rfl rfl rfl (ah (vs:=[pO a6 l5.length c7,pI 0]) rfl rfl rfl rfl rfl (by (repeat (first | exact aY | apply ba))) (by (repeat (first | exact aJ | apply aD | apply aI))) ?_)
     refine aa 19 (by kernel_rfl) ?_
     refine ai rfl rfl rfl (ah (vs:=[pO a12 l11.length c13,pI 0]) rfl rfl rfl rfl rfl (by (repeat (first | exact aY | apply ba))) (by (repeat (first | exact aJ | apply aD | apply aI))) ?_)
     refine aw (by kernel_rfl) ?_
     exact aq (a6,c7,a12,c13,b15,b16) (by (repeat (first | exact bX | apply bq rfl))) (by (repeat (first | exact be | (apply bv;(focus (repeat (first | exact aF | apply aC))))))) trivial
    skip
    refine af rfl rfl rfl rfl (an (cs:=[pN,pI 0]) rfl rfl rfl rfl (fun b16=>?_))
    refine aP 6 8 (by kernel_rfl) ?_ ?_
    ·skip
     refine af rfl rfl rfl rfl (al (enc:=Za.enc) rfl rfl rfl rfl rfl (fun _=>rfl) rfl rfl rfl (by (repeat (first | exact aF | apply aC))) hl5 (fun a6 c7=>?_))
     refine au 7 (by kernel_rfl) rfl rfl rfl rfl (ak (cs:=[pO a6 l5.length c7,pI 0]) rfl rfl rfl rfl rfl rfl rfl (by (repeat (first | exact bQ | (apply bO rfl rfl rfl rfl;(focus (repeat (first | exact aJ | apply aD | apply aI)))))))) ?_
     refine aa 8 (by kernel_rfl) ?_
     refine af rfl rfl rfl rfl (aS rfl rfl rfl rfl rfl (by (repeat (first | exact dH | apply dA rfl))) rfl rfl rfl rfl (fun b9=>?_))
     refine aa 14 (by kernel_rfl) ?_
     refine af rfl rfl rfl rfl (al (enc:=Za.enc) rfl rfl rfl rfl rfl (fun _=>rfl) rfl rfl rfl (by (repeat (first | exact aF | apply aC))) hl11 (fun a12 c13=>?_))
     refine au 15 (by kernel_rfl) rfl rfl rfl rfl (ak (cs:=[pO a12 l11.length c13,pI 0]) rfl rfl rfl rfl rfl rfl rfl (by (repeat (first | exact bQ | (apply bO rfl rfl rfl rfl;(focus (repeat (first | exact aJ | apply aD | apply aI)))))))) ?_
     refine aa 18 (by kernel_rfl) ?_
     refine ai rfl rfl rfl (ah (vs:=[pO a6 l5.length c7,pI 0]) rfl rfl rfl rfl rfl (by (repeat (first | exact aY | apply ba))) (by (repeat (first | exact aJ | apply aD | apply aI))) ?_)
     refine aa 19 (by kernel_rfl) ?_
     refine ai rfl rfl rfl (ah (vs:=[pO a12 l11.length c13,pI 0]) rfl rfl rfl rfl rfl (by (repeat (first | exact aY | apply ba))) (by (repeat (first | exact aJ | apply aD | apply aI))) ?_)
     refine aw (by kernel_rfl) ?_
     exact aq (a6,c7,a12,c13,b15,b16) (by (repeat (first | exact bX | apply bq rfl))) (by (repeat (first | exact be | (apply bv;(focus (repeat (first | exact aF | apply aC))))))) trivial
    skip
    refine af rfl rfl rfl rfl (aS rfl rfl rfl rfl rfl (by (repeat (first | exact dH | apply dA rfl))) rfl rfl rfl rfl (fun b9=>?_))
    refine aa 6 (by kernel_rfl) ?_
    refine af rfl rfl rfl rfl (al (enc:=Za.enc) rfl rfl rfl rfl rfl (fun _=>rfl) rfl rfl rfl (by (repeat (first | exact aF | apply aC))) hl5 (fun a6 c7=>?_))
    refine au 7 (by kernel_rfl) rfl rfl rfl rfl (ak (cs:=[pO a6 l5.length c7,pI 0]) rfl rfl rfl rfl rfl rfl rfl (by (repeat (first | exact bQ | (apply bO rfl rfl rfl rfl;(focus (repeat (first | exact aJ | apply aD | apply aI)))))))) ?_
    refine aa 14 (by kernel_rfl) ?_
    refine af rfl rfl rfl rfl (al (enc:=Za.enc) rfl rfl rfl rfl rfl (fun _=>rfl) rfl rfl rfl (by (repeat (first | exact aF | apply aC))) hl11 (fun a12 c13=>?_))
    refine au 15 (by kernel_rfl) rfl rfl rfl rfl (ak (cs:=[pO a12 l11.length c13,pI 0]) rfl rfl rfl rfl rfl rfl rfl (by (repeat (first | exact bQ | (apply bO rfl rfl rfl rfl;(focus (repeat (first | exact aJ | apply aD | apply aI)))))))) ?_
    refine aa 18 (by kernel_rfl) ?_
    refine ai rfl rfl rfl (ah (vs:=[pO a6 l5.length c7,pI 0]) rfl rfl rfl rfl rfl (by (repeat (first | exact aY | apply ba))) (by (repeat (first | exact aJ | apply aD | apply aI))) ?_)
    refine aa 19 (by kernel_rfl) ?_
    refine ai rfl rfl rfl (ah (vs:=[pO a12 l11.length c13,pI 0]) rfl rfl rfl rfl rfl (by (repeat (first | exact aY | apply ba))) (by (repeat (first | exact aJ | apply aD | apply aI))) ?_)
    refine aw (by kernel_rfl) ?_
    exact aq (a6,c7,a12,c13,b15,b16) (by (repeat (first | exact bX | apply bq rfl))) (by (repeat (first | exact be | (apply bv;(focus (repeat (first | exact aF | apply aC))))))) trivial
   ·skip
    refine af rfl rfl rfl rfl (aS rfl rfl rfl rfl rfl (by (repeat (first | exact dH | apply dA rfl))) rfl rfl rfl rfl (fun b9=>?_))
    refine aP 0 17 (by kernel_rfl) ?_ ?_
    ·skip
     refine af rfl rfl rfl rfl (aS rfl rfl rfl rfl rfl (by (repeat (first | exact dH | apply dA rfl))) rfl rfl rfl rfl (fun b3=>?_))
     refine aP 6 17 (by kernel_rfl) ?_ ?_
     ·skip
      refine af rfl rfl rfl rfl (al (enc:=Za.enc) rfl rfl rfl rfl rfl (fun _=>rfl) rfl rfl rfl (by (repeat (first | exact aF | apply aC))) hl5 (fun a6 c7=>?_))
      refine au 7 (by kernel_rfl) rfl rfl rfl rfl (ak (cs:=[pO a6 l5.length c7,pI 0]) rfl rfl rfl rfl rfl rfl rfl (by (repeat (first | exact bQ | (apply bO rfl rfl rfl rfl;(focus (repeat (first | exact aJ | apply aD | apply aI)))))))) ?_
      refine aP 14 17 (by kernel_rfl) ?_ ?_
      ·skip
       refine af rfl rfl rfl rfl (al (enc:=Za.enc) rfl rfl rfl rfl rfl (fun _=>rfl) rfl rfl rfl (by (repeat (first | exact aF | apply aC))) hl11 (fun a12 c13=>?_))
       refine au 15 (by kernel_rfl) rfl rfl rfl rfl (ak (cs:=[pO a12 l11.length c13,pI 0]) rfl rfl rfl rfl rfl rfl rfl (by (repeat (first | exact bQ | (apply bO rfl rfl rfl rfl;(focus (repeat (first | exact aJ | apply aD | apply aI)))))))) ?_
       refine aa 17 (by kernel_rfl) (af rfl rfl rfl rfl (an (cs:=[pN,pI 0]) rfl rfl rfl rfl (fun b16=>aa 18 (by kernel_rfl) ?_)))
       refine ai rfl rfl rfl (ah (vs:=[pO a6 l5.length c7,pI 0]) rfl rfl rfl rfl rfl (by (repeat (first | exact aY | apply ba))) (by (repeat (first | exact aJ | apply aD | apply aI))) ?_)
       refine aa 19 (by kernel_rfl) ?_
       refine ai rfl rfl rfl (ah (vs:=[pO a12 l11.length c13,pI 0]) rfl rfl rfl rfl rfl (by (repeat (first | exact aY | apply ba))) (by (repeat (first | exact aJ | apply aD | apply aI))) ?_)
       refine aw (by kernel_rfl) ?_
       exact aq (a6,c7,a12,c13,b15,b16) (by (repeat (first | exact bX | apply bq rfl))) (by (repeat (first | exact be | (apply bv;(focus (repeat (first | exact aF | apply aC))))))) trivial
      skip
      refine af rfl rfl rfl rfl (an (cs:=[pN,pI 0]) rfl rfl rfl rfl (fun b16=>aa 14 (by kernel_rfl) ?_))
      refine af rfl rfl rfl rfl (al (enc:=Za.enc) rfl rfl rfl rfl rfl (fun _=>rfl) rfl rfl rfl (by (repeat (first | exact aF | apply aC))) hl11 (fun a12 c13=>?_))
      refine au 15 (by kernel_rfl) rfl rfl rfl rfl (ak (cs:=[pO a12 l11.length c13,pI 0]) rfl rfl rfl rfl rfl rfl rfl (by (repeat (first | exact bQ | (apply bO rfl rfl rfl rfl;(focus (repeat (first | exact aJ | apply aD | apply aI)))))))) ?_
      refine aa 18 (by kernel_rfl) ?_
      refine ai rfl rfl rfl (ah (vs:=[pO a6 l5.length c7,pI 0]) rfl rfl rfl rfl rfl (by (repeat (first | exact aY | apply ba))) (by (repeat (first | exact aJ | apply aD | apply aI))) ?_)
      refine aa 19 (by kernel_rfl) ?_
      refine ai rfl rfl rfl (ah (vs:=[pO a12 l11.length c13,pI 0]) rfl rfl rfl rfl rfl (by (repeat (first | exact aY | apply ba))) (by (repeat (first | exact aJ | apply aD | apply aI))) ?_)
      refine aw (by kernel_rfl) ?_
      exact aq (a6,c7,a12,c13,b15,b16) (by (repeat (first | exact bX | apply bq rfl))) (by (repeat (first | exact be | (apply bv;(focus (repeat (first | exact aF | apply aC))))))) trivial
     skip
     refine af rfl rfl rfl rfl (an (cs:=[pN,pI 0]) rfl rfl rfl rfl (fun b16=>aa 6 (by kernel_rfl) ?_))
     refine af rfl rfl rfl rfl (al (enc:=Za.enc) rfl rfl rfl rfl rfl (fun _=>rfl) rfl rfl rfl (by (repeat (first | exact aF | apply aC))) hl5 (fun a6 c7=>?_))
     refine au 7 (by kernel_rfl) rfl rfl rfl rfl (ak (cs:=[pO a6 l5.length c7,pI 0]) rfl rfl rfl rfl rfl rfl rfl (by (repeat (first | exact bQ | (apply bO rfl rfl rfl rfl;(focus (repeat (first | exact aJ | apply aD | apply aI)))))))) ?_
     refine aa 14 (by kernel_rfl) ?_
     refine af rfl rfl rfl rfl (al (enc:=Za.enc) rfl rfl rfl rfl rfl (fun _=>rfl) rfl rfl rfl (by (repeat (first | exact aF | apply aC))) hl11 (fun a12 c13=>?_))
     refine au 15 (by kernel_rfl) rfl rfl rfl rfl (ak (cs:=[pO a12 l11.length c13,pI 0]) rfl rfl rfl rfl rfl rfl rfl (by (repeat (first | exact bQ | (apply bO rfl rfl rfl rfl;(focus (repeat (first | exact aJ | apply aD | apply aI)))))))) ?_
     refine aa 18 (by kernel_rfl) ?_
     refine ai rfl rfl rfl (ah (vs:=[pO a6 l5.length c7,pI 0]) rfl rfl rfl rfl rfl (by (repeat (first | exact aY | apply ba))) (by (repeat (first | exact aJ | apply aD | apply aI))) ?_)
     refine aa 19 (by kernel_rfl) ?_
     refine ai rfl rfl rfl (ah (vs:=[pO a12 l11.length c13,pI 0]) rfl rfl rfl rfl rfl (by (repeat (first | exact aY | apply ba))) (by (repeat (first | exact aJ | apply aD | apply aI))) ?_)
     refine aw (by kernel_rfl) ?_
     exact aq (a6,c7,a12,c13,b15,b16) (by (repeat (first | exact bX | apply bq rfl))) (by (repeat (first | exact be | (apply bv;(focus (repeat (first | exact aF | apply aC))))))) trivial
    skip
    refine af rfl rfl rfl rfl (an (cs:=[pN,pI 0]) rfl rfl rfl rfl (fun b16=>aa 0 (by kernel_rfl) ?_))
    refine af rfl rfl rfl rfl (aS rfl rfl rfl rfl rfl (by (repeat (first | exact dH | apply dA rfl))) rfl rfl rfl rfl (fun b3=>?_))
    refine aa 6 (by kernel_rfl) ?_
    refine af rfl rfl rfl rfl (al (enc:=Za.enc) rfl rfl rfl rfl rfl (fun _=>rfl) rfl rfl rfl (by (repeat (first | exact aF | apply aC))) hl5 (fun a6 c7=>?_))
    refine au 7 (by kernel_rfl) rfl rfl rfl rfl (ak (cs:=[pO a6 l5.length c7,pI 0]) rfl rfl rfl rfl rfl rfl rfl (by (repeat (first | exact bQ | (apply bO rfl rfl rfl rfl;(focus (repeat (first | exact aJ | apply aD | apply aI)))))))) ?_
    refine aa 14 (by kernel_rfl) ?_
    refine af rfl rfl rfl rfl (al (enc:=Za.enc) rfl rfl rfl rfl rfl (fun _=>rfl) rfl rfl rfl (by (repeat (first | exact aF | apply aC))) hl11 (fun a12 c13=>?_))
    refine au 15 (by kernel_rfl) rfl rfl rfl rfl (ak (cs:=[pO a12 l11.length c13,pI 0]) rfl rfl rfl rfl rfl rfl rfl (by (repeat (first | exact bQ | (apply bO rfl rfl rfl rfl;(focus (repeat (first | exact aJ | apply aD | apply aI)))))))) ?_
    refine aa 18 (by kernel_rfl) ?_
    refine ai rfl rfl rfl (ah (vs:=[pO a6 l5.length c7,pI 0]) rfl rfl rfl rfl rfl (by (repeat (first | exact aY | apply ba))) (by (repeat (first | exact aJ | apply aD | apply aI))) ?_)
    refine aa 19 (by kernel_rfl) ?_
    refine ai rfl rfl rfl (ah (vs:=[pO a12 l11.length c13,pI 0]) rfl rfl rfl rfl rfl (by (repeat (first | exact aY | apply ba))) (by (repeat (first | exact aJ | apply aD | apply aI))) ?_)
    refine aw (by kernel_rfl) ?_
    exact aq (a6,c7,a12,c13,b15,b16) (by (repeat (first | exact bX | apply bq rfl))) (by (repeat (first | exact be | (apply bv;(focus (repeat (first | exact aF | apply aC))))))) trivial
   skip
   refine af rfl rfl rfl rfl (an (cs:=[pN,pI 0]) rfl rfl rfl rfl (fun b16=>?_))
   refine aP 0 8 (by kernel_rfl) ?_ ?_
   ·skip
    refine af rfl rfl rfl rfl (aS rfl rfl rfl rfl rfl (by (repeat (first | exact dH | apply dA rfl))) rfl rfl rfl rfl (fun b3=>?_))
    refine aP 6 8 (by kernel_rfl) ?_ ?_
    ·skip
     refine af rfl rfl rfl rfl (al (enc:=Za.enc) rfl rfl rfl rfl rfl (fun _=>rfl) rfl rfl rfl (by (repeat (first | exact aF | apply aC))) hl5 (fun a6 c7=>?_))
     refine au 7 (by kernel_rfl) rfl rfl rfl rfl (ak (cs:=[pO a6 l5.length c7,pI 0]) rfl rfl rfl rfl rfl rfl rfl (by (repeat (first | exact bQ | (apply bO rfl rfl rfl rfl;(focus (repeat (first | exact aJ | apply aD | apply aI)))))))) ?_
     refine aa 8 (by kernel_rfl) ?_
     refine af rfl rfl rfl rfl (aS rfl rfl rfl rfl rfl (by (repeat (first | exact dH | apply dA rfl))) rfl rfl rfl rfl (fun b9=>?_))
     refine aa 14 (by kernel_rfl) ?_
     refine af rfl rfl rfl rfl (al (enc:=Za.enc) rfl rfl rfl rfl rfl (fun _=>rfl) rfl rfl rfl (by (repeat (first | exact aF | apply aC))) hl11 (fun a12 c13=>?_))
     refine au 15 (by kernel_rfl) rfl rfl rfl rfl (ak (cs:=[pO a12 l11.length c13,pI 0]) rfl rfl rfl rfl rfl rfl rfl (by (repeat (first | exact bQ | (apply bO rfl rfl rfl rfl;(focus (repeat (first | exact aJ | apply aD | apply aI)))))))) ?_
     refine aa 18 (by kernel_rfl) ?_
     refine ai rfl rfl rfl (ah (vs:=[pO a6 l5.length c7,pI 0]) rfl rfl rfl rfl rfl (by (repeat (first | exact aY | apply ba))) (by (repeat (first | exact aJ | apply aD | apply aI))) ?_)
     refine aa 19 (by kernel_rfl) ?_
     refine ai rfl rfl rfl (ah (vs:=[pO a12 l11.length c13,pI 0]) rfl rfl rfl rfl rfl (by (repeat (first | exact aY | apply ba))) (by (repeat (first | exact aJ | apply aD | apply aI))) ?_)
     refine aw (by kernel_rfl) ?_
     exact aq (a6,c7,a12,c13,b15,b16) (by (repeat (first | exact bX | apply bq rfl))) (by (repeat (first | exact be | (apply bv;(focus (repeat (first | exact aF | apply aC))))))) trivial
    skip
    refine af rfl rfl rfl rfl (aS rfl rfl rfl rfl rfl (by (repeat (first | exact dH | apply dA rfl))) rfl rfl rfl rfl (fun b9=>?_))
    refine aa 6 (by kernel_rfl) ?_
    refine af rfl rfl rfl rfl (al (enc:=Za.enc) rfl rfl rfl rfl rfl (fun _=>rfl) rfl rfl rfl (by (repeat (first | exact aF | apply aC))) hl5 (fun a6 c7=>?_))
    refine au 7 (by kernel_rfl) rfl rfl rfl rfl (ak (cs:=[pO a6 l5.length c7,pI 0]) rfl rfl rfl rfl rfl rfl rfl (by (repeat (first | exact bQ | (apply bO rfl rfl rfl rfl;(focus (repeat (first | exact aJ | apply aD | apply aI)))))))) ?_
    refine aa 14 (by kernel_rfl) ?_
    refine af rfl rfl rfl rfl (al (enc:=Za.enc) rfl rfl rfl rfl rfl (fun _=>rfl) rfl rfl rfl (by (repeat (first | exact aF | apply aC))) hl11 (fun a12 c13=>?_))
    refine au 15 (by kernel_rfl) rfl rfl rfl rfl (ak (cs:=[pO a12 l11.length c13,pI 0]) rfl rfl rfl rfl rfl rfl rfl (by (repeat (first | exact bQ | (apply bO rfl rfl rfl rfl;(focus (repeat (first | exact aJ | apply aD | apply aI)))))))) ?_
    refine aa 18 (by kernel_rfl) ?_
    refine ai rfl rfl rfl (ah (vs:=[pO a6 l5.length c7,pI 0]) rfl rfl rfl rfl rfl (by (repeat (first | exact aY | apply ba))) (by (repeat (first | exact aJ | apply aD | apply aI))) ?_)
    refine aa 19 (by kernel_rfl) ?_
    refine ai rfl rfl rfl (ah (vs:=[pO a12 l11.length c13,pI 0]) rfl rfl rfl rfl rfl (by (repeat (first | exact aY | apply ba))) (by (repeat (first | exact aJ | apply aD | apply aI))) ?_)
    refine aw (by kernel_rfl) ?_
    exact aq (a6,c7,a12,c13,b15,b16) (by (repeat (first | exact bX | apply bq rfl))) (by (repeat (first | exact be | (apply bv;(focus (repeat (first | exact aF | apply aC))))))) trivial
   skip
   refine af rfl rfl rfl rfl (aS rfl rfl rfl rfl rfl (by (repeat (first | exact dH | apply dA rfl))) rfl rfl rfl rfl (fun b9=>?_))
   refine aa 0 (by kernel_rfl) ?_
   refine af rfl rfl rfl rfl (aS rfl rfl rfl rfl rfl (by (repeat (first | exact dH | apply dA rfl))) rfl rfl rfl rfl (fun b3=>?_))
   refine aa 6 (by kernel_rfl) ?_
   refine af rfl rfl rfl rfl (al (enc:=Za.enc) rfl rfl rfl rfl rfl (fun _=>rfl) rfl rfl rfl (by (repeat (first | exact aF | apply aC))) hl5 (fun a6 c7=>?_))
   refine au 7 (by kernel_rfl) rfl rfl rfl rfl (ak (cs:=[pO a6 l5.length c7,pI 0]) rfl rfl rfl rfl rfl rfl rfl (by (repeat (first | exact bQ | (apply bO rfl rfl rfl rfl;(focus (repeat (first | exact aJ | apply aD | apply aI)))))))) ?_
   refine aa 14 (by kernel_rfl) ?_
   refine af rfl rfl rfl rfl (al (enc:=Za.enc) rfl rfl rfl rfl rfl (fun _=>rfl) rfl rfl rfl (by (repeat (first | exact aF | apply aC))) hl11 (fun a12 c13=>?_))
   refine au 15 (by kernel_rfl) rfl rfl rfl rfl (ak (cs:=[pO a12 l11.length c13,pI 0]) rfl rfl rfl rfl rfl rfl rfl (by (repeat (first | exact bQ | (apply bO rfl rfl rfl rfl;(focus (repeat (first | exact aJ | apply aD | apply aI)))))))) ?_
   refine aa 18 (by kernel_rfl) ?_
   refine ai rfl rfl rfl (ah (vs:=[pO a6 l5.length c7,pI 0]) rfl rfl rfl rfl rfl (by (repeat (first | exact aY | apply ba))) (by (repeat (first | exact aJ | apply aD | apply aI))) ?_)
   refine aa 19 (by kernel_rfl) ?_
   refine ai rfl rfl rfl (ah (vs:=[pO a12 l11.length c13,pI 0]) rfl rfl rfl rfl rfl (by (repeat (first | exact aY | apply ba))) (by (repeat (first | exact aJ | apply aD | apply aI))) ?_)
   refine aw (by kernel_rfl) ?_
   exact aq (a6,c7,a12,c13,b15,b16) (by (repeat (first | exact bX | apply bq rfl))) (by (repeat (first | exact be | (apply bv;(focus (repeat (first | exact aF | apply aC))))))) trivial
  skip
  refine af rfl rfl rfl rfl (an (cs:=[pN,pI 0]) rfl rfl rfl rfl (fun b16=>?_))
  refine cD 0 8 16 (by kernel_rfl) ?_ ?_ ?_
  ·skip
   refine af rfl rfl rfl rfl (aS rfl rfl rfl rfl rfl (by (repeat (first | exact dH | apply dA rfl))) rfl rfl rfl rfl (fun b3=>?_))
   refine cD 6 8 16 (by kernel_rfl) ?_ ?_ ?_
   ·skip
    refine af rfl rfl rfl rfl (al (enc:=Za.enc) rfl rfl rfl rfl rfl (fun _=>rfl) rfl rfl rfl (by (repeat (first | exact aF | apply aC))) hl5 (fun a6 c7=>?_))
    refine au 7 (by kernel_rfl) rfl rfl rfl rfl (ak (cs:=[pO a6 l5.length c7,pI 0]) rfl rfl rfl rfl rfl rfl rfl (by (repeat (first | exact bQ | (apply bO rfl rfl rfl rfl;(focus (repeat (first | exact aJ | apply aD | apply aI)))))))) ?_
    refine aP 8 16 (by kernel_rfl) ?_ ?_
    ·skip
     refine af rfl rfl rfl rfl (aS rfl rfl rfl rfl rfl (by (repeat (first | exact dH | apply dA rfl))) rfl rfl rfl rfl (fun b9=>?_))
     refine aP 14 16 (by kernel_rfl) ?_ ?_
     ·skip
      refine af rfl rfl rfl rfl (al (enc:=Za.enc) rfl rfl rfl rfl rfl (fun _=>rfl) rfl rfl rfl (by (repeat (first | exact aF | apply aC))) hl11 (fun a12 c13=>?_))
      refine au 15 (by kernel_rfl) rfl rfl rfl rfl (ak (cs:=[pO a12 l11.length c13,pI 0]) rfl rfl rfl rfl rfl rfl rfl (by (repeat (first | exact bQ | (apply bO rfl rfl rfl rfl;(focus (repeat (first | exact aJ | apply aD | apply aI)))))))) ?_
      refine aa 16 (by kernel_rfl) (af rfl rfl rfl rfl (an (cs:=[pN,pI 0]) rfl rfl rfl rfl (fun b15=>aa 18 (by kernel_rfl) ?_)))
      refine ai rfl rfl rfl (ah (vs:=[pO a6 l5.length c7,pI 0]) rfl rfl rfl rfl rfl (by (repeat (first | exact aY | apply ba))) (by (repeat (first | exact aJ | apply aD | apply aI))) ?_)
      refine aa 19 (by kernel_rfl) ?_
      refine ai rfl rfl rfl (ah (vs:=[pO a12 l11.length c13,pI 0]) rfl rfl rfl rfl rfl (by (repeat (first | exact aY | apply ba))) (by (repeat (first | exact aJ | apply aD | apply aI))) ?_)
      refine aw (by kernel_rfl) ?_
      exact aq (a6,c7,a12,c13,b15,b16) (by (repeat (first | exact bX | apply bq rfl))) (by (repeat (first | exact be | (apply bv;(focus (repeat (first | exact aF | apply aC))))))) trivial
     skip
     refine af rfl rfl rfl rfl (an (cs:=[pN,pI 0]) rfl rfl rfl rfl (fun b15=>aa 14 (by kernel_rfl) ?_))
     refine af rfl rfl rfl rfl (al (enc:=Za.enc) rfl rfl rfl rfl rfl (fun _=>rfl) rfl rfl rfl (by (repeat (first | exact aF | apply aC))) hl11 (fun a12 c13=>?_))
     refine au 15 (by kernel_rfl) rfl rfl rfl rfl (ak (cs:=[pO a12 l11.length c13,pI 0]) rfl rfl rfl rfl rfl rfl rfl (by (repeat (first | exact bQ | (apply bO rfl rfl rfl rfl;(focus (repeat (first | exact aJ | apply aD | apply aI)))))))) ?_
     refine aa 18 (by kernel_rfl) ?_
     refine ai rfl rfl rfl (ah (vs:=[pO a6 l5.length c7,pI 0]) rfl rfl rfl rfl rfl (by (repeat (first | exact aY | apply ba))) (by (repeat (first | exact aJ | apply aD | apply aI))) ?_)
     refine aa 19 (by kernel_rfl) ?_
     refine ai rfl rfl rfl (ah (vs:=[pO a12 l11.length c13,pI 0]) rfl rfl rfl rfl rfl (by (repeat (first | exact aY | apply ba))) (by (repeat (first | exact aJ | apply aD | apply aI))) ?_)
     refine aw (by kernel_rfl) ?_
     exact aq (a6,c7,a12,c13,b15,b16) (by (repeat (first | exact bX | apply bq rfl))) (by (repeat (first | exact be | (apply bv;(focus (repeat (first | exact aF | apply aC))))))) trivial
    skip
    refine af rfl rfl rfl rfl (an (cs:=[pN,pI 0]) rfl rfl rfl rfl (fun b15=>aa 8 (by kernel_rfl) ?_))
    refine af rfl rfl rfl rfl (aS rfl rfl rfl rfl rfl (by (repeat (first | exact dH | apply dA rfl))) rfl rfl rfl rfl (fun b9=>?_))
    refine aa 14 (by kernel_rfl) ?_
    refine af rfl rfl rfl rfl (al (enc:=Za.enc) rfl rfl rfl rfl rfl (fun _=>rfl) rfl rfl rfl (by (repeat (first | exact aF | apply aC))) hl11 (fun a12 c13=>?_))
    refine au 15 (by kernel_rfl) rfl rfl rfl rfl (ak (cs:=[pO a12 l11.length c13,pI 0]) rfl rfl rfl rfl rfl rfl rfl (by (repeat (first | exact bQ | (apply bO rfl rfl rfl rfl;(focus (repeat (first | exact aJ | apply aD | apply aI)))))))) ?_
    refine aa 18 (by kernel_rfl) ?_
    refine ai rfl rfl rfl (ah (vs:=[pO a6 l5.length c7,pI 0]) rfl rfl rfl rfl rfl (by (repeat (first | exact aY | apply ba))) (by (repeat (first | exact aJ | apply aD | apply aI))) ?_)
    refine aa 19 (by kernel_rfl) ?_
    refine ai rfl rfl rfl (ah (vs:=[pO a12 l11.length c13,pI 0]) rfl rfl rfl rfl rfl (by (repeat (first | exact aY | apply ba))) (by (repeat (first | exact aJ | apply aD | apply aI))) ?_)
    refine aw (by kernel_rfl) ?_
    exact aq (a6,c7,a12,c13,b15,b16) (by (repeat (first | exact bX | apply bq rfl))) (by (repeat (first | exact be | (apply bv;(focus (repeat (first | exact aF | apply aC))))))) trivial
   ·skip
    refine af rfl rfl rfl rfl (aS rfl rfl rfl rfl rfl (by (repeat (first | exact dH | apply dA rfl))) rfl rfl rfl rfl (fun b9=>?_))
    refine aP 6 16 (by kernel_rfl) ?_ ?_
    ·skip
     refine af rfl rfl rfl rfl (al (enc:=Za.enc) rfl rfl rfl rfl rfl (fun _=>rfl) rfl rfl rfl (by (repeat (first | exact aF | apply aC))) hl5 (fun a6 c7=>?_))
     refine au 7 (by kernel_rfl) rfl rfl rfl rfl (ak (cs:=[pO a6 l5.length c7,pI 0]) rfl rfl rfl rfl rfl rfl rfl (by (repeat (first | exact bQ | (apply bO rfl rfl rfl rfl;(focus (repeat (first | exact aJ | apply aD | apply aI)))))))) ?_
     refine aP 14 16 (by kernel_rfl) ?_ ?_
     ·skip
      refine af rfl rfl rfl rfl (al (enc:=Za.enc) rfl rfl rfl rfl rfl (fun _=>rfl) rfl rfl rfl (by (repeat (first | exact aF | apply aC))) hl11 (fun a12 c13=>?_))
      refine au 15 (by kernel_rfl) rfl rfl rfl rfl (ak (cs:=[pO a12 l11.length c13,pI 0]) rfl rfl rfl rfl rfl rfl rfl (by (repeat (first | exact bQ | (apply bO rfl rfl rfl rfl;(focus (repeat (first | exact aJ | apply aD | apply aI)))))))) ?_
      refine aa 16 (by kernel_rfl) (af rfl rfl rfl rfl (an (cs:=[pN,pI 0]) rfl rfl rfl rfl (fun b15=>aa 18 (by kernel_rfl) ?_)))
      refine ai rfl rfl rfl (ah (vs:=[pO a6 l5.length c7,pI 0]) rfl rfl rfl rfl rfl (by (repeat (first | exact aY | apply ba))) (by (repeat (first | exact aJ | apply aD | apply aI))) ?_)
      refine aa 19 (by kernel_rfl) ?_
      refine ai rfl rfl rfl (ah (vs:=[pO a12 l11.length c13,pI 0]) rfl rfl rfl rfl rfl (by (repeat (first | exact aY | apply ba))) (by (repeat (first | exact aJ | apply aD | apply aI))) ?_)
      refine aw (by kernel_rfl) ?_
      exact aq (a6,c7,a12,c13,b15,b16) (by (repeat (first | exact bX | apply bq rfl))) (by (repeat (first | exact be | (apply bv;(focus (repeat (first | exact aF | apply aC))))))) trivial
     skip
     refine af rfl rfl rfl rfl (an (cs:=[pN,pI 0]) rfl rfl rfl rfl (fun b15=>aa 14 (by kernel_rfl) ?_))
     refine af rfl rfl rfl rfl (al (enc:=Za.enc) rfl rfl rfl rfl rfl (fun _=>rfl) rfl rfl rfl (by (repeat (first | exact aF | apply aC))) hl11 (fun a12 c13=>?_))
     refine au 15 (by kernel_rfl) rfl rfl rfl rfl (ak (cs:=[pO a12 l11.length c13,pI 0]) rfl rfl rfl rfl rfl rfl rfl (by (repeat (first | exact bQ | (apply bO rfl rfl rfl rfl;(focus (repeat (first | exact aJ | apply aD | apply aI)))))))) ?_
     refine aa 18 (by kernel_rfl) ?_
     refine ai rfl rfl rfl (ah (vs:=[pO a6 l5.length c7,pI 0]) rfl rfl rfl rfl rfl (by (repeat (first | exact aY | apply ba))) (by (repeat (first | exact aJ | apply aD | apply aI))) ?_)
     refine aa 19 (by kernel_rfl) ?_
     refine ai rfl rfl rfl (ah (vs:=[pO a12 l11.length c13,pI 0]) rfl rfl rfl rfl rfl (by (repeat (first | exact aY | apply ba))) (by (repeat (first | exact aJ | apply aD | apply aI))) ?_)
     refine aw (by kernel_rfl) ?_
     exact aq (a6,c7,a12,c13,b15,b16) (by (repeat (first | exact bX | apply bq rfl))) (by (repeat (first | exact be | (apply bv;(focus (repeat (first | exact aF | apply aC))))))) trivial
    skip
    refine af rfl rfl rfl rfl (an (cs:=[pN,pI 0]) rfl rfl rfl rfl (fun b15=>aa 6 (by kernel_rfl) ?_))
    refine af rfl rfl rfl rfl (al (enc:=Za.enc) rfl rfl rfl rfl rfl (fun _=>rfl) rfl rfl rfl (by (repeat (first | exact aF | apply aC))) hl5 (fun a6 c7=>?_))
    refine au 7 (by kernel_rfl) rfl rfl rfl rfl (ak (cs:=[pO a6 l5.length c7,pI 0]) rfl rfl rfl rfl rfl rfl rfl (by (repeat (first | exact bQ | (apply bO rfl rfl rfl rfl;(focus (repeat (first | exact aJ | apply aD | apply aI)))))))) ?_
    refine aa 14 (by kernel_rfl) ?_
    refine af rfl rfl rfl rfl (al (enc:=Za.enc) rfl rfl rfl rfl rfl (fun _=>rfl) rfl rfl rfl (by (repeat (first | exact aF | apply aC))) hl11 (fun a12 c13=>?_))
    refine au 15 (by kernel_rfl) rfl rfl rfl rfl (ak (cs:=[pO a12 l11.length c13,pI 0]) rfl rfl rfl rfl rfl rfl rfl (by (repeat (first | exact bQ | (apply bO rfl rfl rfl rfl;(focus (repeat (first | exact aJ | apply aD | apply aI)))))))) ?_
    refine aa 18 (by kernel_rfl) ?_
    refine ai rfl rfl rfl (ah (vs:=[pO a6 l5.length c7,pI 0]) rfl rfl rfl rfl rfl (by (repeat (first | exact aY | apply ba))) (by (repeat (first | exact aJ | apply aD | apply aI))) ?_)
    refine aa 19 (by kernel_rfl) ?_
    refine ai rfl rfl rfl (ah (vs:=[pO a12 l11.length c13,pI 0]) rfl rfl rfl rfl rfl (by (repeat (first | exact aY | apply ba))) (by (repeat (first | exact aJ | apply aD | apply aI))) ?_)
    refine aw (by kernel_rfl) ?_
    exact aq (a6,c7,a12,c13,b15,b16) (by (repeat (first | exact bX | apply bq rfl))) (by (repeat (first | exact be | (apply bv;(focus (repeat (first | exact aF | apply aC))))))) trivial
   skip
   refine af rfl rfl rfl rfl (an (cs:=[pN,pI 0]) rfl rfl rfl rfl (fun b15=>?_))
   refine aP 6 8 (by kernel_rfl) ?_ ?_
   ·skip
    refine af rfl rfl rfl rfl (al (enc:=Za.enc) rfl rfl rfl rfl rfl (fun _=>rfl) rfl rfl rfl (by (repeat (first | exact aF | apply aC))) hl5 (fun a6 c7=>?_))
    refine au 7 (by kernel_rfl) rfl rfl rfl rfl (ak (cs:=[pO a6 l5.length c7,pI 0]) rfl rfl rfl rfl rfl rfl rfl (by (repeat (first | exact bQ | (apply bO rfl rfl rfl rfl;(focus (repeat (first | exact aJ | apply aD | apply aI)))))))) ?_
    refine aa 8 (by kernel_rfl) ?_
    refine af rfl rfl rfl rfl (aS rfl rfl rfl rfl rfl (by (repeat (first | exact dH | apply dA rfl))) rfl rfl rfl rfl (fun b9=>?_))
    refine aa 14 (by kernel_rfl) ?_
    refine af rfl rfl rfl rfl (al (enc:=Za.enc) rfl rfl rfl rfl rfl (fun _=>rfl) rfl rfl rfl (by (repeat (first | exact aF | apply aC))) hl11 (fun a12 c13=>?_))
    refine au 15 (by kernel_rfl) rfl rfl rfl rfl (ak (cs:=[pO a12 l11.length c13,pI 0]) rfl rfl rfl rfl rfl rfl rfl (by (repeat (first | exact bQ | (apply bO rfl rfl rfl rfl;(focus (repeat (first | exact aJ | apply aD | apply aI)))))))) ?_
    refine aa 18 (by kernel_rfl) ?_
    refine ai rfl rfl rfl (ah (vs:=[pO a6 l5.length c7,pI 0]) rfl rfl rfl rfl rfl (by (repeat (first | exact aY | apply ba))) (by (repeat (first | exact aJ | apply aD | apply aI))) ?_)
    refine aa 19 (by kernel_rfl) ?_
    refine ai rfl rfl rfl (ah (vs:=[pO a12 l11.length c13,pI 0]) rfl rfl rfl rfl rfl (by (repeat (first | exact aY | apply ba))) (by (repeat (first | exact aJ | apply aD | apply aI))) ?_)
    refine aw (by kernel_rfl) ?_
    exact aq (a6,c7,a12,c13,b15,b16) (by (repeat (first | exact bX | apply bq rfl))) (by (repeat (first | exact be | (apply bv;(focus (repeat (first | exact aF | apply aC))))))) trivial
   skip
   refine af rfl rfl rfl rfl (aS rfl rfl rfl rfl rfl (by (repeat (first | exact dH | apply dA rfl))) rfl rfl rfl rfl (fun b9=>?_))
   refine aa 6 (by kernel_rfl) ?_
   refine af rfl rfl rfl rfl (al (enc:=Za.enc) rfl rfl rfl rfl rfl (fun _=>rfl) rfl rfl rfl (by (repeat (first | exact aF | apply aC))) hl5 (fun a6 c7=>?_))
   refine au 7 (by kernel_rfl) rfl rfl rfl rfl (ak (cs:=[pO a6 l5.length c7,pI 0]) rfl rfl rfl rfl rfl rfl rfl (by (repeat (first | exact bQ | (apply bO rfl rfl rfl rfl;(focus (repeat (first | exact aJ | apply aD | apply aI)))))))) ?_
   refine aa 14 (by kernel_rfl) ?_
   refine af rfl rfl rfl rfl (al (enc:=Za.enc) rfl rfl rfl rfl rfl (fun _=>rfl) rfl rfl rfl (by (repeat (first | exact aF | apply aC))) hl11 (fun a12 c13=>?_))
   refine au 15 (by kernel_rfl) rfl rfl rfl rfl (ak (cs:=[pO a12 l11.length c13,pI 0]) rfl rfl rfl rfl rfl rfl rfl (by (repeat (first | exact bQ | (apply bO rfl rfl rfl rfl;(focus (repeat (first | exact aJ | apply aD | apply aI)))))))) ?_
   refine aa 18 (by kernel_rfl) ?_
   refine ai rfl rfl rfl (ah (vs:=[pO a6 l5.length c7,pI 0]) rfl rfl rfl rfl rfl (by (repeat (first | exact aY | apply ba))) (by (repeat (first | exact aJ | apply aD | apply aI))) ?_)
   refine aa 19 (by kernel_rfl) ?_
   refine ai rfl rfl rfl (ah (vs:=[pO a12 l11.length c13,pI 0]) rfl rfl rfl rfl rfl (by (repeat (first | exact aY | apply ba))) (by (repeat (first | exact aJ | apply aD | apply aI))) ?_)
   refine aw (by kernel_rfl) ?_
   exact aq (a6,c7,a12,c13,b15,b16) (by (repeat (first | exact bX | apply bq rfl))) (by (repeat (first | exact be | (apply bv;(focus (repeat (first | exact aF | apply aC))))))) trivial
  ·skip
   refine af rfl rfl rfl rfl (aS rfl rfl rfl rfl rfl (by (repeat (first | exact dH | apply dA rfl))) rfl rfl rfl rfl (fun b9=>?_))
   refine aP 0 16 (by kernel_rfl) ?_ ?_
   ·skip
    refine af rfl rfl rfl rfl (aS rfl rfl rfl rfl rfl (by (repeat (first | exact dH | apply dA rfl))) rfl rfl rfl rfl (fun b3=>?_))
    refine aP 6 16 (by kernel_rfl) ?_ ?_
    ·skip
     refine af rfl rfl rfl rfl (al (enc:=Za.enc) rfl rfl rfl rfl rfl (fun _=>rfl) rfl rfl rfl (by (repeat (first | exact aF | apply aC))) hl5 (fun a6 c7=>?_))
     refine au 7 (by kernel_rfl) rfl rfl rfl rfl (ak (cs:=[pO a6 l5.length c7,pI 0]) rfl rfl rfl rfl rfl rfl rfl (by (repeat (first | exact bQ | (apply bO rfl rfl rfl rfl;(focus (repeat (first | exact aJ | apply aD | apply aI)))))))) ?_
     refine aP 14 16 (by kernel_rfl) ?_ ?_
     ·skip
      refine af rfl rfl rfl rfl (al (enc:=Za.enc) rfl rfl rfl rfl rfl (fun _=>rfl) rfl rfl rfl (by (repeat (first | exact aF | apply aC))) hl11 (fun a12 c13=>?_))
      refine au 15 (by kernel_rfl) rfl rfl rfl rfl (ak (cs:=[pO a12 l11.length c13,pI 0]) rfl rfl rfl rfl rfl rfl rfl (by (repeat (first | exact bQ | (apply bO rfl rfl rfl rfl;(focus (repeat (first | exact aJ | apply aD | apply aI)))))))) ?_
      refine aa 16 (by kernel_rfl) (af rfl rfl rfl rfl (an (cs:=[pN,pI 0]) rfl rfl rfl rfl (fun b15=>aa 18 (by kernel_rfl) ?_)))
      refine ai rfl rfl rfl (ah (vs:=[pO a6 l5.length c7,pI 0]) rfl rfl rfl rfl rfl (by (repeat (first | exact aY | apply ba))) (by (repeat (first | exact aJ | apply aD | apply aI))) ?_)
      refine aa 19 (by kernel_rfl) ?_
      refine ai rfl rfl rfl (ah (vs:=[pO a12 l11.length c13,pI 0]) rfl rfl rfl rfl rfl (by (repeat (first | exact aY | apply ba))) (by (repeat (first | exact aJ | apply aD | apply aI))) ?_)
      refine aw (by kernel_rfl) ?_
      exact aq (a6,c7,a12,c13,b15,b16) (by (repeat (first | exact bX | apply bq rfl))) (by (repeat (first | exact be | (apply bv;(focus (repeat (first | exact aF | apply aC))))))) trivial
     skip
     refine af rfl rfl rfl rfl (an (cs:=[pN,pI 0]) rfl rfl rfl rfl (fun b15=>aa 14 (by kernel_rfl) ?_))
     refine af rfl rfl rfl rfl (al (enc:=Za.enc) rfl rfl rfl rfl rfl (fun _=>rfl) rfl rfl rfl (by (repeat (first | exact aF | apply aC))) hl11 (fun a12 c13=>?_))
     refine au 15 (by kernel_rfl) rfl rfl rfl rfl (ak (cs:=[pO a12 l11.length c13,pI 0]) rfl rfl rfl rfl rfl rfl rfl (by (repeat (first | exact bQ | (apply bO rfl rfl rfl rfl;(focus (repeat (first | exact aJ | apply aD | apply aI)))))))) ?_
     refine aa 18 (by kernel_rfl) ?_
     refine ai rfl rfl rfl (ah (vs:=[pO a6 l5.length c7,pI 0]) rfl rfl rfl rfl rfl (by (repeat (first | exact aY | apply ba))) (by (repeat (first | exact aJ | apply aD | apply aI))) ?_)
     refine aa 19 (by kernel_rfl) ?_
     refine ai rfl rfl rfl (ah (vs:=[pO a12 l11.length c13,pI 0]) rfl rfl rfl rfl rfl (by (repeat (first | exact aY | apply ba))) (by (repeat (first | exact aJ | apply aD | apply aI))) ?_)
     refine aw (by kernel_rfl) ?_
     exact aq (a6,c7,a12,c13,b15,b16) (by (repeat (first | exact bX | apply bq rfl))) (by (repeat (first | exact be | (apply bv;(focus (repeat (first | exact aF | apply aC))))))) trivial
    skip
    refine af rfl rfl rfl rfl (an (cs:=[pN,pI 0]) rfl rfl rfl rfl (fun b15=>aa 6 (by kernel_rfl) ?_))
    refine af rfl rfl rfl rfl (al (enc:=Za.enc) rfl rfl rfl rfl rfl (fun _=>rfl) rfl rfl rfl (by (repeat (first | exact aF | apply aC))) hl5 (fun a6 c7=>?_))
    refine au 7 (by kernel_rfl) rfl rfl rfl rfl (ak (cs:=[pO a6 l5.length c7,pI 0]) rfl rfl rfl rfl rfl rfl rfl (by (repeat (first | exact bQ | (apply bO rfl rfl rfl rfl;(focus (repeat (first | exact aJ | apply aD | apply aI)))))))) ?_
    refine aa 14 (by kernel_rfl) ?_
    refine af rfl rfl rfl rfl (al (enc:=Za.enc) rfl rfl rfl rfl rfl (fun _=>rfl) rfl rfl rfl (by (repeat (first | exact aF | apply aC))) hl11 (fun a12 c13=>?_))
    refine au 15 (by kernel_rfl) rfl rfl rfl rfl (ak (cs:=[pO a12 l11.length c13,pI 0]) rfl rfl rfl rfl rfl rfl rfl (by (repeat (first | exact bQ | (apply bO rfl rfl rfl rfl;(focus (repeat (first | exact aJ | apply aD | apply aI)))))))) ?_
    refine aa 18 (by kernel_rfl) ?_
    refine ai rfl rfl rfl (ah (vs:=[pO a6 l5.length c7,pI 0]) rfl rfl rfl rfl rfl (by (repeat (first | exact aY | apply ba))) (by (repeat (first | exact aJ | apply aD | apply aI))) ?_)
    refine aa 19 (by kernel_rfl) ?_
    refine ai rfl rfl rfl (ah (vs:=[pO a12 l11.length c13,pI 0]) rfl rfl rfl rfl rfl (by (repeat (first | exact aY | apply ba))) (by (repeat (first | exact aJ | apply aD | apply aI))) ?_)
    refine aw (by kernel_rfl) ?_
    exact aq (a6,c7,a12,c13,b15,b16) (by (repeat (first | exact bX | apply bq rfl))) (by (repeat (first | exact be | (apply bv;(focus (repeat (first | exact aF | apply aC))))))) trivial
   skip
   refine af rfl rfl rfl rfl (an (cs:=[pN,pI 0]) rfl rfl rfl rfl (fun b15=>aa 0 (by kernel_rfl) ?_))
   refine af rfl rfl rfl rfl (aS rfl rfl rfl rfl rfl (by (repeat (first | exact dH | apply dA rfl))) rfl rfl rfl rfl (fun b3=>?_))
   refine aa 6 (by kernel_rfl) ?_
   refine af rfl rfl rfl rfl (al (enc:=Za.enc) rfl rfl rfl rfl rfl (fun _=>rfl) rfl rfl rfl (by (repeat (first | exact aF | apply aC))) hl5 (fun a6 c7=>?_))
   refine au 7 (by kernel_rfl) rfl rfl rfl rfl (ak (cs:=[pO a6 l5.length c7,pI 0]) rfl rfl rfl rfl rfl rfl rfl (by (repeat (first | exact bQ | (apply bO rfl rfl rfl rfl;(focus (repeat (first | exact aJ | apply aD | apply aI)))))))) ?_
   refine aa 14 (by kernel_rfl) ?_
   refine af rfl rfl rfl rfl (al (enc:=Za.enc) rfl rfl rfl rfl rfl (fun _=>rfl) rfl rfl rfl (by (repeat (first | exact aF | apply aC))) hl11 (fun a12 c13=>?_))
   refine au 15 (by kernel_rfl) rfl rfl rfl rfl (ak (cs:=[pO a12 l11.length c13,pI 0]) rfl rfl rfl rfl rfl rfl rfl (by (repeat (first | exact bQ | (apply bO rfl rfl rfl rfl;(focus (repeat (first | exact aJ | apply aD | apply aI)))))))) ?_
   refine aa 18 (by kernel_rfl) ?_
   refine ai rfl rfl rfl (ah (vs:=[pO a6 l5.length c7,pI 0]) rfl rfl rfl rfl rfl (by (repeat (first | exact aY | apply ba))) (by (repeat (first | exact aJ | apply aD | apply aI))) ?_)
   refine aa 19 (by kernel_rfl) ?_
   refine ai rfl rfl rfl (ah (vs:=[pO a12 l11.length c13,pI 0]) rfl rfl rfl rfl rfl (by (repeat (first | exact aY | apply ba))) (by (repeat (first | exact aJ | apply aD | apply aI))) ?_)
   refine aw (by kernel_rfl) ?_
   exact aq (a6,c7,a12,c13,b15,b16) (by (repeat (first | exact bX | apply bq rfl))) (by (repeat (first | exact be | (apply bv;(focus (repeat (first | exact aF | apply aC))))))) trivial
  skip
  refine af rfl rfl rfl rfl (an (cs:=[pN,pI 0]) rfl rfl rfl rfl (fun b15=>?_))
  refine aP 0 8 (by kernel_rfl) ?_ ?_
  ·skip
   refine af rfl rfl rfl rfl (aS rfl rfl rfl rfl rfl (by (repeat (first | exact dH | apply dA rfl))) rfl rfl rfl rfl (fun b3=>?_))
   refine aP 6 8 (by kernel_rfl) ?_ ?_
   ·skip
    refine af rfl rfl rfl rfl (al (enc:=Za.enc) rfl rfl rfl rfl rfl (fun _=>rfl) rfl rfl rfl (by (repeat (first | exact aF | apply aC))) hl5 (fun a6 c7=>?_))
    refine au 7 (by kernel_rfl) rfl rfl rfl rfl (ak (cs:=[pO a6 l5.length c7,pI 0]) rfl rfl rfl rfl rfl rfl rfl (by (repeat (first | exact bQ | (apply bO rfl rfl rfl rfl;(focus (repeat (first | exact aJ | apply aD | apply aI)))))))) ?_
    refine aa 8 (by kernel_rfl) ?_
    refine af rfl rfl rfl rfl (aS rfl rfl rfl rfl rfl (by (repeat (first | exact dH | apply dA rfl))) rfl rfl rfl rfl (fun b9=>?_))
    refine aa 14 (by kernel_rfl) ?_
    refine af rfl rfl rfl rfl (al (enc:=Za.enc) rfl rfl rfl rfl rfl (fun _=>rfl) rfl rfl rfl (by (repeat (first | exact aF | apply aC))) hl11 (fun a12 c13=>?_))
    refine au 15 (by kernel_rfl) rfl rfl rfl rfl (ak (cs:=[pO a12 l11.length c13,pI 0]) rfl rfl rfl rfl rfl rfl rfl (by (repeat (first | exact bQ | (apply bO rfl rfl rfl rfl;(focus (repeat (first | exact aJ | apply aD | apply aI)))))))) ?_
    refine aa 18 (by kernel_rfl) ?_
    refine ai rfl rfl rfl (ah (vs:=[pO a6 l5.length c7,pI 0]) rfl rfl rfl rfl rfl (by (repeat (first | exact aY | apply ba))) (by (repeat (first | exact aJ | apply aD | apply aI))) ?_)
    refine aa 19 (by kernel_rfl) ?_
    refine ai rfl rfl rfl (ah (vs:=[pO a12 l11.length c13,pI 0]) rfl rfl rfl rfl rfl (by (repeat (first | exact aY | apply ba))) (by (repeat (first | exact aJ | apply aD | apply aI))) ?_)
    refine aw (by kernel_rfl) ?_
    exact aq (a6,c7,a12,c13,b15,b16) (by (repeat (first | exact bX | apply bq rfl))) (by (repeat (first | exact be | (apply bv;(focus (repeat (first | exact aF | apply aC))))))) trivial
   skip
   refine af rfl rfl rfl rfl (aS rfl rfl rfl rfl rfl (by (repeat (first | exact dH | apply dA rfl))) rfl rfl rfl rfl (fun b9=>?_))
   refine aa 6 (by kernel_rfl) ?_
   refine af rfl rfl rfl rfl (al (enc:=Za.enc) rfl rfl rfl rfl rfl (fun _=>rfl) rfl rfl rfl (by (repeat (first | exact aF | apply aC))) hl5 (fun a6 c7=>?_))
   refine au 7 (by kernel_rfl) rfl rfl rfl rfl (ak (cs:=[pO a6 l5.length c7,pI 0]) rfl rfl rfl rfl rfl rfl rfl (by (repeat (first | exact bQ | (apply bO rfl rfl rfl rfl;(focus (repeat (first | exact aJ | apply aD | apply aI)))))))) ?_
   refine aa 14 (by kernel_rfl) ?_
   refine af rfl rfl rfl rfl (al (enc:=Za.enc) rfl rfl rfl rfl rfl (fun _=>rfl) rfl rfl rfl (by (repeat (first | exact aF | apply aC))) hl11 (fun a12 c13=>?_))
   refine au 15 (by kernel_rfl) rfl rfl rfl rfl (ak (cs:=[pO a12 l11.length c13,pI 0]) rfl rfl rfl rfl rfl rfl rfl (by (repeat (first | exact bQ | (apply bO rfl rfl rfl rfl;(focus (repeat (first | exact aJ | apply aD | apply aI)))))))) ?_
   refine aa 18 (by kernel_rfl) ?_
   refine ai rfl rfl rfl (ah (vs:=[pO a6 l5.length c7,pI 0]) rfl rfl rfl rfl rfl (by (repeat (first | exact aY | apply ba))) (by (repeat (first | exact aJ | apply aD | apply aI))) ?_)
   refine aa 19 (by kernel_rfl) ?_
   refine ai rfl rfl rfl (ah (vs:=[pO a12 l11.length c13,pI 0]) rfl rfl rfl rfl rfl (by (repeat (first | exact aY | apply ba))) (by (repeat (first | exact aJ | apply aD | apply aI))) ?_)
   refine aw (by kernel_rfl) ?_
   exact aq (a6,c7,a12,c13,b15,b16) (by (repeat (first | exact bX | apply bq rfl))) (by (repeat (first | exact be | (apply bv;(focus (repeat (first | exact aF | apply aC))))))) trivial
  skip
  refine af rfl rfl rfl rfl (aS rfl rfl rfl rfl rfl (by (repeat (first | exact dH | apply dA rfl))) rfl rfl rfl rfl (fun b9=>?_))
  refine aa 0 (by kernel_rfl) ?_
  refine af rfl rfl rfl rfl (aS rfl rfl rfl rfl rfl (by (repeat (first | exact dH | apply dA rfl))) rfl rfl rfl rfl (fun b3=>?_))
  refine aa 6 (by kernel_rfl) ?_
  refine af rfl rfl rfl rfl (al (enc:=Za.enc) rfl rfl rfl rfl rfl (fun _=>rfl) rfl rfl rfl (by (repeat (first | exact aF | apply aC))) hl5 (fun a6 c7=>?_))
  refine au 7 (by kernel_rfl) rfl rfl rfl rfl (ak (cs:=[pO a6 l5.length c7,pI 0]) rfl rfl rfl rfl rfl rfl rfl (by (repeat (first | exact bQ | (apply bO rfl rfl rfl rfl;(focus (repeat (first | exact aJ | apply aD | apply aI)))))))) ?_
  refine aa 14 (by kernel_rfl) ?_
  refine af rfl rfl rfl rfl (al (enc:=Za.enc) rfl rfl rfl rfl rfl (fun _=>rfl) rfl rfl rfl (by (repeat (first | exact aF | apply aC))) hl11 (fun a12 c13=>?_))
  refine au 15 (by kernel_rfl) rfl rfl rfl rfl (ak (cs:=[pO a12 l11.length c13,pI 0]) rfl rfl rfl rfl rfl rfl rfl (by (repeat (first | exact bQ | (apply bO rfl rfl rfl rfl;(focus (repeat (first | exact aJ | apply aD | apply aI)))))))) ?_
  refine aa 18 (by kernel_rfl) ?_
  refine ai rfl rfl rfl (ah (vs:=[pO a6 l5.length c7,pI 0]) rfl rfl rfl rfl rfl (by (repeat (first | exact aY | apply ba))) (by (repeat (first | exact aJ | apply aD | apply aI))) ?_)
  refine aa 19 (by kernel_rfl) ?_
  refine ai rfl rfl rfl (ah (vs:=[pO a12 l11.length c13,pI 0]) rfl rfl rfl rfl rfl (by (repeat (first | exact aY | apply ba))) (by (repeat (first | exact aJ | apply aD | apply aI))) ?_)
  refine aw (by kernel_rfl) ?_
  exact aq (a6,c7,a12,c13,b15,b16) (by (repeat (first | exact bX | apply bq rfl))) (by (repeat (first | exact be | (apply bv;(focus (repeat (first | exact aF | apply aC))))))) trivial
 rintro ⟨a6,c7,a12,c13,b15,b16⟩ τ _;dsimp only [aT]
 refine ag (ag (ar [(7,pI 0)] (by kernel_rfl) ?_))
 (repeat (first | apply av | apply az))
 refine ae h fun q24 hq24 h=>?_
 refine aQ (Y:=Unit×((List Za))) (fun (_,l21)=>[(5,pP b15 0),(6,pP b16 0)]) (fun (_,l21)=>[PRes.b b15 25 [pO a6 l5.length c7,pI 0],PRes.b b16 25 [pO a12 l11.length c13,pI 0],PRes.row a6 l5.length c7 37 5 (List.map Za.enc l21),PRes.row a12 l11.length c13 37 5 (List.map Za.enc l11)]) (fun (_,l21)=>q24=l21) ?_ ?_
 ·refine aA ?_
  refine bf (Y:=Unit) (S:=Int×(List Za)) _ hq24 (fun _ (v17,l19)=>[(5,pP b15 0),(6,pP b16 0),(7,pI v17)]) (fun _ (v17,l19)=>[PRes.b b15 25 [pO a6 l5.length c7,pI 0],PRes.b b16 25 [pO a12 l11.length c13,pI 0],PRes.row a12 l11.length c13 37 5 (List.map Za.enc l11),PRes.row a6 l5.length c7 37 5 (List.map Za.enc l19)]) () (by (repeat (first | exact bX | apply bq rfl))) (by (repeat (first | exact be | (apply bv;(focus (repeat (first | exact aF | apply aC))))))) ?_
  rintro _ ⟨v17,l19⟩ o τ hb23;(try dsimp only at hb23);dsimp only [aT]
  refine ag (ag (bc [0] [25,26,27,28] [(29,pB (decide (v17<((l5.length:Nat):Int))))] (by kernel_rfl) ?_))
  (repeat (first | apply av | apply az))
  refine jg rfl hb23 (fun hc25 hb23=>?_) fun hc25 hb23=>?_
  ·refine ap ?_
   (repeat (first | apply av | apply az))
   refine ag (aA ?_)
   refine cW (enc:=Za.enc) (xs:=l19) (a:=a6) (by (repeat (first | exact List.Mem.head _ | apply List.Mem.tail))) (fun hl26 ha27=>?_)
   refine ae hb23 fun m28 hm28 hb23=>ae hb23 fun x29 hx29 hb23=>ae hb23 fun m30 hm30 hb23=>?_
   refine eV (ρd:=[PRes.row a6 _ _ _ _ _]) _ (by (repeat (first | exact List.Perm.refl _ | (refine bM (by (repeat (first | exact aF | apply aC))) ?_)))) ?_
   refine au 0 (by kernel_rfl) rfl rfl rfl rfl (a8 rfl rfl rfl rfl rfl (.p rfl)) ?_
   refine au 1 (by kernel_rfl) rfl rfl rfl rfl (cC (p:=pO a6 l5.length c7) rfl (.p rfl) (by (repeat (first | exact List.Mem.head _ | apply List.Mem.tail))) rfl) ?_
   refine au 2 (by kernel_rfl) rfl rfl rfl rfl (bm (p:=pI v17) rfl (.p rfl)) (au 3 (by kernel_rfl) rfl rfl rfl rfl (a8 rfl rfl rfl rfl rfl (.p rfl)) ?_)
   refine au 4 (by kernel_rfl) rfl rfl rfl rfl (cC (p:=pO a6 l5.length c7) rfl (.p rfl) (by (repeat (first | exact List.Mem.head _ | apply List.Mem.tail))) rfl) ?_
   refine au 5 (by kernel_rfl) rfl rfl rfl rfl (bm (p:=pI v17) rfl (.p rfl)) ?_
   refine au 6 (by kernel_rfl) rfl rfl rfl rfl (cT (xs:=l19) (by first | exact hl26 | rfl | (simp only [List.length_set];exact hl26) | simp only [List.length_set]) ha27 rfl rfl rfl (.p rfl) (.p rfl) (fun _=>hm28)) ?_
   refine au 7 (by kernel_rfl) rfl rfl rfl rfl (a8 rfl rfl rfl rfl rfl (.p rfl)) (aa 8 (by kernel_rfl) ?_)
   refine af rfl rfl rfl rfl (kN (bR (sz:=5) (p:=pI m28.Amount) (enc:=Za.enc) (xs:=l19) (a:=a6) v17 4 m28 rfl (.p rfl) rfl (by (repeat (first | exact List.Mem.head _ | apply List.Mem.tail))) (fun _=>hm28) rfl) ?_)
   refine aa 9 (by kernel_rfl) (lH rfl rfl rfl rfl rfl rfl (iA hx29) ?_)
   refine au 10 (by kernel_rfl) rfl rfl rfl rfl (cT (xs:=l19) (by first | exact hl26 | rfl | (simp only [List.length_set];exact hl26) | simp only [List.length_set]) ha27 rfl rfl rfl (.p rfl) (.p rfl) (fun _=>hm30)) ?_
   refine au 11 (by kernel_rfl) rfl rfl rfl rfl (a8 rfl rfl rfl rfl rfl (.p rfl)) (aa 12 (by kernel_rfl) ?_)
   refine ai rfl rfl rfl (db (enc:=Za.enc) (xs:=l19) (a:=a6) v17 4 m30 (⟨m30.Kind,m30.Measure,m30.Quantity,m30.Value,x29⟩:Za) rfl rfl rfl rfl (fun _=>rfl) rfl rfl hm30 (by (repeat (first | exact aJ | apply aD | apply aI))) (by (repeat (first | exact aY | apply ba))) ?_)
   refine aw (by kernel_rfl) (av ?_)
   (repeat (first | apply av | apply az))
   refine am [30,31] [(7,pI (IntKind.i64.wrap (v17+1)))] (by kernel_rfl) ?_
   (repeat apply av)
   exact bN hb23 () (by (repeat (first | exact bX | apply bq rfl))) (by (repeat (first | exact be | (apply bv;(focus (repeat (first | exact aF | apply aC)))))))
  refine bk ?_
  (repeat (first | apply aV | apply fg | apply fh | apply dN rfl))
  refine aM hb23 (fun ht=>aR rfl ?_)
  exact aq ((),l19) (by (repeat (first | exact bX | apply bq rfl))) (by (repeat (first | exact be | (apply bv;(focus (repeat (first | exact aF | apply aC))))))) ht.symm
 rintro ⟨_,l21⟩ τ hz;(try dsimp only at hz);subst q24;(try dsimp only at h);dsimp only [aT]
 refine ag (ag (ar [(8,pI 0)] (by kernel_rfl) ?_))
 (repeat (first | apply av | apply az))
 refine ae h fun q39 hq39 h=>?_
 refine aQ (Y:=Unit×((List Za))) (fun (_,l37)=>[(5,pP b15 0),(6,pP b16 0)]) (fun (_,l37)=>[PRes.b b15 25 [pO a6 l5.length c7,pI 0],PRes.b b16 25 [pO a12 l11.length c13,pI 0],PRes.row a6 l5.length c7 37 5 (List.map Za.enc l21),PRes.row a12 l11.length c13 37 5 (List.map Za.enc l37)]) (fun (_,l37)=>q39=l37) ?_ ?_
 ·refine aA ?_
  refine bf (Y:=Unit) (S:=Int×(List Za)) _ hq39 (fun _ (v32,l34)=>[(5,pP b15 0),(6,pP b16 0),(8,pI v32)]) (fun _ (v32,l34)=>[PRes.b b15 25 [pO a6 l5.length c7,pI 0],PRes.b b16 25 [pO a12 l11.length c13,pI 0],PRes.row a6 l5.length c7 37 5 (List.map Za.enc l21),PRes.row a12 l11.length c13 37 5 (List.map Za.enc l34)]) () (by (repeat (first | exact bX | apply bq rfl))) (by (repeat (first | exact be | (apply bv;(focus (repeat (first | exact aF | apply aC))))))) ?_
  rintro _ ⟨v32,l34⟩ o τ hb38;(try dsimp only at hb38);dsimp only [aT]
  refine ag (ag (bc [1] [44,45,46,47] [(48,pB (decide (v32<((l11.length:Nat):Int))))] (by kernel_rfl) ?_))
  (repeat (first | apply av | apply az))
  refine jg rfl hb38 (fun hc40 hb38=>?_) fun hc40 hb38=>?_
  ·refine ap ?_
   (repeat (first | apply av | apply az))
   refine ag (aA ?_)
   refine cW (enc:=Za.enc) (xs:=l34) (a:=a12) (by (repeat (first | exact List.Mem.head _ | apply List.Mem.tail))) (fun hl41 ha42=>?_)
   refine ae hb38 fun m43 hm43 hb38=>ae hb38 fun x44 hx44 hb38=>ae hb38 fun m45 hm45 hb38=>?_
   refine eV (ρd:=[PRes.row a12 _ _ _ _ _]) _ (by (repeat (first | exact List.Perm.refl _ | (refine bM (by (repeat (first | exact aF | apply aC))) ?_)))) ?_
   refine au 0 (by kernel_rfl) rfl rfl rfl rfl (a8 rfl rfl rfl rfl rfl (.p rfl)) ?_
   refine au 1 (by kernel_rfl) rfl rfl rfl rfl (cC (p:=pO a12 l11.length c13) rfl (.p rfl) (by (repeat (first | exact List.Mem.head _ | apply List.Mem.tail))) rfl) ?_
   refine au 2 (by kernel_rfl) rfl rfl rfl rfl (bm (p:=pI v32) rfl (.p rfl)) (au 3 (by kernel_rfl) rfl rfl rfl rfl (a8 rfl rfl rfl rfl rfl (.p rfl)) ?_)
   refine au 4 (by kernel_rfl) rfl rfl rfl rfl (cC (p:=pO a12 l11.length c13) rfl (.p rfl) (by (repeat (first | exact List.Mem.head _ | apply List.Mem.tail))) rfl) ?_
   refine au 5 (by kernel_rfl) rfl rfl rfl rfl (bm (p:=pI v32) rfl (.p rfl)) ?_
   refine au 6 (by kernel_rfl) rfl rfl rfl rfl (cT (xs:=l34) (by first | exact hl41 | rfl | (simp only [List.length_set];exact hl41) | simp only [List.length_set]) ha42 rfl rfl rfl (.p rfl) (.p rfl) (fun _=>hm43)) ?_
   refine au 7 (by kernel_rfl) rfl rfl rfl rfl (a8 rfl rfl rfl rfl rfl (.p rfl)) (aa 8 (by kernel_rfl) ?_)
   refine af rfl rfl rfl rfl (kN (bR (sz:=5) (p:=pI m43.Amount) (enc:=Za.enc) (xs:=l34) (a:=a12) v32 4 m43 rfl (.p rfl) rfl (by (repeat (first | exact List.Mem.head _ | apply List.Mem.tail))) (fun _=>hm43) rfl) ?_)
   refine aa 9 (by kernel_rfl) (lH rfl rfl rfl rfl rfl rfl (iA hx44) ?_)
   refine au 10 (by kernel_rfl) rfl rfl rfl rfl (cT (xs:=l34) (by first | exact hl41 | rfl | (simp only [List.length_set];exact hl41) | simp only [List.length_set]) ha42 rfl rfl rfl (.p rfl) (.p rfl) (fun _=>hm45)) ?_
   refine au 11 (by kernel_rfl) rfl rfl rfl rfl (a8 rfl rfl rfl rfl rfl (.p rfl)) (aa 12 (by kernel_rfl) ?_)
   refine ai rfl rfl rfl (db (enc:=Za.enc) (xs:=l34) (a:=a12) v32 4 m45 (⟨m45.Kind,m45.Measure,m45.Quantity,m45.Value,x44⟩:Za) rfl rfl rfl rfl (fun _=>rfl) rfl rfl hm45 (by (repeat (first | exact aJ | apply aD | apply aI))) (by (repeat (first | exact aY | apply ba))) ?_)
   refine aw (by kernel_rfl) (av ?_)
   (repeat (first | apply av | apply az))
   refine am [49,50] [(8,pI (IntKind.i64.wrap (v32+1)))] (by kernel_rfl) ?_
   (repeat apply av)
   exact bN hb38 () (by (repeat (first | exact bX | apply bq rfl))) (by (repeat (first | exact be | (apply bv;(focus (repeat (first | exact aF | apply aC)))))))
  refine bk ?_
  (repeat (first | apply aV | apply fg | apply fh | apply dN rfl))
  refine aM hb38 (fun ht=>aR rfl ?_)
  exact aq ((),l34) (by (repeat (first | exact bX | apply bq rfl))) (by (repeat (first | exact be | (apply bv;(focus (repeat (first | exact aF | apply aC))))))) ht.symm
 rintro ⟨_,l37⟩ τ hz;(try dsimp only at hz);subst q39;(try dsimp only at h);dsimp only [aT]
 refine ag ?_
 refine nw (css:=List.map Za.enc l21) (a:=a6) (by (repeat (first | exact aF | apply aC))) ?_
 refine mI (k:=0) (enc:=Za.enc) (xs:=l21) (b:=b15) (a:=a6) rfl (by (repeat (first | exact List.Mem.head _ | apply List.Mem.tail))) (by (repeat (first | exact aY | apply ba))) ?_
 refine nw (css:=List.map Za.enc l37) (a:=a12) (by (repeat (first | exact aF | apply aC))) ?_
 refine mI (k:=0) (enc:=Za.enc) (xs:=l37) (b:=b16) (a:=a12) rfl (by (repeat (first | exact List.Mem.head _ | apply List.Mem.tail))) (by (repeat (first | exact aY | apply ba))) ?_
 refine cF (ρd:=[]) [(0,0),(1,0),(3,0),(4,0),(2,1),(5,1),(6,1),(7,0),(8,1),(9,0),(10,0)] _ (List.Perm.refl _) (by kernel_rfl) rfl (ae h fun x47 hx47 h=>ae h fun x48 hx48 h=>ae h fun x49 hx49 h=>ae h fun x50 hx50 h=>cL 11 [2,3,2,3] [63,64,66,67,65,68,69,70,71,72] [(4,pB (x49&&x50))] (cu 4 (iD hx47) (cu 5 (iR hx48) (cu 6 (ji hx49) (i0 8 (fun hc=>l8 (dU hx50 hc)) bV)))) (by kernel_rfl) (dv ?_))
 (repeat (first | apply av | apply az))
 refine cV ?_
 (repeat (first | apply aU | apply aB | apply bz | apply ja))
 exact zz r h rfl
end SX
namespace SX
open Go
def kl (x:Za):Zc:=⟨x.Kind,x.Measure⟩
def nl (k:Zc) (v:Int):Za:=⟨k.kind,k.measure,0,0,v⟩
def up (x:Za) (v:Int):Za:=⟨x.Kind,x.Measure,x.Quantity,x.Value,IntKind.i64.wrap (x.Amount+v)⟩
def e8:List Za→Zc→Int→List Za
 | [],k,v=>[up (nl k 0) v]
 | x::l,k,v=>cond (bI (kl x) k) (x::e8 l k v) (cond (decide (kl x=k)) (up x v::l) (up (nl k 0) v::x::l))
def hd (l:List Za) (k:Zc):Nat:=(l.takeWhile fun y=>bI (kl y) k).length
theorem hd_le:∀ (l:List Za) (k:Zc),hd l k≤l.length
 | [],_=>Nat.zero_le _
 | x::l,k=>by
  unfold hd
  rw [List.takeWhile_cons]
  cases bI (kl x) k
  ·exact Nat.zero_le _
  exact Nat.succ_le_succ (hd_le l k)
theorem hd_lt:∀ {l:List Za} {k:Zc} {j:Nat} (hj:j<l.length),j<hd l k→bI (kl l[j]) k=true
 | x::l,k,j,hj,h=>by
  unfold hd at h
  rw [List.takeWhile_cons] at h
  cases hx:bI (kl x) k with
  | false=>rw [hx] at h;exact absurd h (Nat.not_lt_zero _)
  | true =>
   rw [hx] at h
   cases j with
   | zero=>exact hx
   | succ j=>exact hd_lt (l:=l) (by simpa using hj) (by simpa [hd] using h)
theorem hd_at:∀ {l:List Za} {k:Zc} (hj:hd l k<l.length),bI (kl (l[hd l k]'hj)) k=false
 | x::l,k,hj=>by
  cases hx:bI (kl x) k with
  | false =>
   have e:hd (x::l) k=0:=by unfold hd;rw [List.takeWhile_cons,hx];rfl
   simp only [e,List.getElem_cons_zero];exact hx
  | true =>
   have e:hd (x::l) k=hd l k+1:=by unfold hd;rw [List.takeWhile_cons,hx];rfl
   simp only [e,List.getElem_cons_succ]
   exact hd_at (l:=l) (by rw [e] at hj;simpa using hj)
theorem q9 (v:Int):∀ (l:List Za) (k:Zc),e8 l k v=l.take (hd l k)++(match l.drop (hd l k) with | []=>[up (nl k 0) v] | y::r=>cond (decide (kl y=k)) (up y v::r) (up (nl k 0) v::y::r))
 | [],k=>rfl
 | x::l,k=>by
  cases hx:bI (kl x) k with
  | false =>
   have e:hd (x::l) k=0:=by unfold hd;rw [List.takeWhile_cons,hx];rfl
   rw [e8,hx,e]
   rfl
  | true =>
   have e:hd (x::l) k=hd l k+1:=by unfold hd;rw [List.takeWhile_cons,hx];rfl
   rw [e8,hx,e,eA,q9 v l k]
   rfl
theorem tK (x y:Za):bI (kl x) (kl y)=(decide (x.Kind<y.Kind)||(decide (x.Kind=y.Kind)&&decide (x.Measure<y.Measure))):=rfl
theorem nW {l:List Za} (x:Za) (v:Int) {j:Nat} (hj:j≤l.length) (hl:l.length≤1000):(Option.bind (Option.bind (sub l 0 (j:Int)) (fun l19=>Option.bind (sub l (j:Int) (l.length:Int)) (fun l20=>Option.bind (app 40 ([]:List Za) l19) (fun l23=>Option.bind (app 40 l23 [(⟨x.Kind,x.Measure,0,0,0⟩:Za)]) (fun l29=>Option.bind (app 40 l29 l20) (fun l33=>some l33)))))) (fun l16=>Option.bind (idx l16 (j:Int)) (fun m39=>Option.bind (idx l16 (j:Int)) (fun m40=>some (l16.set (j:Int).toNat (⟨m40.Kind,m40.Measure,m40.Quantity,m40.Value,(IntKind.i64.wrap (m39.Amount+v))⟩:Za))))))=some (l.take j++up (nl (kl x) 0) v::l.drop j):=by
 have hm:min j l.length=j:=by omega
 have hlen:(l.take j).length=j:=by rw [List.length_take];exact hm
 have hs0:sub l 0 (j:Int)=some (l.take j):=by have:=qu (xs:=l) (Nat.zero_le j) hj;simpa using this
 rw [hs0,fH,qu hj (Nat.le_refl _),fH]
 simp only [List.take_length]
 rw [iy (by simp;omega) (by simp;omega),fH,iy (by simp;omega) (by simp;omega),fH,iy (by simp;omega) (by simp;omega),fH,fH,List.nil_append,List.append_assoc]
 have hi:idx (l.take j++([(⟨x.Kind,x.Measure,0,0,0⟩:Za)]++l.drop j)) (j:Int)=some ⟨x.Kind,x.Measure,0,0,0⟩:=by
  unfold idx
  rw [if_pos (by omega),Int.toNat_natCast,List.getElem?_append_right (by omega),hlen,Nat.sub_self];rfl
 rw [hi,fH,fH,Int.toNat_natCast,List.set_append_right (h:=by omega),hlen,Nat.sub_self]
 rfl
theorem add_old {l:List Za} (v:Int) {j:Nat} (hj:j<l.length):(Option.bind (idx l (j:Int)) (fun m39=>Option.bind (idx l (j:Int)) (fun m40=>some (l.set (j:Int).toNat (⟨m40.Kind,m40.Measure,m40.Quantity,m40.Value,(IntKind.i64.wrap (m39.Amount+v))⟩:Za)))))=some (l.take j++up l[j] v::l.drop (j+1)):=by
 rw [eH hj,fH,fH,Int.toNat_natCast,List.set_eq_take_append_cons_drop,if_pos hj];rfl
theorem ref_add {l:List Za} (x:Za) (s:Int) (hl:l.length≤1000):ey l x s=some (e8 l (kl x) (IntKind.i64.wrap (s*x.Amount))):=by
 have hle:=hd_le l (kl x)
 have key:Y (ey l x s) (fun r=>r=e8 l (kl x) (IntKind.i64.wrap (s*x.Amount))):=by
  unfold ey
  refine Y.bind (P:=fun t:Int=>t=((hd l (kl x):Nat):Int)) ?_ ?_
  ·refine Y.loop (fun t:Int=>∃ j:Nat,t=(j:Int)∧j≤hd l (kl x)) (fun t=>(hd l (kl x) - t).toNat) ⟨0,rfl,Nat.zero_le _⟩ (by omega) ?_
   rintro t ⟨j,rfl,hj⟩
   rcases Nat.lt_or_ge j l.length with h | h
   ·rw [det (by omega:(j:Int)<((l.length:Nat):Int)),mQ,eH h]
    simp only [fH,Bool.true_and]
    have hlt:(decide (l[j].Kind<x.Kind)||((l[j].Kind == x.Kind)&&decide (l[j].Measure<x.Measure)))=bI (kl l[j]) (kl x):=by
     rw [tK];rfl
    have hgo:∀ b:Bool,b=bI (kl l[j]) (kl x)→(b=true∧j<hd l (kl x))∨(b=false∧j=hd l (kl x)):=by
     intro b hb
     rcases Nat.lt_or_ge j (hd l (kl x)) with hj2 | hj2
     ·exact .inl ⟨by rw [hb,hd_lt h hj2],hj2⟩
     have e:j=hd l (kl x):=by omega
     refine .inr ⟨?_,e⟩
     subst e
     rw [hb,hd_at h]
    cases h1:decide (l[j].Kind<x.Kind) with
    | true =>
     simp only [Bool.not_true,mR,fH,Bool.false_and,Bool.true_or]
     rcases hgo true (by rw [← hlt,h1];rfl) with ⟨e,h5⟩ | ⟨e,h5⟩
     ·rw [e,eA,pb (by omega) (by omega)];exact Y.ret ⟨⟨j+1,by omega,h5⟩,by omega⟩
     ·rw [e,js];exact Y.ret (by omega)
    | false =>
     simp only [Bool.not_false,mQ,fH,Bool.true_and,Bool.false_or]
     cases h2:(l[j].Kind == x.Kind) with
     | true =>
      simp only [mQ,fH,Bool.true_and]
      rcases hgo (decide (l[j].Measure<x.Measure)) (by rw [← hlt,h1,h2];simp) with ⟨e,h5⟩ | ⟨e,h5⟩
      ·rw [e,eA,pb (by omega) (by omega)];exact Y.ret ⟨⟨j+1,by omega,h5⟩,by omega⟩
      ·rw [e,js];exact Y.ret (by omega)
     | false =>
      simp only [mR,fH,Bool.false_and]
      rcases hgo false (by rw [← hlt,h1,h2];rfl) with ⟨e,h5⟩ | ⟨e,h5⟩
      ·rw [e,eA,pb (by omega) (by omega)];exact Y.ret ⟨⟨j+1,by omega,h5⟩,by omega⟩
      rw [e,js];exact Y.ret (by omega)
   rw [rk (by omega:¬ (j:Int)<((l.length:Nat):Int)),mR]
   simp only [fH,mR,Bool.false_and,js]
   exact Y.ret (by omega)
  rintro t rfl
  rw [q9]
  generalize hj:hd l (kl x)=j at hle ⊢
  rcases Nat.lt_or_ge j l.length with h | h
  ·have hne:((j:Int) == ((l.length:Nat):Int))=false:=by simp;omega
   rw [List.drop_eq_getElem_cons h]
   dsimp only
   have hkl:decide (kl l[j]=kl x)=((l[j].Kind == x.Kind)&&(l[j].Measure == x.Measure)):=by
    rw [Bool.eq_iff_iff,decide_eq_true_eq,Bool.and_eq_true,beq_iff_eq,beq_iff_eq]
    unfold kl
    constructor
    ·intro e;cases e':l[j];rw [e'] at e;simp at e;exact e
    intro e;rw [e.1,e.2]
   rw [hne,Bool.not_false,mQ,eH h,fH,Bool.false_or,hkl,show (l[j].Kind != x.Kind) = !(l[j].Kind == x.Kind) from rfl]
   cases h1:(l[j].Kind == x.Kind) with
   | false =>
    simp only [Bool.not_false,Bool.not_true,mR,fH,Bool.true_or,eA,Bool.false_and,js]
    rw [nW x _ hle hl,List.drop_eq_getElem_cons h]
    exact Y.ret rfl
   | true =>
    simp only [Bool.not_true,Bool.not_false,mQ,fH,Bool.false_or,Bool.true_and]
    rw [show (l[j].Measure != x.Measure) = !(l[j].Measure == x.Measure) from rfl]
    cases h2:(l[j].Measure == x.Measure) with
    | false =>
     simp only [Bool.not_false,eA,js]
     rw [nW x _ hle hl,List.drop_eq_getElem_cons h]
     exact Y.ret rfl
    | true =>
     simp only [Bool.not_true,js,eA,fH]
     rw [add_old _ h]
     exact Y.ret rfl
  have:j=l.length:=by omega
  subst this
  have hne:(((l.length:Nat):Int) == ((l.length:Nat):Int))=true:=by simp
  simp only [hne,Bool.not_true,mR,fH,Bool.true_or,eA]
  rw [nW x _ (Nat.le_refl _) hl,List.drop_length]
  exact Y.ret rfl
 obtain ⟨r,e,rfl⟩:=key
 exact e
theorem kl_up (x:Za) (v:Int):kl (up x v)=kl x:=rfl
theorem ga (v:Int):∀ {l:List Za} {k:Zc} {z:Za},l.Pairwise (fun a b=>bI (kl a) (kl b)=true)→(z∈e8 l k v↔(z∈l∧kl z≠k)∨(∃ x∈l,kl x=k∧z=up x v)∨((∀ x∈l,kl x≠k)∧z=up (nl k 0) v))
 | [],k,z,_=>by simp [e8]
 | x::l,k,z,h=>by
  obtain ⟨h1,h2⟩:=List.pairwise_cons.1 h
  have ih:=ga v (l:=l) (k:=k) (z:=z) h2
  rw [e8]
  cases hx:bI (kl x) k with
  | true =>
   have hne:kl x≠k:=fun e=>by rw [e,gO] at hx;cases hx
   rw [eA,List.mem_cons,ih]
   constructor
   ·rintro (rfl | ⟨a,b⟩ | ⟨y,a,b,c⟩ | ⟨a,b⟩)
    ·exact .inl ⟨by simp,hne⟩
    ·exact .inl ⟨by simp [a],b⟩
    ·exact .inr (.inl ⟨y,by simp [a],b,c⟩)
    exact .inr (.inr ⟨fun y hy=>by rcases List.mem_cons.1 hy with rfl | hy;exact hne;exact a y hy,b⟩)
   ·rintro (⟨a,b⟩ | ⟨y,a,b,c⟩ | ⟨a,b⟩)
    ·rcases List.mem_cons.1 a with rfl | a
     ·exact .inl rfl
     exact .inr (.inl ⟨a,b⟩)
    ·rcases List.mem_cons.1 a with rfl | a
     ·exact absurd b hne
     exact .inr (.inr (.inl ⟨y,a,b,c⟩))
    ·exact .inr (.inr (.inr ⟨fun y hy=>a y (by simp [hy]),b⟩))
  | false =>
   have hge:∀ y∈l,kl y≠k:=fun y hy e=>by have:=h1 y hy;rw [e,hx] at this;cases this
   rw [js]
   by_cases e:kl x=k
   ·rw [det e,eA,List.mem_cons]
    constructor
    ·rintro (rfl | a)
     ·exact .inr (.inl ⟨x,by simp,e,rfl⟩)
     exact .inl ⟨by simp [a],hge z a⟩
    rintro (⟨a,b⟩ | ⟨y,a,b,c⟩ | ⟨a,b⟩)
    ·rcases List.mem_cons.1 a with rfl | a
     ·exact absurd e b
     exact .inr a
    ·rcases List.mem_cons.1 a with rfl | a
     ·exact .inl c
     exact absurd b (hge y a)
    exact absurd e (a x (by simp))
   rw [rk e,js,List.mem_cons]
   have hall:∀ y∈x::l,kl y≠k:=fun y hy=>by rcases List.mem_cons.1 hy with rfl | hy;exact e;exact hge y hy
   constructor
   ·rintro (rfl | a)
    ·exact .inr (.inr ⟨hall,rfl⟩)
    exact .inl ⟨a,hall z a⟩
   rintro (⟨a,b⟩ | ⟨y,a,b,c⟩ | ⟨a,b⟩)
   ·exact .inr a
   ·exact absurd b (hall y a)
   exact .inl b
theorem mg (v:Int):∀ {l:List Za} {k:Zc} {z:Za},z∈e8 l k v→kl z=k∨∃ x∈l,kl z=kl x
 | [],k,z,h=>by
  rw [e8,List.mem_singleton] at h;subst h;exact .inl rfl
 | x::l,k,z,h=>by
  rw [e8] at h
  cases hx:bI (kl x) k with
  | true =>
   rw [hx,eA] at h
   rcases List.mem_cons.1 h with rfl | h
   ·exact .inr ⟨z,by simp,rfl⟩
   ·rcases mg v h with e | ⟨y,hy,e⟩
    ·exact .inl e
    ·exact .inr ⟨y,by simp [hy],e⟩
  | false =>
   rw [hx,js] at h
   by_cases e:kl x=k
   ·rw [det e,eA] at h
    rcases List.mem_cons.1 h with rfl | h
    ·exact .inl e
    exact .inr ⟨z,by simp [h],rfl⟩
   rw [rk e,js] at h
   rcases List.mem_cons.1 h with rfl | h
   ·exact .inl rfl
   exact .inr ⟨z,h,rfl⟩
theorem pr (v:Int):∀ {l:List Za} {k:Zc},l.Pairwise (fun a b=>bI (kl a) (kl b)=true)→(e8 l k v).Pairwise (fun a b=>bI (kl a) (kl b)=true)
 | [],k,_=>by simp [e8]
 | x::l,k,h=>by
  obtain ⟨h1,h2⟩:=List.pairwise_cons.1 h
  rw [e8]
  cases hx:bI (kl x) k with
  | true =>
   rw [eA]
   refine List.pairwise_cons.2 ⟨fun z hz=>?_,pr v h2⟩
   rcases mg v hz with e | ⟨y,hy,e⟩
   ·rw [e];exact hx
   ·rw [e];exact h1 y hy
  | false =>
   rw [js]
   by_cases e:kl x=k
   ·rw [det e,eA]
    exact List.pairwise_cons.2 ⟨fun z hz=>h1 z hz,h2⟩
   rw [rk e,js]
   have hk:bI k (kl x)=true:=by
    cases h3:bI k (kl x) with
    | true=>rfl
    | false=>exact absurd (ku _ _ hx h3) e
   refine List.pairwise_cons.2 ⟨fun z hz=>?_,h⟩
   rcases List.mem_cons.1 hz with rfl | hz
   ·exact hk
   exact jW _ _ _ hk (h1 z hz)
theorem pu {K V:Type} [DecidableEq K]:∀ (xs:List (K×V)) (k k':K) (v:V),bP (jJ xs k v) k'=if k=k' then some v else bP xs k'
 | [],k,k',v=>by simp [jJ,bP]
 | (a,w)::r,k,k',v=>by
  unfold jJ
  by_cases h:a=k
  ·rw [if_pos h]
   subst h
   unfold bP
   by_cases h2:a=k'
   ·simp [h2]
   simp [h2]
  rw [if_neg h]
  unfold bP
  rw [pu r k k' v]
  by_cases h2:a=k'
  ·subst h2
   rw [if_pos rfl,if_pos rfl,if_neg (fun e=>h e.symm)]
  rw [if_neg h2,if_neg h2]
abbrev Tly:=List Zc×List (Zc×Int)
def tf (s:Tly) (k:Zc) (v:Int):Tly:=(cond (bP s.2 k).isSome s.1 (s.1++[k]),jJ s.2 k (IntKind.i64.wrap ((bP s.2 k).getD 0+v)))
theorem px {s:Tly} (k:Zc) (v:Int) (h:s.1.length≤1000):iC s.1 s.2 k v=some (tf s k v):=by
 unfold iC tf
 cases (bP s.2 k).isSome
 ·rw [Bool.not_false,eA,iy (by simp;omega) (by simp;omega),fH];rfl
 rfl
theorem tL (s:Tly) (k:Zc) (v:Int):(tf s k v).1.length≤s.1.length+1:=by
 unfold tf
 cases (bP s.2 k).isSome <;> simp
theorem py (v:Int):∀ (l:List Za) (k:Zc),(e8 l k v).length≤l.length+1
 | [],_=>by simp [e8]
 | x::l,k=>by
  rw [e8]
  have:=py v l k
  cases bI (kl x) k <;> cases decide (kl x=k) <;> simp <;> omega
structure ZB (s:Tly) (l:List Za):Prop where
 asc:l.Pairwise (fun a b=>bI (kl a) (kl b)=true)
 nd:s.1.Nodup
 mem:∀ k,k∈s.1↔∃ x∈l,kl x=k
 has:∀ k,k∈s.1↔(bP s.2 k).isSome=true
 val:∀ x∈l,x=nl (kl x) ((bP s.2 (kl x)).getD 0)
theorem ZB.nil:ZB ([],[]) []:=⟨List.Pairwise.nil,List.nodup_nil,fun k=>by simp,fun k=>by simp [bP],fun x h=>by cases h⟩
theorem tf_mem (s:Tly) (k:Zc) (v:Int) (hh:∀ k,k∈s.1↔(bP s.2 k).isSome=true) (k':Zc):k'∈(tf s k v).1↔k'=k∨k'∈s.1:=by
 unfold tf
 cases h:(bP s.2 k).isSome with
 | true =>
  rw [eA]
  constructor
  ·exact .inr
  ·rintro (rfl | h2)
   ·exact (hh _).2 h
   ·exact h2
 | false=>rw [js,List.mem_append,List.mem_singleton];exact or_comm
theorem ZB.step {s:Tly} {l:List Za} (h:ZB s l) (k:Zc) (v:Int):ZB (tf s k v) (e8 l k v):=by
 have hm:=tf_mem s k v h.has
 have hget:∀ k',bP (tf s k v).2 k'=if k=k' then some (IntKind.i64.wrap ((bP s.2 k).getD 0+v)) else bP s.2 k':=fun k'=>pu _ _ _ _
 refine ⟨pr v h.asc,?_,fun k'=>?_,fun k'=>?_,fun z hz=>?_⟩
 ·unfold tf
  cases h2:(bP s.2 k).isSome with
  | true=>exact h.nd
  | false =>
   rw [js]
   refine List.nodup_append.2 ⟨h.nd,by simp,fun a ha b hb e=>?_⟩
   rw [List.mem_singleton] at hb
   subst e hb
   rw [(h.has _).1 ha] at h2;cases h2
 ·rw [hm,h.mem]
  constructor
  ·intro hk
   by_cases hex:∃ x∈l,kl x=k
   ·obtain ⟨x,hx,e⟩:=hex
    rcases hk with rfl | ⟨y,hy,e2⟩
    ·exact ⟨up x v,(ga v h.asc).2 (.inr (.inl ⟨x,hx,e,rfl⟩)),e⟩
    by_cases e3:kl y=k
    ·exact ⟨up y v,(ga v h.asc).2 (.inr (.inl ⟨y,hy,e3,rfl⟩)),e2⟩
    exact ⟨y,(ga v h.asc).2 (.inl ⟨hy,e3⟩),e2⟩
   have hno:∀ x∈l,kl x≠k:=fun x hx e=>hex ⟨x,hx,e⟩
   rcases hk with rfl | ⟨y,hy,e2⟩
   ·exact ⟨up (nl k' 0) v,(ga v h.asc).2 (.inr (.inr ⟨hno,rfl⟩)),rfl⟩
   exact ⟨y,(ga v h.asc).2 (.inl ⟨hy,hno y hy⟩),e2⟩
  rintro ⟨z,hz,rfl⟩
  rcases mg v hz with e | ⟨x,hx,e⟩
  ·exact .inl e
  exact .inr ⟨x,hx,e.symm⟩
 ·rw [hm,hget]
  by_cases e:k=k'
  ·subst e;simp
  rw [if_neg e,← h.has]
  constructor
  ·rintro (rfl | h2)
   ·exact absurd rfl e
   exact h2
  exact .inr
 rw [hget]
 rcases (ga v h.asc).1 hz with ⟨a,b⟩ | ⟨x,a,b,rfl⟩ | ⟨a,rfl⟩
 ·rw [if_neg (fun e=>b e.symm)];exact h.val z a
 ·rw [if_pos (by rw [kl_up];exact b.symm)]
  have hx:=h.val x a
  have e1:x.Quantity=0:=by rw [hx];rfl
  have e2:x.Value=0:=by rw [hx];rfl
  have e3:x.Amount=(bP s.2 k).getD 0:=by rw [hx,b];rfl
  unfold up nl kl
  dsimp only
  rw [e1,e2,e3];rfl
 have hk:kl (up (nl k 0) v)=k:=rfl
 rw [hk,if_pos rfl]
 have hno:(bP s.2 k).isSome=false:=by
  cases h2:(bP s.2 k).isSome with
  | false=>rfl
  | true =>
   obtain ⟨x,hx,e⟩:=(h.mem k).1 ((h.has k).2 h2)
   exact absurd e (a x hx)
 have e0:bP s.2 k=none:=by cases h3:bP s.2 k with | none=>rfl | some w=>rw [h3] at hno;cases hno
 rw [e0];rfl
def k0 (W:World):Kr:=⟨W,fun b=>b<W.heap.size⟩
theorem dz {t:Nat} {z:Value} {s b:Nat} (h:c5 t=some (z,s,b)):Tryz.prog.cellsOf t=s∧Tryz.prog.bytesOf t=b:=by
 obtain ⟨i,h1,h2,h3,h4⟩:=jv h
 constructor
 ·simp [Program.cellsOf,h1,h3]
 simp [Program.bytesOf,h1,h4]
def Light {H:Type} (t:Nat) (d:DataW H):Prop:=∀ n∈d.weights Tryz.prog t,n≤reachBytes
theorem tM {H:Type} (d:DataW H):1≤Rows.uptoBulk d:=by
 cases d with
 | lit l=>cases l <;> simp [Rows.uptoBulk]
 | nil=>simp [Rows.uptoBulk]
 | ptr d=>simp [Rows.uptoBulk]
 | slice elems spare=>simp [Rows.uptoBulk]
 | agg parts=>simp [Rows.uptoBulk]
 | iface t d=>simp [Rows.uptoBulk]
 | map entries=>simp [Rows.uptoBulk]
 | held h=>simp [Rows.uptoBulk]
theorem r5 {H:Type} {d:DataW H} {l:List (DataW H)} (h:d∈l):Rows.uptoBulk d≤Rows.uptoBulkAll l:=by
 induction l with
 | nil=>cases h
 | cons x r ih =>
  simp only [Rows.uptoBulkAll]
  cases List.mem_cons.1 h with
  | inl e=>subst e;omega
  | inr e=>have:=ih e;omega
theorem tN {H:Type} (l:List (DataW H)):l.length≤Rows.uptoBulkAll l:=by
 induction l with
 | nil=>simp [Rows.uptoBulkAll]
 | cons x r ih=>have:=tM x;simp only [Rows.uptoBulkAll,List.length_cons];omega
def Opens {H:Type} (eh:TypeId×Value→H) {α:Type} (n:Nat) (t:Nat) (e:α→List PV) (B:α→Prop):Prop :=
 ∀ (W:World) (fuel:Nat) (cs:List Value) (x:DataW H×List MemPlace),DataW.trod eh Tryz.prog W 0 (fun _=>true) true fuel t cs=some x→Light t x.1→Rows.uptoBulk x.1≤n→∃ m,Rps (k0 W) (e m) cs∧One cs∧B m
section
variable {H:Type} {eh:TypeId×Value→H} {nb:Nat}
theorem one1 {v:Value} (h:v.oneCell'=true):One [v]:=fun u hu=>by rw [List.mem_singleton.1 hu];exact h
theorem r6 {t:Nat} {k:IntKind} (h:cE t=some (.int k)):Opens eh nb t (fun x:Int=>[.v (.int k x)]) (fun _=>True):=fun W fuel cs x hx _ _=>by
 obtain ⟨n,rfl,_,_⟩:=DataW.trod_int (bd h) hx
 exact ⟨n,.cons (.v rfl) .nil,one1 rfl,trivial⟩
theorem iE {e:Nat}:∀ {l:List (DataW H)} {d:DataW H} {n:Nat},d∈l→n∈d.weights Tryz.prog e→n∈DataW.weightsAll Tryz.prog e l
 | d'::l,d,n,hd,hn=>by
  simp only [DataW.weightsAll,List.mem_append]
  rcases List.mem_cons.1 hd with rfl | hd
  ·exact .inl hn
  exact .inr (iE hd hn)
theorem ra {α β:Type} {R:α→β→Prop}:∀ (l:List β),(∀ b∈l,∃ a,R a b)→∃ la:List α,la.length=l.length∧∀ (i:Nat) (b:β),l[i]?=some b→∃ a,la[i]?=some a∧R a b
 | [],_=>⟨[],rfl,fun i b h=>by simp at h⟩
 | b::l,h=>by
  obtain ⟨a,ha⟩:=h b (by simp)
  obtain ⟨la,h1,h2⟩:=ra l fun b hb=>h b (by simp [hb])
  refine ⟨a::la,by simp [h1],fun i b' hb=>?_⟩
  cases i with
  | zero=>simp only [List.getElem?_cons_zero,co] at hb;subst hb;exact ⟨a,rfl,ha⟩
  | succ i=>simp only [List.getElem?_cons_succ] at hb ⊢;exact h2 i b' hb
def OpensN {H:Type} (eh:TypeId×Value→H) {α:Type} (N n:Nat) (t:Nat) (e:α→List PV) (B:α→Prop):Prop :=
 ∀ (W:World) (fuel:Nat) (cs:List Value) (x:DataW H×List MemPlace),fuel<N→DataW.trod eh Tryz.prog W 0 (fun _=>true) true fuel t cs=some x→Light t x.1→Rows.uptoBulk x.1≤n→∃ m,Rps (k0 W) (e m) cs∧One cs∧B m
theorem nX {α:Type} {N t E sz by':Nat} {z:Value} {e:α→List PV} {B:α→Prop} (hu:cE t=some (.slice E)) (hi:c5 E=some (z,sz,by')) (h0:Nat.blt 0 sz=true) (hb0:Nat.blt 0 by'=true) (hE:OpensN eh N nb E e B):OpensN eh (N+1) nb t (eL e) (fun l=>l.length*by'≤140737488355328∧l.length≤nb∧∀ x∈l,B x):=fun W fuel cs x hfu hx hw hbk=>by
 obtain ⟨hcz,hby⟩:=dz hi
 have hsz:0<sz:=by have:=h0;simp [Nat.blt] at this;omega
 have hbp:0<by':=by have:=hb0;simp [Nat.blt] at this;omega
 rcases DataW.trod_slice (bd hu) hx with ⟨rfl,_⟩ | ⟨a,len,cap,elems,rest,n,rfl,rfl,rfl,_,hl,hm,hlen,hel,_,_⟩
 ·exact ⟨[],.cons (.slc (sz:=sz) (css:=[]) Sl.nil (Nat.zero_le _) (fun _ h=>by cases h) .nil) .nil,one1 rfl,by simp,Nat.zero_le _,fun _ h=>by cases h⟩
 rw [hcz] at hel
 have hwl:(elems.length+rest.length)*by'≤reachBytes:=by
  have:=hw ((elems.length+rest.length)*by') (by simp only [DataW.weights,bd hu,hby,List.length_map];exact List.mem_cons_self)
  exact this
 have hn:len≤140737488355328:=by
  unfold reachBytes at hwl
  have:elems.length*1≤(elems.length+rest.length)*by':=Nat.mul_le_mul (by omega) (by omega)
  omega
 have hcells:∀ i∈List.range len,∃ p:α×List Value,W.cells? 0 (a.add (i*sz)) sz=some p.2∧Rps (k0 W) (e p.1) p.2∧One p.2∧B p.1:=fun i hi'=>by
  have hi':i<len:=List.mem_range.1 hi'
  have h1:=hel i hi'
  have hlt:i<elems.length:=by omega
  rw [List.getElem?_eq_getElem hlt] at h1
  obtain ⟨cs,h2,h3⟩:=Option.bind_eq_some_iff.1 h1
  obtain ⟨m,k1,k2,k3⟩:=hE W n cs _ (by omega) h3 (fun q hq=>hw q (by
   simp only [DataW.weights,bd hu]
   exact List.mem_cons_of_mem _ (List.mem_append.2 (.inl (iE (List.mem_map.2 ⟨_,List.getElem_mem hlt,rfl⟩) hq))))) (by
   have h9:=r5 (l:=elems.map (·.1)) (List.mem_map.2 ⟨_,List.getElem_mem hlt,rfl⟩)
   simp only [Rows.uptoBulk] at hbk
   omega)
  exact ⟨(m,cs),h2,k1,k2,k3⟩
 obtain ⟨ps,g1,g2⟩:=ra (R:=fun (p:α×List Value) i=>W.cells? 0 (a.add (i*sz)) sz=some p.2∧Rps (k0 W) (e p.1) p.2∧One p.2∧B p.1) (List.range len) hcells
 rw [List.length_range] at g1
 have g3:∀ (i:Nat) (p:α×List Value),ps[i]?=some p→W.cells? 0 (a.add (i*sz)) sz=some p.2∧Rps (k0 W) (e p.1) p.2∧One p.2∧B p.1:=fun i p hp=>by
  have hlt:=(List.getElem?_eq_some_iff.1 hp).1
  obtain ⟨p',h1,h2⟩:=g2 i i (by rw [List.getElem?_range (by omega)])
  rw [hp] at h1;injection h1 with h1;subst h1;exact h2
 have hps:(ps.map (·.1)).length=len:=by simp [g1]
 refine ⟨ps.map (·.1),?_,one1 rfl,?_,?_,?_⟩
 rotate_left
 ·rw [hps]
  have h9:len*by'≤(elems.length+rest.length)*by':=Nat.mul_le_mul_right _ (by omega)
  unfold reachBytes at hwl
  omega
 ·rw [hps]
  have h9:=tN (elems.map (·.1))
  rw [List.length_map] at h9
  simp only [Rows.uptoBulk] at hbk
  omega
 ·intro x hx
  obtain ⟨p,hp,rfl⟩:=List.mem_map.1 hx
  obtain ⟨i,hi',rfl⟩:=List.getElem_of_mem hp
  exact (g3 i _ (List.getElem?_eq_getElem hi')).2.2.2
 unfold eL;rw [hps]
 refine .cons (.slc (sz:=sz) (css:=ps.map (·.2)) ⟨by simp [g1],hl,?_,?_⟩ hn ?_ ?_) .nil
 ·intro c hc
  obtain ⟨p,hp,rfl⟩:=List.mem_map.1 hc
  obtain ⟨i,hi',rfl⟩:=List.getElem_of_mem hp
  exact (World.cells?_some (g3 i _ (List.getElem?_eq_getElem hi')).1).2.1
 ·intro hpos
  have hp0:0<ps.length:=by omega
  have hc0:=(World.cells?_some (g3 0 _ (List.getElem?_eq_getElem hp0)).1)
  have hread:=hc0.2.2 0 hsz
  have hspot:a.spot=none:=by
   have hlt:0<(ps[0]).2.length:=by rw [hc0.2.1];exact hsz
   rw [List.getElem?_eq_getElem hlt] at hread
   unfold World.cell? at hread
   cases hs:a.spot with
   | none=>rfl
   | some q =>
    have hsp:((a.add (0*sz)).add 0).spot.isSome=true:=by simp [Addr.add,hs]
    split at hread
    ·rw [if_pos hsp] at hread;cases hread
    cases hread
  obtain ⟨ab,ao,asp⟩:=a
  simp only at hspot;subst hspot
  refine ⟨ab,ao,rfl,fun j c hj=>?_⟩
  rw [List.getElem?_map] at hj
  cases hpj:ps[j]? with
  | none=>rw [hpj] at hj;cases hj
  | some p =>
   rw [hpj] at hj;simp only [Option.map_some,co] at hj;subst hj
   have hcj:=World.cells?_some (g3 j p hpj).1
   refine ⟨?_,fun i u hu'=>?_⟩
   ·have h1:=hcj.2.2 0 hsz
    have hlt:0<p.2.length:=by rw [hcj.2.1];exact hsz
    rw [List.getElem?_eq_getElem hlt,dC,dC] at h1
    unfold World.cell? at h1
    split at h1
    ·rename_i heq
     have:=hI heq
     exact this
    cases h1
   have hlt:i<sz:=by have:=(List.getElem?_eq_some_iff.1 hu').1;omega
   have h1:=hcj.2.2 i hlt
   rw [dC,dC] at h1
   rw [← hu'];exact h1
 ·intro c hc
  obtain ⟨p,hp,rfl⟩:=List.mem_map.1 hc
  obtain ⟨i,hi',rfl⟩:=List.getElem_of_mem hp
  exact (g3 i _ (List.getElem?_eq_getElem hi')).2.2.1
 have:∀ (l:List (α×List Value)),(∀ p∈l,Rps (k0 W) (e p.1) p.2)→Rpss (k0 W) ((l.map (·.1)).map e) (l.map (·.2)):=fun l=>by
  induction l with
  | nil=>exact fun _=>.nil
  | cons p l ih=>exact fun h=>.cons (h p (by simp)) (ih fun q hq=>h q (by simp [hq]))
 refine this ps fun p hp=>?_
 obtain ⟨i,hi',rfl⟩:=List.getElem_of_mem hp
 exact (g3 i _ (List.getElem?_eq_getElem hi')).2.1
theorem pz {α:Type} {t E sz by':Nat} {z:Value} {e:α→List PV} {B:α→Prop} (hu:cE t=some (.slice E)) (hi:c5 E=some (z,sz,by')) (h0:Nat.blt 0 sz=true) (hb0:Nat.blt 0 by'=true) (hE:Opens eh nb E e B):Opens eh nb t (eL e) (fun l=>l.length*by'≤140737488355328∧l.length≤nb∧∀ x∈l,B x):=fun W fuel cs x hx hw =>
 nX (N:=fuel) hu hi h0 hb0 (fun W' f' cs' x' _=>hE W' f' cs' x') W fuel cs x (Nat.lt_succ_self _) hx hw
theorem iH {κ:Kr} {cs:List Value} {off sz:Nat} {ps qs:List PV} (h:Rps κ ps ((cs.drop off).take sz)) (h2:Rps κ qs (cs.drop (off+sz))):Rps κ (ps++qs) (cs.drop off):=by
 have e:cs.drop off=(cs.drop off).take sz++cs.drop (off+sz):=by rw [← List.drop_drop,List.take_append_drop]
 rw [e];exact h.app h2
theorem iI {cs:List Value} {off sz:Nat} (h:One ((cs.drop off).take sz)) (h2:One (cs.drop (off+sz))):One (cs.drop off):=by
 have e:cs.drop off=(cs.drop off).take sz++cs.drop (off+sz):=by rw [← List.drop_drop,List.take_append_drop]
 rw [e];exact fun u hu=>(List.mem_append.1 hu).elim (h u) (h2 u)
theorem rps_end {κ:Kr} {cs:List Value} {off:Nat} (h:cs.length=off):Rps κ [] (cs.drop off):=by rw [List.drop_of_length_le (by omega)];exact .nil
theorem one_end {cs:List Value} {off:Nat} (h:cs.length=off):One (cs.drop off):=by rw [List.drop_of_length_le (by omega)];exact fun _ h=>by cases h
end
end SX
end Go.Proofs.YthbphcbhedmnoaaGreatDoor
set_option maxRecDepth 100000
namespace Go.Proofs.YthbphcbhedmnoaaGreatDoor
open Go Go.ChangeShapes Go.WideShapes Go.RowKit
namespace SX
theorem own_ok:ownKnob Tryz.prog.godebug=none:=by kernel_rfl
theorem qz:laidOutB Tryz.prog=true:=by kernel_rfl
def mZ:List (String×DataW Unit):=[("unicode/utf8.acceptRanges",Rows.laid_unicode_utf8_acceptRanges),("customs/nomenclature.lengths",Rows.laid_customs_nomenclature_lengths),("unicode/utf8.first",Rows.laid_unicode_utf8_first)]
mutual
def qA:DataW Unit→List Value
 | .lit (.int k n)=>[.int k n]
 | .agg ds=>rb ds
 | _=>[]
def rb:List (DataW Unit)→List Value
 | []=>[]
 | d::r=>qA d++rb r
end
def c_acc:Array Value:=(qA Rows.laid_unicode_utf8_acceptRanges).toArray
def pA:Array Value:=#[.int .i64 2,.int .i64 4,.int .i64 6,.int .i64 8]
def rc:Array Value:=(qA Rows.laid_unicode_utf8_first).toArray
def tO (h:Array Obj) (g:Nat) (cs:Array Value):Array Obj:=h.modify g fun | .cells _ t frozen=>.cells cs t frozen | o=>o
noncomputable def laidWorld (os:Os):World :=
 { World.holding Tryz.prog os ⟨#[],#[],[]⟩ with heap:=tO (tO (tO (World.holding Tryz.prog os ⟨#[],#[],[]⟩).heap 4 c_acc) 0 pA) 3 rc }
theorem mh:(mZ.filter fun x=>x.2.handleName?.isSome)=[]:=by kernel_rfl
def tP (w:World):MemPlace→Bool
 | .cell b off=>match w.heap[b]? with
  | some (.cells c _ (0,0))=>match c[off]? with | some (.iface _ _)=>false | _=>true
  | _=>false
 | _=>true
theorem qB {w:World} {ps:List MemPlace} (h:ps.all (tP w)=true):∀ b off,MemPlace.cell b off∈ps→(∃ c t,w.heap[b]?=some (.cells c t (0,0)))∧∀ u v,w.cell? ⟨b,off,none⟩=some (.iface u v)→Value.okWide Tryz.prog w .any 0 u v:=fun b off hm=>by
 have:=List.all_eq_true.1 h _ hm
 unfold tP at this
 split at this
 ·rename_i b' off' e
  injection e with e1 e2;subst e1;subst e2
  split at this
  ·rename_i c t heq
   refine ⟨⟨c,t,heq⟩,fun u v hc=>?_⟩
   simp only [World.cell?,heq] at hc
   split at this
   ·cases this
   rename_i hno;exact absurd hc (by simpa using hno u v)
  cases this
 rename_i hno;exact absurd rfl (hno b off)
theorem mu (os:Os) (args:Array Value):laidMetH Tryz.prog mZ ((laidWorld os).forCall (fun _ _=>0) ⟨#[],args,[]⟩).memory:=by
 unfold laidMetH
 rw [mh]
 refine ⟨_,⟨4,321,c_acc,8,[],_,by kernel_rfl,by kernel_rfl,by kernel_rfl,by kernel_rfl,⟨0,235,pA,8,[],_,by kernel_rfl,by kernel_rfl,by kernel_rfl,by kernel_rfl,⟨3,318,rc,8,[],_,by kernel_rfl,by kernel_rfl,by kernel_rfl,by kernel_rfl,rfl,rfl⟩,rfl⟩,rfl⟩,?_,?_⟩
 ·exact of_decide_eq_true (by kernel_rfl)
 exact qB (by kernel_rfl)
theorem gp {H:Type} {eh:TypeId×Value→H} {P:Program} {w:World} {base:Nat} {sp:Nat→Bool} {held:Bool} {fuel:Nat} {t:TypeId} {k:IntKind} {c:Value} {y:DataW H×List MemPlace} (ht:P.underlying t=some (.int k)) (h:DataW.trod eh P w base sp held fuel t [c]=some y):∃ n,c=.int k n∧y=(.lit (.int k n),[]):=by
 obtain ⟨n,h1,h2,_⟩:=DataW.trod_int ht h
 injection h1 with h1 _
 exact ⟨n,h1,h2⟩
theorem pC {W:World} (h:laidMetH Tryz.prog mZ W):GOK (k0 W):=by
 unfold laidMetH at h
 rw [mh] at h
 obtain ⟨ps,⟨_,_,_,_,_,_,_,_,_,_,⟨g,t,cs,fuel,p,q,hg,ht,hvar,hd,_,_⟩,_⟩,_⟩:=h
 obtain rfl:=Option.some.inj ((show Tryz.prog.globalNamed "customs/nomenclature.lengths" = some 0 by kernel_rfl).symm.trans hg)
 obtain rfl:=Option.some.inj ((show (Tryz.prog.globals[0]?).map (·.type)=some 235 by kernel_rfl).symm.trans ht)
 have hcs:cs=pA:=by
  obtain ⟨l⟩:=cs
  cases fuel with
  | zero=>simp [DataW.trod] at hd
  | succ fuel =>
   have hc1:=(dz (t:=235) rfl).1
   have hc2:=(dz (t:=3) rfl).1
   have hu1:Tryz.prog.underlying 235=some (.array 4 3):=bd rfl
   simp only [DataW.trod,hu1,hc1,hc2] at hd
   split at hd
   ·rename_i hl
    obtain ⟨c0,c1,c2,c3,rfl⟩:∃ c0 c1 c2 c3,l=[c0,c1,c2,c3]:=by
     match l,hl with
     | [a,b,c,d],_=>exact ⟨a,b,c,d,rfl⟩
    have e:List.range 4=[0,1,2,3]:=rfl
    rw [e] at hd
    simp only [Option.map_eq_some_iff,List.mapM_cons,List.mapM_nil,Option.bind_eq_bind,Option.bind_eq_some_iff,Option.pure_def,co] at hd
    obtain ⟨xs,⟨y0,h0,_,⟨y1,h1,_,⟨y2,h2,_,⟨y3,h3,_,rfl,rfl⟩,rfl⟩,rfl⟩,rfl⟩,hx⟩:=hd
    have hui:Tryz.prog.underlying 3=some (.int .i64):=bd rfl
    obtain ⟨n0,rfl,rfl⟩:=gp hui h0
    obtain ⟨n1,rfl,rfl⟩:=gp hui h1
    obtain ⟨n2,rfl,rfl⟩:=gp hui h2
    obtain ⟨n3,rfl,rfl⟩:=gp hui h3
    simp [Rows.laid_customs_nomenclature_lengths] at hx
    obtain ⟨⟨rfl,rfl,rfl,rfl⟩,_⟩:=hx
    rfl
   cases hd
 subst hcs
 have hcell:∀ j u,pA[j]?=some u→W.cell? ⟨0,j,none⟩=some u:=fun j u hu=>by
  have:=World.var?_cell hg hvar j
  rw [this];exact hu
 refine ⟨?_,fun j u hu=>?_⟩
 ·have h0:=hcell 0 _ rfl
  unfold World.cell? at h0
  split at h0
  ·rename_i heq;exact hI heq
  cases h0
 rw [Nat.zero_add];exact hcell j u (by simpa [pA] using hu)
end SX
end Go.Proofs.YthbphcbhedmnoaaGreatDoor
set_option maxRecDepth 100000
namespace Go.Proofs.YthbphcbhedmnoaaGreatDoor
open Go Go.ChangeShapes Go.WideShapes Go.RowKit
namespace SX
theorem inv0 (W:World):Zg ⟨k0 W,[],none⟩ [] (k0 W):=⟨.refl _ _,fun _ h=>h,(fun _ h=>by cases h),(fun _ h=>by cases h),.nil⟩
theorem tQ {W:World} {ρ:List Res} {κ:Kr} (h:Zg ⟨k0 W,[],none⟩ ρ κ):Below W.heap.size W κ.w:=⟨h.le.os,h.le.tape,h.le.output,h.le.kle.size,fun k hk=>h.le.same k hk (by simp)⟩
section
variable {H:Type} {eh:TypeId×Value→H}
theorem mv {W W':World} (hb:Below W.heap.size W W') {ts:List TypeId} (hr:∀ t∈ts,Tryz.prog.readableRec t=true∧t<Tryz.prog.types.size):∀ {vs:List Value} {ds:List (DataW H)} {ps:List MemPlace},DataW.TrodAll eh Tryz.prog W 0 (fun _=>true) true ts vs ds ps→(∀ p∈ps,p.block<W.heap.size)→DataW.TrodAll eh Tryz.prog W' 0 (fun b=>decide (b<W.heap.size)) true ts vs ds ps:=by
 induction ts with
 | nil=>intro vs ds ps h _;cases vs <;> cases ds <;> first | exact h | cases h
 | cons t ts ih =>
  intro vs ds ps h hlt
  cases vs with
  | nil=>cases h
  | cons v vs =>
   cases ds with
   | nil=>cases h
   | cons d ds =>
    obtain ⟨p,q,h1,h2,e⟩:=h
    have ht:=hr t (by simp)
    exact ⟨p,q,Below.trod qz ht.1 ht.2 h1 hb (fun x hx=>hlt x (by rw [e];simp [hx])),ih (fun u hu=>hr u (by simp [hu])) h2 (fun x hx=>hlt x (by rw [e];simp [hx])),e⟩
theorem readB {ts:List TypeId} (h:(ts.all fun t=>Tryz.prog.readableRec t&&Nat.blt t Tryz.prog.types.size)=true):∀ t∈ts,Tryz.prog.readableRec t=true∧t<Tryz.prog.types.size:=fun t ht=>by
 have:=List.all_eq_true.1 h t ht
 rw [Bool.and_eq_true] at this
 exact ⟨this.1,by have h2:=this.2;exact Nat.le_of_ble_eq_true h2⟩
theorem tR {f tb:Nat} {fn:Func} {s:ChangeSpec} {W:World} {args:Array Value} {ds gs:List (DataW H)} {before:List MemPlace} {pargs:List PV}
    (hrd:∀ t∈fn.params.toList,Tryz.prog.readableRec t=true∧t<Tryz.prog.types.size) (hres:fn.resultTypes=#[tb]) (hub:Tryz.prog.underlying tb=some .bool) (hvars:s.vars=[])
    (hspec:s.fn H ds={ results:=[.lit (.bool true)],args:=ds }) (hW:DataW.Whole eh Tryz.prog fn.params.toList s.vars false W args.toList ds gs before) (hG:GOK (k0 W)) (hargs:Rps (k0 W) pargs args.toList) (hPF:PF f pargs (.v (.bool true))) :
    Calls Tryz.prog f args W fun e W'=>∃ v,e=.returned v∧s.post eh Tryz.prog fn false true false false W args v W':=by
  have hc:=(hPF (k0 W) args.toList hG hargs).2 (inv0 W)
  have e:args.toList.toArray=args:=by simp
  rw [e] at hc
  refine Calls.mono hc fun en W' ⟨v,ρ',κ',h1,h2,h3,h4,h5⟩=>⟨v,h1,?_⟩
  subst h2
  have hv:=h5.val
  subst hv
  have hb:=tQ h3
  have hW':=hW
  obtain ⟨p,q,hA,hV,rfl,hfz,hnd⟩:=hW
  rw [hvars] at hV
  obtain ⟨rfl,rfl⟩:gs=[]∧q=[]:=by
    cases gs with
    | nil=>exact ⟨rfl,hV⟩
    | cons g r=>exact absurd hV (by intro h;cases h)
  refine ⟨ds,[],_,[],p,[],hW',?_,?_,?_,hb.frame _,fun h=>by cases h⟩
  · rw [List.append_nil,hspec,hres];exact trodAll_mk1 (shut_bool hub true)
  · rw [List.append_nil,hspec];exact mv hb hrd hA (DataW.TrodAll.lt hA)
  rw [hvars,List.append_nil,hspec];rfl
theorem trodAll_cons {W:World} {t:TypeId} {ts:List TypeId} {vs:List Value} {ds:List (DataW H)} {ps:List MemPlace} (h:DataW.TrodAll eh Tryz.prog W 0 (fun _=>true) true (t::ts) vs ds ps):∃ v vs' d ds' p q,vs=v::vs'∧ds=d::ds'∧DataW.Trod eh Tryz.prog W 0 (fun _=>true) true t v d p∧DataW.TrodAll eh Tryz.prog W 0 (fun _=>true) true ts vs' ds' q:=by
 cases vs with
 | nil=>cases h
 | cons v vs =>
  cases ds with
  | nil=>cases h
  | cons d ds=>obtain ⟨p,q,h1,h2,_⟩:=h;exact ⟨v,vs,d,ds,p,q,rfl,rfl,h1,h2⟩
theorem trodAll_nil {W:World} {vs:List Value} {ds:List (DataW H)} {ps:List MemPlace} (h:DataW.TrodAll eh Tryz.prog W 0 (fun _=>true) true [] vs ds ps):vs=[]∧ds=[]:=by
 cases vs <;> cases ds <;> first | exact ⟨rfl,rfl⟩ | cases h
theorem pD {l:Array TypeId} (h:(l.toList.all fun t => !Tryz.prog.wantsStandIn t)=true) {j:Nat} {t:TypeId} (ht:l[j]?=some t):Tryz.prog.wantsStandIn t=false:=by
 have:=List.all_eq_true.1 h t (by have:=Array.mem_of_getElem? ht;simpa using this)
 simpa using this
theorem light_head {t:Nat} {ts:List Nat} {d:DataW H} {ds:List (DataW H)} (h:(DataW.weightsEach Tryz.prog (t::ts) (d::ds)).all (· ≤ reachBytes)=true):Light t d∧(DataW.weightsEach Tryz.prog ts ds).all (· ≤ reachBytes)=true:=by
 simp only [DataW.weightsEach,List.all_append,Bool.and_eq_true] at h
 exact ⟨fun n hn=>by simpa using List.all_eq_true.1 h.1 n hn,h.2⟩
def mi:TypeDesc→Bool
 | .int _ | .bool | .string | .slice _=>true
 | _=>false
theorem not_agg {W:World} {r:Reach} {base t:Nat} {v:Value} {D:TypeDesc} (hu:cE t=some D) (hD:mi D=true) (h:Value.okWide Tryz.prog W r base t v):∀ cs,v.cells.toList=[cs]→v=cs:=fun cs he=>by
 cases v with
 | agg arr =>
  exfalso
  unfold Value.okWide at h
  rw [bd hu] at h
  cases D <;> first | (revert hD;simp [mi];done) | (simp only at h;unfold Cell.okWide at h;rw [bd hu] at h;simp only at h;unfold Cell.ok at h;rw [bd hu] at h;simp at h)
 | _=>simpa [Value.cells] using he
theorem re {nb:Nat} {W:World} {r:Reach} {base t:Nat} {v:Value} {D:TypeDesc} {α:Type} {e:α→List PV} {B:α→Prop} {d:DataW H} {ps:List MemPlace} (hu:cE t=some D) (hD:mi D=true) (hO:Opens eh nb t e B) (h1:∀ m,∃ p,e m=[p]) (h:Value.okWide Tryz.prog W r base t v) (hd:DataW.Trod eh Tryz.prog W 0 (fun _=>true) true t v d ps) (hl:Light t d) (hn:Rows.uptoBulk d≤nb):∃ m,Rps (k0 W) (e m) [v]∧B m:=by
 obtain ⟨fuel,hf⟩:=hd
 obtain ⟨m,h2,_,h9⟩:=hO W fuel _ _ hf hl hn
 refine ⟨m,?_,h9⟩
 obtain ⟨p,hp⟩:=h1 m
 rw [hp] at h2
 generalize hc:v.cells.toList=cs at h2
 obtain ⟨w,ws,rfl,h3,h4⟩:=h2.cons_inv
 rw [h4.nil_inv] at hc
 rw [not_agg hu hD h w hc,hp]
 exact .cons h3 .nil
end
theorem rh {κ:Kr} {ps:List PV} {vs:List Value} {k mm:Nat} {xs:List (List PV)} (h:Rps κ ps vs) (hk:ps[k]?=some (.slc mm xs)):xs.length≤140737488355328:=by
 obtain ⟨v,_,h2⟩:=h.get hk
 cases h2 with
 | slc hs hb _ hss=>rw [hss.len,hs.len];exact hb
end SX
end Go.Proofs.YthbphcbhedmnoaaGreatDoor
namespace Go.Proofs.YthbphcbhedmnoaaGreatDoor
namespace SX
open Go
theorem ri {α:Type} (x:Option α):Option.bind x (fun t=>some t)=x:=by cases x <;> rfl
theorem rj {A:List Za} (f g:Int→Int) (hfg:∀ x∈A,f x.Amount=g x.Amount) {s:Tly} {l:List Za} (h:ZB s l):ZB (A.foldl (fun s x=>tf s (kl x) (f x.Amount)) s) (A.foldl (fun l x=>e8 l (kl x) (g x.Amount)) l):=by
 induction A generalizing s l with
 | nil=>exact h
 | cons x A ih =>
  rw [List.foldl_cons,List.foldl_cons,← hfg x (by simp)]
  exact ih (fun y hy=>hfg y (by simp [hy])) (h.step _ _)
theorem kI (f:Int→Int) (A:List Za) (s:Tly) (h:s.1.length+A.length≤1000):gP f A s=some (A.foldl (fun s x=>tf s (kl x) (f x.Amount)) s):=by
 unfold gP
 rw [← ri (bs _ _ _)]
 refine (iO (l:=A) (by omega) (fun i (a:Tly)=>(a.1,a.2,i)) (fun s x=>tf s (kl x) (f x.Amount)) (fun a=>a) (fun k a=>a.1.length≤s.1.length+k) s (Nat.le_refl _) (fun k hk a ha=>⟨?_,?_⟩) (fun a _=>by dsimp only;rw [rU];rfl)).1
 ·dsimp only
  rw [dlt hk,eA,eH hk,fH]
  have e:=px (s:=a) (kl A[k]) (f A[k].Amount) (by omega)
  unfold kl at e
  rw [e,fH,mS hk (by omega)];rfl
 have:=tL a (kl A[k]) (f A[k].Amount);omega
theorem e9 {β:Type} (sg:Int) (A:List Za) (l:List Za) (h:l.length+A.length≤1000) (K:List Za→Option β):Option.bind (bs (S:=(List Za)×Int) (T:=((List Za))) (fun (l4,v7)=>cond (decide (v7<(A.length:Int))) (Option.bind (idx A v7) (fun m16=>Option.bind (ey l4 m16 sg) (fun x17=>some (.inl (x17,(IntKind.i64.wrap (v7+1))))))) (some (.inr l4))) FUEL (l,0)) K=K (A.foldl (fun l x=>e8 l (kl x) (IntKind.i64.wrap (sg*x.Amount))) l)∧(A.foldl (fun l x=>e8 l (kl x) (IntKind.i64.wrap (sg*x.Amount))) l).length≤l.length+A.length:=by
 refine iO (l:=A) (by omega) (fun i (a:List Za)=>(a,i)) (fun l x=>e8 l (kl x) (IntKind.i64.wrap (sg*x.Amount))) (fun a=>a) (fun k a=>a.length≤l.length+k) l (Nat.le_refl _) (fun k hk a ha=>⟨?_,?_⟩) (fun a _=>by dsimp only;rw [rU];rfl)
 ·dsimp only
  rw [dlt hk,eA,eH hk,fH,ref_add _ _ (by omega),fH,mS hk (by omega)]
 have:=py (IntKind.i64.wrap (sg*A[k].Amount)) a (kl A[k]);omega
def gQ (l:List Za) (x:Za):List Za:=cond (x.Amount != 0) (l++[x]) l
theorem kv (l:List Za) (x:Za):(gQ l x).length≤l.length+1:=by unfold gQ;cases x.Amount != 0 <;> simp
theorem r7 {β:Type} (A:List Za) (h:A.length≤1000) (K:List Za→Option β):Option.bind (bs (S:=(List Za)×Int) (T:=((List Za))) (fun (l39,v42)=>cond (decide (v42<((A.length:Nat):Int))) (Option.bind (Option.bind (idx A v42) (fun m57=>cond (m57.Amount != 0) (Option.bind (idx A v42) (fun m59=>Option.bind (app 40 l39 [m59]) (fun l62=>some l62))) (some l39))) (fun l55=>some (.inl (l55,(IntKind.i64.wrap (v42+1)))))) (some (.inr l39))) FUEL (([]:List Za),0)) K=K (A.foldl gQ []):=by
 refine (iO (l:=A) (by omega) (fun i (a:List Za)=>(a,i)) gQ (fun a=>a) (fun k a=>a.length≤k) [] (Nat.le_refl _) (fun k hk a ha=>⟨?_,?_⟩) (fun a _=>by dsimp only;rw [rU];rfl)).1
 ·dsimp only
  rw [dlt hk,eA,eH hk,fH,mS hk (by omega)]
  unfold gQ
  cases (A[k].Amount != 0)
  ·rfl
  rw [eA,eA,fH,iy (by simp;omega) (by simp;omega)];rfl
 have:=kv a A[k];omega
theorem kJ {x:Zc}:∀ {l:List Zc},x ∉ l→l.Pairwise (fun a b=>bI a b=true)→(ins bI x l).Pairwise (fun a b=>bI a b=true)
 | [],_,_=>by simp [ins]
 | y::l,hx,h=>by
  obtain ⟨h1,h2⟩:=List.pairwise_cons.1 h
  unfold ins
  cases hy:bI y x with
  | true =>
   simp only [eA]
   refine List.pairwise_cons.2 ⟨fun z hz=>?_,kJ (fun e=>hx (by simp [e])) h2⟩
   rcases List.mem_cons.1 (jM.mem_iff.1 hz) with rfl | hz
   ·exact hy
   ·exact h1 z hz
  | false =>
   simp only [js]
   have hxy:bI x y=true:=by
    cases h3:bI x y with
    | true=>rfl
    | false=>exact absurd (ku _ _ h3 hy) (fun e=>hx (by rw [e];simp))
   refine List.pairwise_cons.2 ⟨fun z hz=>?_,h⟩
   rcases List.mem_cons.1 hz with rfl | hz
   ·exact hxy
   exact jW _ _ _ hxy (h1 z hz)
theorem i5:∀ {l:List Zc},l.Nodup→(gj bI l).Pairwise (fun a b=>bI a b=true)
 | [],_=>List.Pairwise.nil
 | x::l,h=>by
  obtain ⟨h1,h2⟩:=List.nodup_cons.1 h
  rw [gj]
  exact kJ (fun e=>h1 (eW.mem_iff.1 e)) (i5 h2)
theorem extA:∀ {l m:List Zc},l.Pairwise (fun a b=>bI a b=true)→m.Pairwise (fun a b=>bI a b=true)→(∀ z,z∈l↔z∈m)→l=m
 | [],[],_,_,_=>rfl
 | [],y::m,_,_,h=>absurd ((h y).2 (by simp)) (by simp)
 | x::l,[],_,_,h=>absurd ((h x).1 (by simp)) (by simp)
 | x::l,y::m,h1,h2,h=>by
  obtain ⟨a1,a2⟩:=List.pairwise_cons.1 h1
  obtain ⟨b1,b2⟩:=List.pairwise_cons.1 h2
  have hxy:x=y:=by
   rcases List.mem_cons.1 ((h x).1 (by simp)) with e | hx
   ·exact e
   rcases List.mem_cons.1 ((h y).2 (by simp)) with e | hy
   ·exact e.symm
   have k:=jW _ _ _ (b1 x hx) (a1 y hy);rw [gO] at k;cases k
  subst hxy
  congr 1
  refine extA a2 b2 fun z=>⟨fun hz=>?_,fun hz=>?_⟩
  ·rcases List.mem_cons.1 ((h z).1 (by simp [hz])) with e | hz2
   ·subst e;have k:=a1 z hz;rw [gO] at k;cases k
   exact hz2
  rcases List.mem_cons.1 ((h z).2 (by simp [hz])) with e | hz2
  ·subst e;have k:=b1 z hz;rw [gO] at k;cases k
  exact hz2
theorem ZB.keys {s:Tly} {l:List Za} (h:ZB s l):gj bI s.1=l.map kl:=by
 refine extA (i5 h.nd) (List.pairwise_map.2 h.asc) fun z=>?_
 rw [eW.mem_iff,h.mem,List.mem_map]
theorem out_eq {s:Tly} {l:List Za} (h:ZB s l) (hl:l.length≤1000):jX s.1.length (gj bI s.1) s.2=some (l.foldl gQ []):=by
 have hn:s.1.length=l.length:=by have:=congrArg List.length h.keys;rw [eW.length_eq,List.length_map] at this;exact this
 unfold jX
 rw [hn,h.keys,← ri (bs _ _ _)]
 refine (iO (l:=l) (by omega) (fun i (a:List Za)=>(a,i)) gQ (fun a=>a) (fun k a=>a.length≤k) [] (Nat.le_refl _) (fun k hk a ha=>⟨?_,?_⟩) (fun a _=>by dsimp only;rw [rU];rfl)).1
 ·dsimp only
  have hi:idx (l.map kl) (k:Int)=some (kl l[k]):=by
   rw [eH (by rw [List.length_map];exact hk),List.getElem_map]
  have hv:=h.val l[k] (List.getElem_mem hk)
  have ha2:l[k].Amount=(bP s.2 (kl l[k])).getD 0:=by
   generalize l[k]=x at hv;rw [hv];rfl
  rw [dlt hk,eA,hi,fH,mS hk (by omega),← ha2]
  unfold gQ
  have hx:(⟨(kl l[k]).kind,(kl l[k]).measure,0,0,l[k].Amount⟩:Za)=l[k]:=by
   rw [ha2];exact hv.symm
  rw [hx]
  cases (l[k].Amount != 0)
  ·rfl
  rw [eA,eA,iy (by simp;omega) (by simp;omega)];rfl
 have:=kv a l[k];omega
def jY (A B:List Za):List Za:=B.foldl (fun l x=>e8 l (kl x) (IntKind.i64.wrap (1*x.Amount))) (A.foldl (fun l x=>e8 l (kl x) (IntKind.i64.wrap (-1*x.Amount))) [])
theorem mj (f:Int→Int):∀ (A:List Za) (s:Tly),(A.foldl (fun s x=>tf s (kl x) (f x.Amount)) s).1.length≤s.1.length+A.length
 | [],s=>Nat.le_refl _
 | x::A,s=>by
  have h1:=mj f A (tf s (kl x) (f x.Amount))
  have h2:=tL s (kl x) (f x.Amount)
  rw [List.foldl_cons,List.length_cons];omega
theorem r8 (a b:Zn) (h1:a.Lines.length≤200) (h2:b.Lines.length≤200) (hb:∀ x∈b.Lines,-9223372036854775808≤x.Amount∧x.Amount≤9223372036854775807):cY a b=some ((jY a.Lines b.Lines).foldl gQ [])∧dq a b=some ((jY a.Lines b.Lines).foldl gQ []):=by
 have q1:=e9 (β:=List Za) (-1) a.Lines [] (by simp;omega) (fun x=>some x)
 have l1:=q1.2
 rw [List.length_nil,Nat.zero_add] at l1
 have l2:=(e9 (β:=List Za) 1 b.Lines (a.Lines.foldl (fun l x=>e8 l (kl x) (IntKind.i64.wrap (-1*x.Amount))) []) (by omega) (fun x=>some x)).2
 have hlen:(jY a.Lines b.Lines).length≤1000:=by unfold jY;omega
 have hA:=rj (A:=a.Lines) (fun v=>IntKind.i64.wrap (0 - v)) (fun v=>IntKind.i64.wrap (-1*v)) (fun x _=>by congr 1;omega) ZB.nil
 have hB:=rj (A:=b.Lines) (fun v=>v) (fun v=>IntKind.i64.wrap (1*v)) (fun x hx=>by rw [Int.one_mul,pb (hb x hx).1 (hb x hx).2]) hA
 have hl:=mj (fun v=>IntKind.i64.wrap (0 - v)) a.Lines ([],[])
 rw [show (([],[]):Tly).1.length=0 from rfl,Nat.zero_add] at hl
 constructor
 ·unfold cY
  rw [kI _ _ _ (by simp;omega),fH,kI _ _ _ (by omega),fH]
  show Option.bind (some (gj bI _)) _=_
  rw [fH,out_eq hB hlen,fH];rfl
 unfold dq
 rw [(e9 (-1) a.Lines [] (by simp;omega) _).1,(e9 1 b.Lines _ (by omega) _).1]
 exact r7 (jY a.Lines b.Lines) hlen _
theorem pE {α T:Type}:∀ (l:List α) (i:Nat),jP (fun _ _=>(none:Option T)) l i=none
 | [],_=>rfl
 | _::l,i=>by rw [jP];exact pE l (i+1)
theorem r9 (l:List Za) (h:l.length≤100000):dF l l=some true:=by
 unfold dF
 rw [bne_self_eq_false,js]
 refine (mT (l:=l) (by omega) (fun _ _=>none) (.inl ()) (fun k hk=>?_) (by rw [rU];rfl)).trans ?_
 ·rw [dlt hk,eA,eH hk,fH,fH,Za.eqb_iff.2 rfl,mS hk (by omega)];rfl
 rw [pE];rfl
theorem awake20:gn=some true:=by kernel_rfl
theorem pF {β:Type} (l:List Za) (hl:l.length≤100):Y (bs (S:=Int×(List Za)) (T:=((List Za))) (fun (v17,l19)=>cond (decide (v17<((l.length:Nat):Int))) (Option.bind (idx l19 v17) (fun m28=>Option.bind (du m28.Amount 1000) (fun x29=>Option.bind (idx l19 v17) (fun m30=>some (.inl ((IntKind.i64.wrap (v17+1)),(l19.set v17.toNat (⟨m30.Kind,m30.Measure,m30.Quantity,m30.Value,x29⟩:Za)))))))) (some (.inr l19))) FUEL (0,l)) (fun m=>m.length=l.length∧∀ x∈m,0≤x.Amount∧x.Amount<1000):=by
 refine Y.loop (fun s:Int×List Za=>∃ k:Nat,k≤l.length∧s.1=(k:Int)∧s.2.length=l.length∧∀ (i:Nat) (x:Za),i<k→s.2[i]?=some x→0≤x.Amount∧x.Amount<1000) (fun s=>(l.length - s.1).toNat) ⟨0,Nat.zero_le _,rfl,rfl,fun i x h=>absurd h (Nat.not_lt_zero _)⟩ (by dsimp only;omega) ?_
 rintro ⟨i,m⟩ ⟨k,hk,hi,hm,hx⟩
 dsimp only at hi hm hx ⊢
 subst hi
 refine Y.cond (fun h=>?_) (fun h=>Y.ret ⟨hm,fun x hx2=>?_⟩)
 ·have h:k<m.length:=by have:=of_decide_eq_true h;omega
  rw [eH h,fH]
  refine (tI m[k].Amount 1000 (by omega) (by omega)).bind fun r ⟨r1,r2⟩=>?_
  rw [fH]
  refine Y.ret ⟨⟨k+1,by omega,?_,by rw [List.length_set];exact hm,fun i x hi2 hx2=>?_⟩,?_⟩
  ·dsimp only;rw [pb (by omega) (by omega)];omega
  ·dsimp only at hx2
   rw [Int.toNat_natCast,List.getElem?_set] at hx2
   by_cases e:k=i
   ·rw [if_pos e,if_pos (by omega)] at hx2
    obtain rfl:=Option.some.inj hx2
    exact ⟨r1,r2⟩
   rw [if_neg e] at hx2
   exact hx i x (by omega) hx2
  dsimp only;rw [pb (by omega) (by omega)];omega
 have h:=of_decide_eq_false h
 obtain ⟨i,hi,rfl⟩:=List.getElem_of_mem hx2
 exact hx i _ (by omega) (List.getElem?_eq_getElem hi)
theorem gS (m0 m1:List Za) {κ:Kr} {v0 v1:List Value} (s0:Rps κ (eL Za.enc m0) v0) (s1:Rps κ (eL Za.enc m1) v1):bS m0 m1=some true:=by
 have hn0:m0.length≤140737488355328:=by have:=rh (k:=0) s0 rfl;simpa using this
 have hn1:m1.length≤140737488355328:=by have:=rh (k:=0) s1 rfl;simpa using this
 have hcut:∀ m:List Za,∃ l:List Za,sub m 0 (gF (m.length:Int) 100)=some l∧l.length≤100:=fun m=>by
  refine ⟨m.take (min m.length 100),?_,by rw [List.length_take];omega⟩
  have e:gF (m.length:Int) 100=((min m.length 100:Nat):Int):=by unfold gF;split <;> omega
  have:=qu (xs:=m) (Nat.zero_le (min m.length 100)) (by omega)
  rw [e];simpa using this
 have key:Y (bS m0 m1) (fun r=>r=true):=by
  unfold bS
  obtain ⟨l,e1,h1⟩:=hcut m0
  obtain ⟨m,e2,h2⟩:=hcut m1
  rw [e1,fH,e2,fH,iy (by simp;omega) (by simp;omega),fH,iy (by simp;omega) (by simp;omega),fH,List.nil_append,List.nil_append]
  refine (pF (β:=Bool) l h1).bind fun a ⟨a1,a2⟩=>?_
  refine (pF (β:=Bool) m h2).bind fun b ⟨b1,b2⟩=>?_
  obtain ⟨d1,d2⟩:=r8 ⟨a,0⟩ ⟨b,0⟩ (by dsimp only;omega) (by dsimp only;omega) (fun x hx=>by have:=b2 x hx;omega)
  have hlen:((jY a b).foldl gQ []).length≤100000:=by
   have q1:=(e9 (β:=List Za) (-1) a [] (by rw [List.length_nil];omega) (fun x=>some x)).2
   rw [List.length_nil,Nat.zero_add] at q1
   have q2:=(e9 (β:=List Za) 1 b (a.foldl (fun l x=>e8 l (kl x) (IntKind.i64.wrap (-1*x.Amount))) []) (by omega) (fun x=>some x)).2
   have q3:∀ (A l:List Za),(A.foldl gQ l).length≤l.length+A.length:=by
    intro A
    induction A with
    | nil=>intro l;exact Nat.le_refl _
    | cons x A ih=>intro l;have:=ih (gQ l x);have:=kv l x;rw [List.foldl_cons,List.length_cons];omega
   have q4:=q3 (jY a b) []
   have q5:(jY a b).length≤1000:=by unfold jY;omega
   rw [List.length_nil] at q4;omega
  rw [d1,fH,d2,fH,r9 _ hlen,fH,mQ,awake20,fH]
  exact Y.ret rfl
 obtain ⟨r,e,rfl⟩:=key
 exact e
def bd3:Nat→Int→Prop:=fun _ _=>True
theorem op3 {H:Type} {eh:TypeId×Value→H} {nb:Nat}:Opens eh nb 3 eI (bd3 nb):=r6 rfl
def bd37:Nat→Za→Prop:=fun n m=>bd3 n m.Kind∧bd3 n m.Measure∧bd3 n m.Quantity∧bd3 n m.Value∧bd3 n m.Amount∧True
theorem op37 {H:Type} {eh:TypeId×Value→H} {nb:Nat}:Opens eh nb 37 Za.enc (bd37 nb):=fun W fuel cs x hx hw hbk=>by
 obtain ⟨xs,n,rfl,rfl,hl,hlen,hf⟩:=DataW.trod_struct (bd (t:=37) rfl) hx
 obtain ⟨x0,x1,x2,x3,x4,rfl⟩:∃ x0 x1 x2 x3 x4,xs=[x0,x1,x2,x3,x4]:=by
  match xs,hlen with
  | [a0,a1,a2,a3,a4],_=>exact ⟨a0,a1,a2,a3,a4,rfl⟩
 have hw2:∀ n∈DataW.weightsEach Tryz.prog [3,3,3,3,3] [x0.1,x1.1,x2.1,x3.1,x4.1],n≤reachBytes:=fun n hn=>hw n (by simp only [DataW.weights,bd (t:=37) rfl];exact hn)
 simp only [DataW.weightsEach,List.mem_append] at hw2
 simp only [Rows.uptoBulk,List.map_cons,List.map_nil,Rows.uptoBulkAll] at hbk
 have g0:DataW.trod eh Tryz.prog W 0 (fun _=>true) true n 3 ((cs.drop 0).take (Tryz.prog.cellsOf 3))=some x0:=hf 0 _ rfl
 rw [(dz (t:=3) rfl).1] at g0
 obtain ⟨m0,r0,o0,c0⟩:=op3 (nb:=nb) W n _ _ g0 (fun n hn=>hw2 n (.inl hn)) (by omega)
 have g1:DataW.trod eh Tryz.prog W 0 (fun _=>true) true n 3 ((cs.drop 1).take (Tryz.prog.cellsOf 3))=some x1:=hf 1 _ rfl
 rw [(dz (t:=3) rfl).1] at g1
 obtain ⟨m1,r1,o1,c1⟩:=op3 (nb:=nb) W n _ _ g1 (fun n hn=>hw2 n (.inr (.inl hn))) (by omega)
 have g2:DataW.trod eh Tryz.prog W 0 (fun _=>true) true n 3 ((cs.drop 2).take (Tryz.prog.cellsOf 3))=some x2:=hf 2 _ rfl
 rw [(dz (t:=3) rfl).1] at g2
 obtain ⟨m2,r2,o2,c2⟩:=op3 (nb:=nb) W n _ _ g2 (fun n hn=>hw2 n (.inr (.inr (.inl hn)))) (by omega)
 have g3:DataW.trod eh Tryz.prog W 0 (fun _=>true) true n 3 ((cs.drop 3).take (Tryz.prog.cellsOf 3))=some x3:=hf 3 _ rfl
 rw [(dz (t:=3) rfl).1] at g3
 obtain ⟨m3,r3,o3,c3⟩:=op3 (nb:=nb) W n _ _ g3 (fun n hn=>hw2 n (.inr (.inr (.inr (.inl hn))))) (by omega)
 have g4:DataW.trod eh Tryz.prog W 0 (fun _=>true) true n 3 ((cs.drop 4).take (Tryz.prog.cellsOf 3))=some x4:=hf 4 _ rfl
 rw [(dz (t:=3) rfl).1] at g4
 obtain ⟨m4,r4,o4,c4⟩:=op3 (nb:=nb) W n _ _ g4 (fun n hn=>hw2 n (.inr (.inr (.inr (.inr (.inl hn)))))) (by omega)
 have hl2:cs.length=5:=hl.trans (dz (t:=37) rfl).1
 exact ⟨(⟨m0,m1,m2,m3,m4⟩:Za),(iH (off:=0) r0 (iH (off:=1) r1 (iH (off:=2) r2 (iH (off:=3) r3 (iH (off:=4) r4 (rps_end hl2)))))),(iI (off:=0) o0 (iI (off:=1) o1 (iI (off:=2) o2 (iI (off:=3) o3 (iI (off:=4) o4 (one_end hl2)))))),⟨c0,c1,c2,c3,c4,trivial⟩⟩
def bd23:Nat→(List Za)→Prop:=fun n l=>l.length*40≤140737488355328∧l.length≤n∧∀ x∈l,bd37 n x
theorem op23 {H:Type} {eh:TypeId×Value→H} {nb:Nat}:Opens eh nb 23 (eL Za.enc) (bd23 nb):=pz rfl rfl rfl rfl op37
end SX
end Go.Proofs.YthbphcbhedmnoaaGreatDoor
set_option maxRecDepth 100000
namespace Go.Proofs.YthbphcbhedmnoaaGreatDoor
open Go Go.ChangeShapes Go.WideShapes Go.RowKit
open SX
theorem assessDifferenceRaw_lifted (os:Os) (started:os.Started) (H:Type) (enc:TypeId×Value→H) :
    ReturnsInHanded {} Tryz.checked os 4 .any (fun w args=>(Rows.assessDifferenceRawSpec.pre enc Tryz.prog Tryz.f4 [] false w args∧laidMetH Tryz.prog mZ w)∧sizedMet enc Tryz.prog Tryz.f4 (OpenSpec.ofChange Rows.assessDifferenceRawSpec) false w args)
      (Rows.assessDifferenceRawSpec.post enc Tryz.prog Tryz.f4 false true false false):=by
  refine returnsInHanded_of_change_and (C:=Tryz.checked) (X:=fun w _=>laidMetH Tryz.prog mZ w) (fun _ _ _ hh h=>h.of_heap hh) own_ok started (by kernel_rfl) Tryz.func4
    (ChangeSpec.witness_at (enc:=enc) (C:=Tryz.checked) (os:=os) (X:=fun w _=>laidMetH Tryz.prog mZ w) false (laidWorld os) #[.slice none 0 0,.slice none 0 0] 8 rfl (by kernel_rfl) (by kernel_rfl) (by kernel_rfl) (by kernel_rfl) (by kernel_rfl) (mu os _)) ?_
  intro W base args ds gs before hval0 hW _ hwt hL _
  have hval:∀ (j:Nat) t v,Tryz.f4.params[j]?=some t→args[j]?=some v→Value.okWide Tryz.prog W .any base t v:=hval0
  have hW2:=hW
  obtain ⟨p,q,hA0,hV0,rfl,_,_⟩:=hW
  have hA:DataW.TrodAll enc Tryz.prog W 0 (fun _=>true) true [23,23] args.toList ds p:=hA0
  obtain ⟨rfl,rfl⟩:gs=[]∧q=[]:=by
    cases gs with
    | nil=>exact ⟨rfl,hV0⟩
    | cons g r=>exact absurd hV0 (by intro h;cases h)
  generalize hargs:args.toList=vs at hA
  have hval2:∀ (j:Nat) t v,[23,23][j]?=some t→vs[j]?=some v→Value.okWide Tryz.prog W .any base t v:=fun j t v h1 h2=>hval j t v (by rw [Tryz.params4];simpa using h1) (by rw [← hargs] at h2;simpa using h2)
  obtain ⟨v0,vs0,d0,ds0,p0,q0,rfl,rfl,h0,hA⟩:=SX.trodAll_cons hA
  obtain ⟨v1,vs1,d1,ds1,p1,q1,rfl,rfl,h1,hA⟩:=SX.trodAll_cons hA
  obtain ⟨rfl,rfl⟩:=SX.trodAll_nil hA
  have hw:(DataW.weightsEach Tryz.prog [23,23] [d0,d1]).all (· ≤ reachBytes)=true:=hwt
  obtain ⟨l0,hw⟩:=SX.light_head hw
  obtain ⟨m0,s0,b0⟩:=re rfl rfl op23 (fun _=>⟨_,rfl⟩) (hval2 0 23 v0 rfl rfl) h0 l0 (Nat.le_refl _)
  obtain ⟨l1,hw⟩:=SX.light_head hw
  obtain ⟨m1,s1,b1⟩:=re rfl rfl op23 (fun _=>⟨_,rfl⟩) (hval2 1 23 v1 rfl rfl) h1 l1 (Nat.le_refl _)
  exact tR (readB (by kernel_rfl)) rfl (bd rfl) rfl (by simp [Rows.assessDifferenceRawSpec]) hW2 (pC hL) (by rw [hargs];exact (s0.app s1)) (fF (gS m0 m1 s0 s1))
theorem assessDifferenceRaw_holds:Rows.AssessDifferenceRawSaid :=
 OpenClaim.holds_of_wide 4 Tryz.f4 rfl rfl rfl rfl rfl rfl rfl ⟨rfl,rfl,rfl,rfl,rfl⟩ rfl rfl rfl rfl rfl assessDifferenceRaw_named Tryz.func4 assessDifferenceRaw_closed
  (of_decide_eq_true (by kernel_rfl)) (by unfold Func.isWrapper;rw [if_neg (of_decide_eq_false (by kernel_rfl))];exact ⟨rfl,rfl⟩)
  (fun os started H enc _=>assessDifferenceRaw_lifted os started H enc)
theorem assessDifferenceRaw_card:Rows.AssessDifferenceRawCardSaid :=
 Claim7.holds_tied_plain_at .later [] [.data,.data,.pinned] true (true, "d271fc30cff10d59a72863d1eb68a3d84db99f08108d2c8632d41447e35cdff0") true
  assessDifferenceRaw_holds (fun _ h=>by cases h) (by as_aux_lemma=>kernel_rfl) (fun _ h=>by cases h) assessDifferenceRaw_row_tie rfl ⟨rfl,rfl⟩ fp_main rfl
  (fun f fn hf hfn=>by
   obtain rfl:f=4:=Option.some.inj ((show Tryz.prog.funcNamed "customs/customslaw20.AssessDifferenceRaw" = some 4 from assessDifferenceRaw_named).symm.trans hf) |>.symm
   obtain rfl:fn=Tryz.f4:=(Option.some.inj (Tryz.func4.symm.trans hfn)).symm
   exact ⟨fp_looks,fun j t ht=>by
    rw [Tryz.params4] at ht
    exact pD (by as_aux_lemma=>kernel_rfl) ht⟩)
  assessDifferenceRaw_goes
#print axioms assessDifferenceRaw_card
end Go.Proofs.YthbphcbhedmnoaaGreatDoor
