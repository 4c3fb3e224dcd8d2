/- A part of the proof: texts of the walk and of the plain laws, merged. No condition. -/
import Derived.Test.YtoccohlbjnoeoaaGreatDoorM2
set_option linter.unusedVariables false
set_option linter.unusedSimpArgs false
set_option maxHeartbeats 4000000
set_option maxRecDepth 100000
namespace Go.Proofs.YtoccohlbjnoeoaaGreatDoor
namespace SX
open Go
attribute [local irreducible] PWL PWC PWD POpL POpQ PEv PGuardIs PSub PPick PUpd PSplice PFill PLit PF PFV PCall FOk pseqK pblockK pmidK pcutK ploopK pretK Cov PHolds loopF idx app mk gd lb nz ge0 cat sub ssub iand ior ixor ishl ishr imin imax IntKind.wrap Int.tmod Int.tdiv Op.bytesLess strOfNums
def ycd (p0:ByteArray):Option Bool:=Option.bind (gd ((p0.size:Int) == 2) (idx p0.data.toList 0)) (fun c1=>Option.bind (gd ((p0.size:Int) == 2) (yeo (c1.toNat:Int))) (fun x2=>Option.bind (gd (((p0.size:Int) == 2)&&x2) (idx p0.data.toList 1)) (fun c3=>Option.bind (gd (((p0.size:Int) == 2)&&x2) (yeo (c3.toNat:Int))) (fun x4=>some ((((p0.size:Int) == 2)&&x2)&&x4)))))
theorem yfe {p0:ByteArray} {r:Bool}  (h:ycd p0=some r):PF 58 [pS p0] (pB r):=by
 unfold ycd at h
 refine ych ?_
 refine ybc Tryz.func58 fk58 rfl Tryz.ntmps58 Tryz.results58 rfl (yaa (yac [] [2] [] fo0 (by kernel_rfl) (yab (yaa (yad h fun c1 hc1 h=>yad h fun x2 hx2 h=>yad h fun c3 hc3 h=>yad h fun x4 hx4 h=>yac [] (rg 3 13) [(2,pB ((((p0.size:Int) == 2)&&x2)&&x4))] (fosxg 5 (yoq hc1) (ylk 6 (fun hc=>yis (yoq hx2 hc)) (fosxg 10 (yoq hc3) (ylk 11 (fun hc=>yis (yoq hx4 hc)) fo0)))) (by kernel_rfl) (yab (yai ?_)))))))
 obtain rfl:=osi h
 exact zq rfl ⟨rfl,rfl⟩
def ybw (p0:(List Zd)) (p1:(Zd→Option Bool)):Option Int:=Option.bind (loopF (S:=Int) (T:=(Unit)⊕(_)) (fun v1=>cond (decide (v1<(p0.length:Int))) (Option.bind (idx p0 v1) (fun m5=>Option.bind (p1 m5) (fun x6=>cond x6 (some (.inr (.inr v1))) (some (.inl (IntKind.i64.wrap (v1+1))))))) (some (.inr (.inl ())))) FUEL 0) (fun q=>match q with | .inl _=>some (-1) | .inr e=>some e)
theorem ygt {p0:(List Zd)} {p1:(Zd→Option Bool)} {r:Int} {g1:PV} (hg1:∀ {y0:Zd} {w:Bool},p1 y0=some w→PFV g1 [.agg [pI y0.ID,pS y0.Code,pS y0.Country,pI y0.Price,pB y0.Obtained,pL eS y0.Processes,pL Zf.enc y0.Inputs]] (pB w)) (h:ybw p0 p1=some r):PF 174 [pL Zd.enc p0,g1] (pI r):=by
 unfold ybw at h
 refine ych ?_
 refine ybc Tryz.func174 fk174 rfl Tryz.ntmps174 Tryz.results174 rfl (yaa (yac [] [4] [] fo0 (by kernel_rfl) (yab (yaa (yaa (yac [] [6] [(7,pI (p0.length:Int)),(8,pI 0)] fo0 (by kernel_rfl) (yab (yad h fun q3 hq3 h=>?_))))))))
 refine yav (Y:=(Unit)×(Unit)) (fun (_,_)=>[]) (fun (_,_)=>[]) (fun (_,_)=>q3=Sum.inl ()) ?_ ?_
 ·refine yak ?_
  refine yay (Y:=Unit) (S:=Int) _ hq3 (fun _ v1=>[(0,pL Zd.enc p0),(1,g1),(7,pI (p0.length:Int)),(8,pI v1)]) (fun _ v1=>[]) () (zh4 rfl rfl rfl rfl) zsn ?_
  rintro _ v1 o τ hb2;(try dsimp only at hb2);dsimp only [pupds]
  refine yaa (yac [] [] [(9,pB (decide (v1<(p0.length:Int))))] fo0 (by kernel_rfl) (yab (yaa (zif rfl hb2 (fun hc4 hb2=>?_) fun hc4 hb2=>?_))))
  ·refine yag ?_
   refine yab (yaa (yak (yaa (yac [] [10] [(5,pI v1)] fo0 (by kernel_rfl) (yab (yaa (yad hb2 fun m5 hm5 hb2=>yad hb2 fun x6 hx6 hb2=>yac [] (rg 11 5) [(16,pB x6)] (ymr 3 Zd.enc hm5 (focv 5 (hg1 hx6) fo0)) (by kernel_rfl) (yab (zif rfl hb2 (fun hc7 hb2=>?_) fun hc7 hb2=>?_)))))))))
   ·refine yaa ?_
    refine yac [] [17] [(4,pI v1)] fo0 (by kernel_rfl) (yab (yai (yaf (yah ?_))))
    refine yba hb2 (fun ht=>?_);subst ht
    refine yaf (ybb ?_)
    obtain rfl:=osi h
    exact zq rfl ⟨rfl,rfl⟩
   refine yag ?_
   refine yal (yab (yac [] [18] [(8,pI (IntKind.i64.wrap (v1+1)))] fo0 (by kernel_rfl) ?_))
   exact ybu hb2 () (zh4 rfl rfl rfl rfl) zsn
  refine ybd ?_
  refine yap (yam hb2 (fun ht=>yao rfl ?_))
  exact yaz ((),()) zhn zsn ht.symm
 rintro ⟨_,_⟩ τ hz;(try dsimp only at hz);subst q3;(try dsimp only at h);dsimp only [pupds]
 refine yaa (yac [] [] [(4,pI (-1))] fo0 (by kernel_rfl) (yab (yai ?_)))
 obtain rfl:=osi h
 exact zq rfl ⟨rfl,rfl⟩
def ybr (p0:(List Zd)) (p1:(Zd→Option Bool)):Option Bool:=Option.bind (ybw p0 p1) (fun x1=>some (decide (0≤x1)))
theorem yfw {p0:(List Zd)} {p1:(Zd→Option Bool)} {r:Bool} {g1:PV} (hg1:∀ {y0:Zd} {w:Bool},p1 y0=some w→PFV g1 [.agg [pI y0.ID,pS y0.Code,pS y0.Country,pI y0.Price,pB y0.Obtained,pL eS y0.Processes,pL Zf.enc y0.Inputs]] (pB w)) (h:ybr p0 p1=some r):PF 140 [pL Zd.enc p0,g1] (pB r):=by
 unfold ybr at h
 refine ych ?_
 refine ybc Tryz.func140 fk140 rfl Tryz.ntmps140 Tryz.results140 rfl (yaa (yac [] [4] [] fo0 (by kernel_rfl) (yab (yaa (yad h fun x1 hx1 h=>yac [] [5,6,7,8] [(4,pB (decide (0≤x1)))] (yfg 2 (ygt hg1 hx1) fo0) (by kernel_rfl) (yab (yai ?_)))))))
 obtain rfl:=osi h
 exact zq rfl ⟨rfl,rfl⟩
def ycj (p0:Zd) (p1:Zf):Option Bool:=some (p0.ID == p1.Product)
theorem yjv {p0:Zd} {p1:Zf} {r:Bool}  (h:ycj p0 p1=some r):PF 141 [.agg [pI p0.ID,pS p0.Code,pS p0.Country,pI p0.Price,pB p0.Obtained,pL eS p0.Processes,pL Zf.enc p0.Inputs],.ref [pI p1.Product,pI p1.Value] 0] (pB r):=by
 unfold ycj at h
 refine ych ?_
 refine ybc Tryz.func141 fk141 rfl Tryz.ntmps141 Tryz.results141 rfl (yaa (yae (yat rfl rfl rfl (ycn (cs:=[pI p0.ID,pS p0.Code,pS p0.Country,pI p0.Price,pB p0.Obtained,pL eS p0.Processes,pL Zf.enc p0.Inputs]) rfl rfl (fun b1=>yan [] [3] [] fo0 (by kernel_rfl) (yab (yaa (yac [0] (rg 4 5) [(3,pB (p0.ID == p1.Product))] fo0 (by kernel_rfl) (yab (yai ?_))))))))))
 obtain rfl:=osi h
 exact zq rfl ⟨rfl,rfl⟩
def yda (p0:(List Zd)) (p1:(List Zf)):Option Int:=Option.bind (loopF (S:=Int) (T:=(Unit)⊕(_)) (fun v1=>cond (decide (v1<(p1.length:Int))) (Option.bind (idx p1 v1) (fun m5=>Option.bind (gd (decide (0<v1)) (idx p1 (IntKind.i64.wrap (v1 - 1)))) (fun m7=>cond ((decide (0<v1))&&(decide (m5.Product≤m7.Product))) (some (.inr (.inr (9:Int)))) (Option.bind (ybr p0 (fun y9=>ycj y9 m5)) (fun x10=>cond (!x10) (some (.inr (.inr (6:Int)))) (cond ((decide (m5.Value<0))||(decide (1000000000000<m5.Value))) (some (.inr (.inr (2:Int)))) (some (.inl (IntKind.i64.wrap (v1+1)))))))))) (some (.inr (.inl ())))) FUEL 0) (fun q=>match q with | .inl _=>some (0:Int) | .inr e=>some e)
theorem ykv {p0:(List Zd)} {p1:(List Zf)} {r:Int}  (h:yda p0 p1=some r):PF 100 [pL Zd.enc p0,pL Zf.enc p1] (pI r):=by
 unfold yda at h
 refine ych ?_
 refine ybc Tryz.func100 fk100 rfl Tryz.ntmps100 Tryz.results100 rfl (yaa (yac [] [4] [] fo0 (by kernel_rfl) (yab (yaa (yaa (yac [] [] [(7,pL Zf.enc p1),(8,pI (p1.length:Int)),(9,pI 0)] fo0 (by kernel_rfl) (yab (yad h fun q3 hq3 h=>?_))))))))
 refine yav (Y:=(Unit)×(Unit)) (fun (_,_)=>[]) (fun (_,_)=>[]) (fun (_,_)=>q3=Sum.inl ()) ?_ ?_
 ·refine yak ?_
  refine yay (Y:=Unit) (S:=Int) _ hq3 (fun _ v1=>[(0,pL Zd.enc p0),(1,pL Zf.enc p1),(7,pL Zf.enc p1),(8,pI (p1.length:Int)),(9,pI v1)]) (fun _ v1=>[]) () (zh5 rfl rfl rfl rfl rfl) zsn ?_
  rintro _ v1 o τ hb2;(try dsimp only at hb2);dsimp only [pupds]
  refine yaa (yac [] [] [(10,pB (decide (v1<(p1.length:Int))))] fo0 (by kernel_rfl) (yab (yaa (zif rfl hb2 (fun hc4 hb2=>?_) fun hc4 hb2=>?_))))
  ·refine yag ?_
   refine yab (yaa (yak (yaa (yad hb2 fun m5 hm5 hb2=>yae (yaj 3 [] [12] [(11,pI v1),(13,.agg [pI m5.Product,pI m5.Value])] (ymr 1 Zf.enc hm5 fo0) (by kernel_rfl) (yat rfl rfl rfl (ybg (cs:=[pI 0,pI 0]) rfl rfl rfl rfl (fun b6=>yaj 1 [] [] [(5,pI v1)] fo0 (by kernel_rfl) (ybq rfl rfl (yaq (vs:=[pI m5.Product,pI m5.Value]) rfl rfl rfl rfl rfl zuh (zl2) (yau (yab (yaa (yaa (yei (ρd:=[]) [(0,0),(1,0),(2,0),(3,0),(4,0),(5,0),(6,0),(7,0),(8,0),(9,0),(10,0),(11,0),(12,0)] _ (List.Perm.refl _) (by kernel_rfl) rfl (yad hb2 fun m7 hm7 hb2=>ycq 13 [0] (rg 14 12) [(26,pB ((decide (0<v1))&&(decide (m5.Product≤m7.Product))))] (yuy 8 Zf.enc (yoq hm7) fo0) (by kernel_rfl) (ygc (yab (zif rfl hb2 (fun hc8 hb2=>?_) fun hc8 hb2=>?_)))))))))))))))))))
   ·refine yaa ?_
    refine yac [] [] [(4,pI 9)] fo0 (by kernel_rfl) (yab (yai (yah (yaf (yah ?_)))))
    refine yba hb2 (fun ht=>?_);subst ht
    refine yaf (ybb ?_)
    obtain rfl:=osi h
    exact zq rfl ⟨rfl,rfl⟩
   refine yag ?_
   refine yab (yaa (yaa (yae (yaj 1 [] [] [(27,pL Zd.enc p0)] fo0 (by kernel_rfl) ?_))))
   refine yrf 6 rfl (by exact zph) ?_
   refine yad hb2 fun x10 hx10 hb2=>yan [] [28,29] [(30,pB (!x10))] (yfg 1 (yfw (fun hr=>yur (yjv hr)) hx10) fo0) (by kernel_rfl) (yab (zif rfl hb2 (fun hc11 hb2=>?_) fun hc11 hb2=>?_))
   ·refine yaa ?_
    refine yac [] [] [(4,pI 6)] fo0 (by kernel_rfl) (yab (yai (yah (yaf (yah ?_)))))
    refine yba hb2 (fun ht=>?_);subst ht
    refine yaf (ybb ?_)
    obtain rfl:=osi h
    exact zq rfl ⟨rfl,rfl⟩
   refine yag ?_
   refine yab (yaa (yac [] (rg 31 7) [(38,pB ((decide (m5.Value<0))||(decide (1000000000000<m5.Value))))] fo0 (by kernel_rfl) (yab (zif rfl hb2 (fun hc12 hb2=>?_) fun hc12 hb2=>?_))))
   ·refine yaa ?_
    refine yac [] [] [(4,pI 2)] fo0 (by kernel_rfl) (yab (yai (yaf (yah ?_))))
    refine yba hb2 (fun ht=>?_);subst ht
    refine yaf (ybb ?_)
    obtain rfl:=osi h
    exact zq rfl ⟨rfl,rfl⟩
   refine yag ?_
   refine yal (yab (yac [] [39] [(9,pI (IntKind.i64.wrap (v1+1)))] fo0 (by kernel_rfl) ?_))
   exact ybu hb2 () (zh5 rfl rfl rfl rfl rfl) zsn
  refine ybd ?_
  refine yap (yam hb2 (fun ht=>yao rfl ?_))
  exact yaz ((),()) zhn zsn ht.symm
 rintro ⟨_,_⟩ τ hz;(try dsimp only at hz);subst q3;(try dsimp only at h);dsimp only [pupds]
 refine yaa (yac [] [] [(4,pI 0)] fo0 (by kernel_rfl) (yab (yai ?_)))
 obtain rfl:=osi h
 exact zq rfl ⟨rfl,rfl⟩
def ydm (p0:(List ByteArray)):Option Bool:=Option.bind (loopF (S:=Int) (T:=(Unit)⊕(_)) (fun v1=>cond (decide (v1<(p0.length:Int))) (Option.bind (idx p0 v1) (fun m5=>Option.bind (ycd m5) (fun x6=>Option.bind (gd ((!(!x6))&&(decide (0<v1))) (idx p0 (IntKind.i64.wrap (v1 - 1)))) (fun m7=>cond ((!x6)||((decide (0<v1))&&(Op.bytesLess m5.toList m7.toList||decide (m5=m7)))) (some (.inr (.inr false))) (some (.inl (IntKind.i64.wrap (v1+1)))))))) (some (.inr (.inl ())))) FUEL 0) (fun q=>match q with | .inl _=>some true | .inr e=>some e)
theorem ylu {p0:(List ByteArray)} {r:Bool}  (h:ydm p0=some r):PF 101 [pL eS p0] (pB r):=by
 unfold ydm at h
 refine ych ?_
 refine ybc Tryz.func101 fk101 rfl Tryz.ntmps101 Tryz.results101 rfl (yaa (yac [] [2] [] fo0 (by kernel_rfl) (yab (yaa (yaa (yac [] [] [(5,pL eS p0),(6,pI (p0.length:Int)),(7,pI 0)] fo0 (by kernel_rfl) (yab (yad h fun q3 hq3 h=>?_))))))))
 refine yav (Y:=(Unit)×(Unit)) (fun (_,_)=>[]) (fun (_,_)=>[]) (fun (_,_)=>q3=Sum.inl ()) ?_ ?_
 ·refine yak ?_
  refine yay (Y:=Unit) (S:=Int) _ hq3 (fun _ v1=>[(0,pL eS p0),(5,pL eS p0),(6,pI (p0.length:Int)),(7,pI v1)]) (fun _ v1=>[]) () (zh4 rfl rfl rfl rfl) zsn ?_
  rintro _ v1 o τ hb2;(try dsimp only at hb2);dsimp only [pupds]
  refine yaa (yac [] [] [(8,pB (decide (v1<(p0.length:Int))))] fo0 (by kernel_rfl) (yab (yaa (zif rfl hb2 (fun hc4 hb2=>?_) fun hc4 hb2=>?_))))
  ·refine yag ?_
   refine yab (yaa (yak (yaa (yad hb2 fun m5 hm5 hb2=>yac [] [9,10,11] [(3,pI v1),(4,pS m5)] (ymr 1 eS hm5 fo0) (by kernel_rfl) (yab (yaa (yad hb2 fun x6 hx6 hb2=>yad hb2 fun m7 hm7 hb2=>yac [] (rg 12 15) [(27,pB ((!x6)||((decide (0<v1))&&(Op.bytesLess m5.toList m7.toList||decide (m5=m7)))))] (yfg 1 (yfe hx6) (yuy 11 eS (yoq hm7) fo0)) (by kernel_rfl) (yab (zif rfl hb2 (fun hc8 hb2=>?_) fun hc8 hb2=>?_)))))))))
   ·refine yaa ?_
    refine yac [] [] [(2,pB false)] fo0 (by kernel_rfl) (yab (yai (yaf (yah ?_))))
    refine yba hb2 (fun ht=>?_);subst ht
    refine yaf (ybb ?_)
    obtain rfl:=osi h
    exact zq rfl ⟨rfl,rfl⟩
   refine yag ?_
   refine yal (yab (yac [] [28] [(7,pI (IntKind.i64.wrap (v1+1)))] fo0 (by kernel_rfl) ?_))
   exact ybu hb2 () (zh4 rfl rfl rfl rfl) zsn
  refine ybd ?_
  refine yap (yam hb2 (fun ht=>yao rfl ?_))
  exact yaz ((),()) zhn zsn ht.symm
 rintro ⟨_,_⟩ τ hz;(try dsimp only at hz);subst q3;(try dsimp only at h);dsimp only [pupds]
 refine yaa (yac [] [] [(2,pB true)] fo0 (by kernel_rfl) (yab (yai ?_)))
 obtain rfl:=osi h
 exact zq rfl ⟨rfl,rfl⟩
def yjw (rec:Zc→Int→Option Int) (p0:Zc) (p1:Int):Option Int:=Option.bind (loopF (S:=Int×Int) (T:=(Int)⊕(_)) (fun (v2,v3)=>cond (decide (v3<(p0.Args.length:Int))) (Option.bind (idx p0.Args v3) (fun m8=>cond (decide (p1≤v2)) (some (.inr (.inr p1))) (Option.bind (rec m8 (IntKind.i64.wrap (p1 - v2))) (fun x11=>some (.inl ((IntKind.i64.wrap (v2+x11)),(IntKind.i64.wrap (v3+1)))))))) (some (.inr (.inl v2)))) FUEL (1,0)) (fun q=>match q with | .inl v4=>some v4 | .inr e=>some e)
theorem yvi {rec:Zc→Int→Option Int} (hrec:∀ {p0:Zc} {p1:Int} {r:Int},rec p0 p1=some r→PF 123 [.agg [pI p0.Kind,pI p0.Digits,pL eS p0.Except,pI p0.Tolerance,pI p0.Limit,pS p0.Name,pL Zc.enc p0.Args],pI p1] (pI r)) {p0:Zc} {p1:Int} {r:Int} (h:yjw rec p0 p1=some r):PF 123 [.agg [pI p0.Kind,pI p0.Digits,pL eS p0.Except,pI p0.Tolerance,pI p0.Limit,pS p0.Name,pL Zc.enc p0.Args],pI p1] (pI r):=by
 unfold yjw at h
 refine ych ?_
 refine ybc Tryz.func123 fk123 rfl Tryz.ntmps123 Tryz.results123 rfl (yaa (yae (yat rfl rfl rfl (ycn (cs:=[pI p0.Kind,pI p0.Digits,pL eS p0.Except,pI p0.Tolerance,pI p0.Limit,pS p0.Name,pL Zc.enc p0.Args]) rfl rfl (fun b1=>yan [] [4] [] fo0 (by kernel_rfl) (yab (yaa (yac [] [] [(5,pI 1)] fo0 (by kernel_rfl) (yab (yaa (yaa (yac [0] [8] [(9,pL Zc.enc p0.Args),(10,pI (p0.Args.length:Int)),(11,pI 0)] fo0 (by kernel_rfl) (yab (yad h fun q6 hq6 h=>?_))))))))))))))
 refine yav (Y:=(Unit)×(Int)) (fun (_,v4)=>[(5,pI v4)]) (fun (_,v4)=>[]) (fun (_,v4)=>q6=Sum.inl v4) ?_ ?_
 ·refine yak ?_
  refine yay (Y:=Unit) (S:=Int×Int) _ hq6 (fun _ (v2,v3)=>[(1,pI p1),(5,pI v2),(9,pL Zc.enc p0.Args),(10,pI (p0.Args.length:Int)),(11,pI v3)]) (fun _ (v2,v3)=>[]) () (zh5 rfl rfl rfl rfl rfl) zsn ?_
  rintro _ ⟨v2,v3⟩ o τ hb5;(try dsimp only at hb5);dsimp only [pupds]
  refine yaa (yac [] [] [(12,pB (decide (v3<(p0.Args.length:Int))))] fo0 (by kernel_rfl) (yab (yaa (zif rfl hb5 (fun hc7 hb5=>?_) fun hc7 hb5=>?_))))
  ·refine yag ?_
   refine yab (yaa (yak (yaa (yad hb5 fun m8 hm8 hb5=>yae (yaj 2 [] [13] [(14,.agg [pI m8.Kind,pI m8.Digits,pL eS m8.Except,pI m8.Tolerance,pI m8.Limit,pS m8.Name,pL Zc.enc m8.Args])] (xhp 0 Zc.enc (Zc.enc_eq _) hm8 fo0) (by kernel_rfl) (yat rfl rfl rfl (ybg (cs:=[pI 0,pI 0,pN,pI 0,pI 0,pS ByteArray.empty,pN]) rfl rfl rfl rfl (fun b9=>ybq rfl rfl (yaq (vs:=[pI m8.Kind,pI m8.Digits,pL eS m8.Except,pI m8.Tolerance,pI m8.Limit,pS m8.Name,pL Zc.enc m8.Args]) rfl rfl rfl rfl rfl zuh (zl7) (yau (yab (yaa (yaa (yac [] [15,16] [(17,pB (decide (p1≤v2)))] fo0 (by kernel_rfl) (yab (zif rfl hb5 (fun hc10 hb5=>?_) fun hc10 hb5=>?_))))))))))))))))
   ·refine yaa ?_
    refine yac [] [18] [(4,pI p1)] fo0 (by kernel_rfl) (yab (yai (yah (yaf (yah ?_)))))
    refine yba hb5 (fun ht=>?_);subst ht
    refine yaf (ybb ?_)
    obtain rfl:=osi h
    exact zq rfl ⟨rfl,rfl⟩
   refine yag ?_
   refine yab (yad hb5 fun x11 hx11 hb5=>yac [0] (rg 19 7) [(5,pI (IntKind.i64.wrap (v2+x11)))] (yfg 5 (hrec hx11) fo0) (by kernel_rfl) (yal (yab (yac [] [26] [(11,pI (IntKind.i64.wrap (v3+1)))] fo0 (by kernel_rfl) ?_))))
   exact ybu hb5 () (zh5 rfl rfl rfl rfl rfl) zsn
  refine ybd ?_
  refine yap (yam hb5 (fun ht=>yao rfl ?_))
  exact yaz ((),v2) (zh1 rfl) zsn ht.symm
 rintro ⟨_,v4⟩ τ hz;(try dsimp only at hz);subst q6;(try dsimp only at h);dsimp only [pupds]
 refine yaa (yac [] [27] [(4,pI v4)] fo0 (by kernel_rfl) (yab (yai ?_)))
 obtain rfl:=osi h
 exact zq rfl ⟨rfl,rfl⟩
def yme (n:Nat):Zc→Int→Option Int:=Nat.rec (motive:=fun _=>Zc→Int→Option Int) (fun _ _=>none) (fun _ ih=>yjw ih) n
def ysr (p0:Zc) (p1:Int):Option Int:=yme FUEL p0 p1
theorem yxa (n:Nat):∀ {p0:Zc} {p1:Int} {r:Int},yme n p0 p1=some r→PF 123 [.agg [pI p0.Kind,pI p0.Digits,pL eS p0.Except,pI p0.Tolerance,pI p0.Limit,pS p0.Name,pL Zc.enc p0.Args],pI p1] (pI r):=by
 induction n with
 | zero=>intros;rename_i h;exact nomatch h
 | succ n ih=>intros;rename_i h;exact yvi (fun hr=>ih hr) h
theorem yzp {p0:Zc} {p1:Int} {r:Int} (h:ysr p0 p1=some r):PF 123 [.agg [pI p0.Kind,pI p0.Digits,pL eS p0.Except,pI p0.Tolerance,pI p0.Limit,pS p0.Name,pL Zc.enc p0.Args],pI p1] (pI r):=yxa FUEL h
def yna (p0:Zc):Option Bool:=cond ((!(p0.Kind == 2))&&(((p0.Digits != 0)||(decide (0<(p0.Except.length:Int))))||(p0.Tolerance != 0))) (some false) (cond ((p0.Kind != 3)&&(p0.Limit != 0)) (some false) (cond ((p0.Kind != 4)&&(!decide (p0.Name=(⟨#[]⟩:ByteArray)))) (some false) (some (((p0.Kind == 5)||(p0.Kind == 6))||((p0.Args.length:Int) == 0)))))
theorem yzq {p0:Zc} {r:Bool}  (h:yna p0=some r):PF 157 [.agg [pI p0.Kind,pI p0.Digits,pL eS p0.Except,pI p0.Tolerance,pI p0.Limit,pS p0.Name,pL Zc.enc p0.Args]] (pB r):=by
 unfold yna at h
 refine ych ?_
 refine ybc Tryz.func157 fk157 rfl Tryz.ntmps157 Tryz.results157 rfl (yaa (yae (yat rfl rfl rfl (ycn (cs:=[pI p0.Kind,pI p0.Digits,pL eS p0.Except,pI p0.Tolerance,pI p0.Limit,pS p0.Name,pL Zc.enc p0.Args]) rfl rfl (fun b1=>yan [] [2] [] fo0 (by kernel_rfl) (yab (yaa (yac [0] [5,6,7] [(3,pB (p0.Kind == 2))] fo0 (by kernel_rfl) (yab (yaa (yac [0,0] (rg 8 8) [(4,pB ((p0.Kind == 5)||(p0.Kind == 6)))] fo0 (by kernel_rfl) (yab (yaa (yak (yaa (yac [0,0,0] (rg 17 18) [(16,pB ((!(p0.Kind == 2))&&(((p0.Digits != 0)||(decide (0<(p0.Except.length:Int))))||(p0.Tolerance != 0))))] fo0 (by kernel_rfl) (yab (zif rfl h (fun hc2 h=>?_) fun hc2 h=>?_))))))))))))))))))
 ·refine yaa ?_
  refine yac [] [] [(2,pB false)] fo0 (by kernel_rfl) (yab (yai (yaf (yah ?_))))
  obtain rfl:=osi h
  exact zq rfl ⟨rfl,rfl⟩
 refine yaa ?_
 refine yac [0,0] (rg 36 8) [(35,pB ((p0.Kind != 3)&&(p0.Limit != 0)))] fo0 (by kernel_rfl) (yab (zif rfl h (fun hc3 h=>?_) fun hc3 h=>?_))
 ·refine yaa ?_
  refine yac [] [] [(2,pB false)] fo0 (by kernel_rfl) (yab (yai (yaf (yah ?_))))
  obtain rfl:=osi h
  exact zq rfl ⟨rfl,rfl⟩
 refine yaa ?_
 refine yac [0,0] (rg 45 8) [(44,pB ((p0.Kind != 4)&&(!decide (p0.Name=(⟨#[]⟩:ByteArray)))))] fo0 (by kernel_rfl) (yab (zif rfl h (fun hc4 h=>?_) fun hc4 h=>?_))
 ·refine yaa ?_
  refine yac [] [] [(2,pB false)] fo0 (by kernel_rfl) (yab (yai (yaf (yah ?_))))
  obtain rfl:=osi h
  exact zq rfl ⟨rfl,rfl⟩
 refine yag ?_
 refine yal (yab (yaa (yac [0] (rg 53 7) [(2,pB (((p0.Kind == 5)||(p0.Kind == 6))||((p0.Args.length:Int) == 0)))] fo0 (by kernel_rfl) (yab (yai ?_)))))
 obtain rfl:=osi h
 exact zq rfl ⟨rfl,rfl⟩
def yit (p0:Int):Option Bool:=some ((decide (0≤p0))&&(decide (p0≤1000000)))
theorem ymf {p0:Int} {r:Bool}  (h:yit p0=some r):PF 159 [pI p0] (pB r):=by
 unfold yit at h
 refine ych ?_
 refine ybc Tryz.func159 fk159 rfl Tryz.ntmps159 Tryz.results159 rfl (yaa (yac [] [2] [] fo0 (by kernel_rfl) (yab (yaa (yac [] (rg 3 6) [(2,pB ((decide (0≤p0))&&(decide (p0≤1000000))))] fo0 (by kernel_rfl) (yab (yai ?_)))))))
 obtain rfl:=osi h
 exact zq rfl ⟨rfl,rfl⟩
def yfm (p0:ByteArray) (p1:ByteArray):Option Bool:=Option.bind (gd (decide ((p1.size:Int)≤(p0.size:Int))) (ssub p0 0 (p1.size:Int))) (fun s1=>some ((decide ((p1.size:Int)≤(p0.size:Int)))&&(decide (s1=p1))))
theorem ynb {p0:ByteArray} {p1:ByteArray} {r:Bool}  (h:yfm p0 p1=some r):PF 122 [pS p0,pS p1] (pB r):=by
 unfold yfm at h
 refine ych ?_
 refine ybc Tryz.func122 fk122 rfl Tryz.ntmps122 Tryz.results122 rfl (yaa (yac [] [4] [] fo0 (by kernel_rfl) (yab (yaa (yad h fun s1 hs1 h=>yac [] (rg 5 13) [(4,pB ((decide ((p1.size:Int)≤(p0.size:Int)))&&(decide (s1=p1))))] (fossg 9 (yoq hs1) fo0) (by kernel_rfl) (yab (yai ?_)))))))
 obtain rfl:=osi h
 exact zq rfl ⟨rfl,rfl⟩
def ydf (p0:ByteArray) (p1:ByteArray):Option Bool:=Option.bind (yfm p0 p1) (fun x1=>some x1)
theorem yhr {p0:ByteArray} {p1:ByteArray} {r:Bool}  (h:ydf p0 p1=some r):PF 78 [pS p0,pS p1] (pB r):=by
 unfold ydf at h
 refine ych ?_
 refine ybc Tryz.func78 fk78 rfl Tryz.ntmps78 Tryz.results78 rfl (yaa (yac [] [4] [] fo0 (by kernel_rfl) (yab (yaa (yad h fun x1 hx1 h=>yac [] [5,6,7] [(4,pB x1)] (yfg 2 (ynb hx1) fo0) (by kernel_rfl) (yab (yai ?_)))))))
 obtain rfl:=osi h
 exact zq rfl ⟨rfl,rfl⟩
def yca (p0:(List ByteArray)):Option (List ByteArray):=app 16 ([]:List ByteArray) p0
theorem yel {p0:(List ByteArray)} {r:(List ByteArray)} (h:yca p0=some r):PCall 117 [pL eS p0] [] (fun pv ρ'=>∃ a c,pv=.v (.slice a r.length c)∧ρ'=[PRes.row a r.length c 9 1 (List.map eS r)]):=by
 unfold yca at h
 refine ybc Tryz.func117 fk117 rfl Tryz.ntmps117 Tryz.results117 rfl ?_
 (repeat refine yaa ?_)
 refine yae (ycz rfl rfl rfl (ycc (p:=.v (.slice none 0 0)) rfl (.p rfl)) (yau (yab ?_)))
 (repeat refine yaa ?_)
 refine yae (ycz rfl rfl rfl (yfr (p:=pL eS p0) rfl (.p rfl)) (xbc rfl rfl rfl rfl rfl rfl (fun b hb=>yau (yab ?_))))
 refine yio rfl (fun hc=>?_) (fun hc=>?_)
 ·have e0:p0=[]:=List.map_eq_nil_iff.1 (hb hc)
  subst e0;obtain ⟨rfl,_⟩:=ytu h
  (repeat refine yaa ?_)
  refine yae (ycz rfl rfl rfl (ycc (p:=.v (.slice none 0 0)) rfl (.p rfl)) (yau (yab (ycr 9 1 (yai (yah ?_))))))
  exact ybh (ygn (ybn rfl)) (zs1) ⟨_,_,rfl,rfl⟩
 refine yag ?_
 refine yab ?_
 (repeat refine yaa ?_)
 refine yae (yat rfl rfl rfl (ycg rfl rfl rfl rfl rfl zin rfl rfl rfl rfl (fun b1=>ycz rfl rfl rfl (yfr (p:=pL eS p0) rfl (.p rfl)) ?_)))
 refine yat rfl rfl rfl (ylz (enc:=eS) (xs:=([]:List ByteArray)) rfl rfl rfl rfl rfl (fun _=>rfl) rfl rfl rfl (by exact zph) h (fun a c=>?_))
 refine ycz rfl rfl rfl (ycc (p:=.v (.slice a r.length c)) rfl (.p rfl)) (yau (yab (yai ?_)))
 exact ybh (ygn (ybn rfl)) (zs1) ⟨_,_,rfl,rfl⟩
def ydt (rec:Zc→Option Zc) (p0:Zc):Option Zc:=Option.bind (yca p0.Except) (fun x3=>Option.bind (mk0 96 (p0.Args.length:Int)) (fun u7=>Option.bind (loopF (S:=(List Zc)×Int) (T:=((List Zc))) (fun (l11,v14)=>cond (decide (v14<(p0.Args.length:Int))) (Option.bind (idx p0.Args v14) (fun m23=>Option.bind (rec m23) (fun x25=>Option.bind (app 96 l11 [x25]) (fun l28=>some (.inl (l28,(IntKind.i64.wrap (v14+1)))))))) (some (.inr l11))) FUEL (([]:List Zc),0)) (fun l18=>some (⟨p0.Kind,p0.Digits,x3,p0.Tolerance,p0.Limit,p0.Name,l18⟩:Zc))))
theorem ymn {rec:Zc→Option Zc} (hrec:∀ {p0:Zc} {r:Zc},rec p0=some r→PF 80 [.agg [pI p0.Kind,pI p0.Digits,pL eS p0.Except,pI p0.Tolerance,pI p0.Limit,pS p0.Name,pL Zc.enc p0.Args]] (.agg [pI r.Kind,pI r.Digits,pL eS r.Except,pI r.Tolerance,pI r.Limit,pS r.Name,pL Zc.enc r.Args])) {p0:Zc} {r:Zc} (h:ydt rec p0=some r):PF 80 [.agg [pI p0.Kind,pI p0.Digits,pL eS p0.Except,pI p0.Tolerance,pI p0.Limit,pS p0.Name,pL Zc.enc p0.Args]] (.agg [pI r.Kind,pI r.Digits,pL eS r.Except,pI r.Tolerance,pI r.Limit,pS r.Name,pL Zc.enc r.Args]):=by
 unfold ydt at h
 refine ych ?_
 refine ybc Tryz.func80 fk80 rfl Tryz.ntmps80 Tryz.results80 rfl (yaa (yae (yat rfl rfl rfl (ycn (cs:=[pI p0.Kind,pI p0.Digits,pL eS p0.Except,pI p0.Tolerance,pI p0.Limit,pS p0.Name,pL Zc.enc p0.Args]) rfl rfl (fun b1=>yat rfl rfl rfl (ybg (cs:=[pI 0,pI 0,pN,pI 0,pI 0,pS ByteArray.empty,pN]) rfl rfl rfl rfl (fun b2=>yau (yab (yaa (yad h fun x3 hx3 h=>yae (yaj 2 [1] [6] [(7,pL eS p0.Except)] fo0 (by kernel_rfl) ?_)))))))))))
 refine yat rfl rfl rfl (ybj rfl rfl (ρ1:=[]) (List.Perm.refl _) (yel hx3) ?_);rintro _ _ ⟨a4,c5,rfl,rfl⟩
 refine yaj 1 [] [] [(9,pP b1 2)] fo0 (by kernel_rfl) (ybq rfl rfl (yaq (vs:=[pO a4 x3.length c5]) rfl rfl rfl rfl rfl (zut (zut zuh)) (zlt (zlt (zl1))) (yau (yab (yaa (yad h fun u7 hu7 h=>yae (yaj 3 [2] [10,11] [(12,pI (p0.Args.length:Int))] fo0 (by kernel_rfl) (yat rfl rfl rfl (pl_make0 rfl rfl rfl rfl rfl rfl rfl hu7 (fun b8=>yan [] [] [(3,pO (some ⟨b8,0,none⟩) 0 ((p0.Args.length:Int).toNat))] fo0 (by kernel_rfl) (yab (yaa (yaa (yac [3] [14] [(15,pL Zc.enc p0.Args),(16,pI (p0.Args.length:Int)),(17,pI 0)] fo0 (by kernel_rfl) (yab (yad h fun q21 hq21 h=>?_))))))))))))))))
 refine yav (Y:=(Option Addr×Nat)×((List Zc))) (fun ((a16,c17),l18)=>[(1,pP b1 0),(2,pP b2 0),(3,pO a16 l18.length c17)]) (fun ((a16,c17),l18)=>[PRes.b b1 68 [pI p0.Kind,pI p0.Digits,pO a4 x3.length c5,pI p0.Tolerance,pI p0.Limit,pS p0.Name,pL Zc.enc p0.Args],PRes.b b2 68 [pI 0,pI 0,pN,pI 0,pI 0,pS ByteArray.empty,pN],PRes.row a16 l18.length c17 68 7 (List.map Zc.enc l18),PRes.row a4 x3.length c5 9 1 (List.map eS x3)]) (fun ((a16,c17),l18)=>q21=l18) ?_ ?_
 ·refine yak ?_
  refine yay (Y:=Option Addr×Nat) (S:=(List Zc)×Int) _ hq21 (fun (a12,c13) (l11,v14)=>[(1,pP b1 0),(2,pP b2 0),(3,pO a12 l11.length c13),(15,pL Zc.enc p0.Args),(16,pI (p0.Args.length:Int)),(17,pI v14)]) (fun (a12,c13) (l11,v14)=>[PRes.b b1 68 [pI p0.Kind,pI p0.Digits,pO a4 x3.length c5,pI p0.Tolerance,pI p0.Limit,pS p0.Name,pL Zc.enc p0.Args],PRes.b b2 68 [pI 0,pI 0,pN,pI 0,pI 0,pS ByteArray.empty,pN],PRes.row a12 l11.length c13 68 7 (List.map Zc.enc l11),PRes.row a4 x3.length c5 9 1 (List.map eS x3)]) ((some ⟨b8,0,none⟩),(p0.Args.length:Int).toNat) (zh6 rfl rfl rfl rfl rfl rfl) (zsc (zpt (zpt (zpt zph))) (zsc (zpt (zpt zph)) (zs2))) ?_
  rintro ⟨a12,c13⟩ ⟨l11,v14⟩ o τ hb20;(try dsimp only at hb20);dsimp only [pupds]
  refine yaa (yac [] [] [(18,pB (decide (v14<(p0.Args.length:Int))))] fo0 (by kernel_rfl) (yab (yaa (zif rfl hb20 (fun hc22 hb20=>?_) fun hc22 hb20=>?_))))
  ·refine yag ?_
   refine yab (yaa (yak (yaa (yad hb20 fun m23 hm23 hb20=>yae (yaj 2 [] [19] [(20,.agg [pI m23.Kind,pI m23.Digits,pL eS m23.Except,pI m23.Tolerance,pI m23.Limit,pS m23.Name,pL Zc.enc m23.Args])] (xhp 0 Zc.enc (Zc.enc_eq _) hm23 fo0) (by kernel_rfl) (yat rfl rfl rfl (ybg (cs:=[pI 0,pI 0,pN,pI 0,pI 0,pS ByteArray.empty,pN]) rfl rfl rfl rfl (fun b24=>ybq rfl rfl (yaq (vs:=[pI m23.Kind,pI m23.Digits,pL eS m23.Except,pI m23.Tolerance,pI m23.Limit,pS m23.Name,pL Zc.enc m23.Args]) rfl rfl rfl rfl rfl zuh (zl7) (yau (yab (yad hb20 fun x25 hx25 hb20=>yae (yaj 3 [0] [22] [(21,pO a12 l11.length c13),(23,.agg [pI x25.Kind,pI x25.Digits,pL eS x25.Except,pI x25.Tolerance,pI x25.Limit,pS x25.Name,pL Zc.enc x25.Args])] (yfg 2 (hrec hx25) fo0) (by kernel_rfl) ?_)))))))))))))
   refine yat rfl rfl rfl (ycg (css:=List.map Zc.enc [x25]) rfl rfl rfl rfl rfl (by (simp only [List.map_cons,List.map_nil,Zc.enc_eq];(repeat (first | exact zin | apply zic rfl)))) rfl (by (simp only [List.map_cons,List.map_nil,Zc.enc_eq];rfl)) rfl rfl (fun b26=>?_))
   refine yad hb20 fun l28 hl28 hb20=>?_
   refine yat rfl rfl rfl (yci (enc:=Zc.enc) rfl rfl rfl rfl rfl rfl rfl rfl rfl zm0 (by exact zpt (zpt (zpt (zpt zph)))) hl28 (fun a29 c30=>?_))
   refine yan [] [] [(3,pO a29 l28.length c30)] fo0 (by kernel_rfl) (yal (yab (yac [] [26] [(17,pI (IntKind.i64.wrap (v14+1)))] fo0 (by kernel_rfl) ?_)))
   exact ybu hb20 (a29,c30) (zh6 rfl rfl rfl rfl rfl rfl) (zsc (zpt (zpt (zpt zph))) (zsc (zpt (zpt (zpt zph))) (zsc zph (zsc (zpt (zpt zph)) zsn))))
  refine ybd ?_
  refine yap (yam hb20 (fun ht=>yao rfl ?_))
  exact yaz ((a12,c13),l11) (zh3 rfl rfl rfl) (zs4) ht.symm
 rintro ⟨⟨a16,c17⟩,l18⟩ τ hz;(try dsimp only at hz);subst q21;(try dsimp only at h);dsimp only [pupds]
 refine yaa (yae (yaj 2 [] [] [(27,pO a16 l18.length c17),(28,pP b1 6)] fo0 (by kernel_rfl) (ybq rfl rfl (yaq (vs:=[pO a16 l18.length c17]) rfl rfl rfl rfl rfl zuh (zlt (zlt (zlt (zlt (zlt (zlt (zl1))))))) (yau (yab (yaa (yae ?_))))))))
 refine ype (css:=List.map eS x3) (a:=a4) (by exact zpt (zpt (zpt zph))) ?_
 refine yli (k:=2) (enc:=eS) (xs:=x3) (b:=b1) (a:=a4) rfl zm0 (zut zuh) ?_
 refine ype (css:=List.map Zc.enc l18) (a:=a16) (by exact zpt (zpt (zpt zph))) ?_
 refine yli (k:=6) (enc:=Zc.enc) (xs:=l18) (b:=b1) (a:=a16) rfl zm0 (zut (zut zuh)) (yaj 1 [2] [] [(29,.agg [pI p0.Kind,pI p0.Digits,pL eS x3,pI p0.Tolerance,pI p0.Limit,pS p0.Name,pL Zc.enc l18])] fo0 (by kernel_rfl) (ybq rfl rfl (yaq (vs:=[pI p0.Kind,pI p0.Digits,pL eS x3,pI p0.Tolerance,pI p0.Limit,pS p0.Name,pL Zc.enc l18]) rfl rfl rfl rfl rfl (zut (zut (zut zuh))) (zl7) (yau (yab (yai ?_))))))
 obtain rfl:=osi h
 exact ybh (ygn (yjr rfl zm3 rfl)) zsn ⟨rfl,rfl⟩
def yfd (n:Nat):Zc→Option Zc:=Nat.rec (motive:=fun _=>Zc→Option Zc) (fun _=>none) (fun _ ih=>ydt ih) n
def yhs (p0:Zc):Option Zc:=yfd FUEL p0
theorem ync (n:Nat):∀ {p0:Zc} {r:Zc},yfd n p0=some r→PF 80 [.agg [pI p0.Kind,pI p0.Digits,pL eS p0.Except,pI p0.Tolerance,pI p0.Limit,pS p0.Name,pL Zc.enc p0.Args]] (.agg [pI r.Kind,pI r.Digits,pL eS r.Except,pI r.Tolerance,pI r.Limit,pS r.Name,pL Zc.enc r.Args]):=by
 induction n with
 | zero=>intros;rename_i h;exact nomatch h
 | succ n ih=>intros;rename_i h;exact ymn (fun hr=>ih hr) h
theorem yoe {p0:Zc} {r:Zc} (h:yhs p0=some r):PF 80 [.agg [pI p0.Kind,pI p0.Digits,pL eS p0.Except,pI p0.Tolerance,pI p0.Limit,pS p0.Name,pL Zc.enc p0.Args]] (.agg [pI r.Kind,pI r.Digits,pL eS r.Except,pI r.Tolerance,pI r.Limit,pS r.Name,pL Zc.enc r.Args]):=ync FUEL h
def ybs (p0:(List Zd)) (p1:Int) (p2:(Zd→Int→Option Int)):Option (Int×Bool):=Option.bind (loopF (S:=Int×Int) (T:=(Int×Int)) (fun (v1,v2)=>cond (decide (v1<v2)) (lb ((IntKind.i64.wrap (ishr .u64 (IntKind.u64.wrap (IntKind.i64.wrap (v1+v2))) 1))) (fun w8=>Option.bind (idx p0 w8) (fun m9=>Option.bind (p2 m9 p1) (fun x10=>cond (decide (x10<0)) (some (.inl ((IntKind.i64.wrap (w8+1)),v2))) (some (.inl (v1,w8))))))) (some (.inr (p1,v1)))) FUEL (0,(p0.length:Int))) (fun (v3,v4)=>Option.bind (gd (decide (v4<(p0.length:Int))) (idx p0 v4)) (fun m12=>Option.bind (gd (decide (v4<(p0.length:Int))) (p2 m12 v3)) (fun x13=>some (v4,((decide (v4<(p0.length:Int)))&&(x13 == 0))))))
theorem yep {p0:(List Zd)} {p1:Int} {p2:(Zd→Int→Option Int)} {r:(Int×Bool)} {g2:PV} (hg2:∀ {y0:Zd} {y1:Int} {w:Int},p2 y0 y1=some w→PFV g2 [.agg [pI y0.ID,pS y0.Code,pS y0.Country,pI y0.Price,pB y0.Obtained,pL eS y0.Processes,pL Zf.enc y0.Inputs],pI y1] (pI w)) (h:ybs p0 p1 p2=some r):PF 154 [pL Zd.enc p0,pI p1,g2] (.tup [pI r.1,pB r.2]):=by
 unfold ybs at h
 refine ych ?_
 refine ybc Tryz.func154 fk154 rfl Tryz.ntmps154 Tryz.results154 rfl (yaa (yac [] [6,7] [] fo0 (by kernel_rfl) (yab (yaa (yac [] [12,13] [(8,pI (p0.length:Int))] fo0 (by kernel_rfl) (yab (yaa (yac [] [14] [(9,pI 0),(10,pI (p0.length:Int))] fo0 (by kernel_rfl) (yab (yaa (yad h fun q6 hq6 h=>?_)))))))))))
 refine yav (Y:=(Unit)×(Int×Int)) (fun (_,(v3,v4))=>[(0,pL Zd.enc p0),(1,pI v3),(2,g2),(8,pI (p0.length:Int)),(9,pI v4)]) (fun (_,(v3,v4))=>[]) (fun (_,(v3,v4))=>q6=(v3,v4)) ?_ ?_
 ·refine yak ?_
  refine yay (Y:=Unit) (S:=Int×Int) _ hq6 (fun _ (v1,v2)=>[(0,pL Zd.enc p0),(1,pI p1),(2,g2),(8,pI (p0.length:Int)),(9,pI v1),(10,pI v2)]) (fun _ (v1,v2)=>[]) () (zh6 rfl rfl rfl rfl rfl rfl) zsn ?_
  rintro _ ⟨v1,v2⟩ o τ hb5;(try dsimp only at hb5);dsimp only [pupds]
  refine yaa (yaa (yac [] [15,16] [(17,pB (decide (v1<v2)))] fo0 (by kernel_rfl) (yab (zif rfl hb5 (fun hc7 hb5=>?_) fun hc7 hb5=>?_))))
  ·refine yag ?_
   refine yab (yak (yaa ?_))
   refine yhd hb5 ?_;clear hb5;intro w8 hw8 hb5
   refine yae (yaj 6 [] (rg 18 5) [(23,pI (IntKind.i64.wrap (ishr .u64 (IntKind.u64.wrap (IntKind.i64.wrap (v1+v2))) 1)))] fo0 (by kernel_rfl) (ycz rfl rfl rfl (ycc rfl (.p (congrArg (fun z=>PV.v (Value.int .i64 z)) hw8))) (yau (yab (yaa (yad hb5 fun m9 hm9 hb5=>yad hb5 fun x10 hx10 hb5=>yac [] (rg 24 7) [(31,pB (decide (x10<0)))] (ymr 3 Zd.enc hm9 (focv 6 (hg2 hx10) fo0)) (by kernel_rfl) (yab (zif rfl hb5 (fun hc11 hb5=>?_) fun hc11 hb5=>?_))))))))
   ·refine yac [] [32,33] [(9,pI (IntKind.i64.wrap (w8+1)))] fo0 (by kernel_rfl) ?_
    refine yal ?_
    exact ybu hb5 () (zh6 rfl rfl rfl rfl rfl rfl) zsn
   refine yac [] [34] [(10,pI w8)] fo0 (by kernel_rfl) ?_
   refine yal ?_
   exact ybu hb5 () (zh6 rfl rfl rfl rfl rfl rfl) zsn
  refine ybd ?_
  refine yap (yam hb5 (fun ht=>yao rfl ?_))
  exact yaz ((),(p1,v1)) (zh5 rfl rfl rfl rfl rfl) zsn ht.symm
 rintro ⟨_,⟨v3,v4⟩⟩ τ hz;(try dsimp only at hz);subst q6;(try dsimp only at h);dsimp only [pupds]
 refine yaa (yad h fun m12 hm12 h=>yad h fun x13 hx13 h=>yac [] (rg 35 14) [(6,pI v4),(7,pB ((decide (v4<(p0.length:Int)))&&(x13 == 0)))] (yuy 8 Zd.enc (yoq hm12) (focvg 11 (fun hc=>hg2 (yoq hx13 hc)) fo0)) (by kernel_rfl) (yab (yai ?_)))
 obtain rfl:=osi h
 exact ybh (yid (ybn rfl) (ybn rfl)) zsn ⟨rfl,rfl⟩
def yiu (p0:Int):Option Bool:=some (p0 != p0)
theorem yoo {p0:Int} {r:Bool}  (h:yiu p0=some r):PF 153 [pI p0] (pB r):=by
 unfold yiu at h
 refine ych ?_
 refine ybc Tryz.func153 fk153 rfl Tryz.ntmps153 Tryz.results153 rfl (yaa (yac [] [2] [] fo0 (by kernel_rfl) (yab (yaa (yac [] [3,4,5] [(2,pB (p0 != p0))] fo0 (by kernel_rfl) (yab (yai ?_)))))))
 obtain rfl:=osi h
 exact zq rfl ⟨rfl,rfl⟩
def yez (p0:Int) (p1:Int):Option Int:=Option.bind (yiu p0) (fun x1=>Option.bind (yiu p1) (fun x2=>cond x1 (cond x2 (some (0:Int)) (some (-1))) (cond x2 (some (1:Int)) (cond (decide (p0<p1)) (some (-1)) (cond (decide (p1<p0)) (some (1:Int)) (some (0:Int)))))))
theorem yiv {p0:Int} {p1:Int} {r:Int}  (h:yez p0 p1=some r):PF 115 [pI p0,pI p1] (pI r):=by
 unfold yez at h
 refine ych ?_
 refine ybc Tryz.func115 fk115 rfl Tryz.ntmps115 Tryz.results115 rfl (yaa (yac [] [4] [] fo0 (by kernel_rfl) (yab (yaa (yad h fun x1 hx1 h=>yac [] [7,8] [(5,pB x1)] (yfg 1 (yoo hx1) fo0) (by kernel_rfl) (yab (yaa (yad h fun x2 hx2 h=>yac [] [9,10] [(6,pB x2)] (yfg 1 (yoo hx2) fo0) (by kernel_rfl) (yab (yaa (yaa (yac [] [] [(11,pB x1)] fo0 (by kernel_rfl) (yab (zif rfl h (fun hc3 h=>?_) fun hc3 h=>?_))))))))))))))
 ·refine yaa ?_
  refine yaa (yac [] [] [(12,pB x2)] fo0 (by kernel_rfl) (yab (zif rfl h (fun hc4 h=>?_) fun hc4 h=>?_)))
  ·refine yaa ?_
   refine yac [] [] [(4,pI 0)] fo0 (by kernel_rfl) (yab (yai (yah (yah ?_))))
   obtain rfl:=osi h
   exact zq rfl ⟨rfl,rfl⟩
  refine yag ?_
  refine yab (yaa (yac [] [] [(4,pI (-1))] fo0 (by kernel_rfl) (yab (yai (yah ?_)))))
  obtain rfl:=osi h
  exact zq rfl ⟨rfl,rfl⟩
 refine yag ?_
 refine yab (yaa (yaa (yac [] [] [(13,pB x2)] fo0 (by kernel_rfl) (yab (zif rfl h (fun hc5 h=>?_) fun hc5 h=>?_)))))
 ·refine yaa ?_
  refine yac [] [] [(4,pI 1)] fo0 (by kernel_rfl) (yab (yai (yah ?_)))
  obtain rfl:=osi h
  exact zq rfl ⟨rfl,rfl⟩
 refine yag ?_
 refine yab (yaa (yaa (yac [] [14,15] [(16,pB (decide (p0<p1)))] fo0 (by kernel_rfl) (yab (zif rfl h (fun hc6 h=>?_) fun hc6 h=>?_)))))
 ·refine yaa ?_
  refine yac [] [] [(4,pI (-1))] fo0 (by kernel_rfl) (yab (yai (yah ?_)))
  obtain rfl:=osi h
  exact zq rfl ⟨rfl,rfl⟩
 refine yag ?_
 refine yab (yaa (yaa (yac [] [17,18] [(19,pB (decide (p1<p0)))] fo0 (by kernel_rfl) (yab (zif rfl h (fun hc7 h=>?_) fun hc7 h=>?_)))))
 ·refine yaa ?_
  refine yac [] [] [(4,pI 1)] fo0 (by kernel_rfl) (yab (yai (yah ?_)))
  obtain rfl:=osi h
  exact zq rfl ⟨rfl,rfl⟩
 refine yag ?_
 refine yab (yaa (yac [] [] [(4,pI 0)] fo0 (by kernel_rfl) (yab (yai ?_))))
 obtain rfl:=osi h
 exact zq rfl ⟨rfl,rfl⟩
def ydx (p0:Zd) (p1:Int):Option Int:=Option.bind (yez p0.ID p1) (fun x2=>some x2)
theorem yor {p0:Zd} {p1:Int} {r:Int}  (h:ydx p0 p1=some r):PF 155 [.agg [pI p0.ID,pS p0.Code,pS p0.Country,pI p0.Price,pB p0.Obtained,pL eS p0.Processes,pL Zf.enc p0.Inputs],pI p1] (pI r):=by
 unfold ydx at h
 refine ych ?_
 refine ybc Tryz.func155 fk155 rfl Tryz.ntmps155 Tryz.results155 rfl (yaa (yae (yat rfl rfl rfl (ycn (cs:=[pI p0.ID,pS p0.Code,pS p0.Country,pI p0.Price,pB p0.Obtained,pL eS p0.Processes,pL Zf.enc p0.Inputs]) rfl rfl (fun b1=>yan [] [4] [] fo0 (by kernel_rfl) (yab (yaa (yad h fun x2 hx2 h=>yac [0] [5,6,7,8] [(4,pI x2)] (yfg 3 (yiv hx2) fo0) (by kernel_rfl) (yab (yai ?_))))))))))
 obtain rfl:=osi h
 exact zq rfl ⟨rfl,rfl⟩
def yge (p0:(List Zd)) (p1:Int):Option (Int×Bool):=Option.bind (ybs p0 p1 (fun y1 y2=>ydx y1 y2)) (fun x3=>some (x3.1,x3.2))
theorem yqo {p0:(List Zd)} {p1:Int} {r:(Int×Bool)}  (h:yge p0 p1=some r):PF 116 [pL Zd.enc p0,pI p1] (.tup [pI r.1,pB r.2]):=by
 unfold yge at h
 refine ych ?_
 refine ybc Tryz.func116 fk116 rfl Tryz.ntmps116 Tryz.results116 rfl (yaa (yac [] [4,5] [] fo0 (by kernel_rfl) (yab (yaa (yad h fun x3 hx3 h=>yac [] (rg 6 5) [(4,pI x3.1),(5,pB x3.2)] (yfg 2 (yep (fun hr=>yur (yor hr)) hx3) fo0) (by kernel_rfl) (yab (yai ?_)))))))
 obtain rfl:=osi h
 exact ybh (yid (ybn rfl) (ybn rfl)) zsn ⟨rfl,rfl⟩
def ycb (p0:(List Zf)):Option (List Zf):=app 16 ([]:List Zf) p0
theorem ygf {p0:(List Zf)} {r:(List Zf)} (h:ycb p0=some r):PCall 118 [pL Zf.enc p0] [] (fun pv ρ'=>∃ a c,pv=.v (.slice a r.length c)∧ρ'=[PRes.row a r.length c 90 2 (List.map Zf.enc r)]):=by
 unfold ycb at h
 refine ybc Tryz.func118 fk118 rfl Tryz.ntmps118 Tryz.results118 rfl ?_
 (repeat refine yaa ?_)
 refine yae (ycz rfl rfl rfl (ycc (p:=.v (.slice none 0 0)) rfl (.p rfl)) (yau (yab ?_)))
 (repeat refine yaa ?_)
 refine yae (ycz rfl rfl rfl (yfr (p:=pL Zf.enc p0) rfl (.p rfl)) (xbc rfl rfl rfl rfl rfl rfl (fun b hb=>yau (yab ?_))))
 refine yio rfl (fun hc=>?_) (fun hc=>?_)
 ·have e0:p0=[]:=List.map_eq_nil_iff.1 (hb hc)
  subst e0;obtain ⟨rfl,_⟩:=ytu h
  (repeat refine yaa ?_)
  refine yae (ycz rfl rfl rfl (ycc (p:=.v (.slice none 0 0)) rfl (.p rfl)) (yau (yab (ycr 90 2 (yai (yah ?_))))))
  exact ybh (ygn (ybn rfl)) (zs1) ⟨_,_,rfl,rfl⟩
 refine yag ?_
 refine yab ?_
 (repeat refine yaa ?_)
 refine yae (yat rfl rfl rfl (ycg rfl rfl rfl rfl rfl zin rfl rfl rfl rfl (fun b1=>ycz rfl rfl rfl (yfr (p:=pL Zf.enc p0) rfl (.p rfl)) ?_)))
 refine yat rfl rfl rfl (ylz (enc:=Zf.enc) (xs:=([]:List Zf)) rfl rfl rfl rfl rfl (fun _=>rfl) rfl rfl rfl (by exact zph) h (fun a c=>?_))
 refine ycz rfl rfl rfl (ycc (p:=.v (.slice a r.length c)) rfl (.p rfl)) (yau (yab (yai ?_)))
 exact ybh (ygn (ybn rfl)) (zs1) ⟨_,_,rfl,rfl⟩
def ydb (p0:(List Zd)) (p1:Int):Option (Zd×Bool):=Option.bind (yge p0 p1) (fun x2=>cond (!x2.2) (some ((⟨0,ByteArray.empty,ByteArray.empty,0,false,[],[]⟩:Zd),false)) (Option.bind (idx p0 x2.1) (fun m4=>Option.bind (yca m4.Processes) (fun x6=>Option.bind (ycb m4.Inputs) (fun x10=>some ((⟨m4.ID,m4.Code,m4.Country,m4.Price,m4.Obtained,x6,x10⟩:Zd),true))))))
theorem yha {p0:(List Zd)} {p1:Int} {r:(Zd×Bool)}  (h:ydb p0 p1=some r):PF 75 [pL Zd.enc p0,pI p1] (.tup [.agg [pI r.1.ID,pS r.1.Code,pS r.1.Country,pI r.1.Price,pB r.1.Obtained,pL eS r.1.Processes,pL Zf.enc r.1.Inputs],pB r.2]):=by
 unfold ydb at h
 refine ych ?_
 refine ybc Tryz.func75 fk75 rfl Tryz.ntmps75 Tryz.results75 rfl (yaa (yae (yat rfl rfl rfl (ybg (cs:=[pI 0,pS ByteArray.empty,pS ByteArray.empty,pI 0,pB false,pN,pN]) rfl rfl rfl rfl (fun b1=>yan [] [5] [] fo0 (by kernel_rfl) (yab (yaa (yad h fun x2 hx2 h=>yac [] [10,11,12,9,13,14] [(6,pI x2.1),(7,pB x2.2)] (yfg 2 (yqo hx2) fo0) (by kernel_rfl) (yab (yaa (yaa (yac [] [15] [(16,pB (!x2.2))] fo0 (by kernel_rfl) (yab (zif rfl h (fun hc3 h=>?_) fun hc3 h=>?_))))))))))))))
 ·refine yaa ?_
  refine yae (yaj 1 [] [] [(17,.agg [pI 0,pS ByteArray.empty,pS ByteArray.empty,pI 0,pB false,pN,pN])] fo0 (by kernel_rfl) (ybq rfl rfl (yaq (vs:=[pI 0,pS ByteArray.empty,pS ByteArray.empty,pI 0,pB false,pN,pN]) rfl rfl rfl rfl rfl zuh (zl7) (yan [] [] [(5,pB false)] fo0 (by kernel_rfl) (yab (ygr (k:=5) (b:=b1) rfl zuh (ygr (k:=6) (b:=b1) rfl zuh (yai (yah ?_)))))))))
  obtain rfl:=osi h
  exact ybh (yid (yjr rfl zm0 rfl) (ybn rfl)) zsn ⟨rfl,rfl⟩
 refine yag ?_
 refine yab (yaa (yad h fun m4 hm4 h=>yae (yaj 4 [] [18,19,20] [(21,.agg [pI m4.ID,pS m4.Code,pS m4.Country,pI m4.Price,pB m4.Obtained,pL eS m4.Processes,pL Zf.enc m4.Inputs])] (ymr 2 Zd.enc hm4 fo0) (by kernel_rfl) (yat rfl rfl rfl (ybg (cs:=[pI 0,pS ByteArray.empty,pS ByteArray.empty,pI 0,pB false,pN,pN]) rfl rfl rfl rfl (fun b5=>ybq rfl rfl (yaq (vs:=[pI m4.ID,pS m4.Code,pS m4.Country,pI m4.Price,pB m4.Obtained,pL eS m4.Processes,pL Zf.enc m4.Inputs]) rfl rfl rfl rfl rfl zuh (zl7) (yau (yab (yaa (yad h fun x6 hx6 h=>yae (yaj 2 [0] [22] [(23,pL eS m4.Processes)] fo0 (by kernel_rfl) ?_))))))))))))
 refine yat rfl rfl rfl (ybj rfl rfl (ρ1:=[]) (List.Perm.refl _) (yel hx6) ?_);rintro _ _ ⟨a7,c8,rfl,rfl⟩
 refine yaj 1 [] [] [(25,pP b5 5)] fo0 (by kernel_rfl) (ybq rfl rfl (yaq (vs:=[pO a7 x6.length c8]) rfl rfl rfl rfl rfl (zut zuh) (zlt (zlt (zlt (zlt (zlt (zl1)))))) (yau (yab (yaa (yad h fun x10 hx10 h=>yae (yaj 2 [1] [26] [(27,pL Zf.enc m4.Inputs)] fo0 (by kernel_rfl) ?_)))))))
 refine yat rfl rfl rfl (ybj rfl rfl (ρ1:=[]) (List.Perm.refl _) (ygf hx10) ?_);rintro _ _ ⟨a11,c12,rfl,rfl⟩
 refine yaj 1 [] [] [(29,pP b5 6)] fo0 (by kernel_rfl) (ybq rfl rfl (yaq (vs:=[pO a11 x10.length c12]) rfl rfl rfl rfl rfl (zut (zut zuh)) (zlt (zlt (zlt (zlt (zlt (zlt (zl1))))))) (yau (yab (yaa (yae ?_))))))
 refine ype (css:=List.map eS x6) (a:=a7) (by exact zpt zph) ?_
 refine yli (k:=5) (enc:=eS) (xs:=x6) (b:=b5) (a:=a7) rfl zm0 (zut (zut zuh)) ?_
 refine ype (css:=List.map Zf.enc x10) (a:=a11) (by exact zpt zph) ?_
 refine yli (k:=6) (enc:=Zf.enc) (xs:=x10) (b:=b5) (a:=a11) rfl zm0 (zut (zut zuh)) (yaj 1 [2] [] [(30,.agg [pI m4.ID,pS m4.Code,pS m4.Country,pI m4.Price,pB m4.Obtained,pL eS x6,pL Zf.enc x10])] fo0 (by kernel_rfl) (ybq rfl rfl (yaq (vs:=[pI m4.ID,pS m4.Code,pS m4.Country,pI m4.Price,pB m4.Obtained,pL eS x6,pL Zf.enc x10]) rfl rfl rfl rfl rfl (zut (zut (zut zuh))) (zl7) (yan [] [] [(5,pB true)] fo0 (by kernel_rfl) (yab (yai ?_))))))
 obtain rfl:=osi h
 exact ybh (yid (yjr rfl zm3 rfl) (ybn rfl)) zsn ⟨rfl,rfl⟩
def ybp (p0:(List Zb)) (p1:(Zb→Option Bool)):Option Int:=Option.bind (loopF (S:=Int) (T:=(Unit)⊕(_)) (fun v1=>cond (decide (v1<(p0.length:Int))) (Option.bind (idx p0 v1) (fun m5=>Option.bind (p1 m5) (fun x6=>cond x6 (some (.inr (.inr v1))) (some (.inl (IntKind.i64.wrap (v1+1))))))) (some (.inr (.inl ())))) FUEL 0) (fun q=>match q with | .inl _=>some (-1) | .inr e=>some e)
theorem yfu {p0:(List Zb)} {p1:(Zb→Option Bool)} {r:Int} {g1:PV} (hg1:∀ {y0:Zb} {w:Bool},p1 y0=some w→PFV g1 [.agg [pI y0.ID,pI y0.Kind,pL eS y0.Parties,pL Zi.enc y0.Rules]] (pB w)) (h:ybp p0 p1=some r):PF 119 [pL Zb.enc p0,g1] (pI r):=by
 unfold ybp at h
 refine ych ?_
 refine ybc Tryz.func119 fk119 rfl Tryz.ntmps119 Tryz.results119 rfl (yaa (yac [] [4] [] fo0 (by kernel_rfl) (yab (yaa (yaa (yac [] [6] [(7,pI (p0.length:Int)),(8,pI 0)] fo0 (by kernel_rfl) (yab (yad h fun q3 hq3 h=>?_))))))))
 refine yav (Y:=(Unit)×(Unit)) (fun (_,_)=>[]) (fun (_,_)=>[]) (fun (_,_)=>q3=Sum.inl ()) ?_ ?_
 ·refine yak ?_
  refine yay (Y:=Unit) (S:=Int) _ hq3 (fun _ v1=>[(0,pL Zb.enc p0),(1,g1),(7,pI (p0.length:Int)),(8,pI v1)]) (fun _ v1=>[]) () (zh4 rfl rfl rfl rfl) zsn ?_
  rintro _ v1 o τ hb2;(try dsimp only at hb2);dsimp only [pupds]
  refine yaa (yac [] [] [(9,pB (decide (v1<(p0.length:Int))))] fo0 (by kernel_rfl) (yab (yaa (zif rfl hb2 (fun hc4 hb2=>?_) fun hc4 hb2=>?_))))
  ·refine yag ?_
   refine yab (yaa (yak (yaa (yac [] [10] [(5,pI v1)] fo0 (by kernel_rfl) (yab (yaa (yad hb2 fun m5 hm5 hb2=>yad hb2 fun x6 hx6 hb2=>yac [] (rg 11 5) [(16,pB x6)] (ymr 3 Zb.enc hm5 (focv 5 (hg1 hx6) fo0)) (by kernel_rfl) (yab (zif rfl hb2 (fun hc7 hb2=>?_) fun hc7 hb2=>?_)))))))))
   ·refine yaa ?_
    refine yac [] [17] [(4,pI v1)] fo0 (by kernel_rfl) (yab (yai (yaf (yah ?_))))
    refine yba hb2 (fun ht=>?_);subst ht
    refine yaf (ybb ?_)
    obtain rfl:=osi h
    exact zq rfl ⟨rfl,rfl⟩
   refine yag ?_
   refine yal (yab (yac [] [18] [(8,pI (IntKind.i64.wrap (v1+1)))] fo0 (by kernel_rfl) ?_))
   exact ybu hb2 () (zh4 rfl rfl rfl rfl) zsn
  refine ybd ?_
  refine yap (yam hb2 (fun ht=>yao rfl ?_))
  exact yaz ((),()) zhn zsn ht.symm
 rintro ⟨_,_⟩ τ hz;(try dsimp only at hz);subst q3;(try dsimp only at h);dsimp only [pupds]
 refine yaa (yac [] [] [(4,pI (-1))] fo0 (by kernel_rfl) (yab (yai ?_)))
 obtain rfl:=osi h
 exact zq rfl ⟨rfl,rfl⟩
def ygg (p0:Zb) (p1:Int):Option Bool:=some (p0.ID == p1)
theorem yqp {p0:Zb} {p1:Int} {r:Bool}  (h:ygg p0 p1=some r):PF 120 [.agg [pI p0.ID,pI p0.Kind,pL eS p0.Parties,pL Zi.enc p0.Rules],.ref [pI p1] 0] (pB r):=by
 unfold ygg at h
 refine ych ?_
 refine ybc Tryz.func120 fk120 rfl Tryz.ntmps120 Tryz.results120 rfl (yaa (yae (yat rfl rfl rfl (ycn (cs:=[pI p0.ID,pI p0.Kind,pL eS p0.Parties,pL Zi.enc p0.Rules]) rfl rfl (fun b1=>yan [] [3] [] fo0 (by kernel_rfl) (yab (yaa (yac [0] [4,5,6,7] [(3,pB (p0.ID == p1))] fo0 (by kernel_rfl) (yab (yai ?_))))))))))
 obtain rfl:=osi h
 exact zq rfl ⟨rfl,rfl⟩
def yeg (p0:(List Zb)) (p1:Int):Option (Zb×Bool):=Option.bind (ybp p0 (fun y3=>ygg y3 p1)) (fun x4=>cond (decide (x4<0)) (some ((⟨0,0,[],[]⟩:Zb),false)) (Option.bind (idx p0 x4) (fun m6=>some (m6,true))))
theorem yiw {p0:(List Zb)} {p1:Int} {r:(Zb×Bool)}  (h:yeg p0 p1=some r):PF 76 [pL Zb.enc p0,pI p1] (.tup [.agg [pI r.1.ID,pI r.1.Kind,pL eS r.1.Parties,pL Zi.enc r.1.Rules],pB r.2]):=by
 unfold yeg at h
 refine ych ?_
 refine ybc Tryz.func76 fk76 rfl Tryz.ntmps76 Tryz.results76 rfl (yaa (yae (yat rfl rfl rfl (ycn (cs:=[pI p1]) rfl rfl (fun b1=>yat rfl rfl rfl (ybg (cs:=[pI 0,pI 0,pN,pN]) rfl rfl rfl rfl (fun b2=>yan [] [5] [] fo0 (by kernel_rfl) (yab (yaa (yae (yaj 1 [] [] [(7,pL Zb.enc p0)] fo0 (by kernel_rfl) ?_)))))))))))
 refine yrf 3 rfl (by exact zpt zph) ?_
 refine yad h fun x4 hx4 h=>yan [] [8,9] [(6,pI x4)] (yfg 1 (yfu (fun hr=>yur (yqp hr)) hx4) fo0) (by kernel_rfl) (yab (yaa (yaa (yac [] [10] [(11,pB (decide (x4<0)))] fo0 (by kernel_rfl) (yab (zif rfl h (fun hc5 h=>?_) fun hc5 h=>?_))))))
 ·refine yaa ?_
  refine yae (yaj 1 [] [] [(12,.agg [pI 0,pI 0,pN,pN])] fo0 (by kernel_rfl) (ybq rfl rfl (yaq (vs:=[pI 0,pI 0,pN,pN]) rfl rfl rfl rfl rfl (zut zuh) (zl4) (yan [] [] [(5,pB false)] fo0 (by kernel_rfl) (yab (ygr (k:=2) (b:=b2) rfl (zut zuh) (ygr (k:=3) (b:=b2) rfl (zut zuh) (yai (yah ?_)))))))))
  obtain rfl:=osi h
  exact ybh (yid (yjr rfl zm1 rfl) (ybn rfl)) zsn ⟨rfl,rfl⟩
 refine yag ?_
 refine yab (yaa (yad h fun m6 hm6 h=>yae (yaj 4 [] [13,14,15] [(16,.agg [pI m6.ID,pI m6.Kind,pL eS m6.Parties,pL Zi.enc m6.Rules])] (ymr 2 Zb.enc hm6 fo0) (by kernel_rfl) (ybq rfl rfl (yaq (vs:=[pI m6.ID,pI m6.Kind,pL eS m6.Parties,pL Zi.enc m6.Rules]) rfl rfl rfl rfl rfl (zut zuh) (zl4) (yan [] [] [(5,pB true)] fo0 (by kernel_rfl) (yab (yai ?_))))))))
 obtain rfl:=osi h
 exact ybh (yid (yjr rfl zm1 rfl) (ybn rfl)) zsn ⟨rfl,rfl⟩
def ycx (p0:(List ByteArray)) (p1:ByteArray):Option Int:=Option.bind (loopF (S:=Int) (T:=(Unit)⊕(_)) (fun v1=>cond (decide (v1<(p0.length:Int))) (Option.bind (idx p0 v1) (fun m5=>cond (decide (p1=m5)) (some (.inr (.inr v1))) (some (.inl (IntKind.i64.wrap (v1+1)))))) (some (.inr (.inl ())))) FUEL 0) (fun q=>match q with | .inl _=>some (-1) | .inr e=>some e)
theorem yki {p0:(List ByteArray)} {p1:ByteArray} {r:Int}  (h:ycx p0 p1=some r):PF 156 [pL eS p0,pS p1] (pI r):=by
 unfold ycx at h
 refine ych ?_
 refine ybc Tryz.func156 fk156 rfl Tryz.ntmps156 Tryz.results156 rfl (yaa (yac [] [4] [] fo0 (by kernel_rfl) (yab (yaa (yaa (yac [] [6] [(7,pI (p0.length:Int)),(8,pI 0)] fo0 (by kernel_rfl) (yab (yad h fun q3 hq3 h=>?_))))))))
 refine yav (Y:=(Unit)×(Unit)) (fun (_,_)=>[]) (fun (_,_)=>[]) (fun (_,_)=>q3=Sum.inl ()) ?_ ?_
 ·refine yak ?_
  refine yay (Y:=Unit) (S:=Int) _ hq3 (fun _ v1=>[(0,pL eS p0),(1,pS p1),(7,pI (p0.length:Int)),(8,pI v1)]) (fun _ v1=>[]) () (zh4 rfl rfl rfl rfl) zsn ?_
  rintro _ v1 o τ hb2;(try dsimp only at hb2);dsimp only [pupds]
  refine yaa (yac [] [] [(9,pB (decide (v1<(p0.length:Int))))] fo0 (by kernel_rfl) (yab (yaa (zif rfl hb2 (fun hc4 hb2=>?_) fun hc4 hb2=>?_))))
  ·refine yag ?_
   refine yab (yaa (yak (yaa (yac [] [10] [(5,pI v1)] fo0 (by kernel_rfl) (yab (yaa (yad hb2 fun m5 hm5 hb2=>yac [] (rg 11 5) [(16,pB (decide (p1=m5)))] (ymr 3 eS hm5 fo0) (by kernel_rfl) (yab (zif rfl hb2 (fun hc6 hb2=>?_) fun hc6 hb2=>?_)))))))))
   ·refine yaa ?_
    refine yac [] [17] [(4,pI v1)] fo0 (by kernel_rfl) (yab (yai (yaf (yah ?_))))
    refine yba hb2 (fun ht=>?_);subst ht
    refine yaf (ybb ?_)
    obtain rfl:=osi h
    exact zq rfl ⟨rfl,rfl⟩
   refine yag ?_
   refine yal (yab (yac [] [18] [(8,pI (IntKind.i64.wrap (v1+1)))] fo0 (by kernel_rfl) ?_))
   exact ybu hb2 () (zh4 rfl rfl rfl rfl) zsn
  refine ybd ?_
  refine yap (yam hb2 (fun ht=>yao rfl ?_))
  exact yaz ((),()) zhn zsn ht.symm
 rintro ⟨_,_⟩ τ hz;(try dsimp only at hz);subst q3;(try dsimp only at h);dsimp only [pupds]
 refine yaa (yac [] [] [(4,pI (-1))] fo0 (by kernel_rfl) (yab (yai ?_)))
 obtain rfl:=osi h
 exact zq rfl ⟨rfl,rfl⟩
def ybv (p0:(List ByteArray)) (p1:ByteArray):Option Bool:=Option.bind (ycx p0 p1) (fun x1=>some (decide (0≤x1)))
theorem yct {p0:(List ByteArray)} {p1:ByteArray} {r:Bool}  (h:ybv p0 p1=some r):PF 121 [pL eS p0,pS p1] (pB r):=by
 unfold ybv at h
 refine ych ?_
 refine ybc Tryz.func121 fk121 rfl Tryz.ntmps121 Tryz.results121 rfl (yaa (yac [] [4] [] fo0 (by kernel_rfl) (yab (yaa (yad h fun x1 hx1 h=>yac [] [5,6,7,8] [(4,pB (decide (0≤x1)))] (yfg 2 (yki hx1) fo0) (by kernel_rfl) (yab (yai ?_)))))))
 obtain rfl:=osi h
 exact zq rfl ⟨rfl,rfl⟩
def ydg (p0:Zb) (p1:ByteArray) (p2:ByteArray):Option Bool:=Option.bind (ybv p0.Parties p1) (fun x2=>Option.bind (gd x2 (ybv p0.Parties p2)) (fun x3=>some (x2&&x3)))
theorem yij {p0:Zb} {p1:ByteArray} {p2:ByteArray} {r:Bool}  (h:ydg p0 p1 p2=some r):PF 77 [.agg [pI p0.ID,pI p0.Kind,pL eS p0.Parties,pL Zi.enc p0.Rules],pS p1,pS p2] (pB r):=by
 unfold ydg at h
 refine ych ?_
 refine ybc Tryz.func77 fk77 rfl Tryz.ntmps77 Tryz.results77 rfl (yaa (yae (yat rfl rfl rfl (ycn (cs:=[pI p0.ID,pI p0.Kind,pL eS p0.Parties,pL Zi.enc p0.Rules]) rfl rfl (fun b1=>yan [] [6] [] fo0 (by kernel_rfl) (yab (yaa (yad h fun x2 hx2 h=>yad h fun x3 hx3 h=>yac [0,0] (rg 7 10) [(6,pB (x2&&x3))] (yfg 3 (yct hx2) (ylk 8 (fun hc=>yct (yoq hx3 hc)) fo0)) (by kernel_rfl) (yab (yai ?_))))))))))
 obtain rfl:=osi h
 exact zq rfl ⟨rfl,rfl⟩
def ybo (p0:(List Za)):Option (List Za):=cond (decide (((p0.length:Nat):Int)<2)) (some p0) (Option.bind (loopF (S:=Int) (T:=(Unit)⊕(_)) (fun v2=>cond (decide (v2<((p0.length:Nat):Int))) (Option.bind (idx p0 v2) (fun m7=>Option.bind (idx p0 (IntKind.i64.wrap (v2 - 1))) (fun m8=>cond (Za.eqb m7 m8) (Option.bind (sub p0 v2 (p0.length:Int)) (fun l10=>Option.bind (loopF (S:=(List Za)×Int×Int) (T:=((List Za)×Int)) (fun (l12,v13,v14)=>cond (decide (v14<((p0.length - v2.toNat:Nat):Int))) (Option.bind (Option.bind (ge0 v14) (fun u25=>Option.bind (idx l12 (v2+v14)) (fun m26=>Option.bind (ge0 (IntKind.i64.wrap (v14 - 1))) (fun u27=>Option.bind (idx l12 (v2+(IntKind.i64.wrap (v14 - 1)))) (fun m28=>cond (!(Za.eqb m26 m28)) (Option.bind (ge0 v14) (fun u30=>Option.bind (idx l12 (v2+v14)) (fun m31=>Option.bind (idx l12 v13) (fun m32=>some ((l12.set v13.toNat m31),(IntKind.i64.wrap (v13+1))))))) (some (l12,v13))))))) (fun (l22,v23)=>some (.inl (l22,v23,(IntKind.i64.wrap (v14+1)))))) (some (.inr (l12,v13)))) FUEL (p0,v2,1)) (fun (l16,v17)=>Option.bind (sub l16 v17 (l16.length:Int)) (fun l34=>Option.bind (sub (List.take v17.toNat l16++List.replicate (p0.length - v17.toNat) (⟨(0:Int),(0:Int)⟩:Za)) 0 v17) (fun l35=>some (.inr (.inr l35))))))) (some (.inl (IntKind.i64.wrap (v2+1))))))) (some (.inr (.inl ())))) FUEL 1) (fun q=>match q with | .inl _=>some p0 | .inr e=>some e))
theorem yff {p0:(List Za)} {a_0:Option Addr}  {n_0:Nat}  {c_0:Nat} {r:(List Za)}  (h:ybo p0=some r):PCall 74 [.v (.slice a_0 n_0 c_0)] [PRes.row a_0 n_0 c_0 54 2 (List.map Za.enc p0)] (fun pv ρ'=>∃ a c,pv=.v (.slice a r.length c)∧ρ'=[PRes.row a r.length c 54 2 (List.map Za.enc r)]):=by
 unfold ybo at h
 refine ybc Tryz.func74 fk74 rfl Tryz.ntmps74 Tryz.results74 rfl ?_
 refine ylj (enc:=Za.enc) (xs:=p0) (a:=a_0) zm0 (fun hl ha=>?_);subst hl;clear ha
 refine yaa (yac [] [2] [] fo0 (by kernel_rfl) (yab (yaa (yaa (yac [] [6,7] [(8,pB (decide (((p0.length:Nat):Int)<2)))] fo0 (by kernel_rfl) (yab (zif rfl h (fun hc1 h=>?_) fun hc1 h=>?_)))))))
 ·refine yaa ?_
  refine yac [] [9] [(2,pO a_0 p0.length c_0)] fo0 (by kernel_rfl) (yab (yai (yah ?_)))
  obtain rfl:=osi h
  exact ybh (ygn (ybn rfl)) (zs1) ⟨_,_,rfl,rfl⟩
 refine yag ?_
 refine yab (yaa (yaa (yac [] [] [(3,pI 1)] fo0 (by kernel_rfl) (yab (yad h fun q5 hq5 h=>?_)))))
 refine yav (Y:=(Unit)×(Unit)) (fun (_,_)=>[(0,pO a_0 p0.length c_0)]) (fun (_,_)=>[PRes.row a_0 p0.length c_0 54 2 (List.map Za.enc p0)]) (fun (_,_)=>q5=Sum.inl ()) ?_ ?_
 ·refine yak ?_
  refine yay (Y:=Unit) (S:=Int) _ hq5 (fun _ v2=>[(0,pO a_0 p0.length c_0),(3,pI v2)]) (fun _ v2=>[PRes.row a_0 p0.length c_0 54 2 (List.map Za.enc p0)]) () (zh2 rfl rfl) (zs1) ?_
  rintro _ v2 o τ hb4;(try dsimp only at hb4);dsimp only [pupds]
  refine yaa (yaa (yac [] [10,11,12] [(13,pB (decide (v2<((p0.length:Nat):Int))))] fo0 (by kernel_rfl) (yab (zif rfl hb4 (fun hc6 hb4=>?_) fun hc6 hb4=>?_))))
  ·refine yag ?_
   refine yab (yaa (yak (yaa (yei (ρd:=[]) [(0,0),(1,0),(2,0),(3,0),(4,0),(5,0),(6,0),(7,0),(8,0),(9,0)] _ (List.Perm.refl _) (by kernel_rfl) rfl (yad hb4 fun m7 hm7 hb4=>ycq 2 [] [] [(16,pO a_0 p0.length c_0),(17,pI v2)] fo0 (by kernel_rfl) (yqm rfl rfl rfl (ygb (enc:=Za.enc) (xs:=p0) rfl rfl rfl (.p rfl) zm0 (.p rfl) (fun _=>hm7)) (yqm rfl rfl rfl (ydr (sz:=2) (p:=.agg [pI m7.Product,pI m7.Agreement]) (enc:=Za.enc) (xs:=p0) (a:=a_0) v2 0 m7 rfl (.p rfl) rfl zm0 (fun _=>hm7) rfl) (yad hb4 fun m8 hm8 hb4=>ycq 3 [] [21] [(20,pO a_0 p0.length c_0),(22,pI (IntKind.i64.wrap (v2 - 1)))] fo0 (by kernel_rfl) (yqm rfl rfl rfl (ygb (enc:=Za.enc) (xs:=p0) rfl rfl rfl (.p rfl) zm0 (.p rfl) (fun _=>hm8)) (yqm rfl rfl rfl (ydr (sz:=2) (p:=.agg [pI m8.Product,pI m8.Agreement]) (enc:=Za.enc) (xs:=p0) (a:=a_0) (IntKind.i64.wrap (v2 - 1)) 0 m8 rfl (.p rfl) rfl zm0 (fun _=>hm8) rfl) (ycq 1 [] [] [(25,pB (Za.eqb m7 m8))] (foeq 0 Za.eqok54 fo0) (by kernel_rfl) (ygc (yab (zif rfl hb4 (fun hc9 hb4=>?_) fun hc9 hb4=>?_))))))))))))))
   ·refine yaa ?_
    refine yad hb4 fun l10 hl10 hb4=>yae (yaj 2 [] [] [(26,pO a_0 p0.length c_0),(27,pI v2)] fo0 (by kernel_rfl) (ycz rfl rfl rfl (ymv (enc:=Za.enc) (xs:=p0) rfl rfl rfl rfl rfl zm0 hl10) (yan [] [] [(4,pQ a_0 p0.length c_0 v2.toNat 2)] fo0 (by kernel_rfl) (yab (yaa (yaa (yac [] [] [(5,pI 1)] fo0 (by kernel_rfl) (yab (yad hb4 fun q19 hq19 hb4=>?_)))))))))
    refine yav (Y:=(Unit)×((List Za)×Int)) (fun (_,(l16,v17))=>[(0,pO a_0 p0.length c_0),(3,pI v17)]) (fun (_,(l16,v17))=>[PRes.row a_0 p0.length c_0 54 2 (List.map Za.enc l16)]) (fun (_,(l16,v17))=>q19=(l16,v17)) ?_ ?_
    ·refine yak ?_
     refine yay (Y:=Unit) (S:=(List Za)×Int×Int) _ hq19 (fun _ (l12,v13,v14)=>[(0,pO a_0 p0.length c_0),(3,pI v13),(4,pQ a_0 p0.length c_0 v2.toNat 2),(5,pI v14)]) (fun _ (l12,v13,v14)=>[PRes.row a_0 p0.length c_0 54 2 (List.map Za.enc l12)]) () (zh4 rfl rfl rfl rfl) (zs1) ?_
     rintro _ ⟨l12,v13,v14⟩ o τ hb18;(try dsimp only at hb18);dsimp only [pupds]
     refine yaa (yaa (yac [] [29,30,31] [(32,pB (decide (v14<((p0.length - v2.toNat:Nat):Int))))] fo0 (by kernel_rfl) (yab (zif rfl hb18 (fun hc20 hb18=>?_) fun hc20 hb18=>?_))))
     ·refine yag ?_
      refine yab (yaa (yad hb18 fun q24 hq24 hb18=>?_))
      refine yav (Y:=(Unit)×((List Za)×Int)) (fun (_,(l22,v23))=>[(0,pO a_0 p0.length c_0),(3,pI v23),(4,pQ a_0 p0.length c_0 v2.toNat 2),(5,pI v14)]) (fun (_,(l22,v23))=>[PRes.row a_0 p0.length c_0 54 2 (List.map Za.enc l22)]) (fun (_,(l22,v23))=>q24=(l22,v23)) ?_ ?_
      ·skip
       refine yak (yaa (yei (ρd:=[]) [(0,0),(1,0),(2,0),(3,0),(4,0),(5,0),(6,0),(7,0),(8,0),(9,0)] _ (List.Perm.refl _) (by kernel_rfl) rfl (yad hq24 fun u25 hu25 hq24=>yad hq24 fun m26 hm26 hq24=>ycq 2 [] [] [(35,pQ a_0 p0.length c_0 v2.toNat 2),(36,pI v14)] fo0 (by kernel_rfl) (yqm rfl rfl rfl (yjf (enc:=Za.enc) (xs:=l12) (i:=v2) rfl rfl rfl rfl rfl (yhm hl10).1.1 (yma hu25) zm0 hm26) (yqm rfl rfl rfl (ydr (sz:=2) (p:=.agg [pI m26.Product,pI m26.Agreement]) (enc:=Za.enc) (xs:=l12) (a:=a_0) (v2+v14) 0 m26 rfl (.p rfl) rfl zm0 (fun _=>hm26) rfl) (yad hq24 fun u27 hu27 hq24=>yad hq24 fun m28 hm28 hq24=>ycq 3 [] [40] [(39,pQ a_0 p0.length c_0 v2.toNat 2),(41,pI (IntKind.i64.wrap (v14 - 1)))] fo0 (by kernel_rfl) (yqm rfl rfl rfl (yjf (enc:=Za.enc) (xs:=l12) (i:=v2) rfl rfl rfl rfl rfl (yhm hl10).1.1 (yma hu27) zm0 hm28) (yqm rfl rfl rfl (ydr (sz:=2) (p:=.agg [pI m28.Product,pI m28.Agreement]) (enc:=Za.enc) (xs:=l12) (a:=a_0) (v2+(IntKind.i64.wrap (v14 - 1))) 0 m28 rfl (.p rfl) rfl zm0 (fun _=>hm28) rfl) (ycq 1 [] [] [(44,pB (!(Za.eqb m26 m28)))] (foeq 0 Za.eqok54 fo0) (by kernel_rfl) (ygc (yab (zif rfl hq24 (fun hc29 hq24=>?_) fun hc29 hq24=>?_))))))))))))
       ·refine yaa ?_
        refine yad hq24 fun u30 hu30 hq24=>yad hq24 fun m31 hm31 hq24=>yae (yaj 4 [] [] [(45,pO a_0 p0.length c_0),(46,pI v13),(47,pQ a_0 p0.length c_0 v2.toNat 2),(48,pI v14)] fo0 (by kernel_rfl) (ycz rfl rfl rfl (yjf (enc:=Za.enc) (xs:=l12) (i:=v2) rfl rfl rfl rfl rfl (yhm hl10).1.1 (yma hu30) zm0 hm31) (ycz rfl rfl rfl (ydr (sz:=2) (p:=.agg [pI m31.Product,pI m31.Agreement]) (enc:=Za.enc) (xs:=l12) (a:=a_0) (v2+v14) 0 m31 rfl (.p rfl) rfl zm0 (fun _=>hm31) rfl) (yad hq24 fun m32 hm32 hq24=>ycz rfl rfl rfl (ygb (enc:=Za.enc) (xs:=l12) rfl rfl rfl (.p rfl) zm0 (.p rfl) (fun _=>hm32)) (ybq rfl rfl (yxt (enc:=Za.enc) (xs:=l12) (a:=a_0) v13 0 m32 m31 rfl rfl rfl rfl (fun _=>rfl) rfl rfl hm32 (zl2) zuh (yau (yab (yac [] [52,53] [(3,pI (IntKind.i64.wrap (v13+1)))] fo0 (by kernel_rfl) (yal ?_))))))))))
        obtain rfl:=osi hq24
        exact yaz ((),((l12.set v13.toNat m31),(IntKind.i64.wrap (v13+1)))) (zh4 rfl rfl rfl rfl) (zs1) rfl
       refine yag ?_
       refine yal ?_
       obtain rfl:=osi hq24
       exact yaz ((),(l12,v13)) (zh4 rfl rfl rfl rfl) (zs1) rfl
      rintro ⟨_,⟨l22,v23⟩⟩ τ hz;(try dsimp only at hz);subst q24;(try dsimp only at hb18);dsimp only [pupds]
      refine yac [] [33,34] [(5,pI (IntKind.i64.wrap (v14+1)))] fo0 (by kernel_rfl) ?_
      exact ybu hb18 () (zh4 rfl rfl rfl rfl) (zs1)
     refine ybd ?_
     refine yap (yam hb18 (fun ht=>yao rfl ?_))
     exact yaz ((),(l12,v13)) (zh2 rfl rfl) (zs1) ht.symm
    rintro ⟨_,⟨l16,v17⟩⟩ τ hz;(try dsimp only at hz);subst q19;(try dsimp only at hb4);dsimp only [pupds]
    refine yaa (yad hb4 fun l34 hl34 hb4=>yae (yaj 2 [] [] [(54,pO a_0 p0.length c_0),(55,pI v17)] fo0 (by kernel_rfl) (ycz rfl rfl rfl (ymv (enc:=Za.enc) (xs:=l16) rfl rfl rfl rfl rfl zm0 hl34) (ybq rfl rfl (xbn (enc:=Za.enc) (xs:=l16) (z0:=(⟨(0:Int),(0:Int)⟩:Za)) (i:=v17) rfl rfl rfl rfl hl34 rfl rfl rfl rfl zuh (yau (yab (yaa (yad hb4 fun l35 hl35 hb4=>yae (yaj 2 [] [] [(57,pO a_0 p0.length c_0),(58,pI v17)] fo0 (by kernel_rfl) ?_))))))))))
    refine yat rfl rfl rfl (xbm (enc:=Za.enc) (xs:=(List.take v17.toNat l16++List.replicate (p0.length - v17.toNat) (⟨(0:Int),(0:Int)⟩:Za))) rfl rfl rfl rfl rfl (by exact zph) hl35 ?_)
    refine yan [] [] [(2,pO a_0 l35.length c_0)] fo0 (by kernel_rfl) (yab (yai (yaf (yah ?_))))
    refine yba hb4 (fun ht=>?_);subst ht
    refine yaf (ybb ?_)
    obtain rfl:=osi h
    exact ybh (ygn (ybn rfl)) (zs1) ⟨_,_,rfl,rfl⟩
   refine yag ?_
   refine yal (yab (yac [] [14,15] [(3,pI (IntKind.i64.wrap (v2+1)))] fo0 (by kernel_rfl) ?_))
   exact ybu hb4 () (zh2 rfl rfl) (zs1)
  refine ybd ?_
  refine yap (yam hb4 (fun ht=>yao rfl ?_))
  exact yaz ((),()) (zh1 rfl) (zs1) ht.symm
 rintro ⟨_,_⟩ τ hz;(try dsimp only at hz);subst q5;(try dsimp only at h);dsimp only [pupds]
 refine yaa (yac [] [60] [(2,pO a_0 p0.length c_0)] fo0 (by kernel_rfl) (yab (yai ?_)))
 obtain rfl:=osi h
 exact ybh (ygn (ybn rfl)) (zs1) ⟨_,_,rfl,rfl⟩
def ybe (p0:(List Zi)) (p1:(List Zi)) (p2:(Zi→Zi→Option Bool)):Option Bool:=cond ((p0.length:Int) != (p1.length:Int)) (some false) (Option.bind (loopF (S:=Int) (T:=(Unit)⊕(_)) (fun v2=>cond (decide (v2<(p0.length:Int))) (Option.bind (idx p0 v2) (fun m6=>Option.bind (idx p1 v2) (fun m8=>Option.bind (p2 m6 m8) (fun x10=>cond (!x10) (some (.inr (.inr false))) (some (.inl (IntKind.i64.wrap (v2+1)))))))) (some (.inr (.inl ())))) FUEL 0) (fun q=>match q with | .inl _=>some true | .inr e=>some e))
theorem ydc {p0:(List Zi)} {p1:(List Zi)} {p2:(Zi→Zi→Option Bool)} {r:Bool} {g2:PV} (hg2:∀ {y0:Zi} {y1:Zi} {w:Bool},p2 y0 y1=some w→PFV g2 [.agg [pS y0.Prefix,pI y0.Rule.Kind,pI y0.Rule.Digits,pL eS y0.Rule.Except,pI y0.Rule.Tolerance,pI y0.Rule.Limit,pS y0.Rule.Name,pL Zc.enc y0.Rule.Args],.agg [pS y1.Prefix,pI y1.Rule.Kind,pI y1.Rule.Digits,pL eS y1.Rule.Except,pI y1.Rule.Tolerance,pI y1.Rule.Limit,pS y1.Rule.Name,pL Zc.enc y1.Rule.Args]] (pB w)) (h:ybe p0 p1 p2=some r):PF 160 [pL Zi.enc p0,pL Zi.enc p1,g2] (pB r):=by
 unfold ybe at h
 refine ych ?_
 refine ybc Tryz.func160 fk160 rfl Tryz.ntmps160 Tryz.results160 rfl (yaa (yac [] [6] [] fo0 (by kernel_rfl) (yab (yaa (yaa (yac [] [10,11,12,13] [(14,pB ((p0.length:Int) != (p1.length:Int)))] fo0 (by kernel_rfl) (yab (zif rfl h (fun hc1 h=>?_) fun hc1 h=>?_))))))))
 ·refine yaa ?_
  refine yac [] [] [(6,pB false)] fo0 (by kernel_rfl) (yab (yai (yah ?_)))
  obtain rfl:=osi h
  exact zq rfl ⟨rfl,rfl⟩
 refine yag ?_
 refine yab (yaa (yaa (yac [] [] [(15,pL Zi.enc p0),(16,pI (p0.length:Int)),(17,pI 0)] fo0 (by kernel_rfl) (yab (yad h fun q4 hq4 h=>?_)))))
 refine yav (Y:=(Unit)×(Unit)) (fun (_,_)=>[]) (fun (_,_)=>[]) (fun (_,_)=>q4=Sum.inl ()) ?_ ?_
 ·refine yak ?_
  refine yay (Y:=Unit) (S:=Int) _ hq4 (fun _ v2=>[(1,pL Zi.enc p1),(2,g2),(15,pL Zi.enc p0),(16,pI (p0.length:Int)),(17,pI v2)]) (fun _ v2=>[]) () (zh5 rfl rfl rfl rfl rfl) zsn ?_
  rintro _ v2 o τ hb3;(try dsimp only at hb3);dsimp only [pupds]
  refine yaa (yac [] [] [(18,pB (decide (v2<(p0.length:Int))))] fo0 (by kernel_rfl) (yab (yaa (zif rfl hb3 (fun hc5 hb3=>?_) fun hc5 hb3=>?_))))
  ·refine yag ?_
   refine yab (yaa (yak (yaa (yad hb3 fun m6 hm6 hb3=>yae (yaj 3 [] [20] [(19,pI v2),(21,.agg [pS m6.Prefix,pI m6.Rule.Kind,pI m6.Rule.Digits,pL eS m6.Rule.Except,pI m6.Rule.Tolerance,pI m6.Rule.Limit,pS m6.Rule.Name,pL Zc.enc m6.Rule.Args])] (ymr 1 Zi.enc hm6 fo0) (by kernel_rfl) (yat rfl rfl rfl (ybg (cs:=[pS ByteArray.empty,pI 0,pI 0,pN,pI 0,pI 0,pS ByteArray.empty,pN]) rfl rfl rfl rfl (fun b7=>yaj 1 [] [] [(7,pI v2)] fo0 (by kernel_rfl) (ybq rfl rfl (yaq (vs:=[pS m6.Prefix,pI m6.Rule.Kind,pI m6.Rule.Digits,pL eS m6.Rule.Except,pI m6.Rule.Tolerance,pI m6.Rule.Limit,pS m6.Rule.Name,pL Zc.enc m6.Rule.Args]) rfl rfl rfl rfl rfl zuh (zl8) (yau (yab (yaa (yad hb3 fun m8 hm8 hb3=>yae (yaj 4 [] [22,23,24] [(25,.agg [pS m8.Prefix,pI m8.Rule.Kind,pI m8.Rule.Digits,pL eS m8.Rule.Except,pI m8.Rule.Tolerance,pI m8.Rule.Limit,pS m8.Rule.Name,pL Zc.enc m8.Rule.Args])] (ymr 2 Zi.enc hm8 fo0) (by kernel_rfl) (yat rfl rfl rfl (ybg (cs:=[pS ByteArray.empty,pI 0,pI 0,pN,pI 0,pI 0,pS ByteArray.empty,pN]) rfl rfl rfl rfl (fun b9=>ybq rfl rfl (yaq (vs:=[pS m8.Prefix,pI m8.Rule.Kind,pI m8.Rule.Digits,pL eS m8.Rule.Except,pI m8.Rule.Tolerance,pI m8.Rule.Limit,pS m8.Rule.Name,pL Zc.enc m8.Rule.Args]) rfl rfl rfl rfl rfl zuh (zl8) (yau (yab (yaa (yad hb3 fun x10 hx10 hb3=>yac [1,0] [26,27,28,29] [(30,pB (!x10))] (focv 3 (hg2 hx10) fo0) (by kernel_rfl) (yab (zif rfl hb3 (fun hc11 hb3=>?_) fun hc11 hb3=>?_)))))))))))))))))))))))))
   ·refine yaa ?_
    refine yac [] [] [(6,pB false)] fo0 (by kernel_rfl) (yab (yai (yaf (yah ?_))))
    refine yba hb3 (fun ht=>?_);subst ht
    refine yaf (ybb ?_)
    obtain rfl:=osi h
    exact zq rfl ⟨rfl,rfl⟩
   refine yag ?_
   refine yal (yab (yac [] [31] [(17,pI (IntKind.i64.wrap (v2+1)))] fo0 (by kernel_rfl) ?_))
   exact ybu hb3 () (zh5 rfl rfl rfl rfl rfl) zsn
  refine ybd ?_
  refine yap (yam hb3 (fun ht=>yao rfl ?_))
  exact yaz ((),()) zhn zsn ht.symm
 rintro ⟨_,_⟩ τ hz;(try dsimp only at hz);subst q4;(try dsimp only at h);dsimp only [pupds]
 refine yaa (yac [] [] [(6,pB true)] fo0 (by kernel_rfl) (yab (yai ?_)))
 obtain rfl:=osi h
 exact zq rfl ⟨rfl,rfl⟩
def ydp (p0:(List ByteArray)) (p1:(List ByteArray)):Option Bool:=cond ((p0.length:Int) != (p1.length:Int)) (some false) (Option.bind (loopF (S:=Int) (T:=(Unit)⊕(_)) (fun v2=>cond (decide (v2<(p0.length:Int))) (Option.bind (idx p0 v2) (fun m6=>Option.bind (idx p1 v2) (fun m7=>cond (!decide (m6=m7)) (some (.inr (.inr false))) (some (.inl (IntKind.i64.wrap (v2+1))))))) (some (.inr (.inl ())))) FUEL 0) (fun q=>match q with | .inl _=>some true | .inr e=>some e))
theorem ykj {p0:(List ByteArray)} {p1:(List ByteArray)} {r:Bool}  (h:ydp p0 p1=some r):PF 181 [pL eS p0,pL eS p1] (pB r):=by
 unfold ydp at h
 refine ych ?_
 refine ybc Tryz.func181 fk181 rfl Tryz.ntmps181 Tryz.results181 rfl (yaa (yac [] [4] [] fo0 (by kernel_rfl) (yab (yaa (yaa (yac [] [6,7,8,9] [(10,pB ((p0.length:Int) != (p1.length:Int)))] fo0 (by kernel_rfl) (yab (zif rfl h (fun hc1 h=>?_) fun hc1 h=>?_))))))))
 ·refine yaa ?_
  refine yac [] [] [(4,pB false)] fo0 (by kernel_rfl) (yab (yai (yah ?_)))
  obtain rfl:=osi h
  exact zq rfl ⟨rfl,rfl⟩
 refine yag ?_
 refine yab (yaa (yaa (yac [] [11] [(12,pI (p0.length:Int)),(13,pI 0)] fo0 (by kernel_rfl) (yab (yad h fun q4 hq4 h=>?_)))))
 refine yav (Y:=(Unit)×(Unit)) (fun (_,_)=>[]) (fun (_,_)=>[]) (fun (_,_)=>q4=Sum.inl ()) ?_ ?_
 ·refine yak ?_
  refine yay (Y:=Unit) (S:=Int) _ hq4 (fun _ v2=>[(0,pL eS p0),(1,pL eS p1),(12,pI (p0.length:Int)),(13,pI v2)]) (fun _ v2=>[]) () (zh4 rfl rfl rfl rfl) zsn ?_
  rintro _ v2 o τ hb3;(try dsimp only at hb3);dsimp only [pupds]
  refine yaa (yac [] [] [(14,pB (decide (v2<(p0.length:Int))))] fo0 (by kernel_rfl) (yab (yaa (zif rfl hb3 (fun hc5 hb3=>?_) fun hc5 hb3=>?_))))
  ·refine yag ?_
   refine yab (yaa (yak (yaa (yac [] [15] [(5,pI v2)] fo0 (by kernel_rfl) (yab (yaa (yei (ρd:=[]) [(0,0),(1,0),(2,0),(3,0),(4,0),(5,0),(6,0),(7,0),(8,0)] _ (List.Perm.refl _) (by kernel_rfl) rfl (yad hb3 fun m6 hm6 hb3=>yad hb3 fun m7 hm7 hb3=>ycq 9 [] (rg 16 8) [(24,pB (!decide (m6=m7)))] (ymr 2 eS hm6 (ymr 6 eS hm7 fo0)) (by kernel_rfl) (ygc (yab (zif rfl hb3 (fun hc8 hb3=>?_) fun hc8 hb3=>?_)))))))))))
   ·refine yaa ?_
    refine yac [] [] [(4,pB false)] fo0 (by kernel_rfl) (yab (yai (yaf (yah ?_))))
    refine yba hb3 (fun ht=>?_);subst ht
    refine yaf (ybb ?_)
    obtain rfl:=osi h
    exact zq rfl ⟨rfl,rfl⟩
   refine yag ?_
   refine yal (yab (yac [] [25] [(13,pI (IntKind.i64.wrap (v2+1)))] fo0 (by kernel_rfl) ?_))
   exact ybu hb3 () (zh4 rfl rfl rfl rfl) zsn
  refine ybd ?_
  refine yap (yam hb3 (fun ht=>yao rfl ?_))
  exact yaz ((),()) zhn zsn ht.symm
 rintro ⟨_,_⟩ τ hz;(try dsimp only at hz);subst q4;(try dsimp only at h);dsimp only [pupds]
 refine yaa (yac [] [] [(4,pB true)] fo0 (by kernel_rfl) (yab (yai ?_)))
 obtain rfl:=osi h
 exact zq rfl ⟨rfl,rfl⟩
def ybf (p0:(List Zc)) (p1:(List Zc)) (p2:(Zc→Zc→Option Bool)):Option Bool:=cond ((p0.length:Int) != (p1.length:Int)) (some false) (Option.bind (loopF (S:=Int) (T:=(Unit)⊕(_)) (fun v2=>cond (decide (v2<(p0.length:Int))) (Option.bind (idx p0 v2) (fun m6=>Option.bind (idx p1 v2) (fun m8=>Option.bind (p2 m6 m8) (fun x10=>cond (!x10) (some (.inr (.inr false))) (some (.inl (IntKind.i64.wrap (v2+1)))))))) (some (.inr (.inl ())))) FUEL 0) (fun q=>match q with | .inl _=>some true | .inr e=>some e))
theorem yem {p0:(List Zc)} {p1:(List Zc)} {p2:(Zc→Zc→Option Bool)} {r:Bool} {g2:PV} (hg2:∀ {y0:Zc} {y1:Zc} {w:Bool},p2 y0 y1=some w→PFV g2 [.agg [pI y0.Kind,pI y0.Digits,pL eS y0.Except,pI y0.Tolerance,pI y0.Limit,pS y0.Name,pL Zc.enc y0.Args],.agg [pI y1.Kind,pI y1.Digits,pL eS y1.Except,pI y1.Tolerance,pI y1.Limit,pS y1.Name,pL Zc.enc y1.Args]] (pB w)) (h:ybf p0 p1 p2=some r):PF 182 [pL Zc.enc p0,pL Zc.enc p1,g2] (pB r):=by
 unfold ybf at h
 refine ych ?_
 refine ybc Tryz.func182 fk182 rfl Tryz.ntmps182 Tryz.results182 rfl (yaa (yac [] [6] [] fo0 (by kernel_rfl) (yab (yaa (yaa (yac [] [10,11,12,13] [(14,pB ((p0.length:Int) != (p1.length:Int)))] fo0 (by kernel_rfl) (yab (zif rfl h (fun hc1 h=>?_) fun hc1 h=>?_))))))))
 ·refine yaa ?_
  refine yac [] [] [(6,pB false)] fo0 (by kernel_rfl) (yab (yai (yah ?_)))
  obtain rfl:=osi h
  exact zq rfl ⟨rfl,rfl⟩
 refine yag ?_
 refine yab (yaa (yaa (yac [] [] [(15,pL Zc.enc p0),(16,pI (p0.length:Int)),(17,pI 0)] fo0 (by kernel_rfl) (yab (yad h fun q4 hq4 h=>?_)))))
 refine yav (Y:=(Unit)×(Unit)) (fun (_,_)=>[]) (fun (_,_)=>[]) (fun (_,_)=>q4=Sum.inl ()) ?_ ?_
 ·refine yak ?_
  refine yay (Y:=Unit) (S:=Int) _ hq4 (fun _ v2=>[(1,pL Zc.enc p1),(2,g2),(15,pL Zc.enc p0),(16,pI (p0.length:Int)),(17,pI v2)]) (fun _ v2=>[]) () (zh5 rfl rfl rfl rfl rfl) zsn ?_
  rintro _ v2 o τ hb3;(try dsimp only at hb3);dsimp only [pupds]
  refine yaa (yac [] [] [(18,pB (decide (v2<(p0.length:Int))))] fo0 (by kernel_rfl) (yab (yaa (zif rfl hb3 (fun hc5 hb3=>?_) fun hc5 hb3=>?_))))
  ·refine yag ?_
   refine yab (yaa (yak (yaa (yad hb3 fun m6 hm6 hb3=>yae (yaj 3 [] [20] [(19,pI v2),(21,.agg [pI m6.Kind,pI m6.Digits,pL eS m6.Except,pI m6.Tolerance,pI m6.Limit,pS m6.Name,pL Zc.enc m6.Args])] (xhp 1 Zc.enc (Zc.enc_eq _) hm6 fo0) (by kernel_rfl) (yat rfl rfl rfl (ybg (cs:=[pI 0,pI 0,pN,pI 0,pI 0,pS ByteArray.empty,pN]) rfl rfl rfl rfl (fun b7=>yaj 1 [] [] [(7,pI v2)] fo0 (by kernel_rfl) (ybq rfl rfl (yaq (vs:=[pI m6.Kind,pI m6.Digits,pL eS m6.Except,pI m6.Tolerance,pI m6.Limit,pS m6.Name,pL Zc.enc m6.Args]) rfl rfl rfl rfl rfl zuh (zl7) (yau (yab (yaa (yad hb3 fun m8 hm8 hb3=>yae (yaj 4 [] [22,23,24] [(25,.agg [pI m8.Kind,pI m8.Digits,pL eS m8.Except,pI m8.Tolerance,pI m8.Limit,pS m8.Name,pL Zc.enc m8.Args])] (xhp 2 Zc.enc (Zc.enc_eq _) hm8 fo0) (by kernel_rfl) (yat rfl rfl rfl (ybg (cs:=[pI 0,pI 0,pN,pI 0,pI 0,pS ByteArray.empty,pN]) rfl rfl rfl rfl (fun b9=>ybq rfl rfl (yaq (vs:=[pI m8.Kind,pI m8.Digits,pL eS m8.Except,pI m8.Tolerance,pI m8.Limit,pS m8.Name,pL Zc.enc m8.Args]) rfl rfl rfl rfl rfl zuh (zl7) (yau (yab (yaa (yad hb3 fun x10 hx10 hb3=>yac [1,0] [26,27,28,29] [(30,pB (!x10))] (focv 3 (hg2 hx10) fo0) (by kernel_rfl) (yab (zif rfl hb3 (fun hc11 hb3=>?_) fun hc11 hb3=>?_)))))))))))))))))))))))))
   ·refine yaa ?_
    refine yac [] [] [(6,pB false)] fo0 (by kernel_rfl) (yab (yai (yaf (yah ?_))))
    refine yba hb3 (fun ht=>?_);subst ht
    refine yaf (ybb ?_)
    obtain rfl:=osi h
    exact zq rfl ⟨rfl,rfl⟩
   refine yag ?_
   refine yal (yab (yac [] [31] [(17,pI (IntKind.i64.wrap (v2+1)))] fo0 (by kernel_rfl) ?_))
   exact ybu hb3 () (zh5 rfl rfl rfl rfl rfl) zsn
  refine ybd ?_
  refine yap (yam hb3 (fun ht=>yao rfl ?_))
  exact yaz ((),()) zhn zsn ht.symm
 rintro ⟨_,_⟩ τ hz;(try dsimp only at hz);subst q4;(try dsimp only at h);dsimp only [pupds]
 refine yaa (yac [] [] [(6,pB true)] fo0 (by kernel_rfl) (yab (yai ?_)))
 obtain rfl:=osi h
 exact zq rfl ⟨rfl,rfl⟩
def ydu (rec:Zc→Zc→Option Bool) (p0:Zc) (p1:Zc):Option Bool:=Option.bind (gd (((((p0.Kind == p1.Kind)&&(p0.Digits == p1.Digits))&&(p0.Tolerance == p1.Tolerance))&&(p0.Limit == p1.Limit))&&(decide (p0.Name=p1.Name))) (ydp p0.Except p1.Except)) (fun x3=>Option.bind (gd ((((((p0.Kind == p1.Kind)&&(p0.Digits == p1.Digits))&&(p0.Tolerance == p1.Tolerance))&&(p0.Limit == p1.Limit))&&(decide (p0.Name=p1.Name)))&&x3) (ybf p0.Args p1.Args (fun y4 y5=>rec y4 y5))) (fun x6=>some (((((((p0.Kind == p1.Kind)&&(p0.Digits == p1.Digits))&&(p0.Tolerance == p1.Tolerance))&&(p0.Limit == p1.Limit))&&(decide (p0.Name=p1.Name)))&&x3)&&x6)))
theorem ymo {rec:Zc→Zc→Option Bool} (hrec:∀ {p0:Zc} {p1:Zc} {r:Bool},rec p0 p1=some r→PF 162 [.agg [pI p0.Kind,pI p0.Digits,pL eS p0.Except,pI p0.Tolerance,pI p0.Limit,pS p0.Name,pL Zc.enc p0.Args],.agg [pI p1.Kind,pI p1.Digits,pL eS p1.Except,pI p1.Tolerance,pI p1.Limit,pS p1.Name,pL Zc.enc p1.Args]] (pB r)) {p0:Zc} {p1:Zc} {r:Bool} (h:ydu rec p0 p1=some r):PF 162 [.agg [pI p0.Kind,pI p0.Digits,pL eS p0.Except,pI p0.Tolerance,pI p0.Limit,pS p0.Name,pL Zc.enc p0.Args],.agg [pI p1.Kind,pI p1.Digits,pL eS p1.Except,pI p1.Tolerance,pI p1.Limit,pS p1.Name,pL Zc.enc p1.Args]] (pB r):=by
 unfold ydu at h
 refine ych ?_
 refine ybc Tryz.func162 fk162 rfl Tryz.ntmps162 Tryz.results162 rfl (yaa (yae (yat rfl rfl rfl (ycn (cs:=[pI p0.Kind,pI p0.Digits,pL eS p0.Except,pI p0.Tolerance,pI p0.Limit,pS p0.Name,pL Zc.enc p0.Args]) rfl rfl (fun b1=>yat rfl rfl rfl (ycn (cs:=[pI p1.Kind,pI p1.Digits,pL eS p1.Except,pI p1.Tolerance,pI p1.Limit,pS p1.Name,pL Zc.enc p1.Args]) rfl rfl (fun b2=>yan [] [4] [] fo0 (by kernel_rfl) (yab (yaa (yad h fun x3 hx3 h=>yad h fun x6 hx6 h=>yac [1,0,1,0,1,0,1,0,1,0,1,0,1,0] (rg 5 47) [(4,pB (((((((p0.Kind == p1.Kind)&&(p0.Digits == p1.Digits))&&(p0.Tolerance == p1.Tolerance))&&(p0.Limit == p1.Limit))&&(decide (p0.Name=p1.Name)))&&x3)&&x6))] (ylk 38 (fun hc=>ykj (yoq hx3 hc)) (ylk 45 (fun hc=>yem (fun hr=>yur (hrec hr)) (yoq hx6 hc)) fo0)) (by kernel_rfl) (yab (yai ?_))))))))))))
 obtain rfl:=osi h
 exact zq rfl ⟨rfl,rfl⟩
def ydv (n:Nat):Zc→Zc→Option Bool:=Nat.rec (motive:=fun _=>Zc→Zc→Option Bool) (fun _ _=>none) (fun _ ih=>ydu ih) n
def yht (p0:Zc) (p1:Zc):Option Bool:=ydv FUEL p0 p1
theorem ynd (n:Nat):∀ {p0:Zc} {p1:Zc} {r:Bool},ydv n p0 p1=some r→PF 162 [.agg [pI p0.Kind,pI p0.Digits,pL eS p0.Except,pI p0.Tolerance,pI p0.Limit,pS p0.Name,pL Zc.enc p0.Args],.agg [pI p1.Kind,pI p1.Digits,pL eS p1.Except,pI p1.Tolerance,pI p1.Limit,pS p1.Name,pL Zc.enc p1.Args]] (pB r):=by
 induction n with
 | zero=>intros;rename_i h;exact nomatch h
 | succ n ih=>intros;rename_i h;exact ymo (fun hr=>ih hr) h
theorem yof {p0:Zc} {p1:Zc} {r:Bool} (h:yht p0 p1=some r):PF 162 [.agg [pI p0.Kind,pI p0.Digits,pL eS p0.Except,pI p0.Tolerance,pI p0.Limit,pS p0.Name,pL Zc.enc p0.Args],.agg [pI p1.Kind,pI p1.Digits,pL eS p1.Except,pI p1.Tolerance,pI p1.Limit,pS p1.Name,pL Zc.enc p1.Args]] (pB r):=ynd FUEL h
def yec (p1:Int):Option (List ByteArray):=Option.bind (mk0 16 p1) (fun _=>some [])
theorem ykw {p1:Int} {r:(List ByteArray)} (h:yec p1=some r):PCall 183 [.v (.slice none 0 0),pI p1] [] (fun pv ρ'=>∃ a c,pv=.v (.slice a r.length c)∧ρ'=[PRes.row a r.length c 9 1 (List.map eS r)]):=by
 unfold yec at h
 obtain ⟨u,hu,h⟩:=Option.bind_eq_some_iff.1 h
 obtain rfl:=osi h
 obtain ⟨hg0,hg1⟩:=mk0_le hu
 have ew:IntKind.i64.wrap (p1 - IntKind.i64.wrap (((0:Nat):Int) - ((0:Nat):Int)))=p1:=xbq hg0 hg1
 refine ybc Tryz.func183 fk183 rfl Tryz.ntmps183 Tryz.results183 rfl ?_
 (repeat refine yaa ?_)
 refine yac [] [4] [] fo0 (by kernel_rfl) (yab ?_)
 (repeat refine yaa ?_)
 refine yac [] [5] [(6,pB (decide (p1<0)))] fo0 (by kernel_rfl) (yab ?_)
 refine yio rfl (fun hc=>absurd (of_decide_eq_true hc) (by omega)) (fun hc=>?_)
 refine yag (yab ?_)
 (repeat refine yaa ?_)
 refine yae (yaj 2 [] [] [(8,pI p1),(9,.v (.slice none 0 0))] fo0 (by kernel_rfl) (ycz rfl rfl rfl (yzo rfl rfl (.p rfl)) (yan [] [11,12,13,14] [(1,pI (IntKind.i64.wrap (p1 - IntKind.i64.wrap (((0:Nat):Int) - ((0:Nat):Int)))))] fo0 (by kernel_rfl) ?_)))
 rw [ew]
 refine yab ?_
 (repeat refine yaa ?_)
 refine yac [] [15] [(16,pB (decide (0<p1)))] fo0 (by kernel_rfl) (yab ?_)
 refine yio rfl (fun hc=>?_) (fun hc=>?_)
 ·refine yae ?_
  refine yaj 2 [] [] [(17,.v (.slice none 0 0)),(18,.v (.slice none 0 0))] fo0 (by kernel_rfl) (ycz rfl rfl rfl (yzo rfl rfl (.p rfl)) (ycz rfl rfl rfl (yrx rfl rfl rfl (.p rfl) (.p rfl) rfl (Nat.zero_le _)) (yaj 1 [] [] [(21,pI p1)] fo0 (by kernel_rfl) (yxr 9 1 ?_))))
  refine yat rfl rfl rfl (xge rfl rfl rfl rfl rfl rfl rfl rfl (of_decide_eq_true hc) hu (by exact zph) (fun a c hac=>?_))
  refine yaj 2 [] [] [(23,.v (.slice none 0 0)),(24,pI 0)] fo0 (by kernel_rfl) (ycz rfl rfl rfl (yrx (k:=0) rfl rfl rfl (.p rfl) (.p rfl) rfl (Nat.zero_le _)) (yan [] [] [(0,.v (.slice a 0 c))] fo0 (by kernel_rfl) (yab ?_)))
  (repeat refine yaa ?_)
  refine yac [] [26] [(4,.v (.slice a 0 c))] fo0 (by kernel_rfl) (yab (yai ?_))
  exact ybh (ygn (ybn rfl)) (zs1) ⟨_,_,rfl,rfl⟩
 refine yag ?_
 refine yab ?_
 (repeat refine yaa ?_)
 refine yac [] [26] [(4,.v (.slice none 0 0))] fo0 (by kernel_rfl) (yab (ycr 9 1 (yai ?_)))
 exact ybh (ygn (ybn rfl)) (zs1) ⟨_,_,rfl,rfl⟩
def ycu (p0:(List (List ByteArray))):Option (List ByteArray):=Option.bind (loopF (S:=Int×Int) (T:=(Int)) (fun (v1,v2)=>cond (decide (v2<(p0.length:Int))) (Option.bind (idx p0 v2) (fun m7=>cond (decide ((IntKind.i64.wrap (v1+(m7.length:Int)))<0)) (none) (some (.inl ((IntKind.i64.wrap (v1+(m7.length:Int))),(IntKind.i64.wrap (v2+1))))))) (some (.inr v1))) FUEL (0,0)) (fun v3=>Option.bind (yec v3) (fun x9=>Option.bind (loopF (S:=(List ByteArray)×Int) (T:=((List ByteArray))) (fun (l14,v17)=>cond (decide (v17<(p0.length:Int))) (Option.bind (idx p0 v17) (fun m25=>Option.bind (app 16 l14 m25) (fun l26=>some (.inl (l26,(IntKind.i64.wrap (v17+1))))))) (some (.inr l14))) FUEL (x9,0)) (fun l21=>some l21)))
theorem yjx {p0:(List (List ByteArray))} {r:(List ByteArray)}  (h:ycu p0=some r):PCall 163 [pL (eL eS) p0] [] (fun pv ρ'=>∃ a c,pv=.v (.slice a r.length c)∧ρ'=[PRes.row a r.length c 9 1 (List.map eS r)]):=by
 unfold ycu at h
 refine ybc Tryz.func163 fk163 rfl Tryz.ntmps163 Tryz.results163 rfl (yaa (yac [] [2] [] fo0 (by kernel_rfl) (yab (yaa (yac [] [] [(3,pI 0)] fo0 (by kernel_rfl) (yab (yaa (yaa (yac [] [] [(9,pL (eL eS) p0),(10,pI (p0.length:Int)),(11,pI 0)] fo0 (by kernel_rfl) (yab (yad h fun q5 hq5 h=>?_)))))))))))
 refine yav (Y:=(Unit)×(Int)) (fun (_,v3)=>[(0,pL (eL eS) p0),(3,pI v3)]) (fun (_,v3)=>[]) (fun (_,v3)=>q5=v3) ?_ ?_
 ·refine yak ?_
  refine yay (Y:=Unit) (S:=Int×Int) _ hq5 (fun _ (v1,v2)=>[(0,pL (eL eS) p0),(3,pI v1),(9,pL (eL eS) p0),(10,pI (p0.length:Int)),(11,pI v2)]) (fun _ (v1,v2)=>[]) () (zh5 rfl rfl rfl rfl rfl) zsn ?_
  rintro _ ⟨v1,v2⟩ o τ hb4;(try dsimp only at hb4);dsimp only [pupds]
  refine yaa (yac [] [] [(12,pB (decide (v2<(p0.length:Int))))] fo0 (by kernel_rfl) (yab (yaa (zif rfl hb4 (fun hc6 hb4=>?_) fun hc6 hb4=>?_))))
  ·refine yag ?_
   refine yab (yaa (yak (yaa (yad hb4 fun m7 hm7 hb4=>yac [] [13,14] [(5,pL eS m7)] (ymr 0 (eL eS) hm7 fo0) (by kernel_rfl) (yab (yaa (yac [] [15,16,17,18] [(3,pI (IntKind.i64.wrap (v1+(m7.length:Int))))] fo0 (by kernel_rfl) (yab (yaa (yac [] [19] [(20,pB (decide ((IntKind.i64.wrap (v1+(m7.length:Int)))<0)))] fo0 (by kernel_rfl) (yab (zif rfl hb4 (fun hc8 hb4=>?_) fun hc8 hb4=>?_))))))))))))
   ·refine yae ?_
    exact absurd hb4 (by simp)
   refine yag ?_
   refine yal (yab (yac [] [22] [(11,pI (IntKind.i64.wrap (v2+1)))] fo0 (by kernel_rfl) ?_))
   exact ybu hb4 () (zh5 rfl rfl rfl rfl rfl) zsn
  refine ybd ?_
  refine yap (yam hb4 (fun ht=>yao rfl ?_))
  exact yaz ((),v1) (zh2 rfl rfl) zsn ht.symm
 rintro ⟨_,v3⟩ τ hz;(try dsimp only at hz);subst q5;(try dsimp only at h);dsimp only [pupds]
 refine yaa (yad h fun x9 hx9 h=>yae (yaj 1 [] [] [(23,pI v3)] fo0 (by kernel_rfl) ?_))
 refine yat rfl rfl rfl (ybj rfl rfl (ρ1:=[]) (List.Perm.refl _) (ykw hx9) ?_);rintro _ _ ⟨a10,c11,rfl,rfl⟩
 refine yan [] [] [(6,pO a10 x9.length c11)] fo0 (by kernel_rfl) (yab (yaa (yaa (yac [] [] [(25,pL (eL eS) p0),(26,pI (p0.length:Int)),(27,pI 0)] fo0 (by kernel_rfl) (yab (yad h fun q23 hq23 h=>?_))))))
 refine yav (Y:=(Option Addr×Nat)×((List ByteArray))) (fun ((a19,c20),l21)=>[(6,pO a19 l21.length c20)]) (fun ((a19,c20),l21)=>[PRes.row a19 l21.length c20 9 1 (List.map eS l21)]) (fun ((a19,c20),l21)=>q23=l21) ?_ ?_
 ·refine yak ?_
  refine yay (Y:=Option Addr×Nat) (S:=(List ByteArray)×Int) _ hq23 (fun (a15,c16) (l14,v17)=>[(6,pO a15 l14.length c16),(25,pL (eL eS) p0),(26,pI (p0.length:Int)),(27,pI v17)]) (fun (a15,c16) (l14,v17)=>[PRes.row a15 l14.length c16 9 1 (List.map eS l14)]) (a10,c11) (zh4 rfl rfl rfl rfl) (zs1) ?_
  rintro ⟨a15,c16⟩ ⟨l14,v17⟩ o τ hb22;(try dsimp only at hb22);dsimp only [pupds]
  refine yaa (yac [] [] [(28,pB (decide (v17<(p0.length:Int))))] fo0 (by kernel_rfl) (yab (yaa (zif rfl hb22 (fun hc24 hb22=>?_) fun hc24 hb22=>?_))))
  ·refine yag ?_
   refine yab (yaa (yak (yaa (yad hb22 fun m25 hm25 hb22=>yac [] [29,30] [(8,pL eS m25)] (ymr 0 (eL eS) hm25 fo0) (by kernel_rfl) (yab (yad hb22 fun l26 hl26 hb22=>yae (yaj 2 [] [] [(31,pO a15 l14.length c16),(32,pL eS m25)] fo0 (by kernel_rfl) ?_)))))))
   refine yat rfl rfl rfl (ylz (enc:=eS) rfl rfl rfl rfl rfl (fun _=>rfl) rfl rfl rfl (by exact zph) hl26 (fun a27 c28=>?_))
   refine yan [] [] [(6,pO a27 l26.length c28)] fo0 (by kernel_rfl) (yal (yab (yac [] [34] [(27,pI (IntKind.i64.wrap (v17+1)))] fo0 (by kernel_rfl) ?_)))
   exact ybu hb22 (a27,c28) (zh4 rfl rfl rfl rfl) (zs1)
  refine ybd ?_
  refine yap (yam hb22 (fun ht=>yao rfl ?_))
  exact yaz ((a15,c16),l14) (zh1 rfl) (zs1) ht.symm
 rintro ⟨⟨a19,c20⟩,l21⟩ τ hz;(try dsimp only at hz);subst q23;(try dsimp only at h);dsimp only [pupds]
 refine yaa (yac [] [35] [(2,pO a19 l21.length c20)] fo0 (by kernel_rfl) (yab (yai ?_)))
 obtain rfl:=osi h
 exact ybh (ygn (ybn rfl)) (zs1) ⟨_,_,rfl,rfl⟩
def ydk (p0:(List ByteArray)):Option (List ByteArray):=cond (decide (((p0.length:Nat):Int)<2)) (some p0) (Option.bind (loopF (S:=Int) (T:=(Unit)⊕(_)) (fun v2=>cond (decide (v2<((p0.length:Nat):Int))) (Option.bind (idx p0 v2) (fun m7=>Option.bind (idx p0 (IntKind.i64.wrap (v2 - 1))) (fun m8=>cond (decide (m7=m8)) (Option.bind (sub p0 v2 (p0.length:Int)) (fun l10=>Option.bind (loopF (S:=(List ByteArray)×Int×Int) (T:=((List ByteArray)×Int)) (fun (l12,v13,v14)=>cond (decide (v14<((p0.length - v2.toNat:Nat):Int))) (Option.bind (Option.bind (ge0 v14) (fun u25=>Option.bind (idx l12 (v2+v14)) (fun m26=>Option.bind (ge0 (IntKind.i64.wrap (v14 - 1))) (fun u27=>Option.bind (idx l12 (v2+(IntKind.i64.wrap (v14 - 1)))) (fun m28=>cond (!decide (m26=m28)) (Option.bind (ge0 v14) (fun u30=>Option.bind (idx l12 (v2+v14)) (fun m31=>Option.bind (idx l12 v13) (fun m32=>some ((l12.set v13.toNat m31),(IntKind.i64.wrap (v13+1))))))) (some (l12,v13))))))) (fun (l22,v23)=>some (.inl (l22,v23,(IntKind.i64.wrap (v14+1)))))) (some (.inr (l12,v13)))) FUEL (p0,v2,1)) (fun (l16,v17)=>Option.bind (sub l16 v17 (l16.length:Int)) (fun l34=>Option.bind (sub (List.take v17.toNat l16++List.replicate (p0.length - v17.toNat) ByteArray.empty) 0 v17) (fun l35=>some (.inr (.inr l35))))))) (some (.inl (IntKind.i64.wrap (v2+1))))))) (some (.inr (.inl ())))) FUEL 1) (fun q=>match q with | .inl _=>some p0 | .inr e=>some e))
theorem yji {p0:(List ByteArray)} {a_0:Option Addr}  {n_0:Nat}  {c_0:Nat} {r:(List ByteArray)}  (h:ydk p0=some r):PCall 165 [.v (.slice a_0 n_0 c_0)] [PRes.row a_0 n_0 c_0 9 1 (List.map eS p0)] (fun pv ρ'=>∃ a c,pv=.v (.slice a r.length c)∧ρ'=[PRes.row a r.length c 9 1 (List.map eS r)]):=by
 unfold ydk at h
 refine ybc Tryz.func165 fk165 rfl Tryz.ntmps165 Tryz.results165 rfl ?_
 refine ylj (enc:=eS) (xs:=p0) (a:=a_0) zm0 (fun hl ha=>?_);subst hl;clear ha
 refine yaa (yac [] [2] [] fo0 (by kernel_rfl) (yab (yaa (yaa (yac [] [6,7] [(8,pB (decide (((p0.length:Nat):Int)<2)))] fo0 (by kernel_rfl) (yab (zif rfl h (fun hc1 h=>?_) fun hc1 h=>?_)))))))
 ·refine yaa ?_
  refine yac [] [9] [(2,pO a_0 p0.length c_0)] fo0 (by kernel_rfl) (yab (yai (yah ?_)))
  obtain rfl:=osi h
  exact ybh (ygn (ybn rfl)) (zs1) ⟨_,_,rfl,rfl⟩
 refine yag ?_
 refine yab (yaa (yaa (yac [] [] [(3,pI 1)] fo0 (by kernel_rfl) (yab (yad h fun q5 hq5 h=>?_)))))
 refine yav (Y:=(Unit)×(Unit)) (fun (_,_)=>[(0,pO a_0 p0.length c_0)]) (fun (_,_)=>[PRes.row a_0 p0.length c_0 9 1 (List.map eS p0)]) (fun (_,_)=>q5=Sum.inl ()) ?_ ?_
 ·refine yak ?_
  refine yay (Y:=Unit) (S:=Int) _ hq5 (fun _ v2=>[(0,pO a_0 p0.length c_0),(3,pI v2)]) (fun _ v2=>[PRes.row a_0 p0.length c_0 9 1 (List.map eS p0)]) () (zh2 rfl rfl) (zs1) ?_
  rintro _ v2 o τ hb4;(try dsimp only at hb4);dsimp only [pupds]
  refine yaa (yaa (yac [] [10,11,12] [(13,pB (decide (v2<((p0.length:Nat):Int))))] fo0 (by kernel_rfl) (yab (zif rfl hb4 (fun hc6 hb4=>?_) fun hc6 hb4=>?_))))
  ·refine yag ?_
   refine yab (yaa (yak (yaa (yei (ρd:=[]) [(0,0),(1,0),(2,0),(3,0),(4,0),(5,0),(6,0),(7,0),(8,0),(9,0)] _ (List.Perm.refl _) (by kernel_rfl) rfl (yad hb4 fun m7 hm7 hb4=>ycq 2 [] [] [(16,pO a_0 p0.length c_0),(17,pI v2)] fo0 (by kernel_rfl) (yqm rfl rfl rfl (ygb (enc:=eS) (xs:=p0) rfl rfl rfl (.p rfl) zm0 (.p rfl) (fun _=>hm7)) (yqm rfl rfl rfl (ydr (sz:=1) (p:=pS m7) (enc:=eS) (xs:=p0) (a:=a_0) v2 0 m7 rfl (.p rfl) rfl zm0 (fun _=>hm7) rfl) (yad hb4 fun m8 hm8 hb4=>ycq 3 [] [21] [(20,pO a_0 p0.length c_0),(22,pI (IntKind.i64.wrap (v2 - 1)))] fo0 (by kernel_rfl) (yqm rfl rfl rfl (ygb (enc:=eS) (xs:=p0) rfl rfl rfl (.p rfl) zm0 (.p rfl) (fun _=>hm8)) (yqm rfl rfl rfl (ydr (sz:=1) (p:=pS m8) (enc:=eS) (xs:=p0) (a:=a_0) (IntKind.i64.wrap (v2 - 1)) 0 m8 rfl (.p rfl) rfl zm0 (fun _=>hm8) rfl) (ycq 1 [] [] [(25,pB (decide (m7=m8)))] fo0 (by kernel_rfl) (ygc (yab (zif rfl hb4 (fun hc9 hb4=>?_) fun hc9 hb4=>?_))))))))))))))
   ·refine yaa ?_
    refine yad hb4 fun l10 hl10 hb4=>yae (yaj 2 [] [] [(26,pO a_0 p0.length c_0),(27,pI v2)] fo0 (by kernel_rfl) (ycz rfl rfl rfl (ymv (enc:=eS) (xs:=p0) rfl rfl rfl rfl rfl zm0 hl10) (yan [] [] [(4,pQ a_0 p0.length c_0 v2.toNat 1)] fo0 (by kernel_rfl) (yab (yaa (yaa (yac [] [] [(5,pI 1)] fo0 (by kernel_rfl) (yab (yad hb4 fun q19 hq19 hb4=>?_)))))))))
    refine yav (Y:=(Unit)×((List ByteArray)×Int)) (fun (_,(l16,v17))=>[(0,pO a_0 p0.length c_0),(3,pI v17)]) (fun (_,(l16,v17))=>[PRes.row a_0 p0.length c_0 9 1 (List.map eS l16)]) (fun (_,(l16,v17))=>q19=(l16,v17)) ?_ ?_
    ·refine yak ?_
     refine yay (Y:=Unit) (S:=(List ByteArray)×Int×Int) _ hq19 (fun _ (l12,v13,v14)=>[(0,pO a_0 p0.length c_0),(3,pI v13),(4,pQ a_0 p0.length c_0 v2.toNat 1),(5,pI v14)]) (fun _ (l12,v13,v14)=>[PRes.row a_0 p0.length c_0 9 1 (List.map eS l12)]) () (zh4 rfl rfl rfl rfl) (zs1) ?_
     rintro _ ⟨l12,v13,v14⟩ o τ hb18;(try dsimp only at hb18);dsimp only [pupds]
     refine yaa (yaa (yac [] [29,30,31] [(32,pB (decide (v14<((p0.length - v2.toNat:Nat):Int))))] fo0 (by kernel_rfl) (yab (zif rfl hb18 (fun hc20 hb18=>?_) fun hc20 hb18=>?_))))
     ·refine yag ?_
      refine yab (yaa (yad hb18 fun q24 hq24 hb18=>?_))
      refine yav (Y:=(Unit)×((List ByteArray)×Int)) (fun (_,(l22,v23))=>[(0,pO a_0 p0.length c_0),(3,pI v23),(4,pQ a_0 p0.length c_0 v2.toNat 1),(5,pI v14)]) (fun (_,(l22,v23))=>[PRes.row a_0 p0.length c_0 9 1 (List.map eS l22)]) (fun (_,(l22,v23))=>q24=(l22,v23)) ?_ ?_
      ·skip
       refine yak (yaa (yei (ρd:=[]) [(0,0),(1,0),(2,0),(3,0),(4,0),(5,0),(6,0),(7,0),(8,0),(9,0)] _ (List.Perm.refl _) (by kernel_rfl) rfl (yad hq24 fun u25 hu25 hq24=>yad hq24 fun m26 hm26 hq24=>ycq 2 [] [] [(35,pQ a_0 p0.length c_0 v2.toNat 1),(36,pI v14)] fo0 (by kernel_rfl) (yqm rfl rfl rfl (yjf (enc:=eS) (xs:=l12) (i:=v2) rfl rfl rfl rfl rfl (yhm hl10).1.1 (yma hu25) zm0 hm26) (yqm rfl rfl rfl (ydr (sz:=1) (p:=pS m26) (enc:=eS) (xs:=l12) (a:=a_0) (v2+v14) 0 m26 rfl (.p rfl) rfl zm0 (fun _=>hm26) rfl) (yad hq24 fun u27 hu27 hq24=>yad hq24 fun m28 hm28 hq24=>ycq 3 [] [40] [(39,pQ a_0 p0.length c_0 v2.toNat 1),(41,pI (IntKind.i64.wrap (v14 - 1)))] fo0 (by kernel_rfl) (yqm rfl rfl rfl (yjf (enc:=eS) (xs:=l12) (i:=v2) rfl rfl rfl rfl rfl (yhm hl10).1.1 (yma hu27) zm0 hm28) (yqm rfl rfl rfl (ydr (sz:=1) (p:=pS m28) (enc:=eS) (xs:=l12) (a:=a_0) (v2+(IntKind.i64.wrap (v14 - 1))) 0 m28 rfl (.p rfl) rfl zm0 (fun _=>hm28) rfl) (ycq 1 [] [] [(44,pB (!decide (m26=m28)))] fo0 (by kernel_rfl) (ygc (yab (zif rfl hq24 (fun hc29 hq24=>?_) fun hc29 hq24=>?_))))))))))))
       ·refine yaa ?_
        refine yad hq24 fun u30 hu30 hq24=>yad hq24 fun m31 hm31 hq24=>yae (yaj 4 [] [] [(45,pO a_0 p0.length c_0),(46,pI v13),(47,pQ a_0 p0.length c_0 v2.toNat 1),(48,pI v14)] fo0 (by kernel_rfl) (ycz rfl rfl rfl (yjf (enc:=eS) (xs:=l12) (i:=v2) rfl rfl rfl rfl rfl (yhm hl10).1.1 (yma hu30) zm0 hm31) (ycz rfl rfl rfl (ydr (sz:=1) (p:=pS m31) (enc:=eS) (xs:=l12) (a:=a_0) (v2+v14) 0 m31 rfl (.p rfl) rfl zm0 (fun _=>hm31) rfl) (yad hq24 fun m32 hm32 hq24=>ycz rfl rfl rfl (ygb (enc:=eS) (xs:=l12) rfl rfl rfl (.p rfl) zm0 (.p rfl) (fun _=>hm32)) (ybq rfl rfl (yxt (enc:=eS) (xs:=l12) (a:=a_0) v13 0 m32 m31 rfl rfl rfl rfl (fun _=>rfl) rfl rfl hm32 (zl1) zuh (yau (yab (yac [] [52,53] [(3,pI (IntKind.i64.wrap (v13+1)))] fo0 (by kernel_rfl) (yal ?_))))))))))
        obtain rfl:=osi hq24
        exact yaz ((),((l12.set v13.toNat m31),(IntKind.i64.wrap (v13+1)))) (zh4 rfl rfl rfl rfl) (zs1) rfl
       refine yag ?_
       refine yal ?_
       obtain rfl:=osi hq24
       exact yaz ((),(l12,v13)) (zh4 rfl rfl rfl rfl) (zs1) rfl
      rintro ⟨_,⟨l22,v23⟩⟩ τ hz;(try dsimp only at hz);subst q24;(try dsimp only at hb18);dsimp only [pupds]
      refine yac [] [33,34] [(5,pI (IntKind.i64.wrap (v14+1)))] fo0 (by kernel_rfl) ?_
      exact ybu hb18 () (zh4 rfl rfl rfl rfl) (zs1)
     refine ybd ?_
     refine yap (yam hb18 (fun ht=>yao rfl ?_))
     exact yaz ((),(l12,v13)) (zh2 rfl rfl) (zs1) ht.symm
    rintro ⟨_,⟨l16,v17⟩⟩ τ hz;(try dsimp only at hz);subst q19;(try dsimp only at hb4);dsimp only [pupds]
    refine yaa (yad hb4 fun l34 hl34 hb4=>yae (yaj 2 [] [] [(54,pO a_0 p0.length c_0),(55,pI v17)] fo0 (by kernel_rfl) (ycz rfl rfl rfl (ymv (enc:=eS) (xs:=l16) rfl rfl rfl rfl rfl zm0 hl34) (ybq rfl rfl (xbn (enc:=eS) (xs:=l16) (z0:=ByteArray.empty) (i:=v17) rfl rfl rfl rfl hl34 rfl rfl rfl rfl zuh (yau (yab (yaa (yad hb4 fun l35 hl35 hb4=>yae (yaj 2 [] [] [(57,pO a_0 p0.length c_0),(58,pI v17)] fo0 (by kernel_rfl) ?_))))))))))
    refine yat rfl rfl rfl (xbm (enc:=eS) (xs:=(List.take v17.toNat l16++List.replicate (p0.length - v17.toNat) ByteArray.empty)) rfl rfl rfl rfl rfl (by exact zph) hl35 ?_)
    refine yan [] [] [(2,pO a_0 l35.length c_0)] fo0 (by kernel_rfl) (yab (yai (yaf (yah ?_))))
    refine yba hb4 (fun ht=>?_);subst ht
    refine yaf (ybb ?_)
    obtain rfl:=osi h
    exact ybh (ygn (ybn rfl)) (zs1) ⟨_,_,rfl,rfl⟩
   refine yag ?_
   refine yal (yab (yac [] [14,15] [(3,pI (IntKind.i64.wrap (v2+1)))] fo0 (by kernel_rfl) ?_))
   exact ybu hb4 () (zh2 rfl rfl) (zs1)
  refine ybd ?_
  refine yap (yam hb4 (fun ht=>yao rfl ?_))
  exact yaz ((),()) (zh1 rfl) (zs1) ht.symm
 rintro ⟨_,_⟩ τ hz;(try dsimp only at hz);subst q5;(try dsimp only at h);dsimp only [pupds]
 refine yaa (yac [] [60] [(2,pO a_0 p0.length c_0)] fo0 (by kernel_rfl) (yab (yai ?_)))
 obtain rfl:=osi h
 exact ybh (ygn (ybn rfl)) (zs1) ⟨_,_,rfl,rfl⟩
def ycs (p0:Zr) (p1:Zd) (p2:Int):Option Ze:=Option.bind (loopF (S:=Int) (T:=(Unit)⊕(_)) (fun v3=>cond (decide (v3<(p0.partners.length:Int))) (Option.bind (idx p0.partners v3) (fun m7=>cond ((mget p0.set_ (⟨p1.ID,m7⟩:Za)).getD false) (some (.inr (.inr (Ze.proved_ (⟨(⟨p1.Code,p2,true⟩:Zk),(⟨p1.ID,m7⟩:Za)⟩:Zq))))) (some (.inl (IntKind.i64.wrap (v3+1)))))) (some (.inr (.inl ())))) FUEL 0) (fun q=>match q with | .inl _=>some (Ze.plain_ (⟨(⟨p1.Code,p2,false⟩:Zk)⟩:Zs)) | .inr e=>some e)
theorem yhf {p0:Zr} {p1:Zd} {p2:Int} {m0_set_:Nat} {r:Ze}  (h:ycs p0 p1 p2=some r):PCall 127 [.agg [pL eI p0.partners,.v (.map (some m0_set_))],.agg [pI p1.ID,pS p1.Code,pS p1.Country,pI p1.Price,pB p1.Obtained,pL eS p1.Processes,pL Zf.enc p1.Inputs],pI p2] [PRes.mp (some m0_set_) (menc Za.key vT p0.set_)] (fun pv ρ'=>pv=Ze.pv r∧ρ'=[PRes.mp (some m0_set_) (menc Za.key vT p0.set_)]):=by
 unfold ycs at h
 refine ybc Tryz.func127 fk127 rfl Tryz.ntmps127 Tryz.results127 rfl (yaa (yae (yat rfl rfl rfl (ycn (cs:=[pL eI p0.partners,.v (.map (some m0_set_))]) rfl rfl (fun b1=>yat rfl rfl rfl (ycn (cs:=[pI p1.ID,pS p1.Code,pS p1.Country,pI p1.Price,pB p1.Obtained,pL eS p1.Processes,pL Zf.enc p1.Inputs]) rfl rfl (fun b2=>yan [] [6] [] fo0 (by kernel_rfl) (yab (yaa (yaa (yac [1] [10] [(11,pL eI p0.partners),(12,pI (p0.partners.length:Int)),(13,pI 0)] fo0 (by kernel_rfl) (yab (yad h fun q5 hq5 h=>?_)))))))))))))
 refine yav (Y:=(Unit)×(Unit)) (fun (_,_)=>[(2,pI p2),(4,pP b2 0)]) (fun (_,_)=>[PRes.b b2 46 [pI p1.ID,pS p1.Code,pS p1.Country,pI p1.Price,pB p1.Obtained,pL eS p1.Processes,pL Zf.enc p1.Inputs],PRes.mp (some m0_set_) (menc Za.key vT p0.set_)]) (fun (_,_)=>q5=Sum.inl ()) ?_ ?_
 ·refine yak ?_
  refine yay (Y:=Unit) (S:=Int) _ hq5 (fun _ v3=>[(2,pI p2),(3,pP b1 0),(4,pP b2 0),(11,pL eI p0.partners),(12,pI (p0.partners.length:Int)),(13,pI v3)]) (fun _ v3=>[PRes.b b1 130 [pL eI p0.partners,.v (.map (some m0_set_))],PRes.b b2 46 [pI p1.ID,pS p1.Code,pS p1.Country,pI p1.Price,pB p1.Obtained,pL eS p1.Processes,pL Zf.enc p1.Inputs],PRes.mp (some m0_set_) (menc Za.key vT p0.set_)]) () (zh6 rfl rfl rfl rfl rfl rfl) (zsc (zpt zph) (zs2)) ?_
  rintro _ v3 o τ hb4;(try dsimp only at hb4);dsimp only [pupds]
  refine yaa (yac [] [] [(14,pB (decide (v3<(p0.partners.length:Int))))] fo0 (by kernel_rfl) (yab (yaa (zif rfl hb4 (fun hc6 hb4=>?_) fun hc6 hb4=>?_))))
  ·refine yag ?_
   refine yab (yaa (yak (yaa (yad hb4 fun m7 hm7 hb4=>yac [] [15,16] [(8,pI m7)] (ymr 0 eI hm7 fo0) (by kernel_rfl) (yab (yaa (yae (yaj 4 [1] [17,18,19] [(20,.agg [pI p1.ID,pI m7])] fo0 (by kernel_rfl) (yat rfl rfl rfl (ybg (cs:=[pI 0,pI 0]) rfl rfl rfl rfl (fun b8=>ybq rfl rfl (yaq (vs:=[pI p1.ID,pI m7]) rfl rfl rfl rfl rfl zuh (zl2) (yau (yab (yaa (yae (yaj 3 [1,0] [21] [(22,.v (.map (some m0_set_))),(23,.agg [pI p1.ID,pI m7])] fo0 (by kernel_rfl) (ycz rfl rfl rfl (show POpQ _ _ _ _ (pB ((mget p0.set_ (⟨p1.ID,m7⟩:Za)).getD false)) from xku (xs:=p0.set_) (k:=(⟨p1.ID,m7⟩:Za)) (ek:=Za.key) (vv:=vT) (z0:=false) rfl rfl rfl (fun _=>.v rfl) Za.kenc54 (.p rfl) (.p rfl) kP_key (mapIs_mp zm3)) (yau (yab (zif rfl hb4 (fun hc9 hb4=>?_) fun hc9 hb4=>?_)))))))))))))))))))))
   ·refine yaa ?_
    refine yac [2,0] (rg 25 7) [(6,Ze.pv (Ze.proved_ (⟨(⟨p1.Code,p2,true⟩:Zk),(⟨p1.ID,m7⟩:Za)⟩:Zq)))] fo0 (by kernel_rfl) (yab (yai (yaf (yah ?_))))
    refine yba hb4 (fun ht=>?_);subst ht
    refine yaf (ybb ?_)
    obtain rfl:=osi h
    exact ybh (ygn (ybn rfl)) (zsc (zpt (zpt (zpt zph))) zsn) ⟨rfl,rfl⟩
   refine yag ?_
   refine yal (yab (yac [] [32] [(13,pI (IntKind.i64.wrap (v3+1)))] fo0 (by kernel_rfl) ?_))
   exact ybu hb4 () (zh6 rfl rfl rfl rfl rfl rfl) (zsc (zpt zph) (zsc (zpt zph) (zsc (zpt zph) zsn)))
  refine ybd ?_
  refine yap (yam hb4 (fun ht=>yao rfl ?_))
  exact yaz ((),()) (zh2 rfl rfl) (zsc (zpt zph) (zsc (zpt zph) zsn)) ht.symm
 rintro ⟨_,_⟩ τ hz;(try dsimp only at hz);subst q5;(try dsimp only at h);dsimp only [pupds]
 refine yaa (yac [0] (rg 33 6) [(6,Ze.pv (Ze.plain_ (⟨(⟨p1.Code,p2,false⟩:Zk)⟩:Zs)))] fo0 (by kernel_rfl) (yab (yai ?_)))
 obtain rfl:=osi h
 exact ybh (ygn (ybn rfl)) (zsc (zpt zph) zsn) ⟨rfl,rfl⟩
def ygh (p0:Int):Option Int:=Option.bind (cond (decide (4294967296≤p0)) (some ((ishr .u64 p0 32),32)) (some (p0,0))) (fun (v1,v2)=>Option.bind (cond (decide (65536≤v1)) (some ((ishr .u64 v1 16),(IntKind.i64.wrap (v2+16)))) (some (v1,v2))) (fun (v5,v6)=>Option.bind (cond (decide (256≤v5)) (some ((ishr .u64 v5 8),(IntKind.i64.wrap (v6+8)))) (some (v5,v6))) (fun (v9,v10)=>Option.bind (idx (⟨#[0,1,2,2,3,3,3,3,4,4,4,4,4,4,4,4,5,5,5,5,5,5,5,5,5,5,5,5,5,5,5,5,6,6,6,6,6,6,6,6,6,6,6,6,6,6,6,6,6,6,6,6,6,6,6,6,6,6,6,6,6,6,6,6,7,7,7,7,7,7,7,7,7,7,7,7,7,7,7,7,7,7,7,7,7,7,7,7,7,7,7,7,7,7,7,7,7,7,7,7,7,7,7,7,7,7,7,7,7,7,7,7,7,7,7,7,7,7,7,7,7,7,7,7,7,7,7,7,8,8,8,8,8,8,8,8,8,8,8,8,8,8,8,8,8,8,8,8,8,8,8,8,8,8,8,8,8,8,8,8,8,8,8,8,8,8,8,8,8,8,8,8,8,8,8,8,8,8,8,8,8,8,8,8,8,8,8,8,8,8,8,8,8,8,8,8,8,8,8,8,8,8,8,8,8,8,8,8,8,8,8,8,8,8,8,8,8,8,8,8,8,8,8,8,8,8,8,8,8,8,8,8,8,8,8,8,8,8,8,8,8,8,8,8,8,8,8,8,8,8,8,8,8,8,8,8]⟩:ByteArray).data.toList (IntKind.u8.wrap v9)) (fun c13=>lb ((IntKind.i64.wrap (v10+(IntKind.i64.wrap (c13.toNat:Int))))) (fun w14=>some w14)))))
theorem yry {p0:Int} {r:Int}  (h:ygh p0=some r):PF 152 [pU p0] (pI r):=by
 unfold ygh at h
 refine ych ?_
 refine ybc Tryz.func152 fk152 rfl Tryz.ntmps152 Tryz.results152 rfl (yaa (yac [] [] [(2,pI 0)] fo0 (by kernel_rfl) (yab (yaa (yaa (yac [] [3] [(4,pB (decide (4294967296≤p0)))] fo0 (by kernel_rfl) (yab (yad h fun q3 hq3 h=>?_))))))))
 refine yav (Y:=(Unit)×(Int×Int)) (fun (_,(v1,v2))=>[(0,pU v1),(2,pI v2)]) (fun (_,(v1,v2))=>[]) (fun (_,(v1,v2))=>q3=(v1,v2)) ?_ ?_
 ·skip
  refine zif rfl hq3 (fun hc4 hq3=>?_) fun hc4 hq3=>?_
  ·refine yaa ?_
   refine yac [] [5,6] [(0,pU (ishr .u64 p0 32))] fo0 (by kernel_rfl) (yab (yac [] [] [(2,pI 32)] fo0 (by kernel_rfl) ?_))
   obtain rfl:=osi hq3
   exact yaz ((),((ishr .u64 p0 32),32)) (zh2 rfl rfl) zsn rfl
  refine yag ?_
  obtain rfl:=osi hq3
  exact yaz ((),(p0,0)) (zh2 rfl rfl) zsn rfl
 rintro ⟨_,⟨v1,v2⟩⟩ τ hz;(try dsimp only at hz);subst q3;(try dsimp only at h);dsimp only [pupds]
 refine yaa (yaa (yac [] [7] [(8,pB (decide (65536≤v1)))] fo0 (by kernel_rfl) (yab (yad h fun q7 hq7 h=>?_))))
 refine yav (Y:=(Unit)×(Int×Int)) (fun (_,(v5,v6))=>[(0,pU v5),(2,pI v6)]) (fun (_,(v5,v6))=>[]) (fun (_,(v5,v6))=>q7=(v5,v6)) ?_ ?_
 ·skip
  refine zif rfl hq7 (fun hc8 hq7=>?_) fun hc8 hq7=>?_
  ·refine yaa ?_
   refine yac [] [9,10] [(0,pU (ishr .u64 v1 16))] fo0 (by kernel_rfl) (yab (yac [] [11,12] [(2,pI (IntKind.i64.wrap (v2+16)))] fo0 (by kernel_rfl) ?_))
   obtain rfl:=osi hq7
   exact yaz ((),((ishr .u64 v1 16),(IntKind.i64.wrap (v2+16)))) (zh2 rfl rfl) zsn rfl
  refine yag ?_
  obtain rfl:=osi hq7
  exact yaz ((),(v1,v2)) (zh2 rfl rfl) zsn rfl
 rintro ⟨_,⟨v5,v6⟩⟩ τ hz;(try dsimp only at hz);subst q7;(try dsimp only at h);dsimp only [pupds]
 refine yaa (yaa (yac [] [13] [(14,pB (decide (256≤v5)))] fo0 (by kernel_rfl) (yab (yad h fun q11 hq11 h=>?_))))
 refine yav (Y:=(Unit)×(Int×Int)) (fun (_,(v9,v10))=>[(0,pU v9),(2,pI v10)]) (fun (_,(v9,v10))=>[]) (fun (_,(v9,v10))=>q11=(v9,v10)) ?_ ?_
 ·skip
  refine zif rfl hq11 (fun hc12 hq11=>?_) fun hc12 hq11=>?_
  ·refine yaa ?_
   refine yac [] [15,16] [(0,pU (ishr .u64 v5 8))] fo0 (by kernel_rfl) (yab (yac [] [17,18] [(2,pI (IntKind.i64.wrap (v6+8)))] fo0 (by kernel_rfl) ?_))
   obtain rfl:=osi hq11
   exact yaz ((),((ishr .u64 v5 8),(IntKind.i64.wrap (v6+8)))) (zh2 rfl rfl) zsn rfl
  refine yag ?_
  obtain rfl:=osi hq11
  exact yaz ((),(v5,v6)) (zh2 rfl rfl) zsn rfl
 rintro ⟨_,⟨v9,v10⟩⟩ τ hz;(try dsimp only at hz);subst q11;(try dsimp only at h);dsimp only [pupds]
 refine yaa (yad h fun c13 hc13 h=>?_)
 refine yhd h ?_;clear h;intro w14 hw14 h
 refine yae (yaj 6 [] (rg 19 5) [(24,pI (IntKind.i64.wrap (v10+(IntKind.i64.wrap (c13.toNat:Int)))))] (fosx 3 (s:=(⟨#[0,1,2,2,3,3,3,3,4,4,4,4,4,4,4,4,5,5,5,5,5,5,5,5,5,5,5,5,5,5,5,5,6,6,6,6,6,6,6,6,6,6,6,6,6,6,6,6,6,6,6,6,6,6,6,6,6,6,6,6,6,6,6,6,7,7,7,7,7,7,7,7,7,7,7,7,7,7,7,7,7,7,7,7,7,7,7,7,7,7,7,7,7,7,7,7,7,7,7,7,7,7,7,7,7,7,7,7,7,7,7,7,7,7,7,7,7,7,7,7,7,7,7,7,7,7,7,7,8,8,8,8,8,8,8,8,8,8,8,8,8,8,8,8,8,8,8,8,8,8,8,8,8,8,8,8,8,8,8,8,8,8,8,8,8,8,8,8,8,8,8,8,8,8,8,8,8,8,8,8,8,8,8,8,8,8,8,8,8,8,8,8,8,8,8,8,8,8,8,8,8,8,8,8,8,8,8,8,8,8,8,8,8,8,8,8,8,8,8,8,8,8,8,8,8,8,8,8,8,8,8,8,8,8,8,8,8,8,8,8,8,8,8,8,8,8,8,8,8,8,8,8,8,8,8,8]⟩:ByteArray)) hc13 fo0) (by kernel_rfl) (ycz rfl rfl rfl (ycc rfl (.p (congrArg (fun z=>PV.v (Value.int .i64 z)) hw14))) (yau (yab (yai ?_)))))
 obtain rfl:=osi h
 exact zq rfl ⟨rfl,rfl⟩
def ydh (p0:Int):Option Int:=Option.bind (ygh p0) (fun x1=>some (IntKind.i64.wrap (64 - x1)))
theorem ylp {p0:Int} {r:Int}  (h:ydh p0=some r):PF 217 [pU p0] (pI r):=by
 unfold ydh at h
 refine ych ?_
 refine ybc Tryz.func217 fk217 rfl Tryz.ntmps217 Tryz.results217 rfl (yaa (yac [] [2] [] fo0 (by kernel_rfl) (yab (yaa (yad h fun x1 hx1 h=>yac [] [3,4,5] [(2,pI (IntKind.i64.wrap (64 - x1)))] (yfg 1 (yry hx1) fo0) (by kernel_rfl) (yab (yai ?_)))))))
 obtain rfl:=osi h
 exact zq rfl ⟨rfl,rfl⟩
def yhg (p0:Int) (p1:Int) (p2:Int):Option (Int×Int):=cond (p2 == 0) (none) (cond (decide (p2≤p0)) (none) (cond (p0 == 0) (Option.bind (nz p2) (fun u4=>Option.bind (nz p2) (fun u5=>some ((IntKind.u64.wrap (Int.tdiv p1 p2)),(Int.tmod p1 p2))))) (Option.bind (ydh p2) (fun x6=>Option.bind (ge0 (IntKind.u64.wrap x6)) (fun u7=>lb ((ishr .u64 (ishl .u64 p2 (IntKind.u64.wrap x6)) 32)) (fun w8=>lb ((iand .u64 (ishl .u64 p2 (IntKind.u64.wrap x6)) 4294967295)) (fun w9=>Option.bind (ge0 (IntKind.u64.wrap x6)) (fun u10=>Option.bind (ge0 (IntKind.u64.wrap (64 - (IntKind.u64.wrap x6)))) (fun u11=>lb ((ior .u64 (ishl .u64 p0 (IntKind.u64.wrap x6)) (ishr .u64 p1 (IntKind.u64.wrap (64 - (IntKind.u64.wrap x6)))))) (fun w12=>Option.bind (ge0 (IntKind.u64.wrap x6)) (fun u13=>lb ((ishr .u64 (ishl .u64 p1 (IntKind.u64.wrap x6)) 32)) (fun w14=>lb ((iand .u64 (ishl .u64 p1 (IntKind.u64.wrap x6)) 4294967295)) (fun w15=>Option.bind (nz w8) (fun u16=>lb ((IntKind.u64.wrap (w12 - (IntKind.u64.wrap ((IntKind.u64.wrap (Int.tdiv w12 w8))*w8))))) (fun w17=>Option.bind (loopF (S:=Int×Int) (T:=(Int)) (fun (v18,v19)=>cond ((decide (4294967296≤v18))||(decide ((IntKind.u64.wrap ((IntKind.u64.wrap (4294967296*v19))+w14))<(IntKind.u64.wrap (v18*w9))))) (cond (decide (4294967296≤(IntKind.u64.wrap (v19+w8)))) (some (.inr (IntKind.u64.wrap (v18 - 1)))) (some (.inl ((IntKind.u64.wrap (v18 - 1)),(IntKind.u64.wrap (v19+w8)))))) (some (.inr v18))) FUEL ((IntKind.u64.wrap (Int.tdiv w12 w8)),w17)) (fun v20=>lb ((IntKind.u64.wrap ((IntKind.u64.wrap ((IntKind.u64.wrap (w12*4294967296))+w14)) - (IntKind.u64.wrap (v20*(ishl .u64 p2 (IntKind.u64.wrap x6))))))) (fun w25=>Option.bind (nz w8) (fun u26=>lb ((IntKind.u64.wrap (w25 - (IntKind.u64.wrap ((IntKind.u64.wrap (Int.tdiv w25 w8))*w8))))) (fun w27=>Option.bind (loopF (S:=Int×Int) (T:=(Int)) (fun (v28,v29)=>cond ((decide (4294967296≤v29))||(decide ((IntKind.u64.wrap ((IntKind.u64.wrap (4294967296*v28))+w15))<(IntKind.u64.wrap (v29*w9))))) (cond (decide (4294967296≤(IntKind.u64.wrap (v28+w8)))) (some (.inr (IntKind.u64.wrap (v29 - 1)))) (some (.inl ((IntKind.u64.wrap (v28+w8)),(IntKind.u64.wrap (v29 - 1)))))) (some (.inr v29))) FUEL (w27,(IntKind.u64.wrap (Int.tdiv w25 w8)))) (fun v30=>Option.bind (ge0 (IntKind.u64.wrap x6)) (fun u35=>lb ((IntKind.u64.wrap ((IntKind.u64.wrap (v20*4294967296))+v30))) (fun w36=>lb ((ishr .u64 (IntKind.u64.wrap ((IntKind.u64.wrap ((IntKind.u64.wrap (w25*4294967296))+w15)) - (IntKind.u64.wrap (v30*(ishl .u64 p2 (IntKind.u64.wrap x6)))))) (IntKind.u64.wrap x6))) (fun w37=>some (w36,w37))))))))))))))))))))))))
theorem yrz {p0:Int} {p1:Int} {p2:Int} {r:(Int×Int)}  (h:yhg p0 p1 p2=some r):PF 206 [pU p0,pU p1,pU p2] (.tup [pU r.1,pU r.2]):=by
 unfold yhg at h
 refine ych ?_
 refine ybc Tryz.func206 fk206 rfl Tryz.ntmps206 Tryz.results206 rfl (yaa (yac [] [6,7] [] fo0 (by kernel_rfl) (yab (yaa (yaa (yac [] [19] [(20,pB (p2 == 0))] fo0 (by kernel_rfl) (yab (zif rfl h (fun hc1 h=>?_) fun hc1 h=>?_))))))))
 ·refine yae ?_
  exact absurd h (by simp)
 refine yag ?_
 refine yab (yaa (yaa (yac [] [22,23] [(24,pB (decide (p2≤p0)))] fo0 (by kernel_rfl) (yab (zif rfl h (fun hc2 h=>?_) fun hc2 h=>?_)))))
 ·refine yae ?_
  exact absurd h (by simp)
 refine yag ?_
 refine yab (yaa (yaa (yac [] [26] [(27,pB (p0 == 0))] fo0 (by kernel_rfl) (yab (zif rfl h (fun hc3 h=>?_) fun hc3 h=>?_)))))
 ·refine yaa ?_
  refine yei (ρd:=[]) [(0,0),(1,0),(2,0),(3,0),(4,0),(5,0),(6,0),(7,0)] _ (List.Perm.refl _) (by kernel_rfl) rfl (yad h fun u4 hu4 h=>yad h fun u5 hu5 h=>ycq 8 [] (rg 28 6) [(6,pU (IntKind.u64.wrap (Int.tdiv p1 p2))),(7,pU (Int.tmod p1 p2))] (fonz 2 hu4 (fonz 5 hu5 fo0)) (by kernel_rfl) (ygc (yab (yai (yah ?_)))))
  obtain rfl:=osi h
  exact ybh (yid (ybn rfl) (ybn rfl)) zsn ⟨rfl,rfl⟩
 refine yag ?_
 refine yab (yaa (yad h fun x6 hx6 h=>yac [] [34,35,36] [(8,pU (IntKind.u64.wrap x6))] (yfg 1 (ylp hx6) fo0) (by kernel_rfl) (yab (yaa (yad h fun u7 hu7 h=>yac [] [37,38,39] [(2,pU (ishl .u64 p2 (IntKind.u64.wrap x6)))] (foge 2 hu7 fo0) (by kernel_rfl) (yab (yaa ?_)))))))
 refine yhd h ?_;clear h;intro w8 hw8 h
 refine yae (yaj 2 [] [40] [(41,pU (ishr .u64 (ishl .u64 p2 (IntKind.u64.wrap x6)) 32))] fo0 (by kernel_rfl) (ycz rfl rfl rfl (ycc rfl (.p (congrArg (fun z=>PV.v (Value.int .u64 z)) hw8))) (yau (yab (yaa ?_)))))
 refine yhd h ?_;clear h;intro w9 hw9 h
 refine yae (yaj 2 [] [42] [(43,pU (iand .u64 (ishl .u64 p2 (IntKind.u64.wrap x6)) 4294967295))] fo0 (by kernel_rfl) (ycz rfl rfl rfl (ycc rfl (.p (congrArg (fun z=>PV.v (Value.int .u64 z)) hw9))) (yau (yab (yaa (yad h fun u10 hu10 h=>yad h fun u11 hu11 h=>?_))))))
 refine yhd h ?_;clear h;intro w12 hw12 h
 refine yae (yaj 8 [] (rg 44 7) [(51,pU (ior .u64 (ishl .u64 p0 (IntKind.u64.wrap x6)) (ishr .u64 p1 (IntKind.u64.wrap (64 - (IntKind.u64.wrap x6))))))] (foge 2 hu10 (foge 6 hu11 fo0)) (by kernel_rfl) (ycz rfl rfl rfl (ycc rfl (.p (congrArg (fun z=>PV.v (Value.int .u64 z)) hw12))) (yau (yab (yaa (yad h fun u13 hu13 h=>yac [] [52,53,54] [(12,pU (ishl .u64 p1 (IntKind.u64.wrap x6)))] (foge 2 hu13 fo0) (by kernel_rfl) (yab (yaa ?_))))))))
 refine yhd h ?_;clear h;intro w14 hw14 h
 refine yae (yaj 2 [] [55] [(56,pU (ishr .u64 (ishl .u64 p1 (IntKind.u64.wrap x6)) 32))] fo0 (by kernel_rfl) (ycz rfl rfl rfl (ycc rfl (.p (congrArg (fun z=>PV.v (Value.int .u64 z)) hw14))) (yau (yab (yaa ?_)))))
 refine yhd h ?_;clear h;intro w15 hw15 h
 refine yae (yaj 2 [] [57] [(58,pU (iand .u64 (ishl .u64 p1 (IntKind.u64.wrap x6)) 4294967295))] fo0 (by kernel_rfl) (ycz rfl rfl rfl (ycc rfl (.p (congrArg (fun z=>PV.v (Value.int .u64 z)) hw15))) (yau (yab (yaa (yad h fun u16 hu16 h=>yac [] [59,60,61] [(15,pU (IntKind.u64.wrap (Int.tdiv w12 w8)))] (fonz 2 hu16 fo0) (by kernel_rfl) (yab (yaa ?_))))))))
 refine yhd h ?_;clear h;intro w17 hw17 h
 refine yae (yaj 5 [] [62,63,64,65] [(66,pU (IntKind.u64.wrap (w12 - (IntKind.u64.wrap ((IntKind.u64.wrap (Int.tdiv w12 w8))*w8)))))] fo0 (by kernel_rfl) (ycz rfl rfl rfl (ycc rfl (.p (congrArg (fun z=>PV.v (Value.int .u64 z)) hw17))) (yau (yab (yaa (yad h fun q22 hq22 h=>?_))))))
 refine yav (Y:=(Unit)×(Int)) (fun (_,v20)=>[(2,pU (ishl .u64 p2 (IntKind.u64.wrap x6))),(8,pU (IntKind.u64.wrap x6)),(9,pU w8),(10,pU w9),(11,pU w12),(13,pU w14),(14,pU w15),(15,pU v20)]) (fun (_,v20)=>[]) (fun (_,v20)=>q22=v20) ?_ ?_
 ·refine yak ?_
  refine yay (Y:=Unit) (S:=Int×Int) _ hq22 (fun _ (v18,v19)=>[(2,pU (ishl .u64 p2 (IntKind.u64.wrap x6))),(8,pU (IntKind.u64.wrap x6)),(9,pU w8),(10,pU w9),(11,pU w12),(13,pU w14),(14,pU w15),(15,pU v18),(16,pU v19)]) (fun _ (v18,v19)=>[]) () (zh9 rfl rfl rfl rfl rfl rfl rfl rfl rfl) zsn ?_
  rintro _ ⟨v18,v19⟩ o τ hb21;(try dsimp only at hb21);dsimp only [pupds]
  refine yaa (yaa (yac [] (rg 67 11) [(78,pB ((decide (4294967296≤v18))||(decide ((IntKind.u64.wrap ((IntKind.u64.wrap (4294967296*v19))+w14))<(IntKind.u64.wrap (v18*w9))))))] fo0 (by kernel_rfl) (yab (zif rfl hb21 (fun hc23 hb21=>?_) fun hc23 hb21=>?_))))
  ·refine yag ?_
   refine yab (yak (yaa (yac [] [79,80] [(15,pU (IntKind.u64.wrap (v18 - 1)))] fo0 (by kernel_rfl) (yab (yaa (yac [] [81,82,83] [(16,pU (IntKind.u64.wrap (v19+w8)))] fo0 (by kernel_rfl) (yab (yaa (yac [] [84] [(85,pB (decide (4294967296≤(IntKind.u64.wrap (v19+w8)))))] fo0 (by kernel_rfl) (yab (zif rfl hb21 (fun hc24 hb21=>?_) fun hc24 hb21=>?_)))))))))))
   ·refine ybd ?_
    refine yre rfl (yam hb21 (fun ht=>yao rfl ?_))
    exact yaz ((),(IntKind.u64.wrap (v18 - 1))) (zh8 rfl rfl rfl rfl rfl rfl rfl rfl) zsn ht.symm
   refine yag ?_
   refine yal ?_
   exact ybu hb21 () (zh9 rfl rfl rfl rfl rfl rfl rfl rfl rfl) zsn
  refine ybd ?_
  refine yap (yam hb21 (fun ht=>yao rfl ?_))
  exact yaz ((),v18) (zh8 rfl rfl rfl rfl rfl rfl rfl rfl) zsn ht.symm
 rintro ⟨_,v20⟩ τ hz;(try dsimp only at hz);subst q22;(try dsimp only at h);dsimp only [pupds]
 refine yaa ?_
 refine yhd h ?_;clear h;intro w25 hw25 h
 refine yae (yaj 8 [] (rg 86 7) [(93,pU (IntKind.u64.wrap ((IntKind.u64.wrap ((IntKind.u64.wrap (w12*4294967296))+w14)) - (IntKind.u64.wrap (v20*(ishl .u64 p2 (IntKind.u64.wrap x6)))))))] fo0 (by kernel_rfl) (ycz rfl rfl rfl (ycc rfl (.p (congrArg (fun z=>PV.v (Value.int .u64 z)) hw25))) (yau (yab (yaa (yad h fun u26 hu26 h=>yac [] [94,95,96] [(18,pU (IntKind.u64.wrap (Int.tdiv w25 w8)))] (fonz 2 hu26 fo0) (by kernel_rfl) (yab (yaa ?_))))))))
 refine yhd h ?_;clear h;intro w27 hw27 h
 refine yae (yaj 5 [] [97,98,99,100] [(101,pU (IntKind.u64.wrap (w25 - (IntKind.u64.wrap ((IntKind.u64.wrap (Int.tdiv w25 w8))*w8)))))] fo0 (by kernel_rfl) (ycz rfl rfl rfl (ycc rfl (.p (congrArg (fun z=>PV.v (Value.int .u64 z)) hw27))) (yau (yab (yaa (yad h fun q32 hq32 h=>?_))))))
 refine yav (Y:=(Unit)×(Int)) (fun (_,v30)=>[(2,pU (ishl .u64 p2 (IntKind.u64.wrap x6))),(8,pU (IntKind.u64.wrap x6)),(14,pU w15),(15,pU v20),(17,pU w25),(18,pU v30)]) (fun (_,v30)=>[]) (fun (_,v30)=>q32=v30) ?_ ?_
 ·refine yak ?_
  refine yay (Y:=Unit) (S:=Int×Int) _ hq32 (fun _ (v28,v29)=>[(2,pU (ishl .u64 p2 (IntKind.u64.wrap x6))),(8,pU (IntKind.u64.wrap x6)),(9,pU w8),(10,pU w9),(14,pU w15),(15,pU v20),(16,pU v28),(17,pU w25),(18,pU v29)]) (fun _ (v28,v29)=>[]) () (zh9 rfl rfl rfl rfl rfl rfl rfl rfl rfl) zsn ?_
  rintro _ ⟨v28,v29⟩ o τ hb31;(try dsimp only at hb31);dsimp only [pupds]
  refine yaa (yaa (yac [] (rg 102 11) [(113,pB ((decide (4294967296≤v29))||(decide ((IntKind.u64.wrap ((IntKind.u64.wrap (4294967296*v28))+w15))<(IntKind.u64.wrap (v29*w9))))))] fo0 (by kernel_rfl) (yab (zif rfl hb31 (fun hc33 hb31=>?_) fun hc33 hb31=>?_))))
  ·refine yag ?_
   refine yab (yak (yaa (yac [] [114,115] [(18,pU (IntKind.u64.wrap (v29 - 1)))] fo0 (by kernel_rfl) (yab (yaa (yac [] [116,117,118] [(16,pU (IntKind.u64.wrap (v28+w8)))] fo0 (by kernel_rfl) (yab (yaa (yac [] [119] [(120,pB (decide (4294967296≤(IntKind.u64.wrap (v28+w8)))))] fo0 (by kernel_rfl) (yab (zif rfl hb31 (fun hc34 hb31=>?_) fun hc34 hb31=>?_)))))))))))
   ·refine ybd ?_
    refine yre rfl (yam hb31 (fun ht=>yao rfl ?_))
    exact yaz ((),(IntKind.u64.wrap (v29 - 1))) (zh6 rfl rfl rfl rfl rfl rfl) zsn ht.symm
   refine yag ?_
   refine yal ?_
   exact ybu hb31 () (zh9 rfl rfl rfl rfl rfl rfl rfl rfl rfl) zsn
  refine ybd ?_
  refine yap (yam hb31 (fun ht=>yao rfl ?_))
  exact yaz ((),v29) (zh6 rfl rfl rfl rfl rfl rfl) zsn ht.symm
 rintro ⟨_,v30⟩ τ hz;(try dsimp only at hz);subst q32;(try dsimp only at h);dsimp only [pupds]
 refine yaa (yad h fun u35 hu35 h=>?_)
 refine yhd h ?_;clear h;intro w36 hw36 h
 refine yae (yaj 14 [] [121,122,123,125,126,127,128,129,130,131,132,133] [(124,pU (IntKind.u64.wrap ((IntKind.u64.wrap (v20*4294967296))+v30))),(134,pU (ishr .u64 (IntKind.u64.wrap ((IntKind.u64.wrap ((IntKind.u64.wrap (w25*4294967296))+w15)) - (IntKind.u64.wrap (v30*(ishl .u64 p2 (IntKind.u64.wrap x6)))))) (IntKind.u64.wrap x6)))] (foge 13 hu35 fo0) (by kernel_rfl) (ycz rfl rfl rfl (ycc rfl (.p (congrArg (fun z=>PV.v (Value.int .u64 z)) hw36))) ?_))
 refine yhd h ?_;clear h;intro w37 hw37 h
 refine ycz rfl rfl rfl (ycc rfl (.p (congrArg (fun z=>PV.v (Value.int .u64 z)) hw37))) (yau (yab (yai ?_)))
 obtain rfl:=osi h
 exact ybh (yid (ybn rfl) (ybn rfl)) zsn ⟨rfl,rfl⟩
def yjy (p0:Int) (p1:Int) (p2:Int) (p3:Int):Option Bool:=cond (p3 == 1) (some (decide (0<p1))) (cond (p3 == 2) (some (decide ((IntKind.u64.wrap (p2 - p1))≤p1))) (cond (p3 == 3) (some ((decide ((IntKind.u64.wrap (p2 - p1))<p1))||((p1 == (IntKind.u64.wrap (p2 - p1)))&&((Int.tmod p0 2) == 1)))) (some false)))
theorem yvj {p0:Int} {p1:Int} {p2:Int} {p3:Int} {r:Bool}  (h:yjy p0 p1 p2 p3=some r):PF 207 [pU p0,pU p1,pU p2,pI p3] (pB r):=by
 unfold yjy at h
 refine ych ?_
 refine ybc Tryz.func207 fk207 rfl Tryz.ntmps207 Tryz.results207 rfl (yaa (yac [] [8] [] fo0 (by kernel_rfl) (yab (yaa (yac [] [10,11,12] [(9,pU (IntKind.u64.wrap (p2 - p1)))] fo0 (by kernel_rfl) (yab (yaa (yaa (yac [] [] [(13,pI p3)] fo0 (by kernel_rfl) (yab (yak (yaa (yac [] [15] [(14,pB (p3 == 1))] fo0 (by kernel_rfl) (yab (zif rfl h (fun hc1 h=>?_) fun hc1 h=>?_)))))))))))))))
 ·refine yaa ?_
  refine yac [] [16,17] [(8,pB (decide (0<p1)))] fo0 (by kernel_rfl) (yab (yai (yaf (yah ?_))))
  obtain rfl:=osi h
  exact zq rfl ⟨rfl,rfl⟩
 refine yaa ?_
 refine yac [] [19] [(18,pB (p3 == 2))] fo0 (by kernel_rfl) (yab (zif rfl h (fun hc2 h=>?_) fun hc2 h=>?_))
 ·refine yaa ?_
  refine yac [] [20,21,22] [(8,pB (decide ((IntKind.u64.wrap (p2 - p1))≤p1)))] fo0 (by kernel_rfl) (yab (yai (yaf (yah ?_))))
  obtain rfl:=osi h
  exact zq rfl ⟨rfl,rfl⟩
 refine yaa ?_
 refine yac [] [24] [(23,pB (p3 == 3))] fo0 (by kernel_rfl) (yab (zif rfl h (fun hc3 h=>?_) fun hc3 h=>?_))
 ·refine yaa ?_
  refine yac [] (rg 25 13) [(8,pB ((decide ((IntKind.u64.wrap (p2 - p1))<p1))||((p1 == (IntKind.u64.wrap (p2 - p1)))&&((Int.tmod p0 2) == 1))))] fo0 (by kernel_rfl) (yab (yai (yaf (yah ?_))))
  obtain rfl:=osi h
  exact zq rfl ⟨rfl,rfl⟩
 refine yag ?_
 refine yal (yab (yaa (yac [] [] [(8,pB false)] fo0 (by kernel_rfl) (yab (yai ?_)))))
 obtain rfl:=osi h
 exact zq rfl ⟨rfl,rfl⟩
def ypj (p0:Zo) (p1:Int) (p2:Int):Option (Int×Int):=cond (((p1 == 0)||(decide (p2<0)))||(decide (3<p2))) (some ((0:Int),(2:Int))) (cond (decide (p1≤p0.Hi)) (some ((0:Int),(3:Int))) (Option.bind (yhg p0.Hi p0.Lo p1) (fun x4=>Option.bind (yjy x4.1 x4.2 p1 p2) (fun x5=>cond (!x5) (some (x4.1,(0:Int))) (cond (x4.1 == 18446744073709551615) (some ((0:Int),(3:Int))) (some ((IntKind.u64.wrap (x4.1+1)),(0:Int))))))))
theorem xbs {p0:Zo} {p1:Int} {p2:Int} {r:(Int×Int)}  (h:ypj p0 p1 p2=some r):PF 185 [.agg [pU p0.Hi,pU p0.Lo],pU p1,pI p2] (.tup [pU r.1,pI r.2]):=by
 unfold ypj at h
 refine ych ?_
 refine ybc Tryz.func185 fk185 rfl Tryz.ntmps185 Tryz.results185 rfl (yaa (yae (yat rfl rfl rfl (ycn (cs:=[pU p0.Hi,pU p0.Lo]) rfl rfl (fun b1=>yan [] [6,7] [] fo0 (by kernel_rfl) (yab (yaa (yaa (yac [] (rg 10 9) [(19,pB (((p1 == 0)||(decide (p2<0)))||(decide (3<p2))))] fo0 (by kernel_rfl) (yab (zif rfl h (fun hc2 h=>?_) fun hc2 h=>?_)))))))))))
 ·refine yaa ?_
  refine yac [] [] [(6,pU 0),(7,pI 2)] fo0 (by kernel_rfl) (yab (yai (yah ?_)))
  obtain rfl:=osi h
  exact ybh (yid (ybn rfl) (ybn rfl)) zsn ⟨rfl,rfl⟩
 refine yag ?_
 refine yab (yaa (yaa (yac [0] [20,21,22] [(23,pB (decide (p1≤p0.Hi)))] fo0 (by kernel_rfl) (yab (zif rfl h (fun hc3 h=>?_) fun hc3 h=>?_)))))
 ·refine yaa ?_
  refine yac [] [] [(6,pU 0),(7,pI 3)] fo0 (by kernel_rfl) (yab (yai (yah ?_)))
  obtain rfl:=osi h
  exact ybh (yid (ybn rfl) (ybn rfl)) zsn ⟨rfl,rfl⟩
 refine yag ?_
 refine yab (yaa (yad h fun x4 hx4 h=>yac [0,0] ((rg 25 6)++[24,31,32]) [(8,pU x4.1),(9,pU x4.2)] (yfg 5 (yrz hx4) fo0) (by kernel_rfl) (yab (yaa (yaa (yad h fun x5 hx5 h=>yac [] (rg 33 5) [(38,pB (!x5))] (yfg 4 (yvj hx5) fo0) (by kernel_rfl) (yab (zif rfl h (fun hc6 h=>?_) fun hc6 h=>?_))))))))
 ·refine yaa ?_
  refine yac [] [39] [(6,pU x4.1),(7,pI 0)] fo0 (by kernel_rfl) (yab (yai (yah ?_)))
  obtain rfl:=osi h
  exact ybh (yid (ybn rfl) (ybn rfl)) zsn ⟨rfl,rfl⟩
 refine yag ?_
 refine yab (yaa (yaa (yac [] [40] [(41,pB (x4.1 == 18446744073709551615))] fo0 (by kernel_rfl) (yab (zif rfl h (fun hc7 h=>?_) fun hc7 h=>?_)))))
 ·refine yaa ?_
  refine yac [] [] [(6,pU 0),(7,pI 3)] fo0 (by kernel_rfl) (yab (yai (yah ?_)))
  obtain rfl:=osi h
  exact ybh (yid (ybn rfl) (ybn rfl)) zsn ⟨rfl,rfl⟩
 refine yag ?_
 refine yab (yaa (yac [] [42,43] [(6,pU (IntKind.u64.wrap (x4.1+1))),(7,pI 0)] fo0 (by kernel_rfl) (yab (yai ?_))))
 obtain rfl:=osi h
 exact ybh (yid (ybn rfl) (ybn rfl)) zsn ⟨rfl,rfl⟩
def yhh (p0:Int) (p1:Int):Option (Int×Int):=lb ((IntKind.u64.wrap ((iand .u64 p0 4294967295)*(iand .u64 p1 4294967295)))) (fun w1=>lb ((IntKind.u64.wrap ((IntKind.u64.wrap ((ishr .u64 p0 32)*(iand .u64 p1 4294967295)))+(ishr .u64 w1 32)))) (fun w2=>lb ((IntKind.u64.wrap ((iand .u64 w2 4294967295)+(IntKind.u64.wrap ((iand .u64 p0 4294967295)*(ishr .u64 p1 32)))))) (fun w3=>lb ((IntKind.u64.wrap ((IntKind.u64.wrap ((IntKind.u64.wrap ((ishr .u64 p0 32)*(ishr .u64 p1 32)))+(ishr .u64 w2 32)))+(ishr .u64 w3 32)))) (fun w4=>some (w4,(IntKind.u64.wrap (p0*p1)))))))
theorem ysa {p0:Int} {p1:Int} {r:(Int×Int)}  (h:yhh p0 p1=some r):PF 208 [pU p0,pU p1] (.tup [pU r.1,pU r.2]):=by
 unfold yhh at h
 refine ych ?_
 refine ybc Tryz.func208 fk208 rfl Tryz.ntmps208 Tryz.results208 rfl (yaa (yac [] [4,5] [] fo0 (by kernel_rfl) (yab (yaa (yac [] [14,15] [(6,pU (iand .u64 p0 4294967295))] fo0 (by kernel_rfl) (yab (yaa (yac [] [16,17] [(7,pU (ishr .u64 p0 32))] fo0 (by kernel_rfl) (yab (yaa (yac [] [18,19] [(8,pU (iand .u64 p1 4294967295))] fo0 (by kernel_rfl) (yab (yaa (yac [] [20,21] [(9,pU (ishr .u64 p1 32))] fo0 (by kernel_rfl) (yab (yaa ?_))))))))))))))))
 refine yhd h ?_;clear h;intro w1 hw1 h
 refine yae (yaj 3 [] [22,23] [(24,pU (IntKind.u64.wrap ((iand .u64 p0 4294967295)*(iand .u64 p1 4294967295))))] fo0 (by kernel_rfl) (ycz rfl rfl rfl (ycc rfl (.p (congrArg (fun z=>PV.v (Value.int .u64 z)) hw1))) (yau (yab (yaa ?_)))))
 refine yhd h ?_;clear h;intro w2 hw2 h
 refine yae (yaj 6 [] (rg 25 5) [(30,pU (IntKind.u64.wrap ((IntKind.u64.wrap ((ishr .u64 p0 32)*(iand .u64 p1 4294967295)))+(ishr .u64 w1 32))))] fo0 (by kernel_rfl) (ycz rfl rfl rfl (ycc rfl (.p (congrArg (fun z=>PV.v (Value.int .u64 z)) hw2))) (yau (yab (yaa (yac [] [31,32] [(12,pU (iand .u64 w2 4294967295))] fo0 (by kernel_rfl) (yab (yaa (yac [] [33,34] [(13,pU (ishr .u64 w2 32))] fo0 (by kernel_rfl) (yab (yaa ?_)))))))))))
 refine yhd h ?_;clear h;intro w3 hw3 h
 refine yae (yaj 5 [] [35,36,37,38] [(39,pU (IntKind.u64.wrap ((iand .u64 w2 4294967295)+(IntKind.u64.wrap ((iand .u64 p0 4294967295)*(ishr .u64 p1 32))))))] fo0 (by kernel_rfl) (ycz rfl rfl rfl (ycc rfl (.p (congrArg (fun z=>PV.v (Value.int .u64 z)) hw3))) (yau (yab (yaa ?_)))))
 refine yhd h ?_;clear h;intro w4 hw4 h
 refine yae (yaj 8 [] (rg 40 7) [(47,pU (IntKind.u64.wrap ((IntKind.u64.wrap ((IntKind.u64.wrap ((ishr .u64 p0 32)*(ishr .u64 p1 32)))+(ishr .u64 w2 32)))+(ishr .u64 w3 32))))] fo0 (by kernel_rfl) (ycz rfl rfl rfl (ycc rfl (.p (congrArg (fun z=>PV.v (Value.int .u64 z)) hw4))) (yau (yab (yaa (yac [] [48,49,50] [(5,pU (IntKind.u64.wrap (p0*p1)))] fo0 (by kernel_rfl) (yab (yai ?_))))))))
 obtain rfl:=osi h
 exact ybh (yid (ybn rfl) (ybn rfl)) zsn ⟨rfl,rfl⟩
def yjz (p0:Int) (p1:Int):Option Zo:=Option.bind (yhh p0 p1) (fun x2=>some (⟨x2.1,x2.2⟩:Zo))
theorem ypk {p0:Int} {p1:Int} {r:Zo}  (h:yjz p0 p1=some r):PF 186 [pU p0,pU p1] (.agg [pU r.Hi,pU r.Lo]):=by
 unfold yjz at h
 refine ych ?_
 refine ybc Tryz.func186 fk186 rfl Tryz.ntmps186 Tryz.results186 rfl (yaa (yae (yat rfl rfl rfl (ybg (cs:=[pU 0,pU 0]) rfl rfl rfl rfl (fun b1=>yau (yab (yaa (yad h fun x2 hx2 h=>yac [] [8,9,10,7,11,12] [(5,pU x2.1),(6,pU x2.2)] (yfg 2 (ysa hx2) fo0) (by kernel_rfl) (yab (yaa (yae (yaj 3 [] [13,14] [(15,.agg [pU x2.1,pU x2.2])] fo0 (by kernel_rfl) (ybq rfl rfl (yaq (vs:=[pU x2.1,pU x2.2]) rfl rfl rfl rfl rfl zuh (zl2) (yau (yab (yai ?_)))))))))))))))))
 obtain rfl:=osi h
 exact ybh (ygn (yjr rfl zm0 rfl)) zsn ⟨rfl,rfl⟩
def ymg (p0:Int) (p1:Int) (p2:Int) (p3:Int):Option (Int×Int):=Option.bind (yjz p0 p1) (fun x1=>Option.bind (ypj x1 p2 p3) (fun x2=>some (x2.1,x2.2)))
theorem yvk {p0:Int} {p1:Int} {p2:Int} {p3:Int} {r:(Int×Int)}  (h:ymg p0 p1 p2 p3=some r):PF 166 [pU p0,pU p1,pU p2,pI p3] (.tup [pU r.1,pI r.2]):=by
 unfold ymg at h
 refine ych ?_
 refine ybc Tryz.func166 fk166 rfl Tryz.ntmps166 Tryz.results166 rfl (yaa (yac [] [8,9] [] fo0 (by kernel_rfl) (yab (yaa (yad h fun x1 hx1 h=>yad h fun x2 hx2 h=>yac [] (rg 10 8) [(8,pU x2.1),(9,pI x2.2)] (yfg 2 (ypk hx1) (yfg 5 (xbs hx2) fo0)) (by kernel_rfl) (yab (yai ?_)))))))
 obtain rfl:=osi h
 exact ybh (yid (ybn rfl) (ybn rfl)) zsn ⟨rfl,rfl⟩
def yfn (p0:Int) (p1:Int) (p2:Int):Option Int:=Option.bind (ymg (IntKind.u64.wrap p0) (IntKind.u64.wrap p1) (IntKind.u64.wrap p2) 1) (fun x1=>cond ((x1.2 != 0)||(decide (1000000000000<x1.1))) (some (1000000000000:Int)) (some (IntKind.i64.wrap x1.1)))
theorem ypl {p0:Int} {p1:Int} {p2:Int} {r:Int}  (h:yfn p0 p1 p2=some r):PF 128 [pI p0,pI p1,pI p2] (pI r):=by
 unfold yfn at h
 refine ych ?_
 refine ybc Tryz.func128 fk128 rfl Tryz.ntmps128 Tryz.results128 rfl (yaa (yac [] [6] [] fo0 (by kernel_rfl) (yab (yaa (yad h fun x1 hx1 h=>yac [] ((rg 10 7)++[9,17,18]) [(7,pU x1.1),(8,pI x1.2)] (yfg 6 (yvk hx1) fo0) (by kernel_rfl) (yab (yaa (yaa (yac [] (rg 19 5) [(24,pB ((x1.2 != 0)||(decide (1000000000000<x1.1))))] fo0 (by kernel_rfl) (yab (zif rfl h (fun hc2 h=>?_) fun hc2 h=>?_)))))))))))
 ·refine yaa ?_
  refine yac [] [] [(6,pI 1000000000000)] fo0 (by kernel_rfl) (yab (yai (yah ?_)))
  obtain rfl:=osi h
  exact zq rfl ⟨rfl,rfl⟩
 refine yag ?_
 refine yab (yaa (yac [] [25,26] [(6,pI (IntKind.i64.wrap x1.1))] fo0 (by kernel_rfl) (yab (yai ?_))))
 obtain rfl:=osi h
 exact zq rfl ⟨rfl,rfl⟩
def yne (p0:(List Int)):Option Int:=Option.bind (loopF (S:=Int) (T:=(Unit)⊕(_)) (fun v1=>cond (decide (v1<(p0.length:Int))) (Option.bind (idx p0 v1) (fun m5=>cond (m5 != 0) (some (.inr (.inr m5))) (some (.inl (IntKind.i64.wrap (v1+1)))))) (some (.inr (.inl ())))) FUEL 0) (fun q=>match q with | .inl _=>some (0:Int) | .inr e=>some e)
theorem yzr {p0:(List Int)} {r:Int}  (h:yne p0=some r):PF 114 [pL eI p0] (pI r):=by
 unfold yne at h
 refine ych ?_
 refine ybc Tryz.func114 fk114 rfl Tryz.ntmps114 Tryz.results114 rfl (yaa (yac [] [2] [] fo0 (by kernel_rfl) (yab (yaa (yac [] [] [(3,pI 0)] fo0 (by kernel_rfl) (yab (yaa (yaa (yac [] [] [(6,pL eI p0),(7,pI (p0.length:Int)),(8,pI 0)] fo0 (by kernel_rfl) (yab (yad h fun q3 hq3 h=>?_)))))))))))
 refine yav (Y:=(Unit)×(Unit)) (fun (_,_)=>[(3,pI 0)]) (fun (_,_)=>[]) (fun (_,_)=>q3=Sum.inl ()) ?_ ?_
 ·refine yak ?_
  refine yay (Y:=Unit) (S:=Int) _ hq3 (fun _ v1=>[(3,pI 0),(6,pL eI p0),(7,pI (p0.length:Int)),(8,pI v1)]) (fun _ v1=>[]) () (zh4 rfl rfl rfl rfl) zsn ?_
  rintro _ v1 o τ hb2;(try dsimp only at hb2);dsimp only [pupds]
  refine yaa (yac [] [] [(9,pB (decide (v1<(p0.length:Int))))] fo0 (by kernel_rfl) (yab (yaa (zif rfl hb2 (fun hc4 hb2=>?_) fun hc4 hb2=>?_))))
  ·refine yag ?_
   refine yab (yaa (yak (yaa (yad hb2 fun m5 hm5 hb2=>yac [] [10,11] [(5,pI m5)] (ymr 0 eI hm5 fo0) (by kernel_rfl) (yab (yaa (yac [] [12,13] [(14,pB (m5 != 0))] fo0 (by kernel_rfl) (yab (zif rfl hb2 (fun hc6 hb2=>?_) fun hc6 hb2=>?_)))))))))
   ·refine yaa ?_
    refine yac [] [15] [(2,pI m5)] fo0 (by kernel_rfl) (yab (yai (yaf (yah ?_))))
    refine yba hb2 (fun ht=>?_);subst ht
    refine yaf (ybb ?_)
    obtain rfl:=osi h
    exact zq rfl ⟨rfl,rfl⟩
   refine yag ?_
   refine yal (yab (yac [] [16] [(8,pI (IntKind.i64.wrap (v1+1)))] fo0 (by kernel_rfl) ?_))
   exact ybu hb2 () (zh4 rfl rfl rfl rfl) zsn
  refine ybd ?_
  refine yap (yam hb2 (fun ht=>yao rfl ?_))
  exact yaz ((),()) (zh1 rfl) zsn ht.symm
 rintro ⟨_,_⟩ τ hz;(try dsimp only at hz);subst q3;(try dsimp only at h);dsimp only [pupds]
 refine yaa (yac [] [17] [(2,pI 0)] fo0 (by kernel_rfl) (yab (yai ?_)))
 obtain rfl:=osi h
 exact zq rfl ⟨rfl,rfl⟩
def yek (p0:Za) (p1:Za):Option Int:=Option.bind (yez p0.Product p1.Product) (fun x3=>Option.bind (yez p0.Agreement p1.Agreement) (fun x4=>Option.bind (yne [x3,x4]) (fun x6=>some x6)))
theorem ylq {p0:Za} {p1:Za} {r:Int}  (h:yek p0 p1=some r):PF 83 [.agg [pI p0.Product,pI p0.Agreement],.agg [pI p1.Product,pI p1.Agreement]] (pI r):=by
 unfold yek at h
 refine ych ?_
 refine ybc Tryz.func83 fk83 rfl Tryz.ntmps83 Tryz.results83 rfl (yaa (yae (yat rfl rfl rfl (ycn (cs:=[pI p0.Product,pI p0.Agreement]) rfl rfl (fun b1=>yat rfl rfl rfl (ycn (cs:=[pI p1.Product,pI p1.Agreement]) rfl rfl (fun b2=>yan [] [4] [] fo0 (by kernel_rfl) (yab (yaa (yei (ρd:=[]) [(0,0),(1,0),(2,0),(3,0),(5,0),(6,0),(7,0),(8,0),(4,1),(9,1),(10,1),(11,1),(12,0)] _ (List.Perm.refl _) (by kernel_rfl) rfl (yad h fun x3 hx3 h=>yad h fun x4 hx4 h=>ycq 10 [1,0,1,0] [5,6,7,8,10,11,12,13] [(9,pI x3),(14,pI x4)] (yfg 8 (yiv hx3) (yfg 9 (yiv hx4) fo0)) (by kernel_rfl) ?_)))))))))))
 refine yuu rfl rfl rfl (pl_fz (ycg rfl rfl rfl rfl rfl (zic rfl (zic rfl zin)) rfl rfl rfl rfl (fun b5=>⟨_,_,_,_,_,_,_,rfl,by (repeat (first | exact zph | apply zpt)),?_⟩)))
 refine yad h fun x6 hx6 h=>ycq 2 [] [16] [(4,pI x6)] (yfg 0 (yzr hx6) fo0) (by kernel_rfl) (ygc (yab (yai ?_)))
 obtain rfl:=osi h
 exact zq rfl ⟨rfl,rfl⟩
def ygu (p0:Zq):Option Zk:=some p0.use
theorem ylv {p0:Zq} {r:Zk}  (h:ygu p0=some r):PF 244 [.agg [pS p0.use.Code,pI p0.use.Value,pB p0.use.Originating,pI p0.premise.Product,pI p0.premise.Agreement]] (.agg [pS r.Code,pI r.Value,pB r.Originating]):=by
 unfold ygu at h
 refine ych ?_
 refine ybc Tryz.func244 fk244 rfl Tryz.ntmps244 Tryz.results244 rfl (yaa (yae (yat rfl rfl rfl (ycn (cs:=[pS p0.use.Code,pI p0.use.Value,pB p0.use.Originating,pI p0.premise.Product,pI p0.premise.Agreement]) rfl rfl (fun b1=>yat rfl rfl rfl (ybg (cs:=[pS ByteArray.empty,pI 0,pB false]) rfl rfl rfl rfl (fun b2=>yau (yab (yaa (yae (yaj 2 [1] [3] [(4,.agg [pS p0.use.Code,pI p0.use.Value,pB p0.use.Originating])] fo0 (by kernel_rfl) (ybq rfl rfl (yaq (vs:=[pS p0.use.Code,pI p0.use.Value,pB p0.use.Originating]) rfl rfl rfl rfl rfl zuh (zl3) (yau (yab (yai ?_))))))))))))))))
 obtain rfl:=osi h
 exact ybh (ygn (yjr rfl zm0 rfl)) zsn ⟨rfl,rfl⟩
def ygy (p0:Zs):Option Zk:=some p0.use
theorem ymp {p0:Zs} {r:Zk}  (h:ygy p0=some r):PF 260 [.agg [pS p0.use.Code,pI p0.use.Value,pB p0.use.Originating]] (.agg [pS r.Code,pI r.Value,pB r.Originating]):=by
 unfold ygy at h
 refine ych ?_
 refine ybc Tryz.func260 fk260 rfl Tryz.ntmps260 Tryz.results260 rfl (yaa (yae (yat rfl rfl rfl (ycn (cs:=[pS p0.use.Code,pI p0.use.Value,pB p0.use.Originating]) rfl rfl (fun b1=>yat rfl rfl rfl (ybg (cs:=[pS ByteArray.empty,pI 0,pB false]) rfl rfl rfl rfl (fun b2=>yau (yab (yaa (yae (yaj 2 [1] [3] [(4,.agg [pS p0.use.Code,pI p0.use.Value,pB p0.use.Originating])] fo0 (by kernel_rfl) (ybq rfl rfl (yaq (vs:=[pS p0.use.Code,pI p0.use.Value,pB p0.use.Originating]) rfl rfl rfl rfl rfl zuh (zl3) (yau (yab (yai ?_))))))))))))))))
 obtain rfl:=osi h
 exact ybh (ygn (yjr rfl zm0 rfl)) zsn ⟨rfl,rfl⟩
def Icumulation_supply_input (x:Ze)  : Option Zk:=match x with | .plain_ a=>ygy a  | .proved_ a=>ygu a
theorem Icumulation_supply_input_ok {x:Ze}  {w:Zk} (h:Icumulation_supply_input x  = some w):PFI x.pv "customs/cumulation.input" [] (.agg [pS w.Code,pI w.Value,pB w.Originating]):=by
 cases x with
 | plain_ a=>exact xbe ⟨fun _ _=>by kernel_rfl⟩ (ymp h)
 | proved_ a=>exact xbe ⟨fun _ _=>by kernel_rfl⟩ (ylv h)
def yix (rec:Zc→Option Zh) (p0:Zc):Option Zh:=Option.bind (loopF (S:=(List Zh)×Int) (T:=((List Zh))) (fun (l3,v6)=>cond (decide (v6<(p0.Args.length:Int))) (Option.bind (idx p0.Args v6) (fun m15=>Option.bind (rec m15) (fun x17=>Option.bind (app 16 l3 [x17]) (fun l20=>some (.inl (l20,(IntKind.i64.wrap (v6+1)))))))) (some (.inr l3))) FUEL (([]:List Zh),0)) (fun l10=>cond (p0.Kind == 5) (some (Zh.every_ l10)) (cond (p0.Kind == 6) (some (Zh.some_ l10)) (some (Zh.single_ (⟨p0⟩:Zt)))))
theorem yto {rec:Zc→Option Zh} (hrec:∀ {p0:Zc} {r:Zh},rec p0=some r→PF 110 [.agg [pI p0.Kind,pI p0.Digits,pL eS p0.Except,pI p0.Tolerance,pI p0.Limit,pS p0.Name,pL Zc.enc p0.Args]] (Zh.pv r)) {p0:Zc} {r:Zh} (h:yix rec p0=some r):PF 110 [.agg [pI p0.Kind,pI p0.Digits,pL eS p0.Except,pI p0.Tolerance,pI p0.Limit,pS p0.Name,pL Zc.enc p0.Args]] (Zh.pv r):=by
 unfold yix at h
 refine ych ?_
 refine ybc Tryz.func110 fk110 rfl Tryz.ntmps110 Tryz.results110 rfl (yaa (yae (yat rfl rfl rfl (ycn (cs:=[pI p0.Kind,pI p0.Digits,pL eS p0.Except,pI p0.Tolerance,pI p0.Limit,pS p0.Name,pL Zc.enc p0.Args]) rfl rfl (fun b1=>yan [] [2] [] fo0 (by kernel_rfl) (yab (yaa (yac [] [] [(3,pN)] fo0 (by kernel_rfl) (yab (yaa (yaa (yac [0] [6] [(7,pL Zc.enc p0.Args),(8,pI (p0.Args.length:Int)),(9,pI 0)] fo0 (by kernel_rfl) (yab (ycr 166 1 (yad h fun q12 hq12 h=>?_)))))))))))))))
 refine yav (Y:=(Option Addr×Nat)×((List Zh))) (fun ((a8,c9),l10)=>[(1,pP b1 0),(3,pO a8 l10.length c9)]) (fun ((a8,c9),l10)=>[PRes.b b1 68 [pI p0.Kind,pI p0.Digits,pL eS p0.Except,pI p0.Tolerance,pI p0.Limit,pS p0.Name,pL Zc.enc p0.Args],PRes.row a8 l10.length c9 166 1 (List.map Zh.enc l10)]) (fun ((a8,c9),l10)=>q12=l10) ?_ ?_
 ·refine yak ?_
  refine yay (Y:=Option Addr×Nat) (S:=(List Zh)×Int) _ hq12 (fun (a4,c5) (l3,v6)=>[(1,pP b1 0),(3,pO a4 l3.length c5),(7,pL Zc.enc p0.Args),(8,pI (p0.Args.length:Int)),(9,pI v6)]) (fun (a4,c5) (l3,v6)=>[PRes.b b1 68 [pI p0.Kind,pI p0.Digits,pL eS p0.Except,pI p0.Tolerance,pI p0.Limit,pS p0.Name,pL Zc.enc p0.Args],PRes.row a4 l3.length c5 166 1 (List.map Zh.enc l3)]) (none,0) (zh5 rfl rfl rfl rfl rfl) (zsc (zpt zph) (zs1)) ?_
  rintro ⟨a4,c5⟩ ⟨l3,v6⟩ o τ hb11;(try dsimp only at hb11);dsimp only [pupds]
  refine yaa (yac [] [] [(10,pB (decide (v6<(p0.Args.length:Int))))] fo0 (by kernel_rfl) (yab (yaa (zif rfl hb11 (fun hc14 hb11=>?_) fun hc14 hb11=>?_))))
  ·refine yag ?_
   refine yab (yaa (yak (yaa (yad hb11 fun m15 hm15 hb11=>yae (yaj 2 [] [11] [(12,.agg [pI m15.Kind,pI m15.Digits,pL eS m15.Except,pI m15.Tolerance,pI m15.Limit,pS m15.Name,pL Zc.enc m15.Args])] (xhp 0 Zc.enc (Zc.enc_eq _) hm15 fo0) (by kernel_rfl) (yat rfl rfl rfl (ybg (cs:=[pI 0,pI 0,pN,pI 0,pI 0,pS ByteArray.empty,pN]) rfl rfl rfl rfl (fun b16=>ybq rfl rfl (yaq (vs:=[pI m15.Kind,pI m15.Digits,pL eS m15.Except,pI m15.Tolerance,pI m15.Limit,pS m15.Name,pL Zc.enc m15.Args]) rfl rfl rfl rfl rfl zuh (zl7) (yau (yab (yad hb11 fun x17 hx17 hb11=>yae (yaj 3 [0] [14] [(13,pO a4 l3.length c5),(15,Zh.pv x17)] (yfg 2 (hrec hx17) fo0) (by kernel_rfl) (yat rfl rfl rfl (ycg rfl rfl rfl rfl rfl (zic rfl zin) rfl rfl rfl rfl (fun b18=>yad hb11 fun l20 hl20 hb11=>?_))))))))))))))))
   refine yat rfl rfl rfl (yci (enc:=Zh.enc) rfl rfl rfl rfl rfl rfl rfl rfl rfl zm0 (by exact zpt (zpt (zpt zph))) hl20 (fun a21 c22=>?_))
   refine yan [] [] [(3,pO a21 l20.length c22)] fo0 (by kernel_rfl) (yal (yab (yac [] [18] [(9,pI (IntKind.i64.wrap (v6+1)))] fo0 (by kernel_rfl) ?_)))
   exact ybu hb11 (a21,c22) (zh5 rfl rfl rfl rfl rfl) (zsc (zpt (zpt (zpt zph))) (zs1))
  refine ybd ?_
  refine yap (yam hb11 (fun ht=>yao rfl ?_))
  exact yaz ((a4,c5),l3) (zh2 rfl rfl) (zs2) ht.symm
 rintro ⟨⟨a8,c9⟩,l10⟩ τ hz;(try dsimp only at hz);subst q12;(try dsimp only at h);dsimp only [pupds]
 refine yaa (yaa (yac [0] [19] [(20,pI p0.Kind)] fo0 (by kernel_rfl) (yab (yak (yaa (yac [] [22] [(21,pB (p0.Kind == 5))] fo0 (by kernel_rfl) (yab (zif rfl h (fun hc24 h=>?_) fun hc24 h=>?_))))))))
 ·refine yaa ?_
  refine yae (yaj 1 [] [] [(23,pO a8 l10.length c9)] fo0 (by kernel_rfl) ?_)
  refine ygq (enc:=Zh.enc) (xs:=l10) 23 rfl (by exact zpt zph) ?_
  refine yaj 1 [] [] [(24,.ifc 196 (pL Zh.enc l10))] fo0 (by kernel_rfl) (xbo 24 rfl (Zh.pv_every_ l10) (yan [] [] [(2,Zh.pv (Zh.every_ l10))] fo0 (by kernel_rfl) (yab (yai (yaf (yah ?_))))))
  obtain rfl:=osi h
  exact zq rfl ⟨rfl,rfl⟩
 refine yaa ?_
 refine yac [] [26] [(25,pB (p0.Kind == 6))] fo0 (by kernel_rfl) (yab (zif rfl h (fun hc25 h=>?_) fun hc25 h=>?_))
 ·refine yaa ?_
  refine yae (yaj 1 [] [] [(27,pO a8 l10.length c9)] fo0 (by kernel_rfl) ?_)
  refine ygq (enc:=Zh.enc) (xs:=l10) 27 rfl (by exact zpt zph) ?_
  refine yaj 1 [] [] [(28,.ifc 197 (pL Zh.enc l10))] fo0 (by kernel_rfl) (xbo 28 rfl (Zh.pv_some_ l10) (yan [] [] [(2,Zh.pv (Zh.some_ l10))] fo0 (by kernel_rfl) (yab (yai (yaf (yah ?_))))))
  obtain rfl:=osi h
  exact zq rfl ⟨rfl,rfl⟩
 refine yag ?_
 refine yal (yab (yaa (yac [0] [29,30,31] [(2,Zh.pv (Zh.single_ (⟨p0⟩:Zt)))] fo0 (by kernel_rfl) (yab (yai ?_)))))
 obtain rfl:=osi h
 exact zq rfl ⟨rfl,rfl⟩
def yiy (n:Nat):Zc→Option Zh:=Nat.rec (motive:=fun _=>Zc→Option Zh) (fun _=>none) (fun _ ih=>yix ih) n
def yvl (p0:Zc):Option Zh:=yiy FUEL p0
theorem yvm (n:Nat):∀ {p0:Zc} {r:Zh},yiy n p0=some r→PF 110 [.agg [pI p0.Kind,pI p0.Digits,pL eS p0.Except,pI p0.Tolerance,pI p0.Limit,pS p0.Name,pL Zc.enc p0.Args]] (Zh.pv r):=by
 induction n with
 | zero=>intros;rename_i h;exact nomatch h
 | succ n ih=>intros;rename_i h;exact yto (fun hr=>ih hr) h
theorem yxb {p0:Zc} {r:Zh} (h:yvl p0=some r):PF 110 [.agg [pI p0.Kind,pI p0.Digits,pL eS p0.Except,pI p0.Tolerance,pI p0.Limit,pS p0.Name,pL Zc.enc p0.Args]] (Zh.pv r):=yvm FUEL h
def ycl (p0:(List ByteArray)) (p1:(ByteArray→Option Bool)):Option Int:=Option.bind (loopF (S:=Int) (T:=(Unit)⊕(_)) (fun v1=>cond (decide (v1<(p0.length:Int))) (Option.bind (idx p0 v1) (fun m5=>Option.bind (p1 m5) (fun x6=>cond x6 (some (.inr (.inr v1))) (some (.inl (IntKind.i64.wrap (v1+1))))))) (some (.inr (.inl ())))) FUEL 0) (fun q=>match q with | .inl _=>some (-1) | .inr e=>some e)
theorem yiz {p0:(List ByteArray)} {p1:(ByteArray→Option Bool)} {r:Int} {g1:PV} (hg1:∀ {y0:ByteArray} {w:Bool},p1 y0=some w→PFV g1 [pS y0] (pB w)) (h:ycl p0 p1=some r):PF 259 [pL eS p0,g1] (pI r):=by
 unfold ycl at h
 refine ych ?_
 refine ybc Tryz.func259 fk259 rfl Tryz.ntmps259 Tryz.results259 rfl (yaa (yac [] [4] [] fo0 (by kernel_rfl) (yab (yaa (yaa (yac [] [6] [(7,pI (p0.length:Int)),(8,pI 0)] fo0 (by kernel_rfl) (yab (yad h fun q3 hq3 h=>?_))))))))
 refine yav (Y:=(Unit)×(Unit)) (fun (_,_)=>[]) (fun (_,_)=>[]) (fun (_,_)=>q3=Sum.inl ()) ?_ ?_
 ·refine yak ?_
  refine yay (Y:=Unit) (S:=Int) _ hq3 (fun _ v1=>[(0,pL eS p0),(1,g1),(7,pI (p0.length:Int)),(8,pI v1)]) (fun _ v1=>[]) () (zh4 rfl rfl rfl rfl) zsn ?_
  rintro _ v1 o τ hb2;(try dsimp only at hb2);dsimp only [pupds]
  refine yaa (yac [] [] [(9,pB (decide (v1<(p0.length:Int))))] fo0 (by kernel_rfl) (yab (yaa (zif rfl hb2 (fun hc4 hb2=>?_) fun hc4 hb2=>?_))))
  ·refine yag ?_
   refine yab (yaa (yak (yaa (yac [] [10] [(5,pI v1)] fo0 (by kernel_rfl) (yab (yaa (yad hb2 fun m5 hm5 hb2=>yad hb2 fun x6 hx6 hb2=>yac [] (rg 11 5) [(16,pB x6)] (ymr 3 eS hm5 (focv 5 (hg1 hx6) fo0)) (by kernel_rfl) (yab (zif rfl hb2 (fun hc7 hb2=>?_) fun hc7 hb2=>?_)))))))))
   ·refine yaa ?_
    refine yac [] [17] [(4,pI v1)] fo0 (by kernel_rfl) (yab (yai (yaf (yah ?_))))
    refine yba hb2 (fun ht=>?_);subst ht
    refine yaf (ybb ?_)
    obtain rfl:=osi h
    exact zq rfl ⟨rfl,rfl⟩
   refine yag ?_
   refine yal (yab (yac [] [18] [(8,pI (IntKind.i64.wrap (v1+1)))] fo0 (by kernel_rfl) ?_))
   exact ybu hb2 () (zh4 rfl rfl rfl rfl) zsn
  refine ybd ?_
  refine yap (yam hb2 (fun ht=>yao rfl ?_))
  exact yaz ((),()) zhn zsn ht.symm
 rintro ⟨_,_⟩ τ hz;(try dsimp only at hz);subst q3;(try dsimp only at h);dsimp only [pupds]
 refine yaa (yac [] [] [(4,pI (-1))] fo0 (by kernel_rfl) (yab (yai ?_)))
 obtain rfl:=osi h
 exact zq rfl ⟨rfl,rfl⟩
def yce (p0:(List ByteArray)) (p1:(ByteArray→Option Bool)):Option Bool:=Option.bind (ycl p0 p1) (fun x1=>some (decide (0≤x1)))
theorem yhw {p0:(List ByteArray)} {p1:(ByteArray→Option Bool)} {r:Bool} {g1:PV} (hg1:∀ {y0:ByteArray} {w:Bool},p1 y0=some w→PFV g1 [pS y0] (pB w)) (h:yce p0 p1=some r):PF 256 [pL eS p0,g1] (pB r):=by
 unfold yce at h
 refine ych ?_
 refine ybc Tryz.func256 fk256 rfl Tryz.ntmps256 Tryz.results256 rfl (yaa (yac [] [4] [] fo0 (by kernel_rfl) (yab (yaa (yad h fun x1 hx1 h=>yac [] [5,6,7,8] [(4,pB (decide (0≤x1)))] (yfg 2 (yiz hg1 hx1) fo0) (by kernel_rfl) (yab (yai ?_)))))))
 obtain rfl:=osi h
 exact zq rfl ⟨rfl,rfl⟩
def ygi (p0:ByteArray) (p1:ByteArray):Option Bool:=Option.bind (ydf p1 p0) (fun x1=>some x1)
theorem ysb {p0:ByteArray} {p1:ByteArray} {r:Bool}  (h:ygi p0 p1=some r):PF 257 [pS p0,.ref [pS p1] 0] (pB r):=by
 unfold ygi at h
 refine ych ?_
 refine ybc Tryz.func257 fk257 rfl Tryz.ntmps257 Tryz.results257 rfl (yaa (yac [] [3] [] fo0 (by kernel_rfl) (yab (yaa (yad h fun x1 hx1 h=>yac [] [4,5,6] [(3,pB x1)] (yfg 2 (yhr hx1) fo0) (by kernel_rfl) (yab (yai ?_)))))))
 obtain rfl:=osi h
 exact zq rfl ⟨rfl,rfl⟩
def yhp (p0:Zc) (p1:ByteArray) (p2:ByteArray):Option Bool:=Option.bind (ssub p1 0 p0.Digits) (fun s3=>Option.bind (ydf p2 s3) (fun x4=>cond x4 (some true) (Option.bind (yce p0.Except (fun y6=>ygi y6 p2)) (fun x7=>some x7))))
theorem ytp {p0:Zc} {p1:ByteArray} {p2:ByteArray} {r:Bool}  (h:yhp p0 p1 p2=some r):PF 254 [.agg [pI p0.Kind,pI p0.Digits,pL eS p0.Except,pI p0.Tolerance,pI p0.Limit,pS p0.Name,pL Zc.enc p0.Args],pS p1,pS p2] (pB r):=by
 unfold yhp at h
 refine ych ?_
 refine ybc Tryz.func254 fk254 rfl Tryz.ntmps254 Tryz.results254 rfl (yaa (yae (yat rfl rfl rfl (ycn (cs:=[pI p0.Kind,pI p0.Digits,pL eS p0.Except,pI p0.Tolerance,pI p0.Limit,pS p0.Name,pL Zc.enc p0.Args]) rfl rfl (fun b1=>yat rfl rfl rfl (ycn (cs:=[pS p2]) rfl rfl (fun b2=>yan [] [6] [] fo0 (by kernel_rfl) (yab (yaa (yaa (yei (ρd:=[]) [(0,0),(1,0),(2,0),(3,0),(4,0),(5,1)] _ (List.Perm.refl _) (by kernel_rfl) rfl (yad h fun s3 hs3 h=>yad h fun x4 hx4 h=>ycq 6 [0,1] (rg 7 5) [(12,pB x4)] (foss 4 hs3 (yfg 5 (yhr hx4) fo0)) (by kernel_rfl) (ygc (yab (zif rfl h (fun hc5 h=>?_) fun hc5 h=>?_)))))))))))))))
 ·refine yaa ?_
  refine yac [] [] [(6,pB true)] fo0 (by kernel_rfl) (yab (yai (yah ?_)))
  obtain rfl:=osi h
  exact zq rfl ⟨rfl,rfl⟩
 refine yag ?_
 refine yab (yaa (yae (yaj 2 [1] [13] [(14,pL eS p0.Except)] fo0 (by kernel_rfl) ?_)))
 refine yrf 5 rfl (by exact zph) ?_
 refine yad h fun x7 hx7 h=>yan [] [15,16] [(6,pB x7)] (yfg 1 (yhw (fun hr=>yur (ysb hr)) hx7) fo0) (by kernel_rfl) (yab (yai ?_))
 obtain rfl:=osi h
 exact zq rfl ⟨rfl,rfl⟩
def ygj (p0:Zo) (p1:Zo):Option Int:=cond ((decide (p0.Hi<p1.Hi))||((p0.Hi == p1.Hi)&&(decide (p0.Lo<p1.Lo)))) (some (-1)) (cond (Zo.eqb p0 p1) (some (0:Int)) (some (1:Int)))
theorem yqq {p0:Zo} {p1:Zo} {r:Int}  (h:ygj p0 p1=some r):PF 258 [.agg [pU p0.Hi,pU p0.Lo],.agg [pU p1.Hi,pU p1.Lo]] (pI r):=by
 unfold ygj at h
 refine ych ?_
 refine ybc Tryz.func258 fk258 rfl Tryz.ntmps258 Tryz.results258 rfl (yaa (yae (yat rfl rfl rfl (ycn (cs:=[pU p0.Hi,pU p0.Lo]) rfl rfl (fun b1=>yat rfl rfl rfl (ycn (cs:=[pU p1.Hi,pU p1.Lo]) rfl rfl (fun b2=>yan [] [4] [] fo0 (by kernel_rfl) (yab (yaa (yak (yaa (yac [1,0,1,0,1,0] (rg 6 19) [(5,pB ((decide (p0.Hi<p1.Hi))||((p0.Hi == p1.Hi)&&(decide (p0.Lo<p1.Lo)))))] fo0 (by kernel_rfl) (yab (zif rfl h (fun hc3 h=>?_) fun hc3 h=>?_))))))))))))))
 ·refine yaa ?_
  refine yac [] [] [(4,pI (-1))] fo0 (by kernel_rfl) (yab (yai (yaf (yah ?_))))
  obtain rfl:=osi h
  exact zq rfl ⟨rfl,rfl⟩
 refine yaa ?_
 refine yac [1,0] [26,27,28] [(25,pB (Zo.eqb p0 p1))] (foeq 2 Zo.eqok243 fo0) (by kernel_rfl) (yab (zif rfl h (fun hc4 h=>?_) fun hc4 h=>?_))
 ·refine yaa ?_
  refine yac [] [] [(4,pI 0)] fo0 (by kernel_rfl) (yab (yai (yaf (yah ?_))))
  obtain rfl:=osi h
  exact zq rfl ⟨rfl,rfl⟩
 refine yag ?_
 refine yal (yab (yaa (yac [] [] [(4,pI 1)] fo0 (by kernel_rfl) (yab (yai ?_)))))
 obtain rfl:=osi h
 exact zq rfl ⟨rfl,rfl⟩
def yjj (p0:Int) (p1:Int) (p2:Int):Option Bool:=Option.bind (yjz (IntKind.u64.wrap p0) 1000000) (fun x1=>Option.bind (yjz (IntKind.u64.wrap p1) (IntKind.u64.wrap p2)) (fun x3=>Option.bind (ygj x1 x3) (fun x5=>some (decide (x5≤0)))))
theorem yqx {p0:Int} {p1:Int} {p2:Int} {r:Bool}  (h:yjj p0 p1 p2=some r):PF 255 [pI p0,pI p1,pI p2] (pB r):=by
 unfold yjj at h
 refine ych ?_
 refine ybc Tryz.func255 fk255 rfl Tryz.ntmps255 Tryz.results255 rfl (yaa (yac [] [6] [] fo0 (by kernel_rfl) (yab (yaa (yad h fun x1 hx1 h=>yae (yaj 3 [] [9,10] [(11,.agg [pU x1.Hi,pU x1.Lo])] (yfg 2 (ypk hx1) fo0) (by kernel_rfl) (yat rfl rfl rfl (ybg (cs:=[pU 0,pU 0]) rfl rfl rfl rfl (fun b2=>ybq rfl rfl (yaq (vs:=[pU x1.Hi,pU x1.Lo]) rfl rfl rfl rfl rfl zuh (zl2) (yau (yab (yaa (yad h fun x3 hx3 h=>yae (yaj 5 [] [12,13,14,15] [(16,.agg [pU x3.Hi,pU x3.Lo])] (yfg 4 (ypk hx3) fo0) (by kernel_rfl) (yat rfl rfl rfl (ybg (cs:=[pU 0,pU 0]) rfl rfl rfl rfl (fun b4=>ybq rfl rfl (yaq (vs:=[pU x3.Hi,pU x3.Lo]) rfl rfl rfl rfl rfl zuh (zl2) (yau (yab (yaa (yad h fun x5 hx5 h=>yac [1,0] [17,18,19,20] [(6,pB (decide (x5≤0)))] (yfg 2 (yqq hx5) fo0) (by kernel_rfl) (yab (yai ?_)))))))))))))))))))))))))
 obtain rfl:=osi h
 exact zq rfl ⟨rfl,rfl⟩
def rule_holds (p0:Zc) (p1:Zn):Option Bool:=Option.bind (loopF (S:=Int×Int×Int×Int) (T:=(Int×Int×Int)) (fun (v3,v4,v5,v6)=>cond (decide (v6<(p1.Inputs.length:Int))) (Option.bind (Option.bind (idx p1.Inputs v6) (fun m17=>cond m17.Originating (some (v3,v4,v5)) (Option.bind (gd (p0.Kind == 2) (yhp p0 p1.Code m17.Code)) (fun x20=>cond ((p0.Kind == 2)&&x20) (some ((IntKind.i64.wrap (v3+m17.Value)),(IntKind.i64.wrap (v4+m17.Value)),(IntKind.i64.wrap (v5+1)))) (some ((IntKind.i64.wrap (v3+m17.Value)),v4,(IntKind.i64.wrap (v5+1)))))))) (fun (v13,v14,v15)=>some (.inl (v13,v14,v15,(IntKind.i64.wrap (v6+1)))))) (some (.inr (v3,v4,v5)))) FUEL (0,0,0,0)) (fun (v7,v8,v9)=>cond (p0.Kind == 1) (some (p1.Obtained&&(v9 == 0))) (cond (p0.Kind == 2) (Option.bind (yjj v8 p0.Tolerance p1.Price) (fun x24=>some x24)) (cond (p0.Kind == 3) (Option.bind (yjj v7 p0.Limit p1.Price) (fun x26=>some x26)) (cond (p0.Kind == 4) (Option.bind (ybv p1.Processes p0.Name) (fun x28=>some x28)) (some false)))))
theorem yzs {p0:Zc} {p1:Zn} {r:Bool}  (h:rule_holds p0 p1=some r):PF 253 [.agg [pI p0.Kind,pI p0.Digits,pL eS p0.Except,pI p0.Tolerance,pI p0.Limit,pS p0.Name,pL Zc.enc p0.Args],.agg [pS p1.Code,pI p1.Price,pB p1.Obtained,pL eS p1.Processes,pL Zk.enc p1.Inputs]] (pB r):=by
 unfold rule_holds at h
 refine ych ?_
 refine ybc Tryz.func253 fk253 rfl Tryz.ntmps253 Tryz.results253 rfl (yaa (yae (yat rfl rfl rfl (ycn (cs:=[pI p0.Kind,pI p0.Digits,pL eS p0.Except,pI p0.Tolerance,pI p0.Limit,pS p0.Name,pL Zc.enc p0.Args]) rfl rfl (fun b1=>yat rfl rfl rfl (ycn (cs:=[pS p1.Code,pI p1.Price,pB p1.Obtained,pL eS p1.Processes,pL Zk.enc p1.Inputs]) rfl rfl (fun b2=>yan [] [4] [] fo0 (by kernel_rfl) (yab (yaa (yac [] [] [(5,pI 0),(6,pI 0),(7,pI 0)] fo0 (by kernel_rfl) (yab (yaa (yaa (yac [0] [10] [(11,pL Zk.enc p1.Inputs),(12,pI (p1.Inputs.length:Int)),(13,pI 0)] fo0 (by kernel_rfl) (yab (yad h fun q11 hq11 h=>?_))))))))))))))))
 refine yav (Y:=(Unit)×(Int×Int×Int)) (fun (_,(v7,v8,v9))=>[(2,pP b1 0),(3,pP b2 0),(5,pI v7),(6,pI v8),(7,pI v9)]) (fun (_,(v7,v8,v9))=>[PRes.b b1 68 [pI p0.Kind,pI p0.Digits,pL eS p0.Except,pI p0.Tolerance,pI p0.Limit,pS p0.Name,pL Zc.enc p0.Args],PRes.b b2 73 [pS p1.Code,pI p1.Price,pB p1.Obtained,pL eS p1.Processes,pL Zk.enc p1.Inputs]]) (fun (_,(v7,v8,v9))=>q11=(v7,v8,v9)) ?_ ?_
 ·refine yak ?_
  refine yay (Y:=Unit) (S:=Int×Int×Int×Int) _ hq11 (fun _ (v3,v4,v5,v6)=>[(2,pP b1 0),(3,pP b2 0),(5,pI v3),(6,pI v4),(7,pI v5),(11,pL Zk.enc p1.Inputs),(12,pI (p1.Inputs.length:Int)),(13,pI v6)]) (fun _ (v3,v4,v5,v6)=>[PRes.b b1 68 [pI p0.Kind,pI p0.Digits,pL eS p0.Except,pI p0.Tolerance,pI p0.Limit,pS p0.Name,pL Zc.enc p0.Args],PRes.b b2 73 [pS p1.Code,pI p1.Price,pB p1.Obtained,pL eS p1.Processes,pL Zk.enc p1.Inputs]]) () (zh8 rfl rfl rfl rfl rfl rfl rfl rfl) (zsc (zpt zph) (zs1)) ?_
  rintro _ ⟨v3,v4,v5,v6⟩ o τ hb10;(try dsimp only at hb10);dsimp only [pupds]
  refine yaa (yac [] [] [(14,pB (decide (v6<(p1.Inputs.length:Int))))] fo0 (by kernel_rfl) (yab (yaa (zif rfl hb10 (fun hc12 hb10=>?_) fun hc12 hb10=>?_))))
  ·refine yag ?_
   refine yab (yaa (yad hb10 fun q16 hq16 hb10=>?_))
   refine yav (Y:=(Unit)×(Int×Int×Int)) (fun (_,(v13,v14,v15))=>[(2,pP b1 0),(3,pP b2 0),(5,pI v13),(6,pI v14),(7,pI v15),(11,pL Zk.enc p1.Inputs),(12,pI (p1.Inputs.length:Int)),(13,pI v6)]) (fun (_,(v13,v14,v15))=>[PRes.b b1 68 [pI p0.Kind,pI p0.Digits,pL eS p0.Except,pI p0.Tolerance,pI p0.Limit,pS p0.Name,pL Zc.enc p0.Args],PRes.b b2 73 [pS p1.Code,pI p1.Price,pB p1.Obtained,pL eS p1.Processes,pL Zk.enc p1.Inputs]]) (fun (_,(v13,v14,v15))=>q16=(v13,v14,v15)) ?_ ?_
   ·skip
    refine yak (yaa (yad hq16 fun m17 hm17 hq16=>yae (yaj 2 [] [15] [(16,.agg [pS m17.Code,pI m17.Value,pB m17.Originating])] (ymr 0 Zk.enc hm17 fo0) (by kernel_rfl) (yat rfl rfl rfl (ybg (cs:=[pS ByteArray.empty,pI 0,pB false]) rfl rfl rfl rfl (fun b18=>ybq rfl rfl (yaq (vs:=[pS m17.Code,pI m17.Value,pB m17.Originating]) rfl rfl rfl rfl rfl zuh (zl3) (yau (yab (yaa (yaa (yac [0] [17] [(18,pB m17.Originating)] fo0 (by kernel_rfl) (yab (zif rfl hq16 (fun hc19 hq16=>?_) fun hc19 hq16=>?_))))))))))))))
    ·refine ybd ?_
     refine yap (yao rfl ?_)
     obtain rfl:=osi hq16
     exact yaz ((),(v3,v4,v5)) (zh8 rfl rfl rfl rfl rfl rfl rfl rfl) (zsc (zpt zph) (zsc (zpt zph) zsn)) rfl
    refine yag ?_
    refine yab (yaa (yac [] [19,20] [(7,pI (IntKind.i64.wrap (v5+1)))] fo0 (by kernel_rfl) (yab (yaa (yac [0] [21,22,23,24] [(5,pI (IntKind.i64.wrap (v3+m17.Value)))] fo0 (by kernel_rfl) (yab (yaa (yad hq16 fun x20 hx20 hq16=>yac [1,1,2,0] (rg 25 10) [(35,pB ((p0.Kind == 2)&&x20))] (ylk 9 (fun hc=>ytp (yoq hx20 hc)) fo0) (by kernel_rfl) (yab (zif rfl hq16 (fun hc21 hq16=>?_) fun hc21 hq16=>?_))))))))))
    ·refine yac [0] [36,37,38,39] [(6,pI (IntKind.i64.wrap (v4+m17.Value)))] fo0 (by kernel_rfl) ?_
     refine yal ?_
     obtain rfl:=osi hq16
     exact yaz ((),((IntKind.i64.wrap (v3+m17.Value)),(IntKind.i64.wrap (v4+m17.Value)),(IntKind.i64.wrap (v5+1)))) (zh8 rfl rfl rfl rfl rfl rfl rfl rfl) (zsc (zpt zph) (zsc (zpt zph) zsn)) rfl
    refine yag ?_
    refine yal ?_
    obtain rfl:=osi hq16
    exact yaz ((),((IntKind.i64.wrap (v3+m17.Value)),v4,(IntKind.i64.wrap (v5+1)))) (zh8 rfl rfl rfl rfl rfl rfl rfl rfl) (zsc (zpt zph) (zsc (zpt zph) zsn)) rfl
   rintro ⟨_,⟨v13,v14,v15⟩⟩ τ hz;(try dsimp only at hz);subst q16;(try dsimp only at hb10);dsimp only [pupds]
   refine yac [] [40] [(13,pI (IntKind.i64.wrap (v6+1)))] fo0 (by kernel_rfl) ?_
   exact ybu hb10 () (zh8 rfl rfl rfl rfl rfl rfl rfl rfl) (zs2)
  refine ybd ?_
  refine yap (yam hb10 (fun ht=>yao rfl ?_))
  exact yaz ((),(v3,v4,v5)) (zh5 rfl rfl rfl rfl rfl) (zs2) ht.symm
 rintro ⟨_,⟨v7,v8,v9⟩⟩ τ hz;(try dsimp only at hz);subst q11;(try dsimp only at h);dsimp only [pupds]
 refine yaa (yaa (yac [0] [41] [(42,pI p0.Kind)] fo0 (by kernel_rfl) (yab (yak (yaa (yac [] [44] [(43,pB (p0.Kind == 1))] fo0 (by kernel_rfl) (yab (zif rfl h (fun hc22 h=>?_) fun hc22 h=>?_))))))))
 ·refine yaa ?_
  refine yac [1] (rg 45 6) [(4,pB (p1.Obtained&&(v9 == 0)))] fo0 (by kernel_rfl) (yab (yai (yaf (yah ?_))))
  obtain rfl:=osi h
  exact zq rfl ⟨rfl,rfl⟩
 refine yaa ?_
 refine yac [] [52] [(51,pB (p0.Kind == 2))] fo0 (by kernel_rfl) (yab (zif rfl h (fun hc23 h=>?_) fun hc23 h=>?_))
 ·refine yaa ?_
  refine yad h fun x24 hx24 h=>yac [0,1] (rg 53 6) [(4,pB x24)] (yfg 5 (yqx hx24) fo0) (by kernel_rfl) (yab (yai (yaf (yah ?_))))
  obtain rfl:=osi h
  exact zq rfl ⟨rfl,rfl⟩
 refine yaa ?_
 refine yac [] [60] [(59,pB (p0.Kind == 3))] fo0 (by kernel_rfl) (yab (zif rfl h (fun hc25 h=>?_) fun hc25 h=>?_))
 ·refine yaa ?_
  refine yad h fun x26 hx26 h=>yac [0,1] (rg 61 6) [(4,pB x26)] (yfg 5 (yqx hx26) fo0) (by kernel_rfl) (yab (yai (yaf (yah ?_))))
  obtain rfl:=osi h
  exact zq rfl ⟨rfl,rfl⟩
 refine yaa ?_
 refine yac [] [68] [(67,pB (p0.Kind == 4))] fo0 (by kernel_rfl) (yab (zif rfl h (fun hc27 h=>?_) fun hc27 h=>?_))
 ·refine yaa ?_
  refine yad h fun x28 hx28 h=>yac [1,0] (rg 69 5) [(4,pB x28)] (yfg 4 (yct hx28) fo0) (by kernel_rfl) (yab (yai (yaf (yah ?_))))
  obtain rfl:=osi h
  exact zq rfl ⟨rfl,rfl⟩
 refine yag ?_
 refine yal (yab (yaa (yac [] [] [(4,pB false)] fo0 (by kernel_rfl) (yab (yai ?_)))))
 obtain rfl:=osi h
 exact zq rfl ⟨rfl,rfl⟩
def yeq (rec:Zh→Zn→Option ((List Int)×Bool)) (p0:(List Zh)) (p1:Zn):Option ((List Int)×Bool):=Option.bind (loopF (S:=(List Int)×Int) (T:=((List Int))⊕(_)) (fun (l3,v6)=>cond (decide (v6<(p0.length:Int))) (Option.bind (idx p0 v6) (fun m15=>Option.bind (rec m15 p1) (fun x16=>cond (!x16.2) (some (.inr (.inr ([],false)))) (Option.bind (app 8 l3 x16.1) (fun l18=>some (.inl (l18,(IntKind.i64.wrap (v6+1))))))))) (some (.inr (.inl l3)))) FUEL (([]:List Int),0)) (fun q=>match q with | .inl l10=>some (l10,true) | .inr e=>some e)
theorem yog {rec:Zh→Zn→Option ((List Int)×Bool)} (hrec:∀ {x:Zh} {y0:Zn} {w:((List Int)×Bool)},rec x y0=some w→PFI x.pv "customs/rule.witness" [.agg [pS y0.Code,pI y0.Price,pB y0.Obtained,pL eS y0.Processes,pL Zk.enc y0.Inputs]] (.tup [pL eI w.1,pB w.2])) {p0:(List Zh)} {p1:Zn} {r:((List Int)×Bool)} (h:yeq rec p0 p1=some r):PF 246 [pL Zh.enc p0,.agg [pS p1.Code,pI p1.Price,pB p1.Obtained,pL eS p1.Processes,pL Zk.enc p1.Inputs]] (.tup [pL eI r.1,pB r.2]):=by
 unfold yeq at h
 refine ych ?_
 refine ybc Tryz.func246 fk246 rfl Tryz.ntmps246 Tryz.results246 rfl (yaa (yae (yat rfl rfl rfl (ycn (cs:=[pS p1.Code,pI p1.Price,pB p1.Obtained,pL eS p1.Processes,pL Zk.enc p1.Inputs]) rfl rfl (fun b1=>yan [] [4,5] [] fo0 (by kernel_rfl) (yab (yaa (yac [] [] [(6,pN)] fo0 (by kernel_rfl) (yab (yaa (yaa (yac [] [] [(11,pL Zh.enc p0),(12,pI (p0.length:Int)),(13,pI 0)] fo0 (by kernel_rfl) (yab (ycr 3 1 (yad h fun q12 hq12 h=>?_)))))))))))))))
 refine yav (Y:=(Option Addr×Nat)×((List Int))) (fun ((a8,c9),l10)=>[(6,pO a8 l10.length c9)]) (fun ((a8,c9),l10)=>[PRes.row a8 l10.length c9 3 1 (List.map eI l10)]) (fun ((a8,c9),l10)=>q12=Sum.inl l10) ?_ ?_
 ·refine yak ?_
  refine yay (Y:=Option Addr×Nat) (S:=(List Int)×Int) _ hq12 (fun (a4,c5) (l3,v6)=>[(3,pP b1 0),(6,pO a4 l3.length c5),(11,pL Zh.enc p0),(12,pI (p0.length:Int)),(13,pI v6)]) (fun (a4,c5) (l3,v6)=>[PRes.b b1 73 [pS p1.Code,pI p1.Price,pB p1.Obtained,pL eS p1.Processes,pL Zk.enc p1.Inputs],PRes.row a4 l3.length c5 3 1 (List.map eI l3)]) (none,0) (zh5 rfl rfl rfl rfl rfl) (zsc (zpt zph) (zs1)) ?_
  rintro ⟨a4,c5⟩ ⟨l3,v6⟩ o τ hb11;(try dsimp only at hb11);dsimp only [pupds]
  refine yaa (yac [] [] [(14,pB (decide (v6<(p0.length:Int))))] fo0 (by kernel_rfl) (yab (yaa (zif rfl hb11 (fun hc14 hb11=>?_) fun hc14 hb11=>?_))))
  ·refine yag ?_
   refine yab (yaa (yak (yaa (yad hb11 fun m15 hm15 hb11=>yac [] [15,16] [(8,Zh.pv m15)] (ymr 0 Zh.enc hm15 fo0) (by kernel_rfl) (yab (yaa (yad hb11 fun x16 hx16 hb11=>yac [0] [18,19,20,17,21,22] [(9,pL eI x16.1),(10,pB x16.2)] (foci 2 (hrec hx16) fo0) (by kernel_rfl) (yab (yaa (yaa (yac [] [23] [(24,pB (!x16.2))] fo0 (by kernel_rfl) (yab (zif rfl hb11 (fun hc17 hb11=>?_) fun hc17 hb11=>?_)))))))))))))
   ·refine yaa ?_
    refine yac [] [] [(4,pN),(5,pB false)] fo0 (by kernel_rfl) (yab (ynw 4 rfl (yai (yah (yaf (yah ?_))))))
    refine yba hb11 (fun ht=>?_);subst ht
    refine yaf (ybb ?_)
    obtain rfl:=osi h
    exact ybh (yid (ybn rfl) (ybn rfl)) zsn ⟨rfl,rfl⟩
   refine yag ?_
   refine yab (yad hb11 fun l18 hl18 hb11=>yae (yaj 2 [] [] [(25,pO a4 l3.length c5),(26,pL eI x16.1)] fo0 (by kernel_rfl) ?_))
   refine yat rfl rfl rfl (ylz (enc:=eI) rfl rfl rfl rfl rfl (fun _=>rfl) rfl rfl rfl (by exact zpt zph) hl18 (fun a19 c20=>?_))
   refine yan [] [] [(6,pO a19 l18.length c20)] fo0 (by kernel_rfl) (yal (yab (yac [] [28] [(13,pI (IntKind.i64.wrap (v6+1)))] fo0 (by kernel_rfl) ?_)))
   exact ybu hb11 (a19,c20) (zh5 rfl rfl rfl rfl rfl) (zsc (zpt zph) (zs1))
  refine ybd ?_
  refine yap (yam hb11 (fun ht=>yao rfl ?_))
  exact yaz ((a4,c5),l3) (zh1 rfl) (zsc (zpt zph) zsn) ht.symm
 rintro ⟨⟨a8,c9⟩,l10⟩ τ hz;(try dsimp only at hz);subst q12;(try dsimp only at h);dsimp only [pupds]
 refine yaa (yac [] [29] [(4,pO a8 l10.length c9),(5,pB true)] fo0 (by kernel_rfl) (yab ?_))
 refine yhl (enc:=eI) (xs:=l10) 4 rfl (by exact zph) ?_
 refine yai ?_
 obtain rfl:=osi h
 exact ybh (yid (ybn rfl) (ybn rfl)) zsn ⟨rfl,rfl⟩
def ygv (p1:Int):Option (List Int):=Option.bind (mk0 8 p1) (fun _=>some [])
theorem yos {p1:Int} {r:(List Int)} (h:ygv p1=some r):PCall 250 [.v (.slice none 0 0),pI p1] [] (fun pv ρ'=>∃ a c,pv=.v (.slice a r.length c)∧ρ'=[PRes.row a r.length c 3 1 (List.map eI r)]):=by
 unfold ygv at h
 obtain ⟨u,hu,h⟩:=Option.bind_eq_some_iff.1 h
 obtain rfl:=osi h
 obtain ⟨hg0,hg1⟩:=mk0_le hu
 have ew:IntKind.i64.wrap (p1 - IntKind.i64.wrap (((0:Nat):Int) - ((0:Nat):Int)))=p1:=xbq hg0 hg1
 refine ybc Tryz.func250 fk250 rfl Tryz.ntmps250 Tryz.results250 rfl ?_
 (repeat refine yaa ?_)
 refine yac [] [4] [] fo0 (by kernel_rfl) (yab ?_)
 (repeat refine yaa ?_)
 refine yac [] [5] [(6,pB (decide (p1<0)))] fo0 (by kernel_rfl) (yab ?_)
 refine yio rfl (fun hc=>absurd (of_decide_eq_true hc) (by omega)) (fun hc=>?_)
 refine yag (yab ?_)
 (repeat refine yaa ?_)
 refine yae (yaj 2 [] [] [(8,pI p1),(9,.v (.slice none 0 0))] fo0 (by kernel_rfl) (ycz rfl rfl rfl (yzo rfl rfl (.p rfl)) (yan [] [11,12,13,14] [(1,pI (IntKind.i64.wrap (p1 - IntKind.i64.wrap (((0:Nat):Int) - ((0:Nat):Int)))))] fo0 (by kernel_rfl) ?_)))
 rw [ew]
 refine yab ?_
 (repeat refine yaa ?_)
 refine yac [] [15] [(16,pB (decide (0<p1)))] fo0 (by kernel_rfl) (yab ?_)
 refine yio rfl (fun hc=>?_) (fun hc=>?_)
 ·refine yae ?_
  refine yaj 2 [] [] [(17,.v (.slice none 0 0)),(18,.v (.slice none 0 0))] fo0 (by kernel_rfl) (ycz rfl rfl rfl (yzo rfl rfl (.p rfl)) (ycz rfl rfl rfl (yrx rfl rfl rfl (.p rfl) (.p rfl) rfl (Nat.zero_le _)) (yaj 1 [] [] [(21,pI p1)] fo0 (by kernel_rfl) (yxr 3 1 ?_))))
  refine yat rfl rfl rfl (xge rfl rfl rfl rfl rfl rfl rfl rfl (of_decide_eq_true hc) hu (by exact zph) (fun a c hac=>?_))
  refine yaj 2 [] [] [(23,.v (.slice none 0 0)),(24,pI 0)] fo0 (by kernel_rfl) (ycz rfl rfl rfl (yrx (k:=0) rfl rfl rfl (.p rfl) (.p rfl) rfl (Nat.zero_le _)) (yan [] [] [(0,.v (.slice a 0 c))] fo0 (by kernel_rfl) (yab ?_)))
  (repeat refine yaa ?_)
  refine yac [] [26] [(4,.v (.slice a 0 c))] fo0 (by kernel_rfl) (yab (yai ?_))
  exact ybh (ygn (ybn rfl)) (zs1) ⟨_,_,rfl,rfl⟩
 refine yag ?_
 refine yab ?_
 (repeat refine yaa ?_)
 refine yac [] [26] [(4,.v (.slice none 0 0))] fo0 (by kernel_rfl) (yab (ycr 3 1 (yai ?_)))
 exact ybh (ygn (ybn rfl)) (zs1) ⟨_,_,rfl,rfl⟩
def ydi (p0:(List (List Int))):Option (List Int):=Option.bind (loopF (S:=Int×Int) (T:=(Int)) (fun (v1,v2)=>cond (decide (v2<(p0.length:Int))) (Option.bind (idx p0 v2) (fun m7=>cond (decide ((IntKind.i64.wrap (v1+(m7.length:Int)))<0)) (none) (some (.inl ((IntKind.i64.wrap (v1+(m7.length:Int))),(IntKind.i64.wrap (v2+1))))))) (some (.inr v1))) FUEL (0,0)) (fun v3=>Option.bind (ygv v3) (fun x9=>Option.bind (loopF (S:=(List Int)×Int) (T:=((List Int))) (fun (l14,v17)=>cond (decide (v17<(p0.length:Int))) (Option.bind (idx p0 v17) (fun m25=>Option.bind (app 8 l14 m25) (fun l26=>some (.inl (l26,(IntKind.i64.wrap (v17+1))))))) (some (.inr l14))) FUEL (x9,0)) (fun l21=>some l21)))
theorem ynf {p0:(List (List Int))} {r:(List Int)}  (h:ydi p0=some r):PCall 249 [pL (eL eI) p0] [] (fun pv ρ'=>∃ a c,pv=.v (.slice a r.length c)∧ρ'=[PRes.row a r.length c 3 1 (List.map eI r)]):=by
 unfold ydi at h
 refine ybc Tryz.func249 fk249 rfl Tryz.ntmps249 Tryz.results249 rfl (yaa (yac [] [2] [] fo0 (by kernel_rfl) (yab (yaa (yac [] [] [(3,pI 0)] fo0 (by kernel_rfl) (yab (yaa (yaa (yac [] [] [(9,pL (eL eI) p0),(10,pI (p0.length:Int)),(11,pI 0)] fo0 (by kernel_rfl) (yab (yad h fun q5 hq5 h=>?_)))))))))))
 refine yav (Y:=(Unit)×(Int)) (fun (_,v3)=>[(0,pL (eL eI) p0),(3,pI v3)]) (fun (_,v3)=>[]) (fun (_,v3)=>q5=v3) ?_ ?_
 ·refine yak ?_
  refine yay (Y:=Unit) (S:=Int×Int) _ hq5 (fun _ (v1,v2)=>[(0,pL (eL eI) p0),(3,pI v1),(9,pL (eL eI) p0),(10,pI (p0.length:Int)),(11,pI v2)]) (fun _ (v1,v2)=>[]) () (zh5 rfl rfl rfl rfl rfl) zsn ?_
  rintro _ ⟨v1,v2⟩ o τ hb4;(try dsimp only at hb4);dsimp only [pupds]
  refine yaa (yac [] [] [(12,pB (decide (v2<(p0.length:Int))))] fo0 (by kernel_rfl) (yab (yaa (zif rfl hb4 (fun hc6 hb4=>?_) fun hc6 hb4=>?_))))
  ·refine yag ?_
   refine yab (yaa (yak (yaa (yad hb4 fun m7 hm7 hb4=>yac [] [13,14] [(5,pL eI m7)] (ymr 0 (eL eI) hm7 fo0) (by kernel_rfl) (yab (yaa (yac [] [15,16,17,18] [(3,pI (IntKind.i64.wrap (v1+(m7.length:Int))))] fo0 (by kernel_rfl) (yab (yaa (yac [] [19] [(20,pB (decide ((IntKind.i64.wrap (v1+(m7.length:Int)))<0)))] fo0 (by kernel_rfl) (yab (zif rfl hb4 (fun hc8 hb4=>?_) fun hc8 hb4=>?_))))))))))))
   ·refine yae ?_
    exact absurd hb4 (by simp)
   refine yag ?_
   refine yal (yab (yac [] [22] [(11,pI (IntKind.i64.wrap (v2+1)))] fo0 (by kernel_rfl) ?_))
   exact ybu hb4 () (zh5 rfl rfl rfl rfl rfl) zsn
  refine ybd ?_
  refine yap (yam hb4 (fun ht=>yao rfl ?_))
  exact yaz ((),v1) (zh2 rfl rfl) zsn ht.symm
 rintro ⟨_,v3⟩ τ hz;(try dsimp only at hz);subst q5;(try dsimp only at h);dsimp only [pupds]
 refine yaa (yad h fun x9 hx9 h=>yae (yaj 1 [] [] [(23,pI v3)] fo0 (by kernel_rfl) ?_))
 refine yat rfl rfl rfl (ybj rfl rfl (ρ1:=[]) (List.Perm.refl _) (yos hx9) ?_);rintro _ _ ⟨a10,c11,rfl,rfl⟩
 refine yan [] [] [(6,pO a10 x9.length c11)] fo0 (by kernel_rfl) (yab (yaa (yaa (yac [] [] [(25,pL (eL eI) p0),(26,pI (p0.length:Int)),(27,pI 0)] fo0 (by kernel_rfl) (yab (yad h fun q23 hq23 h=>?_))))))
 refine yav (Y:=(Option Addr×Nat)×((List Int))) (fun ((a19,c20),l21)=>[(6,pO a19 l21.length c20)]) (fun ((a19,c20),l21)=>[PRes.row a19 l21.length c20 3 1 (List.map eI l21)]) (fun ((a19,c20),l21)=>q23=l21) ?_ ?_
 ·refine yak ?_
  refine yay (Y:=Option Addr×Nat) (S:=(List Int)×Int) _ hq23 (fun (a15,c16) (l14,v17)=>[(6,pO a15 l14.length c16),(25,pL (eL eI) p0),(26,pI (p0.length:Int)),(27,pI v17)]) (fun (a15,c16) (l14,v17)=>[PRes.row a15 l14.length c16 3 1 (List.map eI l14)]) (a10,c11) (zh4 rfl rfl rfl rfl) (zs1) ?_
  rintro ⟨a15,c16⟩ ⟨l14,v17⟩ o τ hb22;(try dsimp only at hb22);dsimp only [pupds]
  refine yaa (yac [] [] [(28,pB (decide (v17<(p0.length:Int))))] fo0 (by kernel_rfl) (yab (yaa (zif rfl hb22 (fun hc24 hb22=>?_) fun hc24 hb22=>?_))))
  ·refine yag ?_
   refine yab (yaa (yak (yaa (yad hb22 fun m25 hm25 hb22=>yac [] [29,30] [(8,pL eI m25)] (ymr 0 (eL eI) hm25 fo0) (by kernel_rfl) (yab (yad hb22 fun l26 hl26 hb22=>yae (yaj 2 [] [] [(31,pO a15 l14.length c16),(32,pL eI m25)] fo0 (by kernel_rfl) ?_)))))))
   refine yat rfl rfl rfl (ylz (enc:=eI) rfl rfl rfl rfl rfl (fun _=>rfl) rfl rfl rfl (by exact zph) hl26 (fun a27 c28=>?_))
   refine yan [] [] [(6,pO a27 l26.length c28)] fo0 (by kernel_rfl) (yal (yab (yac [] [34] [(27,pI (IntKind.i64.wrap (v17+1)))] fo0 (by kernel_rfl) ?_)))
   exact ybu hb22 (a27,c28) (zh4 rfl rfl rfl rfl) (zs1)
  refine ybd ?_
  refine yap (yam hb22 (fun ht=>yao rfl ?_))
  exact yaz ((a15,c16),l14) (zh1 rfl) (zs1) ht.symm
 rintro ⟨⟨a19,c20⟩,l21⟩ τ hz;(try dsimp only at hz);subst q23;(try dsimp only at h);dsimp only [pupds]
 refine yaa (yac [] [35] [(2,pO a19 l21.length c20)] fo0 (by kernel_rfl) (yab (yai ?_)))
 obtain rfl:=osi h
 exact ybh (ygn (ybn rfl)) (zs1) ⟨_,_,rfl,rfl⟩
def yfa (rec:Zh→Zn→Option ((List Int)×Bool)) (p0:(List Zh)) (p1:Zn):Option ((List Int)×Bool):=Option.bind (loopF (S:=Int) (T:=(Unit)⊕(_)) (fun v2=>cond (decide (v2<(p0.length:Int))) (Option.bind (idx p0 v2) (fun m6=>Option.bind (rec m6 p1) (fun x7=>cond x7.2 (Option.bind (ydi [[v2],x7.1]) (fun x13=>some (.inr (.inr (x13,true))))) (some (.inl (IntKind.i64.wrap (v2+1))))))) (some (.inr (.inl ())))) FUEL 0) (fun q=>match q with | .inl _=>some ([],false) | .inr e=>some e)
theorem yot {rec:Zh→Zn→Option ((List Int)×Bool)} (hrec:∀ {x:Zh} {y0:Zn} {w:((List Int)×Bool)},rec x y0=some w→PFI x.pv "customs/rule.witness" [.agg [pS y0.Code,pI y0.Price,pB y0.Obtained,pL eS y0.Processes,pL Zk.enc y0.Inputs]] (.tup [pL eI w.1,pB w.2])) {p0:(List Zh)} {p1:Zn} {r:((List Int)×Bool)} (h:yfa rec p0 p1=some r):PF 248 [pL Zh.enc p0,.agg [pS p1.Code,pI p1.Price,pB p1.Obtained,pL eS p1.Processes,pL Zk.enc p1.Inputs]] (.tup [pL eI r.1,pB r.2]):=by
 unfold yfa at h
 refine ych ?_
 refine ybc Tryz.func248 fk248 rfl Tryz.ntmps248 Tryz.results248 rfl (yaa (yae (yat rfl rfl rfl (ycn (cs:=[pS p1.Code,pI p1.Price,pB p1.Obtained,pL eS p1.Processes,pL Zk.enc p1.Inputs]) rfl rfl (fun b1=>yan [] [4,5] [] fo0 (by kernel_rfl) (yab (yaa (yaa (yac [] [] [(10,pL Zh.enc p0),(11,pI (p0.length:Int)),(12,pI 0)] fo0 (by kernel_rfl) (yab (yad h fun q4 hq4 h=>?_)))))))))))
 refine yav (Y:=(Unit)×(Unit)) (fun (_,_)=>[]) (fun (_,_)=>[]) (fun (_,_)=>q4=Sum.inl ()) ?_ ?_
 ·refine yak ?_
  refine yay (Y:=Unit) (S:=Int) _ hq4 (fun _ v2=>[(3,pP b1 0),(10,pL Zh.enc p0),(11,pI (p0.length:Int)),(12,pI v2)]) (fun _ v2=>[PRes.b b1 73 [pS p1.Code,pI p1.Price,pB p1.Obtained,pL eS p1.Processes,pL Zk.enc p1.Inputs]]) () (zh4 rfl rfl rfl rfl) (zs1) ?_
  rintro _ v2 o τ hb3;(try dsimp only at hb3);dsimp only [pupds]
  refine yaa (yac [] [] [(13,pB (decide (v2<(p0.length:Int))))] fo0 (by kernel_rfl) (yab (yaa (zif rfl hb3 (fun hc5 hb3=>?_) fun hc5 hb3=>?_))))
  ·refine yag ?_
   refine yab (yaa (yak (yaa (yad hb3 fun m6 hm6 hb3=>yac [] [14,15,16] [(6,pI v2),(7,Zh.pv m6)] (ymr 1 Zh.enc hm6 fo0) (by kernel_rfl) (yab (yaa (yad hb3 fun x7 hx7 hb3=>yac [0] [18,19,20,17,21,22] [(8,pL eI x7.1),(9,pB x7.2)] (foci 2 (hrec hx7) fo0) (by kernel_rfl) (yab (yaa (yac [] [] [(23,pB x7.2)] fo0 (by kernel_rfl) (yab (zif rfl hb3 (fun hc8 hb3=>?_) fun hc8 hb3=>?_))))))))))))
   ·refine yaa ?_
    refine yae (yaj 1 [] [] [(24,pI v2)] fo0 (by kernel_rfl) (yat rfl rfl rfl (ycg rfl rfl rfl rfl rfl (zic rfl zin) rfl rfl rfl rfl (fun b9=>yaj 1 [] [] [(26,pL eI x7.1)] fo0 (by kernel_rfl) ?_))))
    refine ygq (enc:=eI) (xs:=[v2]) 25 rfl (by exact zph) ?_
    refine yat rfl rfl rfl (ycg rfl rfl rfl rfl rfl (zic rfl (zic rfl zin)) rfl rfl rfl rfl (fun b11=>?_))
    refine ygq (enc:=(eL eI)) (xs:=[[v2],x7.1]) 27 rfl (by exact zph) ?_
    refine yad hb3 fun x13 hx13 hb3=>?_
    refine yat rfl rfl rfl (ybj rfl rfl (ρ1:=[]) (List.Perm.refl _) (ynf hx13) ?_);rintro _ _ ⟨a14,c15,rfl,rfl⟩
    refine yan [] [] [(4,pO a14 x13.length c15),(5,pB true)] fo0 (by kernel_rfl) (yab ?_)
    refine yhl (enc:=eI) (xs:=x13) 4 rfl (by exact zph) ?_
    refine yai (yaf (yah ?_))
    refine yba hb3 (fun ht=>?_);subst ht
    refine yaf (ybb ?_)
    obtain rfl:=osi h
    exact ybh (yid (ybn rfl) (ybn rfl)) zsn ⟨rfl,rfl⟩
   refine yag ?_
   refine yal (yab (yac [] [29] [(12,pI (IntKind.i64.wrap (v2+1)))] fo0 (by kernel_rfl) ?_))
   exact ybu hb3 () (zh4 rfl rfl rfl rfl) (zs1)
  refine ybd ?_
  refine yap (yam hb3 (fun ht=>yao rfl ?_))
  exact yaz ((),()) zhn zsn ht.symm
 rintro ⟨_,_⟩ τ hz;(try dsimp only at hz);subst q4;(try dsimp only at h);dsimp only [pupds]
 refine yaa (yac [] [] [(4,pN),(5,pB false)] fo0 (by kernel_rfl) (yab (ynw 4 rfl (yai ?_))))
 obtain rfl:=osi h
 exact ybh (yid (ybn rfl) (ybn rfl)) zsn ⟨rfl,rfl⟩
def yfb (p0:Zt) (p1:Zn):Option ((List Int)×Bool):=Option.bind (rule_holds p0.rule p1) (fun x3=>some ([],x3))
theorem you {p0:Zt} {p1:Zn} {r:((List Int)×Bool)}  (h:yfb p0 p1=some r):PF 252 [.agg [pI p0.rule.Kind,pI p0.rule.Digits,pL eS p0.rule.Except,pI p0.rule.Tolerance,pI p0.rule.Limit,pS p0.rule.Name,pL Zc.enc p0.rule.Args],.agg [pS p1.Code,pI p1.Price,pB p1.Obtained,pL eS p1.Processes,pL Zk.enc p1.Inputs]] (.tup [pL eI r.1,pB r.2]):=by
 unfold yfb at h
 refine ych ?_
 refine ybc Tryz.func252 fk252 rfl Tryz.ntmps252 Tryz.results252 rfl (yaa (yae (yat rfl rfl rfl (ycn (cs:=[pI p0.rule.Kind,pI p0.rule.Digits,pL eS p0.rule.Except,pI p0.rule.Tolerance,pI p0.rule.Limit,pS p0.rule.Name,pL Zc.enc p0.rule.Args]) rfl rfl (fun b1=>yat rfl rfl rfl (ycn (cs:=[pS p1.Code,pI p1.Price,pB p1.Obtained,pL eS p1.Processes,pL Zk.enc p1.Inputs]) rfl rfl (fun b2=>yan [] [4,5] [] fo0 (by kernel_rfl) (yab (yaa (yad h fun x3 hx3 h=>yac [1,0] [6,7,8,9] [(4,pN),(5,pB x3)] (yfg 3 (yzs hx3) fo0) (by kernel_rfl) (yab (ynw 4 rfl (yai ?_)))))))))))))
 obtain rfl:=osi h
 exact ybh (yid (ybn rfl) (ybn rfl)) zsn ⟨rfl,rfl⟩
def Irule_test_witness_B (rec:Zh→Zn→Option ((List Int)×Bool)) (x:Zh) (y0:Zn):Option ((List Int)×Bool):=match x with | .single_ a=>yfb a y0 | .every_ a=>yeq rec a y0 | .some_ a=>yfa rec a y0
theorem Irule_test_witness_B_ok {rec:Zh→Zn→Option ((List Int)×Bool)} (hrec:∀ {x:Zh} {y0:Zn} {w:((List Int)×Bool)},rec x y0=some w→PFI x.pv "customs/rule.witness" [.agg [pS y0.Code,pI y0.Price,pB y0.Obtained,pL eS y0.Processes,pL Zk.enc y0.Inputs]] (.tup [pL eI w.1,pB w.2])) {x:Zh} {y0:Zn} {w:((List Int)×Bool)} (h:Irule_test_witness_B rec x y0=some w):PFI x.pv "customs/rule.witness" [.agg [pS y0.Code,pI y0.Price,pB y0.Obtained,pL eS y0.Processes,pL Zk.enc y0.Inputs]] (.tup [pL eI w.1,pB w.2]):=by
 cases x with
 | single_ a=>rw [Zh.pv_single_];exact xbe ⟨fun _ _=>by kernel_rfl⟩ (you h)
 | every_ a=>rw [Zh.pv_every_];exact xbe ⟨fun _ _=>by kernel_rfl⟩ (yog hrec h)
 | some_ a=>rw [Zh.pv_some_];exact xbe ⟨fun _ _=>by kernel_rfl⟩ (yot hrec h)
def Irule_test_witness_F (n:Nat):Zh→Zn→Option ((List Int)×Bool):=Nat.rec (motive:=fun _=>Zh→Zn→Option ((List Int)×Bool)) (fun _ _=>none) (fun _ ih=>Irule_test_witness_B ih) n
def Irule_test_witness (x:Zh) (y0:Zn):Option ((List Int)×Bool):=Irule_test_witness_F FUEL x y0
theorem Irule_test_witness_Fok (n:Nat):∀ {x:Zh} {y0:Zn} {w:((List Int)×Bool)},Irule_test_witness_F n x y0=some w→PFI x.pv "customs/rule.witness" [.agg [pS y0.Code,pI y0.Price,pB y0.Obtained,pL eS y0.Processes,pL Zk.enc y0.Inputs]] (.tup [pL eI w.1,pB w.2]):=by
 induction n with
 | zero=>intros;rename_i h;exact nomatch h
 | succ n ih=>intros;rename_i h;exact Irule_test_witness_B_ok (fun hr=>ih hr) h
theorem Irule_test_witness_ok {x:Zh} {y0:Zn} {w:((List Int)×Bool)} (h:Irule_test_witness x y0=some w):PFI x.pv "customs/rule.witness" [.agg [pS y0.Code,pI y0.Price,pB y0.Obtained,pL eS y0.Processes,pL Zk.enc y0.Inputs]] (.tup [pL eI w.1,pB w.2]):=Irule_test_witness_Fok FUEL h
def ybl (p0:(List Zg)) (p1:(Zg→Option Bool)):Option Int:=Option.bind (loopF (S:=Int) (T:=(Unit)⊕(_)) (fun v1=>cond (decide (v1<(p0.length:Int))) (Option.bind (idx p0 v1) (fun m5=>Option.bind (p1 m5) (fun x6=>cond x6 (some (.inr (.inr v1))) (some (.inl (IntKind.i64.wrap (v1+1))))))) (some (.inr (.inl ())))) FUEL 0) (fun q=>match q with | .inl _=>some (-1) | .inr e=>some e)
theorem yfc {p0:(List Zg)} {p1:(Zg→Option Bool)} {r:Int} {g1:PV} (hg1:∀ {y0:Zg} {w:Bool},p1 y0=some w→PFV g1 [.agg [pI y0.Claim.Product,pI y0.Claim.Agreement,pL eI y0.Path,pL Za.enc y0.Premises]] (pB w)) (h:ybl p0 p1=some r):PF 111 [pL Zg.enc p0,g1] (pI r):=by
 unfold ybl at h
 refine ych ?_
 refine ybc Tryz.func111 fk111 rfl Tryz.ntmps111 Tryz.results111 rfl (yaa (yac [] [4] [] fo0 (by kernel_rfl) (yab (yaa (yaa (yac [] [6] [(7,pI (p0.length:Int)),(8,pI 0)] fo0 (by kernel_rfl) (yab (yad h fun q3 hq3 h=>?_))))))))
 refine yav (Y:=(Unit)×(Unit)) (fun (_,_)=>[]) (fun (_,_)=>[]) (fun (_,_)=>q3=Sum.inl ()) ?_ ?_
 ·refine yak ?_
  refine yay (Y:=Unit) (S:=Int) _ hq3 (fun _ v1=>[(0,pL Zg.enc p0),(1,g1),(7,pI (p0.length:Int)),(8,pI v1)]) (fun _ v1=>[]) () (zh4 rfl rfl rfl rfl) zsn ?_
  rintro _ v1 o τ hb2;(try dsimp only at hb2);dsimp only [pupds]
  refine yaa (yac [] [] [(9,pB (decide (v1<(p0.length:Int))))] fo0 (by kernel_rfl) (yab (yaa (zif rfl hb2 (fun hc4 hb2=>?_) fun hc4 hb2=>?_))))
  ·refine yag ?_
   refine yab (yaa (yak (yaa (yac [] [10] [(5,pI v1)] fo0 (by kernel_rfl) (yab (yaa (yad hb2 fun m5 hm5 hb2=>yad hb2 fun x6 hx6 hb2=>yac [] (rg 11 5) [(16,pB x6)] (ymr 3 Zg.enc hm5 (focv 5 (hg1 hx6) fo0)) (by kernel_rfl) (yab (zif rfl hb2 (fun hc7 hb2=>?_) fun hc7 hb2=>?_)))))))))
   ·refine yaa ?_
    refine yac [] [17] [(4,pI v1)] fo0 (by kernel_rfl) (yab (yai (yaf (yah ?_))))
    refine yba hb2 (fun ht=>?_);subst ht
    refine yaf (ybb ?_)
    obtain rfl:=osi h
    exact zq rfl ⟨rfl,rfl⟩
   refine yag ?_
   refine yal (yab (yac [] [18] [(8,pI (IntKind.i64.wrap (v1+1)))] fo0 (by kernel_rfl) ?_))
   exact ybu hb2 () (zh4 rfl rfl rfl rfl) zsn
  refine ybd ?_
  refine yap (yam hb2 (fun ht=>yao rfl ?_))
  exact yaz ((),()) zhn zsn ht.symm
 rintro ⟨_,_⟩ τ hz;(try dsimp only at hz);subst q3;(try dsimp only at h);dsimp only [pupds]
 refine yaa (yac [] [] [(4,pI (-1))] fo0 (by kernel_rfl) (yab (yai ?_)))
 obtain rfl:=osi h
 exact zq rfl ⟨rfl,rfl⟩
def ybt (p0:(List Zg)) (p1:(Zg→Option Bool)):Option Bool:=Option.bind (ybl p0 p1) (fun x1=>some (decide (0≤x1)))
theorem yer {p0:(List Zg)} {p1:(Zg→Option Bool)} {r:Bool} {g1:PV} (hg1:∀ {y0:Zg} {w:Bool},p1 y0=some w→PFV g1 [.agg [pI y0.Claim.Product,pI y0.Claim.Agreement,pL eI y0.Path,pL Za.enc y0.Premises]] (pB w)) (h:ybt p0 p1=some r):PF 70 [pL Zg.enc p0,g1] (pB r):=by
 unfold ybt at h
 refine ych ?_
 refine ybc Tryz.func70 fk70 rfl Tryz.ntmps70 Tryz.results70 rfl (yaa (yac [] [4] [] fo0 (by kernel_rfl) (yab (yaa (yad h fun x1 hx1 h=>yac [] [5,6,7,8] [(4,pB (decide (0≤x1)))] (yfg 2 (yfc hg1 hx1) fo0) (by kernel_rfl) (yab (yai ?_)))))))
 obtain rfl:=osi h
 exact zq rfl ⟨rfl,rfl⟩
def yka (p0:Zg) (p1:Za):Option Bool:=some (Za.eqb p0.Claim p1)
theorem yvn {p0:Zg} {p1:Za} {r:Bool}  (h:yka p0 p1=some r):PF 71 [.agg [pI p0.Claim.Product,pI p0.Claim.Agreement,pL eI p0.Path,pL Za.enc p0.Premises],.ref [pI p1.Product,pI p1.Agreement] 0] (pB r):=by
 unfold yka at h
 refine ych ?_
 refine ybc Tryz.func71 fk71 rfl Tryz.ntmps71 Tryz.results71 rfl (yaa (yae (yat rfl rfl rfl (ycn (cs:=[pI p0.Claim.Product,pI p0.Claim.Agreement,pL eI p0.Path,pL Za.enc p0.Premises]) rfl rfl (fun b1=>yan [] [3] [] fo0 (by kernel_rfl) (yab (yaa (yac [0] [4,5,6,7] [(3,pB (Za.eqb p0.Claim p1))] (foeq 3 Za.eqok54 fo0) (by kernel_rfl) (yab (yai ?_))))))))))
 obtain rfl:=osi h
 exact zq rfl ⟨rfl,rfl⟩
def yik (p0:(List Zg)) (p1:Za):Option Bool:=Option.bind (ybt p0 (fun y2=>yka y2 p1)) (fun x3=>some x3)
theorem yoh {p0:(List Zg)} {p1:Za} {r:Bool}  (h:yik p0 p1=some r):PF 30 [pL Zg.enc p0,.agg [pI p1.Product,pI p1.Agreement]] (pB r):=by
 unfold yik at h
 refine ych ?_
 refine ybc Tryz.func30 fk30 rfl Tryz.ntmps30 Tryz.results30 rfl (yaa (yae (yat rfl rfl rfl (ycn (cs:=[pI p1.Product,pI p1.Agreement]) rfl rfl (fun b1=>yan [] [4] [] fo0 (by kernel_rfl) (yab (yaa (yae (yaj 1 [] [] [(5,pL Zg.enc p0)] fo0 (by kernel_rfl) ?_)))))))))
 refine yrf 3 rfl (by exact zph) ?_
 refine yad h fun x3 hx3 h=>yan [] [6,7] [(4,pB x3)] (yfg 1 (yer (fun hr=>yur (yvn hr)) hx3) fo0) (by kernel_rfl) (yab (yai ?_))
 obtain rfl:=osi h
 exact zq rfl ⟨rfl,rfl⟩
end SX
namespace SX
open Go
abbrev bl (s:ByteArray):List UInt8:=s.data.toList
theorem bl_hi (s:ByteArray) (k:Nat):bl (s.extract 0 k)=(bl s).take k:=by simp [bl]
theorem bl_lo (s:ByteArray) (k:Nat):bl (s.extract k s.size)=(bl s).drop k:=by
  simp only [bl,ByteArray.data_extract,Array.toList_extract,List.extract_eq_take_drop]
  rw [List.take_of_length_le];simp
theorem yoi (s:ByteArray):s.size=(bl s).length:=by simp [bl]
theorem bl_inj {s u:ByteArray} (h:bl s=bl u):s=u:=by
  obtain ⟨⟨x⟩⟩:=s;obtain ⟨⟨y⟩⟩:=u;simp [bl] at h;subst h;rfl
def isDig (n:Nat):Bool:=decide (48≤n∧n≤57)
def setCells (p:Nat→Bool):List Value:=(List.range 256).map fun i=>.bool (p i)
theorem yfo (p:Nat→Bool):(setCells p).length=256:=by simp [setCells]
theorem ymh (p:Nat→Bool) {j:Nat} (h:j<256):(setCells p)[j]?=some (.bool (p j)):=by simp [setCells,h]
theorem xbt (p q:Nat→Bool) {j:Nat} (h:∀ i,q i=(decide (i=j)||p i)):(setCells p).set j (.bool true)=setCells q:=by
  apply List.ext_getElem?
  intro i
  rw [List.getElem?_set]
  simp only [yfo]
  rcases Nat.lt_or_ge i 256 with hi | hi
  · rw [ymh q hi,ymh p hi,h i]
    by_cases e:j=i
    · subst e;simp [hi]
    · rw [if_neg e];simp [show ¬ i=j from fun h=>e h.symm]
  · rw [List.getElem?_eq_none (by rw [yfo];exact hi),List.getElem?_eq_none (by rw [yfo];exact hi)]
    split
    · rw [if_neg (by omega)]
    · rfl
section
variable {o:Oper} {σ:Env} {ρ:List Res} {κ:Kr} {c:Bool} {x y:Operand} {K:Value→List Res→Kr→Prop}
theorem Sh.at1 {b k:Nat} {cs:List Value} {v:Value} (h:Sh κ b 0 cs) (hv:cs[k]?=some v):Sh κ b (0+k*1) [v]:=⟨h.1,fun j u hu=>by
  cases j with
  | zero=>simp at hu;subst hu;have:=h.2 k v hv;simpa using this
  | succ j=>simp at hu⟩
theorem xeg {t b T sz by':Nat} {cs:List Value} {z:Value} {d:TypeDesc} (ho:o.op=.load t x) (hx:Ev σ c x (.pointer (some ⟨b,0,none⟩))) (hm:Res.b b T cs∈ρ) (hd:und t=some d) (ha:isAggD d=true) (hi:inf t=some (z,sz,by')) (hl:cs.length=sz):OpQ c o σ ρ κ (.agg cs.toArray):=by
  refine xam ho hx hm ?_
  unfold readAs
  simp only [hd,hi,ha,cond_true,List.drop_zero]
  rw [Nat.ble_eq_true_of_le (by omega)]
  simp [← hl]
end
attribute [local irreducible] WL WC WD OpL OpQ OpG Ev GuardIs seqK blockK retK Call CallP midK loopK Holds upds Sub Pick WS Step Lit Upd SetAt SpliceAt FillR Sh LateRun
theorem yvo (κ:Kr) (b:Nat) (p:Nat→Bool) (m:Int) (hs:Sh κ b 0 (setCells p)) (h0:0≤m) (h1:m≤255):CallP 209 [.pointer (some ⟨b,0,none⟩),.int .u8 m] κ fun v _=>v=.bool (p m.toNat):=by
  (unfold CallP;apply yrd Tryz.func209 fk209 rfl Tryz.ntmps209 Tryz.results209 rfl)
  repeat (first | (first | (apply yjo rfl rfl rfl;(focus (first | exact yck (v:=(.int _ _)) rfl (.p rfl) | exact yck (v:=(.pointer _)) rfl (.p rfl) | exact yco (v:=(.bool _)) rfl (.p rfl) | exact yrc rfl (.p rfl)))) | apply yen) | (first | apply yfj | apply yby | apply ygm))
  apply yjo rfl rfl rfl (xat (j:=m.toNat) rfl rfl rfl (.p rfl) (.p rfl) (fun _=>by omega) (fun _=>by omega))
  apply yjo rfl rfl rfl (yue rfl (.p rfl) (fun _=>(hs.mono (by (repeat (exact Kle.refl _)))).at1 (ymh p (by omega))) rfl)
  repeat (first | (first | (apply yjo rfl rfl rfl;(focus (exact yco (v:=(.bool _)) rfl (.p rfl)))) | apply yen) | (first | apply ygm | apply yoz))
  exact yqt (rv_t (v:=.bool _) rfl) .none ⟨rfl,rfl⟩
def digits10:ByteArray:=⟨#[48,49,50,51,52,53,54,55,56,57]⟩
theorem xbu:∀ {k:Nat},k<10→((digits10.data.toList.getD k 0).toNat:Int)=48+(k:Int):=by decide
theorem ascii_ok (κ:Kr):CallP 191 [.string digits10] κ fun v _=>v=.tuple #[.agg (setCells isDig).toArray,.bool true]:=by
  (unfold CallP;apply yrd Tryz.func191 fk191 rfl Tryz.ntmps191 Tryz.results191 rfl)
  repeat (first | (first | (apply yjo rfl rfl rfl;(focus (first | exact yco (v:=(.int _ _)) rfl (.p rfl) | exact yco (v:=(.bool _)) rfl (.p rfl)))) | (apply wl_l rfl rfl rfl;apply xan rfl rfl;intro _ _ _) | apply yen) | (first | apply yfj | apply yby | apply ykp | apply ygm))
  rename_i b2 κ1 _
  have e0:List.replicate 256 (Value.bool false)=setCells (fun i=>decide (48≤i∧i<48+0)):=by
    apply List.ext_getElem?
    intro i
    rcases Nat.lt_or_ge i 256 with hi | hi
    · rw [ymh _ hi,List.getElem?_replicate,if_pos hi];congr 2;symm;rw [decide_eq_false_iff_not];omega
    · rw [List.getElem?_eq_none (by simpa using hi),List.getElem?_eq_none (by rw [yfo];exact hi)]
  rw [e0]
  refine ytr (X:=Nat) (fun k=>[(0,.string digits10),(2,.pointer (some ⟨b2,0,none⟩)),(4,.int .i64 (k:Int))]) (fun k=>[Res.b b2 248 (setCells fun i=>decide (48≤i∧i<48+k))]) (fun k _=>k≤10) (fun k=>10 - k) 0 (by (repeat (first | exact Holds.nil | apply Holds.cons rfl))) (by (repeat (first | exact Sub.nil | (apply Sub.cons;(focus (repeat (exact Pick.h))))))) (by omega) ?_
  intro k τ κ2 _ hk
  simp only [upds]
  repeat (first | (first | (apply yjo rfl rfl rfl;(focus (first | exact yck (v:=(.int _ _)) rfl (.p rfl) | exact yck (v:=(.string _)) rfl (.p rfl) | exact yrr rfl (.p rfl) (.p rfl) rfl | exact ypa rfl rfl (.p rfl)))) | apply yen) | (first | apply yfj | apply yby | apply ygm))
  apply xfo rfl <;> intro hc
  · have hk10:k<10:=by
      have e:(digits10.size:Int)=10:=rfl
      rw [e] at hc;omega
    repeat (first | (apply yjo rfl rfl rfl;(focus (first | exact yck (v:=(.int _ _)) rfl (.p rfl) | exact yck (v:=(.string _)) rfl (.p rfl)))) | (first | apply yfj | apply yby | apply ykp | apply ygm | apply yle))
    apply yjo rfl rfl rfl (ypb (s:=digits10) (j:=k) rfl rfl (.p rfl) (.p rfl) (fun _=>rfl) (fun _=>hk10))
    rw [xbu hk10]
    repeat (first | (first | (apply yjo rfl rfl rfl;(focus (first | exact yck (v:=(.int _ _)) rfl (.p rfl) | exact yco (v:=(.int _ _)) rfl (.p rfl) | exact yrr rfl (.p rfl) (.p rfl) rfl))) | apply yen) | (first | apply yfj | apply yby | apply ygm))
    apply wc_condF (by have:¬ (128:Int)≤48+(k:Int):=by omega
                       simp [ev,upd,this])
    repeat (first | (apply yjo rfl rfl rfl;(focus (exact yck (v:=(.int _ _)) rfl (.p rfl)))) | (first | apply yby | apply ygm | apply yle))
    apply yjo rfl rfl rfl (xat (j:=48+k) rfl rfl rfl (.p rfl) (.p rfl) (fun _=>by omega) (fun _=>by omega))
    apply wl_l0 rfl rfl
    apply xjr (v:=.bool true) rfl rfl rfl rfl rfl rfl (by (repeat (exact Upd.h))) (by rw [yfo];omega)
    intro κ3 _
    have e1:(setCells fun i=>decide (48≤i∧i<48+k)).set (0+(48+k)*1) (.bool true)=setCells fun i=>decide (48≤i∧i<48+(k+1)) :=
      xbt _ _ fun i=>by rw [Bool.eq_iff_iff];simp;omega
    rw [e1]
    repeat (first | (first | (apply yjo rfl rfl rfl;(focus (first | exact yck (v:=(.int _ _)) rfl (.p rfl) | exact yco (v:=(.int _ _)) rfl (.p rfl) | exact yps rfl (.p rfl) (.p rfl) rfl (fun _=>by omega)))) | apply yen) | (first | apply yby | apply ygm | apply yrt))
    exact xfl (k+1) (by (repeat (first | exact Holds.nil | apply Holds.cons rfl))) (by (repeat (first | exact Sub.nil | (apply Sub.cons;(focus (repeat (exact Pick.h))))))) (by omega) (by omega)
  · have hk10:k=10:=by
      have e:(digits10.size:Int)=10:=rfl
      rw [e] at hc;omega
    subst hk10
    have e2:(fun i=>decide (48≤i∧i<48+10))=isDig:=by funext i;simp only [isDig];rw [Bool.eq_iff_iff];simp;omega
    rw [e2]
    apply yrb;apply ykz;apply yjd;apply yla rfl;apply ygm;apply yfj;apply yby
    apply yjo rfl rfl rfl (xeg rfl (.p rfl) (by (repeat (exact List.Mem.head _))) rfl rfl rfl (yfo _))
    apply wl_l0 rfl rfl
    apply xap rfl rfl rfl rfl (yfo _) (by simp [setCells,Value.oneCell']) (by (repeat (exact Upd.h))) rfl
    intro κ3 _
    repeat (first | (first | (apply yjo rfl rfl rfl;(focus (exact yco (v:=(.bool _)) rfl (.p rfl)))) | apply yen) | (first | apply ygm | apply yoz))
    refine yqt (rv_2 (RV1.cell rfl (by (repeat (exact List.Mem.head _))) ?_) (rv1_t (v:=.bool _) rfl)) .none ⟨rfl,rfl⟩
    unfold readAs
    simp only [show und 248=some (.array 256 4) from rfl,show inf 248=some (.agg (List.replicate 256 (.bool false)).toArray,256,256) from rfl,isAggD,cond_true,List.drop_zero,yfo]
    rw [List.take_of_length_le (by rw [yfo];omega)];rfl
theorem yzt {l:List UInt8} {j:Nat} (h:j<l.length):l.getD j 0=l[j]:=by simp [List.getD_eq_getElem?_getD,h]
theorem xbv (κ:Kr) (b:Nat) (s:ByteArray) (hs:Sh κ b 0 (setCells isDig)) (hz:s.size≤1000000000):CallP 193 [.string s,.pointer (some ⟨b,0,none⟩)] κ fun v _=>∃ u k,v=.string u∧bl u=(bl s).take k∧k≤(bl s).length∧(∀ c∈(bl s).drop k,isDig c.toNat=true)∧(∀ c,(bl u).getLast?=some c→isDig c.toNat=false):=by
  (unfold CallP;apply yrd Tryz.func193 fk193 rfl Tryz.ntmps193 Tryz.results193 rfl)
  repeat (first | (first | (apply yjo rfl rfl rfl;(focus (exact yco (v:=(.string _)) rfl (.p rfl)))) | apply yen) | (first | apply yfj | apply yby | apply ykp | apply ygm))
  refine ytr (X:=ByteArray×Nat) (fun z=>[(0,.string z.1),(1,.pointer (some ⟨b,0,none⟩))]) (fun _=>[]) (fun z _=>bl z.1=(bl s).take z.2∧z.2≤(bl s).length∧∀ c∈(bl s).drop z.2,isDig c.toNat=true) (fun z=>z.2) (s,(bl s).length) (by (repeat (first | exact Holds.nil | apply Holds.cons rfl))) (by (repeat (exact Sub.nil))) ⟨(List.take_length).symm,Nat.le_refl _,by rw [List.drop_length];simp⟩ ?_
  rw [yoi] at hz
  rintro ⟨u,k⟩ τ κ2 _ ⟨h1,h2,h3⟩
  dsimp only at h1 h2 h3
  have hsz:u.size=k:=by rw [yoi,h1,List.length_take];omega
  simp only [upds]
  repeat (first | (first | (apply yjo rfl rfl rfl;(focus (first | exact yck (v:=(.string _)) rfl (.p rfl) | exact yrr rfl (.p rfl) (.p rfl) rfl | exact ypa rfl rfl (.p rfl)))) | apply yen) | (first | apply yfj | apply yby | apply ygm))
  apply xfo rfl <;> intro hc
  · have hk0:0<k:=by omega
    repeat (first | (apply yjo rfl rfl rfl;(focus (first | exact yck (v:=(.pointer _)) rfl (.p rfl) | exact yck (v:=(.string _)) rfl (.p rfl) | exact yps rfl (.p rfl) (.p rfl) rfl (fun _=>by omega) | exact ypa rfl rfl (.p rfl)))) | (first | apply yfj | apply yby | apply ykp | apply ygm | apply yle))
    apply yjo rfl rfl rfl (ypb (j:=k - 1) rfl rfl (.p rfl) (.p rfl) (fun _=>by omega) (fun _=>by omega))
    have hlast:(bl u).getLast?=some ((bl u).getD (k - 1) 0):=by
      rw [List.getLast?_eq_getElem?,← yoi,hsz,yzt (by rw [← yoi];omega),List.getElem?_eq_getElem]
    apply wl_l rfl rfl rfl;apply ynt rfl rfl (yvo _ b isDig ((u.data.toList.getD (k - 1) 0).toNat:Int) (hs.mono (by (repeat (assumption)))) (by omega) (by have:=(u.data.toList.getD (k - 1) 0).toNat_lt;omega))
    rintro v κ3 _ rfl
    repeat (first | (first | (apply yjo rfl rfl rfl;(focus (exact xjd rfl (.p rfl)))) | apply yen) | (apply ygm))
    rw [Int.toNat_natCast]
    apply ynp rfl <;> intro hb
    · repeat (first | (first | (apply yjo rfl rfl rfl;(focus (first | exact yck (v:=(.string _)) rfl (.p rfl) | exact yco (v:=(.string _)) rfl (.p rfl)))) | apply yen) | (first | apply yfj | apply yby | apply ygm | apply yoz | apply yrb | apply ykz | apply yla rfl | apply yxo rfl | apply yjd))
      refine yqt (rv_t (v:=.string _) rfl) .none ⟨rfl,u,k,rfl,h1,h2,h3,fun c hc=>?_⟩
      rw [hlast] at hc;injection hc with hc;subst hc;simpa using hb
    · repeat (first | (apply yjo rfl rfl rfl;(focus (first | exact yck (v:=(.string _)) rfl (.p rfl) | exact yps rfl (.p rfl) (.p rfl) rfl (fun _=>by omega) | exact ypa rfl rfl (.p rfl)))) | (first | apply yby | apply ygm | apply yle))
      apply yjo rfl rfl rfl (yuo (h:=k - 1) rfl rfl (.p rfl) (.p rfl) (fun _=>by omega) (fun _=>by omega))
      repeat (first | (first | (apply yjo rfl rfl rfl;(focus (exact yco (v:=(.string _)) rfl (.p rfl)))) | apply yen) | (apply yrt))
      refine xfl (u.extract 0 (k - 1),k - 1) (by (repeat (first | exact Holds.nil | apply Holds.cons rfl))) (by (repeat (exact Sub.nil))) ⟨?_,by ((try dsimp only at *) <;> omega),?_⟩ (by ((try dsimp only at *) <;> omega))
      · rw [bl_hi,h1,List.take_take];congr 1;omega
      · intro c hc
        rw [List.drop_eq_getElem_cons (by omega)] at hc
        rcases List.mem_cons.1 hc with rfl | hc
        · have e:(bl u).getD (k - 1) 0=(bl s)[k - 1]'(by omega):=by
            rw [yzt (by rw [← yoi];omega)];simp [h1]
          rw [← e];simpa using hb
        · rw [show k - 1+1=k by omega] at hc;exact h3 c hc
  · repeat (first | (first | (apply yjo rfl rfl rfl;(focus (first | exact yck (v:=(.string _)) rfl (.p rfl) | exact yco (v:=(.string _)) rfl (.p rfl)))) | apply yen) | (first | apply yfj | apply yby | apply ygm | apply yoz | apply yrb | apply ykz | apply yla rfl | apply yjd))
    refine yqt (rv_t (v:=.string _) rfl) .none ⟨rfl,u,k,rfl,h1,h2,h3,fun c hc'=>?_⟩
    have:bl u=[]:=List.eq_nil_of_length_eq_zero (by rw [← yoi];omega)
    rw [this] at hc';cases hc'
end SX
namespace SX
open Go
attribute [local irreducible] WL WC WD OpL OpQ OpG Ev GuardIs seqK blockK retK Call CallP midK loopK Holds upds Sub Pick WS Step Lit Upd SetAt SpliceAt FillR Sh LateRun
theorem xeh (κ:Kr) (b:Nat) (s:ByteArray) (hs:Sh κ b 0 (setCells isDig)):CallP 192 [.string s,.pointer (some ⟨b,0,none⟩)] κ fun v _=>∃ u k,v=.string u∧bl u=(bl s).drop k∧k≤(bl s).length∧(∀ c∈(bl s).take k,isDig c.toNat=true)∧(∀ c,(bl u).head?=some c→isDig c.toNat=false):=by
  (unfold CallP;apply yrd Tryz.func192 fk192 rfl Tryz.ntmps192 Tryz.results192 rfl)
  repeat (first | (first | (apply yjo rfl rfl rfl;(focus (exact yco (v:=(.string _)) rfl (.p rfl)))) | apply yen) | (first | apply yfj | apply yby | apply ykp | apply ygm))
  refine ytr (X:=ByteArray×Nat) (fun z=>[(0,.string z.1),(1,.pointer (some ⟨b,0,none⟩))]) (fun _=>[]) (fun z _=>bl z.1=(bl s).drop z.2∧z.2≤(bl s).length∧∀ c∈(bl s).take z.2,isDig c.toNat=true) (fun z=>(bl s).length - z.2) (s,0) (by (repeat (first | exact Holds.nil | apply Holds.cons rfl))) (by (repeat (exact Sub.nil))) ⟨rfl,Nat.zero_le _,by simp⟩ ?_
  rintro ⟨u,k⟩ τ κ2 _ ⟨h1,h2,h3⟩
  dsimp only at h1 h2 h3
  have hsz:u.size=(bl s).length - k:=by rw [yoi,h1,List.length_drop]
  simp only [upds]
  repeat (first | (first | (apply yjo rfl rfl rfl;(focus (first | exact yck (v:=(.string _)) rfl (.p rfl) | exact yrr rfl (.p rfl) (.p rfl) rfl | exact ypa rfl rfl (.p rfl)))) | apply yen) | (first | apply yfj | apply yby | apply ygm))
  apply xfo rfl <;> intro hc
  · have hk0:k<(bl s).length:=by omega
    have hu0:0<(bl u).length:=by rw [← yoi];omega
    repeat (first | (apply yjo rfl rfl rfl;(focus (first | exact yck (v:=(.pointer _)) rfl (.p rfl) | exact yck (v:=(.string _)) rfl (.p rfl)))) | (first | apply yfj | apply yby | apply ykp | apply ygm | apply yle))
    apply yjo rfl rfl rfl (ypb (j:=0) rfl rfl (.p rfl) (.p rfl) (fun _=>by omega) (fun _=>by omega))
    have hhead:(bl u).head?=some ((bl u).getD 0 0):=by
      rw [List.head?_eq_getElem?,yzt hu0,List.getElem?_eq_getElem hu0]
    apply wl_l rfl rfl rfl;apply ynt rfl rfl (yvo _ b isDig ((u.data.toList.getD 0 0).toNat:Int) (hs.mono (by (repeat (assumption)))) (by omega) (by have:=(u.data.toList.getD 0 0).toNat_lt;omega))
    rintro v κ3 _ rfl
    repeat (first | (first | (apply yjo rfl rfl rfl;(focus (exact xjd rfl (.p rfl)))) | apply yen) | (apply ygm))
    rw [Int.toNat_natCast]
    apply ynp rfl <;> intro hb
    · repeat (first | (first | (apply yjo rfl rfl rfl;(focus (first | exact yck (v:=(.string _)) rfl (.p rfl) | exact yco (v:=(.string _)) rfl (.p rfl)))) | apply yen) | (first | apply yfj | apply yby | apply ygm | apply yoz | apply yrb | apply ykz | apply yla rfl | apply yxo rfl | apply yjd))
      refine yqt (rv_t (v:=.string _) rfl) .none ⟨rfl,u,k,rfl,h1,h2,h3,fun c hc=>?_⟩
      rw [hhead] at hc;injection hc with hc;subst hc;simpa using hb
    · repeat (first | (apply yjo rfl rfl rfl;(focus (exact yck (v:=(.string _)) rfl (.p rfl)))) | (first | apply yby | apply ygm | apply yle))
      apply yjo rfl rfl rfl (yup (l:=1) rfl rfl (.p rfl) (.p rfl) (fun _=>by omega) (fun _=>by omega))
      repeat (first | (first | (apply yjo rfl rfl rfl;(focus (exact yco (v:=(.string _)) rfl (.p rfl)))) | apply yen) | (apply yrt))
      refine xfl (u.extract 1 u.size,k+1) (by (repeat (first | exact Holds.nil | apply Holds.cons rfl))) (by (repeat (exact Sub.nil))) ⟨?_,by ((try dsimp only at *) <;> omega),?_⟩ (by ((try dsimp only at *) <;> omega))
      · rw [bl_lo,h1,List.drop_drop]
      · intro c hc
        rw [List.take_add_one] at hc
        rcases List.mem_append.1 hc with hc | hc
        · exact h3 c hc
        · have e:(bl u).getD 0 0=(bl s)[k]'hk0:=by rw [yzt hu0];simp [h1]
          rw [List.getElem?_eq_getElem hk0] at hc
          simp only [Option.toList_some,List.mem_cons,List.not_mem_nil,or_false] at hc
          subst hc;rw [← e];simpa using hb
  · repeat (first | (first | (apply yjo rfl rfl rfl;(focus (first | exact yck (v:=(.string _)) rfl (.p rfl) | exact yco (v:=(.string _)) rfl (.p rfl)))) | apply yen) | (first | apply yfj | apply yby | apply ygm | apply yoz | apply yrb | apply ykz | apply yla rfl | apply yjd))
    refine yqt (rv_t (v:=.string _) rfl) .none ⟨rfl,u,k,rfl,h1,h2,h3,fun c hc'=>?_⟩
    have:bl u=[]:=List.eq_nil_of_length_eq_zero (by rw [← yoi];omega)
    rw [this] at hc';cases hc'
def allDig (s:ByteArray):Bool:=(bl s).all fun c=>isDig c.toNat
theorem xbw {s:ByteArray}:s=⟨#[]⟩↔bl s=[]:=⟨fun h=>by rw [h],fun h=>bl_inj (by rw [h])⟩
theorem trim_ok (κ:Kr) (s:ByteArray) (hz:s.size≤1000000000):CallP 172 [.string s,.string digits10] κ fun v _=>∃ u,v=.string u∧(u=⟨#[]⟩↔allDig s=true):=by
  (unfold CallP;apply yrd Tryz.func172 fk172 rfl Tryz.ntmps172 Tryz.results172 rfl)
  repeat (first | (first | (apply yjo rfl rfl rfl;(focus (first | exact yck (v:=(.bool _)) rfl (.p rfl) | exact yck (v:=(.string _)) rfl (.p rfl) | exact yco (v:=(.string _)) rfl (.p rfl) | exact oq_or rfl (.p rfl) (.p rfl) (.g rfl) | exact xff rfl (.p rfl) (.p rfl) rfl))) | (apply xdg;(focus (exact xja rfl rfl rfl));rfl;rfl;(focus (first | (apply yck (v:=(.string _)) rfl;(focus (exact Ev.p rfl))) | (apply xff rfl (by (focus (exact Ev.g rfl))) (by (focus (exact Ev.p rfl)));rfl)))) | apply yen) | (first | apply yfj | apply yby | apply ygm))
  apply ynp rfl <;> intro hb
  · repeat (first | (first | (apply yjo rfl rfl rfl;(focus (first | exact yck (v:=(.string _)) rfl (.p rfl) | exact yco (v:=(.string _)) rfl (.p rfl)))) | apply yen) | (first | apply yfj | apply yby | apply ygm | apply yoz | apply yul))
    have:s=⟨#[]⟩:=by simpa [digits10] using hb
    refine yqt (rv_t (v:=.string _) rfl) .none ⟨rfl,s,rfl,?_⟩
    subst this;simp [allDig,bl]
  · have hne:¬ bl s=[]:=fun h=>by rw [xbw.2 h] at hb;simp at hb
    repeat (first | (first | (apply yjo rfl rfl rfl;(focus (first | exact yck (v:=(.bool _)) rfl (.p rfl) | exact yck (v:=(.string _)) rfl (.p rfl) | exact yrr rfl (.p rfl) (.p rfl) rfl | exact ypa rfl rfl (.p rfl)))) | (apply xdg;(focus (exact yra rfl rfl rfl));rfl;rfl;(focus (apply yck (v:=(.string _)) rfl;(focus (exact Ev.p rfl)))))) | (first | apply yfj | apply yby | apply ygm | apply yle))
    apply xdg;(focus (exact yra rfl rfl rfl));rfl;rfl;exact ypb (s:=digits10) (j:=0) rfl rfl (.g rfl) (.p rfl) (fun _=>rfl) (fun _=>by decide)
    repeat (first | (first | (apply yjo rfl rfl rfl;(focus (exact xjc rfl (.p rfl) (.p rfl) (.g rfl)))) | (apply xdg;(focus (exact yra rfl rfl rfl));rfl;rfl;(focus (apply yrr rfl (by (focus (exact Ev.g rfl))) (by (focus (exact Ev.p rfl)));rfl))) | apply yen) | (apply ygm))
    apply ynp rfl <;> intro hb2
    · have e:(digits10.size:Int)=10:=rfl
      rw [e] at hb2;simp at hb2
    repeat (first | (apply yjo rfl rfl rfl;(focus (exact yck (v:=(.string _)) rfl (.p rfl)))) | (first | apply yfj | apply yby | apply ygm | apply yle))
    refine wl_fun rfl rfl rfl rfl rfl (ascii_ok _) fun κ1 _=>?_
    repeat (first | (first | (apply yjo rfl rfl rfl;(focus (first | exact yck (v:=(.bool _)) rfl (.p rfl) | exact yck (v:=(.tuple _)) rfl (.p rfl) | exact yco (v:=(.bool _)) rfl (.p rfl) | exact yxj rfl (.p rfl) rfl))) | (apply wl_l rfl rfl rfl;apply xan rfl rfl;intro _ _ _) | (apply wl_l0 rfl rfl;apply xap rfl rfl rfl rfl rfl rfl;(focus (repeat (exact Upd.h)));rfl;intro _ _) | apply yen) | (first | apply yfj | apply yby | apply ygm))
    rename_i b5 _ _ _ _
    apply wc_pub (b:=b5) Pick.h rfl;intro κ3 _ hS hsays
    have hset:=sh_pub hS hsays
    apply wc_condT rfl
    repeat (first | (apply yjo rfl rfl rfl;(focus (exact yck (v:=(.string _)) rfl (.p rfl)))) | (first | apply yfj | apply yby))
    apply wl_l rfl rfl rfl;apply ynt rfl rfl (xbv _ b5 s (hset.mono (by (repeat (exact Kle.refl _)))) hz)
    rintro v κ4 _ ⟨u,k,rfl,h1,h2,h3,h4⟩
    apply wl_l rfl rfl rfl;apply ynt rfl rfl (xeh _ b5 u (hset.mono (by (repeat (assumption)))))
    rintro v κ5 _ ⟨u2,k2,rfl,g1,g2,g3,g4⟩
    repeat (first | (first | (apply yjo rfl rfl rfl;(focus (exact yco (v:=(.string _)) rfl (.p rfl)))) | apply yen) | (first | apply ygm | apply yoz | apply yul))
    refine yqt (rv_t (v:=.string _) rfl) .none ⟨rfl,u2,rfl,?_⟩
    rw [xbw]
    unfold allDig
    rw [List.all_eq_true]
    constructor
    · intro h
      have hk2:k2=(bl u).length:=by
        have:=congrArg List.length (g1.symm.trans h);simp only [List.length_drop,List.length_nil] at this;omega
      intro c hc
      rw [← List.take_append_drop k (bl s)] at hc
      rcases List.mem_append.1 hc with hc | hc
      · rw [← h1] at hc;rw [hk2,List.take_length] at g3;exact g3 c hc
      · exact h3 c hc
    · intro h
      have hu:bl u=[]:=by
        rcases List.eq_nil_or_concat (bl u) with hu | ⟨l,c,hu⟩
        · exact hu
        · have hc:=h4 c (by rw [hu];simp)
          have hm:c∈bl s:=List.mem_of_mem_take (i:=k) (by rw [← h1,hu];simp)
          rw [h c hm] at hc;cases hc
      rw [g1,hu];simp
def Glob (κ:Kr):Prop:=Sh κ 0 0 [.int .i64 2,.int .i64 4,.int .i64 6,.int .i64 8]
theorem Glob.mono {κ κ':Kr} (h:Glob κ) (k:Kle κ κ'):Glob κ':=Sh.mono h k
def level (s:ByteArray):Int:=if (s.size=2∨s.size=4∨s.size=6∨s.size=8)∧allDig s=true then (s.size:Int) else 0
theorem gv_some {c:Bool} {v:Value} {P:ByteArray→Prop} (h:c=true→∃ u,v=.string u∧P u):∃ u,gv c v=gv c (.string u)∧(c=true→P u):=by
  cases c
  · exact ⟨⟨#[]⟩,by rw [yim,yim],fun h=>by cases h⟩
  · obtain ⟨u,rfl,h2⟩:=h rfl;exact ⟨u,rfl,fun _=>h2⟩
theorem level_ok (κ:Kr) (s:ByteArray) (hg:Glob κ):CallP 138 [.string s] κ fun v _=>v=.int .i64 (level s):=by
  (unfold CallP;apply yrd Tryz.func138 fk138 rfl Tryz.ntmps138 Tryz.results138 rfl)
  repeat (first | (first | (apply yjo rfl rfl rfl;(focus (exact yco (v:=(.int _ _)) rfl (.p rfl)))) | apply yen) | (first | apply yfj | apply yby | apply ygm))
  apply yjo rfl rfl rfl (yue rfl (.p rfl) (fun _=>hg) rfl)
  repeat (first | (first | (apply yjo rfl rfl rfl;(focus (exact yck (v:=(.int _ _)) rfl (.p rfl)))) | apply yen) | (first | apply ykp | apply ygm))
  refine ytr (X:=Nat) (fun k=>[(0,.string s),(5,.agg #[.int .i64 2,.int .i64 4,.int .i64 6,.int .i64 8]),(6,.int .i64 (k:Int))]) (fun _=>[]) (fun k _=>k≤4∧∀ j,j<k→¬ (s.size=2*(j+1)∧allDig s=true)) (fun k=>4 - k) 0 (by (repeat (first | exact Holds.nil | apply Holds.cons rfl))) (by (repeat (exact Sub.nil))) ⟨by omega,by omega⟩ ?_
  rintro k τ κ1 _ ⟨hk,hno⟩
  simp only [upds]
  repeat (first | (first | (apply yjo rfl rfl rfl;(focus (exact yrr rfl (.p rfl) (.p rfl) rfl))) | apply yen) | (first | apply yfj | apply yby | apply ygm))
  apply xfo rfl <;> intro hc
  · have hk4:k<4:=by omega
    repeat (first | apply yfj | apply yby | apply ykp | apply ygm | apply yle)
    apply yjo rfl rfl rfl (xjq (cs:=[.int .i64 2,.int .i64 4,.int .i64 6,.int .i64 8]) (v:=.int .i64 (2*((k:Int)+1))) (j:=k) rfl rfl rfl rfl rfl (.p rfl) (.p rfl) (fun _=>rfl) (fun _=>hk4) (fun _=>by
      have:k=0∨k=1∨k=2∨k=3:=by omega
      rcases this with rfl | rfl | rfl | rfl <;> rfl))
    repeat (first | (first | (apply yjo rfl rfl rfl;(focus (first | exact yck (v:=(.int _ _)) rfl (.p rfl) | exact yck (v:=(.bool _)) rfl (.p rfl) | exact yck (v:=(.string _)) rfl (.p rfl) | exact yco (v:=(.int _ _)) rfl (.p rfl) | exact yrr rfl (.p rfl) (.p rfl) rfl | exact ypa rfl rfl (.p rfl)))) | (apply xdg;(focus (exact yra rfl rfl rfl));rfl;rfl;(focus (apply yck (v:=(.string _)) rfl;(focus (exact Ev.p rfl))))) | apply yen) | (first | apply yfj | apply yby | apply ygm))
    apply wl_g;(focus (exact yra rfl rfl rfl));rfl;rfl
    refine xfh rfl (ar2 (.g rfl) (.p rfl)) (fun hcc=>trim_ok _ s (by simp at hcc;omega)) fun v κ2 _ hv=>?_
    obtain ⟨u,hu,hP⟩:=gv_some hv
    rw [hu]
    repeat (first | (first | (apply yjo rfl rfl rfl;(focus (exact xjc rfl (.p rfl) (.p rfl) (.g rfl)))) | (apply xdg;(focus (exact yra rfl rfl rfl));rfl;rfl;(focus (apply xff rfl (by (focus (exact Ev.g rfl))) (by (focus (exact Ev.p rfl)));rfl))) | apply yen) | (apply ygm))
    apply ynp rfl <;> intro hb
    · simp only [Bool.and_eq_true,beq_iff_eq,decide_eq_true_eq] at hb
      have hd:allDig s=true:=(hP (by simpa using hb.1)).1 hb.2
      repeat (first | (first | (apply yjo rfl rfl rfl;(focus (first | exact yck (v:=(.int _ _)) rfl (.p rfl) | exact yco (v:=(.int _ _)) rfl (.p rfl)))) | apply yen) | (first | apply yfj | apply yby | apply ygm | apply yoz | apply yul | apply xdn | apply xhi))
      refine yqt (rv_t (v:=.int _ _) rfl) .none ⟨rfl,?_⟩
      show Value.int .i64 (2*((k:Int)+1))=.int .i64 (level s)
      unfold level
      rw [if_pos ⟨by omega,hd⟩,← hb.1]
    · repeat (first | (first | (apply yjo rfl rfl rfl;(focus (first | exact yck (v:=(.int _ _)) rfl (.p rfl) | exact yps rfl (.p rfl) (.p rfl) rfl (fun _=>by omega)))) | apply yen) | (first | apply yby | apply ygm | apply yle | apply yrt))
      refine xfl (k+1) (by (repeat (first | exact Holds.nil | apply Holds.cons rfl))) (by (repeat (exact Sub.nil))) ⟨by omega,fun j hj=>?_⟩ (by omega)
      rcases Nat.lt_or_ge j k with h | h
      · exact hno j h
      · have:j=k:=by omega
        subst this
        rintro ⟨h1,h2⟩
        have hcc:((s.size:Int) == 2*((j:Int)+1))=true:=by simp;omega
        have:=(hP (by simpa using hcc)).2 h2
        subst this
        rw [hcc] at hb;simp at hb
  · repeat (first | (first | (apply yjo rfl rfl rfl;(focus (exact yco (v:=(.int _ _)) rfl (.p rfl)))) | apply yen) | (first | apply yfj | apply yby | apply ygm | apply yoz | apply yrb | apply ykz | apply yla rfl | apply yjd))
    refine yqt (rv_t (v:=.int _ _) rfl) .none ⟨rfl,?_⟩
    show Value.int .i64 0=.int .i64 (level s)
    unfold level
    rw [if_neg]
    rintro ⟨h1,h2⟩
    have:k=4:=by omega
    subst this
    rcases h1 with h1 | h1 | h1 | h1
    · exact hno 0 (by omega) ⟨h1,h2⟩
    · exact hno 1 (by omega) ⟨h1,h2⟩
    · exact hno 2 (by omega) ⟨h1,h2⟩
    · exact hno 3 (by omega) ⟨h1,h2⟩
end SX
namespace SX
open Go
def ydn (p0:ByteArray):Option Int:=some (level p0)
theorem yfp {p0:ByteArray} {r:Int} (h:ydn p0=some r):PF 138 [.v (.string p0)] (.v (.int .i64 r)):=fun κ args g ha=>by
 obtain ⟨v,ws,rfl,h1,h2⟩:=ha.cons_inv
 rw [h2.nil_inv,h1.val]
 have h:=Option.some.inj h;subst h
 exact (level_ok κ p0 g).mono fun v κ' _ hv=>by subst hv;exact .v rfl
def itr (b:Nat) (s:ByteArray) (pos:Nat):Res:=⟨some b,fun o=>o=some (.stringIter s pos)⟩
theorem pl_range {o:Oper} {σ:PEnv} {ρ:List PRes} {x:Operand} {t:Nat} {s:ByteArray} {K:PV→List PRes→Prop} (ho:o.op=.range t x) (hu:und t=some .string) (hx:pevc σ x=.v (.string s)) (h:∀ b,K (.v (.pointer (some ⟨b,0,none⟩))) (.raw (itr b s 0)::ρ)):POpL o σ ρ K:=fun κ σ' ρ' g hs hr β hi Nx hk=>by
 have e1:=hs.v1 hx
 have h1:=run_underlying (w:=κ.w) (ycf hu)
 have hrun:(execOp (ev σ') o).run Tryz.prog κ.w=.ok (.value (.pointer (some ⟨κ.w.heap.size,0,none⟩))) (κ.w.alloc (.stringIter s 0)):=by
  simp [execOp,ho,e1,Instr.range,h1,run_newObj_alloc]
 rw [hrun]
 exact hk _ _ ⟨κ.w.alloc (.stringIter s 0),κ.S⟩ (hi.alloc _ (itr κ.w.heap.size s 0) rfl rfl) (yfk hi.fin _) ⟨_,_,.v rfl,.cons .raw (hr.mono (yfk hi.fin _)),h _⟩
theorem pl_next {o:Oper} {σ:PEnv} {ρ ρ1:List PRes} {x:Operand} {b pos:Nat} {s:ByteArray} {K:PV→List PRes→Prop} (ho:o.op=.next x true) (hx:pevc σ x=.v (.pointer (some ⟨b,0,none⟩))) (hu:PUpd ρ (.raw (itr b s pos)) (.raw (itr b s (pos+(Utf8.decode s pos).2))) ρ1) (h1:pos<s.size→K (.tup [.v (.bool true),.v (.int .i64 (pos:Int)),.v (.int .i32 ((Utf8.decode s pos).1:Int))]) ρ1) (h2:s.size≤pos→K (.tup [.v (.bool false)]) ρ):POpL o σ ρ K:=fun κ σ' ρ' g hs hr β hi Nx hk=>by
 have e1:=hs.v1 hx
 have hr0:=hr
 obtain ⟨r0,l1,l2,rfl,h4,h5⟩:=hr.upd hu
 cases h4 with
 | raw =>
  have hb:κ.w.heap[b]?=some (.stringIter s pos):=hi.own (itr b s pos) (by simp)
  have hg:(getObj b).run Tryz.prog κ.w=.ok (.stringIter s pos) κ.w:=by simp [getObj,Sem.run,hb]
  have hset:∀ ob,(setObj b ob).run Tryz.prog κ.w=.ok () { κ.w with heap:=κ.w.heap.setIfInBounds b ob }:=fun ob=>by simp [setObj,Sem.run,hb]
  rcases Nat.lt_or_ge pos s.size with hlt | hge
  ·have hrun:(execOp (ev σ') o).run Tryz.prog κ.w=.ok (.value (.tuple #[.bool true,goInt pos,.int .i32 ((Utf8.decode s pos).1:Int)])) { κ.w with heap:=κ.w.heap.setIfInBounds b (.stringIter s (pos+(Utf8.decode s pos).2)) }:=by
    simp [execOp,ho,e1,Instr.next,hg,hlt,hset]
   rw [hrun]
   obtain ⟨i1,i2⟩:=hi.turn (r:=itr b s pos) (r':=itr b s (pos+(Utf8.decode s pos).2)) (b:=b) (w':={ κ.w with heap:=κ.w.heap.setIfInBounds b (.stringIter s (pos+(Utf8.decode s pos).2)) }) rfl rfl rfl (fun i hi=>yva hi) (by simp) (yvb hb) rfl rfl rfl (Nat.le_refl _)
   exact hk _ _ _ i1 i2 ⟨_,ρ1,.tup (ws:=[_,_,_]) (.cons (.v rfl) (.cons (.v rfl) (.cons (.v rfl) .nil))),h5 _ _ i2 .raw,h1 hlt⟩
  ·have hrun:(execOp (ev σ') o).run Tryz.prog κ.w=.ok (.value (.tuple #[.bool false])) κ.w:=by
    simp [execOp,ho,e1,Instr.next,hg,Nat.not_lt.2 hge]
   rw [hrun]
   exact hk _ _ κ hi (.refl _) ⟨_,ρ,.tup (ws:=[_]) (.cons (.v rfl) .nil),hr0,h2 hge⟩
def yjk (s:ByteArray) (pos:Nat):Option (Nat⊕Bool):=cond (Nat.blt pos s.size) (cond (decide (((Utf8.decode s pos).1:Int)<97)||decide (122<((Utf8.decode s pos).1:Int))) (some (.inr false)) (some (.inl (pos+(Utf8.decode s pos).2)))) (some (.inr true))
def ykb (p0:ByteArray):Option Bool:=cond (decide ((p0.size:Int)<1)||decide (12<(p0.size:Int))) (some false) (loopF (yjk p0) FUEL 0)
attribute [local irreducible] PWL PWC PWD POpL POpQ PEv PGuardIs PSub PPick PUpd PSplice PFill PLit PF PFV PCall FOk pseqK pblockK pmidK pcutK ploopK pretK Cov PHolds loopF yjk
theorem yvp {p0:ByteArray} {r:Bool} (h:ykb p0=some r):PF 173 [pS p0] (pB r):=by
 unfold ykb at h
 refine ych ?_
 refine ybc Tryz.func173 fk173 rfl Tryz.ntmps173 Tryz.results173 rfl ?_
 (repeat refine yaa ?_)
 refine yac [] [2] [] fo0 (by kernel_rfl) ?_
 (repeat (first | apply yal | apply yab))
 (repeat refine yaa ?_)
 refine yac [] [5,6,7,8,9,10,11] [(12,pB (decide ((p0.size:Int)<1)||decide (12<(p0.size:Int))))] fo0 (by kernel_rfl) ?_
 (repeat (first | apply yal | apply yab))
 (repeat refine yaa ?_)
 refine yio rfl (fun hc=>?_) (fun hc=>?_)
 ·replace h:=xka hc h
  (repeat refine yaa ?_)
  refine yac [] [] [(2,pB false)] fo0 (by kernel_rfl) ?_
  (repeat (first | apply yal | apply yab))
  (repeat refine yaa ?_)
  refine yai ?_
  (repeat (first | apply yah | apply yaf | apply ybb | apply ypx))
  obtain rfl:=Option.some.inj h
  exact ybh (ygn (ybn rfl)) zsn ⟨rfl,rfl⟩
 replace h:=xkb hc h
 refine yag ?_
 (repeat (first | apply yal | apply yab))
 (repeat refine yaa ?_)
 refine yae ?_
 refine yaj 1 [] [] [(13,pS p0)] fo0 (by kernel_rfl) ?_
 refine yat rfl rfl rfl (pl_range rfl rfl rfl fun b=>?_)
 refine yau ?_
 (repeat (first | apply yal | apply yab))
 (repeat refine yaa ?_)
 refine yav (Y:=Unit) (fun _=>[]) (fun _=>[]) (fun _=>r=true) ?_ ?_
 ·refine yak ?_
  refine yay (Y:=Unit) (S:=Nat) _ h (fun _ _=>[(14,pP b 0)]) (fun _ pos=>[PRes.raw (itr b p0 pos)]) () (by (repeat (first | exact zhn | apply zhc rfl))) (by (repeat (first | exact zsn | (apply zsc;(focus (repeat (first | exact zph | apply zpt))))))) ?_
  rintro _ pos o τ hb;dsimp only [pupds]
  unfold yjk at hb
  (repeat refine yaa ?_)
  refine yae ?_
  refine yat rfl rfl rfl (pl_next rfl rfl zuh (fun hlt=>?_) (fun hge=>?_))
  ·have hlt':Nat.blt pos p0.size=true:=by simp [Nat.blt];omega
   rw [hlt'] at hb;simp only [cot] at hb
   refine yan [] [] [(16,pB true)] fo0 (by kernel_rfl) ?_
   (repeat (first | apply yal | apply yab))
   (repeat refine yaa ?_)
   refine yio (p:=true) rfl (fun _=>?_) (fun hf=>by cases hf)
   refine yag ?_
   (repeat (first | apply yal | apply yab))
   (repeat refine yaa ?_)
   refine yak ?_
   (repeat refine yaa ?_)
   refine yac [] [17] [(4,.v (.int .i32 ((Utf8.decode p0 pos).1:Int)))] fo0 (by kernel_rfl) ?_
   (repeat (first | apply yal | apply yab))
   (repeat refine yaa ?_)
   refine yac [] [18,19,20,21,22] [(23,pB (decide (((Utf8.decode p0 pos).1:Int)<97)||decide (122<((Utf8.decode p0 pos).1:Int))))] fo0 (by kernel_rfl) ?_
   (repeat (first | apply yal | apply yab))
   (repeat refine yaa ?_)
   refine yio rfl (fun hc2=>?_) (fun hc2=>?_)
   ·replace hb:=xka hc2 hb
    (repeat refine yaa ?_)
    refine yac [] [] [(2,pB false)] fo0 (by kernel_rfl) ?_
    (repeat (first | apply yal | apply yab))
    (repeat refine yaa ?_)
    refine yai ?_
    (repeat (first | apply yah | apply yaf | apply ybb | apply ypx))
    refine yba hb (fun ht=>?_);subst ht
    (repeat (first | apply yah | apply yaf | apply ybb | apply ypx))
    exact ybh (ygn (ybn rfl)) zsn ⟨rfl,rfl⟩
   replace hb:=xkb hc2 hb
   refine yag ?_
   (repeat apply yal)
   exact ybu hb () (by (repeat (first | exact zhn | apply zhc rfl))) (by (repeat (first | exact zsn | (apply zsc;(focus (repeat (first | exact zph | apply zpt)))))))
  have hge':Nat.blt pos p0.size=false:=by cases e:Nat.blt pos p0.size;rfl;exact absurd (Nat.le_of_ble_eq_true e) (by omega)
  rw [hge'] at hb;simp only [cof] at hb
  refine yan [] [] [(16,pB false)] fo0 (by kernel_rfl) ?_
  (repeat (first | apply yal | apply yab))
  (repeat refine yaa ?_)
  refine yio (p:=false) rfl (fun hf=>by cases hf) (fun _=>?_)
  refine ybd ?_
  (repeat (first | apply yap | apply xds | apply xdt | apply yre rfl))
  refine yam hb (fun ht=>?_)
  refine yao rfl ?_
  exact yaz () zhn zsn ht.symm
 rintro _ τ hz;subst hz;dsimp only [pupds]
 (repeat refine yaa ?_)
 refine yac [] [] [(2,pB true)] fo0 (by kernel_rfl) ?_
 (repeat (first | apply yal | apply yab))
 (repeat refine yaa ?_)
 refine yai ?_
 (repeat (first | apply yah | apply yaf | apply ybb | apply ypx))
 exact ybh (ygn (ybn rfl)) zsn ⟨rfl,rfl⟩
end SX
end Go.Proofs.YtoccohlbjnoeoaaGreatDoor
namespace Go.Proofs
open Go.Shelf
def Tryz.lSF_ren:Go.Shelf.Ren:=⟨fun | 6=>72 | 15=>113 | 14=>112 | 28=>151 | 29=>152 | 20=>143 | 21=>144 | 22=>145 | 23=>146 | 24=>147 | 25=>148 | 26=>149 | 27=>150 | 46=>176 | 47=>177 | 48=>178 | 49=>179 | 50=>180 | 57=>196 | n=>n,fun | 22=>57 | 24=>54 | 25=>122 | 3=>3 | 39=>33 | 0=>0 | 53=>208 | 55=>154 | 4=>4 | 46=>202 | 45=>201 | 50=>143 | 5=>5 | 9=>9 | 66=>231 | 70=>235 | 76=>253 | 77=>254 | n=>n,fun | n=>n⟩
theorem Tryz.lSF:Go.Proofs.SlLaysF0.n6 Tryz.prog Tryz.lSF_ren:={
 mixed:=by kernel_rfl
 f6:=⟨Tryz.f72.name,by decide,Tryz.func72.trans (congrArg some (by kernel_rfl))⟩
 f14:=⟨Tryz.f112.name,by decide,Tryz.func112.trans (congrArg some (by kernel_rfl))⟩
 f15:=Tryz.func113.trans (congrArg some (by kernel_rfl))
 f20:=⟨Tryz.f143.name,by decide,Tryz.func143.trans (congrArg some (by kernel_rfl))⟩
 f21:=⟨Tryz.f144.name,by decide,Tryz.func144.trans (congrArg some (by kernel_rfl))⟩
 f22:=⟨Tryz.f145.name,by decide,Tryz.func145.trans (congrArg some (by kernel_rfl))⟩
 f23:=⟨Tryz.f146.name,by decide,Tryz.func146.trans (congrArg some (by kernel_rfl))⟩
 f24:=⟨Tryz.f147.name,by decide,Tryz.func147.trans (congrArg some (by kernel_rfl))⟩
 f25:=⟨Tryz.f148.name,by decide,Tryz.func148.trans (congrArg some (by kernel_rfl))⟩
 f26:=⟨Tryz.f149.name,by decide,Tryz.func149.trans (congrArg some (by kernel_rfl))⟩
 f27:=⟨Tryz.f150.name,by decide,Tryz.func150.trans (congrArg some (by kernel_rfl))⟩
 f28:=Tryz.func151.trans (congrArg some (by kernel_rfl))
 f29:=Tryz.func152.trans (congrArg some (by kernel_rfl))
 f46:=⟨Tryz.f176.name,by decide,Tryz.func176.trans (congrArg some (by kernel_rfl))⟩
 f47:=Tryz.func177.trans (congrArg some (by kernel_rfl))
 f48:=Tryz.func178.trans (congrArg some (by kernel_rfl))
 f49:=⟨Tryz.f179.name,by decide,Tryz.func179.trans (congrArg some (by kernel_rfl))⟩
 f50:=⟨Tryz.f180.name,by decide,Tryz.func180.trans (congrArg some (by kernel_rfl))⟩
 f57:=⟨Tryz.f196.name,by decide,Tryz.func196.trans (congrArg some (by kernel_rfl))⟩
 t0:=Tryz.underlying0
 a0:=Tryz.isAgg0
 z0:=Tryz.sizeOf0
 v0:=Tryz.zeroValue0
 t3:=Tryz.underlying3
 a3:=Tryz.isAgg3
 z3:=Tryz.sizeOf3
 v3:=Tryz.zeroValue3
 t4:=Tryz.underlying4
 a4:=Tryz.isAgg4
 z4:=Tryz.sizeOf4
 v4:=Tryz.zeroValue4
 t5:=Tryz.underlying5
 a5:=Tryz.isAgg5
 z5:=Tryz.sizeOf5
 v5:=Tryz.zeroValue5
 t9:=Tryz.underlying9
 a9:=Tryz.isAgg9
 z9:=Tryz.sizeOf9
 v9:=Tryz.zeroValue9
 t22:=Tryz.underlying57
 a22:=Tryz.isAgg57
 z22:=Tryz.sizeOf57
 v22:=Tryz.zeroValue57
 t25:=Tryz.underlying122
 a25:=Tryz.isAgg122
 z25:=Tryz.sizeOf122
 v25:=Tryz.zeroValue122
 t39:=Tryz.underlying33
 a39:=Tryz.isAgg33
 z39:=Tryz.sizeOf33
 v39:=Tryz.zeroValue33
 t45:=Tryz.underlying201
 a45:=Tryz.isAgg201
 z45:=Tryz.sizeOf201
 v45:=Tryz.zeroValue201
 t46:=Tryz.underlying202
 a46:=Tryz.isAgg202
 z46:=Tryz.sizeOf202
 v46:=Tryz.zeroValue202
 t50:=Tryz.underlying143
 a50:=Tryz.isAgg143
 z50:=Tryz.sizeOf143
 v50:=Tryz.zeroValue143
 t53:=Tryz.underlying208
 a53:=Tryz.isAgg208
 z53:=Tryz.sizeOf208
 v53:=Tryz.zeroValue208
 t55:=Tryz.underlying154
 a55:=Tryz.isAgg154
 z55:=Tryz.sizeOf154
 v55:=Tryz.zeroValue154
 t66:=Tryz.underlying231
 a66:=Tryz.isAgg231
 z66:=Tryz.sizeOf231
 v66:=Tryz.zeroValue231
 t70:=Tryz.underlying235
 a70:=Tryz.isAgg235
 z70:=Tryz.sizeOf235
 v70:=Tryz.zeroValue235
 t76:=Tryz.underlying253
 a76:=Tryz.isAgg253
 z76:=Tryz.sizeOf253
 v76:=Tryz.zeroValue253
 t77:=Tryz.underlying254
 a77:=Tryz.isAgg254
 z77:=Tryz.sizeOf254
 v77:=Tryz.zeroValue254 }
end Go.Proofs
namespace Go.Proofs
open Go.Shelf
def Tryz.lSs_ren:Go.Shelf.Ren:=⟨fun | 190=>164 | 125=>113 | 258=>184 | 128=>151 | 129=>152 | 302=>197 | 303=>198 | 304=>199 | 305=>200 | 306=>201 | 307=>202 | 308=>203 | 309=>204 | 310=>205 | 333=>213 | 329=>177 | 330=>178 | 334=>214 | 335=>215 | 336=>216 | 344=>221 | n=>n,fun | 31=>43 | 9=>9 | 3=>3 | 46=>33 | 0=>0 | 51=>208 | 53=>154 | 4=>4 | 183=>202 | 182=>201 | 131=>143 | 5=>5 | 218=>231 | 222=>235 | 228=>253 | 229=>254 | n=>n,fun | n=>n⟩
theorem Tryz.lSs:Go.Proofs.Lays.n190 Tryz.prog Tryz.lSs_ren:={
 mixed:=by kernel_rfl
 f125:=Tryz.func113.trans (congrArg some (by kernel_rfl))
 f128:=Tryz.func151.trans (congrArg some (by kernel_rfl))
 f129:=Tryz.func152.trans (congrArg some (by kernel_rfl))
 f190:=Tryz.func164.trans (congrArg some (by kernel_rfl))
 f258:=Tryz.func184.trans (congrArg some (by kernel_rfl))
 f302:=Tryz.func197.trans (congrArg some (by kernel_rfl))
 f303:=Tryz.func198.trans (congrArg some (by kernel_rfl))
 f304:=Tryz.func199.trans (congrArg some (by kernel_rfl))
 f305:=Tryz.func200.trans (congrArg some (by kernel_rfl))
 f306:=Tryz.func201.trans (congrArg some (by kernel_rfl))
 f307:=Tryz.func202.trans (congrArg some (by kernel_rfl))
 f308:=Tryz.func203.trans (congrArg some (by kernel_rfl))
 f309:=Tryz.func204.trans (congrArg some (by kernel_rfl))
 f310:=Tryz.func205.trans (congrArg some (by kernel_rfl))
 f329:=Tryz.func177.trans (congrArg some (by kernel_rfl))
 f330:=Tryz.func178.trans (congrArg some (by kernel_rfl))
 f333:=Tryz.func213.trans (congrArg some (by kernel_rfl))
 f334:=Tryz.func214.trans (congrArg some (by kernel_rfl))
 f335:=Tryz.func215.trans (congrArg some (by kernel_rfl))
 f336:=Tryz.func216.trans (congrArg some (by kernel_rfl))
 f344:=Tryz.func221.trans (congrArg some (by kernel_rfl))
 t0:=Tryz.underlying0
 a0:=Tryz.isAgg0
 z0:=Tryz.sizeOf0
 v0:=Tryz.zeroValue0
 t3:=Tryz.underlying3
 a3:=Tryz.isAgg3
 z3:=Tryz.sizeOf3
 v3:=Tryz.zeroValue3
 t4:=Tryz.underlying4
 a4:=Tryz.isAgg4
 z4:=Tryz.sizeOf4
 v4:=Tryz.zeroValue4
 t5:=Tryz.underlying5
 a5:=Tryz.isAgg5
 z5:=Tryz.sizeOf5
 v5:=Tryz.zeroValue5
 t9:=Tryz.underlying9
 a9:=Tryz.isAgg9
 z9:=Tryz.sizeOf9
 v9:=Tryz.zeroValue9
 t31:=Tryz.underlying43
 a31:=Tryz.isAgg43
 z31:=Tryz.sizeOf43
 v31:=Tryz.zeroValue43
 t46:=Tryz.underlying33
 a46:=Tryz.isAgg33
 z46:=Tryz.sizeOf33
 v46:=Tryz.zeroValue33
 t51:=Tryz.underlying208
 a51:=Tryz.isAgg208
 z51:=Tryz.sizeOf208
 v51:=Tryz.zeroValue208
 t53:=Tryz.underlying154
 a53:=Tryz.isAgg154
 z53:=Tryz.sizeOf154
 v53:=Tryz.zeroValue154
 t131:=Tryz.underlying143
 a131:=Tryz.isAgg143
 z131:=Tryz.sizeOf143
 v131:=Tryz.zeroValue143
 t182:=Tryz.underlying201
 a182:=Tryz.isAgg201
 z182:=Tryz.sizeOf201
 v182:=Tryz.zeroValue201
 t183:=Tryz.underlying202
 a183:=Tryz.isAgg202
 z183:=Tryz.sizeOf202
 v183:=Tryz.zeroValue202
 t218:=Tryz.underlying231
 a218:=Tryz.isAgg231
 z218:=Tryz.sizeOf231
 v218:=Tryz.zeroValue231
 t222:=Tryz.underlying235
 a222:=Tryz.isAgg235
 z222:=Tryz.sizeOf235
 v222:=Tryz.zeroValue235
 t228:=Tryz.underlying253
 a228:=Tryz.isAgg253
 z228:=Tryz.sizeOf253
 v228:=Tryz.zeroValue253
 t229:=Tryz.underlying254
 a229:=Tryz.isAgg254
 z229:=Tryz.sizeOf254
 v229:=Tryz.zeroValue254 }
end Go.Proofs
namespace Go.Proofs.YtoccohlbjnoeoaaGreatDoor
namespace SX
open Go
section
variable {γ:Type} [Inhabited γ]
theorem yzu (e:γ→Value) (D:Array γ) (cur:Array Value) (h:D.size≤cur.size):(Sort.putCells e 0 D cur).toList.take D.size=D.toList.map e:=by
 apply List.ext_getElem
 ·simp [Sort.putCells];omega
 intro i h1 h2
 have h3:i<D.size:=by simpa using h2
 simp [Sort.putCells,h3]
theorem xei {e:γ→Value} {w:World} {b:Nat} {D:Array γ} {cur:Array Value} {T:Nat} {fr:Nat×Nat} (h:w.heap[b]?=some (.cells cur T fr)):(Sort.putRow e w b 0 D).heap[b]?=some (.cells (Sort.putCells e 0 D cur) T fr):=by
 simp [Sort.putRow,Sort.mapBlock,Array.getElem?_modify,h,Sort.onCells]
theorem yxc {e:γ→Value} {w:World} {b i:Nat} {D:Array γ} (h:i≠b):(Sort.putRow e w b 0 D).heap[i]?=w.heap[i]?:=by
 simp only [Sort.putRow,Sort.mapBlock,Array.getElem?_modify]
 rw [if_neg (fun e=>h e.symm)]
theorem yss {β:Base} {l:List Res} {κ:Kr} {b n c T sz m:Nat} {css css':List (List Value)} {os:Array Obj} {e:γ→Value} {D:Array γ} (hi:Zp β (Res.row (some ⟨b,0,none⟩) n c T sz css::l) κ) (hF:D.toList.map e=css'.flatten) (hl:css'.length=n) (hw:∀ cs∈css',cs.length=sz) :
    Zp β (Res.row (some ⟨b,0,none⟩) n c T sz css'::l) ⟨Sort.grow (Sort.putRow e (Sort.ahead κ.w m) b 0 D) os,κ.S⟩∧Kle κ ⟨Sort.grow (Sort.putRow e (Sort.ahead κ.w m) b 0 D) os,κ.S⟩:=by
  have ho:=hi.own _ (List.mem_cons_self)
  obtain ⟨h1,h2,h3,h4,h5,cur,h6,h7,h8⟩:=ho
  have hD:D.size=n*sz:=by
    have:=congrArg List.length hF
    rw [List.length_map,yey hw,hl] at this
    simpa using this
  have hle:D.size≤cur.size:=by rw [hD,h7];exact Nat.mul_le_mul_right _ h4
  have t1:=hi.turn (r':=Res.row (some ⟨b,0,none⟩) n c T sz css') (l1:=[]) (b:=b) (w':=Sort.putRow e (Sort.ahead κ.w m) b 0 D) rfl rfl rfl (fun i hne=>yxc hne) (by simp [Sort.putRow,Sort.mapBlock,Sort.ahead])
    ⟨h1,hl,hw,h4,h5,_,xei (w:=Sort.ahead κ.w m) h6,by simpa [Sort.putCells] using h7,by rw [← hD,yzu e D cur hle,hF]⟩ rfl rfl rfl (by simp [Sort.putRow,Sort.mapBlock,Sort.ahead])
  have hh:=t1.1.own _ (List.mem_cons_self)
  have hb2:b<(Sort.putRow e (Sort.ahead κ.w m) b 0 D).heap.size:=by
    have:=(t1.1.blk _ (List.mem_cons_self) b rfl).1;exact this
  have hold:∀ i,i<(Sort.putRow e (Sort.ahead κ.w m) b 0 D).heap.size→(Sort.grow (Sort.putRow e (Sort.ahead κ.w m) b 0 D) os).heap[i]?=(Sort.putRow e (Sort.ahead κ.w m) b 0 D).heap[i]?:=fun i h=>by
    simp only [Sort.grow];rw [Array.getElem?_append_left h]
  have hh2:(Res.row (some ⟨b,0,none⟩) n c T sz css').holds (Sort.grow (Sort.putRow e (Sort.ahead κ.w m) b 0 D) os):=by
    have:(Sort.grow (Sort.putRow e (Sort.ahead κ.w m) b 0 D) os).heap[b]?=(Sort.putRow e (Sort.ahead κ.w m) b 0 D).heap[b]?:=hold b hb2
    unfold Res.holds at hh ⊢
    show (Res.row (some ⟨b,0,none⟩) n c T sz css').says (Sort.grow (Sort.putRow e (Sort.ahead κ.w m) b 0 D) os).heap[b]?
    rw [this];exact hh
  obtain ⟨i3,k3⟩:=t1.1.grow (r':=Res.row (some ⟨b,0,none⟩) n c T sz css') (w':=Sort.grow (Sort.putRow e (Sort.ahead κ.w m) b 0 D) os) ⟨rfl,rfl,rfl,by simp [Sort.grow],fun i h _=>hold i h⟩ (.inr (.inl rfl)) hh2 (xji hh2) (Nat.le_refl _)
  exact ⟨i3,t1.2.trans k3⟩
end
def ltS (a b:ByteArray):Bool:=Op.bytesLess a.toList b.toList
theorem ytf (a b:ByteArray):ltS a b=decide (a.data.toList<b.data.toList):=by
 unfold ltS;rw [bytesLess_eq,ByteArray.toList_eq,ByteArray.toList_eq]
theorem xlb {κ:Kr}:∀ {xs:List ByteArray} {dss:List (List Value)},Rpss κ (xs.map eS) dss→dss=xs.map fun s=>[.string s]
 | [],_,h=>h.nil_inv
 | x::xs,_,h=>by
  obtain ⟨d,ds,rfl,h1,h2⟩:=h.cons_inv
  obtain ⟨v,vs,rfl,h3,h4⟩:=h1.cons_inv
  rw [xlb h2,h4.nil_inv,h3.val];rfl
theorem yyb {κ:Kr}:∀ {xs:List ByteArray} {dss:List (List Value)},Rpss κ (xs.map eS) dss→∀ x∈xs,okb (.string x)=true
 | [],_,_=>by simp
 | x::xs,_,h=>by
  obtain ⟨d,ds,rfl,h1,h2⟩:=h.cons_inv
  obtain ⟨v,vs,rfl,h3,h4⟩:=h1.cons_inv
  intro y hy
  rcases List.mem_cons.1 hy with rfl | hy
  ·cases h3 with | v hq=>exact hq
  exact yyb h2 y hy
theorem yyc {κ:Kr}:∀ {xs:List ByteArray},(∀ x∈xs,okb (.string x)=true)→Rpss κ (xs.map eS) (xs.map fun s=>[.string s])
 | [],_=>.nil
 | x::xs,h=>.cons (.cons (.v (h x (by simp))) .nil) (yyc fun y hy=>h y (by simp [hy]))
theorem flat_str (l:List ByteArray):(l.map fun s=>[Value.string s]).flatten=l.map Value.string:=by
 induction l with
 | nil=>rfl
 | cons x xs ih=>simp [ih]
def yhx (l:List ByteArray):Option (List ByteArray):=some (isort ltS l)
theorem ypm {α:Type} {lt:α→α→Bool} (l:List α):(isort lt l).length=l.length:=ylb.length_eq
theorem xhx (l:List ByteArray):(l.map fun s=>s.data.toList).mergeSort (fun x y=>decide (x≤y))=(isort ltS l).map fun s=>s.data.toList:=by
 have key:∀ x y:List UInt8,decide (x≤y) = !decide (y<x):=fun x y=>by
  rw [← decide_not];exact decide_eq_decide.2 (by rw [List.not_lt])
 refine yrg (lt:=fun x y=>decide (x<y)) (fun x y h1 h2=>?_) ?_ ?_ ?_
 ·have h1:=of_decide_eq_false h1;have h2:=of_decide_eq_false h2
  exact List.le_antisymm (List.not_lt.1 h2) (List.not_lt.1 h1)
 ·have h:=List.pairwise_mergeSort (le:=fun x y:List UInt8=>decide (x≤y)) (fun a b c h1 h2=>det (List.le_trans (of_decide_eq_true h1) (of_decide_eq_true h2))) (fun a b=>by
   rcases List.le_total a b with h | h
   ·simp [h]
   simp [h]) (l.map fun s=>s.data.toList)
  exact h.imp fun {a b} hab=>by rw [key] at hab;simpa using hab
 ·rw [List.pairwise_map]
  have h:=ymb (lt:=ltS) (fun x y z h1 h2=>by
   rw [ytf] at *;exact det (List.lt_trans (of_decide_eq_true h1) (of_decide_eq_true h2))) (fun x y z h1 h2=>by
   rw [ytf] at *;exact ydl (List.not_lt.2 (List.le_trans (List.not_lt.1 (of_decide_eq_false h2)) (List.not_lt.1 (of_decide_eq_false h1))))) (fun x=>by rw [ytf];exact ydl (List.lt_irrefl _)) l
  exact h.imp fun {a b} hab=>by rw [← ytf];exact hab
 exact (List.mergeSort_perm _ _).trans (ylb.symm.map _)
theorem ykx {p0 r:List ByteArray} (h:yhx p0=some r) {a:Option Addr} {n c:Nat}:PCall 164 [.v (.slice a n c)] [PRes.row a n c 9 1 (List.map eS p0)] (fun pv ρ'=>pv=.tup []∧ρ'=[PRes.row a n c 9 1 (List.map eS r)]):=fun κ args ρ g ha hr=>by
 obtain rfl:=Option.some.inj h
 obtain ⟨v,ws,rfl,ha1,ha2⟩:=ha.cons_inv
 rw [ha2.nil_inv,ha1.val]
 obtain ⟨r0,l',rfl,hr1,hr2⟩:=hr.cons_inv
 have:=hr2.nil_inv;subst this
 refine ⟨fk164,fun hi=>?_⟩
 cases hr1 with
 | row hb ho hc =>
  have hok:=yyb hc
  have hd:=xlb hc;subst hd
  have how:=hi.own _ (List.mem_cons_self)
  cases a with
  | none =>
   obtain ⟨rfl,rfl,h3⟩:=how
   have hp:p0=[]:=List.map_eq_nil_iff.1 h3
   subst hp
   refine (Any.slices_Sort_string_none Tryz.lSs none 0 κ.w).mono fun e w' ⟨h1,h2⟩=>?_
   subst h1 h2
   exact ⟨_,_,κ,rfl,rfl,hi,.tup [],_,.tup .nil,.cons (.row hb ho (by exact .nil)) .nil,rfl,rfl⟩
  | some ad =>
   have how2:=how
   obtain ⟨h1,h2,h3,h4,h5,cur,h6,h7,h8⟩:=how
   obtain ⟨b,off,sp⟩:=ad
   injection h1 with h1a h1b h1c
   subst h1b h1c
   have hblk:b<κ.w.heap.size:=(hi.blk _ (List.mem_cons_self) b rfl).1
   have hn:n=(p0.map fun s=>s.data.toList).length:=by rw [← h2];simp
   have hH:Sort.Holds encStr κ.w b 0 (p0.map fun s=>s.data.toList).toArray:=by
    intro j hj
    have hj2:j<p0.length:=by simpa using hj
    rw [flat_str,Nat.mul_one] at h8
    have hj3:cur.toList[j]?=some (Value.string p0[j]):=by
     have e:=congrArg (fun l=>l[j]?) h8
     simp only [List.getElem?_take,List.getElem?_map] at e
     rw [if_pos (by rw [← h2];simpa using hj2),List.getElem?_eq_getElem hj2] at e
     exact e
    have hj4:cur[j]?=some (Value.string p0[j]):=by rw [← Array.getElem?_toList];exact hj3
    constructor
    ·simp only [World.cell?,h6,Option.isSome_none,Bool.false_eq_true,if_false,Nat.zero_add]
     rw [hj4]
     congr 1
     simp [getElem!_pos,hj2]
    simp [World.frozen?,h6]
   rw [hn]
   refine (Any.slices_Sort_string Tryz.lSs b 0 c _ κ.w hH hblk (by rw [← hn];unfold maxLen at h5;omega)).mono fun e w' ⟨k1,m,os,k2⟩=>?_
   subst k1 k2
   obtain ⟨i1,i2⟩:=yss (m:=m) (os:=os) (e:=encStr) (css':=(isort ltS p0).map fun s=>[Value.string s]) (D:=((p0.map fun s=>s.data.toList).mergeSort fun x y=>decide (x≤y)).toArray) hi (by
    rw [xhx]
    generalize isort ltS p0=q
    induction q with
    | nil=>rfl
    | cons x xs ih=>simp at ih ⊢;exact ih) (by rw [List.length_map,ypm];rw [← h2];simp) (by simp)
   exact ⟨_,_,⟨_,κ.S⟩,rfl,rfl,i1,.tup [],_,.tup .nil,.cons (.row hb (by intro cs hcs;obtain ⟨q,_,rfl⟩:=List.mem_map.1 hcs;intro u hu;rw [List.mem_singleton.1 hu];rfl) (yyc fun y hy=>hok y (ylb.mem_iff.1 hy))) .nil,rfl,by rw [← hn]⟩
theorem le_grow {κ κ':Kr} (h:Le [] κ κ'):∃ q os',κ'.w=Sort.grow (κ.w.drewN q) os':=by
 refine ⟨κ'.w.drawn - κ.w.drawn,κ'.w.heap.extract κ.w.heap.size κ'.w.heap.size,?_⟩
 have hz:=h.kle.size
 have hd:=h.drawn
 have e1:κ'.w.heap=κ.w.heap++κ'.w.heap.extract κ.w.heap.size κ'.w.heap.size:=by
  apply Array.ext_getElem?
  intro i
  rcases Nat.lt_or_ge i κ.w.heap.size with hi | hi
  ·rw [Array.getElem?_append_left hi];exact h.same i hi (by simp)
  rw [Array.getElem?_append_right hi,Array.getElem?_extract]
  split
  ·congr 1;omega
  rw [Array.getElem?_eq_none (by omega)]
 cases hw:κ'.w with
 | mk heap tape drawn os output =>
  have h2:=h.tape;have h3:=h.os;have h4:=h.output
  rw [hw] at e1 h2 h3 h4 hd
  simp only at e1 h2 h3 h4 hd
  simp only [Sort.grow,World.drewN]
  subst h2 h3 h4
  rw [← e1]
  congr 1;omega
theorem xbx {γ:Type} [Inhabited γ] (enc:γ→List Value) (k:Nat) (hk:∀ x,(enc x).length=k):∀ L:List γ,(List.range (L.length*k)).map (fun t=>(enc L[t / k]!)[t % k]!)=(L.map enc).flatten
 | []=>by simp
 | x::xs=>by
  have ih:=xbx enc k hk xs
  rcases Nat.eq_zero_or_pos k with h0 | h0
  ·subst h0
   have:∀ M:List γ,(M.map enc).flatten=[]:=fun M=>by
    rw [List.flatten_eq_nil_iff];intro l hl;obtain ⟨y,_,rfl⟩:=List.mem_map.1 hl;exact List.eq_nil_of_length_eq_zero (hk y)
   rw [this];simp
  rw [List.length_cons,Nat.add_mul,Nat.one_mul,Nat.add_comm,List.range_add,List.map_append,List.map_cons,List.flatten_cons,← ih,List.map_map]
  congr 1
  ·apply List.ext_getElem
   ·simp [hk]
   intro i h1 h2
   have hi:i<k:=by simpa using h1
   simp [Nat.div_eq_of_lt hi,Nat.mod_eq_of_lt hi,getElem!_pos,h2]
  apply List.map_congr_left
  intro t _
  simp only [Function.comp,Nat.add_div_left _ h0,Nat.add_mod_left]
  rfl
theorem yzv {γ:Type} [Inhabited γ] (enc:γ→List Value) (k:Nat) (hk:∀ x,(enc x).length=k) (d:Array γ):(Sort.flatK enc k d).toList.map id=(d.toList.map enc).flatten:=by
 rw [List.map_id,← xbx enc k hk]
 simp only [Sort.flatK,Array.toList_map,Array.toList_range,Array.length_toList]
 apply List.map_congr_left
 intro t _
 congr 2
 simp [getElem!_def]
section
variable {α:Type} {enc:α→List PV} {encV:α→List Value}
theorem xgf {κ:Kr} (hinv:∀ x ds,Rps κ (enc x) ds→ds=encV x):∀ {xs:List α} {dss:List (List Value)},Rpss κ (xs.map enc) dss→dss=xs.map encV
 | [],_,h=>h.nil_inv
 | x::xs,_,h=>by
  obtain ⟨d,ds,rfl,h1,h2⟩:=h.cons_inv
  rw [xgf hinv h2,hinv _ _ h1];rfl
theorem yvq {κ:Kr} (hmk:∀ x,Rps κ (enc x) (encV x)):∀ {xs:List α},Rpss κ (xs.map enc) (xs.map encV)
 | []=>.nil
 | x::xs=>.cons (hmk x) (yvq hmk)
theorem callSF [Inhabited α] {f g T k:Nat} {ρs:Shelf.Ren} (L:SlLaysF0.n6 Tryz.prog ρs) (hf:ρs.f 6=f) (fOk:FnOk f) (gOk:FnOk g) (aE:∀ w,(isAgg (ρs.t 24)).run Tryz.prog w=.ok true w) (zE:∀ w,(Go.sizeOf (ρs.t 24)).run Tryz.prog w=.ok k w)
    (hk:∀ x,(encV x).length=k) (h1:∀ x,∀ v∈encV x,v.oneCell'=true) (hinv:∀ κ x ds,Rps κ (enc x) ds→ds=encV x) (hmk:∀ κ x,Rps κ (enc x) (encV x)) (cf:α→α→Int) (hO:Sort.SWO (ltOf cf)) (hT:∀ x y,ltOf cf x y=false→ltOf cf y x=false→x=y)
    (hcmp:∀ x y,PF g [.agg (enc x),.agg (enc y)] (pI (cf x y))) {p0:List α} {a:Option Addr} {n c:Nat}:PCall f [.v (.slice a n c),.fn g []] [PRes.row a n c T k (List.map enc p0)] (fun pv ρ'=>pv=.tup []∧ρ'=[PRes.row a n c T k (List.map enc (isort (ltOf cf) p0))]):=fun κ args ρ gk ha hr=>by
  subst hf
  obtain ⟨v,ws,rfl,ha1,ha2⟩:=ha.cons_inv
  obtain ⟨v2,ws2,rfl,ha3,ha4⟩:=ha2.cons_inv
  rw [ha4.nil_inv,ha1.val]
  have hv2:v2=.func (.func g) #[] #[]:=by
    cases ha3 with
    | fn h=>rw [h.nil_inv]
  subst hv2
  obtain ⟨r0,l',rfl,hr1,hr2⟩:=hr.cons_inv
  have:=hr2.nil_inv;subst this
  refine ⟨fOk,fun hi=>?_⟩
  have hn1:∀ l:List α,∀ cs∈l.map encV,cs.length=k:=fun l cs hcs=>by obtain ⟨q,_,rfl⟩:=List.mem_map.1 hcs;exact hk q
  cases hr1 with
  | row hb ho hc =>
    have hd:=xgf (hinv κ) hc;subst hd
    have how:=hi.own _ (List.mem_cons_self)
    cases a with
    | none =>
      obtain ⟨rfl,rfl,h3⟩:=how
      have hp:p0=[]:=List.map_eq_nil_iff.1 h3
      subst hp
      refine (AnyF.slices_SortFunc_none L none 0 _ κ.w).mono fun e w' ⟨h1,h2⟩=>?_
      subst h1 h2
      exact ⟨_,_,κ,rfl,rfl,hi,.tup [],_,.tup .nil,.cons (.row hb ho (by exact .nil)) .nil,rfl,rfl⟩
    | some ad =>
      obtain ⟨q1,h2,h3,h4,h5,cur,h6,h7,h8⟩:=how
      obtain ⟨b,off,sp⟩:=ad
      injection q1 with h1a h1b h1c
      subst h1b h1c
      have hblk:b<κ.w.heap.size:=(hi.blk _ (List.mem_cons_self) b rfl).1
      have hn:n=p0.toArray.size:=by rw [← h2];simp
      have hz:(Sort.flatK encV k p0.toArray).size=n*k:=by rw [Sort.size_flatK,← hn]
      have hft:(Sort.flatK encV k p0.toArray).toList=cur.toList.take (n*k):=by
        rw [h8,← yzv encV k hk,List.map_id]
      have hH:Sort.HoldsK encV k κ.w b 0 p0.toArray:=by
        intro j hj
        have hj2:j<n*k:=by rw [← hz];exact hj
        have hj3:(Sort.flatK encV k p0.toArray)[j]?=cur[j]?:=by
          rw [← Array.getElem?_toList,hft,List.getElem?_take,if_pos hj2,Array.getElem?_toList]
        constructor
        · simp only [World.cell?,h6,Option.isSome_none,Bool.false_eq_true,if_false,Nat.zero_add]
          rw [← hj3,Array.getElem?_eq_getElem hj,getElem!_pos _ j hj];rfl
        simp [World.frozen?,h6]
      have hcl:CmpLays Tryz.prog g #[] encV k cf b 0 p0.toArray.size κ.w:=fun m os dk hs x y=>by
        obtain ⟨i1,k1⟩:=yss (m:=m) (os:=os) (e:=id) (D:=Sort.flatK encV k dk) (css':=dk.toList.map encV) hi (yzv encV k hk dk) (by rw [List.length_map,Array.length_toList,hs,hn]) (hn1 _)
        have hc2:=hcmp x y ⟨_,κ.S⟩ [.agg (encV x).toArray,.agg (encV y).toArray] (gk.mono k1) (.cons (.agg (h1 x) (hmk _ x)) (.cons (.agg (h1 y) (hmk _ y)) .nil))
        refine (hc2.2 ⟨Le.refl _ _,i1.fin,by simp,by simp,List.Pairwise.nil⟩).mono fun e w' ⟨v,ρ',κ',g1,g2,g3,g4⟩=>?_
        obtain ⟨q,os',hq⟩:=le_grow g3.le
        subst g1 g2
        exact ⟨by rw [g4.2.val],q,os',hq⟩
      rw [hn]
      refine (AnyQ.slices_SortFunc_total L k aE zE encV hk h1 cf hO g #[] b 0 c p0.toArray κ.w (fun args w=>ylx gOk args w) hcl hH hblk (by rw [← hn];unfold maxLen at h5;omega) hT).mono fun e w' ⟨k1,m,os,k2⟩=>?_
      have hso:(p0.toArray.toList.mergeSort fun x y => !(ltOf cf) y x)=isort (ltOf cf) p0:=by
        refine yrg (lt:=ltOf cf) hT ?_ (ymb hO.trans hO.ntrans hO.irrefl p0) ((List.mergeSort_perm _ _).trans ylb.symm)
        have h:=List.pairwise_mergeSort (le:=fun x y:α => !(ltOf cf) y x) (fun a b c h1 h2=>by
          simp only [Bool.not_eq_true'] at h1 h2 ⊢;exact hO.ntrans _ _ _ h2 h1) (fun a b=>by
          cases e1:ltOf cf b a
          · simp
          cases e2:ltOf cf a b
          · simp
          have:=hO.trans _ _ _ e1 e2;rw [hO.irrefl] at this;cases this) p0
        exact h.imp fun {a b} hab=>by simpa using hab
      rw [hso] at k2
      subst k1 k2
      obtain ⟨i1,i2⟩:=yss (m:=m) (os:=os) (e:=id) (css':=(isort (ltOf cf) p0).map encV) (D:=Sort.flatK encV k (isort (ltOf cf) p0).toArray) hi (yzv encV k hk _) (by rw [List.length_map,ypm];rw [← h2];simp) (hn1 _)
      exact ⟨_,_,⟨_,κ.S⟩,rfl,rfl,i1,.tup [],_,.tup .nil,.cons (.row hb (by intro cs hcs;obtain ⟨q,_,rfl⟩:=List.mem_map.1 hcs;exact h1 q) (yvq (hmk _))) .nil,rfl,by rw [← hn]⟩
end
theorem cmpI (a b:Int):yez a b=some (if a<b then -1 else if b<a then 1 else 0):=by
 unfold yez yiu
 simp only [bne_self_eq_false,obs,cof]
 by_cases h:a<b
 ·rw [det h,if_pos h];rfl
 rw [ydl h,if_neg h]
 by_cases h2:b<a
 ·rw [det h2,if_pos h2];rfl
 rw [ydl h2,if_neg h2];rfl
theorem cmpOr2 (a b:Int):yne [a,b]=some (if a=0 then b else a):=by
 unfold yne
 refine (ybz (l:=[a,b]) (by simp) (fun _ x=>cond (x != 0) (some (.inr x)) none) (.inl ()) (fun k hk=>?_) (by rw [yhb];rfl)).trans ?_
 ·rw [dlt hk,cot,bnd (yax hk),ycw hk (by simp)]
  cases ([a,b][k] != 0) <;> rfl
 rw [ylc (fun x:Int=>x != 0) (fun x=>(Sum.inr x:Unit⊕Int))]
 by_cases ha:a=0
 ·subst ha
  by_cases hb:b=0
  ·subst hb;rfl
  simp [hb]
 simp [ha]
def ltClaim (x y:Za):Bool:=decide (x.Product<y.Product)||(decide (x.Product=y.Product)&&decide (x.Agreement<y.Agreement))
def cfClaim (x y:Za):Int:=if (if x.Product<y.Product then (-1:Int) else if y.Product<x.Product then 1 else 0)=0 then (if x.Agreement<y.Agreement then -1 else if y.Agreement<x.Agreement then 1 else 0) else (if x.Product<y.Product then -1 else if y.Product<x.Product then 1 else 0)
theorem yst:ltOf cfClaim=ltClaim:=by
 funext x y
 unfold ltOf cfClaim ltClaim
 rcases Int.lt_trichotomy x.Product y.Product with h | h | h
 ·rw [if_pos h];simp [h]
 ·simp only [h,Int.lt_irrefl,if_false,if_true,decide_false,decide_true,Bool.false_or,Bool.true_and]
  rcases Int.lt_trichotomy x.Agreement y.Agreement with h2 | h2 | h2
  ·rw [if_pos h2];simp [h2]
  ·simp [h2]
  rw [if_neg (by omega),if_pos h2];simp;omega
 have h1:¬ x.Product<y.Product:=by omega
 have h3:¬ x.Product=y.Product:=by omega
 simp [h,h1,h3]
theorem xlc (x y:Za):yek x y=some (cfClaim x y):=by
 unfold yek cfClaim
 rw [cmpI,cmpI]
 simp only [obs,cmpOr2]
theorem yvr (x y:Za):ltClaim x y=true↔x.Product<y.Product∨(x.Product=y.Product∧x.Agreement<y.Agreement):=by simp [ltClaim]
theorem yrl (x y:Za):ltClaim x y=false↔¬ (x.Product<y.Product∨(x.Product=y.Product∧x.Agreement<y.Agreement)):=by rw [← yvr];simp
theorem yvs (x:Za):ltClaim x x=false:=by rw [yrl];omega
theorem yyd (x y z:Za):ltClaim x y=true→ltClaim y z=true→ltClaim x z=true:=by simp only [yvr];omega
theorem yvt (x y z:Za):ltClaim x y=false→ltClaim y z=false→ltClaim x z=false:=by simp only [yrl];omega
theorem yvu (x y:Za):ltClaim x y=false→ltClaim y x=false→x=y:=by
 simp only [yrl];intro h1 h2
 cases x;cases y;simp at h1 h2 ⊢;omega
def ybk (l:List Za):Option (List Za):=some (isort ltClaim l)
theorem ycv {p0 r:List Za} (h:ybk p0=some r) {a:Option Addr} {n c:Nat}:PCall 72 [.v (.slice a n c),.fn 83 []] [PRes.row a n c 54 2 (List.map Za.enc p0)] (fun pv ρ'=>pv=.tup []∧ρ'=[PRes.row a n c 54 2 (List.map Za.enc r)]):=by
 obtain rfl:=Option.some.inj h
 rw [← yst]
 exact callSF Tryz.lSF rfl fk72 fk83 Tryz.isAgg54 Tryz.sizeOf54 (encV:=fun x=>[.int .i64 x.Product,.int .i64 x.Agreement]) (fun _=>rfl)
  (fun x v hv=>by simp at hv;rcases hv with rfl | rfl <;> rfl) (fun κ x ds h=>by
   obtain ⟨v,ws,rfl,h1,h2⟩:=h.cons_inv
   obtain ⟨v2,ws2,rfl,h3,h4⟩:=h2.cons_inv
   rw [h1.val,h3.val,h4.nil_inv]) (fun κ x=>.cons (.v rfl) (.cons (.v rfl) .nil)) cfClaim
  (by rw [yst];exact ⟨yvs,yyd,yvt⟩) (by rw [yst];exact yvu) (fun x y=>ylq (xlc x y))

end SX
end Go.Proofs.YtoccohlbjnoeoaaGreatDoor
