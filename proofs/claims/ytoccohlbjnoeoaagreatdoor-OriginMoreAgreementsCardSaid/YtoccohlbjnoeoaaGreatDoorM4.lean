/- A part of the proof: texts of the walk and of the plain laws, merged. No condition. -/
import Derived.Test.YtoccohlbjnoeoaaGreatDoorM3
set_option linter.unusedVariables false
set_option linter.unusedSimpArgs false
set_option maxHeartbeats 4000000
set_option maxRecDepth 100000
namespace Go.Proofs.YtoccohlbjnoeoaaGreatDoor
namespace SX
open Go
attribute [local irreducible] PWL PWC PWD POpL POpQ PEv PGuardIs PSub PPick PUpd PSplice PFill PLit PF PFV PCall FOk pseqK pblockK pmidK pcutK ploopK pretK Cov PHolds loopF idx app mk gd lb nz ge0 cat sub ssub iand ior ixor ishl ishr imin imax IntKind.wrap Int.tmod Int.tdiv Op.bytesLess strOfNums
def ydo (p0:(List ByteArray)):Option Bool:=cond (decide (8<(p0.length:Int))) (some false) (Option.bind (loopF (S:=Int) (T:=(Unit)⊕(_)) (fun v2=>cond (decide (v2<(p0.length:Int))) (Option.bind (idx p0 v2) (fun m6=>Option.bind (ykb m6) (fun x7=>Option.bind (gd ((!(!x7))&&(decide (0<v2))) (idx p0 (IntKind.i64.wrap (v2 - 1)))) (fun m8=>cond ((!x7)||((decide (0<v2))&&(Op.bytesLess m6.toList m8.toList||decide (m6=m8)))) (some (.inr (.inr false))) (some (.inl (IntKind.i64.wrap (v2+1)))))))) (some (.inr (.inl ())))) FUEL 0) (fun q=>match q with | .inl _=>some true | .inr e=>some e))
theorem yig {p0:(List ByteArray)} {r:Bool}  (h:ydo p0=some r):PF 139 [pL eS p0] (pB r):=by
 unfold ydo at h
 refine ych ?_
 refine ybc Tryz.func139 fk139 rfl Tryz.ntmps139 Tryz.results139 rfl (yaa (yac [] [2] [] fo0 (by kernel_rfl) (yab (yaa (yaa (yac [] [5,6] [(7,pB (decide (8<(p0.length:Int))))] fo0 (by kernel_rfl) (yab (zif rfl h (fun hc1 h=>?_) fun hc1 h=>?_))))))))
 ·refine yaa ?_
  refine yac [] [] [(2,pB false)] fo0 (by kernel_rfl) (yab (yai (yah ?_)))
  obtain rfl:=osi h
  exact zq rfl ⟨rfl,rfl⟩
 refine yag ?_
 refine yab (yaa (yaa (yac [] [] [(8,pL eS p0),(9,pI (p0.length:Int)),(10,pI 0)] fo0 (by kernel_rfl) (yab (yad h fun q4 hq4 h=>?_)))))
 refine yav (Y:=(Unit)×(Unit)) (fun (_,_)=>[]) (fun (_,_)=>[]) (fun (_,_)=>q4=Sum.inl ()) ?_ ?_
 ·refine yak ?_
  refine yay (Y:=Unit) (S:=Int) _ hq4 (fun _ v2=>[(0,pL eS p0),(8,pL eS p0),(9,pI (p0.length:Int)),(10,pI v2)]) (fun _ v2=>[]) () (zh4 rfl rfl rfl rfl) zsn ?_
  rintro _ v2 o τ hb3;(try dsimp only at hb3);dsimp only [pupds]
  refine yaa (yac [] [] [(11,pB (decide (v2<(p0.length:Int))))] fo0 (by kernel_rfl) (yab (yaa (zif rfl hb3 (fun hc5 hb3=>?_) fun hc5 hb3=>?_))))
  ·refine yag ?_
   refine yab (yaa (yak (yaa (yad hb3 fun m6 hm6 hb3=>yac [] [12,13,14] [(3,pI v2),(4,pS m6)] (ymr 1 eS hm6 fo0) (by kernel_rfl) (yab (yaa (yad hb3 fun x7 hx7 hb3=>yad hb3 fun m8 hm8 hb3=>yac [] (rg 15 15) [(30,pB ((!x7)||((decide (0<v2))&&(Op.bytesLess m6.toList m8.toList||decide (m6=m8)))))] (yfg 1 (yvp hx7) (yuy 11 eS (yoq hm8) fo0)) (by kernel_rfl) (yab (zif rfl hb3 (fun hc9 hb3=>?_) fun hc9 hb3=>?_)))))))))
   ·refine yaa ?_
    refine yac [] [] [(2,pB false)] fo0 (by kernel_rfl) (yab (yai (yaf (yah ?_))))
    refine yba hb3 (fun ht=>?_);subst ht
    refine yaf (ybb ?_)
    obtain rfl:=osi h
    exact zq rfl ⟨rfl,rfl⟩
   refine yag ?_
   refine yal (yab (yac [] [31] [(10,pI (IntKind.i64.wrap (v2+1)))] fo0 (by kernel_rfl) ?_))
   exact ybu hb3 () (zh4 rfl rfl rfl rfl) zsn
  refine ybd ?_
  refine yap (yam hb3 (fun ht=>yao rfl ?_))
  exact yaz ((),()) zhn zsn ht.symm
 rintro ⟨_,_⟩ τ hz;(try dsimp only at hz);subst q4;(try dsimp only at h);dsimp only [pupds]
 refine yaa (yac [] [] [(2,pB true)] fo0 (by kernel_rfl) (yab (yai ?_)))
 obtain rfl:=osi h
 exact zq rfl ⟨rfl,rfl⟩
def ycy (p0:Zd):Option Int:=Option.bind (ydn p0.Code) (fun x2=>Option.bind (gd (!((x2 != 6)&&(x2 != 8))) (ycd p0.Country)) (fun x3=>Option.bind (gd (!(((x2 != 6)&&(x2 != 8))||(!x3))) (ydo p0.Processes)) (fun x4=>cond ((((x2 != 6)&&(x2 != 8))||(!x3))||(!x4)) (some (1:Int)) (cond ((decide (p0.Price<1))||(decide (1000000000000<p0.Price))) (some (2:Int)) (cond (decide (8<(p0.Inputs.length:Int))) (some (8:Int)) (cond (p0.Obtained&&(decide (0<(p0.Inputs.length:Int)))) (some (1:Int)) (some (0:Int))))))))
theorem ykk {p0:Zd} {r:Int}  (h:ycy p0=some r):PF 99 [.agg [pI p0.ID,pS p0.Code,pS p0.Country,pI p0.Price,pB p0.Obtained,pL eS p0.Processes,pL Zf.enc p0.Inputs]] (pI r):=by
 unfold ycy at h
 refine ych ?_
 refine ybc Tryz.func99 fk99 rfl Tryz.ntmps99 Tryz.results99 rfl (yaa (yae (yat rfl rfl rfl (ycn (cs:=[pI p0.ID,pS p0.Code,pS p0.Country,pI p0.Price,pB p0.Obtained,pL eS p0.Processes,pL Zf.enc p0.Inputs]) rfl rfl (fun b1=>yan [] [2] [] fo0 (by kernel_rfl) (yab (yaa (yad h fun x2 hx2 h=>yac [0] [4,5,6] [(3,pI x2)] (yfg 2 (yfp hx2) fo0) (by kernel_rfl) (yab (yaa (yaa (yad h fun x3 hx3 h=>yad h fun x4 hx4 h=>yac [0,0] (rg 7 17) [(24,pB ((((x2 != 6)&&(x2 != 8))||(!x3))||(!x4)))] (ylk 9 (fun hc=>yfe (yoq hx3 hc)) (ylk 15 (fun hc=>yig (yoq hx4 hc)) fo0)) (by kernel_rfl) (yab (zif rfl h (fun hc5 h=>?_) fun hc5 h=>?_))))))))))))))
 ·refine yaa ?_
  refine yac [] [] [(2,pI 1)] fo0 (by kernel_rfl) (yab (yai (yah ?_)))
  obtain rfl:=osi h
  exact zq rfl ⟨rfl,rfl⟩
 refine yag ?_
 refine yab (yaa (yaa (yac [0,0] (rg 25 7) [(32,pB ((decide (p0.Price<1))||(decide (1000000000000<p0.Price))))] fo0 (by kernel_rfl) (yab (zif rfl h (fun hc6 h=>?_) fun hc6 h=>?_)))))
 ·refine yaa ?_
  refine yac [] [] [(2,pI 2)] fo0 (by kernel_rfl) (yab (yai (yah ?_)))
  obtain rfl:=osi h
  exact zq rfl ⟨rfl,rfl⟩
 refine yag ?_
 refine yab (yaa (yaa (yac [0] [33,34,35] [(36,pB (decide (8<(p0.Inputs.length:Int))))] fo0 (by kernel_rfl) (yab (zif rfl h (fun hc7 h=>?_) fun hc7 h=>?_)))))
 ·refine yaa ?_
  refine yac [] [] [(2,pI 8)] fo0 (by kernel_rfl) (yab (yai (yah ?_)))
  obtain rfl:=osi h
  exact zq rfl ⟨rfl,rfl⟩
 refine yag ?_
 refine yab (yaa (yaa (yac [0,0] (rg 37 7) [(44,pB (p0.Obtained&&(decide (0<(p0.Inputs.length:Int)))))] fo0 (by kernel_rfl) (yab (zif rfl h (fun hc8 h=>?_) fun hc8 h=>?_)))))
 ·refine yaa ?_
  refine yac [] [] [(2,pI 1)] fo0 (by kernel_rfl) (yab (yai (yah ?_)))
  obtain rfl:=osi h
  exact zq rfl ⟨rfl,rfl⟩
 refine yag ?_
 refine yab (yaa (yac [] [] [(2,pI 0)] fo0 (by kernel_rfl) (yab (yai ?_))))
 obtain rfl:=osi h
 exact zq rfl ⟨rfl,rfl⟩
def ydy (p0:(List Zd)):Option Int:=cond (decide (64<(p0.length:Int))) (some (8:Int)) (Option.bind (loopF (S:=Int) (T:=(Unit)⊕(_)) (fun v2=>cond (decide (v2<(p0.length:Int))) (Option.bind (idx p0 v2) (fun m6=>cond ((decide (m6.ID<1))||(decide (1000000<m6.ID))) (some (.inr (.inr (2:Int)))) (Option.bind (gd (decide (0<v2)) (idx p0 (IntKind.i64.wrap (v2 - 1)))) (fun m9=>cond ((decide (0<v2))&&(decide (m6.ID≤m9.ID))) (some (.inr (.inr (9:Int)))) (Option.bind (ycy m6) (fun x11=>cond (x11 != 0) (some (.inr (.inr x11))) (Option.bind (yda p0 m6.Inputs) (fun x13=>cond (x13 != 0) (some (.inr (.inr x13))) (some (.inl (IntKind.i64.wrap (v2+1)))))))))))) (some (.inr (.inl ())))) FUEL 0) (fun q=>match q with | .inl _=>some (0:Int) | .inr e=>some e))
theorem yov {p0:(List Zd)} {r:Int}  (h:ydy p0=some r):PF 56 [pL Zd.enc p0] (pI r):=by
 unfold ydy at h
 refine ych ?_
 refine ybc Tryz.func56 fk56 rfl Tryz.ntmps56 Tryz.results56 rfl (yaa (yac [] [2] [] fo0 (by kernel_rfl) (yab (yaa (yaa (yac [] [7,8] [(9,pB (decide (64<(p0.length:Int))))] fo0 (by kernel_rfl) (yab (zif rfl h (fun hc1 h=>?_) fun hc1 h=>?_))))))))
 ·refine yaa ?_
  refine yac [] [] [(2,pI 8)] fo0 (by kernel_rfl) (yab (yai (yah ?_)))
  obtain rfl:=osi h
  exact zq rfl ⟨rfl,rfl⟩
 refine yag ?_
 refine yab (yaa (yaa (yac [] [] [(10,pL Zd.enc p0),(11,pI (p0.length:Int)),(12,pI 0)] fo0 (by kernel_rfl) (yab (yad h fun q4 hq4 h=>?_)))))
 refine yav (Y:=(Unit)×(Unit)) (fun (_,_)=>[]) (fun (_,_)=>[]) (fun (_,_)=>q4=Sum.inl ()) ?_ ?_
 ·refine yak ?_
  refine yay (Y:=Unit) (S:=Int) _ hq4 (fun _ v2=>[(0,pL Zd.enc p0),(10,pL Zd.enc p0),(11,pI (p0.length:Int)),(12,pI v2)]) (fun _ v2=>[]) () (zh4 rfl rfl rfl rfl) zsn ?_
  rintro _ v2 o τ hb3;(try dsimp only at hb3);dsimp only [pupds]
  refine yaa (yac [] [] [(13,pB (decide (v2<(p0.length:Int))))] fo0 (by kernel_rfl) (yab (yaa (zif rfl hb3 (fun hc5 hb3=>?_) fun hc5 hb3=>?_))))
  ·refine yag ?_
   refine yab (yaa (yak (yaa (yad hb3 fun m6 hm6 hb3=>yae (yaj 3 [] [15] [(14,pI v2),(16,.agg [pI m6.ID,pS m6.Code,pS m6.Country,pI m6.Price,pB m6.Obtained,pL eS m6.Processes,pL Zf.enc m6.Inputs])] (ymr 1 Zd.enc hm6 fo0) (by kernel_rfl) (yat rfl rfl rfl (ybg (cs:=[pI 0,pS ByteArray.empty,pS ByteArray.empty,pI 0,pB false,pN,pN]) rfl rfl rfl rfl (fun b7=>yaj 1 [] [] [(3,pI v2)] fo0 (by kernel_rfl) (ybq rfl rfl (yaq (vs:=[pI m6.ID,pS m6.Code,pS m6.Country,pI m6.Price,pB m6.Obtained,pL eS m6.Processes,pL Zf.enc m6.Inputs]) rfl rfl rfl rfl rfl zuh (zl7) (yau (yab (yaa (yaa (yac [0,0] (rg 17 7) [(24,pB ((decide (m6.ID<1))||(decide (1000000<m6.ID))))] fo0 (by kernel_rfl) (yab (zif rfl hb3 (fun hc8 hb3=>?_) fun hc8 hb3=>?_)))))))))))))))))
   ·refine yaa ?_
    refine yac [] [] [(2,pI 2)] fo0 (by kernel_rfl) (yab (yai (yah (yaf (yah ?_)))))
    refine yba hb3 (fun ht=>?_);subst ht
    refine yaf (ybb ?_)
    obtain rfl:=osi h
    exact zq rfl ⟨rfl,rfl⟩
   refine yag ?_
   refine yab (yaa (yaa (yei (ρd:=[]) [(0,0),(1,0),(2,0),(3,0),(4,0),(5,0),(6,0),(7,0),(8,0),(9,0),(10,0),(11,0),(12,0)] _ (List.Perm.refl _) (by kernel_rfl) rfl (yad hb3 fun m9 hm9 hb3=>ycq 13 [0] (rg 25 12) [(37,pB ((decide (0<v2))&&(decide (m6.ID≤m9.ID))))] (yuy 8 Zd.enc (yoq hm9) fo0) (by kernel_rfl) (ygc (yab (zif rfl hb3 (fun hc10 hb3=>?_) fun hc10 hb3=>?_)))))))
   ·refine yaa ?_
    refine yac [] [] [(2,pI 9)] fo0 (by kernel_rfl) (yab (yai (yah (yaf (yah ?_)))))
    refine yba hb3 (fun ht=>?_);subst ht
    refine yaf (ybb ?_)
    obtain rfl:=osi h
    exact zq rfl ⟨rfl,rfl⟩
   refine yag ?_
   refine yab (yaa (yaa (yad hb3 fun x11 hx11 hb3=>yac [0] [38,39] [(5,pI x11)] (yfg 1 (ykk hx11) fo0) (by kernel_rfl) (yab (yaa (yac [] [40] [(41,pB (x11 != 0))] fo0 (by kernel_rfl) (yab (zif rfl hb3 (fun hc12 hb3=>?_) fun hc12 hb3=>?_))))))))
   ·refine yaa ?_
    refine yac [] [42] [(2,pI x11)] fo0 (by kernel_rfl) (yab (yai (yah (yaf (yah ?_)))))
    refine yba hb3 (fun ht=>?_);subst ht
    refine yaf (ybb ?_)
    obtain rfl:=osi h
    exact zq rfl ⟨rfl,rfl⟩
   refine yag ?_
   refine yab (yaa (yad hb3 fun x13 hx13 hb3=>yac [0] [43,44,45,46] [(6,pI x13)] (yfg 3 (ykv hx13) fo0) (by kernel_rfl) (yab (yaa (yac [] [47] [(48,pB (x13 != 0))] fo0 (by kernel_rfl) (yab (zif rfl hb3 (fun hc14 hb3=>?_) fun hc14 hb3=>?_)))))))
   ·refine yaa ?_
    refine yac [] [49] [(2,pI x13)] fo0 (by kernel_rfl) (yab (yai (yaf (yah ?_))))
    refine yba hb3 (fun ht=>?_);subst ht
    refine yaf (ybb ?_)
    obtain rfl:=osi h
    exact zq rfl ⟨rfl,rfl⟩
   refine yag ?_
   refine yal (yab (yac [] [50] [(12,pI (IntKind.i64.wrap (v2+1)))] fo0 (by kernel_rfl) ?_))
   exact ybu hb3 () (zh4 rfl rfl rfl rfl) zsn
  refine ybd ?_
  refine yap (yam hb3 (fun ht=>yao rfl ?_))
  exact yaz ((),()) zhn zsn ht.symm
 rintro ⟨_,_⟩ τ hz;(try dsimp only at hz);subst q4;(try dsimp only at h);dsimp only [pupds]
 refine yaa (yac [] [] [(2,pI 0)] fo0 (by kernel_rfl) (yab (yai ?_)))
 obtain rfl:=osi h
 exact zq rfl ⟨rfl,rfl⟩
def yhi (p0:(List ByteArray)):Option Bool:=cond (decide (6<(p0.length:Int))) (some false) (Option.bind (loopF (S:=Int) (T:=(Unit)⊕(_)) (fun v2=>cond (decide (v2<(p0.length:Int))) (Option.bind (idx p0 v2) (fun m6=>Option.bind (ydn m6) (fun x7=>Option.bind (gd ((!(x7 == 0))&&(decide (0<v2))) (idx p0 (IntKind.i64.wrap (v2 - 1)))) (fun m8=>cond ((x7 == 0)||((decide (0<v2))&&(Op.bytesLess m6.toList m8.toList||decide (m6=m8)))) (some (.inr (.inr false))) (some (.inl (IntKind.i64.wrap (v2+1)))))))) (some (.inr (.inl ())))) FUEL 0) (fun q=>match q with | .inl _=>some true | .inr e=>some e))
theorem ysc {p0:(List ByteArray)} {r:Bool}  (h:yhi p0=some r):PF 158 [pL eS p0] (pB r):=by
 unfold yhi at h
 refine ych ?_
 refine ybc Tryz.func158 fk158 rfl Tryz.ntmps158 Tryz.results158 rfl (yaa (yac [] [2] [] fo0 (by kernel_rfl) (yab (yaa (yaa (yac [] [5,6] [(7,pB (decide (6<(p0.length:Int))))] fo0 (by kernel_rfl) (yab (zif rfl h (fun hc1 h=>?_) fun hc1 h=>?_))))))))
 ·refine yaa ?_
  refine yac [] [] [(2,pB false)] fo0 (by kernel_rfl) (yab (yai (yah ?_)))
  obtain rfl:=osi h
  exact zq rfl ⟨rfl,rfl⟩
 refine yag ?_
 refine yab (yaa (yaa (yac [] [] [(8,pL eS p0),(9,pI (p0.length:Int)),(10,pI 0)] fo0 (by kernel_rfl) (yab (yad h fun q4 hq4 h=>?_)))))
 refine yav (Y:=(Unit)×(Unit)) (fun (_,_)=>[]) (fun (_,_)=>[]) (fun (_,_)=>q4=Sum.inl ()) ?_ ?_
 ·refine yak ?_
  refine yay (Y:=Unit) (S:=Int) _ hq4 (fun _ v2=>[(0,pL eS p0),(8,pL eS p0),(9,pI (p0.length:Int)),(10,pI v2)]) (fun _ v2=>[]) () (zh4 rfl rfl rfl rfl) zsn ?_
  rintro _ v2 o τ hb3;(try dsimp only at hb3);dsimp only [pupds]
  refine yaa (yac [] [] [(11,pB (decide (v2<(p0.length:Int))))] fo0 (by kernel_rfl) (yab (yaa (zif rfl hb3 (fun hc5 hb3=>?_) fun hc5 hb3=>?_))))
  ·refine yag ?_
   refine yab (yaa (yak (yaa (yad hb3 fun m6 hm6 hb3=>yac [] [12,13,14] [(3,pI v2),(4,pS m6)] (ymr 1 eS hm6 fo0) (by kernel_rfl) (yab (yaa (yad hb3 fun x7 hx7 hb3=>yad hb3 fun m8 hm8 hb3=>yac [] (rg 15 15) [(30,pB ((x7 == 0)||((decide (0<v2))&&(Op.bytesLess m6.toList m8.toList||decide (m6=m8)))))] (yfg 1 (yfp hx7) (yuy 11 eS (yoq hm8) fo0)) (by kernel_rfl) (yab (zif rfl hb3 (fun hc9 hb3=>?_) fun hc9 hb3=>?_)))))))))
   ·refine yaa ?_
    refine yac [] [] [(2,pB false)] fo0 (by kernel_rfl) (yab (yai (yaf (yah ?_))))
    refine yba hb3 (fun ht=>?_);subst ht
    refine yaf (ybb ?_)
    obtain rfl:=osi h
    exact zq rfl ⟨rfl,rfl⟩
   refine yag ?_
   refine yal (yab (yac [] [31] [(10,pI (IntKind.i64.wrap (v2+1)))] fo0 (by kernel_rfl) ?_))
   exact ybu hb3 () (zh4 rfl rfl rfl rfl) zsn
  refine ybd ?_
  refine yap (yam hb3 (fun ht=>yao rfl ?_))
  exact yaz ((),()) zhn zsn ht.symm
 rintro ⟨_,_⟩ τ hz;(try dsimp only at hz);subst q4;(try dsimp only at h);dsimp only [pupds]
 refine yaa (yac [] [] [(2,pB true)] fo0 (by kernel_rfl) (yab (yai ?_)))
 obtain rfl:=osi h
 exact zq rfl ⟨rfl,rfl⟩
def ykc (rec:Zc→Option Bool) (p0:Zc):Option Bool:=Option.bind (yna p0) (fun x2=>cond (!x2) (some false) (cond (p0.Kind == 1) (some true) (cond (p0.Kind == 2) (Option.bind (gd (((p0.Digits == 2)||(p0.Digits == 4))||(p0.Digits == 6)) (yhi p0.Except)) (fun x6=>Option.bind (gd ((((p0.Digits == 2)||(p0.Digits == 4))||(p0.Digits == 6))&&x6) (yit p0.Tolerance)) (fun x7=>some (((((p0.Digits == 2)||(p0.Digits == 4))||(p0.Digits == 6))&&x6)&&x7)))) (cond (p0.Kind == 3) (Option.bind (yit p0.Limit) (fun x9=>some x9)) (cond (p0.Kind == 4) (Option.bind (ydo [p0.Name]) (fun x13=>some x13)) (Option.bind (cond (p0.Kind == 5) (some (p0.Kind == 5)) (some (p0.Kind == 6))) (fun v14=>cond v14 (cond ((decide ((p0.Args.length:Int)<2))||(decide (6<(p0.Args.length:Int)))) (some false) (Option.bind (loopF (S:=Int) (T:=(Unit)⊕(_)) (fun v19=>cond (decide (v19<(p0.Args.length:Int))) (Option.bind (idx p0.Args v19) (fun m23=>Option.bind (gd (!(m23.Kind == p0.Kind)) (rec m23)) (fun x25=>cond ((m23.Kind == p0.Kind)||(!x25)) (some (.inr (.inr false))) (some (.inl (IntKind.i64.wrap (v19+1))))))) (some (.inr (.inl ())))) FUEL 0) (fun q=>match q with | .inl _=>some true | .inr e=>some e))) (some false))))))))
theorem yvv {rec:Zc→Option Bool} (hrec:∀ {p0:Zc} {r:Bool},rec p0=some r→PF 124 [.agg [pI p0.Kind,pI p0.Digits,pL eS p0.Except,pI p0.Tolerance,pI p0.Limit,pS p0.Name,pL Zc.enc p0.Args]] (pB r)) {p0:Zc} {r:Bool} (h:ykc rec p0=some r):PF 124 [.agg [pI p0.Kind,pI p0.Digits,pL eS p0.Except,pI p0.Tolerance,pI p0.Limit,pS p0.Name,pL Zc.enc p0.Args]] (pB r):=by
 unfold ykc at h
 refine ych ?_
 refine ybc Tryz.func124 fk124 rfl Tryz.ntmps124 Tryz.results124 rfl (yaa (yae (yat rfl rfl rfl (ycn (cs:=[pI p0.Kind,pI p0.Digits,pL eS p0.Except,pI p0.Tolerance,pI p0.Limit,pS p0.Name,pL Zc.enc p0.Args]) rfl rfl (fun b1=>yan [] [2] [] fo0 (by kernel_rfl) (yab (yaa (yaa (yad h fun x2 hx2 h=>yac [0] [6,7] [(8,pB (!x2))] (yfg 1 (yzq hx2) fo0) (by kernel_rfl) (yab (zif rfl h (fun hc3 h=>?_) fun hc3 h=>?_)))))))))))
 ·refine yaa ?_
  refine yac [] [] [(2,pB false)] fo0 (by kernel_rfl) (yab (yai (yah ?_)))
  obtain rfl:=osi h
  exact zq rfl ⟨rfl,rfl⟩
 refine yag ?_
 refine yab (yaa (yaa (yac [0] [9] [(10,pI p0.Kind)] fo0 (by kernel_rfl) (yab (yak (yaa (yac [] [12] [(11,pB (p0.Kind == 1))] fo0 (by kernel_rfl) (yab (zif rfl h (fun hc4 h=>?_) fun hc4 h=>?_)))))))))
 ·refine yaa ?_
  refine yac [] [] [(2,pB true)] fo0 (by kernel_rfl) (yab (yai (yaf (yah ?_))))
  obtain rfl:=osi h
  exact zq rfl ⟨rfl,rfl⟩
 refine yaa ?_
 refine yac [] [14] [(13,pB (p0.Kind == 2))] fo0 (by kernel_rfl) (yab (zif rfl h (fun hc5 h=>?_) fun hc5 h=>?_))
 ·refine yaa ?_
  refine yac [0,0,0] (rg 15 13) [(3,pB (((p0.Digits == 2)||(p0.Digits == 4))||(p0.Digits == 6)))] fo0 (by kernel_rfl) (yab (yaa (yad h fun x6 hx6 h=>yad h fun x7 hx7 h=>yac [0,0] (rg 28 11) [(2,pB (((((p0.Digits == 2)||(p0.Digits == 4))||(p0.Digits == 6))&&x6)&&x7))] (ylk 4 (fun hc=>ysc (yoq hx6 hc)) (ylk 9 (fun hc=>ymf (yoq hx7 hc)) fo0)) (by kernel_rfl) (yab (yai (yaf (yah ?_)))))))
  obtain rfl:=osi h
  exact zq rfl ⟨rfl,rfl⟩
 refine yaa ?_
 refine yac [] [40] [(39,pB (p0.Kind == 3))] fo0 (by kernel_rfl) (yab (zif rfl h (fun hc8 h=>?_) fun hc8 h=>?_))
 ·refine yaa ?_
  refine yad h fun x9 hx9 h=>yac [0] [41,42,43] [(2,pB x9)] (yfg 2 (ymf hx9) fo0) (by kernel_rfl) (yab (yai (yaf (yah ?_))))
  obtain rfl:=osi h
  exact zq rfl ⟨rfl,rfl⟩
 refine yaa ?_
 refine yac [] [45] [(44,pB (p0.Kind == 4))] fo0 (by kernel_rfl) (yab (zif rfl h (fun hc10 h=>?_) fun hc10 h=>?_))
 ·refine yaa ?_
  refine yae (yaj 2 [0] [46] [(47,pS p0.Name)] fo0 (by kernel_rfl) (yat rfl rfl rfl (ycg rfl rfl rfl rfl rfl (zic rfl zin) rfl rfl rfl rfl (fun b11=>?_))))
  refine ygq (enc:=eS) (xs:=[p0.Name]) 48 rfl (by exact zph) ?_
  refine yad h fun x13 hx13 h=>yan [] [49] [(2,pB x13)] (yfg 0 (yig hx13) fo0) (by kernel_rfl) (yab (yai (yaf (yah ?_))))
  obtain rfl:=osi h
  exact zq rfl ⟨rfl,rfl⟩
 refine yaa ?_
 refine yaa (yac [] [51] [(50,pB (p0.Kind == 5))] fo0 (by kernel_rfl) (yab (yad h fun q15 hq15 h=>?_)))
 refine yav (Y:=(Unit)×(Bool)) (fun (_,v14)=>[(1,pP b1 0),(50,pB v14)]) (fun (_,v14)=>[PRes.b b1 68 [pI p0.Kind,pI p0.Digits,pL eS p0.Except,pI p0.Tolerance,pI p0.Limit,pS p0.Name,pL Zc.enc p0.Args]]) (fun (_,v14)=>q15=v14) ?_ ?_
 ·skip
  refine zif rfl hq15 (fun hc16 hq15=>?_) fun hc16 hq15=>?_
  ·refine yag ?_
   obtain rfl:=osi hq15
   exact yaz ((),(p0.Kind == 5)) (zh2 rfl rfl) (zs1) rfl
  refine yac [] [52] [(50,pB (p0.Kind == 6))] fo0 (by kernel_rfl) ?_
  obtain rfl:=osi hq15
  exact yaz ((),(p0.Kind == 6)) (zh2 rfl rfl) (zs1) rfl
 rintro ⟨_,v14⟩ τ hz;(try dsimp only at hz);subst q15;(try dsimp only at h);dsimp only [pupds]
 refine zif rfl h (fun hc17 h=>?_) fun hc17 h=>?_
 ·refine yaa ?_
  refine yaa (yac [0,0] (rg 53 9) [(62,pB ((decide ((p0.Args.length:Int)<2))||(decide (6<(p0.Args.length:Int)))))] fo0 (by kernel_rfl) (yab (zif rfl h (fun hc18 h=>?_) fun hc18 h=>?_)))
  ·refine yaa ?_
   refine yac [] [] [(2,pB false)] fo0 (by kernel_rfl) (yab (yai (yah (yaf (yah ?_)))))
   obtain rfl:=osi h
   exact zq rfl ⟨rfl,rfl⟩
  refine yag ?_
  refine yab (yaa (yaa (yac [0] [63] [(64,pL Zc.enc p0.Args),(65,pI (p0.Args.length:Int)),(66,pI 0)] fo0 (by kernel_rfl) (yab (yad h fun q21 hq21 h=>?_)))))
  refine yav (Y:=(Unit)×(Unit)) (fun (_,_)=>[]) (fun (_,_)=>[]) (fun (_,_)=>q21=Sum.inl ()) ?_ ?_
  ·refine yak ?_
   refine yay (Y:=Unit) (S:=Int) _ hq21 (fun _ v19=>[(1,pP b1 0),(64,pL Zc.enc p0.Args),(65,pI (p0.Args.length:Int)),(66,pI v19)]) (fun _ v19=>[PRes.b b1 68 [pI p0.Kind,pI p0.Digits,pL eS p0.Except,pI p0.Tolerance,pI p0.Limit,pS p0.Name,pL Zc.enc p0.Args]]) () (zh4 rfl rfl rfl rfl) (zs1) ?_
   rintro _ v19 o τ hb20;(try dsimp only at hb20);dsimp only [pupds]
   refine yaa (yac [] [] [(67,pB (decide (v19<(p0.Args.length:Int))))] fo0 (by kernel_rfl) (yab (yaa (zif rfl hb20 (fun hc22 hb20=>?_) fun hc22 hb20=>?_))))
   ·refine yag ?_
    refine yab (yaa (yak (yaa (yad hb20 fun m23 hm23 hb20=>yae (yaj 2 [] [68] [(69,.agg [pI m23.Kind,pI m23.Digits,pL eS m23.Except,pI m23.Tolerance,pI m23.Limit,pS m23.Name,pL Zc.enc m23.Args])] (xhp 0 Zc.enc (Zc.enc_eq _) hm23 fo0) (by kernel_rfl) (yat rfl rfl rfl (ybg (cs:=[pI 0,pI 0,pN,pI 0,pI 0,pS ByteArray.empty,pN]) rfl rfl rfl rfl (fun b24=>ybq rfl rfl (yaq (vs:=[pI m23.Kind,pI m23.Digits,pL eS m23.Except,pI m23.Tolerance,pI m23.Limit,pS m23.Name,pL Zc.enc m23.Args]) rfl rfl rfl rfl rfl zuh (zl7) (yau (yab (yaa (yad hb20 fun x25 hx25 hb20=>yac [0,1,0] (rg 70 9) [(79,pB ((m23.Kind == p0.Kind)||(!x25)))] (ylk 7 (fun hc=>hrec (yoq hx25 hc)) fo0) (by kernel_rfl) (yab (zif rfl hb20 (fun hc26 hb20=>?_) fun hc26 hb20=>?_)))))))))))))))
    ·refine yaa ?_
     refine yac [] [] [(2,pB false)] fo0 (by kernel_rfl) (yab (yai (yaf (yah ?_))))
     refine yba hb20 (fun ht=>?_);subst ht
     refine yaf (ybb (yaf (yah ?_)))
     obtain rfl:=osi h
     exact zq rfl ⟨rfl,rfl⟩
    refine yag ?_
    refine yal (yab (yac [] [80] [(66,pI (IntKind.i64.wrap (v19+1)))] fo0 (by kernel_rfl) ?_))
    exact ybu hb20 () (zh4 rfl rfl rfl rfl) (zsc (zpt zph) zsn)
   refine ybd ?_
   refine yap (yam hb20 (fun ht=>yao rfl ?_))
   exact yaz ((),()) zhn zsn ht.symm
  rintro ⟨_,_⟩ τ hz;(try dsimp only at hz);subst q21;(try dsimp only at h);dsimp only [pupds]
  refine yaa (yac [] [] [(2,pB true)] fo0 (by kernel_rfl) (yab (yai (yaf (yah ?_)))))
  obtain rfl:=osi h
  exact zq rfl ⟨rfl,rfl⟩
 refine yag ?_
 refine yal (yab (yaa (yac [] [] [(2,pB false)] fo0 (by kernel_rfl) (yab (yai ?_)))))
 obtain rfl:=osi h
 exact zq rfl ⟨rfl,rfl⟩
def ymi (n:Nat):Zc→Option Bool:=Nat.rec (motive:=fun _=>Zc→Option Bool) (fun _=>none) (fun _ ih=>ykc ih) n
def ysu (p0:Zc):Option Bool:=ymi FUEL p0
theorem yxd (n:Nat):∀ {p0:Zc} {r:Bool},ymi n p0=some r→PF 124 [.agg [pI p0.Kind,pI p0.Digits,pL eS p0.Except,pI p0.Tolerance,pI p0.Limit,pS p0.Name,pL Zc.enc p0.Args]] (pB r):=by
 induction n with
 | zero=>intros;rename_i h;exact nomatch h
 | succ n ih=>intros;rename_i h;exact yvv (fun hr=>ih hr) h
theorem yzw {p0:Zc} {r:Bool} (h:ysu p0=some r):PF 124 [.agg [pI p0.Kind,pI p0.Digits,pL eS p0.Except,pI p0.Tolerance,pI p0.Limit,pS p0.Name,pL Zc.enc p0.Args]] (pB r):=yxd FUEL h
def yfq (p0:Zc):Option Int:=Option.bind (ysr p0 33) (fun x2=>cond (decide (32<x2)) (some (8:Int)) (Option.bind (ysu p0) (fun x4=>cond (!x4) (some (1:Int)) (some (0:Int)))))
theorem yic {p0:Zc} {r:Int}  (h:yfq p0=some r):PF 79 [.agg [pI p0.Kind,pI p0.Digits,pL eS p0.Except,pI p0.Tolerance,pI p0.Limit,pS p0.Name,pL Zc.enc p0.Args]] (pI r):=by
 unfold yfq at h
 refine ych ?_
 refine ybc Tryz.func79 fk79 rfl Tryz.ntmps79 Tryz.results79 rfl (yaa (yae (yat rfl rfl rfl (ycn (cs:=[pI p0.Kind,pI p0.Digits,pL eS p0.Except,pI p0.Tolerance,pI p0.Limit,pS p0.Name,pL Zc.enc p0.Args]) rfl rfl (fun b1=>yan [] [2] [] fo0 (by kernel_rfl) (yab (yaa (yaa (yad h fun x2 hx2 h=>yac [0] [3,4] [(5,pB (decide (32<x2)))] (yfg 1 (yzp hx2) fo0) (by kernel_rfl) (yab (zif rfl h (fun hc3 h=>?_) fun hc3 h=>?_)))))))))))
 ·refine yaa ?_
  refine yac [] [] [(2,pI 8)] fo0 (by kernel_rfl) (yab (yai (yah ?_)))
  obtain rfl:=osi h
  exact zq rfl ⟨rfl,rfl⟩
 refine yag ?_
 refine yab (yaa (yaa (yad h fun x4 hx4 h=>yac [0] [6,7] [(8,pB (!x4))] (yfg 1 (yzw hx4) fo0) (by kernel_rfl) (yab (zif rfl h (fun hc5 h=>?_) fun hc5 h=>?_)))))
 ·refine yaa ?_
  refine yac [] [] [(2,pI 1)] fo0 (by kernel_rfl) (yab (yai (yah ?_)))
  obtain rfl:=osi h
  exact zq rfl ⟨rfl,rfl⟩
 refine yag ?_
 refine yab (yaa (yac [] [] [(2,pI 0)] fo0 (by kernel_rfl) (yab (yai ?_))))
 obtain rfl:=osi h
 exact zq rfl ⟨rfl,rfl⟩
def ydj (p0:(List Zi)):Option Int:=Option.bind (loopF (S:=Int) (T:=(Unit)⊕(_)) (fun v1=>cond (decide (v1<(p0.length:Int))) (Option.bind (idx p0 v1) (fun m5=>Option.bind (ydn m5.Prefix) (fun x7=>cond (x7 == 0) (some (.inr (.inr (1:Int)))) (Option.bind (gd (decide (0<v1)) (idx p0 (IntKind.i64.wrap (v1 - 1)))) (fun m9=>cond ((decide (0<v1))&&(Op.bytesLess m5.Prefix.toList m9.Prefix.toList||decide (m5.Prefix=m9.Prefix))) (some (.inr (.inr (9:Int)))) (Option.bind (yfq m5.Rule) (fun x11=>cond (x11 != 0) (some (.inr (.inr x11))) (some (.inl (IntKind.i64.wrap (v1+1))))))))))) (some (.inr (.inl ())))) FUEL 0) (fun q=>match q with | .inl _=>some (0:Int) | .inr e=>some e)
theorem ylr {p0:(List Zi)} {r:Int}  (h:ydj p0=some r):PF 102 [pL Zi.enc p0] (pI r):=by
 unfold ydj at h
 refine ych ?_
 refine ybc Tryz.func102 fk102 rfl Tryz.ntmps102 Tryz.results102 rfl (yaa (yac [] [2] [] fo0 (by kernel_rfl) (yab (yaa (yaa (yac [] [] [(6,pL Zi.enc p0),(7,pI (p0.length:Int)),(8,pI 0)] fo0 (by kernel_rfl) (yab (yad h fun q3 hq3 h=>?_))))))))
 refine yav (Y:=(Unit)×(Unit)) (fun (_,_)=>[]) (fun (_,_)=>[]) (fun (_,_)=>q3=Sum.inl ()) ?_ ?_
 ·refine yak ?_
  refine yay (Y:=Unit) (S:=Int) _ hq3 (fun _ v1=>[(0,pL Zi.enc p0),(6,pL Zi.enc p0),(7,pI (p0.length:Int)),(8,pI v1)]) (fun _ v1=>[]) () (zh4 rfl rfl rfl rfl) zsn ?_
  rintro _ v1 o τ hb2;(try dsimp only at hb2);dsimp only [pupds]
  refine yaa (yac [] [] [(9,pB (decide (v1<(p0.length:Int))))] fo0 (by kernel_rfl) (yab (yaa (zif rfl hb2 (fun hc4 hb2=>?_) fun hc4 hb2=>?_))))
  ·refine yag ?_
   refine yab (yaa (yak (yaa (yad hb2 fun m5 hm5 hb2=>yae (yaj 3 [] [11] [(10,pI v1),(12,.agg [pS m5.Prefix,pI m5.Rule.Kind,pI m5.Rule.Digits,pL eS m5.Rule.Except,pI m5.Rule.Tolerance,pI m5.Rule.Limit,pS m5.Rule.Name,pL Zc.enc m5.Rule.Args])] (ymr 1 Zi.enc hm5 fo0) (by kernel_rfl) (yat rfl rfl rfl (ybg (cs:=[pS ByteArray.empty,pI 0,pI 0,pN,pI 0,pI 0,pS ByteArray.empty,pN]) rfl rfl rfl rfl (fun b6=>yaj 1 [] [] [(3,pI v1)] fo0 (by kernel_rfl) (ybq rfl rfl (yaq (vs:=[pS m5.Prefix,pI m5.Rule.Kind,pI m5.Rule.Digits,pL eS m5.Rule.Except,pI m5.Rule.Tolerance,pI m5.Rule.Limit,pS m5.Rule.Name,pL Zc.enc m5.Rule.Args]) rfl rfl rfl rfl rfl zuh (zl8) (yau (yab (yaa (yaa (yad hb2 fun x7 hx7 hb2=>yac [0] [13,14,15] [(16,pB (x7 == 0))] (yfg 2 (yfp hx7) fo0) (by kernel_rfl) (yab (zif rfl hb2 (fun hc8 hb2=>?_) fun hc8 hb2=>?_)))))))))))))))))
   ·refine yaa ?_
    refine yac [] [] [(2,pI 1)] fo0 (by kernel_rfl) (yab (yai (yah (yaf (yah ?_)))))
    refine yba hb2 (fun ht=>?_);subst ht
    refine yaf (ybb ?_)
    obtain rfl:=osi h
    exact zq rfl ⟨rfl,rfl⟩
   refine yag ?_
   refine yab (yaa (yaa (yei (ρd:=[]) [(0,0),(1,0),(2,0),(3,0),(4,0),(5,0),(6,0),(7,0),(8,0),(9,0),(10,0),(11,0),(12,0)] _ (List.Perm.refl _) (by kernel_rfl) rfl (yad hb2 fun m9 hm9 hb2=>ycq 13 [0] (rg 17 12) [(29,pB ((decide (0<v1))&&(Op.bytesLess m5.Prefix.toList m9.Prefix.toList||decide (m5.Prefix=m9.Prefix))))] (yuy 8 Zi.enc (yoq hm9) fo0) (by kernel_rfl) (ygc (yab (zif rfl hb2 (fun hc10 hb2=>?_) fun hc10 hb2=>?_)))))))
   ·refine yaa ?_
    refine yac [] [] [(2,pI 9)] fo0 (by kernel_rfl) (yab (yai (yah (yaf (yah ?_)))))
    refine yba hb2 (fun ht=>?_);subst ht
    refine yaf (ybb ?_)
    obtain rfl:=osi h
    exact zq rfl ⟨rfl,rfl⟩
   refine yag ?_
   refine yab (yaa (yad hb2 fun x11 hx11 hb2=>yac [0] [30,31,32] [(5,pI x11)] (yfg 2 (yic hx11) fo0) (by kernel_rfl) (yab (yaa (yac [] [33] [(34,pB (x11 != 0))] fo0 (by kernel_rfl) (yab (zif rfl hb2 (fun hc12 hb2=>?_) fun hc12 hb2=>?_)))))))
   ·refine yaa ?_
    refine yac [] [35] [(2,pI x11)] fo0 (by kernel_rfl) (yab (yai (yaf (yah ?_))))
    refine yba hb2 (fun ht=>?_);subst ht
    refine yaf (ybb ?_)
    obtain rfl:=osi h
    exact zq rfl ⟨rfl,rfl⟩
   refine yag ?_
   refine yal (yab (yac [] [36] [(8,pI (IntKind.i64.wrap (v1+1)))] fo0 (by kernel_rfl) ?_))
   exact ybu hb2 () (zh4 rfl rfl rfl rfl) zsn
  refine ybd ?_
  refine yap (yam hb2 (fun ht=>yao rfl ?_))
  exact yaz ((),()) zhn zsn ht.symm
 rintro ⟨_,_⟩ τ hz;(try dsimp only at hz);subst q3;(try dsimp only at h);dsimp only [pupds]
 refine yaa (yac [] [] [(2,pI 0)] fo0 (by kernel_rfl) (yab (yai ?_)))
 obtain rfl:=osi h
 exact zq rfl ⟨rfl,rfl⟩
def ydz (p0:(List Zb)):Option Int:=cond (decide (8<(p0.length:Int))) (some (8:Int)) (Option.bind (loopF (S:=Int) (T:=(Unit)⊕(_)) (fun v2=>cond (decide (v2<(p0.length:Int))) (Option.bind (idx p0 v2) (fun m6=>cond ((((decide (m6.ID<1))||(decide (1000<m6.ID)))||(decide (m6.Kind<1)))||(decide (3<m6.Kind))) (some (.inr (.inr (2:Int)))) (Option.bind (gd (decide (0<v2)) (idx p0 (IntKind.i64.wrap (v2 - 1)))) (fun m9=>cond ((decide (0<v2))&&(decide (m6.ID≤m9.ID))) (some (.inr (.inr (9:Int)))) (cond ((decide (12<(m6.Parties.length:Int)))||(decide (12<(m6.Rules.length:Int)))) (some (.inr (.inr (8:Int)))) (Option.bind (ydm m6.Parties) (fun x12=>cond (!x12) (some (.inr (.inr (1:Int)))) (Option.bind (ydj m6.Rules) (fun x14=>cond (x14 != 0) (some (.inr (.inr x14))) (some (.inl (IntKind.i64.wrap (v2+1))))))))))))) (some (.inr (.inl ())))) FUEL 0) (fun q=>match q with | .inl _=>some (0:Int) | .inr e=>some e))
theorem yow {p0:(List Zb)} {r:Int}  (h:ydz p0=some r):PF 57 [pL Zb.enc p0] (pI r):=by
 unfold ydz at h
 refine ych ?_
 refine ybc Tryz.func57 fk57 rfl Tryz.ntmps57 Tryz.results57 rfl (yaa (yac [] [2] [] fo0 (by kernel_rfl) (yab (yaa (yaa (yac [] [6,7] [(8,pB (decide (8<(p0.length:Int))))] fo0 (by kernel_rfl) (yab (zif rfl h (fun hc1 h=>?_) fun hc1 h=>?_))))))))
 ·refine yaa ?_
  refine yac [] [] [(2,pI 8)] fo0 (by kernel_rfl) (yab (yai (yah ?_)))
  obtain rfl:=osi h
  exact zq rfl ⟨rfl,rfl⟩
 refine yag ?_
 refine yab (yaa (yaa (yac [] [] [(9,pL Zb.enc p0),(10,pI (p0.length:Int)),(11,pI 0)] fo0 (by kernel_rfl) (yab (yad h fun q4 hq4 h=>?_)))))
 refine yav (Y:=(Unit)×(Unit)) (fun (_,_)=>[]) (fun (_,_)=>[]) (fun (_,_)=>q4=Sum.inl ()) ?_ ?_
 ·refine yak ?_
  refine yay (Y:=Unit) (S:=Int) _ hq4 (fun _ v2=>[(0,pL Zb.enc p0),(9,pL Zb.enc p0),(10,pI (p0.length:Int)),(11,pI v2)]) (fun _ v2=>[]) () (zh4 rfl rfl rfl rfl) zsn ?_
  rintro _ v2 o τ hb3;(try dsimp only at hb3);dsimp only [pupds]
  refine yaa (yac [] [] [(12,pB (decide (v2<(p0.length:Int))))] fo0 (by kernel_rfl) (yab (yaa (zif rfl hb3 (fun hc5 hb3=>?_) fun hc5 hb3=>?_))))
  ·refine yag ?_
   refine yab (yaa (yak (yaa (yad hb3 fun m6 hm6 hb3=>yae (yaj 3 [] [14] [(13,pI v2),(15,.agg [pI m6.ID,pI m6.Kind,pL eS m6.Parties,pL Zi.enc m6.Rules])] (ymr 1 Zb.enc hm6 fo0) (by kernel_rfl) (yat rfl rfl rfl (ybg (cs:=[pI 0,pI 0,pN,pN]) rfl rfl rfl rfl (fun b7=>yaj 1 [] [] [(3,pI v2)] fo0 (by kernel_rfl) (ybq rfl rfl (yaq (vs:=[pI m6.ID,pI m6.Kind,pL eS m6.Parties,pL Zi.enc m6.Rules]) rfl rfl rfl rfl rfl zuh (zl4) (yau (yab (yaa (yaa (yac [0,0,0,0] (rg 16 17) [(33,pB ((((decide (m6.ID<1))||(decide (1000<m6.ID)))||(decide (m6.Kind<1)))||(decide (3<m6.Kind))))] fo0 (by kernel_rfl) (yab (zif rfl hb3 (fun hc8 hb3=>?_) fun hc8 hb3=>?_)))))))))))))))))
   ·refine yaa ?_
    refine yac [] [] [(2,pI 2)] fo0 (by kernel_rfl) (yab (yai (yah (yaf (yah ?_)))))
    refine yba hb3 (fun ht=>?_);subst ht
    refine yaf (ybb ?_)
    obtain rfl:=osi h
    exact zq rfl ⟨rfl,rfl⟩
   refine yag ?_
   refine yab (yaa (yaa (yei (ρd:=[]) [(0,0),(1,0),(2,0),(3,0),(4,0),(5,0),(6,0),(7,0),(8,0),(9,0),(10,0),(11,0),(12,0)] _ (List.Perm.refl _) (by kernel_rfl) rfl (yad hb3 fun m9 hm9 hb3=>ycq 13 [0] (rg 34 12) [(46,pB ((decide (0<v2))&&(decide (m6.ID≤m9.ID))))] (yuy 8 Zb.enc (yoq hm9) fo0) (by kernel_rfl) (ygc (yab (zif rfl hb3 (fun hc10 hb3=>?_) fun hc10 hb3=>?_)))))))
   ·refine yaa ?_
    refine yac [] [] [(2,pI 9)] fo0 (by kernel_rfl) (yab (yai (yah (yaf (yah ?_)))))
    refine yba hb3 (fun ht=>?_);subst ht
    refine yaf (ybb ?_)
    obtain rfl:=osi h
    exact zq rfl ⟨rfl,rfl⟩
   refine yag ?_
   refine yab (yaa (yaa (yac [0,0] (rg 47 9) [(56,pB ((decide (12<(m6.Parties.length:Int)))||(decide (12<(m6.Rules.length:Int)))))] fo0 (by kernel_rfl) (yab (zif rfl hb3 (fun hc11 hb3=>?_) fun hc11 hb3=>?_)))))
   ·refine yaa ?_
    refine yac [] [] [(2,pI 8)] fo0 (by kernel_rfl) (yab (yai (yah (yaf (yah ?_)))))
    refine yba hb3 (fun ht=>?_);subst ht
    refine yaf (ybb ?_)
    obtain rfl:=osi h
    exact zq rfl ⟨rfl,rfl⟩
   refine yag ?_
   refine yab (yaa (yaa (yad hb3 fun x12 hx12 hb3=>yac [0] [57,58,59] [(60,pB (!x12))] (yfg 2 (ylu hx12) fo0) (by kernel_rfl) (yab (zif rfl hb3 (fun hc13 hb3=>?_) fun hc13 hb3=>?_)))))
   ·refine yaa ?_
    refine yac [] [] [(2,pI 1)] fo0 (by kernel_rfl) (yab (yai (yah (yaf (yah ?_)))))
    refine yba hb3 (fun ht=>?_);subst ht
    refine yaf (ybb ?_)
    obtain rfl:=osi h
    exact zq rfl ⟨rfl,rfl⟩
   refine yag ?_
   refine yab (yaa (yad hb3 fun x14 hx14 hb3=>yac [0] [61,62,63] [(5,pI x14)] (yfg 2 (ylr hx14) fo0) (by kernel_rfl) (yab (yaa (yac [] [64] [(65,pB (x14 != 0))] fo0 (by kernel_rfl) (yab (zif rfl hb3 (fun hc15 hb3=>?_) fun hc15 hb3=>?_)))))))
   ·refine yaa ?_
    refine yac [] [66] [(2,pI x14)] fo0 (by kernel_rfl) (yab (yai (yaf (yah ?_))))
    refine yba hb3 (fun ht=>?_);subst ht
    refine yaf (ybb ?_)
    obtain rfl:=osi h
    exact zq rfl ⟨rfl,rfl⟩
   refine yag ?_
   refine yal (yab (yac [] [67] [(11,pI (IntKind.i64.wrap (v2+1)))] fo0 (by kernel_rfl) ?_))
   exact ybu hb3 () (zh4 rfl rfl rfl rfl) zsn
  refine ybd ?_
  refine yap (yam hb3 (fun ht=>yao rfl ?_))
  exact yaz ((),()) zhn zsn ht.symm
 rintro ⟨_,_⟩ τ hz;(try dsimp only at hz);subst q4;(try dsimp only at h);dsimp only [pupds]
 refine yaa (yac [] [] [(2,pI 0)] fo0 (by kernel_rfl) (yab (yai ?_)))
 obtain rfl:=osi h
 exact zq rfl ⟨rfl,rfl⟩
def yea (p0:Zb) (p1:ByteArray):Option (Zc×Bool):=Option.bind (loopF (S:=Int×Int) (T:=(Int)) (fun (v3,v4)=>cond (decide (v4<(p0.Rules.length:Int))) (Option.bind (Option.bind (idx p0.Rules v4) (fun m11=>Option.bind (ydf p1 m11.Prefix) (fun x13=>Option.bind (gd (x13&&(!(decide (v3<0)))) (idx p0.Rules v3)) (fun m14=>cond (x13&&((decide (v3<0))||(decide ((m14.Prefix.size:Int)<(m11.Prefix.size:Int))))) (some v4) (some v3))))) (fun v9=>some (.inl (v9,(IntKind.i64.wrap (v4+1)))))) (some (.inr v3))) FUEL ((-1),0)) (fun v5=>Option.bind (gd (!(decide (v5<0))) (idx p0.Rules v5)) (fun m16=>Option.bind (gd (!(decide (v5<0))) (yfq m16.Rule)) (fun x17=>cond ((decide (v5<0))||(x17 != 0)) (some ((⟨0,0,[],0,0,ByteArray.empty,[]⟩:Zc),false)) (Option.bind (idx p0.Rules v5) (fun m19=>Option.bind (yhs m19.Rule) (fun x20=>some (x20,true)))))))
theorem yko {p0:Zb} {p1:ByteArray} {r:(Zc×Bool)}  (h:yea p0 p1=some r):PF 36 [.agg [pI p0.ID,pI p0.Kind,pL eS p0.Parties,pL Zi.enc p0.Rules],pS p1] (.tup [.agg [pI r.1.Kind,pI r.1.Digits,pL eS r.1.Except,pI r.1.Tolerance,pI r.1.Limit,pS r.1.Name,pL Zc.enc r.1.Args],pB r.2]):=by
 unfold yea at h
 refine ych ?_
 refine ybc Tryz.func36 fk36 rfl Tryz.ntmps36 Tryz.results36 rfl (yaa (yae (yat rfl rfl rfl (ycn (cs:=[pI p0.ID,pI p0.Kind,pL eS p0.Parties,pL Zi.enc p0.Rules]) rfl rfl (fun b1=>yat rfl rfl rfl (ybg (cs:=[pI 0,pI 0,pN,pI 0,pI 0,pS ByteArray.empty,pN]) rfl rfl rfl rfl (fun b2=>yan [] [5] [] fo0 (by kernel_rfl) (yab (yaa (yac [] [] [(6,pI (-1))] fo0 (by kernel_rfl) (yab (yaa (yaa (yac [1] [9] [(10,pL Zi.enc p0.Rules),(11,pI (p0.Rules.length:Int)),(12,pI 0)] fo0 (by kernel_rfl) (yab (yad h fun q7 hq7 h=>?_))))))))))))))))
 refine yav (Y:=(Unit)×(Int)) (fun (_,v5)=>[(2,pP b1 0),(4,pP b2 0),(6,pI v5)]) (fun (_,v5)=>[PRes.b b1 52 [pI p0.ID,pI p0.Kind,pL eS p0.Parties,pL Zi.enc p0.Rules],PRes.b b2 68 [pI 0,pI 0,pN,pI 0,pI 0,pS ByteArray.empty,pN]]) (fun (_,v5)=>q7=v5) ?_ ?_
 ·refine yak ?_
  refine yay (Y:=Unit) (S:=Int×Int) _ hq7 (fun _ (v3,v4)=>[(1,pS p1),(2,pP b1 0),(4,pP b2 0),(6,pI v3),(10,pL Zi.enc p0.Rules),(11,pI (p0.Rules.length:Int)),(12,pI v4)]) (fun _ (v3,v4)=>[PRes.b b1 52 [pI p0.ID,pI p0.Kind,pL eS p0.Parties,pL Zi.enc p0.Rules],PRes.b b2 68 [pI 0,pI 0,pN,pI 0,pI 0,pS ByteArray.empty,pN]]) () (zh7 rfl rfl rfl rfl rfl rfl rfl) (zsc (zpt zph) (zs1)) ?_
  rintro _ ⟨v3,v4⟩ o τ hb6;(try dsimp only at hb6);dsimp only [pupds]
  refine yaa (yac [] [] [(13,pB (decide (v4<(p0.Rules.length:Int))))] fo0 (by kernel_rfl) (yab (yaa (zif rfl hb6 (fun hc8 hb6=>?_) fun hc8 hb6=>?_))))
  ·refine yag ?_
   refine yab (yaa (yad hb6 fun q10 hq10 hb6=>?_))
   refine yav (Y:=(Unit)×(Int)) (fun (_,v9)=>[(1,pS p1),(2,pP b1 0),(4,pP b2 0),(6,pI v9),(10,pL Zi.enc p0.Rules),(11,pI (p0.Rules.length:Int)),(12,pI v4)]) (fun (_,v9)=>[PRes.b b1 52 [pI p0.ID,pI p0.Kind,pL eS p0.Parties,pL Zi.enc p0.Rules],PRes.b b2 68 [pI 0,pI 0,pN,pI 0,pI 0,pS ByteArray.empty,pN]]) (fun (_,v9)=>q10=v9) ?_ ?_
   ·skip
    refine yak (yaa (yad hq10 fun m11 hm11 hq10=>yae (yaj 3 [] [15] [(14,pI v4),(16,.agg [pS m11.Prefix,pI m11.Rule.Kind,pI m11.Rule.Digits,pL eS m11.Rule.Except,pI m11.Rule.Tolerance,pI m11.Rule.Limit,pS m11.Rule.Name,pL Zc.enc m11.Rule.Args])] (ymr 1 Zi.enc hm11 fo0) (by kernel_rfl) (yat rfl rfl rfl (ybg (cs:=[pS ByteArray.empty,pI 0,pI 0,pN,pI 0,pI 0,pS ByteArray.empty,pN]) rfl rfl rfl rfl (fun b12=>yaj 1 [] [] [(7,pI v4)] fo0 (by kernel_rfl) (ybq rfl rfl (yaq (vs:=[pS m11.Prefix,pI m11.Rule.Kind,pI m11.Rule.Digits,pL eS m11.Rule.Except,pI m11.Rule.Tolerance,pI m11.Rule.Limit,pS m11.Rule.Name,pL Zc.enc m11.Rule.Args]) rfl rfl rfl rfl rfl zuh (zl8) (yau (yab (yaa (yei (ρd:=[]) [(0,0),(1,0),(2,0),(3,1),(4,0),(5,0),(6,0),(7,0),(8,0),(9,0),(10,0),(11,0),(12,0),(13,0),(14,0),(15,0),(16,0),(17,0),(18,0),(19,0),(20,0)] _ (List.Perm.refl _) (by kernel_rfl) rfl (yad hq10 fun x13 hx13 hq10=>yad hq10 fun m14 hm14 hq10=>ycq 21 [0,0,1] (rg 17 20) [(37,pB (x13&&((decide (v3<0))||(decide ((m14.Prefix.size:Int)<(m11.Prefix.size:Int))))))] (yfg 3 (yhr hx13) (yuy 14 Zi.enc (yoq hm14) fo0)) (by kernel_rfl) (ygc (yab (zif rfl hq10 (fun hc15 hq10=>?_) fun hc15 hq10=>?_))))))))))))))))
    ·refine yac [] [38] [(6,pI v4)] fo0 (by kernel_rfl) ?_
     refine yal ?_
     obtain rfl:=osi hq10
     exact yaz ((),v4) (zh7 rfl rfl rfl rfl rfl rfl rfl) (zsc (zpt zph) (zsc (zpt zph) zsn)) rfl
    refine yag ?_
    refine yal ?_
    obtain rfl:=osi hq10
    exact yaz ((),v3) (zh7 rfl rfl rfl rfl rfl rfl rfl) (zsc (zpt zph) (zsc (zpt zph) zsn)) rfl
   rintro ⟨_,v9⟩ τ hz;(try dsimp only at hz);subst q10;(try dsimp only at hb6);dsimp only [pupds]
   refine yac [] [39] [(12,pI (IntKind.i64.wrap (v4+1)))] fo0 (by kernel_rfl) ?_
   exact ybu hb6 () (zh7 rfl rfl rfl rfl rfl rfl rfl) (zs2)
  refine ybd ?_
  refine yap (yam hb6 (fun ht=>yao rfl ?_))
  exact yaz ((),v3) (zh3 rfl rfl rfl) (zs2) ht.symm
 rintro ⟨_,v5⟩ τ hz;(try dsimp only at hz);subst q7;(try dsimp only at h);dsimp only [pupds]
 refine yaa (yaa (yad h fun m16 hm16 h=>yad h fun x17 hx17 h=>yac [0] (rg 40 11) [(51,pB ((decide (v5<0))||(x17 != 0)))] (yuy 6 Zi.enc (yoq hm16) (ylk 9 (fun hc=>yic (yoq hx17 hc)) fo0)) (by kernel_rfl) (yab (zif rfl h (fun hc18 h=>?_) fun hc18 h=>?_))))
 ·refine yaa ?_
  refine yae (yaj 1 [] [] [(52,.agg [pI 0,pI 0,pN,pI 0,pI 0,pS ByteArray.empty,pN])] fo0 (by kernel_rfl) (ybq rfl rfl (yaq (vs:=[pI 0,pI 0,pN,pI 0,pI 0,pS ByteArray.empty,pN]) rfl rfl rfl rfl rfl (zut zuh) (zl7) (yan [] [] [(5,pB false)] fo0 (by kernel_rfl) (yab (ygr (k:=2) (b:=b2) rfl (zut zuh) (ygr (k:=6) (b:=b2) rfl (zut zuh) (yai (yah ?_)))))))))
  obtain rfl:=osi h
  exact ybh (yid (yjr rfl zm1 rfl) (ybn rfl)) zsn ⟨rfl,rfl⟩
 refine yag ?_
 refine yab (yaa (yad h fun m19 hm19 h=>yad h fun x20 hx20 h=>yae (yaj 7 [0] (rg 53 6) [(59,.agg [pI x20.Kind,pI x20.Digits,pL eS x20.Except,pI x20.Tolerance,pI x20.Limit,pS x20.Name,pL Zc.enc x20.Args])] (ymr 3 Zi.enc hm19 (yfg 6 (yoe hx20) fo0)) (by kernel_rfl) (ybq rfl rfl (yaq (vs:=[pI x20.Kind,pI x20.Digits,pL eS x20.Except,pI x20.Tolerance,pI x20.Limit,pS x20.Name,pL Zc.enc x20.Args]) rfl rfl rfl rfl rfl (zut zuh) (zl7) (yan [] [] [(5,pB true)] fo0 (by kernel_rfl) (yab (yai ?_))))))))
 obtain rfl:=osi h
 exact ybh (yid (yjr rfl zm1 rfl) (ybn rfl)) zsn ⟨rfl,rfl⟩
def ycm (p0:(List Zd)) (p1:(List Zb)) (p2:ByteArray) (p3:Za):Option Bool:=Option.bind (ydb p0 p3.Product) (fun x2=>cond (!x2.2) (some false) (Option.bind (yeg p1 p3.Agreement) (fun x5=>Option.bind (gd (!((!x5.2)||(decide (x2.1.Country=p2)))) (ydg x5.1 x2.1.Country p2)) (fun x7=>cond (((!x5.2)||(decide (x2.1.Country=p2)))||(!x7)) (some false) (Option.bind (yea x5.1 x2.1.Code) (fun x9=>some x9.2))))))
theorem yil {p0:(List Zd)} {p1:(List Zb)} {p2:ByteArray} {p3:Za} {r:Bool}  (h:ycm p0 p1 p2 p3=some r):PF 35 [pL Zd.enc p0,pL Zb.enc p1,pS p2,.agg [pI p3.Product,pI p3.Agreement]] (pB r):=by
 unfold ycm at h
 refine ych ?_
 refine ybc Tryz.func35 fk35 rfl Tryz.ntmps35 Tryz.results35 rfl (yaa (yae (yat rfl rfl rfl (ycn (cs:=[pI p3.Product,pI p3.Agreement]) rfl rfl (fun b1=>yan [] [8] [] fo0 (by kernel_rfl) (yab (yaa (yad h fun x2 hx2 h=>yae (yaj 7 [0] [13,14,15,16,12] [(17,.agg [pI x2.1.ID,pS x2.1.Code,pS x2.1.Country,pI x2.1.Price,pB x2.1.Obtained,pL eS x2.1.Processes,pL Zf.enc x2.1.Inputs]),(18,pB x2.2)] (yfg 3 (yha hx2) fo0) (by kernel_rfl) (yat rfl rfl rfl (ybg (cs:=[pI 0,pS ByteArray.empty,pS ByteArray.empty,pI 0,pB false,pN,pN]) rfl rfl rfl rfl (fun b3=>ybq rfl rfl (yaq (vs:=[pI x2.1.ID,pS x2.1.Code,pS x2.1.Country,pI x2.1.Price,pB x2.1.Obtained,pL eS x2.1.Processes,pL Zf.enc x2.1.Inputs]) rfl rfl rfl rfl rfl zuh (zl7) (yan [] [] [(10,pB x2.2)] fo0 (by kernel_rfl) (yab (yaa (yaa (yac [] [19] [(20,pB (!x2.2))] fo0 (by kernel_rfl) (yab (zif rfl h (fun hc4 h=>?_) fun hc4 h=>?_))))))))))))))))))))
 ·refine yaa ?_
  refine yac [] [] [(8,pB false)] fo0 (by kernel_rfl) (yab (yai (yah ?_)))
  obtain rfl:=osi h
  exact zq rfl ⟨rfl,rfl⟩
 refine yag ?_
 refine yab (yaa (yad h fun x5 hx5 h=>yae (yaj 7 [1] [22,23,24,25,21] [(26,.agg [pI x5.1.ID,pI x5.1.Kind,pL eS x5.1.Parties,pL Zi.enc x5.1.Rules]),(27,pB x5.2)] (yfg 3 (yiw hx5) fo0) (by kernel_rfl) (yat rfl rfl rfl (ybg (cs:=[pI 0,pI 0,pN,pN]) rfl rfl rfl rfl (fun b6=>ybq rfl rfl (yaq (vs:=[pI x5.1.ID,pI x5.1.Kind,pL eS x5.1.Parties,pL Zi.enc x5.1.Rules]) rfl rfl rfl rfl rfl zuh (zl4) (yan [] [] [(10,pB x5.2)] fo0 (by kernel_rfl) (yab (yaa (yaa (yad h fun x7 hx7 h=>yac [1,0,1] (rg 28 15) [(43,pB (((!x5.2)||(decide (x2.1.Country=p2)))||(!x7)))] (ylk 13 (fun hc=>yij (yoq hx7 hc)) fo0) (by kernel_rfl) (yab (zif rfl h (fun hc8 h=>?_) fun hc8 h=>?_))))))))))))))
 ·refine yaa ?_
  refine yac [] [] [(8,pB false)] fo0 (by kernel_rfl) (yab (yai (yah ?_)))
  obtain rfl:=osi h
  exact zq rfl ⟨rfl,rfl⟩
 refine yag ?_
 refine yab (yaa (yad h fun x9 hx9 h=>yac [0,1] [45,46,47,48,44,49,50] [(10,pB x9.2)] (yfg 3 (yko hx9) fo0) (by kernel_rfl) (yab (yaa (yac [] [51] [(8,pB x9.2)] fo0 (by kernel_rfl) (yab (yai ?_)))))))
 obtain rfl:=osi h
 exact zq rfl ⟨rfl,rfl⟩
def yev (p0:Zi) (p1:Zi):Option Bool:=Option.bind (gd (decide (p0.Prefix=p1.Prefix)) (yfq p0.Rule)) (fun x3=>Option.bind (gd ((decide (p0.Prefix=p1.Prefix))&&(x3 == 0)) (yht p0.Rule p1.Rule)) (fun x4=>some (((decide (p0.Prefix=p1.Prefix))&&(x3 == 0))&&x4)))
theorem ylw {p0:Zi} {p1:Zi} {r:Bool}  (h:yev p0 p1=some r):PF 161 [.agg [pS p0.Prefix,pI p0.Rule.Kind,pI p0.Rule.Digits,pL eS p0.Rule.Except,pI p0.Rule.Tolerance,pI p0.Rule.Limit,pS p0.Rule.Name,pL Zc.enc p0.Rule.Args],.agg [pS p1.Prefix,pI p1.Rule.Kind,pI p1.Rule.Digits,pL eS p1.Rule.Except,pI p1.Rule.Tolerance,pI p1.Rule.Limit,pS p1.Rule.Name,pL Zc.enc p1.Rule.Args]] (pB r):=by
 unfold yev at h
 refine ych ?_
 refine ybc Tryz.func161 fk161 rfl Tryz.ntmps161 Tryz.results161 rfl (yaa (yae (yat rfl rfl rfl (ycn (cs:=[pS p0.Prefix,pI p0.Rule.Kind,pI p0.Rule.Digits,pL eS p0.Rule.Except,pI p0.Rule.Tolerance,pI p0.Rule.Limit,pS p0.Rule.Name,pL Zc.enc p0.Rule.Args]) rfl rfl (fun b1=>yat rfl rfl rfl (ycn (cs:=[pS p1.Prefix,pI p1.Rule.Kind,pI p1.Rule.Digits,pL eS p1.Rule.Except,pI p1.Rule.Tolerance,pI p1.Rule.Limit,pS p1.Rule.Name,pL Zc.enc p1.Rule.Args]) rfl rfl (fun b2=>yan [] [4] [] fo0 (by kernel_rfl) (yab (yaa (yad h fun x3 hx3 h=>yad h fun x4 hx4 h=>yac [1,0,1,1,0] (rg 5 18) [(4,pB (((decide (p0.Prefix=p1.Prefix))&&(x3 == 0))&&x4))] (ylk 8 (fun hc=>yic (yoq hx3 hc)) (ylk 16 (fun hc=>yof (yoq hx4 hc)) fo0)) (by kernel_rfl) (yab (yai ?_))))))))))))
 obtain rfl:=osi h
 exact zq rfl ⟨rfl,rfl⟩
def yeh (p0:(List Zi)) (p1:(List Zi)):Option Bool:=Option.bind (ybe p0 p1 (fun y1 y2=>yev y1 y2)) (fun x3=>some x3)
theorem yng {p0:(List Zi)} {p1:(List Zi)} {r:Bool}  (h:yeh p0 p1=some r):PF 125 [pL Zi.enc p0,pL Zi.enc p1] (pB r):=by
 unfold yeh at h
 refine ych ?_
 refine ybc Tryz.func125 fk125 rfl Tryz.ntmps125 Tryz.results125 rfl (yaa (yac [] [4] [] fo0 (by kernel_rfl) (yab (yaa (yad h fun x3 hx3 h=>yac [] [5,6,7] [(4,pB x3)] (yfg 2 (ydc (fun hr=>yur (ylw hr)) hx3) fo0) (by kernel_rfl) (yab (yai ?_)))))))
 obtain rfl:=osi h
 exact zq rfl ⟨rfl,rfl⟩
def yeb (p0:(List Zb)) (p1:Int) (p2:ByteArray) (p3:ByteArray):Option (List Int):=Option.bind (yeg p0 p1) (fun x1=>cond (!x1.2) (some []) (cond (x1.1.Kind != 2) (some [p1]) (Option.bind (loopF (S:=(List Int)×Int) (T:=((List Int))) (fun (l8,v11)=>cond (decide (v11<(p0.length:Int))) (Option.bind (Option.bind (idx p0 v11) (fun m24=>Option.bind (gd (m24.ID != p1) (ydg m24 p2 p3)) (fun x26=>Option.bind (gd ((m24.ID != p1)&&x26) (yeh x1.1.Rules m24.Rules)) (fun x27=>cond (((m24.ID != p1)&&x26)&&x27) (Option.bind (app 8 l8 [m24.ID]) (fun l31=>some l31)) (some l8))))) (fun l22=>some (.inl (l22,(IntKind.i64.wrap (v11+1)))))) (some (.inr l8))) FUEL ([p1],0)) (fun l15=>some l15))))
theorem yox {p0:(List Zb)} {p1:Int} {p2:ByteArray} {p3:ByteArray} {r:(List Int)}  (h:yeb p0 p1 p2 p3=some r):PF 81 [pL Zb.enc p0,pI p1,pS p2,pS p3] (pL eI r):=by
 unfold yeb at h
 refine ych ?_
 refine ybc Tryz.func81 fk81 rfl Tryz.ntmps81 Tryz.results81 rfl (yaa (yac [] [8] [] fo0 (by kernel_rfl) (yab (yaa (yad h fun x1 hx1 h=>yae (yaj 6 [] [15,16,17,14] [(18,.agg [pI x1.1.ID,pI x1.1.Kind,pL eS x1.1.Parties,pL Zi.enc x1.1.Rules]),(19,pB x1.2)] (yfg 2 (yiw hx1) fo0) (by kernel_rfl) (yat rfl rfl rfl (ybg (cs:=[pI 0,pI 0,pN,pN]) rfl rfl rfl rfl (fun b2=>ybq rfl rfl (yaq (vs:=[pI x1.1.ID,pI x1.1.Kind,pL eS x1.1.Parties,pL Zi.enc x1.1.Rules]) rfl rfl rfl rfl rfl zuh (zl4) (yan [] [] [(10,pB x1.2)] fo0 (by kernel_rfl) (yab (yaa (yaa (yac [] [20] [(21,pB (!x1.2))] fo0 (by kernel_rfl) (yab (zif rfl h (fun hc3 h=>?_) fun hc3 h=>?_)))))))))))))))))
 ·refine yaa ?_
  refine yac [] [] [(8,pN)] fo0 (by kernel_rfl) (yab (ynw 8 rfl (yai (yah ?_))))
  obtain rfl:=osi h
  exact zq rfl ⟨rfl,rfl⟩
 refine yag ?_
 refine yab (yaa (yae (yaj 1 [] [] [(22,pI p1)] fo0 (by kernel_rfl) (yat rfl rfl rfl (ycg rfl rfl rfl rfl rfl (zic rfl zin) rfl rfl rfl rfl (fun b4=>yan [] [] [(11,pO (some ⟨b4,0,none⟩) 1 1)] fo0 (by kernel_rfl) (yab (yaa (yaa (yac [1] [24,25] [(26,pB (x1.1.Kind != 2))] fo0 (by kernel_rfl) (yab (zif rfl h (fun hc6 h=>?_) fun hc6 h=>?_))))))))))))
 ·refine yaa ?_
  refine yac [] [27] [(8,pO (some ⟨b4,0,none⟩) 1 1)] fo0 (by kernel_rfl) (yab ?_)
  refine yhl (enc:=eI) (xs:=[p1]) 8 rfl (by exact zph) ?_
  refine yai (yah ?_)
  obtain rfl:=osi h
  exact zq rfl ⟨rfl,rfl⟩
 refine yag ?_
 refine yab (yaa (yaa (yac [] [] [(28,pL Zb.enc p0),(29,pI (p0.length:Int)),(30,pI 0)] fo0 (by kernel_rfl) (yab (yad h fun q17 hq17 h=>?_)))))
 refine yav (Y:=(Option Addr×Nat)×((List Int))) (fun ((a13,c14),l15)=>[(11,pO a13 l15.length c14)]) (fun ((a13,c14),l15)=>[PRes.row a13 l15.length c14 3 1 (List.map eI l15)]) (fun ((a13,c14),l15)=>q17=l15) ?_ ?_
 ·refine yak ?_
  refine yay (Y:=Option Addr×Nat) (S:=(List Int)×Int) _ hq17 (fun (a9,c10) (l8,v11)=>[(1,pI p1),(2,pS p2),(3,pS p3),(9,pP b2 0),(11,pO a9 l8.length c10),(28,pL Zb.enc p0),(29,pI (p0.length:Int)),(30,pI v11)]) (fun (a9,c10) (l8,v11)=>[PRes.b b2 52 [pI x1.1.ID,pI x1.1.Kind,pL eS x1.1.Parties,pL Zi.enc x1.1.Rules],PRes.row a9 l8.length c10 3 1 (List.map eI l8)]) ((some ⟨b4,0,none⟩),1) (zh8 rfl rfl rfl rfl rfl rfl rfl rfl) (zsc (zpt zph) (zs1)) ?_
  rintro ⟨a9,c10⟩ ⟨l8,v11⟩ o τ hb16;(try dsimp only at hb16);dsimp only [pupds]
  refine yaa (yac [] [] [(31,pB (decide (v11<(p0.length:Int))))] fo0 (by kernel_rfl) (yab (yaa (zif rfl hb16 (fun hc18 hb16=>?_) fun hc18 hb16=>?_))))
  ·refine yag ?_
   refine yab (yaa (yad hb16 fun q23 hq23 hb16=>?_))
   refine yav (Y:=(Option Addr×Nat)×((List Int))) (fun ((a20,c21),l22)=>[(1,pI p1),(2,pS p2),(3,pS p3),(9,pP b2 0),(11,pO a20 l22.length c21),(28,pL Zb.enc p0),(29,pI (p0.length:Int)),(30,pI v11)]) (fun ((a20,c21),l22)=>[PRes.b b2 52 [pI x1.1.ID,pI x1.1.Kind,pL eS x1.1.Parties,pL Zi.enc x1.1.Rules],PRes.row a20 l22.length c21 3 1 (List.map eI l22)]) (fun ((a20,c21),l22)=>q23=l22) ?_ ?_
   ·skip
    refine yak (yaa (yad hq23 fun m24 hm24 hq23=>yae (yaj 2 [] [32] [(33,.agg [pI m24.ID,pI m24.Kind,pL eS m24.Parties,pL Zi.enc m24.Rules])] (ymr 0 Zb.enc hm24 fo0) (by kernel_rfl) (yat rfl rfl rfl (ybg (cs:=[pI 0,pI 0,pN,pN]) rfl rfl rfl rfl (fun b25=>ybq rfl rfl (yaq (vs:=[pI m24.ID,pI m24.Kind,pL eS m24.Parties,pL Zi.enc m24.Rules]) rfl rfl rfl rfl rfl zuh (zl4) (yau (yab (yaa (yad hq23 fun x26 hx26 hq23=>yad hq23 fun x27 hx27 hq23=>yac [0,0,1,0] (rg 34 16) [(50,pB (((m24.ID != p1)&&x26)&&x27))] (ylk 8 (fun hc=>yij (yoq hx26 hc)) (ylk 15 (fun hc=>yng (yoq hx27 hc)) fo0)) (by kernel_rfl) (yab (zif rfl hq23 (fun hc28 hq23=>?_) fun hc28 hq23=>?_)))))))))))))
    ·refine yae ?_
     refine yaj 3 [0] [52] [(51,pO a9 l8.length c10),(53,pI m24.ID)] fo0 (by kernel_rfl) (yat rfl rfl rfl (ycg rfl rfl rfl rfl rfl (zic rfl zin) rfl rfl rfl rfl (fun b29=>yad hq23 fun l31 hl31 hq23=>?_)))
     refine yat rfl rfl rfl (yci (enc:=eI) rfl rfl rfl rfl rfl rfl rfl rfl rfl zm0 (by exact zpt (zpt (zpt zph))) hl31 (fun a32 c33=>?_))
     refine yan [] [] [(11,pO a32 l31.length c33)] fo0 (by kernel_rfl) (yal ?_)
     obtain rfl:=osi hq23
     exact yaz ((a32,c33),l31) (zh8 rfl rfl rfl rfl rfl rfl rfl rfl) (zsc (zpt (zpt (zpt zph))) (zs1)) rfl
    refine yag ?_
    refine yal ?_
    obtain rfl:=osi hq23
    exact yaz ((a9,c10),l8) (zh8 rfl rfl rfl rfl rfl rfl rfl rfl) (zsc (zpt zph) (zsc (zpt zph) zsn)) rfl
   rintro ⟨⟨a20,c21⟩,l22⟩ τ hz;(try dsimp only at hz);subst q23;(try dsimp only at hb16);dsimp only [pupds]
   refine yac [] [56] [(30,pI (IntKind.i64.wrap (v11+1)))] fo0 (by kernel_rfl) ?_
   exact ybu hb16 (a20,c21) (zh8 rfl rfl rfl rfl rfl rfl rfl rfl) (zs2)
  refine ybd ?_
  refine yap (yam hb16 (fun ht=>yao rfl ?_))
  exact yaz ((a9,c10),l8) (zh1 rfl) (zsc (zpt zph) zsn) ht.symm
 rintro ⟨⟨a13,c14⟩,l15⟩ τ hz;(try dsimp only at hz);subst q17;(try dsimp only at h);dsimp only [pupds]
 refine yaa (yac [] [57] [(8,pO a13 l15.length c14)] fo0 (by kernel_rfl) (yab ?_))
 refine yhl (enc:=eI) (xs:=l15) 8 rfl (by exact zph) ?_
 refine yai ?_
 obtain rfl:=osi h
 exact zq rfl ⟨rfl,rfl⟩
def yjl (p0:(List ByteArray)) (p1:(List ByteArray)):Option (List ByteArray):=Option.bind (ycu [p0,p1]) (fun x3=>Option.bind (yhx x3) (fun x7=>Option.bind (ydk x7) (fun x8=>some x8)))
theorem yxe {p0:(List ByteArray)} {p1:(List ByteArray)} {r:(List ByteArray)}  (h:yjl p0 p1=some r):PF 126 [pL eS p0,pL eS p1] (pL eS r):=by
 unfold yjl at h
 refine ych ?_
 refine ybc Tryz.func126 fk126 rfl Tryz.ntmps126 Tryz.results126 rfl (yaa (yac [] [4] [] fo0 (by kernel_rfl) (yab (yaa (yae (yaj 2 [] [] [(6,pL eS p0),(7,pL eS p1)] fo0 (by kernel_rfl) (yat rfl rfl rfl (ycg rfl rfl rfl rfl rfl (zic rfl (zic rfl zin)) rfl rfl rfl rfl (fun b1=>?_)))))))))
 refine ygq (enc:=(eL eS)) (xs:=[p0,p1]) 8 rfl (by exact zph) ?_
 refine yad h fun x3 hx3 h=>?_
 refine yat rfl rfl rfl (ybj rfl rfl (ρ1:=[]) (List.Perm.refl _) (yjx hx3) ?_);rintro _ _ ⟨a4,c5,rfl,rfl⟩
 refine yan [] [] [(5,pO a4 x3.length c5)] fo0 (by kernel_rfl) (yab (yaa (yad h fun x7 hx7 h=>yae (yaj 1 [] [] [(10,pO a4 x3.length c5)] fo0 (by kernel_rfl) ?_))))
 refine yat rfl rfl rfl (ybj rfl rfl (ρ1:=[_]) (yaw (by exact zph) (List.Perm.refl _)) (ykx hx7) ?_);rintro _ _ ⟨rfl,rfl⟩
 refine yau (yab (yaa (yad h fun x8 hx8 h=>yae (yaj 1 [] [] [(12,pO a4 x3.length c5)] fo0 (by kernel_rfl) ?_))))
 refine yat rfl rfl rfl (ybj rfl rfl (ρ1:=[_]) (yaw (by exact zph) (List.Perm.refl _)) (yji hx8) ?_);rintro _ _ ⟨a9,c10,rfl,rfl⟩
 refine yan [] [] [(4,pO a9 x8.length c10)] fo0 (by kernel_rfl) (yab ?_)
 refine yhl (enc:=eS) (xs:=x8) 4 rfl (by exact zph) ?_
 refine yai ?_
 obtain rfl:=osi h
 exact zq rfl ⟨rfl,rfl⟩
def yex (p0:(List Zd)) (p1:Zb) (p2:Zd) (p3:Zr):Option ((List Ze)×(List ByteArray)):=Option.bind (yca p2.Processes) (fun x4=>Option.bind (loopF (S:=(List Ze)×(List ByteArray)×Int) (T:=((List Ze)×(List ByteArray))) (fun (l9,l12,v13)=>cond (decide (v13<(p2.Inputs.length:Int))) (Option.bind (Option.bind (idx p2.Inputs v13) (fun m29=>Option.bind (ydb p0 m29.Product) (fun x31=>Option.bind (gd (p1.Kind == 3) (ybv p1.Parties x31.1.Country)) (fun x33=>Option.bind (cond ((p1.Kind == 3)&&x33) (Option.bind (yjl l12 x31.1.Processes) (fun x38=>some x38)) (some l12)) (fun l35=>Option.bind (ycs p3 x31.1 m29.Value) (fun x39=>cond (((Ze.is_proved_ x39)||(!((p1.Kind == 3)&&x33)))||((x31.1.Inputs.length:Int) == 0)) (Option.bind (app 16 l9 [x39]) (fun l44=>some (l44,l35))) (Option.bind (loopF (S:=(List Ze)×Int) (T:=((List Ze))) (fun (l49,v52)=>cond (decide (v52<(x31.1.Inputs.length:Int))) (Option.bind (idx x31.1.Inputs v52) (fun m60=>Option.bind (ydb p0 m60.Product) (fun x62=>Option.bind (yfn m29.Value m60.Value x31.1.Price) (fun x64=>Option.bind (ycs p3 x62.1 x64) (fun x65=>Option.bind (app 16 l49 [x65]) (fun l68=>some (.inl (l68,(IntKind.i64.wrap (v52+1)))))))))) (some (.inr l49))) FUEL (l9,0)) (fun l56=>some (l56,l35))))))))) (fun (l26,l27)=>some (.inl (l26,l27,(IntKind.i64.wrap (v13+1)))))) (some (.inr (l9,l12)))) FUEL (([]:List Ze),x4,0)) (fun (l17,l18)=>Option.bind (sub l18 0 (imin (l18.length:Int) 8)) (fun l73=>some (l17,l73))))
theorem yqr {p0:(List Zd)} {p1:Zb} {p2:Zd} {p3:Zr} {m3_set_:Nat} {r:((List Ze)×(List ByteArray))}  (h:yex p0 p1 p2 p3=some r):PCall 82 [pL Zd.enc p0,.agg [pI p1.ID,pI p1.Kind,pL eS p1.Parties,pL Zi.enc p1.Rules],.agg [pI p2.ID,pS p2.Code,pS p2.Country,pI p2.Price,pB p2.Obtained,pL eS p2.Processes,pL Zf.enc p2.Inputs],.agg [pL eI p3.partners,.v (.map (some m3_set_))]] [PRes.mp (some m3_set_) (menc Za.key vT p3.set_)] (fun pv ρ'=>pv=.tup [pL Ze.enc r.1,pL eS r.2]∧ρ'=[PRes.mp (some m3_set_) (menc Za.key vT p3.set_)]):=by
 unfold yex at h
 refine ybc Tryz.func82 fk82 rfl Tryz.ntmps82 Tryz.results82 rfl (yaa (yae (yat rfl rfl rfl (ycn (cs:=[pI p1.ID,pI p1.Kind,pL eS p1.Parties,pL Zi.enc p1.Rules]) rfl rfl (fun b1=>yat rfl rfl rfl (ycn (cs:=[pI p2.ID,pS p2.Code,pS p2.Country,pI p2.Price,pB p2.Obtained,pL eS p2.Processes,pL Zf.enc p2.Inputs]) rfl rfl (fun b2=>yat rfl rfl rfl (ycn (cs:=[pL eI p3.partners,.v (.map (some m3_set_))]) rfl rfl (fun b3=>yan [] [8,9] [] fo0 (by kernel_rfl) (yab (yaa (yac [] [] [(10,pN)] fo0 (by kernel_rfl) (yab (yaa (yad h fun x4 hx4 h=>yae (yaj 2 [1] [24] [(25,pL eS p2.Processes)] fo0 (by kernel_rfl) ?_))))))))))))))))
 refine yat rfl rfl rfl (ybj rfl rfl (ρ1:=[]) (List.Perm.refl _) (yel hx4) ?_);rintro _ _ ⟨a5,c6,rfl,rfl⟩
 refine yan [] [] [(11,pO a5 x4.length c6)] fo0 (by kernel_rfl) (yab (yaa (yaa (yac [2] [27] [(28,pL Zf.enc p2.Inputs),(29,pI (p2.Inputs.length:Int)),(30,pI 0)] fo0 (by kernel_rfl) (yab (ycr 135 1 ?_))))))
 refine yhl (enc:=eS) (xs:=x4) 11 rfl (by exact zpt zph) ?_
 refine yad h fun q20 hq20 h=>?_
 refine yav (Y:=(Option Addr×Nat)×((List Ze)×(List ByteArray))) (fun ((a15,c16),(l17,l18))=>[(10,pO a15 l17.length c16),(11,pL eS l18)]) (fun ((a15,c16),(l17,l18))=>[PRes.mp (some m3_set_) (menc Za.key vT p3.set_),PRes.row a15 l17.length c16 135 1 (List.map Ze.enc l17)]) (fun ((a15,c16),(l17,l18))=>q20=(l17,l18)) ?_ ?_
 ·refine yak ?_
  refine yay (Y:=Option Addr×Nat) (S:=(List Ze)×(List ByteArray)×Int) _ hq20 (fun (a10,c11) (l9,l12,v13)=>[(0,pL Zd.enc p0),(5,pP b1 0),(7,pP b3 0),(10,pO a10 l9.length c11),(11,pL eS l12),(28,pL Zf.enc p2.Inputs),(29,pI (p2.Inputs.length:Int)),(30,pI v13)]) (fun (a10,c11) (l9,l12,v13)=>[PRes.b b1 52 [pI p1.ID,pI p1.Kind,pL eS p1.Parties,pL Zi.enc p1.Rules],PRes.b b3 130 [pL eI p3.partners,.v (.map (some m3_set_))],PRes.mp (some m3_set_) (menc Za.key vT p3.set_),PRes.row a10 l9.length c11 135 1 (List.map Ze.enc l9)]) (none,0) (zh8 rfl rfl rfl rfl rfl rfl rfl rfl) (zsc (zpt (zpt (zpt (zpt zph)))) (zsc (zpt (zpt zph)) (zsc (zpt (zpt (zpt zph))) (zsc (zpt zph) zsn)))) ?_
  rintro ⟨a10,c11⟩ ⟨l9,l12,v13⟩ o τ hb19;(try dsimp only at hb19);dsimp only [pupds]
  refine yaa (yac [] [] [(31,pB (decide (v13<(p2.Inputs.length:Int))))] fo0 (by kernel_rfl) (yab (yaa (zif rfl hb19 (fun hc22 hb19=>?_) fun hc22 hb19=>?_))))
  ·refine yag ?_
   refine yab (yaa (yad hb19 fun q28 hq28 hb19=>?_))
   refine yav (Y:=(Option Addr×Nat)×((List Ze)×(List ByteArray))) (fun ((a24,c25),(l26,l27))=>[(0,pL Zd.enc p0),(5,pP b1 0),(7,pP b3 0),(10,pO a24 l26.length c25),(11,pL eS l27),(28,pL Zf.enc p2.Inputs),(29,pI (p2.Inputs.length:Int)),(30,pI v13)]) (fun ((a24,c25),(l26,l27))=>[PRes.b b1 52 [pI p1.ID,pI p1.Kind,pL eS p1.Parties,pL Zi.enc p1.Rules],PRes.b b3 130 [pL eI p3.partners,.v (.map (some m3_set_))],PRes.mp (some m3_set_) (menc Za.key vT p3.set_),PRes.row a24 l26.length c25 135 1 (List.map Ze.enc l26)]) (fun ((a24,c25),(l26,l27))=>q28=(l26,l27)) ?_ ?_
   ·skip
    refine yak (yaa (yad hq28 fun m29 hm29 hq28=>yae (yaj 2 [] [32] [(33,.agg [pI m29.Product,pI m29.Value])] (ymr 0 Zf.enc hm29 fo0) (by kernel_rfl) (yat rfl rfl rfl (ybg (cs:=[pI 0,pI 0]) rfl rfl rfl rfl (fun b30=>ybq rfl rfl (yaq (vs:=[pI m29.Product,pI m29.Value]) rfl rfl rfl rfl rfl zuh (zl2) (yau (yab (yaa (yad hq28 fun x31 hx31 hq28=>yae (yaj 7 [0] [35,36,37,38,34] [(39,.agg [pI x31.1.ID,pS x31.1.Code,pS x31.1.Country,pI x31.1.Price,pB x31.1.Obtained,pL eS x31.1.Processes,pL Zf.enc x31.1.Inputs]),(40,pB x31.2)] (yfg 3 (yha hx31) fo0) (by kernel_rfl) (yat rfl rfl rfl (ybg (cs:=[pI 0,pS ByteArray.empty,pS ByteArray.empty,pI 0,pB false,pN,pN]) rfl rfl rfl rfl (fun b32=>ybq rfl rfl (yaq (vs:=[pI x31.1.ID,pS x31.1.Code,pS x31.1.Country,pI x31.1.Price,pB x31.1.Obtained,pL eS x31.1.Processes,pL Zf.enc x31.1.Inputs]) rfl rfl rfl rfl rfl zuh (zl7) (yan [] [15] [] fo0 (by kernel_rfl) (yab (yaa (yad hq28 fun x33 hx33 hq28=>yac [2,2,0] (rg 41 10) [(16,pB ((p1.Kind == 3)&&x33))] (ylk 8 (fun hc=>yct (yoq hx33 hc)) fo0) (by kernel_rfl) (yab (yaa (yaa (yac [] [] [(51,pB ((p1.Kind == 3)&&x33))] fo0 (by kernel_rfl) (yab (yad hq28 fun q36 hq36 hq28=>?_))))))))))))))))))))))))))
    refine yav (Y:=(Unit)×((List ByteArray))) (fun (_,l35)=>[(0,pL Zd.enc p0),(5,pP b1 0),(7,pP b3 0),(10,pO a10 l9.length c11),(11,pL eS l35),(13,pP b30 0),(14,pP b32 0),(16,pB ((p1.Kind == 3)&&x33)),(28,pL Zf.enc p2.Inputs),(29,pI (p2.Inputs.length:Int)),(30,pI v13)]) (fun (_,l35)=>[PRes.b b1 52 [pI p1.ID,pI p1.Kind,pL eS p1.Parties,pL Zi.enc p1.Rules],PRes.b b3 130 [pL eI p3.partners,.v (.map (some m3_set_))],PRes.b b30 90 [pI m29.Product,pI m29.Value],PRes.b b32 46 [pI x31.1.ID,pS x31.1.Code,pS x31.1.Country,pI x31.1.Price,pB x31.1.Obtained,pL eS x31.1.Processes,pL Zf.enc x31.1.Inputs],PRes.mp (some m3_set_) (menc Za.key vT p3.set_),PRes.row a10 l9.length c11 135 1 (List.map Ze.enc l9)]) (fun (_,l35)=>q36=l35) ?_ ?_
    ·skip
     refine zif rfl hq36 (fun hc37 hq36=>?_) fun hc37 hq36=>?_
     ·refine yad hq36 ?_;clear hq36;intro x38 hx38 hq36
      refine yac [0] [52,53,54,55] [(11,pL eS x38)] (yfg 3 (yxe hx38) fo0) (by kernel_rfl) ?_
      obtain rfl:=osi hq36
      exact yaz ((),x38) (zhc rfl (zhc rfl (zh9 rfl rfl rfl rfl rfl rfl rfl rfl rfl))) (zsc (zpt (zpt zph)) (zsc (zpt (zpt zph)) (zsc (zpt zph) (zs3)))) rfl
     refine yag ?_
     obtain rfl:=osi hq36
     exact yaz ((),l12) (zhc rfl (zhc rfl (zh9 rfl rfl rfl rfl rfl rfl rfl rfl rfl))) (zsc (zpt (zpt zph)) (zsc (zpt (zpt zph)) (zsc (zpt zph) (zs3)))) rfl
    rintro ⟨_,l35⟩ τ hz;(try dsimp only at hz);subst q36;(try dsimp only at hq28);dsimp only [pupds]
    refine yaa (yad hq28 fun x39 hx39 hq28=>yae (yaj 4 [1,3,2] [58] [(56,.agg [pL eI p3.partners,.v (.map (some m3_set_))]),(57,.agg [pI x31.1.ID,pS x31.1.Code,pS x31.1.Country,pI x31.1.Price,pB x31.1.Obtained,pL eS x31.1.Processes,pL Zf.enc x31.1.Inputs]),(59,pI m29.Value)] fo0 (by kernel_rfl) ?_))
    refine yat rfl rfl rfl (ybj rfl rfl (ρ1:=[_]) (yaw (by exact zpt (zpt (zpt (zpt zph)))) (List.Perm.refl _)) (yhf hx39) ?_);rintro _ _ ⟨rfl,rfl⟩
    refine yan [] [] [(17,Ze.pv x39)] fo0 (by kernel_rfl) (yab (yaa (yaa (yae (yaj 5 [] [62,63,61] [(64,.agg [pS ((((Ze.as_proved_ x39)).use).Code),pI ((((Ze.as_proved_ x39)).use).Value),pB ((((Ze.as_proved_ x39)).use).Originating),pI ((((Ze.as_proved_ x39)).premise).Product),pI ((((Ze.as_proved_ x39)).premise).Agreement)]),(65,pB (Ze.is_proved_ x39))] (fota 1 (Ze.ta_proved_ x39) fo0) (by kernel_rfl) (yat rfl rfl rfl (ybg (cs:=[pS ByteArray.empty,pI 0,pB false,pI 0,pI 0]) rfl rfl rfl rfl (fun b40=>ybq rfl rfl (yaq (vs:=[pS ((((Ze.as_proved_ x39)).use).Code),pI ((((Ze.as_proved_ x39)).use).Value),pB ((((Ze.as_proved_ x39)).use).Originating),pI ((((Ze.as_proved_ x39)).premise).Product),pI ((((Ze.as_proved_ x39)).premise).Agreement)]) rfl rfl rfl rfl rfl zuh (zl5) (yan [] [] [(19,pB (Ze.is_proved_ x39))] fo0 (by kernel_rfl) (yab (yaa (yac [5] (rg 66 10) [(76,pB (((Ze.is_proved_ x39)||(!((p1.Kind == 3)&&x33)))||((x31.1.Inputs.length:Int) == 0)))] fo0 (by kernel_rfl) (yab (zif rfl hq28 (fun hc41 hq28=>?_) fun hc41 hq28=>?_)))))))))))))))
    ·refine yaa ?_
     refine yae (yaj 2 [] [] [(77,pO a10 l9.length c11),(78,Ze.pv x39)] fo0 (by kernel_rfl) (yat rfl rfl rfl (ycg rfl rfl rfl rfl rfl (zic rfl zin) rfl rfl rfl rfl (fun b42=>yad hq28 fun l44 hl44 hq28=>?_))))
     refine yat rfl rfl rfl (yci (enc:=Ze.enc) rfl rfl rfl rfl rfl rfl rfl rfl rfl zm0 (by exact zpt (zpt (zpt (zpt (zpt (zpt (zpt zph))))))) hl44 (fun a45 c46=>?_))
     refine yan [] [] [(10,pO a45 l44.length c46)] fo0 (by kernel_rfl) (yab (ybd (yap (yao rfl ?_))))
     obtain rfl:=osi hq28
     exact yaz ((a45,c46),(l44,l35)) (zh8 rfl rfl rfl rfl rfl rfl rfl rfl) (zsc (zpt (zpt (zpt (zpt zph)))) (zsc (zpt (zpt (zpt (zpt zph)))) (zsc (zpt (zpt (zpt zph))) (zs1)))) rfl
    refine yag ?_
    refine yab (yaa (yac [5] [81] [(82,pL Zf.enc x31.1.Inputs),(83,pI (x31.1.Inputs.length:Int)),(84,pI 0)] fo0 (by kernel_rfl) (yab (yad hq28 fun q58 hq58 hq28=>?_))))
    refine ynv (Y:=(Option Addr×Nat)×((List Ze))) (fun ((a54,c55),l56)=>[(0,pL Zd.enc p0),(5,pP b1 0),(7,pP b3 0),(10,pO a54 l56.length c55),(11,pL eS l35),(28,pL Zf.enc p2.Inputs),(29,pI (p2.Inputs.length:Int)),(30,pI v13)]) (fun ((a54,c55),l56)=>[PRes.b b1 52 [pI p1.ID,pI p1.Kind,pL eS p1.Parties,pL Zi.enc p1.Rules],PRes.b b3 130 [pL eI p3.partners,.v (.map (some m3_set_))],PRes.mp (some m3_set_) (menc Za.key vT p3.set_),PRes.row a54 l56.length c55 135 1 (List.map Ze.enc l56)]) (fun ((a54,c55),l56)=>q58=l56) ?_ ?_
    ·refine yak ?_
     refine yay (Y:=Option Addr×Nat) (S:=(List Ze)×Int) _ hq58 (fun (a50,c51) (l49,v52)=>[(0,pL Zd.enc p0),(5,pP b1 0),(7,pP b3 0),(10,pO a50 l49.length c51),(11,pL eS l35),(13,pP b30 0),(14,pP b32 0),(28,pL Zf.enc p2.Inputs),(29,pI (p2.Inputs.length:Int)),(30,pI v13),(82,pL Zf.enc x31.1.Inputs),(83,pI (x31.1.Inputs.length:Int)),(84,pI v52)]) (fun (a50,c51) (l49,v52)=>[PRes.b b1 52 [pI p1.ID,pI p1.Kind,pL eS p1.Parties,pL Zi.enc p1.Rules],PRes.b b3 130 [pL eI p3.partners,.v (.map (some m3_set_))],PRes.b b30 90 [pI m29.Product,pI m29.Value],PRes.b b32 46 [pI x31.1.ID,pS x31.1.Code,pS x31.1.Country,pI x31.1.Price,pB x31.1.Obtained,pL eS x31.1.Processes,pL Zf.enc x31.1.Inputs],PRes.mp (some m3_set_) (menc Za.key vT p3.set_),PRes.row a50 l49.length c51 135 1 (List.map Ze.enc l49)]) (a10,c11) (zhc rfl (zhc rfl (zhc rfl (zhc rfl (zh9 rfl rfl rfl rfl rfl rfl rfl rfl rfl))))) (zsc (zpt (zpt zph)) (zsc (zpt (zpt zph)) (zsc (zpt (zpt zph)) (zsc (zpt (zpt zph)) (zsc (zpt zph) (zsc (zpt zph) zsn)))))) ?_
     rintro ⟨a50,c51⟩ ⟨l49,v52⟩ o τ hb57;(try dsimp only at hb57);dsimp only [pupds]
     refine yaa (yac [] [] [(85,pB (decide (v52<(x31.1.Inputs.length:Int))))] fo0 (by kernel_rfl) (yab (yaa (zif rfl hb57 (fun hc59 hb57=>?_) fun hc59 hb57=>?_))))
     ·refine yag ?_
      refine yab (yaa (yak (yaa (yad hb57 fun m60 hm60 hb57=>yae (yaj 2 [] [86] [(87,.agg [pI m60.Product,pI m60.Value])] (ymr 0 Zf.enc hm60 fo0) (by kernel_rfl) (yat rfl rfl rfl (ybg (cs:=[pI 0,pI 0]) rfl rfl rfl rfl (fun b61=>ybq rfl rfl (yaq (vs:=[pI m60.Product,pI m60.Value]) rfl rfl rfl rfl rfl zuh (zl2) (yau (yab (yaa (yad hb57 fun x62 hx62 hb57=>yae (yaj 7 [0] [89,90,91,92,88] [(93,.agg [pI x62.1.ID,pS x62.1.Code,pS x62.1.Country,pI x62.1.Price,pB x62.1.Obtained,pL eS x62.1.Processes,pL Zf.enc x62.1.Inputs]),(94,pB x62.2)] (yfg 3 (yha hx62) fo0) (by kernel_rfl) (yat rfl rfl rfl (ybg (cs:=[pI 0,pS ByteArray.empty,pS ByteArray.empty,pI 0,pB false,pN,pN]) rfl rfl rfl rfl (fun b63=>ybq rfl rfl (yaq (vs:=[pI x62.1.ID,pS x62.1.Code,pS x62.1.Country,pI x62.1.Price,pB x62.1.Obtained,pL eS x62.1.Processes,pL Zf.enc x62.1.Inputs]) rfl rfl rfl rfl rfl zuh (zl7) (yan [] [23] [] fo0 (by kernel_rfl) (yab (yei (ρd:=[PRes.mp (some m3_set_) _,PRes.row a50 _ _ _ _ _]) [(0,0),(1,0),(2,0),(3,0),(4,0),(5,0),(6,0),(7,0),(8,0),(9,1),(10,1),(11,1),(12,1),(13,0)] _ (yaw (zpt (zpt (zpt (zpt (zpt (zpt zph)))))) (yaw (zpt (zpt (zpt (zpt (zpt (zpt zph)))))) (List.Perm.refl _))) (by kernel_rfl) rfl (yad hb57 fun x64 hx64 hb57=>yad hb57 fun x65 hx65 hb57=>ycq 10 [3,0,4,1,5] (rg 98 6) [(95,pO a50 l49.length c51),(96,.agg [pL eI p3.partners,.v (.map (some m3_set_))]),(97,.agg [pI x62.1.ID,pS x62.1.Code,pS x62.1.Country,pI x62.1.Price,pB x62.1.Obtained,pL eS x62.1.Processes,pL Zf.enc x62.1.Inputs]),(104,pI x64)] (yfg 9 (ypl hx64) fo0) (by kernel_rfl) ?_))))))))))))))))))))))
      refine yuu rfl rfl rfl (ybj rfl rfl (ρ1:=[_]) (yaw (by exact zph) (List.Perm.refl _)) (yhf hx65) ?_);rintro _ _ ⟨rfl,rfl⟩
      refine yuu rfl rfl rfl (ycg rfl rfl rfl rfl rfl (zic rfl zin) rfl rfl rfl rfl (fun b66=>yad hb57 fun l68 hl68 hb57=>?_))
      refine yuu rfl rfl rfl (yci (enc:=Ze.enc) rfl rfl rfl rfl rfl rfl rfl rfl rfl zm0 (by exact zpt (zpt zph)) hl68 (fun a69 c70=>?_))
      refine ycq 1 [] [] [(10,pO a69 l68.length c70)] fo0 (by kernel_rfl) (ygc (yal (yab (yac [] [108] [(84,pI (IntKind.i64.wrap (v52+1)))] fo0 (by kernel_rfl) ?_))))
      exact ybu hb57 (a69,c70) (zhc rfl (zhc rfl (zhc rfl (zhc rfl (zh9 rfl rfl rfl rfl rfl rfl rfl rfl rfl))))) (zsc (zpt (zpt (zpt (zpt (zpt zph))))) (zsc (zpt (zpt (zpt (zpt (zpt zph))))) (zsc (zpt (zpt (zpt (zpt (zpt zph))))) (zsc (zpt (zpt (zpt (zpt (zpt zph))))) (zsc (zpt (zpt zph)) (zs1))))))
     refine ybd ?_
     refine yap (yam hb57 (fun ht=>yao rfl ?_))
     exact ykn ((a50,c51),l49) (zh8 rfl rfl rfl rfl rfl rfl rfl rfl) (zsc zph (zsc zph (zsc (zpt (zpt zph)) (zsc (zpt (zpt zph)) zsn)))) ht.symm
    rintro ⟨⟨a54,c55⟩,l56⟩ τ ρ1 hsub72 hz;(try dsimp only at hz hsub72);subst q58;(try dsimp only at hq28);dsimp only [pupds]
    refine yal ?_
    obtain rfl:=osi hq28
    exact yaz ((a54,c55),(l56,l35)) (zh8 rfl rfl rfl rfl rfl rfl rfl rfl) (PSub.trans (zs4) hsub72) rfl
   rintro ⟨⟨a24,c25⟩,⟨l26,l27⟩⟩ τ hz;(try dsimp only at hz);subst q28;(try dsimp only at hb19);dsimp only [pupds]
   refine yac [] [109] [(30,pI (IntKind.i64.wrap (v13+1)))] fo0 (by kernel_rfl) ?_
   exact ybu hb19 (a24,c25) (zh8 rfl rfl rfl rfl rfl rfl rfl rfl) (zs4)
  refine ybd ?_
  refine yap (yam hb19 (fun ht=>yao rfl ?_))
  exact yaz ((a10,c11),(l9,l12)) (zh2 rfl rfl) (zsc (zpt (zpt zph)) (zsc (zpt (zpt zph)) zsn)) ht.symm
 rintro ⟨⟨a15,c16⟩,⟨l17,l18⟩⟩ τ hz;(try dsimp only at hz);subst q20;(try dsimp only at h);dsimp only [pupds]
 refine yaa (yei (ρd:=[]) [(0,0),(1,0),(2,0),(3,0),(4,0),(5,0),(6,0),(7,0)] _ (List.Perm.refl _) (by kernel_rfl) rfl (yad h fun l73 hl73 h=>ycq 8 [] (rg 110 6) [(8,pO a15 l17.length c16),(9,pL eS l73)] (fosl 5 eS 1 (fun _=>rfl) hl73 fo0) (by kernel_rfl) (ygc (yab ?_))))
 refine yhl (enc:=Ze.enc) (xs:=l17) 8 rfl (by exact zpt zph) ?_
 refine yai ?_
 obtain rfl:=osi h
 exact ybh (yid (ybn rfl) (ybn rfl)) (zsc (zpt zph) zsn) ⟨rfl,rfl⟩
def yjm (p0:(List Zd)) (p1:(List Zb)) (p2:ByteArray) (p3:Za) (p4:(List Za)):Option (Zn×(List Za)):=Option.bind (ycm p0 p1 p2 p3) (fun x3=>cond (!x3) (some ((⟨ByteArray.empty,0,false,[],[]⟩:Zn),[])) (Option.bind (ydb p0 p3.Product) (fun x5=>Option.bind (yeg p1 p3.Agreement) (fun x7=>Option.bind (yeb p1 p3.Agreement x5.1.Country p2) (fun x9=>Option.bind (loopF (S:=Int×(List (Za×Bool))) (T:=((List (Za×Bool)))) (fun (v12,l13)=>cond (decide (v12<(p4.length:Int))) (Option.bind (idx p4 v12) (fun m18=>some (.inl ((IntKind.i64.wrap (v12+1)),(mset l13 m18 true))))) (some (.inr l13))) FUEL (0,([]:List (Za×Bool)))) (fun l14=>Option.bind (yex p0 x7.1 x5.1 (⟨x9,l14⟩:Zr)) (fun x20=>Option.bind (loopF (S:=(List Za)×Int×(List Zk)) (T:=((List Za)×(List Zk))) (fun (l23,v26,l28)=>cond (decide (v26<(x20.1.length:Int))) (Option.bind (Option.bind (idx x20.1 v26) (fun m53=>Option.bind (Icumulation_supply_input m53) (fun x54=>Option.bind (app 32 l28 [x54]) (fun l57=>cond (Ze.is_proved_ m53) (Option.bind (app 16 l23 [(((Ze.as_proved_ m53)).premise)]) (fun l65=>some (l65,l57))) (some (l23,l57)))))) (fun (l47,l51)=>some (.inl (l47,(IntKind.i64.wrap (v26+1)),l51)))) (some (.inr (l23,l28)))) FUEL (([]:List Za),0,([]:List Zk))) (fun (l34,l38)=>Option.bind (ybk l34) (fun x69=>Option.bind (ybo x69) (fun x70=>some ((⟨x5.1.Code,x5.1.Price,x5.1.Obtained,x20.2,l38⟩:Zn),x70)))))))))))
def yhy (p0:ByteArray):Option Bool:=Option.bind (ydn p0) (fun x1=>some (decide (6≤x1)))
theorem ynh {p0:ByteArray} {r:Bool}  (h:yhy p0=some r):PF 175 [pS p0] (pB r):=by
 unfold yhy at h
 refine ych ?_
 refine ybc Tryz.func175 fk175 rfl Tryz.ntmps175 Tryz.results175 rfl (yaa (yac [] [2] [] fo0 (by kernel_rfl) (yab (yaa (yad h fun x1 hx1 h=>yac [] [3,4,5] [(2,pB (decide (6≤x1)))] (yfg 1 (yfp hx1) fo0) (by kernel_rfl) (yab (yai ?_)))))))
 obtain rfl:=osi h
 exact zq rfl ⟨rfl,rfl⟩
def ygk (p0:Zn):Option Int:=Option.bind (yhy p0.Code) (fun x2=>cond (!x2) (some (1:Int)) (cond ((decide (p0.Price<1))||(decide (1000000000000<p0.Price))) (some (2:Int)) (Option.bind (ydo p0.Processes) (fun x5=>cond (!x5) (some (1:Int)) (cond (decide (100<(p0.Inputs.length:Int))) (some (8:Int)) (Option.bind (loopF (S:=Int) (T:=(Unit)⊕(_)) (fun v8=>cond (decide (v8<(p0.Inputs.length:Int))) (Option.bind (idx p0.Inputs v8) (fun m12=>Option.bind (yhy m12.Code) (fun x14=>cond (!x14) (some (.inr (.inr (1:Int)))) (cond ((decide (m12.Value<0))||(decide (1000000000000<m12.Value))) (some (.inr (.inr (2:Int)))) (some (.inl (IntKind.i64.wrap (v8+1)))))))) (some (.inr (.inl ())))) FUEL 0) (fun q=>match q with | .inl _=>some (0:Int) | .inr e=>some e)))))))
theorem yqs {p0:Zn} {r:Int}  (h:ygk p0=some r):PF 142 [.agg [pS p0.Code,pI p0.Price,pB p0.Obtained,pL eS p0.Processes,pL Zk.enc p0.Inputs]] (pI r):=by
 unfold ygk at h
 refine ych ?_
 refine ybc Tryz.func142 fk142 rfl Tryz.ntmps142 Tryz.results142 rfl (yaa (yae (yat rfl rfl rfl (ycn (cs:=[pS p0.Code,pI p0.Price,pB p0.Obtained,pL eS p0.Processes,pL Zk.enc p0.Inputs]) rfl rfl (fun b1=>yan [] [2] [] fo0 (by kernel_rfl) (yab (yaa (yak (yaa (yad h fun x2 hx2 h=>yac [0] [6,7,8,9] [(5,pB (!x2))] (yfg 2 (ynh hx2) fo0) (by kernel_rfl) (yab (zif rfl h (fun hc3 h=>?_) fun hc3 h=>?_))))))))))))
 ·refine yaa ?_
  refine yac [] [] [(2,pI 1)] fo0 (by kernel_rfl) (yab (yai (yaf (yah ?_))))
  obtain rfl:=osi h
  exact zq rfl ⟨rfl,rfl⟩
 refine yaa ?_
 refine yac [0,0] (rg 11 8) [(10,pB ((decide (p0.Price<1))||(decide (1000000000000<p0.Price))))] fo0 (by kernel_rfl) (yab (zif rfl h (fun hc4 h=>?_) fun hc4 h=>?_))
 ·refine yaa ?_
  refine yac [] [] [(2,pI 2)] fo0 (by kernel_rfl) (yab (yai (yaf (yah ?_))))
  obtain rfl:=osi h
  exact zq rfl ⟨rfl,rfl⟩
 refine yaa ?_
 refine yad h fun x5 hx5 h=>yac [0] [20,21,22,23] [(19,pB (!x5))] (yfg 2 (yig hx5) fo0) (by kernel_rfl) (yab (zif rfl h (fun hc6 h=>?_) fun hc6 h=>?_))
 ·refine yaa ?_
  refine yac [] [] [(2,pI 1)] fo0 (by kernel_rfl) (yab (yai (yaf (yah ?_))))
  obtain rfl:=osi h
  exact zq rfl ⟨rfl,rfl⟩
 refine yaa ?_
 refine yac [0] [25,26,27,28] [(24,pB (decide (100<(p0.Inputs.length:Int))))] fo0 (by kernel_rfl) (yab (zif rfl h (fun hc7 h=>?_) fun hc7 h=>?_))
 ·refine yaa ?_
  refine yac [] [] [(2,pI 8)] fo0 (by kernel_rfl) (yab (yai (yaf (yah ?_))))
  obtain rfl:=osi h
  exact zq rfl ⟨rfl,rfl⟩
 refine yag ?_
 refine yal (yab (yaa (yaa (yac [0] [29] [(30,pL Zk.enc p0.Inputs),(31,pI (p0.Inputs.length:Int)),(32,pI 0)] fo0 (by kernel_rfl) (yab (yad h fun q10 hq10 h=>?_))))))
 refine yav (Y:=(Unit)×(Unit)) (fun (_,_)=>[]) (fun (_,_)=>[]) (fun (_,_)=>q10=Sum.inl ()) ?_ ?_
 ·refine yak ?_
  refine yay (Y:=Unit) (S:=Int) _ hq10 (fun _ v8=>[(30,pL Zk.enc p0.Inputs),(31,pI (p0.Inputs.length:Int)),(32,pI v8)]) (fun _ v8=>[]) () (zh3 rfl rfl rfl) zsn ?_
  rintro _ v8 o τ hb9;(try dsimp only at hb9);dsimp only [pupds]
  refine yaa (yac [] [] [(33,pB (decide (v8<(p0.Inputs.length:Int))))] fo0 (by kernel_rfl) (yab (yaa (zif rfl hb9 (fun hc11 hb9=>?_) fun hc11 hb9=>?_))))
  ·refine yag ?_
   refine yab (yaa (yak (yaa (yad hb9 fun m12 hm12 hb9=>yae (yaj 2 [] [34] [(35,.agg [pS m12.Code,pI m12.Value,pB m12.Originating])] (ymr 0 Zk.enc hm12 fo0) (by kernel_rfl) (yat rfl rfl rfl (ybg (cs:=[pS ByteArray.empty,pI 0,pB false]) rfl rfl rfl rfl (fun b13=>ybq rfl rfl (yaq (vs:=[pS m12.Code,pI m12.Value,pB m12.Originating]) rfl rfl rfl rfl rfl zuh (zl3) (yau (yab (yaa (yaa (yad hb9 fun x14 hx14 hb9=>yac [0] [36,37,38] [(39,pB (!x14))] (yfg 2 (ynh hx14) fo0) (by kernel_rfl) (yab (zif rfl hb9 (fun hc15 hb9=>?_) fun hc15 hb9=>?_))))))))))))))))
   ·refine yaa ?_
    refine yac [] [] [(2,pI 1)] fo0 (by kernel_rfl) (yab (yai (yah (yaf (yah ?_)))))
    refine yba hb9 (fun ht=>?_);subst ht
    refine yaf (ybb ?_)
    obtain rfl:=osi h
    exact zq rfl ⟨rfl,rfl⟩
   refine yag ?_
   refine yab (yaa (yac [0,0] (rg 40 7) [(47,pB ((decide (m12.Value<0))||(decide (1000000000000<m12.Value))))] fo0 (by kernel_rfl) (yab (zif rfl hb9 (fun hc16 hb9=>?_) fun hc16 hb9=>?_))))
   ·refine yaa ?_
    refine yac [] [] [(2,pI 2)] fo0 (by kernel_rfl) (yab (yai (yaf (yah ?_))))
    refine yba hb9 (fun ht=>?_);subst ht
    refine yaf (ybb ?_)
    obtain rfl:=osi h
    exact zq rfl ⟨rfl,rfl⟩
   refine yag ?_
   refine yal (yab (yac [] [48] [(32,pI (IntKind.i64.wrap (v8+1)))] fo0 (by kernel_rfl) ?_))
   exact ybu hb9 () (zh3 rfl rfl rfl) zsn
  refine ybd ?_
  refine yap (yam hb9 (fun ht=>yao rfl ?_))
  exact yaz ((),()) zhn zsn ht.symm
 rintro ⟨_,_⟩ τ hz;(try dsimp only at hz);subst q10;(try dsimp only at h);dsimp only [pupds]
 refine yaa (yac [] [] [(2,pI 0)] fo0 (by kernel_rfl) (yab (yai ?_)))
 obtain rfl:=osi h
 exact zq rfl ⟨rfl,rfl⟩
def yja (p0:Zc) (p1:Zn):Option Bool:=Option.bind (yfq p0) (fun x3=>Option.bind (gd (x3 == 0) (ygk p1)) (fun x4=>some ((x3 == 0)&&(x4 == 0))))
theorem ysd {p0:Zc} {p1:Zn} {r:Bool}  (h:yja p0 p1=some r):PF 109 [.agg [pI p0.Kind,pI p0.Digits,pL eS p0.Except,pI p0.Tolerance,pI p0.Limit,pS p0.Name,pL Zc.enc p0.Args],.agg [pS p1.Code,pI p1.Price,pB p1.Obtained,pL eS p1.Processes,pL Zk.enc p1.Inputs]] (pB r):=by
 unfold yja at h
 refine ych ?_
 refine ybc Tryz.func109 fk109 rfl Tryz.ntmps109 Tryz.results109 rfl (yaa (yae (yat rfl rfl rfl (ycn (cs:=[pI p0.Kind,pI p0.Digits,pL eS p0.Except,pI p0.Tolerance,pI p0.Limit,pS p0.Name,pL Zc.enc p0.Args]) rfl rfl (fun b1=>yat rfl rfl rfl (ycn (cs:=[pS p1.Code,pI p1.Price,pB p1.Obtained,pL eS p1.Processes,pL Zk.enc p1.Inputs]) rfl rfl (fun b2=>yan [] [4] [] fo0 (by kernel_rfl) (yab (yaa (yad h fun x3 hx3 h=>yad h fun x4 hx4 h=>yac [1,0] (rg 5 8) [(4,pB ((x3 == 0)&&(x4 == 0)))] (yfg 1 (yic hx3) (ylk 5 (fun hc=>yqs (yoq hx4 hc)) fo0)) (by kernel_rfl) (yab (yai ?_))))))))))))
 obtain rfl:=osi h
 exact zq rfl ⟨rfl,rfl⟩
def yfy (p0:(List Zd)) (p1:(List Zb)) (p2:ByteArray) (p3:Za) (p4:(List Za)):Option (Zn×(List Za)):=Option.bind (ycm p0 p1 p2 p3) (fun x3=>cond (!x3) (some ((⟨ByteArray.empty,0,false,[],[]⟩:Zn),[])) (Option.bind (ydb p0 p3.Product) (fun x5=>Option.bind (yeg p1 p3.Agreement) (fun x7=>Option.bind (yeb p1 p3.Agreement x5.1.Country p2) (fun x9=>Option.bind (loopF (S:=Int×(List (Za×Bool))) (T:=((List (Za×Bool)))) (fun (v12,l13)=>cond (decide (v12<((p4.length:Nat):Int))) (Option.bind (idx p4 v12) (fun m19=>some (.inl ((IntKind.i64.wrap (v12+1)),(mset l13 m19 true))))) (some (.inr l13))) FUEL (0,([]:List (Za×Bool)))) (fun l15=>Option.bind (yex p0 x7.1 x5.1 (⟨x9,l15⟩:Zr)) (fun x21=>Option.bind (loopF (S:=(List Za)×Int×(List Zk)) (T:=((List Za)×(List Zk))) (fun (l24,v27,l29)=>cond (decide (v27<(x21.1.length:Int))) (Option.bind (Option.bind (idx x21.1 v27) (fun m56=>Option.bind (Icumulation_supply_input m56) (fun x57=>Option.bind (app 32 l29 [x57]) (fun l60=>cond (Ze.is_proved_ m56) (Option.bind (app 16 l24 [(((Ze.as_proved_ m56)).premise)]) (fun l68=>some (l68,l60))) (some (l24,l60)))))) (fun (l49,l54)=>some (.inl (l49,(IntKind.i64.wrap (v27+1)),l54)))) (some (.inr (l24,l29)))) FUEL (([]:List Za),0,([]:List Zk))) (fun (l35,l40)=>Option.bind (ybk l35) (fun x72=>Option.bind (ybo x72) (fun x73=>some ((⟨x5.1.Code,x5.1.Price,x5.1.Obtained,x21.2,l40⟩:Zn),x73)))))))))))
theorem yoj {p0:(List Zd)} {p1:(List Zb)} {p2:ByteArray} {p3:Za} {p4:(List Za)} {a_4:Option Addr}  {n_4:Nat}  {c_4:Nat} {r:(Zn×(List Za))}  (h:yfy p0 p1 p2 p3 p4=some r):PCall 37 [pL Zd.enc p0,pL Zb.enc p1,pS p2,.agg [pI p3.Product,pI p3.Agreement],.v (.slice a_4 n_4 c_4)] [PRes.row a_4 n_4 c_4 54 2 (List.map Za.enc p4)] (fun pv ρ'=>pv=.tup [.agg [pS r.1.Code,pI r.1.Price,pB r.1.Obtained,pL eS r.1.Processes,pL Zk.enc r.1.Inputs],pL Za.enc r.2]∧ρ'=[PRes.row a_4 n_4 c_4 54 2 (List.map Za.enc p4)]):=by
 unfold yfy at h
 refine ybc Tryz.func37 fk37 rfl Tryz.ntmps37 Tryz.results37 rfl ?_
 refine ylj (enc:=Za.enc) (xs:=p4) (a:=a_4) zm0 (fun hl ha=>?_);subst hl;clear ha
 refine yaa (yae (yat rfl rfl rfl (ycn (cs:=[pI p3.Product,pI p3.Agreement]) rfl rfl (fun b1=>yat rfl rfl rfl (ybg (cs:=[pS ByteArray.empty,pI 0,pB false,pN,pN]) rfl rfl rfl rfl (fun b2=>yan [] [11] [] fo0 (by kernel_rfl) (yab (yaa (yaa (yad h fun x3 hx3 h=>yac [1] (rg 27 5) [(32,pB (!x3))] (yfg 4 (yil hx3) fo0) (by kernel_rfl) (yab (zif rfl h (fun hc4 h=>?_) fun hc4 h=>?_))))))))))))
 ·refine yaa ?_
  refine yae (yaj 1 [] [] [(33,.agg [pS ByteArray.empty,pI 0,pB false,pN,pN])] fo0 (by kernel_rfl) (ybq rfl rfl (yaq (vs:=[pS ByteArray.empty,pI 0,pB false,pN,pN]) rfl rfl rfl rfl rfl zuh (zl5) (yan [] [] [(11,pN)] fo0 (by kernel_rfl) (yab (ygr (k:=3) (b:=b2) rfl zuh (ygr (k:=4) (b:=b2) rfl zuh (ynw 11 rfl (yai (yah ?_))))))))))
  obtain rfl:=osi h
  exact ybh (yid (yjr rfl zm0 rfl) (ybn rfl)) (zsc (zpt (zpt zph)) zsn) ⟨rfl,rfl⟩
 refine yag ?_
 refine yab (yaa (yad h fun x5 hx5 h=>yae (yaj 7 [1] [35,36,37,38,34] [(39,.agg [pI x5.1.ID,pS x5.1.Code,pS x5.1.Country,pI x5.1.Price,pB x5.1.Obtained,pL eS x5.1.Processes,pL Zf.enc x5.1.Inputs]),(40,pB x5.2)] (yfg 3 (yha hx5) fo0) (by kernel_rfl) (yat rfl rfl rfl (ybg (cs:=[pI 0,pS ByteArray.empty,pS ByteArray.empty,pI 0,pB false,pN,pN]) rfl rfl rfl rfl (fun b6=>ybq rfl rfl (yaq (vs:=[pI x5.1.ID,pS x5.1.Code,pS x5.1.Country,pI x5.1.Price,pB x5.1.Obtained,pL eS x5.1.Processes,pL Zf.enc x5.1.Inputs]) rfl rfl rfl rfl rfl zuh (zl7) (yan [] [13] [] fo0 (by kernel_rfl) (yab (yaa (yad h fun x7 hx7 h=>yae (yaj 7 [2] [42,43,44,45,41] [(46,.agg [pI x7.1.ID,pI x7.1.Kind,pL eS x7.1.Parties,pL Zi.enc x7.1.Rules]),(47,pB x7.2)] (yfg 3 (yiw hx7) fo0) (by kernel_rfl) (yat rfl rfl rfl (ybg (cs:=[pI 0,pI 0,pN,pN]) rfl rfl rfl rfl (fun b8=>ybq rfl rfl (yaq (vs:=[pI x7.1.ID,pI x7.1.Kind,pL eS x7.1.Parties,pL Zi.enc x7.1.Rules]) rfl rfl rfl rfl rfl zuh (zl4) (yan [] [15] [] fo0 (by kernel_rfl) (yab (yaa (yad h fun x9 hx9 h=>yae (yaj 7 [3,1] (rg 48 6) [(54,pL eI x9)] (yfg 6 (yox hx9) fo0) (by kernel_rfl) (yat rfl rfl rfl (xef Za.key vT rfl (fun b10=>yaj 1 [] [] [(56,.agg [pL eI x9,.v (.map (some b10))])] fo0 (by kernel_rfl) (yat rfl rfl rfl (ybg (cs:=[pN,.v (.map none)]) rfl rfl rfl rfl (fun b11=>ybq rfl rfl (yaq (vs:=[pL eI x9,.v (.map (some b10))]) rfl rfl rfl rfl rfl zuh (zl2) (yau (yab (yaa (yaa (yac [] [] [(57,pO a_4 p4.length c_4),(58,pI ((p4.length:Nat):Int)),(59,pI 0)] fo0 (by kernel_rfl) (yab (yad h fun q17 hq17 h=>?_)))))))))))))))))))))))))))))))))))
 refine yav (Y:=(Unit)×((List (Za×Bool)))) (fun (_,l15)=>[(0,pL Zd.enc p0),(10,pP b2 0),(12,pP b6 0),(14,pP b8 0),(16,pP b11 0)]) (fun (_,l15)=>[PRes.mp (some b10) (menc Za.key vT l15),PRes.b b11 130 [pL eI x9,.v (.map (some b10))],PRes.b b2 73 [pS ByteArray.empty,pI 0,pB false,pN,pN],PRes.b b6 46 [pI x5.1.ID,pS x5.1.Code,pS x5.1.Country,pI x5.1.Price,pB x5.1.Obtained,pL eS x5.1.Processes,pL Zf.enc x5.1.Inputs],PRes.b b8 52 [pI x7.1.ID,pI x7.1.Kind,pL eS x7.1.Parties,pL Zi.enc x7.1.Rules],PRes.row a_4 p4.length c_4 54 2 (List.map Za.enc p4)]) (fun (_,l15)=>q17=l15) ?_ ?_
 ·refine yak ?_
  refine yay (Y:=Unit) (S:=Int×(List (Za×Bool))) _ hq17 (fun _ (v12,l13)=>[(0,pL Zd.enc p0),(10,pP b2 0),(12,pP b6 0),(14,pP b8 0),(16,pP b11 0),(57,pO a_4 p4.length c_4),(58,pI ((p4.length:Nat):Int)),(59,pI v12)]) (fun _ (v12,l13)=>[PRes.mp (some b10) (menc Za.key vT l13),PRes.b b11 130 [pL eI x9,.v (.map (some b10))],PRes.b b2 73 [pS ByteArray.empty,pI 0,pB false,pN,pN],PRes.b b6 46 [pI x5.1.ID,pS x5.1.Code,pS x5.1.Country,pI x5.1.Price,pB x5.1.Obtained,pL eS x5.1.Processes,pL Zf.enc x5.1.Inputs],PRes.b b8 52 [pI x7.1.ID,pI x7.1.Kind,pL eS x7.1.Parties,pL Zi.enc x7.1.Rules],PRes.row a_4 p4.length c_4 54 2 (List.map Za.enc p4)]) () (zh8 rfl rfl rfl rfl rfl rfl rfl rfl) (zsc (zpt zph) (zsc zph (zsc (zpt (zpt zph)) (zsc (zpt zph) (zsc zph (zsc (zpt zph) zsn)))))) ?_
  rintro _ ⟨v12,l13⟩ o τ hb16;(try dsimp only at hb16);dsimp only [pupds]
  refine yaa (yac [] [] [(60,pB (decide (v12<((p4.length:Nat):Int))))] fo0 (by kernel_rfl) (yab (yaa (zif rfl hb16 (fun hc18 hb16=>?_) fun hc18 hb16=>?_))))
  ·refine yag ?_
   refine yab (yaa (yak (yaa (yad hb16 fun m19 hm19 hb16=>yae (ycz rfl rfl rfl (ygb (enc:=Za.enc) (xs:=p4) rfl rfl rfl (.p rfl) zm5 (.p rfl) (fun _=>hm19)) (ycz rfl rfl rfl (ydr (sz:=2) (p:=.agg [pI m19.Product,pI m19.Agreement]) (enc:=Za.enc) (xs:=p4) (a:=a_4) v12 0 m19 rfl (.p rfl) rfl zm5 (fun _=>hm19) rfl) (yat rfl rfl rfl (ybg (cs:=[pI 0,pI 0]) rfl rfl rfl rfl (fun b20=>ybq rfl rfl (yaq (vs:=[pI m19.Product,pI m19.Agreement]) rfl rfl rfl rfl rfl zuh (zl2) (yau (yab (yae (yaj 3 [2,0] [63] [(64,.v (.map (some b10))),(65,.agg [pI m19.Product,pI m19.Agreement])] fo0 (by kernel_rfl) (ybq rfl rfl (xbl (xs:=l13) (k:=m19) (ek:=Za.key) (vv:=vT) (v:=true) rfl rfl Za.kenc54 rfl rfl kP_key rfl (zut zuh) (yau (yal (yab (yac [] [66] [(59,pI (IntKind.i64.wrap (v12+1)))] fo0 (by kernel_rfl) ?_))))))))))))))))))))
   exact ybu hb16 () (zh8 rfl rfl rfl rfl rfl rfl rfl rfl) (zsc (zpt zph) (zsc (zpt zph) (zsc (zpt zph) (zsc (zpt zph) (zsc (zpt zph) (zsc (zpt zph) zsn))))))
  refine ybd ?_
  refine yap (yam hb16 (fun ht=>yao rfl ?_))
  exact yaz ((),l13) (zh5 rfl rfl rfl rfl rfl) (zs6) ht.symm
 rintro ⟨_,l15⟩ τ hz;(try dsimp only at hz);subst q17;(try dsimp only at h);dsimp only [pupds]
 refine yaa (yad h fun x21 hx21 h=>yae (yaj 4 [4,3,1] [] [(68,pL Zd.enc p0),(69,.agg [pI x7.1.ID,pI x7.1.Kind,pL eS x7.1.Parties,pL Zi.enc x7.1.Rules]),(70,.agg [pI x5.1.ID,pS x5.1.Code,pS x5.1.Country,pI x5.1.Price,pB x5.1.Obtained,pL eS x5.1.Processes,pL Zf.enc x5.1.Inputs]),(71,.agg [pL eI x9,.v (.map (some b10))])] fo0 (by kernel_rfl) ?_))
 refine yat rfl rfl rfl (ybj rfl rfl (ρ1:=[_]) (yaw (by exact zph) (List.Perm.refl _)) (yqr hx21) ?_);rintro _ _ ⟨rfl,rfl⟩
 refine yan [] [67,73,74] [(19,pL Ze.enc x21.1),(20,pL eS x21.2)] fo0 (by kernel_rfl) (yab (yaa (yae (yaj 8 [3,3,3] (rg 75 7) [(82,.agg [pS x5.1.Code,pI x5.1.Price,pB x5.1.Obtained,pL eS x21.2,pN])] fo0 (by kernel_rfl) (yat rfl rfl rfl (ybg (cs:=[pS ByteArray.empty,pI 0,pB false,pN,pN]) rfl rfl rfl rfl (fun b22=>ybq rfl rfl (yaq (vs:=[pS x5.1.Code,pI x5.1.Price,pB x5.1.Obtained,pL eS x21.2,pN]) rfl rfl rfl rfl rfl zuh (zl5) (yau (yab (yaa (yac [] [] [(22,pN)] fo0 (by kernel_rfl) (yab (yaa (yaa (yac [] [] [(83,pL Ze.enc x21.1),(84,pI (x21.1.length:Int)),(85,pI 0)] fo0 (by kernel_rfl) (yab (ycr 54 2 (ycr 137 3 (yad h fun q42 hq42 h=>?_))))))))))))))))))))
 refine yav (Y:=(Option Addr×Nat×Option Addr×Nat)×((List Za)×(List Zk))) (fun ((a33,c34,a38,c39),(l35,l40))=>[(10,pP b2 0),(21,pP b22 0),(22,pO a33 l35.length c34)]) (fun ((a33,c34,a38,c39),(l35,l40))=>[PRes.b b2 73 [pS ByteArray.empty,pI 0,pB false,pN,pN],PRes.b b22 73 [pS x5.1.Code,pI x5.1.Price,pB x5.1.Obtained,pL eS x21.2,pO a38 l40.length c39],PRes.row a33 l35.length c34 54 2 (List.map Za.enc l35),PRes.row a_4 p4.length c_4 54 2 (List.map Za.enc p4),PRes.row a38 l40.length c39 137 3 (List.map Zk.enc l40)]) (fun ((a33,c34,a38,c39),(l35,l40))=>q42=(l35,l40)) ?_ ?_
 ·refine yak ?_
  refine yay (Y:=Option Addr×Nat×Option Addr×Nat) (S:=(List Za)×Int×(List Zk)) _ hq42 (fun (a25,c26,a30,c31) (l24,v27,l29)=>[(10,pP b2 0),(21,pP b22 0),(22,pO a25 l24.length c26),(83,pL Ze.enc x21.1),(84,pI (x21.1.length:Int)),(85,pI v27)]) (fun (a25,c26,a30,c31) (l24,v27,l29)=>[PRes.b b2 73 [pS ByteArray.empty,pI 0,pB false,pN,pN],PRes.b b22 73 [pS x5.1.Code,pI x5.1.Price,pB x5.1.Obtained,pL eS x21.2,pO a30 l29.length c31],PRes.row a_4 p4.length c_4 54 2 (List.map Za.enc p4),PRes.row a25 l24.length c26 54 2 (List.map Za.enc l24),PRes.row a30 l29.length c31 137 3 (List.map Zk.enc l29)]) (none,0,none,0) (zh6 rfl rfl rfl rfl rfl rfl) (zsc (zpt (zpt (zpt (zpt (zpt zph))))) (zsc (zpt (zpt zph)) (zsc (zpt (zpt (zpt (zpt (zpt (zpt zph)))))) (zsc (zpt zph) (zs1))))) ?_
  rintro ⟨a25,c26,a30,c31⟩ ⟨l24,v27,l29⟩ o τ hb41;(try dsimp only at hb41);dsimp only [pupds]
  refine yaa (yac [] [] [(86,pB (decide (v27<(x21.1.length:Int))))] fo0 (by kernel_rfl) (yab (yaa (zif rfl hb41 (fun hc45 hb41=>?_) fun hc45 hb41=>?_))))
  ·refine yag ?_
   refine yab (yaa (yad hb41 fun q55 hq55 hb41=>?_))
   refine yav (Y:=(Option Addr×Nat×Option Addr×Nat)×((List Za)×(List Zk))) (fun ((a47,c48,a52,c53),(l49,l54))=>[(10,pP b2 0),(21,pP b22 0),(22,pO a47 l49.length c48),(83,pL Ze.enc x21.1),(84,pI (x21.1.length:Int)),(85,pI v27)]) (fun ((a47,c48,a52,c53),(l49,l54))=>[PRes.b b2 73 [pS ByteArray.empty,pI 0,pB false,pN,pN],PRes.b b22 73 [pS x5.1.Code,pI x5.1.Price,pB x5.1.Obtained,pL eS x21.2,pO a52 l54.length c53],PRes.row a47 l49.length c48 54 2 (List.map Za.enc l49),PRes.row a_4 p4.length c_4 54 2 (List.map Za.enc p4),PRes.row a52 l54.length c53 137 3 (List.map Zk.enc l54)]) (fun ((a47,c48,a52,c53),(l49,l54))=>q55=(l49,l54)) ?_ ?_
   ·skip
    refine yak (yaa (yad hq55 fun m56 hm56 hq55=>yac [] [87,88] [(24,Ze.pv m56)] (ymr 0 Ze.enc hm56 fo0) (by kernel_rfl) (yab (yaa (yad hq55 fun x57 hx57 hq55=>yad hq55 fun l60 hl60 hq55=>?_)))))
    refine yav (Y:=Option Addr×Nat) (fun (a61,c62)=>[(10,pP b2 0),(21,pP b22 0),(22,pO a25 l24.length c26),(24,Ze.pv m56),(83,pL Ze.enc x21.1),(84,pI (x21.1.length:Int)),(85,pI v27)]) (fun (a61,c62)=>[PRes.b b2 73 [pS ByteArray.empty,pI 0,pB false,pN,pN],PRes.b b22 73 [pS x5.1.Code,pI x5.1.Price,pB x5.1.Obtained,pL eS x21.2,pO a61 l60.length c62],PRes.row a_4 p4.length c_4 54 2 (List.map Za.enc p4),PRes.row a25 l24.length c26 54 2 (List.map Za.enc l24),PRes.row a61 l60.length c62 137 3 (List.map Zk.enc l60)]) (fun _=>True) ?_ ?_
    ·refine ymt (ρd:=[PRes.row a30 _ _ _ _ _,PRes.b b22 _ _]) _ (yaw (zpt (zpt (zpt (zpt zph)))) (yaw (zpt zph) (List.Perm.refl _))) ?_
     refine yde 0 (by kernel_rfl) rfl rfl rfl rfl (ybx rfl rfl rfl rfl rfl (.p rfl)) (yde 2 (by kernel_rfl) rfl rfl rfl rfl (yfr (p:=Ze.pv m56) rfl (.p rfl)) ?_)
     refine yje 1 3 (by kernel_rfl) ?_ ?_
     ·skip
      refine ybi rfl rfl rfl rfl (xal (ydd (p:=pO a30 l29.length c31) rfl (.p rfl) zm1 rfl) (ybm 3 (by kernel_rfl) (ybi rfl rfl rfl rfl (xbf rfl rfl (Icumulation_supply_input_ok hx57) (ybm 4 (by kernel_rfl) (ybi rfl rfl rfl rfl (ycg rfl rfl rfl rfl rfl (zic rfl zin) rfl rfl rfl rfl (fun b58=>ybm 5 (by kernel_rfl) ?_))))))))
      refine ybi rfl rfl rfl rfl (yci (enc:=Zk.enc) rfl rfl rfl rfl rfl rfl rfl rfl rfl zm0 (by exact zpt zph) hl60 (fun a61 c62=>?_))
      refine yde 6 (by kernel_rfl) rfl rfl rfl rfl (ybx rfl rfl rfl rfl rfl (.p rfl)) (ybm 7 (by kernel_rfl) (yfx rfl rfl rfl (yaq (vs:=[pO a61 l60.length c62]) rfl rfl rfl rfl rfl (zut (zut zuh)) (zlt (zlt (zlt (zlt (zl1))))) (yeu (by kernel_rfl) ?_))))
      exact yaz (a61,c62) (zh7 rfl rfl rfl rfl rfl rfl rfl) (zsc (zpt (zpt (zpt zph))) (zsc (zpt (zpt zph)) (zsc (zpt (zpt zph)) (zsc (zpt (zpt zph)) (zs1))))) trivial
     skip
     refine ybi rfl rfl rfl rfl (xbf rfl rfl (Icumulation_supply_input_ok hx57) ?_)
     refine yje 1 4 (by kernel_rfl) ?_ ?_
     ·skip
      refine ybi rfl rfl rfl rfl (xal (ydd (p:=pO a30 l29.length c31) rfl (.p rfl) zm1 rfl) (ybm 4 (by kernel_rfl) (ybi rfl rfl rfl rfl (ycg rfl rfl rfl rfl rfl (zic rfl zin) rfl rfl rfl rfl (fun b58=>ybm 5 (by kernel_rfl) ?_)))))
      refine ybi rfl rfl rfl rfl (yci (enc:=Zk.enc) rfl rfl rfl rfl rfl rfl rfl rfl rfl zm0 (by exact zpt zph) hl60 (fun a61 c62=>?_))
      refine yde 6 (by kernel_rfl) rfl rfl rfl rfl (ybx rfl rfl rfl rfl rfl (.p rfl)) (ybm 7 (by kernel_rfl) (yfx rfl rfl rfl (yaq (vs:=[pO a61 l60.length c62]) rfl rfl rfl rfl rfl (zut (zut zuh)) (zlt (zlt (zlt (zlt (zl1))))) (yeu (by kernel_rfl) ?_))))
      exact yaz (a61,c62) (zh7 rfl rfl rfl rfl rfl rfl rfl) (zsc (zpt (zpt (zpt zph))) (zsc (zpt (zpt zph)) (zsc (zpt (zpt zph)) (zsc (zpt (zpt zph)) (zs1))))) trivial
     skip
     refine ybi rfl rfl rfl rfl (ycg rfl rfl rfl rfl rfl (zic rfl zin) rfl rfl rfl rfl (fun b58=>ybm 1 (by kernel_rfl) (ybi rfl rfl rfl rfl (xal (ydd (p:=pO a30 l29.length c31) rfl (.p rfl) zm2 rfl) (ybm 5 (by kernel_rfl) ?_)))))
     refine ybi rfl rfl rfl rfl (yci (enc:=Zk.enc) rfl rfl rfl rfl rfl rfl rfl rfl rfl zm0 (by exact zpt zph) hl60 (fun a61 c62=>?_))
     refine yde 6 (by kernel_rfl) rfl rfl rfl rfl (ybx rfl rfl rfl rfl rfl (.p rfl)) (ybm 7 (by kernel_rfl) (yfx rfl rfl rfl (yaq (vs:=[pO a61 l60.length c62]) rfl rfl rfl rfl rfl (zut (zut zuh)) (zlt (zlt (zlt (zlt (zl1))))) (yeu (by kernel_rfl) ?_))))
     exact yaz (a61,c62) (zh7 rfl rfl rfl rfl rfl rfl rfl) (zsc (zpt (zpt (zpt zph))) (zsc (zpt (zpt zph)) (zsc (zpt (zpt zph)) (zsc (zpt (zpt zph)) (zs1))))) trivial
    rintro ⟨a61,c62⟩ τ _;dsimp only [pupds]
    refine yaa (yae (yaj 5 [] [97,98,96] [(99,.agg [pS ((((Ze.as_proved_ m56)).use).Code),pI ((((Ze.as_proved_ m56)).use).Value),pB ((((Ze.as_proved_ m56)).use).Originating),pI ((((Ze.as_proved_ m56)).premise).Product),pI ((((Ze.as_proved_ m56)).premise).Agreement)]),(100,pB (Ze.is_proved_ m56))] (fota 1 (Ze.ta_proved_ m56) fo0) (by kernel_rfl) (yat rfl rfl rfl (ybg (cs:=[pS ByteArray.empty,pI 0,pB false,pI 0,pI 0]) rfl rfl rfl rfl (fun b64=>ybq rfl rfl (yaq (vs:=[pS ((((Ze.as_proved_ m56)).use).Code),pI ((((Ze.as_proved_ m56)).use).Value),pB ((((Ze.as_proved_ m56)).use).Originating),pI ((((Ze.as_proved_ m56)).premise).Product),pI ((((Ze.as_proved_ m56)).premise).Agreement)]) rfl rfl rfl rfl rfl zuh (zl5) (yan [] [] [(26,pB (Ze.is_proved_ m56))] fo0 (by kernel_rfl) (yab (yaa (yac [] [] [(101,pB (Ze.is_proved_ m56))] fo0 (by kernel_rfl) (yab (zif rfl hq55 (fun hc65 hq55=>?_) fun hc65 hq55=>?_))))))))))))
    ·refine yae ?_
     refine yaj 3 [0] [103] [(102,pO a25 l24.length c26),(104,.agg [pI ((((Ze.as_proved_ m56)).premise).Product),pI ((((Ze.as_proved_ m56)).premise).Agreement)])] fo0 (by kernel_rfl) (yat rfl rfl rfl (ycg rfl rfl rfl rfl rfl (zic rfl zin) rfl rfl rfl rfl (fun b66=>yad hq55 fun l68 hl68 hq55=>?_)))
     refine yat rfl rfl rfl (yci (enc:=Za.enc) rfl rfl rfl rfl rfl rfl rfl rfl rfl zm0 (by exact zpt (zpt (zpt (zpt (zpt zph))))) hl68 (fun a69 c70=>?_))
     refine yan [] [] [(22,pO a69 l68.length c70)] fo0 (by kernel_rfl) (yal ?_)
     obtain rfl:=osi hq55
     exact yaz ((a69,c70,a61,c62),(l68,l60)) (zh6 rfl rfl rfl rfl rfl rfl) (zsc (zpt (zpt (zpt zph))) (zsc (zpt (zpt (zpt zph))) (zsc zph (zsc (zpt (zpt zph)) (zsc (zpt (zpt zph)) zsn))))) rfl
    refine yag ?_
    refine yal ?_
    obtain rfl:=osi hq55
    exact yaz ((a25,c26,a61,c62),(l24,l60)) (zh6 rfl rfl rfl rfl rfl rfl) (zsc (zpt zph) (zsc (zpt zph) (zsc (zpt (zpt zph)) (zsc (zpt zph) (zsc (zpt zph) zsn))))) rfl
   rintro ⟨⟨a47,c48,a52,c53⟩,⟨l49,l54⟩⟩ τ hz;(try dsimp only at hz);subst q55;(try dsimp only at hb41);dsimp only [pupds]
   refine yac [] [107] [(85,pI (IntKind.i64.wrap (v27+1)))] fo0 (by kernel_rfl) ?_
   exact ybu hb41 (a47,c48,a52,c53) (zh6 rfl rfl rfl rfl rfl rfl) (zsc zph (zsc zph (zsc (zpt zph) (zs2))))
  refine ybd ?_
  refine yap (yam hb41 (fun ht=>yao rfl ?_))
  exact yaz ((a25,c26,a30,c31),(l24,l29)) (zh3 rfl rfl rfl) (zsc zph (zsc zph (zsc (zpt zph) (zs2)))) ht.symm
 rintro ⟨⟨a33,c34,a38,c39⟩,⟨l35,l40⟩⟩ τ hz;(try dsimp only at hz);subst q42;(try dsimp only at h);dsimp only [pupds]
 refine yaa (yad h fun x72 hx72 h=>yae (yaj 1 [] [] [(108,pO a33 l35.length c34)] fo0 (by kernel_rfl) ?_))
 refine yat rfl rfl rfl (ybj rfl rfl (ρ1:=[_]) (yaw (by exact zpt (zpt zph)) (List.Perm.refl _)) (ycv hx72) ?_);rintro _ _ ⟨rfl,rfl⟩
 refine yau (yab (yaa ?_))
 refine xdv (css:=List.map Zk.enc l40) (a:=a38) (by exact zpt (zpt (zpt (zpt zph)))) ?_
 refine xay (k:=4) (enc:=Zk.enc) (xs:=l40) (b:=b22) (a:=a38) rfl zm0 (zut (zut (zut zuh))) (yei (ρd:=[PRes.row a33 _ _ _ _ _,PRes.b b2 _ _]) [(0,0),(1,0),(2,1),(3,1),(4,0)] _ (yaw (zpt zph) (yaw (zpt zph) (List.Perm.refl _))) (by kernel_rfl) rfl (yad h fun x73 hx73 h=>ycq 2 [1] [] [(110,.agg [pS x5.1.Code,pI x5.1.Price,pB x5.1.Obtained,pL eS x21.2,pL Zk.enc l40]),(111,pO a33 l35.length c34)] fo0 (by kernel_rfl) ?_))
 refine yuu rfl rfl rfl (ybj rfl rfl (ρ1:=[_]) (yaw (by exact zph) (List.Perm.refl _)) (yff hx73) ?_);rintro _ _ ⟨a74,c75,rfl,rfl⟩
 refine pwd_l0 rfl rfl (yaq (vs:=[pS x5.1.Code,pI x5.1.Price,pB x5.1.Obtained,pL eS x21.2,pL Zk.enc l40]) rfl rfl rfl rfl rfl (zut zuh) (zl5) (ycq 1 [] [] [(11,pO a74 x73.length c75)] fo0 (by kernel_rfl) (ygc (yab ?_))))
 refine yhl (enc:=Za.enc) (xs:=x73) 11 rfl (by exact zph) ?_
 refine yai ?_
 obtain rfl:=osi h
 exact ybh (yid (yjr rfl zm1 rfl) (ybn rfl)) (zsc (zpt (zpt (zpt (zpt zph)))) zsn) ⟨rfl,rfl⟩
def ykd (p0:Zc) (p1:Zn):Option ((List Int)×Bool):=Option.bind (yja p0 p1) (fun x3=>cond (!x3) (some ([],false)) (Option.bind (yvl p0) (fun x5=>Option.bind (Irule_test_witness x5 p1) (fun x6=>some (x6.1,x6.2)))))
theorem yvw {p0:Zc} {p1:Zn} {r:((List Int)×Bool)}  (h:ykd p0 p1=some r):PF 66 [.agg [pI p0.Kind,pI p0.Digits,pL eS p0.Except,pI p0.Tolerance,pI p0.Limit,pS p0.Name,pL Zc.enc p0.Args],.agg [pS p1.Code,pI p1.Price,pB p1.Obtained,pL eS p1.Processes,pL Zk.enc p1.Inputs]] (.tup [pL eI r.1,pB r.2]):=by
 unfold ykd at h
 refine ych ?_
 refine ybc Tryz.func66 fk66 rfl Tryz.ntmps66 Tryz.results66 rfl (yaa (yae (yat rfl rfl rfl (ycn (cs:=[pI p0.Kind,pI p0.Digits,pL eS p0.Except,pI p0.Tolerance,pI p0.Limit,pS p0.Name,pL Zc.enc p0.Args]) rfl rfl (fun b1=>yat rfl rfl rfl (ycn (cs:=[pS p1.Code,pI p1.Price,pB p1.Obtained,pL eS p1.Processes,pL Zk.enc p1.Inputs]) rfl rfl (fun b2=>yan [] [4,5] [] fo0 (by kernel_rfl) (yab (yaa (yaa (yad h fun x3 hx3 h=>yac [1,0] [6,7,8] [(9,pB (!x3))] (yfg 2 (ysd hx3) fo0) (by kernel_rfl) (yab (zif rfl h (fun hc4 h=>?_) fun hc4 h=>?_)))))))))))))
 ·refine yaa ?_
  refine yac [] [] [(4,pN),(5,pB false)] fo0 (by kernel_rfl) (yab (ynw 4 rfl (yai (yah ?_))))
  obtain rfl:=osi h
  exact ybh (yid (ybn rfl) (ybn rfl)) zsn ⟨rfl,rfl⟩
 refine yag ?_
 refine yab (yaa (yei (ρd:=[]) [(0,0),(2,0),(1,1),(3,1),(4,0),(5,0),(6,0),(7,0)] _ (List.Perm.refl _) (by kernel_rfl) rfl (yad h fun x5 hx5 h=>yad h fun x6 hx6 h=>ycq 8 [1,0] [10,12,11,13,14,15] [(4,pL eI x6.1),(5,pB x6.2)] (yfg 2 (yxb hx5) (foci 3 (Irule_test_witness_ok hx6) fo0)) (by kernel_rfl) (ygc (yab (yai ?_))))))
 obtain rfl:=osi h
 exact ybh (yid (ybn rfl) (ybn rfl)) zsn ⟨rfl,rfl⟩
def yfv (p0:Zj) (p1:(List Zd)) (p2:(List Zb)) (p3:ByteArray) (p4:(List Za)) (p5:(List Zg)):Option (Bool×(List Za)×(List Zg)):=Option.bind (yfy p1 p2 p3 p0.claim p4) (fun x2=>Option.bind (ykd p0.rule x2.1) (fun x4=>Option.bind (cond x4.2 (Option.bind (app 64 p5 [(⟨p0.claim,x4.1,x2.2⟩:Zg)]) (fun l14=>some l14)) (some p5)) (fun l9=>some (x4.2,p4,l9))))
theorem ysv {p0:Zj} {p1:(List Zd)} {p2:(List Zb)} {p3:ByteArray} {p4:(List Za)} {p5:(List Zg)} {b4:Nat}  {a_4:Option Addr}  {n_4:Nat}  {c_4:Nat}  {b5:Nat}  {a_5:Option Addr}  {n_5:Nat}  {c_5:Nat} {r:(Bool×(List Za)×(List Zg))}  (h:yfv p0 p1 p2 p3 p4 p5=some r):PCall 65 [.agg [pI p0.claim.Product,pI p0.claim.Agreement,pI p0.rule.Kind,pI p0.rule.Digits,pL eS p0.rule.Except,pI p0.rule.Tolerance,pI p0.rule.Limit,pS p0.rule.Name,pL Zc.enc p0.rule.Args],.ref [pL Zd.enc p1] 0,.ref [pL Zb.enc p2] 0,.ref [pS p3] 0,pP b4 0,pP b5 0] [PRes.b b4 57 [.v (.slice a_4 n_4 c_4)],PRes.row a_4 n_4 c_4 54 2 (List.map Za.enc p4),PRes.b b5 28 [.v (.slice a_5 n_5 c_5)],PRes.row a_5 n_5 c_5 59 4 (List.map Zg.enc p5)] (fun pv ρ'=>pv=pB r.1∧∃ (x0:Option Addr) (z0:Nat) (x1:Option Addr) (z1:Nat),ρ'=[PRes.b b4 57 [.v (.slice x0 (r.2.1).length z0)],PRes.row x0 (r.2.1).length z0 54 2 (List.map Za.enc r.2.1),PRes.b b5 28 [.v (.slice x1 (r.2.2).length z1)],PRes.row x1 (r.2.2).length z1 59 4 (List.map Zg.enc r.2.2)]):=by
 unfold yfv at h
 refine ybc Tryz.func65 fk65 rfl Tryz.ntmps65 Tryz.results65 rfl ?_
 refine ylj (enc:=Za.enc) (xs:=p4) (a:=a_4) zm1 (fun hl ha=>?_);subst hl;clear ha
 refine ylj (enc:=Zg.enc) (xs:=p5) (a:=a_5) zm3 (fun hl ha=>?_);subst hl;clear ha
 refine yaa (yae (yat rfl rfl rfl (ycn (cs:=[pI p0.claim.Product,pI p0.claim.Agreement,pI p0.rule.Kind,pI p0.rule.Digits,pL eS p0.rule.Except,pI p0.rule.Tolerance,pI p0.rule.Limit,pS p0.rule.Name,pL Zc.enc p0.rule.Args]) rfl rfl (fun b1=>yan [] [7] [] fo0 (by kernel_rfl) (yab (yaa (yad h fun x2 hx2 h=>yae (yaj 6 [0,1] [16] [(13,pL Zd.enc p1),(14,pL Zb.enc p2),(15,pS p3),(17,.agg [pI p0.claim.Product,pI p0.claim.Agreement]),(18,pO a_4 p4.length c_4)] fo0 (by kernel_rfl) ?_))))))))
 refine yat rfl rfl rfl (ybj rfl rfl (ρ1:=[_]) (yaw (by exact zpt (zpt zph)) (List.Perm.refl _)) (yoj hx2) ?_);rintro _ _ ⟨rfl,rfl⟩
 refine yaj 3 [] [12] [(20,.agg [pS x2.1.Code,pI x2.1.Price,pB x2.1.Obtained,pL eS x2.1.Processes,pL Zk.enc x2.1.Inputs]),(21,pL Za.enc x2.2)] fo0 (by kernel_rfl) (yat rfl rfl rfl (ybg (cs:=[pS ByteArray.empty,pI 0,pB false,pN,pN]) rfl rfl rfl rfl (fun b3=>ybq rfl rfl (yaq (vs:=[pS x2.1.Code,pI x2.1.Price,pB x2.1.Obtained,pL eS x2.1.Processes,pL Zk.enc x2.1.Inputs]) rfl rfl rfl rfl rfl zuh (zl5) (yan [] [] [(9,pL Za.enc x2.2)] fo0 (by kernel_rfl) (yab (yaa (yad h fun x4 hx4 h=>yac [2,0] [23,24,25,26,22,27,28] [(10,pL eI x4.1),(11,pB x4.2)] (yfg 3 (yvw hx4) fo0) (by kernel_rfl) (yab (yaa (yaa (yac [] [] [(29,pB x4.2)] fo0 (by kernel_rfl) (yab (yad h fun q10 hq10 h=>?_))))))))))))))
 refine yav (Y:=(Option Addr×Nat)×((List Zg))) (fun ((a7,c8),l9)=>[(11,pB x4.2)]) (fun ((a7,c8),l9)=>[PRes.b b4 57 [pO a_4 p4.length c_4],PRes.b b5 28 [pO a7 l9.length c8],PRes.row a_4 p4.length c_4 54 2 (List.map Za.enc p4),PRes.row a7 l9.length c8 59 4 (List.map Zg.enc l9)]) (fun ((a7,c8),l9)=>q10=l9) ?_ ?_
 ·skip
  refine zif rfl hq10 (fun hc11 hq10=>?_) fun hc11 hq10=>?_
  ·refine yae ?_
   refine yaj 6 [4,2] [31,32,33,34] [(30,pO a_5 p5.length c_5),(35,.agg [pI p0.claim.Product,pI p0.claim.Agreement,pL eI x4.1,pL Za.enc x2.2])] fo0 (by kernel_rfl) (yat rfl rfl rfl (ycg rfl rfl rfl rfl rfl (zic rfl zin) rfl rfl rfl rfl (fun b12=>yad hq10 fun l14 hl14 hq10=>?_)))
   refine yat rfl rfl rfl (yci (enc:=Zg.enc) rfl rfl rfl rfl rfl rfl rfl rfl rfl zm0 (by exact zpt (zpt (zpt (zpt (zpt (zpt zph)))))) hl14 (fun a15 c16=>?_))
   refine ybq rfl rfl (yaq (vs:=[pO a15 l14.length c16]) rfl rfl rfl rfl rfl (zut (zut (zut (zut (zut (zut zuh)))))) (zl1) (yau ?_))
   obtain rfl:=osi hq10
   exact yaz ((a15,c16),l14) (zh1 rfl) (zsc (zpt (zpt (zpt (zpt (zpt zph))))) (zsc (zpt (zpt (zpt (zpt (zpt zph))))) (zsc (zpt (zpt (zpt zph))) (zs1)))) rfl
  refine yag ?_
  obtain rfl:=osi hq10
  exact yaz ((a_5,c_5),p5) (zh1 rfl) (zsc (zpt (zpt (zpt zph))) (zsc (zpt (zpt (zpt zph))) (zsc (zpt zph) (zsc (zpt (zpt zph)) zsn)))) rfl
 rintro ⟨⟨a7,c8⟩,l9⟩ τ hz;(try dsimp only at hz);subst q10;(try dsimp only at h);dsimp only [pupds]
 refine yaa (yac [] [38] [(7,pB x4.2)] fo0 (by kernel_rfl) (yab (yai ?_)))
 obtain rfl:=osi h
 exact ybh (ygn (ybn rfl)) (zsc zph (zsc (zpt zph) (zs2))) ⟨rfl,_,_,_,_,rfl⟩
def yke (p0:(List Zd)) (p1:(List Zb)) (p2:ByteArray):Option (List Zj):=Option.bind (loopF (S:=(List Zj)×Int) (T:=((List Zj))) (fun (l2,v5)=>cond (decide (v5<(p0.length:Int))) (Option.bind (idx p0 v5) (fun m14=>Option.bind (loopF (S:=(List Zj)×Int) (T:=((List Zj))) (fun (l17,v20)=>cond (decide (v20<(p1.length:Int))) (Option.bind (Option.bind (idx p1 v20) (fun m33=>Option.bind (yea m33 m14.Code) (fun x36=>Option.bind (gd x36.2 (ycm p0 p1 p2 (⟨m14.ID,m33.ID⟩:Za))) (fun x38=>cond (x36.2&&x38) (Option.bind (app 112 l17 [(⟨(⟨m14.ID,m33.ID⟩:Za),x36.1⟩:Zj)]) (fun l42=>some l42)) (some l17))))) (fun l31=>some (.inl (l31,(IntKind.i64.wrap (v20+1)))))) (some (.inr l17))) FUEL (l2,0)) (fun l24=>some (.inl (l24,(IntKind.i64.wrap (v5+1))))))) (some (.inr l2))) FUEL (([]:List Zj),0)) (fun l9=>some l9)
theorem yvx {p0:(List Zd)} {p1:(List Zb)} {p2:ByteArray} {r:(List Zj)}  (h:yke p0 p1 p2=some r):PF 67 [pL Zd.enc p0,pL Zb.enc p1,pS p2] (pL Zj.enc r):=by
 unfold yke at h
 refine ych ?_
 refine ybc Tryz.func67 fk67 rfl Tryz.ntmps67 Tryz.results67 rfl (yaa (yac [] [6] [] fo0 (by kernel_rfl) (yab (yaa (yac [] [] [(7,pN)] fo0 (by kernel_rfl) (yab (yaa (yaa (yac [] [] [(15,pL Zd.enc p0),(16,pI (p0.length:Int)),(17,pI 0)] fo0 (by kernel_rfl) (yab (ycr 114 9 (yad h fun q11 hq11 h=>?_))))))))))))
 refine yav (Y:=(Option Addr×Nat)×((List Zj))) (fun ((a7,c8),l9)=>[(7,pO a7 l9.length c8)]) (fun ((a7,c8),l9)=>[PRes.row a7 l9.length c8 114 9 (List.map Zj.enc l9)]) (fun ((a7,c8),l9)=>q11=l9) ?_ ?_
 ·refine yak ?_
  refine yay (Y:=Option Addr×Nat) (S:=(List Zj)×Int) _ hq11 (fun (a3,c4) (l2,v5)=>[(0,pL Zd.enc p0),(1,pL Zb.enc p1),(2,pS p2),(7,pO a3 l2.length c4),(15,pL Zd.enc p0),(16,pI (p0.length:Int)),(17,pI v5)]) (fun (a3,c4) (l2,v5)=>[PRes.row a3 l2.length c4 114 9 (List.map Zj.enc l2)]) (none,0) (zh7 rfl rfl rfl rfl rfl rfl rfl) (zs1) ?_
  rintro ⟨a3,c4⟩ ⟨l2,v5⟩ o τ hb10;(try dsimp only at hb10);dsimp only [pupds]
  refine yaa (yac [] [] [(18,pB (decide (v5<(p0.length:Int))))] fo0 (by kernel_rfl) (yab (yaa (zif rfl hb10 (fun hc13 hb10=>?_) fun hc13 hb10=>?_))))
  ·refine yag ?_
   refine yab (yaa (yak (yaa (yad hb10 fun m14 hm14 hb10=>yae (yaj 2 [] [19] [(20,.agg [pI m14.ID,pS m14.Code,pS m14.Country,pI m14.Price,pB m14.Obtained,pL eS m14.Processes,pL Zf.enc m14.Inputs])] (ymr 0 Zd.enc hm14 fo0) (by kernel_rfl) (yat rfl rfl rfl (ybg (cs:=[pI 0,pS ByteArray.empty,pS ByteArray.empty,pI 0,pB false,pN,pN]) rfl rfl rfl rfl (fun b15=>ybq rfl rfl (yaq (vs:=[pI m14.ID,pS m14.Code,pS m14.Country,pI m14.Price,pB m14.Obtained,pL eS m14.Processes,pL Zf.enc m14.Inputs]) rfl rfl rfl rfl rfl zuh (zl7) (yau (yab (yaa (yac [] [] [(21,pL Zb.enc p1),(22,pI (p1.length:Int)),(23,pI 0)] fo0 (by kernel_rfl) (yab (yad hb10 fun q26 hq26 hb10=>?_)))))))))))))))
   refine ynv (Y:=(Option Addr×Nat)×((List Zj))) (fun ((a22,c23),l24)=>[(0,pL Zd.enc p0),(1,pL Zb.enc p1),(2,pS p2),(7,pO a22 l24.length c23),(15,pL Zd.enc p0),(16,pI (p0.length:Int)),(17,pI v5)]) (fun ((a22,c23),l24)=>[PRes.row a22 l24.length c23 114 9 (List.map Zj.enc l24)]) (fun ((a22,c23),l24)=>q26=l24) ?_ ?_
   ·refine yak ?_
    refine yay (Y:=Option Addr×Nat) (S:=(List Zj)×Int) _ hq26 (fun (a18,c19) (l17,v20)=>[(0,pL Zd.enc p0),(1,pL Zb.enc p1),(2,pS p2),(7,pO a18 l17.length c19),(9,pP b15 0),(15,pL Zd.enc p0),(16,pI (p0.length:Int)),(17,pI v5),(21,pL Zb.enc p1),(22,pI (p1.length:Int)),(23,pI v20)]) (fun (a18,c19) (l17,v20)=>[PRes.b b15 46 [pI m14.ID,pS m14.Code,pS m14.Country,pI m14.Price,pB m14.Obtained,pL eS m14.Processes,pL Zf.enc m14.Inputs],PRes.row a18 l17.length c19 114 9 (List.map Zj.enc l17)]) (a3,c4) (zhc rfl (zhc rfl (zh9 rfl rfl rfl rfl rfl rfl rfl rfl rfl))) (zs2) ?_
    rintro ⟨a18,c19⟩ ⟨l17,v20⟩ o τ hb25;(try dsimp only at hb25);dsimp only [pupds]
    refine yaa (yac [] [] [(24,pB (decide (v20<(p1.length:Int))))] fo0 (by kernel_rfl) (yab (yaa (zif rfl hb25 (fun hc27 hb25=>?_) fun hc27 hb25=>?_))))
    ·refine yag ?_
     refine yab (yaa (yad hb25 fun q32 hq32 hb25=>?_))
     refine yav (Y:=(Option Addr×Nat)×((List Zj))) (fun ((a29,c30),l31)=>[(0,pL Zd.enc p0),(1,pL Zb.enc p1),(2,pS p2),(7,pO a29 l31.length c30),(9,pP b15 0),(15,pL Zd.enc p0),(16,pI (p0.length:Int)),(17,pI v5),(21,pL Zb.enc p1),(22,pI (p1.length:Int)),(23,pI v20)]) (fun ((a29,c30),l31)=>[PRes.b b15 46 [pI m14.ID,pS m14.Code,pS m14.Country,pI m14.Price,pB m14.Obtained,pL eS m14.Processes,pL Zf.enc m14.Inputs],PRes.row a29 l31.length c30 114 9 (List.map Zj.enc l31)]) (fun ((a29,c30),l31)=>q32=l31) ?_ ?_
     ·skip
      refine yak (yaa (yad hq32 fun m33 hm33 hq32=>yae (yaj 2 [] [25] [(26,.agg [pI m33.ID,pI m33.Kind,pL eS m33.Parties,pL Zi.enc m33.Rules])] (ymr 0 Zb.enc hm33 fo0) (by kernel_rfl) (yat rfl rfl rfl (ybg (cs:=[pI 0,pI 0,pN,pN]) rfl rfl rfl rfl (fun b34=>ybq rfl rfl (yaq (vs:=[pI m33.ID,pI m33.Kind,pL eS m33.Parties,pL Zi.enc m33.Rules]) rfl rfl rfl rfl rfl zuh (zl4) (yau (yab (yaa (yae (yaj 5 [1,0] [27,28,29,30] [(31,.agg [pI m14.ID,pI m33.ID])] fo0 (by kernel_rfl) (yat rfl rfl rfl (ybg (cs:=[pI 0,pI 0]) rfl rfl rfl rfl (fun b35=>ybq rfl rfl (yaq (vs:=[pI m14.ID,pI m33.ID]) rfl rfl rfl rfl rfl zuh (zl2) (yau (yab (yaa (yad hq32 fun x36 hx36 hq32=>yae (yaj 7 [1,2] [33,34,35,36,32] [(37,.agg [pI x36.1.Kind,pI x36.1.Digits,pL eS x36.1.Except,pI x36.1.Tolerance,pI x36.1.Limit,pS x36.1.Name,pL Zc.enc x36.1.Args]),(38,pB x36.2)] (yfg 3 (yko hx36) fo0) (by kernel_rfl) (yat rfl rfl rfl (ybg (cs:=[pI 0,pI 0,pN,pI 0,pI 0,pS ByteArray.empty,pN]) rfl rfl rfl rfl (fun b37=>ybq rfl rfl (yaq (vs:=[pI x36.1.Kind,pI x36.1.Digits,pL eS x36.1.Except,pI x36.1.Tolerance,pI x36.1.Limit,pS x36.1.Name,pL Zc.enc x36.1.Args]) rfl rfl rfl rfl rfl zuh (zl7) (yan [] [] [(14,pB x36.2)] fo0 (by kernel_rfl) (yab (yaa (yad hq32 fun x38 hx38 hq32=>yac [1] (rg 39 7) [(46,pB (x36.2&&x38))] (ylk 6 (fun hc=>yil (yoq hx38 hc)) fo0) (by kernel_rfl) (yab (zif rfl hq32 (fun hc39 hq32=>?_) fun hc39 hq32=>?_)))))))))))))))))))))))))))))))
      ·refine yae ?_
       refine yaj 4 [1,0] [48,49] [(47,pO a18 l17.length c19),(50,.agg [pI m14.ID,pI m33.ID,pI x36.1.Kind,pI x36.1.Digits,pL eS x36.1.Except,pI x36.1.Tolerance,pI x36.1.Limit,pS x36.1.Name,pL Zc.enc x36.1.Args])] fo0 (by kernel_rfl) (yat rfl rfl rfl (ycg rfl rfl rfl rfl rfl (zic rfl zin) rfl rfl rfl rfl (fun b40=>yad hq32 fun l42 hl42 hq32=>?_)))
       refine yat rfl rfl rfl (yci (enc:=Zj.enc) rfl rfl rfl rfl rfl rfl rfl rfl rfl zm0 (by exact zpt (zpt (zpt (zpt (zpt zph))))) hl42 (fun a43 c44=>?_))
       refine yan [] [] [(7,pO a43 l42.length c44)] fo0 (by kernel_rfl) (yal ?_)
       obtain rfl:=osi hq32
       exact yaz ((a43,c44),l42) (zhc rfl (zhc rfl (zh9 rfl rfl rfl rfl rfl rfl rfl rfl rfl))) (zsc (zpt (zpt (zpt (zpt (zpt zph))))) (zs1)) rfl
      refine yag ?_
      refine yal ?_
      obtain rfl:=osi hq32
      exact yaz ((a18,c19),l17) (zhc rfl (zhc rfl (zh9 rfl rfl rfl rfl rfl rfl rfl rfl rfl))) (zsc (zpt (zpt (zpt zph))) (zsc (zpt (zpt (zpt zph))) zsn)) rfl
     rintro ⟨⟨a29,c30⟩,l31⟩ τ hz;(try dsimp only at hz);subst q32;(try dsimp only at hb25);dsimp only [pupds]
     refine yac [] [53] [(23,pI (IntKind.i64.wrap (v20+1)))] fo0 (by kernel_rfl) ?_
     exact ybu hb25 (a29,c30) (zhc rfl (zhc rfl (zh9 rfl rfl rfl rfl rfl rfl rfl rfl rfl))) (zs2)
    refine ybd ?_
    refine yap (yam hb25 (fun ht=>yao rfl ?_))
    exact ykn ((a18,c19),l17) (zh7 rfl rfl rfl rfl rfl rfl rfl) (zsc (zpt zph) zsn) ht.symm
   rintro ⟨⟨a22,c23⟩,l24⟩ τ ρ1 hsub46 hz;(try dsimp only at hz hsub46);subst q26;(try dsimp only at hb10);dsimp only [pupds]
   refine yal (yab (yus hsub46 (yac [] [54] [(17,pI (IntKind.i64.wrap (v5+1)))] fo0 (by kernel_rfl) ?_)))
   exact ybu hb10 (a22,c23) (zh7 rfl rfl rfl rfl rfl rfl rfl) (zs1)
  refine ybd ?_
  refine yap (yam hb10 (fun ht=>yao rfl ?_))
  exact yaz ((a3,c4),l2) (zh1 rfl) (zs1) ht.symm
 rintro ⟨⟨a7,c8⟩,l9⟩ τ hz;(try dsimp only at hz);subst q11;(try dsimp only at h);dsimp only [pupds]
 refine yaa (yac [] [55] [(6,pO a7 l9.length c8)] fo0 (by kernel_rfl) (yab ?_))
 refine yhl (enc:=Zj.enc) (xs:=l9) 6 rfl (by exact zph) ?_
 refine yai ?_
 obtain rfl:=osi h
 exact zq rfl ⟨rfl,rfl⟩
def ygp (p0:(List Zd)) (p1:(List Zb)) (p2:ByteArray):Option ((List Zg)×Int):=Option.bind (ydy p0) (fun x4=>cond (x4 != 0) (some ([],x4)) (Option.bind (ydz p1) (fun x6=>cond (x6 != 0) (some ([],x6)) (Option.bind (ycd p2) (fun x8=>cond (!x8) (some ([],(1:Int))) (Option.bind (yke p0 p1 p2) (fun x12=>Option.bind (loopF (S:=(List Zj)×(List Zg)×(List Za)) (T:=(Unit)⊕(_)) (fun (l13,l15,l19)=>Option.bind (loopF (S:=(List Zj)×Int×(List Zg)×(List Za)) (T:=((List Zj)×(List Zg)×(List Za))) (fun (l27,v30,l32,l36)=>cond (decide (v30<(l13.length:Int))) (Option.bind (Option.bind (idx l13 v30) (fun m68=>Option.bind (yfv m68 p0 p1 p2 l36 l32) (fun x70=>cond (!x70.1) (Option.bind (app 112 l27 [m68]) (fun l80=>some (l80,x70.2.2,x70.2.1))) (some (l27,x70.2.2,x70.2.1))))) (fun (l58,l62,l66)=>some (.inl (l58,(IntKind.i64.wrap (v30+1)),l62,l66)))) (some (.inr (l27,l32,l36)))) FUEL (([]:List Zj),0,l15,l19)) (fun (l42,l46,l50)=>cond (((l46.length:Nat):Int) == ((l15.length:Nat):Int)) (some (.inr (.inr (l46,(0:Int))))) (Option.bind (sub l46 ((l15.length:Nat):Int) (l46.length:Int)) (fun l85=>Option.bind (loopF (S:=Int×(List Za)) (T:=((List Za))) (fun (v86,l88)=>cond (decide (v86<((l46.length - ((l15.length:Nat):Int).toNat:Nat):Int))) (Option.bind (ge0 v86) (fun u100=>Option.bind (idx l46 (((l15.length:Nat):Int)+v86)) (fun m101=>Option.bind (app 16 l88 [m101.Claim]) (fun l105=>some (.inl ((IntKind.i64.wrap (v86+1)),l105)))))) (some (.inr l88))) FUEL (0,l50)) (fun l96=>some (.inl (l42,l46,l96))))))) FUEL (x12,([]:List Zg),([]:List Za))) (fun q=>match q with | .inl _=>none | .inr e=>some e))))))))
theorem yhj {p0:(List Zd)} {p1:(List Zb)} {p2:ByteArray} {r:((List Zg)×Int)}  (h:ygp p0 p1 p2=some r):PF 24 [pL Zd.enc p0,pL Zb.enc p1,pS p2] (.tup [pL Zg.enc r.1,pI r.2]):=by
 unfold ygp at h
 refine ych ?_
 refine ybc Tryz.func24 fk24 rfl Tryz.ntmps24 Tryz.results24 rfl (yaa (yae (yat rfl rfl rfl (ycn (cs:=[pL Zd.enc p0]) rfl rfl (fun b1=>yat rfl rfl rfl (ycn (cs:=[pL Zb.enc p1]) rfl rfl (fun b2=>yat rfl rfl rfl (ycn (cs:=[pS p2]) rfl rfl (fun b3=>yan [] [6,7] [] fo0 (by kernel_rfl) (yab (yaa (yaa (yad h fun x4 hx4 h=>yac [2] [20,21] [(8,pI x4)] (yfg 1 (yov hx4) fo0) (by kernel_rfl) (yab (yaa (yac [] [22] [(23,pB (x4 != 0))] fo0 (by kernel_rfl) (yab (zif rfl h (fun hc5 h=>?_) fun hc5 h=>?_))))))))))))))))))
 ·refine yaa ?_
  refine yac [] [24] [(6,pN),(7,pI x4)] fo0 (by kernel_rfl) (yab (ynw 6 rfl (yai (yah ?_))))
  obtain rfl:=osi h
  exact ybh (yid (ybn rfl) (ybn rfl)) zsn ⟨rfl,rfl⟩
 refine yag ?_
 refine yab (yaa (yaa (yad h fun x6 hx6 h=>yac [1] [25,26] [(9,pI x6)] (yfg 1 (yow hx6) fo0) (by kernel_rfl) (yab (yaa (yac [] [27] [(28,pB (x6 != 0))] fo0 (by kernel_rfl) (yab (zif rfl h (fun hc7 h=>?_) fun hc7 h=>?_))))))))
 ·refine yaa ?_
  refine yac [] [29] [(6,pN),(7,pI x6)] fo0 (by kernel_rfl) (yab (ynw 6 rfl (yai (yah ?_))))
  obtain rfl:=osi h
  exact ybh (yid (ybn rfl) (ybn rfl)) zsn ⟨rfl,rfl⟩
 refine yag ?_
 refine yab (yaa (yaa (yad h fun x8 hx8 h=>yac [0] [30,31] [(32,pB (!x8))] (yfg 1 (yfe hx8) fo0) (by kernel_rfl) (yab (zif rfl h (fun hc9 h=>?_) fun hc9 h=>?_)))))
 ·refine yaa ?_
  refine yac [] [] [(6,pN),(7,pI 1)] fo0 (by kernel_rfl) (yab (ynw 6 rfl (yai (yah ?_))))
  obtain rfl:=osi h
  exact ybh (yid (ybn rfl) (ybn rfl)) zsn ⟨rfl,rfl⟩
 refine yag ?_
 refine yab (yaa (yae (yat rfl rfl rfl (ybg (cs:=[pN]) rfl rfl rfl rfl (fun b10=>yau (yab (yaa (yae (yat rfl rfl rfl (ybg (cs:=[pN]) rfl rfl rfl rfl (fun b11=>yau (yab (yaa (yae ?_))))))))))))))
 refine yrf 3 rfl (by exact zpt (zpt (zpt (zpt zph)))) ?_
 refine yrf 4 rfl (by exact zpt (zpt (zpt (zpt zph)))) ?_
 refine yrf 5 rfl (by exact zpt (zpt (zpt (zpt zph)))) ?_
 refine yan [] [33] [(12,.fn 65 [.ref [pL Zd.enc p0] 0,.ref [pL Zb.enc p1] 0,.ref [pS p2] 0,pP b11 0,pP b10 0])] fo0 (by kernel_rfl) (yab (yaa (yad h fun x12 hx12 h=>yac [] [34,35,36,37] [(13,pL Zj.enc x12)] (yfg 3 (yvx hx12) fo0) (by kernel_rfl) (yab (ycr 59 4 (ycr 54 2 (yad h fun q23 hq23 h=>yak ?_)))))))
 refine yay (Y:=Option Addr×Nat×Option Addr×Nat) (S:=(List Zj)×(List Zg)×(List Za)) _ hq23 (fun (a16,c17,a20,c21) (l13,l15,l19)=>[(10,pP b10 0),(11,pP b11 0),(12,.fn 65 [.ref [pL Zd.enc p0] 0,.ref [pL Zb.enc p1] 0,.ref [pS p2] 0,pP b11 0,pP b10 0]),(13,pL Zj.enc l13)]) (fun (a16,c17,a20,c21) (l13,l15,l19)=>[PRes.b b10 28 [pO a16 l15.length c17],PRes.b b11 57 [pO a20 l19.length c21],PRes.row a16 l15.length c17 59 4 (List.map Zg.enc l15),PRes.row a20 l19.length c21 54 2 (List.map Za.enc l19)]) (none,0,none,0) (zh4 rfl rfl rfl rfl) (zsc (zpt (zpt (zpt (zpt (zpt (zpt zph)))))) (zsc (zpt (zpt (zpt (zpt (zpt zph))))) (zsc (zpt zph) (zs1)))) ?_
 rintro ⟨a16,c17,a20,c21⟩ ⟨l13,l15,l19⟩ o τ hb22;(try dsimp only at hb22);dsimp only [pupds]
 refine yak (yaa (yac [] [] [(14,pN)] fo0 (by kernel_rfl) (yab (yaa (yac [0] [38,39] [(15,pI ((l15.length:Nat):Int))] fo0 (by kernel_rfl) (yab (yaa (yaa (yac [] [] [(40,pL Zj.enc l13),(41,pI (l13.length:Int)),(42,pI 0)] fo0 (by kernel_rfl) (yab (ycr 114 9 (yad hb22 fun q52 hq52 hb22=>?_))))))))))))
 refine yav (Y:=(Option Addr×Nat×Option Addr×Nat×Option Addr×Nat)×((List Zj)×(List Zg)×(List Za))) (fun ((a40,c41,a44,c45,a48,c49),(l42,l46,l50))=>[(10,pP b10 0),(11,pP b11 0),(12,.fn 65 [.ref [pL Zd.enc p0] 0,.ref [pL Zb.enc p1] 0,.ref [pS p2] 0,pP b11 0,pP b10 0]),(14,pO a40 l42.length c41),(15,pI ((l15.length:Nat):Int))]) (fun ((a40,c41,a44,c45,a48,c49),(l42,l46,l50))=>[PRes.b b10 28 [pO a44 l46.length c45],PRes.b b11 57 [pO a48 l50.length c49],PRes.row a40 l42.length c41 114 9 (List.map Zj.enc l42),PRes.row a44 l46.length c45 59 4 (List.map Zg.enc l46),PRes.row a48 l50.length c49 54 2 (List.map Za.enc l50)]) (fun ((a40,c41,a44,c45,a48,c49),(l42,l46,l50))=>q52=(l42,l46,l50)) ?_ ?_
 ·refine yak ?_
  refine yay (Y:=Option Addr×Nat×Option Addr×Nat×Option Addr×Nat) (S:=(List Zj)×Int×(List Zg)×(List Za)) _ hq52 (fun (a28,c29,a33,c34,a37,c38) (l27,v30,l32,l36)=>[(10,pP b10 0),(11,pP b11 0),(12,.fn 65 [.ref [pL Zd.enc p0] 0,.ref [pL Zb.enc p1] 0,.ref [pS p2] 0,pP b11 0,pP b10 0]),(14,pO a28 l27.length c29),(15,pI ((l15.length:Nat):Int)),(40,pL Zj.enc l13),(41,pI (l13.length:Int)),(42,pI v30)]) (fun (a28,c29,a33,c34,a37,c38) (l27,v30,l32,l36)=>[PRes.b b10 28 [pO a33 l32.length c34],PRes.b b11 57 [pO a37 l36.length c38],PRes.row a28 l27.length c29 114 9 (List.map Zj.enc l27),PRes.row a33 l32.length c34 59 4 (List.map Zg.enc l32),PRes.row a37 l36.length c38 54 2 (List.map Za.enc l36)]) (none,0,a16,c17,a20,c21) (zh8 rfl rfl rfl rfl rfl rfl rfl rfl) (zsc (zpt zph) (zsc (zpt zph) (zs3))) ?_
  rintro ⟨a28,c29,a33,c34,a37,c38⟩ ⟨l27,v30,l32,l36⟩ o τ hb51;(try dsimp only at hb51);dsimp only [pupds]
  refine yaa (yac [] [] [(43,pB (decide (v30<(l13.length:Int))))] fo0 (by kernel_rfl) (yab (yaa (zif rfl hb51 (fun hc54 hb51=>?_) fun hc54 hb51=>?_))))
  ·refine yag ?_
   refine yab (yaa (yad hb51 fun q67 hq67 hb51=>?_))
   refine yav (Y:=(Option Addr×Nat×Option Addr×Nat×Option Addr×Nat)×((List Zj)×(List Zg)×(List Za))) (fun ((a56,c57,a60,c61,a64,c65),(l58,l62,l66))=>[(10,pP b10 0),(11,pP b11 0),(12,.fn 65 [.ref [pL Zd.enc p0] 0,.ref [pL Zb.enc p1] 0,.ref [pS p2] 0,pP b11 0,pP b10 0]),(14,pO a56 l58.length c57),(15,pI ((l15.length:Nat):Int)),(40,pL Zj.enc l13),(41,pI (l13.length:Int)),(42,pI v30)]) (fun ((a56,c57,a60,c61,a64,c65),(l58,l62,l66))=>[PRes.b b10 28 [pO a60 l62.length c61],PRes.b b11 57 [pO a64 l66.length c65],PRes.row a56 l58.length c57 114 9 (List.map Zj.enc l58),PRes.row a60 l62.length c61 59 4 (List.map Zg.enc l62),PRes.row a64 l66.length c65 54 2 (List.map Za.enc l66)]) (fun ((a56,c57,a60,c61,a64,c65),(l58,l62,l66))=>q67=(l58,l62,l66)) ?_ ?_
   ·skip
    refine yak (yaa (yad hq67 fun m68 hm68 hq67=>yae (yaj 2 [] [44] [(45,.agg [pI m68.claim.Product,pI m68.claim.Agreement,pI m68.rule.Kind,pI m68.rule.Digits,pL eS m68.rule.Except,pI m68.rule.Tolerance,pI m68.rule.Limit,pS m68.rule.Name,pL Zc.enc m68.rule.Args])] (ymr 0 Zj.enc hm68 fo0) (by kernel_rfl) (yat rfl rfl rfl (ybg (cs:=[pI 0,pI 0,pI 0,pI 0,pN,pI 0,pI 0,pS ByteArray.empty,pN]) rfl rfl rfl rfl (fun b69=>ybq rfl rfl (yaq (vs:=[pI m68.claim.Product,pI m68.claim.Agreement,pI m68.rule.Kind,pI m68.rule.Digits,pL eS m68.rule.Except,pI m68.rule.Tolerance,pI m68.rule.Limit,pS m68.rule.Name,pL Zc.enc m68.rule.Args]) rfl rfl rfl rfl rfl zuh (zl9) (yau (yab (yaa (yad hq67 fun x70 hx70 hq67=>yae (yaj 2 [0] [] [(46,.fn 65 [.ref [pL Zd.enc p0] 0,.ref [pL Zb.enc p1] 0,.ref [pS p2] 0,pP b11 0,pP b10 0]),(47,.agg [pI m68.claim.Product,pI m68.claim.Agreement,pI m68.rule.Kind,pI m68.rule.Digits,pL eS m68.rule.Except,pI m68.rule.Tolerance,pI m68.rule.Limit,pS m68.rule.Name,pL Zc.enc m68.rule.Args])] fo0 (by kernel_rfl) ?_))))))))))))
    refine yat rfl rfl rfl (xla rfl rfl rfl (ρ1:=[_,_,_,_]) (yaw (by exact zpt (zpt zph)) (yaw (by exact zpt (zpt (zpt (zpt zph)))) (yaw (by exact zpt zph) (yaw (by exact zpt (zpt zph)) (List.Perm.refl _))))) (ysv hx70) ?_);rintro _ _ ⟨rfl,a71,c72,a73,c74,rfl⟩
    refine yan [] [] [(49,pB (!x70.1))] fo0 (by kernel_rfl) (yab (zif rfl hq67 (fun hc77 hq67=>?_) fun hc77 hq67=>?_))
    ·refine yae ?_
     refine yaj 2 [4] [] [(50,pO a28 l27.length c29),(51,.agg [pI m68.claim.Product,pI m68.claim.Agreement,pI m68.rule.Kind,pI m68.rule.Digits,pL eS m68.rule.Except,pI m68.rule.Tolerance,pI m68.rule.Limit,pS m68.rule.Name,pL Zc.enc m68.rule.Args])] fo0 (by kernel_rfl) (yat rfl rfl rfl (ycg rfl rfl rfl rfl rfl (zic rfl zin) rfl rfl rfl rfl (fun b78=>yad hq67 fun l80 hl80 hq67=>?_)))
     refine yat rfl rfl rfl (yci (enc:=Zj.enc) rfl rfl rfl rfl rfl rfl rfl rfl rfl zm0 (by exact zpt (zpt (zpt (zpt (zpt (zpt zph)))))) hl80 (fun a81 c82=>?_))
     refine yan [] [] [(14,pO a81 l80.length c82)] fo0 (by kernel_rfl) (yal ?_)
     obtain rfl:=osi hq67
     exact yaz ((a81,c82,a73,c74,a71,c72),(l80,x70.2.2,x70.2.1)) (zh8 rfl rfl rfl rfl rfl rfl rfl rfl) (zsc (zpt (zpt (zpt (zpt zph)))) (zsc (zpt (zpt zph)) (zsc zph (zsc (zpt (zpt zph)) (zsc (zpt zph) zsn))))) rfl
    refine yag ?_
    refine yal ?_
    obtain rfl:=osi hq67
    exact yaz ((a28,c29,a73,c74,a71,c72),(l27,x70.2.2,x70.2.1)) (zh8 rfl rfl rfl rfl rfl rfl rfl rfl) (zsc (zpt (zpt zph)) (zsc zph (zsc (zpt (zpt (zpt zph))) (zsc (zpt zph) (zs1))))) rfl
   rintro ⟨⟨a56,c57,a60,c61,a64,c65⟩,⟨l58,l62,l66⟩⟩ τ hz;(try dsimp only at hz);subst q67;(try dsimp only at hb51);dsimp only [pupds]
   refine yac [] [54] [(42,pI (IntKind.i64.wrap (v30+1)))] fo0 (by kernel_rfl) ?_
   exact ybu hb51 (a56,c57,a60,c61,a64,c65) (zh8 rfl rfl rfl rfl rfl rfl rfl rfl) (zs5)
  refine ybd ?_
  refine yap (yam hb51 (fun ht=>yao rfl ?_))
  exact yaz ((a28,c29,a33,c34,a37,c38),(l27,l32,l36)) (zh5 rfl rfl rfl rfl rfl) (zs5) ht.symm
 rintro ⟨⟨a40,c41,a44,c45,a48,c49⟩,⟨l42,l46,l50⟩⟩ τ hz;(try dsimp only at hz);subst q52;(try dsimp only at hb22);dsimp only [pupds]
 refine yaa (yaa (yac [0] [55,56,57] [(58,pB (((l46.length:Nat):Int) == ((l15.length:Nat):Int)))] fo0 (by kernel_rfl) (yab (zif rfl hb22 (fun hc84 hb22=>?_) fun hc84 hb22=>?_))))
 ·refine yaa ?_
  refine yac [0] [59] [(6,pO a44 l46.length c45),(7,pI 0)] fo0 (by kernel_rfl) (yab ?_)
  refine yhl (enc:=Zg.enc) (xs:=l46) 6 rfl (by exact zpt (zpt (zpt zph))) ?_
  refine yai (yah (yaf ?_))
  refine yba hb22 (fun ht=>?_);subst ht
  refine yaf ?_
  obtain rfl:=osi h
  exact ybh (yid (ybn rfl) (ybn rfl)) zsn ⟨rfl,rfl⟩
 refine yag ?_
 refine yab (yaa (yaa (yad hb22 fun l85 hl85 hb22=>yae (yaj 2 [0] [] [(60,pO a44 l46.length c45),(61,pI ((l15.length:Nat):Int))] fo0 (by kernel_rfl) (ycz rfl rfl rfl (ymv (enc:=Zg.enc) (xs:=l46) rfl rfl rfl rfl rfl zm3 hl85) (yan [] [] [(63,pI ((l46.length - ((l15.length:Nat):Int).toNat:Nat):Int)),(64,pI 0)] fo0 (by kernel_rfl) (yab (yad hb22 fun q98 hq98 hb22=>?_))))))))
 refine yav (Y:=(Option Addr×Nat)×((List Za))) (fun ((a94,c95),l96)=>[(10,pP b10 0),(11,pP b11 0),(12,.fn 65 [.ref [pL Zd.enc p0] 0,.ref [pL Zb.enc p1] 0,.ref [pS p2] 0,pP b11 0,pP b10 0]),(14,pO a40 l42.length c41)]) (fun ((a94,c95),l96)=>[PRes.b b10 28 [pO a44 l46.length c45],PRes.b b11 57 [pO a94 l96.length c95],PRes.row a40 l42.length c41 114 9 (List.map Zj.enc l42),PRes.row a44 l46.length c45 59 4 (List.map Zg.enc l46),PRes.row a94 l96.length c95 54 2 (List.map Za.enc l96)]) (fun ((a94,c95),l96)=>q98=l96) ?_ ?_
 ·refine yak ?_
  refine yay (Y:=Option Addr×Nat) (S:=Int×(List Za)) _ hq98 (fun (a89,c90) (v86,l88)=>[(10,pP b10 0),(11,pP b11 0),(12,.fn 65 [.ref [pL Zd.enc p0] 0,.ref [pL Zb.enc p1] 0,.ref [pS p2] 0,pP b11 0,pP b10 0]),(14,pO a40 l42.length c41),(62,pQ a44 l46.length c45 ((l15.length:Nat):Int).toNat 4),(63,pI ((l46.length - ((l15.length:Nat):Int).toNat:Nat):Int)),(64,pI v86)]) (fun (a89,c90) (v86,l88)=>[PRes.b b10 28 [pO a44 l46.length c45],PRes.b b11 57 [pO a89 l88.length c90],PRes.row a40 l42.length c41 114 9 (List.map Zj.enc l42),PRes.row a44 l46.length c45 59 4 (List.map Zg.enc l46),PRes.row a89 l88.length c90 54 2 (List.map Za.enc l88)]) (a48,c49) (zh7 rfl rfl rfl rfl rfl rfl rfl) (zs5) ?_
  rintro ⟨a89,c90⟩ ⟨v86,l88⟩ o τ hb97;(try dsimp only at hb97);dsimp only [pupds]
  refine yaa (yac [] [] [(65,pB (decide (v86<((l46.length - ((l15.length:Nat):Int).toNat:Nat):Int))))] fo0 (by kernel_rfl) (yab (yaa (zif rfl hb97 (fun hc99 hb97=>?_) fun hc99 hb97=>?_))))
  ·refine yag ?_
   refine yab (yaa (yak (yaa (yad hb97 fun u100 hu100 hb97=>yad hb97 fun m101 hm101 hb97=>yae (ycz rfl rfl rfl (yjf (enc:=Zg.enc) (xs:=l46) (i:=((l15.length:Nat):Int)) rfl rfl rfl rfl rfl (yhm hl85).1.1 (yma hu100) zm3 hm101) (ycz rfl rfl rfl (ydr (sz:=4) (p:=.agg [pI m101.Claim.Product,pI m101.Claim.Agreement,pL eI m101.Path,pL Za.enc m101.Premises]) (enc:=Zg.enc) (xs:=l46) (a:=a44) (((l15.length:Nat):Int)+v86) 0 m101 rfl (.p rfl) rfl zm3 (fun _=>hm101) rfl) (yat rfl rfl rfl (ybg (cs:=[pI 0,pI 0,pN,pN]) rfl rfl rfl rfl (fun b102=>ybq rfl rfl (yaq (vs:=[pI m101.Claim.Product,pI m101.Claim.Agreement,pL eI m101.Path,pL Za.enc m101.Premises]) rfl rfl rfl rfl rfl zuh (zl4) (yau (yab (yae (yaj 3 [2,0] [69] [(68,pO a89 l88.length c90),(70,.agg [pI m101.Claim.Product,pI m101.Claim.Agreement])] fo0 (by kernel_rfl) (yat rfl rfl rfl (ycg rfl rfl rfl rfl rfl (zic rfl zin) rfl rfl rfl rfl (fun b103=>yad hb97 fun l105 hl105 hb97=>?_)))))))))))))))))
   refine yat rfl rfl rfl (yci (enc:=Za.enc) rfl rfl rfl rfl rfl rfl rfl rfl rfl zm0 (by exact zpt (zpt (zpt (zpt (zpt (zpt zph)))))) hl105 (fun a106 c107=>?_))
   refine ybq rfl rfl (yaq (vs:=[pO a106 l105.length c107]) rfl rfl rfl rfl rfl (zut (zut (zut (zut zuh)))) (zl1) (yau (yal (yab (yac [] [73] [(64,pI (IntKind.i64.wrap (v86+1)))] fo0 (by kernel_rfl) ?_)))))
   exact ybu hb97 (a106,c107) (zh7 rfl rfl rfl rfl rfl rfl rfl) (zsc (zpt (zpt (zpt zph))) (zsc (zpt (zpt (zpt zph))) (zsc (zpt (zpt (zpt zph))) (zsc (zpt (zpt (zpt zph))) (zs1)))))
  refine ybd ?_
  refine yap (yam hb97 (fun ht=>yao rfl ?_))
  exact yaz ((a89,c90),l88) (zh4 rfl rfl rfl rfl) (zs5) ht.symm
 rintro ⟨⟨a94,c95⟩,l96⟩ τ hz;(try dsimp only at hz);subst q98;(try dsimp only at hb22);dsimp only [pupds]
 refine yac [] [74] [(13,pO a40 l42.length c41)] fo0 (by kernel_rfl) (yal ?_)
 refine xdu (cov_frzt (enc:=Zj.enc) (xs:=l42) 13 rfl (by exact zpt (zpt zph))) ?_
 exact ybu hb22 (a44,c45,a94,c95) (zh4 rfl rfl rfl rfl) (zsc (zpt zph) (zsc (zpt zph) (zsc (zpt zph) (zsc (zpt zph) zsn))))
def yls  : Option Bool:=Option.bind (ygp [(⟨1,(⟨#[57,52,48,49,48,49]⟩:ByteArray),(⟨#[65,65]⟩:ByteArray),10,false,[],[(⟨1,5⟩:Zf)]⟩:Zd),(⟨2,(⟨#[57,52,48,49,48,50]⟩:ByteArray),(⟨#[65,65]⟩:ByteArray),10,false,[],[(⟨1,5⟩:Zf)]⟩:Zd)] [(⟨7,1,[(⟨#[65,65]⟩:ByteArray),(⟨#[67,67]⟩:ByteArray)],[(⟨(⟨#[57,52]⟩:ByteArray),(⟨2,6,[],0,0,ByteArray.empty,[]⟩:Zc)⟩:Zi)]⟩:Zb)] (⟨#[67,67]⟩:ByteArray)) (fun x14=>Option.bind (gd ((x14.2 == 0)&&((x14.1.length:Int) == 1)) (yik x14.1 (⟨2,7⟩:Za))) (fun x15=>Option.bind (gd (((x14.2 == 0)&&((x14.1.length:Int) == 1))&&x15) (yik x14.1 (⟨1,7⟩:Za))) (fun x16=>some ((((x14.2 == 0)&&((x14.1.length:Int) == 1))&&x15)&&(!x16)))))
theorem yxf  {r:Bool}  (h:yls  = some r):PF 26 [] (pB r):=by
 unfold yls at h
 refine ych ?_
 refine ybc Tryz.func26 fk26 rfl Tryz.ntmps26 Tryz.results26 rfl (yaa (yac [] [0] [] fo0 (by kernel_rfl) (yab (yaa (yae (yaj 1 [] [] [(6,.agg [pI 2,pI 6,pN,pI 0,pI 0,pS ByteArray.empty,pN])] fo0 (by kernel_rfl) (yat rfl rfl rfl (ybg (cs:=[pI 0,pI 0,pN,pI 0,pI 0,pS ByteArray.empty,pN]) rfl rfl rfl rfl (fun b1=>ybq rfl rfl (yaq (vs:=[pI 2,pI 6,pN,pI 0,pI 0,pS ByteArray.empty,pN]) rfl rfl rfl rfl rfl zuh (zl7) (yau (yab (yaa (yae (yat rfl rfl rfl (ycg rfl rfl rfl rfl rfl (zic rfl (zic rfl zin)) rfl rfl rfl rfl (fun b2=>ytt (k:=2) (b:=b1) rfl (zut zuh) (ytt (k:=6) (b:=b1) rfl (zut zuh) (yaj 2 [1] [8] [(9,.agg [pS (⟨#[57,52]⟩:ByteArray),pI 2,pI 6,pL eS [],pI 0,pI 0,pS ByteArray.empty,pL Zc.enc []])] fo0 (by kernel_rfl) (yat rfl rfl rfl (ycg rfl rfl rfl rfl rfl (zic rfl zin) rfl rfl rfl rfl (fun b4=>?_))))))))))))))))))))))
 refine ygq (enc:=eS) (xs:=[(⟨#[65,65]⟩:ByteArray),(⟨#[67,67]⟩:ByteArray)]) 7 rfl (by exact zpt zph) ?_
 refine ygq (enc:=Zi.enc) (xs:=[(⟨(⟨#[57,52]⟩:ByteArray),(⟨2,6,[],0,0,ByteArray.empty,[]⟩:Zc)⟩:Zi)]) 10 rfl (by exact zpt zph) ?_
 refine yaj 1 [] [] [(11,.agg [pI 7,pI 1,pL eS [(⟨#[65,65]⟩:ByteArray),(⟨#[67,67]⟩:ByteArray)],pL Zi.enc [(⟨(⟨#[57,52]⟩:ByteArray),(⟨2,6,[],0,0,ByteArray.empty,[]⟩:Zc)⟩:Zi)]])] fo0 (by kernel_rfl) (yat rfl rfl rfl (ycg rfl rfl rfl rfl rfl (zic rfl zin) rfl rfl rfl rfl (fun b6=>yan [] [] [(2,pO (some ⟨b6,0,none⟩) 1 1)] fo0 (by kernel_rfl) (yab (yaa (yae (yaj 1 [] [] [(13,.agg [pI 1,pI 5])] fo0 (by kernel_rfl) (yat rfl rfl rfl (ycg rfl rfl rfl rfl rfl (zic rfl zin) rfl rfl rfl rfl (fun b8=>?_))))))))))
 refine ygq (enc:=Zf.enc) (xs:=[(⟨1,5⟩:Zf)]) 14 rfl (by exact zph) ?_
 refine yaj 2 [] [] [(15,.agg [pI 1,pS (⟨#[57,52,48,49,48,49]⟩:ByteArray),pS (⟨#[65,65]⟩:ByteArray),pI 10,pB false,pN,pL Zf.enc [(⟨1,5⟩:Zf)]]),(16,.agg [pI 1,pI 5])] fo0 (by kernel_rfl) (yat rfl rfl rfl (ycg rfl rfl rfl rfl rfl (zic rfl zin) rfl rfl rfl rfl (fun b10=>?_)))
 refine ygq (enc:=Zf.enc) (xs:=[(⟨1,5⟩:Zf)]) 17 rfl (by exact zph) ?_
 refine yaj 1 [] [] [(18,.agg [pI 2,pS (⟨#[57,52,48,49,48,50]⟩:ByteArray),pS (⟨#[65,65]⟩:ByteArray),pI 10,pB false,pN,pL Zf.enc [(⟨1,5⟩:Zf)]])] fo0 (by kernel_rfl) (yxv 15 5 rfl rfl (yxv 18 5 rfl rfl (yat rfl rfl rfl (ycg rfl rfl rfl rfl rfl (zic rfl (zic rfl zin)) rfl rfl rfl rfl (fun b12=>yan [] [] [(3,pO (some ⟨b12,0,none⟩) 2 2)] fo0 (by kernel_rfl) (yab (yaa (yae (yaj 2 [] [] [(21,pO (some ⟨b12,0,none⟩) 2 2),(22,pO (some ⟨b6,0,none⟩) 1 1)] fo0 (by kernel_rfl) ?_)))))))))
 refine ygq (enc:=Zd.enc) (xs:=[(⟨1,(⟨#[57,52,48,49,48,49]⟩:ByteArray),(⟨#[65,65]⟩:ByteArray),10,false,[],[(⟨1,5⟩:Zf)]⟩:Zd),(⟨2,(⟨#[57,52,48,49,48,50]⟩:ByteArray),(⟨#[65,65]⟩:ByteArray),10,false,[],[(⟨1,5⟩:Zf)]⟩:Zd)]) 21 rfl (by exact zph) ?_
 refine ygq (enc:=Zb.enc) (xs:=[(⟨7,1,[(⟨#[65,65]⟩:ByteArray),(⟨#[67,67]⟩:ByteArray)],[(⟨(⟨#[57,52]⟩:ByteArray),(⟨2,6,[],0,0,ByteArray.empty,[]⟩:Zc)⟩:Zi)]⟩:Zb)]) 22 rfl (by exact zpt (zpt (zpt zph))) ?_
 refine yad h fun x14 hx14 h=>yan [] [23,20,24,25] [(4,pL Zg.enc x14.1),(5,pI x14.2)] (yfg 0 (yhj hx14) fo0) (by kernel_rfl) (yab (yaa (yad h fun x15 hx15 h=>yad h fun x16 hx16 h=>yac [] (rg 26 18) [(0,pB ((((x14.2 == 0)&&((x14.1.length:Int) == 1))&&x15)&&(!x16)))] (ylk 10 (fun hc=>yoh (yoq hx15 hc)) (ylk 15 (fun hc=>yoh (yoq hx16 hc)) fo0)) (by kernel_rfl) (yab (yai ?_)))))
 obtain rfl:=osi h
 exact zq rfl ⟨rfl,rfl⟩
def ydq (p0:(List Int)) (p1:(List Int)) (p2:(List Int)) (p3:Int):Option Bool:=Option.bind (ypf p0) (fun x1=>Option.bind (ygd p1) (fun x5=>Option.bind (yip p3) (fun x9=>Option.bind (ygd p2) (fun x10=>Option.bind (idx x10 0) (fun m14=>Option.bind (ygp x1 x5 x9) (fun x16=>Option.bind (app 64 ([]:List Zb) x5) (fun l19=>Option.bind (app 64 l19 [(⟨999,m14.Kind,m14.Parties,m14.Rules⟩:Zb)]) (fun l25=>Option.bind (ygp x1 l25 x9) (fun x28=>Option.bind (loopF (S:=Int) (T:=(Unit)⊕(_)) (fun v29=>cond (decide (v29<(x16.1.length:Int))) (Option.bind (idx x16.1 v29) (fun m33=>Option.bind (yik x28.1 m33.Claim) (fun x34=>cond (!x34) (some (.inr (.inr false))) (some (.inl (IntKind.i64.wrap (v29+1))))))) (some (.inr (.inl ())))) FUEL 0) (fun q=>match q with | .inl _=>Option.bind (gd ((x16.2 == 0)&&(x28.2 == 0)) (yls)) (fun x36=>some (((x16.2 == 0)&&(x28.2 == 0))&&x36)) | .inr e=>some e))))))))))
theorem ykl {p0:(List Int)} {p1:(List Int)} {p2:(List Int)} {p3:Int} {r:Bool}  (h:ydq p0 p1 p2 p3=some r):PF 8 [pL eI p0,pL eI p1,pL eI p2,pI p3] (pB r):=by
 unfold ydq at h
 refine ych ?_
 refine ybc Tryz.func8 fk8 rfl Tryz.ntmps8 Tryz.results8 rfl (yaa (yac [] [8] [] fo0 (by kernel_rfl) (yab (yaa (yad h fun x1 hx1 h=>yae (yaj 1 [] [] [(18,pL eI p0)] fo0 (by kernel_rfl) ?_))))))
 refine yat rfl rfl rfl (ybj rfl rfl (ρ1:=[]) (List.Perm.refl _) (xbr hx1) ?_);rintro _ _ ⟨a2,c3,rfl,rfl⟩
 refine yad h fun x5 hx5 h=>yaj 1 [] [] [(20,pL eI p1)] fo0 (by kernel_rfl) ?_
 refine yat rfl rfl rfl (ybj rfl rfl (ρ1:=[]) (List.Perm.refl _) (ymc hx5) ?_);rintro _ _ ⟨a6,c7,rfl,rfl⟩
 refine yad h fun x9 hx9 h=>yan [] [22,23] [(9,pO a2 x1.length c3),(10,pO a6 x5.length c7),(11,pS x9)] (yfg 1 (ytn hx9) fo0) (by kernel_rfl) (yab (yaa (yad h fun x10 hx10 h=>yae (yaj 1 [] [] [(24,pL eI p2)] fo0 (by kernel_rfl) ?_))))
 refine yat rfl rfl rfl (ybj rfl rfl (ρ1:=[]) (List.Perm.refl _) (ymc hx10) ?_);rintro _ _ ⟨a11,c12,rfl,rfl⟩
 refine yad h fun m14 hm14 h=>ycz rfl rfl rfl (ygb (enc:=Zb.enc) (xs:=x10) rfl rfl rfl (.p rfl) zm0 (.p rfl) (fun _=>hm14)) (ycz rfl rfl rfl (ydr (sz:=4) (p:=.agg [pI m14.ID,pI m14.Kind,pL eS m14.Parties,pL Zi.enc m14.Rules]) (enc:=Zb.enc) (xs:=x10) (a:=a11) 0 0 m14 rfl (.p rfl) rfl zm0 (fun _=>hm14) rfl) (yat rfl rfl rfl (ybg (cs:=[pI 0,pI 0,pN,pN]) rfl rfl rfl rfl (fun b15=>ybq rfl rfl (yaq (vs:=[pI m14.ID,pI m14.Kind,pL eS m14.Parties,pL Zi.enc m14.Rules]) rfl rfl rfl rfl rfl zuh (zl4) (yau (yab (yaa (yae (yaj 1 [] [] [(28,pP b15 0)] fo0 (by kernel_rfl) (ybq rfl rfl (yaq (vs:=[pI 999]) rfl rfl rfl rfl rfl zuh (zl1) (yau (yab (yaa (yae (yaj 3 [] [] [(30,pO a2 x1.length c3),(31,pO a6 x5.length c7),(32,pS x9)] fo0 (by kernel_rfl) ?_)))))))))))))))))
 refine ygq (enc:=Zd.enc) (xs:=x1) 30 rfl (by exact zpt (zpt (zpt zph))) ?_
 refine ygq (enc:=Zb.enc) (xs:=x5) 31 rfl (by exact zpt (zpt (zpt zph))) ?_
 refine yad h fun x16 hx16 h=>yan [] [33,29,34,35] [(13,pL Zg.enc x16.1),(14,pI x16.2)] (yfg 0 (yhj hx16) fo0) (by kernel_rfl) (yab (yaa (yyy (enc:=Zb.enc) (xs:=x5) 10 rfl zm0 (yyy (enc:=Zd.enc) (xs:=x1) 9 rfl zm1 (yad h fun l19 hl19 h=>yad h fun l25 hl25 h=>yad h fun x28 hx28 h=>?_)))))
 refine yav (Y:=Unit) (fun _=>[(13,pL Zg.enc x16.1),(14,pI x16.2),(15,pL Zg.enc x28.1),(16,pI x28.2)]) (fun _=>[]) (fun _=>True) ?_ ?_
 ·refine ymt (ρd:=[]) _ (List.Perm.refl _) ?_
  refine yde 0 (by kernel_rfl) rfl rfl rfl rfl (yfr (p:=pL Zd.enc x1) rfl (.p rfl)) (yde 2 (by kernel_rfl) rfl rfl rfl rfl (yfr (p:=pL Zb.enc x5) rfl (.p rfl)) (yde 4 (by kernel_rfl) rfl rfl rfl rfl (ydd (p:=.agg [pI 999,pI m14.Kind,pL eS m14.Parties,pL Zi.enc m14.Rules]) rfl (.p rfl) zm2 rfl) (yde 7 (by kernel_rfl) rfl rfl rfl rfl (yfr (p:=pS x9) rfl (.p rfl)) ?_)))
  refine yje 1 5 (by kernel_rfl) ?_ ?_
  ·skip
   refine ybi rfl rfl rfl rfl (ycg rfl rfl rfl rfl rfl zin rfl rfl rfl rfl (fun b17=>?_))
   refine yje 3 5 (by kernel_rfl) ?_ ?_
   ·skip
    refine ybi rfl rfl rfl rfl (ylz (enc:=Zb.enc) rfl rfl rfl rfl rfl (fun _=>rfl) rfl rfl rfl (by exact zph) hl19 (fun a20 c21=>?_))
    refine ybm 5 (by kernel_rfl) (ybi rfl rfl rfl rfl (ycg rfl rfl rfl rfl rfl (zic rfl zin) rfl rfl rfl rfl (fun b23=>ybm 6 (by kernel_rfl) ?_)))
    refine ybi rfl rfl rfl rfl (pl_fz (yci (enc:=Zb.enc) rfl rfl rfl rfl rfl rfl rfl rfl rfl zm0 (by exact zpt zph) hl25 (fun a26 c27=>⟨_,_,_,_,_,_,_,rfl,by (repeat (first | exact zph | apply zpt)),?_⟩)))
    refine ybm 8 (by kernel_rfl) (ymu rfl rfl rfl rfl rfl rfl (yhj hx28) (yde 9 (by kernel_rfl) rfl rfl rfl rfl (yfr (p:=.tup [pL Zg.enc x28.1,pI x28.2]) rfl (.p rfl)) (yde 10 (by kernel_rfl) rfl rfl rfl rfl (yih (p:=pL Zg.enc x28.1) rfl (.p rfl) rfl) (yde 11 (by kernel_rfl) rfl rfl rfl rfl (yih (p:=pI x28.2) rfl (.p rfl) rfl) (yde 12 (by kernel_rfl) rfl rfl rfl rfl (ycc (p:=pL Zg.enc x28.1) rfl (.p rfl)) (yde 13 (by kernel_rfl) rfl rfl rfl rfl (ycc (p:=pI x28.2) rfl (.p rfl)) (yeu (by kernel_rfl) ?_)))))))
    exact yaz () (zh4 rfl rfl rfl rfl) zsn trivial
   skip
   refine ybi rfl rfl rfl rfl (ycg rfl rfl rfl rfl rfl (zic rfl zin) rfl rfl rfl rfl (fun b23=>ybm 3 (by kernel_rfl) ?_))
   refine ybi rfl rfl rfl rfl (ylz (enc:=Zb.enc) rfl rfl rfl rfl rfl (fun _=>rfl) rfl rfl rfl (by exact zpt zph) hl19 (fun a20 c21=>?_))
   refine ybm 6 (by kernel_rfl) ?_
   refine ybi rfl rfl rfl rfl (pl_fz (yci (enc:=Zb.enc) rfl rfl rfl rfl rfl rfl rfl rfl rfl zm1 (by exact zph) hl25 (fun a26 c27=>⟨_,_,_,_,_,_,_,rfl,by (repeat (first | exact zph | apply zpt)),?_⟩)))
   refine ybm 8 (by kernel_rfl) (ymu rfl rfl rfl rfl rfl rfl (yhj hx28) (yde 9 (by kernel_rfl) rfl rfl rfl rfl (yfr (p:=.tup [pL Zg.enc x28.1,pI x28.2]) rfl (.p rfl)) (yde 10 (by kernel_rfl) rfl rfl rfl rfl (yih (p:=pL Zg.enc x28.1) rfl (.p rfl) rfl) (yde 11 (by kernel_rfl) rfl rfl rfl rfl (yih (p:=pI x28.2) rfl (.p rfl) rfl) (yde 12 (by kernel_rfl) rfl rfl rfl rfl (ycc (p:=pL Zg.enc x28.1) rfl (.p rfl)) (yde 13 (by kernel_rfl) rfl rfl rfl rfl (ycc (p:=pI x28.2) rfl (.p rfl)) (yeu (by kernel_rfl) ?_)))))))
   exact yaz () (zh4 rfl rfl rfl rfl) zsn trivial
  skip
  refine ybi rfl rfl rfl rfl (ycg rfl rfl rfl rfl rfl (zic rfl zin) rfl rfl rfl rfl (fun b23=>ybm 1 (by kernel_rfl) (ybi rfl rfl rfl rfl (ycg rfl rfl rfl rfl rfl zin rfl rfl rfl rfl (fun b17=>ybm 3 (by kernel_rfl) ?_)))))
  refine ybi rfl rfl rfl rfl (ylz (enc:=Zb.enc) rfl rfl rfl rfl rfl (fun _=>rfl) rfl rfl rfl (by exact zph) hl19 (fun a20 c21=>?_))
  refine ybm 6 (by kernel_rfl) ?_
  refine ybi rfl rfl rfl rfl (pl_fz (yci (enc:=Zb.enc) rfl rfl rfl rfl rfl rfl rfl rfl rfl zm1 (by exact zph) hl25 (fun a26 c27=>⟨_,_,_,_,_,_,_,rfl,by (repeat (first | exact zph | apply zpt)),?_⟩)))
  refine ybm 8 (by kernel_rfl) (ymu rfl rfl rfl rfl rfl rfl (yhj hx28) (yde 9 (by kernel_rfl) rfl rfl rfl rfl (yfr (p:=.tup [pL Zg.enc x28.1,pI x28.2]) rfl (.p rfl)) (yde 10 (by kernel_rfl) rfl rfl rfl rfl (yih (p:=pL Zg.enc x28.1) rfl (.p rfl) rfl) (yde 11 (by kernel_rfl) rfl rfl rfl rfl (yih (p:=pI x28.2) rfl (.p rfl) rfl) (yde 12 (by kernel_rfl) rfl rfl rfl rfl (ycc (p:=pL Zg.enc x28.1) rfl (.p rfl)) (yde 13 (by kernel_rfl) rfl rfl rfl rfl (ycc (p:=pI x28.2) rfl (.p rfl)) (yeu (by kernel_rfl) ?_)))))))
  exact yaz () (zh4 rfl rfl rfl rfl) zsn trivial
 rintro _ τ _;dsimp only [pupds]
 refine yaa (yaa (yac [] [] [(17,pI 0)] fo0 (by kernel_rfl) (yab (yad h fun q31 hq31 h=>?_))))
 refine yav (Y:=(Unit)×(Unit)) (fun (_,_)=>[(14,pI x16.2),(16,pI x28.2)]) (fun (_,_)=>[]) (fun (_,_)=>q31=Sum.inl ()) ?_ ?_
 ·refine yak ?_
  refine yay (Y:=Unit) (S:=Int) _ hq31 (fun _ v29=>[(13,pL Zg.enc x16.1),(14,pI x16.2),(15,pL Zg.enc x28.1),(16,pI x28.2),(17,pI v29)]) (fun _ v29=>[]) () (zh5 rfl rfl rfl rfl rfl) zsn ?_
  rintro _ v29 o τ hb30;(try dsimp only at hb30);dsimp only [pupds]
  refine yaa (yaa (yac [] [48,49,50] [(51,pB (decide (v29<(x16.1.length:Int))))] fo0 (by kernel_rfl) (yab (zif rfl hb30 (fun hc32 hb30=>?_) fun hc32 hb30=>?_))))
  ·refine yag ?_
   refine yab (yaa (yak (yaa (yad hb30 fun m33 hm33 hb30=>yad hb30 fun x34 hx34 hb30=>yac [] (rg 54 7) [(61,pB (!x34))] (ymr 3 Zg.enc hm33 (yfg 6 (yoh hx34) fo0)) (by kernel_rfl) (yab (zif rfl hb30 (fun hc35 hb30=>?_) fun hc35 hb30=>?_))))))
   ·refine yaa ?_
    refine yac [] [] [(8,pB false)] fo0 (by kernel_rfl) (yab (yai (yaf (yah ?_))))
    refine yba hb30 (fun ht=>?_);subst ht
    refine yaf (ybb ?_)
    obtain rfl:=osi h
    exact zq rfl ⟨rfl,rfl⟩
   refine yag ?_
   refine yal (yab (yac [] [52,53] [(17,pI (IntKind.i64.wrap (v29+1)))] fo0 (by kernel_rfl) ?_))
   exact ybu hb30 () (zh5 rfl rfl rfl rfl rfl) zsn
  refine ybd ?_
  refine yap (yam hb30 (fun ht=>yao rfl ?_))
  exact yaz ((),()) (zh2 rfl rfl) zsn ht.symm
 rintro ⟨_,_⟩ τ hz;(try dsimp only at hz);subst q31;(try dsimp only at h);dsimp only [pupds]
 refine yaa (yad h fun x36 hx36 h=>yac [] (rg 62 9) [(8,pB (((x16.2 == 0)&&(x28.2 == 0))&&x36))] (ylk 7 (fun hc=>yxf (yoq hx36 hc)) fo0) (by kernel_rfl) (yab (yai ?_)))
 obtain rfl:=osi h
 exact zq rfl ⟨rfl,rfl⟩
end SX
namespace SX
open Go
theorem yni {S T:Type} {body:S→Option (S⊕T)} (P:S→Prop) (μ:S→Nat) (Q:T→Prop) (step:∀ s,P s→(∃ s',body s=some (.inl s')∧P s'∧μ s'<μ s)∨∃ t,body s=some (.inr t)∧Q t):∀ (N:Nat) (s:S),P s→μ s<N→∃ t,loopF body N s=some t∧Q t:=by
 intro N
 induction N with
 | zero=>intro s _ h;exact absurd h (Nat.not_lt_zero _)
 | succ N ih =>
  intro s hp hm
  rw [yga]
  rcases step s hp with ⟨s',h1,h2,h3⟩ | ⟨t,h1,h2⟩
  ·rw [h1];exact ih s' h2 (by omega)
  rw [h1];exact ⟨t,rfl,h2⟩
theorem ix0 {α:Type} {a b:α}:idx [a,b] 0=some a:=rfl
theorem ix1 {α:Type} {a b:α}:idx [a,b] 1=some b:=rfl
theorem cap_eq (c:Int):yeo c=some (decide (65≤c)&&decide (c≤90)):=rfl
def ctry (s:ByteArray):Bool:=match s.data.toList with | [a,b]=>decide (65≤(a.toNat:Int))&&decide ((a.toNat:Int)≤90)&&decide (65≤(b.toNat:Int))&&decide ((b.toNat:Int)≤90) | _=>false
theorem xgg {s:ByteArray} (h:((s.size:Int) == 2)=true):∃ a b,s.data.toList=[a,b]:=by
 have h2:s.data.toList.length=2:=by
  have:=eq_of_beq h
  rw [Array.length_toList];have e:s.size=s.data.size:=rfl;omega
 match hd:s.data.toList,h2 with
 | [a,b],_=>exact ⟨a,b,rfl⟩
theorem xld {s:ByteArray} (h:((s.size:Int) == 2)=false):ctry s=false:=by
 unfold ctry
 split
 ·rename_i a b hd
  have e:s.size=s.data.toList.length:=by rw [Array.length_toList];rfl
  rw [hd] at e
  have e2:(s.size:Int)=2:=by rw [e];rfl
  rw [e2] at h;cases h
 rfl
theorem yky (s:ByteArray):ycd s=some (ctry s):=by
 unfold ycd
 cases h:((s.size:Int) == 2)
 ·rw [xld h];rfl
 obtain ⟨a,b,hd⟩:=xgg h
 simp only [Bool.true_and,yee,cap_eq]
 rw [hd]
 simp only [ctry,hd]
 rw [bnd ix0]
 simp only [obs]
 cases h1:(decide (65≤(a.toNat:Int))&&decide ((a.toNat:Int)≤90))
 ·rfl
 simp only [yee,Bool.true_and];rw [bnd ix1];rfl
theorem yrm (s:ByteArray):ygs s=some (ctry s):=by
 unfold ygs
 cases h:((s.size:Int) == 2)
 ·rw [xld h];rfl
 obtain ⟨a,b,hd⟩:=xgg h
 simp only [Bool.true_and,yee]
 rw [hd]
 simp only [ctry,hd]
 rw [bnd ix0]
 cases h1:decide (65≤(a.toNat:Int))
 ·rfl
 simp only [yee,Bool.true_and];rw [bnd ix0]
 cases h2:decide ((a.toNat:Int)≤90)
 ·rfl
 simp only [yee,Bool.true_and];rw [bnd ix1]
 cases h3:decide (65≤(b.toNat:Int))
 ·rfl
 simp only [yee,Bool.true_and];rw [bnd ix1]
theorem yvy (s:ByteArray) (hs:s.size≤140737488355328):yif s=some (level s):=by
 have hz:s.size=s.data.toList.length:=by rw [Array.length_toList];rfl
 unfold yif
 obtain ⟨t,h5,h6⟩:=yni (body:=fun v1=>cond (decide (v1<(s.size:Int))) (Option.bind (idx s.data.toList v1) (fun c5=>Option.bind (gd (!(decide ((c5.toNat:Int)<48))) (idx s.data.toList v1)) (fun c6=>cond ((decide ((c5.toNat:Int)<48))||(decide (57<(c6.toNat:Int)))) (some (.inr (.inr 0))) (some (.inl (IntKind.i64.wrap (v1+1))))))) (some (.inr (.inl ()))))
  (fun v:Int=>0≤v∧v≤s.size∧∀ j,(h:j<s.data.toList.length)→(j:Int)<v→isDig (s.data.toList[j]).toNat=true) (fun v=>(s.size:Int).toNat - v.toNat) (fun t:Unit⊕Int=>(t=.inl ()∧allDig s=true)∨(t=.inr 0∧allDig s=false))
  (fun v hv=>by
   obtain ⟨a1,a2,a3⟩:=hv
   by_cases hl:v<(s.size:Int)
   ·rw [det hl];simp only [cot]
    obtain ⟨k,rfl⟩:∃ k:Nat,v=(k:Int):=⟨v.toNat,by omega⟩
    have hk:k<s.data.toList.length:=by omega
    rw [bnd (yax hk)]
    by_cases hd:isDig (s.data.toList[k]).toNat=true
    ·left
     have hd2:=hd
     simp only [isDig,decide_eq_true_eq] at hd2
     rw [ydl (show ¬ ((s.data.toList[k].toNat:Nat):Int)<48 by omega)]
     simp only [Bool.not_false,yee,Bool.false_or]
     rw [bnd (yax hk),ydl (show ¬ 57<((s.data.toList[k].toNat:Nat):Int) by omega)]
     simp only [cof]
     rw [ygo (by omega) (by omega)]
     refine ⟨_,rfl,⟨by omega,by omega,fun j h1 h2=>?_⟩,by omega⟩
     by_cases hj:j=k
     ·subst hj;exact hd
     exact a3 j h1 (by omega)
    right
    refine ⟨.inr 0,?_,.inr ⟨rfl,?_⟩⟩
    ·have hd2:=hd
     simp only [isDig,decide_eq_true_eq] at hd2
     by_cases h48:((s.data.toList[k].toNat:Nat):Int)<48
     ·rw [det h48];rfl
     rw [ydl h48]
     simp only [Bool.not_false,yee,Bool.false_or]
     rw [bnd (yax hk),det (show 57<((s.data.toList[k].toNat:Nat):Int) by omega)];rfl
    cases ha:allDig s
    ·rfl
    exfalso;apply hd
    unfold allDig bl at ha
    exact List.all_eq_true.1 ha _ (List.getElem_mem hk)
   right
   rw [ydl hl]
   refine ⟨.inl (),rfl,.inl ⟨rfl,?_⟩⟩
   unfold allDig bl
   rw [List.all_eq_true]
   intro c hc
   obtain ⟨j,hj,rfl⟩:=List.getElem_of_mem hc
   exact a3 j hj (by omega))
  FUEL 0 ⟨by omega,by omega,fun j _ h=>by omega⟩ (ykr (by omega))
 rw [bnd h5]
 unfold level
 rcases h6 with ⟨rfl,h⟩ | ⟨rfl,h⟩
 ·simp only [h,and_true]
  by_cases h8:(8:Int)<(s.size:Int)
  ·rw [det h8,if_neg (by omega)];rfl
  rw [ydl h8]
  simp only [Bool.false_or]
  have e:Int.tmod (s.size:Int) 2=(s.size:Int) % 2:=Int.tmod_eq_emod_of_nonneg (by omega)
  rw [e]
  by_cases hp:(s.size:Int) % 2=1
  ·rw [hp,if_neg (by omega)];rfl
  have:((s.size:Int) % 2 == 1)=false:=by simpa using hp
  rw [this]
  by_cases h0:s.size=0
  ·rw [if_neg (by omega),h0];rfl
  rw [if_pos (by omega)];rfl
 simp [h]
theorem yvz (s:ByteArray):s.size=s.data.toList.length:=by rw [Array.length_toList];rfl
def letter (c:UInt8):Bool:=decide (97≤c.toNat)&&decide (c.toNat≤122)
def wordB (s:ByteArray):Bool:=decide (1≤s.size)&&decide (s.size≤12)&&s.data.toList.all letter
theorem xgh (s:ByteArray) (hs:s.size≤140737488355328):yqa s=some (wordB s):=by
 unfold yqa wordB
 have hz:=yvz s
 rw [hz] at hs ⊢
 generalize s.data.toList=l at hs ⊢
 refine (ybz (l:=l) (by omega) (fun _ c=>cond (letter c) none (some (.inr false))) (.inl ()) (fun k hk=>?_) (by simp only [yhb,cof])).trans ?_
 ·simp only [dlt hk,cot,yax hk,obs,ycw hk (show l.length≤4611686018427387904 by omega),letter]
  generalize l[k]=c
  by_cases h1:c.toNat<97
  ·rw [show decide ((c.toNat:Int)<97)=true from det (by omega),show decide (97≤c.toNat)=false from ydl (by omega)];rfl
  rw [show decide ((c.toNat:Int)<97)=false from ydl (by omega),show decide (97≤c.toNat)=true from det (by omega)]
  simp only [Bool.not_false,yee,obs,Bool.false_or,Bool.true_and]
  by_cases h2:122<c.toNat
  ·rw [show decide ((122:Int)<(c.toNat:Int))=true from det (by omega),show decide (c.toNat≤122)=false from ydl (by omega)];rfl
  rw [show decide ((122:Int)<(c.toNat:Int))=false from ydl (by omega),show decide (c.toNat≤122)=true from det (by omega)];rfl
 rw [yrw]
 have i1:decide ((1:Int)≤(l.length:Int))=decide (1≤l.length):=decide_eq_decide.2 (by omega)
 have i2:decide ((l.length:Int)≤(12:Int))=decide (l.length≤12):=decide_eq_decide.2 (by omega)
 cases l.all letter
 ·simp
 simp [i1,i2]
theorem xle (s:ByteArray) (hs:s.size≤140737488355328):ykb s=some (wordB s):=by
 unfold ykb wordB
 have i1:decide ((s.size:Int)<1) = !decide (1≤s.size):=by rw [← decide_not];exact decide_eq_decide.2 (by omega)
 have i2:decide ((12:Int)<(s.size:Int)) = !decide (s.size≤12):=by rw [← decide_not];exact decide_eq_decide.2 (by omega)
 rw [i1,i2]
 cases h1:decide (1≤s.size)
 ·rfl
 cases h2:decide (s.size≤12)
 ·rfl
 simp only [Bool.not_true,Bool.or_self,cof,Bool.true_and]
 have key:∀ n pos N,s.size - pos=n→pos≤s.size→n<N→loopF (yjk s) N pos=some ((s.data.toList.drop pos).all letter):=by
  intro n
  induction n with
  | zero =>
   intro pos N hn hp hN
   obtain ⟨N,rfl⟩:∃ M,N=M+1:=⟨N - 1,by omega⟩
   have:Nat.blt pos s.size=false:=by cases hb:Nat.blt pos s.size;rfl;simp [Nat.blt] at hb;omega
   rw [yga,yjk,this]
   rw [List.drop_of_length_le (by rw [← yvz];omega)];rfl
  | succ n ih =>
   intro pos N hn hp hN
   obtain ⟨N,rfl⟩:∃ M,N=M+1:=⟨N - 1,by omega⟩
   have hlt:pos<s.size:=by omega
   have hb:Nat.blt pos s.size=true:=by simp [Nat.blt];omega
   have hlt2:pos<s.data.toList.length:=by rw [← yvz];exact hlt
   have hget:s[pos]=s.data.toList[pos]:=by
    rw [Array.getElem_toList];rfl
   rw [yga,yjk,hb,List.drop_eq_getElem_cons hlt2,List.all_cons,← hget]
   by_cases ha:(s[pos]'hlt).toNat<128
   ·rw [decode_ascii s pos hlt ha]
    simp only [cot,letter]
    by_cases h1:(s[pos]'hlt).toNat<97
    ·rw [show decide (((s[pos]'hlt).toNat:Int)<97)=true from det (by omega),show decide (97≤(s[pos]'hlt).toNat)=false from ydl (by omega)];rfl
    by_cases h2:122<(s[pos]'hlt).toNat
    ·rw [show decide ((122:Int)<((s[pos]'hlt).toNat:Int))=true from det (by omega),show decide ((s[pos]'hlt).toNat≤122)=false from ydl (by omega),Bool.or_true,Bool.and_false];rfl
    rw [ydl (by omega),ydl (by omega),det (Nat.not_lt.1 h1),det (Nat.not_lt.1 h2)]
    exact ih (pos+1) N (by omega) (by omega) (by omega)
   have hh:=decode_high s pos hlt (by omega)
   have h122:¬ (s[pos]'hlt).toNat≤122:=by omega
   have:decide (122<((Utf8.decode s pos).1:Int))=true:=det (by omega)
   simp [this,letter,h122]
 have:=key s.size 0 FUEL (by omega) (by omega) (ykr (by omega))
 rw [this,List.drop_zero]
def ascB (lt:ByteArray→ByteArray→Bool):List ByteArray→Bool
 | []=>true
 | [_]=>true
 | a::b::l=>lt a b&&ascB lt (b::l)
def okAt (p:ByteArray→Bool) (l:List ByteArray) (k:Nat) (x:ByteArray):Bool:=p x&&(!decide (0<k)||ltS (l.getD (k - 1) x) x)
theorem xgi (p:ByteArray→Bool) (l:List ByteArray):(∀ i x,l[i]?=some x→okAt p l i x=true)↔(l.all p&&ascB ltS l)=true:=by
 have key:∀ (l:List ByteArray),(∀ i,(h:i+1<l.length)→ltS l[i] l[i+1]=true)↔ascB ltS l=true:=by
  intro l
  induction l with
  | nil=>simp [ascB]
  | cons a l ih =>
   cases l with
   | nil=>simp [ascB]
   | cons b l =>
    rw [ascB,Bool.and_eq_true,← ih]
    constructor
    ·intro h;exact ⟨h 0 (by simp),fun i hi=>h (i+1) (by simpa using hi)⟩
    rintro ⟨h1,h2⟩ i hi
    cases i with
    | zero=>exact h1
    | succ i=>exact h2 i (by simpa using hi)
 rw [Bool.and_eq_true,← key,List.all_eq_true]
 constructor
 ·intro h
  refine ⟨fun x hx=>?_,fun i hi=>?_⟩
  ·obtain ⟨i,hi,rfl⟩:=List.getElem_of_mem hx
   have:=h i _ (List.getElem?_eq_getElem hi)
   simp only [okAt,Bool.and_eq_true] at this
   exact this.1
  have:=h (i+1) _ (List.getElem?_eq_getElem hi)
  simp only [okAt,Bool.and_eq_true,Nat.zero_lt_succ,decide_true,Bool.not_true,Bool.false_or,Nat.add_sub_cancel] at this
  rw [yfs (by omega)] at this
  exact this.2
 rintro ⟨h1,h2⟩ i x hx
 obtain ⟨hi,rfl⟩:=List.getElem?_eq_some_iff.1 hx
 simp only [okAt,h1 _ (List.getElem_mem hi),Bool.true_and]
 by_cases h0:0<i
 ·rw [det h0,Bool.not_true,Bool.false_or,yfs (by omega)]
  obtain ⟨j,rfl⟩:∃ j,i=j+1:=⟨i - 1,by omega⟩
  exact h2 j hi
 simp [h0]
theorem ynj {T:Type} (p:ByteArray→Bool) (l:List ByteArray) (t:T):findS (fun k x=>cond (okAt p l k x) none (some t)) l 0=cond (l.all p&&ascB ltS l) none (some t):=by
 have hn:=ymx (g:=fun k x=>cond (okAt p l k x) none (some t)) (l:=l) (k:=0)
 cases h:(l.all p&&ascB ltS l)
 ·cases hf:findS (fun k x=>cond (okAt p l k x) none (some t)) l 0 with
  | none =>
   exfalso
   have:(l.all p&&ascB ltS l)=true:=by
    rw [← xgi]
    intro i x hx
    have:=hn.1 hf i x hx
    rw [Nat.zero_add] at this
    cases hk:okAt p l i x
    ·rw [hk] at this;cases this
    rfl
   rw [h] at this;cases this
  | some u =>
   have:∀ (m:List ByteArray) (k:Nat) (u:T),findS (fun k x=>cond (okAt p l k x) none (some t)) m k=some u→u=t:=by
    intro m
    induction m with
    | nil=>intro k u h;cases h
    | cons x m ih =>
     intro k u h
     rw [findS] at h
     cases hk:okAt p l k x
     ·rw [hk] at h;injection h with h;exact h.symm
     rw [hk] at h;exact ih _ _ h
   rw [this _ _ _ hf];rfl
 rw [cot,hn]
 intro i x hx
 rw [Nat.zero_add,(xgi p l).2 h i x hx];rfl
def wordsB (l:List ByteArray):Bool:=decide (l.length≤8)&&(l.all wordB&&ascB ltS l)
def StrsOk (l:List ByteArray):Prop:=l.length≤140737488355328∧∀ s∈l,s.size≤140737488355328
theorem ysw (l:List ByteArray) (hl:StrsOk l):ydo l=some (wordsB l):=by
 obtain ⟨hl,hs⟩:=hl
 unfold ydo wordsB
 have i2:decide ((8:Int)<(l.length:Int)) = !decide (l.length≤8):=by rw [← decide_not];exact decide_eq_decide.2 (by omega)
 rw [i2]
 cases decide (l.length≤8)
 ·rfl
 simp only [Bool.not_true,cof,Bool.true_and]
 refine (ybz (l:=l) (by omega) (fun k x=>cond (okAt wordB l k x) none (some (.inr false))) (.inl ()) (fun k hk=>?_) (by simp only [yhb,cof])).trans ?_
 ·have h62:l.length≤4611686018427387904:=by omega
  simp only [dlt hk,cot,yax hk,obs,xle _ (hs _ (List.getElem_mem hk)),d0k,ycw hk h62,okAt]
  cases hw:wordB l[k]
  ·rfl
  by_cases h0:0<k
  ·simp only [h0,decide_true,Bool.not_true,Bool.not_false,Bool.and_true,Bool.true_and,Bool.false_or,yee,ygz h0 hk h62,obs,yfs (show k - 1<l.length by omega),ltS,yzn]
   cases Op.bytesLess (l[k-1]'(by omega)).toList l[k].toList <;> rfl
  simp only [h0,decide_false,Bool.and_false,ymw,obs,Bool.not_true,Bool.false_or,Bool.false_and,cof,Bool.not_false,Bool.true_and,Bool.true_or,Bool.or_false];rfl
 rw [ynj]
 cases (l.all wordB&&ascB ltS l) <;> rfl
mutual
def dep:Zc→Nat
 | ⟨_,_,_,_,_,_,l⟩=>1+deps l
def deps:List Zc→Nat
 | []=>0
 | a::l=>max (dep a) (deps l)
end
mutual
def cnt:Zc→Nat
 | ⟨_,_,_,_,_,_,l⟩=>1+cnts l
def cnts:List Zc→Nat
 | []=>0
 | a::l=>cnt a+cnts l
end
theorem yop (r:Zc):dep r=1+deps r.Args:=by cases r;rw [dep]
theorem ytg (r:Zc):cnt r=1+cnts r.Args:=by cases r;rw [cnt]
theorem xlf:∀ {l:List Zc} {a:Zc},a∈l→dep a≤deps l
 | b::l,a,h=>by
  rw [deps]
  rcases List.mem_cons.1 h with rfl | h
  ·omega
  have:=xlf h;omega
theorem ylt {r a:Zc} (h:a∈r.Args):dep a<dep r:=by rw [yop r];have:=xlf h;omega
mutual
theorem ywa:∀ r:Zc,dep r≤cnt r
 | ⟨_,_,_,_,_,_,l⟩=>by rw [dep,cnt];have:=xby l;omega
theorem xby:∀ l:List Zc,deps l≤cnts l
 | []=>by rw [deps,cnts];exact Nat.le_refl _
 | a::l=>by rw [deps,cnts];have h1:=ywa a;have h2:=xby l;omega
end
inductive ROk:Zc→Prop
 | mk (r:Zc) (h1:StrsOk r.Except) (h2:r.Name.size≤140737488355328) (h3:r.Args.length≤140737488355328) (h4:∀ a∈r.Args,ROk a):ROk r
theorem ROk.ex {r:Zc} (h:ROk r):StrsOk r.Except:=by cases h;assumption
theorem ROk.nm {r:Zc} (h:ROk r):r.Name.size≤140737488355328:=by cases h;assumption
theorem ROk.len {r:Zc} (h:ROk r):r.Args.length≤140737488355328:=by cases h;assumption
theorem ROk.arg {r:Zc} (h:ROk r) {a:Zc} (ha:a∈r.Args):ROk a:=by cases h with | mk _ _ _ _ h4=>exact h4 a ha
theorem nodes_F (n:Nat):∀ (r:Zc) (lim:Nat),ROk r→dep r≤n→1≤lim→lim≤1000→yme n r (lim:Int)=some ((min (cnt r) lim:Nat):Int):=by
 induction n with
 | zero=>intro r lim _ hd;rw [yop] at hd;omega
 | succ n ih =>
  intro r lim hr hd h1 h2
  have hl:=hr.len
  show yjw (yme n) r (lim:Int)=_
  unfold yjw
  refine (yks (l:=r.Args) (by omega) (fun i (a:Nat)=>((a:Int),i)) (fun _ x a=>cond (Nat.ble lim a) (.inr ()) (.inl (min (a+cnt x) lim))) (fun (a:Nat)=>.inl (a:Int)) (fun (_:Unit)=>.inr (lim:Int)) (fun _ a=>a≤lim) 1 h1 (fun k hk a ha=>⟨?_,fun a' h=>?_⟩) (fun a ha=>?_)).trans ?_
  ·simp only [dlt hk,cot,yax hk,obs]
   cases hb:Nat.ble lim a
   ·have hlt:a<lim:=by rcases Nat.lt_or_ge a lim with h | h;exact h;rw [Nat.ble_eq_true_of_le h] at hb;cases hb
    rw [show decide ((lim:Int)≤(a:Int))=false from ydl (by omega),ygo (by omega) (by omega),show (lim:Int) - (a:Int)=((lim - a:Nat):Int) by omega,
     ih _ (lim - a) (hr.arg (List.getElem_mem hk)) (by have:=ylt (List.getElem_mem hk);omega) (by omega) (by omega)]
    simp only [cof,obs,ycw hk (show r.Args.length≤4611686018427387904 by omega),outc]
    rw [ygo (by omega) (by omega),show (a:Int)+((min (cnt r.Args[k]) (lim - a):Nat):Int)=((min (a+cnt r.Args[k]) lim:Nat):Int) by omega]
   have hle:=Nat.le_of_ble_eq_true hb
   rw [show decide ((lim:Int)≤(a:Int))=true from det (by omega)];rfl
  ·cases hb:Nat.ble lim a
   ·rw [hb] at h;injection h with h;omega
   rw [hb] at h;cases h
  ·simp only [yhb,cof]
  have key:∀ (l:List Zc) (i a:Nat),a≤lim→outf (fun (a:Nat)=>(a:Int)) (fun (_:Unit)=>(lim:Int)) (run (fun _ x a=>cond (Nat.ble lim a) (.inr ()) (.inl (min (a+cnt x) lim))) l i a)=((min (a+cnts l) lim:Nat):Int):=by
   intro l
   induction l with
   | nil=>intro i a ha;rw [cnts];show (a:Int)=_;omega
   | cons x l ihl =>
    intro i a ha
    rw [yjp,cnts]
    cases hb:Nat.ble lim a
    ·exact (ihl _ _ (by omega)).trans (by omega)
    have hle:=Nat.le_of_ble_eq_true hb
    show (lim:Int)=_;omega
  have k2:∀ (o:Nat⊕Unit),(match (outf (fun (a:Nat)=>.inl (a:Int)) (fun (_:Unit)=>.inr (lim:Int)) o:Int⊕Int) with | .inl v4=>some v4 | .inr e=>some e)=some (outf (fun (a:Nat)=>(a:Int)) (fun (_:Unit)=>(lim:Int)) o):=fun o=>by cases o <;> rfl
  rw [ytg]
  exact (k2 _).trans (congrArg some (key _ _ _ h1))
theorem xhy (n:Nat):∀ (r:Zc),ROk r→dep r≤n→yny n r=some ((min (cnt r) 33:Nat):Int):=by
 induction n with
 | zero=>intro r _ hd;rw [yop] at hd;omega
 | succ n ih =>
  intro r hr hd
  have hl:=hr.len
  show ynx (yny n) r=_
  unfold ynx
  refine (yks (l:=r.Args) (by omega) (fun i (a:Nat)=>((a:Int),i)) (fun _ x a=>cond (Nat.ble a 32) (.inl (a+min (cnt x) 33)) (.inr a)) (fun a=>(a:Int)) (fun (a:Nat)=>(a:Int)) (fun _ a=>a≤1000) 1 (by omega) (fun k hk a ha=>⟨?_,fun a' h=>?_⟩) (fun a ha=>?_)).trans ?_
  ·simp only [dlt hk,Bool.true_and,yax hk,obs]
   cases hb:Nat.ble a 32
   ·have hlt:32<a:=by rcases Nat.lt_or_ge 32 a with h | h;exact h;rw [Nat.ble_eq_true_of_le h] at hb;cases hb
    rw [show decide ((a:Int)≤32)=false from ydl (by omega)];rfl
   have hle:=Nat.le_of_ble_eq_true hb
   rw [show decide ((a:Int)≤32)=true from det (by omega),ih _ (hr.arg (List.getElem_mem hk)) (by have:=ylt (List.getElem_mem hk);omega)]
   simp only [cot,obs,ycw hk (show r.Args.length≤4611686018427387904 by omega),outc]
   rw [ygo (by omega) (by omega),show (a:Int)+((min (cnt r.Args[k]) 33:Nat):Int)=((a+min (cnt r.Args[k]) 33:Nat):Int) by omega]
  ·cases hb:Nat.ble a 32
   ·rw [hb] at h;cases h
   have hle:=Nat.le_of_ble_eq_true hb
   rw [hb] at h;injection h with h;omega
  ·simp only [yhb,Bool.false_and,cof]
  have key:∀ (l:List Zc) (i a:Nat),∃ q:Nat,outf (fun (a:Nat)=>(a:Int)) (fun (a:Nat)=>(a:Int)) (run (fun _ x a=>cond (Nat.ble a 32) (.inl (a+min (cnt x) 33)) (.inr a)) l i a)=(q:Int)∧min q 33=min (a+cnts l) 33:=by
   intro l
   induction l with
   | nil=>intro i a;exact ⟨a,rfl,by rw [cnts];omega⟩
   | cons x l ihl =>
    intro i a
    rw [yjp,cnts]
    cases hb:Nat.ble a 32
    ·have hlt:32<a:=by rcases Nat.lt_or_ge 32 a with h | h;exact h;rw [Nat.ble_eq_true_of_le h] at hb;cases hb
     exact ⟨a,rfl,by omega⟩
    obtain ⟨q,h1,h2⟩:=ihl (i+1) (a+min (cnt x) 33)
    exact ⟨q,h1,by omega⟩
  obtain ⟨q,h1,h2⟩:=key r.Args 0 1
  rw [ytg,← h2,h1]
  congr 1;unfold imin;split <;> omega
def lev (s:ByteArray):Bool := !(level s == 0)
def codesB (l:List ByteArray):Bool:=decide (l.length≤6)&&(l.all lev&&ascB ltS l)
def mil (n:Int):Bool:=decide (0≤n)&&decide (n≤1000000)
def plainB (r:Zc):Bool:=(r.Kind == 2||(r.Digits == 0&&r.Except.isEmpty&&r.Tolerance == 0))&&(r.Kind == 3||r.Limit == 0)&&(r.Kind == 4||decide (r.Name=⟨#[]⟩))&&(r.Kind == 5||r.Kind == 6||r.Args.isEmpty)
def leafB (r:Zc):Bool:=cond (r.Kind == 1) true (cond (r.Kind == 2) ((r.Digits == 2||r.Digits == 4||r.Digits == 6)&&codesB r.Except&&mil r.Tolerance) (cond (r.Kind == 3) (mil r.Limit) (cond (r.Kind == 4) (wordB r.Name) false)))
mutual
def ruleB:Zc→Bool
 | ⟨k,d,e,t,m,n,l⟩=>plainB ⟨k,d,e,t,m,n,l⟩&&cond (k == 5||k == 6) (decide (2≤l.length)&&decide (l.length≤6)&&rulesB k l) (leafB ⟨k,d,e,t,m,n,l⟩)
def rulesB (k:Int):List Zc→Bool
 | []=>true
 | a::l=>(!(a.Kind == k)&&ruleB a)&&rulesB k l
end
theorem yye (k:Int):∀ l:List Zc,rulesB k l=l.all fun a => !(a.Kind == k)&&ruleB a
 | []=>by rw [rulesB];rfl
 | a::l=>by rw [rulesB,yye k l];rfl
theorem yhq (r:Zc):ruleB r=(plainB r&&cond (r.Kind == 5||r.Kind == 6) (decide (2≤r.Args.length)&&decide (r.Args.length≤6)&&r.Args.all fun a => !(a.Kind == r.Kind)&&ruleB a) (leafB r)):=by
 cases r;rw [ruleB,yye]
theorem len0 {α:Type} (l:List α):((l.length:Int) == 0)=l.isEmpty:=by cases l <;> rfl
theorem len0' {α:Type} (l:List α):decide (0<(l.length:Int)) = !l.isEmpty:=by cases l with
 | nil=>rfl
 | cons a l=>exact det (by rw [List.length_cons];omega)
theorem xhz (r:Zc):yna r=some (plainB r):=by
 unfold yna plainB
 rw [len0,len0']
 simp only [bne]
 cases (r.Kind == 2) <;> cases (r.Digits == 0) <;> cases r.Except.isEmpty <;> cases (r.Tolerance == 0) <;> cases (r.Kind == 3) <;> cases (r.Limit == 0) <;> cases (r.Kind == 4) <;> cases decide (r.Name=⟨#[]⟩) <;> rfl
theorem xlg (r:Zc):yrj r=some (plainB r):=by
 unfold yrj plainB
 rw [len0,len0']
 simp only [bne]
 cases (r.Kind == 2) <;> cases (r.Digits == 0) <;> cases r.Except.isEmpty <;> cases (r.Tolerance == 0) <;> cases (r.Kind == 3) <;> cases (r.Limit == 0) <;> cases (r.Kind == 4) <;> cases decide (r.Name=⟨#[]⟩) <;> rfl
theorem xia (l:List ByteArray) (hl:StrsOk l):yhi l=some (codesB l):=by
 obtain ⟨hl,hs⟩:=hl
 unfold yhi codesB
 have i2:decide ((6:Int)<(l.length:Int)) = !decide (l.length≤6):=by rw [← decide_not];exact decide_eq_decide.2 (by omega)
 rw [i2]
 cases decide (l.length≤6)
 ·rfl
 simp only [Bool.not_true,cof,Bool.true_and]
 refine (ybz (l:=l) (by omega) (fun k x=>cond (okAt lev l k x) none (some (.inr false))) (.inl ()) (fun k hk=>?_) (by simp only [yhb,cof])).trans ?_
 ·have h62:l.length≤4611686018427387904:=by omega
  simp only [dlt hk,cot,yax hk,obs,show ∀ s,ydn s=some (level s) from fun _=>rfl,d0k,ycw hk h62,okAt,lev]
  cases hw:(level l[k] == 0)
  ·by_cases h0:0<k
   ·simp only [h0,decide_true,Bool.not_true,Bool.not_false,Bool.and_true,Bool.true_and,Bool.false_or,yee,ygz h0 hk h62,obs,yfs (show k - 1<l.length by omega),ltS,yzn]
    cases Op.bytesLess (l[k-1]'(by omega)).toList l[k].toList <;> rfl
   simp only [h0,decide_false,Bool.and_false,ymw,obs,Bool.not_true,Bool.false_or,Bool.false_and,cof,Bool.not_false,Bool.true_and,Bool.true_or,Bool.or_false];rfl
  rfl
 rw [ynj]
 cases (l.all lev&&ascB ltS l) <;> rfl
theorem xlh (l:List ByteArray) (hl:StrsOk l) {β:Type} (k:Unit⊕Bool→Option β):Option.bind (loopF (S:=Int) (T:=(Unit)⊕(_)) (fun v6=>cond (decide (v6<(l.length:Int))) (Option.bind (idx l v6) (fun m10=>Option.bind (yif m10) (fun x11=>Option.bind (gd ((!(x11 == 0))&&(decide (0<v6))) (idx l (IntKind.i64.wrap (v6 - 1)))) (fun m12=>Option.bind (gd ((!(x11 == 0))&&(decide (0<v6))) (idx l v6)) (fun m13=>cond ((x11 == 0)||((decide (0<v6))&&(!Op.bytesLess m12.toList m13.toList))) (some (.inr (.inr false))) (some (.inl (IntKind.i64.wrap (v6+1))))))))) (some (.inr (.inl ())))) FUEL 0) k=k (cond (l.all lev&&ascB ltS l) (.inl ()) (.inr false)):=by
 obtain ⟨hl,hs⟩:=hl
 refine (ybz (l:=l) (by omega) (fun k x=>cond (okAt lev l k x) none (some (.inr false))) (.inl ()) (fun k hk=>?_) (by simp only [yhb,cof])).trans ?_
 ·have h62:l.length≤4611686018427387904:=by omega
  simp only [dlt hk,cot,yax hk,obs,yvy _ (hs _ (List.getElem_mem hk)),d0k,ycw hk h62,okAt,lev]
  cases hw:(level l[k] == 0)
  ·by_cases h0:0<k
   ·simp only [h0,decide_true,Bool.not_true,Bool.not_false,Bool.and_true,Bool.true_and,Bool.false_or,yee,ygz h0 hk h62,obs,yfs (show k - 1<l.length by omega),ltS]
    cases Op.bytesLess (l[k-1]'(by omega)).toList l[k].toList <;> rfl
   simp only [h0,decide_false,Bool.and_false,ymw,obs,Bool.not_true,Bool.false_or,Bool.false_and,cof,Bool.not_false,Bool.true_and,Bool.true_or,Bool.or_false];rfl
  rfl
 rw [ynj]
 cases (l.all lev&&ascB ltS l) <;> rfl
theorem one_word (s:ByteArray) (hs:s.size≤140737488355328):ydo [s]=some (wordB s):=by
 rw [ysw [s] ⟨by simp,by simpa using hs⟩]
 simp [wordsB,ascB]
theorem valid_F (n:Nat):∀ (r:Zc),ROk r→dep r≤n→ymi n r=some (ruleB r):=by
 induction n with
 | zero=>intro r _ hd;rw [yop] at hd;omega
 | succ n ih =>
  intro r hr hd
  have hl:=hr.len
  show ykc (ymi n) r=_
  unfold ykc
  rw [xhz,yhq,obs]
  cases plainB r
  ·rfl
  simp only [Bool.not_true,cof,Bool.true_and]
  cases e1:(r.Kind == 1)
  rotate_left
  ·have:=eq_of_beq e1
   simp only [leafB,e1,this];rfl
  cases e2:(r.Kind == 2)
  rotate_left
  ·have:=eq_of_beq e2
   simp only [leafB,e1,e2,this,cot,cof]
   rw [xia _ hr.ex]
   show _=some (_&&codesB r.Except&&mil r.Tolerance)
   cases (r.Digits == 2||r.Digits == 4||r.Digits == 6)
   ·rfl
   simp only [yee,Bool.true_and,obs]
   cases codesB r.Except <;> rfl
  cases e3:(r.Kind == 3)
  rotate_left
  ·have:=eq_of_beq e3
   simp only [leafB,e1,e2,e3,this,cot,cof];rfl
  cases e4:(r.Kind == 4)
  rotate_left
  ·have:=eq_of_beq e4
   simp only [leafB,e1,e2,e3,e4,this,cot,cof]
   rw [one_word _ hr.nm];rfl
  simp only [leafB,e1,e2,e3,e4,cof]
  have e56:(cond (r.Kind == 5) (some (r.Kind == 5)) (some (r.Kind == 6)):Option Bool)=some (r.Kind == 5||r.Kind == 6):=by cases (r.Kind == 5) <;> rfl
  rw [e56,obs]
  cases (r.Kind == 5||r.Kind == 6)
  ·rfl
  simp only [cot]
  have i1:decide ((r.Args.length:Int)<2) = !decide (2≤r.Args.length):=by rw [← decide_not];exact decide_eq_decide.2 (by omega)
  have i2:decide ((6:Int)<(r.Args.length:Int)) = !decide (r.Args.length≤6):=by rw [← decide_not];exact decide_eq_decide.2 (by omega)
  rw [i1,i2]
  cases decide (2≤r.Args.length)
  ·rfl
  cases decide (r.Args.length≤6)
  ·rfl
  simp only [Bool.not_true,Bool.or_self,cof,Bool.true_and]
  refine (ybz (l:=r.Args) (by omega) (fun _ a=>cond (!(a.Kind == r.Kind)&&ruleB a) none (some (.inr false))) (.inl ()) (fun k hk=>?_) (by simp only [yhb,cof])).trans ?_
  ·simp only [dlt hk,cot,yax hk,obs,ycw hk (show r.Args.length≤4611686018427387904 by omega)]
   have h2:=ih _ (hr.arg (List.getElem_mem hk)) (by have:=ylt (List.getElem_mem hk);omega)
   cases (r.Args[k].Kind == r.Kind)
   ·simp only [Bool.not_false,yee,h2,obs,Bool.true_and,Bool.false_or]
    cases ruleB r.Args[k] <;> rfl
   rfl
  rw [yrw]
  cases (r.Args.all fun a => !(a.Kind == r.Kind)&&ruleB a) <;> rfl
theorem right_F (n:Nat):∀ (r:Zc),ROk r→dep r≤n→yoa n r=some (ruleB r):=by
 induction n with
 | zero=>intro r _ hd;rw [yop] at hd;omega
 | succ n ih =>
  intro r hr hd
  have hl:=hr.len
  show ynz (yoa n) r=_
  unfold ynz
  rw [xlg,yhq,obs]
  cases plainB r
  ·rfl
  simp only [Bool.not_true,cof,Bool.true_and]
  cases e1:(r.Kind == 1)
  rotate_left
  ·have:=eq_of_beq e1
   simp only [leafB,e1,this];rfl
  cases e2:(r.Kind == 2)
  rotate_left
  ·have:=eq_of_beq e2
   simp only [leafB,e1,e2,this,cot,cof]
   rw [xlh _ hr.ex]
   show _=some (_&&codesB r.Except&&mil r.Tolerance)
   unfold codesB mil
   have i2:decide ((r.Except.length:Int)≤6)=decide (r.Except.length≤6):=decide_eq_decide.2 (by omega)
   rw [i2]
   cases (r.Except.all lev&&ascB ltS r.Except)
   ·cases (r.Digits == 2||r.Digits == 4||r.Digits == 6) <;> cases decide (r.Except.length≤6) <;> rfl
   cases (r.Digits == 2||r.Digits == 4||r.Digits == 6) <;> cases decide (r.Except.length≤6) <;> rfl
  cases e3:(r.Kind == 3)
  rotate_left
  ·have:=eq_of_beq e3
   simp only [leafB,e1,e2,e3,this,cot,cof];rfl
  cases e4:(r.Kind == 4)
  rotate_left
  ·have:=eq_of_beq e4
   simp only [leafB,e1,e2,e3,e4,this,cot,cof]
   rw [xgh _ hr.nm];rfl
  simp only [leafB,e1,e2,e3,e4,cof]
  have e56:(cond (r.Kind == 5) (some (r.Kind == 5)) (some (r.Kind == 6)):Option Bool)=some (r.Kind == 5||r.Kind == 6):=by cases (r.Kind == 5) <;> rfl
  rw [e56,obs]
  cases (r.Kind == 5||r.Kind == 6)
  ·rfl
  simp only [cot]
  have i1:decide ((2:Int)≤(r.Args.length:Int))=decide (2≤r.Args.length):=decide_eq_decide.2 (by omega)
  have i2:decide ((r.Args.length:Int)≤(6:Int))=decide (r.Args.length≤6):=decide_eq_decide.2 (by omega)
  rw [i1,i2]
  refine (ybz (l:=r.Args) (by omega) (fun _ a=>cond (!(a.Kind == r.Kind)&&ruleB a) none (some (.inr false))) (.inl ()) (fun k hk=>?_) (by simp only [yhb,cof])).trans ?_
  ·simp only [dlt hk,cot,yax hk,obs,ycw hk (show r.Args.length≤4611686018427387904 by omega)]
   have h2:=ih _ (hr.arg (List.getElem_mem hk)) (by have:=ylt (List.getElem_mem hk);omega)
   cases (r.Args[k].Kind == r.Kind)
   ·simp only [Bool.not_false,yee,h2,obs,Bool.true_and,Bool.false_or]
    cases ruleB r.Args[k] <;> rfl
   rfl
  rw [yrw]
  cases (r.Args.all fun a => !(a.Kind == r.Kind)&&ruleB a)
  ·simp
  simp
def ruleE (r:Zc):Int:=cond (decide (cnt r≤32)) (cond (ruleB r) 0 1) 8
theorem yse (r:Zc) (hr:ROk r) (hd:dep r≤1000):yfq r=some (ruleE r):=by
 unfold yfq ysr ysu ruleE
 have hf:FUEL=1267650600228229401496703205376:=rfl
 have h1:=nodes_F FUEL r 33 hr (by rw [hf];omega) (by omega) (by omega)
 rw [show ((33:Nat):Int)=33 from rfl] at h1
 rw [h1,obs,valid_F FUEL r hr (by rw [hf];omega)]
 by_cases h:cnt r≤32
 ·rw [ydl (by omega),det h]
  cases ruleB r <;> rfl
 rw [det (by omega),ydl h];rfl
theorem ref_rule (r:Zc) (hr:ROk r) (hd:dep r≤1000):yqc r=some (ruleE r):=by
 unfold yqc yvd yve ruleE
 have hf:FUEL=1267650600228229401496703205376:=rfl
 rw [xhy FUEL r hr (by rw [hf];omega),obs,right_F FUEL r hr (by rw [hf];omega)]
 by_cases h:cnt r≤32
 ·rw [ydl (by omega),det h]
  cases ruleB r <;> rfl
 rw [det (by omega),ydl h];rfl
theorem ynk (r:Zc):ruleE r=0↔cnt r≤32∧ruleB r=true:=by
 unfold ruleE
 by_cases h:cnt r≤32
 ·rw [det h];cases ruleB r <;> simp [h]
 rw [ydl h];simp [h]
structure RFOk (x:Zi):Prop where
 pre:x.Prefix.size≤140737488355328
 rule:ROk x.Rule
 deep:dep x.Rule≤1000
structure AOk (a:Zb):Prop where
 par:StrsOk a.Parties
 len:a.Rules.length≤140737488355328
 rules:∀ x∈a.Rules,RFOk x
structure ASOk (l:List Zb):Prop where
 len:l.length≤140737488355328
 all:∀ a∈l,AOk a
def partiesB (l:List ByteArray):Bool:=l.all ctry&&ascB ltS l
def gRule (l:List Zi) (k:Nat) (x:Zi):Option Int:=cond (lev x.Prefix) (cond (decide (0<k) && !ltS (l.getD (k - 1) x).Prefix x.Prefix) (some 9) (cond (ruleE x.Rule == 0) none (some (ruleE x.Rule)))) (some 1)
def rulesE (l:List Zi):Int:=(findS (gRule l) l 0).getD 0
def gAgr (l:List Zb) (k:Nat) (a:Zb):Option Int :=
 cond (decide (a.ID<1)||decide (1000<a.ID)||decide (a.Kind<1)||decide (3<a.Kind)) (some 2) (cond (decide (0<k)&&decide (a.ID≤(l.getD (k - 1) a).ID)) (some 9) (cond (decide (12<a.Parties.length)||decide (12<a.Rules.length)) (some 8)
  (cond (partiesB a.Parties) (cond (rulesE a.Rules == 0) none (some (rulesE a.Rules))) (some 1))))
def agrE (l:List Zb):Int:=cond (decide (l.length≤8)) ((findS (gAgr l) l 0).getD 0) 8
theorem xbz (l:List ByteArray) (hl:StrsOk l):ydm l=some (partiesB l):=by
 obtain ⟨hl,hs⟩:=hl
 unfold ydm partiesB
 refine (ybz (l:=l) (by omega) (fun k x=>cond (okAt ctry l k x) none (some (.inr false))) (.inl ()) (fun k hk=>?_) (by simp only [yhb,cof])).trans ?_
 ·have h62:l.length≤4611686018427387904:=by omega
  simp only [dlt hk,cot,yax hk,obs,yky,d0k,ycw hk h62,okAt]
  cases hw:ctry l[k]
  ·rfl
  by_cases h0:0<k
  ·simp only [h0,decide_true,Bool.not_true,Bool.not_false,Bool.and_true,Bool.true_and,Bool.false_or,yee,ygz h0 hk h62,obs,yfs (show k - 1<l.length by omega),ltS,yzn]
   cases Op.bytesLess (l[k-1]'(by omega)).toList l[k].toList <;> rfl
  simp only [h0,decide_false,Bool.and_false,ymw,obs,Bool.not_true,Bool.false_or,Bool.false_and,cof,Bool.not_false,Bool.true_and,Bool.true_or,Bool.or_false];rfl
 rw [ynj]
 cases (l.all ctry&&ascB ltS l) <;> rfl
theorem xej (l:List Zi) (hl:l.length≤140737488355328) (hr:∀ x∈l,RFOk x):ydj l=some (rulesE l):=by
 unfold ydj rulesE
 have h62:l.length≤4611686018427387904:=by omega
 refine (ybz (l:=l) h62 (fun k x=>(gRule l k x).map .inr) (.inl ()) (fun k hk=>?_) (by simp only [yhb,cof])).trans ?_
 ·simp only [dlt hk,cot,yax hk,obs,show ∀ s,ydn s=some (level s) from fun _=>rfl,d0k,ycw hk h62,gRule,lev]
  cases hw:(level l[k].Prefix == 0)
  ·have h2:=yse _ (hr _ (List.getElem_mem hk)).rule (hr _ (List.getElem_mem hk)).deep
   by_cases h0:0<k
   ·simp only [h0,decide_true,Bool.true_and,yee,ygz h0 hk h62,obs,yfs (show k - 1<l.length by omega),ltS,yzn,Bool.not_false,cot,cof]
    cases Op.bytesLess (l[k-1]'(by omega)).Prefix.toList l[k].Prefix.toList
    ·rfl
    simp only [Bool.not_true,cof]
    rw [h2]
    simp only [bne]
    cases hz:(ruleE l[k].Rule == 0) <;> simp [hz,outg]
   simp only [h0,decide_false,Bool.false_and,ymw,obs,cof,Bool.not_false,cot]
   rw [h2]
   simp only [bne]
   cases hz:(ruleE l[k].Rule == 0) <;> simp [hz,outg]
  rfl
 have key:∀ (g:Nat→Zi→Option Int) (m:List Zi) (i:Nat),findS (fun k x=>(g k x).map (Sum.inr:Int→Unit⊕Int)) m i=(findS g m i).map Sum.inr:=by
  intro g m
  induction m with
  | nil=>intro i;rfl
  | cons x m ih=>intro i;rw [findS,findS];cases g i x with | none=>exact ih _ | some t=>rfl
 rw [key]
 cases findS (gRule l) l 0 <;> rfl
theorem ysf {α T U:Type} (f:T→U) (g:Nat→α→Option T):∀ (m:List α) (i:Nat),findS (fun k x=>(g k x).map f) m i=(findS g m i).map f
 | [],_=>rfl
 | x::m,i=>by rw [findS,findS];cases g i x with | none=>exact ysf f g m _ | some t=>rfl
theorem xgj (l:List Zb) (hl:ASOk l):ydz l=some (agrE l):=by
 unfold ydz agrE
 have h62:l.length≤4611686018427387904:=by have:=hl.len;omega
 have i1:decide ((8:Int)<(l.length:Int)) = !decide (l.length≤8):=by rw [← decide_not];exact decide_eq_decide.2 (by omega)
 rw [i1]
 cases decide (l.length≤8)
 ·rfl
 simp only [Bool.not_true,cof,cot]
 refine (ybz (l:=l) h62 (fun k x=>(gAgr l k x).map .inr) (.inl ()) (fun k hk=>?_) (by simp only [yhb,cof])).trans ?_
 ·have ha:=hl.all _ (List.getElem_mem hk)
  simp only [dlt hk,cot,yax hk,obs,d0k,ycw hk h62,gAgr]
  have j1:decide ((12:Int)<(l[k].Parties.length:Int))=decide (12<l[k].Parties.length):=decide_eq_decide.2 (by omega)
  have j2:decide ((12:Int)<(l[k].Rules.length:Int))=decide (12<l[k].Rules.length):=decide_eq_decide.2 (by omega)
  rw [xbz _ ha.par,xej _ ha.len ha.rules,j1,j2]
  cases (decide (l[k].ID<1)||decide (1000<l[k].ID)||decide (l[k].Kind<1)||decide (3<l[k].Kind))
  ·by_cases h0:0<k
   ·simp only [h0,decide_true,Bool.true_and,yee,ygz h0 hk h62,obs,yfs (show k - 1<l.length by omega),cof]
    cases decide (l[k].ID≤(l[k-1]'(by omega)).ID)
    ·cases (decide (12<l[k].Parties.length)||decide (12<l[k].Rules.length))
     ·cases partiesB l[k].Parties
      ·rfl
      simp only [cof,cot,Bool.not_true,bne]
      cases hz:(rulesE l[k].Rules == 0) <;> simp [hz,outg]
     rfl
    rfl
   simp only [h0,decide_false,Bool.false_and,ymw,obs,cof]
   cases (decide (12<l[k].Parties.length)||decide (12<l[k].Rules.length))
   ·cases partiesB l[k].Parties
    ·rfl
    simp only [cof,cot,Bool.not_true,bne]
    cases hz:(rulesE l[k].Rules == 0) <;> simp [hz,outg]
   rfl
  rfl
 rw [ysf]
 cases findS (gAgr l) l 0 <;> rfl
theorem ref_agr (l:List Zb) (hl:ASOk l):yib l=some (agrE l):=by
  unfold yib agrE
  have h62:l.length≤4611686018427387904:=by have:=hl.len;omega
  have i1:decide ((8:Int)<(l.length:Int)) = !decide (l.length≤8):=by rw [← decide_not];exact decide_eq_decide.2 (by omega)
  rw [i1]
  cases decide (l.length≤8)
  · rfl
  simp only [Bool.not_true,cof,cot]
  refine (ybz (l:=l) h62 (fun k x=>(gAgr l k x).map .inr) (.inl ()) (fun k hk=>?_) (by simp only [yhb,cof])).trans ?_
  · have ha:=hl.all _ (List.getElem_mem hk)
    simp only [dlt hk,cot,yax hk,obs,d0k,ycw hk h62,gAgr]
    have j1:decide ((12:Int)<(l[k].Parties.length:Int))=decide (12<l[k].Parties.length):=decide_eq_decide.2 (by omega)
    have j2:decide ((12:Int)<(l[k].Rules.length:Int))=decide (12<l[k].Rules.length):=decide_eq_decide.2 (by omega)
    rw [j1,j2]
    have tail:(Option.bind (loopF (S:=Int) (T:=(Unit)⊕(Int⊕(Unit⊕Int))) (fun v12=>cond (decide (v12<(l[k].Parties.length:Int))) (Option.bind (idx l[k].Parties v12) (fun m16=>Option.bind (ygs m16) (fun x17=>Option.bind (gd ((!(!x17))&&(decide (0<v12))) (idx l[k].Parties (IntKind.i64.wrap (v12 - 1)))) (fun m18=>Option.bind (gd ((!(!x17))&&(decide (0<v12))) (idx l[k].Parties v12)) (fun m19=>cond ((!x17)||((decide (0<v12))&&(!Op.bytesLess m18.toList m19.toList))) (some (.inr (.inr (.inr (.inr 1))))) (some (.inl (IntKind.i64.wrap (v12+1))))))))) (some (.inr (.inl ())))) FUEL 0)
        (fun q=>match q with
          | .inl _=>Option.bind (loopF (S:=Int) (T:=(Unit)⊕(Int⊕(Unit⊕Int))) (fun v21=>cond (decide (v21<(l[k].Rules.length:Int))) (Option.bind (idx l[k].Rules v21) (fun m25=>Option.bind (yif m25.Prefix) (fun x26=>cond (x26 == 0) (some (.inr (.inr (.inr (.inr 1))))) (Option.bind (gd (decide (0<v21)) (idx l[k].Rules (IntKind.i64.wrap (v21 - 1)))) (fun m28=>Option.bind (gd (decide (0<v21)) (idx l[k].Rules v21)) (fun m29=>cond ((decide (0<v21))&&(!Op.bytesLess m28.Prefix.toList m29.Prefix.toList)) (some (.inr (.inr (.inr (.inr 9))))) (Option.bind (idx l[k].Rules v21) (fun m31=>Option.bind (yqc m31.Rule) (fun x32=>cond (x32 != 0) (some (.inr (.inr (.inr (.inr x32))))) (some (.inl (IntKind.i64.wrap (v21+1))))))))))))) (some (.inr (.inl ())))) FUEL 0) (fun q=>match q with | .inl _=>some (.inl ((k+1:Nat):Int)) | .inr e=>some e)
          | .inr e=>some e):Option (Int⊕(Unit⊕Int)))=some (outg k ((cond (partiesB l[k].Parties) (cond (rulesE l[k].Rules == 0) none (some (rulesE l[k].Rules))) (some 1)).map .inr)):=by
      obtain ⟨hp,hps⟩:=ha.par
      have hq:=ha.len;have hqr:=ha.rules
      generalize l[k].Parties=P at hp hps
      generalize l[k].Rules=R at hq hqr
      have hP:P.length≤4611686018427387904:=by omega
      have hR:R.length≤4611686018427387904:=by omega
      refine (ybz (l:=P) hP (fun k x=>cond (okAt ctry P k x) none (some (.inr (.inr (.inr 1))))) (.inl ()) (fun k hk=>?_) (by simp only [yhb,cof])).trans ?_
      · simp only [dlt hk,cot,yax hk,obs,yrm,d0k,ycw hk hP,okAt]
        cases hw:ctry P[k]
        · rfl
        by_cases h0:0<k
        · simp only [h0,decide_true,Bool.not_true,Bool.not_false,Bool.and_true,Bool.true_and,Bool.false_or,yee,ygz h0 hk hP,obs,yfs (show k - 1<P.length by omega),ltS]
          cases Op.bytesLess (P[k-1]'(by omega)).toList P[k].toList <;> rfl
        simp only [h0,decide_false,Bool.and_false,ymw,obs,Bool.not_true,Bool.false_or,Bool.false_and,cof,Bool.not_false,Bool.true_and,Bool.true_or,Bool.or_false];rfl
      rw [ynj]
      unfold partiesB
      cases (P.all ctry&&ascB ltS P)
      · rfl
      simp only [cot,Option.getD_none]
      refine (ybz (l:=R) hR (fun k x=>(gRule R k x).map fun e=>.inr (.inr (.inr e))) (.inl ()) (fun k hk=>?_) (by simp only [yhb,cof])).trans ?_
      · simp only [dlt hk,cot,yax hk,obs,yvy _ (hqr _ (List.getElem_mem hk)).pre,d0k,ycw hk hR,gRule,lev]
        cases hw:(level R[k].Prefix == 0)
        · have h2:=ref_rule _ (hqr _ (List.getElem_mem hk)).rule (hqr _ (List.getElem_mem hk)).deep
          by_cases h0:0<k
          · simp only [h0,decide_true,Bool.true_and,yee,ygz h0 hk hR,obs,yfs (show k - 1<R.length by omega),ltS,Bool.not_false,cot,cof]
            cases Op.bytesLess (R[k-1]'(by omega)).Prefix.toList R[k].Prefix.toList
            · rfl
            simp only [Bool.not_true,cof]
            rw [h2]
            simp only [bne]
            cases hz:(ruleE R[k].Rule == 0) <;> simp [hz,outg]
          simp only [h0,decide_false,Bool.false_and,ymw,obs,cof,Bool.not_false,cot]
          rw [h2]
          simp only [bne]
          cases hz:(ruleE R[k].Rule == 0) <;> simp [hz,outg]
        rfl
      rw [ysf]
      unfold rulesE
      have hne:∀ e,findS (gRule R) R 0=some e→(e == 0)=false:=by
        have:∀ (m:List Zi) (i:Nat) (e:Int),findS (gRule R) m i=some e→(e == 0)=false:=by
          intro m
          induction m with
          | nil=>intro i e h;cases h
          | cons x m ih =>
            intro i e h
            rw [findS] at h
            cases hg:gRule R i x with
            | none=>rw [hg] at h;exact ih _ _ h
            | some t =>
              rw [hg] at h;injection h with h;subst h
              unfold gRule at hg
              cases hb:lev x.Prefix
              · rw [hb] at hg;injection hg with hg;subst hg;rfl
              rw [hb] at hg
              cases h9:(decide (0<i) && !ltS (R.getD (i - 1) x).Prefix x.Prefix)
              · rw [h9] at hg
                cases hz:(ruleE x.Rule == 0)
                · rw [hz] at hg;injection hg with hg;subst hg;exact hz
                rw [hz] at hg;cases hg
              rw [h9] at hg;injection hg with hg;subst hg;rfl
        exact this R 0
      cases hf:findS (gRule R) R 0 with
      | none=>rfl
      | some e=>simp [hne e hf,outg]
    cases (decide (l[k].ID<1)||decide (1000<l[k].ID)||decide (l[k].Kind<1)||decide (3<l[k].Kind))
    · by_cases h0:0<k
      · simp only [h0,decide_true,Bool.true_and,yee,ygz h0 hk h62,obs,yfs (show k - 1<l.length by omega),cof]
        cases decide (l[k].ID≤(l[k-1]'(by omega)).ID)
        · cases (decide (12<l[k].Parties.length)||decide (12<l[k].Rules.length))
          · exact tail
          rfl
        rfl
      simp only [h0,decide_false,Bool.false_and,ymw,obs,cof]
      cases (decide (12<l[k].Parties.length)||decide (12<l[k].Rules.length))
      · exact tail
      rfl
    rfl
  rw [ysf]
  cases findS (gAgr l) l 0 <;> rfl
def Y {α:Type} (x:Option α) (P:α→Prop):Prop:=∃ a,x=some a∧P a
section
variable {α β S T:Type} {x y:Option α} {P P':α→Prop} {Q:β→Prop} {f:α→Option β} {a:α} {c:Bool}
theorem Y.bind (h:Y x P) (k:∀ a,P a→Y (f a) Q):Y (x.bind f) Q:=by
 obtain ⟨a,h1,h2⟩:=h;rw [h1];exact k a h2
theorem Y.ret (h:P a):Y (some a) P:=⟨a,rfl,h⟩
theorem Y.mono (h:Y x P) (k:∀ a,P a→P' a):Y x P':=by obtain ⟨a,h1,h2⟩:=h;exact ⟨a,h1,k a h2⟩
theorem Y.cond (h:c=true→Y x P) (k:c=false→Y y P):Y (cond c x y) P:=by cases c;exact k rfl;exact h rfl
theorem Y.eq {r:α} (h:x=some r) (k:Y (f r) Q):Y (x.bind f) Q:=by rw [h];exact k
theorem Y.loop {body:S→Option (S⊕T)} {R:T→Prop} {s:S} (I:S→Prop) (μ:S→Nat) (h0:I s) (hm:μ s≤1267650600228229401496703205000) (step:∀ s,I s→Y (body s) (fun o=>match o with | .inl s'=>I s'∧μ s'<μ s | .inr t=>R t)):Y (loopF body FUEL s) R:=by
 obtain ⟨t,h1,h2⟩:=yni (body:=body) I μ R (fun s hs=>by
  obtain ⟨o,k1,k2⟩:=step s hs
  cases o with
  | inl s'=>exact .inl ⟨s',k1,k2⟩
  | inr t=>exact .inr ⟨t,k1,k2⟩) FUEL s h0 (ykr hm)
 exact ⟨t,h1,h2⟩
theorem Y.idx {xs:List α} {i:Int} {n:Nat} (h:i=(n:Int)) (hn:n<xs.length) (k:Y (f xs[n]) Q):Y ((idx xs i).bind f) Q:=by subst h;rw [yax hn];exact k
theorem Y.gdp [Inhabited α] {z:Option (α×β)} {m:β} {R:α×β→Prop} (h:c=true→Y z R) (k:c=false→R (default,m)):Y (gdp c z m) R:=by
 cases c
 ·exact ⟨_,rfl,k rfl⟩
 exact h rfl
end
theorem xca (a n:Int) (h1:1≤n) (h2:n≤4611686018427387904):∃ r,yie a n=some r∧0≤r∧r<n:=by
 have hl:=Int.tmod_lt_of_pos a (show 0<n by omega)
 have hl2:=Int.tmod_lt_of_pos (-a) (show 0<n by omega)
 rw [Int.neg_tmod] at hl2
 unfold yie nz lb
 rw [if_neg (by omega),ygo (by omega) (by omega)]
 exact ⟨_,rfl,Int.tmod_nonneg _ (by omega),Int.tmod_lt_of_pos _ (by omega)⟩
def SOK (p:Zl):Prop:=0≤p.I∧p.I≤p.L.length∧p.L.length≤1000000000000000
theorem next_ok {p:Zl} (hp:SOK p) (n:Int) (h1:1≤n) (h2:n≤4611686018427387904):∃ r q,yas p n=some (r,q)∧0≤r∧r<n∧SOK q:=by
 obtain ⟨a1,a2,a3⟩:=hp
 unfold yas
 by_cases h:(p.L.length:Int)≤p.I
 ·rw [det h];exact ⟨_,_,rfl,by omega,by omega,a1,a2,a3⟩
 rw [ydl h,ygo (r:=p.I+1) (by omega) (by omega),ygo (by omega) (by omega)]
 simp only [cof]
 have e:idx p.L (p.I+1 - 1)=some (p.L[p.I.toNat]'(by omega)):=by
  unfold idx;rw [if_pos (by omega)]
  have:(p.I+1 - 1).toNat=p.I.toNat:=by omega
  rw [this];exact List.getElem?_eq_getElem _
 rw [bnd e]
 obtain ⟨r,h3,h4,h5⟩:=xca (p.L[p.I.toNat]'(by omega)) n h1 h2
 rw [bnd h3]
 exact ⟨_,_,rfl,h4,h5,by simp only;omega,by simp only;omega,a3⟩
theorem cut_ok (l:List Int) (n:Int) (h:0≤n) (h2:n≤1000):∃ m,made_Cut l n=some m∧(m.length:Int)≤n:=by
 unfold made_Cut
 by_cases h1:n<(l.length:Int)
 ·rw [det h1]
  have e:sub l 0 n=some ((l.take n.toNat).drop 0):=by unfold sub;rw [if_pos (by omega)];rfl
  simp only [cot];rw [bnd e];exact ⟨_,rfl,by simp;omega⟩
 rw [ydl h1];exact ⟨_,rfl,by omega⟩
theorem within_Y (a n:Int) (h1:1≤n) (h2:n≤4611686018427387904):Y (yie a n) (fun r=>0≤r∧r<n):=xca a n h1 h2
theorem ygl {p:Zl} (hp:SOK p) (n:Int) (h1:1≤n) (h2:n≤4611686018427387904):Y (yas p n) (fun r=>0≤r.1∧r.1<n∧SOK r.2):=by
 obtain ⟨r,q,h3,h4,h5,h6⟩:=next_ok hp n h1 h2;exact ⟨(r,q),h3,h4,h5,h6⟩
theorem cut_Y (l:List Int) (n:Int) (h:0≤n) (h2:n≤1000):Y (made_Cut l n) (fun m=>SOK ⟨m,0⟩):=by
 obtain ⟨m,h3,h4⟩:=cut_ok l n h h2
 exact ⟨m,h3,by dsimp only;omega,by dsimp only;omega,by dsimp only;omega⟩
theorem rate_Y {p:Zl} (hp:SOK p):Y (yfh p) (fun r=>mil r.1=true∧SOK r.2):=by
 unfold yfh
 refine (ygl hp 4 (by omega) (by omega)).bind fun a ⟨h1,h2,h3⟩=>?_
 refine Y.cond (fun _=>?_) (fun _=>?_)
 ·refine (ygl h3 101 (by omega) (by omega)).bind fun b ⟨k1,k2,k3⟩=>Y.ret ⟨?_,k3⟩
  rw [ygo (by omega) (by omega)];simp only [mil,Bool.and_eq_true,decide_eq_true_eq];omega
 refine (ygl h3 1000001 (by omega) (by omega)).bind fun b ⟨k1,k2,k3⟩=>Y.ret ⟨?_,k3⟩
 simp only [mil,Bool.and_eq_true,decide_eq_true_eq];omega
structure Good (r:Zc) (m:Nat):Prop where
 ok:ROk r
 valid:ruleB r=true
 size:cnt r≤m
theorem xli:StrsOk []:=⟨by simp,by simp⟩
theorem rok_leaf {r:Zc} (h1:StrsOk r.Except) (h2:r.Name.size≤140737488355328) (h3:r.Args=[]):ROk r:=⟨r,h1,h2,by rw [h3];simp,by rw [h3];simp⟩
theorem cnt_leaf {r:Zc} (h:r.Args=[]):cnt r=1:=by rw [ytg,h];rfl
def bnd3:Nat→Nat
 | 0=>1
 | d+1=>1+3*bnd3 d
theorem bnd3_pos (d:Nat):1≤bnd3 d:=by cases d <;> simp [bnd3]
theorem xlj {m:Nat}:∀ {l:List Zc},(∀ a∈l,cnt a≤m)→cnts l≤l.length*m
 | [],_=>by rw [cnts];omega
 | a::l,h=>by
  rw [cnts,List.length_cons,Nat.add_mul,Nat.one_mul]
  have h1:=h a (by simp);have h2:=xlj (l:=l) fun b hb=>h b (by simp [hb]);omega
theorem xgk {but:Int} (hb:but=0∨but=5∨but=6) {r:Zc} {q:Zl} {m:Nat} (hm:1≤m) (hq:SOK q) (h1:StrsOk r.Except) (h2:r.Name.size≤140737488355328) (h3:r.Args=[]) (hk:1≤r.Kind∧r.Kind≤4) (hv:ruleB r=true):Good r m∧r.Kind≠but∧SOK q :=
 ⟨⟨rok_leaf h1 h2 h3,hv,by rw [cnt_leaf h3];exact hm⟩,by omega,hq⟩
theorem xcb {d n:Nat} {p:Zl} {but:Int} (hp:SOK p) (hb:but=0∨but=5∨but=6) (hn:d<n) (hd:d≤10)
    (ih:∀ d',d=d'+1→∀ (q:Zl) (but':Int),SOK q→(but'=0∨but'=5∨but'=6)→Y (yej (n - 1) q but' (d':Int)) (fun r=>Good r.1 (bnd3 d')∧r.1.Kind≠but'∧SOK r.2)) :
    Y (yej n p but (d:Int)) (fun r=>Good r.1 (bnd3 d)∧r.1.Kind≠but∧SOK r.2):=by
  obtain ⟨n,rfl⟩:∃ m,n=m+1:=⟨n - 1,by omega⟩
  rw [Nat.add_sub_cancel] at ih
  show Y (yfl (yej n) p but (d:Int)) _
  unfold yfl
  refine (ygl hp 8 (by omega) (by omega)).bind fun a ⟨h1,h2,h3⟩=>?_
  refine Y.cond (fun hc=>?_) (fun hc=>?_)
  · simp only [Bool.and_eq_true,decide_eq_true_eq] at hc
    obtain ⟨d',rfl⟩:∃ d',d=d'+1:=⟨d - 1,by omega⟩
    have ih:=ih d' rfl
    have hm1:0≤Int.tmod a.1 2:=Int.tmod_nonneg _ (by omega)
    have hm2:Int.tmod a.1 2<2:=Int.tmod_lt_of_pos _ (by omega)
    refine Y.bind (P:=fun k=>(k=5∨k=6)∧k≠but) ?_ fun k ⟨hk,hkb⟩=>?_
    · rw [ygo (by omega) (by omega)]
      refine Y.cond (fun hc=>Y.ret ?_) (fun hc=>Y.ret ?_)
      · have:=eq_of_beq hc;rw [ygo (by omega) (by omega)];omega
      have:¬ 5+Int.tmod a.1 2=but:=by intro h;rw [h] at hc;simp at hc
      omega
    refine (ygl h3 2 (by omega) (by omega)).bind fun b ⟨k1,k2,k3⟩=>?_
    rw [ygo (r:=2+b.1) (by omega) (by omega)]
    refine Y.bind (P:=fun t:List Int×Int×List Zc=>SOK ⟨t.1,t.2.1⟩∧(2≤t.2.2.length∧t.2.2.length≤3)∧∀ x∈t.2.2,Good x (bnd3 d')∧x.Kind≠k) ?_ fun t ⟨t1,t2,t3⟩=>?_
    · refine Y.loop (fun s:Int×List Int×Int×List Zc=>(0≤s.1∧s.1+s.2.2.2.length=2+b.1)∧SOK ⟨s.2.1,s.2.2.1⟩∧∀ x∈s.2.2.2,Good x (bnd3 d')∧x.Kind≠k) (fun s=>s.1.toNat) ⟨⟨by dsimp only;omega,by simp⟩,k3,by simp⟩ (by dsimp only;omega) fun s hs=>?_
      obtain ⟨v,l,i,m⟩:=s
      obtain ⟨⟨s1,s2⟩,s3,s4⟩:=hs
      dsimp only at s1 s2 s3 s4 ⊢
      refine Y.cond (fun hc=>?_) (fun hc=>Y.ret ⟨s3,?_,s4⟩)
      · have hc:=of_decide_eq_true hc
        rw [ygo (by omega) (by omega),show ((d'+1:Nat):Int) - 1=(d':Int) by omega]
        refine (ih _ k s3 (by omega)).bind fun x ⟨x1,x2,x3⟩=>?_
        rw [yds (by simp;omega) (by simp;omega),obs,ygo (by omega) (by omega)]
        refine Y.ret ⟨⟨⟨by dsimp only;omega,by simp;omega⟩,x3,fun z hz=>?_⟩,by dsimp only;omega⟩
        rcases List.mem_append.1 hz with hz | hz
        · exact s4 z hz
        rw [List.mem_singleton.1 hz];exact ⟨x1,x2⟩
      have hc:=of_decide_eq_false hc
      dsimp only;omega
    obtain ⟨l,i,m⟩:=t
    dsimp only at t1 t2 t3 ⊢
    refine Y.ret ⟨⟨⟨_,xli,by simp,by dsimp only;omega,fun z hz=>(t3 z hz).1.ok⟩,?_,?_⟩,hkb,t1⟩
    · rw [yhq]
      have e1:(k == 5||k == 6)=true:=by rcases hk with rfl | rfl <;> rfl
      have e2:plainB ⟨k,0,[],0,0,ByteArray.empty,m⟩=true:=by rcases hk with rfl | rfl <;> rfl
      rw [e2]
      simp only [e1,cot,Bool.true_and,Bool.and_eq_true,decide_eq_true_eq,List.all_eq_true,Bool.not_eq_true',beq_eq_false_iff_ne,ne_eq]
      exact ⟨by omega,fun z hz=>⟨(t3 z hz).2,(t3 z hz).1.valid⟩⟩
    rw [ytg]
    have:=xlj fun z hz=>(t3 z hz).1.size
    have h3:m.length*bnd3 d'≤3*bnd3 d':=Nat.mul_le_mul_right _ t2.2
    dsimp only [bnd3];omega
  have hpos:=bnd3_pos d
  refine Y.bind (P:=fun q:(List Int×Int)⊕(Zc×Zl)=>match q with | .inl s=>SOK ⟨s.1,s.2⟩ | .inr r=>Good r.1 (bnd3 d)∧r.1.Kind≠but∧SOK r.2) ?_ fun q hq=>?_
  · refine Y.cond (fun _=>?_) fun _=>Y.cond (fun _=>?_) fun _=>Y.cond (fun _=>?_) fun _=>Y.ret h3
    · refine (rate_Y h3).bind fun b ⟨k1,k2⟩=>Y.ret (xgk hb hpos k2 xli (by simp) rfl ⟨by simp,by simp⟩ ?_)
      rw [yhq];simp only [plainB,leafB,k1];rfl
    · refine (ygl h3 5 (by omega) (by omega)).bind fun b ⟨k1,k2,k3⟩=>?_
      obtain ⟨j,hj⟩:∃ j:Nat,b.1=(j:Int):=⟨b.1.toNat,by omega⟩
      have hj5:j<5:=by omega
      refine Y.idx hj hj5 (Y.ret ?_)
      have hw:∀ j:Nat,(h:j<5)→wordB [(⟨#[97,110,100]⟩:ByteArray),(⟨#[99,117,116]⟩:ByteArray),(⟨#[111,114]⟩:ByteArray),(⟨#[115,101,119]⟩:ByteArray),(⟨#[115,112,105,110]⟩:ByteArray)][j]=true:=by
        intro j h
        match j,h with
        | 0,_=>rfl
        | 1,_=>rfl
        | 2,_=>rfl
        | 3,_=>rfl
        | 4,_=>rfl
      have hw2:=hw j hj5
      refine xgk hb hpos k3 xli ?_ rfl ⟨by simp,by simp⟩ ?_
      · have h12:=hw2
        simp only [wordB,Bool.and_eq_true,decide_eq_true_eq] at h12
        dsimp only;omega
      rw [yhq];simp only [plainB,leafB,hw2];rfl
    refine (ygl h3 3 (by omega) (by omega)).bind fun b ⟨k1,k2,k3⟩=>Y.cond (fun _=>Y.ret (xgk hb hpos k3 xli (by simp) rfl ⟨by simp,by simp⟩ ?_)) fun _=>Y.ret k3
    rw [yhq];rfl
  cases q with
  | inr r=>exact Y.ret hq
  | inl s =>
    obtain ⟨l,i⟩:=s
    dsimp only at hq ⊢
    refine (ygl hq 3 (by omega) (by omega)).bind fun b ⟨k1,k2,k3⟩=>?_
    refine (ygl k3 3 (by omega) (by omega)).bind fun c ⟨c1,c2,c3⟩=>?_
    refine Y.bind (P:=fun t:List Int×Int×List ByteArray=>SOK ⟨t.1,t.2.1⟩∧StrsOk t.2.2∧codesB t.2.2=true) ?_ fun t ⟨t1,t2,t3⟩=>?_
    · refine Y.cond (fun _=>?_) fun _=>Y.ret ⟨c3,xli,rfl⟩
      refine (ygl c3 2 (by omega) (by omega)).bind fun e ⟨e1,e2,e3⟩=>?_
      obtain he | he:e.1=0∨e.1=1:=by omega
      · rw [he];exact Y.ret ⟨e3,(show StrsOk [(⟨#[57,52,48,49]⟩:ByteArray),(⟨#[57,53,48,50]⟩:ByteArray)] from ⟨by decide,by decide⟩),(show codesB [(⟨#[57,52,48,49]⟩:ByteArray),(⟨#[57,53,48,50]⟩:ByteArray)]=true by kernel_rfl)⟩
      rw [he];exact Y.ret ⟨e3,(show StrsOk [(⟨#[57,53,48,50]⟩:ByteArray)] from ⟨by decide,by decide⟩),(show codesB [(⟨#[57,53,48,50]⟩:ByteArray)]=true by kernel_rfl)⟩
    obtain ⟨l2,i2,ex⟩:=t
    dsimp only at t1 t2 t3 ⊢
    refine (ygl t1 3 (by omega) (by omega)).bind fun e ⟨e1,e2,e3⟩=>?_
    refine Y.bind (P:=fun t:List Int×Int×Int=>SOK ⟨t.1,t.2.1⟩∧mil t.2.2=true) (Y.cond (fun _=>(rate_Y e3).bind fun f ⟨f1,f2⟩=>Y.ret ⟨f2,f1⟩) fun _=>Y.ret ⟨e3,rfl⟩) fun u ⟨u1,u2⟩=>?_
    obtain ⟨l3,i3,tol⟩:=u
    dsimp only at u1 u2 ⊢
    refine Y.ret (xgk hb hpos u1 t2 (by simp) rfl ⟨by simp,by simp⟩ ?_)
    rw [ygo (r:=2*b.1) (by omega) (by omega),ygo (by omega) (by omega),yhq]
    simp only [plainB,leafB,t3,u2]
    obtain hb0 | hb0 | hb0:b.1=0∨b.1=1∨b.1=2:=by omega
    · rw [hb0];rfl
    · rw [hb0];rfl
    rw [hb0];rfl
theorem rule_Y (d:Nat):∀ (n:Nat) (p:Zl) (but:Int),d<n→d≤10→SOK p→(but=0∨but=5∨but=6)→Y (yej n p but (d:Int)) (fun r=>Good r.1 (bnd3 d)∧r.1.Kind≠but∧SOK r.2):=by
  induction d with
  | zero=>exact fun n p but h1 h2 hp hb=>xcb hp hb h1 (by omega) (fun d h=>absurd h (by omega))
  | succ d ih=>exact fun n p but h1 h2 hp hb=>xcb hp hb h1 (by omega) (fun d' h q but' hq hb'=>by
      obtain rfl:d'=d:=by omega
      exact ih _ q but' (by omega) (by omega) hq hb')
theorem ltS_tr (x y z:ByteArray) (h1:ltS x y=true) (h2:ltS y z=true):ltS x z=true:=by
 rw [ytf] at *;exact det (List.lt_trans (of_decide_eq_true h1) (of_decide_eq_true h2))
theorem xlk (x:ByteArray):ltS x x=false:=by rw [ytf];exact ydl (List.lt_irrefl _)
theorem ymj:∀ l:List ByteArray,ascB ltS l=true↔l.Pairwise (fun a b=>ltS a b=true)
 | []=>by simp [ascB]
 | [a]=>by simp [ascB]
 | a::b::l=>by
  rw [ascB,Bool.and_eq_true,ymj (b::l)]
  constructor
  ·rintro ⟨h1,h2⟩
   refine List.pairwise_cons.2 ⟨fun c hc=>?_,h2⟩
   rcases List.mem_cons.1 hc with rfl | hc
   ·exact h1
   exact ltS_tr _ _ _ h1 ((List.pairwise_cons.1 h2).1 c hc)
  intro h;obtain ⟨h1,h2⟩:=List.pairwise_cons.1 h;exact ⟨h1 b (by simp),h2⟩
theorem ypn {α:Type} {l C:List α} {v:Nat} (h:l.Sublist (C.take v)) (hv:v<C.length):(l++[C[v]]).Sublist (C.take (v+1))∧l.Sublist (C.take (v+1)):=by
 have e:C.take (v+1)=C.take v++[C[v]]:=by rw [List.take_add_one,List.getElem?_eq_getElem hv];rfl
 rw [e]
 exact ⟨h.append (List.Sublist.refl _),h.trans (List.sublist_append_left _ _)⟩
def C6:List ByteArray:=[(⟨#[65,65]⟩:ByteArray),(⟨#[66,66]⟩:ByteArray),(⟨#[67,67]⟩:ByteArray),(⟨#[68,68]⟩:ByteArray),(⟨#[69,69]⟩:ByteArray),(⟨#[70,70]⟩:ByteArray)]
def P5:List ByteArray:=[(⟨#[57,52]⟩:ByteArray),(⟨#[57,52,48,49]⟩:ByteArray),(⟨#[57,52,48,49,48,50]⟩:ByteArray),(⟨#[57,53]⟩:ByteArray),(⟨#[57,53,48,50]⟩:ByteArray)]
theorem C6_ok:C6.all ctry=true∧ascB ltS C6=true∧(C6.all fun s=>decide (s.size≤100))=true:=⟨by kernel_rfl,by kernel_rfl,by kernel_rfl⟩
theorem P5_ok:P5.all lev=true∧ascB ltS P5=true∧(P5.all fun s=>decide (s.size≤100))=true:=⟨by kernel_rfl,by kernel_rfl,by kernel_rfl⟩
structure MA (i:Nat) (a:Zb):Prop where
 id:a.ID=2+5*(i:Int)
 kind:1≤a.Kind∧a.Kind≤3
 par:a.Parties.Sublist C6
 pre:(a.Rules.map (·.Prefix)).Sublist P5
 good:∀ x∈a.Rules,Good x.Rule (bnd3 1)
 ne:a.Rules≠[]
structure MAs (l:List Zb):Prop where
 len:1≤l.length∧l.length≤4
 all:∀ (i:Nat) (a:Zb),l[i]?=some a→MA i a
theorem P5_len {a:Zb} (h:(a.Rules.map (·.Prefix)).Sublist P5):a.Rules.length≤5:=by have:=h.length_le;simpa [P5] using this
theorem MA.strs {i:Nat} {a:Zb} (h:MA i a):StrsOk a.Parties:=by
 refine ⟨?_,fun s hs=>?_⟩
 ·have:=h.par.length_le;have h6:C6.length=6:=rfl;omega
 have:=of_decide_eq_true (List.all_eq_true.1 C6_ok.2.2 s (h.par.subset hs));omega
theorem MA.aok {i:Nat} {a:Zb} (h:MA i a):AOk a:=by
 refine ⟨h.strs,by have:=P5_len h.pre;omega,fun x hx=>?_⟩
 have hp:=of_decide_eq_true (List.all_eq_true.1 P5_ok.2.2 x.Prefix (h.pre.subset (List.mem_map_of_mem hx)))
 have hg:=h.good x hx
 exact ⟨by omega,hg.ok,by have h1:=ywa x.Rule;have h2:=hg.size;simp only [bnd3] at h2;omega⟩
theorem MAs.ok {l:List Zb} (h:MAs l):ASOk l:=⟨by have:=h.len;omega,fun a ha=>by
 obtain ⟨i,hi,rfl⟩:=List.getElem_of_mem ha;exact (h.all i _ (List.getElem?_eq_getElem hi)).aok⟩
theorem MA.parties {i:Nat} {a:Zb} (h:MA i a):partiesB a.Parties=true:=by
 unfold partiesB
 rw [Bool.and_eq_true]
 refine ⟨List.all_eq_true.2 fun s hs=>List.all_eq_true.1 C6_ok.1 s (h.par.subset hs),?_⟩
 rw [ymj];exact List.Pairwise.sublist h.par ((ymj _).1 C6_ok.2.1)
theorem MA.rulesE {i:Nat} {a:Zb} (h:MA i a):rulesE a.Rules=0:=by
 have:findS (gRule a.Rules) a.Rules 0=none:=by
  rw [ymx]
  intro k x hx
  obtain ⟨hk,rfl⟩:=List.getElem?_eq_some_iff.1 hx
  have hmem:a.Rules[k]∈a.Rules:=List.getElem_mem hk
  have h1:=List.all_eq_true.1 P5_ok.1 _ (h.pre.subset (List.mem_map_of_mem hmem))
  have hg:=h.good _ hmem
  have h2:ruleE a.Rules[k].Rule=0:=(ynk _).2 ⟨by have:=hg.size;simp only [bnd3] at this;omega,hg.valid⟩
  unfold gRule
  rw [Nat.zero_add,h1,h2]
  have hpw:=List.Pairwise.sublist h.pre ((ymj _).1 P5_ok.2.1)
  by_cases h0:0<k
  ·rw [yfs (show k - 1<a.Rules.length by omega)]
   have:=(List.pairwise_iff_getElem.1 (List.pairwise_map.1 hpw)) (k - 1) k (by omega) hk (by omega)
   rw [this];simp
  simp [h0]
 unfold SX.rulesE;rw [this];rfl
theorem MAs.valid {l:List Zb} (h:MAs l):agrE l=0:=by
 have:findS (gAgr l) l 0=none:=by
  rw [ymx]
  intro k x hx
  obtain ⟨hk,rfl⟩:=List.getElem?_eq_some_iff.1 hx
  have hm:=h.all k _ hx
  have hl:=h.len
  unfold gAgr
  rw [Nat.zero_add,hm.parties,hm.rulesE]
  have i1:(decide (l[k].ID<1)||decide (1000<l[k].ID)||decide (l[k].Kind<1)||decide (3<l[k].Kind))=false:=by
   have e1:=hm.id;have e2:=hm.kind
   rw [ydl (by omega),ydl (by omega),ydl (by omega),ydl (by omega)];rfl
  have i2:(decide (12<l[k].Parties.length)||decide (12<l[k].Rules.length))=false:=by
   have e1:=hm.par.length_le;have e2:=P5_len hm.pre;have h6:C6.length=6:=rfl
   rw [ydl (by omega),ydl (by omega)];rfl
  rw [i1,i2]
  by_cases h0:0<k
  ·rw [yfs (show k - 1<l.length by omega)]
   have hm2:=h.all (k - 1) _ (List.getElem?_eq_getElem (by omega))
   have e1:=hm.id;have e2:=hm2.id
   rw [ydl (show ¬ l[k].ID≤(l[k-1]'(by omega)).ID by omega)];simp
  simp [h0]
 unfold agrE
 rw [det (by have:=h.len;omega),this];rfl
theorem yth:ygx=some C6:=rfl
def bitI (m:Int) (v:Int):Bool:=iand .i64 (ishr .i64 m v) 1 == 1
theorem some_bit:((List.range 31).all fun m=>(List.range 5).any fun v=>bitI ((m+1:Nat):Int) (v:Int))=true:=by kernel_rfl
theorem has_bit {m:Int} (h1:1≤m) (h2:m≤31):∃ v:Nat,v<5∧bitI m (v:Int)=true:=by
 have:=List.all_eq_true.1 some_bit (m.toNat - 1) (List.mem_range.2 (by omega))
 obtain ⟨v,hv,h⟩:=List.any_eq_true.1 this
 rw [show ((m.toNat - 1+1:Nat):Int)=m by omega] at h
 exact ⟨v,List.mem_range.1 hv,h⟩
theorem yrn (v:Nat):ge0 (v:Int)=some ():=by unfold ge0;rw [if_pos (by omega)]
theorem xll {c:Int→Bool}:Y (loopF (S:=Int×(List ByteArray)) (T:=((List ByteArray))) (fun (v22,l24)=>cond (decide (v22<6)) (Option.bind (Option.bind (ge0 v22) (fun _=>cond (c v22) (Option.bind (ygx) (fun x44=>Option.bind (idx x44 v22) (fun m45=>Option.bind (app 16 l24 [m45]) (fun l48=>some l48)))) (some l24))) (fun l40=>some (.inl ((IntKind.i64.wrap (v22+1)),l40)))) (some (.inr l24))) FUEL (0,([]:List ByteArray))) (fun l=>l.Sublist C6):=by
 refine Y.loop (fun s=>∃ v:Nat,s.1=(v:Int)∧v≤6∧s.2.Sublist (C6.take v)) (fun s=>(6 - s.1).toNat) ⟨0,rfl,by omega,List.Sublist.refl _⟩ (by dsimp only;omega) fun s hs=>?_
 obtain ⟨i,l⟩:=s
 obtain ⟨v,rfl,h1,h2⟩:=hs
 dsimp only at h2 ⊢
 have hlen:l.length≤6:=by have:=h2.length_le;have h6:C6.length=6:=rfl;rw [List.length_take] at this;omega
 refine Y.cond (fun hc=>?_) (fun hc=>Y.ret (h2.trans (List.take_sublist _ _)))
 have hv:v<6:=by have:=of_decide_eq_true hc;omega
 have hs:=ypn h2 (show v<C6.length from hv)
 refine Y.bind (P:=fun m:List ByteArray=>m.Sublist (C6.take (v+1))) (Y.eq (yrn v) (Y.cond (fun _=>?_) fun _=>Y.ret hs.2)) fun m hm=>Y.ret ⟨⟨v+1,?_,by omega,hm⟩,?_⟩
 ·refine Y.eq yth (Y.idx rfl (show v<C6.length from hv) ?_)
  rw [yds (by simp;omega) (by simp;omega)];exact Y.ret hs.1
 ·show IntKind.i64.wrap ((v:Int)+1)=_;rw [ygo (by omega) (by omega)];omega
 show (6 - IntKind.i64.wrap ((v:Int)+1)).toNat<(6 - (v:Int)).toNat;rw [ygo (by omega) (by omega)];omega
theorem yti (p0:List Int):Y (ygd p0) MAs:=by
 unfold ygd
 refine (cut_Y p0 200 (by omega) (by omega)).bind fun x1 hx1=>?_
 refine (ygl hx1 4 (by omega) (by omega)).bind fun x3 ⟨a1,a2,a3⟩=>?_
 rw [ygo (r:=1+x3.1) (by omega) (by omega)]
 refine Y.bind (P:=MAs) ?_ fun l hl=>Y.ret hl
 refine Y.loop (fun s:List Zb×Int×List Int×Int=>(s.2.1=(s.1.length:Int)∧s.2.1≤1+x3.1)∧SOK ⟨s.2.2.1,s.2.2.2⟩∧∀ i a,s.1[i]?=some a→MA i a) (fun s=>(1+x3.1 - s.2.1).toNat) ⟨⟨rfl,by dsimp only;omega⟩,a3,by simp⟩ (by dsimp only;omega) fun s hs=>?_
 obtain ⟨l5,v8,l9,v10⟩:=s
 obtain ⟨⟨h1,h2⟩,h3,h4⟩:=hs
 dsimp only at h1 h2 h3 h4 ⊢
 refine Y.cond (fun hc=>?_) (fun hc=>Y.ret ⟨?_,h4⟩)
 rotate_left
 ·have hc:=of_decide_eq_false hc;omega
 have hc:=of_decide_eq_true hc
 refine (ygl h3 3 (by omega) (by omega)).bind fun x19 ⟨b1,b2,b3⟩=>?_
 refine (ygl b3 64 (by omega) (by omega)).bind fun x21 ⟨c1,c2,c3⟩=>?_
 refine (xll (c:=fun v=>iand .i64 (ishr .i64 (ior .i64 x21.1 3) v) 1 == 1)).bind fun l31 hl31=>?_
 refine Y.bind (P:=fun r:Int×Zl=>SOK r.2) (Y.gdp (fun _=>(ygl c3 2 (by omega) (by omega)).mono fun r hr=>hr.2.2) fun _=>c3) fun x53 hx53=>?_
 refine Y.bind (P:=fun t:List Int×Int×List Zi=>SOK ⟨t.1,t.2.1⟩∧(t.2.2.map (·.Prefix)).Sublist P5∧(∀ x∈t.2.2,Good x.Rule (bnd3 1))∧t.2.2≠[]) ?_ fun t ⟨t1,t2,t3,t4⟩=>?_
 ·refine Y.cond (fun hc2=>?_) fun hc2=>?_
  ·simp only [Bool.and_eq_true,decide_eq_true_eq] at hc2
   obtain ⟨j,hj⟩:∃ j:Nat,v8 - 1=(j:Int):=⟨(v8 - 1).toNat,by omega⟩
   refine Y.idx (n:=j) (by rw [ygo (by omega) (by omega)];exact hj) (show j<l5.length by omega) ?_
   have:=h4 j _ (List.getElem?_eq_getElem (by omega))
   exact Y.ret ⟨hx53,this.pre,this.good,this.ne⟩
  refine (ygl hx53 31 (by omega) (by omega)).bind fun x64 ⟨d1,d2,d3⟩=>?_
  refine Y.bind (P:=fun t:List Int×Int×List Zi=>SOK ⟨t.1,t.2.1⟩∧(t.2.2.map (·.Prefix)).Sublist P5∧(∀ x∈t.2.2,Good x.Rule (bnd3 1))∧t.2.2≠[]) ?_ fun t ht=>Y.ret ht
  refine Y.loop (fun s:Int×List Int×Int×List Zi=>∃ v:Nat,s.1=(v:Int)∧v≤5∧SOK ⟨s.2.1,s.2.2.1⟩∧(s.2.2.2.map (·.Prefix)).Sublist (P5.take v)∧(∀ x∈s.2.2.2,Good x.Rule (bnd3 1))∧(s.2.2.2≠[]∨∀ u:Nat,u<v→bitI (1+x64.1) (u:Int)=false)) (fun s=>(5 - s.1).toNat) ⟨0,rfl,by omega,d3,List.Sublist.refl _,by simp,.inr (fun u hu=>absurd hu (Nat.not_lt_zero _))⟩ (by dsimp only;omega) fun s hs=>?_
  obtain ⟨i,l,k,m⟩:=s
  obtain ⟨v,rfl,e1,e2,e3,e4,e5⟩:=hs
  dsimp only at e2 e3 e4 e5 ⊢
  have hlen:m.length≤5:=by have:=e3.length_le;have h6:P5.length=5:=rfl;rw [List.length_take,List.length_map] at this;omega
  refine Y.cond (fun hc3=>?_) (fun hc3=>Y.ret ⟨e2,e3.trans (List.take_sublist _ _),e4,?_⟩)
  rotate_left
  ·have h5:v=5:=by have:=of_decide_eq_false hc3;omega
   rcases e5 with e5 | e5
   ·exact e5
   obtain ⟨u,hu,hb⟩:=has_bit (m:=1+x64.1) (by omega) (by omega)
   rw [e5 u (by omega)] at hb;cases hb
  have hv:v<5:=by have:=of_decide_eq_true hc3;omega
  have hs:=ypn e3 (show v<P5.length from hv)
  refine Y.bind (P:=fun t:List Int×Int×List Zi=>SOK ⟨t.1,t.2.1⟩∧(t.2.2.map (·.Prefix)).Sublist (P5.take (v+1))∧(∀ x∈t.2.2,Good x.Rule (bnd3 1))∧(t.2.2≠[]∨∀ u:Nat,u<v+1→bitI (1+x64.1) (u:Int)=false)) (Y.eq (yrn v) (Y.cond (fun _=>?_) fun hbit=>Y.ret ⟨e2,hs.2,e4,?_⟩)) fun t ⟨t1,t2,t3,t4⟩=>Y.ret ⟨⟨v+1,?_,by omega,t1,t2,t3,t4⟩,?_⟩
  ·refine Y.idx (xs:=P5) rfl (show v<P5.length from hv) ?_
   refine (rule_Y 1 FUEL ⟨l,k⟩ 0 (ykr (by omega)) (by omega) e2 (.inl rfl)).bind fun r ⟨r1,r2,r3⟩=>?_
   rw [yds (by simp;omega) (by simp;omega)]
   refine Y.ret ⟨r3,by rw [List.map_append];exact hs.1,fun z hz=>?_,.inl (by simp)⟩
   rcases List.mem_append.1 hz with hz | hz
   ·exact e4 z hz
   rw [List.mem_singleton.1 hz];exact r1
  ·rcases e5 with e5 | e5
   ·exact .inl e5
   refine .inr fun u hu=>?_
   rcases Nat.lt_or_ge u v with h | h
   ·exact e5 u h
   obtain rfl:u=v:=by omega
   rw [ygo (by omega) (by omega)] at hbit;exact hbit
  ·show IntKind.i64.wrap ((v:Int)+1)=_;rw [ygo (by omega) (by omega)];omega
  show (5 - IntKind.i64.wrap ((v:Int)+1)).toNat<(5 - (v:Int)).toNat;rw [ygo (by omega) (by omega)];omega
 obtain ⟨l55,v56,l58⟩:=t
 dsimp only at t1 t2 t3 ⊢
 rw [yds (by simp;omega) (by simp;omega),obs,ygo (r:=v8+1) (by omega) (by omega),ygo (r:=1+x19.1) (by omega) (by omega),ygo (r:=5*v8) (by omega) (by omega),ygo (by omega) (by omega)]
 refine Y.ret ⟨⟨⟨by simp;omega,by dsimp only;omega⟩,t1,fun i a ha=>?_⟩,by dsimp only;omega⟩
 rw [List.getElem?_append] at ha
 split at ha
 ·exact h4 i a ha
 rename_i hi
 have hi0:i - l5.length=0:=by have:=(List.getElem?_eq_some_iff.1 ha).1;simp at this;omega
 rw [hi0] at ha
 simp only [List.getElem?_cons_zero,osj] at ha
 subst ha
 exact ⟨by dsimp only;omega,⟨by dsimp only;omega,by dsimp only;omega⟩,hl31,t2,t3,t4⟩
structure RawA (a:Zb):Prop where
 par:StrsOk a.Parties
 len:a.Rules.length≤140737488355328
 rules:∀ x∈a.Rules,x.Prefix.size≤140737488355328∧ROk x.Rule
theorem yjn {α:Type} {b:Nat} {l:List α} (h:l.length≤1000000000) (hb:b≤1000):app b ([]:List α) l=some l:=by
 have:=Nat.mul_le_mul h hb
 exact yds (by simpa using (by omega:l.length*b≤140737488355328)) (by simp;omega)
def k0 (W:World):Kr:=⟨W,fun b=>b<W.heap.size⟩
theorem ysx {t:Nat} {z:Value} {s b:Nat} (h:inf t=some (z,s,b)):Tryz.prog.cellsOf t=s∧Tryz.prog.bytesOf t=b:=by
 obtain ⟨i,h1,h2,h3,h4⟩:=ysm h
 constructor
 ·simp [Program.cellsOf,h1,h3]
 simp [Program.bytesOf,h1,h4]
def Light {H:Type} (t:Nat) (d:DataW H):Prop:=∀ n∈d.weights Tryz.prog t,n≤reachBytes
def Opens {H:Type} (eh:TypeId×Value→H) {α:Type} (t:Nat) (e:α→List PV):Prop :=
 ∀ (W:World) (fuel:Nat) (cs:List Value) (x:DataW H×List MemPlace),DataW.trod eh Tryz.prog W 0 (fun _=>true) true fuel t cs=some x→Light t x.1→∃ m,Rps (k0 W) (e m) cs∧One cs
section
variable {H:Type} {eh:TypeId×Value→H}
theorem one1 {v:Value} (h:v.oneCell'=true):One [v]:=fun u hu=>by rw [List.mem_singleton.1 hu];exact h
theorem xlm {t:Nat} {k:IntKind} (h:und t=some (.int k)):Opens eh t (fun x:Int=>[.v (.int k x)]):=fun W fuel cs x hx _=>by
 obtain ⟨n,rfl,_,_⟩:=DataW.trod_int (ycf h) hx
 exact ⟨n,.cons (.v rfl) .nil,one1 rfl⟩
theorem yqy {e:Nat}:∀ {l:List (DataW H)} {d:DataW H} {n:Nat},d∈l→n∈d.weights Tryz.prog e→n∈DataW.weightsAll Tryz.prog e l
 | d'::l,d,n,hd,hn=>by
  simp only [DataW.weightsAll,List.mem_append]
  rcases List.mem_cons.1 hd with rfl | hd
  ·exact .inl hn
  exact .inr (yqy hd hn)
theorem xln {α β:Type} {R:α→β→Prop}:∀ (l:List β),(∀ b∈l,∃ a,R a b)→∃ la:List α,la.length=l.length∧∀ (i:Nat) (b:β),l[i]?=some b→∃ a,la[i]?=some a∧R a b
 | [],_=>⟨[],rfl,fun i b h=>by simp at h⟩
 | b::l,h=>by
  obtain ⟨a,ha⟩:=h b (by simp)
  obtain ⟨la,h1,h2⟩:=xln l fun b hb=>h b (by simp [hb])
  refine ⟨a::la,by simp [h1],fun i b' hb=>?_⟩
  cases i with
  | zero=>simp only [List.getElem?_cons_zero,osj] at hb;subst hb;exact ⟨a,rfl,ha⟩
  | succ i=>simp only [List.getElem?_cons_succ] at hb ⊢;exact h2 i b' hb
def OpensN {H:Type} (eh:TypeId×Value→H) {α:Type} (N:Nat) (t:Nat) (e:α→List PV):Prop :=
 ∀ (W:World) (fuel:Nat) (cs:List Value) (x:DataW H×List MemPlace),fuel<N→DataW.trod eh Tryz.prog W 0 (fun _=>true) true fuel t cs=some x→Light t x.1→∃ m,Rps (k0 W) (e m) cs∧One cs
theorem xcc {α:Type} {N t E sz by':Nat} {z:Value} {e:α→List PV} (hu:und t=some (.slice E)) (hi:inf E=some (z,sz,by')) (h0:Nat.blt 0 sz=true) (hb0:Nat.blt 0 by'=true) (hE:OpensN eh N E e):OpensN eh (N+1) t (eL e):=fun W fuel cs x hfu hx hw=>by
 obtain ⟨hcz,hby⟩:=ysx hi
 have hsz:0<sz:=by have:=h0;simp [Nat.blt] at this;omega
 have hbp:0<by':=by have:=hb0;simp [Nat.blt] at this;omega
 rcases DataW.trod_slice (ycf hu) hx with ⟨rfl,_⟩ | ⟨a,len,cap,elems,rest,n,rfl,rfl,rfl,_,hl,hm,hlen,hel,_,_⟩
 ·exact ⟨[],.cons (.slc (sz:=sz) (css:=[]) Sl.nil (Nat.zero_le _) (fun _ h=>by cases h) .nil) .nil,one1 rfl⟩
 rw [hcz] at hel
 have hwl:(elems.length+rest.length)*by'≤reachBytes:=by
  have:=hw ((elems.length+rest.length)*by') (by simp only [DataW.weights,ycf hu,hby,List.length_map];exact List.mem_cons_self)
  exact this
 have hn:len≤140737488355328:=by
  unfold reachBytes at hwl
  have:elems.length*1≤(elems.length+rest.length)*by':=Nat.mul_le_mul (by omega) (by omega)
  omega
 have hcells:∀ i∈List.range len,∃ p:α×List Value,W.cells? 0 (a.add (i*sz)) sz=some p.2∧Rps (k0 W) (e p.1) p.2∧One p.2:=fun i hi'=>by
  have hi':i<len:=List.mem_range.1 hi'
  have h1:=hel i hi'
  have hlt:i<elems.length:=by omega
  rw [List.getElem?_eq_getElem hlt] at h1
  obtain ⟨cs,h2,h3⟩:=Option.bind_eq_some_iff.1 h1
  obtain ⟨m,k1,k2⟩:=hE W n cs _ (by omega) h3 fun q hq=>hw q (by
   simp only [DataW.weights,ycf hu]
   exact List.mem_cons_of_mem _ (List.mem_append.2 (.inl (yqy (List.mem_map.2 ⟨_,List.getElem_mem hlt,rfl⟩) hq))))
  exact ⟨(m,cs),h2,k1,k2⟩
 obtain ⟨ps,g1,g2⟩:=xln (R:=fun (p:α×List Value) i=>W.cells? 0 (a.add (i*sz)) sz=some p.2∧Rps (k0 W) (e p.1) p.2∧One p.2) (List.range len) hcells
 rw [List.length_range] at g1
 have g3:∀ (i:Nat) (p:α×List Value),ps[i]?=some p→W.cells? 0 (a.add (i*sz)) sz=some p.2∧Rps (k0 W) (e p.1) p.2∧One p.2:=fun i p hp=>by
  have hlt:=(List.getElem?_eq_some_iff.1 hp).1
  obtain ⟨p',h1,h2⟩:=g2 i i (by rw [List.getElem?_range (by omega)])
  rw [hp] at h1;injection h1 with h1;subst h1;exact h2
 refine ⟨ps.map (·.1),?_,one1 rfl⟩
 have hps:(ps.map (·.1)).length=len:=by simp [g1]
 unfold eL;rw [hps]
 refine .cons (.slc (sz:=sz) (css:=ps.map (·.2)) ⟨by simp [g1],hl,?_,?_⟩ hn ?_ ?_) .nil
 ·intro c hc
  obtain ⟨p,hp,rfl⟩:=List.mem_map.1 hc
  obtain ⟨i,hi',rfl⟩:=List.getElem_of_mem hp
  exact (World.cells?_some (g3 i _ (List.getElem?_eq_getElem hi')).1).2.1
 ·intro hpos
  have hp0:0<ps.length:=by omega
  have hc0:=(World.cells?_some (g3 0 _ (List.getElem?_eq_getElem hp0)).1)
  have hread:=hc0.2.2 0 hsz
  have hspot:a.spot=none:=by
   have hlt:0<(ps[0]).2.length:=by rw [hc0.2.1];exact hsz
   rw [List.getElem?_eq_getElem hlt] at hread
   unfold World.cell? at hread
   cases hs:a.spot with
   | none=>rfl
   | some q =>
    have hsp:((a.add (0*sz)).add 0).spot.isSome=true:=by simp [Addr.add,hs]
    split at hread
    ·rw [if_pos hsp] at hread;cases hread
    cases hread
  obtain ⟨ab,ao,asp⟩:=a
  simp only at hspot;subst hspot
  refine ⟨ab,ao,rfl,fun j c hj=>?_⟩
  rw [List.getElem?_map] at hj
  cases hpj:ps[j]? with
  | none=>rw [hpj] at hj;cases hj
  | some p =>
   rw [hpj] at hj;simp only [Option.map_some,osj] at hj;subst hj
   have hcj:=World.cells?_some (g3 j p hpj).1
   refine ⟨?_,fun i u hu'=>?_⟩
   ·have h1:=hcj.2.2 0 hsz
    have hlt:0<p.2.length:=by rw [hcj.2.1];exact hsz
    rw [List.getElem?_eq_getElem hlt,yin,yin] at h1
    unfold World.cell? at h1
    split at h1
    ·rename_i heq
     have:=ypd heq
     exact this
    cases h1
   have hlt:i<sz:=by have:=(List.getElem?_eq_some_iff.1 hu').1;omega
   have h1:=hcj.2.2 i hlt
   rw [yin,yin] at h1
   rw [← hu'];exact h1
 ·intro c hc
  obtain ⟨p,hp,rfl⟩:=List.mem_map.1 hc
  obtain ⟨i,hi',rfl⟩:=List.getElem_of_mem hp
  exact (g3 i _ (List.getElem?_eq_getElem hi')).2.2
 have:∀ (l:List (α×List Value)),(∀ p∈l,Rps (k0 W) (e p.1) p.2)→Rpss (k0 W) ((l.map (·.1)).map e) (l.map (·.2)):=fun l=>by
  induction l with
  | nil=>exact fun _=>.nil
  | cons p l ih=>exact fun h=>.cons (h p (by simp)) (ih fun q hq=>h q (by simp [hq]))
 refine this ps fun p hp=>?_
 obtain ⟨i,hi',rfl⟩:=List.getElem_of_mem hp
 exact (g3 i _ (List.getElem?_eq_getElem hi')).2.1
theorem xek {α:Type} {t E sz by':Nat} {z:Value} {e:α→List PV} (hu:und t=some (.slice E)) (hi:inf E=some (z,sz,by')) (h0:Nat.blt 0 sz=true) (hb0:Nat.blt 0 by'=true) (hE:Opens eh E e):Opens eh t (eL e):=fun W fuel cs x hx hw =>
 xcc (N:=fuel) hu hi h0 hb0 (fun W' f' cs' x' _=>hE W' f' cs' x') W fuel cs x (Nat.lt_succ_self _) hx hw
end
end SX
end Go.Proofs.YtoccohlbjnoeoaaGreatDoor
set_option maxRecDepth 100000
namespace Go.Proofs.YtoccohlbjnoeoaaGreatDoor
open Go Go.ChangeShapes Go.WideShapes Go.RowKit
namespace SX
theorem own_ok:ownKnob Tryz.prog.godebug=none:=by kernel_rfl
theorem xib:laidOutB Tryz.prog=true:=by kernel_rfl
def laidL:List (String×DataW Unit):=[("unicode/utf8.acceptRanges",Rows.laid_unicode_utf8_acceptRanges),("customs/nomenclature.lengths",Rows.laid_customs_nomenclature_lengths),("unicode/utf8.first",Rows.laid_unicode_utf8_first)]
mutual
def cellsD:DataW Unit→List Value
 | .lit (.int k n)=>[.int k n]
 | .agg ds=>cellsDs ds
 | _=>[]
def cellsDs:List (DataW Unit)→List Value
 | []=>[]
 | d::r=>cellsD d++cellsDs r
end
def c_acc:Array Value:=(cellsD Rows.laid_unicode_utf8_acceptRanges).toArray
def c_len:Array Value:=#[.int .i64 2,.int .i64 4,.int .i64 6,.int .i64 8]
def c_first:Array Value:=(cellsD Rows.laid_unicode_utf8_first).toArray
def layAt (h:Array Obj) (g:Nat) (cs:Array Value):Array Obj:=h.modify g fun | .cells _ t frozen=>.cells cs t frozen | o=>o
noncomputable def laidWorld (os:Os):World :=
 { World.holding Tryz.prog os ⟨#[],#[],[]⟩ with heap:=layAt (layAt (layAt (World.holding Tryz.prog os ⟨#[],#[],[]⟩).heap 4 c_acc) 0 c_len) 3 c_first }
theorem yyf:(laidL.filter fun x=>x.2.handleName?.isSome)=[]:=by kernel_rfl
def placeB (w:World):MemPlace→Bool
 | .cell b off=>match w.heap[b]? with
  | some (.cells c _ (0,0))=>match c[off]? with | some (.iface _ _)=>false | _=>true
  | _=>false
 | _=>true
theorem xic {w:World} {ps:List MemPlace} (h:ps.all (placeB w)=true):∀ b off,MemPlace.cell b off∈ps→(∃ c t,w.heap[b]?=some (.cells c t (0,0)))∧∀ u v,w.cell? ⟨b,off,none⟩=some (.iface u v)→Value.okWide Tryz.prog w .any 0 u v:=fun b off hm=>by
 have:=List.all_eq_true.1 h _ hm
 unfold placeB at this
 split at this
 ·rename_i b' off' e
  injection e with e1 e2;subst e1;subst e2
  split at this
  ·rename_i c t heq
   refine ⟨⟨c,t,heq⟩,fun u v hc=>?_⟩
   simp only [World.cell?,heq] at hc
   split at this
   ·cases this
   rename_i hno;exact absurd hc (by simpa using hno u v)
  cases this
 rename_i hno;exact absurd rfl (hno b off)
theorem yzx (os:Os) (args:Array Value):laidMetH Tryz.prog laidL ((laidWorld os).forCall (fun _ _=>0) ⟨#[],args,[]⟩).memory:=by
 unfold laidMetH
 rw [yyf]
 refine ⟨_,⟨4,277,c_acc,8,[],_,by kernel_rfl,by kernel_rfl,by kernel_rfl,by kernel_rfl,⟨0,228,c_len,8,[],_,by kernel_rfl,by kernel_rfl,by kernel_rfl,by kernel_rfl,⟨3,274,c_first,8,[],_,by kernel_rfl,by kernel_rfl,by kernel_rfl,by kernel_rfl,rfl,rfl⟩,rfl⟩,rfl⟩,?_,?_⟩
 ·exact of_decide_eq_true (by kernel_rfl)
 exact xic (by kernel_rfl)
theorem yok {H:Type} {eh:TypeId×Value→H} {P:Program} {w:World} {base:Nat} {sp:Nat→Bool} {held:Bool} {fuel:Nat} {t:TypeId} {k:IntKind} {c:Value} {y:DataW H×List MemPlace} (ht:P.underlying t=some (.int k)) (h:DataW.trod eh P w base sp held fuel t [c]=some y):∃ n,c=.int k n∧y=(.lit (.int k n),[]):=by
 obtain ⟨n,h1,h2,_⟩:=DataW.trod_int ht h
 injection h1 with h1 _
 exact ⟨n,h1,h2⟩
theorem xel {W:World} (h:laidMetH Tryz.prog laidL W):GOK (k0 W):=by
 unfold laidMetH at h
 rw [yyf] at h
 obtain ⟨ps,⟨_,_,_,_,_,_,_,_,_,_,⟨g,t,cs,fuel,p,q,hg,ht,hvar,hd,_,_⟩,_⟩,_⟩:=h
 obtain rfl:=Option.some.inj ((show Tryz.prog.globalNamed "customs/nomenclature.lengths" = some 0 by kernel_rfl).symm.trans hg)
 obtain rfl:=Option.some.inj ((show (Tryz.prog.globals[0]?).map (·.type)=some 228 by kernel_rfl).symm.trans ht)
 have hcs:cs=c_len:=by
  obtain ⟨l⟩:=cs
  cases fuel with
  | zero=>simp [DataW.trod] at hd
  | succ fuel =>
   have hc1:=(ysx (t:=228) rfl).1
   have hc2:=(ysx (t:=3) rfl).1
   have hu1:Tryz.prog.underlying 228=some (.array 4 3):=ycf rfl
   simp only [DataW.trod,hu1,hc1,hc2] at hd
   split at hd
   ·rename_i hl
    obtain ⟨c0,c1,c2,c3,rfl⟩:∃ c0 c1 c2 c3,l=[c0,c1,c2,c3]:=by
     match l,hl with
     | [a,b,c,d],_=>exact ⟨a,b,c,d,rfl⟩
    have e:List.range 4=[0,1,2,3]:=rfl
    rw [e] at hd
    simp only [Option.map_eq_some_iff,List.mapM_cons,List.mapM_nil,Option.bind_eq_bind,Option.bind_eq_some_iff,Option.pure_def,osj] at hd
    obtain ⟨xs,⟨y0,h0,_,⟨y1,h1,_,⟨y2,h2,_,⟨y3,h3,_,rfl,rfl⟩,rfl⟩,rfl⟩,rfl⟩,hx⟩:=hd
    have hui:Tryz.prog.underlying 3=some (.int .i64):=ycf rfl
    obtain ⟨n0,rfl,rfl⟩:=yok hui h0
    obtain ⟨n1,rfl,rfl⟩:=yok hui h1
    obtain ⟨n2,rfl,rfl⟩:=yok hui h2
    obtain ⟨n3,rfl,rfl⟩:=yok hui h3
    simp [Rows.laid_customs_nomenclature_lengths] at hx
    obtain ⟨⟨rfl,rfl,rfl,rfl⟩,_⟩:=hx
    rfl
   cases hd
 subst hcs
 have hcell:∀ j u,c_len[j]?=some u→W.cell? ⟨0,j,none⟩=some u:=fun j u hu=>by
  have:=World.var?_cell hg hvar j
  rw [this];exact hu
 refine ⟨?_,fun j u hu=>?_⟩
 ·have h0:=hcell 0 _ rfl
  unfold World.cell? at h0
  split at h0
  ·rename_i heq;exact ypd heq
  cases h0
 rw [Nat.zero_add];exact hcell j u (by simpa [c_len] using hu)
end SX
end Go.Proofs.YtoccohlbjnoeoaaGreatDoor
set_option maxRecDepth 100000
namespace Go.Proofs.YtoccohlbjnoeoaaGreatDoor
open Go Go.ChangeShapes Go.WideShapes Go.RowKit
namespace SX
theorem inv0 (W:World):Zp ⟨k0 W,[]⟩ [] (k0 W):=⟨.refl _ _,fun _ h=>h,(fun _ h=>by cases h),(fun _ h=>by cases h),.nil⟩
theorem below_of {W:World} {ρ:List Res} {κ:Kr} (h:Zp ⟨k0 W,[]⟩ ρ κ):Below W.heap.size W κ.w:=⟨h.le.os,h.le.tape,h.le.output,h.le.kle.size,fun k hk=>h.le.same k hk (by simp)⟩
section
variable {H:Type} {eh:TypeId×Value→H}
theorem yzy {W W':World} (hb:Below W.heap.size W W') {ts:List TypeId} (hr:∀ t∈ts,Tryz.prog.readableRec t=true∧t<Tryz.prog.types.size):∀ {vs:List Value} {ds:List (DataW H)} {ps:List MemPlace},DataW.TrodAll eh Tryz.prog W 0 (fun _=>true) true ts vs ds ps→(∀ p∈ps,p.block<W.heap.size)→DataW.TrodAll eh Tryz.prog W' 0 (fun b=>decide (b<W.heap.size)) true ts vs ds ps:=by
 induction ts with
 | nil=>intro vs ds ps h _;cases vs <;> cases ds <;> first | exact h | cases h
 | cons t ts ih =>
  intro vs ds ps h hlt
  cases vs with
  | nil=>cases h
  | cons v vs =>
   cases ds with
   | nil=>cases h
   | cons d ds =>
    obtain ⟨p,q,h1,h2,e⟩:=h
    have ht:=hr t (by simp)
    exact ⟨p,q,Below.trod xib ht.1 ht.2 h1 hb (fun x hx=>hlt x (by rw [e];simp [hx])),ih (fun u hu=>hr u (by simp [hu])) h2 (fun x hx=>hlt x (by rw [e];simp [hx])),e⟩
theorem readB {ts:List TypeId} (h:(ts.all fun t=>Tryz.prog.readableRec t&&Nat.blt t Tryz.prog.types.size)=true):∀ t∈ts,Tryz.prog.readableRec t=true∧t<Tryz.prog.types.size:=fun t ht=>by
 have:=List.all_eq_true.1 h t ht
 rw [Bool.and_eq_true] at this
 exact ⟨this.1,by have h2:=this.2;exact Nat.le_of_ble_eq_true h2⟩
theorem row_post {f tb:Nat} {fn:Func} {s:ChangeSpec} {W:World} {args:Array Value} {ds gs:List (DataW H)} {before:List MemPlace} {pargs:List PV}
    (hrd:∀ t∈fn.params.toList,Tryz.prog.readableRec t=true∧t<Tryz.prog.types.size) (hres:fn.resultTypes=#[tb]) (hub:Tryz.prog.underlying tb=some .bool) (hvars:s.vars=[])
    (hspec:s.fn H ds={ results:=[.lit (.bool true)],args:=ds }) (hW:DataW.Whole eh Tryz.prog fn.params.toList s.vars false W args.toList ds gs before) (hG:GOK (k0 W)) (hargs:Rps (k0 W) pargs args.toList) (hPF:PF f pargs (.v (.bool true))) :
    Calls Tryz.prog f args W fun e W'=>∃ v,e=.returned v∧s.post eh Tryz.prog fn false true false false W args v W':=by
  have hc:=(hPF (k0 W) args.toList hG hargs).2 (inv0 W)
  have e:args.toList.toArray=args:=by simp
  rw [e] at hc
  refine Calls.mono hc fun en W' ⟨v,ρ',κ',h1,h2,h3,h4,h5⟩=>⟨v,h1,?_⟩
  subst h2
  have hv:=h5.val
  subst hv
  have hb:=below_of h3
  have hW':=hW
  obtain ⟨p,q,hA,hV,rfl,hfz,hnd⟩:=hW
  rw [hvars] at hV
  obtain ⟨rfl,rfl⟩:gs=[]∧q=[]:=by
    cases gs with
    | nil=>exact ⟨rfl,hV⟩
    | cons g r=>exact absurd hV (by intro h;cases h)
  refine ⟨ds,[],_,[],p,[],hW',?_,?_,?_,hb.frame _,fun h=>by cases h⟩
  · rw [List.append_nil,hspec,hres];exact trodAll_mk1 (shut_bool hub true)
  · rw [List.append_nil,hspec];exact yzy hb hrd hA (DataW.TrodAll.lt hA)
  rw [hvars,List.append_nil,hspec];rfl
theorem trodAll_cons {W:World} {t:TypeId} {ts:List TypeId} {vs:List Value} {ds:List (DataW H)} {ps:List MemPlace} (h:DataW.TrodAll eh Tryz.prog W 0 (fun _=>true) true (t::ts) vs ds ps):∃ v vs' d ds' p q,vs=v::vs'∧ds=d::ds'∧DataW.Trod eh Tryz.prog W 0 (fun _=>true) true t v d p∧DataW.TrodAll eh Tryz.prog W 0 (fun _=>true) true ts vs' ds' q:=by
 cases vs with
 | nil=>cases h
 | cons v vs =>
  cases ds with
  | nil=>cases h
  | cons d ds=>obtain ⟨p,q,h1,h2,_⟩:=h;exact ⟨v,vs,d,ds,p,q,rfl,rfl,h1,h2⟩
theorem trodAll_nil {W:World} {vs:List Value} {ds:List (DataW H)} {ps:List MemPlace} (h:DataW.TrodAll eh Tryz.prog W 0 (fun _=>true) true [] vs ds ps):vs=[]∧ds=[]:=by
 cases vs <;> cases ds <;> first | exact ⟨rfl,rfl⟩ | cases h
theorem xem {l:Array TypeId} (h:(l.toList.all fun t => !Tryz.prog.wantsStandIn t)=true) {j:Nat} {t:TypeId} (ht:l[j]?=some t):Tryz.prog.wantsStandIn t=false:=by
 have:=List.all_eq_true.1 h t (by have:=Array.mem_of_getElem? ht;simpa using this)
 simpa using this
theorem light_head {t:Nat} {ts:List Nat} {d:DataW H} {ds:List (DataW H)} (h:(DataW.weightsEach Tryz.prog (t::ts) (d::ds)).all (· ≤ reachBytes)=true):Light t d∧(DataW.weightsEach Tryz.prog ts ds).all (· ≤ reachBytes)=true:=by
 simp only [DataW.weightsEach,List.all_append,Bool.and_eq_true] at h
 exact ⟨fun n hn=>by simpa using List.all_eq_true.1 h.1 n hn,h.2⟩
def isPlainD:TypeDesc→Bool
 | .int _ | .bool | .string | .slice _=>true
 | _=>false
theorem not_agg {W:World} {r:Reach} {base t:Nat} {v:Value} {D:TypeDesc} (hu:und t=some D) (hD:isPlainD D=true) (h:Value.okWide Tryz.prog W r base t v):∀ cs,v.cells.toList=[cs]→v=cs:=fun cs he=>by
 cases v with
 | agg arr =>
  exfalso
  unfold Value.okWide at h
  rw [ycf hu] at h
  cases D <;> first | (revert hD;simp [isPlainD];done) | (simp only at h;unfold Cell.okWide at h;rw [ycf hu] at h;simp only at h;unfold Cell.ok at h;rw [ycf hu] at h;simp at h)
 | _=>simpa [Value.cells] using he
theorem yzz {W:World} {r:Reach} {base t:Nat} {v:Value} {D:TypeDesc} {α:Type} {e:α→List PV} {d:DataW H} {ps:List MemPlace} (hu:und t=some D) (hD:isPlainD D=true) (hO:Opens eh t e) (h1:∀ m,∃ p,e m=[p]) (h:Value.okWide Tryz.prog W r base t v) (hd:DataW.Trod eh Tryz.prog W 0 (fun _=>true) true t v d ps) (hl:Light t d):∃ m,Rps (k0 W) (e m) [v]:=by
 obtain ⟨fuel,hf⟩:=hd
 obtain ⟨m,h2,_⟩:=hO W fuel _ _ hf hl
 refine ⟨m,?_⟩
 obtain ⟨p,hp⟩:=h1 m
 rw [hp] at h2
 generalize hc:v.cells.toList=cs at h2
 obtain ⟨w,ws,rfl,h3,h4⟩:=h2.cons_inv
 rw [h4.nil_inv] at hc
 rw [not_agg hu hD h w hc,hp]
 exact .cons h3 .nil
end
theorem xlo {κ:Kr} {ps:List PV} {vs:List Value} {k:Nat} {s:ByteArray} (h:Rps κ ps vs) (hk:ps[k]?=some (.v (.string s))):s.size≤140737488355328:=by
 obtain ⟨v,_,h2⟩:=h.get hk
 exact Nat.le_of_ble_eq_true h2.ok
theorem xlp {κ:Kr} {ps:List PV} {vs:List Value} {k mm:Nat} {xs:List (List PV)} (h:Rps κ ps vs) (hk:ps[k]?=some (.slc mm xs)):xs.length≤140737488355328:=by
 obtain ⟨v,_,h2⟩:=h.get hk
 cases h2 with
 | slc hs hb _ hss=>rw [hss.len,hs.len];exact hb
theorem xgl {κ:Kr} {ps:List PV} {vs:List Value} {k mm:Nat} {xs:List (List PV)} {x:List PV} (h:Rps κ ps vs) (hk:ps[k]?=some (.slc mm xs)) (hx:x∈xs):∃ ds,Rps κ x ds:=by
 obtain ⟨v,_,h2⟩:=h.get hk
 cases h2 with
 | slc hs hb _ hss =>
  obtain ⟨i,hi,rfl⟩:=List.getElem_of_mem hx
  obtain ⟨ds,_,h3⟩:=hss.get (List.getElem?_eq_getElem hi)
  exact ⟨ds,h3⟩
end SX
end Go.Proofs.YtoccohlbjnoeoaaGreatDoor
namespace Go.Proofs.YtoccohlbjnoeoaaGreatDoor
namespace SX
open Go
theorem strs_of {κ:Kr} {ps:List PV} {vs:List Value} {k:Nat} {l:List ByteArray} (h:Rps κ ps vs) (hk:ps[k]?=some (pL eS l)):StrsOk l:=by
 refine ⟨by have:=xlp h hk;simpa using this,fun s hs=>?_⟩
 obtain ⟨ds,hd⟩:=xgl h hk (List.mem_map_of_mem (f:=eS) hs)
 exact xlo (k:=0) hd rfl
mutual
theorem rok_of {κ:Kr}:∀ (r:Zc) (ds:List Value),Rps κ (Zc.enc r) ds→ROk r
 | ⟨k,d,e,t,m,n,l⟩,ds,h=>by
  rw [Zc.enc_eq] at h
  have hl:l.length≤140737488355328:=by have:=xlp (k:=6) h rfl;simpa using this
  exact ⟨_,strs_of (k:=2) h rfl,xlo (k:=5) h rfl,hl,xlq l (fun a ha=>xgl (k:=6) h rfl (List.mem_map_of_mem (f:=Zc.enc) ha))⟩
theorem xlq {κ:Kr}:∀ (l:List Zc),(∀ a∈l,∃ ds,Rps κ (Zc.enc a) ds)→∀ a∈l,ROk a
 | [],_,_,h=>by cases h
 | b::l,h,a,ha=>by
  rcases List.mem_cons.1 ha with e | ha
  ·obtain ⟨ds,hd⟩:=h b (by simp)
   rw [e];exact rok_of b ds hd
  exact xlq l (fun a ha=>h a (by simp [ha])) a ha
end
def prefB (s p:ByteArray):Bool:=decide (p.size≤s.size)&&decide (s.extract 0 p.size=p)
theorem xgm (s p:ByteArray):Option.bind (gd (decide ((p.size:Int)≤(s.size:Int))) (ssub s 0 (p.size:Int))) (fun s1=>some ((decide ((p.size:Int)≤(s.size:Int)))&&(decide (s1=p))))=some (prefB s p):=by
 unfold prefB
 by_cases h:p.size≤s.size
 ·rw [det h,show decide ((p.size:Int)≤(s.size:Int))=true from det (by omega),yee]
  unfold ssub;rw [if_pos (by omega)];rfl
 rw [ydl h,show decide ((p.size:Int)≤(s.size:Int))=false from ydl (by omega)];rfl
theorem ywb (s p:ByteArray):ydf s p=some (prefB s p):=by
 unfold ydf yfm;rw [xgm];rfl
theorem xgn (s p:ByteArray):yjs s p=some (prefB s p):=by unfold yjs;exact xgm s p
def bestStep (l:List Zi) (code:ByteArray) (k:Nat) (x:Zi) (b:Option Nat):Option Nat :=
 cond (prefB code x.Prefix&&(match b with | none=>true | some j=>decide ((l.getD j x).Prefix.size<x.Prefix.size))) (some k) b
def noE {α:Type} (e:Empty):α:=nomatch e
def bestI (l:List Zi) (code:ByteArray):Option Nat:=outf (fun b=>b) noE (run (fun k x b=>(.inl (bestStep l code k x b):Option Nat⊕Empty)) l 0 none)
def optI:Option Nat→Int
 | none => -1
 | some j=>(j:Int)
theorem ytx (b:Option Nat):decide (optI b<0)=b.isNone:=by
 cases b with
 | none=>rfl
 | some j=>exact ydl (by simp only [optI];omega)
def inB (n:Nat) (b:Option Nat):Prop:=∀ j,b=some j→j<n
theorem xen {l:List Zi} {code:ByteArray} {k:Nat} {x:Zi} {b:Option Nat} (h:inB k b):inB (k+1) (bestStep l code k x b):=by
 intro j hj
 unfold bestStep at hj
 split at hj
 all_goals (cases hc:(prefB code x.Prefix&&_) <;> rw [hc] at hj <;> simp only [cot,cof] at hj)
 all_goals first | (injection hj with hj;omega) | (have:=h j hj;omega) | (cases hj)
theorem bestI_in (l:List Zi) (code:ByteArray):inB l.length (bestI l code):=by
 have key:∀ (m:List Zi) (i:Nat) (b:Option Nat),inB i b→inB (i+m.length) (outf (fun b=>b) noE (run (fun k x b=>(.inl (bestStep l code k x b):Option Nat⊕Empty)) m i b)):=by
  intro m
  induction m with
  | nil=>intro i b h;exact h
  | cons x m ih =>
   intro i b h
   rw [yjp,List.length_cons,show i+(m.length+1)=(i+1)+m.length by omega]
   exact ih _ _ (xen h)
 have:=key l 0 none (fun j h=>by cases h)
 rwa [Nat.zero_add] at this
theorem xlr (l:List Zi) (code:ByteArray) (hl:l.length≤140737488355328) {β:Type} (K:Int→Option β):Option.bind (loopF (S:=Int×Int) (T:=(Int)) (fun (v3,v4)=>cond (decide (v4<(l.length:Int))) (Option.bind (Option.bind (idx l v4) (fun m11=>Option.bind (ydf code m11.Prefix) (fun x13=>Option.bind (gd (x13&&(!(decide (v3<0)))) (idx l v3)) (fun m14=>cond (x13&&((decide (v3<0))||(decide ((m14.Prefix.size:Int)<(m11.Prefix.size:Int))))) (some v4) (some v3))))) (fun v9=>some (.inl (v9,(IntKind.i64.wrap (v4+1)))))) (some (.inr v3))) FUEL ((-1),0)) K=K (optI (bestI l code)):=by
 have h62:l.length≤4611686018427387904:=by omega
 refine (yks (l:=l) h62 (fun i (b:Option Nat)=>(optI b,i)) (fun k x b=>(.inl (bestStep l code k x b):Option Nat⊕Empty)) optI noE (fun k b=>inB k b) none (fun j h=>by cases h) (fun k hk b hb=>⟨?_,fun b' h=>by injection h with h;rw [← h];exact xen hb⟩) (fun b hb=>by simp only [yhb,cof])).trans ?_
 ·simp only [dlt hk,cot,yax hk,obs,ywb,ycw hk h62,outc,ytx]
  unfold bestStep
  cases hp:prefB code l[k].Prefix
  ·rfl
  cases b with
  | none=>rfl
  | some j =>
   have hj:=hb j rfl
   simp only [Option.isNone_some,Bool.not_false,Bool.and_true,yee,optI,yax (show j<l.length by omega),obs,Bool.true_and,Bool.false_or,yfs (show j<l.length by omega)]
   have e:decide (((l[j]'(by omega)).Prefix.size:Int)<(l[k].Prefix.size:Int))=decide ((l[j]'(by omega)).Prefix.size<l[k].Prefix.size):=decide_eq_decide.2 (by omega)
   rw [e]
   cases decide ((l[j]'(by omega)).Prefix.size<l[k].Prefix.size) <;> rfl
 unfold bestI
 congr 1
 cases run (fun k x b=>(.inl (bestStep l code k x b):Option Nat⊕Empty)) l 0 none with
 | inl b=>rfl
 | inr e=>nomatch e
theorem ref_best (l:List Zi) (code:ByteArray) (hl:l.length≤140737488355328) {β:Type} (K:Int→Option β):Option.bind (loopF (S:=Int×Int) (T:=(Int)) (fun (v3,v4)=>cond (decide (v4<(l.length:Int))) (Option.bind (Option.bind (idx l v4) (fun m11=>Option.bind (yjs code m11.Prefix) (fun x12=>Option.bind (gd (x12&&(!(decide (v3<0)))) (idx l v4)) (fun m13=>Option.bind (gd (x12&&(!(decide (v3<0)))) (idx l v3)) (fun m14=>cond (x12&&((decide (v3<0))||(decide ((m14.Prefix.size:Int)<(m13.Prefix.size:Int))))) (some v4) (some v3)))))) (fun v9=>some (.inl (v9,(IntKind.i64.wrap (v4+1)))))) (some (.inr v3))) FUEL ((-1),0)) K=K (optI (bestI l code)):=by
 have h62:l.length≤4611686018427387904:=by omega
 refine (yks (l:=l) h62 (fun i (b:Option Nat)=>(optI b,i)) (fun k x b=>(.inl (bestStep l code k x b):Option Nat⊕Empty)) optI noE (fun k b=>inB k b) none (fun j h=>by cases h) (fun k hk b hb=>⟨?_,fun b' h=>by injection h with h;rw [← h];exact xen hb⟩) (fun b hb=>by simp only [yhb,cof])).trans ?_
 ·simp only [dlt hk,cot,yax hk,obs,xgn,ycw hk h62,outc,ytx]
  unfold bestStep
  cases hp:prefB code l[k].Prefix
  ·rfl
  cases b with
  | none=>rfl
  | some j =>
   have hj:=hb j rfl
   simp only [Option.isNone_some,Bool.not_false,Bool.and_true,yee,optI,yax (show j<l.length by omega),obs,Bool.true_and,Bool.false_or,yfs (show j<l.length by omega)]
   have e:decide (((l[j]'(by omega)).Prefix.size:Int)<(l[k].Prefix.size:Int))=decide ((l[j]'(by omega)).Prefix.size<l[k].Prefix.size):=decide_eq_decide.2 (by omega)
   rw [e]
   cases decide ((l[j]'(by omega)).Prefix.size<l[k].Prefix.size) <;> rfl
 unfold bestI
 congr 1
 cases run (fun k x b=>(.inl (bestStep l code k x b):Option Nat⊕Empty)) l 0 none with
 | inl b=>rfl
 | inr e=>nomatch e
def opt2 {α:Type} (z:α):Option α→α×Bool
 | some r=>(r,true)
 | none=>(z,false)
def zRule:Zc:=⟨0,0,[],0,0,ByteArray.empty,[]⟩
def ruleOfS (a:Zb) (code:ByteArray):Option Zc:=(bestI a.Rules code).bind fun j=>(a.Rules[j]?).map (·.Rule)
theorem ypo (a:Zb) (code:ByteArray):(bestI a.Rules code=none∧ruleOfS a code=none)∨∃ j,∃ h:j<a.Rules.length,bestI a.Rules code=some j∧ruleOfS a code=some a.Rules[j].Rule:=by
 cases hb:bestI a.Rules code with
 | none=>left;exact ⟨rfl,by unfold ruleOfS;rw [hb];rfl⟩
 | some j =>
  have hj:=bestI_in a.Rules code j hb
  right;exact ⟨j,hj,rfl,by unfold ruleOfS;rw [hb,obs,List.getElem?_eq_getElem hj];rfl⟩
theorem ysy (a:Zb) (code:ByteArray) (hl:a.Rules.length≤140737488355328):yii a code=some (opt2 zRule (ruleOfS a code)):=by
 unfold yii
 rw [ref_best _ _ hl]
 rcases ypo a code with ⟨h1,h2⟩ | ⟨j,hj,h1,h2⟩
 ·rw [h1,h2];rfl
 rw [h1,h2,ytx];simp only [Option.isNone_some,cof,optI,yax hj,obs];rfl
theorem ynl {r:Zc} (h:ruleB r=true):r.Args.length≤6∧(∀ a∈r.Args,ruleB a=true)∧r.Except.length≤6:=by
 rw [yhq,Bool.and_eq_true] at h
 obtain ⟨h1,h2⟩:=h
 unfold plainB at h1
 simp only [Bool.and_eq_true,Bool.or_eq_true] at h1
 obtain ⟨⟨⟨p1,p2⟩,p3⟩,p4⟩:=h1
 have hE:r.Except.length≤6:=by
  rcases p1 with p1 | ⟨⟨_,p1⟩,_⟩
  ·have hk:=eq_of_beq p1
   rw [hk] at h2
   simp only [leafB,hk] at h2
   have h3:codesB r.Except=true:=by
    cases hc:codesB r.Except
    ·rw [hc] at h2;simp at h2
    rfl
   unfold codesB at h3
   simp only [Bool.and_eq_true,decide_eq_true_eq] at h3
   exact h3.1
  have:=List.isEmpty_iff.1 p1;rw [this];simp
 cases h56:(r.Kind == 5||r.Kind == 6)
 ·rw [Bool.or_eq_false_iff] at h56
  rcases p4 with (p4 | p4) | p4
  ·rw [h56.1] at p4;cases p4
  ·rw [h56.2] at p4;cases p4
  have:=List.isEmpty_iff.1 p4;rw [this];exact ⟨by simp,by simp,hE⟩
 rw [h56] at h2
 simp only [cot,Bool.and_eq_true,decide_eq_true_eq,List.all_eq_true] at h2
 exact ⟨h2.1.2,fun a ha=>(h2.2 a ha).2,hE⟩
theorem clone_F (n:Nat):∀ (r:Zc),ruleB r=true→dep r≤n→yfd n r=some r:=by
 induction n with
 | zero=>intro r _ hd;rw [yop] at hd;omega
 | succ n ih =>
  intro r hr hd
  obtain ⟨h1,h2,h3⟩:=ynl hr
  show ydt (yfd n) r=_
  unfold ydt yca
  rw [yjn (by omega) (by omega),obs,xkz (by omega) (by omega),obs]
  refine (ycp (l:=r.Args) (by omega) (fun i (a:List Zc)=>(a,i)) (fun a x=>a++[x]) (fun a=>a) (fun k a=>a.length=k) [] rfl (fun k hk a ha=>⟨?_,by simp [ha]⟩) (fun a ha=>by simp only [yhb,cof])).1.trans ?_
  ·simp only [dlt hk,cot,yax hk,obs,ycw hk (show r.Args.length≤4611686018427387904 by omega)]
   rw [ih _ (h2 _ (List.getElem_mem hk)) (by have:=ylt (List.getElem_mem hk);omega),obs,yds (by simp;omega) (by simp;omega)];rfl
  have:∀ (m acc:List Zc),m.foldl (fun a x=>a++[x]) acc=acc++m:=by
   intro m
   induction m with
   | nil=>intro acc;simp
   | cons x m ih=>intro acc;rw [List.foldl_cons,ih];simp
  rw [this,List.nil_append];cases r;rfl
theorem xid (r:Zc) (h:ruleB r=true) (hd:dep r≤1000):yhs r=some r:=clone_F FUEL r h (by have hf:FUEL=1267650600228229401496703205376:=rfl;omega)
structure VA (a:Zb):Prop where
 ok:AOk a
 rules:∀ x∈a.Rules,ruleE x.Rule=0
 len:a.Rules.length≤12∧a.Parties.length≤12
theorem ywc (a:Zb) (code:ByteArray) (ha:VA a):yea a code=some (opt2 zRule (ruleOfS a code)):=by
 unfold yea
 rw [xlr _ _ ha.ok.len]
 rcases ypo a code with ⟨h1,h2⟩ | ⟨j,hj,h1,h2⟩
 ·rw [h1,h2];rfl
 have hm:=List.getElem_mem hj
 have hr:=ha.ok.rules _ hm
 have hv:=ha.rules _ hm
 rw [h1,h2,ytx]
 simp only [Option.isNone_some,Bool.not_false,yee,optI,yax hj,obs,yse _ hr.rule hr.deep,hv,bne_self_eq_false,Bool.or_self,cof,xid _ ((ynk _).1 hv).2 hr.deep]
 rfl
theorem MA.va {i:Nat} {a:Zb} (h:MA i a):VA a:=⟨h.aok,fun x hx=>(ynk _).2 ⟨by have:=(h.good x hx).size;simp only [bnd3] at this;omega,(h.good x hx).valid⟩,by have:=P5_len h.pre;omega,by have:=h.par.length_le;have h6:C6.length=6:=rfl;omega⟩
theorem yqg {α T:Type} (p:α→Bool) (f:Nat→T):∀ (l:List α) (i:Nat),(findS (fun k x=>cond (p x) (some (f k)) none) l i=none∧l.find? p=none)∨∃ j,∃ h:j<l.length,findS (fun k x=>cond (p x) (some (f k)) none) l i=some (f (i+j))∧l.find? p=some l[j]
 | [],_=>.inl ⟨rfl,rfl⟩
 | x::xs,i=>by
  rw [findS,List.find?_cons]
  cases hp:p x
  ·rcases yqg p f xs (i+1) with ⟨h1,h2⟩ | ⟨j,hj,h1,h2⟩
   ·exact .inl ⟨h1,h2⟩
   exact .inr ⟨j+1,by simpa using hj,by rw [show i+(j+1)=i+1+j by omega];exact h1,h2⟩
  exact .inr ⟨0,by simp,rfl,rfl⟩
def hasS (l:List ByteArray) (s:ByteArray):Bool:=l.any fun x=>decide (x=s)
theorem hasS_iff (l:List ByteArray) (s:ByteArray):hasS l s=true↔s∈l:=by
 unfold hasS;simp
theorem yty (l:List ByteArray) (s:ByteArray) (hl:l.length≤140737488355328):ybv l s=some (hasS l s):=by
 unfold ybv
 have e:ycx l s=some (match findS (fun k x=>cond (decide (x=s)) (some (Sum.inr (k:Int):Unit⊕Int)) none) l 0 with | some (.inr k)=>k | _ => -1):=by
  unfold ycx
  refine (ybz (l:=l) (by omega) (fun k x=>cond (decide (x=s)) (some (.inr (k:Int))) none) (.inl ()) (fun k hk=>?_) (by simp only [yhb,cof])).trans ?_
  ·simp only [dlt hk,cot,yax hk,obs,ycw hk (show l.length≤4611686018427387904 by omega)]
   have e:decide (s=l[k])=decide (l[k]=s):=decide_eq_decide.2 eq_comm
   rw [e];cases decide (l[k]=s) <;> rfl
  cases findS (fun k x=>cond (decide (x=s)) (some (Sum.inr (k:Int):Unit⊕Int)) none) l 0 with
  | none=>rfl
  | some t=>cases t <;> rfl
 rw [e,obs]
 rcases yqg (fun x=>decide (x=s)) (fun k=>(Sum.inr (k:Int):Unit⊕Int)) l 0 with ⟨h1,h2⟩ | ⟨j,hj,h1,h2⟩
 ·rw [h1]
  have:hasS l s=false:=by unfold hasS;rw [List.any_eq_false];exact fun x hx=>by have:=List.find?_eq_none.1 h2 x hx;simpa using this
  rw [this];rfl
 rw [h1]
 have:hasS l s=true:=by
  have:=List.find?_some h2
  rw [hasS_iff];rw [← of_decide_eq_true this];exact List.getElem_mem hj
 rw [this]
 show some (decide (0≤((0+j:Nat):Int)))=_
 rw [det (by omega)]
theorem ysz (l:List ByteArray) (s:ByteArray) (hl:l.length≤140737488355328):yjt l s=some (hasS l s):=by
 unfold yjt
 refine (ybz (l:=l) (by omega) (fun _ x=>cond (decide (x=s)) (some (.inr true)) none) (.inl ()) (fun k hk=>?_) (by simp only [yhb,cof])).trans ?_
 ·simp only [dlt hk,cot,yax hk,obs,ycw hk (show l.length≤4611686018427387904 by omega)]
  cases decide (l[k]=s) <;> rfl
 rw [yrv (fun x=>decide (x=s))]
 unfold hasS;cases (l.any fun x=>decide (x=s)) <;> rfl
def findA (l:List Zb) (id:Int):Option Zb:=l.find? fun a=>a.ID == id
def zAgr:Zb:=⟨0,0,[],[]⟩
theorem ywd (l:List Zb) (id:Int) (hl:l.length≤140737488355328):yhe l id=some (opt2 zAgr (findA l id)):=by
 unfold yhe findA
 refine (ybz (l:=l) (by omega) (fun _ x=>cond (x.ID == id) (some (.inr (x,true))) none) (.inl ()) (fun k hk=>?_) (by simp only [yhb,cof])).trans ?_
 ·simp only [dlt hk,cot,yax hk,obs,ycw hk (show l.length≤4611686018427387904 by omega)]
  cases (l[k].ID == id) <;> rfl
 rw [ylc (fun x:Zb=>x.ID == id) (fun x=>(Sum.inr (x,true):Unit⊕(Zb×Bool)))]
 cases l.find? (fun x:Zb=>x.ID == id) <;> rfl
theorem yta (l:List Zb) (id:Int) (hl:l.length≤140737488355328):yeg l id=some (opt2 zAgr (findA l id)):=by
 unfold yeg findA
 have e:ybp l (fun y3=>ygg y3 id)=some (match findS (fun k (x:Zb)=>cond (x.ID == id) (some (Sum.inr (k:Int):Unit⊕Int)) none) l 0 with | some (.inr k)=>k | _ => -1):=by
  unfold ybp ygg
  refine (ybz (l:=l) (by omega) (fun k x=>cond (x.ID == id) (some (.inr (k:Int))) none) (.inl ()) (fun k hk=>?_) (by simp only [yhb,cof])).trans ?_
  ·simp only [dlt hk,cot,yax hk,obs,ycw hk (show l.length≤4611686018427387904 by omega)]
   cases (l[k].ID == id) <;> rfl
  cases findS (fun k (x:Zb)=>cond (x.ID == id) (some (Sum.inr (k:Int):Unit⊕Int)) none) l 0 with
  | none=>rfl
  | some t=>cases t <;> rfl
 rw [e,obs]
 rcases yqg (fun x:Zb=>x.ID == id) (fun k=>(Sum.inr (k:Int):Unit⊕Int)) l 0 with ⟨h1,h2⟩ | ⟨j,hj,h1,h2⟩
 ·rw [h1,h2];rfl
 rw [h1,h2]
 show cond (decide (((0+j:Nat):Int)<0)) _ (Option.bind (idx l ((0+j:Nat):Int)) _)=_
 rw [ydl (by omega),Nat.zero_add,yax hj];rfl
def zipB {α:Type} (R:α→α→Bool):List α→List α→Bool
 | [],_=>true
 | _::_,[]=>true
 | x::a,y::b=>R x y&&zipB R a b
def eqLB {α:Type} (R:α→α→Bool) (a b:List α):Bool:=a.length == b.length&&zipB R a b
theorem xcd {α T:Type} (R:α→α→Bool) (t:T) (B:List α):∀ (a b:List α) (i:Nat),B.drop i=b→a.length=b.length→findS (fun k x=>cond (R x (B.getD k x)) none (some t)) a i=cond (zipB R a b) none (some t)
 | [],b,_,_,_=>by cases b <;> rfl
 | x::a,[],_,_,h=>by simp at h
 | x::a,y::b,i,hd,h=>by
  have hi:i<B.length:=by
   rcases Nat.lt_or_ge i B.length with h | h
   ·exact h
   rw [List.drop_of_length_le h] at hd;cases hd
  rw [List.drop_eq_getElem_cons hi] at hd
  injection hd with h1 h2
  rw [findS,zipB,yfs hi,h1,xcd R t B a b (i+1) h2 (by simpa using h)]
  cases R x y <;> rfl
theorem xgo {α:Type} {R:α→α→Bool}:∀ {a b:List α},(∀ x∈a,∀ y∈b,R x y=true↔x=y)→(eqLB R a b=true↔a=b)
 | [],[],_=>by simp [eqLB,zipB]
 | [],y::b,_=>by simp [eqLB]
 | x::a,[],_=>by simp [eqLB]
 | x::a,y::b,h=>by
  have ih:=xgo (R:=R) (a:=a) (b:=b) fun u hu v hv=>h u (by simp [hu]) v (by simp [hv])
  have h0:=h x (by simp) y (by simp)
  unfold eqLB at ih ⊢
  rw [zipB]
  simp only [List.length_cons,Bool.and_eq_true,beq_iff_eq,Nat.add_right_cancel_iff,List.cons.injEq] at ih ⊢
  constructor
  ·rintro ⟨h1,h2,h3⟩;exact ⟨h0.1 h2,ih.1 ⟨h1,h3⟩⟩
  rintro ⟨h1,h2⟩;exact ⟨(ih.2 h2).1,h0.2 h1,(ih.2 h2).2⟩
theorem ywe {α:Type} (a b:List α):((a.length:Int) != (b.length:Int)) = !(a.length == b.length):=by
 by_cases h:a.length=b.length
 ·rw [h];simp
 have h2:¬ (a.length:Int)=(b.length:Int):=by omega
 have e1:(a.length == b.length)=false:=by simpa using h
 have e2:((a.length:Int) == (b.length:Int))=false:=by simpa using h2
 rw [e1,bne,e2]
theorem ywf {α:Type} {a b:List α} (ha:a.length≤140737488355328) (R:α→α→Bool) {body:Int→Option (Int⊕(Unit⊕Bool))} {k:Unit⊕Bool→Option Bool} (hk:k (.inl ())=some true∧k (.inr false)=some false) (hab:a.length=b.length)
    (hstep:∀ (k:Nat) (hk:k<a.length) (hk2:k<b.length),body (k:Int)=some (outg k (cond (R a[k] b[k]) none (some (.inr false))))) (hend:body (a.length:Int)=some (.inr (.inl ()))):Option.bind (loopF body FUEL 0) k=some (zipB R a b):=by
  refine (ybz (l:=a) (by omega) (fun i x=>cond (R x (b.getD i x)) none (some (.inr false))) (.inl ()) (fun i hi=>?_) hend).trans ?_
  · rw [hstep i hi (by omega),yfs (show i<b.length by omega)]
  rw [xcd R (Sum.inr false:Unit⊕Bool) b a b 0 rfl hab]
  cases zipB R a b
  · exact hk.2
  exact hk.1
theorem yqz (a b:List ByteArray) (ha:a.length≤140737488355328):yjh a b=some (decide (a=b)):=by
 have hiff:eqLB (fun x y=>decide (x=y)) a b=decide (a=b):=by
  have:=xgo (R:=fun x y:ByteArray=>decide (x=y)) (a:=a) (b:=b) (fun x _ y _=>by simp)
  cases h:eqLB (fun x y=>decide (x=y)) a b
  ·rw [h] at this;exact (ydl fun e=>by have:=this.2 e;cases this).symm
  exact (det (this.1 h)).symm
 rw [← hiff]
 unfold yjh eqLB
 rw [ywe]
 cases h:(a.length == b.length)
 ·rfl
 simp only [Bool.not_true,cof,Bool.true_and]
 refine ywf ha _ ⟨rfl,rfl⟩ (eq_of_beq h) (fun k hk hk2=>?_) (by simp only [yhb,cof])
 simp only [dlt hk,cot,yax hk,yax hk2,obs,ycw hk (show a.length≤4611686018427387904 by omega)]
 cases decide (a[k]=b[k]) <;> rfl
theorem ywg (a b:List ByteArray) (ha:a.length≤140737488355328):ydp a b=some (decide (a=b)):=by
 rw [← yqz a b ha];rfl
mutual
def ruleEq:Zc→Zc→Bool
 | ⟨k,d,e,t,m,n,l⟩,⟨k',d',e',t',m',n',l'⟩=>k == k'&&d == d'&&t == t'&&m == m'&&decide (n=n')&&decide (e=e')&&rulesEq l l'
def rulesEq:List Zc→List Zc→Bool
 | [],[]=>true
 | [],_::_=>false
 | _::_,[]=>false
 | a::l,b::m=>ruleEq a b&&rulesEq l m
end
mutual
theorem xie:∀ a b:Zc,ruleEq a b=true↔a=b
 | ⟨k,d,e,t,m,n,l⟩,⟨k',d',e',t',m',n',l'⟩=>by
  rw [ruleEq]
  simp only [Bool.and_eq_true,beq_iff_eq,decide_eq_true_eq,ywh l l',Zc.mk.injEq]
  constructor
  ·rintro ⟨⟨⟨⟨⟨⟨h1,h2⟩,h3⟩,h4⟩,h5⟩,h6⟩,h7⟩;exact ⟨h1,h2,h6,h3,h4,h5,h7⟩
  rintro ⟨h1,h2,h6,h3,h4,h5,h7⟩;exact ⟨⟨⟨⟨⟨⟨h1,h2⟩,h3⟩,h4⟩,h5⟩,h6⟩,h7⟩
theorem ywh:∀ a b:List Zc,rulesEq a b=true↔a=b
 | [],[]=>by simp [rulesEq]
 | [],_::_=>by simp [rulesEq]
 | _::_,[]=>by simp [rulesEq]
 | a::l,b::m=>by rw [rulesEq,Bool.and_eq_true,xie a b,ywh l m,List.cons.injEq]
end
theorem ywi:∀ a b:List Zc,rulesEq a b=eqLB ruleEq a b
 | [],[]=>by simp [rulesEq,eqLB,zipB]
 | [],_::_=>by simp [rulesEq,eqLB]
 | _::_,[]=>by simp [rulesEq,eqLB]
 | a::l,b::m=>by
  rw [rulesEq,ywi l m]
  unfold eqLB
  rw [zipB,List.length_cons,List.length_cons]
  have:(l.length+1 == m.length+1)=(l.length == m.length):=by
   cases h:(l.length == m.length)
   ·have:=(beq_eq_false_iff_ne).1 h;exact beq_eq_false_iff_ne.2 (by omega)
   have:=eq_of_beq h;rw [this];simp
  rw [this]
  cases ruleEq a b <;> cases (l.length == m.length) <;> rfl
theorem yyg (a b:Zc):ruleEq a b=(a.Kind == b.Kind&&a.Digits == b.Digits&&a.Tolerance == b.Tolerance&&a.Limit == b.Limit&&decide (a.Name=b.Name)&&decide (a.Except=b.Except)&&eqLB ruleEq a.Args b.Args):=by
 cases a;cases b;rw [ruleEq,ywi]
theorem xif (n:Nat):∀ (a b:Zc),ROk a→dep a≤n→ykh n a b=some (ruleEq a b):=by
 induction n with
 | zero=>intro a b _ hd;rw [yop] at hd;omega
 | succ n ih =>
  intro a b ha hd
  show ykg (ykh n) a b=_
  unfold ykg
  rw [yqz _ _ ha.ex.1,yyg,ywe]
  simp only [bne]
  have hl:=ha.len
  cases (a.Kind == b.Kind)
  ·rfl
  cases (a.Digits == b.Digits)
  ·rfl
  cases (a.Tolerance == b.Tolerance)
  ·rfl
  cases (a.Limit == b.Limit)
  ·rfl
  cases decide (a.Name=b.Name)
  ·rfl
  simp only [Bool.not_true,Bool.or_self,Bool.not_false,yee,obs,Bool.false_or,Bool.and_self,Bool.true_and]
  cases decide (a.Except=b.Except)
  ·rfl
  unfold eqLB
  cases h:(a.Args.length == b.Args.length)
  ·rfl
  simp only [Bool.not_true,Bool.or_self,cof,Bool.true_and]
  refine ywf hl _ ⟨rfl,rfl⟩ (eq_of_beq h) (fun k hk hk2=>?_) (by simp only [yhb,cof])
  simp only [dlt hk,cot,yax hk,yax hk2,obs,ycw hk (show a.Args.length≤4611686018427387904 by omega)]
  rw [ih _ _ (ha.arg (List.getElem_mem hk)) (by have:=ylt (List.getElem_mem hk);omega),obs]
  cases ruleEq a.Args[k] b.Args[k] <;> rfl
theorem xeo (n:Nat):∀ (a b:Zc),ROk a→dep a≤n→ydv n a b=some (ruleEq a b):=by
 induction n with
 | zero=>intro a b _ hd;rw [yop] at hd;omega
 | succ n ih =>
  intro a b ha hd
  have hl:=ha.len
  have hA:ybf a.Args b.Args (fun y4 y5=>ydv n y4 y5)=some (eqLB ruleEq a.Args b.Args):=by
   unfold ybf eqLB
   rw [ywe]
   cases h:(a.Args.length == b.Args.length)
   ·rfl
   simp only [Bool.not_true,cof,Bool.true_and]
   refine ywf hl _ ⟨rfl,rfl⟩ (eq_of_beq h) (fun k hk hk2=>?_) (by simp only [yhb,cof])
   simp only [dlt hk,cot,yax hk,yax hk2,obs,ycw hk (show a.Args.length≤4611686018427387904 by omega)]
   rw [ih _ _ (ha.arg (List.getElem_mem hk)) (by have:=ylt (List.getElem_mem hk);omega),obs]
   cases ruleEq a.Args[k] b.Args[k] <;> rfl
  show ydu (ydv n) a b=_
  unfold ydu
  rw [ywg _ _ ha.ex.1,yyg,hA]
  cases (a.Kind == b.Kind&&a.Digits == b.Digits&&a.Tolerance == b.Tolerance&&a.Limit == b.Limit&&decide (a.Name=b.Name))
  ·rfl
  cases decide (a.Except=b.Except)
  ·rfl
  cases eqLB ruleEq a.Args b.Args <;> rfl
def rfEq (x y:Zi):Bool:=decide (x.Prefix=y.Prefix)&&ruleEq x.Rule y.Rule
theorem xaa (a b:List Zi) (ha:a.length≤140737488355328) (hr:∀ x∈a,RFOk x):yln a b=some (eqLB rfEq a b):=by
 unfold yln eqLB
 rw [ywe]
 cases h:(a.length == b.length)
 ·rfl
 simp only [Bool.not_true,cof,Bool.true_and]
 refine ywf ha _ ⟨rfl,rfl⟩ (eq_of_beq h) (fun k hk hk2=>?_) (by simp only [yhb,cof])
 have hx:=hr _ (List.getElem_mem hk)
 simp only [dlt hk,cot,yax hk,yax hk2,obs,ycw hk (show a.length≤4611686018427387904 by omega),rfEq]
 cases decide (a[k].Prefix=b[k].Prefix)
 ·rfl
 have e:yqw a[k].Rule b[k].Rule=some (ruleEq a[k].Rule b[k].Rule):=xif FUEL _ _ hx.rule (by have hf:FUEL=1267650600228229401496703205376:=rfl;have:=hx.deep;omega)
 simp only [Bool.not_true,Bool.not_false,yee,obs,e,Bool.false_or,Bool.true_and]
 cases ruleEq a[k].Rule b[k].Rule <;> rfl
theorem yxg (a b:List Zi) (ha:a.length≤140737488355328) (hr:∀ x∈a,RFOk x) (hv:∀ x∈a,ruleE x.Rule=0):yeh a b=some (eqLB rfEq a b):=by
 unfold yeh ybe eqLB
 rw [ywe]
 cases h:(a.length == b.length)
 ·rfl
 simp only [Bool.not_true,cof,Bool.true_and]
 rw [ywf ha rfEq ⟨rfl,rfl⟩ (eq_of_beq h) (fun k hk hk2=>?_) (by simp only [yhb,cof])]
 ·rfl
 have hx:=hr _ (List.getElem_mem hk)
 have hxv:=hv _ (List.getElem_mem hk)
 simp only [dlt hk,cot,yax hk,yax hk2,obs,ycw hk (show a.length≤4611686018427387904 by omega),rfEq]
 unfold yev
 cases decide (a[k].Prefix=b[k].Prefix)
 ·rfl
 have e:yht a[k].Rule b[k].Rule=some (ruleEq a[k].Rule b[k].Rule):=xeo FUEL _ _ hx.rule (by have hf:FUEL=1267650600228229401496703205376:=rfl;have:=hx.deep;omega)
 simp only [yee,yse _ hx.rule hx.deep,hxv,obs,beq_self_eq_true,Bool.and_self,e,Bool.true_and]
 cases ruleEq a[k].Rule b[k].Rule <;> rfl
def Digs (l:List Int):Prop:=∀ x∈l,48≤x∧x≤57
theorem code_Y {p:Zl} (hp:SOK p) (n:Nat) (hn:n=6∨n=8):Y (ygw p (n:Int)) (fun r=>(∃ l:List Int,r.1=strOfNums l∧l.length=n∧Digs l)∧SOK r.2):=by
 unfold ygw
 refine (ygl hp 2 (by omega) (by omega)).bind fun a ⟨a1,a2,a3⟩=>?_
 rw [ygo (by omega) (by omega),xdp (by omega)]
 refine Y.bind (P:=fun t:List Int×List Int×Int=>t.1.length=n∧Digs t.1∧SOK ⟨t.2.1,t.2.2⟩) ?_ fun t ⟨t1,t2,t3⟩=>?_
 ·refine Y.loop (fun s:List Int×List Int×Int=>(s.1.length % 2=0∧s.1.length≤n)∧Digs s.1∧SOK ⟨s.2.1,s.2.2⟩) (fun s=>n - s.1.length) ⟨⟨by simp,by simp;omega⟩,fun x hx=>by simp at hx;omega,a3⟩ (by dsimp only;omega) fun s hs=>?_
  obtain ⟨l,m,i⟩:=s
  obtain ⟨⟨s0,s1⟩,s2,s3⟩:=hs
  dsimp only at s0 s1 s2 s3 ⊢
  refine Y.cond (fun hc=>?_) (fun hc=>Y.ret ⟨by have:=of_decide_eq_false hc;dsimp only;omega,s2,s3⟩)
  have hc:=of_decide_eq_true hc
  refine (ygl s3 3 (by omega) (by omega)).bind fun x ⟨x1,x2,x3⟩=>?_
  rw [yds (by simp;omega) (by simp;omega),obs,ygo (by omega) (by omega),xdp (by omega)]
  refine Y.ret ⟨⟨⟨by simp;omega,by simp;omega⟩,fun z hz=>?_,x3⟩,by simp;omega⟩
  rcases List.mem_append.1 hz with hz | hz
  ·exact s2 z hz
  simp only [List.mem_cons,List.not_mem_nil,or_false] at hz;omega
 obtain ⟨l,m,i⟩:=t
 exact Y.ret ⟨⟨l,rfl,t1,t2⟩,t3⟩
theorem code_lvl {l:List Int} {n:Nat} (hn:n=6∨n=8) (h1:l.length=n) (h2:Digs l):level (strOfNums l)=(n:Int)∧(strOfNums l).size=n:=by
 have hs:(strOfNums l).size=n:=by
  unfold strOfNums
  show (Array.mk _).size=n
  simp [h1]
 have hd:allDig (strOfNums l)=true:=by
  unfold allDig bl strOfNums
  rw [List.all_eq_true]
  intro c hc
  simp only [List.mem_map] at hc
  obtain ⟨x,hx,rfl⟩:=hc
  have:=h2 x hx
  have h3:(UInt8.ofNat x.toNat).toNat=x.toNat:=by
   rw [UInt8.toNat_ofNat'];omega
  simp only [isDig,h3,decide_eq_true_eq]
  omega
 refine ⟨?_,hs⟩
 unfold level
 rw [if_pos ⟨by omega,hd⟩,hs]
def W5:List ByteArray:=[(⟨#[97,110,100]⟩:ByteArray),(⟨#[99,117,116]⟩:ByteArray),(⟨#[111,114]⟩:ByteArray),(⟨#[115,101,119]⟩:ByteArray),(⟨#[115,112,105,110]⟩:ByteArray)]
theorem W5_ok:W5.all wordB=true∧ascB ltS W5=true∧(W5.all fun s=>decide (s.size≤100))=true:=⟨by kernel_rfl,by kernel_rfl,by kernel_rfl⟩
theorem xep {p:Zl} (hp:SOK p):Y (yef p) (fun r=>r.1.Sublist W5∧SOK r.2):=by
 unfold yef
 refine (ygl hp 32 (by omega) (by omega)).bind fun a ⟨a1,a2,a3⟩=>?_
 refine Y.bind (P:=fun l:List ByteArray=>l.Sublist W5) ?_ fun l hl=>Y.ret ⟨hl,a3⟩
 refine Y.loop (fun s=>∃ v:Nat,s.2=(v:Int)∧v≤5∧s.1.Sublist (W5.take v)) (fun s=>(5 - s.2).toNat) ⟨0,rfl,by omega,List.Sublist.refl _⟩ (by dsimp only;omega) fun s hs=>?_
 obtain ⟨l,i⟩:=s
 obtain ⟨v,rfl,h1,h2⟩:=hs
 dsimp only at h2 ⊢
 have hlen:l.length≤5:=by have:=h2.length_le;have h6:W5.length=5:=rfl;rw [List.length_take] at this;omega
 refine Y.cond (fun hc=>?_) (fun hc=>Y.ret (h2.trans (List.take_sublist _ _)))
 have hv:v<5:=by have:=of_decide_eq_true hc;omega
 have hs:=ypn h2 (show v<W5.length from hv)
 refine Y.bind (P:=fun m:List ByteArray=>m.Sublist (W5.take (v+1))) (Y.eq (yrn v) (Y.cond (fun _=>?_) fun _=>Y.ret hs.2)) fun m hm=>Y.ret ⟨⟨v+1,?_,by omega,hm⟩,?_⟩
 ·refine Y.idx (xs:=W5) rfl (show v<W5.length from hv) ?_
  rw [yds (by simp;omega) (by simp;omega)];exact Y.ret hs.1
 ·show IntKind.i64.wrap ((v:Int)+1)=_;rw [ygo (by omega) (by omega)];omega
 show (5 - IntKind.i64.wrap ((v:Int)+1)).toNat<(5 - (v:Int)).toNat;rw [ygo (by omega) (by omega)];omega
theorem codeN {x:Int} (h1:0≤x) (h2:x<2):∃ n:Nat,(n=6∨n=8)∧IntKind.i64.wrap (6+IntKind.i64.wrap (2*x))=(n:Int):=by
 rw [ygo (r:=2*x) (by omega) (by omega),ygo (by omega) (by omega)]
 exact ⟨(6+2*x).toNat,by omega,by omega⟩
structure MProd (n:Nat) (i:Nat) (p:Zd):Prop where
 id:p.ID=3*((i:Int)+1)
 lvl:(level p.Code=6∨level p.Code=8)∧6≤p.Code.size∧p.Code.size≤8
 ctr:p.Country∈C6
 price:1≤p.Price∧p.Price≤200
 proc:p.Processes.Sublist W5
 few:p.Inputs.length≤4
 asc:p.Inputs.Pairwise fun a b=>a.Product<b.Product
 inp:∀ x∈p.Inputs,(∃ k:Nat,k<n∧x.Product=3*((k:Int)+1))∧0≤x.Value∧x.Value<100
 obt:p.Obtained=true→p.Inputs=[]
structure MPs (l:List Zd):Prop where
 len:1≤l.length∧l.length≤10
 all:∀ (i:Nat) (p:Zd),l[i]?=some p→MProd l.length i p
theorem plan_Y (p0:List Int):Y (ypf p0) MPs:=by
 unfold ypf
 refine (cut_Y p0 300 (by omega) (by omega)).bind fun x1 hx1=>?_
 refine (ygl hx1 10 (by omega) (by omega)).bind fun x3 ⟨a1,a2,a3⟩=>?_
 rw [ygo (r:=1+x3.1) (by omega) (by omega)]
 obtain ⟨n,hn⟩:∃ n:Nat,1+x3.1=(n:Int):=⟨(1+x3.1).toNat,by omega⟩
 rw [hn]
 have hn1:1≤n∧n≤10:=by omega
 refine Y.bind (P:=MPs) ?_ fun l hl=>Y.ret hl
 refine Y.loop (fun s:List Zd×Int×List Int×Int=>(s.2.1=(s.1.length:Int)+1∧s.1.length≤n)∧SOK ⟨s.2.2.1,s.2.2.2⟩∧∀ i p,s.1[i]?=some p→MProd n i p) (fun s=>n - s.1.length) ⟨⟨rfl,by simp⟩,a3,by simp⟩ (by dsimp only;omega) fun s hs=>?_
 obtain ⟨l5,v8,l9,v10⟩:=s
 obtain ⟨⟨h1,h2⟩,h3,h4⟩:=hs
 dsimp only at h1 h2 h3 h4 ⊢
 refine Y.cond (fun hc=>?_) (fun hc=>Y.ret ?_)
 rotate_left
 ·have hc:=of_decide_eq_false hc
  have e:l5.length=n:=by omega
  exact ⟨by omega,by rw [e];exact h4⟩
 have hc:=of_decide_eq_true hc
 refine (ygl h3 2 (by omega) (by omega)).bind fun x19 ⟨b1,b2,b3⟩=>?_
 obtain ⟨w,hw,e⟩:=codeN b1 b2
 rw [e]
 refine (code_Y b3 w hw).bind fun x20 ⟨⟨cl,hc1,hc2,hc3⟩,hx20⟩=>?_
 have hcode:=code_lvl hw hc2 hc3
 refine Y.eq yth ?_
 refine (ygl hx20 4 (by omega) (by omega)).bind fun x22 ⟨c1,c2,c3⟩=>?_
 obtain ⟨j,hj⟩:∃ j:Nat,x22.1=(j:Int):=⟨x22.1.toNat,by omega⟩
 refine Y.idx hj (show j<C6.length by have h6:C6.length=6:=rfl;omega) ?_
 refine (ygl c3 200 (by omega) (by omega)).bind fun x24 ⟨d1,d2,d3⟩=>?_
 refine (xep d3).bind fun x25 ⟨hpr,hx25⟩=>?_
 refine (ygl hx25 4 (by omega) (by omega)).bind fun x26 ⟨_,_,h26⟩=>?_
 refine (ygl h26 1024 (by omega) (by omega)).bind fun x28 ⟨_,_,h28⟩=>?_
 refine Y.bind (P:=fun t:List Int×Int×List Zf=>SOK ⟨t.1,t.2.1⟩∧t.2.2.length≤4∧(t.2.2.Pairwise fun a b=>a.Product<b.Product)∧(∀ x∈t.2.2,(∃ k:Nat,k<n∧x.Product=3*((k:Int)+1))∧0≤x.Value∧x.Value<100)∧((x26.1 == 1)=true→t.2.2=[])) ?_ fun t ⟨t1,t2,t3,t4,t5⟩=>?_
 ·refine Y.loop (fun s:Int×List Int×Int×List Zf=>∃ v:Nat,s.1=(v:Int)+1∧v≤n∧SOK ⟨s.2.1,s.2.2.1⟩∧s.2.2.2.length≤4∧(s.2.2.2.Pairwise fun a b=>a.Product<b.Product)∧(∀ x∈s.2.2.2,(∃ k:Nat,k<v∧x.Product=3*((k:Int)+1))∧0≤x.Value∧x.Value<100)∧((x26.1 == 1)=true→s.2.2.2=[])) (fun s=>(n+1 - s.1).toNat) ⟨0,rfl,by omega,h28,by simp,List.Pairwise.nil,by simp,fun _=>rfl⟩ (by dsimp only;omega) fun s hs=>?_
  obtain ⟨i,l,k,m⟩:=s
  obtain ⟨v,rfl,s1,s2,s3,s4,s5,s6⟩:=hs
  dsimp only at s2 s3 s4 s5 s6 ⊢
  refine Y.cond (fun hc3=>?_) (fun hc3=>Y.ret ⟨s2,s3,s4,fun x hx=>?_,s6⟩)
  rotate_left
  ·obtain ⟨⟨k,h5,h6⟩,h7⟩:=s5 x hx;exact ⟨⟨k,by omega,h6⟩,h7⟩
  simp only [Bool.and_eq_true,decide_eq_true_eq,Bool.not_eq_true'] at hc3
  obtain ⟨⟨hc4,hc5⟩,hc6⟩:=hc3
  rw [ygo (r:=(v:Int)+1 - 1) (by omega) (by omega),ygo (r:=(v:Int)+1+1) (by omega) (by omega),ygo (r:=3*((v:Int)+1)) (by omega) (by omega)]
  refine Y.bind (P:=fun t:List Int×Int×List Zf=>SOK ⟨t.1,t.2.1⟩∧t.2.2.length≤4∧(t.2.2.Pairwise fun a b=>a.Product<b.Product)∧(∀ x∈t.2.2,(∃ k:Nat,k<v+1∧x.Product=3*((k:Int)+1))∧0≤x.Value∧x.Value<100)) ?_ fun t ⟨t1,t2,t3,t4⟩=>Y.ret ⟨⟨v+1,by dsimp only;omega,by omega,t1,t2,t3,t4,fun h=>by rw [hc6] at h;cases h⟩,by dsimp only;omega⟩
  rw [show (v:Int)+1 - 1=(v:Int) by omega]
  refine Y.eq (yrn v) ?_
  refine Y.bind (P:=fun r:Int×Zl=>SOK r.2) (Y.gdp (fun _=>(ygl s2 3 (by omega) (by omega)).mono fun r hr=>hr.2.2) fun _=>s2) fun x56 hx56=>?_
  refine Y.cond (fun _=>?_) (fun _=>Y.ret ⟨hx56,s3,s4,fun x hx=>?_⟩)
  rotate_left
  ·obtain ⟨⟨k,h5,h6⟩,h7⟩:=s5 x hx;exact ⟨⟨k,by omega,h6⟩,h7⟩
  refine (ygl hx56 100 (by omega) (by omega)).bind fun x58 ⟨e1,e2,e3⟩=>?_
  rw [yds (by simp;omega) (by simp;omega),obs]
  refine Y.ret ⟨e3,by simp;omega,?_,fun x hx=>?_⟩
  ·rw [List.pairwise_append]
   refine ⟨s4,List.pairwise_singleton _ _,fun a ha b hb=>?_⟩
   rw [List.mem_singleton.1 hb]
   obtain ⟨⟨k,h5,h6⟩,_⟩:=s5 a ha
   dsimp only;omega
  rcases List.mem_append.1 hx with hx | hx
  ·obtain ⟨⟨k,h5,h6⟩,h7⟩:=s5 x hx;exact ⟨⟨k,by omega,h6⟩,h7⟩
  rw [List.mem_singleton.1 hx];exact ⟨⟨v,by omega,rfl⟩,e1,e2⟩
 obtain ⟨l37,v38,l42⟩:=t
 dsimp only at t1 t2 t3 t4 t5 ⊢
 rw [yds (by simp;omega) (by simp;omega),obs,ygo (r:=v8+1) (by omega) (by omega),ygo (r:=1+x24.1) (by omega) (by omega),ygo (r:=3*v8) (by omega) (by omega)]
 refine Y.ret ⟨⟨⟨by simp;omega,by simp;omega⟩,t1,fun i p hp=>?_⟩,by simp;omega⟩
 rw [List.getElem?_append] at hp
 split at hp
 ·exact h4 i p hp
 rename_i hi
 have hi0:i - l5.length=0:=by have:=(List.getElem?_eq_some_iff.1 hp).1;simp at this;omega
 rw [hi0] at hp
 simp only [List.getElem?_cons_zero,osj] at hp
 subst hp
 refine ⟨by dsimp only;omega,?_,List.getElem_mem _,⟨by dsimp only;omega,by dsimp only;omega⟩,hpr,t2,t3,t4,t5⟩
 dsimp only;rw [hc1,hcode.1,hcode.2];omega
structure Sorted (l:List Zd):Prop where
 len:l.length≤1000000
 asc:l.Pairwise fun a b=>a.ID<b.ID
 small:∀ p∈l,p.Processes.length≤1000000∧p.Inputs.length≤1000000
def findP (l:List Zd) (id:Int):Option Zd:=l.find? fun p=>p.ID == id
def zProd:Zd:=⟨0,ByteArray.empty,ByteArray.empty,0,false,[],[]⟩
theorem xce (l:List Zd) (id:Int) (hl:l.length≤140737488355328):yhn l id=some (opt2 zProd (findP l id)):=by
 unfold yhn findP
 refine (ybz (l:=l) (by omega) (fun _ x=>cond (x.ID == id) (some (.inr (x,true))) none) (.inl ()) (fun k hk=>?_) (by simp only [yhb,cof])).trans ?_
 ·simp only [dlt hk,cot,yax hk,obs,ycw hk (show l.length≤4611686018427387904 by omega)]
  cases (l[k].ID == id) <;> rfl
 rw [ylc (fun x:Zd=>x.ID == id) (fun x=>(Sum.inr (x,true):Unit⊕(Zd×Bool)))]
 cases l.find? (fun x:Zd=>x.ID == id) <;> rfl
theorem half_u (x:Nat) (h:x≤10000000):IntKind.i64.wrap (ishr .u64 (IntKind.u64.wrap (IntKind.i64.wrap (x:Int))) 1)=((x / 2:Nat):Int):=by
 rw [ygo (r:=(x:Int)) (by omega) (by omega),u64s (by omega) (by omega)]
 have:ishr .u64 (x:Int) 1=(x:Int) / 2:=Int.fdiv_eq_ediv_of_nonneg _ (by decide)
 rw [this,ygo (by omega) (by omega)];omega
theorem xls (l:List Zd) (id:Int) (h:Sorted l):∃ j:Nat,yge l id=some ((j:Int),(findP l id).isSome)∧(∀ p,findP l id=some p→∃ hj:j<l.length,l[j]=p):=by
 have hl:=h.len
 have cmp:∀ p:Zd,ydx p id=some (if p.ID<id then -1 else if id<p.ID then 1 else 0):=fun p=>by unfold ydx;rw [cmpI];rfl
 unfold yge ybs
 have hloop:Y (loopF (S:=Int×Int) (T:=(Int×Int)) (fun (v1,v2)=>cond (decide (v1<v2)) (lb ((IntKind.i64.wrap (ishr .u64 (IntKind.u64.wrap (IntKind.i64.wrap (v1+v2))) 1))) (fun w8=>Option.bind (idx l w8) (fun m9=>Option.bind (ydx m9 id) (fun x10=>cond (decide (x10<0)) (some (.inl ((IntKind.i64.wrap (w8+1)),v2))) (some (.inl (v1,w8))))))) (some (.inr (id,v1)))) FUEL (0,(l.length:Int))) (fun t=>t.1=id∧∃ j:Nat,t.2=(j:Int)∧j≤l.length∧(∀ (k:Nat) (p:Zd),l[k]?=some p→k<j→p.ID<id)∧(∀ (k:Nat) (p:Zd),l[k]?=some p→j≤k→id≤p.ID)):=by
  refine Y.loop (fun s:Int×Int=>∃ i j:Nat,s.1=(i:Int)∧s.2=(j:Int)∧i≤j∧j≤l.length∧(∀ (k:Nat) (p:Zd),l[k]?=some p→k<i→p.ID<id)∧(∀ (k:Nat) (p:Zd),l[k]?=some p→j≤k→id≤p.ID)) (fun s=>(s.2 - s.1).toNat) ⟨0,l.length,rfl,rfl,by omega,by omega,fun k p _ hk=>absurd hk (Nat.not_lt_zero _),fun k p hp hk=>by have:=(List.getElem?_eq_some_iff.1 hp).1;omega⟩ (by dsimp only;omega) fun s hs=>?_
  obtain ⟨a,b⟩:=s
  obtain ⟨i,j,rfl,rfl,h1,h2,h3,h4⟩:=hs
  dsimp only
  refine Y.cond (fun hc=>?_) (fun hc=>Y.ret ⟨rfl,i,rfl,by omega,h3,fun k p hp hk=>h4 k p hp (by have:=of_decide_eq_false hc;omega)⟩)
  have hc:i<j:=by have:=of_decide_eq_true hc;omega
  unfold lb
  rw [show (i:Int)+(j:Int)=((i+j:Nat):Int) by omega,half_u _ (by omega)]
  have hm:(i+j) / 2<l.length:=by omega
  have pw:=List.pairwise_iff_getElem.1 h.asc
  refine Y.idx rfl hm (Y.eq (cmp _) ?_)
  by_cases hlt:l[(i+j) / 2].ID<id
  ·rw [if_pos hlt]
   refine Y.ret ⟨⟨(i+j) / 2+1,j,?_,rfl,by omega,h2,fun k p hp hk=>?_,h4⟩,?_⟩
   ·show IntKind.i64.wrap _=_;rw [ygo (by omega) (by omega)];omega
   ·obtain ⟨hk2,rfl⟩:=List.getElem?_eq_some_iff.1 hp
    rcases Nat.lt_or_ge k ((i+j) / 2) with h5 | h5
    ·have:=pw k ((i+j) / 2) hk2 hm h5;omega
    have e:k=(i+j) / 2:=by omega
    subst e;exact hlt
   show ((j:Int) - IntKind.i64.wrap _).toNat<_;rw [ygo (by omega) (by omega)];omega
  rw [if_neg hlt]
  have hd:decide ((if id<l[(i+j) / 2].ID then (1:Int) else 0)<0)=false:=by split <;> rfl
  rw [hd]
  refine Y.ret ⟨⟨i,(i+j) / 2,rfl,rfl,by omega,by omega,h3,fun k p hp hk=>?_⟩,by dsimp only;omega⟩
  obtain ⟨hk2,rfl⟩:=List.getElem?_eq_some_iff.1 hp
  rcases Nat.lt_or_ge ((i+j) / 2) k with h5 | h5
  ·have:=pw ((i+j) / 2) k hm hk2 h5;omega
  have e:k=(i+j) / 2:=by omega
  subst e;omega
 obtain ⟨⟨t1,t2⟩,e,rfl,j,hj,h1,h2,h3⟩:=hloop
 dsimp only at hj
 subst hj
 rw [e]
 simp only [obs]
 by_cases hjl:j<l.length
 ·rw [det (show (j:Int)<(l.length:Int) by omega),yee,yax hjl,obs,yee,cmp,obs]
  have h4:=h3 j _ (List.getElem?_eq_getElem hjl) (Nat.le_refl _)
  rw [if_neg (by omega)]
  by_cases heq:t1<l[j].ID
  ·have hn:findP l t1=none:=by
    unfold findP;rw [List.find?_eq_none]
    intro p hp
    obtain ⟨k,hk,rfl⟩:=List.getElem_of_mem hp
    have:l[k].ID≠t1:=by
     rcases Nat.lt_or_ge k j with h5 | h5
     ·have:=h2 k _ (List.getElem?_eq_getElem hk) h5;omega
     rcases Nat.lt_or_ge j k with h6 | h6
     ·have:=List.pairwise_iff_getElem.1 h.asc j k hjl hk h6;omega
     have e:k=j:=by omega
     subst e;omega
    simpa using this
   rw [if_pos heq,hn];exact ⟨j,rfl,fun p hp=>by cases hp⟩
  ·have hid:l[j].ID=t1:=by omega
   have hs:findP l t1=some l[j]:=by
    unfold findP
    rw [List.find?_eq_some_iff_getElem]
    refine ⟨by simpa using hid,j,hjl,rfl,fun k hk=>?_⟩
    have:=h2 k _ (List.getElem?_eq_getElem (by omega)) hk
    have:l[k].ID≠t1:=by omega
    simpa using this
   rw [if_neg heq,hs];exact ⟨j,rfl,fun p hp=>by injection hp with hp;exact ⟨hjl,hp⟩⟩
 rw [ydl (show ¬ (j:Int)<(l.length:Int) by omega),ymw,obs,ymw,obs]
 have hn:findP l t1=none:=by
  unfold findP;rw [List.find?_eq_none]
  intro p hp
  obtain ⟨k,hk,rfl⟩:=List.getElem_of_mem hp
  have:=h2 k _ (List.getElem?_eq_getElem hk) (by omega)
  have:l[k].ID≠t1:=by omega
  simpa using this
 rw [hn];exact ⟨j,rfl,fun p hp=>by cases hp⟩
theorem yyh (l:List Zd) (id:Int) (h:Sorted l):ydb l id=some (opt2 zProd (findP l id)):=by
 unfold ydb
 obtain ⟨j,e,hj⟩:=xls l id h
 rw [e,obs]
 cases hf:findP l id with
 | none=>rfl
 | some p =>
  obtain ⟨hjl,rfl⟩:=hj p hf
  have hs:=h.small _ (List.getElem_mem hjl)
  simp only [Option.isSome_some,Bool.not_true,cof,yax hjl,obs]
  unfold yca ycb
  rw [yjn (by omega) (by omega),obs,yjn (by omega) (by omega),obs];rfl
theorem MPs.sorted {l:List Zd} (h:MPs l):Sorted l:=by
 refine ⟨by have:=h.len;omega,?_,fun p hp=>?_⟩
 ·rw [List.pairwise_iff_getElem]
  intro i j hi hj hij
  have h1:=(h.all i _ (List.getElem?_eq_getElem hi)).id
  have h2:=(h.all j _ (List.getElem?_eq_getElem hj)).id
  omega
 obtain ⟨i,hi,rfl⟩:=List.getElem_of_mem hp
 have hm:=h.all i _ (List.getElem?_eq_getElem hi)
 have h1:=hm.proc.length_le;have h2:=hm.few;have h6:W5.length=5:=rfl
 omega
structure VAs (l:List Zb):Prop where
 len:l.length≤1000
 all:∀ a∈l,VA a
theorem MAs.vas {l:List Zb} (h:MAs l):VAs l:=⟨by have:=h.len;omega,fun a ha=>by obtain ⟨i,hi,rfl⟩:=List.getElem_of_mem ha;exact (h.all i _ (List.getElem?_eq_getElem hi)).va⟩
theorem yqh {l:List Zb} (h:VAs l) {id:Int} {a:Zb} (ha:findA l id=some a):VA a∧a.ID=id∧a∈l:=by
 have hm:=List.mem_of_find?_eq_some ha
 exact ⟨h.all a hm,by have:=List.find?_some ha;simpa using this,hm⟩
def hasP (a:Zb) (x y:ByteArray):Bool:=hasS a.Parties x&&hasS a.Parties y
theorem xcf (a:Zb) (x y:ByteArray) (ha:VA a):ydg a x y=some (hasP a x y):=by
 have:=ha.ok.par.1
 unfold ydg hasP
 rw [yty _ _ this,yty _ _ this,obs]
 cases hasS a.Parties x <;> rfl
def admB (p:List Zd) (l:List Zb) (i:ByteArray) (c:Za):Bool:=match findP p c.Product,findA l c.Agreement with
 | some q,some a => !decide (q.Country=i)&&hasP a q.Country i&&(ruleOfS a q.Code).isSome
 | _,_=>false
theorem xgp (p:List Zd) (l:List Zb) (i:ByteArray) (c:Za) (hp:Sorted p) (hl:VAs l):ycm p l i c=some (admB p l i c):=by
 unfold ycm admB
 have:=hl.len
 rw [yyh _ _ hp,obs]
 cases findP p c.Product with
 | none=>rfl
 | some q =>
  rw [yta _ _ (by omega)]
  simp only [opt2,Bool.not_true,cof,obs]
  cases ha:findA l c.Agreement with
  | none=>rfl
  | some a =>
   have hv:=(yqh hl ha).1
   rw [xcf _ _ _ hv,ywc _ _ hv]
   by_cases hq:q.Country=i
   ·simp [hq,gd]
   cases h1:hasP a q.Country i
   ·simp [hq,gd,h1]
   cases h2:ruleOfS a q.Code <;> simp [hq,gd,opt2,h1,h2]
theorem xlt (p:List Zd) (l:List Zb) (i:ByteArray) (c:Za) (hp:p.length≤140737488355328) (hl:VAs l):yfi p l i c=some (admB p l i c):=by
 unfold yfi admB
 have:=hl.len
 rw [xce _ _ hp,obs,ywd _ _ (by omega),obs]
 cases ha:findA l c.Agreement with
 | none =>
  rw [ysy _ _ (by simp [opt2,zAgr]),obs]
  cases findP p c.Product with
  | none=>rfl
  | some q=>rfl
 | some a =>
  have hv:=(yqh hl ha).1
  rw [show (opt2 zAgr (some a)).1=a from rfl,ysy _ _ hv.ok.len,obs,ysz _ _ hv.ok.par.1,ysz _ _ hv.ok.par.1]
  cases findP p c.Product with
  | none=>rfl
  | some q =>
   unfold hasP
   cases hr:ruleOfS a q.Code with
   | none=>simp [opt2,gd,hr]
   | some r =>
    by_cases hq:q.Country=i
    ·simp [opt2,gd,hr,hq]
    cases h1:hasS a.Parties q.Country
    ·simp [opt2,gd,hr,hq,h1]
    cases h2:hasS a.Parties i <;> simp [opt2,gd,hr,hq,h1,h2]
def partner (a:Zb) (id:Int) (e i:ByteArray) (b:Zb):Bool := !(b.ID == id)&&hasP b e i&&eqLB rfEq a.Rules b.Rules
def partnersS (l:List Zb) (id:Int) (e i:ByteArray):List Int:=match findA l id with
 | none=>[]
 | some a=>id::cond (a.Kind == 2) ((l.filter (partner a id e i)).map (·.ID)) []
theorem yro (P:Zb→Bool):∀ (l:List Zb) (acc:List Int),l.foldl (fun acc b=>cond (P b) (acc++[b.ID]) acc) acc=acc++(l.filter P).map (·.ID)
 | [],acc=>by simp
 | b::l,acc=>by
  rw [List.foldl_cons,yro P l,List.filter_cons]
  cases P b <;> simp
theorem xab (l:List Zb) (id:Int) (e i:ByteArray) (hl:VAs l):yeb l id e i=some (partnersS l id e i):=by
 unfold yeb partnersS
 have hlen:=hl.len
 rw [yta _ _ (by omega),obs]
 cases ha:findA l id with
 | none=>rfl
 | some a =>
  have hv:=(yqh hl ha).1
  simp only [opt2,Bool.not_true,cof,bne]
  cases hk:(a.Kind == 2)
  ·rfl
  simp only [Bool.not_true,cof,cot]
  refine (ycp (l:=l) (by omega) (fun i (a:List Int)=>(a,i)) (fun acc b=>cond (partner a id e i b) (acc++[b.ID]) acc) (fun a=>a) (fun k acc=>acc.length≤k+1) [id] (by simp) (fun k hk acc hacc=>⟨?_,?_⟩) (fun acc _=>by simp only [yhb,cof])).1.trans ?_
  ·have hb:=hl.all _ (List.getElem_mem hk)
   simp only [dlt hk,cot,yax hk,obs,ycw hk (show l.length≤4611686018427387904 by omega),partner,bne]
   rw [xcf _ _ _ hb,yxg _ _ hv.ok.len hv.ok.rules hv.rules]
   cases (l[k].ID == id)
   ·cases hasP l[k] e i
    ·rfl
    cases eqLB rfEq a.Rules l[k].Rules
    ·rfl
    simp only [Bool.not_false,yee,obs,Bool.and_self,cot]
    rw [yds (by simp;omega) (by simp;omega)];rfl
   rfl
  ·cases partner a id e i l[k] <;> simp <;> omega
  rw [yro];rfl
theorem xcg (l:List Zb) (id:Int) (e i:ByteArray) (hl:VAs l):ymm l id e i=some (partnersS l id e i):=by
 unfold ymm partnersS
 have hlen:=hl.len
 rw [ywd _ _ (by omega),obs]
 cases ha:findA l id with
 | none=>rfl
 | some a =>
  have hv:=(yqh hl ha).1
  simp only [opt2,Bool.not_true,cof]
  cases hk:(a.Kind == 2)
  ·refine (ycp (l:=([]:List Zb)) (by simp) (fun i (a:List Int)=>(a,i)) (fun acc b=>acc) (fun a=>a) (fun k acc=>True) [id] trivial (fun k hk acc hacc=>by simp at hk) (fun acc _=>by simp only [Bool.and_false,cof])).1.trans ?_
   rfl
  simp only [Bool.and_true,cot]
  refine (ycp (l:=l) (by omega) (fun i (a:List Int)=>(a,i)) (fun acc b=>cond (partner a id e i b) (acc++[b.ID]) acc) (fun a=>a) (fun k acc=>acc.length≤k+1) [id] (by simp) (fun k hk acc hacc=>⟨?_,?_⟩) (fun acc _=>by simp only [yhb,cof])).1.trans ?_
  ·have hb:=hl.all _ (List.getElem_mem hk)
   simp only [dlt hk,cot,yax hk,obs,ycw hk (show l.length≤4611686018427387904 by omega),partner,bne,hasP]
   rw [ysz _ _ hb.ok.par.1,ysz _ _ hb.ok.par.1,xaa _ _ hv.ok.len hv.ok.rules]
   cases (l[k].ID == id)
   ·cases hasS l[k].Parties e
    ·rfl
    cases hasS l[k].Parties i
    ·rfl
    cases eqLB rfEq a.Rules l[k].Rules
    ·rfl
    simp only [Bool.not_false,yee,obs,Bool.and_self,cot]
    rw [yds (by simp;omega) (by simp;omega)];rfl
   rfl
  ·cases partner a id e i l[k] <;> simp <;> omega
  rw [yro];rfl
def AscA (l:List Zb):Prop:=l.Pairwise fun a b=>a.ID<b.ID
theorem xlu {l:List Zb} (h:AscA l) {a:Zb} (ha:a∈l):findA l a.ID=some a:=by
 obtain ⟨i,hi,rfl⟩:=List.getElem_of_mem ha
 unfold findA
 rw [List.find?_eq_some_iff_getElem]
 refine ⟨by simp,i,hi,rfl,fun k hk=>?_⟩
 have:=List.pairwise_iff_getElem.1 h k i (by omega) hi hk
 have:l[k].ID≠l[i].ID:=by omega
 simpa using this
theorem MAs.asc {l:List Zb} (h:MAs l):AscA l:=by
 unfold AscA;rw [List.pairwise_iff_getElem]
 intro i j hi hj hij
 have h1:=(h.all i _ (List.getElem?_eq_getElem hi)).id
 have h2:=(h.all j _ (List.getElem?_eq_getElem hj)).id
 omega
theorem ytj (l:List Zb) (id:Int) (e i:ByteArray):(partnersS l id e i).length≤l.length+1:=by
 unfold partnersS
 cases findA l id with
 | none=>simp
 | some a=>cases h:(a.Kind == 2) <;> simp [h];exact List.length_filter_le _ _
theorem xig (x:Int):Y (yip x) (fun s=>s∈C6):=by
 unfold yip
 refine (within_Y x 8 (by omega) (by omega)).bind fun r ⟨h1,h2⟩=>?_
 obtain ⟨j,hj⟩:∃ j:Nat,r=(j:Int):=⟨r.toNat,by omega⟩
 refine Y.idx hj (show j<8 by omega) (Y.ret ?_)
 have hj8:j<8:=by omega
 match j,hj8 with
 | 0,_=>exact .tail _ (.head _)
 | 1,_=>exact .tail _ (.head _)
 | 2,_=>exact .tail _ (.head _)
 | 3,_=>exact .head _
 | 4,_=>exact .tail _ (.tail _ (.head _))
 | 5,_=>exact .tail _ (.tail _ (.tail _ (.head _)))
 | 6,_=>exact .tail _ (.tail _ (.tail _ (.tail _ (.head _))))
 | 7,_=>exact .tail _ (.tail _ (.tail _ (.tail _ (.tail _ (.head _)))))
end SX
end Go.Proofs.YtoccohlbjnoeoaaGreatDoor
set_option maxRecDepth 100000
set_option linter.unusedSectionVars false
namespace Go.Proofs.YtoccohlbjnoeoaaGreatDoor
namespace SX
open Go
section
variable {α:Type} [DecidableEq α]
def dd:List α→List α
 | []=>[]
 | [x]=>[x]
 | x::y::l=>cond (decide (x=y)) (dd (y::l)) (x::dd (y::l))
theorem xeq (x y:α):∀ l:List α,dd (l++[x,y])=cond (decide (x=y)) (dd (l++[x])) (dd (l++[x])++[y])
 | []=>by
  show dd [x,y]=_
  rw [dd]
  cases h:decide (x=y)
  ·rfl
  ·have:=of_decide_eq_true h;subst this;rfl
 | [a]=>by
  have ih:=xeq x y []
  simp only [List.nil_append] at ih
  simp only [List.cons_append,List.nil_append]
  rw [show dd [a,x,y]=cond (decide (a=x)) (dd [x,y]) (a::dd [x,y]) from rfl,ih,show dd [a,x]=cond (decide (a=x)) (dd [x]) (a::dd [x]) from rfl]
  cases decide (x=y) <;> cases decide (a=x) <;> rfl
 | a::b::l=>by
  show dd (a::b::(l++[x,y]))=_
  have ih:=xeq x y (b::l)
  simp only [List.cons_append] at ih
  rw [dd,ih]
  show _=cond _ (dd (a::b::(l++[x]))) (dd (a::b::(l++[x]))++[y])
  rw [dd]
  cases decide (x=y) <;> cases decide (a=b) <;> rfl
theorem xlv:∀ {l:List α} {z:α},z∈dd l↔z∈l
 | [],z=>Iff.rfl
 | [x],z=>Iff.rfl
 | x::y::l,z=>by
  rw [dd]
  have ih:=xlv (l:=y::l) (z:=z)
  cases h:decide (x=y)
  ·rw [cof,List.mem_cons,ih];simp
  have:=of_decide_eq_true h;subst this
  rw [cot,ih];simp
theorem dd_len:∀ l:List α,(dd l).length≤l.length
 | []=>Nat.le_refl _
 | [x]=>Nat.le_refl _
 | x::y::l=>by
  rw [dd]
  have ih:=dd_len (y::l)
  cases decide (x=y)
  ·simp only [cof,List.length_cons] at ih ⊢;omega
  simp only [cot,List.length_cons] at ih ⊢;omega
theorem xer:∀ {l:List α},(∀ i,(h:i+1<l.length)→l[i]≠l[i+1])→dd l=l
 | [],_=>rfl
 | [x],_=>rfl
 | x::y::l,h=>by
  have h0:=h 0 (by simp)
  simp only [List.getElem_cons_zero,List.getElem_cons_succ,Nat.zero_add] at h0
  rw [dd,ydl h0,cof,xer (l:=y::l) fun i hi=>by have:=h (i+1) (by simpa using hi);simpa using this]
variable {lt:α→α→Bool}
def Strict (lt:α→α→Bool) (l:List α):Prop:=l.Pairwise fun a b=>lt a b=true
theorem xch (htot:∀ x y,lt x y=false→lt y x=false→x=y) (htr:∀ x y z,lt x y=true→lt y z=true→lt x z=true):∀ {l:List α},l.Pairwise (fun a b=>lt b a=false)→Strict lt (dd l)
 | [],_=>List.Pairwise.nil
 | [x],_=>List.pairwise_singleton _ _
 | x::y::l,h=>by
  obtain ⟨h1,h2⟩:=List.pairwise_cons.1 h
  have ih:=xch htot htr h2
  rw [dd]
  cases hxy:decide (x=y)
  ·refine List.pairwise_cons.2 ⟨fun z hz=>?_,ih⟩
   have hz:=xlv.1 hz
   have hne:x≠y:=of_decide_eq_false hxy
   have hlt:lt x y=true:=by
    cases hl:lt x y
    ·exact absurd (htot x y hl (h1 y (by simp))) hne
    rfl
   rcases List.mem_cons.1 hz with rfl | hz
   ·exact hlt
   cases hyz:lt y z
   ·have:=(List.pairwise_cons.1 h2).1 z hz
    rw [← htot y z hyz this];exact hlt
   exact htr _ _ _ hlt hyz
  exact ih
theorem ywj (hir:∀ x,lt x x=false) (htr:∀ x y z,lt x y=true→lt y z=true→lt x z=true):∀ {l m:List α},Strict lt l→Strict lt m→(∀ z,z∈l↔z∈m)→l=m
 | [],[],_,_,_=>rfl
 | [],y::m,_,_,h=>absurd ((h y).2 (by simp)) (by simp)
 | x::l,[],_,_,h=>absurd ((h x).1 (by simp)) (by simp)
 | x::l,y::m,h1,h2,h=>by
  obtain ⟨a1,a2⟩:=List.pairwise_cons.1 h1
  obtain ⟨b1,b2⟩:=List.pairwise_cons.1 h2
  have hxy:x=y:=by
   rcases List.mem_cons.1 ((h x).1 (by simp)) with e | hx
   ·exact e
   rcases List.mem_cons.1 ((h y).2 (by simp)) with e | hy
   ·exact e.symm
   have:=htr _ _ _ (a1 y hy) (b1 x hx);rw [hir] at this;cases this
  subst hxy
  congr 1
  refine ywj hir htr a2 b2 fun z=>?_
  constructor
  ·intro hz
   rcases List.mem_cons.1 ((h z).1 (by simp [hz])) with rfl | hz2
   ·have:=a1 z hz;rw [hir] at this;cases this
   exact hz2
  intro hz
  rcases List.mem_cons.1 ((h z).2 (by simp [hz])) with rfl | hz2
  ·have:=b1 z hz;rw [hir] at this;cases this
  exact hz2
def memB (l:List α) (c:α):Bool:=l.any fun x=>decide (x=c)
theorem ymk {l:List α} {c:α}:memB l c=true↔c∈l:=by unfold memB;rw [List.any_eq_true];exact ⟨fun ⟨x,h1,h2⟩=>of_decide_eq_true h2 ▸ h1,fun h=>⟨c,h,det rfl⟩⟩
theorem yqi {l:List α} {c:α}:memB l c=false↔c ∉ l:=by rw [← ymk];simp
def insS (lt:α→α→Bool) (l:List α) (c:α):List α:=cond (memB l c) l (l.takeWhile (fun x=>lt x c)++c::l.dropWhile (fun x=>lt x c))
theorem xac (l:List α) (c z:α):z∈insS lt l c↔z=c∨z∈l:=by
 unfold insS
 cases h:memB l c
 ·rw [cof,List.mem_append,List.mem_cons]
  have:z∈l↔z∈l.takeWhile (fun x=>lt x c)∨z∈l.dropWhile (fun x=>lt x c):=by
   rw [← List.mem_append,List.takeWhile_append_dropWhile]
  rw [this]
  constructor
  ·rintro (h | h | h);exact .inr (.inl h);exact .inl h;exact .inr (.inr h)
  rintro (h | h | h);exact .inr (.inl h);exact .inl h;exact .inr (.inr h)
 have:=ymk.1 h
 rw [cot]
 constructor
 ·exact fun h=>.inr h
 rintro (rfl | h);exact this;exact h
theorem yrp (htot:∀ x y,lt x y=false→lt y x=false→x=y) (htr:∀ x y z,lt x y=true→lt y z=true→lt x z=true) {l:List α} {c:α} (h:Strict lt l):Strict lt (insS lt l c):=by
 unfold insS
 cases hc:memB l c
 ·have hc:=yqi.1 hc
  rw [cof]
  have hd:∀ z∈l.dropWhile (fun x=>lt x c),lt c z=true:=by
   have key:∀ m:List α,Strict lt m→c ∉ m→∀ z∈m.dropWhile (fun x=>lt x c),lt c z=true:=by
    intro m
    induction m with
    | nil=>intro _ _ z hz;cases hz
    | cons x m ih =>
     intro hm hcm z hz
     obtain ⟨m1,m2⟩:=List.pairwise_cons.1 hm
     rw [List.dropWhile_cons] at hz
     cases hx:lt x c
     ·rw [hx] at hz
      simp only [Bool.false_eq_true,if_false] at hz
      have hcx:lt c x=true:=by
       cases h2:lt c x
       ·exact absurd (htot x c hx h2) (fun e=>hcm (by simp [e]))
       rfl
      rcases List.mem_cons.1 hz with rfl | hz
      ·exact hcx
      exact htr _ _ _ hcx (m1 z hz)
     rw [hx] at hz
     simp only [if_true] at hz
     exact ih m2 (fun h=>hcm (by simp [h])) z hz
   exact key l h hc
  have ht:∀ z∈l.takeWhile (fun x=>lt x c),lt z c=true:=by
   have key:∀ m:List α,∀ z∈m.takeWhile (fun x=>lt x c),lt z c=true:=by
    intro m
    induction m with
    | nil=>intro z hz;cases hz
    | cons x m ih =>
     intro z hz
     rw [List.takeWhile_cons] at hz
     cases hx:lt x c
     ·rw [hx] at hz;cases hz
     rw [hx] at hz
     simp only [if_true] at hz
     rcases List.mem_cons.1 hz with rfl | hz
     ·exact hx
     exact ih z hz
   exact key l
  refine List.pairwise_append.2 ⟨h.sublist (List.takeWhile_sublist _),List.pairwise_cons.2 ⟨hd,h.sublist (List.dropWhile_sublist _)⟩,fun a ha b hb=>?_⟩
  rcases List.mem_cons.1 hb with rfl | hb
  ·exact ht a ha
  exact htr _ _ _ (ht a ha) (hd b hb)
 exact h
theorem yol (l:List α) (c:α):(insS lt l c).length≤l.length+1:=by
 unfold insS
 cases memB l c
 ·rw [cof,List.length_append,List.length_cons]
  have:=congrArg List.length (List.takeWhile_append_dropWhile (p:=fun x=>lt x c) (l:=l))
  rw [List.length_append] at this;omega
 exact Nat.le_succ _
def sd (lt:α→α→Bool) (l:List α):List α:=dd (isort lt l)
theorem sd_mem (l:List α) (z:α):z∈sd lt l↔z∈l:=by unfold sd;rw [xlv,ylb.mem_iff]
theorem sd_len (l:List α):(sd lt l).length≤l.length:=by unfold sd;have:=dd_len (isort lt l);rw [ypm] at this;exact this
structure Ord (lt:α→α→Bool):Prop where
 irr:∀ x,lt x x=false
 tr:∀ x y z,lt x y=true→lt y z=true→lt x z=true
 ntr:∀ x y z,lt x y=false→lt y z=false→lt x z=false
 tot:∀ x y,lt x y=false→lt y x=false→x=y
theorem xci (o:Ord lt) (l:List α):Strict lt (sd lt l):=xch o.tot o.tr (ymb o.tr o.ntr o.irr l)
theorem ytz (o:Ord lt):∀ (l acc:List α),Strict lt acc→Strict lt (l.foldl (insS lt) acc)∧(∀ z,z∈l.foldl (insS lt) acc↔z∈acc∨z∈l)∧(l.foldl (insS lt) acc).length≤acc.length+l.length
 | [],acc,h=>⟨h,fun z=>by simp,by simp⟩
 | c::l,acc,h=>by
  obtain ⟨h1,h2,h3⟩:=ytz o l (insS lt acc c) (yrp o.tot o.tr h)
  refine ⟨h1,fun z=>?_,?_⟩
  ·rw [List.foldl_cons,h2,xac,List.mem_cons]
   constructor
   ·rintro ((h | h) | h);exact .inr (.inl h);exact .inl h;exact .inr (.inr h)
   rintro (h | h | h);exact .inl (.inr h);exact .inl (.inl h);exact .inr h
  rw [List.foldl_cons,List.length_cons];have:=yol (lt:=lt) acc c;omega
theorem ywk (o:Ord lt) (l:List α):l.foldl (insS lt) []=sd lt l :=
 ywj o.irr o.tr (ytz o l [] List.Pairwise.nil).1 (xci o l) fun z=>by rw [(ytz o l [] List.Pairwise.nil).2.1,sd_mem];simp
end
theorem ordS:Ord ltS:=⟨xlk,ltS_tr,fun x y z h1 h2=>by
 rw [ytf] at *;exact ydl (List.not_lt.2 (List.le_trans (List.not_lt.1 (of_decide_eq_false h2)) (List.not_lt.1 (of_decide_eq_false h1)))),fun x y h1 h2=>by
 rw [ytf] at h1 h2
 exact str_ext.2 (List.le_antisymm (List.not_lt.1 (of_decide_eq_false h2)) (List.not_lt.1 (of_decide_eq_false h1)))⟩
theorem ordC:Ord ltClaim:=⟨yvs,yyd,yvt,yvu⟩
section
variable {α:Type} [DecidableEq α]
theorem xlw {p:List α} {n:Nat} (h0:1≤n) (h:n<p.length):dd (p.take (n+1))=cond (decide (p[n-1]'(by omega)=p[n])) (dd (p.take n)) (dd (p.take n)++[p[n]]):=by
 obtain ⟨m,rfl⟩:∃ m,n=m+1:=⟨n - 1,by omega⟩
 have e1:p.take (m+1)=p.take m++[p[m]'(by omega)]:=by rw [List.take_add_one,List.getElem?_eq_getElem (by omega)];rfl
 have e3:p.take (m+1+1)=p.take (m+1)++[p[m+1]]:=by rw [List.take_add_one,List.getElem?_eq_getElem h];rfl
 have e2:p.take (m+1+1)=p.take m++[p[m]'(by omega),p[m+1]]:=by rw [e3,e1,List.append_assoc];rfl
 rw [e2,xeq,e1];rfl
structure CInv (p:List α) (v:Nat) (l:List α) (k i:Nat):Prop where
 i1:1≤i
 le:v+i≤p.length
 len:l.length=p.length
 kk:k=(dd (p.take (v+i))).length
 klt:k+1≤v+i
 pre:l.take k=dd (p.take (v+i))
 suf:∀ j,v+i≤j+1→l[j]?=p[j]?
theorem CInv.step {p l:List α} {v k i:Nat} (c:CInv p v l k i) (h:v+i<p.length) (hv:1≤v):∃ x y,l[v+i]?=some x∧l[v+i - 1]?=some y∧(decide (x=y)=true→CInv p v l k (i+1))∧(decide (x=y)=false→k<l.length∧CInv p v (l.set k x) (k+1) (i+1)):=by
 have hx:=c.suf (v+i) (by omega)
 have hy:=c.suf (v+i - 1) (by omega)
 rw [List.getElem?_eq_getElem h] at hx
 rw [List.getElem?_eq_getElem (show v+i - 1<p.length by omega)] at hy
 have hd:=xlw (p:=p) (n:=v+i) (by omega) h
 refine ⟨_,_,hx,hy,fun e=>?_,fun e=>?_⟩
 ·have e':decide (p[v+i - 1]'(by omega)=p[v+i])=true:=det (of_decide_eq_true e).symm
  rw [e',cot] at hd
  exact ⟨by omega,by omega,c.len,by rw [← Nat.add_assoc,hd];exact c.kk,by have:=c.klt;omega,by rw [← Nat.add_assoc,hd];exact c.pre,fun j hj=>c.suf j (by omega)⟩
 have e':decide (p[v+i - 1]'(by omega)=p[v+i])=false:=ydl (fun q=>of_decide_eq_false e q.symm)
 rw [e',cof] at hd
 have hk:k<l.length:=by have:=c.klt;have:=c.len;omega
 refine ⟨hk,by omega,by omega,by rw [List.length_set];exact c.len,by rw [← Nat.add_assoc,hd,List.length_append,← c.kk];rfl,by have:=c.klt;omega,?_,fun j hj=>?_⟩
 ·rw [← Nat.add_assoc,hd,← c.pre]
  rw [List.take_add_one,List.getElem?_set]
  simp only [if_true,hk]
  rw [List.take_set_of_le (Nat.le_refl k)];rfl
 rw [List.getElem?_set,if_neg (by have:=c.klt;omega)];exact c.suf j (by omega)
theorem CInv.start {p:List α} {v:Nat} (hv:1≤v) (h:v<p.length) (he:p[v]=p[v-1]'(by omega)) (hb:∀ j,1≤j→(hj:j<v)→p[j]'(by omega)≠p[j-1]'(by omega)):CInv p v p v 1:=by
 have e1:dd (p.take v)=p.take v:=xer fun i hi=>by
  rw [List.length_take] at hi
  rw [List.getElem_take,List.getElem_take]
  have:=hb (i+1) (by omega) (by omega)
  exact fun e=>this e.symm
 have hd:=xlw (p:=p) (n:=v) hv h
 rw [det he.symm,cot,e1] at hd
 exact ⟨Nat.le_refl _,by omega,rfl,by rw [hd,List.length_take];omega,by omega,by rw [hd],fun j _=>rfl⟩
end
end SX
end Go.Proofs.YtoccohlbjnoeoaaGreatDoor
