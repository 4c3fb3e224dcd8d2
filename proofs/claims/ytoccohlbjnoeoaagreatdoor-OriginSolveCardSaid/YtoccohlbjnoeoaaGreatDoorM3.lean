/- A part of the proof: texts of the walk and of the plain laws, merged. No condition. -/
import Derived.Test.YtoccohlbjnoeoaaGreatDoorM2
set_option linter.unusedVariables false
set_option linter.unusedSimpArgs false
set_option maxHeartbeats 4000000
set_option maxRecDepth 100000
namespace Go.Proofs.YtoccohlbjnoeoaaGreatDoor
namespace SX
open Go
attribute [local irreducible] PWL PWC PWD POpL POpQ PEv PGuardIs PSub PPick PUpd PSplice PFill PLit PF PFV PCall FOk pseqK pblockK pmidK pcutK ploopK pretK Cov PHolds loopF idx app mk gd lb nz ge0 cat sub ssub iand ior ixor ishl ishr imin imax IntKind.wrap Int.tmod Int.tdiv Op.bytesLess strOfNums
def made_Cut (p0:(List Int)) (p1:Int):Option (List Int):=cond (decide (p1<(p0.length:Int))) (Option.bind (sub p0 0 p1) (fun l2=>some l2)) (some p0)
theorem ywn {p0:(List Int)} {p1:Int} {r:(List Int)}  (h:made_Cut p0 p1=some r):PF 42 [pL eI p0,pI p1] (pL eI r):=by
 unfold made_Cut at h
 refine ybp ?_
 refine ybb Tryz.func42 fk42 rfl Tryz.ntmps42 Tryz.results42 rfl (yaa (yac [] [4] [] fo0 (by kernel_rfl) (yab (yaa (yaa (yac [] [5,6,7] [(8,pB (decide (p1<(p0.length:Int))))] fo0 (by kernel_rfl) (yab (zif rfl h (fun hc1 h=>?_) fun hc1 h=>?_))))))))
 ·refine yaa ?_
  refine yad h fun l2 hl2 h=>yac [] [9,10,11] [(4,pL eI l2)] (fosl 2 eI 1 (fun _=>rfl) hl2 fo0) (by kernel_rfl) (yab (yai (yag ?_)))
  obtain rfl:=osi h
  exact zq rfl ⟨rfl,rfl⟩
 refine yah ?_
 refine yab (yaa (yac [] [12] [(4,pL eI p0)] fo0 (by kernel_rfl) (yab (yai ?_))))
 obtain rfl:=osi h
 exact zq rfl ⟨rfl,rfl⟩
def yiy (p0:Int) (p1:Int):Option Int:=Option.bind (nz p1) (fun u1=>Option.bind (nz p1) (fun u2=>lb ((Int.tmod (IntKind.i64.wrap ((Int.tmod p0 p1)+p1)) p1)) (fun w3=>some w3)))
theorem yri {p0:Int} {p1:Int} {r:Int}  (h:yiy p0 p1=some r):PF 27 [pI p0,pI p1] (pI r):=by
 unfold yiy at h
 refine ybp ?_
 refine ybb Tryz.func27 fk27 rfl Tryz.ntmps27 Tryz.results27 rfl (yaa (yac [] [4] [] fo0 (by kernel_rfl) (yab (yaa (yad h fun u1 hu1 h=>yad h fun u2 hu2 h=>?_)))))
 refine yfv h ?_;clear h;intro w3 hw3 h
 refine yae (yal 7 [] (rg 5 6) [(11,pI (Int.tmod (IntKind.i64.wrap ((Int.tmod p0 p1)+p1)) p1))] (fonz 2 hu1 (fonz 6 hu2 fo0)) (by kernel_rfl) (yda rfl rfl rfl (ych rfl (.p (congrArg (fun z=>PV.v (Value.int .i64 z)) hw3))) (yay (yab (yai ?_)))))
 obtain rfl:=osi h
 exact zq rfl ⟨rfl,rfl⟩
def ybc (p0:Zl) (p1:Int):Option (Int×Zl):=cond (decide ((p0.L.length:Int)≤p0.I)) (some ((0:Int),p0)) (Option.bind (idx p0.L (IntKind.i64.wrap ((IntKind.i64.wrap (p0.I+1)) - 1))) (fun m2=>Option.bind (yiy m2 p1) (fun x3=>some (x3,(⟨p0.L,(IntKind.i64.wrap (p0.I+1))⟩:Zl)))))
theorem yaz {p0:Zl} {p1:Int} {b0:Nat} {r:(Int×Zl)}  (h:ybc p0 p1=some r):PCall 43 [pP b0 0,pI p1] [PRes.b b0 86 [pL eI p0.L,pI p0.I]] (fun pv ρ'=>pv=pI r.1∧ρ'=[PRes.b b0 86 [pL eI r.2.L,pI r.2.I]]):=by
 unfold ybc at h
 refine ybb Tryz.func43 fk43 rfl Tryz.ntmps43 Tryz.results43 rfl (yaa (yac [] [4] [] fo0 (by kernel_rfl) (yab (yaa (yaa (ybr (ρd:=[]) [(0,0),(1,0),(2,0),(3,0),(4,0),(5,0),(6,0),(7,0),(8,0),(9,0)] _ (List.Perm.refl _) (by kernel_rfl) rfl (ybl 10 [0,0] (rg 5 9) [(14,pB (decide ((p0.L.length:Int)≤p0.I)))] fo0 (by kernel_rfl) (ycd (yab (zif rfl h (fun hc1 h=>?_) fun hc1 h=>?_))))))))))
 ·refine yaa ?_
  refine yac [] [] [(4,pI 0)] fo0 (by kernel_rfl) (yab (yai (yag ?_)))
  obtain rfl:=osi h
  exact ybe (ygg (ybi rfl)) (zs1) ⟨rfl,rfl⟩
 refine yah ?_
 refine yab (yaa (yae (yal 7 [0] [15,16,17,18,20] [(19,pI (IntKind.i64.wrap (p0.I+1))),(21,pP b0 1)] fo0 (by kernel_rfl) (ybh rfl rfl (yaq (vs:=[pI (IntKind.i64.wrap (p0.I+1))]) rfl rfl rfl rfl rfl zuh (zlt (zl1)) (yay (yab (yaa (ybr (ρd:=[]) [(0,0),(1,0),(2,0),(3,0),(4,0),(5,0),(6,0),(7,0),(8,0),(9,0),(10,0),(11,0),(12,1),(13,0)] _ (List.Perm.refl _) (by kernel_rfl) rfl (yad h fun m2 hm2 h=>yad h fun x3 hx3 h=>ybl 14 [0,0] (rg 22 13) [(4,pI x3)] (ygt 9 eI hm2 (ycs 12 (yri hx3) fo0)) (by kernel_rfl) (ycd (yab (yai ?_)))))))))))))
 obtain rfl:=osi h
 exact ybe (ygg (ybi rfl)) (zs1) ⟨rfl,rfl⟩
def yhd (p0:Zl) (p1:Int):Option (ByteArray×Zl):=Option.bind (ybc p0 2) (fun x1=>Option.bind (loopF (S:=(List Int)×(List Int)×Int) (T:=((List Int)×(List Int)×Int)) (fun (l5,l8,v9)=>cond (decide (((l5.length:Nat):Int)<p1)) (Option.bind (ybc (⟨l8,v9⟩:Zl) 3) (fun x19=>Option.bind (app 1 l5 [48,(IntKind.u8.wrap (IntKind.i64.wrap (49+x19.1)))]) (fun l22=>some (.inl (l22,x19.2.L,x19.2.I))))) (some (.inr (l5,l8,v9)))) FUEL ([57,(IntKind.u8.wrap (IntKind.i64.wrap (52+x1.1)))],x1.2.L,x1.2.I)) (fun (l13,l14,v15)=>some ((strOfNums l13),(⟨l14,v15⟩:Zl))))
theorem yrt {p0:Zl} {p1:Int} {b0:Nat} {r:(ByteArray×Zl)}  (h:yhd p0 p1=some r):PCall 44 [pP b0 0,pI p1] [PRes.b b0 86 [pL eI p0.L,pI p0.I]] (fun pv ρ'=>pv=pS r.1∧ρ'=[PRes.b b0 86 [pL eI r.2.L,pI r.2.I]]):=by
 unfold yhd at h
 refine ybb Tryz.func44 fk44 rfl Tryz.ntmps44 Tryz.results44 rfl (yaa (yac [] [4] [] fo0 (by kernel_rfl) (yab (yaa (yad h fun x1 hx1 h=>yae (yal 1 [] [] [(6,pP b0 0)] fo0 (by kernel_rfl) ?_))))))
 refine yav rfl rfl rfl (ybn rfl rfl (ρ1:=[_]) (ybf (by exact zph) (List.Perm.refl _)) (yaz hx1) ?_);rintro _ _ ⟨rfl,rfl⟩
 refine yal 2 [] [8] [(9,pY (IntKind.u8.wrap (IntKind.i64.wrap (52+x1.1))))] fo0 (by kernel_rfl) (yav rfl rfl rfl (ycg rfl rfl rfl rfl rfl (zic rfl (zic rfl zin)) rfl rfl rfl rfl (fun b2=>yap [] [] [(5,pO (some ⟨b2,0,none⟩) 2 2)] fo0 (by kernel_rfl) (yab (yaa (yad h fun q17 hq17 h=>?_))))))
 refine yar (Y:=(Option Addr×Nat)×((List Int)×(List Int)×Int)) (fun ((a11,c12),(l13,l14,v15))=>[(5,pO a11 l13.length c12)]) (fun ((a11,c12),(l13,l14,v15))=>[PRes.b b0 86 [pL eI l14,pI v15],PRes.row a11 l13.length c12 5 1 (List.map eB l13)]) (fun ((a11,c12),(l13,l14,v15))=>q17=(l13,l14,v15)) ?_ ?_
 ·refine yaj ?_
  refine yat (Y:=Option Addr×Nat) (S:=(List Int)×(List Int)×Int) _ hq17 (fun (a6,c7) (l5,l8,v9)=>[(0,pP b0 0),(1,pI p1),(5,pO a6 l5.length c7)]) (fun (a6,c7) (l5,l8,v9)=>[PRes.b b0 86 [pL eI l8,pI v9],PRes.row a6 l5.length c7 5 1 (List.map eB l5)]) ((some ⟨b2,0,none⟩),2) (zh3 rfl rfl rfl) (zsc (zpt zph) (zs1)) ?_
  rintro ⟨a6,c7⟩ ⟨l5,l8,v9⟩ o τ hb16;(try dsimp only at hb16);dsimp only [pupds]
  refine yaa (yaa (yac [] [11,12,13] [(14,pB (decide (((l5.length:Nat):Int)<p1)))] fo0 (by kernel_rfl) (yab (zif rfl hb16 (fun hc18 hb16=>?_) fun hc18 hb16=>?_))))
  ·refine yah ?_
   refine yab (yaj (yad hb16 fun x19 hx19 hb16=>yae (yal 2 [] [] [(15,pO a6 l5.length c7),(16,pP b0 0)] fo0 (by kernel_rfl) ?_)))
   refine yav rfl rfl rfl (ybn rfl rfl (ρ1:=[_]) (ybf (by exact zph) (List.Perm.refl _)) (yaz hx19) ?_);rintro _ _ ⟨rfl,rfl⟩
   refine yal 2 [] [18] [(19,pY (IntKind.u8.wrap (IntKind.i64.wrap (49+x19.1))))] fo0 (by kernel_rfl) (yav rfl rfl rfl (ycg rfl rfl rfl rfl rfl (zic rfl (zic rfl zin)) rfl rfl rfl rfl (fun b20=>yad hb16 fun l22 hl22 hb16=>?_)))
   refine yav rfl rfl rfl (ycm (enc:=eB) rfl rfl rfl rfl rfl rfl rfl rfl rfl zm0 (by exact zpt (zpt zph)) hl22 (fun a23 c24=>?_))
   refine yap [] [] [(5,pO a23 l22.length c24)] fo0 (by kernel_rfl) (yak ?_)
   exact ybd hb16 (a23,c24) (zh3 rfl rfl rfl) (zsc (zpt (zpt zph)) (zs1))
  refine yax ?_
  refine yao (yam hb16 (fun ht=>yan rfl ?_))
  exact yaw ((a6,c7),(l5,l8,v9)) (zh1 rfl) (zs2) ht.symm
 rintro ⟨⟨a11,c12⟩,⟨l13,l14,v15⟩⟩ τ hz;(try dsimp only at hz);subst q17;(try dsimp only at h);dsimp only [pupds]
 refine yaa (yae (yal 1 [] [] [(22,pO a11 l13.length c12)] fo0 (by kernel_rfl) (yav rfl rfl rfl (pq_bytes rfl rfl rfl rfl rfl (xs:=l13) zm1 rfl (yap [] [] [(4,pS (strOfNums l13))] fo0 (by kernel_rfl) (yab (yai ?_)))))))
 obtain rfl:=osi h
 exact ybe (ygg (ybi rfl)) (zs1) ⟨rfl,rfl⟩
def yhh  : Option (List ByteArray):=some [(⟨#[65,65]⟩:ByteArray),(⟨#[66,66]⟩:ByteArray),(⟨#[67,67]⟩:ByteArray),(⟨#[68,68]⟩:ByteArray),(⟨#[69,69]⟩:ByteArray),(⟨#[70,70]⟩:ByteArray)]
theorem ykd  {r:(List ByteArray)}  (h:yhh  = some r):PF 45 [] (pL eS r):=by
 unfold yhh at h
 refine ybp ?_
 refine ybb Tryz.func45 fk45 rfl Tryz.ntmps45 Tryz.results45 rfl (yaa (yac [] [0] [] fo0 (by kernel_rfl) (yab (yaa (yae (yav rfl rfl rfl (ycg rfl rfl rfl rfl rfl (zic rfl (zic rfl (zic rfl (zic rfl (zic rfl (zic rfl zin)))))) rfl rfl rfl rfl (fun b1=>yap [] [] [(0,pO (some ⟨b1,0,none⟩) 6 6)] fo0 (by kernel_rfl) (yab ?_)))))))))
 refine yen (enc:=eS) (xs:=[(⟨#[65,65]⟩:ByteArray),(⟨#[66,66]⟩:ByteArray),(⟨#[67,67]⟩:ByteArray),(⟨#[68,68]⟩:ByteArray),(⟨#[69,69]⟩:ByteArray),(⟨#[70,70]⟩:ByteArray)]) 0 rfl (by exact zph) ?_
 refine yai ?_
 obtain rfl:=osi h
 exact zq rfl ⟨rfl,rfl⟩
def yek (p0:Zl):Option ((List ByteArray)×Zl):=Option.bind (ybc p0 32) (fun x1=>Option.bind (loopF (S:=(List ByteArray)×Int) (T:=((List ByteArray))) (fun (l3,v6)=>cond (decide (v6<5)) (Option.bind (Option.bind (ge0 v6) (fun u20=>cond ((iand .i64 (ishr .i64 x1.1 v6) 1) == 1) (Option.bind (idx [(⟨#[97,110,100]⟩:ByteArray),(⟨#[99,117,116]⟩:ByteArray),(⟨#[111,114]⟩:ByteArray),(⟨#[115,101,119]⟩:ByteArray),(⟨#[115,112,105,110]⟩:ByteArray)] v6) (fun m24=>Option.bind (app 16 l3 [m24]) (fun l27=>some l27))) (some l3))) (fun l18=>some (.inl (l18,(IntKind.i64.wrap (v6+1)))))) (some (.inr l3))) FUEL (([]:List ByteArray),0)) (fun l10=>some (l10,x1.2)))
theorem ynu {p0:Zl} {b0:Nat} {r:((List ByteArray)×Zl)}  (h:yek p0=some r):PCall 46 [pP b0 0] [PRes.b b0 86 [pL eI p0.L,pI p0.I]] (fun pv ρ'=>pv=pL eS r.1∧ρ'=[PRes.b b0 86 [pL eI r.2.L,pI r.2.I]]):=by
 unfold yek at h
 refine ybb Tryz.func46 fk46 rfl Tryz.ntmps46 Tryz.results46 rfl (yaa (yac [] [2] [] fo0 (by kernel_rfl) (yab (yaa (yac [] [] [(3,pN)] fo0 (by kernel_rfl) (yab (yaa (yad h fun x1 hx1 h=>yae (yal 1 [] [] [(6,pP b0 0)] fo0 (by kernel_rfl) ?_)))))))))
 refine yav rfl rfl rfl (ybn rfl rfl (ρ1:=[_]) (ybf (by exact zph) (List.Perm.refl _)) (yaz hx1) ?_);rintro _ _ ⟨rfl,rfl⟩
 refine yap [] [] [(4,pI x1.1)] fo0 (by kernel_rfl) (yab (yaa (yaa (yac [] [] [(5,pI 0)] fo0 (by kernel_rfl) (yab (ycn 9 1 (yad h fun q12 hq12 h=>?_)))))))
 refine yar (Y:=(Option Addr×Nat)×((List ByteArray))) (fun ((a8,c9),l10)=>[(3,pO a8 l10.length c9)]) (fun ((a8,c9),l10)=>[PRes.b b0 86 [pL eI x1.2.L,pI x1.2.I],PRes.row a8 l10.length c9 9 1 (List.map eS l10)]) (fun ((a8,c9),l10)=>q12=l10) ?_ ?_
 ·refine yaj ?_
  refine yat (Y:=Option Addr×Nat) (S:=(List ByteArray)×Int) _ hq12 (fun (a4,c5) (l3,v6)=>[(3,pO a4 l3.length c5),(4,pI x1.1),(5,pI v6)]) (fun (a4,c5) (l3,v6)=>[PRes.b b0 86 [pL eI x1.2.L,pI x1.2.I],PRes.row a4 l3.length c5 9 1 (List.map eS l3)]) (none,0) (zh3 rfl rfl rfl) (zsc (zpt zph) (zs1)) ?_
  rintro ⟨a4,c5⟩ ⟨l3,v6⟩ o τ hb11;(try dsimp only at hb11);dsimp only [pupds]
  refine yaa (yaa (yac [] [8] [(9,pB (decide (v6<5)))] fo0 (by kernel_rfl) (yab (zif rfl hb11 (fun hc14 hb11=>?_) fun hc14 hb11=>?_))))
  ·refine yah ?_
   refine yab (yaa (yad hb11 fun q19 hq19 hb11=>?_))
   refine yar (Y:=(Option Addr×Nat)×((List ByteArray))) (fun ((a16,c17),l18)=>[(3,pO a16 l18.length c17),(4,pI x1.1),(5,pI v6)]) (fun ((a16,c17),l18)=>[PRes.b b0 86 [pL eI x1.2.L,pI x1.2.I],PRes.row a16 l18.length c17 9 1 (List.map eS l18)]) (fun ((a16,c17),l18)=>q19=l18) ?_ ?_
   ·skip
    refine yaj (yaa (yad hq19 fun u20 hu20 hq19=>yac [] [12,13,14,15] [(16,pB ((iand .i64 (ishr .i64 x1.1 v6) 1) == 1))] (xlh 2 hu20 fo0) (by kernel_rfl) (yab (zif rfl hq19 (fun hc21 hq19=>?_) fun hc21 hq19=>?_))))
    ·refine yae ?_
     refine yal 1 [] [] [(17,pO a4 l3.length c5)] fo0 (by kernel_rfl) (yav rfl rfl rfl (ycg rfl rfl rfl rfl rfl (zic rfl (zic rfl (zic rfl (zic rfl (zic rfl zin))))) rfl rfl rfl rfl (fun b22=>yad hq19 fun m24 hm24 hq19=>yal 1 [] [] [(19,pI v6)] fo0 (by kernel_rfl) (yda rfl rfl rfl (yhc (enc:=eS) (xs:=[(⟨#[97,110,100]⟩:ByteArray),(⟨#[99,117,116]⟩:ByteArray),(⟨#[111,114]⟩:ByteArray),(⟨#[115,101,119]⟩:ByteArray),(⟨#[115,112,105,110]⟩:ByteArray)]) rfl rfl rfl (.p rfl) zm0 (.p rfl) (fun _=>hm24)) (yda rfl rfl rfl (yei (sz:=1) (p:=pS m24) (enc:=eS) (xs:=[(⟨#[97,110,100]⟩:ByteArray),(⟨#[99,117,116]⟩:ByteArray),(⟨#[111,114]⟩:ByteArray),(⟨#[115,101,119]⟩:ByteArray),(⟨#[115,112,105,110]⟩:ByteArray)]) (a:=(some ⟨b22,0,none⟩)) v6 0 m24 rfl (.p rfl) rfl zm0 (fun _=>hm24) rfl) (yav rfl rfl rfl (ycg rfl rfl rfl rfl rfl (zic rfl zin) rfl rfl rfl rfl (fun b25=>yad hq19 fun l27 hl27 hq19=>?_))))))))
     refine yav rfl rfl rfl (ycm (enc:=eS) rfl rfl rfl rfl rfl rfl rfl rfl rfl zm0 (by exact zpt (zpt (zpt zph))) hl27 (fun a28 c29=>?_))
     refine yap [] [] [(3,pO a28 l27.length c29)] fo0 (by kernel_rfl) (yak ?_)
     obtain rfl:=osi hq19
     exact yaw ((a28,c29),l27) (zh3 rfl rfl rfl) (zsc (zpt (zpt (zpt zph))) (zs1)) rfl
    refine yah ?_
    refine yak ?_
    obtain rfl:=osi hq19
    exact yaw ((a4,c5),l3) (zh3 rfl rfl rfl) (zs2) rfl
   rintro ⟨⟨a16,c17⟩,l18⟩ τ hz;(try dsimp only at hz);subst q19;(try dsimp only at hb11);dsimp only [pupds]
   refine yac [] [10,11] [(5,pI (IntKind.i64.wrap (v6+1)))] fo0 (by kernel_rfl) ?_
   exact ybd hb11 (a16,c17) (zh3 rfl rfl rfl) (zs2)
  refine yax ?_
  refine yao (yam hb11 (fun ht=>yan rfl ?_))
  exact yaw ((a4,c5),l3) (zh1 rfl) (zs2) ht.symm
 rintro ⟨⟨a8,c9⟩,l10⟩ τ hz;(try dsimp only at hz);subst q12;(try dsimp only at h);dsimp only [pupds]
 refine yaa (yac [] [24] [(2,pO a8 l10.length c9)] fo0 (by kernel_rfl) (yab ?_))
 refine yen (enc:=eS) (xs:=l10) 2 rfl (by exact zpt zph) ?_
 refine yai ?_
 obtain rfl:=osi h
 exact ybe (ygg (ybi rfl)) (zsc (zpt zph) zsn) ⟨rfl,rfl⟩
def ypv (p0:(List Int)):Option (List Zd):=Option.bind (made_Cut p0 300) (fun x1=>Option.bind (ybc (⟨x1,0⟩:Zl) 10) (fun x3=>Option.bind (loopF (S:=(List Zd)×Int×(List Int)×Int) (T:=((List Zd))) (fun (l5,v8,l9,v10)=>cond (decide (v8≤(IntKind.i64.wrap (1+x3.1)))) (Option.bind (ybc (⟨l9,v10⟩:Zl) 2) (fun x19=>Option.bind (yhd x19.2 (IntKind.i64.wrap (6+(IntKind.i64.wrap (2*x19.1))))) (fun x20=>Option.bind (yhh) (fun x21=>Option.bind (ybc x20.2 4) (fun x22=>Option.bind (idx x21 x22.1) (fun m23=>Option.bind (ybc x22.2 200) (fun x24=>Option.bind (yek x24.2) (fun x25=>Option.bind (ybc x25.2 4) (fun x26=>Option.bind (ybc x26.2 1024) (fun x28=>Option.bind (loopF (S:=Int×(List Int)×Int×(List Zf)) (T:=((List Int)×Int×(List Zf))) (fun (v29,l30,v31,l33)=>cond (((decide (v29≤(IntKind.i64.wrap (1+x3.1))))&&(decide (((l33.length:Nat):Int)<4)))&&(!(x26.1 == 1))) (Option.bind (Option.bind (ge0 (IntKind.i64.wrap (v29 - 1))) (fun u55=>Option.bind (gdp (((iand .i64 (ishr .i64 x28.1 (IntKind.i64.wrap (v29 - 1))) 1) == 1)&&(!(decide (v29<v8)))) (ybc (⟨l30,v31⟩:Zl) 3) (⟨l30,v31⟩:Zl)) (fun x56=>cond (((iand .i64 (ishr .i64 x28.1 (IntKind.i64.wrap (v29 - 1))) 1) == 1)&&((decide (v29<v8))||(x56.1 == 1))) (Option.bind (ybc x56.2 100) (fun x58=>Option.bind (app 16 l33 [(⟨(IntKind.i64.wrap (3*v29)),x58.1⟩:Zf)]) (fun l61=>some (x58.2.L,x58.2.I,l61)))) (some (x56.2.L,x56.2.I,l33))))) (fun (l48,v49,l53)=>some (.inl ((IntKind.i64.wrap (v29+1)),l48,v49,l53)))) (some (.inr (l30,v31,l33)))) FUEL (1,x28.2.L,x28.2.I,([]:List Zf))) (fun (l37,v38,l42)=>Option.bind (app 104 l5 [(⟨(IntKind.i64.wrap (3*v8)),x20.1,m23,(IntKind.i64.wrap (1+x24.1)),(x26.1 == 1),x25.1,l42⟩:Zd)]) (fun l68=>some (.inl (l68,(IntKind.i64.wrap (v8+1)),l37,v38)))))))))))))) (some (.inr l5))) FUEL (([]:List Zd),1,x3.2.L,x3.2.I)) (fun l14=>some l14)))
theorem xef {p0:(List Int)} {r:(List Zd)}  (h:ypv p0=some r):PCall 15 [pL eI p0] [] (fun pv ρ'=>∃ a c,pv=.v (.slice a r.length c)∧ρ'=[PRes.row a r.length c 46 7 (List.map Zd.enc r)]):=by
 unfold ypv at h
 refine ybb Tryz.func15 fk15 rfl Tryz.ntmps15 Tryz.results15 rfl (yaa (yac [] [2] [] fo0 (by kernel_rfl) (yab (yaa (yad h fun x1 hx1 h=>yae (yal 3 [] [10,11] [(12,.agg [pL eI x1,pI 0])] (ycs 1 (ywn hx1) fo0) (by kernel_rfl) (yav rfl rfl rfl (ybt (cs:=[pL eI x1,pI 0]) rfl rfl (fun b2=>yap [] [] [(3,pP b2 0)] fo0 (by kernel_rfl) (yab (yaa (yad h fun x3 hx3 h=>yae (yal 1 [] [] [(14,pP b2 0)] fo0 (by kernel_rfl) ?_)))))))))))))
 refine yav rfl rfl rfl (ybn rfl rfl (ρ1:=[_]) (ybf (by exact zph) (List.Perm.refl _)) (yaz hx3) ?_);rintro _ _ ⟨rfl,rfl⟩
 refine yap [] [16] [(4,pI (IntKind.i64.wrap (1+x3.1)))] fo0 (by kernel_rfl) (yab (yaa (yac [] [] [(5,pN)] fo0 (by kernel_rfl) (yab (yaa (yaa (yac [] [] [(6,pI 1)] fo0 (by kernel_rfl) (yab (ycn 46 7 (yad h fun q16 hq16 h=>?_))))))))))
 refine yar (Y:=(Option Addr×Nat)×((List Zd))) (fun ((a12,c13),l14)=>[(5,pO a12 l14.length c13)]) (fun ((a12,c13),l14)=>[PRes.row a12 l14.length c13 46 7 (List.map Zd.enc l14)]) (fun ((a12,c13),l14)=>q16=l14) ?_ ?_
 ·refine yaj ?_
  refine yat (Y:=Option Addr×Nat) (S:=(List Zd)×Int×(List Int)×Int) _ hq16 (fun (a6,c7) (l5,v8,l9,v10)=>[(3,pP b2 0),(4,pI (IntKind.i64.wrap (1+x3.1))),(5,pO a6 l5.length c7),(6,pI v8)]) (fun (a6,c7) (l5,v8,l9,v10)=>[PRes.b b2 86 [pL eI l9,pI v10],PRes.row a6 l5.length c7 46 7 (List.map Zd.enc l5)]) (none,0) (zh4 rfl rfl rfl rfl) (zsc (zpt zph) (zs1)) ?_
  rintro ⟨a6,c7⟩ ⟨l5,v8,l9,v10⟩ o τ hb15;(try dsimp only at hb15);dsimp only [pupds]
  refine yaa (yaa (yac [] [17,18] [(19,pB (decide (v8≤(IntKind.i64.wrap (1+x3.1)))))] fo0 (by kernel_rfl) (yab (zif rfl hb15 (fun hc18 hb15=>?_) fun hc18 hb15=>?_))))
  ·refine yah ?_
   refine yab (yaa (yaj (yaa (ybr (ρd:=[PRes.b b2 _ _]) [(0,0),(1,0),(2,0),(3,0),(9,0),(13,0),(16,0),(18,0),(4,1),(5,0),(6,0),(7,1),(8,1),(10,1),(11,0),(12,0),(14,1),(15,0),(17,1),(19,1),(20,0),(21,0),(22,2),(23,1)] _ (List.Perm.refl _) (by kernel_rfl) rfl (yad hb15 fun x19 hx19 hb15=>ybl 8 [] [22] [(23,pI (IntKind.i64.wrap (3*v8))),(24,pP b2 0),(25,pP b2 0),(31,pP b2 0),(35,pP b2 0),(38,pP b2 0),(40,pP b2 0)] fo0 (by kernel_rfl) ?_)))))
   refine ynq rfl rfl rfl (ybn rfl rfl (ρ1:=[_]) (ybf (by exact zph) (List.Perm.refl _)) (yaz hx19) ?_);rintro _ _ ⟨rfl,rfl⟩
   refine yad hb15 fun x20 hx20 hb15=>ybl 2 [] [27] [(28,pI (IntKind.i64.wrap (6+(IntKind.i64.wrap (2*x19.1)))))] fo0 (by kernel_rfl) ?_
   refine ynq rfl rfl rfl (ybn rfl rfl (ρ1:=[_]) (ybf (by exact zph) (List.Perm.refl _)) (yrt hx20) ?_);rintro _ _ ⟨rfl,rfl⟩
   refine yad hb15 fun x21 hx21 hb15=>yad hb15 fun x22 hx22 hb15=>ybl 1 [] [] [(30,pL eS x21)] (ycs 0 (ykd hx21) fo0) (by kernel_rfl) ?_
   refine ynq rfl rfl rfl (ybn rfl rfl (ρ1:=[_]) (ybf (by exact zph) (List.Perm.refl _)) (yaz hx22) ?_);rintro _ _ ⟨rfl,rfl⟩
   refine yad hb15 fun m23 hm23 hb15=>yad hb15 fun x24 hx24 hb15=>ybl 2 [] [33] [(34,pS m23)] (ygt 0 eS hm23 fo0) (by kernel_rfl) ?_
   refine ynq rfl rfl rfl (ybn rfl rfl (ρ1:=[_]) (ybf (by exact zph) (List.Perm.refl _)) (yaz hx24) ?_);rintro _ _ ⟨rfl,rfl⟩
   refine yad hb15 fun x25 hx25 hb15=>ybl 1 [] [] [(37,pI (IntKind.i64.wrap (1+x24.1)))] fo0 (by kernel_rfl) ?_
   refine ynq rfl rfl rfl (ybn rfl rfl (ρ1:=[_]) (ybf (by exact zph) (List.Perm.refl _)) (ynu hx25) ?_);rintro _ _ ⟨rfl,rfl⟩
   refine yad hb15 fun x26 hx26 hb15=>?_
   refine ynq rfl rfl rfl (ybn rfl rfl (ρ1:=[_]) (ybf (by exact zph) (List.Perm.refl _)) (yaz hx26) ?_);rintro _ _ ⟨rfl,rfl⟩
   refine ybl 2 [] [42] [(43,.agg [pI (IntKind.i64.wrap (3*v8)),pS x20.1,pS m23,pI (IntKind.i64.wrap (1+x24.1)),pB (x26.1 == 1),pL eS x25.1,pN])] fo0 (by kernel_rfl) (yvg (ywf rfl rfl rfl rfl rfl) (fun _=>rfl) rfl (fun b27=>xii rfl rfl (yaq (vs:=[pI (IntKind.i64.wrap (3*v8)),pS x20.1,pS m23,pI (IntKind.i64.wrap (1+x24.1)),pB (x26.1 == 1),pL eS x25.1,pN]) rfl rfl rfl rfl rfl zuh (zl7) (ycd (yab (yaa (yad hb15 fun x28 hx28 hb15=>yae (yal 1 [] [] [(44,pP b2 0)] fo0 (by kernel_rfl) ?_))))))))
   refine yav rfl rfl rfl (ybn rfl rfl (ρ1:=[_]) (ybf (by exact zpt zph) (List.Perm.refl _)) (yaz hx28) ?_);rintro _ _ ⟨rfl,rfl⟩
   refine yap [] [] [(8,pI x28.1)] fo0 (by kernel_rfl) (yab (yaa (yaa (yac [] [] [(9,pI 1)] fo0 (by kernel_rfl) (yab (ycn 90 2 (yad hb15 fun q44 hq44 hb15=>?_)))))))
   refine yar (Y:=(Option Addr×Nat)×((List Int)×Int×(List Zf))) (fun ((a40,c41),(l37,v38,l42))=>[(3,pP b2 0),(4,pI (IntKind.i64.wrap (1+x3.1))),(5,pO a6 l5.length c7),(6,pI v8),(7,pP b27 0)]) (fun ((a40,c41),(l37,v38,l42))=>[PRes.b b2 86 [pL eI l37,pI v38],PRes.b b27 46 [pI (IntKind.i64.wrap (3*v8)),pS x20.1,pS m23,pI (IntKind.i64.wrap (1+x24.1)),pB (x26.1 == 1),pL eS x25.1,pO a40 l42.length c41],PRes.row a6 l5.length c7 46 7 (List.map Zd.enc l5),PRes.row a40 l42.length c41 90 2 (List.map Zf.enc l42)]) (fun ((a40,c41),(l37,v38,l42))=>q44=(l37,v38,l42)) ?_ ?_
   ·refine yaj ?_
    refine yat (Y:=Option Addr×Nat) (S:=Int×(List Int)×Int×(List Zf)) _ hq44 (fun (a34,c35) (v29,l30,v31,l33)=>[(3,pP b2 0),(4,pI (IntKind.i64.wrap (1+x3.1))),(5,pO a6 l5.length c7),(6,pI v8),(7,pP b27 0),(8,pI x28.1),(9,pI v29)]) (fun (a34,c35) (v29,l30,v31,l33)=>[PRes.b b2 86 [pL eI l30,pI v31],PRes.b b27 46 [pI (IntKind.i64.wrap (3*v8)),pS x20.1,pS m23,pI (IntKind.i64.wrap (1+x24.1)),pB (x26.1 == 1),pL eS x25.1,pO a34 l33.length c35],PRes.row a34 l33.length c35 90 2 (List.map Zf.enc l33),PRes.row a6 l5.length c7 46 7 (List.map Zd.enc l5)]) (none,0) (zh7 rfl rfl rfl rfl rfl rfl rfl) (zsc (zpt zph) (zsc (zpt zph) (zs2))) ?_
    rintro ⟨a34,c35⟩ ⟨v29,l30,v31,l33⟩ o τ hb43;(try dsimp only at hb43);dsimp only [pupds]
    refine yaa (yaa (yac [1,1] (rg 46 13) [(59,pB (((decide (v29≤(IntKind.i64.wrap (1+x3.1))))&&(decide (((l33.length:Nat):Int)<4)))&&(!(x26.1 == 1))))] fo0 (by kernel_rfl) (yab (zif rfl hb43 (fun hc46 hb43=>?_) fun hc46 hb43=>?_))))
    ·refine yah ?_
     refine yab (yaa (yad hb43 fun q54 hq54 hb43=>?_))
     refine yar (Y:=(Option Addr×Nat)×((List Int)×Int×(List Zf))) (fun ((a51,c52),(l48,v49,l53))=>[(3,pP b2 0),(4,pI (IntKind.i64.wrap (1+x3.1))),(5,pO a6 l5.length c7),(6,pI v8),(7,pP b27 0),(8,pI x28.1),(9,pI v29)]) (fun ((a51,c52),(l48,v49,l53))=>[PRes.b b2 86 [pL eI l48,pI v49],PRes.b b27 46 [pI (IntKind.i64.wrap (3*v8)),pS x20.1,pS m23,pI (IntKind.i64.wrap (1+x24.1)),pB (x26.1 == 1),pL eS x25.1,pO a51 l53.length c52],PRes.row a6 l5.length c7 46 7 (List.map Zd.enc l5),PRes.row a51 l53.length c52 90 2 (List.map Zf.enc l53)]) (fun ((a51,c52),(l48,v49,l53))=>q54=(l48,v49,l53)) ?_ ?_
     ·skip
      refine yaj (yaa (yad hq54 fun u55 hu55 hq54=>yad hq54 fun x56 hx56 hq54=>yae (yal 12 [] ((rg 62 6)++[69,70,71]) [(68,pB ((iand .i64 (ishr .i64 x28.1 (IntKind.i64.wrap (v29 - 1))) 1) == 1)),(72,pgv ((iand .i64 (ishr .i64 x28.1 (IntKind.i64.wrap (v29 - 1))) 1) == 1) (pB (decide (v29<v8)))),(73,pgv (((iand .i64 (ishr .i64 x28.1 (IntKind.i64.wrap (v29 - 1))) 1) == 1)&&(!(decide (v29<v8)))) (pP b2 0))] (xlh 3 hu55 fo0) (by kernel_rfl) ?_)))
      refine xam (ywc rfl rfl rfl) rfl rfl rfl (by exact zph) (yqs (.g rfl) (yqs (.p rfl) (xdp))) (fun hc=>yaz (gdp_t hx56 hc)) (fun hc=>by rw [gdp_f hx56 hc]) ?_
      refine xdk (ywc rfl rfl rfl) rfl rfl (xmg rfl (.g rfl) (.p rfl) rfl) (xdk (yve rfl rfl rfl) rfl rfl (pq_or rfl (.g rfl) (.p rfl) (.g rfl)) (yda rfl rfl rfl (xmf rfl (.p rfl) (.p rfl) (.g rfl)) (yay (yab (zif rfl hq54 (fun hc57 hq54=>?_) fun hc57 hq54=>?_)))))
      ·refine yad hq54 ?_;clear hq54;intro x58 hx58 hq54
       refine yad hq54 fun l61 hl61 hq54=>?_
       refine yjh (Y:=Option Addr×Nat) (fun (a62,c63)=>[(3,pP b2 0),(4,pI (IntKind.i64.wrap (1+x3.1))),(5,pO a6 l5.length c7),(6,pI v8),(7,pP b27 0),(8,pI x28.1),(9,pI v29)]) (fun (a62,c63)=>[PRes.b b2 86 [pL eI x58.2.L,pI x58.2.I],PRes.b b27 46 [pI (IntKind.i64.wrap (3*v8)),pS x20.1,pS m23,pI (IntKind.i64.wrap (1+x24.1)),pB (x26.1 == 1),pL eS x25.1,pO a62 l61.length c63],PRes.row a6 l5.length c7 46 7 (List.map Zd.enc l5),PRes.row a62 l61.length c63 90 2 (List.map Zf.enc l61)]) (fun _=>True) ?_ ?_
       ·refine ypu (ρd:=[PRes.b b2 _ _,PRes.row a34 _ _ _ _ _,PRes.b b27 _ _]) _ (ybf zph (ybf (zpt zph) (List.Perm.refl _))) ?_
        refine yfw 0 (by kernel_rfl) rfl rfl rfl rfl (ybz rfl rfl rfl rfl rfl (.p rfl)) (yfw 2 (by kernel_rfl) rfl rfl rfl rfl (yix (p:=pI v29) rfl (.p rfl)) (yfw 3 (by kernel_rfl) rfl rfl rfl rfl (xbi rfl (.p rfl) (.p rfl) rfl) (yfw 4 (by kernel_rfl) rfl rfl rfl rfl (yix (p:=pP b2 0) rfl (.p rfl)) ?_)))
        refine ymj 1 5 (by kernel_rfl) ?_ ?_
        ·skip
         refine ybs rfl rfl rfl rfl (xcz (ydm (p:=pO a34 l33.length c35) rfl (.p rfl) zm2 rfl) (ybx 5 (by kernel_rfl) ?_))
         refine ybs rfl rfl rfl rfl (ybn rfl rfl (ρ1:=[_]) (ybf (by exact zph) (List.Perm.refl _)) (yaz hx58) ?_);rintro _ _ ⟨rfl,rfl⟩
         refine yfw 6 (by kernel_rfl) rfl rfl rfl rfl (xbl (cs:=[pI (IntKind.i64.wrap (3*v29)),pI x58.1]) rfl rfl rfl rfl rfl rfl rfl (zfc rfl rfl rfl rfl (zl1) (zfc rfl rfl rfl rfl (zlt (zl1)) zfn))) (ybx 7 (by kernel_rfl) (ybs rfl rfl rfl rfl (ycg rfl rfl rfl rfl rfl (zic rfl zin) rfl rfl rfl rfl (fun b59=>ybx 8 (by kernel_rfl) ?_))))
         refine ybs rfl rfl rfl rfl (ycm (enc:=Zf.enc) rfl rfl rfl rfl rfl rfl rfl rfl rfl zm0 (by exact zpt (zpt zph)) hl61 (fun a62 c63=>?_))
         refine yfw 9 (by kernel_rfl) rfl rfl rfl rfl (ybz rfl rfl rfl rfl rfl (.p rfl)) (ybx 10 (by kernel_rfl) (ygc rfl rfl rfl (yaq (vs:=[pO a62 l61.length c63]) rfl rfl rfl rfl rfl (zut (zut (zut zuh))) (zlt (zlt (zlt (zlt (zlt (zlt (zl1))))))) (ygb (by kernel_rfl) ?_))))
         exact yja (a62,c63) (zh7 rfl rfl rfl rfl rfl rfl rfl) (zsc (zpt (zpt zph)) (zsc (zpt (zpt zph)) (zsc (zpt (zpt zph)) (zs1)))) trivial
        skip
        refine ybs rfl rfl rfl rfl (ybn rfl rfl (ρ1:=[_]) (ybf (by exact zph) (List.Perm.refl _)) (yaz hx58) ?_);rintro _ _ ⟨rfl,rfl⟩
        refine yfw 6 (by kernel_rfl) rfl rfl rfl rfl (xbl (cs:=[pI (IntKind.i64.wrap (3*v29)),pI x58.1]) rfl rfl rfl rfl rfl rfl rfl (zfc rfl rfl rfl rfl (zl1) (zfc rfl rfl rfl rfl (zlt (zl1)) zfn))) ?_
        refine ymj 1 7 (by kernel_rfl) ?_ ?_
        ·skip
         refine ybs rfl rfl rfl rfl (xcz (ydm (p:=pO a34 l33.length c35) rfl (.p rfl) zm2 rfl) (ybx 7 (by kernel_rfl) (ybs rfl rfl rfl rfl (ycg rfl rfl rfl rfl rfl (zic rfl zin) rfl rfl rfl rfl (fun b59=>ybx 8 (by kernel_rfl) ?_)))))
         refine ybs rfl rfl rfl rfl (ycm (enc:=Zf.enc) rfl rfl rfl rfl rfl rfl rfl rfl rfl zm0 (by exact zpt (zpt zph)) hl61 (fun a62 c63=>?_))
         refine yfw 9 (by kernel_rfl) rfl rfl rfl rfl (ybz rfl rfl rfl rfl rfl (.p rfl)) (ybx 10 (by kernel_rfl) (ygc rfl rfl rfl (yaq (vs:=[pO a62 l61.length c63]) rfl rfl rfl rfl rfl (zut (zut (zut zuh))) (zlt (zlt (zlt (zlt (zlt (zlt (zl1))))))) (ygb (by kernel_rfl) ?_))))
         exact yja (a62,c63) (zh7 rfl rfl rfl rfl rfl rfl rfl) (zsc (zpt (zpt zph)) (zsc (zpt (zpt zph)) (zsc (zpt (zpt zph)) (zs1)))) trivial
        skip
        refine ybs rfl rfl rfl rfl (ycg rfl rfl rfl rfl rfl (zic rfl zin) rfl rfl rfl rfl (fun b59=>ybx 1 (by kernel_rfl) (ybs rfl rfl rfl rfl (xcz (ydm (p:=pO a34 l33.length c35) rfl (.p rfl) zm3 rfl) (ybx 8 (by kernel_rfl) ?_)))))
        refine ybs rfl rfl rfl rfl (ycm (enc:=Zf.enc) rfl rfl rfl rfl rfl rfl rfl rfl rfl zm0 (by exact zpt (zpt zph)) hl61 (fun a62 c63=>?_))
        refine yfw 9 (by kernel_rfl) rfl rfl rfl rfl (ybz rfl rfl rfl rfl rfl (.p rfl)) (ybx 10 (by kernel_rfl) (ygc rfl rfl rfl (yaq (vs:=[pO a62 l61.length c63]) rfl rfl rfl rfl rfl (zut (zut (zut zuh))) (zlt (zlt (zlt (zlt (zlt (zlt (zl1))))))) (ygb (by kernel_rfl) ?_))))
        exact yja (a62,c63) (zh7 rfl rfl rfl rfl rfl rfl rfl) (zsc (zpt (zpt zph)) (zsc (zpt (zpt zph)) (zsc (zpt (zpt zph)) (zs1)))) trivial
       rintro ⟨a62,c63⟩ τ ρ1 hsub65 _;(try dsimp only at hsub65);dsimp only [pupds]
       refine yak ?_
       obtain rfl:=osi hq54
       exact yaw ((a62,c63),(x58.2.L,x58.2.I,l61)) (zh7 rfl rfl rfl rfl rfl rfl rfl) (PSub.trans (zs4) hsub65) rfl
      refine yah ?_
      refine yak ?_
      obtain rfl:=osi hq54
      exact yaw ((a34,c35),(x56.2.L,x56.2.I,l33)) (zh7 rfl rfl rfl rfl rfl rfl rfl) (zsc zph (zsc zph (zsc (zpt zph) (zs1)))) rfl
     rintro ⟨⟨a51,c52⟩,⟨l48,v49,l53⟩⟩ τ hz;(try dsimp only at hz);subst q54;(try dsimp only at hb43);dsimp only [pupds]
     refine yac [] [60,61] [(9,pI (IntKind.i64.wrap (v29+1)))] fo0 (by kernel_rfl) ?_
     exact ybd hb43 (a51,c52) (zh7 rfl rfl rfl rfl rfl rfl rfl) (zsc zph (zsc zph (zsc (zpt zph) (zs1))))
    refine yax ?_
    refine yao (yam hb43 (fun ht=>yan rfl ?_))
    exact yaw ((a34,c35),(l30,v31,l33)) (zh5 rfl rfl rfl rfl rfl) (zsc zph (zsc zph (zsc (zpt zph) (zs1)))) ht.symm
   rintro ⟨⟨a40,c41⟩,⟨l37,v38,l42⟩⟩ τ hz;(try dsimp only at hz);subst q44;(try dsimp only at hb15);dsimp only [pupds]
   refine yae (yal 1 [] [] [(88,pO a6 l5.length c7)] fo0 (by kernel_rfl) ?_)
   refine yop (css:=List.map Zf.enc l42) (a:=a40) (by exact zpt (zpt (zpt zph))) ?_
   refine ykq (k:=6) (enc:=Zf.enc) (xs:=l42) (b:=b27) (a:=a40) rfl zm0 (zut (zut zuh)) (yal 1 [2] [] [(89,.agg [pI (IntKind.i64.wrap (3*v8)),pS x20.1,pS m23,pI (IntKind.i64.wrap (1+x24.1)),pB (x26.1 == 1),pL eS x25.1,pL Zf.enc l42])] fo0 (by kernel_rfl) (yav rfl rfl rfl (ycg rfl rfl rfl rfl rfl (zic rfl zin) rfl rfl rfl rfl (fun b66=>yad hb15 fun l68 hl68 hb15=>?_))))
   refine yav rfl rfl rfl (ycm (enc:=Zd.enc) rfl rfl rfl rfl rfl rfl rfl rfl rfl zm0 (by exact zpt (zpt (zpt (zpt zph)))) hl68 (fun a69 c70=>?_))
   refine yap [] [] [(5,pO a69 l68.length c70)] fo0 (by kernel_rfl) (yak (yab (yac [] [20,21] [(6,pI (IntKind.i64.wrap (v8+1)))] fo0 (by kernel_rfl) ?_)))
   exact ybd hb15 (a69,c70) (zh4 rfl rfl rfl rfl) (zsc (zpt (zpt (zpt zph))) (zs1))
  refine yax ?_
  refine yao (yam hb15 (fun ht=>yan rfl ?_))
  exact yaw ((a6,c7),l5) (zh1 rfl) (zsc (zpt zph) zsn) ht.symm
 rintro ⟨⟨a12,c13⟩,l14⟩ τ hz;(try dsimp only at hz);subst q16;(try dsimp only at h);dsimp only [pupds]
 refine yaa (yac [] [92] [(2,pO a12 l14.length c13)] fo0 (by kernel_rfl) (yab (yai ?_)))
 obtain rfl:=osi h
 exact ybe (ygg (ybi rfl)) (zs1) ⟨_,_,rfl,rfl⟩
def yfl (p0:Zl):Option (Int×Zl):=Option.bind (ybc p0 4) (fun x1=>cond (decide (0<x1.1)) (Option.bind (ybc x1.2 101) (fun x3=>some ((IntKind.i64.wrap (10000*x3.1)),x3.2))) (Option.bind (ybc x1.2 1000001) (fun x4=>some (x4.1,x4.2))))
theorem yml {p0:Zl} {b0:Nat} {r:(Int×Zl)}  (h:yfl p0=some r):PCall 87 [pP b0 0] [PRes.b b0 86 [pL eI p0.L,pI p0.I]] (fun pv ρ'=>pv=pI r.1∧ρ'=[PRes.b b0 86 [pL eI r.2.L,pI r.2.I]]):=by
 unfold yfl at h
 refine ybb Tryz.func87 fk87 rfl Tryz.ntmps87 Tryz.results87 rfl (yaa (yac [] [2] [] fo0 (by kernel_rfl) (yab (yaa (yaa (yad h fun x1 hx1 h=>yae (yal 1 [] [] [(3,pP b0 0)] fo0 (by kernel_rfl) ?_)))))))
 refine yav rfl rfl rfl (ybn rfl rfl (ρ1:=[_]) (ybf (by exact zph) (List.Perm.refl _)) (yaz hx1) ?_);rintro _ _ ⟨rfl,rfl⟩
 refine yap [] [] [(5,pB (decide (0<x1.1)))] fo0 (by kernel_rfl) (yab (zif rfl h (fun hc2 h=>?_) fun hc2 h=>?_))
 ·refine yaa ?_
  refine yad h fun x3 hx3 h=>yae (yal 1 [] [] [(6,pP b0 0)] fo0 (by kernel_rfl) ?_)
  refine yav rfl rfl rfl (ybn rfl rfl (ρ1:=[_]) (ybf (by exact zph) (List.Perm.refl _)) (yaz hx3) ?_);rintro _ _ ⟨rfl,rfl⟩
  refine yap [] [8] [(2,pI (IntKind.i64.wrap (10000*x3.1)))] fo0 (by kernel_rfl) (yab (yai (yag ?_)))
  obtain rfl:=osi h
  exact ybe (ygg (ybi rfl)) (zs1) ⟨rfl,rfl⟩
 refine yah ?_
 refine yab (yaa (yad h fun x4 hx4 h=>yae (yal 1 [] [] [(9,pP b0 0)] fo0 (by kernel_rfl) ?_)))
 refine yav rfl rfl rfl (ybn rfl rfl (ρ1:=[_]) (ybf (by exact zph) (List.Perm.refl _)) (yaz hx4) ?_);rintro _ _ ⟨rfl,rfl⟩
 refine yap [] [] [(2,pI x4.1)] fo0 (by kernel_rfl) (yab (yai ?_))
 obtain rfl:=osi h
 exact ybe (ygg (ybi rfl)) (zs1) ⟨rfl,rfl⟩
def yfp (rec:Zl→Int→Int→Option (Zb×Zl)) (p0:Zl) (p1:Int) (p2:Int):Option (Zb×Zl):=Option.bind (ybc p0 8) (fun x2=>cond ((decide (5≤x2.1))&&(decide (0<p2))) (Option.bind (cond ((IntKind.i64.wrap (5+(Int.tmod x2.1 2))) == p1) (some (IntKind.i64.wrap (11 - p1))) (some (IntKind.i64.wrap (5+(Int.tmod x2.1 2))))) (fun v5=>Option.bind (ybc x2.2 2) (fun x8=>Option.bind (loopF (S:=Int×(List Int)×Int×(List Zb)) (T:=((List Int)×Int×(List Zb))) (fun (v9,l10,v11,l13)=>cond (decide (0<v9)) (Option.bind (rec (⟨l10,v11⟩:Zl) v5 (IntKind.i64.wrap (p2 - 1))) (fun x26=>Option.bind (app 96 l13 [x26.1]) (fun l29=>some (.inl ((IntKind.i64.wrap (v9 - 1)),x26.2.L,x26.2.I,l29))))) (some (.inr (l10,v11,l13)))) FUEL ((IntKind.i64.wrap (2+x8.1)),x8.2.L,x8.2.I,([]:List Zb))) (fun (l16,v17,l21)=>some ((⟨v5,0,[],0,0,ByteArray.empty,l21⟩:Zb),(⟨l16,v17⟩:Zl)))))) (Option.bind (α:=((List Int)×Int)⊕_) (cond ((Int.tmod x2.1 4) == 1) (Option.bind (yfl x2.2) (fun x38=>some (.inr ((⟨3,0,[],0,x38.1,ByteArray.empty,[]⟩:Zb),x38.2)))) (cond ((Int.tmod x2.1 4) == 2) (Option.bind (ybc x2.2 5) (fun x42=>Option.bind (idx [(⟨#[97,110,100]⟩:ByteArray),(⟨#[99,117,116]⟩:ByteArray),(⟨#[111,114]⟩:ByteArray),(⟨#[115,101,119]⟩:ByteArray),(⟨#[115,112,105,110]⟩:ByteArray)] x42.1) (fun m43=>some (.inr ((⟨4,0,[],0,0,m43,[]⟩:Zb),x42.2))))) (cond ((Int.tmod x2.1 4) == 3) (Option.bind (ybc x2.2 3) (fun x45=>cond (x45.1 == 1) (some (.inr ((⟨1,0,[],0,0,ByteArray.empty,[]⟩:Zb),x45.2))) (some (.inl (x45.2.L,x45.2.I))))) (some (.inl (x2.2.L,x2.2.I)))))) (fun q=>match q with | .inl (l34,v35)=>Option.bind (ybc (⟨l34,v35⟩:Zl) 3) (fun x47=>Option.bind (ybc x47.2 3) (fun x49=>Option.bind (cond (x49.1 == 1) (Option.bind (ybc x49.2 2) (fun x57=>Option.bind (sub [(⟨#[57,52,48,49]⟩:ByteArray),(⟨#[57,53,48,50]⟩:ByteArray)] x57.1 ([(⟨#[57,52,48,49]⟩:ByteArray),(⟨#[57,53,48,50]⟩:ByteArray)].length:Int)) (fun l58=>some (x57.2.L,x57.2.I,l58)))) (some (x49.2.L,x49.2.I,[]))) (fun (l50,v51,l52)=>Option.bind (ybc (⟨l50,v51⟩:Zl) 3) (fun x59=>Option.bind (cond (x59.1 == 1) (Option.bind (yfl x59.2) (fun x65=>some (x65.2.L,x65.2.I,x65.1))) (some (x59.2.L,x59.2.I,0))) (fun (l60,v61,v62)=>some ((⟨2,(IntKind.i64.wrap (2+(IntKind.i64.wrap (2*x47.1)))),l52,v62,0,ByteArray.empty,[]⟩:Zb),(⟨l60,v61⟩:Zl))))))) | .inr e=>some e)))
theorem ypw {rec:Zl→Int→Int→Option (Zb×Zl)} (hrec:∀ {p0:Zl} {p1:Int} {p2:Int} {b0:Nat} {r:(Zb×Zl)},rec p0 p1 p2=some r→PCall 47 [pP b0 0,pI p1,pI p2] [PRes.b b0 86 [pL eI p0.L,pI p0.I]] (fun pv ρ'=>pv=.agg [pI r.1.Kind,pI r.1.Digits,pL eS r.1.Except,pI r.1.Tolerance,pI r.1.Limit,pS r.1.Name,pL Zb.enc r.1.Args]∧ρ'=[PRes.b b0 86 [pL eI r.2.L,pI r.2.I]])) {p0:Zl} {p1:Int} {p2:Int} {b0:Nat} {r:(Zb×Zl)} (h:yfp rec p0 p1 p2=some r):PCall 47 [pP b0 0,pI p1,pI p2] [PRes.b b0 86 [pL eI p0.L,pI p0.I]] (fun pv ρ'=>pv=.agg [pI r.1.Kind,pI r.1.Digits,pL eS r.1.Except,pI r.1.Tolerance,pI r.1.Limit,pS r.1.Name,pL Zb.enc r.1.Args]∧ρ'=[PRes.b b0 86 [pL eI r.2.L,pI r.2.I]]):=by
 unfold yfp at h
 refine ybb Tryz.func47 fk47 rfl Tryz.ntmps47 Tryz.results47 rfl (yaa (yae (yav rfl rfl rfl (yba (cs:=[pI 0,pI 0,pN,pI 0,pI 0,pS ByteArray.empty,pN]) rfl rfl rfl rfl (fun b1=>yay (yab (yaa (yad h fun x2 hx2 h=>yae (yal 1 [] [] [(11,pP b0 0)] fo0 (by kernel_rfl) ?_)))))))))
 refine yav rfl rfl rfl (ybn rfl rfl (ρ1:=[_]) (ybf (by exact zpt zph) (List.Perm.refl _)) (yaz hx2) ?_);rintro _ _ ⟨rfl,rfl⟩
 refine yap [] [] [(7,pI x2.1)] fo0 (by kernel_rfl) (yab (yaa (yaa (yac [] (rg 13 5) [(18,pB ((decide (5≤x2.1))&&(decide (0<p2))))] fo0 (by kernel_rfl) (yab (zif rfl h (fun hc3 h=>?_) fun hc3 h=>?_))))))
 ·refine yaa ?_
  refine yae (yal 4 [] [19,20,21] [(22,.agg [pI (IntKind.i64.wrap (5+(Int.tmod x2.1 2))),pI 0,pN,pI 0,pI 0,pS ByteArray.empty,pN])] fo0 (by kernel_rfl) (yav rfl rfl rfl (yba (cs:=[pI 0,pI 0,pN,pI 0,pI 0,pS ByteArray.empty,pN]) rfl rfl rfl rfl (fun b4=>ybh rfl rfl (yaq (vs:=[pI (IntKind.i64.wrap (5+(Int.tmod x2.1 2))),pI 0,pN,pI 0,pI 0,pS ByteArray.empty,pN]) rfl rfl rfl rfl rfl zuh (zl7) (yay (yab (yaa (yaa (yac [0] [23,24,25] [(26,pB ((IntKind.i64.wrap (5+(Int.tmod x2.1 2))) == p1))] fo0 (by kernel_rfl) (yab (yad h fun q6 hq6 h=>?_))))))))))))
  refine yar (Y:=(Unit)×(Int)) (fun (_,v5)=>[(0,pP b0 0),(2,pI p2),(6,pP b1 0),(8,pP b4 0)]) (fun (_,v5)=>[PRes.b b0 86 [pL eI x2.2.L,pI x2.2.I],PRes.b b1 68 [pI 0,pI 0,pN,pI 0,pI 0,pS ByteArray.empty,pN],PRes.b b4 68 [pI v5,pI 0,pN,pI 0,pI 0,pS ByteArray.empty,pN]]) (fun (_,v5)=>q6=v5) ?_ ?_
  ·skip
   refine zif rfl hq6 (fun hc7 hq6=>?_) fun hc7 hq6=>?_
   ·refine yae ?_
    refine yal 3 [] [27] [(28,pI (IntKind.i64.wrap (11 - p1))),(29,pP b4 0)] fo0 (by kernel_rfl) (ybh rfl rfl (yaq (vs:=[pI (IntKind.i64.wrap (11 - p1))]) rfl rfl rfl rfl rfl zuh (zl1) (yay ?_)))
    obtain rfl:=osi hq6
    exact yaw ((),(IntKind.i64.wrap (11 - p1))) (zh4 rfl rfl rfl rfl) (zsc (zpt zph) (zsc (zpt zph) (zs1))) rfl
   refine yah ?_
   obtain rfl:=osi hq6
   exact yaw ((),(IntKind.i64.wrap (5+(Int.tmod x2.1 2)))) (zh4 rfl rfl rfl rfl) (zsc (zpt zph) (zsc (zpt zph) (zs1))) rfl
  rintro ⟨_,v5⟩ τ hz;(try dsimp only at hz);subst q6;(try dsimp only at h);dsimp only [pupds]
  refine yaa (yaa (yad h fun x8 hx8 h=>yae (yal 1 [] [] [(30,pP b0 0)] fo0 (by kernel_rfl) ?_)))
  refine yav rfl rfl rfl (ybn rfl rfl (ρ1:=[_]) (ybf (by exact zph) (List.Perm.refl _)) (yaz hx8) ?_);rintro _ _ ⟨rfl,rfl⟩
  refine yap [] [32] [(9,pI (IntKind.i64.wrap (2+x8.1)))] fo0 (by kernel_rfl) (yab (ycn 68 7 (yad h fun q23 hq23 h=>?_)))
  refine yar (Y:=(Option Addr×Nat)×((List Int)×Int×(List Zb))) (fun ((a19,c20),(l16,v17,l21))=>[(6,pP b1 0),(8,pP b4 0)]) (fun ((a19,c20),(l16,v17,l21))=>[PRes.b b0 86 [pL eI l16,pI v17],PRes.b b1 68 [pI 0,pI 0,pN,pI 0,pI 0,pS ByteArray.empty,pN],PRes.b b4 68 [pI v5,pI 0,pN,pI 0,pI 0,pS ByteArray.empty,pO a19 l21.length c20],PRes.row a19 l21.length c20 68 7 (List.map Zb.enc l21)]) (fun ((a19,c20),(l16,v17,l21))=>q23=(l16,v17,l21)) ?_ ?_
  ·refine yaj ?_
   refine yat (Y:=Option Addr×Nat) (S:=Int×(List Int)×Int×(List Zb)) _ hq23 (fun (a14,c15) (v9,l10,v11,l13)=>[(0,pP b0 0),(2,pI p2),(6,pP b1 0),(8,pP b4 0),(9,pI v9)]) (fun (a14,c15) (v9,l10,v11,l13)=>[PRes.b b0 86 [pL eI l10,pI v11],PRes.b b1 68 [pI 0,pI 0,pN,pI 0,pI 0,pS ByteArray.empty,pN],PRes.b b4 68 [pI v5,pI 0,pN,pI 0,pI 0,pS ByteArray.empty,pO a14 l13.length c15],PRes.row a14 l13.length c15 68 7 (List.map Zb.enc l13)]) (none,0) (zh5 rfl rfl rfl rfl rfl) (zsc (zpt zph) (zsc (zpt zph) (zsc (zpt zph) (zs1)))) ?_
   rintro ⟨a14,c15⟩ ⟨v9,l10,v11,l13⟩ o τ hb22;(try dsimp only at hb22);dsimp only [pupds]
   refine yaa (yaa (yac [] [33] [(34,pB (decide (0<v9)))] fo0 (by kernel_rfl) (yab (zif rfl hb22 (fun hc25 hb22=>?_) fun hc25 hb22=>?_))))
   ·refine yah ?_
    refine yab (yaa (yaj (yad hb22 fun x26 hx26 hb22=>yad hb22 fun l29 hl29 hb22=>?_)))
    refine yjh (Y:=Option Addr×Nat) (fun (a30,c31)=>[(0,pP b0 0),(2,pI p2),(6,pP b1 0),(8,pP b4 0),(9,pI v9)]) (fun (a30,c31)=>[PRes.b b0 86 [pL eI x26.2.L,pI x26.2.I],PRes.b b1 68 [pI 0,pI 0,pN,pI 0,pI 0,pS ByteArray.empty,pN],PRes.b b4 68 [pI v5,pI 0,pN,pI 0,pI 0,pS ByteArray.empty,pO a30 l29.length c31],PRes.row a30 l29.length c31 68 7 (List.map Zb.enc l29)]) (fun _=>True) ?_ ?_
    ·refine ypu (ρd:=[PRes.b b0 _ _,PRes.row a14 _ _ _ _ _,PRes.b b4 _ _]) _ (ybf zph (ybf (zpt (zpt zph)) (ybf (zpt zph) (List.Perm.refl _)))) ?_
     refine yfw 0 (by kernel_rfl) rfl rfl rfl rfl (ybz rfl rfl rfl rfl rfl (.p rfl)) (yfw 2 (by kernel_rfl) rfl rfl rfl rfl (yix (p:=pP b0 0) rfl (.p rfl)) (yfw 3 (by kernel_rfl) rfl rfl rfl rfl (ybz rfl rfl rfl rfl rfl (.p rfl)) (yfw 5 (by kernel_rfl) rfl rfl rfl rfl (yix (p:=pI p2) rfl (.p rfl)) (yfw 6 (by kernel_rfl) rfl rfl rfl rfl (xbi rfl (.p rfl) (.p rfl) rfl) ?_))))
     refine ymj 1 4 (by kernel_rfl) ?_ ?_
     ·skip
      refine ybs rfl rfl rfl rfl (xcz (ydm (p:=pO a14 l13.length c15) rfl (.p rfl) zm2 rfl) (ybx 4 (by kernel_rfl) (ybs rfl rfl rfl rfl (xcz (ydm (p:=pI v5) rfl (.p rfl) zm2 rfl) (ybx 7 (by kernel_rfl) ?_)))))
      refine ybs rfl rfl rfl rfl (ybn rfl rfl (ρ1:=[_]) (ybf (by exact zph) (List.Perm.refl _)) (hrec hx26) ?_);rintro _ _ ⟨rfl,rfl⟩
      refine ybx 8 (by kernel_rfl) ?_
      refine ybs rfl rfl rfl rfl (ycg (css:=List.map Zb.enc [x26.1]) rfl rfl rfl rfl rfl (by (simp only [List.map_cons,List.map_nil,Zb.enc_eq];(repeat (first | exact zin | apply zic rfl)))) rfl (by (simp only [List.map_cons,List.map_nil,Zb.enc_eq];rfl)) rfl rfl (fun b27=>?_))
      refine ybx 9 (by kernel_rfl) ?_
      refine ybs rfl rfl rfl rfl (ycm (enc:=Zb.enc) rfl rfl rfl rfl rfl rfl rfl rfl rfl zm0 (by exact zpt (zpt zph)) hl29 (fun a30 c31=>?_))
      refine yfw 10 (by kernel_rfl) rfl rfl rfl rfl (ybz rfl rfl rfl rfl rfl (.p rfl)) (ybx 11 (by kernel_rfl) (ygc rfl rfl rfl (yaq (vs:=[pO a30 l29.length c31]) rfl rfl rfl rfl rfl (zut (zut (zut zuh))) (zlt (zlt (zlt (zlt (zlt (zlt (zl1))))))) (ygb (by kernel_rfl) ?_))))
      exact yja (a30,c31) (zh5 rfl rfl rfl rfl rfl) (zsc (zpt (zpt zph)) (zsc (zpt (zpt (zpt zph))) (zsc (zpt (zpt zph)) (zs1)))) trivial
     skip
     refine ybs rfl rfl rfl rfl (xcz (ydm (p:=pI v5) rfl (.p rfl) zm2 rfl) ?_)
     refine ymj 1 7 (by kernel_rfl) ?_ ?_
     ·skip
      refine ybs rfl rfl rfl rfl (xcz (ydm (p:=pO a14 l13.length c15) rfl (.p rfl) zm2 rfl) (ybx 7 (by kernel_rfl) ?_))
      refine ybs rfl rfl rfl rfl (ybn rfl rfl (ρ1:=[_]) (ybf (by exact zph) (List.Perm.refl _)) (hrec hx26) ?_);rintro _ _ ⟨rfl,rfl⟩
      refine ybx 8 (by kernel_rfl) ?_
      refine ybs rfl rfl rfl rfl (ycg (css:=List.map Zb.enc [x26.1]) rfl rfl rfl rfl rfl (by (simp only [List.map_cons,List.map_nil,Zb.enc_eq];(repeat (first | exact zin | apply zic rfl)))) rfl (by (simp only [List.map_cons,List.map_nil,Zb.enc_eq];rfl)) rfl rfl (fun b27=>?_))
      refine ybx 9 (by kernel_rfl) ?_
      refine ybs rfl rfl rfl rfl (ycm (enc:=Zb.enc) rfl rfl rfl rfl rfl rfl rfl rfl rfl zm0 (by exact zpt (zpt zph)) hl29 (fun a30 c31=>?_))
      refine yfw 10 (by kernel_rfl) rfl rfl rfl rfl (ybz rfl rfl rfl rfl rfl (.p rfl)) (ybx 11 (by kernel_rfl) (ygc rfl rfl rfl (yaq (vs:=[pO a30 l29.length c31]) rfl rfl rfl rfl rfl (zut (zut (zut zuh))) (zlt (zlt (zlt (zlt (zlt (zlt (zl1))))))) (ygb (by kernel_rfl) ?_))))
      exact yja (a30,c31) (zh5 rfl rfl rfl rfl rfl) (zsc (zpt (zpt zph)) (zsc (zpt (zpt (zpt zph))) (zsc (zpt (zpt zph)) (zs1)))) trivial
     skip
     refine ybs rfl rfl rfl rfl (ybn rfl rfl (ρ1:=[_]) (ybf (by exact zph) (List.Perm.refl _)) (hrec hx26) ?_);rintro _ _ ⟨rfl,rfl⟩
     refine ymj 1 8 (by kernel_rfl) ?_ ?_
     ·skip
      refine ybs rfl rfl rfl rfl (xcz (ydm (p:=pO a14 l13.length c15) rfl (.p rfl) zm2 rfl) (ybx 8 (by kernel_rfl) ?_))
      refine ybs rfl rfl rfl rfl (ycg (css:=List.map Zb.enc [x26.1]) rfl rfl rfl rfl rfl (by (simp only [List.map_cons,List.map_nil,Zb.enc_eq];(repeat (first | exact zin | apply zic rfl)))) rfl (by (simp only [List.map_cons,List.map_nil,Zb.enc_eq];rfl)) rfl rfl (fun b27=>?_))
      refine ybx 9 (by kernel_rfl) ?_
      refine ybs rfl rfl rfl rfl (ycm (enc:=Zb.enc) rfl rfl rfl rfl rfl rfl rfl rfl rfl zm0 (by exact zpt (zpt zph)) hl29 (fun a30 c31=>?_))
      refine yfw 10 (by kernel_rfl) rfl rfl rfl rfl (ybz rfl rfl rfl rfl rfl (.p rfl)) (ybx 11 (by kernel_rfl) (ygc rfl rfl rfl (yaq (vs:=[pO a30 l29.length c31]) rfl rfl rfl rfl rfl (zut (zut (zut zuh))) (zlt (zlt (zlt (zlt (zlt (zlt (zl1))))))) (ygb (by kernel_rfl) ?_))))
      exact yja (a30,c31) (zh5 rfl rfl rfl rfl rfl) (zsc (zpt (zpt zph)) (zsc (zpt (zpt (zpt zph))) (zsc (zpt (zpt zph)) (zs1)))) trivial
     skip
     refine ybs rfl rfl rfl rfl (ycg (css:=List.map Zb.enc [x26.1]) rfl rfl rfl rfl rfl (by (simp only [List.map_cons,List.map_nil,Zb.enc_eq];(repeat (first | exact zin | apply zic rfl)))) rfl (by (simp only [List.map_cons,List.map_nil,Zb.enc_eq];rfl)) rfl rfl (fun b27=>?_))
     refine ybx 1 (by kernel_rfl) (ybs rfl rfl rfl rfl (xcz (ydm (p:=pO a14 l13.length c15) rfl (.p rfl) zm3 rfl) (ybx 9 (by kernel_rfl) ?_)))
     refine ybs rfl rfl rfl rfl (ycm (enc:=Zb.enc) rfl rfl rfl rfl rfl rfl rfl rfl rfl zm0 (by exact zpt (zpt zph)) hl29 (fun a30 c31=>?_))
     refine yfw 10 (by kernel_rfl) rfl rfl rfl rfl (ybz rfl rfl rfl rfl rfl (.p rfl)) (ybx 11 (by kernel_rfl) (ygc rfl rfl rfl (yaq (vs:=[pO a30 l29.length c31]) rfl rfl rfl rfl rfl (zut (zut (zut zuh))) (zlt (zlt (zlt (zlt (zlt (zlt (zl1))))))) (ygb (by kernel_rfl) ?_))))
     exact yja (a30,c31) (zh5 rfl rfl rfl rfl rfl) (zsc (zpt (zpt zph)) (zsc (zpt (zpt (zpt zph))) (zsc (zpt (zpt zph)) (zs1)))) trivial
    rintro ⟨a30,c31⟩ τ ρ1 hsub33 _;(try dsimp only at hsub33);dsimp only [pupds]
    refine yak (yab (yps hsub33 (yac [] [35,36] [(9,pI (IntKind.i64.wrap (v9 - 1)))] fo0 (by kernel_rfl) ?_)))
    exact ybd hb22 (a30,c31) (zh5 rfl rfl rfl rfl rfl) (zs4)
   refine yax ?_
   refine yao (yam hb22 (fun ht=>yan rfl ?_))
   exact yaw ((a14,c15),(l10,v11,l13)) (zh2 rfl rfl) (zs4) ht.symm
  rintro ⟨⟨a19,c20⟩,⟨l16,v17,l21⟩⟩ τ hz;(try dsimp only at hz);subst q23;(try dsimp only at h);dsimp only [pupds]
  refine yaa (yae (yvf (k:=2) (b:=b4) rfl (zut (zut zuh)) ?_))
  refine yop (css:=List.map Zb.enc l21) (a:=a19) (by exact zpt (zpt (zpt zph))) ?_
  refine ykq (k:=6) (enc:=Zb.enc) (xs:=l21) (b:=b4) (a:=a19) rfl zm0 (zut (zut (zut zuh))) (yal 1 [3] [] [(48,.agg [pI v5,pI 0,pL eS [],pI 0,pI 0,pS ByteArray.empty,pL Zb.enc l21])] fo0 (by kernel_rfl) (ybh rfl rfl (yaq (vs:=[pI v5,pI 0,pL eS [],pI 0,pI 0,pS ByteArray.empty,pL Zb.enc l21]) rfl rfl rfl rfl rfl (zut (zut zuh)) (zl7) (yay (yab (yai (yag ?_)))))))
  obtain rfl:=osi h
  exact ybe (ygg (yfi rfl zm2 rfl)) (zsc (zpt zph) zsn) ⟨rfl,rfl⟩
 refine yah ?_
 refine yab (yaa (yaa (yac [] [49] [(50,pI (Int.tmod x2.1 4))] fo0 (by kernel_rfl) (yab (yad h fun q36 hq36 h=>?_)))))
 refine yar (Y:=(Unit)×((List Int)×Int)) (fun (_,(l34,v35))=>[(0,pP b0 0),(6,pP b1 0)]) (fun (_,(l34,v35))=>[PRes.b b0 86 [pL eI l34,pI v35],PRes.b b1 68 [pI 0,pI 0,pN,pI 0,pI 0,pS ByteArray.empty,pN]]) (fun (_,(l34,v35))=>q36=Sum.inl (l34,v35)) ?_ ?_
 ·skip
  refine yaj (yaa (yac [] [52] [(51,pB ((Int.tmod x2.1 4) == 1))] fo0 (by kernel_rfl) (yab (zif rfl hq36 (fun hc37 hq36=>?_) fun hc37 hq36=>?_))))
  ·refine yaa ?_
   refine yad hq36 fun x38 hx38 hq36=>yae (yal 1 [] [] [(53,pP b0 0)] fo0 (by kernel_rfl) ?_)
   refine yav rfl rfl rfl (ybn rfl rfl (ρ1:=[_]) (ybf (by exact zph) (List.Perm.refl _)) (yml hx38) ?_);rintro _ _ ⟨rfl,rfl⟩
   refine yal 1 [] [] [(55,.agg [pI 3,pI 0,pN,pI 0,pI x38.1,pS ByteArray.empty,pN])] fo0 (by kernel_rfl) (ybh rfl rfl (yaq (vs:=[pI 3,pI 0,pN,pI 0,pI x38.1,pS ByteArray.empty,pN]) rfl rfl rfl rfl rfl (zut zuh) (zl7) (yay (yab (ydn (k:=2) (b:=b1) rfl (zut zuh) (ydn (k:=6) (b:=b1) rfl (zut zuh) (yai (yaf (yau ?_)))))))))
   obtain rfl:=osi hq36
   obtain rfl:=osi h
   exact ybe (ygg (yfi rfl zm1 rfl)) (zs1) ⟨rfl,rfl⟩
  refine yaa ?_
  refine yac [] [57] [(56,pB ((Int.tmod x2.1 4) == 2))] fo0 (by kernel_rfl) (yab (zif rfl hq36 (fun hc39 hq36=>?_) fun hc39 hq36=>?_))
  ·refine yaa ?_
   refine yae (yav rfl rfl rfl (ycg rfl rfl rfl rfl rfl (zic rfl (zic rfl (zic rfl (zic rfl (zic rfl zin))))) rfl rfl rfl rfl (fun b40=>yad hq36 fun x42 hx42 hq36=>yal 1 [] [] [(59,pP b0 0)] fo0 (by kernel_rfl) ?_)))
   refine yav rfl rfl rfl (ybn rfl rfl (ρ1:=[_]) (ybf (by exact zpt zph) (List.Perm.refl _)) (yaz hx42) ?_);rintro _ _ ⟨rfl,rfl⟩
   refine yad hq36 fun m43 hm43 hq36=>yda rfl rfl rfl (yhc (enc:=eS) (xs:=[(⟨#[97,110,100]⟩:ByteArray),(⟨#[99,117,116]⟩:ByteArray),(⟨#[111,114]⟩:ByteArray),(⟨#[115,101,119]⟩:ByteArray),(⟨#[115,112,105,110]⟩:ByteArray)]) rfl rfl rfl (.p rfl) zm1 (.p rfl) (fun _=>hm43)) (yda rfl rfl rfl (yei (sz:=1) (p:=pS m43) (enc:=eS) (xs:=[(⟨#[97,110,100]⟩:ByteArray),(⟨#[99,117,116]⟩:ByteArray),(⟨#[111,114]⟩:ByteArray),(⟨#[115,101,119]⟩:ByteArray),(⟨#[115,112,105,110]⟩:ByteArray)]) (a:=(some ⟨b40,0,none⟩)) x42.1 0 m43 rfl (.p rfl) rfl zm1 (fun _=>hm43) rfl) (yal 1 [] [] [(63,.agg [pI 4,pI 0,pN,pI 0,pI 0,pS m43,pN])] fo0 (by kernel_rfl) (ybh rfl rfl (yaq (vs:=[pI 4,pI 0,pN,pI 0,pI 0,pS m43,pN]) rfl rfl rfl rfl rfl (zut (zut zuh)) (zl7) (yay (yab (ydn (k:=2) (b:=b1) rfl (zut (zut zuh)) (ydn (k:=6) (b:=b1) rfl (zut (zut zuh)) (yai (yaf (yau ?_)))))))))))
   obtain rfl:=osi hq36
   obtain rfl:=osi h
   exact ybe (ygg (yfi rfl zm2 rfl)) (zs1) ⟨rfl,rfl⟩
  refine yaa ?_
  refine yac [] [65] [(64,pB ((Int.tmod x2.1 4) == 3))] fo0 (by kernel_rfl) (yab (zif rfl hq36 (fun hc44 hq36=>?_) fun hc44 hq36=>?_))
  ·refine yaa ?_
   refine yad hq36 fun x45 hx45 hq36=>yae (yal 1 [] [] [(66,pP b0 0)] fo0 (by kernel_rfl) ?_)
   refine yav rfl rfl rfl (ybn rfl rfl (ρ1:=[_]) (ybf (by exact zph) (List.Perm.refl _)) (yaz hx45) ?_);rintro _ _ ⟨rfl,rfl⟩
   refine yap [] [] [(68,pB (x45.1 == 1))] fo0 (by kernel_rfl) (yab (zif rfl hq36 (fun hc46 hq36=>?_) fun hc46 hq36=>?_))
   ·refine yaa ?_
    refine yae (yal 1 [] [] [(69,.agg [pI 1,pI 0,pN,pI 0,pI 0,pS ByteArray.empty,pN])] fo0 (by kernel_rfl) (ybh rfl rfl (yaq (vs:=[pI 1,pI 0,pN,pI 0,pI 0,pS ByteArray.empty,pN]) rfl rfl rfl rfl rfl (zut zuh) (zl7) (yay (yab (ydn (k:=2) (b:=b1) rfl (zut zuh) (ydn (k:=6) (b:=b1) rfl (zut zuh) (yai (yaf (yau ?_))))))))))
    obtain rfl:=osi hq36
    obtain rfl:=osi h
    exact ybe (ygg (yfi rfl zm1 rfl)) (zs1) ⟨rfl,rfl⟩
   refine yah ?_
   refine yak ?_
   obtain rfl:=osi hq36
   exact yaw ((),(x45.2.L,x45.2.I)) (zh2 rfl rfl) (zs2) rfl
  refine yah ?_
  refine yak ?_
  obtain rfl:=osi hq36
  exact yaw ((),(x2.2.L,x2.2.I)) (zh2 rfl rfl) (zs2) rfl
 rintro ⟨_,⟨l34,v35⟩⟩ τ hz;(try dsimp only at hz);subst q36;(try dsimp only at h);dsimp only [pupds]
 refine yaa (yad h fun x47 hx47 h=>yae (yal 1 [] [] [(70,pP b0 0)] fo0 (by kernel_rfl) ?_))
 refine yav rfl rfl rfl (ybn rfl rfl (ρ1:=[_]) (ybf (by exact zph) (List.Perm.refl _)) (yaz hx47) ?_);rintro _ _ ⟨rfl,rfl⟩
 refine yal 3 [] [72,73] [(74,.agg [pI 2,pI (IntKind.i64.wrap (2+(IntKind.i64.wrap (2*x47.1)))),pN,pI 0,pI 0,pS ByteArray.empty,pN])] fo0 (by kernel_rfl) (yav rfl rfl rfl (yba (cs:=[pI 0,pI 0,pN,pI 0,pI 0,pS ByteArray.empty,pN]) rfl rfl rfl rfl (fun b48=>ybh rfl rfl (yaq (vs:=[pI 2,pI (IntKind.i64.wrap (2+(IntKind.i64.wrap (2*x47.1)))),pN,pI 0,pI 0,pS ByteArray.empty,pN]) rfl rfl rfl rfl rfl zuh (zl7) (yay (yab (yaa (yaa (yad h fun x49 hx49 h=>yae (yal 1 [] [] [(75,pP b0 0)] fo0 (by kernel_rfl) ?_))))))))))
 refine yav rfl rfl rfl (ybn rfl rfl (ρ1:=[_]) (ybf (by exact zpt zph) (List.Perm.refl _)) (yaz hx49) ?_);rintro _ _ ⟨rfl,rfl⟩
 refine yap [] [] [(77,pB (x49.1 == 1))] fo0 (by kernel_rfl) (yab (yad h fun q53 hq53 h=>?_))
 refine yar (Y:=(Unit)×((List Int)×Int×(List ByteArray))) (fun (_,(l50,v51,l52))=>[(0,pP b0 0),(6,pP b1 0),(10,pP b48 0)]) (fun (_,(l50,v51,l52))=>[PRes.b b0 86 [pL eI l50,pI v51],PRes.b b1 68 [pI 0,pI 0,pN,pI 0,pI 0,pS ByteArray.empty,pN],PRes.b b48 68 [pI 2,pI (IntKind.i64.wrap (2+(IntKind.i64.wrap (2*x47.1)))),pL eS l52,pI 0,pI 0,pS ByteArray.empty,pN]]) (fun (_,(l50,v51,l52))=>q53=(l50,v51,l52)) ?_ ?_
 ·skip
  refine zif rfl hq53 (fun hc54 hq53=>?_) fun hc54 hq53=>?_
  ·refine yae ?_
   refine yav rfl rfl rfl (ycg rfl rfl rfl rfl rfl (zic rfl (zic rfl zin)) rfl rfl rfl rfl (fun b55=>yad hq53 fun x57 hx57 hq53=>yal 1 [] [] [(79,pP b0 0)] fo0 (by kernel_rfl) ?_))
   refine yav rfl rfl rfl (ybn rfl rfl (ρ1:=[_]) (ybf (by exact zpt zph) (List.Perm.refl _)) (yaz hx57) ?_);rintro _ _ ⟨rfl,rfl⟩
   refine ygx (enc:=eS) (xs:=[(⟨#[57,52,48,49]⟩:ByteArray),(⟨#[57,53,48,50]⟩:ByteArray)]) 78 rfl (by exact zpt zph) ?_
   refine yad hq53 fun l58 hl58 hq53=>yal 2 [] [] [(81,pL eS l58),(82,pP b48 2)] (fosl 0 eS 1 (fun _=>rfl) hl58 fo0) (by kernel_rfl) (ybh rfl rfl (yaq (vs:=[pL eS l58]) rfl rfl rfl rfl rfl (zut (zut zuh)) (zlt (zlt (zl1))) (yay ?_)))
   obtain rfl:=osi hq53
   exact yaw ((),(x57.2.L,x57.2.I,l58)) (zh3 rfl rfl rfl) (zsc (zpt zph) (zsc (zpt (zpt zph)) (zsc (zpt zph) zsn))) rfl
  refine yah ?_
  refine yqq (cov_nilb (k:=2) (b:=b48) rfl (zut zuh)) ?_
  obtain rfl:=osi hq53
  exact yaw ((),(x49.2.L,x49.2.I,[])) (zh3 rfl rfl rfl) (zsc zph (zsc (zpt zph) (zs1))) rfl
 rintro ⟨_,⟨l50,v51,l52⟩⟩ τ hz;(try dsimp only at hz);subst q53;(try dsimp only at h);dsimp only [pupds]
 refine yaa (yaa (yad h fun x59 hx59 h=>yae (yal 1 [] [] [(83,pP b0 0)] fo0 (by kernel_rfl) ?_)))
 refine yav rfl rfl rfl (ybn rfl rfl (ρ1:=[_]) (ybf (by exact zph) (List.Perm.refl _)) (yaz hx59) ?_);rintro _ _ ⟨rfl,rfl⟩
 refine yap [] [] [(85,pB (x59.1 == 1))] fo0 (by kernel_rfl) (yab (yad h fun q63 hq63 h=>?_))
 refine yar (Y:=(Unit)×((List Int)×Int×Int)) (fun (_,(l60,v61,v62))=>[(6,pP b1 0),(10,pP b48 0)]) (fun (_,(l60,v61,v62))=>[PRes.b b0 86 [pL eI l60,pI v61],PRes.b b1 68 [pI 0,pI 0,pN,pI 0,pI 0,pS ByteArray.empty,pN],PRes.b b48 68 [pI 2,pI (IntKind.i64.wrap (2+(IntKind.i64.wrap (2*x47.1)))),pL eS l52,pI v62,pI 0,pS ByteArray.empty,pN]]) (fun (_,(l60,v61,v62))=>q63=(l60,v61,v62)) ?_ ?_
 ·skip
  refine zif rfl hq63 (fun hc64 hq63=>?_) fun hc64 hq63=>?_
  ·refine yad hq63 ?_;clear hq63;intro x65 hx65 hq63
   refine yae (yal 1 [] [] [(86,pP b0 0)] fo0 (by kernel_rfl) ?_)
   refine yav rfl rfl rfl (ybn rfl rfl (ρ1:=[_]) (ybf (by exact zph) (List.Perm.refl _)) (yml hx65) ?_);rintro _ _ ⟨rfl,rfl⟩
   refine yal 1 [] [] [(88,pP b48 3)] fo0 (by kernel_rfl) (ybh rfl rfl (yaq (vs:=[pI x65.1]) rfl rfl rfl rfl rfl (zut (zut zuh)) (zlt (zlt (zlt (zl1)))) (yay ?_)))
   obtain rfl:=osi hq63
   exact yaw ((),(x65.2.L,x65.2.I,x65.1)) (zh2 rfl rfl) (zs3) rfl
  refine yah ?_
  obtain rfl:=osi hq63
  exact yaw ((),(x59.2.L,x59.2.I,0)) (zh2 rfl rfl) (zs3) rfl
 rintro ⟨_,⟨l60,v61,v62⟩⟩ τ hz;(try dsimp only at hz);subst q63;(try dsimp only at h);dsimp only [pupds]
 refine yaa (yae (yvf (k:=6) (b:=b48) rfl (zut (zut zuh)) (yal 1 [2] [] [(89,.agg [pI 2,pI (IntKind.i64.wrap (2+(IntKind.i64.wrap (2*x47.1)))),pL eS l52,pI v62,pI 0,pS ByteArray.empty,pL Zb.enc []])] fo0 (by kernel_rfl) (ybh rfl rfl (yaq (vs:=[pI 2,pI (IntKind.i64.wrap (2+(IntKind.i64.wrap (2*x47.1)))),pL eS l52,pI v62,pI 0,pS ByteArray.empty,pL Zb.enc []]) rfl rfl rfl rfl rfl (zut zuh) (zl7) (yay (yab (yai ?_))))))))
 obtain rfl:=osi h
 exact ybe (ygg (yfi rfl zm1 rfl)) (zs1) ⟨rfl,rfl⟩
def yeo (n:Nat):Zl→Int→Int→Option (Zb×Zl):=Nat.rec (motive:=fun _=>Zl→Int→Int→Option (Zb×Zl)) (fun _ _ _=>none) (fun _ ih=>yfp ih) n
def ypb (p0:Zl) (p1:Int) (p2:Int):Option (Zb×Zl):=yeo FUEL p0 p1 p2
theorem yqy (n:Nat):∀ {p0:Zl} {p1:Int} {p2:Int} {b0:Nat} {r:(Zb×Zl)},yeo n p0 p1 p2=some r→PCall 47 [pP b0 0,pI p1,pI p2] [PRes.b b0 86 [pL eI p0.L,pI p0.I]] (fun pv ρ'=>pv=.agg [pI r.1.Kind,pI r.1.Digits,pL eS r.1.Except,pI r.1.Tolerance,pI r.1.Limit,pS r.1.Name,pL Zb.enc r.1.Args]∧ρ'=[PRes.b b0 86 [pL eI r.2.L,pI r.2.I]]):=by
 induction n with
 | zero=>intros;rename_i h;exact nomatch h
 | succ n ih=>intros;rename_i h;exact ypw (fun hr=>ih hr) h
theorem ymm {p0:Zl} {p1:Int} {p2:Int} {b0:Nat} {r:(Zb×Zl)} (h:ypb p0 p1 p2=some r):PCall 47 [pP b0 0,pI p1,pI p2] [PRes.b b0 86 [pL eI p0.L,pI p0.I]] (fun pv ρ'=>pv=.agg [pI r.1.Kind,pI r.1.Digits,pL eS r.1.Except,pI r.1.Tolerance,pI r.1.Limit,pS r.1.Name,pL Zb.enc r.1.Args]∧ρ'=[PRes.b b0 86 [pL eI r.2.L,pI r.2.I]]):=yqy FUEL h
def yhr (p0:(List Int)):Option (List Zc):=Option.bind (made_Cut p0 200) (fun x1=>Option.bind (ybc (⟨x1,0⟩:Zl) 4) (fun x3=>Option.bind (loopF (S:=(List Zc)×Int×(List Int)×Int) (T:=((List Zc))) (fun (l5,v8,l9,v10)=>cond (decide (v8<(IntKind.i64.wrap (1+x3.1)))) (Option.bind (ybc (⟨l9,v10⟩:Zl) 3) (fun x19=>Option.bind (ybc x19.2 64) (fun x21=>Option.bind (loopF (S:=Int×(List ByteArray)) (T:=((List ByteArray))) (fun (v22,l24)=>cond (decide (v22<6)) (Option.bind (Option.bind (ge0 v22) (fun u42=>cond ((iand .i64 (ishr .i64 (ior .i64 x21.1 3) v22) 1) == 1) (Option.bind (yhh) (fun x44=>Option.bind (idx x44 v22) (fun m45=>Option.bind (app 16 l24 [m45]) (fun l48=>some l48)))) (some l24))) (fun l40=>some (.inl ((IntKind.i64.wrap (v22+1)),l40)))) (some (.inr l24))) FUEL (0,([]:List ByteArray))) (fun l31=>Option.bind (gdp (decide (0<v8)) (ybc x21.2 2) x21.2) (fun x53=>Option.bind (cond ((decide (0<v8))&&(x53.1 == 1)) (Option.bind (idx l5 (IntKind.i64.wrap (v8 - 1))) (fun m61=>some (x53.2.L,x53.2.I,m61.Rules))) (Option.bind (ybc x53.2 31) (fun x64=>Option.bind (loopF (S:=Int×(List Int)×Int×(List Zh)) (T:=((List Int)×Int×(List Zh))) (fun (v65,l66,v67,l69)=>cond (decide (v65<5)) (Option.bind (Option.bind (ge0 v65) (fun u94=>cond ((iand .i64 (ishr .i64 (IntKind.i64.wrap (1+x64.1)) v65) 1) == 1) (Option.bind (idx [(⟨#[57,52]⟩:ByteArray),(⟨#[57,52,48,49]⟩:ByteArray),(⟨#[57,52,48,49,48,50]⟩:ByteArray),(⟨#[57,53]⟩:ByteArray),(⟨#[57,53,48,50]⟩:ByteArray)] v65) (fun m96=>Option.bind (ypb (⟨l66,v67⟩:Zl) 0 1) (fun x97=>Option.bind (app 112 l69 [(⟨m96,x97.1⟩:Zh)]) (fun l100=>some (x97.2.L,x97.2.I,l100))))) (some (l66,v67,l69)))) (fun (l86,v87,l92)=>some (.inl ((IntKind.i64.wrap (v65+1)),l86,v87,l92)))) (some (.inr (l66,v67,l69)))) FUEL (0,x64.2.L,x64.2.I,([]:List Zh))) (fun (l73,v74,l79)=>some (l73,v74,l79))))) (fun (l55,v56,l58)=>Option.bind (app 64 l5 [(⟨(IntKind.i64.wrap (2+(IntKind.i64.wrap (5*v8)))),(IntKind.i64.wrap (1+x19.1)),l31,l58⟩:Zc)]) (fun l108=>some (.inl (l108,(IntKind.i64.wrap (v8+1)),l55,v56))))))))) (some (.inr l5))) FUEL (([]:List Zc),0,x3.2.L,x3.2.I)) (fun l14=>some l14)))
theorem ysr {p0:(List Int)} {r:(List Zc)}  (h:yhr p0=some r):PCall 16 [pL eI p0] [] (fun pv ρ'=>∃ a c,pv=.v (.slice a r.length c)∧ρ'=[PRes.row a r.length c 52 4 (List.map Zc.enc r)]):=by
 unfold yhr at h
 refine ybb Tryz.func16 fk16 rfl Tryz.ntmps16 Tryz.results16 rfl (yaa (yac [] [2] [] fo0 (by kernel_rfl) (yab (yaa (yad h fun x1 hx1 h=>yae (yal 3 [] [13,14] [(15,.agg [pL eI x1,pI 0])] (ycs 1 (ywn hx1) fo0) (by kernel_rfl) (yav rfl rfl rfl (ybt (cs:=[pL eI x1,pI 0]) rfl rfl (fun b2=>yap [] [] [(3,pP b2 0)] fo0 (by kernel_rfl) (yab (yaa (yac [] [] [(4,pN)] fo0 (by kernel_rfl) (yab (yaa (yaa (yad h fun x3 hx3 h=>yae (yal 1 [] [] [(17,pP b2 0)] fo0 (by kernel_rfl) ?_)))))))))))))))))
 refine yav rfl rfl rfl (ybn rfl rfl (ρ1:=[_]) (ybf (by exact zph) (List.Perm.refl _)) (yaz hx3) ?_);rintro _ _ ⟨rfl,rfl⟩
 refine yap [] [19] [(5,pI 0),(6,pI (IntKind.i64.wrap (1+x3.1)))] fo0 (by kernel_rfl) (yab (ycn 52 4 (yad h fun q16 hq16 h=>?_)))
 refine yar (Y:=(Option Addr×Nat)×((List Zc))) (fun ((a12,c13),l14)=>[(4,pO a12 l14.length c13)]) (fun ((a12,c13),l14)=>[PRes.row a12 l14.length c13 52 4 (List.map Zc.enc l14)]) (fun ((a12,c13),l14)=>q16=l14) ?_ ?_
 ·refine yaj ?_
  refine yat (Y:=Option Addr×Nat) (S:=(List Zc)×Int×(List Int)×Int) _ hq16 (fun (a6,c7) (l5,v8,l9,v10)=>[(3,pP b2 0),(4,pO a6 l5.length c7),(5,pI v8),(6,pI (IntKind.i64.wrap (1+x3.1)))]) (fun (a6,c7) (l5,v8,l9,v10)=>[PRes.b b2 86 [pL eI l9,pI v10],PRes.row a6 l5.length c7 52 4 (List.map Zc.enc l5)]) (none,0) (zh4 rfl rfl rfl rfl) (zsc (zpt zph) (zs1)) ?_
  rintro ⟨a6,c7⟩ ⟨l5,v8,l9,v10⟩ o τ hb15;(try dsimp only at hb15);dsimp only [pupds]
  refine yaa (yaa (yac [] [20,21] [(22,pB (decide (v8<(IntKind.i64.wrap (1+x3.1)))))] fo0 (by kernel_rfl) (yab (zif rfl hb15 (fun hc18 hb15=>?_) fun hc18 hb15=>?_))))
  ·refine yah ?_
   refine yab (yaa (yaj (yaa (yad hb15 fun x19 hx19 hb15=>yae (yal 4 [] [25,26] [(27,pI (IntKind.i64.wrap (2+(IntKind.i64.wrap (5*v8))))),(28,pP b2 0)] fo0 (by kernel_rfl) ?_)))))
   refine yav rfl rfl rfl (ybn rfl rfl (ρ1:=[_]) (ybf (by exact zph) (List.Perm.refl _)) (yaz hx19) ?_);rintro _ _ ⟨rfl,rfl⟩
   refine yal 2 [] [30] [(31,.agg [pI (IntKind.i64.wrap (2+(IntKind.i64.wrap (5*v8)))),pI (IntKind.i64.wrap (1+x19.1)),pN,pN])] fo0 (by kernel_rfl) (yav rfl rfl rfl (yba (cs:=[pI 0,pI 0,pN,pN]) rfl rfl rfl rfl (fun b20=>ybh rfl rfl (yaq (vs:=[pI (IntKind.i64.wrap (2+(IntKind.i64.wrap (5*v8)))),pI (IntKind.i64.wrap (1+x19.1)),pN,pN]) rfl rfl rfl rfl rfl zuh (zl4) (yay (yab (yaa (yad hb15 fun x21 hx21 hb15=>yae (yal 1 [] [] [(32,pP b2 0)] fo0 (by kernel_rfl) ?_)))))))))
   refine yav rfl rfl rfl (ybn rfl rfl (ρ1:=[_]) (ybf (by exact zpt zph) (List.Perm.refl _)) (yaz hx21) ?_);rintro _ _ ⟨rfl,rfl⟩
   refine yap [] [34] [(8,pI (ior .i64 x21.1 3))] fo0 (by kernel_rfl) (yab (yaa (yaa (yac [] [] [(9,pI 0)] fo0 (by kernel_rfl) (yab (ycn 9 1 (yad hb15 fun q33 hq33 hb15=>?_)))))))
   refine yar (Y:=(Option Addr×Nat)×((List ByteArray))) (fun ((a29,c30),l31)=>[(3,pP b2 0),(4,pO a6 l5.length c7),(5,pI v8),(6,pI (IntKind.i64.wrap (1+x3.1))),(7,pP b20 0)]) (fun ((a29,c30),l31)=>[PRes.b b2 86 [pL eI x21.2.L,pI x21.2.I],PRes.b b20 52 [pI (IntKind.i64.wrap (2+(IntKind.i64.wrap (5*v8)))),pI (IntKind.i64.wrap (1+x19.1)),pO a29 l31.length c30,pN],PRes.row a6 l5.length c7 52 4 (List.map Zc.enc l5),PRes.row a29 l31.length c30 9 1 (List.map eS l31)]) (fun ((a29,c30),l31)=>q33=l31) ?_ ?_
   ·refine yaj ?_
    refine yat (Y:=Option Addr×Nat) (S:=Int×(List ByteArray)) _ hq33 (fun (a25,c26) (v22,l24)=>[(3,pP b2 0),(4,pO a6 l5.length c7),(5,pI v8),(6,pI (IntKind.i64.wrap (1+x3.1))),(7,pP b20 0),(8,pI (ior .i64 x21.1 3)),(9,pI v22)]) (fun (a25,c26) (v22,l24)=>[PRes.b b2 86 [pL eI x21.2.L,pI x21.2.I],PRes.b b20 52 [pI (IntKind.i64.wrap (2+(IntKind.i64.wrap (5*v8)))),pI (IntKind.i64.wrap (1+x19.1)),pO a25 l24.length c26,pN],PRes.row a25 l24.length c26 9 1 (List.map eS l24),PRes.row a6 l5.length c7 52 4 (List.map Zc.enc l5)]) (none,0) (zh7 rfl rfl rfl rfl rfl rfl rfl) (zsc (zpt zph) (zsc (zpt zph) (zs2))) ?_
    rintro ⟨a25,c26⟩ ⟨v22,l24⟩ o τ hb32;(try dsimp only at hb32);dsimp only [pupds]
    refine yaa (yaa (yac [] [35] [(36,pB (decide (v22<6)))] fo0 (by kernel_rfl) (yab (zif rfl hb32 (fun hc35 hb32=>?_) fun hc35 hb32=>?_))))
    ·refine yah ?_
     refine yab (yaa (yad hb32 fun q41 hq41 hb32=>?_))
     refine yar (Y:=(Option Addr×Nat)×((List ByteArray))) (fun ((a38,c39),l40)=>[(3,pP b2 0),(4,pO a6 l5.length c7),(5,pI v8),(6,pI (IntKind.i64.wrap (1+x3.1))),(7,pP b20 0),(8,pI (ior .i64 x21.1 3)),(9,pI v22)]) (fun ((a38,c39),l40)=>[PRes.b b2 86 [pL eI x21.2.L,pI x21.2.I],PRes.b b20 52 [pI (IntKind.i64.wrap (2+(IntKind.i64.wrap (5*v8)))),pI (IntKind.i64.wrap (1+x19.1)),pO a38 l40.length c39,pN],PRes.row a6 l5.length c7 52 4 (List.map Zc.enc l5),PRes.row a38 l40.length c39 9 1 (List.map eS l40)]) (fun ((a38,c39),l40)=>q41=l40) ?_ ?_
     ·skip
      refine yaj (yaa (yad hq41 fun u42 hu42 hq41=>yac [] [39,40,41,42] [(43,pB ((iand .i64 (ishr .i64 (ior .i64 x21.1 3) v22) 1) == 1))] (xlh 2 hu42 fo0) (by kernel_rfl) (yab (zif rfl hq41 (fun hc43 hq41=>?_) fun hc43 hq41=>?_))))
      ·refine yad hq41 ?_;clear hq41;intro x44 hx44 hq41
       refine yad hq41 fun m45 hm45 hq41=>yad hq41 fun l48 hl48 hq41=>?_
       refine yjh (Y:=Option Addr×Nat) (fun (a49,c50)=>[(3,pP b2 0),(4,pO a6 l5.length c7),(5,pI v8),(6,pI (IntKind.i64.wrap (1+x3.1))),(7,pP b20 0),(8,pI (ior .i64 x21.1 3)),(9,pI v22)]) (fun (a49,c50)=>[PRes.b b2 86 [pL eI x21.2.L,pI x21.2.I],PRes.b b20 52 [pI (IntKind.i64.wrap (2+(IntKind.i64.wrap (5*v8)))),pI (IntKind.i64.wrap (1+x19.1)),pO a49 l48.length c50,pN],PRes.row a6 l5.length c7 52 4 (List.map Zc.enc l5),PRes.row a49 l48.length c50 9 1 (List.map eS l48)]) (fun _=>True) ?_ ?_
       ·refine ypu (ρd:=[PRes.row a25 _ _ _ _ _,PRes.b b20 _ _]) _ (ybf (zpt (zpt zph)) (ybf (zpt zph) (List.Perm.refl _))) ?_
        refine yfw 0 (by kernel_rfl) rfl rfl rfl rfl (ybz rfl rfl rfl rfl rfl (.p rfl)) (yfw 3 (by kernel_rfl) rfl rfl rfl rfl (yix (p:=pI v22) rfl (.p rfl)) ?_)
        refine ymj 1 2 (by kernel_rfl) ?_ ?_
        ·skip
         refine ybs rfl rfl rfl rfl (xcz (ydm (p:=pO a25 l24.length c26) rfl (.p rfl) zm1 rfl) (ybx 2 (by kernel_rfl) (xah rfl rfl rfl rfl rfl rfl (ykd hx44) (yfw 4 (by kernel_rfl) rfl rfl rfl rfl (xig (enc:=eS) rfl rfl rfl (fun _=>rfl) (.p rfl) (.p rfl) (fun _=>hm45)) (yfw 5 (by kernel_rfl) rfl rfl rfl rfl (ywe (p:=pS m45) rfl (.p rfl) rfl) (ybx 6 (by kernel_rfl) (ybs rfl rfl rfl rfl (ycg rfl rfl rfl rfl rfl (zic rfl zin) rfl rfl rfl rfl (fun b46=>ybx 7 (by kernel_rfl) ?_)))))))))
         refine ybs rfl rfl rfl rfl (ycm (enc:=eS) rfl rfl rfl rfl rfl rfl rfl rfl rfl zm0 (by exact zpt zph) hl48 (fun a49 c50=>?_))
         refine yfw 8 (by kernel_rfl) rfl rfl rfl rfl (ybz rfl rfl rfl rfl rfl (.p rfl)) (ybx 9 (by kernel_rfl) (ygc rfl rfl rfl (yaq (vs:=[pO a49 l48.length c50]) rfl rfl rfl rfl rfl (zut (zut zuh)) (zlt (zlt (zl1))) (ygb (by kernel_rfl) ?_))))
         exact yja (a49,c50) (zh7 rfl rfl rfl rfl rfl rfl rfl) (zsc (zpt (zpt (zpt zph))) (zsc (zpt (zpt zph)) (zsc (zpt (zpt zph)) (zs1)))) trivial
        skip
        refine xah rfl rfl rfl rfl rfl rfl (ykd hx44) (yfw 4 (by kernel_rfl) rfl rfl rfl rfl (xig (enc:=eS) rfl rfl rfl (fun _=>rfl) (.p rfl) (.p rfl) (fun _=>hm45)) (yfw 5 (by kernel_rfl) rfl rfl rfl rfl (ywe (p:=pS m45) rfl (.p rfl) rfl) ?_))
        refine ymj 1 6 (by kernel_rfl) ?_ ?_
        ·skip
         refine ybs rfl rfl rfl rfl (xcz (ydm (p:=pO a25 l24.length c26) rfl (.p rfl) zm1 rfl) (ybx 6 (by kernel_rfl) (ybs rfl rfl rfl rfl (ycg rfl rfl rfl rfl rfl (zic rfl zin) rfl rfl rfl rfl (fun b46=>ybx 7 (by kernel_rfl) ?_)))))
         refine ybs rfl rfl rfl rfl (ycm (enc:=eS) rfl rfl rfl rfl rfl rfl rfl rfl rfl zm0 (by exact zpt zph) hl48 (fun a49 c50=>?_))
         refine yfw 8 (by kernel_rfl) rfl rfl rfl rfl (ybz rfl rfl rfl rfl rfl (.p rfl)) (ybx 9 (by kernel_rfl) (ygc rfl rfl rfl (yaq (vs:=[pO a49 l48.length c50]) rfl rfl rfl rfl rfl (zut (zut zuh)) (zlt (zlt (zl1))) (ygb (by kernel_rfl) ?_))))
         exact yja (a49,c50) (zh7 rfl rfl rfl rfl rfl rfl rfl) (zsc (zpt (zpt (zpt zph))) (zsc (zpt (zpt zph)) (zsc (zpt (zpt zph)) (zs1)))) trivial
        skip
        refine ybs rfl rfl rfl rfl (ycg rfl rfl rfl rfl rfl (zic rfl zin) rfl rfl rfl rfl (fun b46=>ybx 1 (by kernel_rfl) (ybs rfl rfl rfl rfl (xcz (ydm (p:=pO a25 l24.length c26) rfl (.p rfl) zm2 rfl) (ybx 7 (by kernel_rfl) ?_)))))
        refine ybs rfl rfl rfl rfl (ycm (enc:=eS) rfl rfl rfl rfl rfl rfl rfl rfl rfl zm0 (by exact zpt zph) hl48 (fun a49 c50=>?_))
        refine yfw 8 (by kernel_rfl) rfl rfl rfl rfl (ybz rfl rfl rfl rfl rfl (.p rfl)) (ybx 9 (by kernel_rfl) (ygc rfl rfl rfl (yaq (vs:=[pO a49 l48.length c50]) rfl rfl rfl rfl rfl (zut (zut zuh)) (zlt (zlt (zl1))) (ygb (by kernel_rfl) ?_))))
        exact yja (a49,c50) (zh7 rfl rfl rfl rfl rfl rfl rfl) (zsc (zpt (zpt (zpt zph))) (zsc (zpt (zpt zph)) (zsc (zpt (zpt zph)) (zs1)))) trivial
       rintro ⟨a49,c50⟩ τ ρ1 hsub52 _;(try dsimp only at hsub52);dsimp only [pupds]
       refine yak ?_
       obtain rfl:=osi hq41
       exact yaw ((a49,c50),l48) (zh7 rfl rfl rfl rfl rfl rfl rfl) (PSub.trans (zs4) hsub52) rfl
      refine yah ?_
      refine yak ?_
      obtain rfl:=osi hq41
      exact yaw ((a25,c26),l24) (zh7 rfl rfl rfl rfl rfl rfl rfl) (zsc zph (zsc zph (zsc (zpt zph) (zs1)))) rfl
     rintro ⟨⟨a38,c39⟩,l40⟩ τ hz;(try dsimp only at hz);subst q41;(try dsimp only at hb32);dsimp only [pupds]
     refine yac [] [37,38] [(9,pI (IntKind.i64.wrap (v22+1)))] fo0 (by kernel_rfl) ?_
     exact ybd hb32 (a38,c39) (zh7 rfl rfl rfl rfl rfl rfl rfl) (zsc zph (zsc zph (zsc (zpt zph) (zs1))))
    refine yax ?_
    refine yao (yam hb32 (fun ht=>yan rfl ?_))
    exact yaw ((a25,c26),l24) (zh5 rfl rfl rfl rfl rfl) (zsc zph (zsc zph (zsc (zpt zph) (zs1)))) ht.symm
   rintro ⟨⟨a29,c30⟩,l31⟩ τ hz;(try dsimp only at hz);subst q33;(try dsimp only at hb15);dsimp only [pupds]
   refine yaa (yaa (yad hb15 fun x53 hx53 hb15=>yae (yal 4 [] [53,54] [(55,pB (decide (0<v8))),(56,pgv (decide (0<v8)) (pP b2 0))] fo0 (by kernel_rfl) ?_)))
   refine xam (yve rfl rfl rfl) rfl rfl rfl (by exact zph) (yqs (.g rfl) (yqs (.p rfl) (xdp))) (fun hc=>yaz (gdp_t hx53 hc)) (fun hc=>by rw [gdp_f hx53 hc]) ?_
   refine xdk (yve rfl rfl rfl) rfl rfl (xmg rfl (.g rfl) (.p rfl) rfl) (yda rfl rfl rfl (xmf rfl (.p rfl) (.p rfl) (.g rfl)) (yay (yab (yad hb15 fun q59 hq59 hb15=>?_))))
   refine yar (Y:=(Unit)×((List Int)×Int×(List Zh))) (fun (_,(l55,v56,l58))=>[(3,pP b2 0),(4,pO a6 l5.length c7),(5,pI v8),(6,pI (IntKind.i64.wrap (1+x3.1))),(7,pP b20 0)]) (fun (_,(l55,v56,l58))=>[PRes.b b2 86 [pL eI l55,pI v56],PRes.b b20 52 [pI (IntKind.i64.wrap (2+(IntKind.i64.wrap (5*v8)))),pI (IntKind.i64.wrap (1+x19.1)),pO a29 l31.length c30,pL Zh.enc l58],PRes.row a6 l5.length c7 52 4 (List.map Zc.enc l5),PRes.row a29 l31.length c30 9 1 (List.map eS l31)]) (fun (_,(l55,v56,l58))=>q59=(l55,v56,l58)) ?_ ?_
   ·skip
    refine zif rfl hq59 (fun hc60 hq59=>?_) fun hc60 hq59=>?_
    ·refine yad hq59 ?_;clear hq59;intro m61 hm61 hq59
     refine yae (yal 3 [] [61] [(60,pO a6 l5.length c7),(62,pI (IntKind.i64.wrap (v8 - 1)))] fo0 (by kernel_rfl) (yda rfl rfl rfl (yhc (enc:=Zc.enc) (xs:=l5) rfl rfl rfl (.p rfl) zm2 (.p rfl) (fun _=>hm61)) (yal 1 [] [] [(64,pP (ablk a6) ((IntKind.i64.wrap (v8 - 1)).toNat * 4+3))] fo0 (by kernel_rfl) (yda rfl rfl rfl (yei (sz:=4) (p:=pL Zh.enc m61.Rules) (enc:=Zc.enc) (xs:=l5) (a:=a6) (IntKind.i64.wrap (v8 - 1)) 3 m61 rfl (.p rfl) rfl zm2 (fun _=>hm61) rfl) (yal 1 [] [] [(66,pP b20 3)] fo0 (by kernel_rfl) (ybh rfl rfl (yaq (vs:=[pL Zh.enc m61.Rules]) rfl rfl rfl rfl rfl (zut zuh) (zlt (zlt (zlt (zl1)))) (yay ?_))))))))
     obtain rfl:=osi hq59
     exact yaw ((),(x53.2.L,x53.2.I,m61.Rules)) (zh5 rfl rfl rfl rfl rfl) (zs4) rfl
    refine yaa ?_
    refine yae (yav rfl rfl rfl (ycg rfl rfl rfl rfl rfl (zic rfl (zic rfl (zic rfl (zic rfl (zic rfl zin))))) rfl rfl rfl rfl (fun b62=>yap [] [] [(10,pO (some ⟨b62,0,none⟩) 5 5)] fo0 (by kernel_rfl) (yab (yaa (yad hq59 fun x64 hx64 hq59=>yae (yal 1 [] [] [(68,pP b2 0)] fo0 (by kernel_rfl) ?_)))))))
    refine yav rfl rfl rfl (ybn rfl rfl (ρ1:=[_]) (ybf (by exact zpt zph) (List.Perm.refl _)) (yaz hx64) ?_);rintro _ _ ⟨rfl,rfl⟩
    refine yap [] [70] [(11,pI (IntKind.i64.wrap (1+x64.1)))] fo0 (by kernel_rfl) (yab (yaa (yac [] [] [(12,pI 0)] fo0 (by kernel_rfl) (yab (ycn 93 8 (yad hq59 fun q81 hq81 hq59=>?_))))))
    refine yjh (Y:=(Option Addr×Nat)×((List Int)×Int×(List Zh))) (fun ((a77,c78),(l73,v74,l79))=>[(3,pP b2 0),(4,pO a6 l5.length c7),(5,pI v8),(6,pI (IntKind.i64.wrap (1+x3.1))),(7,pP b20 0)]) (fun ((a77,c78),(l73,v74,l79))=>[PRes.b b2 86 [pL eI l73,pI v74],PRes.b b20 52 [pI (IntKind.i64.wrap (2+(IntKind.i64.wrap (5*v8)))),pI (IntKind.i64.wrap (1+x19.1)),pO a29 l31.length c30,pO a77 l79.length c78],PRes.row a6 l5.length c7 52 4 (List.map Zc.enc l5),PRes.row a29 l31.length c30 9 1 (List.map eS l31),PRes.row a77 l79.length c78 93 8 (List.map Zh.enc l79)]) (fun ((a77,c78),(l73,v74,l79))=>q81=(l73,v74,l79)) ?_ ?_
    ·refine yaj ?_
     refine yat (Y:=Option Addr×Nat) (S:=Int×(List Int)×Int×(List Zh)) _ hq81 (fun (a70,c71) (v65,l66,v67,l69)=>[(3,pP b2 0),(4,pO a6 l5.length c7),(5,pI v8),(6,pI (IntKind.i64.wrap (1+x3.1))),(7,pP b20 0),(10,pO (some ⟨b62,0,none⟩) 5 5),(11,pI (IntKind.i64.wrap (1+x64.1))),(12,pI v65)]) (fun (a70,c71) (v65,l66,v67,l69)=>[PRes.b b2 86 [pL eI l66,pI v67],PRes.b b20 52 [pI (IntKind.i64.wrap (2+(IntKind.i64.wrap (5*v8)))),pI (IntKind.i64.wrap (1+x19.1)),pO a29 l31.length c30,pO a70 l69.length c71],PRes.row a6 l5.length c7 52 4 (List.map Zc.enc l5),PRes.row a29 l31.length c30 9 1 (List.map eS l31),PRes.row (some ⟨b62,0,none⟩) 5 5 9 1 (List.map eS [(⟨#[57,52]⟩:ByteArray),(⟨#[57,52,48,49]⟩:ByteArray),(⟨#[57,52,48,49,48,50]⟩:ByteArray),(⟨#[57,53]⟩:ByteArray),(⟨#[57,53,48,50]⟩:ByteArray)]),PRes.row a70 l69.length c71 93 8 (List.map Zh.enc l69)]) (none,0) (zh8 rfl rfl rfl rfl rfl rfl rfl rfl) (zsc (zpt zph) (zsc (zpt (zpt zph)) (zsc (zpt (zpt zph)) (zsc (zpt (zpt zph)) (zsc (zpt zph) (zs1)))))) ?_
     rintro ⟨a70,c71⟩ ⟨v65,l66,v67,l69⟩ o τ hb80;(try dsimp only at hb80);dsimp only [pupds]
     refine yaa (yaa (yac [] [71] [(72,pB (decide (v65<5)))] fo0 (by kernel_rfl) (yab (zif rfl hb80 (fun hc83 hb80=>?_) fun hc83 hb80=>?_))))
     ·refine yah ?_
      refine yab (yaa (yad hb80 fun q93 hq93 hb80=>?_))
      refine yar (Y:=(Option Addr×Nat)×((List Int)×Int×(List Zh))) (fun ((a90,c91),(l86,v87,l92))=>[(3,pP b2 0),(4,pO a6 l5.length c7),(5,pI v8),(6,pI (IntKind.i64.wrap (1+x3.1))),(7,pP b20 0),(10,pO (some ⟨b62,0,none⟩) 5 5),(11,pI (IntKind.i64.wrap (1+x64.1))),(12,pI v65)]) (fun ((a90,c91),(l86,v87,l92))=>[PRes.b b2 86 [pL eI l86,pI v87],PRes.b b20 52 [pI (IntKind.i64.wrap (2+(IntKind.i64.wrap (5*v8)))),pI (IntKind.i64.wrap (1+x19.1)),pO a29 l31.length c30,pO a90 l92.length c91],PRes.row a6 l5.length c7 52 4 (List.map Zc.enc l5),PRes.row (some ⟨b62,0,none⟩) 5 5 9 1 (List.map eS [(⟨#[57,52]⟩:ByteArray),(⟨#[57,52,48,49]⟩:ByteArray),(⟨#[57,52,48,49,48,50]⟩:ByteArray),(⟨#[57,53]⟩:ByteArray),(⟨#[57,53,48,50]⟩:ByteArray)]),PRes.row a29 l31.length c30 9 1 (List.map eS l31),PRes.row a90 l92.length c91 93 8 (List.map Zh.enc l92)]) (fun ((a90,c91),(l86,v87,l92))=>q93=(l86,v87,l92)) ?_ ?_
      ·skip
       refine yaj (yaa (yad hq93 fun u94 hu94 hq93=>yac [] [75,76,77,78] [(79,pB ((iand .i64 (ishr .i64 (IntKind.i64.wrap (1+x64.1)) v65) 1) == 1))] (xlh 2 hu94 fo0) (by kernel_rfl) (yab (zif rfl hq93 (fun hc95 hq93=>?_) fun hc95 hq93=>?_))))
       ·refine yad hq93 ?_;clear hq93;intro m96 hm96 hq93
        refine yad hq93 fun x97 hx97 hq93=>yad hq93 fun l100 hl100 hq93=>?_
        refine yjh (Y:=Option Addr×Nat) (fun (a101,c102)=>[(3,pP b2 0),(4,pO a6 l5.length c7),(5,pI v8),(6,pI (IntKind.i64.wrap (1+x3.1))),(7,pP b20 0),(10,pO (some ⟨b62,0,none⟩) 5 5),(11,pI (IntKind.i64.wrap (1+x64.1))),(12,pI v65)]) (fun (a101,c102)=>[PRes.b b2 86 [pL eI x97.2.L,pI x97.2.I],PRes.b b20 52 [pI (IntKind.i64.wrap (2+(IntKind.i64.wrap (5*v8)))),pI (IntKind.i64.wrap (1+x19.1)),pO a29 l31.length c30,pO a101 l100.length c102],PRes.row a101 l100.length c102 93 8 (List.map Zh.enc l100),PRes.row a6 l5.length c7 52 4 (List.map Zc.enc l5),PRes.row a29 l31.length c30 9 1 (List.map eS l31),PRes.row (some ⟨b62,0,none⟩) 5 5 9 1 (List.map eS [(⟨#[57,52]⟩:ByteArray),(⟨#[57,52,48,49]⟩:ByteArray),(⟨#[57,52,48,49,48,50]⟩:ByteArray),(⟨#[57,53]⟩:ByteArray),(⟨#[57,53,48,50]⟩:ByteArray)])]) (fun _=>True) ?_ ?_
        ·refine ypu (ρd:=[PRes.b b2 _ _,PRes.row a70 _ _ _ _ _,PRes.b b20 _ _]) _ (ybf zph (ybf (zpt (zpt (zpt (zpt zph)))) (List.Perm.refl _))) ?_
         refine yfw 0 (by kernel_rfl) rfl rfl rfl rfl (ybz rfl rfl rfl rfl rfl (.p rfl)) (yfw 2 (by kernel_rfl) rfl rfl rfl rfl (yix (p:=pO (some ⟨b62,0,none⟩) 5 5) rfl (.p rfl)) (yfw 3 (by kernel_rfl) rfl rfl rfl rfl (yix (p:=pI v65) rfl (.p rfl)) (yfw 4 (by kernel_rfl) rfl rfl rfl rfl (yhc (enc:=eS) (xs:=[(⟨#[57,52]⟩:ByteArray),(⟨#[57,52,48,49]⟩:ByteArray),(⟨#[57,52,48,49,48,50]⟩:ByteArray),(⟨#[57,53]⟩:ByteArray),(⟨#[57,53,48,50]⟩:ByteArray)]) rfl rfl rfl (.p rfl) zm2 (.p rfl) (fun _=>hm96)) (yfw 5 (by kernel_rfl) rfl rfl rfl rfl (yei (sz:=1) (p:=pS m96) (enc:=eS) (xs:=[(⟨#[57,52]⟩:ByteArray),(⟨#[57,52,48,49]⟩:ByteArray),(⟨#[57,52,48,49,48,50]⟩:ByteArray),(⟨#[57,53]⟩:ByteArray),(⟨#[57,53,48,50]⟩:ByteArray)]) (a:=(some ⟨b62,0,none⟩)) v65 0 m96 rfl (.p rfl) rfl zm2 (fun _=>hm96) rfl) (yfw 6 (by kernel_rfl) rfl rfl rfl rfl (yix (p:=pP b2 0) rfl (.p rfl)) ?_)))))
         refine ymj 1 7 (by kernel_rfl) ?_ ?_
         ·skip
          refine ybs rfl rfl rfl rfl (xcz (ydm (p:=pO a70 l69.length c71) rfl (.p rfl) zm2 rfl) (ybx 7 (by kernel_rfl) ?_))
          refine ybs rfl rfl rfl rfl (ybn rfl rfl (ρ1:=[_]) (ybf (by exact zph) (List.Perm.refl _)) (ymm hx97) ?_);rintro _ _ ⟨rfl,rfl⟩
          refine yfw 8 (by kernel_rfl) rfl rfl rfl rfl (ywh (cs:=[pS m96,pI x97.1.Kind,pI x97.1.Digits,pL eS x97.1.Except,pI x97.1.Tolerance,pI x97.1.Limit,pS x97.1.Name,pL Zb.enc x97.1.Args]) rfl rfl rfl rfl rfl rfl rfl (zfc rfl rfl rfl rfl (zl1) (zfc rfl rfl rfl rfl (zlt (zl7)) zfn))) (ybx 9 (by kernel_rfl) (ybs rfl rfl rfl rfl (ycg rfl rfl rfl rfl rfl (zic rfl zin) rfl rfl rfl rfl (fun b98=>ybx 10 (by kernel_rfl) ?_))))
          refine ybs rfl rfl rfl rfl (ycm (enc:=Zh.enc) rfl rfl rfl rfl rfl rfl rfl rfl rfl zm0 (by exact zpt (zpt zph)) hl100 (fun a101 c102=>?_))
          refine yfw 11 (by kernel_rfl) rfl rfl rfl rfl (ybz rfl rfl rfl rfl rfl (.p rfl)) (ybx 12 (by kernel_rfl) (ygc rfl rfl rfl (yaq (vs:=[pO a101 l100.length c102]) rfl rfl rfl rfl rfl (zut (zut (zut zuh))) (zlt (zlt (zlt (zl1)))) (ygb (by kernel_rfl) ?_))))
          exact yja (a101,c102) (zh8 rfl rfl rfl rfl rfl rfl rfl rfl) (zsc (zpt (zpt zph)) (zsc (zpt (zpt zph)) (zsc zph (zsc (zpt zph) (zsc (zpt zph) (zsc (zpt zph) zsn)))))) trivial
         skip
         refine ybs rfl rfl rfl rfl (ybn rfl rfl (ρ1:=[_]) (ybf (by exact zph) (List.Perm.refl _)) (ymm hx97) ?_);rintro _ _ ⟨rfl,rfl⟩
         refine yfw 8 (by kernel_rfl) rfl rfl rfl rfl (ywh (cs:=[pS m96,pI x97.1.Kind,pI x97.1.Digits,pL eS x97.1.Except,pI x97.1.Tolerance,pI x97.1.Limit,pS x97.1.Name,pL Zb.enc x97.1.Args]) rfl rfl rfl rfl rfl rfl rfl (zfc rfl rfl rfl rfl (zl1) (zfc rfl rfl rfl rfl (zlt (zl7)) zfn))) ?_
         refine ymj 1 9 (by kernel_rfl) ?_ ?_
         ·skip
          refine ybs rfl rfl rfl rfl (xcz (ydm (p:=pO a70 l69.length c71) rfl (.p rfl) zm2 rfl) (ybx 9 (by kernel_rfl) (ybs rfl rfl rfl rfl (ycg rfl rfl rfl rfl rfl (zic rfl zin) rfl rfl rfl rfl (fun b98=>ybx 10 (by kernel_rfl) ?_)))))
          refine ybs rfl rfl rfl rfl (ycm (enc:=Zh.enc) rfl rfl rfl rfl rfl rfl rfl rfl rfl zm0 (by exact zpt (zpt zph)) hl100 (fun a101 c102=>?_))
          refine yfw 11 (by kernel_rfl) rfl rfl rfl rfl (ybz rfl rfl rfl rfl rfl (.p rfl)) (ybx 12 (by kernel_rfl) (ygc rfl rfl rfl (yaq (vs:=[pO a101 l100.length c102]) rfl rfl rfl rfl rfl (zut (zut (zut zuh))) (zlt (zlt (zlt (zl1)))) (ygb (by kernel_rfl) ?_))))
          exact yja (a101,c102) (zh8 rfl rfl rfl rfl rfl rfl rfl rfl) (zsc (zpt (zpt zph)) (zsc (zpt (zpt zph)) (zsc zph (zsc (zpt zph) (zsc (zpt zph) (zsc (zpt zph) zsn)))))) trivial
         skip
         refine ybs rfl rfl rfl rfl (ycg rfl rfl rfl rfl rfl (zic rfl zin) rfl rfl rfl rfl (fun b98=>ybx 1 (by kernel_rfl) (ybs rfl rfl rfl rfl (xcz (ydm (p:=pO a70 l69.length c71) rfl (.p rfl) zm3 rfl) (ybx 10 (by kernel_rfl) ?_)))))
         refine ybs rfl rfl rfl rfl (ycm (enc:=Zh.enc) rfl rfl rfl rfl rfl rfl rfl rfl rfl zm0 (by exact zpt (zpt zph)) hl100 (fun a101 c102=>?_))
         refine yfw 11 (by kernel_rfl) rfl rfl rfl rfl (ybz rfl rfl rfl rfl rfl (.p rfl)) (ybx 12 (by kernel_rfl) (ygc rfl rfl rfl (yaq (vs:=[pO a101 l100.length c102]) rfl rfl rfl rfl rfl (zut (zut (zut zuh))) (zlt (zlt (zlt (zl1)))) (ygb (by kernel_rfl) ?_))))
         exact yja (a101,c102) (zh8 rfl rfl rfl rfl rfl rfl rfl rfl) (zsc (zpt (zpt zph)) (zsc (zpt (zpt zph)) (zsc zph (zsc (zpt zph) (zsc (zpt zph) (zsc (zpt zph) zsn)))))) trivial
        rintro ⟨a101,c102⟩ τ ρ1 hsub104 _;(try dsimp only at hsub104);dsimp only [pupds]
        refine yak ?_
        obtain rfl:=osi hq93
        exact yaw ((a101,c102),(x97.2.L,x97.2.I,l100)) (zh8 rfl rfl rfl rfl rfl rfl rfl rfl) (PSub.trans (zsc zph (zsc zph (zsc (zpt zph) (zsc (zpt (zpt zph)) (zsc (zpt zph) (zs1)))))) hsub104) rfl
       refine yah ?_
       refine yak ?_
       obtain rfl:=osi hq93
       exact yaw ((a70,c71),(l66,v67,l69)) (zh8 rfl rfl rfl rfl rfl rfl rfl rfl) (zsc zph (zsc zph (zsc zph (zsc (zpt zph) (zs2))))) rfl
      rintro ⟨⟨a90,c91⟩,⟨l86,v87,l92⟩⟩ τ hz;(try dsimp only at hz);subst q93;(try dsimp only at hb80);dsimp only [pupds]
      refine yac [] [73,74] [(12,pI (IntKind.i64.wrap (v65+1)))] fo0 (by kernel_rfl) ?_
      exact ybd hb80 (a90,c91) (zh8 rfl rfl rfl rfl rfl rfl rfl rfl) (zsc zph (zsc zph (zsc zph (zsc (zpt zph) (zs2)))))
     refine yax ?_
     refine yao (yam hb80 (fun ht=>yan rfl ?_))
     exact yja ((a70,c71),(l66,v67,l69)) (zh5 rfl rfl rfl rfl rfl) (zsc zph (zsc zph (zsc zph (zsc zph (zsc (zpt zph) zsn))))) ht.symm
    rintro ⟨⟨a77,c78⟩,⟨l73,v74,l79⟩⟩ τ ρ1 hsub105 hz;(try dsimp only at hz hsub105);subst q81;(try dsimp only at hq59);dsimp only [pupds]
    refine yqq (cov_sub hsub105) ?_
    refine yqq (cov_frz (css:=List.map Zh.enc l79) (a:=a77) (by exact zpt (zpt (zpt (zpt zph))))) ?_
    refine yqq (xmm (k:=3) (enc:=Zh.enc) (xs:=l79) (b:=b20) (a:=a77) rfl zm0 (zut (zut zuh))) ?_
    obtain rfl:=osi hq59
    exact yaw ((),(l73,v74,l79)) (zh5 rfl rfl rfl rfl rfl) (zsc (zpt zph) (zsc (zpt zph) (zsc (zpt zph) (zsc (zpt zph) zsn)))) rfl
   rintro ⟨_,⟨l55,v56,l58⟩⟩ τ hz;(try dsimp only at hz);subst q59;(try dsimp only at hb15);dsimp only [pupds]
   refine yae (yal 1 [] [] [(92,pO a6 l5.length c7)] fo0 (by kernel_rfl) ?_)
   refine yop (css:=List.map eS l31) (a:=a29) (by exact zpt (zpt (zpt zph))) ?_
   refine ykq (k:=2) (enc:=eS) (xs:=l31) (b:=b20) (a:=a29) rfl zm0 (zut (zut zuh)) (yal 1 [2] [] [(93,.agg [pI (IntKind.i64.wrap (2+(IntKind.i64.wrap (5*v8)))),pI (IntKind.i64.wrap (1+x19.1)),pL eS l31,pL Zh.enc l58])] fo0 (by kernel_rfl) (yav rfl rfl rfl (ycg rfl rfl rfl rfl rfl (zic rfl zin) rfl rfl rfl rfl (fun b106=>yad hb15 fun l108 hl108 hb15=>?_))))
   refine yav rfl rfl rfl (ycm (enc:=Zc.enc) rfl rfl rfl rfl rfl rfl rfl rfl rfl zm0 (by exact zpt (zpt (zpt (zpt zph)))) hl108 (fun a109 c110=>?_))
   refine yap [] [] [(4,pO a109 l108.length c110)] fo0 (by kernel_rfl) (yak (yab (yac [] [23,24] [(5,pI (IntKind.i64.wrap (v8+1)))] fo0 (by kernel_rfl) ?_)))
   exact ybd hb15 (a109,c110) (zh4 rfl rfl rfl rfl) (zsc (zpt (zpt (zpt zph))) (zs1))
  refine yax ?_
  refine yao (yam hb15 (fun ht=>yan rfl ?_))
  exact yaw ((a6,c7),l5) (zh1 rfl) (zsc (zpt zph) zsn) ht.symm
 rintro ⟨⟨a12,c13⟩,l14⟩ τ hz;(try dsimp only at hz);subst q16;(try dsimp only at h);dsimp only [pupds]
 refine yaa (yac [] [96] [(2,pO a12 l14.length c13)] fo0 (by kernel_rfl) (yab (yai ?_)))
 obtain rfl:=osi h
 exact ybe (ygg (ybi rfl)) (zs1) ⟨_,_,rfl,rfl⟩
def yjj (p0:Int):Option ByteArray:=Option.bind (yiy p0 8) (fun x3=>Option.bind (idx [(⟨#[66,66]⟩:ByteArray),(⟨#[66,66]⟩:ByteArray),(⟨#[66,66]⟩:ByteArray),(⟨#[65,65]⟩:ByteArray),(⟨#[67,67]⟩:ByteArray),(⟨#[68,68]⟩:ByteArray),(⟨#[69,69]⟩:ByteArray),(⟨#[70,70]⟩:ByteArray)] x3) (fun m4=>some m4))
theorem yuv {p0:Int} {r:ByteArray}  (h:yjj p0=some r):PF 17 [pI p0] (pS r):=by
 unfold yjj at h
 refine ybp ?_
 refine ybb Tryz.func17 fk17 rfl Tryz.ntmps17 Tryz.results17 rfl (yaa (yac [] [2] [] fo0 (by kernel_rfl) (yab (yaa (yae (yav rfl rfl rfl (ycg rfl rfl rfl rfl rfl (zic rfl (zic rfl (zic rfl (zic rfl (zic rfl (zic rfl (zic rfl (zic rfl zin)))))))) rfl rfl rfl rfl (fun b1=>yad h fun x3 hx3 h=>yad h fun m4 hm4 h=>yal 2 [] [4] [(5,pI x3)] (ycs 1 (yri hx3) fo0) (by kernel_rfl) (yda rfl rfl rfl (yhc (enc:=eS) (xs:=[(⟨#[66,66]⟩:ByteArray),(⟨#[66,66]⟩:ByteArray),(⟨#[66,66]⟩:ByteArray),(⟨#[65,65]⟩:ByteArray),(⟨#[67,67]⟩:ByteArray),(⟨#[68,68]⟩:ByteArray),(⟨#[69,69]⟩:ByteArray),(⟨#[70,70]⟩:ByteArray)]) rfl rfl rfl (.p rfl) zm0 (.p rfl) (fun _=>hm4)) (yda rfl rfl rfl (yei (sz:=1) (p:=pS m4) (enc:=eS) (xs:=[(⟨#[66,66]⟩:ByteArray),(⟨#[66,66]⟩:ByteArray),(⟨#[66,66]⟩:ByteArray),(⟨#[65,65]⟩:ByteArray),(⟨#[67,67]⟩:ByteArray),(⟨#[68,68]⟩:ByteArray),(⟨#[69,69]⟩:ByteArray),(⟨#[70,70]⟩:ByteArray)]) (a:=(some ⟨b1,0,none⟩)) x3 0 m4 rfl (.p rfl) rfl zm0 (fun _=>hm4) rfl) (yap [] [] [(2,pS m4)] fo0 (by kernel_rfl) (yab (yai ?_)))))))))))))
 obtain rfl:=osi h
 exact zq rfl ⟨rfl,rfl⟩
def yef (p0:(List Za)) (p1:Za):Option Bool:=Option.bind (loopF (S:=Int) (T:=(Unit)⊕(_)) (fun v2=>cond (decide (v2<(p0.length:Int))) (Option.bind (idx p0 v2) (fun m6=>cond (Za.eqb m6 p1) (some (.inr (.inr true))) (some (.inl (IntKind.i64.wrap (v2+1)))))) (some (.inr (.inl ())))) FUEL 0) (fun q=>match q with | .inl _=>some false | .inr e=>some e)
theorem yke {p0:(List Za)} {p1:Za} {r:Bool}  (h:yef p0 p1=some r):PF 39 [pL Za.enc p0,.agg [pI p1.Product,pI p1.Agreement]] (pB r):=by
 unfold yef at h
 refine ybp ?_
 refine ybb Tryz.func39 fk39 rfl Tryz.ntmps39 Tryz.results39 rfl (yaa (yae (yav rfl rfl rfl (ybt (cs:=[pI p1.Product,pI p1.Agreement]) rfl rfl (fun b1=>yap [] [4] [] fo0 (by kernel_rfl) (yab (yaa (yaa (yac [] [] [(5,pI 0)] fo0 (by kernel_rfl) (yab (yad h fun q4 hq4 h=>?_)))))))))))
 refine yar (Y:=(Unit)×(Unit)) (fun (_,_)=>[]) (fun (_,_)=>[]) (fun (_,_)=>q4=Sum.inl ()) ?_ ?_
 ·refine yaj ?_
  refine yat (Y:=Unit) (S:=Int) _ hq4 (fun _ v2=>[(0,pL Za.enc p0),(3,pP b1 0),(5,pI v2)]) (fun _ v2=>[PRes.b b1 54 [pI p1.Product,pI p1.Agreement]]) () (zh3 rfl rfl rfl) (zs1) ?_
  rintro _ v2 o τ hb3;(try dsimp only at hb3);dsimp only [pupds]
  refine yaa (yaa (yac [] [6,7,8] [(9,pB (decide (v2<(p0.length:Int))))] fo0 (by kernel_rfl) (yab (zif rfl hb3 (fun hc5 hb3=>?_) fun hc5 hb3=>?_))))
  ·refine yah ?_
   refine yab (yaa (yaj (yaa (ybr (ρd:=[]) [(0,0),(1,0),(2,0),(3,0),(4,0),(5,0)] _ (List.Perm.refl _) (by kernel_rfl) rfl (yad hb3 fun m6 hm6 hb3=>ybl 6 [0] (rg 12 5) [(17,pB (Za.eqb m6 p1))] (ygt 2 Za.enc hm6 (foeq 5 Za.eqok54 fo0)) (by kernel_rfl) (ycd (yab (zif rfl hb3 (fun hc7 hb3=>?_) fun hc7 hb3=>?_))))))))
   ·refine yaa ?_
    refine yac [] [] [(4,pB true)] fo0 (by kernel_rfl) (yab (yai (yaf (yag ?_))))
    refine yas hb3 (fun ht=>?_);subst ht
    refine yaf (yau ?_)
    obtain rfl:=osi h
    exact zq rfl ⟨rfl,rfl⟩
   refine yah ?_
   refine yak (yab (yac [] [10,11] [(5,pI (IntKind.i64.wrap (v2+1)))] fo0 (by kernel_rfl) ?_))
   exact ybd hb3 () (zh3 rfl rfl rfl) (zs1)
  refine yax ?_
  refine yao (yam hb3 (fun ht=>yan rfl ?_))
  exact yaw ((),()) zhn zsn ht.symm
 rintro ⟨_,_⟩ τ hz;(try dsimp only at hz);subst q4;(try dsimp only at h);dsimp only [pupds]
 refine yaa (yac [] [] [(4,pB false)] fo0 (by kernel_rfl) (yab (yai ?_)))
 obtain rfl:=osi h
 exact zq rfl ⟨rfl,rfl⟩
def yey (p0:ByteArray):Option Bool:=Option.bind (gd ((p0.size:Int) == 2) (idx p0.data.toList 0)) (fun c1=>Option.bind (gd (((p0.size:Int) == 2)&&(decide (65≤(c1.toNat:Int)))) (idx p0.data.toList 0)) (fun c2=>Option.bind (gd ((((p0.size:Int) == 2)&&(decide (65≤(c1.toNat:Int))))&&(decide ((c2.toNat:Int)≤90))) (idx p0.data.toList 1)) (fun c3=>Option.bind (gd (((((p0.size:Int) == 2)&&(decide (65≤(c1.toNat:Int))))&&(decide ((c2.toNat:Int)≤90)))&&(decide (65≤(c3.toNat:Int)))) (idx p0.data.toList 1)) (fun c4=>some ((((((p0.size:Int) == 2)&&(decide (65≤(c1.toNat:Int))))&&(decide ((c2.toNat:Int)≤90)))&&(decide (65≤(c3.toNat:Int))))&&(decide ((c4.toNat:Int)≤90)))))))
theorem yle {p0:ByteArray} {r:Bool}  (h:yey p0=some r):PF 50 [pS p0] (pB r):=by
 unfold yey at h
 refine ybp ?_
 refine ybb Tryz.func50 fk50 rfl Tryz.ntmps50 Tryz.results50 rfl (yaa (yac [] [2] [] fo0 (by kernel_rfl) (yab (yaa (yad h fun c1 hc1 h=>yad h fun c2 hc2 h=>yad h fun c3 hc3 h=>yad h fun c4 hc4 h=>yac [] (rg 3 23) [(2,pB ((((((p0.size:Int) == 2)&&(decide (65≤(c1.toNat:Int))))&&(decide ((c2.toNat:Int)≤90)))&&(decide (65≤(c3.toNat:Int))))&&(decide ((c4.toNat:Int)≤90))))] (xdu 5 (yfz hc1) (xdu 10 (yfz hc2) (xdu 15 (yfz hc3) (xdu 20 (yfz hc4) fo0)))) (by kernel_rfl) (yab (yai ?_)))))))
 obtain rfl:=osi h
 exact zq rfl ⟨rfl,rfl⟩
def ygh (p0:(List Zd)) (p1:Int):Option (Zd×Bool):=Option.bind (loopF (S:=Int) (T:=(Unit)⊕(_)) (fun v2=>cond (decide (v2<(p0.length:Int))) (Option.bind (idx p0 v2) (fun m6=>cond (m6.ID == p1) (Option.bind (idx p0 v2) (fun m8=>some (.inr (.inr (m8,true))))) (some (.inl (IntKind.i64.wrap (v2+1)))))) (some (.inr (.inl ())))) FUEL 0) (fun q=>match q with | .inl _=>some ((⟨0,ByteArray.empty,ByteArray.empty,0,false,[],[]⟩:Zd),false) | .inr e=>some e)
theorem yjk {p0:(List Zd)} {p1:Int} {r:(Zd×Bool)}  (h:ygh p0 p1=some r):PF 61 [pL Zd.enc p0,pI p1] (.tup [.agg [pI r.1.ID,pS r.1.Code,pS r.1.Country,pI r.1.Price,pB r.1.Obtained,pL eS r.1.Processes,pL Zf.enc r.1.Inputs],pB r.2]):=by
 unfold ygh at h
 refine ybp ?_
 refine ybb Tryz.func61 fk61 rfl Tryz.ntmps61 Tryz.results61 rfl (yaa (yae (yav rfl rfl rfl (yba (cs:=[pI 0,pS ByteArray.empty,pS ByteArray.empty,pI 0,pB false,pN,pN]) rfl rfl rfl rfl (fun b1=>yap [] [5] [] fo0 (by kernel_rfl) (yab (yaa (yaa (yac [] [] [(6,pI 0)] fo0 (by kernel_rfl) (yab (yad h fun q4 hq4 h=>?_)))))))))))
 refine yar (Y:=(Unit)×(Unit)) (fun (_,_)=>[(4,pP b1 0)]) (fun (_,_)=>[PRes.b b1 46 [pI 0,pS ByteArray.empty,pS ByteArray.empty,pI 0,pB false,pN,pN]]) (fun (_,_)=>q4=Sum.inl ()) ?_ ?_
 ·refine yaj ?_
  refine yat (Y:=Unit) (S:=Int) _ hq4 (fun _ v2=>[(0,pL Zd.enc p0),(1,pI p1),(4,pP b1 0),(6,pI v2)]) (fun _ v2=>[PRes.b b1 46 [pI 0,pS ByteArray.empty,pS ByteArray.empty,pI 0,pB false,pN,pN]]) () (zh4 rfl rfl rfl rfl) (zs1) ?_
  rintro _ v2 o τ hb3;(try dsimp only at hb3);dsimp only [pupds]
  refine yaa (yaa (yac [] [7,8,9] [(10,pB (decide (v2<(p0.length:Int))))] fo0 (by kernel_rfl) (yab (zif rfl hb3 (fun hc5 hb3=>?_) fun hc5 hb3=>?_))))
  ·refine yah ?_
   refine yab (yaa (yaj (yaa (yad hb3 fun m6 hm6 hb3=>yac [] (rg 13 6) [(19,pB (m6.ID == p1))] (ygt 2 Zd.enc hm6 fo0) (by kernel_rfl) (yab (zif rfl hb3 (fun hc7 hb3=>?_) fun hc7 hb3=>?_))))))
   ·refine yaa ?_
    refine yad hb3 fun m8 hm8 hb3=>yae (yal 4 [] [20,21,22] [(23,.agg [pI m8.ID,pS m8.Code,pS m8.Country,pI m8.Price,pB m8.Obtained,pL eS m8.Processes,pL Zf.enc m8.Inputs])] (ygt 2 Zd.enc hm8 fo0) (by kernel_rfl) (ybh rfl rfl (yaq (vs:=[pI m8.ID,pS m8.Code,pS m8.Country,pI m8.Price,pB m8.Obtained,pL eS m8.Processes,pL Zf.enc m8.Inputs]) rfl rfl rfl rfl rfl zuh (zl7) (yap [] [] [(5,pB true)] fo0 (by kernel_rfl) (yab (yai (yaf (yag ?_))))))))
    refine yas hb3 (fun ht=>?_);subst ht
    refine yaf (yau ?_)
    obtain rfl:=osi h
    exact ybe (yee (yfi rfl zm0 rfl) (ybi rfl)) zsn ⟨rfl,rfl⟩
   refine yah ?_
   refine yak (yab (yac [] [11,12] [(6,pI (IntKind.i64.wrap (v2+1)))] fo0 (by kernel_rfl) ?_))
   exact ybd hb3 () (zh4 rfl rfl rfl rfl) (zs1)
  refine yax ?_
  refine yao (yam hb3 (fun ht=>yan rfl ?_))
  exact yaw ((),()) (zh1 rfl) (zs1) ht.symm
 rintro ⟨_,_⟩ τ hz;(try dsimp only at hz);subst q4;(try dsimp only at h);dsimp only [pupds]
 refine yaa (yae (yal 1 [] [] [(24,.agg [pI 0,pS ByteArray.empty,pS ByteArray.empty,pI 0,pB false,pN,pN])] fo0 (by kernel_rfl) (ybh rfl rfl (yaq (vs:=[pI 0,pS ByteArray.empty,pS ByteArray.empty,pI 0,pB false,pN,pN]) rfl rfl rfl rfl rfl zuh (zl7) (yap [] [] [(5,pB false)] fo0 (by kernel_rfl) (yab (ydn (k:=5) (b:=b1) rfl zuh (ydn (k:=6) (b:=b1) rfl zuh (yai ?_)))))))))
 obtain rfl:=osi h
 exact ybe (yee (yfi rfl zm0 rfl) (ybi rfl)) zsn ⟨rfl,rfl⟩
def ygy (p0:ByteArray):Option Int:=Option.bind (loopF (S:=Int) (T:=(Unit)⊕(_)) (fun v1=>cond (decide (v1<(p0.size:Int))) (Option.bind (idx p0.data.toList v1) (fun c5=>Option.bind (gd (!(decide ((c5.toNat:Int)<48))) (idx p0.data.toList v1)) (fun c6=>cond ((decide ((c5.toNat:Int)<48))||(decide (57<(c6.toNat:Int)))) (some (.inr (.inr (0:Int)))) (some (.inl (IntKind.i64.wrap (v1+1))))))) (some (.inr (.inl ())))) FUEL 0) (fun q=>match q with | .inl _=>cond ((decide (8<(p0.size:Int)))||((Int.tmod (p0.size:Int) 2) == 1)) (some (0:Int)) (some (p0.size:Int)) | .inr e=>some e)
theorem ynk {p0:ByteArray} {r:Int}  (h:ygy p0=some r):PF 88 [pS p0] (pI r):=by
 unfold ygy at h
 refine ybp ?_
 refine ybb Tryz.func88 fk88 rfl Tryz.ntmps88 Tryz.results88 rfl (yaa (yac [] [2] [] fo0 (by kernel_rfl) (yab (yaa (yaa (yac [] [] [(3,pI 0)] fo0 (by kernel_rfl) (yab (yad h fun q3 hq3 h=>?_))))))))
 refine yar (Y:=(Unit)×(Unit)) (fun (_,_)=>[(0,pS p0)]) (fun (_,_)=>[]) (fun (_,_)=>q3=Sum.inl ()) ?_ ?_
 ·refine yaj ?_
  refine yat (Y:=Unit) (S:=Int) _ hq3 (fun _ v1=>[(0,pS p0),(3,pI v1)]) (fun _ v1=>[]) () (zh2 rfl rfl) zsn ?_
  rintro _ v1 o τ hb2;(try dsimp only at hb2);dsimp only [pupds]
  refine yaa (yaa (yac [] [4,5,6] [(7,pB (decide (v1<(p0.size:Int))))] fo0 (by kernel_rfl) (yab (zif rfl hb2 (fun hc4 hb2=>?_) fun hc4 hb2=>?_))))
  ·refine yah ?_
   refine yab (yaa (yaj (yaa (yad hb2 fun c5 hc5 hb2=>yad hb2 fun c6 hc6 hb2=>yac [] (rg 10 9) [(19,pB ((decide ((c5.toNat:Int)<48))||(decide (57<(c6.toNat:Int)))))] (fosx 2 hc5 (xdu 7 (yfz hc6) fo0)) (by kernel_rfl) (yab (zif rfl hb2 (fun hc7 hb2=>?_) fun hc7 hb2=>?_))))))
   ·refine yaa ?_
    refine yac [] [] [(2,pI 0)] fo0 (by kernel_rfl) (yab (yai (yaf (yag ?_))))
    refine yas hb2 (fun ht=>?_);subst ht
    refine yaf (yau ?_)
    obtain rfl:=osi h
    exact zq rfl ⟨rfl,rfl⟩
   refine yah ?_
   refine yak (yab (yac [] [8,9] [(3,pI (IntKind.i64.wrap (v1+1)))] fo0 (by kernel_rfl) ?_))
   exact ybd hb2 () (zh2 rfl rfl) zsn
  refine yax ?_
  refine yao (yam hb2 (fun ht=>yan rfl ?_))
  exact yaw ((),()) (zh1 rfl) zsn ht.symm
 rintro ⟨_,_⟩ τ hz;(try dsimp only at hz);subst q3;(try dsimp only at h);dsimp only [pupds]
 refine yaa (yaa (yac [] (rg 20 8) [(28,pB ((decide (8<(p0.size:Int)))||((Int.tmod (p0.size:Int) 2) == 1)))] fo0 (by kernel_rfl) (yab (zif rfl h (fun hc8 h=>?_) fun hc8 h=>?_))))
 ·refine yaa ?_
  refine yac [] [] [(2,pI 0)] fo0 (by kernel_rfl) (yab (yai (yag ?_)))
  obtain rfl:=osi h
  exact zq rfl ⟨rfl,rfl⟩
 refine yah ?_
 refine yab (yaa (yac [] [29,30] [(2,pI (p0.size:Int))] fo0 (by kernel_rfl) (yab (yai ?_))))
 obtain rfl:=osi h
 exact zq rfl ⟨rfl,rfl⟩
def yly (p0:ByteArray):Option Bool:=Option.bind (loopF (S:=Int) (T:=(Unit)⊕(_)) (fun v1=>cond (decide (v1<(p0.size:Int))) (Option.bind (idx p0.data.toList v1) (fun c5=>Option.bind (gd (!(decide ((c5.toNat:Int)<97))) (idx p0.data.toList v1)) (fun c6=>cond ((decide ((c5.toNat:Int)<97))||(decide (122<(c6.toNat:Int)))) (some (.inr (.inr false))) (some (.inl (IntKind.i64.wrap (v1+1))))))) (some (.inr (.inl ())))) FUEL 0) (fun q=>match q with | .inl _=>some ((decide (1≤(p0.size:Int)))&&(decide ((p0.size:Int)≤12))) | .inr e=>some e)
theorem yss {p0:ByteArray} {r:Bool}  (h:yly p0=some r):PF 129 [pS p0] (pB r):=by
 unfold yly at h
 refine ybp ?_
 refine ybb Tryz.func129 fk129 rfl Tryz.ntmps129 Tryz.results129 rfl (yaa (yac [] [2] [] fo0 (by kernel_rfl) (yab (yaa (yaa (yac [] [] [(3,pI 0)] fo0 (by kernel_rfl) (yab (yad h fun q3 hq3 h=>?_))))))))
 refine yar (Y:=(Unit)×(Unit)) (fun (_,_)=>[(0,pS p0)]) (fun (_,_)=>[]) (fun (_,_)=>q3=Sum.inl ()) ?_ ?_
 ·refine yaj ?_
  refine yat (Y:=Unit) (S:=Int) _ hq3 (fun _ v1=>[(0,pS p0),(3,pI v1)]) (fun _ v1=>[]) () (zh2 rfl rfl) zsn ?_
  rintro _ v1 o τ hb2;(try dsimp only at hb2);dsimp only [pupds]
  refine yaa (yaa (yac [] [4,5,6] [(7,pB (decide (v1<(p0.size:Int))))] fo0 (by kernel_rfl) (yab (zif rfl hb2 (fun hc4 hb2=>?_) fun hc4 hb2=>?_))))
  ·refine yah ?_
   refine yab (yaa (yaj (yaa (yad hb2 fun c5 hc5 hb2=>yad hb2 fun c6 hc6 hb2=>yac [] (rg 10 9) [(19,pB ((decide ((c5.toNat:Int)<97))||(decide (122<(c6.toNat:Int)))))] (fosx 2 hc5 (xdu 7 (yfz hc6) fo0)) (by kernel_rfl) (yab (zif rfl hb2 (fun hc7 hb2=>?_) fun hc7 hb2=>?_))))))
   ·refine yaa ?_
    refine yac [] [] [(2,pB false)] fo0 (by kernel_rfl) (yab (yai (yaf (yag ?_))))
    refine yas hb2 (fun ht=>?_);subst ht
    refine yaf (yau ?_)
    obtain rfl:=osi h
    exact zq rfl ⟨rfl,rfl⟩
   refine yah ?_
   refine yak (yab (yac [] [8,9] [(3,pI (IntKind.i64.wrap (v1+1)))] fo0 (by kernel_rfl) ?_))
   exact ybd hb2 () (zh2 rfl rfl) zsn
  refine yax ?_
  refine yao (yam hb2 (fun ht=>yan rfl ?_))
  exact yaw ((),()) (zh1 rfl) zsn ht.symm
 rintro ⟨_,_⟩ τ hz;(try dsimp only at hz);subst q3;(try dsimp only at h);dsimp only [pupds]
 refine yaa (yac [] (rg 20 8) [(2,pB ((decide (1≤(p0.size:Int)))&&(decide ((p0.size:Int)≤12))))] fo0 (by kernel_rfl) (yab (yai ?_)))
 obtain rfl:=osi h
 exact zq rfl ⟨rfl,rfl⟩
def ymn (p0:(List ByteArray)):Option Bool:=Option.bind (loopF (S:=Int) (T:=(Unit)⊕(_)) (fun v1=>cond (decide (v1<(p0.length:Int))) (Option.bind (idx p0 v1) (fun m5=>Option.bind (yly m5) (fun x6=>Option.bind (gd ((!(!x6))&&(decide (0<v1))) (idx p0 (IntKind.i64.wrap (v1 - 1)))) (fun m7=>Option.bind (gd ((!(!x6))&&(decide (0<v1))) (idx p0 v1)) (fun m8=>cond ((!x6)||((decide (0<v1))&&(!Op.bytesLess m7.toList m8.toList))) (some (.inr (.inr false))) (some (.inl (IntKind.i64.wrap (v1+1))))))))) (some (.inr (.inl ())))) FUEL 0) (fun q=>match q with | .inl _=>some (decide ((p0.length:Int)≤8)) | .inr e=>some e)
theorem yyy {p0:(List ByteArray)} {r:Bool}  (h:ymn p0=some r):PF 89 [pL eS p0] (pB r):=by
 unfold ymn at h
 refine ybp ?_
 refine ybb Tryz.func89 fk89 rfl Tryz.ntmps89 Tryz.results89 rfl (yaa (yac [] [2] [] fo0 (by kernel_rfl) (yab (yaa (yaa (yac [] [] [(3,pI 0)] fo0 (by kernel_rfl) (yab (yad h fun q3 hq3 h=>?_))))))))
 refine yar (Y:=(Unit)×(Unit)) (fun (_,_)=>[(0,pL eS p0)]) (fun (_,_)=>[]) (fun (_,_)=>q3=Sum.inl ()) ?_ ?_
 ·refine yaj ?_
  refine yat (Y:=Unit) (S:=Int) _ hq3 (fun _ v1=>[(0,pL eS p0),(3,pI v1)]) (fun _ v1=>[]) () (zh2 rfl rfl) zsn ?_
  rintro _ v1 o τ hb2;(try dsimp only at hb2);dsimp only [pupds]
  refine yaa (yaa (yac [] [4,5,6] [(7,pB (decide (v1<(p0.length:Int))))] fo0 (by kernel_rfl) (yab (zif rfl hb2 (fun hc4 hb2=>?_) fun hc4 hb2=>?_))))
  ·refine yah ?_
   refine yab (yaa (yaj (yaa (ybr (ρd:=[]) [(0,0),(1,0),(2,0),(3,0),(4,1),(5,0),(6,0),(7,0),(8,0),(9,0),(10,0),(11,0),(12,0),(13,0),(14,0),(15,0),(16,0),(17,0),(18,0),(19,0),(20,0),(21,0)] _ (List.Perm.refl _) (by kernel_rfl) rfl (yad hb2 fun m5 hm5 hb2=>yad hb2 fun x6 hx6 hb2=>yad hb2 fun m7 hm7 hb2=>yad hb2 fun m8 hm8 hb2=>ybl 22 [] (rg 10 21) [(31,pB ((!x6)||((decide (0<v1))&&(!Op.bytesLess m7.toList m8.toList))))] (ygt 2 eS hm5 (ycs 4 (yss hx6) (yhn 13 eS (yfz hm7) (yhn 17 eS (yfz hm8) fo0)))) (by kernel_rfl) (ycd (yab (zif rfl hb2 (fun hc9 hb2=>?_) fun hc9 hb2=>?_))))))))
   ·refine yaa ?_
    refine yac [] [] [(2,pB false)] fo0 (by kernel_rfl) (yab (yai (yaf (yag ?_))))
    refine yas hb2 (fun ht=>?_);subst ht
    refine yaf (yau ?_)
    obtain rfl:=osi h
    exact zq rfl ⟨rfl,rfl⟩
   refine yah ?_
   refine yak (yab (yac [] [8,9] [(3,pI (IntKind.i64.wrap (v1+1)))] fo0 (by kernel_rfl) ?_))
   exact ybd hb2 () (zh2 rfl rfl) zsn
  refine yax ?_
  refine yao (yam hb2 (fun ht=>yan rfl ?_))
  exact yaw ((),()) (zh1 rfl) zsn ht.symm
 rintro ⟨_,_⟩ τ hz;(try dsimp only at hz);subst q3;(try dsimp only at h);dsimp only [pupds]
 refine yaa (yac [] [32,33,34] [(2,pB (decide ((p0.length:Int)≤8)))] fo0 (by kernel_rfl) (yab (yai ?_)))
 obtain rfl:=osi h
 exact zq rfl ⟨rfl,rfl⟩
def ylz (p0:(List Zd)):Option Int:=cond (decide (64<(p0.length:Int))) (some (8:Int)) (Option.bind (loopF (S:=Int) (T:=(Unit)⊕(_)) (fun v2=>cond (decide (v2<(p0.length:Int))) (Option.bind (idx p0 v2) (fun m6=>cond ((decide (m6.ID<1))||(decide (1000000<m6.ID))) (some (.inr (.inr (2:Int)))) (Option.bind (gd (decide (0<v2)) (idx p0 (IntKind.i64.wrap (v2 - 1)))) (fun m9=>cond ((decide (0<v2))&&(decide (m6.ID≤m9.ID))) (some (.inr (.inr (9:Int)))) (Option.bind (ygy m6.Code) (fun x11=>Option.bind (gd (!(decide (x11<6))) (yey m6.Country)) (fun x12=>Option.bind (gd (!((decide (x11<6))||(!x12))) (ymn m6.Processes)) (fun x13=>cond (((decide (x11<6))||(!x12))||(!x13)) (some (.inr (.inr (1:Int)))) (cond ((decide (m6.Price<1))||(decide (1000000000000<m6.Price))) (some (.inr (.inr (2:Int)))) (cond (decide (8<(m6.Inputs.length:Int))) (some (.inr (.inr (8:Int)))) (cond (m6.Obtained&&(decide (0<(m6.Inputs.length:Int)))) (some (.inr (.inr (1:Int)))) (Option.bind (loopF (S:=Int) (T:=(Unit)⊕(_)) (fun v18=>cond (decide (v18<(m6.Inputs.length:Int))) (Option.bind (gd (decide (0<v18)) (idx m6.Inputs v18)) (fun m22=>Option.bind (gd (decide (0<v18)) (idx m6.Inputs (IntKind.i64.wrap (v18 - 1)))) (fun m23=>cond ((decide (0<v18))&&(decide (m22.Product≤m23.Product))) (some (.inr (.inr (.inr (.inr (9:Int)))))) (Option.bind (idx m6.Inputs v18) (fun m25=>Option.bind (ygh p0 m25.Product) (fun x26=>cond (!x26.2) (some (.inr (.inr (.inr (.inr (6:Int)))))) (Option.bind (idx m6.Inputs v18) (fun m29=>Option.bind (gd (!(decide (m29.Value<0))) (idx m6.Inputs v18)) (fun m30=>cond ((decide (m29.Value<0))||(decide (1000000000000<m30.Value))) (some (.inr (.inr (.inr (.inr (2:Int)))))) (some (.inl (IntKind.i64.wrap (v18+1))))))))))))) (some (.inr (.inl ())))) FUEL 0) (fun q=>match q with | .inl _=>some (.inl (IntKind.i64.wrap (v2+1))) | .inr e=>some e))))))))))))) (some (.inr (.inl ())))) FUEL 0) (fun q=>match q with | .inl _=>some (0:Int) | .inr e=>some e))
theorem xbz {p0:(List Zd)} {r:Int}  (h:ylz p0=some r):PF 48 [pL Zd.enc p0] (pI r):=by
 unfold ylz at h
 refine ybp ?_
 refine ybb Tryz.func48 fk48 rfl Tryz.ntmps48 Tryz.results48 rfl (yaa (yac [] [2] [] fo0 (by kernel_rfl) (yab (yaa (yaa (yac [] [8,9] [(10,pB (decide (64<(p0.length:Int))))] fo0 (by kernel_rfl) (yab (zif rfl h (fun hc1 h=>?_) fun hc1 h=>?_))))))))
 ·refine yaa ?_
  refine yac [] [] [(2,pI 8)] fo0 (by kernel_rfl) (yab (yai (yag ?_)))
  obtain rfl:=osi h
  exact zq rfl ⟨rfl,rfl⟩
 refine yah ?_
 refine yab (yaa (yaa (yac [] [] [(3,pI 0)] fo0 (by kernel_rfl) (yab (yad h fun q4 hq4 h=>?_)))))
 refine yar (Y:=(Unit)×(Unit)) (fun (_,_)=>[]) (fun (_,_)=>[]) (fun (_,_)=>q4=Sum.inl ()) ?_ ?_
 ·refine yaj ?_
  refine yat (Y:=Unit) (S:=Int) _ hq4 (fun _ v2=>[(0,pL Zd.enc p0),(3,pI v2)]) (fun _ v2=>[]) () (zh2 rfl rfl) zsn ?_
  rintro _ v2 o τ hb3;(try dsimp only at hb3);dsimp only [pupds]
  refine yaa (yaa (yac [] [11,12,13] [(14,pB (decide (v2<(p0.length:Int))))] fo0 (by kernel_rfl) (yab (zif rfl hb3 (fun hc5 hb3=>?_) fun hc5 hb3=>?_))))
  ·refine yah ?_
   refine yab (yaa (yaj (yaa (yad hb3 fun m6 hm6 hb3=>yae (yal 4 [] [17,18,19] [(20,.agg [pI m6.ID,pS m6.Code,pS m6.Country,pI m6.Price,pB m6.Obtained,pL eS m6.Processes,pL Zf.enc m6.Inputs])] (ygt 2 Zd.enc hm6 fo0) (by kernel_rfl) (yav rfl rfl rfl (yba (cs:=[pI 0,pS ByteArray.empty,pS ByteArray.empty,pI 0,pB false,pN,pN]) rfl rfl rfl rfl (fun b7=>ybh rfl rfl (yaq (vs:=[pI m6.ID,pS m6.Code,pS m6.Country,pI m6.Price,pB m6.Obtained,pL eS m6.Processes,pL Zf.enc m6.Inputs]) rfl rfl rfl rfl rfl zuh (zl7) (yay (yab (yaa (yaj (yaa (yac [0,0] (rg 22 8) [(21,pB ((decide (m6.ID<1))||(decide (1000000<m6.ID))))] fo0 (by kernel_rfl) (yab (zif rfl hb3 (fun hc8 hb3=>?_) fun hc8 hb3=>?_)))))))))))))))))
   ·refine yaa ?_
    refine yac [] [] [(2,pI 2)] fo0 (by kernel_rfl) (yab (yai (yaf (yag (yaf (yag ?_))))))
    refine yas hb3 (fun ht=>?_);subst ht
    refine yaf (yau ?_)
    obtain rfl:=osi h
    exact zq rfl ⟨rfl,rfl⟩
   refine yaa ?_
   refine ybr (ρd:=[]) [(0,0),(1,0),(2,0),(3,0),(4,0),(5,0),(6,0),(7,0),(8,0),(9,0),(10,0),(11,0),(12,0),(13,0)] _ (List.Perm.refl _) (by kernel_rfl) rfl (yad hb3 fun m9 hm9 hb3=>ybl 14 [0] (rg 31 13) [(30,pB ((decide (0<v2))&&(decide (m6.ID≤m9.ID))))] (yhn 8 Zd.enc (yfz hm9) fo0) (by kernel_rfl) (ycd (yab (zif rfl hb3 (fun hc10 hb3=>?_) fun hc10 hb3=>?_))))
   ·refine yaa ?_
    refine yac [] [] [(2,pI 9)] fo0 (by kernel_rfl) (yab (yai (yaf (yag (yaf (yag ?_))))))
    refine yas hb3 (fun ht=>?_);subst ht
    refine yaf (yau ?_)
    obtain rfl:=osi h
    exact zq rfl ⟨rfl,rfl⟩
   refine yaa ?_
   refine yad hb3 fun x11 hx11 hb3=>yad hb3 fun x12 hx12 hb3=>yad hb3 fun x13 hx13 hb3=>yac [0,0,0] (rg 45 16) [(44,pB (((decide (x11<6))||(!x12))||(!x13)))] (ycs 2 (ynk hx11) (ygu 7 (fun hc=>yle (yfz hx12 hc)) (ygu 13 (fun hc=>yyy (yfz hx13 hc)) fo0))) (by kernel_rfl) (yab (zif rfl hb3 (fun hc14 hb3=>?_) fun hc14 hb3=>?_))
   ·refine yaa ?_
    refine yac [] [] [(2,pI 1)] fo0 (by kernel_rfl) (yab (yai (yaf (yag (yaf (yag ?_))))))
    refine yas hb3 (fun ht=>?_);subst ht
    refine yaf (yau ?_)
    obtain rfl:=osi h
    exact zq rfl ⟨rfl,rfl⟩
   refine yaa ?_
   refine yac [0,0] (rg 62 8) [(61,pB ((decide (m6.Price<1))||(decide (1000000000000<m6.Price))))] fo0 (by kernel_rfl) (yab (zif rfl hb3 (fun hc15 hb3=>?_) fun hc15 hb3=>?_))
   ·refine yaa ?_
    refine yac [] [] [(2,pI 2)] fo0 (by kernel_rfl) (yab (yai (yaf (yag (yaf (yag ?_))))))
    refine yas hb3 (fun ht=>?_);subst ht
    refine yaf (yau ?_)
    obtain rfl:=osi h
    exact zq rfl ⟨rfl,rfl⟩
   refine yaa ?_
   refine yac [0] [71,72,73,74] [(70,pB (decide (8<(m6.Inputs.length:Int))))] fo0 (by kernel_rfl) (yab (zif rfl hb3 (fun hc16 hb3=>?_) fun hc16 hb3=>?_))
   ·refine yaa ?_
    refine yac [] [] [(2,pI 8)] fo0 (by kernel_rfl) (yab (yai (yaf (yag (yaf (yag ?_))))))
    refine yas hb3 (fun ht=>?_);subst ht
    refine yaf (yau ?_)
    obtain rfl:=osi h
    exact zq rfl ⟨rfl,rfl⟩
   refine yaa ?_
   refine yac [0,0] (rg 76 8) [(75,pB (m6.Obtained&&(decide (0<(m6.Inputs.length:Int)))))] fo0 (by kernel_rfl) (yab (zif rfl hb3 (fun hc17 hb3=>?_) fun hc17 hb3=>?_))
   ·refine yaa ?_
    refine yac [] [] [(2,pI 1)] fo0 (by kernel_rfl) (yab (yai (yaf (yag (yaf (yag ?_))))))
    refine yas hb3 (fun ht=>?_);subst ht
    refine yaf (yau ?_)
    obtain rfl:=osi h
    exact zq rfl ⟨rfl,rfl⟩
   refine yah ?_
   refine yak (yab (yaa (yac [] [] [(5,pI 0)] fo0 (by kernel_rfl) (yab (yad hb3 fun q20 hq20 hb3=>?_)))))
   refine yjh (Y:=(Unit)×(Unit)) (fun (_,_)=>[(0,pL Zd.enc p0),(3,pI v2)]) (fun (_,_)=>[]) (fun (_,_)=>q20=Sum.inl ()) ?_ ?_
   ·refine yaj ?_
    refine yat (Y:=Unit) (S:=Int) _ hq20 (fun _ v18=>[(0,pL Zd.enc p0),(3,pI v2),(4,pP b7 0),(5,pI v18)]) (fun _ v18=>[PRes.b b7 46 [pI m6.ID,pS m6.Code,pS m6.Country,pI m6.Price,pB m6.Obtained,pL eS m6.Processes,pL Zf.enc m6.Inputs]]) () (zh4 rfl rfl rfl rfl) (zs1) ?_
    rintro _ v18 o τ hb19;(try dsimp only at hb19);dsimp only [pupds]
    refine yaa (yaa (yac [0] [84,85,86,87] [(88,pB (decide (v18<(m6.Inputs.length:Int))))] fo0 (by kernel_rfl) (yab (zif rfl hb19 (fun hc21 hb19=>?_) fun hc21 hb19=>?_))))
    ·refine yah ?_
     refine yab (yaa (yaj (yaa (yaa (ybr (ρd:=[]) [(0,0),(1,0),(2,0),(3,0),(4,0),(5,0),(6,0),(7,0),(8,0),(9,0),(10,0),(11,0),(12,0),(13,0),(14,0),(15,0),(16,0),(17,0)] _ (List.Perm.refl _) (by kernel_rfl) rfl (yad hb19 fun m22 hm22 hb19=>yad hb19 fun m23 hm23 hb19=>ybl 18 [0,0] (rg 91 17) [(108,pB ((decide (0<v18))&&(decide (m22.Product≤m23.Product))))] (yhn 6 Zf.enc (yfz hm22) (yhn 13 Zf.enc (yfz hm23) fo0)) (by kernel_rfl) (ycd (yab (zif rfl hb19 (fun hc24 hb19=>?_) fun hc24 hb19=>?_)))))))))
     ·refine yaa ?_
      refine yac [] [] [(2,pI 9)] fo0 (by kernel_rfl) (yab (yai (yag (yaf (yag ?_)))))
      refine yas hb19 (fun ht=>?_);subst ht
      refine yaf (yhg (yaf (yag ?_)))
      refine yas hb3 (fun ht=>?_);subst ht
      refine yaf (yau ?_)
      obtain rfl:=osi h
      exact zq rfl ⟨rfl,rfl⟩
     refine yah ?_
     refine yab (yaa (yaa (yad hb19 fun m25 hm25 hb19=>yad hb19 fun x26 hx26 hb19=>yae (yal 11 [0] ((rg 110 8)++[109]) [(118,.agg [pI x26.1.ID,pS x26.1.Code,pS x26.1.Country,pI x26.1.Price,pB x26.1.Obtained,pL eS x26.1.Processes,pL Zf.enc x26.1.Inputs]),(119,pB x26.2)] (ygt 4 Zf.enc hm25 (ycs 7 (yjk hx26) fo0)) (by kernel_rfl) (yav rfl rfl rfl (yba (cs:=[pI 0,pS ByteArray.empty,pS ByteArray.empty,pI 0,pB false,pN,pN]) rfl rfl rfl rfl (fun b27=>ybh rfl rfl (yaq (vs:=[pI x26.1.ID,pS x26.1.Code,pS x26.1.Country,pI x26.1.Price,pB x26.1.Obtained,pL eS x26.1.Processes,pL Zf.enc x26.1.Inputs]) rfl rfl rfl rfl rfl zuh (zl7) (yap [] [] [(7,pB x26.2)] fo0 (by kernel_rfl) (yab (yaa (yac [] [120] [(121,pB (!x26.2))] fo0 (by kernel_rfl) (yab (zif rfl hb19 (fun hc28 hb19=>?_) fun hc28 hb19=>?_))))))))))))))
     ·refine yaa ?_
      refine yac [] [] [(2,pI 6)] fo0 (by kernel_rfl) (yab (yai (yag (yaf (yag ?_)))))
      refine yas hb19 (fun ht=>?_);subst ht
      refine yaf (yhg (yaf (yag ?_)))
      refine yas hb3 (fun ht=>?_);subst ht
      refine yaf (yau ?_)
      obtain rfl:=osi h
      exact zq rfl ⟨rfl,rfl⟩
     refine yah ?_
     refine yab (yaa (yad hb19 fun m29 hm29 hb19=>yad hb19 fun m30 hm30 hb19=>yac [1,1] (rg 122 15) [(137,pB ((decide (m29.Value<0))||(decide (1000000000000<m30.Value))))] (ygt 3 Zf.enc hm29 (yhn 11 Zf.enc (yfz hm30) fo0)) (by kernel_rfl) (yab (zif rfl hb19 (fun hc31 hb19=>?_) fun hc31 hb19=>?_))))
     ·refine yaa ?_
      refine yac [] [] [(2,pI 2)] fo0 (by kernel_rfl) (yab (yai (yaf (yag ?_))))
      refine yas hb19 (fun ht=>?_);subst ht
      refine yaf (yhg (yaf (yag ?_)))
      refine yas hb3 (fun ht=>?_);subst ht
      refine yaf (yau ?_)
      obtain rfl:=osi h
      exact zq rfl ⟨rfl,rfl⟩
     refine yah ?_
     refine yak (yab (yac [] [89,90] [(5,pI (IntKind.i64.wrap (v18+1)))] fo0 (by kernel_rfl) ?_))
     exact ybd hb19 () (zh4 rfl rfl rfl rfl) (zsc (zpt zph) zsn)
    refine yax ?_
    refine yao (yam hb19 (fun ht=>yan rfl ?_))
    exact yja ((),()) (zh2 rfl rfl) zsn ht.symm
   rintro ⟨_,_⟩ τ ρ1 hsub32 hz;(try dsimp only at hz hsub32);subst q20;(try dsimp only at hb3);dsimp only [pupds]
   refine yak (yab (yps hsub32 (yac [] [15,16] [(3,pI (IntKind.i64.wrap (v2+1)))] fo0 (by kernel_rfl) ?_)))
   exact ybd hb3 () (zh2 rfl rfl) zsn
  refine yax ?_
  refine yao (yam hb3 (fun ht=>yan rfl ?_))
  exact yaw ((),()) zhn zsn ht.symm
 rintro ⟨_,_⟩ τ hz;(try dsimp only at hz);subst q4;(try dsimp only at h);dsimp only [pupds]
 refine yaa (yac [] [] [(2,pI 0)] fo0 (by kernel_rfl) (yab (yai ?_)))
 obtain rfl:=osi h
 exact zq rfl ⟨rfl,rfl⟩
def yjl (rec:Zb→Option Int) (p0:Zb):Option Int:=Option.bind (loopF (S:=Int×Int) (T:=(Int)) (fun (v2,v3)=>cond ((decide (v3<(p0.Args.length:Int)))&&(decide (v2≤32))) (Option.bind (idx p0.Args v3) (fun m8=>Option.bind (rec m8) (fun x9=>some (.inl ((IntKind.i64.wrap (v2+x9)),(IntKind.i64.wrap (v3+1))))))) (some (.inr v2))) FUEL (1,0)) (fun v4=>some (imin v4 33))
theorem yuw {rec:Zb→Option Int} (hrec:∀ {p0:Zb} {r:Int},rec p0=some r→PF 130 [.agg [pI p0.Kind,pI p0.Digits,pL eS p0.Except,pI p0.Tolerance,pI p0.Limit,pS p0.Name,pL Zb.enc p0.Args]] (pI r)) {p0:Zb} {r:Int} (h:yjl rec p0=some r):PF 130 [.agg [pI p0.Kind,pI p0.Digits,pL eS p0.Except,pI p0.Tolerance,pI p0.Limit,pS p0.Name,pL Zb.enc p0.Args]] (pI r):=by
 unfold yjl at h
 refine ybp ?_
 refine ybb Tryz.func130 fk130 rfl Tryz.ntmps130 Tryz.results130 rfl (yaa (yae (yav rfl rfl rfl (ybt (cs:=[pI p0.Kind,pI p0.Digits,pL eS p0.Except,pI p0.Tolerance,pI p0.Limit,pS p0.Name,pL Zb.enc p0.Args]) rfl rfl (fun b1=>yap [] [2] [] fo0 (by kernel_rfl) (yab (yaa (yac [] [] [(3,pI 1)] fo0 (by kernel_rfl) (yab (yaa (yaa (yac [] [] [(4,pI 0)] fo0 (by kernel_rfl) (yab (yad h fun q6 hq6 h=>?_))))))))))))))
 refine yar (Y:=(Unit)×(Int)) (fun (_,v4)=>[(3,pI v4)]) (fun (_,v4)=>[]) (fun (_,v4)=>q6=v4) ?_ ?_
 ·refine yaj ?_
  refine yat (Y:=Unit) (S:=Int×Int) _ hq6 (fun _ (v2,v3)=>[(1,pP b1 0),(3,pI v2),(4,pI v3)]) (fun _ (v2,v3)=>[PRes.b b1 68 [pI p0.Kind,pI p0.Digits,pL eS p0.Except,pI p0.Tolerance,pI p0.Limit,pS p0.Name,pL Zb.enc p0.Args]]) () (zh3 rfl rfl rfl) (zs1) ?_
  rintro _ ⟨v2,v3⟩ o τ hb5;(try dsimp only at hb5);dsimp only [pupds]
  refine yaa (yaa (yac [0] (rg 5 8) [(13,pB ((decide (v3<(p0.Args.length:Int)))&&(decide (v2≤32))))] fo0 (by kernel_rfl) (yab (zif rfl hb5 (fun hc7 hb5=>?_) fun hc7 hb5=>?_))))
  ·refine yah ?_
   refine yab (yaa (yaj (yad hb5 fun m8 hm8 hb5=>yad hb5 fun x9 hx9 hb5=>yac [0] (rg 16 8) [(3,pI (IntKind.i64.wrap (v2+x9)))] (yut 4 Zb.enc (Zb.enc_eq _) hm8 (ycs 6 (hrec hx9) fo0)) (by kernel_rfl) (yak (yab (yac [] [14,15] [(4,pI (IntKind.i64.wrap (v3+1)))] fo0 (by kernel_rfl) ?_))))))
   exact ybd hb5 () (zh3 rfl rfl rfl) (zs1)
  refine yax ?_
  refine yao (yam hb5 (fun ht=>yan rfl ?_))
  exact yaw ((),v2) (zh1 rfl) zsn ht.symm
 rintro ⟨_,v4⟩ τ hz;(try dsimp only at hz);subst q6;(try dsimp only at h);dsimp only [pupds]
 refine yaa (yac [] [24,25] [(2,pI (imin v4 33))] fo0 (by kernel_rfl) (yab (yai ?_)))
 obtain rfl:=osi h
 exact zq rfl ⟨rfl,rfl⟩
def ylo (n:Nat):Zb→Option Int:=Nat.rec (motive:=fun _=>Zb→Option Int) (fun _=>none) (fun _ ih=>yjl ih) n
def yru (p0:Zb):Option Int:=ylo FUEL p0
theorem ywo (n:Nat):∀ {p0:Zb} {r:Int},ylo n p0=some r→PF 130 [.agg [pI p0.Kind,pI p0.Digits,pL eS p0.Except,pI p0.Tolerance,pI p0.Limit,pS p0.Name,pL Zb.enc p0.Args]] (pI r):=by
 induction n with
 | zero=>intros;rename_i h;exact nomatch h
 | succ n ih=>intros;rename_i h;exact yuw (fun hr=>ih hr) h
theorem yyz {p0:Zb} {r:Int} (h:yru p0=some r):PF 130 [.agg [pI p0.Kind,pI p0.Digits,pL eS p0.Except,pI p0.Tolerance,pI p0.Limit,pS p0.Name,pL Zb.enc p0.Args]] (pI r):=ywo FUEL h
def ymo (p0:Zb):Option Bool:=cond (((!(p0.Kind == 2))&&(((p0.Digits != 0)||(decide (0<(p0.Except.length:Int))))||(p0.Tolerance != 0)))||((!(p0.Kind == 3))&&(p0.Limit != 0))) (some false) (some (((p0.Kind == 4)||(decide (p0.Name=(⟨#[]⟩:ByteArray))))&&(((p0.Kind == 5)||(p0.Kind == 6))||((p0.Args.length:Int) == 0))))
theorem yza {p0:Zb} {r:Bool}  (h:ymo p0=some r):PF 167 [.agg [pI p0.Kind,pI p0.Digits,pL eS p0.Except,pI p0.Tolerance,pI p0.Limit,pS p0.Name,pL Zb.enc p0.Args]] (pB r):=by
 unfold ymo at h
 refine ybp ?_
 refine ybb Tryz.func167 fk167 rfl Tryz.ntmps167 Tryz.results167 rfl (yaa (yae (yav rfl rfl rfl (ybt (cs:=[pI p0.Kind,pI p0.Digits,pL eS p0.Except,pI p0.Tolerance,pI p0.Limit,pS p0.Name,pL Zb.enc p0.Args]) rfl rfl (fun b1=>yap [] [2] [] fo0 (by kernel_rfl) (yab (yaa (ybr (ρd:=[]) [(0,0),(1,0),(2,0),(3,0),(4,0),(5,0),(6,0),(7,0)] _ (List.Perm.refl _) (by kernel_rfl) rfl (ybl 8 [0,0] (rg 6 6) [(3,pB (p0.Kind == 2)),(4,pB (p0.Kind == 3))] fo0 (by kernel_rfl) (ycd (yab (yaa (yaa (yac [0,0,0,0] (rg 12 26) [(38,pB (((!(p0.Kind == 2))&&(((p0.Digits != 0)||(decide (0<(p0.Except.length:Int))))||(p0.Tolerance != 0)))||((!(p0.Kind == 3))&&(p0.Limit != 0))))] fo0 (by kernel_rfl) (yab (zif rfl h (fun hc2 h=>?_) fun hc2 h=>?_))))))))))))))))
 ·refine yaa ?_
  refine yac [] [] [(2,pB false)] fo0 (by kernel_rfl) (yab (yai (yag ?_)))
  obtain rfl:=osi h
  exact zq rfl ⟨rfl,rfl⟩
 refine yah ?_
 refine yab (yaa (yac [0,0] (rg 39 8) [(5,pB ((p0.Kind == 5)||(p0.Kind == 6)))] fo0 (by kernel_rfl) (yab (yaa (yac [0,0,0] (rg 47 17) [(2,pB (((p0.Kind == 4)||(decide (p0.Name=(⟨#[]⟩:ByteArray))))&&(((p0.Kind == 5)||(p0.Kind == 6))||((p0.Args.length:Int) == 0))))] fo0 (by kernel_rfl) (yab (yai ?_)))))))
 obtain rfl:=osi h
 exact zq rfl ⟨rfl,rfl⟩
def yjm (rec:Zb→Option Bool) (p0:Zb):Option Bool:=Option.bind (ymo p0) (fun x2=>cond (!x2) (some false) (cond (p0.Kind == 1) (some true) (cond (p0.Kind == 2) (Option.bind (loopF (S:=Int) (T:=(Unit)⊕(_)) (fun v6=>cond (decide (v6<(p0.Except.length:Int))) (Option.bind (idx p0.Except v6) (fun m10=>Option.bind (ygy m10) (fun x11=>Option.bind (gd ((!(x11 == 0))&&(decide (0<v6))) (idx p0.Except (IntKind.i64.wrap (v6 - 1)))) (fun m12=>Option.bind (gd ((!(x11 == 0))&&(decide (0<v6))) (idx p0.Except v6)) (fun m13=>cond ((x11 == 0)||((decide (0<v6))&&(!Op.bytesLess m12.toList m13.toList))) (some (.inr (.inr false))) (some (.inl (IntKind.i64.wrap (v6+1))))))))) (some (.inr (.inl ())))) FUEL 0) (fun q=>match q with | .inl _=>some ((((((p0.Digits == 2)||(p0.Digits == 4))||(p0.Digits == 6))&&(decide ((p0.Except.length:Int)≤6)))&&(decide (0≤p0.Tolerance)))&&(decide (p0.Tolerance≤1000000))) | .inr e=>some e)) (cond (p0.Kind == 3) (some ((decide (0≤p0.Limit))&&(decide (p0.Limit≤1000000)))) (cond (p0.Kind == 4) (Option.bind (yly p0.Name) (fun x17=>some x17)) (Option.bind (cond (p0.Kind == 5) (some (p0.Kind == 5)) (some (p0.Kind == 6))) (fun v18=>cond v18 (Option.bind (loopF (S:=Int) (T:=(Unit)⊕(_)) (fun v22=>cond (decide (v22<(p0.Args.length:Int))) (Option.bind (idx p0.Args v22) (fun m26=>Option.bind (gd (!(m26.Kind == p0.Kind)) (idx p0.Args v22)) (fun m27=>Option.bind (gd (!(m26.Kind == p0.Kind)) (rec m27)) (fun x28=>cond ((m26.Kind == p0.Kind)||(!x28)) (some (.inr (.inr false))) (some (.inl (IntKind.i64.wrap (v22+1)))))))) (some (.inr (.inl ())))) FUEL 0) (fun q=>match q with | .inl _=>some ((decide (2≤(p0.Args.length:Int)))&&(decide ((p0.Args.length:Int)≤6))) | .inr e=>some e)) (some false))))))))
theorem yux {rec:Zb→Option Bool} (hrec:∀ {p0:Zb} {r:Bool},rec p0=some r→PF 131 [.agg [pI p0.Kind,pI p0.Digits,pL eS p0.Except,pI p0.Tolerance,pI p0.Limit,pS p0.Name,pL Zb.enc p0.Args]] (pB r)) {p0:Zb} {r:Bool} (h:yjm rec p0=some r):PF 131 [.agg [pI p0.Kind,pI p0.Digits,pL eS p0.Except,pI p0.Tolerance,pI p0.Limit,pS p0.Name,pL Zb.enc p0.Args]] (pB r):=by
 unfold yjm at h
 refine ybp ?_
 refine ybb Tryz.func131 fk131 rfl Tryz.ntmps131 Tryz.results131 rfl (yaa (yae (yav rfl rfl rfl (ybt (cs:=[pI p0.Kind,pI p0.Digits,pL eS p0.Except,pI p0.Tolerance,pI p0.Limit,pS p0.Name,pL Zb.enc p0.Args]) rfl rfl (fun b1=>yap [] [2] [] fo0 (by kernel_rfl) (yab (yaa (yaa (yad h fun x2 hx2 h=>yac [0] [5,6] [(7,pB (!x2))] (ycs 1 (yza hx2) fo0) (by kernel_rfl) (yab (zif rfl h (fun hc3 h=>?_) fun hc3 h=>?_)))))))))))
 ·refine yaa ?_
  refine yac [] [] [(2,pB false)] fo0 (by kernel_rfl) (yab (yai (yag ?_)))
  obtain rfl:=osi h
  exact zq rfl ⟨rfl,rfl⟩
 refine yah ?_
 refine yab (yaa (yaa (yac [0] [8] [(9,pI p0.Kind)] fo0 (by kernel_rfl) (yab (yaj (yaa (yac [] [11] [(10,pB (p0.Kind == 1))] fo0 (by kernel_rfl) (yab (zif rfl h (fun hc4 h=>?_) fun hc4 h=>?_)))))))))
 ·refine yaa ?_
  refine yac [] [] [(2,pB true)] fo0 (by kernel_rfl) (yab (yai (yaf (yag ?_))))
  obtain rfl:=osi h
  exact zq rfl ⟨rfl,rfl⟩
 refine yaa ?_
 refine yac [] [13] [(12,pB (p0.Kind == 2))] fo0 (by kernel_rfl) (yab (zif rfl h (fun hc5 h=>?_) fun hc5 h=>?_))
 ·refine yaa ?_
  refine yaa (yac [] [] [(3,pI 0)] fo0 (by kernel_rfl) (yab (yad h fun q8 hq8 h=>?_)))
  refine yar (Y:=(Unit)×(Unit)) (fun (_,_)=>[(1,pP b1 0)]) (fun (_,_)=>[PRes.b b1 68 [pI p0.Kind,pI p0.Digits,pL eS p0.Except,pI p0.Tolerance,pI p0.Limit,pS p0.Name,pL Zb.enc p0.Args]]) (fun (_,_)=>q8=Sum.inl ()) ?_ ?_
  ·refine yaj ?_
   refine yat (Y:=Unit) (S:=Int) _ hq8 (fun _ v6=>[(1,pP b1 0),(3,pI v6)]) (fun _ v6=>[PRes.b b1 68 [pI p0.Kind,pI p0.Digits,pL eS p0.Except,pI p0.Tolerance,pI p0.Limit,pS p0.Name,pL Zb.enc p0.Args]]) () (zh2 rfl rfl) (zs1) ?_
   rintro _ v6 o τ hb7;(try dsimp only at hb7);dsimp only [pupds]
   refine yaa (yaa (yac [0] [14,15,16,17] [(18,pB (decide (v6<(p0.Except.length:Int))))] fo0 (by kernel_rfl) (yab (zif rfl hb7 (fun hc9 hb7=>?_) fun hc9 hb7=>?_))))
   ·refine yah ?_
    refine yab (yaa (yaj (yaa (ybr (ρd:=[]) [(0,0),(1,0),(2,0),(3,0),(4,0),(5,1),(6,0),(7,0),(8,0),(9,0),(10,0),(11,0),(12,0),(13,0),(14,0),(15,0),(16,0),(17,0),(18,0),(19,0),(20,0),(21,0),(22,0),(23,0),(24,0)] _ (List.Perm.refl _) (by kernel_rfl) rfl (yad hb7 fun m10 hm10 hb7=>yad hb7 fun x11 hx11 hb7=>yad hb7 fun m12 hm12 hb7=>yad hb7 fun m13 hm13 hb7=>ybl 25 [0,0,0] (rg 21 24) [(45,pB ((x11 == 0)||((decide (0<v6))&&(!Op.bytesLess m12.toList m13.toList))))] (ygt 3 eS hm10 (ycs 5 (ynk hx11) (yhn 15 eS (yfz hm12) (yhn 20 eS (yfz hm13) fo0)))) (by kernel_rfl) (ycd (yab (zif rfl hb7 (fun hc14 hb7=>?_) fun hc14 hb7=>?_))))))))
    ·refine yaa ?_
     refine yac [] [] [(2,pB false)] fo0 (by kernel_rfl) (yab (yai (yaf (yag ?_))))
     refine yas hb7 (fun ht=>?_);subst ht
     refine yaf (yau (yaf (yag ?_)))
     obtain rfl:=osi h
     exact zq rfl ⟨rfl,rfl⟩
    refine yah ?_
    refine yak (yab (yac [] [19,20] [(3,pI (IntKind.i64.wrap (v6+1)))] fo0 (by kernel_rfl) ?_))
    exact ybd hb7 () (zh2 rfl rfl) (zs1)
   refine yax ?_
   refine yao (yam hb7 (fun ht=>yan rfl ?_))
   exact yaw ((),()) (zh1 rfl) (zs1) ht.symm
  rintro ⟨_,_⟩ τ hz;(try dsimp only at hz);subst q8;(try dsimp only at h);dsimp only [pupds]
  refine yaa (yac [0,0,0,0,0,0] (rg 46 29) [(2,pB ((((((p0.Digits == 2)||(p0.Digits == 4))||(p0.Digits == 6))&&(decide ((p0.Except.length:Int)≤6)))&&(decide (0≤p0.Tolerance)))&&(decide (p0.Tolerance≤1000000))))] fo0 (by kernel_rfl) (yab (yai (yaf (yag ?_)))))
  obtain rfl:=osi h
  exact zq rfl ⟨rfl,rfl⟩
 refine yaa ?_
 refine yac [] [76] [(75,pB (p0.Kind == 3))] fo0 (by kernel_rfl) (yab (zif rfl h (fun hc15 h=>?_) fun hc15 h=>?_))
 ·refine yaa ?_
  refine yac [0,0] (rg 77 8) [(2,pB ((decide (0≤p0.Limit))&&(decide (p0.Limit≤1000000))))] fo0 (by kernel_rfl) (yab (yai (yaf (yag ?_))))
  obtain rfl:=osi h
  exact zq rfl ⟨rfl,rfl⟩
 refine yaa ?_
 refine yac [] [86] [(85,pB (p0.Kind == 4))] fo0 (by kernel_rfl) (yab (zif rfl h (fun hc16 h=>?_) fun hc16 h=>?_))
 ·refine yaa ?_
  refine yad h fun x17 hx17 h=>yac [0] [87,88,89] [(2,pB x17)] (ycs 2 (yss hx17) fo0) (by kernel_rfl) (yab (yai (yaf (yag ?_))))
  obtain rfl:=osi h
  exact zq rfl ⟨rfl,rfl⟩
 refine yaa ?_
 refine yaa (yac [] [91] [(90,pB (p0.Kind == 5))] fo0 (by kernel_rfl) (yab (yad h fun q19 hq19 h=>?_)))
 refine yar (Y:=(Unit)×(Bool)) (fun (_,v18)=>[(1,pP b1 0),(90,pB v18)]) (fun (_,v18)=>[PRes.b b1 68 [pI p0.Kind,pI p0.Digits,pL eS p0.Except,pI p0.Tolerance,pI p0.Limit,pS p0.Name,pL Zb.enc p0.Args]]) (fun (_,v18)=>q19=v18) ?_ ?_
 ·skip
  refine zif rfl hq19 (fun hc20 hq19=>?_) fun hc20 hq19=>?_
  ·refine yah ?_
   obtain rfl:=osi hq19
   exact yaw ((),(p0.Kind == 5)) (zh2 rfl rfl) (zs1) rfl
  refine yac [] [92] [(90,pB (p0.Kind == 6))] fo0 (by kernel_rfl) ?_
  obtain rfl:=osi hq19
  exact yaw ((),(p0.Kind == 6)) (zh2 rfl rfl) (zs1) rfl
 rintro ⟨_,v18⟩ τ hz;(try dsimp only at hz);subst q19;(try dsimp only at h);dsimp only [pupds]
 refine zif rfl h (fun hc21 h=>?_) fun hc21 h=>?_
 ·refine yaa ?_
  refine yaa (yac [] [] [(4,pI 0)] fo0 (by kernel_rfl) (yab (yad h fun q24 hq24 h=>?_)))
  refine yar (Y:=(Unit)×(Unit)) (fun (_,_)=>[(1,pP b1 0)]) (fun (_,_)=>[PRes.b b1 68 [pI p0.Kind,pI p0.Digits,pL eS p0.Except,pI p0.Tolerance,pI p0.Limit,pS p0.Name,pL Zb.enc p0.Args]]) (fun (_,_)=>q24=Sum.inl ()) ?_ ?_
  ·refine yaj ?_
   refine yat (Y:=Unit) (S:=Int) _ hq24 (fun _ v22=>[(1,pP b1 0),(4,pI v22)]) (fun _ v22=>[PRes.b b1 68 [pI p0.Kind,pI p0.Digits,pL eS p0.Except,pI p0.Tolerance,pI p0.Limit,pS p0.Name,pL Zb.enc p0.Args]]) () (zh2 rfl rfl) (zs1) ?_
   rintro _ v22 o τ hb23;(try dsimp only at hb23);dsimp only [pupds]
   refine yaa (yaa (yac [0] [93,94,95,96] [(97,pB (decide (v22<(p0.Args.length:Int))))] fo0 (by kernel_rfl) (yab (zif rfl hb23 (fun hc25 hb23=>?_) fun hc25 hb23=>?_))))
   ·refine yah ?_
    refine yab (yaa (yaj (yaa (ybr (ρd:=[]) [(0,0),(1,0),(2,0),(3,0),(4,0),(5,0),(6,0),(7,0),(8,0),(9,0),(10,0),(11,0),(12,0),(13,0),(14,0),(15,1),(16,0),(17,0)] _ (List.Perm.refl _) (by kernel_rfl) rfl (yad hb23 fun m26 hm26 hb23=>yad hb23 fun m27 hm27 hb23=>yad hb23 fun x28 hx28 hb23=>ybl 18 [0,0,0] (rg 100 17) [(117,pB ((m26.Kind == p0.Kind)||(!x28)))] (yut 3 Zb.enc (Zb.enc_eq _) hm26 (foixrg 13 Zb.enc (Zb.enc_eq _) (yfz hm27) (ygu 15 (fun hc=>hrec (yfz hx28 hc)) fo0))) (by kernel_rfl) (ycd (yab (zif rfl hb23 (fun hc29 hb23=>?_) fun hc29 hb23=>?_))))))))
    ·refine yaa ?_
     refine yac [] [] [(2,pB false)] fo0 (by kernel_rfl) (yab (yai (yaf (yag ?_))))
     refine yas hb23 (fun ht=>?_);subst ht
     refine yaf (yau (yaf (yag ?_)))
     obtain rfl:=osi h
     exact zq rfl ⟨rfl,rfl⟩
    refine yah ?_
    refine yak (yab (yac [] [98,99] [(4,pI (IntKind.i64.wrap (v22+1)))] fo0 (by kernel_rfl) ?_))
    exact ybd hb23 () (zh2 rfl rfl) (zs1)
   refine yax ?_
   refine yao (yam hb23 (fun ht=>yan rfl ?_))
   exact yaw ((),()) (zh1 rfl) (zs1) ht.symm
  rintro ⟨_,_⟩ τ hz;(try dsimp only at hz);subst q24;(try dsimp only at h);dsimp only [pupds]
  refine yaa (yac [0,0] (rg 118 10) [(2,pB ((decide (2≤(p0.Args.length:Int)))&&(decide ((p0.Args.length:Int)≤6))))] fo0 (by kernel_rfl) (yab (yai (yaf (yag ?_)))))
  obtain rfl:=osi h
  exact zq rfl ⟨rfl,rfl⟩
 refine yah ?_
 refine yak (yab (yaa (yac [] [] [(2,pB false)] fo0 (by kernel_rfl) (yab (yai ?_)))))
 obtain rfl:=osi h
 exact zq rfl ⟨rfl,rfl⟩
def ylp (n:Nat):Zb→Option Bool:=Nat.rec (motive:=fun _=>Zb→Option Bool) (fun _=>none) (fun _ ih=>yjm ih) n
def yrv (p0:Zb):Option Bool:=ylp FUEL p0
theorem ywp (n:Nat):∀ {p0:Zb} {r:Bool},ylp n p0=some r→PF 131 [.agg [pI p0.Kind,pI p0.Digits,pL eS p0.Except,pI p0.Tolerance,pI p0.Limit,pS p0.Name,pL Zb.enc p0.Args]] (pB r):=by
 induction n with
 | zero=>intros;rename_i h;exact nomatch h
 | succ n ih=>intros;rename_i h;exact yux (fun hr=>ih hr) h
theorem yzb {p0:Zb} {r:Bool} (h:yrv p0=some r):PF 131 [.agg [pI p0.Kind,pI p0.Digits,pL eS p0.Except,pI p0.Tolerance,pI p0.Limit,pS p0.Name,pL Zb.enc p0.Args]] (pB r):=ywp FUEL h
def yma (p0:Zb):Option Int:=Option.bind (yru p0) (fun x2=>cond (decide (32<x2)) (some (8:Int)) (Option.bind (yrv p0) (fun x4=>cond (!x4) (some (1:Int)) (some (0:Int)))))
theorem xca {p0:Zb} {r:Int}  (h:yma p0=some r):PF 90 [.agg [pI p0.Kind,pI p0.Digits,pL eS p0.Except,pI p0.Tolerance,pI p0.Limit,pS p0.Name,pL Zb.enc p0.Args]] (pI r):=by
 unfold yma at h
 refine ybp ?_
 refine ybb Tryz.func90 fk90 rfl Tryz.ntmps90 Tryz.results90 rfl (yaa (yae (yav rfl rfl rfl (ybt (cs:=[pI p0.Kind,pI p0.Digits,pL eS p0.Except,pI p0.Tolerance,pI p0.Limit,pS p0.Name,pL Zb.enc p0.Args]) rfl rfl (fun b1=>yap [] [2] [] fo0 (by kernel_rfl) (yab (yaa (yaa (yad h fun x2 hx2 h=>yac [0] [3,4] [(5,pB (decide (32<x2)))] (ycs 1 (yyz hx2) fo0) (by kernel_rfl) (yab (zif rfl h (fun hc3 h=>?_) fun hc3 h=>?_)))))))))))
 ·refine yaa ?_
  refine yac [] [] [(2,pI 8)] fo0 (by kernel_rfl) (yab (yai (yag ?_)))
  obtain rfl:=osi h
  exact zq rfl ⟨rfl,rfl⟩
 refine yah ?_
 refine yab (yaa (yaa (yad h fun x4 hx4 h=>yac [0] [6,7] [(8,pB (!x4))] (ycs 1 (yzb hx4) fo0) (by kernel_rfl) (yab (zif rfl h (fun hc5 h=>?_) fun hc5 h=>?_)))))
 ·refine yaa ?_
  refine yac [] [] [(2,pI 1)] fo0 (by kernel_rfl) (yab (yai (yag ?_)))
  obtain rfl:=osi h
  exact zq rfl ⟨rfl,rfl⟩
 refine yah ?_
 refine yab (yaa (yac [] [] [(2,pI 0)] fo0 (by kernel_rfl) (yab (yai ?_))))
 obtain rfl:=osi h
 exact zq rfl ⟨rfl,rfl⟩
def yfm (p0:(List Zc)):Option Int:=cond (decide (8<(p0.length:Int))) (some (8:Int)) (Option.bind (loopF (S:=Int) (T:=(Unit)⊕(_)) (fun v2=>cond (decide (v2<(p0.length:Int))) (Option.bind (idx p0 v2) (fun m6=>cond ((((decide (m6.ID<1))||(decide (1000<m6.ID)))||(decide (m6.Kind<1)))||(decide (3<m6.Kind))) (some (.inr (.inr (2:Int)))) (Option.bind (gd (decide (0<v2)) (idx p0 (IntKind.i64.wrap (v2 - 1)))) (fun m9=>cond ((decide (0<v2))&&(decide (m6.ID≤m9.ID))) (some (.inr (.inr (9:Int)))) (cond ((decide (12<(m6.Parties.length:Int)))||(decide (12<(m6.Rules.length:Int)))) (some (.inr (.inr (8:Int)))) (Option.bind (loopF (S:=Int) (T:=(Unit)⊕(_)) (fun v12=>cond (decide (v12<(m6.Parties.length:Int))) (Option.bind (idx m6.Parties v12) (fun m16=>Option.bind (yey m16) (fun x17=>Option.bind (gd ((!(!x17))&&(decide (0<v12))) (idx m6.Parties (IntKind.i64.wrap (v12 - 1)))) (fun m18=>Option.bind (gd ((!(!x17))&&(decide (0<v12))) (idx m6.Parties v12)) (fun m19=>cond ((!x17)||((decide (0<v12))&&(!Op.bytesLess m18.toList m19.toList))) (some (.inr (.inr (.inr (.inr (1:Int)))))) (some (.inl (IntKind.i64.wrap (v12+1))))))))) (some (.inr (.inl ())))) FUEL 0) (fun q=>match q with | .inl _=>Option.bind (loopF (S:=Int) (T:=(Unit)⊕(_)) (fun v21=>cond (decide (v21<(m6.Rules.length:Int))) (Option.bind (idx m6.Rules v21) (fun m25=>Option.bind (ygy m25.Prefix) (fun x26=>cond (x26 == 0) (some (.inr (.inr (.inr (.inr (1:Int)))))) (Option.bind (gd (decide (0<v21)) (idx m6.Rules (IntKind.i64.wrap (v21 - 1)))) (fun m28=>Option.bind (gd (decide (0<v21)) (idx m6.Rules v21)) (fun m29=>cond ((decide (0<v21))&&(!Op.bytesLess m28.Prefix.toList m29.Prefix.toList)) (some (.inr (.inr (.inr (.inr (9:Int)))))) (Option.bind (idx m6.Rules v21) (fun m31=>Option.bind (yma m31.Rule) (fun x32=>cond (x32 != 0) (some (.inr (.inr (.inr (.inr x32))))) (some (.inl (IntKind.i64.wrap (v21+1))))))))))))) (some (.inr (.inl ())))) FUEL 0) (fun q=>match q with | .inl _=>some (.inl (IntKind.i64.wrap (v2+1))) | .inr e=>some e) | .inr e=>some e))))))) (some (.inr (.inl ())))) FUEL 0) (fun q=>match q with | .inl _=>some (0:Int) | .inr e=>some e))
theorem yrw {p0:(List Zc)} {r:Int}  (h:yfm p0=some r):PF 49 [pL Zc.enc p0] (pI r):=by
 unfold yfm at h
 refine ybp ?_
 refine ybb Tryz.func49 fk49 rfl Tryz.ntmps49 Tryz.results49 rfl (yaa (yac [] [2] [] fo0 (by kernel_rfl) (yab (yaa (yaa (yac [] [8,9] [(10,pB (decide (8<(p0.length:Int))))] fo0 (by kernel_rfl) (yab (zif rfl h (fun hc1 h=>?_) fun hc1 h=>?_))))))))
 ·refine yaa ?_
  refine yac [] [] [(2,pI 8)] fo0 (by kernel_rfl) (yab (yai (yag ?_)))
  obtain rfl:=osi h
  exact zq rfl ⟨rfl,rfl⟩
 refine yah ?_
 refine yab (yaa (yaa (yac [] [] [(3,pI 0)] fo0 (by kernel_rfl) (yab (yad h fun q4 hq4 h=>?_)))))
 refine yar (Y:=(Unit)×(Unit)) (fun (_,_)=>[]) (fun (_,_)=>[]) (fun (_,_)=>q4=Sum.inl ()) ?_ ?_
 ·refine yaj ?_
  refine yat (Y:=Unit) (S:=Int) _ hq4 (fun _ v2=>[(0,pL Zc.enc p0),(3,pI v2)]) (fun _ v2=>[]) () (zh2 rfl rfl) zsn ?_
  rintro _ v2 o τ hb3;(try dsimp only at hb3);dsimp only [pupds]
  refine yaa (yaa (yac [] [11,12,13] [(14,pB (decide (v2<(p0.length:Int))))] fo0 (by kernel_rfl) (yab (zif rfl hb3 (fun hc5 hb3=>?_) fun hc5 hb3=>?_))))
  ·refine yah ?_
   refine yab (yaa (yaj (yaa (yad hb3 fun m6 hm6 hb3=>yae (yal 4 [] [17,18,19] [(20,.agg [pI m6.ID,pI m6.Kind,pL eS m6.Parties,pL Zh.enc m6.Rules])] (ygt 2 Zc.enc hm6 fo0) (by kernel_rfl) (yav rfl rfl rfl (yba (cs:=[pI 0,pI 0,pN,pN]) rfl rfl rfl rfl (fun b7=>ybh rfl rfl (yaq (vs:=[pI m6.ID,pI m6.Kind,pL eS m6.Parties,pL Zh.enc m6.Rules]) rfl rfl rfl rfl rfl zuh (zl4) (yay (yab (yaa (yaj (yaa (yac [0,0,0,0] (rg 22 18) [(21,pB ((((decide (m6.ID<1))||(decide (1000<m6.ID)))||(decide (m6.Kind<1)))||(decide (3<m6.Kind))))] fo0 (by kernel_rfl) (yab (zif rfl hb3 (fun hc8 hb3=>?_) fun hc8 hb3=>?_)))))))))))))))))
   ·refine yaa ?_
    refine yac [] [] [(2,pI 2)] fo0 (by kernel_rfl) (yab (yai (yaf (yag (yaf (yag ?_))))))
    refine yas hb3 (fun ht=>?_);subst ht
    refine yaf (yau ?_)
    obtain rfl:=osi h
    exact zq rfl ⟨rfl,rfl⟩
   refine yaa ?_
   refine ybr (ρd:=[]) [(0,0),(1,0),(2,0),(3,0),(4,0),(5,0),(6,0),(7,0),(8,0),(9,0),(10,0),(11,0),(12,0),(13,0)] _ (List.Perm.refl _) (by kernel_rfl) rfl (yad hb3 fun m9 hm9 hb3=>ybl 14 [0] (rg 41 13) [(40,pB ((decide (0<v2))&&(decide (m6.ID≤m9.ID))))] (yhn 8 Zc.enc (yfz hm9) fo0) (by kernel_rfl) (ycd (yab (zif rfl hb3 (fun hc10 hb3=>?_) fun hc10 hb3=>?_))))
   ·refine yaa ?_
    refine yac [] [] [(2,pI 9)] fo0 (by kernel_rfl) (yab (yai (yaf (yag (yaf (yag ?_))))))
    refine yas hb3 (fun ht=>?_);subst ht
    refine yaf (yau ?_)
    obtain rfl:=osi h
    exact zq rfl ⟨rfl,rfl⟩
   refine yaa ?_
   refine yac [0,0] (rg 55 10) [(54,pB ((decide (12<(m6.Parties.length:Int)))||(decide (12<(m6.Rules.length:Int)))))] fo0 (by kernel_rfl) (yab (zif rfl hb3 (fun hc11 hb3=>?_) fun hc11 hb3=>?_))
   ·refine yaa ?_
    refine yac [] [] [(2,pI 8)] fo0 (by kernel_rfl) (yab (yai (yaf (yag (yaf (yag ?_))))))
    refine yas hb3 (fun ht=>?_);subst ht
    refine yaf (yau ?_)
    obtain rfl:=osi h
    exact zq rfl ⟨rfl,rfl⟩
   refine yah ?_
   refine yak (yab (yaa (yaa (yac [] [] [(5,pI 0)] fo0 (by kernel_rfl) (yab (yad hb3 fun q14 hq14 hb3=>?_))))))
   refine yar (Y:=(Unit)×(Unit)) (fun (_,_)=>[(0,pL Zc.enc p0),(3,pI v2),(4,pP b7 0)]) (fun (_,_)=>[PRes.b b7 52 [pI m6.ID,pI m6.Kind,pL eS m6.Parties,pL Zh.enc m6.Rules]]) (fun (_,_)=>q14=Sum.inl ()) ?_ ?_
   ·refine yaj ?_
    refine yat (Y:=Unit) (S:=Int) _ hq14 (fun _ v12=>[(0,pL Zc.enc p0),(3,pI v2),(4,pP b7 0),(5,pI v12)]) (fun _ v12=>[PRes.b b7 52 [pI m6.ID,pI m6.Kind,pL eS m6.Parties,pL Zh.enc m6.Rules]]) () (zh4 rfl rfl rfl rfl) (zs1) ?_
    rintro _ v12 o τ hb13;(try dsimp only at hb13);dsimp only [pupds]
    refine yaa (yaa (yac [0] [65,66,67,68] [(69,pB (decide (v12<(m6.Parties.length:Int))))] fo0 (by kernel_rfl) (yab (zif rfl hb13 (fun hc15 hb13=>?_) fun hc15 hb13=>?_))))
    ·refine yah ?_
     refine yab (yaa (yaj (yaa (ybr (ρd:=[]) [(0,0),(1,0),(2,0),(3,0),(4,0),(5,1),(6,0),(7,0),(8,0),(9,0),(10,0),(11,0),(12,0),(13,0),(14,0),(15,0),(16,0),(17,0),(18,0),(19,0),(20,0),(21,0),(22,0),(23,0),(24,0)] _ (List.Perm.refl _) (by kernel_rfl) rfl (yad hb13 fun m16 hm16 hb13=>yad hb13 fun x17 hx17 hb13=>yad hb13 fun m18 hm18 hb13=>yad hb13 fun m19 hm19 hb13=>ybl 25 [0,0,0] (rg 72 24) [(96,pB ((!x17)||((decide (0<v12))&&(!Op.bytesLess m18.toList m19.toList))))] (ygt 3 eS hm16 (ycs 5 (yle hx17) (yhn 15 eS (yfz hm18) (yhn 20 eS (yfz hm19) fo0)))) (by kernel_rfl) (ycd (yab (zif rfl hb13 (fun hc20 hb13=>?_) fun hc20 hb13=>?_))))))))
     ·refine yaa ?_
      refine yac [] [] [(2,pI 1)] fo0 (by kernel_rfl) (yab (yai (yaf (yag ?_))))
      refine yas hb13 (fun ht=>?_);subst ht
      refine yaf (yau (yaf (yag ?_)))
      refine yas hb3 (fun ht=>?_);subst ht
      refine yaf (yau ?_)
      obtain rfl:=osi h
      exact zq rfl ⟨rfl,rfl⟩
     refine yah ?_
     refine yak (yab (yac [] [70,71] [(5,pI (IntKind.i64.wrap (v12+1)))] fo0 (by kernel_rfl) ?_))
     exact ybd hb13 () (zh4 rfl rfl rfl rfl) (zs1)
    refine yax ?_
    refine yao (yam hb13 (fun ht=>yan rfl ?_))
    exact yaw ((),()) (zh3 rfl rfl rfl) (zs1) ht.symm
   rintro ⟨_,_⟩ τ hz;(try dsimp only at hz);subst q14;(try dsimp only at hb3);dsimp only [pupds]
   refine yaa (yac [] [] [(6,pI 0)] fo0 (by kernel_rfl) (yab (yad hb3 fun q23 hq23 hb3=>?_)))
   refine yjh (Y:=(Unit)×(Unit)) (fun (_,_)=>[(0,pL Zc.enc p0),(3,pI v2)]) (fun (_,_)=>[]) (fun (_,_)=>q23=Sum.inl ()) ?_ ?_
   ·refine yaj ?_
    refine yat (Y:=Unit) (S:=Int) _ hq23 (fun _ v21=>[(0,pL Zc.enc p0),(3,pI v2),(4,pP b7 0),(6,pI v21)]) (fun _ v21=>[PRes.b b7 52 [pI m6.ID,pI m6.Kind,pL eS m6.Parties,pL Zh.enc m6.Rules]]) () (zh4 rfl rfl rfl rfl) (zs1) ?_
    rintro _ v21 o τ hb22;(try dsimp only at hb22);dsimp only [pupds]
    refine yaa (yaa (yac [0] [97,98,99,100] [(101,pB (decide (v21<(m6.Rules.length:Int))))] fo0 (by kernel_rfl) (yab (zif rfl hb22 (fun hc24 hb22=>?_) fun hc24 hb22=>?_))))
    ·refine yah ?_
     refine yab (yaa (yaj (yaa (yaa (yad hb22 fun m25 hm25 hb22=>yad hb22 fun x26 hx26 hb22=>yac [0] (rg 104 7) [(111,pB (x26 == 0))] (ygt 3 Zh.enc hm25 (ycs 6 (ynk hx26) fo0)) (by kernel_rfl) (yab (zif rfl hb22 (fun hc27 hb22=>?_) fun hc27 hb22=>?_)))))))
     ·refine yaa ?_
      refine yac [] [] [(2,pI 1)] fo0 (by kernel_rfl) (yab (yai (yag (yaf (yag ?_)))))
      refine yas hb22 (fun ht=>?_);subst ht
      refine yaf (yhg (yaf (yag ?_)))
      refine yas hb3 (fun ht=>?_);subst ht
      refine yaf (yau ?_)
      obtain rfl:=osi h
      exact zq rfl ⟨rfl,rfl⟩
     refine yah ?_
     refine yab (yaa (yaa (ybr (ρd:=[]) [(0,0),(1,0),(2,0),(3,0),(4,0),(5,0),(6,0),(7,0),(8,0),(9,0),(10,0),(11,0),(12,0),(13,0),(14,0),(15,0),(16,0),(17,0)] _ (List.Perm.refl _) (by kernel_rfl) rfl (yad hb22 fun m28 hm28 hb22=>yad hb22 fun m29 hm29 hb22=>ybl 18 [0,0] (rg 112 17) [(129,pB ((decide (0<v21))&&(!Op.bytesLess m28.Prefix.toList m29.Prefix.toList)))] (yhn 7 Zh.enc (yfz hm28) (yhn 13 Zh.enc (yfz hm29) fo0)) (by kernel_rfl) (ycd (yab (zif rfl hb22 (fun hc30 hb22=>?_) fun hc30 hb22=>?_)))))))
     ·refine yaa ?_
      refine yac [] [] [(2,pI 9)] fo0 (by kernel_rfl) (yab (yai (yag (yaf (yag ?_)))))
      refine yas hb22 (fun ht=>?_);subst ht
      refine yaf (yhg (yaf (yag ?_)))
      refine yas hb3 (fun ht=>?_);subst ht
      refine yaf (yau ?_)
      obtain rfl:=osi h
      exact zq rfl ⟨rfl,rfl⟩
     refine yah ?_
     refine yab (yaa (yad hb22 fun m31 hm31 hb22=>yad hb22 fun x32 hx32 hb22=>yac [0] (rg 130 7) [(7,pI x32)] (ygt 3 Zh.enc hm31 (ycs 6 (xca hx32) fo0)) (by kernel_rfl) (yab (yaa (yac [] [137] [(138,pB (x32 != 0))] fo0 (by kernel_rfl) (yab (zif rfl hb22 (fun hc33 hb22=>?_) fun hc33 hb22=>?_)))))))
     ·refine yaa ?_
      refine yac [] [139] [(2,pI x32)] fo0 (by kernel_rfl) (yab (yai (yaf (yag ?_))))
      refine yas hb22 (fun ht=>?_);subst ht
      refine yaf (yhg (yaf (yag ?_)))
      refine yas hb3 (fun ht=>?_);subst ht
      refine yaf (yau ?_)
      obtain rfl:=osi h
      exact zq rfl ⟨rfl,rfl⟩
     refine yah ?_
     refine yak (yab (yac [] [102,103] [(6,pI (IntKind.i64.wrap (v21+1)))] fo0 (by kernel_rfl) ?_))
     exact ybd hb22 () (zh4 rfl rfl rfl rfl) (zs1)
    refine yax ?_
    refine yao (yam hb22 (fun ht=>yan rfl ?_))
    exact yja ((),()) (zh2 rfl rfl) zsn ht.symm
   rintro ⟨_,_⟩ τ ρ1 hsub34 hz;(try dsimp only at hz hsub34);subst q23;(try dsimp only at hb3);dsimp only [pupds]
   refine yak (yab (yps hsub34 (yac [] [15,16] [(3,pI (IntKind.i64.wrap (v2+1)))] fo0 (by kernel_rfl) ?_)))
   exact ybd hb3 () (zh2 rfl rfl) zsn
  refine yax ?_
  refine yao (yam hb3 (fun ht=>yan rfl ?_))
  exact yaw ((),()) zhn zsn ht.symm
 rintro ⟨_,_⟩ τ hz;(try dsimp only at hz);subst q4;(try dsimp only at h);dsimp only [pupds]
 refine yaa (yac [] [] [(2,pI 0)] fo0 (by kernel_rfl) (yab (yai ?_)))
 obtain rfl:=osi h
 exact zq rfl ⟨rfl,rfl⟩
def yhs (p0:ByteArray) (p1:ByteArray):Option Bool:=Option.bind (gd (decide ((p1.size:Int)≤(p0.size:Int))) (ssub p0 0 (p1.size:Int))) (fun s1=>some ((decide ((p1.size:Int)≤(p0.size:Int)))&&(decide (s1=p1))))
theorem ypx {p0:ByteArray} {p1:ByteArray} {r:Bool}  (h:yhs p0 p1=some r):PF 96 [pS p0,pS p1] (pB r):=by
 unfold yhs at h
 refine ybp ?_
 refine ybb Tryz.func96 fk96 rfl Tryz.ntmps96 Tryz.results96 rfl (yaa (yac [] [4] [] fo0 (by kernel_rfl) (yab (yaa (yad h fun s1 hs1 h=>yac [] (rg 5 13) [(4,pB ((decide ((p1.size:Int)≤(p0.size:Int)))&&(decide (s1=p1))))] (fossg 9 (yfz hs1) fo0) (by kernel_rfl) (yab (yai ?_)))))))
 obtain rfl:=osi h
 exact zq rfl ⟨rfl,rfl⟩
def ygw (p0:Zc) (p1:ByteArray):Option (Zb×Bool):=Option.bind (loopF (S:=Int×Int) (T:=(Int)) (fun (v3,v4)=>cond (decide (v4<(p0.Rules.length:Int))) (Option.bind (Option.bind (idx p0.Rules v4) (fun m11=>Option.bind (yhs p1 m11.Prefix) (fun x12=>Option.bind (gd (x12&&(!(decide (v3<0)))) (idx p0.Rules v4)) (fun m13=>Option.bind (gd (x12&&(!(decide (v3<0)))) (idx p0.Rules v3)) (fun m14=>cond (x12&&((decide (v3<0))||(decide ((m14.Prefix.size:Int)<(m13.Prefix.size:Int))))) (some v4) (some v3)))))) (fun v9=>some (.inl (v9,(IntKind.i64.wrap (v4+1)))))) (some (.inr v3))) FUEL ((-1),0)) (fun v5=>cond (decide (v5<0)) (some ((⟨0,0,[],0,0,ByteArray.empty,[]⟩:Zb),false)) (Option.bind (idx p0.Rules v5) (fun m17=>some (m17.Rule,true))))
theorem ypy {p0:Zc} {p1:ByteArray} {r:(Zb×Bool)}  (h:ygw p0 p1=some r):PF 53 [.agg [pI p0.ID,pI p0.Kind,pL eS p0.Parties,pL Zh.enc p0.Rules],pS p1] (.tup [.agg [pI r.1.Kind,pI r.1.Digits,pL eS r.1.Except,pI r.1.Tolerance,pI r.1.Limit,pS r.1.Name,pL Zb.enc r.1.Args],pB r.2]):=by
 unfold ygw at h
 refine ybp ?_
 refine ybb Tryz.func53 fk53 rfl Tryz.ntmps53 Tryz.results53 rfl (yaa (yae (yav rfl rfl rfl (ybt (cs:=[pI p0.ID,pI p0.Kind,pL eS p0.Parties,pL Zh.enc p0.Rules]) rfl rfl (fun b1=>yav rfl rfl rfl (yba (cs:=[pI 0,pI 0,pN,pI 0,pI 0,pS ByteArray.empty,pN]) rfl rfl rfl rfl (fun b2=>yap [] [5] [] fo0 (by kernel_rfl) (yab (yaa (yac [] [] [(6,pI (-1))] fo0 (by kernel_rfl) (yab (yaa (yaa (yac [] [] [(7,pI 0)] fo0 (by kernel_rfl) (yab (yad h fun q7 hq7 h=>?_))))))))))))))))
 refine yar (Y:=(Unit)×(Int)) (fun (_,v5)=>[(2,pP b1 0),(4,pP b2 0),(6,pI v5)]) (fun (_,v5)=>[PRes.b b1 52 [pI p0.ID,pI p0.Kind,pL eS p0.Parties,pL Zh.enc p0.Rules],PRes.b b2 68 [pI 0,pI 0,pN,pI 0,pI 0,pS ByteArray.empty,pN]]) (fun (_,v5)=>q7=v5) ?_ ?_
 ·refine yaj ?_
  refine yat (Y:=Unit) (S:=Int×Int) _ hq7 (fun _ (v3,v4)=>[(1,pS p1),(2,pP b1 0),(4,pP b2 0),(6,pI v3),(7,pI v4)]) (fun _ (v3,v4)=>[PRes.b b1 52 [pI p0.ID,pI p0.Kind,pL eS p0.Parties,pL Zh.enc p0.Rules],PRes.b b2 68 [pI 0,pI 0,pN,pI 0,pI 0,pS ByteArray.empty,pN]]) () (zh5 rfl rfl rfl rfl rfl) (zsc (zpt zph) (zs1)) ?_
  rintro _ ⟨v3,v4⟩ o τ hb6;(try dsimp only at hb6);dsimp only [pupds]
  refine yaa (yaa (yac [0] [8,9,10,11] [(12,pB (decide (v4<(p0.Rules.length:Int))))] fo0 (by kernel_rfl) (yab (zif rfl hb6 (fun hc8 hb6=>?_) fun hc8 hb6=>?_))))
  ·refine yah ?_
   refine yab (yaa (yad hb6 fun q10 hq10 hb6=>?_))
   refine yar (Y:=(Unit)×(Int)) (fun (_,v9)=>[(1,pS p1),(2,pP b1 0),(4,pP b2 0),(6,pI v9),(7,pI v4)]) (fun (_,v9)=>[PRes.b b1 52 [pI p0.ID,pI p0.Kind,pL eS p0.Parties,pL Zh.enc p0.Rules],PRes.b b2 68 [pI 0,pI 0,pN,pI 0,pI 0,pS ByteArray.empty,pN]]) (fun (_,v9)=>q10=v9) ?_ ?_
   ·skip
    refine yaj (yaa (ybr (ρd:=[]) [(0,0),(1,0),(2,0),(3,0),(4,0),(5,0),(6,0),(7,1),(8,0),(9,0),(10,0),(11,0),(12,0),(13,0),(14,0),(15,0),(16,0),(17,0),(18,0),(19,0),(20,0),(21,0),(22,0),(23,0),(24,0),(25,0),(26,0),(27,0),(28,0)] _ (List.Perm.refl _) (by kernel_rfl) rfl (yad hq10 fun m11 hm11 hq10=>yad hq10 fun x12 hx12 hq10=>yad hq10 fun m13 hm13 hq10=>yad hq10 fun m14 hm14 hq10=>ybl 29 [0,0,0] (rg 15 28) [(43,pB (x12&&((decide (v3<0))||(decide ((m14.Prefix.size:Int)<(m13.Prefix.size:Int))))))] (ygt 4 Zh.enc hm11 (ycs 7 (ypx hx12) (yhn 15 Zh.enc (yfz hm13) (yhn 22 Zh.enc (yfz hm14) fo0)))) (by kernel_rfl) (ycd (yab (zif rfl hq10 (fun hc15 hq10=>?_) fun hc15 hq10=>?_))))))
    ·refine yac [] [44] [(6,pI v4)] fo0 (by kernel_rfl) ?_
     refine yak ?_
     obtain rfl:=osi hq10
     exact yaw ((),v4) (zh5 rfl rfl rfl rfl rfl) (zs2) rfl
    refine yah ?_
    refine yak ?_
    obtain rfl:=osi hq10
    exact yaw ((),v3) (zh5 rfl rfl rfl rfl rfl) (zs2) rfl
   rintro ⟨_,v9⟩ τ hz;(try dsimp only at hz);subst q10;(try dsimp only at hb6);dsimp only [pupds]
   refine yac [] [13,14] [(7,pI (IntKind.i64.wrap (v4+1)))] fo0 (by kernel_rfl) ?_
   exact ybd hb6 () (zh5 rfl rfl rfl rfl rfl) (zs2)
  refine yax ?_
  refine yao (yam hb6 (fun ht=>yan rfl ?_))
  exact yaw ((),v3) (zh3 rfl rfl rfl) (zs2) ht.symm
 rintro ⟨_,v5⟩ τ hz;(try dsimp only at hz);subst q7;(try dsimp only at h);dsimp only [pupds]
 refine yaa (yaa (yac [] [45] [(46,pB (decide (v5<0)))] fo0 (by kernel_rfl) (yab (zif rfl h (fun hc16 h=>?_) fun hc16 h=>?_))))
 ·refine yaa ?_
  refine yae (yal 1 [] [] [(47,.agg [pI 0,pI 0,pN,pI 0,pI 0,pS ByteArray.empty,pN])] fo0 (by kernel_rfl) (ybh rfl rfl (yaq (vs:=[pI 0,pI 0,pN,pI 0,pI 0,pS ByteArray.empty,pN]) rfl rfl rfl rfl rfl (zut zuh) (zl7) (yap [] [] [(5,pB false)] fo0 (by kernel_rfl) (yab (ydn (k:=2) (b:=b2) rfl (zut zuh) (ydn (k:=6) (b:=b2) rfl (zut zuh) (yai (yag ?_)))))))))
  obtain rfl:=osi h
  exact ybe (yee (yfi rfl zm1 rfl) (ybi rfl)) zsn ⟨rfl,rfl⟩
 refine yah ?_
 refine yab (yaa (yad h fun m17 hm17 h=>yae (yal 6 [0] (rg 48 5) [(53,.agg [pI m17.Rule.Kind,pI m17.Rule.Digits,pL eS m17.Rule.Except,pI m17.Rule.Tolerance,pI m17.Rule.Limit,pS m17.Rule.Name,pL Zb.enc m17.Rule.Args])] (ygt 3 Zh.enc hm17 fo0) (by kernel_rfl) (ybh rfl rfl (yaq (vs:=[pI m17.Rule.Kind,pI m17.Rule.Digits,pL eS m17.Rule.Except,pI m17.Rule.Tolerance,pI m17.Rule.Limit,pS m17.Rule.Name,pL Zb.enc m17.Rule.Args]) rfl rfl rfl rfl rfl (zut zuh) (zl7) (yap [] [] [(5,pB true)] fo0 (by kernel_rfl) (yab (yai ?_))))))))
 obtain rfl:=osi h
 exact ybe (yee (yfi rfl zm1 rfl) (ybi rfl)) zsn ⟨rfl,rfl⟩
def yfc (p0:(List Zc)) (p1:Int):Option (Zc×Bool):=Option.bind (loopF (S:=Int) (T:=(Unit)⊕(_)) (fun v2=>cond (decide (v2<(p0.length:Int))) (Option.bind (idx p0 v2) (fun m6=>cond (m6.ID == p1) (Option.bind (idx p0 v2) (fun m8=>some (.inr (.inr (m8,true))))) (some (.inl (IntKind.i64.wrap (v2+1)))))) (some (.inr (.inl ())))) FUEL 0) (fun q=>match q with | .inl _=>some ((⟨0,0,[],[]⟩:Zc),false) | .inr e=>some e)
theorem yjn {p0:(List Zc)} {p1:Int} {r:(Zc×Bool)}  (h:yfc p0 p1=some r):PF 62 [pL Zc.enc p0,pI p1] (.tup [.agg [pI r.1.ID,pI r.1.Kind,pL eS r.1.Parties,pL Zh.enc r.1.Rules],pB r.2]):=by
 unfold yfc at h
 refine ybp ?_
 refine ybb Tryz.func62 fk62 rfl Tryz.ntmps62 Tryz.results62 rfl (yaa (yae (yav rfl rfl rfl (yba (cs:=[pI 0,pI 0,pN,pN]) rfl rfl rfl rfl (fun b1=>yap [] [5] [] fo0 (by kernel_rfl) (yab (yaa (yaa (yac [] [] [(6,pI 0)] fo0 (by kernel_rfl) (yab (yad h fun q4 hq4 h=>?_)))))))))))
 refine yar (Y:=(Unit)×(Unit)) (fun (_,_)=>[(4,pP b1 0)]) (fun (_,_)=>[PRes.b b1 52 [pI 0,pI 0,pN,pN]]) (fun (_,_)=>q4=Sum.inl ()) ?_ ?_
 ·refine yaj ?_
  refine yat (Y:=Unit) (S:=Int) _ hq4 (fun _ v2=>[(0,pL Zc.enc p0),(1,pI p1),(4,pP b1 0),(6,pI v2)]) (fun _ v2=>[PRes.b b1 52 [pI 0,pI 0,pN,pN]]) () (zh4 rfl rfl rfl rfl) (zs1) ?_
  rintro _ v2 o τ hb3;(try dsimp only at hb3);dsimp only [pupds]
  refine yaa (yaa (yac [] [7,8,9] [(10,pB (decide (v2<(p0.length:Int))))] fo0 (by kernel_rfl) (yab (zif rfl hb3 (fun hc5 hb3=>?_) fun hc5 hb3=>?_))))
  ·refine yah ?_
   refine yab (yaa (yaj (yaa (yad hb3 fun m6 hm6 hb3=>yac [] (rg 13 6) [(19,pB (m6.ID == p1))] (ygt 2 Zc.enc hm6 fo0) (by kernel_rfl) (yab (zif rfl hb3 (fun hc7 hb3=>?_) fun hc7 hb3=>?_))))))
   ·refine yaa ?_
    refine yad hb3 fun m8 hm8 hb3=>yae (yal 4 [] [20,21,22] [(23,.agg [pI m8.ID,pI m8.Kind,pL eS m8.Parties,pL Zh.enc m8.Rules])] (ygt 2 Zc.enc hm8 fo0) (by kernel_rfl) (ybh rfl rfl (yaq (vs:=[pI m8.ID,pI m8.Kind,pL eS m8.Parties,pL Zh.enc m8.Rules]) rfl rfl rfl rfl rfl zuh (zl4) (yap [] [] [(5,pB true)] fo0 (by kernel_rfl) (yab (yai (yaf (yag ?_))))))))
    refine yas hb3 (fun ht=>?_);subst ht
    refine yaf (yau ?_)
    obtain rfl:=osi h
    exact ybe (yee (yfi rfl zm0 rfl) (ybi rfl)) zsn ⟨rfl,rfl⟩
   refine yah ?_
   refine yak (yab (yac [] [11,12] [(6,pI (IntKind.i64.wrap (v2+1)))] fo0 (by kernel_rfl) ?_))
   exact ybd hb3 () (zh4 rfl rfl rfl rfl) (zs1)
  refine yax ?_
  refine yao (yam hb3 (fun ht=>yan rfl ?_))
  exact yaw ((),()) (zh1 rfl) (zs1) ht.symm
 rintro ⟨_,_⟩ τ hz;(try dsimp only at hz);subst q4;(try dsimp only at h);dsimp only [pupds]
 refine yaa (yae (yal 1 [] [] [(24,.agg [pI 0,pI 0,pN,pN])] fo0 (by kernel_rfl) (ybh rfl rfl (yaq (vs:=[pI 0,pI 0,pN,pN]) rfl rfl rfl rfl rfl zuh (zl4) (yap [] [] [(5,pB false)] fo0 (by kernel_rfl) (yab (ydn (k:=2) (b:=b1) rfl zuh (ydn (k:=3) (b:=b1) rfl zuh (yai ?_)))))))))
 obtain rfl:=osi h
 exact ybe (yee (yfi rfl zm0 rfl) (ybi rfl)) zsn ⟨rfl,rfl⟩
def yin (p0:(List ByteArray)) (p1:ByteArray):Option Bool:=Option.bind (loopF (S:=Int) (T:=(Unit)⊕(_)) (fun v1=>cond (decide (v1<(p0.length:Int))) (Option.bind (idx p0 v1) (fun m5=>cond (decide (m5=p1)) (some (.inr (.inr true))) (some (.inl (IntKind.i64.wrap (v1+1)))))) (some (.inr (.inl ())))) FUEL 0) (fun q=>match q with | .inl _=>some false | .inr e=>some e)
theorem yjb {p0:(List ByteArray)} {p1:ByteArray} {r:Bool}  (h:yin p0 p1=some r):PF 91 [pL eS p0,pS p1] (pB r):=by
 unfold yin at h
 refine ybp ?_
 refine ybb Tryz.func91 fk91 rfl Tryz.ntmps91 Tryz.results91 rfl (yaa (yac [] [4] [] fo0 (by kernel_rfl) (yab (yaa (yaa (yac [] [] [(5,pI 0)] fo0 (by kernel_rfl) (yab (yad h fun q3 hq3 h=>?_))))))))
 refine yar (Y:=(Unit)×(Unit)) (fun (_,_)=>[]) (fun (_,_)=>[]) (fun (_,_)=>q3=Sum.inl ()) ?_ ?_
 ·refine yaj ?_
  refine yat (Y:=Unit) (S:=Int) _ hq3 (fun _ v1=>[(0,pL eS p0),(1,pS p1),(5,pI v1)]) (fun _ v1=>[]) () (zh3 rfl rfl rfl) zsn ?_
  rintro _ v1 o τ hb2;(try dsimp only at hb2);dsimp only [pupds]
  refine yaa (yaa (yac [] [6,7,8] [(9,pB (decide (v1<(p0.length:Int))))] fo0 (by kernel_rfl) (yab (zif rfl hb2 (fun hc4 hb2=>?_) fun hc4 hb2=>?_))))
  ·refine yah ?_
   refine yab (yaa (yaj (yaa (yad hb2 fun m5 hm5 hb2=>yac [] (rg 12 5) [(17,pB (decide (m5=p1)))] (ygt 2 eS hm5 fo0) (by kernel_rfl) (yab (zif rfl hb2 (fun hc6 hb2=>?_) fun hc6 hb2=>?_))))))
   ·refine yaa ?_
    refine yac [] [] [(4,pB true)] fo0 (by kernel_rfl) (yab (yai (yaf (yag ?_))))
    refine yas hb2 (fun ht=>?_);subst ht
    refine yaf (yau ?_)
    obtain rfl:=osi h
    exact zq rfl ⟨rfl,rfl⟩
   refine yah ?_
   refine yak (yab (yac [] [10,11] [(5,pI (IntKind.i64.wrap (v1+1)))] fo0 (by kernel_rfl) ?_))
   exact ybd hb2 () (zh3 rfl rfl rfl) zsn
  refine yax ?_
  refine yao (yam hb2 (fun ht=>yan rfl ?_))
  exact yaw ((),()) zhn zsn ht.symm
 rintro ⟨_,_⟩ τ hz;(try dsimp only at hz);subst q3;(try dsimp only at h);dsimp only [pupds]
 refine yaa (yac [] [] [(4,pB false)] fo0 (by kernel_rfl) (yab (yai ?_)))
 obtain rfl:=osi h
 exact zq rfl ⟨rfl,rfl⟩
def ydq (p0:(List Zd)) (p1:(List Zc)) (p2:ByteArray) (p3:Za):Option Bool:=Option.bind (ygh p0 p3.Product) (fun x2=>Option.bind (yfc p1 p3.Agreement) (fun x4=>Option.bind (ygw x4.1 x2.1.Code) (fun x6=>Option.bind (gd (((x2.2&&x4.2)&&x6.2)&&(!decide (x2.1.Country=p2))) (yin x4.1.Parties x2.1.Country)) (fun x8=>Option.bind (gd ((((x2.2&&x4.2)&&x6.2)&&(!decide (x2.1.Country=p2)))&&x8) (yin x4.1.Parties p2)) (fun x9=>some (((((x2.2&&x4.2)&&x6.2)&&(!decide (x2.1.Country=p2)))&&x8)&&x9))))))
theorem ymp {p0:(List Zd)} {p1:(List Zc)} {p2:ByteArray} {p3:Za} {r:Bool}  (h:ydq p0 p1 p2 p3=some r):PF 51 [pL Zd.enc p0,pL Zc.enc p1,pS p2,.agg [pI p3.Product,pI p3.Agreement]] (pB r):=by
 unfold ydq at h
 refine ybp ?_
 refine ybb Tryz.func51 fk51 rfl Tryz.ntmps51 Tryz.results51 rfl (yaa (yae (yav rfl rfl rfl (ybt (cs:=[pI p3.Product,pI p3.Agreement]) rfl rfl (fun b1=>yap [] [8] [] fo0 (by kernel_rfl) (yab (yaa (yad h fun x2 hx2 h=>yae (yal 7 [0] [16,17,18,19,15] [(20,.agg [pI x2.1.ID,pS x2.1.Code,pS x2.1.Country,pI x2.1.Price,pB x2.1.Obtained,pL eS x2.1.Processes,pL Zf.enc x2.1.Inputs]),(21,pB x2.2)] (ycs 3 (yjk hx2) fo0) (by kernel_rfl) (yav rfl rfl rfl (yba (cs:=[pI 0,pS ByteArray.empty,pS ByteArray.empty,pI 0,pB false,pN,pN]) rfl rfl rfl rfl (fun b3=>ybh rfl rfl (yaq (vs:=[pI x2.1.ID,pS x2.1.Code,pS x2.1.Country,pI x2.1.Price,pB x2.1.Obtained,pL eS x2.1.Processes,pL Zf.enc x2.1.Inputs]) rfl rfl rfl rfl rfl zuh (zl7) (yap [] [] [(10,pB x2.2)] fo0 (by kernel_rfl) (yab (yaa (yad h fun x4 hx4 h=>yae (yal 7 [1] [23,24,25,26,22] [(27,.agg [pI x4.1.ID,pI x4.1.Kind,pL eS x4.1.Parties,pL Zh.enc x4.1.Rules]),(28,pB x4.2)] (ycs 3 (yjn hx4) fo0) (by kernel_rfl) (yav rfl rfl rfl (yba (cs:=[pI 0,pI 0,pN,pN]) rfl rfl rfl rfl (fun b5=>ybh rfl rfl (yaq (vs:=[pI x4.1.ID,pI x4.1.Kind,pL eS x4.1.Parties,pL Zh.enc x4.1.Rules]) rfl rfl rfl rfl rfl zuh (zl4) (yap [] [] [(12,pB x4.2)] fo0 (by kernel_rfl) (yab (yaa (yad h fun x6 hx6 h=>yae (yal 7 [0,1] [30,31,32,33,29] [(34,.agg [pI x6.1.Kind,pI x6.1.Digits,pL eS x6.1.Except,pI x6.1.Tolerance,pI x6.1.Limit,pS x6.1.Name,pL Zb.enc x6.1.Args]),(35,pB x6.2)] (ycs 3 (ypy hx6) fo0) (by kernel_rfl) (yav rfl rfl rfl (yba (cs:=[pI 0,pI 0,pN,pI 0,pI 0,pS ByteArray.empty,pN]) rfl rfl rfl rfl (fun b7=>ybh rfl rfl (yaq (vs:=[pI x6.1.Kind,pI x6.1.Digits,pL eS x6.1.Except,pI x6.1.Tolerance,pI x6.1.Limit,pS x6.1.Name,pL Zb.enc x6.1.Args]) rfl rfl rfl rfl rfl zuh (zl7) (yap [] [] [(14,pB x6.2)] fo0 (by kernel_rfl) (yab (yaa (yad h fun x8 hx8 h=>yad h fun x9 hx9 h=>yac [2,1,2,1] (rg 36 26) [(8,pB (((((x2.2&&x4.2)&&x6.2)&&(!decide (x2.1.Country=p2)))&&x8)&&x9))] (ygu 18 (fun hc=>yjb (yfz hx8 hc)) (ygu 24 (fun hc=>yjb (yfz hx9 hc)) fo0)) (by kernel_rfl) (yab (yai ?_)))))))))))))))))))))))))))))))))))))
 obtain rfl:=osi h
 exact zq rfl ⟨rfl,rfl⟩
def ymb (p0:Za) (p1:Za):Option Bool:=some ((decide (p0.Product<p1.Product))||((p0.Product == p1.Product)&&(decide (p0.Agreement<p1.Agreement))))
theorem xcb {p0:Za} {p1:Za} {r:Bool}  (h:ymb p0 p1=some r):PF 98 [.agg [pI p0.Product,pI p0.Agreement],.agg [pI p1.Product,pI p1.Agreement]] (pB r):=by
 unfold ymb at h
 refine ybp ?_
 refine ybb Tryz.func98 fk98 rfl Tryz.ntmps98 Tryz.results98 rfl (yaa (yae (yav rfl rfl rfl (ybt (cs:=[pI p0.Product,pI p0.Agreement]) rfl rfl (fun b1=>yav rfl rfl rfl (ybt (cs:=[pI p1.Product,pI p1.Agreement]) rfl rfl (fun b2=>yap [] [4] [] fo0 (by kernel_rfl) (yab (yaa (yac [1,0,1,0,1,0] (rg 5 19) [(4,pB ((decide (p0.Product<p1.Product))||((p0.Product == p1.Product)&&(decide (p0.Agreement<p1.Agreement)))))] fo0 (by kernel_rfl) (yab (yai ?_))))))))))))
 obtain rfl:=osi h
 exact zq rfl ⟨rfl,rfl⟩
def ygi (p0:(List Za)) (p1:Za):Option (List Za):=Option.bind (yef p0 p1) (fun x2=>cond x2 (some p0) (Option.bind (loopF (S:=Int) (T:=(Int)) (fun v4=>Option.bind (gd (decide (v4<(p0.length:Int))) (idx p0 v4)) (fun m8=>Option.bind (gd (decide (v4<(p0.length:Int))) (ymb m8 p1)) (fun x9=>cond ((decide (v4<(p0.length:Int)))&&x9) (some (.inl (IntKind.i64.wrap (v4+1)))) (some (.inr v4))))) FUEL 0) (fun v5=>Option.bind (sub p0 0 v5) (fun l11=>Option.bind (sub p0 v5 (p0.length:Int)) (fun l12=>Option.bind (app 16 ([]:List Za) l11) (fun l15=>Option.bind (app 16 l15 [p1]) (fun l21=>Option.bind (app 16 l21 l12) (fun l25=>some l25))))))))
theorem yoq {p0:(List Za)} {p1:Za} {r:(List Za)}  (h:ygi p0 p1=some r):PF 55 [pL Za.enc p0,.agg [pI p1.Product,pI p1.Agreement]] (pL Za.enc r):=by
 unfold ygi at h
 refine ybp ?_
 refine ybb Tryz.func55 fk55 rfl Tryz.ntmps55 Tryz.results55 rfl (yaa (yae (yav rfl rfl rfl (ybt (cs:=[pI p1.Product,pI p1.Agreement]) rfl rfl (fun b1=>yap [] [4] [] fo0 (by kernel_rfl) (yab (yaa (yaa (yad h fun x2 hx2 h=>yac [0] [6,7] [(8,pB x2)] (ycs 2 (yke hx2) fo0) (by kernel_rfl) (yab (zif rfl h (fun hc3 h=>?_) fun hc3 h=>?_)))))))))))
 ·refine yaa ?_
  refine yac [] [9] [(4,pL Za.enc p0)] fo0 (by kernel_rfl) (yab (yai (yag ?_)))
  obtain rfl:=osi h
  exact zq rfl ⟨rfl,rfl⟩
 refine yah ?_
 refine yab (yaa (yac [] [] [(5,pI 0)] fo0 (by kernel_rfl) (yab (yaa (yad h fun q7 hq7 h=>?_)))))
 refine yar (Y:=(Unit)×(Int)) (fun (_,v5)=>[(0,pL Za.enc p0),(3,pP b1 0),(5,pI v5)]) (fun (_,v5)=>[PRes.b b1 54 [pI p1.Product,pI p1.Agreement]]) (fun (_,v5)=>q7=v5) ?_ ?_
 ·refine yaj ?_
  refine yat (Y:=Unit) (S:=Int) _ hq7 (fun _ v4=>[(0,pL Za.enc p0),(3,pP b1 0),(5,pI v4)]) (fun _ v4=>[PRes.b b1 54 [pI p1.Product,pI p1.Agreement]]) () (zh3 rfl rfl rfl) (zs1) ?_
  rintro _ v4 o τ hb6;(try dsimp only at hb6);dsimp only [pupds]
  refine yaa (yaa (ybr (ρd:=[]) [(0,0),(1,0),(2,0),(3,0),(4,0),(5,0),(6,0),(7,0),(8,0),(9,0),(10,1),(11,0)] _ (List.Perm.refl _) (by kernel_rfl) rfl (yad hb6 fun m8 hm8 hb6=>yad hb6 fun x9 hx9 hb6=>ybl 12 [0] (rg 10 11) [(21,pB ((decide (v4<(p0.length:Int)))&&x9))] (yhn 7 Za.enc (yfz hm8) (ygu 10 (fun hc=>xcb (yfz hx9 hc)) fo0)) (by kernel_rfl) (ycd (yab (zif rfl hb6 (fun hc10 hb6=>?_) fun hc10 hb6=>?_))))))
  ·refine yah ?_
   refine yab (yaj (yac [] [22,23] [(5,pI (IntKind.i64.wrap (v4+1)))] fo0 (by kernel_rfl) (yak ?_)))
   exact ybd hb6 () (zh3 rfl rfl rfl) (zs1)
  refine yax ?_
  refine yao (yam hb6 (fun ht=>yan rfl ?_))
  exact yaw ((),v4) (zh3 rfl rfl rfl) (zs1) ht.symm
 rintro ⟨_,v5⟩ τ hz;(try dsimp only at hz);subst q7;(try dsimp only at h);dsimp only [pupds]
 refine yaa (ybr (ρd:=[]) [(1,0),(2,0),(3,0),(5,0),(6,3),(8,0),(9,0),(10,0),(0,1),(4,1),(6,2),(7,1),(11,1),(12,0)] _ (List.Perm.refl _) (by kernel_rfl) rfl (yad h fun l11 hl11 h=>ybl 4 [0] [25,26] [(27,pL Za.enc l11),(29,.agg [pI p1.Product,pI p1.Agreement])] (fosl 2 Za.enc 2 (fun _=>rfl) hl11 fo0) (by kernel_rfl) (xij (ysm rfl rfl rfl rfl rfl (zic rfl zin) rfl rfl rfl) (yad h fun l12 hl12 h=>ybl 3 [] [32,33] [(34,pL Za.enc l12)] (fosl 2 Za.enc 2 (fun _=>rfl) hl12 fo0) (by kernel_rfl) (ynq rfl rfl rfl (ycg rfl rfl rfl rfl rfl zin rfl rfl rfl rfl (fun b13=>yad h fun l15 hl15 h=>?_)))))))
 refine ynq rfl rfl rfl (yji (enc:=Za.enc) rfl rfl rfl rfl rfl (fun _=>rfl) rfl rfl rfl (by exact zph) hl15 (fun a16 c17=>?_))
 refine yvg (ysm rfl rfl rfl rfl rfl (zic rfl zin) rfl rfl rfl) (fun _=>rfl) rfl (fun b19=>yad h fun l21 hl21 h=>?_)
 refine ynq rfl rfl rfl (xih (enc:=Za.enc) rfl rfl rfl rfl rfl (fun _=>rfl) rfl rfl rfl rfl zm0 rfl (by exact zpt zph) hl21 (fun a22 c23=>?_))
 refine yad h fun l25 hl25 h=>?_
 refine ynq rfl rfl rfl (yji (enc:=Za.enc) rfl rfl rfl rfl rfl (fun _=>rfl) rfl rfl rfl (by exact zph) hl25 (fun a26 c27=>?_))
 refine ybl 1 [] [] [(4,pO a26 l25.length c27)] fo0 (by kernel_rfl) (ycd (yab ?_))
 refine yen (enc:=Za.enc) (xs:=l25) 4 rfl (by exact zph) ?_
 refine yai ?_
 obtain rfl:=osi h
 exact zq rfl ⟨rfl,rfl⟩
def ygj (p0:(List ByteArray)) (p1:(List ByteArray)):Option Bool:=cond ((p0.length:Int) != (p1.length:Int)) (some false) (Option.bind (loopF (S:=Int) (T:=(Unit)⊕(_)) (fun v2=>cond (decide (v2<(p0.length:Int))) (Option.bind (idx p0 v2) (fun m6=>Option.bind (idx p1 v2) (fun m7=>cond (!decide (m6=m7)) (some (.inr (.inr false))) (some (.inl (IntKind.i64.wrap (v2+1))))))) (some (.inr (.inl ())))) FUEL 0) (fun q=>match q with | .inl _=>some true | .inr e=>some e))
theorem yqz {p0:(List ByteArray)} {p1:(List ByteArray)} {r:Bool}  (h:ygj p0 p1=some r):PF 187 [pL eS p0,pL eS p1] (pB r):=by
 unfold ygj at h
 refine ybp ?_
 refine ybb Tryz.func187 fk187 rfl Tryz.ntmps187 Tryz.results187 rfl (yaa (yac [] [4] [] fo0 (by kernel_rfl) (yab (yaa (yaa (yac [] [6,7,8,9] [(10,pB ((p0.length:Int) != (p1.length:Int)))] fo0 (by kernel_rfl) (yab (zif rfl h (fun hc1 h=>?_) fun hc1 h=>?_))))))))
 ·refine yaa ?_
  refine yac [] [] [(4,pB false)] fo0 (by kernel_rfl) (yab (yai (yag ?_)))
  obtain rfl:=osi h
  exact zq rfl ⟨rfl,rfl⟩
 refine yah ?_
 refine yab (yaa (yaa (yac [] [] [(5,pI 0)] fo0 (by kernel_rfl) (yab (yad h fun q4 hq4 h=>?_)))))
 refine yar (Y:=(Unit)×(Unit)) (fun (_,_)=>[]) (fun (_,_)=>[]) (fun (_,_)=>q4=Sum.inl ()) ?_ ?_
 ·refine yaj ?_
  refine yat (Y:=Unit) (S:=Int) _ hq4 (fun _ v2=>[(0,pL eS p0),(1,pL eS p1),(5,pI v2)]) (fun _ v2=>[]) () (zh3 rfl rfl rfl) zsn ?_
  rintro _ v2 o τ hb3;(try dsimp only at hb3);dsimp only [pupds]
  refine yaa (yaa (yac [] [11,12,13] [(14,pB (decide (v2<(p0.length:Int))))] fo0 (by kernel_rfl) (yab (zif rfl hb3 (fun hc5 hb3=>?_) fun hc5 hb3=>?_))))
  ·refine yah ?_
   refine yab (yaa (yaj (yaa (ybr (ρd:=[]) [(0,0),(1,0),(2,0),(3,0),(4,0),(5,0),(6,0),(7,0),(8,0)] _ (List.Perm.refl _) (by kernel_rfl) rfl (yad hb3 fun m6 hm6 hb3=>yad hb3 fun m7 hm7 hb3=>ybl 9 [] (rg 17 8) [(25,pB (!decide (m6=m7)))] (ygt 2 eS hm6 (ygt 6 eS hm7 fo0)) (by kernel_rfl) (ycd (yab (zif rfl hb3 (fun hc8 hb3=>?_) fun hc8 hb3=>?_))))))))
   ·refine yaa ?_
    refine yac [] [] [(4,pB false)] fo0 (by kernel_rfl) (yab (yai (yaf (yag ?_))))
    refine yas hb3 (fun ht=>?_);subst ht
    refine yaf (yau ?_)
    obtain rfl:=osi h
    exact zq rfl ⟨rfl,rfl⟩
   refine yah ?_
   refine yak (yab (yac [] [15,16] [(5,pI (IntKind.i64.wrap (v2+1)))] fo0 (by kernel_rfl) ?_))
   exact ybd hb3 () (zh3 rfl rfl rfl) zsn
  refine yax ?_
  refine yao (yam hb3 (fun ht=>yan rfl ?_))
  exact yaw ((),()) zhn zsn ht.symm
 rintro ⟨_,_⟩ τ hz;(try dsimp only at hz);subst q4;(try dsimp only at h);dsimp only [pupds]
 refine yaa (yac [] [] [(4,pB true)] fo0 (by kernel_rfl) (yab (yai ?_)))
 obtain rfl:=osi h
 exact zq rfl ⟨rfl,rfl⟩
def yhe (rec:Zb→Zb→Option Bool) (p0:Zb) (p1:Zb):Option Bool:=Option.bind (gd (!(((((p0.Kind != p1.Kind)||(p0.Digits != p1.Digits))||(p0.Tolerance != p1.Tolerance))||(p0.Limit != p1.Limit))||(!decide (p0.Name=p1.Name)))) (ygj p0.Except p1.Except)) (fun x3=>cond (((((((p0.Kind != p1.Kind)||(p0.Digits != p1.Digits))||(p0.Tolerance != p1.Tolerance))||(p0.Limit != p1.Limit))||(!decide (p0.Name=p1.Name)))||(!x3))||((p0.Args.length:Int) != (p1.Args.length:Int))) (some false) (Option.bind (loopF (S:=Int) (T:=(Unit)⊕(_)) (fun v5=>cond (decide (v5<(p0.Args.length:Int))) (Option.bind (idx p0.Args v5) (fun m9=>Option.bind (idx p1.Args v5) (fun m10=>Option.bind (rec m9 m10) (fun x11=>cond (!x11) (some (.inr (.inr false))) (some (.inl (IntKind.i64.wrap (v5+1)))))))) (some (.inr (.inl ())))) FUEL 0) (fun q=>match q with | .inl _=>some true | .inr e=>some e)))
theorem yrx {rec:Zb→Zb→Option Bool} (hrec:∀ {p0:Zb} {p1:Zb} {r:Bool},rec p0 p1=some r→PF 168 [.agg [pI p0.Kind,pI p0.Digits,pL eS p0.Except,pI p0.Tolerance,pI p0.Limit,pS p0.Name,pL Zb.enc p0.Args],.agg [pI p1.Kind,pI p1.Digits,pL eS p1.Except,pI p1.Tolerance,pI p1.Limit,pS p1.Name,pL Zb.enc p1.Args]] (pB r)) {p0:Zb} {p1:Zb} {r:Bool} (h:yhe rec p0 p1=some r):PF 168 [.agg [pI p0.Kind,pI p0.Digits,pL eS p0.Except,pI p0.Tolerance,pI p0.Limit,pS p0.Name,pL Zb.enc p0.Args],.agg [pI p1.Kind,pI p1.Digits,pL eS p1.Except,pI p1.Tolerance,pI p1.Limit,pS p1.Name,pL Zb.enc p1.Args]] (pB r):=by
 unfold yhe at h
 refine ybp ?_
 refine ybb Tryz.func168 fk168 rfl Tryz.ntmps168 Tryz.results168 rfl (yaa (yae (yav rfl rfl rfl (ybt (cs:=[pI p0.Kind,pI p0.Digits,pL eS p0.Except,pI p0.Tolerance,pI p0.Limit,pS p0.Name,pL Zb.enc p0.Args]) rfl rfl (fun b1=>yav rfl rfl rfl (ybt (cs:=[pI p1.Kind,pI p1.Digits,pL eS p1.Except,pI p1.Tolerance,pI p1.Limit,pS p1.Name,pL Zb.enc p1.Args]) rfl rfl (fun b2=>yap [] [4] [] fo0 (by kernel_rfl) (yab (yaa (yaa (yad h fun x3 hx3 h=>yac [1,0,1,0,1,0,1,0,1,0,1,0,1,0] (rg 6 49) [(55,pB (((((((p0.Kind != p1.Kind)||(p0.Digits != p1.Digits))||(p0.Tolerance != p1.Tolerance))||(p0.Limit != p1.Limit))||(!decide (p0.Name=p1.Name)))||(!x3))||((p0.Args.length:Int) != (p1.Args.length:Int))))] (ygu 38 (fun hc=>yqz (yfz hx3 hc)) fo0) (by kernel_rfl) (yab (zif rfl h (fun hc4 h=>?_) fun hc4 h=>?_)))))))))))))
 ·refine yaa ?_
  refine yac [] [] [(4,pB false)] fo0 (by kernel_rfl) (yab (yai (yag ?_)))
  obtain rfl:=osi h
  exact zq rfl ⟨rfl,rfl⟩
 refine yah ?_
 refine yab (yaa (yaa (yac [] [] [(5,pI 0)] fo0 (by kernel_rfl) (yab (yad h fun q7 hq7 h=>?_)))))
 refine yar (Y:=(Unit)×(Unit)) (fun (_,_)=>[]) (fun (_,_)=>[]) (fun (_,_)=>q7=Sum.inl ()) ?_ ?_
 ·refine yaj ?_
  refine yat (Y:=Unit) (S:=Int) _ hq7 (fun _ v5=>[(2,pP b1 0),(3,pP b2 0),(5,pI v5)]) (fun _ v5=>[PRes.b b1 68 [pI p0.Kind,pI p0.Digits,pL eS p0.Except,pI p0.Tolerance,pI p0.Limit,pS p0.Name,pL Zb.enc p0.Args],PRes.b b2 68 [pI p1.Kind,pI p1.Digits,pL eS p1.Except,pI p1.Tolerance,pI p1.Limit,pS p1.Name,pL Zb.enc p1.Args]]) () (zh3 rfl rfl rfl) (zsc (zpt zph) (zs1)) ?_
  rintro _ v5 o τ hb6;(try dsimp only at hb6);dsimp only [pupds]
  refine yaa (yaa (yac [0] [56,57,58,59] [(60,pB (decide (v5<(p0.Args.length:Int))))] fo0 (by kernel_rfl) (yab (zif rfl hb6 (fun hc8 hb6=>?_) fun hc8 hb6=>?_))))
  ·refine yah ?_
   refine yab (yaa (yaj (yaa (ybr (ρd:=[]) [(0,0),(1,0),(2,0),(3,0),(4,0),(5,0),(6,0),(7,0),(8,0),(9,0),(10,1),(11,0)] _ (List.Perm.refl _) (by kernel_rfl) rfl (yad hb6 fun m9 hm9 hb6=>yad hb6 fun m10 hm10 hb6=>yad hb6 fun x11 hx11 hb6=>ybl 12 [0,1] (rg 63 11) [(74,pB (!x11))] (yut 3 Zb.enc (Zb.enc_eq _) hm9 (yut 8 Zb.enc (Zb.enc_eq _) hm10 (ycs 10 (hrec hx11) fo0))) (by kernel_rfl) (ycd (yab (zif rfl hb6 (fun hc12 hb6=>?_) fun hc12 hb6=>?_))))))))
   ·refine yaa ?_
    refine yac [] [] [(4,pB false)] fo0 (by kernel_rfl) (yab (yai (yaf (yag ?_))))
    refine yas hb6 (fun ht=>?_);subst ht
    refine yaf (yau ?_)
    obtain rfl:=osi h
    exact zq rfl ⟨rfl,rfl⟩
   refine yah ?_
   refine yak (yab (yac [] [61,62] [(5,pI (IntKind.i64.wrap (v5+1)))] fo0 (by kernel_rfl) ?_))
   exact ybd hb6 () (zh3 rfl rfl rfl) (zs2)
  refine yax ?_
  refine yao (yam hb6 (fun ht=>yan rfl ?_))
  exact yaw ((),()) zhn zsn ht.symm
 rintro ⟨_,_⟩ τ hz;(try dsimp only at hz);subst q7;(try dsimp only at h);dsimp only [pupds]
 refine yaa (yac [] [] [(4,pB true)] fo0 (by kernel_rfl) (yab (yai ?_)))
 obtain rfl:=osi h
 exact zq rfl ⟨rfl,rfl⟩
def yiv (n:Nat):Zb→Zb→Option Bool:=Nat.rec (motive:=fun _=>Zb→Zb→Option Bool) (fun _ _=>none) (fun _ ih=>yhe ih) n
def ynl (p0:Zb) (p1:Zb):Option Bool:=yiv FUEL p0 p1
theorem yst (n:Nat):∀ {p0:Zb} {p1:Zb} {r:Bool},yiv n p0 p1=some r→PF 168 [.agg [pI p0.Kind,pI p0.Digits,pL eS p0.Except,pI p0.Tolerance,pI p0.Limit,pS p0.Name,pL Zb.enc p0.Args],.agg [pI p1.Kind,pI p1.Digits,pL eS p1.Except,pI p1.Tolerance,pI p1.Limit,pS p1.Name,pL Zb.enc p1.Args]] (pB r):=by
 induction n with
 | zero=>intros;rename_i h;exact nomatch h
 | succ n ih=>intros;rename_i h;exact yrx (fun hr=>ih hr) h
theorem ytv {p0:Zb} {p1:Zb} {r:Bool} (h:ynl p0 p1=some r):PF 168 [.agg [pI p0.Kind,pI p0.Digits,pL eS p0.Except,pI p0.Tolerance,pI p0.Limit,pS p0.Name,pL Zb.enc p0.Args],.agg [pI p1.Kind,pI p1.Digits,pL eS p1.Except,pI p1.Tolerance,pI p1.Limit,pS p1.Name,pL Zb.enc p1.Args]] (pB r):=yst FUEL h
def yht (p0:(List Zh)) (p1:(List Zh)):Option Bool:=cond ((p0.length:Int) != (p1.length:Int)) (some false) (Option.bind (loopF (S:=Int) (T:=(Unit)⊕(_)) (fun v2=>cond (decide (v2<(p0.length:Int))) (Option.bind (idx p0 v2) (fun m6=>Option.bind (idx p1 v2) (fun m7=>Option.bind (gd (!(!decide (m6.Prefix=m7.Prefix))) (idx p0 v2)) (fun m8=>Option.bind (gd (!(!decide (m6.Prefix=m7.Prefix))) (idx p1 v2)) (fun m9=>Option.bind (gd (!(!decide (m6.Prefix=m7.Prefix))) (ynl m8.Rule m9.Rule)) (fun x10=>cond ((!decide (m6.Prefix=m7.Prefix))||(!x10)) (some (.inr (.inr false))) (some (.inl (IntKind.i64.wrap (v2+1)))))))))) (some (.inr (.inl ())))) FUEL 0) (fun q=>match q with | .inl _=>some true | .inr e=>some e))
theorem ysu {p0:(List Zh)} {p1:(List Zh)} {r:Bool}  (h:yht p0 p1=some r):PF 132 [pL Zh.enc p0,pL Zh.enc p1] (pB r):=by
 unfold yht at h
 refine ybp ?_
 refine ybb Tryz.func132 fk132 rfl Tryz.ntmps132 Tryz.results132 rfl (yaa (yac [] [4] [] fo0 (by kernel_rfl) (yab (yaa (yaa (yac [] [6,7,8,9] [(10,pB ((p0.length:Int) != (p1.length:Int)))] fo0 (by kernel_rfl) (yab (zif rfl h (fun hc1 h=>?_) fun hc1 h=>?_))))))))
 ·refine yaa ?_
  refine yac [] [] [(4,pB false)] fo0 (by kernel_rfl) (yab (yai (yag ?_)))
  obtain rfl:=osi h
  exact zq rfl ⟨rfl,rfl⟩
 refine yah ?_
 refine yab (yaa (yaa (yac [] [] [(5,pI 0)] fo0 (by kernel_rfl) (yab (yad h fun q4 hq4 h=>?_)))))
 refine yar (Y:=(Unit)×(Unit)) (fun (_,_)=>[]) (fun (_,_)=>[]) (fun (_,_)=>q4=Sum.inl ()) ?_ ?_
 ·refine yaj ?_
  refine yat (Y:=Unit) (S:=Int) _ hq4 (fun _ v2=>[(0,pL Zh.enc p0),(1,pL Zh.enc p1),(5,pI v2)]) (fun _ v2=>[]) () (zh3 rfl rfl rfl) zsn ?_
  rintro _ v2 o τ hb3;(try dsimp only at hb3);dsimp only [pupds]
  refine yaa (yaa (yac [] [11,12,13] [(14,pB (decide (v2<(p0.length:Int))))] fo0 (by kernel_rfl) (yab (zif rfl hb3 (fun hc5 hb3=>?_) fun hc5 hb3=>?_))))
  ·refine yah ?_
   refine yab (yaa (yaj (yaa (ybr (ρd:=[]) [(0,0),(1,0),(2,0),(3,0),(4,0),(5,0),(6,0),(7,0),(8,0),(9,0),(10,0),(11,0),(12,0),(13,0),(14,0),(15,0),(16,0),(17,0),(18,0),(19,0),(20,0),(21,0),(22,1),(23,0),(24,0)] _ (List.Perm.refl _) (by kernel_rfl) rfl (yad hb3 fun m6 hm6 hb3=>yad hb3 fun m7 hm7 hb3=>yad hb3 fun m8 hm8 hb3=>yad hb3 fun m9 hm9 hb3=>yad hb3 fun x10 hx10 hb3=>ybl 25 [] (rg 17 24) [(41,pB ((!decide (m6.Prefix=m7.Prefix))||(!x10)))] (ygt 2 Zh.enc hm6 (ygt 7 Zh.enc hm7 (yhn 14 Zh.enc (yfz hm8) (yhn 19 Zh.enc (yfz hm9) (ygu 22 (fun hc=>ytv (yfz hx10 hc)) fo0))))) (by kernel_rfl) (ycd (yab (zif rfl hb3 (fun hc11 hb3=>?_) fun hc11 hb3=>?_))))))))
   ·refine yaa ?_
    refine yac [] [] [(4,pB false)] fo0 (by kernel_rfl) (yab (yai (yaf (yag ?_))))
    refine yas hb3 (fun ht=>?_);subst ht
    refine yaf (yau ?_)
    obtain rfl:=osi h
    exact zq rfl ⟨rfl,rfl⟩
   refine yah ?_
   refine yak (yab (yac [] [15,16] [(5,pI (IntKind.i64.wrap (v2+1)))] fo0 (by kernel_rfl) ?_))
   exact ybd hb3 () (zh3 rfl rfl rfl) zsn
  refine yax ?_
  refine yao (yam hb3 (fun ht=>yan rfl ?_))
  exact yaw ((),()) zhn zsn ht.symm
 rintro ⟨_,_⟩ τ hz;(try dsimp only at hz);subst q4;(try dsimp only at h);dsimp only [pupds]
 refine yaa (yac [] [] [(4,pB true)] fo0 (by kernel_rfl) (yab (yai ?_)))
 obtain rfl:=osi h
 exact zq rfl ⟨rfl,rfl⟩
def yio (p0:(List Zc)) (p1:Int) (p2:ByteArray) (p3:ByteArray):Option (List Int):=Option.bind (yfc p0 p1) (fun x1=>cond (!x1.2) (some []) (Option.bind (loopF (S:=(List Int)×Int) (T:=((List Int))) (fun (l7,v10)=>cond ((decide (v10<(p0.length:Int)))&&(x1.1.Kind == 2)) (Option.bind (Option.bind (idx p0 v10) (fun m23=>Option.bind (gd (m23.ID != p1) (yin m23.Parties p2)) (fun x25=>Option.bind (gd ((m23.ID != p1)&&x25) (yin m23.Parties p3)) (fun x26=>Option.bind (gd (((m23.ID != p1)&&x25)&&x26) (yht x1.1.Rules m23.Rules)) (fun x27=>cond ((((m23.ID != p1)&&x25)&&x26)&&x27) (Option.bind (app 8 l7 [m23.ID]) (fun l31=>some l31)) (some l7)))))) (fun l21=>some (.inl (l21,(IntKind.i64.wrap (v10+1)))))) (some (.inr l7))) FUEL ([p1],0)) (fun l14=>some l14)))
theorem ytw {p0:(List Zc)} {p1:Int} {p2:ByteArray} {p3:ByteArray} {r:(List Int)}  (h:yio p0 p1 p2 p3=some r):PF 92 [pL Zc.enc p0,pI p1,pS p2,pS p3] (pL eI r):=by
 unfold yio at h
 refine ybp ?_
 refine ybb Tryz.func92 fk92 rfl Tryz.ntmps92 Tryz.results92 rfl (yaa (yac [] [8] [] fo0 (by kernel_rfl) (yab (yaa (yad h fun x1 hx1 h=>yae (yal 6 [] [15,16,17,14] [(18,.agg [pI x1.1.ID,pI x1.1.Kind,pL eS x1.1.Parties,pL Zh.enc x1.1.Rules]),(19,pB x1.2)] (ycs 2 (yjn hx1) fo0) (by kernel_rfl) (yav rfl rfl rfl (yba (cs:=[pI 0,pI 0,pN,pN]) rfl rfl rfl rfl (fun b2=>ybh rfl rfl (yaq (vs:=[pI x1.1.ID,pI x1.1.Kind,pL eS x1.1.Parties,pL Zh.enc x1.1.Rules]) rfl rfl rfl rfl rfl zuh (zl4) (yap [] [] [(10,pB x1.2)] fo0 (by kernel_rfl) (yab (yaa (yaa (yac [] [20] [(21,pB (!x1.2))] fo0 (by kernel_rfl) (yab (zif rfl h (fun hc3 h=>?_) fun hc3 h=>?_)))))))))))))))))
 ·refine yaa ?_
  refine yac [] [] [(8,pN)] fo0 (by kernel_rfl) (yab (yhq 8 rfl (yai (yag ?_))))
  obtain rfl:=osi h
  exact zq rfl ⟨rfl,rfl⟩
 refine yah ?_
 refine yab (yaa (yae (yal 1 [] [] [(22,pI p1)] fo0 (by kernel_rfl) (yav rfl rfl rfl (ycg rfl rfl rfl rfl rfl (zic rfl zin) rfl rfl rfl rfl (fun b4=>yap [] [] [(11,pO (some ⟨b4,0,none⟩) 1 1)] fo0 (by kernel_rfl) (yab (yaa (yaa (yac [] [] [(12,pI 0)] fo0 (by kernel_rfl) (yab (yad h fun q16 hq16 h=>?_))))))))))))
 refine yar (Y:=(Option Addr×Nat)×((List Int))) (fun ((a12,c13),l14)=>[(11,pO a12 l14.length c13)]) (fun ((a12,c13),l14)=>[PRes.row a12 l14.length c13 3 1 (List.map eI l14)]) (fun ((a12,c13),l14)=>q16=l14) ?_ ?_
 ·refine yaj ?_
  refine yat (Y:=Option Addr×Nat) (S:=(List Int)×Int) _ hq16 (fun (a8,c9) (l7,v10)=>[(0,pL Zc.enc p0),(1,pI p1),(2,pS p2),(3,pS p3),(9,pP b2 0),(11,pO a8 l7.length c9),(12,pI v10)]) (fun (a8,c9) (l7,v10)=>[PRes.b b2 52 [pI x1.1.ID,pI x1.1.Kind,pL eS x1.1.Parties,pL Zh.enc x1.1.Rules],PRes.row a8 l7.length c9 3 1 (List.map eI l7)]) ((some ⟨b4,0,none⟩),1) (zh7 rfl rfl rfl rfl rfl rfl rfl) (zsc (zpt zph) (zs1)) ?_
  rintro ⟨a8,c9⟩ ⟨l7,v10⟩ o τ hb15;(try dsimp only at hb15);dsimp only [pupds]
  refine yaa (yaa (yac [0] (rg 24 8) [(32,pB ((decide (v10<(p0.length:Int)))&&(x1.1.Kind == 2)))] fo0 (by kernel_rfl) (yab (zif rfl hb15 (fun hc17 hb15=>?_) fun hc17 hb15=>?_))))
  ·refine yah ?_
   refine yab (yaa (yad hb15 fun q22 hq22 hb15=>?_))
   refine yar (Y:=(Option Addr×Nat)×((List Int))) (fun ((a19,c20),l21)=>[(0,pL Zc.enc p0),(1,pI p1),(2,pS p2),(3,pS p3),(9,pP b2 0),(11,pO a19 l21.length c20),(12,pI v10)]) (fun ((a19,c20),l21)=>[PRes.b b2 52 [pI x1.1.ID,pI x1.1.Kind,pL eS x1.1.Parties,pL Zh.enc x1.1.Rules],PRes.row a19 l21.length c20 3 1 (List.map eI l21)]) (fun ((a19,c20),l21)=>q22=l21) ?_ ?_
   ·skip
    refine yaj (yaa (yad hq22 fun m23 hm23 hq22=>yae (yal 4 [] [35,36,37] [(38,.agg [pI m23.ID,pI m23.Kind,pL eS m23.Parties,pL Zh.enc m23.Rules])] (ygt 2 Zc.enc hm23 fo0) (by kernel_rfl) (yav rfl rfl rfl (yba (cs:=[pI 0,pI 0,pN,pN]) rfl rfl rfl rfl (fun b24=>ybh rfl rfl (yaq (vs:=[pI m23.ID,pI m23.Kind,pL eS m23.Parties,pL Zh.enc m23.Rules]) rfl rfl rfl rfl rfl zuh (zl4) (yay (yab (yaa (yad hq22 fun x25 hx25 hq22=>yad hq22 fun x26 hx26 hq22=>yad hq22 fun x27 hx27 hq22=>yac [0,0,0,1,0] (rg 39 22) [(61,pB ((((m23.ID != p1)&&x25)&&x26)&&x27))] (ygu 8 (fun hc=>yjb (yfz hx25 hc)) (ygu 14 (fun hc=>yjb (yfz hx26 hc)) (ygu 21 (fun hc=>ysu (yfz hx27 hc)) fo0))) (by kernel_rfl) (yab (zif rfl hq22 (fun hc28 hq22=>?_) fun hc28 hq22=>?_)))))))))))))
    ·refine yae ?_
     refine yal 3 [0] [63] [(62,pO a8 l7.length c9),(64,pI m23.ID)] fo0 (by kernel_rfl) (yav rfl rfl rfl (ycg rfl rfl rfl rfl rfl (zic rfl zin) rfl rfl rfl rfl (fun b29=>yad hq22 fun l31 hl31 hq22=>?_)))
     refine yav rfl rfl rfl (ycm (enc:=eI) rfl rfl rfl rfl rfl rfl rfl rfl rfl zm0 (by exact zpt (zpt (zpt zph))) hl31 (fun a32 c33=>?_))
     refine yap [] [] [(11,pO a32 l31.length c33)] fo0 (by kernel_rfl) (yak ?_)
     obtain rfl:=osi hq22
     exact yaw ((a32,c33),l31) (zh7 rfl rfl rfl rfl rfl rfl rfl) (zsc (zpt (zpt (zpt zph))) (zs1)) rfl
    refine yah ?_
    refine yak ?_
    obtain rfl:=osi hq22
    exact yaw ((a8,c9),l7) (zh7 rfl rfl rfl rfl rfl rfl rfl) (zsc (zpt zph) (zsc (zpt zph) zsn)) rfl
   rintro ⟨⟨a19,c20⟩,l21⟩ τ hz;(try dsimp only at hz);subst q22;(try dsimp only at hb15);dsimp only [pupds]
   refine yac [] [33,34] [(12,pI (IntKind.i64.wrap (v10+1)))] fo0 (by kernel_rfl) ?_
   exact ybd hb15 (a19,c20) (zh7 rfl rfl rfl rfl rfl rfl rfl) (zs2)
  refine yax ?_
  refine yao (yam hb15 (fun ht=>yan rfl ?_))
  exact yaw ((a8,c9),l7) (zh1 rfl) (zsc (zpt zph) zsn) ht.symm
 rintro ⟨⟨a12,c13⟩,l14⟩ τ hz;(try dsimp only at hz);subst q16;(try dsimp only at h);dsimp only [pupds]
 refine yaa (yac [] [67] [(8,pO a12 l14.length c13)] fo0 (by kernel_rfl) (yab ?_))
 refine yen (enc:=eI) (xs:=l14) 8 rfl (by exact zph) ?_
 refine yai ?_
 obtain rfl:=osi h
 exact zq rfl ⟨rfl,rfl⟩
def ymc (p0:(List ByteArray)) (p1:ByteArray):Option (List ByteArray):=Option.bind (loopF (S:=Int) (T:=(ByteArray×Int)) (fun v1=>Option.bind (gd (decide (v1<(p0.length:Int))) (idx p0 v1)) (fun m6=>cond ((decide (v1<(p0.length:Int)))&&(Op.bytesLess m6.toList p1.toList)) (some (.inl (IntKind.i64.wrap (v1+1)))) (some (.inr (p1,v1))))) FUEL 0) (fun (v2,v3)=>Option.bind (gd (decide (v3<(p0.length:Int))) (idx p0 v3)) (fun m8=>cond ((decide (v3<(p0.length:Int)))&&(decide (m8=v2))) (some p0) (Option.bind (sub p0 0 v3) (fun l10=>Option.bind (sub p0 v3 (p0.length:Int)) (fun l11=>Option.bind (app 16 ([]:List ByteArray) l10) (fun l14=>Option.bind (app 16 l14 [v2]) (fun l20=>Option.bind (app 16 l20 l11) (fun l24=>some l24))))))))
theorem ysv {p0:(List ByteArray)} {p1:ByteArray} {r:(List ByteArray)}  (h:ymc p0 p1=some r):PF 133 [pL eS p0,pS p1] (pL eS r):=by
 unfold ymc at h
 refine ybp ?_
 refine ybb Tryz.func133 fk133 rfl Tryz.ntmps133 Tryz.results133 rfl (yaa (yac [] [4] [] fo0 (by kernel_rfl) (yab (yaa (yac [] [] [(5,pI 0)] fo0 (by kernel_rfl) (yab (yaa (yad h fun q5 hq5 h=>?_))))))))
 refine yar (Y:=(Unit)×(ByteArray×Int)) (fun (_,(v2,v3))=>[(0,pL eS p0),(1,pS v2),(5,pI v3)]) (fun (_,(v2,v3))=>[]) (fun (_,(v2,v3))=>q5=(v2,v3)) ?_ ?_
 ·refine yaj ?_
  refine yat (Y:=Unit) (S:=Int) _ hq5 (fun _ v1=>[(0,pL eS p0),(1,pS p1),(5,pI v1)]) (fun _ v1=>[]) () (zh3 rfl rfl rfl) zsn ?_
  rintro _ v1 o τ hb4;(try dsimp only at hb4);dsimp only [pupds]
  refine yaa (yaa (yad hb4 fun m6 hm6 hb4=>yac [] (rg 6 11) [(17,pB ((decide (v1<(p0.length:Int)))&&(Op.bytesLess m6.toList p1.toList)))] (yhn 7 eS (yfz hm6) fo0) (by kernel_rfl) (yab (zif rfl hb4 (fun hc7 hb4=>?_) fun hc7 hb4=>?_))))
  ·refine yah ?_
   refine yab (yaj (yac [] [18,19] [(5,pI (IntKind.i64.wrap (v1+1)))] fo0 (by kernel_rfl) (yak ?_)))
   exact ybd hb4 () (zh3 rfl rfl rfl) zsn
  refine yax ?_
  refine yao (yam hb4 (fun ht=>yan rfl ?_))
  exact yaw ((),(p1,v1)) (zh3 rfl rfl rfl) zsn ht.symm
 rintro ⟨_,⟨v2,v3⟩⟩ τ hz;(try dsimp only at hz);subst q5;(try dsimp only at h);dsimp only [pupds]
 refine yaa (yaa (yad h fun m8 hm8 h=>yac [] (rg 20 11) [(31,pB ((decide (v3<(p0.length:Int)))&&(decide (m8=v2))))] (yhn 7 eS (yfz hm8) fo0) (by kernel_rfl) (yab (zif rfl h (fun hc9 h=>?_) fun hc9 h=>?_))))
 ·refine yaa ?_
  refine yac [] [32] [(4,pL eS p0)] fo0 (by kernel_rfl) (yab (yai (yag ?_)))
  obtain rfl:=osi h
  exact zq rfl ⟨rfl,rfl⟩
 refine yah ?_
 refine yab (yaa (ybr (ρd:=[]) [(1,0),(2,0),(3,0),(5,0),(6,3),(8,0),(9,0),(10,0),(0,1),(4,1),(6,2),(7,1),(11,1),(12,0)] _ (List.Perm.refl _) (by kernel_rfl) rfl (yad h fun l10 hl10 h=>ybl 4 [] [34,35] [(36,pL eS l10),(38,pS v2)] (fosl 2 eS 1 (fun _=>rfl) hl10 fo0) (by kernel_rfl) (xij (ysm rfl rfl rfl rfl rfl (zic rfl zin) rfl rfl rfl) (yad h fun l11 hl11 h=>ybl 3 [] [41,42] [(43,pL eS l11)] (fosl 2 eS 1 (fun _=>rfl) hl11 fo0) (by kernel_rfl) (ynq rfl rfl rfl (ycg rfl rfl rfl rfl rfl zin rfl rfl rfl rfl (fun b12=>yad h fun l14 hl14 h=>?_))))))))
 refine ynq rfl rfl rfl (yji (enc:=eS) rfl rfl rfl rfl rfl (fun _=>rfl) rfl rfl rfl (by exact zph) hl14 (fun a15 c16=>?_))
 refine yvg (ysm rfl rfl rfl rfl rfl (zic rfl zin) rfl rfl rfl) (fun _=>rfl) rfl (fun b18=>yad h fun l20 hl20 h=>?_)
 refine ynq rfl rfl rfl (xih (enc:=eS) rfl rfl rfl rfl rfl (fun _=>rfl) rfl rfl rfl rfl zm0 rfl (by exact zpt zph) hl20 (fun a21 c22=>?_))
 refine yad h fun l24 hl24 h=>?_
 refine ynq rfl rfl rfl (yji (enc:=eS) rfl rfl rfl rfl rfl (fun _=>rfl) rfl rfl rfl (by exact zph) hl24 (fun a25 c26=>?_))
 refine ybl 1 [] [] [(4,pO a25 l24.length c26)] fo0 (by kernel_rfl) (ycd (yab ?_))
 refine yen (enc:=eS) (xs:=l24) 4 rfl (by exact zph) ?_
 refine yai ?_
 obtain rfl:=osi h
 exact zq rfl ⟨rfl,rfl⟩
def ykf (p0:(List ByteArray)) (p1:(List ByteArray)):Option (List ByteArray):=Option.bind (loopF (S:=(List ByteArray)×Int) (T:=((List ByteArray)×(List ByteArray))) (fun (l1,v2)=>cond (decide (v2<(p0.length:Int))) (Option.bind (idx p0 v2) (fun m8=>Option.bind (ymc l1 m8) (fun x9=>some (.inl (x9,(IntKind.i64.wrap (v2+1))))))) (some (.inr (p1,l1)))) FUEL ([],0)) (fun (l3,l4)=>Option.bind (loopF (S:=(List ByteArray)×Int) (T:=((List ByteArray))) (fun (l10,v11)=>cond (decide (v11<(l3.length:Int))) (Option.bind (idx l3 v11) (fun m16=>Option.bind (ymc l10 m16) (fun x17=>some (.inl (x17,(IntKind.i64.wrap (v11+1))))))) (some (.inr l10))) FUEL (l4,0)) (fun l12=>some l12))
theorem yzc {p0:(List ByteArray)} {p1:(List ByteArray)} {r:(List ByteArray)}  (h:ykf p0 p1=some r):PF 93 [pL eS p0,pL eS p1] (pL eS r):=by
 unfold ykf at h
 refine ybp ?_
 refine ybb Tryz.func93 fk93 rfl Tryz.ntmps93 Tryz.results93 rfl (yaa (yac [] [4] [] fo0 (by kernel_rfl) (yab (yaa (yac [] [] [(5,pN)] fo0 (by kernel_rfl) (yab (yaa (yaa (yac [] [] [(6,pI 0)] fo0 (by kernel_rfl) (yab (yhq 5 rfl (yad h fun q6 hq6 h=>?_))))))))))))
 refine yar (Y:=(Unit)×((List ByteArray)×(List ByteArray))) (fun (_,(l3,l4))=>[(1,pL eS l3),(5,pL eS l4)]) (fun (_,(l3,l4))=>[]) (fun (_,(l3,l4))=>q6=(l3,l4)) ?_ ?_
 ·refine yaj ?_
  refine yat (Y:=Unit) (S:=(List ByteArray)×Int) _ hq6 (fun _ (l1,v2)=>[(0,pL eS p0),(1,pL eS p1),(5,pL eS l1),(6,pI v2)]) (fun _ (l1,v2)=>[]) () (zh4 rfl rfl rfl rfl) zsn ?_
  rintro _ ⟨l1,v2⟩ o τ hb5;(try dsimp only at hb5);dsimp only [pupds]
  refine yaa (yaa (yac [] [8,9,10] [(11,pB (decide (v2<(p0.length:Int))))] fo0 (by kernel_rfl) (yab (zif rfl hb5 (fun hc7 hb5=>?_) fun hc7 hb5=>?_))))
  ·refine yah ?_
   refine yab (yaa (yaj (yad hb5 fun m8 hm8 hb5=>yad hb5 fun x9 hx9 hb5=>yac [] (rg 14 6) [(5,pL eS x9)] (ygt 3 eS hm8 (ycs 5 (ysv hx9) fo0)) (by kernel_rfl) (yak (yab (yac [] [12,13] [(6,pI (IntKind.i64.wrap (v2+1)))] fo0 (by kernel_rfl) ?_))))))
   exact ybd hb5 () (zh4 rfl rfl rfl rfl) zsn
  refine yax ?_
  refine yao (yam hb5 (fun ht=>yan rfl ?_))
  exact yaw ((),(p1,l1)) (zh2 rfl rfl) zsn ht.symm
 rintro ⟨_,⟨l3,l4⟩⟩ τ hz;(try dsimp only at hz);subst q6;(try dsimp only at h);dsimp only [pupds]
 refine yaa (yaa (yac [] [] [(7,pI 0)] fo0 (by kernel_rfl) (yab (yad h fun q14 hq14 h=>?_))))
 refine yar (Y:=(Unit)×((List ByteArray))) (fun (_,l12)=>[(5,pL eS l12)]) (fun (_,l12)=>[]) (fun (_,l12)=>q14=l12) ?_ ?_
 ·refine yaj ?_
  refine yat (Y:=Unit) (S:=(List ByteArray)×Int) _ hq14 (fun _ (l10,v11)=>[(1,pL eS l3),(5,pL eS l10),(7,pI v11)]) (fun _ (l10,v11)=>[]) () (zh3 rfl rfl rfl) zsn ?_
  rintro _ ⟨l10,v11⟩ o τ hb13;(try dsimp only at hb13);dsimp only [pupds]
  refine yaa (yaa (yac [] [20,21,22] [(23,pB (decide (v11<(l3.length:Int))))] fo0 (by kernel_rfl) (yab (zif rfl hb13 (fun hc15 hb13=>?_) fun hc15 hb13=>?_))))
  ·refine yah ?_
   refine yab (yaa (yaj (yad hb13 fun m16 hm16 hb13=>yad hb13 fun x17 hx17 hb13=>yac [] (rg 26 6) [(5,pL eS x17)] (ygt 3 eS hm16 (ycs 5 (ysv hx17) fo0)) (by kernel_rfl) (yak (yab (yac [] [24,25] [(7,pI (IntKind.i64.wrap (v11+1)))] fo0 (by kernel_rfl) ?_))))))
   exact ybd hb13 () (zh3 rfl rfl rfl) zsn
  refine yax ?_
  refine yao (yam hb13 (fun ht=>yan rfl ?_))
  exact yaw ((),l10) (zh1 rfl) zsn ht.symm
 rintro ⟨_,l12⟩ τ hz;(try dsimp only at hz);subst q14;(try dsimp only at h);dsimp only [pupds]
 refine yaa (yac [] [32] [(4,pL eS l12)] fo0 (by kernel_rfl) (yab (yai ?_)))
 obtain rfl:=osi h
 exact zq rfl ⟨rfl,rfl⟩
def yif (p0:(List Int)) (p1:Int) (p2:(List Za)):Option (Za×Bool):=Option.bind (loopF (S:=Int) (T:=(Unit)⊕(_)) (fun v2=>cond (decide (v2<(p0.length:Int))) (Option.bind (idx p0 v2) (fun m6=>Option.bind (yef p2 (⟨p1,m6⟩:Za)) (fun x8=>cond x8 (some (.inr (.inr ((⟨p1,m6⟩:Za),true)))) (some (.inl (IntKind.i64.wrap (v2+1))))))) (some (.inr (.inl ())))) FUEL 0) (fun q=>match q with | .inl _=>some ((⟨0,0⟩:Za),false) | .inr e=>some e)
theorem ypc {p0:(List Int)} {p1:Int} {p2:(List Za)} {r:(Za×Bool)}  (h:yif p0 p1 p2=some r):PF 94 [pL eI p0,pI p1,pL Za.enc p2] (.tup [.agg [pI r.1.Product,pI r.1.Agreement],pB r.2]):=by
 unfold yif at h
 refine ybp ?_
 refine ybb Tryz.func94 fk94 rfl Tryz.ntmps94 Tryz.results94 rfl (yaa (yae (yav rfl rfl rfl (yba (cs:=[pI 0,pI 0]) rfl rfl rfl rfl (fun b1=>yap [] [7] [] fo0 (by kernel_rfl) (yab (yaa (yaa (yac [] [] [(8,pI 0)] fo0 (by kernel_rfl) (yab (yad h fun q4 hq4 h=>?_)))))))))))
 refine yar (Y:=(Unit)×(Unit)) (fun (_,_)=>[(6,pP b1 0)]) (fun (_,_)=>[PRes.b b1 54 [pI 0,pI 0]]) (fun (_,_)=>q4=Sum.inl ()) ?_ ?_
 ·refine yaj ?_
  refine yat (Y:=Unit) (S:=Int) _ hq4 (fun _ v2=>[(0,pL eI p0),(1,pI p1),(2,pL Za.enc p2),(6,pP b1 0),(8,pI v2)]) (fun _ v2=>[PRes.b b1 54 [pI 0,pI 0]]) () (zh5 rfl rfl rfl rfl rfl) (zs1) ?_
  rintro _ v2 o τ hb3;(try dsimp only at hb3);dsimp only [pupds]
  refine yaa (yaa (yac [] [10,11,12] [(13,pB (decide (v2<(p0.length:Int))))] fo0 (by kernel_rfl) (yab (zif rfl hb3 (fun hc5 hb3=>?_) fun hc5 hb3=>?_))))
  ·refine yah ?_
   refine yab (yaa (yaj (yaa (yad hb3 fun m6 hm6 hb3=>yae (yal 6 [] (rg 16 5) [(21,.agg [pI p1,pI m6])] (ygt 3 eI hm6 fo0) (by kernel_rfl) (yav rfl rfl rfl (yba (cs:=[pI 0,pI 0]) rfl rfl rfl rfl (fun b7=>ybh rfl rfl (yaq (vs:=[pI p1,pI m6]) rfl rfl rfl rfl rfl zuh (zl2) (yay (yab (yaa (yad hb3 fun x8 hx8 hb3=>yac [0] [22,23] [(24,pB x8)] (ycs 2 (yke hx8) fo0) (by kernel_rfl) (yab (zif rfl hb3 (fun hc9 hb3=>?_) fun hc9 hb3=>?_)))))))))))))))
   ·refine yaa ?_
    refine yae (yal 1 [0] [] [(25,.agg [pI p1,pI m6])] fo0 (by kernel_rfl) (ybh rfl rfl (yaq (vs:=[pI p1,pI m6]) rfl rfl rfl rfl rfl (zut zuh) (zl2) (yap [] [] [(7,pB true)] fo0 (by kernel_rfl) (yab (yai (yaf (yag ?_))))))))
    refine yas hb3 (fun ht=>?_);subst ht
    refine yaf (yau ?_)
    obtain rfl:=osi h
    exact ybe (yee (yfi rfl zm1 rfl) (ybi rfl)) zsn ⟨rfl,rfl⟩
   refine yah ?_
   refine yak (yab (yac [] [14,15] [(8,pI (IntKind.i64.wrap (v2+1)))] fo0 (by kernel_rfl) ?_))
   exact ybd hb3 () (zh5 rfl rfl rfl rfl rfl) (zsc (zpt zph) zsn)
  refine yax ?_
  refine yao (yam hb3 (fun ht=>yan rfl ?_))
  exact yaw ((),()) (zh1 rfl) (zs1) ht.symm
 rintro ⟨_,_⟩ τ hz;(try dsimp only at hz);subst q4;(try dsimp only at h);dsimp only [pupds]
 refine yaa (yae (yal 1 [] [] [(26,.agg [pI 0,pI 0])] fo0 (by kernel_rfl) (ybh rfl rfl (yaq (vs:=[pI 0,pI 0]) rfl rfl rfl rfl rfl zuh (zl2) (yap [] [] [(7,pB false)] fo0 (by kernel_rfl) (yab (yai ?_)))))))
 obtain rfl:=osi h
 exact ybe (yee (yfi rfl zm0 rfl) (ybi rfl)) zsn ⟨rfl,rfl⟩
def yhu (p0:Zm) (p1:Zm):Option (Zm×Bool):=Option.bind (cond (decide ((IntKind.u64.wrap (p0.Lo+p1.Lo))<p0.Lo)) (lb ((IntKind.u64.wrap ((IntKind.u64.wrap (p0.Hi+p1.Hi))+1))) (fun w8=>some (w8,((decide ((IntKind.u64.wrap (p0.Hi+p1.Hi))<p0.Hi))||(w8 == 0))))) (some ((IntKind.u64.wrap (p0.Hi+p1.Hi)),(decide ((IntKind.u64.wrap (p0.Hi+p1.Hi))<p0.Hi))))) (fun (v4,v5)=>some ((⟨v4,(IntKind.u64.wrap (p0.Lo+p1.Lo))⟩:Zm),v5))
theorem ync {p0:Zm} {p1:Zm} {r:(Zm×Bool)}  (h:yhu p0 p1=some r):PF 170 [.agg [pU p0.Hi,pU p0.Lo],.agg [pU p1.Hi,pU p1.Lo]] (.tup [.agg [pU r.1.Hi,pU r.1.Lo],pB r.2]):=by
 unfold yhu at h
 refine ybp ?_
 refine ybb Tryz.func170 fk170 rfl Tryz.ntmps170 Tryz.results170 rfl (yaa (yae (yav rfl rfl rfl (ybt (cs:=[pU p0.Hi,pU p0.Lo]) rfl rfl (fun b1=>yav rfl rfl rfl (ybt (cs:=[pU p1.Hi,pU p1.Lo]) rfl rfl (fun b2=>yav rfl rfl rfl (yba (cs:=[pU 0,pU 0]) rfl rfl rfl rfl (fun b3=>yap [] [5] [] fo0 (by kernel_rfl) (yab (yaa (ybr (ρd:=[]) [(0,0),(1,0),(2,0),(3,0),(4,0),(5,0),(6,0),(7,0),(8,0),(9,0),(10,0),(11,0)] _ (List.Perm.refl _) (by kernel_rfl) rfl (ybl 12 [2,1,2,1] (rg 9 10) [(6,pU (IntKind.u64.wrap (p0.Lo+p1.Lo))),(7,pU (IntKind.u64.wrap (p0.Hi+p1.Hi)))] fo0 (by kernel_rfl) (ycd (yab (yaa (yac [2] [19,20,21,22] [(8,pB (decide ((IntKind.u64.wrap (p0.Hi+p1.Hi))<p0.Hi)))] fo0 (by kernel_rfl) (yab (yaa (yaa (yac [2] [23,24,25] [(26,pB (decide ((IntKind.u64.wrap (p0.Lo+p1.Lo))<p0.Lo)))] fo0 (by kernel_rfl) (yab (yad h fun q6 hq6 h=>?_)))))))))))))))))))))))
 refine yar (Y:=(Unit)×(Int×Bool)) (fun (_,(v4,v5))=>[(4,pP b3 0),(6,pU (IntKind.u64.wrap (p0.Lo+p1.Lo))),(7,pU v4),(8,pB v5)]) (fun (_,(v4,v5))=>[PRes.b b3 187 [pU 0,pU 0]]) (fun (_,(v4,v5))=>q6=(v4,v5)) ?_ ?_
 ·skip
  refine zif rfl hq6 (fun hc7 hq6=>?_) fun hc7 hq6=>?_
  ·refine yaa ?_
   refine yfv hq6 ?_;clear hq6;intro w8 hw8 hq6
   refine yae (yal 2 [] [27] [(28,pU (IntKind.u64.wrap ((IntKind.u64.wrap (p0.Hi+p1.Hi))+1)))] fo0 (by kernel_rfl) (yda rfl rfl rfl (ych rfl (.p (congrArg (fun z=>PV.v (Value.int .u64 z)) hw8))) (yay (yab (yac [] (rg 29 5) [(8,pB ((decide ((IntKind.u64.wrap (p0.Hi+p1.Hi))<p0.Hi))||(w8 == 0)))] fo0 (by kernel_rfl) ?_)))))
   obtain rfl:=osi hq6
   exact yaw ((),(w8,((decide ((IntKind.u64.wrap (p0.Hi+p1.Hi))<p0.Hi))||(w8 == 0)))) (zh4 rfl rfl rfl rfl) (zs1) rfl
  refine yah ?_
  obtain rfl:=osi hq6
  exact yaw ((),((IntKind.u64.wrap (p0.Hi+p1.Hi)),(decide ((IntKind.u64.wrap (p0.Hi+p1.Hi))<p0.Hi)))) (zh4 rfl rfl rfl rfl) (zs1) rfl
 rintro ⟨_,⟨v4,v5⟩⟩ τ hz;(try dsimp only at hz);subst q6;(try dsimp only at h);dsimp only [pupds]
 refine yaa (yae (yal 4 [] [34,35] [(36,.agg [pU v4,pU (IntKind.u64.wrap (p0.Lo+p1.Lo))]),(37,pB v5)] fo0 (by kernel_rfl) (ybh rfl rfl (yaq (vs:=[pU v4,pU (IntKind.u64.wrap (p0.Lo+p1.Lo))]) rfl rfl rfl rfl rfl zuh (zl2) (yap [] [] [(5,pB v5)] fo0 (by kernel_rfl) (yab (yai ?_)))))))
 obtain rfl:=osi h
 exact ybe (yee (yfi rfl zm0 rfl) (ybi rfl)) zsn ⟨rfl,rfl⟩
def ykr (p0:Zm) (p1:Int):Option (Zm×Int):=Option.bind (loopF (S:=Int×Int×Int×Int) (T:=(Int×Int×Int)) (fun (v4,v5,v6,v7)=>cond (decide (0≤v5)) (Option.bind (Option.bind (ge0 (iand .i64 v5 63)) (fun u18=>lb ((iand .u64 (ishr .u64 p0.Lo (iand .i64 v5 63)) 1)) (fun w19=>Option.bind (cond (decide (63<v5)) (Option.bind (ge0 (IntKind.i64.wrap (v5 - 64))) (fun u23=>lb ((iand .u64 (ishr .u64 p0.Hi (IntKind.i64.wrap (v5 - 64))) 1)) (fun w24=>some w24))) (some w19)) (fun v20=>Option.bind (yhu (⟨v6,v7⟩:Zm) (⟨v6,v7⟩:Zm)) (fun x25=>cond (((ishr .u64 v4 63) == 1)||(decide (p1≤(ior .u64 (ishl .u64 v4 1) v20)))) (lb ((IntKind.u64.wrap ((ior .u64 (ishl .u64 v4 1) v20) - p1))) (fun w27=>some (w27,x25.1.Hi,(ior .u64 x25.1.Lo 1)))) (some ((ior .u64 (ishl .u64 v4 1) v20),x25.1.Hi,x25.1.Lo))))))) (fun (v14,v15,v16)=>some (.inl (v14,(IntKind.i64.wrap (v5 - 1)),v15,v16)))) (some (.inr (v4,v6,v7)))) FUEL (0,127,0,0)) (fun (v8,v9,v10)=>some ((⟨v9,v10⟩:Zm),v8))
theorem ywq {p0:Zm} {p1:Int} {r:(Zm×Int)}  (h:ykr p0 p1=some r):PF 169 [.agg [pU p0.Hi,pU p0.Lo],pU p1] (.tup [.agg [pU r.1.Hi,pU r.1.Lo],pU r.2]):=by
 unfold ykr at h
 refine ybp ?_
 refine ybb Tryz.func169 fk169 rfl Tryz.ntmps169 Tryz.results169 rfl (yaa (yae (yav rfl rfl rfl (ybt (cs:=[pU p0.Hi,pU p0.Lo]) rfl rfl (fun b1=>yav rfl rfl rfl (yba (cs:=[pU 0,pU 0]) rfl rfl rfl rfl (fun b2=>yap [] [5] [] fo0 (by kernel_rfl) (yab (yaa (yae (yal 1 [] [] [(11,.agg [pU 0,pU 0])] fo0 (by kernel_rfl) (yav rfl rfl rfl (yba (cs:=[pU 0,pU 0]) rfl rfl rfl rfl (fun b3=>ybh rfl rfl (yaq (vs:=[pU 0,pU 0]) rfl rfl rfl rfl rfl zuh (zl2) (yap [] [] [(7,pU 0)] fo0 (by kernel_rfl) (yab (yaa (yaa (yac [] [] [(8,pI 127)] fo0 (by kernel_rfl) (yab (yad h fun q12 hq12 h=>?_))))))))))))))))))))))
 refine yar (Y:=(Unit)×(Int×Int×Int)) (fun (_,(v8,v9,v10))=>[(4,pP b2 0),(6,pP b3 0),(7,pU v8)]) (fun (_,(v8,v9,v10))=>[PRes.b b2 187 [pU 0,pU 0],PRes.b b3 187 [pU v9,pU v10]]) (fun (_,(v8,v9,v10))=>q12=(v8,v9,v10)) ?_ ?_
 ·refine yaj ?_
  refine yat (Y:=Unit) (S:=Int×Int×Int×Int) _ hq12 (fun _ (v4,v5,v6,v7)=>[(1,pU p1),(2,pP b1 0),(4,pP b2 0),(6,pP b3 0),(7,pU v4),(8,pI v5)]) (fun _ (v4,v5,v6,v7)=>[PRes.b b1 187 [pU p0.Hi,pU p0.Lo],PRes.b b2 187 [pU 0,pU 0],PRes.b b3 187 [pU v6,pU v7]]) () (zh6 rfl rfl rfl rfl rfl rfl) (zsc (zpt (zpt zph)) (zsc (zpt zph) (zs1))) ?_
  rintro _ ⟨v4,v5,v6,v7⟩ o τ hb11;(try dsimp only at hb11);dsimp only [pupds]
  refine yaa (yaa (yac [] [12] [(13,pB (decide (0≤v5)))] fo0 (by kernel_rfl) (yab (zif rfl hb11 (fun hc13 hb11=>?_) fun hc13 hb11=>?_))))
  ·refine yah ?_
   refine yab (yaa (yad hb11 fun q17 hq17 hb11=>?_))
   refine yar (Y:=(Unit)×(Int×Int×Int)) (fun (_,(v14,v15,v16))=>[(1,pU p1),(2,pP b1 0),(4,pP b2 0),(6,pP b3 0),(7,pU v14),(8,pI v5)]) (fun (_,(v14,v15,v16))=>[PRes.b b1 187 [pU p0.Hi,pU p0.Lo],PRes.b b2 187 [pU 0,pU 0],PRes.b b3 187 [pU v15,pU v16]]) (fun (_,(v14,v15,v16))=>q17=(v14,v15,v16)) ?_ ?_
   ·skip
    refine yaj (yaa (yad hq17 fun u18 hu18 hq17=>?_))
    refine yfv hq17 ?_;clear hq17;intro w19 hw19 hq17
    refine yae (yal 6 [0] (rg 16 5) [(21,pU (iand .u64 (ishr .u64 p0.Lo (iand .i64 v5 63)) 1))] (xlh 4 hu18 fo0) (by kernel_rfl) (yda rfl rfl rfl (ych rfl (.p (congrArg (fun z=>PV.v (Value.int .u64 z)) hw19))) (yay (yab (yaa (yaa (yac [] [22] [(23,pB (decide (63<v5)))] fo0 (by kernel_rfl) (yab (yad hq17 fun q21 hq21 hq17=>?_)))))))))
    refine yar (Y:=(Unit)×(Int)) (fun (_,v20)=>[(1,pU p1),(2,pP b1 0),(4,pP b2 0),(6,pP b3 0),(7,pU v4),(8,pI v5),(9,pU v20)]) (fun (_,v20)=>[PRes.b b1 187 [pU p0.Hi,pU p0.Lo],PRes.b b2 187 [pU 0,pU 0],PRes.b b3 187 [pU v6,pU v7]]) (fun (_,v20)=>q21=v20) ?_ ?_
    ·skip
     refine zif rfl hq21 (fun hc22 hq21=>?_) fun hc22 hq21=>?_
     ·refine yad hq21 ?_;clear hq21;intro u23 hu23 hq21
      refine yfv hq21 ?_;clear hq21;intro w24 hw24 hq21
      refine yae (yal 6 [0] (rg 24 5) [(29,pU (iand .u64 (ishr .u64 p0.Hi (IntKind.i64.wrap (v5 - 64))) 1))] (xlh 4 hu23 fo0) (by kernel_rfl) (yda rfl rfl rfl (ych rfl (.p (congrArg (fun z=>PV.v (Value.int .u64 z)) hw24))) (yay ?_)))
      obtain rfl:=osi hq21
      exact yaw ((),w24) (zh7 rfl rfl rfl rfl rfl rfl rfl) (zs3) rfl
     refine yah ?_
     obtain rfl:=osi hq21
     exact yaw ((),w19) (zh7 rfl rfl rfl rfl rfl rfl rfl) (zs3) rfl
    rintro ⟨_,v20⟩ τ hz;(try dsimp only at hz);subst q21;(try dsimp only at hq17);dsimp only [pupds]
    refine yaa (yac [] [30,31] [(10,pU (ishr .u64 v4 63))] fo0 (by kernel_rfl) (yab (yaa (yac [] [32,33,34,35] [(7,pU (ior .u64 (ishl .u64 v4 1) v20))] fo0 (by kernel_rfl) (yab (yaa (yad hq17 fun x25 hx25 hq17=>yae (yal 6 [2,2] [37,38,39,36,41] [(40,.agg [pU x25.1.Hi,pU x25.1.Lo])] (ycs 2 (ync hx25) fo0) (by kernel_rfl) (ybh rfl rfl (yaq (vs:=[pU x25.1.Hi,pU x25.1.Lo]) rfl rfl rfl rfl rfl (zut (zut zuh)) (zl2) (yay (yab (yaa (yac [] (rg 42 6) [(48,pB (((ishr .u64 v4 63) == 1)||(decide (p1≤(ior .u64 (ishl .u64 v4 1) v20)))))] fo0 (by kernel_rfl) (yab (zif rfl hq17 (fun hc26 hq17=>?_) fun hc26 hq17=>?_))))))))))))))))
    ·refine yaa ?_
     refine yfv hq17 ?_;clear hq17;intro w27 hw27 hq17
     refine yae (yal 3 [] [49,50] [(51,pU (IntKind.u64.wrap ((ior .u64 (ishl .u64 v4 1) v20) - p1)))] fo0 (by kernel_rfl) (yda rfl rfl rfl (ych rfl (.p (congrArg (fun z=>PV.v (Value.int .u64 z)) hw27))) (yay (yab (yae (yal 4 [2] [52,53] [(54,pU (ior .u64 x25.1.Lo 1)),(55,pP b3 1)] fo0 (by kernel_rfl) (ybh rfl rfl (yaq (vs:=[pU (ior .u64 x25.1.Lo 1)]) rfl rfl rfl rfl rfl (zut (zut zuh)) (zlt (zl1)) (yay (yak ?_))))))))))
     obtain rfl:=osi hq17
     exact yaw ((),(w27,x25.1.Hi,(ior .u64 x25.1.Lo 1))) (zh6 rfl rfl rfl rfl rfl rfl) (zs3) rfl
    refine yah ?_
    refine yak ?_
    obtain rfl:=osi hq17
    exact yaw ((),((ior .u64 (ishl .u64 v4 1) v20),x25.1.Hi,x25.1.Lo)) (zh6 rfl rfl rfl rfl rfl rfl) (zs3) rfl
   rintro ⟨_,⟨v14,v15,v16⟩⟩ τ hz;(try dsimp only at hz);subst q17;(try dsimp only at hb11);dsimp only [pupds]
   refine yac [] [14,15] [(8,pI (IntKind.i64.wrap (v5 - 1)))] fo0 (by kernel_rfl) ?_
   exact ybd hb11 () (zh6 rfl rfl rfl rfl rfl rfl) (zs3)
  refine yax ?_
  refine yao (yam hb11 (fun ht=>yan rfl ?_))
  exact yaw ((),(v4,v6,v7)) (zh3 rfl rfl rfl) (zsc (zpt zph) (zsc (zpt zph) zsn)) ht.symm
 rintro ⟨_,⟨v8,v9,v10⟩⟩ τ hz;(try dsimp only at hz);subst q12;(try dsimp only at h);dsimp only [pupds]
 refine yaa (yae (yal 2 [1] [] [(56,.agg [pU v9,pU v10]),(57,pU v8)] fo0 (by kernel_rfl) (ybh rfl rfl (yaq (vs:=[pU v9,pU v10]) rfl rfl rfl rfl rfl zuh (zl2) (yap [] [] [(5,pU v8)] fo0 (by kernel_rfl) (yab (yai ?_)))))))
 obtain rfl:=osi h
 exact ybe (yee (yfi rfl zm0 rfl) (ybi rfl)) zsn ⟨rfl,rfl⟩
def ypz (p0:Zm) (p1:Int) (p2:Int):Option (Int×Int):=cond (((p1 == 0)||(decide (p2<0)))||(decide (3<p2))) (some ((0:Int),(2:Int))) (Option.bind (ykr p0 p1) (fun x3=>Option.bind (cond (p2 == 1) (some (decide (0<x3.2))) (cond (p2 == 2) (some (decide ((IntKind.u64.wrap (p1 - x3.2))≤x3.2))) (cond (p2 == 3) (some ((decide ((IntKind.u64.wrap (p1 - x3.2))<x3.2))||((x3.2 == (IntKind.u64.wrap (p1 - x3.2)))&&((iand .u64 x3.1.Lo 1) == 1)))) (some false)))) (fun v5=>Option.bind (cond v5 (Option.bind (yhu x3.1 (⟨0,1⟩:Zm)) (fun x14=>some (x14.1.Hi,x14.1.Lo))) (some (x3.1.Hi,x3.1.Lo))) (fun (v10,v11)=>cond (decide (0<v10)) (some ((0:Int),(3:Int))) (some (v11,(0:Int)))))))
theorem xeg {p0:Zm} {p1:Int} {p2:Int} {r:(Int×Int)}  (h:ypz p0 p1 p2=some r):PF 134 [.agg [pU p0.Hi,pU p0.Lo],pU p1,pI p2] (.tup [pU r.1,pI r.2]):=by
 unfold ypz at h
 refine ybp ?_
 refine ybb Tryz.func134 fk134 rfl Tryz.ntmps134 Tryz.results134 rfl (yaa (yae (yav rfl rfl rfl (ybt (cs:=[pU p0.Hi,pU p0.Lo]) rfl rfl (fun b1=>yap [] [6,7] [] fo0 (by kernel_rfl) (yab (yaa (yaa (yac [] (rg 11 9) [(20,pB (((p1 == 0)||(decide (p2<0)))||(decide (3<p2))))] fo0 (by kernel_rfl) (yab (zif rfl h (fun hc2 h=>?_) fun hc2 h=>?_)))))))))))
 ·refine yaa ?_
  refine yac [] [] [(6,pU 0),(7,pI 2)] fo0 (by kernel_rfl) (yab (yai (yag ?_)))
  obtain rfl:=osi h
  exact ybe (yee (ybi rfl) (ybi rfl)) zsn ⟨rfl,rfl⟩
 refine yah ?_
 refine yab (yaa (yad h fun x3 hx3 h=>yae (yal 6 [0] [22,23,24,21] [(25,.agg [pU x3.1.Hi,pU x3.1.Lo]),(26,pU x3.2)] (ycs 2 (ywq hx3) fo0) (by kernel_rfl) (yav rfl rfl rfl (yba (cs:=[pU 0,pU 0]) rfl rfl rfl rfl (fun b4=>ybh rfl rfl (yaq (vs:=[pU x3.1.Hi,pU x3.1.Lo]) rfl rfl rfl rfl rfl zuh (zl2) (yap [] [] [(9,pU x3.2)] fo0 (by kernel_rfl) (yab (yaa (yac [] [] [(10,pB false)] fo0 (by kernel_rfl) (yab (yaa (yaa (yac [] [] [(27,pI p2)] fo0 (by kernel_rfl) (yab (yad h fun q6 hq6 h=>?_)))))))))))))))))
 refine yar (Y:=(Unit)×(Bool)) (fun (_,v5)=>[(8,pP b4 0),(10,pB v5)]) (fun (_,v5)=>[PRes.b b4 187 [pU x3.1.Hi,pU x3.1.Lo]]) (fun (_,v5)=>q6=v5) ?_ ?_
 ·skip
  refine yaj (yaa (yac [] [29] [(28,pB (p2 == 1))] fo0 (by kernel_rfl) (yab (zif rfl hq6 (fun hc7 hq6=>?_) fun hc7 hq6=>?_))))
  ·refine yac [] [30,31] [(10,pB (decide (0<x3.2)))] fo0 (by kernel_rfl) ?_
   refine yak ?_
   obtain rfl:=osi hq6
   exact yaw ((),(decide (0<x3.2))) (zh2 rfl rfl) (zs1) rfl
  refine yaa ?_
  refine yac [] [33] [(32,pB (p2 == 2))] fo0 (by kernel_rfl) (yab (zif rfl hq6 (fun hc8 hq6=>?_) fun hc8 hq6=>?_))
  ·refine yac [] (rg 34 5) [(10,pB (decide ((IntKind.u64.wrap (p1 - x3.2))≤x3.2)))] fo0 (by kernel_rfl) ?_
   refine yak ?_
   obtain rfl:=osi hq6
   exact yaw ((),(decide ((IntKind.u64.wrap (p1 - x3.2))≤x3.2))) (zh2 rfl rfl) (zs1) rfl
  refine yaa ?_
  refine yac [] [40] [(39,pB (p2 == 3))] fo0 (by kernel_rfl) (yab (zif rfl hq6 (fun hc9 hq6=>?_) fun hc9 hq6=>?_))
  ·refine yac [0] (rg 41 18) [(10,pB ((decide ((IntKind.u64.wrap (p1 - x3.2))<x3.2))||((x3.2 == (IntKind.u64.wrap (p1 - x3.2)))&&((iand .u64 x3.1.Lo 1) == 1))))] fo0 (by kernel_rfl) ?_
   refine yak ?_
   obtain rfl:=osi hq6
   exact yaw ((),((decide ((IntKind.u64.wrap (p1 - x3.2))<x3.2))||((x3.2 == (IntKind.u64.wrap (p1 - x3.2)))&&((iand .u64 x3.1.Lo 1) == 1)))) (zh2 rfl rfl) (zs1) rfl
  refine yah ?_
  refine yak ?_
  obtain rfl:=osi hq6
  exact yaw ((),false) (zh2 rfl rfl) (zs1) rfl
 rintro ⟨_,v5⟩ τ hz;(try dsimp only at hz);subst q6;(try dsimp only at h);dsimp only [pupds]
 refine yaa (yaa (yac [] [] [(59,pB v5)] fo0 (by kernel_rfl) (yab (yad h fun q12 hq12 h=>?_))))
 refine yar (Y:=(Unit)×(Int×Int)) (fun (_,(v10,v11))=>[(8,pP b4 0)]) (fun (_,(v10,v11))=>[PRes.b b4 187 [pU v10,pU v11]]) (fun (_,(v10,v11))=>q12=(v10,v11)) ?_ ?_
 ·skip
  refine zif rfl hq12 (fun hc13 hq12=>?_) fun hc13 hq12=>?_
  ·refine yad hq12 ?_;clear hq12;intro x14 hx14 hq12
   refine yae (yal 6 [0] [61,62,63,60,65] [(64,.agg [pU x14.1.Hi,pU x14.1.Lo])] (ycs 2 (ync hx14) fo0) (by kernel_rfl) (ybh rfl rfl (yaq (vs:=[pU x14.1.Hi,pU x14.1.Lo]) rfl rfl rfl rfl rfl zuh (zl2) (yay ?_))))
   obtain rfl:=osi hq12
   exact yaw ((),(x14.1.Hi,x14.1.Lo)) (zh1 rfl) (zs1) rfl
  refine yah ?_
  obtain rfl:=osi hq12
  exact yaw ((),(x3.1.Hi,x3.1.Lo)) (zh1 rfl) (zs1) rfl
 rintro ⟨_,⟨v10,v11⟩⟩ τ hz;(try dsimp only at hz);subst q12;(try dsimp only at h);dsimp only [pupds]
 refine yaa (yaa (yac [0] [66,67] [(68,pB (decide (0<v10)))] fo0 (by kernel_rfl) (yab (zif rfl h (fun hc15 h=>?_) fun hc15 h=>?_))))
 ·refine yaa ?_
  refine yac [] [] [(6,pU 0),(7,pI 3)] fo0 (by kernel_rfl) (yab (yai (yag ?_)))
  obtain rfl:=osi h
  exact ybe (yee (ybi rfl) (ybi rfl)) zsn ⟨rfl,rfl⟩
 refine yah ?_
 refine yab (yaa (yac [0] [69,70] [(6,pU v11),(7,pI 0)] fo0 (by kernel_rfl) (yab (yai ?_))))
 obtain rfl:=osi h
 exact ybe (yee (ybi rfl) (ybi rfl)) zsn ⟨rfl,rfl⟩
def yks (p0:Int) (p1:Int):Option Zm:=Option.bind (loopF (S:=Int×Int×Int) (T:=(Int×Int)) (fun (v3,v4,v5)=>cond (decide (0≤v3)) (Option.bind (Option.bind (yhu (⟨v4,v5⟩:Zm) (⟨v4,v5⟩:Zm)) (fun x14=>Option.bind (ge0 v3) (fun u15=>cond ((iand .u64 (ishr .u64 p1 v3) 1) == 1) (Option.bind (yhu x14.1 (⟨0,p0⟩:Zm)) (fun x17=>some (x17.1.Hi,x17.1.Lo))) (some (x14.1.Hi,x14.1.Lo))))) (fun (v11,v12)=>some (.inl ((IntKind.i64.wrap (v3 - 1)),v11,v12)))) (some (.inr (v4,v5)))) FUEL (63,0,0)) (fun (v6,v7)=>some (⟨v6,v7⟩:Zm))
theorem yqa {p0:Int} {p1:Int} {r:Zm}  (h:yks p0 p1=some r):PF 135 [pU p0,pU p1] (.agg [pU r.Hi,pU r.Lo]):=by
 unfold yks at h
 refine ybp ?_
 refine ybb Tryz.func135 fk135 rfl Tryz.ntmps135 Tryz.results135 rfl (yaa (yae (yav rfl rfl rfl (yba (cs:=[pU 0,pU 0]) rfl rfl rfl rfl (fun b1=>yay (yab (yaa (yae (yal 1 [] [] [(7,.agg [pU 0,pU 0])] fo0 (by kernel_rfl) (yav rfl rfl rfl (yba (cs:=[pU 0,pU 0]) rfl rfl rfl rfl (fun b2=>ybh rfl rfl (yaq (vs:=[pU 0,pU 0]) rfl rfl rfl rfl rfl zuh (zl2) (yay (yab (yaa (yaa (yac [] [] [(6,pI 63)] fo0 (by kernel_rfl) (yab (yad h fun q9 hq9 h=>?_))))))))))))))))))))
 refine yar (Y:=(Unit)×(Int×Int)) (fun (_,(v6,v7))=>[(4,pP b1 0),(5,pP b2 0)]) (fun (_,(v6,v7))=>[PRes.b b1 187 [pU 0,pU 0],PRes.b b2 187 [pU v6,pU v7]]) (fun (_,(v6,v7))=>q9=(v6,v7)) ?_ ?_
 ·refine yaj ?_
  refine yat (Y:=Unit) (S:=Int×Int×Int) _ hq9 (fun _ (v3,v4,v5)=>[(0,pU p0),(1,pU p1),(4,pP b1 0),(5,pP b2 0),(6,pI v3)]) (fun _ (v3,v4,v5)=>[PRes.b b1 187 [pU 0,pU 0],PRes.b b2 187 [pU v4,pU v5]]) () (zh5 rfl rfl rfl rfl rfl) (zsc (zpt zph) (zs1)) ?_
  rintro _ ⟨v3,v4,v5⟩ o τ hb8;(try dsimp only at hb8);dsimp only [pupds]
  refine yaa (yaa (yac [] [8] [(9,pB (decide (0≤v3)))] fo0 (by kernel_rfl) (yab (zif rfl hb8 (fun hc10 hb8=>?_) fun hc10 hb8=>?_))))
  ·refine yah ?_
   refine yab (yaa (yad hb8 fun q13 hq13 hb8=>?_))
   refine yar (Y:=(Unit)×(Int×Int)) (fun (_,(v11,v12))=>[(0,pU p0),(1,pU p1),(4,pP b1 0),(5,pP b2 0),(6,pI v3)]) (fun (_,(v11,v12))=>[PRes.b b1 187 [pU 0,pU 0],PRes.b b2 187 [pU v11,pU v12]]) (fun (_,(v11,v12))=>q13=(v11,v12)) ?_ ?_
   ·skip
    refine yaj (yaa (yad hq13 fun x14 hx14 hq13=>yae (yal 6 [1,1] [13,14,15,12,17] [(16,.agg [pU x14.1.Hi,pU x14.1.Lo])] (ycs 2 (ync hx14) fo0) (by kernel_rfl) (ybh rfl rfl (yaq (vs:=[pU x14.1.Hi,pU x14.1.Lo]) rfl rfl rfl rfl rfl (zut zuh) (zl2) (yay (yab (yaa (yad hq13 fun u15 hu15 hq13=>yac [] [18,19,20,21] [(22,pB ((iand .u64 (ishr .u64 p1 v3) 1) == 1))] (xlh 2 hu15 fo0) (by kernel_rfl) (yab (zif rfl hq13 (fun hc16 hq13=>?_) fun hc16 hq13=>?_)))))))))))
    ·refine yad hq13 ?_;clear hq13;intro x17 hx17 hq13
     refine yae (yal 7 [1] [24,25,26,27,23,29] [(28,.agg [pU x17.1.Hi,pU x17.1.Lo])] (ycs 3 (ync hx17) fo0) (by kernel_rfl) (ybh rfl rfl (yaq (vs:=[pU x17.1.Hi,pU x17.1.Lo]) rfl rfl rfl rfl rfl (zut zuh) (zl2) (yay (yak ?_)))))
     obtain rfl:=osi hq13
     exact yaw ((),(x17.1.Hi,x17.1.Lo)) (zh5 rfl rfl rfl rfl rfl) (zs2) rfl
    refine yah ?_
    refine yak ?_
    obtain rfl:=osi hq13
    exact yaw ((),(x14.1.Hi,x14.1.Lo)) (zh5 rfl rfl rfl rfl rfl) (zs2) rfl
   rintro ⟨_,⟨v11,v12⟩⟩ τ hz;(try dsimp only at hz);subst q13;(try dsimp only at hb8);dsimp only [pupds]
   refine yac [] [10,11] [(6,pI (IntKind.i64.wrap (v3 - 1)))] fo0 (by kernel_rfl) ?_
   exact ybd hb8 () (zh5 rfl rfl rfl rfl rfl) (zs2)
  refine yax ?_
  refine yao (yam hb8 (fun ht=>yan rfl ?_))
  exact yaw ((),(v4,v5)) (zh2 rfl rfl) (zs2) ht.symm
 rintro ⟨_,⟨v6,v7⟩⟩ τ hz;(try dsimp only at hz);subst q9;(try dsimp only at h);dsimp only [pupds]
 refine yaa (yae (yal 1 [1] [] [(30,.agg [pU v6,pU v7])] fo0 (by kernel_rfl) (ybh rfl rfl (yaq (vs:=[pU v6,pU v7]) rfl rfl rfl rfl rfl zuh (zl2) (yay (yab (yai ?_)))))))
 obtain rfl:=osi h
 exact ybe (ygg (yfi rfl zm0 rfl)) zsn ⟨rfl,rfl⟩
def ykt (p0:Int) (p1:Int) (p2:Int) (p3:Int):Option (Int×Int):=Option.bind (yks p0 p1) (fun x1=>Option.bind (ypz x1 p2 p3) (fun x2=>some (x2.1,x2.2)))
theorem ywr {p0:Int} {p1:Int} {p2:Int} {p3:Int} {r:(Int×Int)}  (h:ykt p0 p1 p2 p3=some r):PF 95 [pU p0,pU p1,pU p2,pI p3] (.tup [pU r.1,pI r.2]):=by
 unfold ykt at h
 refine ybp ?_
 refine ybb Tryz.func95 fk95 rfl Tryz.ntmps95 Tryz.results95 rfl (yaa (yac [] [8,9] [] fo0 (by kernel_rfl) (yab (yaa (yad h fun x1 hx1 h=>yad h fun x2 hx2 h=>yac [] (rg 10 8) [(8,pU x2.1),(9,pI x2.2)] (ycs 2 (yqa hx1) (ycs 5 (xeg hx2) fo0)) (by kernel_rfl) (yab (yai ?_)))))))
 obtain rfl:=osi h
 exact ybe (yee (ybi rfl) (ybi rfl)) zsn ⟨rfl,rfl⟩
def yhv (p0:(List Zd)) (p1:(List Zc)) (p2:ByteArray) (p3:Za) (p4:(List Za)):Option (Zn×(List Za)):=Option.bind (ydq p0 p1 p2 p3) (fun x3=>cond (!x3) (some ((⟨ByteArray.empty,0,false,[],[]⟩:Zn),[])) (Option.bind (ygh p0 p3.Product) (fun x5=>Option.bind (yfc p1 p3.Agreement) (fun x7=>Option.bind (yio p1 p3.Agreement x5.1.Country p2) (fun x9=>Option.bind (loopF (S:=(List Za)×(List ByteArray)×Int×(List Zj)) (T:=((List Za)×(List ByteArray)×(List Zj))) (fun (l13,l14,v15,l17)=>cond (decide (v15<(x5.1.Inputs.length:Int))) (Option.bind (Option.bind (idx x5.1.Inputs v15) (fun m37=>Option.bind (ygh p0 m37.Product) (fun x39=>Option.bind (gd (x7.1.Kind == 3) (yin x7.1.Parties x39.1.Country)) (fun x41=>Option.bind (cond ((x7.1.Kind == 3)&&x41) (Option.bind (ykf l14 x39.1.Processes) (fun x46=>some x46)) (some l14)) (fun l42=>Option.bind (yif x9 x39.1.ID p4) (fun x47=>Option.bind (cond x47.2 (Option.bind (ygi l13 x47.1) (fun x53=>some x53)) (some l13)) (fun l49=>cond ((x47.2||(!((x7.1.Kind == 3)&&x41)))||((x39.1.Inputs.length:Int) == 0)) (Option.bind (app 32 l17 [(⟨x39.1.Code,m37.Value,x47.2⟩:Zj)]) (fun l57=>some (l49,l42,l57))) (Option.bind (loopF (S:=(List Za)×Int×(List Zj)) (T:=((List Za)×(List Zj))) (fun (l61,v62,l64)=>cond (decide (v62<(x39.1.Inputs.length:Int))) (Option.bind (idx x39.1.Inputs v62) (fun m75=>Option.bind (ygh p0 m75.Product) (fun x76=>Option.bind (idx x39.1.Inputs v62) (fun m78=>Option.bind (ykt (IntKind.u64.wrap m37.Value) (IntKind.u64.wrap m78.Value) (IntKind.u64.wrap x39.1.Price) 1) (fun x79=>Option.bind (cond ((x79.2 == 0)&&(decide (x79.1<1000000000000))) (some (IntKind.i64.wrap x79.1)) (some 1000000000000)) (fun v80=>Option.bind (yif x9 x76.1.ID p4) (fun x84=>Option.bind (cond x84.2 (Option.bind (ygi l61 x84.1) (fun x90=>some x90)) (some l61)) (fun l86=>Option.bind (app 32 l64 [(⟨x76.1.Code,v80,x84.2⟩:Zj)]) (fun l93=>some (.inl (l86,(IntKind.i64.wrap (v62+1)),l93))))))))))) (some (.inr (l61,l64)))) FUEL (l49,0,l17)) (fun (l67,l71)=>some (l67,l42,l71)))))))))) (fun (l30,l31,l35)=>some (.inl (l30,l31,(IntKind.i64.wrap (v15+1)),l35)))) (some (.inr (l13,l14,l17)))) FUEL (([]:List Za),x5.1.Processes,0,([]:List Zj))) (fun (l20,l21,l25)=>Option.bind (sub l21 0 (imin (l21.length:Int) 8)) (fun l98=>some ((⟨x5.1.Code,x5.1.Price,x5.1.Obtained,l98,l25⟩:Zn),l20))))))))
theorem yws {p0:(List Zd)} {p1:(List Zc)} {p2:ByteArray} {p3:Za} {p4:(List Za)} {r:(Zn×(List Za))}  (h:yhv p0 p1 p2 p3 p4=some r):PF 52 [pL Zd.enc p0,pL Zc.enc p1,pS p2,.agg [pI p3.Product,pI p3.Agreement],pL Za.enc p4] (.tup [.agg [pS r.1.Code,pI r.1.Price,pB r.1.Obtained,pL eS r.1.Processes,pL Zj.enc r.1.Inputs],pL Za.enc r.2]):=by
 unfold yhv at h
 refine ybp ?_
 refine ybb Tryz.func52 fk52 rfl Tryz.ntmps52 Tryz.results52 rfl (yaa (yae (yav rfl rfl rfl (ybt (cs:=[pI p3.Product,pI p3.Agreement]) rfl rfl (fun b1=>yav rfl rfl rfl (yba (cs:=[pS ByteArray.empty,pI 0,pB false,pN,pN]) rfl rfl rfl rfl (fun b2=>yap [] [11] [] fo0 (by kernel_rfl) (yab (yaa (yaa (yad h fun x3 hx3 h=>yac [1] (rg 35 5) [(40,pB (!x3))] (ycs 4 (ymp hx3) fo0) (by kernel_rfl) (yab (zif rfl h (fun hc4 h=>?_) fun hc4 h=>?_)))))))))))))
 ·refine yaa ?_
  refine yae (yal 1 [] [] [(41,.agg [pS ByteArray.empty,pI 0,pB false,pN,pN])] fo0 (by kernel_rfl) (ybh rfl rfl (yaq (vs:=[pS ByteArray.empty,pI 0,pB false,pN,pN]) rfl rfl rfl rfl rfl zuh (zl5) (yap [] [] [(11,pN)] fo0 (by kernel_rfl) (yab (ydn (k:=3) (b:=b2) rfl zuh (ydn (k:=4) (b:=b2) rfl zuh (yhq 11 rfl (yai (yag ?_))))))))))
  obtain rfl:=osi h
  exact ybe (yee (yfi rfl zm0 rfl) (ybi rfl)) zsn ⟨rfl,rfl⟩
 refine yah ?_
 refine yab (yaa (yad h fun x5 hx5 h=>yae (yal 7 [1] [43,44,45,46,42] [(47,.agg [pI x5.1.ID,pS x5.1.Code,pS x5.1.Country,pI x5.1.Price,pB x5.1.Obtained,pL eS x5.1.Processes,pL Zf.enc x5.1.Inputs]),(48,pB x5.2)] (ycs 3 (yjk hx5) fo0) (by kernel_rfl) (yav rfl rfl rfl (yba (cs:=[pI 0,pS ByteArray.empty,pS ByteArray.empty,pI 0,pB false,pN,pN]) rfl rfl rfl rfl (fun b6=>ybh rfl rfl (yaq (vs:=[pI x5.1.ID,pS x5.1.Code,pS x5.1.Country,pI x5.1.Price,pB x5.1.Obtained,pL eS x5.1.Processes,pL Zf.enc x5.1.Inputs]) rfl rfl rfl rfl rfl zuh (zl7) (yap [] [13] [] fo0 (by kernel_rfl) (yab (yaa (yad h fun x7 hx7 h=>yae (yal 7 [2] [50,51,52,53,49] [(54,.agg [pI x7.1.ID,pI x7.1.Kind,pL eS x7.1.Parties,pL Zh.enc x7.1.Rules]),(55,pB x7.2)] (ycs 3 (yjn hx7) fo0) (by kernel_rfl) (yav rfl rfl rfl (yba (cs:=[pI 0,pI 0,pN,pN]) rfl rfl rfl rfl (fun b8=>ybh rfl rfl (yaq (vs:=[pI x7.1.ID,pI x7.1.Kind,pL eS x7.1.Parties,pL Zh.enc x7.1.Rules]) rfl rfl rfl rfl rfl zuh (zl4) (yap [] [15] [] fo0 (by kernel_rfl) (yab (yaa (yad h fun x9 hx9 h=>yac [3,1] (rg 56 7) [(16,pL eI x9)] (ycs 6 (ytw hx9) fo0) (by kernel_rfl) (yab (yaa (yae (yal 7 [1,1,1] (rg 63 6) [(69,.agg [pS x5.1.Code,pI x5.1.Price,pB x5.1.Obtained,pN,pN])] fo0 (by kernel_rfl) (yav rfl rfl rfl (ycg rfl rfl rfl rfl rfl zin rfl rfl rfl rfl (fun b10=>yav rfl rfl rfl (yba (cs:=[pS ByteArray.empty,pI 0,pB false,pN,pN]) rfl rfl rfl rfl (fun b12=>ybh rfl rfl (yaq (vs:=[pS x5.1.Code,pI x5.1.Price,pB x5.1.Obtained,pN,pN]) rfl rfl rfl rfl rfl zuh (zl5) (yap [] [] [(18,pO (some ⟨b10,0,none⟩) 0 0)] fo0 (by kernel_rfl) (yab (yaa (yac [3] [71,72] [(19,pL eS x5.1.Processes)] fo0 (by kernel_rfl) (yab (yaa (yaa (yac [] [] [(20,pI 0)] fo0 (by kernel_rfl) (yab (ycn 137 3 ?_))))))))))))))))))))))))))))))))))))))))
 refine yen (enc:=Za.enc) (xs:=([]:List Za)) 18 rfl (by exact zpt (zpt zph)) ?_
 refine yad h fun q27 hq27 h=>?_
 refine yar (Y:=(Option Addr×Nat)×((List Za)×(List ByteArray)×(List Zj))) (fun ((a23,c24),(l20,l21,l25))=>[(10,pP b2 0),(17,pP b12 0),(18,pL Za.enc l20),(19,pL eS l21)]) (fun ((a23,c24),(l20,l21,l25))=>[PRes.b b12 73 [pS x5.1.Code,pI x5.1.Price,pB x5.1.Obtained,pN,pO a23 l25.length c24],PRes.b b2 73 [pS ByteArray.empty,pI 0,pB false,pN,pN],PRes.row a23 l25.length c24 137 3 (List.map Zj.enc l25)]) (fun ((a23,c24),(l20,l21,l25))=>q27=(l20,l21,l25)) ?_ ?_
 ·refine yaj ?_
  refine yat (Y:=Option Addr×Nat) (S:=(List Za)×(List ByteArray)×Int×(List Zj)) _ hq27 (fun (a18,c19) (l13,l14,v15,l17)=>[(0,pL Zd.enc p0),(4,pL Za.enc p4),(10,pP b2 0),(12,pP b6 0),(14,pP b8 0),(16,pL eI x9),(17,pP b12 0),(18,pL Za.enc l13),(19,pL eS l14),(20,pI v15)]) (fun (a18,c19) (l13,l14,v15,l17)=>[PRes.b b12 73 [pS x5.1.Code,pI x5.1.Price,pB x5.1.Obtained,pN,pO a18 l17.length c19],PRes.b b2 73 [pS ByteArray.empty,pI 0,pB false,pN,pN],PRes.b b6 46 [pI x5.1.ID,pS x5.1.Code,pS x5.1.Country,pI x5.1.Price,pB x5.1.Obtained,pL eS x5.1.Processes,pL Zf.enc x5.1.Inputs],PRes.b b8 52 [pI x7.1.ID,pI x7.1.Kind,pL eS x7.1.Parties,pL Zh.enc x7.1.Rules],PRes.row a18 l17.length c19 137 3 (List.map Zj.enc l17)]) (none,0) (zhc rfl (zh9 rfl rfl rfl rfl rfl rfl rfl rfl rfl)) (zsc (zpt (zpt zph)) (zsc (zpt (zpt (zpt (zpt zph)))) (zsc (zpt (zpt (zpt zph))) (zsc (zpt (zpt zph)) (zsc (zpt zph) zsn))))) ?_
  rintro ⟨a18,c19⟩ ⟨l13,l14,v15,l17⟩ o τ hb26;(try dsimp only at hb26);dsimp only [pupds]
  refine yaa (yaa (yac [2] [73,74,75,76] [(77,pB (decide (v15<(x5.1.Inputs.length:Int))))] fo0 (by kernel_rfl) (yab (zif rfl hb26 (fun hc29 hb26=>?_) fun hc29 hb26=>?_))))
  ·refine yah ?_
   refine yab (yaa (yad hb26 fun q36 hq36 hb26=>?_))
   refine yar (Y:=(Option Addr×Nat)×((List Za)×(List ByteArray)×(List Zj))) (fun ((a33,c34),(l30,l31,l35))=>[(0,pL Zd.enc p0),(4,pL Za.enc p4),(10,pP b2 0),(12,pP b6 0),(14,pP b8 0),(16,pL eI x9),(17,pP b12 0),(18,pL Za.enc l30),(19,pL eS l31),(20,pI v15)]) (fun ((a33,c34),(l30,l31,l35))=>[PRes.b b12 73 [pS x5.1.Code,pI x5.1.Price,pB x5.1.Obtained,pN,pO a33 l35.length c34],PRes.b b2 73 [pS ByteArray.empty,pI 0,pB false,pN,pN],PRes.b b6 46 [pI x5.1.ID,pS x5.1.Code,pS x5.1.Country,pI x5.1.Price,pB x5.1.Obtained,pL eS x5.1.Processes,pL Zf.enc x5.1.Inputs],PRes.b b8 52 [pI x7.1.ID,pI x7.1.Kind,pL eS x7.1.Parties,pL Zh.enc x7.1.Rules],PRes.row a33 l35.length c34 137 3 (List.map Zj.enc l35)]) (fun ((a33,c34),(l30,l31,l35))=>q36=(l30,l31,l35)) ?_ ?_
   ·skip
    refine yaj (yaa (yad hq36 fun m37 hm37 hq36=>yae (yal 5 [2] [80,81,82,83] [(84,.agg [pI m37.Product,pI m37.Value])] (ygt 3 Zf.enc hm37 fo0) (by kernel_rfl) (yav rfl rfl rfl (yba (cs:=[pI 0,pI 0]) rfl rfl rfl rfl (fun b38=>ybh rfl rfl (yaq (vs:=[pI m37.Product,pI m37.Value]) rfl rfl rfl rfl rfl zuh (zl2) (yay (yab (yaa (yad hq36 fun x39 hx39 hq36=>yae (yal 7 [0] [86,87,88,89,85] [(90,.agg [pI x39.1.ID,pS x39.1.Code,pS x39.1.Country,pI x39.1.Price,pB x39.1.Obtained,pL eS x39.1.Processes,pL Zf.enc x39.1.Inputs]),(91,pB x39.2)] (ycs 3 (yjk hx39) fo0) (by kernel_rfl) (yav rfl rfl rfl (yba (cs:=[pI 0,pS ByteArray.empty,pS ByteArray.empty,pI 0,pB false,pN,pN]) rfl rfl rfl rfl (fun b40=>ybh rfl rfl (yaq (vs:=[pI x39.1.ID,pS x39.1.Code,pS x39.1.Country,pI x39.1.Price,pB x39.1.Obtained,pL eS x39.1.Processes,pL Zf.enc x39.1.Inputs]) rfl rfl rfl rfl rfl zuh (zl7) (yap [] [23] [] fo0 (by kernel_rfl) (yab (yaa (yad hq36 fun x41 hx41 hq36=>yac [5,5,0] (rg 92 10) [(24,pB ((x7.1.Kind == 3)&&x41))] (ygu 8 (fun hc=>yjb (yfz hx41 hc)) fo0) (by kernel_rfl) (yab (yaa (yaa (yac [] [] [(102,pB ((x7.1.Kind == 3)&&x41))] fo0 (by kernel_rfl) (yab (yad hq36 fun q44 hq44 hq36=>?_))))))))))))))))))))))))))
    refine yar (Y:=(Unit)×((List ByteArray))) (fun (_,l42)=>[(0,pL Zd.enc p0),(4,pL Za.enc p4),(10,pP b2 0),(12,pP b6 0),(14,pP b8 0),(16,pL eI x9),(17,pP b12 0),(18,pL Za.enc l13),(19,pL eS l42),(20,pI v15),(21,pP b38 0),(22,pP b40 0),(24,pB ((x7.1.Kind == 3)&&x41))]) (fun (_,l42)=>[PRes.b b12 73 [pS x5.1.Code,pI x5.1.Price,pB x5.1.Obtained,pN,pO a18 l17.length c19],PRes.b b2 73 [pS ByteArray.empty,pI 0,pB false,pN,pN],PRes.b b38 90 [pI m37.Product,pI m37.Value],PRes.b b40 46 [pI x39.1.ID,pS x39.1.Code,pS x39.1.Country,pI x39.1.Price,pB x39.1.Obtained,pL eS x39.1.Processes,pL Zf.enc x39.1.Inputs],PRes.b b6 46 [pI x5.1.ID,pS x5.1.Code,pS x5.1.Country,pI x5.1.Price,pB x5.1.Obtained,pL eS x5.1.Processes,pL Zf.enc x5.1.Inputs],PRes.b b8 52 [pI x7.1.ID,pI x7.1.Kind,pL eS x7.1.Parties,pL Zh.enc x7.1.Rules],PRes.row a18 l17.length c19 137 3 (List.map Zj.enc l17)]) (fun (_,l42)=>q44=l42) ?_ ?_
    ·skip
     refine zif rfl hq44 (fun hc45 hq44=>?_) fun hc45 hq44=>?_
     ·refine yad hq44 ?_;clear hq44;intro x46 hx46 hq44
      refine yac [0] [103,104,105,106] [(19,pL eS x46)] (ycs 3 (yzc hx46) fo0) (by kernel_rfl) ?_
      obtain rfl:=osi hq44
      exact yaw ((),x46) (zhc rfl (zhc rfl (zhc rfl (zhc rfl (zh9 rfl rfl rfl rfl rfl rfl rfl rfl rfl))))) (zsc (zpt (zpt zph)) (zsc (zpt (zpt zph)) (zsc (zpt zph) (zs4)))) rfl
     refine yah ?_
     obtain rfl:=osi hq44
     exact yaw ((),l14) (zhc rfl (zhc rfl (zhc rfl (zhc rfl (zh9 rfl rfl rfl rfl rfl rfl rfl rfl rfl))))) (zsc (zpt (zpt zph)) (zsc (zpt (zpt zph)) (zsc (zpt zph) (zs4)))) rfl
    rintro ⟨_,l42⟩ τ hz;(try dsimp only at hz);subst q44;(try dsimp only at hq36);dsimp only [pupds]
    refine yaa (yad hq36 fun x47 hx47 hq36=>yae (yal 8 [3] ((rg 108 5)++[107]) [(113,.agg [pI x47.1.Product,pI x47.1.Agreement]),(114,pB x47.2)] (ycs 4 (ypc hx47) fo0) (by kernel_rfl) (yav rfl rfl rfl (yba (cs:=[pI 0,pI 0]) rfl rfl rfl rfl (fun b48=>ybh rfl rfl (yaq (vs:=[pI x47.1.Product,pI x47.1.Agreement]) rfl rfl rfl rfl rfl zuh (zl2) (yap [] [] [(26,pB x47.2)] fo0 (by kernel_rfl) (yab (yaa (yaa (yac [] [] [(115,pB x47.2)] fo0 (by kernel_rfl) (yab (yad hq36 fun q51 hq51 hq36=>?_)))))))))))))
    refine yar (Y:=(Unit)×((List Za))) (fun (_,l49)=>[(0,pL Zd.enc p0),(4,pL Za.enc p4),(10,pP b2 0),(12,pP b6 0),(14,pP b8 0),(16,pL eI x9),(17,pP b12 0),(18,pL Za.enc l49),(19,pL eS l42),(20,pI v15),(21,pP b38 0),(22,pP b40 0),(24,pB ((x7.1.Kind == 3)&&x41)),(26,pB x47.2)]) (fun (_,l49)=>[PRes.b b12 73 [pS x5.1.Code,pI x5.1.Price,pB x5.1.Obtained,pN,pO a18 l17.length c19],PRes.b b2 73 [pS ByteArray.empty,pI 0,pB false,pN,pN],PRes.b b38 90 [pI m37.Product,pI m37.Value],PRes.b b40 46 [pI x39.1.ID,pS x39.1.Code,pS x39.1.Country,pI x39.1.Price,pB x39.1.Obtained,pL eS x39.1.Processes,pL Zf.enc x39.1.Inputs],PRes.b b6 46 [pI x5.1.ID,pS x5.1.Code,pS x5.1.Country,pI x5.1.Price,pB x5.1.Obtained,pL eS x5.1.Processes,pL Zf.enc x5.1.Inputs],PRes.b b8 52 [pI x7.1.ID,pI x7.1.Kind,pL eS x7.1.Parties,pL Zh.enc x7.1.Rules],PRes.row a18 l17.length c19 137 3 (List.map Zj.enc l17)]) (fun (_,l49)=>q51=l49) ?_ ?_
    ·skip
     refine zif rfl hq51 (fun hc52 hq51=>?_) fun hc52 hq51=>?_
     ·refine yad hq51 ?_;clear hq51;intro x53 hx53 hq51
      refine yac [0] [116,117,118] [(18,pL Za.enc x53)] (ycs 2 (yoq hx53) fo0) (by kernel_rfl) ?_
      obtain rfl:=osi hq51
      exact yaw ((),x53) (zhc rfl (zhc rfl (zhc rfl (zhc rfl (zhc rfl (zh9 rfl rfl rfl rfl rfl rfl rfl rfl rfl)))))) (zsc (zpt zph) (zsc (zpt zph) (zsc (zpt zph) (zsc (zpt zph) (zsc (zpt zph) (zsc (zpt zph) (zsc (zpt zph) zsn))))))) rfl
     refine yah ?_
     obtain rfl:=osi hq51
     exact yaw ((),l13) (zhc rfl (zhc rfl (zhc rfl (zhc rfl (zhc rfl (zh9 rfl rfl rfl rfl rfl rfl rfl rfl rfl)))))) (zsc (zpt zph) (zsc (zpt zph) (zsc (zpt zph) (zsc (zpt zph) (zsc (zpt zph) (zsc (zpt zph) (zsc (zpt zph) zsn))))))) rfl
    rintro ⟨_,l49⟩ τ hz;(try dsimp only at hz);subst q51;(try dsimp only at hq36);dsimp only [pupds]
    refine yaa (yaa (yac [3] (rg 119 10) [(129,pB ((x47.2||(!((x7.1.Kind == 3)&&x41)))||((x39.1.Inputs.length:Int) == 0)))] fo0 (by kernel_rfl) (yab (zif rfl hq36 (fun hc54 hq36=>?_) fun hc54 hq36=>?_))))
    ·refine yaa ?_
     refine yae (yal 8 [0,3,2] [130,132,133,134,135,136] [(131,pO a18 l17.length c19),(137,.agg [pS x39.1.Code,pI m37.Value,pB x47.2])] fo0 (by kernel_rfl) (yav rfl rfl rfl (ycg rfl rfl rfl rfl rfl (zic rfl zin) rfl rfl rfl rfl (fun b55=>yad hq36 fun l57 hl57 hq36=>?_))))
     refine yav rfl rfl rfl (ycm (enc:=Zj.enc) rfl rfl rfl rfl rfl rfl rfl rfl rfl zm0 (by exact zpt (zpt (zpt (zpt (zpt (zpt (zpt zph))))))) hl57 (fun a58 c59=>?_))
     refine yal 1 [] [] [(140,pP b12 4)] fo0 (by kernel_rfl) (ybh rfl rfl (yaq (vs:=[pO a58 l57.length c59]) rfl rfl rfl rfl rfl (zut (zut zuh)) (zlt (zlt (zlt (zlt (zl1))))) (yay (yab (yax (yao (yan rfl ?_)))))))
     obtain rfl:=osi hq36
     exact yaw ((a58,c59),(l49,l42,l57)) (zhc rfl (zh9 rfl rfl rfl rfl rfl rfl rfl rfl rfl)) (zsc (zpt (zpt zph)) (zsc (zpt (zpt zph)) (zsc (zpt (zpt (zpt (zpt zph)))) (zsc (zpt (zpt (zpt (zpt zph)))) (zs1))))) rfl
    refine yah ?_
    refine yab (yaa (yac [] [] [(27,pI 0)] fo0 (by kernel_rfl) (yab (yad hq36 fun q73 hq73 hq36=>?_))))
    refine yjh (Y:=(Option Addr×Nat)×((List Za)×(List Zj))) (fun ((a69,c70),(l67,l71))=>[(0,pL Zd.enc p0),(4,pL Za.enc p4),(10,pP b2 0),(12,pP b6 0),(14,pP b8 0),(16,pL eI x9),(17,pP b12 0),(18,pL Za.enc l67),(19,pL eS l42),(20,pI v15)]) (fun ((a69,c70),(l67,l71))=>[PRes.b b12 73 [pS x5.1.Code,pI x5.1.Price,pB x5.1.Obtained,pN,pO a69 l71.length c70],PRes.b b2 73 [pS ByteArray.empty,pI 0,pB false,pN,pN],PRes.b b6 46 [pI x5.1.ID,pS x5.1.Code,pS x5.1.Country,pI x5.1.Price,pB x5.1.Obtained,pL eS x5.1.Processes,pL Zf.enc x5.1.Inputs],PRes.b b8 52 [pI x7.1.ID,pI x7.1.Kind,pL eS x7.1.Parties,pL Zh.enc x7.1.Rules],PRes.row a69 l71.length c70 137 3 (List.map Zj.enc l71)]) (fun ((a69,c70),(l67,l71))=>q73=(l67,l71)) ?_ ?_
    ·refine yaj ?_
     refine yat (Y:=Option Addr×Nat) (S:=(List Za)×Int×(List Zj)) _ hq73 (fun (a65,c66) (l61,v62,l64)=>[(0,pL Zd.enc p0),(4,pL Za.enc p4),(10,pP b2 0),(12,pP b6 0),(14,pP b8 0),(16,pL eI x9),(17,pP b12 0),(18,pL Za.enc l61),(19,pL eS l42),(20,pI v15),(21,pP b38 0),(22,pP b40 0),(27,pI v62)]) (fun (a65,c66) (l61,v62,l64)=>[PRes.b b12 73 [pS x5.1.Code,pI x5.1.Price,pB x5.1.Obtained,pN,pO a65 l64.length c66],PRes.b b2 73 [pS ByteArray.empty,pI 0,pB false,pN,pN],PRes.b b38 90 [pI m37.Product,pI m37.Value],PRes.b b40 46 [pI x39.1.ID,pS x39.1.Code,pS x39.1.Country,pI x39.1.Price,pB x39.1.Obtained,pL eS x39.1.Processes,pL Zf.enc x39.1.Inputs],PRes.b b6 46 [pI x5.1.ID,pS x5.1.Code,pS x5.1.Country,pI x5.1.Price,pB x5.1.Obtained,pL eS x5.1.Processes,pL Zf.enc x5.1.Inputs],PRes.b b8 52 [pI x7.1.ID,pI x7.1.Kind,pL eS x7.1.Parties,pL Zh.enc x7.1.Rules],PRes.row a65 l64.length c66 137 3 (List.map Zj.enc l64)]) (a18,c19) (zhc rfl (zhc rfl (zhc rfl (zhc rfl (zh9 rfl rfl rfl rfl rfl rfl rfl rfl rfl))))) (zsc zph (zs6)) ?_
     rintro ⟨a65,c66⟩ ⟨l61,v62,l64⟩ o τ hb72;(try dsimp only at hb72);dsimp only [pupds]
     refine yaa (yaa (yac [3] [141,142,143,144] [(145,pB (decide (v62<(x39.1.Inputs.length:Int))))] fo0 (by kernel_rfl) (yab (zif rfl hb72 (fun hc74 hb72=>?_) fun hc74 hb72=>?_))))
     ·refine yah ?_
      refine yab (yaa (yaj (yaa (yad hb72 fun m75 hm75 hb72=>yad hb72 fun x76 hx76 hb72=>yae (yal 11 [3] ((rg 149 8)++[148]) [(157,.agg [pI x76.1.ID,pS x76.1.Code,pS x76.1.Country,pI x76.1.Price,pB x76.1.Obtained,pL eS x76.1.Processes,pL Zf.enc x76.1.Inputs]),(158,pB x76.2)] (ygt 4 Zf.enc hm75 (ycs 7 (yjk hx76) fo0)) (by kernel_rfl) (yav rfl rfl rfl (yba (cs:=[pI 0,pS ByteArray.empty,pS ByteArray.empty,pI 0,pB false,pN,pN]) rfl rfl rfl rfl (fun b77=>ybh rfl rfl (yaq (vs:=[pI x76.1.ID,pS x76.1.Code,pS x76.1.Country,pI x76.1.Price,pB x76.1.Obtained,pL eS x76.1.Processes,pL Zf.enc x76.1.Inputs]) rfl rfl rfl rfl rfl zuh (zl7) (yap [] [29] [] fo0 (by kernel_rfl) (yab (yaa (ybr (ρd:=[]) [(0,0),(1,0),(2,0),(3,0),(4,0),(5,0),(6,0),(7,0),(8,0),(9,0),(10,0),(11,0),(12,0),(13,1),(14,0),(15,0),(16,0),(17,0),(18,0)] _ (List.Perm.refl _) (by kernel_rfl) rfl (yad hb72 fun m78 hm78 hb72=>yad hb72 fun x79 hx79 hb72=>ybl 19 [3,4,4] ((rg 160 14)++[159,174,175]) [(30,pU x79.1),(31,pI x79.2)] (ygt 6 Zf.enc hm78 (ycs 13 (ywr hx79) fo0)) (by kernel_rfl) (ycd (yab (yaa (yac [] [] [(32,pI 1000000000000)] fo0 (by kernel_rfl) (yab (yaa (yaa (yac [] (rg 176 5) [(181,pB ((x79.2 == 0)&&(decide (x79.1<1000000000000))))] fo0 (by kernel_rfl) (yab (yad hb72 fun q82 hq82 hb72=>?_))))))))))))))))))))))))
      refine yar (Y:=(Unit)×(Int)) (fun (_,v80)=>[(0,pL Zd.enc p0),(4,pL Za.enc p4),(10,pP b2 0),(12,pP b6 0),(14,pP b8 0),(16,pL eI x9),(17,pP b12 0),(18,pL Za.enc l61),(19,pL eS l42),(20,pI v15),(21,pP b38 0),(22,pP b40 0),(27,pI v62),(28,pP b77 0),(32,pI v80)]) (fun (_,v80)=>[PRes.b b12 73 [pS x5.1.Code,pI x5.1.Price,pB x5.1.Obtained,pN,pO a65 l64.length c66],PRes.b b2 73 [pS ByteArray.empty,pI 0,pB false,pN,pN],PRes.b b38 90 [pI m37.Product,pI m37.Value],PRes.b b40 46 [pI x39.1.ID,pS x39.1.Code,pS x39.1.Country,pI x39.1.Price,pB x39.1.Obtained,pL eS x39.1.Processes,pL Zf.enc x39.1.Inputs],PRes.b b6 46 [pI x5.1.ID,pS x5.1.Code,pS x5.1.Country,pI x5.1.Price,pB x5.1.Obtained,pL eS x5.1.Processes,pL Zf.enc x5.1.Inputs],PRes.b b77 46 [pI x76.1.ID,pS x76.1.Code,pS x76.1.Country,pI x76.1.Price,pB x76.1.Obtained,pL eS x76.1.Processes,pL Zf.enc x76.1.Inputs],PRes.b b8 52 [pI x7.1.ID,pI x7.1.Kind,pL eS x7.1.Parties,pL Zh.enc x7.1.Rules],PRes.row a65 l64.length c66 137 3 (List.map Zj.enc l64)]) (fun (_,v80)=>q82=v80) ?_ ?_
      ·skip
       refine zif rfl hq82 (fun hc83 hq82=>?_) fun hc83 hq82=>?_
       ·refine yac [] [182,183] [(32,pI (IntKind.i64.wrap x79.1))] fo0 (by kernel_rfl) ?_
        obtain rfl:=osi hq82
        exact yaw ((),(IntKind.i64.wrap x79.1)) (zhc rfl (zhc rfl (zhc rfl (zhc rfl (zhc rfl (zhc rfl (zh9 rfl rfl rfl rfl rfl rfl rfl rfl rfl))))))) (zsc (zpt zph) (zsc (zpt zph) (zsc (zpt zph) (zsc (zpt zph) (zsc (zpt zph) (zs3)))))) rfl
       refine yah ?_
       obtain rfl:=osi hq82
       exact yaw ((),1000000000000) (zhc rfl (zhc rfl (zhc rfl (zhc rfl (zhc rfl (zhc rfl (zh9 rfl rfl rfl rfl rfl rfl rfl rfl rfl))))))) (zsc (zpt zph) (zsc (zpt zph) (zsc (zpt zph) (zsc (zpt zph) (zsc (zpt zph) (zs3)))))) rfl
      rintro ⟨_,v80⟩ τ hz;(try dsimp only at hz);subst q82;(try dsimp only at hb72);dsimp only [pupds]
      refine yaa (yad hb72 fun x84 hx84 hb72=>yae (yal 8 [5] ((rg 185 5)++[184]) [(190,.agg [pI x84.1.Product,pI x84.1.Agreement]),(191,pB x84.2)] (ycs 4 (ypc hx84) fo0) (by kernel_rfl) (yav rfl rfl rfl (yba (cs:=[pI 0,pI 0]) rfl rfl rfl rfl (fun b85=>ybh rfl rfl (yaq (vs:=[pI x84.1.Product,pI x84.1.Agreement]) rfl rfl rfl rfl rfl zuh (zl2) (yap [] [] [(34,pB x84.2)] fo0 (by kernel_rfl) (yab (yaa (yaa (yac [] [] [(192,pB x84.2)] fo0 (by kernel_rfl) (yab (yad hb72 fun q88 hq88 hb72=>?_)))))))))))))
      refine yar (Y:=(Unit)×((List Za))) (fun (_,l86)=>[(0,pL Zd.enc p0),(4,pL Za.enc p4),(10,pP b2 0),(12,pP b6 0),(14,pP b8 0),(16,pL eI x9),(17,pP b12 0),(18,pL Za.enc l86),(19,pL eS l42),(20,pI v15),(21,pP b38 0),(22,pP b40 0),(27,pI v62),(28,pP b77 0),(32,pI v80),(34,pB x84.2)]) (fun (_,l86)=>[PRes.b b12 73 [pS x5.1.Code,pI x5.1.Price,pB x5.1.Obtained,pN,pO a65 l64.length c66],PRes.b b2 73 [pS ByteArray.empty,pI 0,pB false,pN,pN],PRes.b b38 90 [pI m37.Product,pI m37.Value],PRes.b b40 46 [pI x39.1.ID,pS x39.1.Code,pS x39.1.Country,pI x39.1.Price,pB x39.1.Obtained,pL eS x39.1.Processes,pL Zf.enc x39.1.Inputs],PRes.b b6 46 [pI x5.1.ID,pS x5.1.Code,pS x5.1.Country,pI x5.1.Price,pB x5.1.Obtained,pL eS x5.1.Processes,pL Zf.enc x5.1.Inputs],PRes.b b77 46 [pI x76.1.ID,pS x76.1.Code,pS x76.1.Country,pI x76.1.Price,pB x76.1.Obtained,pL eS x76.1.Processes,pL Zf.enc x76.1.Inputs],PRes.b b8 52 [pI x7.1.ID,pI x7.1.Kind,pL eS x7.1.Parties,pL Zh.enc x7.1.Rules],PRes.row a65 l64.length c66 137 3 (List.map Zj.enc l64)]) (fun (_,l86)=>q88=l86) ?_ ?_
      ·skip
       refine zif rfl hq88 (fun hc89 hq88=>?_) fun hc89 hq88=>?_
       ·refine yad hq88 ?_;clear hq88;intro x90 hx90 hq88
        refine yac [0] [193,194,195] [(18,pL Za.enc x90)] (ycs 2 (yoq hx90) fo0) (by kernel_rfl) ?_
        obtain rfl:=osi hq88
        exact yaw ((),x90) (zhc rfl (zhc rfl (zhc rfl (zhc rfl (zhc rfl (zhc rfl (zhc rfl (zh9 rfl rfl rfl rfl rfl rfl rfl rfl rfl)))))))) (zsc (zpt zph) (zsc (zpt zph) (zsc (zpt zph) (zsc (zpt zph) (zsc (zpt zph) (zsc (zpt zph) (zsc (zpt zph) (zsc (zpt zph) zsn)))))))) rfl
       refine yah ?_
       obtain rfl:=osi hq88
       exact yaw ((),l61) (zhc rfl (zhc rfl (zhc rfl (zhc rfl (zhc rfl (zhc rfl (zhc rfl (zh9 rfl rfl rfl rfl rfl rfl rfl rfl rfl)))))))) (zsc (zpt zph) (zsc (zpt zph) (zsc (zpt zph) (zsc (zpt zph) (zsc (zpt zph) (zsc (zpt zph) (zsc (zpt zph) (zsc (zpt zph) zsn)))))))) rfl
      rintro ⟨_,l86⟩ τ hz;(try dsimp only at hz);subst q88;(try dsimp only at hb72);dsimp only [pupds]
      refine yae (yal 7 [0,5] [196,198,199,200,201] [(197,pO a65 l64.length c66),(202,.agg [pS x76.1.Code,pI v80,pB x84.2])] fo0 (by kernel_rfl) (yav rfl rfl rfl (ycg rfl rfl rfl rfl rfl (zic rfl zin) rfl rfl rfl rfl (fun b91=>yad hb72 fun l93 hl93 hb72=>?_))))
      refine yav rfl rfl rfl (ycm (enc:=Zj.enc) rfl rfl rfl rfl rfl rfl rfl rfl rfl zm0 (by exact zpt (zpt (zpt (zpt (zpt (zpt (zpt (zpt zph)))))))) hl93 (fun a94 c95=>?_))
      refine yal 1 [] [] [(205,pP b12 4)] fo0 (by kernel_rfl) (ybh rfl rfl (yaq (vs:=[pO a94 l93.length c95]) rfl rfl rfl rfl rfl (zut (zut zuh)) (zlt (zlt (zlt (zlt (zl1))))) (yay (yak (yab (yac [] [146,147] [(27,pI (IntKind.i64.wrap (v62+1)))] fo0 (by kernel_rfl) ?_))))))
      exact ybd hb72 (a94,c95) (zhc rfl (zhc rfl (zhc rfl (zhc rfl (zh9 rfl rfl rfl rfl rfl rfl rfl rfl rfl))))) (zsc (zpt (zpt zph)) (zsc (zpt (zpt zph)) (zsc (zpt (zpt zph)) (zsc (zpt (zpt zph)) (zsc (zpt (zpt zph)) (zsc (zpt (zpt (zpt zph))) (zs1)))))))
     refine yax ?_
     refine yao (yam hb72 (fun ht=>yan rfl ?_))
     exact yja ((a65,c66),(l61,l64)) (zhc rfl (zh9 rfl rfl rfl rfl rfl rfl rfl rfl rfl)) (zsc zph (zsc zph (zsc (zpt (zpt zph)) (zsc (zpt (zpt zph)) (zsc (zpt (zpt zph)) zsn))))) ht.symm
    rintro ⟨⟨a69,c70⟩,⟨l67,l71⟩⟩ τ ρ1 hsub97 hz;(try dsimp only at hz hsub97);subst q73;(try dsimp only at hq36);dsimp only [pupds]
    refine yak ?_
    obtain rfl:=osi hq36
    exact yaw ((a69,c70),(l67,l42,l71)) (zhc rfl (zh9 rfl rfl rfl rfl rfl rfl rfl rfl rfl)) (PSub.trans (zs5) hsub97) rfl
   rintro ⟨⟨a33,c34⟩,⟨l30,l31,l35⟩⟩ τ hz;(try dsimp only at hz);subst q36;(try dsimp only at hb26);dsimp only [pupds]
   refine yac [] [78,79] [(20,pI (IntKind.i64.wrap (v15+1)))] fo0 (by kernel_rfl) ?_
   exact ybd hb26 (a33,c34) (zhc rfl (zh9 rfl rfl rfl rfl rfl rfl rfl rfl rfl)) (zs5)
  refine yax ?_
  refine yao (yam hb26 (fun ht=>yan rfl ?_))
  exact yaw ((a18,c19),(l13,l14,l17)) (zh4 rfl rfl rfl rfl) (zsc zph (zsc zph (zsc (zpt (zpt zph)) zsn))) ht.symm
 rintro ⟨⟨a23,c24⟩,⟨l20,l21,l25⟩⟩ τ hz;(try dsimp only at hz);subst q27;(try dsimp only at h);dsimp only [pupds]
 refine yaa (yad h fun l98 hl98 h=>yae (yal 6 [] [206,207,208,209] [(210,pL eS l98),(211,pP b12 3)] (fosl 4 eS 1 (fun _=>rfl) hl98 fo0) (by kernel_rfl) (ybh rfl rfl (yaq (vs:=[pL eS l98]) rfl rfl rfl rfl rfl zuh (zlt (zlt (zlt (zl1)))) (yay (yab (yaa (yae ?_))))))))
 refine yop (css:=List.map Zj.enc l25) (a:=a23) (by exact zpt (zpt zph)) ?_
 refine ykq (k:=4) (enc:=Zj.enc) (xs:=l25) (b:=b12) (a:=a23) rfl zm0 (zut zuh) (yal 2 [1] [] [(212,.agg [pS x5.1.Code,pI x5.1.Price,pB x5.1.Obtained,pL eS l98,pL Zj.enc l25]),(213,pL Za.enc l20)] fo0 (by kernel_rfl) (ybh rfl rfl (yaq (vs:=[pS x5.1.Code,pI x5.1.Price,pB x5.1.Obtained,pL eS l98,pL Zj.enc l25]) rfl rfl rfl rfl rfl (zut (zut zuh)) (zl5) (yap [] [] [(11,pL Za.enc l20)] fo0 (by kernel_rfl) (yab (yai ?_))))))
 obtain rfl:=osi h
 exact ybe (yee (yfi rfl zm2 rfl) (ybi rfl)) zsn ⟨rfl,rfl⟩
def yhi (p0:Zb) (p1:Zn) (p2:Zj):Option Bool:=Option.bind (ssub p2.Code 0 p0.Digits) (fun s4=>Option.bind (ssub p1.Code 0 p0.Digits) (fun s5=>cond (decide (s4=s5)) (some true) (Option.bind (loopF (S:=Int) (T:=(Unit)⊕(_)) (fun v7=>cond (decide (v7<(p0.Except.length:Int))) (Option.bind (idx p0.Except v7) (fun m11=>Option.bind (yhs p2.Code m11) (fun x12=>cond x12 (some (.inr (.inr true))) (some (.inl (IntKind.i64.wrap (v7+1))))))) (some (.inr (.inl ())))) FUEL 0) (fun q=>match q with | .inl _=>some false | .inr e=>some e))))
theorem ytx {p0:Zb} {p1:Zn} {p2:Zj} {r:Bool}  (h:yhi p0 p1 p2=some r):PF 136 [.agg [pI p0.Kind,pI p0.Digits,pL eS p0.Except,pI p0.Tolerance,pI p0.Limit,pS p0.Name,pL Zb.enc p0.Args],.agg [pS p1.Code,pI p1.Price,pB p1.Obtained,pL eS p1.Processes,pL Zj.enc p1.Inputs],.agg [pS p2.Code,pI p2.Value,pB p2.Originating]] (pB r):=by
 unfold yhi at h
 refine ybp ?_
 refine ybb Tryz.func136 fk136 rfl Tryz.ntmps136 Tryz.results136 rfl (yaa (yae (yav rfl rfl rfl (ybt (cs:=[pI p0.Kind,pI p0.Digits,pL eS p0.Except,pI p0.Tolerance,pI p0.Limit,pS p0.Name,pL Zb.enc p0.Args]) rfl rfl (fun b1=>yav rfl rfl rfl (ybt (cs:=[pS p1.Code,pI p1.Price,pB p1.Obtained,pL eS p1.Processes,pL Zj.enc p1.Inputs]) rfl rfl (fun b2=>yav rfl rfl rfl (ybt (cs:=[pS p2.Code,pI p2.Value,pB p2.Originating]) rfl rfl (fun b3=>yap [] [6] [] fo0 (by kernel_rfl) (yab (yaa (yaa (ybr (ρd:=[]) [(0,0),(1,0),(2,0),(3,0),(4,0),(5,0),(6,0),(7,0),(8,0),(9,0),(10,0)] _ (List.Perm.refl _) (by kernel_rfl) rfl (yad h fun s4 hs4 h=>yad h fun s5 hs5 h=>ybl 11 [0,2,1,2] (rg 8 10) [(18,pB (decide (s4=s5)))] (foss 4 hs4 (foss 9 hs5 fo0)) (by kernel_rfl) (ycd (yab (zif rfl h (fun hc6 h=>?_) fun hc6 h=>?_)))))))))))))))))
 ·refine yaa ?_
  refine yac [] [] [(6,pB true)] fo0 (by kernel_rfl) (yab (yai (yag ?_)))
  obtain rfl:=osi h
  exact zq rfl ⟨rfl,rfl⟩
 refine yah ?_
 refine yab (yaa (yaa (yac [] [] [(7,pI 0)] fo0 (by kernel_rfl) (yab (yad h fun q9 hq9 h=>?_)))))
 refine yar (Y:=(Unit)×(Unit)) (fun (_,_)=>[]) (fun (_,_)=>[]) (fun (_,_)=>q9=Sum.inl ()) ?_ ?_
 ·refine yaj ?_
  refine yat (Y:=Unit) (S:=Int) _ hq9 (fun _ v7=>[(3,pP b1 0),(5,pP b3 0),(7,pI v7)]) (fun _ v7=>[PRes.b b1 68 [pI p0.Kind,pI p0.Digits,pL eS p0.Except,pI p0.Tolerance,pI p0.Limit,pS p0.Name,pL Zb.enc p0.Args],PRes.b b3 137 [pS p2.Code,pI p2.Value,pB p2.Originating]]) () (zh3 rfl rfl rfl) (zsc (zpt (zpt zph)) (zs1)) ?_
  rintro _ v7 o τ hb8;(try dsimp only at hb8);dsimp only [pupds]
  refine yaa (yaa (yac [0] [19,20,21,22] [(23,pB (decide (v7<(p0.Except.length:Int))))] fo0 (by kernel_rfl) (yab (zif rfl hb8 (fun hc10 hb8=>?_) fun hc10 hb8=>?_))))
  ·refine yah ?_
   refine yab (yaa (yaj (yaa (ybr (ρd:=[]) [(0,0),(1,0),(2,0),(3,0),(4,0),(5,0),(6,0),(7,1)] _ (List.Perm.refl _) (by kernel_rfl) rfl (yad hb8 fun m11 hm11 hb8=>yad hb8 fun x12 hx12 hb8=>ybl 8 [1,0] (rg 26 7) [(33,pB x12)] (ygt 5 eS hm11 (ycs 7 (ypx hx12) fo0)) (by kernel_rfl) (ycd (yab (zif rfl hb8 (fun hc13 hb8=>?_) fun hc13 hb8=>?_))))))))
   ·refine yaa ?_
    refine yac [] [] [(6,pB true)] fo0 (by kernel_rfl) (yab (yai (yaf (yag ?_))))
    refine yas hb8 (fun ht=>?_);subst ht
    refine yaf (yau ?_)
    obtain rfl:=osi h
    exact zq rfl ⟨rfl,rfl⟩
   refine yah ?_
   refine yak (yab (yac [] [24,25] [(7,pI (IntKind.i64.wrap (v7+1)))] fo0 (by kernel_rfl) ?_))
   exact ybd hb8 () (zh3 rfl rfl rfl) (zs2)
  refine yax ?_
  refine yao (yam hb8 (fun ht=>yan rfl ?_))
  exact yaw ((),()) zhn zsn ht.symm
 rintro ⟨_,_⟩ τ hz;(try dsimp only at hz);subst q9;(try dsimp only at h);dsimp only [pupds]
 refine yaa (yac [] [] [(6,pB false)] fo0 (by kernel_rfl) (yab (yai ?_)))
 obtain rfl:=osi h
 exact zq rfl ⟨rfl,rfl⟩
def ymd (p0:Zm) (p1:Zm):Option Bool:=some ((decide (p0.Hi<p1.Hi))||((p0.Hi == p1.Hi)&&(decide (p0.Lo<p1.Lo))))
theorem ysw {p0:Zm} {p1:Zm} {r:Bool}  (h:ymd p0 p1=some r):PF 188 [.agg [pU p0.Hi,pU p0.Lo],.agg [pU p1.Hi,pU p1.Lo]] (pB r):=by
 unfold ymd at h
 refine ybp ?_
 refine ybb Tryz.func188 fk188 rfl Tryz.ntmps188 Tryz.results188 rfl (yaa (yae (yav rfl rfl rfl (ybt (cs:=[pU p0.Hi,pU p0.Lo]) rfl rfl (fun b1=>yav rfl rfl rfl (ybt (cs:=[pU p1.Hi,pU p1.Lo]) rfl rfl (fun b2=>yap [] [4] [] fo0 (by kernel_rfl) (yab (yaa (yac [1,0,1,0,1,0] (rg 5 19) [(4,pB ((decide (p0.Hi<p1.Hi))||((p0.Hi == p1.Hi)&&(decide (p0.Lo<p1.Lo)))))] fo0 (by kernel_rfl) (yab (yai ?_))))))))))))
 obtain rfl:=osi h
 exact zq rfl ⟨rfl,rfl⟩
def yor (p0:Zm) (p1:Zm):Option Int:=Option.bind (ymd p0 p1) (fun x3=>cond x3 (some (-1)) (Option.bind (ymd p1 p0) (fun x5=>cond x5 (some (1:Int)) (some (0:Int)))))
theorem yzd {p0:Zm} {p1:Zm} {r:Int}  (h:yor p0 p1=some r):PF 171 [.agg [pU p0.Hi,pU p0.Lo],.agg [pU p1.Hi,pU p1.Lo]] (pI r):=by
 unfold yor at h
 refine ybp ?_
 refine ybb Tryz.func171 fk171 rfl Tryz.ntmps171 Tryz.results171 rfl (yaa (yae (yav rfl rfl rfl (ybt (cs:=[pU p0.Hi,pU p0.Lo]) rfl rfl (fun b1=>yav rfl rfl rfl (ybt (cs:=[pU p1.Hi,pU p1.Lo]) rfl rfl (fun b2=>yap [] [4] [] fo0 (by kernel_rfl) (yab (yaa (yaj (yaa (yad h fun x3 hx3 h=>yac [1,0] [6,7,8] [(5,pB x3)] (ycs 2 (ysw hx3) fo0) (by kernel_rfl) (yab (zif rfl h (fun hc4 h=>?_) fun hc4 h=>?_))))))))))))))
 ·refine yaa ?_
  refine yac [] [] [(4,pI (-1))] fo0 (by kernel_rfl) (yab (yai (yaf (yag ?_))))
  obtain rfl:=osi h
  exact zq rfl ⟨rfl,rfl⟩
 refine yaa ?_
 refine yad h fun x5 hx5 h=>yac [0,1] [10,11,12] [(9,pB x5)] (ycs 2 (ysw hx5) fo0) (by kernel_rfl) (yab (zif rfl h (fun hc6 h=>?_) fun hc6 h=>?_))
 ·refine yaa ?_
  refine yac [] [] [(4,pI 1)] fo0 (by kernel_rfl) (yab (yai (yaf (yag ?_))))
  obtain rfl:=osi h
  exact zq rfl ⟨rfl,rfl⟩
 refine yah ?_
 refine yak (yab (yaa (yac [] [] [(4,pI 0)] fo0 (by kernel_rfl) (yab (yai ?_)))))
 obtain rfl:=osi h
 exact zq rfl ⟨rfl,rfl⟩
def yjc (p0:Int) (p1:Int) (p2:Int):Option Bool:=Option.bind (yks (IntKind.u64.wrap p0) 1000000) (fun x1=>Option.bind (yks (IntKind.u64.wrap p1) (IntKind.u64.wrap p2)) (fun x2=>Option.bind (yor x1 x2) (fun x3=>some (decide (x3≤0)))))
theorem yqb {p0:Int} {p1:Int} {p2:Int} {r:Bool}  (h:yjc p0 p1 p2=some r):PF 137 [pI p0,pI p1,pI p2] (pB r):=by
 unfold yjc at h
 refine ybp ?_
 refine ybb Tryz.func137 fk137 rfl Tryz.ntmps137 Tryz.results137 rfl (yaa (yac [] [6] [] fo0 (by kernel_rfl) (yab (yaa (yad h fun x1 hx1 h=>yad h fun x2 hx2 h=>yad h fun x3 hx3 h=>yac [] (rg 7 10) [(6,pB (decide (x3≤0)))] (ycs 2 (yqa hx1) (ycs 7 (yqa hx2) (ycs 8 (yzd hx3) fo0))) (by kernel_rfl) (yab (yai ?_)))))))
 obtain rfl:=osi h
 exact zq rfl ⟨rfl,rfl⟩
def yjo (rec:Zb→Zn→Option Bool) (p0:Zb) (p1:Zn):Option Bool:=Option.bind (loopF (S:=Int×Int×Int) (T:=(Int×Int)) (fun (v3,v4,v5)=>cond (decide (v5<(p1.Inputs.length:Int))) (Option.bind (Option.bind (idx p1.Inputs v5) (fun m14=>cond m14.Originating (some (v3,v4)) (Option.bind (gd ((!(p0.Kind == 3))&&(p0.Kind == 2)) (yhi p0 p1 m14)) (fun x17=>cond ((p0.Kind == 3)||((p0.Kind == 2)&&x17)) (some ((IntKind.i64.wrap (v3+m14.Value)),(IntKind.i64.wrap (v4+1)))) (some (v3,(IntKind.i64.wrap (v4+1)))))))) (fun (v11,v12)=>some (.inl (v11,v12,(IntKind.i64.wrap (v5+1)))))) (some (.inr (v3,v4)))) FUEL (0,0,0)) (fun (v6,v7)=>Option.bind (loopF (S:=Int×Int) (T:=(Int)) (fun (v19,v20)=>cond (decide (v20<(p0.Args.length:Int))) (Option.bind (Option.bind (idx p0.Args v20) (fun m27=>Option.bind (rec m27 p1) (fun x28=>cond x28 (some (IntKind.i64.wrap (v19+1))) (some v19)))) (fun v25=>some (.inl (v25,(IntKind.i64.wrap (v20+1)))))) (some (.inr v19))) FUEL (0,0)) (fun v21=>cond (p0.Kind == 1) (some (p1.Obtained&&(v7 == 0))) (cond (p0.Kind == 2) (Option.bind (yjc v6 p0.Tolerance p1.Price) (fun x32=>some x32)) (cond (p0.Kind == 3) (Option.bind (yjc v6 p0.Limit p1.Price) (fun x34=>some x34)) (cond (p0.Kind == 4) (Option.bind (yin p1.Processes p0.Name) (fun x36=>some x36)) (cond (p0.Kind == 5) (some (v21 == (p0.Args.length:Int))) (some (decide (0<v21)))))))))
theorem yuy {rec:Zb→Zn→Option Bool} (hrec:∀ {p0:Zb} {p1:Zn} {r:Bool},rec p0 p1=some r→PF 97 [.agg [pI p0.Kind,pI p0.Digits,pL eS p0.Except,pI p0.Tolerance,pI p0.Limit,pS p0.Name,pL Zb.enc p0.Args],.agg [pS p1.Code,pI p1.Price,pB p1.Obtained,pL eS p1.Processes,pL Zj.enc p1.Inputs]] (pB r)) {p0:Zb} {p1:Zn} {r:Bool} (h:yjo rec p0 p1=some r):PF 97 [.agg [pI p0.Kind,pI p0.Digits,pL eS p0.Except,pI p0.Tolerance,pI p0.Limit,pS p0.Name,pL Zb.enc p0.Args],.agg [pS p1.Code,pI p1.Price,pB p1.Obtained,pL eS p1.Processes,pL Zj.enc p1.Inputs]] (pB r):=by
 unfold yjo at h
 refine ybp ?_
 refine ybb Tryz.func97 fk97 rfl Tryz.ntmps97 Tryz.results97 rfl (yaa (yae (yav rfl rfl rfl (ybt (cs:=[pI p0.Kind,pI p0.Digits,pL eS p0.Except,pI p0.Tolerance,pI p0.Limit,pS p0.Name,pL Zb.enc p0.Args]) rfl rfl (fun b1=>yav rfl rfl rfl (ybt (cs:=[pS p1.Code,pI p1.Price,pB p1.Obtained,pL eS p1.Processes,pL Zj.enc p1.Inputs]) rfl rfl (fun b2=>yap [] [4] [] fo0 (by kernel_rfl) (yab (yaa (yac [] [] [(5,pI 0),(6,pI 0),(7,pI 0)] fo0 (by kernel_rfl) (yab (yaa (yaa (yac [] [] [(8,pI 0)] fo0 (by kernel_rfl) (yab (yad h fun q9 hq9 h=>?_))))))))))))))))
 refine yar (Y:=(Unit)×(Int×Int)) (fun (_,(v6,v7))=>[(2,pP b1 0),(3,pP b2 0),(5,pI v6),(6,pI v7),(7,pI 0)]) (fun (_,(v6,v7))=>[PRes.b b1 68 [pI p0.Kind,pI p0.Digits,pL eS p0.Except,pI p0.Tolerance,pI p0.Limit,pS p0.Name,pL Zb.enc p0.Args],PRes.b b2 73 [pS p1.Code,pI p1.Price,pB p1.Obtained,pL eS p1.Processes,pL Zj.enc p1.Inputs]]) (fun (_,(v6,v7))=>q9=(v6,v7)) ?_ ?_
 ·refine yaj ?_
  refine yat (Y:=Unit) (S:=Int×Int×Int) _ hq9 (fun _ (v3,v4,v5)=>[(2,pP b1 0),(3,pP b2 0),(5,pI v3),(6,pI v4),(7,pI 0),(8,pI v5)]) (fun _ (v3,v4,v5)=>[PRes.b b1 68 [pI p0.Kind,pI p0.Digits,pL eS p0.Except,pI p0.Tolerance,pI p0.Limit,pS p0.Name,pL Zb.enc p0.Args],PRes.b b2 73 [pS p1.Code,pI p1.Price,pB p1.Obtained,pL eS p1.Processes,pL Zj.enc p1.Inputs]]) () (zh6 rfl rfl rfl rfl rfl rfl) (zsc (zpt zph) (zs1)) ?_
  rintro _ ⟨v3,v4,v5⟩ o τ hb8;(try dsimp only at hb8);dsimp only [pupds]
  refine yaa (yaa (yac [1] [11,12,13,14] [(15,pB (decide (v5<(p1.Inputs.length:Int))))] fo0 (by kernel_rfl) (yab (zif rfl hb8 (fun hc10 hb8=>?_) fun hc10 hb8=>?_))))
  ·refine yah ?_
   refine yab (yaa (yad hb8 fun q13 hq13 hb8=>?_))
   refine yar (Y:=(Unit)×(Int×Int)) (fun (_,(v11,v12))=>[(2,pP b1 0),(3,pP b2 0),(5,pI v11),(6,pI v12),(7,pI 0),(8,pI v5)]) (fun (_,(v11,v12))=>[PRes.b b1 68 [pI p0.Kind,pI p0.Digits,pL eS p0.Except,pI p0.Tolerance,pI p0.Limit,pS p0.Name,pL Zb.enc p0.Args],PRes.b b2 73 [pS p1.Code,pI p1.Price,pB p1.Obtained,pL eS p1.Processes,pL Zj.enc p1.Inputs]]) (fun (_,(v11,v12))=>q13=(v11,v12)) ?_ ?_
   ·skip
    refine yaj (yaa (yad hq13 fun m14 hm14 hq13=>yae (yal 5 [1] [18,19,20,21] [(22,.agg [pS m14.Code,pI m14.Value,pB m14.Originating])] (ygt 3 Zj.enc hm14 fo0) (by kernel_rfl) (yav rfl rfl rfl (yba (cs:=[pS ByteArray.empty,pI 0,pB false]) rfl rfl rfl rfl (fun b15=>ybh rfl rfl (yaq (vs:=[pS m14.Code,pI m14.Value,pB m14.Originating]) rfl rfl rfl rfl rfl zuh (zl3) (yay (yab (yaa (yaa (yac [0] [23] [(24,pB m14.Originating)] fo0 (by kernel_rfl) (yab (zif rfl hq13 (fun hc16 hq13=>?_) fun hc16 hq13=>?_))))))))))))))
    ·refine yax ?_
     refine yao (yan rfl ?_)
     obtain rfl:=osi hq13
     exact yaw ((),(v3,v4)) (zh6 rfl rfl rfl rfl rfl rfl) (zsc (zpt zph) (zsc (zpt zph) zsn)) rfl
    refine yah ?_
    refine yab (yaa (yac [] [25,26] [(6,pI (IntKind.i64.wrap (v4+1)))] fo0 (by kernel_rfl) (yab (yaa (yad hq13 fun x17 hx17 hq13=>yac [1,1,1,2,0] (rg 27 13) [(40,pB ((p0.Kind == 3)||((p0.Kind == 2)&&x17)))] (ygu 11 (fun hc=>ytx (yfz hx17 hc)) fo0) (by kernel_rfl) (yab (zif rfl hq13 (fun hc18 hq13=>?_) fun hc18 hq13=>?_)))))))
    ·refine yac [0] [41,42,43,44] [(5,pI (IntKind.i64.wrap (v3+m14.Value)))] fo0 (by kernel_rfl) ?_
     refine yak ?_
     obtain rfl:=osi hq13
     exact yaw ((),((IntKind.i64.wrap (v3+m14.Value)),(IntKind.i64.wrap (v4+1)))) (zh6 rfl rfl rfl rfl rfl rfl) (zsc (zpt zph) (zsc (zpt zph) zsn)) rfl
    refine yah ?_
    refine yak ?_
    obtain rfl:=osi hq13
    exact yaw ((),(v3,(IntKind.i64.wrap (v4+1)))) (zh6 rfl rfl rfl rfl rfl rfl) (zsc (zpt zph) (zsc (zpt zph) zsn)) rfl
   rintro ⟨_,⟨v11,v12⟩⟩ τ hz;(try dsimp only at hz);subst q13;(try dsimp only at hb8);dsimp only [pupds]
   refine yac [] [16,17] [(8,pI (IntKind.i64.wrap (v5+1)))] fo0 (by kernel_rfl) ?_
   exact ybd hb8 () (zh6 rfl rfl rfl rfl rfl rfl) (zs2)
  refine yax ?_
  refine yao (yam hb8 (fun ht=>yan rfl ?_))
  exact yaw ((),(v3,v4)) (zh5 rfl rfl rfl rfl rfl) (zs2) ht.symm
 rintro ⟨_,⟨v6,v7⟩⟩ τ hz;(try dsimp only at hz);subst q9;(try dsimp only at h);dsimp only [pupds]
 refine yaa (yaa (yac [] [] [(10,pI 0)] fo0 (by kernel_rfl) (yab (yad h fun q23 hq23 h=>?_))))
 refine yar (Y:=(Unit)×(Int)) (fun (_,v21)=>[(2,pP b1 0),(3,pP b2 0),(5,pI v6),(6,pI v7),(7,pI v21)]) (fun (_,v21)=>[PRes.b b1 68 [pI p0.Kind,pI p0.Digits,pL eS p0.Except,pI p0.Tolerance,pI p0.Limit,pS p0.Name,pL Zb.enc p0.Args],PRes.b b2 73 [pS p1.Code,pI p1.Price,pB p1.Obtained,pL eS p1.Processes,pL Zj.enc p1.Inputs]]) (fun (_,v21)=>q23=v21) ?_ ?_
 ·refine yaj ?_
  refine yat (Y:=Unit) (S:=Int×Int) _ hq23 (fun _ (v19,v20)=>[(2,pP b1 0),(3,pP b2 0),(5,pI v6),(6,pI v7),(7,pI v19),(10,pI v20)]) (fun _ (v19,v20)=>[PRes.b b1 68 [pI p0.Kind,pI p0.Digits,pL eS p0.Except,pI p0.Tolerance,pI p0.Limit,pS p0.Name,pL Zb.enc p0.Args],PRes.b b2 73 [pS p1.Code,pI p1.Price,pB p1.Obtained,pL eS p1.Processes,pL Zj.enc p1.Inputs]]) () (zh6 rfl rfl rfl rfl rfl rfl) (zs2) ?_
  rintro _ ⟨v19,v20⟩ o τ hb22;(try dsimp only at hb22);dsimp only [pupds]
  refine yaa (yaa (yac [0] [45,46,47,48] [(49,pB (decide (v20<(p0.Args.length:Int))))] fo0 (by kernel_rfl) (yab (zif rfl hb22 (fun hc24 hb22=>?_) fun hc24 hb22=>?_))))
  ·refine yah ?_
   refine yab (yaa (yad hb22 fun q26 hq26 hb22=>?_))
   refine yar (Y:=(Unit)×(Int)) (fun (_,v25)=>[(2,pP b1 0),(3,pP b2 0),(5,pI v6),(6,pI v7),(7,pI v25),(10,pI v20)]) (fun (_,v25)=>[PRes.b b1 68 [pI p0.Kind,pI p0.Digits,pL eS p0.Except,pI p0.Tolerance,pI p0.Limit,pS p0.Name,pL Zb.enc p0.Args],PRes.b b2 73 [pS p1.Code,pI p1.Price,pB p1.Obtained,pL eS p1.Processes,pL Zj.enc p1.Inputs]]) (fun (_,v25)=>q26=v25) ?_ ?_
   ·skip
    refine yaj (yaa (ybr (ρd:=[]) [(0,0),(1,0),(2,0),(3,0),(4,0),(5,0),(6,1)] _ (List.Perm.refl _) (by kernel_rfl) rfl (yad hq26 fun m27 hm27 hq26=>yad hq26 fun x28 hx28 hq26=>ybl 7 [0,1] (rg 52 6) [(58,pB x28)] (yut 3 Zb.enc (Zb.enc_eq _) hm27 (ycs 6 (hrec hx28) fo0)) (by kernel_rfl) (ycd (yab (zif rfl hq26 (fun hc29 hq26=>?_) fun hc29 hq26=>?_))))))
    ·refine yac [] [59,60] [(7,pI (IntKind.i64.wrap (v19+1)))] fo0 (by kernel_rfl) ?_
     refine yak ?_
     obtain rfl:=osi hq26
     exact yaw ((),(IntKind.i64.wrap (v19+1))) (zh6 rfl rfl rfl rfl rfl rfl) (zs2) rfl
    refine yah ?_
    refine yak ?_
    obtain rfl:=osi hq26
    exact yaw ((),v19) (zh6 rfl rfl rfl rfl rfl rfl) (zs2) rfl
   rintro ⟨_,v25⟩ τ hz;(try dsimp only at hz);subst q26;(try dsimp only at hb22);dsimp only [pupds]
   refine yac [] [50,51] [(10,pI (IntKind.i64.wrap (v20+1)))] fo0 (by kernel_rfl) ?_
   exact ybd hb22 () (zh6 rfl rfl rfl rfl rfl rfl) (zs2)
  refine yax ?_
  refine yao (yam hb22 (fun ht=>yan rfl ?_))
  exact yaw ((),v19) (zh5 rfl rfl rfl rfl rfl) (zs2) ht.symm
 rintro ⟨_,v21⟩ τ hz;(try dsimp only at hz);subst q23;(try dsimp only at h);dsimp only [pupds]
 refine yaa (yaa (yac [0] [61] [(62,pI p0.Kind)] fo0 (by kernel_rfl) (yab (yaj (yaa (yac [] [64] [(63,pB (p0.Kind == 1))] fo0 (by kernel_rfl) (yab (zif rfl h (fun hc30 h=>?_) fun hc30 h=>?_))))))))
 ·refine yaa ?_
  refine yac [1] (rg 65 6) [(4,pB (p1.Obtained&&(v7 == 0)))] fo0 (by kernel_rfl) (yab (yai (yaf (yag ?_))))
  obtain rfl:=osi h
  exact zq rfl ⟨rfl,rfl⟩
 refine yaa ?_
 refine yac [] [72] [(71,pB (p0.Kind == 2))] fo0 (by kernel_rfl) (yab (zif rfl h (fun hc31 h=>?_) fun hc31 h=>?_))
 ·refine yaa ?_
  refine yad h fun x32 hx32 h=>yac [0,1] (rg 73 6) [(4,pB x32)] (ycs 5 (yqb hx32) fo0) (by kernel_rfl) (yab (yai (yaf (yag ?_))))
  obtain rfl:=osi h
  exact zq rfl ⟨rfl,rfl⟩
 refine yaa ?_
 refine yac [] [80] [(79,pB (p0.Kind == 3))] fo0 (by kernel_rfl) (yab (zif rfl h (fun hc33 h=>?_) fun hc33 h=>?_))
 ·refine yaa ?_
  refine yad h fun x34 hx34 h=>yac [0,1] (rg 81 6) [(4,pB x34)] (ycs 5 (yqb hx34) fo0) (by kernel_rfl) (yab (yai (yaf (yag ?_))))
  obtain rfl:=osi h
  exact zq rfl ⟨rfl,rfl⟩
 refine yaa ?_
 refine yac [] [88] [(87,pB (p0.Kind == 4))] fo0 (by kernel_rfl) (yab (zif rfl h (fun hc35 h=>?_) fun hc35 h=>?_))
 ·refine yaa ?_
  refine yad h fun x36 hx36 h=>yac [1,0] (rg 89 5) [(4,pB x36)] (ycs 4 (yjb hx36) fo0) (by kernel_rfl) (yab (yai (yaf (yag ?_))))
  obtain rfl:=osi h
  exact zq rfl ⟨rfl,rfl⟩
 refine yaa ?_
 refine yac [] [95] [(94,pB (p0.Kind == 5))] fo0 (by kernel_rfl) (yab (zif rfl h (fun hc37 h=>?_) fun hc37 h=>?_))
 ·refine yaa ?_
  refine yac [0] (rg 96 5) [(4,pB (v21 == (p0.Args.length:Int)))] fo0 (by kernel_rfl) (yab (yai (yaf (yag ?_))))
  obtain rfl:=osi h
  exact zq rfl ⟨rfl,rfl⟩
 refine yah ?_
 refine yak (yab (yaa (yac [] [101,102] [(4,pB (decide (0<v21)))] fo0 (by kernel_rfl) (yab (yai ?_)))))
 obtain rfl:=osi h
 exact zq rfl ⟨rfl,rfl⟩
def ylq (n:Nat):Zb→Zn→Option Bool:=Nat.rec (motive:=fun _=>Zb→Zn→Option Bool) (fun _ _=>none) (fun _ ih=>yjo ih) n
def yry (p0:Zb) (p1:Zn):Option Bool:=ylq FUEL p0 p1
theorem ywt (n:Nat):∀ {p0:Zb} {p1:Zn} {r:Bool},ylq n p0 p1=some r→PF 97 [.agg [pI p0.Kind,pI p0.Digits,pL eS p0.Except,pI p0.Tolerance,pI p0.Limit,pS p0.Name,pL Zb.enc p0.Args],.agg [pS p1.Code,pI p1.Price,pB p1.Obtained,pL eS p1.Processes,pL Zj.enc p1.Inputs]] (pB r):=by
 induction n with
 | zero=>intros;rename_i h;exact nomatch h
 | succ n ih=>intros;rename_i h;exact yuy (fun hr=>ih hr) h
theorem yze {p0:Zb} {p1:Zn} {r:Bool} (h:yry p0 p1=some r):PF 97 [.agg [pI p0.Kind,pI p0.Digits,pL eS p0.Except,pI p0.Tolerance,pI p0.Limit,pS p0.Name,pL Zb.enc p0.Args],.agg [pS p1.Code,pI p1.Price,pB p1.Obtained,pL eS p1.Processes,pL Zj.enc p1.Inputs]] (pB r):=ywt FUEL h
def yhw (rec:Zb→Zn→Option ((List Int)×Bool)) (p0:Zb) (p1:Zn):Option ((List Int)×Bool):=Option.bind (yry p0 p1) (fun x3=>cond (!x3) (some ([],false)) (Option.bind (loopF (S:=(List Int)×Int) (T:=((List Int))⊕(_)) (fun (l6,v9)=>cond (decide (v9<(p0.Args.length:Int))) (Option.bind (α:=((List Int))⊕_) (Option.bind (idx p0.Args v9) (fun m23=>Option.bind (rec m23 p1) (fun x24=>cond (!x24.2) (some (.inl l6)) (cond (p0.Kind == 6) (Option.bind (app 8 [v9] x24.1) (fun l29=>some (.inr (.inr (.inr (l29,true)))))) (Option.bind (app 8 l6 x24.1) (fun l33=>some (.inl l33))))))) (fun q=>match q with | .inl l21=>some (.inl (l21,(IntKind.i64.wrap (v9+1)))) | .inr e=>some e)) (some (.inr (.inl l6)))) FUEL (([]:List Int),0)) (fun q=>match q with | .inl l13=>some (l13,true) | .inr e=>some e)))
theorem ysx {rec:Zb→Zn→Option ((List Int)×Bool)} (hrec:∀ {p0:Zb} {p1:Zn} {r:((List Int)×Bool)},rec p0 p1=some r→PF 54 [.agg [pI p0.Kind,pI p0.Digits,pL eS p0.Except,pI p0.Tolerance,pI p0.Limit,pS p0.Name,pL Zb.enc p0.Args],.agg [pS p1.Code,pI p1.Price,pB p1.Obtained,pL eS p1.Processes,pL Zj.enc p1.Inputs]] (.tup [pL eI r.1,pB r.2])) {p0:Zb} {p1:Zn} {r:((List Int)×Bool)} (h:yhw rec p0 p1=some r):PF 54 [.agg [pI p0.Kind,pI p0.Digits,pL eS p0.Except,pI p0.Tolerance,pI p0.Limit,pS p0.Name,pL Zb.enc p0.Args],.agg [pS p1.Code,pI p1.Price,pB p1.Obtained,pL eS p1.Processes,pL Zj.enc p1.Inputs]] (.tup [pL eI r.1,pB r.2]):=by
 unfold yhw at h
 refine ybp ?_
 refine ybb Tryz.func54 fk54 rfl Tryz.ntmps54 Tryz.results54 rfl (yaa (yae (yav rfl rfl rfl (ybt (cs:=[pI p0.Kind,pI p0.Digits,pL eS p0.Except,pI p0.Tolerance,pI p0.Limit,pS p0.Name,pL Zb.enc p0.Args]) rfl rfl (fun b1=>yav rfl rfl rfl (ybt (cs:=[pS p1.Code,pI p1.Price,pB p1.Obtained,pL eS p1.Processes,pL Zj.enc p1.Inputs]) rfl rfl (fun b2=>yap [] [4,5] [] fo0 (by kernel_rfl) (yab (yaa (yaa (yad h fun x3 hx3 h=>yac [1,0] [10,11,12] [(13,pB (!x3))] (ycs 2 (yze hx3) fo0) (by kernel_rfl) (yab (zif rfl h (fun hc4 h=>?_) fun hc4 h=>?_)))))))))))))
 ·refine yaa ?_
  refine yac [] [] [(4,pN),(5,pB false)] fo0 (by kernel_rfl) (yab (yhq 4 rfl (yai (yag ?_))))
  obtain rfl:=osi h
  exact ybe (yee (ybi rfl) (ybi rfl)) zsn ⟨rfl,rfl⟩
 refine yah ?_
 refine yab (yaa (yac [] [] [(6,pN)] fo0 (by kernel_rfl) (yab (yaa (yaa (yac [] [] [(7,pI 0)] fo0 (by kernel_rfl) (yab (ycn 3 1 (yad h fun q15 hq15 h=>?_)))))))))
 refine yar (Y:=(Option Addr×Nat)×((List Int))) (fun ((a11,c12),l13)=>[(6,pO a11 l13.length c12)]) (fun ((a11,c12),l13)=>[PRes.row a11 l13.length c12 3 1 (List.map eI l13)]) (fun ((a11,c12),l13)=>q15=Sum.inl l13) ?_ ?_
 ·refine yaj ?_
  refine yat (Y:=Option Addr×Nat) (S:=(List Int)×Int) _ hq15 (fun (a7,c8) (l6,v9)=>[(2,pP b1 0),(3,pP b2 0),(6,pO a7 l6.length c8),(7,pI v9)]) (fun (a7,c8) (l6,v9)=>[PRes.b b1 68 [pI p0.Kind,pI p0.Digits,pL eS p0.Except,pI p0.Tolerance,pI p0.Limit,pS p0.Name,pL Zb.enc p0.Args],PRes.b b2 73 [pS p1.Code,pI p1.Price,pB p1.Obtained,pL eS p1.Processes,pL Zj.enc p1.Inputs],PRes.row a7 l6.length c8 3 1 (List.map eI l6)]) (none,0) (zh4 rfl rfl rfl rfl) (zsc (zpt (zpt zph)) (zsc (zpt zph) (zs1))) ?_
  rintro ⟨a7,c8⟩ ⟨l6,v9⟩ o τ hb14;(try dsimp only at hb14);dsimp only [pupds]
  refine yaa (yaa (yac [0] [14,15,16,17] [(18,pB (decide (v9<(p0.Args.length:Int))))] fo0 (by kernel_rfl) (yab (zif rfl hb14 (fun hc17 hb14=>?_) fun hc17 hb14=>?_))))
  ·refine yah ?_
   refine yab (yaa (yad hb14 fun q22 hq22 hb14=>?_))
   refine yar (Y:=(Option Addr×Nat)×((List Int))) (fun ((a19,c20),l21)=>[(2,pP b1 0),(3,pP b2 0),(6,pO a19 l21.length c20),(7,pI v9)]) (fun ((a19,c20),l21)=>[PRes.b b1 68 [pI p0.Kind,pI p0.Digits,pL eS p0.Except,pI p0.Tolerance,pI p0.Limit,pS p0.Name,pL Zb.enc p0.Args],PRes.b b2 73 [pS p1.Code,pI p1.Price,pB p1.Obtained,pL eS p1.Processes,pL Zj.enc p1.Inputs],PRes.row a19 l21.length c20 3 1 (List.map eI l21)]) (fun ((a19,c20),l21)=>q22=Sum.inl l21) ?_ ?_
   ·skip
    refine yaj (yaa (ybr (ρd:=[]) [(0,0),(1,0),(2,0),(3,0),(4,0),(5,0),(6,1),(7,0),(8,0),(9,0),(10,0),(11,0)] _ (List.Perm.refl _) (by kernel_rfl) rfl (yad hq22 fun m23 hm23 hq22=>yad hq22 fun x24 hx24 hq22=>ybl 12 [0,1] ((rg 22 7)++[21,29,30]) [(8,pL eI x24.1),(9,pB x24.2)] (yut 3 Zb.enc (Zb.enc_eq _) hm23 (ycs 6 (hrec hx24) fo0)) (by kernel_rfl) (ycd (yab (yaa (yaa (yac [] [31] [(32,pB (!x24.2))] fo0 (by kernel_rfl) (yab (zif rfl hq22 (fun hc25 hq22=>?_) fun hc25 hq22=>?_))))))))))
    ·refine yax ?_
     refine yao (yan rfl ?_)
     obtain rfl:=osi hq22
     exact yaw ((a7,c8),l6) (zh4 rfl rfl rfl rfl) (zs3) rfl
    refine yah ?_
    refine yab (yaa (yaa (yac [0] [33,34] [(35,pB (p0.Kind == 6))] fo0 (by kernel_rfl) (yab (zif rfl hq22 (fun hc26 hq22=>?_) fun hc26 hq22=>?_)))))
    ·refine yaa ?_
     refine yae (yal 1 [] [] [(36,pI v9)] fo0 (by kernel_rfl) (yav rfl rfl rfl (ycg rfl rfl rfl rfl rfl (zic rfl zin) rfl rfl rfl rfl (fun b27=>yad hq22 fun l29 hl29 hq22=>yal 1 [] [] [(38,pL eI x24.1)] fo0 (by kernel_rfl) ?_))))
     refine yav rfl rfl rfl (yji (enc:=eI) rfl rfl rfl rfl rfl (fun _=>rfl) rfl rfl rfl (by exact zph) hl29 (fun a30 c31=>?_))
     refine yap [] [] [(4,pO a30 l29.length c31),(5,pB true)] fo0 (by kernel_rfl) (yab ?_)
     refine yen (enc:=eI) (xs:=l29) 4 rfl (by exact zph) ?_
     refine yai (yag (yaf (yau ?_)))
     obtain rfl:=osi hq22
     refine yas hb14 (fun ht=>?_);subst ht
     refine yaf (yau ?_)
     obtain rfl:=osi h
     exact ybe (yee (ybi rfl) (ybi rfl)) zsn ⟨rfl,rfl⟩
    refine yah ?_
    refine yab (yad hq22 fun l33 hl33 hq22=>yae (yal 2 [] [] [(40,pO a7 l6.length c8),(41,pL eI x24.1)] fo0 (by kernel_rfl) ?_))
    refine yav rfl rfl rfl (yji (enc:=eI) rfl rfl rfl rfl rfl (fun _=>rfl) rfl rfl rfl (by exact zpt (zpt zph)) hl33 (fun a34 c35=>?_))
    refine yap [] [] [(6,pO a34 l33.length c35)] fo0 (by kernel_rfl) (yak ?_)
    obtain rfl:=osi hq22
    exact yaw ((a34,c35),l33) (zh4 rfl rfl rfl rfl) (zsc (zpt zph) (zsc (zpt zph) (zs1))) rfl
   rintro ⟨⟨a19,c20⟩,l21⟩ τ hz;(try dsimp only at hz);subst q22;(try dsimp only at hb14);dsimp only [pupds]
   refine yac [] [19,20] [(7,pI (IntKind.i64.wrap (v9+1)))] fo0 (by kernel_rfl) ?_
   exact ybd hb14 (a19,c20) (zh4 rfl rfl rfl rfl) (zs3)
  refine yax ?_
  refine yao (yam hb14 (fun ht=>yan rfl ?_))
  exact yaw ((a7,c8),l6) (zh1 rfl) (zsc (zpt (zpt zph)) zsn) ht.symm
 rintro ⟨⟨a11,c12⟩,l13⟩ τ hz;(try dsimp only at hz);subst q15;(try dsimp only at h);dsimp only [pupds]
 refine yaa (yac [] [43] [(4,pO a11 l13.length c12),(5,pB true)] fo0 (by kernel_rfl) (yab ?_))
 refine yen (enc:=eI) (xs:=l13) 4 rfl (by exact zph) ?_
 refine yai ?_
 obtain rfl:=osi h
 exact ybe (yee (ybi rfl) (ybi rfl)) zsn ⟨rfl,rfl⟩
def yhx (n:Nat):Zb→Zn→Option ((List Int)×Bool):=Nat.rec (motive:=fun _=>Zb→Zn→Option ((List Int)×Bool)) (fun _ _=>none) (fun _ ih=>yhw ih) n
def yjp (p0:Zb) (p1:Zn):Option ((List Int)×Bool):=yhx FUEL p0 p1
theorem yty (n:Nat):∀ {p0:Zb} {p1:Zn} {r:((List Int)×Bool)},yhx n p0 p1=some r→PF 54 [.agg [pI p0.Kind,pI p0.Digits,pL eS p0.Except,pI p0.Tolerance,pI p0.Limit,pS p0.Name,pL Zb.enc p0.Args],.agg [pS p1.Code,pI p1.Price,pB p1.Obtained,pL eS p1.Processes,pL Zj.enc p1.Inputs]] (.tup [pL eI r.1,pB r.2]):=by
 induction n with
 | zero=>intros;rename_i h;exact nomatch h
 | succ n ih=>intros;rename_i h;exact ysx (fun hr=>ih hr) h
theorem yuz {p0:Zb} {p1:Zn} {r:((List Int)×Bool)} (h:yjp p0 p1=some r):PF 54 [.agg [pI p0.Kind,pI p0.Digits,pL eS p0.Except,pI p0.Tolerance,pI p0.Limit,pS p0.Name,pL Zb.enc p0.Args],.agg [pS p1.Code,pI p1.Price,pB p1.Obtained,pL eS p1.Processes,pL Zj.enc p1.Inputs]] (.tup [pL eI r.1,pB r.2]):=yty FUEL h
def ykg (p0:(List Zd)) (p1:(List Zc)) (p2:ByteArray):Option ((List Zg)×Int):=Option.bind (ylz p0) (fun x1=>cond (x1 != 0) (some ([],x1)) (Option.bind (yfm p1) (fun x3=>cond (x3 != 0) (some ([],x3)) (Option.bind (yey p2) (fun x5=>cond (!x5) (some ([],(1:Int))) (Option.bind (loopF (S:=(List Zg)×(List Za)×Bool) (T:=((List Zg))) (fun (l8,l11,v12)=>cond v12 (Option.bind (loopF (S:=(List Zg)×Bool×(List Za)×Int) (T:=((List Zg)×Bool×(List Za))) (fun (l22,v25,l26,v27)=>cond (decide (v27<(p0.length:Int))) (Option.bind (loopF (S:=(List Zg)×Bool×(List Za)×Int) (T:=((List Zg)×Bool×(List Za))) (fun (l38,v41,l42,v43)=>cond (decide (v43<(p1.length:Int))) (Option.bind (Option.bind (idx p0 v27) (fun m60=>Option.bind (idx p1 v43) (fun m61=>Option.bind (yef l11 (⟨m60.ID,m61.ID⟩:Za)) (fun x63=>Option.bind (gd (!x63) (ydq p0 p1 p2 (⟨m60.ID,m61.ID⟩:Za))) (fun x64=>cond (x63||(!x64)) (some (l38,v41,l42)) (Option.bind (yhv p0 p1 p2 (⟨m60.ID,m61.ID⟩:Za) l11) (fun x66=>Option.bind (idx p1 v43) (fun m68=>Option.bind (idx p0 v27) (fun m69=>Option.bind (ygw m68 m69.Code) (fun x70=>Option.bind (yjp x70.1 x66.1) (fun x72=>cond x72.2 (Option.bind (app 64 l38 [(⟨(⟨m60.ID,m61.ID⟩:Za),x72.1,x66.2⟩:Zg)]) (fun l76=>Option.bind (ygi l42 (⟨m60.ID,m61.ID⟩:Za)) (fun x80=>some (l76,true,x80)))) (some (l38,v41,l42))))))))))))) (fun (l56,v57,l58)=>some (.inl (l56,v57,l58,(IntKind.i64.wrap (v43+1)))))) (some (.inr (l38,v41,l42)))) FUEL (l22,v25,l26,0)) (fun (l47,v48,l49)=>some (.inl (l47,v48,l49,(IntKind.i64.wrap (v27+1)))))) (some (.inr (l22,v25,l26)))) FUEL (l8,false,l11,0)) (fun (l31,v32,l33)=>some (.inl (l31,l33,v32)))) (some (.inr l8))) FUEL (([]:List Zg),[],true)) (fun l16=>some (l16,(0:Int)))))))))
theorem yzf {p0:(List Zd)} {p1:(List Zc)} {p2:ByteArray} {r:((List Zg)×Int)}  (h:ykg p0 p1 p2=some r):PF 18 [pL Zd.enc p0,pL Zc.enc p1,pS p2] (.tup [pL Zg.enc r.1,pI r.2]):=by
 unfold ykg at h
 refine ybp ?_
 refine ybb Tryz.func18 fk18 rfl Tryz.ntmps18 Tryz.results18 rfl (yaa (yac [] [6,7] [] fo0 (by kernel_rfl) (yab (yaa (yaa (yad h fun x1 hx1 h=>yac [] [23,24] [(8,pI x1)] (ycs 1 (xbz hx1) fo0) (by kernel_rfl) (yab (yaa (yac [] [25] [(26,pB (x1 != 0))] fo0 (by kernel_rfl) (yab (zif rfl h (fun hc2 h=>?_) fun hc2 h=>?_)))))))))))
 ·refine yaa ?_
  refine yac [] [27] [(6,pN),(7,pI x1)] fo0 (by kernel_rfl) (yab (yhq 6 rfl (yai (yag ?_))))
  obtain rfl:=osi h
  exact ybe (yee (ybi rfl) (ybi rfl)) zsn ⟨rfl,rfl⟩
 refine yah ?_
 refine yab (yaa (yaa (yad h fun x3 hx3 h=>yac [] [28,29] [(9,pI x3)] (ycs 1 (yrw hx3) fo0) (by kernel_rfl) (yab (yaa (yac [] [30] [(31,pB (x3 != 0))] fo0 (by kernel_rfl) (yab (zif rfl h (fun hc4 h=>?_) fun hc4 h=>?_))))))))
 ·refine yaa ?_
  refine yac [] [32] [(6,pN),(7,pI x3)] fo0 (by kernel_rfl) (yab (yhq 6 rfl (yai (yag ?_))))
  obtain rfl:=osi h
  exact ybe (yee (ybi rfl) (ybi rfl)) zsn ⟨rfl,rfl⟩
 refine yah ?_
 refine yab (yaa (yaa (yad h fun x5 hx5 h=>yac [] [33,34] [(35,pB (!x5))] (ycs 1 (yle hx5) fo0) (by kernel_rfl) (yab (zif rfl h (fun hc6 h=>?_) fun hc6 h=>?_)))))
 ·refine yaa ?_
  refine yac [] [] [(6,pN),(7,pI 1)] fo0 (by kernel_rfl) (yab (yhq 6 rfl (yai (yag ?_))))
  obtain rfl:=osi h
  exact ybe (yee (ybi rfl) (ybi rfl)) zsn ⟨rfl,rfl⟩
 refine yah ?_
 refine yab (yaa (yac [] [] [(10,pN)] fo0 (by kernel_rfl) (yab (yaa (yac [] [] [(11,pN)] fo0 (by kernel_rfl) (yab (yaa (yaa (yac [] [] [(12,pB true)] fo0 (by kernel_rfl) (yab (ycn 59 4 (yhq 11 rfl (yad h fun q18 hq18 h=>?_)))))))))))))
 refine yar (Y:=(Option Addr×Nat)×((List Zg))) (fun ((a14,c15),l16)=>[(10,pO a14 l16.length c15)]) (fun ((a14,c15),l16)=>[PRes.row a14 l16.length c15 59 4 (List.map Zg.enc l16)]) (fun ((a14,c15),l16)=>q18=l16) ?_ ?_
 ·refine yaj ?_
  refine yat (Y:=Option Addr×Nat) (S:=(List Zg)×(List Za)×Bool) _ hq18 (fun (a9,c10) (l8,l11,v12)=>[(0,pL Zd.enc p0),(1,pL Zc.enc p1),(2,pS p2),(10,pO a9 l8.length c10),(11,pL Za.enc l11),(12,pB v12)]) (fun (a9,c10) (l8,l11,v12)=>[PRes.row a9 l8.length c10 59 4 (List.map Zg.enc l8)]) (none,0) (zh6 rfl rfl rfl rfl rfl rfl) (zs1) ?_
  rintro ⟨a9,c10⟩ ⟨l8,l11,v12⟩ o τ hb17;(try dsimp only at hb17);dsimp only [pupds]
  refine yaa (yaa (yac [] [] [(36,pB v12)] fo0 (by kernel_rfl) (yab (zif rfl hb17 (fun hc20 hb17=>?_) fun hc20 hb17=>?_))))
  ·refine yah ?_
   refine yab (yaj (yaa (yac [] [] [(12,pB false)] fo0 (by kernel_rfl) (yab (yaa (yac [] [37] [(13,pL Za.enc l11)] fo0 (by kernel_rfl) (yab (yaa (yaa (yac [] [] [(14,pI 0)] fo0 (by kernel_rfl) (yab (yad hb17 fun q35 hq35 hb17=>?_))))))))))))
   refine yar (Y:=(Option Addr×Nat)×((List Zg)×Bool×(List Za))) (fun ((a29,c30),(l31,v32,l33))=>[(0,pL Zd.enc p0),(1,pL Zc.enc p1),(2,pS p2),(10,pO a29 l31.length c30),(12,pB v32),(13,pL Za.enc l33)]) (fun ((a29,c30),(l31,v32,l33))=>[PRes.row a29 l31.length c30 59 4 (List.map Zg.enc l31)]) (fun ((a29,c30),(l31,v32,l33))=>q35=(l31,v32,l33)) ?_ ?_
   ·refine yaj ?_
    refine yat (Y:=Option Addr×Nat) (S:=(List Zg)×Bool×(List Za)×Int) _ hq35 (fun (a23,c24) (l22,v25,l26,v27)=>[(0,pL Zd.enc p0),(1,pL Zc.enc p1),(2,pS p2),(10,pO a23 l22.length c24),(11,pL Za.enc l11),(12,pB v25),(13,pL Za.enc l26),(14,pI v27)]) (fun (a23,c24) (l22,v25,l26,v27)=>[PRes.row a23 l22.length c24 59 4 (List.map Zg.enc l22)]) (a9,c10) (zh8 rfl rfl rfl rfl rfl rfl rfl rfl) (zs1) ?_
    rintro ⟨a23,c24⟩ ⟨l22,v25,l26,v27⟩ o τ hb34;(try dsimp only at hb34);dsimp only [pupds]
    refine yaa (yaa (yac [] [38,39,40] [(41,pB (decide (v27<(p0.length:Int))))] fo0 (by kernel_rfl) (yab (zif rfl hb34 (fun hc36 hb34=>?_) fun hc36 hb34=>?_))))
    ·refine yah ?_
     refine yab (yaa (yaj (yaa (yac [] [] [(15,pI 0)] fo0 (by kernel_rfl) (yab (yad hb34 fun q51 hq51 hb34=>?_))))))
     refine yjh (Y:=(Option Addr×Nat)×((List Zg)×Bool×(List Za))) (fun ((a45,c46),(l47,v48,l49))=>[(0,pL Zd.enc p0),(1,pL Zc.enc p1),(2,pS p2),(10,pO a45 l47.length c46),(11,pL Za.enc l11),(12,pB v48),(13,pL Za.enc l49),(14,pI v27)]) (fun ((a45,c46),(l47,v48,l49))=>[PRes.row a45 l47.length c46 59 4 (List.map Zg.enc l47)]) (fun ((a45,c46),(l47,v48,l49))=>q51=(l47,v48,l49)) ?_ ?_
     ·refine yaj ?_
      refine yat (Y:=Option Addr×Nat) (S:=(List Zg)×Bool×(List Za)×Int) _ hq51 (fun (a39,c40) (l38,v41,l42,v43)=>[(0,pL Zd.enc p0),(1,pL Zc.enc p1),(2,pS p2),(10,pO a39 l38.length c40),(11,pL Za.enc l11),(12,pB v41),(13,pL Za.enc l42),(14,pI v27),(15,pI v43)]) (fun (a39,c40) (l38,v41,l42,v43)=>[PRes.row a39 l38.length c40 59 4 (List.map Zg.enc l38)]) (a23,c24) (zh9 rfl rfl rfl rfl rfl rfl rfl rfl rfl) (zs1) ?_
      rintro ⟨a39,c40⟩ ⟨l38,v41,l42,v43⟩ o τ hb50;(try dsimp only at hb50);dsimp only [pupds]
      refine yaa (yaa (yac [] [44,45,46] [(47,pB (decide (v43<(p1.length:Int))))] fo0 (by kernel_rfl) (yab (zif rfl hb50 (fun hc52 hb50=>?_) fun hc52 hb50=>?_))))
      ·refine yah ?_
       refine yab (yaa (yad hb50 fun q59 hq59 hb50=>?_))
       refine yar (Y:=(Option Addr×Nat)×((List Zg)×Bool×(List Za))) (fun ((a54,c55),(l56,v57,l58))=>[(0,pL Zd.enc p0),(1,pL Zc.enc p1),(2,pS p2),(10,pO a54 l56.length c55),(11,pL Za.enc l11),(12,pB v57),(13,pL Za.enc l58),(14,pI v27),(15,pI v43)]) (fun ((a54,c55),(l56,v57,l58))=>[PRes.row a54 l56.length c55 59 4 (List.map Zg.enc l56)]) (fun ((a54,c55),(l56,v57,l58))=>q59=(l56,v57,l58)) ?_ ?_
       ·skip
        refine yaj (yaa (ybr (ρd:=[]) [(0,0),(1,0),(2,0),(3,0),(4,0),(5,0),(6,0),(7,0),(8,0),(9,0),(10,0),(11,1),(12,1)] _ (List.Perm.refl _) (by kernel_rfl) rfl (yad hq59 fun m60 hm60 hq59=>yad hq59 fun m61 hm61 hq59=>ybl 10 [] [50,51,52,53,55,56,57,58] [(54,pI m60.ID),(59,pI m61.ID)] (ygt 2 Zd.enc hm60 (ygt 7 Zc.enc hm61 fo0)) (by kernel_rfl) (ypt rfl rfl rfl (ywh (cs:=[pI m60.ID,pI m61.ID]) rfl rfl rfl rfl rfl rfl rfl (zfc rfl rfl rfl rfl (zl1) (zfc rfl rfl rfl rfl (zlt (zl1)) zfn))) (ynq rfl rfl rfl (yba (cs:=[pI 0,pI 0]) rfl rfl rfl rfl (fun b62=>xii rfl rfl (yaq (vs:=[pI m60.ID,pI m61.ID]) rfl rfl rfl rfl rfl zuh (zl2) (ycd (yab (yaa (yaa (yad hq59 fun x63 hx63 hq59=>yad hq59 fun x64 hx64 hq59=>yac [0,0] (rg 61 10) [(71,pB (x63||(!x64)))] (ycs 2 (yke hx63) (ygu 8 (fun hc=>ymp (yfz hx64 hc)) fo0)) (by kernel_rfl) (yab (zif rfl hq59 (fun hc65 hq59=>?_) fun hc65 hq59=>?_)))))))))))))))
        ·refine yax ?_
         refine yao (yan rfl ?_)
         obtain rfl:=osi hq59
         exact yaw ((a39,c40),(l38,v41,l42)) (zh9 rfl rfl rfl rfl rfl rfl rfl rfl rfl) (zsc (zpt zph) zsn) rfl
        refine yah ?_
        refine yab (yaa (yad hq59 fun x66 hx66 hq59=>yae (yal 9 [0] ((rg 73 6)++[72]) [(79,.agg [pS x66.1.Code,pI x66.1.Price,pB x66.1.Obtained,pL eS x66.1.Processes,pL Zj.enc x66.1.Inputs]),(80,pL Za.enc x66.2)] (ycs 5 (yws hx66) fo0) (by kernel_rfl) (yav rfl rfl rfl (yba (cs:=[pS ByteArray.empty,pI 0,pB false,pN,pN]) rfl rfl rfl rfl (fun b67=>ybh rfl rfl (yaq (vs:=[pS x66.1.Code,pI x66.1.Price,pB x66.1.Obtained,pL eS x66.1.Processes,pL Zj.enc x66.1.Inputs]) rfl rfl rfl rfl rfl zuh (zl5) (yap [] [] [(18,pL Za.enc x66.2)] fo0 (by kernel_rfl) (yab (yaa (ybr (ρd:=[]) [(0,0),(1,0),(2,0),(3,0),(4,0),(5,0),(6,0),(7,0),(8,0),(9,1),(10,0),(11,0),(12,0),(13,2),(14,1),(15,0)] _ (List.Perm.refl _) (by kernel_rfl) rfl (yad hq59 fun m68 hm68 hq59=>yad hq59 fun m69 hm69 hq59=>yad hq59 fun x70 hx70 hq59=>ybl 13 [] ((rg 82 10)++[81]) [(92,.agg [pI x70.1.Kind,pI x70.1.Digits,pL eS x70.1.Except,pI x70.1.Tolerance,pI x70.1.Limit,pS x70.1.Name,pL Zb.enc x70.1.Args]),(93,pB x70.2)] (ygt 2 Zc.enc hm68 (ygt 6 Zd.enc hm69 (ycs 9 (ypy hx70) fo0))) (by kernel_rfl) (yvg (ywf rfl rfl rfl rfl rfl) (fun _=>rfl) rfl (fun b71=>xii rfl rfl (yaq (vs:=[pI x70.1.Kind,pI x70.1.Digits,pL eS x70.1.Except,pI x70.1.Tolerance,pI x70.1.Limit,pS x70.1.Name,pL Zb.enc x70.1.Args]) rfl rfl rfl rfl rfl zuh (zl7) (ybl 1 [] [20] [] fo0 (by kernel_rfl) (ycd (yab (yaa (yad hq59 fun x72 hx72 hq59=>yac [0,1] [95,96,97,94,98,99] [(21,pL eI x72.1),(22,pB x72.2)] (ycs 2 (yuz hx72) fo0) (by kernel_rfl) (yab (yaa (yac [] [] [(100,pB x72.2)] fo0 (by kernel_rfl) (yab (zif rfl hq59 (fun hc73 hq59=>?_) fun hc73 hq59=>?_)))))))))))))))))))))))))
        ·refine yaa ?_
         refine yae (yal 5 [2] [102,103,104] [(101,pO a39 l38.length c40),(105,.agg [pI m60.ID,pI m61.ID,pL eI x72.1,pL Za.enc x66.2])] fo0 (by kernel_rfl) (yav rfl rfl rfl (ycg rfl rfl rfl rfl rfl (zic rfl zin) rfl rfl rfl rfl (fun b74=>yad hq59 fun l76 hl76 hq59=>?_))))
         refine yav rfl rfl rfl (ycm (enc:=Zg.enc) rfl rfl rfl rfl rfl rfl rfl rfl rfl zm0 (by exact zpt (zpt (zpt (zpt zph)))) hl76 (fun a77 c78=>?_))
         refine yap [] [] [(10,pO a77 l76.length c78)] fo0 (by kernel_rfl) (yab (yad hq59 fun x80 hx80 hq59=>yac [4] [108,109,110] [(13,pL Za.enc x80),(12,pB true)] (ycs 2 (yoq hx80) fo0) (by kernel_rfl) (yak ?_)))
         obtain rfl:=osi hq59
         exact yaw ((a77,c78),(l76,true,x80)) (zh9 rfl rfl rfl rfl rfl rfl rfl rfl rfl) (zs1) rfl
        refine yah ?_
        refine yak ?_
        obtain rfl:=osi hq59
        exact yaw ((a39,c40),(l38,v41,l42)) (zh9 rfl rfl rfl rfl rfl rfl rfl rfl rfl) (zsc (zpt (zpt (zpt zph))) zsn) rfl
       rintro ⟨⟨a54,c55⟩,⟨l56,v57,l58⟩⟩ τ hz;(try dsimp only at hz);subst q59;(try dsimp only at hb50);dsimp only [pupds]
       refine yac [] [48,49] [(15,pI (IntKind.i64.wrap (v43+1)))] fo0 (by kernel_rfl) ?_
       exact ybd hb50 (a54,c55) (zh9 rfl rfl rfl rfl rfl rfl rfl rfl rfl) (zs1)
      refine yax ?_
      refine yao (yam hb50 (fun ht=>yan rfl ?_))
      exact yja ((a39,c40),(l38,v41,l42)) (zh8 rfl rfl rfl rfl rfl rfl rfl rfl) (zs1) ht.symm
     rintro ⟨⟨a45,c46⟩,⟨l47,v48,l49⟩⟩ τ ρ1 hsub81 hz;(try dsimp only at hz hsub81);subst q51;(try dsimp only at hb34);dsimp only [pupds]
     refine yak (yab (yps hsub81 (yac [] [42,43] [(14,pI (IntKind.i64.wrap (v27+1)))] fo0 (by kernel_rfl) ?_)))
     exact ybd hb34 (a45,c46) (zh8 rfl rfl rfl rfl rfl rfl rfl rfl) (zs1)
    refine yax ?_
    refine yao (yam hb34 (fun ht=>yan rfl ?_))
    exact yaw ((a23,c24),(l22,v25,l26)) (zh6 rfl rfl rfl rfl rfl rfl) (zs1) ht.symm
   rintro ⟨⟨a29,c30⟩,⟨l31,v32,l33⟩⟩ τ hz;(try dsimp only at hz);subst q35;(try dsimp only at hb17);dsimp only [pupds]
   refine yac [] [111] [(11,pL Za.enc l33)] fo0 (by kernel_rfl) (yak ?_)
   exact ybd hb17 (a29,c30) (zh6 rfl rfl rfl rfl rfl rfl) (zs1)
  refine yax ?_
  refine yao (yam hb17 (fun ht=>yan rfl ?_))
  exact yaw ((a9,c10),l8) (zh1 rfl) (zs1) ht.symm
 rintro ⟨⟨a14,c15⟩,l16⟩ τ hz;(try dsimp only at hz);subst q18;(try dsimp only at h);dsimp only [pupds]
 refine yaa (yac [] [112] [(6,pO a14 l16.length c15),(7,pI 0)] fo0 (by kernel_rfl) (yab ?_))
 refine yen (enc:=Zg.enc) (xs:=l16) 6 rfl (by exact zph) ?_
 refine yai ?_
 obtain rfl:=osi h
 exact ybe (yee (ybi rfl) (ybi rfl)) zsn ⟨rfl,rfl⟩
def yet (p0:Int):Option Bool:=some ((decide (65≤p0))&&(decide (p0≤90)))
theorem yjq {p0:Int} {r:Bool}  (h:yet p0=some r):PF 103 [pY p0] (pB r):=by
 unfold yet at h
 refine ybp ?_
 refine ybb Tryz.func103 fk103 rfl Tryz.ntmps103 Tryz.results103 rfl (yaa (yac [] [2] [] fo0 (by kernel_rfl) (yab (yaa (yac [] (rg 3 6) [(2,pB ((decide (65≤p0))&&(decide (p0≤90))))] fo0 (by kernel_rfl) (yab (yai ?_)))))))
 obtain rfl:=osi h
 exact zq rfl ⟨rfl,rfl⟩
end SX
end Go.Proofs.YtoccohlbjnoeoaaGreatDoor
