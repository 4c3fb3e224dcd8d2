/- A part of the proof: texts of the walk and of the plain laws, merged. No condition. -/
import Derived.Test.YtoccohlbjnoeoaaGreatDoorM2
set_option linter.unusedVariables false
set_option linter.unusedSimpArgs false
set_option maxHeartbeats 4000000
set_option maxRecDepth 100000
namespace Go.Proofs.YtoccohlbjnoeoaaGreatDoor
namespace SX
open Go
attribute [local irreducible] PWL PWC PWD POpL POpQ PEv PGuardIs PSub PPick PUpd PSplice PFill PLit PF PFV PCall FOk pseqK pblockK pmidK pcutK ploopK pretK Cov PHolds loopF idx app mk gd lb nz ge0 cat sub ssub iand ior ixor ishl ishr imin imax IntKind.wrap Int.tmod Int.tdiv Op.bytesLess strOfNums
def yjv (p0:(List ByteArray)) (p1:ByteArray):Option Bool:=Option.bind (loopF (S:=Int) (T:=(Unit)⊕(_)) (fun v1=>cond (decide (v1<(p0.length:Int))) (Option.bind (idx p0 v1) (fun m5=>cond (decide (m5=p1)) (some (.inr (.inr true))) (some (.inl (IntKind.i64.wrap (v1+1)))))) (some (.inr (.inl ())))) FUEL 0) (fun q=>match q with | .inl _=>some false | .inr e=>some e)
def yfh (p0:(List Zb)) (p1:(List Zc)) (p2:ByteArray) (p3:Za):Option Bool:=Option.bind (yhm p0 p3.Product) (fun x2=>Option.bind (yhf p1 p3.Agreement) (fun x4=>Option.bind (yii x4.1 x2.1.Code) (fun x6=>Option.bind (gd (((x2.2&&x4.2)&&x6.2)&&(!decide (x2.1.Country=p2))) (yjv x4.1.Parties x2.1.Country)) (fun x8=>Option.bind (gd ((((x2.2&&x4.2)&&x6.2)&&(!decide (x2.1.Country=p2)))&&x8) (yjv x4.1.Parties p2)) (fun x9=>some (((((x2.2&&x4.2)&&x6.2)&&(!decide (x2.1.Country=p2)))&&x8)&&x9))))))
def yqd (p0:Za) (p1:Za):Option Bool:=some ((decide (p0.Product<p1.Product))||((p0.Product == p1.Product)&&(decide (p0.Agreement<p1.Agreement))))
def yhn (p0:(List Za)) (p1:Za):Option (List Za):=Option.bind (yfs p0 p1) (fun x2=>cond x2 (some p0) (Option.bind (loopF (S:=Int) (T:=(Int)) (fun v4=>Option.bind (gd (decide (v4<(p0.length:Int))) (idx p0 v4)) (fun m8=>Option.bind (gd (decide (v4<(p0.length:Int))) (yqd m8 p1)) (fun x9=>cond ((decide (v4<(p0.length:Int)))&&x9) (some (.inl (IntKind.i64.wrap (v4+1)))) (some (.inr v4))))) FUEL 0) (fun v5=>Option.bind (sub p0 0 v5) (fun l11=>Option.bind (sub p0 v5 (p0.length:Int)) (fun l12=>Option.bind (app 16 ([]:List Za) l11) (fun l15=>Option.bind (app 16 l15 [p1]) (fun l21=>Option.bind (app 16 l21 l12) (fun l25=>some l25))))))))
def yjg (p0:(List ByteArray)) (p1:(List ByteArray)):Option Bool:=cond ((p0.length:Int) != (p1.length:Int)) (some false) (Option.bind (loopF (S:=Int) (T:=(Unit)⊕(_)) (fun v2=>cond (decide (v2<(p0.length:Int))) (Option.bind (idx p0 v2) (fun m6=>Option.bind (idx p1 v2) (fun m7=>cond (!decide (m6=m7)) (some (.inr (.inr false))) (some (.inl (IntKind.i64.wrap (v2+1))))))) (some (.inr (.inl ())))) FUEL 0) (fun q=>match q with | .inl _=>some true | .inr e=>some e))
def yki (rec:Zd→Zd→Option Bool) (p0:Zd) (p1:Zd):Option Bool:=Option.bind (gd (!(((((p0.Kind != p1.Kind)||(p0.Digits != p1.Digits))||(p0.Tolerance != p1.Tolerance))||(p0.Limit != p1.Limit))||(!decide (p0.Name=p1.Name)))) (yjg p0.Except p1.Except)) (fun x3=>cond (((((((p0.Kind != p1.Kind)||(p0.Digits != p1.Digits))||(p0.Tolerance != p1.Tolerance))||(p0.Limit != p1.Limit))||(!decide (p0.Name=p1.Name)))||(!x3))||((p0.Args.length:Int) != (p1.Args.length:Int))) (some false) (Option.bind (loopF (S:=Int) (T:=(Unit)⊕(_)) (fun v5=>cond (decide (v5<(p0.Args.length:Int))) (Option.bind (idx p0.Args v5) (fun m9=>Option.bind (idx p1.Args v5) (fun m10=>Option.bind (rec m9 m10) (fun x11=>cond (!x11) (some (.inr (.inr false))) (some (.inl (IntKind.i64.wrap (v5+1)))))))) (some (.inr (.inl ())))) FUEL 0) (fun q=>match q with | .inl _=>some true | .inr e=>some e)))
def ykj (n:Nat):Zd→Zd→Option Bool:=Nat.rec (motive:=fun _=>Zd→Zd→Option Bool) (fun _ _=>none) (fun _ ih=>yki ih) n
def yqv (p0:Zd) (p1:Zd):Option Bool:=ykj FUEL p0 p1
def ylo (p0:(List Zi)) (p1:(List Zi)):Option Bool:=cond ((p0.length:Int) != (p1.length:Int)) (some false) (Option.bind (loopF (S:=Int) (T:=(Unit)⊕(_)) (fun v2=>cond (decide (v2<(p0.length:Int))) (Option.bind (idx p0 v2) (fun m6=>Option.bind (idx p1 v2) (fun m7=>Option.bind (gd (!(!decide (m6.Prefix=m7.Prefix))) (idx p0 v2)) (fun m8=>Option.bind (gd (!(!decide (m6.Prefix=m7.Prefix))) (idx p1 v2)) (fun m9=>Option.bind (gd (!(!decide (m6.Prefix=m7.Prefix))) (yqv m8.Rule m9.Rule)) (fun x10=>cond ((!decide (m6.Prefix=m7.Prefix))||(!x10)) (some (.inr (.inr false))) (some (.inl (IntKind.i64.wrap (v2+1)))))))))) (some (.inr (.inl ())))) FUEL 0) (fun q=>match q with | .inl _=>some true | .inr e=>some e))
def ymp (p0:(List Zc)) (p1:Int) (p2:ByteArray) (p3:ByteArray):Option (List Int):=Option.bind (yhf p0 p1) (fun x1=>cond (!x1.2) (some []) (Option.bind (loopF (S:=(List Int)×Int) (T:=((List Int))) (fun (l7,v10)=>cond ((decide (v10<(p0.length:Int)))&&(x1.1.Kind == 2)) (Option.bind (Option.bind (idx p0 v10) (fun m23=>Option.bind (gd (m23.ID != p1) (yjv m23.Parties p2)) (fun x25=>Option.bind (gd ((m23.ID != p1)&&x25) (yjv m23.Parties p3)) (fun x26=>Option.bind (gd (((m23.ID != p1)&&x25)&&x26) (ylo x1.1.Rules m23.Rules)) (fun x27=>cond ((((m23.ID != p1)&&x25)&&x26)&&x27) (Option.bind (app 8 l7 [m23.ID]) (fun l31=>some l31)) (some l7)))))) (fun l21=>some (.inl (l21,(IntKind.i64.wrap (v10+1)))))) (some (.inr l7))) FUEL ([p1],0)) (fun l14=>some l14)))
def yqe (p0:(List ByteArray)) (p1:ByteArray):Option (List ByteArray):=Option.bind (loopF (S:=Int) (T:=(ByteArray×Int)) (fun v1=>Option.bind (gd (decide (v1<(p0.length:Int))) (idx p0 v1)) (fun m6=>cond ((decide (v1<(p0.length:Int)))&&(Op.bytesLess m6.toList p1.toList)) (some (.inl (IntKind.i64.wrap (v1+1)))) (some (.inr (p1,v1))))) FUEL 0) (fun (v2,v3)=>Option.bind (gd (decide (v3<(p0.length:Int))) (idx p0 v3)) (fun m8=>cond ((decide (v3<(p0.length:Int)))&&(decide (m8=v2))) (some p0) (Option.bind (sub p0 0 v3) (fun l10=>Option.bind (sub p0 v3 (p0.length:Int)) (fun l11=>Option.bind (app 16 ([]:List ByteArray) l10) (fun l14=>Option.bind (app 16 l14 [v2]) (fun l20=>Option.bind (app 16 l20 l11) (fun l24=>some l24))))))))
def ynz (p0:(List ByteArray)) (p1:(List ByteArray)):Option (List ByteArray):=Option.bind (loopF (S:=(List ByteArray)×Int) (T:=((List ByteArray)×(List ByteArray))) (fun (l1,v2)=>cond (decide (v2<(p0.length:Int))) (Option.bind (idx p0 v2) (fun m8=>Option.bind (yqe l1 m8) (fun x9=>some (.inl (x9,(IntKind.i64.wrap (v2+1))))))) (some (.inr (p1,l1)))) FUEL ([],0)) (fun (l3,l4)=>Option.bind (loopF (S:=(List ByteArray)×Int) (T:=((List ByteArray))) (fun (l10,v11)=>cond (decide (v11<(l3.length:Int))) (Option.bind (idx l3 v11) (fun m16=>Option.bind (yqe l10 m16) (fun x17=>some (.inl (x17,(IntKind.i64.wrap (v11+1))))))) (some (.inr l10))) FUEL (l4,0)) (fun l12=>some l12))
def yku (p0:(List Int)) (p1:Int) (p2:(List Za)):Option (Za×Bool):=Option.bind (loopF (S:=Int) (T:=(Unit)⊕(_)) (fun v2=>cond (decide (v2<(p0.length:Int))) (Option.bind (idx p0 v2) (fun m6=>Option.bind (yfs p2 (⟨p1,m6⟩:Za)) (fun x8=>cond x8 (some (.inr (.inr ((⟨p1,m6⟩:Za),true)))) (some (.inl (IntKind.i64.wrap (v2+1))))))) (some (.inr (.inl ())))) FUEL 0) (fun q=>match q with | .inl _=>some ((⟨0,0⟩:Za),false) | .inr e=>some e)
def yiq (p0:Zm) (p1:Zm):Option (Zm×Bool):=Option.bind (cond (decide ((IntKind.u64.wrap (p0.Lo+p1.Lo))<p0.Lo)) (lb ((IntKind.u64.wrap ((IntKind.u64.wrap (p0.Hi+p1.Hi))+1))) (fun w8=>some (w8,((decide ((IntKind.u64.wrap (p0.Hi+p1.Hi))<p0.Hi))||(w8 == 0))))) (some ((IntKind.u64.wrap (p0.Hi+p1.Hi)),(decide ((IntKind.u64.wrap (p0.Hi+p1.Hi))<p0.Hi))))) (fun (v4,v5)=>some ((⟨v4,(IntKind.u64.wrap (p0.Lo+p1.Lo))⟩:Zm),v5))
def ypi (p0:Zm) (p1:Int):Option (Zm×Int):=Option.bind (loopF (S:=Int×Int×Int×Int) (T:=(Int×Int×Int)) (fun (v4,v5,v6,v7)=>cond (decide (0≤v5)) (Option.bind (Option.bind (ge0 (iand .i64 v5 63)) (fun u18=>lb ((iand .u64 (ishr .u64 p0.Lo (iand .i64 v5 63)) 1)) (fun w19=>Option.bind (cond (decide (63<v5)) (Option.bind (ge0 (IntKind.i64.wrap (v5 - 64))) (fun u23=>lb ((iand .u64 (ishr .u64 p0.Hi (IntKind.i64.wrap (v5 - 64))) 1)) (fun w24=>some w24))) (some w19)) (fun v20=>Option.bind (yiq (⟨v6,v7⟩:Zm) (⟨v6,v7⟩:Zm)) (fun x25=>cond (((ishr .u64 v4 63) == 1)||(decide (p1≤(ior .u64 (ishl .u64 v4 1) v20)))) (lb ((IntKind.u64.wrap ((ior .u64 (ishl .u64 v4 1) v20) - p1))) (fun w27=>some (w27,x25.1.Hi,(ior .u64 x25.1.Lo 1)))) (some ((ior .u64 (ishl .u64 v4 1) v20),x25.1.Hi,x25.1.Lo))))))) (fun (v14,v15,v16)=>some (.inl (v14,(IntKind.i64.wrap (v5 - 1)),v15,v16)))) (some (.inr (v4,v6,v7)))) FUEL (0,127,0,0)) (fun (v8,v9,v10)=>some ((⟨v9,v10⟩:Zm),v8))
def yvg (p0:Zm) (p1:Int) (p2:Int):Option (Int×Int):=cond (((p1 == 0)||(decide (p2<0)))||(decide (3<p2))) (some ((0:Int),(2:Int))) (Option.bind (ypi p0 p1) (fun x3=>Option.bind (cond (p2 == 1) (some (decide (0<x3.2))) (cond (p2 == 2) (some (decide ((IntKind.u64.wrap (p1 - x3.2))≤x3.2))) (cond (p2 == 3) (some ((decide ((IntKind.u64.wrap (p1 - x3.2))<x3.2))||((x3.2 == (IntKind.u64.wrap (p1 - x3.2)))&&((iand .u64 x3.1.Lo 1) == 1)))) (some false)))) (fun v5=>Option.bind (cond v5 (Option.bind (yiq x3.1 (⟨0,1⟩:Zm)) (fun x14=>some (x14.1.Hi,x14.1.Lo))) (some (x3.1.Hi,x3.1.Lo))) (fun (v10,v11)=>cond (decide (0<v10)) (some ((0:Int),(3:Int))) (some (v11,(0:Int)))))))
def ymy (p0:Int) (p1:Int):Option Zm:=Option.bind (loopF (S:=Int×Int×Int) (T:=(Int×Int)) (fun (v3,v4,v5)=>cond (decide (0≤v3)) (Option.bind (Option.bind (yiq (⟨v4,v5⟩:Zm) (⟨v4,v5⟩:Zm)) (fun x14=>Option.bind (ge0 v3) (fun u15=>cond ((iand .u64 (ishr .u64 p1 v3) 1) == 1) (Option.bind (yiq x14.1 (⟨0,p0⟩:Zm)) (fun x17=>some (x17.1.Hi,x17.1.Lo))) (some (x14.1.Hi,x14.1.Lo))))) (fun (v11,v12)=>some (.inl ((IntKind.i64.wrap (v3 - 1)),v11,v12)))) (some (.inr (v4,v5)))) FUEL (63,0,0)) (fun (v6,v7)=>some (⟨v6,v7⟩:Zm))
def ypj (p0:Int) (p1:Int) (p2:Int) (p3:Int):Option (Int×Int):=Option.bind (ymy p0 p1) (fun x1=>Option.bind (yvg x1 p2 p3) (fun x2=>some (x2.1,x2.2)))
def yjw (p0:(List Zb)) (p1:(List Zc)) (p2:ByteArray) (p3:Za) (p4:(List Za)):Option (Zn×(List Za)):=Option.bind (yfh p0 p1 p2 p3) (fun x3=>cond (!x3) (some ((⟨ByteArray.empty,0,false,[],[]⟩:Zn),[])) (Option.bind (yhm p0 p3.Product) (fun x5=>Option.bind (yhf p1 p3.Agreement) (fun x7=>Option.bind (ymp p1 p3.Agreement x5.1.Country p2) (fun x9=>Option.bind (loopF (S:=(List Za)×(List ByteArray)×Int×(List Zl)) (T:=((List Za)×(List ByteArray)×(List Zl))) (fun (l13,l14,v15,l17)=>cond (decide (v15<(x5.1.Inputs.length:Int))) (Option.bind (Option.bind (idx x5.1.Inputs v15) (fun m37=>Option.bind (yhm p0 m37.Product) (fun x39=>Option.bind (gd (x7.1.Kind == 3) (yjv x7.1.Parties x39.1.Country)) (fun x41=>Option.bind (cond ((x7.1.Kind == 3)&&x41) (Option.bind (ynz l14 x39.1.Processes) (fun x46=>some x46)) (some l14)) (fun l42=>Option.bind (yku x9 x39.1.ID p4) (fun x47=>Option.bind (cond x47.2 (Option.bind (yhn l13 x47.1) (fun x53=>some x53)) (some l13)) (fun l49=>cond ((x47.2||(!((x7.1.Kind == 3)&&x41)))||((x39.1.Inputs.length:Int) == 0)) (Option.bind (app 32 l17 [(⟨x39.1.Code,m37.Value,x47.2⟩:Zl)]) (fun l57=>some (l49,l42,l57))) (Option.bind (loopF (S:=(List Za)×Int×(List Zl)) (T:=((List Za)×(List Zl))) (fun (l61,v62,l64)=>cond (decide (v62<(x39.1.Inputs.length:Int))) (Option.bind (idx x39.1.Inputs v62) (fun m75=>Option.bind (yhm p0 m75.Product) (fun x76=>Option.bind (idx x39.1.Inputs v62) (fun m78=>Option.bind (ypj (IntKind.u64.wrap m37.Value) (IntKind.u64.wrap m78.Value) (IntKind.u64.wrap x39.1.Price) 1) (fun x79=>Option.bind (cond ((x79.2 == 0)&&(decide (x79.1<1000000000000))) (some (IntKind.i64.wrap x79.1)) (some 1000000000000)) (fun v80=>Option.bind (yku x9 x76.1.ID p4) (fun x84=>Option.bind (cond x84.2 (Option.bind (yhn l61 x84.1) (fun x90=>some x90)) (some l61)) (fun l86=>Option.bind (app 32 l64 [(⟨x76.1.Code,v80,x84.2⟩:Zl)]) (fun l93=>some (.inl (l86,(IntKind.i64.wrap (v62+1)),l93))))))))))) (some (.inr (l61,l64)))) FUEL (l49,0,l17)) (fun (l67,l71)=>some (l67,l42,l71)))))))))) (fun (l30,l31,l35)=>some (.inl (l30,l31,(IntKind.i64.wrap (v15+1)),l35)))) (some (.inr (l13,l14,l17)))) FUEL (([]:List Za),x5.1.Processes,0,([]:List Zl))) (fun (l20,l21,l25)=>Option.bind (sub l21 0 (imin (l21.length:Int) 8)) (fun l98=>some ((⟨x5.1.Code,x5.1.Price,x5.1.Obtained,l98,l25⟩:Zn),l20))))))))
def yjq (p0:Zd) (p1:Zn) (p2:Zl):Option Bool:=Option.bind (ssub p2.Code 0 p0.Digits) (fun s4=>Option.bind (ssub p1.Code 0 p0.Digits) (fun s5=>cond (decide (s4=s5)) (some true) (Option.bind (loopF (S:=Int) (T:=(Unit)⊕(_)) (fun v7=>cond (decide (v7<(p0.Except.length:Int))) (Option.bind (idx p0.Except v7) (fun m11=>Option.bind (yju p2.Code m11) (fun x12=>cond x12 (some (.inr (.inr true))) (some (.inl (IntKind.i64.wrap (v7+1))))))) (some (.inr (.inl ())))) FUEL 0) (fun q=>match q with | .inl _=>some false | .inr e=>some e))))
def yqf (p0:Zm) (p1:Zm):Option Bool:=some ((decide (p0.Hi<p1.Hi))||((p0.Hi == p1.Hi)&&(decide (p0.Lo<p1.Lo))))
def yvh (p0:Zm) (p1:Zm):Option Int:=Option.bind (yqf p0 p1) (fun x3=>cond x3 (some (-1)) (Option.bind (yqf p1 p0) (fun x5=>cond x5 (some (1:Int)) (some (0:Int)))))
def ymg (p0:Int) (p1:Int) (p2:Int):Option Bool:=Option.bind (ymy (IntKind.u64.wrap p0) 1000000) (fun x1=>Option.bind (ymy (IntKind.u64.wrap p1) (IntKind.u64.wrap p2)) (fun x2=>Option.bind (yvh x1 x2) (fun x3=>some (decide (x3≤0)))))
def yoa (rec:Zd→Zn→Option Bool) (p0:Zd) (p1:Zn):Option Bool:=Option.bind (loopF (S:=Int×Int×Int) (T:=(Int×Int)) (fun (v3,v4,v5)=>cond (decide (v5<(p1.Inputs.length:Int))) (Option.bind (Option.bind (idx p1.Inputs v5) (fun m14=>cond m14.Originating (some (v3,v4)) (Option.bind (gd ((!(p0.Kind == 3))&&(p0.Kind == 2)) (yjq p0 p1 m14)) (fun x17=>cond ((p0.Kind == 3)||((p0.Kind == 2)&&x17)) (some ((IntKind.i64.wrap (v3+m14.Value)),(IntKind.i64.wrap (v4+1)))) (some (v3,(IntKind.i64.wrap (v4+1)))))))) (fun (v11,v12)=>some (.inl (v11,v12,(IntKind.i64.wrap (v5+1)))))) (some (.inr (v3,v4)))) FUEL (0,0,0)) (fun (v6,v7)=>Option.bind (loopF (S:=Int×Int) (T:=(Int)) (fun (v19,v20)=>cond (decide (v20<(p0.Args.length:Int))) (Option.bind (Option.bind (idx p0.Args v20) (fun m27=>Option.bind (rec m27 p1) (fun x28=>cond x28 (some (IntKind.i64.wrap (v19+1))) (some v19)))) (fun v25=>some (.inl (v25,(IntKind.i64.wrap (v20+1)))))) (some (.inr v19))) FUEL (0,0)) (fun v21=>cond (p0.Kind == 1) (some (p1.Obtained&&(v7 == 0))) (cond (p0.Kind == 2) (Option.bind (ymg v6 p0.Tolerance p1.Price) (fun x32=>some x32)) (cond (p0.Kind == 3) (Option.bind (ymg v6 p0.Limit p1.Price) (fun x34=>some x34)) (cond (p0.Kind == 4) (Option.bind (yjv p1.Processes p0.Name) (fun x36=>some x36)) (cond (p0.Kind == 5) (some (v21 == (p0.Args.length:Int))) (some (decide (0<v21)))))))))
def yob (n:Nat):Zd→Zn→Option Bool:=Nat.rec (motive:=fun _=>Zd→Zn→Option Bool) (fun _ _=>none) (fun _ ih=>yoa ih) n
def yvi (p0:Zd) (p1:Zn):Option Bool:=yob FUEL p0 p1
def ylp (rec:Zd→Zn→Option ((List Int)×Bool)) (p0:Zd) (p1:Zn):Option ((List Int)×Bool):=Option.bind (yvi p0 p1) (fun x3=>cond (!x3) (some ([],false)) (Option.bind (loopF (S:=(List Int)×Int) (T:=((List Int))⊕(_)) (fun (l6,v9)=>cond (decide (v9<(p0.Args.length:Int))) (Option.bind (α:=((List Int))⊕_) (Option.bind (idx p0.Args v9) (fun m23=>Option.bind (rec m23 p1) (fun x24=>cond (!x24.2) (some (.inl l6)) (cond (p0.Kind == 6) (Option.bind (app 8 [v9] x24.1) (fun l29=>some (.inr (.inr (.inr (l29,true)))))) (Option.bind (app 8 l6 x24.1) (fun l33=>some (.inl l33))))))) (fun q=>match q with | .inl l21=>some (.inl (l21,(IntKind.i64.wrap (v9+1)))) | .inr e=>some e)) (some (.inr (.inl l6)))) FUEL (([]:List Int),0)) (fun q=>match q with | .inl l13=>some (l13,true) | .inr e=>some e)))
def yir (n:Nat):Zd→Zn→Option ((List Int)×Bool):=Nat.rec (motive:=fun _=>Zd→Zn→Option ((List Int)×Bool)) (fun _ _=>none) (fun _ ih=>ylp ih) n
def ykv (p0:Zd) (p1:Zn):Option ((List Int)×Bool):=yir FUEL p0 p1
def yrl (p0:(List Zb)) (p1:(List Zc)) (p2:ByteArray):Option ((List Zg)×Int):=Option.bind (yqb p0) (fun x1=>cond (x1 != 0) (some ([],x1)) (Option.bind (yib p1) (fun x3=>cond (x3 != 0) (some ([],x3)) (Option.bind (ygq p2) (fun x5=>cond (!x5) (some ([],(1:Int))) (Option.bind (loopF (S:=(List Zg)×(List Za)×Bool) (T:=((List Zg))) (fun (l8,l11,v12)=>cond v12 (Option.bind (loopF (S:=(List Zg)×Bool×(List Za)×Int) (T:=((List Zg)×Bool×(List Za))) (fun (l22,v25,l26,v27)=>cond (decide (v27<(p0.length:Int))) (Option.bind (loopF (S:=(List Zg)×Bool×(List Za)×Int) (T:=((List Zg)×Bool×(List Za))) (fun (l38,v41,l42,v43)=>cond (decide (v43<(p1.length:Int))) (Option.bind (Option.bind (idx p0 v27) (fun m60=>Option.bind (idx p1 v43) (fun m61=>Option.bind (yfs l11 (⟨m60.ID,m61.ID⟩:Za)) (fun x63=>Option.bind (gd (!x63) (yfh p0 p1 p2 (⟨m60.ID,m61.ID⟩:Za))) (fun x64=>cond (x63||(!x64)) (some (l38,v41,l42)) (Option.bind (yjw p0 p1 p2 (⟨m60.ID,m61.ID⟩:Za) l11) (fun x66=>Option.bind (idx p1 v43) (fun m68=>Option.bind (idx p0 v27) (fun m69=>Option.bind (yii m68 m69.Code) (fun x70=>Option.bind (ykv x70.1 x66.1) (fun x72=>cond x72.2 (Option.bind (app 64 l38 [(⟨(⟨m60.ID,m61.ID⟩:Za),x72.1,x66.2⟩:Zg)]) (fun l76=>Option.bind (yhn l42 (⟨m60.ID,m61.ID⟩:Za)) (fun x80=>some (l76,true,x80)))) (some (l38,v41,l42))))))))))))) (fun (l56,v57,l58)=>some (.inl (l56,v57,l58,(IntKind.i64.wrap (v43+1)))))) (some (.inr (l38,v41,l42)))) FUEL (l22,v25,l26,0)) (fun (l47,v48,l49)=>some (.inl (l47,v48,l49,(IntKind.i64.wrap (v27+1)))))) (some (.inr (l22,v25,l26)))) FUEL (l8,false,l11,0)) (fun (l31,v32,l33)=>some (.inl (l31,l33,v32)))) (some (.inr l8))) FUEL (([]:List Zg),[],true)) (fun l16=>some (l16,(0:Int)))))))))
def yen (p0:Int):Option Bool:=some ((decide (65≤p0))&&(decide (p0≤90)))
theorem yis {p0:Int} {r:Bool}  (h:yen p0=some r):PF 103 [pY p0] (pB r):=by
 unfold yen at h
 refine ycf ?_
 refine ybd Tryz.func103 fk103 rfl Tryz.ntmps103 Tryz.results103 rfl (yaa (yad [] [2] [] fo0 (by kernel_rfl) (yab (yaa (yad [] (rg 3 6) [(2,pB ((decide (65≤p0))&&(decide (p0≤90))))] fo0 (by kernel_rfl) (yab (yai ?_)))))))
 obtain rfl:=osi h
 exact zq rfl ⟨rfl,rfl⟩
def ycd (p0:ByteArray):Option Bool:=Option.bind (gd ((p0.size:Int) == 2) (idx p0.data.toList 0)) (fun c1=>Option.bind (gd ((p0.size:Int) == 2) (yen (c1.toNat:Int))) (fun x2=>Option.bind (gd (((p0.size:Int) == 2)&&x2) (idx p0.data.toList 1)) (fun c3=>Option.bind (gd (((p0.size:Int) == 2)&&x2) (yen (c3.toNat:Int))) (fun x4=>some ((((p0.size:Int) == 2)&&x2)&&x4)))))
theorem yfe {p0:ByteArray} {r:Bool}  (h:ycd p0=some r):PF 58 [pS p0] (pB r):=by
 unfold ycd at h
 refine ycf ?_
 refine ybd Tryz.func58 fk58 rfl Tryz.ntmps58 Tryz.results58 rfl (yaa (yad [] [2] [] fo0 (by kernel_rfl) (yab (yaa (yac h fun c1 hc1 h=>yac h fun x2 hx2 h=>yac h fun c3 hc3 h=>yac h fun x4 hx4 h=>yad [] (rg 3 13) [(2,pB ((((p0.size:Int) == 2)&&x2)&&x4))] (fosxg 5 (ymd hc1) (ykq 6 (fun hc=>yis (ymd hx2 hc)) (fosxg 10 (ymd hc3) (ykq 11 (fun hc=>yis (ymd hx4 hc)) fo0)))) (by kernel_rfl) (yab (yai ?_)))))))
 obtain rfl:=osi h
 exact zq rfl ⟨rfl,rfl⟩
def ybx (p0:(List Zb)) (p1:(Zb→Option Bool)):Option Int:=Option.bind (loopF (S:=Int) (T:=(Unit)⊕(_)) (fun v1=>cond (decide (v1<(p0.length:Int))) (Option.bind (idx p0 v1) (fun m5=>Option.bind (p1 m5) (fun x6=>cond x6 (some (.inr (.inr v1))) (some (.inl (IntKind.i64.wrap (v1+1))))))) (some (.inr (.inl ())))) FUEL 0) (fun q=>match q with | .inl _=>some (-1) | .inr e=>some e)
theorem ygr {p0:(List Zb)} {p1:(Zb→Option Bool)} {r:Int} {g1:PV} (hg1:∀ {y0:Zb} {w:Bool},p1 y0=some w→PFV g1 [.agg [pI y0.ID,pS y0.Code,pS y0.Country,pI y0.Price,pB y0.Obtained,pL eS y0.Processes,pL Zf.enc y0.Inputs]] (pB w)) (h:ybx p0 p1=some r):PF 174 [pL Zb.enc p0,g1] (pI r):=by
 unfold ybx at h
 refine ycf ?_
 refine ybd Tryz.func174 fk174 rfl Tryz.ntmps174 Tryz.results174 rfl (yaa (yad [] [4] [] fo0 (by kernel_rfl) (yab (yaa (yaa (yad [] [6] [(7,pI (p0.length:Int)),(8,pI 0)] fo0 (by kernel_rfl) (yab (yac h fun q3 hq3 h=>?_))))))))
 refine yas (Y:=(Unit)×(Unit)) (fun (_,_)=>[]) (fun (_,_)=>[]) (fun (_,_)=>q3=Sum.inl ()) ?_ ?_
 ·refine yaj ?_
  refine yaw (Y:=Unit) (S:=Int) _ hq3 (fun _ v1=>[(0,pL Zb.enc p0),(1,g1),(7,pI (p0.length:Int)),(8,pI v1)]) (fun _ v1=>[]) () (zh4 rfl rfl rfl rfl) zsn ?_
  rintro _ v1 o τ hb2;(try dsimp only at hb2);dsimp only [pupds]
  refine yaa (yad [] [] [(9,pB (decide (v1<(p0.length:Int))))] fo0 (by kernel_rfl) (yab (yaa (zif rfl hb2 (fun hc4 hb2=>?_) fun hc4 hb2=>?_))))
  ·refine yag ?_
   refine yab (yaa (yaj (yaa (yad [] [10] [(5,pI v1)] fo0 (by kernel_rfl) (yab (yaa (yac hb2 fun m5 hm5 hb2=>yac hb2 fun x6 hx6 hb2=>yad [] (rg 11 5) [(16,pB x6)] (yjt 3 Zb.enc hm5 (focv 5 (hg1 hx6) fo0)) (by kernel_rfl) (yab (zif rfl hb2 (fun hc7 hb2=>?_) fun hc7 hb2=>?_)))))))))
   ·refine yaa ?_
    refine yad [] [17] [(4,pI v1)] fo0 (by kernel_rfl) (yab (yai (yaf (yah ?_))))
    refine ybb hb2 (fun ht=>?_);subst ht
    refine yaf (ybc ?_)
    obtain rfl:=osi h
    exact zq rfl ⟨rfl,rfl⟩
   refine yag ?_
   refine yal (yab (yad [] [18] [(8,pI (IntKind.i64.wrap (v1+1)))] fo0 (by kernel_rfl) ?_))
   exact ybk hb2 () (zh4 rfl rfl rfl rfl) zsn
  refine yba ?_
  refine yao (yam hb2 (fun ht=>yan rfl ?_))
  exact yaz ((),()) zhn zsn ht.symm
 rintro ⟨_,_⟩ τ hz;(try dsimp only at hz);subst q3;(try dsimp only at h);dsimp only [pupds]
 refine yaa (yad [] [] [(4,pI (-1))] fo0 (by kernel_rfl) (yab (yai ?_)))
 obtain rfl:=osi h
 exact zq rfl ⟨rfl,rfl⟩
def ybq (p0:(List Zb)) (p1:(Zb→Option Bool)):Option Bool:=Option.bind (ybx p0 p1) (fun x1=>some (decide (0≤x1)))
theorem yfv {p0:(List Zb)} {p1:(Zb→Option Bool)} {r:Bool} {g1:PV} (hg1:∀ {y0:Zb} {w:Bool},p1 y0=some w→PFV g1 [.agg [pI y0.ID,pS y0.Code,pS y0.Country,pI y0.Price,pB y0.Obtained,pL eS y0.Processes,pL Zf.enc y0.Inputs]] (pB w)) (h:ybq p0 p1=some r):PF 140 [pL Zb.enc p0,g1] (pB r):=by
 unfold ybq at h
 refine ycf ?_
 refine ybd Tryz.func140 fk140 rfl Tryz.ntmps140 Tryz.results140 rfl (yaa (yad [] [4] [] fo0 (by kernel_rfl) (yab (yaa (yac h fun x1 hx1 h=>yad [] [5,6,7,8] [(4,pB (decide (0≤x1)))] (yew 2 (ygr hg1 hx1) fo0) (by kernel_rfl) (yab (yai ?_)))))))
 obtain rfl:=osi h
 exact zq rfl ⟨rfl,rfl⟩
def ycj (p0:Zb) (p1:Zf):Option Bool:=some (p0.ID == p1.Product)
theorem yjx {p0:Zb} {p1:Zf} {r:Bool}  (h:ycj p0 p1=some r):PF 141 [.agg [pI p0.ID,pS p0.Code,pS p0.Country,pI p0.Price,pB p0.Obtained,pL eS p0.Processes,pL Zf.enc p0.Inputs],.ref [pI p1.Product,pI p1.Value] 0] (pB r):=by
 unfold ycj at h
 refine ycf ?_
 refine ybd Tryz.func141 fk141 rfl Tryz.ntmps141 Tryz.results141 rfl (yaa (yae (yat rfl rfl rfl (ycp (cs:=[pI p0.ID,pS p0.Code,pS p0.Country,pI p0.Price,pB p0.Obtained,pL eS p0.Processes,pL Zf.enc p0.Inputs]) rfl rfl (fun b1=>yap [] [3] [] fo0 (by kernel_rfl) (yab (yaa (yad [0] (rg 4 5) [(3,pB (p0.ID == p1.Product))] fo0 (by kernel_rfl) (yab (yai ?_))))))))))
 obtain rfl:=osi h
 exact zq rfl ⟨rfl,rfl⟩
def ydb (p0:(List Zb)) (p1:(List Zf)):Option Int:=Option.bind (loopF (S:=Int) (T:=(Unit)⊕(_)) (fun v1=>cond (decide (v1<(p1.length:Int))) (Option.bind (idx p1 v1) (fun m5=>Option.bind (gd (decide (0<v1)) (idx p1 (IntKind.i64.wrap (v1 - 1)))) (fun m7=>cond ((decide (0<v1))&&(decide (m5.Product≤m7.Product))) (some (.inr (.inr (9:Int)))) (Option.bind (ybq p0 (fun y9=>ycj y9 m5)) (fun x10=>cond (!x10) (some (.inr (.inr (6:Int)))) (cond ((decide (m5.Value<0))||(decide (1000000000000<m5.Value))) (some (.inr (.inr (2:Int)))) (some (.inl (IntKind.i64.wrap (v1+1)))))))))) (some (.inr (.inl ())))) FUEL 0) (fun q=>match q with | .inl _=>some (0:Int) | .inr e=>some e)
theorem ykw {p0:(List Zb)} {p1:(List Zf)} {r:Int}  (h:ydb p0 p1=some r):PF 100 [pL Zb.enc p0,pL Zf.enc p1] (pI r):=by
 unfold ydb at h
 refine ycf ?_
 refine ybd Tryz.func100 fk100 rfl Tryz.ntmps100 Tryz.results100 rfl (yaa (yad [] [4] [] fo0 (by kernel_rfl) (yab (yaa (yaa (yad [] [] [(7,pL Zf.enc p1),(8,pI (p1.length:Int)),(9,pI 0)] fo0 (by kernel_rfl) (yab (yac h fun q3 hq3 h=>?_))))))))
 refine yas (Y:=(Unit)×(Unit)) (fun (_,_)=>[]) (fun (_,_)=>[]) (fun (_,_)=>q3=Sum.inl ()) ?_ ?_
 ·refine yaj ?_
  refine yaw (Y:=Unit) (S:=Int) _ hq3 (fun _ v1=>[(0,pL Zb.enc p0),(1,pL Zf.enc p1),(7,pL Zf.enc p1),(8,pI (p1.length:Int)),(9,pI v1)]) (fun _ v1=>[]) () (zh5 rfl rfl rfl rfl rfl) zsn ?_
  rintro _ v1 o τ hb2;(try dsimp only at hb2);dsimp only [pupds]
  refine yaa (yad [] [] [(10,pB (decide (v1<(p1.length:Int))))] fo0 (by kernel_rfl) (yab (yaa (zif rfl hb2 (fun hc4 hb2=>?_) fun hc4 hb2=>?_))))
  ·refine yag ?_
   refine yab (yaa (yaj (yaa (yac hb2 fun m5 hm5 hb2=>yae (yak 3 [] [12] [(11,pI v1),(13,.agg [pI m5.Product,pI m5.Value])] (yjt 1 Zf.enc hm5 fo0) (by kernel_rfl) (yat rfl rfl rfl (ybg (cs:=[pI 0,pI 0]) rfl rfl rfl rfl (fun b6=>yak 1 [] [] [(5,pI v1)] fo0 (by kernel_rfl) (ybt rfl rfl (yar (vs:=[pI m5.Product,pI m5.Value]) rfl rfl rfl rfl rfl zuh (zl2) (yax (yab (yaa (yaa (ydq (ρd:=[]) [(0,0),(1,0),(2,0),(3,0),(4,0),(5,0),(6,0),(7,0),(8,0),(9,0),(10,0),(11,0),(12,0)] _ (List.Perm.refl _) (by kernel_rfl) rfl (yac hb2 fun m7 hm7 hb2=>ycr 13 [0] (rg 14 12) [(26,pB ((decide (0<v1))&&(decide (m5.Product≤m7.Product))))] (yst 8 Zf.enc (ymd hm7) fo0) (by kernel_rfl) (yfd (yab (zif rfl hb2 (fun hc8 hb2=>?_) fun hc8 hb2=>?_)))))))))))))))))))
   ·refine yaa ?_
    refine yad [] [] [(4,pI 9)] fo0 (by kernel_rfl) (yab (yai (yah (yaf (yah ?_)))))
    refine ybb hb2 (fun ht=>?_);subst ht
    refine yaf (ybc ?_)
    obtain rfl:=osi h
    exact zq rfl ⟨rfl,rfl⟩
   refine yag ?_
   refine yab (yaa (yaa (yae (yak 1 [] [] [(27,pL Zb.enc p0)] fo0 (by kernel_rfl) ?_))))
   refine yrg 6 rfl (by exact zph) ?_
   refine yac hb2 fun x10 hx10 hb2=>yap [] [28,29] [(30,pB (!x10))] (yew 1 (yfv (fun hr=>yuu (yjx hr)) hx10) fo0) (by kernel_rfl) (yab (zif rfl hb2 (fun hc11 hb2=>?_) fun hc11 hb2=>?_))
   ·refine yaa ?_
    refine yad [] [] [(4,pI 6)] fo0 (by kernel_rfl) (yab (yai (yah (yaf (yah ?_)))))
    refine ybb hb2 (fun ht=>?_);subst ht
    refine yaf (ybc ?_)
    obtain rfl:=osi h
    exact zq rfl ⟨rfl,rfl⟩
   refine yag ?_
   refine yab (yaa (yad [] (rg 31 7) [(38,pB ((decide (m5.Value<0))||(decide (1000000000000<m5.Value))))] fo0 (by kernel_rfl) (yab (zif rfl hb2 (fun hc12 hb2=>?_) fun hc12 hb2=>?_))))
   ·refine yaa ?_
    refine yad [] [] [(4,pI 2)] fo0 (by kernel_rfl) (yab (yai (yaf (yah ?_))))
    refine ybb hb2 (fun ht=>?_);subst ht
    refine yaf (ybc ?_)
    obtain rfl:=osi h
    exact zq rfl ⟨rfl,rfl⟩
   refine yag ?_
   refine yal (yab (yad [] [39] [(9,pI (IntKind.i64.wrap (v1+1)))] fo0 (by kernel_rfl) ?_))
   exact ybk hb2 () (zh5 rfl rfl rfl rfl rfl) zsn
  refine yba ?_
  refine yao (yam hb2 (fun ht=>yan rfl ?_))
  exact yaz ((),()) zhn zsn ht.symm
 rintro ⟨_,_⟩ τ hz;(try dsimp only at hz);subst q3;(try dsimp only at h);dsimp only [pupds]
 refine yaa (yad [] [] [(4,pI 0)] fo0 (by kernel_rfl) (yab (yai ?_)))
 obtain rfl:=osi h
 exact zq rfl ⟨rfl,rfl⟩
def ydm (p0:(List ByteArray)):Option Bool:=Option.bind (loopF (S:=Int) (T:=(Unit)⊕(_)) (fun v1=>cond (decide (v1<(p0.length:Int))) (Option.bind (idx p0 v1) (fun m5=>Option.bind (ycd m5) (fun x6=>Option.bind (gd ((!(!x6))&&(decide (0<v1))) (idx p0 (IntKind.i64.wrap (v1 - 1)))) (fun m7=>cond ((!x6)||((decide (0<v1))&&(Op.bytesLess m5.toList m7.toList||decide (m5=m7)))) (some (.inr (.inr false))) (some (.inl (IntKind.i64.wrap (v1+1)))))))) (some (.inr (.inl ())))) FUEL 0) (fun q=>match q with | .inl _=>some true | .inr e=>some e)
theorem yly {p0:(List ByteArray)} {r:Bool}  (h:ydm p0=some r):PF 101 [pL eS p0] (pB r):=by
 unfold ydm at h
 refine ycf ?_
 refine ybd Tryz.func101 fk101 rfl Tryz.ntmps101 Tryz.results101 rfl (yaa (yad [] [2] [] fo0 (by kernel_rfl) (yab (yaa (yaa (yad [] [] [(5,pL eS p0),(6,pI (p0.length:Int)),(7,pI 0)] fo0 (by kernel_rfl) (yab (yac h fun q3 hq3 h=>?_))))))))
 refine yas (Y:=(Unit)×(Unit)) (fun (_,_)=>[]) (fun (_,_)=>[]) (fun (_,_)=>q3=Sum.inl ()) ?_ ?_
 ·refine yaj ?_
  refine yaw (Y:=Unit) (S:=Int) _ hq3 (fun _ v1=>[(0,pL eS p0),(5,pL eS p0),(6,pI (p0.length:Int)),(7,pI v1)]) (fun _ v1=>[]) () (zh4 rfl rfl rfl rfl) zsn ?_
  rintro _ v1 o τ hb2;(try dsimp only at hb2);dsimp only [pupds]
  refine yaa (yad [] [] [(8,pB (decide (v1<(p0.length:Int))))] fo0 (by kernel_rfl) (yab (yaa (zif rfl hb2 (fun hc4 hb2=>?_) fun hc4 hb2=>?_))))
  ·refine yag ?_
   refine yab (yaa (yaj (yaa (yac hb2 fun m5 hm5 hb2=>yad [] [9,10,11] [(3,pI v1),(4,pS m5)] (yjt 1 eS hm5 fo0) (by kernel_rfl) (yab (yaa (yac hb2 fun x6 hx6 hb2=>yac hb2 fun m7 hm7 hb2=>yad [] (rg 12 15) [(27,pB ((!x6)||((decide (0<v1))&&(Op.bytesLess m5.toList m7.toList||decide (m5=m7)))))] (yew 1 (yfe hx6) (yst 11 eS (ymd hm7) fo0)) (by kernel_rfl) (yab (zif rfl hb2 (fun hc8 hb2=>?_) fun hc8 hb2=>?_)))))))))
   ·refine yaa ?_
    refine yad [] [] [(2,pB false)] fo0 (by kernel_rfl) (yab (yai (yaf (yah ?_))))
    refine ybb hb2 (fun ht=>?_);subst ht
    refine yaf (ybc ?_)
    obtain rfl:=osi h
    exact zq rfl ⟨rfl,rfl⟩
   refine yag ?_
   refine yal (yab (yad [] [28] [(7,pI (IntKind.i64.wrap (v1+1)))] fo0 (by kernel_rfl) ?_))
   exact ybk hb2 () (zh4 rfl rfl rfl rfl) zsn
  refine yba ?_
  refine yao (yam hb2 (fun ht=>yan rfl ?_))
  exact yaz ((),()) zhn zsn ht.symm
 rintro ⟨_,_⟩ τ hz;(try dsimp only at hz);subst q3;(try dsimp only at h);dsimp only [pupds]
 refine yaa (yad [] [] [(2,pB true)] fo0 (by kernel_rfl) (yab (yai ?_)))
 obtain rfl:=osi h
 exact zq rfl ⟨rfl,rfl⟩
def yjy (rec:Zd→Int→Option Int) (p0:Zd) (p1:Int):Option Int:=Option.bind (loopF (S:=Int×Int) (T:=(Int)⊕(_)) (fun (v2,v3)=>cond (decide (v3<(p0.Args.length:Int))) (Option.bind (idx p0.Args v3) (fun m8=>cond (decide (p1≤v2)) (some (.inr (.inr p1))) (Option.bind (rec m8 (IntKind.i64.wrap (p1 - v2))) (fun x11=>some (.inl ((IntKind.i64.wrap (v2+x11)),(IntKind.i64.wrap (v3+1)))))))) (some (.inr (.inl v2)))) FUEL (1,0)) (fun q=>match q with | .inl v4=>some v4 | .inr e=>some e)
theorem yvj {rec:Zd→Int→Option Int} (hrec:∀ {p0:Zd} {p1:Int} {r:Int},rec p0 p1=some r→PF 123 [.agg [pI p0.Kind,pI p0.Digits,pL eS p0.Except,pI p0.Tolerance,pI p0.Limit,pS p0.Name,pL Zd.enc p0.Args],pI p1] (pI r)) {p0:Zd} {p1:Int} {r:Int} (h:yjy rec p0 p1=some r):PF 123 [.agg [pI p0.Kind,pI p0.Digits,pL eS p0.Except,pI p0.Tolerance,pI p0.Limit,pS p0.Name,pL Zd.enc p0.Args],pI p1] (pI r):=by
 unfold yjy at h
 refine ycf ?_
 refine ybd Tryz.func123 fk123 rfl Tryz.ntmps123 Tryz.results123 rfl (yaa (yae (yat rfl rfl rfl (ycp (cs:=[pI p0.Kind,pI p0.Digits,pL eS p0.Except,pI p0.Tolerance,pI p0.Limit,pS p0.Name,pL Zd.enc p0.Args]) rfl rfl (fun b1=>yap [] [4] [] fo0 (by kernel_rfl) (yab (yaa (yad [] [] [(5,pI 1)] fo0 (by kernel_rfl) (yab (yaa (yaa (yad [0] [8] [(9,pL Zd.enc p0.Args),(10,pI (p0.Args.length:Int)),(11,pI 0)] fo0 (by kernel_rfl) (yab (yac h fun q6 hq6 h=>?_))))))))))))))
 refine yas (Y:=(Unit)×(Int)) (fun (_,v4)=>[(5,pI v4)]) (fun (_,v4)=>[]) (fun (_,v4)=>q6=Sum.inl v4) ?_ ?_
 ·refine yaj ?_
  refine yaw (Y:=Unit) (S:=Int×Int) _ hq6 (fun _ (v2,v3)=>[(1,pI p1),(5,pI v2),(9,pL Zd.enc p0.Args),(10,pI (p0.Args.length:Int)),(11,pI v3)]) (fun _ (v2,v3)=>[]) () (zh5 rfl rfl rfl rfl rfl) zsn ?_
  rintro _ ⟨v2,v3⟩ o τ hb5;(try dsimp only at hb5);dsimp only [pupds]
  refine yaa (yad [] [] [(12,pB (decide (v3<(p0.Args.length:Int))))] fo0 (by kernel_rfl) (yab (yaa (zif rfl hb5 (fun hc7 hb5=>?_) fun hc7 hb5=>?_))))
  ·refine yag ?_
   refine yab (yaa (yaj (yaa (yac hb5 fun m8 hm8 hb5=>yae (yak 2 [] [13] [(14,.agg [pI m8.Kind,pI m8.Digits,pL eS m8.Except,pI m8.Tolerance,pI m8.Limit,pS m8.Name,pL Zd.enc m8.Args])] (xhy 0 Zd.enc (Zd.enc_eq _) hm8 fo0) (by kernel_rfl) (yat rfl rfl rfl (ybg (cs:=[pI 0,pI 0,pN,pI 0,pI 0,pS ByteArray.empty,pN]) rfl rfl rfl rfl (fun b9=>ybt rfl rfl (yar (vs:=[pI m8.Kind,pI m8.Digits,pL eS m8.Except,pI m8.Tolerance,pI m8.Limit,pS m8.Name,pL Zd.enc m8.Args]) rfl rfl rfl rfl rfl zuh (zl7) (yax (yab (yaa (yaa (yad [] [15,16] [(17,pB (decide (p1≤v2)))] fo0 (by kernel_rfl) (yab (zif rfl hb5 (fun hc10 hb5=>?_) fun hc10 hb5=>?_))))))))))))))))
   ·refine yaa ?_
    refine yad [] [18] [(4,pI p1)] fo0 (by kernel_rfl) (yab (yai (yah (yaf (yah ?_)))))
    refine ybb hb5 (fun ht=>?_);subst ht
    refine yaf (ybc ?_)
    obtain rfl:=osi h
    exact zq rfl ⟨rfl,rfl⟩
   refine yag ?_
   refine yab (yac hb5 fun x11 hx11 hb5=>yad [0] (rg 19 7) [(5,pI (IntKind.i64.wrap (v2+x11)))] (yew 5 (hrec hx11) fo0) (by kernel_rfl) (yal (yab (yad [] [26] [(11,pI (IntKind.i64.wrap (v3+1)))] fo0 (by kernel_rfl) ?_))))
   exact ybk hb5 () (zh5 rfl rfl rfl rfl rfl) zsn
  refine yba ?_
  refine yao (yam hb5 (fun ht=>yan rfl ?_))
  exact yaz ((),v2) (zh1 rfl) zsn ht.symm
 rintro ⟨_,v4⟩ τ hz;(try dsimp only at hz);subst q6;(try dsimp only at h);dsimp only [pupds]
 refine yaa (yad [] [27] [(4,pI v4)] fo0 (by kernel_rfl) (yab (yai ?_)))
 obtain rfl:=osi h
 exact zq rfl ⟨rfl,rfl⟩
def ymh (n:Nat):Zd→Int→Option Int:=Nat.rec (motive:=fun _=>Zd→Int→Option Int) (fun _ _=>none) (fun _ ih=>yjy ih) n
def ysu (p0:Zd) (p1:Int):Option Int:=ymh FUEL p0 p1
theorem yxd (n:Nat):∀ {p0:Zd} {p1:Int} {r:Int},ymh n p0 p1=some r→PF 123 [.agg [pI p0.Kind,pI p0.Digits,pL eS p0.Except,pI p0.Tolerance,pI p0.Limit,pS p0.Name,pL Zd.enc p0.Args],pI p1] (pI r):=by
 induction n with
 | zero=>intros;rename_i h;exact nomatch h
 | succ n ih=>intros;rename_i h;exact yvj (fun hr=>ih hr) h
theorem yzv {p0:Zd} {p1:Int} {r:Int} (h:ysu p0 p1=some r):PF 123 [.agg [pI p0.Kind,pI p0.Digits,pL eS p0.Except,pI p0.Tolerance,pI p0.Limit,pS p0.Name,pL Zd.enc p0.Args],pI p1] (pI r):=yxd FUEL h
def ymz (p0:Zd):Option Bool:=cond ((!(p0.Kind == 2))&&(((p0.Digits != 0)||(decide (0<(p0.Except.length:Int))))||(p0.Tolerance != 0))) (some false) (cond ((p0.Kind != 3)&&(p0.Limit != 0)) (some false) (cond ((p0.Kind != 4)&&(!decide (p0.Name=(⟨#[]⟩:ByteArray)))) (some false) (some (((p0.Kind == 5)||(p0.Kind == 6))||((p0.Args.length:Int) == 0)))))
theorem yzw {p0:Zd} {r:Bool}  (h:ymz p0=some r):PF 157 [.agg [pI p0.Kind,pI p0.Digits,pL eS p0.Except,pI p0.Tolerance,pI p0.Limit,pS p0.Name,pL Zd.enc p0.Args]] (pB r):=by
 unfold ymz at h
 refine ycf ?_
 refine ybd Tryz.func157 fk157 rfl Tryz.ntmps157 Tryz.results157 rfl (yaa (yae (yat rfl rfl rfl (ycp (cs:=[pI p0.Kind,pI p0.Digits,pL eS p0.Except,pI p0.Tolerance,pI p0.Limit,pS p0.Name,pL Zd.enc p0.Args]) rfl rfl (fun b1=>yap [] [2] [] fo0 (by kernel_rfl) (yab (yaa (yad [0] [5,6,7] [(3,pB (p0.Kind == 2))] fo0 (by kernel_rfl) (yab (yaa (yad [0,0] (rg 8 8) [(4,pB ((p0.Kind == 5)||(p0.Kind == 6)))] fo0 (by kernel_rfl) (yab (yaa (yaj (yaa (yad [0,0,0] (rg 17 18) [(16,pB ((!(p0.Kind == 2))&&(((p0.Digits != 0)||(decide (0<(p0.Except.length:Int))))||(p0.Tolerance != 0))))] fo0 (by kernel_rfl) (yab (zif rfl h (fun hc2 h=>?_) fun hc2 h=>?_))))))))))))))))))
 ·refine yaa ?_
  refine yad [] [] [(2,pB false)] fo0 (by kernel_rfl) (yab (yai (yaf (yah ?_))))
  obtain rfl:=osi h
  exact zq rfl ⟨rfl,rfl⟩
 refine yaa ?_
 refine yad [0,0] (rg 36 8) [(35,pB ((p0.Kind != 3)&&(p0.Limit != 0)))] fo0 (by kernel_rfl) (yab (zif rfl h (fun hc3 h=>?_) fun hc3 h=>?_))
 ·refine yaa ?_
  refine yad [] [] [(2,pB false)] fo0 (by kernel_rfl) (yab (yai (yaf (yah ?_))))
  obtain rfl:=osi h
  exact zq rfl ⟨rfl,rfl⟩
 refine yaa ?_
 refine yad [0,0] (rg 45 8) [(44,pB ((p0.Kind != 4)&&(!decide (p0.Name=(⟨#[]⟩:ByteArray)))))] fo0 (by kernel_rfl) (yab (zif rfl h (fun hc4 h=>?_) fun hc4 h=>?_))
 ·refine yaa ?_
  refine yad [] [] [(2,pB false)] fo0 (by kernel_rfl) (yab (yai (yaf (yah ?_))))
  obtain rfl:=osi h
  exact zq rfl ⟨rfl,rfl⟩
 refine yag ?_
 refine yal (yab (yaa (yad [0] (rg 53 7) [(2,pB (((p0.Kind == 5)||(p0.Kind == 6))||((p0.Args.length:Int) == 0)))] fo0 (by kernel_rfl) (yab (yai ?_)))))
 obtain rfl:=osi h
 exact zq rfl ⟨rfl,rfl⟩
def yit (p0:Int):Option Bool:=some ((decide (0≤p0))&&(decide (p0≤1000000)))
theorem ymi {p0:Int} {r:Bool}  (h:yit p0=some r):PF 159 [pI p0] (pB r):=by
 unfold yit at h
 refine ycf ?_
 refine ybd Tryz.func159 fk159 rfl Tryz.ntmps159 Tryz.results159 rfl (yaa (yad [] [2] [] fo0 (by kernel_rfl) (yab (yaa (yad [] (rg 3 6) [(2,pB ((decide (0≤p0))&&(decide (p0≤1000000))))] fo0 (by kernel_rfl) (yab (yai ?_)))))))
 obtain rfl:=osi h
 exact zq rfl ⟨rfl,rfl⟩
def yfl (p0:ByteArray) (p1:ByteArray):Option Bool:=Option.bind (gd (decide ((p1.size:Int)≤(p0.size:Int))) (ssub p0 0 (p1.size:Int))) (fun s1=>some ((decide ((p1.size:Int)≤(p0.size:Int)))&&(decide (s1=p1))))
theorem yna {p0:ByteArray} {p1:ByteArray} {r:Bool}  (h:yfl p0 p1=some r):PF 122 [pS p0,pS p1] (pB r):=by
 unfold yfl at h
 refine ycf ?_
 refine ybd Tryz.func122 fk122 rfl Tryz.ntmps122 Tryz.results122 rfl (yaa (yad [] [4] [] fo0 (by kernel_rfl) (yab (yaa (yac h fun s1 hs1 h=>yad [] (rg 5 13) [(4,pB ((decide ((p1.size:Int)≤(p0.size:Int)))&&(decide (s1=p1))))] (fossg 9 (ymd hs1) fo0) (by kernel_rfl) (yab (yai ?_)))))))
 obtain rfl:=osi h
 exact zq rfl ⟨rfl,rfl⟩
def yde (p0:ByteArray) (p1:ByteArray):Option Bool:=Option.bind (yfl p0 p1) (fun x1=>some x1)
theorem yhs {p0:ByteArray} {p1:ByteArray} {r:Bool}  (h:yde p0 p1=some r):PF 78 [pS p0,pS p1] (pB r):=by
 unfold yde at h
 refine ycf ?_
 refine ybd Tryz.func78 fk78 rfl Tryz.ntmps78 Tryz.results78 rfl (yaa (yad [] [4] [] fo0 (by kernel_rfl) (yab (yaa (yac h fun x1 hx1 h=>yad [] [5,6,7] [(4,pB x1)] (yew 2 (yna hx1) fo0) (by kernel_rfl) (yab (yai ?_)))))))
 obtain rfl:=osi h
 exact zq rfl ⟨rfl,rfl⟩
def yca (p0:(List ByteArray)):Option (List ByteArray):=app 16 ([]:List ByteArray) p0
theorem yek {p0:(List ByteArray)} {r:(List ByteArray)} (h:yca p0=some r):PCall 117 [pL eS p0] [] (fun pv ρ'=>∃ a c,pv=.v (.slice a r.length c)∧ρ'=[PRes.row a r.length c 9 1 (List.map eS r)]):=by
 unfold yca at h
 refine ybd Tryz.func117 fk117 rfl Tryz.ntmps117 Tryz.results117 rfl ?_
 (repeat refine yaa ?_)
 refine yae (ycv rfl rfl rfl (ycq (p:=.v (.slice none 0 0)) rfl (.p rfl)) (yax (yab ?_)))
 (repeat refine yaa ?_)
 refine yae (ycv rfl rfl rfl (yie (p:=pL eS p0) rfl (.p rfl)) (xbk rfl rfl rfl rfl rfl rfl (fun b hb=>yax (yab ?_))))
 refine yin rfl (fun hc=>?_) (fun hc=>?_)
 ·have e0:p0=[]:=List.map_eq_nil_iff.1 (hb hc)
  subst e0;obtain ⟨rfl,_⟩:=yty h
  (repeat refine yaa ?_)
  refine yae (ycv rfl rfl rfl (ycq (p:=.v (.slice none 0 0)) rfl (.p rfl)) (yax (yab (ych 9 1 (yai (yah ?_))))))
  exact ybh (ygl (ybm rfl)) (zs1) ⟨_,_,rfl,rfl⟩
 refine yag ?_
 refine yab ?_
 (repeat refine yaa ?_)
 refine yae (yat rfl rfl rfl (yck rfl rfl rfl rfl rfl zin rfl rfl rfl rfl (fun b1=>ycv rfl rfl rfl (yie (p:=pL eS p0) rfl (.p rfl)) ?_)))
 refine yat rfl rfl rfl (yrw (enc:=eS) (xs:=([]:List ByteArray)) rfl rfl rfl rfl rfl (fun _=>rfl) rfl rfl rfl (by exact zph) h (fun a c=>?_))
 refine ycv rfl rfl rfl (ycq (p:=.v (.slice a r.length c)) rfl (.p rfl)) (yax (yab (yai ?_)))
 exact ybh (ygl (ybm rfl)) (zs1) ⟨_,_,rfl,rfl⟩
def ydt (rec:Zd→Option Zd) (p0:Zd):Option Zd:=Option.bind (yca p0.Except) (fun x3=>Option.bind (mk0 96 (p0.Args.length:Int)) (fun u7=>Option.bind (loopF (S:=(List Zd)×Int) (T:=((List Zd))) (fun (l11,v14)=>cond (decide (v14<(p0.Args.length:Int))) (Option.bind (idx p0.Args v14) (fun m23=>Option.bind (rec m23) (fun x25=>Option.bind (app 96 l11 [x25]) (fun l28=>some (.inl (l28,(IntKind.i64.wrap (v14+1)))))))) (some (.inr l11))) FUEL (([]:List Zd),0)) (fun l18=>some (⟨p0.Kind,p0.Digits,x3,p0.Tolerance,p0.Limit,p0.Name,l18⟩:Zd))))
theorem ymq {rec:Zd→Option Zd} (hrec:∀ {p0:Zd} {r:Zd},rec p0=some r→PF 80 [.agg [pI p0.Kind,pI p0.Digits,pL eS p0.Except,pI p0.Tolerance,pI p0.Limit,pS p0.Name,pL Zd.enc p0.Args]] (.agg [pI r.Kind,pI r.Digits,pL eS r.Except,pI r.Tolerance,pI r.Limit,pS r.Name,pL Zd.enc r.Args])) {p0:Zd} {r:Zd} (h:ydt rec p0=some r):PF 80 [.agg [pI p0.Kind,pI p0.Digits,pL eS p0.Except,pI p0.Tolerance,pI p0.Limit,pS p0.Name,pL Zd.enc p0.Args]] (.agg [pI r.Kind,pI r.Digits,pL eS r.Except,pI r.Tolerance,pI r.Limit,pS r.Name,pL Zd.enc r.Args]):=by
 unfold ydt at h
 refine ycf ?_
 refine ybd Tryz.func80 fk80 rfl Tryz.ntmps80 Tryz.results80 rfl (yaa (yae (yat rfl rfl rfl (ycp (cs:=[pI p0.Kind,pI p0.Digits,pL eS p0.Except,pI p0.Tolerance,pI p0.Limit,pS p0.Name,pL Zd.enc p0.Args]) rfl rfl (fun b1=>yat rfl rfl rfl (ybg (cs:=[pI 0,pI 0,pN,pI 0,pI 0,pS ByteArray.empty,pN]) rfl rfl rfl rfl (fun b2=>yax (yab (yaa (yac h fun x3 hx3 h=>yae (yak 2 [1] [6] [(7,pL eS p0.Except)] fo0 (by kernel_rfl) ?_)))))))))))
 refine yat rfl rfl rfl (ybj rfl rfl (ρ1:=[]) (List.Perm.refl _) (yek hx3) ?_);rintro _ _ ⟨a4,c5,rfl,rfl⟩
 refine yak 1 [] [] [(9,pP b1 2)] fo0 (by kernel_rfl) (ybt rfl rfl (yar (vs:=[pO a4 x3.length c5]) rfl rfl rfl rfl rfl (zut (zut zuh)) (zlt (zlt (zl1))) (yax (yab (yaa (yac h fun u7 hu7 h=>yae (yak 3 [2] [10,11] [(12,pI (p0.Args.length:Int))] fo0 (by kernel_rfl) (yat rfl rfl rfl (pl_make0 rfl rfl rfl rfl rfl rfl rfl hu7 (fun b8=>yap [] [] [(3,pO (some ⟨b8,0,none⟩) 0 ((p0.Args.length:Int).toNat))] fo0 (by kernel_rfl) (yab (yaa (yaa (yad [3] [14] [(15,pL Zd.enc p0.Args),(16,pI (p0.Args.length:Int)),(17,pI 0)] fo0 (by kernel_rfl) (yab (yac h fun q21 hq21 h=>?_))))))))))))))))
 refine yas (Y:=(Option Addr×Nat)×((List Zd))) (fun ((a16,c17),l18)=>[(1,pP b1 0),(2,pP b2 0),(3,pO a16 l18.length c17)]) (fun ((a16,c17),l18)=>[PRes.b b1 68 [pI p0.Kind,pI p0.Digits,pO a4 x3.length c5,pI p0.Tolerance,pI p0.Limit,pS p0.Name,pL Zd.enc p0.Args],PRes.b b2 68 [pI 0,pI 0,pN,pI 0,pI 0,pS ByteArray.empty,pN],PRes.row a16 l18.length c17 68 7 (List.map Zd.enc l18),PRes.row a4 x3.length c5 9 1 (List.map eS x3)]) (fun ((a16,c17),l18)=>q21=l18) ?_ ?_
 ·refine yaj ?_
  refine yaw (Y:=Option Addr×Nat) (S:=(List Zd)×Int) _ hq21 (fun (a12,c13) (l11,v14)=>[(1,pP b1 0),(2,pP b2 0),(3,pO a12 l11.length c13),(15,pL Zd.enc p0.Args),(16,pI (p0.Args.length:Int)),(17,pI v14)]) (fun (a12,c13) (l11,v14)=>[PRes.b b1 68 [pI p0.Kind,pI p0.Digits,pO a4 x3.length c5,pI p0.Tolerance,pI p0.Limit,pS p0.Name,pL Zd.enc p0.Args],PRes.b b2 68 [pI 0,pI 0,pN,pI 0,pI 0,pS ByteArray.empty,pN],PRes.row a12 l11.length c13 68 7 (List.map Zd.enc l11),PRes.row a4 x3.length c5 9 1 (List.map eS x3)]) ((some ⟨b8,0,none⟩),(p0.Args.length:Int).toNat) (zh6 rfl rfl rfl rfl rfl rfl) (zsc (zpt (zpt (zpt zph))) (zsc (zpt (zpt zph)) (zs2))) ?_
  rintro ⟨a12,c13⟩ ⟨l11,v14⟩ o τ hb20;(try dsimp only at hb20);dsimp only [pupds]
  refine yaa (yad [] [] [(18,pB (decide (v14<(p0.Args.length:Int))))] fo0 (by kernel_rfl) (yab (yaa (zif rfl hb20 (fun hc22 hb20=>?_) fun hc22 hb20=>?_))))
  ·refine yag ?_
   refine yab (yaa (yaj (yaa (yac hb20 fun m23 hm23 hb20=>yae (yak 2 [] [19] [(20,.agg [pI m23.Kind,pI m23.Digits,pL eS m23.Except,pI m23.Tolerance,pI m23.Limit,pS m23.Name,pL Zd.enc m23.Args])] (xhy 0 Zd.enc (Zd.enc_eq _) hm23 fo0) (by kernel_rfl) (yat rfl rfl rfl (ybg (cs:=[pI 0,pI 0,pN,pI 0,pI 0,pS ByteArray.empty,pN]) rfl rfl rfl rfl (fun b24=>ybt rfl rfl (yar (vs:=[pI m23.Kind,pI m23.Digits,pL eS m23.Except,pI m23.Tolerance,pI m23.Limit,pS m23.Name,pL Zd.enc m23.Args]) rfl rfl rfl rfl rfl zuh (zl7) (yax (yab (yac hb20 fun x25 hx25 hb20=>yae (yak 3 [0] [22] [(21,pO a12 l11.length c13),(23,.agg [pI x25.Kind,pI x25.Digits,pL eS x25.Except,pI x25.Tolerance,pI x25.Limit,pS x25.Name,pL Zd.enc x25.Args])] (yew 2 (hrec hx25) fo0) (by kernel_rfl) ?_)))))))))))))
   refine yat rfl rfl rfl (yck (css:=List.map Zd.enc [x25]) rfl rfl rfl rfl rfl (by (simp only [List.map_cons,List.map_nil,Zd.enc_eq];(repeat (first | exact zin | apply zic rfl)))) rfl (by (simp only [List.map_cons,List.map_nil,Zd.enc_eq];rfl)) rfl rfl (fun b26=>?_))
   refine yac hb20 fun l28 hl28 hb20=>?_
   refine yat rfl rfl rfl (ycg (enc:=Zd.enc) rfl rfl rfl rfl rfl rfl rfl rfl rfl zm0 (by exact zpt (zpt (zpt (zpt zph)))) hl28 (fun a29 c30=>?_))
   refine yap [] [] [(3,pO a29 l28.length c30)] fo0 (by kernel_rfl) (yal (yab (yad [] [26] [(17,pI (IntKind.i64.wrap (v14+1)))] fo0 (by kernel_rfl) ?_)))
   exact ybk hb20 (a29,c30) (zh6 rfl rfl rfl rfl rfl rfl) (zsc (zpt (zpt (zpt zph))) (zsc (zpt (zpt (zpt zph))) (zsc zph (zsc (zpt (zpt zph)) zsn))))
  refine yba ?_
  refine yao (yam hb20 (fun ht=>yan rfl ?_))
  exact yaz ((a12,c13),l11) (zh3 rfl rfl rfl) (zs4) ht.symm
 rintro ⟨⟨a16,c17⟩,l18⟩ τ hz;(try dsimp only at hz);subst q21;(try dsimp only at h);dsimp only [pupds]
 refine yaa (yae (yak 2 [] [] [(27,pO a16 l18.length c17),(28,pP b1 6)] fo0 (by kernel_rfl) (ybt rfl rfl (yar (vs:=[pO a16 l18.length c17]) rfl rfl rfl rfl rfl zuh (zlt (zlt (zlt (zlt (zlt (zlt (zl1))))))) (yax (yab (yaa (yae ?_))))))))
 refine ypc (css:=List.map eS x3) (a:=a4) (by exact zpt (zpt (zpt zph))) ?_
 refine ylj (k:=2) (enc:=eS) (xs:=x3) (b:=b1) (a:=a4) rfl zm0 (zut zuh) ?_
 refine ypc (css:=List.map Zd.enc l18) (a:=a16) (by exact zpt (zpt (zpt zph))) ?_
 refine ylj (k:=6) (enc:=Zd.enc) (xs:=l18) (b:=b1) (a:=a16) rfl zm0 (zut (zut zuh)) (yak 1 [2] [] [(29,.agg [pI p0.Kind,pI p0.Digits,pL eS x3,pI p0.Tolerance,pI p0.Limit,pS p0.Name,pL Zd.enc l18])] fo0 (by kernel_rfl) (ybt rfl rfl (yar (vs:=[pI p0.Kind,pI p0.Digits,pL eS x3,pI p0.Tolerance,pI p0.Limit,pS p0.Name,pL Zd.enc l18]) rfl rfl rfl rfl rfl (zut (zut (zut zuh))) (zl7) (yax (yab (yai ?_))))))
 obtain rfl:=osi h
 exact ybh (ygl (yjs rfl zm3 rfl)) zsn ⟨rfl,rfl⟩
def yfc (n:Nat):Zd→Option Zd:=Nat.rec (motive:=fun _=>Zd→Option Zd) (fun _=>none) (fun _ ih=>ydt ih) n
def yht (p0:Zd):Option Zd:=yfc FUEL p0
theorem ynb (n:Nat):∀ {p0:Zd} {r:Zd},yfc n p0=some r→PF 80 [.agg [pI p0.Kind,pI p0.Digits,pL eS p0.Except,pI p0.Tolerance,pI p0.Limit,pS p0.Name,pL Zd.enc p0.Args]] (.agg [pI r.Kind,pI r.Digits,pL eS r.Except,pI r.Tolerance,pI r.Limit,pS r.Name,pL Zd.enc r.Args]):=by
 induction n with
 | zero=>intros;rename_i h;exact nomatch h
 | succ n ih=>intros;rename_i h;exact ymq (fun hr=>ih hr) h
theorem yoc {p0:Zd} {r:Zd} (h:yht p0=some r):PF 80 [.agg [pI p0.Kind,pI p0.Digits,pL eS p0.Except,pI p0.Tolerance,pI p0.Limit,pS p0.Name,pL Zd.enc p0.Args]] (.agg [pI r.Kind,pI r.Digits,pL eS r.Except,pI r.Tolerance,pI r.Limit,pS r.Name,pL Zd.enc r.Args]):=ynb FUEL h
def ybr (p0:(List Zb)) (p1:Int) (p2:(Zb→Int→Option Int)):Option (Int×Bool):=Option.bind (loopF (S:=Int×Int) (T:=(Int×Int)) (fun (v1,v2)=>cond (decide (v1<v2)) (lb ((IntKind.i64.wrap (ishr .u64 (IntKind.u64.wrap (IntKind.i64.wrap (v1+v2))) 1))) (fun w8=>Option.bind (idx p0 w8) (fun m9=>Option.bind (p2 m9 p1) (fun x10=>cond (decide (x10<0)) (some (.inl ((IntKind.i64.wrap (w8+1)),v2))) (some (.inl (v1,w8))))))) (some (.inr (p1,v1)))) FUEL (0,(p0.length:Int))) (fun (v3,v4)=>Option.bind (gd (decide (v4<(p0.length:Int))) (idx p0 v4)) (fun m12=>Option.bind (gd (decide (v4<(p0.length:Int))) (p2 m12 v3)) (fun x13=>some (v4,((decide (v4<(p0.length:Int)))&&(x13 == 0))))))
theorem yeo {p0:(List Zb)} {p1:Int} {p2:(Zb→Int→Option Int)} {r:(Int×Bool)} {g2:PV} (hg2:∀ {y0:Zb} {y1:Int} {w:Int},p2 y0 y1=some w→PFV g2 [.agg [pI y0.ID,pS y0.Code,pS y0.Country,pI y0.Price,pB y0.Obtained,pL eS y0.Processes,pL Zf.enc y0.Inputs],pI y1] (pI w)) (h:ybr p0 p1 p2=some r):PF 154 [pL Zb.enc p0,pI p1,g2] (.tup [pI r.1,pB r.2]):=by
 unfold ybr at h
 refine ycf ?_
 refine ybd Tryz.func154 fk154 rfl Tryz.ntmps154 Tryz.results154 rfl (yaa (yad [] [6,7] [] fo0 (by kernel_rfl) (yab (yaa (yad [] [12,13] [(8,pI (p0.length:Int))] fo0 (by kernel_rfl) (yab (yaa (yad [] [14] [(9,pI 0),(10,pI (p0.length:Int))] fo0 (by kernel_rfl) (yab (yaa (yac h fun q6 hq6 h=>?_)))))))))))
 refine yas (Y:=(Unit)×(Int×Int)) (fun (_,(v3,v4))=>[(0,pL Zb.enc p0),(1,pI v3),(2,g2),(8,pI (p0.length:Int)),(9,pI v4)]) (fun (_,(v3,v4))=>[]) (fun (_,(v3,v4))=>q6=(v3,v4)) ?_ ?_
 ·refine yaj ?_
  refine yaw (Y:=Unit) (S:=Int×Int) _ hq6 (fun _ (v1,v2)=>[(0,pL Zb.enc p0),(1,pI p1),(2,g2),(8,pI (p0.length:Int)),(9,pI v1),(10,pI v2)]) (fun _ (v1,v2)=>[]) () (zh6 rfl rfl rfl rfl rfl rfl) zsn ?_
  rintro _ ⟨v1,v2⟩ o τ hb5;(try dsimp only at hb5);dsimp only [pupds]
  refine yaa (yaa (yad [] [15,16] [(17,pB (decide (v1<v2)))] fo0 (by kernel_rfl) (yab (zif rfl hb5 (fun hc7 hb5=>?_) fun hc7 hb5=>?_))))
  ·refine yag ?_
   refine yab (yaj (yaa ?_))
   refine yhc hb5 ?_;clear hb5;intro w8 hw8 hb5
   refine yae (yak 6 [] (rg 18 5) [(23,pI (IntKind.i64.wrap (ishr .u64 (IntKind.u64.wrap (IntKind.i64.wrap (v1+v2))) 1)))] fo0 (by kernel_rfl) (ycv rfl rfl rfl (ycq rfl (.p (congrArg (fun z=>PV.v (Value.int .i64 z)) hw8))) (yax (yab (yaa (yac hb5 fun m9 hm9 hb5=>yac hb5 fun x10 hx10 hb5=>yad [] (rg 24 7) [(31,pB (decide (x10<0)))] (yjt 3 Zb.enc hm9 (focv 6 (hg2 hx10) fo0)) (by kernel_rfl) (yab (zif rfl hb5 (fun hc11 hb5=>?_) fun hc11 hb5=>?_))))))))
   ·refine yad [] [32,33] [(9,pI (IntKind.i64.wrap (w8+1)))] fo0 (by kernel_rfl) ?_
    refine yal ?_
    exact ybk hb5 () (zh6 rfl rfl rfl rfl rfl rfl) zsn
   refine yad [] [34] [(10,pI w8)] fo0 (by kernel_rfl) ?_
   refine yal ?_
   exact ybk hb5 () (zh6 rfl rfl rfl rfl rfl rfl) zsn
  refine yba ?_
  refine yao (yam hb5 (fun ht=>yan rfl ?_))
  exact yaz ((),(p1,v1)) (zh5 rfl rfl rfl rfl rfl) zsn ht.symm
 rintro ⟨_,⟨v3,v4⟩⟩ τ hz;(try dsimp only at hz);subst q6;(try dsimp only at h);dsimp only [pupds]
 refine yaa (yac h fun m12 hm12 h=>yac h fun x13 hx13 h=>yad [] (rg 35 14) [(6,pI v4),(7,pB ((decide (v4<(p0.length:Int)))&&(x13 == 0)))] (yst 8 Zb.enc (ymd hm12) (focvg 11 (fun hc=>hg2 (ymd hx13 hc)) fo0)) (by kernel_rfl) (yab (yai ?_)))
 obtain rfl:=osi h
 exact ybh (yid (ybm rfl) (ybm rfl)) zsn ⟨rfl,rfl⟩
def yiu (p0:Int):Option Bool:=some (p0 != p0)
theorem yom {p0:Int} {r:Bool}  (h:yiu p0=some r):PF 153 [pI p0] (pB r):=by
 unfold yiu at h
 refine ycf ?_
 refine ybd Tryz.func153 fk153 rfl Tryz.ntmps153 Tryz.results153 rfl (yaa (yad [] [2] [] fo0 (by kernel_rfl) (yab (yaa (yad [] [3,4,5] [(2,pB (p0 != p0))] fo0 (by kernel_rfl) (yab (yai ?_)))))))
 obtain rfl:=osi h
 exact zq rfl ⟨rfl,rfl⟩
def yey (p0:Int) (p1:Int):Option Int:=Option.bind (yiu p0) (fun x1=>Option.bind (yiu p1) (fun x2=>cond x1 (cond x2 (some (0:Int)) (some (-1))) (cond x2 (some (1:Int)) (cond (decide (p0<p1)) (some (-1)) (cond (decide (p1<p0)) (some (1:Int)) (some (0:Int)))))))
theorem yiv {p0:Int} {p1:Int} {r:Int}  (h:yey p0 p1=some r):PF 115 [pI p0,pI p1] (pI r):=by
 unfold yey at h
 refine ycf ?_
 refine ybd Tryz.func115 fk115 rfl Tryz.ntmps115 Tryz.results115 rfl (yaa (yad [] [4] [] fo0 (by kernel_rfl) (yab (yaa (yac h fun x1 hx1 h=>yad [] [7,8] [(5,pB x1)] (yew 1 (yom hx1) fo0) (by kernel_rfl) (yab (yaa (yac h fun x2 hx2 h=>yad [] [9,10] [(6,pB x2)] (yew 1 (yom hx2) fo0) (by kernel_rfl) (yab (yaa (yaa (yad [] [] [(11,pB x1)] fo0 (by kernel_rfl) (yab (zif rfl h (fun hc3 h=>?_) fun hc3 h=>?_))))))))))))))
 ·refine yaa ?_
  refine yaa (yad [] [] [(12,pB x2)] fo0 (by kernel_rfl) (yab (zif rfl h (fun hc4 h=>?_) fun hc4 h=>?_)))
  ·refine yaa ?_
   refine yad [] [] [(4,pI 0)] fo0 (by kernel_rfl) (yab (yai (yah (yah ?_))))
   obtain rfl:=osi h
   exact zq rfl ⟨rfl,rfl⟩
  refine yag ?_
  refine yab (yaa (yad [] [] [(4,pI (-1))] fo0 (by kernel_rfl) (yab (yai (yah ?_)))))
  obtain rfl:=osi h
  exact zq rfl ⟨rfl,rfl⟩
 refine yag ?_
 refine yab (yaa (yaa (yad [] [] [(13,pB x2)] fo0 (by kernel_rfl) (yab (zif rfl h (fun hc5 h=>?_) fun hc5 h=>?_)))))
 ·refine yaa ?_
  refine yad [] [] [(4,pI 1)] fo0 (by kernel_rfl) (yab (yai (yah ?_)))
  obtain rfl:=osi h
  exact zq rfl ⟨rfl,rfl⟩
 refine yag ?_
 refine yab (yaa (yaa (yad [] [14,15] [(16,pB (decide (p0<p1)))] fo0 (by kernel_rfl) (yab (zif rfl h (fun hc6 h=>?_) fun hc6 h=>?_)))))
 ·refine yaa ?_
  refine yad [] [] [(4,pI (-1))] fo0 (by kernel_rfl) (yab (yai (yah ?_)))
  obtain rfl:=osi h
  exact zq rfl ⟨rfl,rfl⟩
 refine yag ?_
 refine yab (yaa (yaa (yad [] [17,18] [(19,pB (decide (p1<p0)))] fo0 (by kernel_rfl) (yab (zif rfl h (fun hc7 h=>?_) fun hc7 h=>?_)))))
 ·refine yaa ?_
  refine yad [] [] [(4,pI 1)] fo0 (by kernel_rfl) (yab (yai (yah ?_)))
  obtain rfl:=osi h
  exact zq rfl ⟨rfl,rfl⟩
 refine yag ?_
 refine yab (yaa (yad [] [] [(4,pI 0)] fo0 (by kernel_rfl) (yab (yai ?_))))
 obtain rfl:=osi h
 exact zq rfl ⟨rfl,rfl⟩
def ydx (p0:Zb) (p1:Int):Option Int:=Option.bind (yey p0.ID p1) (fun x2=>some x2)
theorem yoo {p0:Zb} {p1:Int} {r:Int}  (h:ydx p0 p1=some r):PF 155 [.agg [pI p0.ID,pS p0.Code,pS p0.Country,pI p0.Price,pB p0.Obtained,pL eS p0.Processes,pL Zf.enc p0.Inputs],pI p1] (pI r):=by
 unfold ydx at h
 refine ycf ?_
 refine ybd Tryz.func155 fk155 rfl Tryz.ntmps155 Tryz.results155 rfl (yaa (yae (yat rfl rfl rfl (ycp (cs:=[pI p0.ID,pS p0.Code,pS p0.Country,pI p0.Price,pB p0.Obtained,pL eS p0.Processes,pL Zf.enc p0.Inputs]) rfl rfl (fun b1=>yap [] [4] [] fo0 (by kernel_rfl) (yab (yaa (yac h fun x2 hx2 h=>yad [0] [5,6,7,8] [(4,pI x2)] (yew 3 (yiv hx2) fo0) (by kernel_rfl) (yab (yai ?_))))))))))
 obtain rfl:=osi h
 exact zq rfl ⟨rfl,rfl⟩
def ygc (p0:(List Zb)) (p1:Int):Option (Int×Bool):=Option.bind (ybr p0 p1 (fun y1 y2=>ydx y1 y2)) (fun x3=>some (x3.1,x3.2))
theorem yqm {p0:(List Zb)} {p1:Int} {r:(Int×Bool)}  (h:ygc p0 p1=some r):PF 116 [pL Zb.enc p0,pI p1] (.tup [pI r.1,pB r.2]):=by
 unfold ygc at h
 refine ycf ?_
 refine ybd Tryz.func116 fk116 rfl Tryz.ntmps116 Tryz.results116 rfl (yaa (yad [] [4,5] [] fo0 (by kernel_rfl) (yab (yaa (yac h fun x3 hx3 h=>yad [] (rg 6 5) [(4,pI x3.1),(5,pB x3.2)] (yew 2 (yeo (fun hr=>yuu (yoo hr)) hx3) fo0) (by kernel_rfl) (yab (yai ?_)))))))
 obtain rfl:=osi h
 exact ybh (yid (ybm rfl) (ybm rfl)) zsn ⟨rfl,rfl⟩
def ycb (p0:(List Zf)):Option (List Zf):=app 16 ([]:List Zf) p0
theorem ygd {p0:(List Zf)} {r:(List Zf)} (h:ycb p0=some r):PCall 118 [pL Zf.enc p0] [] (fun pv ρ'=>∃ a c,pv=.v (.slice a r.length c)∧ρ'=[PRes.row a r.length c 90 2 (List.map Zf.enc r)]):=by
 unfold ycb at h
 refine ybd Tryz.func118 fk118 rfl Tryz.ntmps118 Tryz.results118 rfl ?_
 (repeat refine yaa ?_)
 refine yae (ycv rfl rfl rfl (ycq (p:=.v (.slice none 0 0)) rfl (.p rfl)) (yax (yab ?_)))
 (repeat refine yaa ?_)
 refine yae (ycv rfl rfl rfl (yie (p:=pL Zf.enc p0) rfl (.p rfl)) (xbk rfl rfl rfl rfl rfl rfl (fun b hb=>yax (yab ?_))))
 refine yin rfl (fun hc=>?_) (fun hc=>?_)
 ·have e0:p0=[]:=List.map_eq_nil_iff.1 (hb hc)
  subst e0;obtain ⟨rfl,_⟩:=yty h
  (repeat refine yaa ?_)
  refine yae (ycv rfl rfl rfl (ycq (p:=.v (.slice none 0 0)) rfl (.p rfl)) (yax (yab (ych 90 2 (yai (yah ?_))))))
  exact ybh (ygl (ybm rfl)) (zs1) ⟨_,_,rfl,rfl⟩
 refine yag ?_
 refine yab ?_
 (repeat refine yaa ?_)
 refine yae (yat rfl rfl rfl (yck rfl rfl rfl rfl rfl zin rfl rfl rfl rfl (fun b1=>ycv rfl rfl rfl (yie (p:=pL Zf.enc p0) rfl (.p rfl)) ?_)))
 refine yat rfl rfl rfl (yrw (enc:=Zf.enc) (xs:=([]:List Zf)) rfl rfl rfl rfl rfl (fun _=>rfl) rfl rfl rfl (by exact zph) h (fun a c=>?_))
 refine ycv rfl rfl rfl (ycq (p:=.v (.slice a r.length c)) rfl (.p rfl)) (yax (yab (yai ?_)))
 exact ybh (ygl (ybm rfl)) (zs1) ⟨_,_,rfl,rfl⟩
def ydc (p0:(List Zb)) (p1:Int):Option (Zb×Bool):=Option.bind (ygc p0 p1) (fun x2=>cond (!x2.2) (some ((⟨0,ByteArray.empty,ByteArray.empty,0,false,[],[]⟩:Zb),false)) (Option.bind (idx p0 x2.1) (fun m4=>Option.bind (yca m4.Processes) (fun x6=>Option.bind (ycb m4.Inputs) (fun x10=>some ((⟨m4.ID,m4.Code,m4.Country,m4.Price,m4.Obtained,x6,x10⟩:Zb),true))))))
theorem ygz {p0:(List Zb)} {p1:Int} {r:(Zb×Bool)}  (h:ydc p0 p1=some r):PF 75 [pL Zb.enc p0,pI p1] (.tup [.agg [pI r.1.ID,pS r.1.Code,pS r.1.Country,pI r.1.Price,pB r.1.Obtained,pL eS r.1.Processes,pL Zf.enc r.1.Inputs],pB r.2]):=by
 unfold ydc at h
 refine ycf ?_
 refine ybd Tryz.func75 fk75 rfl Tryz.ntmps75 Tryz.results75 rfl (yaa (yae (yat rfl rfl rfl (ybg (cs:=[pI 0,pS ByteArray.empty,pS ByteArray.empty,pI 0,pB false,pN,pN]) rfl rfl rfl rfl (fun b1=>yap [] [5] [] fo0 (by kernel_rfl) (yab (yaa (yac h fun x2 hx2 h=>yad [] [10,11,12,9,13,14] [(6,pI x2.1),(7,pB x2.2)] (yew 2 (yqm hx2) fo0) (by kernel_rfl) (yab (yaa (yaa (yad [] [15] [(16,pB (!x2.2))] fo0 (by kernel_rfl) (yab (zif rfl h (fun hc3 h=>?_) fun hc3 h=>?_))))))))))))))
 ·refine yaa ?_
  refine yae (yak 1 [] [] [(17,.agg [pI 0,pS ByteArray.empty,pS ByteArray.empty,pI 0,pB false,pN,pN])] fo0 (by kernel_rfl) (ybt rfl rfl (yar (vs:=[pI 0,pS ByteArray.empty,pS ByteArray.empty,pI 0,pB false,pN,pN]) rfl rfl rfl rfl rfl zuh (zl7) (yap [] [] [(5,pB false)] fo0 (by kernel_rfl) (yab (ygp (k:=5) (b:=b1) rfl zuh (ygp (k:=6) (b:=b1) rfl zuh (yai (yah ?_)))))))))
  obtain rfl:=osi h
  exact ybh (yid (yjs rfl zm0 rfl) (ybm rfl)) zsn ⟨rfl,rfl⟩
 refine yag ?_
 refine yab (yaa (yac h fun m4 hm4 h=>yae (yak 4 [] [18,19,20] [(21,.agg [pI m4.ID,pS m4.Code,pS m4.Country,pI m4.Price,pB m4.Obtained,pL eS m4.Processes,pL Zf.enc m4.Inputs])] (yjt 2 Zb.enc hm4 fo0) (by kernel_rfl) (yat rfl rfl rfl (ybg (cs:=[pI 0,pS ByteArray.empty,pS ByteArray.empty,pI 0,pB false,pN,pN]) rfl rfl rfl rfl (fun b5=>ybt rfl rfl (yar (vs:=[pI m4.ID,pS m4.Code,pS m4.Country,pI m4.Price,pB m4.Obtained,pL eS m4.Processes,pL Zf.enc m4.Inputs]) rfl rfl rfl rfl rfl zuh (zl7) (yax (yab (yaa (yac h fun x6 hx6 h=>yae (yak 2 [0] [22] [(23,pL eS m4.Processes)] fo0 (by kernel_rfl) ?_))))))))))))
 refine yat rfl rfl rfl (ybj rfl rfl (ρ1:=[]) (List.Perm.refl _) (yek hx6) ?_);rintro _ _ ⟨a7,c8,rfl,rfl⟩
 refine yak 1 [] [] [(25,pP b5 5)] fo0 (by kernel_rfl) (ybt rfl rfl (yar (vs:=[pO a7 x6.length c8]) rfl rfl rfl rfl rfl (zut zuh) (zlt (zlt (zlt (zlt (zlt (zl1)))))) (yax (yab (yaa (yac h fun x10 hx10 h=>yae (yak 2 [1] [26] [(27,pL Zf.enc m4.Inputs)] fo0 (by kernel_rfl) ?_)))))))
 refine yat rfl rfl rfl (ybj rfl rfl (ρ1:=[]) (List.Perm.refl _) (ygd hx10) ?_);rintro _ _ ⟨a11,c12,rfl,rfl⟩
 refine yak 1 [] [] [(29,pP b5 6)] fo0 (by kernel_rfl) (ybt rfl rfl (yar (vs:=[pO a11 x10.length c12]) rfl rfl rfl rfl rfl (zut (zut zuh)) (zlt (zlt (zlt (zlt (zlt (zlt (zl1))))))) (yax (yab (yaa (yae ?_))))))
 refine ypc (css:=List.map eS x6) (a:=a7) (by exact zpt zph) ?_
 refine ylj (k:=5) (enc:=eS) (xs:=x6) (b:=b5) (a:=a7) rfl zm0 (zut (zut zuh)) ?_
 refine ypc (css:=List.map Zf.enc x10) (a:=a11) (by exact zpt zph) ?_
 refine ylj (k:=6) (enc:=Zf.enc) (xs:=x10) (b:=b5) (a:=a11) rfl zm0 (zut (zut zuh)) (yak 1 [2] [] [(30,.agg [pI m4.ID,pS m4.Code,pS m4.Country,pI m4.Price,pB m4.Obtained,pL eS x6,pL Zf.enc x10])] fo0 (by kernel_rfl) (ybt rfl rfl (yar (vs:=[pI m4.ID,pS m4.Code,pS m4.Country,pI m4.Price,pB m4.Obtained,pL eS x6,pL Zf.enc x10]) rfl rfl rfl rfl rfl (zut (zut (zut zuh))) (zl7) (yap [] [] [(5,pB true)] fo0 (by kernel_rfl) (yab (yai ?_))))))
 obtain rfl:=osi h
 exact ybh (yid (yjs rfl zm3 rfl) (ybm rfl)) zsn ⟨rfl,rfl⟩
def ybo (p0:(List Zc)) (p1:(Zc→Option Bool)):Option Int:=Option.bind (loopF (S:=Int) (T:=(Unit)⊕(_)) (fun v1=>cond (decide (v1<(p0.length:Int))) (Option.bind (idx p0 v1) (fun m5=>Option.bind (p1 m5) (fun x6=>cond x6 (some (.inr (.inr v1))) (some (.inl (IntKind.i64.wrap (v1+1))))))) (some (.inr (.inl ())))) FUEL 0) (fun q=>match q with | .inl _=>some (-1) | .inr e=>some e)
theorem yft {p0:(List Zc)} {p1:(Zc→Option Bool)} {r:Int} {g1:PV} (hg1:∀ {y0:Zc} {w:Bool},p1 y0=some w→PFV g1 [.agg [pI y0.ID,pI y0.Kind,pL eS y0.Parties,pL Zi.enc y0.Rules]] (pB w)) (h:ybo p0 p1=some r):PF 119 [pL Zc.enc p0,g1] (pI r):=by
 unfold ybo at h
 refine ycf ?_
 refine ybd Tryz.func119 fk119 rfl Tryz.ntmps119 Tryz.results119 rfl (yaa (yad [] [4] [] fo0 (by kernel_rfl) (yab (yaa (yaa (yad [] [6] [(7,pI (p0.length:Int)),(8,pI 0)] fo0 (by kernel_rfl) (yab (yac h fun q3 hq3 h=>?_))))))))
 refine yas (Y:=(Unit)×(Unit)) (fun (_,_)=>[]) (fun (_,_)=>[]) (fun (_,_)=>q3=Sum.inl ()) ?_ ?_
 ·refine yaj ?_
  refine yaw (Y:=Unit) (S:=Int) _ hq3 (fun _ v1=>[(0,pL Zc.enc p0),(1,g1),(7,pI (p0.length:Int)),(8,pI v1)]) (fun _ v1=>[]) () (zh4 rfl rfl rfl rfl) zsn ?_
  rintro _ v1 o τ hb2;(try dsimp only at hb2);dsimp only [pupds]
  refine yaa (yad [] [] [(9,pB (decide (v1<(p0.length:Int))))] fo0 (by kernel_rfl) (yab (yaa (zif rfl hb2 (fun hc4 hb2=>?_) fun hc4 hb2=>?_))))
  ·refine yag ?_
   refine yab (yaa (yaj (yaa (yad [] [10] [(5,pI v1)] fo0 (by kernel_rfl) (yab (yaa (yac hb2 fun m5 hm5 hb2=>yac hb2 fun x6 hx6 hb2=>yad [] (rg 11 5) [(16,pB x6)] (yjt 3 Zc.enc hm5 (focv 5 (hg1 hx6) fo0)) (by kernel_rfl) (yab (zif rfl hb2 (fun hc7 hb2=>?_) fun hc7 hb2=>?_)))))))))
   ·refine yaa ?_
    refine yad [] [17] [(4,pI v1)] fo0 (by kernel_rfl) (yab (yai (yaf (yah ?_))))
    refine ybb hb2 (fun ht=>?_);subst ht
    refine yaf (ybc ?_)
    obtain rfl:=osi h
    exact zq rfl ⟨rfl,rfl⟩
   refine yag ?_
   refine yal (yab (yad [] [18] [(8,pI (IntKind.i64.wrap (v1+1)))] fo0 (by kernel_rfl) ?_))
   exact ybk hb2 () (zh4 rfl rfl rfl rfl) zsn
  refine yba ?_
  refine yao (yam hb2 (fun ht=>yan rfl ?_))
  exact yaz ((),()) zhn zsn ht.symm
 rintro ⟨_,_⟩ τ hz;(try dsimp only at hz);subst q3;(try dsimp only at h);dsimp only [pupds]
 refine yaa (yad [] [] [(4,pI (-1))] fo0 (by kernel_rfl) (yab (yai ?_)))
 obtain rfl:=osi h
 exact zq rfl ⟨rfl,rfl⟩
def yge (p0:Zc) (p1:Int):Option Bool:=some (p0.ID == p1)
theorem yqn {p0:Zc} {p1:Int} {r:Bool}  (h:yge p0 p1=some r):PF 120 [.agg [pI p0.ID,pI p0.Kind,pL eS p0.Parties,pL Zi.enc p0.Rules],.ref [pI p1] 0] (pB r):=by
 unfold yge at h
 refine ycf ?_
 refine ybd Tryz.func120 fk120 rfl Tryz.ntmps120 Tryz.results120 rfl (yaa (yae (yat rfl rfl rfl (ycp (cs:=[pI p0.ID,pI p0.Kind,pL eS p0.Parties,pL Zi.enc p0.Rules]) rfl rfl (fun b1=>yap [] [3] [] fo0 (by kernel_rfl) (yab (yaa (yad [0] [4,5,6,7] [(3,pB (p0.ID == p1))] fo0 (by kernel_rfl) (yab (yai ?_))))))))))
 obtain rfl:=osi h
 exact zq rfl ⟨rfl,rfl⟩
def yeg (p0:(List Zc)) (p1:Int):Option (Zc×Bool):=Option.bind (ybo p0 (fun y3=>yge y3 p1)) (fun x4=>cond (decide (x4<0)) (some ((⟨0,0,[],[]⟩:Zc),false)) (Option.bind (idx p0 x4) (fun m6=>some (m6,true))))
theorem yiw {p0:(List Zc)} {p1:Int} {r:(Zc×Bool)}  (h:yeg p0 p1=some r):PF 76 [pL Zc.enc p0,pI p1] (.tup [.agg [pI r.1.ID,pI r.1.Kind,pL eS r.1.Parties,pL Zi.enc r.1.Rules],pB r.2]):=by
 unfold yeg at h
 refine ycf ?_
 refine ybd Tryz.func76 fk76 rfl Tryz.ntmps76 Tryz.results76 rfl (yaa (yae (yat rfl rfl rfl (ycp (cs:=[pI p1]) rfl rfl (fun b1=>yat rfl rfl rfl (ybg (cs:=[pI 0,pI 0,pN,pN]) rfl rfl rfl rfl (fun b2=>yap [] [5] [] fo0 (by kernel_rfl) (yab (yaa (yae (yak 1 [] [] [(7,pL Zc.enc p0)] fo0 (by kernel_rfl) ?_)))))))))))
 refine yrg 3 rfl (by exact zpt zph) ?_
 refine yac h fun x4 hx4 h=>yap [] [8,9] [(6,pI x4)] (yew 1 (yft (fun hr=>yuu (yqn hr)) hx4) fo0) (by kernel_rfl) (yab (yaa (yaa (yad [] [10] [(11,pB (decide (x4<0)))] fo0 (by kernel_rfl) (yab (zif rfl h (fun hc5 h=>?_) fun hc5 h=>?_))))))
 ·refine yaa ?_
  refine yae (yak 1 [] [] [(12,.agg [pI 0,pI 0,pN,pN])] fo0 (by kernel_rfl) (ybt rfl rfl (yar (vs:=[pI 0,pI 0,pN,pN]) rfl rfl rfl rfl rfl (zut zuh) (zl4) (yap [] [] [(5,pB false)] fo0 (by kernel_rfl) (yab (ygp (k:=2) (b:=b2) rfl (zut zuh) (ygp (k:=3) (b:=b2) rfl (zut zuh) (yai (yah ?_)))))))))
  obtain rfl:=osi h
  exact ybh (yid (yjs rfl zm1 rfl) (ybm rfl)) zsn ⟨rfl,rfl⟩
 refine yag ?_
 refine yab (yaa (yac h fun m6 hm6 h=>yae (yak 4 [] [13,14,15] [(16,.agg [pI m6.ID,pI m6.Kind,pL eS m6.Parties,pL Zi.enc m6.Rules])] (yjt 2 Zc.enc hm6 fo0) (by kernel_rfl) (ybt rfl rfl (yar (vs:=[pI m6.ID,pI m6.Kind,pL eS m6.Parties,pL Zi.enc m6.Rules]) rfl rfl rfl rfl rfl (zut zuh) (zl4) (yap [] [] [(5,pB true)] fo0 (by kernel_rfl) (yab (yai ?_))))))))
 obtain rfl:=osi h
 exact ybh (yid (yjs rfl zm1 rfl) (ybm rfl)) zsn ⟨rfl,rfl⟩
def ycy (p0:(List ByteArray)) (p1:ByteArray):Option Int:=Option.bind (loopF (S:=Int) (T:=(Unit)⊕(_)) (fun v1=>cond (decide (v1<(p0.length:Int))) (Option.bind (idx p0 v1) (fun m5=>cond (decide (p1=m5)) (some (.inr (.inr v1))) (some (.inl (IntKind.i64.wrap (v1+1)))))) (some (.inr (.inl ())))) FUEL 0) (fun q=>match q with | .inl _=>some (-1) | .inr e=>some e)
theorem ykk {p0:(List ByteArray)} {p1:ByteArray} {r:Int}  (h:ycy p0 p1=some r):PF 156 [pL eS p0,pS p1] (pI r):=by
 unfold ycy at h
 refine ycf ?_
 refine ybd Tryz.func156 fk156 rfl Tryz.ntmps156 Tryz.results156 rfl (yaa (yad [] [4] [] fo0 (by kernel_rfl) (yab (yaa (yaa (yad [] [6] [(7,pI (p0.length:Int)),(8,pI 0)] fo0 (by kernel_rfl) (yab (yac h fun q3 hq3 h=>?_))))))))
 refine yas (Y:=(Unit)×(Unit)) (fun (_,_)=>[]) (fun (_,_)=>[]) (fun (_,_)=>q3=Sum.inl ()) ?_ ?_
 ·refine yaj ?_
  refine yaw (Y:=Unit) (S:=Int) _ hq3 (fun _ v1=>[(0,pL eS p0),(1,pS p1),(7,pI (p0.length:Int)),(8,pI v1)]) (fun _ v1=>[]) () (zh4 rfl rfl rfl rfl) zsn ?_
  rintro _ v1 o τ hb2;(try dsimp only at hb2);dsimp only [pupds]
  refine yaa (yad [] [] [(9,pB (decide (v1<(p0.length:Int))))] fo0 (by kernel_rfl) (yab (yaa (zif rfl hb2 (fun hc4 hb2=>?_) fun hc4 hb2=>?_))))
  ·refine yag ?_
   refine yab (yaa (yaj (yaa (yad [] [10] [(5,pI v1)] fo0 (by kernel_rfl) (yab (yaa (yac hb2 fun m5 hm5 hb2=>yad [] (rg 11 5) [(16,pB (decide (p1=m5)))] (yjt 3 eS hm5 fo0) (by kernel_rfl) (yab (zif rfl hb2 (fun hc6 hb2=>?_) fun hc6 hb2=>?_)))))))))
   ·refine yaa ?_
    refine yad [] [17] [(4,pI v1)] fo0 (by kernel_rfl) (yab (yai (yaf (yah ?_))))
    refine ybb hb2 (fun ht=>?_);subst ht
    refine yaf (ybc ?_)
    obtain rfl:=osi h
    exact zq rfl ⟨rfl,rfl⟩
   refine yag ?_
   refine yal (yab (yad [] [18] [(8,pI (IntKind.i64.wrap (v1+1)))] fo0 (by kernel_rfl) ?_))
   exact ybk hb2 () (zh4 rfl rfl rfl rfl) zsn
  refine yba ?_
  refine yao (yam hb2 (fun ht=>yan rfl ?_))
  exact yaz ((),()) zhn zsn ht.symm
 rintro ⟨_,_⟩ τ hz;(try dsimp only at hz);subst q3;(try dsimp only at h);dsimp only [pupds]
 refine yaa (yad [] [] [(4,pI (-1))] fo0 (by kernel_rfl) (yab (yai ?_)))
 obtain rfl:=osi h
 exact zq rfl ⟨rfl,rfl⟩
def ybu (p0:(List ByteArray)) (p1:ByteArray):Option Bool:=Option.bind (ycy p0 p1) (fun x1=>some (decide (0≤x1)))
theorem ycu {p0:(List ByteArray)} {p1:ByteArray} {r:Bool}  (h:ybu p0 p1=some r):PF 121 [pL eS p0,pS p1] (pB r):=by
 unfold ybu at h
 refine ycf ?_
 refine ybd Tryz.func121 fk121 rfl Tryz.ntmps121 Tryz.results121 rfl (yaa (yad [] [4] [] fo0 (by kernel_rfl) (yab (yaa (yac h fun x1 hx1 h=>yad [] [5,6,7,8] [(4,pB (decide (0≤x1)))] (yew 2 (ykk hx1) fo0) (by kernel_rfl) (yab (yai ?_)))))))
 obtain rfl:=osi h
 exact zq rfl ⟨rfl,rfl⟩
def ydf (p0:Zc) (p1:ByteArray) (p2:ByteArray):Option Bool:=Option.bind (ybu p0.Parties p1) (fun x2=>Option.bind (gd x2 (ybu p0.Parties p2)) (fun x3=>some (x2&&x3)))
theorem yij {p0:Zc} {p1:ByteArray} {p2:ByteArray} {r:Bool}  (h:ydf p0 p1 p2=some r):PF 77 [.agg [pI p0.ID,pI p0.Kind,pL eS p0.Parties,pL Zi.enc p0.Rules],pS p1,pS p2] (pB r):=by
 unfold ydf at h
 refine ycf ?_
 refine ybd Tryz.func77 fk77 rfl Tryz.ntmps77 Tryz.results77 rfl (yaa (yae (yat rfl rfl rfl (ycp (cs:=[pI p0.ID,pI p0.Kind,pL eS p0.Parties,pL Zi.enc p0.Rules]) rfl rfl (fun b1=>yap [] [6] [] fo0 (by kernel_rfl) (yab (yaa (yac h fun x2 hx2 h=>yac h fun x3 hx3 h=>yad [0,0] (rg 7 10) [(6,pB (x2&&x3))] (yew 3 (ycu hx2) (ykq 8 (fun hc=>ycu (ymd hx3 hc)) fo0)) (by kernel_rfl) (yab (yai ?_))))))))))
 obtain rfl:=osi h
 exact zq rfl ⟨rfl,rfl⟩
def ybn (p0:(List Za)):Option (List Za):=cond (decide (((p0.length:Nat):Int)<2)) (some p0) (Option.bind (loopF (S:=Int) (T:=(Unit)⊕(_)) (fun v2=>cond (decide (v2<((p0.length:Nat):Int))) (Option.bind (idx p0 v2) (fun m7=>Option.bind (idx p0 (IntKind.i64.wrap (v2 - 1))) (fun m8=>cond (Za.eqb m7 m8) (Option.bind (sub p0 v2 (p0.length:Int)) (fun l10=>Option.bind (loopF (S:=(List Za)×Int×Int) (T:=((List Za)×Int)) (fun (l12,v13,v14)=>cond (decide (v14<((p0.length - v2.toNat:Nat):Int))) (Option.bind (Option.bind (ge0 v14) (fun u25=>Option.bind (idx l12 (v2+v14)) (fun m26=>Option.bind (ge0 (IntKind.i64.wrap (v14 - 1))) (fun u27=>Option.bind (idx l12 (v2+(IntKind.i64.wrap (v14 - 1)))) (fun m28=>cond (!(Za.eqb m26 m28)) (Option.bind (ge0 v14) (fun u30=>Option.bind (idx l12 (v2+v14)) (fun m31=>Option.bind (idx l12 v13) (fun m32=>some ((l12.set v13.toNat m31),(IntKind.i64.wrap (v13+1))))))) (some (l12,v13))))))) (fun (l22,v23)=>some (.inl (l22,v23,(IntKind.i64.wrap (v14+1)))))) (some (.inr (l12,v13)))) FUEL (p0,v2,1)) (fun (l16,v17)=>Option.bind (sub l16 v17 (l16.length:Int)) (fun l34=>Option.bind (sub (List.take v17.toNat l16++List.replicate (p0.length - v17.toNat) (⟨(0:Int),(0:Int)⟩:Za)) 0 v17) (fun l35=>some (.inr (.inr l35))))))) (some (.inl (IntKind.i64.wrap (v2+1))))))) (some (.inr (.inl ())))) FUEL 1) (fun q=>match q with | .inl _=>some p0 | .inr e=>some e))
theorem yff {p0:(List Za)} {a_0:Option Addr}  {n_0:Nat}  {c_0:Nat} {r:(List Za)}  (h:ybn p0=some r):PCall 74 [.v (.slice a_0 n_0 c_0)] [PRes.row a_0 n_0 c_0 54 2 (List.map Za.enc p0)] (fun pv ρ'=>∃ a c,pv=.v (.slice a r.length c)∧ρ'=[PRes.row a r.length c 54 2 (List.map Za.enc r)]):=by
 unfold ybn at h
 refine ybd Tryz.func74 fk74 rfl Tryz.ntmps74 Tryz.results74 rfl ?_
 refine yll (enc:=Za.enc) (xs:=p0) (a:=a_0) zm0 (fun hl ha=>?_);subst hl;clear ha
 refine yaa (yad [] [2] [] fo0 (by kernel_rfl) (yab (yaa (yaa (yad [] [6,7] [(8,pB (decide (((p0.length:Nat):Int)<2)))] fo0 (by kernel_rfl) (yab (zif rfl h (fun hc1 h=>?_) fun hc1 h=>?_)))))))
 ·refine yaa ?_
  refine yad [] [9] [(2,pO a_0 p0.length c_0)] fo0 (by kernel_rfl) (yab (yai (yah ?_)))
  obtain rfl:=osi h
  exact ybh (ygl (ybm rfl)) (zs1) ⟨_,_,rfl,rfl⟩
 refine yag ?_
 refine yab (yaa (yaa (yad [] [] [(3,pI 1)] fo0 (by kernel_rfl) (yab (yac h fun q5 hq5 h=>?_)))))
 refine yas (Y:=(Unit)×(Unit)) (fun (_,_)=>[(0,pO a_0 p0.length c_0)]) (fun (_,_)=>[PRes.row a_0 p0.length c_0 54 2 (List.map Za.enc p0)]) (fun (_,_)=>q5=Sum.inl ()) ?_ ?_
 ·refine yaj ?_
  refine yaw (Y:=Unit) (S:=Int) _ hq5 (fun _ v2=>[(0,pO a_0 p0.length c_0),(3,pI v2)]) (fun _ v2=>[PRes.row a_0 p0.length c_0 54 2 (List.map Za.enc p0)]) () (zh2 rfl rfl) (zs1) ?_
  rintro _ v2 o τ hb4;(try dsimp only at hb4);dsimp only [pupds]
  refine yaa (yaa (yad [] [10,11,12] [(13,pB (decide (v2<((p0.length:Nat):Int))))] fo0 (by kernel_rfl) (yab (zif rfl hb4 (fun hc6 hb4=>?_) fun hc6 hb4=>?_))))
  ·refine yag ?_
   refine yab (yaa (yaj (yaa (ydq (ρd:=[]) [(0,0),(1,0),(2,0),(3,0),(4,0),(5,0),(6,0),(7,0),(8,0),(9,0)] _ (List.Perm.refl _) (by kernel_rfl) rfl (yac hb4 fun m7 hm7 hb4=>ycr 2 [] [] [(16,pO a_0 p0.length c_0),(17,pI v2)] fo0 (by kernel_rfl) (ypd rfl rfl rfl (yee (enc:=Za.enc) (xs:=p0) rfl rfl rfl (.p rfl) zm0 (.p rfl) (fun _=>hm7)) (ypd rfl rfl rfl (yda (sz:=2) (p:=.agg [pI m7.Product,pI m7.Agreement]) (enc:=Za.enc) (xs:=p0) (a:=a_0) v2 0 m7 rfl (.p rfl) rfl zm0 (fun _=>hm7) rfl) (yac hb4 fun m8 hm8 hb4=>ycr 3 [] [21] [(20,pO a_0 p0.length c_0),(22,pI (IntKind.i64.wrap (v2 - 1)))] fo0 (by kernel_rfl) (ypd rfl rfl rfl (yee (enc:=Za.enc) (xs:=p0) rfl rfl rfl (.p rfl) zm0 (.p rfl) (fun _=>hm8)) (ypd rfl rfl rfl (yda (sz:=2) (p:=.agg [pI m8.Product,pI m8.Agreement]) (enc:=Za.enc) (xs:=p0) (a:=a_0) (IntKind.i64.wrap (v2 - 1)) 0 m8 rfl (.p rfl) rfl zm0 (fun _=>hm8) rfl) (ycr 1 [] [] [(25,pB (Za.eqb m7 m8))] (foeq 0 Za.eqok54 fo0) (by kernel_rfl) (yfd (yab (zif rfl hb4 (fun hc9 hb4=>?_) fun hc9 hb4=>?_))))))))))))))
   ·refine yaa ?_
    refine yac hb4 fun l10 hl10 hb4=>yae (yak 2 [] [] [(26,pO a_0 p0.length c_0),(27,pI v2)] fo0 (by kernel_rfl) (ycv rfl rfl rfl (ymv (enc:=Za.enc) (xs:=p0) rfl rfl rfl rfl rfl zm0 hl10) (yap [] [] [(4,pQ a_0 p0.length c_0 v2.toNat 2)] fo0 (by kernel_rfl) (yab (yaa (yaa (yad [] [] [(5,pI 1)] fo0 (by kernel_rfl) (yab (yac hb4 fun q19 hq19 hb4=>?_)))))))))
    refine yas (Y:=(Unit)×((List Za)×Int)) (fun (_,(l16,v17))=>[(0,pO a_0 p0.length c_0),(3,pI v17)]) (fun (_,(l16,v17))=>[PRes.row a_0 p0.length c_0 54 2 (List.map Za.enc l16)]) (fun (_,(l16,v17))=>q19=(l16,v17)) ?_ ?_
    ·refine yaj ?_
     refine yaw (Y:=Unit) (S:=(List Za)×Int×Int) _ hq19 (fun _ (l12,v13,v14)=>[(0,pO a_0 p0.length c_0),(3,pI v13),(4,pQ a_0 p0.length c_0 v2.toNat 2),(5,pI v14)]) (fun _ (l12,v13,v14)=>[PRes.row a_0 p0.length c_0 54 2 (List.map Za.enc l12)]) () (zh4 rfl rfl rfl rfl) (zs1) ?_
     rintro _ ⟨l12,v13,v14⟩ o τ hb18;(try dsimp only at hb18);dsimp only [pupds]
     refine yaa (yaa (yad [] [29,30,31] [(32,pB (decide (v14<((p0.length - v2.toNat:Nat):Int))))] fo0 (by kernel_rfl) (yab (zif rfl hb18 (fun hc20 hb18=>?_) fun hc20 hb18=>?_))))
     ·refine yag ?_
      refine yab (yaa (yac hb18 fun q24 hq24 hb18=>?_))
      refine yas (Y:=(Unit)×((List Za)×Int)) (fun (_,(l22,v23))=>[(0,pO a_0 p0.length c_0),(3,pI v23),(4,pQ a_0 p0.length c_0 v2.toNat 2),(5,pI v14)]) (fun (_,(l22,v23))=>[PRes.row a_0 p0.length c_0 54 2 (List.map Za.enc l22)]) (fun (_,(l22,v23))=>q24=(l22,v23)) ?_ ?_
      ·skip
       refine yaj (yaa (ydq (ρd:=[]) [(0,0),(1,0),(2,0),(3,0),(4,0),(5,0),(6,0),(7,0),(8,0),(9,0)] _ (List.Perm.refl _) (by kernel_rfl) rfl (yac hq24 fun u25 hu25 hq24=>yac hq24 fun m26 hm26 hq24=>ycr 2 [] [] [(35,pQ a_0 p0.length c_0 v2.toNat 2),(36,pI v14)] fo0 (by kernel_rfl) (ypd rfl rfl rfl (yje (enc:=Za.enc) (xs:=l12) (i:=v2) rfl rfl rfl rfl rfl (yhl hl10).1.1 (yme hu25) zm0 hm26) (ypd rfl rfl rfl (yda (sz:=2) (p:=.agg [pI m26.Product,pI m26.Agreement]) (enc:=Za.enc) (xs:=l12) (a:=a_0) (v2+v14) 0 m26 rfl (.p rfl) rfl zm0 (fun _=>hm26) rfl) (yac hq24 fun u27 hu27 hq24=>yac hq24 fun m28 hm28 hq24=>ycr 3 [] [40] [(39,pQ a_0 p0.length c_0 v2.toNat 2),(41,pI (IntKind.i64.wrap (v14 - 1)))] fo0 (by kernel_rfl) (ypd rfl rfl rfl (yje (enc:=Za.enc) (xs:=l12) (i:=v2) rfl rfl rfl rfl rfl (yhl hl10).1.1 (yme hu27) zm0 hm28) (ypd rfl rfl rfl (yda (sz:=2) (p:=.agg [pI m28.Product,pI m28.Agreement]) (enc:=Za.enc) (xs:=l12) (a:=a_0) (v2+(IntKind.i64.wrap (v14 - 1))) 0 m28 rfl (.p rfl) rfl zm0 (fun _=>hm28) rfl) (ycr 1 [] [] [(44,pB (!(Za.eqb m26 m28)))] (foeq 0 Za.eqok54 fo0) (by kernel_rfl) (yfd (yab (zif rfl hq24 (fun hc29 hq24=>?_) fun hc29 hq24=>?_))))))))))))
       ·refine yaa ?_
        refine yac hq24 fun u30 hu30 hq24=>yac hq24 fun m31 hm31 hq24=>yae (yak 4 [] [] [(45,pO a_0 p0.length c_0),(46,pI v13),(47,pQ a_0 p0.length c_0 v2.toNat 2),(48,pI v14)] fo0 (by kernel_rfl) (ycv rfl rfl rfl (yje (enc:=Za.enc) (xs:=l12) (i:=v2) rfl rfl rfl rfl rfl (yhl hl10).1.1 (yme hu30) zm0 hm31) (ycv rfl rfl rfl (yda (sz:=2) (p:=.agg [pI m31.Product,pI m31.Agreement]) (enc:=Za.enc) (xs:=l12) (a:=a_0) (v2+v14) 0 m31 rfl (.p rfl) rfl zm0 (fun _=>hm31) rfl) (yac hq24 fun m32 hm32 hq24=>ycv rfl rfl rfl (yee (enc:=Za.enc) (xs:=l12) rfl rfl rfl (.p rfl) zm0 (.p rfl) (fun _=>hm32)) (ybt rfl rfl (yss (enc:=Za.enc) (xs:=l12) (a:=a_0) v13 0 m32 m31 rfl rfl rfl rfl (fun _=>rfl) rfl rfl hm32 (zl2) zuh (yax (yab (yad [] [52,53] [(3,pI (IntKind.i64.wrap (v13+1)))] fo0 (by kernel_rfl) (yal ?_))))))))))
        obtain rfl:=osi hq24
        exact yaz ((),((l12.set v13.toNat m31),(IntKind.i64.wrap (v13+1)))) (zh4 rfl rfl rfl rfl) (zs1) rfl
       refine yag ?_
       refine yal ?_
       obtain rfl:=osi hq24
       exact yaz ((),(l12,v13)) (zh4 rfl rfl rfl rfl) (zs1) rfl
      rintro ⟨_,⟨l22,v23⟩⟩ τ hz;(try dsimp only at hz);subst q24;(try dsimp only at hb18);dsimp only [pupds]
      refine yad [] [33,34] [(5,pI (IntKind.i64.wrap (v14+1)))] fo0 (by kernel_rfl) ?_
      exact ybk hb18 () (zh4 rfl rfl rfl rfl) (zs1)
     refine yba ?_
     refine yao (yam hb18 (fun ht=>yan rfl ?_))
     exact yaz ((),(l12,v13)) (zh2 rfl rfl) (zs1) ht.symm
    rintro ⟨_,⟨l16,v17⟩⟩ τ hz;(try dsimp only at hz);subst q19;(try dsimp only at hb4);dsimp only [pupds]
    refine yaa (yac hb4 fun l34 hl34 hb4=>yae (yak 2 [] [] [(54,pO a_0 p0.length c_0),(55,pI v17)] fo0 (by kernel_rfl) (ycv rfl rfl rfl (ymv (enc:=Za.enc) (xs:=l16) rfl rfl rfl rfl rfl zm0 hl34) (ybt rfl rfl (xbu (enc:=Za.enc) (xs:=l16) (z0:=(⟨(0:Int),(0:Int)⟩:Za)) (i:=v17) rfl rfl rfl rfl hl34 rfl rfl rfl rfl zuh (yax (yab (yaa (yac hb4 fun l35 hl35 hb4=>yae (yak 2 [] [] [(57,pO a_0 p0.length c_0),(58,pI v17)] fo0 (by kernel_rfl) ?_))))))))))
    refine yat rfl rfl rfl (xbt (enc:=Za.enc) (xs:=(List.take v17.toNat l16++List.replicate (p0.length - v17.toNat) (⟨(0:Int),(0:Int)⟩:Za))) rfl rfl rfl rfl rfl (by exact zph) hl35 ?_)
    refine yap [] [] [(2,pO a_0 l35.length c_0)] fo0 (by kernel_rfl) (yab (yai (yaf (yah ?_))))
    refine ybb hb4 (fun ht=>?_);subst ht
    refine yaf (ybc ?_)
    obtain rfl:=osi h
    exact ybh (ygl (ybm rfl)) (zs1) ⟨_,_,rfl,rfl⟩
   refine yag ?_
   refine yal (yab (yad [] [14,15] [(3,pI (IntKind.i64.wrap (v2+1)))] fo0 (by kernel_rfl) ?_))
   exact ybk hb4 () (zh2 rfl rfl) (zs1)
  refine yba ?_
  refine yao (yam hb4 (fun ht=>yan rfl ?_))
  exact yaz ((),()) (zh1 rfl) (zs1) ht.symm
 rintro ⟨_,_⟩ τ hz;(try dsimp only at hz);subst q5;(try dsimp only at h);dsimp only [pupds]
 refine yaa (yad [] [60] [(2,pO a_0 p0.length c_0)] fo0 (by kernel_rfl) (yab (yai ?_)))
 obtain rfl:=osi h
 exact ybh (ygl (ybm rfl)) (zs1) ⟨_,_,rfl,rfl⟩
def ybe (p0:(List Zi)) (p1:(List Zi)) (p2:(Zi→Zi→Option Bool)):Option Bool:=cond ((p0.length:Int) != (p1.length:Int)) (some false) (Option.bind (loopF (S:=Int) (T:=(Unit)⊕(_)) (fun v2=>cond (decide (v2<(p0.length:Int))) (Option.bind (idx p0 v2) (fun m6=>Option.bind (idx p1 v2) (fun m8=>Option.bind (p2 m6 m8) (fun x10=>cond (!x10) (some (.inr (.inr false))) (some (.inl (IntKind.i64.wrap (v2+1)))))))) (some (.inr (.inl ())))) FUEL 0) (fun q=>match q with | .inl _=>some true | .inr e=>some e))
theorem ydd {p0:(List Zi)} {p1:(List Zi)} {p2:(Zi→Zi→Option Bool)} {r:Bool} {g2:PV} (hg2:∀ {y0:Zi} {y1:Zi} {w:Bool},p2 y0 y1=some w→PFV g2 [.agg [pS y0.Prefix,pI y0.Rule.Kind,pI y0.Rule.Digits,pL eS y0.Rule.Except,pI y0.Rule.Tolerance,pI y0.Rule.Limit,pS y0.Rule.Name,pL Zd.enc y0.Rule.Args],.agg [pS y1.Prefix,pI y1.Rule.Kind,pI y1.Rule.Digits,pL eS y1.Rule.Except,pI y1.Rule.Tolerance,pI y1.Rule.Limit,pS y1.Rule.Name,pL Zd.enc y1.Rule.Args]] (pB w)) (h:ybe p0 p1 p2=some r):PF 160 [pL Zi.enc p0,pL Zi.enc p1,g2] (pB r):=by
 unfold ybe at h
 refine ycf ?_
 refine ybd Tryz.func160 fk160 rfl Tryz.ntmps160 Tryz.results160 rfl (yaa (yad [] [6] [] fo0 (by kernel_rfl) (yab (yaa (yaa (yad [] [10,11,12,13] [(14,pB ((p0.length:Int) != (p1.length:Int)))] fo0 (by kernel_rfl) (yab (zif rfl h (fun hc1 h=>?_) fun hc1 h=>?_))))))))
 ·refine yaa ?_
  refine yad [] [] [(6,pB false)] fo0 (by kernel_rfl) (yab (yai (yah ?_)))
  obtain rfl:=osi h
  exact zq rfl ⟨rfl,rfl⟩
 refine yag ?_
 refine yab (yaa (yaa (yad [] [] [(15,pL Zi.enc p0),(16,pI (p0.length:Int)),(17,pI 0)] fo0 (by kernel_rfl) (yab (yac h fun q4 hq4 h=>?_)))))
 refine yas (Y:=(Unit)×(Unit)) (fun (_,_)=>[]) (fun (_,_)=>[]) (fun (_,_)=>q4=Sum.inl ()) ?_ ?_
 ·refine yaj ?_
  refine yaw (Y:=Unit) (S:=Int) _ hq4 (fun _ v2=>[(1,pL Zi.enc p1),(2,g2),(15,pL Zi.enc p0),(16,pI (p0.length:Int)),(17,pI v2)]) (fun _ v2=>[]) () (zh5 rfl rfl rfl rfl rfl) zsn ?_
  rintro _ v2 o τ hb3;(try dsimp only at hb3);dsimp only [pupds]
  refine yaa (yad [] [] [(18,pB (decide (v2<(p0.length:Int))))] fo0 (by kernel_rfl) (yab (yaa (zif rfl hb3 (fun hc5 hb3=>?_) fun hc5 hb3=>?_))))
  ·refine yag ?_
   refine yab (yaa (yaj (yaa (yac hb3 fun m6 hm6 hb3=>yae (yak 3 [] [20] [(19,pI v2),(21,.agg [pS m6.Prefix,pI m6.Rule.Kind,pI m6.Rule.Digits,pL eS m6.Rule.Except,pI m6.Rule.Tolerance,pI m6.Rule.Limit,pS m6.Rule.Name,pL Zd.enc m6.Rule.Args])] (yjt 1 Zi.enc hm6 fo0) (by kernel_rfl) (yat rfl rfl rfl (ybg (cs:=[pS ByteArray.empty,pI 0,pI 0,pN,pI 0,pI 0,pS ByteArray.empty,pN]) rfl rfl rfl rfl (fun b7=>yak 1 [] [] [(7,pI v2)] fo0 (by kernel_rfl) (ybt rfl rfl (yar (vs:=[pS m6.Prefix,pI m6.Rule.Kind,pI m6.Rule.Digits,pL eS m6.Rule.Except,pI m6.Rule.Tolerance,pI m6.Rule.Limit,pS m6.Rule.Name,pL Zd.enc m6.Rule.Args]) rfl rfl rfl rfl rfl zuh (zl8) (yax (yab (yaa (yac hb3 fun m8 hm8 hb3=>yae (yak 4 [] [22,23,24] [(25,.agg [pS m8.Prefix,pI m8.Rule.Kind,pI m8.Rule.Digits,pL eS m8.Rule.Except,pI m8.Rule.Tolerance,pI m8.Rule.Limit,pS m8.Rule.Name,pL Zd.enc m8.Rule.Args])] (yjt 2 Zi.enc hm8 fo0) (by kernel_rfl) (yat rfl rfl rfl (ybg (cs:=[pS ByteArray.empty,pI 0,pI 0,pN,pI 0,pI 0,pS ByteArray.empty,pN]) rfl rfl rfl rfl (fun b9=>ybt rfl rfl (yar (vs:=[pS m8.Prefix,pI m8.Rule.Kind,pI m8.Rule.Digits,pL eS m8.Rule.Except,pI m8.Rule.Tolerance,pI m8.Rule.Limit,pS m8.Rule.Name,pL Zd.enc m8.Rule.Args]) rfl rfl rfl rfl rfl zuh (zl8) (yax (yab (yaa (yac hb3 fun x10 hx10 hb3=>yad [1,0] [26,27,28,29] [(30,pB (!x10))] (focv 3 (hg2 hx10) fo0) (by kernel_rfl) (yab (zif rfl hb3 (fun hc11 hb3=>?_) fun hc11 hb3=>?_)))))))))))))))))))))))))
   ·refine yaa ?_
    refine yad [] [] [(6,pB false)] fo0 (by kernel_rfl) (yab (yai (yaf (yah ?_))))
    refine ybb hb3 (fun ht=>?_);subst ht
    refine yaf (ybc ?_)
    obtain rfl:=osi h
    exact zq rfl ⟨rfl,rfl⟩
   refine yag ?_
   refine yal (yab (yad [] [31] [(17,pI (IntKind.i64.wrap (v2+1)))] fo0 (by kernel_rfl) ?_))
   exact ybk hb3 () (zh5 rfl rfl rfl rfl rfl) zsn
  refine yba ?_
  refine yao (yam hb3 (fun ht=>yan rfl ?_))
  exact yaz ((),()) zhn zsn ht.symm
 rintro ⟨_,_⟩ τ hz;(try dsimp only at hz);subst q4;(try dsimp only at h);dsimp only [pupds]
 refine yaa (yad [] [] [(6,pB true)] fo0 (by kernel_rfl) (yab (yai ?_)))
 obtain rfl:=osi h
 exact zq rfl ⟨rfl,rfl⟩
def ydr (p0:(List ByteArray)) (p1:(List ByteArray)):Option Bool:=cond ((p0.length:Int) != (p1.length:Int)) (some false) (Option.bind (loopF (S:=Int) (T:=(Unit)⊕(_)) (fun v2=>cond (decide (v2<(p0.length:Int))) (Option.bind (idx p0 v2) (fun m6=>Option.bind (idx p1 v2) (fun m7=>cond (!decide (m6=m7)) (some (.inr (.inr false))) (some (.inl (IntKind.i64.wrap (v2+1))))))) (some (.inr (.inl ())))) FUEL 0) (fun q=>match q with | .inl _=>some true | .inr e=>some e))
theorem ykl {p0:(List ByteArray)} {p1:(List ByteArray)} {r:Bool}  (h:ydr p0 p1=some r):PF 181 [pL eS p0,pL eS p1] (pB r):=by
 unfold ydr at h
 refine ycf ?_
 refine ybd Tryz.func181 fk181 rfl Tryz.ntmps181 Tryz.results181 rfl (yaa (yad [] [4] [] fo0 (by kernel_rfl) (yab (yaa (yaa (yad [] [6,7,8,9] [(10,pB ((p0.length:Int) != (p1.length:Int)))] fo0 (by kernel_rfl) (yab (zif rfl h (fun hc1 h=>?_) fun hc1 h=>?_))))))))
 ·refine yaa ?_
  refine yad [] [] [(4,pB false)] fo0 (by kernel_rfl) (yab (yai (yah ?_)))
  obtain rfl:=osi h
  exact zq rfl ⟨rfl,rfl⟩
 refine yag ?_
 refine yab (yaa (yaa (yad [] [11] [(12,pI (p0.length:Int)),(13,pI 0)] fo0 (by kernel_rfl) (yab (yac h fun q4 hq4 h=>?_)))))
 refine yas (Y:=(Unit)×(Unit)) (fun (_,_)=>[]) (fun (_,_)=>[]) (fun (_,_)=>q4=Sum.inl ()) ?_ ?_
 ·refine yaj ?_
  refine yaw (Y:=Unit) (S:=Int) _ hq4 (fun _ v2=>[(0,pL eS p0),(1,pL eS p1),(12,pI (p0.length:Int)),(13,pI v2)]) (fun _ v2=>[]) () (zh4 rfl rfl rfl rfl) zsn ?_
  rintro _ v2 o τ hb3;(try dsimp only at hb3);dsimp only [pupds]
  refine yaa (yad [] [] [(14,pB (decide (v2<(p0.length:Int))))] fo0 (by kernel_rfl) (yab (yaa (zif rfl hb3 (fun hc5 hb3=>?_) fun hc5 hb3=>?_))))
  ·refine yag ?_
   refine yab (yaa (yaj (yaa (yad [] [15] [(5,pI v2)] fo0 (by kernel_rfl) (yab (yaa (ydq (ρd:=[]) [(0,0),(1,0),(2,0),(3,0),(4,0),(5,0),(6,0),(7,0),(8,0)] _ (List.Perm.refl _) (by kernel_rfl) rfl (yac hb3 fun m6 hm6 hb3=>yac hb3 fun m7 hm7 hb3=>ycr 9 [] (rg 16 8) [(24,pB (!decide (m6=m7)))] (yjt 2 eS hm6 (yjt 6 eS hm7 fo0)) (by kernel_rfl) (yfd (yab (zif rfl hb3 (fun hc8 hb3=>?_) fun hc8 hb3=>?_)))))))))))
   ·refine yaa ?_
    refine yad [] [] [(4,pB false)] fo0 (by kernel_rfl) (yab (yai (yaf (yah ?_))))
    refine ybb hb3 (fun ht=>?_);subst ht
    refine yaf (ybc ?_)
    obtain rfl:=osi h
    exact zq rfl ⟨rfl,rfl⟩
   refine yag ?_
   refine yal (yab (yad [] [25] [(13,pI (IntKind.i64.wrap (v2+1)))] fo0 (by kernel_rfl) ?_))
   exact ybk hb3 () (zh4 rfl rfl rfl rfl) zsn
  refine yba ?_
  refine yao (yam hb3 (fun ht=>yan rfl ?_))
  exact yaz ((),()) zhn zsn ht.symm
 rintro ⟨_,_⟩ τ hz;(try dsimp only at hz);subst q4;(try dsimp only at h);dsimp only [pupds]
 refine yaa (yad [] [] [(4,pB true)] fo0 (by kernel_rfl) (yab (yai ?_)))
 obtain rfl:=osi h
 exact zq rfl ⟨rfl,rfl⟩
def ybf (p0:(List Zd)) (p1:(List Zd)) (p2:(Zd→Zd→Option Bool)):Option Bool:=cond ((p0.length:Int) != (p1.length:Int)) (some false) (Option.bind (loopF (S:=Int) (T:=(Unit)⊕(_)) (fun v2=>cond (decide (v2<(p0.length:Int))) (Option.bind (idx p0 v2) (fun m6=>Option.bind (idx p1 v2) (fun m8=>Option.bind (p2 m6 m8) (fun x10=>cond (!x10) (some (.inr (.inr false))) (some (.inl (IntKind.i64.wrap (v2+1)))))))) (some (.inr (.inl ())))) FUEL 0) (fun q=>match q with | .inl _=>some true | .inr e=>some e))
theorem yel {p0:(List Zd)} {p1:(List Zd)} {p2:(Zd→Zd→Option Bool)} {r:Bool} {g2:PV} (hg2:∀ {y0:Zd} {y1:Zd} {w:Bool},p2 y0 y1=some w→PFV g2 [.agg [pI y0.Kind,pI y0.Digits,pL eS y0.Except,pI y0.Tolerance,pI y0.Limit,pS y0.Name,pL Zd.enc y0.Args],.agg [pI y1.Kind,pI y1.Digits,pL eS y1.Except,pI y1.Tolerance,pI y1.Limit,pS y1.Name,pL Zd.enc y1.Args]] (pB w)) (h:ybf p0 p1 p2=some r):PF 182 [pL Zd.enc p0,pL Zd.enc p1,g2] (pB r):=by
 unfold ybf at h
 refine ycf ?_
 refine ybd Tryz.func182 fk182 rfl Tryz.ntmps182 Tryz.results182 rfl (yaa (yad [] [6] [] fo0 (by kernel_rfl) (yab (yaa (yaa (yad [] [10,11,12,13] [(14,pB ((p0.length:Int) != (p1.length:Int)))] fo0 (by kernel_rfl) (yab (zif rfl h (fun hc1 h=>?_) fun hc1 h=>?_))))))))
 ·refine yaa ?_
  refine yad [] [] [(6,pB false)] fo0 (by kernel_rfl) (yab (yai (yah ?_)))
  obtain rfl:=osi h
  exact zq rfl ⟨rfl,rfl⟩
 refine yag ?_
 refine yab (yaa (yaa (yad [] [] [(15,pL Zd.enc p0),(16,pI (p0.length:Int)),(17,pI 0)] fo0 (by kernel_rfl) (yab (yac h fun q4 hq4 h=>?_)))))
 refine yas (Y:=(Unit)×(Unit)) (fun (_,_)=>[]) (fun (_,_)=>[]) (fun (_,_)=>q4=Sum.inl ()) ?_ ?_
 ·refine yaj ?_
  refine yaw (Y:=Unit) (S:=Int) _ hq4 (fun _ v2=>[(1,pL Zd.enc p1),(2,g2),(15,pL Zd.enc p0),(16,pI (p0.length:Int)),(17,pI v2)]) (fun _ v2=>[]) () (zh5 rfl rfl rfl rfl rfl) zsn ?_
  rintro _ v2 o τ hb3;(try dsimp only at hb3);dsimp only [pupds]
  refine yaa (yad [] [] [(18,pB (decide (v2<(p0.length:Int))))] fo0 (by kernel_rfl) (yab (yaa (zif rfl hb3 (fun hc5 hb3=>?_) fun hc5 hb3=>?_))))
  ·refine yag ?_
   refine yab (yaa (yaj (yaa (yac hb3 fun m6 hm6 hb3=>yae (yak 3 [] [20] [(19,pI v2),(21,.agg [pI m6.Kind,pI m6.Digits,pL eS m6.Except,pI m6.Tolerance,pI m6.Limit,pS m6.Name,pL Zd.enc m6.Args])] (xhy 1 Zd.enc (Zd.enc_eq _) hm6 fo0) (by kernel_rfl) (yat rfl rfl rfl (ybg (cs:=[pI 0,pI 0,pN,pI 0,pI 0,pS ByteArray.empty,pN]) rfl rfl rfl rfl (fun b7=>yak 1 [] [] [(7,pI v2)] fo0 (by kernel_rfl) (ybt rfl rfl (yar (vs:=[pI m6.Kind,pI m6.Digits,pL eS m6.Except,pI m6.Tolerance,pI m6.Limit,pS m6.Name,pL Zd.enc m6.Args]) rfl rfl rfl rfl rfl zuh (zl7) (yax (yab (yaa (yac hb3 fun m8 hm8 hb3=>yae (yak 4 [] [22,23,24] [(25,.agg [pI m8.Kind,pI m8.Digits,pL eS m8.Except,pI m8.Tolerance,pI m8.Limit,pS m8.Name,pL Zd.enc m8.Args])] (xhy 2 Zd.enc (Zd.enc_eq _) hm8 fo0) (by kernel_rfl) (yat rfl rfl rfl (ybg (cs:=[pI 0,pI 0,pN,pI 0,pI 0,pS ByteArray.empty,pN]) rfl rfl rfl rfl (fun b9=>ybt rfl rfl (yar (vs:=[pI m8.Kind,pI m8.Digits,pL eS m8.Except,pI m8.Tolerance,pI m8.Limit,pS m8.Name,pL Zd.enc m8.Args]) rfl rfl rfl rfl rfl zuh (zl7) (yax (yab (yaa (yac hb3 fun x10 hx10 hb3=>yad [1,0] [26,27,28,29] [(30,pB (!x10))] (focv 3 (hg2 hx10) fo0) (by kernel_rfl) (yab (zif rfl hb3 (fun hc11 hb3=>?_) fun hc11 hb3=>?_)))))))))))))))))))))))))
   ·refine yaa ?_
    refine yad [] [] [(6,pB false)] fo0 (by kernel_rfl) (yab (yai (yaf (yah ?_))))
    refine ybb hb3 (fun ht=>?_);subst ht
    refine yaf (ybc ?_)
    obtain rfl:=osi h
    exact zq rfl ⟨rfl,rfl⟩
   refine yag ?_
   refine yal (yab (yad [] [31] [(17,pI (IntKind.i64.wrap (v2+1)))] fo0 (by kernel_rfl) ?_))
   exact ybk hb3 () (zh5 rfl rfl rfl rfl rfl) zsn
  refine yba ?_
  refine yao (yam hb3 (fun ht=>yan rfl ?_))
  exact yaz ((),()) zhn zsn ht.symm
 rintro ⟨_,_⟩ τ hz;(try dsimp only at hz);subst q4;(try dsimp only at h);dsimp only [pupds]
 refine yaa (yad [] [] [(6,pB true)] fo0 (by kernel_rfl) (yab (yai ?_)))
 obtain rfl:=osi h
 exact zq rfl ⟨rfl,rfl⟩
def ydu (rec:Zd→Zd→Option Bool) (p0:Zd) (p1:Zd):Option Bool:=Option.bind (gd (((((p0.Kind == p1.Kind)&&(p0.Digits == p1.Digits))&&(p0.Tolerance == p1.Tolerance))&&(p0.Limit == p1.Limit))&&(decide (p0.Name=p1.Name))) (ydr p0.Except p1.Except)) (fun x3=>Option.bind (gd ((((((p0.Kind == p1.Kind)&&(p0.Digits == p1.Digits))&&(p0.Tolerance == p1.Tolerance))&&(p0.Limit == p1.Limit))&&(decide (p0.Name=p1.Name)))&&x3) (ybf p0.Args p1.Args (fun y4 y5=>rec y4 y5))) (fun x6=>some (((((((p0.Kind == p1.Kind)&&(p0.Digits == p1.Digits))&&(p0.Tolerance == p1.Tolerance))&&(p0.Limit == p1.Limit))&&(decide (p0.Name=p1.Name)))&&x3)&&x6)))
theorem ymr {rec:Zd→Zd→Option Bool} (hrec:∀ {p0:Zd} {p1:Zd} {r:Bool},rec p0 p1=some r→PF 162 [.agg [pI p0.Kind,pI p0.Digits,pL eS p0.Except,pI p0.Tolerance,pI p0.Limit,pS p0.Name,pL Zd.enc p0.Args],.agg [pI p1.Kind,pI p1.Digits,pL eS p1.Except,pI p1.Tolerance,pI p1.Limit,pS p1.Name,pL Zd.enc p1.Args]] (pB r)) {p0:Zd} {p1:Zd} {r:Bool} (h:ydu rec p0 p1=some r):PF 162 [.agg [pI p0.Kind,pI p0.Digits,pL eS p0.Except,pI p0.Tolerance,pI p0.Limit,pS p0.Name,pL Zd.enc p0.Args],.agg [pI p1.Kind,pI p1.Digits,pL eS p1.Except,pI p1.Tolerance,pI p1.Limit,pS p1.Name,pL Zd.enc p1.Args]] (pB r):=by
 unfold ydu at h
 refine ycf ?_
 refine ybd Tryz.func162 fk162 rfl Tryz.ntmps162 Tryz.results162 rfl (yaa (yae (yat rfl rfl rfl (ycp (cs:=[pI p0.Kind,pI p0.Digits,pL eS p0.Except,pI p0.Tolerance,pI p0.Limit,pS p0.Name,pL Zd.enc p0.Args]) rfl rfl (fun b1=>yat rfl rfl rfl (ycp (cs:=[pI p1.Kind,pI p1.Digits,pL eS p1.Except,pI p1.Tolerance,pI p1.Limit,pS p1.Name,pL Zd.enc p1.Args]) rfl rfl (fun b2=>yap [] [4] [] fo0 (by kernel_rfl) (yab (yaa (yac h fun x3 hx3 h=>yac h fun x6 hx6 h=>yad [1,0,1,0,1,0,1,0,1,0,1,0,1,0] (rg 5 47) [(4,pB (((((((p0.Kind == p1.Kind)&&(p0.Digits == p1.Digits))&&(p0.Tolerance == p1.Tolerance))&&(p0.Limit == p1.Limit))&&(decide (p0.Name=p1.Name)))&&x3)&&x6))] (ykq 38 (fun hc=>ykl (ymd hx3 hc)) (ykq 45 (fun hc=>yel (fun hr=>yuu (hrec hr)) (ymd hx6 hc)) fo0)) (by kernel_rfl) (yab (yai ?_))))))))))))
 obtain rfl:=osi h
 exact zq rfl ⟨rfl,rfl⟩
def ydv (n:Nat):Zd→Zd→Option Bool:=Nat.rec (motive:=fun _=>Zd→Zd→Option Bool) (fun _ _=>none) (fun _ ih=>ydu ih) n
def yhu (p0:Zd) (p1:Zd):Option Bool:=ydv FUEL p0 p1
theorem ync (n:Nat):∀ {p0:Zd} {p1:Zd} {r:Bool},ydv n p0 p1=some r→PF 162 [.agg [pI p0.Kind,pI p0.Digits,pL eS p0.Except,pI p0.Tolerance,pI p0.Limit,pS p0.Name,pL Zd.enc p0.Args],.agg [pI p1.Kind,pI p1.Digits,pL eS p1.Except,pI p1.Tolerance,pI p1.Limit,pS p1.Name,pL Zd.enc p1.Args]] (pB r):=by
 induction n with
 | zero=>intros;rename_i h;exact nomatch h
 | succ n ih=>intros;rename_i h;exact ymr (fun hr=>ih hr) h
theorem yod {p0:Zd} {p1:Zd} {r:Bool} (h:yhu p0 p1=some r):PF 162 [.agg [pI p0.Kind,pI p0.Digits,pL eS p0.Except,pI p0.Tolerance,pI p0.Limit,pS p0.Name,pL Zd.enc p0.Args],.agg [pI p1.Kind,pI p1.Digits,pL eS p1.Except,pI p1.Tolerance,pI p1.Limit,pS p1.Name,pL Zd.enc p1.Args]] (pB r):=ync FUEL h
def yec (p1:Int):Option (List ByteArray):=Option.bind (mk0 16 p1) (fun _=>some [])
theorem ykx {p1:Int} {r:(List ByteArray)} (h:yec p1=some r):PCall 183 [.v (.slice none 0 0),pI p1] [] (fun pv ρ'=>∃ a c,pv=.v (.slice a r.length c)∧ρ'=[PRes.row a r.length c 9 1 (List.map eS r)]):=by
 unfold yec at h
 obtain ⟨u,hu,h⟩:=Option.bind_eq_some_iff.1 h
 obtain rfl:=osi h
 obtain ⟨hg0,hg1⟩:=mk0_le hu
 have ew:IntKind.i64.wrap (p1 - IntKind.i64.wrap (((0:Nat):Int) - ((0:Nat):Int)))=p1:=xbx hg0 hg1
 refine ybd Tryz.func183 fk183 rfl Tryz.ntmps183 Tryz.results183 rfl ?_
 (repeat refine yaa ?_)
 refine yad [] [4] [] fo0 (by kernel_rfl) (yab ?_)
 (repeat refine yaa ?_)
 refine yad [] [5] [(6,pB (decide (p1<0)))] fo0 (by kernel_rfl) (yab ?_)
 refine yin rfl (fun hc=>absurd (of_decide_eq_true hc) (by omega)) (fun hc=>?_)
 refine yag (yab ?_)
 (repeat refine yaa ?_)
 refine yae (yak 2 [] [] [(8,pI p1),(9,.v (.slice none 0 0))] fo0 (by kernel_rfl) (ycv rfl rfl rfl (yzu rfl rfl (.p rfl)) (yap [] [11,12,13,14] [(1,pI (IntKind.i64.wrap (p1 - IntKind.i64.wrap (((0:Nat):Int) - ((0:Nat):Int)))))] fo0 (by kernel_rfl) ?_)))
 rw [ew]
 refine yab ?_
 (repeat refine yaa ?_)
 refine yad [] [15] [(16,pB (decide (0<p1)))] fo0 (by kernel_rfl) (yab ?_)
 refine yin rfl (fun hc=>?_) (fun hc=>?_)
 ·refine yae ?_
  refine yak 2 [] [] [(17,.v (.slice none 0 0)),(18,.v (.slice none 0 0))] fo0 (by kernel_rfl) (ycv rfl rfl rfl (yzu rfl rfl (.p rfl)) (ycv rfl rfl rfl (yry rfl rfl rfl (.p rfl) (.p rfl) rfl (Nat.zero_le _)) (yak 1 [] [] [(21,pI p1)] fo0 (by kernel_rfl) (yxv 9 1 ?_))))
  refine yat rfl rfl rfl (xgo rfl rfl rfl rfl rfl rfl rfl rfl (of_decide_eq_true hc) hu (by exact zph) (fun a c hac=>?_))
  refine yak 2 [] [] [(23,.v (.slice none 0 0)),(24,pI 0)] fo0 (by kernel_rfl) (ycv rfl rfl rfl (yry (k:=0) rfl rfl rfl (.p rfl) (.p rfl) rfl (Nat.zero_le _)) (yap [] [] [(0,.v (.slice a 0 c))] fo0 (by kernel_rfl) (yab ?_)))
  (repeat refine yaa ?_)
  refine yad [] [26] [(4,.v (.slice a 0 c))] fo0 (by kernel_rfl) (yab (yai ?_))
  exact ybh (ygl (ybm rfl)) (zs1) ⟨_,_,rfl,rfl⟩
 refine yag ?_
 refine yab ?_
 (repeat refine yaa ?_)
 refine yad [] [26] [(4,.v (.slice none 0 0))] fo0 (by kernel_rfl) (yab (ych 9 1 (yai ?_)))
 exact ybh (ygl (ybm rfl)) (zs1) ⟨_,_,rfl,rfl⟩
def ycw (p0:(List (List ByteArray))):Option (List ByteArray):=Option.bind (loopF (S:=Int×Int) (T:=(Int)) (fun (v1,v2)=>cond (decide (v2<(p0.length:Int))) (Option.bind (idx p0 v2) (fun m7=>cond (decide ((IntKind.i64.wrap (v1+(m7.length:Int)))<0)) (none) (some (.inl ((IntKind.i64.wrap (v1+(m7.length:Int))),(IntKind.i64.wrap (v2+1))))))) (some (.inr v1))) FUEL (0,0)) (fun v3=>Option.bind (yec v3) (fun x9=>Option.bind (loopF (S:=(List ByteArray)×Int) (T:=((List ByteArray))) (fun (l14,v17)=>cond (decide (v17<(p0.length:Int))) (Option.bind (idx p0 v17) (fun m25=>Option.bind (app 16 l14 m25) (fun l26=>some (.inl (l26,(IntKind.i64.wrap (v17+1))))))) (some (.inr l14))) FUEL (x9,0)) (fun l21=>some l21)))
theorem yjz {p0:(List (List ByteArray))} {r:(List ByteArray)}  (h:ycw p0=some r):PCall 163 [pL (eL eS) p0] [] (fun pv ρ'=>∃ a c,pv=.v (.slice a r.length c)∧ρ'=[PRes.row a r.length c 9 1 (List.map eS r)]):=by
 unfold ycw at h
 refine ybd Tryz.func163 fk163 rfl Tryz.ntmps163 Tryz.results163 rfl (yaa (yad [] [2] [] fo0 (by kernel_rfl) (yab (yaa (yad [] [] [(3,pI 0)] fo0 (by kernel_rfl) (yab (yaa (yaa (yad [] [] [(9,pL (eL eS) p0),(10,pI (p0.length:Int)),(11,pI 0)] fo0 (by kernel_rfl) (yab (yac h fun q5 hq5 h=>?_)))))))))))
 refine yas (Y:=(Unit)×(Int)) (fun (_,v3)=>[(0,pL (eL eS) p0),(3,pI v3)]) (fun (_,v3)=>[]) (fun (_,v3)=>q5=v3) ?_ ?_
 ·refine yaj ?_
  refine yaw (Y:=Unit) (S:=Int×Int) _ hq5 (fun _ (v1,v2)=>[(0,pL (eL eS) p0),(3,pI v1),(9,pL (eL eS) p0),(10,pI (p0.length:Int)),(11,pI v2)]) (fun _ (v1,v2)=>[]) () (zh5 rfl rfl rfl rfl rfl) zsn ?_
  rintro _ ⟨v1,v2⟩ o τ hb4;(try dsimp only at hb4);dsimp only [pupds]
  refine yaa (yad [] [] [(12,pB (decide (v2<(p0.length:Int))))] fo0 (by kernel_rfl) (yab (yaa (zif rfl hb4 (fun hc6 hb4=>?_) fun hc6 hb4=>?_))))
  ·refine yag ?_
   refine yab (yaa (yaj (yaa (yac hb4 fun m7 hm7 hb4=>yad [] [13,14] [(5,pL eS m7)] (yjt 0 (eL eS) hm7 fo0) (by kernel_rfl) (yab (yaa (yad [] [15,16,17,18] [(3,pI (IntKind.i64.wrap (v1+(m7.length:Int))))] fo0 (by kernel_rfl) (yab (yaa (yad [] [19] [(20,pB (decide ((IntKind.i64.wrap (v1+(m7.length:Int)))<0)))] fo0 (by kernel_rfl) (yab (zif rfl hb4 (fun hc8 hb4=>?_) fun hc8 hb4=>?_))))))))))))
   ·refine yae ?_
    exact absurd hb4 (by simp)
   refine yag ?_
   refine yal (yab (yad [] [22] [(11,pI (IntKind.i64.wrap (v2+1)))] fo0 (by kernel_rfl) ?_))
   exact ybk hb4 () (zh5 rfl rfl rfl rfl rfl) zsn
  refine yba ?_
  refine yao (yam hb4 (fun ht=>yan rfl ?_))
  exact yaz ((),v1) (zh2 rfl rfl) zsn ht.symm
 rintro ⟨_,v3⟩ τ hz;(try dsimp only at hz);subst q5;(try dsimp only at h);dsimp only [pupds]
 refine yaa (yac h fun x9 hx9 h=>yae (yak 1 [] [] [(23,pI v3)] fo0 (by kernel_rfl) ?_))
 refine yat rfl rfl rfl (ybj rfl rfl (ρ1:=[]) (List.Perm.refl _) (ykx hx9) ?_);rintro _ _ ⟨a10,c11,rfl,rfl⟩
 refine yap [] [] [(6,pO a10 x9.length c11)] fo0 (by kernel_rfl) (yab (yaa (yaa (yad [] [] [(25,pL (eL eS) p0),(26,pI (p0.length:Int)),(27,pI 0)] fo0 (by kernel_rfl) (yab (yac h fun q23 hq23 h=>?_))))))
 refine yas (Y:=(Option Addr×Nat)×((List ByteArray))) (fun ((a19,c20),l21)=>[(6,pO a19 l21.length c20)]) (fun ((a19,c20),l21)=>[PRes.row a19 l21.length c20 9 1 (List.map eS l21)]) (fun ((a19,c20),l21)=>q23=l21) ?_ ?_
 ·refine yaj ?_
  refine yaw (Y:=Option Addr×Nat) (S:=(List ByteArray)×Int) _ hq23 (fun (a15,c16) (l14,v17)=>[(6,pO a15 l14.length c16),(25,pL (eL eS) p0),(26,pI (p0.length:Int)),(27,pI v17)]) (fun (a15,c16) (l14,v17)=>[PRes.row a15 l14.length c16 9 1 (List.map eS l14)]) (a10,c11) (zh4 rfl rfl rfl rfl) (zs1) ?_
  rintro ⟨a15,c16⟩ ⟨l14,v17⟩ o τ hb22;(try dsimp only at hb22);dsimp only [pupds]
  refine yaa (yad [] [] [(28,pB (decide (v17<(p0.length:Int))))] fo0 (by kernel_rfl) (yab (yaa (zif rfl hb22 (fun hc24 hb22=>?_) fun hc24 hb22=>?_))))
  ·refine yag ?_
   refine yab (yaa (yaj (yaa (yac hb22 fun m25 hm25 hb22=>yad [] [29,30] [(8,pL eS m25)] (yjt 0 (eL eS) hm25 fo0) (by kernel_rfl) (yab (yac hb22 fun l26 hl26 hb22=>yae (yak 2 [] [] [(31,pO a15 l14.length c16),(32,pL eS m25)] fo0 (by kernel_rfl) ?_)))))))
   refine yat rfl rfl rfl (yrw (enc:=eS) rfl rfl rfl rfl rfl (fun _=>rfl) rfl rfl rfl (by exact zph) hl26 (fun a27 c28=>?_))
   refine yap [] [] [(6,pO a27 l26.length c28)] fo0 (by kernel_rfl) (yal (yab (yad [] [34] [(27,pI (IntKind.i64.wrap (v17+1)))] fo0 (by kernel_rfl) ?_)))
   exact ybk hb22 (a27,c28) (zh4 rfl rfl rfl rfl) (zs1)
  refine yba ?_
  refine yao (yam hb22 (fun ht=>yan rfl ?_))
  exact yaz ((a15,c16),l14) (zh1 rfl) (zs1) ht.symm
 rintro ⟨⟨a19,c20⟩,l21⟩ τ hz;(try dsimp only at hz);subst q23;(try dsimp only at h);dsimp only [pupds]
 refine yaa (yad [] [35] [(2,pO a19 l21.length c20)] fo0 (by kernel_rfl) (yab (yai ?_)))
 obtain rfl:=osi h
 exact ybh (ygl (ybm rfl)) (zs1) ⟨_,_,rfl,rfl⟩
def ydj (p0:(List ByteArray)):Option (List ByteArray):=cond (decide (((p0.length:Nat):Int)<2)) (some p0) (Option.bind (loopF (S:=Int) (T:=(Unit)⊕(_)) (fun v2=>cond (decide (v2<((p0.length:Nat):Int))) (Option.bind (idx p0 v2) (fun m7=>Option.bind (idx p0 (IntKind.i64.wrap (v2 - 1))) (fun m8=>cond (decide (m7=m8)) (Option.bind (sub p0 v2 (p0.length:Int)) (fun l10=>Option.bind (loopF (S:=(List ByteArray)×Int×Int) (T:=((List ByteArray)×Int)) (fun (l12,v13,v14)=>cond (decide (v14<((p0.length - v2.toNat:Nat):Int))) (Option.bind (Option.bind (ge0 v14) (fun u25=>Option.bind (idx l12 (v2+v14)) (fun m26=>Option.bind (ge0 (IntKind.i64.wrap (v14 - 1))) (fun u27=>Option.bind (idx l12 (v2+(IntKind.i64.wrap (v14 - 1)))) (fun m28=>cond (!decide (m26=m28)) (Option.bind (ge0 v14) (fun u30=>Option.bind (idx l12 (v2+v14)) (fun m31=>Option.bind (idx l12 v13) (fun m32=>some ((l12.set v13.toNat m31),(IntKind.i64.wrap (v13+1))))))) (some (l12,v13))))))) (fun (l22,v23)=>some (.inl (l22,v23,(IntKind.i64.wrap (v14+1)))))) (some (.inr (l12,v13)))) FUEL (p0,v2,1)) (fun (l16,v17)=>Option.bind (sub l16 v17 (l16.length:Int)) (fun l34=>Option.bind (sub (List.take v17.toNat l16++List.replicate (p0.length - v17.toNat) ByteArray.empty) 0 v17) (fun l35=>some (.inr (.inr l35))))))) (some (.inl (IntKind.i64.wrap (v2+1))))))) (some (.inr (.inl ())))) FUEL 1) (fun q=>match q with | .inl _=>some p0 | .inr e=>some e))
theorem yjh {p0:(List ByteArray)} {a_0:Option Addr}  {n_0:Nat}  {c_0:Nat} {r:(List ByteArray)}  (h:ydj p0=some r):PCall 165 [.v (.slice a_0 n_0 c_0)] [PRes.row a_0 n_0 c_0 9 1 (List.map eS p0)] (fun pv ρ'=>∃ a c,pv=.v (.slice a r.length c)∧ρ'=[PRes.row a r.length c 9 1 (List.map eS r)]):=by
 unfold ydj at h
 refine ybd Tryz.func165 fk165 rfl Tryz.ntmps165 Tryz.results165 rfl ?_
 refine yll (enc:=eS) (xs:=p0) (a:=a_0) zm0 (fun hl ha=>?_);subst hl;clear ha
 refine yaa (yad [] [2] [] fo0 (by kernel_rfl) (yab (yaa (yaa (yad [] [6,7] [(8,pB (decide (((p0.length:Nat):Int)<2)))] fo0 (by kernel_rfl) (yab (zif rfl h (fun hc1 h=>?_) fun hc1 h=>?_)))))))
 ·refine yaa ?_
  refine yad [] [9] [(2,pO a_0 p0.length c_0)] fo0 (by kernel_rfl) (yab (yai (yah ?_)))
  obtain rfl:=osi h
  exact ybh (ygl (ybm rfl)) (zs1) ⟨_,_,rfl,rfl⟩
 refine yag ?_
 refine yab (yaa (yaa (yad [] [] [(3,pI 1)] fo0 (by kernel_rfl) (yab (yac h fun q5 hq5 h=>?_)))))
 refine yas (Y:=(Unit)×(Unit)) (fun (_,_)=>[(0,pO a_0 p0.length c_0)]) (fun (_,_)=>[PRes.row a_0 p0.length c_0 9 1 (List.map eS p0)]) (fun (_,_)=>q5=Sum.inl ()) ?_ ?_
 ·refine yaj ?_
  refine yaw (Y:=Unit) (S:=Int) _ hq5 (fun _ v2=>[(0,pO a_0 p0.length c_0),(3,pI v2)]) (fun _ v2=>[PRes.row a_0 p0.length c_0 9 1 (List.map eS p0)]) () (zh2 rfl rfl) (zs1) ?_
  rintro _ v2 o τ hb4;(try dsimp only at hb4);dsimp only [pupds]
  refine yaa (yaa (yad [] [10,11,12] [(13,pB (decide (v2<((p0.length:Nat):Int))))] fo0 (by kernel_rfl) (yab (zif rfl hb4 (fun hc6 hb4=>?_) fun hc6 hb4=>?_))))
  ·refine yag ?_
   refine yab (yaa (yaj (yaa (ydq (ρd:=[]) [(0,0),(1,0),(2,0),(3,0),(4,0),(5,0),(6,0),(7,0),(8,0),(9,0)] _ (List.Perm.refl _) (by kernel_rfl) rfl (yac hb4 fun m7 hm7 hb4=>ycr 2 [] [] [(16,pO a_0 p0.length c_0),(17,pI v2)] fo0 (by kernel_rfl) (ypd rfl rfl rfl (yee (enc:=eS) (xs:=p0) rfl rfl rfl (.p rfl) zm0 (.p rfl) (fun _=>hm7)) (ypd rfl rfl rfl (yda (sz:=1) (p:=pS m7) (enc:=eS) (xs:=p0) (a:=a_0) v2 0 m7 rfl (.p rfl) rfl zm0 (fun _=>hm7) rfl) (yac hb4 fun m8 hm8 hb4=>ycr 3 [] [21] [(20,pO a_0 p0.length c_0),(22,pI (IntKind.i64.wrap (v2 - 1)))] fo0 (by kernel_rfl) (ypd rfl rfl rfl (yee (enc:=eS) (xs:=p0) rfl rfl rfl (.p rfl) zm0 (.p rfl) (fun _=>hm8)) (ypd rfl rfl rfl (yda (sz:=1) (p:=pS m8) (enc:=eS) (xs:=p0) (a:=a_0) (IntKind.i64.wrap (v2 - 1)) 0 m8 rfl (.p rfl) rfl zm0 (fun _=>hm8) rfl) (ycr 1 [] [] [(25,pB (decide (m7=m8)))] fo0 (by kernel_rfl) (yfd (yab (zif rfl hb4 (fun hc9 hb4=>?_) fun hc9 hb4=>?_))))))))))))))
   ·refine yaa ?_
    refine yac hb4 fun l10 hl10 hb4=>yae (yak 2 [] [] [(26,pO a_0 p0.length c_0),(27,pI v2)] fo0 (by kernel_rfl) (ycv rfl rfl rfl (ymv (enc:=eS) (xs:=p0) rfl rfl rfl rfl rfl zm0 hl10) (yap [] [] [(4,pQ a_0 p0.length c_0 v2.toNat 1)] fo0 (by kernel_rfl) (yab (yaa (yaa (yad [] [] [(5,pI 1)] fo0 (by kernel_rfl) (yab (yac hb4 fun q19 hq19 hb4=>?_)))))))))
    refine yas (Y:=(Unit)×((List ByteArray)×Int)) (fun (_,(l16,v17))=>[(0,pO a_0 p0.length c_0),(3,pI v17)]) (fun (_,(l16,v17))=>[PRes.row a_0 p0.length c_0 9 1 (List.map eS l16)]) (fun (_,(l16,v17))=>q19=(l16,v17)) ?_ ?_
    ·refine yaj ?_
     refine yaw (Y:=Unit) (S:=(List ByteArray)×Int×Int) _ hq19 (fun _ (l12,v13,v14)=>[(0,pO a_0 p0.length c_0),(3,pI v13),(4,pQ a_0 p0.length c_0 v2.toNat 1),(5,pI v14)]) (fun _ (l12,v13,v14)=>[PRes.row a_0 p0.length c_0 9 1 (List.map eS l12)]) () (zh4 rfl rfl rfl rfl) (zs1) ?_
     rintro _ ⟨l12,v13,v14⟩ o τ hb18;(try dsimp only at hb18);dsimp only [pupds]
     refine yaa (yaa (yad [] [29,30,31] [(32,pB (decide (v14<((p0.length - v2.toNat:Nat):Int))))] fo0 (by kernel_rfl) (yab (zif rfl hb18 (fun hc20 hb18=>?_) fun hc20 hb18=>?_))))
     ·refine yag ?_
      refine yab (yaa (yac hb18 fun q24 hq24 hb18=>?_))
      refine yas (Y:=(Unit)×((List ByteArray)×Int)) (fun (_,(l22,v23))=>[(0,pO a_0 p0.length c_0),(3,pI v23),(4,pQ a_0 p0.length c_0 v2.toNat 1),(5,pI v14)]) (fun (_,(l22,v23))=>[PRes.row a_0 p0.length c_0 9 1 (List.map eS l22)]) (fun (_,(l22,v23))=>q24=(l22,v23)) ?_ ?_
      ·skip
       refine yaj (yaa (ydq (ρd:=[]) [(0,0),(1,0),(2,0),(3,0),(4,0),(5,0),(6,0),(7,0),(8,0),(9,0)] _ (List.Perm.refl _) (by kernel_rfl) rfl (yac hq24 fun u25 hu25 hq24=>yac hq24 fun m26 hm26 hq24=>ycr 2 [] [] [(35,pQ a_0 p0.length c_0 v2.toNat 1),(36,pI v14)] fo0 (by kernel_rfl) (ypd rfl rfl rfl (yje (enc:=eS) (xs:=l12) (i:=v2) rfl rfl rfl rfl rfl (yhl hl10).1.1 (yme hu25) zm0 hm26) (ypd rfl rfl rfl (yda (sz:=1) (p:=pS m26) (enc:=eS) (xs:=l12) (a:=a_0) (v2+v14) 0 m26 rfl (.p rfl) rfl zm0 (fun _=>hm26) rfl) (yac hq24 fun u27 hu27 hq24=>yac hq24 fun m28 hm28 hq24=>ycr 3 [] [40] [(39,pQ a_0 p0.length c_0 v2.toNat 1),(41,pI (IntKind.i64.wrap (v14 - 1)))] fo0 (by kernel_rfl) (ypd rfl rfl rfl (yje (enc:=eS) (xs:=l12) (i:=v2) rfl rfl rfl rfl rfl (yhl hl10).1.1 (yme hu27) zm0 hm28) (ypd rfl rfl rfl (yda (sz:=1) (p:=pS m28) (enc:=eS) (xs:=l12) (a:=a_0) (v2+(IntKind.i64.wrap (v14 - 1))) 0 m28 rfl (.p rfl) rfl zm0 (fun _=>hm28) rfl) (ycr 1 [] [] [(44,pB (!decide (m26=m28)))] fo0 (by kernel_rfl) (yfd (yab (zif rfl hq24 (fun hc29 hq24=>?_) fun hc29 hq24=>?_))))))))))))
       ·refine yaa ?_
        refine yac hq24 fun u30 hu30 hq24=>yac hq24 fun m31 hm31 hq24=>yae (yak 4 [] [] [(45,pO a_0 p0.length c_0),(46,pI v13),(47,pQ a_0 p0.length c_0 v2.toNat 1),(48,pI v14)] fo0 (by kernel_rfl) (ycv rfl rfl rfl (yje (enc:=eS) (xs:=l12) (i:=v2) rfl rfl rfl rfl rfl (yhl hl10).1.1 (yme hu30) zm0 hm31) (ycv rfl rfl rfl (yda (sz:=1) (p:=pS m31) (enc:=eS) (xs:=l12) (a:=a_0) (v2+v14) 0 m31 rfl (.p rfl) rfl zm0 (fun _=>hm31) rfl) (yac hq24 fun m32 hm32 hq24=>ycv rfl rfl rfl (yee (enc:=eS) (xs:=l12) rfl rfl rfl (.p rfl) zm0 (.p rfl) (fun _=>hm32)) (ybt rfl rfl (yss (enc:=eS) (xs:=l12) (a:=a_0) v13 0 m32 m31 rfl rfl rfl rfl (fun _=>rfl) rfl rfl hm32 (zl1) zuh (yax (yab (yad [] [52,53] [(3,pI (IntKind.i64.wrap (v13+1)))] fo0 (by kernel_rfl) (yal ?_))))))))))
        obtain rfl:=osi hq24
        exact yaz ((),((l12.set v13.toNat m31),(IntKind.i64.wrap (v13+1)))) (zh4 rfl rfl rfl rfl) (zs1) rfl
       refine yag ?_
       refine yal ?_
       obtain rfl:=osi hq24
       exact yaz ((),(l12,v13)) (zh4 rfl rfl rfl rfl) (zs1) rfl
      rintro ⟨_,⟨l22,v23⟩⟩ τ hz;(try dsimp only at hz);subst q24;(try dsimp only at hb18);dsimp only [pupds]
      refine yad [] [33,34] [(5,pI (IntKind.i64.wrap (v14+1)))] fo0 (by kernel_rfl) ?_
      exact ybk hb18 () (zh4 rfl rfl rfl rfl) (zs1)
     refine yba ?_
     refine yao (yam hb18 (fun ht=>yan rfl ?_))
     exact yaz ((),(l12,v13)) (zh2 rfl rfl) (zs1) ht.symm
    rintro ⟨_,⟨l16,v17⟩⟩ τ hz;(try dsimp only at hz);subst q19;(try dsimp only at hb4);dsimp only [pupds]
    refine yaa (yac hb4 fun l34 hl34 hb4=>yae (yak 2 [] [] [(54,pO a_0 p0.length c_0),(55,pI v17)] fo0 (by kernel_rfl) (ycv rfl rfl rfl (ymv (enc:=eS) (xs:=l16) rfl rfl rfl rfl rfl zm0 hl34) (ybt rfl rfl (xbu (enc:=eS) (xs:=l16) (z0:=ByteArray.empty) (i:=v17) rfl rfl rfl rfl hl34 rfl rfl rfl rfl zuh (yax (yab (yaa (yac hb4 fun l35 hl35 hb4=>yae (yak 2 [] [] [(57,pO a_0 p0.length c_0),(58,pI v17)] fo0 (by kernel_rfl) ?_))))))))))
    refine yat rfl rfl rfl (xbt (enc:=eS) (xs:=(List.take v17.toNat l16++List.replicate (p0.length - v17.toNat) ByteArray.empty)) rfl rfl rfl rfl rfl (by exact zph) hl35 ?_)
    refine yap [] [] [(2,pO a_0 l35.length c_0)] fo0 (by kernel_rfl) (yab (yai (yaf (yah ?_))))
    refine ybb hb4 (fun ht=>?_);subst ht
    refine yaf (ybc ?_)
    obtain rfl:=osi h
    exact ybh (ygl (ybm rfl)) (zs1) ⟨_,_,rfl,rfl⟩
   refine yag ?_
   refine yal (yab (yad [] [14,15] [(3,pI (IntKind.i64.wrap (v2+1)))] fo0 (by kernel_rfl) ?_))
   exact ybk hb4 () (zh2 rfl rfl) (zs1)
  refine yba ?_
  refine yao (yam hb4 (fun ht=>yan rfl ?_))
  exact yaz ((),()) (zh1 rfl) (zs1) ht.symm
 rintro ⟨_,_⟩ τ hz;(try dsimp only at hz);subst q5;(try dsimp only at h);dsimp only [pupds]
 refine yaa (yad [] [60] [(2,pO a_0 p0.length c_0)] fo0 (by kernel_rfl) (yab (yai ?_)))
 obtain rfl:=osi h
 exact ybh (ygl (ybm rfl)) (zs1) ⟨_,_,rfl,rfl⟩
def yct (p0:Zr) (p1:Zb) (p2:Int):Option Ze:=Option.bind (loopF (S:=Int) (T:=(Unit)⊕(_)) (fun v3=>cond (decide (v3<(p0.partners.length:Int))) (Option.bind (idx p0.partners v3) (fun m7=>cond ((mget p0.set_ (⟨p1.ID,m7⟩:Za)).getD false) (some (.inr (.inr (Ze.proved_ (⟨(⟨p1.Code,p2,true⟩:Zl),(⟨p1.ID,m7⟩:Za)⟩:Zq))))) (some (.inl (IntKind.i64.wrap (v3+1)))))) (some (.inr (.inl ())))) FUEL 0) (fun q=>match q with | .inl _=>some (Ze.plain_ (⟨(⟨p1.Code,p2,false⟩:Zl)⟩:Zs)) | .inr e=>some e)
theorem yhg {p0:Zr} {p1:Zb} {p2:Int} {m0_set_:Nat} {r:Ze}  (h:yct p0 p1 p2=some r):PCall 127 [.agg [pL eI p0.partners,.v (.map (some m0_set_))],.agg [pI p1.ID,pS p1.Code,pS p1.Country,pI p1.Price,pB p1.Obtained,pL eS p1.Processes,pL Zf.enc p1.Inputs],pI p2] [PRes.mp (some m0_set_) (menc Za.key vT p0.set_)] (fun pv ρ'=>pv=Ze.pv r∧ρ'=[PRes.mp (some m0_set_) (menc Za.key vT p0.set_)]):=by
 unfold yct at h
 refine ybd Tryz.func127 fk127 rfl Tryz.ntmps127 Tryz.results127 rfl (yaa (yae (yat rfl rfl rfl (ycp (cs:=[pL eI p0.partners,.v (.map (some m0_set_))]) rfl rfl (fun b1=>yat rfl rfl rfl (ycp (cs:=[pI p1.ID,pS p1.Code,pS p1.Country,pI p1.Price,pB p1.Obtained,pL eS p1.Processes,pL Zf.enc p1.Inputs]) rfl rfl (fun b2=>yap [] [6] [] fo0 (by kernel_rfl) (yab (yaa (yaa (yad [1] [10] [(11,pL eI p0.partners),(12,pI (p0.partners.length:Int)),(13,pI 0)] fo0 (by kernel_rfl) (yab (yac h fun q5 hq5 h=>?_)))))))))))))
 refine yas (Y:=(Unit)×(Unit)) (fun (_,_)=>[(2,pI p2),(4,pP b2 0)]) (fun (_,_)=>[PRes.b b2 46 [pI p1.ID,pS p1.Code,pS p1.Country,pI p1.Price,pB p1.Obtained,pL eS p1.Processes,pL Zf.enc p1.Inputs],PRes.mp (some m0_set_) (menc Za.key vT p0.set_)]) (fun (_,_)=>q5=Sum.inl ()) ?_ ?_
 ·refine yaj ?_
  refine yaw (Y:=Unit) (S:=Int) _ hq5 (fun _ v3=>[(2,pI p2),(3,pP b1 0),(4,pP b2 0),(11,pL eI p0.partners),(12,pI (p0.partners.length:Int)),(13,pI v3)]) (fun _ v3=>[PRes.b b1 130 [pL eI p0.partners,.v (.map (some m0_set_))],PRes.b b2 46 [pI p1.ID,pS p1.Code,pS p1.Country,pI p1.Price,pB p1.Obtained,pL eS p1.Processes,pL Zf.enc p1.Inputs],PRes.mp (some m0_set_) (menc Za.key vT p0.set_)]) () (zh6 rfl rfl rfl rfl rfl rfl) (zsc (zpt zph) (zs2)) ?_
  rintro _ v3 o τ hb4;(try dsimp only at hb4);dsimp only [pupds]
  refine yaa (yad [] [] [(14,pB (decide (v3<(p0.partners.length:Int))))] fo0 (by kernel_rfl) (yab (yaa (zif rfl hb4 (fun hc6 hb4=>?_) fun hc6 hb4=>?_))))
  ·refine yag ?_
   refine yab (yaa (yaj (yaa (yac hb4 fun m7 hm7 hb4=>yad [] [15,16] [(8,pI m7)] (yjt 0 eI hm7 fo0) (by kernel_rfl) (yab (yaa (yae (yak 4 [1] [17,18,19] [(20,.agg [pI p1.ID,pI m7])] fo0 (by kernel_rfl) (yat rfl rfl rfl (ybg (cs:=[pI 0,pI 0]) rfl rfl rfl rfl (fun b8=>ybt rfl rfl (yar (vs:=[pI p1.ID,pI m7]) rfl rfl rfl rfl rfl zuh (zl2) (yax (yab (yaa (yae (yak 3 [1,0] [21] [(22,.v (.map (some m0_set_))),(23,.agg [pI p1.ID,pI m7])] fo0 (by kernel_rfl) (ycv rfl rfl rfl (show POpQ _ _ _ _ (pB ((mget p0.set_ (⟨p1.ID,m7⟩:Za)).getD false)) from xlf (xs:=p0.set_) (k:=(⟨p1.ID,m7⟩:Za)) (ek:=Za.key) (vv:=vT) (z0:=false) rfl rfl rfl (fun _=>.v rfl) Za.kenc54 (.p rfl) (.p rfl) kP_key (mapIs_mp zm3)) (yax (yab (zif rfl hb4 (fun hc9 hb4=>?_) fun hc9 hb4=>?_)))))))))))))))))))))
   ·refine yaa ?_
    refine yad [2,0] (rg 25 7) [(6,Ze.pv (Ze.proved_ (⟨(⟨p1.Code,p2,true⟩:Zl),(⟨p1.ID,m7⟩:Za)⟩:Zq)))] fo0 (by kernel_rfl) (yab (yai (yaf (yah ?_))))
    refine ybb hb4 (fun ht=>?_);subst ht
    refine yaf (ybc ?_)
    obtain rfl:=osi h
    exact ybh (ygl (ybm rfl)) (zsc (zpt (zpt (zpt zph))) zsn) ⟨rfl,rfl⟩
   refine yag ?_
   refine yal (yab (yad [] [32] [(13,pI (IntKind.i64.wrap (v3+1)))] fo0 (by kernel_rfl) ?_))
   exact ybk hb4 () (zh6 rfl rfl rfl rfl rfl rfl) (zsc (zpt zph) (zsc (zpt zph) (zsc (zpt zph) zsn)))
  refine yba ?_
  refine yao (yam hb4 (fun ht=>yan rfl ?_))
  exact yaz ((),()) (zh2 rfl rfl) (zsc (zpt zph) (zsc (zpt zph) zsn)) ht.symm
 rintro ⟨_,_⟩ τ hz;(try dsimp only at hz);subst q5;(try dsimp only at h);dsimp only [pupds]
 refine yaa (yad [0] (rg 33 6) [(6,Ze.pv (Ze.plain_ (⟨(⟨p1.Code,p2,false⟩:Zl)⟩:Zs)))] fo0 (by kernel_rfl) (yab (yai ?_)))
 obtain rfl:=osi h
 exact ybh (ygl (ybm rfl)) (zsc (zpt zph) zsn) ⟨rfl,rfl⟩
def ygf (p0:Int):Option Int:=Option.bind (cond (decide (4294967296≤p0)) (some ((ishr .u64 p0 32),32)) (some (p0,0))) (fun (v1,v2)=>Option.bind (cond (decide (65536≤v1)) (some ((ishr .u64 v1 16),(IntKind.i64.wrap (v2+16)))) (some (v1,v2))) (fun (v5,v6)=>Option.bind (cond (decide (256≤v5)) (some ((ishr .u64 v5 8),(IntKind.i64.wrap (v6+8)))) (some (v5,v6))) (fun (v9,v10)=>Option.bind (idx (⟨#[0,1,2,2,3,3,3,3,4,4,4,4,4,4,4,4,5,5,5,5,5,5,5,5,5,5,5,5,5,5,5,5,6,6,6,6,6,6,6,6,6,6,6,6,6,6,6,6,6,6,6,6,6,6,6,6,6,6,6,6,6,6,6,6,7,7,7,7,7,7,7,7,7,7,7,7,7,7,7,7,7,7,7,7,7,7,7,7,7,7,7,7,7,7,7,7,7,7,7,7,7,7,7,7,7,7,7,7,7,7,7,7,7,7,7,7,7,7,7,7,7,7,7,7,7,7,7,7,8,8,8,8,8,8,8,8,8,8,8,8,8,8,8,8,8,8,8,8,8,8,8,8,8,8,8,8,8,8,8,8,8,8,8,8,8,8,8,8,8,8,8,8,8,8,8,8,8,8,8,8,8,8,8,8,8,8,8,8,8,8,8,8,8,8,8,8,8,8,8,8,8,8,8,8,8,8,8,8,8,8,8,8,8,8,8,8,8,8,8,8,8,8,8,8,8,8,8,8,8,8,8,8,8,8,8,8,8,8,8,8,8,8,8,8,8,8,8,8,8,8,8,8,8,8,8,8]⟩:ByteArray).data.toList (IntKind.u8.wrap v9)) (fun c13=>lb ((IntKind.i64.wrap (v10+(IntKind.i64.wrap (c13.toNat:Int))))) (fun w14=>some w14)))))
theorem ysa {p0:Int} {r:Int}  (h:ygf p0=some r):PF 152 [pU p0] (pI r):=by
 unfold ygf at h
 refine ycf ?_
 refine ybd Tryz.func152 fk152 rfl Tryz.ntmps152 Tryz.results152 rfl (yaa (yad [] [] [(2,pI 0)] fo0 (by kernel_rfl) (yab (yaa (yaa (yad [] [3] [(4,pB (decide (4294967296≤p0)))] fo0 (by kernel_rfl) (yab (yac h fun q3 hq3 h=>?_))))))))
 refine yas (Y:=(Unit)×(Int×Int)) (fun (_,(v1,v2))=>[(0,pU v1),(2,pI v2)]) (fun (_,(v1,v2))=>[]) (fun (_,(v1,v2))=>q3=(v1,v2)) ?_ ?_
 ·skip
  refine zif rfl hq3 (fun hc4 hq3=>?_) fun hc4 hq3=>?_
  ·refine yaa ?_
   refine yad [] [5,6] [(0,pU (ishr .u64 p0 32))] fo0 (by kernel_rfl) (yab (yad [] [] [(2,pI 32)] fo0 (by kernel_rfl) ?_))
   obtain rfl:=osi hq3
   exact yaz ((),((ishr .u64 p0 32),32)) (zh2 rfl rfl) zsn rfl
  refine yag ?_
  obtain rfl:=osi hq3
  exact yaz ((),(p0,0)) (zh2 rfl rfl) zsn rfl
 rintro ⟨_,⟨v1,v2⟩⟩ τ hz;(try dsimp only at hz);subst q3;(try dsimp only at h);dsimp only [pupds]
 refine yaa (yaa (yad [] [7] [(8,pB (decide (65536≤v1)))] fo0 (by kernel_rfl) (yab (yac h fun q7 hq7 h=>?_))))
 refine yas (Y:=(Unit)×(Int×Int)) (fun (_,(v5,v6))=>[(0,pU v5),(2,pI v6)]) (fun (_,(v5,v6))=>[]) (fun (_,(v5,v6))=>q7=(v5,v6)) ?_ ?_
 ·skip
  refine zif rfl hq7 (fun hc8 hq7=>?_) fun hc8 hq7=>?_
  ·refine yaa ?_
   refine yad [] [9,10] [(0,pU (ishr .u64 v1 16))] fo0 (by kernel_rfl) (yab (yad [] [11,12] [(2,pI (IntKind.i64.wrap (v2+16)))] fo0 (by kernel_rfl) ?_))
   obtain rfl:=osi hq7
   exact yaz ((),((ishr .u64 v1 16),(IntKind.i64.wrap (v2+16)))) (zh2 rfl rfl) zsn rfl
  refine yag ?_
  obtain rfl:=osi hq7
  exact yaz ((),(v1,v2)) (zh2 rfl rfl) zsn rfl
 rintro ⟨_,⟨v5,v6⟩⟩ τ hz;(try dsimp only at hz);subst q7;(try dsimp only at h);dsimp only [pupds]
 refine yaa (yaa (yad [] [13] [(14,pB (decide (256≤v5)))] fo0 (by kernel_rfl) (yab (yac h fun q11 hq11 h=>?_))))
 refine yas (Y:=(Unit)×(Int×Int)) (fun (_,(v9,v10))=>[(0,pU v9),(2,pI v10)]) (fun (_,(v9,v10))=>[]) (fun (_,(v9,v10))=>q11=(v9,v10)) ?_ ?_
 ·skip
  refine zif rfl hq11 (fun hc12 hq11=>?_) fun hc12 hq11=>?_
  ·refine yaa ?_
   refine yad [] [15,16] [(0,pU (ishr .u64 v5 8))] fo0 (by kernel_rfl) (yab (yad [] [17,18] [(2,pI (IntKind.i64.wrap (v6+8)))] fo0 (by kernel_rfl) ?_))
   obtain rfl:=osi hq11
   exact yaz ((),((ishr .u64 v5 8),(IntKind.i64.wrap (v6+8)))) (zh2 rfl rfl) zsn rfl
  refine yag ?_
  obtain rfl:=osi hq11
  exact yaz ((),(v5,v6)) (zh2 rfl rfl) zsn rfl
 rintro ⟨_,⟨v9,v10⟩⟩ τ hz;(try dsimp only at hz);subst q11;(try dsimp only at h);dsimp only [pupds]
 refine yaa (yac h fun c13 hc13 h=>?_)
 refine yhc h ?_;clear h;intro w14 hw14 h
 refine yae (yak 6 [] (rg 19 5) [(24,pI (IntKind.i64.wrap (v10+(IntKind.i64.wrap (c13.toNat:Int)))))] (fosx 3 (s:=(⟨#[0,1,2,2,3,3,3,3,4,4,4,4,4,4,4,4,5,5,5,5,5,5,5,5,5,5,5,5,5,5,5,5,6,6,6,6,6,6,6,6,6,6,6,6,6,6,6,6,6,6,6,6,6,6,6,6,6,6,6,6,6,6,6,6,7,7,7,7,7,7,7,7,7,7,7,7,7,7,7,7,7,7,7,7,7,7,7,7,7,7,7,7,7,7,7,7,7,7,7,7,7,7,7,7,7,7,7,7,7,7,7,7,7,7,7,7,7,7,7,7,7,7,7,7,7,7,7,7,8,8,8,8,8,8,8,8,8,8,8,8,8,8,8,8,8,8,8,8,8,8,8,8,8,8,8,8,8,8,8,8,8,8,8,8,8,8,8,8,8,8,8,8,8,8,8,8,8,8,8,8,8,8,8,8,8,8,8,8,8,8,8,8,8,8,8,8,8,8,8,8,8,8,8,8,8,8,8,8,8,8,8,8,8,8,8,8,8,8,8,8,8,8,8,8,8,8,8,8,8,8,8,8,8,8,8,8,8,8,8,8,8,8,8,8,8,8,8,8,8,8,8,8,8,8,8,8]⟩:ByteArray)) hc13 fo0) (by kernel_rfl) (ycv rfl rfl rfl (ycq rfl (.p (congrArg (fun z=>PV.v (Value.int .i64 z)) hw14))) (yax (yab (yai ?_)))))
 obtain rfl:=osi h
 exact zq rfl ⟨rfl,rfl⟩
def ydg (p0:Int):Option Int:=Option.bind (ygf p0) (fun x1=>some (IntKind.i64.wrap (64 - x1)))
theorem ylq {p0:Int} {r:Int}  (h:ydg p0=some r):PF 217 [pU p0] (pI r):=by
 unfold ydg at h
 refine ycf ?_
 refine ybd Tryz.func217 fk217 rfl Tryz.ntmps217 Tryz.results217 rfl (yaa (yad [] [2] [] fo0 (by kernel_rfl) (yab (yaa (yac h fun x1 hx1 h=>yad [] [3,4,5] [(2,pI (IntKind.i64.wrap (64 - x1)))] (yew 1 (ysa hx1) fo0) (by kernel_rfl) (yab (yai ?_)))))))
 obtain rfl:=osi h
 exact zq rfl ⟨rfl,rfl⟩
def yhh (p0:Int) (p1:Int) (p2:Int):Option (Int×Int):=cond (p2 == 0) (none) (cond (decide (p2≤p0)) (none) (cond (p0 == 0) (Option.bind (nz p2) (fun u4=>Option.bind (nz p2) (fun u5=>some ((IntKind.u64.wrap (Int.tdiv p1 p2)),(Int.tmod p1 p2))))) (Option.bind (ydg p2) (fun x6=>Option.bind (ge0 (IntKind.u64.wrap x6)) (fun u7=>lb ((ishr .u64 (ishl .u64 p2 (IntKind.u64.wrap x6)) 32)) (fun w8=>lb ((iand .u64 (ishl .u64 p2 (IntKind.u64.wrap x6)) 4294967295)) (fun w9=>Option.bind (ge0 (IntKind.u64.wrap x6)) (fun u10=>Option.bind (ge0 (IntKind.u64.wrap (64 - (IntKind.u64.wrap x6)))) (fun u11=>lb ((ior .u64 (ishl .u64 p0 (IntKind.u64.wrap x6)) (ishr .u64 p1 (IntKind.u64.wrap (64 - (IntKind.u64.wrap x6)))))) (fun w12=>Option.bind (ge0 (IntKind.u64.wrap x6)) (fun u13=>lb ((ishr .u64 (ishl .u64 p1 (IntKind.u64.wrap x6)) 32)) (fun w14=>lb ((iand .u64 (ishl .u64 p1 (IntKind.u64.wrap x6)) 4294967295)) (fun w15=>Option.bind (nz w8) (fun u16=>lb ((IntKind.u64.wrap (w12 - (IntKind.u64.wrap ((IntKind.u64.wrap (Int.tdiv w12 w8))*w8))))) (fun w17=>Option.bind (loopF (S:=Int×Int) (T:=(Int)) (fun (v18,v19)=>cond ((decide (4294967296≤v18))||(decide ((IntKind.u64.wrap ((IntKind.u64.wrap (4294967296*v19))+w14))<(IntKind.u64.wrap (v18*w9))))) (cond (decide (4294967296≤(IntKind.u64.wrap (v19+w8)))) (some (.inr (IntKind.u64.wrap (v18 - 1)))) (some (.inl ((IntKind.u64.wrap (v18 - 1)),(IntKind.u64.wrap (v19+w8)))))) (some (.inr v18))) FUEL ((IntKind.u64.wrap (Int.tdiv w12 w8)),w17)) (fun v20=>lb ((IntKind.u64.wrap ((IntKind.u64.wrap ((IntKind.u64.wrap (w12*4294967296))+w14)) - (IntKind.u64.wrap (v20*(ishl .u64 p2 (IntKind.u64.wrap x6))))))) (fun w25=>Option.bind (nz w8) (fun u26=>lb ((IntKind.u64.wrap (w25 - (IntKind.u64.wrap ((IntKind.u64.wrap (Int.tdiv w25 w8))*w8))))) (fun w27=>Option.bind (loopF (S:=Int×Int) (T:=(Int)) (fun (v28,v29)=>cond ((decide (4294967296≤v29))||(decide ((IntKind.u64.wrap ((IntKind.u64.wrap (4294967296*v28))+w15))<(IntKind.u64.wrap (v29*w9))))) (cond (decide (4294967296≤(IntKind.u64.wrap (v28+w8)))) (some (.inr (IntKind.u64.wrap (v29 - 1)))) (some (.inl ((IntKind.u64.wrap (v28+w8)),(IntKind.u64.wrap (v29 - 1)))))) (some (.inr v29))) FUEL (w27,(IntKind.u64.wrap (Int.tdiv w25 w8)))) (fun v30=>Option.bind (ge0 (IntKind.u64.wrap x6)) (fun u35=>lb ((IntKind.u64.wrap ((IntKind.u64.wrap (v20*4294967296))+v30))) (fun w36=>lb ((ishr .u64 (IntKind.u64.wrap ((IntKind.u64.wrap ((IntKind.u64.wrap (w25*4294967296))+w15)) - (IntKind.u64.wrap (v30*(ishl .u64 p2 (IntKind.u64.wrap x6)))))) (IntKind.u64.wrap x6))) (fun w37=>some (w36,w37))))))))))))))))))))))))
theorem ysb {p0:Int} {p1:Int} {p2:Int} {r:(Int×Int)}  (h:yhh p0 p1 p2=some r):PF 206 [pU p0,pU p1,pU p2] (.tup [pU r.1,pU r.2]):=by
 unfold yhh at h
 refine ycf ?_
 refine ybd Tryz.func206 fk206 rfl Tryz.ntmps206 Tryz.results206 rfl (yaa (yad [] [6,7] [] fo0 (by kernel_rfl) (yab (yaa (yaa (yad [] [19] [(20,pB (p2 == 0))] fo0 (by kernel_rfl) (yab (zif rfl h (fun hc1 h=>?_) fun hc1 h=>?_))))))))
 ·refine yae ?_
  exact absurd h (by simp)
 refine yag ?_
 refine yab (yaa (yaa (yad [] [22,23] [(24,pB (decide (p2≤p0)))] fo0 (by kernel_rfl) (yab (zif rfl h (fun hc2 h=>?_) fun hc2 h=>?_)))))
 ·refine yae ?_
  exact absurd h (by simp)
 refine yag ?_
 refine yab (yaa (yaa (yad [] [26] [(27,pB (p0 == 0))] fo0 (by kernel_rfl) (yab (zif rfl h (fun hc3 h=>?_) fun hc3 h=>?_)))))
 ·refine yaa ?_
  refine ydq (ρd:=[]) [(0,0),(1,0),(2,0),(3,0),(4,0),(5,0),(6,0),(7,0)] _ (List.Perm.refl _) (by kernel_rfl) rfl (yac h fun u4 hu4 h=>yac h fun u5 hu5 h=>ycr 8 [] (rg 28 6) [(6,pU (IntKind.u64.wrap (Int.tdiv p1 p2))),(7,pU (Int.tmod p1 p2))] (fonz 2 hu4 (fonz 5 hu5 fo0)) (by kernel_rfl) (yfd (yab (yai (yah ?_)))))
  obtain rfl:=osi h
  exact ybh (yid (ybm rfl) (ybm rfl)) zsn ⟨rfl,rfl⟩
 refine yag ?_
 refine yab (yaa (yac h fun x6 hx6 h=>yad [] [34,35,36] [(8,pU (IntKind.u64.wrap x6))] (yew 1 (ylq hx6) fo0) (by kernel_rfl) (yab (yaa (yac h fun u7 hu7 h=>yad [] [37,38,39] [(2,pU (ishl .u64 p2 (IntKind.u64.wrap x6)))] (foge 2 hu7 fo0) (by kernel_rfl) (yab (yaa ?_)))))))
 refine yhc h ?_;clear h;intro w8 hw8 h
 refine yae (yak 2 [] [40] [(41,pU (ishr .u64 (ishl .u64 p2 (IntKind.u64.wrap x6)) 32))] fo0 (by kernel_rfl) (ycv rfl rfl rfl (ycq rfl (.p (congrArg (fun z=>PV.v (Value.int .u64 z)) hw8))) (yax (yab (yaa ?_)))))
 refine yhc h ?_;clear h;intro w9 hw9 h
 refine yae (yak 2 [] [42] [(43,pU (iand .u64 (ishl .u64 p2 (IntKind.u64.wrap x6)) 4294967295))] fo0 (by kernel_rfl) (ycv rfl rfl rfl (ycq rfl (.p (congrArg (fun z=>PV.v (Value.int .u64 z)) hw9))) (yax (yab (yaa (yac h fun u10 hu10 h=>yac h fun u11 hu11 h=>?_))))))
 refine yhc h ?_;clear h;intro w12 hw12 h
 refine yae (yak 8 [] (rg 44 7) [(51,pU (ior .u64 (ishl .u64 p0 (IntKind.u64.wrap x6)) (ishr .u64 p1 (IntKind.u64.wrap (64 - (IntKind.u64.wrap x6))))))] (foge 2 hu10 (foge 6 hu11 fo0)) (by kernel_rfl) (ycv rfl rfl rfl (ycq rfl (.p (congrArg (fun z=>PV.v (Value.int .u64 z)) hw12))) (yax (yab (yaa (yac h fun u13 hu13 h=>yad [] [52,53,54] [(12,pU (ishl .u64 p1 (IntKind.u64.wrap x6)))] (foge 2 hu13 fo0) (by kernel_rfl) (yab (yaa ?_))))))))
 refine yhc h ?_;clear h;intro w14 hw14 h
 refine yae (yak 2 [] [55] [(56,pU (ishr .u64 (ishl .u64 p1 (IntKind.u64.wrap x6)) 32))] fo0 (by kernel_rfl) (ycv rfl rfl rfl (ycq rfl (.p (congrArg (fun z=>PV.v (Value.int .u64 z)) hw14))) (yax (yab (yaa ?_)))))
 refine yhc h ?_;clear h;intro w15 hw15 h
 refine yae (yak 2 [] [57] [(58,pU (iand .u64 (ishl .u64 p1 (IntKind.u64.wrap x6)) 4294967295))] fo0 (by kernel_rfl) (ycv rfl rfl rfl (ycq rfl (.p (congrArg (fun z=>PV.v (Value.int .u64 z)) hw15))) (yax (yab (yaa (yac h fun u16 hu16 h=>yad [] [59,60,61] [(15,pU (IntKind.u64.wrap (Int.tdiv w12 w8)))] (fonz 2 hu16 fo0) (by kernel_rfl) (yab (yaa ?_))))))))
 refine yhc h ?_;clear h;intro w17 hw17 h
 refine yae (yak 5 [] [62,63,64,65] [(66,pU (IntKind.u64.wrap (w12 - (IntKind.u64.wrap ((IntKind.u64.wrap (Int.tdiv w12 w8))*w8)))))] fo0 (by kernel_rfl) (ycv rfl rfl rfl (ycq rfl (.p (congrArg (fun z=>PV.v (Value.int .u64 z)) hw17))) (yax (yab (yaa (yac h fun q22 hq22 h=>?_))))))
 refine yas (Y:=(Unit)×(Int)) (fun (_,v20)=>[(2,pU (ishl .u64 p2 (IntKind.u64.wrap x6))),(8,pU (IntKind.u64.wrap x6)),(9,pU w8),(10,pU w9),(11,pU w12),(13,pU w14),(14,pU w15),(15,pU v20)]) (fun (_,v20)=>[]) (fun (_,v20)=>q22=v20) ?_ ?_
 ·refine yaj ?_
  refine yaw (Y:=Unit) (S:=Int×Int) _ hq22 (fun _ (v18,v19)=>[(2,pU (ishl .u64 p2 (IntKind.u64.wrap x6))),(8,pU (IntKind.u64.wrap x6)),(9,pU w8),(10,pU w9),(11,pU w12),(13,pU w14),(14,pU w15),(15,pU v18),(16,pU v19)]) (fun _ (v18,v19)=>[]) () (zh9 rfl rfl rfl rfl rfl rfl rfl rfl rfl) zsn ?_
  rintro _ ⟨v18,v19⟩ o τ hb21;(try dsimp only at hb21);dsimp only [pupds]
  refine yaa (yaa (yad [] (rg 67 11) [(78,pB ((decide (4294967296≤v18))||(decide ((IntKind.u64.wrap ((IntKind.u64.wrap (4294967296*v19))+w14))<(IntKind.u64.wrap (v18*w9))))))] fo0 (by kernel_rfl) (yab (zif rfl hb21 (fun hc23 hb21=>?_) fun hc23 hb21=>?_))))
  ·refine yag ?_
   refine yab (yaj (yaa (yad [] [79,80] [(15,pU (IntKind.u64.wrap (v18 - 1)))] fo0 (by kernel_rfl) (yab (yaa (yad [] [81,82,83] [(16,pU (IntKind.u64.wrap (v19+w8)))] fo0 (by kernel_rfl) (yab (yaa (yad [] [84] [(85,pB (decide (4294967296≤(IntKind.u64.wrap (v19+w8)))))] fo0 (by kernel_rfl) (yab (zif rfl hb21 (fun hc24 hb21=>?_) fun hc24 hb21=>?_)))))))))))
   ·refine yba ?_
    refine yrf rfl (yam hb21 (fun ht=>yan rfl ?_))
    exact yaz ((),(IntKind.u64.wrap (v18 - 1))) (zh8 rfl rfl rfl rfl rfl rfl rfl rfl) zsn ht.symm
   refine yag ?_
   refine yal ?_
   exact ybk hb21 () (zh9 rfl rfl rfl rfl rfl rfl rfl rfl rfl) zsn
  refine yba ?_
  refine yao (yam hb21 (fun ht=>yan rfl ?_))
  exact yaz ((),v18) (zh8 rfl rfl rfl rfl rfl rfl rfl rfl) zsn ht.symm
 rintro ⟨_,v20⟩ τ hz;(try dsimp only at hz);subst q22;(try dsimp only at h);dsimp only [pupds]
 refine yaa ?_
 refine yhc h ?_;clear h;intro w25 hw25 h
 refine yae (yak 8 [] (rg 86 7) [(93,pU (IntKind.u64.wrap ((IntKind.u64.wrap ((IntKind.u64.wrap (w12*4294967296))+w14)) - (IntKind.u64.wrap (v20*(ishl .u64 p2 (IntKind.u64.wrap x6)))))))] fo0 (by kernel_rfl) (ycv rfl rfl rfl (ycq rfl (.p (congrArg (fun z=>PV.v (Value.int .u64 z)) hw25))) (yax (yab (yaa (yac h fun u26 hu26 h=>yad [] [94,95,96] [(18,pU (IntKind.u64.wrap (Int.tdiv w25 w8)))] (fonz 2 hu26 fo0) (by kernel_rfl) (yab (yaa ?_))))))))
 refine yhc h ?_;clear h;intro w27 hw27 h
 refine yae (yak 5 [] [97,98,99,100] [(101,pU (IntKind.u64.wrap (w25 - (IntKind.u64.wrap ((IntKind.u64.wrap (Int.tdiv w25 w8))*w8)))))] fo0 (by kernel_rfl) (ycv rfl rfl rfl (ycq rfl (.p (congrArg (fun z=>PV.v (Value.int .u64 z)) hw27))) (yax (yab (yaa (yac h fun q32 hq32 h=>?_))))))
 refine yas (Y:=(Unit)×(Int)) (fun (_,v30)=>[(2,pU (ishl .u64 p2 (IntKind.u64.wrap x6))),(8,pU (IntKind.u64.wrap x6)),(14,pU w15),(15,pU v20),(17,pU w25),(18,pU v30)]) (fun (_,v30)=>[]) (fun (_,v30)=>q32=v30) ?_ ?_
 ·refine yaj ?_
  refine yaw (Y:=Unit) (S:=Int×Int) _ hq32 (fun _ (v28,v29)=>[(2,pU (ishl .u64 p2 (IntKind.u64.wrap x6))),(8,pU (IntKind.u64.wrap x6)),(9,pU w8),(10,pU w9),(14,pU w15),(15,pU v20),(16,pU v28),(17,pU w25),(18,pU v29)]) (fun _ (v28,v29)=>[]) () (zh9 rfl rfl rfl rfl rfl rfl rfl rfl rfl) zsn ?_
  rintro _ ⟨v28,v29⟩ o τ hb31;(try dsimp only at hb31);dsimp only [pupds]
  refine yaa (yaa (yad [] (rg 102 11) [(113,pB ((decide (4294967296≤v29))||(decide ((IntKind.u64.wrap ((IntKind.u64.wrap (4294967296*v28))+w15))<(IntKind.u64.wrap (v29*w9))))))] fo0 (by kernel_rfl) (yab (zif rfl hb31 (fun hc33 hb31=>?_) fun hc33 hb31=>?_))))
  ·refine yag ?_
   refine yab (yaj (yaa (yad [] [114,115] [(18,pU (IntKind.u64.wrap (v29 - 1)))] fo0 (by kernel_rfl) (yab (yaa (yad [] [116,117,118] [(16,pU (IntKind.u64.wrap (v28+w8)))] fo0 (by kernel_rfl) (yab (yaa (yad [] [119] [(120,pB (decide (4294967296≤(IntKind.u64.wrap (v28+w8)))))] fo0 (by kernel_rfl) (yab (zif rfl hb31 (fun hc34 hb31=>?_) fun hc34 hb31=>?_)))))))))))
   ·refine yba ?_
    refine yrf rfl (yam hb31 (fun ht=>yan rfl ?_))
    exact yaz ((),(IntKind.u64.wrap (v29 - 1))) (zh6 rfl rfl rfl rfl rfl rfl) zsn ht.symm
   refine yag ?_
   refine yal ?_
   exact ybk hb31 () (zh9 rfl rfl rfl rfl rfl rfl rfl rfl rfl) zsn
  refine yba ?_
  refine yao (yam hb31 (fun ht=>yan rfl ?_))
  exact yaz ((),v29) (zh6 rfl rfl rfl rfl rfl rfl) zsn ht.symm
 rintro ⟨_,v30⟩ τ hz;(try dsimp only at hz);subst q32;(try dsimp only at h);dsimp only [pupds]
 refine yaa (yac h fun u35 hu35 h=>?_)
 refine yhc h ?_;clear h;intro w36 hw36 h
 refine yae (yak 14 [] [121,122,123,125,126,127,128,129,130,131,132,133] [(124,pU (IntKind.u64.wrap ((IntKind.u64.wrap (v20*4294967296))+v30))),(134,pU (ishr .u64 (IntKind.u64.wrap ((IntKind.u64.wrap ((IntKind.u64.wrap (w25*4294967296))+w15)) - (IntKind.u64.wrap (v30*(ishl .u64 p2 (IntKind.u64.wrap x6)))))) (IntKind.u64.wrap x6)))] (foge 13 hu35 fo0) (by kernel_rfl) (ycv rfl rfl rfl (ycq rfl (.p (congrArg (fun z=>PV.v (Value.int .u64 z)) hw36))) ?_))
 refine yhc h ?_;clear h;intro w37 hw37 h
 refine ycv rfl rfl rfl (ycq rfl (.p (congrArg (fun z=>PV.v (Value.int .u64 z)) hw37))) (yax (yab (yai ?_)))
 obtain rfl:=osi h
 exact ybh (yid (ybm rfl) (ybm rfl)) zsn ⟨rfl,rfl⟩
def yka (p0:Int) (p1:Int) (p2:Int) (p3:Int):Option Bool:=cond (p3 == 1) (some (decide (0<p1))) (cond (p3 == 2) (some (decide ((IntKind.u64.wrap (p2 - p1))≤p1))) (cond (p3 == 3) (some ((decide ((IntKind.u64.wrap (p2 - p1))<p1))||((p1 == (IntKind.u64.wrap (p2 - p1)))&&((Int.tmod p0 2) == 1)))) (some false)))
theorem yvk {p0:Int} {p1:Int} {p2:Int} {p3:Int} {r:Bool}  (h:yka p0 p1 p2 p3=some r):PF 207 [pU p0,pU p1,pU p2,pI p3] (pB r):=by
 unfold yka at h
 refine ycf ?_
 refine ybd Tryz.func207 fk207 rfl Tryz.ntmps207 Tryz.results207 rfl (yaa (yad [] [8] [] fo0 (by kernel_rfl) (yab (yaa (yad [] [10,11,12] [(9,pU (IntKind.u64.wrap (p2 - p1)))] fo0 (by kernel_rfl) (yab (yaa (yaa (yad [] [] [(13,pI p3)] fo0 (by kernel_rfl) (yab (yaj (yaa (yad [] [15] [(14,pB (p3 == 1))] fo0 (by kernel_rfl) (yab (zif rfl h (fun hc1 h=>?_) fun hc1 h=>?_)))))))))))))))
 ·refine yaa ?_
  refine yad [] [16,17] [(8,pB (decide (0<p1)))] fo0 (by kernel_rfl) (yab (yai (yaf (yah ?_))))
  obtain rfl:=osi h
  exact zq rfl ⟨rfl,rfl⟩
 refine yaa ?_
 refine yad [] [19] [(18,pB (p3 == 2))] fo0 (by kernel_rfl) (yab (zif rfl h (fun hc2 h=>?_) fun hc2 h=>?_))
 ·refine yaa ?_
  refine yad [] [20,21,22] [(8,pB (decide ((IntKind.u64.wrap (p2 - p1))≤p1)))] fo0 (by kernel_rfl) (yab (yai (yaf (yah ?_))))
  obtain rfl:=osi h
  exact zq rfl ⟨rfl,rfl⟩
 refine yaa ?_
 refine yad [] [24] [(23,pB (p3 == 3))] fo0 (by kernel_rfl) (yab (zif rfl h (fun hc3 h=>?_) fun hc3 h=>?_))
 ·refine yaa ?_
  refine yad [] (rg 25 13) [(8,pB ((decide ((IntKind.u64.wrap (p2 - p1))<p1))||((p1 == (IntKind.u64.wrap (p2 - p1)))&&((Int.tmod p0 2) == 1))))] fo0 (by kernel_rfl) (yab (yai (yaf (yah ?_))))
  obtain rfl:=osi h
  exact zq rfl ⟨rfl,rfl⟩
 refine yag ?_
 refine yal (yab (yaa (yad [] [] [(8,pB false)] fo0 (by kernel_rfl) (yab (yai ?_)))))
 obtain rfl:=osi h
 exact zq rfl ⟨rfl,rfl⟩
def ypk (p0:Zo) (p1:Int) (p2:Int):Option (Int×Int):=cond (((p1 == 0)||(decide (p2<0)))||(decide (3<p2))) (some ((0:Int),(2:Int))) (cond (decide (p1≤p0.Hi)) (some ((0:Int),(3:Int))) (Option.bind (yhh p0.Hi p0.Lo p1) (fun x4=>Option.bind (yka x4.1 x4.2 p1 p2) (fun x5=>cond (!x5) (some (x4.1,(0:Int))) (cond (x4.1 == 18446744073709551615) (some ((0:Int),(3:Int))) (some ((IntKind.u64.wrap (x4.1+1)),(0:Int))))))))
theorem xbz {p0:Zo} {p1:Int} {p2:Int} {r:(Int×Int)}  (h:ypk p0 p1 p2=some r):PF 185 [.agg [pU p0.Hi,pU p0.Lo],pU p1,pI p2] (.tup [pU r.1,pI r.2]):=by
 unfold ypk at h
 refine ycf ?_
 refine ybd Tryz.func185 fk185 rfl Tryz.ntmps185 Tryz.results185 rfl (yaa (yae (yat rfl rfl rfl (ycp (cs:=[pU p0.Hi,pU p0.Lo]) rfl rfl (fun b1=>yap [] [6,7] [] fo0 (by kernel_rfl) (yab (yaa (yaa (yad [] (rg 10 9) [(19,pB (((p1 == 0)||(decide (p2<0)))||(decide (3<p2))))] fo0 (by kernel_rfl) (yab (zif rfl h (fun hc2 h=>?_) fun hc2 h=>?_)))))))))))
 ·refine yaa ?_
  refine yad [] [] [(6,pU 0),(7,pI 2)] fo0 (by kernel_rfl) (yab (yai (yah ?_)))
  obtain rfl:=osi h
  exact ybh (yid (ybm rfl) (ybm rfl)) zsn ⟨rfl,rfl⟩
 refine yag ?_
 refine yab (yaa (yaa (yad [0] [20,21,22] [(23,pB (decide (p1≤p0.Hi)))] fo0 (by kernel_rfl) (yab (zif rfl h (fun hc3 h=>?_) fun hc3 h=>?_)))))
 ·refine yaa ?_
  refine yad [] [] [(6,pU 0),(7,pI 3)] fo0 (by kernel_rfl) (yab (yai (yah ?_)))
  obtain rfl:=osi h
  exact ybh (yid (ybm rfl) (ybm rfl)) zsn ⟨rfl,rfl⟩
 refine yag ?_
 refine yab (yaa (yac h fun x4 hx4 h=>yad [0,0] ((rg 25 6)++[24,31,32]) [(8,pU x4.1),(9,pU x4.2)] (yew 5 (ysb hx4) fo0) (by kernel_rfl) (yab (yaa (yaa (yac h fun x5 hx5 h=>yad [] (rg 33 5) [(38,pB (!x5))] (yew 4 (yvk hx5) fo0) (by kernel_rfl) (yab (zif rfl h (fun hc6 h=>?_) fun hc6 h=>?_))))))))
 ·refine yaa ?_
  refine yad [] [39] [(6,pU x4.1),(7,pI 0)] fo0 (by kernel_rfl) (yab (yai (yah ?_)))
  obtain rfl:=osi h
  exact ybh (yid (ybm rfl) (ybm rfl)) zsn ⟨rfl,rfl⟩
 refine yag ?_
 refine yab (yaa (yaa (yad [] [40] [(41,pB (x4.1 == 18446744073709551615))] fo0 (by kernel_rfl) (yab (zif rfl h (fun hc7 h=>?_) fun hc7 h=>?_)))))
 ·refine yaa ?_
  refine yad [] [] [(6,pU 0),(7,pI 3)] fo0 (by kernel_rfl) (yab (yai (yah ?_)))
  obtain rfl:=osi h
  exact ybh (yid (ybm rfl) (ybm rfl)) zsn ⟨rfl,rfl⟩
 refine yag ?_
 refine yab (yaa (yad [] [42,43] [(6,pU (IntKind.u64.wrap (x4.1+1))),(7,pI 0)] fo0 (by kernel_rfl) (yab (yai ?_))))
 obtain rfl:=osi h
 exact ybh (yid (ybm rfl) (ybm rfl)) zsn ⟨rfl,rfl⟩
def yhi (p0:Int) (p1:Int):Option (Int×Int):=lb ((IntKind.u64.wrap ((iand .u64 p0 4294967295)*(iand .u64 p1 4294967295)))) (fun w1=>lb ((IntKind.u64.wrap ((IntKind.u64.wrap ((ishr .u64 p0 32)*(iand .u64 p1 4294967295)))+(ishr .u64 w1 32)))) (fun w2=>lb ((IntKind.u64.wrap ((iand .u64 w2 4294967295)+(IntKind.u64.wrap ((iand .u64 p0 4294967295)*(ishr .u64 p1 32)))))) (fun w3=>lb ((IntKind.u64.wrap ((IntKind.u64.wrap ((IntKind.u64.wrap ((ishr .u64 p0 32)*(ishr .u64 p1 32)))+(ishr .u64 w2 32)))+(ishr .u64 w3 32)))) (fun w4=>some (w4,(IntKind.u64.wrap (p0*p1)))))))
theorem ysc {p0:Int} {p1:Int} {r:(Int×Int)}  (h:yhi p0 p1=some r):PF 208 [pU p0,pU p1] (.tup [pU r.1,pU r.2]):=by
 unfold yhi at h
 refine ycf ?_
 refine ybd Tryz.func208 fk208 rfl Tryz.ntmps208 Tryz.results208 rfl (yaa (yad [] [4,5] [] fo0 (by kernel_rfl) (yab (yaa (yad [] [14,15] [(6,pU (iand .u64 p0 4294967295))] fo0 (by kernel_rfl) (yab (yaa (yad [] [16,17] [(7,pU (ishr .u64 p0 32))] fo0 (by kernel_rfl) (yab (yaa (yad [] [18,19] [(8,pU (iand .u64 p1 4294967295))] fo0 (by kernel_rfl) (yab (yaa (yad [] [20,21] [(9,pU (ishr .u64 p1 32))] fo0 (by kernel_rfl) (yab (yaa ?_))))))))))))))))
 refine yhc h ?_;clear h;intro w1 hw1 h
 refine yae (yak 3 [] [22,23] [(24,pU (IntKind.u64.wrap ((iand .u64 p0 4294967295)*(iand .u64 p1 4294967295))))] fo0 (by kernel_rfl) (ycv rfl rfl rfl (ycq rfl (.p (congrArg (fun z=>PV.v (Value.int .u64 z)) hw1))) (yax (yab (yaa ?_)))))
 refine yhc h ?_;clear h;intro w2 hw2 h
 refine yae (yak 6 [] (rg 25 5) [(30,pU (IntKind.u64.wrap ((IntKind.u64.wrap ((ishr .u64 p0 32)*(iand .u64 p1 4294967295)))+(ishr .u64 w1 32))))] fo0 (by kernel_rfl) (ycv rfl rfl rfl (ycq rfl (.p (congrArg (fun z=>PV.v (Value.int .u64 z)) hw2))) (yax (yab (yaa (yad [] [31,32] [(12,pU (iand .u64 w2 4294967295))] fo0 (by kernel_rfl) (yab (yaa (yad [] [33,34] [(13,pU (ishr .u64 w2 32))] fo0 (by kernel_rfl) (yab (yaa ?_)))))))))))
 refine yhc h ?_;clear h;intro w3 hw3 h
 refine yae (yak 5 [] [35,36,37,38] [(39,pU (IntKind.u64.wrap ((iand .u64 w2 4294967295)+(IntKind.u64.wrap ((iand .u64 p0 4294967295)*(ishr .u64 p1 32))))))] fo0 (by kernel_rfl) (ycv rfl rfl rfl (ycq rfl (.p (congrArg (fun z=>PV.v (Value.int .u64 z)) hw3))) (yax (yab (yaa ?_)))))
 refine yhc h ?_;clear h;intro w4 hw4 h
 refine yae (yak 8 [] (rg 40 7) [(47,pU (IntKind.u64.wrap ((IntKind.u64.wrap ((IntKind.u64.wrap ((ishr .u64 p0 32)*(ishr .u64 p1 32)))+(ishr .u64 w2 32)))+(ishr .u64 w3 32))))] fo0 (by kernel_rfl) (ycv rfl rfl rfl (ycq rfl (.p (congrArg (fun z=>PV.v (Value.int .u64 z)) hw4))) (yax (yab (yaa (yad [] [48,49,50] [(5,pU (IntKind.u64.wrap (p0*p1)))] fo0 (by kernel_rfl) (yab (yai ?_))))))))
 obtain rfl:=osi h
 exact ybh (yid (ybm rfl) (ybm rfl)) zsn ⟨rfl,rfl⟩
def ykb (p0:Int) (p1:Int):Option Zo:=Option.bind (yhi p0 p1) (fun x2=>some (⟨x2.1,x2.2⟩:Zo))
theorem ypl {p0:Int} {p1:Int} {r:Zo}  (h:ykb p0 p1=some r):PF 186 [pU p0,pU p1] (.agg [pU r.Hi,pU r.Lo]):=by
 unfold ykb at h
 refine ycf ?_
 refine ybd Tryz.func186 fk186 rfl Tryz.ntmps186 Tryz.results186 rfl (yaa (yae (yat rfl rfl rfl (ybg (cs:=[pU 0,pU 0]) rfl rfl rfl rfl (fun b1=>yax (yab (yaa (yac h fun x2 hx2 h=>yad [] [8,9,10,7,11,12] [(5,pU x2.1),(6,pU x2.2)] (yew 2 (ysc hx2) fo0) (by kernel_rfl) (yab (yaa (yae (yak 3 [] [13,14] [(15,.agg [pU x2.1,pU x2.2])] fo0 (by kernel_rfl) (ybt rfl rfl (yar (vs:=[pU x2.1,pU x2.2]) rfl rfl rfl rfl rfl zuh (zl2) (yax (yab (yai ?_)))))))))))))))))
 obtain rfl:=osi h
 exact ybh (ygl (yjs rfl zm0 rfl)) zsn ⟨rfl,rfl⟩
def ymj (p0:Int) (p1:Int) (p2:Int) (p3:Int):Option (Int×Int):=Option.bind (ykb p0 p1) (fun x1=>Option.bind (ypk x1 p2 p3) (fun x2=>some (x2.1,x2.2)))
theorem yvl {p0:Int} {p1:Int} {p2:Int} {p3:Int} {r:(Int×Int)}  (h:ymj p0 p1 p2 p3=some r):PF 166 [pU p0,pU p1,pU p2,pI p3] (.tup [pU r.1,pI r.2]):=by
 unfold ymj at h
 refine ycf ?_
 refine ybd Tryz.func166 fk166 rfl Tryz.ntmps166 Tryz.results166 rfl (yaa (yad [] [8,9] [] fo0 (by kernel_rfl) (yab (yaa (yac h fun x1 hx1 h=>yac h fun x2 hx2 h=>yad [] (rg 10 8) [(8,pU x2.1),(9,pI x2.2)] (yew 2 (ypl hx1) (yew 5 (xbz hx2) fo0)) (by kernel_rfl) (yab (yai ?_)))))))
 obtain rfl:=osi h
 exact ybh (yid (ybm rfl) (ybm rfl)) zsn ⟨rfl,rfl⟩
def yfm (p0:Int) (p1:Int) (p2:Int):Option Int:=Option.bind (ymj (IntKind.u64.wrap p0) (IntKind.u64.wrap p1) (IntKind.u64.wrap p2) 1) (fun x1=>cond ((x1.2 != 0)||(decide (1000000000000<x1.1))) (some (1000000000000:Int)) (some (IntKind.i64.wrap x1.1)))
theorem ypm {p0:Int} {p1:Int} {p2:Int} {r:Int}  (h:yfm p0 p1 p2=some r):PF 128 [pI p0,pI p1,pI p2] (pI r):=by
 unfold yfm at h
 refine ycf ?_
 refine ybd Tryz.func128 fk128 rfl Tryz.ntmps128 Tryz.results128 rfl (yaa (yad [] [6] [] fo0 (by kernel_rfl) (yab (yaa (yac h fun x1 hx1 h=>yad [] ((rg 10 7)++[9,17,18]) [(7,pU x1.1),(8,pI x1.2)] (yew 6 (yvl hx1) fo0) (by kernel_rfl) (yab (yaa (yaa (yad [] (rg 19 5) [(24,pB ((x1.2 != 0)||(decide (1000000000000<x1.1))))] fo0 (by kernel_rfl) (yab (zif rfl h (fun hc2 h=>?_) fun hc2 h=>?_)))))))))))
 ·refine yaa ?_
  refine yad [] [] [(6,pI 1000000000000)] fo0 (by kernel_rfl) (yab (yai (yah ?_)))
  obtain rfl:=osi h
  exact zq rfl ⟨rfl,rfl⟩
 refine yag ?_
 refine yab (yaa (yad [] [25,26] [(6,pI (IntKind.i64.wrap x1.1))] fo0 (by kernel_rfl) (yab (yai ?_))))
 obtain rfl:=osi h
 exact zq rfl ⟨rfl,rfl⟩
def ynd (p0:(List Int)):Option Int:=Option.bind (loopF (S:=Int) (T:=(Unit)⊕(_)) (fun v1=>cond (decide (v1<(p0.length:Int))) (Option.bind (idx p0 v1) (fun m5=>cond (m5 != 0) (some (.inr (.inr m5))) (some (.inl (IntKind.i64.wrap (v1+1)))))) (some (.inr (.inl ())))) FUEL 0) (fun q=>match q with | .inl _=>some (0:Int) | .inr e=>some e)
theorem yzx {p0:(List Int)} {r:Int}  (h:ynd p0=some r):PF 114 [pL eI p0] (pI r):=by
 unfold ynd at h
 refine ycf ?_
 refine ybd Tryz.func114 fk114 rfl Tryz.ntmps114 Tryz.results114 rfl (yaa (yad [] [2] [] fo0 (by kernel_rfl) (yab (yaa (yad [] [] [(3,pI 0)] fo0 (by kernel_rfl) (yab (yaa (yaa (yad [] [] [(6,pL eI p0),(7,pI (p0.length:Int)),(8,pI 0)] fo0 (by kernel_rfl) (yab (yac h fun q3 hq3 h=>?_)))))))))))
 refine yas (Y:=(Unit)×(Unit)) (fun (_,_)=>[(3,pI 0)]) (fun (_,_)=>[]) (fun (_,_)=>q3=Sum.inl ()) ?_ ?_
 ·refine yaj ?_
  refine yaw (Y:=Unit) (S:=Int) _ hq3 (fun _ v1=>[(3,pI 0),(6,pL eI p0),(7,pI (p0.length:Int)),(8,pI v1)]) (fun _ v1=>[]) () (zh4 rfl rfl rfl rfl) zsn ?_
  rintro _ v1 o τ hb2;(try dsimp only at hb2);dsimp only [pupds]
  refine yaa (yad [] [] [(9,pB (decide (v1<(p0.length:Int))))] fo0 (by kernel_rfl) (yab (yaa (zif rfl hb2 (fun hc4 hb2=>?_) fun hc4 hb2=>?_))))
  ·refine yag ?_
   refine yab (yaa (yaj (yaa (yac hb2 fun m5 hm5 hb2=>yad [] [10,11] [(5,pI m5)] (yjt 0 eI hm5 fo0) (by kernel_rfl) (yab (yaa (yad [] [12,13] [(14,pB (m5 != 0))] fo0 (by kernel_rfl) (yab (zif rfl hb2 (fun hc6 hb2=>?_) fun hc6 hb2=>?_)))))))))
   ·refine yaa ?_
    refine yad [] [15] [(2,pI m5)] fo0 (by kernel_rfl) (yab (yai (yaf (yah ?_))))
    refine ybb hb2 (fun ht=>?_);subst ht
    refine yaf (ybc ?_)
    obtain rfl:=osi h
    exact zq rfl ⟨rfl,rfl⟩
   refine yag ?_
   refine yal (yab (yad [] [16] [(8,pI (IntKind.i64.wrap (v1+1)))] fo0 (by kernel_rfl) ?_))
   exact ybk hb2 () (zh4 rfl rfl rfl rfl) zsn
  refine yba ?_
  refine yao (yam hb2 (fun ht=>yan rfl ?_))
  exact yaz ((),()) (zh1 rfl) zsn ht.symm
 rintro ⟨_,_⟩ τ hz;(try dsimp only at hz);subst q3;(try dsimp only at h);dsimp only [pupds]
 refine yaa (yad [] [17] [(2,pI 0)] fo0 (by kernel_rfl) (yab (yai ?_)))
 obtain rfl:=osi h
 exact zq rfl ⟨rfl,rfl⟩
def yej (p0:Za) (p1:Za):Option Int:=Option.bind (yey p0.Product p1.Product) (fun x3=>Option.bind (yey p0.Agreement p1.Agreement) (fun x4=>Option.bind (ynd [x3,x4]) (fun x6=>some x6)))
theorem ylr {p0:Za} {p1:Za} {r:Int}  (h:yej p0 p1=some r):PF 83 [.agg [pI p0.Product,pI p0.Agreement],.agg [pI p1.Product,pI p1.Agreement]] (pI r):=by
 unfold yej at h
 refine ycf ?_
 refine ybd Tryz.func83 fk83 rfl Tryz.ntmps83 Tryz.results83 rfl (yaa (yae (yat rfl rfl rfl (ycp (cs:=[pI p0.Product,pI p0.Agreement]) rfl rfl (fun b1=>yat rfl rfl rfl (ycp (cs:=[pI p1.Product,pI p1.Agreement]) rfl rfl (fun b2=>yap [] [4] [] fo0 (by kernel_rfl) (yab (yaa (ydq (ρd:=[]) [(0,0),(1,0),(2,0),(3,0),(5,0),(6,0),(7,0),(8,0),(4,1),(9,1),(10,1),(11,1),(12,0)] _ (List.Perm.refl _) (by kernel_rfl) rfl (yac h fun x3 hx3 h=>yac h fun x4 hx4 h=>ycr 10 [1,0,1,0] [5,6,7,8,10,11,12,13] [(9,pI x3),(14,pI x4)] (yew 8 (yiv hx3) (yew 9 (yiv hx4) fo0)) (by kernel_rfl) ?_)))))))))))
 refine ytp rfl rfl rfl (pl_fz (yck rfl rfl rfl rfl rfl (zic rfl (zic rfl zin)) rfl rfl rfl rfl (fun b5=>⟨_,_,_,_,_,_,_,rfl,by (repeat (first | exact zph | apply zpt)),?_⟩)))
 refine yac h fun x6 hx6 h=>ycr 2 [] [16] [(4,pI x6)] (yew 0 (yzx hx6) fo0) (by kernel_rfl) (yfd (yab (yai ?_)))
 obtain rfl:=osi h
 exact zq rfl ⟨rfl,rfl⟩
def ygs (p0:Zq):Option Zl:=some p0.use
theorem ylz {p0:Zq} {r:Zl}  (h:ygs p0=some r):PF 244 [.agg [pS p0.use.Code,pI p0.use.Value,pB p0.use.Originating,pI p0.premise.Product,pI p0.premise.Agreement]] (.agg [pS r.Code,pI r.Value,pB r.Originating]):=by
 unfold ygs at h
 refine ycf ?_
 refine ybd Tryz.func244 fk244 rfl Tryz.ntmps244 Tryz.results244 rfl (yaa (yae (yat rfl rfl rfl (ycp (cs:=[pS p0.use.Code,pI p0.use.Value,pB p0.use.Originating,pI p0.premise.Product,pI p0.premise.Agreement]) rfl rfl (fun b1=>yat rfl rfl rfl (ybg (cs:=[pS ByteArray.empty,pI 0,pB false]) rfl rfl rfl rfl (fun b2=>yax (yab (yaa (yae (yak 2 [1] [3] [(4,.agg [pS p0.use.Code,pI p0.use.Value,pB p0.use.Originating])] fo0 (by kernel_rfl) (ybt rfl rfl (yar (vs:=[pS p0.use.Code,pI p0.use.Value,pB p0.use.Originating]) rfl rfl rfl rfl rfl zuh (zl3) (yax (yab (yai ?_))))))))))))))))
 obtain rfl:=osi h
 exact ybh (ygl (yjs rfl zm0 rfl)) zsn ⟨rfl,rfl⟩
def ygx (p0:Zs):Option Zl:=some p0.use
theorem yms {p0:Zs} {r:Zl}  (h:ygx p0=some r):PF 260 [.agg [pS p0.use.Code,pI p0.use.Value,pB p0.use.Originating]] (.agg [pS r.Code,pI r.Value,pB r.Originating]):=by
 unfold ygx at h
 refine ycf ?_
 refine ybd Tryz.func260 fk260 rfl Tryz.ntmps260 Tryz.results260 rfl (yaa (yae (yat rfl rfl rfl (ycp (cs:=[pS p0.use.Code,pI p0.use.Value,pB p0.use.Originating]) rfl rfl (fun b1=>yat rfl rfl rfl (ybg (cs:=[pS ByteArray.empty,pI 0,pB false]) rfl rfl rfl rfl (fun b2=>yax (yab (yaa (yae (yak 2 [1] [3] [(4,.agg [pS p0.use.Code,pI p0.use.Value,pB p0.use.Originating])] fo0 (by kernel_rfl) (ybt rfl rfl (yar (vs:=[pS p0.use.Code,pI p0.use.Value,pB p0.use.Originating]) rfl rfl rfl rfl rfl zuh (zl3) (yax (yab (yai ?_))))))))))))))))
 obtain rfl:=osi h
 exact ybh (ygl (yjs rfl zm0 rfl)) zsn ⟨rfl,rfl⟩
def Icumulation_supply_input (x:Ze)  : Option Zl:=match x with | .plain_ a=>ygx a  | .proved_ a=>ygs a
theorem Icumulation_supply_input_ok {x:Ze}  {w:Zl} (h:Icumulation_supply_input x  = some w):PFI x.pv "customs/cumulation.input" [] (.agg [pS w.Code,pI w.Value,pB w.Originating]):=by
 cases x with
 | plain_ a=>exact xbl ⟨fun _ _=>by kernel_rfl⟩ (yms h)
 | proved_ a=>exact xbl ⟨fun _ _=>by kernel_rfl⟩ (ylz h)
def yix (rec:Zd→Option Zh) (p0:Zd):Option Zh:=Option.bind (loopF (S:=(List Zh)×Int) (T:=((List Zh))) (fun (l3,v6)=>cond (decide (v6<(p0.Args.length:Int))) (Option.bind (idx p0.Args v6) (fun m15=>Option.bind (rec m15) (fun x17=>Option.bind (app 16 l3 [x17]) (fun l20=>some (.inl (l20,(IntKind.i64.wrap (v6+1)))))))) (some (.inr l3))) FUEL (([]:List Zh),0)) (fun l10=>cond (p0.Kind == 5) (some (Zh.every_ l10)) (cond (p0.Kind == 6) (some (Zh.some_ l10)) (some (Zh.single_ (⟨p0⟩:Zt)))))
theorem yts {rec:Zd→Option Zh} (hrec:∀ {p0:Zd} {r:Zh},rec p0=some r→PF 110 [.agg [pI p0.Kind,pI p0.Digits,pL eS p0.Except,pI p0.Tolerance,pI p0.Limit,pS p0.Name,pL Zd.enc p0.Args]] (Zh.pv r)) {p0:Zd} {r:Zh} (h:yix rec p0=some r):PF 110 [.agg [pI p0.Kind,pI p0.Digits,pL eS p0.Except,pI p0.Tolerance,pI p0.Limit,pS p0.Name,pL Zd.enc p0.Args]] (Zh.pv r):=by
 unfold yix at h
 refine ycf ?_
 refine ybd Tryz.func110 fk110 rfl Tryz.ntmps110 Tryz.results110 rfl (yaa (yae (yat rfl rfl rfl (ycp (cs:=[pI p0.Kind,pI p0.Digits,pL eS p0.Except,pI p0.Tolerance,pI p0.Limit,pS p0.Name,pL Zd.enc p0.Args]) rfl rfl (fun b1=>yap [] [2] [] fo0 (by kernel_rfl) (yab (yaa (yad [] [] [(3,pN)] fo0 (by kernel_rfl) (yab (yaa (yaa (yad [0] [6] [(7,pL Zd.enc p0.Args),(8,pI (p0.Args.length:Int)),(9,pI 0)] fo0 (by kernel_rfl) (yab (ych 166 1 (yac h fun q12 hq12 h=>?_)))))))))))))))
 refine yas (Y:=(Option Addr×Nat)×((List Zh))) (fun ((a8,c9),l10)=>[(1,pP b1 0),(3,pO a8 l10.length c9)]) (fun ((a8,c9),l10)=>[PRes.b b1 68 [pI p0.Kind,pI p0.Digits,pL eS p0.Except,pI p0.Tolerance,pI p0.Limit,pS p0.Name,pL Zd.enc p0.Args],PRes.row a8 l10.length c9 166 1 (List.map Zh.enc l10)]) (fun ((a8,c9),l10)=>q12=l10) ?_ ?_
 ·refine yaj ?_
  refine yaw (Y:=Option Addr×Nat) (S:=(List Zh)×Int) _ hq12 (fun (a4,c5) (l3,v6)=>[(1,pP b1 0),(3,pO a4 l3.length c5),(7,pL Zd.enc p0.Args),(8,pI (p0.Args.length:Int)),(9,pI v6)]) (fun (a4,c5) (l3,v6)=>[PRes.b b1 68 [pI p0.Kind,pI p0.Digits,pL eS p0.Except,pI p0.Tolerance,pI p0.Limit,pS p0.Name,pL Zd.enc p0.Args],PRes.row a4 l3.length c5 166 1 (List.map Zh.enc l3)]) (none,0) (zh5 rfl rfl rfl rfl rfl) (zsc (zpt zph) (zs1)) ?_
  rintro ⟨a4,c5⟩ ⟨l3,v6⟩ o τ hb11;(try dsimp only at hb11);dsimp only [pupds]
  refine yaa (yad [] [] [(10,pB (decide (v6<(p0.Args.length:Int))))] fo0 (by kernel_rfl) (yab (yaa (zif rfl hb11 (fun hc14 hb11=>?_) fun hc14 hb11=>?_))))
  ·refine yag ?_
   refine yab (yaa (yaj (yaa (yac hb11 fun m15 hm15 hb11=>yae (yak 2 [] [11] [(12,.agg [pI m15.Kind,pI m15.Digits,pL eS m15.Except,pI m15.Tolerance,pI m15.Limit,pS m15.Name,pL Zd.enc m15.Args])] (xhy 0 Zd.enc (Zd.enc_eq _) hm15 fo0) (by kernel_rfl) (yat rfl rfl rfl (ybg (cs:=[pI 0,pI 0,pN,pI 0,pI 0,pS ByteArray.empty,pN]) rfl rfl rfl rfl (fun b16=>ybt rfl rfl (yar (vs:=[pI m15.Kind,pI m15.Digits,pL eS m15.Except,pI m15.Tolerance,pI m15.Limit,pS m15.Name,pL Zd.enc m15.Args]) rfl rfl rfl rfl rfl zuh (zl7) (yax (yab (yac hb11 fun x17 hx17 hb11=>yae (yak 3 [0] [14] [(13,pO a4 l3.length c5),(15,Zh.pv x17)] (yew 2 (hrec hx17) fo0) (by kernel_rfl) (yat rfl rfl rfl (yck rfl rfl rfl rfl rfl (zic rfl zin) rfl rfl rfl rfl (fun b18=>yac hb11 fun l20 hl20 hb11=>?_))))))))))))))))
   refine yat rfl rfl rfl (ycg (enc:=Zh.enc) rfl rfl rfl rfl rfl rfl rfl rfl rfl zm0 (by exact zpt (zpt (zpt zph))) hl20 (fun a21 c22=>?_))
   refine yap [] [] [(3,pO a21 l20.length c22)] fo0 (by kernel_rfl) (yal (yab (yad [] [18] [(9,pI (IntKind.i64.wrap (v6+1)))] fo0 (by kernel_rfl) ?_)))
   exact ybk hb11 (a21,c22) (zh5 rfl rfl rfl rfl rfl) (zsc (zpt (zpt (zpt zph))) (zs1))
  refine yba ?_
  refine yao (yam hb11 (fun ht=>yan rfl ?_))
  exact yaz ((a4,c5),l3) (zh2 rfl rfl) (zs2) ht.symm
 rintro ⟨⟨a8,c9⟩,l10⟩ τ hz;(try dsimp only at hz);subst q12;(try dsimp only at h);dsimp only [pupds]
 refine yaa (yaa (yad [0] [19] [(20,pI p0.Kind)] fo0 (by kernel_rfl) (yab (yaj (yaa (yad [] [22] [(21,pB (p0.Kind == 5))] fo0 (by kernel_rfl) (yab (zif rfl h (fun hc24 h=>?_) fun hc24 h=>?_))))))))
 ·refine yaa ?_
  refine yae (yak 1 [] [] [(23,pO a8 l10.length c9)] fo0 (by kernel_rfl) ?_)
  refine yfw (enc:=Zh.enc) (xs:=l10) 23 rfl (by exact zpt zph) ?_
  refine yak 1 [] [] [(24,.ifc 196 (pL Zh.enc l10))] fo0 (by kernel_rfl) (xbv 24 rfl (Zh.pv_every_ l10) (yap [] [] [(2,Zh.pv (Zh.every_ l10))] fo0 (by kernel_rfl) (yab (yai (yaf (yah ?_))))))
  obtain rfl:=osi h
  exact zq rfl ⟨rfl,rfl⟩
 refine yaa ?_
 refine yad [] [26] [(25,pB (p0.Kind == 6))] fo0 (by kernel_rfl) (yab (zif rfl h (fun hc25 h=>?_) fun hc25 h=>?_))
 ·refine yaa ?_
  refine yae (yak 1 [] [] [(27,pO a8 l10.length c9)] fo0 (by kernel_rfl) ?_)
  refine yfw (enc:=Zh.enc) (xs:=l10) 27 rfl (by exact zpt zph) ?_
  refine yak 1 [] [] [(28,.ifc 197 (pL Zh.enc l10))] fo0 (by kernel_rfl) (xbv 28 rfl (Zh.pv_some_ l10) (yap [] [] [(2,Zh.pv (Zh.some_ l10))] fo0 (by kernel_rfl) (yab (yai (yaf (yah ?_))))))
  obtain rfl:=osi h
  exact zq rfl ⟨rfl,rfl⟩
 refine yag ?_
 refine yal (yab (yaa (yad [0] [29,30,31] [(2,Zh.pv (Zh.single_ (⟨p0⟩:Zt)))] fo0 (by kernel_rfl) (yab (yai ?_)))))
 obtain rfl:=osi h
 exact zq rfl ⟨rfl,rfl⟩
def yiy (n:Nat):Zd→Option Zh:=Nat.rec (motive:=fun _=>Zd→Option Zh) (fun _=>none) (fun _ ih=>yix ih) n
def yvm (p0:Zd):Option Zh:=yiy FUEL p0
theorem yvn (n:Nat):∀ {p0:Zd} {r:Zh},yiy n p0=some r→PF 110 [.agg [pI p0.Kind,pI p0.Digits,pL eS p0.Except,pI p0.Tolerance,pI p0.Limit,pS p0.Name,pL Zd.enc p0.Args]] (Zh.pv r):=by
 induction n with
 | zero=>intros;rename_i h;exact nomatch h
 | succ n ih=>intros;rename_i h;exact yts (fun hr=>ih hr) h
theorem yxe {p0:Zd} {r:Zh} (h:yvm p0=some r):PF 110 [.agg [pI p0.Kind,pI p0.Digits,pL eS p0.Except,pI p0.Tolerance,pI p0.Limit,pS p0.Name,pL Zd.enc p0.Args]] (Zh.pv r):=yvn FUEL h
def ycm (p0:(List ByteArray)) (p1:(ByteArray→Option Bool)):Option Int:=Option.bind (loopF (S:=Int) (T:=(Unit)⊕(_)) (fun v1=>cond (decide (v1<(p0.length:Int))) (Option.bind (idx p0 v1) (fun m5=>Option.bind (p1 m5) (fun x6=>cond x6 (some (.inr (.inr v1))) (some (.inl (IntKind.i64.wrap (v1+1))))))) (some (.inr (.inl ())))) FUEL 0) (fun q=>match q with | .inl _=>some (-1) | .inr e=>some e)
theorem yiz {p0:(List ByteArray)} {p1:(ByteArray→Option Bool)} {r:Int} {g1:PV} (hg1:∀ {y0:ByteArray} {w:Bool},p1 y0=some w→PFV g1 [pS y0] (pB w)) (h:ycm p0 p1=some r):PF 259 [pL eS p0,g1] (pI r):=by
 unfold ycm at h
 refine ycf ?_
 refine ybd Tryz.func259 fk259 rfl Tryz.ntmps259 Tryz.results259 rfl (yaa (yad [] [4] [] fo0 (by kernel_rfl) (yab (yaa (yaa (yad [] [6] [(7,pI (p0.length:Int)),(8,pI 0)] fo0 (by kernel_rfl) (yab (yac h fun q3 hq3 h=>?_))))))))
 refine yas (Y:=(Unit)×(Unit)) (fun (_,_)=>[]) (fun (_,_)=>[]) (fun (_,_)=>q3=Sum.inl ()) ?_ ?_
 ·refine yaj ?_
  refine yaw (Y:=Unit) (S:=Int) _ hq3 (fun _ v1=>[(0,pL eS p0),(1,g1),(7,pI (p0.length:Int)),(8,pI v1)]) (fun _ v1=>[]) () (zh4 rfl rfl rfl rfl) zsn ?_
  rintro _ v1 o τ hb2;(try dsimp only at hb2);dsimp only [pupds]
  refine yaa (yad [] [] [(9,pB (decide (v1<(p0.length:Int))))] fo0 (by kernel_rfl) (yab (yaa (zif rfl hb2 (fun hc4 hb2=>?_) fun hc4 hb2=>?_))))
  ·refine yag ?_
   refine yab (yaa (yaj (yaa (yad [] [10] [(5,pI v1)] fo0 (by kernel_rfl) (yab (yaa (yac hb2 fun m5 hm5 hb2=>yac hb2 fun x6 hx6 hb2=>yad [] (rg 11 5) [(16,pB x6)] (yjt 3 eS hm5 (focv 5 (hg1 hx6) fo0)) (by kernel_rfl) (yab (zif rfl hb2 (fun hc7 hb2=>?_) fun hc7 hb2=>?_)))))))))
   ·refine yaa ?_
    refine yad [] [17] [(4,pI v1)] fo0 (by kernel_rfl) (yab (yai (yaf (yah ?_))))
    refine ybb hb2 (fun ht=>?_);subst ht
    refine yaf (ybc ?_)
    obtain rfl:=osi h
    exact zq rfl ⟨rfl,rfl⟩
   refine yag ?_
   refine yal (yab (yad [] [18] [(8,pI (IntKind.i64.wrap (v1+1)))] fo0 (by kernel_rfl) ?_))
   exact ybk hb2 () (zh4 rfl rfl rfl rfl) zsn
  refine yba ?_
  refine yao (yam hb2 (fun ht=>yan rfl ?_))
  exact yaz ((),()) zhn zsn ht.symm
 rintro ⟨_,_⟩ τ hz;(try dsimp only at hz);subst q3;(try dsimp only at h);dsimp only [pupds]
 refine yaa (yad [] [] [(4,pI (-1))] fo0 (by kernel_rfl) (yab (yai ?_)))
 obtain rfl:=osi h
 exact zq rfl ⟨rfl,rfl⟩
def yce (p0:(List ByteArray)) (p1:(ByteArray→Option Bool)):Option Bool:=Option.bind (ycm p0 p1) (fun x1=>some (decide (0≤x1)))
theorem yhw {p0:(List ByteArray)} {p1:(ByteArray→Option Bool)} {r:Bool} {g1:PV} (hg1:∀ {y0:ByteArray} {w:Bool},p1 y0=some w→PFV g1 [pS y0] (pB w)) (h:yce p0 p1=some r):PF 256 [pL eS p0,g1] (pB r):=by
 unfold yce at h
 refine ycf ?_
 refine ybd Tryz.func256 fk256 rfl Tryz.ntmps256 Tryz.results256 rfl (yaa (yad [] [4] [] fo0 (by kernel_rfl) (yab (yaa (yac h fun x1 hx1 h=>yad [] [5,6,7,8] [(4,pB (decide (0≤x1)))] (yew 2 (yiz hg1 hx1) fo0) (by kernel_rfl) (yab (yai ?_)))))))
 obtain rfl:=osi h
 exact zq rfl ⟨rfl,rfl⟩
def ygg (p0:ByteArray) (p1:ByteArray):Option Bool:=Option.bind (yde p1 p0) (fun x1=>some x1)
theorem ysd {p0:ByteArray} {p1:ByteArray} {r:Bool}  (h:ygg p0 p1=some r):PF 257 [pS p0,.ref [pS p1] 0] (pB r):=by
 unfold ygg at h
 refine ycf ?_
 refine ybd Tryz.func257 fk257 rfl Tryz.ntmps257 Tryz.results257 rfl (yaa (yad [] [3] [] fo0 (by kernel_rfl) (yab (yaa (yac h fun x1 hx1 h=>yad [] [4,5,6] [(3,pB x1)] (yew 2 (yhs hx1) fo0) (by kernel_rfl) (yab (yai ?_)))))))
 obtain rfl:=osi h
 exact zq rfl ⟨rfl,rfl⟩
def yho (p0:Zd) (p1:ByteArray) (p2:ByteArray):Option Bool:=Option.bind (ssub p1 0 p0.Digits) (fun s3=>Option.bind (yde p2 s3) (fun x4=>cond x4 (some true) (Option.bind (yce p0.Except (fun y6=>ygg y6 p2)) (fun x7=>some x7))))
theorem ytt {p0:Zd} {p1:ByteArray} {p2:ByteArray} {r:Bool}  (h:yho p0 p1 p2=some r):PF 254 [.agg [pI p0.Kind,pI p0.Digits,pL eS p0.Except,pI p0.Tolerance,pI p0.Limit,pS p0.Name,pL Zd.enc p0.Args],pS p1,pS p2] (pB r):=by
 unfold yho at h
 refine ycf ?_
 refine ybd Tryz.func254 fk254 rfl Tryz.ntmps254 Tryz.results254 rfl (yaa (yae (yat rfl rfl rfl (ycp (cs:=[pI p0.Kind,pI p0.Digits,pL eS p0.Except,pI p0.Tolerance,pI p0.Limit,pS p0.Name,pL Zd.enc p0.Args]) rfl rfl (fun b1=>yat rfl rfl rfl (ycp (cs:=[pS p2]) rfl rfl (fun b2=>yap [] [6] [] fo0 (by kernel_rfl) (yab (yaa (yaa (ydq (ρd:=[]) [(0,0),(1,0),(2,0),(3,0),(4,0),(5,1)] _ (List.Perm.refl _) (by kernel_rfl) rfl (yac h fun s3 hs3 h=>yac h fun x4 hx4 h=>ycr 6 [0,1] (rg 7 5) [(12,pB x4)] (foss 4 hs3 (yew 5 (yhs hx4) fo0)) (by kernel_rfl) (yfd (yab (zif rfl h (fun hc5 h=>?_) fun hc5 h=>?_)))))))))))))))
 ·refine yaa ?_
  refine yad [] [] [(6,pB true)] fo0 (by kernel_rfl) (yab (yai (yah ?_)))
  obtain rfl:=osi h
  exact zq rfl ⟨rfl,rfl⟩
 refine yag ?_
 refine yab (yaa (yae (yak 2 [1] [13] [(14,pL eS p0.Except)] fo0 (by kernel_rfl) ?_)))
 refine yrg 5 rfl (by exact zph) ?_
 refine yac h fun x7 hx7 h=>yap [] [15,16] [(6,pB x7)] (yew 1 (yhw (fun hr=>yuu (ysd hr)) hx7) fo0) (by kernel_rfl) (yab (yai ?_))
 obtain rfl:=osi h
 exact zq rfl ⟨rfl,rfl⟩
def ygh (p0:Zo) (p1:Zo):Option Int:=cond ((decide (p0.Hi<p1.Hi))||((p0.Hi == p1.Hi)&&(decide (p0.Lo<p1.Lo)))) (some (-1)) (cond (Zo.eqb p0 p1) (some (0:Int)) (some (1:Int)))
theorem yqo {p0:Zo} {p1:Zo} {r:Int}  (h:ygh p0 p1=some r):PF 258 [.agg [pU p0.Hi,pU p0.Lo],.agg [pU p1.Hi,pU p1.Lo]] (pI r):=by
 unfold ygh at h
 refine ycf ?_
 refine ybd Tryz.func258 fk258 rfl Tryz.ntmps258 Tryz.results258 rfl (yaa (yae (yat rfl rfl rfl (ycp (cs:=[pU p0.Hi,pU p0.Lo]) rfl rfl (fun b1=>yat rfl rfl rfl (ycp (cs:=[pU p1.Hi,pU p1.Lo]) rfl rfl (fun b2=>yap [] [4] [] fo0 (by kernel_rfl) (yab (yaa (yaj (yaa (yad [1,0,1,0,1,0] (rg 6 19) [(5,pB ((decide (p0.Hi<p1.Hi))||((p0.Hi == p1.Hi)&&(decide (p0.Lo<p1.Lo)))))] fo0 (by kernel_rfl) (yab (zif rfl h (fun hc3 h=>?_) fun hc3 h=>?_))))))))))))))
 ·refine yaa ?_
  refine yad [] [] [(4,pI (-1))] fo0 (by kernel_rfl) (yab (yai (yaf (yah ?_))))
  obtain rfl:=osi h
  exact zq rfl ⟨rfl,rfl⟩
 refine yaa ?_
 refine yad [1,0] [26,27,28] [(25,pB (Zo.eqb p0 p1))] (foeq 2 Zo.eqok243 fo0) (by kernel_rfl) (yab (zif rfl h (fun hc4 h=>?_) fun hc4 h=>?_))
 ·refine yaa ?_
  refine yad [] [] [(4,pI 0)] fo0 (by kernel_rfl) (yab (yai (yaf (yah ?_))))
  obtain rfl:=osi h
  exact zq rfl ⟨rfl,rfl⟩
 refine yag ?_
 refine yal (yab (yaa (yad [] [] [(4,pI 1)] fo0 (by kernel_rfl) (yab (yai ?_)))))
 obtain rfl:=osi h
 exact zq rfl ⟨rfl,rfl⟩
def yji (p0:Int) (p1:Int) (p2:Int):Option Bool:=Option.bind (ykb (IntKind.u64.wrap p0) 1000000) (fun x1=>Option.bind (ykb (IntKind.u64.wrap p1) (IntKind.u64.wrap p2)) (fun x3=>Option.bind (ygh x1 x3) (fun x5=>some (decide (x5≤0)))))
theorem yqw {p0:Int} {p1:Int} {p2:Int} {r:Bool}  (h:yji p0 p1 p2=some r):PF 255 [pI p0,pI p1,pI p2] (pB r):=by
 unfold yji at h
 refine ycf ?_
 refine ybd Tryz.func255 fk255 rfl Tryz.ntmps255 Tryz.results255 rfl (yaa (yad [] [6] [] fo0 (by kernel_rfl) (yab (yaa (yac h fun x1 hx1 h=>yae (yak 3 [] [9,10] [(11,.agg [pU x1.Hi,pU x1.Lo])] (yew 2 (ypl hx1) fo0) (by kernel_rfl) (yat rfl rfl rfl (ybg (cs:=[pU 0,pU 0]) rfl rfl rfl rfl (fun b2=>ybt rfl rfl (yar (vs:=[pU x1.Hi,pU x1.Lo]) rfl rfl rfl rfl rfl zuh (zl2) (yax (yab (yaa (yac h fun x3 hx3 h=>yae (yak 5 [] [12,13,14,15] [(16,.agg [pU x3.Hi,pU x3.Lo])] (yew 4 (ypl hx3) fo0) (by kernel_rfl) (yat rfl rfl rfl (ybg (cs:=[pU 0,pU 0]) rfl rfl rfl rfl (fun b4=>ybt rfl rfl (yar (vs:=[pU x3.Hi,pU x3.Lo]) rfl rfl rfl rfl rfl zuh (zl2) (yax (yab (yaa (yac h fun x5 hx5 h=>yad [1,0] [17,18,19,20] [(6,pB (decide (x5≤0)))] (yew 2 (yqo hx5) fo0) (by kernel_rfl) (yab (yai ?_)))))))))))))))))))))))))
 obtain rfl:=osi h
 exact zq rfl ⟨rfl,rfl⟩
def rule_holds (p0:Zd) (p1:Zn):Option Bool:=Option.bind (loopF (S:=Int×Int×Int×Int) (T:=(Int×Int×Int)) (fun (v3,v4,v5,v6)=>cond (decide (v6<(p1.Inputs.length:Int))) (Option.bind (Option.bind (idx p1.Inputs v6) (fun m17=>cond m17.Originating (some (v3,v4,v5)) (Option.bind (gd (p0.Kind == 2) (yho p0 p1.Code m17.Code)) (fun x20=>cond ((p0.Kind == 2)&&x20) (some ((IntKind.i64.wrap (v3+m17.Value)),(IntKind.i64.wrap (v4+m17.Value)),(IntKind.i64.wrap (v5+1)))) (some ((IntKind.i64.wrap (v3+m17.Value)),v4,(IntKind.i64.wrap (v5+1)))))))) (fun (v13,v14,v15)=>some (.inl (v13,v14,v15,(IntKind.i64.wrap (v6+1)))))) (some (.inr (v3,v4,v5)))) FUEL (0,0,0,0)) (fun (v7,v8,v9)=>cond (p0.Kind == 1) (some (p1.Obtained&&(v9 == 0))) (cond (p0.Kind == 2) (Option.bind (yji v8 p0.Tolerance p1.Price) (fun x24=>some x24)) (cond (p0.Kind == 3) (Option.bind (yji v7 p0.Limit p1.Price) (fun x26=>some x26)) (cond (p0.Kind == 4) (Option.bind (ybu p1.Processes p0.Name) (fun x28=>some x28)) (some false)))))
theorem yzy {p0:Zd} {p1:Zn} {r:Bool}  (h:rule_holds p0 p1=some r):PF 253 [.agg [pI p0.Kind,pI p0.Digits,pL eS p0.Except,pI p0.Tolerance,pI p0.Limit,pS p0.Name,pL Zd.enc p0.Args],.agg [pS p1.Code,pI p1.Price,pB p1.Obtained,pL eS p1.Processes,pL Zl.enc p1.Inputs]] (pB r):=by
 unfold rule_holds at h
 refine ycf ?_
 refine ybd Tryz.func253 fk253 rfl Tryz.ntmps253 Tryz.results253 rfl (yaa (yae (yat rfl rfl rfl (ycp (cs:=[pI p0.Kind,pI p0.Digits,pL eS p0.Except,pI p0.Tolerance,pI p0.Limit,pS p0.Name,pL Zd.enc p0.Args]) rfl rfl (fun b1=>yat rfl rfl rfl (ycp (cs:=[pS p1.Code,pI p1.Price,pB p1.Obtained,pL eS p1.Processes,pL Zl.enc p1.Inputs]) rfl rfl (fun b2=>yap [] [4] [] fo0 (by kernel_rfl) (yab (yaa (yad [] [] [(5,pI 0),(6,pI 0),(7,pI 0)] fo0 (by kernel_rfl) (yab (yaa (yaa (yad [0] [10] [(11,pL Zl.enc p1.Inputs),(12,pI (p1.Inputs.length:Int)),(13,pI 0)] fo0 (by kernel_rfl) (yab (yac h fun q11 hq11 h=>?_))))))))))))))))
 refine yas (Y:=(Unit)×(Int×Int×Int)) (fun (_,(v7,v8,v9))=>[(2,pP b1 0),(3,pP b2 0),(5,pI v7),(6,pI v8),(7,pI v9)]) (fun (_,(v7,v8,v9))=>[PRes.b b1 68 [pI p0.Kind,pI p0.Digits,pL eS p0.Except,pI p0.Tolerance,pI p0.Limit,pS p0.Name,pL Zd.enc p0.Args],PRes.b b2 73 [pS p1.Code,pI p1.Price,pB p1.Obtained,pL eS p1.Processes,pL Zl.enc p1.Inputs]]) (fun (_,(v7,v8,v9))=>q11=(v7,v8,v9)) ?_ ?_
 ·refine yaj ?_
  refine yaw (Y:=Unit) (S:=Int×Int×Int×Int) _ hq11 (fun _ (v3,v4,v5,v6)=>[(2,pP b1 0),(3,pP b2 0),(5,pI v3),(6,pI v4),(7,pI v5),(11,pL Zl.enc p1.Inputs),(12,pI (p1.Inputs.length:Int)),(13,pI v6)]) (fun _ (v3,v4,v5,v6)=>[PRes.b b1 68 [pI p0.Kind,pI p0.Digits,pL eS p0.Except,pI p0.Tolerance,pI p0.Limit,pS p0.Name,pL Zd.enc p0.Args],PRes.b b2 73 [pS p1.Code,pI p1.Price,pB p1.Obtained,pL eS p1.Processes,pL Zl.enc p1.Inputs]]) () (zh8 rfl rfl rfl rfl rfl rfl rfl rfl) (zsc (zpt zph) (zs1)) ?_
  rintro _ ⟨v3,v4,v5,v6⟩ o τ hb10;(try dsimp only at hb10);dsimp only [pupds]
  refine yaa (yad [] [] [(14,pB (decide (v6<(p1.Inputs.length:Int))))] fo0 (by kernel_rfl) (yab (yaa (zif rfl hb10 (fun hc12 hb10=>?_) fun hc12 hb10=>?_))))
  ·refine yag ?_
   refine yab (yaa (yac hb10 fun q16 hq16 hb10=>?_))
   refine yas (Y:=(Unit)×(Int×Int×Int)) (fun (_,(v13,v14,v15))=>[(2,pP b1 0),(3,pP b2 0),(5,pI v13),(6,pI v14),(7,pI v15),(11,pL Zl.enc p1.Inputs),(12,pI (p1.Inputs.length:Int)),(13,pI v6)]) (fun (_,(v13,v14,v15))=>[PRes.b b1 68 [pI p0.Kind,pI p0.Digits,pL eS p0.Except,pI p0.Tolerance,pI p0.Limit,pS p0.Name,pL Zd.enc p0.Args],PRes.b b2 73 [pS p1.Code,pI p1.Price,pB p1.Obtained,pL eS p1.Processes,pL Zl.enc p1.Inputs]]) (fun (_,(v13,v14,v15))=>q16=(v13,v14,v15)) ?_ ?_
   ·skip
    refine yaj (yaa (yac hq16 fun m17 hm17 hq16=>yae (yak 2 [] [15] [(16,.agg [pS m17.Code,pI m17.Value,pB m17.Originating])] (yjt 0 Zl.enc hm17 fo0) (by kernel_rfl) (yat rfl rfl rfl (ybg (cs:=[pS ByteArray.empty,pI 0,pB false]) rfl rfl rfl rfl (fun b18=>ybt rfl rfl (yar (vs:=[pS m17.Code,pI m17.Value,pB m17.Originating]) rfl rfl rfl rfl rfl zuh (zl3) (yax (yab (yaa (yaa (yad [0] [17] [(18,pB m17.Originating)] fo0 (by kernel_rfl) (yab (zif rfl hq16 (fun hc19 hq16=>?_) fun hc19 hq16=>?_))))))))))))))
    ·refine yba ?_
     refine yao (yan rfl ?_)
     obtain rfl:=osi hq16
     exact yaz ((),(v3,v4,v5)) (zh8 rfl rfl rfl rfl rfl rfl rfl rfl) (zsc (zpt zph) (zsc (zpt zph) zsn)) rfl
    refine yag ?_
    refine yab (yaa (yad [] [19,20] [(7,pI (IntKind.i64.wrap (v5+1)))] fo0 (by kernel_rfl) (yab (yaa (yad [0] [21,22,23,24] [(5,pI (IntKind.i64.wrap (v3+m17.Value)))] fo0 (by kernel_rfl) (yab (yaa (yac hq16 fun x20 hx20 hq16=>yad [1,1,2,0] (rg 25 10) [(35,pB ((p0.Kind == 2)&&x20))] (ykq 9 (fun hc=>ytt (ymd hx20 hc)) fo0) (by kernel_rfl) (yab (zif rfl hq16 (fun hc21 hq16=>?_) fun hc21 hq16=>?_))))))))))
    ·refine yad [0] [36,37,38,39] [(6,pI (IntKind.i64.wrap (v4+m17.Value)))] fo0 (by kernel_rfl) ?_
     refine yal ?_
     obtain rfl:=osi hq16
     exact yaz ((),((IntKind.i64.wrap (v3+m17.Value)),(IntKind.i64.wrap (v4+m17.Value)),(IntKind.i64.wrap (v5+1)))) (zh8 rfl rfl rfl rfl rfl rfl rfl rfl) (zsc (zpt zph) (zsc (zpt zph) zsn)) rfl
    refine yag ?_
    refine yal ?_
    obtain rfl:=osi hq16
    exact yaz ((),((IntKind.i64.wrap (v3+m17.Value)),v4,(IntKind.i64.wrap (v5+1)))) (zh8 rfl rfl rfl rfl rfl rfl rfl rfl) (zsc (zpt zph) (zsc (zpt zph) zsn)) rfl
   rintro ⟨_,⟨v13,v14,v15⟩⟩ τ hz;(try dsimp only at hz);subst q16;(try dsimp only at hb10);dsimp only [pupds]
   refine yad [] [40] [(13,pI (IntKind.i64.wrap (v6+1)))] fo0 (by kernel_rfl) ?_
   exact ybk hb10 () (zh8 rfl rfl rfl rfl rfl rfl rfl rfl) (zs2)
  refine yba ?_
  refine yao (yam hb10 (fun ht=>yan rfl ?_))
  exact yaz ((),(v3,v4,v5)) (zh5 rfl rfl rfl rfl rfl) (zs2) ht.symm
 rintro ⟨_,⟨v7,v8,v9⟩⟩ τ hz;(try dsimp only at hz);subst q11;(try dsimp only at h);dsimp only [pupds]
 refine yaa (yaa (yad [0] [41] [(42,pI p0.Kind)] fo0 (by kernel_rfl) (yab (yaj (yaa (yad [] [44] [(43,pB (p0.Kind == 1))] fo0 (by kernel_rfl) (yab (zif rfl h (fun hc22 h=>?_) fun hc22 h=>?_))))))))
 ·refine yaa ?_
  refine yad [1] (rg 45 6) [(4,pB (p1.Obtained&&(v9 == 0)))] fo0 (by kernel_rfl) (yab (yai (yaf (yah ?_))))
  obtain rfl:=osi h
  exact zq rfl ⟨rfl,rfl⟩
 refine yaa ?_
 refine yad [] [52] [(51,pB (p0.Kind == 2))] fo0 (by kernel_rfl) (yab (zif rfl h (fun hc23 h=>?_) fun hc23 h=>?_))
 ·refine yaa ?_
  refine yac h fun x24 hx24 h=>yad [0,1] (rg 53 6) [(4,pB x24)] (yew 5 (yqw hx24) fo0) (by kernel_rfl) (yab (yai (yaf (yah ?_))))
  obtain rfl:=osi h
  exact zq rfl ⟨rfl,rfl⟩
 refine yaa ?_
 refine yad [] [60] [(59,pB (p0.Kind == 3))] fo0 (by kernel_rfl) (yab (zif rfl h (fun hc25 h=>?_) fun hc25 h=>?_))
 ·refine yaa ?_
  refine yac h fun x26 hx26 h=>yad [0,1] (rg 61 6) [(4,pB x26)] (yew 5 (yqw hx26) fo0) (by kernel_rfl) (yab (yai (yaf (yah ?_))))
  obtain rfl:=osi h
  exact zq rfl ⟨rfl,rfl⟩
 refine yaa ?_
 refine yad [] [68] [(67,pB (p0.Kind == 4))] fo0 (by kernel_rfl) (yab (zif rfl h (fun hc27 h=>?_) fun hc27 h=>?_))
 ·refine yaa ?_
  refine yac h fun x28 hx28 h=>yad [1,0] (rg 69 5) [(4,pB x28)] (yew 4 (ycu hx28) fo0) (by kernel_rfl) (yab (yai (yaf (yah ?_))))
  obtain rfl:=osi h
  exact zq rfl ⟨rfl,rfl⟩
 refine yag ?_
 refine yal (yab (yaa (yad [] [] [(4,pB false)] fo0 (by kernel_rfl) (yab (yai ?_)))))
 obtain rfl:=osi h
 exact zq rfl ⟨rfl,rfl⟩
def yep (rec:Zh→Zn→Option ((List Int)×Bool)) (p0:(List Zh)) (p1:Zn):Option ((List Int)×Bool):=Option.bind (loopF (S:=(List Int)×Int) (T:=((List Int))⊕(_)) (fun (l3,v6)=>cond (decide (v6<(p0.length:Int))) (Option.bind (idx p0 v6) (fun m15=>Option.bind (rec m15 p1) (fun x16=>cond (!x16.2) (some (.inr (.inr ([],false)))) (Option.bind (app 8 l3 x16.1) (fun l18=>some (.inl (l18,(IntKind.i64.wrap (v6+1))))))))) (some (.inr (.inl l3)))) FUEL (([]:List Int),0)) (fun q=>match q with | .inl l10=>some (l10,true) | .inr e=>some e)
theorem yoe {rec:Zh→Zn→Option ((List Int)×Bool)} (hrec:∀ {x:Zh} {y0:Zn} {w:((List Int)×Bool)},rec x y0=some w→PFI x.pv "customs/rule.witness" [.agg [pS y0.Code,pI y0.Price,pB y0.Obtained,pL eS y0.Processes,pL Zl.enc y0.Inputs]] (.tup [pL eI w.1,pB w.2])) {p0:(List Zh)} {p1:Zn} {r:((List Int)×Bool)} (h:yep rec p0 p1=some r):PF 246 [pL Zh.enc p0,.agg [pS p1.Code,pI p1.Price,pB p1.Obtained,pL eS p1.Processes,pL Zl.enc p1.Inputs]] (.tup [pL eI r.1,pB r.2]):=by
 unfold yep at h
 refine ycf ?_
 refine ybd Tryz.func246 fk246 rfl Tryz.ntmps246 Tryz.results246 rfl (yaa (yae (yat rfl rfl rfl (ycp (cs:=[pS p1.Code,pI p1.Price,pB p1.Obtained,pL eS p1.Processes,pL Zl.enc p1.Inputs]) rfl rfl (fun b1=>yap [] [4,5] [] fo0 (by kernel_rfl) (yab (yaa (yad [] [] [(6,pN)] fo0 (by kernel_rfl) (yab (yaa (yaa (yad [] [] [(11,pL Zh.enc p0),(12,pI (p0.length:Int)),(13,pI 0)] fo0 (by kernel_rfl) (yab (ych 3 1 (yac h fun q12 hq12 h=>?_)))))))))))))))
 refine yas (Y:=(Option Addr×Nat)×((List Int))) (fun ((a8,c9),l10)=>[(6,pO a8 l10.length c9)]) (fun ((a8,c9),l10)=>[PRes.row a8 l10.length c9 3 1 (List.map eI l10)]) (fun ((a8,c9),l10)=>q12=Sum.inl l10) ?_ ?_
 ·refine yaj ?_
  refine yaw (Y:=Option Addr×Nat) (S:=(List Int)×Int) _ hq12 (fun (a4,c5) (l3,v6)=>[(3,pP b1 0),(6,pO a4 l3.length c5),(11,pL Zh.enc p0),(12,pI (p0.length:Int)),(13,pI v6)]) (fun (a4,c5) (l3,v6)=>[PRes.b b1 73 [pS p1.Code,pI p1.Price,pB p1.Obtained,pL eS p1.Processes,pL Zl.enc p1.Inputs],PRes.row a4 l3.length c5 3 1 (List.map eI l3)]) (none,0) (zh5 rfl rfl rfl rfl rfl) (zsc (zpt zph) (zs1)) ?_
  rintro ⟨a4,c5⟩ ⟨l3,v6⟩ o τ hb11;(try dsimp only at hb11);dsimp only [pupds]
  refine yaa (yad [] [] [(14,pB (decide (v6<(p0.length:Int))))] fo0 (by kernel_rfl) (yab (yaa (zif rfl hb11 (fun hc14 hb11=>?_) fun hc14 hb11=>?_))))
  ·refine yag ?_
   refine yab (yaa (yaj (yaa (yac hb11 fun m15 hm15 hb11=>yad [] [15,16] [(8,Zh.pv m15)] (yjt 0 Zh.enc hm15 fo0) (by kernel_rfl) (yab (yaa (yac hb11 fun x16 hx16 hb11=>yad [0] [18,19,20,17,21,22] [(9,pL eI x16.1),(10,pB x16.2)] (foci 2 (hrec hx16) fo0) (by kernel_rfl) (yab (yaa (yaa (yad [] [23] [(24,pB (!x16.2))] fo0 (by kernel_rfl) (yab (zif rfl hb11 (fun hc17 hb11=>?_) fun hc17 hb11=>?_)))))))))))))
   ·refine yaa ?_
    refine yad [] [] [(4,pN),(5,pB false)] fo0 (by kernel_rfl) (yab (ynu 4 rfl (yai (yah (yaf (yah ?_))))))
    refine ybb hb11 (fun ht=>?_);subst ht
    refine yaf (ybc ?_)
    obtain rfl:=osi h
    exact ybh (yid (ybm rfl) (ybm rfl)) zsn ⟨rfl,rfl⟩
   refine yag ?_
   refine yab (yac hb11 fun l18 hl18 hb11=>yae (yak 2 [] [] [(25,pO a4 l3.length c5),(26,pL eI x16.1)] fo0 (by kernel_rfl) ?_))
   refine yat rfl rfl rfl (yrw (enc:=eI) rfl rfl rfl rfl rfl (fun _=>rfl) rfl rfl rfl (by exact zpt zph) hl18 (fun a19 c20=>?_))
   refine yap [] [] [(6,pO a19 l18.length c20)] fo0 (by kernel_rfl) (yal (yab (yad [] [28] [(13,pI (IntKind.i64.wrap (v6+1)))] fo0 (by kernel_rfl) ?_)))
   exact ybk hb11 (a19,c20) (zh5 rfl rfl rfl rfl rfl) (zsc (zpt zph) (zs1))
  refine yba ?_
  refine yao (yam hb11 (fun ht=>yan rfl ?_))
  exact yaz ((a4,c5),l3) (zh1 rfl) (zsc (zpt zph) zsn) ht.symm
 rintro ⟨⟨a8,c9⟩,l10⟩ τ hz;(try dsimp only at hz);subst q12;(try dsimp only at h);dsimp only [pupds]
 refine yaa (yad [] [29] [(4,pO a8 l10.length c9),(5,pB true)] fo0 (by kernel_rfl) (yab ?_))
 refine ygo (enc:=eI) (xs:=l10) 4 rfl (by exact zph) ?_
 refine yai ?_
 obtain rfl:=osi h
 exact ybh (yid (ybm rfl) (ybm rfl)) zsn ⟨rfl,rfl⟩
def ygt (p1:Int):Option (List Int):=Option.bind (mk0 8 p1) (fun _=>some [])
theorem yop {p1:Int} {r:(List Int)} (h:ygt p1=some r):PCall 250 [.v (.slice none 0 0),pI p1] [] (fun pv ρ'=>∃ a c,pv=.v (.slice a r.length c)∧ρ'=[PRes.row a r.length c 3 1 (List.map eI r)]):=by
 unfold ygt at h
 obtain ⟨u,hu,h⟩:=Option.bind_eq_some_iff.1 h
 obtain rfl:=osi h
 obtain ⟨hg0,hg1⟩:=mk0_le hu
 have ew:IntKind.i64.wrap (p1 - IntKind.i64.wrap (((0:Nat):Int) - ((0:Nat):Int)))=p1:=xbx hg0 hg1
 refine ybd Tryz.func250 fk250 rfl Tryz.ntmps250 Tryz.results250 rfl ?_
 (repeat refine yaa ?_)
 refine yad [] [4] [] fo0 (by kernel_rfl) (yab ?_)
 (repeat refine yaa ?_)
 refine yad [] [5] [(6,pB (decide (p1<0)))] fo0 (by kernel_rfl) (yab ?_)
 refine yin rfl (fun hc=>absurd (of_decide_eq_true hc) (by omega)) (fun hc=>?_)
 refine yag (yab ?_)
 (repeat refine yaa ?_)
 refine yae (yak 2 [] [] [(8,pI p1),(9,.v (.slice none 0 0))] fo0 (by kernel_rfl) (ycv rfl rfl rfl (yzu rfl rfl (.p rfl)) (yap [] [11,12,13,14] [(1,pI (IntKind.i64.wrap (p1 - IntKind.i64.wrap (((0:Nat):Int) - ((0:Nat):Int)))))] fo0 (by kernel_rfl) ?_)))
 rw [ew]
 refine yab ?_
 (repeat refine yaa ?_)
 refine yad [] [15] [(16,pB (decide (0<p1)))] fo0 (by kernel_rfl) (yab ?_)
 refine yin rfl (fun hc=>?_) (fun hc=>?_)
 ·refine yae ?_
  refine yak 2 [] [] [(17,.v (.slice none 0 0)),(18,.v (.slice none 0 0))] fo0 (by kernel_rfl) (ycv rfl rfl rfl (yzu rfl rfl (.p rfl)) (ycv rfl rfl rfl (yry rfl rfl rfl (.p rfl) (.p rfl) rfl (Nat.zero_le _)) (yak 1 [] [] [(21,pI p1)] fo0 (by kernel_rfl) (yxv 3 1 ?_))))
  refine yat rfl rfl rfl (xgo rfl rfl rfl rfl rfl rfl rfl rfl (of_decide_eq_true hc) hu (by exact zph) (fun a c hac=>?_))
  refine yak 2 [] [] [(23,.v (.slice none 0 0)),(24,pI 0)] fo0 (by kernel_rfl) (ycv rfl rfl rfl (yry (k:=0) rfl rfl rfl (.p rfl) (.p rfl) rfl (Nat.zero_le _)) (yap [] [] [(0,.v (.slice a 0 c))] fo0 (by kernel_rfl) (yab ?_)))
  (repeat refine yaa ?_)
  refine yad [] [26] [(4,.v (.slice a 0 c))] fo0 (by kernel_rfl) (yab (yai ?_))
  exact ybh (ygl (ybm rfl)) (zs1) ⟨_,_,rfl,rfl⟩
 refine yag ?_
 refine yab ?_
 (repeat refine yaa ?_)
 refine yad [] [26] [(4,.v (.slice none 0 0))] fo0 (by kernel_rfl) (yab (ych 3 1 (yai ?_)))
 exact ybh (ygl (ybm rfl)) (zs1) ⟨_,_,rfl,rfl⟩
def ydh (p0:(List (List Int))):Option (List Int):=Option.bind (loopF (S:=Int×Int) (T:=(Int)) (fun (v1,v2)=>cond (decide (v2<(p0.length:Int))) (Option.bind (idx p0 v2) (fun m7=>cond (decide ((IntKind.i64.wrap (v1+(m7.length:Int)))<0)) (none) (some (.inl ((IntKind.i64.wrap (v1+(m7.length:Int))),(IntKind.i64.wrap (v2+1))))))) (some (.inr v1))) FUEL (0,0)) (fun v3=>Option.bind (ygt v3) (fun x9=>Option.bind (loopF (S:=(List Int)×Int) (T:=((List Int))) (fun (l14,v17)=>cond (decide (v17<(p0.length:Int))) (Option.bind (idx p0 v17) (fun m25=>Option.bind (app 8 l14 m25) (fun l26=>some (.inl (l26,(IntKind.i64.wrap (v17+1))))))) (some (.inr l14))) FUEL (x9,0)) (fun l21=>some l21)))
theorem yne {p0:(List (List Int))} {r:(List Int)}  (h:ydh p0=some r):PCall 249 [pL (eL eI) p0] [] (fun pv ρ'=>∃ a c,pv=.v (.slice a r.length c)∧ρ'=[PRes.row a r.length c 3 1 (List.map eI r)]):=by
 unfold ydh at h
 refine ybd Tryz.func249 fk249 rfl Tryz.ntmps249 Tryz.results249 rfl (yaa (yad [] [2] [] fo0 (by kernel_rfl) (yab (yaa (yad [] [] [(3,pI 0)] fo0 (by kernel_rfl) (yab (yaa (yaa (yad [] [] [(9,pL (eL eI) p0),(10,pI (p0.length:Int)),(11,pI 0)] fo0 (by kernel_rfl) (yab (yac h fun q5 hq5 h=>?_)))))))))))
 refine yas (Y:=(Unit)×(Int)) (fun (_,v3)=>[(0,pL (eL eI) p0),(3,pI v3)]) (fun (_,v3)=>[]) (fun (_,v3)=>q5=v3) ?_ ?_
 ·refine yaj ?_
  refine yaw (Y:=Unit) (S:=Int×Int) _ hq5 (fun _ (v1,v2)=>[(0,pL (eL eI) p0),(3,pI v1),(9,pL (eL eI) p0),(10,pI (p0.length:Int)),(11,pI v2)]) (fun _ (v1,v2)=>[]) () (zh5 rfl rfl rfl rfl rfl) zsn ?_
  rintro _ ⟨v1,v2⟩ o τ hb4;(try dsimp only at hb4);dsimp only [pupds]
  refine yaa (yad [] [] [(12,pB (decide (v2<(p0.length:Int))))] fo0 (by kernel_rfl) (yab (yaa (zif rfl hb4 (fun hc6 hb4=>?_) fun hc6 hb4=>?_))))
  ·refine yag ?_
   refine yab (yaa (yaj (yaa (yac hb4 fun m7 hm7 hb4=>yad [] [13,14] [(5,pL eI m7)] (yjt 0 (eL eI) hm7 fo0) (by kernel_rfl) (yab (yaa (yad [] [15,16,17,18] [(3,pI (IntKind.i64.wrap (v1+(m7.length:Int))))] fo0 (by kernel_rfl) (yab (yaa (yad [] [19] [(20,pB (decide ((IntKind.i64.wrap (v1+(m7.length:Int)))<0)))] fo0 (by kernel_rfl) (yab (zif rfl hb4 (fun hc8 hb4=>?_) fun hc8 hb4=>?_))))))))))))
   ·refine yae ?_
    exact absurd hb4 (by simp)
   refine yag ?_
   refine yal (yab (yad [] [22] [(11,pI (IntKind.i64.wrap (v2+1)))] fo0 (by kernel_rfl) ?_))
   exact ybk hb4 () (zh5 rfl rfl rfl rfl rfl) zsn
  refine yba ?_
  refine yao (yam hb4 (fun ht=>yan rfl ?_))
  exact yaz ((),v1) (zh2 rfl rfl) zsn ht.symm
 rintro ⟨_,v3⟩ τ hz;(try dsimp only at hz);subst q5;(try dsimp only at h);dsimp only [pupds]
 refine yaa (yac h fun x9 hx9 h=>yae (yak 1 [] [] [(23,pI v3)] fo0 (by kernel_rfl) ?_))
 refine yat rfl rfl rfl (ybj rfl rfl (ρ1:=[]) (List.Perm.refl _) (yop hx9) ?_);rintro _ _ ⟨a10,c11,rfl,rfl⟩
 refine yap [] [] [(6,pO a10 x9.length c11)] fo0 (by kernel_rfl) (yab (yaa (yaa (yad [] [] [(25,pL (eL eI) p0),(26,pI (p0.length:Int)),(27,pI 0)] fo0 (by kernel_rfl) (yab (yac h fun q23 hq23 h=>?_))))))
 refine yas (Y:=(Option Addr×Nat)×((List Int))) (fun ((a19,c20),l21)=>[(6,pO a19 l21.length c20)]) (fun ((a19,c20),l21)=>[PRes.row a19 l21.length c20 3 1 (List.map eI l21)]) (fun ((a19,c20),l21)=>q23=l21) ?_ ?_
 ·refine yaj ?_
  refine yaw (Y:=Option Addr×Nat) (S:=(List Int)×Int) _ hq23 (fun (a15,c16) (l14,v17)=>[(6,pO a15 l14.length c16),(25,pL (eL eI) p0),(26,pI (p0.length:Int)),(27,pI v17)]) (fun (a15,c16) (l14,v17)=>[PRes.row a15 l14.length c16 3 1 (List.map eI l14)]) (a10,c11) (zh4 rfl rfl rfl rfl) (zs1) ?_
  rintro ⟨a15,c16⟩ ⟨l14,v17⟩ o τ hb22;(try dsimp only at hb22);dsimp only [pupds]
  refine yaa (yad [] [] [(28,pB (decide (v17<(p0.length:Int))))] fo0 (by kernel_rfl) (yab (yaa (zif rfl hb22 (fun hc24 hb22=>?_) fun hc24 hb22=>?_))))
  ·refine yag ?_
   refine yab (yaa (yaj (yaa (yac hb22 fun m25 hm25 hb22=>yad [] [29,30] [(8,pL eI m25)] (yjt 0 (eL eI) hm25 fo0) (by kernel_rfl) (yab (yac hb22 fun l26 hl26 hb22=>yae (yak 2 [] [] [(31,pO a15 l14.length c16),(32,pL eI m25)] fo0 (by kernel_rfl) ?_)))))))
   refine yat rfl rfl rfl (yrw (enc:=eI) rfl rfl rfl rfl rfl (fun _=>rfl) rfl rfl rfl (by exact zph) hl26 (fun a27 c28=>?_))
   refine yap [] [] [(6,pO a27 l26.length c28)] fo0 (by kernel_rfl) (yal (yab (yad [] [34] [(27,pI (IntKind.i64.wrap (v17+1)))] fo0 (by kernel_rfl) ?_)))
   exact ybk hb22 (a27,c28) (zh4 rfl rfl rfl rfl) (zs1)
  refine yba ?_
  refine yao (yam hb22 (fun ht=>yan rfl ?_))
  exact yaz ((a15,c16),l14) (zh1 rfl) (zs1) ht.symm
 rintro ⟨⟨a19,c20⟩,l21⟩ τ hz;(try dsimp only at hz);subst q23;(try dsimp only at h);dsimp only [pupds]
 refine yaa (yad [] [35] [(2,pO a19 l21.length c20)] fo0 (by kernel_rfl) (yab (yai ?_)))
 obtain rfl:=osi h
 exact ybh (ygl (ybm rfl)) (zs1) ⟨_,_,rfl,rfl⟩
def yez (rec:Zh→Zn→Option ((List Int)×Bool)) (p0:(List Zh)) (p1:Zn):Option ((List Int)×Bool):=Option.bind (loopF (S:=Int) (T:=(Unit)⊕(_)) (fun v2=>cond (decide (v2<(p0.length:Int))) (Option.bind (idx p0 v2) (fun m6=>Option.bind (rec m6 p1) (fun x7=>cond x7.2 (Option.bind (ydh [[v2],x7.1]) (fun x13=>some (.inr (.inr (x13,true))))) (some (.inl (IntKind.i64.wrap (v2+1))))))) (some (.inr (.inl ())))) FUEL 0) (fun q=>match q with | .inl _=>some ([],false) | .inr e=>some e)
theorem yoq {rec:Zh→Zn→Option ((List Int)×Bool)} (hrec:∀ {x:Zh} {y0:Zn} {w:((List Int)×Bool)},rec x y0=some w→PFI x.pv "customs/rule.witness" [.agg [pS y0.Code,pI y0.Price,pB y0.Obtained,pL eS y0.Processes,pL Zl.enc y0.Inputs]] (.tup [pL eI w.1,pB w.2])) {p0:(List Zh)} {p1:Zn} {r:((List Int)×Bool)} (h:yez rec p0 p1=some r):PF 248 [pL Zh.enc p0,.agg [pS p1.Code,pI p1.Price,pB p1.Obtained,pL eS p1.Processes,pL Zl.enc p1.Inputs]] (.tup [pL eI r.1,pB r.2]):=by
 unfold yez at h
 refine ycf ?_
 refine ybd Tryz.func248 fk248 rfl Tryz.ntmps248 Tryz.results248 rfl (yaa (yae (yat rfl rfl rfl (ycp (cs:=[pS p1.Code,pI p1.Price,pB p1.Obtained,pL eS p1.Processes,pL Zl.enc p1.Inputs]) rfl rfl (fun b1=>yap [] [4,5] [] fo0 (by kernel_rfl) (yab (yaa (yaa (yad [] [] [(10,pL Zh.enc p0),(11,pI (p0.length:Int)),(12,pI 0)] fo0 (by kernel_rfl) (yab (yac h fun q4 hq4 h=>?_)))))))))))
 refine yas (Y:=(Unit)×(Unit)) (fun (_,_)=>[]) (fun (_,_)=>[]) (fun (_,_)=>q4=Sum.inl ()) ?_ ?_
 ·refine yaj ?_
  refine yaw (Y:=Unit) (S:=Int) _ hq4 (fun _ v2=>[(3,pP b1 0),(10,pL Zh.enc p0),(11,pI (p0.length:Int)),(12,pI v2)]) (fun _ v2=>[PRes.b b1 73 [pS p1.Code,pI p1.Price,pB p1.Obtained,pL eS p1.Processes,pL Zl.enc p1.Inputs]]) () (zh4 rfl rfl rfl rfl) (zs1) ?_
  rintro _ v2 o τ hb3;(try dsimp only at hb3);dsimp only [pupds]
  refine yaa (yad [] [] [(13,pB (decide (v2<(p0.length:Int))))] fo0 (by kernel_rfl) (yab (yaa (zif rfl hb3 (fun hc5 hb3=>?_) fun hc5 hb3=>?_))))
  ·refine yag ?_
   refine yab (yaa (yaj (yaa (yac hb3 fun m6 hm6 hb3=>yad [] [14,15,16] [(6,pI v2),(7,Zh.pv m6)] (yjt 1 Zh.enc hm6 fo0) (by kernel_rfl) (yab (yaa (yac hb3 fun x7 hx7 hb3=>yad [0] [18,19,20,17,21,22] [(8,pL eI x7.1),(9,pB x7.2)] (foci 2 (hrec hx7) fo0) (by kernel_rfl) (yab (yaa (yad [] [] [(23,pB x7.2)] fo0 (by kernel_rfl) (yab (zif rfl hb3 (fun hc8 hb3=>?_) fun hc8 hb3=>?_))))))))))))
   ·refine yaa ?_
    refine yae (yak 1 [] [] [(24,pI v2)] fo0 (by kernel_rfl) (yat rfl rfl rfl (yck rfl rfl rfl rfl rfl (zic rfl zin) rfl rfl rfl rfl (fun b9=>yak 1 [] [] [(26,pL eI x7.1)] fo0 (by kernel_rfl) ?_))))
    refine yfw (enc:=eI) (xs:=[v2]) 25 rfl (by exact zph) ?_
    refine yat rfl rfl rfl (yck rfl rfl rfl rfl rfl (zic rfl (zic rfl zin)) rfl rfl rfl rfl (fun b11=>?_))
    refine yfw (enc:=(eL eI)) (xs:=[[v2],x7.1]) 27 rfl (by exact zph) ?_
    refine yac hb3 fun x13 hx13 hb3=>?_
    refine yat rfl rfl rfl (ybj rfl rfl (ρ1:=[]) (List.Perm.refl _) (yne hx13) ?_);rintro _ _ ⟨a14,c15,rfl,rfl⟩
    refine yap [] [] [(4,pO a14 x13.length c15),(5,pB true)] fo0 (by kernel_rfl) (yab ?_)
    refine ygo (enc:=eI) (xs:=x13) 4 rfl (by exact zph) ?_
    refine yai (yaf (yah ?_))
    refine ybb hb3 (fun ht=>?_);subst ht
    refine yaf (ybc ?_)
    obtain rfl:=osi h
    exact ybh (yid (ybm rfl) (ybm rfl)) zsn ⟨rfl,rfl⟩
   refine yag ?_
   refine yal (yab (yad [] [29] [(12,pI (IntKind.i64.wrap (v2+1)))] fo0 (by kernel_rfl) ?_))
   exact ybk hb3 () (zh4 rfl rfl rfl rfl) (zs1)
  refine yba ?_
  refine yao (yam hb3 (fun ht=>yan rfl ?_))
  exact yaz ((),()) zhn zsn ht.symm
 rintro ⟨_,_⟩ τ hz;(try dsimp only at hz);subst q4;(try dsimp only at h);dsimp only [pupds]
 refine yaa (yad [] [] [(4,pN),(5,pB false)] fo0 (by kernel_rfl) (yab (ynu 4 rfl (yai ?_))))
 obtain rfl:=osi h
 exact ybh (yid (ybm rfl) (ybm rfl)) zsn ⟨rfl,rfl⟩
def yfa (p0:Zt) (p1:Zn):Option ((List Int)×Bool):=Option.bind (rule_holds p0.rule p1) (fun x3=>some ([],x3))
theorem yor {p0:Zt} {p1:Zn} {r:((List Int)×Bool)}  (h:yfa p0 p1=some r):PF 252 [.agg [pI p0.rule.Kind,pI p0.rule.Digits,pL eS p0.rule.Except,pI p0.rule.Tolerance,pI p0.rule.Limit,pS p0.rule.Name,pL Zd.enc p0.rule.Args],.agg [pS p1.Code,pI p1.Price,pB p1.Obtained,pL eS p1.Processes,pL Zl.enc p1.Inputs]] (.tup [pL eI r.1,pB r.2]):=by
 unfold yfa at h
 refine ycf ?_
 refine ybd Tryz.func252 fk252 rfl Tryz.ntmps252 Tryz.results252 rfl (yaa (yae (yat rfl rfl rfl (ycp (cs:=[pI p0.rule.Kind,pI p0.rule.Digits,pL eS p0.rule.Except,pI p0.rule.Tolerance,pI p0.rule.Limit,pS p0.rule.Name,pL Zd.enc p0.rule.Args]) rfl rfl (fun b1=>yat rfl rfl rfl (ycp (cs:=[pS p1.Code,pI p1.Price,pB p1.Obtained,pL eS p1.Processes,pL Zl.enc p1.Inputs]) rfl rfl (fun b2=>yap [] [4,5] [] fo0 (by kernel_rfl) (yab (yaa (yac h fun x3 hx3 h=>yad [1,0] [6,7,8,9] [(4,pN),(5,pB x3)] (yew 3 (yzy hx3) fo0) (by kernel_rfl) (yab (ynu 4 rfl (yai ?_)))))))))))))
 obtain rfl:=osi h
 exact ybh (yid (ybm rfl) (ybm rfl)) zsn ⟨rfl,rfl⟩
def Irule_test_witness_B (rec:Zh→Zn→Option ((List Int)×Bool)) (x:Zh) (y0:Zn):Option ((List Int)×Bool):=match x with | .single_ a=>yfa a y0 | .every_ a=>yep rec a y0 | .some_ a=>yez rec a y0
theorem Irule_test_witness_B_ok {rec:Zh→Zn→Option ((List Int)×Bool)} (hrec:∀ {x:Zh} {y0:Zn} {w:((List Int)×Bool)},rec x y0=some w→PFI x.pv "customs/rule.witness" [.agg [pS y0.Code,pI y0.Price,pB y0.Obtained,pL eS y0.Processes,pL Zl.enc y0.Inputs]] (.tup [pL eI w.1,pB w.2])) {x:Zh} {y0:Zn} {w:((List Int)×Bool)} (h:Irule_test_witness_B rec x y0=some w):PFI x.pv "customs/rule.witness" [.agg [pS y0.Code,pI y0.Price,pB y0.Obtained,pL eS y0.Processes,pL Zl.enc y0.Inputs]] (.tup [pL eI w.1,pB w.2]):=by
 cases x with
 | single_ a=>rw [Zh.pv_single_];exact xbl ⟨fun _ _=>by kernel_rfl⟩ (yor h)
 | every_ a=>rw [Zh.pv_every_];exact xbl ⟨fun _ _=>by kernel_rfl⟩ (yoe hrec h)
 | some_ a=>rw [Zh.pv_some_];exact xbl ⟨fun _ _=>by kernel_rfl⟩ (yoq hrec h)
def Irule_test_witness_F (n:Nat):Zh→Zn→Option ((List Int)×Bool):=Nat.rec (motive:=fun _=>Zh→Zn→Option ((List Int)×Bool)) (fun _ _=>none) (fun _ ih=>Irule_test_witness_B ih) n
def Irule_test_witness (x:Zh) (y0:Zn):Option ((List Int)×Bool):=Irule_test_witness_F FUEL x y0
theorem Irule_test_witness_Fok (n:Nat):∀ {x:Zh} {y0:Zn} {w:((List Int)×Bool)},Irule_test_witness_F n x y0=some w→PFI x.pv "customs/rule.witness" [.agg [pS y0.Code,pI y0.Price,pB y0.Obtained,pL eS y0.Processes,pL Zl.enc y0.Inputs]] (.tup [pL eI w.1,pB w.2]):=by
 induction n with
 | zero=>intros;rename_i h;exact nomatch h
 | succ n ih=>intros;rename_i h;exact Irule_test_witness_B_ok (fun hr=>ih hr) h
theorem Irule_test_witness_ok {x:Zh} {y0:Zn} {w:((List Int)×Bool)} (h:Irule_test_witness x y0=some w):PFI x.pv "customs/rule.witness" [.agg [pS y0.Code,pI y0.Price,pB y0.Obtained,pL eS y0.Processes,pL Zl.enc y0.Inputs]] (.tup [pL eI w.1,pB w.2]):=Irule_test_witness_Fok FUEL h
def ybl (p0:(List Zg)) (p1:(Zg→Option Bool)):Option Int:=Option.bind (loopF (S:=Int) (T:=(Unit)⊕(_)) (fun v1=>cond (decide (v1<(p0.length:Int))) (Option.bind (idx p0 v1) (fun m5=>Option.bind (p1 m5) (fun x6=>cond x6 (some (.inr (.inr v1))) (some (.inl (IntKind.i64.wrap (v1+1))))))) (some (.inr (.inl ())))) FUEL 0) (fun q=>match q with | .inl _=>some (-1) | .inr e=>some e)
theorem yfb {p0:(List Zg)} {p1:(Zg→Option Bool)} {r:Int} {g1:PV} (hg1:∀ {y0:Zg} {w:Bool},p1 y0=some w→PFV g1 [.agg [pI y0.Claim.Product,pI y0.Claim.Agreement,pL eI y0.Path,pL Za.enc y0.Premises]] (pB w)) (h:ybl p0 p1=some r):PF 111 [pL Zg.enc p0,g1] (pI r):=by
 unfold ybl at h
 refine ycf ?_
 refine ybd Tryz.func111 fk111 rfl Tryz.ntmps111 Tryz.results111 rfl (yaa (yad [] [4] [] fo0 (by kernel_rfl) (yab (yaa (yaa (yad [] [6] [(7,pI (p0.length:Int)),(8,pI 0)] fo0 (by kernel_rfl) (yab (yac h fun q3 hq3 h=>?_))))))))
 refine yas (Y:=(Unit)×(Unit)) (fun (_,_)=>[]) (fun (_,_)=>[]) (fun (_,_)=>q3=Sum.inl ()) ?_ ?_
 ·refine yaj ?_
  refine yaw (Y:=Unit) (S:=Int) _ hq3 (fun _ v1=>[(0,pL Zg.enc p0),(1,g1),(7,pI (p0.length:Int)),(8,pI v1)]) (fun _ v1=>[]) () (zh4 rfl rfl rfl rfl) zsn ?_
  rintro _ v1 o τ hb2;(try dsimp only at hb2);dsimp only [pupds]
  refine yaa (yad [] [] [(9,pB (decide (v1<(p0.length:Int))))] fo0 (by kernel_rfl) (yab (yaa (zif rfl hb2 (fun hc4 hb2=>?_) fun hc4 hb2=>?_))))
  ·refine yag ?_
   refine yab (yaa (yaj (yaa (yad [] [10] [(5,pI v1)] fo0 (by kernel_rfl) (yab (yaa (yac hb2 fun m5 hm5 hb2=>yac hb2 fun x6 hx6 hb2=>yad [] (rg 11 5) [(16,pB x6)] (yjt 3 Zg.enc hm5 (focv 5 (hg1 hx6) fo0)) (by kernel_rfl) (yab (zif rfl hb2 (fun hc7 hb2=>?_) fun hc7 hb2=>?_)))))))))
   ·refine yaa ?_
    refine yad [] [17] [(4,pI v1)] fo0 (by kernel_rfl) (yab (yai (yaf (yah ?_))))
    refine ybb hb2 (fun ht=>?_);subst ht
    refine yaf (ybc ?_)
    obtain rfl:=osi h
    exact zq rfl ⟨rfl,rfl⟩
   refine yag ?_
   refine yal (yab (yad [] [18] [(8,pI (IntKind.i64.wrap (v1+1)))] fo0 (by kernel_rfl) ?_))
   exact ybk hb2 () (zh4 rfl rfl rfl rfl) zsn
  refine yba ?_
  refine yao (yam hb2 (fun ht=>yan rfl ?_))
  exact yaz ((),()) zhn zsn ht.symm
 rintro ⟨_,_⟩ τ hz;(try dsimp only at hz);subst q3;(try dsimp only at h);dsimp only [pupds]
 refine yaa (yad [] [] [(4,pI (-1))] fo0 (by kernel_rfl) (yab (yai ?_)))
 obtain rfl:=osi h
 exact zq rfl ⟨rfl,rfl⟩
def ybs (p0:(List Zg)) (p1:(Zg→Option Bool)):Option Bool:=Option.bind (ybl p0 p1) (fun x1=>some (decide (0≤x1)))
theorem yeq {p0:(List Zg)} {p1:(Zg→Option Bool)} {r:Bool} {g1:PV} (hg1:∀ {y0:Zg} {w:Bool},p1 y0=some w→PFV g1 [.agg [pI y0.Claim.Product,pI y0.Claim.Agreement,pL eI y0.Path,pL Za.enc y0.Premises]] (pB w)) (h:ybs p0 p1=some r):PF 70 [pL Zg.enc p0,g1] (pB r):=by
 unfold ybs at h
 refine ycf ?_
 refine ybd Tryz.func70 fk70 rfl Tryz.ntmps70 Tryz.results70 rfl (yaa (yad [] [4] [] fo0 (by kernel_rfl) (yab (yaa (yac h fun x1 hx1 h=>yad [] [5,6,7,8] [(4,pB (decide (0≤x1)))] (yew 2 (yfb hg1 hx1) fo0) (by kernel_rfl) (yab (yai ?_)))))))
 obtain rfl:=osi h
 exact zq rfl ⟨rfl,rfl⟩
def ykc (p0:Zg) (p1:Za):Option Bool:=some (Za.eqb p0.Claim p1)
theorem yvo {p0:Zg} {p1:Za} {r:Bool}  (h:ykc p0 p1=some r):PF 71 [.agg [pI p0.Claim.Product,pI p0.Claim.Agreement,pL eI p0.Path,pL Za.enc p0.Premises],.ref [pI p1.Product,pI p1.Agreement] 0] (pB r):=by
 unfold ykc at h
 refine ycf ?_
 refine ybd Tryz.func71 fk71 rfl Tryz.ntmps71 Tryz.results71 rfl (yaa (yae (yat rfl rfl rfl (ycp (cs:=[pI p0.Claim.Product,pI p0.Claim.Agreement,pL eI p0.Path,pL Za.enc p0.Premises]) rfl rfl (fun b1=>yap [] [3] [] fo0 (by kernel_rfl) (yab (yaa (yad [0] [4,5,6,7] [(3,pB (Za.eqb p0.Claim p1))] (foeq 3 Za.eqok54 fo0) (by kernel_rfl) (yab (yai ?_))))))))))
 obtain rfl:=osi h
 exact zq rfl ⟨rfl,rfl⟩
def yhp (p0:(List Zg)) (p1:Za):Option Bool:=Option.bind (ybs p0 (fun y2=>ykc y2 p1)) (fun x3=>some x3)
theorem yky {p0:(List Zg)} {p1:Za} {r:Bool}  (h:yhp p0 p1=some r):PF 30 [pL Zg.enc p0,.agg [pI p1.Product,pI p1.Agreement]] (pB r):=by
 unfold yhp at h
 refine ycf ?_
 refine ybd Tryz.func30 fk30 rfl Tryz.ntmps30 Tryz.results30 rfl (yaa (yae (yat rfl rfl rfl (ycp (cs:=[pI p1.Product,pI p1.Agreement]) rfl rfl (fun b1=>yap [] [4] [] fo0 (by kernel_rfl) (yab (yaa (yae (yak 1 [] [] [(5,pL Zg.enc p0)] fo0 (by kernel_rfl) ?_)))))))))
 refine yrg 3 rfl (by exact zph) ?_
 refine yac h fun x3 hx3 h=>yap [] [6,7] [(4,pB x3)] (yew 1 (yeq (fun hr=>yuu (yvo hr)) hx3) fo0) (by kernel_rfl) (yab (yai ?_))
 obtain rfl:=osi h
 exact zq rfl ⟨rfl,rfl⟩
def ref14_In (p0:(List Int)) (p1:Int):Option Bool:=Option.bind (loopF (S:=Int) (T:=(Unit)⊕(_)) (fun v1=>cond (decide (v1<(p0.length:Int))) (Option.bind (idx p0 v1) (fun m5=>cond (m5 == p1) (some (.inr (.inr true))) (some (.inl (IntKind.i64.wrap (v1+1)))))) (some (.inr (.inl ())))) FUEL 0) (fun q=>match q with | .inl _=>some false | .inr e=>some e)
theorem yvp {p0:(List Int)} {p1:Int} {r:Bool}  (h:ref14_In p0 p1=some r):PF 29 [pL eI p0,pI p1] (pB r):=by
 unfold ref14_In at h
 refine ycf ?_
 refine ybd Tryz.func29 fk29 rfl Tryz.ntmps29 Tryz.results29 rfl (yaa (yad [] [4] [] fo0 (by kernel_rfl) (yab (yaa (yaa (yad [] [] [(5,pI 0)] fo0 (by kernel_rfl) (yab (yac h fun q3 hq3 h=>?_))))))))
 refine yas (Y:=(Unit)×(Unit)) (fun (_,_)=>[]) (fun (_,_)=>[]) (fun (_,_)=>q3=Sum.inl ()) ?_ ?_
 ·refine yaj ?_
  refine yaw (Y:=Unit) (S:=Int) _ hq3 (fun _ v1=>[(0,pL eI p0),(1,pI p1),(5,pI v1)]) (fun _ v1=>[]) () (zh3 rfl rfl rfl) zsn ?_
  rintro _ v1 o τ hb2;(try dsimp only at hb2);dsimp only [pupds]
  refine yaa (yaa (yad [] [6,7,8] [(9,pB (decide (v1<(p0.length:Int))))] fo0 (by kernel_rfl) (yab (zif rfl hb2 (fun hc4 hb2=>?_) fun hc4 hb2=>?_))))
  ·refine yag ?_
   refine yab (yaa (yaj (yaa (yac hb2 fun m5 hm5 hb2=>yad [] (rg 12 5) [(17,pB (m5 == p1))] (yjt 2 eI hm5 fo0) (by kernel_rfl) (yab (zif rfl hb2 (fun hc6 hb2=>?_) fun hc6 hb2=>?_))))))
   ·refine yaa ?_
    refine yad [] [] [(4,pB true)] fo0 (by kernel_rfl) (yab (yai (yaf (yah ?_))))
    refine ybb hb2 (fun ht=>?_);subst ht
    refine yaf (ybc ?_)
    obtain rfl:=osi h
    exact zq rfl ⟨rfl,rfl⟩
   refine yag ?_
   refine yal (yab (yad [] [10,11] [(5,pI (IntKind.i64.wrap (v1+1)))] fo0 (by kernel_rfl) ?_))
   exact ybk hb2 () (zh3 rfl rfl rfl) zsn
  refine yba ?_
  refine yao (yam hb2 (fun ht=>yan rfl ?_))
  exact yaz ((),()) zhn zsn ht.symm
 rintro ⟨_,_⟩ τ hz;(try dsimp only at hz);subst q3;(try dsimp only at h);dsimp only [pupds]
 refine yaa (yad [] [] [(4,pB false)] fo0 (by kernel_rfl) (yab (yai ?_)))
 obtain rfl:=osi h
 exact zq rfl ⟨rfl,rfl⟩
def yjj (p0:(List Zb)) (p1:Int):Option (List Int):=Option.bind (loopF (S:=(List Int)×Int) (T:=((List Int))) (fun (l2,v5)=>cond (decide (v5<(p0.length:Int))) (Option.bind (loopF (S:=(List Int)×Int) (T:=((List Int))) (fun (l15,v18)=>Option.bind (idx p0 v5) (fun m25=>cond (decide (v18<(m25.Inputs.length:Int))) (Option.bind (Option.bind (idx p0 v5) (fun m32=>Option.bind (idx m32.Inputs v18) (fun m33=>cond (m33.Product == p1) (Option.bind (idx p0 v5) (fun m35=>Option.bind (app 8 l15 [m35.ID]) (fun l38=>some l38))) (some l15)))) (fun l30=>some (.inl (l30,(IntKind.i64.wrap (v18+1)))))) (some (.inr l15)))) FUEL (l2,0)) (fun l22=>some (.inl (l22,(IntKind.i64.wrap (v5+1)))))) (some (.inr l2))) FUEL (([]:List Int),0)) (fun l9=>some l9)
theorem yxf {p0:(List Zb)} {p1:Int} {r:(List Int)}  (h:yjj p0 p1=some r):PF 69 [pL Zb.enc p0,pI p1] (pL eI r):=by
 unfold yjj at h
 refine ycf ?_
 refine ybd Tryz.func69 fk69 rfl Tryz.ntmps69 Tryz.results69 rfl (yaa (yad [] [4] [] fo0 (by kernel_rfl) (yab (yaa (yad [] [] [(5,pN)] fo0 (by kernel_rfl) (yab (yaa (yaa (yad [] [] [(6,pI 0)] fo0 (by kernel_rfl) (yab (ych 3 1 (yac h fun q11 hq11 h=>?_))))))))))))
 refine yas (Y:=(Option Addr×Nat)×((List Int))) (fun ((a7,c8),l9)=>[(5,pO a7 l9.length c8)]) (fun ((a7,c8),l9)=>[PRes.row a7 l9.length c8 3 1 (List.map eI l9)]) (fun ((a7,c8),l9)=>q11=l9) ?_ ?_
 ·refine yaj ?_
  refine yaw (Y:=Option Addr×Nat) (S:=(List Int)×Int) _ hq11 (fun (a3,c4) (l2,v5)=>[(0,pL Zb.enc p0),(1,pI p1),(5,pO a3 l2.length c4),(6,pI v5)]) (fun (a3,c4) (l2,v5)=>[PRes.row a3 l2.length c4 3 1 (List.map eI l2)]) (none,0) (zh4 rfl rfl rfl rfl) (zs1) ?_
  rintro ⟨a3,c4⟩ ⟨l2,v5⟩ o τ hb10;(try dsimp only at hb10);dsimp only [pupds]
  refine yaa (yaa (yad [] [8,9,10] [(11,pB (decide (v5<(p0.length:Int))))] fo0 (by kernel_rfl) (yab (zif rfl hb10 (fun hc13 hb10=>?_) fun hc13 hb10=>?_))))
  ·refine yag ?_
   refine yab (yaa (yaj (yaa (yad [] [] [(7,pI 0)] fo0 (by kernel_rfl) (yab (yac hb10 fun q24 hq24 hb10=>?_))))))
   refine yio (Y:=(Option Addr×Nat)×((List Int))) (fun ((a20,c21),l22)=>[(0,pL Zb.enc p0),(1,pI p1),(5,pO a20 l22.length c21),(6,pI v5)]) (fun ((a20,c21),l22)=>[PRes.row a20 l22.length c21 3 1 (List.map eI l22)]) (fun ((a20,c21),l22)=>q24=l22) ?_ ?_
   ·refine yaj ?_
    refine yaw (Y:=Option Addr×Nat) (S:=(List Int)×Int) _ hq24 (fun (a16,c17) (l15,v18)=>[(0,pL Zb.enc p0),(1,pI p1),(5,pO a16 l15.length c17),(6,pI v5),(7,pI v18)]) (fun (a16,c17) (l15,v18)=>[PRes.row a16 l15.length c17 3 1 (List.map eI l15)]) (a3,c4) (zh5 rfl rfl rfl rfl rfl) (zs1) ?_
    rintro ⟨a16,c17⟩ ⟨l15,v18⟩ o τ hb23;(try dsimp only at hb23);dsimp only [pupds]
    refine yaa (yaa (yac hb23 fun m25 hm25 hb23=>yad [] (rg 14 7) [(21,pB (decide (v18<(m25.Inputs.length:Int))))] (yjt 3 Zb.enc hm25 fo0) (by kernel_rfl) (yab (zif rfl hb23 (fun hc26 hb23=>?_) fun hc26 hb23=>?_))))
    ·refine yag ?_
     refine yab (yaa (yac hb23 fun q31 hq31 hb23=>?_))
     refine yas (Y:=(Option Addr×Nat)×((List Int))) (fun ((a28,c29),l30)=>[(0,pL Zb.enc p0),(1,pI p1),(5,pO a28 l30.length c29),(6,pI v5),(7,pI v18)]) (fun ((a28,c29),l30)=>[PRes.row a28 l30.length c29 3 1 (List.map eI l30)]) (fun ((a28,c29),l30)=>q31=l30) ?_ ?_
     ·skip
      refine yaj (yaa (yac hq31 fun m32 hm32 hq31=>yac hq31 fun m33 hm33 hq31=>yad [] (rg 24 10) [(34,pB (m33.Product == p1))] (yjt 2 Zb.enc hm32 (yjt 6 Zf.enc hm33 fo0)) (by kernel_rfl) (yab (zif rfl hq31 (fun hc34 hq31=>?_) fun hc34 hq31=>?_))))
      ·refine yac hq31 ?_;clear hq31;intro m35 hm35 hq31
       refine yae (yak 6 [] [36,37,38,39] [(35,pO a16 l15.length c17),(40,pI m35.ID)] (yjt 3 Zb.enc hm35 fo0) (by kernel_rfl) (yat rfl rfl rfl (yck rfl rfl rfl rfl rfl (zic rfl zin) rfl rfl rfl rfl (fun b36=>yac hq31 fun l38 hl38 hq31=>?_))))
       refine yat rfl rfl rfl (ycg (enc:=eI) rfl rfl rfl rfl rfl rfl rfl rfl rfl zm0 (by exact zpt zph) hl38 (fun a39 c40=>?_))
       refine yap [] [] [(5,pO a39 l38.length c40)] fo0 (by kernel_rfl) (yal ?_)
       obtain rfl:=osi hq31
       exact yaz ((a39,c40),l38) (zh5 rfl rfl rfl rfl rfl) (zs1) rfl
      refine yag ?_
      refine yal ?_
      obtain rfl:=osi hq31
      exact yaz ((a16,c17),l15) (zh5 rfl rfl rfl rfl rfl) (zs1) rfl
     rintro ⟨⟨a28,c29⟩,l30⟩ τ hz;(try dsimp only at hz);subst q31;(try dsimp only at hb23);dsimp only [pupds]
     refine yad [] [22,23] [(7,pI (IntKind.i64.wrap (v18+1)))] fo0 (by kernel_rfl) ?_
     exact ybk hb23 (a28,c29) (zh5 rfl rfl rfl rfl rfl) (zs1)
    refine yba ?_
    refine yao (yam hb23 (fun ht=>yan rfl ?_))
    exact yih ((a16,c17),l15) (zh4 rfl rfl rfl rfl) (zs1) ht.symm
   rintro ⟨⟨a20,c21⟩,l22⟩ τ ρ1 hsub42 hz;(try dsimp only at hz hsub42);subst q24;(try dsimp only at hb10);dsimp only [pupds]
   refine yal (yab (ypb hsub42 (yad [] [12,13] [(6,pI (IntKind.i64.wrap (v5+1)))] fo0 (by kernel_rfl) ?_)))
   exact ybk hb10 (a20,c21) (zh4 rfl rfl rfl rfl) (zs1)
  refine yba ?_
  refine yao (yam hb10 (fun ht=>yan rfl ?_))
  exact yaz ((a3,c4),l2) (zh1 rfl) (zs1) ht.symm
 rintro ⟨⟨a7,c8⟩,l9⟩ τ hz;(try dsimp only at hz);subst q11;(try dsimp only at h);dsimp only [pupds]
 refine yaa (yad [] [43] [(4,pO a7 l9.length c8)] fo0 (by kernel_rfl) (yab ?_))
 refine ygo (enc:=eI) (xs:=l9) 4 rfl (by exact zph) ?_
 refine yai ?_
 obtain rfl:=osi h
 exact zq rfl ⟨rfl,rfl⟩
def yls (p0:(List Zb)) (p1:Int):Option (List Int):=Option.bind (mk 1 false (p0.length:Int)) (fun l1=>Option.bind (loopF (S:=(List Bool)×Bool) (T:=((List Bool))) (fun (l5,v6)=>cond v6 (Option.bind (loopF (S:=(List Bool)×Bool×Int) (T:=((List Bool)×Bool)) (fun (l13,v14,v15)=>cond (decide (v15<(p0.length:Int))) (Option.bind (idx p0 v15) (fun m22=>Option.bind (yjj p0 m22.ID) (fun x23=>Option.bind (loopF (S:=(List Bool)×Bool×Int) (T:=((List Bool)×Bool)) (fun (l25,v26,v27)=>Option.bind (gd (decide (v27<(p0.length:Int))) (idx l25 v15)) (fun m33=>cond ((decide (v27<(p0.length:Int)))&&(!m33)) (Option.bind (Option.bind (idx p0 v27) (fun m39=>Option.bind (gd (!(m39.ID == p1)) (idx l25 v27)) (fun m40=>Option.bind (gd ((m39.ID == p1)||m40) (idx p0 v27)) (fun m41=>Option.bind (gd ((m39.ID == p1)||m40) (ref14_In x23 m41.ID)) (fun x42=>cond (((m39.ID == p1)||m40)&&x42) (Option.bind (idx l25 v15) (fun m44=>some ((l25.set v15.toNat true),true))) (some (l25,v26))))))) (fun (l36,v37)=>some (.inl (l36,v37,(IntKind.i64.wrap (v27+1)))))) (some (.inr (l25,v26))))) FUEL (l13,v14,0)) (fun (l29,v30)=>some (.inl (l29,v30,(IntKind.i64.wrap (v15+1)))))))) (some (.inr (l13,v14)))) FUEL (l5,false,0)) (fun (l17,v18)=>some (.inl (l17,v18)))) (some (.inr l5))) FUEL (l1,true)) (fun l8=>Option.bind (loopF (S:=(List Int)×Int) (T:=((List Int))) (fun (l49,v52)=>cond (decide (v52<(p0.length:Int))) (Option.bind (Option.bind (idx l8 v52) (fun m67=>cond m67 (Option.bind (idx p0 v52) (fun m69=>Option.bind (app 8 l49 [m69.ID]) (fun l72=>some l72))) (some l49))) (fun l65=>some (.inl (l65,(IntKind.i64.wrap (v52+1)))))) (some (.inr l49))) FUEL (([]:List Int),0)) (fun l56=>some l56)))
theorem yxg {p0:(List Zb)} {p1:Int} {r:(List Int)}  (h:yls p0 p1=some r):PF 28 [pL Zb.enc p0,pI p1] (pL eI r):=by
 unfold yls at h
 refine ycf ?_
 refine ybd Tryz.func28 fk28 rfl Tryz.ntmps28 Tryz.results28 rfl (yaa (yad [] [4] [] fo0 (by kernel_rfl) (yab (yaa (yac h fun l1 hl1 h=>yae (yak 2 [] [12] [(13,pI (p0.length:Int))] fo0 (by kernel_rfl) (yat rfl rfl rfl (pl_make (enc:=eT) rfl rfl rfl rfl rfl rfl rfl rfl rfl hl1 (fun b2=>yap [] [] [(5,pO (some ⟨b2,0,none⟩) l1.length l1.length)] fo0 (by kernel_rfl) (yab (yaa (yaa (yad [] [] [(6,pB true)] fo0 (by kernel_rfl) (yab (yac h fun q10 hq10 h=>?_)))))))))))))))
 refine yas (Y:=(Unit)×((List Bool))) (fun (_,l8)=>[(0,pL Zb.enc p0),(5,pO (some ⟨b2,0,none⟩) l1.length l1.length)]) (fun (_,l8)=>[PRes.row (some ⟨b2,0,none⟩) l1.length l1.length 4 1 (List.map eT l8)]) (fun (_,l8)=>q10=l8) ?_ ?_
 ·refine yaj ?_
  refine yaw (Y:=Unit) (S:=(List Bool)×Bool) _ hq10 (fun _ (l5,v6)=>[(0,pL Zb.enc p0),(1,pI p1),(5,pO (some ⟨b2,0,none⟩) l1.length l1.length),(6,pB v6)]) (fun _ (l5,v6)=>[PRes.row (some ⟨b2,0,none⟩) l1.length l1.length 4 1 (List.map eT l5)]) () (zh4 rfl rfl rfl rfl) (zs1) ?_
  rintro _ ⟨l5,v6⟩ o τ hb9;(try dsimp only at hb9);dsimp only [pupds]
  refine yaa (yaa (yad [] [] [(15,pB v6)] fo0 (by kernel_rfl) (yab (zif rfl hb9 (fun hc11 hb9=>?_) fun hc11 hb9=>?_))))
  ·refine yag ?_
   refine yab (yaj (yaa (yad [] [] [(6,pB false)] fo0 (by kernel_rfl) (yab (yaa (yad [] [] [(7,pI 0)] fo0 (by kernel_rfl) (yab (yac hb9 fun q20 hq20 hb9=>?_))))))))
   refine yio (Y:=(Unit)×((List Bool)×Bool)) (fun (_,(l17,v18))=>[(0,pL Zb.enc p0),(1,pI p1),(5,pO (some ⟨b2,0,none⟩) l1.length l1.length),(6,pB v18)]) (fun (_,(l17,v18))=>[PRes.row (some ⟨b2,0,none⟩) l1.length l1.length 4 1 (List.map eT l17)]) (fun (_,(l17,v18))=>q20=(l17,v18)) ?_ ?_
   ·refine yaj ?_
    refine yaw (Y:=Unit) (S:=(List Bool)×Bool×Int) _ hq20 (fun _ (l13,v14,v15)=>[(0,pL Zb.enc p0),(1,pI p1),(5,pO (some ⟨b2,0,none⟩) l1.length l1.length),(6,pB v14),(7,pI v15)]) (fun _ (l13,v14,v15)=>[PRes.row (some ⟨b2,0,none⟩) l1.length l1.length 4 1 (List.map eT l13)]) () (zh5 rfl rfl rfl rfl rfl) (zs1) ?_
    rintro _ ⟨l13,v14,v15⟩ o τ hb19;(try dsimp only at hb19);dsimp only [pupds]
    refine yaa (yaa (yad [] [16,17,18] [(19,pB (decide (v15<(p0.length:Int))))] fo0 (by kernel_rfl) (yab (zif rfl hb19 (fun hc21 hb19=>?_) fun hc21 hb19=>?_))))
    ·refine yag ?_
     refine yab (yaa (yaj (yaa (yac hb19 fun m22 hm22 hb19=>yac hb19 fun x23 hx23 hb19=>yad [] (rg 22 7) [(8,pL eI x23)] (yjt 3 Zb.enc hm22 (yew 6 (yxf hx23) fo0)) (by kernel_rfl) (yab (yaa (yad [] [] [(9,pI 0)] fo0 (by kernel_rfl) (yab (yac hb19 fun q32 hq32 hb19=>?_)))))))))
     refine yio (Y:=(Unit)×((List Bool)×Bool)) (fun (_,(l29,v30))=>[(0,pL Zb.enc p0),(1,pI p1),(5,pO (some ⟨b2,0,none⟩) l1.length l1.length),(6,pB v30),(7,pI v15)]) (fun (_,(l29,v30))=>[PRes.row (some ⟨b2,0,none⟩) l1.length l1.length 4 1 (List.map eT l29)]) (fun (_,(l29,v30))=>q32=(l29,v30)) ?_ ?_
     ·refine yaj ?_
      refine yaw (Y:=Unit) (S:=(List Bool)×Bool×Int) _ hq32 (fun _ (l25,v26,v27)=>[(0,pL Zb.enc p0),(1,pI p1),(5,pO (some ⟨b2,0,none⟩) l1.length l1.length),(6,pB v26),(7,pI v15),(8,pL eI x23),(9,pI v27)]) (fun _ (l25,v26,v27)=>[PRes.row (some ⟨b2,0,none⟩) l1.length l1.length 4 1 (List.map eT l25)]) () (zh7 rfl rfl rfl rfl rfl rfl rfl) (zs1) ?_
      rintro _ ⟨l25,v26,v27⟩ o τ hb31;(try dsimp only at hb31);dsimp only [pupds]
      refine yaa (yaa (yac hb31 fun m33 hm33 hb31=>yae (yak 7 [] [29,30,31,32] [(33,pB (decide (v27<(p0.length:Int)))),(34,pgv (decide (v27<(p0.length:Int))) (pO (some ⟨b2,0,none⟩) l1.length l1.length)),(35,pgv (decide (v27<(p0.length:Int))) (pI v15))] fo0 (by kernel_rfl) (yqt (ynt rfl rfl rfl) rfl rfl (yee (enc:=eT) (xs:=l25) rfl rfl rfl (.g rfl) zm0 (.g rfl) (ymd hm33)) (yqt (ynt rfl rfl rfl) rfl rfl (yda (sz:=1) (p:=pB m33) (enc:=eT) (xs:=l25) (a:=(some ⟨b2,0,none⟩)) v15 0 m33 rfl (.g rfl) rfl zm0 (ymd hm33) rfl) (yqt (ynt rfl rfl rfl) rfl rfl (pq_not rfl (.g rfl)) (ycv rfl rfl rfl (xgc rfl (.p rfl) (.p rfl) (.g rfl)) (yax (yab (zif rfl hb31 (fun hc34 hb31=>?_) fun hc34 hb31=>?_))))))))))
      ·refine yag ?_
       refine yab (yaa (yac hb31 fun q38 hq38 hb31=>?_))
       refine yas (Y:=(Unit)×((List Bool)×Bool)) (fun (_,(l36,v37))=>[(0,pL Zb.enc p0),(1,pI p1),(5,pO (some ⟨b2,0,none⟩) l1.length l1.length),(6,pB v37),(7,pI v15),(8,pL eI x23),(9,pI v27)]) (fun (_,(l36,v37))=>[PRes.row (some ⟨b2,0,none⟩) l1.length l1.length 4 1 (List.map eT l36)]) (fun (_,(l36,v37))=>q38=(l36,v37)) ?_ ?_
       ·skip
        refine yaj (yaa (yac hq38 fun m39 hm39 hq38=>yac hq38 fun m40 hm40 hq38=>yae (yak 10 [] (rg 42 7) [(49,pB (m39.ID == p1)),(50,pgv (!(m39.ID == p1)) (pO (some ⟨b2,0,none⟩) l1.length l1.length)),(51,pgv (!(m39.ID == p1)) (pI v27))] (yjt 2 Zb.enc hm39 fo0) (by kernel_rfl) (yqt (yze rfl rfl rfl) rfl rfl (yee (enc:=eT) (xs:=l25) rfl rfl rfl (.g rfl) zm0 (.g rfl) (ymd hm40)) (yqt (yze rfl rfl rfl) rfl rfl (yda (sz:=1) (p:=pB m40) (enc:=eT) (xs:=l25) (a:=(some ⟨b2,0,none⟩)) v27 0 m40 rfl (.g rfl) rfl zm0 (ymd hm40) rfl) (ycv rfl rfl rfl (pq_or rfl (.p rfl) (.p rfl) (.g rfl)) (yac hq38 fun m41 hm41 hq38=>yac hq38 fun x42 hx42 hq38=>yap [] (rg 55 8) [(63,pB (((m39.ID == p1)||m40)&&x42))] (yst 4 Zb.enc (ymd hm41) (ykq 7 (fun hc=>yvp (ymd hx42 hc)) fo0)) (by kernel_rfl) (yab (zif rfl hq38 (fun hc43 hq38=>?_) fun hc43 hq38=>?_)))))))))
        ·refine yac hq38 ?_;clear hq38;intro m44 hm44 hq38
         refine yae (yak 2 [] [] [(64,pO (some ⟨b2,0,none⟩) l1.length l1.length),(65,pI v15)] fo0 (by kernel_rfl) (ycv rfl rfl rfl (yee (enc:=eT) (xs:=l25) rfl rfl rfl (.p rfl) zm0 (.p rfl) (fun _=>hm44)) (ybt rfl rfl (yss (enc:=eT) (xs:=l25) (a:=(some ⟨b2,0,none⟩)) v15 0 m44 true rfl rfl rfl rfl (fun _=>rfl) rfl rfl hm44 (zl1) zuh (yap [] [] [(6,pB true)] fo0 (by kernel_rfl) (yal ?_))))))
         obtain rfl:=osi hq38
         exact yaz ((),((l25.set v15.toNat true),true)) (zh7 rfl rfl rfl rfl rfl rfl rfl) (zs1) rfl
        refine yag ?_
        refine yal ?_
        obtain rfl:=osi hq38
        exact yaz ((),(l25,v26)) (zh7 rfl rfl rfl rfl rfl rfl rfl) (zs1) rfl
       rintro ⟨_,⟨l36,v37⟩⟩ τ hz;(try dsimp only at hz);subst q38;(try dsimp only at hb31);dsimp only [pupds]
       refine yad [] [40,41] [(9,pI (IntKind.i64.wrap (v27+1)))] fo0 (by kernel_rfl) ?_
       exact ybk hb31 () (zh7 rfl rfl rfl rfl rfl rfl rfl) (zs1)
      refine yba ?_
      refine yao (yam hb31 (fun ht=>yan rfl ?_))
      exact yih ((),(l25,v26)) (zh5 rfl rfl rfl rfl rfl) (zs1) ht.symm
     rintro ⟨_,⟨l29,v30⟩⟩ τ ρ1 hsub46 hz;(try dsimp only at hz hsub46);subst q32;(try dsimp only at hb19);dsimp only [pupds]
     refine yal (yab (ypb hsub46 (yad [] [20,21] [(7,pI (IntKind.i64.wrap (v15+1)))] fo0 (by kernel_rfl) ?_)))
     exact ybk hb19 () (zh5 rfl rfl rfl rfl rfl) (zs1)
    refine yba ?_
    refine yao (yam hb19 (fun ht=>yan rfl ?_))
    exact yih ((),(l13,v14)) (zh4 rfl rfl rfl rfl) (zs1) ht.symm
   rintro ⟨_,⟨l17,v18⟩⟩ τ ρ1 hsub47 hz;(try dsimp only at hz hsub47);subst q20;(try dsimp only at hb9);dsimp only [pupds]
   refine yal ?_
   exact ybk hb9 () (zh4 rfl rfl rfl rfl) (PSub.trans (zs1) hsub47)
  refine yba ?_
  refine yao (yam hb9 (fun ht=>yan rfl ?_))
  exact yaz ((),l5) (zh2 rfl rfl) (zs1) ht.symm
 rintro ⟨_,l8⟩ τ hz;(try dsimp only at hz);subst q10;(try dsimp only at h);dsimp only [pupds]
 refine yaa (yad [] [] [(10,pN)] fo0 (by kernel_rfl) (yab (yaa (yaa (yad [] [] [(11,pI 0)] fo0 (by kernel_rfl) (yab (ych 3 1 (yac h fun q58 hq58 h=>?_))))))))
 refine yas (Y:=(Option Addr×Nat)×((List Int))) (fun ((a54,c55),l56)=>[(10,pO a54 l56.length c55)]) (fun ((a54,c55),l56)=>[PRes.row a54 l56.length c55 3 1 (List.map eI l56)]) (fun ((a54,c55),l56)=>q58=l56) ?_ ?_
 ·refine yaj ?_
  refine yaw (Y:=Option Addr×Nat) (S:=(List Int)×Int) _ hq58 (fun (a50,c51) (l49,v52)=>[(0,pL Zb.enc p0),(5,pO (some ⟨b2,0,none⟩) l1.length l1.length),(10,pO a50 l49.length c51),(11,pI v52)]) (fun (a50,c51) (l49,v52)=>[PRes.row a50 l49.length c51 3 1 (List.map eI l49),PRes.row (some ⟨b2,0,none⟩) l1.length l1.length 4 1 (List.map eT l8)]) (none,0) (zh4 rfl rfl rfl rfl) (zs2) ?_
  rintro ⟨a50,c51⟩ ⟨l49,v52⟩ o τ hb57;(try dsimp only at hb57);dsimp only [pupds]
  refine yaa (yaa (yad [] [67,68,69] [(70,pB (decide (v52<(p0.length:Int))))] fo0 (by kernel_rfl) (yab (zif rfl hb57 (fun hc60 hb57=>?_) fun hc60 hb57=>?_))))
  ·refine yag ?_
   refine yab (yaa (yac hb57 fun q66 hq66 hb57=>?_))
   refine yas (Y:=(Option Addr×Nat)×((List Int))) (fun ((a63,c64),l65)=>[(0,pL Zb.enc p0),(5,pO (some ⟨b2,0,none⟩) l1.length l1.length),(10,pO a63 l65.length c64),(11,pI v52)]) (fun ((a63,c64),l65)=>[PRes.row (some ⟨b2,0,none⟩) l1.length l1.length 4 1 (List.map eT l8),PRes.row a63 l65.length c64 3 1 (List.map eI l65)]) (fun ((a63,c64),l65)=>q66=l65) ?_ ?_
   ·skip
    refine yaj (yaa (yac hq66 fun m67 hm67 hq66=>yae (yak 2 [] [] [(73,pO (some ⟨b2,0,none⟩) l1.length l1.length),(74,pI v52)] fo0 (by kernel_rfl) (ycv rfl rfl rfl (yee (enc:=eT) (xs:=l8) rfl rfl rfl (.p rfl) zm1 (.p rfl) (fun _=>hm67)) (ycv rfl rfl rfl (yda (sz:=1) (p:=pB m67) (enc:=eT) (xs:=l8) (a:=(some ⟨b2,0,none⟩)) v52 0 m67 rfl (.p rfl) rfl zm1 (fun _=>hm67) rfl) (yax (yab (zif rfl hq66 (fun hc68 hq66=>?_) fun hc68 hq66=>?_))))))))
    ·refine yac hq66 ?_;clear hq66;intro m69 hm69 hq66
     refine yae (yak 6 [] [78,79,80,81] [(77,pO a50 l49.length c51),(82,pI m69.ID)] (yjt 3 Zb.enc hm69 fo0) (by kernel_rfl) (yat rfl rfl rfl (yck rfl rfl rfl rfl rfl (zic rfl zin) rfl rfl rfl rfl (fun b70=>yac hq66 fun l72 hl72 hq66=>?_))))
     refine yat rfl rfl rfl (ycg (enc:=eI) rfl rfl rfl rfl rfl rfl rfl rfl rfl zm0 (by exact zpt zph) hl72 (fun a73 c74=>?_))
     refine yap [] [] [(10,pO a73 l72.length c74)] fo0 (by kernel_rfl) (yal ?_)
     obtain rfl:=osi hq66
     exact yaz ((a73,c74),l72) (zh4 rfl rfl rfl rfl) (zsc (zpt (zpt zph)) (zs1)) rfl
    refine yag ?_
    refine yal ?_
    obtain rfl:=osi hq66
    exact yaz ((a50,c51),l49) (zh4 rfl rfl rfl rfl) (zsc (zpt zph) (zs1)) rfl
   rintro ⟨⟨a63,c64⟩,l65⟩ τ hz;(try dsimp only at hz);subst q66;(try dsimp only at hb57);dsimp only [pupds]
   refine yad [] [71,72] [(11,pI (IntKind.i64.wrap (v52+1)))] fo0 (by kernel_rfl) ?_
   exact ybk hb57 (a63,c64) (zh4 rfl rfl rfl rfl) (zsc (zpt zph) (zs1))
  refine yba ?_
  refine yao (yam hb57 (fun ht=>yan rfl ?_))
  exact yaz ((a50,c51),l49) (zh1 rfl) (zs1) ht.symm
 rintro ⟨⟨a54,c55⟩,l56⟩ τ hz;(try dsimp only at hz);subst q58;(try dsimp only at h);dsimp only [pupds]
 refine yaa (yad [] [85] [(4,pO a54 l56.length c55)] fo0 (by kernel_rfl) (yab ?_))
 refine ygo (enc:=eI) (xs:=l56) 4 rfl (by exact zph) ?_
 refine yai ?_
 obtain rfl:=osi h
 exact zq rfl ⟨rfl,rfl⟩
end SX
namespace SX
open Go
abbrev bl (s:ByteArray):List UInt8:=s.data.toList
theorem bl_hi (s:ByteArray) (k:Nat):bl (s.extract 0 k)=(bl s).take k:=by simp [bl]
theorem bl_lo (s:ByteArray) (k:Nat):bl (s.extract k s.size)=(bl s).drop k:=by
  simp only [bl,ByteArray.data_extract,Array.toList_extract,List.extract_eq_take_drop]
  rw [List.take_of_length_le];simp
theorem yof (s:ByteArray):s.size=(bl s).length:=by simp [bl]
theorem bl_inj {s u:ByteArray} (h:bl s=bl u):s=u:=by
  obtain ⟨⟨x⟩⟩:=s;obtain ⟨⟨y⟩⟩:=u;simp [bl] at h;subst h;rfl
def isDig (n:Nat):Bool:=decide (48≤n∧n≤57)
def setCells (p:Nat→Bool):List Value:=(List.range 256).map fun i=>.bool (p i)
theorem yfn (p:Nat→Bool):(setCells p).length=256:=by simp [setCells]
theorem ymk (p:Nat→Bool) {j:Nat} (h:j<256):(setCells p)[j]?=some (.bool (p j)):=by simp [setCells,h]
theorem xca (p q:Nat→Bool) {j:Nat} (h:∀ i,q i=(decide (i=j)||p i)):(setCells p).set j (.bool true)=setCells q:=by
  apply List.ext_getElem?
  intro i
  rw [List.getElem?_set]
  simp only [yfn]
  rcases Nat.lt_or_ge i 256 with hi | hi
  · rw [ymk q hi,ymk p hi,h i]
    by_cases e:j=i
    · subst e;simp [hi]
    · rw [if_neg e];simp [show ¬ i=j from fun h=>e h.symm]
  · rw [List.getElem?_eq_none (by rw [yfn];exact hi),List.getElem?_eq_none (by rw [yfn];exact hi)]
    split
    · rw [if_neg (by omega)]
    · rfl
section
variable {o:Oper} {σ:Env} {ρ:List Res} {κ:Kr} {c:Bool} {x y:Operand} {K:Value→List Res→Kr→Prop}
theorem Sh.at1 {b k:Nat} {cs:List Value} {v:Value} (h:Sh κ b 0 cs) (hv:cs[k]?=some v):Sh κ b (0+k*1) [v]:=⟨h.1,fun j u hu=>by
  cases j with
  | zero=>simp at hu;subst hu;have:=h.2 k v hv;simpa using this
  | succ j=>simp at hu⟩
theorem xep {t b T sz by':Nat} {cs:List Value} {z:Value} {d:TypeDesc} (ho:o.op=.load t x) (hx:Ev σ c x (.pointer (some ⟨b,0,none⟩))) (hm:Res.b b T cs∈ρ) (hd:und t=some d) (ha:isAggD d=true) (hi:inf t=some (z,sz,by')) (hl:cs.length=sz):OpQ c o σ ρ κ (.agg cs.toArray):=by
  refine xav ho hx hm ?_
  unfold readAs
  simp only [hd,hi,ha,cond_true,List.drop_zero]
  rw [Nat.ble_eq_true_of_le (by omega)]
  simp [← hl]
end
attribute [local irreducible] WL WC WD OpL OpQ OpG Ev GuardIs seqK blockK retK Call CallP midK loopK Holds upds Sub Pick WS Step Lit Upd SetAt SpliceAt FillR Sh LateRun
theorem yvq (κ:Kr) (b:Nat) (p:Nat→Bool) (m:Int) (hs:Sh κ b 0 (setCells p)) (h0:0≤m) (h1:m≤255):CallP 209 [.pointer (some ⟨b,0,none⟩),.int .u8 m] κ fun v _=>v=.bool (p m.toNat):=by
  (unfold CallP;apply yre Tryz.func209 fk209 rfl Tryz.ntmps209 Tryz.results209 rfl)
  repeat (first | (first | (apply yjo rfl rfl rfl;(focus (first | exact ycl (v:=(.int _ _)) rfl (.p rfl) | exact ycl (v:=(.pointer _)) rfl (.p rfl) | exact ycs (v:=(.bool _)) rfl (.p rfl) | exact yrd rfl (.p rfl)))) | apply yem) | (first | apply yfi | apply ybz | apply ygk))
  apply yjo rfl rfl rfl (xbc (j:=m.toNat) rfl rfl rfl (.p rfl) (.p rfl) (fun _=>by omega) (fun _=>by omega))
  apply yjo rfl rfl rfl (yuh rfl (.p rfl) (fun _=>(hs.mono (by (repeat (exact Kle.refl _)))).at1 (ymk p (by omega))) rfl)
  repeat (first | (first | (apply yjo rfl rfl rfl;(focus (exact ycs (v:=(.bool _)) rfl (.p rfl)))) | apply yem) | (first | apply ygk | apply yow))
  exact yqs (rv_t (v:=.bool _) rfl) .none ⟨rfl,rfl⟩
def digits10:ByteArray:=⟨#[48,49,50,51,52,53,54,55,56,57]⟩
theorem xcb:∀ {k:Nat},k<10→((digits10.data.toList.getD k 0).toNat:Int)=48+(k:Int):=by decide
theorem ascii_ok (κ:Kr):CallP 191 [.string digits10] κ fun v _=>v=.tuple #[.agg (setCells isDig).toArray,.bool true]:=by
  (unfold CallP;apply yre Tryz.func191 fk191 rfl Tryz.ntmps191 Tryz.results191 rfl)
  repeat (first | (first | (apply yjo rfl rfl rfl;(focus (first | exact ycs (v:=(.int _ _)) rfl (.p rfl) | exact ycs (v:=(.bool _)) rfl (.p rfl)))) | (apply wl_l rfl rfl rfl;apply xaw rfl rfl;intro _ _ _) | apply yem) | (first | apply yfi | apply ybz | apply yko | apply ygk))
  rename_i b2 κ1 _
  have e0:List.replicate 256 (Value.bool false)=setCells (fun i=>decide (48≤i∧i<48+0)):=by
    apply List.ext_getElem?
    intro i
    rcases Nat.lt_or_ge i 256 with hi | hi
    · rw [ymk _ hi,List.getElem?_replicate,if_pos hi];congr 2;symm;rw [decide_eq_false_iff_not];omega
    · rw [List.getElem?_eq_none (by simpa using hi),List.getElem?_eq_none (by rw [yfn];exact hi)]
  rw [e0]
  refine ytv (X:=Nat) (fun k=>[(0,.string digits10),(2,.pointer (some ⟨b2,0,none⟩)),(4,.int .i64 (k:Int))]) (fun k=>[Res.b b2 248 (setCells fun i=>decide (48≤i∧i<48+k))]) (fun k _=>k≤10) (fun k=>10 - k) 0 (by (repeat (first | exact Holds.nil | apply Holds.cons rfl))) (by (repeat (first | exact Sub.nil | (apply Sub.cons;(focus (repeat (exact Pick.h))))))) (by omega) ?_
  intro k τ κ2 _ hk
  simp only [upds]
  repeat (first | (first | (apply yjo rfl rfl rfl;(focus (first | exact ycl (v:=(.int _ _)) rfl (.p rfl) | exact ycl (v:=(.string _)) rfl (.p rfl) | exact yrs rfl (.p rfl) (.p rfl) rfl | exact yox rfl rfl (.p rfl)))) | apply yem) | (first | apply yfi | apply ybz | apply ygk))
  apply xfv rfl <;> intro hc
  · have hk10:k<10:=by
      have e:(digits10.size:Int)=10:=rfl
      rw [e] at hc;omega
    repeat (first | (apply yjo rfl rfl rfl;(focus (first | exact ycl (v:=(.int _ _)) rfl (.p rfl) | exact ycl (v:=(.string _)) rfl (.p rfl)))) | (first | apply yfi | apply ybz | apply yko | apply ygk | apply ylg))
    apply yjo rfl rfl rfl (yoy (s:=digits10) (j:=k) rfl rfl (.p rfl) (.p rfl) (fun _=>rfl) (fun _=>hk10))
    rw [xcb hk10]
    repeat (first | (first | (apply yjo rfl rfl rfl;(focus (first | exact ycl (v:=(.int _ _)) rfl (.p rfl) | exact ycs (v:=(.int _ _)) rfl (.p rfl) | exact yrs rfl (.p rfl) (.p rfl) rfl))) | apply yem) | (first | apply yfi | apply ybz | apply ygk))
    apply wc_condF (by have:¬ (128:Int)≤48+(k:Int):=by omega
                       simp [ev,upd,this])
    repeat (first | (apply yjo rfl rfl rfl;(focus (exact ycl (v:=(.int _ _)) rfl (.p rfl)))) | (first | apply ybz | apply ygk | apply ylg))
    apply yjo rfl rfl rfl (xbc (j:=48+k) rfl rfl rfl (.p rfl) (.p rfl) (fun _=>by omega) (fun _=>by omega))
    apply wl_l0 rfl rfl
    apply xkc (v:=.bool true) rfl rfl rfl rfl rfl rfl (by (repeat (exact Upd.h))) (by rw [yfn];omega)
    intro κ3 _
    have e1:(setCells fun i=>decide (48≤i∧i<48+k)).set (0+(48+k)*1) (.bool true)=setCells fun i=>decide (48≤i∧i<48+(k+1)) :=
      xca _ _ fun i=>by rw [Bool.eq_iff_iff];simp;omega
    rw [e1]
    repeat (first | (first | (apply yjo rfl rfl rfl;(focus (first | exact ycl (v:=(.int _ _)) rfl (.p rfl) | exact ycs (v:=(.int _ _)) rfl (.p rfl) | exact ypt rfl (.p rfl) (.p rfl) rfl (fun _=>by omega)))) | apply yem) | (first | apply ybz | apply ygk | apply yru))
    exact xfs (k+1) (by (repeat (first | exact Holds.nil | apply Holds.cons rfl))) (by (repeat (first | exact Sub.nil | (apply Sub.cons;(focus (repeat (exact Pick.h))))))) (by omega) (by omega)
  · have hk10:k=10:=by
      have e:(digits10.size:Int)=10:=rfl
      rw [e] at hc;omega
    subst hk10
    have e2:(fun i=>decide (48≤i∧i<48+10))=isDig:=by funext i;simp only [isDig];rw [Bool.eq_iff_iff];simp;omega
    rw [e2]
    apply yrb;apply ylb;apply yjd;apply ylc rfl;apply ygk;apply yfi;apply ybz
    apply yjo rfl rfl rfl (xep rfl (.p rfl) (by (repeat (exact List.Mem.head _))) rfl rfl rfl (yfn _))
    apply wl_l0 rfl rfl
    apply xay rfl rfl rfl rfl (yfn _) (by simp [setCells,Value.oneCell']) (by (repeat (exact Upd.h))) rfl
    intro κ3 _
    repeat (first | (first | (apply yjo rfl rfl rfl;(focus (exact ycs (v:=(.bool _)) rfl (.p rfl)))) | apply yem) | (first | apply ygk | apply yow))
    refine yqs (rv_2 (RV1.cell rfl (by (repeat (exact List.Mem.head _))) ?_) (rv1_t (v:=.bool _) rfl)) .none ⟨rfl,rfl⟩
    unfold readAs
    simp only [show und 248=some (.array 256 4) from rfl,show inf 248=some (.agg (List.replicate 256 (.bool false)).toArray,256,256) from rfl,isAggD,cond_true,List.drop_zero,yfn]
    rw [List.take_of_length_le (by rw [yfn];omega)];rfl
theorem yzz {l:List UInt8} {j:Nat} (h:j<l.length):l.getD j 0=l[j]:=by simp [List.getD_eq_getElem?_getD,h]
theorem xcc (κ:Kr) (b:Nat) (s:ByteArray) (hs:Sh κ b 0 (setCells isDig)) (hz:s.size≤1000000000):CallP 193 [.string s,.pointer (some ⟨b,0,none⟩)] κ fun v _=>∃ u k,v=.string u∧bl u=(bl s).take k∧k≤(bl s).length∧(∀ c∈(bl s).drop k,isDig c.toNat=true)∧(∀ c,(bl u).getLast?=some c→isDig c.toNat=false):=by
  (unfold CallP;apply yre Tryz.func193 fk193 rfl Tryz.ntmps193 Tryz.results193 rfl)
  repeat (first | (first | (apply yjo rfl rfl rfl;(focus (exact ycs (v:=(.string _)) rfl (.p rfl)))) | apply yem) | (first | apply yfi | apply ybz | apply yko | apply ygk))
  refine ytv (X:=ByteArray×Nat) (fun z=>[(0,.string z.1),(1,.pointer (some ⟨b,0,none⟩))]) (fun _=>[]) (fun z _=>bl z.1=(bl s).take z.2∧z.2≤(bl s).length∧∀ c∈(bl s).drop z.2,isDig c.toNat=true) (fun z=>z.2) (s,(bl s).length) (by (repeat (first | exact Holds.nil | apply Holds.cons rfl))) (by (repeat (exact Sub.nil))) ⟨(List.take_length).symm,Nat.le_refl _,by rw [List.drop_length];simp⟩ ?_
  rw [yof] at hz
  rintro ⟨u,k⟩ τ κ2 _ ⟨h1,h2,h3⟩
  dsimp only at h1 h2 h3
  have hsz:u.size=k:=by rw [yof,h1,List.length_take];omega
  simp only [upds]
  repeat (first | (first | (apply yjo rfl rfl rfl;(focus (first | exact ycl (v:=(.string _)) rfl (.p rfl) | exact yrs rfl (.p rfl) (.p rfl) rfl | exact yox rfl rfl (.p rfl)))) | apply yem) | (first | apply yfi | apply ybz | apply ygk))
  apply xfv rfl <;> intro hc
  · have hk0:0<k:=by omega
    repeat (first | (apply yjo rfl rfl rfl;(focus (first | exact ycl (v:=(.pointer _)) rfl (.p rfl) | exact ycl (v:=(.string _)) rfl (.p rfl) | exact ypt rfl (.p rfl) (.p rfl) rfl (fun _=>by omega) | exact yox rfl rfl (.p rfl)))) | (first | apply yfi | apply ybz | apply yko | apply ygk | apply ylg))
    apply yjo rfl rfl rfl (yoy (j:=k - 1) rfl rfl (.p rfl) (.p rfl) (fun _=>by omega) (fun _=>by omega))
    have hlast:(bl u).getLast?=some ((bl u).getD (k - 1) 0):=by
      rw [List.getLast?_eq_getElem?,← yof,hsz,yzz (by rw [← yof];omega),List.getElem?_eq_getElem]
    apply wl_l rfl rfl rfl;apply ynr rfl rfl (yvq _ b isDig ((u.data.toList.getD (k - 1) 0).toNat:Int) (hs.mono (by (repeat (assumption)))) (by omega) (by have:=(u.data.toList.getD (k - 1) 0).toNat_lt;omega))
    rintro v κ3 _ rfl
    repeat (first | (first | (apply yjo rfl rfl rfl;(focus (exact xjp rfl (.p rfl)))) | apply yem) | (apply ygk))
    rw [Int.toNat_natCast]
    apply ynn rfl <;> intro hb
    · repeat (first | (first | (apply yjo rfl rfl rfl;(focus (first | exact ycl (v:=(.string _)) rfl (.p rfl) | exact ycs (v:=(.string _)) rfl (.p rfl)))) | apply yem) | (first | apply yfi | apply ybz | apply ygk | apply yow | apply yrb | apply ylb | apply ylc rfl | apply yxs rfl | apply yjd))
      refine yqs (rv_t (v:=.string _) rfl) .none ⟨rfl,u,k,rfl,h1,h2,h3,fun c hc=>?_⟩
      rw [hlast] at hc;injection hc with hc;subst hc;simpa using hb
    · repeat (first | (apply yjo rfl rfl rfl;(focus (first | exact ycl (v:=(.string _)) rfl (.p rfl) | exact ypt rfl (.p rfl) (.p rfl) rfl (fun _=>by omega) | exact yox rfl rfl (.p rfl)))) | (first | apply ybz | apply ygk | apply ylg))
      apply yjo rfl rfl rfl (yur (h:=k - 1) rfl rfl (.p rfl) (.p rfl) (fun _=>by omega) (fun _=>by omega))
      repeat (first | (first | (apply yjo rfl rfl rfl;(focus (exact ycs (v:=(.string _)) rfl (.p rfl)))) | apply yem) | (apply yru))
      refine xfs (u.extract 0 (k - 1),k - 1) (by (repeat (first | exact Holds.nil | apply Holds.cons rfl))) (by (repeat (exact Sub.nil))) ⟨?_,by ((try dsimp only at *) <;> omega),?_⟩ (by ((try dsimp only at *) <;> omega))
      · rw [bl_hi,h1,List.take_take];congr 1;omega
      · intro c hc
        rw [List.drop_eq_getElem_cons (by omega)] at hc
        rcases List.mem_cons.1 hc with rfl | hc
        · have e:(bl u).getD (k - 1) 0=(bl s)[k - 1]'(by omega):=by
            rw [yzz (by rw [← yof];omega)];simp [h1]
          rw [← e];simpa using hb
        · rw [show k - 1+1=k by omega] at hc;exact h3 c hc
  · repeat (first | (first | (apply yjo rfl rfl rfl;(focus (first | exact ycl (v:=(.string _)) rfl (.p rfl) | exact ycs (v:=(.string _)) rfl (.p rfl)))) | apply yem) | (first | apply yfi | apply ybz | apply ygk | apply yow | apply yrb | apply ylb | apply ylc rfl | apply yjd))
    refine yqs (rv_t (v:=.string _) rfl) .none ⟨rfl,u,k,rfl,h1,h2,h3,fun c hc'=>?_⟩
    have:bl u=[]:=List.eq_nil_of_length_eq_zero (by rw [← yof];omega)
    rw [this] at hc';cases hc'
end SX
namespace SX
open Go
attribute [local irreducible] WL WC WD OpL OpQ OpG Ev GuardIs seqK blockK retK Call CallP midK loopK Holds upds Sub Pick WS Step Lit Upd SetAt SpliceAt FillR Sh LateRun
theorem xeq (κ:Kr) (b:Nat) (s:ByteArray) (hs:Sh κ b 0 (setCells isDig)):CallP 192 [.string s,.pointer (some ⟨b,0,none⟩)] κ fun v _=>∃ u k,v=.string u∧bl u=(bl s).drop k∧k≤(bl s).length∧(∀ c∈(bl s).take k,isDig c.toNat=true)∧(∀ c,(bl u).head?=some c→isDig c.toNat=false):=by
  (unfold CallP;apply yre Tryz.func192 fk192 rfl Tryz.ntmps192 Tryz.results192 rfl)
  repeat (first | (first | (apply yjo rfl rfl rfl;(focus (exact ycs (v:=(.string _)) rfl (.p rfl)))) | apply yem) | (first | apply yfi | apply ybz | apply yko | apply ygk))
  refine ytv (X:=ByteArray×Nat) (fun z=>[(0,.string z.1),(1,.pointer (some ⟨b,0,none⟩))]) (fun _=>[]) (fun z _=>bl z.1=(bl s).drop z.2∧z.2≤(bl s).length∧∀ c∈(bl s).take z.2,isDig c.toNat=true) (fun z=>(bl s).length - z.2) (s,0) (by (repeat (first | exact Holds.nil | apply Holds.cons rfl))) (by (repeat (exact Sub.nil))) ⟨rfl,Nat.zero_le _,by simp⟩ ?_
  rintro ⟨u,k⟩ τ κ2 _ ⟨h1,h2,h3⟩
  dsimp only at h1 h2 h3
  have hsz:u.size=(bl s).length - k:=by rw [yof,h1,List.length_drop]
  simp only [upds]
  repeat (first | (first | (apply yjo rfl rfl rfl;(focus (first | exact ycl (v:=(.string _)) rfl (.p rfl) | exact yrs rfl (.p rfl) (.p rfl) rfl | exact yox rfl rfl (.p rfl)))) | apply yem) | (first | apply yfi | apply ybz | apply ygk))
  apply xfv rfl <;> intro hc
  · have hk0:k<(bl s).length:=by omega
    have hu0:0<(bl u).length:=by rw [← yof];omega
    repeat (first | (apply yjo rfl rfl rfl;(focus (first | exact ycl (v:=(.pointer _)) rfl (.p rfl) | exact ycl (v:=(.string _)) rfl (.p rfl)))) | (first | apply yfi | apply ybz | apply yko | apply ygk | apply ylg))
    apply yjo rfl rfl rfl (yoy (j:=0) rfl rfl (.p rfl) (.p rfl) (fun _=>by omega) (fun _=>by omega))
    have hhead:(bl u).head?=some ((bl u).getD 0 0):=by
      rw [List.head?_eq_getElem?,yzz hu0,List.getElem?_eq_getElem hu0]
    apply wl_l rfl rfl rfl;apply ynr rfl rfl (yvq _ b isDig ((u.data.toList.getD 0 0).toNat:Int) (hs.mono (by (repeat (assumption)))) (by omega) (by have:=(u.data.toList.getD 0 0).toNat_lt;omega))
    rintro v κ3 _ rfl
    repeat (first | (first | (apply yjo rfl rfl rfl;(focus (exact xjp rfl (.p rfl)))) | apply yem) | (apply ygk))
    rw [Int.toNat_natCast]
    apply ynn rfl <;> intro hb
    · repeat (first | (first | (apply yjo rfl rfl rfl;(focus (first | exact ycl (v:=(.string _)) rfl (.p rfl) | exact ycs (v:=(.string _)) rfl (.p rfl)))) | apply yem) | (first | apply yfi | apply ybz | apply ygk | apply yow | apply yrb | apply ylb | apply ylc rfl | apply yxs rfl | apply yjd))
      refine yqs (rv_t (v:=.string _) rfl) .none ⟨rfl,u,k,rfl,h1,h2,h3,fun c hc=>?_⟩
      rw [hhead] at hc;injection hc with hc;subst hc;simpa using hb
    · repeat (first | (apply yjo rfl rfl rfl;(focus (exact ycl (v:=(.string _)) rfl (.p rfl)))) | (first | apply ybz | apply ygk | apply ylg))
      apply yjo rfl rfl rfl (yus (l:=1) rfl rfl (.p rfl) (.p rfl) (fun _=>by omega) (fun _=>by omega))
      repeat (first | (first | (apply yjo rfl rfl rfl;(focus (exact ycs (v:=(.string _)) rfl (.p rfl)))) | apply yem) | (apply yru))
      refine xfs (u.extract 1 u.size,k+1) (by (repeat (first | exact Holds.nil | apply Holds.cons rfl))) (by (repeat (exact Sub.nil))) ⟨?_,by ((try dsimp only at *) <;> omega),?_⟩ (by ((try dsimp only at *) <;> omega))
      · rw [bl_lo,h1,List.drop_drop]
      · intro c hc
        rw [List.take_add_one] at hc
        rcases List.mem_append.1 hc with hc | hc
        · exact h3 c hc
        · have e:(bl u).getD 0 0=(bl s)[k]'hk0:=by rw [yzz hu0];simp [h1]
          rw [List.getElem?_eq_getElem hk0] at hc
          simp only [Option.toList_some,List.mem_cons,List.not_mem_nil,or_false] at hc
          subst hc;rw [← e];simpa using hb
  · repeat (first | (first | (apply yjo rfl rfl rfl;(focus (first | exact ycl (v:=(.string _)) rfl (.p rfl) | exact ycs (v:=(.string _)) rfl (.p rfl)))) | apply yem) | (first | apply yfi | apply ybz | apply ygk | apply yow | apply yrb | apply ylb | apply ylc rfl | apply yjd))
    refine yqs (rv_t (v:=.string _) rfl) .none ⟨rfl,u,k,rfl,h1,h2,h3,fun c hc'=>?_⟩
    have:bl u=[]:=List.eq_nil_of_length_eq_zero (by rw [← yof];omega)
    rw [this] at hc';cases hc'
def allDig (s:ByteArray):Bool:=(bl s).all fun c=>isDig c.toNat
theorem xcd {s:ByteArray}:s=⟨#[]⟩↔bl s=[]:=⟨fun h=>by rw [h],fun h=>bl_inj (by rw [h])⟩
theorem trim_ok (κ:Kr) (s:ByteArray) (hz:s.size≤1000000000):CallP 172 [.string s,.string digits10] κ fun v _=>∃ u,v=.string u∧(u=⟨#[]⟩↔allDig s=true):=by
  (unfold CallP;apply yre Tryz.func172 fk172 rfl Tryz.ntmps172 Tryz.results172 rfl)
  repeat (first | (first | (apply yjo rfl rfl rfl;(focus (first | exact ycl (v:=(.bool _)) rfl (.p rfl) | exact ycl (v:=(.string _)) rfl (.p rfl) | exact ycs (v:=(.string _)) rfl (.p rfl) | exact oq_or rfl (.p rfl) (.p rfl) (.g rfl) | exact xfm rfl (.p rfl) (.p rfl) rfl))) | (apply xdn;(focus (exact xjm rfl rfl rfl));rfl;rfl;(focus (first | (apply ycl (v:=(.string _)) rfl;(focus (exact Ev.p rfl))) | (apply xfm rfl (by (focus (exact Ev.g rfl))) (by (focus (exact Ev.p rfl)));rfl)))) | apply yem) | (first | apply yfi | apply ybz | apply ygk))
  apply ynn rfl <;> intro hb
  · repeat (first | (first | (apply yjo rfl rfl rfl;(focus (first | exact ycl (v:=(.string _)) rfl (.p rfl) | exact ycs (v:=(.string _)) rfl (.p rfl)))) | apply yem) | (first | apply yfi | apply ybz | apply ygk | apply yow | apply yuo))
    have:s=⟨#[]⟩:=by simpa [digits10] using hb
    refine yqs (rv_t (v:=.string _) rfl) .none ⟨rfl,s,rfl,?_⟩
    subst this;simp [allDig,bl]
  · have hne:¬ bl s=[]:=fun h=>by rw [xcd.2 h] at hb;simp at hb
    repeat (first | (first | (apply yjo rfl rfl rfl;(focus (first | exact ycl (v:=(.bool _)) rfl (.p rfl) | exact ycl (v:=(.string _)) rfl (.p rfl) | exact yrs rfl (.p rfl) (.p rfl) rfl | exact yox rfl rfl (.p rfl)))) | (apply xdn;(focus (exact yra rfl rfl rfl));rfl;rfl;(focus (apply ycl (v:=(.string _)) rfl;(focus (exact Ev.p rfl)))))) | (first | apply yfi | apply ybz | apply ygk | apply ylg))
    apply xdn;(focus (exact yra rfl rfl rfl));rfl;rfl;exact yoy (s:=digits10) (j:=0) rfl rfl (.g rfl) (.p rfl) (fun _=>rfl) (fun _=>by decide)
    repeat (first | (first | (apply yjo rfl rfl rfl;(focus (exact xjo rfl (.p rfl) (.p rfl) (.g rfl)))) | (apply xdn;(focus (exact yra rfl rfl rfl));rfl;rfl;(focus (apply yrs rfl (by (focus (exact Ev.g rfl))) (by (focus (exact Ev.p rfl)));rfl))) | apply yem) | (apply ygk))
    apply ynn rfl <;> intro hb2
    · have e:(digits10.size:Int)=10:=rfl
      rw [e] at hb2;simp at hb2
    repeat (first | (apply yjo rfl rfl rfl;(focus (exact ycl (v:=(.string _)) rfl (.p rfl)))) | (first | apply yfi | apply ybz | apply ygk | apply ylg))
    refine wl_fun rfl rfl rfl rfl rfl (ascii_ok _) fun κ1 _=>?_
    repeat (first | (first | (apply yjo rfl rfl rfl;(focus (first | exact ycl (v:=(.bool _)) rfl (.p rfl) | exact ycl (v:=(.tuple _)) rfl (.p rfl) | exact ycs (v:=(.bool _)) rfl (.p rfl) | exact yxn rfl (.p rfl) rfl))) | (apply wl_l rfl rfl rfl;apply xaw rfl rfl;intro _ _ _) | (apply wl_l0 rfl rfl;apply xay rfl rfl rfl rfl rfl rfl;(focus (repeat (exact Upd.h)));rfl;intro _ _) | apply yem) | (first | apply yfi | apply ybz | apply ygk))
    rename_i b5 _ _ _ _
    apply wc_pub (b:=b5) Pick.h rfl;intro κ3 _ hS hsays
    have hset:=sh_pub hS hsays
    apply wc_condT rfl
    repeat (first | (apply yjo rfl rfl rfl;(focus (exact ycl (v:=(.string _)) rfl (.p rfl)))) | (first | apply yfi | apply ybz))
    apply wl_l rfl rfl rfl;apply ynr rfl rfl (xcc _ b5 s (hset.mono (by (repeat (exact Kle.refl _)))) hz)
    rintro v κ4 _ ⟨u,k,rfl,h1,h2,h3,h4⟩
    apply wl_l rfl rfl rfl;apply ynr rfl rfl (xeq _ b5 u (hset.mono (by (repeat (assumption)))))
    rintro v κ5 _ ⟨u2,k2,rfl,g1,g2,g3,g4⟩
    repeat (first | (first | (apply yjo rfl rfl rfl;(focus (exact ycs (v:=(.string _)) rfl (.p rfl)))) | apply yem) | (first | apply ygk | apply yow | apply yuo))
    refine yqs (rv_t (v:=.string _) rfl) .none ⟨rfl,u2,rfl,?_⟩
    rw [xcd]
    unfold allDig
    rw [List.all_eq_true]
    constructor
    · intro h
      have hk2:k2=(bl u).length:=by
        have:=congrArg List.length (g1.symm.trans h);simp only [List.length_drop,List.length_nil] at this;omega
      intro c hc
      rw [← List.take_append_drop k (bl s)] at hc
      rcases List.mem_append.1 hc with hc | hc
      · rw [← h1] at hc;rw [hk2,List.take_length] at g3;exact g3 c hc
      · exact h3 c hc
    · intro h
      have hu:bl u=[]:=by
        rcases List.eq_nil_or_concat (bl u) with hu | ⟨l,c,hu⟩
        · exact hu
        · have hc:=h4 c (by rw [hu];simp)
          have hm:c∈bl s:=List.mem_of_mem_take (i:=k) (by rw [← h1,hu];simp)
          rw [h c hm] at hc;cases hc
      rw [g1,hu];simp
def Glob (κ:Kr):Prop:=Sh κ 0 0 [.int .i64 2,.int .i64 4,.int .i64 6,.int .i64 8]
theorem Glob.mono {κ κ':Kr} (h:Glob κ) (k:Kle κ κ'):Glob κ':=Sh.mono h k
def level (s:ByteArray):Int:=if (s.size=2∨s.size=4∨s.size=6∨s.size=8)∧allDig s=true then (s.size:Int) else 0
theorem gv_some {c:Bool} {v:Value} {P:ByteArray→Prop} (h:c=true→∃ u,v=.string u∧P u):∃ u,gv c v=gv c (.string u)∧(c=true→P u):=by
  cases c
  · exact ⟨⟨#[]⟩,by rw [yil,yil],fun h=>by cases h⟩
  · obtain ⟨u,rfl,h2⟩:=h rfl;exact ⟨u,rfl,fun _=>h2⟩
theorem level_ok (κ:Kr) (s:ByteArray) (hg:Glob κ):CallP 138 [.string s] κ fun v _=>v=.int .i64 (level s):=by
  (unfold CallP;apply yre Tryz.func138 fk138 rfl Tryz.ntmps138 Tryz.results138 rfl)
  repeat (first | (first | (apply yjo rfl rfl rfl;(focus (exact ycs (v:=(.int _ _)) rfl (.p rfl)))) | apply yem) | (first | apply yfi | apply ybz | apply ygk))
  apply yjo rfl rfl rfl (yuh rfl (.p rfl) (fun _=>hg) rfl)
  repeat (first | (first | (apply yjo rfl rfl rfl;(focus (exact ycl (v:=(.int _ _)) rfl (.p rfl)))) | apply yem) | (first | apply yko | apply ygk))
  refine ytv (X:=Nat) (fun k=>[(0,.string s),(5,.agg #[.int .i64 2,.int .i64 4,.int .i64 6,.int .i64 8]),(6,.int .i64 (k:Int))]) (fun _=>[]) (fun k _=>k≤4∧∀ j,j<k→¬ (s.size=2*(j+1)∧allDig s=true)) (fun k=>4 - k) 0 (by (repeat (first | exact Holds.nil | apply Holds.cons rfl))) (by (repeat (exact Sub.nil))) ⟨by omega,by omega⟩ ?_
  rintro k τ κ1 _ ⟨hk,hno⟩
  simp only [upds]
  repeat (first | (first | (apply yjo rfl rfl rfl;(focus (exact yrs rfl (.p rfl) (.p rfl) rfl))) | apply yem) | (first | apply yfi | apply ybz | apply ygk))
  apply xfv rfl <;> intro hc
  · have hk4:k<4:=by omega
    repeat (first | apply yfi | apply ybz | apply yko | apply ygk | apply ylg)
    apply yjo rfl rfl rfl (xkb (cs:=[.int .i64 2,.int .i64 4,.int .i64 6,.int .i64 8]) (v:=.int .i64 (2*((k:Int)+1))) (j:=k) rfl rfl rfl rfl rfl (.p rfl) (.p rfl) (fun _=>rfl) (fun _=>hk4) (fun _=>by
      have:k=0∨k=1∨k=2∨k=3:=by omega
      rcases this with rfl | rfl | rfl | rfl <;> rfl))
    repeat (first | (first | (apply yjo rfl rfl rfl;(focus (first | exact ycl (v:=(.int _ _)) rfl (.p rfl) | exact ycl (v:=(.bool _)) rfl (.p rfl) | exact ycl (v:=(.string _)) rfl (.p rfl) | exact ycs (v:=(.int _ _)) rfl (.p rfl) | exact yrs rfl (.p rfl) (.p rfl) rfl | exact yox rfl rfl (.p rfl)))) | (apply xdn;(focus (exact yra rfl rfl rfl));rfl;rfl;(focus (apply ycl (v:=(.string _)) rfl;(focus (exact Ev.p rfl))))) | apply yem) | (first | apply yfi | apply ybz | apply ygk))
    apply wl_g;(focus (exact yra rfl rfl rfl));rfl;rfl
    refine xfo rfl (ar2 (.g rfl) (.p rfl)) (fun hcc=>trim_ok _ s (by simp at hcc;omega)) fun v κ2 _ hv=>?_
    obtain ⟨u,hu,hP⟩:=gv_some hv
    rw [hu]
    repeat (first | (first | (apply yjo rfl rfl rfl;(focus (exact xjo rfl (.p rfl) (.p rfl) (.g rfl)))) | (apply xdn;(focus (exact yra rfl rfl rfl));rfl;rfl;(focus (apply xfm rfl (by (focus (exact Ev.g rfl))) (by (focus (exact Ev.p rfl)));rfl))) | apply yem) | (apply ygk))
    apply ynn rfl <;> intro hb
    · simp only [Bool.and_eq_true,beq_iff_eq,decide_eq_true_eq] at hb
      have hd:allDig s=true:=(hP (by simpa using hb.1)).1 hb.2
      repeat (first | (first | (apply yjo rfl rfl rfl;(focus (first | exact ycl (v:=(.int _ _)) rfl (.p rfl) | exact ycs (v:=(.int _ _)) rfl (.p rfl)))) | apply yem) | (first | apply yfi | apply ybz | apply ygk | apply yow | apply yuo | apply xdu | apply xhr))
      refine yqs (rv_t (v:=.int _ _) rfl) .none ⟨rfl,?_⟩
      show Value.int .i64 (2*((k:Int)+1))=.int .i64 (level s)
      unfold level
      rw [if_pos ⟨by omega,hd⟩,← hb.1]
    · repeat (first | (first | (apply yjo rfl rfl rfl;(focus (first | exact ycl (v:=(.int _ _)) rfl (.p rfl) | exact ypt rfl (.p rfl) (.p rfl) rfl (fun _=>by omega)))) | apply yem) | (first | apply ybz | apply ygk | apply ylg | apply yru))
      refine xfs (k+1) (by (repeat (first | exact Holds.nil | apply Holds.cons rfl))) (by (repeat (exact Sub.nil))) ⟨by omega,fun j hj=>?_⟩ (by omega)
      rcases Nat.lt_or_ge j k with h | h
      · exact hno j h
      · have:j=k:=by omega
        subst this
        rintro ⟨h1,h2⟩
        have hcc:((s.size:Int) == 2*((j:Int)+1))=true:=by simp;omega
        have:=(hP (by simpa using hcc)).2 h2
        subst this
        rw [hcc] at hb;simp at hb
  · repeat (first | (first | (apply yjo rfl rfl rfl;(focus (exact ycs (v:=(.int _ _)) rfl (.p rfl)))) | apply yem) | (first | apply yfi | apply ybz | apply ygk | apply yow | apply yrb | apply ylb | apply ylc rfl | apply yjd))
    refine yqs (rv_t (v:=.int _ _) rfl) .none ⟨rfl,?_⟩
    show Value.int .i64 0=.int .i64 (level s)
    unfold level
    rw [if_neg]
    rintro ⟨h1,h2⟩
    have:k=4:=by omega
    subst this
    rcases h1 with h1 | h1 | h1 | h1
    · exact hno 0 (by omega) ⟨h1,h2⟩
    · exact hno 1 (by omega) ⟨h1,h2⟩
    · exact hno 2 (by omega) ⟨h1,h2⟩
    · exact hno 3 (by omega) ⟨h1,h2⟩
end SX
namespace SX
open Go
def ydn (p0:ByteArray):Option Int:=some (level p0)
theorem yfo {p0:ByteArray} {r:Int} (h:ydn p0=some r):PF 138 [.v (.string p0)] (.v (.int .i64 r)):=fun κ args g ha=>by
 obtain ⟨v,ws,rfl,h1,h2⟩:=ha.cons_inv
 rw [h2.nil_inv,h1.val]
 have h:=Option.some.inj h;subst h
 exact (level_ok κ p0 g).mono fun v κ' _ hv=>by subst hv;exact .v rfl
def itr (b:Nat) (s:ByteArray) (pos:Nat):Res:=⟨some b,fun o=>o=some (.stringIter s pos)⟩
theorem pl_range {o:Oper} {σ:PEnv} {ρ:List PRes} {x:Operand} {t:Nat} {s:ByteArray} {K:PV→List PRes→Prop} (ho:o.op=.range t x) (hu:und t=some .string) (hx:pevc σ x=.v (.string s)) (h:∀ b,K (.v (.pointer (some ⟨b,0,none⟩))) (.raw (itr b s 0)::ρ)):POpL o σ ρ K:=fun κ σ' ρ' g hs hr β hi Nx hk=>by
 have e1:=hs.v1 hx
 have h1:=run_underlying (w:=κ.w) (ycc hu)
 have hrun:(execOp (ev σ') o).run Tryz.prog κ.w=.ok (.value (.pointer (some ⟨κ.w.heap.size,0,none⟩))) (κ.w.alloc (.stringIter s 0)):=by
  simp [execOp,ho,e1,Instr.range,h1,run_newObj_alloc]
 rw [hrun]
 exact hk _ _ ⟨κ.w.alloc (.stringIter s 0),κ.S⟩ (hi.alloc _ (itr κ.w.heap.size s 0) rfl rfl) (yfj hi.fin _) ⟨_,_,.v rfl,.cons .raw (hr.mono (yfj hi.fin _)),h _⟩
theorem pl_next {o:Oper} {σ:PEnv} {ρ ρ1:List PRes} {x:Operand} {b pos:Nat} {s:ByteArray} {K:PV→List PRes→Prop} (ho:o.op=.next x true) (hx:pevc σ x=.v (.pointer (some ⟨b,0,none⟩))) (hu:PUpd ρ (.raw (itr b s pos)) (.raw (itr b s (pos+(Utf8.decode s pos).2))) ρ1) (h1:pos<s.size→K (.tup [.v (.bool true),.v (.int .i64 (pos:Int)),.v (.int .i32 ((Utf8.decode s pos).1:Int))]) ρ1) (h2:s.size≤pos→K (.tup [.v (.bool false)]) ρ):POpL o σ ρ K:=fun κ σ' ρ' g hs hr β hi Nx hk=>by
 have e1:=hs.v1 hx
 have hr0:=hr
 obtain ⟨r0,l1,l2,rfl,h4,h5⟩:=hr.upd hu
 cases h4 with
 | raw =>
  have hb:κ.w.heap[b]?=some (.stringIter s pos):=hi.own (itr b s pos) (by simp)
  have hg:(getObj b).run Tryz.prog κ.w=.ok (.stringIter s pos) κ.w:=by simp [getObj,Sem.run,hb]
  have hset:∀ ob,(setObj b ob).run Tryz.prog κ.w=.ok () { κ.w with heap:=κ.w.heap.setIfInBounds b ob }:=fun ob=>by simp [setObj,Sem.run,hb]
  rcases Nat.lt_or_ge pos s.size with hlt | hge
  ·have hrun:(execOp (ev σ') o).run Tryz.prog κ.w=.ok (.value (.tuple #[.bool true,goInt pos,.int .i32 ((Utf8.decode s pos).1:Int)])) { κ.w with heap:=κ.w.heap.setIfInBounds b (.stringIter s (pos+(Utf8.decode s pos).2)) }:=by
    simp [execOp,ho,e1,Instr.next,hg,hlt,hset]
   rw [hrun]
   obtain ⟨i1,i2⟩:=hi.turn (r:=itr b s pos) (r':=itr b s (pos+(Utf8.decode s pos).2)) (b:=b) (w':={ κ.w with heap:=κ.w.heap.setIfInBounds b (.stringIter s (pos+(Utf8.decode s pos).2)) }) rfl rfl rfl (fun i hi=>yvb hi) (by simp) (yvc hb) rfl rfl rfl (Nat.le_refl _)
   exact hk _ _ _ i1 i2 ⟨_,ρ1,.tup (ws:=[_,_,_]) (.cons (.v rfl) (.cons (.v rfl) (.cons (.v rfl) .nil))),h5 _ _ i2 .raw,h1 hlt⟩
  ·have hrun:(execOp (ev σ') o).run Tryz.prog κ.w=.ok (.value (.tuple #[.bool false])) κ.w:=by
    simp [execOp,ho,e1,Instr.next,hg,Nat.not_lt.2 hge]
   rw [hrun]
   exact hk _ _ κ hi (.refl _) ⟨_,ρ,.tup (ws:=[_]) (.cons (.v rfl) .nil),hr0,h2 hge⟩
def yjk (s:ByteArray) (pos:Nat):Option (Nat⊕Bool):=cond (Nat.blt pos s.size) (cond (decide (((Utf8.decode s pos).1:Int)<97)||decide (122<((Utf8.decode s pos).1:Int))) (some (.inr false)) (some (.inl (pos+(Utf8.decode s pos).2)))) (some (.inr true))
def ykd (p0:ByteArray):Option Bool:=cond (decide ((p0.size:Int)<1)||decide (12<(p0.size:Int))) (some false) (loopF (yjk p0) FUEL 0)
attribute [local irreducible] PWL PWC PWD POpL POpQ PEv PGuardIs PSub PPick PUpd PSplice PFill PLit PF PFV PCall FOk pseqK pblockK pmidK pcutK ploopK pretK Cov PHolds loopF yjk
theorem yvr {p0:ByteArray} {r:Bool} (h:ykd p0=some r):PF 173 [pS p0] (pB r):=by
 unfold ykd at h
 refine ycf ?_
 refine ybd Tryz.func173 fk173 rfl Tryz.ntmps173 Tryz.results173 rfl ?_
 (repeat refine yaa ?_)
 refine yad [] [2] [] fo0 (by kernel_rfl) ?_
 (repeat (first | apply yal | apply yab))
 (repeat refine yaa ?_)
 refine yad [] [5,6,7,8,9,10,11] [(12,pB (decide ((p0.size:Int)<1)||decide (12<(p0.size:Int))))] fo0 (by kernel_rfl) ?_
 (repeat (first | apply yal | apply yab))
 (repeat refine yaa ?_)
 refine yin rfl (fun hc=>?_) (fun hc=>?_)
 ·replace h:=xkl hc h
  (repeat refine yaa ?_)
  refine yad [] [] [(2,pB false)] fo0 (by kernel_rfl) ?_
  (repeat (first | apply yal | apply yab))
  (repeat refine yaa ?_)
  refine yai ?_
  (repeat (first | apply yah | apply yaf | apply ybc | apply ymu))
  obtain rfl:=Option.some.inj h
  exact ybh (ygl (ybm rfl)) zsn ⟨rfl,rfl⟩
 replace h:=xkm hc h
 refine yag ?_
 (repeat (first | apply yal | apply yab))
 (repeat refine yaa ?_)
 refine yae ?_
 refine yak 1 [] [] [(13,pS p0)] fo0 (by kernel_rfl) ?_
 refine yat rfl rfl rfl (pl_range rfl rfl rfl fun b=>?_)
 refine yax ?_
 (repeat (first | apply yal | apply yab))
 (repeat refine yaa ?_)
 refine yas (Y:=Unit) (fun _=>[]) (fun _=>[]) (fun _=>r=true) ?_ ?_
 ·refine yaj ?_
  refine yaw (Y:=Unit) (S:=Nat) _ h (fun _ _=>[(14,pP b 0)]) (fun _ pos=>[PRes.raw (itr b p0 pos)]) () (by (repeat (first | exact zhn | apply zhc rfl))) (by (repeat (first | exact zsn | (apply zsc;(focus (repeat (first | exact zph | apply zpt))))))) ?_
  rintro _ pos o τ hb;dsimp only [pupds]
  unfold yjk at hb
  (repeat refine yaa ?_)
  refine yae ?_
  refine yat rfl rfl rfl (pl_next rfl rfl zuh (fun hlt=>?_) (fun hge=>?_))
  ·have hlt':Nat.blt pos p0.size=true:=by simp [Nat.blt];omega
   rw [hlt'] at hb;simp only [cot] at hb
   refine yap [] [] [(16,pB true)] fo0 (by kernel_rfl) ?_
   (repeat (first | apply yal | apply yab))
   (repeat refine yaa ?_)
   refine yin (p:=true) rfl (fun _=>?_) (fun hf=>by cases hf)
   refine yag ?_
   (repeat (first | apply yal | apply yab))
   (repeat refine yaa ?_)
   refine yaj ?_
   (repeat refine yaa ?_)
   refine yad [] [17] [(4,.v (.int .i32 ((Utf8.decode p0 pos).1:Int)))] fo0 (by kernel_rfl) ?_
   (repeat (first | apply yal | apply yab))
   (repeat refine yaa ?_)
   refine yad [] [18,19,20,21,22] [(23,pB (decide (((Utf8.decode p0 pos).1:Int)<97)||decide (122<((Utf8.decode p0 pos).1:Int))))] fo0 (by kernel_rfl) ?_
   (repeat (first | apply yal | apply yab))
   (repeat refine yaa ?_)
   refine yin rfl (fun hc2=>?_) (fun hc2=>?_)
   ·replace hb:=xkl hc2 hb
    (repeat refine yaa ?_)
    refine yad [] [] [(2,pB false)] fo0 (by kernel_rfl) ?_
    (repeat (first | apply yal | apply yab))
    (repeat refine yaa ?_)
    refine yai ?_
    (repeat (first | apply yah | apply yaf | apply ybc | apply ymu))
    refine ybb hb (fun ht=>?_);subst ht
    (repeat (first | apply yah | apply yaf | apply ybc | apply ymu))
    exact ybh (ygl (ybm rfl)) zsn ⟨rfl,rfl⟩
   replace hb:=xkm hc2 hb
   refine yag ?_
   (repeat apply yal)
   exact ybk hb () (by (repeat (first | exact zhn | apply zhc rfl))) (by (repeat (first | exact zsn | (apply zsc;(focus (repeat (first | exact zph | apply zpt)))))))
  have hge':Nat.blt pos p0.size=false:=by cases e:Nat.blt pos p0.size;rfl;exact absurd (Nat.le_of_ble_eq_true e) (by omega)
  rw [hge'] at hb;simp only [cof] at hb
  refine yap [] [] [(16,pB false)] fo0 (by kernel_rfl) ?_
  (repeat (first | apply yal | apply yab))
  (repeat refine yaa ?_)
  refine yin (p:=false) rfl (fun hf=>by cases hf) (fun _=>?_)
  refine yba ?_
  (repeat (first | apply yao | apply xeb | apply xec | apply yrf rfl))
  refine yam hb (fun ht=>?_)
  refine yan rfl ?_
  exact yaz () zhn zsn ht.symm
 rintro _ τ hz;subst hz;dsimp only [pupds]
 (repeat refine yaa ?_)
 refine yad [] [] [(2,pB true)] fo0 (by kernel_rfl) ?_
 (repeat (first | apply yal | apply yab))
 (repeat refine yaa ?_)
 refine yai ?_
 (repeat (first | apply yah | apply yaf | apply ybc | apply ymu))
 exact ybh (ygl (ybm rfl)) zsn ⟨rfl,rfl⟩
end SX
end Go.Proofs.YtoccohlbjnoeoaaGreatDoor
namespace Go.Proofs
open Go.Shelf
def Tryz.lSF_ren:Go.Shelf.Ren:=⟨fun | 6=>72 | 15=>113 | 14=>112 | 28=>151 | 29=>152 | 20=>143 | 21=>144 | 22=>145 | 23=>146 | 24=>147 | 25=>148 | 26=>149 | 27=>150 | 46=>176 | 47=>177 | 48=>178 | 49=>179 | 50=>180 | 57=>196 | n=>n,fun | 22=>57 | 24=>54 | 25=>122 | 3=>3 | 39=>33 | 0=>0 | 53=>208 | 55=>154 | 4=>4 | 46=>202 | 45=>201 | 50=>143 | 5=>5 | 9=>9 | 66=>231 | 70=>235 | 76=>253 | 77=>254 | n=>n,fun | n=>n⟩
theorem Tryz.lSF:Go.Proofs.SlLaysF0.n6 Tryz.prog Tryz.lSF_ren:={
 mixed:=by kernel_rfl
 f6:=⟨Tryz.f72.name,by decide,Tryz.func72.trans (congrArg some (by kernel_rfl))⟩
 f14:=⟨Tryz.f112.name,by decide,Tryz.func112.trans (congrArg some (by kernel_rfl))⟩
 f15:=Tryz.func113.trans (congrArg some (by kernel_rfl))
 f20:=⟨Tryz.f143.name,by decide,Tryz.func143.trans (congrArg some (by kernel_rfl))⟩
 f21:=⟨Tryz.f144.name,by decide,Tryz.func144.trans (congrArg some (by kernel_rfl))⟩
 f22:=⟨Tryz.f145.name,by decide,Tryz.func145.trans (congrArg some (by kernel_rfl))⟩
 f23:=⟨Tryz.f146.name,by decide,Tryz.func146.trans (congrArg some (by kernel_rfl))⟩
 f24:=⟨Tryz.f147.name,by decide,Tryz.func147.trans (congrArg some (by kernel_rfl))⟩
 f25:=⟨Tryz.f148.name,by decide,Tryz.func148.trans (congrArg some (by kernel_rfl))⟩
 f26:=⟨Tryz.f149.name,by decide,Tryz.func149.trans (congrArg some (by kernel_rfl))⟩
 f27:=⟨Tryz.f150.name,by decide,Tryz.func150.trans (congrArg some (by kernel_rfl))⟩
 f28:=Tryz.func151.trans (congrArg some (by kernel_rfl))
 f29:=Tryz.func152.trans (congrArg some (by kernel_rfl))
 f46:=⟨Tryz.f176.name,by decide,Tryz.func176.trans (congrArg some (by kernel_rfl))⟩
 f47:=Tryz.func177.trans (congrArg some (by kernel_rfl))
 f48:=Tryz.func178.trans (congrArg some (by kernel_rfl))
 f49:=⟨Tryz.f179.name,by decide,Tryz.func179.trans (congrArg some (by kernel_rfl))⟩
 f50:=⟨Tryz.f180.name,by decide,Tryz.func180.trans (congrArg some (by kernel_rfl))⟩
 f57:=⟨Tryz.f196.name,by decide,Tryz.func196.trans (congrArg some (by kernel_rfl))⟩
 t0:=Tryz.underlying0
 a0:=Tryz.isAgg0
 z0:=Tryz.sizeOf0
 v0:=Tryz.zeroValue0
 t3:=Tryz.underlying3
 a3:=Tryz.isAgg3
 z3:=Tryz.sizeOf3
 v3:=Tryz.zeroValue3
 t4:=Tryz.underlying4
 a4:=Tryz.isAgg4
 z4:=Tryz.sizeOf4
 v4:=Tryz.zeroValue4
 t5:=Tryz.underlying5
 a5:=Tryz.isAgg5
 z5:=Tryz.sizeOf5
 v5:=Tryz.zeroValue5
 t9:=Tryz.underlying9
 a9:=Tryz.isAgg9
 z9:=Tryz.sizeOf9
 v9:=Tryz.zeroValue9
 t22:=Tryz.underlying57
 a22:=Tryz.isAgg57
 z22:=Tryz.sizeOf57
 v22:=Tryz.zeroValue57
 t25:=Tryz.underlying122
 a25:=Tryz.isAgg122
 z25:=Tryz.sizeOf122
 v25:=Tryz.zeroValue122
 t39:=Tryz.underlying33
 a39:=Tryz.isAgg33
 z39:=Tryz.sizeOf33
 v39:=Tryz.zeroValue33
 t45:=Tryz.underlying201
 a45:=Tryz.isAgg201
 z45:=Tryz.sizeOf201
 v45:=Tryz.zeroValue201
 t46:=Tryz.underlying202
 a46:=Tryz.isAgg202
 z46:=Tryz.sizeOf202
 v46:=Tryz.zeroValue202
 t50:=Tryz.underlying143
 a50:=Tryz.isAgg143
 z50:=Tryz.sizeOf143
 v50:=Tryz.zeroValue143
 t53:=Tryz.underlying208
 a53:=Tryz.isAgg208
 z53:=Tryz.sizeOf208
 v53:=Tryz.zeroValue208
 t55:=Tryz.underlying154
 a55:=Tryz.isAgg154
 z55:=Tryz.sizeOf154
 v55:=Tryz.zeroValue154
 t66:=Tryz.underlying231
 a66:=Tryz.isAgg231
 z66:=Tryz.sizeOf231
 v66:=Tryz.zeroValue231
 t70:=Tryz.underlying235
 a70:=Tryz.isAgg235
 z70:=Tryz.sizeOf235
 v70:=Tryz.zeroValue235
 t76:=Tryz.underlying253
 a76:=Tryz.isAgg253
 z76:=Tryz.sizeOf253
 v76:=Tryz.zeroValue253
 t77:=Tryz.underlying254
 a77:=Tryz.isAgg254
 z77:=Tryz.sizeOf254
 v77:=Tryz.zeroValue254 }
end Go.Proofs
namespace Go.Proofs
open Go.Shelf
def Tryz.lSs_ren:Go.Shelf.Ren:=⟨fun | 190=>164 | 125=>113 | 258=>184 | 128=>151 | 129=>152 | 302=>197 | 303=>198 | 304=>199 | 305=>200 | 306=>201 | 307=>202 | 308=>203 | 309=>204 | 310=>205 | 333=>213 | 329=>177 | 330=>178 | 334=>214 | 335=>215 | 336=>216 | 344=>221 | n=>n,fun | 31=>43 | 9=>9 | 3=>3 | 46=>33 | 0=>0 | 51=>208 | 53=>154 | 4=>4 | 183=>202 | 182=>201 | 131=>143 | 5=>5 | 218=>231 | 222=>235 | 228=>253 | 229=>254 | n=>n,fun | n=>n⟩
theorem Tryz.lSs:Go.Proofs.Lays.n190 Tryz.prog Tryz.lSs_ren:={
 mixed:=by kernel_rfl
 f125:=Tryz.func113.trans (congrArg some (by kernel_rfl))
 f128:=Tryz.func151.trans (congrArg some (by kernel_rfl))
 f129:=Tryz.func152.trans (congrArg some (by kernel_rfl))
 f190:=Tryz.func164.trans (congrArg some (by kernel_rfl))
 f258:=Tryz.func184.trans (congrArg some (by kernel_rfl))
 f302:=Tryz.func197.trans (congrArg some (by kernel_rfl))
 f303:=Tryz.func198.trans (congrArg some (by kernel_rfl))
 f304:=Tryz.func199.trans (congrArg some (by kernel_rfl))
 f305:=Tryz.func200.trans (congrArg some (by kernel_rfl))
 f306:=Tryz.func201.trans (congrArg some (by kernel_rfl))
 f307:=Tryz.func202.trans (congrArg some (by kernel_rfl))
 f308:=Tryz.func203.trans (congrArg some (by kernel_rfl))
 f309:=Tryz.func204.trans (congrArg some (by kernel_rfl))
 f310:=Tryz.func205.trans (congrArg some (by kernel_rfl))
 f329:=Tryz.func177.trans (congrArg some (by kernel_rfl))
 f330:=Tryz.func178.trans (congrArg some (by kernel_rfl))
 f333:=Tryz.func213.trans (congrArg some (by kernel_rfl))
 f334:=Tryz.func214.trans (congrArg some (by kernel_rfl))
 f335:=Tryz.func215.trans (congrArg some (by kernel_rfl))
 f336:=Tryz.func216.trans (congrArg some (by kernel_rfl))
 f344:=Tryz.func221.trans (congrArg some (by kernel_rfl))
 t0:=Tryz.underlying0
 a0:=Tryz.isAgg0
 z0:=Tryz.sizeOf0
 v0:=Tryz.zeroValue0
 t3:=Tryz.underlying3
 a3:=Tryz.isAgg3
 z3:=Tryz.sizeOf3
 v3:=Tryz.zeroValue3
 t4:=Tryz.underlying4
 a4:=Tryz.isAgg4
 z4:=Tryz.sizeOf4
 v4:=Tryz.zeroValue4
 t5:=Tryz.underlying5
 a5:=Tryz.isAgg5
 z5:=Tryz.sizeOf5
 v5:=Tryz.zeroValue5
 t9:=Tryz.underlying9
 a9:=Tryz.isAgg9
 z9:=Tryz.sizeOf9
 v9:=Tryz.zeroValue9
 t31:=Tryz.underlying43
 a31:=Tryz.isAgg43
 z31:=Tryz.sizeOf43
 v31:=Tryz.zeroValue43
 t46:=Tryz.underlying33
 a46:=Tryz.isAgg33
 z46:=Tryz.sizeOf33
 v46:=Tryz.zeroValue33
 t51:=Tryz.underlying208
 a51:=Tryz.isAgg208
 z51:=Tryz.sizeOf208
 v51:=Tryz.zeroValue208
 t53:=Tryz.underlying154
 a53:=Tryz.isAgg154
 z53:=Tryz.sizeOf154
 v53:=Tryz.zeroValue154
 t131:=Tryz.underlying143
 a131:=Tryz.isAgg143
 z131:=Tryz.sizeOf143
 v131:=Tryz.zeroValue143
 t182:=Tryz.underlying201
 a182:=Tryz.isAgg201
 z182:=Tryz.sizeOf201
 v182:=Tryz.zeroValue201
 t183:=Tryz.underlying202
 a183:=Tryz.isAgg202
 z183:=Tryz.sizeOf202
 v183:=Tryz.zeroValue202
 t218:=Tryz.underlying231
 a218:=Tryz.isAgg231
 z218:=Tryz.sizeOf231
 v218:=Tryz.zeroValue231
 t222:=Tryz.underlying235
 a222:=Tryz.isAgg235
 z222:=Tryz.sizeOf235
 v222:=Tryz.zeroValue235
 t228:=Tryz.underlying253
 a228:=Tryz.isAgg253
 z228:=Tryz.sizeOf253
 v228:=Tryz.zeroValue253
 t229:=Tryz.underlying254
 a229:=Tryz.isAgg254
 z229:=Tryz.sizeOf254
 v229:=Tryz.zeroValue254 }
end Go.Proofs
namespace Go.Proofs.YtoccohlbjnoeoaaGreatDoor
namespace SX
open Go
section
variable {γ:Type} [Inhabited γ]
theorem xaa (e:γ→Value) (D:Array γ) (cur:Array Value) (h:D.size≤cur.size):(Sort.putCells e 0 D cur).toList.take D.size=D.toList.map e:=by
 apply List.ext_getElem
 ·simp [Sort.putCells];omega
 intro i h1 h2
 have h3:i<D.size:=by simpa using h2
 simp [Sort.putCells,h3]
theorem xer {e:γ→Value} {w:World} {b:Nat} {D:Array γ} {cur:Array Value} {T:Nat} {fr:Nat×Nat} (h:w.heap[b]?=some (.cells cur T fr)):(Sort.putRow e w b 0 D).heap[b]?=some (.cells (Sort.putCells e 0 D cur) T fr):=by
 simp [Sort.putRow,Sort.mapBlock,Array.getElem?_modify,h,Sort.onCells]
theorem yxh {e:γ→Value} {w:World} {b i:Nat} {D:Array γ} (h:i≠b):(Sort.putRow e w b 0 D).heap[i]?=w.heap[i]?:=by
 simp only [Sort.putRow,Sort.mapBlock,Array.getElem?_modify]
 rw [if_neg (fun e=>h e.symm)]
theorem ysv {β:Base} {l:List Res} {κ:Kr} {b n c T sz m:Nat} {css css':List (List Value)} {os:Array Obj} {e:γ→Value} {D:Array γ} (hi:Zp β (Res.row (some ⟨b,0,none⟩) n c T sz css::l) κ) (hF:D.toList.map e=css'.flatten) (hl:css'.length=n) (hw:∀ cs∈css',cs.length=sz) :
    Zp β (Res.row (some ⟨b,0,none⟩) n c T sz css'::l) ⟨Sort.grow (Sort.putRow e (Sort.ahead κ.w m) b 0 D) os,κ.S⟩∧Kle κ ⟨Sort.grow (Sort.putRow e (Sort.ahead κ.w m) b 0 D) os,κ.S⟩:=by
  have ho:=hi.own _ (List.mem_cons_self)
  obtain ⟨h1,h2,h3,h4,h5,cur,h6,h7,h8⟩:=ho
  have hD:D.size=n*sz:=by
    have:=congrArg List.length hF
    rw [List.length_map,yex hw,hl] at this
    simpa using this
  have hle:D.size≤cur.size:=by rw [hD,h7];exact Nat.mul_le_mul_right _ h4
  have t1:=hi.turn (r':=Res.row (some ⟨b,0,none⟩) n c T sz css') (l1:=[]) (b:=b) (w':=Sort.putRow e (Sort.ahead κ.w m) b 0 D) rfl rfl rfl (fun i hne=>yxh hne) (by simp [Sort.putRow,Sort.mapBlock,Sort.ahead])
    ⟨h1,hl,hw,h4,h5,_,xer (w:=Sort.ahead κ.w m) h6,by simpa [Sort.putCells] using h7,by rw [← hD,xaa e D cur hle,hF]⟩ rfl rfl rfl (by simp [Sort.putRow,Sort.mapBlock,Sort.ahead])
  have hh:=t1.1.own _ (List.mem_cons_self)
  have hb2:b<(Sort.putRow e (Sort.ahead κ.w m) b 0 D).heap.size:=by
    have:=(t1.1.blk _ (List.mem_cons_self) b rfl).1;exact this
  have hold:∀ i,i<(Sort.putRow e (Sort.ahead κ.w m) b 0 D).heap.size→(Sort.grow (Sort.putRow e (Sort.ahead κ.w m) b 0 D) os).heap[i]?=(Sort.putRow e (Sort.ahead κ.w m) b 0 D).heap[i]?:=fun i h=>by
    simp only [Sort.grow];rw [Array.getElem?_append_left h]
  have hh2:(Res.row (some ⟨b,0,none⟩) n c T sz css').holds (Sort.grow (Sort.putRow e (Sort.ahead κ.w m) b 0 D) os):=by
    have:(Sort.grow (Sort.putRow e (Sort.ahead κ.w m) b 0 D) os).heap[b]?=(Sort.putRow e (Sort.ahead κ.w m) b 0 D).heap[b]?:=hold b hb2
    unfold Res.holds at hh ⊢
    show (Res.row (some ⟨b,0,none⟩) n c T sz css').says (Sort.grow (Sort.putRow e (Sort.ahead κ.w m) b 0 D) os).heap[b]?
    rw [this];exact hh
  obtain ⟨i3,k3⟩:=t1.1.grow (r':=Res.row (some ⟨b,0,none⟩) n c T sz css') (w':=Sort.grow (Sort.putRow e (Sort.ahead κ.w m) b 0 D) os) ⟨rfl,rfl,rfl,by simp [Sort.grow],fun i h _=>hold i h⟩ (.inr (.inl rfl)) hh2 (xju hh2) (Nat.le_refl _)
  exact ⟨i3,t1.2.trans k3⟩
end
def ltS (a b:ByteArray):Bool:=Op.bytesLess a.toList b.toList
theorem ytj (a b:ByteArray):ltS a b=decide (a.data.toList<b.data.toList):=by
 unfold ltS;rw [bytesLess_eq,ByteArray.toList_eq,ByteArray.toList_eq]
theorem xlm {κ:Kr}:∀ {xs:List ByteArray} {dss:List (List Value)},Rpss κ (xs.map eS) dss→dss=xs.map fun s=>[.string s]
 | [],_,h=>h.nil_inv
 | x::xs,_,h=>by
  obtain ⟨d,ds,rfl,h1,h2⟩:=h.cons_inv
  obtain ⟨v,vs,rfl,h3,h4⟩:=h1.cons_inv
  rw [xlm h2,h4.nil_inv,h3.val];rfl
theorem yyg {κ:Kr}:∀ {xs:List ByteArray} {dss:List (List Value)},Rpss κ (xs.map eS) dss→∀ x∈xs,okb (.string x)=true
 | [],_,_=>by simp
 | x::xs,_,h=>by
  obtain ⟨d,ds,rfl,h1,h2⟩:=h.cons_inv
  obtain ⟨v,vs,rfl,h3,h4⟩:=h1.cons_inv
  intro y hy
  rcases List.mem_cons.1 hy with rfl | hy
  ·cases h3 with | v hq=>exact hq
  exact yyg h2 y hy
theorem yyh {κ:Kr}:∀ {xs:List ByteArray},(∀ x∈xs,okb (.string x)=true)→Rpss κ (xs.map eS) (xs.map fun s=>[.string s])
 | [],_=>.nil
 | x::xs,h=>.cons (.cons (.v (h x (by simp))) .nil) (yyh fun y hy=>h y (by simp [hy]))
theorem flat_str (l:List ByteArray):(l.map fun s=>[Value.string s]).flatten=l.map Value.string:=by
 induction l with
 | nil=>rfl
 | cons x xs ih=>simp [ih]
def yhx (l:List ByteArray):Option (List ByteArray):=some (isort ltS l)
theorem ypn {α:Type} {lt:α→α→Bool} (l:List α):(isort lt l).length=l.length:=yld.length_eq
theorem xig (l:List ByteArray):(l.map fun s=>s.data.toList).mergeSort (fun x y=>decide (x≤y))=(isort ltS l).map fun s=>s.data.toList:=by
 have key:∀ x y:List UInt8,decide (x≤y) = !decide (y<x):=fun x y=>by
  rw [← decide_not];exact decide_eq_decide.2 (by rw [List.not_lt])
 refine yrh (lt:=fun x y=>decide (x<y)) (fun x y h1 h2=>?_) ?_ ?_ ?_
 ·have h1:=of_decide_eq_false h1;have h2:=of_decide_eq_false h2
  exact List.le_antisymm (List.not_lt.1 h2) (List.not_lt.1 h1)
 ·have h:=List.pairwise_mergeSort (le:=fun x y:List UInt8=>decide (x≤y)) (fun a b c h1 h2=>det (List.le_trans (of_decide_eq_true h1) (of_decide_eq_true h2))) (fun a b=>by
   rcases List.le_total a b with h | h
   ·simp [h]
   simp [h]) (l.map fun s=>s.data.toList)
  exact h.imp fun {a b} hab=>by rw [key] at hab;simpa using hab
 ·rw [List.pairwise_map]
  have h:=ymf (lt:=ltS) (fun x y z h1 h2=>by
   rw [ytj] at *;exact det (List.lt_trans (of_decide_eq_true h1) (of_decide_eq_true h2))) (fun x y z h1 h2=>by
   rw [ytj] at *;exact yds (List.not_lt.2 (List.le_trans (List.not_lt.1 (of_decide_eq_false h2)) (List.not_lt.1 (of_decide_eq_false h1))))) (fun x=>by rw [ytj];exact yds (List.lt_irrefl _)) l
  exact h.imp fun {a b} hab=>by rw [← ytj];exact hab
 exact (List.mergeSort_perm _ _).trans (yld.symm.map _)
theorem ykz {p0 r:List ByteArray} (h:yhx p0=some r) {a:Option Addr} {n c:Nat}:PCall 164 [.v (.slice a n c)] [PRes.row a n c 9 1 (List.map eS p0)] (fun pv ρ'=>pv=.tup []∧ρ'=[PRes.row a n c 9 1 (List.map eS r)]):=fun κ args ρ g ha hr=>by
 obtain rfl:=Option.some.inj h
 obtain ⟨v,ws,rfl,ha1,ha2⟩:=ha.cons_inv
 rw [ha2.nil_inv,ha1.val]
 obtain ⟨r0,l',rfl,hr1,hr2⟩:=hr.cons_inv
 have:=hr2.nil_inv;subst this
 refine ⟨fk164,fun hi=>?_⟩
 cases hr1 with
 | row hb ho hc =>
  have hok:=yyg hc
  have hd:=xlm hc;subst hd
  have how:=hi.own _ (List.mem_cons_self)
  cases a with
  | none =>
   obtain ⟨rfl,rfl,h3⟩:=how
   have hp:p0=[]:=List.map_eq_nil_iff.1 h3
   subst hp
   refine (Any.slices_Sort_string_none Tryz.lSs none 0 κ.w).mono fun e w' ⟨h1,h2⟩=>?_
   subst h1 h2
   exact ⟨_,_,κ,rfl,rfl,hi,.tup [],_,.tup .nil,.cons (.row hb ho (by exact .nil)) .nil,rfl,rfl⟩
  | some ad =>
   have how2:=how
   obtain ⟨h1,h2,h3,h4,h5,cur,h6,h7,h8⟩:=how
   obtain ⟨b,off,sp⟩:=ad
   injection h1 with h1a h1b h1c
   subst h1b h1c
   have hblk:b<κ.w.heap.size:=(hi.blk _ (List.mem_cons_self) b rfl).1
   have hn:n=(p0.map fun s=>s.data.toList).length:=by rw [← h2];simp
   have hH:Sort.Holds encStr κ.w b 0 (p0.map fun s=>s.data.toList).toArray:=by
    intro j hj
    have hj2:j<p0.length:=by simpa using hj
    rw [flat_str,Nat.mul_one] at h8
    have hj3:cur.toList[j]?=some (Value.string p0[j]):=by
     have e:=congrArg (fun l=>l[j]?) h8
     simp only [List.getElem?_take,List.getElem?_map] at e
     rw [if_pos (by rw [← h2];simpa using hj2),List.getElem?_eq_getElem hj2] at e
     exact e
    have hj4:cur[j]?=some (Value.string p0[j]):=by rw [← Array.getElem?_toList];exact hj3
    constructor
    ·simp only [World.cell?,h6,Option.isSome_none,Bool.false_eq_true,if_false,Nat.zero_add]
     rw [hj4]
     congr 1
     simp [getElem!_pos,hj2]
    simp [World.frozen?,h6]
   rw [hn]
   refine (Any.slices_Sort_string Tryz.lSs b 0 c _ κ.w hH hblk (by rw [← hn];unfold maxLen at h5;omega)).mono fun e w' ⟨k1,m,os,k2⟩=>?_
   subst k1 k2
   obtain ⟨i1,i2⟩:=ysv (m:=m) (os:=os) (e:=encStr) (css':=(isort ltS p0).map fun s=>[Value.string s]) (D:=((p0.map fun s=>s.data.toList).mergeSort fun x y=>decide (x≤y)).toArray) hi (by
    rw [xig]
    generalize isort ltS p0=q
    induction q with
    | nil=>rfl
    | cons x xs ih=>simp at ih ⊢;exact ih) (by rw [List.length_map,ypn];rw [← h2];simp) (by simp)
   exact ⟨_,_,⟨_,κ.S⟩,rfl,rfl,i1,.tup [],_,.tup .nil,.cons (.row hb (by intro cs hcs;obtain ⟨q,_,rfl⟩:=List.mem_map.1 hcs;intro u hu;rw [List.mem_singleton.1 hu];rfl) (yyh fun y hy=>hok y (yld.mem_iff.1 hy))) .nil,rfl,by rw [← hn]⟩
theorem le_grow {κ κ':Kr} (h:Le [] κ κ'):∃ q os',κ'.w=Sort.grow (κ.w.drewN q) os':=by
 refine ⟨κ'.w.drawn - κ.w.drawn,κ'.w.heap.extract κ.w.heap.size κ'.w.heap.size,?_⟩
 have hz:=h.kle.size
 have hd:=h.drawn
 have e1:κ'.w.heap=κ.w.heap++κ'.w.heap.extract κ.w.heap.size κ'.w.heap.size:=by
  apply Array.ext_getElem?
  intro i
  rcases Nat.lt_or_ge i κ.w.heap.size with hi | hi
  ·rw [Array.getElem?_append_left hi];exact h.same i hi (by simp)
  rw [Array.getElem?_append_right hi,Array.getElem?_extract]
  split
  ·congr 1;omega
  rw [Array.getElem?_eq_none (by omega)]
 cases hw:κ'.w with
 | mk heap tape drawn os output =>
  have h2:=h.tape;have h3:=h.os;have h4:=h.output
  rw [hw] at e1 h2 h3 h4 hd
  simp only at e1 h2 h3 h4 hd
  simp only [Sort.grow,World.drewN]
  subst h2 h3 h4
  rw [← e1]
  congr 1;omega
theorem xce {γ:Type} [Inhabited γ] (enc:γ→List Value) (k:Nat) (hk:∀ x,(enc x).length=k):∀ L:List γ,(List.range (L.length*k)).map (fun t=>(enc L[t / k]!)[t % k]!)=(L.map enc).flatten
 | []=>by simp
 | x::xs=>by
  have ih:=xce enc k hk xs
  rcases Nat.eq_zero_or_pos k with h0 | h0
  ·subst h0
   have:∀ M:List γ,(M.map enc).flatten=[]:=fun M=>by
    rw [List.flatten_eq_nil_iff];intro l hl;obtain ⟨y,_,rfl⟩:=List.mem_map.1 hl;exact List.eq_nil_of_length_eq_zero (hk y)
   rw [this];simp
  rw [List.length_cons,Nat.add_mul,Nat.one_mul,Nat.add_comm,List.range_add,List.map_append,List.map_cons,List.flatten_cons,← ih,List.map_map]
  congr 1
  ·apply List.ext_getElem
   ·simp [hk]
   intro i h1 h2
   have hi:i<k:=by simpa using h1
   simp [Nat.div_eq_of_lt hi,Nat.mod_eq_of_lt hi,getElem!_pos,h2]
  apply List.map_congr_left
  intro t _
  simp only [Function.comp,Nat.add_div_left _ h0,Nat.add_mod_left]
  rfl
theorem xab {γ:Type} [Inhabited γ] (enc:γ→List Value) (k:Nat) (hk:∀ x,(enc x).length=k) (d:Array γ):(Sort.flatK enc k d).toList.map id=(d.toList.map enc).flatten:=by
 rw [List.map_id,← xce enc k hk]
 simp only [Sort.flatK,Array.toList_map,Array.toList_range,Array.length_toList]
 apply List.map_congr_left
 intro t _
 congr 2
 simp [getElem!_def]
section
variable {α:Type} {enc:α→List PV} {encV:α→List Value}
theorem xgp {κ:Kr} (hinv:∀ x ds,Rps κ (enc x) ds→ds=encV x):∀ {xs:List α} {dss:List (List Value)},Rpss κ (xs.map enc) dss→dss=xs.map encV
 | [],_,h=>h.nil_inv
 | x::xs,_,h=>by
  obtain ⟨d,ds,rfl,h1,h2⟩:=h.cons_inv
  rw [xgp hinv h2,hinv _ _ h1];rfl
theorem yvs {κ:Kr} (hmk:∀ x,Rps κ (enc x) (encV x)):∀ {xs:List α},Rpss κ (xs.map enc) (xs.map encV)
 | []=>.nil
 | x::xs=>.cons (hmk x) (yvs hmk)
theorem callSF [Inhabited α] {f g T k:Nat} {ρs:Shelf.Ren} (L:SlLaysF0.n6 Tryz.prog ρs) (hf:ρs.f 6=f) (fOk:FnOk f) (gOk:FnOk g) (aE:∀ w,(isAgg (ρs.t 24)).run Tryz.prog w=.ok true w) (zE:∀ w,(Go.sizeOf (ρs.t 24)).run Tryz.prog w=.ok k w)
    (hk:∀ x,(encV x).length=k) (h1:∀ x,∀ v∈encV x,v.oneCell'=true) (hinv:∀ κ x ds,Rps κ (enc x) ds→ds=encV x) (hmk:∀ κ x,Rps κ (enc x) (encV x)) (cf:α→α→Int) (hO:Sort.SWO (ltOf cf)) (hT:∀ x y,ltOf cf x y=false→ltOf cf y x=false→x=y)
    (hcmp:∀ x y,PF g [.agg (enc x),.agg (enc y)] (pI (cf x y))) {p0:List α} {a:Option Addr} {n c:Nat}:PCall f [.v (.slice a n c),.fn g []] [PRes.row a n c T k (List.map enc p0)] (fun pv ρ'=>pv=.tup []∧ρ'=[PRes.row a n c T k (List.map enc (isort (ltOf cf) p0))]):=fun κ args ρ gk ha hr=>by
  subst hf
  obtain ⟨v,ws,rfl,ha1,ha2⟩:=ha.cons_inv
  obtain ⟨v2,ws2,rfl,ha3,ha4⟩:=ha2.cons_inv
  rw [ha4.nil_inv,ha1.val]
  have hv2:v2=.func (.func g) #[] #[]:=by
    cases ha3 with
    | fn h=>rw [h.nil_inv]
  subst hv2
  obtain ⟨r0,l',rfl,hr1,hr2⟩:=hr.cons_inv
  have:=hr2.nil_inv;subst this
  refine ⟨fOk,fun hi=>?_⟩
  have hn1:∀ l:List α,∀ cs∈l.map encV,cs.length=k:=fun l cs hcs=>by obtain ⟨q,_,rfl⟩:=List.mem_map.1 hcs;exact hk q
  cases hr1 with
  | row hb ho hc =>
    have hd:=xgp (hinv κ) hc;subst hd
    have how:=hi.own _ (List.mem_cons_self)
    cases a with
    | none =>
      obtain ⟨rfl,rfl,h3⟩:=how
      have hp:p0=[]:=List.map_eq_nil_iff.1 h3
      subst hp
      refine (AnyF.slices_SortFunc_none L none 0 _ κ.w).mono fun e w' ⟨h1,h2⟩=>?_
      subst h1 h2
      exact ⟨_,_,κ,rfl,rfl,hi,.tup [],_,.tup .nil,.cons (.row hb ho (by exact .nil)) .nil,rfl,rfl⟩
    | some ad =>
      obtain ⟨q1,h2,h3,h4,h5,cur,h6,h7,h8⟩:=how
      obtain ⟨b,off,sp⟩:=ad
      injection q1 with h1a h1b h1c
      subst h1b h1c
      have hblk:b<κ.w.heap.size:=(hi.blk _ (List.mem_cons_self) b rfl).1
      have hn:n=p0.toArray.size:=by rw [← h2];simp
      have hz:(Sort.flatK encV k p0.toArray).size=n*k:=by rw [Sort.size_flatK,← hn]
      have hft:(Sort.flatK encV k p0.toArray).toList=cur.toList.take (n*k):=by
        rw [h8,← xab encV k hk,List.map_id]
      have hH:Sort.HoldsK encV k κ.w b 0 p0.toArray:=by
        intro j hj
        have hj2:j<n*k:=by rw [← hz];exact hj
        have hj3:(Sort.flatK encV k p0.toArray)[j]?=cur[j]?:=by
          rw [← Array.getElem?_toList,hft,List.getElem?_take,if_pos hj2,Array.getElem?_toList]
        constructor
        · simp only [World.cell?,h6,Option.isSome_none,Bool.false_eq_true,if_false,Nat.zero_add]
          rw [← hj3,Array.getElem?_eq_getElem hj,getElem!_pos _ j hj];rfl
        simp [World.frozen?,h6]
      have hcl:CmpLays Tryz.prog g #[] encV k cf b 0 p0.toArray.size κ.w:=fun m os dk hs x y=>by
        obtain ⟨i1,k1⟩:=ysv (m:=m) (os:=os) (e:=id) (D:=Sort.flatK encV k dk) (css':=dk.toList.map encV) hi (xab encV k hk dk) (by rw [List.length_map,Array.length_toList,hs,hn]) (hn1 _)
        have hc2:=hcmp x y ⟨_,κ.S⟩ [.agg (encV x).toArray,.agg (encV y).toArray] (gk.mono k1) (.cons (.agg (h1 x) (hmk _ x)) (.cons (.agg (h1 y) (hmk _ y)) .nil))
        refine (hc2.2 ⟨Le.refl _ _,i1.fin,by simp,by simp,List.Pairwise.nil⟩).mono fun e w' ⟨v,ρ',κ',g1,g2,g3,g4⟩=>?_
        obtain ⟨q,os',hq⟩:=le_grow g3.le
        subst g1 g2
        exact ⟨by rw [g4.2.val],q,os',hq⟩
      rw [hn]
      refine (AnyQ.slices_SortFunc_total L k aE zE encV hk h1 cf hO g #[] b 0 c p0.toArray κ.w (fun args w=>ymb gOk args w) hcl hH hblk (by rw [← hn];unfold maxLen at h5;omega) hT).mono fun e w' ⟨k1,m,os,k2⟩=>?_
      have hso:(p0.toArray.toList.mergeSort fun x y => !(ltOf cf) y x)=isort (ltOf cf) p0:=by
        refine yrh (lt:=ltOf cf) hT ?_ (ymf hO.trans hO.ntrans hO.irrefl p0) ((List.mergeSort_perm _ _).trans yld.symm)
        have h:=List.pairwise_mergeSort (le:=fun x y:α => !(ltOf cf) y x) (fun a b c h1 h2=>by
          simp only [Bool.not_eq_true'] at h1 h2 ⊢;exact hO.ntrans _ _ _ h2 h1) (fun a b=>by
          cases e1:ltOf cf b a
          · simp
          cases e2:ltOf cf a b
          · simp
          have:=hO.trans _ _ _ e1 e2;rw [hO.irrefl] at this;cases this) p0
        exact h.imp fun {a b} hab=>by simpa using hab
      rw [hso] at k2
      subst k1 k2
      obtain ⟨i1,i2⟩:=ysv (m:=m) (os:=os) (e:=id) (css':=(isort (ltOf cf) p0).map encV) (D:=Sort.flatK encV k (isort (ltOf cf) p0).toArray) hi (xab encV k hk _) (by rw [List.length_map,ypn];rw [← h2];simp) (hn1 _)
      exact ⟨_,_,⟨_,κ.S⟩,rfl,rfl,i1,.tup [],_,.tup .nil,.cons (.row hb (by intro cs hcs;obtain ⟨q,_,rfl⟩:=List.mem_map.1 hcs;exact h1 q) (yvs (hmk _))) .nil,rfl,by rw [← hn]⟩
end
theorem cmpI (a b:Int):yey a b=some (if a<b then -1 else if b<a then 1 else 0):=by
 unfold yey yiu
 simp only [bne_self_eq_false,obs,cof]
 by_cases h:a<b
 ·rw [det h,if_pos h];rfl
 rw [yds h,if_neg h]
 by_cases h2:b<a
 ·rw [det h2,if_pos h2];rfl
 rw [yds h2,if_neg h2];rfl
theorem cmpOr2 (a b:Int):ynd [a,b]=some (if a=0 then b else a):=by
 unfold ynd
 refine (ybw (l:=[a,b]) (by simp) (fun _ x=>cond (x != 0) (some (.inr x)) none) (.inl ()) (fun k hk=>?_) (by rw [ygn];rfl)).trans ?_
 ·rw [dlt hk,cot,bnd (yav hk),yco hk (by simp)]
  cases ([a,b][k] != 0) <;> rfl
 rw [yle (fun x:Int=>x != 0) (fun x=>(Sum.inr x:Unit⊕Int))]
 by_cases ha:a=0
 ·subst ha
  by_cases hb:b=0
  ·subst hb;rfl
  simp [hb]
 simp [ha]
def ltClaim (x y:Za):Bool:=decide (x.Product<y.Product)||(decide (x.Product=y.Product)&&decide (x.Agreement<y.Agreement))
def cfClaim (x y:Za):Int:=if (if x.Product<y.Product then (-1:Int) else if y.Product<x.Product then 1 else 0)=0 then (if x.Agreement<y.Agreement then -1 else if y.Agreement<x.Agreement then 1 else 0) else (if x.Product<y.Product then -1 else if y.Product<x.Product then 1 else 0)
theorem ysw:ltOf cfClaim=ltClaim:=by
 funext x y
 unfold ltOf cfClaim ltClaim
 rcases Int.lt_trichotomy x.Product y.Product with h | h | h
 ·rw [if_pos h];simp [h]
 ·simp only [h,Int.lt_irrefl,if_false,if_true,decide_false,decide_true,Bool.false_or,Bool.true_and]
  rcases Int.lt_trichotomy x.Agreement y.Agreement with h2 | h2 | h2
  ·rw [if_pos h2];simp [h2]
  ·simp [h2]
  rw [if_neg (by omega),if_pos h2];simp;omega
 have h1:¬ x.Product<y.Product:=by omega
 have h3:¬ x.Product=y.Product:=by omega
 simp [h,h1,h3]
theorem xln (x y:Za):yej x y=some (cfClaim x y):=by
 unfold yej cfClaim
 rw [cmpI,cmpI]
 simp only [obs,cmpOr2]
theorem yvt (x y:Za):ltClaim x y=true↔x.Product<y.Product∨(x.Product=y.Product∧x.Agreement<y.Agreement):=by simp [ltClaim]
theorem yrm (x y:Za):ltClaim x y=false↔¬ (x.Product<y.Product∨(x.Product=y.Product∧x.Agreement<y.Agreement)):=by rw [← yvt];simp
theorem yvu (x:Za):ltClaim x x=false:=by rw [yrm];omega
theorem yyi (x y z:Za):ltClaim x y=true→ltClaim y z=true→ltClaim x z=true:=by simp only [yvt];omega
theorem yvv (x y z:Za):ltClaim x y=false→ltClaim y z=false→ltClaim x z=false:=by simp only [yrm];omega
theorem yvw (x y:Za):ltClaim x y=false→ltClaim y x=false→x=y:=by
 simp only [yrm];intro h1 h2
 cases x;cases y;simp at h1 h2 ⊢;omega
def ybi (l:List Za):Option (List Za):=some (isort ltClaim l)
theorem ycx {p0 r:List Za} (h:ybi p0=some r) {a:Option Addr} {n c:Nat}:PCall 72 [.v (.slice a n c),.fn 83 []] [PRes.row a n c 54 2 (List.map Za.enc p0)] (fun pv ρ'=>pv=.tup []∧ρ'=[PRes.row a n c 54 2 (List.map Za.enc r)]):=by
 obtain rfl:=Option.some.inj h
 rw [← ysw]
 exact callSF Tryz.lSF rfl fk72 fk83 Tryz.isAgg54 Tryz.sizeOf54 (encV:=fun x=>[.int .i64 x.Product,.int .i64 x.Agreement]) (fun _=>rfl)
  (fun x v hv=>by simp at hv;rcases hv with rfl | rfl <;> rfl) (fun κ x ds h=>by
   obtain ⟨v,ws,rfl,h1,h2⟩:=h.cons_inv
   obtain ⟨v2,ws2,rfl,h3,h4⟩:=h2.cons_inv
   rw [h1.val,h3.val,h4.nil_inv]) (fun κ x=>.cons (.v rfl) (.cons (.v rfl) .nil)) cfClaim
  (by rw [ysw];exact ⟨yvu,yyi,yvv⟩) (by rw [ysw];exact yvw) (fun x y=>ylr (xln x y))

end SX
end Go.Proofs.YtoccohlbjnoeoaaGreatDoor
