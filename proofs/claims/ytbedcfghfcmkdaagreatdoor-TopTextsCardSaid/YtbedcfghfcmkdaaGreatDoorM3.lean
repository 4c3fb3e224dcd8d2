/- A part of the proof. No condition. -/
import Derived.Test.YtbedcfghfcmkdaaGreatDoorM2
open Nat (zero_le)
open List (length_set)
open Go.IntKind (i64 u64 u8 u32 i32)
set_option linter.unusedVariables false
set_option linter.unusedSimpArgs false
set_option maxHeartbeats 4000000
set_option maxRecDepth 100000
namespace Go.Proofs.YtbedcfghfcmkdaaGreatDoor
namespace SX
open Go
attribute [local irreducible] Wa Ka Vc Ye Td Qb Na Ra Pa Vb Ub Nc Jb Uc Qd PF Yc La Lb dU dM ke kV ip jN Yd Ya aW bx app mk gd lb nz sN lC sub ff ji xi rE ja ex lJ eO IntKind.wrap Int.tmod Int.tdiv Op.bytesLess strOfNums
theorem aQ {n:Nat} {l:List Oper} {KC:Exit->Ua} {Z:Xa} {ρ:List Qa} {id:Nat} (D:List Nat) (h:oM n l.toArray ρ l [] [] Z [] D=ng n l.toArray ρ l [] [] Z []) (hw:KC .normal (mR Z D []) ρ):Ka n (.region id l.toArray false) KC Z ρ:=ai [] D [] aY h hw
theorem aK {n:Nat} {l:List Oper} {KC:Exit->Ua} {Z:Xa} {ρ:List Qa} {id:Nat} (H D:List Nat) (X:List (Nat×PV)) (h:oM n l.toArray ρ l H [] Z (X.map (·.1)) D=ng n l.toArray ρ l H [] Z (X.map (·.2))) (hw:KC .normal (mR Z D X) ρ):Ka n (.region id l.toArray false) KC Z ρ:=ai H D X aY h hw
theorem aA {n:Nat} {l:List Oper} {KC:Exit->Ua} {Z:Xa} {ρ:List Qa} {id:Nat} (X:List (Nat×PV)) (h:oM n l.toArray ρ l [] [] Z (X.map (·.1)) []=ng n l.toArray ρ l [] [] Z (X.map (·.2))) (hw:KC .normal (mR Z [] X) ρ):Ka n (.region id l.toArray false) KC Z ρ:=ai [] [] X aY h hw
theorem ah {n:Nat} {l:List Oper} {KC:Exit->Ua} {Z:Xa} {ρ:List Qa} {id:Nat} (D:List Nat) (X:List (Nat×PV)) (h:oM n l.toArray ρ l [] [] Z (X.map (·.1)) D=ng n l.toArray ρ l [] [] Z (X.map (·.2))) (hw:KC .normal (mR Z D X) ρ):Ka n (.region id l.toArray false) KC Z ρ:=ai [] D X aY h hw
theorem BQ {n:Nat} {ops:Array Oper} {l:List (Nat×Oper)} {K:Ua} {Z:Xa} {ρd ρs:List Qa} (k:Nat) (H D:List Nat) (X:List (Nat×PV)) (h:BH n ops ρs (l.take k) H [] Z (X.map (·.1)) D=ng n ops ρs ((l.take k).map (·.2)) H [] Z (X.map (·.2))) (hw:Vc n ops K (l.drop k) (mR Z D X) ρd ρs):Vc n ops K l Z ρd ρs:=ca k H D X aY h hw
theorem fB {n:Nat} {ops:Array Oper} {l:List (Nat×Oper)} {K:Ua} {Z:Xa} {ρd ρs:List Qa} (k:Nat) (X:List (Nat×PV)) (h:BH n ops ρs (l.take k) [] [] Z (X.map (·.1)) []=ng n ops ρs ((l.take k).map (·.2)) [] [] Z (X.map (·.2))) (hw:Vc n ops K (l.drop k) (mR Z [] X) ρd ρs):Vc n ops K l Z ρd ρs:=ca k [] [] X aY h hw
theorem mB {n:Nat} {ops:Array Oper} {l:List (Nat×Oper)} {K:Ua} {Z:Xa} {ρd ρs:List Qa} (k:Nat) (D:List Nat) (X:List (Nat×PV)) (h:BH n ops ρs (l.take k) [] [] Z (X.map (·.1)) D=ng n ops ρs ((l.take k).map (·.2)) [] [] Z (X.map (·.2))) (hw:Vc n ops K (l.drop k) (mR Z D X) ρd ρs):Vc n ops K l Z ρd ρs:=ca k [] D X aY h hw
theorem aZ {n:Nat} {ops:Array Oper} {l:List Oper} {K:Ua} {Z:Xa} {ρ:List Qa} (D:List Nat) (h:oM n ops ρ l [] [] Z [] D=ng n ops ρ l [] [] Z []) (hw:K (mR Z D []) ρ):Wa n ops l K Z ρ:=dh [] D [] aY h hw
theorem aE {n:Nat} {ops:Array Oper} {l:List Oper} {K:Ua} {Z:Xa} {ρ:List Qa} (X:List (Nat×PV)) (h:oM n ops ρ l [] [] Z (X.map (·.1)) []=ng n ops ρ l [] [] Z (X.map (·.2))) (hw:K (mR Z [] X) ρ):Wa n ops l K Z ρ:=dh [] [] X aY h hw
theorem fV {n:Nat} {ops:Array Oper} {l:List Oper} {K:Ua} {Z:Xa} {ρ:List Qa} (D:List Nat) (X:List (Nat×PV)) (h:oM n ops ρ l [] [] Z (X.map (·.1)) D=ng n ops ρ l [] [] Z (X.map (·.2))) (hw:K (mR Z D X) ρ):Wa n ops l K Z ρ:=dh [] D X aY h hw
theorem Ho {n:Nat} {ops:Array Oper} {l:List Oper} {K:Ua} {Z:Xa} {ρ:List Qa} (k:Nat) (D:List Nat) (h:oM n ops ρ (l.take k) [] [] Z [] D=ng n ops ρ (l.take k) [] [] Z []) (hw:Wa n ops (l.drop k) K (mR Z D []) ρ):Wa n ops l K Z ρ:=iW k [] D [] aY h hw
theorem dE {n:Nat} {ops:Array Oper} {l:List Oper} {K:Ua} {Z:Xa} {ρ:List Qa} (k:Nat) (H:List Nat) (X:List (Nat×PV)) (h:oM n ops ρ (l.take k) H [] Z (X.map (·.1)) []=ng n ops ρ (l.take k) H [] Z (X.map (·.2))) (hw:Wa n ops (l.drop k) K (mR Z [] X) ρ):Wa n ops l K Z ρ:=iW k H [] X aY h hw
theorem bH {n:Nat} {ops:Array Oper} {l:List Oper} {K:Ua} {Z:Xa} {ρ:List Qa} (k:Nat) (H D:List Nat) (X:List (Nat×PV)) (h:oM n ops ρ (l.take k) H [] Z (X.map (·.1)) D=ng n ops ρ (l.take k) H [] Z (X.map (·.2))) (hw:Wa n ops (l.drop k) K (mR Z D X) ρ):Wa n ops l K Z ρ:=iW k H D X aY h hw
theorem ba {n:Nat} {ops:Array Oper} {l:List Oper} {K:Ua} {Z:Xa} {ρ:List Qa} (k:Nat) (X:List (Nat×PV)) (h:oM n ops ρ (l.take k) [] [] Z (X.map (·.1)) []=ng n ops ρ (l.take k) [] [] Z (X.map (·.2))) (hw:Wa n ops (l.drop k) K (mR Z [] X) ρ):Wa n ops l K Z ρ:=iW k [] [] X aY h hw
theorem bU {n:Nat} {ops:Array Oper} {l:List Oper} {K:Ua} {Z:Xa} {ρ:List Qa} (k:Nat) (D:List Nat) (X:List (Nat×PV)) (h:oM n ops ρ (l.take k) [] [] Z (X.map (·.1)) D=ng n ops ρ (l.take k) [] [] Z (X.map (·.2))) (hw:Wa n ops (l.drop k) K (mR Z D X) ρ):Wa n ops l K Z ρ:=iW k [] D X aY h hw
theorem aj {n:Nat} {ops:Array Oper} {o:Oper} {rest:List Oper} {K:Ua} {Z:Xa} {ρ:List Qa} {d:Nat} (hg:(o.guard,o.dst,Nat.blt d n)=(none,some d,true)) (h:Qb o Z ρ fun p ρ'=>Wa n ops rest K (ig Z d p) ρ'):Wa n ops (o::rest) K Z ρ:=p5 (Prod.mk.inj hg).1 (Prod.mk.inj (Prod.mk.inj hg).2).1 (Prod.mk.inj (Prod.mk.inj hg).2).2 h
theorem zz {α:Type} {t:Nat} {enc:α->PV} {Z:Xa} {ρ:List Qa} {v:α} (r:α) (h:some v=some r) (e:Z t=enc v):jN [.tmp t] (fun pv ρ'=>pv=enc r/\ρ'=[]) .ret Z ρ:=by cases h;exact aH (dZ (az e)) bq ⟨rfl,rfl⟩
theorem br {x y1:Code} {K1:Exit->Ua} {ρ1:List Qa} {n1:Nat} {σ1:Xa} (h1:Ka n1 x (dU n1 y1 K1) σ1 ρ1):dU n1 (.seq x y1) K1 .normal σ1 ρ1:=aD (ag h1)
theorem cK {K1:Exit->Ua} {ρ1:List Qa} {n1:Nat} {σ1:Xa} (h1:K1 .ret σ1 ρ1):dU n1 .ret K1 .normal σ1 ρ1:=aD (bi h1)
theorem bM {y1 x1 y:Code} {K1:Exit->Ua} {ρ:List Qa} {n:Nat} {Z:Xa} (h:Ka n x1 (dU n y (dU n y1 K1)) Z ρ):dU n (.seq (.seq x1 y) y1) K1 .normal Z ρ:=br (ag h)
theorem fi {p:Bool} {x y1:Code} {K1:Exit->Ua} {ρ1:List Qa} {n1:Nat} {c:Operand} {σ1:Xa} {α:Type} {a b r:α} (hc:bt σ1 c=.v (.bool p)) (h1:cond p a b=r) (ht:p=true->a=r->Ka n1 x K1 σ1 ρ1) (hf:p=false->b=r->Ka n1 y1 K1 σ1 ρ1):dU n1 (.cond c x y1) K1 .normal σ1 ρ1:=aD (fh hc h1 ht hf)
theorem cP {x y1:Code} {K1:Exit->Ua} {ρ1:List Qa} {n1:Nat} {σ1:Xa} {α β:Type} {x1:Option α} {f:α->Option β} {r:β} (h:x1.bind f=some r) (k:∀ a,x1=some a->f a=some r->(Ka n1 x (dU n1 y1 K1) σ1 ρ1)):dU n1 (.seq x y1) K1 .normal σ1 ρ1:=br (ae h k)
theorem dk {x y:Code} {fn:Func} {ρ:List Qa} {pargs:List PV} {rs:List ResultVar} {f n1:Nat} {R:PV->List Qa->Prop} (hf:Tryz.prog.funcs[f]?=some fn) (hb:fn.body=some (.seq x y)) (hn:fn.ntmps=n1) (hres:fn.results=rs.toArray) (hsz:Nat.ble pargs.length n1=true) (h1:Ka n1 x (dU n1 y (jN rs R)) (Bk pargs) ρ):La f pargs ρ R:=gC hf hb hn hres hsz (ag h1)
theorem ey {y:Code} {K:Exit->Ua} {ρ:List Qa} {n:Nat} {Z:Xa} {α β:Type} {x:Option α} {f:α->Option β} {r:β} (h1:x.bind f=some r) (k:∀ a,x=some a->f a=some r->(Ka n y K Z ρ)):dU n y K .normal Z ρ:=aD (ae h1 k)
theorem sO {y:Code} {K:Exit->Ua} {ρ:List Qa} {n1 n:Nat} {Z:Xa} (h:K .ret Z ρ):dU n1 .ret (dU n y K) .normal Z ρ:=cK (bc h)
theorem rx {x1 y:Code} {K:Exit->Ua} {ρ1:List Qa} {id n1:Nat} {σ1:Xa} (h1:Ka n1 x1 (dU n1 y (dM id K)) σ1 ρ1):Ka n1 (.block id (.seq x1 y)) K σ1 ρ1:=aG (ag h1)
theorem fC {K:Exit->Ua} {l1:List Oper} {ρ1:List Qa} {id n1:Nat} {σ1:Xa} (k:Nat) (X:List (Nat×PV)) (h1:oM n1 l1.toArray ρ1 (l1.take k) [] [] σ1 (X.map (·.1)) []=ng n1 l1.toArray ρ1 (l1.take k) [] [] σ1 (X.map (·.2))) (hw:Wa n1 l1.toArray (l1.drop k) (K .normal) (mR σ1 [] X) ρ1):Ka n1 (.region id l1.toArray false) K σ1 ρ1:=ak (ba k X h1 hw)
theorem dV {y x1 y1:Code} {K:Exit->Ua} {ρ1:List Qa} {n1:Nat} {σ1:Xa} (h1:Ka n1 x1 (dU n1 y1 (dU n1 y K)) σ1 ρ1):Ka n1 (.seq (.seq x1 y1) y) K σ1 ρ1:=ag (ag h1)
theorem eH {y:Code} {K1:Exit->Ua} {ρ1:List Qa} {id n:Nat} {σ1:Xa} (h1:Ka n y K1 σ1 ρ1):dM id (dU n y K1) .normal σ1 ρ1:=aF (aD h1)
theorem cJ {y:Code} {K1:Exit->Ua} {ρ1:List Qa} {n id1:Nat} {σ1:Xa} {Y S T:Type} {o:S⊕T} {t t':T} {L:Y->S->List (Nat×PV)} {R:Y->S->List Qa} (h1:some (Sum.inr t')=some o) (hk:t'=t->K1 (.exit id1) σ1 ρ1):dU n y (ip L R t o K1) (.exit id1) σ1 ρ1:=cj (mz h1 hk)
theorem cL {K:Exit->Ua} {rest:List Oper} {ρ1:List Qa} {id n1 d:Nat} {o:Oper} {σ1:Xa} (hg:(o.guard,o.dst,Nat.blt d n1)=(none,some d,true)) (h1:Qb o σ1 ρ1 fun p ρ'=>Wa n1 (o::rest).toArray rest (K .normal) (ig σ1 d p) ρ'):Ka n1 (.region id (o::rest).toArray false) K σ1 ρ1:=ak (aj hg h1)
theorem cH {y:Code} {K:Exit->Ua} {l:List Oper} {ρ1:List Qa} {n1 id:Nat} {σ1:Xa} (X:List (Nat×PV)) (h1:oM n1 l.toArray ρ1 l [] [] σ1 (X.map (·.1)) []=ng n1 l.toArray ρ1 l [] [] σ1 (X.map (·.2))) (hw:(dU n1 y K) .normal (mR σ1 [] X) ρ1):Ka n1 (.seq (.region id l.toArray false) y) K σ1 ρ1:=ag (aA X h1 hw)
theorem bF {p:Bool} {x y1:Code} {K1:Exit->Ua} {l:List Oper} {ρ1:List Qa} {n id n1:Nat} {c:Operand} {Z:Xa} {α:Type} {a b r:α} (D:List Nat) (X:List (Nat×PV)) (h:oM n l.toArray ρ1 l [] [] Z (X.map (·.1)) D=ng n l.toArray ρ1 l [] [] Z (X.map (·.2))) (hc:bt (mR Z D X) c=.v (.bool p)) (h1:cond p a b=r) (ht:p=true->a=r->Ka n1 x K1 (mR Z D X) ρ1) (hf:p=false->b=r->Ka n1 y1 K1 (mR Z D X) ρ1):Ka n (.region id l.toArray false) (dU n1 (.cond c x y1) K1) Z ρ1:=ah D X h (fi hc h1 ht hf)
theorem de {y:Code} {K:Exit->Ua} {l:List Oper} {ρ1:List Qa} {n id n1 n2:Nat} {Z:Xa} (X:List (Nat×PV)) (h:oM n l.toArray ρ1 l [] [] Z (X.map (·.1)) []=ng n l.toArray ρ1 l [] [] Z (X.map (·.2))) (h1:K .ret (mR Z [] X) ρ1):Ka n (.region id l.toArray false) (dU n1 .ret (dU n2 y K)) Z ρ1:=aA X h (sO h1)
theorem eT {y1 x1 y:Code} {K1:Exit->Ua} {ρ11:List Qa} {id n11:Nat} {σ11:Xa} (h11:Ka n11 x1 (dU n11 y (dM id (dU n11 y1 K1))) σ11 ρ11):dU n11 (.seq (.block id (.seq x1 y)) y1) K1 .normal σ11 ρ11:=br (rx h11)
theorem iq {y:Code} {K1:Exit->Ua} {ρ1:List Qa} {id n:Nat} {σ1:Xa} (h1:K1 .ret σ1 ρ1):dM id (dU n y K1) .ret σ1 ρ1:=aO (bc h1)
theorem cS {K:Exit->Ua} {F:List (Nat×Jd)} {l1:List Oper} {ρ1:List Qa} {id n1:Nat} {σ1:Xa} (k:Nat) (H:List Nat) (D:List Nat) (X:List (Nat×PV)) (hF:Lb F) (h1:oM n1 l1.toArray ρ1 (l1.take k) H F σ1 (X.map (·.1)) D=ng n1 l1.toArray ρ1 (l1.take k) H F σ1 (X.map (·.2))) (hw:Wa n1 l1.toArray (l1.drop k) (K .normal) (mR σ1 D X) ρ1):Ka n1 (.region id l1.toArray false) K σ1 ρ1:=ak (iW k H D X hF h1 hw)
def mC (p0:(List Int)) (p1:Int):Option (List Int):=cond (decide (p1<(p0.length:Int))) ((sub p0 0 p1).bind fun l2=>some l2) (some p0)
theorem ph {p0:(List Int)} {p1:Int} {r:(List Int)}  (h:mC p0 p1=some r):PF 21 [pL eI p0,pI p1] (pL eI r):=by
 unfold mC at h
 refine aV ?_
 refine dk Tryz.func21 rfl Tryz.ntmps21 Tryz.results21 rfl (aQ [4] (by kernel_rfl) (bM (bF [5,6,7] [(8,pB (decide (p1<(p0.length:Int))))] (by kernel_rfl) rfl h (fun hc1 h=>?_) fun hc1 h=>?_)))
 ·refine ag ?_
  refine ae h fun l2 hl2 h=>ai [] [9,10,11] [(4,pL eI l2)] (Bz 2 eI 1 (fun _=>rfl) hl2 aY) (by kernel_rfl) (sO ?_)
  exact zz r h rfl
 refine af ?_
 refine br (ah [12] [(4,pL eI p0)] (by kernel_rfl) (cK ?_))
 exact zz r h rfl
def ku (p0:Int) (p1:Int):Option Int:=(nz p1).bind fun u1=>(nz p1).bind fun u2=>lb ((Int.tmod (i64.wrap ((Int.tmod p0 p1)+p1)) p1)) (fun w3=>some w3)
theorem rN {p0:Int} {p1:Int} {r:Int}  (h:ku p0 p1=some r):PF 8 [pI p0,pI p1] (pI r):=by
 unfold ku at h
 refine aV ?_
 refine dk Tryz.func8 rfl Tryz.ntmps8 Tryz.results8 rfl (aQ [4] (by kernel_rfl) (cP h fun u1 hu1 h=>ae h fun u2 hu2 h=>?_))
 refine gD h ?_;clear h;intro w3 hw3 h
 refine cS 7 [] (rg 5 6) [(11,pI (Int.tmod (i64.wrap ((Int.tmod p0 p1)+p1)) p1))] (Ah 2 hu1 (Ah 6 hu2 aY)) (by kernel_rfl) (cg rfl rfl rfl (cD rfl (.p (congrArg (fun z=>PV.v (Value.int .i64 z)) hw3))) (au (cK ?_)))
 exact zz r h rfl
def aB (p0:Zg) (p1:Int):Option (Int×Zg):=cond (decide ((p0.L.length:Int)<=p0.I)) (some ((0:Int),p0)) ((bx p0.L (i64.wrap ((i64.wrap (p0.I+1)) - 1))).bind fun m2=>(ku m2 p1).bind fun x3=>some (x3,(⟨p0.L,(i64.wrap (p0.I+1))⟩:Zg)))
theorem ar {p0:Zg} {p1:Int} {b0:Nat} {r:(Int×Zg)}  (h:aB p0 p1=some r):La 22 [pP b0 0,pI p1] [Qa.b b0 66 [pL eI p0.L,pI p0.I]] (fun pv ρ'=>pv=pI r.1/\ρ'=[Qa.b b0 66 [pL eI r.2.L,pI r.2.I]]):=by
 unfold aB at h
 refine dk Tryz.func22 rfl Tryz.ntmps22 Tryz.results22 rfl (aQ [4] (by kernel_rfl) (bM (bE (ρd:=[]) [(0,0),(1,0),(2,0),(3,0),(4,0),(5,0),(6,0),(7,0),(8,0),(9,0)] _ Vh (by kernel_rfl) rfl (BQ 10 [0,0] (rg 5 9) [(14,pB (decide ((p0.L.length:Int)<=p0.I)))] (by kernel_rfl) (bZ (fi rfl h (fun hc1 h=>?_) fun hc1 h=>?_))))))
 ·refine ag ?_
  refine de [(4,pI 0)] (by kernel_rfl) ?_
  obtain rfl:=osi h
  exact aH (dZ (az rfl)) bN ⟨rfl,rfl⟩
 refine af ?_
 refine br (ak (bH 7 [0] [15,16,17,18,20] [(19,pI (i64.wrap (p0.I+1))),(21,pP b0 1)] (by kernel_rfl) (aM rfl rfl (al (vs:=[pI (i64.wrap (p0.I+1))]) rfl rfl rfl rfl rfl bT (bV ii) (au (br (bE (ρd:=[]) [(0,0),(1,0),(2,0),(3,0),(4,0),(5,0),(6,0),(7,0),(8,0),(9,0),(10,0),(11,0),(12,1),(13,0)] _ Vh (by kernel_rfl) rfl (ae h fun m2 hm2 h=>ae h fun x3 hx3 h=>ca 14 [0,0] (rg 22 13) [(4,pI x3)] (bX 9 eI hm2 (aU 12 (rN hx3) aY)) (by kernel_rfl) (bZ (cK ?_))))))))))
 obtain rfl:=osi h
 exact aH (dZ (az rfl)) bN ⟨rfl,rfl⟩
def lD  : Option (List Xh):=some [(⟨#[99,104,97,105,114]⟩:Xh),(⟨#[100,101,115,107]⟩:Xh),(⟨#[103,108,97,115,115]⟩:Xh),(⟨#[108,97,109,112]⟩:Xh),(⟨#[111,102,102,105,99,101]⟩:Xh),(⟨#[112,97,114,116,115]⟩:Xh),(⟨#[115,101,97,116]⟩:Xh),(⟨#[115,116,101,101,108]⟩:Xh),(⟨#[119,111,111,100]⟩:Xh)]
theorem tB  {r:(List Xh)}  (h:lD  = some r):PF 58 [] (pL eS r):=by
 unfold lD at h
 refine aV ?_
 refine dk Tryz.func58 rfl Tryz.ntmps58 Tryz.results58 rfl (aQ [0] (by kernel_rfl) (br (cL rfl (bp rfl rfl rfl rfl rfl (eE rfl (eE rfl (eE rfl (eE rfl (eE rfl (eE rfl (eE rfl (eE rfl (eE rfl jy))))))))) rfl rfl rfl rfl (fun b1=>aE [(0,pO (some ⟨b1,0,none⟩) 9 9)] (by kernel_rfl) (aD ?_))))))
 refine fj (enc:=eS) (xs:=[(⟨#[99,104,97,105,114]⟩:Xh),(⟨#[100,101,115,107]⟩:Xh),(⟨#[103,108,97,115,115]⟩:Xh),(⟨#[108,97,109,112]⟩:Xh),(⟨#[111,102,102,105,99,101]⟩:Xh),(⟨#[112,97,114,116,115]⟩:Xh),(⟨#[115,101,97,116]⟩:Xh),(⟨#[115,116,101,101,108]⟩:Xh),(⟨#[119,111,111,100]⟩:Xh)]) 0 rfl (by exact aN) ?_
 refine bi ?_
 exact zz r h rfl
def dW (p0:Zg) (p1:Int):Option ((List Xh)×Zg):=(lD).bind fun x1=>(aB p0 512).bind fun x2=>(aW (S:=(List Xh)×Int) (T:=((List Xh))) (fun (l4,v7)=>cond ((decide (v7<(x1.length:Int)))&&(decide (((l4.length:Nat):Int)<p1))) (((sN v7).bind fun u21=>cond ((ji .i64 (ex .i64 x2.1 v7) 1) == 1) ((bx x1 v7).bind fun m23=>(app 16 l4 [m23]).bind fun l26=>some l26) (some l4)).bind fun l19=>some (.inl (l19,(i64.wrap (v7+1))))) (some (.inr l4))) Va (([]:List Xh),0)).bind fun l11=>Option.bind (cond (((l11.length:Nat):Int) == 0) ((nz (x1.length:Int)).bind fun u36=>(bx x1 (Int.tmod x2.1 (x1.length:Int))).bind fun m37=>some [m37]) (some l11)) (fun l33=>some (l33,x2.2))
theorem ef {p0:Zg} {p1:Int} {b0:Nat} {r:((List Xh)×Zg)}  (h:dW p0 p1=some r):La 23 [pP b0 0,pI p1] [Qa.b b0 66 [pL eI p0.L,pI p0.I]] (fun pv ρ'=>pv=pL eS r.1/\ρ'=[Qa.b b0 66 [pL eI r.2.L,pI r.2.I]]):=by
 unfold dW at h
 refine dk Tryz.func23 rfl Tryz.ntmps23 Tryz.results23 rfl (aQ [4] (by kernel_rfl) (cP h fun x1 hx1 h=>ai [] [9] [(5,pL eS x1)] (aU 0 (tB hx1) aY) (by kernel_rfl) (br (aA [(6,pN)] (by kernel_rfl) (cP h fun x2 hx2 h=>fC 1 [(10,pP b0 0)] (by kernel_rfl) ?_)))))
 refine aj rfl (aI rfl rfl (ρ1:=[_]) (aq (by exact aN) Vh) (ar hx2) ?_);rintro _ _ ⟨rfl,rfl⟩
 refine aE [(7,pI x2.1)] (by kernel_rfl) (bM (aA [(8,pI 0)] (by kernel_rfl) (aD (bC 9 1 (ae h fun q13 hq13 h=>?_)))))
 refine ap (Y:=(Option Addr×Nat)×((List Xh))) (fun ((a9,c10),l11)=>[(5,pL eS x1),(6,pO a9 l11.length c10),(7,pI x2.1)]) (fun ((a9,c10),l11)=>[Qa.b b0 66 [pL eI x2.2.L,pI x2.2.I],Qa.row a9 l11.length c10 9 1 (List.map eS l11)]) (fun ((a9,c10),l11)=>q13=l11) ?_ ?_
 ·refine aG ?_
  refine aJ (Y:=Option Addr×Nat) (S:=(List Xh)×Int) _ hq13 (fun (a5,c6) (l4,v7)=>[(1,pI p1),(5,pL eS x1),(6,pO a5 l4.length c6),(7,pI x2.1),(8,pI v7)]) (fun (a5,c6) (l4,v7)=>[Qa.b b0 66 [pL eI x2.2.L,pI x2.2.I],Qa.row a5 l4.length c6 9 1 (List.map eS l4)]) (none,0) (gA rfl) (bg (aC aN) bN) ?_
  rintro ⟨a5,c6⟩ ⟨l4,v7⟩ o τ hb12;(try dsimp only at hb12);dsimp only [aw]
  refine dV (bF (rg 12 9) [(21,pB ((decide (v7<(x1.length:Int)))&&(decide (((l4.length:Nat):Int)<p1))))] (by kernel_rfl) rfl hb12 (fun hc15 hb12=>?_) fun hc15 hb12=>?_)
  ·refine af ?_
   refine cP hb12 fun q20 hq20 hb12=>?_
   refine ap (Y:=(Option Addr×Nat)×((List Xh))) (fun ((a17,c18),l19)=>[(1,pI p1),(5,pL eS x1),(6,pO a17 l19.length c18),(7,pI x2.1),(8,pI v7)]) (fun ((a17,c18),l19)=>[Qa.b b0 66 [pL eI x2.2.L,pI x2.2.I],Qa.row a17 l19.length c18 9 1 (List.map eS l19)]) (fun ((a17,c18),l19)=>q20=l19) ?_ ?_
   ·skip
    refine rx (ae hq20 fun u21 hu21 hq20=>ai [] [24,25,26,27] [(28,pB ((ji .i64 (ex .i64 x2.1 v7) 1) == 1))] (CV 2 hu21 aY) (by kernel_rfl) (fi rfl hq20 (fun hc22 hq20=>?_) fun hc22 hq20=>?_))
    ·refine ae hq20 ?_;clear hq20;intro m23 hm23 hq20
     refine cS 5 [] [30,31,32] [(29,pO a5 l4.length c6),(33,pS m23)] (bX 3 eS hm23 aY) (by kernel_rfl) (aj rfl (bp rfl rfl rfl rfl rfl (eE rfl jy) rfl rfl rfl rfl (fun b24=>ae hq20 fun l26 hl26 hq20=>?_)))
     refine aj rfl (bw (enc:=eS) rfl rfl rfl rfl rfl rfl rfl rfl rfl eG (by exact aC (aC aN)) hl26 (fun a27 c28=>?_))
     refine aE [(6,pO a27 l26.length c28)] (by kernel_rfl) (aF ?_)
     obtain rfl:=osi hq20
     exact am ((a27,c28),l26) (gA rfl) (bg (aC (aC aN)) bN) rfl
    refine af ?_
    refine aF ?_
    obtain rfl:=osi hq20
    exact am ((a5,c6),l4) (gA rfl) tc rfl
   rintro ⟨⟨a17,c18⟩,l19⟩ τ hz;(try dsimp only at hz);subst q20;(try dsimp only at hb12);dsimp only [aw]
   refine ah [22,23] [(8,pI (i64.wrap (v7+1)))] (by kernel_rfl) ?_
   exact aT hb12 (a17,c18) (gA rfl) tc
  refine aL ?_
  refine cJ hb12 (fun ht=>an rfl ?_)
  exact am ((a5,c6),l4) (nt rfl) tc ht.symm
 rintro ⟨⟨a9,c10⟩,l11⟩ τ hz;(try dsimp only at hz);subst q13;(try dsimp only at h);dsimp only [aw]
 refine dV (ah [36,37] [(38,pB (((l11.length:Nat):Int) == 0))] (by kernel_rfl) (ey h fun q34 hq34 h=>?_))
 refine ap (Y:=(Option Addr×Nat)×((List Xh))) (fun ((a31,c32),l33)=>[(6,pO a31 l33.length c32)]) (fun ((a31,c32),l33)=>[Qa.b b0 66 [pL eI x2.2.L,pI x2.2.I],Qa.row a31 l33.length c32 9 1 (List.map eS l33)]) (fun ((a31,c32),l33)=>q34=l33) ?_ ?_
 ·skip
  refine fh rfl hq34 (fun hc35 hq34=>?_) fun hc35 hq34=>?_
  ·refine ae hq34 ?_;clear hq34;intro u36 hu36 hq34
   refine ae hq34 fun m37 hm37 hq34=>cS 7 [] (rg 39 6) [(45,pS m37)] (Ah 4 hu36 (bX 5 eS hm37 aY)) (by kernel_rfl) (aj rfl (bp rfl rfl rfl rfl rfl (eE rfl jy) rfl rfl rfl rfl (fun b38=>aE [(6,pO (some ⟨b38,0,none⟩) 1 1)] (by kernel_rfl) ?_)))
   obtain rfl:=osi hq34
   exact am (((some ⟨b38,0,none⟩),1),[m37]) (oC rfl) (bg (aC aN) bN) rfl
  refine af ?_
  obtain rfl:=osi hq34
  exact am ((a9,c10),l11) (oC rfl) tc rfl
 rintro ⟨⟨a31,c32⟩,l33⟩ τ hz;(try dsimp only at hz);subst q34;(try dsimp only at h);dsimp only [aw]
 refine ag (ah [47] [(4,pO a31 l33.length c32)] (by kernel_rfl) (aD ?_))
 refine fj (enc:=eS) (xs:=l33) 4 rfl (by exact aC aN) ?_
 refine bi ?_
 obtain rfl:=osi h
 exact aH (dZ (az rfl)) (bg (aC aN) bq) ⟨rfl,rfl⟩
def gE (p0:Zg):Option ((List (List Xh))×Zg):=(dW p0 2).bind fun x1=>(aB x1.2 3).bind fun x4=>Option.bind (cond (x4.1 == 1) ((dW x4.2 3).bind fun x13=>(app 24 [x1.1] [x13.1]).bind fun l16=>some (l16,x13.2.L,x13.2.I)) (some ([x1.1],x4.2.L,x4.2.I))) (fun (l8,l9,v10)=>some (l8,(⟨l9,v10⟩:Zg)))
theorem nE {p0:Zg} {b0:Nat} {r:((List (List Xh))×Zg)}  (h:gE p0=some r):La 59 [pP b0 0] [Qa.b b0 66 [pL eI p0.L,pI p0.I]] (fun pv ρ'=>pv=pL (eL eS) r.1/\ρ'=[Qa.b b0 66 [pL eI r.2.L,pI r.2.I]]):=by
 unfold gE at h
 refine dk Tryz.func59 rfl Tryz.ntmps59 Tryz.results59 rfl (aQ [2] (by kernel_rfl) (cP h fun x1 hx1 h=>fC 1 [(4,pP b0 0)] (by kernel_rfl) ?_))
 refine aj rfl (aI rfl rfl (ρ1:=[_]) (aq (by exact aN) Vh) (ef hx1) ?_);rintro _ _ ⟨rfl,rfl⟩
 refine aj rfl (bp rfl rfl rfl rfl rfl (eE rfl jy) rfl rfl rfl rfl (fun b2=>aE [(3,pO (some ⟨b2,0,none⟩) 1 1)] (by kernel_rfl) (bM (ae h fun x4 hx4 h=>fC 1 [(7,pP b0 0)] (by kernel_rfl) ?_))))
 refine aj rfl (aI rfl rfl (ρ1:=[_]) (aq (by exact aC aN) Vh) (ar hx4) ?_);rintro _ _ ⟨rfl,rfl⟩
 refine aE [(9,pB (x4.1 == 1))] (by kernel_rfl) (ey h fun q11 hq11 h=>?_)
 refine ap (Y:=(Option Addr×Nat)×((List (List Xh))×(List Int)×Int)) (fun ((a6,c7),(l8,l9,v10))=>[(3,pO a6 l8.length c7)]) (fun ((a6,c7),(l8,l9,v10))=>[Qa.b b0 66 [pL eI l9,pI v10],Qa.row a6 l8.length c7 28 1 (List.map (eL eS) l8)]) (fun ((a6,c7),(l8,l9,v10))=>q11=(l8,l9,v10)) ?_ ?_
 ·skip
  refine fh rfl hq11 (fun hc12 hq11=>?_) fun hc12 hq11=>?_
  ·refine ae hq11 ?_;clear hq11;intro x13 hx13 hq11
   refine fC 2 [(10,pO (some ⟨b2,0,none⟩) 1 1),(11,pP b0 0)] (by kernel_rfl) ?_
   refine aj rfl (aI rfl rfl (ρ1:=[_]) (aq (by exact aN) Vh) (ef hx13) ?_);rintro _ _ ⟨rfl,rfl⟩
   refine aj rfl (bp rfl rfl rfl rfl rfl (eE rfl jy) rfl rfl rfl rfl (fun b14=>ae hq11 fun l16 hl16 hq11=>?_))
   refine aj rfl (bw (enc:=(eL eS)) rfl rfl rfl rfl rfl rfl rfl rfl rfl eG (by exact aC (aC aN)) hl16 (fun a17 c18=>?_))
   refine aE [(3,pO a17 l16.length c18)] (by kernel_rfl) ?_
   obtain rfl:=osi hq11
   exact am ((a17,c18),(l16,x13.2.L,x13.2.I)) (oC rfl) (bg (aC (aC aN)) bN) rfl
  refine af ?_
  obtain rfl:=osi hq11
  exact am (((some ⟨b2,0,none⟩),1),([x1.1],x4.2.L,x4.2.I)) (oC rfl) tc rfl
 rintro ⟨⟨a6,c7⟩,⟨l8,l9,v10⟩⟩ τ hz;(try dsimp only at hz);subst q11;(try dsimp only at h);dsimp only [aw]
 refine ag (ah [15] [(2,pO a6 l8.length c7)] (by kernel_rfl) (aD ?_))
 refine fj (enc:=(eL eS)) (xs:=l8) 2 rfl (by exact aC aN) ?_
 refine bi ?_
 obtain rfl:=osi h
 exact aH (dZ (az rfl)) (bg (aC aN) bq) ⟨rfl,rfl⟩
def gS (rec:Zg->Xh->Int->Option ((List Za)×Zg)) (p0:Zg) (p1:Xh) (p2:Int):Option ((List Za)×Zg):=Option.bind (cond (decide (2<(p1.size:Int))) ((gE p0).bind fun x7=>some (x7.2.L,x7.2.I,x7.1)) (some (p0.L,p0.I,[]))) (fun (l2,v3,l4)=>(gdp (decide (4<(p1.size:Int))) (aB (⟨l2,v3⟩:Zg) 3) (⟨l2,v3⟩:Zg)).bind fun x8=>Option.bind (cond ((decide (4<(p1.size:Int)))&&(x8.1 == 1)) (some ([],true)) (some (l4,false))) (fun (l9,v10)=>Option.bind (cond ((decide (2<(p1.size:Int)))&&(decide (12<p2))) ((aB x8.2 6).bind fun x23=>cond (x23.1 == 1) ((gE x23.2).bind fun x26=>(app 64 ([]:List Za) [(⟨p1,0,10,x26.1,false⟩:Za)]).bind fun l30=>some (l30,x26.2.L,x26.2.I,10,p2)) (cond (x23.1 == 2) (some (([]:(List Za)),x23.2.L,x23.2.I,0,12)) (some (([]:(List Za)),x23.2.L,x23.2.I,0,p2)))) (some (([]:(List Za)),x8.2.L,x8.2.I,0,p2))) (fun (l16,l17,v18,v19,v20)=>(app 64 l16 [(⟨p1,v19,v20,l9,v10⟩:Za)]).bind fun l37=>cond ((p1.size:Int) == 8) (some (l37,(⟨l17,v18⟩:Zg))) ((aB (⟨l17,v18⟩:Zg) 4).bind fun x42=>(aW (S:=(List Za)×Int×(List Int)×Int) (T:=((List Za)×(List Int)×Int)) (fun (l44,v47,l48,v49)=>cond (decide (v47<=x42.1)) ((lC p1 (⟨#[48]⟩:Xh)).bind fun s59=>(lC s59 (strOfNums [(u8.wrap (i64.wrap (48+v47)))])).bind fun s62=>(rec (⟨l48,v49⟩:Zg) s62 v20).bind fun x63=>(app 64 l44 x63.1).bind fun l67=>some (.inl (l67,(i64.wrap (v47+1)),x63.2.L,x63.2.I))) (some (.inr (l44,l48,v49)))) Va (l37,1,x42.2.L,x42.2.I)).bind fun (l53,l54,v55)=>some (l53,(⟨l54,v55⟩:Zg))))))
theorem qG {rec:Zg->Xh->Int->Option ((List Za)×Zg)} (hrec:∀ {p0:Zg} {p1:Xh} {p2:Int} {b0:Nat} {r:((List Za)×Zg)},rec p0 p1 p2=some r->La 24 [pP b0 0,pS p1,pI p2] [Qa.b b0 66 [pL eI p0.L,pI p0.I]] (fun pv ρ'=>∃ a c,pv=.v (.slice a r.1.length c)/\ρ'=[Qa.row a r.1.length c 95 5 (List.map Za.enc r.1),Qa.b b0 66 [pL eI r.2.L,pI r.2.I]])) {p0:Zg} {p1:Xh} {p2:Int} {b0:Nat} {r:((List Za)×Zg)} (h:gS rec p0 p1 p2=some r):La 24 [pP b0 0,pS p1,pI p2] [Qa.b b0 66 [pL eI p0.L,pI p0.I]] (fun pv ρ'=>∃ a c,pv=.v (.slice a r.1.length c)/\ρ'=[Qa.row a r.1.length c 95 5 (List.map Za.enc r.1),Qa.b b0 66 [pL eI r.2.L,pI r.2.I]]):=by
 unfold gS at h
 refine dk Tryz.func24 rfl Tryz.ntmps24 Tryz.results24 rfl (aQ [6] (by kernel_rfl) (br (ak (bU 3 [12,13] [(14,.agg [pS p1,pI 0,pI p2,pN,pB false])] (by kernel_rfl) (aj rfl (aP (cs:=[pS Uh,pI 0,pI 0,pN,pB false]) rfl rfl rfl rfl (fun b1=>aM rfl rfl (al (vs:=[pS p1,pI 0,pI p2,pN,pB false]) rfl rfl rfl rfl rfl bT td (au (br (aA [(8,pN)] (by kernel_rfl) (bM (ah [15,16] [(17,pB (decide (2<(p1.size:Int))))] (by kernel_rfl) (ey h fun q5 hq5 h=>?_))))))))))))))
 refine ap (Y:=Unit×((List Int)×Int×(List (List Xh)))) (fun (_,(l2,v3,l4))=>[(0,pP b0 0),(1,pS p1),(2,pI p2),(7,pP b1 0),(8,pN)]) (fun (_,(l2,v3,l4))=>[Qa.b b0 66 [pL eI l2,pI v3],Qa.b b1 95 [pS p1,pI 0,pI p2,pL (eL eS) l4,pB false]]) (fun (_,(l2,v3,l4))=>q5=(l2,v3,l4)) ?_ ?_
 ·skip
  refine fh rfl hq5 (fun hc6 hq5=>?_) fun hc6 hq5=>?_
  ·refine ae hq5 ?_;clear hq5;intro x7 hx7 hq5
   refine fC 1 [(18,pP b0 0)] (by kernel_rfl) ?_
   refine aj rfl (aI rfl rfl (ρ1:=[_]) (aq (by exact aC aN) Vh) (nE hx7) ?_);rintro _ _ ⟨rfl,rfl⟩
   refine ba 1 [(20,pP b1 3)] (by kernel_rfl) (aM rfl rfl (al (vs:=[pL (eL eS) x7.1]) rfl rfl rfl rfl rfl (cE bT) (bV (bV (bV ii))) (au ?_)))
   obtain rfl:=osi hq5
   exact am ((),(x7.2.L,x7.2.I,x7.1)) (gA rfl) tc rfl
  refine af ?_
  refine gc (xn (k:=3) (b:=b1) rfl bT) ?_
  obtain rfl:=osi hq5
  exact am ((),(p0.L,p0.I,[])) (gA rfl) (bg (aC aN) bN) rfl
 rintro ⟨_,⟨l2,v3,l4⟩⟩ τ hz;(try dsimp only at hz);subst q5;(try dsimp only at h);dsimp only [aw]
 refine dV (ae h fun x8 hx8 h=>ak (bU 5 [21,22,23] [(24,pB (decide (4<(p1.size:Int)))),(25,pgv (decide (4<(p1.size:Int))) (pP b0 0))] (by kernel_rfl) ?_))
 refine C7 (gP rfl rfl rfl) rfl rfl rfl (by exact aN) (fg (.g rfl) (fg (.p rfl) nc)) (fun hc=>ar (gdp_t hx8 hc)) (fun hc=>by rw [gdp_f hx8 hc]) ?_
 refine tq (gP rfl rfl rfl) rfl rfl (xh rfl (.g rfl) (.p rfl) rfl) (cg rfl rfl rfl (xg rfl (.p rfl) (.p rfl) (.g rfl)) (au (ey h fun q11 hq11 h=>?_)))
 refine ap (Y:=Unit×((List (List Xh))×Bool)) (fun (_,(l9,v10))=>[(0,pP b0 0),(1,pS p1),(2,pI p2),(7,pP b1 0),(8,pN)]) (fun (_,(l9,v10))=>[Qa.b b0 66 [pL eI x8.2.L,pI x8.2.I],Qa.b b1 95 [pS p1,pI 0,pI p2,pL (eL eS) l9,pB v10]]) (fun (_,(l9,v10))=>q11=(l9,v10)) ?_ ?_
 ·skip
  refine fh rfl hq11 (fun hc12 hq11=>?_) fun hc12 hq11=>?_
  ·refine ak ?_
   refine ba 1 [(29,pP b1 3)] (by kernel_rfl) (aM rfl rfl (al (vs:=[pN]) rfl rfl rfl rfl rfl (cE bT) (bV (bV (bV ii))) (ba 1 [(30,pP b1 4)] (by kernel_rfl) (aM rfl rfl (al (vs:=[pB true]) rfl rfl rfl rfl rfl (cE bT) (bV (bV (bV (bV ii)))) (au (gc (xn (k:=3) (b:=b1) rfl (cE bT)) ?_)))))))
   obtain rfl:=osi hq11
   exact am ((),([],true)) (gA rfl) tc rfl
  refine af ?_
  obtain rfl:=osi hq11
  exact am ((),(l4,false)) (gA rfl) tc rfl
 rintro ⟨_,⟨l9,v10⟩⟩ τ hz;(try dsimp only at hz);subst q11;(try dsimp only at h);dsimp only [aw]
 refine dV (ah (rg 31 6) [(37,pB ((decide (2<(p1.size:Int)))&&(decide (12<p2))))] (by kernel_rfl) (ey h fun q21 hq21 h=>?_))
 refine ap (Y:=(Option Addr×Nat)×((List Za)×(List Int)×Int×Int×Int)) (fun ((a14,c15),(l16,l17,v18,v19,v20))=>[(0,pP b0 0),(1,pS p1),(7,pP b1 0),(8,pO a14 l16.length c15)]) (fun ((a14,c15),(l16,l17,v18,v19,v20))=>[Qa.b b0 66 [pL eI l17,pI v18],Qa.b b1 95 [pS p1,pI v19,pI v20,pL (eL eS) l9,pB v10],Qa.row a14 l16.length c15 95 5 (List.map Za.enc l16)]) (fun ((a14,c15),(l16,l17,v18,v19,v20))=>q21=(l16,l17,v18,v19,v20)) ?_ ?_
 ·skip
  refine fh rfl hq21 (fun hc22 hq21=>?_) fun hc22 hq21=>?_
  ·refine ag ?_
   refine ae hq21 fun x23 hx23 hq21=>fC 1 [(38,pP b0 0)] (by kernel_rfl) ?_
   refine aj rfl (aI rfl rfl (ρ1:=[_]) (aq (by exact aN) Vh) (ar hx23) ?_);rintro _ _ ⟨rfl,rfl⟩
   refine au (aD (rx (bF [41] [(40,pB (x23.1 == 1))] (by kernel_rfl) rfl hq21 (fun hc24 hq21=>?_) fun hc24 hq21=>?_)))
   ·refine ag ?_
    refine ak (dE 1 [1] [(42,.agg [pS p1,pI 0,pI p2,pL (eL eS) l9,pB v10])] (by kernel_rfl) (aj rfl (aP (cs:=[pS Uh,pI 0,pI 0,pN,pB false]) rfl rfl rfl rfl (fun b25=>aM rfl rfl (al (vs:=[pS p1,pI 0,pI p2,pL (eL eS) l9,pB v10]) rfl rfl rfl rfl rfl bT td (au (br (fC 1 [(43,pP b25 2)] (by kernel_rfl) (aM rfl rfl (al (vs:=[pI 10]) rfl rfl rfl rfl rfl bT (bV (bV ii)) (ba 1 [(44,pP b1 1)] (by kernel_rfl) (aM rfl rfl (al (vs:=[pI 10]) rfl rfl rfl rfl rfl (cE (cE bT)) (bV ii) (au (cP hq21 fun x26 hx26 hq21=>fC 1 [(45,pP b0 0)] (by kernel_rfl) ?_)))))))))))))))
    refine aj rfl (aI rfl rfl (ρ1:=[_]) (aq (by exact aC aN) Vh) (nE hx26) ?_);rintro _ _ ⟨rfl,rfl⟩
    refine ba 1 [(47,pP b25 3)] (by kernel_rfl) (aM rfl rfl (al (vs:=[pL (eL eS) x26.1]) rfl rfl rfl rfl rfl (cE bT) (bV (bV (bV ii))) (au (br (fC 1 [(48,pP b25 4)] (by kernel_rfl) (aM rfl rfl (al (vs:=[pB false]) rfl rfl rfl rfl rfl (cE bT) (bV (bV (bV (bV ii)))) (au (aD (ak (dE 2 [1] [(49,pN),(50,.agg [pS p1,pI 0,pI 10,pL (eL eS) x26.1,pB false])] (by kernel_rfl) (aj rfl (bp rfl rfl rfl rfl rfl (eE rfl jy) rfl rfl rfl rfl (fun b27=>oJ 95 5 (ae hq21 fun l30 hl30 hq21=>?_)))))))))))))))
    refine aj rfl (bw (enc:=Za.enc) rfl rfl rfl rfl rfl rfl rfl rfl rfl tz (by exact aN) hl30 (fun a31 c32=>?_))
    refine aE [(8,pO a31 l30.length c32)] (by kernel_rfl) (aF ?_)
    obtain rfl:=osi hq21
    exact am ((a31,c32),(l30,x26.2.L,x26.2.I,10,p2)) (jC rfl) (bg (aC (aC aN)) (bg (aC (aC (aC aN))) bN)) rfl
   refine ag ?_
   refine bF [54] [(53,pB (x23.1 == 2))] (by kernel_rfl) rfl hq21 (fun hc34 hq21=>?_) fun hc34 hq21=>?_
   ·refine ak ?_
    refine ba 1 [(55,pP b1 2)] (by kernel_rfl) (aM rfl rfl (al (vs:=[pI 12]) rfl rfl rfl rfl rfl (cE bT) (bV (bV ii)) (au (aF (gc (kq 95 5) ?_)))))
    obtain rfl:=osi hq21
    exact am ((none,0),(([]:(List Za)),x23.2.L,x23.2.I,0,12)) (jC rfl) (bg (aC aN) (bg (aC aN) bN)) rfl
   refine af ?_
   refine aF (gc (kq 95 5) ?_)
   obtain rfl:=osi hq21
   exact am ((none,0),(([]:(List Za)),x23.2.L,x23.2.I,0,p2)) (jC rfl) (bg (aC aN) (bg (aC aN) bN)) rfl
  refine af ?_
  refine gc (kq 95 5) ?_
  obtain rfl:=osi hq21
  exact am ((none,0),(([]:(List Za)),x8.2.L,x8.2.I,0,p2)) (jC rfl) (bg (aC aN) (bg (aC aN) bN)) rfl
 rintro ⟨⟨a14,c15⟩,⟨l16,l17,v18,v19,v20⟩⟩ τ hz;(try dsimp only at hz);subst q21;(try dsimp only at h);dsimp only [aw]
 refine ag (ak (dE 2 [1] [(56,pO a14 l16.length c15),(57,.agg [pS p1,pI v19,pI v20,pL (eL eS) l9,pB v10])] (by kernel_rfl) (aj rfl (bp rfl rfl rfl rfl rfl (eE rfl jy) rfl rfl rfl rfl (fun b35=>ae h fun l37 hl37 h=>?_)))))
 refine aj rfl (bw (enc:=Za.enc) rfl rfl rfl rfl rfl rfl rfl rfl rfl eG (by exact aC (aC (aC aN))) hl37 (fun a38 c39=>?_))
 refine aE [(8,pO a38 l37.length c39)] (by kernel_rfl) (bM (bF [60,61] [(62,pB ((p1.size:Int) == 8))] (by kernel_rfl) rfl h (fun hc41 h=>?_) fun hc41 h=>?_))
 ·refine ag ?_
  refine ah [63] [(6,pO a38 l37.length c39)] (by kernel_rfl) (sO ?_)
  obtain rfl:=osi h
  exact aH (dZ (az rfl)) (bg aN (bg (aC aN) bq)) ⟨_,_,rfl,rfl⟩
 refine af ?_
 refine bM (ae h fun x42 hx42 h=>fC 1 [(64,pP b0 0)] (by kernel_rfl) ?_)
 refine aj rfl (aI rfl rfl (ρ1:=[_]) (aq (by exact aC (aC aN)) Vh) (ar hx42) ?_);rintro _ _ ⟨rfl,rfl⟩
 refine aE [(10,pI 1),(11,pI x42.1)] (by kernel_rfl) (ey h fun q57 hq57 h=>?_)
 refine ap (Y:=(Option Addr×Nat)×((List Za)×(List Int)×Int)) (fun ((a51,c52),(l53,l54,v55))=>[(8,pO a51 l53.length c52)]) (fun ((a51,c52),(l53,l54,v55))=>[Qa.b b0 66 [pL eI l54,pI v55],Qa.row a51 l53.length c52 95 5 (List.map Za.enc l53)]) (fun ((a51,c52),(l53,l54,v55))=>q57=(l53,l54,v55)) ?_ ?_
 ·refine aG ?_
  refine aJ (Y:=Option Addr×Nat) (S:=(List Za)×Int×(List Int)×Int) _ hq57 (fun (a45,c46) (l44,v47,l48,v49)=>[(0,pP b0 0),(1,pS p1),(7,pP b1 0),(8,pO a45 l44.length c46),(10,pI v47),(11,pI x42.1)]) (fun (a45,c46) (l44,v47,l48,v49)=>[Qa.b b0 66 [pL eI l48,pI v49],Qa.b b1 95 [pS p1,pI v19,pI v20,pL (eL eS) l9,pB v10],Qa.row a45 l44.length c46 95 5 (List.map Za.enc l44)]) (a38,c39) (o3 rfl) (bg aN (bg (aC (aC aN)) bN)) ?_
  rintro ⟨a45,c46⟩ ⟨l44,v47,l48,v49⟩ o τ hb56;(try dsimp only at hb56);dsimp only [aw]
  refine dV (bF [66,67] [(68,pB (decide (v47<=x42.1)))] (by kernel_rfl) rfl hb56 (fun hc58 hb56=>?_) fun hc58 hb56=>?_)
  ·refine af ?_
   refine br (aG (ae hb56 fun s59 hs59 hb56=>cS 7 [] [73,75,76] [(71,pO a45 l44.length c46),(72,pP b0 0),(74,pS s59),(77,pY (u8.wrap (i64.wrap (48+v47))))] (ml 3 hs59 aY) (by kernel_rfl) (aj rfl (bp rfl rfl rfl rfl rfl (eE rfl jy) rfl rfl rfl rfl (fun b60=>aj rfl (Bt rfl rfl rfl rfl rfl (xs:=[(u8.wrap (i64.wrap (48+v47)))]) eG rfl (ae hb56 fun s62 hs62 hb56=>ae hb56 fun x63 hx63 hb56=>iW 3 [2] [81] [(80,pS s62),(82,pI v20)] (ml 0 hs62 aY) (by kernel_rfl) ?_)))))))
   refine aj rfl (aI rfl rfl (ρ1:=[_]) (aq (by exact aC aN) Vh) (hrec hx63) ?_);rintro _ _ ⟨a64,c65,rfl,rfl⟩
   refine ae hb56 fun l67 hl67 hb56=>?_
   refine aj rfl (bw (enc:=Za.enc) rfl rfl rfl rfl rfl rfl rfl rfl rfl eG (by exact aC (aC (aC (aC aN)))) hl67 (fun a68 c69=>?_))
   refine aE [(8,pO a68 l67.length c69)] (by kernel_rfl) (eH (ah [69,70] [(10,pI (i64.wrap (v47+1)))] (by kernel_rfl) ?_))
   exact aT hb56 (a68,c69) (o3 rfl) (bg (aC (aC aN)) (bg (aC (aC (aC aN))) bN))
  refine aL ?_
  refine cJ hb56 (fun ht=>an rfl ?_)
  exact am ((a45,c46),(l44,l48,v49)) (oC rfl) (bg aN (bg (aC aN) bq)) ht.symm
 rintro ⟨⟨a51,c52⟩,⟨l53,l54,v55⟩⟩ τ hz;(try dsimp only at hz);subst q57;(try dsimp only at h);dsimp only [aw]
 refine ag (ah [85] [(6,pO a51 l53.length c52)] (by kernel_rfl) (cK ?_))
 obtain rfl:=osi h
 exact aH (dZ (az rfl)) (bg (aC aN) bN) ⟨_,_,rfl,rfl⟩
def ld (n:Nat):Zg->Xh->Int->Option ((List Za)×Zg):=Nat.rec (motive:=fun _=>Zg->Xh->Int->Option ((List Za)×Zg)) (fun _ _ _=>none) (fun _ ih=>gS ih) n
def kf (p0:Zg) (p1:Xh) (p2:Int):Option ((List Za)×Zg):=ld Va p0 p1 p2
theorem rc (n:Nat):∀ {p0:Zg} {p1:Xh} {p2:Int} {b0:Nat} {r:((List Za)×Zg)},ld n p0 p1 p2=some r->La 24 [pP b0 0,pS p1,pI p2] [Qa.b b0 66 [pL eI p0.L,pI p0.I]] (fun pv ρ'=>∃ a c,pv=.v (.slice a r.1.length c)/\ρ'=[Qa.row a r.1.length c 95 5 (List.map Za.enc r.1),Qa.b b0 66 [pL eI r.2.L,pI r.2.I]]):=by
 induction n with
 | zero=>intros;rename_i h;exact nomatch h
 | succ n ih=>intros;rename_i h;exact qG (fun hr=>ih hr) h
theorem nF {p0:Zg} {p1:Xh} {p2:Int} {b0:Nat} {r:((List Za)×Zg)} (h:kf p0 p1 p2=some r):La 24 [pP b0 0,pS p1,pI p2] [Qa.b b0 66 [pL eI p0.L,pI p0.I]] (fun pv ρ'=>∃ a c,pv=.v (.slice a r.1.length c)/\ρ'=[Qa.row a r.1.length c 95 5 (List.map Za.enc r.1),Qa.b b0 66 [pL eI r.2.L,pI r.2.I]]):=rc Va h
def iX (p0:(List Int)):Option Zh:=(mC p0 300).bind fun x2=>(aB (⟨x2,0⟩:Zg) 4).bind fun x5=>(aW (S:=Int×(List Int)×Int×(List Ze)) (T:=((List Int)×Int×(List Ze))) (fun (v6,l7,v8,l10)=>cond (decide (0<v6)) ((aB (⟨l7,v8⟩:Zg) 5).bind fun x25=>(bx [(⟨#[57,52]⟩:Xh),(⟨#[57,53]⟩:Xh),(⟨#[57,52,48,49]⟩:Xh),(⟨#[57,52,48,50]⟩:Xh),(⟨#[57,52,48,49,48,49]⟩:Xh)] x25.1).bind fun m26=>(dW x25.2 2).bind fun x27=>(aB x27.2 2).bind fun x29=>Option.bind (cond (x29.1 == 1) ((aB x29.2 3).bind fun x38=>(bx [(⟨#[57,52,48,49]⟩:Xh),(⟨#[57,52,48,50]⟩:Xh),(⟨#[57,53,48,49]⟩:Xh)] x38.1).bind fun m39=>some (m39,x38.2.L,x38.2.I)) (some (Uh,x29.2.L,x29.2.I))) (fun (v30,l31,v32)=>(app 56 l10 [(⟨m26,x27.1,v30⟩:Ze)]).bind fun l42=>some (.inl ((i64.wrap (v6 - 1)),l31,v32,l42)))) (some (.inr (l7,v8,l10)))) Va (x5.1,x5.2.L,x5.2.I,([]:List Ze))).bind fun (l13,v14,l18)=>(kf (⟨l13,v14⟩:Zg) (⟨#[57,52]⟩:Xh) 36525).bind fun x46=>(kf x46.2 (⟨#[57,53]⟩:Xh) 36525).bind fun x50=>(app 64 x46.1 x50.1).bind fun l54=>some (⟨l54,l18⟩:Zh)
theorem rO {p0:(List Int)} {r:Zh}  (h:iX p0=some r):PF 4 [pL eI p0] (.agg [pL Za.enc r.Entries,pL Ze.enc r.Notes]):=by
 unfold iX at h
 refine aV ?_
 refine dk Tryz.func4 rfl Tryz.ntmps4 Tryz.results4 rfl (cL rfl (aP (cs:=[pN,pN]) rfl rfl rfl rfl (fun b1=>au (cP h fun x2 hx2 h=>cS 3 [] [7,8] [(9,.agg [pL eI x2,pI 0])] (aU 1 (ph hx2) aY) (by kernel_rfl) (aj rfl (be (cs:=[pL eI x2,pI 0]) rfl rfl (fun b3=>aE [(3,pP b3 0)] (by kernel_rfl) (br (fC 1 [(11,.agg [pN,pN])] (by kernel_rfl) (aj rfl (aP (cs:=[pN,pN]) rfl rfl rfl rfl (fun b4=>aM rfl rfl (al (vs:=[pN,pN]) rfl rfl rfl rfl rfl bT pV (au (bM (ae h fun x5 hx5 h=>fC 1 [(12,pP b3 0)] (by kernel_rfl) ?_))))))))))))))))
 refine aj rfl (aI rfl rfl (ρ1:=[_]) (aq (by exact aC aN) Vh) (ar hx5) ?_);rintro _ _ ⟨rfl,rfl⟩
 refine aE [(5,pI x5.1)] (by kernel_rfl) (aD (bC 70 3 (ae h fun q20 hq20 h=>?_)))
 refine ap (Y:=(Option Addr×Nat)×((List Int)×Int×(List Ze))) (fun ((a16,c17),(l13,v14,l18))=>[(2,pP b1 0),(3,pP b3 0),(4,pP b4 0)]) (fun ((a16,c17),(l13,v14,l18))=>[Qa.b b1 26 [pN,pN],Qa.b b3 66 [pL eI l13,pI v14],Qa.b b4 26 [pN,pO a16 l18.length c17],Qa.row a16 l18.length c17 70 3 (List.map Ze.enc l18)]) (fun ((a16,c17),(l13,v14,l18))=>q20=(l13,v14,l18)) ?_ ?_
 ·refine aG ?_
  refine aJ (Y:=Option Addr×Nat) (S:=Int×(List Int)×Int×(List Ze)) _ hq20 (fun (a11,c12) (v6,l7,v8,l10)=>[(2,pP b1 0),(3,pP b3 0),(4,pP b4 0),(5,pI v6)]) (fun (a11,c12) (v6,l7,v8,l10)=>[Qa.b b1 26 [pN,pN],Qa.b b3 66 [pL eI l7,pI v8],Qa.b b4 26 [pN,pO a11 l10.length c12],Qa.row a11 l10.length c12 70 3 (List.map Ze.enc l10)]) (none,0) (jC rfl) (bg (aC (aC (aC aN))) (bg (aC aN) (bg (aC aN) bN))) ?_
  rintro ⟨a11,c12⟩ ⟨v6,l7,v8,l10⟩ o τ hb19;(try dsimp only at hb19);dsimp only [aw]
  refine dV (bF [14] [(15,pB (decide (0<v6)))] (by kernel_rfl) rfl hb19 (fun hc22 hb19=>?_) fun hc22 hb19=>?_)
  ·refine af ?_
   refine eT (ae hb19 fun x25 hx25 hb19=>ae hb19 fun m26 hm26 hb19=>ae hb19 fun x27 hx27 hb19=>?_)
   refine ap (Y:=Nat) (fun b28=>[(2,pP b1 0),(3,pP b3 0),(4,pP b4 0),(5,pI v6),(6,pP b28 0)]) (fun b28=>[Qa.b b1 26 [pN,pN],Qa.b b28 70 [pS m26,pL eS x27.1,pS Uh],Qa.b b3 66 [pL eI x27.2.L,pI x27.2.I],Qa.b b4 26 [pN,pO a11 l10.length c12],Qa.row a11 l10.length c12 70 3 (List.map Ze.enc l10)]) (fun _=>True) ?_ ?_
   ·refine gf (ρd:=[Qa.b b3 _ _]) _ (aq (aC aN) Vh) ?_
    repeat' first
     | (refine lr 0 ?_;refine bj rfl rfl rfl rfl (bp rfl rfl rfl rfl rfl (eE rfl (eE rfl (eE rfl (eE rfl (eE rfl jy))))) rfl rfl rfl rfl (fun b23=>?_)))
     | (refine lr 2 ?_;first | (refine bj rfl rfl rfl rfl (aI rfl rfl (ρ1:=[_]) (aq (by exact aC aN) Vh) (ar hx25) ?_);rintro _ _ ⟨rfl,rfl⟩) | (refine bj rfl rfl rfl rfl (aI rfl rfl (ρ1:=[_]) (aq (by exact aC (aC aN)) Vh) (ar hx25) ?_);rintro _ _ ⟨rfl,rfl⟩) | (refine bj rfl rfl rfl rfl (aI rfl rfl (ρ1:=[_]) (aq (by exact aN) Vh) (ar hx25) ?_);rintro _ _ ⟨rfl,rfl⟩))
     | (refine lr 3 ?_;first | refine bj rfl rfl rfl rfl (kI (d9 (enc:=eS) (xs:=[(⟨#[57,52]⟩:Xh),(⟨#[57,53]⟩:Xh),(⟨#[57,52,48,49]⟩:Xh),(⟨#[57,52,48,50]⟩:Xh),(⟨#[57,52,48,49,48,49]⟩:Xh)]) rfl rfl rfl (.p rfl) tz (.p rfl) (fun _=>hm26)) ?_) | refine bj rfl rfl rfl rfl (kI (d9 (enc:=eS) (xs:=[(⟨#[57,52]⟩:Xh),(⟨#[57,53]⟩:Xh),(⟨#[57,52,48,49]⟩:Xh),(⟨#[57,52,48,50]⟩:Xh),(⟨#[57,52,48,49,48,49]⟩:Xh)]) rfl rfl rfl (.p rfl) uR (.p rfl) (fun _=>hm26)) ?_) | refine bj rfl rfl rfl rfl (kI (d9 (enc:=eS) (xs:=[(⟨#[57,52]⟩:Xh),(⟨#[57,53]⟩:Xh),(⟨#[57,52,48,49]⟩:Xh),(⟨#[57,52,48,50]⟩:Xh),(⟨#[57,52,48,49,48,49]⟩:Xh)]) rfl rfl rfl (.p rfl) eG (.p rfl) (fun _=>hm26)) ?_))
     | (refine lr 4 ?_;first | refine bj rfl rfl rfl rfl (kI (dj (sz:=1) (p:=pS m26) (enc:=eS) (xs:=[(⟨#[57,52]⟩:Xh),(⟨#[57,53]⟩:Xh),(⟨#[57,52,48,49]⟩:Xh),(⟨#[57,52,48,50]⟩:Xh),(⟨#[57,52,48,49,48,49]⟩:Xh)]) (a:=(some ⟨b23,0,none⟩)) x25.1 0 m26 rfl (.p rfl) rfl tz (fun _=>hm26) rfl) ?_) | refine bj rfl rfl rfl rfl (kI (dj (sz:=1) (p:=pS m26) (enc:=eS) (xs:=[(⟨#[57,52]⟩:Xh),(⟨#[57,53]⟩:Xh),(⟨#[57,52,48,49]⟩:Xh),(⟨#[57,52,48,50]⟩:Xh),(⟨#[57,52,48,49,48,49]⟩:Xh)]) (a:=(some ⟨b23,0,none⟩)) x25.1 0 m26 rfl (.p rfl) rfl uR (fun _=>hm26) rfl) ?_) | refine bj rfl rfl rfl rfl (kI (dj (sz:=1) (p:=pS m26) (enc:=eS) (xs:=[(⟨#[57,52]⟩:Xh),(⟨#[57,53]⟩:Xh),(⟨#[57,52,48,49]⟩:Xh),(⟨#[57,52,48,50]⟩:Xh),(⟨#[57,52,48,49,48,49]⟩:Xh)]) (a:=(some ⟨b23,0,none⟩)) x25.1 0 m26 rfl (.p rfl) rfl eG (fun _=>hm26) rfl) ?_))
     | (refine lr 6 ?_;first | (refine bj rfl rfl rfl rfl (aI rfl rfl (ρ1:=[_]) (aq (by exact aN) Vh) (ef hx27) ?_);rintro _ _ ⟨rfl,rfl⟩) | (refine bj rfl rfl rfl rfl (aI rfl rfl (ρ1:=[_]) (aq (by exact aC aN) Vh) (ef hx27) ?_);rintro _ _ ⟨rfl,rfl⟩) | (refine bj rfl rfl rfl rfl (aI rfl rfl (ρ1:=[_]) (aq (by exact aC (aC aN)) Vh) (ef hx27) ?_);rintro _ _ ⟨rfl,rfl⟩))
     | (refine lr 8 ?_;refine bj rfl rfl rfl rfl (aP (cs:=[pS Uh,pN,pS Uh]) rfl rfl rfl rfl (fun b28=>?_)))
     | (refine lr 9 ?_;first | refine eF rfl rfl rfl (al (vs:=[pS m26,pL eS x27.1,pS Uh]) rfl rfl rfl rfl rfl bT (AW) ?_) | refine eF rfl rfl rfl (al (vs:=[pS m26,pL eS x27.1,pS Uh]) rfl rfl rfl rfl rfl (cE bT) (AW) ?_) | refine eF rfl rfl rfl (al (vs:=[pS m26,pL eS x27.1,pS Uh]) rfl rfl rfl rfl rfl (cE (cE bT)) (AW) ?_))
     | refine bu 1 (by decide +kernel) rfl rfl rfl rfl (bY (p:=pP b3 0) rfl (.p rfl)) ?_
     | refine bu 5 (by decide +kernel) rfl rfl rfl rfl (bY (p:=pP b3 0) rfl (.p rfl)) ?_
     | refine sA 0 2 8 (by decide +kernel) ?_ ?_ ?_
     | refine dr 2 8 (by decide +kernel) ?_ ?_
     | refine sA 3 6 8 (by decide +kernel) ?_ ?_ ?_
     | refine sA 4 6 8 (by decide +kernel) ?_ ?_ ?_
     | refine dr 6 8 (by decide +kernel) ?_ ?_
     | refine bu 7 (by decide +kernel) rfl rfl rfl rfl (j8 (cs:=[pS m26,pL eS x27.1,pS Uh]) rfl rfl rfl rfl rfl rfl rfl (sZ rfl rfl rfl rfl (ii) (sZ rfl rfl rfl rfl (bV (ii)) Ip))) ?_
     | refine bh 8 (by decide +kernel) ?_
     | refine bh 9 (by decide +kernel) ?_
     | refine gQ (by decide +kernel) ?_
     | refine bh 6 (by decide +kernel) ?_
     | refine dr 4 8 (by decide +kernel) ?_ ?_
     | refine bh 4 (by decide +kernel) ?_
     | refine dr 4 6 (by decide +kernel) ?_ ?_
     | refine dr 3 8 (by decide +kernel) ?_ ?_
     | refine bh 3 (by decide +kernel) ?_
     | refine dr 3 6 (by decide +kernel) ?_ ?_
     | refine bh 2 (by decide +kernel) ?_
     | refine sA 0 6 8 (by decide +kernel) ?_ ?_ ?_
     | refine dr 0 8 (by decide +kernel) ?_ ?_
     | refine bh 0 (by decide +kernel) ?_
     | refine dr 0 6 (by decide +kernel) ?_ ?_
     | refine dr 0 2 (by decide +kernel) ?_ ?_
     | exact am b28 (gA rfl) (bg (aC (aC (aC aN))) (bg aN (bg aN (bg (aC aN) (bg (aC aN) bq))))) trivial
     | exact am b28 (gA rfl) (bg (aC (aC (aC aN))) (bg (aC aN) (bg aN (bg (aC aN) (bg (aC aN) bq))))) trivial
     | exact am b28 (gA rfl) (bg (aC (aC (aC aN))) (bg aN (bg (aC aN) (bg (aC aN) (bg (aC aN) bq))))) trivial
     | exact am b28 (gA rfl) (bg (aC (aC (aC aN))) (bg (aC aN) (bg (aC aN) (bg (aC aN) (bg (aC aN) bq))))) trivial
     | exact am b28 (gA rfl) (bg (aC (aC (aC aN))) (bg (aC (aC aN)) (bg aN (bg (aC aN) (bg (aC aN) bq))))) trivial
     | exact am b28 (gA rfl) (bg (aC (aC (aC aN))) (bg (aC (aC aN)) (bg (aC aN) (bg (aC aN) (bg (aC aN) bq))))) trivial
   rintro b28 τ _;dsimp only [aw]
   refine dV (ae hb19 fun x29 hx29 hb19=>fC 1 [(26,pP b3 0)] (by kernel_rfl) ?_)
   refine aj rfl (aI rfl rfl (ρ1:=[_]) (aq (by exact aC (aC aN)) Vh) (ar hx29) ?_);rintro _ _ ⟨rfl,rfl⟩
   refine aE [(28,pB (x29.1 == 1))] (by kernel_rfl) (ey hb19 fun q34 hq34 hb19=>?_)
   refine ap (Y:=Unit×(Xh×(List Int)×Int)) (fun (_,(v30,l31,v32))=>[(2,pP b1 0),(3,pP b3 0),(4,pP b4 0),(5,pI v6),(6,pP b28 0)]) (fun (_,(v30,l31,v32))=>[Qa.b b1 26 [pN,pN],Qa.b b28 70 [pS m26,pL eS x27.1,pS v30],Qa.b b3 66 [pL eI l31,pI v32],Qa.b b4 26 [pN,pO a11 l10.length c12],Qa.row a11 l10.length c12 70 3 (List.map Ze.enc l10)]) (fun (_,(v30,l31,v32))=>q34=(v30,l31,v32)) ?_ ?_
   ·skip
    refine fh rfl hq34 (fun hc35 hq34=>?_) fun hc35 hq34=>?_
    ·refine ak ?_
     refine aj rfl (bp rfl rfl rfl rfl rfl (eE rfl (eE rfl (eE rfl jy))) rfl rfl rfl rfl (fun b36=>ae hq34 fun x38 hx38 hq34=>ba 1 [(30,pP b3 0)] (by kernel_rfl) ?_))
     refine aj rfl (aI rfl rfl (ρ1:=[_]) (aq (by exact aC aN) Vh) (ar hx38) ?_);rintro _ _ ⟨rfl,rfl⟩
     refine ae hq34 fun m39 hm39 hq34=>cg rfl rfl rfl (d9 (enc:=eS) (xs:=[(⟨#[57,52,48,49]⟩:Xh),(⟨#[57,52,48,50]⟩:Xh),(⟨#[57,53,48,49]⟩:Xh)]) rfl rfl rfl (.p rfl) tz (.p rfl) (fun _=>hm39)) (cg rfl rfl rfl (dj (sz:=1) (p:=pS m39) (enc:=eS) (xs:=[(⟨#[57,52,48,49]⟩:Xh),(⟨#[57,52,48,50]⟩:Xh),(⟨#[57,53,48,49]⟩:Xh)]) (a:=(some ⟨b36,0,none⟩)) x38.1 0 m39 rfl (.p rfl) rfl tz (fun _=>hm39) rfl) (ba 1 [(34,pP b28 2)] (by kernel_rfl) (aM rfl rfl (al (vs:=[pS m39]) rfl rfl rfl rfl rfl (cE (cE (cE bT))) (bV (bV ii)) (au ?_)))))
     obtain rfl:=osi hq34
     exact am ((),(m39,x38.2.L,x38.2.I)) (gA rfl) (bg (aC (aC aN)) (bg (aC (aC aN)) (bg aN (bg (aC aN) (bg (aC aN) bq))))) rfl
    refine af ?_
    obtain rfl:=osi hq34
    exact am ((),(Uh,x29.2.L,x29.2.I)) (gA rfl) (bg (aC aN) (bg (aC aN) rI)) rfl
   rintro ⟨_,⟨v30,l31,v32⟩⟩ τ hz;(try dsimp only at hz);subst q34;(try dsimp only at hb19);dsimp only [aw]
   refine ak (bH 3 [3,1] [35] [(36,pO a11 l10.length c12),(37,.agg [pS m26,pL eS x27.1,pS v30])] (by kernel_rfl) (aj rfl (bp rfl rfl rfl rfl rfl (eE rfl jy) rfl rfl rfl rfl (fun b40=>ae hb19 fun l42 hl42 hb19=>?_))))
   refine aj rfl (bw (enc:=Ze.enc) rfl rfl rfl rfl rfl rfl rfl rfl rfl eG (by exact aC (aC (aC (aC (aC aN))))) hl42 (fun a43 c44=>?_))
   refine ba 1 [(40,pP b4 1)] (by kernel_rfl) (aM rfl rfl (al (vs:=[pO a43 l42.length c44]) rfl rfl rfl rfl rfl (cE (cE (cE (cE (cE bT))))) (bV ii) (au (eH (ah [16,17] [(5,pI (i64.wrap (v6 - 1)))] (by kernel_rfl) ?_)))))
   exact aT hb19 (a43,c44) (jC rfl) (bg (aC (aC aN)) (bg (aC (aC (aC aN))) (bg (aC (aC (aC aN))) bN)))
  refine aL ?_
  refine cJ hb19 (fun ht=>an rfl ?_)
  exact am ((a11,c12),(l7,v8,l10)) (nt rfl) CP ht.symm
 rintro ⟨⟨a16,c17⟩,⟨l13,v14,l18⟩⟩ τ hz;(try dsimp only at hz);subst q20;(try dsimp only at h);dsimp only [aw]
 refine ag (ae h fun x46 hx46 h=>fC 1 [(41,pP b3 0)] (by kernel_rfl) ?_)
 refine aj rfl (aI rfl rfl (ρ1:=[_]) (aq (by exact aC aN) Vh) (nF hx46) ?_);rintro _ _ ⟨a47,c48,rfl,rfl⟩
 refine ae h fun x50 hx50 h=>ba 1 [(43,pP b3 0)] (by kernel_rfl) ?_
 refine aj rfl (aI rfl rfl (ρ1:=[_]) (aq (by exact aC aN) Vh) (nF hx50) ?_);rintro _ _ ⟨a51,c52,rfl,rfl⟩
 refine ae h fun l54 hl54 h=>?_
 refine aj rfl (bw (enc:=Za.enc) rfl rfl rfl rfl rfl rfl rfl rfl rfl eG (by exact aC (aC aN)) hl54 (fun a55 c56=>?_))
 refine ba 1 [(46,pP b4 0)] (by kernel_rfl) (aM rfl rfl (al (vs:=[pO a55 l54.length c56]) rfl rfl rfl rfl rfl (cE (cE (cE (cE bT)))) ii (au (br (ak ?_)))))
 refine kH (css:=List.map Za.enc l54) (a:=a55) (by exact aN) ?_
 refine iR (k:=0) (enc:=Za.enc) (xs:=l54) (b:=b4) (a:=a55) rfl eG (cE (cE (cE (cE bT)))) ?_
 refine kH (css:=List.map Ze.enc l18) (a:=a16) (by exact aC (aC (aC (aC (aC aN))))) ?_
 refine iR (k:=1) (enc:=Ze.enc) (xs:=l18) (b:=b4) (a:=a16) rfl eG (cE (cE (cE (cE (cE bT))))) (dE 1 [5] [(47,.agg [pL Za.enc l54,pL Ze.enc l18])] (by kernel_rfl) (aM rfl rfl (al (vs:=[pL Za.enc l54,pL Ze.enc l18]) rfl rfl rfl rfl rfl (cE (cE (cE (cE bT)))) pV (au (cK ?_)))))
 obtain rfl:=osi h
 exact aH (dZ (di rfl zm4 rfl)) bq ⟨rfl,rfl⟩
def gh (p0:Zg) (p1:Int):Option ((List Int)×Zg):=(aW (S:=(List Int)×Int×Int×(List Int)×Int) (T:=((List Int)×Int×(List Int)×Int)) (fun (l2,v5,v6,l7,v8)=>cond (decide (v6<p1)) ((aB (⟨l7,v8⟩:Zg) 4).bind fun x20=>lb ((i64.wrap (1+(i64.wrap (x20.1*100000))))) (fun w21=>(aB x20.2 2).bind fun x22=>Option.bind (cond (x22.1 == 1) ((nz p1).bind fun u29=>(aB x22.2 (i64.wrap (Int.tdiv 1000000 p1))).bind fun x30=>some ((i64.wrap (1+x30.1)),x30.2.L,x30.2.I)) (some (w21,x22.2.L,x22.2.I))) (fun (v24,l25,v26)=>lb ((lJ v24 (i64.wrap (v5 - (i64.wrap (p1 - v6)))))) (fun w31=>(app 8 l2 [w31]).bind fun l34=>some (.inl (l34,(i64.wrap (v5 - w31)),(i64.wrap (v6+1)),l25,v26)))))) (some (.inr (l2,v5,l7,v8)))) Va (([]:List Int),1000000,1,p0.L,p0.I)).bind fun (l12,v13,l14,v15)=>(app 8 l12 [v13]).bind fun l40=>some (l40,(⟨l14,v15⟩:Zg))
theorem mV {p0:Zg} {p1:Int} {b0:Nat} {r:((List Int)×Zg)}  (h:gh p0 p1=some r):La 25 [pP b0 0,pI p1] [Qa.b b0 66 [pL eI p0.L,pI p0.I]] (fun pv ρ'=>pv=pL eI r.1/\ρ'=[Qa.b b0 66 [pL eI r.2.L,pI r.2.I]]):=by
 unfold gh at h
 refine dk Tryz.func25 rfl Tryz.ntmps25 Tryz.results25 rfl (aQ [4] (by kernel_rfl) (br (aA [(5,pN)] (by kernel_rfl) (br (aA [(6,pI 1000000)] (by kernel_rfl) (bM (aA [(7,pI 1)] (by kernel_rfl) (aD (bC 3 1 (ae h fun q17 hq17 h=>?_))))))))))
 refine ap (Y:=(Option Addr×Nat)×((List Int)×Int×(List Int)×Int)) (fun ((a10,c11),(l12,v13,l14,v15))=>[(5,pO a10 l12.length c11),(6,pI v13)]) (fun ((a10,c11),(l12,v13,l14,v15))=>[Qa.b b0 66 [pL eI l14,pI v15],Qa.row a10 l12.length c11 3 1 (List.map eI l12)]) (fun ((a10,c11),(l12,v13,l14,v15))=>q17=(l12,v13,l14,v15)) ?_ ?_
 ·refine aG ?_
  refine aJ (Y:=Option Addr×Nat) (S:=(List Int)×Int×Int×(List Int)×Int) _ hq17 (fun (a3,c4) (l2,v5,v6,l7,v8)=>[(0,pP b0 0),(1,pI p1),(5,pO a3 l2.length c4),(6,pI v5),(7,pI v6)]) (fun (a3,c4) (l2,v5,v6,l7,v8)=>[Qa.b b0 66 [pL eI l7,pI v8],Qa.row a3 l2.length c4 3 1 (List.map eI l2)]) (none,0) (gA rfl) (bg (aC aN) bN) ?_
  rintro ⟨a3,c4⟩ ⟨l2,v5,v6,l7,v8⟩ o τ hb16;(try dsimp only at hb16);dsimp only [aw]
  refine dV (bF [9,10] [(11,pB (decide (v6<p1)))] (by kernel_rfl) rfl hb16 (fun hc19 hb16=>?_) fun hc19 hb16=>?_)
  ·refine af ?_
   refine eT (ae hb16 fun x20 hx20 hb16=>fC 1 [(14,pP b0 0)] (by kernel_rfl) ?_)
   refine aj rfl (aI rfl rfl (ρ1:=[_]) (aq (by exact aN) Vh) (ar hx20) ?_);rintro _ _ ⟨rfl,rfl⟩
   refine gD hb16 ?_;clear hb16;intro w21 hw21 hb16
   refine bU 2 [16] [(17,pI (i64.wrap (1+(i64.wrap (x20.1*100000)))))] (by kernel_rfl) (cg rfl rfl rfl (cD rfl (.p (congrArg (fun z=>PV.v (Value.int .i64 z)) hw21))) (au (bM (ae hb16 fun x22 hx22 hb16=>fC 1 [(18,pP b0 0)] (by kernel_rfl) ?_))))
   refine aj rfl (aI rfl rfl (ρ1:=[_]) (aq (by exact aN) Vh) (ar hx22) ?_);rintro _ _ ⟨rfl,rfl⟩
   refine aE [(20,pB (x22.1 == 1))] (by kernel_rfl) (ey hb16 fun q27 hq27 hb16=>?_)
   refine ap (Y:=Unit×(Int×(List Int)×Int)) (fun (_,(v24,l25,v26))=>[(0,pP b0 0),(1,pI p1),(5,pO a3 l2.length c4),(6,pI v5),(7,pI v6),(8,pI v24)]) (fun (_,(v24,l25,v26))=>[Qa.b b0 66 [pL eI l25,pI v26],Qa.row a3 l2.length c4 3 1 (List.map eI l2)]) (fun (_,(v24,l25,v26))=>q27=(v24,l25,v26)) ?_ ?_
   ·skip
    refine fh rfl hq27 (fun hc28 hq27=>?_) fun hc28 hq27=>?_
    ·refine ae hq27 ?_;clear hq27;intro u29 hu29 hq27
     refine ae hq27 fun x30 hx30 hq27=>cS 3 [] [22] [(21,pP b0 0),(23,pI (i64.wrap (Int.tdiv 1000000 p1)))] (Ah 2 hu29 aY) (by kernel_rfl) ?_
     refine aj rfl (aI rfl rfl (ρ1:=[_]) (aq (by exact aN) Vh) (ar hx30) ?_);rintro _ _ ⟨rfl,rfl⟩
     refine fV [25] [(8,pI (i64.wrap (1+x30.1)))] (by kernel_rfl) ?_
     obtain rfl:=osi hq27
     exact am ((),((i64.wrap (1+x30.1)),x30.2.L,x30.2.I)) (o3 rfl) tc rfl
    refine af ?_
    obtain rfl:=osi hq27
    exact am ((),(w21,x22.2.L,x22.2.I)) (o3 rfl) tc rfl
   rintro ⟨_,⟨v24,l25,v26⟩⟩ τ hz;(try dsimp only at hz);subst q27;(try dsimp only at hb16);dsimp only [aw]
   refine ag ?_
   refine gD hb16 ?_;clear hb16;intro w31 hw31 hb16
   refine ak (bU 7 (rg 26 6) [(32,pI (lJ v24 (i64.wrap (v5 - (i64.wrap (p1 - v6))))))] (by kernel_rfl) (cg rfl rfl rfl (cD rfl (.p (congrArg (fun z=>PV.v (Value.int .i64 z)) hw31))) (au (br (fC 2 [(33,pO a3 l2.length c4),(34,pI w31)] (by kernel_rfl) (aj rfl (bp rfl rfl rfl rfl rfl (eE rfl jy) rfl rfl rfl rfl (fun b32=>ae hb16 fun l34 hl34 hb16=>?_))))))))
   refine aj rfl (bw (enc:=eI) rfl rfl rfl rfl rfl rfl rfl rfl rfl eG (by exact aC (aC aN)) hl34 (fun a35 c36=>?_))
   refine aE [(5,pO a35 l34.length c36)] (by kernel_rfl) (aD (ah [37,38,39] [(6,pI (i64.wrap (v5 - w31)))] (by kernel_rfl) (eH (ah [12,13] [(7,pI (i64.wrap (v6+1)))] (by kernel_rfl) ?_))))
   exact aT hb16 (a35,c36) (gA rfl) (bg (aC (aC aN)) bN)
  refine aL ?_
  refine cJ hb16 (fun ht=>an rfl ?_)
  exact am ((a3,c4),(l2,v5,l7,v8)) (lK rfl) tc ht.symm
 rintro ⟨⟨a10,c11⟩,⟨l12,v13,l14,v15⟩⟩ τ hz;(try dsimp only at hz);subst q17;(try dsimp only at h);dsimp only [aw]
 refine ag (fC 2 [(40,pO a10 l12.length c11),(41,pI v13)] (by kernel_rfl) (aj rfl (bp rfl rfl rfl rfl rfl (eE rfl jy) rfl rfl rfl rfl (fun b38=>ae h fun l40 hl40 h=>?_))))
 refine aj rfl (bw (enc:=eI) rfl rfl rfl rfl rfl rfl rfl rfl rfl eG (by exact aC (aC aN)) hl40 (fun a41 c42=>?_))
 refine aE [(4,pO a41 l40.length c42)] (by kernel_rfl) (aD ?_)
 refine fj (enc:=eI) (xs:=l40) 4 rfl (by exact aN) ?_
 refine bi ?_
 obtain rfl:=osi h
 exact aH (dZ (az rfl)) (bg (aC (aC aN)) bq) ⟨rfl,rfl⟩
def qb (p0:(List Int)):Option Zu:=(mC p0 60).bind fun x2=>(dW (⟨x2,0⟩:Zg) 4).bind fun x4=>(aB x4.2 4).bind fun x5=>(aB x5.2 4).bind fun x7=>Option.bind (cond (decide (0<x7.1)) ((aB x7.2 2).bind fun x18=>(sub [(⟨#[103,108,97,115,115]⟩:Xh),(⟨#[108,97,109,112]⟩:Xh),(⟨#[115,116,101,101,108]⟩:Xh),(⟨#[119,111,111,100]⟩:Xh)] x18.1 ([(⟨#[103,108,97,115,115]⟩:Xh),(⟨#[108,97,109,112]⟩:Xh),(⟨#[115,116,101,101,108]⟩:Xh),(⟨#[119,111,111,100]⟩:Xh)].length:Int)).bind fun l19=>(gh x18.2 (lJ x7.1 (l19.length:Int))).bind fun x20=>(aW (S:=Int×(List Zf)) (T:=((List Zf))) (fun (v21,l23)=>cond (decide (v21<(x20.1.length:Int))) ((bx l19 v21).bind fun m34=>(bx x20.1 v21).bind fun m35=>(app 24 l23 [(⟨m34,m35⟩:Zf)]).bind fun l38=>some (.inl ((i64.wrap (v21+1)),l38))) (some (.inr l23))) Va (0,([]:List Zf))).bind fun l29=>some (x20.2.L,x20.2.I,l29)) (some (x7.2.L,x7.2.I,([]:(List Zf))))) (fun (l8,v9,l13)=>(aB (⟨l8,v9⟩:Zg) 3).bind fun x44=>Option.bind (cond (x44.1 == 1) ((aB x44.2 3).bind fun x52=>(gh x52.2 (i64.wrap (1+x52.1))).bind fun x53=>(aW (S:=Int×(List Int)×Int×(List Zb)) (T:=((List Zb))) (fun (v54,l55,v56,l58)=>cond (decide (v54<(x53.1.length:Int))) ((bx x53.1 v54).bind fun m70=>(dW (⟨l55,v56⟩:Zg) 3).bind fun x71=>(app 32 l58 [(⟨x71.1,m70⟩:Zb)]).bind fun l74=>some (.inl ((i64.wrap (v54+1)),x71.2.L,x71.2.I,l74))) (some (.inr l58))) Va (0,x53.2.L,x53.2.I,([]:List Zb))).bind fun l65=>some l65) (some ([]:(List Zb)))) (fun l49=>some (⟨x4.1,l13,l49,(x5.1 == 1)⟩:Zu)))
theorem Ao {p0:(List Int)} {r:Zu}  (h:qb p0=some r):PF 5 [pL eI p0] (.agg [pL eS r.Words,pL Zf.enc r.Materials,pL Zb.enc r.Parts,pB r.Incomplete]):=by
 unfold qb at h
 refine aV ?_
 refine dk Tryz.func5 rfl Tryz.ntmps5 Tryz.results5 rfl (cL rfl (aP (cs:=[pN,pN,pN,pB false]) rfl rfl rfl rfl (fun b1=>au (cP h fun x2 hx2 h=>cS 3 [] [11,12] [(13,.agg [pL eI x2,pI 0])] (aU 1 (ph hx2) aY) (by kernel_rfl) (aj rfl (be (cs:=[pL eI x2,pI 0]) rfl rfl (fun b3=>aE [(3,pP b3 0)] (by kernel_rfl) (cP h fun x4 hx4 h=>fC 1 [(15,pP b3 0)] (by kernel_rfl) ?_))))))))
 refine aj rfl (aI rfl rfl (ρ1:=[_]) (aq (by exact aN) Vh) (ef hx4) ?_);rintro _ _ ⟨rfl,rfl⟩
 refine ae h fun x5 hx5 h=>ba 1 [(17,pP b3 0)] (by kernel_rfl) ?_
 refine aj rfl (aI rfl rfl (ρ1:=[_]) (aq (by exact aN) Vh) (ar hx5) ?_);rintro _ _ ⟨rfl,rfl⟩
 refine bU 2 [19] [(20,.agg [pL eS x4.1,pN,pN,pB (x5.1 == 1)])] (by kernel_rfl) (aj rfl (aP (cs:=[pN,pN,pN,pB false]) rfl rfl rfl rfl (fun b6=>aM rfl rfl (al (vs:=[pL eS x4.1,pN,pN,pB (x5.1 == 1)]) rfl rfl rfl rfl rfl bT zl4 (au (bM (ae h fun x7 hx7 h=>fC 1 [(21,pP b3 0)] (by kernel_rfl) ?_)))))))
 refine aj rfl (aI rfl rfl (ρ1:=[_]) (aq (by exact aC aN) Vh) (ar hx7) ?_);rintro _ _ ⟨rfl,rfl⟩
 refine aE [(5,pI x7.1)] (by kernel_rfl) (br (ah [23] [(24,pB (decide (0<x7.1)))] (by kernel_rfl) (ey h fun q14 hq14 h=>?_)))
 refine ap (Y:=(Option Addr×Nat)×((List Int)×Int×(List Zf))) (fun ((a11,c12),(l8,v9,l13))=>[(2,pP b1 0),(3,pP b3 0),(4,pP b6 0)]) (fun ((a11,c12),(l8,v9,l13))=>[Qa.b b1 32 [pN,pN,pN,pB false],Qa.b b3 66 [pL eI l8,pI v9],Qa.b b6 32 [pL eS x4.1,pO a11 l13.length c12,pN,pB (x5.1 == 1)],Qa.row a11 l13.length c12 74 2 (List.map Zf.enc l13)]) (fun ((a11,c12),(l8,v9,l13))=>q14=(l8,v9,l13)) ?_ ?_
 ·skip
  refine fh rfl hq14 (fun hc15 hq14=>?_) fun hc15 hq14=>?_
  ·refine ag ?_
   refine cL rfl (bp rfl rfl rfl rfl rfl (eE rfl (eE rfl (eE rfl (eE rfl jy)))) rfl rfl rfl rfl (fun b16=>ae hq14 fun x18 hx18 hq14=>ba 1 [(26,pP b3 0)] (by kernel_rfl) ?_))
   refine aj rfl (aI rfl rfl (ρ1:=[_]) (aq (by exact aC aN) Vh) (ar hx18) ?_);rintro _ _ ⟨rfl,rfl⟩
   refine dw (enc:=eS) (xs:=[(⟨#[103,108,97,115,115]⟩:Xh),(⟨#[108,97,109,112]⟩:Xh),(⟨#[115,116,101,101,108]⟩:Xh),(⟨#[119,111,111,100]⟩:Xh)]) 25 rfl (by exact aC aN) ?_
   refine ae hq14 fun l19 hl19 hq14=>dh [] [28] [(6,pL eS l19)] (Bz 0 eS 1 (fun _=>rfl) hl19 aY) (by kernel_rfl) (cP hq14 fun x20 hx20 hq14=>ak (bU 5 [30,31,32] [(29,pP b3 0),(33,pI (lJ x7.1 (l19.length:Int)))] (by kernel_rfl) ?_))
   refine aj rfl (aI rfl rfl (ρ1:=[_]) (aq (by exact aC aN) Vh) (mV hx20) ?_);rintro _ _ ⟨rfl,rfl⟩
   refine aE [(7,pL eI x20.1)] (by kernel_rfl) (br (aA [(8,pI 0)] (by kernel_rfl) (aD (bC 74 2 (ae hq14 fun q31 hq31 hq14=>?_)))))
   refine eD (Y:=(Option Addr×Nat)×((List Zf))) (fun ((a27,c28),l29)=>[(2,pP b1 0),(3,pP b3 0),(4,pP b6 0)]) (fun ((a27,c28),l29)=>[Qa.b b1 32 [pN,pN,pN,pB false],Qa.b b3 66 [pL eI x20.2.L,pI x20.2.I],Qa.b b6 32 [pL eS x4.1,pO a27 l29.length c28,pN,pB (x5.1 == 1)],Qa.row a27 l29.length c28 74 2 (List.map Zf.enc l29)]) (fun ((a27,c28),l29)=>q31=l29) ?_ ?_
   ·refine aG ?_
    refine aJ (Y:=Option Addr×Nat) (S:=Int×(List Zf)) _ hq31 (fun (a24,c25) (v21,l23)=>[(2,pP b1 0),(3,pP b3 0),(4,pP b6 0),(6,pL eS l19),(7,pL eI x20.1),(8,pI v21)]) (fun (a24,c25) (v21,l23)=>[Qa.b b1 32 [pN,pN,pN,pB false],Qa.b b3 66 [pL eI x20.2.L,pI x20.2.I],Qa.b b6 32 [pL eS x4.1,pO a24 l23.length c25,pN,pB (x5.1 == 1)],Qa.row a24 l23.length c25 74 2 (List.map Zf.enc l23)]) (none,0) (o3 rfl) (bg (aC (aC (aC (aC aN)))) (bg (aC aN) (bg (aC (aC aN)) bN))) ?_
    rintro ⟨a24,c25⟩ ⟨v21,l23⟩ o τ hb30;(try dsimp only at hb30);dsimp only [aw]
    refine dV (bF [35,36,37] [(38,pB (decide (v21<(x20.1.length:Int))))] (by kernel_rfl) rfl hb30 (fun hc33 hb30=>?_) fun hc33 hb30=>?_)
    ·refine af ?_
     refine br (aG (ae hb30 fun m34 hm34 hb30=>ae hb30 fun m35 hm35 hb30=>ae hb30 fun l38 hl38 hb30=>?_))
     refine eD (Y:=Option Addr×Nat) (fun (a39,c40)=>[(2,pP b1 0),(3,pP b3 0),(4,pP b6 0),(6,pL eS l19),(7,pL eI x20.1),(8,pI v21)]) (fun (a39,c40)=>[Qa.b b1 32 [pN,pN,pN,pB false],Qa.b b3 66 [pL eI x20.2.L,pI x20.2.I],Qa.b b6 32 [pL eS x4.1,pO a39 l38.length c40,pN,pB (x5.1 == 1)],Qa.row a39 l38.length c40 74 2 (List.map Zf.enc l38)]) (fun _=>True) ?_ ?_
     ·refine gf (ρd:=[Qa.row a24 _ _ _ _ _,Qa.b b6 _ _]) _ (aq (aC (aC (aC aN))) (aq (aC (aC aN)) Vh)) ?_
      repeat' first
       | (refine lr 1 ?_;first | refine bj rfl rfl rfl rfl (kI (co (p:=pO a24 l23.length c25) rfl (.p rfl) tz rfl) ?_) | refine bj rfl rfl rfl rfl (kI (co (p:=pO a24 l23.length c25) rfl (.p rfl) uR rfl) ?_))
       | (refine lr 11 ?_;refine bj rfl rfl rfl rfl (bp rfl rfl rfl rfl rfl (eE rfl jy) rfl rfl rfl rfl (fun b36=>?_)))
       | (refine lr 12 ?_;refine bj rfl rfl rfl rfl (bw (enc:=Zf.enc) rfl rfl rfl rfl rfl rfl rfl rfl rfl eG (by exact aC aN) hl38 (fun a39 c40=>?_)))
       | (refine lr 14 ?_;refine eF rfl rfl rfl (al (vs:=[pO a39 l38.length c40]) rfl rfl rfl rfl rfl (cE (cE bT)) (bV (ii)) ?_))
       | refine bu 0 (by decide +kernel) rfl rfl rfl rfl (bR rfl rfl rfl rfl rfl (.p rfl)) ?_
       | refine bu 2 (by decide +kernel) rfl rfl rfl rfl (bY (p:=pL eS l19) rfl (.p rfl)) ?_
       | refine bu 3 (by decide +kernel) rfl rfl rfl rfl (bY (p:=pI v21) rfl (.p rfl)) ?_
       | refine bu 4 (by decide +kernel) rfl rfl rfl rfl (ud (enc:=eS) rfl rfl rfl (fun _=>rfl) (.p rfl) (.p rfl) (fun _=>hm34)) ?_
       | refine bu 5 (by decide +kernel) rfl rfl rfl rfl (p9 (p:=pS m34) rfl (.p rfl) rfl) ?_
       | refine bu 6 (by decide +kernel) rfl rfl rfl rfl (bY (p:=pL eI x20.1) rfl (.p rfl)) ?_
       | refine bu 7 (by decide +kernel) rfl rfl rfl rfl (bY (p:=pI v21) rfl (.p rfl)) ?_
       | refine bu 8 (by decide +kernel) rfl rfl rfl rfl (ud (enc:=eI) rfl rfl rfl (fun _=>rfl) (.p rfl) (.p rfl) (fun _=>hm35)) ?_
       | refine bu 9 (by decide +kernel) rfl rfl rfl rfl (p9 (p:=pI m35) rfl (.p rfl) rfl) ?_
       | refine bu 10 (by decide +kernel) rfl rfl rfl rfl (j8 (cs:=[pS m34,pI m35]) rfl rfl rfl rfl rfl rfl rfl (sZ rfl rfl rfl rfl (ii) (sZ rfl rfl rfl rfl (bV (ii)) Ip))) ?_
       | refine dr 1 11 (by decide +kernel) ?_ ?_
       | refine bh 11 (by decide +kernel) ?_
       | refine bh 12 (by decide +kernel) ?_
       | refine bu 13 (by decide +kernel) rfl rfl rfl rfl (bR rfl rfl rfl rfl rfl (.p rfl)) ?_
       | refine bh 14 (by decide +kernel) ?_
       | refine gQ (by decide +kernel) ?_
       | refine bh 1 (by decide +kernel) ?_
       | exact gZ (a39,c40) (o3 rfl) (bg (aC (aC (aC aN))) (bg (aC (aC (aC aN))) (bg (aC (aC aN)) (bN)))) trivial
     rintro ⟨a39,c40⟩ τ ρ1 hsub42 _;(try dsimp only at hsub42);dsimp only [aw]
     refine eH (kb hsub42 (ah [39,40] [(8,pI (i64.wrap (v21+1)))] (by kernel_rfl) ?_))
     exact aT hb30 (a39,c40) (o3 rfl) CP
    refine aL ?_
    refine cJ hb30 (fun ht=>an rfl ?_)
    exact gZ ((a24,c25),l23) (nt rfl) CP ht.symm
   rintro ⟨⟨a27,c28⟩,l29⟩ τ ρ1 hsub43 hz;(try dsimp only at hz hsub43);subst q31;(try dsimp only at hq14);dsimp only [aw]
   obtain rfl:=osi hq14
   exact am ((a27,c28),(x20.2.L,x20.2.I,l29)) (nt rfl) (Vb.trans CP hsub43) rfl
  refine af ?_
  refine gc (kq 74 2) ?_
  obtain rfl:=osi hq14
  exact am ((none,0),(x7.2.L,x7.2.I,([]:(List Zf)))) (nt rfl) (bg (aC (aC (aC aN))) (bg (aC aN) (bg (aC aN) bN))) rfl
 rintro ⟨⟨a11,c12⟩,⟨l8,v9,l13⟩⟩ τ hz;(try dsimp only at hz);subst q14;(try dsimp only at h);dsimp only [aw]
 refine dV (ae h fun x44 hx44 h=>fC 1 [(55,pP b3 0)] (by kernel_rfl) ?_)
 refine aj rfl (aI rfl rfl (ρ1:=[_]) (aq (by exact aC aN) Vh) (ar hx44) ?_);rintro _ _ ⟨rfl,rfl⟩
 refine aE [(57,pB (x44.1 == 1))] (by kernel_rfl) (ey h fun q50 hq50 h=>?_)
 refine ap (Y:=(Option Addr×Nat)×((List Zb))) (fun ((a47,c48),l49)=>[(2,pP b1 0),(4,pP b6 0)]) (fun ((a47,c48),l49)=>[Qa.b b1 32 [pN,pN,pN,pB false],Qa.b b6 32 [pL eS x4.1,pO a11 l13.length c12,pO a47 l49.length c48,pB (x5.1 == 1)],Qa.row a11 l13.length c12 74 2 (List.map Zf.enc l13),Qa.row a47 l49.length c48 76 2 (List.map Zb.enc l49)]) (fun ((a47,c48),l49)=>q50=l49) ?_ ?_
 ·skip
  refine fh rfl hq50 (fun hc51 hq50=>?_) fun hc51 hq50=>?_
  ·refine ag ?_
   refine ae hq50 fun x52 hx52 hq50=>fC 2 [(58,pP b3 0),(59,pP b3 0)] (by kernel_rfl) ?_
   refine aj rfl (aI rfl rfl (ρ1:=[_]) (aq (by exact aN) Vh) (ar hx52) ?_);rintro _ _ ⟨rfl,rfl⟩
   refine ae hq50 fun x53 hx53 hq50=>ba 1 [(61,pI (i64.wrap (1+x52.1)))] (by kernel_rfl) ?_
   refine aj rfl (aI rfl rfl (ρ1:=[_]) (aq (by exact aN) Vh) (mV hx53) ?_);rintro _ _ ⟨rfl,rfl⟩
   refine aE [(9,pL eI x53.1)] (by kernel_rfl) (br (aA [(10,pI 0)] (by kernel_rfl) (aD (bC 76 2 (ae hq50 fun q67 hq67 hq50=>?_)))))
   refine eD (Y:=(Option Addr×Nat)×((List Zb))) (fun ((a63,c64),l65)=>[(2,pP b1 0),(4,pP b6 0)]) (fun ((a63,c64),l65)=>[Qa.b b1 32 [pN,pN,pN,pB false],Qa.b b6 32 [pL eS x4.1,pO a11 l13.length c12,pO a63 l65.length c64,pB (x5.1 == 1)],Qa.row a11 l13.length c12 74 2 (List.map Zf.enc l13),Qa.row a63 l65.length c64 76 2 (List.map Zb.enc l65)]) (fun ((a63,c64),l65)=>q67=l65) ?_ ?_
   ·refine aG ?_
    refine aJ (Y:=Option Addr×Nat) (S:=Int×(List Int)×Int×(List Zb)) _ hq67 (fun (a59,c60) (v54,l55,v56,l58)=>[(2,pP b1 0),(3,pP b3 0),(4,pP b6 0),(9,pL eI x53.1),(10,pI v54)]) (fun (a59,c60) (v54,l55,v56,l58)=>[Qa.b b1 32 [pN,pN,pN,pB false],Qa.b b3 66 [pL eI l55,pI v56],Qa.b b6 32 [pL eS x4.1,pO a11 l13.length c12,pO a59 l58.length c60,pB (x5.1 == 1)],Qa.row a11 l13.length c12 74 2 (List.map Zf.enc l13),Qa.row a59 l58.length c60 76 2 (List.map Zb.enc l58)]) (none,0) (gA rfl) (bg (aC (aC aN)) (bg (aC aN) (bg (aC aN) (bg (aC aN) bN)))) ?_
    rintro ⟨a59,c60⟩ ⟨v54,l55,v56,l58⟩ o τ hb66;(try dsimp only at hb66);dsimp only [aw]
    refine dV (bF [63,64,65] [(66,pB (decide (v54<(x53.1.length:Int))))] (by kernel_rfl) rfl hb66 (fun hc69 hb66=>?_) fun hc69 hb66=>?_)
    ·refine af ?_
     refine br (aG (ae hb66 fun m70 hm70 hb66=>ae hb66 fun x71 hx71 hb66=>ae hb66 fun l74 hl74 hb66=>?_))
     refine eD (Y:=Option Addr×Nat) (fun (a75,c76)=>[(2,pP b1 0),(3,pP b3 0),(4,pP b6 0),(9,pL eI x53.1),(10,pI v54)]) (fun (a75,c76)=>[Qa.b b1 32 [pN,pN,pN,pB false],Qa.b b3 66 [pL eI x71.2.L,pI x71.2.I],Qa.b b6 32 [pL eS x4.1,pO a11 l13.length c12,pO a75 l74.length c76,pB (x5.1 == 1)],Qa.row a11 l13.length c12 74 2 (List.map Zf.enc l13),Qa.row a75 l74.length c76 76 2 (List.map Zb.enc l74)]) (fun _=>True) ?_ ?_
     ·refine gf (ρd:=[Qa.b b3 _ _,Qa.row a59 _ _ _ _ _,Qa.b b6 _ _]) _ (aq (aC aN) (aq (aC (aC (aC aN))) (aq (aC aN) Vh))) ?_
      repeat' first
       | (refine lr 1 ?_;first | refine bj rfl rfl rfl rfl (kI (co (p:=pO a59 l58.length c60) rfl (.p rfl) uR rfl) ?_) | refine bj rfl rfl rfl rfl (kI (co (p:=pO a59 l58.length c60) rfl (.p rfl) zm3 rfl) ?_))
       | (refine lr 3 ?_;refine bj rfl rfl rfl rfl (aI rfl rfl (ρ1:=[_]) (aq (by exact aN) Vh) (ef hx71) ?_);rintro _ _ ⟨rfl,rfl⟩)
       | (refine lr 9 ?_;refine bj rfl rfl rfl rfl (bp rfl rfl rfl rfl rfl (eE rfl jy) rfl rfl rfl rfl (fun b72=>?_)))
       | (refine lr 10 ?_;refine bj rfl rfl rfl rfl (bw (enc:=Zb.enc) rfl rfl rfl rfl rfl rfl rfl rfl rfl eG (by exact aC (aC aN)) hl74 (fun a75 c76=>?_)))
       | (refine lr 12 ?_;refine eF rfl rfl rfl (al (vs:=[pO a75 l74.length c76]) rfl rfl rfl rfl rfl (cE (cE (cE bT))) (bV (bV (ii))) ?_))
       | refine bu 0 (by decide +kernel) rfl rfl rfl rfl (bR rfl rfl rfl rfl rfl (.p rfl)) ?_
       | refine bu 2 (by decide +kernel) rfl rfl rfl rfl (bY (p:=pP b3 0) rfl (.p rfl)) ?_
       | refine bu 4 (by decide +kernel) rfl rfl rfl rfl (bY (p:=pL eI x53.1) rfl (.p rfl)) ?_
       | refine bu 5 (by decide +kernel) rfl rfl rfl rfl (bY (p:=pI v54) rfl (.p rfl)) ?_
       | refine bu 6 (by decide +kernel) rfl rfl rfl rfl (ud (enc:=eI) rfl rfl rfl (fun _=>rfl) (.p rfl) (.p rfl) (fun _=>hm70)) ?_
       | refine bu 7 (by decide +kernel) rfl rfl rfl rfl (p9 (p:=pI m70) rfl (.p rfl) rfl) ?_
       | refine dr 1 3 (by decide +kernel) ?_ ?_
       | refine bh 3 (by decide +kernel) ?_
       | refine bu 8 (by decide +kernel) rfl rfl rfl rfl (j8 (cs:=[pL eS x71.1,pI m70]) rfl rfl rfl rfl rfl rfl rfl (sZ rfl rfl rfl rfl (ii) (sZ rfl rfl rfl rfl (bV (ii)) Ip))) ?_
       | refine bh 9 (by decide +kernel) ?_
       | refine bh 10 (by decide +kernel) ?_
       | refine bu 11 (by decide +kernel) rfl rfl rfl rfl (bR rfl rfl rfl rfl rfl (.p rfl)) ?_
       | refine bh 12 (by decide +kernel) ?_
       | refine gQ (by decide +kernel) ?_
       | refine dr 1 9 (by decide +kernel) ?_ ?_
       | refine bh 1 (by decide +kernel) ?_
       | exact gZ (a75,c76) (gA rfl) (bg (aC (aC (aC (aC aN)))) (bg (aC (aC aN)) (bg (aC (aC aN)) (bg (aC (aC aN)) (bN))))) trivial
     rintro ⟨a75,c76⟩ τ ρ1 hsub78 _;(try dsimp only at hsub78);dsimp only [aw]
     refine eH (kb hsub78 (ah [67,68] [(10,pI (i64.wrap (v54+1)))] (by kernel_rfl) ?_))
     exact aT hb66 (a75,c76) (gA rfl) zs5
    refine aL ?_
    refine cJ hb66 (fun ht=>an rfl ?_)
    exact gZ ((a59,c60),l58) (lK rfl) (bg aN (bg (aC aN) (bg (aC aN) (bg (aC aN) bq)))) ht.symm
   rintro ⟨⟨a63,c64⟩,l65⟩ τ ρ1 hsub79 hz;(try dsimp only at hz hsub79);subst q67;(try dsimp only at hq50);dsimp only [aw]
   obtain rfl:=osi hq50
   exact am ((a63,c64),l65) (lK rfl) (Vb.trans CP hsub79) rfl
  refine af ?_
  refine gc (kq 76 2) ?_
  obtain rfl:=osi hq50
  exact am ((none,0),([]:(List Zb))) (lK rfl) (bg (aC (aC aN)) (bg (aC (aC aN)) (bg (aC (aC aN)) bN))) rfl
 rintro ⟨⟨a47,c48⟩,l49⟩ τ hz;(try dsimp only at hz);subst q50;(try dsimp only at h);dsimp only [aw]
 refine ag (ak ?_)
 refine kH (css:=List.map Zf.enc l13) (a:=a11) (by exact aC (aC aN)) ?_
 refine iR (k:=1) (enc:=Zf.enc) (xs:=l13) (b:=b6) (a:=a11) rfl eG (cE (cE bT)) ?_
 refine kH (css:=List.map Zb.enc l49) (a:=a47) (by exact aC (aC (aC aN))) ?_
 refine iR (k:=2) (enc:=Zb.enc) (xs:=l49) (b:=b6) (a:=a47) rfl eG (cE (cE (cE bT))) (dE 1 [3] [(81,.agg [pL eS x4.1,pL Zf.enc l13,pL Zb.enc l49,pB (x5.1 == 1)])] (by kernel_rfl) (aM rfl rfl (al (vs:=[pL eS x4.1,pL Zf.enc l13,pL Zb.enc l49,pB (x5.1 == 1)]) rfl rfl rfl rfl rfl (cE (cE bT)) zl4 (au (cK ?_)))))
 obtain rfl:=osi h
 exact aH (dZ (di rfl uR rfl)) bq ⟨rfl,rfl⟩
def gi (p0:Zg):Option (Int×Zg):=(aB p0 4).bind fun x1=>cond (decide (0<x1.1)) ((aB x1.2 101).bind fun x3=>some ((i64.wrap (10000*x3.1)),x3.2)) ((aB x1.2 1000001).bind fun x4=>some (x4.1,x4.2))
theorem lf {p0:Zg} {b0:Nat} {r:(Int×Zg)}  (h:gi p0=some r):La 60 [pP b0 0] [Qa.b b0 66 [pL eI p0.L,pI p0.I]] (fun pv ρ'=>pv=pI r.1/\ρ'=[Qa.b b0 66 [pL eI r.2.L,pI r.2.I]]):=by
 unfold gi at h
 refine dk Tryz.func60 rfl Tryz.ntmps60 Tryz.results60 rfl (aQ [2] (by kernel_rfl) (bM (ae h fun x1 hx1 h=>fC 1 [(3,pP b0 0)] (by kernel_rfl) ?_)))
 refine aj rfl (aI rfl rfl (ρ1:=[_]) (aq (by exact aN) Vh) (ar hx1) ?_);rintro _ _ ⟨rfl,rfl⟩
 refine aE [(5,pB (decide (0<x1.1)))] (by kernel_rfl) (fi rfl h (fun hc2 h=>?_) fun hc2 h=>?_)
 ·refine ag ?_
  refine ae h fun x3 hx3 h=>fC 1 [(6,pP b0 0)] (by kernel_rfl) ?_
  refine aj rfl (aI rfl rfl (ρ1:=[_]) (aq (by exact aN) Vh) (ar hx3) ?_);rintro _ _ ⟨rfl,rfl⟩
  refine fV [8] [(2,pI (i64.wrap (10000*x3.1)))] (by kernel_rfl) (sO ?_)
  obtain rfl:=osi h
  exact aH (dZ (az rfl)) bN ⟨rfl,rfl⟩
 refine af ?_
 refine cP h fun x4 hx4 h=>fC 1 [(9,pP b0 0)] (by kernel_rfl) ?_
 refine aj rfl (aI rfl rfl (ρ1:=[_]) (aq (by exact aN) Vh) (ar hx4) ?_);rintro _ _ ⟨rfl,rfl⟩
 refine aE [(2,pI x4.1)] (by kernel_rfl) (cK ?_)
 obtain rfl:=osi h
 exact aH (dZ (az rfl)) bN ⟨rfl,rfl⟩
def gj (p0:Zg):Option (Zs×Zg):=(aB p0 3).bind fun x3=>Option.bind (cond (decide (0<x3.1)) ((gi x3.2).bind fun x9=>some (x9.2.L,x9.2.I,(i64.wrap (Int.tdiv x9.1 4)))) (some (x3.2.L,x3.2.I,0))) (fun (l4,v5,v6)=>(aB (⟨l4,v5⟩:Zg) 3).bind fun x10=>Option.bind (cond (x10.1 == 1) ((aB x10.2 500).bind fun x17=>(aB x17.2 5).bind fun x20=>(bx [1,100,1000,1000000,7] x20.1).bind fun m21=>some (x20.2.L,x20.2.I,(i64.wrap (1+x17.1)),m21)) (some (x10.2.L,x10.2.I,0,0))) (fun (l11,v12,v13,v14)=>(aB (⟨l11,v12⟩:Zg) 4).bind fun x23=>Option.bind (cond (x23.1 == 1) ((gi x23.2).bind fun x30=>some (x30.2.L,x30.2.I,true,x30.1)) (some (x23.2.L,x23.2.I,false,0))) (fun (l24,v25,v26,v27)=>(aB (⟨l24,v25⟩:Zg) 4).bind fun x31=>Option.bind (cond (x31.1 == 1) ((gi x31.2).bind fun x38=>cond v26 (some (x38.2.L,x38.2.I,true,(lJ (i64.wrap (Int.tdiv x38.1 8)) v27))) (some (x38.2.L,x38.2.I,true,(i64.wrap (Int.tdiv x38.1 8))))) (some (x31.2.L,x31.2.I,false,0))) (fun (l32,v33,v34,v35)=>some ((⟨v6,v13,v14,v26,v27,v34,v35⟩:Zs),(⟨l32,v33⟩:Zg))))))
theorem lg {p0:Zg} {b0:Nat} {r:(Zs×Zg)}  (h:gj p0=some r):La 26 [pP b0 0] [Qa.b b0 66 [pL eI p0.L,pI p0.I]] (fun pv ρ'=>pv=.agg [pI r.1.Rate,pI r.1.Amount,pI r.1.Per,pB r.1.HasMost,pI r.1.Most,pB r.1.HasLeast,pI r.1.Least]/\ρ'=[Qa.b b0 66 [pL eI r.2.L,pI r.2.I]]):=by
 unfold gj at h
 refine dk Tryz.func26 rfl Tryz.ntmps26 Tryz.results26 rfl (cL rfl (aP (cs:=[pI 0,pI 0,pI 0,pB false,pI 0,pB false,pI 0]) rfl rfl rfl rfl (fun b1=>au (br (fC 1 [(4,.agg [pI 0,pI 0,pI 0,pB false,pI 0,pB false,pI 0])] (by kernel_rfl) (aj rfl (aP (cs:=[pI 0,pI 0,pI 0,pB false,pI 0,pB false,pI 0]) rfl rfl rfl rfl (fun b2=>aM rfl rfl (al (vs:=[pI 0,pI 0,pI 0,pB false,pI 0,pB false,pI 0]) rfl rfl rfl rfl rfl bT zl7 (au (bM (ae h fun x3 hx3 h=>fC 1 [(5,pP b0 0)] (by kernel_rfl) ?_))))))))))))
 refine aj rfl (aI rfl rfl (ρ1:=[_]) (aq (by exact aC (aC aN)) Vh) (ar hx3) ?_);rintro _ _ ⟨rfl,rfl⟩
 refine aE [(7,pB (decide (0<x3.1)))] (by kernel_rfl) (ey h fun q7 hq7 h=>?_)
 refine ap (Y:=Unit×((List Int)×Int×Int)) (fun (_,(l4,v5,v6))=>[(0,pP b0 0),(2,pP b1 0),(3,pP b2 0)]) (fun (_,(l4,v5,v6))=>[Qa.b b0 66 [pL eI l4,pI v5],Qa.b b1 78 [pI 0,pI 0,pI 0,pB false,pI 0,pB false,pI 0],Qa.b b2 78 [pI v6,pI 0,pI 0,pB false,pI 0,pB false,pI 0]]) (fun (_,(l4,v5,v6))=>q7=(l4,v5,v6)) ?_ ?_
 ·skip
  refine fh rfl hq7 (fun hc8 hq7=>?_) fun hc8 hq7=>?_
  ·refine ae hq7 ?_;clear hq7;intro x9 hx9 hq7
   refine fC 1 [(8,pP b0 0)] (by kernel_rfl) ?_
   refine aj rfl (aI rfl rfl (ρ1:=[_]) (aq (by exact aN) Vh) (lf hx9) ?_);rintro _ _ ⟨rfl,rfl⟩
   refine ba 2 [(10,pI (i64.wrap (Int.tdiv x9.1 4))),(11,pP b2 0)] (by kernel_rfl) (aM rfl rfl (al (vs:=[pI (i64.wrap (Int.tdiv x9.1 4))]) rfl rfl rfl rfl rfl (cE bT) ii (au ?_)))
   obtain rfl:=osi hq7
   exact am ((),(x9.2.L,x9.2.I,(i64.wrap (Int.tdiv x9.1 4)))) (nt rfl) (bg aN (bg (aC aN) bN)) rfl
  refine af ?_
  obtain rfl:=osi hq7
  exact am ((),(x3.2.L,x3.2.I,0)) (nt rfl) (bg aN (bg (aC aN) bN)) rfl
 rintro ⟨_,⟨l4,v5,v6⟩⟩ τ hz;(try dsimp only at hz);subst q7;(try dsimp only at h);dsimp only [aw]
 refine dV (ae h fun x10 hx10 h=>fC 1 [(12,pP b0 0)] (by kernel_rfl) ?_)
 refine aj rfl (aI rfl rfl (ρ1:=[_]) (aq (by exact aN) Vh) (ar hx10) ?_);rintro _ _ ⟨rfl,rfl⟩
 refine aE [(14,pB (x10.1 == 1))] (by kernel_rfl) (ey h fun q15 hq15 h=>?_)
 refine ap (Y:=Unit×((List Int)×Int×Int×Int)) (fun (_,(l11,v12,v13,v14))=>[(0,pP b0 0),(2,pP b1 0),(3,pP b2 0)]) (fun (_,(l11,v12,v13,v14))=>[Qa.b b0 66 [pL eI l11,pI v12],Qa.b b1 78 [pI 0,pI 0,pI 0,pB false,pI 0,pB false,pI 0],Qa.b b2 78 [pI v6,pI v13,pI v14,pB false,pI 0,pB false,pI 0]]) (fun (_,(l11,v12,v13,v14))=>q15=(l11,v12,v13,v14)) ?_ ?_
 ·skip
  refine fh rfl hq15 (fun hc16 hq15=>?_) fun hc16 hq15=>?_
  ·refine ae hq15 ?_;clear hq15;intro x17 hx17 hq15
   refine ae hq15 fun x20 hx20 hq15=>ae hq15 fun m21 hm21 hq15=>?_
   refine eD (Y:=Unit) (fun _=>[(0,pP b0 0),(2,pP b1 0),(3,pP b2 0)]) (fun _=>[Qa.b b0 66 [pL eI x20.2.L,pI x20.2.I],Qa.b b1 78 [pI 0,pI 0,pI 0,pB false,pI 0,pB false,pI 0],Qa.b b2 78 [pI v6,pI (i64.wrap (1+x17.1)),pI m21,pB false,pI 0,pB false,pI 0]]) (fun _=>True) ?_ ?_
   ·refine gf (ρd:=[Qa.b b0 _ _,Qa.b b2 _ _]) _ (aq aN (aq (aC aN) Vh)) ?_
    repeat' first
     | (refine lr 1 ?_;first | (refine bj rfl rfl rfl rfl (aI rfl rfl (ρ1:=[_]) (aq (by exact aN) Vh) (ar hx17) ?_);rintro _ _ ⟨rfl,rfl⟩) | (refine bj rfl rfl rfl rfl (aI rfl rfl (ρ1:=[_]) (aq (by exact aC aN) Vh) (ar hx17) ?_);rintro _ _ ⟨rfl,rfl⟩))
     | (refine lr 3 ?_;refine bj rfl rfl rfl rfl (bp rfl rfl rfl rfl rfl (eE rfl (eE rfl (eE rfl (eE rfl (eE rfl jy))))) rfl rfl rfl rfl (fun b18=>?_)))
     | (refine lr 5 ?_;first | (refine bj rfl rfl rfl rfl (aI rfl rfl (ρ1:=[_]) (aq (by exact aC aN) Vh) (ar hx20) ?_);rintro _ _ ⟨rfl,rfl⟩) | (refine bj rfl rfl rfl rfl (aI rfl rfl (ρ1:=[_]) (aq (by exact aN) Vh) (ar hx20) ?_);rintro _ _ ⟨rfl,rfl⟩))
     | (refine lr 6 ?_;first | refine bj rfl rfl rfl rfl (kI (d9 (enc:=eI) (xs:=[1,100,1000,1000000,7]) rfl rfl rfl (.p rfl) tz (.p rfl) (fun _=>hm21)) ?_) | refine bj rfl rfl rfl rfl (kI (d9 (enc:=eI) (xs:=[1,100,1000,1000000,7]) rfl rfl rfl (.p rfl) eG (.p rfl) (fun _=>hm21)) ?_))
     | (refine lr 7 ?_;first | refine bj rfl rfl rfl rfl (kI (dj (sz:=1) (p:=pI m21) (enc:=eI) (xs:=[1,100,1000,1000000,7]) (a:=(some ⟨b18,0,none⟩)) x20.1 0 m21 rfl (.p rfl) rfl tz (fun _=>hm21) rfl) ?_) | refine bj rfl rfl rfl rfl (kI (dj (sz:=1) (p:=pI m21) (enc:=eI) (xs:=[1,100,1000,1000000,7]) (a:=(some ⟨b18,0,none⟩)) x20.1 0 m21 rfl (.p rfl) rfl eG (fun _=>hm21) rfl) ?_))
     | (refine lr 9 ?_;first | refine eF rfl rfl rfl (al (vs:=[pI (i64.wrap (1+x17.1))]) rfl rfl rfl rfl rfl (cE (cE bT)) (bV (ii)) ?_) | refine eF rfl rfl rfl (al (vs:=[pI (i64.wrap (1+x17.1))]) rfl rfl rfl rfl rfl (cE bT) (bV (ii)) ?_))
     | (refine lr 11 ?_;refine eF rfl rfl rfl (al (vs:=[pI m21]) rfl rfl rfl rfl rfl (cE (cE bT)) (bV (bV (ii))) ?_))
     | refine bu 0 (by decide +kernel) rfl rfl rfl rfl (bY (p:=pP b0 0) rfl (.p rfl)) ?_
     | refine bu 4 (by decide +kernel) rfl rfl rfl rfl (bY (p:=pP b0 0) rfl (.p rfl)) ?_
     | refine dr 1 3 (by decide +kernel) ?_ ?_
     | refine bu 2 (by decide +kernel) rfl rfl rfl rfl (nB rfl (.p rfl) (.p rfl) rfl) ?_
     | refine bu 8 (by decide +kernel) rfl rfl rfl rfl (bR rfl rfl rfl rfl rfl (.p rfl)) ?_
     | refine dr 3 5 (by decide +kernel) ?_ ?_
     | refine bh 5 (by decide +kernel) ?_
     | refine dr 6 9 (by decide +kernel) ?_ ?_
     | refine dr 7 9 (by decide +kernel) ?_ ?_
     | refine bh 9 (by decide +kernel) ?_
     | refine bu 10 (by decide +kernel) rfl rfl rfl rfl (bR rfl rfl rfl rfl rfl (.p rfl)) ?_
     | refine bh 11 (by decide +kernel) ?_
     | refine gQ (by decide +kernel) ?_
     | refine bh 7 (by decide +kernel) ?_
     | refine bh 6 (by decide +kernel) ?_
     | refine dr 3 9 (by decide +kernel) ?_ ?_
     | refine bh 3 (by decide +kernel) ?_
     | refine bh 1 (by decide +kernel) ?_
     | exact gZ () (nt rfl) (bg aN (bg (aC (aC aN)) (bg (aC aN) bq))) trivial
     | exact gZ () (nt rfl) (bg (aC aN) (bg (aC (aC aN)) (bg (aC aN) bq))) trivial
   rintro _ τ ρ1 hsub22 _;(try dsimp only at hsub22);dsimp only [aw]
   obtain rfl:=osi hq15
   exact am ((),(x20.2.L,x20.2.I,(i64.wrap (1+x17.1)),m21)) (nt rfl) (Vb.trans rI hsub22) rfl
  refine af ?_
  obtain rfl:=osi hq15
  exact am ((),(x10.2.L,x10.2.I,0,0)) (nt rfl) rI rfl
 rintro ⟨_,⟨l11,v12,v13,v14⟩⟩ τ hz;(try dsimp only at hz);subst q15;(try dsimp only at h);dsimp only [aw]
 refine dV (ae h fun x23 hx23 h=>fC 1 [(25,pP b0 0)] (by kernel_rfl) ?_)
 refine aj rfl (aI rfl rfl (ρ1:=[_]) (aq (by exact aN) Vh) (ar hx23) ?_);rintro _ _ ⟨rfl,rfl⟩
 refine aE [(27,pB (x23.1 == 1))] (by kernel_rfl) (ey h fun q28 hq28 h=>?_)
 refine ap (Y:=Unit×((List Int)×Int×Bool×Int)) (fun (_,(l24,v25,v26,v27))=>[(0,pP b0 0),(2,pP b1 0),(3,pP b2 0)]) (fun (_,(l24,v25,v26,v27))=>[Qa.b b0 66 [pL eI l24,pI v25],Qa.b b1 78 [pI 0,pI 0,pI 0,pB false,pI 0,pB false,pI 0],Qa.b b2 78 [pI v6,pI v13,pI v14,pB v26,pI v27,pB false,pI 0]]) (fun (_,(l24,v25,v26,v27))=>q28=(l24,v25,v26,v27)) ?_ ?_
 ·skip
  refine fh rfl hq28 (fun hc29 hq28=>?_) fun hc29 hq28=>?_
  ·refine ae hq28 ?_;clear hq28;intro x30 hx30 hq28
   refine fC 1 [(28,pP b0 0)] (by kernel_rfl) ?_
   refine aj rfl (aI rfl rfl (ρ1:=[_]) (aq (by exact aN) Vh) (lf hx30) ?_);rintro _ _ ⟨rfl,rfl⟩
   refine ba 1 [(30,pP b2 3)] (by kernel_rfl) (aM rfl rfl (al (vs:=[pB true]) rfl rfl rfl rfl rfl (cE (cE bT)) (bV (bV (bV ii))) (ba 1 [(31,pP b2 4)] (by kernel_rfl) (aM rfl rfl (al (vs:=[pI x30.1]) rfl rfl rfl rfl rfl (cE (cE bT)) (bV (bV (bV (bV ii)))) (au ?_))))))
   obtain rfl:=osi hq28
   exact am ((),(x30.2.L,x30.2.I,true,x30.1)) (nt rfl) rI rfl
  refine af ?_
  obtain rfl:=osi hq28
  exact am ((),(x23.2.L,x23.2.I,false,0)) (nt rfl) rI rfl
 rintro ⟨_,⟨l24,v25,v26,v27⟩⟩ τ hz;(try dsimp only at hz);subst q28;(try dsimp only at h);dsimp only [aw]
 refine dV (ae h fun x31 hx31 h=>fC 1 [(32,pP b0 0)] (by kernel_rfl) ?_)
 refine aj rfl (aI rfl rfl (ρ1:=[_]) (aq (by exact aN) Vh) (ar hx31) ?_);rintro _ _ ⟨rfl,rfl⟩
 refine aE [(34,pB (x31.1 == 1))] (by kernel_rfl) (ey h fun q36 hq36 h=>?_)
 refine ap (Y:=Unit×((List Int)×Int×Bool×Int)) (fun (_,(l32,v33,v34,v35))=>[(2,pP b1 0),(3,pP b2 0)]) (fun (_,(l32,v33,v34,v35))=>[Qa.b b0 66 [pL eI l32,pI v33],Qa.b b1 78 [pI 0,pI 0,pI 0,pB false,pI 0,pB false,pI 0],Qa.b b2 78 [pI v6,pI v13,pI v14,pB v26,pI v27,pB v34,pI v35]]) (fun (_,(l32,v33,v34,v35))=>q36=(l32,v33,v34,v35)) ?_ ?_
 ·skip
  refine fh rfl hq36 (fun hc37 hq36=>?_) fun hc37 hq36=>?_
  ·refine ag ?_
   refine ae hq36 fun x38 hx38 hq36=>fC 1 [(35,pP b0 0)] (by kernel_rfl) ?_
   refine aj rfl (aI rfl rfl (ρ1:=[_]) (aq (by exact aN) Vh) (lf hx38) ?_);rintro _ _ ⟨rfl,rfl⟩
   refine ba 2 [(37,pI (i64.wrap (Int.tdiv x38.1 8))),(38,pP b2 5)] (by kernel_rfl) (aM rfl rfl (al (vs:=[pB true]) rfl rfl rfl rfl rfl (cE (cE bT)) (bV (bV (bV (bV (bV ii))))) (ba 1 [(39,pP b2 6)] (by kernel_rfl) (aM rfl rfl (al (vs:=[pI (i64.wrap (Int.tdiv x38.1 8))]) rfl rfl rfl rfl rfl (cE (cE bT)) (bV (bV (bV (bV (bV (bV ii)))))) (au (br (aK [2] [40] [(41,pB v26)] (by kernel_rfl) (fi rfl hq36 (fun hc39 hq36=>?_) fun hc39 hq36=>?_)))))))))
   ·refine ak ?_
    refine bH 6 [2,2] [42,43,44,45] [(46,pI (lJ (i64.wrap (Int.tdiv x38.1 8)) v27)),(47,pP b2 6)] (by kernel_rfl) (aM rfl rfl (al (vs:=[pI (lJ (i64.wrap (Int.tdiv x38.1 8)) v27)]) rfl rfl rfl rfl rfl (cE (cE bT)) (bV (bV (bV (bV (bV (bV ii)))))) (au ?_)))
    obtain rfl:=osi hq36
    exact am ((),(x38.2.L,x38.2.I,true,(lJ (i64.wrap (Int.tdiv x38.1 8)) v27))) (lK rfl) rI rfl
   refine af ?_
   obtain rfl:=osi hq36
   exact am ((),(x38.2.L,x38.2.I,true,(i64.wrap (Int.tdiv x38.1 8)))) (lK rfl) rI rfl
  refine af ?_
  obtain rfl:=osi hq36
  exact am ((),(x31.2.L,x31.2.I,false,0)) (lK rfl) rI rfl
 rintro ⟨_,⟨l32,v33,v34,v35⟩⟩ τ hz;(try dsimp only at hz);subst q36;(try dsimp only at h);dsimp only [aw]
 refine ag (ak (dE 1 [2] [(48,.agg [pI v6,pI v13,pI v14,pB v26,pI v27,pB v34,pI v35])] (by kernel_rfl) (aM rfl rfl (al (vs:=[pI v6,pI v13,pI v14,pB v26,pI v27,pB v34,pI v35]) rfl rfl rfl rfl rfl (cE bT) zl7 (au (cK ?_))))))
 obtain rfl:=osi h
 exact aH (dZ (di rfl tz rfl)) bN ⟨rfl,rfl⟩
def fk (p0:Zg) (p1:Int):Option (Xh×Zg):=(aB p0 2).bind fun x1=>(aW (S:=(List Int)×(List Int)×Int) (T:=((List Int)×(List Int)×Int)) (fun (l5,l8,v9)=>cond (decide (((l5.length:Nat):Int)<p1)) ((aB (⟨l8,v9⟩:Zg) 3).bind fun x19=>(app 1 l5 [48,(u8.wrap (i64.wrap (49+x19.1)))]).bind fun l22=>some (.inl (l22,x19.2.L,x19.2.I))) (some (.inr (l5,l8,v9)))) Va ([57,(u8.wrap (i64.wrap (52+x1.1)))],x1.2.L,x1.2.I)).bind fun (l13,l14,v15)=>some ((strOfNums l13),(⟨l14,v15⟩:Zg))
theorem n6 {p0:Zg} {p1:Int} {b0:Nat} {r:(Xh×Zg)}  (h:fk p0 p1=some r):La 27 [pP b0 0,pI p1] [Qa.b b0 66 [pL eI p0.L,pI p0.I]] (fun pv ρ'=>pv=pS r.1/\ρ'=[Qa.b b0 66 [pL eI r.2.L,pI r.2.I]]):=by
 unfold fk at h
 refine dk Tryz.func27 rfl Tryz.ntmps27 Tryz.results27 rfl (aQ [4] (by kernel_rfl) (cP h fun x1 hx1 h=>fC 1 [(6,pP b0 0)] (by kernel_rfl) ?_))
 refine aj rfl (aI rfl rfl (ρ1:=[_]) (aq (by exact aN) Vh) (ar hx1) ?_);rintro _ _ ⟨rfl,rfl⟩
 refine bU 2 [8] [(9,pY (u8.wrap (i64.wrap (52+x1.1))))] (by kernel_rfl) (aj rfl (bp rfl rfl rfl rfl rfl (eE rfl (eE rfl jy)) rfl rfl rfl rfl (fun b2=>aE [(5,pO (some ⟨b2,0,none⟩) 2 2)] (by kernel_rfl) (cP h fun q17 hq17 h=>?_))))
 refine ap (Y:=(Option Addr×Nat)×((List Int)×(List Int)×Int)) (fun ((a11,c12),(l13,l14,v15))=>[(5,pO a11 l13.length c12)]) (fun ((a11,c12),(l13,l14,v15))=>[Qa.b b0 66 [pL eI l14,pI v15],Qa.row a11 l13.length c12 5 1 (List.map eB l13)]) (fun ((a11,c12),(l13,l14,v15))=>q17=(l13,l14,v15)) ?_ ?_
 ·refine aG ?_
  refine aJ (Y:=Option Addr×Nat) (S:=(List Int)×(List Int)×Int) _ hq17 (fun (a6,c7) (l5,l8,v9)=>[(0,pP b0 0),(1,pI p1),(5,pO a6 l5.length c7)]) (fun (a6,c7) (l5,l8,v9)=>[Qa.b b0 66 [pL eI l8,pI v9],Qa.row a6 l5.length c7 5 1 (List.map eB l5)]) ((some ⟨b2,0,none⟩),2) (nt rfl) (bg (aC aN) bN) ?_
  rintro ⟨a6,c7⟩ ⟨l5,l8,v9⟩ o τ hb16;(try dsimp only at hb16);dsimp only [aw]
  refine dV (bF [11,12,13] [(14,pB (decide (((l5.length:Nat):Int)<p1)))] (by kernel_rfl) rfl hb16 (fun hc18 hb16=>?_) fun hc18 hb16=>?_)
  ·refine af ?_
   refine aD (aG (ae hb16 fun x19 hx19 hb16=>fC 2 [(15,pO a6 l5.length c7),(16,pP b0 0)] (by kernel_rfl) ?_))
   refine aj rfl (aI rfl rfl (ρ1:=[_]) (aq (by exact aN) Vh) (ar hx19) ?_);rintro _ _ ⟨rfl,rfl⟩
   refine bU 2 [18] [(19,pY (u8.wrap (i64.wrap (49+x19.1))))] (by kernel_rfl) (aj rfl (bp rfl rfl rfl rfl rfl (eE rfl (eE rfl jy)) rfl rfl rfl rfl (fun b20=>ae hb16 fun l22 hl22 hb16=>?_)))
   refine aj rfl (bw (enc:=eB) rfl rfl rfl rfl rfl rfl rfl rfl rfl eG (by exact aC (aC aN)) hl22 (fun a23 c24=>?_))
   refine aE [(5,pO a23 l22.length c24)] (by kernel_rfl) (aF ?_)
   exact aT hb16 (a23,c24) (nt rfl) (bg (aC (aC aN)) bN)
  refine aL ?_
  refine cJ hb16 (fun ht=>an rfl ?_)
  exact am ((a6,c7),(l5,l8,v9)) (oC rfl) tc ht.symm
 rintro ⟨⟨a11,c12⟩,⟨l13,l14,v15⟩⟩ τ hz;(try dsimp only at hz);subst q17;(try dsimp only at h);dsimp only [aw]
 refine ag (fC 1 [(22,pO a11 l13.length c12)] (by kernel_rfl) (aj rfl (Bt rfl rfl rfl rfl rfl (xs:=l13) tz rfl (aE [(4,pS (strOfNums l13))] (by kernel_rfl) (cK ?_)))))
 obtain rfl:=osi h
 exact aH (dZ (az rfl)) bN ⟨rfl,rfl⟩
def gt  : Option (List Xh):=some [(⟨#[65,65]⟩:Xh),(⟨#[66,66]⟩:Xh),(⟨#[67,67]⟩:Xh),(⟨#[68,68]⟩:Xh),(⟨#[69,69]⟩:Xh),(⟨#[70,70]⟩:Xh)]
theorem pj  {r:(List Xh)}  (h:gt  = some r):PF 28 [] (pL eS r):=by
 unfold gt at h
 refine aV ?_
 refine dk Tryz.func28 rfl Tryz.ntmps28 Tryz.results28 rfl (aQ [0] (by kernel_rfl) (br (cL rfl (bp rfl rfl rfl rfl rfl (eE rfl (eE rfl (eE rfl (eE rfl (eE rfl (eE rfl jy)))))) rfl rfl rfl rfl (fun b1=>aE [(0,pO (some ⟨b1,0,none⟩) 6 6)] (by kernel_rfl) (aD ?_))))))
 refine fj (enc:=eS) (xs:=[(⟨#[65,65]⟩:Xh),(⟨#[66,66]⟩:Xh),(⟨#[67,67]⟩:Xh),(⟨#[68,68]⟩:Xh),(⟨#[69,69]⟩:Xh),(⟨#[70,70]⟩:Xh)]) 0 rfl (by exact aN) ?_
 refine bi ?_
 exact zz r h rfl
def lu (p0:(List Int)):Option (List Zc):=(mC p0 300).bind fun x1=>(aB (⟨x1,0⟩:Zg) 8).bind fun x3=>Option.bind (cond (decide (0<x3.1)) ((gj x3.2).bind fun x12=>(gj x12.2).bind fun x13=>(app 144 ([]:List Zc) [(⟨1,1,(⟨#[57,52]⟩:Xh),[],0,0,36525,(-1),x12.1⟩:Zc),(⟨2,1,(⟨#[57,53]⟩:Xh),[],0,0,25,(-1),x13.1⟩:Zc)]).bind fun l17=>some (l17,x13.2.L,x13.2.I)) (some (([]:(List Zc)),x3.2.L,x3.2.I))) (fun (l7,l8,v9)=>(aB (⟨l8,v9⟩:Zg) 13).bind fun x21=>(aW (S:=(List Zc)×Int×(List Int)×Int) (T:=((List Zc))) (fun (l23,v26,l27,v28)=>cond (decide (v26<x21.1)) ((aB (⟨l27,v28⟩:Zg) 6).bind fun x36=>(aB x36.2 4).bind fun x37=>(fk x37.2 (i64.wrap (2+(i64.wrap (2*x37.1))))).bind fun x38=>(aB x38.2 20).bind fun x39=>(gj x39.2).bind fun x40=>(aB x40.2 30).bind fun x42=>(aB x42.2 3).bind fun x43=>Option.bind (cond (x43.1 == 1) ((aB x43.2 (i64.wrap (x39.1+1))).bind fun x50=>some (x50.2.L,x50.2.I,x50.1)) (some (x43.2.L,x43.2.I,(-1)))) (fun (l45,v46,v47)=>(aB (⟨l45,v46⟩:Zg) 3).bind fun x51=>Option.bind (cond (x51.1 == 1) ((aB x51.2 2).bind fun x58=>some (x58.2.L,x58.2.I,(i64.wrap (1+x58.1)))) (some (x51.2.L,x51.2.I,0))) (fun (l53,v54,v55)=>(aB (⟨l53,v54⟩:Zg) 16).bind fun x59=>(aW (S:=Int×(List Xh)) (T:=((List Xh))) (fun (v60,l62)=>cond ((decide (v60<3))&&(decide (7<x59.1))) (((sN v60).bind fun u80=>cond ((ji .i64 (ex .i64 x59.1 v60) 1) == 1) ((gt).bind fun x82=>(bx x82 v60).bind fun m83=>(app 16 l62 [m83]).bind fun l86=>some l86) (some l62)).bind fun l78=>some (.inl ((i64.wrap (v60+1)),l78))) (some (.inr l62))) Va (0,([]:List Xh))).bind fun l69=>(app 144 l23 [(⟨(i64.wrap (3+(i64.wrap (2*v26)))),(i64.wrap (1+x36.1)),x38.1,l69,v55,x39.1,(i64.wrap ((i64.wrap (x39.1+1))+x42.1)),v47,x40.1⟩:Zc)]).bind fun l93=>some (.inl (l93,(i64.wrap (v26+1)),x59.2.L,x59.2.I))))) (some (.inr l23))) Va (l7,0,x21.2.L,x21.2.I)).bind fun l32=>some l32)
theorem vf {p0:(List Int)} {r:(List Zc)}  (h:lu p0=some r):PF 6 [pL eI p0] (pL Zc.enc r):=by
 unfold lu at h
 refine aV ?_
 refine dk Tryz.func6 rfl Tryz.ntmps6 Tryz.results6 rfl (aQ [2] (by kernel_rfl) (cP h fun x1 hx1 h=>cS 3 [] [10,11] [(12,.agg [pL eI x1,pI 0])] (aU 1 (ph hx1) aY) (by kernel_rfl) (aj rfl (be (cs:=[pL eI x1,pI 0]) rfl rfl (fun b2=>aE [(3,pP b2 0)] (by kernel_rfl) (br (aA [(4,pN)] (by kernel_rfl) (bM (ae h fun x3 hx3 h=>fC 1 [(14,pP b2 0)] (by kernel_rfl) ?_)))))))))
 refine aj rfl (aI rfl rfl (ρ1:=[_]) (aq (by exact aN) Vh) (ar hx3) ?_);rintro _ _ ⟨rfl,rfl⟩
 refine aE [(16,pB (decide (0<x3.1)))] (by kernel_rfl) (ey h fun q10 hq10 h=>?_)
 refine ap (Y:=(Option Addr×Nat)×((List Zc)×(List Int)×Int)) (fun ((a5,c6),(l7,l8,v9))=>[(3,pP b2 0),(4,pO a5 l7.length c6)]) (fun ((a5,c6),(l7,l8,v9))=>[Qa.b b2 66 [pL eI l8,pI v9],Qa.row a5 l7.length c6 81 15 (List.map Zc.enc l7)]) (fun ((a5,c6),(l7,l8,v9))=>q10=(l7,l8,v9)) ?_ ?_
 ·skip
  refine fh rfl hq10 (fun hc11 hq10=>?_) fun hc11 hq10=>?_
  ·refine ae hq10 ?_;clear hq10;intro x12 hx12 hq10
   refine fC 2 [(17,pN),(18,pP b2 0)] (by kernel_rfl) ?_
   refine aj rfl (aI rfl rfl (ρ1:=[_]) (aq (by exact aN) Vh) (lg hx12) ?_);rintro _ _ ⟨rfl,rfl⟩
   refine ae hq10 fun x13 hx13 hq10=>ba 2 [(20,.agg [pI 1,pI 1,pS (⟨#[57,52]⟩:Xh),pN,pI 0,pI 0,pI 36525,pI (-1),pI x12.1.Rate,pI x12.1.Amount,pI x12.1.Per,pB x12.1.HasMost,pI x12.1.Most,pB x12.1.HasLeast,pI x12.1.Least]),(21,pP b2 0)] (by kernel_rfl) ?_
   refine aj rfl (aI rfl rfl (ρ1:=[_]) (aq (by exact aN) Vh) (lg hx13) ?_);rintro _ _ ⟨rfl,rfl⟩
   refine ba 1 [(23,.agg [pI 2,pI 1,pS (⟨#[57,53]⟩:Xh),pN,pI 0,pI 0,pI 25,pI (-1),pI x13.1.Rate,pI x13.1.Amount,pI x13.1.Per,pB x13.1.HasMost,pI x13.1.Most,pB x13.1.HasLeast,pI x13.1.Least])] (by kernel_rfl) (oL 20 3 rfl rfl (oL 23 3 rfl rfl (aj rfl (bp rfl rfl rfl rfl rfl (eE rfl (eE rfl jy)) rfl rfl rfl rfl (fun b14=>oJ 81 15 (ae hq10 fun l17 hl17 hq10=>?_))))))
   refine aj rfl (bw (enc:=Zc.enc) rfl rfl rfl rfl rfl rfl rfl rfl rfl tz (by exact aN) hl17 (fun a18 c19=>?_))
   refine aE [(4,pO a18 l17.length c19)] (by kernel_rfl) ?_
   obtain rfl:=osi hq10
   exact am ((a18,c19),(l17,x13.2.L,x13.2.I)) (lK rfl) (bg (aC (aC aN)) bN) rfl
  refine af ?_
  refine gc (kq 81 15) ?_
  obtain rfl:=osi hq10
  exact am ((none,0),(([]:(List Zc)),x3.2.L,x3.2.I)) (lK rfl) (bg (aC aN) bN) rfl
 rintro ⟨⟨a5,c6⟩,⟨l7,l8,v9⟩⟩ τ hz;(try dsimp only at hz);subst q10;(try dsimp only at h);dsimp only [aw]
 refine dV (ae h fun x21 hx21 h=>fC 1 [(26,pP b2 0)] (by kernel_rfl) ?_)
 refine aj rfl (aI rfl rfl (ρ1:=[_]) (aq (by exact aN) Vh) (ar hx21) ?_);rintro _ _ ⟨rfl,rfl⟩
 refine aE [(5,pI 0),(6,pI x21.1)] (by kernel_rfl) (ey h fun q34 hq34 h=>?_)
 refine ap (Y:=(Option Addr×Nat)×((List Zc))) (fun ((a30,c31),l32)=>[(4,pO a30 l32.length c31)]) (fun ((a30,c31),l32)=>[Qa.row a30 l32.length c31 81 15 (List.map Zc.enc l32)]) (fun ((a30,c31),l32)=>q34=l32) ?_ ?_
 ·refine aG ?_
  refine aJ (Y:=Option Addr×Nat) (S:=(List Zc)×Int×(List Int)×Int) _ hq34 (fun (a24,c25) (l23,v26,l27,v28)=>[(3,pP b2 0),(4,pO a24 l23.length c25),(5,pI v26),(6,pI x21.1)]) (fun (a24,c25) (l23,v26,l27,v28)=>[Qa.b b2 66 [pL eI l27,pI v28],Qa.row a24 l23.length c25 81 15 (List.map Zc.enc l23)]) (a5,c6) (jC rfl) tc ?_
  rintro ⟨a24,c25⟩ ⟨l23,v26,l27,v28⟩ o τ hb33;(try dsimp only at hb33);dsimp only [aw]
  refine dV (bF [28,29] [(30,pB (decide (v26<x21.1)))] (by kernel_rfl) rfl hb33 (fun hc35 hb33=>?_) fun hc35 hb33=>?_)
  ·refine af ?_
   refine eT (ae hb33 fun x36 hx36 hb33=>ak (bU 4 [33,34] [(35,pI (i64.wrap (3+(i64.wrap (2*v26))))),(36,pP b2 0)] (by kernel_rfl) ?_))
   refine aj rfl (aI rfl rfl (ρ1:=[_]) (aq (by exact aN) Vh) (ar hx36) ?_);rintro _ _ ⟨rfl,rfl⟩
   refine ae hb33 fun x37 hx37 hb33=>ba 3 [(38,pI (i64.wrap (1+x36.1))),(39,pP b2 0),(40,pP b2 0)] (by kernel_rfl) ?_
   refine aj rfl (aI rfl rfl (ρ1:=[_]) (aq (by exact aN) Vh) (ar hx37) ?_);rintro _ _ ⟨rfl,rfl⟩
   refine ae hb33 fun x38 hx38 hb33=>bU 2 [42] [(43,pI (i64.wrap (2+(i64.wrap (2*x37.1)))))] (by kernel_rfl) ?_
   refine aj rfl (aI rfl rfl (ρ1:=[_]) (aq (by exact aN) Vh) (n6 hx38) ?_);rintro _ _ ⟨rfl,rfl⟩
   refine ae hb33 fun x39 hx39 hb33=>ba 1 [(45,pP b2 0)] (by kernel_rfl) ?_
   refine aj rfl (aI rfl rfl (ρ1:=[_]) (aq (by exact aN) Vh) (ar hx39) ?_);rintro _ _ ⟨rfl,rfl⟩
   refine ae hb33 fun x40 hx40 hb33=>ba 1 [(47,pP b2 0)] (by kernel_rfl) ?_
   refine aj rfl (aI rfl rfl (ρ1:=[_]) (aq (by exact aN) Vh) (lg hx40) ?_);rintro _ _ ⟨rfl,rfl⟩
   refine ba 1 [(49,.agg [pI (i64.wrap (3+(i64.wrap (2*v26)))),pI (i64.wrap (1+x36.1)),pS x38.1,pN,pI 0,pI x39.1,pI 0,pI (-1),pI x40.1.Rate,pI x40.1.Amount,pI x40.1.Per,pB x40.1.HasMost,pI x40.1.Most,pB x40.1.HasLeast,pI x40.1.Least])] (by kernel_rfl) (aj rfl (aP (cs:=[pI 0,pI 0,pS Uh,pN,pI 0,pI 0,pI 0,pI 0,pI 0,pI 0,pI 0,pB false,pI 0,pB false,pI 0]) rfl rfl rfl rfl (fun b41=>aM rfl rfl (al (vs:=[pI (i64.wrap (3+(i64.wrap (2*v26)))),pI (i64.wrap (1+x36.1)),pS x38.1,pN,pI 0,pI x39.1,pI 0,pI (-1),pI x40.1.Rate,pI x40.1.Amount,pI x40.1.Per,pB x40.1.HasMost,pI x40.1.Most,pB x40.1.HasLeast,pI x40.1.Least]) rfl rfl rfl rfl rfl bT (gr (gr (gr (gr (gr (gr GT)))))) (au (cP hb33 fun x42 hx42 hb33=>?_))))))
   refine ap (Y:=Unit) (fun _=>[(3,pP b2 0),(4,pO a24 l23.length c25),(5,pI v26),(6,pI x21.1),(7,pP b41 0)]) (fun _=>[Qa.b b2 66 [pL eI x42.2.L,pI x42.2.I],Qa.b b41 81 [pI (i64.wrap (3+(i64.wrap (2*v26)))),pI (i64.wrap (1+x36.1)),pS x38.1,pN,pI 0,pI x39.1,pI (i64.wrap ((i64.wrap (x39.1+1))+x42.1)),pI (-1),pI x40.1.Rate,pI x40.1.Amount,pI x40.1.Per,pB x40.1.HasMost,pI x40.1.Most,pB x40.1.HasLeast,pI x40.1.Least],Qa.row a24 l23.length c25 81 15 (List.map Zc.enc l23)]) (fun _=>True) ?_ ?_
   ·refine gf (ρd:=[Qa.b b2 _ _,Qa.b b41 _ _]) _ (aq (aC aN) Vh) ?_
    repeat' first
     | (refine lr 1 ?_;refine bj rfl rfl rfl rfl (kI (co (p:=pI x39.1) rfl (.p rfl) tz rfl) ?_))
     | (refine lr 4 ?_;refine bj rfl rfl rfl rfl (aI rfl rfl (ρ1:=[_]) (aq (by exact aN) Vh) (ar hx42) ?_);rintro _ _ ⟨rfl,rfl⟩)
     | (refine lr 7 ?_;refine eF rfl rfl rfl (al (vs:=[pI (i64.wrap ((i64.wrap (x39.1+1))+x42.1))]) rfl rfl rfl rfl rfl (cE bT) (bV (bV (bV (bV (bV (bV (ii))))))) ?_))
     | refine bu 0 (by decide +kernel) rfl rfl rfl rfl (bR rfl rfl rfl rfl rfl (.p rfl)) ?_
     | refine bu 3 (by decide +kernel) rfl rfl rfl rfl (bY (p:=pP b2 0) rfl (.p rfl)) ?_
     | refine dr 1 4 (by decide +kernel) ?_ ?_
     | refine bu 2 (by decide +kernel) rfl rfl rfl rfl (nB rfl (.p rfl) (.p rfl) rfl) ?_
     | refine bh 4 (by decide +kernel) ?_
     | refine bu 5 (by decide +kernel) rfl rfl rfl rfl (nB rfl (.p rfl) (.p rfl) rfl) ?_
     | refine bu 6 (by decide +kernel) rfl rfl rfl rfl (bR rfl rfl rfl rfl rfl (.p rfl)) ?_
     | refine bh 7 (by decide +kernel) ?_
     | refine gQ (by decide +kernel) ?_
     | refine bh 1 (by decide +kernel) ?_
     | exact am () (gA rfl) (rI) trivial
   rintro _ τ _;dsimp only [aw]
   refine dV (ae hb33 fun x43 hx43 hb33=>fC 1 [(57,pP b2 0)] (by kernel_rfl) ?_)
   refine aj rfl (aI rfl rfl (ρ1:=[_]) (aq (by exact aN) Vh) (ar hx43) ?_);rintro _ _ ⟨rfl,rfl⟩
   refine aE [(59,pB (x43.1 == 1))] (by kernel_rfl) (ey hb33 fun q48 hq48 hb33=>?_)
   refine ap (Y:=Unit×((List Int)×Int×Int)) (fun (_,(l45,v46,v47))=>[(3,pP b2 0),(4,pO a24 l23.length c25),(5,pI v26),(6,pI x21.1),(7,pP b41 0)]) (fun (_,(l45,v46,v47))=>[Qa.b b2 66 [pL eI l45,pI v46],Qa.b b41 81 [pI (i64.wrap (3+(i64.wrap (2*v26)))),pI (i64.wrap (1+x36.1)),pS x38.1,pN,pI 0,pI x39.1,pI (i64.wrap ((i64.wrap (x39.1+1))+x42.1)),pI v47,pI x40.1.Rate,pI x40.1.Amount,pI x40.1.Per,pB x40.1.HasMost,pI x40.1.Most,pB x40.1.HasLeast,pI x40.1.Least],Qa.row a24 l23.length c25 81 15 (List.map Zc.enc l23)]) (fun (_,(l45,v46,v47))=>q48=(l45,v46,v47)) ?_ ?_
   ·skip
    refine fh rfl hq48 (fun hc49 hq48=>?_) fun hc49 hq48=>?_
    ·refine ae hq48 ?_;clear hq48;intro x50 hx50 hq48
     refine ak (bH 4 [1] [61,62] [(60,pP b2 0),(63,pI (i64.wrap (x39.1+1)))] (by kernel_rfl) ?_)
     refine aj rfl (aI rfl rfl (ρ1:=[_]) (aq (by exact aN) Vh) (ar hx50) ?_);rintro _ _ ⟨rfl,rfl⟩
     refine ba 1 [(65,pP b41 7)] (by kernel_rfl) (aM rfl rfl (al (vs:=[pI x50.1]) rfl rfl rfl rfl rfl (cE bT) (bV (bV (bV (bV (bV (bV (bV ii))))))) (au ?_)))
     obtain rfl:=osi hq48
     exact am ((),(x50.2.L,x50.2.I,x50.1)) (gA rfl) rI rfl
    refine af ?_
    obtain rfl:=osi hq48
    exact am ((),(x43.2.L,x43.2.I,(-1))) (gA rfl) rI rfl
   rintro ⟨_,⟨l45,v46,v47⟩⟩ τ hz;(try dsimp only at hz);subst q48;(try dsimp only at hb33);dsimp only [aw]
   refine dV (ae hb33 fun x51 hx51 hb33=>fC 1 [(66,pP b2 0)] (by kernel_rfl) ?_)
   refine aj rfl (aI rfl rfl (ρ1:=[_]) (aq (by exact aN) Vh) (ar hx51) ?_);rintro _ _ ⟨rfl,rfl⟩
   refine aE [(68,pB (x51.1 == 1))] (by kernel_rfl) (ey hb33 fun q56 hq56 hb33=>?_)
   refine ap (Y:=Unit×((List Int)×Int×Int)) (fun (_,(l53,v54,v55))=>[(3,pP b2 0),(4,pO a24 l23.length c25),(5,pI v26),(6,pI x21.1),(7,pP b41 0)]) (fun (_,(l53,v54,v55))=>[Qa.b b2 66 [pL eI l53,pI v54],Qa.b b41 81 [pI (i64.wrap (3+(i64.wrap (2*v26)))),pI (i64.wrap (1+x36.1)),pS x38.1,pN,pI v55,pI x39.1,pI (i64.wrap ((i64.wrap (x39.1+1))+x42.1)),pI v47,pI x40.1.Rate,pI x40.1.Amount,pI x40.1.Per,pB x40.1.HasMost,pI x40.1.Most,pB x40.1.HasLeast,pI x40.1.Least],Qa.row a24 l23.length c25 81 15 (List.map Zc.enc l23)]) (fun (_,(l53,v54,v55))=>q56=(l53,v54,v55)) ?_ ?_
   ·skip
    refine fh rfl hq56 (fun hc57 hq56=>?_) fun hc57 hq56=>?_
    ·refine ae hq56 ?_;clear hq56;intro x58 hx58 hq56
     refine fC 1 [(69,pP b2 0)] (by kernel_rfl) ?_
     refine aj rfl (aI rfl rfl (ρ1:=[_]) (aq (by exact aN) Vh) (ar hx58) ?_);rintro _ _ ⟨rfl,rfl⟩
     refine ba 2 [(71,pI (i64.wrap (1+x58.1))),(72,pP b41 4)] (by kernel_rfl) (aM rfl rfl (al (vs:=[pI (i64.wrap (1+x58.1))]) rfl rfl rfl rfl rfl (cE bT) (bV (bV (bV (bV ii)))) (au ?_)))
     obtain rfl:=osi hq56
     exact am ((),(x58.2.L,x58.2.I,(i64.wrap (1+x58.1)))) (gA rfl) rI rfl
    refine af ?_
    obtain rfl:=osi hq56
    exact am ((),(x51.2.L,x51.2.I,0)) (gA rfl) rI rfl
   rintro ⟨_,⟨l53,v54,v55⟩⟩ τ hz;(try dsimp only at hz);subst q56;(try dsimp only at hb33);dsimp only [aw]
   refine ag (ae hb33 fun x59 hx59 hb33=>fC 1 [(73,pP b2 0)] (by kernel_rfl) ?_)
   refine aj rfl (aI rfl rfl (ρ1:=[_]) (aq (by exact aN) Vh) (ar hx59) ?_);rintro _ _ ⟨rfl,rfl⟩
   refine aE [(8,pI x59.1)] (by kernel_rfl) (bM (aA [(9,pI 0)] (by kernel_rfl) (aD (bC 9 1 (ae hb33 fun q71 hq71 hb33=>?_)))))
   refine ap (Y:=(Option Addr×Nat)×((List Xh))) (fun ((a67,c68),l69)=>[(3,pP b2 0),(4,pO a24 l23.length c25),(5,pI v26),(6,pI x21.1),(7,pP b41 0)]) (fun ((a67,c68),l69)=>[Qa.b b2 66 [pL eI x59.2.L,pI x59.2.I],Qa.b b41 81 [pI (i64.wrap (3+(i64.wrap (2*v26)))),pI (i64.wrap (1+x36.1)),pS x38.1,pO a67 l69.length c68,pI v55,pI x39.1,pI (i64.wrap ((i64.wrap (x39.1+1))+x42.1)),pI v47,pI x40.1.Rate,pI x40.1.Amount,pI x40.1.Per,pB x40.1.HasMost,pI x40.1.Most,pB x40.1.HasLeast,pI x40.1.Least],Qa.row a24 l23.length c25 81 15 (List.map Zc.enc l23),Qa.row a67 l69.length c68 9 1 (List.map eS l69)]) (fun ((a67,c68),l69)=>q71=l69) ?_ ?_
   ·refine aG ?_
    refine aJ (Y:=Option Addr×Nat) (S:=Int×(List Xh)) _ hq71 (fun (a63,c64) (v60,l62)=>[(3,pP b2 0),(4,pO a24 l23.length c25),(5,pI v26),(6,pI x21.1),(7,pP b41 0),(8,pI x59.1),(9,pI v60)]) (fun (a63,c64) (v60,l62)=>[Qa.b b2 66 [pL eI x59.2.L,pI x59.2.I],Qa.b b41 81 [pI (i64.wrap (3+(i64.wrap (2*v26)))),pI (i64.wrap (1+x36.1)),pS x38.1,pO a63 l62.length c64,pI v55,pI x39.1,pI (i64.wrap ((i64.wrap (x39.1+1))+x42.1)),pI v47,pI x40.1.Rate,pI x40.1.Amount,pI x40.1.Per,pB x40.1.HasMost,pI x40.1.Most,pB x40.1.HasLeast,pI x40.1.Least],Qa.row a24 l23.length c25 81 15 (List.map Zc.enc l23),Qa.row a63 l62.length c64 9 1 (List.map eS l62)]) (none,0) (yB rfl) (bg (aC aN) (bg (aC aN) (bg (aC aN) bN))) ?_
    rintro ⟨a63,c64⟩ ⟨v60,l62⟩ o τ hb70;(try dsimp only at hb70);dsimp only [aw]
    refine dV (bF (rg 75 5) [(80,pB ((decide (v60<3))&&(decide (7<x59.1))))] (by kernel_rfl) rfl hb70 (fun hc73 hb70=>?_) fun hc73 hb70=>?_)
    ·refine af ?_
     refine cP hb70 fun q79 hq79 hb70=>?_
     refine ap (Y:=(Option Addr×Nat)×((List Xh))) (fun ((a76,c77),l78)=>[(3,pP b2 0),(4,pO a24 l23.length c25),(5,pI v26),(6,pI x21.1),(7,pP b41 0),(8,pI x59.1),(9,pI v60)]) (fun ((a76,c77),l78)=>[Qa.b b2 66 [pL eI x59.2.L,pI x59.2.I],Qa.b b41 81 [pI (i64.wrap (3+(i64.wrap (2*v26)))),pI (i64.wrap (1+x36.1)),pS x38.1,pO a76 l78.length c77,pI v55,pI x39.1,pI (i64.wrap ((i64.wrap (x39.1+1))+x42.1)),pI v47,pI x40.1.Rate,pI x40.1.Amount,pI x40.1.Per,pB x40.1.HasMost,pI x40.1.Most,pB x40.1.HasLeast,pI x40.1.Least],Qa.row a24 l23.length c25 81 15 (List.map Zc.enc l23),Qa.row a76 l78.length c77 9 1 (List.map eS l78)]) (fun ((a76,c77),l78)=>q79=l78) ?_ ?_
     ·skip
      refine rx (ae hq79 fun u80 hu80 hq79=>ai [] [83,84,85,86] [(87,pB ((ji .i64 (ex .i64 x59.1 v60) 1) == 1))] (CV 2 hu80 aY) (by kernel_rfl) (fi rfl hq79 (fun hc81 hq79=>?_) fun hc81 hq79=>?_))
      ·refine ae hq79 ?_;clear hq79;intro x82 hx82 hq79
       refine ae hq79 fun m83 hm83 hq79=>ae hq79 fun l86 hl86 hq79=>?_
       refine eD (Y:=Option Addr×Nat) (fun (a87,c88)=>[(3,pP b2 0),(4,pO a24 l23.length c25),(5,pI v26),(6,pI x21.1),(7,pP b41 0),(8,pI x59.1),(9,pI v60)]) (fun (a87,c88)=>[Qa.b b2 66 [pL eI x59.2.L,pI x59.2.I],Qa.b b41 81 [pI (i64.wrap (3+(i64.wrap (2*v26)))),pI (i64.wrap (1+x36.1)),pS x38.1,pO a87 l86.length c88,pI v55,pI x39.1,pI (i64.wrap ((i64.wrap (x39.1+1))+x42.1)),pI v47,pI x40.1.Rate,pI x40.1.Amount,pI x40.1.Per,pB x40.1.HasMost,pI x40.1.Most,pB x40.1.HasLeast,pI x40.1.Least],Qa.row a24 l23.length c25 81 15 (List.map Zc.enc l23),Qa.row a87 l86.length c88 9 1 (List.map eS l86)]) (fun _=>True) ?_ ?_
       ·refine gf (ρd:=[Qa.row a63 _ _ _ _ _,Qa.b b41 _ _]) _ (aq (aC (aC (aC aN))) (aq (aC aN) Vh)) ?_
        repeat' first
         | (refine lr 1 ?_;first | refine bj rfl rfl rfl rfl (kI (co (p:=pO a63 l62.length c64) rfl (.p rfl) tz rfl) ?_) | refine bj rfl rfl rfl rfl (kI (co (p:=pO a63 l62.length c64) rfl (.p rfl) uR rfl) ?_))
         | (refine lr 2 ?_;refine nf rfl rfl rfl rfl rfl rfl (pj hx82) ?_)
         | (refine lr 6 ?_;refine bj rfl rfl rfl rfl (bp rfl rfl rfl rfl rfl (eE rfl jy) rfl rfl rfl rfl (fun b84=>?_)))
         | (refine lr 7 ?_;refine bj rfl rfl rfl rfl (bw (enc:=eS) rfl rfl rfl rfl rfl rfl rfl rfl rfl eG (by exact aC aN) hl86 (fun a87 c88=>?_)))
         | (refine lr 9 ?_;refine eF rfl rfl rfl (al (vs:=[pO a87 l86.length c88]) rfl rfl rfl rfl rfl (cE (cE bT)) (bV (bV (bV (ii)))) ?_))
         | refine bu 0 (by decide +kernel) rfl rfl rfl rfl (bR rfl rfl rfl rfl rfl (.p rfl)) ?_
         | refine bu 3 (by decide +kernel) rfl rfl rfl rfl (bY (p:=pI v60) rfl (.p rfl)) ?_
         | refine dr 1 2 (by decide +kernel) ?_ ?_
         | refine bh 2 (by decide +kernel) ?_
         | refine bu 4 (by decide +kernel) rfl rfl rfl rfl (ud (enc:=eS) rfl rfl rfl (fun _=>rfl) (.p rfl) (.p rfl) (fun _=>hm83)) ?_
         | refine bu 5 (by decide +kernel) rfl rfl rfl rfl (p9 (p:=pS m83) rfl (.p rfl) rfl) ?_
         | refine bh 6 (by decide +kernel) ?_
         | refine bh 7 (by decide +kernel) ?_
         | refine bu 8 (by decide +kernel) rfl rfl rfl rfl (bR rfl rfl rfl rfl rfl (.p rfl)) ?_
         | refine bh 9 (by decide +kernel) ?_
         | refine gQ (by decide +kernel) ?_
         | refine dr 1 6 (by decide +kernel) ?_ ?_
         | refine bh 1 (by decide +kernel) ?_
         | exact gZ (a87,c88) (yB rfl) (bg (aC (aC (aC aN))) (bg (aC (aC aN)) (bg (aC (aC aN)) (bN)))) trivial
       rintro ⟨a87,c88⟩ τ ρ1 hsub90 _;(try dsimp only at hsub90);dsimp only [aw]
       refine aF ?_
       obtain rfl:=osi hq79
       exact am ((a87,c88),l86) (yB rfl) (Vb.trans CP hsub90) rfl
      refine af ?_
      refine aF ?_
      obtain rfl:=osi hq79
      exact am ((a63,c64),l62) (yB rfl) CP rfl
     rintro ⟨⟨a76,c77⟩,l78⟩ τ hz;(try dsimp only at hz);subst q79;(try dsimp only at hb70);dsimp only [aw]
     refine ah [81,82] [(9,pI (i64.wrap (v60+1)))] (by kernel_rfl) ?_
     exact aT hb70 (a76,c77) (yB rfl) CP
    refine aL ?_
    refine cJ hb70 (fun ht=>an rfl ?_)
    exact am ((a63,c64),l62) (gA rfl) CP ht.symm
   rintro ⟨⟨a67,c68⟩,l69⟩ τ hz;(try dsimp only at hz);subst q71;(try dsimp only at hb33);dsimp only [aw]
   refine fC 1 [(97,pO a24 l23.length c25)] (by kernel_rfl) ?_
   refine kH (css:=List.map eS l69) (a:=a67) (by exact aC (aC (aC aN))) ?_
   refine iR (k:=3) (enc:=eS) (xs:=l69) (b:=b41) (a:=a67) rfl eG (cE (cE bT)) (dE 1 [2] [(98,.agg [pI (i64.wrap (3+(i64.wrap (2*v26)))),pI (i64.wrap (1+x36.1)),pS x38.1,pL eS l69,pI v55,pI x39.1,pI (i64.wrap ((i64.wrap (x39.1+1))+x42.1)),pI v47,pI x40.1.Rate,pI x40.1.Amount,pI x40.1.Per,pB x40.1.HasMost,pI x40.1.Most,pB x40.1.HasLeast,pI x40.1.Least])] (by kernel_rfl) (aj rfl (bp rfl rfl rfl rfl rfl (eE rfl jy) rfl rfl rfl rfl (fun b91=>ae hb33 fun l93 hl93 hb33=>?_))))
   refine aj rfl (bw (enc:=Zc.enc) rfl rfl rfl rfl rfl rfl rfl rfl rfl eG (by exact aC (aC (aC (aC aN)))) hl93 (fun a94 c95=>?_))
   refine aE [(4,pO a94 l93.length c95)] (by kernel_rfl) (eH (ah [31,32] [(5,pI (i64.wrap (v26+1)))] (by kernel_rfl) ?_))
   exact aT hb33 (a94,c95) (jC rfl) (bg (aC (aC (aC aN))) bN)
  refine aL ?_
  refine cJ hb33 (fun ht=>an rfl ?_)
  exact am ((a24,c25),l23) (oC rfl) (bg (aC aN) bq) ht.symm
 rintro ⟨⟨a30,c31⟩,l32⟩ τ hz;(try dsimp only at hz);subst q34;(try dsimp only at h);dsimp only [aw]
 refine ag (ah [101] [(2,pO a30 l32.length c31)] (by kernel_rfl) (aD ?_))
 refine fj (enc:=Zc.enc) (xs:=l32) 2 rfl (by exact aN) ?_
 refine bi ?_
 exact zz r h rfl
def qc (p0:(List Int)):Option Zw:=(mC p0 20).bind fun x2=>(fk (⟨x2,0⟩:Zg) 8).bind fun x4=>(gt).bind fun x5=>(aB x4.2 4).bind fun x6=>(bx x5 x6.1).bind fun m7=>(aB x6.2 2).bind fun x8=>(aB x8.2 3).bind fun x9=>(aB x9.2 41).bind fun x10=>(aB x10.2 1000).bind fun x11=>(aB x11.2 1000000).bind fun x12=>(aB x12.2 6).bind fun x14=>Option.bind (cond (x14.1 == 1) ((aB x14.2 1000000001).bind fun x21=>(aB x21.2 1000000000001).bind fun x22=>some (x21.1,x22.1,x22.2.L,x22.2.I)) (some (x11.1,x12.1,x14.2.L,x14.2.I))) (fun (v15,v16,l17,v18)=>(aB (⟨l17,v18⟩:Zg) 6).bind fun x23=>Option.bind (cond (x23.1 == 1) (some 0) (some v15)) (fun v24=>(aB x23.2 2).bind fun x27=>Option.bind (cond (x27.1 == 1) ((aB x27.2 (i64.wrap (v24+1))).bind fun x31=>some x31.1) (some 0)) (fun v28=>some (⟨x4.1,m7,(x8.1 == 1),x9.1,x10.1,v24,v16,v28⟩:Zw))))
theorem Ap {p0:(List Int)} {r:Zw}  (h:qc p0=some r):PF 7 [pL eI p0] (.agg [pS r.Code,pS r.Origin,pB r.Proof,pI r.Company,pI r.Day,pI r.Quantity,pI r.Value,pI r.Granted]):=by
 unfold qc at h
 refine aV ?_
 refine dk Tryz.func7 rfl Tryz.ntmps7 Tryz.results7 rfl (cL rfl (aP (cs:=[pS Uh,pS Uh,pB false,pI 0,pI 0,pI 0,pI 0,pI 0]) rfl rfl rfl rfl (fun b1=>au (cP h fun x2 hx2 h=>cS 3 [] [5,6] [(7,.agg [pL eI x2,pI 0])] (aU 1 (ph hx2) aY) (by kernel_rfl) (aj rfl (be (cs:=[pL eI x2,pI 0]) rfl rfl (fun b3=>aE [(3,pP b3 0)] (by kernel_rfl) (br (bE (ρd:=[Qa.b b3 _ _]) [(0,0),(3,0),(7,0),(10,0),(12,0),(14,0),(16,0),(1,1),(2,1),(4,1),(5,0),(6,0),(8,1),(9,0),(11,1),(13,1),(15,1),(17,1),(18,0),(19,2),(20,1)] _ Vh (by kernel_rfl) rfl (ae h fun x4 hx4 h=>fB 7 [(9,pP b3 0),(12,pP b3 0),(16,pP b3 0),(19,pP b3 0),(21,pP b3 0),(23,pP b3 0),(25,pP b3 0)] (by kernel_rfl) ?_))))))))))
 refine jm rfl rfl rfl (aI rfl rfl (ρ1:=[_]) (aq (by exact aN) Vh) (n6 hx4) ?_);rintro _ _ ⟨rfl,rfl⟩
 refine ae h fun x5 hx5 h=>ae h fun x6 hx6 h=>ca 1 [] [] [(11,pL eS x5)] (aU 0 (pj hx5) aY) (by kernel_rfl) ?_
 refine jm rfl rfl rfl (aI rfl rfl (ρ1:=[_]) (aq (by exact aN) Vh) (ar hx6) ?_);rintro _ _ ⟨rfl,rfl⟩
 refine ae h fun m7 hm7 h=>ae h fun x8 hx8 h=>ca 2 [] [14] [(15,pS m7)] (bX 0 eS hm7 aY) (by kernel_rfl) ?_
 refine jm rfl rfl rfl (aI rfl rfl (ρ1:=[_]) (aq (by exact aN) Vh) (ar hx8) ?_);rintro _ _ ⟨rfl,rfl⟩
 refine ae h fun x9 hx9 h=>fB 1 [(18,pB (x8.1 == 1))] (by kernel_rfl) ?_
 refine jm rfl rfl rfl (aI rfl rfl (ρ1:=[_]) (aq (by exact aN) Vh) (ar hx9) ?_);rintro _ _ ⟨rfl,rfl⟩
 refine ae h fun x10 hx10 h=>?_
 refine jm rfl rfl rfl (aI rfl rfl (ρ1:=[_]) (aq (by exact aN) Vh) (ar hx10) ?_);rintro _ _ ⟨rfl,rfl⟩
 refine ae h fun x11 hx11 h=>?_
 refine jm rfl rfl rfl (aI rfl rfl (ρ1:=[_]) (aq (by exact aN) Vh) (ar hx11) ?_);rintro _ _ ⟨rfl,rfl⟩
 refine ae h fun x12 hx12 h=>?_
 refine jm rfl rfl rfl (aI rfl rfl (ρ1:=[_]) (aq (by exact aN) Vh) (ar hx12) ?_);rintro _ _ ⟨rfl,rfl⟩
 refine lW rfl rfl rfl (j8 (cs:=[pS x4.1,pS m7,pB (x8.1 == 1),pI x9.1,pI x10.1,pI x11.1,pI x12.1,pI 0]) rfl rfl rfl rfl rfl rfl rfl (sZ rfl rfl rfl rfl ii (sZ rfl rfl rfl rfl (bV ii) (sZ rfl rfl rfl rfl (bV (bV ii)) (sZ rfl rfl rfl rfl (bV (bV (bV ii))) (sZ rfl rfl rfl rfl (bV (bV (bV (bV ii)))) (sZ rfl rfl rfl rfl (bV (bV (bV (bV (bV ii))))) (sZ rfl rfl rfl rfl (bV (bV (bV (bV (bV (bV ii)))))) Ip)))))))) (rH (pg rfl rfl rfl rfl rfl) (fun _=>rfl) rfl (fun b13=>rG rfl rfl (al (vs:=[pS x4.1,pS m7,pB (x8.1 == 1),pI x9.1,pI x10.1,pI x11.1,pI x12.1,pI 0]) rfl rfl rfl rfl rfl bT zl8 (bZ (bM (ae h fun x14 hx14 h=>fC 1 [(28,pP b3 0)] (by kernel_rfl) ?_))))))
 refine aj rfl (aI rfl rfl (ρ1:=[_]) (aq (by exact aC aN) Vh) (ar hx14) ?_);rintro _ _ ⟨rfl,rfl⟩
 refine aE [(30,pB (x14.1 == 1))] (by kernel_rfl) (ey h fun q19 hq19 h=>?_)
 refine ap (Y:=Unit×(Int×Int×(List Int)×Int)) (fun (_,(v15,v16,l17,v18))=>[(2,pP b1 0),(3,pP b3 0),(4,pP b13 0)]) (fun (_,(v15,v16,l17,v18))=>[Qa.b b1 37 [pS Uh,pS Uh,pB false,pI 0,pI 0,pI 0,pI 0,pI 0],Qa.b b13 37 [pS x4.1,pS m7,pB (x8.1 == 1),pI x9.1,pI x10.1,pI v15,pI v16,pI 0],Qa.b b3 66 [pL eI l17,pI v18]]) (fun (_,(v15,v16,l17,v18))=>q19=(v15,v16,l17,v18)) ?_ ?_
 ·skip
  refine fh rfl hq19 (fun hc20 hq19=>?_) fun hc20 hq19=>?_
  ·refine ae hq19 ?_;clear hq19;intro x21 hx21 hq19
   refine fC 1 [(31,pP b3 0)] (by kernel_rfl) ?_
   refine aj rfl (aI rfl rfl (ρ1:=[_]) (aq (by exact aN) Vh) (ar hx21) ?_);rintro _ _ ⟨rfl,rfl⟩
   refine ae hq19 fun x22 hx22 hq19=>ba 1 [(33,pP b3 0)] (by kernel_rfl) ?_
   refine aj rfl (aI rfl rfl (ρ1:=[_]) (aq (by exact aN) Vh) (ar hx22) ?_);rintro _ _ ⟨rfl,rfl⟩
   refine ba 1 [(35,pP b13 5)] (by kernel_rfl) (aM rfl rfl (al (vs:=[pI x21.1]) rfl rfl rfl rfl rfl (cE bT) (bV (bV (bV (bV (bV ii))))) (ba 1 [(36,pP b13 6)] (by kernel_rfl) (aM rfl rfl (al (vs:=[pI x22.1]) rfl rfl rfl rfl rfl (cE bT) (bV (bV (bV (bV (bV (bV ii)))))) (au ?_))))))
   obtain rfl:=osi hq19
   exact am ((),(x21.1,x22.1,x22.2.L,x22.2.I)) (nt rfl) (bg (aC (aC aN)) (bg (aC aN) bN)) rfl
  refine af ?_
  obtain rfl:=osi hq19
  exact am ((),(x11.1,x12.1,x14.2.L,x14.2.I)) (nt rfl) (bg (aC (aC aN)) (bg (aC aN) bN)) rfl
 rintro ⟨_,⟨v15,v16,l17,v18⟩⟩ τ hz;(try dsimp only at hz);subst q19;(try dsimp only at h);dsimp only [aw]
 refine dV (ae h fun x23 hx23 h=>fC 1 [(37,pP b3 0)] (by kernel_rfl) ?_)
 refine aj rfl (aI rfl rfl (ρ1:=[_]) (aq (by exact aC (aC aN)) Vh) (ar hx23) ?_);rintro _ _ ⟨rfl,rfl⟩
 refine aE [(39,pB (x23.1 == 1))] (by kernel_rfl) (ey h fun q25 hq25 h=>?_)
 refine ap (Y:=Unit×Int) (fun (_,v24)=>[(2,pP b1 0),(3,pP b3 0),(4,pP b13 0)]) (fun (_,v24)=>[Qa.b b1 37 [pS Uh,pS Uh,pB false,pI 0,pI 0,pI 0,pI 0,pI 0],Qa.b b13 37 [pS x4.1,pS m7,pB (x8.1 == 1),pI x9.1,pI x10.1,pI v24,pI v16,pI 0],Qa.b b3 66 [pL eI x23.2.L,pI x23.2.I]]) (fun (_,v24)=>q25=v24) ?_ ?_
 ·skip
  refine fh rfl hq25 (fun hc26 hq25=>?_) fun hc26 hq25=>?_
  ·refine ak ?_
   refine ba 1 [(40,pP b13 5)] (by kernel_rfl) (aM rfl rfl (al (vs:=[pI 0]) rfl rfl rfl rfl rfl (cE (cE bT)) (bV (bV (bV (bV (bV ii))))) (au ?_)))
   obtain rfl:=osi hq25
   exact am ((),0) (nt rfl) (bg (aC aN) (bg (aC aN) bN)) rfl
  refine af ?_
  obtain rfl:=osi hq25
  exact am ((),v15) (nt rfl) (bg (aC aN) (bg (aC aN) bN)) rfl
 rintro ⟨_,v24⟩ τ hz;(try dsimp only at hz);subst q25;(try dsimp only at h);dsimp only [aw]
 refine dV (ae h fun x27 hx27 h=>fC 1 [(41,pP b3 0)] (by kernel_rfl) ?_)
 refine aj rfl (aI rfl rfl (ρ1:=[_]) (aq (by exact aC (aC aN)) Vh) (ar hx27) ?_);rintro _ _ ⟨rfl,rfl⟩
 refine aE [(43,pB (x27.1 == 1))] (by kernel_rfl) (ey h fun q29 hq29 h=>?_)
 refine ap (Y:=Unit×Int) (fun (_,v28)=>[(2,pP b1 0),(4,pP b13 0)]) (fun (_,v28)=>[Qa.b b1 37 [pS Uh,pS Uh,pB false,pI 0,pI 0,pI 0,pI 0,pI 0],Qa.b b13 37 [pS x4.1,pS m7,pB (x8.1 == 1),pI x9.1,pI x10.1,pI v24,pI v16,pI v28]]) (fun (_,v28)=>q29=v28) ?_ ?_
 ·skip
  refine fh rfl hq29 (fun hc30 hq29=>?_) fun hc30 hq29=>?_
  ·refine ae hq29 ?_;clear hq29;intro x31 hx31 hq29
   refine ak (bH 4 [2] [45,46] [(44,pP b3 0),(47,pI (i64.wrap (v24+1)))] (by kernel_rfl) ?_)
   refine aj rfl (aI rfl rfl (ρ1:=[_]) (aq (by exact aN) Vh) (ar hx31) ?_);rintro _ _ ⟨rfl,rfl⟩
   refine ba 1 [(49,pP b13 7)] (by kernel_rfl) (aM rfl rfl (al (vs:=[pI x31.1]) rfl rfl rfl rfl rfl (cE (cE bT)) (bV (bV (bV (bV (bV (bV (bV ii))))))) (au ?_)))
   obtain rfl:=osi hq29
   exact am ((),x31.1) (lK rfl) (bg (aC aN) (bg (aC aN) bq)) rfl
  refine af ?_
  obtain rfl:=osi hq29
  exact am ((),0) (lK rfl) (bg (aC aN) (bg (aC aN) bq)) rfl
 rintro ⟨_,v28⟩ τ hz;(try dsimp only at hz);subst q29;(try dsimp only at h);dsimp only [aw]
 refine ag (ak (dE 1 [1] [(50,.agg [pS x4.1,pS m7,pB (x8.1 == 1),pI x9.1,pI x10.1,pI v24,pI v16,pI v28])] (by kernel_rfl) (aM rfl rfl (al (vs:=[pS x4.1,pS m7,pB (x8.1 == 1),pI x9.1,pI x10.1,pI v24,pI v16,pI v28]) rfl rfl rfl rfl rfl bT zl8 (au (cK ?_))))))
 obtain rfl:=osi h
 exact aH (dZ (di rfl eG rfl)) bq ⟨rfl,rfl⟩
def fD (p0:Za):Option Zj:=some (⟨p0.Code,p0.From⟩:Zj)
theorem kW {p0:Za} {r:Zj}  (h:fD p0=some r):PF 113 [.agg (av p0)] (.agg [pS r.code,pI r.from_]):=by
 unfold fD at h
 refine aV ?_
 refine dk Tryz.func113 rfl Tryz.ntmps113 Tryz.results113 rfl (cL rfl (be (cs:=(av p0)) rfl rfl (fun b1=>aj rfl (aP (cs:=[pS Uh,pI 0]) rfl rfl rfl rfl (fun b2=>au (br (ak (bH 5 [1,1] [3,4,5,6] [(7,.agg [pS p0.Code,pI p0.From])] (by kernel_rfl) (aM rfl rfl (al (vs:=[pS p0.Code,pI p0.From]) rfl rfl rfl rfl rfl bT pV (au (cK ?_))))))))))))
 obtain rfl:=osi h
 exact aH (dZ (di rfl eG rfl)) bq ⟨rfl,rfl⟩
def jc (p0:Int):Option Bool:=some (p0 != p0)
theorem qd {p0:Int} {r:Bool}  (h:jc p0=some r):PF 205 [pI p0] (pB r):=by
 unfold jc at h
 refine aV ?_
 refine dk Tryz.func205 rfl Tryz.ntmps205 Tryz.results205 rfl (aQ [2] (by kernel_rfl) (br (ah [3,4,5] [(2,pB (p0 != p0))] (by kernel_rfl) (cK ?_))))
 exact zz r h rfl
def eo (p0:Int) (p1:Int):Option Int:=(jc p0).bind fun x1=>(jc p1).bind fun x2=>cond x1 (cond x2 (some (0:Int)) (some (-1))) (cond x2 (some (1:Int)) (cond (decide (p0<p1)) (some (-1)) (cond (decide (p1<p0)) (some (1:Int)) (some (0:Int)))))
theorem lL {p0:Int} {p1:Int} {r:Int}  (h:eo p0 p1=some r):PF 148 [pI p0,pI p1] (pI r):=by
 unfold eo at h
 refine aV ?_
 refine dk Tryz.func148 rfl Tryz.ntmps148 Tryz.results148 rfl (aQ [4] (by kernel_rfl) (cP h fun x1 hx1 h=>ai [] [7,8] [(5,pB x1)] (aU 1 (qd hx1) aY) (by kernel_rfl) (cP h fun x2 hx2 h=>ai [] [9,10] [(6,pB x2)] (aU 1 (qd hx2) aY) (by kernel_rfl) (bM (aA [(11,pB x1)] (by kernel_rfl) (fi rfl h (fun hc3 h=>?_) fun hc3 h=>?_))))))
 ·refine ag ?_
  refine cH [(12,pB x2)] (by kernel_rfl) (fi rfl h (fun hc4 h=>?_) fun hc4 h=>?_)
  ·refine ag ?_
   refine de [(4,pI 0)] (by kernel_rfl) (bc ?_)
   exact zz r h rfl
  refine af ?_
  refine br (de [(4,pI (-1))] (by kernel_rfl) ?_)
  exact zz r h rfl
 refine af ?_
 refine bM (aA [(13,pB x2)] (by kernel_rfl) (fi rfl h (fun hc5 h=>?_) fun hc5 h=>?_))
 ·refine ag ?_
  refine de [(4,pI 1)] (by kernel_rfl) ?_
  exact zz r h rfl
 refine af ?_
 refine bM (bF [14,15] [(16,pB (decide (p0<p1)))] (by kernel_rfl) rfl h (fun hc6 h=>?_) fun hc6 h=>?_)
 ·refine ag ?_
  refine de [(4,pI (-1))] (by kernel_rfl) ?_
  exact zz r h rfl
 refine af ?_
 refine bM (bF [17,18] [(19,pB (decide (p1<p0)))] (by kernel_rfl) rfl h (fun hc7 h=>?_) fun hc7 h=>?_)
 ·refine ag ?_
  refine de [(4,pI 1)] (by kernel_rfl) ?_
  exact zz r h rfl
 refine af ?_
 refine br (aA [(4,pI 0)] (by kernel_rfl) (cK ?_))
 exact zz r h rfl
def jo (p0:Xh):Option Bool:=some (!decide (p0=p0))
theorem n7 {p0:Xh} {r:Bool}  (h:jo p0=some r):PF 219 [pS p0] (pB r):=by
 unfold jo at h
 refine aV ?_
 refine dk Tryz.func219 rfl Tryz.ntmps219 Tryz.results219 rfl (aQ [2] (by kernel_rfl) (br (ah [3,4,5] [(2,pB (!decide (p0=p0)))] (by kernel_rfl) (cK ?_))))
 exact zz r h rfl
def jD (p0:Xh) (p1:Xh):Option Int:=(jo p0).bind fun x1=>(jo p1).bind fun x2=>cond x1 (cond x2 (some (0:Int)) (some (-1))) (cond x2 (some (1:Int)) (cond (Op.bytesLess p0.toList p1.toList) (some (-1)) (cond (!(Op.bytesLess p0.toList p1.toList||decide (p0=p1))) (some (1:Int)) (some (0:Int)))))
theorem re {p0:Xh} {p1:Xh} {r:Int}  (h:jD p0 p1=some r):PF 171 [pS p0,pS p1] (pI r):=by
 unfold jD at h
 refine aV ?_
 refine dk Tryz.func171 rfl Tryz.ntmps171 Tryz.results171 rfl (aQ [4] (by kernel_rfl) (cP h fun x1 hx1 h=>ai [] [7,8] [(5,pB x1)] (aU 1 (n7 hx1) aY) (by kernel_rfl) (cP h fun x2 hx2 h=>ai [] [9,10] [(6,pB x2)] (aU 1 (n7 hx2) aY) (by kernel_rfl) (bM (aA [(11,pB x1)] (by kernel_rfl) (fi rfl h (fun hc3 h=>?_) fun hc3 h=>?_))))))
 ·refine ag ?_
  refine cH [(12,pB x2)] (by kernel_rfl) (fi rfl h (fun hc4 h=>?_) fun hc4 h=>?_)
  ·refine ag ?_
   refine de [(4,pI 0)] (by kernel_rfl) (bc ?_)
   exact zz r h rfl
  refine af ?_
  refine br (de [(4,pI (-1))] (by kernel_rfl) ?_)
  exact zz r h rfl
 refine af ?_
 refine bM (aA [(13,pB x2)] (by kernel_rfl) (fi rfl h (fun hc5 h=>?_) fun hc5 h=>?_))
 ·refine ag ?_
  refine de [(4,pI 1)] (by kernel_rfl) ?_
  exact zz r h rfl
 refine af ?_
 refine bM (bF [14,15] [(16,pB (Op.bytesLess p0.toList p1.toList))] (by kernel_rfl) rfl h (fun hc6 h=>?_) fun hc6 h=>?_)
 ·refine ag ?_
  refine de [(4,pI (-1))] (by kernel_rfl) ?_
  exact zz r h rfl
 refine af ?_
 refine bM (bF [17,18] [(19,pB (!(Op.bytesLess p0.toList p1.toList||decide (p0=p1))))] (by kernel_rfl) rfl h (fun hc7 h=>?_) fun hc7 h=>?_)
 ·refine ag ?_
  refine de [(4,pI 1)] (by kernel_rfl) ?_
  exact zz r h rfl
 refine af ?_
 refine br (aA [(4,pI 0)] (by kernel_rfl) (cK ?_))
 exact zz r h rfl
def dF (p0:Zj) (p1:Zj):Option Int:=cond (Zj.eqb p0 p1) (some (0:Int)) (cond (!decide (p0.code=p1.code)) ((jD p0.code p1.code).bind fun x5=>some x5) ((eo p0.from_ p1.from_).bind fun x6=>some x6))
theorem mS {p0:Zj} {p1:Zj} {r:Int}  (h:dF p0 p1=some r):PF 114 [.agg [pS p0.code,pI p0.from_],.agg [pS p1.code,pI p1.from_]] (pI r):=by
 unfold dF at h
 refine aV ?_
 refine dk Tryz.func114 rfl Tryz.ntmps114 Tryz.results114 rfl (cL rfl (be (cs:=[pS p0.code,pI p0.from_]) rfl rfl (fun b1=>aj rfl (be (cs:=[pS p1.code,pI p1.from_]) rfl rfl (fun b2=>aZ [4] (by kernel_rfl) (bM (ai [1,0] [5,6] [(7,pB (Zj.eqb p0 p1))] (foeq 2 Zj.eqok201 aY) (by kernel_rfl) (fi rfl h (fun hc3 h=>?_) fun hc3 h=>?_))))))))
 ·refine ag ?_
  refine de [(4,pI 0)] (by kernel_rfl) ?_
  exact zz r h rfl
 refine af ?_
 refine bM (aK [1,0] [8,9,10,11] [(12,pB (!decide (p0.code=p1.code)))] (by kernel_rfl) (fi rfl h (fun hc4 h=>?_) fun hc4 h=>?_))
 ·refine ag ?_
  refine ae h fun x5 hx5 h=>ai [1,0] (rg 13 5) [(4,pI x5)] (aU 4 (re hx5) aY) (by kernel_rfl) (sO ?_)
  exact zz r h rfl
 refine af ?_
 refine cP h fun x6 hx6 h=>ai [1,0] (rg 18 5) [(4,pI x6)] (aU 4 (lL hx6) aY) (by kernel_rfl) (cK ?_)
 exact zz r h rfl
def eg (p0:Za) (p1:Za):Option Int:=(fD p0).bind fun x3=>(fD p1).bind fun x4=>(dF x3 x4).bind fun x5=>cond (decide (0<=x5)) (some (9:Int)) (cond ((decide (p0.Code=p1.Code))&&(decide (p1.From<p0.To))) (some (1:Int)) (some (0:Int)))
theorem nG {p0:Za} {p1:Za} {r:Int}  (h:eg p0 p1=some r):PF 65 [.agg (av p0),.agg (av p1)] (pI r):=by
 unfold eg at h
 refine aV ?_
 refine dk Tryz.func65 rfl Tryz.ntmps65 Tryz.results65 rfl (cL rfl (be (cs:=(av p0)) rfl rfl (fun b1=>aj rfl (be (cs:=(av p1)) rfl rfl (fun b2=>aZ [4] (by kernel_rfl) (bM (bE (ρd:=[]) [(0,0),(2,0),(1,1),(3,1),(4,1),(5,0)] _ Vh (by kernel_rfl) rfl (ae h fun x3 hx3 h=>ae h fun x4 hx4 h=>ae h fun x5 hx5 h=>ca 6 [1,0] [5,7,6,8,9] [(10,pB (decide (0<=x5)))] (aU 2 (kW hx3) (aU 3 (kW hx4) (aU 4 (mS hx5) aY))) (by kernel_rfl) (bZ (fi rfl h (fun hc6 h=>?_) fun hc6 h=>?_))))))))))
 ·refine ag ?_
  refine de [(4,pI 9)] (by kernel_rfl) ?_
  exact zz r h rfl
 refine af ?_
 refine bM (aK [1,0,1,0] (rg 11 11) [(22,pB ((decide (p0.Code=p1.Code))&&(decide (p1.From<p0.To))))] (by kernel_rfl) (fi rfl h (fun hc7 h=>?_) fun hc7 h=>?_))
 ·refine ag ?_
  refine de [(4,pI 1)] (by kernel_rfl) ?_
  exact zz r h rfl
 refine af ?_
 refine br (aA [(4,pI 0)] (by kernel_rfl) (cK ?_))
 exact zz r h rfl
def fE (p0:Zh) (p1:Za):Option Bool:=cond ((p1.Code.size:Int) == 2) (some true) ((ff p1.Code 0 (i64.wrap ((p1.Code.size:Int) - 2))).bind fun s4=>(aW (S:=Int×Int) (T:=(Int)) (fun (v5,v6)=>cond (decide (v6<(p0.Entries.length:Int))) (((bx p0.Entries v6).bind fun m13=>cond (((decide (m13.Code=s4))&&(decide (m13.From<=v5)))&&(decide (v5<m13.To))) (some m13.To) (some v5)).bind fun v11=>some (.inl (v11,(i64.wrap (v6+1))))) (some (.inr v5))) Va (p1.From,0)).bind fun v7=>some (decide (p1.To<=v7)))
theorem o4 {p0:Zh} {p1:Za} {r:Bool}  (h:fE p0 p1=some r):PF 66 [.agg [pL Za.enc p0.Entries,pL Ze.enc p0.Notes],.agg (av p1)] (pB r):=by
 unfold fE at h
 refine aV ?_
 refine dk Tryz.func66 rfl Tryz.ntmps66 Tryz.results66 rfl (cL rfl (be (cs:=[pL Za.enc p0.Entries,pL Ze.enc p0.Notes]) rfl rfl (fun b1=>aj rfl (be (cs:=(av p1)) rfl rfl (fun b2=>aZ [4] (by kernel_rfl) (bM (aK [0] [9,10,11] [(12,pB ((p1.Code.size:Int) == 2))] (by kernel_rfl) (fi rfl h (fun hc3 h=>?_) fun hc3 h=>?_))))))))
 ·refine ag ?_
  refine de [(4,pB true)] (by kernel_rfl) ?_
  exact zz r h rfl
 refine af ?_
 refine cP h fun s4 hs4 h=>ai [0,0] (rg 13 7) [(5,pS s4)] (yC 6 hs4 aY) (by kernel_rfl) (br (aK [0] [20,21] [(6,pI p1.From)] (by kernel_rfl) (bM (aK [1] [22] [(23,pL Za.enc p0.Entries),(24,pI (p0.Entries.length:Int)),(25,pI 0)] (by kernel_rfl) (ey h fun q9 hq9 h=>?_)))))
 refine ap (Y:=Unit×Int) (fun (_,v7)=>[(3,pP b2 0),(6,pI v7)]) (fun (_,v7)=>[Qa.b b2 95 (av p1)]) (fun (_,v7)=>q9=v7) ?_ ?_
 ·refine aG ?_
  refine aJ (Y:=Unit) (S:=Int×Int) _ hq9 (fun _ (v5,v6)=>[(3,pP b2 0),(5,pS s4),(6,pI v5),(23,pL Za.enc p0.Entries),(24,pI (p0.Entries.length:Int)),(25,pI v6)]) (fun _ (v5,v6)=>[Qa.b b2 95 (av p1)]) () (o3 rfl) bN ?_
  rintro _ ⟨v5,v6⟩ o τ hb8;(try dsimp only at hb8);dsimp only [aw]
  refine cH [(26,pB (decide (v6<(p0.Entries.length:Int))))] (by kernel_rfl) (br (fh rfl hb8 (fun hc10 hb8=>?_) fun hc10 hb8=>?_))
  ·refine af ?_
   refine cP hb8 fun q12 hq12 hb8=>?_
   refine ap (Y:=Unit×Int) (fun (_,v11)=>[(3,pP b2 0),(5,pS s4),(6,pI v11),(23,pL Za.enc p0.Entries),(24,pI (p0.Entries.length:Int)),(25,pI v6)]) (fun (_,v11)=>[Qa.b b2 95 (av p1)]) (fun (_,v11)=>q12=v11) ?_ ?_
   ·skip
    refine rx (ae hq12 fun m13 hm13 hq12=>cS 2 [] [27] [(28,.agg (av m13))] (bX 0 Za.enc hm13 aY) (by kernel_rfl) (aj rfl (aP (cs:=[pS Uh,pI 0,pI 0,pN,pB false]) rfl rfl rfl rfl (fun b14=>aM rfl rfl (al (vs:=(av m13)) rfl rfl rfl rfl rfl bT td (au (br (aK [0,0,0] (rg 29 15) [(44,pB (((decide (m13.Code=s4))&&(decide (m13.From<=v5)))&&(decide (v5<m13.To))))] (by kernel_rfl) (fi rfl hq12 (fun hc15 hq12=>?_) fun hc15 hq12=>?_)))))))))
    ·refine aK [0] [45,46] [(6,pI m13.To)] (by kernel_rfl) ?_
     refine aF ?_
     obtain rfl:=osi hq12
     exact am ((),m13.To) (o3 rfl) (bg (aC aN) bq) rfl
    refine af ?_
    refine aF ?_
    obtain rfl:=osi hq12
    exact am ((),v5) (o3 rfl) (bg (aC aN) bq) rfl
   rintro ⟨_,v11⟩ τ hz;(try dsimp only at hz);subst q12;(try dsimp only at hb8);dsimp only [aw]
   refine ah [47] [(25,pI (i64.wrap (v6+1)))] (by kernel_rfl) ?_
   exact aT hb8 () (o3 rfl) bN
  refine aL ?_
  refine cJ hb8 (fun ht=>an rfl ?_)
  exact am ((),v5) (lK rfl) bN ht.symm
 rintro ⟨_,v7⟩ τ hz;(try dsimp only at hz);subst q9;(try dsimp only at h);dsimp only [aw]
 refine ag (aK [0] [48,49,50,51] [(4,pB (decide (p1.To<=v7)))] (by kernel_rfl) (cK ?_))
 exact zz r h rfl
def gT (p1:Int):Option (List Int):=(mk0 8 p1).bind fun _=>some []
theorem qH {p1:Int} {r:(List Int)} (h:gT p1=some r):La 123 [.v (.slice none 0 0),pI p1] [] (fun pv ρ'=>∃ a c,pv=.v (.slice a r.length c)/\ρ'=[Qa.row a r.length c 3 1 (List.map eI r)]):=by
 unfold gT at h
 obtain ⟨u,hu,h⟩:=Option.bind_eq_some_iff.1 h
 obtain rfl:=osi h
 obtain ⟨hg0,hg1⟩:=Hl hu
 have ew:i64.wrap (p1 - i64.wrap (((0:Nat):Int) - ((0:Nat):Int)))=p1:=zg hg0 hg1
 refine gC Tryz.func123 rfl Tryz.ntmps123 Tryz.results123 rfl ?_
 (repeat refine ag ?_)
 refine aQ [4] (by kernel_rfl) (aD ?_)
 (repeat refine ag ?_)
 refine ah [5] [(6,pB (decide (p1<0)))] (by kernel_rfl) (aD ?_)
 refine iV rfl (fun hc=>absurd (of_decide_eq_true hc) (by omega)) (fun hc=>?_)
 refine af (aD ?_)
 (repeat refine ag ?_)
 refine fC 2 [(8,pI p1),(9,.v (.slice none 0 0))] (by kernel_rfl) (cg rfl rfl rfl (wz rfl rfl (.p rfl)) (fV [11,12,13,14] [(1,pI (i64.wrap (p1 - i64.wrap (((0:Nat):Int) - ((0:Nat):Int)))))] (by kernel_rfl) ?_))
 rw [ew]
 refine aD ?_
 (repeat refine ag ?_)
 refine ah [15] [(16,pB (decide (0<p1)))] (by kernel_rfl) (aD ?_)
 refine iV rfl (fun hc=>?_) (fun hc=>?_)
 ·refine ak ?_
  refine ba 2 [(17,.v (.slice none 0 0)),(18,.v (.slice none 0 0))] (by kernel_rfl) (cg rfl rfl rfl (wz rfl rfl (.p rfl)) (cg rfl rfl rfl (sB rfl rfl rfl (.p rfl) (.p rfl) rfl (zero_le _)) (ba 1 [(21,pI p1)] (by kernel_rfl) (oJ 3 1 ?_))))
  refine aj rfl (BO rfl rfl rfl rfl rfl rfl rfl rfl (of_decide_eq_true hc) hu (by exact aN) (fun a c hac=>?_))
  refine ba 2 [(23,.v (.slice none 0 0)),(24,pI 0)] (by kernel_rfl) (cg rfl rfl rfl (sB (k:=0) rfl rfl rfl (.p rfl) (.p rfl) rfl (zero_le _)) (aE [(0,.v (.slice a 0 c))] (by kernel_rfl) (aD ?_)))
  (repeat refine ag ?_)
  refine ah [26] [(4,.v (.slice a 0 c))] (by kernel_rfl) (cK ?_)
  exact aH (dZ (az rfl)) bN ⟨_,_,rfl,rfl⟩
 refine af ?_
 refine aD ?_
 (repeat refine ag ?_)
 refine ah [26] [(4,.v (.slice none 0 0))] (by kernel_rfl) (aD (bC 3 1 (bi ?_)))
 exact aH (dZ (az rfl)) bN ⟨_,_,rfl,rfl⟩
def fW (p0:(List (List Int))):Option (List Int):=(aW (S:=Int×Int) (T:=(Int)) (fun (v1,v2)=>cond (decide (v2<(p0.length:Int))) ((bx p0 v2).bind fun m7=>cond (decide ((i64.wrap (v1+(m7.length:Int)))<0)) (none) (some (.inl ((i64.wrap (v1+(m7.length:Int))),(i64.wrap (v2+1)))))) (some (.inr v1))) Va (0,0)).bind fun v3=>(gT v3).bind fun x9=>(aW (S:=(List Int)×Int) (T:=((List Int))) (fun (l14,v17)=>cond (decide (v17<(p0.length:Int))) ((bx p0 v17).bind fun m25=>(app 8 l14 m25).bind fun l26=>some (.inl (l26,(i64.wrap (v17+1))))) (some (.inr l14))) Va (x9,0)).bind fun l21=>some l21
theorem pD {p0:(List (List Int))} {r:(List Int)}  (h:fW p0=some r):La 74 [pL (eL eI) p0] [] (fun pv ρ'=>∃ a c,pv=.v (.slice a r.length c)/\ρ'=[Qa.row a r.length c 3 1 (List.map eI r)]):=by
 unfold fW at h
 refine dk Tryz.func74 rfl Tryz.ntmps74 Tryz.results74 rfl (aQ [2] (by kernel_rfl) (br (aA [(3,pI 0)] (by kernel_rfl) (bM (aA [(9,pL (eL eI) p0),(10,pI (p0.length:Int)),(11,pI 0)] (by kernel_rfl) (ey h fun q5 hq5 h=>?_))))))
 refine ap (Y:=Unit×Int) (fun (_,v3)=>[(0,pL (eL eI) p0),(3,pI v3)]) (fun (_,v3)=>[]) (fun (_,v3)=>q5=v3) ?_ ?_
 ·refine aG ?_
  refine aJ (Y:=Unit) (S:=Int×Int) _ hq5 (fun _ (v1,v2)=>[(0,pL (eL eI) p0),(3,pI v1),(9,pL (eL eI) p0),(10,pI (p0.length:Int)),(11,pI v2)]) (fun _ (v1,v2)=>[]) () (gA rfl) bq ?_
  rintro _ ⟨v1,v2⟩ o τ hb4;(try dsimp only at hb4);dsimp only [aw]
  refine cH [(12,pB (decide (v2<(p0.length:Int))))] (by kernel_rfl) (br (fh rfl hb4 (fun hc6 hb4=>?_) fun hc6 hb4=>?_))
  ·refine af ?_
   refine eT (ae hb4 fun m7 hm7 hb4=>ai [] [13,14] [(5,pL eI m7)] (bX 0 (eL eI) hm7 aY) (by kernel_rfl) (br (ah [15,16,17,18] [(3,pI (i64.wrap (v1+(m7.length:Int))))] (by kernel_rfl) (br (bF [19] [(20,pB (decide ((i64.wrap (v1+(m7.length:Int)))<0)))] (by kernel_rfl) rfl hb4 (fun hc8 hb4=>?_) fun hc8 hb4=>?_)))))
   ·refine ak ?_
    exact absurd hb4 (by simp)
   refine af ?_
   refine eH (ah [22] [(11,pI (i64.wrap (v2+1)))] (by kernel_rfl) ?_)
   exact aT hb4 () (gA rfl) bq
  refine aL ?_
  refine cJ hb4 (fun ht=>an rfl ?_)
  exact am ((),v1) (lK rfl) bq ht.symm
 rintro ⟨_,v3⟩ τ hz;(try dsimp only at hz);subst q5;(try dsimp only at h);dsimp only [aw]
 refine ag (ae h fun x9 hx9 h=>fC 1 [(23,pI v3)] (by kernel_rfl) ?_)
 refine aj rfl (aI rfl rfl (ρ1:=[]) Vh (qH hx9) ?_);rintro _ _ ⟨a10,c11,rfl,rfl⟩
 refine aE [(6,pO a10 x9.length c11)] (by kernel_rfl) (bM (aA [(25,pL (eL eI) p0),(26,pI (p0.length:Int)),(27,pI 0)] (by kernel_rfl) (ey h fun q23 hq23 h=>?_)))
 refine ap (Y:=(Option Addr×Nat)×((List Int))) (fun ((a19,c20),l21)=>[(6,pO a19 l21.length c20)]) (fun ((a19,c20),l21)=>[Qa.row a19 l21.length c20 3 1 (List.map eI l21)]) (fun ((a19,c20),l21)=>q23=l21) ?_ ?_
 ·refine aG ?_
  refine aJ (Y:=Option Addr×Nat) (S:=(List Int)×Int) _ hq23 (fun (a15,c16) (l14,v17)=>[(6,pO a15 l14.length c16),(25,pL (eL eI) p0),(26,pI (p0.length:Int)),(27,pI v17)]) (fun (a15,c16) (l14,v17)=>[Qa.row a15 l14.length c16 3 1 (List.map eI l14)]) (a10,c11) (jC rfl) bN ?_
  rintro ⟨a15,c16⟩ ⟨l14,v17⟩ o τ hb22;(try dsimp only at hb22);dsimp only [aw]
  refine cH [(28,pB (decide (v17<(p0.length:Int))))] (by kernel_rfl) (br (fh rfl hb22 (fun hc24 hb22=>?_) fun hc24 hb22=>?_))
  ·refine af ?_
   refine eT (ae hb22 fun m25 hm25 hb22=>ai [] [29,30] [(8,pL eI m25)] (bX 0 (eL eI) hm25 aY) (by kernel_rfl) (ey hb22 fun l26 hl26 hb22=>fC 2 [(31,pO a15 l14.length c16),(32,pL eI m25)] (by kernel_rfl) ?_))
   refine aj rfl (rF (enc:=eI) rfl rfl rfl rfl rfl (fun _=>rfl) rfl rfl rfl (by exact aN) hl26 (fun a27 c28=>?_))
   refine aE [(6,pO a27 l26.length c28)] (by kernel_rfl) (eH (ah [34] [(27,pI (i64.wrap (v17+1)))] (by kernel_rfl) ?_))
   exact aT hb22 (a27,c28) (jC rfl) bN
  refine aL ?_
  refine cJ hb22 (fun ht=>an rfl ?_)
  exact am ((a15,c16),l14) (oC rfl) bN ht.symm
 rintro ⟨⟨a19,c20⟩,l21⟩ τ hz;(try dsimp only at hz);subst q23;(try dsimp only at h);dsimp only [aw]
 refine ag (ah [35] [(2,pO a19 l21.length c20)] (by kernel_rfl) (cK ?_))
 obtain rfl:=osi h
 exact aH (dZ (az rfl)) bN ⟨_,_,rfl,rfl⟩
def jq (p0:(List Int)):Option Bool:=(aW (S:=Int×Int) (T:=(Int)) (fun (v1,v2)=>cond (decide (v2<(p0.length:Int))) ((bx p0 v2).bind fun m7=>some (.inl ((i64.wrap (v1+m7)),(i64.wrap (v2+1))))) (some (.inr v1))) Va (0,0)).bind fun v3=>some (((p0.length:Int) == 0)||(v3 == 1000000))
theorem pm {p0:(List Int)} {r:Bool}  (h:jq p0=some r):PF 75 [pL eI p0] (pB r):=by
 unfold jq at h
 refine aV ?_
 refine dk Tryz.func75 rfl Tryz.ntmps75 Tryz.results75 rfl (aQ [2] (by kernel_rfl) (br (aA [(3,pI 0)] (by kernel_rfl) (bM (aA [(6,pL eI p0),(7,pI (p0.length:Int)),(8,pI 0)] (by kernel_rfl) (ey h fun q5 hq5 h=>?_))))))
 refine ap (Y:=Unit×Int) (fun (_,v3)=>[(0,pL eI p0),(3,pI v3)]) (fun (_,v3)=>[]) (fun (_,v3)=>q5=v3) ?_ ?_
 ·refine aG ?_
  refine aJ (Y:=Unit) (S:=Int×Int) _ hq5 (fun _ (v1,v2)=>[(0,pL eI p0),(3,pI v1),(6,pL eI p0),(7,pI (p0.length:Int)),(8,pI v2)]) (fun _ (v1,v2)=>[]) () (gA rfl) bq ?_
  rintro _ ⟨v1,v2⟩ o τ hb4;(try dsimp only at hb4);dsimp only [aw]
  refine cH [(9,pB (decide (v2<(p0.length:Int))))] (by kernel_rfl) (br (fh rfl hb4 (fun hc6 hb4=>?_) fun hc6 hb4=>?_))
  ·refine af ?_
   refine eT (ae hb4 fun m7 hm7 hb4=>ai [] [10,11] [(5,pI m7)] (bX 0 eI hm7 aY) (by kernel_rfl) (aD (ah [12,13,14] [(3,pI (i64.wrap (v1+m7)))] (by kernel_rfl) (eH (ah [15] [(8,pI (i64.wrap (v2+1)))] (by kernel_rfl) ?_)))))
   exact aT hb4 () (gA rfl) bq
  refine aL ?_
  refine cJ hb4 (fun ht=>an rfl ?_)
  exact am ((),v1) (lK rfl) bq ht.symm
 rintro ⟨_,v3⟩ τ hz;(try dsimp only at hz);subst q5;(try dsimp only at h);dsimp only [aw]
 refine ag (ah (rg 16 7) [(2,pB (((p0.length:Int) == 0)||(v3 == 1000000)))] (by kernel_rfl) (cK ?_))
 exact zz r h rfl
def dS (p0:Xh) (p1:Xh):Option Bool:=(gd (decide ((p1.size:Int)<=(p0.size:Int))) (ff p0 0 (p1.size:Int))).bind fun s1=>some ((decide ((p1.size:Int)<=(p0.size:Int)))&&(decide (s1=p1)))
theorem lv {p0:Xh} {p1:Xh} {r:Bool}  (h:dS p0 p1=some r):PF 119 [pS p0,pS p1] (pB r):=by
 unfold dS at h
 refine aV ?_
 refine dk Tryz.func119 rfl Tryz.ntmps119 Tryz.results119 rfl (aQ [4] (by kernel_rfl) (cP h fun s1 hs1 h=>ai [] (rg 5 13) [(4,pB ((decide ((p1.size:Int)<=(p0.size:Int)))&&(decide (s1=p1))))] (G1 9 (fU hs1) aY) (by kernel_rfl) (cK ?_)))
 exact zz r h rfl
def fX (p0:Xh) (p1:Xh):Option (Xh×Bool):=(dS p0 p1).bind fun x1=>cond (!x1) (some (p0,false)) ((ff p0 (p1.size:Int) (p0.size:Int)).bind fun s3=>some (s3,true))
theorem pE {p0:Xh} {p1:Xh} {r:(Xh×Bool)}  (h:fX p0 p1=some r):PF 70 [pS p0,pS p1] (.tup [pS r.1,pB r.2]):=by
 unfold fX at h
 refine aV ?_
 refine dk Tryz.func70 rfl Tryz.ntmps70 Tryz.results70 rfl (aQ [4,5] (by kernel_rfl) (bM (ae h fun x1 hx1 h=>ai [] [6,7,8] [(9,pB (!x1))] (aU 2 (lv hx1) aY) (by kernel_rfl) (fi rfl h (fun hc2 h=>?_) fun hc2 h=>?_))))
 ·refine ag ?_
  refine ah [10] [(4,pS p0),(5,pB false)] (by kernel_rfl) (sO ?_)
  obtain rfl:=osi h
  exact aH (bK (az rfl) (az rfl)) bq ⟨rfl,rfl⟩
 refine af ?_
 refine cP h fun s3 hs3 h=>ai [] [11,12,13,14] [(4,pS s3),(5,pB true)] (yC 3 hs3 aY) (by kernel_rfl) (cK ?_)
 obtain rfl:=osi h
 exact aH (bK (az rfl) (az rfl)) bq ⟨rfl,rfl⟩
def cq (p0:Xh) (p1:Xh):Option (Xh×Bool):=(fX p0 p1).bind fun x1=>some (x1.1,x1.2)
theorem nH {p0:Xh} {p1:Xh} {r:(Xh×Bool)}  (h:cq p0 p1=some r):PF 37 [pS p0,pS p1] (.tup [pS r.1,pB r.2]):=by
 unfold cq at h
 refine aV ?_
 refine dk Tryz.func37 rfl Tryz.ntmps37 Tryz.results37 rfl (aQ [4,5] (by kernel_rfl) (cP h fun x1 hx1 h=>ai [] (rg 6 5) [(4,pS x1.1),(5,pB x1.2)] (aU 2 (pE hx1) aY) (by kernel_rfl) (cK ?_)))
 obtain rfl:=osi h
 exact aH (bK (az rfl) (az rfl)) bq ⟨rfl,rfl⟩
def gu (p0:Int):Option Bool:=some ((decide (65<=p0))&&(decide (p0<=90)))
theorem lX {p0:Int} {r:Bool}  (h:gu p0=some r):PF 150 [pY p0] (pB r):=by
 unfold gu at h
 refine aV ?_
 refine dk Tryz.func150 rfl Tryz.ntmps150 Tryz.results150 rfl (aQ [2] (by kernel_rfl) (br (ah (rg 3 6) [(2,pB ((decide (65<=p0))&&(decide (p0<=90))))] (by kernel_rfl) (cK ?_))))
 exact zz r h rfl
def dl (p0:Xh):Option Bool:=(gd ((p0.size:Int) == 2) (bx p0.data.toList 0)).bind fun c1=>(gd ((p0.size:Int) == 2) (gu (c1.toNat:Int))).bind fun x2=>(gd (((p0.size:Int) == 2)&&x2) (bx p0.data.toList 1)).bind fun c3=>(gd (((p0.size:Int) == 2)&&x2) (gu (c3.toNat:Int))).bind fun x4=>some ((((p0.size:Int) == 2)&&x2)&&x4)
theorem kv {p0:Xh} {r:Bool}  (h:dl p0=some r):PF 98 [pS p0] (pB r):=by
 unfold dl at h
 refine aV ?_
 refine dk Tryz.func98 rfl Tryz.ntmps98 Tryz.results98 rfl (aQ [2] (by kernel_rfl) (cP h fun c1 hc1 h=>ae h fun x2 hx2 h=>ae h fun c3 hc3 h=>ae h fun x4 hx4 h=>ai [] (rg 3 13) [(2,pB ((((p0.size:Int) == 2)&&x2)&&x4))] (G0 5 (fU hc1) (iJ 6 (fun hc=>lX (fU hx2 hc)) (G0 10 (fU hc3) (iJ 11 (fun hc=>lX (fU hx4 hc)) aY)))) (by kernel_rfl) (cK ?_)))
 exact zz r h rfl
def cX (p0:(List Xh)):Option Bool:=(aW (S:=Int) (T:=(Unit)⊕(_)) (fun v1=>cond (decide (v1<(p0.length:Int))) ((bx p0 v1).bind fun m5=>(dl m5).bind fun x6=>(gd ((!(!x6))&&(decide (0<v1))) (bx p0 (i64.wrap (v1 - 1)))).bind fun m7=>cond ((!x6)||((decide (0<v1))&&(Op.bytesLess m5.toList m7.toList||decide (m5=m7)))) (some (.inr (.inr false))) (some (.inl (i64.wrap (v1+1))))) (some (.inr (.inl ())))) Va 0).bind fun q=>match q with | .inl _=>some true | .inr e=>some e
theorem qe {p0:(List Xh)} {r:Bool}  (h:cX p0=some r):PF 82 [pL eS p0] (pB r):=by
 unfold cX at h
 refine aV ?_
 refine dk Tryz.func82 rfl Tryz.ntmps82 Tryz.results82 rfl (aQ [2] (by kernel_rfl) (bM (aA [(5,pL eS p0),(6,pI (p0.length:Int)),(7,pI 0)] (by kernel_rfl) (ey h fun q3 hq3 h=>?_))))
 refine ap (Y:=Unit×Unit) (fun (_,_)=>[]) (fun (_,_)=>[]) (fun (_,_)=>q3=Sum.inl ()) ?_ ?_
 ·refine aG ?_
  refine aJ (Y:=Unit) (S:=Int) _ hq3 (fun _ v1=>[(0,pL eS p0),(5,pL eS p0),(6,pI (p0.length:Int)),(7,pI v1)]) (fun _ v1=>[]) () (jC rfl) bq ?_
  rintro _ v1 o τ hb2;(try dsimp only at hb2);dsimp only [aw]
  refine cH [(8,pB (decide (v1<(p0.length:Int))))] (by kernel_rfl) (br (fh rfl hb2 (fun hc4 hb2=>?_) fun hc4 hb2=>?_))
  ·refine af ?_
   refine eT (ae hb2 fun m5 hm5 hb2=>ai [] [9,10,11] [(3,pI v1),(4,pS m5)] (bX 1 eS hm5 aY) (by kernel_rfl) (cP hb2 fun x6 hx6 hb2=>ae hb2 fun m7 hm7 hb2=>ai [] (rg 12 15) [(27,pB ((!x6)||((decide (0<v1))&&(Op.bytesLess m5.toList m7.toList||decide (m5=m7)))))] (aU 1 (kv hx6) (xt 11 eS (fU hm7) aY)) (by kernel_rfl) (fi rfl hb2 (fun hc8 hb2=>?_) fun hc8 hb2=>?_)))
   ·refine ag ?_
    refine aA [(2,pB false)] (by kernel_rfl) (cK (iq ?_))
    refine aX hb2 (fun ht=>?_);subst ht
    refine aO (aS ?_)
    exact zz r h rfl
   refine af ?_
   refine eH (ah [28] [(7,pI (i64.wrap (v1+1)))] (by kernel_rfl) ?_)
   exact aT hb2 () (jC rfl) bq
  refine aL ?_
  refine cJ hb2 (fun ht=>an rfl ?_)
  exact am ((),()) qr bq ht.symm
 rintro ⟨_,_⟩ τ hz;(try dsimp only at hz);subst q3;(try dsimp only at h);dsimp only [aw]
 refine cH [(2,pB true)] (by kernel_rfl) (cK ?_)
 exact zz r h rfl
def db (p0:Zs):Option Int:=cond ((((decide (p0.Rate<0))||(decide (10000000<p0.Rate)))||(decide (p0.Amount<0)))||(decide (100000000<p0.Amount))) (some (2:Int)) (cond (((decide (0<p0.Amount))&&((decide (p0.Per<1))||(decide (1000000<p0.Per))))||((p0.Amount == 0)&&(p0.Per != 0))) (some (2:Int)) (cond ((((decide (p0.Most<0))||(decide (10000000<p0.Most)))||(decide (p0.Least<0)))||(decide (10000000<p0.Least))) (some (2:Int)) (cond (((p0.Most != 0)&&(!p0.HasMost))||((p0.Least != 0)&&(!p0.HasLeast))) (some (1:Int)) (cond ((p0.HasMost&&p0.HasLeast)&&(decide (p0.Most<p0.Least))) (some (1:Int)) (some (0:Int))))))
theorem kJ {p0:Zs} {r:Int}  (h:db p0=some r):PF 83 [.agg [pI p0.Rate,pI p0.Amount,pI p0.Per,pB p0.HasMost,pI p0.Most,pB p0.HasLeast,pI p0.Least]] (pI r):=by
 unfold db at h
 refine aV ?_
 refine dk Tryz.func83 rfl Tryz.ntmps83 Tryz.results83 rfl (cL rfl (be (cs:=[pI p0.Rate,pI p0.Amount,pI p0.Per,pB p0.HasMost,pI p0.Most,pB p0.HasLeast,pI p0.Least]) rfl rfl (fun b1=>aZ [2] (by kernel_rfl) (bM (aK [0,0,0,0] (rg 3 17) [(20,pB ((((decide (p0.Rate<0))||(decide (10000000<p0.Rate)))||(decide (p0.Amount<0)))||(decide (100000000<p0.Amount))))] (by kernel_rfl) (fi rfl h (fun hc2 h=>?_) fun hc2 h=>?_))))))
 ·refine ag ?_
  refine de [(2,pI 2)] (by kernel_rfl) ?_
  exact zz r h rfl
 refine af ?_
 refine bM (aK [0,0,0,0,0] (rg 21 22) [(43,pB (((decide (0<p0.Amount))&&((decide (p0.Per<1))||(decide (1000000<p0.Per))))||((p0.Amount == 0)&&(p0.Per != 0))))] (by kernel_rfl) (fi rfl h (fun hc3 h=>?_) fun hc3 h=>?_))
 ·refine ag ?_
  refine de [(2,pI 2)] (by kernel_rfl) ?_
  exact zz r h rfl
 refine af ?_
 refine bM (aK [0,0,0,0] (rg 44 17) [(61,pB ((((decide (p0.Most<0))||(decide (10000000<p0.Most)))||(decide (p0.Least<0)))||(decide (10000000<p0.Least))))] (by kernel_rfl) (fi rfl h (fun hc4 h=>?_) fun hc4 h=>?_))
 ·refine ag ?_
  refine de [(2,pI 2)] (by kernel_rfl) ?_
  exact zz r h rfl
 refine af ?_
 refine bM (aK [0,0,0,0] (rg 62 17) [(79,pB (((p0.Most != 0)&&(!p0.HasMost))||((p0.Least != 0)&&(!p0.HasLeast))))] (by kernel_rfl) (fi rfl h (fun hc5 h=>?_) fun hc5 h=>?_))
 ·refine ag ?_
  refine de [(2,pI 1)] (by kernel_rfl) ?_
  exact zz r h rfl
 refine af ?_
 refine bM (aK [0,0,0,0] (rg 80 12) [(92,pB ((p0.HasMost&&p0.HasLeast)&&(decide (p0.Most<p0.Least))))] (by kernel_rfl) (fi rfl h (fun hc6 h=>?_) fun hc6 h=>?_))
 ·refine ag ?_
  refine de [(2,pI 1)] (by kernel_rfl) ?_
  exact zz r h rfl
 refine af ?_
 refine br (aA [(2,pI 0)] (by kernel_rfl) (cK ?_))
 exact zz r h rfl
def kK (p0:Int) (p1:Int) (p2:(List Int)):Option Bool:=(aW (S:=Int) (T:=(Unit)⊕(_)) (fun v1=>cond (decide (v1<(p2.length:Int))) ((bx p2 v1).bind fun m5=>cond ((decide (m5<p0))||(decide (p1<m5))) (some (.inr (.inr false))) (some (.inl (i64.wrap (v1+1))))) (some (.inr (.inl ())))) Va 0).bind fun q=>match q with | .inl _=>some true | .inr e=>some e
theorem nU {p0:Int} {p1:Int} {p2:(List Int)} {r:Bool}  (h:kK p0 p1 p2=some r):PF 216 [pI p0,pI p1,pL eI p2] (pB r):=by
 unfold kK at h
 refine aV ?_
 refine dk Tryz.func216 rfl Tryz.ntmps216 Tryz.results216 rfl (aQ [6] (by kernel_rfl) (bM (aA [(9,pL eI p2),(10,pI (p2.length:Int)),(11,pI 0)] (by kernel_rfl) (ey h fun q3 hq3 h=>?_))))
 refine ap (Y:=Unit×Unit) (fun (_,_)=>[]) (fun (_,_)=>[]) (fun (_,_)=>q3=Sum.inl ()) ?_ ?_
 ·refine aG ?_
  refine aJ (Y:=Unit) (S:=Int) _ hq3 (fun _ v1=>[(0,pI p0),(1,pI p1),(9,pL eI p2),(10,pI (p2.length:Int)),(11,pI v1)]) (fun _ v1=>[]) () (gA rfl) bq ?_
  rintro _ v1 o τ hb2;(try dsimp only at hb2);dsimp only [aw]
  refine cH [(12,pB (decide (v1<(p2.length:Int))))] (by kernel_rfl) (br (fh rfl hb2 (fun hc4 hb2=>?_) fun hc4 hb2=>?_))
  ·refine af ?_
   refine eT (ae hb2 fun m5 hm5 hb2=>ai [] [13,14] [(8,pI m5)] (bX 0 eI hm5 aY) (by kernel_rfl) (br (bF (rg 15 7) [(22,pB ((decide (m5<p0))||(decide (p1<m5))))] (by kernel_rfl) rfl hb2 (fun hc6 hb2=>?_) fun hc6 hb2=>?_)))
   ·refine ag ?_
    refine aA [(6,pB false)] (by kernel_rfl) (cK (iq ?_))
    refine aX hb2 (fun ht=>?_);subst ht
    refine aO (aS ?_)
    exact zz r h rfl
   refine af ?_
   refine eH (ah [23] [(11,pI (i64.wrap (v1+1)))] (by kernel_rfl) ?_)
   exact aT hb2 () (gA rfl) bq
  refine aL ?_
  refine cJ hb2 (fun ht=>an rfl ?_)
  exact am ((),()) qr bq ht.symm
 rintro ⟨_,_⟩ τ hz;(try dsimp only at hz);subst q3;(try dsimp only at h);dsimp only [aw]
 refine cH [(6,pB true)] (by kernel_rfl) (cK ?_)
 exact zz r h rfl
def jr (p0:Int):Option Bool:=(kK (-1000000000000) 1000000000000 [p0]).bind fun x3=>some x3
theorem po {p0:Int} {r:Bool}  (h:jr p0=some r):PF 195 [pI p0] (pB r):=by
 unfold jr at h
 refine aV ?_
 refine dk Tryz.func195 rfl Tryz.ntmps195 Tryz.results195 rfl (aQ [2] (by kernel_rfl) (br (fC 1 [(3,pI p0)] (by kernel_rfl) (aj rfl (bp rfl rfl rfl rfl rfl (eE rfl jy) rfl rfl rfl rfl (fun b1=>?_))))))
 refine dw (enc:=eI) (xs:=[p0]) 4 rfl (by exact aN) ?_
 refine ae h fun x3 hx3 h=>dh [] [5] [(2,pB x3)] (aU 0 (nU hx3) aY) (by kernel_rfl) (cK ?_)
 exact zz r h rfl
def fY (p0:Xh) (p1:Xh):Option Bool:=(gd (decide ((p1.size:Int)<=(p0.size:Int))) (ff p0 (i64.wrap ((p0.size:Int) - (p1.size:Int))) (p0.size:Int))).bind fun s1=>some ((decide ((p1.size:Int)<=(p0.size:Int)))&&(decide (s1=p1)))
theorem pF {p0:Xh} {p1:Xh} {r:Bool}  (h:fY p0 p1=some r):PF 285 [pS p0,pS p1] (pB r):=by
 unfold fY at h
 refine aV ?_
 refine dk Tryz.func285 rfl Tryz.ntmps285 Tryz.results285 rfl (aQ [4] (by kernel_rfl) (cP h fun s1 hs1 h=>ai [] (rg 5 16) [(4,pB ((decide ((p1.size:Int)<=(p0.size:Int)))&&(decide (s1=p1))))] (G1 12 (fU hs1) aY) (by kernel_rfl) (cK ?_)))
 exact zz r h rfl
def fZ (p0:Xh) (p1:Xh):Option (Xh×Bool):=(fY p0 p1).bind fun x1=>cond (!x1) (some (p0,false)) ((ff p0 0 (i64.wrap ((p0.size:Int) - (p1.size:Int)))).bind fun s3=>some (s3,true))
theorem pG {p0:Xh} {p1:Xh} {r:(Xh×Bool)}  (h:fZ p0 p1=some r):PF 273 [pS p0,pS p1] (.tup [pS r.1,pB r.2]):=by
 unfold fZ at h
 refine aV ?_
 refine dk Tryz.func273 rfl Tryz.ntmps273 Tryz.results273 rfl (aQ [4,5] (by kernel_rfl) (bM (ae h fun x1 hx1 h=>ai [] [6,7,8] [(9,pB (!x1))] (aU 2 (pF hx1) aY) (by kernel_rfl) (fi rfl h (fun hc2 h=>?_) fun hc2 h=>?_))))
 ·refine ag ?_
  refine ah [10] [(4,pS p0),(5,pB false)] (by kernel_rfl) (sO ?_)
  obtain rfl:=osi h
  exact aH (bK (az rfl) (az rfl)) bq ⟨rfl,rfl⟩
 refine af ?_
 refine cP h fun s3 hs3 h=>ai [] (rg 11 7) [(4,pS s3),(5,pB true)] (yC 6 hs3 aY) (by kernel_rfl) (cK ?_)
 obtain rfl:=osi h
 exact aH (bK (az rfl) (az rfl)) bq ⟨rfl,rfl⟩
def fF (p0:Xh) (p1:Xh):Option (Xh×Bool):=(fZ p0 p1).bind fun x1=>some (x1.1,x1.2)
theorem rP {p0:Xh} {p1:Xh} {r:(Xh×Bool)}  (h:fF p0 p1=some r):PF 251 [pS p0,pS p1] (.tup [pS r.1,pB r.2]):=by
 unfold fF at h
 refine aV ?_
 refine dk Tryz.func251 rfl Tryz.ntmps251 Tryz.results251 rfl (aQ [4,5] (by kernel_rfl) (cP h fun x1 hx1 h=>ai [] (rg 6 5) [(4,pS x1.1),(5,pB x1.2)] (aU 2 (pG hx1) aY) (by kernel_rfl) (cK ?_)))
 obtain rfl:=osi h
 exact aH (bK (az rfl) (az rfl)) bq ⟨rfl,rfl⟩
def bd (p0:(List Xh)):Option (List Xh):=app 16 ([]:List Xh) p0
theorem cO {p0:(List Xh)} {r:(List Xh)} (h:bd p0=some r):La 101 [pL eS p0] [] (fun pv ρ'=>∃ a c,pv=.v (.slice a r.length c)/\ρ'=[Qa.row a r.length c 9 1 (List.map eS r)]):=by
 unfold bd at h
 refine gC Tryz.func101 rfl Tryz.ntmps101 Tryz.results101 rfl ?_
 (repeat refine ag ?_)
 refine ak (cg rfl rfl rfl (cD (p:=.v (.slice none 0 0)) rfl (.p rfl)) (au (aD ?_)))
 (repeat refine ag ?_)
 refine ak (cg rfl rfl rfl (bY (p:=pL eS p0) rfl (.p rfl)) (zb rfl rfl rfl rfl rfl rfl (fun b hb=>au (aD ?_))))
 refine iV rfl (fun hc=>?_) (fun hc=>?_)
 ·have e0:p0=[]:=List.map_eq_nil_iff.1 (hb hc)
  subst e0;obtain ⟨rfl,_⟩:=qa h
  (repeat refine ag ?_)
  refine ak (cg rfl rfl rfl (cD (p:=.v (.slice none 0 0)) rfl (.p rfl)) (au (aD (bC 9 1 (bi (bc ?_))))))
  exact aH (dZ (az rfl)) bN ⟨_,_,rfl,rfl⟩
 refine af ?_
 refine aD ?_
 (repeat refine ag ?_)
 refine cL rfl (bp rfl rfl rfl rfl rfl jy rfl rfl rfl rfl (fun b1=>cg rfl rfl rfl (bY (p:=pL eS p0) rfl (.p rfl)) ?_))
 refine aj rfl (rF (enc:=eS) (xs:=([]:List Xh)) rfl rfl rfl rfl rfl (fun _=>rfl) rfl rfl rfl (by exact aN) h (fun a c=>?_))
 refine cg rfl rfl rfl (cD (p:=.v (.slice a r.length c)) rfl (.p rfl)) (au (cK ?_))
 exact aH (dZ (az rfl)) bN ⟨_,_,rfl,rfl⟩
theorem nJ {p0:(List Xh)} {r:(List Xh)} (h:bd p0=some r):PF 101 [pL eS p0] (pL eS r):=Hj (cO h)
def ed (p0:(List (List Xh))):Option (List (List Xh)):=(aW (S:=(List (List Xh))×Int) (T:=((List (List Xh)))) (fun (l2,v5)=>cond (decide (v5<(p0.length:Int))) ((bx p0 v5).bind fun m14=>(bd m14).bind fun x15=>(app 24 l2 [x15]).bind fun l21=>some (.inl (l21,(i64.wrap (v5+1))))) (some (.inr l2))) Va (([]:List (List Xh)),0)).bind fun l9=>some l9
theorem kw {p0:(List (List Xh))} {r:(List (List Xh))}  (h:ed p0=some r):La 196 [pL (eL eS) p0] [] (fun pv ρ'=>∃ a c,pv=.v (.slice a r.length c)/\ρ'=[Qa.row a r.length c 28 1 (List.map (eL eS) r)]):=by
 unfold ed at h
 refine dk Tryz.func196 rfl Tryz.ntmps196 Tryz.results196 rfl (aQ [2] (by kernel_rfl) (br (aA [(3,pN)] (by kernel_rfl) (bM (aA [(6,pL (eL eS) p0),(7,pI (p0.length:Int)),(8,pI 0)] (by kernel_rfl) (aD (bC 28 1 (ae h fun q11 hq11 h=>?_))))))))
 refine ap (Y:=(Option Addr×Nat)×((List (List Xh)))) (fun ((a7,c8),l9)=>[(3,pO a7 l9.length c8)]) (fun ((a7,c8),l9)=>[Qa.row a7 l9.length c8 28 1 (List.map (eL eS) l9)]) (fun ((a7,c8),l9)=>q11=l9) ?_ ?_
 ·refine aG ?_
  refine aJ (Y:=Option Addr×Nat) (S:=(List (List Xh))×Int) _ hq11 (fun (a3,c4) (l2,v5)=>[(3,pO a3 l2.length c4),(6,pL (eL eS) p0),(7,pI (p0.length:Int)),(8,pI v5)]) (fun (a3,c4) (l2,v5)=>[Qa.row a3 l2.length c4 28 1 (List.map (eL eS) l2)]) (none,0) (jC rfl) bN ?_
  rintro ⟨a3,c4⟩ ⟨l2,v5⟩ o τ hb10;(try dsimp only at hb10);dsimp only [aw]
  refine cH [(9,pB (decide (v5<(p0.length:Int))))] (by kernel_rfl) (br (fh rfl hb10 (fun hc13 hb10=>?_) fun hc13 hb10=>?_))
  ·refine af ?_
   refine eT (ae hb10 fun m14 hm14 hb10=>ai [] [10,11] [(5,pL eS m14)] (bX 0 (eL eS) hm14 aY) (by kernel_rfl) (ey hb10 fun x15 hx15 hb10=>fC 2 [(12,pO a3 l2.length c4),(13,pL eS m14)] (by kernel_rfl) ?_))
   refine aj rfl (aI rfl rfl (ρ1:=[]) Vh (cO hx15) ?_);rintro _ _ ⟨a16,c17,rfl,rfl⟩
   refine dw (enc:=eS) (xs:=x15) 14 rfl (by exact aN) ?_
   refine aj rfl (bp rfl rfl rfl rfl rfl (eE rfl jy) rfl rfl rfl rfl (fun b19=>ae hb10 fun l21 hl21 hb10=>?_))
   refine aj rfl (bw (enc:=(eL eS)) rfl rfl rfl rfl rfl rfl rfl rfl rfl eG (by exact aC (aC aN)) hl21 (fun a22 c23=>?_))
   refine aE [(3,pO a22 l21.length c23)] (by kernel_rfl) (eH (ah [17] [(8,pI (i64.wrap (v5+1)))] (by kernel_rfl) ?_))
   exact aT hb10 (a22,c23) (jC rfl) bN
  refine aL ?_
  refine cJ hb10 (fun ht=>an rfl ?_)
  exact am ((a3,c4),l2) (oC rfl) bN ht.symm
 rintro ⟨⟨a7,c8⟩,l9⟩ τ hz;(try dsimp only at hz);subst q11;(try dsimp only at h);dsimp only [aw]
 refine ag (ah [18] [(2,pO a7 l9.length c8)] (by kernel_rfl) (cK ?_))
 obtain rfl:=osi h
 exact aH (dZ (az rfl)) bN ⟨_,_,rfl,rfl⟩
def jP (p0:Zh) (p1:Int):Option (List Za):=(aW (S:=(List Za)×Int) (T:=((List Za))) (fun (l3,v6)=>cond (decide (v6<(p0.Entries.length:Int))) (((bx p0.Entries v6).bind fun m20=>cond ((decide (m20.From<=p1))&&(decide (p1<m20.To))) ((ed m20.Terms).bind fun x23=>(app 64 l3 [(⟨m20.Code,m20.From,m20.To,x23,m20.Other⟩:Za)]).bind fun l29=>some l29) (some l3)).bind fun l18=>some (.inl (l18,(i64.wrap (v6+1))))) (some (.inr l3))) Va (([]:List Za),0)).bind fun l10=>some l10
theorem tC {p0:Zh} {p1:Int} {r:(List Za)}  (h:jP p0 p1=some r):PF 130 [.agg [pL Za.enc p0.Entries,pL Ze.enc p0.Notes],pI p1] (pL Za.enc r):=by
 unfold jP at h
 refine aV ?_
 refine dk Tryz.func130 rfl Tryz.ntmps130 Tryz.results130 rfl (cL rfl (be (cs:=[pL Za.enc p0.Entries,pL Ze.enc p0.Notes]) rfl rfl (fun b1=>aZ [4] (by kernel_rfl) (br (aA [(5,pN)] (by kernel_rfl) (bM (aK [0] [8] [(9,pL Za.enc p0.Entries),(10,pI (p0.Entries.length:Int)),(11,pI 0)] (by kernel_rfl) (aD (bC 95 5 (ae h fun q12 hq12 h=>?_))))))))))
 refine ap (Y:=(Option Addr×Nat)×((List Za))) (fun ((a8,c9),l10)=>[(5,pO a8 l10.length c9)]) (fun ((a8,c9),l10)=>[Qa.row a8 l10.length c9 95 5 (List.map Za.enc l10)]) (fun ((a8,c9),l10)=>q12=l10) ?_ ?_
 ·refine aG ?_
  refine aJ (Y:=Option Addr×Nat) (S:=(List Za)×Int) _ hq12 (fun (a4,c5) (l3,v6)=>[(1,pI p1),(5,pO a4 l3.length c5),(9,pL Za.enc p0.Entries),(10,pI (p0.Entries.length:Int)),(11,pI v6)]) (fun (a4,c5) (l3,v6)=>[Qa.row a4 l3.length c5 95 5 (List.map Za.enc l3)]) (none,0) (gA rfl) bN ?_
  rintro ⟨a4,c5⟩ ⟨l3,v6⟩ o τ hb11;(try dsimp only at hb11);dsimp only [aw]
  refine cH [(12,pB (decide (v6<(p0.Entries.length:Int))))] (by kernel_rfl) (br (fh rfl hb11 (fun hc14 hb11=>?_) fun hc14 hb11=>?_))
  ·refine af ?_
   refine cP hb11 fun q19 hq19 hb11=>?_
   refine ap (Y:=(Option Addr×Nat)×((List Za))) (fun ((a16,c17),l18)=>[(1,pI p1),(5,pO a16 l18.length c17),(9,pL Za.enc p0.Entries),(10,pI (p0.Entries.length:Int)),(11,pI v6)]) (fun ((a16,c17),l18)=>[Qa.row a16 l18.length c17 95 5 (List.map Za.enc l18)]) (fun ((a16,c17),l18)=>q19=l18) ?_ ?_
   ·skip
    refine rx (ae hq19 fun m20 hm20 hq19=>cS 2 [] [13] [(14,.agg (av m20))] (bX 0 Za.enc hm20 aY) (by kernel_rfl) (aj rfl (aP (cs:=[pS Uh,pI 0,pI 0,pN,pB false]) rfl rfl rfl rfl (fun b21=>aM rfl rfl (al (vs:=(av m20)) rfl rfl rfl rfl rfl bT td (au (br (aK [0,0] (rg 15 9) [(24,pB ((decide (m20.From<=p1))&&(decide (p1<m20.To))))] (by kernel_rfl) (fi rfl hq19 (fun hc22 hq19=>?_) fun hc22 hq19=>?_)))))))))
    ·refine ag ?_
     refine ae hq19 fun x23 hx23 hq19=>ak (bH 2 [0] [25] [(26,pL (eL eS) m20.Terms)] (by kernel_rfl) ?_)
     refine aj rfl (aI rfl rfl (ρ1:=[]) Vh (kw hx23) ?_);rintro _ _ ⟨a24,c25,rfl,rfl⟩
     refine ba 1 [(28,pP b21 3)] (by kernel_rfl) (aM rfl rfl (al (vs:=[pO a24 x23.length c25]) rfl rfl rfl rfl rfl (cE bT) (bV (bV (bV ii))) (au (aD (fC 1 [(29,pO a4 l3.length c5)] (by kernel_rfl) ?_)))))
     refine kH (css:=List.map (eL eS) x23) (a:=a24) (by exact aN) ?_
     refine iR (k:=3) (enc:=(eL eS)) (xs:=x23) (b:=b21) (a:=a24) rfl eG (cE bT) (dE 1 [1] [(30,.agg [pS m20.Code,pI m20.From,pI m20.To,pL (eL eS) x23,pB m20.Other])] (by kernel_rfl) (aj rfl (bp rfl rfl rfl rfl rfl (eE rfl jy) rfl rfl rfl rfl (fun b27=>ae hq19 fun l29 hl29 hq19=>?_))))
     refine aj rfl (bw (enc:=Za.enc) rfl rfl rfl rfl rfl rfl rfl rfl rfl eG (by exact aC (aC (aC aN))) hl29 (fun a30 c31=>?_))
     refine aE [(5,pO a30 l29.length c31)] (by kernel_rfl) (aF ?_)
     obtain rfl:=osi hq19
     exact am ((a30,c31),l29) (gA rfl) bN rfl
    refine af ?_
    refine aF ?_
    obtain rfl:=osi hq19
    exact am ((a4,c5),l3) (gA rfl) (bg (aC aN) bq) rfl
   rintro ⟨⟨a16,c17⟩,l18⟩ τ hz;(try dsimp only at hz);subst q19;(try dsimp only at hb11);dsimp only [aw]
   refine ah [33] [(11,pI (i64.wrap (v6+1)))] (by kernel_rfl) ?_
   exact aT hb11 (a16,c17) (gA rfl) bN
  refine aL ?_
  refine cJ hb11 (fun ht=>an rfl ?_)
  exact am ((a4,c5),l3) (oC rfl) bN ht.symm
 rintro ⟨⟨a8,c9⟩,l10⟩ τ hz;(try dsimp only at hz);subst q12;(try dsimp only at h);dsimp only [aw]
 refine ag (ah [34] [(4,pO a8 l10.length c9)] (by kernel_rfl) (aD ?_))
 refine fj (enc:=Za.enc) (xs:=l10) 4 rfl (by exact aN) ?_
 refine bi ?_
 exact zz r h rfl
def ir (p0:Zh) (p1:Int) (p2:Xh):Option (List Za):=(jP p0 p1).bind fun x2=>(aW (S:=(List Za)×Int) (T:=((List Za))) (fun (l4,v7)=>cond (decide (v7<(x2.length:Int))) (((bx x2 v7).bind fun m21=>(gd ((!((decide (p2=(⟨#[]⟩:Xh)))&&((m21.Code.size:Int) == 4)))&&((!decide (p2=(⟨#[]⟩:Xh)))&&(decide (2<(m21.Code.size:Int))))) (ff m21.Code 0 (i64.wrap ((m21.Code.size:Int) - 2)))).bind fun s23=>cond (((decide (p2=(⟨#[]⟩:Xh)))&&((m21.Code.size:Int) == 4))||(((!decide (p2=(⟨#[]⟩:Xh)))&&(decide (2<(m21.Code.size:Int))))&&(decide (s23=p2)))) ((app 64 l4 [m21]).bind fun l27=>some l27) (some l4)).bind fun l19=>some (.inl (l19,(i64.wrap (v7+1))))) (some (.inr l4))) Va (([]:List Za),0)).bind fun l11=>some l11
theorem ri {p0:Zh} {p1:Int} {p2:Xh} {r:(List Za)}  (h:ir p0 p1 p2=some r):PF 85 [.agg [pL Za.enc p0.Entries,pL Ze.enc p0.Notes],pI p1,pS p2] (pL Za.enc r):=by
 unfold ir at h
 refine aV ?_
 refine dk Tryz.func85 rfl Tryz.ntmps85 Tryz.results85 rfl (cL rfl (be (cs:=[pL Za.enc p0.Entries,pL Ze.enc p0.Notes]) rfl rfl (fun b1=>aZ [6] (by kernel_rfl) (br (aA [(7,pN)] (by kernel_rfl) (bM (ae h fun x2 hx2 h=>ai [0] [11,12] [(13,pL Za.enc x2),(14,pI (x2.length:Int)),(15,pI 0)] (aU 2 (tC hx2) aY) (by kernel_rfl) (aD (bC 95 5 (ae h fun q13 hq13 h=>?_))))))))))
 refine ap (Y:=(Option Addr×Nat)×((List Za))) (fun ((a9,c10),l11)=>[(7,pO a9 l11.length c10)]) (fun ((a9,c10),l11)=>[Qa.row a9 l11.length c10 95 5 (List.map Za.enc l11)]) (fun ((a9,c10),l11)=>q13=l11) ?_ ?_
 ·refine aG ?_
  refine aJ (Y:=Option Addr×Nat) (S:=(List Za)×Int) _ hq13 (fun (a5,c6) (l4,v7)=>[(2,pS p2),(7,pO a5 l4.length c6),(13,pL Za.enc x2),(14,pI (x2.length:Int)),(15,pI v7)]) (fun (a5,c6) (l4,v7)=>[Qa.row a5 l4.length c6 95 5 (List.map Za.enc l4)]) (none,0) (gA rfl) bN ?_
  rintro ⟨a5,c6⟩ ⟨l4,v7⟩ o τ hb12;(try dsimp only at hb12);dsimp only [aw]
  refine cH [(16,pB (decide (v7<(x2.length:Int))))] (by kernel_rfl) (br (fh rfl hb12 (fun hc15 hb12=>?_) fun hc15 hb12=>?_))
  ·refine af ?_
   refine cP hb12 fun q20 hq20 hb12=>?_
   refine ap (Y:=(Option Addr×Nat)×((List Za))) (fun ((a17,c18),l19)=>[(2,pS p2),(7,pO a17 l19.length c18),(13,pL Za.enc x2),(14,pI (x2.length:Int)),(15,pI v7)]) (fun ((a17,c18),l19)=>[Qa.row a17 l19.length c18 95 5 (List.map Za.enc l19)]) (fun ((a17,c18),l19)=>q20=l19) ?_ ?_
   ·skip
    refine rx (ae hq20 fun m21 hm21 hq20=>cS 2 [] [17] [(18,.agg (av m21))] (bX 0 Za.enc hm21 aY) (by kernel_rfl) (aj rfl (aP (cs:=[pS Uh,pI 0,pI 0,pN,pB false]) rfl rfl rfl rfl (fun b22=>aM rfl rfl (al (vs:=(av m21)) rfl rfl rfl rfl rfl bT td (au (br (aK [0] [19,20,21] [(10,pI (m21.Code.size:Int))] (by kernel_rfl) (cP hq20 fun s23 hs23 hq20=>ai [0] (rg 22 22) [(44,pB (((decide (p2=(⟨#[]⟩:Xh)))&&((m21.Code.size:Int) == 4))||(((!decide (p2=(⟨#[]⟩:Xh)))&&(decide (2<(m21.Code.size:Int))))&&(decide (s23=p2)))))] (G1 18 (fU hs23) aY) (by kernel_rfl) (fi rfl hq20 (fun hc24 hq20=>?_) fun hc24 hq20=>?_))))))))))
    ·refine ak ?_
     refine dE 2 [0] [(45,pO a5 l4.length c6),(46,.agg (av m21))] (by kernel_rfl) (aj rfl (bp rfl rfl rfl rfl rfl (eE rfl jy) rfl rfl rfl rfl (fun b25=>ae hq20 fun l27 hl27 hq20=>?_)))
     refine aj rfl (bw (enc:=Za.enc) rfl rfl rfl rfl rfl rfl rfl rfl rfl eG (by exact aC (aC aN)) hl27 (fun a28 c29=>?_))
     refine aE [(7,pO a28 l27.length c29)] (by kernel_rfl) (aF ?_)
     obtain rfl:=osi hq20
     exact am ((a28,c29),l27) (gA rfl) bN rfl
    refine af ?_
    refine aF ?_
    obtain rfl:=osi hq20
    exact am ((a5,c6),l4) (gA rfl) (bg (aC aN) bq) rfl
   rintro ⟨⟨a17,c18⟩,l19⟩ τ hz;(try dsimp only at hz);subst q20;(try dsimp only at hb12);dsimp only [aw]
   refine ah [49] [(15,pI (i64.wrap (v7+1)))] (by kernel_rfl) ?_
   exact aT hb12 (a17,c18) (gA rfl) bN
  refine aL ?_
  refine cJ hb12 (fun ht=>an rfl ?_)
  exact am ((a5,c6),l4) (oC rfl) bN ht.symm
 rintro ⟨⟨a9,c10⟩,l11⟩ τ hz;(try dsimp only at hz);subst q13;(try dsimp only at h);dsimp only [aw]
 refine ag (ah [50] [(6,pO a9 l11.length c10)] (by kernel_rfl) (aD ?_))
 refine fj (enc:=Za.enc) (xs:=l11) 6 rfl (by exact aN) ?_
 refine bi ?_
 exact zz r h rfl
def eJ (p1:Int):Option (List Xh):=(mk0 16 p1).bind fun _=>some []
theorem nV {p1:Int} {r:(List Xh)} (h:eJ p1=some r):La 237 [.v (.slice none 0 0),pI p1] [] (fun pv ρ'=>∃ a c,pv=.v (.slice a r.length c)/\ρ'=[Qa.row a r.length c 9 1 (List.map eS r)]):=by
 unfold eJ at h
 obtain ⟨u,hu,h⟩:=Option.bind_eq_some_iff.1 h
 obtain rfl:=osi h
 obtain ⟨hg0,hg1⟩:=Hl hu
 have ew:i64.wrap (p1 - i64.wrap (((0:Nat):Int) - ((0:Nat):Int)))=p1:=zg hg0 hg1
 refine gC Tryz.func237 rfl Tryz.ntmps237 Tryz.results237 rfl ?_
 (repeat refine ag ?_)
 refine aQ [4] (by kernel_rfl) (aD ?_)
 (repeat refine ag ?_)
 refine ah [5] [(6,pB (decide (p1<0)))] (by kernel_rfl) (aD ?_)
 refine iV rfl (fun hc=>absurd (of_decide_eq_true hc) (by omega)) (fun hc=>?_)
 refine af (aD ?_)
 (repeat refine ag ?_)
 refine fC 2 [(8,pI p1),(9,.v (.slice none 0 0))] (by kernel_rfl) (cg rfl rfl rfl (wz rfl rfl (.p rfl)) (fV [11,12,13,14] [(1,pI (i64.wrap (p1 - i64.wrap (((0:Nat):Int) - ((0:Nat):Int)))))] (by kernel_rfl) ?_))
 rw [ew]
 refine aD ?_
 (repeat refine ag ?_)
 refine ah [15] [(16,pB (decide (0<p1)))] (by kernel_rfl) (aD ?_)
 refine iV rfl (fun hc=>?_) (fun hc=>?_)
 ·refine ak ?_
  refine ba 2 [(17,.v (.slice none 0 0)),(18,.v (.slice none 0 0))] (by kernel_rfl) (cg rfl rfl rfl (wz rfl rfl (.p rfl)) (cg rfl rfl rfl (sB rfl rfl rfl (.p rfl) (.p rfl) rfl (zero_le _)) (ba 1 [(21,pI p1)] (by kernel_rfl) (oJ 9 1 ?_))))
  refine aj rfl (BO rfl rfl rfl rfl rfl rfl rfl rfl (of_decide_eq_true hc) hu (by exact aN) (fun a c hac=>?_))
  refine ba 2 [(23,.v (.slice none 0 0)),(24,pI 0)] (by kernel_rfl) (cg rfl rfl rfl (sB (k:=0) rfl rfl rfl (.p rfl) (.p rfl) rfl (zero_le _)) (aE [(0,.v (.slice a 0 c))] (by kernel_rfl) (aD ?_)))
  (repeat refine ag ?_)
  refine ah [26] [(4,.v (.slice a 0 c))] (by kernel_rfl) (cK ?_)
  exact aH (dZ (az rfl)) bN ⟨_,_,rfl,rfl⟩
 refine af ?_
 refine aD ?_
 (repeat refine ag ?_)
 refine ah [26] [(4,.v (.slice none 0 0))] (by kernel_rfl) (aD (bC 9 1 (bi ?_)))
 exact aH (dZ (az rfl)) bN ⟨_,_,rfl,rfl⟩
def dX (p0:(List (List Xh))):Option (List Xh):=(aW (S:=Int×Int) (T:=(Int)) (fun (v1,v2)=>cond (decide (v2<(p0.length:Int))) ((bx p0 v2).bind fun m7=>cond (decide ((i64.wrap (v1+(m7.length:Int)))<0)) (none) (some (.inl ((i64.wrap (v1+(m7.length:Int))),(i64.wrap (v2+1)))))) (some (.inr v1))) Va (0,0)).bind fun v3=>(eJ v3).bind fun x9=>(aW (S:=(List Xh)×Int) (T:=((List Xh))) (fun (l14,v17)=>cond (decide (v17<(p0.length:Int))) ((bx p0 v17).bind fun m25=>(app 16 l14 m25).bind fun l26=>some (.inl (l26,(i64.wrap (v17+1))))) (some (.inr l14))) Va (x9,0)).bind fun l21=>some l21
theorem nh {p0:(List (List Xh))} {r:(List Xh)}  (h:dX p0=some r):La 201 [pL (eL eS) p0] [] (fun pv ρ'=>∃ a c,pv=.v (.slice a r.length c)/\ρ'=[Qa.row a r.length c 9 1 (List.map eS r)]):=by
 unfold dX at h
 refine dk Tryz.func201 rfl Tryz.ntmps201 Tryz.results201 rfl (aQ [2] (by kernel_rfl) (br (aA [(3,pI 0)] (by kernel_rfl) (bM (aA [(9,pL (eL eS) p0),(10,pI (p0.length:Int)),(11,pI 0)] (by kernel_rfl) (ey h fun q5 hq5 h=>?_))))))
 refine ap (Y:=Unit×Int) (fun (_,v3)=>[(0,pL (eL eS) p0),(3,pI v3)]) (fun (_,v3)=>[]) (fun (_,v3)=>q5=v3) ?_ ?_
 ·refine aG ?_
  refine aJ (Y:=Unit) (S:=Int×Int) _ hq5 (fun _ (v1,v2)=>[(0,pL (eL eS) p0),(3,pI v1),(9,pL (eL eS) p0),(10,pI (p0.length:Int)),(11,pI v2)]) (fun _ (v1,v2)=>[]) () (gA rfl) bq ?_
  rintro _ ⟨v1,v2⟩ o τ hb4;(try dsimp only at hb4);dsimp only [aw]
  refine cH [(12,pB (decide (v2<(p0.length:Int))))] (by kernel_rfl) (br (fh rfl hb4 (fun hc6 hb4=>?_) fun hc6 hb4=>?_))
  ·refine af ?_
   refine eT (ae hb4 fun m7 hm7 hb4=>ai [] [13,14] [(5,pL eS m7)] (bX 0 (eL eS) hm7 aY) (by kernel_rfl) (br (ah [15,16,17,18] [(3,pI (i64.wrap (v1+(m7.length:Int))))] (by kernel_rfl) (br (bF [19] [(20,pB (decide ((i64.wrap (v1+(m7.length:Int)))<0)))] (by kernel_rfl) rfl hb4 (fun hc8 hb4=>?_) fun hc8 hb4=>?_)))))
   ·refine ak ?_
    exact absurd hb4 (by simp)
   refine af ?_
   refine eH (ah [22] [(11,pI (i64.wrap (v2+1)))] (by kernel_rfl) ?_)
   exact aT hb4 () (gA rfl) bq
  refine aL ?_
  refine cJ hb4 (fun ht=>an rfl ?_)
  exact am ((),v1) (lK rfl) bq ht.symm
 rintro ⟨_,v3⟩ τ hz;(try dsimp only at hz);subst q5;(try dsimp only at h);dsimp only [aw]
 refine ag (ae h fun x9 hx9 h=>fC 1 [(23,pI v3)] (by kernel_rfl) ?_)
 refine aj rfl (aI rfl rfl (ρ1:=[]) Vh (nV hx9) ?_);rintro _ _ ⟨a10,c11,rfl,rfl⟩
 refine aE [(6,pO a10 x9.length c11)] (by kernel_rfl) (bM (aA [(25,pL (eL eS) p0),(26,pI (p0.length:Int)),(27,pI 0)] (by kernel_rfl) (ey h fun q23 hq23 h=>?_)))
 refine ap (Y:=(Option Addr×Nat)×((List Xh))) (fun ((a19,c20),l21)=>[(6,pO a19 l21.length c20)]) (fun ((a19,c20),l21)=>[Qa.row a19 l21.length c20 9 1 (List.map eS l21)]) (fun ((a19,c20),l21)=>q23=l21) ?_ ?_
 ·refine aG ?_
  refine aJ (Y:=Option Addr×Nat) (S:=(List Xh)×Int) _ hq23 (fun (a15,c16) (l14,v17)=>[(6,pO a15 l14.length c16),(25,pL (eL eS) p0),(26,pI (p0.length:Int)),(27,pI v17)]) (fun (a15,c16) (l14,v17)=>[Qa.row a15 l14.length c16 9 1 (List.map eS l14)]) (a10,c11) (jC rfl) bN ?_
  rintro ⟨a15,c16⟩ ⟨l14,v17⟩ o τ hb22;(try dsimp only at hb22);dsimp only [aw]
  refine cH [(28,pB (decide (v17<(p0.length:Int))))] (by kernel_rfl) (br (fh rfl hb22 (fun hc24 hb22=>?_) fun hc24 hb22=>?_))
  ·refine af ?_
   refine eT (ae hb22 fun m25 hm25 hb22=>ai [] [29,30] [(8,pL eS m25)] (bX 0 (eL eS) hm25 aY) (by kernel_rfl) (ey hb22 fun l26 hl26 hb22=>fC 2 [(31,pO a15 l14.length c16),(32,pL eS m25)] (by kernel_rfl) ?_))
   refine aj rfl (rF (enc:=eS) rfl rfl rfl rfl rfl (fun _=>rfl) rfl rfl rfl (by exact aN) hl26 (fun a27 c28=>?_))
   refine aE [(6,pO a27 l26.length c28)] (by kernel_rfl) (eH (ah [34] [(27,pI (i64.wrap (v17+1)))] (by kernel_rfl) ?_))
   exact aT hb22 (a27,c28) (jC rfl) bN
  refine aL ?_
  refine cJ hb22 (fun ht=>an rfl ?_)
  exact am ((a15,c16),l14) (oC rfl) bN ht.symm
 rintro ⟨⟨a19,c20⟩,l21⟩ τ hz;(try dsimp only at hz);subst q23;(try dsimp only at h);dsimp only [aw]
 refine ag (ah [35] [(2,pO a19 l21.length c20)] (by kernel_rfl) (cK ?_))
 obtain rfl:=osi h
 exact aH (dZ (az rfl)) bN ⟨_,_,rfl,rfl⟩
def dG (p0:(List Xh)):Option (List Xh):=cond (decide (((p0.length:Nat):Int)<2)) (some p0) ((aW (S:=Int) (T:=(Unit)⊕(_)) (fun v2=>cond (decide (v2<((p0.length:Nat):Int))) ((bx p0 v2).bind fun m7=>(bx p0 (i64.wrap (v2 - 1))).bind fun m8=>cond (decide (m7=m8)) ((sub p0 v2 (p0.length:Int)).bind fun l10=>(aW (S:=(List Xh)×Int×Int) (T:=((List Xh)×Int)) (fun (l12,v13,v14)=>cond (decide (v14<((p0.length - v2.toNat:Nat):Int))) (((sN v14).bind fun u25=>(bx l12 (v2+v14)).bind fun m26=>(sN (i64.wrap (v14 - 1))).bind fun u27=>(bx l12 (v2+(i64.wrap (v14 - 1)))).bind fun m28=>cond (!decide (m26=m28)) ((sN v14).bind fun u30=>(bx l12 (v2+v14)).bind fun m31=>(bx l12 v13).bind fun m32=>some ((l12.set v13.toNat m31),(i64.wrap (v13+1)))) (some (l12,v13))).bind fun (l22,v23)=>some (.inl (l22,v23,(i64.wrap (v14+1))))) (some (.inr (l12,v13)))) Va (p0,v2,1)).bind fun (l16,v17)=>(sub l16 v17 (l16.length:Int)).bind fun l34=>(sub (List.take v17.toNat l16++List.replicate (p0.length - v17.toNat) Uh) 0 v17).bind fun l35=>some (.inr (.inr l35))) (some (.inl (i64.wrap (v2+1))))) (some (.inr (.inl ())))) Va 1).bind fun q=>match q with | .inl _=>some p0 | .inr e=>some e)
theorem mT {p0:(List Xh)} {a_0:Option Addr}  {n_0:Nat}  {c_0:Nat} {r:(List Xh)}  (h:dG p0=some r):La 203 [.v (.slice a_0 n_0 c_0)] [Qa.row a_0 n_0 c_0 9 1 (List.map eS p0)] (fun pv ρ'=>∃ a c,pv=.v (.slice a r.length c)/\ρ'=[Qa.row a r.length c 9 1 (List.map eS r)]):=by
 unfold dG at h
 refine gC Tryz.func203 rfl Tryz.ntmps203 Tryz.results203 rfl ?_
 refine dR (enc:=eS) (xs:=p0) (a:=a_0) eG (fun hl ha=>?_);subst hl;clear ha
 refine ag (aQ [2] (by kernel_rfl) (bM (bF [6,7] [(8,pB (decide (((p0.length:Nat):Int)<2)))] (by kernel_rfl) rfl h (fun hc1 h=>?_) fun hc1 h=>?_)))
 ·refine ag ?_
  refine ah [9] [(2,pO a_0 p0.length c_0)] (by kernel_rfl) (sO ?_)
  obtain rfl:=osi h
  exact aH (dZ (az rfl)) bN ⟨_,_,rfl,rfl⟩
 refine af ?_
 refine bM (aA [(3,pI 1)] (by kernel_rfl) (ey h fun q5 hq5 h=>?_))
 refine ap (Y:=Unit×Unit) (fun (_,_)=>[(0,pO a_0 p0.length c_0)]) (fun (_,_)=>[Qa.row a_0 p0.length c_0 9 1 (List.map eS p0)]) (fun (_,_)=>q5=Sum.inl ()) ?_ ?_
 ·refine aG ?_
  refine aJ (Y:=Unit) (S:=Int) _ hq5 (fun _ v2=>[(0,pO a_0 p0.length c_0),(3,pI v2)]) (fun _ v2=>[Qa.row a_0 p0.length c_0 9 1 (List.map eS p0)]) () (lK rfl) bN ?_
  rintro _ v2 o τ hb4;(try dsimp only at hb4);dsimp only [aw]
  refine dV (bF [10,11,12] [(13,pB (decide (v2<((p0.length:Nat):Int))))] (by kernel_rfl) rfl hb4 (fun hc6 hb4=>?_) fun hc6 hb4=>?_)
  ·refine af ?_
   refine eT (bE (ρd:=[]) [(0,0),(1,0),(2,0),(3,0),(4,0),(5,0),(6,0),(7,0),(8,0),(9,0)] _ Vh (by kernel_rfl) rfl (ae hb4 fun m7 hm7 hb4=>fB 2 [(16,pO a_0 p0.length c_0),(17,pI v2)] (by kernel_rfl) (lW rfl rfl rfl (d9 (enc:=eS) (xs:=p0) rfl rfl rfl (.p rfl) eG (.p rfl) (fun _=>hm7)) (lW rfl rfl rfl (dj (sz:=1) (p:=pS m7) (enc:=eS) (xs:=p0) (a:=a_0) v2 0 m7 rfl (.p rfl) rfl eG (fun _=>hm7) rfl) (ae hb4 fun m8 hm8 hb4=>mB 3 [21] [(20,pO a_0 p0.length c_0),(22,pI (i64.wrap (v2 - 1)))] (by kernel_rfl) (lW rfl rfl rfl (d9 (enc:=eS) (xs:=p0) rfl rfl rfl (.p rfl) eG (.p rfl) (fun _=>hm8)) (lW rfl rfl rfl (dj (sz:=1) (p:=pS m8) (enc:=eS) (xs:=p0) (a:=a_0) (i64.wrap (v2 - 1)) 0 m8 rfl (.p rfl) rfl eG (fun _=>hm8) rfl) (fB 1 [(25,pB (decide (m7=m8)))] (by kernel_rfl) (bZ (fi rfl hb4 (fun hc9 hb4=>?_) fun hc9 hb4=>?_))))))))))
   ·refine ag ?_
    refine ae hb4 fun l10 hl10 hb4=>fC 2 [(26,pO a_0 p0.length c_0),(27,pI v2)] (by kernel_rfl) (cg rfl rfl rfl (xD (enc:=eS) (xs:=p0) rfl rfl rfl rfl rfl eG hl10) (aE [(4,pQ a_0 p0.length c_0 v2.toNat 1)] (by kernel_rfl) (bM (aA [(5,pI 1)] (by kernel_rfl) (ey hb4 fun q19 hq19 hb4=>?_)))))
    refine ap (Y:=Unit×((List Xh)×Int)) (fun (_,(l16,v17))=>[(0,pO a_0 p0.length c_0),(3,pI v17)]) (fun (_,(l16,v17))=>[Qa.row a_0 p0.length c_0 9 1 (List.map eS l16)]) (fun (_,(l16,v17))=>q19=(l16,v17)) ?_ ?_
    ·refine aG ?_
     refine aJ (Y:=Unit) (S:=(List Xh)×Int×Int) _ hq19 (fun _ (l12,v13,v14)=>[(0,pO a_0 p0.length c_0),(3,pI v13),(4,pQ a_0 p0.length c_0 v2.toNat 1),(5,pI v14)]) (fun _ (l12,v13,v14)=>[Qa.row a_0 p0.length c_0 9 1 (List.map eS l12)]) () (jC rfl) bN ?_
     rintro _ ⟨l12,v13,v14⟩ o τ hb18;(try dsimp only at hb18);dsimp only [aw]
     refine dV (bF [29,30,31] [(32,pB (decide (v14<((p0.length - v2.toNat:Nat):Int))))] (by kernel_rfl) rfl hb18 (fun hc20 hb18=>?_) fun hc20 hb18=>?_)
     ·refine af ?_
      refine cP hb18 fun q24 hq24 hb18=>?_
      refine ap (Y:=Unit×((List Xh)×Int)) (fun (_,(l22,v23))=>[(0,pO a_0 p0.length c_0),(3,pI v23),(4,pQ a_0 p0.length c_0 v2.toNat 1),(5,pI v14)]) (fun (_,(l22,v23))=>[Qa.row a_0 p0.length c_0 9 1 (List.map eS l22)]) (fun (_,(l22,v23))=>q24=(l22,v23)) ?_ ?_
      ·skip
       refine rx (bE (ρd:=[]) [(0,0),(1,0),(2,0),(3,0),(4,0),(5,0),(6,0),(7,0),(8,0),(9,0)] _ Vh (by kernel_rfl) rfl (ae hq24 fun u25 hu25 hq24=>ae hq24 fun m26 hm26 hq24=>fB 2 [(35,pQ a_0 p0.length c_0 v2.toNat 1),(36,pI v14)] (by kernel_rfl) (lW rfl rfl rfl (tA (enc:=eS) (xs:=l12) (i:=v2) rfl rfl rfl rfl rfl (lq hl10).1.1 (ug hu25) eG hm26) (lW rfl rfl rfl (dj (sz:=1) (p:=pS m26) (enc:=eS) (xs:=l12) (a:=a_0) (v2+v14) 0 m26 rfl (.p rfl) rfl eG (fun _=>hm26) rfl) (ae hq24 fun u27 hu27 hq24=>ae hq24 fun m28 hm28 hq24=>mB 3 [40] [(39,pQ a_0 p0.length c_0 v2.toNat 1),(41,pI (i64.wrap (v14 - 1)))] (by kernel_rfl) (lW rfl rfl rfl (tA (enc:=eS) (xs:=l12) (i:=v2) rfl rfl rfl rfl rfl (lq hl10).1.1 (ug hu27) eG hm28) (lW rfl rfl rfl (dj (sz:=1) (p:=pS m28) (enc:=eS) (xs:=l12) (a:=a_0) (v2+(i64.wrap (v14 - 1))) 0 m28 rfl (.p rfl) rfl eG (fun _=>hm28) rfl) (fB 1 [(44,pB (!decide (m26=m28)))] (by kernel_rfl) (bZ (fi rfl hq24 (fun hc29 hq24=>?_) fun hc29 hq24=>?_))))))))))
       ·refine ag ?_
        refine ae hq24 fun u30 hu30 hq24=>ae hq24 fun m31 hm31 hq24=>fC 4 [(45,pO a_0 p0.length c_0),(46,pI v13),(47,pQ a_0 p0.length c_0 v2.toNat 1),(48,pI v14)] (by kernel_rfl) (cg rfl rfl rfl (tA (enc:=eS) (xs:=l12) (i:=v2) rfl rfl rfl rfl rfl (lq hl10).1.1 (ug hu30) eG hm31) (cg rfl rfl rfl (dj (sz:=1) (p:=pS m31) (enc:=eS) (xs:=l12) (a:=a_0) (v2+v14) 0 m31 rfl (.p rfl) rfl eG (fun _=>hm31) rfl) (ae hq24 fun m32 hm32 hq24=>cg rfl rfl rfl (d9 (enc:=eS) (xs:=l12) rfl rfl rfl (.p rfl) eG (.p rfl) (fun _=>hm32)) (aM rfl rfl (jb (enc:=eS) (xs:=l12) (a:=a_0) v13 0 m32 m31 rfl rfl rfl rfl (fun _=>rfl) rfl rfl hm32 ii bT (au (aD (ah [52,53] [(3,pI (i64.wrap (v13+1)))] (by kernel_rfl) (aF ?_)))))))))
        obtain rfl:=osi hq24
        exact am ((),((l12.set v13.toNat m31),(i64.wrap (v13+1)))) (jC rfl) bN rfl
       refine af ?_
       refine aF ?_
       obtain rfl:=osi hq24
       exact am ((),(l12,v13)) (jC rfl) bN rfl
      rintro ⟨_,⟨l22,v23⟩⟩ τ hz;(try dsimp only at hz);subst q24;(try dsimp only at hb18);dsimp only [aw]
      refine ah [33,34] [(5,pI (i64.wrap (v14+1)))] (by kernel_rfl) ?_
      exact aT hb18 () (jC rfl) bN
     refine aL ?_
     refine cJ hb18 (fun ht=>an rfl ?_)
     exact am ((),(l12,v13)) (lK rfl) bN ht.symm
    rintro ⟨_,⟨l16,v17⟩⟩ τ hz;(try dsimp only at hz);subst q19;(try dsimp only at hb4);dsimp only [aw]
    refine ag (ae hb4 fun l34 hl34 hb4=>fC 2 [(54,pO a_0 p0.length c_0),(55,pI v17)] (by kernel_rfl) (cg rfl rfl rfl (xD (enc:=eS) (xs:=l16) rfl rfl rfl rfl rfl eG hl34) (aM rfl rfl (E8 (enc:=eS) (xs:=l16) (z0:=Uh) (i:=v17) rfl rfl rfl rfl hl34 rfl rfl rfl rfl bT (au (cP hb4 fun l35 hl35 hb4=>fC 2 [(57,pO a_0 p0.length c_0),(58,pI v17)] (by kernel_rfl) ?_))))))
    refine aj rfl (E7 (enc:=eS) (xs:=(List.take v17.toNat l16++List.replicate (p0.length - v17.toNat) Uh)) rfl rfl rfl rfl rfl (by exact aN) hl35 ?_)
    refine aE [(2,pO a_0 l35.length c_0)] (by kernel_rfl) (cK (iq ?_))
    refine aX hb4 (fun ht=>?_);subst ht
    refine aO (aS ?_)
    obtain rfl:=osi h
    exact aH (dZ (az rfl)) bN ⟨_,_,rfl,rfl⟩
   refine af ?_
   refine eH (ah [14,15] [(3,pI (i64.wrap (v2+1)))] (by kernel_rfl) ?_)
   exact aT hb4 () (lK rfl) bN
  refine aL ?_
  refine cJ hb4 (fun ht=>an rfl ?_)
  exact am ((),()) (oC rfl) bN ht.symm
 rintro ⟨_,_⟩ τ hz;(try dsimp only at hz);subst q5;(try dsimp only at h);dsimp only [aw]
 refine ag (ah [60] [(2,pO a_0 p0.length c_0)] (by kernel_rfl) (cK ?_))
 obtain rfl:=osi h
 exact aH (dZ (az rfl)) bN ⟨_,_,rfl,rfl⟩
def ep (p0:(List Za)) (p1:(Za->Option Bool)):Option (List Za):=(aW (S:=(List Za)×Int) (T:=((List Za))) (fun (l2,v5)=>cond (decide (v5<(p0.length:Int))) (((bx p0 v5).bind fun m19=>(p1 m19).bind fun x21=>cond x21 ((app 64 l2 [m19]).bind fun l25=>some l25) (some l2)).bind fun l17=>some (.inl (l17,(i64.wrap (v5+1))))) (some (.inr l2))) Va (([]:List Za),0)).bind fun l9=>some l9
theorem ij {p0:(List Za)} {p1:(Za->Option Bool)} {r:(List Za)} {g1:PV} (hg1:∀ {y0:Za} {w:Bool},p1 y0=some w->Yc g1 [.agg (av y0)] (pB w)) (h:ep p0 p1=some r):PF 131 [pL Za.enc p0,g1] (pL Za.enc r):=by
 unfold ep at h
 refine aV ?_
 refine dk Tryz.func131 rfl Tryz.ntmps131 Tryz.results131 rfl (aQ [4] (by kernel_rfl) (br (aA [(5,pN)] (by kernel_rfl) (bM (aA [(8,pL Za.enc p0),(9,pI (p0.length:Int)),(10,pI 0)] (by kernel_rfl) (aD (bC 95 5 (ae h fun q11 hq11 h=>?_))))))))
 refine ap (Y:=(Option Addr×Nat)×((List Za))) (fun ((a7,c8),l9)=>[(5,pO a7 l9.length c8)]) (fun ((a7,c8),l9)=>[Qa.row a7 l9.length c8 95 5 (List.map Za.enc l9)]) (fun ((a7,c8),l9)=>q11=l9) ?_ ?_
 ·refine aG ?_
  refine aJ (Y:=Option Addr×Nat) (S:=(List Za)×Int) _ hq11 (fun (a3,c4) (l2,v5)=>[(1,g1),(5,pO a3 l2.length c4),(8,pL Za.enc p0),(9,pI (p0.length:Int)),(10,pI v5)]) (fun (a3,c4) (l2,v5)=>[Qa.row a3 l2.length c4 95 5 (List.map Za.enc l2)]) (none,0) (gA rfl) bN ?_
  rintro ⟨a3,c4⟩ ⟨l2,v5⟩ o τ hb10;(try dsimp only at hb10);dsimp only [aw]
  refine cH [(11,pB (decide (v5<(p0.length:Int))))] (by kernel_rfl) (br (fh rfl hb10 (fun hc13 hb10=>?_) fun hc13 hb10=>?_))
  ·refine af ?_
   refine cP hb10 fun q18 hq18 hb10=>?_
   refine ap (Y:=(Option Addr×Nat)×((List Za))) (fun ((a15,c16),l17)=>[(1,g1),(5,pO a15 l17.length c16),(8,pL Za.enc p0),(9,pI (p0.length:Int)),(10,pI v5)]) (fun ((a15,c16),l17)=>[Qa.row a15 l17.length c16 95 5 (List.map Za.enc l17)]) (fun ((a15,c16),l17)=>q18=l17) ?_ ?_
   ·skip
    refine rx (ae hq18 fun m19 hm19 hq18=>cS 2 [] [12] [(13,.agg (av m19))] (bX 0 Za.enc hm19 aY) (by kernel_rfl) (aj rfl (aP (cs:=[pS Uh,pI 0,pI 0,pN,pB false]) rfl rfl rfl rfl (fun b20=>aM rfl rfl (al (vs:=(av m19)) rfl rfl rfl rfl rfl bT td (au (cP hq18 fun x21 hx21 hq18=>ai [0] [14,15] [(16,pB x21)] (yD 2 (hg1 hx21) aY) (by kernel_rfl) (fi rfl hq18 (fun hc22 hq18=>?_) fun hc22 hq18=>?_))))))))
    ·refine ak ?_
     refine dE 2 [0] [(17,pO a3 l2.length c4),(18,.agg (av m19))] (by kernel_rfl) (aj rfl (bp rfl rfl rfl rfl rfl (eE rfl jy) rfl rfl rfl rfl (fun b23=>ae hq18 fun l25 hl25 hq18=>?_)))
     refine aj rfl (bw (enc:=Za.enc) rfl rfl rfl rfl rfl rfl rfl rfl rfl eG (by exact aC (aC aN)) hl25 (fun a26 c27=>?_))
     refine aE [(5,pO a26 l25.length c27)] (by kernel_rfl) (aF ?_)
     obtain rfl:=osi hq18
     exact am ((a26,c27),l25) (gA rfl) bN rfl
    refine af ?_
    refine aF ?_
    obtain rfl:=osi hq18
    exact am ((a3,c4),l2) (gA rfl) (bg (aC aN) bq) rfl
   rintro ⟨⟨a15,c16⟩,l17⟩ τ hz;(try dsimp only at hz);subst q18;(try dsimp only at hb10);dsimp only [aw]
   refine ah [21] [(10,pI (i64.wrap (v5+1)))] (by kernel_rfl) ?_
   exact aT hb10 (a15,c16) (gA rfl) bN
  refine aL ?_
  refine cJ hb10 (fun ht=>an rfl ?_)
  exact am ((a3,c4),l2) (oC rfl) bN ht.symm
 rintro ⟨⟨a7,c8⟩,l9⟩ τ hz;(try dsimp only at hz);subst q11;(try dsimp only at h);dsimp only [aw]
 refine ag (ah [22] [(4,pO a7 l9.length c8)] (by kernel_rfl) (aD ?_))
 refine fj (enc:=Za.enc) (xs:=l9) 4 rfl (by exact aN) ?_
 refine bi ?_
 exact zz r h rfl
def fG (p0:(List Xh)) (p1:Xh):Option Int:=(aW (S:=Int) (T:=(Unit)⊕(_)) (fun v1=>cond (decide (v1<(p0.length:Int))) ((bx p0 v1).bind fun m5=>cond (decide (p1=m5)) (some (.inr (.inr v1))) (some (.inl (i64.wrap (v1+1))))) (some (.inr (.inl ())))) Va 0).bind fun q=>match q with | .inl _=>some (-1) | .inr e=>some e
theorem nK {p0:(List Xh)} {p1:Xh} {r:Int}  (h:fG p0 p1=some r):PF 197 [pL eS p0,pS p1] (pI r):=by
 unfold fG at h
 refine aV ?_
 refine dk Tryz.func197 rfl Tryz.ntmps197 Tryz.results197 rfl (aQ [4] (by kernel_rfl) (bM (ah [6] [(7,pI (p0.length:Int)),(8,pI 0)] (by kernel_rfl) (ey h fun q3 hq3 h=>?_))))
 refine ap (Y:=Unit×Unit) (fun (_,_)=>[]) (fun (_,_)=>[]) (fun (_,_)=>q3=Sum.inl ()) ?_ ?_
 ·refine aG ?_
  refine aJ (Y:=Unit) (S:=Int) _ hq3 (fun _ v1=>[(0,pL eS p0),(1,pS p1),(7,pI (p0.length:Int)),(8,pI v1)]) (fun _ v1=>[]) () (jC rfl) bq ?_
  rintro _ v1 o τ hb2;(try dsimp only at hb2);dsimp only [aw]
  refine cH [(9,pB (decide (v1<(p0.length:Int))))] (by kernel_rfl) (br (fh rfl hb2 (fun hc4 hb2=>?_) fun hc4 hb2=>?_))
  ·refine af ?_
   refine eT (ah [10] [(5,pI v1)] (by kernel_rfl) (cP hb2 fun m5 hm5 hb2=>ai [] (rg 11 5) [(16,pB (decide (p1=m5)))] (bX 3 eS hm5 aY) (by kernel_rfl) (fi rfl hb2 (fun hc6 hb2=>?_) fun hc6 hb2=>?_)))
   ·refine ag ?_
    refine ah [17] [(4,pI v1)] (by kernel_rfl) (cK (iq ?_))
    refine aX hb2 (fun ht=>?_);subst ht
    refine aO (aS ?_)
    exact zz r h rfl
   refine af ?_
   refine eH (ah [18] [(8,pI (i64.wrap (v1+1)))] (by kernel_rfl) ?_)
   exact aT hb2 () (jC rfl) bq
  refine aL ?_
  refine cJ hb2 (fun ht=>an rfl ?_)
  exact am ((),()) qr bq ht.symm
 rintro ⟨_,_⟩ τ hz;(try dsimp only at hz);subst q3;(try dsimp only at h);dsimp only [aw]
 refine cH [(4,pI (-1))] (by kernel_rfl) (cK ?_)
 exact zz r h rfl
def ck (p0:(List Xh)) (p1:Xh):Option Bool:=(fG p0 p1).bind fun x1=>some (decide (0<=x1))
theorem fH {p0:(List Xh)} {p1:Xh} {r:Bool}  (h:ck p0 p1=some r):PF 135 [pL eS p0,pS p1] (pB r):=by
 unfold ck at h
 refine aV ?_
 refine dk Tryz.func135 rfl Tryz.ntmps135 Tryz.results135 rfl (aQ [4] (by kernel_rfl) (cP h fun x1 hx1 h=>ai [] [5,6,7,8] [(4,pB (decide (0<=x1)))] (aU 2 (nK hx1) aY) (by kernel_rfl) (cK ?_)))
 exact zz r h rfl
def dH (p0:Xh) (p1:(List Xh)):Option Bool:=(ck p1 p0).bind fun x1=>some x1
theorem pq {p0:Xh} {p1:(List Xh)} {r:Bool}  (h:dH p0 p1=some r):PF 234 [pS p0,.ref [pL eS p1] 0] (pB r):=by
 unfold dH at h
 refine aV ?_
 refine dk Tryz.func234 rfl Tryz.ntmps234 Tryz.results234 rfl (aQ [3] (by kernel_rfl) (cP h fun x1 hx1 h=>ai [] [4,5,6] [(3,pB x1)] (aU 2 (fH hx1) aY) (by kernel_rfl) (cK ?_)))
 exact zz r h rfl
def kL (p0:(List Xh)):Option (List Xh):=cond (decide ((p0.length:Int)<=50)) (some p0) (none)
theorem qV {p0:(List Xh)} {r:(List Xh)}  (h:kL p0=some r):PF 198 [pL eS p0] (.fn 234 [.ref [pL eS r] 0]):=by
 unfold kL at h
 refine aV ?_
 refine dk Tryz.func198 rfl Tryz.ntmps198 Tryz.results198 rfl (cL rfl (be (cs:=[pL eS p0]) rfl rfl (fun b1=>aZ [2] (by kernel_rfl) (bM (aK [0] [4,5] [(6,pB (decide ((p0.length:Int)<=50)))] (by kernel_rfl) (fi rfl h (fun hc2 h=>?_) fun hc2 h=>?_))))))
 ·refine ag ?_
  refine ak ?_
  refine jj 1 rfl (by exact aN) ?_
  refine fV [7] [(2,.fn 234 [.ref [pL eS p0] 0])] (by kernel_rfl) (sO ?_)
  obtain rfl:=osi h
  exact zq rfl ⟨rfl,rfl⟩
 refine af ?_
 refine br (ak (dE 1 [0] [(8,pL eS p0)] (by kernel_rfl) ?_))
 exact absurd h (by simp)
def jE (p0:(List Xh)) (p1:(List Xh)):Option Bool:=(kL p1).bind fun x1=>(aW (S:=Int) (T:=(Unit)⊕(_)) (fun v2=>cond (decide (v2<(p0.length:Int))) ((bx p0 v2).bind fun m6=>(dH m6 x1).bind fun x7=>cond (!x7) (some (.inr (.inr false))) (some (.inl (i64.wrap (v2+1))))) (some (.inr (.inl ())))) Va 0).bind fun q=>match q with | .inl _=>some true | .inr e=>some e
theorem nW {p0:(List Xh)} {p1:(List Xh)} {r:Bool}  (h:jE p0 p1=some r):PF 136 [pL eS p0,pL eS p1] (pB r):=by
 unfold jE at h
 refine aV ?_
 refine dk Tryz.func136 rfl Tryz.ntmps136 Tryz.results136 rfl (aQ [4] (by kernel_rfl) (cP h fun x1 hx1 h=>ai [] [8,9] [(5,.fn 234 [.ref [pL eS x1] 0])] (aU 1 (qV hx1) aY) (by kernel_rfl) (bM (aA [(10,pL eS p0),(11,pI (p0.length:Int)),(12,pI 0)] (by kernel_rfl) (ey h fun q4 hq4 h=>?_)))))
 refine ap (Y:=Unit×Unit) (fun (_,_)=>[]) (fun (_,_)=>[]) (fun (_,_)=>q4=Sum.inl ()) ?_ ?_
 ·refine aG ?_
  refine aJ (Y:=Unit) (S:=Int) _ hq4 (fun _ v2=>[(5,.fn 234 [.ref [pL eS x1] 0]),(10,pL eS p0),(11,pI (p0.length:Int)),(12,pI v2)]) (fun _ v2=>[]) () (jC rfl) bq ?_
  rintro _ v2 o τ hb3;(try dsimp only at hb3);dsimp only [aw]
  refine cH [(13,pB (decide (v2<(p0.length:Int))))] (by kernel_rfl) (br (fh rfl hb3 (fun hc5 hb3=>?_) fun hc5 hb3=>?_))
  ·refine af ?_
   refine eT (ae hb3 fun m6 hm6 hb3=>ai [] [14,15] [(7,pS m6)] (bX 0 eS hm6 aY) (by kernel_rfl) (cP hb3 fun x7 hx7 hb3=>ai [] [16,17,18] [(19,pB (!x7))] (yD 2 (gY (pargs:=[pS m6]) (caps:=[.ref [pL eS x1] 0]) (pq hx7)) aY) (by kernel_rfl) (fi rfl hb3 (fun hc8 hb3=>?_) fun hc8 hb3=>?_)))
   ·refine ag ?_
    refine aA [(4,pB false)] (by kernel_rfl) (cK (iq ?_))
    refine aX hb3 (fun ht=>?_);subst ht
    refine aO (aS ?_)
    exact zz r h rfl
   refine af ?_
   refine eH (ah [20] [(12,pI (i64.wrap (v2+1)))] (by kernel_rfl) ?_)
   exact aT hb3 () (jC rfl) bq
  refine aL ?_
  refine cJ hb3 (fun ht=>an rfl ?_)
  exact am ((),()) qr bq ht.symm
 rintro ⟨_,_⟩ τ hz;(try dsimp only at hz);subst q4;(try dsimp only at h);dsimp only [aw]
 refine cH [(4,pB true)] (by kernel_rfl) (cK ?_)
 exact zz r h rfl
def gF (p0:Xh) (p1:Xh):Option Bool:=(dS p0 p1).bind fun x1=>some x1
theorem nL {p0:Xh} {p1:Xh} {r:Bool}  (h:gF p0 p1=some r):PF 152 [pS p0,pS p1] (pB r):=by
 unfold gF at h
 refine aV ?_
 refine dk Tryz.func152 rfl Tryz.ntmps152 Tryz.results152 rfl (aQ [4] (by kernel_rfl) (cP h fun x1 hx1 h=>ai [] [5,6,7] [(4,pB x1)] (aU 2 (lv hx1) aY) (by kernel_rfl) (cK ?_)))
 exact zz r h rfl
def dT (p0:Zh) (p1:Xh) (p2:(List Xh)):Option Bool:=(aW (S:=Int) (T:=(Unit)⊕(_)) (fun v2=>cond (decide (v2<(p0.Notes.length:Int))) ((bx p0.Notes v2).bind fun m6=>(gF p1 m6.Scope).bind fun x8=>(gd x8 (jE m6.Words p2)).bind fun x9=>cond (x8&&x9) (some (.inr (.inr true))) (some (.inl (i64.wrap (v2+1))))) (some (.inr (.inl ())))) Va 0).bind fun q=>match q with | .inl _=>some false | .inr e=>some e
theorem jd {p0:Zh} {p1:Xh} {p2:(List Xh)} {r:Bool}  (h:dT p0 p1 p2=some r):PF 133 [.agg [pL Za.enc p0.Entries,pL Ze.enc p0.Notes],pS p1,pL eS p2] (pB r):=by
 unfold dT at h
 refine aV ?_
 refine dk Tryz.func133 rfl Tryz.ntmps133 Tryz.results133 rfl (cL rfl (be (cs:=[pL Za.enc p0.Entries,pL Ze.enc p0.Notes]) rfl rfl (fun b1=>aZ [6] (by kernel_rfl) (bM (aK [0] [9] [(10,pL Ze.enc p0.Notes),(11,pI (p0.Notes.length:Int)),(12,pI 0)] (by kernel_rfl) (ey h fun q4 hq4 h=>?_))))))
 refine ap (Y:=Unit×Unit) (fun (_,_)=>[]) (fun (_,_)=>[]) (fun (_,_)=>q4=Sum.inl ()) ?_ ?_
 ·refine aG ?_
  refine aJ (Y:=Unit) (S:=Int) _ hq4 (fun _ v2=>[(1,pS p1),(2,pL eS p2),(10,pL Ze.enc p0.Notes),(11,pI (p0.Notes.length:Int)),(12,pI v2)]) (fun _ v2=>[]) () (gA rfl) bq ?_
  rintro _ v2 o τ hb3;(try dsimp only at hb3);dsimp only [aw]
  refine cH [(13,pB (decide (v2<(p0.Notes.length:Int))))] (by kernel_rfl) (br (fh rfl hb3 (fun hc5 hb3=>?_) fun hc5 hb3=>?_))
  ·refine af ?_
   refine eT (ae hb3 fun m6 hm6 hb3=>cS 2 [] [14] [(15,.agg [pS m6.Scope,pL eS m6.Words,pS m6.Target])] (bX 0 Ze.enc hm6 aY) (by kernel_rfl) (aj rfl (aP (cs:=[pS Uh,pN,pS Uh]) rfl rfl rfl rfl (fun b7=>aM rfl rfl (al (vs:=[pS m6.Scope,pL eS m6.Words,pS m6.Target]) rfl rfl rfl rfl rfl bT AW (au (cP hb3 fun x8 hx8 hb3=>ae hb3 fun x9 hx9 hb3=>ai [0,0] (rg 16 9) [(25,pB (x8&&x9))] (aU 3 (nL hx8) (iJ 8 (fun hc=>nW (fU hx9 hc)) aY)) (by kernel_rfl) (fi rfl hb3 (fun hc10 hb3=>?_) fun hc10 hb3=>?_))))))))
   ·refine ag ?_
    refine aA [(6,pB true)] (by kernel_rfl) (cK (iq ?_))
    refine aX hb3 (fun ht=>?_);subst ht
    refine aO (aS ?_)
    exact zz r h rfl
   refine af ?_
   refine eH (ah [26] [(12,pI (i64.wrap (v2+1)))] (by kernel_rfl) ?_)
   exact aT hb3 () (gA rfl) bq
  refine aL ?_
  refine cJ hb3 (fun ht=>an rfl ?_)
  exact am ((),()) qr bq ht.symm
 rintro ⟨_,_⟩ τ hz;(try dsimp only at hz);subst q4;(try dsimp only at h);dsimp only [aw]
 refine cH [(6,pB false)] (by kernel_rfl) (cK ?_)
 exact zz r h rfl
def cT (p0:Zh) (p1:Za):Option (List (List Xh)):=(ed p1.Terms).bind fun x3=>(aW (S:=(List (List Xh))×Int) (T:=((List (List Xh)))) (fun (l8,v11)=>cond (decide (v11<(p0.Notes.length:Int))) (((bx p0.Notes v11).bind fun m24=>cond (decide (m24.Target=p1.Code)) ((bd m24.Words).bind fun x27=>(app 24 l8 [x27]).bind fun l33=>some l33) (some l8)).bind fun l22=>some (.inl (l22,(i64.wrap (v11+1))))) (some (.inr l8))) Va (x3,0)).bind fun l15=>some l15
theorem gI {p0:Zh} {p1:Za} {r:(List (List Xh))}  (h:cT p0 p1=some r):PF 134 [.agg [pL Za.enc p0.Entries,pL Ze.enc p0.Notes],.agg (av p1)] (pL (eL eS) r):=by
 unfold cT at h
 refine aV ?_
 refine dk Tryz.func134 rfl Tryz.ntmps134 Tryz.results134 rfl (cL rfl (be (cs:=[pL Za.enc p0.Entries,pL Ze.enc p0.Notes]) rfl rfl (fun b1=>aj rfl (be (cs:=(av p1)) rfl rfl (fun b2=>aZ [4] (by kernel_rfl) (cP h fun x3 hx3 h=>ak (bH 2 [0] [8] [(9,pL (eL eS) p1.Terms)] (by kernel_rfl) ?_)))))))
 refine aj rfl (aI rfl rfl (ρ1:=[]) Vh (kw hx3) ?_);rintro _ _ ⟨a4,c5,rfl,rfl⟩
 refine aE [(5,pO a4 x3.length c5)] (by kernel_rfl) (bM (aK [2] [11] [(12,pL Ze.enc p0.Notes),(13,pI (p0.Notes.length:Int)),(14,pI 0)] (by kernel_rfl) (ey h fun q17 hq17 h=>?_)))
 refine ap (Y:=(Option Addr×Nat)×((List (List Xh)))) (fun ((a13,c14),l15)=>[(5,pO a13 l15.length c14)]) (fun ((a13,c14),l15)=>[Qa.row a13 l15.length c14 28 1 (List.map (eL eS) l15)]) (fun ((a13,c14),l15)=>q17=l15) ?_ ?_
 ·refine aG ?_
  refine aJ (Y:=Option Addr×Nat) (S:=(List (List Xh))×Int) _ hq17 (fun (a9,c10) (l8,v11)=>[(3,pP b2 0),(5,pO a9 l8.length c10),(12,pL Ze.enc p0.Notes),(13,pI (p0.Notes.length:Int)),(14,pI v11)]) (fun (a9,c10) (l8,v11)=>[Qa.b b2 95 (av p1),Qa.row a9 l8.length c10 28 1 (List.map (eL eS) l8)]) (a4,c5) (gA rfl) (bg (aC aN) bN) ?_
  rintro ⟨a9,c10⟩ ⟨l8,v11⟩ o τ hb16;(try dsimp only at hb16);dsimp only [aw]
  refine cH [(15,pB (decide (v11<(p0.Notes.length:Int))))] (by kernel_rfl) (br (fh rfl hb16 (fun hc18 hb16=>?_) fun hc18 hb16=>?_))
  ·refine af ?_
   refine cP hb16 fun q23 hq23 hb16=>?_
   refine ap (Y:=(Option Addr×Nat)×((List (List Xh)))) (fun ((a20,c21),l22)=>[(3,pP b2 0),(5,pO a20 l22.length c21),(12,pL Ze.enc p0.Notes),(13,pI (p0.Notes.length:Int)),(14,pI v11)]) (fun ((a20,c21),l22)=>[Qa.b b2 95 (av p1),Qa.row a20 l22.length c21 28 1 (List.map (eL eS) l22)]) (fun ((a20,c21),l22)=>q23=l22) ?_ ?_
   ·skip
    refine rx (ae hq23 fun m24 hm24 hq23=>cS 2 [] [16] [(17,.agg [pS m24.Scope,pL eS m24.Words,pS m24.Target])] (bX 0 Ze.enc hm24 aY) (by kernel_rfl) (aj rfl (aP (cs:=[pS Uh,pN,pS Uh]) rfl rfl rfl rfl (fun b25=>aM rfl rfl (al (vs:=[pS m24.Scope,pL eS m24.Words,pS m24.Target]) rfl rfl rfl rfl rfl bT AW (au (br (aK [0,1] [18,19,20,21] [(22,pB (decide (m24.Target=p1.Code)))] (by kernel_rfl) (fi rfl hq23 (fun hc26 hq23=>?_) fun hc26 hq23=>?_)))))))))
    ·refine ae hq23 ?_;clear hq23;intro x27 hx27 hq23
     refine ak (bH 3 [0] [24] [(23,pO a9 l8.length c10),(25,pL eS m24.Words)] (by kernel_rfl) ?_)
     refine aj rfl (aI rfl rfl (ρ1:=[]) Vh (cO hx27) ?_);rintro _ _ ⟨a28,c29,rfl,rfl⟩
     refine dw (enc:=eS) (xs:=x27) 26 rfl (by exact aN) ?_
     refine aj rfl (bp rfl rfl rfl rfl rfl (eE rfl jy) rfl rfl rfl rfl (fun b31=>ae hq23 fun l33 hl33 hq23=>?_))
     refine aj rfl (bw (enc:=(eL eS)) rfl rfl rfl rfl rfl rfl rfl rfl rfl eG (by exact aC (aC (aC (aC aN)))) hl33 (fun a34 c35=>?_))
     refine aE [(5,pO a34 l33.length c35)] (by kernel_rfl) (aF ?_)
     obtain rfl:=osi hq23
     exact am ((a34,c35),l33) (gA rfl) (bg (aC (aC (aC (aC aN)))) bN) rfl
    refine af ?_
    refine aF ?_
    obtain rfl:=osi hq23
    exact am ((a9,c10),l8) (gA rfl) (bg (aC aN) (bg (aC aN) bq)) rfl
   rintro ⟨⟨a20,c21⟩,l22⟩ τ hz;(try dsimp only at hz);subst q23;(try dsimp only at hb16);dsimp only [aw]
   refine ah [29] [(14,pI (i64.wrap (v11+1)))] (by kernel_rfl) ?_
   exact aT hb16 (a20,c21) (gA rfl) tc
  refine aL ?_
  refine cJ hb16 (fun ht=>an rfl ?_)
  exact am ((a9,c10),l8) (oC rfl) (bg (aC aN) bq) ht.symm
 rintro ⟨⟨a13,c14⟩,l15⟩ τ hz;(try dsimp only at hz);subst q17;(try dsimp only at h);dsimp only [aw]
 refine ag (ah [30] [(4,pO a13 l15.length c14)] (by kernel_rfl) (aD ?_))
 refine fj (enc:=(eL eS)) (xs:=l15) 4 rfl (by exact aN) ?_
 refine bi ?_
 exact zz r h rfl
def dc (p0:Zh) (p1:Za) (p2:(List Xh)):Option Int:=(dT p0 p1.Code p2).bind fun x3=>cond x3 (some (0:Int)) ((cT p0 p1).bind fun x5=>(aW (S:=Int×Int) (T:=(Int)) (fun (v6,v7)=>cond (decide (v7<(x5.length:Int))) (((bx x5 v7).bind fun m14=>(gd (decide (v6<(m14.length:Int))) (jE m14 p2)).bind fun x15=>cond ((decide (v6<(m14.length:Int)))&&x15) (some (m14.length:Int)) (some v6)).bind fun v12=>some (.inl (v12,(i64.wrap (v7+1))))) (some (.inr v6))) Va (0,0)).bind fun v8=>some v8)
theorem iH {p0:Zh} {p1:Za} {p2:(List Xh)} {r:Int}  (h:dc p0 p1 p2=some r):PF 140 [.agg [pL Za.enc p0.Entries,pL Ze.enc p0.Notes],.agg (av p1),pL eS p2] (pI r):=by
 unfold dc at h
 refine aV ?_
 refine dk Tryz.func140 rfl Tryz.ntmps140 Tryz.results140 rfl (cL rfl (be (cs:=[pL Za.enc p0.Entries,pL Ze.enc p0.Notes]) rfl rfl (fun b1=>aj rfl (be (cs:=(av p1)) rfl rfl (fun b2=>aZ [6] (by kernel_rfl) (bM (ae h fun x3 hx3 h=>ai [1,0] [10,11,12,13] [(14,pB x3)] (aU 4 (jd hx3) aY) (by kernel_rfl) (fi rfl h (fun hc4 h=>?_) fun hc4 h=>?_))))))))
 ·refine ag ?_
  refine de [(6,pI 0)] (by kernel_rfl) ?_
  exact zz r h rfl
 refine af ?_
 refine br (aA [(7,pI 0)] (by kernel_rfl) (bM (ae h fun x5 hx5 h=>ai [1,0] [15,16] [(17,pL (eL eS) x5),(18,pI (x5.length:Int)),(19,pI 0)] (aU 2 (gI hx5) aY) (by kernel_rfl) (ey h fun q10 hq10 h=>?_))))
 refine ap (Y:=Unit×Int) (fun (_,v8)=>[(7,pI v8)]) (fun (_,v8)=>[]) (fun (_,v8)=>q10=v8) ?_ ?_
 ·refine aG ?_
  refine aJ (Y:=Unit) (S:=Int×Int) _ hq10 (fun _ (v6,v7)=>[(2,pL eS p2),(7,pI v6),(17,pL (eL eS) x5),(18,pI (x5.length:Int)),(19,pI v7)]) (fun _ (v6,v7)=>[]) () (gA rfl) bq ?_
  rintro _ ⟨v6,v7⟩ o τ hb9;(try dsimp only at hb9);dsimp only [aw]
  refine cH [(20,pB (decide (v7<(x5.length:Int))))] (by kernel_rfl) (br (fh rfl hb9 (fun hc11 hb9=>?_) fun hc11 hb9=>?_))
  ·refine af ?_
   refine cP hb9 fun q13 hq13 hb9=>?_
   refine ap (Y:=Unit×Int) (fun (_,v12)=>[(2,pL eS p2),(7,pI v12),(17,pL (eL eS) x5),(18,pI (x5.length:Int)),(19,pI v7)]) (fun (_,v12)=>[]) (fun (_,v12)=>q13=v12) ?_ ?_
   ·skip
    refine rx (ae hq13 fun m14 hm14 hq13=>ai [] [21,22] [(9,pL eS m14)] (bX 0 (eL eS) hm14 aY) (by kernel_rfl) (cP hq13 fun x15 hx15 hq13=>ai [] (rg 23 8) [(31,pB ((decide (v6<(m14.length:Int)))&&x15))] (iJ 7 (fun hc=>nW (fU hx15 hc)) aY) (by kernel_rfl) (fi rfl hq13 (fun hc16 hq13=>?_) fun hc16 hq13=>?_)))
    ·refine ah [32,33] [(7,pI (m14.length:Int))] (by kernel_rfl) ?_
     refine aF ?_
     obtain rfl:=osi hq13
     exact am ((),(m14.length:Int)) (gA rfl) bq rfl
    refine af ?_
    refine aF ?_
    obtain rfl:=osi hq13
    exact am ((),v6) (gA rfl) bq rfl
   rintro ⟨_,v12⟩ τ hz;(try dsimp only at hz);subst q13;(try dsimp only at hb9);dsimp only [aw]
   refine ah [34] [(19,pI (i64.wrap (v7+1)))] (by kernel_rfl) ?_
   exact aT hb9 () (gA rfl) bq
  refine aL ?_
  refine cJ hb9 (fun ht=>an rfl ?_)
  exact am ((),v6) (oC rfl) bq ht.symm
 rintro ⟨_,v8⟩ τ hz;(try dsimp only at hz);subst q10;(try dsimp only at h);dsimp only [aw]
 refine ag (ah [35] [(6,pI v8)] (by kernel_rfl) (cK ?_))
 exact zz r h rfl
def kg (p0:Za) (p1:Zh) (p2:(List Xh)):Option Bool:=(dc p1 p0 p2).bind fun x2=>some (decide (0<x2))
theorem rQ {p0:Za} {p1:Zh} {p2:(List Xh)} {r:Bool}  (h:kg p0 p1 p2=some r):PF 149 [.agg (av p0),.ref [pL Za.enc p1.Entries,pL Ze.enc p1.Notes] 0,.ref [pL eS p2] 0] (pB r):=by
 unfold kg at h
 refine aV ?_
 refine dk Tryz.func149 rfl Tryz.ntmps149 Tryz.results149 rfl (cL rfl (be (cs:=(av p0)) rfl rfl (fun b1=>aZ [4] (by kernel_rfl) (cP h fun x2 hx2 h=>ai [0] (rg 5 5) [(4,pB (decide (0<x2)))] (aU 3 (iH hx2) aY) (by kernel_rfl) (cK ?_)))))
 exact zz r h rfl
def gJ (p0:Zh) (p1:(List Za)) (p2:(List Xh)):Option (List Za):=(ep p1 (fun y3=>kg y3 p0 p2)).bind fun x4=>some x4
theorem lM {p0:Zh} {p1:(List Za)} {p2:(List Xh)} {r:(List Za)}  (h:gJ p0 p1 p2=some r):PF 96 [.agg [pL Za.enc p0.Entries,pL Ze.enc p0.Notes],pL Za.enc p1,pL eS p2] (pL Za.enc r):=by
 unfold gJ at h
 refine aV ?_
 refine dk Tryz.func96 rfl Tryz.ntmps96 Tryz.results96 rfl (cL rfl (be (cs:=[pL Za.enc p0.Entries,pL Ze.enc p0.Notes]) rfl rfl (fun b1=>aj rfl (be (cs:=[pL eS p2]) rfl rfl (fun b2=>aZ [6] (by kernel_rfl) (br (fC 1 [(7,pL Za.enc p1)] (by kernel_rfl) ?_)))))))
 refine jj 3 rfl (by exact aC aN) ?_
 refine jj 5 rfl (by exact aC aN) ?_
 refine ae h fun x4 hx4 h=>dh [] [8,9] [(6,pL Za.enc x4)] (aU 1 (ij (fun hr=>gY (rQ hr)) hx4) aY) (by kernel_rfl) (cK ?_)
 exact zz r h rfl
def eX (p0:Za) (p1:Zl) (p2:(List Xh)):Option Bool:=(dT p1.book p0.Code p2).bind fun x2=>cond x2 (some false) ((cT p1.book p0).bind fun x4=>(aW (S:=Int) (T:=(Unit)⊕(_)) (fun v5=>cond (decide (v5<(x4.length:Int))) ((bx x4 v5).bind fun m9=>(ck m9 (⟨#[112,97,114,116,115]⟩:Xh)).bind fun x10=>(gd x10 (jE m9 p2)).bind fun x11=>cond (x10&&x11) (some (.inr (.inr true))) (some (.inl (i64.wrap (v5+1))))) (some (.inr (.inl ())))) Va 0).bind fun q=>match q with | .inl _=>some false | .inr e=>some e)
theorem oh {p0:Za} {p1:Zl} {p2:(List Xh)} {r:Bool}  (h:eX p0 p1 p2=some r):PF 132 [.agg (av p0),.ref (bv p1) 0,.ref [pL eS p2] 0] (pB r):=by
 unfold eX at h
 refine aV ?_
 refine dk Tryz.func132 rfl Tryz.ntmps132 Tryz.results132 rfl (cL rfl (be (cs:=(av p0)) rfl rfl (fun b1=>aZ [4] (by kernel_rfl) (bM (ae h fun x2 hx2 h=>ai [0] (rg 7 5) [(12,pB x2)] (aU 5 (jd hx2) aY) (by kernel_rfl) (fi rfl h (fun hc3 h=>?_) fun hc3 h=>?_))))))
 ·refine ag ?_
  refine de [(4,pB false)] (by kernel_rfl) ?_
  exact zz r h rfl
 refine af ?_
 refine bM (ae h fun x4 hx4 h=>ai [0] [13,14,15] [(16,pL (eL eS) x4),(17,pI (x4.length:Int)),(18,pI 0)] (aU 3 (gI hx4) aY) (by kernel_rfl) (ey h fun q7 hq7 h=>?_))
 refine ap (Y:=Unit×Unit) (fun (_,_)=>[]) (fun (_,_)=>[]) (fun (_,_)=>q7=Sum.inl ()) ?_ ?_
 ·refine aG ?_
  refine aJ (Y:=Unit) (S:=Int) _ hq7 (fun _ v5=>[(2,.ref [pL eS p2] 0),(16,pL (eL eS) x4),(17,pI (x4.length:Int)),(18,pI v5)]) (fun _ v5=>[]) () (jC rfl) bq ?_
  rintro _ v5 o τ hb6;(try dsimp only at hb6);dsimp only [aw]
  refine cH [(19,pB (decide (v5<(x4.length:Int))))] (by kernel_rfl) (br (fh rfl hb6 (fun hc8 hb6=>?_) fun hc8 hb6=>?_))
  ·refine af ?_
   refine eT (ae hb6 fun m9 hm9 hb6=>ai [] [20,21] [(6,pL eS m9)] (bX 0 (eL eS) hm9 aY) (by kernel_rfl) (cP hb6 fun x10 hx10 hb6=>ae hb6 fun x11 hx11 hb6=>ai [] (rg 22 6) [(28,pB (x10&&x11))] (aU 1 (fH hx10) (iJ 5 (fun hc=>nW (fU hx11 hc)) aY)) (by kernel_rfl) (fi rfl hb6 (fun hc12 hb6=>?_) fun hc12 hb6=>?_)))
   ·refine ag ?_
    refine aA [(4,pB true)] (by kernel_rfl) (cK (iq ?_))
    refine aX hb6 (fun ht=>?_);subst ht
    refine aO (aS ?_)
    exact zz r h rfl
   refine af ?_
   refine eH (ah [29] [(18,pI (i64.wrap (v5+1)))] (by kernel_rfl) ?_)
   exact aT hb6 () (jC rfl) bq
  refine aL ?_
  refine cJ hb6 (fun ht=>an rfl ?_)
  exact am ((),()) qr bq ht.symm
 rintro ⟨_,_⟩ τ hz;(try dsimp only at hz);subst q7;(try dsimp only at h);dsimp only [aw]
 refine cH [(4,pB false)] (by kernel_rfl) (cK ?_)
 exact zz r h rfl
def eK (p0:Zl):Option (List Za):=cond (!p0.good.Incomplete) (some []) ((gJ p0.book p0.entries p0.good.Words).bind fun x3=>some x3)
theorem nX {p0:Zl} {r:(List Za)}  (h:eK p0=some r):PF 87 [.agg (bv p0)] (pL Za.enc r):=by
 unfold eK at h
 refine aV ?_
 refine dk Tryz.func87 rfl Tryz.ntmps87 Tryz.results87 rfl (cL rfl (be (cs:=(bv p0)) rfl rfl (fun b1=>aZ [2] (by kernel_rfl) (bM (aK [0] [3,4,5] [(6,pB (!p0.good.Incomplete))] (by kernel_rfl) (fi rfl h (fun hc2 h=>?_) fun hc2 h=>?_))))))
 ·refine ag ?_
  refine aA [(2,pN)] (by kernel_rfl) (aD (gB 2 rfl (bi (bc ?_))))
  exact zz r h rfl
 refine af ?_
 refine cP h fun x3 hx3 h=>ai [0,0,0] (rg 7 8) [(2,pL Za.enc x3)] (aU 7 (lM hx3) aY) (by kernel_rfl) (cK ?_)
 exact zz r h rfl
def bB (p0:(List Zb)) (p1:Int) (p2:Int) (p3:(Zb->Zb->Option Int)):Option (List Zb):=(aW (S:=(List Zb)×Int) (T:=((List Zb))) (fun (l2,v3)=>cond (decide (v3<p2)) ((aW (S:=(List Zb)×Int) (T:=((List Zb))) (fun (l10,v11)=>(gd (decide (p1<v11)) (bx l10 v11)).bind fun m16=>(gd (decide (p1<v11)) (bx l10 (i64.wrap (v11 - 1)))).bind fun m17=>(gd (decide (p1<v11)) (p3 m16 m17)).bind fun x18=>cond ((decide (p1<v11))&&(decide (x18<0))) ((bx l10 (i64.wrap (v11 - 1))).bind fun m22=>(bx l10 v11).bind fun m23=>(bx l10 v11).bind fun m24=>(bx (l10.set v11.toNat m22) (i64.wrap (v11 - 1))).bind fun m26=>some (.inl (((l10.set v11.toNat m22).set (i64.wrap (v11 - 1)).toNat m23),(i64.wrap (v11 - 1))))) (some (.inr l10))) Va (l2,v3)).bind fun l13=>some (.inl (l13,(i64.wrap (v3+1))))) (some (.inr l2))) Va (p0,(i64.wrap (p1+1)))).bind fun l5=>some l5
theorem fm {p0:(List Zb)} {p1:Int} {p2:Int} {p3:(Zb->Zb->Option Int)} {a_0:Option Addr}  {n_0:Nat}  {c_0:Nat} {r:(List Zb)} {g3:PV} (hg3:∀ {y0:Zb} {y1:Zb} {w:Int},p3 y0 y1=some w->Yc g3 [.agg [pL eS y0.Words,pI y0.Share],.agg [pL eS y1.Words,pI y1.Share]] (pI w)) (h:bB p0 p1 p2 p3=some r):La 240 [.v (.slice a_0 n_0 c_0),pI p1,pI p2,g3] [Qa.row a_0 n_0 c_0 76 2 (List.map Zb.enc p0)] (fun pv ρ'=>pv=.tup []/\ρ'=[Qa.row a_0 n_0 c_0 76 2 (List.map Zb.enc r)]):=by
 unfold bB at h
 refine gC Tryz.func240 rfl Tryz.ntmps240 Tryz.results240 rfl ?_
 refine dR (enc:=Zb.enc) (xs:=p0) (a:=a_0) eG (fun hl ha=>?_);subst hl;clear ha
 refine ag (ah [10,11] [(8,pI (i64.wrap (p1+1)))] (by kernel_rfl) (ey h fun q7 hq7 h=>?_))
 refine eD (Y:=Unit×((List Zb))) (fun (_,l5)=>[]) (fun (_,l5)=>[Qa.row a_0 p0.length c_0 76 2 (List.map Zb.enc l5)]) (fun (_,l5)=>q7=l5) ?_ ?_
 ·refine aG ?_
  refine aJ (Y:=Unit) (S:=(List Zb)×Int) _ hq7 (fun _ (l2,v3)=>[(0,pO a_0 p0.length c_0),(1,pI p1),(2,pI p2),(3,g3),(8,pI v3)]) (fun _ (l2,v3)=>[Qa.row a_0 p0.length c_0 76 2 (List.map Zb.enc l2)]) () (gA rfl) bN ?_
  rintro _ ⟨l2,v3⟩ o τ hb6;(try dsimp only at hb6);dsimp only [aw]
  refine dV (bF [12,13] [(14,pB (decide (v3<p2)))] (by kernel_rfl) rfl hb6 (fun hc8 hb6=>?_) fun hc8 hb6=>?_)
  ·refine af ?_
   refine eT (ah [17] [(9,pI v3)] (by kernel_rfl) (ey hb6 fun q15 hq15 hb6=>?_))
   refine eD (Y:=Unit×((List Zb))) (fun (_,l13)=>[(0,pO a_0 p0.length c_0),(1,pI p1),(2,pI p2),(3,g3),(8,pI v3)]) (fun (_,l13)=>[Qa.row a_0 p0.length c_0 76 2 (List.map Zb.enc l13)]) (fun (_,l13)=>q15=l13) ?_ ?_
   ·refine aG ?_
    refine aJ (Y:=Unit) (S:=(List Zb)×Int) _ hq15 (fun _ (l10,v11)=>[(0,pO a_0 p0.length c_0),(1,pI p1),(2,pI p2),(3,g3),(8,pI v3),(9,pI v11)]) (fun _ (l10,v11)=>[Qa.row a_0 p0.length c_0 76 2 (List.map Zb.enc l10)]) () (o3 rfl) bN ?_
    rintro _ ⟨l10,v11⟩ o τ hb14;(try dsimp only at hb14);dsimp only [aw]
    refine dV (bE (ρd:=[]) [(0,0),(1,0),(2,0),(3,0),(4,0),(5,0),(6,0),(7,0),(8,0),(9,0),(10,0),(11,0),(12,0),(13,0),(14,1),(15,0),(16,0)] _ Vh (by kernel_rfl) rfl (ae hb14 fun m16 hm16 hb14=>mB 7 [18,19,20] [(21,pB (decide (p1<v11))),(22,pgv (decide (p1<v11)) (g3)),(23,pgv (decide (p1<v11)) (pO a_0 p0.length c_0)),(24,pgv (decide (p1<v11)) (pI v11))] (by kernel_rfl) (nT (gP rfl rfl rfl) rfl rfl (d9 (enc:=Zb.enc) (xs:=l10) rfl rfl rfl (.g rfl) eG (.g rfl) (fU hm16)) (nT (gP rfl rfl rfl) rfl rfl (dj (sz:=2) (p:=.agg [pL eS m16.Words,pI m16.Share]) (enc:=Zb.enc) (xs:=l10) (a:=a_0) v11 0 m16 rfl (.g rfl) rfl eG (fU hm16) rfl) (ae hb14 fun m17 hm17 hb14=>mB 3 [28] [(27,pgv (decide (p1<v11)) (pO a_0 p0.length c_0)),(29,pgv (decide (p1<v11)) (pI (i64.wrap (v11 - 1))))] (by kernel_rfl) (nT (gP rfl rfl rfl) rfl rfl (d9 (enc:=Zb.enc) (xs:=l10) rfl rfl rfl (.g rfl) eG (.g rfl) (fU hm17)) (nT (gP rfl rfl rfl) rfl rfl (dj (sz:=2) (p:=.agg [pL eS m17.Words,pI m17.Share]) (enc:=Zb.enc) (xs:=l10) (a:=a_0) (i64.wrap (v11 - 1)) 0 m17 rfl (.g rfl) rfl eG (fU hm17) rfl) (ae hb14 fun x18 hx18 hb14=>xo (gP rfl rfl rfl) rfl rfl rfl (.g rfl) (fg (.g rfl) (fg (.g rfl) nc)) (fun hc=>hg3 (fU hx18 hc)) (nT (gP rfl rfl rfl) rfl rfl (xh rfl (.g rfl) (.p rfl) rfl) (lW rfl rfl rfl (xg rfl (.p rfl) (.p rfl) (.g rfl)) (bZ (fi rfl hb14 (fun hc19 hb14=>?_) fun hc19 hb14=>?_))))))))))))
    ·refine af ?_
     refine br (aG (dR (enc:=Zb.enc) (xs:=l10) (a:=a_0) eG (fun hl20 ha21=>ae hb14 fun m22 hm22 hb14=>ae hb14 fun m23 hm23 hb14=>ae hb14 fun m24 hm24 hb14=>ae hb14 fun m26 hm26 hb14=>?_)))
     refine eD (Y:=Unit) (fun _=>[(0,pO a_0 p0.length c_0),(1,pI p1),(2,pI p2),(3,g3),(8,pI v3),(9,pI v11)]) (fun _=>[Qa.row a_0 p0.length c_0 76 2 (List.map Zb.enc ((l10.set v11.toNat m22).set (i64.wrap (v11 - 1)).toNat m23))]) (fun _=>True) ?_ ?_
     ·refine gf (ρd:=[Qa.row a_0 _ _ _ _ _]) _ Vh ?_
      repeat' first
       | (refine lr 9 ?_;refine bj rfl rfl rfl rfl (kI (dj (sz:=2) (p:=.agg [pL eS m22.Words,pI m22.Share]) (enc:=Zb.enc) (xs:=l10) (a:=a_0) (i64.wrap (v11 - 1)) 0 m22 rfl (.p rfl) rfl eG (fun _=>hm22) rfl) ?_))
       | (refine lr 13 ?_;refine bj rfl rfl rfl rfl (kI (dj (sz:=2) (p:=.agg [pL eS m23.Words,pI m23.Share]) (enc:=Zb.enc) (xs:=l10) (a:=a_0) v11 0 m23 rfl (.p rfl) rfl eG (fun _=>hm23) rfl) ?_))
       | (refine lr 15 ?_;refine eF rfl rfl rfl (jb (enc:=Zb.enc) (xs:=l10) (a:=a_0) v11 0 m24 m22 rfl rfl rfl rfl (fun _=>rfl) rfl rfl hm24 (pV) bT ?_))
       | (refine lr 17 ?_;refine eF rfl rfl rfl (jb (enc:=Zb.enc) (xs:=(l10.set v11.toNat m22)) (a:=a_0) (i64.wrap (v11 - 1)) 0 m26 m23 rfl rfl rfl rfl (fun _=>rfl) rfl rfl hm26 (pV) bT ?_))
       | refine bu 0 (by decide +kernel) rfl rfl rfl rfl (bY (p:=pO a_0 p0.length c_0) rfl (.p rfl)) ?_
       | refine bu 1 (by decide +kernel) rfl rfl rfl rfl (bY (p:=pI v11) rfl (.p rfl)) ?_
       | refine bu 2 (by decide +kernel) rfl rfl rfl rfl (bY (p:=pO a_0 p0.length c_0) rfl (.p rfl)) ?_
       | refine bu 3 (by decide +kernel) rfl rfl rfl rfl (bY (p:=pI v11) rfl (.p rfl)) ?_
       | refine bu 4 (by decide +kernel) rfl rfl rfl rfl (nB rfl (.p rfl) (.p rfl) rfl) ?_
       | refine bu 5 (by decide +kernel) rfl rfl rfl rfl (bY (p:=pO a_0 p0.length c_0) rfl (.p rfl)) ?_
       | refine bu 6 (by decide +kernel) rfl rfl rfl rfl (bY (p:=pI v11) rfl (.p rfl)) ?_
       | refine bu 7 (by decide +kernel) rfl rfl rfl rfl (nB rfl (.p rfl) (.p rfl) rfl) ?_
       | (refine bu 8 (by decide +kernel) rfl rfl rfl rfl (j7 (xs:=l10) (by first | exact hl20 | rfl | (simp only [length_set];exact hl20) | simp only [length_set]) ha21 rfl rfl rfl (.p rfl) (.p rfl) (fun _=>hm22)) ?_)
       | refine bu 10 (by decide +kernel) rfl rfl rfl rfl (bY (p:=pO a_0 p0.length c_0) rfl (.p rfl)) ?_
       | refine bu 11 (by decide +kernel) rfl rfl rfl rfl (bY (p:=pI v11) rfl (.p rfl)) ?_
       | (refine bu 12 (by decide +kernel) rfl rfl rfl rfl (j7 (xs:=l10) (by first | exact hl20 | rfl | (simp only [length_set];exact hl20) | simp only [length_set]) ha21 rfl rfl rfl (.p rfl) (.p rfl) (fun _=>hm23)) ?_)
       | refine dr 9 13 (by decide +kernel) ?_ ?_
       | refine bh 13 (by decide +kernel) ?_
       | (refine bu 14 (by decide +kernel) rfl rfl rfl rfl (j7 (xs:=l10) (by first | exact hl20 | rfl | (simp only [length_set];exact hl20) | simp only [length_set]) ha21 rfl rfl rfl (.p rfl) (.p rfl) (fun _=>hm24)) ?_)
       | refine bh 15 (by decide +kernel) ?_
       | (refine bu 16 (by decide +kernel) rfl rfl rfl rfl (j7 (xs:=(l10.set v11.toNat m22)) (by first | exact hl20 | rfl | (simp only [length_set];exact hl20) | simp only [length_set]) ha21 rfl rfl rfl (.p rfl) (.p rfl) (fun _=>hm26)) ?_)
       | refine bh 17 (by decide +kernel) ?_
       | refine gQ (by decide +kernel) ?_
       | refine bh 9 (by decide +kernel) ?_
       | exact gZ () (o3 rfl) (bN) trivial
     rintro _ τ ρ1 hsub28 _;(try dsimp only at hsub28);dsimp only [aw]
     refine eH (kb hsub28 (ah [35,36] [(9,pI (i64.wrap (v11 - 1)))] (by kernel_rfl) ?_))
     exact aT hb14 () (o3 rfl) bN
    refine aL ?_
    refine cJ hb14 (fun ht=>an rfl ?_)
    exact gZ ((),l10) (gA rfl) bN ht.symm
   rintro ⟨_,l13⟩ τ ρ1 hsub29 hz;(try dsimp only at hz hsub29);subst q15;(try dsimp only at hb6);dsimp only [aw]
   refine eH (kb hsub29 (ah [15,16] [(8,pI (i64.wrap (v3+1)))] (by kernel_rfl) ?_))
   exact aT hb6 () (gA rfl) bN
  refine aL ?_
  refine cJ hb6 (fun ht=>an rfl ?_)
  exact gZ ((),l2) qr bN ht.symm
 rintro ⟨_,l5⟩ τ ρ1 hsub30 hz;(try dsimp only at hz hsub30);subst q7;(try dsimp only at h);dsimp only [aw]
 obtain rfl:=osi h
 exact p7 (rfl:Te [] _ _ (.tup [])) (Vb.trans bN hsub30) ⟨rfl,rfl⟩
def dA (p0:(List Zb)) (p1:Int) (p2:(Zb->Zb->Option Int)):Option (List Zb):=(aW (S:=(List Zb)×Int×Int) (T:=((List Zb)×Int)) (fun (l2,v3,v4)=>cond (decide (v4<=p1)) ((bB l2 v3 v4 p2).bind fun x11=>some (.inl (x11,v4,(i64.wrap (v4+20))))) (some (.inr (l2,v3)))) Va (p0,0,20)).bind fun (l6,v7)=>(bB l6 v7 p1 p2).bind fun x12=>(aW (S:=Int) (T:=(Unit)) (fun v13=>cond (decide (v13<p1)) ((aW (S:=Unit) (T:=(Unit)) (fun _=>cond (decide ((i64.wrap (2*v13))<=p1)) (none) (some (.inr ()))) Va ()).bind fun _=>cond (decide ((i64.wrap (0+v13))<p1)) (none) (some (.inl (i64.wrap (v13*2))))) (some (.inr ()))) Va 20).bind fun _=>some x12
theorem kM {p0:(List Zb)} {p1:Int} {p2:(Zb->Zb->Option Int)} {a_0:Option Addr}  {n_0:Nat}  {c_0:Nat} {r:(List Zb)} {g2:PV} (hg2:∀ {y0:Zb} {y1:Zb} {w:Int},p2 y0 y1=some w->Yc g2 [.agg [pL eS y0.Words,pI y0.Share],.agg [pL eS y1.Words,pI y1.Share]] (pI w)) (h:dA p0 p1 p2=some r):La 204 [.v (.slice a_0 n_0 c_0),pI p1,g2] [Qa.row a_0 n_0 c_0 76 2 (List.map Zb.enc p0)] (fun pv ρ'=>pv=.tup []/\ρ'=[Qa.row a_0 n_0 c_0 76 2 (List.map Zb.enc r)]):=by
 unfold dA at h
 refine gC Tryz.func204 rfl Tryz.ntmps204 Tryz.results204 rfl ?_
 refine dR (enc:=Zb.enc) (xs:=p0) (a:=a_0) eG (fun hl ha=>?_);subst hl;clear ha
 refine cH [(6,pI 20)] (by kernel_rfl) (br (ah [10] [(7,pI 0),(8,pI 20)] (by kernel_rfl) (cP h fun q9 hq9 h=>?_)))
 refine ap (Y:=Unit×((List Zb)×Int)) (fun (_,(l6,v7))=>[(0,pO a_0 p0.length c_0),(1,pI p1),(2,g2),(6,pI 20),(7,pI v7)]) (fun (_,(l6,v7))=>[Qa.row a_0 p0.length c_0 76 2 (List.map Zb.enc l6)]) (fun (_,(l6,v7))=>q9=(l6,v7)) ?_ ?_
 ·refine aG ?_
  refine aJ (Y:=Unit) (S:=(List Zb)×Int×Int) _ hq9 (fun _ (l2,v3,v4)=>[(0,pO a_0 p0.length c_0),(1,pI p1),(2,g2),(6,pI 20),(7,pI v3),(8,pI v4)]) (fun _ (l2,v3,v4)=>[Qa.row a_0 p0.length c_0 76 2 (List.map Zb.enc l2)]) () (o3 rfl) bN ?_
  rintro _ ⟨l2,v3,v4⟩ o τ hb8;(try dsimp only at hb8);dsimp only [aw]
  refine dV (bF [11,12] [(13,pB (decide (v4<=p1)))] (by kernel_rfl) rfl hb8 (fun hc10 hb8=>?_) fun hc10 hb8=>?_)
  ·refine af ?_
   refine aD (rx (ae hb8 fun x11 hx11 hb8=>fC 4 [(14,pO a_0 p0.length c_0),(15,pI v3),(16,pI v4),(17,g2)] (by kernel_rfl) ?_))
   refine aj rfl (aI rfl rfl (ρ1:=[_]) (aq (by exact aN) Vh) (fm hg2 hx11) ?_);rintro _ _ ⟨rfl,rfl⟩
   refine au (br (ah [19] [(7,pI v4)] (by kernel_rfl) (aD (ah [20,21,22] [(8,pI (i64.wrap (v4+20)))] (by kernel_rfl) (aF ?_)))))
   exact aT hb8 () (o3 rfl) bN
  refine aL ?_
  refine cJ hb8 (fun ht=>an rfl ?_)
  exact am ((),(l2,v3)) (gA rfl) bN ht.symm
 rintro ⟨_,⟨l6,v7⟩⟩ τ hz;(try dsimp only at hz);subst q9;(try dsimp only at h);dsimp only [aw]
 refine ag (ae h fun x12 hx12 h=>fC 4 [(23,pO a_0 p0.length c_0),(24,pI v7),(25,pI p1),(26,g2)] (by kernel_rfl) ?_)
 refine aj rfl (aI rfl rfl (ρ1:=[_]) (aq (by exact aN) Vh) (fm hg2 hx12) ?_);rintro _ _ ⟨rfl,rfl⟩
 refine au (ey h fun q16 hq16 h=>?_)
 refine eD (Y:=Unit×Unit) (fun (_,_)=>[]) (fun (_,_)=>[Qa.row a_0 p0.length c_0 76 2 (List.map Zb.enc x12)]) (fun (_,_)=>q16=()) ?_ ?_
 ·refine aG ?_
  refine aJ (Y:=Unit) (S:=Int) _ hq16 (fun _ v13=>[(0,pO a_0 p0.length c_0),(1,pI p1),(2,g2),(6,pI v13)]) (fun _ v13=>[Qa.row a_0 p0.length c_0 76 2 (List.map Zb.enc x12)]) () (jC rfl) bN ?_
  rintro _ v13 o τ hb15;(try dsimp only at hb15);dsimp only [aw]
  refine dV (bF [28,29] [(30,pB (decide (v13<p1)))] (by kernel_rfl) rfl hb15 (fun hc17 hb15=>?_) fun hc17 hb15=>?_)
  ·refine af ?_
   refine aD (rx (ah [31,32] [(7,pI 0),(8,pI (i64.wrap (2*v13)))] (by kernel_rfl) (cP hb15 fun q20 hq20 hb15=>?_)))
   refine ap (Y:=Unit×Unit) (fun (_,_)=>[(0,pO a_0 p0.length c_0),(1,pI p1),(2,g2),(6,pI v13),(7,pI 0)]) (fun (_,_)=>[Qa.row a_0 p0.length c_0 76 2 (List.map Zb.enc x12)]) (fun (_,_)=>q20=()) ?_ ?_
   ·refine aG ?_
    refine aJ (Y:=Unit) (S:=Unit) _ hq20 (fun _ _=>[(0,pO a_0 p0.length c_0),(1,pI p1),(2,g2),(6,pI v13),(7,pI 0),(8,pI (i64.wrap (2*v13)))]) (fun _ _=>[Qa.row a_0 p0.length c_0 76 2 (List.map Zb.enc x12)]) () (o3 rfl) bN ?_
    rintro _ _ o τ hb19;(try dsimp only at hb19);dsimp only [aw]
    refine dV (bF [33,34] [(35,pB (decide ((i64.wrap (2*v13))<=p1)))] (by kernel_rfl) rfl hb19 (fun hc21 hb19=>?_) fun hc21 hb19=>?_)
    ·refine af ?_
     refine aD (rx (ak (bU 7 [38,39] [(36,pO a_0 p0.length c_0),(37,pI 0),(40,pI (i64.wrap (0+v13))),(41,pI (i64.wrap (2*v13))),(42,g2)] (by kernel_rfl) ?_)))
     exact absurd hb19 (by simp)
    refine aL ?_
    refine cJ hb19 (fun ht=>an rfl ?_)
    exact am ((),()) (gA rfl) bN ht.symm
   rintro ⟨_,_⟩ τ hz;(try dsimp only at hz);subst q20;(try dsimp only at hb15);dsimp only [aw]
   refine dV (ah [49,50,51] [(9,pI (i64.wrap (0+v13)))] (by kernel_rfl) (br (bF [52,53] [(54,pB (decide ((i64.wrap (0+v13))<p1)))] (by kernel_rfl) rfl hb15 (fun hc22 hb15=>?_) fun hc22 hb15=>?_)))
   ·refine ak ?_
    refine ba 5 [(55,pO a_0 p0.length c_0),(56,pI 0),(57,pI (i64.wrap (0+v13))),(58,pI p1),(59,g2)] (by kernel_rfl) ?_
    exact absurd hb15 (by simp)
   refine af ?_
   refine aD (ah [61,62] [(6,pI (i64.wrap (v13*2)))] (by kernel_rfl) (aF ?_))
   exact aT hb15 () (jC rfl) bN
  refine aL ?_
  refine cJ hb15 (fun ht=>an rfl ?_)
  exact gZ ((),()) qr bN ht.symm
 rintro ⟨_,_⟩ τ ρ1 hsub23 hz;(try dsimp only at hz hsub23);subst q16;(try dsimp only at h);dsimp only [aw]
 obtain rfl:=osi h
 exact p7 (rfl:Te [] _ _ (.tup [])) (Vb.trans bN hsub23) ⟨rfl,rfl⟩
def bA (p0:(List Zb)) (p1:(Zb->Zb->Option Int)):Option (List Zb):=(dA p0 ((p0.length:Nat):Int) p1).bind fun x1=>some x1
theorem hQ {p0:(List Zb)} {p1:(Zb->Zb->Option Int)} {a_0:Option Addr}  {n_0:Nat}  {c_0:Nat} {r:(List Zb)} {g1:PV} (hg1:∀ {y0:Zb} {y1:Zb} {w:Int},p1 y0 y1=some w->Yc g1 [.agg [pL eS y0.Words,pI y0.Share],.agg [pL eS y1.Words,pI y1.Share]] (pI w)) (h:bA p0 p1=some r):La 146 [.v (.slice a_0 n_0 c_0),g1] [Qa.row a_0 n_0 c_0 76 2 (List.map Zb.enc p0)] (fun pv ρ'=>pv=.tup []/\ρ'=[Qa.row a_0 n_0 c_0 76 2 (List.map Zb.enc r)]):=by
 unfold bA at h
 refine gC Tryz.func146 rfl Tryz.ntmps146 Tryz.results146 rfl ?_
 refine dR (enc:=Zb.enc) (xs:=p0) (a:=a_0) eG (fun hl ha=>?_);subst hl;clear ha
 refine ae h fun x1 hx1 h=>ak (bU 4 [5] [(4,pO a_0 p0.length c_0),(6,pI ((p0.length:Nat):Int)),(7,g1)] (by kernel_rfl) ?_)
 refine aj rfl (aI rfl rfl (ρ1:=[_]) (aq (by exact aN) Vh) (kM hg1 hx1) ?_);rintro _ _ ⟨rfl,rfl⟩
 refine au ?_
 obtain rfl:=osi h
 exact p7 (rfl:Te [] _ _ (.tup [])) bN ⟨rfl,rfl⟩
def jF (p0:Zb) (p1:Zb):Option Int:=(eo p1.Share p0.Share).bind fun x3=>some x3
theorem rj {p0:Zb} {p1:Zb} {r:Int}  (h:jF p0 p1=some r):PF 147 [.agg [pL eS p0.Words,pI p0.Share],.agg [pL eS p1.Words,pI p1.Share]] (pI r):=by
 unfold jF at h
 refine aV ?_
 refine dk Tryz.func147 rfl Tryz.ntmps147 Tryz.results147 rfl (cL rfl (be (cs:=[pL eS p0.Words,pI p0.Share]) rfl rfl (fun b1=>aj rfl (be (cs:=[pL eS p1.Words,pI p1.Share]) rfl rfl (fun b2=>aZ [4] (by kernel_rfl) (cP h fun x3 hx3 h=>ai [0,1] (rg 5 5) [(4,pI x3)] (aU 4 (lL hx3) aY) (by kernel_rfl) (cK ?_)))))))
 exact zz r h rfl
def ik (p0:Zu):Option (List Zb):=(aW (S:=(List Zb)×Int) (T:=((List Zb))) (fun (l3,v6)=>cond (decide (v6<(p0.Parts.length:Int))) ((bx p0.Parts v6).bind fun m15=>(bd m15.Words).bind fun x17=>(app 32 l3 [(⟨x17,m15.Share⟩:Zb)]).bind fun l20=>some (.inl (l20,(i64.wrap (v6+1))))) (some (.inr l3))) Va (([]:List Zb),0)).bind fun l10=>Option.bind (cond ((p0.Parts.length:Int) == 0) ((aW (S:=(List Zb)×Int) (T:=((List Zb))) (fun (l31,v34)=>cond (decide (v34<(p0.Materials.length:Int))) ((bx p0.Materials v34).bind fun m42=>(app 32 l31 [(⟨[m42.Name],m42.Share⟩:Zb)]).bind fun l48=>some (.inl (l48,(i64.wrap (v34+1))))) (some (.inr l31))) Va (l10,0)).bind fun l38=>some l38) (some l10)) (fun l27=>(bA l27 (fun y53 y54=>jF y53 y54)).bind fun x55=>some x55)
theorem n8 {p0:Zu} {r:(List Zb)}  (h:ik p0=some r):PF 95 [.agg [pL eS p0.Words,pL Zf.enc p0.Materials,pL Zb.enc p0.Parts,pB p0.Incomplete]] (pL Zb.enc r):=by
 unfold ik at h
 refine aV ?_
 refine dk Tryz.func95 rfl Tryz.ntmps95 Tryz.results95 rfl (cL rfl (be (cs:=[pL eS p0.Words,pL Zf.enc p0.Materials,pL Zb.enc p0.Parts,pB p0.Incomplete]) rfl rfl (fun b1=>aZ [2] (by kernel_rfl) (br (aA [(3,pN)] (by kernel_rfl) (bM (aK [0] [8] [(9,pL Zb.enc p0.Parts),(10,pI (p0.Parts.length:Int)),(11,pI 0)] (by kernel_rfl) (aD (bC 76 2 (ae h fun q12 hq12 h=>?_))))))))))
 refine ap (Y:=(Option Addr×Nat)×((List Zb))) (fun ((a8,c9),l10)=>[(1,pP b1 0),(3,pO a8 l10.length c9)]) (fun ((a8,c9),l10)=>[Qa.b b1 32 [pL eS p0.Words,pL Zf.enc p0.Materials,pL Zb.enc p0.Parts,pB p0.Incomplete],Qa.row a8 l10.length c9 76 2 (List.map Zb.enc l10)]) (fun ((a8,c9),l10)=>q12=l10) ?_ ?_
 ·refine aG ?_
  refine aJ (Y:=Option Addr×Nat) (S:=(List Zb)×Int) _ hq12 (fun (a4,c5) (l3,v6)=>[(1,pP b1 0),(3,pO a4 l3.length c5),(9,pL Zb.enc p0.Parts),(10,pI (p0.Parts.length:Int)),(11,pI v6)]) (fun (a4,c5) (l3,v6)=>[Qa.b b1 32 [pL eS p0.Words,pL Zf.enc p0.Materials,pL Zb.enc p0.Parts,pB p0.Incomplete],Qa.row a4 l3.length c5 76 2 (List.map Zb.enc l3)]) (none,0) (gA rfl) (bg (aC aN) bN) ?_
  rintro ⟨a4,c5⟩ ⟨l3,v6⟩ o τ hb11;(try dsimp only at hb11);dsimp only [aw]
  refine cH [(12,pB (decide (v6<(p0.Parts.length:Int))))] (by kernel_rfl) (br (fh rfl hb11 (fun hc14 hb11=>?_) fun hc14 hb11=>?_))
  ·refine af ?_
   refine eT (ae hb11 fun m15 hm15 hb11=>cS 2 [] [13] [(14,.agg [pL eS m15.Words,pI m15.Share])] (bX 0 Zb.enc hm15 aY) (by kernel_rfl) (aj rfl (aP (cs:=[pN,pI 0]) rfl rfl rfl rfl (fun b16=>aM rfl rfl (al (vs:=[pL eS m15.Words,pI m15.Share]) rfl rfl rfl rfl rfl bT pV (au (aD (bE (ρd:=[Qa.row a4 _ _ _ _ _]) [(0,0),(1,0),(2,0),(4,0),(5,0),(3,1),(6,0),(7,1),(8,1),(9,0)] _ (aq (aC (aC aN)) Vh) (by kernel_rfl) rfl (ae hb11 fun x17 hx17 hb11=>ca 6 [0,0] [16,17,19] [(15,pO a4 l3.length c5),(20,pI m15.Share),(18,pL eS x17)] (aU 5 (nJ hx17) aY) (by kernel_rfl) (lW rfl rfl rfl (j8 (cs:=[pL eS x17,pI m15.Share]) rfl rfl rfl rfl rfl rfl rfl (sZ rfl rfl rfl rfl ii (sZ rfl rfl rfl rfl (bV ii) Ip))) (jm rfl rfl rfl (bp rfl rfl rfl rfl rfl (eE rfl jy) rfl rfl rfl rfl (fun b18=>ae hb11 fun l20 hl20 hb11=>?_)))))))))))))
   refine jm rfl rfl rfl (bw (enc:=Zb.enc) rfl rfl rfl rfl rfl rfl rfl rfl rfl eG (by exact aC aN) hl20 (fun a21 c22=>?_))
   refine fB 1 [(3,pO a21 l20.length c22)] (by kernel_rfl) (bZ (eH (ah [24] [(11,pI (i64.wrap (v6+1)))] (by kernel_rfl) ?_)))
   exact aT hb11 (a21,c22) (gA rfl) (bg (aC (aC (aC aN))) bN)
  refine aL ?_
  refine cJ hb11 (fun ht=>an rfl ?_)
  exact am ((a4,c5),l3) (lK rfl) tc ht.symm
 rintro ⟨⟨a8,c9⟩,l10⟩ τ hz;(try dsimp only at hz);subst q12;(try dsimp only at h);dsimp only [aw]
 refine dV (aK [0] [25,26,27] [(28,pB ((p0.Parts.length:Int) == 0))] (by kernel_rfl) (ey h fun q28 hq28 h=>?_))
 refine ap (Y:=(Option Addr×Nat)×((List Zb))) (fun ((a25,c26),l27)=>[(3,pO a25 l27.length c26)]) (fun ((a25,c26),l27)=>[Qa.row a25 l27.length c26 76 2 (List.map Zb.enc l27)]) (fun ((a25,c26),l27)=>q28=l27) ?_ ?_
 ·skip
  refine fh rfl hq28 (fun hc29 hq28=>?_) fun hc29 hq28=>?_
  ·refine ag ?_
   refine aK [0] [29] [(30,pL Zf.enc p0.Materials),(31,pI (p0.Materials.length:Int)),(32,pI 0)] (by kernel_rfl) (ey hq28 fun q40 hq40 hq28=>?_)
   refine eD (Y:=(Option Addr×Nat)×((List Zb))) (fun ((a36,c37),l38)=>[(3,pO a36 l38.length c37)]) (fun ((a36,c37),l38)=>[Qa.row a36 l38.length c37 76 2 (List.map Zb.enc l38)]) (fun ((a36,c37),l38)=>q40=l38) ?_ ?_
   ·refine aG ?_
    refine aJ (Y:=Option Addr×Nat) (S:=(List Zb)×Int) _ hq40 (fun (a32,c33) (l31,v34)=>[(3,pO a32 l31.length c33),(30,pL Zf.enc p0.Materials),(31,pI (p0.Materials.length:Int)),(32,pI v34)]) (fun (a32,c33) (l31,v34)=>[Qa.row a32 l31.length c33 76 2 (List.map Zb.enc l31)]) (a8,c9) (jC rfl) (bg (aC aN) bq) ?_
    rintro ⟨a32,c33⟩ ⟨l31,v34⟩ o τ hb39;(try dsimp only at hb39);dsimp only [aw]
    refine cH [(33,pB (decide (v34<(p0.Materials.length:Int))))] (by kernel_rfl) (br (fh rfl hb39 (fun hc41 hb39=>?_) fun hc41 hb39=>?_))
    ·refine af ?_
     refine eT (ae hb39 fun m42 hm42 hb39=>cS 2 [] [34] [(35,.agg [pS m42.Name,pI m42.Share])] (bX 0 Zf.enc hm42 aY) (by kernel_rfl) (aj rfl (aP (cs:=[pS Uh,pI 0]) rfl rfl rfl rfl (fun b43=>aM rfl rfl (al (vs:=[pS m42.Name,pI m42.Share]) rfl rfl rfl rfl rfl bT pV (au (aD (ak (bH 3 [0] [37] [(36,pO a32 l31.length c33),(38,pS m42.Name)] (by kernel_rfl) (aj rfl (bp rfl rfl rfl rfl rfl (eE rfl jy) rfl rfl rfl rfl (fun b44=>bH 2 [1] [40] [(41,pI m42.Share)] (by kernel_rfl) ?_))))))))))))
     refine dw (enc:=eS) (xs:=[m42.Name]) 39 rfl (by exact aN) ?_
     refine ba 1 [(42,.agg [pL eS [m42.Name],pI m42.Share])] (by kernel_rfl) (aj rfl (bp rfl rfl rfl rfl rfl (eE rfl jy) rfl rfl rfl rfl (fun b46=>ae hb39 fun l48 hl48 hb39=>?_)))
     refine aj rfl (bw (enc:=Zb.enc) rfl rfl rfl rfl rfl rfl rfl rfl rfl eG (by exact aC (aC (aC aN))) hl48 (fun a49 c50=>?_))
     refine aE [(3,pO a49 l48.length c50)] (by kernel_rfl) (eH (ah [45] [(32,pI (i64.wrap (v34+1)))] (by kernel_rfl) ?_))
     exact aT hb39 (a49,c50) (jC rfl) bN
    refine aL ?_
    refine cJ hb39 (fun ht=>an rfl ?_)
    exact gZ ((a32,c33),l31) (oC rfl) bN ht.symm
   rintro ⟨⟨a36,c37⟩,l38⟩ τ ρ1 hsub52 hz;(try dsimp only at hz hsub52);subst q40;(try dsimp only at hq28);dsimp only [aw]
   obtain rfl:=osi hq28
   exact am ((a36,c37),l38) (oC rfl) (Vb.trans bN hsub52) rfl
  refine af ?_
  obtain rfl:=osi hq28
  exact am ((a8,c9),l10) (oC rfl) (bg (aC aN) bq) rfl
 rintro ⟨⟨a25,c26⟩,l27⟩ τ hz;(try dsimp only at hz);subst q28;(try dsimp only at h);dsimp only [aw]
 refine ag (ae h fun x55 hx55 h=>fC 1 [(46,pO a25 l27.length c26)] (by kernel_rfl) ?_)
 refine aj rfl (aI rfl rfl (ρ1:=[_]) (aq (by exact aN) Vh) (hQ (fun hr=>gY (rj hr)) hx55) ?_);rintro _ _ ⟨rfl,rfl⟩
 refine au (br (ah [48] [(2,pO a25 l27.length c26)] (by kernel_rfl) (aD ?_)))
 refine fj (enc:=Zb.enc) (xs:=x55) 2 rfl (by exact aN) ?_
 refine bi ?_
 exact zz r h rfl
def cr (p0:(List Zb)) (p1:(Zb->Option Bool)):Option Int:=(aW (S:=Int) (T:=(Unit)⊕(_)) (fun v1=>cond (decide (v1<(p0.length:Int))) ((bx p0 v1).bind fun m5=>(p1 m5).bind fun x6=>cond x6 (some (.inr (.inr v1))) (some (.inl (i64.wrap (v1+1))))) (some (.inr (.inl ())))) Va 0).bind fun q=>match q with | .inl _=>some (-1) | .inr e=>some e
theorem iY {p0:(List Zb)} {p1:(Zb->Option Bool)} {r:Int} {g1:PV} (hg1:∀ {y0:Zb} {w:Bool},p1 y0=some w->Yc g1 [.agg [pL eS y0.Words,pI y0.Share]] (pB w)) (h:cr p0 p1=some r):PF 199 [pL Zb.enc p0,g1] (pI r):=by
 unfold cr at h
 refine aV ?_
 refine dk Tryz.func199 rfl Tryz.ntmps199 Tryz.results199 rfl (aQ [4] (by kernel_rfl) (bM (ah [6] [(7,pI (p0.length:Int)),(8,pI 0)] (by kernel_rfl) (ey h fun q3 hq3 h=>?_))))
 refine ap (Y:=Unit×Unit) (fun (_,_)=>[]) (fun (_,_)=>[]) (fun (_,_)=>q3=Sum.inl ()) ?_ ?_
 ·refine aG ?_
  refine aJ (Y:=Unit) (S:=Int) _ hq3 (fun _ v1=>[(0,pL Zb.enc p0),(1,g1),(7,pI (p0.length:Int)),(8,pI v1)]) (fun _ v1=>[]) () (jC rfl) bq ?_
  rintro _ v1 o τ hb2;(try dsimp only at hb2);dsimp only [aw]
  refine cH [(9,pB (decide (v1<(p0.length:Int))))] (by kernel_rfl) (br (fh rfl hb2 (fun hc4 hb2=>?_) fun hc4 hb2=>?_))
  ·refine af ?_
   refine eT (ah [10] [(5,pI v1)] (by kernel_rfl) (cP hb2 fun m5 hm5 hb2=>ae hb2 fun x6 hx6 hb2=>ai [] (rg 11 5) [(16,pB x6)] (bX 3 Zb.enc hm5 (yD 5 (hg1 hx6) aY)) (by kernel_rfl) (fi rfl hb2 (fun hc7 hb2=>?_) fun hc7 hb2=>?_)))
   ·refine ag ?_
    refine ah [17] [(4,pI v1)] (by kernel_rfl) (cK (iq ?_))
    refine aX hb2 (fun ht=>?_);subst ht
    refine aO (aS ?_)
    exact zz r h rfl
   refine af ?_
   refine eH (ah [18] [(8,pI (i64.wrap (v1+1)))] (by kernel_rfl) ?_)
   exact aT hb2 () (jC rfl) bq
  refine aL ?_
  refine cJ hb2 (fun ht=>an rfl ?_)
  exact am ((),()) qr bq ht.symm
 rintro ⟨_,_⟩ τ hz;(try dsimp only at hz);subst q3;(try dsimp only at h);dsimp only [aw]
 refine cH [(4,pI (-1))] (by kernel_rfl) (cK ?_)
 exact zz r h rfl
def bW (p0:(List Zb)) (p1:(Zb->Option Bool)):Option Bool:=(cr p0 p1).bind fun x1=>some (decide (0<=x1))
theorem iu {p0:(List Zb)} {p1:(Zb->Option Bool)} {r:Bool} {g1:PV} (hg1:∀ {y0:Zb} {w:Bool},p1 y0=some w->Yc g1 [.agg [pL eS y0.Words,pI y0.Share]] (pB w)) (h:bW p0 p1=some r):PF 138 [pL Zb.enc p0,g1] (pB r):=by
 unfold bW at h
 refine aV ?_
 refine dk Tryz.func138 rfl Tryz.ntmps138 Tryz.results138 rfl (aQ [4] (by kernel_rfl) (cP h fun x1 hx1 h=>ai [] [5,6,7,8] [(4,pB (decide (0<=x1)))] (aU 2 (iY hg1 hx1) aY) (by kernel_rfl) (cK ?_)))
 exact zz r h rfl
def ez (p0:Zb) (p1:Zl) (p2:Za):Option Bool:=(dc p1.book p2 p0.Words).bind fun x2=>some (decide (0<x2))
theorem mq {p0:Zb} {p1:Zl} {p2:Za} {r:Bool}  (h:ez p0 p1 p2=some r):PF 139 [.agg [pL eS p0.Words,pI p0.Share],.ref (bv p1) 0,.ref (av p2) 0] (pB r):=by
 unfold ez at h
 refine aV ?_
 refine dk Tryz.func139 rfl Tryz.ntmps139 Tryz.results139 rfl (cL rfl (be (cs:=[pL eS p0.Words,pI p0.Share]) rfl rfl (fun b1=>aZ [4] (by kernel_rfl) (cP h fun x2 hx2 h=>ai [0] (rg 5 7) [(4,pB (decide (0<x2)))] (aU 5 (iH hx2) aY) (by kernel_rfl) (cK ?_)))))
 exact zz r h rfl
def e9 (p0:Za) (p1:(List Zb)) (p2:Zl):Option Bool:=(bW p1 (fun y2=>ez y2 p2 p0)).bind fun x3=>some x3
theorem mU {p0:Za} {p1:(List Zb)} {p2:Zl} {r:Bool}  (h:e9 p0 p1 p2=some r):PF 137 [.agg (av p0),.ref [pL Zb.enc p1] 0,.ref (bv p2) 0] (pB r):=by
 unfold e9 at h
 refine aV ?_
 refine dk Tryz.func137 rfl Tryz.ntmps137 Tryz.results137 rfl (cL rfl (be (cs:=(av p0)) rfl rfl (fun b1=>aZ [4] (by kernel_rfl) (br (fC 1 [(5,pL Zb.enc p1)] (by kernel_rfl) ?_)))))
 refine jj 3 rfl (by exact aN) ?_
 refine ae h fun x3 hx3 h=>dh [] [6,7] [(4,pB x3)] (aU 1 (iu (fun hr=>gY (mq hr)) hx3) aY) (by kernel_rfl) (cK ?_)
 exact zz r h rfl
def el (p0:Zl):Option (List Za):=(ik p0.good).bind fun x2=>(ep p0.entries (fun y4=>e9 y4 x2 p0)).bind fun x5=>some x5
theorem nN {p0:Zl} {r:(List Za)}  (h:el p0=some r):PF 88 [.agg (bv p0)] (pL Za.enc r):=by
 unfold el at h
 refine aV ?_
 refine dk Tryz.func88 rfl Tryz.ntmps88 Tryz.results88 rfl (cL rfl (be (cs:=(bv p0)) rfl rfl (fun b1=>aZ [2] (by kernel_rfl) (cP h fun x2 hx2 h=>cS 3 [0] [4,5] [(6,pL Zb.enc x2)] (aU 2 (n8 hx2) aY) (by kernel_rfl) (aj rfl (aP (cs:=[pN]) rfl rfl rfl rfl (fun b3=>aM rfl rfl (al (vs:=[pL Zb.enc x2]) rfl rfl rfl rfl rfl bT ii (au (br (ak (bH 2 [1] [7] [(8,pL Za.enc p0.entries)] (by kernel_rfl) ?_))))))))))))
 refine jj 3 rfl (by exact aN) ?_
 refine jj 1 rfl (by exact aC aN) ?_
 refine ae h fun x5 hx5 h=>dh [] [9,10] [(2,pL Za.enc x5)] (aU 1 (ij (fun hr=>gY (mU hr)) hx5) aY) (by kernel_rfl) (cK ?_)
 exact zz r h rfl
def iM (p0:Za):Option Bool:=some p0.Other
theorem nY {p0:Za} {r:Bool}  (h:iM p0=some r):PF 141 [.agg (av p0)] (pB r):=by
 unfold iM at h
 refine aV ?_
 refine dk Tryz.func141 rfl Tryz.ntmps141 Tryz.results141 rfl (cL rfl (be (cs:=(av p0)) rfl rfl (fun b1=>aZ [2] (by kernel_rfl) (br (aK [0] [3,4] [(2,pB p0.Other)] (by kernel_rfl) (cK ?_))))))
 exact zz r h rfl
def fu (p0:Zl):Option (List Za):=cond (decide (p0.parent=(⟨#[]⟩:Xh))) (some []) ((ep p0.entries (fun y3=>iM y3)).bind fun x4=>some x4)
theorem oO {p0:Zl} {r:(List Za)}  (h:fu p0=some r):PF 89 [.agg (bv p0)] (pL Za.enc r):=by
 unfold fu at h
 refine aV ?_
 refine dk Tryz.func89 rfl Tryz.ntmps89 Tryz.results89 rfl (cL rfl (be (cs:=(bv p0)) rfl rfl (fun b1=>aZ [2] (by kernel_rfl) (bM (aK [0] [3,4] [(5,pB (decide (p0.parent=(⟨#[]⟩:Xh))))] (by kernel_rfl) (fi rfl h (fun hc2 h=>?_) fun hc2 h=>?_))))))
 ·refine ag ?_
  refine aA [(2,pN)] (by kernel_rfl) (aD (gB 2 rfl (bi (bc ?_))))
  exact zz r h rfl
 refine af ?_
 refine cP h fun x4 hx4 h=>ai [0] [6,7,8] [(2,pL Za.enc x4)] (aU 2 (ij (fun hr=>gY (nY hr)) hx4) aY) (by kernel_rfl) (cK ?_)
 exact zz r h rfl
def iv (p0:Zl):Option (List Za):=cond (decide (p0.parent=(⟨#[]⟩:Xh))) (some []) (some p0.entries)
theorem rk {p0:Zl} {r:(List Za)}  (h:iv p0=some r):PF 91 [.agg (bv p0)] (pL Za.enc r):=by
 unfold iv at h
 refine aV ?_
 refine dk Tryz.func91 rfl Tryz.ntmps91 Tryz.results91 rfl (cL rfl (be (cs:=(bv p0)) rfl rfl (fun b1=>aZ [2] (by kernel_rfl) (bM (aK [0] [3,4] [(5,pB (decide (p0.parent=(⟨#[]⟩:Xh))))] (by kernel_rfl) (fi rfl h (fun hc2 h=>?_) fun hc2 h=>?_))))))
 ·refine ag ?_
  refine aA [(2,pN)] (by kernel_rfl) (aD (gB 2 rfl (bi (bc ?_))))
  exact zz r h rfl
 refine af ?_
 refine br (aK [0] [6,7] [(2,pL Za.enc p0.entries)] (by kernel_rfl) (cK ?_))
 exact zz r h rfl
def gw (p0:Za):Option Za:=(aW (S:=Int×(List (List Xh))) (T:=((List (List Xh)))) (fun (v3,l5)=>cond (decide (v3<(p0.Terms.length:Int))) ((bx p0.Terms v3).bind fun m16=>(bd m16).bind fun x17=>(app 24 l5 [x17]).bind fun l22=>some (.inl ((i64.wrap (v3+1)),l22))) (some (.inr l5))) Va (0,([]:List (List Xh)))).bind fun l11=>some (⟨p0.Code,p0.From,p0.To,l11,p0.Other⟩:Za)
theorem kh {p0:Za} {r:Za}  (h:gw p0=some r):PF 92 [.agg (av p0)] (.agg (av r)):=by
 unfold gw at h
 refine aV ?_
 refine dk Tryz.func92 rfl Tryz.ntmps92 Tryz.results92 rfl (cL rfl (be (cs:=(av p0)) rfl rfl (fun b1=>aj rfl (aP (cs:=[pS Uh,pI 0,pI 0,pN,pB false]) rfl rfl rfl rfl (fun b2=>au (br (aK [1] [6,7] [(3,pL (eL eS) p0.Terms)] (by kernel_rfl) (br (fC 1 [(8,pP b1 3)] (by kernel_rfl) (aM rfl rfl (al (vs:=[pN]) rfl rfl rfl rfl rfl (cE bT) (bV (bV (bV ii))) (au (bM (aA [(9,pL (eL eS) p0.Terms),(10,pI (p0.Terms.length:Int)),(11,pI 0)] (by kernel_rfl) (aD (bC 28 1 (ae h fun q13 hq13 h=>?_)))))))))))))))))
 refine ap (Y:=(Option Addr×Nat)×((List (List Xh)))) (fun ((a9,c10),l11)=>[(1,pP b1 0),(2,pP b2 0)]) (fun ((a9,c10),l11)=>[Qa.b b1 95 [pS p0.Code,pI p0.From,pI p0.To,pO a9 l11.length c10,pB p0.Other],Qa.b b2 95 [pS Uh,pI 0,pI 0,pN,pB false],Qa.row a9 l11.length c10 28 1 (List.map (eL eS) l11)]) (fun ((a9,c10),l11)=>q13=l11) ?_ ?_
 ·refine aG ?_
  refine aJ (Y:=Option Addr×Nat) (S:=Int×(List (List Xh))) _ hq13 (fun (a6,c7) (v3,l5)=>[(1,pP b1 0),(2,pP b2 0),(9,pL (eL eS) p0.Terms),(10,pI (p0.Terms.length:Int)),(11,pI v3)]) (fun (a6,c7) (v3,l5)=>[Qa.b b1 95 [pS p0.Code,pI p0.From,pI p0.To,pO a6 l5.length c7,pB p0.Other],Qa.b b2 95 [pS Uh,pI 0,pI 0,pN,pB false],Qa.row a6 l5.length c7 28 1 (List.map (eL eS) l5)]) (none,0) (gA rfl) (bg (aC (aC aN)) (bg (aC aN) bN)) ?_
  rintro ⟨a6,c7⟩ ⟨v3,l5⟩ o τ hb12;(try dsimp only at hb12);dsimp only [aw]
  refine cH [(12,pB (decide (v3<(p0.Terms.length:Int))))] (by kernel_rfl) (br (fh rfl hb12 (fun hc15 hb12=>?_) fun hc15 hb12=>?_))
  ·refine af ?_
   refine eT (ae hb12 fun m16 hm16 hb12=>ai [] [13,14] [(5,pL eS m16)] (bX 0 (eL eS) hm16 aY) (by kernel_rfl) (ey hb12 fun x17 hx17 hb12=>ae hb12 fun l22 hl22 hb12=>?_))
   refine eD (Y:=Option Addr×Nat) (fun (a23,c24)=>[(1,pP b1 0),(2,pP b2 0),(9,pL (eL eS) p0.Terms),(10,pI (p0.Terms.length:Int)),(11,pI v3)]) (fun (a23,c24)=>[Qa.b b1 95 [pS p0.Code,pI p0.From,pI p0.To,pO a23 l22.length c24,pB p0.Other],Qa.b b2 95 [pS Uh,pI 0,pI 0,pN,pB false],Qa.row a23 l22.length c24 28 1 (List.map (eL eS) l22)]) (fun _=>True) ?_ ?_
   ·refine gf (ρd:=[Qa.row a6 _ _ _ _ _,Qa.b b1 _ _]) _ (aq (aC (aC aN)) Vh) ?_
    repeat' first
     | (refine lr 1 ?_;first | refine bj rfl rfl rfl rfl (kI (co (p:=pO a6 l5.length c7) rfl (.p rfl) tz rfl) ?_) | refine bj rfl rfl rfl rfl (kI (co (p:=pO a6 l5.length c7) rfl (.p rfl) uR rfl) ?_))
     | (refine lr 3 ?_;refine bj rfl rfl rfl rfl (DQ (aI rfl rfl (ρ1:=[]) Vh (cO hx17) ?_));rintro _ _ ⟨a18,c19,rfl,rfl⟩;refine ⟨_,_,_,_,_,_,_,rfl,by (repeat (first | exact aN | apply aC)),?_⟩)
     | (refine lr 4 ?_;refine bj rfl rfl rfl rfl (bp rfl rfl rfl rfl rfl (eE rfl jy) rfl rfl rfl rfl (fun b20=>?_)))
     | (refine lr 5 ?_;refine bj rfl rfl rfl rfl (bw (enc:=(eL eS)) rfl rfl rfl rfl rfl rfl rfl rfl rfl eG (by exact aC aN) hl22 (fun a23 c24=>?_)))
     | (refine lr 7 ?_;refine eF rfl rfl rfl (al (vs:=[pO a23 l22.length c24]) rfl rfl rfl rfl rfl (cE (cE bT)) (bV (bV (bV (ii)))) ?_))
     | refine bu 0 (by decide +kernel) rfl rfl rfl rfl (bR rfl rfl rfl rfl rfl (.p rfl)) ?_
     | refine bu 2 (by decide +kernel) rfl rfl rfl rfl (bY (p:=pL eS m16) rfl (.p rfl)) ?_
     | refine dr 1 3 (by decide +kernel) ?_ ?_
     | refine bh 3 (by decide +kernel) ?_
     | refine bh 4 (by decide +kernel) ?_
     | refine bh 5 (by decide +kernel) ?_
     | refine bu 6 (by decide +kernel) rfl rfl rfl rfl (bR rfl rfl rfl rfl rfl (.p rfl)) ?_
     | refine bh 7 (by decide +kernel) ?_
     | refine gQ (by decide +kernel) ?_
     | refine dr 1 4 (by decide +kernel) ?_ ?_
     | refine bh 1 (by decide +kernel) ?_
     | exact gZ (a23,c24) (gA rfl) (bg (aC (aC aN)) (bg (aC (aC aN)) (bN))) trivial
   rintro ⟨a23,c24⟩ τ ρ1 hsub26 _;(try dsimp only at hsub26);dsimp only [aw]
   refine eH (kb hsub26 (ah [22] [(11,pI (i64.wrap (v3+1)))] (by kernel_rfl) ?_))
   exact aT hb12 (a23,c24) (gA rfl) rI
  refine aL ?_
  refine cJ hb12 (fun ht=>an rfl ?_)
  exact am ((a6,c7),l5) (lK rfl) rI ht.symm
 rintro ⟨⟨a9,c10⟩,l11⟩ τ hz;(try dsimp only at hz);subst q13;(try dsimp only at h);dsimp only [aw]
 refine ag (ak ?_)
 refine kH (css:=List.map (eL eS) l11) (a:=a9) (by exact aC (aC aN)) ?_
 refine iR (k:=3) (enc:=(eL eS)) (xs:=l11) (b:=b1) (a:=a9) rfl eG (cE bT) (dE 1 [1] [(23,.agg [pS p0.Code,pI p0.From,pI p0.To,pL (eL eS) l11,pB p0.Other])] (by kernel_rfl) (aM rfl rfl (al (vs:=[pS p0.Code,pI p0.From,pI p0.To,pL (eL eS) l11,pB p0.Other]) rfl rfl rfl rfl rfl (cE (cE bT)) td (au (cK ?_)))))
 obtain rfl:=osi h
 exact aH (dZ (di rfl uR rfl)) bq ⟨rfl,rfl⟩
def gG (p0:Za) (p1:Zh) (p2:(List Xh)) (p3:Int):Option Bool:=(dc p1 p0 p2).bind fun x2=>some (x2 == p3)
theorem oP {p0:Za} {p1:Zh} {p2:(List Xh)} {p3:Int} {r:Bool}  (h:gG p0 p1 p2 p3=some r):PF 145 [.agg (av p0),.ref [pL Za.enc p1.Entries,pL Ze.enc p1.Notes] 0,.ref [pL eS p2] 0,.ref [pI p3] 0] (pB r):=by
 unfold gG at h
 refine aV ?_
 refine dk Tryz.func145 rfl Tryz.ntmps145 Tryz.results145 rfl (cL rfl (be (cs:=(av p0)) rfl rfl (fun b1=>aZ [5] (by kernel_rfl) (br (bE (ρd:=[]) [(0,0),(1,0),(2,0),(4,0),(3,1),(5,0),(6,0)] _ Vh (by kernel_rfl) rfl (ae h fun x2 hx2 h=>ca 7 [0] [6,7,8,10,9,11] [(5,pB (x2 == p3))] (aU 4 (iH hx2) aY) (by kernel_rfl) (bZ (cK ?_))))))))
 exact zz r h rfl
def f8 (p0:Zh) (p1:(List Za)) (p2:(List Xh)):Option (List Za):=(aW (S:=Int×Int) (T:=(Int)) (fun (v4,v5)=>cond (decide (v4<(p1.length:Int))) ((bx p1 v4).bind fun m10=>(dc p0 m10 p2).bind fun x12=>some (.inl ((i64.wrap (v4+1)),(eO v5 x12)))) (some (.inr v5))) Va (0,0)).bind fun v6=>(ep p1 (fun y14=>gG y14 p0 p2 v6)).bind fun x15=>some x15
theorem pH {p0:Zh} {p1:(List Za)} {p2:(List Xh)} {r:(List Za)}  (h:f8 p0 p1 p2=some r):PF 94 [.agg [pL Za.enc p0.Entries,pL Ze.enc p0.Notes],pL Za.enc p1,pL eS p2] (pL Za.enc r):=by
 unfold f8 at h
 refine aV ?_
 refine dk Tryz.func94 rfl Tryz.ntmps94 Tryz.results94 rfl (cL rfl (be (cs:=[pL Za.enc p0.Entries,pL Ze.enc p0.Notes]) rfl rfl (fun b1=>aj rfl (be (cs:=[pL eS p2]) rfl rfl (fun b2=>aZ [6] (by kernel_rfl) (br (cL rfl (aP (cs:=[pI 0]) rfl rfl rfl rfl (fun b3=>aM rfl rfl (al (vs:=[pI 0]) rfl rfl rfl rfl rfl bT ii (au (bM (aA [(10,pL Za.enc p1),(11,pI (p1.length:Int)),(12,pI 0)] (by kernel_rfl) (ey h fun q8 hq8 h=>?_))))))))))))))
 refine ap (Y:=Unit×Int) (fun (_,v6)=>[(1,pL Za.enc p1),(3,pP b1 0),(5,pP b2 0),(7,pP b3 0)]) (fun (_,v6)=>[Qa.b b1 26 [pL Za.enc p0.Entries,pL Ze.enc p0.Notes],Qa.b b2 28 [pL eS p2],Qa.b b3 3 [pI v6]]) (fun (_,v6)=>q8=v6) ?_ ?_
 ·refine aG ?_
  refine aJ (Y:=Unit) (S:=Int×Int) _ hq8 (fun _ (v4,v5)=>[(1,pL Za.enc p1),(3,pP b1 0),(5,pP b2 0),(7,pP b3 0),(10,pL Za.enc p1),(11,pI (p1.length:Int)),(12,pI v4)]) (fun _ (v4,v5)=>[Qa.b b1 26 [pL Za.enc p0.Entries,pL Ze.enc p0.Notes],Qa.b b2 28 [pL eS p2],Qa.b b3 3 [pI v5]]) () (yB rfl) (bg (aC (aC aN)) (bg (aC aN) bN)) ?_
  rintro _ ⟨v4,v5⟩ o τ hb7;(try dsimp only at hb7);dsimp only [aw]
  refine cH [(13,pB (decide (v4<(p1.length:Int))))] (by kernel_rfl) (br (fh rfl hb7 (fun hc9 hb7=>?_) fun hc9 hb7=>?_))
  ·refine af ?_
   refine eT (ae hb7 fun m10 hm10 hb7=>cS 2 [] [14] [(15,.agg (av m10))] (bX 0 Za.enc hm10 aY) (by kernel_rfl) (aj rfl (aP (cs:=[pS Uh,pI 0,pI 0,pN,pB false]) rfl rfl rfl rfl (fun b11=>aM rfl rfl (al (vs:=(av m10)) rfl rfl rfl rfl rfl bT td (au (ey hb7 fun x12 hx12 hb7=>?_)))))))
   refine eD (Y:=Unit) (fun _=>[(1,pL Za.enc p1),(3,pP b1 0),(5,pP b2 0),(7,pP b3 0),(10,pL Za.enc p1),(11,pI (p1.length:Int)),(12,pI v4)]) (fun _=>[Qa.b b1 26 [pL Za.enc p0.Entries,pL Ze.enc p0.Notes],Qa.b b2 28 [pL eS p2],Qa.b b3 3 [pI (eO v5 x12)]]) (fun _=>True) ?_ ?_
   ·refine gf (ρd:=[Qa.b b3 _ _]) _ (aq (aC (aC (aC aN))) Vh) ?_
    repeat' first
     | (refine lr 0 ?_;refine bj rfl rfl rfl rfl (kI (co (p:=pI v5) rfl (.p rfl) eG rfl) ?_))
     | (refine lr 4 ?_;refine nf rfl rfl rfl rfl rfl rfl (iH hx12) ?_)
     | (refine lr 6 ?_;refine eF rfl rfl rfl (al (vs:=[pI (eO v5 x12)]) rfl rfl rfl rfl rfl bT (ii) ?_))
     | refine bu 1 (by decide +kernel) rfl rfl rfl rfl (co (p:=.agg [pL Za.enc p0.Entries,pL Ze.enc p0.Notes]) rfl (.p rfl) tz rfl) ?_
     | refine bu 2 (by decide +kernel) rfl rfl rfl rfl (co (p:=.agg (av m10)) rfl (.p rfl) eG rfl) ?_
     | refine bu 3 (by decide +kernel) rfl rfl rfl rfl (co (p:=pL eS p2) rfl (.p rfl) uR rfl) ?_
     | refine dr 0 4 (by decide +kernel) ?_ ?_
     | refine bh 4 (by decide +kernel) ?_
     | refine bu 5 (by decide +kernel) rfl rfl rfl rfl (z8 rfl (.p rfl) (.p rfl)) ?_
     | refine bh 6 (by decide +kernel) ?_
     | refine gQ (by decide +kernel) ?_
     | refine bh 0 (by decide +kernel) ?_
     | exact gZ () (yB rfl) (bg (aC (aC aN)) (bg (aC (aC aN)) (bN))) trivial
   rintro _ τ ρ1 hsub13 _;(try dsimp only at hsub13);dsimp only [aw]
   refine eH (kb hsub13 (ah [22] [(12,pI (i64.wrap (v4+1)))] (by kernel_rfl) ?_))
   exact aT hb7 () (yB rfl) rI
  refine aL ?_
  refine cJ hb7 (fun ht=>an rfl ?_)
  exact am ((),v5) (jC rfl) rI ht.symm
 rintro ⟨_,v6⟩ τ hz;(try dsimp only at hz);subst q8;(try dsimp only at h);dsimp only [aw]
 refine ag (fC 1 [(23,pL Za.enc p1)] (by kernel_rfl) ?_)
 refine jj 3 rfl (by exact aN) ?_
 refine jj 5 rfl (by exact aC aN) ?_
 refine jj 7 rfl (by exact aC (aC aN)) ?_
 refine ae h fun x15 hx15 h=>dh [] [24,25] [(6,pL Za.enc x15)] (aU 1 (ij (fun hr=>gY (oP hr)) hx15) aY) (by kernel_rfl) (cK ?_)
 exact zz r h rfl
def iZ (p0:(List Xh)) (p1:(List Xh)):Option Bool:=cond ((p0.length:Int) != (p1.length:Int)) (some false) ((aW (S:=Int) (T:=(Unit)⊕(_)) (fun v2=>cond (decide (v2<(p0.length:Int))) ((bx p0 v2).bind fun m6=>(bx p1 v2).bind fun m7=>cond (!decide (m6=m7)) (some (.inr (.inr false))) (some (.inl (i64.wrap (v2+1))))) (some (.inr (.inl ())))) Va 0).bind fun q=>match q with | .inl _=>some true | .inr e=>some e)
theorem rR {p0:(List Xh)} {p1:(List Xh)} {r:Bool}  (h:iZ p0 p1=some r):PF 97 [pL eS p0,pL eS p1] (pB r):=by
 unfold iZ at h
 refine aV ?_
 refine dk Tryz.func97 rfl Tryz.ntmps97 Tryz.results97 rfl (aQ [4] (by kernel_rfl) (bM (bF [6,7,8,9] [(10,pB ((p0.length:Int) != (p1.length:Int)))] (by kernel_rfl) rfl h (fun hc1 h=>?_) fun hc1 h=>?_)))
 ·refine ag ?_
  refine de [(4,pB false)] (by kernel_rfl) ?_
  exact zz r h rfl
 refine af ?_
 refine bM (aA [(5,pI 0)] (by kernel_rfl) (ey h fun q4 hq4 h=>?_))
 refine ap (Y:=Unit×Unit) (fun (_,_)=>[]) (fun (_,_)=>[]) (fun (_,_)=>q4=Sum.inl ()) ?_ ?_
 ·refine aG ?_
  refine aJ (Y:=Unit) (S:=Int) _ hq4 (fun _ v2=>[(0,pL eS p0),(1,pL eS p1),(5,pI v2)]) (fun _ v2=>[]) () (nt rfl) bq ?_
  rintro _ v2 o τ hb3;(try dsimp only at hb3);dsimp only [aw]
  refine dV (bF [11,12,13] [(14,pB (decide (v2<(p0.length:Int))))] (by kernel_rfl) rfl hb3 (fun hc5 hb3=>?_) fun hc5 hb3=>?_)
  ·refine af ?_
   refine eT (bE (ρd:=[]) [(0,0),(1,0),(2,0),(3,0),(4,0),(5,0),(6,0),(7,0),(8,0)] _ Vh (by kernel_rfl) rfl (ae hb3 fun m6 hm6 hb3=>ae hb3 fun m7 hm7 hb3=>ca 9 [] (rg 17 8) [(25,pB (!decide (m6=m7)))] (bX 2 eS hm6 (bX 6 eS hm7 aY)) (by kernel_rfl) (bZ (fi rfl hb3 (fun hc8 hb3=>?_) fun hc8 hb3=>?_))))
   ·refine ag ?_
    refine aA [(4,pB false)] (by kernel_rfl) (cK (iq ?_))
    refine aX hb3 (fun ht=>?_);subst ht
    refine aO (aS ?_)
    exact zz r h rfl
   refine af ?_
   refine eH (ah [15,16] [(5,pI (i64.wrap (v2+1)))] (by kernel_rfl) ?_)
   exact aT hb3 () (nt rfl) bq
  refine aL ?_
  refine cJ hb3 (fun ht=>an rfl ?_)
  exact am ((),()) qr bq ht.symm
 rintro ⟨_,_⟩ τ hz;(try dsimp only at hz);subst q4;(try dsimp only at h);dsimp only [aw]
 refine cH [(4,pB true)] (by kernel_rfl) (cK ?_)
 exact zz r h rfl
def kx (p0:Zm) (p1:Zm):Option Bool:=(gd ((((decide (p0.Parent=p1.Parent))&&(p0.Basis == p1.Basis))&&(p0.Rule == p1.Rule))&&(decide (p0.Chosen=p1.Chosen))) (iZ p0.Candidates p1.Candidates)).bind fun x3=>some (((((decide (p0.Parent=p1.Parent))&&(p0.Basis == p1.Basis))&&(p0.Rule == p1.Rule))&&(decide (p0.Chosen=p1.Chosen)))&&x3)
theorem ul {p0:Zm} {p1:Zm} {r:Bool}  (h:kx p0 p1=some r):PF 48 [.agg [pS p0.Parent,pI p0.Basis,pL eS p0.Candidates,pI p0.Rule,pS p0.Chosen],.agg [pS p1.Parent,pI p1.Basis,pL eS p1.Candidates,pI p1.Rule,pS p1.Chosen]] (pB r):=by
 unfold kx at h
 refine aV ?_
 refine dk Tryz.func48 rfl Tryz.ntmps48 Tryz.results48 rfl (cL rfl (be (cs:=[pS p0.Parent,pI p0.Basis,pL eS p0.Candidates,pI p0.Rule,pS p0.Chosen]) rfl rfl (fun b1=>aj rfl (be (cs:=[pS p1.Parent,pI p1.Basis,pL eS p1.Candidates,pI p1.Rule,pS p1.Chosen]) rfl rfl (fun b2=>aZ [4] (by kernel_rfl) (cP h fun x3 hx3 h=>ai [1,0,1,0,1,0,1,0,1,0] (rg 5 33) [(4,pB (((((decide (p0.Parent=p1.Parent))&&(p0.Basis == p1.Basis))&&(p0.Rule == p1.Rule))&&(decide (p0.Chosen=p1.Chosen)))&&x3))] (iJ 31 (fun hc=>rR (fU hx3 hc)) aY) (by kernel_rfl) (cK ?_)))))))
 exact zz r h rfl
end SX
end Go.Proofs.YtbedcfghfcmkdaaGreatDoor
