/- A part of the proof: texts of the walk and of the plain laws, merged. No condition. -/
import Derived.Test.YtmgcadfnkchnfaaGreatDoorM2
set_option linter.unusedVariables false
set_option linter.unusedSimpArgs false
set_option maxHeartbeats 4000000
set_option maxRecDepth 100000
namespace Go.Proofs.YtmgcadfnkchnfaaGreatDoor
namespace SX
open Go
attribute [local irreducible] PWL PWC PWD POpL POpQ PEv PGuardIs PSub PPick PUpd PSplice PFill PLit PF PFV PCall FOk fb fL mG nQ kX ld Cov PHolds bu idx app mk gd lb nz oO Ci sub nq ez oN uQ eX cV ex dN IntKind.wrap Int.tmod Int.tdiv Op.bytesLess strOfNums
theorem bh {n:Nat} {l:List Oper} {KC:Exit→PPost} {σ:PEnv} {ρ:List PRes} {id:Nat} (D:List Nat) (h:mL n l.toArray ρ l [] [] σ [] D=kZ n l.toArray ρ l [] [] σ []) (hw:KC .normal (kI σ D []) ρ):PWC n (.region id l.toArray false) KC σ ρ:=aB [] D [] bL h hw
theorem aV {n:Nat} {l:List Oper} {KC:Exit→PPost} {σ:PEnv} {ρ:List PRes} {id:Nat} (H D:List Nat) (X:List (Nat×PV)) (h:mL n l.toArray ρ l H [] σ (X.map (·.1)) D=kZ n l.toArray ρ l H [] σ (X.map (·.2))) (hw:KC .normal (kI σ D X) ρ):PWC n (.region id l.toArray false) KC σ ρ:=aB H D X bL h hw
theorem ap {n:Nat} {l:List Oper} {KC:Exit→PPost} {σ:PEnv} {ρ:List PRes} {id:Nat} (X:List (Nat×PV)) (h:mL n l.toArray ρ l [] [] σ (X.map (·.1)) []=kZ n l.toArray ρ l [] [] σ (X.map (·.2))) (hw:KC .normal (kI σ [] X) ρ):PWC n (.region id l.toArray false) KC σ ρ:=aB [] [] X bL h hw
theorem an {n:Nat} {l:List Oper} {KC:Exit→PPost} {σ:PEnv} {ρ:List PRes} {id:Nat} (D:List Nat) (X:List (Nat×PV)) (h:mL n l.toArray ρ l [] [] σ (X.map (·.1)) D=kZ n l.toArray ρ l [] [] σ (X.map (·.2))) (hw:KC .normal (kI σ D X) ρ):PWC n (.region id l.toArray false) KC σ ρ:=aB [] D X bL h hw
theorem Dx {n:Nat} {ops:Array Oper} {l:List (Nat×Oper)} {K:PPost} {σ:PEnv} {ρd ρs:List PRes} (k:Nat) (D:List Nat) (h:vq n ops ρs (l.take k) [] [] σ [] D=kZ n ops ρs ((l.take k).map (·.2)) [] [] σ []) (hw:PWD n ops K (l.drop k) (kI σ D []) ρd ρs):PWD n ops K l σ ρd ρs:=cr k [] D [] bL h hw
theorem t7 {n:Nat} {ops:Array Oper} {l:List (Nat×Oper)} {K:PPost} {σ:PEnv} {ρd ρs:List PRes} (k:Nat) (H D:List Nat) (X:List (Nat×PV)) (h:vq n ops ρs (l.take k) H [] σ (X.map (·.1)) D=kZ n ops ρs ((l.take k).map (·.2)) H [] σ (X.map (·.2))) (hw:PWD n ops K (l.drop k) (kI σ D X) ρd ρs):PWD n ops K l σ ρd ρs:=cr k H D X bL h hw
theorem jJ {n:Nat} {ops:Array Oper} {l:List (Nat×Oper)} {K:PPost} {σ:PEnv} {ρd ρs:List PRes} (k:Nat) (X:List (Nat×PV)) (h:vq n ops ρs (l.take k) [] [] σ (X.map (·.1)) []=kZ n ops ρs ((l.take k).map (·.2)) [] [] σ (X.map (·.2))) (hw:PWD n ops K (l.drop k) (kI σ [] X) ρd ρs):PWD n ops K l σ ρd ρs:=cr k [] [] X bL h hw
theorem t8 {n:Nat} {ops:Array Oper} {l:List (Nat×Oper)} {K:PPost} {σ:PEnv} {ρd ρs:List PRes} (k:Nat) (D:List Nat) (X:List (Nat×PV)) (h:vq n ops ρs (l.take k) [] [] σ (X.map (·.1)) D=kZ n ops ρs ((l.take k).map (·.2)) [] [] σ (X.map (·.2))) (hw:PWD n ops K (l.drop k) (kI σ D X) ρd ρs):PWD n ops K l σ ρd ρs:=cr k [] D X bL h hw
theorem br {n:Nat} {ops:Array Oper} {l:List Oper} {K:PPost} {σ:PEnv} {ρ:List PRes} (D:List Nat) (h:mL n ops ρ l [] [] σ [] D=kZ n ops ρ l [] [] σ []) (hw:K (kI σ D []) ρ):PWL n ops l K σ ρ:=kz [] D [] bL h hw
theorem aL {n:Nat} {ops:Array Oper} {l:List Oper} {K:PPost} {σ:PEnv} {ρ:List PRes} (X:List (Nat×PV)) (h:mL n ops ρ l [] [] σ (X.map (·.1)) []=kZ n ops ρ l [] [] σ (X.map (·.2))) (hw:K (kI σ [] X) ρ):PWL n ops l K σ ρ:=kz [] [] X bL h hw
theorem lJ {n:Nat} {ops:Array Oper} {l:List Oper} {K:PPost} {σ:PEnv} {ρ:List PRes} (D:List Nat) (X:List (Nat×PV)) (h:mL n ops ρ l [] [] σ (X.map (·.1)) D=kZ n ops ρ l [] [] σ (X.map (·.2))) (hw:K (kI σ D X) ρ):PWL n ops l K σ ρ:=kz [] D X bL h hw
theorem dY {n:Nat} {ops:Array Oper} {l:List Oper} {K:PPost} {σ:PEnv} {ρ:List PRes} (k:Nat) (H:List Nat) (X:List (Nat×PV)) (h:mL n ops ρ (l.take k) H [] σ (X.map (·.1)) []=kZ n ops ρ (l.take k) H [] σ (X.map (·.2))) (hw:PWL n ops (l.drop k) K (kI σ [] X) ρ):PWL n ops l K σ ρ:=bp k H [] X bL h hw
theorem cI {n:Nat} {ops:Array Oper} {l:List Oper} {K:PPost} {σ:PEnv} {ρ:List PRes} (k:Nat) (H D:List Nat) (X:List (Nat×PV)) (h:mL n ops ρ (l.take k) H [] σ (X.map (·.1)) D=kZ n ops ρ (l.take k) H [] σ (X.map (·.2))) (hw:PWL n ops (l.drop k) K (kI σ D X) ρ):PWL n ops l K σ ρ:=bp k H D X bL h hw
theorem bE {n:Nat} {ops:Array Oper} {l:List Oper} {K:PPost} {σ:PEnv} {ρ:List PRes} (k:Nat) (X:List (Nat×PV)) (h:mL n ops ρ (l.take k) [] [] σ (X.map (·.1)) []=kZ n ops ρ (l.take k) [] [] σ (X.map (·.2))) (hw:PWL n ops (l.drop k) K (kI σ [] X) ρ):PWL n ops l K σ ρ:=bp k [] [] X bL h hw
theorem bO {n:Nat} {ops:Array Oper} {l:List Oper} {K:PPost} {σ:PEnv} {ρ:List PRes} (k:Nat) (D:List Nat) (X:List (Nat×PV)) (h:mL n ops ρ (l.take k) [] [] σ (X.map (·.1)) D=kZ n ops ρ (l.take k) [] [] σ (X.map (·.2))) (hw:PWL n ops (l.drop k) K (kI σ D X) ρ):PWL n ops l K σ ρ:=bp k [] D X bL h hw
theorem aF {n:Nat} {ops:Array Oper} {o:Oper} {rest:List Oper} {K:PPost} {σ:PEnv} {ρ:List PRes} {d:Nat} (hg:(o.guard,o.dst,Nat.blt d n)=(none,some d,true)) (h:POpL o σ ρ fun p ρ'=>PWL n ops rest K (fe σ d p) ρ'):PWL n ops (o::rest) K σ ρ:=tC (Prod.mk.inj hg).1 (Prod.mk.inj (Prod.mk.inj hg).2).1 (Prod.mk.inj (Prod.mk.inj hg).2).2 h
theorem zz {α:Type} {t:Nat} {enc:α→PV} {σ:PEnv} {ρ:List PRes} {v:α} (r:α) (h:some v=some r) (e:σ t=enc v):ld [.tmp t] (fun pv ρ'=>pv=enc r∧ρ'=[]) .ret σ ρ:=by cases h;exact aI (fM (aD e)) bZ ⟨rfl,rfl⟩
theorem cw {x y1:Code} {K1:Exit→PPost} {ρ1:List PRes} {n1:Nat} {σ1:PEnv} (h1:PWC n1 x (fb n1 y1 K1) σ1 ρ1):fb n1 (.seq x y1) K1 .normal σ1 ρ1:=aW (ah h1)
theorem dC {K1:Exit→PPost} {ρ1:List PRes} {n1:Nat} {σ1:PEnv} (h1:K1 .ret σ1 ρ1):fb n1 .ret K1 .normal σ1 ρ1:=aW (cd h1)
theorem dW {p:Bool} {x y1:Code} {K1:Exit→PPost} {ρ1:List PRes} {n1:Nat} {c:Operand} {σ1:PEnv} {α:Type} {a b r:α} (hc:bG σ1 c=.v (.bool p)) (h1:cond p a b=r) (ht:p=true→a=r→PWC n1 x K1 σ1 ρ1) (hf:p=false→b=r→PWC n1 y1 K1 σ1 ρ1):fb n1 (.cond c x y1) K1 .normal σ1 ρ1:=aW (kU hc h1 ht hf)
theorem cQ {y1 x1 y:Code} {K1:Exit→PPost} {ρ:List PRes} {n:Nat} {σ:PEnv} (h:PWC n x1 (fb n y (fb n y1 K1)) σ ρ):fb n (.seq (.seq x1 y) y1) K1 .normal σ ρ:=cw (ah h)
theorem dV {x y1:Code} {K1:Exit→PPost} {ρ1:List PRes} {n1:Nat} {σ1:PEnv} {α β:Type} {x1:Option α} {f:α→Option β} {r:β} (h:x1.bind f=some r) (k:∀ a,x1=some a→f a=some r→(PWC n1 x (fb n1 y1 K1) σ1 ρ1)):fb n1 (.seq x y1) K1 .normal σ1 ρ1:=cw (aa h k)
theorem ua {y:Code} {K:Exit→PPost} {ρ:List PRes} {n1 n:Nat} {σ:PEnv} (h:K .ret σ ρ):fb n1 .ret (fb n y K) .normal σ ρ:=dC (aO h)
theorem dZ {x y:Code} {fn:Func} {ρ:List PRes} {pargs:List PV} {rs:List ResultVar} {f n1:Nat} {R:PV→List PRes→Prop} (hf:Tryz.prog.funcs[f]?=some fn) (hb:fn.body=some (.seq x y)) (hn:fn.ntmps=n1) (hres:fn.results=rs.toArray) (hsz:Nat.ble pargs.length n1=true) (h1:PWC n1 x (fb n1 y (ld rs R)) (tB pargs) ρ):PCall f pargs ρ R:=ky hf hb hn hres hsz (ah h1)
theorem gh {y x1 y1:Code} {K:Exit→PPost} {ρ1:List PRes} {n1:Nat} {σ1:PEnv} (h1:PWC n1 x1 (fb n1 y1 (fb n1 y K)) σ1 ρ1):PWC n1 (.seq (.seq x1 y1) y) K σ1 ρ1:=ah (ah h1)
theorem ga {y:Code} {K:Exit→PPost} {ρ:List PRes} {n:Nat} {σ:PEnv} {α β:Type} {x:Option α} {f:α→Option β} {r:β} (h1:x.bind f=some r) (k:∀ a,x=some a→f a=some r→(PWC n y K σ ρ)):fb n y K .normal σ ρ:=aW (aa h1 k)
theorem jX {x1 y:Code} {K:Exit→PPost} {ρ1:List PRes} {id n1:Nat} {σ1:PEnv} (h1:PWC n1 x1 (fb n1 y (fL id K)) σ1 ρ1):PWC n1 (.block id (.seq x1 y)) K σ1 ρ1:=aR (ah h1)
theorem bU {p:Bool} {x y1:Code} {K1:Exit→PPost} {l:List Oper} {ρ1:List PRes} {n id n1:Nat} {c:Operand} {σ:PEnv} {α:Type} {a b r:α} (D:List Nat) (X:List (Nat×PV)) (h:mL n l.toArray ρ1 l [] [] σ (X.map (·.1)) D=kZ n l.toArray ρ1 l [] [] σ (X.map (·.2))) (hc:bG (kI σ D X) c=.v (.bool p)) (h1:cond p a b=r) (ht:p=true→a=r→PWC n1 x K1 (kI σ D X) ρ1) (hf:p=false→b=r→PWC n1 y1 K1 (kI σ D X) ρ1):PWC n (.region id l.toArray false) (fb n1 (.cond c x y1) K1) σ ρ1:=an D X h (dW hc h1 ht hf)
theorem cP {K:Exit→PPost} {l1:List Oper} {ρ1:List PRes} {id n1:Nat} {σ1:PEnv} (k:Nat) (X:List (Nat×PV)) (h1:mL n1 l1.toArray ρ1 (l1.take k) [] [] σ1 (X.map (·.1)) []=kZ n1 l1.toArray ρ1 (l1.take k) [] [] σ1 (X.map (·.2))) (hw:PWL n1 l1.toArray (l1.drop k) (K .normal) (kI σ1 [] X) ρ1):PWC n1 (.region id l1.toArray false) K σ1 ρ1:=aj (bE k X h1 hw)
theorem dj {K:Exit→PPost} {rest:List Oper} {ρ1:List PRes} {id n1 d:Nat} {o:Oper} {σ1:PEnv} (hg:(o.guard,o.dst,Nat.blt d n1)=(none,some d,true)) (h1:POpL o σ1 ρ1 fun p ρ'=>PWL n1 (o::rest).toArray rest (K .normal) (fe σ1 d p) ρ'):PWC n1 (.region id (o::rest).toArray false) K σ1 ρ1:=aj (aF hg h1)
theorem dq {y:Code} {K:Exit→PPost} {l:List Oper} {ρ1:List PRes} {n id n1 n2:Nat} {σ:PEnv} (X:List (Nat×PV)) (h:mL n l.toArray ρ1 l [] [] σ (X.map (·.1)) []=kZ n l.toArray ρ1 l [] [] σ (X.map (·.2))) (h1:K .ret (kI σ [] X) ρ1):PWC n (.region id l.toArray false) (fb n1 .ret (fb n2 y K)) σ ρ1:=ap X h (ua h1)
def lK (p0:(List Int)) (p1:Int):Option (List Int):=cond (decide (p1<(p0.length:Int))) ((sub p0 0 p1).bind fun l2=>some l2) (some p0)
theorem r7 {p0:(List Int)} {p1:Int} {r:(List Int)}  (h:lK p0 p1=some r):PF 31 [pL eI p0,pI p1] (pL eI r):=by
 unfold lK at h
 refine bo ?_
 refine dZ Tryz.func31 rfl Tryz.ntmps31 Tryz.results31 rfl (bh [4] (by kernel_rfl) (cQ (bU [5,6,7] [(8,pB (decide (p1<(p0.length:Int))))] (by kernel_rfl) rfl h (fun hc1 h=>?_) fun hc1 h=>?_)))
 ·refine ah ?_
  refine aa h fun l2 hl2 h=>aB [] [9,10,11] [(4,pL eI l2)] (fosl 2 eI 1 (fun _=>rfl) hl2 bL) (by kernel_rfl) (ua ?_)
  exact zz r h rfl
 refine ae ?_
 refine cw (an [12] [(4,pL eI p0)] (by kernel_rfl) (dC ?_))
 exact zz r h rfl
def fN (p0:Int) (p1:Int):Option Int:=(nz p1).bind fun u1=>(nz p1).bind fun u2=>lb ((Int.tmod (IntKind.i64.wrap ((Int.tmod p0 p1)+p1)) p1)) (fun w3=>some w3)
theorem lL {p0:Int} {p1:Int} {r:Int}  (h:fN p0 p1=some r):PF 14 [pI p0,pI p1] (pI r):=by
 unfold fN at h
 refine bo ?_
 refine dZ Tryz.func14 rfl Tryz.ntmps14 Tryz.results14 rfl (bh [4] (by kernel_rfl) (dV h fun u1 hu1 h=>aa h fun u2 hu2 h=>?_))
 refine dr h ?_;clear h;intro w3 hw3 h
 refine aj (bp 7 [] (rg 5 6) [(11,pI (Int.tmod (IntKind.i64.wrap ((Int.tmod p0 p1)+p1)) p1))] (zF 2 hu1 (zF 6 hu2 bL)) (by kernel_rfl) (bM rfl rfl rfl (be rfl (.p (congrArg (fun z=>PV.v (Value.int .i64 z)) hw3))) (ar (dC ?_))))
 exact zz r h rfl
def aG (p0:Ze) (p1:Int):Option (Int×Ze):=cond (decide ((p0.L.length:Int)≤p0.I)) (some ((0:Int),p0)) ((idx p0.L (IntKind.i64.wrap ((IntKind.i64.wrap (p0.I+1)) - 1))).bind fun m2=>(fN m2 p1).bind fun x3=>some (x3,(⟨p0.L,(IntKind.i64.wrap (p0.I+1))⟩:Ze)))
theorem aA {p0:Ze} {p1:Int} {b0:Nat} {r:(Int×Ze)}  (h:aG p0 p1=some r):PCall 32 [pP b0 0,pI p1] [PRes.b b0 75 [pL eI p0.L,pI p0.I]] (fun pv ρ'=>pv=pI r.1∧ρ'=[PRes.b b0 75 [pL eI r.2.L,pI r.2.I]]):=by
 unfold aG at h
 refine dZ Tryz.func32 rfl Tryz.ntmps32 Tryz.results32 rfl (bh [4] (by kernel_rfl) (cQ (bN (ρd:=[]) [(0,0),(1,0),(2,0),(3,0),(4,0),(5,0),(6,0),(7,0),(8,0),(9,0)] _ (List.Perm.refl _) (by kernel_rfl) rfl (t7 10 [0,0] (rg 5 9) [(14,pB (decide ((p0.L.length:Int)≤p0.I)))] (by kernel_rfl) (cC (dW rfl h (fun hc1 h=>?_) fun hc1 h=>?_))))))
 ·refine ah ?_
  refine dq [(4,pI 0)] (by kernel_rfl) ?_
  obtain rfl:=osi h
  exact aI (fM (aD rfl)) cq ⟨rfl,rfl⟩
 refine ae ?_
 refine cw (aj (cI 7 [0] [15,16,17,18,20] [(19,pI (IntKind.i64.wrap (p0.I+1))),(21,pP b0 1)] (by kernel_rfl) (aH rfl rfl (ag (vs:=[pI (IntKind.i64.wrap (p0.I+1))]) rfl rfl rfl rfl rfl bB (bf cN) (ar (cw (bN (ρd:=[]) [(0,0),(1,0),(2,0),(3,0),(4,0),(5,0),(6,0),(7,0),(8,0),(9,0),(10,0),(11,0),(12,1),(13,0)] _ (List.Perm.refl _) (by kernel_rfl) rfl (aa h fun m2 hm2 h=>aa h fun x3 hx3 h=>cr 14 [0,0] (rg 22 13) [(4,pI x3)] (fC 9 eI hm2 (bw 12 (lL hx3) bL)) (by kernel_rfl) (cC (dC ?_))))))))))
 obtain rfl:=osi h
 exact aI (fM (aD rfl)) cq ⟨rfl,rfl⟩
def da (p0:Ze):Option (Int×Ze):=(aG p0 4).bind fun x1=>cond (decide (0<x1.1)) ((aG x1.2 101).bind fun x3=>some ((IntKind.i64.wrap (10000*x3.1)),x3.2)) ((aG x1.2 1000001).bind fun x4=>some (x4.1,x4.2))
theorem iQ {p0:Ze} {b0:Nat} {r:(Int×Ze)}  (h:da p0=some r):PCall 71 [pP b0 0] [PRes.b b0 75 [pL eI p0.L,pI p0.I]] (fun pv ρ'=>pv=pI r.1∧ρ'=[PRes.b b0 75 [pL eI r.2.L,pI r.2.I]]):=by
 unfold da at h
 refine dZ Tryz.func71 rfl Tryz.ntmps71 Tryz.results71 rfl (bh [2] (by kernel_rfl) (cQ (aa h fun x1 hx1 h=>cP 1 [(3,pP b0 0)] (by kernel_rfl) ?_)))
 refine aF rfl (bi rfl rfl (ρ1:=[_]) (aX (by exact aN) (List.Perm.refl _)) (aA hx1) ?_);rintro _ _ ⟨rfl,rfl⟩
 refine aL [(5,pB (decide (0<x1.1)))] (by kernel_rfl) (dW rfl h (fun hc2 h=>?_) fun hc2 h=>?_)
 ·refine ah ?_
  refine aa h fun x3 hx3 h=>cP 1 [(6,pP b0 0)] (by kernel_rfl) ?_
  refine aF rfl (bi rfl rfl (ρ1:=[_]) (aX (by exact aN) (List.Perm.refl _)) (aA hx3) ?_);rintro _ _ ⟨rfl,rfl⟩
  refine lJ [8] [(2,pI (IntKind.i64.wrap (10000*x3.1)))] (by kernel_rfl) (ua ?_)
  obtain rfl:=osi h
  exact aI (fM (aD rfl)) cq ⟨rfl,rfl⟩
 refine ae ?_
 refine dV h fun x4 hx4 h=>cP 1 [(9,pP b0 0)] (by kernel_rfl) ?_
 refine aF rfl (bi rfl rfl (ρ1:=[_]) (aX (by exact aN) (List.Perm.refl _)) (aA hx4) ?_);rintro _ _ ⟨rfl,rfl⟩
 refine aL [(2,pI x4.1)] (by kernel_rfl) (dC ?_)
 obtain rfl:=osi h
 exact aI (fM (aD rfl)) cq ⟨rfl,rfl⟩
def dE (p0:Ze):Option (Zm×Ze):=(aG p0 3).bind fun x3=>Option.bind (cond (decide (0<x3.1)) ((da x3.2).bind fun x9=>some (x9.2.L,x9.2.I,(IntKind.i64.wrap (Int.tdiv x9.1 4)))) (some (x3.2.L,x3.2.I,0))) (fun (l4,v5,v6)=>(aG (⟨l4,v5⟩:Ze) 3).bind fun x10=>Option.bind (cond (x10.1 == 1) ((aG x10.2 500).bind fun x17=>(aG x17.2 5).bind fun x20=>(idx [1,100,1000,1000000,7] x20.1).bind fun m21=>some (x20.2.L,x20.2.I,(IntKind.i64.wrap (1+x17.1)),m21)) (some (x10.2.L,x10.2.I,0,0))) (fun (l11,v12,v13,v14)=>(aG (⟨l11,v12⟩:Ze) 4).bind fun x23=>Option.bind (cond (x23.1 == 1) ((da x23.2).bind fun x30=>some (x30.2.L,x30.2.I,true,x30.1)) (some (x23.2.L,x23.2.I,false,0))) (fun (l24,v25,v26,v27)=>(aG (⟨l24,v25⟩:Ze) 4).bind fun x31=>Option.bind (cond (x31.1 == 1) ((da x31.2).bind fun x38=>cond v26 (some (x38.2.L,x38.2.I,true,(ex (IntKind.i64.wrap (Int.tdiv x38.1 8)) v27))) (some (x38.2.L,x38.2.I,true,(IntKind.i64.wrap (Int.tdiv x38.1 8))))) (some (x31.2.L,x31.2.I,false,0))) (fun (l32,v33,v34,v35)=>some ((⟨v6,v13,v14,v26,v27,v34,v35⟩:Zm),(⟨l32,v33⟩:Ze))))))
theorem iR {p0:Ze} {b0:Nat} {r:(Zm×Ze)}  (h:dE p0=some r):PCall 33 [pP b0 0] [PRes.b b0 75 [pL eI p0.L,pI p0.I]] (fun pv ρ'=>pv=.agg (jI r.1)∧ρ'=[PRes.b b0 75 [pL eI r.2.L,pI r.2.I]]):=by
 unfold dE at h
 refine dZ Tryz.func33 rfl Tryz.ntmps33 Tryz.results33 rfl (dj rfl (aY (cs:=[pI 0,pI 0,pI 0,pB false,pI 0,pB false,pI 0]) rfl rfl rfl rfl (fun b1=>ar (cw (cP 1 [(4,.agg [pI 0,pI 0,pI 0,pB false,pI 0,pB false,pI 0])] (by kernel_rfl) (aF rfl (aY (cs:=[pI 0,pI 0,pI 0,pB false,pI 0,pB false,pI 0]) rfl rfl rfl rfl (fun b2=>aH rfl rfl (ag (vs:=[pI 0,pI 0,pI 0,pB false,pI 0,pB false,pI 0]) rfl rfl rfl rfl rfl bB Ez (ar (cQ (aa h fun x3 hx3 h=>cP 1 [(5,pP b0 0)] (by kernel_rfl) ?_))))))))))))
 refine aF rfl (bi rfl rfl (ρ1:=[_]) (aX (by exact aC (aC aN)) (List.Perm.refl _)) (aA hx3) ?_);rintro _ _ ⟨rfl,rfl⟩
 refine aL [(7,pB (decide (0<x3.1)))] (by kernel_rfl) (ga h fun q7 hq7 h=>?_)
 refine av (Y:=Unit×((List Int)×Int×Int)) (fun (_,(l4,v5,v6))=>[(0,pP b0 0),(2,pP b1 0),(3,pP b2 0)]) (fun (_,(l4,v5,v6))=>[PRes.b b0 75 [pL eI l4,pI v5],PRes.b b1 66 [pI 0,pI 0,pI 0,pB false,pI 0,pB false,pI 0],PRes.b b2 66 [pI v6,pI 0,pI 0,pB false,pI 0,pB false,pI 0]]) (fun (_,(l4,v5,v6))=>q7=(l4,v5,v6)) ?_ ?_
 ·skip
  refine kU rfl hq7 (fun hc8 hq7=>?_) fun hc8 hq7=>?_
  ·refine aa hq7 ?_;clear hq7;intro x9 hx9 hq7
   refine cP 1 [(8,pP b0 0)] (by kernel_rfl) ?_
   refine aF rfl (bi rfl rfl (ρ1:=[_]) (aX (by exact aN) (List.Perm.refl _)) (iQ hx9) ?_);rintro _ _ ⟨rfl,rfl⟩
   refine bE 2 [(10,pI (IntKind.i64.wrap (Int.tdiv x9.1 4))),(11,pP b2 0)] (by kernel_rfl) (aH rfl rfl (ag (vs:=[pI (IntKind.i64.wrap (Int.tdiv x9.1 4))]) rfl rfl rfl rfl rfl (bx bB) cN (ar ?_)))
   obtain rfl:=osi hq7
   exact am ((),(x9.2.L,x9.2.I,(IntKind.i64.wrap (Int.tdiv x9.1 4)))) (kH rfl) (bq aN (bq (aC aN) cq)) rfl
  refine ae ?_
  obtain rfl:=osi hq7
  exact am ((),(x3.2.L,x3.2.I,0)) (kH rfl) (bq aN (bq (aC aN) cq)) rfl
 rintro ⟨_,⟨l4,v5,v6⟩⟩ τ hz;(try dsimp only at hz);subst q7;(try dsimp only at h);dsimp only [aK]
 refine gh (aa h fun x10 hx10 h=>cP 1 [(12,pP b0 0)] (by kernel_rfl) ?_)
 refine aF rfl (bi rfl rfl (ρ1:=[_]) (aX (by exact aN) (List.Perm.refl _)) (aA hx10) ?_);rintro _ _ ⟨rfl,rfl⟩
 refine aL [(14,pB (x10.1 == 1))] (by kernel_rfl) (ga h fun q15 hq15 h=>?_)
 refine av (Y:=Unit×((List Int)×Int×Int×Int)) (fun (_,(l11,v12,v13,v14))=>[(0,pP b0 0),(2,pP b1 0),(3,pP b2 0)]) (fun (_,(l11,v12,v13,v14))=>[PRes.b b0 75 [pL eI l11,pI v12],PRes.b b1 66 [pI 0,pI 0,pI 0,pB false,pI 0,pB false,pI 0],PRes.b b2 66 [pI v6,pI v13,pI v14,pB false,pI 0,pB false,pI 0]]) (fun (_,(l11,v12,v13,v14))=>q15=(l11,v12,v13,v14)) ?_ ?_
 ·skip
  refine kU rfl hq15 (fun hc16 hq15=>?_) fun hc16 hq15=>?_
  ·refine aa hq15 ?_;clear hq15;intro x17 hx17 hq15
   refine aa hq15 fun x20 hx20 hq15=>aa hq15 fun m21 hm21 hq15=>?_
   refine kG (Y:=Unit) (fun _=>[(0,pP b0 0),(2,pP b1 0),(3,pP b2 0)]) (fun _=>[PRes.b b0 75 [pL eI x20.2.L,pI x20.2.I],PRes.b b1 66 [pI 0,pI 0,pI 0,pB false,pI 0,pB false,pI 0],PRes.b b2 66 [pI v6,pI (IntKind.i64.wrap (1+x17.1)),pI m21,pB false,pI 0,pB false,pI 0]]) (fun _=>True) ?_ ?_
   ·refine hU (ρd:=[PRes.b b0 _ _,PRes.b b2 _ _]) _ (aX aN (aX (aC aN) (List.Perm.refl _))) ?_
    refine az 0 (by kernel_rfl) rfl rfl rfl rfl (cM (p:=pP b0 0) rfl (.p rfl)) (az 4 (by kernel_rfl) rfl rfl rfl rfl (cM (p:=pP b0 0) rfl (.p rfl)) ?_)
    refine bA 1 3 (by kernel_rfl) ?_ ?_
    ·skip
     refine af rfl rfl rfl rfl (bi rfl rfl (ρ1:=[_]) (aX (by exact aN) (List.Perm.refl _)) (aA hx17) ?_);rintro _ _ ⟨rfl,rfl⟩
     refine az 2 (by kernel_rfl) rfl rfl rfl rfl (gM rfl (.p rfl) (.p rfl) rfl) (az 8 (by kernel_rfl) rfl rfl rfl rfl (ak rfl rfl rfl rfl rfl (.p rfl)) ?_)
     refine bA 3 5 (by kernel_rfl) ?_ ?_
     ·skip
      refine af rfl rfl rfl rfl (bg rfl rfl rfl rfl rfl (dI rfl (dI rfl (dI rfl (dI rfl (dI rfl eY))))) rfl rfl rfl rfl (fun b18=>ai 5 (by kernel_rfl) ?_))
      refine af rfl rfl rfl rfl (bi rfl rfl (ρ1:=[_]) (aX (by exact aC aN) (List.Perm.refl _)) (aA hx20) ?_);rintro _ _ ⟨rfl,rfl⟩
      refine bA 6 9 (by kernel_rfl) ?_ ?_
      ·skip
       refine af rfl rfl rfl rfl (bX (cm (enc:=eI) (xs:=[1,100,1000,1000000,7]) rfl rfl rfl (.p rfl) fR (.p rfl) (fun _=>hm21)) ?_)
       refine bA 7 9 (by kernel_rfl) ?_ ?_
       ·skip
        refine af rfl rfl rfl rfl (bX (cn (sz:=1) (p:=pI m21) (enc:=eI) (xs:=[1,100,1000,1000000,7]) (a:=(some ⟨b18,0,none⟩)) x20.1 0 m21 rfl (.p rfl) rfl fR (fun _=>hm21) rfl) (ai 9 (by kernel_rfl) (aQ rfl rfl rfl (ag (vs:=[pI (IntKind.i64.wrap (1+x17.1))]) rfl rfl rfl rfl rfl (bx (bx bB)) (bf cN) (az 10 (by kernel_rfl) rfl rfl rfl rfl (ak rfl rfl rfl rfl rfl (.p rfl)) (ai 11 (by kernel_rfl) (aQ rfl rfl rfl (ag (vs:=[pI m21]) rfl rfl rfl rfl rfl (bx (bx bB)) (bf (bf cN)) (aT (by kernel_rfl) ?_)))))))))
        exact fB () (kH rfl) (bq aN (bq (aC (aC aN)) (bq (aC aN) bZ))) trivial
       skip
       refine aQ rfl rfl rfl (ag (vs:=[pI (IntKind.i64.wrap (1+x17.1))]) rfl rfl rfl rfl rfl (bx (bx bB)) (bf cN) (ai 7 (by kernel_rfl) (af rfl rfl rfl rfl (bX (cn (sz:=1) (p:=pI m21) (enc:=eI) (xs:=[1,100,1000,1000000,7]) (a:=(some ⟨b18,0,none⟩)) x20.1 0 m21 rfl (.p rfl) rfl fR (fun _=>hm21) rfl) (az 10 (by kernel_rfl) rfl rfl rfl rfl (ak rfl rfl rfl rfl rfl (.p rfl)) (ai 11 (by kernel_rfl) (aQ rfl rfl rfl (ag (vs:=[pI m21]) rfl rfl rfl rfl rfl (bx (bx bB)) (bf (bf cN)) (aT (by kernel_rfl) ?_)))))))))
       exact fB () (kH rfl) (bq aN (bq (aC (aC aN)) (bq (aC aN) bZ))) trivial
      skip
      refine aQ rfl rfl rfl (ag (vs:=[pI (IntKind.i64.wrap (1+x17.1))]) rfl rfl rfl rfl rfl (bx (bx bB)) (bf cN) (ai 6 (by kernel_rfl) (af rfl rfl rfl rfl (bX (cm (enc:=eI) (xs:=[1,100,1000,1000000,7]) rfl rfl rfl (.p rfl) fR (.p rfl) (fun _=>hm21)) (ai 7 (by kernel_rfl) (af rfl rfl rfl rfl (bX (cn (sz:=1) (p:=pI m21) (enc:=eI) (xs:=[1,100,1000,1000000,7]) (a:=(some ⟨b18,0,none⟩)) x20.1 0 m21 rfl (.p rfl) rfl fR (fun _=>hm21) rfl) (az 10 (by kernel_rfl) rfl rfl rfl rfl (ak rfl rfl rfl rfl rfl (.p rfl)) (ai 11 (by kernel_rfl) (aQ rfl rfl rfl (ag (vs:=[pI m21]) rfl rfl rfl rfl rfl (bx (bx bB)) (bf (bf cN)) (aT (by kernel_rfl) ?_))))))))))))
      exact fB () (kH rfl) (bq aN (bq (aC (aC aN)) (bq (aC aN) bZ))) trivial
     skip
     refine af rfl rfl rfl rfl (bi rfl rfl (ρ1:=[_]) (aX (by exact aN) (List.Perm.refl _)) (aA hx20) ?_);rintro _ _ ⟨rfl,rfl⟩
     refine bA 3 9 (by kernel_rfl) ?_ ?_
     ·skip
      refine af rfl rfl rfl rfl (bg rfl rfl rfl rfl rfl (dI rfl (dI rfl (dI rfl (dI rfl (dI rfl eY))))) rfl rfl rfl rfl (fun b18=>?_))
      refine bA 6 9 (by kernel_rfl) ?_ ?_
      ·skip
       refine af rfl rfl rfl rfl (bX (cm (enc:=eI) (xs:=[1,100,1000,1000000,7]) rfl rfl rfl (.p rfl) dt (.p rfl) (fun _=>hm21)) ?_)
       refine bA 7 9 (by kernel_rfl) ?_ ?_
       ·skip
        refine af rfl rfl rfl rfl (bX (cn (sz:=1) (p:=pI m21) (enc:=eI) (xs:=[1,100,1000,1000000,7]) (a:=(some ⟨b18,0,none⟩)) x20.1 0 m21 rfl (.p rfl) rfl dt (fun _=>hm21) rfl) (ai 9 (by kernel_rfl) (aQ rfl rfl rfl (ag (vs:=[pI (IntKind.i64.wrap (1+x17.1))]) rfl rfl rfl rfl rfl (bx (bx bB)) (bf cN) (az 10 (by kernel_rfl) rfl rfl rfl rfl (ak rfl rfl rfl rfl rfl (.p rfl)) (ai 11 (by kernel_rfl) (aQ rfl rfl rfl (ag (vs:=[pI m21]) rfl rfl rfl rfl rfl (bx (bx bB)) (bf (bf cN)) (aT (by kernel_rfl) ?_)))))))))
        exact fB () (kH rfl) (bq (aC aN) (bq (aC (aC aN)) (bq (aC aN) bZ))) trivial
       skip
       refine aQ rfl rfl rfl (ag (vs:=[pI (IntKind.i64.wrap (1+x17.1))]) rfl rfl rfl rfl rfl (bx (bx bB)) (bf cN) (ai 7 (by kernel_rfl) (af rfl rfl rfl rfl (bX (cn (sz:=1) (p:=pI m21) (enc:=eI) (xs:=[1,100,1000,1000000,7]) (a:=(some ⟨b18,0,none⟩)) x20.1 0 m21 rfl (.p rfl) rfl dt (fun _=>hm21) rfl) (az 10 (by kernel_rfl) rfl rfl rfl rfl (ak rfl rfl rfl rfl rfl (.p rfl)) (ai 11 (by kernel_rfl) (aQ rfl rfl rfl (ag (vs:=[pI m21]) rfl rfl rfl rfl rfl (bx (bx bB)) (bf (bf cN)) (aT (by kernel_rfl) ?_)))))))))
       exact fB () (kH rfl) (bq (aC aN) (bq (aC (aC aN)) (bq (aC aN) bZ))) trivial
      skip
      refine aQ rfl rfl rfl (ag (vs:=[pI (IntKind.i64.wrap (1+x17.1))]) rfl rfl rfl rfl rfl (bx (bx bB)) (bf cN) (ai 6 (by kernel_rfl) (af rfl rfl rfl rfl (bX (cm (enc:=eI) (xs:=[1,100,1000,1000000,7]) rfl rfl rfl (.p rfl) dt (.p rfl) (fun _=>hm21)) (ai 7 (by kernel_rfl) (af rfl rfl rfl rfl (bX (cn (sz:=1) (p:=pI m21) (enc:=eI) (xs:=[1,100,1000,1000000,7]) (a:=(some ⟨b18,0,none⟩)) x20.1 0 m21 rfl (.p rfl) rfl dt (fun _=>hm21) rfl) (az 10 (by kernel_rfl) rfl rfl rfl rfl (ak rfl rfl rfl rfl rfl (.p rfl)) (ai 11 (by kernel_rfl) (aQ rfl rfl rfl (ag (vs:=[pI m21]) rfl rfl rfl rfl rfl (bx (bx bB)) (bf (bf cN)) (aT (by kernel_rfl) ?_))))))))))))
      exact fB () (kH rfl) (bq (aC aN) (bq (aC (aC aN)) (bq (aC aN) bZ))) trivial
     skip
     refine aQ rfl rfl rfl (ag (vs:=[pI (IntKind.i64.wrap (1+x17.1))]) rfl rfl rfl rfl rfl (bx bB) (bf cN) (ai 3 (by kernel_rfl) (af rfl rfl rfl rfl (bg rfl rfl rfl rfl rfl (dI rfl (dI rfl (dI rfl (dI rfl (dI rfl eY))))) rfl rfl rfl rfl (fun b18=>ai 6 (by kernel_rfl) (af rfl rfl rfl rfl (bX (cm (enc:=eI) (xs:=[1,100,1000,1000000,7]) rfl rfl rfl (.p rfl) dt (.p rfl) (fun _=>hm21)) (ai 7 (by kernel_rfl) (af rfl rfl rfl rfl (bX (cn (sz:=1) (p:=pI m21) (enc:=eI) (xs:=[1,100,1000,1000000,7]) (a:=(some ⟨b18,0,none⟩)) x20.1 0 m21 rfl (.p rfl) rfl dt (fun _=>hm21) rfl) (az 10 (by kernel_rfl) rfl rfl rfl rfl (ak rfl rfl rfl rfl rfl (.p rfl)) (ai 11 (by kernel_rfl) (aQ rfl rfl rfl (ag (vs:=[pI m21]) rfl rfl rfl rfl rfl (bx (bx bB)) (bf (bf cN)) (aT (by kernel_rfl) ?_)))))))))))))))
     exact fB () (kH rfl) (bq (aC aN) (bq (aC (aC aN)) (bq (aC aN) bZ))) trivial
    skip
    refine af rfl rfl rfl rfl (bg rfl rfl rfl rfl rfl (dI rfl (dI rfl (dI rfl (dI rfl (dI rfl eY))))) rfl rfl rfl rfl (fun b18=>ai 1 (by kernel_rfl) ?_))
    refine af rfl rfl rfl rfl (bi rfl rfl (ρ1:=[_]) (aX (by exact aC aN) (List.Perm.refl _)) (aA hx17) ?_);rintro _ _ ⟨rfl,rfl⟩
    refine az 2 (by kernel_rfl) rfl rfl rfl rfl (gM rfl (.p rfl) (.p rfl) rfl) (az 8 (by kernel_rfl) rfl rfl rfl rfl (ak rfl rfl rfl rfl rfl (.p rfl)) (ai 5 (by kernel_rfl) ?_))
    refine af rfl rfl rfl rfl (bi rfl rfl (ρ1:=[_]) (aX (by exact aN) (List.Perm.refl _)) (aA hx20) ?_);rintro _ _ ⟨rfl,rfl⟩
    refine bA 6 9 (by kernel_rfl) ?_ ?_
    ·skip
     refine af rfl rfl rfl rfl (bX (cm (enc:=eI) (xs:=[1,100,1000,1000000,7]) rfl rfl rfl (.p rfl) fR (.p rfl) (fun _=>hm21)) ?_)
     refine bA 7 9 (by kernel_rfl) ?_ ?_
     ·skip
      refine af rfl rfl rfl rfl (bX (cn (sz:=1) (p:=pI m21) (enc:=eI) (xs:=[1,100,1000,1000000,7]) (a:=(some ⟨b18,0,none⟩)) x20.1 0 m21 rfl (.p rfl) rfl fR (fun _=>hm21) rfl) (ai 9 (by kernel_rfl) (aQ rfl rfl rfl (ag (vs:=[pI (IntKind.i64.wrap (1+x17.1))]) rfl rfl rfl rfl rfl (bx (bx bB)) (bf cN) (az 10 (by kernel_rfl) rfl rfl rfl rfl (ak rfl rfl rfl rfl rfl (.p rfl)) (ai 11 (by kernel_rfl) (aQ rfl rfl rfl (ag (vs:=[pI m21]) rfl rfl rfl rfl rfl (bx (bx bB)) (bf (bf cN)) (aT (by kernel_rfl) ?_)))))))))
      exact fB () (kH rfl) (bq aN (bq (aC (aC aN)) (bq (aC aN) bZ))) trivial
     skip
     refine aQ rfl rfl rfl (ag (vs:=[pI (IntKind.i64.wrap (1+x17.1))]) rfl rfl rfl rfl rfl (bx (bx bB)) (bf cN) (ai 7 (by kernel_rfl) (af rfl rfl rfl rfl (bX (cn (sz:=1) (p:=pI m21) (enc:=eI) (xs:=[1,100,1000,1000000,7]) (a:=(some ⟨b18,0,none⟩)) x20.1 0 m21 rfl (.p rfl) rfl fR (fun _=>hm21) rfl) (az 10 (by kernel_rfl) rfl rfl rfl rfl (ak rfl rfl rfl rfl rfl (.p rfl)) (ai 11 (by kernel_rfl) (aQ rfl rfl rfl (ag (vs:=[pI m21]) rfl rfl rfl rfl rfl (bx (bx bB)) (bf (bf cN)) (aT (by kernel_rfl) ?_)))))))))
     exact fB () (kH rfl) (bq aN (bq (aC (aC aN)) (bq (aC aN) bZ))) trivial
    skip
    refine aQ rfl rfl rfl (ag (vs:=[pI (IntKind.i64.wrap (1+x17.1))]) rfl rfl rfl rfl rfl (bx (bx bB)) (bf cN) (ai 6 (by kernel_rfl) (af rfl rfl rfl rfl (bX (cm (enc:=eI) (xs:=[1,100,1000,1000000,7]) rfl rfl rfl (.p rfl) fR (.p rfl) (fun _=>hm21)) (ai 7 (by kernel_rfl) (af rfl rfl rfl rfl (bX (cn (sz:=1) (p:=pI m21) (enc:=eI) (xs:=[1,100,1000,1000000,7]) (a:=(some ⟨b18,0,none⟩)) x20.1 0 m21 rfl (.p rfl) rfl fR (fun _=>hm21) rfl) (az 10 (by kernel_rfl) rfl rfl rfl rfl (ak rfl rfl rfl rfl rfl (.p rfl)) (ai 11 (by kernel_rfl) (aQ rfl rfl rfl (ag (vs:=[pI m21]) rfl rfl rfl rfl rfl (bx (bx bB)) (bf (bf cN)) (aT (by kernel_rfl) ?_))))))))))))
    exact fB () (kH rfl) (bq aN (bq (aC (aC aN)) (bq (aC aN) bZ))) trivial
   rintro _ τ ρ1 hsub22 _;(try dsimp only at hsub22);dsimp only [aK]
   obtain rfl:=osi hq15
   exact am ((),(x20.2.L,x20.2.I,(IntKind.i64.wrap (1+x17.1)),m21)) (kH rfl) (PSub.trans kY hsub22) rfl
  refine ae ?_
  obtain rfl:=osi hq15
  exact am ((),(x10.2.L,x10.2.I,0,0)) (kH rfl) kY rfl
 rintro ⟨_,⟨l11,v12,v13,v14⟩⟩ τ hz;(try dsimp only at hz);subst q15;(try dsimp only at h);dsimp only [aK]
 refine gh (aa h fun x23 hx23 h=>cP 1 [(25,pP b0 0)] (by kernel_rfl) ?_)
 refine aF rfl (bi rfl rfl (ρ1:=[_]) (aX (by exact aN) (List.Perm.refl _)) (aA hx23) ?_);rintro _ _ ⟨rfl,rfl⟩
 refine aL [(27,pB (x23.1 == 1))] (by kernel_rfl) (ga h fun q28 hq28 h=>?_)
 refine av (Y:=Unit×((List Int)×Int×Bool×Int)) (fun (_,(l24,v25,v26,v27))=>[(0,pP b0 0),(2,pP b1 0),(3,pP b2 0)]) (fun (_,(l24,v25,v26,v27))=>[PRes.b b0 75 [pL eI l24,pI v25],PRes.b b1 66 [pI 0,pI 0,pI 0,pB false,pI 0,pB false,pI 0],PRes.b b2 66 [pI v6,pI v13,pI v14,pB v26,pI v27,pB false,pI 0]]) (fun (_,(l24,v25,v26,v27))=>q28=(l24,v25,v26,v27)) ?_ ?_
 ·skip
  refine kU rfl hq28 (fun hc29 hq28=>?_) fun hc29 hq28=>?_
  ·refine aa hq28 ?_;clear hq28;intro x30 hx30 hq28
   refine cP 1 [(28,pP b0 0)] (by kernel_rfl) ?_
   refine aF rfl (bi rfl rfl (ρ1:=[_]) (aX (by exact aN) (List.Perm.refl _)) (iQ hx30) ?_);rintro _ _ ⟨rfl,rfl⟩
   refine bE 1 [(30,pP b2 3)] (by kernel_rfl) (aH rfl rfl (ag (vs:=[pB true]) rfl rfl rfl rfl rfl (bx (bx bB)) (bf (bf (bf cN))) (bE 1 [(31,pP b2 4)] (by kernel_rfl) (aH rfl rfl (ag (vs:=[pI x30.1]) rfl rfl rfl rfl rfl (bx (bx bB)) (bf (bf (bf (bf cN)))) (ar ?_))))))
   obtain rfl:=osi hq28
   exact am ((),(x30.2.L,x30.2.I,true,x30.1)) (kH rfl) kY rfl
  refine ae ?_
  obtain rfl:=osi hq28
  exact am ((),(x23.2.L,x23.2.I,false,0)) (kH rfl) kY rfl
 rintro ⟨_,⟨l24,v25,v26,v27⟩⟩ τ hz;(try dsimp only at hz);subst q28;(try dsimp only at h);dsimp only [aK]
 refine gh (aa h fun x31 hx31 h=>cP 1 [(32,pP b0 0)] (by kernel_rfl) ?_)
 refine aF rfl (bi rfl rfl (ρ1:=[_]) (aX (by exact aN) (List.Perm.refl _)) (aA hx31) ?_);rintro _ _ ⟨rfl,rfl⟩
 refine aL [(34,pB (x31.1 == 1))] (by kernel_rfl) (ga h fun q36 hq36 h=>?_)
 refine av (Y:=Unit×((List Int)×Int×Bool×Int)) (fun (_,(l32,v33,v34,v35))=>[(2,pP b1 0),(3,pP b2 0)]) (fun (_,(l32,v33,v34,v35))=>[PRes.b b0 75 [pL eI l32,pI v33],PRes.b b1 66 [pI 0,pI 0,pI 0,pB false,pI 0,pB false,pI 0],PRes.b b2 66 [pI v6,pI v13,pI v14,pB v26,pI v27,pB v34,pI v35]]) (fun (_,(l32,v33,v34,v35))=>q36=(l32,v33,v34,v35)) ?_ ?_
 ·skip
  refine kU rfl hq36 (fun hc37 hq36=>?_) fun hc37 hq36=>?_
  ·refine ah ?_
   refine aa hq36 fun x38 hx38 hq36=>cP 1 [(35,pP b0 0)] (by kernel_rfl) ?_
   refine aF rfl (bi rfl rfl (ρ1:=[_]) (aX (by exact aN) (List.Perm.refl _)) (iQ hx38) ?_);rintro _ _ ⟨rfl,rfl⟩
   refine bE 2 [(37,pI (IntKind.i64.wrap (Int.tdiv x38.1 8))),(38,pP b2 5)] (by kernel_rfl) (aH rfl rfl (ag (vs:=[pB true]) rfl rfl rfl rfl rfl (bx (bx bB)) (bf (bf (bf (bf (bf cN))))) (bE 1 [(39,pP b2 6)] (by kernel_rfl) (aH rfl rfl (ag (vs:=[pI (IntKind.i64.wrap (Int.tdiv x38.1 8))]) rfl rfl rfl rfl rfl (bx (bx bB)) (bf (bf (bf (bf (bf (bf cN)))))) (ar (cw (aV [2] [40] [(41,pB v26)] (by kernel_rfl) (dW rfl hq36 (fun hc39 hq36=>?_) fun hc39 hq36=>?_)))))))))
   ·refine aj ?_
    refine cI 6 [2,2] [42,43,44,45] [(46,pI (ex (IntKind.i64.wrap (Int.tdiv x38.1 8)) v27)),(47,pP b2 6)] (by kernel_rfl) (aH rfl rfl (ag (vs:=[pI (ex (IntKind.i64.wrap (Int.tdiv x38.1 8)) v27)]) rfl rfl rfl rfl rfl (bx (bx bB)) (bf (bf (bf (bf (bf (bf cN)))))) (ar ?_)))
    obtain rfl:=osi hq36
    exact am ((),(x38.2.L,x38.2.I,true,(ex (IntKind.i64.wrap (Int.tdiv x38.1 8)) v27))) (eN rfl) kY rfl
   refine ae ?_
   obtain rfl:=osi hq36
   exact am ((),(x38.2.L,x38.2.I,true,(IntKind.i64.wrap (Int.tdiv x38.1 8)))) (eN rfl) kY rfl
  refine ae ?_
  obtain rfl:=osi hq36
  exact am ((),(x31.2.L,x31.2.I,false,0)) (eN rfl) kY rfl
 rintro ⟨_,⟨l32,v33,v34,v35⟩⟩ τ hz;(try dsimp only at hz);subst q36;(try dsimp only at h);dsimp only [aK]
 refine ah (aj (dY 1 [2] [(48,.agg [pI v6,pI v13,pI v14,pB v26,pI v27,pB v34,pI v35])] (by kernel_rfl) (aH rfl rfl (ag (vs:=[pI v6,pI v13,pI v14,pB v26,pI v27,pB v34,pI v35]) rfl rfl rfl rfl rfl (bx bB) Ez (ar (dC ?_))))))
 obtain rfl:=osi h
 exact aI (fM (cg rfl fR rfl)) cq ⟨rfl,rfl⟩
def gi (p0:Ze) (p1:Int):Option (ByteArray×Ze):=(aG p0 2).bind fun x1=>(bu (S:=(List Int)×(List Int)×Int) (T:=((List Int)×(List Int)×Int)) (fun (l5,l8,v9)=>cond (decide (((l5.length:Nat):Int)<p1)) ((aG (⟨l8,v9⟩:Ze) 3).bind fun x19=>(app 1 l5 [48,(IntKind.u8.wrap (IntKind.i64.wrap (49+x19.1)))]).bind fun l22=>some (.inl (l22,x19.2.L,x19.2.I))) (some (.inr (l5,l8,v9)))) FUEL ([57,(IntKind.u8.wrap (IntKind.i64.wrap (52+x1.1)))],x1.2.L,x1.2.I)).bind fun (l13,l14,v15)=>some ((strOfNums l13),(⟨l14,v15⟩:Ze))
theorem oP {p0:Ze} {p1:Int} {b0:Nat} {r:(ByteArray×Ze)}  (h:gi p0 p1=some r):PCall 34 [pP b0 0,pI p1] [PRes.b b0 75 [pL eI p0.L,pI p0.I]] (fun pv ρ'=>pv=pS r.1∧ρ'=[PRes.b b0 75 [pL eI r.2.L,pI r.2.I]]):=by
 unfold gi at h
 refine dZ Tryz.func34 rfl Tryz.ntmps34 Tryz.results34 rfl (bh [4] (by kernel_rfl) (dV h fun x1 hx1 h=>cP 1 [(6,pP b0 0)] (by kernel_rfl) ?_))
 refine aF rfl (bi rfl rfl (ρ1:=[_]) (aX (by exact aN) (List.Perm.refl _)) (aA hx1) ?_);rintro _ _ ⟨rfl,rfl⟩
 refine bO 2 [8] [(9,pY (IntKind.u8.wrap (IntKind.i64.wrap (52+x1.1))))] (by kernel_rfl) (aF rfl (bg rfl rfl rfl rfl rfl (dI rfl (dI rfl eY)) rfl rfl rfl rfl (fun b2=>aL [(5,pO (some ⟨b2,0,none⟩) 2 2)] (by kernel_rfl) (dV h fun q17 hq17 h=>?_))))
 refine av (Y:=(Option Addr×Nat)×((List Int)×(List Int)×Int)) (fun ((a11,c12),(l13,l14,v15))=>[(5,pO a11 l13.length c12)]) (fun ((a11,c12),(l13,l14,v15))=>[PRes.b b0 75 [pL eI l14,pI v15],PRes.row a11 l13.length c12 5 1 (List.map eB l13)]) (fun ((a11,c12),(l13,l14,v15))=>q17=(l13,l14,v15)) ?_ ?_
 ·refine aR ?_
  refine aZ (Y:=Option Addr×Nat) (S:=(List Int)×(List Int)×Int) _ hq17 (fun (a6,c7) (l5,l8,v9)=>[(0,pP b0 0),(1,pI p1),(5,pO a6 l5.length c7)]) (fun (a6,c7) (l5,l8,v9)=>[PRes.b b0 75 [pL eI l8,pI v9],PRes.row a6 l5.length c7 5 1 (List.map eB l5)]) ((some ⟨b2,0,none⟩),2) (kH rfl) (bq (aC aN) cq) ?_
  rintro ⟨a6,c7⟩ ⟨l5,l8,v9⟩ o τ hb16;(try dsimp only at hb16);dsimp only [aK]
  refine gh (bU [11,12,13] [(14,pB (decide (((l5.length:Nat):Int)<p1)))] (by kernel_rfl) rfl hb16 (fun hc18 hb16=>?_) fun hc18 hb16=>?_)
  ·refine ae ?_
   refine aW (aR (aa hb16 fun x19 hx19 hb16=>cP 2 [(15,pO a6 l5.length c7),(16,pP b0 0)] (by kernel_rfl) ?_))
   refine aF rfl (bi rfl rfl (ρ1:=[_]) (aX (by exact aN) (List.Perm.refl _)) (aA hx19) ?_);rintro _ _ ⟨rfl,rfl⟩
   refine bO 2 [18] [(19,pY (IntKind.u8.wrap (IntKind.i64.wrap (49+x19.1))))] (by kernel_rfl) (aF rfl (bg rfl rfl rfl rfl rfl (dI rfl (dI rfl eY)) rfl rfl rfl rfl (fun b20=>aa hb16 fun l22 hl22 hb16=>?_)))
   refine aF rfl (bd (enc:=eB) rfl rfl rfl rfl rfl rfl rfl rfl rfl dt (by exact aC (aC aN)) hl22 (fun a23 c24=>?_))
   refine aL [(5,pO a23 l22.length c24)] (by kernel_rfl) (aq ?_)
   exact bt hb16 (a23,c24) (kH rfl) (bq (aC (aC aN)) cq)
  refine bc ?_
  refine aP (aJ hb16 (fun ht=>aM rfl ?_))
  exact am ((a6,c7),(l5,l8,v9)) (nG rfl) sM ht.symm
 rintro ⟨⟨a11,c12⟩,⟨l13,l14,v15⟩⟩ τ hz;(try dsimp only at hz);subst q17;(try dsimp only at h);dsimp only [aK]
 refine ah (cP 1 [(22,pO a11 l13.length c12)] (by kernel_rfl) (aF rfl (C3 rfl rfl rfl rfl rfl (xs:=l13) fR rfl (aL [(4,pS (strOfNums l13))] (by kernel_rfl) (dC ?_)))))
 obtain rfl:=osi h
 exact aI (fM (aD rfl)) cq ⟨rfl,rfl⟩
def dJ  : Option (List ByteArray):=some [(⟨#[65,65]⟩:ByteArray),(⟨#[66,66]⟩:ByteArray),(⟨#[67,67]⟩:ByteArray),(⟨#[68,68]⟩:ByteArray),(⟨#[69,69]⟩:ByteArray),(⟨#[70,70]⟩:ByteArray)]
theorem ie  {r:(List ByteArray)}  (h:dJ  = some r):PF 35 [] (pL eS r):=by
 unfold dJ at h
 refine bo ?_
 refine dZ Tryz.func35 rfl Tryz.ntmps35 Tryz.results35 rfl (bh [0] (by kernel_rfl) (cw (dj rfl (bg rfl rfl rfl rfl rfl (dI rfl (dI rfl (dI rfl (dI rfl (dI rfl (dI rfl eY)))))) rfl rfl rfl rfl (fun b1=>aL [(0,pO (some ⟨b1,0,none⟩) 6 6)] (by kernel_rfl) (aW ?_))))))
 refine ij (enc:=eS) (xs:=[(⟨#[65,65]⟩:ByteArray),(⟨#[66,66]⟩:ByteArray),(⟨#[67,67]⟩:ByteArray),(⟨#[68,68]⟩:ByteArray),(⟨#[69,69]⟩:ByteArray),(⟨#[70,70]⟩:ByteArray)]) 0 rfl (by exact aN) ?_
 refine cd ?_
 exact zz r h rfl
def fU (p0:(List Int)):Option (List Zb):=(lK p0 300).bind fun x1=>(aG (⟨x1,0⟩:Ze) 8).bind fun x3=>Option.bind (cond (decide (0<x3.1)) ((dE x3.2).bind fun x12=>(dE x12.2).bind fun x13=>(app 144 ([]:List Zb) [(⟨1,1,(⟨#[57,52]⟩:ByteArray),[],0,0,36525,(-1),x12.1⟩:Zb),(⟨2,1,(⟨#[57,53]⟩:ByteArray),[],0,0,25,(-1),x13.1⟩:Zb)]).bind fun l17=>some (l17,x13.2.L,x13.2.I)) (some (([]:(List Zb)),x3.2.L,x3.2.I))) (fun (l7,l8,v9)=>(aG (⟨l8,v9⟩:Ze) 13).bind fun x21=>(bu (S:=(List Zb)×Int×(List Int)×Int) (T:=((List Zb))) (fun (l23,v26,l27,v28)=>cond (decide (v26<x21.1)) ((aG (⟨l27,v28⟩:Ze) 6).bind fun x36=>(aG x36.2 4).bind fun x37=>(gi x37.2 (IntKind.i64.wrap (2+(IntKind.i64.wrap (2*x37.1))))).bind fun x38=>(aG x38.2 20).bind fun x39=>(dE x39.2).bind fun x40=>(aG x40.2 30).bind fun x42=>(aG x42.2 3).bind fun x43=>Option.bind (cond (x43.1 == 1) ((aG x43.2 (IntKind.i64.wrap (x39.1+1))).bind fun x50=>some (x50.2.L,x50.2.I,x50.1)) (some (x43.2.L,x43.2.I,(-1)))) (fun (l45,v46,v47)=>(aG (⟨l45,v46⟩:Ze) 3).bind fun x51=>Option.bind (cond (x51.1 == 1) ((aG x51.2 2).bind fun x58=>some (x58.2.L,x58.2.I,(IntKind.i64.wrap (1+x58.1)))) (some (x51.2.L,x51.2.I,0))) (fun (l53,v54,v55)=>(aG (⟨l53,v54⟩:Ze) 16).bind fun x59=>(bu (S:=Int×(List ByteArray)) (T:=((List ByteArray))) (fun (v60,l62)=>cond ((decide (v60<3))&&(decide (7<x59.1))) (((oO v60).bind fun u80=>cond ((ez .i64 (cV .i64 x59.1 v60) 1) == 1) ((dJ).bind fun x82=>(idx x82 v60).bind fun m83=>(app 16 l62 [m83]).bind fun l86=>some l86) (some l62)).bind fun l78=>some (.inl ((IntKind.i64.wrap (v60+1)),l78))) (some (.inr l62))) FUEL (0,([]:List ByteArray))).bind fun l69=>(app 144 l23 [(⟨(IntKind.i64.wrap (3+(IntKind.i64.wrap (2*v26)))),(IntKind.i64.wrap (1+x36.1)),x38.1,l69,v55,x39.1,(IntKind.i64.wrap ((IntKind.i64.wrap (x39.1+1))+x42.1)),v47,x40.1⟩:Zb)]).bind fun l93=>some (.inl (l93,(IntKind.i64.wrap (v26+1)),x59.2.L,x59.2.I))))) (some (.inr l23))) FUEL (l7,0,x21.2.L,x21.2.I)).bind fun l32=>some l32)
theorem rm {p0:(List Int)} {r:(List Zb)}  (h:fU p0=some r):PF 8 [pL eI p0] (pL Zb.enc r):=by
 unfold fU at h
 refine bo ?_
 refine dZ Tryz.func8 rfl Tryz.ntmps8 Tryz.results8 rfl (bh [2] (by kernel_rfl) (dV h fun x1 hx1 h=>aj (bp 3 [] [10,11] [(12,.agg [pL eI x1,pI 0])] (bw 1 (r7 hx1) bL) (by kernel_rfl) (aF rfl (bC (cs:=[pL eI x1,pI 0]) rfl rfl (fun b2=>aL [(3,pP b2 0)] (by kernel_rfl) (cw (ap [(4,pN)] (by kernel_rfl) (cQ (aa h fun x3 hx3 h=>cP 1 [(14,pP b2 0)] (by kernel_rfl) ?_))))))))))
 refine aF rfl (bi rfl rfl (ρ1:=[_]) (aX (by exact aN) (List.Perm.refl _)) (aA hx3) ?_);rintro _ _ ⟨rfl,rfl⟩
 refine aL [(16,pB (decide (0<x3.1)))] (by kernel_rfl) (ga h fun q10 hq10 h=>?_)
 refine av (Y:=(Option Addr×Nat)×((List Zb)×(List Int)×Int)) (fun ((a5,c6),(l7,l8,v9))=>[(3,pP b2 0),(4,pO a5 l7.length c6)]) (fun ((a5,c6),(l7,l8,v9))=>[PRes.b b2 75 [pL eI l8,pI v9],PRes.row a5 l7.length c6 68 15 (List.map Zb.enc l7)]) (fun ((a5,c6),(l7,l8,v9))=>q10=(l7,l8,v9)) ?_ ?_
 ·skip
  refine kU rfl hq10 (fun hc11 hq10=>?_) fun hc11 hq10=>?_
  ·refine aa hq10 ?_;clear hq10;intro x12 hx12 hq10
   refine cP 2 [(17,pN),(18,pP b2 0)] (by kernel_rfl) ?_
   refine aF rfl (bi rfl rfl (ρ1:=[_]) (aX (by exact aN) (List.Perm.refl _)) (iR hx12) ?_);rintro _ _ ⟨rfl,rfl⟩
   refine aa hq10 fun x13 hx13 hq10=>bE 2 [(20,.agg [pI 1,pI 1,pS (⟨#[57,52]⟩:ByteArray),pN,pI 0,pI 0,pI 36525,pI (-1),pI x12.1.Rate,pI x12.1.Amount,pI x12.1.Per,pB x12.1.HasMost,pI x12.1.Most,pB x12.1.HasLeast,pI x12.1.Least]),(21,pP b2 0)] (by kernel_rfl) ?_
   refine aF rfl (bi rfl rfl (ρ1:=[_]) (aX (by exact aN) (List.Perm.refl _)) (iR hx13) ?_);rintro _ _ ⟨rfl,rfl⟩
   refine bE 1 [(23,.agg [pI 2,pI 1,pS (⟨#[57,53]⟩:ByteArray),pN,pI 0,pI 0,pI 25,pI (-1),pI x13.1.Rate,pI x13.1.Amount,pI x13.1.Per,pB x13.1.HasMost,pI x13.1.Most,pB x13.1.HasLeast,pI x13.1.Least])] (by kernel_rfl) (im 20 3 rfl rfl (im 23 3 rfl rfl (aF rfl (bg rfl rfl rfl rfl rfl (dI rfl (dI rfl eY)) rfl rfl rfl rfl (fun b14=>tE 68 15 (aa hq10 fun l17 hl17 hq10=>?_))))))
   refine aF rfl (bd (enc:=Zb.enc) rfl rfl rfl rfl rfl rfl rfl rfl rfl fR (by exact aN) hl17 (fun a18 c19=>?_))
   refine aL [(4,pO a18 l17.length c19)] (by kernel_rfl) ?_
   obtain rfl:=osi hq10
   exact am ((a18,c19),(l17,x13.2.L,x13.2.I)) (eN rfl) (bq (aC (aC aN)) cq) rfl
  refine ae ?_
  refine jg (tJ 68 15) ?_
  obtain rfl:=osi hq10
  exact am ((none,0),(([]:(List Zb)),x3.2.L,x3.2.I)) (eN rfl) (bq (aC aN) cq) rfl
 rintro ⟨⟨a5,c6⟩,⟨l7,l8,v9⟩⟩ τ hz;(try dsimp only at hz);subst q10;(try dsimp only at h);dsimp only [aK]
 refine gh (aa h fun x21 hx21 h=>cP 1 [(26,pP b2 0)] (by kernel_rfl) ?_)
 refine aF rfl (bi rfl rfl (ρ1:=[_]) (aX (by exact aN) (List.Perm.refl _)) (aA hx21) ?_);rintro _ _ ⟨rfl,rfl⟩
 refine aL [(5,pI 0),(6,pI x21.1)] (by kernel_rfl) (ga h fun q34 hq34 h=>?_)
 refine av (Y:=(Option Addr×Nat)×((List Zb))) (fun ((a30,c31),l32)=>[(4,pO a30 l32.length c31)]) (fun ((a30,c31),l32)=>[PRes.row a30 l32.length c31 68 15 (List.map Zb.enc l32)]) (fun ((a30,c31),l32)=>q34=l32) ?_ ?_
 ·refine aR ?_
  refine aZ (Y:=Option Addr×Nat) (S:=(List Zb)×Int×(List Int)×Int) _ hq34 (fun (a24,c25) (l23,v26,l27,v28)=>[(3,pP b2 0),(4,pO a24 l23.length c25),(5,pI v26),(6,pI x21.1)]) (fun (a24,c25) (l23,v26,l27,v28)=>[PRes.b b2 75 [pL eI l27,pI v28],PRes.row a24 l23.length c25 68 15 (List.map Zb.enc l23)]) (a5,c6) (iP rfl) sM ?_
  rintro ⟨a24,c25⟩ ⟨l23,v26,l27,v28⟩ o τ hb33;(try dsimp only at hb33);dsimp only [aK]
  refine gh (bU [28,29] [(30,pB (decide (v26<x21.1)))] (by kernel_rfl) rfl hb33 (fun hc35 hb33=>?_) fun hc35 hb33=>?_)
  ·refine ae ?_
   refine cw (jX (aa hb33 fun x36 hx36 hb33=>aj (bO 4 [33,34] [(35,pI (IntKind.i64.wrap (3+(IntKind.i64.wrap (2*v26))))),(36,pP b2 0)] (by kernel_rfl) ?_)))
   refine aF rfl (bi rfl rfl (ρ1:=[_]) (aX (by exact aN) (List.Perm.refl _)) (aA hx36) ?_);rintro _ _ ⟨rfl,rfl⟩
   refine aa hb33 fun x37 hx37 hb33=>bE 3 [(38,pI (IntKind.i64.wrap (1+x36.1))),(39,pP b2 0),(40,pP b2 0)] (by kernel_rfl) ?_
   refine aF rfl (bi rfl rfl (ρ1:=[_]) (aX (by exact aN) (List.Perm.refl _)) (aA hx37) ?_);rintro _ _ ⟨rfl,rfl⟩
   refine aa hb33 fun x38 hx38 hb33=>bO 2 [42] [(43,pI (IntKind.i64.wrap (2+(IntKind.i64.wrap (2*x37.1)))))] (by kernel_rfl) ?_
   refine aF rfl (bi rfl rfl (ρ1:=[_]) (aX (by exact aN) (List.Perm.refl _)) (oP hx38) ?_);rintro _ _ ⟨rfl,rfl⟩
   refine aa hb33 fun x39 hx39 hb33=>bE 1 [(45,pP b2 0)] (by kernel_rfl) ?_
   refine aF rfl (bi rfl rfl (ρ1:=[_]) (aX (by exact aN) (List.Perm.refl _)) (aA hx39) ?_);rintro _ _ ⟨rfl,rfl⟩
   refine aa hb33 fun x40 hx40 hb33=>bE 1 [(47,pP b2 0)] (by kernel_rfl) ?_
   refine aF rfl (bi rfl rfl (ρ1:=[_]) (aX (by exact aN) (List.Perm.refl _)) (iR hx40) ?_);rintro _ _ ⟨rfl,rfl⟩
   refine bE 1 [(49,.agg [pI (IntKind.i64.wrap (3+(IntKind.i64.wrap (2*v26)))),pI (IntKind.i64.wrap (1+x36.1)),pS x38.1,pN,pI 0,pI x39.1,pI 0,pI (-1),pI x40.1.Rate,pI x40.1.Amount,pI x40.1.Per,pB x40.1.HasMost,pI x40.1.Most,pB x40.1.HasLeast,pI x40.1.Least])] (by kernel_rfl) (aF rfl (aY (cs:=[pI 0,pI 0,pS ByteArray.empty,pN,pI 0,pI 0,pI 0,pI 0,pI 0,pI 0,pI 0,pB false,pI 0,pB false,pI 0]) rfl rfl rfl rfl (fun b41=>aH rfl rfl (ag (vs:=[pI (IntKind.i64.wrap (3+(IntKind.i64.wrap (2*v26)))),pI (IntKind.i64.wrap (1+x36.1)),pS x38.1,pN,pI 0,pI x39.1,pI 0,pI (-1),pI x40.1.Rate,pI x40.1.Amount,pI x40.1.Per,pB x40.1.HasMost,pI x40.1.Most,pB x40.1.HasLeast,pI x40.1.Least]) rfl rfl rfl rfl rfl bB (eH (eH (eH (eH (eH (eH C6)))))) (ar (dV hb33 fun x42 hx42 hb33=>?_))))))
   refine av (Y:=Unit) (fun _=>[(3,pP b2 0),(4,pO a24 l23.length c25),(5,pI v26),(6,pI x21.1),(7,pP b41 0)]) (fun _=>[PRes.b b2 75 [pL eI x42.2.L,pI x42.2.I],PRes.b b41 68 [pI (IntKind.i64.wrap (3+(IntKind.i64.wrap (2*v26)))),pI (IntKind.i64.wrap (1+x36.1)),pS x38.1,pN,pI 0,pI x39.1,pI (IntKind.i64.wrap ((IntKind.i64.wrap (x39.1+1))+x42.1)),pI (-1),pI x40.1.Rate,pI x40.1.Amount,pI x40.1.Per,pB x40.1.HasMost,pI x40.1.Most,pB x40.1.HasLeast,pI x40.1.Least],PRes.row a24 l23.length c25 68 15 (List.map Zb.enc l23)]) (fun _=>True) ?_ ?_
   ·refine hU (ρd:=[PRes.b b2 _ _,PRes.b b41 _ _]) _ (aX (aC aN) (List.Perm.refl _)) ?_
    refine az 0 (by kernel_rfl) rfl rfl rfl rfl (ak rfl rfl rfl rfl rfl (.p rfl)) (az 3 (by kernel_rfl) rfl rfl rfl rfl (cM (p:=pP b2 0) rfl (.p rfl)) ?_)
    refine bA 1 4 (by kernel_rfl) ?_ ?_
    ·skip
     refine af rfl rfl rfl rfl (bX (aw (p:=pI x39.1) rfl (.p rfl) fR rfl) (az 2 (by kernel_rfl) rfl rfl rfl rfl (gM rfl (.p rfl) (.p rfl) rfl) (ai 4 (by kernel_rfl) ?_)))
     refine af rfl rfl rfl rfl (bi rfl rfl (ρ1:=[_]) (aX (by exact aN) (List.Perm.refl _)) (aA hx42) ?_);rintro _ _ ⟨rfl,rfl⟩
     refine az 5 (by kernel_rfl) rfl rfl rfl rfl (gM rfl (.p rfl) (.p rfl) rfl) (az 6 (by kernel_rfl) rfl rfl rfl rfl (ak rfl rfl rfl rfl rfl (.p rfl)) (ai 7 (by kernel_rfl) (aQ rfl rfl rfl (ag (vs:=[pI (IntKind.i64.wrap ((IntKind.i64.wrap (x39.1+1))+x42.1))]) rfl rfl rfl rfl rfl (bx bB) (bf (bf (bf (bf (bf (bf cN)))))) (aT (by kernel_rfl) ?_)))))
     exact am () (mv rfl) kY trivial
    skip
    refine af rfl rfl rfl rfl (bi rfl rfl (ρ1:=[_]) (aX (by exact aN) (List.Perm.refl _)) (aA hx42) ?_);rintro _ _ ⟨rfl,rfl⟩
    refine ai 1 (by kernel_rfl) (af rfl rfl rfl rfl (bX (aw (p:=pI x39.1) rfl (.p rfl) fR rfl) (az 2 (by kernel_rfl) rfl rfl rfl rfl (gM rfl (.p rfl) (.p rfl) rfl) (az 5 (by kernel_rfl) rfl rfl rfl rfl (gM rfl (.p rfl) (.p rfl) rfl) (az 6 (by kernel_rfl) rfl rfl rfl rfl (ak rfl rfl rfl rfl rfl (.p rfl)) (ai 7 (by kernel_rfl) (aQ rfl rfl rfl (ag (vs:=[pI (IntKind.i64.wrap ((IntKind.i64.wrap (x39.1+1))+x42.1))]) rfl rfl rfl rfl rfl (bx bB) (bf (bf (bf (bf (bf (bf cN)))))) (aT (by kernel_rfl) ?_)))))))))
    exact am () (mv rfl) kY trivial
   rintro _ τ _;dsimp only [aK]
   refine gh (aa hb33 fun x43 hx43 hb33=>cP 1 [(57,pP b2 0)] (by kernel_rfl) ?_)
   refine aF rfl (bi rfl rfl (ρ1:=[_]) (aX (by exact aN) (List.Perm.refl _)) (aA hx43) ?_);rintro _ _ ⟨rfl,rfl⟩
   refine aL [(59,pB (x43.1 == 1))] (by kernel_rfl) (ga hb33 fun q48 hq48 hb33=>?_)
   refine av (Y:=Unit×((List Int)×Int×Int)) (fun (_,(l45,v46,v47))=>[(3,pP b2 0),(4,pO a24 l23.length c25),(5,pI v26),(6,pI x21.1),(7,pP b41 0)]) (fun (_,(l45,v46,v47))=>[PRes.b b2 75 [pL eI l45,pI v46],PRes.b b41 68 [pI (IntKind.i64.wrap (3+(IntKind.i64.wrap (2*v26)))),pI (IntKind.i64.wrap (1+x36.1)),pS x38.1,pN,pI 0,pI x39.1,pI (IntKind.i64.wrap ((IntKind.i64.wrap (x39.1+1))+x42.1)),pI v47,pI x40.1.Rate,pI x40.1.Amount,pI x40.1.Per,pB x40.1.HasMost,pI x40.1.Most,pB x40.1.HasLeast,pI x40.1.Least],PRes.row a24 l23.length c25 68 15 (List.map Zb.enc l23)]) (fun (_,(l45,v46,v47))=>q48=(l45,v46,v47)) ?_ ?_
   ·skip
    refine kU rfl hq48 (fun hc49 hq48=>?_) fun hc49 hq48=>?_
    ·refine aa hq48 ?_;clear hq48;intro x50 hx50 hq48
     refine aj (cI 4 [1] [61,62] [(60,pP b2 0),(63,pI (IntKind.i64.wrap (x39.1+1)))] (by kernel_rfl) ?_)
     refine aF rfl (bi rfl rfl (ρ1:=[_]) (aX (by exact aN) (List.Perm.refl _)) (aA hx50) ?_);rintro _ _ ⟨rfl,rfl⟩
     refine bE 1 [(65,pP b41 7)] (by kernel_rfl) (aH rfl rfl (ag (vs:=[pI x50.1]) rfl rfl rfl rfl rfl (bx bB) (bf (bf (bf (bf (bf (bf (bf cN))))))) (ar ?_)))
     obtain rfl:=osi hq48
     exact am ((),(x50.2.L,x50.2.I,x50.1)) (mv rfl) kY rfl
    refine ae ?_
    obtain rfl:=osi hq48
    exact am ((),(x43.2.L,x43.2.I,(-1))) (mv rfl) kY rfl
   rintro ⟨_,⟨l45,v46,v47⟩⟩ τ hz;(try dsimp only at hz);subst q48;(try dsimp only at hb33);dsimp only [aK]
   refine gh (aa hb33 fun x51 hx51 hb33=>cP 1 [(66,pP b2 0)] (by kernel_rfl) ?_)
   refine aF rfl (bi rfl rfl (ρ1:=[_]) (aX (by exact aN) (List.Perm.refl _)) (aA hx51) ?_);rintro _ _ ⟨rfl,rfl⟩
   refine aL [(68,pB (x51.1 == 1))] (by kernel_rfl) (ga hb33 fun q56 hq56 hb33=>?_)
   refine av (Y:=Unit×((List Int)×Int×Int)) (fun (_,(l53,v54,v55))=>[(3,pP b2 0),(4,pO a24 l23.length c25),(5,pI v26),(6,pI x21.1),(7,pP b41 0)]) (fun (_,(l53,v54,v55))=>[PRes.b b2 75 [pL eI l53,pI v54],PRes.b b41 68 [pI (IntKind.i64.wrap (3+(IntKind.i64.wrap (2*v26)))),pI (IntKind.i64.wrap (1+x36.1)),pS x38.1,pN,pI v55,pI x39.1,pI (IntKind.i64.wrap ((IntKind.i64.wrap (x39.1+1))+x42.1)),pI v47,pI x40.1.Rate,pI x40.1.Amount,pI x40.1.Per,pB x40.1.HasMost,pI x40.1.Most,pB x40.1.HasLeast,pI x40.1.Least],PRes.row a24 l23.length c25 68 15 (List.map Zb.enc l23)]) (fun (_,(l53,v54,v55))=>q56=(l53,v54,v55)) ?_ ?_
   ·skip
    refine kU rfl hq56 (fun hc57 hq56=>?_) fun hc57 hq56=>?_
    ·refine aa hq56 ?_;clear hq56;intro x58 hx58 hq56
     refine cP 1 [(69,pP b2 0)] (by kernel_rfl) ?_
     refine aF rfl (bi rfl rfl (ρ1:=[_]) (aX (by exact aN) (List.Perm.refl _)) (aA hx58) ?_);rintro _ _ ⟨rfl,rfl⟩
     refine bE 2 [(71,pI (IntKind.i64.wrap (1+x58.1))),(72,pP b41 4)] (by kernel_rfl) (aH rfl rfl (ag (vs:=[pI (IntKind.i64.wrap (1+x58.1))]) rfl rfl rfl rfl rfl (bx bB) (bf (bf (bf (bf cN)))) (ar ?_)))
     obtain rfl:=osi hq56
     exact am ((),(x58.2.L,x58.2.I,(IntKind.i64.wrap (1+x58.1)))) (mv rfl) kY rfl
    refine ae ?_
    obtain rfl:=osi hq56
    exact am ((),(x51.2.L,x51.2.I,0)) (mv rfl) kY rfl
   rintro ⟨_,⟨l53,v54,v55⟩⟩ τ hz;(try dsimp only at hz);subst q56;(try dsimp only at hb33);dsimp only [aK]
   refine ah (aa hb33 fun x59 hx59 hb33=>cP 1 [(73,pP b2 0)] (by kernel_rfl) ?_)
   refine aF rfl (bi rfl rfl (ρ1:=[_]) (aX (by exact aN) (List.Perm.refl _)) (aA hx59) ?_);rintro _ _ ⟨rfl,rfl⟩
   refine aL [(8,pI x59.1)] (by kernel_rfl) (cQ (ap [(9,pI 0)] (by kernel_rfl) (aW (fj 9 1 (aa hb33 fun q71 hq71 hb33=>?_)))))
   refine av (Y:=(Option Addr×Nat)×((List ByteArray))) (fun ((a67,c68),l69)=>[(3,pP b2 0),(4,pO a24 l23.length c25),(5,pI v26),(6,pI x21.1),(7,pP b41 0)]) (fun ((a67,c68),l69)=>[PRes.b b2 75 [pL eI x59.2.L,pI x59.2.I],PRes.b b41 68 [pI (IntKind.i64.wrap (3+(IntKind.i64.wrap (2*v26)))),pI (IntKind.i64.wrap (1+x36.1)),pS x38.1,pO a67 l69.length c68,pI v55,pI x39.1,pI (IntKind.i64.wrap ((IntKind.i64.wrap (x39.1+1))+x42.1)),pI v47,pI x40.1.Rate,pI x40.1.Amount,pI x40.1.Per,pB x40.1.HasMost,pI x40.1.Most,pB x40.1.HasLeast,pI x40.1.Least],PRes.row a24 l23.length c25 68 15 (List.map Zb.enc l23),PRes.row a67 l69.length c68 9 1 (List.map eS l69)]) (fun ((a67,c68),l69)=>q71=l69) ?_ ?_
   ·refine aR ?_
    refine aZ (Y:=Option Addr×Nat) (S:=Int×(List ByteArray)) _ hq71 (fun (a63,c64) (v60,l62)=>[(3,pP b2 0),(4,pO a24 l23.length c25),(5,pI v26),(6,pI x21.1),(7,pP b41 0),(8,pI x59.1),(9,pI v60)]) (fun (a63,c64) (v60,l62)=>[PRes.b b2 75 [pL eI x59.2.L,pI x59.2.I],PRes.b b41 68 [pI (IntKind.i64.wrap (3+(IntKind.i64.wrap (2*v26)))),pI (IntKind.i64.wrap (1+x36.1)),pS x38.1,pO a63 l62.length c64,pI v55,pI x39.1,pI (IntKind.i64.wrap ((IntKind.i64.wrap (x39.1+1))+x42.1)),pI v47,pI x40.1.Rate,pI x40.1.Amount,pI x40.1.Per,pB x40.1.HasMost,pI x40.1.Most,pB x40.1.HasLeast,pI x40.1.Least],PRes.row a24 l23.length c25 68 15 (List.map Zb.enc l23),PRes.row a63 l62.length c64 9 1 (List.map eS l62)]) (none,0) (tM rfl) (bq (aC aN) (bq (aC aN) (bq (aC aN) cq))) ?_
    rintro ⟨a63,c64⟩ ⟨v60,l62⟩ o τ hb70;(try dsimp only at hb70);dsimp only [aK]
    refine gh (bU (rg 75 5) [(80,pB ((decide (v60<3))&&(decide (7<x59.1))))] (by kernel_rfl) rfl hb70 (fun hc73 hb70=>?_) fun hc73 hb70=>?_)
    ·refine ae ?_
     refine dV hb70 fun q79 hq79 hb70=>?_
     refine av (Y:=(Option Addr×Nat)×((List ByteArray))) (fun ((a76,c77),l78)=>[(3,pP b2 0),(4,pO a24 l23.length c25),(5,pI v26),(6,pI x21.1),(7,pP b41 0),(8,pI x59.1),(9,pI v60)]) (fun ((a76,c77),l78)=>[PRes.b b2 75 [pL eI x59.2.L,pI x59.2.I],PRes.b b41 68 [pI (IntKind.i64.wrap (3+(IntKind.i64.wrap (2*v26)))),pI (IntKind.i64.wrap (1+x36.1)),pS x38.1,pO a76 l78.length c77,pI v55,pI x39.1,pI (IntKind.i64.wrap ((IntKind.i64.wrap (x39.1+1))+x42.1)),pI v47,pI x40.1.Rate,pI x40.1.Amount,pI x40.1.Per,pB x40.1.HasMost,pI x40.1.Most,pB x40.1.HasLeast,pI x40.1.Least],PRes.row a24 l23.length c25 68 15 (List.map Zb.enc l23),PRes.row a76 l78.length c77 9 1 (List.map eS l78)]) (fun ((a76,c77),l78)=>q79=l78) ?_ ?_
     ·skip
      refine jX (aa hq79 fun u80 hu80 hq79=>aB [] [83,84,85,86] [(87,pB ((ez .i64 (cV .i64 x59.1 v60) 1) == 1))] (wG 2 hu80 bL) (by kernel_rfl) (dW rfl hq79 (fun hc81 hq79=>?_) fun hc81 hq79=>?_))
      ·refine aa hq79 ?_;clear hq79;intro x82 hx82 hq79
       refine aa hq79 fun m83 hm83 hq79=>aa hq79 fun l86 hl86 hq79=>?_
       refine kG (Y:=Option Addr×Nat) (fun (a87,c88)=>[(3,pP b2 0),(4,pO a24 l23.length c25),(5,pI v26),(6,pI x21.1),(7,pP b41 0),(8,pI x59.1),(9,pI v60)]) (fun (a87,c88)=>[PRes.b b2 75 [pL eI x59.2.L,pI x59.2.I],PRes.b b41 68 [pI (IntKind.i64.wrap (3+(IntKind.i64.wrap (2*v26)))),pI (IntKind.i64.wrap (1+x36.1)),pS x38.1,pO a87 l86.length c88,pI v55,pI x39.1,pI (IntKind.i64.wrap ((IntKind.i64.wrap (x39.1+1))+x42.1)),pI v47,pI x40.1.Rate,pI x40.1.Amount,pI x40.1.Per,pB x40.1.HasMost,pI x40.1.Most,pB x40.1.HasLeast,pI x40.1.Least],PRes.row a24 l23.length c25 68 15 (List.map Zb.enc l23),PRes.row a87 l86.length c88 9 1 (List.map eS l86)]) (fun _=>True) ?_ ?_
       ·refine hU (ρd:=[PRes.row a63 _ _ _ _ _,PRes.b b41 _ _]) _ (aX (aC (aC (aC aN))) (aX (aC aN) (List.Perm.refl _))) ?_
        refine az 0 (by kernel_rfl) rfl rfl rfl rfl (ak rfl rfl rfl rfl rfl (.p rfl)) (az 3 (by kernel_rfl) rfl rfl rfl rfl (cM (p:=pI v60) rfl (.p rfl)) ?_)
        refine bA 1 2 (by kernel_rfl) ?_ ?_
        ·skip
         refine af rfl rfl rfl rfl (bX (aw (p:=pO a63 l62.length c64) rfl (.p rfl) fR rfl) (ai 2 (by kernel_rfl) (dg rfl rfl rfl rfl rfl rfl (ie hx82) (az 4 (by kernel_rfl) rfl rfl rfl rfl (il (enc:=eS) rfl rfl rfl (fun _=>rfl) (.p rfl) (.p rfl) (fun _=>hm83)) (az 5 (by kernel_rfl) rfl rfl rfl rfl (fF (p:=pS m83) rfl (.p rfl) rfl) (ai 6 (by kernel_rfl) (af rfl rfl rfl rfl (bg rfl rfl rfl rfl rfl (dI rfl eY) rfl rfl rfl rfl (fun b84=>ai 7 (by kernel_rfl) ?_)))))))))
         refine af rfl rfl rfl rfl (bd (enc:=eS) rfl rfl rfl rfl rfl rfl rfl rfl rfl dt (by exact aC aN) hl86 (fun a87 c88=>?_))
         refine az 8 (by kernel_rfl) rfl rfl rfl rfl (ak rfl rfl rfl rfl rfl (.p rfl)) (ai 9 (by kernel_rfl) (aQ rfl rfl rfl (ag (vs:=[pO a87 l86.length c88]) rfl rfl rfl rfl rfl (bx (bx bB)) (bf (bf (bf cN))) (aT (by kernel_rfl) ?_))))
         exact fB (a87,c88) (tM rfl) (bq (aC (aC (aC aN))) (bq (aC (aC aN)) (bq (aC (aC aN)) cq))) trivial
        skip
        refine dg rfl rfl rfl rfl rfl rfl (ie hx82) (az 4 (by kernel_rfl) rfl rfl rfl rfl (il (enc:=eS) rfl rfl rfl (fun _=>rfl) (.p rfl) (.p rfl) (fun _=>hm83)) (az 5 (by kernel_rfl) rfl rfl rfl rfl (fF (p:=pS m83) rfl (.p rfl) rfl) ?_))
        refine bA 1 6 (by kernel_rfl) ?_ ?_
        ·skip
         refine af rfl rfl rfl rfl (bX (aw (p:=pO a63 l62.length c64) rfl (.p rfl) fR rfl) (ai 6 (by kernel_rfl) (af rfl rfl rfl rfl (bg rfl rfl rfl rfl rfl (dI rfl eY) rfl rfl rfl rfl (fun b84=>ai 7 (by kernel_rfl) ?_)))))
         refine af rfl rfl rfl rfl (bd (enc:=eS) rfl rfl rfl rfl rfl rfl rfl rfl rfl dt (by exact aC aN) hl86 (fun a87 c88=>?_))
         refine az 8 (by kernel_rfl) rfl rfl rfl rfl (ak rfl rfl rfl rfl rfl (.p rfl)) (ai 9 (by kernel_rfl) (aQ rfl rfl rfl (ag (vs:=[pO a87 l86.length c88]) rfl rfl rfl rfl rfl (bx (bx bB)) (bf (bf (bf cN))) (aT (by kernel_rfl) ?_))))
         exact fB (a87,c88) (tM rfl) (bq (aC (aC (aC aN))) (bq (aC (aC aN)) (bq (aC (aC aN)) cq))) trivial
        skip
        refine af rfl rfl rfl rfl (bg rfl rfl rfl rfl rfl (dI rfl eY) rfl rfl rfl rfl (fun b84=>ai 1 (by kernel_rfl) (af rfl rfl rfl rfl (bX (aw (p:=pO a63 l62.length c64) rfl (.p rfl) kb rfl) (ai 7 (by kernel_rfl) ?_)))))
        refine af rfl rfl rfl rfl (bd (enc:=eS) rfl rfl rfl rfl rfl rfl rfl rfl rfl dt (by exact aC aN) hl86 (fun a87 c88=>?_))
        refine az 8 (by kernel_rfl) rfl rfl rfl rfl (ak rfl rfl rfl rfl rfl (.p rfl)) (ai 9 (by kernel_rfl) (aQ rfl rfl rfl (ag (vs:=[pO a87 l86.length c88]) rfl rfl rfl rfl rfl (bx (bx bB)) (bf (bf (bf cN))) (aT (by kernel_rfl) ?_))))
        exact fB (a87,c88) (tM rfl) (bq (aC (aC (aC aN))) (bq (aC (aC aN)) (bq (aC (aC aN)) cq))) trivial
       rintro ⟨a87,c88⟩ τ ρ1 hsub90 _;(try dsimp only at hsub90);dsimp only [aK]
       refine aq ?_
       obtain rfl:=osi hq79
       exact am ((a87,c88),l86) (tM rfl) (PSub.trans wC hsub90) rfl
      refine ae ?_
      refine aq ?_
      obtain rfl:=osi hq79
      exact am ((a63,c64),l62) (tM rfl) wC rfl
     rintro ⟨⟨a76,c77⟩,l78⟩ τ hz;(try dsimp only at hz);subst q79;(try dsimp only at hb70);dsimp only [aK]
     refine an [81,82] [(9,pI (IntKind.i64.wrap (v60+1)))] (by kernel_rfl) ?_
     exact bt hb70 (a76,c77) (tM rfl) wC
    refine bc ?_
    refine aP (aJ hb70 (fun ht=>aM rfl ?_))
    exact am ((a63,c64),l62) (mv rfl) wC ht.symm
   rintro ⟨⟨a67,c68⟩,l69⟩ τ hz;(try dsimp only at hz);subst q71;(try dsimp only at hb33);dsimp only [aK]
   refine cP 1 [(97,pO a24 l23.length c25)] (by kernel_rfl) ?_
   refine nk (css:=List.map eS l69) (a:=a67) (by exact aC (aC (aC aN))) ?_
   refine ka (k:=3) (enc:=eS) (xs:=l69) (b:=b41) (a:=a67) rfl dt (bx (bx bB)) (dY 1 [2] [(98,.agg [pI (IntKind.i64.wrap (3+(IntKind.i64.wrap (2*v26)))),pI (IntKind.i64.wrap (1+x36.1)),pS x38.1,pL eS l69,pI v55,pI x39.1,pI (IntKind.i64.wrap ((IntKind.i64.wrap (x39.1+1))+x42.1)),pI v47,pI x40.1.Rate,pI x40.1.Amount,pI x40.1.Per,pB x40.1.HasMost,pI x40.1.Most,pB x40.1.HasLeast,pI x40.1.Least])] (by kernel_rfl) (aF rfl (bg rfl rfl rfl rfl rfl (dI rfl eY) rfl rfl rfl rfl (fun b91=>aa hb33 fun l93 hl93 hb33=>?_))))
   refine aF rfl (bd (enc:=Zb.enc) rfl rfl rfl rfl rfl rfl rfl rfl rfl dt (by exact aC (aC (aC (aC aN)))) hl93 (fun a94 c95=>?_))
   refine aL [(4,pO a94 l93.length c95)] (by kernel_rfl) (aq (aW (an [31,32] [(5,pI (IntKind.i64.wrap (v26+1)))] (by kernel_rfl) ?_)))
   exact bt hb33 (a94,c95) (iP rfl) (bq (aC (aC (aC aN))) cq)
  refine bc ?_
  refine aP (aJ hb33 (fun ht=>aM rfl ?_))
  exact am ((a24,c25),l23) (nG rfl) (bq (aC aN) bZ) ht.symm
 rintro ⟨⟨a30,c31⟩,l32⟩ τ hz;(try dsimp only at hz);subst q34;(try dsimp only at h);dsimp only [aK]
 refine ah (an [101] [(2,pO a30 l32.length c31)] (by kernel_rfl) (aW ?_))
 refine ij (enc:=Zb.enc) (xs:=l32) 2 rfl (by exact aN) ?_
 refine cd ?_
 exact zz r h rfl
def iB (p0:Ze):Option (Bool×Ze):=some ((decide (p0.I<(p0.L.length:Int))),p0)
theorem oQ {p0:Ze} {b0:Nat} {r:(Bool×Ze)}  (h:iB p0=some r):PCall 56 [pP b0 0] [PRes.b b0 75 [pL eI p0.L,pI p0.I]] (fun pv ρ'=>pv=pB r.1∧ρ'=[PRes.b b0 75 [pL eI r.2.L,pI r.2.I]]):=by
 unfold iB at h
 refine dZ Tryz.func56 rfl Tryz.ntmps56 Tryz.results56 rfl (bh [2] (by kernel_rfl) (cw (bN (ρd:=[]) [(0,0),(1,0),(2,0),(3,0),(4,0),(5,0),(6,0),(7,0),(8,0),(9,0),(10,0)] _ (List.Perm.refl _) (by kernel_rfl) rfl (t7 11 [0,0] (rg 3 10) [(2,pB (decide (p0.I<(p0.L.length:Int))))] (by kernel_rfl) (cC (dC ?_))))))
 obtain rfl:=osi h
 exact aI (fM (aD rfl)) cq ⟨rfl,rfl⟩
def lM (p0:Ze) (p1:Int) (p2:Int):Option (Int×Ze):=(aG p0 5).bind fun x1=>cond (x1.1 == 4) ((aG x1.2 p2).bind fun x3=>some (x3.1,x3.2)) ((aG x1.2 p1).bind fun x4=>some (x4.1,x4.2))
theorem uU {p0:Ze} {p1:Int} {p2:Int} {b0:Nat} {r:(Int×Ze)}  (h:lM p0 p1 p2=some r):PCall 57 [pP b0 0,pI p1,pI p2] [PRes.b b0 75 [pL eI p0.L,pI p0.I]] (fun pv ρ'=>pv=pI r.1∧ρ'=[PRes.b b0 75 [pL eI r.2.L,pI r.2.I]]):=by
 unfold lM at h
 refine dZ Tryz.func57 rfl Tryz.ntmps57 Tryz.results57 rfl (bh [6] (by kernel_rfl) (cQ (aa h fun x1 hx1 h=>cP 1 [(7,pP b0 0)] (by kernel_rfl) ?_)))
 refine aF rfl (bi rfl rfl (ρ1:=[_]) (aX (by exact aN) (List.Perm.refl _)) (aA hx1) ?_);rintro _ _ ⟨rfl,rfl⟩
 refine aL [(9,pB (x1.1 == 4))] (by kernel_rfl) (dW rfl h (fun hc2 h=>?_) fun hc2 h=>?_)
 ·refine ah ?_
  refine aa h fun x3 hx3 h=>cP 2 [(10,pP b0 0),(11,pI p2)] (by kernel_rfl) ?_
  refine aF rfl (bi rfl rfl (ρ1:=[_]) (aX (by exact aN) (List.Perm.refl _)) (aA hx3) ?_);rintro _ _ ⟨rfl,rfl⟩
  refine aL [(6,pI x3.1)] (by kernel_rfl) (ua ?_)
  obtain rfl:=osi h
  exact aI (fM (aD rfl)) cq ⟨rfl,rfl⟩
 refine ae ?_
 refine dV h fun x4 hx4 h=>cP 2 [(13,pP b0 0),(14,pI p1)] (by kernel_rfl) ?_
 refine aF rfl (bi rfl rfl (ρ1:=[_]) (aX (by exact aN) (List.Perm.refl _)) (aA hx4) ?_);rintro _ _ ⟨rfl,rfl⟩
 refine aL [(6,pI x4.1)] (by kernel_rfl) (dC ?_)
 obtain rfl:=osi h
 exact aI (fM (aD rfl)) cq ⟨rfl,rfl⟩
def iq (p0:(List Int)):Option (List Za):=(lK p0 80).bind fun x1=>(bu (S:=(List Za)×(List Int)×Int) (T:=((List Za))) (fun (l4,l7,v8)=>(iB (⟨l7,v8⟩:Ze)).bind fun x16=>cond (x16.1&&(decide (((l4.length:Nat):Int)<14))) ((aG x16.2 3).bind fun x18=>(aG x18.2 30).bind fun x19=>(aG x19.2 5).bind fun x20=>(aG x20.2 8).bind fun x22=>Option.bind (cond (x22.1 == 0) ((aG x22.2 2500).bind fun x29=>some (x29.2.L,x29.2.I,x29.1)) (some (x22.2.L,x22.2.I,x19.1))) (fun (l24,v25,v26)=>Option.bind (cond ((IntKind.i64.wrap (1+x20.1)) == 1) ((dJ).bind fun x38=>(aG (⟨l24,v25⟩:Ze) 3).bind fun x39=>(idx x38 x39.1).bind fun m40=>(lM x39.2 5000 1000000000001).bind fun x41=>(aG x41.2 3).bind fun x42=>some (x42.2.L,x42.2.I,m40,x41.1,x42.1)) (cond ((IntKind.i64.wrap (1+x20.1)) == 3) ((aG (⟨l24,v25⟩:Ze) 6000).bind fun x44=>some (x44.2.L,x44.2.I,ByteArray.empty,x44.1,0)) (cond ((IntKind.i64.wrap (1+x20.1)) == 4) ((dJ).bind fun x46=>(aG (⟨l24,v25⟩:Ze) 3).bind fun x47=>(idx x46 x47.1).bind fun m48=>some (x47.2.L,x47.2.I,m48,0,0)) (cond ((IntKind.i64.wrap (1+x20.1)) == 5) ((aG (⟨l24,v25⟩:Ze) 40).bind fun x50=>some (x50.2.L,x50.2.I,ByteArray.empty,x50.1,0)) (some (l24,v25,ByteArray.empty,0,0)))))) (fun (l31,v32,v33,v34,v35)=>(app 64 l4 [(⟨(IntKind.i64.wrap (x18.1*100)),(IntKind.i64.wrap ((Int.tmod (IntKind.i64.wrap ((IntKind.i64.wrap (((l4.length:Nat):Int)*5))+2)) 17)+1)),v26,(IntKind.i64.wrap (1+x20.1)),v33,v34,v35⟩:Za)]).bind fun l53=>some (.inl (l53,l31,v32))))) (some (.inr l4))) FUEL (([]:List Za),x1,0)).bind fun l12=>some l12
theorem qt {p0:(List Int)} {r:(List Za)}  (h:iq p0=some r):PF 24 [pL eI p0] (pL Za.enc r):=by
 unfold iq at h
 refine bo ?_
 refine dZ Tryz.func24 rfl Tryz.ntmps24 Tryz.results24 rfl (bh [2] (by kernel_rfl) (dV h fun x1 hx1 h=>aj (bp 3 [] [6,7] [(8,.agg [pL eI x1,pI 0])] (bw 1 (r7 hx1) bL) (by kernel_rfl) (aF rfl (bC (cs:=[pL eI x1,pI 0]) rfl rfl (fun b2=>aL [(3,pP b2 0)] (by kernel_rfl) (cw (ap [(4,pN)] (by kernel_rfl) (cw (fj 93 7 (aa h fun q14 hq14 h=>?_)))))))))))
 refine av (Y:=(Option Addr×Nat)×((List Za))) (fun ((a10,c11),l12)=>[(4,pO a10 l12.length c11)]) (fun ((a10,c11),l12)=>[PRes.row a10 l12.length c11 93 7 (List.map Za.enc l12)]) (fun ((a10,c11),l12)=>q14=l12) ?_ ?_
 ·refine aR ?_
  refine aZ (Y:=Option Addr×Nat) (S:=(List Za)×(List Int)×Int) _ hq14 (fun (a5,c6) (l4,l7,v8)=>[(3,pP b2 0),(4,pO a5 l4.length c6)]) (fun (a5,c6) (l4,l7,v8)=>[PRes.b b2 75 [pL eI l7,pI v8],PRes.row a5 l4.length c6 93 7 (List.map Za.enc l4)]) (none,0) (eN rfl) (bq (aC aN) cq) ?_
  rintro ⟨a5,c6⟩ ⟨l4,l7,v8⟩ o τ hb13;(try dsimp only at hb13);dsimp only [aK]
  refine gh (aa hb13 fun x16 hx16 hb13=>cP 1 [(10,pP b2 0)] (by kernel_rfl) ?_)
  refine aF rfl (bi rfl rfl (ρ1:=[_]) (aX (by exact aN) (List.Perm.refl _)) (oQ hx16) ?_);rintro _ _ ⟨rfl,rfl⟩
  refine lJ [12,13,14,15] [(16,pB (x16.1&&(decide (((l4.length:Nat):Int)<14))))] (by kernel_rfl) (dW rfl hb13 (fun hc17 hb13=>?_) fun hc17 hb13=>?_)
  ·refine ae ?_
   refine aW (jX (aa hb13 fun x18 hx18 hb13=>cP 1 [(17,pP b2 0)] (by kernel_rfl) ?_))
   refine aF rfl (bi rfl rfl (ρ1:=[_]) (aX (by exact aN) (List.Perm.refl _)) (aA hx18) ?_);rintro _ _ ⟨rfl,rfl⟩
   refine aa hb13 fun x19 hx19 hb13=>bO 8 (rg 20 5) [(19,pI (IntKind.i64.wrap (x18.1*100))),(25,pI (IntKind.i64.wrap ((Int.tmod (IntKind.i64.wrap ((IntKind.i64.wrap (((l4.length:Nat):Int)*5))+2)) 17)+1))),(26,pP b2 0)] (by kernel_rfl) ?_
   refine aF rfl (bi rfl rfl (ρ1:=[_]) (aX (by exact aN) (List.Perm.refl _)) (aA hx19) ?_);rintro _ _ ⟨rfl,rfl⟩
   refine aa hb13 fun x20 hx20 hb13=>bE 1 [(28,pP b2 0)] (by kernel_rfl) ?_
   refine aF rfl (bi rfl rfl (ρ1:=[_]) (aX (by exact aN) (List.Perm.refl _)) (aA hx20) ?_);rintro _ _ ⟨rfl,rfl⟩
   refine bO 2 [30] [(31,.agg [pI (IntKind.i64.wrap (x18.1*100)),pI (IntKind.i64.wrap ((Int.tmod (IntKind.i64.wrap ((IntKind.i64.wrap (((l4.length:Nat):Int)*5))+2)) 17)+1)),pI x19.1,pI (IntKind.i64.wrap (1+x20.1)),pS ByteArray.empty,pI 0,pI 0])] (by kernel_rfl) (aF rfl (aY (cs:=[pI 0,pI 0,pI 0,pI 0,pS ByteArray.empty,pI 0,pI 0]) rfl rfl rfl rfl (fun b21=>aH rfl rfl (ag (vs:=[pI (IntKind.i64.wrap (x18.1*100)),pI (IntKind.i64.wrap ((Int.tmod (IntKind.i64.wrap ((IntKind.i64.wrap (((l4.length:Nat):Int)*5))+2)) 17)+1)),pI x19.1,pI (IntKind.i64.wrap (1+x20.1)),pS ByteArray.empty,pI 0,pI 0]) rfl rfl rfl rfl rfl bB Ez (ar (cQ (aa hb13 fun x22 hx22 hb13=>cP 1 [(32,pP b2 0)] (by kernel_rfl) ?_)))))))
   refine aF rfl (bi rfl rfl (ρ1:=[_]) (aX (by exact aC aN) (List.Perm.refl _)) (aA hx22) ?_);rintro _ _ ⟨rfl,rfl⟩
   refine aL [(34,pB (x22.1 == 0))] (by kernel_rfl) (ga hb13 fun q27 hq27 hb13=>?_)
   refine av (Y:=Unit×((List Int)×Int×Int)) (fun (_,(l24,v25,v26))=>[(3,pP b2 0),(4,pO a5 l4.length c6),(5,pP b21 0)]) (fun (_,(l24,v25,v26))=>[PRes.b b2 75 [pL eI l24,pI v25],PRes.b b21 93 [pI (IntKind.i64.wrap (x18.1*100)),pI (IntKind.i64.wrap ((Int.tmod (IntKind.i64.wrap ((IntKind.i64.wrap (((l4.length:Nat):Int)*5))+2)) 17)+1)),pI v26,pI (IntKind.i64.wrap (1+x20.1)),pS ByteArray.empty,pI 0,pI 0],PRes.row a5 l4.length c6 93 7 (List.map Za.enc l4)]) (fun (_,(l24,v25,v26))=>q27=(l24,v25,v26)) ?_ ?_
   ·skip
    refine kU rfl hq27 (fun hc28 hq27=>?_) fun hc28 hq27=>?_
    ·refine aa hq27 ?_;clear hq27;intro x29 hx29 hq27
     refine cP 1 [(35,pP b2 0)] (by kernel_rfl) ?_
     refine aF rfl (bi rfl rfl (ρ1:=[_]) (aX (by exact aN) (List.Perm.refl _)) (aA hx29) ?_);rintro _ _ ⟨rfl,rfl⟩
     refine bE 1 [(37,pP b21 2)] (by kernel_rfl) (aH rfl rfl (ag (vs:=[pI x29.1]) rfl rfl rfl rfl rfl (bx bB) (bf (bf cN)) (ar ?_)))
     obtain rfl:=osi hq27
     exact am ((),(x29.2.L,x29.2.I,x29.1)) (kH rfl) kY rfl
    refine ae ?_
    obtain rfl:=osi hq27
    exact am ((),(x22.2.L,x22.2.I,x19.1)) (kH rfl) kY rfl
   rintro ⟨_,⟨l24,v25,v26⟩⟩ τ hz;(try dsimp only at hz);subst q27;(try dsimp only at hb13);dsimp only [aK]
   refine gh (aV [1] [38] [(39,pI (IntKind.i64.wrap (1+x20.1)))] (by kernel_rfl) (ga hb13 fun q36 hq36 hb13=>?_))
   refine av (Y:=Unit×((List Int)×Int×ByteArray×Int×Int)) (fun (_,(l31,v32,v33,v34,v35))=>[(3,pP b2 0),(4,pO a5 l4.length c6),(5,pP b21 0)]) (fun (_,(l31,v32,v33,v34,v35))=>[PRes.b b2 75 [pL eI l31,pI v32],PRes.b b21 93 [pI (IntKind.i64.wrap (x18.1*100)),pI (IntKind.i64.wrap ((Int.tmod (IntKind.i64.wrap ((IntKind.i64.wrap (((l4.length:Nat):Int)*5))+2)) 17)+1)),pI v26,pI (IntKind.i64.wrap (1+x20.1)),pS v33,pI v34,pI v35],PRes.row a5 l4.length c6 93 7 (List.map Za.enc l4)]) (fun (_,(l31,v32,v33,v34,v35))=>q36=(l31,v32,v33,v34,v35)) ?_ ?_
   ·skip
    refine jX (bU [41] [(40,pB ((IntKind.i64.wrap (1+x20.1)) == 1))] (by kernel_rfl) rfl hq36 (fun hc37 hq36=>?_) fun hc37 hq36=>?_)
    ·refine bN (ρd:=[PRes.b b2 _ _,PRes.b b21 _ _]) [(1,0),(5,0),(7,0),(0,1),(2,1),(3,0),(4,0),(9,0),(6,1),(8,1),(10,1),(11,0),(12,1),(13,0),(14,1)] _ (List.Perm.refl _) (by kernel_rfl) rfl ?_
     refine aa hq36 fun x38 hx38 hq36=>aa hq36 fun x39 hx39 hq36=>cr 4 [] [] [(43,pP b2 0),(47,pP b2 0),(49,pP b2 0),(42,pL eS x38)] (bw 3 (ie hx38) bL) (by kernel_rfl) ?_
     refine mI rfl rfl rfl (bi rfl rfl (ρ1:=[_]) (aX (by exact aN) (List.Perm.refl _)) (aA hx39) ?_);rintro _ _ ⟨rfl,rfl⟩
     refine aa hq36 fun m40 hm40 hq36=>aa hq36 fun x41 hx41 hq36=>cr 3 [] [45] [(46,pS m40),(51,pP b21 4)] (fC 0 eS hm40 bL) (by kernel_rfl) ?_
     refine mI rfl rfl rfl (bi rfl rfl (ρ1:=[_]) (aX (by exact aN) (List.Perm.refl _)) (uU hx41) ?_);rintro _ _ ⟨rfl,rfl⟩
     refine aa hq36 fun x42 hx42 hq36=>?_
     refine mI rfl rfl rfl (bi rfl rfl (ρ1:=[_]) (aX (by exact aN) (List.Perm.refl _)) (aA hx42) ?_);rintro _ _ ⟨rfl,rfl⟩
     refine np rfl rfl (ag (vs:=[pS m40]) rfl rfl rfl rfl rfl (bx bB) (bf (bf (bf (bf cN)))) (jJ 1 [(52,pP b21 5)] (by kernel_rfl) (np rfl rfl (ag (vs:=[pI x41.1]) rfl rfl rfl rfl rfl (bx bB) (bf (bf (bf (bf (bf cN))))) (jJ 1 [(53,pP b21 6)] (by kernel_rfl) (np rfl rfl (ag (vs:=[pI x42.1]) rfl rfl rfl rfl rfl (bx bB) (bf (bf (bf (bf (bf (bf cN)))))) (cC (aq ?_)))))))))
     obtain rfl:=osi hq36
     exact am ((),(x42.2.L,x42.2.I,m40,x41.1,x42.1)) (kH rfl) kY rfl
    refine ah ?_
    refine bU [55] [(54,pB ((IntKind.i64.wrap (1+x20.1)) == 3))] (by kernel_rfl) rfl hq36 (fun hc43 hq36=>?_) fun hc43 hq36=>?_
    ·refine aa hq36 ?_;clear hq36;intro x44 hx44 hq36
     refine cP 1 [(56,pP b2 0)] (by kernel_rfl) ?_
     refine aF rfl (bi rfl rfl (ρ1:=[_]) (aX (by exact aN) (List.Perm.refl _)) (aA hx44) ?_);rintro _ _ ⟨rfl,rfl⟩
     refine bE 1 [(58,pP b21 5)] (by kernel_rfl) (aH rfl rfl (ag (vs:=[pI x44.1]) rfl rfl rfl rfl rfl (bx bB) (bf (bf (bf (bf (bf cN))))) (ar (aq ?_))))
     obtain rfl:=osi hq36
     exact am ((),(x44.2.L,x44.2.I,ByteArray.empty,x44.1,0)) (kH rfl) kY rfl
    refine ah ?_
    refine bU [60] [(59,pB ((IntKind.i64.wrap (1+x20.1)) == 4))] (by kernel_rfl) rfl hq36 (fun hc45 hq36=>?_) fun hc45 hq36=>?_
    ·refine aa hq36 ?_;clear hq36;intro x46 hx46 hq36
     refine aa hq36 fun x47 hx47 hq36=>aj (bp 2 [] [] [(61,pL eS x46),(62,pP b2 0)] (bw 0 (ie hx46) bL) (by kernel_rfl) ?_)
     refine aF rfl (bi rfl rfl (ρ1:=[_]) (aX (by exact aN) (List.Perm.refl _)) (aA hx47) ?_);rintro _ _ ⟨rfl,rfl⟩
     refine aa hq36 fun m48 hm48 hq36=>bp 3 [] [64] [(65,pS m48),(66,pP b21 4)] (fC 0 eS hm48 bL) (by kernel_rfl) (aH rfl rfl (ag (vs:=[pS m48]) rfl rfl rfl rfl rfl (bx bB) (bf (bf (bf (bf cN)))) (ar (aq ?_))))
     obtain rfl:=osi hq36
     exact am ((),(x47.2.L,x47.2.I,m48,0,0)) (kH rfl) kY rfl
    refine ah ?_
    refine bU [68] [(67,pB ((IntKind.i64.wrap (1+x20.1)) == 5))] (by kernel_rfl) rfl hq36 (fun hc49 hq36=>?_) fun hc49 hq36=>?_
    ·refine aa hq36 ?_;clear hq36;intro x50 hx50 hq36
     refine cP 1 [(69,pP b2 0)] (by kernel_rfl) ?_
     refine aF rfl (bi rfl rfl (ρ1:=[_]) (aX (by exact aN) (List.Perm.refl _)) (aA hx50) ?_);rintro _ _ ⟨rfl,rfl⟩
     refine bE 1 [(71,pP b21 5)] (by kernel_rfl) (aH rfl rfl (ag (vs:=[pI x50.1]) rfl rfl rfl rfl rfl (bx bB) (bf (bf (bf (bf (bf cN))))) (ar (aq ?_))))
     obtain rfl:=osi hq36
     exact am ((),(x50.2.L,x50.2.I,ByteArray.empty,x50.1,0)) (kH rfl) kY rfl
    refine ae ?_
    refine aq ?_
    obtain rfl:=osi hq36
    exact am ((),(l24,v25,ByteArray.empty,0,0)) (kH rfl) kY rfl
   rintro ⟨_,⟨l31,v32,v33,v34,v35⟩⟩ τ hz;(try dsimp only at hz);subst q36;(try dsimp only at hb13);dsimp only [aK]
   refine aj (dY 2 [1] [(72,pO a5 l4.length c6),(73,.agg [pI (IntKind.i64.wrap (x18.1*100)),pI (IntKind.i64.wrap ((Int.tmod (IntKind.i64.wrap ((IntKind.i64.wrap (((l4.length:Nat):Int)*5))+2)) 17)+1)),pI v26,pI (IntKind.i64.wrap (1+x20.1)),pS v33,pI v34,pI v35])] (by kernel_rfl) (aF rfl (bg rfl rfl rfl rfl rfl (dI rfl eY) rfl rfl rfl rfl (fun b51=>aa hb13 fun l53 hl53 hb13=>?_))))
   refine aF rfl (bd (enc:=Za.enc) rfl rfl rfl rfl rfl rfl rfl rfl rfl dt (by exact aC (aC (aC aN))) hl53 (fun a54 c55=>?_))
   refine aL [(4,pO a54 l53.length c55)] (by kernel_rfl) (aq ?_)
   exact bt hb13 (a54,c55) (eN rfl) (bq (aC (aC aN)) cq)
  refine bc ?_
  refine aP (aJ hb13 (fun ht=>aM rfl ?_))
  exact am ((a5,c6),l4) (nG rfl) (bq (aC aN) bZ) ht.symm
 rintro ⟨⟨a10,c11⟩,l12⟩ τ hz;(try dsimp only at hz);subst q14;(try dsimp only at h);dsimp only [aK]
 refine ah (an [76] [(2,pO a10 l12.length c11)] (by kernel_rfl) (aW ?_))
 refine ij (enc:=Za.enc) (xs:=l12) 2 rfl (by exact aN) ?_
 refine cd ?_
 exact zz r h rfl
def dK (p0:ByteArray):Option Bool:=(gd ((p0.size:Int) == 2) (idx p0.data.toList 0)).bind fun c1=>(gd (((p0.size:Int) == 2)&&(decide (65≤(c1.toNat:Int)))) (idx p0.data.toList 0)).bind fun c2=>(gd ((((p0.size:Int) == 2)&&(decide (65≤(c1.toNat:Int))))&&(decide ((c2.toNat:Int)≤90))) (idx p0.data.toList 1)).bind fun c3=>(gd (((((p0.size:Int) == 2)&&(decide (65≤(c1.toNat:Int))))&&(decide ((c2.toNat:Int)≤90)))&&(decide (65≤(c3.toNat:Int)))) (idx p0.data.toList 1)).bind fun c4=>some ((((((p0.size:Int) == 2)&&(decide (65≤(c1.toNat:Int))))&&(decide ((c2.toNat:Int)≤90)))&&(decide (65≤(c3.toNat:Int))))&&(decide ((c4.toNat:Int)≤90)))
theorem kg {p0:ByteArray} {r:Bool}  (h:dK p0=some r):PF 60 [pS p0] (pB r):=by
 unfold dK at h
 refine bo ?_
 refine dZ Tryz.func60 rfl Tryz.ntmps60 Tryz.results60 rfl (bh [2] (by kernel_rfl) (dV h fun c1 hc1 h=>aa h fun c2 hc2 h=>aa h fun c3 hc3 h=>aa h fun c4 hc4 h=>aB [] (rg 3 23) [(2,pB ((((((p0.size:Int) == 2)&&(decide (65≤(c1.toNat:Int))))&&(decide ((c2.toNat:Int)≤90)))&&(decide (65≤(c3.toNat:Int))))&&(decide ((c4.toNat:Int)≤90))))] (mK 5 (cY hc1) (mK 10 (cY hc2) (mK 15 (cY hc3) (mK 20 (cY hc4) bL)))) (by kernel_rfl) (dC ?_)))
 exact zz r h rfl
def kh (p0:Za):Option Bool:=cond ((((((((decide (p0.From<0))||(decide (999<p0.From)))||(decide (p0.Number<1)))||(decide (1000000000<p0.Number)))||(decide (p0.Day<0)))||(decide (36524<p0.Day)))||(decide (p0.Kind<1)))||(decide (5<p0.Kind))) (some false) (Option.bind (cond (p0.Kind == 1) (some (1000000000000,true,999)) (cond (p0.Kind == 3) (some (1000000000000,false,0)) (cond (p0.Kind == 4) (some (0,true,0)) (cond (p0.Kind == 5) (some (1000000000,false,0)) (some (0,false,0)))))) (fun (v3,v4,v5)=>(gd v4 (dK p0.Country)).bind fun x11=>cond ((v4&&(!x11))||((!v4)&&(!decide (p0.Country=(⟨#[]⟩:ByteArray))))) (some false) (some ((((decide (0≤p0.Amount))&&(decide (p0.Amount≤v3)))&&(decide (0≤p0.Company)))&&(decide (p0.Company≤v5))))))
theorem oW {p0:Za} {r:Bool}  (h:kh p0=some r):PF 82 [.agg (aU p0)] (pB r):=by
 unfold kh at h
 refine bo ?_
 refine dZ Tryz.func82 rfl Tryz.ntmps82 Tryz.results82 rfl (dj rfl (bC (cs:=(aU p0)) rfl rfl (fun b1=>br [2] (by kernel_rfl) (cQ (aV [0,0,0,0,0,0,0,0] (rg 6 37) [(43,pB ((((((((decide (p0.From<0))||(decide (999<p0.From)))||(decide (p0.Number<1)))||(decide (1000000000<p0.Number)))||(decide (p0.Day<0)))||(decide (36524<p0.Day)))||(decide (p0.Kind<1)))||(decide (5<p0.Kind))))] (by kernel_rfl) (dW rfl h (fun hc2 h=>?_) fun hc2 h=>?_))))))
 ·refine ah ?_
  refine dq [(2,pB false)] (by kernel_rfl) ?_
  exact zz r h rfl
 refine ae ?_
 refine cw (ap [(3,pI 0),(4,pB false),(5,pI 0)] (by kernel_rfl) (cQ (aV [0] [44] [(45,pI p0.Kind)] (by kernel_rfl) (ga h fun q6 hq6 h=>?_))))
 refine av (Y:=Unit×(Int×Bool×Int)) (fun (_,(v3,v4,v5))=>[(1,pP b1 0),(3,pI v3),(4,pB v4),(5,pI v5)]) (fun (_,(v3,v4,v5))=>[PRes.b b1 93 (aU p0)]) (fun (_,(v3,v4,v5))=>q6=(v3,v4,v5)) ?_ ?_
 ·skip
  refine jX (bU [47] [(46,pB (p0.Kind == 1))] (by kernel_rfl) rfl hq6 (fun hc7 hq6=>?_) fun hc7 hq6=>?_)
  ·refine ap [(3,pI 1000000000000),(4,pB true),(5,pI 999)] (by kernel_rfl) ?_
   refine aq ?_
   obtain rfl:=osi hq6
   exact am ((),(1000000000000,true,999)) (iP rfl) cq rfl
  refine ah ?_
  refine bU [49] [(48,pB (p0.Kind == 3))] (by kernel_rfl) rfl hq6 (fun hc8 hq6=>?_) fun hc8 hq6=>?_
  ·refine ap [(3,pI 1000000000000)] (by kernel_rfl) ?_
   refine aq ?_
   obtain rfl:=osi hq6
   exact am ((),(1000000000000,false,0)) (iP rfl) cq rfl
  refine ah ?_
  refine bU [51] [(50,pB (p0.Kind == 4))] (by kernel_rfl) rfl hq6 (fun hc9 hq6=>?_) fun hc9 hq6=>?_
  ·refine ap [(4,pB true)] (by kernel_rfl) ?_
   refine aq ?_
   obtain rfl:=osi hq6
   exact am ((),(0,true,0)) (iP rfl) cq rfl
  refine ah ?_
  refine bU [53] [(52,pB (p0.Kind == 5))] (by kernel_rfl) rfl hq6 (fun hc10 hq6=>?_) fun hc10 hq6=>?_
  ·refine ap [(3,pI 1000000000)] (by kernel_rfl) ?_
   refine aq ?_
   obtain rfl:=osi hq6
   exact am ((),(1000000000,false,0)) (iP rfl) cq rfl
  refine ae ?_
  refine aq ?_
  obtain rfl:=osi hq6
  exact am ((),(0,false,0)) (iP rfl) cq rfl
 rintro ⟨_,⟨v3,v4,v5⟩⟩ τ hz;(try dsimp only at hz);subst q6;(try dsimp only at h);dsimp only [aK]
 refine gh (aa h fun x11 hx11 h=>aB [0,0] (rg 54 15) [(69,pB ((v4&&(!x11))||((!v4)&&(!decide (p0.Country=(⟨#[]⟩:ByteArray))))))] (eU 4 (fun hc=>kg (cY hx11 hc)) bL) (by kernel_rfl) (dW rfl h (fun hc12 h=>?_) fun hc12 h=>?_))
 ·refine ah ?_
  refine dq [(2,pB false)] (by kernel_rfl) ?_
  exact zz r h rfl
 refine ae ?_
 refine cw (aV [0,0,0,0] (rg 70 20) [(2,pB ((((decide (0≤p0.Amount))&&(decide (p0.Amount≤v3)))&&(decide (0≤p0.Company)))&&(decide (p0.Company≤v5))))] (by kernel_rfl) (dC ?_))
 exact zz r h rfl
def iC (p0:Za) (p1:Za):Option Bool:=some ((decide (p0.From<p1.From))||((p0.From == p1.From)&&(decide (p0.Number<p1.Number))))
theorem nD {p0:Za} {p1:Za} {r:Bool}  (h:iC p0 p1=some r):PF 83 [.agg (aU p0),.agg (aU p1)] (pB r):=by
 unfold iC at h
 refine bo ?_
 refine dZ Tryz.func83 rfl Tryz.ntmps83 Tryz.results83 rfl (dj rfl (bC (cs:=(aU p0)) rfl rfl (fun b1=>aF rfl (bC (cs:=(aU p1)) rfl rfl (fun b2=>br [4] (by kernel_rfl) (cw (aV [1,0,1,0,1,0] (rg 5 19) [(4,pB ((decide (p0.From<p1.From))||((p0.From == p1.From)&&(decide (p0.Number<p1.Number)))))] (by kernel_rfl) (dC ?_))))))))
 exact zz r h rfl
def kK (p0:ByteArray):Option Bool:=(bu (S:=Int) (T:=(Unit)⊕(_)) (fun v1=>cond (decide (v1<(p0.size:Int))) ((idx p0.data.toList v1).bind fun c5=>(gd (!(decide ((c5.toNat:Int)<48))) (idx p0.data.toList v1)).bind fun c6=>cond ((decide ((c5.toNat:Int)<48))||(decide (57<(c6.toNat:Int)))) (some (.inr (.inr false))) (some (.inl (IntKind.i64.wrap (v1+1))))) (some (.inr (.inl ())))) FUEL 0).bind fun q=>match q with | .inl _=>some ((p0.size:Int) == 8) | .inr e=>some e
theorem ub {p0:ByteArray} {r:Bool}  (h:kK p0=some r):PF 131 [pS p0] (pB r):=by
 unfold kK at h
 refine bo ?_
 refine dZ Tryz.func131 rfl Tryz.ntmps131 Tryz.results131 rfl (bh [2] (by kernel_rfl) (cQ (ap [(3,pI 0)] (by kernel_rfl) (ga h fun q3 hq3 h=>?_))))
 refine av (Y:=Unit×Unit) (fun (_,_)=>[(0,pS p0)]) (fun (_,_)=>[]) (fun (_,_)=>q3=Sum.inl ()) ?_ ?_
 ·refine aR ?_
  refine aZ (Y:=Unit) (S:=Int) _ hq3 (fun _ v1=>[(0,pS p0),(3,pI v1)]) (fun _ v1=>[]) () (eN rfl) bZ ?_
  rintro _ v1 o τ hb2;(try dsimp only at hb2);dsimp only [aK]
  refine gh (bU [4,5,6] [(7,pB (decide (v1<(p0.size:Int))))] (by kernel_rfl) rfl hb2 (fun hc4 hb2=>?_) fun hc4 hb2=>?_)
  ·refine ae ?_
   refine cw (jX (aa hb2 fun c5 hc5 hb2=>aa hb2 fun c6 hc6 hb2=>aB [] (rg 10 9) [(19,pB ((decide ((c5.toNat:Int)<48))||(decide (57<(c6.toNat:Int)))))] (Dd 2 hc5 (mK 7 (cY hc6) bL)) (by kernel_rfl) (dW rfl hb2 (fun hc7 hb2=>?_) fun hc7 hb2=>?_)))
   ·refine ah ?_
    refine ap [(2,pB false)] (by kernel_rfl) (dC (au (aO ?_)))
    refine bH hb2 (fun ht=>?_);subst ht
    refine au (bz ?_)
    exact zz r h rfl
   refine ae ?_
   refine aq (aW (an [8,9] [(3,pI (IntKind.i64.wrap (v1+1)))] (by kernel_rfl) ?_))
   exact bt hb2 () (eN rfl) bZ
  refine bc ?_
  refine aP (aJ hb2 (fun ht=>aM rfl ?_))
  exact am ((),()) (nG rfl) bZ ht.symm
 rintro ⟨_,_⟩ τ hz;(try dsimp only at hz);subst q3;(try dsimp only at h);dsimp only [aK]
 refine ah (an [20,21,22] [(2,pB ((p0.size:Int) == 8))] (by kernel_rfl) (dC ?_))
 exact zz r h rfl
def iW (p0:Int) (p1:ByteArray) (p2:Int):Option (Zk×Int):=(gd (!((decide (p0<1))||(decide (1000000<p0)))) (kK p1)).bind fun x2=>cond (((((decide (p0<1))||(decide (1000000<p0)))||(!x2))||(decide (p2<1)))||(decide (1000000000<p2))) (some ((⟨0,ByteArray.empty,0,[]⟩:Zk),(2:Int))) (some ((⟨p0,p1,p2,[]⟩:Zk),(0:Int)))
theorem rn {p0:Int} {p1:ByteArray} {p2:Int} {r:(Zk×Int)}  (h:iW p0 p1 p2=some r):PF 95 [pI p0,pS p1,pI p2] (.tup [.agg (bj r.1),pI r.2]):=by
 unfold iW at h
 refine bo ?_
 refine dZ Tryz.func95 rfl Tryz.ntmps95 Tryz.results95 rfl (dj rfl (aY (cs:=[pI 0,pS ByteArray.empty,pI 0,pN]) rfl rfl rfl rfl (fun b1=>br [7] (by kernel_rfl) (cQ (aa h fun x2 hx2 h=>aB [] (rg 8 18) [(26,pB (((((decide (p0<1))||(decide (1000000<p0)))||(!x2))||(decide (p2<1)))||(decide (1000000000<p2))))] (eU 8 (fun hc=>ub (cY hx2 hc)) bL) (by kernel_rfl) (dW rfl h (fun hc3 h=>?_) fun hc3 h=>?_))))))
 ·refine ah ?_
  refine cP 1 [(27,.agg [pI 0,pS ByteArray.empty,pI 0,pN])] (by kernel_rfl) (aH rfl rfl (ag (vs:=[pI 0,pS ByteArray.empty,pI 0,pN]) rfl rfl rfl rfl rfl bB rW (aL [(7,pI 2)] (by kernel_rfl) (aW (di (k:=3) (b:=b1) rfl bB (cd (aO ?_)))))))
  obtain rfl:=osi h
  exact aI (bD (cg rfl dt rfl) (aD rfl)) bZ ⟨rfl,rfl⟩
 refine ae ?_
 refine cw (aj (bO 4 [28,29,30] [(31,.agg [pI p0,pS p1,pI p2,pN])] (by kernel_rfl) (aH rfl rfl (ag (vs:=[pI p0,pS p1,pI p2,pN]) rfl rfl rfl rfl rfl bB rW (aL [(7,pI 0)] (by kernel_rfl) (aW (di (k:=3) (b:=b1) rfl bB (cd ?_))))))))
 obtain rfl:=osi h
 exact aI (bD (cg rfl dt rfl) (aD rfl)) bZ ⟨rfl,rfl⟩
def ki (p0:Zk):Option Int:=(iW p0.Source p0.Code p0.Units).bind fun x2=>cond (x2.2 != 0) (some x2.2) (cond (decide (200<(p0.Facts.length:Int))) (some (8:Int)) ((bu (S:=Int) (T:=(Unit)⊕(_)) (fun v6=>cond (decide (v6<(p0.Facts.length:Int))) ((idx p0.Facts v6).bind fun m10=>(kh m10).bind fun x11=>cond (!x11) (some (.inr (.inr (2:Int)))) (some (.inl (IntKind.i64.wrap (v6+1))))) (some (.inr (.inl ())))) FUEL 0).bind fun q=>match q with | .inl _=>(bu (S:=Int) (T:=(Unit)⊕(_)) (fun v13=>cond (decide (v13<(p0.Facts.length:Int))) ((idx p0.Facts (IntKind.i64.wrap (v13 - 1))).bind fun m17=>(idx p0.Facts v13).bind fun m18=>(iC m17 m18).bind fun x19=>cond (!x19) (some (.inr (.inr (9:Int)))) (some (.inl (IntKind.i64.wrap (v13+1))))) (some (.inr (.inl ())))) FUEL 1).bind (fun q=>match q with | .inl _=>some (0:Int) | .inr e=>some e) | .inr e=>some e))
theorem oX {p0:Zk} {r:Int}  (h:ki p0=some r):PF 53 [.agg (bj p0)] (pI r):=by
 unfold ki at h
 refine bo ?_
 refine dZ Tryz.func53 rfl Tryz.ntmps53 Tryz.results53 rfl (dj rfl (bC (cs:=(bj p0)) rfl rfl (fun b1=>br [2] (by kernel_rfl) (dV h fun x2 hx2 h=>aj (bp 10 [0,0,0] ((rg 8 7)++[7]) [(15,.agg (bj x2.1)),(16,pI x2.2)] (bw 6 (rn hx2) bL) (by kernel_rfl) (aF rfl (aY (cs:=[pI 0,pS ByteArray.empty,pI 0,pN]) rfl rfl rfl rfl (fun b3=>aH rfl rfl (ag (vs:=(bj x2.1)) rfl rfl rfl rfl rfl bB rW (aL [(4,pI x2.2)] (by kernel_rfl) (cQ (bU [17] [(18,pB (x2.2 != 0))] (by kernel_rfl) rfl h (fun hc4 h=>?_) fun hc4 h=>?_))))))))))))
 ·refine ah ?_
  refine an [19] [(2,pI x2.2)] (by kernel_rfl) (ua ?_)
  exact zz r h rfl
 refine ae ?_
 refine cQ (aV [1] [20,21,22] [(23,pB (decide (200<(p0.Facts.length:Int))))] (by kernel_rfl) (dW rfl h (fun hc5 h=>?_) fun hc5 h=>?_))
 ·refine ah ?_
  refine dq [(2,pI 8)] (by kernel_rfl) ?_
  exact zz r h rfl
 refine ae ?_
 refine cQ (ap [(5,pI 0)] (by kernel_rfl) (ga h fun q8 hq8 h=>?_))
 refine av (Y:=Unit×Unit) (fun (_,_)=>[(1,pP b1 0)]) (fun (_,_)=>[PRes.b b1 43 (bj p0)]) (fun (_,_)=>q8=Sum.inl ()) ?_ ?_
 ·refine aR ?_
  refine aZ (Y:=Unit) (S:=Int) _ hq8 (fun _ v6=>[(1,pP b1 0),(5,pI v6)]) (fun _ v6=>[PRes.b b1 43 (bj p0)]) () (eN rfl) (bq (aC aN) bZ) ?_
  rintro _ v6 o τ hb7;(try dsimp only at hb7);dsimp only [aK]
  refine gh (aV [0] [24,25,26,27] [(28,pB (decide (v6<(p0.Facts.length:Int))))] (by kernel_rfl) (dW rfl hb7 (fun hc9 hb7=>?_) fun hc9 hb7=>?_))
  ·refine ae ?_
   refine cw (jX (aa hb7 fun m10 hm10 hb7=>aa hb7 fun x11 hx11 hb7=>aB [0] (rg 31 6) [(37,pB (!x11))] (fC 3 Za.enc hm10 (bw 5 (oW hx11) bL)) (by kernel_rfl) (dW rfl hb7 (fun hc12 hb7=>?_) fun hc12 hb7=>?_)))
   ·refine ah ?_
    refine ap [(2,pI 2)] (by kernel_rfl) (dC (au (aO ?_)))
    refine bH hb7 (fun ht=>?_);subst ht
    refine au (bz ?_)
    exact zz r h rfl
   refine ae ?_
   refine aq (aW (an [29,30] [(5,pI (IntKind.i64.wrap (v6+1)))] (by kernel_rfl) ?_))
   exact bt hb7 () (eN rfl) cq
  refine bc ?_
  refine aP (aJ hb7 (fun ht=>aM rfl ?_))
  exact am ((),()) (nG rfl) cq ht.symm
 rintro ⟨_,_⟩ τ hz;(try dsimp only at hz);subst q8;(try dsimp only at h);dsimp only [aK]
 refine gh (ap [(6,pI 1)] (by kernel_rfl) (ga h fun q15 hq15 h=>?_))
 refine av (Y:=Unit×Unit) (fun (_,_)=>[]) (fun (_,_)=>[]) (fun (_,_)=>q15=Sum.inl ()) ?_ ?_
 ·refine aR ?_
  refine aZ (Y:=Unit) (S:=Int) _ hq15 (fun _ v13=>[(1,pP b1 0),(6,pI v13)]) (fun _ v13=>[PRes.b b1 43 (bj p0)]) () (eN rfl) cq ?_
  rintro _ v13 o τ hb14;(try dsimp only at hb14);dsimp only [aK]
  refine gh (aV [0] [38,39,40,41] [(42,pB (decide (v13<(p0.Facts.length:Int))))] (by kernel_rfl) (dW rfl hb14 (fun hc16 hb14=>?_) fun hc16 hb14=>?_))
  ·refine ae ?_
   refine cw (jX (bN (ρd:=[]) [(0,0),(1,0),(2,0),(3,0),(4,0),(5,0),(6,0),(7,0),(8,0),(9,0),(10,0),(11,1),(12,0)] _ (List.Perm.refl _) (by kernel_rfl) rfl (aa hb14 fun m17 hm17 hb14=>aa hb14 fun m18 hm18 hb14=>aa hb14 fun x19 hx19 hb14=>cr 13 [0,0] (rg 45 12) [(57,pB (!x19))] (fC 4 Za.enc hm17 (fC 9 Za.enc hm18 (bw 11 (nD hx19) bL))) (by kernel_rfl) (cC (dW rfl hb14 (fun hc20 hb14=>?_) fun hc20 hb14=>?_)))))
   ·refine ah ?_
    refine ap [(2,pI 9)] (by kernel_rfl) (dC (au (aO ?_)))
    refine bH hb14 (fun ht=>?_);subst ht
    refine au (bz ?_)
    exact zz r h rfl
   refine ae ?_
   refine aq (aW (an [43,44] [(6,pI (IntKind.i64.wrap (v13+1)))] (by kernel_rfl) ?_))
   exact bt hb14 () (eN rfl) cq
  refine bc ?_
  refine aP (aJ hb14 (fun ht=>aM rfl ?_))
  exact am ((),()) sL bZ ht.symm
 rintro ⟨_,_⟩ τ hz;(try dsimp only at hz);subst q15;(try dsimp only at h);dsimp only [aK]
 refine ah (ap [(2,pI 0)] (by kernel_rfl) (dC ?_))
 exact zz r h rfl
def kL (p0:Zk) (p1:Za):Option (Zk×Int):=(ki p0).bind fun x4=>cond (x4 != 0) (some ((⟨0,ByteArray.empty,0,[]⟩:Zk),x4)) ((kh p1).bind fun x6=>cond (!x6) (some ((⟨0,ByteArray.empty,0,[]⟩:Zk),(2:Int))) ((bu (S:=Int) (T:=(Int)) (fun v8=>(gd (decide (v8<(p0.Facts.length:Int))) (idx p0.Facts v8)).bind fun m12=>(gd (decide (v8<(p0.Facts.length:Int))) (iC m12 p1)).bind fun x13=>cond ((decide (v8<(p0.Facts.length:Int)))&&x13) (some (.inl (IntKind.i64.wrap (v8+1)))) (some (.inr v8))) FUEL 0).bind fun v9=>(gd (decide (v9<(p0.Facts.length:Int))) (idx p0.Facts v9)).bind fun m15=>(gd ((decide (v9<(p0.Facts.length:Int)))&&(m15.From == p1.From)) (idx p0.Facts v9)).bind fun m16=>cond (((decide (v9<(p0.Facts.length:Int)))&&(m15.From == p1.From))&&(m16.Number == p1.Number)) ((idx p0.Facts v9).bind fun m18=>cond (!(Za.eqb m18 p1)) (some ((⟨0,ByteArray.empty,0,[]⟩:Zk),(14:Int))) (some (p0,(0:Int)))) (cond (decide (200≤(p0.Facts.length:Int))) (some ((⟨0,ByteArray.empty,0,[]⟩:Zk),(8:Int))) ((sub p0.Facts 0 v9).bind fun l23=>(app 64 ([]:List Za) l23).bind fun l24=>(app 64 l24 [p1]).bind fun l30=>(sub p0.Facts v9 (p0.Facts.length:Int)).bind fun l34=>(app 64 l30 l34).bind fun l35=>some ((⟨p0.Source,p0.Code,p0.Units,l35⟩:Zk),(0:Int))))))
theorem uc {p0:Zk} {p1:Za} {r:(Zk×Int)}  (h:kL p0 p1=some r):PF 43 [.agg (bj p0),.agg (aU p1)] (.tup [.agg (bj r.1),pI r.2]):=by
 unfold kL at h
 refine bo ?_
 refine dZ Tryz.func43 rfl Tryz.ntmps43 Tryz.results43 rfl (dj rfl (bC (cs:=(bj p0)) rfl rfl (fun b1=>aF rfl (bC (cs:=(aU p1)) rfl rfl (fun b2=>aF rfl (aY (cs:=[pI 0,pS ByteArray.empty,pI 0,pN]) rfl rfl rfl rfl (fun b3=>br [5] (by kernel_rfl) (dV h fun x4 hx4 h=>aB [2] [8,9] [(6,pI x4)] (bw 1 (oX hx4) bL) (by kernel_rfl) (cQ (bU [10] [(11,pB (x4 != 0))] (by kernel_rfl) rfl h (fun hc5 h=>?_) fun hc5 h=>?_))))))))))
 ·refine ah ?_
  refine cP 2 [(12,.agg [pI 0,pS ByteArray.empty,pI 0,pN]),(13,pI x4)] (by kernel_rfl) (aH rfl rfl (ag (vs:=[pI 0,pS ByteArray.empty,pI 0,pN]) rfl rfl rfl rfl rfl bB rW (aL [(5,pI x4)] (by kernel_rfl) (aW (di (k:=3) (b:=b3) rfl bB (cd (aO ?_)))))))
  obtain rfl:=osi h
  exact aI (bD (cg rfl dt rfl) (aD rfl)) bZ ⟨rfl,rfl⟩
 refine ae ?_
 refine cQ (aa h fun x6 hx6 h=>aB [1] [14,15] [(16,pB (!x6))] (bw 1 (oW hx6) bL) (by kernel_rfl) (dW rfl h (fun hc7 h=>?_) fun hc7 h=>?_))
 ·refine ah ?_
  refine cP 1 [(17,.agg [pI 0,pS ByteArray.empty,pI 0,pN])] (by kernel_rfl) (aH rfl rfl (ag (vs:=[pI 0,pS ByteArray.empty,pI 0,pN]) rfl rfl rfl rfl rfl bB rW (aL [(5,pI 2)] (by kernel_rfl) (aW (di (k:=3) (b:=b3) rfl bB (cd (aO ?_)))))))
  obtain rfl:=osi h
  exact aI (bD (cg rfl dt rfl) (aD rfl)) bZ ⟨rfl,rfl⟩
 refine ae ?_
 refine cw (ap [(7,pI 0)] (by kernel_rfl) (dV h fun q11 hq11 h=>?_))
 refine av (Y:=Unit×Int) (fun (_,v9)=>[(2,pP b1 0),(3,pP b2 0),(4,pP b3 0),(7,pI v9)]) (fun (_,v9)=>[PRes.b b1 43 (bj p0),PRes.b b2 93 (aU p1),PRes.b b3 43 [pI 0,pS ByteArray.empty,pI 0,pN]]) (fun (_,v9)=>q11=v9) ?_ ?_
 ·refine aR ?_
  refine aZ (Y:=Unit) (S:=Int) _ hq11 (fun _ v8=>[(2,pP b1 0),(3,pP b2 0),(4,pP b3 0),(7,pI v8)]) (fun _ v8=>[PRes.b b1 43 (bj p0),PRes.b b2 93 (aU p1),PRes.b b3 43 [pI 0,pS ByteArray.empty,pI 0,pN]]) () (iP rfl) (bq (aC (aC aN)) (bq (aC aN) cq)) ?_
  rintro _ v8 o τ hb10;(try dsimp only at hb10);dsimp only [aK]
  refine gh (bN (ρd:=[]) [(0,0),(1,0),(2,0),(3,0),(4,0),(5,0),(6,0),(7,0),(8,0),(9,0),(10,0),(11,0),(12,1),(13,0)] _ (List.Perm.refl _) (by kernel_rfl) rfl (aa hb10 fun m12 hm12 hb10=>aa hb10 fun x13 hx13 hb10=>cr 14 [0,0,1] (rg 18 13) [(31,pB ((decide (v8<(p0.Facts.length:Int)))&&x13))] (jW 9 Za.enc (cY hm12) (eU 12 (fun hc=>nD (cY hx13 hc)) bL)) (by kernel_rfl) (cC (dW rfl hb10 (fun hc14 hb10=>?_) fun hc14 hb10=>?_))))
  ·refine ae ?_
   refine aW (aR (an [32,33] [(7,pI (IntKind.i64.wrap (v8+1)))] (by kernel_rfl) (aq ?_)))
   exact bt hb10 () (iP rfl) kY
  refine bc ?_
  refine aP (aJ hb10 (fun ht=>aM rfl ?_))
  exact am ((),v8) (iP rfl) kY ht.symm
 rintro ⟨_,v9⟩ τ hz;(try dsimp only at hz);subst q11;(try dsimp only at h);dsimp only [aK]
 refine gh (bN (ρd:=[]) [(0,0),(1,0),(2,0),(3,0),(4,0),(5,0),(6,0),(7,0),(8,0),(9,0),(10,0),(11,0),(12,0),(13,0),(14,0),(15,0),(16,0),(17,0),(18,0),(19,0),(20,0),(21,0),(22,0),(23,0),(24,0),(25,0),(26,0)] _ (List.Perm.refl _) (by kernel_rfl) rfl (aa h fun m15 hm15 h=>aa h fun m16 hm16 h=>cr 27 [0,0,1,0,1] (rg 34 26) [(60,pB (((decide (v9<(p0.Facts.length:Int)))&&(m15.From == p1.From))&&(m16.Number == p1.Number)))] (jW 9 Za.enc (cY hm15) (jW 20 Za.enc (cY hm16) bL)) (by kernel_rfl) (cC (dW rfl h (fun hc17 h=>?_) fun hc17 h=>?_))))
 ·refine ah ?_
  refine ah (bN (ρd:=[]) [(0,0),(1,0),(2,0),(3,0),(4,0),(5,0),(6,0)] _ (List.Perm.refl _) (by kernel_rfl) rfl (aa h fun m18 hm18 h=>cr 7 [0,1] (rg 61 6) [(67,pB (!(Za.eqb m18 p1)))] (fC 3 Za.enc hm18 (De 6 Za.eqok93 bL)) (by kernel_rfl) (cC (dW rfl h (fun hc19 h=>?_) fun hc19 h=>?_))))
  ·refine ah ?_
   refine cP 1 [(68,.agg [pI 0,pS ByteArray.empty,pI 0,pN])] (by kernel_rfl) (aH rfl rfl (ag (vs:=[pI 0,pS ByteArray.empty,pI 0,pN]) rfl rfl rfl rfl rfl (bx (bx bB)) rW (aL [(5,pI 14)] (by kernel_rfl) (aW (di (k:=3) (b:=b3) rfl (bx (bx bB)) (cd (aO (aO ?_))))))))
   obtain rfl:=osi h
   exact aI (bD (cg rfl kb rfl) (aD rfl)) bZ ⟨rfl,rfl⟩
  refine ae ?_
  refine cw (aj (dY 1 [0] [(69,.agg (bj p0))] (by kernel_rfl) (aH rfl rfl (ag (vs:=(bj p0)) rfl rfl rfl rfl rfl (bx (bx bB)) rW (aL [(5,pI 0)] (by kernel_rfl) (ua ?_))))))
  obtain rfl:=osi h
  exact aI (bD (cg rfl kb rfl) (aD rfl)) bZ ⟨rfl,rfl⟩
 refine ae ?_
 refine cQ (aV [0] [70,71,72] [(73,pB (decide (200≤(p0.Facts.length:Int))))] (by kernel_rfl) (dW rfl h (fun hc20 h=>?_) fun hc20 h=>?_))
 ·refine ah ?_
  refine cP 1 [(74,.agg [pI 0,pS ByteArray.empty,pI 0,pN])] (by kernel_rfl) (aH rfl rfl (ag (vs:=[pI 0,pS ByteArray.empty,pI 0,pN]) rfl rfl rfl rfl rfl (bx (bx bB)) rW (aL [(5,pI 8)] (by kernel_rfl) (aW (di (k:=3) (b:=b3) rfl (bx (bx bB)) (cd (aO ?_)))))))
  obtain rfl:=osi h
  exact aI (bD (cg rfl kb rfl) (aD rfl)) bZ ⟨rfl,rfl⟩
 refine ae ?_
 refine dV h fun l23 hl23 h=>aa h fun l24 hl24 h=>aa h fun l30 hl30 h=>aa h fun l34 hl34 h=>aa h fun l35 hl35 h=>?_
 refine av (Y:=Option Addr×Nat) (fun (a36,c37)=>[(2,pP b1 0),(4,pP b3 0)]) (fun (a36,c37)=>[PRes.b b1 43 [pI p0.Source,pS p0.Code,pI p0.Units,pO a36 l35.length c37],PRes.b b3 43 [pI 0,pS ByteArray.empty,pI 0,pN],PRes.row a36 l35.length c37 93 7 (List.map Za.enc l35)]) (fun _=>True) ?_ ?_
 ·refine hU (ρd:=[PRes.b b1 _ _]) _ (List.Perm.refl _) ?_
  refine az 1 (by kernel_rfl) rfl rfl rfl rfl (ak rfl rfl rfl rfl rfl (.p rfl)) (az 3 (by kernel_rfl) rfl rfl rfl rfl (cM (p:=pI v9) rfl (.p rfl)) (az 6 (by kernel_rfl) rfl rfl rfl rfl (aw (p:=.agg (aU p1)) rfl (.p rfl) dt rfl) (az 9 (by kernel_rfl) rfl rfl rfl rfl (ak rfl rfl rfl rfl rfl (.p rfl)) (az 11 (by kernel_rfl) rfl rfl rfl rfl (cM (p:=pI v9) rfl (.p rfl)) ?_))))
  refine C4 0 2 7 10 (by kernel_rfl) ?_ ?_ ?_ ?_
  ·skip
   refine af rfl rfl rfl rfl (bg rfl rfl rfl rfl rfl eY rfl rfl rfl rfl (fun b21=>?_))
   refine jm 2 7 10 (by kernel_rfl) ?_ ?_ ?_
   ·skip
    refine af rfl rfl rfl rfl (bX (aw (p:=pL Za.enc p0.Facts) rfl (.p rfl) fR rfl) (az 4 (by kernel_rfl) rfl rfl rfl rfl (ep (enc:=Za.enc) rfl rfl rfl (fun _=>rfl) (.p rfl) (.p rfl) (fun _=>hl23)) ?_))
    refine jm 5 7 10 (by kernel_rfl) ?_ ?_ ?_
    ·skip
     refine af rfl rfl rfl rfl (aS (enc:=Za.enc) rfl rfl rfl rfl rfl (fun _=>rfl) rfl rfl rfl (by exact aN) hl24 (fun a25 c26=>?_))
     refine bA 7 10 (by kernel_rfl) ?_ ?_
     ·skip
      refine af rfl rfl rfl rfl (bg rfl rfl rfl rfl rfl (dI rfl eY) rfl rfl rfl rfl (fun b28=>?_))
      refine bA 8 10 (by kernel_rfl) ?_ ?_
      ·skip
       refine af rfl rfl rfl rfl (bd (enc:=Za.enc) rfl rfl rfl rfl rfl rfl rfl rfl rfl dt (by exact aC aN) hl30 (fun a31 c32=>?_))
       refine ai 10 (by kernel_rfl) (af rfl rfl rfl rfl (bX (aw (p:=pL Za.enc p0.Facts) rfl (.p rfl) kb rfl) (az 12 (by kernel_rfl) rfl rfl rfl rfl (bQ (enc:=Za.enc) rfl rfl rfl (fun _=>rfl) (.p rfl) (.p rfl) (fun _=>hl34)) (ai 13 (by kernel_rfl) ?_))))
       refine af rfl rfl rfl rfl (aS (enc:=Za.enc) rfl rfl rfl rfl rfl (fun _=>rfl) rfl rfl rfl (by exact aN) hl35 (fun a36 c37=>?_))
       refine az 14 (by kernel_rfl) rfl rfl rfl rfl (ak rfl rfl rfl rfl rfl (.p rfl)) (ai 15 (by kernel_rfl) (aQ rfl rfl rfl (ag (vs:=[pO a36 l35.length c37]) rfl rfl rfl rfl rfl (bx (bx bB)) (bf (bf (bf cN))) (aT (by kernel_rfl) ?_))))
       exact am (a36,c37) (eN rfl) (bq (aC (aC aN)) (bq (aC (aC (aC aN))) cq)) trivial
      skip
      refine af rfl rfl rfl rfl (bX (aw (p:=pL Za.enc p0.Facts) rfl (.p rfl) kb rfl) (az 12 (by kernel_rfl) rfl rfl rfl rfl (bQ (enc:=Za.enc) rfl rfl rfl (fun _=>rfl) (.p rfl) (.p rfl) (fun _=>hl34)) (ai 8 (by kernel_rfl) ?_)))
      refine af rfl rfl rfl rfl (bd (enc:=Za.enc) rfl rfl rfl rfl rfl rfl rfl rfl rfl dt (by exact aC aN) hl30 (fun a31 c32=>?_))
      refine ai 13 (by kernel_rfl) ?_
      refine af rfl rfl rfl rfl (aS (enc:=Za.enc) rfl rfl rfl rfl rfl (fun _=>rfl) rfl rfl rfl (by exact aN) hl35 (fun a36 c37=>?_))
      refine az 14 (by kernel_rfl) rfl rfl rfl rfl (ak rfl rfl rfl rfl rfl (.p rfl)) (ai 15 (by kernel_rfl) (aQ rfl rfl rfl (ag (vs:=[pO a36 l35.length c37]) rfl rfl rfl rfl rfl (bx (bx bB)) (bf (bf (bf cN))) (aT (by kernel_rfl) ?_))))
      exact am (a36,c37) (eN rfl) (bq (aC (aC aN)) (bq (aC (aC (aC aN))) cq)) trivial
     skip
     refine af rfl rfl rfl rfl (bX (aw (p:=pL Za.enc p0.Facts) rfl (.p rfl) fR rfl) (az 12 (by kernel_rfl) rfl rfl rfl rfl (bQ (enc:=Za.enc) rfl rfl rfl (fun _=>rfl) (.p rfl) (.p rfl) (fun _=>hl34)) (ai 7 (by kernel_rfl) (af rfl rfl rfl rfl (bg rfl rfl rfl rfl rfl (dI rfl eY) rfl rfl rfl rfl (fun b28=>ai 8 (by kernel_rfl) ?_))))))
     refine af rfl rfl rfl rfl (bd (enc:=Za.enc) rfl rfl rfl rfl rfl rfl rfl rfl rfl dt (by exact aC aN) hl30 (fun a31 c32=>?_))
     refine ai 13 (by kernel_rfl) ?_
     refine af rfl rfl rfl rfl (aS (enc:=Za.enc) rfl rfl rfl rfl rfl (fun _=>rfl) rfl rfl rfl (by exact aN) hl35 (fun a36 c37=>?_))
     refine az 14 (by kernel_rfl) rfl rfl rfl rfl (ak rfl rfl rfl rfl rfl (.p rfl)) (ai 15 (by kernel_rfl) (aQ rfl rfl rfl (ag (vs:=[pO a36 l35.length c37]) rfl rfl rfl rfl rfl (bx (bx bB)) (bf (bf (bf cN))) (aT (by kernel_rfl) ?_))))
     exact am (a36,c37) (eN rfl) (bq (aC (aC aN)) (bq (aC (aC (aC aN))) cq)) trivial
    ·skip
     refine af rfl rfl rfl rfl (bg rfl rfl rfl rfl rfl (dI rfl eY) rfl rfl rfl rfl (fun b28=>?_))
     refine bA 5 10 (by kernel_rfl) ?_ ?_
     ·skip
      refine af rfl rfl rfl rfl (aS (enc:=Za.enc) rfl rfl rfl rfl rfl (fun _=>rfl) rfl rfl rfl (by exact aC aN) hl24 (fun a25 c26=>?_))
      refine bA 8 10 (by kernel_rfl) ?_ ?_
      ·skip
       refine af rfl rfl rfl rfl (bd (enc:=Za.enc) rfl rfl rfl rfl rfl rfl rfl rfl rfl fR (by exact aN) hl30 (fun a31 c32=>?_))
       refine ai 10 (by kernel_rfl) (af rfl rfl rfl rfl (bX (aw (p:=pL Za.enc p0.Facts) rfl (.p rfl) kb rfl) (az 12 (by kernel_rfl) rfl rfl rfl rfl (bQ (enc:=Za.enc) rfl rfl rfl (fun _=>rfl) (.p rfl) (.p rfl) (fun _=>hl34)) (ai 13 (by kernel_rfl) ?_))))
       refine af rfl rfl rfl rfl (aS (enc:=Za.enc) rfl rfl rfl rfl rfl (fun _=>rfl) rfl rfl rfl (by exact aN) hl35 (fun a36 c37=>?_))
       refine az 14 (by kernel_rfl) rfl rfl rfl rfl (ak rfl rfl rfl rfl rfl (.p rfl)) (ai 15 (by kernel_rfl) (aQ rfl rfl rfl (ag (vs:=[pO a36 l35.length c37]) rfl rfl rfl rfl rfl (bx (bx bB)) (bf (bf (bf cN))) (aT (by kernel_rfl) ?_))))
       exact am (a36,c37) (eN rfl) (bq (aC (aC aN)) (bq (aC (aC (aC aN))) cq)) trivial
      skip
      refine af rfl rfl rfl rfl (bX (aw (p:=pL Za.enc p0.Facts) rfl (.p rfl) kb rfl) (az 12 (by kernel_rfl) rfl rfl rfl rfl (bQ (enc:=Za.enc) rfl rfl rfl (fun _=>rfl) (.p rfl) (.p rfl) (fun _=>hl34)) (ai 8 (by kernel_rfl) ?_)))
      refine af rfl rfl rfl rfl (bd (enc:=Za.enc) rfl rfl rfl rfl rfl rfl rfl rfl rfl fR (by exact aN) hl30 (fun a31 c32=>?_))
      refine ai 13 (by kernel_rfl) ?_
      refine af rfl rfl rfl rfl (aS (enc:=Za.enc) rfl rfl rfl rfl rfl (fun _=>rfl) rfl rfl rfl (by exact aN) hl35 (fun a36 c37=>?_))
      refine az 14 (by kernel_rfl) rfl rfl rfl rfl (ak rfl rfl rfl rfl rfl (.p rfl)) (ai 15 (by kernel_rfl) (aQ rfl rfl rfl (ag (vs:=[pO a36 l35.length c37]) rfl rfl rfl rfl rfl (bx (bx bB)) (bf (bf (bf cN))) (aT (by kernel_rfl) ?_))))
      exact am (a36,c37) (eN rfl) (bq (aC (aC aN)) (bq (aC (aC (aC aN))) cq)) trivial
     skip
     refine af rfl rfl rfl rfl (bX (aw (p:=pL Za.enc p0.Facts) rfl (.p rfl) kb rfl) (az 12 (by kernel_rfl) rfl rfl rfl rfl (bQ (enc:=Za.enc) rfl rfl rfl (fun _=>rfl) (.p rfl) (.p rfl) (fun _=>hl34)) (ai 5 (by kernel_rfl) ?_)))
     refine af rfl rfl rfl rfl (aS (enc:=Za.enc) rfl rfl rfl rfl rfl (fun _=>rfl) rfl rfl rfl (by exact aC aN) hl24 (fun a25 c26=>?_))
     refine ai 8 (by kernel_rfl) ?_
     refine af rfl rfl rfl rfl (bd (enc:=Za.enc) rfl rfl rfl rfl rfl rfl rfl rfl rfl fR (by exact aN) hl30 (fun a31 c32=>?_))
     refine ai 13 (by kernel_rfl) ?_
     refine af rfl rfl rfl rfl (aS (enc:=Za.enc) rfl rfl rfl rfl rfl (fun _=>rfl) rfl rfl rfl (by exact aN) hl35 (fun a36 c37=>?_))
     refine az 14 (by kernel_rfl) rfl rfl rfl rfl (ak rfl rfl rfl rfl rfl (.p rfl)) (ai 15 (by kernel_rfl) (aQ rfl rfl rfl (ag (vs:=[pO a36 l35.length c37]) rfl rfl rfl rfl rfl (bx (bx bB)) (bf (bf (bf cN))) (aT (by kernel_rfl) ?_))))
     exact am (a36,c37) (eN rfl) (bq (aC (aC aN)) (bq (aC (aC (aC aN))) cq)) trivial
    skip
    refine af rfl rfl rfl rfl (bX (aw (p:=pL Za.enc p0.Facts) rfl (.p rfl) fR rfl) (az 12 (by kernel_rfl) rfl rfl rfl rfl (bQ (enc:=Za.enc) rfl rfl rfl (fun _=>rfl) (.p rfl) (.p rfl) (fun _=>hl34)) ?_))
    refine bA 5 7 (by kernel_rfl) ?_ ?_
    ·skip
     refine af rfl rfl rfl rfl (aS (enc:=Za.enc) rfl rfl rfl rfl rfl (fun _=>rfl) rfl rfl rfl (by exact aN) hl24 (fun a25 c26=>?_))
     refine ai 7 (by kernel_rfl) (af rfl rfl rfl rfl (bg rfl rfl rfl rfl rfl (dI rfl eY) rfl rfl rfl rfl (fun b28=>ai 8 (by kernel_rfl) ?_)))
     refine af rfl rfl rfl rfl (bd (enc:=Za.enc) rfl rfl rfl rfl rfl rfl rfl rfl rfl dt (by exact aC aN) hl30 (fun a31 c32=>?_))
     refine ai 13 (by kernel_rfl) ?_
     refine af rfl rfl rfl rfl (aS (enc:=Za.enc) rfl rfl rfl rfl rfl (fun _=>rfl) rfl rfl rfl (by exact aN) hl35 (fun a36 c37=>?_))
     refine az 14 (by kernel_rfl) rfl rfl rfl rfl (ak rfl rfl rfl rfl rfl (.p rfl)) (ai 15 (by kernel_rfl) (aQ rfl rfl rfl (ag (vs:=[pO a36 l35.length c37]) rfl rfl rfl rfl rfl (bx (bx bB)) (bf (bf (bf cN))) (aT (by kernel_rfl) ?_))))
     exact am (a36,c37) (eN rfl) (bq (aC (aC aN)) (bq (aC (aC (aC aN))) cq)) trivial
    skip
    refine af rfl rfl rfl rfl (bg rfl rfl rfl rfl rfl (dI rfl eY) rfl rfl rfl rfl (fun b28=>ai 5 (by kernel_rfl) ?_))
    refine af rfl rfl rfl rfl (aS (enc:=Za.enc) rfl rfl rfl rfl rfl (fun _=>rfl) rfl rfl rfl (by exact aC aN) hl24 (fun a25 c26=>?_))
    refine ai 8 (by kernel_rfl) ?_
    refine af rfl rfl rfl rfl (bd (enc:=Za.enc) rfl rfl rfl rfl rfl rfl rfl rfl rfl fR (by exact aN) hl30 (fun a31 c32=>?_))
    refine ai 13 (by kernel_rfl) ?_
    refine af rfl rfl rfl rfl (aS (enc:=Za.enc) rfl rfl rfl rfl rfl (fun _=>rfl) rfl rfl rfl (by exact aN) hl35 (fun a36 c37=>?_))
    refine az 14 (by kernel_rfl) rfl rfl rfl rfl (ak rfl rfl rfl rfl rfl (.p rfl)) (ai 15 (by kernel_rfl) (aQ rfl rfl rfl (ag (vs:=[pO a36 l35.length c37]) rfl rfl rfl rfl rfl (bx (bx bB)) (bf (bf (bf cN))) (aT (by kernel_rfl) ?_))))
    exact am (a36,c37) (eN rfl) (bq (aC (aC aN)) (bq (aC (aC (aC aN))) cq)) trivial
   ·skip
    refine af rfl rfl rfl rfl (bg rfl rfl rfl rfl rfl (dI rfl eY) rfl rfl rfl rfl (fun b28=>?_))
    refine bA 2 10 (by kernel_rfl) ?_ ?_
    ·skip
     refine af rfl rfl rfl rfl (bX (aw (p:=pL Za.enc p0.Facts) rfl (.p rfl) kb rfl) (az 4 (by kernel_rfl) rfl rfl rfl rfl (ep (enc:=Za.enc) rfl rfl rfl (fun _=>rfl) (.p rfl) (.p rfl) (fun _=>hl23)) ?_))
     refine bA 5 10 (by kernel_rfl) ?_ ?_
     ·skip
      refine af rfl rfl rfl rfl (aS (enc:=Za.enc) rfl rfl rfl rfl rfl (fun _=>rfl) rfl rfl rfl (by exact aC aN) hl24 (fun a25 c26=>?_))
      refine bA 8 10 (by kernel_rfl) ?_ ?_
      ·skip
       refine af rfl rfl rfl rfl (bd (enc:=Za.enc) rfl rfl rfl rfl rfl rfl rfl rfl rfl fR (by exact aN) hl30 (fun a31 c32=>?_))
       refine ai 10 (by kernel_rfl) (af rfl rfl rfl rfl (bX (aw (p:=pL Za.enc p0.Facts) rfl (.p rfl) kb rfl) (az 12 (by kernel_rfl) rfl rfl rfl rfl (bQ (enc:=Za.enc) rfl rfl rfl (fun _=>rfl) (.p rfl) (.p rfl) (fun _=>hl34)) (ai 13 (by kernel_rfl) ?_))))
       refine af rfl rfl rfl rfl (aS (enc:=Za.enc) rfl rfl rfl rfl rfl (fun _=>rfl) rfl rfl rfl (by exact aN) hl35 (fun a36 c37=>?_))
       refine az 14 (by kernel_rfl) rfl rfl rfl rfl (ak rfl rfl rfl rfl rfl (.p rfl)) (ai 15 (by kernel_rfl) (aQ rfl rfl rfl (ag (vs:=[pO a36 l35.length c37]) rfl rfl rfl rfl rfl (bx (bx bB)) (bf (bf (bf cN))) (aT (by kernel_rfl) ?_))))
       exact am (a36,c37) (eN rfl) (bq (aC (aC aN)) (bq (aC (aC (aC aN))) cq)) trivial
      skip
      refine af rfl rfl rfl rfl (bX (aw (p:=pL Za.enc p0.Facts) rfl (.p rfl) kb rfl) (az 12 (by kernel_rfl) rfl rfl rfl rfl (bQ (enc:=Za.enc) rfl rfl rfl (fun _=>rfl) (.p rfl) (.p rfl) (fun _=>hl34)) (ai 8 (by kernel_rfl) ?_)))
      refine af rfl rfl rfl rfl (bd (enc:=Za.enc) rfl rfl rfl rfl rfl rfl rfl rfl rfl fR (by exact aN) hl30 (fun a31 c32=>?_))
      refine ai 13 (by kernel_rfl) ?_
      refine af rfl rfl rfl rfl (aS (enc:=Za.enc) rfl rfl rfl rfl rfl (fun _=>rfl) rfl rfl rfl (by exact aN) hl35 (fun a36 c37=>?_))
      refine az 14 (by kernel_rfl) rfl rfl rfl rfl (ak rfl rfl rfl rfl rfl (.p rfl)) (ai 15 (by kernel_rfl) (aQ rfl rfl rfl (ag (vs:=[pO a36 l35.length c37]) rfl rfl rfl rfl rfl (bx (bx bB)) (bf (bf (bf cN))) (aT (by kernel_rfl) ?_))))
      exact am (a36,c37) (eN rfl) (bq (aC (aC aN)) (bq (aC (aC (aC aN))) cq)) trivial
     skip
     refine af rfl rfl rfl rfl (bX (aw (p:=pL Za.enc p0.Facts) rfl (.p rfl) kb rfl) (az 12 (by kernel_rfl) rfl rfl rfl rfl (bQ (enc:=Za.enc) rfl rfl rfl (fun _=>rfl) (.p rfl) (.p rfl) (fun _=>hl34)) (ai 5 (by kernel_rfl) ?_)))
     refine af rfl rfl rfl rfl (aS (enc:=Za.enc) rfl rfl rfl rfl rfl (fun _=>rfl) rfl rfl rfl (by exact aC aN) hl24 (fun a25 c26=>?_))
     refine ai 8 (by kernel_rfl) ?_
     refine af rfl rfl rfl rfl (bd (enc:=Za.enc) rfl rfl rfl rfl rfl rfl rfl rfl rfl fR (by exact aN) hl30 (fun a31 c32=>?_))
     refine ai 13 (by kernel_rfl) ?_
     refine af rfl rfl rfl rfl (aS (enc:=Za.enc) rfl rfl rfl rfl rfl (fun _=>rfl) rfl rfl rfl (by exact aN) hl35 (fun a36 c37=>?_))
     refine az 14 (by kernel_rfl) rfl rfl rfl rfl (ak rfl rfl rfl rfl rfl (.p rfl)) (ai 15 (by kernel_rfl) (aQ rfl rfl rfl (ag (vs:=[pO a36 l35.length c37]) rfl rfl rfl rfl rfl (bx (bx bB)) (bf (bf (bf cN))) (aT (by kernel_rfl) ?_))))
     exact am (a36,c37) (eN rfl) (bq (aC (aC aN)) (bq (aC (aC (aC aN))) cq)) trivial
    skip
    refine af rfl rfl rfl rfl (bX (aw (p:=pL Za.enc p0.Facts) rfl (.p rfl) kb rfl) (az 12 (by kernel_rfl) rfl rfl rfl rfl (bQ (enc:=Za.enc) rfl rfl rfl (fun _=>rfl) (.p rfl) (.p rfl) (fun _=>hl34)) (ai 2 (by kernel_rfl) (af rfl rfl rfl rfl (bX (aw (p:=pL Za.enc p0.Facts) rfl (.p rfl) kb rfl) (az 4 (by kernel_rfl) rfl rfl rfl rfl (ep (enc:=Za.enc) rfl rfl rfl (fun _=>rfl) (.p rfl) (.p rfl) (fun _=>hl23)) (ai 5 (by kernel_rfl) ?_)))))))
    refine af rfl rfl rfl rfl (aS (enc:=Za.enc) rfl rfl rfl rfl rfl (fun _=>rfl) rfl rfl rfl (by exact aC aN) hl24 (fun a25 c26=>?_))
    refine ai 8 (by kernel_rfl) ?_
    refine af rfl rfl rfl rfl (bd (enc:=Za.enc) rfl rfl rfl rfl rfl rfl rfl rfl rfl fR (by exact aN) hl30 (fun a31 c32=>?_))
    refine ai 13 (by kernel_rfl) ?_
    refine af rfl rfl rfl rfl (aS (enc:=Za.enc) rfl rfl rfl rfl rfl (fun _=>rfl) rfl rfl rfl (by exact aN) hl35 (fun a36 c37=>?_))
    refine az 14 (by kernel_rfl) rfl rfl rfl rfl (ak rfl rfl rfl rfl rfl (.p rfl)) (ai 15 (by kernel_rfl) (aQ rfl rfl rfl (ag (vs:=[pO a36 l35.length c37]) rfl rfl rfl rfl rfl (bx (bx bB)) (bf (bf (bf cN))) (aT (by kernel_rfl) ?_))))
    exact am (a36,c37) (eN rfl) (bq (aC (aC aN)) (bq (aC (aC (aC aN))) cq)) trivial
   skip
   refine af rfl rfl rfl rfl (bX (aw (p:=pL Za.enc p0.Facts) rfl (.p rfl) fR rfl) (az 12 (by kernel_rfl) rfl rfl rfl rfl (bQ (enc:=Za.enc) rfl rfl rfl (fun _=>rfl) (.p rfl) (.p rfl) (fun _=>hl34)) ?_))
   refine bA 2 7 (by kernel_rfl) ?_ ?_
   ·skip
    refine af rfl rfl rfl rfl (bX (aw (p:=pL Za.enc p0.Facts) rfl (.p rfl) fR rfl) (az 4 (by kernel_rfl) rfl rfl rfl rfl (ep (enc:=Za.enc) rfl rfl rfl (fun _=>rfl) (.p rfl) (.p rfl) (fun _=>hl23)) ?_))
    refine bA 5 7 (by kernel_rfl) ?_ ?_
    ·skip
     refine af rfl rfl rfl rfl (aS (enc:=Za.enc) rfl rfl rfl rfl rfl (fun _=>rfl) rfl rfl rfl (by exact aN) hl24 (fun a25 c26=>?_))
     refine ai 7 (by kernel_rfl) (af rfl rfl rfl rfl (bg rfl rfl rfl rfl rfl (dI rfl eY) rfl rfl rfl rfl (fun b28=>ai 8 (by kernel_rfl) ?_)))
     refine af rfl rfl rfl rfl (bd (enc:=Za.enc) rfl rfl rfl rfl rfl rfl rfl rfl rfl dt (by exact aC aN) hl30 (fun a31 c32=>?_))
     refine ai 13 (by kernel_rfl) ?_
     refine af rfl rfl rfl rfl (aS (enc:=Za.enc) rfl rfl rfl rfl rfl (fun _=>rfl) rfl rfl rfl (by exact aN) hl35 (fun a36 c37=>?_))
     refine az 14 (by kernel_rfl) rfl rfl rfl rfl (ak rfl rfl rfl rfl rfl (.p rfl)) (ai 15 (by kernel_rfl) (aQ rfl rfl rfl (ag (vs:=[pO a36 l35.length c37]) rfl rfl rfl rfl rfl (bx (bx bB)) (bf (bf (bf cN))) (aT (by kernel_rfl) ?_))))
     exact am (a36,c37) (eN rfl) (bq (aC (aC aN)) (bq (aC (aC (aC aN))) cq)) trivial
    skip
    refine af rfl rfl rfl rfl (bg rfl rfl rfl rfl rfl (dI rfl eY) rfl rfl rfl rfl (fun b28=>ai 5 (by kernel_rfl) ?_))
    refine af rfl rfl rfl rfl (aS (enc:=Za.enc) rfl rfl rfl rfl rfl (fun _=>rfl) rfl rfl rfl (by exact aC aN) hl24 (fun a25 c26=>?_))
    refine ai 8 (by kernel_rfl) ?_
    refine af rfl rfl rfl rfl (bd (enc:=Za.enc) rfl rfl rfl rfl rfl rfl rfl rfl rfl fR (by exact aN) hl30 (fun a31 c32=>?_))
    refine ai 13 (by kernel_rfl) ?_
    refine af rfl rfl rfl rfl (aS (enc:=Za.enc) rfl rfl rfl rfl rfl (fun _=>rfl) rfl rfl rfl (by exact aN) hl35 (fun a36 c37=>?_))
    refine az 14 (by kernel_rfl) rfl rfl rfl rfl (ak rfl rfl rfl rfl rfl (.p rfl)) (ai 15 (by kernel_rfl) (aQ rfl rfl rfl (ag (vs:=[pO a36 l35.length c37]) rfl rfl rfl rfl rfl (bx (bx bB)) (bf (bf (bf cN))) (aT (by kernel_rfl) ?_))))
    exact am (a36,c37) (eN rfl) (bq (aC (aC aN)) (bq (aC (aC (aC aN))) cq)) trivial
   skip
   refine af rfl rfl rfl rfl (bg rfl rfl rfl rfl rfl (dI rfl eY) rfl rfl rfl rfl (fun b28=>ai 2 (by kernel_rfl) (af rfl rfl rfl rfl (bX (aw (p:=pL Za.enc p0.Facts) rfl (.p rfl) kb rfl) (az 4 (by kernel_rfl) rfl rfl rfl rfl (ep (enc:=Za.enc) rfl rfl rfl (fun _=>rfl) (.p rfl) (.p rfl) (fun _=>hl23)) (ai 5 (by kernel_rfl) ?_))))))
   refine af rfl rfl rfl rfl (aS (enc:=Za.enc) rfl rfl rfl rfl rfl (fun _=>rfl) rfl rfl rfl (by exact aC aN) hl24 (fun a25 c26=>?_))
   refine ai 8 (by kernel_rfl) ?_
   refine af rfl rfl rfl rfl (bd (enc:=Za.enc) rfl rfl rfl rfl rfl rfl rfl rfl rfl fR (by exact aN) hl30 (fun a31 c32=>?_))
   refine ai 13 (by kernel_rfl) ?_
   refine af rfl rfl rfl rfl (aS (enc:=Za.enc) rfl rfl rfl rfl rfl (fun _=>rfl) rfl rfl rfl (by exact aN) hl35 (fun a36 c37=>?_))
   refine az 14 (by kernel_rfl) rfl rfl rfl rfl (ak rfl rfl rfl rfl rfl (.p rfl)) (ai 15 (by kernel_rfl) (aQ rfl rfl rfl (ag (vs:=[pO a36 l35.length c37]) rfl rfl rfl rfl rfl (bx (bx bB)) (bf (bf (bf cN))) (aT (by kernel_rfl) ?_))))
   exact am (a36,c37) (eN rfl) (bq (aC (aC aN)) (bq (aC (aC (aC aN))) cq)) trivial
  ·skip
   refine af rfl rfl rfl rfl (bX (aw (p:=pL Za.enc p0.Facts) rfl (.p rfl) dt rfl) (az 4 (by kernel_rfl) rfl rfl rfl rfl (ep (enc:=Za.enc) rfl rfl rfl (fun _=>rfl) (.p rfl) (.p rfl) (fun _=>hl23)) ?_))
   refine jm 0 7 10 (by kernel_rfl) ?_ ?_ ?_
   ·skip
    refine af rfl rfl rfl rfl (bg rfl rfl rfl rfl rfl eY rfl rfl rfl rfl (fun b21=>?_))
    refine jm 5 7 10 (by kernel_rfl) ?_ ?_ ?_
    ·skip
     refine af rfl rfl rfl rfl (aS (enc:=Za.enc) rfl rfl rfl rfl rfl (fun _=>rfl) rfl rfl rfl (by exact aN) hl24 (fun a25 c26=>?_))
     refine bA 7 10 (by kernel_rfl) ?_ ?_
     ·skip
      refine af rfl rfl rfl rfl (bg rfl rfl rfl rfl rfl (dI rfl eY) rfl rfl rfl rfl (fun b28=>?_))
      refine bA 8 10 (by kernel_rfl) ?_ ?_
      ·skip
       refine af rfl rfl rfl rfl (bd (enc:=Za.enc) rfl rfl rfl rfl rfl rfl rfl rfl rfl dt (by exact aC aN) hl30 (fun a31 c32=>?_))
       refine ai 10 (by kernel_rfl) (af rfl rfl rfl rfl (bX (aw (p:=pL Za.enc p0.Facts) rfl (.p rfl) kb rfl) (az 12 (by kernel_rfl) rfl rfl rfl rfl (bQ (enc:=Za.enc) rfl rfl rfl (fun _=>rfl) (.p rfl) (.p rfl) (fun _=>hl34)) (ai 13 (by kernel_rfl) ?_))))
       refine af rfl rfl rfl rfl (aS (enc:=Za.enc) rfl rfl rfl rfl rfl (fun _=>rfl) rfl rfl rfl (by exact aN) hl35 (fun a36 c37=>?_))
       refine az 14 (by kernel_rfl) rfl rfl rfl rfl (ak rfl rfl rfl rfl rfl (.p rfl)) (ai 15 (by kernel_rfl) (aQ rfl rfl rfl (ag (vs:=[pO a36 l35.length c37]) rfl rfl rfl rfl rfl (bx (bx bB)) (bf (bf (bf cN))) (aT (by kernel_rfl) ?_))))
       exact am (a36,c37) (eN rfl) (bq (aC (aC aN)) (bq (aC (aC (aC aN))) cq)) trivial
      skip
      refine af rfl rfl rfl rfl (bX (aw (p:=pL Za.enc p0.Facts) rfl (.p rfl) kb rfl) (az 12 (by kernel_rfl) rfl rfl rfl rfl (bQ (enc:=Za.enc) rfl rfl rfl (fun _=>rfl) (.p rfl) (.p rfl) (fun _=>hl34)) (ai 8 (by kernel_rfl) ?_)))
      refine af rfl rfl rfl rfl (bd (enc:=Za.enc) rfl rfl rfl rfl rfl rfl rfl rfl rfl dt (by exact aC aN) hl30 (fun a31 c32=>?_))
      refine ai 13 (by kernel_rfl) ?_
      refine af rfl rfl rfl rfl (aS (enc:=Za.enc) rfl rfl rfl rfl rfl (fun _=>rfl) rfl rfl rfl (by exact aN) hl35 (fun a36 c37=>?_))
      refine az 14 (by kernel_rfl) rfl rfl rfl rfl (ak rfl rfl rfl rfl rfl (.p rfl)) (ai 15 (by kernel_rfl) (aQ rfl rfl rfl (ag (vs:=[pO a36 l35.length c37]) rfl rfl rfl rfl rfl (bx (bx bB)) (bf (bf (bf cN))) (aT (by kernel_rfl) ?_))))
      exact am (a36,c37) (eN rfl) (bq (aC (aC aN)) (bq (aC (aC (aC aN))) cq)) trivial
     skip
     refine af rfl rfl rfl rfl (bX (aw (p:=pL Za.enc p0.Facts) rfl (.p rfl) fR rfl) (az 12 (by kernel_rfl) rfl rfl rfl rfl (bQ (enc:=Za.enc) rfl rfl rfl (fun _=>rfl) (.p rfl) (.p rfl) (fun _=>hl34)) (ai 7 (by kernel_rfl) (af rfl rfl rfl rfl (bg rfl rfl rfl rfl rfl (dI rfl eY) rfl rfl rfl rfl (fun b28=>ai 8 (by kernel_rfl) ?_))))))
     refine af rfl rfl rfl rfl (bd (enc:=Za.enc) rfl rfl rfl rfl rfl rfl rfl rfl rfl dt (by exact aC aN) hl30 (fun a31 c32=>?_))
     refine ai 13 (by kernel_rfl) ?_
     refine af rfl rfl rfl rfl (aS (enc:=Za.enc) rfl rfl rfl rfl rfl (fun _=>rfl) rfl rfl rfl (by exact aN) hl35 (fun a36 c37=>?_))
     refine az 14 (by kernel_rfl) rfl rfl rfl rfl (ak rfl rfl rfl rfl rfl (.p rfl)) (ai 15 (by kernel_rfl) (aQ rfl rfl rfl (ag (vs:=[pO a36 l35.length c37]) rfl rfl rfl rfl rfl (bx (bx bB)) (bf (bf (bf cN))) (aT (by kernel_rfl) ?_))))
     exact am (a36,c37) (eN rfl) (bq (aC (aC aN)) (bq (aC (aC (aC aN))) cq)) trivial
    ·skip
     refine af rfl rfl rfl rfl (bg rfl rfl rfl rfl rfl (dI rfl eY) rfl rfl rfl rfl (fun b28=>?_))
     refine bA 5 10 (by kernel_rfl) ?_ ?_
     ·skip
      refine af rfl rfl rfl rfl (aS (enc:=Za.enc) rfl rfl rfl rfl rfl (fun _=>rfl) rfl rfl rfl (by exact aC aN) hl24 (fun a25 c26=>?_))
      refine bA 8 10 (by kernel_rfl) ?_ ?_
      ·skip
       refine af rfl rfl rfl rfl (bd (enc:=Za.enc) rfl rfl rfl rfl rfl rfl rfl rfl rfl fR (by exact aN) hl30 (fun a31 c32=>?_))
       refine ai 10 (by kernel_rfl) (af rfl rfl rfl rfl (bX (aw (p:=pL Za.enc p0.Facts) rfl (.p rfl) kb rfl) (az 12 (by kernel_rfl) rfl rfl rfl rfl (bQ (enc:=Za.enc) rfl rfl rfl (fun _=>rfl) (.p rfl) (.p rfl) (fun _=>hl34)) (ai 13 (by kernel_rfl) ?_))))
       refine af rfl rfl rfl rfl (aS (enc:=Za.enc) rfl rfl rfl rfl rfl (fun _=>rfl) rfl rfl rfl (by exact aN) hl35 (fun a36 c37=>?_))
       refine az 14 (by kernel_rfl) rfl rfl rfl rfl (ak rfl rfl rfl rfl rfl (.p rfl)) (ai 15 (by kernel_rfl) (aQ rfl rfl rfl (ag (vs:=[pO a36 l35.length c37]) rfl rfl rfl rfl rfl (bx (bx bB)) (bf (bf (bf cN))) (aT (by kernel_rfl) ?_))))
       exact am (a36,c37) (eN rfl) (bq (aC (aC aN)) (bq (aC (aC (aC aN))) cq)) trivial
      skip
      refine af rfl rfl rfl rfl (bX (aw (p:=pL Za.enc p0.Facts) rfl (.p rfl) kb rfl) (az 12 (by kernel_rfl) rfl rfl rfl rfl (bQ (enc:=Za.enc) rfl rfl rfl (fun _=>rfl) (.p rfl) (.p rfl) (fun _=>hl34)) (ai 8 (by kernel_rfl) ?_)))
      refine af rfl rfl rfl rfl (bd (enc:=Za.enc) rfl rfl rfl rfl rfl rfl rfl rfl rfl fR (by exact aN) hl30 (fun a31 c32=>?_))
      refine ai 13 (by kernel_rfl) ?_
      refine af rfl rfl rfl rfl (aS (enc:=Za.enc) rfl rfl rfl rfl rfl (fun _=>rfl) rfl rfl rfl (by exact aN) hl35 (fun a36 c37=>?_))
      refine az 14 (by kernel_rfl) rfl rfl rfl rfl (ak rfl rfl rfl rfl rfl (.p rfl)) (ai 15 (by kernel_rfl) (aQ rfl rfl rfl (ag (vs:=[pO a36 l35.length c37]) rfl rfl rfl rfl rfl (bx (bx bB)) (bf (bf (bf cN))) (aT (by kernel_rfl) ?_))))
      exact am (a36,c37) (eN rfl) (bq (aC (aC aN)) (bq (aC (aC (aC aN))) cq)) trivial
     skip
     refine af rfl rfl rfl rfl (bX (aw (p:=pL Za.enc p0.Facts) rfl (.p rfl) kb rfl) (az 12 (by kernel_rfl) rfl rfl rfl rfl (bQ (enc:=Za.enc) rfl rfl rfl (fun _=>rfl) (.p rfl) (.p rfl) (fun _=>hl34)) (ai 5 (by kernel_rfl) ?_)))
     refine af rfl rfl rfl rfl (aS (enc:=Za.enc) rfl rfl rfl rfl rfl (fun _=>rfl) rfl rfl rfl (by exact aC aN) hl24 (fun a25 c26=>?_))
     refine ai 8 (by kernel_rfl) ?_
     refine af rfl rfl rfl rfl (bd (enc:=Za.enc) rfl rfl rfl rfl rfl rfl rfl rfl rfl fR (by exact aN) hl30 (fun a31 c32=>?_))
     refine ai 13 (by kernel_rfl) ?_
     refine af rfl rfl rfl rfl (aS (enc:=Za.enc) rfl rfl rfl rfl rfl (fun _=>rfl) rfl rfl rfl (by exact aN) hl35 (fun a36 c37=>?_))
     refine az 14 (by kernel_rfl) rfl rfl rfl rfl (ak rfl rfl rfl rfl rfl (.p rfl)) (ai 15 (by kernel_rfl) (aQ rfl rfl rfl (ag (vs:=[pO a36 l35.length c37]) rfl rfl rfl rfl rfl (bx (bx bB)) (bf (bf (bf cN))) (aT (by kernel_rfl) ?_))))
     exact am (a36,c37) (eN rfl) (bq (aC (aC aN)) (bq (aC (aC (aC aN))) cq)) trivial
    skip
    refine af rfl rfl rfl rfl (bX (aw (p:=pL Za.enc p0.Facts) rfl (.p rfl) fR rfl) (az 12 (by kernel_rfl) rfl rfl rfl rfl (bQ (enc:=Za.enc) rfl rfl rfl (fun _=>rfl) (.p rfl) (.p rfl) (fun _=>hl34)) ?_))
    refine bA 5 7 (by kernel_rfl) ?_ ?_
    ·skip
     refine af rfl rfl rfl rfl (aS (enc:=Za.enc) rfl rfl rfl rfl rfl (fun _=>rfl) rfl rfl rfl (by exact aN) hl24 (fun a25 c26=>?_))
     refine ai 7 (by kernel_rfl) (af rfl rfl rfl rfl (bg rfl rfl rfl rfl rfl (dI rfl eY) rfl rfl rfl rfl (fun b28=>ai 8 (by kernel_rfl) ?_)))
     refine af rfl rfl rfl rfl (bd (enc:=Za.enc) rfl rfl rfl rfl rfl rfl rfl rfl rfl dt (by exact aC aN) hl30 (fun a31 c32=>?_))
     refine ai 13 (by kernel_rfl) ?_
     refine af rfl rfl rfl rfl (aS (enc:=Za.enc) rfl rfl rfl rfl rfl (fun _=>rfl) rfl rfl rfl (by exact aN) hl35 (fun a36 c37=>?_))
     refine az 14 (by kernel_rfl) rfl rfl rfl rfl (ak rfl rfl rfl rfl rfl (.p rfl)) (ai 15 (by kernel_rfl) (aQ rfl rfl rfl (ag (vs:=[pO a36 l35.length c37]) rfl rfl rfl rfl rfl (bx (bx bB)) (bf (bf (bf cN))) (aT (by kernel_rfl) ?_))))
     exact am (a36,c37) (eN rfl) (bq (aC (aC aN)) (bq (aC (aC (aC aN))) cq)) trivial
    skip
    refine af rfl rfl rfl rfl (bg rfl rfl rfl rfl rfl (dI rfl eY) rfl rfl rfl rfl (fun b28=>ai 5 (by kernel_rfl) ?_))
    refine af rfl rfl rfl rfl (aS (enc:=Za.enc) rfl rfl rfl rfl rfl (fun _=>rfl) rfl rfl rfl (by exact aC aN) hl24 (fun a25 c26=>?_))
    refine ai 8 (by kernel_rfl) ?_
    refine af rfl rfl rfl rfl (bd (enc:=Za.enc) rfl rfl rfl rfl rfl rfl rfl rfl rfl fR (by exact aN) hl30 (fun a31 c32=>?_))
    refine ai 13 (by kernel_rfl) ?_
    refine af rfl rfl rfl rfl (aS (enc:=Za.enc) rfl rfl rfl rfl rfl (fun _=>rfl) rfl rfl rfl (by exact aN) hl35 (fun a36 c37=>?_))
    refine az 14 (by kernel_rfl) rfl rfl rfl rfl (ak rfl rfl rfl rfl rfl (.p rfl)) (ai 15 (by kernel_rfl) (aQ rfl rfl rfl (ag (vs:=[pO a36 l35.length c37]) rfl rfl rfl rfl rfl (bx (bx bB)) (bf (bf (bf cN))) (aT (by kernel_rfl) ?_))))
    exact am (a36,c37) (eN rfl) (bq (aC (aC aN)) (bq (aC (aC (aC aN))) cq)) trivial
   ·skip
    refine af rfl rfl rfl rfl (bg rfl rfl rfl rfl rfl (dI rfl eY) rfl rfl rfl rfl (fun b28=>?_))
    refine bA 0 10 (by kernel_rfl) ?_ ?_
    ·skip
     refine af rfl rfl rfl rfl (bg rfl rfl rfl rfl rfl eY rfl rfl rfl rfl (fun b21=>?_))
     refine bA 5 10 (by kernel_rfl) ?_ ?_
     ·skip
      refine af rfl rfl rfl rfl (aS (enc:=Za.enc) rfl rfl rfl rfl rfl (fun _=>rfl) rfl rfl rfl (by exact aN) hl24 (fun a25 c26=>?_))
      refine bA 8 10 (by kernel_rfl) ?_ ?_
      ·skip
       refine af rfl rfl rfl rfl (bd (enc:=Za.enc) rfl rfl rfl rfl rfl rfl rfl rfl rfl fR (by exact aN) hl30 (fun a31 c32=>?_))
       refine ai 10 (by kernel_rfl) (af rfl rfl rfl rfl (bX (aw (p:=pL Za.enc p0.Facts) rfl (.p rfl) kb rfl) (az 12 (by kernel_rfl) rfl rfl rfl rfl (bQ (enc:=Za.enc) rfl rfl rfl (fun _=>rfl) (.p rfl) (.p rfl) (fun _=>hl34)) (ai 13 (by kernel_rfl) ?_))))
       refine af rfl rfl rfl rfl (aS (enc:=Za.enc) rfl rfl rfl rfl rfl (fun _=>rfl) rfl rfl rfl (by exact aN) hl35 (fun a36 c37=>?_))
       refine az 14 (by kernel_rfl) rfl rfl rfl rfl (ak rfl rfl rfl rfl rfl (.p rfl)) (ai 15 (by kernel_rfl) (aQ rfl rfl rfl (ag (vs:=[pO a36 l35.length c37]) rfl rfl rfl rfl rfl (bx (bx bB)) (bf (bf (bf cN))) (aT (by kernel_rfl) ?_))))
       exact am (a36,c37) (eN rfl) (bq (aC (aC aN)) (bq (aC (aC (aC aN))) cq)) trivial
      skip
      refine af rfl rfl rfl rfl (bX (aw (p:=pL Za.enc p0.Facts) rfl (.p rfl) kb rfl) (az 12 (by kernel_rfl) rfl rfl rfl rfl (bQ (enc:=Za.enc) rfl rfl rfl (fun _=>rfl) (.p rfl) (.p rfl) (fun _=>hl34)) (ai 8 (by kernel_rfl) ?_)))
      refine af rfl rfl rfl rfl (bd (enc:=Za.enc) rfl rfl rfl rfl rfl rfl rfl rfl rfl fR (by exact aN) hl30 (fun a31 c32=>?_))
      refine ai 13 (by kernel_rfl) ?_
      refine af rfl rfl rfl rfl (aS (enc:=Za.enc) rfl rfl rfl rfl rfl (fun _=>rfl) rfl rfl rfl (by exact aN) hl35 (fun a36 c37=>?_))
      refine az 14 (by kernel_rfl) rfl rfl rfl rfl (ak rfl rfl rfl rfl rfl (.p rfl)) (ai 15 (by kernel_rfl) (aQ rfl rfl rfl (ag (vs:=[pO a36 l35.length c37]) rfl rfl rfl rfl rfl (bx (bx bB)) (bf (bf (bf cN))) (aT (by kernel_rfl) ?_))))
      exact am (a36,c37) (eN rfl) (bq (aC (aC aN)) (bq (aC (aC (aC aN))) cq)) trivial
     skip
     refine af rfl rfl rfl rfl (bX (aw (p:=pL Za.enc p0.Facts) rfl (.p rfl) kb rfl) (az 12 (by kernel_rfl) rfl rfl rfl rfl (bQ (enc:=Za.enc) rfl rfl rfl (fun _=>rfl) (.p rfl) (.p rfl) (fun _=>hl34)) (ai 5 (by kernel_rfl) ?_)))
     refine af rfl rfl rfl rfl (aS (enc:=Za.enc) rfl rfl rfl rfl rfl (fun _=>rfl) rfl rfl rfl (by exact aN) hl24 (fun a25 c26=>?_))
     refine ai 8 (by kernel_rfl) ?_
     refine af rfl rfl rfl rfl (bd (enc:=Za.enc) rfl rfl rfl rfl rfl rfl rfl rfl rfl fR (by exact aN) hl30 (fun a31 c32=>?_))
     refine ai 13 (by kernel_rfl) ?_
     refine af rfl rfl rfl rfl (aS (enc:=Za.enc) rfl rfl rfl rfl rfl (fun _=>rfl) rfl rfl rfl (by exact aN) hl35 (fun a36 c37=>?_))
     refine az 14 (by kernel_rfl) rfl rfl rfl rfl (ak rfl rfl rfl rfl rfl (.p rfl)) (ai 15 (by kernel_rfl) (aQ rfl rfl rfl (ag (vs:=[pO a36 l35.length c37]) rfl rfl rfl rfl rfl (bx (bx bB)) (bf (bf (bf cN))) (aT (by kernel_rfl) ?_))))
     exact am (a36,c37) (eN rfl) (bq (aC (aC aN)) (bq (aC (aC (aC aN))) cq)) trivial
    skip
    refine af rfl rfl rfl rfl (bX (aw (p:=pL Za.enc p0.Facts) rfl (.p rfl) fR rfl) (az 12 (by kernel_rfl) rfl rfl rfl rfl (bQ (enc:=Za.enc) rfl rfl rfl (fun _=>rfl) (.p rfl) (.p rfl) (fun _=>hl34)) (ai 0 (by kernel_rfl) (af rfl rfl rfl rfl (bg rfl rfl rfl rfl rfl eY rfl rfl rfl rfl (fun b21=>ai 5 (by kernel_rfl) ?_))))))
    refine af rfl rfl rfl rfl (aS (enc:=Za.enc) rfl rfl rfl rfl rfl (fun _=>rfl) rfl rfl rfl (by exact aN) hl24 (fun a25 c26=>?_))
    refine ai 8 (by kernel_rfl) ?_
    refine af rfl rfl rfl rfl (bd (enc:=Za.enc) rfl rfl rfl rfl rfl rfl rfl rfl rfl fR (by exact aN) hl30 (fun a31 c32=>?_))
    refine ai 13 (by kernel_rfl) ?_
    refine af rfl rfl rfl rfl (aS (enc:=Za.enc) rfl rfl rfl rfl rfl (fun _=>rfl) rfl rfl rfl (by exact aN) hl35 (fun a36 c37=>?_))
    refine az 14 (by kernel_rfl) rfl rfl rfl rfl (ak rfl rfl rfl rfl rfl (.p rfl)) (ai 15 (by kernel_rfl) (aQ rfl rfl rfl (ag (vs:=[pO a36 l35.length c37]) rfl rfl rfl rfl rfl (bx (bx bB)) (bf (bf (bf cN))) (aT (by kernel_rfl) ?_))))
    exact am (a36,c37) (eN rfl) (bq (aC (aC aN)) (bq (aC (aC (aC aN))) cq)) trivial
   skip
   refine af rfl rfl rfl rfl (bX (aw (p:=pL Za.enc p0.Facts) rfl (.p rfl) dt rfl) (az 12 (by kernel_rfl) rfl rfl rfl rfl (bQ (enc:=Za.enc) rfl rfl rfl (fun _=>rfl) (.p rfl) (.p rfl) (fun _=>hl34)) ?_))
   refine bA 0 7 (by kernel_rfl) ?_ ?_
   ·skip
    refine af rfl rfl rfl rfl (bg rfl rfl rfl rfl rfl eY rfl rfl rfl rfl (fun b21=>?_))
    refine bA 5 7 (by kernel_rfl) ?_ ?_
    ·skip
     refine af rfl rfl rfl rfl (aS (enc:=Za.enc) rfl rfl rfl rfl rfl (fun _=>rfl) rfl rfl rfl (by exact aN) hl24 (fun a25 c26=>?_))
     refine ai 7 (by kernel_rfl) (af rfl rfl rfl rfl (bg rfl rfl rfl rfl rfl (dI rfl eY) rfl rfl rfl rfl (fun b28=>ai 8 (by kernel_rfl) ?_)))
     refine af rfl rfl rfl rfl (bd (enc:=Za.enc) rfl rfl rfl rfl rfl rfl rfl rfl rfl dt (by exact aC aN) hl30 (fun a31 c32=>?_))
     refine ai 13 (by kernel_rfl) ?_
     refine af rfl rfl rfl rfl (aS (enc:=Za.enc) rfl rfl rfl rfl rfl (fun _=>rfl) rfl rfl rfl (by exact aN) hl35 (fun a36 c37=>?_))
     refine az 14 (by kernel_rfl) rfl rfl rfl rfl (ak rfl rfl rfl rfl rfl (.p rfl)) (ai 15 (by kernel_rfl) (aQ rfl rfl rfl (ag (vs:=[pO a36 l35.length c37]) rfl rfl rfl rfl rfl (bx (bx bB)) (bf (bf (bf cN))) (aT (by kernel_rfl) ?_))))
     exact am (a36,c37) (eN rfl) (bq (aC (aC aN)) (bq (aC (aC (aC aN))) cq)) trivial
    skip
    refine af rfl rfl rfl rfl (bg rfl rfl rfl rfl rfl (dI rfl eY) rfl rfl rfl rfl (fun b28=>ai 5 (by kernel_rfl) ?_))
    refine af rfl rfl rfl rfl (aS (enc:=Za.enc) rfl rfl rfl rfl rfl (fun _=>rfl) rfl rfl rfl (by exact aC aN) hl24 (fun a25 c26=>?_))
    refine ai 8 (by kernel_rfl) ?_
    refine af rfl rfl rfl rfl (bd (enc:=Za.enc) rfl rfl rfl rfl rfl rfl rfl rfl rfl fR (by exact aN) hl30 (fun a31 c32=>?_))
    refine ai 13 (by kernel_rfl) ?_
    refine af rfl rfl rfl rfl (aS (enc:=Za.enc) rfl rfl rfl rfl rfl (fun _=>rfl) rfl rfl rfl (by exact aN) hl35 (fun a36 c37=>?_))
    refine az 14 (by kernel_rfl) rfl rfl rfl rfl (ak rfl rfl rfl rfl rfl (.p rfl)) (ai 15 (by kernel_rfl) (aQ rfl rfl rfl (ag (vs:=[pO a36 l35.length c37]) rfl rfl rfl rfl rfl (bx (bx bB)) (bf (bf (bf cN))) (aT (by kernel_rfl) ?_))))
    exact am (a36,c37) (eN rfl) (bq (aC (aC aN)) (bq (aC (aC (aC aN))) cq)) trivial
   skip
   refine af rfl rfl rfl rfl (bg rfl rfl rfl rfl rfl (dI rfl eY) rfl rfl rfl rfl (fun b28=>ai 0 (by kernel_rfl) (af rfl rfl rfl rfl (bg rfl rfl rfl rfl rfl eY rfl rfl rfl rfl (fun b21=>ai 5 (by kernel_rfl) ?_)))))
   refine af rfl rfl rfl rfl (aS (enc:=Za.enc) rfl rfl rfl rfl rfl (fun _=>rfl) rfl rfl rfl (by exact aN) hl24 (fun a25 c26=>?_))
   refine ai 8 (by kernel_rfl) ?_
   refine af rfl rfl rfl rfl (bd (enc:=Za.enc) rfl rfl rfl rfl rfl rfl rfl rfl rfl fR (by exact aN) hl30 (fun a31 c32=>?_))
   refine ai 13 (by kernel_rfl) ?_
   refine af rfl rfl rfl rfl (aS (enc:=Za.enc) rfl rfl rfl rfl rfl (fun _=>rfl) rfl rfl rfl (by exact aN) hl35 (fun a36 c37=>?_))
   refine az 14 (by kernel_rfl) rfl rfl rfl rfl (ak rfl rfl rfl rfl rfl (.p rfl)) (ai 15 (by kernel_rfl) (aQ rfl rfl rfl (ag (vs:=[pO a36 l35.length c37]) rfl rfl rfl rfl rfl (bx (bx bB)) (bf (bf (bf cN))) (aT (by kernel_rfl) ?_))))
   exact am (a36,c37) (eN rfl) (bq (aC (aC aN)) (bq (aC (aC (aC aN))) cq)) trivial
  ·skip
   refine af rfl rfl rfl rfl (bg rfl rfl rfl rfl rfl (dI rfl eY) rfl rfl rfl rfl (fun b28=>?_))
   refine jm 0 2 10 (by kernel_rfl) ?_ ?_ ?_
   ·skip
    refine af rfl rfl rfl rfl (bg rfl rfl rfl rfl rfl eY rfl rfl rfl rfl (fun b21=>?_))
    refine bA 2 10 (by kernel_rfl) ?_ ?_
    ·skip
     refine af rfl rfl rfl rfl (bX (aw (p:=pL Za.enc p0.Facts) rfl (.p rfl) kb rfl) (az 4 (by kernel_rfl) rfl rfl rfl rfl (ep (enc:=Za.enc) rfl rfl rfl (fun _=>rfl) (.p rfl) (.p rfl) (fun _=>hl23)) ?_))
     refine bA 5 10 (by kernel_rfl) ?_ ?_
     ·skip
      refine af rfl rfl rfl rfl (aS (enc:=Za.enc) rfl rfl rfl rfl rfl (fun _=>rfl) rfl rfl rfl (by exact aN) hl24 (fun a25 c26=>?_))
      refine bA 8 10 (by kernel_rfl) ?_ ?_
      ·skip
       refine af rfl rfl rfl rfl (bd (enc:=Za.enc) rfl rfl rfl rfl rfl rfl rfl rfl rfl fR (by exact aN) hl30 (fun a31 c32=>?_))
       refine ai 10 (by kernel_rfl) (af rfl rfl rfl rfl (bX (aw (p:=pL Za.enc p0.Facts) rfl (.p rfl) kb rfl) (az 12 (by kernel_rfl) rfl rfl rfl rfl (bQ (enc:=Za.enc) rfl rfl rfl (fun _=>rfl) (.p rfl) (.p rfl) (fun _=>hl34)) (ai 13 (by kernel_rfl) ?_))))
       refine af rfl rfl rfl rfl (aS (enc:=Za.enc) rfl rfl rfl rfl rfl (fun _=>rfl) rfl rfl rfl (by exact aN) hl35 (fun a36 c37=>?_))
       refine az 14 (by kernel_rfl) rfl rfl rfl rfl (ak rfl rfl rfl rfl rfl (.p rfl)) (ai 15 (by kernel_rfl) (aQ rfl rfl rfl (ag (vs:=[pO a36 l35.length c37]) rfl rfl rfl rfl rfl (bx (bx bB)) (bf (bf (bf cN))) (aT (by kernel_rfl) ?_))))
       exact am (a36,c37) (eN rfl) (bq (aC (aC aN)) (bq (aC (aC (aC aN))) cq)) trivial
      skip
      refine af rfl rfl rfl rfl (bX (aw (p:=pL Za.enc p0.Facts) rfl (.p rfl) kb rfl) (az 12 (by kernel_rfl) rfl rfl rfl rfl (bQ (enc:=Za.enc) rfl rfl rfl (fun _=>rfl) (.p rfl) (.p rfl) (fun _=>hl34)) (ai 8 (by kernel_rfl) ?_)))
      refine af rfl rfl rfl rfl (bd (enc:=Za.enc) rfl rfl rfl rfl rfl rfl rfl rfl rfl fR (by exact aN) hl30 (fun a31 c32=>?_))
      refine ai 13 (by kernel_rfl) ?_
      refine af rfl rfl rfl rfl (aS (enc:=Za.enc) rfl rfl rfl rfl rfl (fun _=>rfl) rfl rfl rfl (by exact aN) hl35 (fun a36 c37=>?_))
      refine az 14 (by kernel_rfl) rfl rfl rfl rfl (ak rfl rfl rfl rfl rfl (.p rfl)) (ai 15 (by kernel_rfl) (aQ rfl rfl rfl (ag (vs:=[pO a36 l35.length c37]) rfl rfl rfl rfl rfl (bx (bx bB)) (bf (bf (bf cN))) (aT (by kernel_rfl) ?_))))
      exact am (a36,c37) (eN rfl) (bq (aC (aC aN)) (bq (aC (aC (aC aN))) cq)) trivial
     skip
     refine af rfl rfl rfl rfl (bX (aw (p:=pL Za.enc p0.Facts) rfl (.p rfl) kb rfl) (az 12 (by kernel_rfl) rfl rfl rfl rfl (bQ (enc:=Za.enc) rfl rfl rfl (fun _=>rfl) (.p rfl) (.p rfl) (fun _=>hl34)) (ai 5 (by kernel_rfl) ?_)))
     refine af rfl rfl rfl rfl (aS (enc:=Za.enc) rfl rfl rfl rfl rfl (fun _=>rfl) rfl rfl rfl (by exact aN) hl24 (fun a25 c26=>?_))
     refine ai 8 (by kernel_rfl) ?_
     refine af rfl rfl rfl rfl (bd (enc:=Za.enc) rfl rfl rfl rfl rfl rfl rfl rfl rfl fR (by exact aN) hl30 (fun a31 c32=>?_))
     refine ai 13 (by kernel_rfl) ?_
     refine af rfl rfl rfl rfl (aS (enc:=Za.enc) rfl rfl rfl rfl rfl (fun _=>rfl) rfl rfl rfl (by exact aN) hl35 (fun a36 c37=>?_))
     refine az 14 (by kernel_rfl) rfl rfl rfl rfl (ak rfl rfl rfl rfl rfl (.p rfl)) (ai 15 (by kernel_rfl) (aQ rfl rfl rfl (ag (vs:=[pO a36 l35.length c37]) rfl rfl rfl rfl rfl (bx (bx bB)) (bf (bf (bf cN))) (aT (by kernel_rfl) ?_))))
     exact am (a36,c37) (eN rfl) (bq (aC (aC aN)) (bq (aC (aC (aC aN))) cq)) trivial
    skip
    refine af rfl rfl rfl rfl (bX (aw (p:=pL Za.enc p0.Facts) rfl (.p rfl) kb rfl) (az 12 (by kernel_rfl) rfl rfl rfl rfl (bQ (enc:=Za.enc) rfl rfl rfl (fun _=>rfl) (.p rfl) (.p rfl) (fun _=>hl34)) (ai 2 (by kernel_rfl) (af rfl rfl rfl rfl (bX (aw (p:=pL Za.enc p0.Facts) rfl (.p rfl) kb rfl) (az 4 (by kernel_rfl) rfl rfl rfl rfl (ep (enc:=Za.enc) rfl rfl rfl (fun _=>rfl) (.p rfl) (.p rfl) (fun _=>hl23)) (ai 5 (by kernel_rfl) ?_)))))))
    refine af rfl rfl rfl rfl (aS (enc:=Za.enc) rfl rfl rfl rfl rfl (fun _=>rfl) rfl rfl rfl (by exact aN) hl24 (fun a25 c26=>?_))
    refine ai 8 (by kernel_rfl) ?_
    refine af rfl rfl rfl rfl (bd (enc:=Za.enc) rfl rfl rfl rfl rfl rfl rfl rfl rfl fR (by exact aN) hl30 (fun a31 c32=>?_))
    refine ai 13 (by kernel_rfl) ?_
    refine af rfl rfl rfl rfl (aS (enc:=Za.enc) rfl rfl rfl rfl rfl (fun _=>rfl) rfl rfl rfl (by exact aN) hl35 (fun a36 c37=>?_))
    refine az 14 (by kernel_rfl) rfl rfl rfl rfl (ak rfl rfl rfl rfl rfl (.p rfl)) (ai 15 (by kernel_rfl) (aQ rfl rfl rfl (ag (vs:=[pO a36 l35.length c37]) rfl rfl rfl rfl rfl (bx (bx bB)) (bf (bf (bf cN))) (aT (by kernel_rfl) ?_))))
    exact am (a36,c37) (eN rfl) (bq (aC (aC aN)) (bq (aC (aC (aC aN))) cq)) trivial
   ·skip
    refine af rfl rfl rfl rfl (bX (aw (p:=pL Za.enc p0.Facts) rfl (.p rfl) fR rfl) (az 4 (by kernel_rfl) rfl rfl rfl rfl (ep (enc:=Za.enc) rfl rfl rfl (fun _=>rfl) (.p rfl) (.p rfl) (fun _=>hl23)) ?_))
    refine bA 0 10 (by kernel_rfl) ?_ ?_
    ·skip
     refine af rfl rfl rfl rfl (bg rfl rfl rfl rfl rfl eY rfl rfl rfl rfl (fun b21=>?_))
     refine bA 5 10 (by kernel_rfl) ?_ ?_
     ·skip
      refine af rfl rfl rfl rfl (aS (enc:=Za.enc) rfl rfl rfl rfl rfl (fun _=>rfl) rfl rfl rfl (by exact aN) hl24 (fun a25 c26=>?_))
      refine bA 8 10 (by kernel_rfl) ?_ ?_
      ·skip
       refine af rfl rfl rfl rfl (bd (enc:=Za.enc) rfl rfl rfl rfl rfl rfl rfl rfl rfl fR (by exact aN) hl30 (fun a31 c32=>?_))
       refine ai 10 (by kernel_rfl) (af rfl rfl rfl rfl (bX (aw (p:=pL Za.enc p0.Facts) rfl (.p rfl) kb rfl) (az 12 (by kernel_rfl) rfl rfl rfl rfl (bQ (enc:=Za.enc) rfl rfl rfl (fun _=>rfl) (.p rfl) (.p rfl) (fun _=>hl34)) (ai 13 (by kernel_rfl) ?_))))
       refine af rfl rfl rfl rfl (aS (enc:=Za.enc) rfl rfl rfl rfl rfl (fun _=>rfl) rfl rfl rfl (by exact aN) hl35 (fun a36 c37=>?_))
       refine az 14 (by kernel_rfl) rfl rfl rfl rfl (ak rfl rfl rfl rfl rfl (.p rfl)) (ai 15 (by kernel_rfl) (aQ rfl rfl rfl (ag (vs:=[pO a36 l35.length c37]) rfl rfl rfl rfl rfl (bx (bx bB)) (bf (bf (bf cN))) (aT (by kernel_rfl) ?_))))
       exact am (a36,c37) (eN rfl) (bq (aC (aC aN)) (bq (aC (aC (aC aN))) cq)) trivial
      skip
      refine af rfl rfl rfl rfl (bX (aw (p:=pL Za.enc p0.Facts) rfl (.p rfl) kb rfl) (az 12 (by kernel_rfl) rfl rfl rfl rfl (bQ (enc:=Za.enc) rfl rfl rfl (fun _=>rfl) (.p rfl) (.p rfl) (fun _=>hl34)) (ai 8 (by kernel_rfl) ?_)))
      refine af rfl rfl rfl rfl (bd (enc:=Za.enc) rfl rfl rfl rfl rfl rfl rfl rfl rfl fR (by exact aN) hl30 (fun a31 c32=>?_))
      refine ai 13 (by kernel_rfl) ?_
      refine af rfl rfl rfl rfl (aS (enc:=Za.enc) rfl rfl rfl rfl rfl (fun _=>rfl) rfl rfl rfl (by exact aN) hl35 (fun a36 c37=>?_))
      refine az 14 (by kernel_rfl) rfl rfl rfl rfl (ak rfl rfl rfl rfl rfl (.p rfl)) (ai 15 (by kernel_rfl) (aQ rfl rfl rfl (ag (vs:=[pO a36 l35.length c37]) rfl rfl rfl rfl rfl (bx (bx bB)) (bf (bf (bf cN))) (aT (by kernel_rfl) ?_))))
      exact am (a36,c37) (eN rfl) (bq (aC (aC aN)) (bq (aC (aC (aC aN))) cq)) trivial
     skip
     refine af rfl rfl rfl rfl (bX (aw (p:=pL Za.enc p0.Facts) rfl (.p rfl) kb rfl) (az 12 (by kernel_rfl) rfl rfl rfl rfl (bQ (enc:=Za.enc) rfl rfl rfl (fun _=>rfl) (.p rfl) (.p rfl) (fun _=>hl34)) (ai 5 (by kernel_rfl) ?_)))
     refine af rfl rfl rfl rfl (aS (enc:=Za.enc) rfl rfl rfl rfl rfl (fun _=>rfl) rfl rfl rfl (by exact aN) hl24 (fun a25 c26=>?_))
     refine ai 8 (by kernel_rfl) ?_
     refine af rfl rfl rfl rfl (bd (enc:=Za.enc) rfl rfl rfl rfl rfl rfl rfl rfl rfl fR (by exact aN) hl30 (fun a31 c32=>?_))
     refine ai 13 (by kernel_rfl) ?_
     refine af rfl rfl rfl rfl (aS (enc:=Za.enc) rfl rfl rfl rfl rfl (fun _=>rfl) rfl rfl rfl (by exact aN) hl35 (fun a36 c37=>?_))
     refine az 14 (by kernel_rfl) rfl rfl rfl rfl (ak rfl rfl rfl rfl rfl (.p rfl)) (ai 15 (by kernel_rfl) (aQ rfl rfl rfl (ag (vs:=[pO a36 l35.length c37]) rfl rfl rfl rfl rfl (bx (bx bB)) (bf (bf (bf cN))) (aT (by kernel_rfl) ?_))))
     exact am (a36,c37) (eN rfl) (bq (aC (aC aN)) (bq (aC (aC (aC aN))) cq)) trivial
    skip
    refine af rfl rfl rfl rfl (bX (aw (p:=pL Za.enc p0.Facts) rfl (.p rfl) fR rfl) (az 12 (by kernel_rfl) rfl rfl rfl rfl (bQ (enc:=Za.enc) rfl rfl rfl (fun _=>rfl) (.p rfl) (.p rfl) (fun _=>hl34)) (ai 0 (by kernel_rfl) (af rfl rfl rfl rfl (bg rfl rfl rfl rfl rfl eY rfl rfl rfl rfl (fun b21=>ai 5 (by kernel_rfl) ?_))))))
    refine af rfl rfl rfl rfl (aS (enc:=Za.enc) rfl rfl rfl rfl rfl (fun _=>rfl) rfl rfl rfl (by exact aN) hl24 (fun a25 c26=>?_))
    refine ai 8 (by kernel_rfl) ?_
    refine af rfl rfl rfl rfl (bd (enc:=Za.enc) rfl rfl rfl rfl rfl rfl rfl rfl rfl fR (by exact aN) hl30 (fun a31 c32=>?_))
    refine ai 13 (by kernel_rfl) ?_
    refine af rfl rfl rfl rfl (aS (enc:=Za.enc) rfl rfl rfl rfl rfl (fun _=>rfl) rfl rfl rfl (by exact aN) hl35 (fun a36 c37=>?_))
    refine az 14 (by kernel_rfl) rfl rfl rfl rfl (ak rfl rfl rfl rfl rfl (.p rfl)) (ai 15 (by kernel_rfl) (aQ rfl rfl rfl (ag (vs:=[pO a36 l35.length c37]) rfl rfl rfl rfl rfl (bx (bx bB)) (bf (bf (bf cN))) (aT (by kernel_rfl) ?_))))
    exact am (a36,c37) (eN rfl) (bq (aC (aC aN)) (bq (aC (aC (aC aN))) cq)) trivial
   skip
   refine af rfl rfl rfl rfl (bX (aw (p:=pL Za.enc p0.Facts) rfl (.p rfl) fR rfl) (az 12 (by kernel_rfl) rfl rfl rfl rfl (bQ (enc:=Za.enc) rfl rfl rfl (fun _=>rfl) (.p rfl) (.p rfl) (fun _=>hl34)) ?_))
   refine bA 0 2 (by kernel_rfl) ?_ ?_
   ·skip
    refine af rfl rfl rfl rfl (bg rfl rfl rfl rfl rfl eY rfl rfl rfl rfl (fun b21=>ai 2 (by kernel_rfl) (af rfl rfl rfl rfl (bX (aw (p:=pL Za.enc p0.Facts) rfl (.p rfl) kb rfl) (az 4 (by kernel_rfl) rfl rfl rfl rfl (ep (enc:=Za.enc) rfl rfl rfl (fun _=>rfl) (.p rfl) (.p rfl) (fun _=>hl23)) (ai 5 (by kernel_rfl) ?_))))))
    refine af rfl rfl rfl rfl (aS (enc:=Za.enc) rfl rfl rfl rfl rfl (fun _=>rfl) rfl rfl rfl (by exact aN) hl24 (fun a25 c26=>?_))
    refine ai 8 (by kernel_rfl) ?_
    refine af rfl rfl rfl rfl (bd (enc:=Za.enc) rfl rfl rfl rfl rfl rfl rfl rfl rfl fR (by exact aN) hl30 (fun a31 c32=>?_))
    refine ai 13 (by kernel_rfl) ?_
    refine af rfl rfl rfl rfl (aS (enc:=Za.enc) rfl rfl rfl rfl rfl (fun _=>rfl) rfl rfl rfl (by exact aN) hl35 (fun a36 c37=>?_))
    refine az 14 (by kernel_rfl) rfl rfl rfl rfl (ak rfl rfl rfl rfl rfl (.p rfl)) (ai 15 (by kernel_rfl) (aQ rfl rfl rfl (ag (vs:=[pO a36 l35.length c37]) rfl rfl rfl rfl rfl (bx (bx bB)) (bf (bf (bf cN))) (aT (by kernel_rfl) ?_))))
    exact am (a36,c37) (eN rfl) (bq (aC (aC aN)) (bq (aC (aC (aC aN))) cq)) trivial
   skip
   refine af rfl rfl rfl rfl (bX (aw (p:=pL Za.enc p0.Facts) rfl (.p rfl) fR rfl) (az 4 (by kernel_rfl) rfl rfl rfl rfl (ep (enc:=Za.enc) rfl rfl rfl (fun _=>rfl) (.p rfl) (.p rfl) (fun _=>hl23)) (ai 0 (by kernel_rfl) (af rfl rfl rfl rfl (bg rfl rfl rfl rfl rfl eY rfl rfl rfl rfl (fun b21=>ai 5 (by kernel_rfl) ?_))))))
   refine af rfl rfl rfl rfl (aS (enc:=Za.enc) rfl rfl rfl rfl rfl (fun _=>rfl) rfl rfl rfl (by exact aN) hl24 (fun a25 c26=>?_))
   refine ai 8 (by kernel_rfl) ?_
   refine af rfl rfl rfl rfl (bd (enc:=Za.enc) rfl rfl rfl rfl rfl rfl rfl rfl rfl fR (by exact aN) hl30 (fun a31 c32=>?_))
   refine ai 13 (by kernel_rfl) ?_
   refine af rfl rfl rfl rfl (aS (enc:=Za.enc) rfl rfl rfl rfl rfl (fun _=>rfl) rfl rfl rfl (by exact aN) hl35 (fun a36 c37=>?_))
   refine az 14 (by kernel_rfl) rfl rfl rfl rfl (ak rfl rfl rfl rfl rfl (.p rfl)) (ai 15 (by kernel_rfl) (aQ rfl rfl rfl (ag (vs:=[pO a36 l35.length c37]) rfl rfl rfl rfl rfl (bx (bx bB)) (bf (bf (bf cN))) (aT (by kernel_rfl) ?_))))
   exact am (a36,c37) (eN rfl) (bq (aC (aC aN)) (bq (aC (aC (aC aN))) cq)) trivial
  skip
  refine af rfl rfl rfl rfl (bX (aw (p:=pL Za.enc p0.Facts) rfl (.p rfl) dt rfl) (az 12 (by kernel_rfl) rfl rfl rfl rfl (bQ (enc:=Za.enc) rfl rfl rfl (fun _=>rfl) (.p rfl) (.p rfl) (fun _=>hl34)) ?_))
  refine jm 0 2 7 (by kernel_rfl) ?_ ?_ ?_
  ·skip
   refine af rfl rfl rfl rfl (bg rfl rfl rfl rfl rfl eY rfl rfl rfl rfl (fun b21=>?_))
   refine bA 2 7 (by kernel_rfl) ?_ ?_
   ·skip
    refine af rfl rfl rfl rfl (bX (aw (p:=pL Za.enc p0.Facts) rfl (.p rfl) fR rfl) (az 4 (by kernel_rfl) rfl rfl rfl rfl (ep (enc:=Za.enc) rfl rfl rfl (fun _=>rfl) (.p rfl) (.p rfl) (fun _=>hl23)) ?_))
    refine bA 5 7 (by kernel_rfl) ?_ ?_
    ·skip
     refine af rfl rfl rfl rfl (aS (enc:=Za.enc) rfl rfl rfl rfl rfl (fun _=>rfl) rfl rfl rfl (by exact aN) hl24 (fun a25 c26=>?_))
     refine ai 7 (by kernel_rfl) (af rfl rfl rfl rfl (bg rfl rfl rfl rfl rfl (dI rfl eY) rfl rfl rfl rfl (fun b28=>ai 8 (by kernel_rfl) ?_)))
     refine af rfl rfl rfl rfl (bd (enc:=Za.enc) rfl rfl rfl rfl rfl rfl rfl rfl rfl dt (by exact aC aN) hl30 (fun a31 c32=>?_))
     refine ai 13 (by kernel_rfl) ?_
     refine af rfl rfl rfl rfl (aS (enc:=Za.enc) rfl rfl rfl rfl rfl (fun _=>rfl) rfl rfl rfl (by exact aN) hl35 (fun a36 c37=>?_))
     refine az 14 (by kernel_rfl) rfl rfl rfl rfl (ak rfl rfl rfl rfl rfl (.p rfl)) (ai 15 (by kernel_rfl) (aQ rfl rfl rfl (ag (vs:=[pO a36 l35.length c37]) rfl rfl rfl rfl rfl (bx (bx bB)) (bf (bf (bf cN))) (aT (by kernel_rfl) ?_))))
     exact am (a36,c37) (eN rfl) (bq (aC (aC aN)) (bq (aC (aC (aC aN))) cq)) trivial
    skip
    refine af rfl rfl rfl rfl (bg rfl rfl rfl rfl rfl (dI rfl eY) rfl rfl rfl rfl (fun b28=>ai 5 (by kernel_rfl) ?_))
    refine af rfl rfl rfl rfl (aS (enc:=Za.enc) rfl rfl rfl rfl rfl (fun _=>rfl) rfl rfl rfl (by exact aC aN) hl24 (fun a25 c26=>?_))
    refine ai 8 (by kernel_rfl) ?_
    refine af rfl rfl rfl rfl (bd (enc:=Za.enc) rfl rfl rfl rfl rfl rfl rfl rfl rfl fR (by exact aN) hl30 (fun a31 c32=>?_))
    refine ai 13 (by kernel_rfl) ?_
    refine af rfl rfl rfl rfl (aS (enc:=Za.enc) rfl rfl rfl rfl rfl (fun _=>rfl) rfl rfl rfl (by exact aN) hl35 (fun a36 c37=>?_))
    refine az 14 (by kernel_rfl) rfl rfl rfl rfl (ak rfl rfl rfl rfl rfl (.p rfl)) (ai 15 (by kernel_rfl) (aQ rfl rfl rfl (ag (vs:=[pO a36 l35.length c37]) rfl rfl rfl rfl rfl (bx (bx bB)) (bf (bf (bf cN))) (aT (by kernel_rfl) ?_))))
    exact am (a36,c37) (eN rfl) (bq (aC (aC aN)) (bq (aC (aC (aC aN))) cq)) trivial
   skip
   refine af rfl rfl rfl rfl (bg rfl rfl rfl rfl rfl (dI rfl eY) rfl rfl rfl rfl (fun b28=>ai 2 (by kernel_rfl) (af rfl rfl rfl rfl (bX (aw (p:=pL Za.enc p0.Facts) rfl (.p rfl) kb rfl) (az 4 (by kernel_rfl) rfl rfl rfl rfl (ep (enc:=Za.enc) rfl rfl rfl (fun _=>rfl) (.p rfl) (.p rfl) (fun _=>hl23)) (ai 5 (by kernel_rfl) ?_))))))
   refine af rfl rfl rfl rfl (aS (enc:=Za.enc) rfl rfl rfl rfl rfl (fun _=>rfl) rfl rfl rfl (by exact aC aN) hl24 (fun a25 c26=>?_))
   refine ai 8 (by kernel_rfl) ?_
   refine af rfl rfl rfl rfl (bd (enc:=Za.enc) rfl rfl rfl rfl rfl rfl rfl rfl rfl fR (by exact aN) hl30 (fun a31 c32=>?_))
   refine ai 13 (by kernel_rfl) ?_
   refine af rfl rfl rfl rfl (aS (enc:=Za.enc) rfl rfl rfl rfl rfl (fun _=>rfl) rfl rfl rfl (by exact aN) hl35 (fun a36 c37=>?_))
   refine az 14 (by kernel_rfl) rfl rfl rfl rfl (ak rfl rfl rfl rfl rfl (.p rfl)) (ai 15 (by kernel_rfl) (aQ rfl rfl rfl (ag (vs:=[pO a36 l35.length c37]) rfl rfl rfl rfl rfl (bx (bx bB)) (bf (bf (bf cN))) (aT (by kernel_rfl) ?_))))
   exact am (a36,c37) (eN rfl) (bq (aC (aC aN)) (bq (aC (aC (aC aN))) cq)) trivial
  ·skip
   refine af rfl rfl rfl rfl (bX (aw (p:=pL Za.enc p0.Facts) rfl (.p rfl) dt rfl) (az 4 (by kernel_rfl) rfl rfl rfl rfl (ep (enc:=Za.enc) rfl rfl rfl (fun _=>rfl) (.p rfl) (.p rfl) (fun _=>hl23)) ?_))
   refine bA 0 7 (by kernel_rfl) ?_ ?_
   ·skip
    refine af rfl rfl rfl rfl (bg rfl rfl rfl rfl rfl eY rfl rfl rfl rfl (fun b21=>?_))
    refine bA 5 7 (by kernel_rfl) ?_ ?_
    ·skip
     refine af rfl rfl rfl rfl (aS (enc:=Za.enc) rfl rfl rfl rfl rfl (fun _=>rfl) rfl rfl rfl (by exact aN) hl24 (fun a25 c26=>?_))
     refine ai 7 (by kernel_rfl) (af rfl rfl rfl rfl (bg rfl rfl rfl rfl rfl (dI rfl eY) rfl rfl rfl rfl (fun b28=>ai 8 (by kernel_rfl) ?_)))
     refine af rfl rfl rfl rfl (bd (enc:=Za.enc) rfl rfl rfl rfl rfl rfl rfl rfl rfl dt (by exact aC aN) hl30 (fun a31 c32=>?_))
     refine ai 13 (by kernel_rfl) ?_
     refine af rfl rfl rfl rfl (aS (enc:=Za.enc) rfl rfl rfl rfl rfl (fun _=>rfl) rfl rfl rfl (by exact aN) hl35 (fun a36 c37=>?_))
     refine az 14 (by kernel_rfl) rfl rfl rfl rfl (ak rfl rfl rfl rfl rfl (.p rfl)) (ai 15 (by kernel_rfl) (aQ rfl rfl rfl (ag (vs:=[pO a36 l35.length c37]) rfl rfl rfl rfl rfl (bx (bx bB)) (bf (bf (bf cN))) (aT (by kernel_rfl) ?_))))
     exact am (a36,c37) (eN rfl) (bq (aC (aC aN)) (bq (aC (aC (aC aN))) cq)) trivial
    skip
    refine af rfl rfl rfl rfl (bg rfl rfl rfl rfl rfl (dI rfl eY) rfl rfl rfl rfl (fun b28=>ai 5 (by kernel_rfl) ?_))
    refine af rfl rfl rfl rfl (aS (enc:=Za.enc) rfl rfl rfl rfl rfl (fun _=>rfl) rfl rfl rfl (by exact aC aN) hl24 (fun a25 c26=>?_))
    refine ai 8 (by kernel_rfl) ?_
    refine af rfl rfl rfl rfl (bd (enc:=Za.enc) rfl rfl rfl rfl rfl rfl rfl rfl rfl fR (by exact aN) hl30 (fun a31 c32=>?_))
    refine ai 13 (by kernel_rfl) ?_
    refine af rfl rfl rfl rfl (aS (enc:=Za.enc) rfl rfl rfl rfl rfl (fun _=>rfl) rfl rfl rfl (by exact aN) hl35 (fun a36 c37=>?_))
    refine az 14 (by kernel_rfl) rfl rfl rfl rfl (ak rfl rfl rfl rfl rfl (.p rfl)) (ai 15 (by kernel_rfl) (aQ rfl rfl rfl (ag (vs:=[pO a36 l35.length c37]) rfl rfl rfl rfl rfl (bx (bx bB)) (bf (bf (bf cN))) (aT (by kernel_rfl) ?_))))
    exact am (a36,c37) (eN rfl) (bq (aC (aC aN)) (bq (aC (aC (aC aN))) cq)) trivial
   skip
   refine af rfl rfl rfl rfl (bg rfl rfl rfl rfl rfl (dI rfl eY) rfl rfl rfl rfl (fun b28=>ai 0 (by kernel_rfl) (af rfl rfl rfl rfl (bg rfl rfl rfl rfl rfl eY rfl rfl rfl rfl (fun b21=>ai 5 (by kernel_rfl) ?_)))))
   refine af rfl rfl rfl rfl (aS (enc:=Za.enc) rfl rfl rfl rfl rfl (fun _=>rfl) rfl rfl rfl (by exact aN) hl24 (fun a25 c26=>?_))
   refine ai 8 (by kernel_rfl) ?_
   refine af rfl rfl rfl rfl (bd (enc:=Za.enc) rfl rfl rfl rfl rfl rfl rfl rfl rfl fR (by exact aN) hl30 (fun a31 c32=>?_))
   refine ai 13 (by kernel_rfl) ?_
   refine af rfl rfl rfl rfl (aS (enc:=Za.enc) rfl rfl rfl rfl rfl (fun _=>rfl) rfl rfl rfl (by exact aN) hl35 (fun a36 c37=>?_))
   refine az 14 (by kernel_rfl) rfl rfl rfl rfl (ak rfl rfl rfl rfl rfl (.p rfl)) (ai 15 (by kernel_rfl) (aQ rfl rfl rfl (ag (vs:=[pO a36 l35.length c37]) rfl rfl rfl rfl rfl (bx (bx bB)) (bf (bf (bf cN))) (aT (by kernel_rfl) ?_))))
   exact am (a36,c37) (eN rfl) (bq (aC (aC aN)) (bq (aC (aC (aC aN))) cq)) trivial
  skip
  refine af rfl rfl rfl rfl (bg rfl rfl rfl rfl rfl (dI rfl eY) rfl rfl rfl rfl (fun b28=>?_))
  refine bA 0 2 (by kernel_rfl) ?_ ?_
  ·skip
   refine af rfl rfl rfl rfl (bg rfl rfl rfl rfl rfl eY rfl rfl rfl rfl (fun b21=>ai 2 (by kernel_rfl) (af rfl rfl rfl rfl (bX (aw (p:=pL Za.enc p0.Facts) rfl (.p rfl) kb rfl) (az 4 (by kernel_rfl) rfl rfl rfl rfl (ep (enc:=Za.enc) rfl rfl rfl (fun _=>rfl) (.p rfl) (.p rfl) (fun _=>hl23)) (ai 5 (by kernel_rfl) ?_))))))
   refine af rfl rfl rfl rfl (aS (enc:=Za.enc) rfl rfl rfl rfl rfl (fun _=>rfl) rfl rfl rfl (by exact aN) hl24 (fun a25 c26=>?_))
   refine ai 8 (by kernel_rfl) ?_
   refine af rfl rfl rfl rfl (bd (enc:=Za.enc) rfl rfl rfl rfl rfl rfl rfl rfl rfl fR (by exact aN) hl30 (fun a31 c32=>?_))
   refine ai 13 (by kernel_rfl) ?_
   refine af rfl rfl rfl rfl (aS (enc:=Za.enc) rfl rfl rfl rfl rfl (fun _=>rfl) rfl rfl rfl (by exact aN) hl35 (fun a36 c37=>?_))
   refine az 14 (by kernel_rfl) rfl rfl rfl rfl (ak rfl rfl rfl rfl rfl (.p rfl)) (ai 15 (by kernel_rfl) (aQ rfl rfl rfl (ag (vs:=[pO a36 l35.length c37]) rfl rfl rfl rfl rfl (bx (bx bB)) (bf (bf (bf cN))) (aT (by kernel_rfl) ?_))))
   exact am (a36,c37) (eN rfl) (bq (aC (aC aN)) (bq (aC (aC (aC aN))) cq)) trivial
  skip
  refine af rfl rfl rfl rfl (bX (aw (p:=pL Za.enc p0.Facts) rfl (.p rfl) fR rfl) (az 4 (by kernel_rfl) rfl rfl rfl rfl (ep (enc:=Za.enc) rfl rfl rfl (fun _=>rfl) (.p rfl) (.p rfl) (fun _=>hl23)) (ai 0 (by kernel_rfl) (af rfl rfl rfl rfl (bg rfl rfl rfl rfl rfl eY rfl rfl rfl rfl (fun b21=>ai 5 (by kernel_rfl) ?_))))))
  refine af rfl rfl rfl rfl (aS (enc:=Za.enc) rfl rfl rfl rfl rfl (fun _=>rfl) rfl rfl rfl (by exact aN) hl24 (fun a25 c26=>?_))
  refine ai 8 (by kernel_rfl) ?_
  refine af rfl rfl rfl rfl (bd (enc:=Za.enc) rfl rfl rfl rfl rfl rfl rfl rfl rfl fR (by exact aN) hl30 (fun a31 c32=>?_))
  refine ai 13 (by kernel_rfl) ?_
  refine af rfl rfl rfl rfl (aS (enc:=Za.enc) rfl rfl rfl rfl rfl (fun _=>rfl) rfl rfl rfl (by exact aN) hl35 (fun a36 c37=>?_))
  refine az 14 (by kernel_rfl) rfl rfl rfl rfl (ak rfl rfl rfl rfl rfl (.p rfl)) (ai 15 (by kernel_rfl) (aQ rfl rfl rfl (ag (vs:=[pO a36 l35.length c37]) rfl rfl rfl rfl rfl (bx (bx bB)) (bf (bf (bf cN))) (aT (by kernel_rfl) ?_))))
  exact am (a36,c37) (eN rfl) (bq (aC (aC aN)) (bq (aC (aC (aC aN))) cq)) trivial
 rintro ⟨a36,c37⟩ τ _;dsimp only [aK]
 refine ah (aj ?_)
 refine nk (css:=List.map Za.enc l35) (a:=a36) (by exact aC (aC aN)) ?_
 refine ka (k:=3) (enc:=Za.enc) (xs:=l35) (b:=b1) (a:=a36) rfl dt (bx bB) (dY 1 [1] [(90,.agg [pI p0.Source,pS p0.Code,pI p0.Units,pL Za.enc l35])] (by kernel_rfl) (aH rfl rfl (ag (vs:=[pI p0.Source,pS p0.Code,pI p0.Units,pL Za.enc l35]) rfl rfl rfl rfl rfl (bx (bx bB)) rW (aL [(5,pI 0)] (by kernel_rfl) (dC ?_)))))
 obtain rfl:=osi h
 exact aI (bD (cg rfl kb rfl) (aD rfl)) bZ ⟨rfl,rfl⟩
def ly (p0:Int) (p1:ByteArray) (p2:Int) (p3:(List Int)):Option Zk:=(iq p3).bind fun x3=>(bu (S:=Int×Int×ByteArray×Int×(List Za)) (T:=(Int×ByteArray×Int×(List Za))) (fun (v4,v5,v6,v7,l8)=>cond (decide (v4<(x3.length:Int))) (((idx x3 v4).bind fun m21=>(kL (⟨v5,v6,v7,l8⟩:Zk) m21).bind fun x22=>cond (x22.2 == 0) (some (x22.1.Source,x22.1.Code,x22.1.Units,x22.1.Facts)) (some (v5,v6,v7,l8))).bind fun (v16,v17,v18,l19)=>some (.inl ((IntKind.i64.wrap (v4+1)),v16,v17,v18,l19))) (some (.inr (v5,v6,v7,l8)))) FUEL (0,p0,p1,p2,[])).bind fun (v9,v10,v11,l12)=>some (⟨v9,v10,v11,l12⟩:Zk)
theorem wO {p0:Int} {p1:ByteArray} {p2:Int} {p3:(List Int)} {r:Zk}  (h:ly p0 p1 p2 p3=some r):PF 15 [pI p0,pS p1,pI p2,pL eI p3] (.agg (bj r)):=by
 unfold ly at h
 refine bo ?_
 refine dZ Tryz.func15 rfl Tryz.ntmps15 Tryz.results15 rfl (dj rfl (aY (cs:=[pI 0,pS ByteArray.empty,pI 0,pN]) rfl rfl rfl rfl (fun b1=>ar (cw (aj (bO 4 [14,15,16] [(17,.agg [pI p0,pS p1,pI p2,pN])] (by kernel_rfl) (aF rfl (aY (cs:=[pI 0,pS ByteArray.empty,pI 0,pN]) rfl rfl rfl rfl (fun b2=>aH rfl rfl (ag (vs:=[pI p0,pS p1,pI p2,pN]) rfl rfl rfl rfl rfl bB rW (ar (dV h fun x3 hx3 h=>aB [] [18,19] [(10,pL Za.enc x3)] (bw 1 (qt hx3) bL) (by kernel_rfl) (cQ (ap [(11,pI 0)] (by kernel_rfl) (aW (di (k:=3) (b:=b2) rfl bB (aa h fun q14 hq14 h=>?_)))))))))))))))))
 refine av (Y:=Unit×(Int×ByteArray×Int×(List Za))) (fun (_,(v9,v10,v11,l12))=>[(8,pP b1 0),(9,pP b2 0)]) (fun (_,(v9,v10,v11,l12))=>[PRes.b b1 43 [pI 0,pS ByteArray.empty,pI 0,pN],PRes.b b2 43 [pI v9,pS v10,pI v11,pL Za.enc l12]]) (fun (_,(v9,v10,v11,l12))=>q14=(v9,v10,v11,l12)) ?_ ?_
 ·refine aR ?_
  refine aZ (Y:=Unit) (S:=Int×Int×ByteArray×Int×(List Za)) _ hq14 (fun _ (v4,v5,v6,v7,l8)=>[(8,pP b1 0),(9,pP b2 0),(10,pL Za.enc x3),(11,pI v4)]) (fun _ (v4,v5,v6,v7,l8)=>[PRes.b b1 43 [pI 0,pS ByteArray.empty,pI 0,pN],PRes.b b2 43 [pI v5,pS v6,pI v7,pL Za.enc l8]]) () (iP rfl) (bq (aC aN) cq) ?_
  rintro _ ⟨v4,v5,v6,v7,l8⟩ o τ hb13;(try dsimp only at hb13);dsimp only [aK]
  refine gh (bU [20,21,22] [(23,pB (decide (v4<(x3.length:Int))))] (by kernel_rfl) rfl hb13 (fun hc15 hb13=>?_) fun hc15 hb13=>?_)
  ·refine ae ?_
   refine dV hb13 fun q20 hq20 hb13=>?_
   refine av (Y:=Unit×(Int×ByteArray×Int×(List Za))) (fun (_,(v16,v17,v18,l19))=>[(8,pP b1 0),(9,pP b2 0),(10,pL Za.enc x3),(11,pI v4)]) (fun (_,(v16,v17,v18,l19))=>[PRes.b b1 43 [pI 0,pS ByteArray.empty,pI 0,pN],PRes.b b2 43 [pI v16,pS v17,pI v18,pL Za.enc l19]]) (fun (_,(v16,v17,v18,l19))=>q20=(v16,v17,v18,l19)) ?_ ?_
   ·skip
    refine jX (bN (ρd:=[]) [(0,0),(1,0),(2,0),(3,0),(4,0),(5,1),(6,0),(7,0),(8,0),(9,2),(10,1),(11,0)] _ (List.Perm.refl _) (by kernel_rfl) rfl (aa hq20 fun m21 hm21 hq20=>aa hq20 fun x22 hx22 hq20=>cr 9 [1] ((rg 27 6)++[26]) [(33,.agg (bj x22.1)),(34,pI x22.2)] (fC 3 Za.enc hm21 (bw 5 (uc hx22) bL)) (by kernel_rfl) (nU (nS rfl rfl rfl rfl rfl) (fun _=>rfl) rfl (fun b23=>np rfl rfl (ag (vs:=(bj x22.1)) rfl rfl rfl rfl rfl bB rW (jJ 1 [(13,pI x22.2)] (by kernel_rfl) (cC (cw (bU [35] [(36,pB (x22.2 == 0))] (by kernel_rfl) rfl hq20 (fun hc24 hq20=>?_) fun hc24 hq20=>?_)))))))))
    ·refine aj ?_
     refine dY 1 [0] [(37,.agg (bj x22.1))] (by kernel_rfl) (aH rfl rfl (ag (vs:=(bj x22.1)) rfl rfl rfl rfl rfl (bx (bx bB)) rW (ar (aq ?_))))
     obtain rfl:=osi hq20
     exact am ((),(x22.1.Source,x22.1.Code,x22.1.Units,x22.1.Facts)) (iP rfl) (bq (aC aN) (bq (aC aN) bZ)) rfl
    refine ae ?_
    refine aq ?_
    obtain rfl:=osi hq20
    exact am ((),(v5,v6,v7,l8)) (iP rfl) (bq (aC aN) (bq (aC aN) bZ)) rfl
   rintro ⟨_,⟨v16,v17,v18,l19⟩⟩ τ hz;(try dsimp only at hz);subst q20;(try dsimp only at hb13);dsimp only [aK]
   refine an [24,25] [(11,pI (IntKind.i64.wrap (v4+1)))] (by kernel_rfl) ?_
   exact bt hb13 () (iP rfl) sM
  refine bc ?_
  refine aP (aJ hb13 (fun ht=>aM rfl ?_))
  exact am ((),(v5,v6,v7,l8)) (eN rfl) sM ht.symm
 rintro ⟨_,⟨v9,v10,v11,l12⟩⟩ τ hz;(try dsimp only at hz);subst q14;(try dsimp only at h);dsimp only [aK]
 refine ah (aj (dY 1 [1] [(38,.agg [pI v9,pS v10,pI v11,pL Za.enc l12])] (by kernel_rfl) (aH rfl rfl (ag (vs:=[pI v9,pS v10,pI v11,pL Za.enc l12]) rfl rfl rfl rfl rfl bB rW (ar (dC ?_))))))
 obtain rfl:=osi h
 exact aI (fM (cg rfl dt rfl)) bZ ⟨rfl,rfl⟩
def kj  : Option (List ByteArray):=some [(⟨#[49,48,48,48,48,48,48,48]⟩:ByteArray),(⟨#[50,48,48,48,48,48,48,48]⟩:ByteArray),(⟨#[51,48,48,48,48,48,48,48]⟩:ByteArray),(⟨#[52,48,48,48,48,48,48,48]⟩:ByteArray)]
theorem oY  {r:(List ByteArray)}  (h:kj  = some r):PF 16 [] (pL eS r):=by
 unfold kj at h
 refine bo ?_
 refine dZ Tryz.func16 rfl Tryz.ntmps16 Tryz.results16 rfl (bh [0] (by kernel_rfl) (cw (dj rfl (bg rfl rfl rfl rfl rfl (dI rfl (dI rfl (dI rfl (dI rfl eY)))) rfl rfl rfl rfl (fun b1=>aL [(0,pO (some ⟨b1,0,none⟩) 4 4)] (by kernel_rfl) (aW ?_))))))
 refine ij (enc:=eS) (xs:=[(⟨#[49,48,48,48,48,48,48,48]⟩:ByteArray),(⟨#[50,48,48,48,48,48,48,48]⟩:ByteArray),(⟨#[51,48,48,48,48,48,48,48]⟩:ByteArray),(⟨#[52,48,48,48,48,48,48,48]⟩:ByteArray)]) 0 rfl (by exact aN) ?_
 refine cd ?_
 exact zz r h rfl
def fG (p0:Int) (p1:ByteArray) (p2:Int):Option Bool:=cond (((((decide (p0<1))||(decide (1000000<p0)))||(decide (p2<1)))||(decide (1000000000<p2)))||((p1.size:Int) != 8)) (some false) ((bu (S:=Int) (T:=(Unit)⊕(_)) (fun v2=>cond (decide (v2<(p1.size:Int))) ((idx p1.data.toList v2).bind fun c6=>(gd (!(decide ((c6.toNat:Int)<48))) (idx p1.data.toList v2)).bind fun c7=>cond ((decide ((c6.toNat:Int)<48))||(decide (57<(c7.toNat:Int)))) (some (.inr (.inr false))) (some (.inl (IntKind.i64.wrap (v2+1))))) (some (.inr (.inl ())))) FUEL 0).bind fun q=>match q with | .inl _=>some true | .inr e=>some e)
theorem lN {p0:Int} {p1:ByteArray} {p2:Int} {r:Bool}  (h:fG p0 p1 p2=some r):PF 84 [pI p0,pS p1,pI p2] (pB r):=by
 unfold fG at h
 refine bo ?_
 refine dZ Tryz.func84 rfl Tryz.ntmps84 Tryz.results84 rfl (bh [6] (by kernel_rfl) (cQ (bU (rg 8 18) [(26,pB (((((decide (p0<1))||(decide (1000000<p0)))||(decide (p2<1)))||(decide (1000000000<p2)))||((p1.size:Int) != 8)))] (by kernel_rfl) rfl h (fun hc1 h=>?_) fun hc1 h=>?_)))
 ·refine ah ?_
  refine dq [(6,pB false)] (by kernel_rfl) ?_
  exact zz r h rfl
 refine ae ?_
 refine cQ (an [27] [(28,pI (p1.size:Int)),(29,pI 0)] (by kernel_rfl) (ga h fun q4 hq4 h=>?_))
 refine av (Y:=Unit×Unit) (fun (_,_)=>[]) (fun (_,_)=>[]) (fun (_,_)=>q4=Sum.inl ()) ?_ ?_
 ·refine aR ?_
  refine aZ (Y:=Unit) (S:=Int) _ hq4 (fun _ v2=>[(1,pS p1),(28,pI (p1.size:Int)),(29,pI v2)]) (fun _ v2=>[]) () (kH rfl) bZ ?_
  rintro _ v2 o τ hb3;(try dsimp only at hb3);dsimp only [aK]
  refine ah (ap [(30,pB (decide (v2<(p1.size:Int))))] (by kernel_rfl) (cw (kU rfl hb3 (fun hc5 hb3=>?_) fun hc5 hb3=>?_)))
  ·refine ae ?_
   refine cw (jX (an [31] [(7,pI v2)] (by kernel_rfl) (dV hb3 fun c6 hc6 hb3=>aa hb3 fun c7 hc7 hb3=>aB [] (rg 32 9) [(41,pB ((decide ((c6.toNat:Int)<48))||(decide (57<(c7.toNat:Int)))))] (Dd 2 hc6 (mK 7 (cY hc7) bL)) (by kernel_rfl) (dW rfl hb3 (fun hc8 hb3=>?_) fun hc8 hb3=>?_))))
   ·refine ah ?_
    refine ap [(6,pB false)] (by kernel_rfl) (dC (au (aO ?_)))
    refine bH hb3 (fun ht=>?_);subst ht
    refine au (bz ?_)
    exact zz r h rfl
   refine ae ?_
   refine aq (aW (an [42] [(29,pI (IntKind.i64.wrap (v2+1)))] (by kernel_rfl) ?_))
   exact bt hb3 () (kH rfl) bZ
  refine bc ?_
  refine aP (aJ hb3 (fun ht=>aM rfl ?_))
  exact am ((),()) sL bZ ht.symm
 rintro ⟨_,_⟩ τ hz;(try dsimp only at hz);subst q4;(try dsimp only at h);dsimp only [aK]
 refine ah (ap [(6,pB true)] (by kernel_rfl) (dC ?_))
 exact zz r h rfl
def eD (p0:ByteArray):Option Bool:=(gd ((p0.size:Int) == 2) (idx p0.data.toList 0)).bind fun c1=>(gd (((p0.size:Int) == 2)&&(decide (65≤(c1.toNat:Int)))) (idx p0.data.toList 0)).bind fun c2=>(gd ((((p0.size:Int) == 2)&&(decide (65≤(c1.toNat:Int))))&&(decide ((c2.toNat:Int)≤90))) (idx p0.data.toList 1)).bind fun c3=>(gd (((((p0.size:Int) == 2)&&(decide (65≤(c1.toNat:Int))))&&(decide ((c2.toNat:Int)≤90)))&&(decide (65≤(c3.toNat:Int)))) (idx p0.data.toList 1)).bind fun c4=>some ((((((p0.size:Int) == 2)&&(decide (65≤(c1.toNat:Int))))&&(decide ((c2.toNat:Int)≤90)))&&(decide (65≤(c3.toNat:Int))))&&(decide ((c4.toNat:Int)≤90)))
theorem nI {p0:ByteArray} {r:Bool}  (h:eD p0=some r):PF 123 [pS p0] (pB r):=by
 unfold eD at h
 refine bo ?_
 refine dZ Tryz.func123 rfl Tryz.ntmps123 Tryz.results123 rfl (bh [2] (by kernel_rfl) (dV h fun c1 hc1 h=>aa h fun c2 hc2 h=>aa h fun c3 hc3 h=>aa h fun c4 hc4 h=>aB [] (rg 3 23) [(2,pB ((((((p0.size:Int) == 2)&&(decide (65≤(c1.toNat:Int))))&&(decide ((c2.toNat:Int)≤90)))&&(decide (65≤(c3.toNat:Int))))&&(decide ((c4.toNat:Int)≤90))))] (mK 5 (cY hc1) (mK 10 (cY hc2) (mK 15 (cY hc3) (mK 20 (cY hc4) bL)))) (by kernel_rfl) (dC ?_)))
 exact zz r h rfl
def fH (p0:Za):Option Bool:=cond ((((((decide (p0.From<0))||(decide (999<p0.From)))||(decide (p0.Number<1)))||(decide (1000000000<p0.Number)))||(decide (p0.Day<0)))||(decide (36524<p0.Day))) (some false) (Option.bind (α:=(Int×Int×Bool)⊕_) (cond (p0.Kind == 1) (some (.inl (1000000000000,999,true))) (cond (p0.Kind == 2) (some (.inl (0,0,false))) (cond (p0.Kind == 3) (some (.inl (1000000000000,0,false))) (cond (p0.Kind == 4) (some (.inl (0,0,true))) (cond (p0.Kind == 5) (some (.inl (1000000000,0,false))) (some (.inr false))))))) (fun q=>match q with | .inl (v3,v4,v5)=>(gd v5 (eD p0.Country)).bind (fun x12=>cond ((v5&&(!x12))||((!v5)&&(!decide (p0.Country=(⟨#[]⟩:ByteArray))))) (some false) (some ((((decide (0≤p0.Amount))&&(decide (p0.Amount≤v3)))&&(decide (0≤p0.Company)))&&(decide (p0.Company≤v4))))) | .inr e=>some e))
theorem lO {p0:Za} {r:Bool}  (h:fH p0=some r):PF 85 [.agg (aU p0)] (pB r):=by
 unfold fH at h
 refine bo ?_
 refine dZ Tryz.func85 rfl Tryz.ntmps85 Tryz.results85 rfl (dj rfl (bC (cs:=(aU p0)) rfl rfl (fun b1=>br [2] (by kernel_rfl) (cQ (aV [0,0,0,0,0,0] (rg 6 27) [(33,pB ((((((decide (p0.From<0))||(decide (999<p0.From)))||(decide (p0.Number<1)))||(decide (1000000000<p0.Number)))||(decide (p0.Day<0)))||(decide (36524<p0.Day))))] (by kernel_rfl) (dW rfl h (fun hc2 h=>?_) fun hc2 h=>?_))))))
 ·refine ah ?_
  refine dq [(2,pB false)] (by kernel_rfl) ?_
  exact zz r h rfl
 refine ae ?_
 refine cw (ap [(3,pI 0),(4,pI 0),(5,pB false)] (by kernel_rfl) (cQ (aV [0] [34] [(35,pI p0.Kind)] (by kernel_rfl) (ga h fun q6 hq6 h=>?_))))
 refine av (Y:=Unit×(Int×Int×Bool)) (fun (_,(v3,v4,v5))=>[(1,pP b1 0),(3,pI v3),(4,pI v4),(5,pB v5)]) (fun (_,(v3,v4,v5))=>[PRes.b b1 93 (aU p0)]) (fun (_,(v3,v4,v5))=>q6=Sum.inl (v3,v4,v5)) ?_ ?_
 ·skip
  refine jX (bU [37] [(36,pB (p0.Kind == 1))] (by kernel_rfl) rfl hq6 (fun hc7 hq6=>?_) fun hc7 hq6=>?_)
  ·refine ap [(3,pI 1000000000000),(4,pI 999),(5,pB true)] (by kernel_rfl) ?_
   refine aq ?_
   obtain rfl:=osi hq6
   exact am ((),(1000000000000,999,true)) (iP rfl) cq rfl
  refine ah ?_
  refine bU [39] [(38,pB (p0.Kind == 2))] (by kernel_rfl) rfl hq6 (fun hc8 hq6=>?_) fun hc8 hq6=>?_
  ·refine ae ?_
   refine aq ?_
   obtain rfl:=osi hq6
   exact am ((),(0,0,false)) (iP rfl) cq rfl
  refine ah ?_
  refine bU [41] [(40,pB (p0.Kind == 3))] (by kernel_rfl) rfl hq6 (fun hc9 hq6=>?_) fun hc9 hq6=>?_
  ·refine ap [(3,pI 1000000000000)] (by kernel_rfl) ?_
   refine aq ?_
   obtain rfl:=osi hq6
   exact am ((),(1000000000000,0,false)) (iP rfl) cq rfl
  refine ah ?_
  refine bU [43] [(42,pB (p0.Kind == 4))] (by kernel_rfl) rfl hq6 (fun hc10 hq6=>?_) fun hc10 hq6=>?_
  ·refine ap [(5,pB true)] (by kernel_rfl) ?_
   refine aq ?_
   obtain rfl:=osi hq6
   exact am ((),(0,0,true)) (iP rfl) cq rfl
  refine ah ?_
  refine bU [45] [(44,pB (p0.Kind == 5))] (by kernel_rfl) rfl hq6 (fun hc11 hq6=>?_) fun hc11 hq6=>?_
  ·refine ap [(3,pI 1000000000)] (by kernel_rfl) ?_
   refine aq ?_
   obtain rfl:=osi hq6
   exact am ((),(1000000000,0,false)) (iP rfl) cq rfl
  refine ah ?_
  refine ap [(2,pB false)] (by kernel_rfl) (dC (au (bz ?_)))
  obtain rfl:=osi hq6
  exact zz r h rfl
 rintro ⟨_,⟨v3,v4,v5⟩⟩ τ hz;(try dsimp only at hz);subst q6;(try dsimp only at h);dsimp only [aK]
 refine gh (aa h fun x12 hx12 h=>aB [0,0] (rg 46 15) [(61,pB ((v5&&(!x12))||((!v5)&&(!decide (p0.Country=(⟨#[]⟩:ByteArray))))))] (eU 4 (fun hc=>nI (cY hx12 hc)) bL) (by kernel_rfl) (dW rfl h (fun hc13 h=>?_) fun hc13 h=>?_))
 ·refine ah ?_
  refine dq [(2,pB false)] (by kernel_rfl) ?_
  exact zz r h rfl
 refine ae ?_
 refine cw (aV [0,0,0,0] (rg 62 20) [(2,pB ((((decide (0≤p0.Amount))&&(decide (p0.Amount≤v3)))&&(decide (0≤p0.Company)))&&(decide (p0.Company≤v4))))] (by kernel_rfl) (dC ?_))
 exact zz r h rfl
def km (p0:(List Int)):Option Int:=(bu (S:=Int) (T:=(Unit)⊕(_)) (fun v1=>cond (decide (v1<(p0.length:Int))) ((idx p0 v1).bind fun m5=>cond (m5 != 0) (some (.inr (.inr m5))) (some (.inl (IntKind.i64.wrap (v1+1))))) (some (.inr (.inl ())))) FUEL 0).bind fun q=>match q with | .inl _=>some (0:Int) | .inr e=>some e
theorem oZ {p0:(List Int)} {r:Int}  (h:km p0=some r):PF 39 [pL eI p0] (pI r):=by
 unfold km at h
 refine bo ?_
 refine dZ Tryz.func39 rfl Tryz.ntmps39 Tryz.results39 rfl (bh [2] (by kernel_rfl) (cw (ap [(3,pI 0)] (by kernel_rfl) (cQ (ap [(6,pL eI p0),(7,pI (p0.length:Int)),(8,pI 0)] (by kernel_rfl) (ga h fun q3 hq3 h=>?_))))))
 refine av (Y:=Unit×Unit) (fun (_,_)=>[(3,pI 0)]) (fun (_,_)=>[]) (fun (_,_)=>q3=Sum.inl ()) ?_ ?_
 ·refine aR ?_
  refine aZ (Y:=Unit) (S:=Int) _ hq3 (fun _ v1=>[(3,pI 0),(6,pL eI p0),(7,pI (p0.length:Int)),(8,pI v1)]) (fun _ v1=>[]) () (iP rfl) bZ ?_
  rintro _ v1 o τ hb2;(try dsimp only at hb2);dsimp only [aK]
  refine ah (ap [(9,pB (decide (v1<(p0.length:Int))))] (by kernel_rfl) (cw (kU rfl hb2 (fun hc4 hb2=>?_) fun hc4 hb2=>?_)))
  ·refine ae ?_
   refine cw (jX (aa hb2 fun m5 hm5 hb2=>aB [] [10,11] [(5,pI m5)] (fC 0 eI hm5 bL) (by kernel_rfl) (cw (bU [12,13] [(14,pB (m5 != 0))] (by kernel_rfl) rfl hb2 (fun hc6 hb2=>?_) fun hc6 hb2=>?_))))
   ·refine ah ?_
    refine an [15] [(2,pI m5)] (by kernel_rfl) (dC (au (aO ?_)))
    refine bH hb2 (fun ht=>?_);subst ht
    refine au (bz ?_)
    exact zz r h rfl
   refine ae ?_
   refine aq (aW (an [16] [(8,pI (IntKind.i64.wrap (v1+1)))] (by kernel_rfl) ?_))
   exact bt hb2 () (iP rfl) bZ
  refine bc ?_
  refine aP (aJ hb2 (fun ht=>aM rfl ?_))
  exact am ((),()) (nG rfl) bZ ht.symm
 rintro ⟨_,_⟩ τ hz;(try dsimp only at hz);subst q3;(try dsimp only at h);dsimp only [aK]
 refine ah (an [17] [(2,pI 0)] (by kernel_rfl) (dC ?_))
 exact zz r h rfl
def hX (p0:Int):Option Bool:=some (p0 != p0)
theorem mQ {p0:Int} {r:Bool}  (h:hX p0=some r):PF 74 [pI p0] (pB r):=by
 unfold hX at h
 refine bo ?_
 refine dZ Tryz.func74 rfl Tryz.ntmps74 Tryz.results74 rfl (bh [2] (by kernel_rfl) (cw (an [3,4,5] [(2,pB (p0 != p0))] (by kernel_rfl) (dC ?_))))
 exact zz r h rfl
def dB (p0:Int) (p1:Int):Option Int:=(hX p0).bind fun x1=>(hX p1).bind fun x2=>cond x1 (cond x2 (some (0:Int)) (some (-1))) (cond x2 (some (1:Int)) (cond (decide (p0<p1)) (some (-1)) (cond (decide (p1<p0)) (some (1:Int)) (some (0:Int)))))
theorem gA {p0:Int} {p1:Int} {r:Int}  (h:dB p0 p1=some r):PF 40 [pI p0,pI p1] (pI r):=by
 unfold dB at h
 refine bo ?_
 refine dZ Tryz.func40 rfl Tryz.ntmps40 Tryz.results40 rfl (bh [4] (by kernel_rfl) (dV h fun x1 hx1 h=>aB [] [7,8] [(5,pB x1)] (bw 1 (mQ hx1) bL) (by kernel_rfl) (dV h fun x2 hx2 h=>aB [] [9,10] [(6,pB x2)] (bw 1 (mQ hx2) bL) (by kernel_rfl) (cQ (ap [(11,pB x1)] (by kernel_rfl) (dW rfl h (fun hc3 h=>?_) fun hc3 h=>?_))))))
 ·refine ah ?_
  refine ah (ap [(12,pB x2)] (by kernel_rfl) (dW rfl h (fun hc4 h=>?_) fun hc4 h=>?_))
  ·refine ah ?_
   refine dq [(4,pI 0)] (by kernel_rfl) (aO ?_)
   exact zz r h rfl
  refine ae ?_
  refine cw (dq [(4,pI (-1))] (by kernel_rfl) ?_)
  exact zz r h rfl
 refine ae ?_
 refine cQ (ap [(13,pB x2)] (by kernel_rfl) (dW rfl h (fun hc5 h=>?_) fun hc5 h=>?_))
 ·refine ah ?_
  refine dq [(4,pI 1)] (by kernel_rfl) ?_
  exact zz r h rfl
 refine ae ?_
 refine cQ (bU [14,15] [(16,pB (decide (p0<p1)))] (by kernel_rfl) rfl h (fun hc6 h=>?_) fun hc6 h=>?_)
 ·refine ah ?_
  refine dq [(4,pI (-1))] (by kernel_rfl) ?_
  exact zz r h rfl
 refine ae ?_
 refine cQ (bU [17,18] [(19,pB (decide (p1<p0)))] (by kernel_rfl) rfl h (fun hc7 h=>?_) fun hc7 h=>?_)
 ·refine ah ?_
  refine dq [(4,pI 1)] (by kernel_rfl) ?_
  exact zz r h rfl
 refine ae ?_
 refine cw (ap [(4,pI 0)] (by kernel_rfl) (dC ?_))
 exact zz r h rfl
def fp (p0:Za) (p1:Za):Option Int:=(dB p0.From p1.From).bind fun x3=>(dB p0.Number p1.Number).bind fun x4=>(km [x3,x4]).bind fun x6=>some x6
theorem jK {p0:Za} {p1:Za} {r:Int}  (h:fp p0 p1=some r):PF 87 [.agg (aU p0),.agg (aU p1)] (pI r):=by
 unfold fp at h
 refine bo ?_
 refine dZ Tryz.func87 rfl Tryz.ntmps87 Tryz.results87 rfl (dj rfl (bC (cs:=(aU p0)) rfl rfl (fun b1=>aF rfl (bC (cs:=(aU p1)) rfl rfl (fun b2=>br [4] (by kernel_rfl) (cw (bN (ρd:=[]) [(0,0),(1,0),(2,0),(3,0),(5,0),(6,0),(7,0),(8,0),(4,1),(9,1),(10,1),(11,1),(12,0)] _ (List.Perm.refl _) (by kernel_rfl) rfl (aa h fun x3 hx3 h=>aa h fun x4 hx4 h=>cr 10 [1,0,1,0] [5,6,7,8,10,11,12,13] [(9,pI x3),(14,pI x4)] (bw 8 (gA hx3) (bw 9 (gA hx4) bL)) (by kernel_rfl) ?_))))))))
 refine mI rfl rfl rfl (mJ (bg rfl rfl rfl rfl rfl (dI rfl (dI rfl eY)) rfl rfl rfl rfl (fun b5=>⟨_,_,_,_,_,_,_,rfl,by (repeat (first | exact aN | apply aC)),?_⟩)))
 refine aa h fun x6 hx6 h=>cr 2 [] [16] [(4,pI x6)] (bw 0 (oZ hx6) bL) (by kernel_rfl) (cC (dC ?_))
 exact zz r h rfl
def gj (p0:Zk):Option Int:=(fG p0.Source p0.Code p0.Units).bind fun x2=>cond (!x2) (some (2:Int)) (cond (decide (200<(p0.Facts.length:Int))) (some (8:Int)) ((bu (S:=Int) (T:=(Unit)⊕(_)) (fun v5=>cond (decide (v5<(p0.Facts.length:Int))) ((idx p0.Facts v5).bind fun m9=>(fH m9).bind fun x11=>cond (!x11) (some (.inr (.inr (2:Int)))) (some (.inl (IntKind.i64.wrap (v5+1))))) (some (.inr (.inl ())))) FUEL 0).bind fun q=>match q with | .inl _=>(bu (S:=Int) (T:=(Unit)⊕(_)) (fun v13=>cond (decide (v13<(p0.Facts.length:Int))) ((idx p0.Facts (IntKind.i64.wrap (v13 - 1))).bind fun m17=>(idx p0.Facts v13).bind fun m18=>(fp m17 m18).bind fun x19=>cond (decide (0≤x19)) (some (.inr (.inr (9:Int)))) (some (.inl (IntKind.i64.wrap (v13+1))))) (some (.inr (.inl ())))) FUEL 1).bind (fun q=>match q with | .inl _=>some (0:Int) | .inr e=>some e) | .inr e=>some e))
theorem lZ {p0:Zk} {r:Int}  (h:gj p0=some r):PF 47 [.agg (bj p0)] (pI r):=by
 unfold gj at h
 refine bo ?_
 refine dZ Tryz.func47 rfl Tryz.ntmps47 Tryz.results47 rfl (dj rfl (bC (cs:=(bj p0)) rfl rfl (fun b1=>br [2] (by kernel_rfl) (cQ (aa h fun x2 hx2 h=>aB [0,0,0] (rg 6 7) [(13,pB (!x2))] (bw 6 (lN hx2) bL) (by kernel_rfl) (dW rfl h (fun hc3 h=>?_) fun hc3 h=>?_))))))
 ·refine ah ?_
  refine dq [(2,pI 2)] (by kernel_rfl) ?_
  exact zz r h rfl
 refine ae ?_
 refine cQ (aV [0] [14,15,16] [(17,pB (decide (200<(p0.Facts.length:Int))))] (by kernel_rfl) (dW rfl h (fun hc4 h=>?_) fun hc4 h=>?_))
 ·refine ah ?_
  refine dq [(2,pI 8)] (by kernel_rfl) ?_
  exact zz r h rfl
 refine ae ?_
 refine cQ (aV [0] [18] [(19,pL Za.enc p0.Facts),(20,pI (p0.Facts.length:Int)),(21,pI 0)] (by kernel_rfl) (ga h fun q7 hq7 h=>?_))
 refine av (Y:=Unit×Unit) (fun (_,_)=>[(1,pP b1 0)]) (fun (_,_)=>[PRes.b b1 43 (bj p0)]) (fun (_,_)=>q7=Sum.inl ()) ?_ ?_
 ·refine aR ?_
  refine aZ (Y:=Unit) (S:=Int) _ hq7 (fun _ v5=>[(1,pP b1 0),(19,pL Za.enc p0.Facts),(20,pI (p0.Facts.length:Int)),(21,pI v5)]) (fun _ v5=>[PRes.b b1 43 (bj p0)]) () (iP rfl) cq ?_
  rintro _ v5 o τ hb6;(try dsimp only at hb6);dsimp only [aK]
  refine ah (ap [(22,pB (decide (v5<(p0.Facts.length:Int))))] (by kernel_rfl) (cw (kU rfl hb6 (fun hc8 hb6=>?_) fun hc8 hb6=>?_)))
  ·refine ae ?_
   refine cw (jX (aa hb6 fun m9 hm9 hb6=>aj (bp 2 [] [23] [(24,.agg (aU m9))] (fC 0 Za.enc hm9 bL) (by kernel_rfl) (aF rfl (aY (cs:=[pI 0,pI 0,pI 0,pI 0,pS ByteArray.empty,pI 0,pI 0]) rfl rfl rfl rfl (fun b10=>aH rfl rfl (ag (vs:=(aU m9)) rfl rfl rfl rfl rfl bB Ez (ar (dV hb6 fun x11 hx11 hb6=>aB [0] [25,26] [(27,pB (!x11))] (bw 1 (lO hx11) bL) (by kernel_rfl) (dW rfl hb6 (fun hc12 hb6=>?_) fun hc12 hb6=>?_))))))))))
   ·refine ah ?_
    refine ap [(2,pI 2)] (by kernel_rfl) (dC (au (aO ?_)))
    refine bH hb6 (fun ht=>?_);subst ht
    refine au (bz ?_)
    exact zz r h rfl
   refine ae ?_
   refine aq (aW (an [28] [(21,pI (IntKind.i64.wrap (v5+1)))] (by kernel_rfl) ?_))
   exact bt hb6 () (iP rfl) (bq (aC aN) bZ)
  refine bc ?_
  refine aP (aJ hb6 (fun ht=>aM rfl ?_))
  exact am ((),()) (nG rfl) cq ht.symm
 rintro ⟨_,_⟩ τ hz;(try dsimp only at hz);subst q7;(try dsimp only at h);dsimp only [aK]
 refine gh (ap [(5,pI 1)] (by kernel_rfl) (ga h fun q15 hq15 h=>?_))
 refine av (Y:=Unit×Unit) (fun (_,_)=>[]) (fun (_,_)=>[]) (fun (_,_)=>q15=Sum.inl ()) ?_ ?_
 ·refine aR ?_
  refine aZ (Y:=Unit) (S:=Int) _ hq15 (fun _ v13=>[(1,pP b1 0),(5,pI v13)]) (fun _ v13=>[PRes.b b1 43 (bj p0)]) () (eN rfl) cq ?_
  rintro _ v13 o τ hb14;(try dsimp only at hb14);dsimp only [aK]
  refine gh (aV [0] [29,30,31,32] [(33,pB (decide (v13<(p0.Facts.length:Int))))] (by kernel_rfl) (dW rfl hb14 (fun hc16 hb14=>?_) fun hc16 hb14=>?_))
  ·refine ae ?_
   refine cw (jX (bN (ρd:=[]) [(0,0),(1,0),(2,0),(3,0),(4,0),(5,0),(6,0),(7,0),(8,0),(9,0),(10,0),(11,1),(12,0)] _ (List.Perm.refl _) (by kernel_rfl) rfl (aa hb14 fun m17 hm17 hb14=>aa hb14 fun m18 hm18 hb14=>aa hb14 fun x19 hx19 hb14=>cr 13 [0,0] (rg 36 12) [(48,pB (decide (0≤x19)))] (fC 4 Za.enc hm17 (fC 9 Za.enc hm18 (bw 11 (jK hx19) bL))) (by kernel_rfl) (cC (dW rfl hb14 (fun hc20 hb14=>?_) fun hc20 hb14=>?_)))))
   ·refine ah ?_
    refine ap [(2,pI 9)] (by kernel_rfl) (dC (au (aO ?_)))
    refine bH hb14 (fun ht=>?_);subst ht
    refine au (bz ?_)
    exact zz r h rfl
   refine ae ?_
   refine aq (aW (an [34,35] [(5,pI (IntKind.i64.wrap (v13+1)))] (by kernel_rfl) ?_))
   exact bt hb14 () (eN rfl) cq
  refine bc ?_
  refine aP (aJ hb14 (fun ht=>aM rfl ?_))
  exact am ((),()) sL bZ ht.symm
 rintro ⟨_,_⟩ τ hz;(try dsimp only at hz);subst q15;(try dsimp only at h);dsimp only [aK]
 refine ah (ap [(2,pI 0)] (by kernel_rfl) (dC ?_))
 exact zz r h rfl
def ma (p0:Za) (p1:Za):Option Int:=(dB p0.Day p1.Day).bind fun x3=>(fp p0 p1).bind fun x4=>(km [x3,x4]).bind fun x6=>some x6
theorem ud {p0:Za} {p1:Za} {r:Int}  (h:ma p0 p1=some r):PF 50 [.agg (aU p0),.agg (aU p1)] (pI r):=by
 unfold ma at h
 refine bo ?_
 refine dZ Tryz.func50 rfl Tryz.ntmps50 Tryz.results50 rfl (dj rfl (bC (cs:=(aU p0)) rfl rfl (fun b1=>aF rfl (bC (cs:=(aU p1)) rfl rfl (fun b2=>br [4] (by kernel_rfl) (cw (bN (ρd:=[]) [(0,0),(1,0),(2,0),(3,0),(5,0),(6,0),(4,1),(7,1),(8,1),(9,1),(10,0)] _ (List.Perm.refl _) (by kernel_rfl) rfl (aa h fun x3 hx3 h=>aa h fun x4 hx4 h=>cr 8 [1,0,1,0] [5,6,7,8,10,11] [(9,pI x3),(12,pI x4)] (bw 6 (gA hx3) (bw 7 (jK hx4) bL)) (by kernel_rfl) ?_))))))))
 refine mI rfl rfl rfl (mJ (bg rfl rfl rfl rfl rfl (dI rfl (dI rfl eY)) rfl rfl rfl rfl (fun b5=>⟨_,_,_,_,_,_,_,rfl,by (repeat (first | exact aN | apply aC)),?_⟩)))
 refine aa h fun x6 hx6 h=>cr 2 [] [14] [(4,pI x6)] (bw 0 (oZ hx6) bL) (by kernel_rfl) (cC (dC ?_))
 exact zz r h rfl
def hZ (p0:Int):Option Bool:=some (((Int.tmod p0 4) == 0)&&(((Int.tmod p0 100) != 0)||((Int.tmod p0 400) == 0)))
theorem mR {p0:Int} {r:Bool}  (h:hZ p0=some r):PF 165 [pI p0] (pB r):=by
 unfold hZ at h
 refine bo ?_
 refine dZ Tryz.func165 rfl Tryz.ntmps165 Tryz.results165 rfl (bh [2] (by kernel_rfl) (cw (an (rg 3 13) [(2,pB (((Int.tmod p0 4) == 0)&&(((Int.tmod p0 100) != 0)||((Int.tmod p0 400) == 0))))] (by kernel_rfl) (dC ?_))))
 exact zz r h rfl
def cG (p0:Int) (p1:Int):Option Int:=(gd (p1 == 2) (hZ p0)).bind fun x1=>cond ((p1 == 2)&&x1) (some (29:Int)) ((idx kf (IntKind.i64.wrap (p1 - 1))).bind fun m3=>some m3)
theorem bF {p0:Int} {p1:Int} {r:Int}  (h:cG p0 p1=some r):PF 129 [pI p0,pI p1] (pI r):=by
 unfold cG at h
 refine bo ?_
 refine dZ Tryz.func129 rfl Tryz.ntmps129 Tryz.results129 rfl (bh [4] (by kernel_rfl) (cQ (aa h fun x1 hx1 h=>aB [] (rg 5 5) [(10,pB ((p1 == 2)&&x1))] (eU 4 (fun hc=>mR (cY hx1 hc)) bL) (by kernel_rfl) (dW rfl h (fun hc2 h=>?_) fun hc2 h=>?_))))
 ·refine ah ?_
  refine dq [(4,pI 29)] (by kernel_rfl) ?_
  exact zz r h rfl
 refine ae ?_
 refine dV h fun m3 hm3 h=>aj (bO 2 [11] [(12,pI (IntKind.i64.wrap (p1 - 1)))] (by kernel_rfl) (bM rfl rfl rfl (BL (tbl:=kf) rfl rfl rfl rfl rfl (fun _ h=>gok_ml h) rfl hm3) (lJ [14] [(4,pI m3)] (by kernel_rfl) (dC ?_))))
 exact zz r h rfl
def jL (p0:Int):Option Bool:=some ((decide (0≤p0))&&(decide (p0≤36524)))
theorem qu {p0:Int} {r:Bool}  (h:jL p0=some r):PF 163 [pI p0] (pB r):=by
 unfold jL at h
 refine bo ?_
 refine dZ Tryz.func163 rfl Tryz.ntmps163 Tryz.results163 rfl (bh [2] (by kernel_rfl) (cw (an (rg 3 6) [(2,pB ((decide (0≤p0))&&(decide (p0≤36524))))] (by kernel_rfl) (dC ?_))))
 exact zz r h rfl
def dd (p0:Int):Option Int:=(hZ p0).bind fun x1=>cond x1 (some (366:Int)) (some (365:Int))
theorem gB {p0:Int} {r:Int}  (h:dd p0=some r):PF 164 [pI p0] (pI r):=by
 unfold dd at h
 refine bo ?_
 refine dZ Tryz.func164 rfl Tryz.ntmps164 Tryz.results164 rfl (bh [2] (by kernel_rfl) (cQ (aa h fun x1 hx1 h=>aB [] [3] [(4,pB x1)] (bw 1 (mR hx1) bL) (by kernel_rfl) (dW rfl h (fun hc2 h=>?_) fun hc2 h=>?_))))
 ·refine ah ?_
  refine dq [(2,pI 366)] (by kernel_rfl) ?_
  exact zz r h rfl
 refine ae ?_
 refine cw (ap [(2,pI 365)] (by kernel_rfl) (dC ?_))
 exact zz r h rfl
def kM (p0:Int):Option (Zr×Int):=(jL p0).bind fun x2=>cond (!x2) (some ((⟨0,0,0⟩:Zr),(2:Int))) ((bu (S:=Int×Int) (T:=(Int×Int)) (fun (v4,v5)=>(dd v5).bind fun x10=>cond (decide (x10≤v4)) ((dd v5).bind fun x12=>some (.inl ((IntKind.i64.wrap (v4 - x12)),(IntKind.i64.wrap (v5+1))))) (some (.inr (v4,v5)))) FUEL (p0,2000)).bind fun (v6,v7)=>(bu (S:=Int×Int) (T:=(Int×Int)) (fun (v13,v14)=>(cG v7 v14).bind fun x19=>cond (decide (x19≤v13)) ((cG v7 v14).bind fun x21=>some (.inl ((IntKind.i64.wrap (v13 - x21)),(IntKind.i64.wrap (v14+1))))) (some (.inr (v13,v14)))) FUEL (v6,1)).bind fun (v15,v16)=>some ((⟨v7,v16,(IntKind.i64.wrap (v15+1))⟩:Zr),(0:Int)))
theorem ue {p0:Int} {r:(Zr×Int)}  (h:kM p0=some r):PF 128 [pI p0] (.tup [.agg [pI r.1.Year,pI r.1.Month,pI r.1.Dom],pI r.2]):=by
 unfold kM at h
 refine bo ?_
 refine dZ Tryz.func128 rfl Tryz.ntmps128 Tryz.results128 rfl (dj rfl (aY (cs:=[pI 0,pI 0,pI 0]) rfl rfl rfl rfl (fun b1=>br [3] (by kernel_rfl) (cQ (aa h fun x2 hx2 h=>aB [] [6,7] [(8,pB (!x2))] (bw 1 (qu hx2) bL) (by kernel_rfl) (dW rfl h (fun hc3 h=>?_) fun hc3 h=>?_))))))
 ·refine ah ?_
  refine cP 1 [(9,.agg [pI 0,pI 0,pI 0])] (by kernel_rfl) (aH rfl rfl (ag (vs:=[pI 0,pI 0,pI 0]) rfl rfl rfl rfl rfl bB AC (aL [(3,pI 2)] (by kernel_rfl) (ua ?_))))
  obtain rfl:=osi h
  exact aI (bD (cg rfl dt rfl) (aD rfl)) bZ ⟨rfl,rfl⟩
 refine ae ?_
 refine cw (ap [(4,pI 2000),(5,pI 1)] (by kernel_rfl) (dV h fun q9 hq9 h=>?_))
 refine av (Y:=Unit×(Int×Int)) (fun (_,(v6,v7))=>[(0,pI v6),(2,pP b1 0),(4,pI v7),(5,pI 1)]) (fun (_,(v6,v7))=>[PRes.b b1 158 [pI 0,pI 0,pI 0]]) (fun (_,(v6,v7))=>q9=(v6,v7)) ?_ ?_
 ·refine aR ?_
  refine aZ (Y:=Unit) (S:=Int×Int) _ hq9 (fun _ (v4,v5)=>[(0,pI v4),(2,pP b1 0),(4,pI v5),(5,pI 1)]) (fun _ (v4,v5)=>[PRes.b b1 158 [pI 0,pI 0,pI 0]]) () (iP rfl) cq ?_
  rintro _ ⟨v4,v5⟩ o τ hb8;(try dsimp only at hb8);dsimp only [aK]
  refine gh (aa hb8 fun x10 hx10 hb8=>aB [] [10,11,12] [(13,pB (decide (x10≤v4)))] (bw 2 (gB hx10) bL) (by kernel_rfl) (dW rfl hb8 (fun hc11 hb8=>?_) fun hc11 hb8=>?_))
  ·refine ae ?_
   refine aW (jX (aa hb8 fun x12 hx12 hb8=>aB [] [14,15,16,17] [(0,pI (IntKind.i64.wrap (v4 - x12)))] (bw 2 (gB hx12) bL) (by kernel_rfl) (aW (an [18,19] [(4,pI (IntKind.i64.wrap (v5+1)))] (by kernel_rfl) (aq ?_)))))
   exact bt hb8 () (iP rfl) cq
  refine bc ?_
  refine aP (aJ hb8 (fun ht=>aM rfl ?_))
  exact am ((),(v4,v5)) (iP rfl) cq ht.symm
 rintro ⟨_,⟨v6,v7⟩⟩ τ hz;(try dsimp only at hz);subst q9;(try dsimp only at h);dsimp only [aK]
 refine ah (aa h fun q18 hq18 h=>?_)
 refine av (Y:=Unit×(Int×Int)) (fun (_,(v15,v16))=>[(0,pI v15),(2,pP b1 0),(4,pI v7),(5,pI v16)]) (fun (_,(v15,v16))=>[PRes.b b1 158 [pI 0,pI 0,pI 0]]) (fun (_,(v15,v16))=>q18=(v15,v16)) ?_ ?_
 ·refine aR ?_
  refine aZ (Y:=Unit) (S:=Int×Int) _ hq18 (fun _ (v13,v14)=>[(0,pI v13),(2,pP b1 0),(4,pI v7),(5,pI v14)]) (fun _ (v13,v14)=>[PRes.b b1 158 [pI 0,pI 0,pI 0]]) () (iP rfl) cq ?_
  rintro _ ⟨v13,v14⟩ o τ hb17;(try dsimp only at hb17);dsimp only [aK]
  refine gh (aa hb17 fun x19 hx19 hb17=>aB [] [20,21,22,23] [(24,pB (decide (x19≤v13)))] (bw 3 (bF hx19) bL) (by kernel_rfl) (dW rfl hb17 (fun hc20 hb17=>?_) fun hc20 hb17=>?_))
  ·refine ae ?_
   refine aW (jX (aa hb17 fun x21 hx21 hb17=>aB [] (rg 25 5) [(0,pI (IntKind.i64.wrap (v13 - x21)))] (bw 3 (bF hx21) bL) (by kernel_rfl) (aW (an [30,31] [(5,pI (IntKind.i64.wrap (v14+1)))] (by kernel_rfl) (aq ?_)))))
   exact bt hb17 () (iP rfl) cq
  refine bc ?_
  refine aP (aJ hb17 (fun ht=>aM rfl ?_))
  exact am ((),(v13,v14)) (iP rfl) cq ht.symm
 rintro ⟨_,⟨v15,v16⟩⟩ τ hz;(try dsimp only at hz);subst q18;(try dsimp only at h);dsimp only [aK]
 refine ah (aj (bO 5 [32,33,34,35] [(36,.agg [pI v7,pI v16,pI (IntKind.i64.wrap (v15+1))])] (by kernel_rfl) (aH rfl rfl (ag (vs:=[pI v7,pI v16,pI (IntKind.i64.wrap (v15+1))]) rfl rfl rfl rfl rfl bB AC (aL [(3,pI 0)] (by kernel_rfl) (dC ?_))))))
 obtain rfl:=osi h
 exact aI (bD (cg rfl dt rfl) (aD rfl)) bZ ⟨rfl,rfl⟩
def gP (p0:Zr):Option (Int×Int):=cond ((((decide (p0.Year<2000))||(decide (2100≤p0.Year)))||(decide (p0.Month<1)))||(decide (12<p0.Month))) (some ((0:Int),(2:Int))) ((gd (!(decide (p0.Dom<1))) (cG p0.Year p0.Month)).bind fun x3=>cond ((decide (p0.Dom<1))||(decide (x3<p0.Dom))) (some ((0:Int),(2:Int))) ((bu (S:=Int×Int) (T:=(Int)) (fun (v5,v6)=>cond (decide (v6<p0.Year)) ((dd v6).bind fun x11=>some (.inl ((IntKind.i64.wrap (v5+x11)),(IntKind.i64.wrap (v6+1))))) (some (.inr v5))) FUEL ((IntKind.i64.wrap (p0.Dom - 1)),2000)).bind fun v7=>(bu (S:=Int×Int) (T:=(Int)) (fun (v12,v13)=>cond (decide (v13<p0.Month)) ((cG p0.Year v13).bind fun x18=>some (.inl ((IntKind.i64.wrap (v12+x18)),(IntKind.i64.wrap (v13+1))))) (some (.inr v12))) FUEL (v7,1)).bind fun v14=>some (v14,(0:Int))))
theorem pu {p0:Zr} {r:(Int×Int)}  (h:gP p0=some r):PF 130 [.agg [pI p0.Year,pI p0.Month,pI p0.Dom]] (.tup [pI r.1,pI r.2]):=by
 unfold gP at h
 refine bo ?_
 refine dZ Tryz.func130 rfl Tryz.ntmps130 Tryz.results130 rfl (dj rfl (bC (cs:=[pI p0.Year,pI p0.Month,pI p0.Dom]) rfl rfl (fun b1=>br [2,3] (by kernel_rfl) (cQ (aV [0,0,0,0] (rg 7 17) [(24,pB ((((decide (p0.Year<2000))||(decide (2100≤p0.Year)))||(decide (p0.Month<1)))||(decide (12<p0.Month))))] (by kernel_rfl) (dW rfl h (fun hc2 h=>?_) fun hc2 h=>?_))))))
 ·refine ah ?_
  refine dq [(2,pI 0),(3,pI 2)] (by kernel_rfl) ?_
  obtain rfl:=osi h
  exact aI (bD (aD rfl) (aD rfl)) bZ ⟨rfl,rfl⟩
 refine ae ?_
 refine cQ (bN (ρd:=[]) [(0,0),(1,0),(2,0),(3,0),(4,0),(5,0),(6,0),(7,0),(8,0),(9,0),(10,1),(11,0),(12,0)] _ (List.Perm.refl _) (by kernel_rfl) rfl (aa h fun x3 hx3 h=>cr 13 [0,0,0,0] (rg 25 12) [(37,pB ((decide (p0.Dom<1))||(decide (x3<p0.Dom))))] (eU 10 (fun hc=>bF (cY hx3 hc)) bL) (by kernel_rfl) (cC (dW rfl h (fun hc4 h=>?_) fun hc4 h=>?_))))
 ·refine ah ?_
  refine dq [(2,pI 0),(3,pI 2)] (by kernel_rfl) ?_
  obtain rfl:=osi h
  exact aI (bD (aD rfl) (aD rfl)) bZ ⟨rfl,rfl⟩
 refine ae ?_
 refine cw (aV [0] [38,39,40] [(4,pI (IntKind.i64.wrap (p0.Dom - 1)))] (by kernel_rfl) (cQ (ap [(5,pI 2000)] (by kernel_rfl) (ga h fun q9 hq9 h=>?_))))
 refine av (Y:=Unit×Int) (fun (_,v7)=>[(1,pP b1 0),(4,pI v7)]) (fun (_,v7)=>[PRes.b b1 158 [pI p0.Year,pI p0.Month,pI p0.Dom]]) (fun (_,v7)=>q9=v7) ?_ ?_
 ·refine aR ?_
  refine aZ (Y:=Unit) (S:=Int×Int) _ hq9 (fun _ (v5,v6)=>[(1,pP b1 0),(4,pI v5),(5,pI v6)]) (fun _ (v5,v6)=>[PRes.b b1 158 [pI p0.Year,pI p0.Month,pI p0.Dom]]) () (kH rfl) cq ?_
  rintro _ ⟨v5,v6⟩ o τ hb8;(try dsimp only at hb8);dsimp only [aK]
  refine gh (aV [0] [41,42,43] [(44,pB (decide (v6<p0.Year)))] (by kernel_rfl) (dW rfl hb8 (fun hc10 hb8=>?_) fun hc10 hb8=>?_))
  ·refine ae ?_
   refine cw (aR (aa hb8 fun x11 hx11 hb8=>aB [] [47,48,49,50] [(4,pI (IntKind.i64.wrap (v5+x11)))] (bw 2 (gB hx11) bL) (by kernel_rfl) (aq (aW (an [45,46] [(5,pI (IntKind.i64.wrap (v6+1)))] (by kernel_rfl) ?_)))))
   exact bt hb8 () (kH rfl) cq
  refine bc ?_
  refine aP (aJ hb8 (fun ht=>aM rfl ?_))
  exact am ((),v5) (eN rfl) cq ht.symm
 rintro ⟨_,v7⟩ τ hz;(try dsimp only at hz);subst q9;(try dsimp only at h);dsimp only [aK]
 refine gh (ap [(6,pI 1)] (by kernel_rfl) (ga h fun q16 hq16 h=>?_))
 refine av (Y:=Unit×Int) (fun (_,v14)=>[(4,pI v14)]) (fun (_,v14)=>[]) (fun (_,v14)=>q16=v14) ?_ ?_
 ·refine aR ?_
  refine aZ (Y:=Unit) (S:=Int×Int) _ hq16 (fun _ (v12,v13)=>[(1,pP b1 0),(4,pI v12),(6,pI v13)]) (fun _ (v12,v13)=>[PRes.b b1 158 [pI p0.Year,pI p0.Month,pI p0.Dom]]) () (kH rfl) cq ?_
  rintro _ ⟨v12,v13⟩ o τ hb15;(try dsimp only at hb15);dsimp only [aK]
  refine gh (aV [0] [51,52,53] [(54,pB (decide (v13<p0.Month)))] (by kernel_rfl) (dW rfl hb15 (fun hc17 hb15=>?_) fun hc17 hb15=>?_))
  ·refine ae ?_
   refine cw (aR (aa hb15 fun x18 hx18 hb15=>aB [0] (rg 57 6) [(4,pI (IntKind.i64.wrap (v12+x18)))] (bw 4 (bF hx18) bL) (by kernel_rfl) (aq (aW (an [55,56] [(6,pI (IntKind.i64.wrap (v13+1)))] (by kernel_rfl) ?_)))))
   exact bt hb15 () (kH rfl) cq
  refine bc ?_
  refine aP (aJ hb15 (fun ht=>aM rfl ?_))
  exact am ((),v12) (nG rfl) bZ ht.symm
 rintro ⟨_,v14⟩ τ hz;(try dsimp only at hz);subst q16;(try dsimp only at h);dsimp only [aK]
 refine ah (an [63] [(2,pI v14),(3,pI 0)] (by kernel_rfl) (dC ?_))
 obtain rfl:=osi h
 exact aI (bD (aD rfl) (aD rfl)) bZ ⟨rfl,rfl⟩
def dO (p0:Int) (p1:Int):Option (Int×Int):=(kM p0).bind fun x1=>cond (((x1.2 != 0)||(decide (p1<(-1200))))||(decide (1200<p1))) (some ((0:Int),(2:Int))) (lb ((IntKind.i64.wrap ((IntKind.i64.wrap ((IntKind.i64.wrap ((IntKind.i64.wrap ((IntKind.i64.wrap (x1.1.Year - 2000))*12))+x1.1.Month)) - 1))+p1))) (fun w4=>cond ((decide (w4<0))||(decide (1200≤w4))) (some ((0:Int),(3:Int))) ((cG (IntKind.i64.wrap (2000+(IntKind.i64.wrap (Int.tdiv w4 12)))) (IntKind.i64.wrap ((Int.tmod w4 12)+1))).bind fun x6=>(gP (⟨(IntKind.i64.wrap (2000+(IntKind.i64.wrap (Int.tdiv w4 12)))),(IntKind.i64.wrap ((Int.tmod w4 12)+1)),(ex x1.1.Dom x6)⟩:Zr)).bind fun x7=>some (x7.1,x7.2))))
theorem nJ {p0:Int} {p1:Int} {r:(Int×Int)}  (h:dO p0 p1=some r):PF 94 [pI p0,pI p1] (.tup [pI r.1,pI r.2]):=by
 unfold dO at h
 refine bo ?_
 refine dZ Tryz.func94 rfl Tryz.ntmps94 Tryz.results94 rfl (bh [4,5] (by kernel_rfl) (dV h fun x1 hx1 h=>aj (bp 5 [] [10,11,9] [(12,.agg [pI x1.1.Year,pI x1.1.Month,pI x1.1.Dom]),(13,pI x1.2)] (bw 1 (ue hx1) bL) (by kernel_rfl) (aF rfl (aY (cs:=[pI 0,pI 0,pI 0]) rfl rfl rfl rfl (fun b2=>aH rfl rfl (ag (vs:=[pI x1.1.Year,pI x1.1.Month,pI x1.1.Dom]) rfl rfl rfl rfl rfl bB AC (aL [(7,pI x1.2)] (by kernel_rfl) (cQ (bU (rg 14 9) [(23,pB (((x1.2 != 0)||(decide (p1<(-1200))))||(decide (1200<p1))))] (by kernel_rfl) rfl h (fun hc3 h=>?_) fun hc3 h=>?_))))))))))
 ·refine ah ?_
  refine dq [(4,pI 0),(5,pI 2)] (by kernel_rfl) ?_
  obtain rfl:=osi h
  exact aI (bD (aD rfl) (aD rfl)) bZ ⟨rfl,rfl⟩
 refine ae ?_
 refine cw ?_
 refine dr h ?_;clear h;intro w4 hw4 h
 refine aj (cI 10 [0,0] (rg 24 9) [(33,pI (IntKind.i64.wrap ((IntKind.i64.wrap ((IntKind.i64.wrap ((IntKind.i64.wrap ((IntKind.i64.wrap (x1.1.Year - 2000))*12))+x1.1.Month)) - 1))+p1)))] (by kernel_rfl) (bM rfl rfl rfl (be rfl (.p (congrArg (fun z=>PV.v (Value.int .i64 z)) hw4))) (ar (cQ (bU (rg 34 5) [(39,pB ((decide (w4<0))||(decide (1200≤w4))))] (by kernel_rfl) rfl h (fun hc5 h=>?_) fun hc5 h=>?_)))))
 ·refine ah ?_
  refine dq [(4,pI 0),(5,pI 3)] (by kernel_rfl) ?_
  obtain rfl:=osi h
  exact aI (bD (aD rfl) (aD rfl)) bZ ⟨rfl,rfl⟩
 refine ae ?_
 refine cw (aj (bO 4 [40,41] [(42,pI (IntKind.i64.wrap (2000+(IntKind.i64.wrap (Int.tdiv w4 12))))),(43,pP b2 0)] (by kernel_rfl) (aH rfl rfl (ag (vs:=[pI (IntKind.i64.wrap (2000+(IntKind.i64.wrap (Int.tdiv w4 12))))]) rfl rfl rfl rfl rfl bB cN (ar (cw (aj (bO 4 [44,45] [(46,pI (IntKind.i64.wrap ((Int.tmod w4 12)+1))),(47,pP b2 1)] (by kernel_rfl) (aH rfl rfl (ag (vs:=[pI (IntKind.i64.wrap ((Int.tmod w4 12)+1))]) rfl rfl rfl rfl rfl bB (bf cN) (ar (dV h fun x6 hx6 h=>?_))))))))))))
 refine av (Y:=Unit) (fun _=>[(6,pP b2 0)]) (fun _=>[PRes.b b2 158 [pI (IntKind.i64.wrap (2000+(IntKind.i64.wrap (Int.tdiv w4 12)))),pI (IntKind.i64.wrap ((Int.tmod w4 12)+1)),pI (ex x1.1.Dom x6)]]) (fun _=>True) ?_ ?_
 ·refine hU (ρd:=[PRes.b b2 _ _]) _ (List.Perm.refl _) ?_
  refine az 0 (by kernel_rfl) rfl rfl rfl rfl (ak rfl rfl rfl rfl rfl (.p rfl)) (az 2 (by kernel_rfl) rfl rfl rfl rfl (ak rfl rfl rfl rfl rfl (.p rfl)) (az 4 (by kernel_rfl) rfl rfl rfl rfl (ak rfl rfl rfl rfl rfl (.p rfl)) ?_))
  refine jm 1 3 5 (by kernel_rfl) ?_ ?_ ?_
  ·skip
   refine af rfl rfl rfl rfl (bX (aw (p:=pI x1.1.Dom) rfl (.p rfl) dt rfl) ?_)
   refine bA 3 5 (by kernel_rfl) ?_ ?_
   ·skip
    refine af rfl rfl rfl rfl (bX (aw (p:=pI (IntKind.i64.wrap (2000+(IntKind.i64.wrap (Int.tdiv w4 12))))) rfl (.p rfl) dt rfl) (ai 5 (by kernel_rfl) (af rfl rfl rfl rfl (bX (aw (p:=pI (IntKind.i64.wrap ((Int.tmod w4 12)+1))) rfl (.p rfl) dt rfl) (ai 6 (by kernel_rfl) (dg rfl rfl rfl rfl rfl rfl (bF hx6) (az 7 (by kernel_rfl) rfl rfl rfl rfl (ik rfl (.p rfl) (.p rfl)) (az 8 (by kernel_rfl) rfl rfl rfl rfl (ak rfl rfl rfl rfl rfl (.p rfl)) (ai 9 (by kernel_rfl) (aQ rfl rfl rfl (ag (vs:=[pI (ex x1.1.Dom x6)]) rfl rfl rfl rfl rfl bB (bf (bf cN)) (aT (by kernel_rfl) ?_))))))))))))
    exact am () (nG rfl) cq trivial
   skip
   refine af rfl rfl rfl rfl (bX (aw (p:=pI (IntKind.i64.wrap ((Int.tmod w4 12)+1))) rfl (.p rfl) dt rfl) (ai 3 (by kernel_rfl) (af rfl rfl rfl rfl (bX (aw (p:=pI (IntKind.i64.wrap (2000+(IntKind.i64.wrap (Int.tdiv w4 12))))) rfl (.p rfl) dt rfl) (ai 6 (by kernel_rfl) (dg rfl rfl rfl rfl rfl rfl (bF hx6) (az 7 (by kernel_rfl) rfl rfl rfl rfl (ik rfl (.p rfl) (.p rfl)) (az 8 (by kernel_rfl) rfl rfl rfl rfl (ak rfl rfl rfl rfl rfl (.p rfl)) (ai 9 (by kernel_rfl) (aQ rfl rfl rfl (ag (vs:=[pI (ex x1.1.Dom x6)]) rfl rfl rfl rfl rfl bB (bf (bf cN)) (aT (by kernel_rfl) ?_))))))))))))
   exact am () (nG rfl) cq trivial
  ·skip
   refine af rfl rfl rfl rfl (bX (aw (p:=pI (IntKind.i64.wrap (2000+(IntKind.i64.wrap (Int.tdiv w4 12))))) rfl (.p rfl) dt rfl) ?_)
   refine bA 1 5 (by kernel_rfl) ?_ ?_
   ·skip
    refine af rfl rfl rfl rfl (bX (aw (p:=pI x1.1.Dom) rfl (.p rfl) dt rfl) (ai 5 (by kernel_rfl) (af rfl rfl rfl rfl (bX (aw (p:=pI (IntKind.i64.wrap ((Int.tmod w4 12)+1))) rfl (.p rfl) dt rfl) (ai 6 (by kernel_rfl) (dg rfl rfl rfl rfl rfl rfl (bF hx6) (az 7 (by kernel_rfl) rfl rfl rfl rfl (ik rfl (.p rfl) (.p rfl)) (az 8 (by kernel_rfl) rfl rfl rfl rfl (ak rfl rfl rfl rfl rfl (.p rfl)) (ai 9 (by kernel_rfl) (aQ rfl rfl rfl (ag (vs:=[pI (ex x1.1.Dom x6)]) rfl rfl rfl rfl rfl bB (bf (bf cN)) (aT (by kernel_rfl) ?_))))))))))))
    exact am () (nG rfl) cq trivial
   skip
   refine af rfl rfl rfl rfl (bX (aw (p:=pI (IntKind.i64.wrap ((Int.tmod w4 12)+1))) rfl (.p rfl) dt rfl) ?_)
   refine bA 1 6 (by kernel_rfl) ?_ ?_
   ·skip
    refine af rfl rfl rfl rfl (bX (aw (p:=pI x1.1.Dom) rfl (.p rfl) dt rfl) (ai 6 (by kernel_rfl) (dg rfl rfl rfl rfl rfl rfl (bF hx6) (az 7 (by kernel_rfl) rfl rfl rfl rfl (ik rfl (.p rfl) (.p rfl)) (az 8 (by kernel_rfl) rfl rfl rfl rfl (ak rfl rfl rfl rfl rfl (.p rfl)) (ai 9 (by kernel_rfl) (aQ rfl rfl rfl (ag (vs:=[pI (ex x1.1.Dom x6)]) rfl rfl rfl rfl rfl bB (bf (bf cN)) (aT (by kernel_rfl) ?_)))))))))
    exact am () (nG rfl) cq trivial
   skip
   refine dg rfl rfl rfl rfl rfl rfl (bF hx6) (ai 1 (by kernel_rfl) (af rfl rfl rfl rfl (bX (aw (p:=pI x1.1.Dom) rfl (.p rfl) dt rfl) (az 7 (by kernel_rfl) rfl rfl rfl rfl (ik rfl (.p rfl) (.p rfl)) (az 8 (by kernel_rfl) rfl rfl rfl rfl (ak rfl rfl rfl rfl rfl (.p rfl)) (ai 9 (by kernel_rfl) (aQ rfl rfl rfl (ag (vs:=[pI (ex x1.1.Dom x6)]) rfl rfl rfl rfl rfl bB (bf (bf cN)) (aT (by kernel_rfl) ?_)))))))))
   exact am () (nG rfl) cq trivial
  skip
  refine af rfl rfl rfl rfl (bX (aw (p:=pI (IntKind.i64.wrap ((Int.tmod w4 12)+1))) rfl (.p rfl) dt rfl) ?_)
  refine bA 1 3 (by kernel_rfl) ?_ ?_
  ·skip
   refine af rfl rfl rfl rfl (bX (aw (p:=pI x1.1.Dom) rfl (.p rfl) dt rfl) (ai 3 (by kernel_rfl) (af rfl rfl rfl rfl (bX (aw (p:=pI (IntKind.i64.wrap (2000+(IntKind.i64.wrap (Int.tdiv w4 12))))) rfl (.p rfl) dt rfl) (ai 6 (by kernel_rfl) (dg rfl rfl rfl rfl rfl rfl (bF hx6) (az 7 (by kernel_rfl) rfl rfl rfl rfl (ik rfl (.p rfl) (.p rfl)) (az 8 (by kernel_rfl) rfl rfl rfl rfl (ak rfl rfl rfl rfl rfl (.p rfl)) (ai 9 (by kernel_rfl) (aQ rfl rfl rfl (ag (vs:=[pI (ex x1.1.Dom x6)]) rfl rfl rfl rfl rfl bB (bf (bf cN)) (aT (by kernel_rfl) ?_))))))))))))
   exact am () (nG rfl) cq trivial
  skip
  refine af rfl rfl rfl rfl (bX (aw (p:=pI (IntKind.i64.wrap (2000+(IntKind.i64.wrap (Int.tdiv w4 12))))) rfl (.p rfl) dt rfl) ?_)
  refine bA 1 6 (by kernel_rfl) ?_ ?_
  ·skip
   refine af rfl rfl rfl rfl (bX (aw (p:=pI x1.1.Dom) rfl (.p rfl) dt rfl) (ai 6 (by kernel_rfl) (dg rfl rfl rfl rfl rfl rfl (bF hx6) (az 7 (by kernel_rfl) rfl rfl rfl rfl (ik rfl (.p rfl) (.p rfl)) (az 8 (by kernel_rfl) rfl rfl rfl rfl (ak rfl rfl rfl rfl rfl (.p rfl)) (ai 9 (by kernel_rfl) (aQ rfl rfl rfl (ag (vs:=[pI (ex x1.1.Dom x6)]) rfl rfl rfl rfl rfl bB (bf (bf cN)) (aT (by kernel_rfl) ?_)))))))))
   exact am () (nG rfl) cq trivial
  skip
  refine dg rfl rfl rfl rfl rfl rfl (bF hx6) (ai 1 (by kernel_rfl) (af rfl rfl rfl rfl (bX (aw (p:=pI x1.1.Dom) rfl (.p rfl) dt rfl) (az 7 (by kernel_rfl) rfl rfl rfl rfl (ik rfl (.p rfl) (.p rfl)) (az 8 (by kernel_rfl) rfl rfl rfl rfl (ak rfl rfl rfl rfl rfl (.p rfl)) (ai 9 (by kernel_rfl) (aQ rfl rfl rfl (ag (vs:=[pI (ex x1.1.Dom x6)]) rfl rfl rfl rfl rfl bB (bf (bf cN)) (aT (by kernel_rfl) ?_)))))))))
  exact am () (nG rfl) cq trivial
 rintro _ τ _;dsimp only [aK]
 refine ah (aa h fun x7 hx7 h=>aB [0] [57,58,59,60] [(4,pI x7.1),(5,pI x7.2)] (bw 1 (pu hx7) bL) (by kernel_rfl) (dC ?_))
 obtain rfl:=osi h
 exact aI (bD (aD rfl) (aD rfl)) bZ ⟨rfl,rfl⟩
def rp (p0:Int) (p1:ByteArray) (p2:Int):Option (Zk×Int):=(fG p0 p1 p2).bind fun x2=>cond (!x2) (some ((⟨0,ByteArray.empty,0,[]⟩:Zk),(2:Int))) (some ((⟨p0,p1,p2,[]⟩:Zk),(0:Int)))
theorem wP {p0:Int} {p1:ByteArray} {p2:Int} {r:(Zk×Int)}  (h:rp p0 p1 p2=some r):PF 44 [pI p0,pS p1,pI p2] (.tup [.agg (bj r.1),pI r.2]):=by
 unfold rp at h
 refine bo ?_
 refine dZ Tryz.func44 rfl Tryz.ntmps44 Tryz.results44 rfl (dj rfl (aY (cs:=[pI 0,pS ByteArray.empty,pI 0,pN]) rfl rfl rfl rfl (fun b1=>br [7] (by kernel_rfl) (cQ (aa h fun x2 hx2 h=>aB [] [8,9,10,11] [(12,pB (!x2))] (bw 3 (lN hx2) bL) (by kernel_rfl) (dW rfl h (fun hc3 h=>?_) fun hc3 h=>?_))))))
 ·refine ah ?_
  refine cP 1 [(13,.agg [pI 0,pS ByteArray.empty,pI 0,pN])] (by kernel_rfl) (aH rfl rfl (ag (vs:=[pI 0,pS ByteArray.empty,pI 0,pN]) rfl rfl rfl rfl rfl bB rW (aL [(7,pI 2)] (by kernel_rfl) (aW (di (k:=3) (b:=b1) rfl bB (cd (aO ?_)))))))
  obtain rfl:=osi h
  exact aI (bD (cg rfl dt rfl) (aD rfl)) bZ ⟨rfl,rfl⟩
 refine ae ?_
 refine cw (aj (bO 4 [14,15,16] [(17,.agg [pI p0,pS p1,pI p2,pN])] (by kernel_rfl) (aH rfl rfl (ag (vs:=[pI p0,pS p1,pI p2,pN]) rfl rfl rfl rfl rfl bB rW (aL [(7,pI 0)] (by kernel_rfl) (aW (di (k:=3) (b:=b1) rfl bB (cd ?_))))))))
 obtain rfl:=osi h
 exact aI (bD (cg rfl dt rfl) (aD rfl)) bZ ⟨rfl,rfl⟩
def bT (p0:(List Za)) (p1:Za) (p2:(Za→Za→Option Int)):Option (Int×Bool):=(bu (S:=Int×Int) (T:=(Int)) (fun (v2,v3)=>cond (decide (v2<v3)) (lb ((IntKind.i64.wrap (cV .u64 (IntKind.u64.wrap (IntKind.i64.wrap (v2+v3))) 1))) (fun w8=>(idx p0 w8).bind fun m9=>(p2 m9 p1).bind fun x10=>cond (decide (x10<0)) (some (.inl ((IntKind.i64.wrap (w8+1)),v3))) (some (.inl (v2,w8))))) (some (.inr v2))) FUEL (0,(p0.length:Int))).bind fun v4=>(gd (decide (v4<(p0.length:Int))) (idx p0 v4)).bind fun m12=>(gd (decide (v4<(p0.length:Int))) (p2 m12 p1)).bind fun x13=>some (v4,((decide (v4<(p0.length:Int)))&&(x13 == 0)))
theorem dQ {p0:(List Za)} {p1:Za} {p2:(Za→Za→Option Int)} {r:(Int×Bool)} {g2:PV} (hg2:∀ {y0:Za} {y1:Za} {w:Int},p2 y0 y1=some w→PFV g2 [.agg (aU y0),.agg (aU y1)] (pI w)) (h:bT p0 p1 p2=some r):PF 86 [pL Za.enc p0,.agg (aU p1),g2] (.tup [pI r.1,pB r.2]):=by
 unfold bT at h
 refine bo ?_
 refine dZ Tryz.func86 rfl Tryz.ntmps86 Tryz.results86 rfl (dj rfl (bC (cs:=(aU p1)) rfl rfl (fun b1=>br [6,7] (by kernel_rfl) (cw (an [12,13] [(8,pI (p0.length:Int))] (by kernel_rfl) (cw (an [14] [(9,pI 0),(10,pI (p0.length:Int))] (by kernel_rfl) (dV h fun q6 hq6 h=>?_))))))))
 refine av (Y:=Unit×Int) (fun (_,v4)=>[(0,pL Za.enc p0),(2,g2),(4,pP b1 0),(8,pI (p0.length:Int)),(9,pI v4)]) (fun (_,v4)=>[PRes.b b1 93 (aU p1)]) (fun (_,v4)=>q6=v4) ?_ ?_
 ·refine aR ?_
  refine aZ (Y:=Unit) (S:=Int×Int) _ hq6 (fun _ (v2,v3)=>[(0,pL Za.enc p0),(2,g2),(4,pP b1 0),(8,pI (p0.length:Int)),(9,pI v2),(10,pI v3)]) (fun _ (v2,v3)=>[PRes.b b1 93 (aU p1)]) () (tL rfl) cq ?_
  rintro _ ⟨v2,v3⟩ o τ hb5;(try dsimp only at hb5);dsimp only [aK]
  refine gh (bU [15,16] [(17,pB (decide (v2<v3)))] (by kernel_rfl) rfl hb5 (fun hc7 hb5=>?_) fun hc7 hb5=>?_)
  ·refine ae ?_
   refine aW (jX ?_)
   refine dr hb5 ?_;clear hb5;intro w8 hw8 hb5
   refine aj (bO 6 (rg 18 5) [(23,pI (IntKind.i64.wrap (cV .u64 (IntKind.u64.wrap (IntKind.i64.wrap (v2+v3))) 1)))] (by kernel_rfl) (bM rfl rfl rfl (be rfl (.p (congrArg (fun z=>PV.v (Value.int .i64 z)) hw8))) (ar (cw (bN (ρd:=[]) [(0,0),(1,0),(2,0),(3,0),(4,0),(5,0),(6,1),(7,0)] _ (List.Perm.refl _) (by kernel_rfl) rfl (aa hb5 fun m9 hm9 hb5=>aa hb5 fun x10 hx10 hb5=>cr 8 [0] (rg 24 7) [(31,pB (decide (x10<0)))] (fC 3 Za.enc hm9 (BH 6 (hg2 hx10) bL)) (by kernel_rfl) (cC (dW rfl hb5 (fun hc11 hb5=>?_) fun hc11 hb5=>?_))))))))
   ·refine an [32,33] [(9,pI (IntKind.i64.wrap (w8+1)))] (by kernel_rfl) ?_
    refine aq ?_
    exact bt hb5 () (tL rfl) cq
   refine an [34] [(10,pI w8)] (by kernel_rfl) ?_
   refine aq ?_
   exact bt hb5 () (tL rfl) cq
  refine bc ?_
  refine aP (aJ hb5 (fun ht=>aM rfl ?_))
  exact am ((),v2) (mv rfl) cq ht.symm
 rintro ⟨_,v4⟩ τ hz;(try dsimp only at hz);subst q6;(try dsimp only at h);dsimp only [aK]
 refine ah (bN (ρd:=[]) [(0,0),(1,0),(2,0),(3,0),(4,0),(5,0),(6,0),(7,0),(8,0),(9,0),(10,0),(11,1),(12,0),(13,0),(14,0),(15,0)] _ (List.Perm.refl _) (by kernel_rfl) rfl (aa h fun m12 hm12 h=>aa h fun x13 hx13 h=>cr 16 [0] (rg 35 14) [(6,pI v4),(7,pB ((decide (v4<(p0.length:Int)))&&(x13 == 0)))] (jW 8 Za.enc (cY hm12) (Df 11 (fun hc=>hg2 (cY hx13 hc)) bL)) (by kernel_rfl) (cC (dC ?_))))
 obtain rfl:=osi h
 exact aI (bD (aD rfl) (aD rfl)) bZ ⟨rfl,rfl⟩
def du (p0:(List Za)):Option (List Za):=app 64 ([]:List Za) p0
theorem gQ {p0:(List Za)} {r:(List Za)} (h:du p0=some r):PCall 88 [pL Za.enc p0] [] (fun pv ρ'=>∃ a c,pv=.v (.slice a r.length c)∧ρ'=[PRes.row a r.length c 93 7 (List.map Za.enc r)]):=by
 unfold du at h
 refine ky Tryz.func88 rfl Tryz.ntmps88 Tryz.results88 rfl ?_
 (repeat refine ah ?_)
 refine aj (bM rfl rfl rfl (be (p:=.v (.slice none 0 0)) rfl (.p rfl)) (ar (aW ?_)))
 (repeat refine ah ?_)
 refine aj (bM rfl rfl rfl (cM (p:=pL Za.enc p0) rfl (.p rfl)) (ri rfl rfl rfl rfl rfl rfl (fun b hb=>ar (aW ?_))))
 refine qd rfl (fun hc=>?_) (fun hc=>?_)
 ·have e0:p0=[]:=List.map_eq_nil_iff.1 (hb hc)
  subst e0;obtain ⟨rfl,_⟩:=mH h
  (repeat refine ah ?_)
  refine aj (bM rfl rfl rfl (be (p:=.v (.slice none 0 0)) rfl (.p rfl)) (ar (aW (fj 93 7 (cd (aO ?_))))))
  exact aI (fM (aD rfl)) cq ⟨_,_,rfl,rfl⟩
 refine ae ?_
 refine aW ?_
 (repeat refine ah ?_)
 refine dj rfl (bg rfl rfl rfl rfl rfl eY rfl rfl rfl rfl (fun b1=>bM rfl rfl rfl (cM (p:=pL Za.enc p0) rfl (.p rfl)) ?_))
 refine aF rfl (aS (enc:=Za.enc) (xs:=([]:List Za)) rfl rfl rfl rfl rfl (fun _=>rfl) rfl rfl rfl (by exact aN) h (fun a c=>?_))
 refine bM rfl rfl rfl (be (p:=.v (.slice a r.length c)) rfl (.p rfl)) (ar (dC ?_))
 exact aI (fM (aD rfl)) cq ⟨_,_,rfl,rfl⟩
def lj  : Option (List Zo):=(kj).bind fun x1=>(idx x1 0).bind fun m2=>(idx x1 1).bind fun m4=>(idx x1 3).bind fun m5=>(idx x1 0).bind fun m8=>(idx x1 1).bind fun m9=>(idx x1 2).bind fun m11=>(idx x1 1).bind fun m14=>(idx x1 2).bind fun m16=>(idx x1 3).bind fun m17=>some [(⟨1,[(⟨m2,3⟩:Zh)],[(⟨m4,2⟩:Zh),(⟨m5,1⟩:Zh)],[5,1]⟩:Zo),(⟨2,[(⟨m8,1⟩:Zh),(⟨m9,2⟩:Zh)],[(⟨m11,1⟩:Zh)],[1]⟩:Zo),(⟨5,[(⟨m14,1⟩:Zh)],[(⟨m16,4⟩:Zh),(⟨m17,2⟩:Zh)],[1,0]⟩:Zo)]
theorem so  {r:(List Zo)}  (h:lj  = some r):PF 46 [] (pL Zo.enc r):=by
 unfold lj at h
 refine bo ?_
 refine dZ Tryz.func46 rfl Tryz.ntmps46 Tryz.results46 rfl (bh [0] (by kernel_rfl) (dV h fun x1 hx1 h=>aB [] [2] [(1,pL eS x1)] (bw 0 (oY hx1) bL) (by kernel_rfl) (dV h fun m2 hm2 h=>aa h fun m4 hm4 h=>aa h fun m5 hm5 h=>aa h fun m8 hm8 h=>aa h fun m9 hm9 h=>aa h fun m11 hm11 h=>aa h fun m14 hm14 h=>aa h fun m16 hm16 h=>aa h fun m17 hm17 h=>?_)))
 refine Dw (D:=[[1],[3],[4],[5],[6],[1],[8],[9],[10],[1],[12],[13],[14],[11,15],[],[7,16,17],[1],[19],[20],[21],[1],[23],[24],[25],[22,26],[1],[28],[29],[30],[31],[],[27,32,33],[1],[35],[36],[37],[38],[1],[40],[41],[42],[1],[44],[45],[46],[43,47],[],[39,48,49],[18,34,50],[51]]) [(3,pL eS x1),(4,.ref (eS m2) 0),(5,pS m2),(6,.agg [pS m2,pI 3]),(7,pL Zh.enc [(⟨m2,3⟩:Zh)]),(8,pL eS x1),(9,.ref (eS m4) 0),(10,pS m4),(11,.agg [pS m4,pI 2]),(12,pL eS x1),(13,.ref (eS m5) 0),(14,pS m5),(15,.agg [pS m5,pI 1]),(16,pL Zh.enc [(⟨m4,2⟩:Zh),(⟨m5,1⟩:Zh)]),(17,pL eI [5,1]),(18,.agg [pI 1,pL Zh.enc [(⟨m2,3⟩:Zh)],pL Zh.enc [(⟨m4,2⟩:Zh),(⟨m5,1⟩:Zh)],pL eI [5,1]]),(19,pL eS x1),(20,.ref (eS m8) 0),(21,pS m8),(22,.agg [pS m8,pI 1]),(23,pL eS x1),(24,.ref (eS m9) 0),(25,pS m9),(26,.agg [pS m9,pI 2]),(27,pL Zh.enc [(⟨m8,1⟩:Zh),(⟨m9,2⟩:Zh)]),(28,pL eS x1),(29,.ref (eS m11) 0),(30,pS m11),(31,.agg [pS m11,pI 1]),(32,pL Zh.enc [(⟨m11,1⟩:Zh)]),(33,pL eI [1]),(34,.agg [pI 2,pL Zh.enc [(⟨m8,1⟩:Zh),(⟨m9,2⟩:Zh)],pL Zh.enc [(⟨m11,1⟩:Zh)],pL eI [1]]),(35,pL eS x1),(36,.ref (eS m14) 0),(37,pS m14),(38,.agg [pS m14,pI 1]),(39,pL Zh.enc [(⟨m14,1⟩:Zh)]),(40,pL eS x1),(41,.ref (eS m16) 0),(42,pS m16),(43,.agg [pS m16,pI 4]),(44,pL eS x1),(45,.ref (eS m17) 0),(46,pS m17),(47,.agg [pS m17,pI 2]),(48,pL Zh.enc [(⟨m16,4⟩:Zh),(⟨m17,2⟩:Zh)]),(49,pL eI [1,0]),(50,.agg [pI 5,pL Zh.enc [(⟨m14,1⟩:Zh)],pL Zh.enc [(⟨m16,4⟩:Zh),(⟨m17,2⟩:Zh)],pL eI [1,0]]),(51,pL Zo.enc [(⟨1,[(⟨m2,3⟩:Zh)],[(⟨m4,2⟩:Zh),(⟨m5,1⟩:Zh)],[5,1]⟩:Zo),(⟨2,[(⟨m8,1⟩:Zh),(⟨m9,2⟩:Zh)],[(⟨m11,1⟩:Zh)],[1]⟩:Zo),(⟨5,[(⟨m14,1⟩:Zh)],[(⟨m16,4⟩:Zh),(⟨m17,2⟩:Zh)],[1,0]⟩:Zo)]),(0,pL Zo.enc [(⟨1,[(⟨m2,3⟩:Zh)],[(⟨m4,2⟩:Zh),(⟨m5,1⟩:Zh)],[5,1]⟩:Zo),(⟨2,[(⟨m8,1⟩:Zh),(⟨m9,2⟩:Zh)],[(⟨m11,1⟩:Zh)],[1]⟩:Zo),(⟨5,[(⟨m14,1⟩:Zh)],[(⟨m16,4⟩:Zh),(⟨m17,2⟩:Zh)],[1,0]⟩:Zo)])] (by kernel_rfl) ?_ ?_
 ·skip
  refine cU _ (cM (p:=pL eS x1) rfl (.p rfl)) (cU _ (il (enc:=eS) rfl rfl rfl (fun _=>rfl) (.p rfl) (.p rfl) (fun _=>hm2)) (cU _ (fF (p:=pS m2) rfl (.p rfl) rfl) (cU _ (eM (cs:=[pS m2,pI 3]) rfl rfl rfl rfl rfl rfl rfl (nm rfl rfl rfl rfl cN (nm rfl rfl rfl rfl (bf cN) Ay))) ?_)))
  refine my _ (mJ (bg rfl rfl rfl rfl rfl (dI rfl eY) rfl rfl rfl rfl (fun b3=>⟨_,_,_,_,_,_,_,rfl,by (repeat (first | exact aN | apply aC)),⟨rfl,rfl⟩⟩))) ?_
  refine cU _ (cM (p:=pL eS x1) rfl (.p rfl)) (cU _ (il (enc:=eS) rfl rfl rfl (fun _=>rfl) (.p rfl) (.p rfl) (fun _=>hm4)) (cU _ (fF (p:=pS m4) rfl (.p rfl) rfl) (cU _ (eM (cs:=[pS m4,pI 2]) rfl rfl rfl rfl rfl rfl rfl (nm rfl rfl rfl rfl cN (nm rfl rfl rfl rfl (bf cN) Ay))) (cU _ (cM (p:=pL eS x1) rfl (.p rfl)) (cU _ (il (enc:=eS) rfl rfl rfl (fun _=>rfl) (.p rfl) (.p rfl) (fun _=>hm5)) (cU _ (fF (p:=pS m5) rfl (.p rfl) rfl) (cU _ (eM (cs:=[pS m5,pI 1]) rfl rfl rfl rfl rfl rfl rfl (nm rfl rfl rfl rfl cN (nm rfl rfl rfl rfl (bf cN) Ay))) ?_)))))))
  refine my _ (mJ (bg rfl rfl rfl rfl rfl (dI rfl (dI rfl eY)) rfl rfl rfl rfl (fun b6=>⟨_,_,_,_,_,_,_,rfl,by (repeat (first | exact aN | apply aC)),⟨rfl,rfl⟩⟩))) ?_
  refine my _ (mJ (bg rfl rfl rfl rfl rfl (dI rfl (dI rfl eY)) rfl rfl rfl rfl (fun b7=>⟨_,_,_,_,_,_,_,rfl,by (repeat (first | exact aN | apply aC)),⟨rfl,rfl⟩⟩))) ?_
  refine cU _ (eM (cs:=[pI 1,pL Zh.enc [(⟨m2,3⟩:Zh)],pL Zh.enc [(⟨m4,2⟩:Zh),(⟨m5,1⟩:Zh)],pL eI [5,1]]) rfl rfl rfl rfl rfl rfl rfl (nm rfl rfl rfl rfl cN (nm rfl rfl rfl rfl (bf cN) (nm rfl rfl rfl rfl (bf (bf cN)) (nm rfl rfl rfl rfl (bf (bf (bf cN))) Ay))))) (cU _ (cM (p:=pL eS x1) rfl (.p rfl)) (cU _ (il (enc:=eS) rfl rfl rfl (fun _=>rfl) (.p rfl) (.p rfl) (fun _=>hm8)) (cU _ (fF (p:=pS m8) rfl (.p rfl) rfl) (cU _ (eM (cs:=[pS m8,pI 1]) rfl rfl rfl rfl rfl rfl rfl (nm rfl rfl rfl rfl cN (nm rfl rfl rfl rfl (bf cN) Ay))) (cU _ (cM (p:=pL eS x1) rfl (.p rfl)) (cU _ (il (enc:=eS) rfl rfl rfl (fun _=>rfl) (.p rfl) (.p rfl) (fun _=>hm9)) (cU _ (fF (p:=pS m9) rfl (.p rfl) rfl) (cU _ (eM (cs:=[pS m9,pI 2]) rfl rfl rfl rfl rfl rfl rfl (nm rfl rfl rfl rfl cN (nm rfl rfl rfl rfl (bf cN) Ay))) ?_))))))))
  refine my _ (mJ (bg rfl rfl rfl rfl rfl (dI rfl (dI rfl eY)) rfl rfl rfl rfl (fun b10=>⟨_,_,_,_,_,_,_,rfl,by (repeat (first | exact aN | apply aC)),⟨rfl,rfl⟩⟩))) ?_
  refine cU _ (cM (p:=pL eS x1) rfl (.p rfl)) (cU _ (il (enc:=eS) rfl rfl rfl (fun _=>rfl) (.p rfl) (.p rfl) (fun _=>hm11)) (cU _ (fF (p:=pS m11) rfl (.p rfl) rfl) (cU _ (eM (cs:=[pS m11,pI 1]) rfl rfl rfl rfl rfl rfl rfl (nm rfl rfl rfl rfl cN (nm rfl rfl rfl rfl (bf cN) Ay))) ?_)))
  refine my _ (mJ (bg rfl rfl rfl rfl rfl (dI rfl eY) rfl rfl rfl rfl (fun b12=>⟨_,_,_,_,_,_,_,rfl,by (repeat (first | exact aN | apply aC)),⟨rfl,rfl⟩⟩))) ?_
  refine my _ (mJ (bg rfl rfl rfl rfl rfl (dI rfl eY) rfl rfl rfl rfl (fun b13=>⟨_,_,_,_,_,_,_,rfl,by (repeat (first | exact aN | apply aC)),⟨rfl,rfl⟩⟩))) ?_
  refine cU _ (eM (cs:=[pI 2,pL Zh.enc [(⟨m8,1⟩:Zh),(⟨m9,2⟩:Zh)],pL Zh.enc [(⟨m11,1⟩:Zh)],pL eI [1]]) rfl rfl rfl rfl rfl rfl rfl (nm rfl rfl rfl rfl cN (nm rfl rfl rfl rfl (bf cN) (nm rfl rfl rfl rfl (bf (bf cN)) (nm rfl rfl rfl rfl (bf (bf (bf cN))) Ay))))) (cU _ (cM (p:=pL eS x1) rfl (.p rfl)) (cU _ (il (enc:=eS) rfl rfl rfl (fun _=>rfl) (.p rfl) (.p rfl) (fun _=>hm14)) (cU _ (fF (p:=pS m14) rfl (.p rfl) rfl) (cU _ (eM (cs:=[pS m14,pI 1]) rfl rfl rfl rfl rfl rfl rfl (nm rfl rfl rfl rfl cN (nm rfl rfl rfl rfl (bf cN) Ay))) ?_))))
  refine my _ (mJ (bg rfl rfl rfl rfl rfl (dI rfl eY) rfl rfl rfl rfl (fun b15=>⟨_,_,_,_,_,_,_,rfl,by (repeat (first | exact aN | apply aC)),⟨rfl,rfl⟩⟩))) ?_
  refine cU _ (cM (p:=pL eS x1) rfl (.p rfl)) (cU _ (il (enc:=eS) rfl rfl rfl (fun _=>rfl) (.p rfl) (.p rfl) (fun _=>hm16)) (cU _ (fF (p:=pS m16) rfl (.p rfl) rfl) (cU _ (eM (cs:=[pS m16,pI 4]) rfl rfl rfl rfl rfl rfl rfl (nm rfl rfl rfl rfl cN (nm rfl rfl rfl rfl (bf cN) Ay))) (cU _ (cM (p:=pL eS x1) rfl (.p rfl)) (cU _ (il (enc:=eS) rfl rfl rfl (fun _=>rfl) (.p rfl) (.p rfl) (fun _=>hm17)) (cU _ (fF (p:=pS m17) rfl (.p rfl) rfl) (cU _ (eM (cs:=[pS m17,pI 2]) rfl rfl rfl rfl rfl rfl rfl (nm rfl rfl rfl rfl cN (nm rfl rfl rfl rfl (bf cN) Ay))) ?_)))))))
  refine my _ (mJ (bg rfl rfl rfl rfl rfl (dI rfl (dI rfl eY)) rfl rfl rfl rfl (fun b18=>⟨_,_,_,_,_,_,_,rfl,by (repeat (first | exact aN | apply aC)),⟨rfl,rfl⟩⟩))) ?_
  refine my _ (mJ (bg rfl rfl rfl rfl rfl (dI rfl (dI rfl eY)) rfl rfl rfl rfl (fun b19=>⟨_,_,_,_,_,_,_,rfl,by (repeat (first | exact aN | apply aC)),⟨rfl,rfl⟩⟩))) ?_
  refine cU _ (eM (cs:=[pI 5,pL Zh.enc [(⟨m14,1⟩:Zh)],pL Zh.enc [(⟨m16,4⟩:Zh),(⟨m17,2⟩:Zh)],pL eI [1,0]]) rfl rfl rfl rfl rfl rfl rfl (nm rfl rfl rfl rfl cN (nm rfl rfl rfl rfl (bf cN) (nm rfl rfl rfl rfl (bf (bf cN)) (nm rfl rfl rfl rfl (bf (bf (bf cN))) Ay))))) ?_
  refine my _ (mJ (bg rfl rfl rfl rfl rfl (dI rfl (dI rfl (dI rfl eY))) rfl rfl rfl rfl (fun b20=>⟨_,_,_,_,_,_,_,rfl,by (repeat (first | exact aN | apply aC)),⟨rfl,rfl⟩⟩))) ?_
  refine cU _ (be (p:=pL Zo.enc [(⟨1,[(⟨m2,3⟩:Zh)],[(⟨m4,2⟩:Zh),(⟨m5,1⟩:Zh)],[5,1]⟩:Zo),(⟨2,[(⟨m8,1⟩:Zh),(⟨m9,2⟩:Zh)],[(⟨m11,1⟩:Zh)],[1]⟩:Zo),(⟨5,[(⟨m14,1⟩:Zh)],[(⟨m16,4⟩:Zh),(⟨m17,2⟩:Zh)],[1,0]⟩:Zo)]) rfl (.p rfl)) ?_
  exact Flow.nil
 (try dsimp only [aK])
 refine dC ?_
 exact zz r h rfl
def kN  : Option Zs:=(lj).bind fun x8=>some (⟨[(⟨1,1,(⟨#[49,48]⟩:ByteArray),[],0,0,36525,(-1),(⟨100000,0,0,false,0,false,0⟩:Zm)⟩:Zb),(⟨2,1,(⟨#[50,48]⟩:ByteArray),[],0,0,36525,(-1),(⟨50000,7,10,false,0,false,0⟩:Zm)⟩:Zb),(⟨3,1,(⟨#[51,48]⟩:ByteArray),[],0,0,36525,(-1),(⟨333333,0,0,false,0,false,0⟩:Zm)⟩:Zb),(⟨4,3,(⟨#[49,48]⟩:ByteArray),[(⟨#[65,65]⟩:ByteArray),(⟨#[66,66]⟩:ByteArray)],0,0,36525,(-1),(⟨0,0,0,false,0,false,0⟩:Zm)⟩:Zb),(⟨5,4,(⟨#[49,48]⟩:ByteArray),[],0,0,36525,(-1),(⟨20000,0,0,false,0,false,0⟩:Zm)⟩:Zb),(⟨6,4,(⟨#[50,48]⟩:ByteArray),[],0,0,36525,(-1),(⟨0,0,0,false,0,false,0⟩:Zm)⟩:Zb),(⟨7,2,(⟨#[50,48]⟩:ByteArray),[],0,8,12,(-1),(⟨10000,0,0,false,0,false,0⟩:Zm)⟩:Zb),(⟨8,5,(⟨#[49,48]⟩:ByteArray),[(⟨#[66,66]⟩:ByteArray)],0,9,36525,4,(⟨150000,0,0,false,0,false,0⟩:Zm)⟩:Zb)],x8,[3,10,20]⟩:Zs)
theorem uf  {r:Zs}  (h:kN  = some r):PF 18 [] (.agg [pL Zb.enc r.Measures,pL Zo.enc r.Recipes,pL eI r.Holidays]):=by
 unfold kN at h
 refine bo ?_
 refine dZ Tryz.func18 rfl Tryz.ntmps18 Tryz.results18 rfl (dj rfl (aY (cs:=[pN,pN,pN]) rfl rfl rfl rfl (fun b1=>ar (cw (ap [(1,pI 36525)] (by kernel_rfl) (cw (aj (bO 9 [2,3,5,6,8,9] [(4,.agg [pI 1,pI 1,pS (⟨#[49,48]⟩:ByteArray),pN,pI 0,pI 0,pI 36525,pI (-1),pI 100000,pI 0,pI 0,pB false,pI 0,pB false,pI 0]),(7,.agg [pI 2,pI 1,pS (⟨#[50,48]⟩:ByteArray),pN,pI 0,pI 0,pI 36525,pI (-1),pI 50000,pI 7,pI 10,pB false,pI 0,pB false,pI 0]),(10,.agg [pI 3,pI 1,pS (⟨#[51,48]⟩:ByteArray),pN,pI 0,pI 0,pI 36525,pI (-1),pI 333333,pI 0,pI 0,pB false,pI 0,pB false,pI 0])] (by kernel_rfl) (aF rfl (bg rfl rfl rfl rfl rfl (dI rfl (dI rfl eY)) rfl rfl rfl rfl (fun b2=>bE 1 [(12,pI 36525)] (by kernel_rfl) ?_)))))))))))
 refine jG (enc:=eS) (xs:=[(⟨#[65,65]⟩:ByteArray),(⟨#[66,66]⟩:ByteArray)]) 11 rfl (by exact aN) ?_
 refine bO 8 [14,15,17,19] [(13,.agg [pI 4,pI 3,pS (⟨#[49,48]⟩:ByteArray),pL eS [(⟨#[65,65]⟩:ByteArray),(⟨#[66,66]⟩:ByteArray)],pI 0,pI 0,pI 36525,pI (-1),pI 0,pI 0,pI 0,pB false,pI 0,pB false,pI 0]),(16,.agg [pI 5,pI 4,pS (⟨#[49,48]⟩:ByteArray),pN,pI 0,pI 0,pI 36525,pI (-1),pI 20000,pI 0,pI 0,pB false,pI 0,pB false,pI 0]),(18,.agg [pI 6,pI 4,pS (⟨#[50,48]⟩:ByteArray),pN,pI 0,pI 0,pI 36525,pI (-1),pI 0,pI 0,pI 0,pB false,pI 0,pB false,pI 0]),(20,.agg [pI 7,pI 2,pS (⟨#[50,48]⟩:ByteArray),pN,pI 0,pI 8,pI 12,pI (-1),pI 10000,pI 0,pI 0,pB false,pI 0,pB false,pI 0])] (by kernel_rfl) (aF rfl (bg rfl rfl rfl rfl rfl (dI rfl eY) rfl rfl rfl rfl (fun b4=>bE 2 [(22,pI 36525),(23,.agg [pI 150000,pI 0,pI 0,pB false,pI 0,pB false,pI 0])] (by kernel_rfl) ?_)))
 refine jG (enc:=eS) (xs:=[(⟨#[66,66]⟩:ByteArray)]) 21 rfl (by exact aN) ?_
 refine bE 1 [(24,.agg [pI 8,pI 5,pS (⟨#[49,48]⟩:ByteArray),pL eS [(⟨#[66,66]⟩:ByteArray)],pI 0,pI 9,pI 36525,pI 4,pI 150000,pI 0,pI 0,pB false,pI 0,pB false,pI 0])] (by kernel_rfl) (im 4 3 rfl rfl (im 7 3 rfl rfl (im 10 3 rfl rfl (im 16 3 rfl rfl (im 18 3 rfl rfl (im 20 3 rfl rfl (aF rfl (bg rfl rfl rfl rfl rfl (dI rfl (dI rfl (dI rfl (dI rfl (dI rfl (dI rfl (dI rfl (dI rfl eY)))))))) rfl rfl rfl rfl (fun b6=>aa h fun x8 hx8 h=>bp 1 [] [] [(26,pL Zo.enc x8)] (bw 0 (so hx8) bL) (by kernel_rfl) (aF rfl (bg rfl rfl rfl rfl rfl (dI rfl (dI rfl (dI rfl eY))) rfl rfl rfl rfl (fun b9=>?_))))))))))))
 refine jG (enc:=Zb.enc) (xs:=[(⟨1,1,(⟨#[49,48]⟩:ByteArray),[],0,0,36525,(-1),(⟨100000,0,0,false,0,false,0⟩:Zm)⟩:Zb),(⟨2,1,(⟨#[50,48]⟩:ByteArray),[],0,0,36525,(-1),(⟨50000,7,10,false,0,false,0⟩:Zm)⟩:Zb),(⟨3,1,(⟨#[51,48]⟩:ByteArray),[],0,0,36525,(-1),(⟨333333,0,0,false,0,false,0⟩:Zm)⟩:Zb),(⟨4,3,(⟨#[49,48]⟩:ByteArray),[(⟨#[65,65]⟩:ByteArray),(⟨#[66,66]⟩:ByteArray)],0,0,36525,(-1),(⟨0,0,0,false,0,false,0⟩:Zm)⟩:Zb),(⟨5,4,(⟨#[49,48]⟩:ByteArray),[],0,0,36525,(-1),(⟨20000,0,0,false,0,false,0⟩:Zm)⟩:Zb),(⟨6,4,(⟨#[50,48]⟩:ByteArray),[],0,0,36525,(-1),(⟨0,0,0,false,0,false,0⟩:Zm)⟩:Zb),(⟨7,2,(⟨#[50,48]⟩:ByteArray),[],0,8,12,(-1),(⟨10000,0,0,false,0,false,0⟩:Zm)⟩:Zb),(⟨8,5,(⟨#[49,48]⟩:ByteArray),[(⟨#[66,66]⟩:ByteArray)],0,9,36525,4,(⟨150000,0,0,false,0,false,0⟩:Zm)⟩:Zb)]) 25 rfl (by exact aC aN) ?_
 refine jG (enc:=eI) (xs:=[3,10,20]) 27 rfl (by exact aC aN) ?_
 refine bE 1 [(28,.agg [pL Zb.enc [(⟨1,1,(⟨#[49,48]⟩:ByteArray),[],0,0,36525,(-1),(⟨100000,0,0,false,0,false,0⟩:Zm)⟩:Zb),(⟨2,1,(⟨#[50,48]⟩:ByteArray),[],0,0,36525,(-1),(⟨50000,7,10,false,0,false,0⟩:Zm)⟩:Zb),(⟨3,1,(⟨#[51,48]⟩:ByteArray),[],0,0,36525,(-1),(⟨333333,0,0,false,0,false,0⟩:Zm)⟩:Zb),(⟨4,3,(⟨#[49,48]⟩:ByteArray),[(⟨#[65,65]⟩:ByteArray),(⟨#[66,66]⟩:ByteArray)],0,0,36525,(-1),(⟨0,0,0,false,0,false,0⟩:Zm)⟩:Zb),(⟨5,4,(⟨#[49,48]⟩:ByteArray),[],0,0,36525,(-1),(⟨20000,0,0,false,0,false,0⟩:Zm)⟩:Zb),(⟨6,4,(⟨#[50,48]⟩:ByteArray),[],0,0,36525,(-1),(⟨0,0,0,false,0,false,0⟩:Zm)⟩:Zb),(⟨7,2,(⟨#[50,48]⟩:ByteArray),[],0,8,12,(-1),(⟨10000,0,0,false,0,false,0⟩:Zm)⟩:Zb),(⟨8,5,(⟨#[49,48]⟩:ByteArray),[(⟨#[66,66]⟩:ByteArray)],0,9,36525,4,(⟨150000,0,0,false,0,false,0⟩:Zm)⟩:Zb)],pL Zo.enc x8,pL eI [3,10,20]])] (by kernel_rfl) (aH rfl rfl (ag (vs:=[pL Zb.enc [(⟨1,1,(⟨#[49,48]⟩:ByteArray),[],0,0,36525,(-1),(⟨100000,0,0,false,0,false,0⟩:Zm)⟩:Zb),(⟨2,1,(⟨#[50,48]⟩:ByteArray),[],0,0,36525,(-1),(⟨50000,7,10,false,0,false,0⟩:Zm)⟩:Zb),(⟨3,1,(⟨#[51,48]⟩:ByteArray),[],0,0,36525,(-1),(⟨333333,0,0,false,0,false,0⟩:Zm)⟩:Zb),(⟨4,3,(⟨#[49,48]⟩:ByteArray),[(⟨#[65,65]⟩:ByteArray),(⟨#[66,66]⟩:ByteArray)],0,0,36525,(-1),(⟨0,0,0,false,0,false,0⟩:Zm)⟩:Zb),(⟨5,4,(⟨#[49,48]⟩:ByteArray),[],0,0,36525,(-1),(⟨20000,0,0,false,0,false,0⟩:Zm)⟩:Zb),(⟨6,4,(⟨#[50,48]⟩:ByteArray),[],0,0,36525,(-1),(⟨0,0,0,false,0,false,0⟩:Zm)⟩:Zb),(⟨7,2,(⟨#[50,48]⟩:ByteArray),[],0,8,12,(-1),(⟨10000,0,0,false,0,false,0⟩:Zm)⟩:Zb),(⟨8,5,(⟨#[49,48]⟩:ByteArray),[(⟨#[66,66]⟩:ByteArray)],0,9,36525,4,(⟨150000,0,0,false,0,false,0⟩:Zm)⟩:Zb)],pL Zo.enc x8,pL eI [3,10,20]]) rfl rfl rfl rfl rfl (bx (bx (bx (bx bB)))) AC (ar (dC ?_))))
 obtain rfl:=osi h
 exact aI (fM (cg rfl zm4 rfl)) bZ ⟨rfl,rfl⟩
def eE (p0:Int) (p1:Int):Option Int:=cond (p1 == 2) (cond (((Int.tmod p0 4) == 0)&&(((Int.tmod p0 100) != 0)||((Int.tmod p0 400) == 0))) (some (29:Int)) (some (28:Int))) (Option.bind (cond (p1 == 4) (some (p1 == 4)) (cond (p1 == 6) (some (p1 == 6)) (cond (p1 == 9) (some (p1 == 9)) (some (p1 == 11))))) (fun v3=>cond v3 (some (30:Int)) (some (31:Int))))
theorem db {p0:Int} {p1:Int} {r:Int}  (h:eE p0 p1=some r):PF 97 [pI p0,pI p1] (pI r):=by
 unfold eE at h
 refine bo ?_
 refine dZ Tryz.func97 rfl Tryz.ntmps97 Tryz.results97 rfl (bh [4] (by kernel_rfl) (cQ (ap [(5,pI p1)] (by kernel_rfl) (aW (jX (bU [7] [(6,pB (p1 == 2))] (by kernel_rfl) rfl h (fun hc1 h=>?_) fun hc1 h=>?_))))))
 ·refine ah ?_
  refine ah (bU (rg 8 12) [(20,pB (((Int.tmod p0 4) == 0)&&(((Int.tmod p0 100) != 0)||((Int.tmod p0 400) == 0))))] (by kernel_rfl) rfl h (fun hc2 h=>?_) fun hc2 h=>?_)
  ·refine ah ?_
   refine dq [(4,pI 29)] (by kernel_rfl) (au (aO ?_))
   exact zz r h rfl
  refine ae ?_
  refine cw (ap [(4,pI 28)] (by kernel_rfl) (dC (au (aO ?_))))
  exact zz r h rfl
 refine ah ?_
 refine ah (an [22] [(21,pB (p1 == 4))] (by kernel_rfl) (ga h fun q4 hq4 h=>?_))
 refine av (Y:=Unit×Bool) (fun (_,v3)=>[(21,pB v3)]) (fun (_,v3)=>[]) (fun (_,v3)=>q4=v3) ?_ ?_
 ·skip
  refine kU rfl hq4 (fun hc5 hq4=>?_) fun hc5 hq4=>?_
  ·refine ae ?_
   obtain rfl:=osi hq4
   exact am ((),(p1 == 4)) (nG rfl) bZ rfl
  refine ah ?_
  refine bU [23] [(21,pB (p1 == 6))] (by kernel_rfl) rfl hq4 (fun hc6 hq4=>?_) fun hc6 hq4=>?_
  ·refine ae ?_
   obtain rfl:=osi hq4
   exact am ((),(p1 == 6)) (nG rfl) bZ rfl
  refine ah ?_
  refine bU [24] [(21,pB (p1 == 9))] (by kernel_rfl) rfl hq4 (fun hc7 hq4=>?_) fun hc7 hq4=>?_
  ·refine ae ?_
   obtain rfl:=osi hq4
   exact am ((),(p1 == 9)) (nG rfl) bZ rfl
  refine an [25] [(21,pB (p1 == 11))] (by kernel_rfl) ?_
  obtain rfl:=osi hq4
  exact am ((),(p1 == 11)) (nG rfl) bZ rfl
 rintro ⟨_,v3⟩ τ hz;(try dsimp only at hz);subst q4;(try dsimp only at h);dsimp only [aK]
 refine kU rfl h (fun hc8 h=>?_) fun hc8 h=>?_
 ·refine ah ?_
  refine ap [(4,pI 30)] (by kernel_rfl) (dC (au (aO ?_)))
  exact zz r h rfl
 refine ae ?_
 refine aq (cw (ap [(4,pI 31)] (by kernel_rfl) (dC ?_)))
 exact zz r h rfl
def oF (p0:Int):Option Bool:=some ((decide (0≤p0))&&(decide (p0≤36524)))
theorem wQ {p0:Int} {r:Bool}  (h:oF p0=some r):PF 132 [pI p0] (pB r):=by
 unfold oF at h
 refine bo ?_
 refine dZ Tryz.func132 rfl Tryz.ntmps132 Tryz.results132 rfl (bh [2] (by kernel_rfl) (cw (an (rg 3 6) [(2,pB ((decide (0≤p0))&&(decide (p0≤36524))))] (by kernel_rfl) (dC ?_))))
 exact zz r h rfl
def nZ (p0:Int):Option (Zr×Int):=(oF p0).bind fun x2=>cond (!x2) (some ((⟨0,0,0⟩:Zr),(2:Int))) ((bu (S:=Int×Int×Int) (T:=(Int×Int×Int)) (fun (v4,v5,v6)=>(eE v5 v6).bind fun x12=>cond (decide (x12≤v4)) ((eE v5 v6).bind fun x14=>cond (decide (12<(IntKind.i64.wrap (v6+1)))) (some (.inl ((IntKind.i64.wrap (v4 - x14)),(IntKind.i64.wrap (v5+1)),1))) (some (.inl ((IntKind.i64.wrap (v4 - x14)),v5,(IntKind.i64.wrap (v6+1)))))) (some (.inr (v4,v5,v6)))) FUEL (p0,2000,1)).bind fun (v7,v8,v9)=>some ((⟨v8,v9,(IntKind.i64.wrap (v7+1))⟩:Zr),(0:Int)))
theorem yn {p0:Int} {r:(Zr×Int)}  (h:nZ p0=some r):PF 96 [pI p0] (.tup [.agg [pI r.1.Year,pI r.1.Month,pI r.1.Dom],pI r.2]):=by
 unfold nZ at h
 refine bo ?_
 refine dZ Tryz.func96 rfl Tryz.ntmps96 Tryz.results96 rfl (dj rfl (aY (cs:=[pI 0,pI 0,pI 0]) rfl rfl rfl rfl (fun b1=>br [3] (by kernel_rfl) (cQ (aa h fun x2 hx2 h=>aB [] [6,7] [(8,pB (!x2))] (bw 1 (wQ hx2) bL) (by kernel_rfl) (dW rfl h (fun hc3 h=>?_) fun hc3 h=>?_))))))
 ·refine ah ?_
  refine cP 1 [(9,.agg [pI 0,pI 0,pI 0])] (by kernel_rfl) (aH rfl rfl (ag (vs:=[pI 0,pI 0,pI 0]) rfl rfl rfl rfl rfl bB AC (aL [(3,pI 2)] (by kernel_rfl) (ua ?_))))
  obtain rfl:=osi h
  exact aI (bD (cg rfl dt rfl) (aD rfl)) bZ ⟨rfl,rfl⟩
 refine ae ?_
 refine cw (ap [(4,pI 2000),(5,pI 1)] (by kernel_rfl) (dV h fun q11 hq11 h=>?_))
 refine av (Y:=Unit×(Int×Int×Int)) (fun (_,(v7,v8,v9))=>[(0,pI v7),(2,pP b1 0),(4,pI v8),(5,pI v9)]) (fun (_,(v7,v8,v9))=>[PRes.b b1 158 [pI 0,pI 0,pI 0]]) (fun (_,(v7,v8,v9))=>q11=(v7,v8,v9)) ?_ ?_
 ·refine aR ?_
  refine aZ (Y:=Unit) (S:=Int×Int×Int) _ hq11 (fun _ (v4,v5,v6)=>[(0,pI v4),(2,pP b1 0),(4,pI v5),(5,pI v6)]) (fun _ (v4,v5,v6)=>[PRes.b b1 158 [pI 0,pI 0,pI 0]]) () (iP rfl) cq ?_
  rintro _ ⟨v4,v5,v6⟩ o τ hb10;(try dsimp only at hb10);dsimp only [aK]
  refine gh (aa hb10 fun x12 hx12 hb10=>aB [] [10,11,12,13] [(14,pB (decide (x12≤v4)))] (bw 3 (db hx12) bL) (by kernel_rfl) (dW rfl hb10 (fun hc13 hb10=>?_) fun hc13 hb10=>?_))
  ·refine ae ?_
   refine aW (jX (aa hb10 fun x14 hx14 hb10=>aB [] (rg 15 5) [(0,pI (IntKind.i64.wrap (v4 - x14)))] (bw 3 (db hx14) bL) (by kernel_rfl) (cw (an [20,21] [(5,pI (IntKind.i64.wrap (v6+1)))] (by kernel_rfl) (cw (bU [22] [(23,pB (decide (12<(IntKind.i64.wrap (v6+1)))))] (by kernel_rfl) rfl hb10 (fun hc15 hb10=>?_) fun hc15 hb10=>?_))))))
   ·refine an [24,25] [(4,pI (IntKind.i64.wrap (v5+1))),(5,pI 1)] (by kernel_rfl) ?_
    refine aq ?_
    exact bt hb10 () (iP rfl) cq
   refine ae ?_
   refine aq ?_
   exact bt hb10 () (iP rfl) cq
  refine bc ?_
  refine aP (aJ hb10 (fun ht=>aM rfl ?_))
  exact am ((),(v4,v5,v6)) (iP rfl) cq ht.symm
 rintro ⟨_,⟨v7,v8,v9⟩⟩ τ hz;(try dsimp only at hz);subst q11;(try dsimp only at h);dsimp only [aK]
 refine ah (aj (bO 5 [26,27,28,29] [(30,.agg [pI v8,pI v9,pI (IntKind.i64.wrap (v7+1))])] (by kernel_rfl) (aH rfl rfl (ag (vs:=[pI v8,pI v9,pI (IntKind.i64.wrap (v7+1))]) rfl rfl rfl rfl rfl bB AC (aL [(3,pI 0)] (by kernel_rfl) (dC ?_))))))
 obtain rfl:=osi h
 exact aI (bD (cg rfl dt rfl) (aD rfl)) bZ ⟨rfl,rfl⟩
def gC (p0:Zr):Option (Int×Int):=(gd (!(((((decide (p0.Year<2000))||(decide (2099<p0.Year)))||(decide (p0.Month<1)))||(decide (12<p0.Month)))||(decide (p0.Dom<1)))) (eE p0.Year p0.Month)).bind fun x2=>cond ((((((decide (p0.Year<2000))||(decide (2099<p0.Year)))||(decide (p0.Month<1)))||(decide (12<p0.Month)))||(decide (p0.Dom<1)))||(decide (x2<p0.Dom))) (some ((0:Int),(2:Int))) ((bu (S:=Int×Int) (T:=(Int)) (fun (v4,v5)=>cond (decide (v5<p0.Year)) ((eE v5 2).bind fun x10=>lb ((IntKind.i64.wrap ((IntKind.i64.wrap (v4+337))+x10))) (fun w11=>some (.inl (w11,(IntKind.i64.wrap (v5+1)))))) (some (.inr v4))) FUEL ((IntKind.i64.wrap (p0.Dom - 1)),2000)).bind fun v6=>(bu (S:=Int×Int) (T:=(Int)) (fun (v12,v13)=>cond (decide (v13<p0.Month)) ((eE p0.Year v13).bind fun x18=>some (.inl ((IntKind.i64.wrap (v12+x18)),(IntKind.i64.wrap (v13+1))))) (some (.inr v12))) FUEL (v6,1)).bind fun v14=>some (v14,(0:Int)))
theorem sq {p0:Zr} {r:(Int×Int)}  (h:gC p0=some r):PF 98 [.agg [pI p0.Year,pI p0.Month,pI p0.Dom]] (.tup [pI r.1,pI r.2]):=by
 unfold gC at h
 refine bo ?_
 refine dZ Tryz.func98 rfl Tryz.ntmps98 Tryz.results98 rfl (dj rfl (bC (cs:=[pI p0.Year,pI p0.Month,pI p0.Dom]) rfl rfl (fun b1=>br [2,3] (by kernel_rfl) (cQ (bN (ρd:=[]) [(0,0),(1,0),(2,0),(3,0),(4,0),(5,0),(6,0),(7,0),(8,0),(9,0),(10,0),(11,0),(12,0),(13,0),(14,0),(15,0),(16,0),(17,0),(18,0),(19,0),(20,0),(21,0),(22,0),(23,0),(24,0),(25,0),(26,0),(27,0),(28,0),(29,0),(30,1),(31,0),(32,0)] _ (List.Perm.refl _) (by kernel_rfl) rfl (aa h fun x2 hx2 h=>cr 33 [0,0,0,0,0,0,0,0] (rg 7 32) [(39,pB ((((((decide (p0.Year<2000))||(decide (2099<p0.Year)))||(decide (p0.Month<1)))||(decide (12<p0.Month)))||(decide (p0.Dom<1)))||(decide (x2<p0.Dom))))] (eU 30 (fun hc=>db (cY hx2 hc)) bL) (by kernel_rfl) (cC (dW rfl h (fun hc3 h=>?_) fun hc3 h=>?_))))))))
 ·refine ah ?_
  refine dq [(2,pI 0),(3,pI 2)] (by kernel_rfl) ?_
  obtain rfl:=osi h
  exact aI (bD (aD rfl) (aD rfl)) bZ ⟨rfl,rfl⟩
 refine ae ?_
 refine cw (aV [0] [40,41,42] [(4,pI (IntKind.i64.wrap (p0.Dom - 1)))] (by kernel_rfl) (cQ (ap [(5,pI 2000)] (by kernel_rfl) (ga h fun q8 hq8 h=>?_))))
 refine av (Y:=Unit×Int) (fun (_,v6)=>[(1,pP b1 0),(4,pI v6)]) (fun (_,v6)=>[PRes.b b1 158 [pI p0.Year,pI p0.Month,pI p0.Dom]]) (fun (_,v6)=>q8=v6) ?_ ?_
 ·refine aR ?_
  refine aZ (Y:=Unit) (S:=Int×Int) _ hq8 (fun _ (v4,v5)=>[(1,pP b1 0),(4,pI v4),(5,pI v5)]) (fun _ (v4,v5)=>[PRes.b b1 158 [pI p0.Year,pI p0.Month,pI p0.Dom]]) () (kH rfl) cq ?_
  rintro _ ⟨v4,v5⟩ o τ hb7;(try dsimp only at hb7);dsimp only [aK]
  refine gh (aV [0] [43,44,45] [(46,pB (decide (v5<p0.Year)))] (by kernel_rfl) (dW rfl hb7 (fun hc9 hb7=>?_) fun hc9 hb7=>?_))
  ·refine ae ?_
   refine cw (aR (aa hb7 fun x10 hx10 hb7=>?_))
   refine dr hb7 ?_;clear hb7;intro w11 hw11 hb7
   refine aj (bp 5 [] [49,50,51,52] [(53,pI (IntKind.i64.wrap ((IntKind.i64.wrap (v4+337))+x10)))] (bw 3 (db hx10) bL) (by kernel_rfl) (bM rfl rfl rfl (be rfl (.p (congrArg (fun z=>PV.v (Value.int .i64 z)) hw11))) (ar (aq (aW (an [47,48] [(5,pI (IntKind.i64.wrap (v5+1)))] (by kernel_rfl) ?_))))))
   exact bt hb7 () (kH rfl) cq
  refine bc ?_
  refine aP (aJ hb7 (fun ht=>aM rfl ?_))
  exact am ((),v4) (eN rfl) cq ht.symm
 rintro ⟨_,v6⟩ τ hz;(try dsimp only at hz);subst q8;(try dsimp only at h);dsimp only [aK]
 refine gh (ap [(6,pI 1)] (by kernel_rfl) (ga h fun q16 hq16 h=>?_))
 refine av (Y:=Unit×Int) (fun (_,v14)=>[(4,pI v14)]) (fun (_,v14)=>[]) (fun (_,v14)=>q16=v14) ?_ ?_
 ·refine aR ?_
  refine aZ (Y:=Unit) (S:=Int×Int) _ hq16 (fun _ (v12,v13)=>[(1,pP b1 0),(4,pI v12),(6,pI v13)]) (fun _ (v12,v13)=>[PRes.b b1 158 [pI p0.Year,pI p0.Month,pI p0.Dom]]) () (kH rfl) cq ?_
  rintro _ ⟨v12,v13⟩ o τ hb15;(try dsimp only at hb15);dsimp only [aK]
  refine gh (aV [0] [54,55,56] [(57,pB (decide (v13<p0.Month)))] (by kernel_rfl) (dW rfl hb15 (fun hc17 hb15=>?_) fun hc17 hb15=>?_))
  ·refine ae ?_
   refine cw (aR (aa hb15 fun x18 hx18 hb15=>aB [0] (rg 60 6) [(4,pI (IntKind.i64.wrap (v12+x18)))] (bw 4 (db hx18) bL) (by kernel_rfl) (aq (aW (an [58,59] [(6,pI (IntKind.i64.wrap (v13+1)))] (by kernel_rfl) ?_)))))
   exact bt hb15 () (kH rfl) cq
  refine bc ?_
  refine aP (aJ hb15 (fun ht=>aM rfl ?_))
  exact am ((),v12) (nG rfl) bZ ht.symm
 rintro ⟨_,v14⟩ τ hz;(try dsimp only at hz);subst q16;(try dsimp only at h);dsimp only [aK]
 refine ah (an [66] [(2,pI v14),(3,pI 0)] (by kernel_rfl) (dC ?_))
 obtain rfl:=osi h
 exact aI (bD (aD rfl) (aD rfl)) bZ ⟨rfl,rfl⟩
def gS (p0:Int) (p1:Int):Option (Int×Int):=(nZ p0).bind fun x1=>cond (((x1.2 != 0)||(decide (p1<(-1200))))||(decide (1200<p1))) (some ((0:Int),(2:Int))) (lb ((IntKind.i64.wrap ((IntKind.i64.wrap ((IntKind.i64.wrap ((IntKind.i64.wrap (12*x1.1.Year))+x1.1.Month)) - 1))+p1))) (fun w4=>(eE (IntKind.i64.wrap (Int.tdiv w4 12)) (IntKind.i64.wrap ((Int.tmod w4 12)+1))).bind fun x5=>(gC (⟨(IntKind.i64.wrap (Int.tdiv w4 12)),(IntKind.i64.wrap ((Int.tmod w4 12)+1)),(ex x1.1.Dom x5)⟩:Zr)).bind fun x6=>cond (x6.2 != 0) (some ((0:Int),(3:Int))) (some (x6.1,(0:Int)))))
theorem pw {p0:Int} {p1:Int} {r:(Int×Int)}  (h:gS p0 p1=some r):PF 54 [pI p0,pI p1] (.tup [pI r.1,pI r.2]):=by
 unfold gS at h
 refine bo ?_
 refine dZ Tryz.func54 rfl Tryz.ntmps54 Tryz.results54 rfl (bh [4,5] (by kernel_rfl) (dV h fun x1 hx1 h=>aj (bp 5 [] [11,12,10] [(13,.agg [pI x1.1.Year,pI x1.1.Month,pI x1.1.Dom]),(14,pI x1.2)] (bw 1 (yn hx1) bL) (by kernel_rfl) (aF rfl (aY (cs:=[pI 0,pI 0,pI 0]) rfl rfl rfl rfl (fun b2=>aH rfl rfl (ag (vs:=[pI x1.1.Year,pI x1.1.Month,pI x1.1.Dom]) rfl rfl rfl rfl rfl bB AC (aL [(7,pI x1.2)] (by kernel_rfl) (cQ (bU (rg 15 9) [(24,pB (((x1.2 != 0)||(decide (p1<(-1200))))||(decide (1200<p1))))] (by kernel_rfl) rfl h (fun hc3 h=>?_) fun hc3 h=>?_))))))))))
 ·refine ah ?_
  refine dq [(4,pI 0),(5,pI 2)] (by kernel_rfl) ?_
  obtain rfl:=osi h
  exact aI (bD (aD rfl) (aD rfl)) bZ ⟨rfl,rfl⟩
 refine ae ?_
 refine cw ?_
 refine dr h ?_;clear h;intro w4 hw4 h
 refine aj (cI 9 [0,0] (rg 25 8) [(33,pI (IntKind.i64.wrap ((IntKind.i64.wrap ((IntKind.i64.wrap ((IntKind.i64.wrap (12*x1.1.Year))+x1.1.Month)) - 1))+p1)))] (by kernel_rfl) (bM rfl rfl rfl (be rfl (.p (congrArg (fun z=>PV.v (Value.int .i64 z)) hw4))) (ar (cw (aj (bO 6 [34,36,37] [(35,pI (IntKind.i64.wrap (Int.tdiv w4 12))),(38,pI (IntKind.i64.wrap ((Int.tmod w4 12)+1))),(39,pP b2 0)] (by kernel_rfl) (aH rfl rfl (ag (vs:=[pI (IntKind.i64.wrap (Int.tdiv w4 12))]) rfl rfl rfl rfl rfl bB cN (bE 1 [(40,pP b2 1)] (by kernel_rfl) (aH rfl rfl (ag (vs:=[pI (IntKind.i64.wrap ((Int.tmod w4 12)+1))]) rfl rfl rfl rfl rfl bB (bf cN) (ar (dV h fun x5 hx5 h=>?_)))))))))))))
 refine av (Y:=Unit) (fun _=>[(6,pP b2 0)]) (fun _=>[PRes.b b2 158 [pI (IntKind.i64.wrap (Int.tdiv w4 12)),pI (IntKind.i64.wrap ((Int.tmod w4 12)+1)),pI (ex x1.1.Dom x5)]]) (fun _=>True) ?_ ?_
 ·refine hU (ρd:=[PRes.b b2 _ _]) _ (List.Perm.refl _) ?_
  refine az 0 (by kernel_rfl) rfl rfl rfl rfl (ak rfl rfl rfl rfl rfl (.p rfl)) (az 2 (by kernel_rfl) rfl rfl rfl rfl (ak rfl rfl rfl rfl rfl (.p rfl)) (az 4 (by kernel_rfl) rfl rfl rfl rfl (ak rfl rfl rfl rfl rfl (.p rfl)) ?_))
  refine jm 1 3 5 (by kernel_rfl) ?_ ?_ ?_
  ·skip
   refine af rfl rfl rfl rfl (bX (aw (p:=pI x1.1.Dom) rfl (.p rfl) dt rfl) ?_)
   refine bA 3 5 (by kernel_rfl) ?_ ?_
   ·skip
    refine af rfl rfl rfl rfl (bX (aw (p:=pI (IntKind.i64.wrap (Int.tdiv w4 12))) rfl (.p rfl) dt rfl) (ai 5 (by kernel_rfl) (af rfl rfl rfl rfl (bX (aw (p:=pI (IntKind.i64.wrap ((Int.tmod w4 12)+1))) rfl (.p rfl) dt rfl) (ai 6 (by kernel_rfl) (dg rfl rfl rfl rfl rfl rfl (db hx5) (az 7 (by kernel_rfl) rfl rfl rfl rfl (ik rfl (.p rfl) (.p rfl)) (az 8 (by kernel_rfl) rfl rfl rfl rfl (ak rfl rfl rfl rfl rfl (.p rfl)) (ai 9 (by kernel_rfl) (aQ rfl rfl rfl (ag (vs:=[pI (ex x1.1.Dom x5)]) rfl rfl rfl rfl rfl bB (bf (bf cN)) (aT (by kernel_rfl) ?_))))))))))))
    exact am () (nG rfl) cq trivial
   skip
   refine af rfl rfl rfl rfl (bX (aw (p:=pI (IntKind.i64.wrap ((Int.tmod w4 12)+1))) rfl (.p rfl) dt rfl) (ai 3 (by kernel_rfl) (af rfl rfl rfl rfl (bX (aw (p:=pI (IntKind.i64.wrap (Int.tdiv w4 12))) rfl (.p rfl) dt rfl) (ai 6 (by kernel_rfl) (dg rfl rfl rfl rfl rfl rfl (db hx5) (az 7 (by kernel_rfl) rfl rfl rfl rfl (ik rfl (.p rfl) (.p rfl)) (az 8 (by kernel_rfl) rfl rfl rfl rfl (ak rfl rfl rfl rfl rfl (.p rfl)) (ai 9 (by kernel_rfl) (aQ rfl rfl rfl (ag (vs:=[pI (ex x1.1.Dom x5)]) rfl rfl rfl rfl rfl bB (bf (bf cN)) (aT (by kernel_rfl) ?_))))))))))))
   exact am () (nG rfl) cq trivial
  ·skip
   refine af rfl rfl rfl rfl (bX (aw (p:=pI (IntKind.i64.wrap (Int.tdiv w4 12))) rfl (.p rfl) dt rfl) ?_)
   refine bA 1 5 (by kernel_rfl) ?_ ?_
   ·skip
    refine af rfl rfl rfl rfl (bX (aw (p:=pI x1.1.Dom) rfl (.p rfl) dt rfl) (ai 5 (by kernel_rfl) (af rfl rfl rfl rfl (bX (aw (p:=pI (IntKind.i64.wrap ((Int.tmod w4 12)+1))) rfl (.p rfl) dt rfl) (ai 6 (by kernel_rfl) (dg rfl rfl rfl rfl rfl rfl (db hx5) (az 7 (by kernel_rfl) rfl rfl rfl rfl (ik rfl (.p rfl) (.p rfl)) (az 8 (by kernel_rfl) rfl rfl rfl rfl (ak rfl rfl rfl rfl rfl (.p rfl)) (ai 9 (by kernel_rfl) (aQ rfl rfl rfl (ag (vs:=[pI (ex x1.1.Dom x5)]) rfl rfl rfl rfl rfl bB (bf (bf cN)) (aT (by kernel_rfl) ?_))))))))))))
    exact am () (nG rfl) cq trivial
   skip
   refine af rfl rfl rfl rfl (bX (aw (p:=pI (IntKind.i64.wrap ((Int.tmod w4 12)+1))) rfl (.p rfl) dt rfl) ?_)
   refine bA 1 6 (by kernel_rfl) ?_ ?_
   ·skip
    refine af rfl rfl rfl rfl (bX (aw (p:=pI x1.1.Dom) rfl (.p rfl) dt rfl) (ai 6 (by kernel_rfl) (dg rfl rfl rfl rfl rfl rfl (db hx5) (az 7 (by kernel_rfl) rfl rfl rfl rfl (ik rfl (.p rfl) (.p rfl)) (az 8 (by kernel_rfl) rfl rfl rfl rfl (ak rfl rfl rfl rfl rfl (.p rfl)) (ai 9 (by kernel_rfl) (aQ rfl rfl rfl (ag (vs:=[pI (ex x1.1.Dom x5)]) rfl rfl rfl rfl rfl bB (bf (bf cN)) (aT (by kernel_rfl) ?_)))))))))
    exact am () (nG rfl) cq trivial
   skip
   refine dg rfl rfl rfl rfl rfl rfl (db hx5) (ai 1 (by kernel_rfl) (af rfl rfl rfl rfl (bX (aw (p:=pI x1.1.Dom) rfl (.p rfl) dt rfl) (az 7 (by kernel_rfl) rfl rfl rfl rfl (ik rfl (.p rfl) (.p rfl)) (az 8 (by kernel_rfl) rfl rfl rfl rfl (ak rfl rfl rfl rfl rfl (.p rfl)) (ai 9 (by kernel_rfl) (aQ rfl rfl rfl (ag (vs:=[pI (ex x1.1.Dom x5)]) rfl rfl rfl rfl rfl bB (bf (bf cN)) (aT (by kernel_rfl) ?_)))))))))
   exact am () (nG rfl) cq trivial
  skip
  refine af rfl rfl rfl rfl (bX (aw (p:=pI (IntKind.i64.wrap ((Int.tmod w4 12)+1))) rfl (.p rfl) dt rfl) ?_)
  refine bA 1 3 (by kernel_rfl) ?_ ?_
  ·skip
   refine af rfl rfl rfl rfl (bX (aw (p:=pI x1.1.Dom) rfl (.p rfl) dt rfl) (ai 3 (by kernel_rfl) (af rfl rfl rfl rfl (bX (aw (p:=pI (IntKind.i64.wrap (Int.tdiv w4 12))) rfl (.p rfl) dt rfl) (ai 6 (by kernel_rfl) (dg rfl rfl rfl rfl rfl rfl (db hx5) (az 7 (by kernel_rfl) rfl rfl rfl rfl (ik rfl (.p rfl) (.p rfl)) (az 8 (by kernel_rfl) rfl rfl rfl rfl (ak rfl rfl rfl rfl rfl (.p rfl)) (ai 9 (by kernel_rfl) (aQ rfl rfl rfl (ag (vs:=[pI (ex x1.1.Dom x5)]) rfl rfl rfl rfl rfl bB (bf (bf cN)) (aT (by kernel_rfl) ?_))))))))))))
   exact am () (nG rfl) cq trivial
  skip
  refine af rfl rfl rfl rfl (bX (aw (p:=pI (IntKind.i64.wrap (Int.tdiv w4 12))) rfl (.p rfl) dt rfl) ?_)
  refine bA 1 6 (by kernel_rfl) ?_ ?_
  ·skip
   refine af rfl rfl rfl rfl (bX (aw (p:=pI x1.1.Dom) rfl (.p rfl) dt rfl) (ai 6 (by kernel_rfl) (dg rfl rfl rfl rfl rfl rfl (db hx5) (az 7 (by kernel_rfl) rfl rfl rfl rfl (ik rfl (.p rfl) (.p rfl)) (az 8 (by kernel_rfl) rfl rfl rfl rfl (ak rfl rfl rfl rfl rfl (.p rfl)) (ai 9 (by kernel_rfl) (aQ rfl rfl rfl (ag (vs:=[pI (ex x1.1.Dom x5)]) rfl rfl rfl rfl rfl bB (bf (bf cN)) (aT (by kernel_rfl) ?_)))))))))
   exact am () (nG rfl) cq trivial
  skip
  refine dg rfl rfl rfl rfl rfl rfl (db hx5) (ai 1 (by kernel_rfl) (af rfl rfl rfl rfl (bX (aw (p:=pI x1.1.Dom) rfl (.p rfl) dt rfl) (az 7 (by kernel_rfl) rfl rfl rfl rfl (ik rfl (.p rfl) (.p rfl)) (az 8 (by kernel_rfl) rfl rfl rfl rfl (ak rfl rfl rfl rfl rfl (.p rfl)) (ai 9 (by kernel_rfl) (aQ rfl rfl rfl (ag (vs:=[pI (ex x1.1.Dom x5)]) rfl rfl rfl rfl rfl bB (bf (bf cN)) (aT (by kernel_rfl) ?_)))))))))
  exact am () (nG rfl) cq trivial
 rintro _ τ _;dsimp only [aK]
 refine ah (aa h fun x6 hx6 h=>aB [0] [51,52,50,53,54] [(9,pI x6.1),(7,pI x6.2)] (bw 1 (sq hx6) bL) (by kernel_rfl) (cQ (bU [55] [(56,pB (x6.2 != 0))] (by kernel_rfl) rfl h (fun hc7 h=>?_) fun hc7 h=>?_)))
 ·refine ah ?_
  refine dq [(4,pI 0),(5,pI 3)] (by kernel_rfl) ?_
  obtain rfl:=osi h
  exact aI (bD (aD rfl) (aD rfl)) bZ ⟨rfl,rfl⟩
 refine ae ?_
 refine cw (an [57] [(4,pI x6.1),(5,pI 0)] (by kernel_rfl) (dC ?_))
 obtain rfl:=osi h
 exact aI (bD (aD rfl) (aD rfl)) bZ ⟨rfl,rfl⟩
def gD (p0:Zk):Option (Zj×Bool):=(ki p0).bind fun x3=>cond (x3 != 0) (some ((⟨ByteArray.empty,ByteArray.empty,false,0,0,0,0,0⟩:Zj),false)) ((bu (S:=(List Za)×Int) (T:=((List Za))) (fun (l6,v9)=>cond (decide (v9<(p0.Facts.length:Int))) ((bu (S:=Int) (T:=(Int)) (fun v18=>(gd (decide (v18<((l6.length:Nat):Int))) (idx l6 v18)).bind fun m23=>(gd (decide (v18<((l6.length:Nat):Int))) (idx p0.Facts v9)).bind fun m24=>cond ((decide (v18<((l6.length:Nat):Int)))&&(decide (m23.Day≤m24.Day))) (some (.inl (IntKind.i64.wrap (v18+1)))) (some (.inr v18))) FUEL 0).bind fun v20=>(sub l6 0 v20).bind fun l26=>(idx p0.Facts v9).bind fun m27=>(sub l6 v20 (l6.length:Int)).bind fun l28=>(app 64 ([]:List Za) l26).bind fun l31=>(app 64 l31 [m27]).bind fun l37=>(app 64 l37 l28).bind fun l41=>some (.inl (l41,(IntKind.i64.wrap (v9+1))))) (some (.inr l6))) FUEL (([]:List Za),0)).bind fun l13=>lb ((IntKind.i64.wrap (((l13.length:Nat):Int) - 1))) (fun w45=>(bu (S:=Int×Int) (T:=(Int)) (fun (v46,v47)=>cond (decide (0≤v47)) (((idx l13 v47).bind fun m56=>cond (m56.Kind == 1) (some v47) (some v46)).bind fun v54=>some (.inl (v54,(IntKind.i64.wrap (v47 - 1))))) (some (.inr v46))) FUEL ((-1),w45)).bind fun v49=>cond (decide (v49<0)) (some ((⟨ByteArray.empty,ByteArray.empty,false,0,0,0,0,0⟩:Zj),false)) ((idx l13 v49).bind fun m59=>(gS m59.Day 36).bind fun x62=>(bu (S:=Int×ByteArray×Bool×Int) (T:=(ByteArray×Bool×Int)) (fun (v63,v64,v65,v66)=>cond (decide (v63<((l13.length:Nat):Int))) (((gd (x62.2 == 0) (idx l13 v63)).bind fun m78=>cond ((x62.2 == 0)&&(decide (x62.1<m78.Day))) (some (v64,v65,v66)) ((idx l13 v63).bind fun m80=>cond (m80.Kind == 2) (some (v64,true,v66)) (cond (m80.Kind == 3) ((idx l13 v63).bind fun m83=>some (v64,v65,m83.Amount)) (cond (m80.Kind == 4) ((idx l13 v63).bind fun m85=>some (m85.Country,v65,v66)) (some (v64,v65,v66)))))).bind fun (v74,v75,v76)=>some (.inl ((IntKind.i64.wrap (v63+1)),v74,v75,v76))) (some (.inr (v64,v65,v66)))) FUEL (0,m59.Country,false,m59.Amount)).bind fun (v67,v68,v69)=>(bu (S:=Int×Int) (T:=(Int)) (fun (v86,v87)=>cond (decide (v86<(p0.Facts.length:Int))) (((idx p0.Facts v86).bind fun m94=>cond (m94.Kind == 5) ((idx p0.Facts v86).bind fun m96=>some (ex p0.Units m96.Amount)) (some v87)).bind fun v92=>some (.inl ((IntKind.i64.wrap (v86+1)),v92))) (some (.inr v87))) FUEL (0,0)).bind fun v88=>some ((⟨p0.Code,v67,v68,m59.Company,m59.Day,p0.Units,v69,v88⟩:Zj),true))))
theorem o7 {p0:Zk} {r:(Zj×Bool)}  (h:gD p0=some r):PF 20 [.agg (bj p0)] (.tup [.agg (ck r.1),pB r.2]):=by
 unfold gD at h
 refine bo ?_
 refine dZ Tryz.func20 rfl Tryz.ntmps20 Tryz.results20 rfl (dj rfl (bC (cs:=(bj p0)) rfl rfl (fun b1=>aF rfl (aY (cs:=[pS ByteArray.empty,pS ByteArray.empty,pB false,pI 0,pI 0,pI 0,pI 0,pI 0]) rfl rfl rfl rfl (fun b2=>br [3] (by kernel_rfl) (cQ (aa h fun x3 hx3 h=>aB [1] [15,16] [(17,pB (x3 != 0))] (bw 1 (oX hx3) bL) (by kernel_rfl) (dW rfl h (fun hc4 h=>?_) fun hc4 h=>?_))))))))
 ·refine ah ?_
  refine cP 1 [(18,.agg [pS ByteArray.empty,pS ByteArray.empty,pB false,pI 0,pI 0,pI 0,pI 0,pI 0])] (by kernel_rfl) (aH rfl rfl (ag (vs:=[pS ByteArray.empty,pS ByteArray.empty,pB false,pI 0,pI 0,pI 0,pI 0,pI 0]) rfl rfl rfl rfl rfl bB AD (aL [(3,pB false)] (by kernel_rfl) (ua ?_))))
  obtain rfl:=osi h
  exact aI (bD (cg rfl dt rfl) (aD rfl)) bZ ⟨rfl,rfl⟩
 refine ae ?_
 refine cw (ap [(4,pN)] (by kernel_rfl) (cQ (ap [(5,pI 0)] (by kernel_rfl) (aW (fj 93 7 (aa h fun q15 hq15 h=>?_))))))
 refine av (Y:=(Option Addr×Nat)×((List Za))) (fun ((a11,c12),l13)=>[(1,pP b1 0),(2,pP b2 0),(4,pO a11 l13.length c12)]) (fun ((a11,c12),l13)=>[PRes.b b1 43 (bj p0),PRes.b b2 32 [pS ByteArray.empty,pS ByteArray.empty,pB false,pI 0,pI 0,pI 0,pI 0,pI 0],PRes.row a11 l13.length c12 93 7 (List.map Za.enc l13)]) (fun ((a11,c12),l13)=>q15=l13) ?_ ?_
 ·refine aR ?_
  refine aZ (Y:=Option Addr×Nat) (S:=(List Za)×Int) _ hq15 (fun (a7,c8) (l6,v9)=>[(1,pP b1 0),(2,pP b2 0),(4,pO a7 l6.length c8),(5,pI v9)]) (fun (a7,c8) (l6,v9)=>[PRes.b b1 43 (bj p0),PRes.b b2 32 [pS ByteArray.empty,pS ByteArray.empty,pB false,pI 0,pI 0,pI 0,pI 0,pI 0],PRes.row a7 l6.length c8 93 7 (List.map Za.enc l6)]) (none,0) (iP rfl) (bq (aC (aC aN)) (bq (aC aN) cq)) ?_
  rintro ⟨a7,c8⟩ ⟨l6,v9⟩ o τ hb14;(try dsimp only at hb14);dsimp only [aK]
  refine gh (aV [0] [19,20,21,22] [(23,pB (decide (v9<(p0.Facts.length:Int))))] (by kernel_rfl) (dW rfl hb14 (fun hc17 hb14=>?_) fun hc17 hb14=>?_))
  ·refine ae ?_
   refine cw (jX (ap [(6,pI 0)] (by kernel_rfl) (dV hb14 fun q22 hq22 hb14=>?_)))
   refine av (Y:=Unit×Int) (fun (_,v20)=>[(1,pP b1 0),(2,pP b2 0),(4,pO a7 l6.length c8),(5,pI v9),(6,pI v20)]) (fun (_,v20)=>[PRes.b b1 43 (bj p0),PRes.b b2 32 [pS ByteArray.empty,pS ByteArray.empty,pB false,pI 0,pI 0,pI 0,pI 0,pI 0],PRes.row a7 l6.length c8 93 7 (List.map Za.enc l6)]) (fun (_,v20)=>q22=v20) ?_ ?_
   ·refine aR ?_
    refine aZ (Y:=Unit) (S:=Int) _ hq22 (fun _ v18=>[(1,pP b1 0),(2,pP b2 0),(4,pO a7 l6.length c8),(5,pI v9),(6,pI v18)]) (fun _ v18=>[PRes.b b1 43 (bj p0),PRes.b b2 32 [pS ByteArray.empty,pS ByteArray.empty,pB false,pI 0,pI 0,pI 0,pI 0,pI 0],PRes.row a7 l6.length c8 93 7 (List.map Za.enc l6)]) () (mv rfl) kY ?_
    rintro _ v18 o τ hb21;(try dsimp only at hb21);dsimp only [aK]
    refine gh (bN (ρd:=[]) [(0,0),(1,0),(2,0),(3,0),(4,0),(5,0),(6,0),(7,0),(8,0),(9,0),(10,0),(11,0),(12,0),(13,0),(14,0),(15,0),(16,0),(17,0)] _ (List.Perm.refl _) (by kernel_rfl) rfl (aa hb21 fun m23 hm23 hb21=>t8 7 [26,27,28,29] [(30,pB (decide (v18<((l6.length:Nat):Int)))),(31,pgv (decide (v18<((l6.length:Nat):Int))) (pO a7 l6.length c8)),(32,pgv (decide (v18<((l6.length:Nat):Int))) (pI v18))] (by kernel_rfl) (mu (dX rfl rfl rfl) rfl rfl (cm (enc:=Za.enc) (xs:=l6) rfl rfl rfl (.g rfl) kb (.g rfl) (cY hm23)) (mu (dX rfl rfl rfl) rfl rfl (ak rfl rfl rfl rfl rfl (.g rfl)) (mu (dX rfl rfl rfl) rfl rfl (cn (sz:=7) (p:=pI m23.Day) (enc:=Za.enc) (xs:=l6) (a:=a7) v18 2 m23 rfl (.g rfl) rfl kb (cY hm23) rfl) (aa hb21 fun m24 hm24 hb21=>cr 6 [0] (rg 36 5) [(41,pgv (decide (v18<((l6.length:Nat):Int))) (pI m24.Day))] (jW 3 Za.enc (cY hm24) bL) (by kernel_rfl) (mu (dX rfl rfl rfl) rfl rfl (wv rfl (.g rfl) (.g rfl) rfl) (rV rfl rfl rfl (po rfl (.p rfl) (.p rfl) (.g rfl)) (cC (dW rfl hb21 (fun hc25 hb21=>?_) fun hc25 hb21=>?_))))))))))
    ·refine ae ?_
     refine aW (aR (an [44,45] [(6,pI (IntKind.i64.wrap (v18+1)))] (by kernel_rfl) (aq ?_)))
     exact bt hb21 () (mv rfl) kY
    refine bc ?_
    refine aP (aJ hb21 (fun ht=>aM rfl ?_))
    exact am ((),v18) (mv rfl) kY ht.symm
   rintro ⟨_,v20⟩ τ hz;(try dsimp only at hz);subst q22;(try dsimp only at hb14);dsimp only [aK]
   refine ij (enc:=Za.enc) (xs:=l6) 4 rfl (by exact aC (aC aN)) ?_
   refine bN (ρd:=[]) [(1,0),(2,0),(3,0),(5,0),(6,0),(7,0),(8,0),(9,0),(10,3),(12,0),(13,0),(14,0),(0,1),(4,1),(10,2),(11,1),(15,1),(16,0)] _ (List.Perm.refl _) (by kernel_rfl) rfl (aa hb14 fun l26 hl26 hb14=>aa hb14 fun m27 hm27 hb14=>cr 8 [1] [47,48,51,52,53,54] [(49,pL Za.enc l26),(55,.agg (aU m27))] (fosl 2 Za.enc 7 (fun _=>rfl) hl26 (fC 6 Za.enc hm27 bL)) (by kernel_rfl) (xX (oD rfl rfl rfl rfl rfl (dI rfl eY) rfl rfl rfl) (aa hb14 fun l28 hl28 hb14=>cr 3 [] [58,59] [(60,pL Za.enc l28)] (fosl 2 Za.enc 7 (fun _=>rfl) hl28 bL) (by kernel_rfl) (mI rfl rfl rfl (bg rfl rfl rfl rfl rfl eY rfl rfl rfl rfl (fun b29=>aa hb14 fun l31 hl31 hb14=>?_))))))
   refine mI rfl rfl rfl (aS (enc:=Za.enc) rfl rfl rfl rfl rfl (fun _=>rfl) rfl rfl rfl (by exact aN) hl31 (fun a32 c33=>?_))
   refine nU (oD rfl rfl rfl rfl rfl (dI rfl eY) rfl rfl rfl) (fun _=>rfl) rfl (fun b35=>aa hb14 fun l37 hl37 hb14=>?_)
   refine mI rfl rfl rfl (xW (enc:=Za.enc) rfl rfl rfl rfl rfl (fun _=>rfl) rfl rfl rfl rfl dt rfl (by exact aC aN) hl37 (fun a38 c39=>?_))
   refine aa hb14 fun l41 hl41 hb14=>?_
   refine mI rfl rfl rfl (aS (enc:=Za.enc) rfl rfl rfl rfl rfl (fun _=>rfl) rfl rfl rfl (by exact aN) hl41 (fun a42 c43=>?_))
   refine jJ 1 [(4,pO a42 l41.length c43)] (by kernel_rfl) (cC (aq (aW (an [24,25] [(5,pI (IntKind.i64.wrap (v9+1)))] (by kernel_rfl) ?_))))
   exact bt hb14 (a42,c43) (iP rfl) (bq (aC (aC (aC aN))) (bq (aC (aC (aC aN))) cq))
  refine bc ?_
  refine aP (aJ hb14 (fun ht=>aM rfl ?_))
  exact am ((a7,c8),l6) (kH rfl) kY ht.symm
 rintro ⟨⟨a11,c12⟩,l13⟩ τ hz;(try dsimp only at hz);subst q15;(try dsimp only at h);dsimp only [aK]
 refine ah (ap [(7,pI (-1))] (by kernel_rfl) (cQ ?_))
 refine dr h ?_;clear h;intro w45 hw45 h
 refine aj (bO 3 [62,63] [(64,pI (IntKind.i64.wrap (((l13.length:Nat):Int) - 1)))] (by kernel_rfl) (bM rfl rfl rfl (be rfl (.p (congrArg (fun z=>PV.v (Value.int .i64 z)) hw45))) (ar (ga h fun q51 hq51 h=>?_))))
 refine av (Y:=Unit×Int) (fun (_,v49)=>[(1,pP b1 0),(2,pP b2 0),(4,pO a11 l13.length c12),(7,pI v49)]) (fun (_,v49)=>[PRes.b b1 43 (bj p0),PRes.b b2 32 [pS ByteArray.empty,pS ByteArray.empty,pB false,pI 0,pI 0,pI 0,pI 0,pI 0],PRes.row a11 l13.length c12 93 7 (List.map Za.enc l13)]) (fun (_,v49)=>q51=v49) ?_ ?_
 ·refine aR ?_
  refine aZ (Y:=Unit) (S:=Int×Int) _ hq51 (fun _ (v46,v47)=>[(1,pP b1 0),(2,pP b2 0),(4,pO a11 l13.length c12),(7,pI v46),(8,pI v47)]) (fun _ (v46,v47)=>[PRes.b b1 43 (bj p0),PRes.b b2 32 [pS ByteArray.empty,pS ByteArray.empty,pB false,pI 0,pI 0,pI 0,pI 0,pI 0],PRes.row a11 l13.length c12 93 7 (List.map Za.enc l13)]) () (mv rfl) kY ?_
  rintro _ ⟨v46,v47⟩ o τ hb50;(try dsimp only at hb50);dsimp only [aK]
  refine gh (bU [65] [(66,pB (decide (0≤v47)))] (by kernel_rfl) rfl hb50 (fun hc52 hb50=>?_) fun hc52 hb50=>?_)
  ·refine ae ?_
   refine dV hb50 fun q55 hq55 hb50=>?_
   refine av (Y:=Unit×Int) (fun (_,v54)=>[(1,pP b1 0),(2,pP b2 0),(4,pO a11 l13.length c12),(7,pI v54),(8,pI v47)]) (fun (_,v54)=>[PRes.b b1 43 (bj p0),PRes.b b2 32 [pS ByteArray.empty,pS ByteArray.empty,pB false,pI 0,pI 0,pI 0,pI 0,pI 0],PRes.row a11 l13.length c12 93 7 (List.map Za.enc l13)]) (fun (_,v54)=>q55=v54) ?_ ?_
   ·skip
    refine jX (aa hq55 fun m56 hm56 hq55=>cP 2 [(69,pO a11 l13.length c12),(70,pI v47)] (by kernel_rfl) (bM rfl rfl rfl (cm (enc:=Za.enc) (xs:=l13) rfl rfl rfl (.p rfl) kb (.p rfl) (fun _=>hm56)) (bE 1 [(72,pP (rc a11) (v47.toNat * 7+3))] (by kernel_rfl) (bM rfl rfl rfl (cn (sz:=7) (p:=pI m56.Kind) (enc:=Za.enc) (xs:=l13) (a:=a11) v47 3 m56 rfl (.p rfl) rfl kb (fun _=>hm56) rfl) (aL [(74,pB (m56.Kind == 1))] (by kernel_rfl) (dW rfl hq55 (fun hc57 hq55=>?_) fun hc57 hq55=>?_))))))
    ·refine an [75] [(7,pI v47)] (by kernel_rfl) ?_
     refine aq ?_
     obtain rfl:=osi hq55
     exact am ((),v47) (mv rfl) kY rfl
    refine ae ?_
    refine aq ?_
    obtain rfl:=osi hq55
    exact am ((),v46) (mv rfl) kY rfl
   rintro ⟨_,v54⟩ τ hz;(try dsimp only at hz);subst q55;(try dsimp only at hb50);dsimp only [aK]
   refine an [67,68] [(8,pI (IntKind.i64.wrap (v47 - 1)))] (by kernel_rfl) ?_
   exact bt hb50 () (mv rfl) kY
  refine bc ?_
  refine aP (aJ hb50 (fun ht=>aM rfl ?_))
  exact am ((),v46) (iP rfl) kY ht.symm
 rintro ⟨_,v49⟩ τ hz;(try dsimp only at hz);subst q51;(try dsimp only at h);dsimp only [aK]
 refine gh (bU [76] [(77,pB (decide (v49<0)))] (by kernel_rfl) rfl h (fun hc58 h=>?_) fun hc58 h=>?_)
 ·refine ah ?_
  refine cP 1 [(78,.agg [pS ByteArray.empty,pS ByteArray.empty,pB false,pI 0,pI 0,pI 0,pI 0,pI 0])] (by kernel_rfl) (aH rfl rfl (ag (vs:=[pS ByteArray.empty,pS ByteArray.empty,pB false,pI 0,pI 0,pI 0,pI 0,pI 0]) rfl rfl rfl rfl rfl (bx bB) AD (aL [(3,pB false)] (by kernel_rfl) (ua ?_))))
  obtain rfl:=osi h
  exact aI (bD (cg rfl fR rfl) (aD rfl)) bZ ⟨rfl,rfl⟩
 refine ae ?_
 refine dV h fun m59 hm59 h=>cP 2 [(79,pO a11 l13.length c12),(80,pI v49)] (by kernel_rfl) (bM rfl rfl rfl (cm (enc:=Za.enc) (xs:=l13) rfl rfl rfl (.p rfl) kb (.p rfl) (fun _=>hm59)) (bM rfl rfl rfl (cn (sz:=7) (p:=.agg (aU m59)) (enc:=Za.enc) (xs:=l13) (a:=a11) v49 0 m59 rfl (.p rfl) rfl kb (fun _=>hm59) rfl) (aF rfl (aY (cs:=[pI 0,pI 0,pI 0,pI 0,pS ByteArray.empty,pI 0,pI 0]) rfl rfl rfl rfl (fun b60=>aH rfl rfl (ag (vs:=(aU m59)) rfl rfl rfl rfl rfl bB Ez (ar (cw (aj (cI 13 [1,0,0,0,1,0] (rg 83 12) [(95,.agg [pS p0.Code,pS m59.Country,pB false,pI m59.Company,pI m59.Day,pI p0.Units,pI m59.Amount,pI 0])] (by kernel_rfl) (aF rfl (aY (cs:=[pS ByteArray.empty,pS ByteArray.empty,pB false,pI 0,pI 0,pI 0,pI 0,pI 0]) rfl rfl rfl rfl (fun b61=>aH rfl rfl (ag (vs:=[pS p0.Code,pS m59.Country,pB false,pI m59.Company,pI m59.Day,pI p0.Units,pI m59.Amount,pI 0]) rfl rfl rfl rfl rfl bB AD (ar (dV h fun x62 hx62 h=>aB [1] [97,98,99,96,100,101] [(11,pI x62.1),(12,pI x62.2)] (bw 2 (pw hx62) bL) (by kernel_rfl) (cQ (ap [(13,pI 0)] (by kernel_rfl) (ga h fun q71 hq71 h=>?_)))))))))))))))))))
 refine av (Y:=Unit×(ByteArray×Bool×Int)) (fun (_,(v67,v68,v69))=>[(1,pP b1 0),(2,pP b2 0),(10,pP b61 0)]) (fun (_,(v67,v68,v69))=>[PRes.b b1 43 (bj p0),PRes.b b2 32 [pS ByteArray.empty,pS ByteArray.empty,pB false,pI 0,pI 0,pI 0,pI 0,pI 0],PRes.b b61 32 [pS p0.Code,pS v67,pB v68,pI m59.Company,pI m59.Day,pI p0.Units,pI v69,pI 0]]) (fun (_,(v67,v68,v69))=>q71=(v67,v68,v69)) ?_ ?_
 ·refine aR ?_
  refine aZ (Y:=Unit) (S:=Int×ByteArray×Bool×Int) _ hq71 (fun _ (v63,v64,v65,v66)=>[(1,pP b1 0),(2,pP b2 0),(4,pO a11 l13.length c12),(10,pP b61 0),(11,pI x62.1),(12,pI x62.2),(13,pI v63)]) (fun _ (v63,v64,v65,v66)=>[PRes.b b1 43 (bj p0),PRes.b b2 32 [pS ByteArray.empty,pS ByteArray.empty,pB false,pI 0,pI 0,pI 0,pI 0,pI 0],PRes.b b61 32 [pS p0.Code,pS v64,pB v65,pI m59.Company,pI m59.Day,pI p0.Units,pI v66,pI 0],PRes.row a11 l13.length c12 93 7 (List.map Za.enc l13)]) () (tM rfl) (bq (aC (aC aN)) (bq (aC (aC aN)) (bq aN (bq (aC aN) bZ)))) ?_
  rintro _ ⟨v63,v64,v65,v66⟩ o τ hb70;(try dsimp only at hb70);dsimp only [aK]
  refine gh (bU [102,103,104] [(105,pB (decide (v63<((l13.length:Nat):Int))))] (by kernel_rfl) rfl hb70 (fun hc72 hb70=>?_) fun hc72 hb70=>?_)
  ·refine ae ?_
   refine dV hb70 fun q77 hq77 hb70=>?_
   refine av (Y:=Unit×(ByteArray×Bool×Int)) (fun (_,(v74,v75,v76))=>[(1,pP b1 0),(2,pP b2 0),(4,pO a11 l13.length c12),(10,pP b61 0),(11,pI x62.1),(12,pI x62.2),(13,pI v63)]) (fun (_,(v74,v75,v76))=>[PRes.b b1 43 (bj p0),PRes.b b2 32 [pS ByteArray.empty,pS ByteArray.empty,pB false,pI 0,pI 0,pI 0,pI 0,pI 0],PRes.b b61 32 [pS p0.Code,pS v74,pB v75,pI m59.Company,pI m59.Day,pI p0.Units,pI v76,pI 0],PRes.row a11 l13.length c12 93 7 (List.map Za.enc l13)]) (fun (_,(v74,v75,v76))=>q77=(v74,v75,v76)) ?_ ?_
   ·skip
    refine aR (gh (aa hq77 fun m78 hm78 hq77=>aj (bO 5 [108,109] [(110,pB (x62.2 == 0)),(111,pgv (x62.2 == 0) (pO a11 l13.length c12)),(112,pgv (x62.2 == 0) (pI v63))] (by kernel_rfl) (nP (dX rfl rfl rfl) rfl rfl (cm (enc:=Za.enc) (xs:=l13) rfl rfl rfl (.g rfl) Ey (.g rfl) (cY hm78)) (nP (dX rfl rfl rfl) rfl rfl (ak rfl rfl rfl rfl rfl (.g rfl)) (nP (dX rfl rfl rfl) rfl rfl (cn (sz:=7) (p:=pI m78.Day) (enc:=Za.enc) (xs:=l13) (a:=a11) v63 2 m78 rfl (.g rfl) rfl Ey (cY hm78) rfl) (bE 1 [(116,pgv (x62.2 == 0) (pI x62.1))] (by kernel_rfl) (nP (dX rfl rfl rfl) rfl rfl (wv rfl (.g rfl) (.g rfl) rfl) (bM rfl rfl rfl (po rfl (.p rfl) (.p rfl) (.g rfl)) (ar (dW rfl hq77 (fun hc79 hq77=>?_) fun hc79 hq77=>?_)))))))))))
    ·refine bc ?_
     refine aP (aM rfl ?_)
     obtain rfl:=osi hq77
     exact am ((),(v64,v65,v66)) (tM rfl) wC rfl
    refine ae ?_
    refine dV hq77 fun m80 hm80 hq77=>cP 2 [(119,pO a11 l13.length c12),(120,pI v63)] (by kernel_rfl) (bM rfl rfl rfl (cm (enc:=Za.enc) (xs:=l13) rfl rfl rfl (.p rfl) Ey (.p rfl) (fun _=>hm80)) (bE 1 [(122,pP (rc a11) (v63.toNat * 7+3))] (by kernel_rfl) (bM rfl rfl rfl (cn (sz:=7) (p:=pI m80.Kind) (enc:=Za.enc) (xs:=l13) (a:=a11) v63 3 m80 rfl (.p rfl) rfl Ey (fun _=>hm80) rfl) (ar (aW (jX (bU [125] [(124,pB (m80.Kind == 2))] (by kernel_rfl) rfl hq77 (fun hc81 hq77=>?_) fun hc81 hq77=>?_)))))))
    ·refine aj ?_
     refine bE 1 [(126,pP b61 2)] (by kernel_rfl) (aH rfl rfl (ag (vs:=[pB true]) rfl rfl rfl rfl rfl (bx (bx bB)) (bf (bf cN)) (ar (aq (aq ?_)))))
     obtain rfl:=osi hq77
     exact am ((),(v64,true,v66)) (tM rfl) wC rfl
    refine ah ?_
    refine bU [128] [(127,pB (m80.Kind == 3))] (by kernel_rfl) rfl hq77 (fun hc82 hq77=>?_) fun hc82 hq77=>?_
    ·refine aa hq77 ?_;clear hq77;intro m83 hm83 hq77
     refine cP 2 [(129,pO a11 l13.length c12),(130,pI v63)] (by kernel_rfl) (bM rfl rfl rfl (cm (enc:=Za.enc) (xs:=l13) rfl rfl rfl (.p rfl) Ey (.p rfl) (fun _=>hm83)) (bE 1 [(132,pP (rc a11) (v63.toNat * 7+5))] (by kernel_rfl) (bM rfl rfl rfl (cn (sz:=7) (p:=pI m83.Amount) (enc:=Za.enc) (xs:=l13) (a:=a11) v63 5 m83 rfl (.p rfl) rfl Ey (fun _=>hm83) rfl) (bE 1 [(134,pP b61 6)] (by kernel_rfl) (aH rfl rfl (ag (vs:=[pI m83.Amount]) rfl rfl rfl rfl rfl (bx (bx bB)) (bf (bf (bf (bf (bf (bf cN)))))) (ar (aq (aq ?_)))))))))
     obtain rfl:=osi hq77
     exact am ((),(v64,v65,m83.Amount)) (tM rfl) wC rfl
    refine ah ?_
    refine bU [136] [(135,pB (m80.Kind == 4))] (by kernel_rfl) rfl hq77 (fun hc84 hq77=>?_) fun hc84 hq77=>?_
    ·refine aa hq77 ?_;clear hq77;intro m85 hm85 hq77
     refine cP 2 [(137,pO a11 l13.length c12),(138,pI v63)] (by kernel_rfl) (bM rfl rfl rfl (cm (enc:=Za.enc) (xs:=l13) rfl rfl rfl (.p rfl) Ey (.p rfl) (fun _=>hm85)) (bE 1 [(140,pP (rc a11) (v63.toNat * 7+4))] (by kernel_rfl) (bM rfl rfl rfl (cn (sz:=7) (p:=pS m85.Country) (enc:=Za.enc) (xs:=l13) (a:=a11) v63 4 m85 rfl (.p rfl) rfl Ey (fun _=>hm85) rfl) (bE 1 [(142,pP b61 1)] (by kernel_rfl) (aH rfl rfl (ag (vs:=[pS m85.Country]) rfl rfl rfl rfl rfl (bx (bx bB)) (bf cN) (ar (aq (aq ?_)))))))))
     obtain rfl:=osi hq77
     exact am ((),(m85.Country,v65,v66)) (tM rfl) wC rfl
    refine ae ?_
    refine aq (aq ?_)
    obtain rfl:=osi hq77
    exact am ((),(v64,v65,v66)) (tM rfl) wC rfl
   rintro ⟨_,⟨v74,v75,v76⟩⟩ τ hz;(try dsimp only at hz);subst q77;(try dsimp only at hb70);dsimp only [aK]
   refine an [106,107] [(13,pI (IntKind.i64.wrap (v63+1)))] (by kernel_rfl) ?_
   exact bt hb70 () (tM rfl) wC
  refine bc ?_
  refine aP (aJ hb70 (fun ht=>aM rfl ?_))
  exact am ((),(v64,v65,v66)) (kH rfl) kY ht.symm
 rintro ⟨_,⟨v67,v68,v69⟩⟩ τ hz;(try dsimp only at hz);subst q71;(try dsimp only at h);dsimp only [aK]
 refine gh (ap [(14,pI 0)] (by kernel_rfl) (ga h fun q90 hq90 h=>?_))
 refine av (Y:=Unit×Int) (fun (_,v88)=>[(2,pP b2 0),(10,pP b61 0)]) (fun (_,v88)=>[PRes.b b2 32 [pS ByteArray.empty,pS ByteArray.empty,pB false,pI 0,pI 0,pI 0,pI 0,pI 0],PRes.b b61 32 [pS p0.Code,pS v67,pB v68,pI m59.Company,pI m59.Day,pI p0.Units,pI v69,pI v88]]) (fun (_,v88)=>q90=v88) ?_ ?_
 ·refine aR ?_
  refine aZ (Y:=Unit) (S:=Int×Int) _ hq90 (fun _ (v86,v87)=>[(1,pP b1 0),(2,pP b2 0),(10,pP b61 0),(14,pI v86)]) (fun _ (v86,v87)=>[PRes.b b1 43 (bj p0),PRes.b b2 32 [pS ByteArray.empty,pS ByteArray.empty,pB false,pI 0,pI 0,pI 0,pI 0,pI 0],PRes.b b61 32 [pS p0.Code,pS v67,pB v68,pI m59.Company,pI m59.Day,pI p0.Units,pI v69,pI v87]]) () (iP rfl) kY ?_
  rintro _ ⟨v86,v87⟩ o τ hb89;(try dsimp only at hb89);dsimp only [aK]
  refine gh (aV [0] [143,144,145,146] [(147,pB (decide (v86<(p0.Facts.length:Int))))] (by kernel_rfl) (dW rfl hb89 (fun hc91 hb89=>?_) fun hc91 hb89=>?_))
  ·refine ae ?_
   refine dV hb89 fun q93 hq93 hb89=>?_
   refine av (Y:=Unit×Int) (fun (_,v92)=>[(1,pP b1 0),(2,pP b2 0),(10,pP b61 0),(14,pI v86)]) (fun (_,v92)=>[PRes.b b1 43 (bj p0),PRes.b b2 32 [pS ByteArray.empty,pS ByteArray.empty,pB false,pI 0,pI 0,pI 0,pI 0,pI 0],PRes.b b61 32 [pS p0.Code,pS v67,pB v68,pI m59.Company,pI m59.Day,pI p0.Units,pI v69,pI v92]]) (fun (_,v92)=>q93=v92) ?_ ?_
   ·skip
    refine jX (aa hq93 fun m94 hm94 hq93=>aB [0] (rg 150 6) [(156,pB (m94.Kind == 5))] (fC 3 Za.enc hm94 bL) (by kernel_rfl) (dW rfl hq93 (fun hc95 hq93=>?_) fun hc95 hq93=>?_))
    ·refine bN (ρd:=[PRes.b b61 _ _]) [(0,0),(1,0),(2,0),(3,0),(4,0),(5,0),(6,0),(7,0),(8,0),(9,0),(10,1)] _ (aX (aC (aC aN)) (List.Perm.refl _)) (by kernel_rfl) rfl ?_
     refine aa hq93 fun m96 hm96 hq93=>cr 10 [0,0] (rg 157 8) [(165,pI (ex p0.Units m96.Amount)),(166,pP b61 7)] (fC 5 Za.enc hm96 bL) (by kernel_rfl) (np rfl rfl (ag (vs:=[pI (ex p0.Units m96.Amount)]) rfl rfl rfl rfl rfl bB (bf (bf (bf (bf (bf (bf (bf cN))))))) (cC (aq ?_))))
     obtain rfl:=osi hq93
     exact am ((),(ex p0.Units m96.Amount)) (iP rfl) (bq (aC aN) (bq (aC aN) cq)) rfl
    refine ae ?_
    refine aq ?_
    obtain rfl:=osi hq93
    exact am ((),v87) (iP rfl) kY rfl
   rintro ⟨_,v92⟩ τ hz;(try dsimp only at hz);subst q93;(try dsimp only at hb89);dsimp only [aK]
   refine an [148,149] [(14,pI (IntKind.i64.wrap (v86+1)))] (by kernel_rfl) ?_
   exact bt hb89 () (iP rfl) kY
  refine bc ?_
  refine aP (aJ hb89 (fun ht=>aM rfl ?_))
  exact am ((),v87) (eN rfl) (bq (aC aN) (bq (aC aN) bZ)) ht.symm
 rintro ⟨_,v88⟩ τ hz;(try dsimp only at hz);subst q90;(try dsimp only at h);dsimp only [aK]
 refine ah (aj (dY 1 [1] [(167,.agg [pS p0.Code,pS v67,pB v68,pI m59.Company,pI m59.Day,pI p0.Units,pI v69,pI v88])] (by kernel_rfl) (aH rfl rfl (ag (vs:=[pS p0.Code,pS v67,pB v68,pI m59.Company,pI m59.Day,pI p0.Units,pI v69,pI v88]) rfl rfl rfl rfl rfl bB AD (aL [(3,pB true)] (by kernel_rfl) (dC ?_))))))
 obtain rfl:=osi h
 exact aI (bD (cg rfl dt rfl) (aD rfl)) bZ ⟨rfl,rfl⟩
def eJ (p0:Int):Option Bool:=some ((decide (65≤p0))&&(decide (p0≤90)))
theorem jo {p0:Int} {r:Bool}  (h:eJ p0=some r):PF 139 [pY p0] (pB r):=by
 unfold eJ at h
 refine bo ?_
 refine dZ Tryz.func139 rfl Tryz.ntmps139 Tryz.results139 rfl (bh [2] (by kernel_rfl) (cw (an (rg 3 6) [(2,pB ((decide (65≤p0))&&(decide (p0≤90))))] (by kernel_rfl) (dC ?_))))
 exact zz r h rfl
def cR (p0:ByteArray):Option Bool:=(gd ((p0.size:Int) == 2) (idx p0.data.toList 0)).bind fun c1=>(gd ((p0.size:Int) == 2) (eJ (c1.toNat:Int))).bind fun x2=>(gd (((p0.size:Int) == 2)&&x2) (idx p0.data.toList 1)).bind fun c3=>(gd (((p0.size:Int) == 2)&&x2) (eJ (c3.toNat:Int))).bind fun x4=>some ((((p0.size:Int) == 2)&&x2)&&x4)
theorem ir {p0:ByteArray} {r:Bool}  (h:cR p0=some r):PF 115 [pS p0] (pB r):=by
 unfold cR at h
 refine bo ?_
 refine dZ Tryz.func115 rfl Tryz.ntmps115 Tryz.results115 rfl (bh [2] (by kernel_rfl) (dV h fun c1 hc1 h=>aa h fun x2 hx2 h=>aa h fun c3 hc3 h=>aa h fun x4 hx4 h=>aB [] (rg 3 13) [(2,pB ((((p0.size:Int) == 2)&&x2)&&x4))] (mK 5 (cY hc1) (eU 6 (fun hc=>jo (cY hx2 hc)) (mK 10 (cY hc3) (eU 11 (fun hc=>jo (cY hx4 hc)) bL)))) (by kernel_rfl) (dC ?_)))
 exact zz r h rfl
def dw (p0:(List ByteArray)):Option Bool:=(bu (S:=Int) (T:=(Unit)⊕(_)) (fun v1=>cond (decide (v1<(p0.length:Int))) ((idx p0 v1).bind fun m5=>(cR m5).bind fun x6=>(gd ((!(!x6))&&(decide (0<v1))) (idx p0 (IntKind.i64.wrap (v1 - 1)))).bind fun m7=>cond ((!x6)||((decide (0<v1))&&(Op.bytesLess m5.toList m7.toList||decide (m5=m7)))) (some (.inr (.inr false))) (some (.inl (IntKind.i64.wrap (v1+1))))) (some (.inr (.inl ())))) FUEL 0).bind fun q=>match q with | .inl _=>some true | .inr e=>some e
theorem mS {p0:(List ByteArray)} {r:Bool}  (h:dw p0=some r):PF 113 [pL eS p0] (pB r):=by
 unfold dw at h
 refine bo ?_
 refine dZ Tryz.func113 rfl Tryz.ntmps113 Tryz.results113 rfl (bh [2] (by kernel_rfl) (cQ (ap [(5,pL eS p0),(6,pI (p0.length:Int)),(7,pI 0)] (by kernel_rfl) (ga h fun q3 hq3 h=>?_))))
 refine av (Y:=Unit×Unit) (fun (_,_)=>[]) (fun (_,_)=>[]) (fun (_,_)=>q3=Sum.inl ()) ?_ ?_
 ·refine aR ?_
  refine aZ (Y:=Unit) (S:=Int) _ hq3 (fun _ v1=>[(0,pL eS p0),(5,pL eS p0),(6,pI (p0.length:Int)),(7,pI v1)]) (fun _ v1=>[]) () (iP rfl) bZ ?_
  rintro _ v1 o τ hb2;(try dsimp only at hb2);dsimp only [aK]
  refine ah (ap [(8,pB (decide (v1<(p0.length:Int))))] (by kernel_rfl) (cw (kU rfl hb2 (fun hc4 hb2=>?_) fun hc4 hb2=>?_)))
  ·refine ae ?_
   refine cw (jX (aa hb2 fun m5 hm5 hb2=>aB [] [9,10,11] [(3,pI v1),(4,pS m5)] (fC 1 eS hm5 bL) (by kernel_rfl) (dV hb2 fun x6 hx6 hb2=>aa hb2 fun m7 hm7 hb2=>aB [] (rg 12 15) [(27,pB ((!x6)||((decide (0<v1))&&(Op.bytesLess m5.toList m7.toList||decide (m5=m7)))))] (bw 1 (ir hx6) (jW 11 eS (cY hm7) bL)) (by kernel_rfl) (dW rfl hb2 (fun hc8 hb2=>?_) fun hc8 hb2=>?_))))
   ·refine ah ?_
    refine ap [(2,pB false)] (by kernel_rfl) (dC (au (aO ?_)))
    refine bH hb2 (fun ht=>?_);subst ht
    refine au (bz ?_)
    exact zz r h rfl
   refine ae ?_
   refine aq (aW (an [28] [(7,pI (IntKind.i64.wrap (v1+1)))] (by kernel_rfl) ?_))
   exact bt hb2 () (iP rfl) bZ
  refine bc ?_
  refine aP (aJ hb2 (fun ht=>aM rfl ?_))
  exact am ((),()) sL bZ ht.symm
 rintro ⟨_,_⟩ τ hz;(try dsimp only at hz);subst q3;(try dsimp only at h);dsimp only [aK]
 refine ah (ap [(2,pB true)] (by kernel_rfl) (dC ?_))
 exact zz r h rfl
def cT (p0:Zm):Option Int:=cond ((((decide (p0.Rate<0))||(decide (10000000<p0.Rate)))||(decide (p0.Amount<0)))||(decide (100000000<p0.Amount))) (some (2:Int)) (cond (((decide (0<p0.Amount))&&((decide (p0.Per<1))||(decide (1000000<p0.Per))))||((p0.Amount == 0)&&(p0.Per != 0))) (some (2:Int)) (cond ((((decide (p0.Most<0))||(decide (10000000<p0.Most)))||(decide (p0.Least<0)))||(decide (10000000<p0.Least))) (some (2:Int)) (cond (((p0.Most != 0)&&(!p0.HasMost))||((p0.Least != 0)&&(!p0.HasLeast))) (some (1:Int)) (cond ((p0.HasMost&&p0.HasLeast)&&(decide (p0.Most<p0.Least))) (some (1:Int)) (some (0:Int))))))
theorem mT {p0:Zm} {r:Int}  (h:cT p0=some r):PF 114 [.agg (jI p0)] (pI r):=by
 unfold cT at h
 refine bo ?_
 refine dZ Tryz.func114 rfl Tryz.ntmps114 Tryz.results114 rfl (dj rfl (bC (cs:=(jI p0)) rfl rfl (fun b1=>br [2] (by kernel_rfl) (cQ (aV [0,0,0,0] (rg 3 17) [(20,pB ((((decide (p0.Rate<0))||(decide (10000000<p0.Rate)))||(decide (p0.Amount<0)))||(decide (100000000<p0.Amount))))] (by kernel_rfl) (dW rfl h (fun hc2 h=>?_) fun hc2 h=>?_))))))
 ·refine ah ?_
  refine dq [(2,pI 2)] (by kernel_rfl) ?_
  exact zz r h rfl
 refine ae ?_
 refine cQ (aV [0,0,0,0,0] (rg 21 22) [(43,pB (((decide (0<p0.Amount))&&((decide (p0.Per<1))||(decide (1000000<p0.Per))))||((p0.Amount == 0)&&(p0.Per != 0))))] (by kernel_rfl) (dW rfl h (fun hc3 h=>?_) fun hc3 h=>?_))
 ·refine ah ?_
  refine dq [(2,pI 2)] (by kernel_rfl) ?_
  exact zz r h rfl
 refine ae ?_
 refine cQ (aV [0,0,0,0] (rg 44 17) [(61,pB ((((decide (p0.Most<0))||(decide (10000000<p0.Most)))||(decide (p0.Least<0)))||(decide (10000000<p0.Least))))] (by kernel_rfl) (dW rfl h (fun hc4 h=>?_) fun hc4 h=>?_))
 ·refine ah ?_
  refine dq [(2,pI 2)] (by kernel_rfl) ?_
  exact zz r h rfl
 refine ae ?_
 refine cQ (aV [0,0,0,0] (rg 62 17) [(79,pB (((p0.Most != 0)&&(!p0.HasMost))||((p0.Least != 0)&&(!p0.HasLeast))))] (by kernel_rfl) (dW rfl h (fun hc5 h=>?_) fun hc5 h=>?_))
 ·refine ah ?_
  refine dq [(2,pI 1)] (by kernel_rfl) ?_
  exact zz r h rfl
 refine ae ?_
 refine cQ (aV [0,0,0,0] (rg 80 12) [(92,pB ((p0.HasMost&&p0.HasLeast)&&(decide (p0.Most<p0.Least))))] (by kernel_rfl) (dW rfl h (fun hc6 h=>?_) fun hc6 h=>?_))
 ·refine ah ?_
  refine dq [(2,pI 1)] (by kernel_rfl) ?_
  exact zz r h rfl
 refine ae ?_
 refine cw (ap [(2,pI 0)] (by kernel_rfl) (dC ?_))
 exact zz r h rfl
def ja (p0:Zb) (p1:Int):Option Bool:=some (((decide (p0.From≤p1))&&(decide (p1<p0.To)))||(((p0.Registered != (-1))&&(decide (p0.Registered≤p1)))&&(decide (p1<p0.From))))
theorem pz {p0:Zb} {p1:Int} {r:Bool}  (h:ja p0 p1=some r):PF 140 [.agg (bk p0),pI p1] (pB r):=by
 unfold ja at h
 refine bo ?_
 refine dZ Tryz.func140 rfl Tryz.ntmps140 Tryz.results140 rfl (dj rfl (bC (cs:=(bk p0)) rfl rfl (fun b1=>br [4] (by kernel_rfl) (cw (aV [0,0,0,0,0] (rg 5 27) [(4,pB (((decide (p0.From≤p1))&&(decide (p1<p0.To)))||(((p0.Registered != (-1))&&(decide (p0.Registered≤p1)))&&(decide (p1<p0.From)))))] (by kernel_rfl) (dC ?_))))))
 exact zz r h rfl
end SX
end Go.Proofs.YtmgcadfnkchnfaaGreatDoor
