/- AuditItem: for every input the law returns true, and each argument reads afterwards as it read before. Conditions: the package variables are as the program's text lays them (the card ties them). -/
import Derived.Test.YtmgcadfnkchnfaaGreatDoorM5
import Derived.Test.YtmgcadfnkchnfaaGreatDoorL1q
set_option linter.unusedVariables false
set_option linter.unusedSimpArgs false
set_option maxHeartbeats 4000000
set_option maxRecDepth 100000
namespace Go.Proofs.YtmgcadfnkchnfaaGreatDoor
namespace SX
open Go
theorem pR {o:Int→Option Zb} {q v k:Int}:∀ (ks:List Int) (st:LS),jv o q v (ks++[k]) st=gO (jv o q v ks st) (jU q v (o k)):=by
 intro ks
 induction ks with
 | nil=>intro st;show gO (jU q v (o k) st) (fun s=>.inl s)=jU q v (o k) st;exact oJ _
 | cons j ks ih =>
  intro st
  show gO (jU q v (o j) st) (jv o q v (ks++[k]))=gO (gO (jU q v (o j) st) (jv o q v ks)) _
  cases jU q v (o j) st with
  | inl s=>exact ih s
  | inr e=>rfl
def fQ (skip:Bool) (o:Option Zb) (k q v:Int) (r:LS):LS:=match o with
 | none=>r
 | some m=>if skip=true then r else if k=1∨(nB m.Duty v q).1<r.2.2.2.2.2 then (r.1||((nB m.Duty v q).2 != 0),k,m.ID,q,v,(nB m.Duty v q).1) else (r.1||((nB m.Duty v q).2 != 0),r.2)
def LRel (p:LS⊕Int) (ov:Bool) (r:LS):Prop:=(∃ s:LS,p=.inl s∧s.1=true∧r=(ov,s.2)∧AmtOK s)∨(p=.inr 3∧r.1=true)
section
variable {o:Int→Option Zb} (ho:∀ k m,o k=some m→MOK m∧m.Kind=k) {q v:Int} (hv:0≤v) (hv':v≤1000000000000) (hq:0≤q) (hq':q≤1000000000)
include ho hv hv' hq hq'
theorem B8 {m:Zb} (h:o 1=some m) (ov:Bool):LRel (jU q v (o 1) xh) ov (fQ false (o 1) 1 q v (ov,0,0,0,0,0)):=by
 obtain ⟨mk,kd⟩:=ho 1 m h
 rw [h]
 show LRel (ml q v xh m) ov _
 unfold ml fQ
 dsimp only
 rw [if_neg (show ¬ false=true by decide),if_pos (Or.inl rfl)]
 rcases sX mk hv hv' hq hq' with ⟨a,b,c⟩ | ⟨a,b⟩
 ·rw [if_neg (by simp [a]),if_pos (Or.inl (show xh.1=false from rfl)),a,kd]
  left;exact ⟨_,rfl,rfl,by simp,⟨b,c⟩⟩
 rw [if_pos (by simp [a]),a];right;exact ⟨rfl,by simp⟩
theorem uC {p:LS⊕Int} {ov:Bool} {r:LS} (h:LRel p ov r) {k:Int} (hk:k≠1):LRel (gO p (jU q v (o k))) ov (fQ false (o k) k q v r):=by
 cases hok:o k with
 | none =>
  rcases h with ⟨s,h1,h2,h3,h4⟩ | ⟨h1,h2⟩
  ·subst h1;left;exact ⟨s,rfl,h2,h3,h4⟩
  ·subst h1;right;exact ⟨rfl,h2⟩
 | some m =>
  obtain ⟨mk,kd⟩:=ho k m hok
  show LRel _ ov (if false=true then r else if k=1∨(nB m.Duty v q).1<r.2.2.2.2.2 then _ else _)
  rw [if_neg (show ¬ false=true by decide)]
  rcases h with ⟨s,h1,h2,h3,h4⟩ | ⟨h1,h2⟩
  ·subst h1;subst h3
   show LRel (ml q v s m) ov _
   unfold ml
   rcases sX mk hv hv' hq hq' with ⟨a,b,c⟩ | ⟨a,b⟩
   ·rw [if_neg (by simp [a])]
    by_cases hlt:(nB m.Duty v q).1<s.2.2.2.2.2
    ·rw [if_pos (Or.inr hlt),if_pos (Or.inr hlt),a,kd]
     left;exact ⟨_,rfl,rfl,by simp,⟨b,c⟩⟩
    rw [if_neg (by rw [h2];simp [hlt]),if_neg (by simp [hk,hlt]),a]
    left;exact ⟨_,rfl,h2,by simp,h4⟩
   rw [if_pos (by simp [a]),a];right
   refine ⟨rfl,?_⟩
   split <;> simp
  subst h1;right
  refine ⟨rfl,?_⟩
  split <;> simp [h2]
omit ho hv hv' hq hq' in
theorem yQ {p:LS⊕Int} {ov:Bool} {r:LS} (h:LRel p ov r) {k:Int}:LRel p ov (fQ true (o k) k q v r):=by
 cases o k with
 | none=>exact h
 | some m=>exact h
def rL (o:Int→Option Zb) (q v:Int) (no3 no4:Bool) (ov:Bool):LS:=fQ no4 (o 4) 4 q v (fQ no3 (o 3) 3 q v (fQ false (o 2) 2 q v (fQ false (o 1) 1 q v (ov,0,0,0,0,0))))
theorem uD {m:Zb} (h:o 1=some m) (x:Zj) (no4:Bool) (ov:Bool):LRel (jv o q v (ey x++if no4=true then [] else [4]) xh) ov (rL o q v (!x.Proof) no4 ov):=by
 have r1:LRel (jv o q v [1] xh) ov (fQ false (o 1) 1 q v (ov,0,0,0,0,0)):=by
  show LRel (gO (jU q v (o 1) xh) (fun s=>.inl s)) _ _
  rw [oJ]
  exact B8 ho hv hv' hq hq' h ov
 have r2:LRel (jv o q v [1,2] xh) ov (fQ false (o 2) 2 q v (fQ false (o 1) 1 q v (ov,0,0,0,0,0))):=by
  rw [show ([1,2]:List Int)=[1]++[2] from rfl,pR]
  exact uC ho hv hv' hq hq' r1 (by omega)
 have r3:LRel (jv o q v (ey x) xh) ov (fQ (!x.Proof) (o 3) 3 q v (fQ false (o 2) 2 q v (fQ false (o 1) 1 q v (ov,0,0,0,0,0)))):=by
  unfold ey
  cases x.Proof
  ·rw [if_neg (by simp)];exact yQ r2
  rw [if_pos rfl,show ([1,2,3]:List Int)=[1,2]++[3] from rfl,pR]
  exact uC ho hv hv' hq hq' r2 (by omega)
 unfold rL
 cases no4
 ·rw [if_neg (by simp),pR];exact uC ho hv hv' hq hq' r3 (by omega)
 rw [if_pos rfl,List.append_nil];exact yQ r3
end
section
variable {l:List Zb} (hl:l.length≤300) (hm:∀ m∈l,MOK m) (x:Zj)
include hl hm
theorem D7:∀ k m,oK l x k=some m→MOK m∧m.Kind=k:=by
 intro k m h
 rcases oq hl hm x k with h' | ⟨m',h',h2,h3,_⟩
 ·rw [h'] at h;cases h
 rw [h'] at h;injection h with h;exact h ▸ ⟨h2,h3⟩
theorem vP {gr vs:List Int} {i q v:Int} (hq2:idx gr i=some q) (hv2:idx vs i=some v) (hv:0≤v) (hv':v≤1000000000000) (hq:0≤q) (hq':q≤1000000000) (ov:Bool) {β:Type} (c:LS→Option β) :
    Option.bind (bu (S:=Bool×Int×Int×Int×Int×Int×Int) (T:=(Bool×Int×Int×Int×Int×Int)) (fun (v43,v44,v45,v46,v47,v48,v49)=>cond (decide (v44≤4)) (Option.bind (Option.bind (iY l v44 x.Code x.Origin x.Company x.Day) (fun x68=>cond (((!x68.2)||((v44 == 3)&&(!x.Proof)))||((v44 == 4)&&(i == 1))) (some (v43,v45,v46,v47,v48,v49)) (Option.bind (idx vs i) (fun m71=>Option.bind (idx gr i) (fun m72=>Option.bind (eg x68.1.Duty m71 m72) (fun x73=>cond ((v44 == 1)||(decide (x73.1<v49))) (Option.bind (idx gr i) (fun m75=>Option.bind (idx vs i) (fun m76=>some ((v43||(x73.2 != 0)),v44,x68.1.ID,m75,m76,x73.1)))) (some ((v43||(x73.2 != 0)),v45,v46,v47,v48,v49)))))))) (fun (v60,v62,v63,v64,v65,v66)=>some (.inl (v60,(IntKind.i64.wrap (v44+1)),v62,v63,v64,v65,v66)))) (some (.inr (v43,v45,v46,v47,v48,v49)))) FUEL (ov,1,0,0,0,0,0)) c=c (rL (oK l x) q v (!x.Proof) (i == 1) ov):=by
  have one:∀ (k:Int) (hk:k≤4) (hk0:1≤k) (r:LS),(fun (v43,v44,v45,v46,v47,v48,v49)=>cond (decide (v44≤4)) (Option.bind (Option.bind (iY l v44 x.Code x.Origin x.Company x.Day) (fun x68=>cond (((!x68.2)||((v44 == 3)&&(!x.Proof)))||((v44 == 4)&&(i == 1))) (some (v43,v45,v46,v47,v48,v49)) (Option.bind (idx vs i) (fun m71=>Option.bind (idx gr i) (fun m72=>Option.bind (eg x68.1.Duty m71 m72) (fun x73=>cond ((v44 == 1)||(decide (x73.1<v49))) (Option.bind (idx gr i) (fun m75=>Option.bind (idx vs i) (fun m76=>some ((v43||(x73.2 != 0)),v44,x68.1.ID,m75,m76,x73.1)))) (some ((v43||(x73.2 != 0)),v45,v46,v47,v48,v49)))))))) (fun (v60,v62,v63,v64,v65,v66)=>some (.inl (v60,(IntKind.i64.wrap (v44+1)),v62,v63,v64,v65,v66)))) (some (.inr (v43,v45,v46,v47,v48,v49))):Bool×Int×Int×Int×Int×Int×Int→Option ((Bool×Int×Int×Int×Int×Int×Int)⊕(Bool×Int×Int×Int×Int×Int))) (r.1,k,r.2)=some (.inl ((fQ (((k == 3)&&(!x.Proof))||((k == 4)&&(i == 1))) (oK l x k) k q v r).1,k+1,(fQ (((k == 3)&&(!x.Proof))||((k == 4)&&(i == 1))) (oK l x k) k q v r).2)):=by
    intro k hk hk0 r
    obtain ⟨r1,r2,r3,r4,r5,r6⟩:=r
    dsimp only
    rw [det hk,dG,bS (zY hl hm k x.Code x.Origin x.Company x.Day),show mj l (cK k x.Code x.Origin x.Company x.Day)=oK l x k from rfl,cj (by omega) (by omega)]
    cases hok:oK l x k with
    | none=>rfl
    | some m =>
      obtain ⟨mk,_⟩:=D7 hl hm x k m hok
      obtain ⟨e0,e1,e2,_⟩:=nA m.Duty
      rw [mk.duty] at e1
      have hd:=e2 (Option.some.inj e1).symm
      dsimp only
      rw [Bool.not_true,Bool.false_or]
      unfold fQ
      dsimp only
      cases (((k == 3)&&(!x.Proof))||((k == 4)&&(i == 1)))
      · rw [eu,bS hv2,bS hq2,bS (yG hd hv hv' hq hq' mk.duty),bS hq2,bS hv2,if_neg (show ¬ false=true by decide)]
        by_cases hc:k=1∨(nB m.Duty v q).1<r6
        · rw [if_pos hc,show ((k == 1)||decide ((nB m.Duty v q).1<r6))=true by simpa using hc];rfl
        rw [if_neg hc,show ((k == 1)||decide ((nB m.Duty v q).1<r6))=false by rw [Bool.eq_false_iff];intro h;apply hc;simpa using h];rfl
      rfl
  unfold rL
  refine (cB (N:=1267650600228229401496703205375) _ (one 1 (by omega) (by omega) (ov,0,0,0,0,0))).trans ?_
  refine (cB (N:=1267650600228229401496703205374) _ (one 2 (by omega) (by omega) _)).trans ?_
  refine (cB (N:=1267650600228229401496703205373) _ (one 3 (by omega) (by omega) _)).trans ?_
  refine (cB (N:=1267650600228229401496703205372) _ (one 4 (by omega) (by omega) _)).trans ?_
  refine (dA (N:=1267650600228229401496703205371) _ rfl).trans ?_
  have b1:((((1:Int) == 3)&&(!x.Proof))||(((1:Int) == 4)&&(i == 1)))=false:=rfl
  have b2:((((2:Int) == 3)&&(!x.Proof))||(((2:Int) == 4)&&(i == 1)))=false:=rfl
  have b3:((((3:Int) == 3)&&(!x.Proof))||(((3:Int) == 4)&&(i == 1))) = !x.Proof:=by cases x.Proof <;> rfl
  have b4:((((4:Int) == 3)&&(!x.Proof))||(((4:Int) == 4)&&(i == 1)))=(i == 1):=by cases (i == 1) <;> rfl
  rw [b1,b2,b3,b4]
end
theorem sY {α A R:Type} {f:Nat→α→A→A⊕R} (hf:∀ j i y a,f j y a=f i y a):∀ (a b:List α) (j:Nat) (st:A),run f (a++b) j st=gO (run f a j st) (run f b 0):=by
 have shift:∀ (b:List α) (j i:Nat) (st:A),run f b j st=run f b i st:=by
  intro b
  induction b with
  | nil=>intro j i st;rfl
  | cons y ys ih =>
   intro j i st
   rw [eA,eA,hf j i y st]
   cases f i y st with
   | inl a'=>exact ih _ _ _
   | inr r=>rfl
 intro a
 induction a with
 | nil=>intro b j st;exact shift b j 0 st
 | cons y ys ih =>
  intro b j st
  rw [List.cons_append,eA,eA]
  cases f j y st with
  | inl a'=>exact ih b _ _
  | inr r=>rfl
theorem yR {A R:Type} (p:A⊕R):gO p (fun s=>.inl s)=p:=by cases p <;> rfl
theorem qO {α A R:Type} {f:Nat→α→A→A⊕R} (y:α):run f [y] 0=f 0 y:=by
 funext st;rw [eA];exact yR _
def sumF (_:Nat) (y:Zd) (t:Int):Int⊕Unit:=.inl (IntKind.i64.wrap (t+y.Amount))
def D8 (ls:List Zd):Int:=uT id (fun _=>0) (run sumF ls 0 0)
theorem B9 (ls:List Zd) (y:Zd):D8 (ls++[y])=IntKind.i64.wrap (D8 ls+y.Amount):=by
 unfold D8
 rw [sY (fun _ _ _ _=>rfl),qO]
 cases h:run sumF ls 0 0 with
 | inl t=>rfl
 | inr u =>
  exact absurd h (by
   have:∀ (ls:List Zd) (k:Nat) (t:Int),∃ t',run sumF ls k t=.inl t':=by
    intro ls
    induction ls with
    | nil=>intro k t;exact ⟨t,rfl⟩
    | cons z zs ih=>intro k t;exact ih _ _
   obtain ⟨t',h'⟩:=this ls 0 0
   rw [h'];intro h;cases h)
def RelO (n:Nat) (p:(List Zd×Int)⊕Int) (r:Bool×List Zd):Prop:=r.2.length≤n∧((∃ st,p=.inl st∧r=(false,st.1)∧D8 st.1=st.2∧0≤st.2∧st.2≤(n:Int)*1000000000000)∨(p=.inr 3∧r.1=true))
theorem RelO.up {n m:Nat} (h:n≤m) {p:(List Zd×Int)⊕Int} {r:Bool×List Zd} (hr:RelO n p r):RelO m p r:=by
 obtain ⟨a,b⟩:=hr
 refine ⟨by omega,?_⟩
 rcases b with ⟨st,h1,h2,h3,h4,h5⟩ | b
 ·left;exact ⟨st,h1,h2,h3,h4,by omega⟩
 right;exact b
theorem xj {n:Nat} (hn:n≤10) {p:(List Zd×Int)⊕Int} {r:Bool×List Zd} (h:RelO n p r) {o:Int→Option Zb} {j:Nat} {q v:Int} {ks:List Int} {rr:LS} (hc:LRel (jv o q v ks xh) r.1 rr):RelO (n+1) (gO p (fP o j ⟨q,v,ks⟩)) (rr.1,r.2++[oo rr]):=by
 obtain ⟨a,b⟩:=h
 refine ⟨by simp;omega,?_⟩
 rcases b with ⟨st,h1,h2,h3,h4,h5⟩ | ⟨h1,h2⟩
 ·subst h1;subst h2
  rcases hc with ⟨s,g1,g2,g3,g4⟩ | ⟨g1,g2⟩
  ·left
   subst g3
   refine ⟨(st.1++[oo s],st.2+s.2.2.2.2.2),?_,rfl,?_,?_,?_⟩
   ·show fP o j ⟨q,v,ks⟩ st=_
    unfold fP
    dsimp only
    rw [g1];dsimp only;rw [if_pos g2]
   ·rw [B9,h3]
    exact cj (by show -9223372036854775808≤st.2+s.2.2.2.2.2;have:=g4.1;omega) (by show st.2+s.2.2.2.2.2≤9223372036854775807;have:=g4.2;omega)
   ·have:=g4.1;dsimp only;omega
   have:=g4.2;dsimp only;omega
  right
  refine ⟨?_,g2⟩
  show fP o j ⟨q,v,ks⟩ st=_
  unfold fP
  dsimp only
  rw [g1]
 right
 subst h1
 refine ⟨rfl,?_⟩
 rcases hc with ⟨s,g1,g2,g3,g4⟩ | ⟨g1,g2⟩
 ·rw [g3];exact h2
 exact g2
def fz (o:Int→Option Zb) (k q v:Int) (r:Bool×List Zd):Bool×List Zd:=match o k with
 | none=>r
 | some m=>(r.1||((nB m.Duty v q).2 != 0),r.2++[⟨k,m.ID,q,v,(nB m.Duty v q).1⟩])
theorem yS {n:Nat} (hn:n≤10) {p:(List Zd×Int)⊕Int} {r:Bool×List Zd} (h:RelO n p r) {o:Int→Option Zb} (ho:∀ k m,o k=some m→MOK m∧m.Kind=k) {j:Nat} {q v k:Int} (hv:0≤v) (hv':v≤1000000000000) (hq:0≤q) (hq':q≤1000000000):RelO (n+1) (gO p (fP o j ⟨q,v,[k]⟩)) (fz o k q v r):=by
 have hch:jv o q v [k] xh=jU q v (o k) xh:=oJ _
 unfold fz
 cases hok:o k with
 | none =>
  dsimp only
  have e:∀ st,fP o j ⟨q,v,[k]⟩ st=.inl st:=by
   intro st;unfold fP;dsimp only;rw [hch,hok];rfl
  have:gO p (fP o j ⟨q,v,[k]⟩)=p:=by
   cases p with
   | inl st=>exact e st
   | inr e=>rfl
  rw [this];exact h.up (by omega)
 | some m =>
  obtain ⟨mk,kd⟩:=ho k m hok
  dsimp only
  have hr:LRel (jv o q v [k] xh) r.1 (r.1||((nB m.Duty v q).2 != 0),k,m.ID,q,v,(nB m.Duty v q).1):=by
   rw [hch,hok]
   show LRel (ml q v xh m) _ _
   unfold ml
   rcases sX mk hv hv' hq hq' with ⟨a,b,c⟩ | ⟨a,b⟩
   ·rw [if_neg (by simp [a]),if_pos (Or.inl (show xh.1=false from rfl)),a,kd]
    left;exact ⟨_,rfl,rfl,by simp,⟨b,c⟩⟩
   rw [if_pos (by simp [a]),a];right;exact ⟨rfl,by simp⟩
  exact xj hn h hr
def ej (o:Int→Option Zb) (x:Zj) (q v:Int) (skip no4:Bool) (r:Bool×List Zd):Bool×List Zd:=if skip=true then r else ((rL o q v (!x.Proof) no4 r.1).1,r.2++[oo (rL o q v (!x.Proof) no4 r.1)])
section
variable {l:List Zb} (hl:l.length≤300) (hm:∀ m∈l,MOK m) {x:Zj} (hx:Zt x) {m1:Zb} (h1:oK l x 1=some m1)
include hl hm hx h1
def uE (l:List Zb) (x:Zj):Bool×List Zd:=fz (oK l x) 6 x.Quantity x.Value (fz (oK l x) 5 x.Quantity x.Value (ej (oK l x) x (x.Quantity - x.Granted) (eV x).2 (((x.Quantity - x.Granted) == 0)&&(decide (0<x.Quantity))) true (ej (oK l x) x x.Granted (eV x).1 (x.Granted == 0) false (false,[]))))
theorem rel_all:RelO 4 (run (fP (oK l x)) (iS x) 0 ([],0)) (uE l x):=by
 have ho:=D7 hl hm x
 obtain ⟨s,a0,a1,b0,b1⟩:=xg hx
 obtain ⟨q0,q1,v0,v1,g0,g1⟩:=hx
 unfold iS uE
 rw [sY (fun _ _ _ _=>rfl),sY (fun _ _ _ _=>rfl)]
 have start:RelO 0 (.inl ([],0)) (false,[]):=⟨by simp,.inl ⟨_,rfl,rfl,rfl,by simp,by simp⟩⟩
 have p1:RelO 1 (run (fP (oK l x)) (if 0<x.Granted then [⟨x.Granted,(eV x).1,ey x++[4]⟩] else []) 0 ([],0)) (ej (oK l x) x x.Granted (eV x).1 (x.Granted == 0) false (false,[])):=by
  unfold ej
  by_cases hg:0<x.Granted
  ·rw [if_pos hg,if_neg (by simp;omega),qO]
   exact xj (p:=.inl ([],0)) (j:=0) (by omega) start (uD ho a0 a1 g0 (by omega) h1 x false false)
  rw [if_neg hg,if_pos (by simp;omega)];exact start.up (by omega)
 have p2:RelO 2 (gO (run (fP (oK l x)) (if 0<x.Granted then [⟨x.Granted,(eV x).1,ey x++[4]⟩] else []) 0 ([],0)) (run (fP (oK l x)) (if 0<x.Quantity - x.Granted∨x.Quantity=0 then [⟨x.Quantity - x.Granted,(eV x).2,ey x⟩] else []) 0)) (ej (oK l x) x (x.Quantity - x.Granted) (eV x).2 (((x.Quantity - x.Granted) == 0)&&(decide (0<x.Quantity))) true (ej (oK l x) x x.Granted (eV x).1 (x.Granted == 0) false (false,[]))):=by
  generalize ej (oK l x) x x.Granted (eV x).1 (x.Granted == 0) false (false,[])=r1 at *
  generalize run (fP (oK l x)) (if 0<x.Granted then [⟨x.Granted,(eV x).1,ey x++[4]⟩] else []) 0 ([],0)=pp at *
  unfold ej
  by_cases hg:0<x.Quantity - x.Granted∨x.Quantity=0
  ·rw [if_pos hg,show (((x.Quantity - x.Granted) == 0)&&(decide (0<x.Quantity)))=false by rw [Bool.and_eq_false_iff];simp only [beq_eq_false_iff_ne,decide_eq_false_iff_not];omega,if_neg (show ¬ false=true by decide),qO]
   have:=uD ho b0 b1 (show 0≤x.Quantity - x.Granted by omega) (by omega) h1 x true r1.1
   rw [if_pos rfl,List.append_nil] at this
   exact xj (j:=0) (by omega) p1 this
  rw [if_neg hg,show (((x.Quantity - x.Granted) == 0)&&(decide (0<x.Quantity)))=true by rw [Bool.and_eq_true];simp only [beq_iff_eq,decide_eq_true_eq];omega,if_pos rfl]
  have:(run (fP (oK l x)) [] 0)=fun st=>.inl st:=rfl
  rw [this,yR];exact p1.up (by omega)
 have e56:∀ st,run (fP (oK l x)) [⟨x.Quantity,x.Value,[5]⟩,⟨x.Quantity,x.Value,[6]⟩] 0 st=gO (fP (oK l x) 0 ⟨x.Quantity,x.Value,[5]⟩ st) (fP (oK l x) 0 ⟨x.Quantity,x.Value,[6]⟩):=by
  intro st
  rw [show ([⟨x.Quantity,x.Value,[5]⟩,⟨x.Quantity,x.Value,[6]⟩]:List Zg)=[⟨x.Quantity,x.Value,[5]⟩]++[⟨x.Quantity,x.Value,[6]⟩] from rfl,sY (fun _ _ _ _=>rfl),qO,qO]
 have p3:=yS (by omega) p2 ho (j:=0) (k:=5) v0 v1 q0 q1
 have p4:=yS (by omega) p3 ho (j:=0) (k:=6) v0 v1 q0 q1
 rw [show run (fP (oK l x)) [⟨x.Quantity,x.Value,[5]⟩,⟨x.Quantity,x.Value,[6]⟩] 0=fun st=>gO (fP (oK l x) 0 ⟨x.Quantity,x.Value,[5]⟩ st) (fP (oK l x) 0 ⟨x.Quantity,x.Value,[6]⟩) from funext e56]
 have assoc:∀ p:(List Zd×Int)⊕Int,gO (gO p (fP (oK l x) 0 ⟨x.Quantity,x.Value,[5]⟩)) (fP (oK l x) 0 ⟨x.Quantity,x.Value,[6]⟩)=gO p (fun st=>gO (fP (oK l x) 0 ⟨x.Quantity,x.Value,[5]⟩ st) (fP (oK l x) 0 ⟨x.Quantity,x.Value,[6]⟩)):=by
  intro p;cases p <;> rfl
 rw [assoc] at p4
 exact p4
end
theorem sb (o:Int→Option Zb) (x:Zj) (q v:Int) (skip no4:Bool) (r:Bool×List Zd):(ej o x q v skip no4 r).2.length≤r.2.length+1:=by
 unfold ej;split <;> simp
theorem yT (o:Int→Option Zb) (k q v:Int) (r:Bool×List Zd):(fz o k q v r).2.length≤r.2.length+1:=by
 unfold fz;split <;> simp
theorem D9 (ls:List Zd) (hl:ls.length≤100) {β:Type} (c:Int→Option β):Option.bind (bu (S:=Int×Int) (T:=(Int)) (fun (v113,v114)=>cond (decide (v113<((ls.length:Nat):Int))) (Option.bind (idx ls v113) (fun m120=>some (.inl ((IntKind.i64.wrap (v113+1)),(IntKind.i64.wrap (v114+m120.Amount)))))) (some (.inr v114))) FUEL (0,0)) c=c (D8 ls):=by
 have hl':ls.length≤4611686018427387904:=by omega
 obtain ⟨e,_⟩:=fm (S:=Int×Int) (T:=Int) hl' (body:=fun (v113,v114)=>cond (decide (v113<((ls.length:Nat):Int))) (Option.bind (idx ls v113) (fun m120=>some (.inl ((IntKind.i64.wrap (v113+1)),(IntKind.i64.wrap (v114+m120.Amount)))))) (some (.inr v114)))
  (fun i t=>(i,t)) sumF id (fun _=>0) (fun _ _=>True) (by
   intro k hk t _
   refine ⟨?_,fun _ _=>trivial⟩
   dsimp only
   rw [uS hk,dG,bS (bV hk),iV hk hl'];rfl)
  (by intro t _;dsimp only;rw [mw];rfl) 0 trivial
 exact bS e
theorem z7 (l:List Zb) (x:Zj) (hp:∀ m∈l,m.Prefix.size≤140737488355328) (hc:x.Code.size≤140737488355328):jR l x=some (mn l x):=by
 obtain ⟨e,he,he2⟩:=yH x hc
 unfold jR mn
 have hie:vO x=e:=by unfold vO;rw [he];rfl
 rw [bS (xe l hp),he2,hie]
 rcases Decidable.em (¬ mi l=0) with h1 | h1
 ·rw [if_pos h1,show (mi l != 0)=true by simp [h1]];rfl
 have h1:=Decidable.not_not.1 h1
 obtain ⟨hl,hm⟩:=yM h1
 rw [if_neg (by simp [h1]),show (mi l != 0)=false by simp [h1],eu,dn]
 rcases Decidable.em (¬ e=0) with h2 | h2
 ·rw [if_pos h2,show (e != 0)=true by simp [h2]];rfl
 have h2:=Decidable.not_not.1 h2
 subst h2
 have hit:=itOK he
 obtain ⟨s,a0,a1,b0,b1⟩:=xg hit
 have hit':=hit
 obtain ⟨q0,q1,v0,v1,g0,g1⟩:=hit'
 rw [if_neg (by simp),bne_self_eq_false,eu,cj (r:=x.Quantity - x.Granted) (by omega) (by omega)]
 have e1:(cond (decide (0<x.Quantity)) (Option.bind (js x.Value [x.Granted,x.Quantity - x.Granted]) (fun x14=>some x14.1)) (some [0,x.Value]))=some [(eV x).1,(eV x).2]:=by
  unfold eV
  by_cases hq:0<x.Quantity
  ·rw [det hq,if_pos hq,dG,bS (BZ ⟨v0,v1,g0,by omega,by omega,by omega,by omega⟩)]
  rw [cD hq,if_neg hq];rfl
 rw [bS e1,bS (zY hl hm 1 x.Code x.Origin x.Company x.Day),show mj l (cK 1 x.Code x.Origin x.Company x.Day)=oK l x 1 from rfl]
 cases hok:oK l x 1 with
 | none=>rw [if_pos rfl];rfl
 | some m1 =>
 rw [if_neg (by simp)]
 dsimp only
 rw [Bool.not_true,eu]
 have all:=rel_all hl hm hit hok
 have ho:=D7 hl hm x
 have hr1:(ej (oK l x) x x.Granted (eV x).1 (x.Granted == 0) false (false,[])).2.length≤1:=sb _ _ _ _ _ _ _
 have hr2:(ej (oK l x) x (x.Quantity - x.Granted) (eV x).2 (((x.Quantity - x.Granted) == 0)&&(decide (0<x.Quantity))) true (ej (oK l x) x x.Granted (eV x).1 (x.Granted == 0) false (false,[]))).2.length≤2:=Nat.le_trans (sb _ _ _ _ _ _ _) (by omega)
 refine (cB (N:=1267650600228229401496703205375) ((ej (oK l x) x x.Granted (eV x).1 (x.Granted == 0) false (false,[])).1,1,(ej (oK l x) x x.Granted (eV x).1 (x.Granted == 0) false (false,[])).2) ?_).trans ?_
 ·dsimp only
  rw [show decide ((0:Int)<2)=true from rfl,dG,bS ix0,show (((0:Int) == 0)||(decide (0<x.Quantity)))=true from rfl,Bool.and_true]
  unfold ej
  cases (x.Granted == 0)
  ·rw [eu,vP hl hm x (gr:=[x.Granted,x.Quantity - x.Granted]) (vs:=[(eV x).1,(eV x).2]) (i:=0) ix0 ix0 a0 a1 g0 (by omega)]
   rfl
  rfl
 generalize hr1e:ej (oK l x) x x.Granted (eV x).1 (x.Granted == 0) false (false,[])=r1 at *
 refine (cB (N:=1267650600228229401496703205374) ((ej (oK l x) x (x.Quantity - x.Granted) (eV x).2 (((x.Quantity - x.Granted) == 0)&&(decide (0<x.Quantity))) true r1).1,2,(ej (oK l x) x (x.Quantity - x.Granted) (eV x).2 (((x.Quantity - x.Granted) == 0)&&(decide (0<x.Quantity))) true r1).2) ?_).trans ?_
 ·dsimp only
  rw [show decide ((1:Int)<2)=true from rfl,dG,bS ix1,show (((1:Int) == 0)||(decide (0<x.Quantity)))=decide (0<x.Quantity) from rfl]
  unfold ej
  cases (((x.Quantity - x.Granted) == 0)&&(decide (0<x.Quantity)))
  ·rw [eu,vP hl hm x (gr:=[x.Granted,x.Quantity - x.Granted]) (vs:=[(eV x).1,(eV x).2]) (i:=1) ix1 ix1 b0 b1 (show 0≤x.Quantity - x.Granted by omega) (by omega)]
   have hap:∀ y:Zd,app 40 r1.2 [y]=some (r1.2++[y]):=by intro y;unfold app;rw [if_pos (by simp;omega)]
   rw [bS (hap _)];rfl
  rfl
 refine (dA (N:=1267650600228229401496703205373) (ej (oK l x) x (x.Quantity - x.Granted) (eV x).2 (((x.Quantity - x.Granted) == 0)&&(decide (0<x.Quantity))) true r1) rfl).trans ?_
 have hall:uE l x=fz (oK l x) 6 x.Quantity x.Value (fz (oK l x) 5 x.Quantity x.Value (ej (oK l x) x (x.Quantity - x.Granted) (eV x).2 (((x.Quantity - x.Granted) == 0)&&(decide (0<x.Quantity))) true r1)):=by
  unfold uE;rw [hr1e]
 generalize ej (oK l x) x (x.Quantity - x.Granted) (eV x).2 (((x.Quantity - x.Granted) == 0)&&(decide (0<x.Quantity))) true r1=r2 at *
 have more:∀ (k:Int) (_:k=5∨k=6) (r:Bool×List Zd) (_:r.2.length≤10),(Option.bind (Option.bind (iY l k x.Code x.Origin x.Company x.Day) (fun x103=>cond x103.2 (Option.bind (eg x103.1.Duty x.Value x.Quantity) (fun x106=>Option.bind (app 40 r.2 [(⟨k,x103.1.ID,x.Quantity,x.Value,x106.1⟩:Zd)]) (fun l109=>some ((r.1||(x106.2 != 0)),l109)))) (some (r.1,r.2)))) (fun (v97,l101)=>some (Sum.inl (v97,(IntKind.i64.wrap (k+1)),l101))))=some (Sum.inl ((fz (oK l x) k x.Quantity x.Value r).1,k+1,(fz (oK l x) k x.Quantity x.Value r).2):(Bool×Int×List Zd)⊕(Bool×List Zd)):=by
  intro k hk r hr
  rw [bS (zY hl hm k x.Code x.Origin x.Company x.Day),show mj l (cK k x.Code x.Origin x.Company x.Day)=oK l x k from rfl,cj (by omega) (by omega)]
  unfold fz
  cases hokk:oK l x k with
  | none=>rfl
  | some m =>
   obtain ⟨mk,_⟩:=ho k m hokk
   obtain ⟨e0,e1,e2,_⟩:=nA m.Duty
   rw [mk.duty] at e1
   have hd:=e2 (Option.some.inj e1).symm
   have hap:∀ y:Zd,app 40 r.2 [y]=some (r.2++[y]):=by intro y;unfold app;rw [if_pos (by simp;omega)]
   dsimp only
   rw [dG,bS (yG hd v0 v1 q0 q1 mk.duty),bS (hap _)];rfl
 have hm5:(fz (oK l x) 5 x.Quantity x.Value r2).2.length≤3:=Nat.le_trans (yT _ _ _ _ _) (by omega)
 refine (cB (N:=1267650600228229401496703205375) ((fz (oK l x) 5 x.Quantity x.Value r2).1,6,(fz (oK l x) 5 x.Quantity x.Value r2).2) ?_).trans ?_
 ·exact more 5 (.inl rfl) r2 (by omega)
 generalize fz (oK l x) 5 x.Quantity x.Value r2=r3 at *
 refine (cB (N:=1267650600228229401496703205374) ((fz (oK l x) 6 x.Quantity x.Value r3).1,7,(fz (oK l x) 6 x.Quantity x.Value r3).2) ?_).trans ?_
 ·exact more 6 (.inr rfl) r3 (by omega)
 refine (dA (N:=1267650600228229401496703205373) (fz (oK l x) 6 x.Quantity x.Value r3) rfl).trans ?_
 rw [← hall]
 obtain ⟨al,ac⟩:=all
 refine (D9 (uE l x).2 (by omega) _).trans ?_
 rcases ac with ⟨st,k1,k2,k3,k4,k5⟩ | ⟨k1,k2⟩
 ·rw [k1,k2,k3]
  show cond (false||decide (1000000000000<st.2)) _ _=some (D5 st)
  unfold D5
  by_cases h:1000000000000<st.2
  ·rw [det h,if_pos h];rfl
  rw [cD h,if_neg h];rfl
 rw [k1,k2];rfl
theorem Ea {p:Ze} (hp:SOK p) {n:Nat} (hn:n=2∨n=4∨n=6∨n=8):∃ l q,gi p (n:Int)=some (strOfNums l,q)∧l.length=n∧Digs l∧SOK q:=by
 unfold gi
 obtain ⟨r,q,h1,h2,h3,h4⟩:=ei hp 2 (by omega) (by omega)
 rw [bS h1]
 simp only
 rw [cj (by omega) (by omega),wm (by omega)]
 obtain ⟨t,h5,h6⟩:=iK (body:=fun (l5,l8,v9)=>cond (decide (((l5.length:Nat):Int)<(n:Int))) (Option.bind (aG (⟨l8,v9⟩:Ze) 3) (fun x19=>Option.bind (app 1 l5 [48,(IntKind.u8.wrap (IntKind.i64.wrap (49+x19.1)))]) (fun l22=>some (.inl (l22,x19.2.L,x19.2.I))))) (some (.inr (l5,l8,v9))))
  (fun s:List Int×List Int×Int=>(∃ j,s.1.length=2*j)∧2≤s.1.length∧s.1.length≤n∧Digs s.1∧SOK ⟨s.2.1,s.2.2⟩) (fun s=>8 - s.1.length) (fun t:List Int×List Int×Int=>t.1.length=n∧Digs t.1∧SOK ⟨t.2.1,t.2.2⟩)
  (fun s hs=>by
   obtain ⟨l,l8,v9⟩:=s
   obtain ⟨⟨j,a0⟩,a1,a1',a2,a3⟩:=hs
   simp only at a0 a1 a1' a2 a3 ⊢
   by_cases hl:((l.length:Nat):Int)<(n:Int)
   ·left
    rw [det hl];simp only [dG]
    obtain ⟨r,q,b1,b2,b3,b4⟩:=ei a3 3 (by omega) (by omega)
    rw [bS b1];simp only
    rw [cj (by omega) (by omega),wm (by omega)]
    have e:app 1 l [48,49+r]=some (l++[48,49+r]):=by unfold app;rw [if_pos];simp;omega
    rw [bS e]
    refine ⟨_,rfl,⟨⟨j+1,by simp only [List.length_append,List.length_cons,List.length_nil];omega⟩,by simp only [List.length_append,List.length_cons,List.length_nil];omega,by simp only [List.length_append,List.length_cons,List.length_nil];omega,?_,b4⟩,by simp only [List.length_append,List.length_cons,List.length_nil];omega⟩
    intro x hx
    simp only [List.mem_append,List.mem_cons,List.not_mem_nil,or_false] at hx
    rcases hx with hx | rfl | rfl
    ·exact a2 x hx
    ·omega
    omega
   right
   rw [cD hl]
   exact ⟨_,rfl,by show l.length=n;omega,a2,a3⟩)
  FUEL ([57,52+r],q.L,q.I) ⟨⟨1,rfl⟩,by simp,by simp;omega,by intro x hx;simp only [List.mem_cons,List.not_mem_nil,or_false] at hx;omega,h4⟩ (ip (by simp))
 obtain ⟨l,l8,v9⟩:=t
 rw [bS h5]
 exact ⟨_,_,rfl,h6.1,h6.2.1,h6.2.2⟩
theorem xk {p:Ze} (hp:SOK p):∃ r q,da p=some (r,q)∧0≤r∧r≤1010000∧SOK q:=by
 unfold da
 obtain ⟨a,q,h1,h2,h3,h4⟩:=ei hp 4 (by omega) (by omega)
 rw [bS h1]
 dsimp only
 cases decide (0<a)
 ·obtain ⟨b,q2,g1,g2,g3,g4⟩:=ei h4 1000001 (by omega) (by omega)
  rw [eu,bS g1]
  exact ⟨_,_,rfl,g2,by omega,g4⟩
 obtain ⟨b,q2,g1,g2,g3,g4⟩:=ei h4 101 (by omega) (by omega)
 rw [dG,bS g1]
 dsimp only
 rw [cj (by omega) (by omega)]
 exact ⟨_,_,rfl,by omega,by omega,g4⟩
theorem xl {p:Ze} (hp:SOK p):∃ d q,dE p=some (d,q)∧SOK q:=by
 unfold dE
 obtain ⟨a,q1,h1,h2,h3,h4⟩:=ei hp 3 (by omega) (by omega)
 rw [bS h1]
 have k1:∃ l v w,(cond (decide (0<(a,q1).1)) (Option.bind (da (a,q1).2) (fun x9=>some (x9.2.L,x9.2.I,(IntKind.i64.wrap (Int.tdiv x9.1 4))))) (some ((a,q1).2.L,(a,q1).2.I,0)))=some (l,v,w)∧SOK ⟨l,v⟩:=by
  cases decide (0<(a,q1).1)
  ·exact ⟨_,_,_,rfl,h4⟩
  obtain ⟨r,q,g1,_,_,g2⟩:=xk h4
  dsimp only
  rw [dG,bS g1];exact ⟨_,_,_,rfl,g2⟩
 obtain ⟨l,v,w,k1,k2⟩:=k1
 rw [bS k1]
 dsimp only
 obtain ⟨a2,q2,h1,h2,h3,h4⟩:=ei k2 3 (by omega) (by omega)
 rw [bS h1]
 have k3:∃ (l:List Int) (v w z:Int),(cond ((a2,q2).1 == 1) (Option.bind (aG (a2,q2).2 500) (fun x17=>Option.bind (aG x17.2 5) (fun x20=>Option.bind (idx [1,100,1000,1000000,7] x20.1) (fun m21=>some (x20.2.L,x20.2.I,(IntKind.i64.wrap (1+x17.1)),m21))))) (some ((a2,q2).2.L,(a2,q2).2.I,0,0)))=some (l,v,w,z)∧SOK ⟨l,v⟩:=by
  cases ((a2,q2).1 == 1)
  ·exact ⟨_,_,_,_,rfl,h4⟩
  obtain ⟨r,q,g1,g2,g3,g4⟩:=ei h4 500 (by omega) (by omega)
  obtain ⟨r',q',f1,f2,f3,f4⟩:=ei g4 5 (by omega) (by omega)
  dsimp only
  rw [dG,bS g1,bS f1]
  dsimp only
  rw [bS (xf (l:=[1,100,1000,1000000,7]) f2 (by simp;omega))]
  exact ⟨_,_,_,_,rfl,f4⟩
 obtain ⟨l,v,w,z,k3,k4⟩:=k3
 rw [bS k3]
 dsimp only
 obtain ⟨a3,q3,h1,h2,h3,h4⟩:=ei k4 4 (by omega) (by omega)
 rw [bS h1]
 have k5:∃ l v w z,(cond ((a3,q3).1 == 1) (Option.bind (da (a3,q3).2) (fun x30=>some (x30.2.L,x30.2.I,true,x30.1))) (some ((a3,q3).2.L,(a3,q3).2.I,false,0)))=some (l,v,w,z)∧SOK ⟨l,v⟩:=by
  cases ((a3,q3).1 == 1)
  ·exact ⟨_,_,_,_,rfl,h4⟩
  obtain ⟨r,q,g1,_,_,g2⟩:=xk h4
  dsimp only
  rw [dG,bS g1];exact ⟨_,_,_,_,rfl,g2⟩
 obtain ⟨l,v,w5,z5,k5,k6⟩:=k5
 rw [bS k5]
 dsimp only
 obtain ⟨a4,q4,h1,h2,h3,h4⟩:=ei k6 4 (by omega) (by omega)
 rw [bS h1]
 have k7:∃ l v w z,(cond ((a4,q4).1 == 1) (Option.bind (da (a4,q4).2) (fun x38=>cond w5 (some (x38.2.L,x38.2.I,true,(ex (IntKind.i64.wrap (Int.tdiv x38.1 8)) z5))) (some (x38.2.L,x38.2.I,true,(IntKind.i64.wrap (Int.tdiv x38.1 8)))))) (some ((a4,q4).2.L,(a4,q4).2.I,false,0)))=some (l,v,w,z)∧SOK ⟨l,v⟩:=by
  cases ((a4,q4).1 == 1)
  ·exact ⟨_,_,_,_,rfl,h4⟩
  obtain ⟨r,q,g1,_,_,g2⟩:=xk h4
  dsimp only
  rw [dG,bS g1]
  cases w5
  ·exact ⟨_,_,_,_,rfl,g2⟩
  exact ⟨_,_,_,_,rfl,g2⟩
 obtain ⟨l,v,w,z,k7,k8⟩:=k7
 rw [bS k7]
 exact ⟨_,_,rfl,k8⟩
theorem Eb {S T β:Type} {body:S→Option (S⊕T)} {k:T→Option β} {s:S} {Z:Option β→Prop} (P:S→Prop) (μ:S→Nat) (Q:T→Prop) (hs:P s) (hμ:μ s<FUEL) (hk:∀ t,Q t→Z (k t)) (step:∀ s,P s→(∃ s',body s=some (.inl s')∧P s'∧μ s'<μ s)∨∃ t,body s=some (.inr t)∧Q t):Z ((bu body FUEL s).bind k):=by
 obtain ⟨t,e,h⟩:=iK P μ Q step FUEL s hs hμ
 rw [bS e];exact hk t h
theorem Ca (b:Int):∃ t,bu (S:=Int×(List ByteArray)) (T:=((List ByteArray))) (fun (v60,l62)=>cond ((decide (v60<3))&&(decide (7<b))) (Option.bind (Option.bind (oO v60) (fun u80=>cond ((ez .i64 (cV .i64 b v60) 1) == 1) (Option.bind (dJ) (fun x82=>Option.bind (idx x82 v60) (fun m83=>Option.bind (app 16 l62 [m83]) (fun l86=>some l86)))) (some l62))) (fun l78=>some (.inl ((IntKind.i64.wrap (v60+1)),l78)))) (some (.inr l62))) FUEL (0,([]:List ByteArray))=some t∧t.length≤3:=by
 refine iK (fun s:Int×List ByteArray=>0≤s.1∧s.1≤3∧(s.2.length:Int)≤s.1) (fun s=>(3 - s.1).toNat) (fun t:List ByteArray=>t.length≤3) ?_ FUEL (0,[]) ⟨by simp,by simp,by simp⟩ (ip (by simp))
 rintro ⟨k,ls⟩ ⟨h1,h2,h3⟩
 dsimp only at h1 h2 h3 ⊢
 by_cases hk:k<3
 ·cases decide (7<b)
  ·right;rw [Bool.and_false];exact ⟨_,rfl,by omega⟩
  left
  rw [det hk,Bool.and_true,dG,bS (zQ h1),cj (by omega) (by omega)]
  cases ((ez .i64 (cV .i64 b k) 1) == 1)
  ·exact ⟨_,rfl,⟨by dsimp only;omega,by dsimp only;omega,by dsimp only;omega⟩,by dsimp only;omega⟩
  obtain ⟨s,hs,_⟩:=zT (k:=k) h1 (by omega) (l:=[(⟨#[65,65]⟩:ByteArray),(⟨#[66,66]⟩:ByteArray),(⟨#[67,67]⟩:ByteArray),(⟨#[68,68]⟩:ByteArray),(⟨#[69,69]⟩:ByteArray),(⟨#[70,70]⟩:ByteArray)]) rfl
  have ha:app 16 ls [s]=some (ls++[s]):=by unfold app;rw [if_pos (by simp;omega)]
  rw [dG,bS (show dJ=some [(⟨#[65,65]⟩:ByteArray),(⟨#[66,66]⟩:ByteArray),(⟨#[67,67]⟩:ByteArray),(⟨#[68,68]⟩:ByteArray),(⟨#[69,69]⟩:ByteArray),(⟨#[70,70]⟩:ByteArray)] from rfl),bS hs,bS ha]
  exact ⟨_,rfl,⟨by dsimp only;omega,by dsimp only;omega,by simp;omega⟩,by dsimp only;omega⟩
 right
 rw [cD hk];exact ⟨_,rfl,by omega⟩
theorem z8 (l:List Int):(strOfNums l).size=l.length:=by simp [strOfNums,ByteArray.size]
def MsB (n:Nat) (ms:List Zb):Prop:=ms.length≤n∧∀ m∈ms,m.Prefix.size≤8
theorem yU (p:List Int):∃ ms,fU p=some ms∧MsB 15 ms:=by
 unfold fU
 obtain ⟨x,h1,h2⟩:=Dy p 300 (by omega) (by omega)
 rw [bS h1]
 have hs:SOK ⟨x,0⟩:=⟨by simp,by simp,by simp only;omega⟩
 obtain ⟨a,q,h3,h4,h5,h6⟩:=ei hs 8 (by omega) (by omega)
 rw [bS h3]
 have k1:∃ ms l v,(cond (decide (0<(a,q).1)) (Option.bind (dE (a,q).2) (fun x12=>Option.bind (dE x12.2) (fun x13=>Option.bind (app 144 ([]:List Zb) [(⟨1,1,(⟨#[57,52]⟩:ByteArray),[],0,0,36525,(-1),x12.1⟩:Zb),(⟨2,1,(⟨#[57,53]⟩:ByteArray),[],0,0,25,(-1),x13.1⟩:Zb)]) (fun l17=>some (l17,x13.2.L,x13.2.I))))) (some (([]:(List Zb)),(a,q).2.L,(a,q).2.I)))=some (ms,l,v)∧SOK ⟨l,v⟩∧MsB 2 ms:=by
  cases decide (0<(a,q).1)
  ·exact ⟨_,_,_,rfl,h6,by simp,by intro m h;cases h⟩
  obtain ⟨d,q1,g1,g2⟩:=xl h6
  obtain ⟨d',q2,f1,f2⟩:=xl g2
  dsimp only
  rw [dG,bS g1,bS f1]
  refine ⟨_,_,_,rfl,f2,by simp,?_⟩
  intro m hm
  simp only [List.nil_append,List.mem_cons,List.not_mem_nil,or_false] at hm
  rcases hm with rfl | rfl <;> (show (2:Nat)≤8;omega)
 obtain ⟨ms,l,v,k1,k2,k3⟩:=k1
 rw [bS k1]
 dsimp only
 obtain ⟨n,q2,h1,h2,h3,h4⟩:=ei k2 13 (by omega) (by omega)
 rw [bS h1]
 refine Eb (Z:=fun o=>∃ ms,o=some ms∧MsB 15 ms) (fun s:List Zb×Int×List Int×Int=>0≤s.2.1∧s.2.1≤n∧SOK ⟨s.2.2.1,s.2.2.2⟩∧MsB (2+s.2.1.toNat) s.1) (fun s=>(13 - s.2.1).toNat) (MsB 15) ⟨by simp,by simp;omega,h4,by simpa using k3⟩ (ip (by simp)) (fun t ht=>⟨t,rfl,ht⟩) ?_
 rintro ⟨ms,i,ll,vv⟩ ⟨a1,a2,a3,a4⟩
 dsimp only at a1 a2 a3 a4 ⊢
 by_cases hi:i<n
 ·left
  rw [det hi,dG]
  obtain ⟨b1,s1,c1,d1,e1,f1⟩:=ei a3 6 (by omega) (by omega)
  rw [bS c1];dsimp only
  obtain ⟨b2,s2,c2,d2,e2,f2⟩:=ei f1 4 (by omega) (by omega)
  rw [bS c2];dsimp only
  rw [cj (r:=2*b2) (by omega) (by omega),cj (r:=2+2*b2) (by omega) (by omega)]
  obtain ⟨cl,s3,c3,d3,e3,f3⟩:=Ea f2 (n:=(2+2*b2).toNat) (by omega)
  rw [show (((2+2*b2).toNat:Nat):Int)=2+2*b2 by omega] at c3
  rw [bS c3];dsimp only
  obtain ⟨b4,s4,c4,d4,e4,f4⟩:=ei f3 20 (by omega) (by omega)
  rw [bS c4];dsimp only
  obtain ⟨b5,s5,c5,f5⟩:=xl f4
  rw [bS c5];dsimp only
  obtain ⟨b6,s6,c6,d6,e6,f6⟩:=ei f5 30 (by omega) (by omega)
  rw [bS c6];dsimp only
  obtain ⟨b7,s7,c7,d7,e7,f7⟩:=ei f6 3 (by omega) (by omega)
  rw [bS c7];dsimp only
  rw [cj (r:=b4+1) (by omega) (by omega)]
  have k8:∃ l v w,(cond (b7 == 1) (Option.bind (aG s7 (b4+1)) (fun x50=>some (x50.2.L,x50.2.I,x50.1))) (some (s7.L,s7.I,(-1))))=some (l,v,w)∧SOK ⟨l,v⟩:=by
   cases (b7 == 1)
   ·exact ⟨_,_,_,rfl,f7⟩
   obtain ⟨r,q,g1,_,_,g2⟩:=ei f7 (b4+1) (by omega) (by omega)
   rw [dG,bS g1];exact ⟨_,_,_,rfl,g2⟩
  obtain ⟨l8,v8,w8,k8,f8⟩:=k8
  rw [bS k8];dsimp only
  obtain ⟨b9,s9,c9,d9,e9,f9⟩:=ei f8 3 (by omega) (by omega)
  rw [bS c9];dsimp only
  have k10:∃ l v w,(cond (b9 == 1) (Option.bind (aG s9 2) (fun x58=>some (x58.2.L,x58.2.I,(IntKind.i64.wrap (1+x58.1))))) (some (s9.L,s9.I,0)))=some (l,v,w)∧SOK ⟨l,v⟩:=by
   cases (b9 == 1)
   ·exact ⟨_,_,_,rfl,f9⟩
   obtain ⟨r,q,g1,_,_,g2⟩:=ei f9 2 (by omega) (by omega)
   rw [dG,bS g1];exact ⟨_,_,_,rfl,g2⟩
  obtain ⟨l10,v10,w10,k10,f10⟩:=k10
  rw [bS k10];dsimp only
  obtain ⟨b11,s11,c11,d11,e11,f11⟩:=ei f10 16 (by omega) (by omega)
  rw [bS c11];dsimp only
  obtain ⟨t,c12,d12⟩:=Ca b11
  rw [bS c12]
  have hap:∀ m:Zb,app 144 ms [m]=some (ms++[m]):=by
   intro m;have:=a4.1;unfold app;rw [if_pos (by simp;omega)]
  rw [bS (hap _)]
  rw [cj (r:=i+1) (by omega) (by omega)]
  refine ⟨_,rfl,⟨by dsimp only;omega,by dsimp only;omega,f11,?_⟩,by dsimp only;omega⟩
  refine ⟨by have:=a4.1;simp;omega,?_⟩
  intro m hm
  simp only [List.mem_append,List.mem_cons,List.not_mem_nil,or_false] at hm
  rcases hm with hm | rfl
  ·exact a4.2 m hm
  show (strOfNums cl).size≤8;rw [z8];omega
 right
 rw [cD hi]
 exact ⟨_,rfl,by have:=a4.1;omega,a4.2⟩
theorem Aa (l:List Zb) (x:Zj) (hx:∃ e,cZ x=some e):iN l x=some ((mn l x).1.Total,(mn l x).2):=by
 unfold iN;rw [bS (yP l x hx)]
theorem Ab (s:ByteArray):eD s=some (lW s):=by
 unfold eD
 cases hs:((s.size:Int) == 2) with
 | false=>rw [xa hs];rfl
 | true =>
  obtain ⟨a,b,hd⟩:=uz hs
  have e0:idx s.data.toList 0=some a:=by rw [hd];rfl
  have e1:idx s.data.toList 1=some b:=by rw [hd];rfl
  rw [e0,e1]
  have hc:lW s=(decide (65≤(a.toNat:Int))&&decide ((a.toNat:Int)≤90)&&decide (65≤(b.toNat:Int))&&decide ((b.toNat:Int)≤90)):=by unfold lW;rw [hd]
  rw [hc]
  simp only [dH,dn,Bool.true_and]
  cases h1:decide (65≤(a.toNat:Int)) <;> cases h2:decide ((a.toNat:Int)≤90) <;> cases h3:decide (65≤(b.toNat:Int)) <;> simp [dH,kJ,h1,h2,h3]
def mq (x:Za) (v3 v4:Int) (v5:Bool):Bool:=cond ((v5 && !lW x.Country)||(!v5 && !decide (x.Country=(⟨#[]⟩:ByteArray)))) false (decide (0≤x.Amount)&&decide (x.Amount≤v3)&&decide (0≤x.Company)&&decide (x.Company≤v4))
def pm (x:Za):Bool:=cond (x.Kind == 1) (mq x 1000000000000 999 true) (cond (x.Kind == 2) (mq x 0 0 false) (cond (x.Kind == 3) (mq x 1000000000000 0 false) (cond (x.Kind == 4) (mq x 0 0 true) (cond (x.Kind == 5) (mq x 1000000000 0 false) false))))
def jV (x:Za):Bool:=cond (decide (x.From<0)||decide (999<x.From)||decide (x.Number<1)||decide (1000000000<x.Number)||decide (x.Day<0)||decide (36524<x.Day)) false (pm x)
theorem fact_eq (x:Za):fH x=some (jV x):=by
 have hT:∀ (v3 v4:Int) (v5:Bool),(Option.bind (gd v5 (eD x.Country)) (fun x12=>cond ((v5&&(!x12))||((!v5)&&(!decide (x.Country=(⟨#[]⟩:ByteArray))))) (some false) (some ((((decide (0≤x.Amount))&&(decide (x.Amount≤v3)))&&(decide (0≤x.Company)))&&(decide (x.Company≤v4))))))=some (mq x v3 v4 v5):=fun v3 v4 v5=>by
  rw [Ab]
  unfold mq
  cases v5
  ·rw [kJ]
   simp only [dn,Bool.false_and,Bool.not_false,Bool.true_and,Bool.false_or]
   cases (!decide (x.Country=(⟨#[]⟩:ByteArray))) <;> rfl
  rw [dH]
  simp only [dn,Bool.true_and,Bool.not_true,Bool.false_and,Bool.or_false]
  cases (!lW x.Country) <;> rfl
 unfold fH jV pm
 cases (decide (x.From<0)||decide (999<x.From)||decide (x.Number<1)||decide (1000000000<x.Number)||decide (x.Day<0)||decide (36524<x.Day))
 ·simp only [eu]
  cases x.Kind == 1
  ·cases x.Kind == 2
   ·cases x.Kind == 3
    ·cases x.Kind == 4
     ·cases x.Kind == 5
      ·rfl
      simp only [eu,dG,dn];exact hT _ _ _
     simp only [eu,dG,dn];exact hT _ _ _
    simp only [eu,dG,dn];exact hT _ _ _
   simp only [eu,dG,dn];exact hT _ _ _
  simp only [dG,dn];exact hT _ _ _
 rfl
theorem vQ {x:Za} (h:jV x=true):0≤x.Day∧x.Day≤36524:=by
 unfold jV at h
 cases hc:(decide (x.From<0)||decide (999<x.From)||decide (x.Number<1)||decide (1000000000<x.Number)||decide (x.Day<0)||decide (36524<x.Day)) with
 | true=>rw [hc] at h;cases h
 | false=>simp only [Bool.or_eq_false_iff,decide_eq_false_iff_not] at hc;omega
def uF (l:List UInt8):Bool:=l.all fun c => !(decide ((c.toNat:Int)<48)||decide (57<(c.toNat:Int)))
def qP (s:Int) (c:ByteArray) (u:Int):Bool:=cond (decide (s<1)||decide (1000000<s)||decide (u<1)||decide (1000000000<u)||((c.size:Int) != 8)) false (uF c.data.toList)
theorem head_eq (s:Int) (c:ByteArray) (u:Int):fG s c u=some (qP s c u):=by
 unfold fG qP
 cases hc:(decide (s<1)||decide (1000000<s)||decide (u<1)||decide (1000000000<u)||((c.size:Int) != 8)) with
 | true=>rfl
 | false =>
  simp only [eu]
  have hs:c.data.toList.length=8:=by
   simp only [Bool.or_eq_false_iff,bne_eq_false_iff_eq] at hc
   have:=hc.2;rw [Array.length_toList];have e:c.size=c.data.size:=rfl;omega
  have e:(c.size:Int)=(c.data.toList.length:Int):=by rw [Array.length_toList];rfl
  rw [e]
  refine (mN (l:=c.data.toList) (by omega) (fun _ b=>cond (!(decide ((b.toNat:Int)<48)||decide (57<(b.toNat:Int)))) none (some (.inr false))) (.inl ()) (fun k hk=>?_) (by rw [mw];rfl)).trans ?_
  ·simp only [uS hk,dG,bV hk,dn,iV hk (show c.data.toList.length≤4611686018427387904 by omega)]
   cases decide (((c.data.toList[k]).toNat:Int)<48)
   ·simp only [Bool.not_false,dH,dn,Bool.false_or]
    cases decide (57<((c.data.toList[k]).toNat:Int)) <;> rfl
   simp only [Bool.not_true,kJ,dn,Bool.true_or];rfl
  rw [mO]
  unfold uF
  cases c.data.toList.all fun b => !(decide ((b.toNat:Int)<48)||decide (57<(b.toNat:Int))) <;> rfl
def uG {α:Type} (p:α→α→Bool):List α→Bool
 | []=>true
 | [_]=>true
 | x::y::l=>p x y&&uG p (y::l)
theorem yV {α T:Type} {l:List α} (hl:l.length≤4611686018427387904) {body:Int→Option (Int⊕T)} (p:α→α→Bool) (t e:T)
    (hstep:∀ (k:Nat) (hk:k+1<l.length),body ((k:Int)+1)=some (cond (p l[k] l[k+1]) (.inl ((k:Int)+2)) (.inr t))) (hend:∀ k:Int,(l.length:Int)≤k→1≤k→k≤(l.length:Int)+1→body k=some (.inr e)):bu body FUEL 1=some (cond (uG p l) e t):=by
  have main:∀ (m k N:Nat),m+k+1=l.length→m<N→bu body N ((k:Int)+1)=some (cond (uG p (l.drop k)) e t):=by
    intro m
    induction m with
    | zero =>
      intro k N hk hN
      obtain ⟨N,rfl⟩:∃ M,N=M+1:=⟨N - 1,by omega⟩
      have hd:l.drop k=[l[k]'(by omega)]:=by rw [List.drop_eq_getElem_cons (by omega),List.drop_of_length_le (by omega)]
      rw [gz,hend _ (by omega) (by omega) (by omega),hd];rfl
    | succ m ih =>
      intro k N hk hN
      obtain ⟨N,rfl⟩:∃ M,N=M+1:=⟨N - 1,by omega⟩
      have hd:l.drop k=l[k]'(by omega)::l[k+1]'(by omega)::l.drop (k+2):=by rw [List.drop_eq_getElem_cons (by omega),List.drop_eq_getElem_cons (by omega)]
      have hd2:l.drop (k+1)=l[k+1]'(by omega)::l.drop (k+2):=by rw [List.drop_eq_getElem_cons (by omega)]
      rw [gz,hstep k (by omega),hd,uG,← hd2]
      cases p (l[k]'(by omega)) (l[k+1]'(by omega))
      · rfl
      simp only [dG,Bool.true_and]
      have:=ih (k+1) N (by omega) (by omega)
      rw [show ((k+1:Nat):Int)+1=(k:Int)+2 by omega] at this
      exact this
  cases l with
  | nil =>
    obtain ⟨N,hN⟩:∃ N,FUEL=N+1:=⟨FUEL - 1,by unfold FUEL;omega⟩
    rw [hN,gz,hend 1 (by simp) (by omega) (by simp)];rfl
  | cons x xs=>exact main xs.length 0 FUEL (by simp) (ip (by simp at hl;omega))
def Ec (l:List Za):Bool:=uG fZ l
theorem oL (x y:Za):fZ x y=true↔x.From<y.From∨(x.From=y.From∧x.Number<y.Number):=by simp [fZ]
theorem yW (x y z:Za):fZ x y=true→fZ y z=true→fZ x z=true:=by simp only [oL];omega
theorem Ac {α:Type} {p:α→α→Bool} (tr:∀ x y z,p x y=true→p y z=true→p x z=true):∀ {l:List α},uG p l=true↔l.Pairwise (fun x y=>p x y=true)
 | []=>by simp [uG]
 | [x]=>by simp [uG]
 | x::y::l=>by
  rw [uG,Bool.and_eq_true,Ac tr,List.pairwise_cons (a:=x)]
  constructor
  ·rintro ⟨h1,h2⟩
   refine ⟨fun z hz=>?_,h2⟩
   rcases List.mem_cons.1 hz with rfl | hz
   ·exact h1
   exact tr _ _ _ h1 ((List.pairwise_cons.1 h2).1 z hz)
  rintro ⟨h1,h2⟩;exact ⟨h1 y (by simp),h2⟩
def uH (f:Zk):Int:=cond (!qP f.Source f.Code f.Units) 2 (cond (decide (200<(f.Facts.length:Int))) 8 (cond (f.Facts.all jV) (cond (Ec f.Facts) 0 9) 2))
theorem sd (f:Zk):gj f=some (uH f):=by
 unfold gj uH
 rw [head_eq,dn]
 cases qP f.Source f.Code f.Units with
 | false=>rfl
 | true =>
  simp only [Bool.not_true,eu]
  cases hl:decide (200<(f.Facts.length:Int)) with
  | true=>rfl
  | false =>
   have hl:=of_decide_eq_false hl
   simp only [eu]
   refine (mN (l:=f.Facts) (by omega) (fun _ x=>cond (jV x) none (some (.inr (2:Int)))) (.inl ()) (fun k hk=>?_) (by rw [mw];rfl)).trans ?_
   ·simp only [uS hk,dG,bV hk,dn,iV hk (show f.Facts.length≤4611686018427387904 by omega),fact_eq]
    cases jV f.Facts[k] <;> rfl
   rw [mO]
   cases hv:f.Facts.all jV with
   | false=>rfl
   | true =>
    simp only [dG,Option.getD_none]
    rw [yV (l:=f.Facts) (by omega) fZ (.inr (9:Int)) (.inl ()) (fun k hk=>?_) (fun k h1 h2 h3=>?_)]
    ·unfold Ec;cases uG fZ f.Facts <;> rfl
    ·rw [det (by omega:(k:Int)+1<(f.Facts.length:Int)),dG,cj (r:=(k:Int)+1 - 1) (by omega) (by omega),show (k:Int)+1 - 1=(k:Int) by omega,show (k:Int)+1=((k+1:Nat):Int) by omega,bV (show k<f.Facts.length by omega),bV hk]
     simp only [dn,yv]
     rw [cj (by omega) (by omega)]
     have e:decide (0≤uo f.Facts[k] f.Facts[k+1]) = !fZ f.Facts[k] f.Facts[k+1]:=by rw [← vD,← decide_not];exact decide_eq_decide.2 (by omega)
     rw [e]
     cases fZ f.Facts[k] f.Facts[k+1]
     ·rfl
     show some (Sum.inl _)=some (Sum.inl _);congr 2 <;> omega
    rw [cD (by omega)];rfl
structure FileOk (f:Zk):Prop where
 head:qP f.Source f.Code f.Units=true
 len:f.Facts.length≤200
 val:∀ x∈f.Facts,jV x=true
 asc:f.Facts.Pairwise (fun x y=>fZ x y=true)
theorem qQ (f:Zk):uH f=0↔FileOk f:=by
 unfold uH
 cases h1:qP f.Source f.Code f.Units with
 | false=>exact ⟨fun h=>by simp at h,fun h=>by rw [h.head] at h1;cases h1⟩
 | true =>
  cases h2:decide (200<(f.Facts.length:Int)) with
  | true=>exact ⟨fun h=>by simp at h,fun h=>by have:=h.len;have:=of_decide_eq_true h2;omega⟩
  | false =>
   have h2:=of_decide_eq_false h2
   cases h3:f.Facts.all jV with
   | false=>exact ⟨fun h=>by simp at h,fun h=>by rw [List.all_eq_true.2 h.val] at h3;cases h3⟩
   | true =>
    cases h4:Ec f.Facts with
    | false=>exact ⟨fun h=>by simp at h,fun h=>by unfold Ec at h4;rw [(Ac yW).2 h.asc] at h4;cases h4⟩
    | true=>exact ⟨fun _=>⟨h1,by omega,List.all_eq_true.1 h3,(Ac yW).1 h4⟩,fun _=>rfl⟩
structure Low (l:List Za) (x:Za) (j:Nat):Prop where
 le:j≤l.length
 lo:∀ (k:Nat) (y:Za),l[k]?=some y→k<j→fZ y x=true
 hi:∀ (k:Nat) (y:Za),l[k]?=some y→j≤k→fZ y x=false
def zFile:Zk:=⟨0,ByteArray.empty,0,[]⟩
structure Agr (L:List Za):Prop where
 len:L.length≤100
 val:∀ x∈L,jV x=true
 key:∀ x∈L,∀ y∈L,uo x y=0→x=y
theorem mY {X S T:Type} (f:S→X→S):∀ (xs:List X) (s:S),lR (T:=T) (fun s x=>some (.inl (f s x))) s xs=some (.inl (xs.foldl f s))
 | [],_=>rfl
 | x::xs,s=>by rw [lR];exact mY f xs (f s x)
theorem yX {T:Type}:∀ (xs l:List Za),(l.length+xs.length)≤100000→lR (T:=T) (fun l3 x8=>Option.bind (app 64 l3 [x8]) (fun l13=>some (.inl l13))) l xs=some (.inl (l++xs))
 | [],l,_=>by rw [lR,List.append_nil]
 | x::xs,l,h=>by
  simp only [List.length_cons] at h
  rw [lR,nY (by simp;omega) (by simp;omega),dn]
  dsimp only
  rw [yX xs (l++[x]) (by simp;omega)];simp
theorem Ad:∀ {l:List Za},l.Pairwise (fun a b=>fZ a b=true)→EB l=true
 | [],_=>rfl
 | x::l,h=>by
  obtain ⟨h1,h2⟩:=List.pairwise_cons.1 h
  rw [EB,Bool.and_eq_true,List.all_eq_true]
  refine ⟨fun y hy=>?_,Ad h2⟩
  have:=h1 y hy
  rw [oL] at this
  rw [Bool.or_eq_true,ku,ku];omega
theorem Cb {l:List Za} (h:l.Pairwise (fun a b=>fZ a b=true)) (hl:l.length≤1000):cS l=some (fY dz l):=by
 unfold cS dT cF bK
 rw [yX (T:=Empty) l [] (by simp;omega)]
 simp only [dn,List.nil_append,Ad h,dG]
theorem rM {l:List Za} (k d:Int) (hl:l.length≤1000):fa l k d=some (mX l k d):=by
 unfold fa
 rw [show rF l=true from Nat.ble_eq_true_of_le (by omega)];rfl
theorem Cc {l:List Za} (hl:l.length≤1000):co l=some l:=by
 unfold co
 rw [show rF l=true from Nat.ble_eq_true_of_le (by omega)];rfl
def nF (day:Int):Int:=match dO day 36 with | some r=>cond (r.2 != 0) 36524 r.1 | none=>0
theorem last_eq {day:Int} (h0:0≤day) (h1:day≤36524):(∃ r,dO day 36=some r∧nF day=cond (r.2 != 0) 36524 r.1)∧30≤nF day:=by
 obtain ⟨_,_,n,m,d,_,hd⟩:=of_Y h0 h1
 have e:=Dz h0 h1 hd
 have g:=addS_ge (n:=n) hd.m11 hd.d0
 have e2:nF day=cond ((rz n m d).2 != 0) 36524 (rz n m d).1:=by unfold nF;rw [e]
 refine ⟨⟨_,e,e2⟩,?_⟩
 rw [e2]
 cases hc:((rz n m d).2 != 0) with
 | true=>simp
 | false=>simp only [eu];exact g (by simpa using hc)
def zItem:Zj:=⟨ByteArray.empty,ByteArray.empty,false,0,0,0,0,0⟩
def sZ (f:Zk) (S:List Za) (d:Za):Zj :=
 ⟨f.Code,(mX S 4 (nF d.Day)).foldl (fun _ x=>x.Country) d.Country,(mX S 2 (nF d.Day)).foldl (fun _ _=>true) false,d.Company,d.Day,f.Units,(mX S 3 (nF d.Day)).foldl (fun _ x=>x.Amount) d.Amount,(mX f.Facts 5 36524).foldl (fun _ x=>ex f.Units x.Amount) 0⟩
theorem Cd {f:Zk} {S:List Za} {d:Za} (h0:0≤d.Day) (h1:d.Day≤36524) (hS:S.length≤1000) (hF:f.Facts.length≤1000):jS f S d=some (sZ f S d):=by
 obtain ⟨⟨r,e,e2⟩,_⟩:=last_eq h0 h1
 unfold jS sZ
 have e3:(cond (r.2 != 0) (some 36524) (some r.1):Option Int)=some (nF d.Day):=by rw [e2];cases (r.2 != 0) <;> rfl
 rw [bS e]
 simp only [e3,dn,rM _ _ hS,rM _ _ hF]
 rw [mY (fun _ _=>true)]
 simp only [dn]
 rw [mY (fun (_:Int) (x:Za)=>x.Amount)]
 simp only [dn]
 rw [mY (fun (_:ByteArray) (x:Za)=>x.Country)]
 simp only [dn]
 rw [mY (fun (_:Int) (x:Za)=>ex f.Units x.Amount)]
 rfl
def se (f:Zk):Zj×Bool:=match mX (fY dz f.Facts) 1 36524 with
 | []=>(zItem,false)
 | d::_=>(sZ f (fY dz f.Facts) d,true)
theorem oM {l:List Za} {z:Za}:z∈fY dz l↔z∈l:=nr.mem_iff
theorem item_eq {f:Zk} (hf:FileOk f):fX f=some (se f):=by
 have hl:f.Facts.length≤1000:=by have:=hf.len;omega
 have hS:(fY dz f.Facts).length≤1000:=by rw [rA];exact hl
 unfold fX se
 rw [sd,(qQ f).2 hf,dn,show ((0:Int) != 0)=false from rfl,eu,Cc hl,dn,Cb hf.asc hl,dn,rM _ _ hS,dn]
 cases hk:mX (fY dz f.Facts) 1 36524 with
 | nil=>rfl
 | cons d l =>
  have hd:d∈f.Facts:=by
   have:d∈mX (fY dz f.Facts) 1 36524:=by rw [hk];simp
   exact oM.1 (List.mem_filter.1 this).1
  have hv:=vQ (hf.val d hd)
  rw [lR,Cd hv.1 hv.2 hS hl];rfl
theorem small_Y {p:Ze} (hp:SOK p) (few n:Int) (h1:1≤few) (h2:few≤n) (h3:n≤4611686018427387904):Y (lM p few n) (fun r=>0≤r.1∧r.1<n∧SOK r.2):=by
 unfold lM
 refine (kq hp 5 (by omega) (by omega)).bind fun a ⟨_,_,k3⟩=>?_
 refine Y.cond (fun _=>?_) (fun _=>?_)
 ·exact (kq k3 n (by omega) h3).bind fun b ⟨j1,j2,j3⟩=>Y.ret ⟨j1,j2,j3⟩
 exact (kq k3 few h1 (by omega)).bind fun b ⟨j1,j2,j3⟩=>Y.ret ⟨j1,by dsimp only;omega,j3⟩
structure MF (i:Nat) (x:Za):Prop where
 val:jV x=true
 frm:0≤x.From∧x.From≤200
 num:x.Number=((i:Int)*5+2) % 17+1
def cts:List ByteArray:=[⟨#[65,65]⟩,⟨#[66,66]⟩,⟨#[67,67]⟩,⟨#[68,68]⟩,⟨#[69,69]⟩,⟨#[70,70]⟩]
theorem Ed:∀ s∈cts,lW s=true:=List.all_eq_true.1 (by kernel_rfl:cts.all lW=true)
theorem fact_mk {F N D K A C:Int} {s:ByteArray} (h1:0≤F∧F≤200) (h2:1≤N∧N≤17) (h3:0≤D∧D≤36524) (hk:pm ⟨F,N,D,K,s,A,C⟩=true):jV ⟨F,N,D,K,s,A,C⟩=true:=by
 unfold jV
 dsimp only
 rw [cD (by omega:¬ F<0),cD (by omega:¬ (999:Int)<F),cD (by omega:¬ N<1),cD (by omega:¬ (1000000000:Int)<N),cD (by omega:¬ D<0),cD (by omega:¬ (36524:Int)<D)]
 exact hk
theorem rN:decide (ByteArray.empty=(⟨#[]⟩:ByteArray))=true:=by decide
theorem facts_Y (l:List Int):Y (iq l) (fun xs=>xs.length≤14∧∀ (i:Nat) (x:Za),xs[i]?=some x→MF i x):=by
 unfold iq
 refine (cut_Y l 80 (by omega) (by omega)).bind fun c hc=>?_
 refine Y.bind (P:=fun xs=>xs.length≤14∧∀ (i:Nat) (x:Za),xs[i]?=some x→MF i x) ?_ (fun xs h=>Y.ret h)
 refine Y.loop (fun s:(List Za)×(List Int)×Int=>SOK ⟨s.2.1,s.2.2⟩∧s.1.length≤14∧∀ (i:Nat) (x:Za),s.1[i]?=some x→MF i x) (fun s=>14 - s.1.length) ⟨hc,by simp,fun i x h=>by simp at h⟩ (by dsimp only;omega) ?_
 rintro ⟨a,b,c⟩ ⟨h1,h2,h3⟩
 dsimp only at h1 h2 h3 ⊢
 unfold iB
 simp only [dn]
 refine Y.cond (fun hcond=>?_) (fun _=>Y.ret ⟨h2,h3⟩)
 have hlt:a.length<14:=by simp only [Bool.and_eq_true,decide_eq_true_eq] at hcond;omega
 refine (kq h1 3 (by omega) (by omega)).bind fun x18 ⟨p1,p2,p3⟩=>?_
 refine (kq p3 30 (by omega) (by omega)).bind fun x19 ⟨q1,q2,q3⟩=>?_
 refine (kq q3 5 (by omega) (by omega)).bind fun x20 ⟨r1,r2,r3⟩=>?_
 refine (kq r3 8 (by omega) (by omega)).bind fun x22 ⟨s1,s2,s3⟩=>?_
 refine Y.bind (P:=fun r:List Int×Int×Int=>SOK ⟨r.1,r.2.1⟩∧0≤r.2.2∧r.2.2≤36524) ?_ ?_
 ·refine Y.cond (fun _=>?_) (fun _=>Y.ret ⟨s3,q1,by dsimp only;omega⟩)
  exact (kq s3 2500 (by omega) (by omega)).bind fun x29 ⟨t1,t2,t3⟩=>Y.ret ⟨t3,t1,by dsimp only;omega⟩
 rintro ⟨l24,v25,v26⟩ ⟨t1,t2,t3⟩
 dsimp only at t1 t2 t3 ⊢
 rw [cj (r:=1+x20.1) (by omega) (by omega)]
 refine Y.bind (P:=fun r:List Int×Int×ByteArray×Int×Int=>SOK ⟨r.1,r.2.1⟩∧∀ F N D,pm ⟨F,N,D,1+x20.1,r.2.2.1,r.2.2.2.1,r.2.2.2.2⟩=true) ?_ ?_
 ·refine Y.cond (fun hk=>?_) (fun hk=>?_)
  ·unfold dJ
   refine Y.eq rfl ?_
   refine (kq t1 3 (by omega) (by omega)).bind fun x39 ⟨u1,u2,u3⟩=>?_
   refine Y.idx (xs:=cts) (n:=x39.1.toNat) (by omega) (by show x39.1.toNat<6;omega) ?_
   refine (small_Y u3 5000 1000000000001 (by omega) (by omega) (by omega)).bind fun x41 ⟨w1,w2,w3⟩=>?_
   refine (kq w3 3 (by omega) (by omega)).bind fun x42 ⟨z1,z2,z3⟩=>Y.ret ⟨z3,fun F N D=>?_⟩
   have hs:lW (cts[x39.1.toNat]'(by show x39.1.toNat<6;omega))=true:=Ed _ (List.getElem_mem _)
   unfold pm mq
   dsimp only
   rw [hk,dG,hs,det (by omega:0≤x41.1),det (by omega:x41.1≤1000000000000),det z1,det (by omega:x42.1≤999)];rfl
  refine Y.cond (fun hk3=>?_) (fun hk3=>?_)
  ·refine (kq t1 6000 (by omega) (by omega)).bind fun x44 ⟨u1,u2,u3⟩=>Y.ret ⟨u3,fun F N D=>?_⟩
   have e:1+x20.1=3:=eq_of_beq hk3
   unfold pm mq
   dsimp only
   rw [e,rN,det u1,det (by omega:x44.1≤1000000000000)];rfl
  refine Y.cond (fun hk4=>?_) (fun hk4=>?_)
  ·unfold dJ
   refine Y.eq rfl ?_
   refine (kq t1 3 (by omega) (by omega)).bind fun x47 ⟨u1,u2,u3⟩=>?_
   refine Y.idx (xs:=cts) (n:=x47.1.toNat) (by omega) (by show x47.1.toNat<6;omega) (Y.ret ⟨u3,fun F N D=>?_⟩)
   have e:1+x20.1=4:=eq_of_beq hk4
   have hs:lW (cts[x47.1.toNat]'(by show x47.1.toNat<6;omega))=true:=Ed _ (List.getElem_mem _)
   unfold pm mq
   dsimp only
   rw [e,hs];rfl
  refine Y.cond (fun hk5=>?_) (fun hk5=>?_)
  ·refine (kq t1 40 (by omega) (by omega)).bind fun x50 ⟨u1,u2,u3⟩=>Y.ret ⟨u3,fun F N D=>?_⟩
   have e:1+x20.1=5:=eq_of_beq hk5
   unfold pm mq
   dsimp only
   rw [e,rN,det u1,det (by omega:x50.1≤1000000000)];rfl
  refine Y.ret ⟨t1,fun F N D=>?_⟩
  have e:1+x20.1=2:=by
   have k1:¬ 1+x20.1=1:=by simpa using hk
   have k3:¬ 1+x20.1=3:=by simpa using hk3
   have k4:¬ 1+x20.1=4:=by simpa using hk4
   have k5:¬ 1+x20.1=5:=by simpa using hk5
   omega
  unfold pm mq
  dsimp only
  rw [e,rN];rfl
 rintro ⟨l31,v32,v33,v34,v35⟩ ⟨u1,u2⟩
 dsimp only at u1 u2 ⊢
 rw [nY (by simp;omega) (by simp;omega),dn]
 refine Y.ret ⟨⟨u1,by simp;omega,fun i x hx=>?_⟩,by simp;omega⟩
 rcases Nat.lt_or_ge i a.length with hi | hi
 ·rw [List.getElem?_append_left hi] at hx;exact h3 i x hx
 rw [List.getElem?_append_right hi] at hx
 have hi2:i=a.length:=by
  have:=(List.getElem?_eq_some_iff.1 hx).1;simp at this;omega
 subst hi2
 rw [Nat.sub_self,List.getElem?_cons_zero] at hx
 obtain rfl:=Option.some.inj hx
 have e1:IntKind.i64.wrap (x18.1*100)=x18.1*100:=cj (by omega) (by omega)
 have e2:IntKind.i64.wrap (Int.tmod (IntKind.i64.wrap (IntKind.i64.wrap ((a.length:Int)*5)+2)) 17+1)=((a.length:Int)*5+2) % 17+1:=by
  rw [cj (r:=(a.length:Int)*5) (by omega) (by omega),cj (r:=(a.length:Int)*5+2) (by omega) (by omega),Int.tmod_eq_emod_of_nonneg (by omega),cj (by omega) (by omega)]
 rw [e1,e2]
 exact ⟨fact_mk (by omega) (by omega) ⟨t2,t3⟩ (u2 _ _ _),by dsimp only;omega,rfl⟩
theorem qR (y:Int) (m:Nat) (h:m≤11):eE y ((m:Int)+1)=some (iZ y m):=by
 unfold eE iZ qA
 rcases (by omega:m=0∨m=1∨m=2∨m=3∨m=4∨m=5∨m=6∨m=7∨m=8∨m=9∨m=10∨m=11) with h | h | h | h | h | h | h | h | h | h | h | h <;> subst h <;> cases ((Int.tmod y 4 == 0)&&((Int.tmod y 100 != 0)||(Int.tmod y 400 == 0))) <;> rfl
theorem rof_Y {day:Int} (h0:0≤day) (h1:day≤36524):Y (nZ day) (fun r=>∃ (n m:Nat) (d:Int),r=(⟨2000+(n:Int),(m:Int)+1,d+1⟩,0)∧Dec day n m d):=by
 unfold nZ oF
 rw [det h0,det h1]
 simp only [dn,Bool.and_self,Bool.not_true,eu]
 refine Y.bind (P:=fun s:Int×Int×Int=>∃ (n m:Nat) (d:Int),s=(d,2000+(n:Int),(m:Int)+1)∧Dec day n m d) ?_ ?_
 ·refine Y.loop (fun s:Int×Int×Int=>∃ (n m:Nat) (d:Int),s=(d,2000+(n:Int),(m:Int)+1)∧n≤99∧m≤11∧0≤d∧day=yb n+mb (2000+n) m+d) (fun s=>(s.1).toNat) ⟨0,0,day,rfl,by omega,by omega,h0,by simp [yb,mb]⟩ (by dsimp only;omega) ?_
  rintro s ⟨n,m,d,rfl,hn,hm,hd,hs⟩
  dsimp only
  simp only [qR _ m hm,dn]
  have hl:=iM (2000+(n:Int)) m hm
  have hy:=vw n
  have hb:=vu (2000+(n:Int)) (show m≤12 by omega)
  refine Y.cond (fun hc=>?_) (fun hc=>Y.ret ⟨n,m,d,rfl,hn,hm,hd,by have:=of_decide_eq_false hc;omega,hs⟩)
  have hc:=of_decide_eq_true hc
  rw [cj (r:=(m:Int)+1+1) (by omega) (by omega),cj (r:=d - iZ (2000+(n:Int)) m) (by omega) (by omega),cj (r:=2000+(n:Int)+1) (by omega) (by omega)]
  refine Y.cond (fun hk=>?_) (fun hk=>?_)
  ·have hk:=of_decide_eq_true hk
   have:m=11:=by omega
   subst this
   have e:mb (2000+(n:Int)) 12=mb (2000+(n:Int)) 11+iZ (2000+(n:Int)) 11:=rfl
   rw [sR] at e
   have hn2:n+1≤99:=by
    rcases Nat.lt_or_ge n 99 with h | h
    ·exact h
    have:n=99:=by omega
    subst this
    have e2:yb 100=yb 99+ry (2000+(99:Nat)):=rfl
    rw [zL] at e2;omega
   refine Y.ret ⟨⟨n+1,0,d - iZ (2000+(n:Int)) 11,by congr 2 <;> omega,hn2,by omega,by omega,?_⟩,by dsimp only;omega⟩
   simp only [yb,mb];omega
  have hk:=of_decide_eq_false hk
  refine Y.ret ⟨⟨n,m+1,d - iZ (2000+(n:Int)) m,rfl,hn,by omega,by omega,?_⟩,by dsimp only;omega⟩
  simp only [mb];omega
 rintro s ⟨n,m,d,rfl,hd⟩
 dsimp only
 have:=iM (2000+(n:Int)) m hd.m11
 have:=hd.d0;have:=hd.dl
 exact Y.ret ⟨n,m,d,by rw [cj (by omega) (by omega)],hd⟩
theorem Ee (y:Int):eE y 2=some (iZ y 1):=qR y 1 (by omega)
theorem Ef (y:Int):337+iZ y 1=ry y:=by unfold iZ ry;cases qA y <;> rfl
theorem Ae {n m:Nat} {dom:Int} (hn:n≤99) (hm:m≤11) (h1:1≤dom) (h2:dom≤iZ (2000+n) m):gC ⟨2000+(n:Int),(m:Int)+1,dom⟩=some (dom - 1+yb n+mb (2000+n) m,0):=by
 have hl:=iM (2000+(n:Int)) m hm
 unfold gC
 dsimp only
 rw [cD (by omega:¬ 2000+(n:Int)<2000),cD (by omega:¬ (2099:Int)<2000+(n:Int)),cD (by omega:¬ (m:Int)+1<1),cD (by omega:¬ (12:Int)<(m:Int)+1),cD (by omega:¬ dom<1)]
 simp only [Bool.or_self,Bool.not_false,dH,qR _ m hm,dn,Bool.false_or]
 rw [cD (by omega:¬ iZ (2000+(n:Int)) m<dom),eu,cj (r:=dom - 1) (by omega) (by omega)]
 have hyb:=AL (show n≤100 by omega)
 have e1:=Y.is (Y.loop (body:=fun (v4,v5)=>cond (decide (v5<2000+(n:Int))) (Option.bind (eE v5 2) (fun x10=>lb ((IntKind.i64.wrap ((IntKind.i64.wrap (v4+337))+x10))) (fun w11=>some (.inl (w11,(IntKind.i64.wrap (v5+1))))))) (some (.inr v4))) (R:=fun t=>t=dom - 1+yb n) (s:=(dom - 1,2000)) (fun s:Int×Int=>∃ k:Nat,k≤n∧s=(dom - 1+yb k,2000+(k:Int))) (fun s=>(2000+(n:Int) - s.2).toNat) ⟨0,by omega,by simp [yb]⟩ (by dsimp only;omega) (by
  rintro s ⟨k,hk,rfl⟩
  dsimp only
  simp only [Ee,dn]
  have:=AL (show k≤100 by omega);have:=vw k;have:=nv (2000+(k:Int));have h7:=Ef (2000+(k:Int));have:=iM (2000+(k:Int)) 1 (by omega)
  refine Y.cond (fun hc=>?_) (fun hc=>Y.ret ?_)
  ·have hc:=of_decide_eq_true hc
   unfold lb
   refine Y.ret ⟨⟨k+1,by omega,?_⟩,?_⟩
   ·rw [cj (r:=dom - 1+yb k+337) (by omega) (by omega),cj (by omega) (by omega),cj (by omega) (by omega)];simp only [yb];congr 1 <;> omega
   show (2000+(n:Int) - IntKind.i64.wrap _).toNat<_;rw [cj (by omega) (by omega)];omega
  have hc:=of_decide_eq_false hc
  have:k=n:=by omega
  subst this;rfl))
 rw [bS e1]
 have hmb:=AK (2000+(n:Int)) (show m≤12 by omega)
 have e2:=Y.is (Y.loop (body:=fun (v12,v13)=>cond (decide (v13<(m:Int)+1)) (Option.bind (eE (2000+(n:Int)) v13) (fun x18=>some (.inl ((IntKind.i64.wrap (v12+x18)),(IntKind.i64.wrap (v13+1)))))) (some (.inr v12))) (R:=fun t=>t=dom - 1+yb n+mb (2000+n) m) (s:=(dom - 1+yb n,1)) (fun s:Int×Int=>∃ k:Nat,k≤m∧s=(dom - 1+yb n+mb (2000+n) k,(k:Int)+1)) (fun s=>((m:Int)+1 - s.2).toNat) ⟨0,by omega,by simp [mb]⟩ (by dsimp only;omega) (by
  rintro s ⟨k,hk,rfl⟩
  dsimp only
  have:=vw n;have:=vu (2000+(n:Int)) (show k≤12 by omega);have:=AK (2000+(n:Int)) (show k≤12 by omega)
  refine Y.cond (fun hc=>?_) (fun hc=>Y.ret ?_)
  ·have hc:=of_decide_eq_true hc
   have:=iM (2000+(n:Int)) k (by omega)
   rw [qR _ k (by omega),dn]
   refine Y.ret ⟨⟨k+1,by omega,?_⟩,?_⟩
   ·rw [cj (by omega) (by omega),cj (by omega) (by omega)];simp only [mb];congr 1 <;> omega
   show ((m:Int)+1 - IntKind.i64.wrap _).toNat<_;rw [cj (by omega) (by omega)];omega
  have hc:=of_decide_eq_false hc
  have:k=m:=by omega
  subst this;rfl))
 rw [bS e2]
theorem radd_eq {day:Int} {n m:Nat} {d:Int} (h0:0≤day) (h1:day≤36524) (hd:Dec day n m d):gS day 36=some (rz n m d):=by
 obtain ⟨r,e,n',m',d',rfl,hd'⟩:=rof_Y h0 h1
 obtain ⟨u1,u2,u3⟩:=hd.uniq hd'
 subst u1 u2 u3
 have hn:=hd.n99;have hm:=hd.m11;have hd0:=hd.d0;have hdl:=hd.dl
 unfold gS rz
 rw [bS e]
 dsimp only
 have w:IntKind.i64.wrap (IntKind.i64.wrap (IntKind.i64.wrap (IntKind.i64.wrap (12*(2000+(n:Int)))+((m:Int)+1)) - 1)+36)=12*(2000+(n:Int))+(m:Int)+36:=by
  rw [cj (r:=12*(2000+(n:Int))) (by omega) (by omega),cj (r:=12*(2000+(n:Int))+((m:Int)+1)) (by omega) (by omega),cj (r:=12*(2000+(n:Int))+((m:Int)+1) - 1) (by omega) (by omega),cj (by omega) (by omega)];omega
 unfold lb
 rw [w]
 have c0:((0:Int) != 0||decide ((36:Int) < -1200)||decide ((1200:Int)<36))=false:=by decide
 dsimp only
 rw [c0,eu]
 rw [Int.tdiv_eq_ediv_of_nonneg (by omega),Int.tmod_eq_emod_of_nonneg (by omega)]
 rw [cj (r:=(12*(2000+(n:Int))+(m:Int)+36) / 12) (by omega) (by omega),cj (r:=(12*(2000+(n:Int))+(m:Int)+36) % 12+1) (by omega) (by omega)]
 have e1:(12*(2000+(n:Int))+(m:Int)+36) / 12=2000+((n+3:Nat):Int):=by omega
 have e2:(12*(2000+(n:Int))+(m:Int)+36) % 12+1=(m:Int)+1:=by omega
 rw [e1,e2,qR _ m hm,dn]
 have hl:=iM (2000+((n+3:Nat):Int)) m hm
 have hle:1≤ex (d+1) (iZ (2000+((n+3:Nat):Int)) m)∧ex (d+1) (iZ (2000+((n+3:Nat):Int)) m)≤iZ (2000+((n+3:Nat):Int)) m:=by unfold ex;split <;> omega
 rcases Nat.lt_or_ge n 97 with hlt | hge
 ·rw [bS (Ae (n:=n+3) (by omega) hm hle.1 hle.2)]
  rw [show Nat.ble 97 n=false by rw [Bool.eq_false_iff];intro h;have:=Nat.le_of_ble_eq_true h;omega]
  rfl
 have e3:gC ⟨2000+((n+3:Nat):Int),(m:Int)+1,ex (d+1) (iZ (2000+((n+3:Nat):Int)) m)⟩=some (0,2):=by
  unfold gC
  dsimp only
  rw [det (by omega:(2099:Int)<2000+((n+3:Nat):Int))]
  simp only [Bool.or_true,Bool.true_or,Bool.not_true,kJ,dn,dG]
 rw [bS e3,Nat.ble_eq_true_of_le hge];rfl
theorem Eg {s:ByteArray} (hs:s.size≤140737488355328):kK s=some (uF s.data.toList&&((s.size:Int) == 8)):=by
 have hb:s.data.toList.length≤4611686018427387904:=by rw [Array.length_toList];have e:s.size=s.data.size:=rfl;omega
 unfold kK
 have e:(s.size:Int)=(s.data.toList.length:Int):=by rw [Array.length_toList];rfl
 rw [e]
 refine (mN (l:=s.data.toList) hb (fun _ b=>cond (!(decide ((b.toNat:Int)<48)||decide (57<(b.toNat:Int)))) none (some (.inr false))) (.inl ()) (fun k hk=>?_) (by rw [mw];rfl)).trans ?_
 ·simp only [uS hk,dG,bV hk,dn,iV hk hb]
  cases decide (((s.data.toList[k]).toNat:Int)<48)
  ·simp only [Bool.not_false,dH,dn,Bool.false_or]
   cases decide (57<((s.data.toList[k]).toNat:Int)) <;> rfl
  simp only [Bool.not_true,kJ,dn,Bool.true_or];rfl
 rw [mO]
 unfold uF
 cases s.data.toList.all fun b => !(decide ((b.toNat:Int)<48)||decide (57<(b.toNat:Int))) <;> rfl
theorem Af {s u:Int} {c:ByteArray} (hc:c.size≤140737488355328):iW s c u=some (cond (qP s c u) (⟨s,c,u,[]⟩,0) (zFile,2)):=by
 unfold iW qP
 rw [Eg hc]
 cases h1:(decide (s<1)||decide (1000000<s)) with
 | true =>
  rw [Bool.not_true,kJ]
  simp only [dn,Bool.true_or,dG]
  rfl
 | false =>
  rw [Bool.not_false,dH,dn]
  simp only [Bool.false_or]
  rw [show ((c.size:Int) != 8) = !((c.size:Int) == 8) from rfl]
  cases decide (u<1) <;> cases decide (1000000000<u) <;> cases ((c.size:Int) == 8) <;> cases uF c.data.toList <;> rfl
theorem yY (x:Za):kh x=some (jV x):=by
 have hT:∀ (v3 v4:Int) (v5:Bool),(Option.bind (gd v5 (dK x.Country)) (fun x11=>cond ((v5&&(!x11))||((!v5)&&(!decide (x.Country=(⟨#[]⟩:ByteArray))))) (some false) (some ((((decide (0≤x.Amount))&&(decide (x.Amount≤v3)))&&(decide (0≤x.Company)))&&(decide (x.Company≤v4))))))=some (mq x v3 v4 v5):=fun v3 v4 v5=>by
  rw [mh]
  unfold mq
  cases v5
  ·rw [kJ]
   simp only [dn,Bool.false_and,Bool.not_false,Bool.true_and,Bool.false_or]
   cases (!decide (x.Country=(⟨#[]⟩:ByteArray))) <;> rfl
  rw [dH]
  simp only [dn,Bool.true_and,Bool.not_true,Bool.false_and,Bool.or_false]
  cases (!lW x.Country) <;> rfl
 unfold kh jV
 cases (decide (x.From<0)||decide (999<x.From)||decide (x.Number<1)||decide (1000000000<x.Number)||decide (x.Day<0)||decide (36524<x.Day)) with
 | true=>rfl
 | false =>
  simp only [Bool.false_or,eu]
  unfold pm
  by_cases h1:x.Kind=1
  ·simp only [h1];exact hT 1000000000000 999 true
  by_cases h2:x.Kind=2
  ·simp only [h2];exact hT 0 0 false
  by_cases h3:x.Kind=3
  ·simp only [h3];exact hT 1000000000000 0 false
  by_cases h4:x.Kind=4
  ·simp only [h4];exact hT 0 0 true
  by_cases h5:x.Kind=5
  ·simp only [h5];exact hT 1000000000 0 false
  have hr:(decide (x.Kind<1)||decide (5<x.Kind))=true:=by simp;omega
  rw [hr,dG,beq_false_of_ne h1,beq_false_of_ne h2,beq_false_of_ne h3,beq_false_of_ne h4,beq_false_of_ne h5];rfl
theorem uI (x y:Za):iC x y=some (fZ x y):=by
 unfold iC fZ
 rw [show (x.From == y.From)=decide (x.From=y.From) from rfl]
theorem uJ (f:Zk) (hc:f.Code.size≤140737488355328):ki f=some (uH f):=by
 unfold ki uH
 rw [Af hc,dn]
 cases qP f.Source f.Code f.Units with
 | false=>rfl
 | true =>
  simp only [Bool.not_true,eu,dG]
  rw [show ((0:Int) != 0)=false from rfl,eu]
  cases hl:decide (200<(f.Facts.length:Int)) with
  | true=>rfl
  | false =>
   have hl:=of_decide_eq_false hl
   simp only [eu]
   refine (mN (l:=f.Facts) (by omega) (fun _ x=>cond (jV x) none (some (.inr (2:Int)))) (.inl ()) (fun k hk=>?_) (by rw [mw];rfl)).trans ?_
   ·simp only [uS hk,dG,bV hk,dn,iV hk (show f.Facts.length≤4611686018427387904 by omega),yY]
    cases jV f.Facts[k] <;> rfl
   rw [mO]
   cases hv:f.Facts.all jV with
   | false=>rfl
   | true =>
    simp only [dG,Option.getD_none]
    rw [yV (l:=f.Facts) (by omega) fZ (.inr (9:Int)) (.inl ()) (fun k hk=>?_) (fun k h1 h2 h3=>?_)]
    ·unfold Ec;cases uG fZ f.Facts <;> rfl
    ·rw [det (by omega:(k:Int)+1<(f.Facts.length:Int)),dG,cj (r:=(k:Int)+1 - 1) (by omega) (by omega),show (k:Int)+1 - 1=(k:Int) by omega,show (k:Int)+1=((k+1:Nat):Int) by omega,bV (show k<f.Facts.length by omega),bV hk]
     simp only [dn,uI]
     rw [cj (by omega) (by omega)]
     cases fZ f.Facts[k] f.Facts[k+1]
     ·rfl
     show some (Sum.inl _)=some (Sum.inl _);congr 2 <;> omega
    rw [cD (by omega)];rfl
def zd (a b:Za):Bool:=decide (a.Day≤b.Day)
def jx (l:List Za) (x:Za):Nat:=(l.takeWhile fun y=>zd y x).length
theorem vR:∀ (l:List Za) (x:Za),l.take (jx l x)++[x]++l.drop (jx l x)=rX zd x l
 | [],_=>rfl
 | y::l,x=>by
  have ih:=vR l x
  unfold jx at *
  rw [List.takeWhile_cons,rX]
  cases h:zd y x with
  | true=>simp only [if_true,dG,List.length_cons,List.take_succ_cons,List.drop_succ_cons,List.cons_append];rw [← ih]
  | false=>simp
theorem uK (l:List Za) (x:Za):jx l x≤l.length:=by
 unfold jx;exact (List.takeWhile_sublist _).length_le
theorem Eh {l:List Za} {x:Za} {k:Nat} (hk:k<l.length) (h:k<jx l x):zd l[k] x=true:=by
 induction l generalizing k with
 | nil=>simp at hk
 | cons y l ih =>
  unfold jx at h
  rw [List.takeWhile_cons] at h
  cases hy:zd y x with
  | false=>rw [hy] at h;simp at h
  | true =>
   rw [hy] at h
   simp only [if_true,List.length_cons] at h
   cases k with
   | zero=>exact hy
   | succ k=>exact ih (by simpa using hk) (by unfold jx;omega)
theorem Ei {l:List Za} {x:Za} (hk:jx l x<l.length):zd l[jx l x] x=false:=by
 induction l with
 | nil=>simp at hk
 | cons y l ih =>
  cases hy:zd y x with
  | false =>
   have:jx (y::l) x=0:=by unfold jx;rw [List.takeWhile_cons,hy];rfl
   simp only [this,List.getElem_cons_zero];exact hy
  | true =>
   have e:jx (y::l) x=jx l x+1:=by unfold jx;rw [List.takeWhile_cons,hy];rfl
   simp only [e,List.getElem_cons_succ]
   exact ih (by rw [e] at hk;simpa using hk)
theorem Ag {l F:List Za} {k:Nat} (hk:k<F.length) (hl:l.length≤1000):bu (S:=Int) (T:=(Int)) (fun v18=>Option.bind (gd (decide (v18<((l.length:Nat):Int))) (idx l v18)) (fun m23=>Option.bind (gd (decide (v18<((l.length:Nat):Int))) (idx F (k:Int))) (fun m24=>cond ((decide (v18<((l.length:Nat):Int)))&&(decide (m23.Day≤m24.Day))) (some (.inl (IntKind.i64.wrap (v18+1)))) (some (.inr v18))))) FUEL 0=some ((jx l F[k]:Nat):Int):=by
 refine Y.is (Y.loop (fun s:Int=>∃ j:Nat,s=(j:Int)∧j≤jx l F[k]) (fun s=>(jx l F[k] - s).toNat) ⟨0,rfl,Nat.zero_le _⟩ (by have:=uK l F[k];omega) ?_)
 rintro s ⟨j,rfl,hj⟩
 have hle:=uK l F[k]
 rcases Nat.lt_or_ge j (jx l F[k]) with h | h
 ·have hjl:j<l.length:=by omega
  rw [det (by omega:(j:Int)<(l.length:Int)),dH,bV hjl,dn,dH,bV hk,dn]
  have:=Eh hjl h
  unfold zd at this
  rw [this,Bool.and_self,dG]
  refine Y.ret ⟨⟨j+1,?_,h⟩,?_⟩
  ·rw [cj (by omega) (by omega)];omega
  rw [cj (by omega) (by omega)];omega
 have e:j=jx l F[k]:=by omega
 rcases Nat.lt_or_ge j l.length with hjl | hjl
 ·rw [det (by omega:(j:Int)<(l.length:Int)),dH,bV hjl,dn,dH,bV hk,dn]
  have h2:zd l[j] F[k]=false:=by subst e;exact Ei hjl
  unfold zd at h2
  rw [h2,Bool.and_false,eu]
  exact Y.ret (by rw [e])
 rw [cD (by omega:¬ (j:Int)<(l.length:Int)),kJ]
 simp only [dn,kJ,Bool.false_and,eu]
 exact Y.ret (by rw [e])
theorem vS {lt lt':Za→Za→Bool} {x:Za}:∀ {l:List Za},(∀ y∈l,lt y x=lt' y x)→rX lt x l=rX lt' x l
 | [],_=>rfl
 | y::l,h=>by rw [rX,rX,h y (by simp),vS fun z hz=>h z (by simp [hz])]
theorem pT {x:Za}:∀ {l:List Za},(∀ y∈l,dz x y=true∨dz y x=true)→l.Pairwise (fun a b=>dz a b=true)→(rX dz x l).Pairwise (fun a b=>dz a b=true)
 | [],_,_=>by simp [rX]
 | y::l,hx,h=>by
  obtain ⟨h1,h2⟩:=List.pairwise_cons.1 h
  unfold rX
  cases hy:dz y x with
  | true =>
   simp only [dG]
   refine List.pairwise_cons.2 ⟨fun z hz=>?_,pT (fun y hy=>hx y (by simp [hy])) h2⟩
   rcases List.mem_cons.1 (mM.mem_iff.1 hz) with rfl | hz
   ·exact hy
   ·exact h1 z hz
  | false =>
   simp only [eu]
   have hxy:dz x y=true:=by
    rcases hx y (by simp) with e | e
    ·exact e
    rw [e] at hy;cases hy
   refine List.pairwise_cons.2 ⟨fun z hz=>?_,h⟩
   rcases List.mem_cons.1 hz with rfl | hz
   ·exact hxy
   exact ur _ _ _ hxy (h1 z hz)
theorem qS:∀ {l:List Za},EB l=true→(fY dz l).Pairwise (fun a b=>dz a b=true)
 | [],_=>List.Pairwise.nil
 | x::l,h=>by
  simp only [EB,Bool.and_eq_true,List.all_eq_true,Bool.or_eq_true] at h
  rw [fY]
  exact pT (fun y hy=>h.1 y (oM.1 hy)) (qS h.2)
theorem uM:∀ {l m:List Za},l.Pairwise (fun a b=>dz a b=true)→m.Pairwise (fun a b=>dz a b=true)→(∀ z,z∈l↔z∈m)→l=m
 | [],[],_,_,_=>rfl
 | [],y::m,_,_,h=>absurd ((h y).2 (by simp)) (by simp)
 | x::l,[],_,_,h=>absurd ((h x).1 (by simp)) (by simp)
 | x::l,y::m,h1,h2,h=>by
  obtain ⟨a1,a2⟩:=List.pairwise_cons.1 h1
  obtain ⟨b1,b2⟩:=List.pairwise_cons.1 h2
  have hxy:x=y:=by
   rcases List.mem_cons.1 ((h x).1 (by simp)) with e | hx
   ·exact e
   rcases List.mem_cons.1 ((h y).2 (by simp)) with e | hy
   ·exact e.symm
   have k:=ur _ _ _ (b1 x hx) (a1 y hy);rw [oI] at k;cases k
  subst hxy
  congr 1
  refine uM a2 b2 fun z=>⟨fun hz=>?_,fun hz=>?_⟩
  ·rcases List.mem_cons.1 ((h z).1 (by simp [hz])) with e | hz2
   ·subst e;have k:=a1 z hz;rw [oI] at k;cases k
   exact hz2
  rcases List.mem_cons.1 ((h z).2 (by simp [hz])) with e | hz2
  ·subst e;have k:=b1 z hz;rw [oI] at k;cases k
  exact hz2
theorem yZ {F:List Za} (h:F.Pairwise (fun a b=>fZ a b=true)):F.foldl (fun l x=>rX zd x l) []=fY dz F:=by
 have key:∀ (P R:List Za) (acc:List Za),(P++R).Pairwise (fun a b=>fZ a b=true)→acc.Pairwise (fun a b=>dz a b=true)→(∀ z,z∈acc↔z∈P)→(R.foldl (fun l x=>rX zd x l) acc).Pairwise (fun a b=>dz a b=true)∧∀ z,z∈R.foldl (fun l x=>rX zd x l) acc↔z∈P++R:=by
  intro P R
  induction R generalizing P with
  | nil=>intro acc _ h2 h3;exact ⟨h2,by simpa using h3⟩
  | cons x R ih =>
   intro acc h1 h2 h3
   have hlt:∀ y∈acc,fZ y x=true:=fun y hy=>(List.pairwise_append.1 h1).2.2 y ((h3 y).1 hy) x (by simp)
   have e:rX zd x acc=rX dz x acc:=vS fun y hy=>by
    have:=hlt y hy
    rw [oL] at this
    rw [Bool.eq_iff_iff,ku];unfold zd;rw [decide_eq_true_eq];omega
   rw [List.foldl_cons,e]
   have h4:(P++[x]++R).Pairwise (fun a b=>fZ a b=true):=by rw [List.append_assoc];exact h1
   have:=ih (P++[x]) (rX dz x acc) h4 (pT (fun y hy=>by
    have:=hlt y hy
    rw [oL] at this
    rw [ku,ku];omega) h2) (fun z=>by rw [mM.mem_iff,List.mem_cons,h3,List.mem_append,List.mem_singleton];exact or_comm)
   rw [List.append_assoc] at this
   exact this
 obtain ⟨k1,k2⟩:=key [] F [] h List.Pairwise.nil (fun z=>Iff.rfl)
 exact uM k1 (qS (Ad h)) fun z=>by rw [k2,oM];rfl
theorem Ah {l:List Za} (hl:l.length≤1000):Y (bu (S:=Int×Int) (T:=(Int)) (fun (v46,v47)=>cond (decide (0≤v47)) (Option.bind (Option.bind (idx l v47) (fun m56=>cond (m56.Kind == 1) (some v47) (some v46))) (fun v54=>some (.inl (v54,(IntKind.i64.wrap (v47 - 1)))))) (some (.inr v46))) FUEL ((-1),IntKind.i64.wrap (((l.length:Nat):Int) - 1))) (fun t=>(t = -1∧∀ y∈l,(y.Kind == 1)=false)∨∃ (j:Nat) (hj:j<l.length),t=(j:Int)∧(l[j].Kind == 1)=true∧∀ y∈l.take j,(y.Kind == 1)=false):=by
 rw [cj (by omega) (by omega)]
 refine Y.loop (fun s:Int×Int=>∃ k:Nat,k≤l.length∧s.2=(k:Int) - 1∧((s.1 = -1∧∀ y∈l.drop k,(y.Kind == 1)=false)∨∃ (j:Nat) (hj:j<l.length),k≤j∧s.1=(j:Int)∧(l[j].Kind == 1)=true∧∀ y∈(l.take j).drop k,(y.Kind == 1)=false)) (fun s=>(s.2+1).toNat) ⟨l.length,Nat.le_refl _,rfl,.inl ⟨rfl,fun y hy=>by simp at hy⟩⟩ (by dsimp only;omega) ?_
 rintro ⟨a,b⟩ ⟨k,hk,hb,hs⟩
 dsimp only at hb hs ⊢
 subst hb
 cases k with
 | zero =>
  refine Y.cond (fun hc=>absurd (of_decide_eq_true hc) (by omega)) (fun _=>Y.ret ?_)
  rcases hs with ⟨h1,h2⟩ | ⟨j,hj,_,h2,h3,h4⟩
  ·exact .inl ⟨h1,by simpa using h2⟩
  ·exact .inr ⟨j,hj,h2,h3,by simpa using h4⟩
 | succ k =>
  have hkl:k<l.length:=by omega
  rw [det (by omega:(0:Int)≤((k+1:Nat):Int) - 1),dG,show ((k+1:Nat):Int) - 1=(k:Int) by omega,bV hkl,dn,cj (by omega) (by omega)]
  cases hK:(l[k].Kind == 1) with
  | true =>
   refine Y.ret ⟨⟨k,by omega,rfl,.inr ⟨k,hkl,Nat.le_refl _,rfl,hK,fun y hy=>?_⟩⟩,by dsimp only;omega⟩
   rw [List.drop_eq_nil_of_le (by rw [List.length_take];omega)] at hy;cases hy
  | false =>
   refine Y.ret ⟨⟨k,by omega,rfl,?_⟩,by dsimp only;omega⟩
   rcases hs with ⟨h1,h2⟩ | ⟨j,hj,h0,h2,h3,h4⟩
   ·refine .inl ⟨h1,fun y hy=>?_⟩
    rw [List.drop_eq_getElem_cons hkl] at hy
    rcases List.mem_cons.1 hy with rfl | hy
    ·exact hK
    exact h2 y hy
   refine .inr ⟨j,hj,by omega,h2,h3,fun y hy=>?_⟩
   have hkt:k<(l.take j).length:=by rw [List.length_take];omega
   rw [List.drop_eq_getElem_cons hkt] at hy
   rcases List.mem_cons.1 hy with rfl | hy
   ·rw [List.getElem_take];exact hK
   exact h4 y hy
def Bc (L:Int) (s:ByteArray×Bool×Int) (x:Za):ByteArray×Bool×Int :=
 cond (decide (x.Day≤L)) (cond (x.Kind == 2) (s.1,true,s.2.2) (cond (x.Kind == 3) (s.1,s.2.1,x.Amount) (cond (x.Kind == 4) (x.Country,s.2.1,s.2.2) s))) s
theorem uN (L:Int):∀ (l:List Za) (s:ByteArray×Bool×Int),l.foldl (Bc L) s=((mX l 4 L).foldl (fun _ x=>x.Country) s.1,(mX l 2 L).foldl (fun _ _=>true) s.2.1,(mX l 3 L).foldl (fun _ x=>x.Amount) s.2.2)
 | [],_=>rfl
 | x::l,s=>by
  rw [List.foldl_cons,uN L l]
  have hof:∀ k,mX (x::l) k L=cond ((x.Kind == k)&&decide (x.Day≤L)) (x::mX l k L) (mX l k L):=fun k=>by
   unfold mX;rw [List.filter_cons];cases ((x.Kind == k)&&decide (x.Day≤L)) <;> rfl
  rw [hof,hof,hof]
  unfold Bc
  cases decide (x.Day≤L)
  ·simp only [Bool.and_false,eu]
  simp only [Bool.and_true,dG]
  by_cases h2:x.Kind=2
  ·rw [h2];rfl
  rw [beq_false_of_ne h2]
  by_cases h3:x.Kind=3
  ·rw [h3];rfl
  rw [beq_false_of_ne h3]
  by_cases h4:x.Kind=4
  ·rw [h4];rfl
  rw [beq_false_of_ne h4];rfl
theorem uO (u:Int):∀ (l:List Za) (s:Int),(∀ x∈l,x.Day≤36524)→l.foldl (fun s x=>cond (x.Kind == 5) (ex u x.Amount) s) s=(mX l 5 36524).foldl (fun _ x=>ex u x.Amount) s
 | [],_,_=>rfl
 | x::l,s,h=>by
  rw [List.foldl_cons,uO u l _ fun y hy=>h y (by simp [hy])]
  have hof:mX (x::l) 5 36524=cond (x.Kind == 5) (x::mX l 5 36524) (mX l 5 36524):=by
   unfold mX;rw [List.filter_cons,det (h x (by simp)),Bool.and_true];cases (x.Kind == 5) <;> rfl
  rw [hof]
  cases (x.Kind == 5) <;> rfl
theorem Ej {f:Zk} (hf:FileOk f) (hc:f.Code.size≤140737488355328):gD f=some (se f):=by
  have hl:f.Facts.length≤200:=hf.len
  have hSl:(fY dz f.Facts).length=f.Facts.length:=rA _
  have hday:∀ x∈f.Facts,0≤x.Day∧x.Day≤36524:=fun x hx=>vQ (hf.val x hx)
  unfold gD
  rw [uJ f hc,(qQ f).2 hf,dn,show ((0:Int) != 0)=false from rfl,eu]
  refine (rl (l:=f.Facts) (by omega) (fun i (a:List Za)=>(a,i)) (fun l x=>rX zd x l) (fun a=>a) (fun k a=>a.length=k) [] rfl (fun k hk a ha=>by
      refine ⟨?_,by rw [mM.length_eq,List.length_cons,ha]⟩
      dsimp only
      have hh:=uK a f.Facts[k]
      rw [uS hk,dG,Ag hk (by omega),dn,show (0:Int)=((0:Nat):Int) from rfl,wM (Nat.zero_le _) hh,dn,bV hk,dn,wM hh (Nat.le_refl _),dn]
      simp only [List.drop_zero,List.take_length]
      rw [nY (by simp;omega) (by simp;omega),dn,nY (by simp;omega) (by simp;omega),dn,nY (by simp;omega) (by simp;omega),dn,iV hk (by omega),List.nil_append,vR]) (fun a _=>by dsimp only;rw [mw];rfl)).1.trans ?_
  rw [yZ hf.asc]
  have hS:∀ x∈fY dz f.Facts,0≤x.Day∧x.Day≤36524:=fun x hx=>hday x (oM.1 hx)
  unfold se
  generalize fY dz f.Facts=S at *
  unfold lb
  dsimp only
  obtain ⟨t,et,ht⟩:=Ah (l:=S) (by omega)
  rw [bS et]
  rcases ht with ⟨rfl,hno⟩ | ⟨j,hj,rfl,hK,hno⟩
  · have e:mX S 1 36524=[]:=by
      unfold mX
      exact List.filter_eq_nil_iff.2 fun x hx=>by rw [hno x hx];simp
    rw [e];rfl
  · have e:∃ r,mX S 1 36524=S[j]::r:=by
      have e1:S=S.take j++S[j]::S.drop (j+1):=by rw [List.getElem_cons_drop];simp
      have e2:mX (S.take j) 1 36524=[]:=by
        unfold mX
        exact List.filter_eq_nil_iff.2 fun x hx=>by rw [hno x hx];simp
      have e3:mX S 1 36524=mX (S.take j) 1 36524++mX (S[j]::S.drop (j+1)) 1 36524:=by
        conv=>lhs;rw [e1]
        unfold mX;rw [List.filter_append]
      rw [e3,e2,List.nil_append]
      unfold mX
      rw [List.filter_cons_of_pos (by rw [hK,det (hS _ (List.getElem_mem hj)).2];rfl)]
      exact ⟨_,rfl⟩
    obtain ⟨r,e⟩:=e
    rw [e]
    dsimp only
    have hd:=hS _ (List.getElem_mem hj)
    rw [cD (by omega:¬ (j:Int)<0),eu,bV hj,dn]
    obtain ⟨_,_,n,m,d,_,hdec⟩:=of_Y hd.1 hd.2
    have hlast:nF S[j].Day=cond ((rz n m d).2 != 0) 36524 (rz n m d).1:=by unfold nF;rw [Dz hd.1 hd.2 hdec]
    rw [radd_eq hd.1 hd.2 hdec,dn]
    unfold sZ
    generalize rz n m d=q at *
    have step:∀ (x:Za),x.Day≤36524→decide (x.Day≤nF S[j].Day) = !((q.2 == 0)&&decide (q.1<x.Day)):=fun x hx=>by
      rw [hlast,show (q.2 != 0) = !(q.2 == 0) from rfl]
      cases (q.2 == 0)
      · simp only [Bool.not_false,dG,Bool.false_and];exact det hx
      simp only [Bool.not_true,eu,Bool.true_and]
      rw [← decide_not];exact decide_eq_decide.2 (by omega)
    generalize hd0:S[j]=d0 at *
    refine (rl (l:=S) (by omega) (fun i (a:ByteArray×Bool×Int)=>(i,a.1,a.2.1,a.2.2)) (Bc (nF d0.Day)) (fun a=>a) (fun _ _=>True) (d0.Country,false,d0.Amount) trivial (fun k hk a _=>⟨by
        obtain ⟨c,p,v⟩:=a
        have hx:=(hS _ (List.getElem_mem hk)).2
        have hst:=step _ hx
        dsimp only
        rw [uS hk,dG,iV hk (by omega)]
        have hin:(Option.bind (idx S (k:Int)) (fun m80=>cond (m80.Kind == 2) (some (c,true,v)) (cond (m80.Kind == 3) (Option.bind (idx S (k:Int)) (fun m83=>some (c,p,m83.Amount))) (cond (m80.Kind == 4) (Option.bind (idx S (k:Int)) (fun m85=>some (m85.Country,p,v))) (some (c,p,v))))))=some (cond (S[k].Kind == 2) (c,true,v) (cond (S[k].Kind == 3) (c,p,S[k].Amount) (cond (S[k].Kind == 4) (S[k].Country,p,v) (c,p,v)))):=by
          rw [bV hk]
          simp only [dn]
          cases (S[k].Kind == 2) <;> cases (S[k].Kind == 3) <;> cases (S[k].Kind == 4) <;> rfl
        unfold Bc
        rw [hst]
        cases hq:(q.2 == 0) with
        | false =>
          rw [kJ,dn]
          simp only [Bool.false_and,eu,Bool.not_false,dG]
          rw [hin,dn]
        | true =>
          rw [dH,bV hk,dn]
          simp only [Bool.true_and]
          cases decide (q.1<S[k].Day) with
          | true=>rfl
          | false =>
            simp only [eu,Bool.not_false,dG]
            rw [bV hk] at hin
            rw [hin,dn],trivial⟩) (fun a _=>by dsimp only;rw [mw];rfl)).1.trans ?_
    rw [uN]
    dsimp only
    refine (rl (l:=f.Facts) (by omega) (fun i (a:Int)=>(i,a)) (fun s x=>cond (x.Kind == 5) (ex f.Units x.Amount) s) (fun a=>a) (fun _ _=>True) 0 trivial (fun k hk a _=>⟨by
        dsimp only
        rw [uS hk,dG,iV hk (by omega),bV hk,dn]
        cases (f.Facts[k].Kind == 5)
        · rfl
        simp only [dG,dn],trivial⟩) (fun a _=>by dsimp only;rw [mw];rfl)).1.trans ?_
    rw [uO f.Units f.Facts 0 fun x hx=>(hday x hx).2]
def k0 (W:World):Kr:=⟨W,fun b=>b<W.heap.size⟩
theorem dh {t:Nat} {z:Value} {s b:Nat} (h:fS t=some (z,s,b)):Tryz.prog.cellsOf t=s∧Tryz.prog.bytesOf t=b:=by
 obtain ⟨i,h1,h2,h3,h4⟩:=oz h
 constructor
 ·simp [Program.cellsOf,h1,h3]
 simp [Program.bytesOf,h1,h4]
def Light {H:Type} (t:Nat) (d:DataW H):Prop:=∀ n∈d.weights Tryz.prog t,n≤reachBytes
theorem Ek {H:Type} (d:DataW H):1≤Rows.uptoBulk d:=by
 cases d with
 | lit l=>cases l <;> simp [Rows.uptoBulk]
 | nil=>simp [Rows.uptoBulk]
 | ptr d=>simp [Rows.uptoBulk]
 | slice elems spare=>simp [Rows.uptoBulk]
 | agg parts=>simp [Rows.uptoBulk]
 | iface t d=>simp [Rows.uptoBulk]
 | map entries=>simp [Rows.uptoBulk]
 | held h=>simp [Rows.uptoBulk]
theorem Ce {H:Type} {d:DataW H} {l:List (DataW H)} (h:d∈l):Rows.uptoBulk d≤Rows.uptoBulkAll l:=by
 induction l with
 | nil=>cases h
 | cons x r ih =>
  simp only [Rows.uptoBulkAll]
  cases List.mem_cons.1 h with
  | inl e=>subst e;omega
  | inr e=>have:=ih e;omega
theorem El {H:Type} (l:List (DataW H)):l.length≤Rows.uptoBulkAll l:=by
 induction l with
 | nil=>simp [Rows.uptoBulkAll]
 | cons x r ih=>have:=Ek x;simp only [Rows.uptoBulkAll,List.length_cons];omega
def Opens {H:Type} (eh:TypeId×Value→H) {α:Type} (n:Nat) (t:Nat) (e:α→List PV) (B:α→Prop):Prop :=
 ∀ (W:World) (fuel:Nat) (cs:List Value) (x:DataW H×List MemPlace),DataW.trod eh Tryz.prog W 0 (fun _=>true) true fuel t cs=some x→Light t x.1→Rows.uptoBulk x.1≤n→∃ m,Rps (k0 W) (e m) cs∧One cs∧B m
section
variable {H:Type} {eh:TypeId×Value→H} {nb:Nat}
theorem Em {v:Value} (h:v.oneCell'=true):One [v]:=fun u hu=>by rw [List.mem_singleton.1 hu];exact h
theorem Cf {t:Nat} {k:IntKind} (h:eW t=some (.int k)):Opens eh nb t (fun x:Int=>[.v (.int k x)]) (fun _=>True):=fun W fuel cs x hx _ _=>by
 obtain ⟨n,rfl,_,_⟩:=DataW.trod_int (bW h) hx
 exact ⟨n,.cons (.v rfl) .nil,Em rfl,trivial⟩
theorem Ai {t:Nat} (h:eW t=some .bool):Opens eh nb t eT (fun _=>True):=fun W fuel cs x hx _ _=>by
 obtain ⟨n,rfl,_⟩:=DataW.trod_bool (bW h) hx
 exact ⟨n,.cons (.v rfl) .nil,Em rfl,trivial⟩
theorem Cg {t:Nat} (h:eW t=some .string):Opens eh nb t eS (fun _=>True):=fun W fuel cs x hx hw _=>by
 obtain ⟨s,rfl,rfl,_⟩:=DataW.trod_string (bW h) hx
 have:=hw s.data.toList.length (by simp [DataW.weights])
 refine ⟨s,.cons (.v ?_) .nil,Em rfl,trivial⟩
 unfold reachBytes at this
 have e:s.data.toList.length=s.size:=by simp
 exact Nat.ble_eq_true_of_le (by omega)
theorem ot {e:Nat}:∀ {l:List (DataW H)} {d:DataW H} {n:Nat},d∈l→n∈d.weights Tryz.prog e→n∈DataW.weightsAll Tryz.prog e l
 | d'::l,d,n,hd,hn=>by
  simp only [DataW.weightsAll,List.mem_append]
  rcases List.mem_cons.1 hd with rfl | hd
  ·exact .inl hn
  exact .inr (ot hd hn)
theorem Bd {α β:Type} {R:α→β→Prop}:∀ (l:List β),(∀ b∈l,∃ a,R a b)→∃ la:List α,la.length=l.length∧∀ (i:Nat) (b:β),l[i]?=some b→∃ a,la[i]?=some a∧R a b
 | [],_=>⟨[],rfl,fun i b h=>by simp at h⟩
 | b::l,h=>by
  obtain ⟨a,ha⟩:=h b (by simp)
  obtain ⟨la,h1,h2⟩:=Bd l fun b hb=>h b (by simp [hb])
  refine ⟨a::la,by simp [h1],fun i b' hb=>?_⟩
  cases i with
  | zero=>simp only [List.getElem?_cons_zero,eF] at hb;subst hb;exact ⟨a,rfl,ha⟩
  | succ i=>simp only [List.getElem?_cons_succ] at hb ⊢;exact h2 i b' hb
def OpensN {H:Type} (eh:TypeId×Value→H) {α:Type} (N n:Nat) (t:Nat) (e:α→List PV) (B:α→Prop):Prop :=
 ∀ (W:World) (fuel:Nat) (cs:List Value) (x:DataW H×List MemPlace),fuel<N→DataW.trod eh Tryz.prog W 0 (fun _=>true) true fuel t cs=some x→Light t x.1→Rows.uptoBulk x.1≤n→∃ m,Rps (k0 W) (e m) cs∧One cs∧B m
theorem xm {α:Type} {N t E sz by':Nat} {z:Value} {e:α→List PV} {B:α→Prop} (hu:eW t=some (.slice E)) (hi:fS E=some (z,sz,by')) (h0:Nat.blt 0 sz=true) (hb0:Nat.blt 0 by'=true) (hE:OpensN eh N nb E e B):OpensN eh (N+1) nb t (eL e) (fun l=>l.length*by'≤140737488355328∧l.length≤nb∧∀ x∈l,B x):=fun W fuel cs x hfu hx hw hbk=>by
 obtain ⟨hcz,hby⟩:=dh hi
 have hsz:0<sz:=by have:=h0;simp [Nat.blt] at this;omega
 have hbp:0<by':=by have:=hb0;simp [Nat.blt] at this;omega
 rcases DataW.trod_slice (bW hu) hx with ⟨rfl,_⟩ | ⟨a,len,cap,elems,rest,n,rfl,rfl,rfl,_,hl,hm,hlen,hel,_,_⟩
 ·exact ⟨[],.cons (.slc (sz:=sz) (css:=[]) Sl.nil (Nat.zero_le _) (fun _ h=>by cases h) .nil) .nil,Em rfl,by simp,Nat.zero_le _,fun _ h=>by cases h⟩
 rw [hcz] at hel
 have hwl:(elems.length+rest.length)*by'≤reachBytes:=by
  have:=hw ((elems.length+rest.length)*by') (by simp only [DataW.weights,bW hu,hby,List.length_map];exact List.mem_cons_self)
  exact this
 have hn:len≤140737488355328:=by
  unfold reachBytes at hwl
  have:elems.length*1≤(elems.length+rest.length)*by':=Nat.mul_le_mul (by omega) (by omega)
  omega
 have hcells:∀ i∈List.range len,∃ p:α×List Value,W.cells? 0 (a.add (i*sz)) sz=some p.2∧Rps (k0 W) (e p.1) p.2∧One p.2∧B p.1:=fun i hi'=>by
  have hi':i<len:=List.mem_range.1 hi'
  have h1:=hel i hi'
  have hlt:i<elems.length:=by omega
  rw [List.getElem?_eq_getElem hlt] at h1
  obtain ⟨cs,h2,h3⟩:=Option.bind_eq_some_iff.1 h1
  obtain ⟨m,k1,k2,k3⟩:=hE W n cs _ (by omega) h3 (fun q hq=>hw q (by
   simp only [DataW.weights,bW hu]
   exact List.mem_cons_of_mem _ (List.mem_append.2 (.inl (ot (List.mem_map.2 ⟨_,List.getElem_mem hlt,rfl⟩) hq))))) (by
   have h9:=Ce (l:=elems.map (·.1)) (List.mem_map.2 ⟨_,List.getElem_mem hlt,rfl⟩)
   simp only [Rows.uptoBulk] at hbk
   omega)
  exact ⟨(m,cs),h2,k1,k2,k3⟩
 obtain ⟨ps,g1,g2⟩:=Bd (R:=fun (p:α×List Value) i=>W.cells? 0 (a.add (i*sz)) sz=some p.2∧Rps (k0 W) (e p.1) p.2∧One p.2∧B p.1) (List.range len) hcells
 rw [List.length_range] at g1
 have g3:∀ (i:Nat) (p:α×List Value),ps[i]?=some p→W.cells? 0 (a.add (i*sz)) sz=some p.2∧Rps (k0 W) (e p.1) p.2∧One p.2∧B p.1:=fun i p hp=>by
  have hlt:=(List.getElem?_eq_some_iff.1 hp).1
  obtain ⟨p',h1,h2⟩:=g2 i i (by rw [List.getElem?_range (by omega)])
  rw [hp] at h1;injection h1 with h1;subst h1;exact h2
 have hps:(ps.map (·.1)).length=len:=by simp [g1]
 refine ⟨ps.map (·.1),?_,Em rfl,?_,?_,?_⟩
 rotate_left
 ·rw [hps]
  have h9:len*by'≤(elems.length+rest.length)*by':=Nat.mul_le_mul_right _ (by omega)
  unfold reachBytes at hwl
  omega
 ·rw [hps]
  have h9:=El (elems.map (·.1))
  rw [List.length_map] at h9
  simp only [Rows.uptoBulk] at hbk
  omega
 ·intro x hx
  obtain ⟨p,hp,rfl⟩:=List.mem_map.1 hx
  obtain ⟨i,hi',rfl⟩:=List.getElem_of_mem hp
  exact (g3 i _ (List.getElem?_eq_getElem hi')).2.2.2
 unfold eL;rw [hps]
 refine .cons (.slc (sz:=sz) (css:=ps.map (·.2)) ⟨by simp [g1],hl,?_,?_⟩ hn ?_ ?_) .nil
 ·intro c hc
  obtain ⟨p,hp,rfl⟩:=List.mem_map.1 hc
  obtain ⟨i,hi',rfl⟩:=List.getElem_of_mem hp
  exact (World.cells?_some (g3 i _ (List.getElem?_eq_getElem hi')).1).2.1
 ·intro hpos
  have hp0:0<ps.length:=by omega
  have hc0:=(World.cells?_some (g3 0 _ (List.getElem?_eq_getElem hp0)).1)
  have hread:=hc0.2.2 0 hsz
  have hspot:a.spot=none:=by
   have hlt:0<(ps[0]).2.length:=by rw [hc0.2.1];exact hsz
   rw [List.getElem?_eq_getElem hlt] at hread
   unfold World.cell? at hread
   cases hs:a.spot with
   | none=>rfl
   | some q =>
    have hsp:((a.add (0*sz)).add 0).spot.isSome=true:=by simp [Addr.add,hs]
    split at hread
    ·rw [if_pos hsp] at hread;cases hread
    cases hread
  obtain ⟨ab,ao,asp⟩:=a
  simp only at hspot;subst hspot
  refine ⟨ab,ao,rfl,fun j c hj=>?_⟩
  rw [List.getElem?_map] at hj
  cases hpj:ps[j]? with
  | none=>rw [hpj] at hj;cases hj
  | some p =>
   rw [hpj] at hj;simp only [Option.map_some,eF] at hj;subst hj
   have hcj:=World.cells?_some (g3 j p hpj).1
   refine ⟨?_,fun i u hu'=>?_⟩
   ·have h1:=hcj.2.2 0 hsz
    have hlt:0<p.2.length:=by rw [hcj.2.1];exact hsz
    rw [List.getElem?_eq_getElem hlt,fK,fK] at h1
    unfold World.cell? at h1
    split at h1
    ·rename_i heq
     have:=lh heq
     exact this
    cases h1
   have hlt:i<sz:=by have:=(List.getElem?_eq_some_iff.1 hu').1;omega
   have h1:=hcj.2.2 i hlt
   rw [fK,fK] at h1
   rw [← hu'];exact h1
 ·intro c hc
  obtain ⟨p,hp,rfl⟩:=List.mem_map.1 hc
  obtain ⟨i,hi',rfl⟩:=List.getElem_of_mem hp
  exact (g3 i _ (List.getElem?_eq_getElem hi')).2.2.1
 have:∀ (l:List (α×List Value)),(∀ p∈l,Rps (k0 W) (e p.1) p.2)→Rpss (k0 W) ((l.map (·.1)).map e) (l.map (·.2)):=fun l=>by
  induction l with
  | nil=>exact fun _=>.nil
  | cons p l ih=>exact fun h=>.cons (h p (by simp)) (ih fun q hq=>h q (by simp [hq]))
 refine this ps fun p hp=>?_
 obtain ⟨i,hi',rfl⟩:=List.getElem_of_mem hp
 exact (g3 i _ (List.getElem?_eq_getElem hi')).2.1
theorem sf {α:Type} {t E sz by':Nat} {z:Value} {e:α→List PV} {B:α→Prop} (hu:eW t=some (.slice E)) (hi:fS E=some (z,sz,by')) (h0:Nat.blt 0 sz=true) (hb0:Nat.blt 0 by'=true) (hE:Opens eh nb E e B):Opens eh nb t (eL e) (fun l=>l.length*by'≤140737488355328∧l.length≤nb∧∀ x∈l,B x):=fun W fuel cs x hx hw =>
 xm (N:=fuel) hu hi h0 hb0 (fun W' f' cs' x' _=>hE W' f' cs' x') W fuel cs x (Nat.lt_succ_self _) hx hw
theorem iy {κ:Kr} {cs:List Value} {off sz:Nat} {ps qs:List PV} (h:Rps κ ps ((cs.drop off).take sz)) (h2:Rps κ qs (cs.drop (off+sz))):Rps κ (ps++qs) (cs.drop off):=by
 have e:cs.drop off=(cs.drop off).take sz++cs.drop (off+sz):=by rw [← List.drop_drop,List.take_append_drop]
 rw [e];exact h.app h2
theorem iz {cs:List Value} {off sz:Nat} (h:One ((cs.drop off).take sz)) (h2:One (cs.drop (off+sz))):One (cs.drop off):=by
 have e:cs.drop off=(cs.drop off).take sz++cs.drop (off+sz):=by rw [← List.drop_drop,List.take_append_drop]
 rw [e];exact fun u hu=>(List.mem_append.1 hu).elim (h u) (h2 u)
theorem Be {κ:Kr} {cs:List Value} {off:Nat} (h:cs.length=off):Rps κ [] (cs.drop off):=by rw [List.drop_of_length_le (by omega)];exact .nil
theorem Bf {cs:List Value} {off:Nat} (h:cs.length=off):One (cs.drop off):=by rw [List.drop_of_length_le (by omega)];exact fun _ h=>by cases h
end
end SX
end Go.Proofs.YtmgcadfnkchnfaaGreatDoor
set_option maxRecDepth 100000
namespace Go.Proofs.YtmgcadfnkchnfaaGreatDoor
open Go Go.ChangeShapes Go.WideShapes Go.RowKit
namespace SX
theorem own_ok:ownKnob Tryz.prog.godebug=none:=by kernel_rfl
theorem Aj:laidOutB Tryz.prog=true:=by kernel_rfl
def sg:List (String×DataW Unit):=[("unicode/utf8.acceptRanges",Rows.laid_unicode_utf8_acceptRanges),("customs/calendar.monthLengths",Rows.laid_customs_calendar_monthLengths),("customs/nomenclature.lengths",Rows.laid_customs_nomenclature_lengths),("unicode/utf8.first",Rows.laid_unicode_utf8_first)]
mutual
def Ak:DataW Unit→List Value
 | .lit (.int k n)=>[.int k n]
 | .agg ds=>Bg ds
 | _=>[]
def Bg:List (DataW Unit)→List Value
 | []=>[]
 | d::r=>Ak d++Bg r
end
def lg:Array Value:=(Ak Rows.laid_unicode_utf8_acceptRanges).toArray
def dS:Array Value:=#[.int .i64 31,.int .i64 28,.int .i64 31,.int .i64 30,.int .i64 31,.int .i64 30,.int .i64 31,.int .i64 31,.int .i64 30,.int .i64 31,.int .i64 30,.int .i64 31]
def eo:Array Value:=#[.int .i64 2,.int .i64 4,.int .i64 6,.int .i64 8]
def qT:Array Value:=(Ak Rows.laid_unicode_utf8_first).toArray
def Bh (h:Array Obj) (g:Nat) (cs:Array Value):Array Obj:=h.modify g fun | .cells _ t frozen=>.cells cs t frozen | o=>o
noncomputable def laidWorld (os:Os):World :=
 { World.holding Tryz.prog os ⟨#[],#[],[]⟩ with heap:=Bh (Bh (Bh (Bh (World.holding Tryz.prog os ⟨#[],#[],[]⟩).heap 5 lg) 1 dS) 0 eo) 4 qT }
theorem pV:(sg.filter fun x=>x.2.handleName?.isSome)=[]:=by kernel_rfl
def En (w:World):MemPlace→Bool
 | .cell b off=>match w.heap[b]? with
  | some (.cells c _ (0,0))=>match c[off]? with | some (.iface _ _)=>false | _=>true
  | _=>false
 | _=>true
theorem Al {w:World} {ps:List MemPlace} (h:ps.all (En w)=true):∀ b off,MemPlace.cell b off∈ps→(∃ c t,w.heap[b]?=some (.cells c t (0,0)))∧∀ u v,w.cell? ⟨b,off,none⟩=some (.iface u v)→Value.okWide Tryz.prog w .any 0 u v:=fun b off hm=>by
 have:=List.all_eq_true.1 h _ hm
 unfold En at this
 split at this
 ·rename_i b' off' e
  injection e with e1 e2;subst e1;subst e2
  split at this
  ·rename_i c t heq
   refine ⟨⟨c,t,heq⟩,fun u v hc=>?_⟩
   simp only [World.cell?,heq] at hc
   split at this
   ·cases this
   rename_i hno;exact absurd hc (by simpa using hno u v)
  cases this
 rename_i hno;exact absurd rfl (hno b off)
theorem uZ (os:Os) (args:Array Value):laidMetH Tryz.prog sg ((laidWorld os).forCall (fun _ _=>0) ⟨#[],args,[]⟩).memory:=by
 unfold laidMetH
 rw [pV]
 refine ⟨_,⟨5,255,lg,8,[],_,by kernel_rfl,by kernel_rfl,by kernel_rfl,by kernel_rfl,⟨1,217,dS,8,[],_,by kernel_rfl,by kernel_rfl,by kernel_rfl,by kernel_rfl,⟨0,190,eo,8,[],_,by kernel_rfl,by kernel_rfl,by kernel_rfl,by kernel_rfl,⟨4,252,qT,8,[],_,by kernel_rfl,by kernel_rfl,by kernel_rfl,by kernel_rfl,rfl,rfl⟩,rfl⟩,rfl⟩,rfl⟩,?_,?_⟩
 ·exact of_decide_eq_true (by kernel_rfl)
 exact Al (by kernel_rfl)
theorem de {H:Type} {eh:TypeId×Value→H} {P:Program} {w:World} {base:Nat} {sp:Nat→Bool} {held:Bool} {fuel:Nat} {t:TypeId} {k:IntKind} {c:Value} {y:DataW H×List MemPlace} (ht:P.underlying t=some (.int k)) (h:DataW.trod eh P w base sp held fuel t [c]=some y):∃ n,c=.int k n∧y=(.lit (.int k n),[]):=by
 obtain ⟨n,h1,h2,_⟩:=DataW.trod_int ht h
 injection h1 with h1 _
 exact ⟨n,h1,h2⟩
theorem laid_ml {W:World} (h:laidMetH Tryz.prog sg W):Sh (k0 W) 1 0 [.int .i64 31,.int .i64 28,.int .i64 31,.int .i64 30,.int .i64 31,.int .i64 30,.int .i64 31,.int .i64 31,.int .i64 30,.int .i64 31,.int .i64 30,.int .i64 31]:=by
 unfold laidMetH at h
 rw [pV] at h
 obtain ⟨ps,⟨_,_,_,_,_,_,_,_,_,_,⟨g,t,cs,fuel,p,q,hg,ht,hvar,hd,_,_⟩,_⟩,_⟩:=h
 obtain rfl:=Option.some.inj ((show Tryz.prog.globalNamed "customs/calendar.monthLengths" = some 1 by kernel_rfl).symm.trans hg)
 obtain rfl:=Option.some.inj ((show (Tryz.prog.globals[1]?).map (·.type)=some 217 by kernel_rfl).symm.trans ht)
 have hcs:cs=dS:=by
  obtain ⟨l⟩:=cs
  cases fuel with
  | zero=>simp [DataW.trod] at hd
  | succ fuel =>
   have hc1:=(dh (t:=217) rfl).1
   have hc2:=(dh (t:=3) rfl).1
   have hu1:Tryz.prog.underlying 217=some (.array 12 3):=bW rfl
   simp only [DataW.trod,hu1,hc1,hc2] at hd
   split at hd
   ·rename_i hl
    obtain ⟨c0,c1,c2,c3,c4,c5,c6,c7,c8,c9,c10,c11,rfl⟩:∃ c0 c1 c2 c3 c4 c5 c6 c7 c8 c9 c10 c11,l=[c0,c1,c2,c3,c4,c5,c6,c7,c8,c9,c10,c11]:=by
     match l,hl with
     | [a0,a1,a2,a3,a4,a5,a6,a7,a8,a9,a10,a11],_=>exact ⟨a0,a1,a2,a3,a4,a5,a6,a7,a8,a9,a10,a11,rfl⟩
    have e:List.range 12=[0,1,2,3,4,5,6,7,8,9,10,11]:=rfl
    rw [e] at hd
    simp only [Option.map_eq_some_iff,List.mapM_cons,List.mapM_nil,Option.bind_eq_bind,Option.bind_eq_some_iff,Option.pure_def,eF] at hd
    obtain ⟨xs,⟨y0,h0,_,⟨y1,h1,_,⟨y2,h2,_,⟨y3,h3,_,⟨y4,h4,_,⟨y5,h5,_,⟨y6,h6,_,⟨y7,h7,_,⟨y8,h8,_,⟨y9,h9,_,⟨y10,h10,_,⟨y11,h11,_,rfl,rfl⟩,rfl⟩,rfl⟩,rfl⟩,rfl⟩,rfl⟩,rfl⟩,rfl⟩,rfl⟩,rfl⟩,rfl⟩,rfl⟩,hx⟩:=hd
    have hui:Tryz.prog.underlying 3=some (.int .i64):=bW rfl
    obtain ⟨n0,rfl,rfl⟩:=de hui h0
    obtain ⟨n1,rfl,rfl⟩:=de hui h1
    obtain ⟨n2,rfl,rfl⟩:=de hui h2
    obtain ⟨n3,rfl,rfl⟩:=de hui h3
    obtain ⟨n4,rfl,rfl⟩:=de hui h4
    obtain ⟨n5,rfl,rfl⟩:=de hui h5
    obtain ⟨n6,rfl,rfl⟩:=de hui h6
    obtain ⟨n7,rfl,rfl⟩:=de hui h7
    obtain ⟨n8,rfl,rfl⟩:=de hui h8
    obtain ⟨n9,rfl,rfl⟩:=de hui h9
    obtain ⟨n10,rfl,rfl⟩:=de hui h10
    obtain ⟨n11,rfl,rfl⟩:=de hui h11
    simp [Rows.laid_customs_calendar_monthLengths] at hx
    obtain ⟨⟨rfl,rfl,rfl,rfl,rfl,rfl,rfl,rfl,rfl,rfl,rfl,rfl⟩,_⟩:=hx
    rfl
   cases hd
 subst hcs
 have hcell:∀ j u,dS[j]?=some u→W.cell? ⟨1,j,none⟩=some u:=fun j u hu=>by
  have:=World.var?_cell hg hvar j
  rw [this];exact hu
 refine ⟨?_,fun j u hu=>?_⟩
 ·have h0:=hcell 0 _ rfl
  unfold World.cell? at h0
  split at h0
  ·rename_i heq;exact lh heq
  cases h0
 rw [Nat.zero_add];exact hcell j u (by simpa [dS] using hu)
theorem Eo {W:World} (h:laidMetH Tryz.prog sg W):Sh (k0 W) 0 0 [.int .i64 2,.int .i64 4,.int .i64 6,.int .i64 8]:=by
 unfold laidMetH at h
 rw [pV] at h
 obtain ⟨ps,⟨_,_,_,_,_,_,_,_,_,_,⟨_,_,_,_,_,_,_,_,_,_,⟨g,t,cs,fuel,p,q,hg,ht,hvar,hd,_,_⟩,_⟩,_⟩,_⟩:=h
 obtain rfl:=Option.some.inj ((show Tryz.prog.globalNamed "customs/nomenclature.lengths" = some 0 by kernel_rfl).symm.trans hg)
 obtain rfl:=Option.some.inj ((show (Tryz.prog.globals[0]?).map (·.type)=some 190 by kernel_rfl).symm.trans ht)
 have hcs:cs=eo:=by
  obtain ⟨l⟩:=cs
  cases fuel with
  | zero=>simp [DataW.trod] at hd
  | succ fuel =>
   have hc1:=(dh (t:=190) rfl).1
   have hc2:=(dh (t:=3) rfl).1
   have hu1:Tryz.prog.underlying 190=some (.array 4 3):=bW rfl
   simp only [DataW.trod,hu1,hc1,hc2] at hd
   split at hd
   ·rename_i hl
    obtain ⟨c0,c1,c2,c3,rfl⟩:∃ c0 c1 c2 c3,l=[c0,c1,c2,c3]:=by
     match l,hl with
     | [a0,a1,a2,a3],_=>exact ⟨a0,a1,a2,a3,rfl⟩
    have e:List.range 4=[0,1,2,3]:=rfl
    rw [e] at hd
    simp only [Option.map_eq_some_iff,List.mapM_cons,List.mapM_nil,Option.bind_eq_bind,Option.bind_eq_some_iff,Option.pure_def,eF] at hd
    obtain ⟨xs,⟨y0,h0,_,⟨y1,h1,_,⟨y2,h2,_,⟨y3,h3,_,rfl,rfl⟩,rfl⟩,rfl⟩,rfl⟩,hx⟩:=hd
    have hui:Tryz.prog.underlying 3=some (.int .i64):=bW rfl
    obtain ⟨n0,rfl,rfl⟩:=de hui h0
    obtain ⟨n1,rfl,rfl⟩:=de hui h1
    obtain ⟨n2,rfl,rfl⟩:=de hui h2
    obtain ⟨n3,rfl,rfl⟩:=de hui h3
    simp [Rows.laid_customs_nomenclature_lengths] at hx
    obtain ⟨⟨rfl,rfl,rfl,rfl⟩,_⟩:=hx
    rfl
   cases hd
 subst hcs
 have hcell:∀ j u,eo[j]?=some u→W.cell? ⟨0,j,none⟩=some u:=fun j u hu=>by
  have:=World.var?_cell hg hvar j
  rw [this];exact hu
 refine ⟨?_,fun j u hu=>?_⟩
 ·have h0:=hcell 0 _ rfl
  unfold World.cell? at h0
  split at h0
  ·rename_i heq;exact lh heq
  cases h0
 rw [Nat.zero_add];exact hcell j u (by simpa [eo] using hu)
theorem za {W:World} (h:laidMetH Tryz.prog sg W):GOK (k0 W):=⟨Eo h,laid_ml h⟩
end SX
end Go.Proofs.YtmgcadfnkchnfaaGreatDoor
set_option maxRecDepth 100000
namespace Go.Proofs.YtmgcadfnkchnfaaGreatDoor
open Go Go.ChangeShapes Go.WideShapes Go.RowKit
namespace SX
theorem inv0 (W:World):Zl ⟨k0 W,[],none⟩ [] (k0 W):=⟨.refl _ _,fun _ h=>h,(fun _ h=>by cases h),(fun _ h=>by cases h),.nil⟩
theorem Ep {W:World} {ρ:List Res} {κ:Kr} (h:Zl ⟨k0 W,[],none⟩ ρ κ):Below W.heap.size W κ.w:=⟨h.le.os,h.le.tape,h.le.output,h.le.kle.size,fun k hk=>h.le.same k hk (by simp)⟩
section
variable {H:Type} {eh:TypeId×Value→H}
theorem u6 {W W':World} (hb:Below W.heap.size W W') {ts:List TypeId} (hr:∀ t∈ts,Tryz.prog.readableRec t=true∧t<Tryz.prog.types.size):∀ {vs:List Value} {ds:List (DataW H)} {ps:List MemPlace},DataW.TrodAll eh Tryz.prog W 0 (fun _=>true) true ts vs ds ps→(∀ p∈ps,p.block<W.heap.size)→DataW.TrodAll eh Tryz.prog W' 0 (fun b=>decide (b<W.heap.size)) true ts vs ds ps:=by
 induction ts with
 | nil=>intro vs ds ps h _;cases vs <;> cases ds <;> first | exact h | cases h
 | cons t ts ih =>
  intro vs ds ps h hlt
  cases vs with
  | nil=>cases h
  | cons v vs =>
   cases ds with
   | nil=>cases h
   | cons d ds =>
    obtain ⟨p,q,h1,h2,e⟩:=h
    have ht:=hr t (by simp)
    exact ⟨p,q,Below.trod Aj ht.1 ht.2 h1 hb (fun x hx=>hlt x (by rw [e];simp [hx])),ih (fun u hu=>hr u (by simp [hu])) h2 (fun x hx=>hlt x (by rw [e];simp [hx])),e⟩
theorem readB {ts:List TypeId} (h:(ts.all fun t=>Tryz.prog.readableRec t&&Nat.blt t Tryz.prog.types.size)=true):∀ t∈ts,Tryz.prog.readableRec t=true∧t<Tryz.prog.types.size:=fun t ht=>by
 have:=List.all_eq_true.1 h t ht
 rw [Bool.and_eq_true] at this
 exact ⟨this.1,by have h2:=this.2;exact Nat.le_of_ble_eq_true h2⟩
theorem Er {f tb:Nat} {fn:Func} {s:ChangeSpec} {W:World} {args:Array Value} {ds gs:List (DataW H)} {before:List MemPlace} {pargs:List PV}
    (hrd:∀ t∈fn.params.toList,Tryz.prog.readableRec t=true∧t<Tryz.prog.types.size) (hres:fn.resultTypes=#[tb]) (hub:Tryz.prog.underlying tb=some .bool) (hvars:s.vars=[])
    (hspec:s.fn H ds={ results:=[.lit (.bool true)],args:=ds }) (hW:DataW.Whole eh Tryz.prog fn.params.toList s.vars false W args.toList ds gs before) (hG:GOK (k0 W)) (hargs:Rps (k0 W) pargs args.toList) (hPF:PF f pargs (.v (.bool true))) :
    Calls Tryz.prog f args W fun e W'=>∃ v,e=.returned v∧s.post eh Tryz.prog fn false true false false W args v W':=by
  have hc:=(hPF (k0 W) args.toList hG hargs).2 (inv0 W)
  have e:args.toList.toArray=args:=by simp
  rw [e] at hc
  refine Calls.mono hc fun en W' ⟨v,ρ',κ',h1,h2,h3,h4,h5⟩=>⟨v,h1,?_⟩
  subst h2
  have hv:=h5.val
  subst hv
  have hb:=Ep h3
  have hW':=hW
  obtain ⟨p,q,hA,hV,rfl,hfz,hnd⟩:=hW
  rw [hvars] at hV
  obtain ⟨rfl,rfl⟩:gs=[]∧q=[]:=by
    cases gs with
    | nil=>exact ⟨rfl,hV⟩
    | cons g r=>exact absurd hV (by intro h;cases h)
  refine ⟨ds,[],_,[],p,[],hW',?_,?_,?_,hb.frame _,fun h=>by cases h⟩
  · rw [List.append_nil,hspec,hres];exact trodAll_mk1 (shut_bool hub true)
  · rw [List.append_nil,hspec];exact u6 hb hrd hA (DataW.TrodAll.lt hA)
  rw [hvars,List.append_nil,hspec];rfl
theorem trodAll_cons {W:World} {t:TypeId} {ts:List TypeId} {vs:List Value} {ds:List (DataW H)} {ps:List MemPlace} (h:DataW.TrodAll eh Tryz.prog W 0 (fun _=>true) true (t::ts) vs ds ps):∃ v vs' d ds' p q,vs=v::vs'∧ds=d::ds'∧DataW.Trod eh Tryz.prog W 0 (fun _=>true) true t v d p∧DataW.TrodAll eh Tryz.prog W 0 (fun _=>true) true ts vs' ds' q:=by
 cases vs with
 | nil=>cases h
 | cons v vs =>
  cases ds with
  | nil=>cases h
  | cons d ds=>obtain ⟨p,q,h1,h2,_⟩:=h;exact ⟨v,vs,d,ds,p,q,rfl,rfl,h1,h2⟩
theorem trodAll_nil {W:World} {vs:List Value} {ds:List (DataW H)} {ps:List MemPlace} (h:DataW.TrodAll eh Tryz.prog W 0 (fun _=>true) true [] vs ds ps):vs=[]∧ds=[]:=by
 cases vs <;> cases ds <;> first | exact ⟨rfl,rfl⟩ | cases h
theorem zb {l:Array TypeId} (h:(l.toList.all fun t => !Tryz.prog.wantsStandIn t)=true) {j:Nat} {t:TypeId} (ht:l[j]?=some t):Tryz.prog.wantsStandIn t=false:=by
 have:=List.all_eq_true.1 h t (by have:=Array.mem_of_getElem? ht;simpa using this)
 simpa using this
theorem light_head {t:Nat} {ts:List Nat} {d:DataW H} {ds:List (DataW H)} (h:(DataW.weightsEach Tryz.prog (t::ts) (d::ds)).all (· ≤ reachBytes)=true):Light t d∧(DataW.weightsEach Tryz.prog ts ds).all (· ≤ reachBytes)=true:=by
 simp only [DataW.weightsEach,List.all_append,Bool.and_eq_true] at h
 exact ⟨fun n hn=>by simpa using List.all_eq_true.1 h.1 n hn,h.2⟩
def uP:TypeDesc→Bool
 | .int _ | .bool | .string | .slice _=>true
 | _=>false
theorem not_agg {W:World} {r:Reach} {base t:Nat} {v:Value} {D:TypeDesc} (hu:eW t=some D) (hD:uP D=true) (h:Value.okWide Tryz.prog W r base t v):∀ cs,v.cells.toList=[cs]→v=cs:=fun cs he=>by
 cases v with
 | agg arr =>
  exfalso
  unfold Value.okWide at h
  rw [bW hu] at h
  cases D <;> first | (revert hD;simp [uP];done) | (simp only at h;unfold Cell.okWide at h;rw [bW hu] at h;simp only at h;unfold Cell.ok at h;rw [bW hu] at h;simp at h)
 | _=>simpa [Value.cells] using he
theorem arg_agg {nb:Nat} {W:World} {r:Reach} {base t:Nat} {v:Value} {D:TypeDesc} {α:Type} {e:α→List PV} {B:α→Prop} {d:DataW H} {ps:List MemPlace} (hu:eW t=some D) (hD:j5 D=true) (hO:Opens eh nb t e B) (h:Value.okWide Tryz.prog W r base t v) (hd:DataW.Trod eh Tryz.prog W 0 (fun _=>true) true t v d ps) (hl:Light t d) (hn:Rows.uptoBulk d≤nb):∃ m,Rp (k0 W) (.agg (e m)) v∧B m:=by
 obtain ⟨fuel,hf⟩:=hd
 obtain ⟨m,h1,h2,h9⟩:=hO W fuel _ _ hf hl hn
 have:∃ cs,v=.agg cs:=by
  unfold Value.okWide at h
  rw [bW hu] at h
  cases D <;> first | (revert hD;simp [j5];done) | (obtain ⟨cs,e,_⟩:=h;exact ⟨cs,e⟩)
 obtain ⟨cs,rfl⟩:=this
 refine ⟨m,?_,h9⟩
 have e2:(Value.agg cs)=.agg cs.toList.toArray:=by simp
 rw [e2]
 exact .agg h2 h1
theorem tc {nb:Nat} {W:World} {r:Reach} {base t:Nat} {v:Value} {D:TypeDesc} {α:Type} {e:α→List PV} {B:α→Prop} {d:DataW H} {ps:List MemPlace} (hu:eW t=some D) (hD:uP D=true) (hO:Opens eh nb t e B) (h1:∀ m,∃ p,e m=[p]) (h:Value.okWide Tryz.prog W r base t v) (hd:DataW.Trod eh Tryz.prog W 0 (fun _=>true) true t v d ps) (hl:Light t d) (hn:Rows.uptoBulk d≤nb):∃ m,Rps (k0 W) (e m) [v]∧B m:=by
 obtain ⟨fuel,hf⟩:=hd
 obtain ⟨m,h2,_,h9⟩:=hO W fuel _ _ hf hl hn
 refine ⟨m,?_,h9⟩
 obtain ⟨p,hp⟩:=h1 m
 rw [hp] at h2
 generalize hc:v.cells.toList=cs at h2
 obtain ⟨w,ws,rfl,h3,h4⟩:=h2.cons_inv
 rw [h4.nil_inv] at hc
 rw [not_agg hu hD h w hc,hp]
 exact .cons h3 .nil
end
theorem rps_str {κ:Kr} {ps:List PV} {vs:List Value} {k:Nat} {s:ByteArray} (h:Rps κ ps vs) (hk:ps[k]?=some (.v (.string s))):s.size≤140737488355328:=by
 obtain ⟨v,_,h2⟩:=h.get hk
 exact Nat.le_of_ble_eq_true h2.ok
theorem rps_agg {κ:Kr} {cs:List PV} {vs:List Value} (h:Rps κ [.agg cs] vs):∃ ds,Rps κ cs ds:=by
 obtain ⟨v,ws,rfl,h1,_⟩:=h.cons_inv
 cases h1 with
 | agg _ hc=>exact ⟨_,hc⟩
end SX
end Go.Proofs.YtmgcadfnkchnfaaGreatDoor
namespace Go.Proofs.YtmgcadfnkchnfaaGreatDoor
namespace SX
open Go
theorem Bi:ju=some true:=by kernel_rfl
theorem Am (f:Zk):(se f).1.Code=f.Code∨(se f).1.Code=ByteArray.empty:=by
 unfold se
 split
 ·exact .inr rfl
 exact .inl rfl
theorem Bj {f:Zk} (hc:f.Code.size≤140737488355328):∃ r:Zj×Bool,fX f=some r∧gD f=some r∧r.1.Code.size≤140737488355328:=by
 by_cases h:uH f=0
 ·have hf:=(qQ f).1 h
  refine ⟨se f,item_eq hf,Ej hf hc,?_⟩
  rcases Am f with e | e
  ·rw [e];exact hc
  rw [e];exact Nat.zero_le _
 refine ⟨(zItem,false),?_,?_,Nat.zero_le _⟩
 ·unfold fX
  rw [bS (sd f),bne_iff_ne.2 h];rfl
 unfold gD
 rw [bS (uJ f hc),bne_iff_ne.2 h];rfl
theorem An (l:List Zb) (x:Zj) (hp:∀ m∈l,m.Prefix.size≤8) (hc:x.Code.size≤140737488355328):∃ r,iN l x=some r∧kS l x=some r:=by
 refine ⟨((mn l x).1.Total,(mn l x).2),Aa l x ?_,?_⟩
 ·obtain ⟨r,e,_⟩:=yH x hc
  exact ⟨r,e⟩
 unfold kS
 rw [bS (z7 l x (fun m hm=>by have:=hp m hm;omega) hc)]
theorem zc (l:List Zb) (f:Zk) (hp:∀ m∈l,m.Prefix.size≤8) (hc:f.Code.size≤140737488355328):∃ r:Int,iO l f=some r∧iJ l f=some r:=by
 obtain ⟨x,e1,e2,hx⟩:=Bj hc
 obtain ⟨r,e3,e4⟩:=An l x.1 hp hx
 unfold iO iJ
 rw [bS e1,bS e2,bS e3,bS e4]
 cases x.2
 ·exact ⟨0,rfl,rfl⟩
 cases r.2 != 0
 ·exact ⟨r.1,rfl,rfl⟩
 exact ⟨0,rfl,rfl⟩
theorem Et:Y kN (fun t=>∀ m∈t.Measures,m.Prefix.size≤8):=by
 unfold kN
 obtain ⟨r,e⟩:∃ r,lj=some r:=⟨_,rfl⟩
 rw [bS e]
 refine Y.ret (fun m hm=>of_decide_eq_true ((List.all_eq_true (p:=fun m:Zb=>decide (m.Prefix.size≤8))).1 ?_ m hm))
 rfl
theorem Ao (c:Bool) (p:List Int) {t:Zs} (ht:∀ m∈t.Measures,m.Prefix.size≤8):Y (cond c (Option.bind (fU p) (fun x=>some x)) (some t.Measures)) (fun l=>∀ m∈l,m.Prefix.size≤8):=by
 refine Y.cond (fun _=>?_) (fun _=>Y.ret ht)
 obtain ⟨ms,e,_,h⟩:=yU p
 rw [bS e];exact Y.ret h
theorem Eu {f:Zk} (x:Za) (hc:f.Code.size≤140737488355328):Y (kL f x) (fun r=>r.2=0→r.1.Code=f.Code∧r.1.Facts.length≤f.Facts.length+1):=by
 unfold kL
 rw [bS (uJ f hc)]
 refine Y.cond (fun h=>Y.ret fun e=>absurd e (bne_iff_ne.1 h)) (fun h=>?_)
 have hf:=(qQ f).1 (by simpa using h)
 have hl:=hf.len
 rw [bS (yY x)]
 refine Y.cond (fun _=>Y.ret fun e=>absurd e (by decide)) (fun _=>?_)
 refine Y.bind (P:=fun s:Int=>∃ j:Nat,j≤f.Facts.length∧s=(j:Int)) ?_ ?_
 ·refine Y.loop (fun s:Int=>∃ j:Nat,j≤f.Facts.length∧s=(j:Int)) (fun s=>(f.Facts.length - s).toNat) ⟨0,Nat.zero_le _,rfl⟩ (by omega) ?_
  rintro s ⟨j,hj,rfl⟩
  rcases Nat.lt_or_ge j f.Facts.length with h | h
  ·rw [det (by omega:(j:Int)<(f.Facts.length:Int)),dH,bV h,dn,dH,uI,dn]
   refine Y.cond (fun _=>Y.ret ⟨⟨j+1,h,?_⟩,?_⟩) (fun _=>Y.ret ⟨j,hj,rfl⟩)
   ·rw [cj (by omega) (by omega)];omega
   rw [cj (by omega) (by omega)];omega
  rw [cD (by omega:¬ (j:Int)<(f.Facts.length:Int)),kJ]
  simp only [dn,kJ,Bool.false_and,eu]
  exact Y.ret ⟨j,hj,rfl⟩
 rintro s ⟨j,hj,rfl⟩
 have hins:Y (cond (decide (200≤(f.Facts.length:Int))) (some ((⟨0,ByteArray.empty,0,[]⟩:Zk),(8:Int))) (Option.bind (sub f.Facts 0 (j:Int)) (fun l23=>Option.bind (app 64 ([]:List Za) l23) (fun l24=>Option.bind (app 64 l24 [x]) (fun l30=>Option.bind (sub f.Facts (j:Int) (f.Facts.length:Int)) (fun l34=>Option.bind (app 64 l30 l34) (fun l35=>some ((⟨f.Source,f.Code,f.Units,l35⟩:Zk),(0:Int))))))))) (fun r=>r.2=0→r.1.Code=f.Code∧r.1.Facts.length≤f.Facts.length+1):=by
  refine Y.cond (fun _=>Y.ret fun e=>absurd e (by decide)) (fun _=>?_)
  rw [show (0:Int)=((0:Nat):Int) from rfl,wM (Nat.zero_le _) hj,dn,nY (by simp;omega) (by simp;omega),dn,nY (by simp;omega) (by simp;omega),dn,wM hj (Nat.le_refl _),dn,nY (by simp;omega) (by simp;omega),dn]
  exact Y.ret fun _=>⟨rfl,by simp;omega⟩
 rcases Nat.lt_or_ge j f.Facts.length with h | h
 ·rw [det (by omega:(j:Int)<(f.Facts.length:Int)),dH,bV h,dn,Bool.true_and]
  cases hb:(f.Facts[j].From == x.From) with
  | false =>
   rw [kJ,dn,Bool.false_and,eu];exact hins
  | true =>
   rw [dH,dn,Bool.true_and]
   refine Y.cond (fun _=>?_) (fun _=>hins)
   simp only [dn]
   exact Y.cond (fun _=>Y.ret fun e=>absurd e (by decide)) (fun _=>Y.ret fun _=>⟨rfl,Nat.le_succ _⟩)
 rw [cD (by omega:¬ (j:Int)<(f.Facts.length:Int)),kJ]
 simp only [dn,kJ,Bool.false_and,eu]
 exact hins
theorem rfile_Y (s u:Int) {c:ByteArray} (l:List Int) (hc:c.size≤140737488355328):Y (ly s c u l) (fun f=>f.Code=c∧f.Facts.length≤14):=by
 obtain ⟨fs,e,h1,_⟩:=facts_Y l
 unfold ly
 rw [bS e]
 refine Y.bind (P:=fun q:Int×ByteArray×Int×List Za=>q.2.1=c∧q.2.2.2.length≤14) ?_ (fun q hq=>Y.ret hq)
 refine Y.loop (fun q:Int×Int×ByteArray×Int×List Za=>∃ k:Nat,k≤fs.length∧q.1=(k:Int)∧q.2.2.1=c∧q.2.2.2.2.length≤k) (fun q=>(fs.length - q.1).toNat) ⟨0,Nat.zero_le _,rfl,rfl,Nat.le_refl _⟩ (by dsimp only;omega) ?_
 rintro ⟨i,a,b,d,t⟩ ⟨k,hk,hi,hb,ht⟩
 dsimp only at hi hb ht ⊢
 subst hi hb
 refine Y.cond (fun h=>?_) (fun h=>Y.ret ⟨rfl,by dsimp only;omega⟩)
 have h:k<fs.length:=by have:=of_decide_eq_true h;omega
 rw [bV h,dn]
 obtain ⟨r,er,hr⟩:=Eu (f:=⟨a,b,d,t⟩) fs[k] hc
 rw [bS er]
 dsimp only at hr
 have hm:(fs.length - IntKind.i64.wrap ((k:Int)+1)).toNat<(fs.length - (k:Int)).toNat:=by rw [cj (by omega) (by omega)];omega
 have hw:IntKind.i64.wrap ((k:Int)+1)=((k+1:Nat):Int):=by rw [cj (by omega) (by omega)];omega
 cases hz:(r.2 == 0) with
 | true =>
  have hr:=hr (eq_of_beq hz)
  exact Y.ret ⟨⟨k+1,h,hw,hr.1,by dsimp only;omega⟩,hm⟩
 | false=>exact Y.ret ⟨⟨k+1,h,hw,rfl,by dsimp only;omega⟩,hm⟩
theorem Ch {t:Zs} (ht:∀ m∈t.Measures,m.Prefix.size≤8) (c:Bool) (p1:List Int) {f:Zk} (hc:f.Code.size≤140737488355328):(Option.bind (cond c (Option.bind (fU p1) (fun x20=>some x20)) (some t.Measures)) (fun l17=>Option.bind (fX f) (fun x21=>Option.bind (gD f) (fun x23=>Option.bind (gd ((Zj.eqb x21.1 x23.1)&&(x21.2 == x23.2)) (iO l17 f)) (fun x25=>Option.bind (gd ((Zj.eqb x21.1 x23.1)&&(x21.2 == x23.2)) (iJ l17 f)) (fun x26=>Option.bind (gd (((Zj.eqb x21.1 x23.1)&&(x21.2 == x23.2))&&(x25 == x26)) (ju)) (fun x27=>some ((((Zj.eqb x21.1 x23.1)&&(x21.2 == x23.2))&&(x25 == x26))&&x27))))))))=some true:=by
 obtain ⟨l,el,hl⟩:=Ao c p1 ht
 obtain ⟨x,e1,e2,_⟩:=Bj hc
 obtain ⟨r,e3,e4⟩:=zc l f hl hc
 rw [bS el,bS e1,bS e2,Zj.eqb_iff.2 rfl,beq_self_eq_true,Bool.and_self,dH,dH,bS e3,bS e4,beq_self_eq_true,Bool.and_self,dH,bS Bi]
 rfl
theorem goods_Y (r:Int) (h1:0≤r) (h2:r<4):∃ g c,kj=some g∧idx g r=some c∧c.size≤140737488355328:=by
 refine ⟨[(⟨#[49,48,48,48,48,48,48,48]⟩:ByteArray),(⟨#[50,48,48,48,48,48,48,48]⟩:ByteArray),(⟨#[51,48,48,48,48,48,48,48]⟩:ByteArray),(⟨#[52,48,48,48,48,48,48,48]⟩:ByteArray)],?_⟩
 rcases (by omega:r=0∨r=1∨r=2∨r=3) with h | h | h | h <;> subst h <;> exact ⟨_,rfl,rfl,by decide⟩
theorem u9 (m0 m1:List Int) (m2:Zk) (m3:Int) (m4:Bool) {κ:Kr} {v0 v1 v2 v3 v4:List Value} (_:Rps κ (eL eI m0) v0) (_:Rps κ (eL eI m1) v1) (s2:Rps κ [.agg (Zk.enc m2)] v2) (_:Rps κ (eI m3) v3) (_:Rps κ (eT m4) v4):jd m0 m1 m2 m3 m4=some true:=by
 have hc:m2.Code.size≤140737488355328:=by
  obtain ⟨ds,h2⟩:=rps_agg s2
  exact rps_str (k:=1) h2 rfl
 obtain ⟨t,et,ht⟩:=Et
 have hfile:∃ f:Zk,(cond (!m4) (Option.bind (kj) (fun x9=>Option.bind (fN m3 4) (fun x10=>Option.bind (idx x9 x10) (fun m11=>Option.bind (fN m3 50) (fun x12=>Option.bind (ly 7 m11 (IntKind.i64.wrap (1+x12)) m0) (fun x13=>some (x13.Source,x13.Code,x13.Units,x13.Facts))))))) (some (m2.Source,m2.Code,m2.Units,m2.Facts)))=some (f.Source,f.Code,f.Units,f.Facts)∧f.Code.size≤140737488355328:=by
  cases m4 with
  | true=>exact ⟨m2,rfl,hc⟩
  | false =>
   obtain ⟨a,e1,a1,a2⟩:=rx m3 4 (by omega) (by omega)
   obtain ⟨b,e2,_,_⟩:=rx m3 50 (by omega) (by omega)
   obtain ⟨g,c,e3,e4,h4⟩:=goods_Y a a1 a2
   obtain ⟨f,e5,h5,_⟩:=rfile_Y 7 (IntKind.i64.wrap (1+b)) m0 h4
   refine ⟨f,?_,by rw [h5];exact h4⟩
   rw [Bool.not_false,dG,bS e3,bS e1,bS e4,bS e2,bS e5]
 obtain ⟨f,ef,hf⟩:=hfile
 unfold jd
 rw [bS ef]
 dsimp only
 cases decide (260<(f.Facts.length:Int)) with
 | true=>rw [dG,bS Bi]
 | false=>rw [eu,bS et];exact Ch ht _ m1 hf
def EC:Nat→Int→Prop:=fun _ _=>True
theorem ED {H:Type} {eh:TypeId×Value→H} {nb:Nat}:Opens eh nb 3 eI (EC nb):=Cf rfl
def bd22:Nat→(List Int)→Prop:=fun n l=>l.length*8≤140737488355328∧l.length≤n∧∀ x∈l,EC n x
theorem op22 {H:Type} {eh:TypeId×Value→H} {nb:Nat}:Opens eh nb 22 (eL eI) (bd22 nb):=sf rfl rfl rfl rfl ED
def bd9:Nat→ByteArray→Prop:=fun _ _=>True
theorem op9 {H:Type} {eh:TypeId×Value→H} {nb:Nat}:Opens eh nb 9 eS (bd9 nb):=Cg rfl
def bd93:Nat→Za→Prop:=fun n m=>EC n m.From∧EC n m.Number∧EC n m.Day∧EC n m.Kind∧bd9 n m.Country∧EC n m.Amount∧EC n m.Company∧True
theorem op93 {H:Type} {eh:TypeId×Value→H} {nb:Nat}:Opens eh nb 93 Za.enc (bd93 nb):=fun W fuel cs x hx hw hbk=>by
 obtain ⟨xs,n,rfl,rfl,hl,hlen,hf⟩:=DataW.trod_struct (bW (t:=93) rfl) hx
 obtain ⟨x0,x1,x2,x3,x4,x5,x6,rfl⟩:∃ x0 x1 x2 x3 x4 x5 x6,xs=[x0,x1,x2,x3,x4,x5,x6]:=by
  match xs,hlen with
  | [a0,a1,a2,a3,a4,a5,a6],_=>exact ⟨a0,a1,a2,a3,a4,a5,a6,rfl⟩
 have hw2:∀ n∈DataW.weightsEach Tryz.prog [3,3,3,3,9,3,3] [x0.1,x1.1,x2.1,x3.1,x4.1,x5.1,x6.1],n≤reachBytes:=fun n hn=>hw n (by simp only [DataW.weights,bW (t:=93) rfl];exact hn)
 simp only [DataW.weightsEach,List.mem_append] at hw2
 simp only [Rows.uptoBulk,List.map_cons,List.map_nil,Rows.uptoBulkAll] at hbk
 have g0:DataW.trod eh Tryz.prog W 0 (fun _=>true) true n 3 ((cs.drop 0).take (Tryz.prog.cellsOf 3))=some x0:=hf 0 _ rfl
 rw [(dh (t:=3) rfl).1] at g0
 obtain ⟨m0,r0,o0,c0⟩:=ED (nb:=nb) W n _ _ g0 (fun n hn=>hw2 n (.inl hn)) (by omega)
 have g1:DataW.trod eh Tryz.prog W 0 (fun _=>true) true n 3 ((cs.drop 1).take (Tryz.prog.cellsOf 3))=some x1:=hf 1 _ rfl
 rw [(dh (t:=3) rfl).1] at g1
 obtain ⟨m1,r1,o1,c1⟩:=ED (nb:=nb) W n _ _ g1 (fun n hn=>hw2 n (.inr (.inl hn))) (by omega)
 have g2:DataW.trod eh Tryz.prog W 0 (fun _=>true) true n 3 ((cs.drop 2).take (Tryz.prog.cellsOf 3))=some x2:=hf 2 _ rfl
 rw [(dh (t:=3) rfl).1] at g2
 obtain ⟨m2,r2,o2,c2⟩:=ED (nb:=nb) W n _ _ g2 (fun n hn=>hw2 n (.inr (.inr (.inl hn)))) (by omega)
 have g3:DataW.trod eh Tryz.prog W 0 (fun _=>true) true n 3 ((cs.drop 3).take (Tryz.prog.cellsOf 3))=some x3:=hf 3 _ rfl
 rw [(dh (t:=3) rfl).1] at g3
 obtain ⟨m3,r3,o3,c3⟩:=ED (nb:=nb) W n _ _ g3 (fun n hn=>hw2 n (.inr (.inr (.inr (.inl hn))))) (by omega)
 have g4:DataW.trod eh Tryz.prog W 0 (fun _=>true) true n 9 ((cs.drop 4).take (Tryz.prog.cellsOf 9))=some x4:=hf 4 _ rfl
 rw [(dh (t:=9) rfl).1] at g4
 obtain ⟨m4,r4,o4,c4⟩:=op9 (nb:=nb) W n _ _ g4 (fun n hn=>hw2 n (.inr (.inr (.inr (.inr (.inl hn)))))) (by omega)
 have g5:DataW.trod eh Tryz.prog W 0 (fun _=>true) true n 3 ((cs.drop 5).take (Tryz.prog.cellsOf 3))=some x5:=hf 5 _ rfl
 rw [(dh (t:=3) rfl).1] at g5
 obtain ⟨m5,r5,o5,c5⟩:=ED (nb:=nb) W n _ _ g5 (fun n hn=>hw2 n (.inr (.inr (.inr (.inr (.inr (.inl hn))))))) (by omega)
 have g6:DataW.trod eh Tryz.prog W 0 (fun _=>true) true n 3 ((cs.drop 6).take (Tryz.prog.cellsOf 3))=some x6:=hf 6 _ rfl
 rw [(dh (t:=3) rfl).1] at g6
 obtain ⟨m6,r6,o6,c6⟩:=ED (nb:=nb) W n _ _ g6 (fun n hn=>hw2 n (.inr (.inr (.inr (.inr (.inr (.inr (.inl hn)))))))) (by omega)
 have hl2:cs.length=7:=hl.trans (dh (t:=93) rfl).1
 exact ⟨(⟨m0,m1,m2,m3,m4,m5,m6⟩:Za),(iy (off:=0) r0 (iy (off:=1) r1 (iy (off:=2) r2 (iy (off:=3) r3 (iy (off:=4) r4 (iy (off:=5) r5 (iy (off:=6) r6 (Be hl2)))))))),(iz (off:=0) o0 (iz (off:=1) o1 (iz (off:=2) o2 (iz (off:=3) o3 (iz (off:=4) o4 (iz (off:=5) o5 (iz (off:=6) o6 (Bf hl2)))))))),⟨c0,c1,c2,c3,c4,c5,c6,trivial⟩⟩
def bd41:Nat→(List Za)→Prop:=fun n l=>l.length*64≤140737488355328∧l.length≤n∧∀ x∈l,bd93 n x
theorem op41 {H:Type} {eh:TypeId×Value→H} {nb:Nat}:Opens eh nb 41 (eL Za.enc) (bd41 nb):=sf rfl rfl rfl rfl op93
def bd43:Nat→Zk→Prop:=fun n m=>EC n m.Source∧bd9 n m.Code∧EC n m.Units∧bd41 n m.Facts∧True
theorem op43 {H:Type} {eh:TypeId×Value→H} {nb:Nat}:Opens eh nb 43 Zk.enc (bd43 nb):=fun W fuel cs x hx hw hbk=>by
 obtain ⟨xs,n,rfl,rfl,hl,hlen,hf⟩:=DataW.trod_struct (bW (t:=43) rfl) hx
 obtain ⟨x0,x1,x2,x3,rfl⟩:∃ x0 x1 x2 x3,xs=[x0,x1,x2,x3]:=by
  match xs,hlen with
  | [a0,a1,a2,a3],_=>exact ⟨a0,a1,a2,a3,rfl⟩
 have hw2:∀ n∈DataW.weightsEach Tryz.prog [3,9,3,41] [x0.1,x1.1,x2.1,x3.1],n≤reachBytes:=fun n hn=>hw n (by simp only [DataW.weights,bW (t:=43) rfl];exact hn)
 simp only [DataW.weightsEach,List.mem_append] at hw2
 simp only [Rows.uptoBulk,List.map_cons,List.map_nil,Rows.uptoBulkAll] at hbk
 have g0:DataW.trod eh Tryz.prog W 0 (fun _=>true) true n 3 ((cs.drop 0).take (Tryz.prog.cellsOf 3))=some x0:=hf 0 _ rfl
 rw [(dh (t:=3) rfl).1] at g0
 obtain ⟨m0,r0,o0,c0⟩:=ED (nb:=nb) W n _ _ g0 (fun n hn=>hw2 n (.inl hn)) (by omega)
 have g1:DataW.trod eh Tryz.prog W 0 (fun _=>true) true n 9 ((cs.drop 1).take (Tryz.prog.cellsOf 9))=some x1:=hf 1 _ rfl
 rw [(dh (t:=9) rfl).1] at g1
 obtain ⟨m1,r1,o1,c1⟩:=op9 (nb:=nb) W n _ _ g1 (fun n hn=>hw2 n (.inr (.inl hn))) (by omega)
 have g2:DataW.trod eh Tryz.prog W 0 (fun _=>true) true n 3 ((cs.drop 2).take (Tryz.prog.cellsOf 3))=some x2:=hf 2 _ rfl
 rw [(dh (t:=3) rfl).1] at g2
 obtain ⟨m2,r2,o2,c2⟩:=ED (nb:=nb) W n _ _ g2 (fun n hn=>hw2 n (.inr (.inr (.inl hn)))) (by omega)
 have g3:DataW.trod eh Tryz.prog W 0 (fun _=>true) true n 41 ((cs.drop 3).take (Tryz.prog.cellsOf 41))=some x3:=hf 3 _ rfl
 rw [(dh (t:=41) rfl).1] at g3
 obtain ⟨m3,r3,o3,c3⟩:=op41 (nb:=nb) W n _ _ g3 (fun n hn=>hw2 n (.inr (.inr (.inr (.inl hn))))) (by omega)
 have hl2:cs.length=4:=hl.trans (dh (t:=43) rfl).1
 exact ⟨(⟨m0,m1,m2,m3⟩:Zk),(iy (off:=0) r0 (iy (off:=1) r1 (iy (off:=2) r2 (iy (off:=3) r3 (Be hl2))))),(iz (off:=0) o0 (iz (off:=1) o1 (iz (off:=2) o2 (iz (off:=3) o3 (Bf hl2))))),⟨c0,c1,c2,c3,trivial⟩⟩
def bd4:Nat→Bool→Prop:=fun _ _=>True
theorem op4 {H:Type} {eh:TypeId×Value→H} {nb:Nat}:Opens eh nb 4 eT (bd4 nb):=Ai rfl
end SX
end Go.Proofs.YtmgcadfnkchnfaaGreatDoor
set_option maxRecDepth 100000
namespace Go.Proofs.YtmgcadfnkchnfaaGreatDoor
open Go Go.ChangeShapes Go.WideShapes Go.RowKit
open SX
theorem auditItem_lifted (os:Os) (started:os.Started) (H:Type) (enc:TypeId×Value→H) :
    ReturnsInHanded {} Tryz.checked os 5 .any (fun w args=>(Rows.auditItemSpec.pre enc Tryz.prog Tryz.f5 [] false w args∧laidMetH Tryz.prog sg w)∧sizedMet enc Tryz.prog Tryz.f5 (OpenSpec.ofChange Rows.auditItemSpec) false w args)
      (Rows.auditItemSpec.post enc Tryz.prog Tryz.f5 false true false false):=by
  refine returnsInHanded_of_change_and (C:=Tryz.checked) (X:=fun w _=>laidMetH Tryz.prog sg w) (fun _ _ _ hh h=>h.of_heap hh) own_ok started (by kernel_rfl) Tryz.func5
    (ChangeSpec.witness_at (enc:=enc) (C:=Tryz.checked) (os:=os) (X:=fun w _=>laidMetH Tryz.prog sg w) false (laidWorld os) #[.slice none 0 0,.slice none 0 0,.agg #[.int .i64 0,.string ByteArray.empty,.int .i64 0,.slice none 0 0],.int .i64 0,.bool false] 8 rfl (by kernel_rfl) (by kernel_rfl) (by kernel_rfl) (by kernel_rfl) (by kernel_rfl) (uZ os _)) ?_
  intro W base args ds gs before hval0 hW _ hwt hL _
  have hval:∀ (j:Nat) t v,Tryz.f5.params[j]?=some t→args[j]?=some v→Value.okWide Tryz.prog W .any base t v:=hval0
  have hW2:=hW
  obtain ⟨p,q,hA0,hV0,rfl,_,_⟩:=hW
  have hA:DataW.TrodAll enc Tryz.prog W 0 (fun _=>true) true [22,22,43,3,4] args.toList ds p:=hA0
  obtain ⟨rfl,rfl⟩:gs=[]∧q=[]:=by
    cases gs with
    | nil=>exact ⟨rfl,hV0⟩
    | cons g r=>exact absurd hV0 (by intro h;cases h)
  generalize hargs:args.toList=vs at hA
  have hval2:∀ (j:Nat) t v,[22,22,43,3,4][j]?=some t→vs[j]?=some v→Value.okWide Tryz.prog W .any base t v:=fun j t v h1 h2=>hval j t v (by rw [Tryz.params5];simpa using h1) (by rw [← hargs] at h2;simpa using h2)
  obtain ⟨v0,vs0,d0,ds0,p0,q0,rfl,rfl,h0,hA⟩:=SX.trodAll_cons hA
  obtain ⟨v1,vs1,d1,ds1,p1,q1,rfl,rfl,h1,hA⟩:=SX.trodAll_cons hA
  obtain ⟨v2,vs2,d2,ds2,p2,q2,rfl,rfl,h2,hA⟩:=SX.trodAll_cons hA
  obtain ⟨v3,vs3,d3,ds3,p3,q3,rfl,rfl,h3,hA⟩:=SX.trodAll_cons hA
  obtain ⟨v4,vs4,d4,ds4,p4,q4,rfl,rfl,h4,hA⟩:=SX.trodAll_cons hA
  obtain ⟨rfl,rfl⟩:=SX.trodAll_nil hA
  have hw:(DataW.weightsEach Tryz.prog [22,22,43,3,4] [d0,d1,d2,d3,d4]).all (· ≤ reachBytes)=true:=hwt
  obtain ⟨l0,hw⟩:=SX.light_head hw
  obtain ⟨m0,s0,b0⟩:=tc rfl rfl op22 (fun _=>⟨_,rfl⟩) (hval2 0 22 v0 rfl rfl) h0 l0 (Nat.le_refl _)
  obtain ⟨l1,hw⟩:=SX.light_head hw
  obtain ⟨m1,s1,b1⟩:=tc rfl rfl op22 (fun _=>⟨_,rfl⟩) (hval2 1 22 v1 rfl rfl) h1 l1 (Nat.le_refl _)
  obtain ⟨l2,hw⟩:=SX.light_head hw
  obtain ⟨m2,r2,b2⟩:=arg_agg rfl rfl op43 (hval2 2 43 v2 rfl rfl) h2 l2 (Nat.le_refl _)
  have s2:=Rps.cons r2 .nil
  obtain ⟨l3,hw⟩:=SX.light_head hw
  obtain ⟨m3,s3,b3⟩:=tc rfl rfl ED (fun _=>⟨_,rfl⟩) (hval2 3 3 v3 rfl rfl) h3 l3 (Nat.le_refl _)
  obtain ⟨l4,hw⟩:=SX.light_head hw
  obtain ⟨m4,s4,b4⟩:=tc rfl rfl op4 (fun _=>⟨_,rfl⟩) (hval2 4 4 v4 rfl rfl) h4 l4 (Nat.le_refl _)
  exact Er (readB (by kernel_rfl)) rfl (bW rfl) rfl (by simp [Rows.auditItemSpec]) hW2 (za hL) (by rw [hargs];exact (s0.app (s1.app (s2.app (s3.app s4))))) (pK (u9 m0 m1 m2 m3 m4 s0 s1 s2 s3 s4))
theorem auditItem_holds:Rows.AuditItemSaid :=
 OpenClaim.holds_of_wide 5 Tryz.f5 rfl rfl rfl rfl rfl rfl rfl ⟨rfl,rfl,rfl,rfl,rfl⟩ rfl rfl rfl rfl rfl auditItem_named Tryz.func5 auditItem_closed
  (of_decide_eq_true (by kernel_rfl)) (by unfold Func.isWrapper;rw [if_neg (of_decide_eq_false (by kernel_rfl))];exact ⟨rfl,rfl⟩)
  (fun os started H enc _=>auditItem_lifted os started H enc)
theorem auditItem_card:Rows.AuditItemCardSaid :=
 Claim7.holds_tied_plain_at .later [] [.data,.data,.data,.pinned] true (true, "f586959ce26c228125db42cac42af596566d96cc425196c22970e7dfd25031d9") false
  auditItem_holds (fun _ h=>by cases h) (by as_aux_lemma=>kernel_rfl) (fun _ h=>by cases h) auditItem_row_tie rfl ⟨rfl,rfl⟩ fp_main rfl
  (fun f fn hf hfn=>by
   obtain rfl:f=5:=Option.some.inj ((show Tryz.prog.funcNamed "customs/customslaw31.AuditItem" = some 5 from auditItem_named).symm.trans hf) |>.symm
   obtain rfl:fn=Tryz.f5:=(Option.some.inj (Tryz.func5.symm.trans hfn)).symm
   exact ⟨fp_looks,fun j t ht=>by
    rw [Tryz.params5] at ht
    exact zb (by as_aux_lemma=>kernel_rfl) ht⟩)
  auditItem_goes
#print axioms auditItem_card
end Go.Proofs.YtmgcadfnkchnfaaGreatDoor
