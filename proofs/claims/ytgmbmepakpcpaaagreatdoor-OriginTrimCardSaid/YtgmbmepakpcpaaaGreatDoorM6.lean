/- OriginTrim: for every input the law returns true, and each argument reads afterwards as it read before. Conditions: the package variables are as the program's text lays them (the card ties them). -/
import Derived.Test.YtgmbmepakpcpaaaGreatDoorM5
import Derived.Test.YtgmbmepakpcpaaaGreatDoorL5q
set_option linter.unusedVariables false
set_option linter.unusedSimpArgs false
set_option maxHeartbeats 4000000
set_option maxRecDepth 100000
namespace Go.Proofs.YtgmbmepakpcpaaaGreatDoor
namespace SX
open Go
def rH (p:Zc):Prf:=(p.Claim,p.Path,p.Premises)
theorem A7 {α:Type} [DecidableEq α]:∀ {l m:List α},l.Nodup→(∀ x∈l,x∈m)→l.length≤m.length
 | [],_,_,_=>by simp
 | a::l,m,hn,hs=>by
  obtain ⟨m1,m2,rfl⟩:=List.append_of_mem (hs a (by simp))
  obtain ⟨h1,h2⟩:=List.nodup_cons.1 hn
  have:=A7 (m:=m1++m2) h2 fun x hx=>by
   have:=hs x (by simp [hx])
   rcases List.mem_append.1 this with h | h
   ·exact List.mem_append.2 (.inl h)
   rcases List.mem_cons.1 h with rfl | h
   ·exact absurd hx h1
   exact List.mem_append.2 (.inr h)
  simp only [List.length_cons,List.length_append] at this ⊢
  omega
theorem n_le {ps:List Prf} {c:Za} {need:List Za} {k:Nat} (h:NInv ps c need k) (hk:k≤need.length):k≤ps.length:=by
 have:=A7 (l:=need.take k) (m:=ps.map (·.1)) (h.nd.sublist (List.take_sublist _ _)) fun x hx=>by
  obtain ⟨j,hj,rfl⟩:=List.getElem_of_mem hx
  rw [List.length_take] at hj
  rw [List.getElem_take]
  obtain ⟨i,p,h1,h2,_⟩:=h.cl j (by omega) _ (List.getElem?_eq_getElem (by omega))
  obtain ⟨q,h3,h4⟩:=gD h1
  rw [← h4]
  exact List.mem_map_of_mem (List.mem_of_getElem? h3)
 rw [List.length_take,List.length_map] at this
 omega
def gb {α:Type} (P:Nat→Bool):List α→Nat→List α
 | [],_=>[]
 | x::l,i=>cond (P i) (x::gb P l (i+1)) (gb P l (i+1))
theorem xR {α:Type} {P Q:Nat→Bool}:∀ (l:List α) (i:Nat),(∀ k,k<l.length→P (i+k)=Q (i+k))→gb P l i=gb Q l i
 | [],_,_=>rfl
 | x::l,i,h=>by
  have h0:=h 0 (by simp)
  rw [Nat.add_zero] at h0
  rw [gb,gb,h0,xR (P:=P) (Q:=Q) l (i+1) fun k hk=>by have:=h (k+1) (by simpa using hk);rw [show i+1+k=i+(k+1) by omega];exact this]
theorem rI {α:Type} (P:Nat→Bool):∀ (l:List α) (x:α) (i:Nat),gb P (l++[x]) i=gb P l i++cond (P (i+l.length)) [x] []
 | [],x,i=>by simp [gb]
 | y::l,x,i=>by
  rw [List.cons_append,gb,gb,rI P l x (i+1),List.length_cons,show i+1+l.length=i+(l.length+1) by omega]
  cases P i <;> rfl
theorem qF {α:Type} (P:Nat→Bool):∀ (l:List α) (i:Nat),(gb P l i).length≤l.length
 | [],_=>by simp [gb]
 | x::l,i=>by
  have:=qF P l (i+1)
  rw [gb]
  cases P i <;> simp <;> omega
theorem s9 {α:Type} (P:Nat→Bool):∀ (l:List α) (i:Nat),∀ x∈gb P l i,∃ k,∃ h:k<l.length,l[k]=x∧P (i+k)=true
 | [],_,x,h=>by simp [gb] at h
 | y::l,i,x,h=>by
  rw [gb] at h
  cases hp:P i with
  | false =>
   rw [hp] at h
   obtain ⟨k,h1,h2,h3⟩:=s9 P l (i+1) x h
   exact ⟨k+1,by simpa using h1,by simpa using h2,by rw [show i+(k+1)=i+1+k by omega];exact h3⟩
  | true =>
   rw [hp] at h
   rcases List.mem_cons.1 h with rfl | h
   ·exact ⟨0,by simp,rfl,by simpa using hp⟩
   obtain ⟨k,h1,h2,h3⟩:=s9 P l (i+1) x h
   exact ⟨k+1,by simpa using h1,by simpa using h2,by rw [show i+(k+1)=i+1+k by omega];exact h3⟩
theorem xS {α:Type} (P:Nat→Bool):∀ (l:List α) (i k:Nat) (h:k<l.length),P (i+k)=true→l[k]∈gb P l i
 | y::l,i,0,h,hp=>by rw [gb,show P i=true from hp];simp
 | y::l,i,k+1,h,hp=>by
  have:=xS P l (i+1) k (by simpa using h) (by rw [show i+1+k=i+(k+1) by omega];exact hp)
  rw [gb]
  cases P i
  ·simpa using this
  simp only [bZ,List.mem_cons];right;simpa using this
theorem tc {ps:List Prf} {k:Nat} (hk:k<ps.length):∃ j,cW ps ps[k].1=some j∧j≤k:=by
 unfold cW
 cases h:ps.findIdx? (fun p=>decide (p.1=ps[k].1)) with
 | none =>
  rw [List.findIdx?_eq_none_iff] at h
  have:=h ps[k] (List.getElem_mem hk)
  simp at this
 | some j =>
  refine ⟨j,rfl,?_⟩
  rw [List.findIdx?_eq_some_iff_getElem] at h
  obtain ⟨h1,h2,h3⟩:=h
  rcases Nat.lt_or_ge k j with h4 | h4
  ·have:=h3 k h4;simp at this
  exact h4
structure FMap (ps:List Prf) (k:Nat) (m:List (Za×Int)):Prop where
 get:∀ d,fh m d=match cW ps d with | some i=>cond (decide (i<k)) (some (i:Int)) none | none=>none
theorem Gs {ps:List Prf} {m:List (Za×Int)} (h:FMap ps ps.length m) (d:Za):fh m d=(cW ps d).map (fun i:Nat=>(i:Int)):=by
 rw [h.get]
 cases hf:cW ps d with
 | none=>rfl
 | some i =>
  obtain ⟨p,h1,_⟩:=gD hf
  have:=(List.getElem?_eq_some_iff.1 h1).1
  dsimp only
  rw [det this];rfl
theorem Ef {ps:List Prf} {k:Nat} {m:List (Za×Int)} (h:FMap ps k m) (hk:k<ps.length) (hs:(fh m ps[k].1).isSome=true):FMap ps (k+1) m:=by
 obtain ⟨j,h1,h2⟩:=tc hk
 have hj:=h.get ps[k].1
 rw [h1] at hj
 dsimp only at hj
 have hjk:j<k:=by
  rcases Nat.lt_or_ge j k with h3 | h3
  ·exact h3
  rw [bQ (by omega)] at hj;rw [hj] at hs;cases hs
 refine ⟨fun d=>?_⟩
 rw [h.get]
 cases hf:cW ps d with
 | none=>rfl
 | some i =>
  dsimp only
  have:i≠k:=by
   rintro rfl
   obtain ⟨p,h3,h4⟩:=gD hf
   rw [List.getElem?_eq_getElem hk] at h3;injection h3 with h3
   rw [← h4,← h3,h1] at hf;injection hf with hf;omega
  rw [show decide (i<k+1)=decide (i<k) from decide_eq_decide.2 (by omega)]
theorem Gt {ps:List Prf} {k:Nat} {m:List (Za×Int)} (h:FMap ps k m) (hk:k<ps.length) (hs:(fh m ps[k].1).isSome=false):FMap ps (k+1) (oO m ps[k].1 (k:Int)):=by
 obtain ⟨j,h1,h2⟩:=tc hk
 have hj:=h.get ps[k].1
 rw [h1] at hj
 dsimp only at hj
 have hjk:j=k:=by
  rcases Nat.lt_or_ge j k with h3 | h3
  ·rw [det h3] at hj;rw [hj] at hs;cases hs
  omega
 subst hjk
 refine ⟨fun d=>?_⟩
 rw [xJ]
 by_cases e:ps[j].1=d
 ·rw [if_pos e,← e,h1]
  dsimp only
  rw [det (by omega)];rfl
 rw [if_neg e,h.get]
 cases hf:cW ps d with
 | none=>rfl
 | some i =>
  dsimp only
  have:i≠j:=by
   rintro rfl
   obtain ⟨p,h3,h4⟩:=gD hf
   rw [List.getElem?_eq_getElem hk] at h3;injection h3 with h3
   exact e (by rw [h3];exact h4)
  rw [show decide (i<j+1)=decide (i<j) from decide_eq_decide.2 (by omega)]
theorem xU {α:Type} {l:List α} {k:Nat} (h:k<l.length):l.take (k+1)=l.take k++[l[k]]:=by
 rw [List.take_add_one,List.getElem?_eq_getElem h];rfl
def TrimS (x:List Zc) (c:Za) (r:List Zc×Int):Prop :=
 (∃ P:Nat→Bool,TOk (x.map rH) c (fun i=>P i=true)∧r=(gb P x 0,0))∨(r=([],6)∧TErr (x.map rH) c)
structure Zx (x:List Zc) (M:Nat):Prop where
 len:x.length≤100000
 prem:∀ p∈x,p.Premises.length≤M
 path:∀ p∈x,p.Path.length≤1000000000000
 mx:M≤2000000
theorem wadd1 {k:Nat} (h:k≤4611686018427387904):IntKind.i64.wrap ((k:Int)+1)=((k+1:Nat):Int):=by rw [cM (by omega) (by omega)];omega
theorem Eg {x:List Zc} {M:Nat} (h:Zx x M) (c:Za):Y (lE x c) (TrimS x c):=by
 unfold lE
 have hn:=h.len;have hmx:=h.mx
 have hpl:(x.map rH).length=x.length:=List.length_map _
 refine Y.bind (P:=fun m=>FMap (x.map rH) x.length m) ?_ fun m hm=>?_
 ·refine Y.loop (fun s:Int×List (Za×Int)=>∃ k:Nat,s.1=(k:Int)∧k≤x.length∧FMap (x.map rH) k s.2) (fun s=>(x.length - s.1).toNat) ⟨0,rfl,by omega,⟨fun d=>by cases cW (x.map rH) d <;> rfl⟩⟩ (by show ((x.length:Int) - 0).toNat≤_;omega) (fun s hs=>?_)
  obtain ⟨v,m⟩:=s
  obtain ⟨k,hv,hk,hf⟩:=hs
  dsimp only at hv hf ⊢
  subst hv
  rcases Nat.lt_or_ge k x.length with hk2 | hk2
  rotate_left
  ·have e:k=x.length:=by omega
   subst e
   rw [cO,bI];exact Y.ret hf
  rw [hZ hk2,bZ,aQ hk2,be,bU hk2 (by omega)]
  have hkp:k<(x.map rH).length:=by omega
  have hc1:((x.map rH)[k]).1=x[k].Claim:=by rw [List.getElem_map];rfl
  have hdec:((x.length:Int) - ((k+1:Nat):Int)).toNat<((x.length:Int) - (k:Int)).toNat:=by omega
  cases hs:(fh m x[k].Claim).isSome with
  | true=>exact Y.ret ⟨⟨k+1,rfl,by omega,Ef hf hkp (by rw [hc1];exact hs)⟩,hdec⟩
  | false=>exact Y.ret ⟨⟨k+1,rfl,by omega,by have:=Gt hf hkp (by rw [hc1];exact hs);rw [hc1] at this;exact this⟩,hdec⟩
 have hget:∀ d,fh m d=(cW (x.map rH) d).map (fun i:Nat=>(i:Int)):=Gs (by rw [hpl];exact hm)
 rw [show mk 1 false (x.length:Int)=some (List.replicate x.length false) by unfold mk;rw [if_pos (by simp;omega)];simp,be]
 refine Y.bind (P:=fun t=>match t with | .inl nd=>TOk (x.map rH) c (fun i=>nd[i]?=some true)∧nd.length=x.length | .inr e=>e=(([]:List Zc),(6:Int))∧TErr (x.map rH) c) ?_ fun t ht=>?_
 ·refine Y.loop (fun s:List Bool×List Za=>Zv (x.map rH) c s.1 s.2∧s.2.length+iY s.1*(M+1)≤1+x.length*(M+1)) (fun s=>s.2.length+iY s.1*(M+1)) ⟨by rw [← hpl];exact t_start,?_⟩ ?_ (fun s hs=>?_)
  ·have:iY (List.replicate x.length false)≤x.length:=by unfold iY;refine Nat.le_trans (List.length_filter_le _ _) ?_;simp
   have:=Nat.mul_le_mul_right (M+1) this
   simp only [List.length_cons,List.length_nil];omega
  ·have:iY (List.replicate x.length false)≤x.length:=by unfold iY;refine Nat.le_trans (List.length_filter_le _ _) ?_;simp
   have h1:=Nat.mul_le_mul_right (M+1) this
   have h2:x.length*(M+1)≤100000*2000001:=Nat.mul_le_mul hn (by omega)
   simp only [List.length_cons,List.length_nil];omega
  obtain ⟨nd,todo⟩:=s
  obtain ⟨hI,hB⟩:=hs
  dsimp only at hI hB ⊢
  have h2:x.length*(M+1)≤100000*2000001:=Nat.mul_le_mul hn (by omega)
  rcases List.eq_nil_or_concat todo with rfl | ⟨t,d,rfl⟩
  ·exact Y.ret ⟨t_end hI,by rw [hI.len,hpl]⟩
  rw [List.concat_eq_append] at hI hB ⊢
  have hlen:(t++[d]).length=t.length+1:=by simp
  have hw:IntKind.i64.wrap ((((t++[d]).length:Nat):Int) - 1)=(t.length:Int):=by rw [hlen,cM (by omega) (by omega)];omega
  have hix:idx (t++[d]) (t.length:Int)=some d:=by rw [aQ (by simp)];simp
  have hsub:sub (t++[d]) 0 (t.length:Int)=some t:=by
   have:=mR (xs:=t++[d]) (a:=0) (b:=t.length) (by omega) (by simp)
   rw [show ((0:Nat):Int)=0 from rfl] at this
   rw [this];simp
  rw [det (show (0:Int)<(((t++[d]).length:Nat):Int) by rw [hlen];omega),bZ,hw,hix,be,hsub,be,hget]
  cases hf:cW (x.map rH) d with
  | none=>exact Y.ret ⟨rfl,t_fail hI hf⟩
  | some i =>
   obtain ⟨p,hp,hpd⟩:=gD hf
   have hi:i<x.length:=by have:=(List.getElem?_eq_some_iff.1 hp).1;omega
   have hpx:p=rH x[i]:=by rw [List.getElem?_map,List.getElem?_eq_getElem hi] at hp;injection hp with hp;exact hp.symm
   have hin:i<nd.length:=by have:=hI.len;omega
   simp only [Option.map_some,Option.isSome_some,Bool.not_true,bI,Option.getD_some,aQ hin,aQ hi,be]
   cases hb:nd[i] with
   | true =>
    refine Y.ret ⟨⟨t_skip hI hf (by rw [List.getElem?_eq_getElem hin,hb]),?_⟩,?_⟩
    ·dsimp only;omega
    ·dsimp only;omega
   | false =>
    have hpr:=h.prem _ (List.getElem_mem hi)
    have hfs:=wq nd i (by rw [List.getElem?_eq_getElem hin,hb])
    have hm2:(iY (nd.set i true)+1)*(M+1)≤iY nd*(M+1):=Nat.mul_le_mul_right _ hfs
    rw [Nat.add_mul,Nat.one_mul] at hm2
    simp only [Bool.not_false,bZ]
    rw [cK (by omega) (by omega),be,Int.toNat_natCast]
    have hadd:=t_add hI hf hp
    rw [hpx] at hadd
    refine Y.ret ⟨⟨hadd,?_⟩,?_⟩
    ·show (t++x[i].Premises).length+iY (nd.set i true)*(M+1)≤_
     rw [List.length_append];omega
    show (t++x[i].Premises).length+iY (nd.set i true)*(M+1)<(t++[d]).length+iY nd*(M+1)
    rw [List.length_append];omega
 cases t with
 | inr e=>obtain ⟨rfl,h2⟩:=ht;exact Y.ret (.inr ⟨rfl,h2⟩)
 | inl nd =>
  obtain ⟨hT,hlen⟩:=ht
  dsimp only
  refine Y.bind (P:=fun r=>r=gb (fun i=>nd.getD i false) x 0) ?_ fun r hr=>Y.ret (.inl ⟨fun i=>nd.getD i false,?_,by rw [hr]⟩)
  ·refine Y.loop (fun s:List Zc×Int=>∃ k:Nat,s.2=(k:Int)∧k≤x.length∧s.1=gb (fun i=>nd.getD i false) (x.take k) 0) (fun s=>(x.length - s.2).toNat) ⟨0,rfl,by omega,rfl⟩ (by show ((x.length:Int) - 0).toNat≤_;omega) (fun s hs=>?_)
   obtain ⟨out,v⟩:=s
   obtain ⟨k,hv,hk,ho⟩:=hs
   dsimp only at hv ho ⊢
   subst hv;subst ho
   rcases Nat.lt_or_ge k x.length with hk2 | hk2
   rotate_left
   ·have e:k=x.length:=by omega
    subst e
    rw [cO,bI,List.take_length];exact Y.ret rfl
   have hkn:k<nd.length:=by omega
   have hdec:((x.length:Int) - ((k+1:Nat):Int)).toNat<((x.length:Int) - (k:Int)).toNat:=by omega
   have hsn:gb (fun i=>nd.getD i false) (x.take (k+1)) 0=gb (fun i=>nd.getD i false) (x.take k) 0++cond nd[k] [x[k]] []:=by
    rw [xU hk2,rI,Nat.zero_add,List.length_take,Nat.min_eq_left (by omega),List.getD_eq_getElem?_getD,List.getElem?_eq_getElem hkn];rfl
   have hol:=qF (fun i=>nd.getD i false) (x.take k) 0
   rw [List.length_take] at hol
   rw [hZ hk2,bZ,aQ hk2,be,aQ hkn,be,bU hk2 (by omega)]
   cases hb:nd[k] with
   | false=>exact Y.ret ⟨⟨k+1,rfl,by omega,by rw [hsn,hb];simp⟩,hdec⟩
   | true =>
    have h1:=h.path _ (List.getElem_mem hk2);have h2:=h.prem _ (List.getElem_mem hk2)
    unfold e9 bH
    simp only [bZ]
    rw [cK (by simp only [List.length_cons,List.length_nil];omega) (by simp only [List.length_cons,List.length_nil];omega),be,cK (by simp only [List.length_cons,List.length_nil];omega) (by simp only [List.length_cons,List.length_nil];omega),be,cK (by simp only [List.length_cons,List.length_nil];omega) (by simp only [List.length_cons,List.length_nil];omega),be]
    exact Y.ret ⟨⟨k+1,rfl,by omega,by rw [hsn,hb];rfl⟩,hdec⟩
  refine ⟨fun i=>?_,hT.2⟩
  rw [← hT.1 i]
  show nd.getD i false=true↔nd[i]?=some true
  rw [List.getD_eq_getElem?_getD]
  cases nd[i]? with
  | none=>simp
  | some b=>simp
theorem tM:fe=dF:=rfl
theorem xV {α T:Type} (q:α→Bool) (f:Nat→T):∀ (l:List α) (i:Nat),cE (fun k x=>cond (q x) (some (f k)) none) l i=(l.findIdx? q).map fun j=>f (i+j)
 | [],_=>rfl
 | x::l,i=>by
  rw [cE,List.findIdx?_cons]
  cases q x with
  | true=>simp
  | false =>
   simp only [bI,Bool.false_eq_true,if_false]
   rw [xV q f l (i+1)]
   cases l.findIdx? q with
   | none=>rfl
   | some j=>simp only [Option.map_some];rw [show i+1+j=i+(j+1) by omega]
def qp (o:Option Nat):Int:=match o with | some i=>(i:Int) | none => -1
theorem xW (x:List Zc) (d:Za) (hx:x.length≤140737488355328):j0 x d=some (qp (cW (x.map rH) d)):=by
 unfold j0
 refine (bE (l:=x) (by omega) (fun k (p:Zc)=>cond (Za.eqb p.Claim d) (some (.inr (k:Int))) none) (.inl ()) (fun k hk=>?_) (by simp only [cO,bI])).trans ?_
 ·simp only [hZ hk,bZ,aQ hk,be,bU hk (show x.length≤4611686018427387904 by omega)]
  cases Za.eqb x[k].Claim d <;> rfl
 rw [xV (fun p:Zc=>Za.eqb p.Claim d) (fun k=>(Sum.inr (k:Int):Unit⊕Int))]
 have e:cW (x.map rH) d=x.findIdx? fun p=>Za.eqb p.Claim d:=by
  unfold cW
  rw [List.findIdx?_map]
  congr 1
  funext p
  show decide (p.Claim=d)=_
  rw [y7]
 rw [e]
 cases x.findIdx? fun p=>Za.eqb p.Claim d with
 | none=>rfl
 | some j=>show some ((0+j:Nat):Int)=_;rw [Nat.zero_add];rfl
def wr (x:List Zc) (need:List Za) (i:Nat):Bool:=match x[i]? with
 | some p=>aZ need p.Claim&&decide (cW (x.map rH) p.Claim=some i)
 | none=>false
theorem Cj (o:Option Nat):decide (qp o<0)=o.isNone:=by
 cases o with
 | none=>rfl
 | some i=>exact bQ (by unfold qp;dsimp only;omega)
theorem Eh (o:Option Nat) (k:Nat):(qp o == (k:Int))=decide (o=some k):=by
 cases o with
 | none=>rw [bQ (by simp)];exact beq_eq_false_iff_ne.2 (by unfold qp;dsimp only;omega)
 | some i =>
  by_cases e:i=k
  ·subst e;simp [qp]
  rw [bQ (by simpa using e)];exact beq_eq_false_iff_ne.2 (by unfold qp;dsimp only;omega)
theorem Gu {x:List Zc} {M:Nat} (h:Zx x M) (c:Za):Y (ng x c) (TrimS x c):=by
 unfold ng
 have hn:=h.len;have hmx:=h.mx
 have hpl:(x.map rH).length=x.length:=List.length_map _
 refine Y.bind (P:=fun t=>match t with | .inl need=>NInv (x.map rH) c need need.length∧need.length≤1+x.length*M | .inr e=>e=(([]:List Zc),(6:Int))∧TErr (x.map rH) c) ?_ fun t ht=>?_
 ·refine Y.loop (fun s:List Za×Int=>∃ k:Nat,s.2=(k:Int)∧k≤s.1.length∧NInv (x.map rH) c s.1 k∧s.1.length≤1+k*M) (fun s=>(x.length+1 - s.2).toNat) ⟨0,rfl,by simp,n_start,by simp⟩ (by show ((x.length:Int)+1 - 0).toNat≤_;omega) (fun s hs=>?_)
  obtain ⟨need,v⟩:=s
  obtain ⟨k,hv,hk,hI,hB⟩:=hs
  dsimp only at hv hk hI hB ⊢
  subst hv
  have hkn:=n_le hI hk
  rw [hpl] at hkn
  have hkM:k*M≤x.length*M:=Nat.mul_le_mul_right _ hkn
  have hxM:x.length*M≤100000*2000000:=Nat.mul_le_mul hn hmx
  rcases Nat.lt_or_ge k need.length with hk2 | hk2
  rotate_left
  ·have e:k=need.length:=by omega
   rw [e] at hI
   rw [e,cO,bI]
   exact Y.ret ⟨hI,by omega⟩
  have hgk:need[k]?=some need[k]:=List.getElem?_eq_getElem hk2
  rw [hZ hk2,bZ,aQ hk2,be,xW x need[k] (by omega),be,Cj]
  cases hf:cW (x.map rH) need[k] with
  | none=>exact Y.ret ⟨rfl,n_fail hI hgk hf⟩
  | some i =>
   obtain ⟨p,hp,hpd⟩:=gD hf
   have hi:i<x.length:=by have:=(List.getElem?_eq_some_iff.1 hp).1;omega
   have hpx:p=rH x[i]:=by rw [List.getElem?_map,List.getElem?_eq_getElem hi] at hp;injection hp with hp;exact hp.symm
   have hadd:=n_add hI hgk hf hp
   rw [hpx] at hadd
   have hpr:=h.prem _ (List.getElem_mem hi)
   have hstep:∀ (l:List Za) (e:Za),(ij l e).length≤l.length+1:=fun l e=>by unfold ij;cases aZ l e <;> simp
   have hlo:need.length≤(x[i].Premises.foldl ij need).length:=by obtain ⟨m,e,_⟩:=pg x[i].Premises need;rw [e];simp
   simp only [Option.isNone_some,bI,qp]
   have main:=cx (β:=(List Za×Int)⊕(List Za⊕(List Zc×Int))) (l:=x[i].Premises) (by omega) (body:=fun (l20,v23)=>Option.bind (idx x (i:Int)) (fun m30=>cond (decide (v23<(m30.Premises.length:Int))) (Option.bind (Option.bind (idx x (i:Int)) (fun m37=>Option.bind (idx m37.Premises v23) (fun m38=>Option.bind (fe l20 m38) (fun x39=>cond (!x39) (Option.bind (idx x (i:Int)) (fun m41=>Option.bind (idx m41.Premises v23) (fun m42=>Option.bind (app 16 l20 [m42]) (fun l45=>some l45)))) (some l20))))) (fun l35=>some (.inl (l35,(IntKind.i64.wrap (v23+1)))))) (some (.inr l20)))) (k:=fun l27=>some (.inl (l27,(IntKind.i64.wrap ((k:Int)+1)))))
    (fun j (s:List Za)=>(s,j)) ij (fun s=>s) (fun j s=>s.length≤need.length+j) need (by omega) (fun j hj s hs=>?_) (fun s _=>by simp only [aQ hi,be,cO,bI])
   ·refine (show Y _ _ from ⟨_,main.1,⟨⟨k+1,wadd1 (by omega),by show k+1≤(x[i].Premises.foldl ij need).length;omega,hadd,?_⟩,?_⟩⟩)
    ·have:=main.2;have e:(k+1)*M=k*M+M:=by rw [Nat.add_mul,Nat.one_mul]
     dsimp only;omega
    show ((x.length:Int)+1 - IntKind.i64.wrap ((k:Int)+1)).toNat<((x.length:Int)+1 - (k:Int)).toNat
    rw [wadd1 (by omega)];omega
   refine ⟨?_,by have:=hstep s x[i].Premises[j];omega⟩
   simp only [aQ hi,be,hZ hj,bZ,aQ hj,bU hj (show x[i].Premises.length≤4611686018427387904 by omega)]
   rw [tM,kG _ _ (by omega),be]
   unfold ij
   cases aZ s x[i].Premises[j]
   ·simp only [Bool.not_false,bZ,bI]
    rw [cK (by simp only [List.length_cons,List.length_nil];omega) (by simp only [List.length_cons,List.length_nil];omega)];rfl
   rfl
 cases t with
 | inr e=>obtain ⟨rfl,h2⟩:=ht;exact Y.ret (.inr ⟨rfl,h2⟩)
 | inl need =>
  obtain ⟨hI,hB⟩:=ht
  have hxM:x.length*M≤100000*2000000:=Nat.mul_le_mul hn hmx
  have hT:=n_end hI
  dsimp only
  refine Y.bind (P:=fun r=>r=gb (wr x need) x 0) ?_ fun r hr=>Y.ret (.inl ⟨wr x need,?_,by rw [hr]⟩)
  ·refine Y.loop (fun s:List Zc×Int=>∃ k:Nat,s.2=(k:Int)∧k≤x.length∧s.1=gb (wr x need) (x.take k) 0) (fun s=>(x.length - s.2).toNat) ⟨0,rfl,by omega,rfl⟩ (by show ((x.length:Int) - 0).toNat≤_;omega) (fun s hs=>?_)
   obtain ⟨out,v⟩:=s
   obtain ⟨k,hv,hk,ho⟩:=hs
   dsimp only at hv ho ⊢
   subst hv;subst ho
   rcases Nat.lt_or_ge k x.length with hk2 | hk2
   rotate_left
   ·have e:k=x.length:=by omega
    subst e
    rw [cO,bI,List.take_length];exact Y.ret rfl
   have hdec:((x.length:Int) - ((k+1:Nat):Int)).toNat<((x.length:Int) - (k:Int)).toNat:=by omega
   have hrk:wr x need k=(aZ need x[k].Claim&&decide (cW (x.map rH) x[k].Claim=some k)):=by unfold wr;rw [List.getElem?_eq_getElem hk2]
   have hsn:gb (wr x need) (x.take (k+1)) 0=gb (wr x need) (x.take k) 0++cond (wr x need k) [x[k]] []:=by
    rw [xU hk2,rI,Nat.zero_add,List.length_take,Nat.min_eq_left (by omega)]
   have hol:=qF (wr x need) (x.take k) 0
   rw [List.length_take] at hol
   rw [hZ hk2,bZ,aQ hk2,be,tM,kG _ _ (by omega),be,bU hk2 (by omega)]
   cases hmb:aZ need x[k].Claim with
   | false =>
    simp only [ji,be,Bool.false_and,bI]
    exact Y.ret ⟨⟨k+1,rfl,by omega,by rw [hsn,hrk,hmb];simp⟩,hdec⟩
   | true =>
    simp only [cH,be,xW x x[k].Claim (show x.length≤140737488355328 by omega),Bool.true_and,Eh]
    cases hd:decide (cW (x.map rH) x[k].Claim=some k) with
    | false=>exact Y.ret ⟨⟨k+1,rfl,by omega,by rw [hsn,hrk,hmb,hd];simp⟩,hdec⟩
    | true =>
     simp only [bZ]
     rw [cK (by simp only [List.length_cons,List.length_nil];omega) (by simp only [List.length_cons,List.length_nil];omega),be,be]
     exact Y.ret ⟨⟨k+1,rfl,by omega,by rw [hsn,hrk,hmb,hd];rfl⟩,hdec⟩
  refine ⟨fun i=>?_,hT.2⟩
  rw [← hT.1 i]
  show wr x need i=true↔∃ p,(x.map rH)[i]?=some p∧p.1∈need∧cW (x.map rH) p.1=some i
  unfold wr
  rw [List.getElem?_map]
  cases x[i]? with
  | none=>simp
  | some p =>
   simp only [Option.map_some,eM,exists_eq_left',Bool.and_eq_true,decide_eq_true_eq]
   rw [eK];rfl
theorem Ck {x:List Zc} {c:Za} {r s:List Zc×Int} (h1:TrimS x c r) (h2:TrimS x c s):r=s:=by
 rcases h1 with ⟨P,a1,rfl⟩ | ⟨rfl,a1⟩
 ·rcases h2 with ⟨Q,b1,rfl⟩ | ⟨rfl,b1⟩
  ·congr 1
   refine xR (P:=P) (Q:=Q) x 0 fun k hk=>?_
   have:=Gp a1 b1 (0+k)
   rw [Bool.eq_iff_iff];exact this
  exact (Db a1 b1).elim
 rcases h2 with ⟨Q,b1,rfl⟩ | ⟨rfl,b1⟩
 ·exact (Db b1 a1).elim
 rfl
theorem A8 {plan:List Zd} {l:List Zb} {imp:ByteArray}:∀ (ps:List Prf) (K:List Za),B7 plan l imp K ps=true→∀ p∈ps,∀ e∈p.2.2,e∈K++ps.map (·.1)
 | [],K,_,p,hp,_,_=>by cases hp
 | q::ps,K,h,p,hp,e,he=>by
  rw [B7,Bool.and_eq_true] at h
  rcases List.mem_cons.1 hp with rfl | hp'
  ·have h1:=h.1
   unfold zg at h1
   simp only [Bool.and_eq_true] at h1
   have h2:=List.all_eq_true.1 h1.1.1.2 e he
   exact List.mem_append.2 (.inl (eK.1 h2))
  have:=A8 ps _ h.2 p hp' e he
  simpa using this
theorem Cl {plan:List Zd} {l:List Zb} (hv:VPs plan) (ha:AscA l) (imp:ByteArray):∀ p∈iX plan l imp,∀ e∈p.2.2,e∈(iX plan l imp).map (·.1):=fun p hp e he=>by
 simpa using A8 (iX plan l imp) [] (AU hv ha imp) p hp e he
theorem wv {ps:List Prf} {d:Za}:cW ps d≠none↔d∈ps.map (·.1):=by
 constructor
 ·intro h
  cases hf:cW ps d with
  | none=>exact absurd hf h
  | some i =>
   obtain ⟨p,h1,h2⟩:=gD hf
   rw [← h2];exact List.mem_map_of_mem (List.mem_of_getElem? h1)
 intro h hf
 obtain ⟨p,hp,rfl⟩:=List.mem_map.1 h
 obtain ⟨k,hk,rfl⟩:=List.getElem_of_mem hp
 obtain ⟨j,h1,_⟩:=tc hk
 rw [hf] at h1;cases h1
theorem no_err {ps:List Prf} (h:∀ p∈ps,∀ e∈p.2.2,e∈ps.map (·.1)) {c:Za} (hc:c∈ps.map (·.1)):¬ TErr ps c:=by
 rintro ⟨d,hd,hn⟩
 have:d∈ps.map (·.1):=by
  cases hd with
  | base=>exact hc
  | step _ _ h2 h3=>exact h _ (List.mem_of_getElem? h2) _ h3
 exact wv.2 this hn
theorem map_ofP (ps:List Prf):(ps.map ox).map rH=ps:=by
 rw [List.map_map]
 exact List.map_id ps
theorem Ei {plan:List Zd} {l:List Zb} (hv:VPs plan) (hl:VAs l) (ha:AscA l) (imp:ByteArray):Zx ((iX plan l imp).map ox) 64:=by
 obtain ⟨h1,h2⟩:=A5 hv hl ha imp
 refine ⟨by rw [List.length_map];omega,fun p hp=>?_,fun p hp=>?_,by omega⟩
 ·obtain ⟨q,hq,rfl⟩:=List.mem_map.1 hp
  exact (h2 q hq).2
 obtain ⟨q,hq,rfl⟩:=List.mem_map.1 hp
 have:=(h2 q hq).1
 show q.2.1.length≤_;omega
theorem A9 {x:List Zc} {M:Nat} (h:Zx x M) {c:Za} {r:List Zc×Int} (hr:TrimS x c r):r.1.length≤x.length∧∀ p∈r.1,p∈x:=by
 rcases hr with ⟨P,_,rfl⟩ | ⟨rfl,_⟩
 ·refine ⟨qF _ _ _,fun p hp=>?_⟩
  obtain ⟨k,hk,rfl,_⟩:=s9 P x 0 p hp
  exact List.getElem_mem hk
 exact ⟨by simp,fun p hp=>by cases hp⟩
theorem Ej {x:List Zc} {c:Za} {r:List Zc×Int} (hr:TrimS x c r):aZ (r.1.map (·.Claim)) c=(r.2 == 0):=by
 rcases hr with ⟨P,h1,rfl⟩ | ⟨rfl,_⟩
 ·have hb:=h1.2 c .base
  cases hf:cW (x.map rH) c with
  | none=>exact absurd hf hb
  | some i =>
   have hP:P i=true:=(h1.1 i).2 ⟨c,.base,hf⟩
   obtain ⟨p,h2,h3⟩:=gD hf
   rw [List.getElem?_map] at h2
   have hi:i<x.length:=by
    rcases Nat.lt_or_ge i x.length with h | h
    ·exact h
    rw [List.getElem?_eq_none h] at h2;cases h2
   rw [List.getElem?_eq_getElem hi] at h2
   injection h2 with h2
   have hm:=xS P x 0 i hi (by rw [Nat.zero_add];exact hP)
   have:c∈(gb P x 0).map (·.Claim):=List.mem_map.2 ⟨_,hm,by rw [← h3,← h2];rfl⟩
   rw [eK.2 this];rfl
 rfl
theorem ww (m0 m1:List Int) (m2 m3 m4:Int) {κ:Kr} {v0 v1 v2 v3 v4:List Value} (_:Rps κ (eL eI m0) v0) (_:Rps κ (eL eI m1) v1) (_:Rps κ (eI m2) v2) (_:Rps κ (eI m3) v3) (_:Rps κ (eI m4) v4):hC m0 m1 m2 m3 m4=some true:=by
 have key:Y (hC m0 m1 m2 m3 m4) (fun r=>r=true):=by
  unfold hC
  obtain ⟨p,e1,h1⟩:=plan_Y m0
  obtain ⟨l,e2,h2⟩:=yR m1
  obtain ⟨imp,e4,h4⟩:=BR m2
  rw [e1,be,e2,be,e4,be]
  obtain ⟨_,s2⟩:=Ch h1 h2 h4
  have hv:=h1.vps
  rw [s2,be]
  have hsm:=Ei hv h2.vas h2.asc imp
  have hprem:=Cl hv h2.asc imp
  have hps:((iX p l imp).map ox).map rH=iX p l imp:=map_ofP _
  generalize hx:(iX p l imp).map ox=x at hsm hps
  rw [← hps] at hprem
  have hlen:=hsm.len
  refine (r8 m3 12 (by omega) (by omega)).bind fun a ha=>?_
  refine (r8 m4 5 (by omega) (by omega)).bind fun b hb=>?_
  refine Y.bind (P:=fun _=>True) (Y.cond (fun hc=>?_) fun _=>Y.ret trivial) fun q _=>?_
  ·rw [Bool.and_eq_true] at hc
   have hpos:=of_decide_eq_true hc.1
   dsimp only at hpos ⊢
   refine (r8 (cC .i64 m3 1) (x.length:Int) (by omega) (by omega)).bind fun k hk=>?_
   obtain ⟨n,rfl⟩:∃ n:Nat,k=(n:Int):=⟨k.toNat,by omega⟩
   rw [aQ (show n<x.length by omega),be]
   exact Y.ret trivial
  obtain ⟨q1,q2⟩:=q
  obtain ⟨r,er,hr⟩:=Eg hsm ⟨q1,q2⟩
  obtain ⟨s,es,hs⟩:=Gu hsm ⟨q1,q2⟩
  have hrs:=Ck hr hs
  subst hrs
  dsimp only
  rw [er,be,es,be]
  obtain ⟨k1,k2⟩:=A9 hsm hr
  have hsame:lf r.1 r.1=some true:=same15 _ (by omega) fun p hp=>by
   have h5:=hsm.path p (k2 p hp);have h6:=hsm.prem p (k2 p hp);omega
  have hhas:=Ej hr
  have hhx:aZ (x.map (·.Claim)) ⟨q1,q2⟩=(r.2 == 0):=by
   have hcl:(x.map rH).map (·.1)=x.map (·.Claim):=by rw [List.map_map];rfl
   rcases hr with ⟨P,h5,rfl⟩ | ⟨rfl,h5⟩
   ·have:=wv.1 (h5.2 _ .base)
    rw [hcl] at this
    rw [eK.2 this];rfl
   cases hm:aZ (x.map (·.Claim)) ⟨q1,q2⟩ with
   | false=>rfl
   | true =>
    have:=eK.1 hm
    rw [← hcl] at this
    exact (no_err hprem this h5).elim
  rw [A6 x _ (by omega),A6 r.1 _ (by omega),hhas,hhx]
  simp only [bne_self_eq_false,Bool.not_false,cH,hsame,be,Bool.not_true,Bool.or_self,Ci,bI,beq_self_eq_true,Bool.true_and]
  rw [det (show (r.1.length:Int)≤(x.length:Int) by omega),cH,awake15,be]
  exact Y.ret rfl
 obtain ⟨r,e,rfl⟩:=key
 exact e
def bd3:Nat→Int→Prop:=fun _ _=>True
theorem op3 {H:Type} {eh:TypeId×Value→H} {nb:Nat}:Opens eh nb 3 eI (bd3 nb):=DR rfl
def bd22:Nat→(List Int)→Prop:=fun n l=>l.length*8≤140737488355328∧l.length≤n∧∀ x∈l,bd3 n x
theorem op22 {H:Type} {eh:TypeId×Value→H} {nb:Nat}:Opens eh nb 22 (eL eI) (bd22 nb):=Ax rfl rfl rfl rfl op3
end SX
end Go.Proofs.YtgmbmepakpcpaaaGreatDoor
set_option maxRecDepth 100000
namespace Go.Proofs.YtgmbmepakpcpaaaGreatDoor
open Go Go.ChangeShapes Go.WideShapes Go.RowKit
open SX
theorem originTrim_lifted (os:Os) (started:os.Started) (H:Type) (enc:TypeId×Value→H) :
    ReturnsInHanded {} Tryz.checked os 8 .any (fun w args=>(Rows.originTrimSpec.pre enc Tryz.prog Tryz.f8 [] false w args∧laidMetH Tryz.prog xz w)∧sizedMet enc Tryz.prog Tryz.f8 (OpenSpec.ofChange Rows.originTrimSpec) false w args)
      (Rows.originTrimSpec.post enc Tryz.prog Tryz.f8 false true false false):=by
  refine returnsInHanded_of_change_and (C:=Tryz.checked) (X:=fun w _=>laidMetH Tryz.prog xz w) (fun _ _ _ hh h=>h.of_heap hh) own_ok started (by kernel_rfl) Tryz.func8
    (ChangeSpec.witness_at (enc:=enc) (C:=Tryz.checked) (os:=os) (X:=fun w _=>laidMetH Tryz.prog xz w) false (laidWorld os) #[.slice none 0 0,.slice none 0 0,.int .i64 0,.int .i64 0,.int .i64 0] 8 rfl (by kernel_rfl) (by kernel_rfl) (by kernel_rfl) (by kernel_rfl) (by kernel_rfl) (wQ os _)) ?_
  intro W base args ds gs before hval0 hW _ hwt hL _
  have hval:∀ (j:Nat) t v,Tryz.f8.params[j]?=some t→args[j]?=some v→Value.okWide Tryz.prog W .any base t v:=hval0
  have hW2:=hW
  obtain ⟨p,q,hA0,hV0,rfl,_,_⟩:=hW
  have hA:DataW.TrodAll enc Tryz.prog W 0 (fun _=>true) true [22,22,3,3,3] args.toList ds p:=hA0
  obtain ⟨rfl,rfl⟩:gs=[]∧q=[]:=by
    cases gs with
    | nil=>exact ⟨rfl,hV0⟩
    | cons g r=>exact absurd hV0 (by intro h;cases h)
  generalize hargs:args.toList=vs at hA
  have hval2:∀ (j:Nat) t v,[22,22,3,3,3][j]?=some t→vs[j]?=some v→Value.okWide Tryz.prog W .any base t v:=fun j t v h1 h2=>hval j t v (by rw [Tryz.params8];simpa using h1) (by rw [← hargs] at h2;simpa using h2)
  obtain ⟨v0,vs0,d0,ds0,p0,q0,rfl,rfl,h0,hA⟩:=SX.trodAll_cons hA
  obtain ⟨v1,vs1,d1,ds1,p1,q1,rfl,rfl,h1,hA⟩:=SX.trodAll_cons hA
  obtain ⟨v2,vs2,d2,ds2,p2,q2,rfl,rfl,h2,hA⟩:=SX.trodAll_cons hA
  obtain ⟨v3,vs3,d3,ds3,p3,q3,rfl,rfl,h3,hA⟩:=SX.trodAll_cons hA
  obtain ⟨v4,vs4,d4,ds4,p4,q4,rfl,rfl,h4,hA⟩:=SX.trodAll_cons hA
  obtain ⟨rfl,rfl⟩:=SX.trodAll_nil hA
  have hw:(DataW.weightsEach Tryz.prog [22,22,3,3,3] [d0,d1,d2,d3,d4]).all (· ≤ reachBytes)=true:=hwt
  obtain ⟨l0,hw⟩:=SX.light_head hw
  obtain ⟨m0,s0,b0⟩:=sa rfl rfl op22 (fun _=>⟨_,rfl⟩) (hval2 0 22 v0 rfl rfl) h0 l0 (Nat.le_refl _)
  obtain ⟨l1,hw⟩:=SX.light_head hw
  obtain ⟨m1,s1,b1⟩:=sa rfl rfl op22 (fun _=>⟨_,rfl⟩) (hval2 1 22 v1 rfl rfl) h1 l1 (Nat.le_refl _)
  obtain ⟨l2,hw⟩:=SX.light_head hw
  obtain ⟨m2,s2,b2⟩:=sa rfl rfl op3 (fun _=>⟨_,rfl⟩) (hval2 2 3 v2 rfl rfl) h2 l2 (Nat.le_refl _)
  obtain ⟨l3,hw⟩:=SX.light_head hw
  obtain ⟨m3,s3,b3⟩:=sa rfl rfl op3 (fun _=>⟨_,rfl⟩) (hval2 3 3 v3 rfl rfl) h3 l3 (Nat.le_refl _)
  obtain ⟨l4,hw⟩:=SX.light_head hw
  obtain ⟨m4,s4,b4⟩:=sa rfl rfl op3 (fun _=>⟨_,rfl⟩) (hval2 4 3 v4 rfl rfl) h4 l4 (Nat.le_refl _)
  exact F0 (readB (by kernel_rfl)) rfl (bP rfl) rfl (by simp [Rows.originTrimSpec]) hW2 (Az hL) (by rw [hargs];exact (s0.app (s1.app (s2.app (s3.app s4))))) (qL (ww m0 m1 m2 m3 m4 s0 s1 s2 s3 s4))
theorem originTrim_holds:Rows.OriginTrimSaid :=
 OpenClaim.holds_of_wide 8 Tryz.f8 rfl rfl rfl rfl rfl rfl rfl ⟨rfl,rfl,rfl,rfl,rfl⟩ rfl rfl rfl rfl rfl originTrim_named Tryz.func8 originTrim_closed
  (of_decide_eq_true (by kernel_rfl)) (by unfold Func.isWrapper;rw [if_neg (of_decide_eq_false (by kernel_rfl))];exact ⟨rfl,rfl⟩)
  (fun os started H enc _=>originTrim_lifted os started H enc)
theorem originTrim_card:Rows.OriginTrimCardSaid :=
 Claim7.holds_tied_plain_at .later [] [.data,.data,.pinned] true (true, "d6724934cde0ef4b5d01703053d4c3277341bc42a1cf7659bfec0d43871970fd") true
  originTrim_holds (fun _ h=>by cases h) (by as_aux_lemma=>kernel_rfl) (fun _ h=>by cases h) originTrim_row_tie rfl ⟨rfl,rfl⟩ fp_main rfl
  (fun f fn hf hfn=>by
   obtain rfl:f=8:=Option.some.inj ((show Tryz.prog.funcNamed "customs/customslaw15.OriginTrim" = some 8 from originTrim_named).symm.trans hf) |>.symm
   obtain rfl:fn=Tryz.f8:=(Option.some.inj (Tryz.func8.symm.trans hfn)).symm
   exact ⟨fp_looks,fun j t ht=>by
    rw [Tryz.params8] at ht
    exact AA (by as_aux_lemma=>kernel_rfl) ht⟩)
  originTrim_goes
#print axioms originTrim_card
end Go.Proofs.YtgmbmepakpcpaaaGreatDoor
