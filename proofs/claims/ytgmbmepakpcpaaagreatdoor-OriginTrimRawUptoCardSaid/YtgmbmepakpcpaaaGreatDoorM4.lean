/- OriginTrimRaw: for every input the law returns true, and each argument reads afterwards as it read before. Conditions: the package variables are as the program's text lays them (the card ties them). -/
import Derived.Test.YtgmbmepakpcpaaaGreatDoorM3
import Derived.Test.YtgmbmepakpcpaaaGreatDoorL12q
set_option linter.unusedVariables false
set_option linter.unusedSimpArgs false
set_option maxHeartbeats 4000000
set_option maxRecDepth 100000
namespace Go.Proofs.YtgmbmepakpcpaaaGreatDoor
namespace SX
open Go
def uIn (id pid:Int) (acc:List Int) (x:Zh):List Int:=cond (x.Product == id) (acc++[pid]) acc
def usersS (plan:List Zd) (id:Int):List Int:=plan.foldl (fun acc p=>p.Inputs.foldl (uIn id p.ID) acc) []
def hitB (plan:List Zd) (id:Int) (r:List Bool) (m:Nat) (u:List Int):Bool:=match plan[m]? with
 | none=>false
 | some p=>((p.ID == id)||r.getD m false)&&u.any fun x=>x == p.ID
def eN (r:List Bool):Nat:=(r.filter fun b => !b).length
theorem oL:∀ (r:List Bool) (i:Nat),r[i]?=some false→eN (r.set i true)<eN r
 | b::r,0,h=>by simp at h;subst h;simp [eN]
 | b::r,i+1,h=>by
  have:=oL r i (by simpa using h)
  unfold eN at this ⊢
  cases b <;> simp [List.filter_cons] <;> omega
structure PassI (plan:List Zd) (id:Int) (r:List Bool) (k:Nat) (r':List Bool) (ag:Bool):Prop where
 len:r'.length=plan.length
 le:k≤plan.length
 no:ag=false→r'=r∧∀ i,i<k→∀ p,plan[i]?=some p→r.getD i false=true∨∀ m,hitB plan id r m (usersS plan p.ID)=false
 yes:ag=true→eN r'<eN r
theorem VIds.sub {l m:List Zd} (h:VIds l) (hs:∀ p∈m,p∈l):VIds m:=⟨fun p hp=>h.id p (hs p hp),fun p hp=>h.lvl p (hs p hp)⟩

def mn (p:Zb):Prf:=(p.Claim,p.Path,p.Premises)
theorem si {α:Type} [DecidableEq α]:∀ {l m:List α},l.Nodup→(∀ x∈l,x∈m)→l.length≤m.length
 | [],_,_,_=>by simp
 | a::l,m,hn,hs=>by
  obtain ⟨m1,m2,rfl⟩:=List.append_of_mem (hs a (by simp))
  obtain ⟨h1,h2⟩:=List.nodup_cons.1 hn
  have:=si (m:=m1++m2) h2 fun x hx=>by
   have:=hs x (by simp [hx])
   rcases List.mem_append.1 this with h | h
   ·exact List.mem_append.2 (.inl h)
   rcases List.mem_cons.1 h with rfl | h
   ·exact absurd hx h1
   exact List.mem_append.2 (.inr h)
  simp only [List.length_cons,List.length_append] at this ⊢
  omega
theorem n_le {ps:List Prf} {c:Za} {need:List Za} {k:Nat} (h:NInv ps c need k) (hk:k≤need.length):k≤ps.length:=by
 have:=si (l:=need.take k) (m:=ps.map (·.1)) (h.nd.sublist (List.take_sublist _ _)) fun x hx=>by
  obtain ⟨j,hj,rfl⟩:=List.getElem_of_mem hx
  rw [List.length_take] at hj
  rw [List.getElem_take]
  obtain ⟨i,p,h1,h2,_⟩:=h.cl j (by omega) _ (List.getElem?_eq_getElem (by omega))
  obtain ⟨q,h3,h4⟩:=eM h1
  rw [← h4]
  exact List.mem_map_of_mem (List.mem_of_getElem? h3)
 rw [List.length_take,List.length_map] at this
 omega
def d9 {α:Type} (P:Nat→Bool):List α→Nat→List α
 | [],_=>[]
 | x::l,i=>cond (P i) (x::d9 P l (i+1)) (d9 P l (i+1))
theorem p7 {α:Type} {P Q:Nat→Bool}:∀ (l:List α) (i:Nat),(∀ k,k<l.length→P (i+k)=Q (i+k))→d9 P l i=d9 Q l i
 | [],_,_=>rfl
 | x::l,i,h=>by
  have h0:=h 0 (by simp)
  rw [Nat.add_zero] at h0
  rw [d9,d9,h0,p7 (P:=P) (Q:=Q) l (i+1) fun k hk=>by have:=h (k+1) (by simpa using hk);rw [show i+1+k=i+(k+1) by omega];exact this]
theorem lv {α:Type} (P:Nat→Bool):∀ (l:List α) (x:α) (i:Nat),d9 P (l++[x]) i=d9 P l i++cond (P (i+l.length)) [x] []
 | [],x,i=>by simp [d9]
 | y::l,x,i=>by
  rw [List.cons_append,d9,d9,lv P l x (i+1),List.length_cons,show i+1+l.length=i+(l.length+1) by omega]
  cases P i <;> rfl
theorem kS {α:Type} (P:Nat→Bool):∀ (l:List α) (i:Nat),(d9 P l i).length≤l.length
 | [],_=>by simp [d9]
 | x::l,i=>by
  have:=kS P l (i+1)
  rw [d9]
  cases P i <;> simp <;> omega
theorem mq {α:Type} (P:Nat→Bool):∀ (l:List α) (i:Nat),∀ x∈d9 P l i,∃ k,∃ h:k<l.length,l[k]=x∧P (i+k)=true
 | [],_,x,h=>by simp [d9] at h
 | y::l,i,x,h=>by
  rw [d9] at h
  cases hp:P i with
  | false =>
   rw [hp] at h
   obtain ⟨k,h1,h2,h3⟩:=mq P l (i+1) x h
   exact ⟨k+1,by simpa using h1,by simpa using h2,by rw [show i+(k+1)=i+1+k by omega];exact h3⟩
  | true =>
   rw [hp] at h
   rcases List.mem_cons.1 h with rfl | h
   ·exact ⟨0,by simp,rfl,by simpa using hp⟩
   obtain ⟨k,h1,h2,h3⟩:=mq P l (i+1) x h
   exact ⟨k+1,by simpa using h1,by simpa using h2,by rw [show i+(k+1)=i+1+k by omega];exact h3⟩
theorem p8 {ps:List Prf} {k:Nat} (hk:k<ps.length):∃ j,bS ps ps[k].1=some j∧j≤k:=by
 unfold bS
 cases h:ps.findIdx? (fun p=>decide (p.1=ps[k].1)) with
 | none =>
  rw [List.findIdx?_eq_none_iff] at h
  have:=h ps[k] (List.getElem_mem hk)
  simp at this
 | some j =>
  refine ⟨j,rfl,?_⟩
  rw [List.findIdx?_eq_some_iff_getElem] at h
  obtain ⟨h1,h2,h3⟩:=h
  rcases Nat.lt_or_ge k j with h4 | h4
  ·have:=h3 k h4;simp at this
  exact h4
structure FMap (ps:List Prf) (k:Nat) (m:List (Za×Int)):Prop where
 get:∀ d,dm m d=match bS ps d with | some i=>cond (decide (i<k)) (some (i:Int)) none | none=>none
theorem w0 {ps:List Prf} {m:List (Za×Int)} (h:FMap ps ps.length m) (d:Za):dm m d=(bS ps d).map (fun i:Nat=>(i:Int)):=by
 rw [h.get]
 cases hf:bS ps d with
 | none=>rfl
 | some i =>
  obtain ⟨p,h1,_⟩:=eM hf
  have:=(List.getElem?_eq_some_iff.1 h1).1
  dsimp only
  rw [det this];rfl
theorem uQ {ps:List Prf} {k:Nat} {m:List (Za×Int)} (h:FMap ps k m) (hk:k<ps.length) (hs:(dm m ps[k].1).isSome=true):FMap ps (k+1) m:=by
 obtain ⟨j,h1,h2⟩:=p8 hk
 have hj:=h.get ps[k].1
 rw [h1] at hj
 dsimp only at hj
 have hjk:j<k:=by
  rcases Nat.lt_or_ge j k with h3 | h3
  ·exact h3
  rw [i4 (by omega)] at hj;rw [hj] at hs;cases hs
 refine ⟨fun d=>?_⟩
 rw [h.get]
 cases hf:bS ps d with
 | none=>rfl
 | some i =>
  dsimp only
  have:i≠k:=by
   rintro rfl
   obtain ⟨p,h3,h4⟩:=eM hf
   rw [List.getElem?_eq_getElem hk] at h3;injection h3 with h3
   rw [← h4,← h3,h1] at hf;injection hf with hf;omega
  rw [show decide (i<k+1)=decide (i<k) from decide_eq_decide.2 (by omega)]
theorem w5 {ps:List Prf} {k:Nat} {m:List (Za×Int)} (h:FMap ps k m) (hk:k<ps.length) (hs:(dm m ps[k].1).isSome=false):FMap ps (k+1) (lg m ps[k].1 (k:Int)):=by
 obtain ⟨j,h1,h2⟩:=p8 hk
 have hj:=h.get ps[k].1
 rw [h1] at hj
 dsimp only at hj
 have hjk:j=k:=by
  rcases Nat.lt_or_ge j k with h3 | h3
  ·rw [det h3] at hj;rw [hj] at hs;cases hs
  omega
 subst hjk
 refine ⟨fun d=>?_⟩
 rw [uP]
 by_cases e:ps[j].1=d
 ·rw [if_pos e,← e,h1]
  dsimp only
  rw [det (by omega)];rfl
 rw [if_neg e,h.get]
 cases hf:bS ps d with
 | none=>rfl
 | some i =>
  dsimp only
  have:i≠j:=by
   rintro rfl
   obtain ⟨p,h3,h4⟩:=eM hf
   rw [List.getElem?_eq_getElem hk] at h3;injection h3 with h3
   exact e (by rw [h3];exact h4)
  rw [show decide (i<j+1)=decide (i<j) from decide_eq_decide.2 (by omega)]
theorem p9 {α:Type} {l:List α} {k:Nat} (h:k<l.length):l.take (k+1)=l.take k++[l[k]]:=by
 rw [List.take_add_one,List.getElem?_eq_getElem h];rfl
def TrimS (x:List Zb) (c:Za) (r:List Zb×Int):Prop :=
 (∃ P:Nat→Bool,TOk (x.map mn) c (fun i=>P i=true)∧r=(d9 P x 0,0))∨(r=([],6)∧TErr (x.map mn) c)
structure Zx (x:List Zb) (M:Nat):Prop where
 len:x.length≤100000
 prem:∀ p∈x,p.Premises.length≤M
 path:∀ p∈x,p.Path.length≤1000000000000
 mx:M≤2000000
theorem wadd1 {k:Nat} (h:k≤4611686018427387904):IntKind.i64.wrap ((k:Int)+1)=((k+1:Nat):Int):=by rw [i64s (by omega) (by omega)];omega
theorem uR {x:List Zb} {M:Nat} (h:Zx x M) (c:Za):Y (gE x c) (TrimS x c):=by
 unfold gE
 have hn:=h.len;have hmx:=h.mx
 have hpl:(x.map mn).length=x.length:=List.length_map _
 refine Y.bind (P:=fun m=>FMap (x.map mn) x.length m) ?_ fun m hm=>?_
 ·refine Y.loop (fun s:Int×List (Za×Int)=>∃ k:Nat,s.1=(k:Int)∧k≤x.length∧FMap (x.map mn) k s.2) (fun s=>(x.length - s.1).toNat) ⟨0,rfl,by omega,⟨fun d=>by cases bS (x.map mn) d <;> rfl⟩⟩ (by show ((x.length:Int) - 0).toNat≤_;omega) (fun s hs=>?_)
  obtain ⟨v,m⟩:=s
  obtain ⟨k,hv,hk,hf⟩:=hs
  dsimp only at hv hf ⊢
  subst hv
  rcases Nat.lt_or_ge k x.length with hk2 | hk2
  rotate_left
  ·have e:k=x.length:=by omega
   subst e
   rw [oh,i0];exact Y.ret hf
  rw [wA hk2,ga,cy hk2,iD,kV hk2 (by omega)]
  have hkp:k<(x.map mn).length:=by omega
  have hc1:((x.map mn)[k]).1=x[k].Claim:=by rw [List.getElem_map];rfl
  have hdec:((x.length:Int) - ((k+1:Nat):Int)).toNat<((x.length:Int) - (k:Int)).toNat:=by omega
  cases hs:(dm m x[k].Claim).isSome with
  | true=>exact Y.ret ⟨⟨k+1,rfl,by omega,uQ hf hkp (by rw [hc1];exact hs)⟩,hdec⟩
  | false=>exact Y.ret ⟨⟨k+1,rfl,by omega,by have:=w5 hf hkp (by rw [hc1];exact hs);rw [hc1] at this;exact this⟩,hdec⟩
 have hget:∀ d,dm m d=(bS (x.map mn) d).map (fun i:Nat=>(i:Int)):=w0 (by rw [hpl];exact hm)
 rw [show mk 1 false (x.length:Int)=some (List.replicate x.length false) by unfold mk;rw [if_pos (by simp;omega)];simp,iD]
 refine Y.bind (P:=fun t=>match t with | .inl nd=>TOk (x.map mn) c (fun i=>nd[i]?=some true)∧nd.length=x.length | .inr e=>e=(([]:List Zb),(6:Int))∧TErr (x.map mn) c) ?_ fun t ht=>?_
 ·refine Y.loop (fun s:List Bool×List Za=>Zt (x.map mn) c s.1 s.2∧s.2.length+eN s.1*(M+1)≤1+x.length*(M+1)) (fun s=>s.2.length+eN s.1*(M+1)) ⟨by rw [← hpl];exact t_start,?_⟩ ?_ (fun s hs=>?_)
  ·have:eN (List.replicate x.length false)≤x.length:=by unfold eN;refine Nat.le_trans (List.length_filter_le _ _) ?_;simp
   have:=Nat.mul_le_mul_right (M+1) this
   simp only [List.length_cons,List.length_nil];omega
  ·have:eN (List.replicate x.length false)≤x.length:=by unfold eN;refine Nat.le_trans (List.length_filter_le _ _) ?_;simp
   have h1:=Nat.mul_le_mul_right (M+1) this
   have h2:x.length*(M+1)≤100000*2000001:=Nat.mul_le_mul hn (by omega)
   simp only [List.length_cons,List.length_nil];omega
  obtain ⟨nd,todo⟩:=s
  obtain ⟨hI,hB⟩:=hs
  dsimp only at hI hB ⊢
  have h2:x.length*(M+1)≤100000*2000001:=Nat.mul_le_mul hn (by omega)
  rcases List.eq_nil_or_concat todo with rfl | ⟨t,d,rfl⟩
  ·exact Y.ret ⟨t_end hI,by rw [hI.len,hpl]⟩
  rw [List.concat_eq_append] at hI hB ⊢
  have hlen:(t++[d]).length=t.length+1:=by simp
  have hw:IntKind.i64.wrap ((((t++[d]).length:Nat):Int) - 1)=(t.length:Int):=by rw [hlen,i64s (by omega) (by omega)];omega
  have hix:idx (t++[d]) (t.length:Int)=some d:=by rw [cy (by simp)];simp
  have hsub:sub (t++[d]) 0 (t.length:Int)=some t:=by
   have:=wB (xs:=t++[d]) (a:=0) (b:=t.length) (by omega) (by simp)
   rw [show ((0:Nat):Int)=0 from rfl] at this
   rw [this];simp
  rw [det (show (0:Int)<(((t++[d]).length:Nat):Int) by rw [hlen];omega),ga,hw,hix,iD,hsub,iD,hget]
  cases hf:bS (x.map mn) d with
  | none=>exact Y.ret ⟨rfl,t_fail hI hf⟩
  | some i =>
   obtain ⟨p,hp,hpd⟩:=eM hf
   have hi:i<x.length:=by have:=(List.getElem?_eq_some_iff.1 hp).1;omega
   have hpx:p=mn x[i]:=by rw [List.getElem?_map,List.getElem?_eq_getElem hi] at hp;injection hp with hp;exact hp.symm
   have hin:i<nd.length:=by have:=hI.len;omega
   simp only [Option.map_some,Option.isSome_some,Bool.not_true,i0,Option.getD_some,cy hin,cy hi,iD]
   cases hb:nd[i] with
   | true =>
    refine Y.ret ⟨⟨t_skip hI hf (by rw [List.getElem?_eq_getElem hin,hb]),?_⟩,?_⟩
    ·dsimp only;omega
    ·dsimp only;omega
   | false =>
    have hpr:=h.prem _ (List.getElem_mem hi)
    have hfs:=oL nd i (by rw [List.getElem?_eq_getElem hin,hb])
    have hm2:(eN (nd.set i true)+1)*(M+1)≤eN nd*(M+1):=Nat.mul_le_mul_right _ hfs
    rw [Nat.add_mul,Nat.one_mul] at hm2
    simp only [Bool.not_false,ga]
    rw [ma (by omega) (by omega),iD,Int.toNat_natCast]
    have hadd:=t_add hI hf hp
    rw [hpx] at hadd
    refine Y.ret ⟨⟨hadd,?_⟩,?_⟩
    ·show (t++x[i].Premises).length+eN (nd.set i true)*(M+1)≤_
     rw [List.length_append];omega
    show (t++x[i].Premises).length+eN (nd.set i true)*(M+1)<(t++[d]).length+eN nd*(M+1)
    rw [List.length_append];omega
 cases t with
 | inr e=>obtain ⟨rfl,h2⟩:=ht;exact Y.ret (.inr ⟨rfl,h2⟩)
 | inl nd =>
  obtain ⟨hT,hlen⟩:=ht
  dsimp only
  refine Y.bind (P:=fun r=>r=d9 (fun i=>nd.getD i false) x 0) ?_ fun r hr=>Y.ret (.inl ⟨fun i=>nd.getD i false,?_,by rw [hr]⟩)
  ·refine Y.loop (fun s:List Zb×Int=>∃ k:Nat,s.2=(k:Int)∧k≤x.length∧s.1=d9 (fun i=>nd.getD i false) (x.take k) 0) (fun s=>(x.length - s.2).toNat) ⟨0,rfl,by omega,rfl⟩ (by show ((x.length:Int) - 0).toNat≤_;omega) (fun s hs=>?_)
   obtain ⟨out,v⟩:=s
   obtain ⟨k,hv,hk,ho⟩:=hs
   dsimp only at hv ho ⊢
   subst hv;subst ho
   rcases Nat.lt_or_ge k x.length with hk2 | hk2
   rotate_left
   ·have e:k=x.length:=by omega
    subst e
    rw [oh,i0,List.take_length];exact Y.ret rfl
   have hkn:k<nd.length:=by omega
   have hdec:((x.length:Int) - ((k+1:Nat):Int)).toNat<((x.length:Int) - (k:Int)).toNat:=by omega
   have hsn:d9 (fun i=>nd.getD i false) (x.take (k+1)) 0=d9 (fun i=>nd.getD i false) (x.take k) 0++cond nd[k] [x[k]] []:=by
    rw [p9 hk2,lv,Nat.zero_add,List.length_take,Nat.min_eq_left (by omega),List.getD_eq_getElem?_getD,List.getElem?_eq_getElem hkn];rfl
   have hol:=kS (fun i=>nd.getD i false) (x.take k) 0
   rw [List.length_take] at hol
   rw [wA hk2,ga,cy hk2,iD,cy hkn,iD,kV hk2 (by omega)]
   cases hb:nd[k] with
   | false=>exact Y.ret ⟨⟨k+1,rfl,by omega,by rw [hsn,hb];simp⟩,hdec⟩
   | true =>
    have h1:=h.path _ (List.getElem_mem hk2);have h2:=h.prem _ (List.getElem_mem hk2)
    unfold cF bc
    simp only [ga]
    rw [ma (by simp only [List.length_cons,List.length_nil];omega) (by simp only [List.length_cons,List.length_nil];omega),iD,ma (by simp only [List.length_cons,List.length_nil];omega) (by simp only [List.length_cons,List.length_nil];omega),iD,ma (by simp only [List.length_cons,List.length_nil];omega) (by simp only [List.length_cons,List.length_nil];omega),iD]
    exact Y.ret ⟨⟨k+1,rfl,by omega,by rw [hsn,hb];rfl⟩,hdec⟩
  refine ⟨fun i=>?_,hT.2⟩
  rw [← hT.1 i]
  show nd.getD i false=true↔nd[i]?=some true
  rw [List.getD_eq_getElem?_getD]
  cases nd[i]? with
  | none=>simp
  | some b=>simp
theorem mJ:cK=ip:=rfl
theorem qa {α T:Type} (q:α→Bool) (f:Nat→T):∀ (l:List α) (i:Nat),fc (fun k x=>cond (q x) (some (f k)) none) l i=(l.findIdx? q).map fun j=>f (i+j)
 | [],_=>rfl
 | x::l,i=>by
  rw [fc,List.findIdx?_cons]
  cases q x with
  | true=>simp
  | false =>
   simp only [i0,Bool.false_eq_true,if_false]
   rw [qa q f l (i+1)]
   cases l.findIdx? q with
   | none=>rfl
   | some j=>simp only [Option.map_some];rw [show i+1+j=i+(j+1) by omega]
def kI (o:Option Nat):Int:=match o with | some i=>(i:Int) | none => -1
theorem qb (x:List Zb) (d:Za) (hx:x.length≤140737488355328):fE x d=some (kI (bS (x.map mn) d)):=by
 unfold fE
 refine (jh (l:=x) (by omega) (fun k (p:Zb)=>cond (Za.eqb p.Claim d) (some (.inr (k:Int))) none) (.inl ()) (fun k hk=>?_) (by simp only [oh,i0])).trans ?_
 ·simp only [wA hk,ga,cy hk,iD,kV hk (show x.length≤4611686018427387904 by omega)]
  cases Za.eqb x[k].Claim d <;> rfl
 rw [qa (fun p:Zb=>Za.eqb p.Claim d) (fun k=>(Sum.inr (k:Int):Unit⊕Int))]
 have e:bS (x.map mn) d=x.findIdx? fun p=>Za.eqb p.Claim d:=by
  unfold bS
  rw [List.findIdx?_map]
  congr 1
  funext p
  show decide (p.Claim=d)=_
  rw [tV]
 rw [e]
 cases x.findIdx? fun p=>Za.eqb p.Claim d with
 | none=>rfl
 | some j=>show some ((0+j:Nat):Int)=_;rw [Nat.zero_add];rfl
def oM (x:List Zb) (need:List Za) (i:Nat):Bool:=match x[i]? with
 | some p=>kH need p.Claim&&decide (bS (x.map mn) p.Claim=some i)
 | none=>false
theorem s7 (o:Option Nat):decide (kI o<0)=o.isNone:=by
 cases o with
 | none=>rfl
 | some i=>exact i4 (by unfold kI;dsimp only;omega)
theorem uS (o:Option Nat) (k:Nat):(kI o == (k:Int))=decide (o=some k):=by
 cases o with
 | none=>rw [i4 (by simp)];exact beq_eq_false_iff_ne.2 (by unfold kI;dsimp only;omega)
 | some i =>
  by_cases e:i=k
  ·subst e;simp [kI]
  rw [i4 (by simpa using e)];exact beq_eq_false_iff_ne.2 (by unfold kI;dsimp only;omega)
theorem w6 {x:List Zb} {M:Nat} (h:Zx x M) (c:Za):Y (iu x c) (TrimS x c):=by
 unfold iu
 have hn:=h.len;have hmx:=h.mx
 have hpl:(x.map mn).length=x.length:=List.length_map _
 refine Y.bind (P:=fun t=>match t with | .inl need=>NInv (x.map mn) c need need.length∧need.length≤1+x.length*M | .inr e=>e=(([]:List Zb),(6:Int))∧TErr (x.map mn) c) ?_ fun t ht=>?_
 ·refine Y.loop (fun s:List Za×Int=>∃ k:Nat,s.2=(k:Int)∧k≤s.1.length∧NInv (x.map mn) c s.1 k∧s.1.length≤1+k*M) (fun s=>(x.length+1 - s.2).toNat) ⟨0,rfl,by simp,n_start,by simp⟩ (by show ((x.length:Int)+1 - 0).toNat≤_;omega) (fun s hs=>?_)
  obtain ⟨need,v⟩:=s
  obtain ⟨k,hv,hk,hI,hB⟩:=hs
  dsimp only at hv hk hI hB ⊢
  subst hv
  have hkn:=n_le hI hk
  rw [hpl] at hkn
  have hkM:k*M≤x.length*M:=Nat.mul_le_mul_right _ hkn
  have hxM:x.length*M≤100000*2000000:=Nat.mul_le_mul hn hmx
  rcases Nat.lt_or_ge k need.length with hk2 | hk2
  rotate_left
  ·have e:k=need.length:=by omega
   rw [e] at hI
   rw [e,oh,i0]
   exact Y.ret ⟨hI,by omega⟩
  have hgk:need[k]?=some need[k]:=List.getElem?_eq_getElem hk2
  rw [wA hk2,ga,cy hk2,iD,qb x need[k] (by omega),iD,s7]
  cases hf:bS (x.map mn) need[k] with
  | none=>exact Y.ret ⟨rfl,n_fail hI hgk hf⟩
  | some i =>
   obtain ⟨p,hp,hpd⟩:=eM hf
   have hi:i<x.length:=by have:=(List.getElem?_eq_some_iff.1 hp).1;omega
   have hpx:p=mn x[i]:=by rw [List.getElem?_map,List.getElem?_eq_getElem hi] at hp;injection hp with hp;exact hp.symm
   have hadd:=n_add hI hgk hf hp
   rw [hpx] at hadd
   have hpr:=h.prem _ (List.getElem_mem hi)
   have hstep:∀ (l:List Za) (e:Za),(ef l e).length≤l.length+1:=fun l e=>by unfold ef;cases kH l e <;> simp
   have hlo:need.length≤(x[i].Premises.foldl ef need).length:=by obtain ⟨m,e,_⟩:=j8 x[i].Premises need;rw [e];simp
   simp only [Option.isNone_some,i0,kI]
   have main:=uH (β:=(List Za×Int)⊕(List Za⊕(List Zb×Int))) (l:=x[i].Premises) (by omega) (body:=fun (l20,v23)=>Option.bind (idx x (i:Int)) (fun m30=>cond (decide (v23<(m30.Premises.length:Int))) (Option.bind (Option.bind (idx x (i:Int)) (fun m37=>Option.bind (idx m37.Premises v23) (fun m38=>Option.bind (cK l20 m38) (fun x39=>cond (!x39) (Option.bind (idx x (i:Int)) (fun m41=>Option.bind (idx m41.Premises v23) (fun m42=>Option.bind (app 16 l20 [m42]) (fun l45=>some l45)))) (some l20))))) (fun l35=>some (.inl (l35,(IntKind.i64.wrap (v23+1)))))) (some (.inr l20)))) (k:=fun l27=>some (.inl (l27,(IntKind.i64.wrap ((k:Int)+1)))))
    (fun j (s:List Za)=>(s,j)) ef (fun s=>s) (fun j s=>s.length≤need.length+j) need (by omega) (fun j hj s hs=>?_) (fun s _=>by simp only [cy hi,iD,oh,i0])
   ·refine (show Y _ _ from ⟨_,main.1,⟨⟨k+1,wadd1 (by omega),by show k+1≤(x[i].Premises.foldl ef need).length;omega,hadd,?_⟩,?_⟩⟩)
    ·have:=main.2;have e:(k+1)*M=k*M+M:=by rw [Nat.add_mul,Nat.one_mul]
     dsimp only;omega
    show ((x.length:Int)+1 - IntKind.i64.wrap ((k:Int)+1)).toNat<((x.length:Int)+1 - (k:Int)).toNat
    rw [wadd1 (by omega)];omega
   refine ⟨?_,by have:=hstep s x[i].Premises[j];omega⟩
   simp only [cy hi,iD,wA hj,ga,cy hj,kV hj (show x[i].Premises.length≤4611686018427387904 by omega)]
   rw [mJ,lO _ _ (by omega),iD]
   unfold ef
   cases kH s x[i].Premises[j]
   ·simp only [Bool.not_false,ga,i0]
    rw [ma (by simp only [List.length_cons,List.length_nil];omega) (by simp only [List.length_cons,List.length_nil];omega)];rfl
   rfl
 cases t with
 | inr e=>obtain ⟨rfl,h2⟩:=ht;exact Y.ret (.inr ⟨rfl,h2⟩)
 | inl need =>
  obtain ⟨hI,hB⟩:=ht
  have hxM:x.length*M≤100000*2000000:=Nat.mul_le_mul hn hmx
  have hT:=n_end hI
  dsimp only
  refine Y.bind (P:=fun r=>r=d9 (oM x need) x 0) ?_ fun r hr=>Y.ret (.inl ⟨oM x need,?_,by rw [hr]⟩)
  ·refine Y.loop (fun s:List Zb×Int=>∃ k:Nat,s.2=(k:Int)∧k≤x.length∧s.1=d9 (oM x need) (x.take k) 0) (fun s=>(x.length - s.2).toNat) ⟨0,rfl,by omega,rfl⟩ (by show ((x.length:Int) - 0).toNat≤_;omega) (fun s hs=>?_)
   obtain ⟨out,v⟩:=s
   obtain ⟨k,hv,hk,ho⟩:=hs
   dsimp only at hv ho ⊢
   subst hv;subst ho
   rcases Nat.lt_or_ge k x.length with hk2 | hk2
   rotate_left
   ·have e:k=x.length:=by omega
    subst e
    rw [oh,i0,List.take_length];exact Y.ret rfl
   have hdec:((x.length:Int) - ((k+1:Nat):Int)).toNat<((x.length:Int) - (k:Int)).toNat:=by omega
   have hrk:oM x need k=(kH need x[k].Claim&&decide (bS (x.map mn) x[k].Claim=some k)):=by unfold oM;rw [List.getElem?_eq_getElem hk2]
   have hsn:d9 (oM x need) (x.take (k+1)) 0=d9 (oM x need) (x.take k) 0++cond (oM x need k) [x[k]] []:=by
    rw [p9 hk2,lv,Nat.zero_add,List.length_take,Nat.min_eq_left (by omega)]
   have hol:=kS (oM x need) (x.take k) 0
   rw [List.length_take] at hol
   rw [wA hk2,ga,cy hk2,iD,mJ,lO _ _ (by omega),iD,kV hk2 (by omega)]
   cases hmb:kH need x[k].Claim with
   | false =>
    simp only [gd_ff,iD,Bool.false_and,i0]
    exact Y.ret ⟨⟨k+1,rfl,by omega,by rw [hsn,hrk,hmb];simp⟩,hdec⟩
   | true =>
    simp only [tH,iD,qb x x[k].Claim (show x.length≤140737488355328 by omega),Bool.true_and,uS]
    cases hd:decide (bS (x.map mn) x[k].Claim=some k) with
    | false=>exact Y.ret ⟨⟨k+1,rfl,by omega,by rw [hsn,hrk,hmb,hd];simp⟩,hdec⟩
    | true =>
     simp only [ga]
     rw [ma (by simp only [List.length_cons,List.length_nil];omega) (by simp only [List.length_cons,List.length_nil];omega),iD,iD]
     exact Y.ret ⟨⟨k+1,rfl,by omega,by rw [hsn,hrk,hmb,hd];rfl⟩,hdec⟩
  refine ⟨fun i=>?_,hT.2⟩
  rw [← hT.1 i]
  show oM x need i=true↔∃ p,(x.map mn)[i]?=some p∧p.1∈need∧bS (x.map mn) p.1=some i
  unfold oM
  rw [List.getElem?_map]
  cases x[i]? with
  | none=>simp
  | some p =>
   simp only [Option.map_some,cu,exists_eq_left',Bool.and_eq_true,decide_eq_true_eq]
   rw [oJ];rfl
theorem s8 {x:List Zb} {c:Za} {r s:List Zb×Int} (h1:TrimS x c r) (h2:TrimS x c s):r=s:=by
 rcases h1 with ⟨P,a1,rfl⟩ | ⟨rfl,a1⟩
 ·rcases h2 with ⟨Q,b1,rfl⟩ | ⟨rfl,b1⟩
  ·congr 1
   refine p7 (P:=P) (Q:=Q) x 0 fun k hk=>?_
   have:=wX a1 b1 (0+k)
   rw [Bool.eq_iff_iff];exact this
  exact (tZ a1 b1).elim
 rcases h2 with ⟨Q,b1,rfl⟩ | ⟨rfl,b1⟩
 ·exact (tZ b1 a1).elim
 rfl
theorem sj {x:List Zb} {M:Nat} (h:Zx x M) {c:Za} {r:List Zb×Int} (hr:TrimS x c r):r.1.length≤x.length∧∀ p∈r.1,p∈x:=by
 rcases hr with ⟨P,_,rfl⟩ | ⟨rfl,_⟩
 ·refine ⟨kS _ _ _,fun p hp=>?_⟩
  obtain ⟨k,hk,rfl,_⟩:=mq P x 0 p hp
  exact List.getElem_mem hk
 exact ⟨by simp,fun p hp=>by cases hp⟩

section
variable {x:Zl} {rec:Ze→List Int→Option (List Int×Bool)}
end

structure XSm (x:List Zb):Prop where
 len:x.length≤1000000
 prem:∀ p∈x,p.Premises.length≤140737488355328

structure PSm (M:Nat) (p:Zb):Prop where
 path:p.Path.length≤M
 prem:p.Premises.length≤M
structure CSm (n M:Nat) (x:List Zb):Prop where
 len:x.length≤n
 all:∀ p∈x,PSm M p



theorem lP (m0:List Zb) (m1:Za) (m2:Int) {κ:Kr} {v0 v1 v2:List Value} (_:Rps κ (eL Zb.enc m0) v0) (_:Rps κ [.agg (Za.enc m1)] v1) (_:Rps κ (eI m2) v2) (hb:∀ p∈m0,p.Path.length≤1048576∧p.Premises.length≤1048576):cR m0 m1 m2=some true:=by
 have key:Y (cR m0 m1 m2) (fun r=>r=true):=by
  unfold cR
  refine Y.bind (P:=fun q=>q.1.length≤30∧∀ p∈q.1,p∈m0) (Y.cond (fun hc=>?_) fun hc=>?_) fun q hq=>?_
  ·have hpos:=of_decide_eq_true hc
   rw [show (30:Int)=((30:Nat):Int) from rfl,show (0:Int)=((0:Nat):Int) from rfl,wB (by omega) (by omega),iD]
   exact Y.ret ⟨by simp;omega,fun p hp=>List.mem_of_mem_take (List.mem_of_mem_drop hp)⟩
  ·have hpos:=of_decide_eq_false hc
   exact Y.ret ⟨by dsimp only;omega,fun p hp=>hp⟩
  obtain ⟨x,v3⟩:=q
  obtain ⟨hlen,hmem⟩:=hq
  dsimp only at hlen hmem ⊢
  have hsm:Zx x 1048576:=⟨by omega,fun p hp=>(hb p (hmem p hp)).2,fun p hp=>by have:=(hb p (hmem p hp)).1;omega,by omega⟩
  refine Y.bind (P:=fun _=>True) (Y.cond (fun hc=>?_) fun _=>Y.ret trivial) fun q _=>?_
  ·rw [Bool.and_eq_true] at hc
   have hpos:=of_decide_eq_true hc.1
   refine (wN (cS .i64 v3 1) (x.length:Int) (by omega) (by omega)).bind fun k hk=>?_
   obtain ⟨n,rfl⟩:∃ n:Nat,k=(n:Int):=⟨k.toNat,by omega⟩
   rw [cy (show n<x.length by omega),iD]
   exact Y.ret trivial
  obtain ⟨q1,q2⟩:=q
  obtain ⟨r,er,hr⟩:=uR hsm ⟨q1,q2⟩
  obtain ⟨s,es,hs⟩:=w6 hsm ⟨q1,q2⟩
  have hrs:=s8 hr hs
  subst hrs
  dsimp only
  rw [er,iD,es,iD]
  obtain ⟨k1,k2⟩:=sj hsm hr
  have hsame:gn r.1 r.1=some true:=same15 _ (by omega) fun p hp=>by
   have h5:=hsm.path p (k2 p hp);have h6:=hsm.prem p (k2 p hp);omega
  simp only [beq_self_eq_true,tH,hsame,iD,Bool.and_self,awake15]
  exact Y.ret rfl
 obtain ⟨r,e,rfl⟩:=key
 exact e
def bd3:Nat→Int→Prop:=fun _ _=>True
theorem op3 {H:Type} {eh:TypeId×Value→H} {nb:Nat}:Opens eh nb 3 eI (bd3 nb):=uO rfl
def bd22:Nat→(List Int)→Prop:=fun n l=>l.length*8≤140737488355328∧l.length≤n∧∀ x∈l,bd3 n x
theorem op22 {H:Type} {eh:TypeId×Value→H} {nb:Nat}:Opens eh nb 22 (eL eI) (bd22 nb):=kE rfl rfl rfl rfl op3
def bd28:Nat→Za→Prop:=fun n m=>bd3 n m.Product∧bd3 n m.Agreement∧True
theorem op28 {H:Type} {eh:TypeId×Value→H} {nb:Nat}:Opens eh nb 28 Za.enc (bd28 nb):=fun W fuel cs x hx hw hbk=>by
 obtain ⟨xs,n,rfl,rfl,hl,hlen,hf⟩:=DataW.trod_struct (bd (t:=28) rfl) hx
 obtain ⟨x0,x1,rfl⟩:∃ x0 x1,xs=[x0,x1]:=by
  match xs,hlen with
  | [a0,a1],_=>exact ⟨a0,a1,rfl⟩
 have hw2:∀ n∈DataW.weightsEach Tryz.prog [3,3] [x0.1,x1.1],n≤reachBytes:=fun n hn=>hw n (by simp only [DataW.weights,bd (t:=28) rfl];exact hn)
 simp only [DataW.weightsEach,List.mem_append] at hw2
 simp only [Rows.uptoBulk,List.map_cons,List.map_nil,Rows.uptoBulkAll] at hbk
 have g0:DataW.trod eh Tryz.prog W 0 (fun _=>true) true n 3 ((cs.drop 0).take (Tryz.prog.cellsOf 3))=some x0:=hf 0 _ rfl
 rw [(dK (t:=3) rfl).1] at g0
 obtain ⟨m0,r0,o0,c0⟩:=op3 (nb:=nb) W n _ _ g0 (fun n hn=>hw2 n (.inl hn)) (by omega)
 have g1:DataW.trod eh Tryz.prog W 0 (fun _=>true) true n 3 ((cs.drop 1).take (Tryz.prog.cellsOf 3))=some x1:=hf 1 _ rfl
 rw [(dK (t:=3) rfl).1] at g1
 obtain ⟨m1,r1,o1,c1⟩:=op3 (nb:=nb) W n _ _ g1 (fun n hn=>hw2 n (.inr (.inl hn))) (by omega)
 have hl2:cs.length=2:=hl.trans (dK (t:=28) rfl).1
 exact ⟨(⟨m0,m1⟩:Za),(kF (off:=0) r0 (kF (off:=1) r1 (tL hl2))),(kG (off:=0) o0 (kG (off:=1) o1 (tM hl2))),⟨c0,c1,trivial⟩⟩
def bd31:Nat→(List Za)→Prop:=fun n l=>l.length*16≤140737488355328∧l.length≤n∧∀ x∈l,bd28 n x
theorem op31 {H:Type} {eh:TypeId×Value→H} {nb:Nat}:Opens eh nb 31 (eL Za.enc) (bd31 nb):=kE rfl rfl rfl rfl op28
def bd61:Nat→Zb→Prop:=fun n m=>bd28 n m.Claim∧bd22 n m.Path∧bd31 n m.Premises∧True
theorem op61 {H:Type} {eh:TypeId×Value→H} {nb:Nat}:Opens eh nb 61 Zb.enc (bd61 nb):=fun W fuel cs x hx hw hbk=>by
 obtain ⟨xs,n,rfl,rfl,hl,hlen,hf⟩:=DataW.trod_struct (bd (t:=61) rfl) hx
 obtain ⟨x0,x1,x2,rfl⟩:∃ x0 x1 x2,xs=[x0,x1,x2]:=by
  match xs,hlen with
  | [a0,a1,a2],_=>exact ⟨a0,a1,a2,rfl⟩
 have hw2:∀ n∈DataW.weightsEach Tryz.prog [28,22,31] [x0.1,x1.1,x2.1],n≤reachBytes:=fun n hn=>hw n (by simp only [DataW.weights,bd (t:=61) rfl];exact hn)
 simp only [DataW.weightsEach,List.mem_append] at hw2
 simp only [Rows.uptoBulk,List.map_cons,List.map_nil,Rows.uptoBulkAll] at hbk
 have g0:DataW.trod eh Tryz.prog W 0 (fun _=>true) true n 28 ((cs.drop 0).take (Tryz.prog.cellsOf 28))=some x0:=hf 0 _ rfl
 rw [(dK (t:=28) rfl).1] at g0
 obtain ⟨m0,r0,o0,c0⟩:=op28 (nb:=nb) W n _ _ g0 (fun n hn=>hw2 n (.inl hn)) (by omega)
 have g1:DataW.trod eh Tryz.prog W 0 (fun _=>true) true n 22 ((cs.drop 2).take (Tryz.prog.cellsOf 22))=some x1:=hf 1 _ rfl
 rw [(dK (t:=22) rfl).1] at g1
 obtain ⟨m1,r1,o1,c1⟩:=op22 (nb:=nb) W n _ _ g1 (fun n hn=>hw2 n (.inr (.inl hn))) (by omega)
 have g2:DataW.trod eh Tryz.prog W 0 (fun _=>true) true n 31 ((cs.drop 3).take (Tryz.prog.cellsOf 31))=some x2:=hf 2 _ rfl
 rw [(dK (t:=31) rfl).1] at g2
 obtain ⟨m2,r2,o2,c2⟩:=op31 (nb:=nb) W n _ _ g2 (fun n hn=>hw2 n (.inr (.inr (.inl hn)))) (by omega)
 have hl2:cs.length=4:=hl.trans (dK (t:=61) rfl).1
 exact ⟨(⟨m0,m1,m2⟩:Zb),(kF (off:=0) r0 (kF (off:=2) r1 (kF (off:=3) r2 (tL hl2)))),(kG (off:=0) o0 (kG (off:=2) o1 (kG (off:=3) o2 (tM hl2)))),⟨c0,c1,c2,trivial⟩⟩
def bd45:Nat→(List Zb)→Prop:=fun n l=>l.length*64≤140737488355328∧l.length≤n∧∀ x∈l,bd61 n x
theorem op45 {H:Type} {eh:TypeId×Value→H} {nb:Nat}:Opens eh nb 45 (eL Zb.enc) (bd45 nb):=kE rfl rfl rfl rfl op61
end SX
end Go.Proofs.YtgmbmepakpcpaaaGreatDoor
set_option maxRecDepth 100000
namespace Go.Proofs.YtgmbmepakpcpaaaGreatDoor
open Go Go.ChangeShapes Go.WideShapes Go.RowKit
open SX
theorem originTrimRawUpto_lifted (os:Os) (started:os.Started) (H:Type) (enc:TypeId×Value→H) (F:Stop.Interp) :
    ReturnsInHanded {} Tryz.checked os 9 .any ((Rows.OpenSpec.upto Rows.originTrimRawSpec).preRow enc Tryz.prog Tryz.f9 Rows.originTrimRawUptoRow.domain false Rows.originTrimRawUptoRow.laid) (((Rows.OpenSpec.upto Rows.originTrimRawSpec).at F).post enc Tryz.prog Tryz.f9 false true false false):=by
  have hx:DataW.whole enc Tryz.prog ((laidWorld os).forCall (fun _ _=>0) ⟨#[],#[.slice none 0 0,.agg #[.int .i64 0,.int .i64 0],.int .i64 0],[]⟩).memory Tryz.f9.params.toList Rows.originTrimRawSpec.vars false #[.slice none 0 0,.agg #[.int .i64 0,.int .i64 0],.int .i64 0].toList 8=some ([.nil,.agg [.lit (.int .i64 0),.lit (.int .i64 0)],.lit (.int .i64 0)],[],[]):=by kernel_rfl
  refine returnsInHanded_of_row (C:=Tryz.checked) (s:=(Rows.OpenSpec.upto Rows.originTrimRawSpec)) own_ok started (by kernel_rfl) Tryz.func9
    (witness_row_at (enc:=enc) (C:=Tryz.checked) false (laidWorld os) #[.slice none 0 0,.agg #[.int .i64 0,.int .i64 0],.int .i64 0] rfl (by kernel_rfl) (by kernel_rfl) (by kernel_rfl)
      (OpenSpec.preRow_of_cond 8 hx (by kernel_rfl) (fun k hk=>by cases hk;kernel_rfl) (by kernel_rfl) (o8 os _))) ?_
  intro W base args ds gs before hval0 hW _ hkk hwt hL _ _
  have hkk:=hkk _ rfl
  have hval:∀ (j:Nat) t v,Tryz.f9.params[j]?=some t→args[j]?=some v→Value.okWide Tryz.prog W .any base t v:=hval0
  have hW2:=hW
  obtain ⟨p,q,hA0,hV0,rfl,_,_⟩:=hW
  have hA:DataW.TrodAll enc Tryz.prog W 0 (fun _=>true) true [45,28,3] args.toList ds p:=hA0
  obtain ⟨rfl,rfl⟩:gs=[]∧q=[]:=by
    cases gs with
    | nil=>exact ⟨rfl,hV0⟩
    | cons g r=>exact absurd hV0 (by intro h;cases h)
  generalize hargs:args.toList=vs at hA
  have hval2:∀ (j:Nat) t v,[45,28,3][j]?=some t→vs[j]?=some v→Value.okWide Tryz.prog W .any base t v:=fun j t v h1 h2=>hval j t v (by rw [Tryz.params9];simpa using h1) (by rw [← hargs] at h2;simpa using h2)
  obtain ⟨v0,vs0,d0,ds0,p0,q0,rfl,rfl,h0,hA⟩:=SX.trodAll_cons hA
  obtain ⟨v1,vs1,d1,ds1,p1,q1,rfl,rfl,h1,hA⟩:=SX.trodAll_cons hA
  obtain ⟨v2,vs2,d2,ds2,p2,q2,rfl,rfl,h2,hA⟩:=SX.trodAll_cons hA
  obtain ⟨rfl,rfl⟩:=SX.trodAll_nil hA
  have hw:(DataW.weightsEach Tryz.prog [45,28,3] [d0,d1,d2]).all (· ≤ reachBytes)=true:=hwt
  have hbk:Rows.uptoBulkAll [d0,d1,d2]≤1048576:=of_decide_eq_true hkk
  simp only [Rows.uptoBulkAll] at hbk
  obtain ⟨l0,hw⟩:=SX.light_head hw
  obtain ⟨m0,s0,b0⟩:=tP rfl rfl op45 (fun _=>⟨_,rfl⟩) (hval2 0 45 v0 rfl rfl) h0 l0 (nb:=1048576) (by omega)
  obtain ⟨l1,hw⟩:=SX.light_head hw
  obtain ⟨m1,r1,b1⟩:=arg_agg rfl rfl op28 (hval2 1 28 v1 rfl rfl) h1 l1 (nb:=1048576) (by omega)
  have s1:=Rps.cons r1 .nil
  obtain ⟨l2,hw⟩:=SX.light_head hw
  obtain ⟨m2,s2,b2⟩:=tP rfl rfl op3 (fun _=>⟨_,rfl⟩) (hval2 2 3 v2 rfl rfl) h2 l2 (nb:=1048576) (by omega)
  exact wV (readB (by kernel_rfl)) rfl (bd rfl) rfl rfl hW2 (r5 hL) (by rw [hargs];exact (s0.app (s1.app s2))) (j6 (lP m0 m1 m2 s0 s1 s2 (fun p hp=>⟨(b0.2.2 p hp).2.1.2.1,(b0.2.2 p hp).2.2.1.2.1⟩)))
theorem originTrimRawUpto_holds:Rows.OriginTrimRawUptoSaid :=
 OpenClaim.holds_of_cond 9 Tryz.f9 rfl rfl rfl rfl rfl rfl rfl ⟨rfl,rfl,rfl,rfl,rfl⟩ rfl rfl rfl rfl rfl originTrimRawUpto_named Tryz.func9 originTrimRawUpto_closed
  (of_decide_eq_true (by kernel_rfl)) (by unfold Func.isWrapper;rw [if_neg (of_decide_eq_false (by kernel_rfl))];exact ⟨rfl,rfl⟩)
  (fun os started H enc _ F=>by rw [OpenClaim.pre_eq_preRow];exact originTrimRawUpto_lifted os started H enc F)
theorem originTrimRawUpto_card:Rows.OriginTrimRawUptoCardSaid :=
 Claim7.holds_tied_plain_at .later [] [.data,.data,.pinned] true (true, "d6724934cde0ef4b5d01703053d4c3277341bc42a1cf7659bfec0d43871970fd") true
  originTrimRawUpto_holds (fun _ h=>by cases h) (by as_aux_lemma=>kernel_rfl) (fun _ h=>by cases h) originTrimRawUpto_row_tie rfl ⟨rfl,rfl⟩ fp_main rfl
  (fun f fn hf hfn=>by
   obtain rfl:f=9:=Option.some.inj ((show Tryz.prog.funcNamed "customs/customslaw15.OriginTrimRaw" = some 9 from originTrimRawUpto_named).symm.trans hf) |>.symm
   obtain rfl:fn=Tryz.f9:=(Option.some.inj (Tryz.func9.symm.trans hfn)).symm
   exact ⟨fp_looks,fun j t ht=>by
    rw [Tryz.params9] at ht
    exact r6 (by as_aux_lemma=>kernel_rfl) ht⟩)
  originTrimRawUpto_goes
#print axioms originTrimRawUpto_card
end Go.Proofs.YtgmbmepakpcpaaaGreatDoor
