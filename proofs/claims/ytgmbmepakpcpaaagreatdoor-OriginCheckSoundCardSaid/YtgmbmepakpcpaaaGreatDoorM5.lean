/- OriginCheckSound: for every input the law returns true, and each argument reads afterwards as it read before. Conditions: the package variables are as the program's text lays them (the card ties them). -/
import Derived.Test.YtgmbmepakpcpaaaGreatDoorM4
import Derived.Test.YtgmbmepakpcpaaaGreatDoorL9q
set_option linter.unusedVariables false
set_option linter.unusedSimpArgs false
set_option maxHeartbeats 4000000
set_option maxRecDepth 100000
set_option maxRecDepth 100000
set_option linter.unusedSectionVars false
namespace Go.Proofs.YtgmbmepakpcpaaaGreatDoor
namespace SX
open Go
section
variable {α:Type} [DecidableEq α]
def dd:List α→List α
 | []=>[]
 | [x]=>[x]
 | x::y::l=>cond (decide (x=y)) (dd (y::l)) (x::dd (y::l))
theorem yj (x y:α):∀ l:List α,dd (l++[x,y])=cond (decide (x=y)) (dd (l++[x])) (dd (l++[x])++[y])
 | []=>by
  show dd [x,y]=_
  rw [dd]
  cases h:decide (x=y)
  ·rfl
  ·have:=of_decide_eq_true h;subst this;rfl
 | [a]=>by
  have ih:=yj x y []
  simp only [List.nil_append] at ih
  simp only [List.cons_append,List.nil_append]
  rw [show dd [a,x,y]=cond (decide (a=x)) (dd [x,y]) (a::dd [x,y]) from rfl,ih,show dd [a,x]=cond (decide (a=x)) (dd [x]) (a::dd [x]) from rfl]
  cases decide (x=y) <;> cases decide (a=x) <;> rfl
 | a::b::l=>by
  show dd (a::b::(l++[x,y]))=_
  have ih:=yj x y (b::l)
  simp only [List.cons_append] at ih
  rw [dd,ih]
  show _=cond _ (dd (a::b::(l++[x]))) (dd (a::b::(l++[x]))++[y])
  rw [dd]
  cases decide (x=y) <;> cases decide (a=b) <;> rfl
theorem Bk:∀ {l:List α} {z:α},z∈dd l↔z∈l
 | [],z=>Iff.rfl
 | [x],z=>Iff.rfl
 | x::y::l,z=>by
  rw [dd]
  have ih:=Bk (l:=y::l) (z:=z)
  cases h:decide (x=y)
  ·rw [bC,List.mem_cons,ih];simp
  have:=of_decide_eq_true h;subst this
  rw [bV,ih];simp
theorem FF:∀ l:List α,(dd l).length≤l.length
 | []=>Nat.le_refl _
 | [x]=>Nat.le_refl _
 | x::y::l=>by
  rw [dd]
  have ih:=FF (y::l)
  cases decide (x=y)
  ·simp only [bC,List.length_cons] at ih ⊢;omega
  simp only [bV,List.length_cons] at ih ⊢;omega
theorem yk:∀ {l:List α},(∀ i,(h:i+1<l.length)→l[i]≠l[i+1])→dd l=l
 | [],_=>rfl
 | [x],_=>rfl
 | x::y::l,h=>by
  have h0:=h 0 (by simp)
  simp only [List.getElem_cons_zero,List.getElem_cons_succ,Nat.zero_add] at h0
  rw [dd,bI h0,bC,yk (l:=y::l) fun i hi=>by have:=h (i+1) (by simpa using hi);simpa using this]
variable {lt:α→α→Bool}
def Strict (lt:α→α→Bool) (l:List α):Prop:=l.Pairwise fun a b=>lt a b=true
theorem wX (htot:∀ x y,lt x y=false→lt y x=false→x=y) (htr:∀ x y z,lt x y=true→lt y z=true→lt x z=true):∀ {l:List α},l.Pairwise (fun a b=>lt b a=false)→Strict lt (dd l)
 | [],_=>List.Pairwise.nil
 | [x],_=>List.pairwise_singleton _ _
 | x::y::l,h=>by
  obtain ⟨h1,h2⟩:=List.pairwise_cons.1 h
  have ih:=wX htot htr h2
  rw [dd]
  cases hxy:decide (x=y)
  ·refine List.pairwise_cons.2 ⟨fun z hz=>?_,ih⟩
   have hz:=Bk.1 hz
   have hne:x≠y:=of_decide_eq_false hxy
   have hlt:lt x y=true:=by
    cases hl:lt x y
    ·exact absurd (htot x y hl (h1 y (by simp))) hne
    rfl
   rcases List.mem_cons.1 hz with rfl | hz
   ·exact hlt
   cases hyz:lt y z
   ·have:=(List.pairwise_cons.1 h2).1 z hz
    rw [← htot y z hyz this];exact hlt
   exact htr _ _ _ hlt hyz
  exact ih
theorem tn (hir:∀ x,lt x x=false) (htr:∀ x y z,lt x y=true→lt y z=true→lt x z=true):∀ {l m:List α},Strict lt l→Strict lt m→(∀ z,z∈l↔z∈m)→l=m
 | [],[],_,_,_=>rfl
 | [],y::m,_,_,h=>absurd ((h y).2 (by simp)) (by simp)
 | x::l,[],_,_,h=>absurd ((h x).1 (by simp)) (by simp)
 | x::l,y::m,h1,h2,h=>by
  obtain ⟨a1,a2⟩:=List.pairwise_cons.1 h1
  obtain ⟨b1,b2⟩:=List.pairwise_cons.1 h2
  have hxy:x=y:=by
   rcases List.mem_cons.1 ((h x).1 (by simp)) with e | hx
   ·exact e
   rcases List.mem_cons.1 ((h y).2 (by simp)) with e | hy
   ·exact e.symm
   have:=htr _ _ _ (a1 y hy) (b1 x hx);rw [hir] at this;cases this
  subst hxy
  congr 1
  refine tn hir htr a2 b2 fun z=>?_
  constructor
  ·intro hz
   rcases List.mem_cons.1 ((h z).1 (by simp [hz])) with rfl | hz2
   ·have:=a1 z hz;rw [hir] at this;cases this
   exact hz2
  intro hz
  rcases List.mem_cons.1 ((h z).2 (by simp [hz])) with rfl | hz2
  ·have:=b1 z hz;rw [hir] at this;cases this
  exact hz2
def aJ (l:List α) (c:α):Bool:=l.any fun x=>decide (x=c)
theorem fw {l:List α} {c:α}:aJ l c=true↔c∈l:=by unfold aJ;rw [List.any_eq_true];exact ⟨fun ⟨x,h1,h2⟩=>of_decide_eq_true h2 ▸ h1,fun h=>⟨c,h,det rfl⟩⟩
theorem nY {l:List α} {c:α}:aJ l c=false↔c ∉ l:=by rw [← fw];simp
def ii (lt:α→α→Bool) (l:List α) (c:α):List α:=cond (aJ l c) l (l.takeWhile (fun x=>lt x c)++c::l.dropWhile (fun x=>lt x c))
theorem r5 (l:List α) (c z:α):z∈ii lt l c↔z=c∨z∈l:=by
 unfold ii
 cases h:aJ l c
 ·rw [bC,List.mem_append,List.mem_cons]
  have:z∈l↔z∈l.takeWhile (fun x=>lt x c)∨z∈l.dropWhile (fun x=>lt x c):=by
   rw [← List.mem_append,List.takeWhile_append_dropWhile]
  rw [this]
  constructor
  ·rintro (h | h | h);exact .inr (.inl h);exact .inl h;exact .inr (.inr h)
  rintro (h | h | h);exact .inr (.inl h);exact .inl h;exact .inr (.inr h)
 have:=fw.1 h
 rw [bV]
 constructor
 ·exact fun h=>.inr h
 rintro (rfl | h);exact this;exact h
theorem qo (htot:∀ x y,lt x y=false→lt y x=false→x=y) (htr:∀ x y z,lt x y=true→lt y z=true→lt x z=true) {l:List α} {c:α} (h:Strict lt l):Strict lt (ii lt l c):=by
 unfold ii
 cases hc:aJ l c
 ·have hc:=nY.1 hc
  rw [bC]
  have hd:∀ z∈l.dropWhile (fun x=>lt x c),lt c z=true:=by
   have key:∀ m:List α,Strict lt m→c ∉ m→∀ z∈m.dropWhile (fun x=>lt x c),lt c z=true:=by
    intro m
    induction m with
    | nil=>intro _ _ z hz;cases hz
    | cons x m ih =>
     intro hm hcm z hz
     obtain ⟨m1,m2⟩:=List.pairwise_cons.1 hm
     rw [List.dropWhile_cons] at hz
     cases hx:lt x c
     ·rw [hx] at hz
      simp only [Bool.false_eq_true,if_false] at hz
      have hcx:lt c x=true:=by
       cases h2:lt c x
       ·exact absurd (htot x c hx h2) (fun e=>hcm (by simp [e]))
       rfl
      rcases List.mem_cons.1 hz with rfl | hz
      ·exact hcx
      exact htr _ _ _ hcx (m1 z hz)
     rw [hx] at hz
     simp only [if_true] at hz
     exact ih m2 (fun h=>hcm (by simp [h])) z hz
   exact key l h hc
  have ht:∀ z∈l.takeWhile (fun x=>lt x c),lt z c=true:=by
   have key:∀ m:List α,∀ z∈m.takeWhile (fun x=>lt x c),lt z c=true:=by
    intro m
    induction m with
    | nil=>intro z hz;cases hz
    | cons x m ih =>
     intro z hz
     rw [List.takeWhile_cons] at hz
     cases hx:lt x c
     ·rw [hx] at hz;cases hz
     rw [hx] at hz
     simp only [if_true] at hz
     rcases List.mem_cons.1 hz with rfl | hz
     ·exact hx
     exact ih z hz
   exact key l
  refine List.pairwise_append.2 ⟨h.sublist (List.takeWhile_sublist _),List.pairwise_cons.2 ⟨hd,h.sublist (List.dropWhile_sublist _)⟩,fun a ha b hb=>?_⟩
  rcases List.mem_cons.1 hb with rfl | hb
  ·exact ht a ha
  exact htr _ _ _ (ht a ha) (hd b hb)
 exact h
theorem kr (l:List α) (c:α):(ii lt l c).length≤l.length+1:=by
 unfold ii
 cases aJ l c
 ·rw [bC,List.length_append,List.length_cons]
  have:=congrArg List.length (List.takeWhile_append_dropWhile (p:=fun x=>lt x c) (l:=l))
  rw [List.length_append] at this;omega
 exact Nat.le_succ _
def sd (lt:α→α→Bool) (l:List α):List α:=dd (lr lt l)
theorem FG (l:List α) (z:α):z∈sd lt l↔z∈l:=by unfold sd;rw [Bk,kL.mem_iff]
theorem FH (l:List α):(sd lt l).length≤l.length:=by unfold sd;have:=FF (lr lt l);rw [nS] at this;exact this
structure Ord (lt:α→α→Bool):Prop where
 irr:∀ x,lt x x=false
 tr:∀ x y z,lt x y=true→lt y z=true→lt x z=true
 ntr:∀ x y z,lt x y=false→lt y z=false→lt x z=false
 tot:∀ x y,lt x y=false→lt y x=false→x=y
theorem sM (o:Ord lt) (l:List α):Strict lt (sd lt l):=wX o.tot o.tr (lU o.tr o.ntr o.irr l)
theorem r6 (o:Ord lt):∀ (l acc:List α),Strict lt acc→Strict lt (l.foldl (ii lt) acc)∧(∀ z,z∈l.foldl (ii lt) acc↔z∈acc∨z∈l)∧(l.foldl (ii lt) acc).length≤acc.length+l.length
 | [],acc,h=>⟨h,fun z=>by simp,by simp⟩
 | c::l,acc,h=>by
  obtain ⟨h1,h2,h3⟩:=r6 o l (ii lt acc c) (qo o.tot o.tr h)
  refine ⟨h1,fun z=>?_,?_⟩
  ·rw [List.foldl_cons,h2,r5,List.mem_cons]
   constructor
   ·rintro ((h | h) | h);exact .inr (.inl h);exact .inl h;exact .inr (.inr h)
   rintro (h | h | h);exact .inl (.inr h);exact .inl (.inl h);exact .inr h
  rw [List.foldl_cons,List.length_cons];have:=kr (lt:=lt) acc c;omega
theorem tp (o:Ord lt) (l:List α):l.foldl (ii lt) []=sd lt l :=
 tn o.irr o.tr (r6 o l [] List.Pairwise.nil).1 (sM o l) fun z=>by rw [(r6 o l [] List.Pairwise.nil).2.1,FG];simp
end
theorem Bl:Ord iS:=⟨Ck,Fs,fun x y z h1 h2=>by
 rw [p8] at *;exact bI (List.not_lt.2 (List.le_trans (List.not_lt.1 (of_decide_eq_false h2)) (List.not_lt.1 (of_decide_eq_false h1)))),fun x y h1 h2=>by
 rw [p8] at h1 h2
 exact str_ext.2 (List.le_antisymm (List.not_lt.1 (of_decide_eq_false h2)) (List.not_lt.1 (of_decide_eq_false h1)))⟩
theorem ordC:Ord bq:=⟨th,uZ,tj,tk⟩
section
variable {α:Type} [DecidableEq α]
theorem Cs {p:List α} {n:Nat} (h0:1≤n) (h:n<p.length):dd (p.take (n+1))=cond (decide (p[n-1]'(by omega)=p[n])) (dd (p.take n)) (dd (p.take n)++[p[n]]):=by
 obtain ⟨m,rfl⟩:∃ m,n=m+1:=⟨n - 1,by omega⟩
 have e1:p.take (m+1)=p.take m++[p[m]'(by omega)]:=by rw [List.take_add_one,List.getElem?_eq_getElem (by omega)];rfl
 have e3:p.take (m+1+1)=p.take (m+1)++[p[m+1]]:=by rw [List.take_add_one,List.getElem?_eq_getElem h];rfl
 have e2:p.take (m+1+1)=p.take m++[p[m]'(by omega),p[m+1]]:=by rw [e3,e1,List.append_assoc];rfl
 rw [e2,yj,e1];rfl
structure CInv (p:List α) (v:Nat) (l:List α) (k i:Nat):Prop where
 i1:1≤i
 le:v+i≤p.length
 len:l.length=p.length
 kk:k=(dd (p.take (v+i))).length
 klt:k+1≤v+i
 pre:l.take k=dd (p.take (v+i))
 suf:∀ j,v+i≤j+1→l[j]?=p[j]?
theorem CInv.step {p l:List α} {v k i:Nat} (c:CInv p v l k i) (h:v+i<p.length) (hv:1≤v):∃ x y,l[v+i]?=some x∧l[v+i - 1]?=some y∧(decide (x=y)=true→CInv p v l k (i+1))∧(decide (x=y)=false→k<l.length∧CInv p v (l.set k x) (k+1) (i+1)):=by
 have hx:=c.suf (v+i) (by omega)
 have hy:=c.suf (v+i - 1) (by omega)
 rw [List.getElem?_eq_getElem h] at hx
 rw [List.getElem?_eq_getElem (show v+i - 1<p.length by omega)] at hy
 have hd:=Cs (p:=p) (n:=v+i) (by omega) h
 refine ⟨_,_,hx,hy,fun e=>?_,fun e=>?_⟩
 ·have e':decide (p[v+i - 1]'(by omega)=p[v+i])=true:=det (of_decide_eq_true e).symm
  rw [e',bV] at hd
  exact ⟨by omega,by omega,c.len,by rw [← Nat.add_assoc,hd];exact c.kk,by have:=c.klt;omega,by rw [← Nat.add_assoc,hd];exact c.pre,fun j hj=>c.suf j (by omega)⟩
 have e':decide (p[v+i - 1]'(by omega)=p[v+i])=false:=bI (fun q=>of_decide_eq_false e q.symm)
 rw [e',bC] at hd
 have hk:k<l.length:=by have:=c.klt;have:=c.len;omega
 refine ⟨hk,by omega,by omega,by rw [List.length_set];exact c.len,by rw [← Nat.add_assoc,hd,List.length_append,← c.kk];rfl,by have:=c.klt;omega,?_,fun j hj=>?_⟩
 ·rw [← Nat.add_assoc,hd,← c.pre]
  rw [List.take_add_one,List.getElem?_set]
  simp only [if_true,hk]
  rw [List.take_set_of_le (Nat.le_refl k)];rfl
 rw [List.getElem?_set,if_neg (by have:=c.klt;omega)];exact c.suf j (by omega)
theorem CInv.start {p:List α} {v:Nat} (hv:1≤v) (h:v<p.length) (he:p[v]=p[v-1]'(by omega)) (hb:∀ j,1≤j→(hj:j<v)→p[j]'(by omega)≠p[j-1]'(by omega)):CInv p v p v 1:=by
 have e1:dd (p.take v)=p.take v:=yk fun i hi=>by
  rw [List.length_take] at hi
  rw [List.getElem_take,List.getElem_take]
  have:=hb (i+1) (by omega) (by omega)
  exact fun e=>this e.symm
 have hd:=Cs (p:=p) (n:=v) hv h
 rw [det he.symm,bV,e1] at hd
 exact ⟨Nat.le_refl _,by omega,rfl,by rw [hd,List.length_take];omega,by omega,by rw [hd],fun j _=>rfl⟩
end
end SX
end Go.Proofs.YtgmbmepakpcpaaaGreatDoor
namespace Go.Proofs.YtgmbmepakpcpaaaGreatDoor
namespace SX
open Go
theorem yl {α:Type} (l:List α) (n:Nat):idx l (n:Int)=l[n]?:=by unfold idx;rw [if_pos (by omega)];simp
theorem tq {α:Type} [DecidableEq α] (E:α→α→Bool) (hE:∀ x y,E x y=decide (x=y)) (z:α) (p:List α) (hp:p.length≤1000000000) :
    cond (decide (((p.length:Nat):Int)<2)) (some p) (Option.bind (aO (S:=Int) (T:=(Unit)⊕(List α)) (fun v2=>cond (decide (v2<((p.length:Nat):Int))) (Option.bind (idx p v2) (fun m7=>Option.bind (idx p (IntKind.i64.wrap (v2 - 1))) (fun m8=>cond (E m7 m8) (Option.bind (sub p v2 (p.length:Int)) (fun _=>Option.bind (aO (S:=(List α)×Int×Int) (T:=((List α)×Int)) (fun (l12,v13,v14)=>cond (decide (v14<((p.length - v2.toNat:Nat):Int))) (Option.bind (Option.bind (ln v14) (fun _=>Option.bind (idx l12 (v2+v14)) (fun m26=>Option.bind (ln (IntKind.i64.wrap (v14 - 1))) (fun _=>Option.bind (idx l12 (v2+(IntKind.i64.wrap (v14 - 1)))) (fun m28=>cond (!(E m26 m28)) (Option.bind (ln v14) (fun _=>Option.bind (idx l12 (v2+v14)) (fun m31=>Option.bind (idx l12 v13) (fun _=>some ((l12.set v13.toNat m31),(IntKind.i64.wrap (v13+1))))))) (some (l12,v13))))))) (fun (l22,v23)=>some (.inl (l22,v23,(IntKind.i64.wrap (v14+1)))))) (some (.inr (l12,v13)))) FUEL (p,v2,1)) (fun (l16,v17)=>Option.bind (sub l16 v17 (l16.length:Int)) (fun _=>Option.bind (sub (List.take v17.toNat l16++List.replicate (p.length - v17.toNat) z) 0 v17) (fun l35=>some (.inr (.inr l35))))))) (some (.inl (IntKind.i64.wrap (v2+1))))))) (some (.inr (.inl ())))) FUEL 1) (fun q=>match q with | .inl _=>some p | .inr e=>some e))=some (dd p):=by
  by_cases h2:p.length<2
  · rw [det (show ((p.length:Nat):Int)<2 by omega)]
    match p,h2 with
    | [],_=>rfl
    | [x],_=>rfl
  rw [bI (by omega),bC]
  have hl:Y (aO (S:=Int) (T:=(Unit)⊕(List α)) (fun v2=>cond (decide (v2<((p.length:Nat):Int))) (Option.bind (idx p v2) (fun m7=>Option.bind (idx p (IntKind.i64.wrap (v2 - 1))) (fun m8=>cond (E m7 m8) (Option.bind (sub p v2 (p.length:Int)) (fun _=>Option.bind (aO (S:=(List α)×Int×Int) (T:=((List α)×Int)) (fun (l12,v13,v14)=>cond (decide (v14<((p.length - v2.toNat:Nat):Int))) (Option.bind (Option.bind (ln v14) (fun _=>Option.bind (idx l12 (v2+v14)) (fun m26=>Option.bind (ln (IntKind.i64.wrap (v14 - 1))) (fun _=>Option.bind (idx l12 (v2+(IntKind.i64.wrap (v14 - 1)))) (fun m28=>cond (!(E m26 m28)) (Option.bind (ln v14) (fun _=>Option.bind (idx l12 (v2+v14)) (fun m31=>Option.bind (idx l12 v13) (fun _=>some ((l12.set v13.toNat m31),(IntKind.i64.wrap (v13+1))))))) (some (l12,v13))))))) (fun (l22,v23)=>some (.inl (l22,v23,(IntKind.i64.wrap (v14+1)))))) (some (.inr (l12,v13)))) FUEL (p,v2,1)) (fun (l16,v17)=>Option.bind (sub l16 v17 (l16.length:Int)) (fun _=>Option.bind (sub (List.take v17.toNat l16++List.replicate (p.length - v17.toNat) z) 0 v17) (fun l35=>some (.inr (.inr l35))))))) (some (.inl (IntKind.i64.wrap (v2+1))))))) (some (.inr (.inl ())))) FUEL 1) (fun t=>match t with | .inl _=>dd p=p | .inr e=>e=dd p):=by
    refine Y.loop (fun s:Int=>∃ v:Nat,s=(v:Int)∧1≤v∧v≤p.length∧∀ j,1≤j→(hj:j<v)→(hp:j<p.length)→p[j]≠p[j-1]'(by omega)) (fun s=>(p.length - s).toNat) ⟨1,rfl,by omega,by omega,fun j h1 h2=>by omega⟩ (by omega) fun s hs=>?_
    obtain ⟨v,rfl,h1,h3,h4⟩:=hs
    refine Y.cond (fun hc=>?_) (fun hc=>Y.ret (yk fun i hi=>?_))
    rotate_left
    · have hc:=of_decide_eq_false hc
      have:=h4 (i+1) (by omega) (by omega) hi
      exact fun e=>this e.symm
    have hv:v<p.length:=by have:=of_decide_eq_true hc;omega
    refine Y.idx rfl hv ?_
    refine Y.idx (n:=v - 1) (by rw [cS (by omega) (by omega)];omega) (by omega) ?_
    rw [hE]
    refine Y.cond (fun he=>?_) (fun he=>Y.ret ⟨⟨v+1,?_,by omega,by omega,fun j g1 g2 g3=>?_⟩,?_⟩)
    · rw [jz (Nat.le_of_lt hv) (Nat.le_refl _),bc]
      have he:=of_decide_eq_true he
      have c0:=CInv.start h1 hv he fun j g1 g2=>h4 j g1 g2 (by omega)
      refine Y.bind (P:=fun t:List α×Int=>∃ k:Nat,t.2=(k:Int)∧k≤p.length∧t.1.length=p.length∧t.1.take k=dd p) ?_ fun t ⟨k,t1,t2,t3,t4⟩=>?_
      · refine Y.loop (fun s:List α×Int×Int=>∃ k i:Nat,s.2.1=(k:Int)∧s.2.2=(i:Int)∧CInv p v s.1 k i) (fun s=>(p.length - v - s.2.2).toNat) ⟨v,1,rfl,rfl,c0⟩ (by dsimp only;omega) fun s hs=>?_
        obtain ⟨l,a,b⟩:=s
        obtain ⟨k,i,rfl,rfl,c⟩:=hs
        dsimp only at c ⊢
        have ci:=c.i1;have cl:=c.le;have ck:=c.klt;have cn:=c.len
        refine Y.cond (fun hc=>?_) (fun hc=>Y.ret ⟨k,rfl,by omega,c.len,?_⟩)
        rotate_left
        · have hc:=of_decide_eq_false hc
          have e:v+i=p.length:=by rw [Int.toNat_natCast] at hc;omega
          have:=c.pre
          rw [e,List.take_length] at this;exact this
        have hlt:v+i<p.length:=by have:=of_decide_eq_true hc;rw [Int.toNat_natCast] at this;omega
        obtain ⟨x,y,hx,hy,s1,s2⟩:=c.step hlt h1
        refine Y.bind (P:=fun t:List α×Int=>∃ k':Nat,t.2=(k':Int)∧CInv p v t.1 k' (i+1)) ?_ fun t ⟨k',t1,t2⟩=>Y.ret ⟨⟨k',i+1,t1,?_,t2⟩,?_⟩
        · refine Y.eq (oO i) ?_
          rw [show (v:Int)+(i:Int)=((v+i:Nat):Int) by omega]
          refine Y.eq (by rw [yl];exact hx) ?_
          rw [cS (r:=(i:Int) - 1) (by omega) (by omega),show (i:Int) - 1=((i - 1:Nat):Int) by omega]
          refine Y.eq (oO (i - 1)) ?_
          rw [show (v:Int)+((i - 1:Nat):Int)=((v+i - 1:Nat):Int) by omega]
          refine Y.eq (by rw [yl];exact hy) ?_
          rw [hE]
          refine Y.cond (fun hne=>?_) (fun hne=>Y.ret ⟨k,rfl,s1 (by simpa using hne)⟩)
          obtain ⟨hk,c2⟩:=s2 (by simpa using hne)
          refine Y.eq (oO i) (Y.eq (by rw [yl];exact hx) (Y.idx rfl hk (Y.ret ⟨k+1,?_,c2⟩)))
          show IntKind.i64.wrap ((k:Int)+1)=_;rw [cS (by omega) (by omega)];omega
        · show IntKind.i64.wrap ((i:Int)+1)=_;rw [cS (by omega) (by omega)];omega
        show ((p.length:Int) - v - IntKind.i64.wrap ((i:Int)+1)).toNat<((p.length:Int) - v - (i:Int)).toNat;rw [cS (by omega) (by omega)];omega
      obtain ⟨l,b⟩:=t
      dsimp only at t1 t3 t4 ⊢
      subst t1
      have e1:sub l (k:Int) (l.length:Int)=some ((l.take l.length).drop k):=jz (by omega) (Nat.le_refl _)
      rw [e1,bc,Int.toNat_natCast]
      have e2:sub (List.take k l++List.replicate (p.length - k) z) 0 (k:Int)=some (((List.take k l++List.replicate (p.length - k) z).take k).drop 0):=jz (a:=0) (by omega) (by simp;omega)
      rw [e2,bc]
      refine Y.ret ?_
      show ((List.take k l++List.replicate (p.length - k) z).take k).drop 0=dd p
      rw [List.drop_zero,List.take_append_of_le_length (by rw [List.length_take];omega),List.take_take,Nat.min_self,t4]
    · show IntKind.i64.wrap ((v:Int)+1)=_;rw [cS (by omega) (by omega)];omega
    · rcases Nat.lt_or_ge j v with h | h
      · exact h4 j g1 h g3
      have e:j=v:=by omega
      subst e;exact of_decide_eq_false he
    show ((p.length:Int) - IntKind.i64.wrap ((v:Int)+1)).toNat<((p.length:Int) - (v:Int)).toNat;rw [cS (by omega) (by omega)];omega
  obtain ⟨t,e,ht⟩:=hl
  rw [e]
  cases t with
  | inl u=>dsimp only at ht;rw [bc,ht]
  | inr u=>dsimp only at ht;rw [bc,ht]
theorem FI (p:List ByteArray) (hp:p.length≤1000000000):dN p=some (dd p):=by
 refine Eq.trans ?_ (tq (fun x y=>decide (x=y)) (fun _ _=>rfl) ByteArray.empty p hp)
 kernel_rfl
theorem Ct (x y:Za):Za.eqb x y=decide (x=y):=by
 cases h:Za.eqb x y
 ·exact (bI fun e=>by rw [Za.eqb_iff.2 e] at h;cases h).symm
 exact (det (Za.eqb_iff.1 h)).symm
theorem FJ (p:List Za) (hp:p.length≤1000000000):bB p=some (dd p):=by
 refine Eq.trans ?_ (tq Za.eqb Ct ⟨0,0⟩ p hp)
 kernel_rfl
theorem ml (l:List Za) (c:Za) (hl:l.length≤140737488355328):cM l c=some (aJ l c):=by
 unfold cM
 refine (bz (l:=l) (by omega) (fun _ x=>cond (Za.eqb x c) (some (.inr true)) none) (.inl ()) (fun k hk=>?_) (by simp only [cU,bC])).trans ?_
 ·simp only [gT hk,bV,aB hk,bc,bR hk (show l.length≤4611686018427387904 by omega)]
  cases Za.eqb l[k] c <;> rfl
 rw [qE (fun x=>Za.eqb x c)]
 have:(l.any fun x=>Za.eqb x c)=aJ l c:=by unfold aJ;congr 1;funext x;exact Ct x c
 rw [this];cases aJ l c <;> rfl
theorem oT {α:Type} (P:α→Bool):∀ (l:List α) (k:Nat),k≤l.length→(∀ j x,l[j]?=some x→j<k→P x=true)→(∀ x,l[k]?=some x→P x=false)→l.takeWhile P=l.take k∧l.dropWhile P=l.drop k
 | [],k,h,_,_=>by simp at h;subst h;exact ⟨rfl,rfl⟩
 | x::l,0,_,_,h=>by rw [List.takeWhile_cons,List.dropWhile_cons,h x rfl];exact ⟨rfl,rfl⟩
 | x::l,k+1,h,h1,h2=>by
  obtain ⟨e1,e2⟩:=oT P l k (by simpa using h) (fun j y hy hj=>h1 (j+1) y (by simpa using hy) (by omega)) (fun y hy=>h2 y (by simpa using hy))
  rw [List.takeWhile_cons,List.dropWhile_cons,h1 0 x rfl (by omega)]
  simp only [if_true,List.take_succ_cons,List.drop_succ_cons]
  rw [e1,e2];exact ⟨rfl,rfl⟩
theorem qM (l:List Za) (c:Za) (hl:l.length≤1000000000):em l c=some (ii bq l c):=by
 unfold em ii
 rw [ml _ _ (by omega),bc]
 cases aJ l c
 rotate_left
 ·rfl
 simp only [bC]
 have hw:Y (aO (S:=Int) (T:=(Int)) (fun v4=>Option.bind (gd (decide (v4<(l.length:Int))) (idx l v4)) (fun m8=>Option.bind (gd (decide (v4<(l.length:Int))) (kR m8 c)) (fun x9=>cond ((decide (v4<(l.length:Int)))&&x9) (some (.inl (IntKind.i64.wrap (v4+1)))) (some (.inr v4))))) FUEL 0) (fun t=>∃ k:Nat,t=(k:Int)∧k≤l.length∧l.takeWhile (fun x=>bq x c)=l.take k∧l.dropWhile (fun x=>bq x c)=l.drop k):=by
  refine Y.loop (fun s:Int=>∃ k:Nat,s=(k:Int)∧k≤l.length∧∀ j x,l[j]?=some x→j<k→bq x c=true) (fun s=>(l.length - s).toNat) ⟨0,rfl,by omega,fun j x _ h=>absurd h (Nat.not_lt_zero _)⟩ (by omega) fun s hs=>?_
  obtain ⟨k,rfl,h1,h2⟩:=hs
  rcases Nat.lt_or_ge k l.length with hk | hk
  ·rw [gT hk,cr,aB hk,bc,cr]
   have e:kR l[k] c=some (bq l[k] c):=by unfold kR bq;rfl
   rw [e,bc]
   cases hlt:bq l[k] c
   ·exact Y.ret ⟨k,rfl,h1,oT _ l k h1 h2 fun x hx=>by rw [List.getElem?_eq_getElem hk] at hx;injection hx with hx;rw [← hx];exact hlt⟩
   refine Y.ret ⟨⟨k+1,?_,by omega,fun j x hx hj=>?_⟩,?_⟩
   ·show IntKind.i64.wrap ((k:Int)+1)=_;rw [cS (by omega) (by omega)];omega
   ·rcases Nat.lt_or_ge j k with h | h
    ·exact h2 j x hx h
    have e:j=k:=by omega
    subst e;rw [List.getElem?_eq_getElem hk] at hx;injection hx with hx;rw [← hx];exact hlt
   show ((l.length:Int) - IntKind.i64.wrap ((k:Int)+1)).toNat<((l.length:Int) - (k:Int)).toNat;rw [cS (by omega) (by omega)];omega
  have e:k=l.length:=by omega
  subst e
  rw [cU,jb,bc,jb,bc]
  exact Y.ret ⟨l.length,rfl,h1,oT _ l _ h1 h2 fun x hx=>by have:=(List.getElem?_eq_some_iff.1 hx).1;omega⟩
 obtain ⟨t,e,k,rfl,h1,h2,h3⟩:=hw
 rw [e,bc]
 have s1:sub l 0 (k:Int)=some ((l.take k).drop 0):=jz (a:=0) (by omega) h1
 have s2:sub l (k:Int) (l.length:Int)=some ((l.take l.length).drop k):=jz h1 (Nat.le_refl _)
 rw [s1,bc,s2,bc,List.drop_zero,List.take_length,jA (by rw [List.length_take];omega) (by omega),bc,cF (by simp;omega) (by simp;omega),bc,cF (by simp;omega) (by simp;omega),bc,h2,h3,List.append_assoc];rfl
theorem wY (l:List ByteArray) (c:ByteArray) (hl:l.length≤1000000000) (hs:Strict iS l):oA l c=some (ii iS l c):=by
 unfold oA ii
 have hw:Y (aO (S:=Int) (T:=(ByteArray×Int)) (fun v1=>Option.bind (gd (decide (v1<(l.length:Int))) (idx l v1)) (fun m6=>cond ((decide (v1<(l.length:Int)))&&(Op.bytesLess m6.toList c.toList)) (some (.inl (IntKind.i64.wrap (v1+1)))) (some (.inr (c,v1))))) FUEL 0) (fun t=>t.1=c∧∃ k:Nat,t.2=(k:Int)∧k≤l.length∧(∀ j x,l[j]?=some x→j<k→iS x c=true)∧(∀ x,l[k]?=some x→iS x c=false)):=by
  refine Y.loop (fun s:Int=>∃ k:Nat,s=(k:Int)∧k≤l.length∧∀ j x,l[j]?=some x→j<k→iS x c=true) (fun s=>(l.length - s).toNat) ⟨0,rfl,by omega,fun j x _ h=>absurd h (Nat.not_lt_zero _)⟩ (by omega) fun s hs=>?_
  obtain ⟨k,rfl,h1,h2⟩:=hs
  rcases Nat.lt_or_ge k l.length with hk | hk
  ·rw [gT hk,cr,aB hk,bc]
   cases hlt:iS l[k] c
   ·have hlt':Op.bytesLess l[k].toList c.toList=false:=hlt
    rw [hlt']
    exact Y.ret ⟨rfl,k,rfl,h1,h2,fun x hx=>by rw [List.getElem?_eq_getElem hk] at hx;injection hx with hx;rw [← hx];exact hlt⟩
   have hlt':Op.bytesLess l[k].toList c.toList=true:=hlt
   rw [hlt']
   refine Y.ret ⟨⟨k+1,?_,by omega,fun j x hx hj=>?_⟩,?_⟩
   ·show IntKind.i64.wrap ((k:Int)+1)=_;rw [cS (by omega) (by omega)];omega
   ·rcases Nat.lt_or_ge j k with h | h
    ·exact h2 j x hx h
    have e:j=k:=by omega
    subst e;rw [List.getElem?_eq_getElem hk] at hx;injection hx with hx;rw [← hx];exact hlt
   show ((l.length:Int) - IntKind.i64.wrap ((k:Int)+1)).toNat<((l.length:Int) - (k:Int)).toNat;rw [cS (by omega) (by omega)];omega
  have e:k=l.length:=by omega
  subst e
  rw [cU,jb,bc]
  exact Y.ret ⟨rfl,l.length,rfl,h1,h2,fun x hx=>by have:=(List.getElem?_eq_some_iff.1 hx).1;omega⟩
 obtain ⟨⟨t1,t2⟩,e,rfl,k,hk,h1,h2,h3⟩:=hw
 dsimp only at hk
 subst hk
 obtain ⟨w1,w2⟩:=oT (fun x=>iS x t1) l k h1 h2 h3
 rw [e,bc]
 dsimp only
 have key:t1∈l↔l[k]?=some t1:=by
  constructor
  ·intro hm
   obtain ⟨j,hj,hjt⟩:=List.getElem_of_mem hm
   have hjk:k≤j:=by
    rcases Nat.lt_or_ge j k with h | h
    ·have:=h2 j l[j] (List.getElem?_eq_getElem hj) h;rw [hjt,Ck] at this;cases this
    exact h
   rcases Nat.lt_or_ge k j with h | h
   ·have hkl:k<l.length:=by omega
    have g1:=h3 l[k] (List.getElem?_eq_getElem hkl)
    have g2:=(List.pairwise_iff_getElem.1 hs) k j hkl hj h
    rw [hjt,g1] at g2;cases g2
   have e:j=k:=by omega
   subst e;rw [List.getElem?_eq_getElem hj,hjt]
  exact fun h=>List.mem_of_getElem? h
 rcases Nat.lt_or_ge k l.length with hkl | hkl
 ·rw [gT hkl,cr,aB hkl,bc,Bool.true_and]
  by_cases hm:l[k]=t1
  ·rw [det hm,fw.2 (key.2 (by rw [List.getElem?_eq_getElem hkl,hm]))];rfl
  rw [bI hm,nY.2 (fun h=>hm (by have:=key.1 h;rw [List.getElem?_eq_getElem hkl] at this;injection this))]
  simp only [bC]
  have s1:sub l 0 (k:Int)=some ((l.take k).drop 0):=jz (a:=0) (by omega) h1
  have s2:sub l (k:Int) (l.length:Int)=some ((l.take l.length).drop k):=jz h1 (Nat.le_refl _)
  rw [s1,bc,s2,bc,List.drop_zero,List.take_length,jA (by rw [List.length_take];omega) (by omega),bc,cF (by simp;omega) (by simp;omega),bc,cF (by simp;omega) (by simp;omega),bc,w1,w2,List.append_assoc];rfl
 have e:k=l.length:=by omega
 subst e
 rw [cU,jb,bc,Bool.false_and,nY.2 (fun h=>by have:=key.1 h;rw [List.getElem?_eq_none (Nat.le_refl _)] at this;cases this)]
 simp only [bC]
 have s1:sub l 0 ((l.length:Nat):Int)=some ((l.take l.length).drop 0):=jz (a:=0) (by omega) h1
 have s2:sub l ((l.length:Nat):Int) (l.length:Int)=some ((l.take l.length).drop l.length):=jz h1 (Nat.le_refl _)
 rw [s1,bc,s2,bc,List.drop_zero,List.take_length,jA (by omega) (by omega),bc,cF (by simp;omega) (by simp;omega),bc,cF (by simp;omega) (by simp;omega),bc,w1,w2,List.append_assoc,List.take_length];rfl
def nB (a b:List ByteArray):List ByteArray:=sd iS (a++b)
theorem concat2 (a b:List ByteArray) (h:a.length+b.length≤1000000):df [a,b]=some (a++b):=by
 unfold df eF
 refine (jZ (l:=[a,b]) (by simp) (fun i (s:Nat)=>((s:Int),i)) (fun _ x s=>(.inl (s+x.length):Nat⊕Empty)) (fun (s:Nat)=>(s:Int)) noE (fun k s=>s≤1000000∧s=([a,b].take k).flatten.length) 0 ⟨by omega,rfl⟩ (fun k hk s hs=>⟨?_,fun s' h'=>?_⟩) (fun s _=>by simp only [cU,bC])).trans ?_
 ·have hb:s+([a,b][k]).length≤1000000:=by
   obtain ⟨_,e⟩:=hs
   match k,hk with
   | 0,_=>simp at e;subst e;simp;omega
   | 1,_=>simp at e;subst e;simp;omega
  simp only [gT hk,bV,aB hk,bc,bR hk (show [a,b].length≤4611686018427387904 by simp),zB]
  rw [cS (by omega) (by omega),bI (by omega)]
  simp only [bC,Int.natCast_add]
 ·injection h' with h'
  obtain ⟨h1,h2⟩:=hs
  subst h'
  match k,hk with
  | 0,_=>simp at h2 ⊢;subst h2;simp;omega
  | 1,_=>simp at h2 ⊢;subst h2;omega
 show Option.bind (Option.bind (De 16 ((0+a.length+b.length:Nat):Int)) _) _=_
 rw [A7 (by omega) (by omega),bc,bc]
 refine (cI (l:=[a,b]) (by simp) (fun i (s:List ByteArray)=>(s,i)) (fun s x=>s++x) (fun s=>s) (fun k s=>s=([a,b].take k).flatten) [] rfl (fun k hk s hs=>⟨?_,?_⟩) (fun s _=>by simp only [cU,bC])).1.trans ?_
 ·have hb:s.length+([a,b][k]).length≤1000000:=by
   match k,hk with
   | 0,_=>simp at hs;subst hs;simp;omega
   | 1,_=>simp at hs;subst hs;simp;omega
  simp only [gT hk,bV,aB hk,bc,bR hk (show [a,b].length≤4611686018427387904 by simp)]
  rw [cF (by omega) (by omega)];rfl
 ·match k,hk with
  | 0,_=>simp at hs;subst hs;simp
  | 1,_=>simp at hs;subst hs;simp
 simp
theorem Bm (a b:List ByteArray) (h:a.length+b.length≤1000000):jI a b=some (nB a b):=by
 unfold jI
 rw [concat2 a b h,bc]
 show Option.bind (some (lr iS (a++b))) _=_
 rw [bc,FI _ (by rw [nS];simp;omega)];rfl
theorem Dt (a b:List ByteArray) (h:a.length+b.length≤1000000):mY a b=some (nB a b):=by
 unfold mY
 have ha:=r6 Bl a [] List.Pairwise.nil
 refine (cI (l:=a) (by omega) (fun i (s:List ByteArray)=>(s,i)) (ii iS) (fun s=>(b,s)) (fun k s=>Strict iS s∧s.length≤k) [] ⟨List.Pairwise.nil,by simp⟩ (fun k hk s hs=>⟨?_,qo Bl.tot Bl.tr hs.1,by have:=kr (lt:=iS) s a[k];omega⟩) (fun s _=>by simp only [cU,bC])).1.trans ?_
 ·simp only [gT hk,bV,aB hk,bc,bR hk (show a.length≤4611686018427387904 by omega)]
  rw [wY _ _ (by omega) hs.1];rfl
 dsimp only
 refine (cI (l:=b) (by omega) (fun i (s:List ByteArray)=>(s,i)) (ii iS) (fun s=>s) (fun k s=>Strict iS s∧s.length≤a.length+k) (a.foldl (ii iS) []) ⟨ha.1,by have:=ha.2.2;simpa using this⟩ (fun k hk s hs=>⟨?_,qo Bl.tot Bl.tr hs.1,by have:=kr (lt:=iS) s b[k];omega⟩) (fun s _=>by simp only [cU,bC])).1.trans ?_
 ·simp only [gT hk,bV,aB hk,bc,bR hk (show b.length≤4611686018427387904 by omega)]
  rw [wY _ _ (by omega) hs.1];rfl
 unfold nB
 rw [← tp Bl,List.foldl_append]
def U64 (a:Int):Prop:=0≤a∧a<18446744073709551616
theorem wu (a:Int):IntKind.u64.wrap a=a % 18446744073709551616:=rfl
theorem fA {a:Int} (h:U64 a):IntKind.u64.wrap a=a:=by rw [wu];unfold U64 at h;omega
theorem bv64 {a:Int} (h:U64 a):(BitVec.ofInt 64 a).toNat=a.toNat:=by
 rw [BitVec.toNat_ofInt];unfold U64 at h;omega
theorem Cu {a b:Int} (ha:U64 a) (hb:U64 b):dZ .u64 a b=((a.toNat &&& b.toNat:Nat):Int):=by
 have hlt:a.toNat &&& b.toNat<18446744073709551616:=Nat.lt_of_le_of_lt Nat.and_le_left (by unfold U64 at ha;omega)
 have e:dZ .u64 a b=IntKind.u64.wrap (((BitVec.ofInt 64 a &&& BitVec.ofInt 64 b).toNat:Nat):Int):=rfl
 rw [e,BitVec.toNat_and,bv64 ha,bv64 hb,fA]
 exact ⟨by omega,by omega⟩
theorem FK {a b:Int} (ha:U64 a) (hb:U64 b):qQ .u64 a b=((a.toNat ||| b.toNat:Nat):Int):=by
 have hlt:a.toNat ||| b.toNat<2 ^ 64:=Nat.or_lt_two_pow (by unfold U64 at ha;omega) (by unfold U64 at hb;omega)
 have e:qQ .u64 a b=IntKind.u64.wrap (((BitVec.ofInt 64 a ||| BitVec.ofInt 64 b).toNat:Nat):Int):=rfl
 rw [e,BitVec.toNat_or,bv64 ha,bv64 hb,fA]
 exact ⟨by omega,by omega⟩
theorem qp {a:Int} (h:U64 a):dZ .u64 a 4294967295=a % 4294967296:=by
 rw [Cu h ⟨by omega,by omega⟩]
 have:a.toNat &&& (4294967295:Int).toNat=a.toNat % 4294967296:=Nat.and_two_pow_sub_one_eq_mod (n:=32) a.toNat
 rw [this];unfold U64 at h;omega
theorem vl {a:Int} (h:U64 a):dZ .u64 a 1=a % 2:=by
 rw [Cu h ⟨by omega,by omega⟩]
 have:a.toNat &&& (1:Int).toNat=a.toNat % 2:=Nat.and_two_pow_sub_one_eq_mod (n:=1) a.toNat
 rw [this];unfold U64 at h;omega
theorem Cv {a:Int}:cK .u64 a 32=a / 4294967296:=Int.fdiv_eq_ediv_of_nonneg a (show (0:Int)≤4294967296 by omega)
theorem mul64 {a b:Int} (ha:U64 a) (hb:U64 b):∃ h l,ic a b=some (h,l)∧U64 h∧U64 l∧h*18446744073709551616+l=a*b:=by
 unfold ic lb
 rw [qp ha,qp hb]
 simp only [Cv]
 unfold U64 at ha hb
 have ea:a=4294967296*(a / 4294967296)+a % 4294967296:=by omega
 have eb:b=4294967296*(b / 4294967296)+b % 4294967296:=by omega
 have h1:0≤a / 4294967296∧a / 4294967296<4294967296:=by omega
 have h2:0≤a % 4294967296∧a % 4294967296<4294967296:=by omega
 have h3:0≤b / 4294967296∧b / 4294967296<4294967296:=by omega
 have h4:0≤b % 4294967296∧b % 4294967296<4294967296:=by omega
 generalize a / 4294967296=x1 at *
 generalize a % 4294967296=x0 at *
 generalize b / 4294967296=y1 at *
 generalize b % 4294967296=y0 at *
 subst ea eb
 have p00:0≤x0*y0∧x0*y0≤4294967295*4294967295:=⟨Int.mul_nonneg h2.1 h4.1,Int.mul_le_mul (by omega) (by omega) h4.1 (by omega)⟩
 have p01:0≤x0*y1∧x0*y1≤4294967295*4294967295:=⟨Int.mul_nonneg h2.1 h3.1,Int.mul_le_mul (by omega) (by omega) h3.1 (by omega)⟩
 have p10:0≤x1*y0∧x1*y0≤4294967295*4294967295:=⟨Int.mul_nonneg h1.1 h4.1,Int.mul_le_mul (by omega) (by omega) h4.1 (by omega)⟩
 have p11:0≤x1*y1∧x1*y1≤4294967295*4294967295:=⟨Int.mul_nonneg h1.1 h3.1,Int.mul_le_mul (by omega) (by omega) h3.1 (by omega)⟩
 have e:(4294967296*x1+x0)*(4294967296*y1+y0)=18446744073709551616*(x1*y1)+4294967296*(x1*y0)+4294967296*(x0*y1)+x0*y0:=by
  rw [Int.add_mul,Int.mul_add,Int.mul_add]
  have t1:4294967296*x1*(4294967296*y1)=18446744073709551616*(x1*y1):=by
   rw [Int.mul_assoc,← Int.mul_assoc x1,Int.mul_comm x1 4294967296,Int.mul_assoc 4294967296 x1,← Int.mul_assoc];rfl
  have t2:4294967296*x1*y0=4294967296*(x1*y0):=Int.mul_assoc _ _ _
  have t3:x0*(4294967296*y1)=4294967296*(x0*y1):=by rw [← Int.mul_assoc,Int.mul_comm x0,Int.mul_assoc]
  rw [t1,t2,t3];omega
 rw [e]
 generalize x0*y0=p at *
 generalize x0*y1=q at *
 generalize x1*y0=r at *
 generalize x1*y1=s at *
 refine ⟨_,_,rfl,?_,?_,?_⟩
 all_goals simp only [wu,U64]
 all_goals first | omega | (rw [qp (by unfold U64;omega)];omega)
def rv (w:Zn):Int:=w.Hi*18446744073709551616+w.Lo
def RW (w:Zn):Prop:=U64 w.Hi∧U64 w.Lo
theorem ud {p q:Zn} (hp:RW p) (hq:RW q):∃ w b,iP p q=some (w,b)∧RW w∧(rv p+rv q<340282366920938463463374607431768211456→rv w=rv p+rv q):=by
 obtain ⟨ph,pl⟩:=p;obtain ⟨qh,ql⟩:=q
 obtain ⟨⟨a1,a2⟩,⟨a3,a4⟩⟩:=hp
 obtain ⟨⟨b1,b2⟩,⟨b3,b4⟩⟩:=hq
 simp only at a1 a2 a3 a4 b1 b2 b3 b4
 unfold iP lb
 dsimp only
 by_cases h:IntKind.u64.wrap (pl+ql)<pl
 ·rw [det h]
  simp only [bV,bc]
  refine ⟨_,_,rfl,?_,?_⟩
  ·simp only [RW,U64,wu];omega
  rw [wu] at h;simp only [rv,wu];omega
 rw [bI h]
 simp only [bC,bc]
 refine ⟨_,_,rfl,?_,?_⟩
 ·simp only [RW,U64,wu];omega
 rw [wu] at h;simp only [rv,wu];omega
theorem oU {a n:Int} (h:n.toNat≤64):cK .u64 a n=a / 2 ^ n.toNat:=by
 have e:cK .u64 a n=a.fdiv (2 ^ min n.toNat 64):=rfl
 rw [e,Nat.min_eq_left h]
 exact Int.fdiv_eq_ediv_of_nonneg a (Int.le_of_lt (Int.pow_pos (by omega)))
theorem wZ (b:Int) (k:Nat):b / 2 ^ k=2*(b / 2 ^ (k+1))+b / 2 ^ k % 2:=by
 have:b / 2 ^ (k+1)=b / 2 ^ k / 2:=by rw [Int.pow_succ,Int.ediv_ediv_of_nonneg (Int.le_of_lt (Int.pow_pos (by omega)))]
 rw [this];omega
theorem Cw {a b:Int} (ha:U64 a) (hb:U64 b):∃ w,mq a b=some w∧RW w∧rv w=a*b:=by
 unfold mq
 obtain ⟨t,h5,h6⟩:=mr (body:=fun (v3,v4,v5)=>cond (decide (0≤v3)) (Option.bind (Option.bind (iP (⟨v4,v5⟩:Zn) (⟨v4,v5⟩:Zn)) (fun x14=>Option.bind (ln v3) (fun u15=>cond ((dZ .u64 (cK .u64 b v3) 1) == 1) (Option.bind (iP x14.1 (⟨0,a⟩:Zn)) (fun x17=>some (x17.1.Hi,x17.1.Lo))) (some (x14.1.Hi,x14.1.Lo))))) (fun (v11,v12)=>some (.inl ((IntKind.i64.wrap (v3 - 1)),v11,v12)))) (some (.inr (v4,v5))))
  (fun s:Int×Int×Int => -1≤s.1∧s.1≤63∧RW ⟨s.2.1,s.2.2⟩∧rv ⟨s.2.1,s.2.2⟩=a*(b / 2 ^ (s.1+1).toNat)) (fun s=>(s.1+1).toNat) (fun t:Int×Int=>RW ⟨t.1,t.2⟩∧rv ⟨t.1,t.2⟩=a*b)
  (fun s hs=>by
   obtain ⟨v,x,y⟩:=s
   obtain ⟨a1,a2,a3,a4⟩:=hs
   dsimp only at a1 a2 a3 a4 ⊢
   by_cases h0:0≤v
   ·left
    obtain ⟨k,rfl⟩:∃ k:Nat,v=(k:Int):=⟨v.toNat,by omega⟩
    have ek:((k:Int)+1).toNat=k+1:=by omega
    rw [ek] at a4
    have hs:=wZ b k
    have hbk:0≤b / 2 ^ k:=Int.ediv_nonneg hb.1 (Int.le_of_lt (Int.pow_pos (by omega)))
    have hbk2:b / 2 ^ k≤b:=Int.ediv_le_self _ hb.1
    have hm:a*(b / 2 ^ k)=2*(a*(b / 2 ^ (k+1)))+a*(b / 2 ^ k % 2):=by
     have:=congrArg (a * ·) hs
     simp only [Int.mul_add] at this
     rw [this,← Int.mul_assoc,Int.mul_comm a 2,Int.mul_assoc]
    have hle:a*(b / 2 ^ k)≤18446744073709551615*18446744073709551615:=Int.mul_le_mul (by unfold U64 at ha;omega) (by unfold U64 at hb;omega) hbk (by omega)
    have hnn:0≤a*(b / 2 ^ k % 2):=Int.mul_nonneg ha.1 (by omega)
    rw [det h0]
    simp only [bV]
    obtain ⟨w,o,c1,c2,c3⟩:=ud a3 a3
    have c3:=c3 (by omega)
    rw [o4 c1]
    have hg:ln (k:Int)=some ():=by unfold ln;rw [if_pos h0]
    rw [o4 hg,oU (by omega),Int.toNat_natCast,vl ⟨hbk,by unfold U64 at hb;omega⟩,cS (by omega) (by omega)]
    rcases (by omega:b / 2 ^ k % 2=0∨b / 2 ^ k % 2=1) with e | e
    ·rw [e] at hm ⊢
     refine ⟨_,rfl,⟨by dsimp only;omega,by dsimp only;omega,c2,?_⟩,by dsimp only;omega⟩
     have:((k:Int) - 1+1).toNat=k:=by omega
     dsimp only;rw [this,hm];show rv w=_;omega
    rw [e] at hm ⊢
    obtain ⟨w2,o2,d1,d2,d3⟩:=ud (p:=w) (q:=⟨0,a⟩) c2 ⟨⟨by simp,by simp⟩,ha⟩
    have e0:rv ⟨0,a⟩=a:=by simp [rv]
    rw [e0] at d3
    have d3:=d3 (by omega)
    simp only [beq_self_eq_true,bV]
    rw [o4 d1]
    refine ⟨_,rfl,⟨by dsimp only;omega,by dsimp only;omega,d2,?_⟩,by dsimp only;omega⟩
    have:((k:Int) - 1+1).toNat=k:=by omega
    dsimp only;rw [this,hm];show rv w2=_;omega
   right
   rw [bI h0]
   have:v = -1:=by omega
   subst this
   refine ⟨_,rfl,a3,?_⟩
   rw [a4];simp)
  FUEL (63,0,0) ⟨by simp,by simp,⟨⟨by simp,by simp⟩,⟨by simp,by simp⟩⟩,by
   have:b / 18446744073709551616=0:=Int.ediv_eq_zero_of_lt hb.1 hb.2
   simp [rv,this]⟩ (jY (by simp))
 obtain ⟨t1,t2⟩:=t
 rw [o4 h5]
 exact ⟨_,rfl,h6.1,h6.2⟩
theorem iand63:∀ {n:Nat},n<128→dZ .i64 (n:Int) 63=((n % 64:Nat):Int):=by decide
theorem FL {a:Int} (h:U64 a):fZ .u64 a 1=(2*a) % 18446744073709551616:=by
 have e:fZ .u64 a 1=IntKind.u64.wrap (a*2):=rfl
 rw [e,wu,Int.mul_comm]
theorem Cx {a b:Int} (ha:U64 a) (h2:a % 2=0) (hb:b=0∨b=1):qQ .u64 a b=a+b:=by
 rw [FK ha (by rcases hb with rfl | rfl <;> exact ⟨by omega,by omega⟩)]
 unfold U64 at ha
 rcases hb with rfl | rfl
 ·simp;omega
 have:a.toNat ||| (1:Int).toNat=a.toNat+1:=by
  have e:a.toNat=2 ^ 1*(a.toNat / 2):=by omega
  have:=Nat.two_pow_add_eq_or_of_lt (i:=1) (b:=1) (by omega) (a.toNat / 2)
  rw [← e] at this
  exact this.symm
 rw [this];omega
theorem bit_lo {h l:Int} (hl:U64 l) {k:Nat} (hk:k<64):(h*18446744073709551616+l) / 2 ^ k % 2=l / 2 ^ k % 2:=by
 have e:(18446744073709551616:Int)=2 ^ k*(2*2 ^ (63 - k)):=by
  have:(2:Int) ^ k*(2*2 ^ (63 - k))=2 ^ (k+(1+(63 - k))):=by rw [Int.pow_add,Int.pow_add];rfl
  rw [this,show k+(1+(63 - k))=64 by omega];rfl
 have hp:(2:Int) ^ k≠0:=Int.ne_of_gt (Int.pow_pos (by omega))
 rw [e,show h*(2 ^ k*(2*2 ^ (63 - k)))+l=l+2 ^ k*(2*(h*2 ^ (63 - k))) by rw [Int.add_comm,Int.mul_left_comm h,Int.mul_left_comm h 2],Int.add_mul_ediv_left _ _ hp,Int.add_mul_emod_self_left]
theorem bit_hi {h l:Int} (hl:U64 l) {k:Nat} (hk:64≤k):(h*18446744073709551616+l) / 2 ^ k=h / 2 ^ (k - 64):=by
 have e:(2:Int) ^ k=18446744073709551616*2 ^ (k - 64):=by
  have:(18446744073709551616:Int)*2 ^ (k - 64)=2 ^ (64+(k - 64)):=by rw [Int.pow_add];rfl
  rw [this,show 64+(k - 64)=k by omega]
 rw [e,← Int.ediv_ediv_of_nonneg (by omega)]
 congr 1
 unfold U64 at hl;omega
theorem Bn {p:Zn} {d:Int} (hp:RW p) (hd:U64 d) (h1:1≤d):∃ q r,oB p d=some (q,r)∧RW q∧rv q=rv p / d∧r=rv p % d:=by
 have hN:0≤rv p∧rv p<340282366920938463463374607431768211456:=by obtain ⟨⟨a,b⟩,⟨c,e⟩⟩:=hp;unfold rv;omega
 unfold oB
 obtain ⟨t,h5,h6⟩:=mr (body:=fun (v4,v5,v6,v7)=>cond (decide (0≤v5)) (Option.bind (Option.bind (ln (dZ .i64 v5 63)) (fun u18=>lb ((dZ .u64 (cK .u64 p.Lo (dZ .i64 v5 63)) 1)) (fun w19=>Option.bind (cond (decide (63<v5)) (Option.bind (ln (IntKind.i64.wrap (v5 - 64))) (fun u23=>lb ((dZ .u64 (cK .u64 p.Hi (IntKind.i64.wrap (v5 - 64))) 1)) (fun w24=>some w24))) (some w19)) (fun v20=>Option.bind (iP (⟨v6,v7⟩:Zn) (⟨v6,v7⟩:Zn)) (fun x25=>cond (((cK .u64 v4 63) == 1)||(decide (d≤(qQ .u64 (fZ .u64 v4 1) v20)))) (lb ((IntKind.u64.wrap ((qQ .u64 (fZ .u64 v4 1) v20) - d))) (fun w27=>some (w27,x25.1.Hi,(qQ .u64 x25.1.Lo 1)))) (some ((qQ .u64 (fZ .u64 v4 1) v20),x25.1.Hi,x25.1.Lo))))))) (fun (v14,v15,v16)=>some (.inl (v14,(IntKind.i64.wrap (v5 - 1)),v15,v16)))) (some (.inr (v4,v6,v7))))
  (fun s:Int×Int×Int×Int => -1≤s.2.1∧s.2.1≤127∧RW ⟨s.2.2.1,s.2.2.2⟩∧0≤s.1∧s.1<d∧rv p / 2 ^ (s.2.1+1).toNat=rv ⟨s.2.2.1,s.2.2.2⟩ * d+s.1) (fun s=>(s.2.1+1).toNat) (fun t:Int×Int×Int=>RW ⟨t.2.1,t.2.2⟩∧0≤t.1∧t.1<d∧rv p=rv ⟨t.2.1,t.2.2⟩ * d+t.1)
  (fun s hs=>by
   obtain ⟨v4,v5,x,y⟩:=s
   obtain ⟨a1,a2,a3,a4,a5,a6⟩:=hs
   dsimp only at a1 a2 a3 a4 a5 a6 ⊢
   by_cases h0:0≤v5
   ·left
    obtain ⟨k,rfl⟩:∃ k:Nat,v5=(k:Int):=⟨v5.toNat,by omega⟩
    have ek:((k:Int)+1).toNat=k+1:=by omega
    rw [ek] at a6
    have hs:=wZ (rv p) k
    generalize hbit:rv p / 2 ^ k % 2=bit at hs
    have hb01:bit=0∨bit=1:=by omega
    rw [det h0,iand63 (by omega)]
    simp only [bV]
    have hg:ln ((k % 64:Nat):Int)=some ():=by unfold ln;rw [if_pos (by omega)]
    rw [o4 hg]
    unfold lb
    have hv:(cond (decide (63<(k:Int))) (Option.bind (ln (IntKind.i64.wrap ((k:Int) - 64))) (fun _=>some (dZ .u64 (cK .u64 p.Hi (IntKind.i64.wrap ((k:Int) - 64))) 1))) (some (dZ .u64 (cK .u64 p.Lo ((k % 64:Nat):Int)) 1)))=some bit:=by
     by_cases hk:63<(k:Int)
     ·rw [det hk,cS (by omega) (by omega)]
      have hg2:ln ((k:Int) - 64)=some ():=by unfold ln;rw [if_pos (by omega)]
      simp only [bV]
      rw [o4 hg2,oU (by omega),show ((k:Int) - 64).toNat=k - 64 by omega,vl ⟨Int.ediv_nonneg hp.1.1 (Int.le_of_lt (Int.pow_pos (by omega))),Int.lt_of_le_of_lt (Int.ediv_le_self _ hp.1.1) hp.1.2⟩,← hbit]
      unfold rv;rw [bit_hi hp.2 (by omega)]
     rw [bI hk]
     simp only [bC]
     rw [oU (by omega),Int.toNat_natCast,Nat.mod_eq_of_lt (by omega),vl ⟨Int.ediv_nonneg hp.2.1 (Int.le_of_lt (Int.pow_pos (by omega))),Int.lt_of_le_of_lt (Int.ediv_le_self _ hp.2.1) hp.2.2⟩,← hbit]
     unfold rv;rw [bit_lo hp.2 (by omega)]
    dsimp only
    rw [o4 hv]
    obtain ⟨w,o,c1,c2,c3⟩:=ud a3 a3
    have hq0:0≤rv ⟨x,y⟩:=by obtain ⟨⟨b1,b2⟩,⟨b3,b4⟩⟩:=a3;unfold rv;dsimp only at *;omega
    have hqd:rv ⟨x,y⟩≤rv ⟨x,y⟩ * d:=by have:=Int.mul_le_mul_of_nonneg_left h1 hq0;omega
    have hle:rv p / 2 ^ k≤rv p:=Int.ediv_le_self _ hN.1
    have c3:=c3 (by omega)
    rw [o4 c1]
    have hu4:U64 v4:=⟨a4,by unfold U64 at hd;omega⟩
    have hsh:cK .u64 v4 63=v4 / 9223372036854775808:=oU (by omega)
    have hlow:qQ .u64 (fZ .u64 v4 1) bit=(2*v4) % 18446744073709551616+bit:=by rw [FL hu4];exact Cx ⟨by omega,by omega⟩ (by omega) hb01
    rw [hlow,hsh,cS (by omega) (by omega)]
    have ekk:((k:Int) - 1+1).toNat=k:=by omega
    unfold U64 at hd hu4
    by_cases hT:d≤2*v4+bit
    ·have hc:((v4 / 9223372036854775808 == 1)||decide (d≤(2*v4) % 18446744073709551616+bit))=true:=by
      simp only [Bool.or_eq_true,beq_iff_eq,decide_eq_true_eq];omega
     rw [hc]
     simp only [bV]
     obtain ⟨⟨e1,e2⟩,⟨e3,e4⟩⟩:=c2
     have hev:w.Lo % 2=0:=by unfold rv at c3;dsimp only at c3;omega
     rw [Cx ⟨e3,e4⟩ hev (.inr rfl),wu]
     refine ⟨_,rfl,⟨by dsimp only;omega,by dsimp only;omega,⟨⟨e1,e2⟩,⟨by dsimp only;omega,by dsimp only;omega⟩⟩,by dsimp only;omega,by dsimp only;omega,?_⟩,by dsimp only;omega⟩
     dsimp only
     rw [ekk,hs,a6]
     have e5:rv ⟨w.Hi,w.Lo+1⟩=2*rv ⟨x,y⟩+1:=by unfold rv at c3 ⊢;dsimp only at c3 ⊢;omega
     rw [e5,Int.add_mul,Int.mul_assoc];omega
    ·have hc:((v4 / 9223372036854775808 == 1)||decide (d≤(2*v4) % 18446744073709551616+bit))=false:=by
      simp only [Bool.or_eq_false_iff,beq_eq_false_iff_ne,decide_eq_false_iff_not];omega
     rw [hc]
     simp only [bC]
     refine ⟨_,rfl,⟨by dsimp only;omega,by dsimp only;omega,c2,by dsimp only;omega,by dsimp only;omega,?_⟩,by dsimp only;omega⟩
     dsimp only
     rw [ekk,hs,a6,show rv ⟨w.Hi,w.Lo⟩=2*rv ⟨x,y⟩ by show rv w=_;omega,Int.mul_assoc];omega
   right
   rw [bI h0]
   have:v5 = -1:=by omega
   subst this
   refine ⟨_,rfl,a3,a4,a5,?_⟩
   rw [← a6];simp)
  FUEL (0,127,0,0) ⟨by simp,by simp,⟨⟨by simp,by simp⟩,⟨by simp,by simp⟩⟩,by simp,by simp;omega,by
   have:rv p / 340282366920938463463374607431768211456=0:=Int.ediv_eq_zero_of_lt hN.1 hN.2
   simp [rv] at this ⊢;exact this⟩ (jY (by simp))
 obtain ⟨t1,t2,t3⟩:=t
 rw [o4 h5]
 obtain ⟨g1,g2,g3,g4⟩:=h6
 dsimp only at g1 g2 g3 g4
 have gd:rv p / d=rv ⟨t2,t3⟩:=by
  rw [g4,Int.add_comm,Int.add_mul_ediv_right _ _ (by omega),Int.ediv_eq_zero_of_lt g2 g3,Int.zero_add]
 refine ⟨_,_,rfl,g1,gd.symm,?_⟩
 have:=Int.emod_add_mul_ediv (rv p) d
 rw [gd,Int.mul_comm] at this
 omega
structure KnInv (u u1 y1 y0 q rh:Int):Prop where
 eq:u=q*y1+rh
 r0:0≤rh
 r1:rh<4294967296
 q0:0≤q
 q1:q≤4294967297
 up:u*4294967296+u1<q*(y1*4294967296+y0)+(y1*4294967296+y0)
section
variable {u u1 y1 y0 q rh:Int} (hu:0≤u) (huy:u<y1*4294967296+y0) (h1:0≤u1) (h1':u1<4294967296) (hy:2147483648≤y1) (hy':y1<4294967296) (hz:0≤y0) (hz':y0<4294967296)
include hu huy h1 h1' hy hy' hz hz'
theorem r7:KnInv u u1 y1 y0 (u / y1) (u % y1):=by
 have hq0:0≤u / y1:=Int.ediv_nonneg hu (by omega)
 have hr0:=Int.emod_nonneg u (show y1≠0 by omega)
 have hr1:=Int.emod_lt_of_pos u (show 0<y1 by omega)
 have he:=Int.emod_add_mul_ediv u y1
 rw [Int.mul_comm] at he
 have hz2:0≤u / y1*y0:=Int.mul_nonneg hq0 hz
 refine ⟨by omega,hr0,by omega,hq0,?_,?_⟩
 ·apply Int.le_of_lt_add_one
  apply Int.ediv_lt_of_lt_mul (by omega)
  omega
 rw [Int.mul_add,← Int.mul_assoc];omega
theorem ue (i:KnInv u u1 y1 y0 q rh) (h:4294967296≤q∨4294967296*rh+u1<q*y0):u*4294967296+u1<q*(y1*4294967296+y0)∧1≤q:=by
 have e:=i.eq
 have hlt:u*4294967296+u1<q*(y1*4294967296+y0):=by
  rcases h with h | h
  ·have:4294967296*(y1*4294967296+y0)≤q*(y1*4294967296+y0):=Int.mul_le_mul_of_nonneg_right h (by omega)
   omega
  rw [Int.mul_add,← Int.mul_assoc];omega
 refine ⟨hlt,?_⟩
 have hq:=i.q0
 by_cases hq0:q=0
 ·subst hq0;rw [Int.zero_mul] at hlt;omega
 omega
theorem Cy (i:KnInv u u1 y1 y0 q rh) (h:4294967296≤q∨4294967296*rh+u1<q*y0) (h2:rh+y1<4294967296):KnInv u u1 y1 y0 (q - 1) (rh+y1):=by
 obtain ⟨hlt,hq⟩:=ue hu huy h1 h1' hy hy' hz hz' i h
 have:=i.eq;have:=i.r0;have:=i.q1
 refine ⟨by rw [Int.sub_mul];omega,by omega,h2,by omega,by omega,?_⟩
 rw [Int.sub_mul];omega
theorem Cz (i:KnInv u u1 y1 y0 q rh) (h:4294967296≤q∨4294967296*rh+u1<q*y0) (h2:4294967296≤rh+y1):(q - 1)*(y1*4294967296+y0)≤u*4294967296+u1∧u*4294967296+u1<(q - 1)*(y1*4294967296+y0)+(y1*4294967296+y0):=by
 obtain ⟨hlt,hq⟩:=ue hu huy h1 h1' hy hy' hz hz' i h
 have e:=i.eq;have:=i.r0;have hq1:=i.q1
 refine ⟨?_,by rw [Int.sub_mul];omega⟩
 have hz2:(q - 1)*y0≤4294967296*4294967295:=Int.mul_le_mul (by omega) (by omega) hz (by omega)
 rw [Int.mul_add,← Int.mul_assoc]
 rw [Int.sub_mul q 1 y1]
 omega
omit hu huy h1 h1' hy hy' hz hz' in
theorem z2 (i:KnInv u u1 y1 y0 q rh) (h:¬ (4294967296≤q∨4294967296*rh+u1<q*y0)):q*(y1*4294967296+y0)≤u*4294967296+u1:=by
 have e:=i.eq
 rw [Int.mul_add,← Int.mul_assoc];omega
end
section
variable {u u1 y1 y0:Int} (hu:0≤u) (huy:u<y1*4294967296+y0) (h1:0≤u1) (h1':u1<4294967296) (hy:2147483648≤y1) (hy':y1<4294967296) (hz:0≤y0) (hz':y0<4294967296)
include hu huy h1 h1' hy hy' hz hz'
omit hu huy hy hy' in
theorem CA {q rh:Int} (i:KnInv u u1 y1 y0 q rh):((decide (4294967296≤q))||(decide ((IntKind.u64.wrap ((IntKind.u64.wrap (4294967296*rh))+u1))<(IntKind.u64.wrap (q*y0)))))=decide (4294967296≤q∨4294967296*rh+u1<q*y0):=by
 have:=i.r0;have:=i.r1;have:=i.q0
 rw [fA (a:=4294967296*rh) ⟨by omega,by omega⟩,fA (a:=4294967296*rh+u1) ⟨by omega,by omega⟩]
 by_cases hq:4294967296≤q
 ·rw [det hq,det (Or.inl hq)];rfl
 have hp:q*y0≤4294967295*4294967295:=Int.mul_le_mul (by omega) (by omega) hz (by omega)
 have hp0:0≤q*y0:=Int.mul_nonneg (by omega) hz
 rw [fA (a:=q*y0) ⟨hp0,by omega⟩,bI hq,Bool.false_or]
 congr 1
 exact propext ⟨.inr,fun h=>h.resolve_left hq⟩
omit hy hy' hz hz' in
theorem ym {q:Int} (h0:0≤q) (h2:q*(y1*4294967296+y0)≤u*4294967296+u1):q<4294967296:=by
 have:q*(y1*4294967296+y0)<4294967296*(y1*4294967296+y0):=by omega
 exact Int.lt_of_mul_lt_mul_right this (by omega)
def KQ (u u1 y1 y0 q:Int):Prop:=0≤q∧q<4294967296∧q*(y1*4294967296+y0)≤u*4294967296+u1∧u*4294967296+u1<q*(y1*4294967296+y0)+(y1*4294967296+y0)
theorem FM:∃ q,aO (S:=Int×Int) (T:=(Int)) (fun (v18,v19)=>cond ((decide (4294967296≤v18))||(decide ((IntKind.u64.wrap ((IntKind.u64.wrap (4294967296*v19))+u1))<(IntKind.u64.wrap (v18*y0))))) (cond (decide (4294967296≤(IntKind.u64.wrap (v19+y1)))) (some (.inr (IntKind.u64.wrap (v18 - 1)))) (some (.inl ((IntKind.u64.wrap (v18 - 1)),(IntKind.u64.wrap (v19+y1)))))) (some (.inr v18))) FUEL (u / y1,u % y1)=some q∧KQ u u1 y1 y0 q:=by
 refine mr (fun s:Int×Int=>KnInv u u1 y1 y0 s.1 s.2) (fun s=>s.1.toNat) (KQ u u1 y1 y0) ?_ FUEL _ (r7 hu huy h1 h1' hy hy' hz hz') ?_
 ·rintro ⟨q,rh⟩ i
  dsimp only at i ⊢
  rw [CA h1 h1' hz hz' i]
  have i0:=i.r0;have i1:=i.r1;have i2:=i.q0;have i3:=i.q1
  by_cases h:4294967296≤q∨4294967296*rh+u1<q*y0
  ·rw [det h]
   obtain ⟨_,hq1⟩:=ue hu huy h1 h1' hy hy' hz hz' i h
   rw [fA (a:=rh+y1) ⟨by omega,by omega⟩,fA (a:=q - 1) ⟨by omega,by omega⟩]
   by_cases h2:4294967296≤rh+y1
   ·rw [det h2];right
    obtain ⟨e1,e2⟩:=Cz hu huy h1 h1' hy hy' hz hz' i h h2
    exact ⟨_,rfl,by omega,ym hu huy h1 h1' (by omega) e1,e1,e2⟩
   rw [bI h2];left
   exact ⟨_,rfl,Cy hu huy h1 h1' hy hy' hz hz' i h (by omega),by dsimp only;omega⟩
  rw [bI h];right
  have e1:=z2 i h
  exact ⟨_,rfl,i2,ym hu huy h1 h1' i2 e1,e1,i.up⟩
 have:=(r7 hu huy h1 h1' hy hy' hz hz').q1
 exact jY (by dsimp only;omega)
theorem FN:∃ q,aO (S:=Int×Int) (T:=(Int)) (fun (v28,v29)=>cond ((decide (4294967296≤v29))||(decide ((IntKind.u64.wrap ((IntKind.u64.wrap (4294967296*v28))+u1))<(IntKind.u64.wrap (v29*y0))))) (cond (decide (4294967296≤(IntKind.u64.wrap (v28+y1)))) (some (.inr (IntKind.u64.wrap (v29 - 1)))) (some (.inl ((IntKind.u64.wrap (v28+y1)),(IntKind.u64.wrap (v29 - 1)))))) (some (.inr v29))) FUEL (u % y1,u / y1)=some q∧KQ u u1 y1 y0 q:=by
 refine mr (fun s:Int×Int=>KnInv u u1 y1 y0 s.2 s.1) (fun s=>s.2.toNat) (KQ u u1 y1 y0) ?_ FUEL _ (r7 hu huy h1 h1' hy hy' hz hz') ?_
 ·rintro ⟨rh,q⟩ i
  dsimp only at i ⊢
  rw [CA h1 h1' hz hz' i]
  have i0:=i.r0;have i1:=i.r1;have i2:=i.q0;have i3:=i.q1
  by_cases h:4294967296≤q∨4294967296*rh+u1<q*y0
  ·rw [det h]
   obtain ⟨_,hq1⟩:=ue hu huy h1 h1' hy hy' hz hz' i h
   rw [fA (a:=rh+y1) ⟨by omega,by omega⟩,fA (a:=q - 1) ⟨by omega,by omega⟩]
   by_cases h2:4294967296≤rh+y1
   ·rw [det h2];right
    obtain ⟨e1,e2⟩:=Cz hu huy h1 h1' hy hy' hz hz' i h h2
    exact ⟨_,rfl,by omega,ym hu huy h1 h1' (by omega) e1,e1,e2⟩
   rw [bI h2];left
   exact ⟨_,rfl,Cy hu huy h1 h1' hy hy' hz hz' i h (by omega),by dsimp only;omega⟩
  rw [bI h];right
  have e1:=z2 i h
  exact ⟨_,rfl,i2,ym hu huy h1 h1' i2 e1,e1,i.up⟩
 have:=(r7 hu huy h1 h1' hy hy' hz hz').q1
 exact jY (by dsimp only;omega)
end
theorem Du {a v:Int} {k n:Nat} (h:v=a / 2 ^ k) (hn:1≤n) (l:2 ^ (n - 1)≤v) (g:v<2 ^ n):2 ^ (k+n - 1)≤a∧a<2 ^ (k+n):=by
 have hp:(0:Int)<2 ^ k:=Int.pow_pos (by omega)
 have e1:=Int.ediv_mul_le a (Int.ne_of_gt hp)
 have e2:=Int.lt_ediv_add_one_mul_self a hp
 rw [← h] at e1 e2
 constructor
 ·rw [show k+n - 1=(n - 1)+k by omega,Int.pow_add]
  exact Int.le_trans (Int.mul_le_mul_of_nonneg_right l (Int.le_of_lt hp)) e1
 rw [show k+n=n+k by omega,Int.pow_add]
 exact Int.lt_of_lt_of_le e2 (Int.mul_le_mul_of_nonneg_right (by omega) (Int.le_of_lt hp))
def Bo:ByteArray:=⟨#[0,1,2,2,3,3,3,3,4,4,4,4,4,4,4,4,5,5,5,5,5,5,5,5,5,5,5,5,5,5,5,5,6,6,6,6,6,6,6,6,6,6,6,6,6,6,6,6,6,6,6,6,6,6,6,6,6,6,6,6,6,6,6,6,7,7,7,7,7,7,7,7,7,7,7,7,7,7,7,7,7,7,7,7,7,7,7,7,7,7,7,7,7,7,7,7,7,7,7,7,7,7,7,7,7,7,7,7,7,7,7,7,7,7,7,7,7,7,7,7,7,7,7,7,7,7,7,7,8,8,8,8,8,8,8,8,8,8,8,8,8,8,8,8,8,8,8,8,8,8,8,8,8,8,8,8,8,8,8,8,8,8,8,8,8,8,8,8,8,8,8,8,8,8,8,8,8,8,8,8,8,8,8,8,8,8,8,8,8,8,8,8,8,8,8,8,8,8,8,8,8,8,8,8,8,8,8,8,8,8,8,8,8,8,8,8,8,8,8,8,8,8,8,8,8,8,8,8,8,8,8,8,8,8,8,8,8,8,8,8,8,8,8,8,8,8,8,8,8,8,8,8,8,8,8,8]⟩
theorem Bp:∀ v:Fin 256,(match idx Bo.data.toList (v.val:Int) with | some c=>decide (1≤v.val→1≤c.toNat∧2 ^ (c.toNat - 1)≤v.val)&&decide (v.val<2 ^ c.toNat)&&decide (c.toNat≤8) | none=>false)=true:=by decide
theorem Dv {v:Int} (h0:0≤v) (h1:v<256):∃ c,idx Bo.data.toList v=some c∧(1≤v→1≤c.toNat∧2 ^ (c.toNat - 1)≤v)∧v<2 ^ c.toNat∧c.toNat≤8:=by
 obtain ⟨k,rfl⟩:∃ k:Nat,v=(k:Int):=⟨v.toNat,by omega⟩
 have:=Bp ⟨k,by omega⟩
 split at this
 ·rename_i c hc
  simp only [Bool.and_eq_true,decide_eq_true_eq] at this
  obtain ⟨⟨a,b⟩,d⟩:=this
  refine ⟨c,hc,fun h=>⟨(a (by omega)).1,?_⟩,?_,d⟩
  ·have:=(a (by omega)).2;exact_mod_cast this
  exact_mod_cast b
 cases this
theorem len64 {a:Int} (ha:U64 a) (h1:1≤a):∃ n:Nat,gb a=some (n:Int)∧1≤n∧n≤64∧2 ^ (n - 1)≤a∧a<2 ^ n:=by
 have key:∃ (k:Nat) (v:Int),k≤56∧v=a / 2 ^ k∧1≤v∧v<256∧gb a=Option.bind (idx Bo.data.toList (IntKind.u8.wrap v)) (fun c13=>lb ((IntKind.i64.wrap ((k:Int)+(IntKind.i64.wrap (c13.toNat:Int))))) (fun w14=>some w14)):=by
  unfold U64 at ha
  have s32:∀ x:Int,cK .u64 x 32=x / 4294967296:=fun x=>oU (by decide)
  have s16:∀ x:Int,cK .u64 x 16=x / 65536:=fun x=>oU (by decide)
  have s8:∀ x:Int,cK .u64 x 8=x / 256:=fun x=>oU (by decide)
  unfold gb
  simp only [s32,s16,s8]
  by_cases c1:4294967296≤a
  ·rw [det c1]
   simp only [bV,bc]
   by_cases c2:65536≤a / 4294967296
   ·rw [det c2]
    simp only [bV,bc]
    by_cases c3:256≤a / 4294967296 / 65536
    ·rw [det c3]
     exact ⟨56,a / 4294967296 / 65536 / 256,by omega,by simp only [Int.reducePow];omega,by omega,by omega,rfl⟩
    rw [bI c3]
    exact ⟨48,a / 4294967296 / 65536,by omega,by simp only [Int.reducePow];omega,by omega,by omega,rfl⟩
   rw [bI c2]
   simp only [bC,bc]
   by_cases c3:256≤a / 4294967296
   ·rw [det c3]
    exact ⟨40,a / 4294967296 / 256,by omega,by simp only [Int.reducePow];omega,by omega,by omega,rfl⟩
   rw [bI c3]
   exact ⟨32,a / 4294967296,by omega,by simp only [Int.reducePow],by omega,by omega,rfl⟩
  rw [bI c1]
  simp only [bC,bc]
  by_cases c2:65536≤a
  ·rw [det c2]
   simp only [bV,bc]
   by_cases c3:256≤a / 65536
   ·rw [det c3]
    exact ⟨24,a / 65536 / 256,by omega,by simp only [Int.reducePow];omega,by omega,by omega,rfl⟩
   rw [bI c3]
   exact ⟨16,a / 65536,by omega,by simp only [Int.reducePow],by omega,by omega,rfl⟩
  rw [bI c2]
  simp only [bC,bc]
  by_cases c3:256≤a
  ·rw [det c3]
   exact ⟨8,a / 256,by omega,by simp only [Int.reducePow],by omega,by omega,rfl⟩
  rw [bI c3]
  exact ⟨0,a,by omega,by simp,by omega,by omega,rfl⟩
 obtain ⟨k,v,k1,k2,k3,k4,k5⟩:=key
 obtain ⟨c,c1,c2,c3,c4⟩:=Dv (v:=v) (by omega) k4
 obtain ⟨c5,c6⟩:=c2 k3
 obtain ⟨l1,l2⟩:=Du k2 c5 c6 c3
 rw [k5,xy (by omega),o4 c1]
 unfold lb
 rw [cS (r:=(c.toNat:Int)) (by omega) (by omega),cS (by omega) (by omega)]
 exact ⟨k+c.toNat,by simp,by omega,by omega,l1,l2⟩
theorem lz64 {a:Int} (ha:U64 a) (h1:1≤a):∃ s:Nat,dI a=some (s:Int)∧s≤63∧9223372036854775808≤a*2 ^ s∧a*2 ^ s<18446744073709551616:=by
 obtain ⟨n,e1,e2,e3,e4,e5⟩:=len64 ha h1
 unfold dI
 rw [o4 e1,cS (by omega) (by omega)]
 refine ⟨64 - n,by congr 1;omega,by omega,?_,?_⟩
 ·have:=Int.mul_le_mul_of_nonneg_right e4 (Int.le_of_lt (show (0:Int)<2 ^ (64 - n) from Int.pow_pos (by decide)))
  rw [← Int.pow_add,show n - 1+(64 - n)=63 by omega] at this
  exact this
 have:=Int.mul_lt_mul_of_pos_right e5 (show (0:Int)<2 ^ (64 - n) from Int.pow_pos (by decide))
 rw [← Int.pow_add,show n+(64 - n)=64 by omega] at this
 exact this
theorem Bq {b:Int} (h:0≤b):ln b=some ():=by unfold ln;rw [if_pos h]
theorem Br {a:Int} {s:Nat} (h:s≤64):fZ .u64 a (s:Int)=IntKind.u64.wrap (a*2 ^ s):=by
 have e:fZ .u64 a (s:Int)=IntKind.u64.wrap (a*2 ^ min (s:Int).toNat 64):=rfl
 rw [e,Int.toNat_natCast,Nat.min_eq_left h]
theorem ior_sh {h b:Int} {s:Nat} (hh:0≤h) (hb:0≤b) (hb2:b<2 ^ s) (h1:U64 (h*2 ^ s)) (h2:U64 b):qQ .u64 (h*2 ^ s) b=h*2 ^ s+b:=by
 rw [FK h1 h2]
 obtain ⟨x,rfl⟩:∃ k:Nat,h=(k:Int):=⟨h.toNat,by omega⟩
 obtain ⟨z,rfl⟩:∃ k:Nat,b=(k:Int):=⟨b.toNat,by omega⟩
 have e:((x:Int)*2 ^ s)=((2 ^ s*x:Nat):Int):=by push_cast;exact Int.mul_comm _ _
 have hz:z<2 ^ s:=by exact_mod_cast hb2
 rw [e,Int.toNat_natCast,Int.toNat_natCast,← Nat.two_pow_add_eq_or_of_lt hz]
 rfl
theorem dm_of {n q r y:Int} (e:n=q*y+r) (h0:0≤r) (h1:r<y):n / y=q∧n % y=r:=by
 have gd:n / y=q:=by
  rw [e,Int.add_comm,Int.add_mul_ediv_right _ _ (by omega),Int.ediv_eq_zero_of_lt h0 h1,Int.zero_add]
 refine ⟨gd,?_⟩
 have:=Int.emod_add_mul_ediv n y
 rw [gd,Int.mul_comm] at this
 omega
theorem div64 {hi lo y:Int} (h1:U64 hi) (h2:U64 lo) (h3:U64 y) (h4:hi<y):ib hi lo y=some ((hi*18446744073709551616+lo) / y,(hi*18446744073709551616+lo) % y):=by
 have hi0:=h1.1
 have hlo:=h2.1
 have hy1:1≤y:=by omega
 unfold ib
 have cy:(y == 0)=false:=by simp;omega
 rw [cy,bI (show ¬ y≤hi by omega)]
 simp only [bC]
 by_cases hz:hi=0
 ·subst hz
  have:((0:Int) == 0)=true:=rfl
  rw [this]
  simp only [bV]
  rw [o4 (E9 (show y≠0 by omega)),o4 (E9 (show y≠0 by omega)),Int.tdiv_eq_ediv_of_nonneg hlo,Int.tmod_eq_emod_of_nonneg hlo]
  have:lo / y≤lo:=Int.ediv_le_self _ hlo
  rw [fA ⟨Int.ediv_nonneg hlo (by omega),by have:=h2.2;omega⟩]
  simp
 have cz:(hi == 0)=false:=by simp;exact hz
 rw [cz]
 simp only [bC]
 obtain ⟨s,e1,e2,e3,e4⟩:=lz64 h3 hy1
 have hP:(0:Int)<2 ^ s:=Int.pow_pos (by omega)
 have hM:(0:Int)<2 ^ (64 - s):=Int.pow_pos (by omega)
 have hPM:(2:Int) ^ s*2 ^ (64 - s)=18446744073709551616:=by rw [← Int.pow_add,show s+(64 - s)=64 by omega];rfl
 have hhP:hi*2 ^ s<y*2 ^ s:=Int.mul_lt_mul_of_pos_right h4 hP
 have hhP0:0≤hi*2 ^ s:=Int.mul_nonneg hi0 (by omega)
 have hqd0:0≤lo / 2 ^ (64 - s):=Int.ediv_nonneg hlo (by omega)
 have hqd1:lo / 2 ^ (64 - s)<2 ^ s:=by
  apply Int.ediv_lt_of_lt_mul hM
  rw [hPM];exact h2.2
 have hPle:(2:Int) ^ s≤18446744073709551616:=by rw [← hPM];have:=Int.mul_le_mul_of_nonneg_left (show (1:Int)≤2 ^ (64 - s) by omega) (Int.le_of_lt hP);omega
 have f1:IntKind.u64.wrap (s:Int)=(s:Int):=fA ⟨by omega,by omega⟩
 have f2:IntKind.u64.wrap (64 - (s:Int))=((64 - s:Nat):Int):=by rw [fA ⟨by omega,by omega⟩];omega
 have f3:fZ .u64 y (s:Int)=y*2 ^ s:=by rw [Br (by omega),fA ⟨by omega,e4⟩]
 have f4:fZ .u64 hi (s:Int)=hi*2 ^ s:=by rw [Br (by omega),fA ⟨hhP0,by omega⟩]
 have f5:cK .u64 lo ((64 - s:Nat):Int)=lo / 2 ^ (64 - s):=by rw [oU (by omega),Int.toNat_natCast]
 have f6:fZ .u64 lo (s:Int)=(lo*2 ^ s) % 18446744073709551616:=by rw [Br (by omega),wu]
 have f7:qQ .u64 (hi*2 ^ s) (lo / 2 ^ (64 - s))=hi*2 ^ s+lo / 2 ^ (64 - s):=ior_sh hi0 hqd0 hqd1 ⟨hhP0,by omega⟩ ⟨hqd0,by omega⟩
 rw [o4 e1]
 simp only [lb,f1,f2,f3,f4,f5,f6,f7,Bq (Int.natCast_nonneg s),Bq (Int.natCast_nonneg (64 - s)),bc,Cv]
 have hN:(hi*18446744073709551616+lo)*2 ^ s=(hi*2 ^ s+lo / 2 ^ (64 - s))*18446744073709551616+(lo*2 ^ s) % 18446744073709551616:=by
  have g1:=Int.emod_add_mul_ediv lo (2 ^ (64 - s))
  have g2:lo*2 ^ s=lo % 2 ^ (64 - s)*2 ^ s+18446744073709551616*(lo / 2 ^ (64 - s)):=by
   have:=congrArg (· * (2:Int) ^ s) g1
   simp only [Int.add_mul] at this
   rw [← this,← hPM]
   rw [Int.mul_assoc,Int.mul_comm (lo / 2 ^ (64 - s)),← Int.mul_assoc,Int.mul_comm (2 ^ (64 - s)),Int.mul_assoc]
  have g3:0≤lo % 2 ^ (64 - s)*2 ^ s:=Int.mul_nonneg (Int.emod_nonneg _ (by omega)) (by omega)
  have g4:lo % 2 ^ (64 - s)*2 ^ s<18446744073709551616:=by
   rw [← hPM,Int.mul_comm (2 ^ s)]
   exact Int.mul_lt_mul_of_pos_right (Int.emod_lt_of_pos _ hM) hP
  rw [Int.add_mul,Int.mul_right_comm hi]
  generalize lo % 2 ^ (64 - s)*2 ^ s=A at *
  generalize lo / 2 ^ (64 - s)=B at *
  generalize lo*2 ^ s=C at *
  generalize hi*2 ^ s=D at *
  omega
 have hu0:0≤hi*2 ^ s+lo / 2 ^ (64 - s):=by omega
 have huy:hi*2 ^ s+lo / 2 ^ (64 - s)<y*2 ^ s:=by
  have:(hi+1)*2 ^ s≤y*2 ^ s:=Int.mul_le_mul_of_nonneg_right (by omega) (by omega)
  rw [Int.add_mul] at this;omega
 have hU0:0≤(lo*2 ^ s) % 18446744073709551616:=by omega
 have hU1:(lo*2 ^ s) % 18446744073709551616<18446744073709551616:=by omega
 have hfin:∀ q R:Int,(hi*18446744073709551616+lo)*2 ^ s=q*(y*2 ^ s)+R→0≤R→R<y*2 ^ s→(hi*18446744073709551616+lo) / y=q∧(hi*18446744073709551616+lo) % y=R / 2 ^ s:=by
  intro q R hq hR0 hR1
  have hr:R=(hi*18446744073709551616+lo - q*y)*2 ^ s:=by rw [Int.sub_mul,Int.mul_assoc q];omega
  have hd:R / 2 ^ s=hi*18446744073709551616+lo - q*y:=by rw [hr];exact Int.mul_ediv_cancel _ (by omega)
  rw [hd]
  generalize hi*18446744073709551616+lo=n at *
  have:0≤n - q*y:=by
   by_cases hc:0≤n - q*y
   ·exact hc
   have:=Int.mul_le_mul_of_nonneg_right (show n - q*y ≤ -1 by omega) (Int.le_of_lt hP);omega
  have:n - q*y<y:=by
   apply Int.lt_of_mul_lt_mul_right (a:=2 ^ s) _ (by omega)
   omega
  exact dm_of (by omega) (by assumption) (by assumption)
 generalize (hi*18446744073709551616+lo)*2 ^ s=NP at *
 generalize hYe:y*2 ^ s=Y at *
 generalize hi*2 ^ s+lo / 2 ^ (64 - s)=u at *
 generalize (lo*2 ^ s) % 18446744073709551616=U at *
 rw [qp (a:=Y) ⟨by omega,e4⟩,qp (a:=U) ⟨hU0,hU1⟩]
 have k1:Y / 4294967296*4294967296+Y % 4294967296=Y:=by omega
 have k2:2147483648≤Y / 4294967296:=by omega
 have k3:Y / 4294967296<4294967296:=by omega
 have k4:0≤Y % 4294967296:=by omega
 have k5:Y % 4294967296<4294967296:=by omega
 have k6:0≤U / 4294967296:=by omega
 have k7:U / 4294967296<4294967296:=by omega
 have k8:0≤U % 4294967296:=by omega
 have k9:U % 4294967296<4294967296:=by omega
 have k10:U=U / 4294967296*4294967296+U % 4294967296:=by omega
 generalize U / 4294967296=u1 at *
 generalize U % 4294967296=u0 at *
 generalize Y / 4294967296=y1 at *
 generalize Y % 4294967296=y0 at *
 have dv:∀ v:Int,0≤v→v<Y→IntKind.u64.wrap (Int.tdiv v y1)=v / y1∧IntKind.u64.wrap (v - IntKind.u64.wrap (v / y1*y1))=v % y1:=by
  intro v v0 v1
  have:=Int.ediv_le_self y1 v0
  have q0:=Int.ediv_nonneg v0 (show 0≤y1 by omega)
  have m0:=Int.emod_nonneg v (show y1≠0 by omega)
  have m1:=Int.emod_lt_of_pos v (show 0<y1 by omega)
  have e:=Int.emod_add_mul_ediv v y1
  rw [Int.mul_comm] at e
  rw [Int.tdiv_eq_ediv_of_nonneg v0,fA (a:=v / y1) ⟨q0,by omega⟩]
  refine ⟨rfl,?_⟩
  have:0≤v / y1*y1:=Int.mul_nonneg q0 (by omega)
  rw [fA (a:=v / y1*y1) ⟨this,by omega⟩,fA ⟨by omega,by omega⟩]
  omega
 have hnz:nz y1=some ():=E9 (by omega)
 obtain ⟨d1,d2⟩:=dv u hu0 huy
 simp only [hnz,d1,d2,bc]
 obtain ⟨q1,l1,l2,l3,l4,l5⟩:=FM (u:=u) (u1:=u1) (y1:=y1) (y0:=y0) hu0 (by omega) k6 k7 k2 k3 k4 k5
 rw [k1] at l4 l5
 rw [o4 l1]
 have w25:IntKind.u64.wrap (IntKind.u64.wrap (IntKind.u64.wrap (u*4294967296)+u1) - IntKind.u64.wrap (q1*Y))=u*4294967296+u1 - q1*Y:=by
  simp only [wu]
  generalize q1*Y=z at *
  omega
 simp only [w25]
 have v0:0≤u*4294967296+u1 - q1*Y:=by omega
 have v1:u*4294967296+u1 - q1*Y<Y:=by omega
 have hv:u*4294967296+u1=q1*Y+(u*4294967296+u1 - q1*Y):=by omega
 generalize u*4294967296+u1 - q1*Y=v at *
 obtain ⟨d3,d4⟩:=dv v v0 v1
 simp only [d3,d4]
 obtain ⟨q0,m1,m2,m3,m4,m5⟩:=FN (u:=v) (u1:=u0) (y1:=y1) (y0:=y0) v0 (by omega) k8 k9 k2 k3 k4 k5
 rw [k1] at m4 m5
 rw [o4 m1]
 have w36:IntKind.u64.wrap (IntKind.u64.wrap (q1*4294967296)+q0)=q1*4294967296+q0:=by simp only [wu];omega
 have w37:IntKind.u64.wrap (IntKind.u64.wrap (IntKind.u64.wrap (v*4294967296)+u0) - IntKind.u64.wrap (q0*Y))=v*4294967296+u0 - q0*Y:=by
  simp only [wu]
  generalize q0*Y=z at *
  omega
 rw [w36,w37,oU (by omega),Int.toNat_natCast]
 obtain ⟨g1,g2⟩:=hfin (q1*4294967296+q0) (v*4294967296+u0 - q0*Y) (by
  rw [hN,k10,Int.add_mul,Int.mul_right_comm]
  generalize q1*Y=z at *
  generalize q0*Y=z0 at *
  omega) (by omega) (by omega)
 rw [g1,g2]
def xv (w:Zo):Int:=w.Hi*18446744073709551616+w.Lo
def XW (w:Zo):Prop:=U64 w.Hi∧U64 w.Lo
theorem w0 {a b:Int} (ha:U64 a) (hb:U64 b):∃ w,jD a b=some w∧XW w∧xv w=a*b:=by
 obtain ⟨h,l,e1,e2,e3,e4⟩:=mul64 ha hb
 unfold jD;rw [o4 e1]
 exact ⟨_,rfl,⟨e2,e3⟩,e4⟩
def CB (n c m:Int):Int:=if (m=2∧c≤2*(n % c))∨(m=1∧0<n % c) then n / c+1 else n / c
theorem Dw {w:Zo} {c m:Int} (hw:XW w) (hc:U64 c) (h1:1≤c) (hm:m=0∨m=1∨m=2):nQ w c m=some (if CB (xv w) c m<18446744073709551616 then (CB (xv w) c m,0) else (0,3)):=by
 unfold nQ
 have hc0:((((c == 0)||(decide (m<0)))||(decide (3<m))):Bool)=false:=by
  rcases hm with rfl | rfl | rfl <;> simp <;> omega
 rw [hc0];simp only [bC]
 have hn0:0≤xv w:=by unfold xv;have:=hw.1.1;have:=hw.2.1;omega
 have hr0:0≤xv w % c:=Int.emod_nonneg _ (by omega)
 have hr1:xv w % c<c:=Int.emod_lt_of_pos _ (by omega)
 have hle:xv w / c≤CB (xv w) c m:=by unfold CB;split <;> omega
 by_cases h:c≤w.Hi
 ·rw [det h]
  have:18446744073709551616≤xv w / c:=by
   apply Int.le_ediv_of_mul_le (by omega)
   have:=Int.mul_le_mul_of_nonneg_left h (show (0:Int)≤18446744073709551616 by omega)
   unfold xv;have:=hw.2.1;omega
  rw [if_neg (by omega)];rfl
 rw [bI h]
 simp only [bC]
 have e:=div64 hw.1 hw.2 hc (by omega)
 rw [show w.Hi*18446744073709551616+w.Lo=xv w from rfl] at e
 rw [o4 e]
 have hq:xv w / c<18446744073709551616:=by
  apply Int.ediv_lt_of_lt_mul (by omega)
  have:=Int.mul_le_mul_of_nonneg_right (show w.Hi+1≤c by omega) (show (0:Int)≤18446744073709551616 by omega)
  unfold xv;have:=hw.2.2;rw [Int.mul_comm 18446744073709551616];omega
 have hq0:0≤xv w / c:=Int.ediv_nonneg hn0 (by omega)
 dsimp only
 have er:j6 (xv w / c) (xv w % c) c m=some (decide ((m=2∧c≤2*(xv w % c))∨(m=1∧0<xv w % c))):=by
  unfold j6
  rw [fA (a:=c - xv w % c) ⟨by omega,by have:=hc.2;omega⟩]
  rcases hm with rfl | rfl | rfl
  ·simp
  ·simp
  simp;omega
 rw [o4 er]
 unfold CB
 by_cases hu:(m=2∧c≤2*(xv w % c))∨(m=1∧0<xv w % c)
 ·rw [det hu,if_pos hu]
  simp only [Bool.not_true,bC]
  by_cases hx:xv w / c=18446744073709551615
  ·rw [hx];rfl
  have:(xv w / c == 18446744073709551615)=false:=by simp;exact hx
  rw [this,if_pos (by omega),fA ⟨by omega,by omega⟩];rfl
 rw [bI hu,if_neg hu,if_pos hq];rfl
theorem ref_div {w:Zn} {c m:Int} (hw:RW w) (hc:U64 c) (h1:1≤c) (hm:m=0∨m=1∨m=2):sF w c m=some (if CB (rv w) c m<18446744073709551616 then (CB (rv w) c m,0) else (0,3)):=by
 unfold sF
 have hc0:((((c == 0)||(decide (m<0)))||(decide (3<m))):Bool)=false:=by
  rcases hm with rfl | rfl | rfl <;> simp <;> omega
 rw [hc0];simp only [bC]
 have hn0:0≤rv w:=by unfold rv;have:=hw.1.1;have:=hw.2.1;omega
 have hn1:rv w<340282366920938463463374607431768211456:=by unfold rv;have:=hw.1.2;have:=hw.2.2;omega
 have hr0:0≤rv w % c:=Int.emod_nonneg _ (by omega)
 have hr1:rv w % c<c:=Int.emod_lt_of_pos _ (by omega)
 obtain ⟨q,r,e1,e2,e3,e4⟩:=Bn hw hc h1
 rw [o4 e1]
 dsimp only
 have er:(cond (m == 1) (some (decide (0<r))) (cond (m == 2) (some (decide ((IntKind.u64.wrap (c - r))≤r))) (cond (m == 3) (some ((decide ((IntKind.u64.wrap (c - r))<r))||((r == (IntKind.u64.wrap (c - r)))&&((dZ .u64 q.Lo 1) == 1)))) (some false))))=some (decide ((m=2∧c≤2*(rv w % c))∨(m=1∧0<rv w % c))):=by
  rw [e4,fA (a:=c - rv w % c) ⟨by omega,by have:=hc.2;omega⟩]
  rcases hm with rfl | rfl | rfl
  ·simp
  ·simp
  simp;omega
 rw [o4 er]
 have hq0:0≤rv w / c:=Int.ediv_nonneg hn0 (by omega)
 unfold CB
 have hfin:∀ z:Zn,RW z→(cond (decide (0<z.Hi)) (some ((0:Int),(3:Int))) (some (z.Lo,0)))=some (if rv z<18446744073709551616 then (rv z,0) else (0,3)):=by
  intro z hz
  obtain ⟨⟨a1,a2⟩,⟨a3,a4⟩⟩:=hz
  by_cases h:0<z.Hi
  ·rw [det h,if_neg (by unfold rv;omega)];rfl
  have:rv z=z.Lo:=by unfold rv;omega
  rw [bI h,this,if_pos a4];rfl
 by_cases hu:(m=2∧c≤2*(rv w % c))∨(m=1∧0<rv w % c)
 ·rw [det hu,if_pos hu]
  obtain ⟨z,b,f1,f2,f3⟩:=ud (p:=q) (q:=⟨0,1⟩) e2 ⟨⟨by simp,by simp⟩,⟨by simp,by simp⟩⟩
  have hone:rv ⟨0,1⟩=1:=rfl
  have:rv w / c≤rv w:=Int.ediv_le_self _ hn0
  have hc2:2≤c:=by omega
  have t1:=Int.ediv_mul_le (rv w) (show c≠0 by omega)
  have t2:=Int.mul_le_mul_of_nonneg_left hc2 hq0
  rw [hone,e3] at f3
  have f3:=f3 (by omega)
  simp only [bV]
  rw [o4 f1]
  simp only [bc]
  rw [hfin z f2,f3]
 rw [bI hu,if_neg hu]
 simp only [bC,bc]
 rw [hfin q e2,e3]
structure VProd (l:List Zc) (p:Zc):Prop where
 price:1≤p.Price∧p.Price≤1000000000000
 lvl:6≤dU p.Code
 ctr:qS p.Country=true
 proc:kn p.Processes=true
 few:p.Inputs.length≤8
 asc:p.Inputs.Pairwise fun a b=>a.Product<b.Product
 inp:∀ x∈p.Inputs,(cZ l x.Product).isSome=true∧0≤x.Value∧x.Value≤1000000000000
 obt:p.Obtained=true→p.Inputs=[]
structure VPs (l:List Zc):Prop where
 len:l.length≤64
 asc:l.Pairwise fun a b=>a.ID<b.ID
 all:∀ p∈l,VProd l p
theorem ku {l:List ByteArray} (h:kn l=true):l.length≤8∧(∀ s∈l,gU s=true)∧Strict iS l:=by
 unfold kn at h
 simp only [Bool.and_eq_true,decide_eq_true_eq] at h
 exact ⟨h.1,fun s hs=>List.all_eq_true.1 h.2.1 s hs,(lA _).1 h.2.2⟩
theorem VPs.sorted {l:List Zc} (h:VPs l):Sorted l:=⟨by have:=h.len;omega,h.asc,fun p hp=>by have h1:=(ku (h.all p hp).proc).1;have h2:=(h.all p hp).few;omega⟩
def bx (l:List Zc) (id:Int):Zc:=(cZ l id).getD FE
theorem vm {α:Type} (z:α) (o:Option α):(gZ z o).1=o.getD z:=by cases o <;> rfl
theorem sN {l:List Zc} {id:Int} {p:Zc} (h:cZ l id=some p):p∈l∧p.ID=id:=⟨List.mem_of_find?_eq_some h,by have:=List.find?_some h;simpa using this⟩
theorem iW {l:List Zc} (h:VPs l) {id:Int} (hs:(cZ l id).isSome=true):bx l id∈l∧VProd l (bx l id)∧(bx l id).ID=id:=by
 cases hf:cZ l id with
 | none=>rw [hf] at hs;cases hs
 | some p =>
  have:=sN hf
  unfold bx;rw [hf];exact ⟨this.1,h.all p this.1,this.2⟩
abbrev CSet:=Za→Bool
def dn (ps:List Int) (S:CSet) (q:Zc) (v:Int):Zl×Option Za:=match ps.find? (fun id=>S ⟨q.ID,id⟩) with
 | some id=>(⟨q.Code,v,true⟩,some ⟨q.ID,id⟩)
 | none=>(⟨q.Code,v,false⟩,none)
def dj (v part price:Int):Int:=if CB (v*part) price 1≤1000000000000 then CB (v*part) price 1 else 1000000000000
def ra (a:Zb) (q:Zc):Bool:=a.Kind == 3&&lL a.Parties q.Country
def dO (plan:List Zc) (a:Zb) (ps:List Int) (S:CSet) (x:Zh):List (Zl×Option Za) :=
 cond ((dn ps S (bx plan x.Product) x.Value).2.isSome || !ra a (bx plan x.Product)||(bx plan x.Product).Inputs.isEmpty) [dn ps S (bx plan x.Product) x.Value]
  ((bx plan x.Product).Inputs.map fun y=>dn ps S (bx plan y.Product) (dj x.Value y.Value (bx plan x.Product).Price))
def dG (plan:List Zc) (a:Zb) (ps:List Int) (S:CSet) (p:Zc):List (Zl×Option Za):=p.Inputs.flatMap (dO plan a ps S)
def lB (plan:List Zc) (a:Zb) (acc:List ByteArray) (x:Zh):List ByteArray:=cond (ra a (bx plan x.Product)) (nB acc (bx plan x.Product).Processes) acc
def zCase:Zm:=⟨ByteArray.empty,0,false,[],[]⟩
def jk (l:List Zb) (id:Int):Zb:=(jM l id).getD Dq
def jN (plan:List Zc) (l:List Zb) (imp:ByteArray) (c:Za) (S:CSet):Zm :=
 ⟨(bx plan c.Product).Code,(bx plan c.Product).Price,(bx plan c.Product).Obtained,((bx plan c.Product).Inputs.foldl (lB plan (jk l c.Agreement)) (bx plan c.Product).Processes).take 8,
  (dG plan (jk l c.Agreement) (dF l c.Agreement (bx plan c.Product).Country imp) S (bx plan c.Product)).map (·.1)⟩
def nZ (plan:List Zc) (l:List Zb) (imp:ByteArray) (c:Za) (S:CSet):List Za :=
 sd bq ((dG plan (jk l c.Agreement) (dF l c.Agreement (bx plan c.Product).Country imp) S (bx plan c.Product)).filterMap (·.2))
def tu (plan:List Zc) (l:List Zb) (imp:ByteArray) (c:Za) (S:CSet):Zm×List Za:=cond (iV plan l imp c) (jN plan l imp c S,nZ plan l imp c S) (zCase,[])
theorem yn {n c:Int} (hn:0≤n) (hc:1≤c):0≤CB n c 1:=by
 unfold CB
 have:=Int.ediv_nonneg hn (show (0:Int)≤c by omega)
 split <;> omega
theorem qq {v part price:Int} (h1:0≤v) (h2:0≤part) (h3:1≤price):0≤dj v part price∧dj v part price≤1000000000000:=by
 unfold dj
 have:=yn (Int.mul_nonneg h1 h2) h3
 split <;> omega
theorem yo {v part price:Int} (h1:0≤v∧v≤1000000000000) (h2:0≤part∧part≤1000000000000) (h3:1≤price∧price≤1000000000000):fJ v part price=some (dj v part price):=by
 unfold fJ lX
 rw [fA (a:=v) ⟨by omega,by omega⟩,fA (a:=part) ⟨by omega,by omega⟩,fA (a:=price) ⟨by omega,by omega⟩]
 obtain ⟨w,e1,e2,e3⟩:=w0 (a:=v) (b:=part) ⟨by omega,by omega⟩ ⟨by omega,by omega⟩
 rw [e1,bc,Dw e2 ⟨by omega,by omega⟩ h3.1 (.inr (.inl rfl)),e3]
 unfold dj
 have hp:=yn (Int.mul_nonneg h1.1 h2.1) h3.1
 generalize CB (v*part) price 1=r at hp
 by_cases hr:r<18446744073709551616
 ·rw [if_pos hr]
  by_cases hm:r≤1000000000000
  ·rw [if_pos hm]
   simp only [bc,bne_self_eq_false,Bool.false_or]
   rw [bI (by omega),bC,cS (by omega) (by omega)]
  rw [if_neg hm]
  simp only [bc,bne_self_eq_false,Bool.false_or]
  rw [det (by omega)];rfl
 rw [if_neg hr,if_neg (by omega)];rfl
theorem z6 {v part price:Int} (h1:0≤v∧v≤1000000000000) (h2:0≤part∧part≤1000000000000) (h3:1≤price∧price≤1000000000000) {β:Type} (k:Int→Option β):Option.bind (oC (IntKind.u64.wrap v) (IntKind.u64.wrap part) (IntKind.u64.wrap price) 1) (fun x79=>Option.bind (cond ((x79.2 == 0)&&(decide (x79.1<1000000000000))) (some (IntKind.i64.wrap x79.1)) (some 1000000000000)) k)=k (dj v part price):=by
 unfold oC
 rw [fA (a:=v) ⟨by omega,by omega⟩,fA (a:=part) ⟨by omega,by omega⟩,fA (a:=price) ⟨by omega,by omega⟩]
 obtain ⟨w,e1,e2,e3⟩:=Cw (a:=v) (b:=part) ⟨by omega,by omega⟩ ⟨by omega,by omega⟩
 rw [e1,bc,ref_div e2 ⟨by omega,by omega⟩ h3.1 (.inr (.inl rfl)),e3]
 unfold dj
 have hp:=yn (Int.mul_nonneg h1.1 h2.1) h3.1
 generalize CB (v*part) price 1=r at hp
 by_cases hr:r<18446744073709551616
 ·rw [if_pos hr]
  by_cases hm:r<1000000000000
  ·rw [if_pos (by omega)]
   simp only [bc,beq_self_eq_true,Bool.true_and]
   rw [det (by omega),bV,bc,cS (by omega) (by omega)]
  simp only [bc,beq_self_eq_true,Bool.true_and]
  rw [bI (by omega),bC,bc]
  congr 1
  split <;> omega
 rw [if_neg hr,if_neg (by omega)];rfl
def AA:Zl×Option Za→Ze
 | (i,some c)=>.proved_ ⟨i,c⟩
 | (i,none)=>.plain_ ⟨i⟩
theorem w5 {K V:Type} [DecidableEq K] (m:List (K×V)) (k c:K) (v:V):jX (pE m k v) c=if k=c then some v else jX m c:=by
 induction m with
 | nil=>simp only [pE,jX]
 | cons p m ih =>
  obtain ⟨a,w⟩:=p
  simp only [pE]
  by_cases h:a=k
  ·subst h
   simp only [if_true,jX]
   split <;> rfl
  rw [if_neg h]
  simp only [jX,ih]
  by_cases h2:a=c
  ·subst h2;simp [show ¬ k=a from fun e=>h e.symm]
  simp [h2]
theorem FO (set:List Za) (c:Za):(jX (set.foldl (fun m x=>pE m x true) []) c).getD false=aJ set c:=by
 have key:∀ (l:List Za) (m:List (Za×Bool)),(jX (l.foldl (fun m x=>pE m x true) m) c).getD false=(aJ l c||(jX m c).getD false):=by
  intro l
  induction l with
  | nil=>intro m;rfl
  | cons x l ih =>
   intro m
   rw [List.foldl_cons,ih,w5]
   show _=((decide (x=c)||aJ l c)||_)
   by_cases h:x=c
   ·rw [if_pos h,det h];cases aJ l c <;> rfl
   rw [if_neg h,bI h,Bool.false_or]
 rw [key];show (aJ set c||false)=_;rw [Bool.or_false]
theorem w6 (ps:List Int) (m:List (Za×Bool)) (S:CSet) (hm:∀ c,(jX m c).getD false=S c) (hps:ps.length≤140737488355328) (q:Zc) (v:Int):da ⟨ps,m⟩ q v=some (AA (dn ps S q v)):=by
 unfold da dn
 refine (bz (l:=ps) (by omega) (fun _ id=>cond (S ⟨q.ID,id⟩) (some (.inr (Ze.proved_ ⟨⟨q.Code,v,true⟩,⟨q.ID,id⟩⟩))) none) (.inl ()) (fun k hk=>?_) (by simp only [cU,bC])).trans ?_
 ·simp only [gT hk,bV,aB hk,bc,bR hk (show ps.length≤4611686018427387904 by omega),hm]
  cases S ⟨q.ID,ps[k]⟩ <;> rfl
 rw [iz (fun id:Int=>S ⟨q.ID,id⟩) (fun id=>(Sum.inr (Ze.proved_ ⟨⟨q.Code,v,true⟩,⟨q.ID,id⟩⟩):Unit⊕Ze))]
 cases ps.find? (fun id:Int=>S ⟨q.ID,id⟩) <;> rfl
def Bs:Za:=⟨0,0⟩
theorem FP (ps:List Int) (set:List Za) (hps:ps.length≤140737488355328) (hset:set.length≤140737488355328) (q:Zc) (v:Int):ld ps q.ID set=some (gZ Bs (dn ps (aJ set) q v).2)∧(dn ps (aJ set) q v).1=⟨q.Code,v,(dn ps (aJ set) q v).2.isSome⟩:=by
 constructor
 ·unfold ld dn
  refine (bz (l:=ps) (by omega) (fun _ id=>cond (aJ set ⟨q.ID,id⟩) (some (.inr ((⟨q.ID,id⟩:Za),true))) none) (.inl ()) (fun k hk=>?_) (by simp only [cU,bC])).trans ?_
  ·simp only [gT hk,bV,aB hk,bc,bR hk (show ps.length≤4611686018427387904 by omega),ml _ _ hset]
   cases aJ set ⟨q.ID,ps[k]⟩ <;> rfl
  rw [iz (fun id:Int=>aJ set ⟨q.ID,id⟩) (fun id=>(Sum.inr ((⟨q.ID,id⟩:Za),true):Unit⊕(Za×Bool)))]
  cases ps.find? (fun id:Int=>aJ set ⟨q.ID,id⟩) <;> rfl
 unfold dn
 cases ps.find? (fun id:Int=>aJ set ⟨q.ID,id⟩) <;> rfl
theorem qr {plan:List Zc} (hv:VPs plan) (a:Zb) (ps:List Int) (S:CSet) (x:Zh) (hx:(cZ plan x.Product).isSome=true):(dO plan a ps S x).length≤8:=by
 unfold dO
 generalize ((dn ps S (bx plan x.Product) x.Value).2.isSome || !ra a (bx plan x.Product)||(bx plan x.Product).Inputs.isEmpty)=b
 cases b
 ·rw [bC,List.length_map];exact (iW hv hx).2.1.few
 simp
theorem FQ {w:List ByteArray} (h:kn w=true):w.length≤8:=(ku h).1
theorem Bt (a b:List ByteArray):(nB a b).length≤a.length+b.length:=by unfold nB;have:=FH (lt:=iS) (a++b);rwa [List.length_append] at this
theorem w7 {plan:List Zc} (hv:VPs plan) (a:Zb) (acc:List ByteArray) (x:Zh) (hx:(cZ plan x.Product).isSome=true):(lB plan a acc x).length≤acc.length+8:=by
 unfold lB
 cases ra a (bx plan x.Product)
 ·rw [bC];omega
 rw [bV]
 have h1:=Bt acc (bx plan x.Product).Processes
 have h2:=FQ (iW hv hx).2.1.proc
 omega
theorem r8 {plan:List Zc} (hv:VPs plan) (id:Int):cY plan id=some (bx plan id,(cZ plan id).isSome):=by
 rw [vj _ _ hv.sorted];unfold bx;cases cZ plan id <;> rfl
theorem qN {plan:List Zc} (hv:VPs plan) (id:Int):fK plan id=some (bx plan id,(cZ plan id).isSome):=by
 rw [wV _ _ (by have:=hv.len;omega)];unfold bx;cases cZ plan id <;> rfl
theorem yp (t:Zl×Option Za):(AA t).is_proved_=t.2.isSome:=by obtain ⟨i,c⟩:=t;cases c <;> rfl
theorem Dx {plan:List Zc} (hv:VPs plan) (a:Zb) (ha:a.Parties.length≤140737488355328) {p:Zc} (hp:VProd plan p) (ps:List Int) (hps:ps.length≤140737488355328) (m:List (Za×Bool)) (S:CSet) (hm:∀ c,(jX m c).getD false=S c) :
    ff plan a p ⟨ps,m⟩=some ((dG plan a ps S p).map AA,(p.Inputs.foldl (lB plan a) p.Processes).take 8):=by
  unfold ff bZ
  have hpr:=FQ hp.proc
  have hfew:=hp.few
  rw [jA (by omega) (by omega),bc]
  refine (cI (l:=p.Inputs) (by omega) (fun i (s:List Ze×List ByteArray)=>(s.1,s.2,i)) (fun s x=>(s.1++(dO plan a ps S x).map AA,lB plan a s.2 x)) (fun s=>s) (fun k s=>s.1.length≤8*k∧s.2.length≤8+8*k) ([],p.Processes) ⟨by simp,by simpa using hpr⟩ (fun k hk s hs=>?_) (fun s _=>by simp only [cU,bC])).1.trans ?_
  · obtain ⟨l9,l12⟩:=s
    obtain ⟨h1,h2⟩:=hs
    dsimp only at h1 h2 ⊢
    obtain ⟨hin,hv0,hv1⟩:=hp.inp _ (List.getElem_mem hk)
    obtain ⟨hq1,hq2,hq3⟩:=iW hv hin
    have hql:=hq2.few
    refine ⟨?_,by have:=qr hv a ps S p.Inputs[k] hin;simp;omega,by have:=w7 hv a l12 p.Inputs[k] hin;omega⟩
    simp only [gT hk,bV,aB hk,bc,bR hk (show p.Inputs.length≤4611686018427387904 by omega),r8 hv]
    generalize hx:p.Inputs[k]=x at *
    rw [rZ _ _ ha,w6 ps m S hm hps]
    unfold dO lB ra
    have e1:Option.bind (gd (a.Kind == 3) (some (lL a.Parties (bx plan x.Product).Country))) (fun x33=>some ((a.Kind == 3)&&x33))=some ((a.Kind == 3)&&lL a.Parties (bx plan x.Product).Country):=by cases (a.Kind == 3) <;> rfl
    have e2:∀ {β:Type} (K:Bool→Option β),(∀ b c,((a.Kind == 3)&&b)=((a.Kind == 3)&&c)→K b=K c)→Option.bind (gd (a.Kind == 3) (some (lL a.Parties (bx plan x.Product).Country))) K=K (lL a.Parties (bx plan x.Product).Country):=by
      intro β K hK
      cases hk3:(a.Kind == 3)
      · show K default=_;exact hK _ _ (by rw [hk3];rfl)
      rfl
    rw [e2 _ (fun b c hbc=>by simp only [hbc])]
    generalize hF:((a.Kind == 3)&&lL a.Parties (bx plan x.Product).Country)=F
    have e3:(cond F (Option.bind (jI l12 (bx plan x.Product).Processes) (fun x38=>some x38)) (some l12))=some (cond F (nB l12 (bx plan x.Product).Processes) l12):=by
      cases F
      · rfl
      rw [bV,Bm _ _ (by have:=FQ hq2.proc;omega)];rfl
    simp only [e3,bc,yp,len0]
    cases hc:((dn ps S (bx plan x.Product) x.Value).2.isSome || !F||(bx plan x.Product).Inputs.isEmpty)
    · simp only [bC]
      refine (congrArg (fun o=>Option.bind o _) (cI (l:=(bx plan x.Product).Inputs) (by omega) (fun i (s:List Ze)=>(s,i)) (fun s y=>s++[AA (dn ps S (bx plan y.Product) (dj x.Value y.Value (bx plan x.Product).Price))]) (fun s=>s) (fun j s=>s.length≤8*k+j) l9 h1 (fun j hj s hs=>⟨?_,by simp;omega⟩) (fun s _=>by simp only [cU,bC])).1).trans ?_
      rotate_left
      · simp only [bc]
        have hfl:∀ (ys:List Zh) (acc:List Ze),ys.foldl (fun s y=>s++[AA (dn ps S (bx plan y.Product) (dj x.Value y.Value (bx plan x.Product).Price))]) acc=acc++(ys.map fun y=>dn ps S (bx plan y.Product) (dj x.Value y.Value (bx plan x.Product).Price)).map AA:=by
          intro ys
          induction ys with
          | nil=>intro acc;simp
          | cons y ys ih=>intro acc;rw [List.foldl_cons,ih];simp
        rw [hfl]
      obtain ⟨hy1,hy2,hy3⟩:=hq2.inp _ (List.getElem_mem hj)
      simp only [gT hj,bV,aB hj,bc,bR hj (show (bx plan x.Product).Inputs.length≤4611686018427387904 by omega),r8 hv]
      rw [yo ⟨hv0,hv1⟩ ⟨hy2,hy3⟩ hq2.price,bc,w6 ps m S hm hps,bc,cF (by simp;omega) (by simp;omega)];rfl
    simp only [bV]
    rw [cF (by simp;omega) (by simp;omega)];rfl
  dsimp only
  have hfold:∀ (xs:List Zh) (s:List Ze×List ByteArray),xs.foldl (fun s x=>(s.1++(dO plan a ps S x).map AA,lB plan a s.2 x)) s=(s.1++(xs.flatMap (dO plan a ps S)).map AA,xs.foldl (lB plan a) s.2):=by
    intro xs
    induction xs with
    | nil=>intro s;simp
    | cons x xs ih=>intro s;rw [List.foldl_cons,ih,List.flatMap_cons];simp
  rw [hfold]
  dsimp only
  rw [Ce _ _ (by omega),bc];rfl
theorem n4 {p:List Zc} {l:List Zb} {i:ByteArray} {c:Za} (h:iV p l i c=true):∃ q a r,cZ p c.Product=some q∧jM l c.Agreement=some a∧dq a q.Code=some r∧q.Country≠i∧yg a q.Country i=true:=by
 unfold iV at h
 split at h
 ·rename_i q a e1 e2
  simp only [Bool.and_eq_true,Bool.not_eq_true',decide_eq_false_iff_not] at h
  obtain ⟨⟨h1,h2⟩,h3⟩:=h
  obtain ⟨r,hr⟩:=Option.isSome_iff_exists.1 h3
  exact ⟨q,a,r,e1,e2,hr,h1,h2⟩
 cases h
theorem oV {plan:List Zc} (hv:VPs plan) (a:Zb) (ps:List Int) (S:CSet) {p:Zc} (hp:VProd plan p):(dG plan a ps S p).length≤64:=by
 unfold dG
 have key:∀ xs:List Zh,(∀ x∈xs,(cZ plan x.Product).isSome=true)→(xs.flatMap (dO plan a ps S)).length≤8*xs.length:=by
  intro xs
  induction xs with
  | nil=>intro _;simp
  | cons x xs ih =>
   intro h
   rw [List.flatMap_cons,List.length_append,List.length_cons]
   have h1:=qr hv a ps S x (h x (by simp));have h2:=ih fun y hy=>h y (by simp [hy]);omega
 have h1:=key p.Inputs fun x hx=>(hp.inp x hx).1
 have h2:=hp.few
 omega
theorem xa {plan:List Zc} {l:List Zb} (hv:VPs plan) (hl:VAs l) (imp:ByteArray) (c:Za) (set:List Za) (hs:set.length≤140737488355328):fg plan l imp c set=some (tu plan l imp c (aJ set)):=by
 unfold fg tu
 have hlen:=hl.len
 rw [vk _ _ _ _ hv.sorted hl,bc]
 cases had:iV plan l imp c
 ·rfl
 obtain ⟨q,a,r,e1,e2,_,_,_⟩:=n4 had
 have hq:VProd plan (bx plan c.Product):=(iW hv (by rw [e1];rfl)).2.1
 have ha:jk l c.Agreement=a:=by unfold jk;rw [e2];rfl
 have hva:=(mO hl e2).1
 simp only [Bool.not_true,bC,bV]
 rw [r8 hv,bc,rF _ _ (by omega),e2,bc,wg _ _ _ _ hl,bc]
 have hpl:=r4 l c.Agreement (bx plan c.Product).Country imp
 unfold jN nZ
 rw [ha]
 generalize hps:dF l c.Agreement (bx plan c.Product).Country imp=ps at *
 refine (cI (l:=set) (by omega) (fun i (m:List (Za×Bool))=>(i,m)) (fun m x=>pE m x true) (fun m=>m) (fun _ _=>True) [] trivial (fun k hk m _=>⟨?_,trivial⟩) (fun m _=>by simp only [cU,bC])).1.trans ?_
 ·simp only [gT hk,bV,aB hk,bc,bR hk (show set.length≤4611686018427387904 by omega)]
 rw [Dx hv (gZ Dq (some a)).1 hva.ok.par.1 hq ps (by omega) _ (aJ set) (fun c=>FO set c),bc]
 dsimp +instances only [gZ]
 have hsl:=oV hv a ps (aJ set) hq
 refine (cI (l:=(dG plan a ps (aJ set) (bx plan c.Product)).map AA) (by rw [List.length_map];omega) (fun i (s:List Za×List Zl)=>(s.1,i,s.2)) (fun s x=>(cond x.is_proved_ (s.1++[x.as_proved_.premise]) s.1,s.2++[match x with | .plain_ y=>y.use | .proved_ y=>y.use])) (fun s=>s) (fun k s=>s.1.length≤k∧s.2.length≤k) ([],[]) ⟨by simp,by simp⟩ (fun k hk s hs=>⟨?_,?_⟩) (fun s _=>by simp only [cU,bC])).1.trans ?_
 ·have hk2:k<64:=by rw [List.length_map] at hk;omega
  have ei:∀ x:Ze,Icumulation_supply_input x=some (match x with | .plain_ y=>y.use | .proved_ y=>y.use):=fun x=>by cases x <;> rfl
  simp only [gT hk,bV,aB hk,bc,bR hk (show ((dG plan a ps (aJ set) (bx plan c.Product)).map AA).length≤4611686018427387904 by rw [List.length_map];omega),ei]
  rw [cF (by simp;omega) (by simp;omega),bc,cF (by simp;omega) (by simp;omega)]
  cases ((dG plan a ps (aJ set) (bx plan c.Product)).map AA)[k].is_proved_ <;> rfl
 ·obtain ⟨h1,h2⟩:=hs
  cases ((dG plan a ps (aJ set) (bx plan c.Product)).map AA)[k].is_proved_ <;> simp <;> omega
 have key:∀ (xs:List (Zl×Option Za)) (s:List Za×List Zl),(xs.map AA).foldl (fun s x=>(cond x.is_proved_ (s.1++[x.as_proved_.premise]) s.1,s.2++[match x with | .plain_ y=>y.use | .proved_ y=>y.use])) s=(s.1++xs.filterMap (·.2),s.2++xs.map (·.1)):=by
  intro xs
  induction xs with
  | nil=>intro s;simp
  | cons x xs ih =>
   intro s
   obtain ⟨i,o⟩:=x
   rw [List.map_cons,List.foldl_cons,ih]
   cases o with
   | none=>simp [AA,Ze.is_proved_]
   | some c=>simp [AA,Ze.is_proved_,Ze.as_proved_]
 rw [key]
 simp only [List.nil_append]
 show Option.bind (some (lr bq _)) _=_
 rw [bc,FJ _ (by rw [nS];have:=List.length_filterMap_le (fun x:Zl×Option Za=>x.2) (dG plan a ps (aJ set) (bx plan c.Product));omega)];rfl
theorem z7 {plan:List Zc} {l:List Zb} (hv:VPs plan) (hl:VAs l) (imp:ByteArray) (c:Za) (set:List Za) (hs:set.length≤140737488355328):gY plan l imp c set=some (tu plan l imp c (aJ set)):=by
 unfold gY tu
 have hlen:=hl.len
 rw [yh _ _ _ _ (by have:=hv.len;omega) hl,bc]
 cases had:iV plan l imp c
 ·rfl
 obtain ⟨q,a,r,e1,e2,_,_,_⟩:=n4 had
 have hq:VProd plan (bx plan c.Product):=(iW hv (by rw [e1];rfl)).2.1
 have ha:jk l c.Agreement=a:=by unfold jk;rw [e2];rfl
 have hva:=(mO hl e2).1
 simp only [Bool.not_true,bC,bV]
 rw [qN hv,bc,qJ _ _ (by omega),e2,bc,yi _ _ _ _ hl,bc]
 have hpl:=r4 l c.Agreement (bx plan c.Product).Country imp
 unfold jN nZ
 rw [ha]
 simp only [gZ]
 generalize hps:dF l c.Agreement (bx plan c.Product).Country imp=ps at *
 have hpr:=FQ hq.proc
 have hfew:=hq.few
 generalize bx plan c.Product=p at *
 have hps2:ps.length≤140737488355328:=by omega
 refine (cI (l:=p.Inputs) (by omega) (fun i (s:List Za×List ByteArray×List Zl)=>(s.1,s.2.1,i,s.2.2)) (fun s x=>(((dO plan a ps (aJ set) x).filterMap (·.2)).foldl (ii bq) s.1,lB plan a s.2.1 x,s.2.2++(dO plan a ps (aJ set) x).map (·.1))) (fun s=>s) (fun k s=>s.1.length≤8*k∧s.2.1.length≤8+8*k∧s.2.2.length≤8*k) ([],p.Processes,[]) ⟨by simp,by simpa using hpr,by simp⟩ (fun k hk s hs=>?_) (fun s _=>by simp only [cU,bC])).1.trans ?_
 ·obtain ⟨l13,l14,l17⟩:=s
  obtain ⟨h1,h2,h3⟩:=hs
  dsimp only at h1 h2 h3 ⊢
  obtain ⟨hin,hv0,hv1⟩:=hq.inp _ (List.getElem_mem hk)
  obtain ⟨hq1,hq2,hq3⟩:=iW hv hin
  have hql:=hq2.few
  have hsl:=qr hv a ps (aJ set) p.Inputs[k] hin
  have hins:∀ (cs:List Za) (u:List Za),(cs.foldl (ii bq) u).length≤u.length+cs.length:=by
   intro cs
   induction cs with
   | nil=>intro u;simp
   | cons c cs ih=>intro u;rw [List.foldl_cons,List.length_cons];have h1:=ih (ii bq u c);have h2:=kr (lt:=bq) u c;omega
  refine ⟨?_,?_,by have:=w7 hv a l14 p.Inputs[k] hin;omega,by simp;omega⟩
  rotate_left
  ·have g1:=hins ((dO plan a ps (aJ set) p.Inputs[k]).filterMap (·.2)) l13
   have g2:=List.length_filterMap_le (fun x:Zl×Option Za=>x.2) (dO plan a ps (aJ set) p.Inputs[k])
   omega
  simp only [gT hk,bV,aB hk,bc,bR hk (show p.Inputs.length≤4611686018427387904 by omega),qN hv]
  generalize hx:p.Inputs[k]=x at *
  have hset:set.length≤140737488355328:=hs
  have htk:=FP ps set hps2 hset
  rw [qI _ _ hva.ok.par.1,(htk (bx plan x.Product) x.Value).1]
  unfold dO lB ra
  have e2:∀ {β:Type} (K:Bool→Option β),(∀ b c,((a.Kind == 3)&&b)=((a.Kind == 3)&&c)→K b=K c)→Option.bind (gd (a.Kind == 3) (some (lL a.Parties (bx plan x.Product).Country))) K=K (lL a.Parties (bx plan x.Product).Country):=by
   intro β K hK
   cases hk3:(a.Kind == 3)
   ·show K default=_;exact hK _ _ (by rw [hk3];rfl)
   rfl
  rw [e2 _ (fun b c hbc=>by simp only [hbc])]
  generalize hF:((a.Kind == 3)&&lL a.Parties (bx plan x.Product).Country)=F
  have e3:(cond F (Option.bind (mY l14 (bx plan x.Product).Processes) (fun x38=>some x38)) (some l14))=some (cond F (nB l14 (bx plan x.Product).Processes) l14):=by
   cases F
   ·rfl
   rw [bV,Dt _ _ (by have:=FQ hq2.proc;omega)];rfl
  have e4:∀ (o:Option Za) (u:List Za),u.length≤1000000→(cond o.isSome (Option.bind (em u (gZ Bs o).1) (fun x53=>some x53)) (some u))=some (match o with | some c=>ii bq u c | none=>u):=by
   intro o u hu
   cases o with
   | none=>rfl
   | some c=>show Option.bind (em u c) _=_;rw [qM _ _ (by omega)];rfl
  have e5:∀ o:Option Za,(gZ Bs o).2=o.isSome:=fun o=>by cases o <;> rfl
  simp only [e3,bc,e5]
  simp only [e4 _ l13 (show l13.length≤1000000 by omega),bc,len0]
  have t1:=(htk (bx plan x.Product) x.Value).2
  generalize htt:dn ps (aJ set) (bx plan x.Product) x.Value=tt at *
  obtain ⟨ti,to⟩:=tt
  dsimp only at t1 ⊢
  cases hc:(to.isSome || !F||(bx plan x.Product).Inputs.isEmpty)
  ·have hto:to=none:=by cases to with | none=>rfl | some c=>simp at hc
   subst hto
   simp only [bC]
   refine (congrArg (fun o=>Option.bind o _) (cI (l:=(bx plan x.Product).Inputs) (by omega) (fun i (s:List Za×List Zl)=>(s.1,i,s.2)) (fun s y=>((match (dn ps (aJ set) (bx plan y.Product) (dj x.Value y.Value (bx plan x.Product).Price)).2 with | some c=>ii bq s.1 c | none=>s.1),s.2++[(dn ps (aJ set) (bx plan y.Product) (dj x.Value y.Value (bx plan x.Product).Price)).1])) (fun s=>s) (fun j s=>s.1.length≤8*k+j∧s.2.length≤8*k+j) (l13,l17) ⟨h1,h3⟩ (fun j hj s hs=>⟨?_,?_⟩) (fun s _=>by simp only [cU,bC])).1).trans ?_
   ·obtain ⟨hy1,hy2,hy3⟩:=hq2.inp _ (List.getElem_mem hj)
    simp only [gT hj,bV,aB hj,bc,bR hj (show (bx plan x.Product).Inputs.length≤4611686018427387904 by omega)]
    rw [z6 ⟨hv0,hv1⟩ ⟨hy2,hy3⟩ hq2.price,(htk (bx plan ((bx plan x.Product).Inputs[j]).Product) (dj x.Value ((bx plan x.Product).Inputs[j]).Value (bx plan x.Product).Price)).1,bc,e5,e4 _ s.1 (by omega),bc,← (htk (bx plan ((bx plan x.Product).Inputs[j]).Product) (dj x.Value ((bx plan x.Product).Inputs[j]).Value (bx plan x.Product).Price)).2,cF (by simp;omega) (by simp;omega)];rfl
   ·refine ⟨?_,by simp;omega⟩
    dsimp only
    split
    ·rename_i c' _;have:=kr (lt:=bq) s.1 c';omega
    omega
   have hfl:∀ (ys:List Zh) (s:List Za×List Zl),ys.foldl (fun s y=>((match (dn ps (aJ set) (bx plan y.Product) (dj x.Value y.Value (bx plan x.Product).Price)).2 with | some c=>ii bq s.1 c | none=>s.1),s.2++[(dn ps (aJ set) (bx plan y.Product) (dj x.Value y.Value (bx plan x.Product).Price)).1])) s=(((ys.map fun y=>dn ps (aJ set) (bx plan y.Product) (dj x.Value y.Value (bx plan x.Product).Price)).filterMap (·.2)).foldl (ii bq) s.1,s.2++(ys.map fun y=>dn ps (aJ set) (bx plan y.Product) (dj x.Value y.Value (bx plan x.Product).Price)).map (·.1)):=by
    intro ys
    induction ys with
    | nil=>intro s;simp
    | cons y ys ih =>
     intro s
     rw [List.foldl_cons,ih,List.map_cons]
     cases h:(dn ps (aJ set) (bx plan y.Product) (dj x.Value y.Value (bx plan x.Product).Price)).2 with
     | none=>simp [h]
     | some c=>simp [h]
   simp only [bc,hfl]
  simp only [bV]
  rw [cF (by simp;omega) (by simp;omega),← t1]
  cases to <;> rfl
 have hfold:∀ (xs:List Zh) (s:List Za×List ByteArray×List Zl),xs.foldl (fun s x=>(((dO plan a ps (aJ set) x).filterMap (·.2)).foldl (ii bq) s.1,lB plan a s.2.1 x,s.2.2++(dO plan a ps (aJ set) x).map (·.1))) s=(((xs.flatMap (dO plan a ps (aJ set))).filterMap (·.2)).foldl (ii bq) s.1,xs.foldl (lB plan a) s.2.1,s.2.2++(xs.flatMap (dO plan a ps (aJ set))).map (·.1)):=by
  intro xs
  induction xs with
  | nil=>intro s;simp
  | cons x xs ih=>intro s;rw [List.foldl_cons,ih,List.flatMap_cons];simp
 rw [hfold]
 dsimp only
 rw [Ce _ _ (by omega),bc,tp ordC,List.nil_append];rfl
theorem C6_ctry {s:ByteArray} (h:s∈C6):qS s=true:=List.all_eq_true.1 C6_ok.1 s h
theorem W5_words {l:List ByteArray} (h:l.Sublist W5):kn l=true:=by
 unfold kn
 have h1:=h.length_le
 have h5:W5.length=5:=rfl
 simp only [Bool.and_eq_true,decide_eq_true_eq]
 exact ⟨by omega,List.all_eq_true.2 fun s hs=>List.all_eq_true.1 W5_ok.1 s (h.subset hs),(lA _).2 (List.Pairwise.sublist h ((lA _).1 W5_ok.2.1))⟩
theorem MPs.found {l:List Zc} (h:MPs l) {k:Nat} (hk:k<l.length):(cZ l (3*((k:Int)+1))).isSome=true:=by
 unfold cZ
 rw [List.find?_isSome]
 exact ⟨l[k],List.getElem_mem hk,by have:=(h.all k _ (List.getElem?_eq_getElem hk)).id;simpa using this⟩
theorem MPs.vps {l:List Zc} (h:MPs l):VPs l:=by
 refine ⟨by have:=h.len;omega,h.sorted.asc,fun p hp=>?_⟩
 obtain ⟨i,hi,rfl⟩:=List.getElem_of_mem hp
 have hm:=h.all i _ (List.getElem?_eq_getElem hi)
 refine ⟨by have:=hm.price;omega,by have:=hm.lvl.1;omega,C6_ctry hm.ctr,W5_words hm.proc,by have:=hm.few;omega,hm.asc,fun x hx=>?_,hm.obt⟩
 obtain ⟨⟨k,hk,e⟩,h1,h2⟩:=hm.inp x hx
 exact ⟨by rw [e];exact h.found hk,h1,by omega⟩
theorem z8 (ps:List Int) (S:CSet) (q:Zc) (v:Int):(dn ps S q v).1.Code=q.Code∧(dn ps S q v).1.Value=v∧(dn ps S q v).1.Originating=(dn ps S q v).2.isSome:=by
 unfold dn;split <;> exact ⟨rfl,rfl,rfl⟩
theorem Bu {plan:List Zc} (hv:VPs plan) (a:Zb) (ps:List Int) (S:CSet) {p:Zc} (hp:VProd plan p) (P:Zl×Option Za→Prop) (h:∀ q∈plan,∀ v,0≤v→v≤1000000000000→P (dn ps S q v)):∀ t∈dG plan a ps S p,P t:=by
 intro t ht
 unfold dG at ht
 obtain ⟨x,hx,ht⟩:=List.mem_flatMap.1 ht
 obtain ⟨h1,h2,h3⟩:=hp.inp x hx
 obtain ⟨hq1,hq2,_⟩:=iW hv h1
 unfold dO at ht
 cases hc:((dn ps S (bx plan x.Product) x.Value).2.isSome || !ra a (bx plan x.Product)||(bx plan x.Product).Inputs.isEmpty)
 ·rw [hc,bC] at ht
  obtain ⟨y,hy,rfl⟩:=List.mem_map.1 ht
  obtain ⟨g1,g2,g3⟩:=hq2.inp y hy
  have hr:=qq h2 g2 hq2.price.1
  exact h _ (iW hv g1).1 _ hr.1 hr.2
 rw [hc,bV] at ht
 rw [List.mem_singleton.1 ht]
 exact h _ hq1 _ h2 h3
theorem Aa {a b:List ByteArray} (ha:∀ s∈a,gU s=true) (hb:∀ s∈b,gU s=true):(∀ s∈nB a b,gU s=true)∧Strict iS (nB a b):=by
 refine ⟨fun s hs=>?_,sM Bl _⟩
 have:=(FG (lt:=iS) (a++b) s).1 hs
 rcases List.mem_append.1 this with h | h
 ·exact ha s h
 exact hb s h
theorem vn {plan:List Zc} (hv:VPs plan) (a:Zb):∀ (xs:List Zh) (acc:List ByteArray),(∀ x∈xs,(cZ plan x.Product).isSome=true)→(∀ s∈acc,gU s=true)→Strict iS acc→(∀ s∈xs.foldl (lB plan a) acc,gU s=true)∧Strict iS (xs.foldl (lB plan a) acc)
 | [],acc,_,h1,h2=>⟨h1,h2⟩
 | x::xs,acc,h,h1,h2=>by
  have hx:=iW hv (h x (by simp))
  rw [List.foldl_cons]
  have:(∀ s∈lB plan a acc x,gU s=true)∧Strict iS (lB plan a acc x):=by
   unfold lB
   cases ra a (bx plan x.Product)
   ·exact ⟨h1,h2⟩
   exact Aa h1 (ku hx.2.1.proc).2.1
  exact vn hv a xs _ (fun y hy=>h y (by simp [hy])) this.1 this.2
theorem vo {s:ByteArray} (h:gU s=true):s.size≤12:=by
 unfold gU at h;simp only [Bool.and_eq_true,decide_eq_true_eq] at h;omega
theorem Bv {l:List ByteArray} (h1:∀ s∈l,gU s=true) (h2:Strict iS l):kn (l.take 8)=true∧StrsOk (l.take 8):=by
 refine ⟨?_,by rw [List.length_take];omega,fun s hs=>by have:=vo (h1 s (List.mem_of_mem_take hs));omega⟩
 unfold kn
 simp only [Bool.and_eq_true,decide_eq_true_eq]
 exact ⟨by rw [List.length_take];omega,List.all_eq_true.2 fun s hs=>h1 s (List.mem_of_mem_take hs),(lA _).2 (List.Pairwise.sublist (List.take_sublist _ _) h2)⟩
structure VCase (x:Zm):Prop where
 lvl:6≤dU x.Code
 price:1≤x.Price∧x.Price≤1000000000000
 proc:kn x.Processes=true∧StrsOk x.Processes
 few:x.Inputs.length≤100
 inp:∀ y∈x.Inputs,6≤dU y.Code∧0≤y.Value∧y.Value≤1000000000000
theorem oW {plan:List Zc} {l:List Zb} (hv:VPs plan) (imp:ByteArray) (c:Za) (S:CSet) (h:(cZ plan c.Product).isSome=true):VCase (jN plan l imp c S):=by
 obtain ⟨hq1,hq,_⟩:=iW hv h
 obtain ⟨w1,w2,w3⟩:=ku hq.proc
 have hw:=vn hv (jk l c.Agreement) (bx plan c.Product).Inputs _ (fun x hx=>(hq.inp x hx).1) w2 w3
 refine ⟨hq.lvl,hq.price,Bv hw.1 hw.2,?_,?_⟩
 ·unfold jN;dsimp only;rw [List.length_map];have:=oV hv (jk l c.Agreement) (dF l c.Agreement (bx plan c.Product).Country imp) S hq;omega
 unfold jN;dsimp only
 intro y hy
 obtain ⟨t,ht,rfl⟩:=List.mem_map.1 hy
 refine Bu hv _ _ S hq (fun t=>6≤dU t.1.Code∧0≤t.1.Value∧t.1.Value≤1000000000000) (fun q hqp v h1 h2=>?_) t ht
 obtain ⟨g1,g2,_⟩:=z8 (dF l c.Agreement (bx plan c.Product).Country imp) S q v
 rw [g1,g2];exact ⟨(hv.all q hqp).lvl,h1,h2⟩
theorem qt {x:Zm} (h:VCase x):gx x=some 0:=by
 unfold gx iJ
 have hl:=h.few
 show Option.bind (some (decide (6≤dU x.Code))) _=_
 rw [det h.lvl,bc]
 simp only [Bool.not_true,bC]
 rw [bI (by have:=h.price;omega),bI (by have:=h.price;omega),Bool.or_self,bC,rE _ h.proc.2,h.proc.1,bc]
 simp only [Bool.not_true,bC]
 rw [bI (by omega),bC]
 refine (bz (l:=x.Inputs) (by omega) (fun _ _=>none) (.inl ()) (fun k hk=>?_) (by simp only [cU,bC])).trans ?_
 ·have hy:=h.inp _ (List.getElem_mem hk)
  simp only [gT hk,bV,aB hk,bc,bR hk (show x.Inputs.length≤4611686018427387904 by omega)]
  show Option.bind (Option.bind (some (dU x.Inputs[k].Code)) _) _=_
  rw [bc,det hy.1,bc,bI (by omega),bI (by omega)];rfl
 have:∀ (m:List Zl) (i:Nat),cu (fun (_:Nat) (_:Zl)=>(none:Option (Unit⊕Int))) m i=none:=by
  intro m
  induction m with
  | nil=>intro i;rfl
  | cons x m ih=>intro i;exact ih _
 rw [this];rfl
theorem Ab {plan:List Zc} {l:List Zb} (hv:VPs plan) (imp:ByteArray) (c:Za) (S:CSet) (h:(cZ plan c.Product).isSome=true):(nZ plan l imp c S).length≤64:=by
 obtain ⟨hq1,hq,_⟩:=iW hv h
 unfold nZ
 have h1:=FH (lt:=bq) ((dG plan (jk l c.Agreement) (dF l c.Agreement (bx plan c.Product).Country imp) S (bx plan c.Product)).filterMap (·.2))
 have h2:=List.length_filterMap_le (fun x:Zl×Option Za=>x.2) (dG plan (jk l c.Agreement) (dF l c.Agreement (bx plan c.Product).Country imp) S (bx plan c.Product))
 have h3:=oV hv (jk l c.Agreement) (dF l c.Agreement (bx plan c.Product).Country imp) S hq
 omega
theorem n5 {p:List Zc} {l:List Zb} {i:ByteArray} {c:Za} (h:iV p l i c=true):(cZ p c.Product).isSome=true:=by
 obtain ⟨q,a,r,e,_⟩:=n4 h;rw [e];rfl
def xw (n:Int):Zo:=⟨n / 18446744073709551616,n % 18446744073709551616⟩
def U128 (n:Int):Prop:=0≤n∧n<340282366920938463463374607431768211456
theorem xw_of {w:Zo} (h:XW w):w=xw (xv w)∧U128 (xv w):=by
 obtain ⟨a,b⟩:=w
 unfold XW U64 at h;unfold xw xv U128;dsimp only at *
 refine ⟨?_,by omega⟩
 congr 1 <;> omega
theorem xmul {a b:Int} (ha:U64 a) (hb:U64 b):jD a b=some (xw (a*b))∧U128 (a*b):=by
 obtain ⟨w,e1,e2,e3⟩:=w0 ha hb
 have:=xw_of e2
 rw [e3] at this
 rw [e1];exact ⟨congrArg some this.1,this.2⟩
theorem xcmp {a b:Int} (ha:U128 a) (hb:U128 b):gw (xw a) (xw b)=some (if a<b then -1 else if a=b then 0 else 1):=by
 unfold U128 at *
 unfold gw xw Zo.eqb
 dsimp only
 by_cases h:a<b
 ·have:((decide (a / 18446744073709551616<b / 18446744073709551616))||((a / 18446744073709551616 == b / 18446744073709551616)&&(decide (a % 18446744073709551616<b % 18446744073709551616))))=true:=by
   simp only [Bool.or_eq_true,Bool.and_eq_true,decide_eq_true_eq,beq_iff_eq];omega
  rw [this,if_pos h];rfl
 ·have:((decide (a / 18446744073709551616<b / 18446744073709551616))||((a / 18446744073709551616 == b / 18446744073709551616)&&(decide (a % 18446744073709551616<b % 18446744073709551616))))=false:=by
   simp only [Bool.or_eq_false_iff,Bool.and_eq_false_iff,decide_eq_false_iff_not,beq_eq_false_iff_ne];omega
  rw [this,if_neg h]
  simp only [bC]
  by_cases h2:a=b
  ·subst h2;simp
  rw [if_neg h2]
  have:((a / 18446744073709551616 == b / 18446744073709551616)&&(a % 18446744073709551616 == b % 18446744073709551616))=false:=by
   simp only [Bool.and_eq_false_iff,beq_eq_false_iff_ne];omega
  simp [this]
theorem tv {v s p:Int} (hv:0≤v∧v≤100000000000000) (hs:0≤s∧s≤1000000) (hp:0≤p∧p≤1000000000000):jG v s p=some (decide (v*1000000≤s*p)):=by
 unfold jG
 rw [fA (a:=v) ⟨by omega,by omega⟩,fA (a:=s) ⟨by omega,by omega⟩,fA (a:=p) ⟨by omega,by omega⟩]
 obtain ⟨e1,u1⟩:=xmul (a:=v) (b:=1000000) ⟨by omega,by omega⟩ ⟨by omega,by omega⟩
 obtain ⟨e2,u2⟩:=xmul (a:=s) (b:=p) ⟨by omega,by omega⟩ ⟨by omega,by omega⟩
 rw [e1,bc,e2,bc,xcmp u1 u2,bc]
 congr 1
 by_cases h:v*1000000<s*p
 ·rw [if_pos h,det (by omega),det (by omega)]
 rw [if_neg h]
 by_cases h2:v*1000000=s*p
 ·rw [if_pos h2,det (by omega),det (by omega)]
 rw [if_neg h2,bI (by omega),bI (by omega)]
def o5 (r:Zf) (code inp:ByteArray):Bool:=ig inp (code.extract 0 r.Digits.toNat)||r.Except.any fun x=>ig inp x
theorem FS (l:List ByteArray) (s:ByteArray) (hl:l.length≤140737488355328):cx l (fun y=>gf y s)=some (l.any fun x=>ig s x):=by
 unfold cx
 have e:cN l (fun y=>gf y s)=some (match cu (fun k x=>cond (ig s x) (some (Sum.inr (k:Int):Unit⊕Int)) none) l 0 with | some (.inr k)=>k | _ => -1):=by
  unfold cN
  refine (bz (l:=l) (by omega) (fun k x=>cond (ig s x) (some (.inr (k:Int))) none) (.inl ()) (fun k hk=>?_) (by simp only [cU,bC])).trans ?_
  ·simp only [gT hk,bV,aB hk,bc,bR hk (show l.length≤4611686018427387904 by omega)]
   unfold gf
   rw [sL,bc,bc];cases ig s l[k] <;> rfl
  cases cu (fun k x=>cond (ig s x) (some (Sum.inr (k:Int):Unit⊕Int)) none) l 0 with
  | none=>rfl
  | some t=>cases t <;> rfl
 rw [e,bc]
 rcases nX (fun x=>ig s x) (fun k=>(Sum.inr (k:Int):Unit⊕Int)) l 0 with ⟨h1,h2⟩ | ⟨j,hj,h1,h2⟩
 ·rw [h1]
  have:(l.any fun x=>ig s x)=false:=by rw [List.any_eq_false];exact fun x hx=>by have:=List.find?_eq_none.1 h2 x hx;simpa using this
  rw [this];rfl
 rw [h1]
 have:(l.any fun x=>ig s x)=true:=by
  rw [List.any_eq_true];exact ⟨_,List.getElem_mem hj,List.find?_some h2⟩
 rw [this]
 show some (decide (0≤((0+j:Nat):Int)))=_
 rw [det (by omega)]
theorem rG {s:ByteArray} (h:6≤dU s):6≤s.size:=by
 unfold dU at h
 split at h
 ·omega
 omega
theorem wh {r:Zf} {code:ByteArray} (hd:r.Digits=2∨r.Digits=4∨r.Digits=6) (he:r.Except.length≤6) (hc:6≤dU code) (inp:ByteArray):il r code inp=some (o5 r code inp):=by
 unfold il o5
 have hs:=rG hc
 have e:jW code 0 r.Digits=some (code.extract 0 r.Digits.toNat):=by
  unfold jW;rw [if_pos (by omega)];rfl
 rw [e,bc,sL,bc]
 cases ig inp (code.extract 0 r.Digits.toNat)
 ·simp only [bC,Bool.false_or];rw [FS _ _ (by omega),bc]
 rfl
def wS (f:Zl→Int):List Zl→Int
 | []=>0
 | i::l=>cond i.Originating 0 (f i)+wS f l
def fV (i:Zl):Int:=i.Value
def fW (r:Zf) (code:ByteArray) (i:Zl):Int:=cond (o5 r code i.Code) i.Value 0
def fN (_:Zl):Int:=1
def i5 (r:Zf) (x:Zm):Bool :=
 cond (r.Kind == 1) (x.Obtained&&(wS fN x.Inputs == 0)) (cond (r.Kind == 2) (decide (wS (fW r x.Code) x.Inputs*1000000≤r.Tolerance*x.Price)) (cond (r.Kind == 3) (decide (wS fV x.Inputs*1000000≤r.Limit*x.Price)) (cond (r.Kind == 4) (lL x.Processes r.Name) false)))
theorem Bw (f:Zl→Int):∀ l m:List Zl,wS f (l++m)=wS f l+wS f m
 | [],m=>by simp [wS]
 | i::l,m=>by rw [List.cons_append,wS,wS,Bw f l m];omega
theorem qu {f:Zl→Int} {b:Int} (hb:0≤b):∀ {l:List Zl},(∀ i∈l,0≤f i∧f i≤b)→0≤wS f l∧wS f l≤l.length*b
 | [],_=>by simp [wS]
 | i::l,h=>by
  have h1:=qu hb (l:=l) fun j hj=>h j (by simp [hj])
  have h2:=h i (by simp)
  rw [wS,List.length_cons]
  have e:((l.length+1:Nat):Int)*b=l.length*b+b:=by rw [Int.natCast_add,Int.add_mul];simp
  rw [e]
  cases i.Originating
  ·simp only [bC];omega
  simp only [bV];omega
theorem prog_holds {r:Zf} {x:Zm} (hx:VCase x) (hr:dx r=true):rule_holds r x=some (i5 r x):=by
 unfold rule_holds
 have hfew:=hx.few
 have hrl:=jL hr
 have hvi:r.Kind=2→∀ i,il r x.Code i=some (o5 r x.Code i):=by
  intro hk i
  have hl:=hr
  rw [gQ,hk] at hl
  simp only [jK,hk,Bool.and_eq_true] at hl
  have h3:=hl.2
  simp at h3
  exact wh (by omega) hrl.2.2 hx.lvl i
 refine (cI (l:=x.Inputs) (by omega) (fun i (s:Int×Int×Int)=>(s.1,s.2.1,s.2.2,i)) (fun s i=>(s.1+cond i.Originating 0 (fV i),s.2.1+cond i.Originating 0 (cond (r.Kind == 2) (fW r x.Code i) 0),s.2.2+cond i.Originating 0 (fN i))) (fun s=>s) (fun k s=>(0≤s.1∧s.1≤k*1000000000000)∧(0≤s.2.1∧s.2.1≤k*1000000000000)∧(0≤s.2.2∧s.2.2≤k)) (0,0,0) ⟨by simp,by simp,by simp⟩ (fun k hk s hs=>?_) (fun s _=>by simp only [cU,bC])).1.trans ?_
 ·obtain ⟨a,b,c⟩:=s
  obtain ⟨s1,s2,s3⟩:=hs
  dsimp only at s1 s2 s3 ⊢
  have hi:=hx.inp _ (List.getElem_mem hk)
  have hk100:k<100:=by omega
  simp only [gT hk,bV,aB hk,bc,bR hk (show x.Inputs.length≤4611686018427387904 by omega)]
  generalize x.Inputs[k]=i at hi
  unfold fV fN fW
  cases i.Originating
  ·simp only [bC]
   cases hk2:(r.Kind == 2)
   ·simp only [jb,bc,Bool.false_and,bC]
    rw [cS (r:=a+i.Value) (by omega) (by omega),cS (r:=c+1) (by omega) (by omega)]
    refine ⟨by simp,⟨by omega,by omega⟩,⟨by omega,by omega⟩,by omega,by omega⟩
   rw [cr,hvi (eq_of_beq hk2),bc]
   cases o5 r x.Code i.Code
   ·simp only [Bool.and_false,bC,bc,bV]
    rw [cS (r:=a+i.Value) (by omega) (by omega),cS (r:=c+1) (by omega) (by omega)]
    refine ⟨by simp,⟨by omega,by omega⟩,⟨by omega,by omega⟩,by omega,by omega⟩
   simp only [Bool.and_self,bV,bc]
   rw [cS (r:=a+i.Value) (by omega) (by omega),cS (r:=c+1) (by omega) (by omega),cS (r:=b+i.Value) (by omega) (by omega)]
   refine ⟨rfl,⟨by omega,by omega⟩,⟨by omega,by omega⟩,by omega,by omega⟩
  simp only [bV,bc,Int.add_zero]
  refine ⟨trivial,⟨by omega,by omega⟩,⟨by omega,by omega⟩,by omega,by omega⟩
 have key:∀ (l:List Zl) (a b c:Int),l.foldl (fun (s:Int×Int×Int) i=>(s.1+cond i.Originating 0 (fV i),s.2.1+cond i.Originating 0 (cond (r.Kind == 2) (fW r x.Code i) 0),s.2.2+cond i.Originating 0 (fN i))) (a,b,c)=(a+wS fV l,b+wS (fun i=>cond (r.Kind == 2) (fW r x.Code i) 0) l,c+wS fN l):=by
  intro l
  induction l with
  | nil=>intro a b c;simp [wS]
  | cons i l ih=>intro a b c;rw [List.foldl_cons,ih];simp only [wS,Int.add_assoc]
 rw [key]
 dsimp only
 have hv:0≤wS fV x.Inputs∧wS fV x.Inputs≤100000000000000:=by
  have:=qu (f:=fV) (b:=1000000000000) (by omega) (l:=x.Inputs) fun i hi=>(hx.inp i hi).2
  omega
 have hw:0≤wS (fW r x.Code) x.Inputs∧wS (fW r x.Code) x.Inputs≤100000000000000:=by
  have:=qu (f:=fW r x.Code) (b:=1000000000000) (by omega) (l:=x.Inputs) fun i hi=>by
   have:=(hx.inp i hi).2
   unfold fW;cases o5 r x.Code i.Code
   ·simp only [bC];omega
   exact this
  omega
 have hp:=hx.price
 unfold i5
 have hl:=hr
 rw [gQ] at hl
 unfold jK Fj at hl
 simp only [Int.zero_add]
 cases h1:(r.Kind == 1)
 ·cases h2:(r.Kind == 2)
  ·cases h3:(r.Kind == 3)
   ·simp only [bC]
    cases h4:(r.Kind == 4)
    ·rfl
    simp only [bV];rw [rZ _ _ hx.proc.2.1];rfl
   have hk:=eq_of_beq h3
   rw [hk] at hl
   simp at hl
   simp only [bC,bV]
   rw [tv hv hl.2 (by omega)];rfl
  have hk:=eq_of_beq h2
  rw [hk] at hl
  simp at hl
  simp only [bC,bV]
  rw [tv hw (by omega) (by omega)];rfl
 simp only [bV]
mutual
def tt:Zf→Zg
 | ⟨k,d,e,t,m,n,l⟩=>cond (k == 5) (.every_ (tts l)) (cond (k == 6) (.some_ (tts l)) (.single_ ⟨⟨k,d,e,t,m,n,l⟩⟩))
def tts:List Zf→List Zg
 | []=>[]
 | a::l=>tt a::tts l
end
theorem CC:∀ l:List Zf,tts l=l.map tt
 | []=>by rw [tts];rfl
 | a::l=>by rw [tts,CC l];rfl
theorem FT (r:Zf):tt r=cond (r.Kind == 5) (.every_ (r.Args.map tt)) (cond (r.Kind == 6) (.some_ (r.Args.map tt)) (.single_ ⟨r⟩)):=by
 cases r;rw [tt,CC]
theorem r9:∀ {l:List Zf} {a:Zf},a∈l→pm a≤nA l
 | b::l,a,h=>by
  rw [nA]
  rcases List.mem_cons.1 h with rfl | h
  ·omega
  have:=r9 h;omega
theorem Ac (n:Nat):∀ r:Zf,dx r=true→sK r≤n→ik n r=some (tt r):=by
 induction n with
 | zero=>intro r _ hd;rw [ko] at hd;omega
 | succ n ih =>
  intro r hr hd
  obtain ⟨hl,ha,_⟩:=jL hr
  show jh (ik n) r=_
  unfold jh
  refine (cI (l:=r.Args) (by omega) (fun i (s:List Zg)=>(s,i)) (fun s x=>s++[tt x]) (fun s=>s) (fun k s=>s.length=k) [] rfl (fun k hk s hs=>?_) (fun s _=>by simp only [cU,bC])).1.trans ?_
  ·simp only [gT hk,bV,aB hk,bc,bR hk (show r.Args.length≤4611686018427387904 by omega)]
   rw [ih _ (ha _ (List.getElem_mem hk)) (by have:=ip (List.getElem_mem hk);omega),bc,cF (by simp;omega) (by simp;omega)]
   exact ⟨rfl,by simp [hs]⟩
  have key:∀ (l:List Zf) (a:List Zg),l.foldl (fun s x=>s++[tt x]) a=a++l.map tt:=by
   intro l
   induction l with
   | nil=>intro a;simp
   | cons x l ih=>intro a;rw [List.foldl_cons,ih];simp
  rw [key,List.nil_append,FT]
  cases (r.Kind == 5) <;> cases (r.Kind == 6) <;> rfl
section
variable (x:Zm)
mutual
def jl:Zf→Option (List Int)
 | ⟨k,d,e,t,m,n,l⟩=>cond (k == 5) (jm l) (cond (k == 6) (kX 0 l) (cond (i5 ⟨k,d,e,t,m,n,l⟩ x) (some []) none))
def jm:List Zf→Option (List Int)
 | []=>some []
 | a::l=>(jl a).bind fun p=>(jm l).bind fun q=>some (p++q)
def kX (i:Nat):List Zf→Option (List Int)
 | []=>none
 | a::l=>match jl a with
  | some p=>some ((i:Int)::p)
  | none=>kX (i+1) l
end
end
theorem yq (x:Zm) (r:Zf):jl x r=cond (r.Kind == 5) (jm x r.Args) (cond (r.Kind == 6) (kX x 0 r.Args) (cond (i5 r x) (some []) none)):=by
 cases r;rw [jl]
mutual
theorem sa (x:Zm):∀ (r:Zf) (p:List Int),jl x r=some p→p.length≤pm r
 | ⟨k,d,e,t,m,n,l⟩,p,h=>by
  rw [jl] at h
  rw [pm]
  cases h5:(k == 5)
  ·rw [h5] at h
   simp only [bC] at h
   cases h6:(k == 6)
   ·rw [h6] at h
    simp only [bC] at h
    cases hh:i5 ⟨k,d,e,t,m,n,l⟩ x
    ·rw [hh] at h;cases h
    rw [hh] at h;injection h with h;subst h;simp
   rw [h6] at h
   exact Ad x l 0 p h
  rw [h5] at h
  have:=Ae x l p h;omega
theorem Ae (x:Zm):∀ (l:List Zf) (p:List Int),jm x l=some p→p.length≤nA l
 | [],p,h=>by rw [jm] at h;injection h with h;subst h;simp
 | a::l,p,h=>by
  rw [jm] at h
  rw [nA]
  cases ha:jl x a with
  | none=>rw [ha] at h;cases h
  | some q =>
   rw [ha,bc] at h
   cases hl:jm x l with
   | none=>rw [hl] at h;cases h
   | some s =>
    rw [hl,bc] at h
    injection h with h
    subst h
    have h1:=sa x a q ha
    have h2:=Ae x l s hl
    rw [List.length_append];omega
theorem Ad (x:Zm):∀ (l:List Zf) (i:Nat) (p:List Int),kX x i l=some p→p.length≤1+nA l
 | [],i,p,h=>by rw [kX] at h;cases h
 | a::l,i,p,h=>by
  rw [kX] at h
  rw [nA]
  cases ha:jl x a with
  | none =>
   rw [ha] at h
   have:=Ad x l (i+1) p h;omega
  | some q =>
   rw [ha] at h
   injection h with h
   subst h
   have h1:=sa x a q ha
   rw [List.length_cons];omega
end
theorem concatI (a b:List Int) (h:a.length+b.length≤1000000):dE [a,b]=some (a++b):=by
 unfold dE gH
 refine (jZ (l:=[a,b]) (by simp) (fun i (s:Nat)=>((s:Int),i)) (fun _ x s=>(.inl (s+x.length):Nat⊕Empty)) (fun (s:Nat)=>(s:Int)) noE (fun k s=>s≤1000000∧s=([a,b].take k).flatten.length) 0 ⟨by omega,rfl⟩ (fun k hk s hs=>⟨?_,fun s' h'=>?_⟩) (fun s _=>by simp only [cU,bC])).trans ?_
 ·have hb:s+([a,b][k]).length≤1000000:=by
   obtain ⟨_,e⟩:=hs
   match k,hk with
   | 0,_=>simp at e;subst e;simp;omega
   | 1,_=>simp at e;subst e;simp;omega
  simp only [gT hk,bV,aB hk,bc,bR hk (show [a,b].length≤4611686018427387904 by simp),zB]
  rw [cS (by omega) (by omega),bI (by omega)]
  simp only [bC,Int.natCast_add]
 ·injection h' with h'
  obtain ⟨h1,h2⟩:=hs
  subst h'
  match k,hk with
  | 0,_=>simp at h2 ⊢;subst h2;simp;omega
  | 1,_=>simp at h2 ⊢;subst h2;omega
 show Option.bind (Option.bind (De 8 ((0+a.length+b.length:Nat):Int)) _) _=_
 rw [A7 (by omega) (by omega),bc,bc]
 refine (cI (l:=[a,b]) (by simp) (fun i (s:List Int)=>(s,i)) (fun s x=>s++x) (fun s=>s) (fun k s=>s=([a,b].take k).flatten) [] rfl (fun k hk s hs=>⟨?_,?_⟩) (fun s _=>by simp only [cU,bC])).1.trans ?_
 ·have hb:s.length+([a,b][k]).length≤1000000:=by
   match k,hk with
   | 0,_=>simp at hs;subst hs;simp;omega
   | 1,_=>simp at hs;subst hs;simp;omega
  simp only [gT hk,bV,aB hk,bc,bR hk (show [a,b].length≤4611686018427387904 by simp)]
  rw [cF (by omega) (by omega)];rfl
 ·match k,hk with
  | 0,_=>simp at hs;subst hs;simp
  | 1,_=>simp at hs;subst hs;simp
 simp
theorem Dy (x:Zm) (hx:VCase x) (n:Nat):∀ r:Zf,dx r=true→pm r≤1000→sK r≤n→Irule_test_witness_F n (tt r) x=some (gZ [] (jl x r)):=by
 induction n with
 | zero=>intro r _ _ hd;rw [ko] at hd;omega
 | succ n ih =>
  intro r hr hc hd
  obtain ⟨hl,ha,_⟩:=jL hr
  have hargs:∀ k (hk:k<r.Args.length),Irule_test_witness_F n (tt r.Args[k]) x=some (gZ [] (jl x r.Args[k])):=fun k hk=>ih _ (ha _ (List.getElem_mem hk)) (by have:=qe r;have:=r9 (List.getElem_mem hk);omega) (by have:=ip (List.getElem_mem hk);omega)
  have hcl:∀ k (hk:k<r.Args.length) p,jl x r.Args[k]=some p→p.length≤1000:=fun k hk p h=>by have h1:=sa x _ p h;have:=qe r;have:=r9 (List.getElem_mem hk);omega
  show Irule_test_witness_B (Irule_test_witness_F n) (tt r) x=_
  rw [FT,yq]
  have hml:(r.Args.map tt).length=r.Args.length:=List.length_map _
  have hmi:∀ k (hk:k<(r.Args.map tt).length),(r.Args.map tt)[k]=tt (r.Args[k]'(by omega)):=fun k hk=>by rw [List.getElem_map]
  cases h5:(r.Kind == 5)
  ·cases h6:(r.Kind == 6)
   ·show fu ⟨r⟩ x=_
    unfold fu
    rw [prog_holds hx hr,bc]
    simp only [bC]
    cases i5 r x <;> rfl
   show ft (Irule_test_witness_F n) (r.Args.map tt) x=_
   unfold ft
   refine (bz (l:=r.Args.map tt) (by omega) (fun k t=>match Irule_test_witness_F n t x with | some (p,true)=>some (.inr ((k:Int)::p,true)) | _=>none) (.inl ()) (fun k hk=>?_) (by simp only [cU,bC])).trans ?_
   ·simp only [gT hk,bV,aB hk,bc,bR hk (show (r.Args.map tt).length≤4611686018427387904 by omega),hmi k hk]
    rw [hargs k (by omega)]
    have:=hcl k (by omega)
    cases hw:jl x (r.Args[k]'(by omega)) with
    | none=>rfl
    | some p =>
     have:=this p hw
     show Option.bind (dE [[(k:Int)],p]) _=_
     rw [concatI _ _ (by simp;omega)];rfl
   have key:∀ (m:List Zf) (i:Nat),(∀ j (hj:j<m.length),Irule_test_witness_F n (tt m[j]) x=some (gZ [] (jl x m[j])))→cu (fun k t=>match Irule_test_witness_F n t x with | some (p,true)=>some (Sum.inr ((k:Int)::p,true):Unit⊕(List Int×Bool)) | _=>none) (m.map tt) i=(kX x i m).map fun p=>Sum.inr (p,true):=by
    intro m
    induction m with
    | nil=>intro i _;rw [kX];rfl
    | cons a m ih =>
     intro i h
     have h0:=h 0 (by simp)
     have h1:=ih (i+1) fun j hj=>h (j+1) (by simpa using hj)
     rw [List.map_cons,cu,kX,h1]
     change Irule_test_witness_F n (tt a) x=some (gZ [] (jl x a)) at h0
     rw [h0]
     cases jl x a <;> rfl
   rw [key _ 0 hargs]
   simp only [bC,bV]
   cases kX x 0 r.Args <;> rfl
  show e7 (Irule_test_witness_F n) (r.Args.map tt) x=_
  unfold e7
  simp only [bV]
  refine (jZ (l:=r.Args.map tt) (by omega) (fun i (s:List Int)=>(s,i)) (fun _ t s=>match Irule_test_witness_F n t x with | some (p,true)=>(.inl (s++p):List Int⊕Unit) | _=>.inr ()) (fun s=>.inl s) (fun _=>.inr ([],false)) (fun k s=>s.length≤k*1000) [] (by simp) (fun k hk s hs=>⟨?_,fun s' h'=>?_⟩) (fun s _=>by simp only [cU,bC])).trans ?_
  ·simp only [gT hk,bV,aB hk,bc,bR hk (show (r.Args.map tt).length≤4611686018427387904 by omega),hmi k hk]
   rw [hargs k (by omega)]
   have:=hcl k (by omega)
   cases hw:jl x (r.Args[k]'(by omega)) with
   | none=>rfl
   | some p =>
    have:=this p hw
    show Option.bind (app 8 s p) _=_
    rw [cF (by omega) (by omega)];rfl
  ·have h0:=hargs k (by omega)
   have:=hcl k (by omega)
   rw [hmi k hk,h0] at h'
   cases hw:jl x (r.Args[k]'(by omega)) with
   | none=>rw [hw] at h';cases h'
   | some p =>
    have:=this p hw
    rw [hw] at h'
    injection h' with h'
    subst h'
    rw [List.length_append];omega
  have key:∀ (m:List Zf) (i:Nat) (s:List Int),(∀ j (hj:j<m.length),Irule_test_witness_F n (tt m[j]) x=some (gZ [] (jl x m[j])))→run (fun _ t s=>match Irule_test_witness_F n t x with | some (p,true)=>(.inl (s++p):List Int⊕Unit) | _=>.inr ()) (m.map tt) i s=match jm x m with | some p=>.inl (s++p) | none=>.inr ():=by
   intro m
   induction m with
   | nil=>intro i s _;rw [jm];simp [run]
   | cons a m ih =>
    intro i s h
    have h0:=h 0 (by simp)
    have h1:=fun s=>ih (i+1) s fun j hj=>h (j+1) (by simpa using hj)
    rw [List.map_cons,jc,jm]
    change Irule_test_witness_F n (tt a) x=some (gZ [] (jl x a)) at h0
    rw [h0]
    cases jl x a with
    | none=>rfl
    | some p =>
     show run _ (m.map tt) (i+1) (s++p)=_
     rw [h1,bc]
     cases jm x m with
     | none=>rfl
     | some q=>show Sum.inl (s++p++q)=Sum.inl (s++(p++q));rw [List.append_assoc]
  rw [key _ 0 [] hargs]
  cases jm x r.Args <;> rfl
theorem yr {r:Zf} {x:Zm} (hx:VCase x) (ok:ROk r) (hr:dx r=true) (hc:pm r≤32):kl r x=some (gZ [] (jl x r)):=by
 have hd:=oL r
 have hf:FUEL=1267650600228229401496703205376:=rfl
 unfold kl gg
 rw [nU r ok (by omega),(kW r).2 ⟨hc,hr⟩,bc,show ((0:Int) == 0)=true from rfl,cr,qt hx,bc,bc]
 show Option.bind (ik FUEL r) _=_
 rw [Ac FUEL r hr (by omega),bc]
 show Option.bind (Irule_test_witness_F FUEL (tt r) x) _=_
 rw [Dy x hx FUEL r hr (by omega) (by omega)];rfl
mutual
theorem vp {x y:Zm} (h:∀ r,dx r=true→i5 r x=true→i5 r y=true):∀ r:Zf,dx r=true→(jl x r).isSome=true→(jl y r).isSome=true
 | ⟨k,d,e,t,m,n,l⟩,hr,hw=>by
  have hl:=hr
  rw [dx] at hl
  rw [jl] at hw ⊢
  cases h5:(k == 5)
  ·rw [h5] at hw hl
   simp only [bC] at hw ⊢
   cases h6:(k == 6)
   ·rw [h6] at hw
    simp only [bC] at hw ⊢
    cases hh:i5 ⟨k,d,e,t,m,n,l⟩ x
    ·rw [hh] at hw;cases hw
    rw [h _ hr hh];rfl
   rw [h6] at hw hl
   simp only [Bool.or_true,bV,Bool.and_eq_true] at hl
   exact xb h l 0 0 k hl.2.2 hw
  rw [h5] at hw hl
  simp only [Bool.true_or,bV,Bool.and_eq_true] at hl
  exact xc h l k hl.2.2 hw
theorem xc {x y:Zm} (h:∀ r,dx r=true→i5 r x=true→i5 r y=true):∀ (l:List Zf) (k:Int),oM k l=true→(jm x l).isSome=true→(jm y l).isSome=true
 | [],k,_,_=>by rw [jm];rfl
 | a::l,k,hr,hw=>by
  rw [oM] at hr
  simp only [Bool.and_eq_true] at hr
  rw [jm] at hw ⊢
  have h1:=vp h a hr.1.2
  have h2:=xc h l k hr.2
  cases ha:jl x a with
  | none=>rw [ha] at hw;cases hw
  | some p =>
   cases hl:jm x l with
   | none=>rw [ha,hl] at hw;cases hw
   | some q =>
    rw [ha] at h1;rw [hl] at h2
    obtain ⟨p',e1⟩:=Option.isSome_iff_exists.1 (h1 rfl)
    obtain ⟨q',e2⟩:=Option.isSome_iff_exists.1 (h2 rfl)
    rw [e1,e2];rfl
theorem xb {x y:Zm} (h:∀ r,dx r=true→i5 r x=true→i5 r y=true):∀ (l:List Zf) (i j:Nat) (k:Int),oM k l=true→(kX x i l).isSome=true→(kX y j l).isSome=true
 | [],i,j,k,_,hw=>by rw [kX] at hw;cases hw
 | a::l,i,j,k,hr,hw=>by
  rw [oM] at hr
  simp only [Bool.and_eq_true] at hr
  rw [kX] at hw ⊢
  have h1:=vp h a hr.1.2
  cases ha:jl x a with
  | none =>
   rw [ha] at hw
   cases jl y a with
   | none=>exact xb h l (i+1) (j+1) k hr.2 hw
   | some p=>rfl
  | some p =>
   rw [ha] at h1
   obtain ⟨p',e1⟩:=Option.isSome_iff_exists.1 (h1 rfl)
   rw [e1];rfl
end
structure Wt (f:Zl→Int):Prop where
 same:∀ c v a b,f ⟨c,v,a⟩=f ⟨c,v,b⟩
 pos:∀ i:Zl,0≤i.Value→0≤f i
theorem wtV:Wt fV:=⟨fun _ _ _ _=>rfl,fun _ h=>h⟩
theorem wtN:Wt fN:=⟨fun _ _ _ _=>rfl,fun _ _=>by unfold fN;omega⟩
theorem wtW (r:Zf) (code:ByteArray):Wt (fW r code):=⟨fun _ _ _ _=>rfl,fun i h=>by unfold fW;cases o5 r code i.Code;exact Int.le_refl _;exact h⟩
def tw (f:Zl→Int) (ps:List Int) (S:CSet) (q:Zc) (v:Int):Int:=cond (dn ps S q v).2.isSome 0 (f ⟨q.Code,v,false⟩)
theorem qO {f:Zl→Int} (hf:Wt f) (ps:List Int) (S:CSet) (q:Zc) (v:Int) (l:List Zl):wS f ((dn ps S q v).1::l)=tw f ps S q v+wS f l:=by
 obtain ⟨h1,h2,h3⟩:=z8 ps S q v
 rw [wS,h3]
 unfold tw
 generalize (dn ps S q v).1=i at h1 h2 h3
 obtain ⟨c,w,o⟩:=i
 dsimp only at h1 h2
 subst h1 h2
 rw [hf.same _ _ o false]
theorem Bx {f:Zl→Int} (hf:Wt f) (ps:List Int) (S:CSet) (q:Zc) {v:Int} (hv:0≤v):0≤tw f ps S q v:=by
 unfold tw
 cases (dn ps S q v).2.isSome
 ·exact hf.pos _ hv
 exact Int.le_refl _
theorem xd {ps:List Int} {S T:CSet} (h:∀ c,S c=true→T c=true) (q:Zc) (v:Int):(dn ps S q v).2.isSome=true→(dn ps T q v).2.isSome=true:=by
 intro hs
 unfold dn at hs ⊢
 cases hS:ps.find? (fun id=>S ⟨q.ID,id⟩) with
 | none=>rw [hS] at hs;cases hs
 | some id =>
  cases hT:ps.find? (fun id=>T ⟨q.ID,id⟩) with
  | some j=>rfl
  | none =>
   rw [List.find?_eq_none] at hT
   exact absurd (h _ (by have:=List.find?_some hS;exact this)) (hT id (List.mem_of_find?_eq_some hS))
theorem CD {f:Zl→Int} (hf:Wt f) {ps:List Int} {S T:CSet} (h:∀ c,S c=true→T c=true) (q:Zc) {v:Int} (hv:0≤v):tw f ps T q v≤tw f ps S q v:=by
 have hm:=xd (ps:=ps) h q v
 have hp:=Bx hf ps S q hv
 unfold tw at hp ⊢
 cases ht:(dn ps T q v).2.isSome
 ·cases hs:(dn ps S q v).2.isSome
  ·exact Int.le_refl _
  rw [hm hs] at ht;cases ht
 exact hp
theorem vq {f:Zl→Int} (hf:Wt f) {plan:List Zc} (hv:VPs plan) {ps:List Int} {S T:CSet} (h:∀ c,S c=true→T c=true) {w price:Int} (hw:0≤w) (hp:1≤price):∀ l:List Zh,(∀ y∈l,0≤y.Value) →
    wS f ((l.map fun y=>dn ps T (bx plan y.Product) (dj w y.Value price)).map (·.1))≤wS f ((l.map fun y=>dn ps S (bx plan y.Product) (dj w y.Value price)).map (·.1))∧0≤wS f ((l.map fun y=>dn ps S (bx plan y.Product) (dj w y.Value price)).map (·.1))
  | [],_=>⟨Int.le_refl _,Int.le_refl _⟩
  | y::l,hl=>by
    obtain ⟨h1,h2⟩:=vq hf hv (ps:=ps) h hw hp l fun z hz=>hl z (by simp [hz])
    have hr:=(qq hw (hl y (by simp)) hp).1
    simp only [List.map_cons]
    rw [qO hf,qO hf]
    have:=CD hf h (ps:=ps) (bx plan y.Product) hr
    have:=Bx hf ps S (bx plan y.Product) hr
    omega
theorem tz {f:Zl→Int} (hf:Wt f) {plan:List Zc} (hv:VPs plan) (a:Zb) {ps:List Int} {S T:CSet} (h:∀ c,S c=true→T c=true) (x:Zh) (hx:(cZ plan x.Product).isSome=true) (hx0:0≤x.Value) :
    wS f ((dO plan a ps T x).map (·.1))≤wS f ((dO plan a ps S x).map (·.1))∧0≤wS f ((dO plan a ps S x).map (·.1)):=by
  obtain ⟨hq1,hq,_⟩:=iW hv hx
  have hparts:=vq hf hv (ps:=ps) h hx0 hq.price.1 (bx plan x.Product).Inputs fun y hy=>(hq.inp y hy).2.1
  have hm:=xd (ps:=ps) h (bx plan x.Product) x.Value
  have hp:=Bx hf ps S (bx plan x.Product) hx0
  have hle:=CD hf (ps:=ps) h (bx plan x.Product) hx0
  have hnil:wS f []=0:=rfl
  unfold dO
  cases hT:(dn ps T (bx plan x.Product) x.Value).2.isSome
  · have hS:(dn ps S (bx plan x.Product) x.Value).2.isSome=false:=by
      cases hs:(dn ps S (bx plan x.Product) x.Value).2.isSome
      · rfl
      rw [hm hs] at hT;cases hT
    rw [hS]
    cases (false || !ra a (bx plan x.Product)||(bx plan x.Product).Inputs.isEmpty)
    · exact hparts
    simp only [bV,List.map_cons,List.map_nil]
    rw [qO hf,qO hf];omega
  · have e0:tw f ps T (bx plan x.Product) x.Value=0:=by unfold tw;rw [hT];rfl
    simp only [Bool.true_or,bV,List.map_cons,List.map_nil]
    rw [qO hf,e0]
    cases ((dn ps S (bx plan x.Product) x.Value).2.isSome || !ra a (bx plan x.Product)||(bx plan x.Product).Inputs.isEmpty)
    · simp only [bC];omega
    simp only [bV,List.map_cons,List.map_nil]
    rw [qO hf];omega
theorem nC {f:Zl→Int} (hf:Wt f) {plan:List Zc} (hv:VPs plan) (a:Zb) {ps:List Int} {S T:CSet} (h:∀ c,S c=true→T c=true) {p:Zc} (hp:VProd plan p) :
    wS f ((dG plan a ps T p).map (·.1))≤wS f ((dG plan a ps S p).map (·.1))∧0≤wS f ((dG plan a ps T p).map (·.1)):=by
  unfold dG
  have key:∀ l:List Zh,(∀ x∈l,(cZ plan x.Product).isSome=true∧0≤x.Value)→wS f ((l.flatMap (dO plan a ps T)).map (·.1))≤wS f ((l.flatMap (dO plan a ps S)).map (·.1))∧0≤wS f ((l.flatMap (dO plan a ps T)).map (·.1)):=by
    intro l
    induction l with
    | nil=>intro _;exact ⟨Int.le_refl _,Int.le_refl _⟩
    | cons x l ih =>
      intro hl
      have h1:=ih fun y hy=>hl y (by simp [hy])
      have hx:=hl x (by simp)
      have h2:=tz hf hv a (ps:=ps) h x hx.1 hx.2
      have h3:=(tz hf hv a (ps:=ps) (S:=T) (T:=T) (fun _ k=>k) x hx.1 hx.2).2
      rw [List.flatMap_cons,List.flatMap_cons,List.map_append,List.map_append,Bw,Bw]
      omega
  exact key _ fun x hx=>⟨(hp.inp x hx).1,(hp.inp x hx).2.1⟩
theorem xe {plan:List Zc} (l:List Zb) (hv:VPs plan) (imp:ByteArray) (c:Za) {S T:CSet} (h:∀ c,S c=true→T c=true) (hf:(cZ plan c.Product).isSome=true) (r:Zf) (hr:dx r=true) (hw:(jl (jN plan l imp c S) r).isSome=true):(jl (jN plan l imp c T) r).isSome=true:=by
 obtain ⟨hq1,hq,_⟩:=iW hv hf
 refine vp (fun r hr hl=>?_) r hr hw
 have hV:=nC wtV hv (jk l c.Agreement) (ps:=dF l c.Agreement (bx plan c.Product).Country imp) h hq
 have hN:=nC wtN hv (jk l c.Agreement) (ps:=dF l c.Agreement (bx plan c.Product).Country imp) h hq
 have hW:=nC (wtW r (bx plan c.Product).Code) hv (jk l c.Agreement) (ps:=dF l c.Agreement (bx plan c.Product).Country imp) h hq
 unfold i5 jN at hl ⊢
 dsimp only at hl ⊢
 cases h1:(r.Kind == 1)
 ·rw [h1] at hl
  cases h2:(r.Kind == 2)
  ·rw [h2] at hl
   cases h3:(r.Kind == 3)
   ·rw [h3] at hl;exact hl
   rw [h3] at hl
   simp only [bC,bV,decide_eq_true_eq] at hl ⊢
   omega
  rw [h2] at hl
  simp only [bC,bV,decide_eq_true_eq] at hl ⊢
  omega
 rw [h1] at hl
 simp only [bV,Bool.and_eq_true,beq_iff_eq] at hl ⊢
 exact ⟨hl.1,by omega⟩
section
variable {γ δ π:Type} [DecidableEq δ] (gc:γ→δ) (cl:π→δ) (pv:(δ→Bool)→γ→Option π)
def iM:Nat→List γ→List π→List π
 | 0,_,ps=>ps
 | n+1,o,ps=>cond (o.filterMap (pv (aJ (ps.map cl)))).isEmpty ps (iM n (o.filter fun g=>(pv (aJ (ps.map cl)) g).isNone) (ps++o.filterMap (pv (aJ (ps.map cl)))))
def sb (G:List γ):Nat→List π→List π
 | 0,ps=>ps
 | n+1,ps=>cond (G.filterMap fun g=>cond (aJ (ps.map cl) (gc g)) none (pv (aJ (ps.map cl)) g)).isEmpty ps (sb G n (ps++G.filterMap fun g=>cond (aJ (ps.map cl) (gc g)) none (pv (aJ (ps.map cl)) g)))
def Closed (G:List γ) (T:δ→Bool):Prop:=∀ g∈G,(pv T g).isSome=true→T (gc g)=true
structure RInv (G o:List γ) (ps:List π):Prop where
 all:∀ g∈G,g∈o∨aJ (ps.map cl) (gc g)=true
 opn:∀ g∈o,g∈G∧aJ (ps.map cl) (gc g)=false
 prv:∀ p∈ps,∃ g∈G,gc g=cl p∧(pv (aJ (ps.map cl)) g).isSome=true
 lst:∀ T,Closed gc pv G T→∀ p∈ps,T (cl p)=true
variable {gc cl pv} (hcl:∀ S g p,pv S g=some p→cl p=gc g)
theorem ey {l:List π} {c:δ}:aJ (l.map cl) c=true↔∃ p∈l,cl p=c:=by rw [fw,List.mem_map]
include hcl in
theorem Dz {G o:List γ} {ps:List π} (mono:∀ (S T:δ→Bool),∀ g∈G,(∀ c,S c=true→T c=true)→(pv S g).isSome=true→(pv T g).isSome=true) (inj:∀ g∈G,∀ g'∈G,gc g=gc g'→g=g') (h:RInv gc cl pv G o ps):RInv gc cl pv G (o.filter fun g=>(pv (aJ (ps.map cl)) g).isNone) (ps++o.filterMap (pv (aJ (ps.map cl)))):=by
 have hsub:∀ c,aJ (ps.map cl) c=true→aJ ((ps++o.filterMap (pv (aJ (ps.map cl)))).map cl) c=true:=by
  intro c hc
  obtain ⟨p,h1,h2⟩:=ey.1 hc
  exact ey.2 ⟨p,List.mem_append.2 (.inl h1),h2⟩
 have hnew:∀ g∈o,∀ p,pv (aJ (ps.map cl)) g=some p→aJ ((ps++o.filterMap (pv (aJ (ps.map cl)))).map cl) (gc g)=true:=fun g hg p hp =>
  ey.2 ⟨p,List.mem_append.2 (.inr (List.mem_filterMap.2 ⟨g,hg,hp⟩)),hcl _ _ _ hp⟩
 refine ⟨fun g hg=>?_,fun g hg=>?_,fun p hp=>?_,fun T hT p hp=>?_⟩
 ·rcases h.all g hg with h1 | h1
  ·cases hp:pv (aJ (ps.map cl)) g with
   | none=>left;exact List.mem_filter.2 ⟨h1,by rw [hp];rfl⟩
   | some p=>right;exact hnew g h1 p hp
  right;exact hsub _ h1
 ·obtain ⟨h1,h2⟩:=List.mem_filter.1 hg
  obtain ⟨h3,h4⟩:=h.opn g h1
  refine ⟨h3,?_⟩
  cases hm:aJ ((ps++o.filterMap (pv (aJ (ps.map cl)))).map cl) (gc g)
  ·rfl
  obtain ⟨p,k1,k2⟩:=ey.1 hm
  rcases List.mem_append.1 k1 with k1 | k1
  ·rw [ey.2 ⟨p,k1,k2⟩] at h4;cases h4
  obtain ⟨g',hg',he⟩:=List.mem_filterMap.1 k1
  have:=inj g' (h.opn g' hg').1 g h3 ((hcl _ _ _ he).symm.trans k2)
  subst this
  rw [he] at h2;cases h2
 ·rcases List.mem_append.1 hp with h1 | h1
  ·obtain ⟨g,k1,k2,k3⟩:=h.prv p h1
   exact ⟨g,k1,k2,mono _ _ g k1 hsub k3⟩
  obtain ⟨g,hg,he⟩:=List.mem_filterMap.1 h1
  exact ⟨g,(h.opn g hg).1,(hcl _ _ _ he).symm,mono _ _ g (h.opn g hg).1 hsub (by rw [he];rfl)⟩
 rcases List.mem_append.1 hp with h1 | h1
 ·exact h.lst T hT p h1
 obtain ⟨g,hg,he⟩:=List.mem_filterMap.1 h1
 have:=mono _ T g (h.opn g hg).1 (fun c hc=>by obtain ⟨q,k1,k2⟩:=ey.1 hc;rw [← k2];exact h.lst T hT q k1) (show (pv (aJ (ps.map cl)) g).isSome=true by rw [he];rfl)
 rw [hcl _ _ _ he];exact hT g (h.opn g hg).1 this
theorem oX {o:List γ} {f:γ→Option π} (h:(o.filterMap f).isEmpty=false):(o.filter fun g=>(f g).isNone).length<o.length:=by
 induction o with
 | nil=>cases h
 | cons g o ih =>
  rw [List.filter_cons]
  cases hf:f g with
  | some p =>
   have:=List.length_filter_le (fun g=>(f g).isNone) o
   simp only [Option.isNone_some,Bool.false_eq_true,if_false,List.length_cons];omega
  | none =>
   rw [List.filterMap_cons_none hf] at h
   have:=ih h
   simp only [Option.isNone_none,if_true,List.length_cons];omega
include hcl in
theorem By {G:List γ} (mono:∀ (S T:δ→Bool),∀ g∈G,(∀ c,S c=true→T c=true)→(pv S g).isSome=true→(pv T g).isSome=true) (inj:∀ g∈G,∀ g'∈G,gc g=gc g'→g=g'):∀ (n:Nat) (o:List γ) (ps:List π),o.length≤n→RInv gc cl pv G o ps →
    (∀ g∈G,(pv (aJ ((iM cl pv n o ps).map cl)) g).isSome=aJ ((iM cl pv n o ps).map cl) (gc g))∧(∀ p∈iM cl pv n o ps,∃ g∈G,gc g=cl p)∧∀ T,Closed gc pv G T→∀ p∈iM cl pv n o ps,T (cl p)=true:=by
  have fin:∀ (o:List γ) (ps:List π),RInv gc cl pv G o ps→(∀ g∈o,pv (aJ (ps.map cl)) g=none)→(∀ g∈G,(pv (aJ (ps.map cl)) g).isSome=aJ (ps.map cl) (gc g))∧(∀ p∈ps,∃ g∈G,gc g=cl p)∧∀ T,Closed gc pv G T→∀ p∈ps,T (cl p)=true:=by
    intro o ps h hn
    refine ⟨fun g hg=>?_,fun p hp=>by obtain ⟨g,k1,k2,_⟩:=h.prv p hp;exact ⟨g,k1,k2⟩,h.lst⟩
    cases hm:aJ (ps.map cl) (gc g)
    · rcases h.all g hg with h1 | h1
      · rw [hn g h1];rfl
      rw [h1] at hm;cases hm
    obtain ⟨p,k1,k2⟩:=ey.1 hm
    obtain ⟨g',k3,k4,k5⟩:=h.prv p k1
    rw [inj g hg g' k3 (k2.symm.trans k4.symm)];exact k5
  intro n
  induction n with
  | zero =>
    intro o ps ho h
    obtain rfl:o=[]:=List.length_eq_zero_iff.1 (by omega)
    exact fin [] ps h (fun g hg=>by cases hg)
  | succ n ih =>
    intro o ps ho h
    rw [iM]
    cases he:(o.filterMap (pv (aJ (ps.map cl)))).isEmpty
    · have:=oX he
      exact ih _ _ (by omega) (Dz hcl mono inj h)
    refine fin o ps h fun g hg=>?_
    cases hp:pv (aJ (ps.map cl)) g with
    | none=>rfl
    | some p =>
      have:p∈o.filterMap (pv (aJ (ps.map cl))):=List.mem_filterMap.2 ⟨g,hg,hp⟩
      rw [List.isEmpty_iff.1 he] at this;cases this
theorem Bz (G:List γ):RInv gc cl pv G G []:=⟨fun g hg=>.inl hg,fun g hg=>⟨hg,rfl⟩,fun p hp=>(by cases hp),fun T _ p hp=>(by cases hp)⟩
include hcl in
theorem BA {G:List γ} (inj:∀ g∈G,∀ g'∈G,gc g=gc g'→g=g'):∀ (n:Nat) (ps:List π),iM cl pv n (G.filter fun g => !aJ (ps.map cl) (gc g)) ps=sb gc cl pv G n ps:=by
 intro n
 induction n with
 | zero=>intro ps;rfl
 | succ n ih =>
  intro ps
  rw [iM,sb]
  have e1:(G.filter fun g => !aJ (ps.map cl) (gc g)).filterMap (pv (aJ (ps.map cl)))=G.filterMap fun g=>cond (aJ (ps.map cl) (gc g)) none (pv (aJ (ps.map cl)) g):=by
   generalize pv (aJ (ps.map cl))=f
   generalize aJ (ps.map cl)=m
   clear ih inj
   induction G with
   | nil=>rfl
   | cons g G ihG =>
    rw [List.filter_cons]
    cases hm:m (gc g)
    ·simp only [Bool.not_false,if_true,List.filterMap_cons,ihG,hm,bC]
    simp only [Bool.not_true,Bool.false_eq_true,if_false,List.filterMap_cons,ihG,hm,bV]
  rw [e1]
  have e2:((G.filter fun g => !aJ (ps.map cl) (gc g)).filter fun g=>(pv (aJ (ps.map cl)) g).isNone)=G.filter fun g => !aJ ((ps++G.filterMap fun g=>cond (aJ (ps.map cl) (gc g)) none (pv (aJ (ps.map cl)) g)).map cl) (gc g):=by
   rw [List.filter_filter]
   refine List.filter_congr fun g hg=>?_
   cases hm:aJ (ps.map cl) (gc g)
   ·cases hp:pv (aJ (ps.map cl)) g with
    | none =>
     cases hq:aJ ((ps++G.filterMap fun g=>cond (aJ (ps.map cl) (gc g)) none (pv (aJ (ps.map cl)) g)).map cl) (gc g)
     ·rfl
     ·obtain ⟨p,k1,k2⟩:=ey.1 hq
      rcases List.mem_append.1 k1 with k1 | k1
      ·rw [ey.2 ⟨p,k1,k2⟩] at hm;cases hm
      ·obtain ⟨g',hg',he⟩:=List.mem_filterMap.1 k1
       cases hm':aJ (ps.map cl) (gc g')
       ·rw [hm'] at he
        have:=inj g' hg' g hg ((hcl _ _ _ he).symm.trans k2)
        subst this
        rw [bC,hp] at he;cases he
       ·rw [hm'] at he;cases he
    | some p =>
     have:aJ ((ps++G.filterMap fun g=>cond (aJ (ps.map cl) (gc g)) none (pv (aJ (ps.map cl)) g)).map cl) (gc g)=true:=ey.2 ⟨p,List.mem_append.2 (.inr (List.mem_filterMap.2 ⟨g,hg,by rw [hm];exact hp⟩)),hcl _ _ _ hp⟩
     rw [this];rfl
   have:aJ ((ps++G.filterMap fun g=>cond (aJ (ps.map cl) (gc g)) none (pv (aJ (ps.map cl)) g)).map cl) (gc g)=true:=by
    obtain ⟨p,k1,k2⟩:=ey.1 hm
    exact ey.2 ⟨p,List.mem_append.2 (.inl k1),k2⟩
   rw [this]
   cases (pv (aJ (ps.map cl)) g).isNone <;> rfl
  rw [e2,ih]
end
abbrev Goal:=Za×Zf
abbrev Prf:=Za×List Int×List Za
def cO (plan:List Zc) (l:List Zb) (imp:ByteArray):List Goal:=plan.flatMap fun p=>l.filterMap fun a=>cond (iV plan l imp ⟨p.ID,a.ID⟩) ((dq a p.Code).map fun r=>((⟨p.ID,a.ID⟩:Za),r)) none
def eO (plan:List Zc) (l:List Zb) (imp:ByteArray) (S:CSet) (g:Goal):Option Prf:=(jl (jN plan l imp g.1 S) g.2).map fun path=>(g.1,path,nZ plan l imp g.1 S)
def lM (plan:List Zc) (l:List Zb) (imp:ByteArray):List Prf:=iM (fun p:Prf=>p.1) (eO plan l imp) (cO plan l imp).length (cO plan l imp) []
def kv (plan:List Zc) (l:List Zb) (imp:ByteArray):CSet:=aJ ((lM plan l imp).map fun p:Prf=>p.1)
theorem n7 {plan:List Zc} {l:List Zb} {imp:ByteArray} {g:Goal}:g∈cO plan l imp↔∃ p∈plan,∃ a∈l,iV plan l imp ⟨p.ID,a.ID⟩=true∧dq a p.Code=some g.2∧g.1=⟨p.ID,a.ID⟩:=by
 unfold cO
 rw [List.mem_flatMap]
 constructor
 ·rintro ⟨p,hp,hg⟩
  obtain ⟨a,ha,he⟩:=List.mem_filterMap.1 hg
  cases hc:iV plan l imp ⟨p.ID,a.ID⟩
  ·rw [hc] at he;cases he
  rw [hc,bV] at he
  cases hr:dq a p.Code with
  | none=>rw [hr] at he;cases he
  | some r =>
   rw [hr,Option.map_some] at he
   injection he with he
   subst he
   exact ⟨p,hp,a,ha,hc,hr,rfl⟩
 rintro ⟨p,hp,a,ha,hc,hr,hg⟩
 obtain ⟨c,r⟩:=g
 dsimp only at hr hg
 subst hg
 exact ⟨p,hp,List.mem_filterMap.2 ⟨a,ha,by rw [hc,hr];rfl⟩⟩
theorem yt {α:Type} {f:α→Int} {l:List α} (h:l.Pairwise fun a b=>f a<f b) {a b:α} (ha:a∈l) (hb:b∈l) (e:f a=f b):a=b:=by
 induction l with
 | nil=>cases ha
 | cons x l ih =>
  obtain ⟨h1,h2⟩:=List.pairwise_cons.1 h
  rcases List.mem_cons.1 ha with e1 | ha'
  ·rcases List.mem_cons.1 hb with e2 | hb'
   ·rw [e1,e2]
   have:=h1 b hb';rw [← e1] at this;omega
  rcases List.mem_cons.1 hb with e2 | hb'
  ·have:=h1 a ha';rw [← e2] at this;omega
  exact ih h2 ha' hb'
theorem sO {plan:List Zc} {l:List Zb} {imp:ByteArray} (hv:VPs plan) (hl:AscA l):∀ g∈cO plan l imp,∀ g'∈cO plan l imp,g.1=g'.1→g=g':=by
 intro g hg g' hg' e
 obtain ⟨p,hp,a,ha,_,hr,h1⟩:=n7.1 hg
 obtain ⟨p',hp',a',ha',_,hr',h1'⟩:=n7.1 hg'
 rw [h1,h1'] at e
 injection e with e1 e2
 have:=yt hv.asc hp hp' e1
 have:=yt hl ha ha' e2
 subst_vars
 rw [hr] at hr'
 injection hr' with hr'
 exact Prod.ext (h1.trans h1'.symm) hr'
theorem vr {a:Zb} (ha:VA a) {code:ByteArray} {r:Zf} (h:dq a code=some r):ROk r∧dx r=true∧pm r≤32:=by
 rcases oQ a code with ⟨_,h2⟩ | ⟨j,hj,_,h2⟩
 ·rw [h2] at h;cases h
 rw [h2] at h
 injection h with h
 have h1:=(kW _).1 (ha.rules _ (List.getElem_mem hj))
 have h3:=ha.ok.rules _ (List.getElem_mem hj)
 rw [← h]
 exact ⟨h3.rule,h1.2,h1.1⟩
theorem n8 {plan:List Zc} {l:List Zb} {imp:ByteArray} (hl:VAs l) {g:Goal} (hg:g∈cO plan l imp):ROk g.2∧dx g.2=true∧pm g.2≤32:=by
 obtain ⟨p,hp,a,ha,_,hr,_⟩:=n7.1 hg
 exact vr (hl.all a ha) hr
theorem oY {plan:List Zc} {l:List Zb} {imp:ByteArray} {g:Goal} (hg:g∈cO plan l imp):iV plan l imp g.1=true∧(cZ plan g.1.Product).isSome=true:=by
 obtain ⟨p,hp,a,ha,hc,_,h1⟩:=n7.1 hg
 rw [h1];exact ⟨hc,n5 hc⟩
theorem vt (plan:List Zc) (l:List Zb) (imp:ByteArray) (S:CSet) (g:Goal):(eO plan l imp S g).isSome=(jl (jN plan l imp g.1 S) g.2).isSome:=by unfold eO;cases jl (jN plan l imp g.1 S) g.2 <;> rfl
theorem BB (plan:List Zc) (l:List Zb) (imp:ByteArray):∀ (S:CSet) (g:Goal) (p:Prf),eO plan l imp S g=some p→p.1=g.1:=by
 intro S g p h
 unfold eO at h
 cases hw:jl (jN plan l imp g.1 S) g.2 with
 | none=>rw [hw] at h;cases h
 | some q=>rw [hw,Option.map_some] at h;injection h with h;rw [← h]
theorem FU {plan:List Zc} {l:List Zb} (hv:VPs plan) (hl:VAs l) (imp:ByteArray):∀ (S T:CSet),∀ g∈cO plan l imp,(∀ c,S c=true→T c=true)→(eO plan l imp S g).isSome=true→(eO plan l imp T g).isSome=true:=by
 intro S T g hg h hs
 rw [vt] at hs ⊢
 exact xe l hv imp g.1 h (oY hg).2 g.2 (n8 hl hg).2.1 hs
theorem BC {plan:List Zc} {l:List Zb} (hv:VPs plan) (hl:VAs l) (ha:AscA l) (imp:ByteArray) :
    (∀ g∈cO plan l imp,(jl (jN plan l imp g.1 (kv plan l imp)) g.2).isSome=kv plan l imp g.1)∧(∀ c,kv plan l imp c=true→∃ g∈cO plan l imp,g.1=c) ∧
      ∀ T:CSet,(∀ g∈cO plan l imp,(jl (jN plan l imp g.1 T) g.2).isSome=true→T g.1=true)→∀ c,kv plan l imp c=true→T c=true:=by
  obtain ⟨h1,h2,h3⟩:=By (gc:=fun g:Goal=>g.1) (cl:=fun p:Prf=>p.1) (BB plan l imp) (FU hv hl imp) (sO hv ha) _ _ _ (Nat.le_refl _) (Bz (gc:=fun g:Goal=>g.1) (cl:=fun p:Prf=>p.1) (pv:=eO plan l imp) (cO plan l imp))
  refine ⟨fun g hg=>?_,fun c hc=>?_,fun T hT c hc=>?_⟩
  · rw [← vt];exact h1 g hg
  · obtain ⟨p,k1,k2⟩:=ey.1 hc
    obtain ⟨g,k3,k4⟩:=h2 p k1
    exact ⟨g,k3,k4.trans k2⟩
  obtain ⟨p,k1,k2⟩:=ey.1 hc
  rw [← k2]
  exact h3 T (fun g hg hs=>hT g hg (by rw [← vt];exact hs)) p k1
inductive Chp:List Zh→List Zh→Prop
 | nil:Chp [] []
 | cons {x y:Zh} {l m:List Zh} (h1:y.Product=x.Product) (h2:0≤y.Value) (h3:y.Value≤x.Value) (h:Chp l m):Chp (x::l) (y::m)
theorem Chp.empty {l m:List Zh} (h:Chp l m):m.isEmpty=l.isEmpty:=by cases h <;> rfl
theorem Chp.refl:∀ {l:List Zh},(∀ x∈l,0≤x.Value)→Chp l l
 | [],_=>.nil
 | x::l,h=>.cons rfl (h x (by simp)) (Int.le_refl _) (Chp.refl fun y hy=>h y (by simp [hy]))
structure PLe (p q:Zc):Prop where
 id:q.ID=p.ID
 code:q.Code=p.Code
 ctr:q.Country=p.Country
 price:q.Price=p.Price
 obt:q.Obtained=p.Obtained
 proc:q.Processes=p.Processes
 inp:Chp p.Inputs q.Inputs
structure WtM (f:Zl→Int):Prop where
 wt:Wt f
 le:∀ c v w a,0≤v→v≤w→f ⟨c,v,a⟩≤f ⟨c,w,a⟩
section
variable {ps ps':List Int} {S T:CSet} (hps:∀ x∈ps,x∈ps') (hST:∀ c,S c=true→T c=true)
variable {plan plan':List Zc} (hpl:∀ id,(cZ plan id).isSome=true→PLe (bx plan id) (bx plan' id))
end
inductive PsLe:List Zc→List Zc→Prop
 | nil:PsLe [] []
 | cons {p q:Zc} {l m:List Zc} (h1:PLe p q) (h:PsLe l m):PsLe (p::l) (q::m)
theorem PsLe.find {l m:List Zc} (h:PsLe l m) (id:Int):(cZ l id=none∧cZ m id=none)∨∃ p q,cZ l id=some p∧cZ m id=some q∧PLe p q:=by
 induction h with
 | nil=>exact .inl ⟨rfl,rfl⟩
 | @cons p q l m h1 h ih =>
  unfold cZ at ih ⊢
  rw [List.find?_cons,List.find?_cons,h1.id]
  cases p.ID == id
  ·exact ih
  exact .inr ⟨p,q,rfl,rfl,h1⟩
theorem PsLe.mem {l m:List Zc} (h:PsLe l m) {p:Zc} (hp:p∈l):∃ q∈m,PLe p q:=by
 induction h with
 | nil=>cases hp
 | @cons x q l m h1 h ih =>
  rcases List.mem_cons.1 hp with e | hp'
  ·subst e;exact ⟨q,by simp,h1⟩
  obtain ⟨r,k1,k2⟩:=ih hp'
  exact ⟨r,by simp [k1],k2⟩
theorem CE {p:List Zc} {l:List Zb} {i:ByteArray} {c:Za} (h:iV p l i c=true):(jM l c.Agreement).isSome=true:=by
 unfold iV at h
 cases hf:jM l c.Agreement with
 | none=>rw [hf] at h;cases hp:cZ p c.Product <;> rw [hp] at h <;> cases h
 | some a=>rfl
theorem PLe.refl {plan:List Zc} {p:Zc} (h:VProd plan p):PLe p p:=⟨rfl,rfl,rfl,rfl,rfl,rfl,Chp.refl fun x hx=>(h.inp x hx).2.1⟩
section
variable {plan:List Zc} (R:Int→Bool) (hR:∀ p∈plan,R p.ID=true→∀ y∈p.Inputs,R y.Product=true)
end
section
variable (x:Zm)
mutual
def vu:Zf→List Int→Option (List Int)
 | ⟨k,d,e,t,m,n,l⟩,p=>cond (k == 5) (qT l p) (cond (k == 6) (cond (!p.isEmpty&&decide (0≤p.headD 0)) (oZ l (p.headD 0).toNat p.tail) none) (cond (i5 ⟨k,d,e,t,m,n,l⟩ x) (some p) none))
def qT:List Zf→List Int→Option (List Int)
 | [],p=>some p
 | a::l,p=>match vu a p with
  | some q=>qT l q
  | none=>none
def oZ:List Zf→Nat→List Int→Option (List Int)
 | [],_,_=>none
 | a::_,0,p=>vu a p
 | _::l,n+1,p=>oZ l n p
end
end
theorem vw (x:Zm):∀ (l:List Zf) (n:Nat) (p:List Int),oZ x l n p=match l[n]? with | some a=>vu x a p | none=>none
 | [],n,p=>by rw [oZ];rfl
 | a::l,0,p=>by rw [oZ];rfl
 | a::l,n+1,p=>by rw [oZ,vw x l n p];rfl
theorem FV (x:Zm) (r:Zf) (p:List Int):vu x r p=cond (r.Kind == 5) (qT x r.Args p) (cond (r.Kind == 6) (cond (!p.isEmpty&&decide (0≤p.headD 0)) (oZ x r.Args (p.headD 0).toNat p.tail) none) (cond (i5 r x) (some p) none)):=by
 cases r;rw [vu]
mutual
theorem yu (x:Zm):∀ (r:Zf) (p q:List Int),vu x r p=some q→(jl x r).isSome=true
 | ⟨k,d,e,t,m,n,l⟩,p,q,h=>by
  rw [vu] at h
  rw [jl]
  cases h5:(k == 5)
  ·rw [h5] at h
   simp only [bC] at h ⊢
   cases h6:(k == 6)
   ·rw [h6] at h
    simp only [bC] at h ⊢
    cases hh:i5 ⟨k,d,e,t,m,n,l⟩ x
    ·rw [hh] at h;cases h
    rfl
   rw [h6] at h
   simp only [bV] at h ⊢
   cases hi:(!p.isEmpty&&decide (0≤p.headD 0))
   ·rw [hi] at h;cases h
   rw [hi] at h;exact Af x l _ 0 _ q h
  rw [h5] at h
  exact Ag x l p q h
theorem Ag (x:Zm):∀ (l:List Zf) (p q:List Int),qT x l p=some q→(jm x l).isSome=true
 | [],p,q,h=>by rw [jm];rfl
 | a::l,p,q,h=>by
  rw [qT] at h
  rw [jm]
  cases ha:vu x a p with
  | none=>rw [ha] at h;cases h
  | some s =>
   rw [ha] at h
   obtain ⟨w,e1⟩:=Option.isSome_iff_exists.1 (yu x a p s ha)
   obtain ⟨v,e2⟩:=Option.isSome_iff_exists.1 (Ag x l s q h)
   rw [e1,e2];rfl
theorem Af (x:Zm):∀ (l:List Zf) (n i:Nat) (p q:List Int),oZ x l n p=some q→(kX x i l).isSome=true
 | [],n,i,p,q,h=>by rw [oZ] at h;cases h
 | a::l,0,i,p,q,h=>by
  rw [oZ] at h
  rw [kX]
  obtain ⟨w,e1⟩:=Option.isSome_iff_exists.1 (yu x a p q h)
  rw [e1];rfl
 | a::l,n+1,i,p,q,h=>by
  rw [oZ] at h
  rw [kX]
  cases jl x a with
  | none=>exact Af x l n (i+1) p q h
  | some w=>rfl
end
mutual
theorem CF (x:Zm):∀ (r:Zf) (w t:List Int),jl x r=some w→vu x r (w++t)=some t
 | ⟨k,d,e,u,m,n,l⟩,w,t,h=>by
  rw [jl] at h
  rw [vu]
  cases h5:(k == 5)
  ·rw [h5] at h
   simp only [bC] at h ⊢
   cases h6:(k == 6)
   ·rw [h6] at h
    simp only [bC] at h ⊢
    cases hh:i5 ⟨k,d,e,u,m,n,l⟩ x
    ·rw [hh] at h;cases h
    rw [hh] at h;injection h with h;subst h;rfl
   rw [h6] at h
   simp only [bV] at h ⊢
   obtain ⟨j,v,e1,e2⟩:=Ah x l 0 w t h
   subst e1
   show cond (true&&decide (0≤((0+j:Nat):Int))) (oZ x l ((0+j:Nat):Int).toNat (v++t)) none=_
   rw [det (by omega),Bool.and_self,bV,show ((0+j:Nat):Int).toNat=j by omega]
   exact e2
  rw [h5] at h
  exact Ai x l w t h
theorem Ai (x:Zm):∀ (l:List Zf) (w t:List Int),jm x l=some w→qT x l (w++t)=some t
 | [],w,t,h=>by rw [jm] at h;injection h with h;subst h;rw [qT];rfl
 | a::l,w,t,h=>by
  rw [jm] at h
  rw [qT]
  cases ha:jl x a with
  | none=>rw [ha] at h;cases h
  | some p =>
   cases hl:jm x l with
   | none=>rw [ha,hl] at h;cases h
   | some q =>
    rw [ha,hl,bc,bc] at h
    injection h with h
    subst h
    rw [List.append_assoc,CF x a p (q++t) ha]
    exact Ai x l q t hl
theorem Ah (x:Zm):∀ (l:List Zf) (i:Nat) (w t:List Int),kX x i l=some w→∃ (j:Nat) (v:List Int),w=((i+j:Nat):Int)::v∧oZ x l j (v++t)=some t
 | [],i,w,t,h=>by rw [kX] at h;cases h
 | a::l,i,w,t,h=>by
  rw [kX] at h
  cases ha:jl x a with
  | none =>
   rw [ha] at h
   obtain ⟨j,v,e1,e2⟩:=Ah x l (i+1) w t h
   exact ⟨j+1,v,by rw [e1];congr 2;omega,by rw [oZ];exact e2⟩
  | some p =>
   rw [ha] at h
   injection h with h
   exact ⟨0,p,h.symm,by rw [oZ];exact CF x a p t ha⟩
end
def nD (plan:List Zc) (l:List Zb) (c:Za):Zf:=(dq (jk l c.Agreement) (bx plan c.Product).Code).getD qZ
def kw (plan:List Zc) (l:List Zb) (imp:ByteArray) (K:CSet) (p:Prf):Bool :=
 iV plan l imp p.1 && !K p.1&&p.2.2.all K&&decide (nZ plan l imp p.1 (aJ p.2.2)=p.2.2)&&decide (vu (jN plan l imp p.1 (aJ p.2.2)) (nD plan l p.1) p.2.1=some [])
def okD (plan:List Zc) (l:List Zb) (imp:ByteArray):List Za→List Prf→Bool
 | _,[]=>true
 | K,p::ps=>kw plan l imp (aJ K) p&&okD plan l imp (K++[p.1]) ps
theorem Aj {plan:List Zc} {l:List Zb} {imp:ByteArray} {c:Za} (h:iV plan l imp c=true):(c,nD plan l c)∈cO plan l imp:=by
 obtain ⟨q,a,r,e1,e2,e3,_⟩:=n4 h
 have h1:=sN e1
 have h2:a∈l∧a.ID=c.Agreement:=⟨List.mem_of_find?_eq_some e2,by have:=List.find?_some e2;simpa using this⟩
 have ec:c=⟨q.ID,a.ID⟩:=by obtain ⟨x,y⟩:=c;dsimp only at h1 h2;rw [h1.2,h2.2]
 have er:nD plan l c=r:=by unfold nD jk bx;rw [e1,e2];show (dq a q.Code).getD qZ=r;rw [e3];rfl
 exact n7.2 ⟨q,h1.1,a,h2.1,by rw [← ec];exact h,by rw [er];exact e3,ec⟩
theorem Ak {plan:List Zc} {l:List Zb} (hv:VPs plan) (hl:VAs l) (ha:AscA l) (imp:ByteArray) {K:CSet} (hK:∀ c,K c=true→kv plan l imp c=true) {p:Prf} (h:kw plan l imp K p=true):kv plan l imp p.1=true:=by
 unfold kw at h
 simp only [Bool.and_eq_true,decide_eq_true_eq] at h
 obtain ⟨⟨⟨⟨h1,h2⟩,h3⟩,h4⟩,h5⟩:=h
 have hg:=Aj h1
 have hw:=yu _ _ _ _ h5
 have hm:=xe l hv imp p.1 (S:=aJ p.2.2) (T:=kv plan l imp) (fun c hc=>hK c (List.all_eq_true.1 h3 c (fw.1 hc))) (oY hg).2 _ (n8 hl hg).2.1 hw
 rw [← (BC hv hl ha imp).1 _ hg];exact hm
theorem xf {plan:List Zc} {l:List Zb} (hv:VPs plan) (hl:VAs l) (ha:AscA l) (imp:ByteArray):∀ (ps:List Prf) (K:List Za),(∀ c∈K,kv plan l imp c=true)→okD plan l imp K ps=true→∀ p∈ps,kv plan l imp p.1=true
 | [],K,_,_,p,hp=>by cases hp
 | q::ps,K,hK,h,p,hp=>by
  rw [okD,Bool.and_eq_true] at h
  have hq:=Ak hv hl ha imp (K:=aJ K) (fun c hc=>hK c (fw.1 hc)) h.1
  rcases List.mem_cons.1 hp with e | hp'
  ·rw [e];exact hq
  refine xf hv hl ha imp ps _ (fun c hc=>?_) h.2 p hp'
  rcases List.mem_append.1 hc with hc | hc
  ·exact hK c hc
  rw [List.mem_singleton.1 hc];exact hq
section
variable {γ π:Type}
end
def kB (plan:List Zc) (l:List Zb) (imp:ByteArray) (S:CSet) (p:Zc) (a:Zb):Option Prf :=
 cond (S ⟨p.ID,a.ID⟩ || !iV plan l imp ⟨p.ID,a.ID⟩) none (eO plan l imp S (⟨p.ID,a.ID⟩,(dq a p.Code).getD qZ))
theorem BD {plan:List Zc} (h:VPs plan) {p:Zc} (hp:p∈plan):cZ plan p.ID=some p:=by
 cases hf:cZ plan p.ID with
 | none =>
  unfold cZ at hf
  rw [List.find?_eq_none] at hf
  exact absurd (by simp) (hf p hp)
 | some q =>
  have h1:=sN hf
  rw [yt h.asc h1.1 hp h1.2]
theorem Al {plan:List Zc} {l:List Zb} {imp:ByteArray} (hv:VPs plan) (ha:AscA l) {p:Zc} (hp:p∈plan) {a:Zb} (hal:a∈l) (h:iV plan l imp ⟨p.ID,a.ID⟩=true):∃ r,dq a p.Code=some r:=by
 obtain ⟨q,b,r,e1,e2,e3,_⟩:=n4 h
 dsimp only at e1 e2
 rw [BD hv hp] at e1
 rw [Ds ha hal] at e2
 injection e1 with e1
 injection e2 with e2
 exact ⟨r,by rw [e1,e2];exact e3⟩
theorem vx {plan:List Zc} {l:List Zb} (hv:VPs plan) (ha:AscA l) (imp:ByteArray) (S:CSet):(cO plan l imp).filterMap (fun g=>cond (S g.1) none (eO plan l imp S g))=plan.flatMap fun p=>l.filterMap fun a=>kB plan l imp S p a:=by
 have inner:∀ p∈plan,∀ m:List Zb,(∀ a∈m,a∈l)→(m.filterMap fun a=>cond (iV plan l imp ⟨p.ID,a.ID⟩) ((dq a p.Code).map fun r=>((⟨p.ID,a.ID⟩:Za),r)) none).filterMap (fun g=>cond (S g.1) none (eO plan l imp S g))=m.filterMap fun a=>kB plan l imp S p a:=by
  intro p hp m
  induction m with
  | nil=>intro _;rfl
  | cons a m ih =>
   intro hm
   have ih:=ih fun b hb=>hm b (by simp [hb])
   cases hc:iV plan l imp ⟨p.ID,a.ID⟩
   ·rw [List.filterMap_cons_none (by rw [hc];rfl),ih,List.filterMap_cons_none (by unfold kB;rw [hc];cases S ⟨p.ID,a.ID⟩ <;> rfl)]
   obtain ⟨r,hr⟩:=Al hv ha hp (hm a (by simp)) hc
   rw [List.filterMap_cons_some (b:=((⟨p.ID,a.ID⟩:Za),r)) (by rw [hc,hr];rfl)]
   have e:kB plan l imp S p a=cond (S ⟨p.ID,a.ID⟩) none (eO plan l imp S (⟨p.ID,a.ID⟩,r)):=by
    unfold kB;rw [hc,hr];cases S ⟨p.ID,a.ID⟩ <;> rfl
   cases hs:cond (S ⟨p.ID,a.ID⟩) none (eO plan l imp S (⟨p.ID,a.ID⟩,r)) with
   | none=>rw [List.filterMap_cons_none (f:=fun g:Goal=>cond (S g.1) none (eO plan l imp S g)) hs,List.filterMap_cons_none (e.trans hs),ih]
   | some q=>rw [List.filterMap_cons_some (f:=fun g:Goal=>cond (S g.1) none (eO plan l imp S g)) hs,List.filterMap_cons_some (e.trans hs),ih]
 unfold cO
 have outer:∀ q:List Zc,(∀ p∈q,p∈plan)→(q.flatMap fun p=>l.filterMap fun a=>cond (iV plan l imp ⟨p.ID,a.ID⟩) ((dq a p.Code).map fun r=>((⟨p.ID,a.ID⟩:Za),r)) none).filterMap (fun g=>cond (S g.1) none (eO plan l imp S g))=q.flatMap fun p=>l.filterMap fun a=>kB plan l imp S p a:=by
  intro q
  induction q with
  | nil=>intro _;rfl
  | cons p q ih =>
   intro hq
   rw [List.flatMap_cons,List.flatMap_cons,List.filterMap_append,inner p (hq p (by simp)) l (fun _ h=>h),ih fun x hx=>hq x (by simp [hx])]
 exact outer plan fun _ h=>h
def jO (plan:List Zc) (l:List Zb) (imp:ByteArray):Nat→List Prf→List Za→List Prf
  | 0,ps,_=>ps
  | n+1,ps,set=>cond (plan.flatMap fun p=>l.filterMap fun a=>kB plan l imp (aJ set) p a).isEmpty ps
      (jO plan l imp n (ps++plan.flatMap fun p=>l.filterMap fun a=>kB plan l imp (aJ set) p a) ((plan.flatMap fun p=>l.filterMap fun a=>kB plan l imp (aJ set) p a).foldl (fun t p=>ii bq t p.1) set))
theorem rH:∀ (ps:List Prf) (set:List Za) (c:Za),aJ (ps.foldl (fun t p=>ii bq t p.1) set) c=(aJ set c||aJ (ps.map fun p:Prf=>p.1) c)
 | [],set,c=>by simp [aJ]
 | p::ps,set,c=>by
  rw [List.foldl_cons,rH ps]
  have:aJ (ii bq set p.1) c=(aJ set c||decide (p.1=c)):=by
   cases h:aJ (ii bq set p.1) c
   ·rw [nY,r5] at h
    rw [nY.2 (fun hm=>h (.inr hm)),bI (fun e=>h (.inl e.symm))];rfl
   rw [fw,r5] at h
   rcases h with h | h
   ·rw [det h.symm,Bool.or_true]
   rw [fw.2 h,Bool.true_or]
  rw [this,List.map_cons]
  show _=(aJ set c||(decide (p.1=c)||aJ (ps.map fun p:Prf=>p.1) c))
  rw [Bool.or_assoc]
theorem sc {plan:List Zc} {l:List Zb} (hv:VPs plan) (ha:AscA l) (imp:ByteArray):∀ (n:Nat) (ps:List Prf) (set:List Za),(∀ c,aJ set c=aJ (ps.map fun p:Prf=>p.1) c)→jO plan l imp n ps set=sb (fun g:Goal=>g.1) (fun p:Prf=>p.1) (eO plan l imp) (cO plan l imp) n ps
 | 0,ps,set,_=>rfl
 | n+1,ps,set,h=>by
  have hS:aJ set=aJ (ps.map fun p:Prf=>p.1):=funext h
  rw [jO,sb,hS,← vx hv ha]
  cases ((cO plan l imp).filterMap fun g=>cond (aJ (ps.map fun p:Prf=>p.1) g.1) none (eO plan l imp (aJ (ps.map fun p:Prf=>p.1)) g)).isEmpty
  ·simp only [bC]
   refine sc hv ha imp n _ _ fun c=>?_
   rw [rH,h,List.map_append]
   unfold aJ;rw [List.any_append]
  rfl
theorem tU {plan:List Zc} {l:List Zb} (hv:VPs plan) (ha:AscA l) (imp:ByteArray):jO plan l imp (cO plan l imp).length [] []=lM plan l imp:=by
 rw [sc hv ha imp _ [] [] (fun _=>rfl),← BA (BB plan l imp) (sO hv ha)]
 unfold lM
 congr 1
 exact List.filter_eq_self.2 fun _ _=>rfl
section
variable (ps:List Prf)
def vy (d:Za):Option Nat:=ps.findIdx? fun p=>decide (p.1=d)
inductive Reach (c:Za):Za→Prop
 | base:Reach c c
 | step {d e:Za} {i:Nat} {p:Prf} (h:Reach c d) (h1:vy ps d=some i) (h2:ps[i]?=some p) (h3:e∈p.2.2):Reach c e
variable {ps} {c:Za}
def TCov (ps:List Prf) (nd:List Bool) (todo:List Za) (e:Za):Prop:=e∈todo∨∃ j,vy ps e=some j∧nd[j]?=some true
structure Zw (ps:List Prf) (c:Za) (nd:List Bool) (todo:List Za):Prop where
 len:nd.length=ps.length
 tr:∀ d∈todo,Reach ps c d
 nr:∀ i:Nat,nd[i]?=some true→∃ d,Reach ps c d∧vy ps d=some i
 cl:∀ (i:Nat) p,nd[i]?=some true→ps[i]?=some p→∀ e∈p.2.2,TCov ps nd todo e
 st:TCov ps nd todo c
structure NInv (ps:List Prf) (c:Za) (need:List Za) (k:Nat):Prop where
 rr:∀ d∈need,Reach ps c d
 st:c∈need
 nd:need.Nodup
 cl:∀ (j:Nat),j<k→∀ d,need[j]?=some d→∃ i p,vy ps d=some i∧ps[i]?=some p∧∀ e∈p.2.2,e∈need
end
def rw' (n:Int):Zn:=⟨n / 18446744073709551616,n % 18446744073709551616⟩
theorem rw_of {w:Zn} (h:RW w):w=rw' (rv w)∧U128 (rv w):=by
 obtain ⟨a,b⟩:=w
 unfold RW U64 at h;unfold rw' rv U128;dsimp only at *
 refine ⟨?_,by omega⟩
 congr 1 <;> omega
theorem rmul {a b:Int} (ha:U64 a) (hb:U64 b):mq a b=some (rw' (a*b))∧U128 (a*b):=by
 obtain ⟨w,e1,e2,e3⟩:=Cw ha hb
 have:=rw_of e2
 rw [e3] at this
 rw [e1];exact ⟨congrArg some this.1,this.2⟩
theorem rless {a b:Int} (ha:U128 a) (hb:U128 b):oG (rw' a) (rw' b)=some (decide (a<b)):=by
 unfold U128 at *
 unfold oG rw'
 dsimp only
 congr 1
 by_cases h:a<b
 ·rw [det h];simp only [Bool.or_eq_true,Bool.and_eq_true,decide_eq_true_eq,beq_iff_eq];omega
 rw [bI h];simp only [Bool.or_eq_false_iff,Bool.and_eq_false_iff,decide_eq_false_iff_not,beq_eq_false_iff_ne];omega
theorem vz {v s p:Int} (hv:0≤v∧v≤100000000000000) (hs:0≤s∧s≤1000000) (hp:0≤p∧p≤1000000000000):lZ v s p=some (decide (v*1000000≤s*p)):=by
 unfold lZ
 rw [fA (a:=v) ⟨by omega,by omega⟩,fA (a:=s) ⟨by omega,by omega⟩,fA (a:=p) ⟨by omega,by omega⟩]
 obtain ⟨e1,u1⟩:=rmul (a:=v) (b:=1000000) ⟨by omega,by omega⟩ ⟨by omega,by omega⟩
 obtain ⟨e2,u2⟩:=rmul (a:=s) (b:=p) ⟨by omega,by omega⟩ ⟨by omega,by omega⟩
 rw [e1,bc,e2,bc]
 unfold td
 rw [rless u1 u2,rless u2 u1]
 simp only [bc]
 by_cases h:v*1000000<s*p
 ·rw [det h]
  simp only [bV,bc]
  rw [det (by omega),det (by omega)]
 rw [bI h]
 by_cases h2:s*p<v*1000000
 ·rw [det h2]
  simp only [bC,bV,bc]
  rw [bI (by omega),bI (by omega)]
 rw [bI h2]
 simp only [bC,bc]
 rw [det (by omega),det (by omega)]
theorem yv {r:Zf} {x:Zm} {i:Zl} (hd:r.Digits=2∨r.Digits=4∨r.Digits=6) (he:r.Except.length≤6) (hc:6≤dU x.Code) (hi:6≤dU i.Code):j9 r x i=some (o5 r x.Code i.Code):=by
 unfold j9 o5
 have hs:=rG hc
 have hs2:=rG hi
 have e:jW x.Code 0 r.Digits=some (x.Code.extract 0 r.Digits.toNat):=by unfold jW;rw [if_pos (by omega)];rfl
 have e2:jW i.Code 0 r.Digits=some (i.Code.extract 0 r.Digits.toNat):=by unfold jW;rw [if_pos (by omega)];rfl
 have hsz:(x.Code.extract 0 r.Digits.toNat).size=r.Digits.toNat:=by rw [ByteArray.size_extract];omega
 have ep:ig i.Code (x.Code.extract 0 r.Digits.toNat)=decide (i.Code.extract 0 r.Digits.toNat=x.Code.extract 0 r.Digits.toNat):=by
  unfold ig;rw [hsz,det (by omega),Bool.true_and]
 rw [e2,bc,e,bc,ep]
 cases decide (i.Code.extract 0 r.Digits.toNat=x.Code.extract 0 r.Digits.toNat)
 ·simp only [bC,Bool.false_or]
  refine (bz (l:=r.Except) (by omega) (fun _ x=>cond (ig i.Code x) (some (.inr true)) none) (.inl ()) (fun k hk=>?_) (by simp only [cU,bC])).trans ?_
  ·simp only [gT hk,bV,aB hk,bc,bR hk (show r.Except.length≤4611686018427387904 by omega),zW]
   cases ig i.Code r.Except[k] <;> rfl
  rw [qE (fun x=>ig i.Code x) (Sum.inr true:Unit⊕Bool)]
  cases r.Except.any fun x=>ig i.Code x <;> rfl
 rfl
mutual
theorem Am (x:Zm):∀ l:List Zf,(jm x l).isSome=l.all fun a=>(jl x a).isSome
 | []=>by rw [jm];rfl
 | a::l=>by
  have h:=Am x l
  rw [jm,List.all_cons,← h]
  cases jl x a with
  | none=>rfl
  | some p=>cases jm x l <;> rfl
theorem An (x:Zm):∀ (l:List Zf) (i:Nat),(kX x i l).isSome=l.any fun a=>(jl x a).isSome
 | [],i=>by rw [kX];rfl
 | a::l,i=>by
  have h:=An x l (i+1)
  rw [kX,List.any_cons,← h]
  cases jl x a <;> rfl
end
def yw {α:Type} (p:α→Bool):List α→Nat
 | []=>0
 | a::l=>cond (p a) 1 0+yw p l
theorem CG {α:Type} (p:α→Bool):∀ l:List α,yw p l≤l.length
 | []=>Nat.le_refl _
 | a::l=>by have:=CG p l;rw [yw,List.length_cons];cases p a <;> simp <;> omega
theorem Ao {α:Type} (p:α→Bool):∀ l:List α,(yw p l == l.length)=l.all p
 | []=>rfl
 | a::l=>by
  have h:=Ao p l
  have hle:=CG p l
  rw [yw,List.length_cons,List.all_cons,← h]
  cases p a
  ·rw [bC,Bool.false_and,beq_eq_false_iff_ne];omega
  rw [bV,Bool.true_and,Bool.eq_iff_iff,beq_iff_eq,beq_iff_eq];omega
theorem Ap {α:Type} (p:α→Bool):∀ l:List α,decide (0<yw p l)=l.any p
 | []=>rfl
 | a::l=>by
  have h:=Ap p l
  rw [yw,List.any_cons,← h]
  cases p a
  ·rw [bC,Bool.false_or];exact decide_eq_decide.2 (by omega)
  rw [bV,Bool.true_or];exact det (by omega)
theorem Aq (x:Zm) (hx:VCase x) (n:Nat):∀ r:Zf,dx r=true→sK r≤n→nv n r x=some (jl x r).isSome:=by
 induction n with
 | zero=>intro r _ hd;rw [ko] at hd;omega
 | succ n ih =>
  intro r hr hd
  obtain ⟨hl,ha,he⟩:=jL hr
  have hfew:=hx.few
  show nu (nv n) r x=_
  unfold nu
  have hvi:r.Kind=2→∀ i∈x.Inputs,j9 r x i=some (o5 r x.Code i.Code):=by
   intro hk i hi
   have h:=hr
   rw [gQ,hk] at h
   simp only [jK,hk,Bool.and_eq_true] at h
   have h3:=h.2
   simp at h3
   exact yv (by omega) he hx.lvl (hx.inp i hi).1
  refine (cI (l:=x.Inputs) (by omega) (fun i (s:Int×Int)=>(s.1,s.2,i)) (fun s i=>(s.1+cond i.Originating 0 (cond (r.Kind == 3) (fV i) (cond (r.Kind == 2) (fW r x.Code i) 0)),s.2+cond i.Originating 0 (fN i))) (fun s=>s) (fun k s=>(0≤s.1∧s.1≤k*1000000000000)∧(0≤s.2∧s.2≤k)) (0,0) ⟨by simp,by simp⟩ (fun k hk s hs=>?_) (fun s _=>by simp only [cU,bC])).1.trans ?_
  ·obtain ⟨a,b⟩:=s
   obtain ⟨s1,s2⟩:=hs
   dsimp only at s1 s2 ⊢
   have hmem:=List.getElem_mem hk
   have hi:=hx.inp _ hmem
   have hk100:k<100:=by omega
   simp only [gT hk,bV,aB hk,bc,bR hk (show x.Inputs.length≤4611686018427387904 by omega)]
   generalize x.Inputs[k]=i at hi hmem
   unfold fV fN fW
   cases i.Originating
   ·simp only [bC]
    cases hk3:(r.Kind == 3)
    ·cases hk2:(r.Kind == 2)
     ·simp only [Bool.not_false,Bool.and_false,jb,bc,Bool.false_and,Bool.or_self,bC,Int.add_zero]
      rw [cS (r:=b+1) (by omega) (by omega)]
      exact ⟨rfl,⟨by omega,by omega⟩,by omega,by omega⟩
     simp only [Bool.not_false,Bool.and_self,cr,Bool.false_or,Bool.true_and]
     rw [hvi (eq_of_beq hk2) i hmem,bc]
     cases o5 r x.Code i.Code
     ·simp only [bC,bV,bc,Int.add_zero]
      rw [cS (r:=b+1) (by omega) (by omega)]
      exact ⟨rfl,⟨by omega,by omega⟩,by omega,by omega⟩
     simp only [bV,bC,bc]
     rw [cS (r:=b+1) (by omega) (by omega),cS (r:=a+i.Value) (by omega) (by omega)]
     exact ⟨rfl,⟨by omega,by omega⟩,by omega,by omega⟩
    simp only [Bool.not_true,Bool.false_and,jb,bc,Bool.true_or,bV]
    rw [cS (r:=b+1) (by omega) (by omega),cS (r:=a+i.Value) (by omega) (by omega)]
    exact ⟨rfl,⟨by omega,by omega⟩,by omega,by omega⟩
   simp only [bV,bc,Int.add_zero]
   exact ⟨trivial,⟨by omega,by omega⟩,by omega,by omega⟩
  have key:∀ (l:List Zl) (a b:Int),l.foldl (fun (s:Int×Int) i=>(s.1+cond i.Originating 0 (cond (r.Kind == 3) (fV i) (cond (r.Kind == 2) (fW r x.Code i) 0)),s.2+cond i.Originating 0 (fN i))) (a,b)=(a+wS (fun i=>cond (r.Kind == 3) (fV i) (cond (r.Kind == 2) (fW r x.Code i) 0)) l,b+wS fN l):=by
   intro l
   induction l with
   | nil=>intro a b;simp [wS]
   | cons i l ih=>intro a b;rw [List.foldl_cons,ih];simp only [wS,Int.add_assoc]
  rw [key]
  dsimp only
  simp only [Int.zero_add]
  refine (cI (l:=r.Args) (by omega) (fun i (s:Nat)=>((s:Int),i)) (fun s a=>s+cond (jl x a).isSome 1 0) (fun s=>(s:Int)) (fun k s=>s≤k) 0 (Nat.le_refl _) (fun k hk s hs=>?_) (fun s _=>by simp only [cU,bC])).1.trans ?_
  ·simp only [gT hk,bV,aB hk,bc,bR hk (show r.Args.length≤4611686018427387904 by omega)]
   rw [ih _ (ha _ (List.getElem_mem hk)) (by have:=ip (List.getElem_mem hk);omega),bc]
   cases (jl x r.Args[k]).isSome
   ·exact ⟨rfl,by simp;omega⟩
   simp only [bV,bc]
   rw [cS (by omega) (by omega)]
   exact ⟨rfl,by omega⟩
  have key2:∀ (l:List Zf) (s:Nat),l.foldl (fun s a=>s+cond (jl x a).isSome 1 0) s=s+yw (fun a=>(jl x a).isSome) l:=by
   intro l
   induction l with
   | nil=>intro s;rfl
   | cons a l ih=>intro s;rw [List.foldl_cons,ih,yw];omega
  rw [key2,Nat.zero_add,yq]
  have hv:0≤wS fV x.Inputs∧wS fV x.Inputs≤100000000000000:=by
   have:=qu (f:=fV) (b:=1000000000000) (by omega) (l:=x.Inputs) fun i hi=>(hx.inp i hi).2
   omega
  have hw:0≤wS (fW r x.Code) x.Inputs∧wS (fW r x.Code) x.Inputs≤100000000000000:=by
   have:=qu (f:=fW r x.Code) (b:=1000000000000) (by omega) (l:=x.Inputs) fun i hi=>by
    have:=(hx.inp i hi).2
    unfold fW;cases o5 r x.Code i.Code
    ·simp only [bC];omega
    exact this
   omega
  have hp:=hx.price
  have hb:=hr
  rw [gQ] at hb
  unfold jK Fj at hb
  unfold i5
  have fin:∀ b:Bool,(some b:Option Bool)=some ((cond b (some ([]:List Int)) none).isSome):=fun b=>by cases b <;> rfl
  cases h1:(r.Kind == 1)
  ·cases h2:(r.Kind == 2)
   ·cases h3:(r.Kind == 3)
    ·cases h4:(r.Kind == 4)
     ·cases h5:(r.Kind == 5)
      ·cases h6:(r.Kind == 6)
       ·rw [h1,h2,h3,h4,h5,h6] at hb;simp at hb
       simp only [bC,bV]
       rw [An,← Ap]
       congr 1
       exact decide_eq_decide.2 (by omega)
      simp only [bC,bV]
      rw [Am,← Ao]
      congr 1
      rw [Bool.eq_iff_iff,beq_iff_eq,beq_iff_eq];omega
     have hk:=eq_of_beq h4
     rw [hk]
     simp only [bC,bV]
     rw [qI _ _ hx.proc.2.1,bc]
     exact fin _
    have hk:=eq_of_beq h3
    rw [hk] at hb
    simp at hb
    rw [hk]
    simp only [bC,bV]
    rw [vz hv hb.2 (by omega),bc]
    exact fin _
   have hk:=eq_of_beq h2
   rw [hk] at hb
   simp at hb
   rw [hk]
   simp only [bC,bV]
   have e3:((2:Int) == 3)=false:=rfl
   rw [show (fun i=>cond ((2:Int) == 3) (fV i) (fW r x.Code i))=fW r x.Code from rfl,vz hw (by omega) (by omega),bc]
   exact fin _
  have hk:=eq_of_beq h1
  rw [hk]
  simp only [bV]
  exact fin _
theorem xg {r:Zf} {x:Zm} (hx:VCase x) (hr:dx r=true) (hd:sK r≤1000):pV r x=some (jl x r).isSome:=Aq x hx FUEL r hr (by have hf:FUEL=1267650600228229401496703205376:=rfl;omega)
def rwF (x:Zm) (six:Bool) (k:Nat) (a:Zf) (l:List Int):List Int⊕List Int:=match jl x a with
 | none=>.inl l
 | some p=>cond six (.inr ((k:Int)::p)) (.inl (l++p))
theorem CH (x:Zm):∀ (m:List Zf) (i:Nat) (l:List Int),run (rwF x true) m i l=match kX x i m with | some p=>.inr p | none=>.inl l
 | [],i,l=>by rw [kX];rfl
 | a::m,i,l=>by
  rw [jc,kX]
  unfold rwF
  cases jl x a with
  | none=>exact CH x m (i+1) l
  | some p=>rfl
theorem CI (x:Zm):∀ (m:List Zf) (i:Nat) (l w:List Int),jm x m=some w→run (rwF x false) m i l=.inl (l++w)
 | [],i,l,w,h=>by rw [jm] at h;injection h with h;subst h;rw [List.append_nil];rfl
 | a::m,i,l,w,h=>by
  rw [jm] at h
  rw [jc]
  unfold rwF
  cases ha:jl x a with
  | none=>rw [ha] at h;cases h
  | some p =>
   cases hm:jm x m with
   | none=>rw [ha,hm] at h;cases h
   | some q =>
    rw [ha,hm,bc,bc] at h
    injection h with h
    subst h
    rw [← List.append_assoc]
    exact CI x m (i+1) (l++p) q hm
theorem wi (x:Zm) (hx:VCase x) (n:Nat):∀ r:Zf,dx r=true→pm r≤1000→sK r≤n→jr n r x=some (gZ [] (jl x r)):=by
 induction n with
 | zero=>intro r _ _ hd;rw [ko] at hd;omega
 | succ n ih =>
  intro r hr hc hd
  obtain ⟨hl,ha,_⟩:=jL hr
  have hdc:=oL r
  show lG (jr n) r x=_
  unfold lG
  rw [xg hx hr (by omega),bc]
  cases hw:jl x r with
  | none=>rfl
  | some w =>
   simp only [Option.isSome_some,Bool.not_true,bC]
   have hargs:∀ k (hk:k<r.Args.length),jr n r.Args[k] x=some (gZ [] (jl x r.Args[k])):=fun k hk=>ih _ (ha _ (List.getElem_mem hk)) (by have:=qe r;have:=r9 (List.getElem_mem hk);omega) (by have:=ip (List.getElem_mem hk);omega)
   have hcl:∀ k (hk:k<r.Args.length) p,jl x r.Args[k]=some p→p.length≤1000:=fun k hk p h=>by have h1:=sa x _ p h;have:=qe r;have:=r9 (List.getElem_mem hk);omega
   refine (jZ (l:=r.Args) (by omega) (fun i (s:List Int)=>(s,i)) (rwF x (r.Kind == 6)) (fun s=>.inl s) (fun p=>.inr (p,true)) (fun k s=>s.length≤k*1000) [] (by simp) (fun k hk s hs=>⟨?_,fun s' h'=>?_⟩) (fun s _=>by simp only [cU,bC])).trans ?_
   ·simp only [gT hk,bV,aB hk,bc,bR hk (show r.Args.length≤4611686018427387904 by omega)]
    rw [hargs k hk]
    have:=hcl k hk
    unfold rwF
    cases hwk:jl x r.Args[k] with
    | none=>rfl
    | some p =>
     have:=this p hwk
     show Option.bind (cond (r.Kind == 6) _ _) _=_
     cases (r.Kind == 6)
     ·simp only [bC]
      rw [show (gZ ([]:List Int) (some p)).1=p from rfl]
      rw [cF (show (s.length+p.length)*8≤140737488355328 by omega) (by omega)];rfl
     simp only [bV]
     rw [show (gZ ([]:List Int) (some p)).1=p from rfl]
     rw [cF (show (([(k:Int)]).length+p.length)*8≤140737488355328 by simp;omega) (by simp;omega)];rfl
   ·have:=hcl k hk
    unfold rwF at h'
    cases hwk:jl x r.Args[k] with
    | none=>rw [hwk] at h';injection h' with h';subst h';omega
    | some p =>
     have:=this p hwk
     rw [hwk] at h'
     cases h6:(r.Kind == 6)
     ·rw [h6] at h';injection h' with h';subst h';rw [List.length_append];omega
     rw [h6] at h';cases h'
   rw [yq] at hw
   cases h5:(r.Kind == 5)
   ·rw [h5] at hw
    simp only [bC] at hw
    cases h6:(r.Kind == 6)
    ·rw [h6] at hw
     simp only [bC] at hw
     have hnil:r.Args=[]:=by
      have hp:=hr
      rw [gQ,Bool.and_eq_true] at hp
      have h1:=hp.1
      unfold kp at h1
      simp only [Bool.and_eq_true,h5,h6,Bool.false_or] at h1
      exact List.isEmpty_iff.1 h1.2
     rw [hnil]
     cases hh:i5 r x
     ·rw [hh] at hw;cases hw
     rw [hh] at hw;injection hw with hw;subst hw;rfl
    rw [h6] at hw
    rw [CH,show kX x 0 r.Args=some w from hw];rfl
   rw [h5] at hw
   have h6:(r.Kind == 6)=false:=by rw [eq_of_beq h5];rfl
   rw [h6,CI x r.Args 0 [] w hw];rfl
theorem Ar {r:Zf} {x:Zm} (hx:VCase x) (hr:dx r=true) (hc:pm r≤32):lf r x=some (gZ [] (jl x r)):=wi x hx FUEL r hr (by omega) (by have:=oL r;have hf:FUEL=1267650600228229401496703205376:=rfl;omega)
def vA (g:Goal):Zj:=⟨g.1,g.2⟩
def o6 (p:Prf):Zd:=⟨p.1,p.2.1,p.2.2⟩
def nE (plan:List Zc) (l:List Zb) (imp:ByteArray) (p:Zc) (a:Zb):Option Goal:=cond (iV plan l imp ⟨p.ID,a.ID⟩) ((dq a p.Code).map fun r=>((⟨p.ID,a.ID⟩:Za),r)) none
theorem As {α β:Type} (h:α→Option β):∀ (l:List α) (s:List β),l.foldl (fun s a=>s++(h a).toList) s=s++l.filterMap h
 | [],s=>by simp
 | a::l,s=>by
  rw [List.foldl_cons,As h l]
  cases ha:h a with
  | none=>rw [List.filterMap_cons_none ha];simp
  | some b=>rw [List.filterMap_cons_some ha];simp
theorem sP (plan:List Zc) (l:List Zb) (imp:ByteArray):(cO plan l imp).length≤plan.length*l.length:=by
 have key:∀ q:List Zc,(q.flatMap fun p=>l.filterMap (nE plan l imp p)).length≤q.length*l.length:=by
  intro q
  induction q with
  | nil=>simp
  | cons p q ih =>
   rw [List.flatMap_cons,List.length_append,List.length_cons,Nat.add_mul,Nat.one_mul]
   have:=List.length_filterMap_le (nE plan l imp p) l;omega
 exact key plan
theorem BE {plan:List Zc} {l:List Zb} (hv:VPs plan) (hl:VAs l) (imp:ByteArray):km plan l imp=some ((cO plan l imp).map vA):=by
 unfold km
 have hlen:=hv.len
 have hll:=hl.len
 have inner:∀ (p:Zc) (s:List Zj),s.length≤64000→Option.bind (aO (S:=(List Zj)×Int) (T:=((List Zj))) (fun (l17,v20)=>cond (decide (v20<(l.length:Int))) (Option.bind (Option.bind (idx l v20) (fun m33=>Option.bind (dA m33 p.Code) (fun x36=>Option.bind (gd x36.2 (cq plan l imp (⟨p.ID,m33.ID⟩:Za))) (fun x38=>cond (x36.2&&x38) (Option.bind (app 112 l17 [(⟨(⟨p.ID,m33.ID⟩:Za),x36.1⟩:Zj)]) (fun l42=>some l42)) (some l17))))) (fun l31=>some (.inl (l31,(IntKind.i64.wrap (v20+1)))))) (some (.inr l17))) FUEL (s,0)) (fun t=>(some t:Option (List Zj)))=some (s++(l.filterMap (nE plan l imp p)).map vA):=by
  intro p s hs
  refine (cI (l:=l) (by omega) (fun i (s:List Zj)=>(s,i)) (fun s a=>s++((nE plan l imp p a).map vA).toList) (fun s=>s) (fun k t=>t.length≤s.length+k) s (Nat.le_refl _) (fun k hk t ht=>?_) (fun t _=>by simp only [cU,bC])).1.trans ?_
  ·simp only [gT hk,bV,aB hk,bc,bR hk (show l.length≤4611686018427387904 by omega)]
   have hva:=hl.all _ (List.getElem_mem hk)
   rw [qk _ _ hva,bc,vk _ _ _ _ hv.sorted hl]
   unfold nE
   cases hr:dq l[k] p.Code with
   | none =>
    have e:(cond (iV plan l imp ⟨p.ID,l[k].ID⟩) ((none:Option Zf).map fun r=>((⟨p.ID,l[k].ID⟩:Za),r)) none)=none:=by cases iV plan l imp ⟨p.ID,l[k].ID⟩ <;> rfl
    rw [e]
    exact ⟨by simp [gZ,gd],by simp;omega⟩
   | some r =>
    show Option.bind (Option.bind (gd true (some (iV plan l imp ⟨p.ID,l[k].ID⟩))) _) _=_∧_
    rw [cr,bc]
    cases iV plan l imp ⟨p.ID,l[k].ID⟩
    ·exact ⟨by simp [gZ],by simp;omega⟩
    show Option.bind (Option.bind (app 112 t [_]) _) _=_∧_
    rw [cF (by simp;omega) (by simp;omega)]
    exact ⟨rfl,by simp;omega⟩
  rw [As (fun a=>(nE plan l imp p a).map vA)]
  congr 2
  rw [List.map_filterMap]
 refine (cI (l:=plan) (by omega) (fun i (s:List Zj)=>(s,i)) (fun s p=>s++(l.filterMap (nE plan l imp p)).map vA) (fun s=>s) (fun k t=>t.length≤1000*k) [] (by simp) (fun k hk t ht=>?_) (fun t _=>by simp only [cU,bC])).1.trans ?_
 ·simp only [gT hk,bV,aB hk,bc,bR hk (show plan.length≤4611686018427387904 by omega)]
  have hin:=inner plan[k] t (by omega)
  have e:∀ {α β:Type} (x:Option α) (z:α) (K:α→Option β),Option.bind x (fun t=>some t)=some z→Option.bind x K=K z:=by
   intro α β x z K h
   cases x with
   | none=>cases h
   | some y=>injection h with h;rw [h];rfl
  refine ⟨e _ _ _ hin,?_⟩
  have:=List.length_filterMap_le (nE plan l imp plan[k]) l
  simp;omega
 have key:∀ (q:List Zc) (s:List Zj),q.foldl (fun s p=>s++(l.filterMap (nE plan l imp p)).map vA) s=s++(q.flatMap fun p=>l.filterMap (nE plan l imp p)).map vA:=by
  intro q
  induction q with
  | nil=>intro s;simp
  | cons p q ih=>intro s;rw [List.foldl_cons,ih,List.flatMap_cons,List.map_append,List.append_assoc]
 rw [key,List.nil_append];rfl
theorem DA:gz=fg:=rfl
theorem BF {plan:List Zc} {l:List Zb} (hv:VPs plan) (hl:VAs l) {imp:ByteArray} {g:Goal} (hg:g∈cO plan l imp) (known:List Za) (hk:known.length≤100000) (ps:List Zd) (hps:ps.length≤100000) :
    fP (vA g) plan l imp known ps=some ((eO plan l imp (aJ known) g).isSome,known,ps++((eO plan l imp (aJ known) g).map o6).toList):=by
  unfold fP
  have hf:=oY hg
  have hr:=n8 hl hg
  rw [DA,xa hv hl imp _ known (by omega),bc]
  unfold tu vA
  dsimp only
  rw [hf.1]
  simp only [bV]
  rw [yr (oW hv imp g.1 _ hf.2) hr.1 hr.2.1 hr.2.2,bc]
  unfold eO
  cases hw:jl (jN plan l imp g.1 (aJ known)) g.2 with
  | none=>simp [gZ]
  | some w =>
    show Option.bind (cond true (Option.bind (app 64 ps [_]) _) _) _=_
    rw [bV,cF (by simp;omega) (by simp;omega)];rfl
theorem BG {plan:List Zc} {l:List Zb} (hv:VPs plan) (hl:VAs l) {imp:ByteArray} (o:List Goal) (ho:∀ g∈o,g∈cO plan l imp) (ps:List Prf) (hlen:ps.length+o.length≤64000) {β:Type} (K:List Zj×List Zd×List Za→Option β) :
    Option.bind (aO (S:=(List Zj)×Int×(List Zd)×(List Za)) (T:=((List Zj)×(List Zd)×(List Za))) (fun (l27,v30,l32,l36)=>cond (decide (v30<((o.map vA).length:Int))) (Option.bind (Option.bind (idx (o.map vA) v30) (fun m68=>Option.bind (fP m68 plan l imp l36 l32) (fun x70=>cond (!x70.1) (Option.bind (app 112 l27 [m68]) (fun l80=>some (l80,x70.2.2,x70.2.1))) (some (l27,x70.2.2,x70.2.1))))) (fun (l58,l62,l66)=>some (.inl (l58,(IntKind.i64.wrap (v30+1)),l62,l66)))) (some (.inr (l27,l32,l36)))) FUEL (([]:List Zj),0,ps.map o6,ps.map fun p:Prf=>p.1)) K =
      K ((o.filter fun g=>(eO plan l imp (aJ (ps.map fun p:Prf=>p.1)) g).isNone).map vA,(ps++o.filterMap (eO plan l imp (aJ (ps.map fun p:Prf=>p.1)))).map o6,ps.map fun p:Prf=>p.1):=by
  generalize hS:(ps.map fun p:Prf=>p.1)=known
  have hkn:known.length=ps.length:=by rw [← hS,List.length_map]
  have hml:(o.map vA).length=o.length:=List.length_map _
  refine (cI (l:=o.map vA) (by omega) (fun i (s:List Zj×List Zd)=>(s.1,i,s.2,known)) (fun s t=>match eO plan l imp (aJ known) (t.claim,t.rule) with | some p=>(s.1,s.2++[o6 p]) | none=>(s.1++[t],s.2)) (fun s=>(s.1,s.2,known)) (fun k s=>s.1.length≤k∧s.2.length≤ps.length+k) ([],ps.map o6) ⟨by simp,by simp⟩ (fun k hk s hs=>?_) (fun s _=>by simp only [cU,bC])).1.trans ?_
  · obtain ⟨a,b⟩:=s
    obtain ⟨h1,h2⟩:=hs
    dsimp only at h1 h2 ⊢
    simp only [gT hk,bV,aB hk,bc,bR hk (show (o.map vA).length≤4611686018427387904 by omega)]
    have hk':k<o.length:=by omega
    rw [List.getElem_map,BF hv hl (ho _ (List.getElem_mem hk')) known (by omega) b (by omega),bc]
    rw [show eO plan l imp (aJ known) ((vA o[k]).claim,(vA o[k]).rule)=eO plan l imp (aJ known) o[k] from rfl]
    cases hp:eO plan l imp (aJ known) o[k] with
    | none =>
      simp only [Option.isSome_none,Bool.not_false,bV]
      rw [cF (by simp;omega) (by simp;omega)]
      exact ⟨by simp,by simp;omega,by omega⟩
    | some p =>
      simp only [Option.isSome_some,Bool.not_true,bC]
      exact ⟨rfl,by omega,by simp;omega⟩
  have key:∀ (o:List Goal) (a:List Zj) (b:List Zd),(o.map vA).foldl (fun (s:List Zj×List Zd) t=>match eO plan l imp (aJ known) (t.claim,t.rule) with | some p=>(s.1,s.2++[o6 p]) | none=>(s.1++[t],s.2)) (a,b)=(a++(o.filter fun g=>(eO plan l imp (aJ known) g).isNone).map vA,b++(o.filterMap (eO plan l imp (aJ known))).map o6):=by
    intro o
    induction o with
    | nil=>intro a b;simp
    | cons g o ih =>
      intro a b
      rw [List.map_cons,List.foldl_cons,List.filter_cons]
      show List.foldl _ (match eO plan l imp (aJ known) g with | some p=>(a,b++[o6 p]) | none=>(a++[vA g],b)) _=_
      cases hp:eO plan l imp (aJ known) g with
      | none=>rw [List.filterMap_cons_none hp];dsimp only;rw [ih];simp
      | some p=>rw [List.filterMap_cons_some hp];dsimp only;rw [ih];simp
  rw [key,List.nil_append,List.map_append]
def sQ (p0:List Zc) (p1:List Zb) (p2:ByteArray):(List Zj)×(List Zd)×(List Za)→Option (((List Zj)×(List Zd)×(List Za))⊕(Unit⊕(List Zd×Int))):=(fun (l13,l15,l19)=>Option.bind (aO (S:=(List Zj)×Int×(List Zd)×(List Za)) (T:=((List Zj)×(List Zd)×(List Za))) (fun (l27,v30,l32,l36)=>cond (decide (v30<(l13.length:Int))) (Option.bind (Option.bind (idx l13 v30) (fun m68=>Option.bind (fP m68 p0 p1 p2 l36 l32) (fun x70=>cond (!x70.1) (Option.bind (app 112 l27 [m68]) (fun l80=>some (l80,x70.2.2,x70.2.1))) (some (l27,x70.2.2,x70.2.1))))) (fun (l58,l62,l66)=>some (.inl (l58,(IntKind.i64.wrap (v30+1)),l62,l66)))) (some (.inr (l27,l32,l36)))) FUEL (([]:List Zj),0,l15,l19)) (fun (l42,l46,l50)=>cond (((l46.length:Nat):Int) == ((l15.length:Nat):Int)) (some (.inr (.inr (l46,(0:Int))))) (Option.bind (sub l46 ((l15.length:Nat):Int) (l46.length:Int)) (fun l85=>Option.bind (aO (S:=Int×(List Za)) (T:=((List Za))) (fun (v86,l88)=>cond (decide (v86<((l46.length - ((l15.length:Nat):Int).toNat:Nat):Int))) (Option.bind (ln v86) (fun u100=>Option.bind (idx l46 (((l15.length:Nat):Int)+v86)) (fun m101=>Option.bind (app 16 l88 [m101.Claim]) (fun l105=>some (.inl ((IntKind.i64.wrap (v86+1)),l105)))))) (some (.inr l88))) FUEL (0,l50)) (fun l96=>some (.inl (l42,l46,l96)))))))
theorem DB (a b:List Zd) (known:List Za) (h:a.length+b.length+known.length≤200000) {β:Type} (K:List Za→Option β) :
    Option.bind (aO (S:=Int×(List Za)) (T:=((List Za))) (fun (v86,l88)=>cond (decide (v86<(((a++b).length - ((a.length:Nat):Int).toNat:Nat):Int))) (Option.bind (ln v86) (fun u100=>Option.bind (idx (a++b) (((a.length:Nat):Int)+v86)) (fun m101=>Option.bind (app 16 l88 [m101.Claim]) (fun l105=>some (.inl ((IntKind.i64.wrap (v86+1)),l105)))))) (some (.inr l88))) FUEL (0,known)) K=K (known++b.map (·.Claim)):=by
  have e:(a++b).length - ((a.length:Nat):Int).toNat=b.length:=by rw [List.length_append];omega
  rw [e]
  refine (cI (l:=b) (by omega) (fun i (s:List Za)=>(i,s)) (fun s p=>s++[p.Claim]) (fun s=>s) (fun k s=>s.length≤known.length+k) known (Nat.le_refl _) (fun k hk s hs=>?_) (fun s _=>by simp only [cU,bC])).1.trans ?_
  · simp only [gT hk,bV,bR hk (show b.length≤4611686018427387904 by omega)]
    rw [Bq (by omega),bc,show ((a.length:Nat):Int)+(k:Int)=((a.length+k:Nat):Int) by omega,aB (show a.length+k<(a++b).length by rw [List.length_append];omega),bc,cF (by simp;omega) (by simp;omega),bc]
    have e2:(a++b)[a.length+k]'(by rw [List.length_append];omega)=b[k]:=by rw [List.getElem_append_right (by omega)];congr 1;omega
    rw [e2]
    exact ⟨rfl,by simp;omega⟩
  have key:∀ (b:List Zd) (s:List Za),b.foldl (fun s p=>s++[p.Claim]) s=s++b.map (·.Claim):=by
    intro b
    induction b with
    | nil=>intro s;simp
    | cons p b ih=>intro s;rw [List.foldl_cons,ih];simp
  rw [key]
theorem xh (ps:List Prf):(ps.map o6).map (·.Claim)=ps.map fun p:Prf=>p.1:=by rw [List.map_map];rfl
theorem o3 {γ π:Type} (f:γ→Option π):∀ o:List γ,(o.filterMap f).length+(o.filter fun g=>(f g).isNone).length=o.length
 | []=>rfl
 | g::o=>by
  have ih:=o3 f o
  rw [List.filter_cons]
  cases hf:f g with
  | some p=>rw [List.filterMap_cons_some hf];simp;omega
  | none=>rw [List.filterMap_cons_none hf];simp;omega
theorem At {plan:List Zc} {l:List Zb} (hv:VPs plan) (hl:VAs l) {imp:ByteArray}:∀ (n:Nat) (o:List Goal) (ps:List Prf) (N:Nat),o.length≤n→n<N→(∀ g∈o,g∈cO plan l imp)→ps.length+o.length≤64000 →
    aO (sQ plan l imp) N (o.map vA,ps.map o6,ps.map fun p:Prf=>p.1)=some (.inr ((iM (fun p:Prf=>p.1) (eO plan l imp) n o ps).map o6,0)):=by
  have step:∀ (o:List Goal) (ps:List Prf),(∀ g∈o,g∈cO plan l imp)→ps.length+o.length≤64000→sQ plan l imp (o.map vA,ps.map o6,ps.map fun p:Prf=>p.1)=cond (o.filterMap (eO plan l imp (aJ (ps.map fun p:Prf=>p.1)))).isEmpty (some (.inr (.inr (ps.map o6,0))))
      (some (.inl ((o.filter fun g=>(eO plan l imp (aJ (ps.map fun p:Prf=>p.1)) g).isNone).map vA,(ps++o.filterMap (eO plan l imp (aJ (ps.map fun p:Prf=>p.1)))).map o6,(ps++o.filterMap (eO plan l imp (aJ (ps.map fun p:Prf=>p.1)))).map fun p:Prf=>p.1))):=by
    intro o ps ho hlen
    unfold sQ
    refine (BG hv hl o ho ps hlen _).trans ?_
    have hnl:=List.length_filterMap_le (eO plan l imp (aJ (ps.map fun p:Prf=>p.1))) o
    generalize o.filterMap (eO plan l imp (aJ (ps.map fun p:Prf=>p.1)))=new at hnl
    dsimp only
    rw [List.map_append]
    cases hn:new.isEmpty
    · have hne:new≠[]:=fun e=>by rw [e] at hn;cases hn
      have hpos:0<new.length:=List.length_pos_iff.2 hne
      rw [show ((((ps.map o6++new.map o6).length:Nat):Int) == (((ps.map o6).length:Nat):Int))=false from by rw [beq_eq_false_iff_ne];simp;omega]
      simp only [bC]
      rw [jz (by simp) (Nat.le_refl _),bc,DB _ _ _ (by simp;omega)]
      rw [xh,← List.map_append,← List.map_append]
    have e:new=[]:=List.isEmpty_iff.1 hn
    subst e
    simp
  intro n
  induction n with
  | zero =>
    intro o ps N ho hN hg hlen
    obtain rfl:o=[]:=List.length_eq_zero_iff.1 (by omega)
    obtain ⟨N,rfl⟩:∃ m,N=m+1:=⟨N - 1,by omega⟩
    rw [iM,fE,step [] ps hg hlen];rfl
  | succ n ih =>
    intro o ps N ho hN hg hlen
    obtain ⟨N,rfl⟩:∃ m,N=m+1:=⟨N - 1,by omega⟩
    rw [fE,step o ps hg hlen,iM]
    cases he:(o.filterMap (eO plan l imp (aJ (ps.map fun p:Prf=>p.1)))).isEmpty
    · have h1:=oX he
      have h2:=o3 (eO plan l imp (aJ (ps.map fun p:Prf=>p.1))) o
      exact ih _ _ N (by omega) (by omega) (fun g hg'=>hg g (List.mem_filter.1 hg').1) (by rw [List.length_append];omega)
    rfl
theorem BH {plan:List Zc} {l:List Zb} (hv:VPs plan) (hl:VAs l) {imp:ByteArray} (h1:dc plan=some 0) (h2:db l=some 0) (h3:bS imp=some true):iU plan l imp=some ((lM plan l imp).map o6,0):=by
 have hlen:=hv.len
 have hll:=hl.len
 have hg:=sP plan l imp
 have hm:plan.length*l.length≤64*1000:=Nat.mul_le_mul hlen hll
 unfold iU
 rw [h1,bc,h2,bc,h3,bc,BE hv hl,bc]
 simp only [bne_self_eq_false,bC,Bool.not_true]
 have key:=At hv hl (imp:=imp) (cO plan l imp).length (cO plan l imp) [] FUEL (Nat.le_refl _) (by have hf:FUEL=1267650600228229401496703205376:=rfl;omega) (fun g h=>h) (by simp;omega)
 exact (congrArg (fun o=>Option.bind o _) key).trans rfl
abbrev RSt:=(List Zd)×Bool×(List Za)
def vB (s:RSt) (o:Option Prf):RSt:=match o with
 | some p=>(s.1++[o6 p],true,ii bq s.2.2 p.1)
 | none=>s
def f8 (s:RSt) (new:List Prf):RSt:=(s.1++new.map o6,s.2.1 || !new.isEmpty,new.foldl (fun t p=>ii bq t p.1) s.2.2)
theorem vC {α:Type} (h:α→Option Prf):∀ (l:List α) (s:RSt),l.foldl (fun s a=>vB s (h a)) s=f8 s (l.filterMap h)
 | [],s=>by simp [f8]
 | a::l,s=>by
  rw [List.foldl_cons,vC h l]
  cases ha:h a with
  | none=>rw [List.filterMap_cons_none ha];rfl
  | some p=>rw [List.filterMap_cons_some ha];simp [f8,vB]
theorem BI (s:RSt) (a b:List Prf):f8 (f8 s a) b=f8 s (a++b):=by
 unfold f8
 rw [List.map_append,List.append_assoc,List.foldl_append]
 dsimp only
 congr 2
 cases a <;> cases b <;> cases s.2.1 <;> rfl
theorem DC (s:RSt) (o:Option Prf):(vB s o).1.length≤s.1.length+1∧(vB s o).2.2.length≤s.2.2.length+1:=by
 cases o with
 | none=>exact ⟨by show s.1.length≤_;omega,by show s.2.2.length≤_;omega⟩
 | some p=>exact ⟨by simp [vB],kr _ _⟩
theorem vD (s:RSt):∀ (new:List Prf),(f8 s new).1.length≤s.1.length+new.length∧(f8 s new).2.2.length≤s.2.2.length+new.length:=by
 intro new
 refine ⟨by simp [f8],?_⟩
 show (new.foldl (fun t p=>ii bq t p.1) s.2.2).length≤_
 generalize s.2.2=t
 induction new generalizing t with
 | nil=>simp
 | cons p new ih=>rw [List.foldl_cons,List.length_cons];have:=ih (ii bq t p.1);have:=kr (lt:=bq) t p.1;omega
theorem ref_one {plan:List Zc} {l:List Zb} (hv:VPs plan) (hl:VAs l) (ha:AscA l) (imp:ByteArray) (set:List Za) (hs:set.length≤1000000) {p:Zc} (hp:p∈plan) {a:Zb} (hal:a∈l) (s:RSt) (h1:s.1.length≤1000000) (h2:s.2.2.length≤1000000) {i j:Int} (hi:idx plan i=some p) (hj:idx l j=some a) :
    Option.bind (idx plan i) (fun m60=>Option.bind (idx l j) (fun m61=>Option.bind (cM set (⟨m60.ID,m61.ID⟩:Za)) (fun x63=>Option.bind (gd (!x63) (dS plan l imp (⟨m60.ID,m61.ID⟩:Za))) (fun x64=>cond (x63||(!x64)) (some (s.1,s.2.1,s.2.2)) (Option.bind (gY plan l imp (⟨m60.ID,m61.ID⟩:Za) set) (fun x66=>Option.bind (idx l j) (fun m68=>Option.bind (idx plan i) (fun m69=>Option.bind (gt m68 m69.Code) (fun x70=>Option.bind (lf x70.1 x66.1) (fun x72=>cond x72.2 (Option.bind (app 64 s.1 [(⟨(⟨m60.ID,m61.ID⟩:Za),x72.1,x66.2⟩:Zd)]) (fun l76=>Option.bind (em s.2.2 (⟨m60.ID,m61.ID⟩:Za)) (fun x80=>some (l76,true,x80)))) (some (s.1,s.2.1,s.2.2))))))))))))=some (vB s (kB plan l imp (aJ set) p a)):=by
  have hlen:=hv.len
  have hva:=hl.all a hal
  rw [hi,bc,hj,bc,ml _ _ (by omega),bc,yh _ _ _ _ (by omega) hl]
  unfold kB
  cases hm:aJ set ⟨p.ID,a.ID⟩
  · rw [Bool.not_false,cr,bc]
    cases hc:iV plan l imp ⟨p.ID,a.ID⟩
    · rfl
    simp only [Bool.not_true,Bool.or_self,bC]
    obtain ⟨r,hr⟩:=Al hv ha hp hal hc
    have hro:=vr hva hr
    have hf:=n5 hc
    rw [z7 hv hl imp _ set (by omega),bc,bc,bc,oR _ _ hva.ok.len,bc,hr]
    unfold tu
    rw [hc]
    simp only [bV]
    rw [show (gZ qZ (some r)).1=r from rfl,show (some r).getD qZ=r from rfl,Ar (oW hv imp _ _ hf) hro.2.1 hro.2.2,bc]
    unfold eO
    dsimp only
    cases hw:jl (jN plan l imp ⟨p.ID,a.ID⟩ (aJ set)) r with
    | none=>rfl
    | some w =>
      show Option.bind (app 64 s.1 [_]) _=_
      rw [cF (by simp;omega) (by simp;omega),bc,qM _ _ (by omega)];rfl
  rfl
theorem DD {plan:List Zc} {l:List Zb} (hv:VPs plan) (hl:VAs l) (ha:AscA l) (imp:ByteArray) (set:List Za) (hs:set.length≤100000) (out:List Zd) (h1:out.length≤100000) {β:Type} (K:RSt→Option β) :
    Option.bind (aO (S:=(List Zd)×Bool×(List Za)×Int) (T:=((List Zd)×Bool×(List Za))) (fun (l22,v25,l26,v27)=>cond (decide (v27<(plan.length:Int))) (Option.bind (aO (S:=(List Zd)×Bool×(List Za)×Int) (T:=((List Zd)×Bool×(List Za))) (fun (l38,v41,l42,v43)=>cond (decide (v43<(l.length:Int))) (Option.bind (Option.bind (idx plan v27) (fun m60=>Option.bind (idx l v43) (fun m61=>Option.bind (cM set (⟨m60.ID,m61.ID⟩:Za)) (fun x63=>Option.bind (gd (!x63) (dS plan l imp (⟨m60.ID,m61.ID⟩:Za))) (fun x64=>cond (x63||(!x64)) (some (l38,v41,l42)) (Option.bind (gY plan l imp (⟨m60.ID,m61.ID⟩:Za) set) (fun x66=>Option.bind (idx l v43) (fun m68=>Option.bind (idx plan v27) (fun m69=>Option.bind (gt m68 m69.Code) (fun x70=>Option.bind (lf x70.1 x66.1) (fun x72=>cond x72.2 (Option.bind (app 64 l38 [(⟨(⟨m60.ID,m61.ID⟩:Za),x72.1,x66.2⟩:Zd)]) (fun l76=>Option.bind (em l42 (⟨m60.ID,m61.ID⟩:Za)) (fun x80=>some (l76,true,x80)))) (some (l38,v41,l42))))))))))))) (fun (l56,v57,l58)=>some (.inl (l56,v57,l58,(IntKind.i64.wrap (v43+1)))))) (some (.inr (l38,v41,l42)))) FUEL (l22,v25,l26,0)) (fun (l47,v48,l49)=>some (.inl (l47,v48,l49,(IntKind.i64.wrap (v27+1)))))) (some (.inr (l22,v25,l26)))) FUEL (out,false,set,0)) K =
      K (f8 (out,false,set) (plan.flatMap fun p=>l.filterMap fun a=>kB plan l imp (aJ set) p a)):=by
  have hlen:=hv.len
  have hll:=hl.len
  refine (cI (l:=plan) (by omega) (fun i (s:RSt)=>(s.1,s.2.1,s.2.2,i)) (fun s p=>f8 s (l.filterMap fun a=>kB plan l imp (aJ set) p a)) (fun s=>(s.1,s.2.1,s.2.2)) (fun k s=>s.1.length≤out.length+1000*k∧s.2.2.length≤set.length+1000*k) (out,false,set) ⟨by simp,by simp⟩ (fun k hk s hs=>?_) (fun s _=>by simp only [cU,bC])).1.trans ?_
  · obtain ⟨g1,g2⟩:=hs
    have hfl:=List.length_filterMap_le (fun a=>kB plan l imp (aJ set) plan[k] a) l
    have hrl:=vD s (l.filterMap fun a=>kB plan l imp (aJ set) plan[k] a)
    refine ⟨?_,by omega,by omega⟩
    simp only [gT hk,bV,bR hk (show plan.length≤4611686018427387904 by omega)]
    refine (cI (l:=l) (by omega) (fun i (s:RSt)=>(s.1,s.2.1,s.2.2,i)) (fun s a=>vB s (kB plan l imp (aJ set) plan[k] a)) (fun s=>(s.1,s.2.1,s.2.2)) (fun j t=>t.1.length≤s.1.length+j∧t.2.2.length≤s.2.2.length+j) s ⟨Nat.le_refl _,Nat.le_refl _⟩ (fun j hj t ht=>?_) (fun t _=>by simp only [cU,bC])).1.trans ?_
    · obtain ⟨t1,t2⟩:=ht
      have hst:=DC t (kB plan l imp (aJ set) plan[k] l[j])
      refine ⟨?_,by omega,by omega⟩
      simp only [gT hj,bV,bR hj (show l.length≤4611686018427387904 by omega)]
      exact (congrArg (fun o=>Option.bind o _) (ref_one hv hl ha imp set (by omega) (List.getElem_mem hk) (List.getElem_mem hj) t (by omega) (by omega) (aB hk) (aB hj))).trans rfl
    rw [vC (fun a=>kB plan l imp (aJ set) plan[k] a)]
  have key:∀ (q:List Zc) (s:RSt),q.foldl (fun s p=>f8 s (l.filterMap fun a=>kB plan l imp (aJ set) p a)) s=f8 s (q.flatMap fun p=>l.filterMap fun a=>kB plan l imp (aJ set) p a):=by
    intro q
    induction q with
    | nil=>intro s;simp [f8]
    | cons p q ih=>intro s;rw [List.foldl_cons,ih,List.flatMap_cons,BI]
  rw [key]
section
variable {γ δ π:Type} [DecidableEq δ] {gc:γ→δ} {cl:π→δ} {pv:(δ→Bool)→γ→Option π}
theorem CJ (G:List γ) (ps:List π):(G.filter fun g => !aJ (ps.map cl) (gc g)).filterMap (pv (aJ (ps.map cl)))=G.filterMap fun g=>cond (aJ (ps.map cl) (gc g)) none (pv (aJ (ps.map cl)) g):=by
    generalize pv (aJ (ps.map cl))=f
    generalize aJ (ps.map cl)=m
    induction G with
    | nil=>rfl
    | cons g G ihG =>
      rw [List.filter_cons]
      cases hm:m (gc g)
      · simp only [Bool.not_false,if_true,List.filterMap_cons,ihG,hm,bC]
      simp only [Bool.not_true,Bool.false_eq_true,if_false,List.filterMap_cons,ihG,hm,bV]
theorem FW (hcl:∀ S g p,pv S g=some p→cl p=gc g) {G:List γ} (inj:∀ g∈G,∀ g'∈G,gc g=gc g'→g=g') (ps:List π):((G.filter fun g => !aJ (ps.map cl) (gc g)).filter fun g=>(pv (aJ (ps.map cl)) g).isNone)=G.filter fun g => !aJ ((ps++G.filterMap fun g=>cond (aJ (ps.map cl) (gc g)) none (pv (aJ (ps.map cl)) g)).map cl) (gc g):=by
    rw [List.filter_filter]
    refine List.filter_congr fun g hg=>?_
    cases hm:aJ (ps.map cl) (gc g)
    · cases hp:pv (aJ (ps.map cl)) g with
      | none =>
        cases hq:aJ ((ps++G.filterMap fun g=>cond (aJ (ps.map cl) (gc g)) none (pv (aJ (ps.map cl)) g)).map cl) (gc g)
        · rfl
        · obtain ⟨p,k1,k2⟩:=ey.1 hq
          rcases List.mem_append.1 k1 with k1 | k1
          · rw [ey.2 ⟨p,k1,k2⟩] at hm;cases hm
          · obtain ⟨g',hg',he⟩:=List.mem_filterMap.1 k1
            cases hm':aJ (ps.map cl) (gc g')
            · rw [hm'] at he
              have:=inj g' hg' g hg ((hcl _ _ _ he).symm.trans k2)
              subst this
              rw [bC,hp] at he;cases he
            · rw [hm'] at he;cases he
      | some p =>
        have:aJ ((ps++G.filterMap fun g=>cond (aJ (ps.map cl) (gc g)) none (pv (aJ (ps.map cl)) g)).map cl) (gc g)=true:=ey.2 ⟨p,List.mem_append.2 (.inr (List.mem_filterMap.2 ⟨g,hg,by rw [hm];exact hp⟩)),hcl _ _ _ hp⟩
        rw [this];rfl
    have:aJ ((ps++G.filterMap fun g=>cond (aJ (ps.map cl) (gc g)) none (pv (aJ (ps.map cl)) g)).map cl) (gc g)=true:=by
      obtain ⟨p,k1,k2⟩:=ey.1 hm
      exact ey.2 ⟨p,List.mem_append.2 (.inl k1),k2⟩
    rw [this]
    cases (pv (aJ (ps.map cl)) g).isNone <;> rfl
end
theorem BJ {plan:List Zc} {l:List Zb} (hv:VPs plan) (hl:VAs l) (ha:AscA l) (imp:ByteArray) {body:(List Zd)×(List Za)×Bool→Option (((List Zd)×(List Za)×Bool)⊕(List Zd))}
    (hb:∀ (out:List Zd) (set:List Za) (more:Bool),out.length≤100000→set.length≤100000→body (out,set,more)=cond more (some (.inl ((f8 (out,false,set) (plan.flatMap fun p=>l.filterMap fun a=>kB plan l imp (aJ set) p a)).1,(f8 (out,false,set) (plan.flatMap fun p=>l.filterMap fun a=>kB plan l imp (aJ set) p a)).2.2,(f8 (out,false,set) (plan.flatMap fun p=>l.filterMap fun a=>kB plan l imp (aJ set) p a)).2.1))) (some (.inr out))) :
    ∀ (n:Nat) (ps:List Prf) (set:List Za) (N:Nat),((cO plan l imp).filter fun g => !aJ (ps.map fun p:Prf=>p.1) g.1).length≤n→n+1<N→(∀ c,aJ set c=aJ (ps.map fun p:Prf=>p.1) c)→ps.length+((cO plan l imp).filter fun g => !aJ (ps.map fun p:Prf=>p.1) g.1).length≤64000→set.length≤ps.length →
      aO body N (ps.map o6,set,true)=some ((jO plan l imp n ps set).map o6):=by
  have hnewE:∀ (ps:List Prf) (set:List Za),(∀ c,aJ set c=aJ (ps.map fun p:Prf=>p.1) c)→(plan.flatMap fun p=>l.filterMap fun a=>kB plan l imp (aJ set) p a)=((cO plan l imp).filter fun g => !aJ (ps.map fun p:Prf=>p.1) g.1).filterMap (eO plan l imp (aJ (ps.map fun p:Prf=>p.1))):=by
    intro ps set hS
    have hSS:aJ set=aJ (ps.map fun p:Prf=>p.1):=funext hS
    rw [hSS,← vx hv ha]
    exact (CJ (gc:=fun g:Goal=>g.1) (cl:=fun p:Prf=>p.1) (pv:=eO plan l imp) (cO plan l imp) ps).symm
  have hempty:∀ (ps:List Prf) (set:List Za) (N:Nat),ps.length≤64000→set.length≤ps.length→(plan.flatMap fun p=>l.filterMap fun a=>kB plan l imp (aJ set) p a)=[]→aO body (N+2) (ps.map o6,set,true)=some (ps.map o6):=by
    intro ps set N h1 h2 h
    have hm:(ps.map o6).length=ps.length:=List.length_map _
    rw [fE,hb _ _ _ (by omega) (by omega),h]
    have e:f8 (ps.map o6,false,set) []=(ps.map o6,false,set):=by simp [f8]
    rw [e]
    show aO body (N+1) (ps.map o6,set,false)=_
    rw [fE,hb _ _ _ (by omega) (by omega)];rfl
  intro n
  induction n with
  | zero =>
    intro ps set N ho hN hS hlen hset
    obtain ⟨N,rfl⟩:∃ m,N=m+2:=⟨N - 2,by omega⟩
    rw [jO]
    refine hempty ps set N (by omega) hset ?_
    rw [hnewE ps set hS,List.length_eq_zero_iff.1 (Nat.le_zero.1 ho)];rfl
  | succ n ih =>
    intro ps set N ho hN hS hlen hset
    obtain ⟨N,rfl⟩:∃ m,N=m+2:=⟨N - 2,by omega⟩
    rw [jO]
    cases he:(plan.flatMap fun p=>l.filterMap fun a=>kB plan l imp (aJ set) p a).isEmpty
    · have hm:(ps.map o6).length=ps.length:=List.length_map _
      rw [fE,hb _ _ _ (by omega) (by omega)]
      have hn:=hnewE ps set hS
      have hrl:=vD (ps.map o6,false,set) (plan.flatMap fun p=>l.filterMap fun a=>kB plan l imp (aJ set) p a)
      have hmem:=rH (plan.flatMap fun p=>l.filterMap fun a=>kB plan l imp (aJ set) p a) set
      rw [hn] at he hrl hmem ⊢
      have hsh:=oX he
      have hsum:=o3 (eO plan l imp (aJ (ps.map fun p:Prf=>p.1))) ((cO plan l imp).filter fun g => !aJ (ps.map fun p:Prf=>p.1) g.1)
      have hop:=FW (gc:=fun g:Goal=>g.1) (cl:=fun p:Prf=>p.1) (pv:=eO plan l imp) (BB plan l imp) (G:=cO plan l imp) (sO (imp:=imp) hv ha) ps
      rw [hop,← CJ (gc:=fun g:Goal=>g.1) (cl:=fun p:Prf=>p.1) (pv:=eO plan l imp) (cO plan l imp) ps] at hsh hsum
      generalize ((cO plan l imp).filter fun g => !aJ (ps.map fun p:Prf=>p.1) g.1).filterMap (eO plan l imp (aJ (ps.map fun p:Prf=>p.1)))=new at *
      have e:f8 (ps.map o6,false,set) new=((ps++new).map o6,true,new.foldl (fun t p=>ii bq t p.1) set):=by unfold f8;rw [he,List.map_append];rfl
      rw [e]
      rw [e] at hrl
      refine ih (ps++new) _ (N+1) (by omega) (by omega) (fun c=>?_) (by rw [List.length_append];omega) (by rw [List.length_append];exact Nat.le_trans hrl.2 (by dsimp only;omega))
      rw [hmem,hS,List.map_append]
      unfold aJ;rw [List.any_append]
    exact hempty ps set N (by omega) hset (List.isEmpty_iff.1 he)
theorem DE {plan:List Zc} {l:List Zb} (hv:VPs plan) (hl:VAs l) (ha:AscA l) {imp:ByteArray} (h1:oE plan=some 0) (h2:iR l=some 0) (h3:gB imp=some true):lv plan l imp=some ((lM plan l imp).map o6,0):=by
 have hlen:=hv.len
 have hll:=hl.len
 have hg:=sP plan l imp
 have hm:plan.length*l.length≤64*1000:=Nat.mul_le_mul hlen hll
 unfold lv
 rw [h1,bc,h2,bc,h3,bc]
 simp only [bne_self_eq_false,bC,Bool.not_true]
 have hfl:=List.length_filter_le (fun g:Goal => !aJ (([]:List Prf).map fun p:Prf=>p.1) g.1) (cO plan l imp)
 refine (congrArg (fun o=>Option.bind o _) (BJ hv hl ha imp (fun out set more k1 k2=>?_) (cO plan l imp).length [] [] FUEL hfl (by have hf:FUEL=1267650600228229401496703205376:=rfl;omega) (fun c=>rfl) (by simp only [List.length_nil];omega) (Nat.le_refl _))).trans ?_
 ·cases more
  ·rfl
  exact (DD hv hl ha imp set k2 out k1 _).trans rfl
 show some ((jO plan l imp (cO plan l imp).length [] []).map o6,(0:Int))=_
 rw [tU hv ha]
theorem mt {α T:Type}:∀ (m:List α) (i:Nat),cu (fun (_:Nat) (_:α)=>(none:Option T)) m i=none
 | [],_=>rfl
 | _::m,i=>mt m (i+1)
theorem DF (l:List Zc) (x:Zh) (hl:l.length≤140737488355328):bK l (fun y=>cJ y x)=some (cZ l x.Product).isSome:=by
 unfold bK
 have e:bU l (fun y=>cJ y x)=some (match cu (fun k p=>cond (p.ID == x.Product) (some (Sum.inr (k:Int):Unit⊕Int)) none) l 0 with | some (.inr k)=>k | _ => -1):=by
  unfold bU
  refine (bz (l:=l) (by omega) (fun k (p:Zc)=>cond (p.ID == x.Product) (some (.inr (k:Int))) none) (.inl ()) (fun k hk=>?_) (by simp only [cU,bC])).trans ?_
  ·simp only [gT hk,bV,aB hk,bc,bR hk (show l.length≤4611686018427387904 by omega)]
   unfold cJ
   rw [bc];cases (l[k].ID == x.Product) <;> rfl
  cases cu (fun k (p:Zc)=>cond (p.ID == x.Product) (some (Sum.inr (k:Int):Unit⊕Int)) none) l 0 with
  | none=>rfl
  | some t=>cases t <;> rfl
 rw [e,bc]
 unfold cZ
 rcases nX (fun p:Zc=>p.ID == x.Product) (fun k=>(Sum.inr (k:Int):Unit⊕Int)) l 0 with ⟨h1,h2⟩ | ⟨j,hj,h1,h2⟩
 ·rw [h1,h2];rfl
 rw [h1,h2]
 show some (decide (0≤((0+j:Nat):Int)))=_
 rw [det (by omega)];rfl
structure VIds (l:List Zc):Prop where
 id:∀ p∈l,1≤p.ID∧p.ID≤1000000
 lvl:∀ p∈l,dU p.Code=6∨dU p.Code=8
theorem uf {α:Type} {f:α→Int} {l:List α} (h:l.Pairwise fun a b=>f a<f b) {k:Nat} (h0:0<k) (hk:k<l.length):f (l[k - 1]'(by omega))<f l[k]:=List.pairwise_iff_getElem.1 h (k - 1) k (by omega) hk (by omega)
theorem Au {plan:List Zc} (hv:VPs plan) {p:Zc} (hp:VProd plan p):dt plan p.Inputs=some 0:=by
 unfold dt
 have hlen:=hv.len
 have hfew:=hp.few
 refine (bz (l:=p.Inputs) (by omega) (fun _ _=>none) (.inl ()) (fun k hk=>?_) (by simp only [cU,bC])).trans ?_
 ·have hin:=hp.inp _ (List.getElem_mem hk)
  simp only [gT hk,bV,aB hk,bc,bR hk (show p.Inputs.length≤4611686018427387904 by omega),A6]
  rw [DF _ _ (by omega),hin.1,bI (show ¬ p.Inputs[k].Value<0 by omega),bI (show ¬ 1000000000000<p.Inputs[k].Value by omega)]
  by_cases h0:0<k
  ·have hlt:=uf hp.asc h0 hk
   rw [det h0,cr,fG h0 hk (by omega),bc,bI (by omega)];rfl
  rw [bI h0];rfl
 rw [mt];rfl
theorem yx {plan:List Zc} {p:Zc} (hp:VProd plan p) (hl:dU p.Code=6∨dU p.Code=8) (hw:StrsOk p.Processes):dh p=some 0:=by
 unfold dh
 show Option.bind (some (dU p.Code)) _=_
 have hne:((dU p.Code != 6)&&(dU p.Code != 8))=false:=by rcases hl with h | h <;> rw [h] <;> rfl
 have hfew:=hp.few
 have hpr:=hp.price
 rw [bc,hne,Bool.not_false,cr,lg,hp.ctr,bc,Bool.not_true,Bool.or_self,Bool.not_false,cr,rE _ hw,hp.proc,bc]
 simp only [Bool.not_true,Bool.or_self,bC]
 rw [bI (show ¬ p.Price<1 by omega),bI (show ¬ 1000000000000<p.Price by omega),bI (show ¬ 8<(p.Inputs.length:Int) by omega)]
 simp only [Bool.or_self,bC]
 cases ho:p.Obtained
 ·rfl
 rw [hp.obt ho];rfl
theorem xi {plan:List Zc} {p:Zc} (hp:VProd plan p):StrsOk p.Processes:=by
 obtain ⟨h1,h2,_⟩:=ku hp.proc
 exact ⟨by omega,fun s hs=>by have:=vo (h2 s hs);omega⟩
theorem vE {plan:List Zc} (hv:VPs plan) (hi:VIds plan):dc plan=some 0:=by
 unfold dc
 have hlen:=hv.len
 rw [bI (by omega),bC]
 refine (bz (l:=plan) (by omega) (fun _ _=>none) (.inl ()) (fun k hk=>?_) (by simp only [cU,bC])).trans ?_
 ·have hm:=List.getElem_mem hk
  have hp:=hv.all _ hm
  have hid:=hi.id _ hm
  simp only [gT hk,bV,aB hk,bc,bR hk (show plan.length≤4611686018427387904 by omega),A6]
  rw [bI (show ¬ plan[k].ID<1 by omega),bI (show ¬ 1000000<plan[k].ID by omega),yx hp (hi.lvl _ hm) (xi hp),Au hv hp]
  by_cases h0:0<k
  ·have hlt:=uf hv.asc h0 hk
   rw [det h0,cr,fG h0 hk (by omega),bc,bI (by omega)];rfl
  rw [bI h0];rfl
 rw [mt];rfl
theorem MPs.vids {l:List Zc} (h:MPs l):VIds l:=by
 have hlen:=h.len
 refine ⟨fun p hp=>?_,fun p hp=>?_⟩
 ·obtain ⟨i,hi,rfl⟩:=List.getElem_of_mem hp
  have:=(h.all i _ (List.getElem?_eq_getElem hi)).id;omega
 obtain ⟨i,hi,rfl⟩:=List.getElem_of_mem hp
 exact (h.all i _ (List.getElem?_eq_getElem hi)).lvl.1
theorem DG (l:List ByteArray) (hl:StrsOk l):pR l=some (kn l):=by
 obtain ⟨hl,hs⟩:=hl
 unfold pR kn
 refine (bz (l:=l) (by omega) (fun k x=>cond (mV gU l k x) none (some (.inr false))) (.inl ()) (fun k hk=>?_) (by simp only [cU,bC])).trans ?_
 ·have h62:l.length≤4611686018427387904:=by omega
  simp only [gT hk,bV,aB hk,bc,zM _ (hs _ (List.getElem_mem hk)),A6,bR hk h62,mV]
  cases hw:gU l[k]
  ·rfl
  by_cases h0:0<k
  ·simp only [h0,decide_true,Bool.not_true,Bool.not_false,Bool.and_true,Bool.true_and,Bool.false_or,cr,fG h0 hk h62,bc,fc (show k - 1<l.length by omega),iS]
   cases Op.bytesLess (l[k-1]'(by omega)).toList l[k].toList <;> rfl
  simp only [h0,decide_false,Bool.and_false,jb,bc,Bool.not_true,Bool.false_or,Bool.false_and,bC,Bool.not_false,Bool.true_and,Bool.true_or,Bool.or_false];rfl
 rw [ms]
 have i2:decide ((l.length:Int)≤(8:Int))=decide (l.length≤8):=decide_eq_decide.2 (by omega)
 cases (l.all gU&&kz iS l)
 ·simp
 simp [i2]
theorem FX {s:ByteArray} (h:dU s=6∨dU s=8):s.size≤8:=by
 unfold dU at h
 split at h
 ·omega
 omega
theorem DH {plan:List Zc} (hv:VPs plan) (hi:VIds plan):oE plan=some 0:=by
 unfold oE
 have hlen:=hv.len
 rw [bI (by omega),bC]
 refine (bz (l:=plan) (by omega) (fun _ _=>none) (.inl ()) (fun k hk=>?_) (by simp only [cU,bC])).trans ?_
 ·have hm:=List.getElem_mem hk
  have hp:=hv.all _ hm
  have hid:=hi.id _ hm
  have hl:=hi.lvl _ hm
  have hls:=FX hl
  have hfew:=hp.few
  have hpr:=hp.price
  simp only [gT hk,bV,aB hk,bc,bR hk (show plan.length≤4611686018427387904 by omega),A6]
  rw [bI (show ¬ plan[k].ID<1 by omega),bI (show ¬ 1000000<plan[k].ID by omega),sI _ (by omega),qd,DG _ (xi hp),hp.ctr,hp.proc]
  have hlv:decide (dU plan[k].Code<6)=false:=bI (by omega)
  have tail:∀ {β:Type} (K:Unit⊕(Int⊕(Unit⊕Int))→Option β),Option.bind (aO (S:=Int) (T:=(Unit)⊕(Int⊕(Unit⊕Int))) (fun v18=>cond (decide (v18<(plan[k].Inputs.length:Int))) (Option.bind (gd (decide (0<v18)) (idx plan[k].Inputs v18)) (fun m22=>Option.bind (gd (decide (0<v18)) (idx plan[k].Inputs (IntKind.i64.wrap (v18 - 1)))) (fun m23=>cond ((decide (0<v18))&&(decide (m22.Product≤m23.Product))) (some (.inr (.inr (.inr (.inr 9))))) (Option.bind (idx plan[k].Inputs v18) (fun m25=>Option.bind (fK plan m25.Product) (fun x26=>cond (!x26.2) (some (.inr (.inr (.inr (.inr 6))))) (Option.bind (idx plan[k].Inputs v18) (fun m29=>Option.bind (gd (!(decide (m29.Value<0))) (idx plan[k].Inputs v18)) (fun m30=>cond ((decide (m29.Value<0))||(decide (1000000000000<m30.Value))) (some (.inr (.inr (.inr (.inr 2))))) (some (.inl (IntKind.i64.wrap (v18+1))))))))))))) (some (.inr (.inl ())))) FUEL 0) K=K (.inl ()):=by
   intro β K
   refine (bz (l:=plan[k].Inputs) (by omega) (fun _ _=>none) (.inl ()) (fun j hj=>?_) (by simp only [cU,bC])).trans ?_
   ·have hin:=hp.inp _ (List.getElem_mem hj)
    simp only [gT hj,bV,aB hj,bc,bR hj (show plan[k].Inputs.length≤4611686018427387904 by omega),A6]
    rw [qN hv,bc,hin.1,bI (show ¬ plan[k].Inputs[j].Value<0 by omega),Bool.not_false,cr,bc,bI (show ¬ 1000000000000<plan[k].Inputs[j].Value by omega)]
    by_cases h0:0<j
    ·have hlt:=uf hp.asc h0 hj
     rw [det h0,cr,cr,bc,fG h0 hj (by omega),bc,bI (by omega)];rfl
    rw [bI h0];rfl
   rw [mt];rfl
  by_cases h0:0<k
  ·have hlt:=uf hv.asc h0 hk
   rw [det h0,cr,fG h0 hk (by omega),bc,bI (show ¬ plan[k].ID≤(plan[k - 1]'(by omega)).ID by omega)]
   simp only [Bool.or_self,bC,Bool.and_false,bc,hlv,Bool.not_false,cr,Bool.not_true]
   rw [bI (show ¬ plan[k].Price<1 by omega),bI (show ¬ 1000000000000<plan[k].Price by omega),bI (show ¬ 8<(plan[k].Inputs.length:Int) by omega)]
   have hob:(plan[k].Obtained&&decide (0<plan[k].Inputs.length))=false:=by
    cases ho:plan[k].Obtained
    ·rfl
    rw [hp.obt ho];rfl
   rw [hob]
   simp only [Bool.or_self,bC]
   exact (tail _).trans rfl
  rw [bI h0,jb,bc]
  simp only [Bool.or_self,bC,Bool.false_and,bc,hlv,Bool.not_false,cr,Bool.not_true]
  rw [bI (show ¬ plan[k].Price<1 by omega),bI (show ¬ 1000000000000<plan[k].Price by omega),bI (show ¬ 8<(plan[k].Inputs.length:Int) by omega)]
  have hob:(plan[k].Obtained&&decide (0<plan[k].Inputs.length))=false:=by
   cases ho:plan[k].Obtained
   ·rfl
   rw [hp.obt ho];rfl
  rw [hob]
  simp only [Bool.or_self,bC]
  exact (tail _).trans rfl
 rw [mt];rfl
theorem vF {p:List Zc} {l:List Zb} {imp:ByteArray} (h1:MPs p) (h2:MAs l) (h3:imp∈C6):iU p l imp=some ((lM p l imp).map o6,0)∧lv p l imp=some ((lM p l imp).map o6,0):=by
 have hv:=h1.vps
 refine ⟨BH hv h2.vas (vE hv h1.vids) ?_ ?_,DE hv h2.vas h2.asc (DH hv h1.vids) ?_ ?_⟩
 ·rw [zQ l h2.ok,h2.valid]
 ·rw [lg,C6_ctry h3]
 ·rw [ref_agr l h2.ok,h2.valid]
 rw [qd,C6_ctry h3]
theorem tA {plan:List Zc} {l:List Zb} (hv:VPs plan) (hl:VAs l) (ha:AscA l) (imp:ByteArray):(lM plan l imp).length≤64000∧∀ p∈lM plan l imp,p.2.1.length≤1000∧p.2.2.length≤64:=by
 have hg:=sP plan l imp
 have hm:plan.length*l.length≤64*1000:=Nat.mul_le_mul hv.len hl.len
 have key:∀ (n:Nat) (o:List Goal) (ps:List Prf),(∀ g∈o,g∈cO plan l imp)→(∀ p∈ps,p.2.1.length≤1000∧p.2.2.length≤64)→(iM (fun p:Prf=>p.1) (eO plan l imp) n o ps).length≤ps.length+o.length∧∀ p∈iM (fun p:Prf=>p.1) (eO plan l imp) n o ps,p.2.1.length≤1000∧p.2.2.length≤64:=by
  intro n
  induction n with
  | zero=>intro o ps _ h;exact ⟨by rw [iM];omega,by rw [iM];exact h⟩
  | succ n ih =>
   intro o ps ho h
   rw [iM]
   have hs:=o3 (eO plan l imp (aJ (ps.map fun p:Prf=>p.1))) o
   cases (o.filterMap (eO plan l imp (aJ (ps.map fun p:Prf=>p.1)))).isEmpty
   ·obtain ⟨i1,i2⟩:=ih (o.filter fun g=>(eO plan l imp (aJ (ps.map fun p:Prf=>p.1)) g).isNone) (ps++o.filterMap (eO plan l imp (aJ (ps.map fun p:Prf=>p.1)))) (fun g hg=>ho g (List.mem_filter.1 hg).1) (fun p hp=>by
     rcases List.mem_append.1 hp with hp | hp
     ·exact h p hp
     obtain ⟨g,k1,k2⟩:=List.mem_filterMap.1 hp
     have hr:=n8 hl (ho g k1)
     unfold eO at k2
     cases hw:jl (jN plan l imp g.1 (aJ (ps.map fun p:Prf=>p.1))) g.2 with
     | none=>rw [hw] at k2;cases k2
     | some w =>
      rw [hw,Option.map_some] at k2
      injection k2 with k2
      subst k2
      exact ⟨by have:=sa _ _ w hw;dsimp only;omega,Ab hv imp g.1 _ (oY (ho g k1)).2⟩)
    exact ⟨by rw [List.length_append] at i1;simp only [bC];omega,i2⟩
   ·exact ⟨by simp only [bV];omega,h⟩
 obtain ⟨k1,k2⟩:=key (cO plan l imp).length (cO plan l imp) [] (fun g h=>h) (fun p hp=>by cases hp)
 exact ⟨by unfold lM;simp only [List.length_nil] at k1;omega,k2⟩
theorem FY (l:List Zd) (c:Za) (hl:l.length≤140737488355328):kT l c=some (aJ (l.map (·.Claim)) c):=by
 unfold kT bN
 have e:bw l (fun y=>kb y c)=some (match cu (fun k (p:Zd)=>cond (Za.eqb p.Claim c) (some (Sum.inr (k:Int):Unit⊕Int)) none) l 0 with | some (.inr k)=>k | _ => -1):=by
  unfold bw
  refine (bz (l:=l) (by omega) (fun k (p:Zd)=>cond (Za.eqb p.Claim c) (some (.inr (k:Int))) none) (.inl ()) (fun k hk=>?_) (by simp only [cU,bC])).trans ?_
  ·simp only [gT hk,bV,aB hk,bc,bR hk (show l.length≤4611686018427387904 by omega)]
   unfold kb
   rw [bc];cases (Za.eqb l[k].Claim c) <;> rfl
  cases cu (fun k (p:Zd)=>cond (Za.eqb p.Claim c) (some (Sum.inr (k:Int):Unit⊕Int)) none) l 0 with
  | none=>rfl
  | some t=>cases t <;> rfl
 rw [e,bc,bc]
 rcases nX (fun p:Zd=>Za.eqb p.Claim c) (fun k=>(Sum.inr (k:Int):Unit⊕Int)) l 0 with ⟨h1,h2⟩ | ⟨j,hj,h1,h2⟩
 ·rw [h1]
  have:aJ (l.map (·.Claim)) c=false:=by
   rw [nY,List.mem_map]
   rintro ⟨p,hp,rfl⟩
   exact List.find?_eq_none.1 h2 p hp (Za.eqb_iff.2 rfl)
  rw [this];rfl
 rw [h1]
 have:aJ (l.map (·.Claim)) c=true:=by
  rw [fw,List.mem_map]
  have:=List.find?_some h2
  exact ⟨l[j],List.getElem_mem hj,Za.eqb_iff.1 this⟩
 rw [this]
 show some (decide (0≤((0+j:Nat):Int)))=_
 rw [det (by omega)]
theorem DI {plan:List Zc} {l:List Zb} (hv:VPs plan) (hl:VAs l) (ha:AscA l) (imp:ByteArray) (c:Za):kT ((lM plan l imp).map o6) c=some (kv plan l imp c):=by
 have h:=(tA hv hl ha imp).1
 rw [FY _ _ (by rw [List.length_map];omega),xh];rfl



structure POk (p:Zc):Prop where
 code:p.Code.size≤140737488355328
 proc:StrsOk p.Processes
 len:p.Inputs.length≤140737488355328
structure PSOk (l:List Zc):Prop where
 len:l.length≤140737488355328
 all:∀ p∈l,POk p
theorem tB {α T:Type} (g:Nat→α→Option T):∀ (l:List α) (i:Nat),cu g l i=none→∀ k,(h:k<l.length)→g (i+k) l[k]=none
 | [],_,_,k,h=>absurd h (by simp)
 | x::l,i,e,k,h=>by
  rw [cu] at e
  cases hg:g i x with
  | some t=>rw [hg] at e;cases e
  | none =>
   rw [hg] at e
   cases k with
   | zero=>exact hg
   | succ k=>have:=tB g l (i+1) e k (by simpa using h);rw [show i+(k+1)=i+1+k by omega];exact this

def uIn (id pid:Int) (acc:List Int) (x:Zh):List Int:=cond (x.Product == id) (acc++[pid]) acc
def usersS (plan:List Zc) (id:Int):List Int:=plan.foldl (fun acc p=>p.Inputs.foldl (uIn id p.ID) acc) []
def hitB (plan:List Zc) (id:Int) (r:List Bool) (m:Nat) (u:List Int):Bool:=match plan[m]? with
 | none=>false
 | some p=>((p.ID == id)||r.getD m false)&&u.any fun x=>x == p.ID
def FZ (r:List Bool):Nat:=(r.filter fun b => !b).length
structure PassI (plan:List Zc) (id:Int) (r:List Bool) (k:Nat) (r':List Bool) (ag:Bool):Prop where
 len:r'.length=plan.length
 le:k≤plan.length
 no:ag=false→r'=r∧∀ i,i<k→∀ p,plan[i]?=some p→r.getD i false=true∨∀ m,hitB plan id r m (usersS plan p.ID)=false
 yes:ag=true→FZ r'<FZ r
theorem VIds.sub {l m:List Zc} (h:VIds l) (hs:∀ p∈m,p∈l):VIds m:=⟨fun p hp=>h.id p (hs p hp),fun p hp=>h.lvl p (hs p hp)⟩

def se (p:Zd):Prf:=(p.Claim,p.Path,p.Premises)
structure FMap (ps:List Prf) (k:Nat) (m:List (Za×Int)):Prop where
 get:∀ d,jX m d=match vy ps d with | some i=>cond (decide (i<k)) (some (i:Int)) none | none=>none
theorem DJ {α:Type} {l:List α} {k:Nat} (h:k<l.length):l.take (k+1)=l.take k++[l[k]]:=by
 rw [List.take_add_one,List.getElem?_eq_getElem h];rfl
structure Zx (x:List Zd) (M:Nat):Prop where
 len:x.length≤100000
 prem:∀ p∈x,p.Premises.length≤M
 path:∀ p∈x,p.Path.length≤1000000000000
 mx:M≤2000000
theorem F0 {k:Nat} (h:k≤4611686018427387904):IntKind.i64.wrap ((k:Int)+1)=((k+1:Nat):Int):=by rw [cS (by omega) (by omega)];omega


theorem CK:jJ=some true:=by kernel_rfl
def FR (o:Option (List Int)) (t:List Int×Bool):Prop:=match o with
 | some q=>t=(q,true)
 | none=>t.2=false
theorem F1 {o:Option (List Int)} {t:List Int×Bool} (h:FR o t):(t.2&&((t.1.length:Int) == 0))=decide (o=some []):=by
 cases o with
 | none=>rw [show t.2=false from h];simp
 | some q =>
  rw [show t=(q,true) from h]
  cases q with
  | nil=>simp
  | cons a q =>
   rw [bI (by simp)]
   show (true&&(((a::q).length:Int) == 0))=false
   rw [Bool.true_and,beq_eq_false_iff_ne];simp <;> omega
theorem DK (x:Zm) {l:List Zf} {k:Nat} (hk:k<l.length) (p:List Int):qT x (l.drop k) p=match vu x l[k] p with | some q=>qT x (l.drop (k+1)) q | none=>none:=by
 rw [List.drop_eq_getElem_cons hk,qT] <;> rfl
section
variable {x:Zm} {rec:Zf→List Int→Option (List Int×Bool)}
theorem CL {l:List Zf} {T:Type} (hl:l.length≤1000) {body:List Int×Int→Option ((List Int×Int)⊕(List Int⊕(List Int×Bool)))}
    (hstep:∀ (k:Nat) (hk:k<l.length) (p:List Int),Y (body (p,(k:Int))) (fun o=>match vu x l[k] p with | some q=>o=.inl (q,((k+1:Nat):Int)) | none=>∃ e:List Int×Bool,o=.inr (.inr e)∧e.2=false))
    (hend:∀ p,body (p,(l.length:Int))=some (.inr (.inl p))) (p:List Int):Y (aO body FUEL (p,0)) (fun t=>match t with | .inl q=>qT x l p=some q | .inr e=>qT x l p=none∧e.2=false):=by
  refine Y.loop (fun s:List Int×Int=>∃ k:Nat,s.2=(k:Int)∧k≤l.length∧qT x (l.drop k) s.1=qT x l p) (fun s=>(l.length - s.2).toNat) ⟨0,rfl,by omega,rfl⟩ (by show ((l.length:Int) - 0).toNat≤_;omega) (fun s hs=>?_)
  obtain ⟨q,v⟩:=s
  obtain ⟨k,hv,hk,he⟩:=hs
  dsimp only at hv he ⊢
  subst hv
  rcases Nat.lt_or_ge k l.length with hk2 | hk2
  rotate_left
  · have e:k=l.length:=by omega
    subst e
    rw [hend]
    refine Y.ret ?_
    rw [List.drop_length,qT] at he
    exact he.symm
  obtain ⟨o,e1,h1⟩:=hstep k hk2 q
  rw [DK x hk2] at he
  rw [e1]
  cases hf:vu x l[k] q with
  | none =>
    rw [hf] at h1 he
    obtain ⟨e,rfl,h2⟩:=h1
    exact Y.ret ⟨he.symm,h2⟩
  | some w =>
    rw [hf] at h1 he
    subst h1
    refine Y.ret ⟨⟨k+1,rfl,by omega,he⟩,?_⟩
    show ((l.length:Int) - ((k+1:Nat):Int)).toNat<((l.length:Int) - (k:Int)).toNat;omega
end
theorem F2 (x:Zm) (hx:VCase x) (n:Nat):∀ (r:Zf) (p:List Int),dx r=true→sK r≤n→Y (Irule_test_follow_F n (tt r) x p) (FR (vu x r p)):=by
 induction n with
 | zero=>intro r p _ hd;rw [ko] at hd;omega
 | succ n ih =>
  intro r p hr hd
  obtain ⟨hl,ha,_⟩:=jL hr
  have hargs:∀ k (hk:k<r.Args.length) p,Y (Irule_test_follow_F n (tt r.Args[k]) x p) (FR (vu x r.Args[k] p)):=fun k hk p=>ih _ p (ha _ (List.getElem_mem hk)) (by have:=ip (List.getElem_mem hk);omega)
  show Y (Irule_test_follow_B (Irule_test_follow_F n) (tt r) x p) _
  rw [FT,FV]
  have hml:(r.Args.map tt).length=r.Args.length:=List.length_map _
  have hmi:∀ k (hk:k<(r.Args.map tt).length),(r.Args.map tt)[k]=tt (r.Args[k]'(by omega)):=fun k hk=>by rw [List.getElem_map]
  cases h5:(r.Kind == 5)
  ·cases h6:(r.Kind == 6)
   ·show Y (fM ⟨r⟩ x p) _
    unfold fM
    rw [prog_holds hx hr,bc]
    simp only [bC]
    cases i5 r x
    ·exact Y.ret rfl
    exact Y.ret rfl
   show Y (fL (Irule_test_follow_F n) (r.Args.map tt) x p) _
   unfold fL
   simp only [bC,bV]
   cases p with
   | nil=>exact Y.ret rfl
   | cons a t =>
    have e0:((((a::t).length:Nat):Int) == 0)=false:=by rw [beq_eq_false_iff_ne];simp <;> omega
    have ei:idx (a::t) 0=some a:=rfl
    have e6:(cond (!(a::t).isEmpty&&decide (0≤(a::t).headD 0)) (oZ x r.Args ((a::t).headD 0).toNat (a::t).tail) none)=cond (decide (0≤a)) (oZ x r.Args a.toNat t) none:=rfl
    rw [e0,e6]
    simp only [Bool.not_false,cr,ei,bc,Bool.false_or]
    by_cases hneg:a<0
    ·rw [det hneg,bI (show ¬ 0≤a by omega)]
     exact Y.ret rfl
    rw [bI hneg,det (show 0≤a by omega)]
    simp only [Bool.not_false,cr,bc,Bool.false_or,bV]
    obtain ⟨i,rfl⟩:∃ i:Nat,a=(i:Int):=⟨a.toNat,by omega⟩
    rw [Int.toNat_natCast,vw]
    by_cases hi:i<r.Args.length
    ·rw [bI (show ¬ (((r.Args.map tt).length:Nat):Int)≤(i:Int) by omega),bC,aB (show i<(r.Args.map tt).length by omega),bc,List.getElem?_eq_getElem hi,hmi i (by omega)]
     have hs:sub ((i:Int)::t) 1 ((((i:Int)::t).length:Nat):Int)=some t:=by
      have:=jz (xs:=(i:Int)::t) (a:=1) (b:=((i:Int)::t).length) (by simp) (Nat.le_refl _)
      rw [show ((1:Nat):Int)=1 from rfl] at this
      rw [this,List.take_length];rfl
     rw [hs,bc]
     exact (hargs i hi t).bind fun q hq=>Y.ret hq
    rw [det (show (((r.Args.map tt).length:Nat):Int)≤(i:Int) by omega),bV,List.getElem?_eq_none (by omega)]
    exact Y.ret rfl
  show Y (fp (Irule_test_follow_F n) (r.Args.map tt) x p) _
  unfold fp
  simp only [bV]
  refine Y.bind (CL (T:=Unit) (x:=x) (l:=r.Args) (by omega) (fun k hk q=>?_) (fun q=>?_) p) fun t ht=>?_
  ·rw [hml]
   simp only [gT hk,bV,aB (show k<(r.Args.map tt).length by omega),bc,bR hk (show r.Args.length≤4611686018427387904 by omega),hmi k (show k<(r.Args.map tt).length by omega)]
   refine (hargs k hk q).bind fun o ho=>?_
   cases hf:vu x r.Args[k] q with
   | none =>
    rw [hf] at ho
    rw [show o.2=false from ho]
    exact Y.ret ⟨([],false),rfl,rfl⟩
   | some w =>
    rw [hf] at ho
    rw [show o=(w,true) from ho]
    exact Y.ret rfl
  ·rw [hml];simp only [cU,bC]
  cases t with
  | inl q=>dsimp only at ht ⊢;rw [ht];exact Y.ret rfl
  | inr e=>obtain ⟨h1,h2⟩:=ht;dsimp only;rw [h1];exact Y.ret h2
theorem Av {r:Zf} {x:Zm} (hx:VCase x) (ok:ROk r) (hr:dx r=true) (hc:pm r≤32) (p:List Int):ly r x p=some (decide (vu x r p=some [])):=by
 have hd:=oL r
 have hf:FUEL=1267650600228229401496703205376:=rfl
 unfold ly gg
 rw [nU r ok (by omega),(kW r).2 ⟨hc,hr⟩,bc,show ((0:Int) == 0)=true from rfl,cr,qt hx,bc,bc]
 show Option.bind (ik FUEL r) _=_
 rw [Ac FUEL r hr (by omega),bc]
 obtain ⟨t,e,h⟩:=F2 x hx FUEL r p hr (by omega)
 show Option.bind (Irule_test_follow_F FUEL (tt r) x p) _=_
 rw [e,bc,F1 h]
theorem Aw (x:Zm) (hx:VCase x) (n:Nat):∀ (r:Zf) (p:List Int),dx r=true→sK r≤1000→sK r≤n→Y (iH n r x p) (FR (vu x r p)):=by
 induction n with
 | zero=>intro r p _ _ hd;rw [ko] at hd;omega
 | succ n ih =>
  intro r p hr h1000 hd
  obtain ⟨hl,ha,_⟩:=jL hr
  have hargs:∀ k (hk:k<r.Args.length) p,Y (iH n r.Args[k] x p) (FR (vu x r.Args[k] p)):=fun k hk p=>ih _ p (ha _ (List.getElem_mem hk)) (by have:=ip (List.getElem_mem hk);omega) (by have:=ip (List.getElem_mem hk);omega)
  show Y (mL (iH n) r x p) _
  unfold mL
  rw [FV]
  cases h5:(r.Kind == 5)
  ·cases h6:(r.Kind == 6)
   ·simp only [bC]
    rw [xg hx hr h1000,bc,yq,h5,h6]
    simp only [bC]
    cases i5 r x
    ·exact Y.ret rfl
    exact Y.ret rfl
   simp only [bC,bV]
   cases p with
   | nil=>exact Y.ret rfl
   | cons a t =>
    have e0:((((a::t).length:Nat):Int) == 0)=false:=by rw [beq_eq_false_iff_ne];simp <;> omega
    have ei:idx (a::t) 0=some a:=rfl
    have e6:(cond (!(a::t).isEmpty&&decide (0≤(a::t).headD 0)) (oZ x r.Args ((a::t).headD 0).toNat (a::t).tail) none)=cond (decide (0≤a)) (oZ x r.Args a.toNat t) none:=rfl
    rw [e0,e6]
    simp only [Bool.not_false,cr,ei,bc,Bool.false_or]
    by_cases hneg:a<0
    ·rw [det hneg,bI (show ¬ 0≤a by omega)]
     exact Y.ret rfl
    rw [bI hneg,det (show 0≤a by omega)]
    simp only [Bool.not_false,cr,bc,Bool.false_or,bV]
    obtain ⟨i,rfl⟩:∃ i:Nat,a=(i:Int):=⟨a.toNat,by omega⟩
    rw [Int.toNat_natCast,vw]
    by_cases hi:i<r.Args.length
    ·rw [bI (show ¬ ((r.Args.length:Nat):Int)≤(i:Int) by omega),bC,aB hi,bc,List.getElem?_eq_getElem hi]
     have hs:sub ((i:Int)::t) 1 ((((i:Int)::t).length:Nat):Int)=some t:=by
      have:=jz (xs:=(i:Int)::t) (a:=1) (b:=((i:Int)::t).length) (by simp) (Nat.le_refl _)
      rw [show ((1:Nat):Int)=1 from rfl] at this
      rw [this,List.take_length];rfl
     rw [hs,bc]
     exact (hargs i hi t).bind fun q hq=>Y.ret hq
    rw [det (show ((r.Args.length:Nat):Int)≤(i:Int) by omega),bV,List.getElem?_eq_none (by omega)]
    exact Y.ret rfl
  simp only [bV]
  refine Y.bind (CL (T:=Unit) (x:=x) (l:=r.Args) (by omega) (fun k hk q=>?_) (fun q=>?_) p) fun t ht=>?_
  ·simp only [gT hk,bV,aB hk,bc,bR hk (show r.Args.length≤4611686018427387904 by omega)]
   refine (hargs k hk q).bind fun o ho=>?_
   cases hf:vu x r.Args[k] q with
   | none =>
    rw [hf] at ho
    rw [show o.2=false from ho]
    exact Y.ret ⟨([],false),rfl,rfl⟩
   | some w =>
    rw [hf] at ho
    rw [show o=(w,true) from ho]
    exact Y.ret rfl
  ·simp only [cU,bC]
  cases t with
  | inl q=>dsimp only at ht ⊢;rw [ht];exact Y.ret rfl
  | inr e=>obtain ⟨h1,h2⟩:=ht;dsimp only;rw [h1];exact Y.ret h2
theorem BK {r:Zf} {x:Zm} (hx:VCase x) (hr:dx r=true) (hc:pm r≤32) (p:List Int):ma r x p=some (decide (vu x r p=some [])):=by
 have hd:=oL r
 have hf:FUEL=1267650600228229401496703205376:=rfl
 unfold ma
 obtain ⟨t,e,h⟩:=Aw x hx FUEL r p hr (by omega) (by omega)
 show Option.bind (iH FUEL r x p) _=_
 rw [e,bc,F1 h]
theorem cf_ge (x y:Za):decide (0≤mh x y) = !bq x y:=by
 unfold mh bq
 rcases Int.lt_trichotomy x.Product y.Product with h | h | h
 ·rw [if_pos h];simp [h]
 ·simp only [h,Int.lt_irrefl,if_false,if_true,decide_false,decide_true,Bool.false_or,Bool.true_and]
  rcases Int.lt_trichotomy x.Agreement y.Agreement with h2 | h2 | h2
  ·rw [if_pos h2];simp [h2]
  ·simp [h2]
  rw [if_neg (by omega),if_pos h2,bI (show ¬ x.Agreement<y.Agreement by omega)];rfl
 have h1:¬ x.Product<y.Product:=by omega
 have h3:¬ x.Product=y.Product:=by omega
 simp [h,h1,h3]
theorem vG {α T:Type} (g:Nat→α→Option T):∀ (l:List α) (i:Nat) (t:T),cu g l i=some t→∃ k,∃ h:k<l.length,g (i+k) l[k]=some t
 | [],_,_,e=>by cases e
 | x::l,i,t,e=>by
  rw [cu] at e
  cases hg:g i x with
  | some u=>rw [hg] at e;exact ⟨0,by simp,by rw [← e];exact hg⟩
  | none =>
   rw [hg] at e
   obtain ⟨k,h,hk⟩:=vG g l (i+1) t e
   exact ⟨k+1,by simpa using h,by rw [show i+(k+1)=i+1+k by omega];simpa using hk⟩
theorem vH (a b:List Za) (ha:a.length≤140737488355328):ca a b=some (decide (a=b)):=q9 a b ha
theorem Ax {plan:List Zc} {l:List Zb} (hv:VPs plan) (hl:VAs l) {imp:ByteArray} (m:List (Za×Bool)) {c:Za} (h:iV plan l imp c=true):di ⟨⟨m⟩,plan,l,imp⟩ c=some (nD plan l c):=by
 unfold di
 have hll:=hl.len
 rw [r8 hv,bc]
 dsimp only
 refine (bz (l:=l) (by omega) (fun _ (a:Zb)=>cond (a.ID == c.Agreement) (some (.inr ((dq a (bx plan c.Product).Code).getD qZ))) none) (.inl ()) (fun k hk=>?_) (by simp only [cU,bC])).trans ?_
 ·simp only [gT hk,bV,aB hk,bc,bR hk (show l.length≤4611686018427387904 by omega)]
  cases (l[k].ID == c.Agreement)
  ·rfl
  simp only [bV]
  rw [qk _ _ (hl.all _ (List.getElem_mem hk)),bc,vm];rfl
 rw [iz (fun a:Zb=>a.ID == c.Agreement) (fun a=>(Sum.inr ((dq a (bx plan c.Product).Code).getD qZ):Unit⊕Zf))]
 obtain ⟨a,ha⟩:=Option.isSome_iff_exists.1 (CE h)
 unfold nD jk
 rw [ha]
 unfold jM at ha
 rw [ha];rfl
theorem tC {plan:List Zc} {l:List Zb} {imp:ByteArray} (hl:VAs l) {c:Za} (h:iV plan l imp c=true):ROk (nD plan l c)∧dx (nD plan l c)=true∧pm (nD plan l c)≤32:=n8 hl (Aj h)
theorem Ay (plan:List Zc) (l:List Zb) (imp:ByteArray) (c:Za) (S:CSet):Strict bq (nZ plan l imp c S):=sM ordC _
theorem vI {plan:List Zc} {l:List Zb} (hv:VPs plan) (imp:ByteArray) {c:Za} (S:CSet) (h:iV plan l imp c=true):(nZ plan l imp c S).length≤140737488355328:=by
 have:=Ab hv (l:=l) imp c S (n5 h)
 omega
theorem BL {plan:List Zc} {l:List Zb} (hv:VPs plan) (hl:VAs l) (imp:ByteArray) (m:List (Za×Bool)) (K:CSet) (hK:∀ c,(jX m c).getD false=K c) (p:Zd) (hp:p.Premises.length≤140737488355328) :
    dw ⟨⟨m⟩,plan,l,imp⟩ p=some (kw plan l imp K (se p)):=by
  unfold dw
  have hhas:∀ c,dD ⟨m⟩ c=some (K c):=fun c=>by unfold dD;rw [hK]
  dsimp only
  rw [vk _ _ _ _ hv.sorted hl,bc,hhas]
  unfold kw se
  dsimp only
  cases hadm:iV plan l imp p.Claim with
  | false=>rfl
  | true =>
    simp only [Bool.not_true,Bool.not_false,cr,bc,Bool.false_or,Bool.true_and]
    cases hk:K p.Claim with
    | true=>rfl
    | false =>
      simp only [bC,Bool.not_false,Bool.true_and]
      refine (bz (l:=p.Premises) (by omega) (fun k x=>cond (K x&&(!decide (0<k)||bq (p.Premises.getD (k - 1) x) x)) none (some (.inr false))) (.inl ()) (fun k hk=>?_) (by simp only [cU,bC])).trans ?_
      · simp only [gT hk,bV,aB hk,bc,bR hk (show p.Premises.length≤4611686018427387904 by omega),A6,hhas]
        cases hkx:K p.Premises[k]
        · rfl
        by_cases h0:0<k
        · simp only [h0,decide_true,Bool.not_true,Bool.not_false,Bool.true_and,cr,fG h0 hk (show p.Premises.length≤4611686018427387904 by omega),bc,A9,cf_ge,Bool.false_or,fc (show k - 1<p.Premises.length by omega)]
          cases bq (p.Premises[k-1]'(by omega)) p.Premises[k] <;> rfl
        simp only [h0,decide_false,Bool.not_true,Bool.not_false,Bool.true_and,jb,bc,Bool.false_and,Bool.false_or,Bool.true_or,bC,bV];rfl
      cases hf:cu (fun k x=>cond (K x&&(!decide (0<k)||bq (p.Premises.getD (k - 1) x) x)) none (some (Sum.inr false:Unit⊕Bool))) p.Premises 0 with
      | none =>
        have hall:=tB _ _ _ hf
        have hKall:p.Premises.all K=true:=by
          rw [List.all_eq_true]
          intro x hx
          obtain ⟨k,hk,rfl⟩:=List.getElem_of_mem hx
          have:=hall k hk
          cases hc:K p.Premises[k] with
          | true=>rfl
          | false=>rw [hc] at this;cases this
        rw [hKall]
        simp only [Option.getD_none]
        rw [xa hv hl imp _ _ hp,bc]
        unfold tu
        rw [hadm]
        simp only [bV]
        rw [vH _ _ (vI hv imp _ hadm),bc]
        cases hd:decide (nZ plan l imp p.Claim (aJ p.Premises)=p.Premises) with
        | false=>rfl
        | true =>
          simp only [Bool.not_true,bC,Bool.true_and]
          obtain ⟨k1,k2,k3⟩:=tC hl hadm
          rw [Ax hv hl m hadm,bc,Av (oW hv imp _ _ (n5 hadm)) k1 k2 k3]
          rfl
      | some t =>
        obtain ⟨k,hk,hg⟩:=vG _ _ _ _ hf
        rw [Nat.zero_add] at hg
        have ht:t=.inr false∧(K p.Premises[k]&&(!decide (0<k)||bq (p.Premises.getD (k - 1) p.Premises[k]) p.Premises[k]))=false:=by
          cases hc:(K p.Premises[k]&&(!decide (0<k)||bq (p.Premises.getD (k - 1) p.Premises[k]) p.Premises[k])) with
          | true=>rw [hc] at hg;cases hg
          | false=>rw [hc] at hg;injection hg with hg;exact ⟨hg.symm,rfl⟩
        obtain ⟨rfl,hbad⟩:=ht
        have hfalse:(p.Premises.all K&&decide (nZ plan l imp p.Claim (aJ p.Premises)=p.Premises))=false:=by
          cases hc:(p.Premises.all K&&decide (nZ plan l imp p.Claim (aJ p.Premises)=p.Premises)) with
          | false=>rfl
          | true =>
            rw [Bool.and_eq_true] at hc
            have h1:=List.all_eq_true.1 hc.1 _ (List.getElem_mem hk)
            have h2:=Ay plan l imp p.Claim (aJ p.Premises)
            rw [of_decide_eq_true hc.2] at h2
            rw [h1,Bool.true_and] at hbad
            by_cases h0:0<k
            · rw [det h0,Bool.not_true,Bool.false_or,fc (show k - 1<p.Premises.length by omega)] at hbad
              have:=List.pairwise_iff_getElem.1 h2 (k - 1) k (by omega) hk (by omega)
              rw [this] at hbad;cases hbad
            rw [bI h0] at hbad;cases hbad
        rw [hfalse];rfl
theorem DL {plan:List Zc} {l:List Zb} (hv:VPs plan) (hl:VAs l) (imp:ByteArray) (set:List Za) (hs:set.length≤1000000) (p:Zd) (hp:p.Premises.length≤140737488355328) (v:Int) {β:Type}
    (K:List Za→Option (β⊕((List Zd)⊕(Int×Int)))) {Q:Unit⊕(β⊕((List Zd)⊕(Int×Int)))→Option (β⊕((List Zd)⊕(Int×Int)))}
    (hQ1:Q (.inl ())=Option.bind (gY plan l imp p.Claim p.Premises) (fun x21=>Option.bind (fK plan p.Claim.Product) (fun x23=>Option.bind (fi l p.Claim.Agreement) (fun x25=>Option.bind (gt x25.1 x23.1.Code) (fun x27=>Option.bind (iQ x21.2 p.Premises) (fun x29=>Option.bind (gd (!(!x29)) (ma x27.1 x21.1 p.Path)) (fun x30=>cond ((!x29)||(!x30)) (some (.inr (.inr (v,(10:Int))))) (Option.bind (em set p.Claim) K)))))))) (hQ2:∀ e,Q (.inr e)=some e) :
    Option.bind (dS plan l imp p.Claim) (fun x11=>Option.bind (gd (!(!x11)) (cM set p.Claim)) (fun x12=>cond ((!x11)||x12) (some (.inr (.inr (v,(10:Int))))) (Option.bind (aO (S:=Int) (T:=(Unit)⊕(β⊕((List Zd)⊕(Int×Int)))) (fun v14=>cond (decide (v14<(p.Premises.length:Int))) (Option.bind (idx p.Premises v14) (fun m18=>Option.bind (cM set m18) (fun x19=>cond (!x19) (some (.inr (.inr (.inr (.inr (v,(10:Int))))))) (some (.inl (IntKind.i64.wrap (v14+1))))))) (some (.inr (.inl ())))) FUEL 0) Q)))
    = cond (kw plan l imp (aJ set) (se p)) (K (ii bq set p.Claim)) (some (.inr (.inr (v,10)))):=by
  rw [yh _ _ _ _ (by have:=hv.len;omega) hl,bc]
  unfold kw se
  dsimp only
  cases hadm:iV plan l imp p.Claim with
  | false=>rfl
  | true =>
    simp only [Bool.not_true,Bool.not_false,cr,Bool.false_or,Bool.true_and,ml _ _ (show set.length≤140737488355328 by omega),bc]
    cases hk:aJ set p.Claim with
    | true=>rfl
    | false =>
      simp only [bC,Bool.not_false,Bool.true_and]
      refine (bz (l:=p.Premises) (by omega) (fun _ x=>cond (!aJ set x) (some (.inr (.inr (.inr (v,(10:Int)))))) none) (.inl ()) (fun k hk=>?_) (by simp only [cU,bC])).trans ?_
      · simp only [gT hk,bV,aB hk,bc,bR hk (show p.Premises.length≤4611686018427387904 by omega)]
        cases aJ set p.Premises[k] <;> rfl
      rw [iz (fun x:Za => !aJ set x) (fun _=>(Sum.inr (Sum.inr (Sum.inr (v,(10:Int)))):Unit⊕(β⊕((List Zd)⊕(Int×Int)))))]
      cases hf:p.Premises.find? (fun x => !aJ set x) with
      | some y =>
        have h1:=List.mem_of_find?_eq_some hf
        have h2:=List.find?_some hf
        have:p.Premises.all (aJ set)=false:=by
          rw [List.all_eq_false]
          exact ⟨y,h1,by simpa using h2⟩
        rw [this]
        simp only [Option.map_some,Option.getD_some]
        rw [hQ2];rfl
      | none =>
        have hall:p.Premises.all (aJ set)=true:=by
          rw [List.all_eq_true]
          intro y hy
          have:=List.find?_eq_none.1 hf y hy
          simpa using this
        rw [hall]
        simp only [Option.map_none,Option.getD_none]
        rw [hQ1]
        have hA:(jM l p.Claim.Agreement).isSome=true:=CE hadm
        obtain ⟨a,hfa⟩:=Option.isSome_iff_exists.1 hA
        have hva:=(mO hl hfa).1
        have hru:dq a (bx plan p.Claim.Product).Code=dq (jk l p.Claim.Agreement) (bx plan p.Claim.Product).Code:=by unfold jk;rw [hfa];rfl
        rw [z7 hv hl imp _ _ hp,bc,qN hv,bc,qJ _ _ (by have:=hl.len;omega),bc,vm,hfa]
        dsimp only [Option.getD_some]
        rw [oR _ _ hva.ok.len,bc,vm,hru]
        unfold tu
        rw [hadm]
        simp only [bV]
        rw [q9 _ _ (vI hv imp _ hadm),bc]
        cases hd:decide (nZ plan l imp p.Claim (aJ p.Premises)=p.Premises) with
        | false=>rfl
        | true =>
          obtain ⟨k1,k2,k3⟩:=tC hl hadm
          simp only [Bool.not_true,Bool.not_false,cr,Bool.false_or,Bool.true_and]
          have hver:=BK (oW (l:=l) hv imp p.Claim (aJ p.Premises) (n5 hadm)) k2 k3 p.Path
          unfold nD at hver ⊢
          rw [hver,bc]
          cases decide (vu (jN plan l imp p.Claim (aJ p.Premises)) ((dq (jk l p.Claim.Agreement) (bx plan p.Claim.Product).Code).getD qZ) p.Path=some [])
          · rfl
          simp only [Bool.not_true,bC,bV]
          rw [qM _ _ (by omega),bc]
def f9 (plan:List Zc) (l:List Zb) (imp:ByteArray):List Za→List Prf→Nat→Int×Int
 | _,[],k=>((k:Int),0)
 | K,p::ps,k=>cond (kw plan l imp (aJ K) p) (f9 plan l imp (K++[p.1]) ps (k+1)) ((k:Int),10)
theorem vJ {plan:List Zc} {l:List Zb} {imp:ByteArray}:∀ (ps:List Prf) (K:List Za) (k:Nat),(f9 plan l imp K ps k).2=0→okD plan l imp K ps=true
 | [],K,k,_=>rfl
 | p::ps,K,k,h=>by
  rw [f9] at h
  rw [okD]
  cases hr:kw plan l imp (aJ K) p with
  | false=>rw [hr] at h;cases h
  | true=>rw [hr] at h;rw [Bool.true_and];exact vJ ps _ _ h
structure XSm (x:List Zd):Prop where
 len:x.length≤1000000
 prem:∀ p∈x,p.Premises.length≤140737488355328
theorem vK {x:List Zd} {k:Nat} (h:k<x.length):(x.take (k+1)).map (·.Claim)=(x.take k).map (·.Claim)++[x[k].Claim]:=by rw [DJ h,List.map_append];rfl
theorem vL {plan:List Zc} {l:List Zb} {imp:ByteArray} {x:List Zd} {k:Nat} (h:k<x.length):f9 plan l imp ((x.take k).map (·.Claim)) ((x.drop k).map se) k=cond (kw plan l imp (aJ ((x.take k).map (·.Claim))) (se x[k])) (f9 plan l imp ((x.take (k+1)).map (·.Claim)) ((x.drop (k+1)).map se) (k+1)) ((k:Int),10):=by
 rw [List.drop_eq_getElem_cons h,List.map_cons,f9,vK h];rfl
theorem BM {plan:List Zc} {l:List Zb} (hv:VPs plan) (hl:VAs l) {imp:ByteArray} (h1:dc plan=some 0) (h2:db l=some 0) (h3:bS imp=some true) {x:List Zd} (hx:XSm x):cR plan l imp x=some (f9 plan l imp [] (x.map se) 0):=by
 have key:Y (cR plan l imp x) (fun r=>r=f9 plan l imp [] (x.map se) 0):=by
  unfold cR
  have hlen:=hx.len
  rw [h1,bc,show ((0:Int) != 0)=false from rfl,bC,h2,bc,show ((0:Int) != 0)=false from rfl,bC,h3,bc,Bool.not_true,bC]
  refine Y.bind (P:=fun t=>match t with | .inl _=>f9 plan l imp [] (x.map se) 0=((x.length:Int),0) | .inr e=>e=f9 plan l imp [] (x.map se) 0) ?_ fun t ht=>?_
  ·refine Y.loop (fun s:Int×List (Za×Bool)=>∃ k:Nat,s.1=(k:Int)∧k≤x.length∧(∀ c,(jX s.2 c).getD false=aJ ((x.take k).map (·.Claim)) c)∧f9 plan l imp ((x.take k).map (·.Claim)) ((x.drop k).map se) k=f9 plan l imp [] (x.map se) 0) (fun s=>(x.length - s.1).toNat) ⟨0,rfl,by omega,fun c=>rfl,rfl⟩ (by show ((x.length:Int) - 0).toNat≤_;omega) (fun s hs=>?_)
   obtain ⟨v,m⟩:=s
   obtain ⟨k,hvk,hk,hm,he⟩:=hs
   dsimp only at hvk hm he ⊢
   subst hvk
   rcases Nat.lt_or_ge k x.length with hk2 | hk2
   rotate_left
   ·have e:k=x.length:=by omega
    subst e
    rw [cU,bC]
    rw [List.drop_length] at he
    exact Y.ret he.symm
   rw [gT hk2,bV,aB hk2,bc,BL hv hl imp m _ hm _ (hx.prem _ (List.getElem_mem hk2)),bc]
   rw [vL hk2] at he
   cases hr:kw plan l imp (aJ ((x.take k).map (·.Claim))) (se x[k]) with
   | false=>rw [hr] at he;exact Y.ret he
   | true =>
    rw [hr,bV] at he
    simp only [Bool.not_true,bC]
    unfold fR
    rw [bc,bR hk2 (by omega)]
    refine Y.ret ⟨⟨k+1,rfl,by omega,fun c=>?_,he⟩,?_⟩
    ·dsimp only
     rw [w5,vK hk2]
     by_cases e:x[k].Claim=c
     ·rw [if_pos e]
      have:aJ ((x.take k).map (·.Claim)++[x[k].Claim]) c=true:=fw.2 (List.mem_append.2 (.inr (by simp [e])))
      rw [this];rfl
     rw [if_neg e,hm,Bool.eq_iff_iff,fw,fw,List.mem_append,List.mem_singleton]
     exact ⟨.inl,fun h=>h.resolve_right fun h=>e h.symm⟩
    show ((x.length:Int) - ((k+1:Nat):Int)).toNat<((x.length:Int) - (k:Int)).toNat;omega
  cases t with
  | inl u=>exact Y.ret (show ((x.length:Int),(0:Int))=_ from Eq.symm ht)
  | inr e=>exact Y.ret ht
 obtain ⟨r,e,rfl⟩:=key
 exact e
theorem DM {plan:List Zc} {l:List Zb} (hv:VPs plan) (hl:VAs l) {imp:ByteArray} {w:List Zd} (h1:lv plan l imp=some (w,0)) {x:List Zd} (hx:XSm x):mZ plan l imp x=some (f9 plan l imp [] (x.map se) 0):=by
 have key:Y (mZ plan l imp x) (fun r=>r=f9 plan l imp [] (x.map se) 0):=by
  unfold mZ
  have hlen:=hx.len
  rw [h1,bc,show ((0:Int) != 0)=false from rfl,bC]
  refine Y.bind (P:=fun t=>match t with | .inl y=>y=x∧f9 plan l imp [] (x.map se) 0=((x.length:Int),0) | .inr e=>e=f9 plan l imp [] (x.map se) 0) ?_ fun t ht=>?_
  ·refine Y.loop (fun s:List Za×Int=>∃ k:Nat,s.2=(k:Int)∧k≤x.length∧s.1.length≤k∧(∀ c,aJ s.1 c=aJ ((x.take k).map (·.Claim)) c)∧f9 plan l imp ((x.take k).map (·.Claim)) ((x.drop k).map se) k=f9 plan l imp [] (x.map se) 0) (fun s=>(x.length - s.2).toNat) ⟨0,rfl,by omega,by simp,fun c=>rfl,rfl⟩ (by show ((x.length:Int) - 0).toNat≤_;omega) (fun s hs=>?_)
   obtain ⟨set,v⟩:=s
   obtain ⟨k,hvk,hk,hsl,hm,he⟩:=hs
   dsimp only at hvk hsl hm he ⊢
   subst hvk
   rcases Nat.lt_or_ge k x.length with hk2 | hk2
   rotate_left
   ·have e:k=x.length:=by omega
    subst e
    rw [cU,bC]
    rw [List.drop_length] at he
    exact Y.ret ⟨rfl,he.symm⟩
   rw [gT hk2,bV,aB hk2,bc]
   have hms:aJ set=aJ ((x.take k).map (·.Claim)):=funext hm
   rw [vL hk2] at he
   refine Exists.intro (cond (kw plan l imp (aJ set) (se x[k])) (.inl (ii bq set x[k].Claim,((k+1:Nat):Int))) (.inr (.inr ((k:Int),10)))) ⟨(DL hv hl imp set (by omega) x[k] (hx.prem _ (List.getElem_mem hk2)) (k:Int) _ rfl (fun _=>rfl)).trans ?_,?_⟩
   ·rw [bR hk2 (by omega)]
    cases kw plan l imp (aJ set) (se x[k]) <;> rfl
   rw [hms]
   cases hr:kw plan l imp (aJ ((x.take k).map (·.Claim))) (se x[k]) with
   | false=>rw [hr] at he;exact he
   | true =>
    rw [hr,bV] at he
    refine ⟨⟨k+1,rfl,by omega,?_,fun c=>?_,he⟩,?_⟩
    ·have:=kr (lt:=bq) set x[k].Claim;dsimp only;omega
    ·dsimp only
     rw [Bool.eq_iff_iff,fw,r5,fw,vK hk2,List.mem_append,List.mem_singleton]
     have:=hm c
     rw [Bool.eq_iff_iff,fw,fw] at this
     rw [this]
     exact Or.comm
    show ((x.length:Int) - ((k+1:Nat):Int)).toNat<((x.length:Int) - (k:Int)).toNat;omega
  cases t with
  | inl u=>obtain ⟨rfl,h⟩:=ht;exact Y.ret (show ((u.length:Int),(0:Int))=_ from Eq.symm h)
  | inr e=>exact Y.ret ht
 obtain ⟨r,e,rfl⟩:=key
 exact e
theorem BN {p:List Zc} {l:List Zb} {imp:ByteArray} (h1:MPs p) (h2:MAs l) (h3:imp∈C6) {x:List Zd} (hx:XSm x):cR p l imp x=some (f9 p l imp [] (x.map se) 0)∧mZ p l imp x=some (f9 p l imp [] (x.map se) 0):=by
 have hv:=h1.vps
 obtain ⟨_,s2⟩:=vF h1 h2 h3
 refine ⟨BM hv h2.vas (vE hv h1.vids) ?_ ?_ hx,DM hv h2.vas s2 hx⟩
 ·rw [zQ l h2.ok,h2.valid]
 rw [lg,C6_ctry h3]

structure PSm (M:Nat) (p:Zd):Prop where
 path:p.Path.length≤M
 prem:p.Premises.length≤M
structure CSm (n M:Nat) (x:List Zd):Prop where
 len:x.length≤n
 all:∀ p∈x,PSm M p
theorem qv {M:Nat} {p:Zd} (h:PSm M p):PSm (M+1) p:=⟨by have:=h.path;omega,by have:=h.prem;omega⟩
theorem yy {α:Type} {l:List α} {i:Nat} {a x:α} (h:x∈l.set i a):x∈l∨x=a:=by
 rcases List.mem_or_eq_of_mem_set h with h | h
 ·exact .inl h
 exact .inr h
theorem F3 {x:List Zd} {n M:Nat} (hx:CSm n M x) (hn:n≤1000000) (hM:M≤1000000) (a b c:Int):Y (ka x a b c) (CSm (n+1) (M+1)):=by
 unfold ka
 have hlen:=hx.len
 rw [cF (by simp only [List.length_nil];omega) (by simp only [List.length_nil];omega),bc,List.nil_append]
 have up:CSm (n+1) (M+1) x:=⟨by omega,fun p hp=>qv (hx.all p hp)⟩
 refine Y.cond (fun _=>Y.ret up) (fun hc=>?_)
 have hpos:0<x.length:=by
  rcases Nat.eq_zero_or_pos x.length with h | h
  ·rw [h] at hc;cases hc
  exact h
 refine (iK a (x.length:Int) (by omega) (by omega)).bind fun k hk=>?_
 obtain ⟨i,rfl⟩:∃ i:Nat,k=(i:Int):=⟨k.toNat,by omega⟩
 have hi:i<x.length:=by omega
 rw [aB hi,bc]
 have hpi:=hx.all _ (List.getElem_mem hi)
 refine (iK b 9 (by omega) (by omega)).bind fun w _=>?_
 refine Y.bind (P:=fun q=>match q with | .inl t=>t.2.2.1.length≤M+1∧t.2.2.2.length≤M+1 | .inr r=>CSm (n+1) (M+1) r) ?_ fun q hq=>?_
 ·have h0:x[i].Path.length≤M+1∧x[i].Premises.length≤M+1:=by have:=hpi.path;have:=hpi.prem;omega
  have h1:=hpi.path;have h2:=hpi.prem
  refine Y.cond (fun _=>?_) (fun _=>Y.cond (fun _=>?_) (fun _=>Y.cond (fun _=>?_) (fun _=>Y.cond (fun _=>?_) (fun _=>Y.cond (fun _=>?_) (fun _=>Y.cond (fun _=>?_) (fun _=>Y.cond (fun _=>?_) (fun _=>Y.cond (fun _=>?_) (fun _=>?_))))))))
  ·exact (iK c 12 (by omega) (by omega)).bind fun y _=>Y.ret h0
  ·exact (iK c 5 (by omega) (by omega)).bind fun y _=>Y.ret h0
  ·rw [cF (by simp only [List.length_nil];omega) (by simp only [List.length_nil];omega),bc,List.nil_append]
   refine (iK c 3 (by omega) (by omega)).bind fun y _=>?_
   rw [cF (by simp only [List.length_cons,List.length_nil];omega) (by simp only [List.length_cons,List.length_nil];omega),bc]
   exact Y.ret ⟨by simp only [List.length_append,List.length_cons,List.length_nil];omega,h0.2⟩
  ·refine Y.cond (fun hc=>?_) (fun _=>Y.ret h0)
   have hc:=of_decide_eq_true hc
   rw [cF (by simp only [List.length_nil];omega) (by simp only [List.length_nil];omega),bc,List.nil_append]
   refine (iK c (x[i].Path.length:Int) (by omega) (by omega)).bind fun y hy=>?_
   refine (iK (cK .i64 c 4) 4 (by omega) (by omega)).bind fun z _=>?_
   obtain ⟨j,rfl⟩:∃ j:Nat,y=(j:Int):=⟨y.toNat,by omega⟩
   rw [aB (show j<x[i].Path.length by omega),bc]
   exact Y.ret ⟨by dsimp only;rw [List.length_set];omega,h0.2⟩
  ·refine Y.cond (fun hc=>?_) (fun _=>Y.ret h0)
   rw [F0 (show x[i].Premises.length≤4611686018427387904 by omega)]
   refine (iK c (((x[i].Premises.length+1:Nat)):Int) (by omega) (by omega)).bind fun y hy=>?_
   obtain ⟨j,rfl⟩:∃ j:Nat,y=(j:Int):=⟨y.toNat,by omega⟩
   rw [jz (show j≤x[i].Premises.length by omega) (Nat.le_refl _),bc]
   exact Y.ret ⟨h0.1,by dsimp only;rw [List.length_drop,List.length_take];omega⟩
  ·refine (iK c (x.length:Int) (by omega) (by omega)).bind fun y hy=>?_
   obtain ⟨j,rfl⟩:∃ j:Nat,y=(j:Int):=⟨y.toNat,by omega⟩
   rw [aB (show j<x.length by omega),bc,qM _ _ (by omega),bc]
   exact Y.ret ⟨h0.1,by have:=kr (lt:=bq) x[i].Premises (x[j]'(by omega)).Claim;dsimp only;omega⟩
  ·refine (iK c (x.length:Int) (by omega) (by omega)).bind fun y hy=>?_
   obtain ⟨j,rfl⟩:∃ j:Nat,y=(j:Int):=⟨y.toNat,by omega⟩
   have hj:j<x.length:=by omega
   simp only [aB hj,aB hi,bc,Int.toNat_natCast]
   rw [aB (show j<(x.set i x[j]).length by rw [List.length_set];exact hj),bc]
   refine Y.ret ⟨by rw [List.length_set,List.length_set];omega,fun p hp=>?_⟩
   rcases yy hp with hp | rfl
   ·rcases yy hp with hp | rfl
    ·exact qv (hx.all p hp)
    exact qv (hx.all _ (List.getElem_mem hj))
   exact qv hpi
  ·have s1:sub x 0 (i:Int)=some ((x.take i).drop 0):=jz (a:=0) (by omega) (by omega)
   have s2:sub x ((i+1:Nat):Int) (x.length:Int)=some ((x.take x.length).drop (i+1)):=jz (by omega) (Nat.le_refl _)
   rw [s1,bc,F0 (by omega),s2,bc,List.drop_zero,List.take_length]
   have l1:(x.take i).length≤x.length:=by rw [List.length_take];omega
   have l2:(x.drop (i+1)).length≤x.length:=by rw [List.length_drop];omega
   rw [cF (by simp only [List.length_nil];omega) (by simp only [List.length_nil];omega),bc,List.nil_append,cF (by omega) (by omega),bc]
   refine Y.ret ⟨by rw [List.length_append,List.length_take,List.length_drop];omega,fun p hp=>qv (hx.all p ?_)⟩
   rcases List.mem_append.1 hp with hp | hp
   ·exact List.mem_of_mem_take hp
   exact List.mem_of_mem_drop hp
  rw [bc,cF (by simp only [List.length_cons,List.length_nil];omega) (by simp only [List.length_cons,List.length_nil];omega),bc]
  refine Y.ret ⟨by rw [List.length_append,List.length_singleton];omega,fun p hp=>?_⟩
  rcases List.mem_append.1 hp with hp | hp
  ·exact qv (hx.all p hp)
  rw [List.mem_singleton.1 hp];exact qv hpi
 cases q with
 | inr r=>exact Y.ret hq
 | inl t =>
  obtain ⟨t1,t2,t3,t4⟩:=t
  obtain ⟨q1,q2⟩:=hq
  dsimp only at q1 q2 ⊢
  rw [bc,Int.toNat_natCast]
  refine Y.ret ⟨by rw [List.length_set];omega,fun p hp=>?_⟩
  rcases yy hp with hp | rfl
  ·exact qv (hx.all p hp)
  exact ⟨q1,q2⟩
theorem DN {plan:List Zc} {l:List Zb} (hv:VPs plan) (hl:VAs l) (ha:AscA l) (imp:ByteArray):CSm 64000 1000 ((lM plan l imp).map o6):=by
 obtain ⟨h1,h2⟩:=tA hv hl ha imp
 refine ⟨by rw [List.length_map];exact h1,fun p hp=>?_⟩
 obtain ⟨q,hq,rfl⟩:=List.mem_map.1 hp
 have:=h2 q hq
 exact ⟨this.1,show q.2.2.length≤1000 by omega⟩
theorem F4 {κ:Kr} {p:Zd} {ds:List Value} (h:Rps κ (Zd.enc p) ds):p.Path.length≤140737488355328∧p.Premises.length≤140737488355328 :=
 ⟨by have:=uc (k:=2) h rfl;simpa using this,by have:=uc (k:=3) h rfl;simpa using this⟩
theorem DO {κ:Kr} {l:List Zd} {ds:List Value} (h:Rps κ (eL Zd.enc l) ds):∀ p∈l,p.Path.length≤140737488355328∧p.Premises.length≤140737488355328:=fun p hp=>by
 obtain ⟨ds,hd⟩:=vf (k:=0) h rfl (List.mem_map_of_mem (f:=Zd.enc) hp)
 exact F4 hd
theorem qw (m0 m1:List Int) (m2 m3 m4 m5:Int) (m6:List Zd) {κ:Kr} {v0 v1 v2 v3 v4 v5 v6:List Value} (_:Rps κ (eL eI m0) v0) (_:Rps κ (eL eI m1) v1) (_:Rps κ (eI m2) v2) (_:Rps κ (eI m3) v3) (_:Rps κ (eI m4) v4) (_:Rps κ (eI m5) v5) (s6:Rps κ (eL Zd.enc m6) v6):eu m0 m1 m2 m3 m4 m5 m6=some true:=by
 have hraw:=DO s6
 have key:Y (eu m0 m1 m2 m3 m4 m5 m6) (fun r=>r=true):=by
  unfold eu
  obtain ⟨p,e1,h1⟩:=plan_Y m0
  obtain ⟨l,e2,h2⟩:=yd m1
  obtain ⟨imp,e4,h4⟩:=Bj m2
  rw [e1,bc,e2,bc,e4,bc]
  have hv:=h1.vps
  obtain ⟨s1,_⟩:=vF h1 h2 h4
  rw [s1,bc]
  have hcs:=DN hv h2.vas h2.asc imp
  refine (F3 hcs (by omega) (by omega) m3 m4 m5).bind fun x hx=>?_
  refine Y.bind (P:=XSm) ?_ fun y hy=>?_
  ·refine Y.loop (fun s:List Zd×Int=>∃ k:Nat,s.2=(k:Int)∧k≤5∧s.1.length≤x.length+k∧∀ q∈s.1,q.Premises.length≤140737488355328) (fun s=>(5 - s.2).toNat) ⟨0,rfl,by omega,by simp,fun q hq=>by have:=(hx.all q hq).prem;omega⟩ (by show ((5:Int) - 0).toNat≤_;omega) (fun s hs=>?_)
   obtain ⟨z,v⟩:=s
   obtain ⟨k,hvk,hk,hl,hz⟩:=hs
   dsimp only at hvk hl hz ⊢
   subst hvk
   have hxl:=hx.len
   refine Y.cond (fun hc=>?_) (fun hc=>Y.ret ⟨by omega,hz⟩)
   rw [Bool.and_eq_true] at hc
   have c1:=of_decide_eq_true hc.1;have c2:=of_decide_eq_true hc.2
   have hk6:k<m6.length:=by omega
   rw [aB hk6,bc,cF (by simp only [List.length_cons,List.length_nil];omega) (by simp only [List.length_cons,List.length_nil];omega),bc,F0 (by omega)]
   refine Y.ret ⟨⟨k+1,rfl,by omega,by dsimp only;rw [List.length_append,List.length_singleton];omega,fun q hq=>?_⟩,?_⟩
   ·rcases List.mem_append.1 hq with hq | hq
    ·exact hz q hq
    rw [List.mem_singleton.1 hq];exact (hraw _ (List.getElem_mem hk6)).2
   show ((5:Int) - ((k+1:Nat):Int)).toNat<((5:Int) - (k:Int)).toNat;omega
  rw [(BN h1 h2 h4 hy).1,bc]
  refine Y.cond (fun _=>?_) (fun hc=>?_)
  ·rw [CK,bc];exact Y.ret rfl
  have hz:(f9 p l imp [] (y.map se) 0).2=0:=by
   cases h:((f9 p l imp [] (y.map se) 0).2 == 0) with
   | true=>exact eq_of_beq h
   | false=>simp only [bne,h] at hc;cases hc
  have hok:=vJ _ _ _ hz
  have hall:=xf hv h2.vas h2.asc imp (y.map se) [] (fun c hc=>by cases hc) hok
  have hyl:=hy.len
  refine (show Y _ _ from ⟨true,(bz (l:=y) (by omega) (fun _ _=>none) (.inl ()) (fun k hk=>?_) (by simp only [cU,bC])).trans ?_,rfl⟩)
  ·simp only [gT hk,bV,aB hk,bc,bR hk (show y.length≤4611686018427387904 by omega)]
   have:=hall (se y[k]) (List.mem_map_of_mem (List.getElem_mem hk))
   rw [DI hv h2.vas h2.asc,bc,show kv p l imp y[k].Claim=true from this]
   rfl
  rw [mt]
  show Option.bind jJ _=_
  rw [CK];rfl
 obtain ⟨r,e,rfl⟩:=key
 exact e
def bd3:Nat→Int→Prop:=fun _ _=>True
theorem op3 {H:Type} {eh:TypeId×Value→H} {nb:Nat}:Opens eh nb 3 eI (bd3 nb):=Do rfl
def bd22:Nat→(List Int)→Prop:=fun n l=>l.length*8≤140737488355328∧l.length≤n∧∀ x∈l,bd3 n x
theorem op22 {H:Type} {eh:TypeId×Value→H} {nb:Nat}:Opens eh nb 22 (eL eI) (bd22 nb):=qg rfl rfl rfl rfl op3
def bd28:Nat→Za→Prop:=fun n m=>bd3 n m.Product∧bd3 n m.Agreement∧True
theorem op28 {H:Type} {eh:TypeId×Value→H} {nb:Nat}:Opens eh nb 28 Za.enc (bd28 nb):=fun W fuel cs x hx hw hbk=>by
 obtain ⟨xs,n,rfl,rfl,hl,hlen,hf⟩:=DataW.trod_struct (bE (t:=28) rfl) hx
 obtain ⟨x0,x1,rfl⟩:∃ x0 x1,xs=[x0,x1]:=by
  match xs,hlen with
  | [a0,a1],_=>exact ⟨a0,a1,rfl⟩
 have hw2:∀ n∈DataW.weightsEach Tryz.prog [3,3] [x0.1,x1.1],n≤reachBytes:=fun n hn=>hw n (by simp only [DataW.weights,bE (t:=28) rfl];exact hn)
 simp only [DataW.weightsEach,List.mem_append] at hw2
 simp only [Rows.uptoBulk,List.map_cons,List.map_nil,Rows.uptoBulkAll] at hbk
 have g0:DataW.trod eh Tryz.prog W 0 (fun _=>true) true n 3 ((cs.drop 0).take (Tryz.prog.cellsOf 3))=some x0:=hf 0 _ rfl
 rw [(gD (t:=3) rfl).1] at g0
 obtain ⟨m0,r0,o0,c0⟩:=op3 (nb:=nb) W n _ _ g0 (fun n hn=>hw2 n (.inl hn)) (by omega)
 have g1:DataW.trod eh Tryz.prog W 0 (fun _=>true) true n 3 ((cs.drop 1).take (Tryz.prog.cellsOf 3))=some x1:=hf 1 _ rfl
 rw [(gD (t:=3) rfl).1] at g1
 obtain ⟨m1,r1,o1,c1⟩:=op3 (nb:=nb) W n _ _ g1 (fun n hn=>hw2 n (.inr (.inl hn))) (by omega)
 have hl2:cs.length=2:=hl.trans (gD (t:=28) rfl).1
 exact ⟨(⟨m0,m1⟩:Za),(qi (off:=0) r0 (qi (off:=1) r1 (Cm hl2))),(qj (off:=0) o0 (qj (off:=1) o1 (Cn hl2))),⟨c0,c1,trivial⟩⟩
def bd31:Nat→(List Za)→Prop:=fun n l=>l.length*16≤140737488355328∧l.length≤n∧∀ x∈l,bd28 n x
theorem op31 {H:Type} {eh:TypeId×Value→H} {nb:Nat}:Opens eh nb 31 (eL Za.enc) (bd31 nb):=qg rfl rfl rfl rfl op28
def bd61:Nat→Zd→Prop:=fun n m=>bd28 n m.Claim∧bd22 n m.Path∧bd31 n m.Premises∧True
theorem op61 {H:Type} {eh:TypeId×Value→H} {nb:Nat}:Opens eh nb 61 Zd.enc (bd61 nb):=fun W fuel cs x hx hw hbk=>by
 obtain ⟨xs,n,rfl,rfl,hl,hlen,hf⟩:=DataW.trod_struct (bE (t:=61) rfl) hx
 obtain ⟨x0,x1,x2,rfl⟩:∃ x0 x1 x2,xs=[x0,x1,x2]:=by
  match xs,hlen with
  | [a0,a1,a2],_=>exact ⟨a0,a1,a2,rfl⟩
 have hw2:∀ n∈DataW.weightsEach Tryz.prog [28,22,31] [x0.1,x1.1,x2.1],n≤reachBytes:=fun n hn=>hw n (by simp only [DataW.weights,bE (t:=61) rfl];exact hn)
 simp only [DataW.weightsEach,List.mem_append] at hw2
 simp only [Rows.uptoBulk,List.map_cons,List.map_nil,Rows.uptoBulkAll] at hbk
 have g0:DataW.trod eh Tryz.prog W 0 (fun _=>true) true n 28 ((cs.drop 0).take (Tryz.prog.cellsOf 28))=some x0:=hf 0 _ rfl
 rw [(gD (t:=28) rfl).1] at g0
 obtain ⟨m0,r0,o0,c0⟩:=op28 (nb:=nb) W n _ _ g0 (fun n hn=>hw2 n (.inl hn)) (by omega)
 have g1:DataW.trod eh Tryz.prog W 0 (fun _=>true) true n 22 ((cs.drop 2).take (Tryz.prog.cellsOf 22))=some x1:=hf 1 _ rfl
 rw [(gD (t:=22) rfl).1] at g1
 obtain ⟨m1,r1,o1,c1⟩:=op22 (nb:=nb) W n _ _ g1 (fun n hn=>hw2 n (.inr (.inl hn))) (by omega)
 have g2:DataW.trod eh Tryz.prog W 0 (fun _=>true) true n 31 ((cs.drop 3).take (Tryz.prog.cellsOf 31))=some x2:=hf 2 _ rfl
 rw [(gD (t:=31) rfl).1] at g2
 obtain ⟨m2,r2,o2,c2⟩:=op31 (nb:=nb) W n _ _ g2 (fun n hn=>hw2 n (.inr (.inr (.inl hn)))) (by omega)
 have hl2:cs.length=4:=hl.trans (gD (t:=61) rfl).1
 exact ⟨(⟨m0,m1,m2⟩:Zd),(qi (off:=0) r0 (qi (off:=2) r1 (qi (off:=3) r2 (Cm hl2)))),(qj (off:=0) o0 (qj (off:=2) o1 (qj (off:=3) o2 (Cn hl2)))),⟨c0,c1,c2,trivial⟩⟩
def bd45:Nat→(List Zd)→Prop:=fun n l=>l.length*64≤140737488355328∧l.length≤n∧∀ x∈l,bd61 n x
theorem op45 {H:Type} {eh:TypeId×Value→H} {nb:Nat}:Opens eh nb 45 (eL Zd.enc) (bd45 nb):=qg rfl rfl rfl rfl op61
end SX
end Go.Proofs.YtgmbmepakpcpaaaGreatDoor
set_option maxRecDepth 100000
namespace Go.Proofs.YtgmbmepakpcpaaaGreatDoor
open Go Go.ChangeShapes Go.WideShapes Go.RowKit
open SX
theorem originCheckSound_lifted (os:Os) (started:os.Started) (H:Type) (enc:TypeId×Value→H) :
    ReturnsInHanded {} Tryz.checked os 10 .any (fun w args=>(Rows.originCheckSoundSpec.pre enc Tryz.prog Tryz.f10 [] false w args∧laidMetH Tryz.prog wT w)∧sizedMet enc Tryz.prog Tryz.f10 (OpenSpec.ofChange Rows.originCheckSoundSpec) false w args)
      (Rows.originCheckSoundSpec.post enc Tryz.prog Tryz.f10 false true false false):=by
  refine returnsInHanded_of_change_and (C:=Tryz.checked) (X:=fun w _=>laidMetH Tryz.prog wT w) (fun _ _ _ hh h=>h.of_heap hh) own_ok started (by kernel_rfl) Tryz.func10
    (ChangeSpec.witness_at (enc:=enc) (C:=Tryz.checked) (os:=os) (X:=fun w _=>laidMetH Tryz.prog wT w) false (laidWorld os) #[.slice none 0 0,.slice none 0 0,.int .i64 0,.int .i64 0,.int .i64 0,.int .i64 0,.slice none 0 0] 8 rfl (by kernel_rfl) (by kernel_rfl) (by kernel_rfl) (by kernel_rfl) (by kernel_rfl) (wc os _)) ?_
  intro W base args ds gs before hval0 hW _ hwt hL _
  have hval:∀ (j:Nat) t v,Tryz.f10.params[j]?=some t→args[j]?=some v→Value.okWide Tryz.prog W .any base t v:=hval0
  have hW2:=hW
  obtain ⟨p,q,hA0,hV0,rfl,_,_⟩:=hW
  have hA:DataW.TrodAll enc Tryz.prog W 0 (fun _=>true) true [22,22,3,3,3,3,45] args.toList ds p:=hA0
  obtain ⟨rfl,rfl⟩:gs=[]∧q=[]:=by
    cases gs with
    | nil=>exact ⟨rfl,hV0⟩
    | cons g r=>exact absurd hV0 (by intro h;cases h)
  generalize hargs:args.toList=vs at hA
  have hval2:∀ (j:Nat) t v,[22,22,3,3,3,3,45][j]?=some t→vs[j]?=some v→Value.okWide Tryz.prog W .any base t v:=fun j t v h1 h2=>hval j t v (by rw [Tryz.params10];simpa using h1) (by rw [← hargs] at h2;simpa using h2)
  obtain ⟨v0,vs0,d0,ds0,p0,q0,rfl,rfl,h0,hA⟩:=SX.trodAll_cons hA
  obtain ⟨v1,vs1,d1,ds1,p1,q1,rfl,rfl,h1,hA⟩:=SX.trodAll_cons hA
  obtain ⟨v2,vs2,d2,ds2,p2,q2,rfl,rfl,h2,hA⟩:=SX.trodAll_cons hA
  obtain ⟨v3,vs3,d3,ds3,p3,q3,rfl,rfl,h3,hA⟩:=SX.trodAll_cons hA
  obtain ⟨v4,vs4,d4,ds4,p4,q4,rfl,rfl,h4,hA⟩:=SX.trodAll_cons hA
  obtain ⟨v5,vs5,d5,ds5,p5,q5,rfl,rfl,h5,hA⟩:=SX.trodAll_cons hA
  obtain ⟨v6,vs6,d6,ds6,p6,q6,rfl,rfl,h6,hA⟩:=SX.trodAll_cons hA
  obtain ⟨rfl,rfl⟩:=SX.trodAll_nil hA
  have hw:(DataW.weightsEach Tryz.prog [22,22,3,3,3,3,45] [d0,d1,d2,d3,d4,d5,d6]).all (· ≤ reachBytes)=true:=hwt
  obtain ⟨l0,hw⟩:=SX.light_head hw
  obtain ⟨m0,s0,b0⟩:=oP rfl rfl op22 (fun _=>⟨_,rfl⟩) (hval2 0 22 v0 rfl rfl) h0 l0 (Nat.le_refl _)
  obtain ⟨l1,hw⟩:=SX.light_head hw
  obtain ⟨m1,s1,b1⟩:=oP rfl rfl op22 (fun _=>⟨_,rfl⟩) (hval2 1 22 v1 rfl rfl) h1 l1 (Nat.le_refl _)
  obtain ⟨l2,hw⟩:=SX.light_head hw
  obtain ⟨m2,s2,b2⟩:=oP rfl rfl op3 (fun _=>⟨_,rfl⟩) (hval2 2 3 v2 rfl rfl) h2 l2 (Nat.le_refl _)
  obtain ⟨l3,hw⟩:=SX.light_head hw
  obtain ⟨m3,s3,b3⟩:=oP rfl rfl op3 (fun _=>⟨_,rfl⟩) (hval2 3 3 v3 rfl rfl) h3 l3 (Nat.le_refl _)
  obtain ⟨l4,hw⟩:=SX.light_head hw
  obtain ⟨m4,s4,b4⟩:=oP rfl rfl op3 (fun _=>⟨_,rfl⟩) (hval2 4 3 v4 rfl rfl) h4 l4 (Nat.le_refl _)
  obtain ⟨l5,hw⟩:=SX.light_head hw
  obtain ⟨m5,s5,b5⟩:=oP rfl rfl op3 (fun _=>⟨_,rfl⟩) (hval2 5 3 v5 rfl rfl) h5 l5 (Nat.le_refl _)
  obtain ⟨l6,hw⟩:=SX.light_head hw
  obtain ⟨m6,s6,b6⟩:=oP rfl rfl op45 (fun _=>⟨_,rfl⟩) (hval2 6 45 v6 rfl rfl) h6 l6 (Nat.le_refl _)
  exact Fz (readB (by kernel_rfl)) rfl (bE rfl) rfl (by simp [Rows.originCheckSoundSpec]) hW2 (zT hL) (by rw [hargs];exact (s0.app (s1.app (s2.app (s3.app (s4.app (s5.app s6))))))) (mU (qw m0 m1 m2 m3 m4 m5 m6 s0 s1 s2 s3 s4 s5 s6))
theorem originCheckSound_holds:Rows.OriginCheckSoundSaid :=
 OpenClaim.holds_of_wide 10 Tryz.f10 rfl rfl rfl rfl rfl rfl rfl ⟨rfl,rfl,rfl,rfl,rfl⟩ rfl rfl rfl rfl rfl originCheckSound_named Tryz.func10 originCheckSound_closed
  (of_decide_eq_true (by kernel_rfl)) (by unfold Func.isWrapper;rw [if_neg (of_decide_eq_false (by kernel_rfl))];exact ⟨rfl,rfl⟩)
  (fun os started H enc _=>originCheckSound_lifted os started H enc)
theorem originCheckSound_card:Rows.OriginCheckSoundCardSaid :=
 Claim7.holds_tied_plain_at .later [] [.data,.data,.pinned] true (true, "d6724934cde0ef4b5d01703053d4c3277341bc42a1cf7659bfec0d43871970fd") true
  originCheckSound_holds (fun _ h=>by cases h) (by as_aux_lemma=>kernel_rfl) (fun _ h=>by cases h) originCheckSound_row_tie rfl ⟨rfl,rfl⟩ fp_main rfl
  (fun f fn hf hfn=>by
   obtain rfl:f=10:=Option.some.inj ((show Tryz.prog.funcNamed "customs/customslaw16.OriginCheckSound" = some 10 from originCheckSound_named).symm.trans hf) |>.symm
   obtain rfl:fn=Tryz.f10:=(Option.some.inj (Tryz.func10.symm.trans hfn)).symm
   exact ⟨fp_looks,fun j t ht=>by
    rw [Tryz.params10] at ht
    exact zU (by as_aux_lemma=>kernel_rfl) ht⟩)
  originCheckSound_goes
#print axioms originCheckSound_card
end Go.Proofs.YtgmbmepakpcpaaaGreatDoor
