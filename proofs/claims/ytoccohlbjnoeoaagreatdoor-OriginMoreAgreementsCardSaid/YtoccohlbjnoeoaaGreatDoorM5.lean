/- OriginMoreAgreements: for every input the law returns true, and each argument reads afterwards as it read before. Conditions: the package variables are as the program's text lays them (the card ties them). -/
import Derived.Test.YtoccohlbjnoeoaaGreatDoorM4
import Derived.Test.YtoccohlbjnoeoaaGreatDoorL4q
set_option linter.unusedVariables false
set_option linter.unusedSimpArgs false
set_option maxHeartbeats 4000000
set_option maxRecDepth 100000
namespace Go.Proofs.YtoccohlbjnoeoaaGreatDoor
namespace SX
open Go
theorem xes {α:Type} (l:List α) (n:Nat):idx l (n:Int)=l[n]?:=by unfold idx;rw [if_pos (by omega)];simp
theorem ywl {α:Type} [DecidableEq α] (E:α→α→Bool) (hE:∀ x y,E x y=decide (x=y)) (z:α) (p:List α) (hp:p.length≤1000000000) :
    cond (decide (((p.length:Nat):Int)<2)) (some p) (Option.bind (loopF (S:=Int) (T:=(Unit)⊕(List α)) (fun v2=>cond (decide (v2<((p.length:Nat):Int))) (Option.bind (idx p v2) (fun m7=>Option.bind (idx p (IntKind.i64.wrap (v2 - 1))) (fun m8=>cond (E m7 m8) (Option.bind (sub p v2 (p.length:Int)) (fun _=>Option.bind (loopF (S:=(List α)×Int×Int) (T:=((List α)×Int)) (fun (l12,v13,v14)=>cond (decide (v14<((p.length - v2.toNat:Nat):Int))) (Option.bind (Option.bind (ge0 v14) (fun _=>Option.bind (idx l12 (v2+v14)) (fun m26=>Option.bind (ge0 (IntKind.i64.wrap (v14 - 1))) (fun _=>Option.bind (idx l12 (v2+(IntKind.i64.wrap (v14 - 1)))) (fun m28=>cond (!(E m26 m28)) (Option.bind (ge0 v14) (fun _=>Option.bind (idx l12 (v2+v14)) (fun m31=>Option.bind (idx l12 v13) (fun _=>some ((l12.set v13.toNat m31),(IntKind.i64.wrap (v13+1))))))) (some (l12,v13))))))) (fun (l22,v23)=>some (.inl (l22,v23,(IntKind.i64.wrap (v14+1)))))) (some (.inr (l12,v13)))) FUEL (p,v2,1)) (fun (l16,v17)=>Option.bind (sub l16 v17 (l16.length:Int)) (fun _=>Option.bind (sub (List.take v17.toNat l16++List.replicate (p.length - v17.toNat) z) 0 v17) (fun l35=>some (.inr (.inr l35))))))) (some (.inl (IntKind.i64.wrap (v2+1))))))) (some (.inr (.inl ())))) FUEL 1) (fun q=>match q with | .inl _=>some p | .inr e=>some e))=some (dd p):=by
  by_cases h2:p.length<2
  · rw [det (show ((p.length:Nat):Int)<2 by omega)]
    match p,h2 with
    | [],_=>rfl
    | [x],_=>rfl
  rw [ydl (by omega),cof]
  have hl:Y (loopF (S:=Int) (T:=(Unit)⊕(List α)) (fun v2=>cond (decide (v2<((p.length:Nat):Int))) (Option.bind (idx p v2) (fun m7=>Option.bind (idx p (IntKind.i64.wrap (v2 - 1))) (fun m8=>cond (E m7 m8) (Option.bind (sub p v2 (p.length:Int)) (fun _=>Option.bind (loopF (S:=(List α)×Int×Int) (T:=((List α)×Int)) (fun (l12,v13,v14)=>cond (decide (v14<((p.length - v2.toNat:Nat):Int))) (Option.bind (Option.bind (ge0 v14) (fun _=>Option.bind (idx l12 (v2+v14)) (fun m26=>Option.bind (ge0 (IntKind.i64.wrap (v14 - 1))) (fun _=>Option.bind (idx l12 (v2+(IntKind.i64.wrap (v14 - 1)))) (fun m28=>cond (!(E m26 m28)) (Option.bind (ge0 v14) (fun _=>Option.bind (idx l12 (v2+v14)) (fun m31=>Option.bind (idx l12 v13) (fun _=>some ((l12.set v13.toNat m31),(IntKind.i64.wrap (v13+1))))))) (some (l12,v13))))))) (fun (l22,v23)=>some (.inl (l22,v23,(IntKind.i64.wrap (v14+1)))))) (some (.inr (l12,v13)))) FUEL (p,v2,1)) (fun (l16,v17)=>Option.bind (sub l16 v17 (l16.length:Int)) (fun _=>Option.bind (sub (List.take v17.toNat l16++List.replicate (p.length - v17.toNat) z) 0 v17) (fun l35=>some (.inr (.inr l35))))))) (some (.inl (IntKind.i64.wrap (v2+1))))))) (some (.inr (.inl ())))) FUEL 1) (fun t=>match t with | .inl _=>dd p=p | .inr e=>e=dd p):=by
    refine Y.loop (fun s:Int=>∃ v:Nat,s=(v:Int)∧1≤v∧v≤p.length∧∀ j,1≤j→(hj:j<v)→(hp:j<p.length)→p[j]≠p[j-1]'(by omega)) (fun s=>(p.length - s).toNat) ⟨1,rfl,by omega,by omega,fun j h1 h2=>by omega⟩ (by omega) fun s hs=>?_
    obtain ⟨v,rfl,h1,h3,h4⟩:=hs
    refine Y.cond (fun hc=>?_) (fun hc=>Y.ret (xer fun i hi=>?_))
    rotate_left
    · have hc:=of_decide_eq_false hc
      have:=h4 (i+1) (by omega) (by omega) hi
      exact fun e=>this e.symm
    have hv:v<p.length:=by have:=of_decide_eq_true hc;omega
    refine Y.idx rfl hv ?_
    refine Y.idx (n:=v - 1) (by rw [ygo (by omega) (by omega)];omega) (by omega) ?_
    rw [hE]
    refine Y.cond (fun he=>?_) (fun he=>Y.ret ⟨⟨v+1,?_,by omega,by omega,fun j g1 g2 g3=>?_⟩,?_⟩)
    · rw [yqu (Nat.le_of_lt hv) (Nat.le_refl _),obs]
      have he:=of_decide_eq_true he
      have c0:=CInv.start h1 hv he fun j g1 g2=>h4 j g1 g2 (by omega)
      refine Y.bind (P:=fun t:List α×Int=>∃ k:Nat,t.2=(k:Int)∧k≤p.length∧t.1.length=p.length∧t.1.take k=dd p) ?_ fun t ⟨k,t1,t2,t3,t4⟩=>?_
      · refine Y.loop (fun s:List α×Int×Int=>∃ k i:Nat,s.2.1=(k:Int)∧s.2.2=(i:Int)∧CInv p v s.1 k i) (fun s=>(p.length - v - s.2.2).toNat) ⟨v,1,rfl,rfl,c0⟩ (by dsimp only;omega) fun s hs=>?_
        obtain ⟨l,a,b⟩:=s
        obtain ⟨k,i,rfl,rfl,c⟩:=hs
        dsimp only at c ⊢
        have ci:=c.i1;have cl:=c.le;have ck:=c.klt;have cn:=c.len
        refine Y.cond (fun hc=>?_) (fun hc=>Y.ret ⟨k,rfl,by omega,c.len,?_⟩)
        rotate_left
        · have hc:=of_decide_eq_false hc
          have e:v+i=p.length:=by rw [Int.toNat_natCast] at hc;omega
          have:=c.pre
          rw [e,List.take_length] at this;exact this
        have hlt:v+i<p.length:=by have:=of_decide_eq_true hc;rw [Int.toNat_natCast] at this;omega
        obtain ⟨x,y,hx,hy,s1,s2⟩:=c.step hlt h1
        refine Y.bind (P:=fun t:List α×Int=>∃ k':Nat,t.2=(k':Int)∧CInv p v t.1 k' (i+1)) ?_ fun t ⟨k',t1,t2⟩=>Y.ret ⟨⟨k',i+1,t1,?_,t2⟩,?_⟩
        · refine Y.eq (yrn i) ?_
          rw [show (v:Int)+(i:Int)=((v+i:Nat):Int) by omega]
          refine Y.eq (by rw [xes];exact hx) ?_
          rw [ygo (r:=(i:Int) - 1) (by omega) (by omega),show (i:Int) - 1=((i - 1:Nat):Int) by omega]
          refine Y.eq (yrn (i - 1)) ?_
          rw [show (v:Int)+((i - 1:Nat):Int)=((v+i - 1:Nat):Int) by omega]
          refine Y.eq (by rw [xes];exact hy) ?_
          rw [hE]
          refine Y.cond (fun hne=>?_) (fun hne=>Y.ret ⟨k,rfl,s1 (by simpa using hne)⟩)
          obtain ⟨hk,c2⟩:=s2 (by simpa using hne)
          refine Y.eq (yrn i) (Y.eq (by rw [xes];exact hx) (Y.idx rfl hk (Y.ret ⟨k+1,?_,c2⟩)))
          show IntKind.i64.wrap ((k:Int)+1)=_;rw [ygo (by omega) (by omega)];omega
        · show IntKind.i64.wrap ((i:Int)+1)=_;rw [ygo (by omega) (by omega)];omega
        show ((p.length:Int) - v - IntKind.i64.wrap ((i:Int)+1)).toNat<((p.length:Int) - v - (i:Int)).toNat;rw [ygo (by omega) (by omega)];omega
      obtain ⟨l,b⟩:=t
      dsimp only at t1 t3 t4 ⊢
      subst t1
      have e1:sub l (k:Int) (l.length:Int)=some ((l.take l.length).drop k):=yqu (by omega) (Nat.le_refl _)
      rw [e1,obs,Int.toNat_natCast]
      have e2:sub (List.take k l++List.replicate (p.length - k) z) 0 (k:Int)=some (((List.take k l++List.replicate (p.length - k) z).take k).drop 0):=yqu (a:=0) (by omega) (by simp;omega)
      rw [e2,obs]
      refine Y.ret ?_
      show ((List.take k l++List.replicate (p.length - k) z).take k).drop 0=dd p
      rw [List.drop_zero,List.take_append_of_le_length (by rw [List.length_take];omega),List.take_take,Nat.min_self,t4]
    · show IntKind.i64.wrap ((v:Int)+1)=_;rw [ygo (by omega) (by omega)];omega
    · rcases Nat.lt_or_ge j v with h | h
      · exact h4 j g1 h g3
      have e:j=v:=by omega
      subst e;exact of_decide_eq_false he
    show ((p.length:Int) - IntKind.i64.wrap ((v:Int)+1)).toNat<((p.length:Int) - (v:Int)).toNat;rw [ygo (by omega) (by omega)];omega
  obtain ⟨t,e,ht⟩:=hl
  rw [e]
  cases t with
  | inl u=>dsimp only at ht;rw [obs,ht]
  | inr u=>dsimp only at ht;rw [obs,ht]
theorem compactS (p:List ByteArray) (hp:p.length≤1000000000):ydk p=some (dd p):=by
 refine Eq.trans ?_ (ywl (fun x y=>decide (x=y)) (fun _ _=>rfl) ByteArray.empty p hp)
 kernel_rfl
theorem xlx (x y:Za):Za.eqb x y=decide (x=y):=by
 cases h:Za.eqb x y
 ·exact (ydl fun e=>by rw [Za.eqb_iff.2 e] at h;cases h).symm
 exact (det (Za.eqb_iff.1 h)).symm
theorem compactC (p:List Za) (hp:p.length≤1000000000):ybo p=some (dd p):=by
 refine Eq.trans ?_ (ywl Za.eqb xlx ⟨0,0⟩ p hp)
 kernel_rfl
theorem ypp (l:List Za) (c:Za) (hl:l.length≤140737488355328):yft l c=some (memB l c):=by
 unfold yft
 refine (ybz (l:=l) (by omega) (fun _ x=>cond (Za.eqb x c) (some (.inr true)) none) (.inl ()) (fun k hk=>?_) (by simp only [yhb,cof])).trans ?_
 ·simp only [dlt hk,cot,yax hk,obs,ycw hk (show l.length≤4611686018427387904 by omega)]
  cases Za.eqb l[k] c <;> rfl
 rw [yrv (fun x=>Za.eqb x c)]
 have:(l.any fun x=>Za.eqb x c)=memB l c:=by unfold memB;congr 1;funext x;exact xlx x c
 rw [this];cases memB l c <;> rfl
theorem yqj {α:Type} (P:α→Bool):∀ (l:List α) (k:Nat),k≤l.length→(∀ j x,l[j]?=some x→j<k→P x=true)→(∀ x,l[k]?=some x→P x=false)→l.takeWhile P=l.take k∧l.dropWhile P=l.drop k
 | [],k,h,_,_=>by simp at h;subst h;exact ⟨rfl,rfl⟩
 | x::l,0,_,_,h=>by rw [List.takeWhile_cons,List.dropWhile_cons,h x rfl];exact ⟨rfl,rfl⟩
 | x::l,k+1,h,h1,h2=>by
  obtain ⟨e1,e2⟩:=yqj P l k (by simpa using h) (fun j y hy hj=>h1 (j+1) y (by simpa using hy) (by omega)) (fun y hy=>h2 y (by simpa using hy))
  rw [List.takeWhile_cons,List.dropWhile_cons,h1 0 x rfl (by omega)]
  simp only [if_true,List.take_succ_cons,List.drop_succ_cons]
  rw [e1,e2];exact ⟨rfl,rfl⟩
theorem xcj (l:List Za) (c:Za) (hl:l.length≤1000000000):yho l c=some (insS ltClaim l c):=by
 unfold yho insS
 rw [ypp _ _ (by omega),obs]
 cases memB l c
 rotate_left
 ·rfl
 simp only [cof]
 have hw:Y (loopF (S:=Int) (T:=(Int)) (fun v4=>Option.bind (gd (decide (v4<(l.length:Int))) (idx l v4)) (fun m8=>Option.bind (gd (decide (v4<(l.length:Int))) (yqd m8 c)) (fun x9=>cond ((decide (v4<(l.length:Int)))&&x9) (some (.inl (IntKind.i64.wrap (v4+1)))) (some (.inr v4))))) FUEL 0) (fun t=>∃ k:Nat,t=(k:Int)∧k≤l.length∧l.takeWhile (fun x=>ltClaim x c)=l.take k∧l.dropWhile (fun x=>ltClaim x c)=l.drop k):=by
  refine Y.loop (fun s:Int=>∃ k:Nat,s=(k:Int)∧k≤l.length∧∀ j x,l[j]?=some x→j<k→ltClaim x c=true) (fun s=>(l.length - s).toNat) ⟨0,rfl,by omega,fun j x _ h=>absurd h (Nat.not_lt_zero _)⟩ (by omega) fun s hs=>?_
  obtain ⟨k,rfl,h1,h2⟩:=hs
  rcases Nat.lt_or_ge k l.length with hk | hk
  ·rw [dlt hk,yee,yax hk,obs,yee]
   have e:yqd l[k] c=some (ltClaim l[k] c):=by unfold yqd ltClaim;rfl
   rw [e,obs]
   cases hlt:ltClaim l[k] c
   ·exact Y.ret ⟨k,rfl,h1,yqj _ l k h1 h2 fun x hx=>by rw [List.getElem?_eq_getElem hk] at hx;injection hx with hx;rw [← hx];exact hlt⟩
   refine Y.ret ⟨⟨k+1,?_,by omega,fun j x hx hj=>?_⟩,?_⟩
   ·show IntKind.i64.wrap ((k:Int)+1)=_;rw [ygo (by omega) (by omega)];omega
   ·rcases Nat.lt_or_ge j k with h | h
    ·exact h2 j x hx h
    have e:j=k:=by omega
    subst e;rw [List.getElem?_eq_getElem hk] at hx;injection hx with hx;rw [← hx];exact hlt
   show ((l.length:Int) - IntKind.i64.wrap ((k:Int)+1)).toNat<((l.length:Int) - (k:Int)).toNat;rw [ygo (by omega) (by omega)];omega
  have e:k=l.length:=by omega
  subst e
  rw [yhb,ymw,obs,ymw,obs]
  exact Y.ret ⟨l.length,rfl,h1,yqj _ l _ h1 h2 fun x hx=>by have:=(List.getElem?_eq_some_iff.1 hx).1;omega⟩
 obtain ⟨t,e,k,rfl,h1,h2,h3⟩:=hw
 rw [e,obs]
 have s1:sub l 0 (k:Int)=some ((l.take k).drop 0):=yqu (a:=0) (by omega) h1
 have s2:sub l (k:Int) (l.length:Int)=some ((l.take l.length).drop k):=yqu h1 (Nat.le_refl _)
 rw [s1,obs,s2,obs,List.drop_zero,List.take_length,yjn (by rw [List.length_take];omega) (by omega),obs,yds (by simp;omega) (by simp;omega),obs,yds (by simp;omega) (by simp;omega),obs,h2,h3,List.append_assoc];rfl
theorem xck (l:List ByteArray) (c:ByteArray) (hl:l.length≤1000000000) (hs:Strict ltS l):yqe l c=some (insS ltS l c):=by
 unfold yqe insS
 have hw:Y (loopF (S:=Int) (T:=(ByteArray×Int)) (fun v1=>Option.bind (gd (decide (v1<(l.length:Int))) (idx l v1)) (fun m6=>cond ((decide (v1<(l.length:Int)))&&(Op.bytesLess m6.toList c.toList)) (some (.inl (IntKind.i64.wrap (v1+1)))) (some (.inr (c,v1))))) FUEL 0) (fun t=>t.1=c∧∃ k:Nat,t.2=(k:Int)∧k≤l.length∧(∀ j x,l[j]?=some x→j<k→ltS x c=true)∧(∀ x,l[k]?=some x→ltS x c=false)):=by
  refine Y.loop (fun s:Int=>∃ k:Nat,s=(k:Int)∧k≤l.length∧∀ j x,l[j]?=some x→j<k→ltS x c=true) (fun s=>(l.length - s).toNat) ⟨0,rfl,by omega,fun j x _ h=>absurd h (Nat.not_lt_zero _)⟩ (by omega) fun s hs=>?_
  obtain ⟨k,rfl,h1,h2⟩:=hs
  rcases Nat.lt_or_ge k l.length with hk | hk
  ·rw [dlt hk,yee,yax hk,obs]
   cases hlt:ltS l[k] c
   ·have hlt':Op.bytesLess l[k].toList c.toList=false:=hlt
    rw [hlt']
    exact Y.ret ⟨rfl,k,rfl,h1,h2,fun x hx=>by rw [List.getElem?_eq_getElem hk] at hx;injection hx with hx;rw [← hx];exact hlt⟩
   have hlt':Op.bytesLess l[k].toList c.toList=true:=hlt
   rw [hlt']
   refine Y.ret ⟨⟨k+1,?_,by omega,fun j x hx hj=>?_⟩,?_⟩
   ·show IntKind.i64.wrap ((k:Int)+1)=_;rw [ygo (by omega) (by omega)];omega
   ·rcases Nat.lt_or_ge j k with h | h
    ·exact h2 j x hx h
    have e:j=k:=by omega
    subst e;rw [List.getElem?_eq_getElem hk] at hx;injection hx with hx;rw [← hx];exact hlt
   show ((l.length:Int) - IntKind.i64.wrap ((k:Int)+1)).toNat<((l.length:Int) - (k:Int)).toNat;rw [ygo (by omega) (by omega)];omega
  have e:k=l.length:=by omega
  subst e
  rw [yhb,ymw,obs]
  exact Y.ret ⟨rfl,l.length,rfl,h1,h2,fun x hx=>by have:=(List.getElem?_eq_some_iff.1 hx).1;omega⟩
 obtain ⟨⟨t1,t2⟩,e,rfl,k,hk,h1,h2,h3⟩:=hw
 dsimp only at hk
 subst hk
 obtain ⟨w1,w2⟩:=yqj (fun x=>ltS x t1) l k h1 h2 h3
 rw [e,obs]
 dsimp only
 have key:t1∈l↔l[k]?=some t1:=by
  constructor
  ·intro hm
   obtain ⟨j,hj,hjt⟩:=List.getElem_of_mem hm
   have hjk:k≤j:=by
    rcases Nat.lt_or_ge j k with h | h
    ·have:=h2 j l[j] (List.getElem?_eq_getElem hj) h;rw [hjt,xlk] at this;cases this
    exact h
   rcases Nat.lt_or_ge k j with h | h
   ·have hkl:k<l.length:=by omega
    have g1:=h3 l[k] (List.getElem?_eq_getElem hkl)
    have g2:=(List.pairwise_iff_getElem.1 hs) k j hkl hj h
    rw [hjt,g1] at g2;cases g2
   have e:j=k:=by omega
   subst e;rw [List.getElem?_eq_getElem hj,hjt]
  exact fun h=>List.mem_of_getElem? h
 rcases Nat.lt_or_ge k l.length with hkl | hkl
 ·rw [dlt hkl,yee,yax hkl,obs,Bool.true_and]
  by_cases hm:l[k]=t1
  ·rw [det hm,ymk.2 (key.2 (by rw [List.getElem?_eq_getElem hkl,hm]))];rfl
  rw [ydl hm,yqi.2 (fun h=>hm (by have:=key.1 h;rw [List.getElem?_eq_getElem hkl] at this;injection this))]
  simp only [cof]
  have s1:sub l 0 (k:Int)=some ((l.take k).drop 0):=yqu (a:=0) (by omega) h1
  have s2:sub l (k:Int) (l.length:Int)=some ((l.take l.length).drop k):=yqu h1 (Nat.le_refl _)
  rw [s1,obs,s2,obs,List.drop_zero,List.take_length,yjn (by rw [List.length_take];omega) (by omega),obs,yds (by simp;omega) (by simp;omega),obs,yds (by simp;omega) (by simp;omega),obs,w1,w2,List.append_assoc];rfl
 have e:k=l.length:=by omega
 subst e
 rw [yhb,ymw,obs,Bool.false_and,yqi.2 (fun h=>by have:=key.1 h;rw [List.getElem?_eq_none (Nat.le_refl _)] at this;cases this)]
 simp only [cof]
 have s1:sub l 0 ((l.length:Nat):Int)=some ((l.take l.length).drop 0):=yqu (a:=0) (by omega) h1
 have s2:sub l ((l.length:Nat):Int) (l.length:Int)=some ((l.take l.length).drop l.length):=yqu h1 (Nat.le_refl _)
 rw [s1,obs,s2,obs,List.drop_zero,List.take_length,yjn (by omega) (by omega),obs,yds (by simp;omega) (by simp;omega),obs,yds (by simp;omega) (by simp;omega),obs,w1,w2,List.append_assoc,List.take_length];rfl
def unionS (a b:List ByteArray):List ByteArray:=sd ltS (a++b)
theorem concat2 (a b:List ByteArray) (h:a.length+b.length≤1000000):ycu [a,b]=some (a++b):=by
 unfold ycu yec
 refine (yks (l:=[a,b]) (by simp) (fun i (s:Nat)=>((s:Int),i)) (fun _ x s=>(.inl (s+x.length):Nat⊕Empty)) (fun (s:Nat)=>(s:Int)) noE (fun k s=>s≤1000000∧s=([a,b].take k).flatten.length) 0 ⟨by omega,rfl⟩ (fun k hk s hs=>⟨?_,fun s' h'=>?_⟩) (fun s _=>by simp only [yhb,cof])).trans ?_
 ·have hb:s+([a,b][k]).length≤1000000:=by
   obtain ⟨_,e⟩:=hs
   match k,hk with
   | 0,_=>simp at e;subst e;simp;omega
   | 1,_=>simp at e;subst e;simp;omega
  simp only [dlt hk,cot,yax hk,obs,ycw hk (show [a,b].length≤4611686018427387904 by simp),outc]
  rw [ygo (by omega) (by omega),ydl (by omega)]
  simp only [cof,Int.natCast_add]
 ·injection h' with h'
  obtain ⟨h1,h2⟩:=hs
  subst h'
  match k,hk with
  | 0,_=>simp at h2 ⊢;subst h2;simp;omega
  | 1,_=>simp at h2 ⊢;subst h2;omega
 show Option.bind (Option.bind (mk0 16 ((0+a.length+b.length:Nat):Int)) _) _=_
 rw [xkz (by omega) (by omega),obs,obs]
 refine (ycp (l:=[a,b]) (by simp) (fun i (s:List ByteArray)=>(s,i)) (fun s x=>s++x) (fun s=>s) (fun k s=>s=([a,b].take k).flatten) [] rfl (fun k hk s hs=>⟨?_,?_⟩) (fun s _=>by simp only [yhb,cof])).1.trans ?_
 ·have hb:s.length+([a,b][k]).length≤1000000:=by
   match k,hk with
   | 0,_=>simp at hs;subst hs;simp;omega
   | 1,_=>simp at hs;subst hs;simp;omega
  simp only [dlt hk,cot,yax hk,obs,ycw hk (show [a,b].length≤4611686018427387904 by simp)]
  rw [yds (by omega) (by omega)];rfl
 ·match k,hk with
  | 0,_=>simp at hs;subst hs;simp
  | 1,_=>simp at hs;subst hs;simp
 simp
theorem xih (a b:List ByteArray) (h:a.length+b.length≤1000000):yjl a b=some (unionS a b):=by
 unfold yjl
 rw [concat2 a b h,obs]
 show Option.bind (some (isort ltS (a++b))) _=_
 rw [obs,compactS _ (by rw [ypm];simp;omega)];rfl
theorem xly (a b:List ByteArray) (h:a.length+b.length≤1000000):yob a b=some (unionS a b):=by
 unfold yob
 have ha:=ytz ordS a [] List.Pairwise.nil
 refine (ycp (l:=a) (by omega) (fun i (s:List ByteArray)=>(s,i)) (insS ltS) (fun s=>(b,s)) (fun k s=>Strict ltS s∧s.length≤k) [] ⟨List.Pairwise.nil,by simp⟩ (fun k hk s hs=>⟨?_,yrp ordS.tot ordS.tr hs.1,by have:=yol (lt:=ltS) s a[k];omega⟩) (fun s _=>by simp only [yhb,cof])).1.trans ?_
 ·simp only [dlt hk,cot,yax hk,obs,ycw hk (show a.length≤4611686018427387904 by omega)]
  rw [xck _ _ (by omega) hs.1];rfl
 dsimp only
 refine (ycp (l:=b) (by omega) (fun i (s:List ByteArray)=>(s,i)) (insS ltS) (fun s=>s) (fun k s=>Strict ltS s∧s.length≤a.length+k) (a.foldl (insS ltS) []) ⟨ha.1,by have:=ha.2.2;simpa using this⟩ (fun k hk s hs=>⟨?_,yrp ordS.tot ordS.tr hs.1,by have:=yol (lt:=ltS) s b[k];omega⟩) (fun s _=>by simp only [yhb,cof])).1.trans ?_
 ·simp only [dlt hk,cot,yax hk,obs,ycw hk (show b.length≤4611686018427387904 by omega)]
  rw [xck _ _ (by omega) hs.1];rfl
 unfold unionS
 rw [← ywk ordS,List.foldl_append]
def U64 (a:Int):Prop:=0≤a∧a<18446744073709551616
theorem wu (a:Int):IntKind.u64.wrap a=a % 18446744073709551616:=rfl
theorem yhz {a:Int} (h:U64 a):IntKind.u64.wrap a=a:=by rw [wu];unfold U64 at h;omega
theorem bv64 {a:Int} (h:U64 a):(BitVec.ofInt 64 a).toNat=a.toNat:=by
 rw [BitVec.toNat_ofInt];unfold U64 at h;omega
theorem xlz {a b:Int} (ha:U64 a) (hb:U64 b):iand .u64 a b=((a.toNat &&& b.toNat:Nat):Int):=by
 have hlt:a.toNat &&& b.toNat<18446744073709551616:=Nat.lt_of_le_of_lt Nat.and_le_left (by unfold U64 at ha;omega)
 have e:iand .u64 a b=IntKind.u64.wrap (((BitVec.ofInt 64 a &&& BitVec.ofInt 64 b).toNat:Nat):Int):=rfl
 rw [e,BitVec.toNat_and,bv64 ha,bv64 hb,yhz]
 exact ⟨by omega,by omega⟩
theorem ior_eq {a b:Int} (ha:U64 a) (hb:U64 b):ior .u64 a b=((a.toNat ||| b.toNat:Nat):Int):=by
 have hlt:a.toNat ||| b.toNat<2 ^ 64:=Nat.or_lt_two_pow (by unfold U64 at ha;omega) (by unfold U64 at hb;omega)
 have e:ior .u64 a b=IntKind.u64.wrap (((BitVec.ofInt 64 a ||| BitVec.ofInt 64 b).toNat:Nat):Int):=rfl
 rw [e,BitVec.toNat_or,bv64 ha,bv64 hb,yhz]
 exact ⟨by omega,by omega⟩
theorem ysg {a:Int} (h:U64 a):iand .u64 a 4294967295=a % 4294967296:=by
 rw [xlz h ⟨by omega,by omega⟩]
 have:a.toNat &&& (4294967295:Int).toNat=a.toNat % 4294967296:=Nat.and_two_pow_sub_one_eq_mod (n:=32) a.toNat
 rw [this];unfold U64 at h;omega
theorem xad {a:Int} (h:U64 a):iand .u64 a 1=a % 2:=by
 rw [xlz h ⟨by omega,by omega⟩]
 have:a.toNat &&& (1:Int).toNat=a.toNat % 2:=Nat.and_two_pow_sub_one_eq_mod (n:=1) a.toNat
 rw [this];unfold U64 at h;omega
theorem xma {a:Int}:ishr .u64 a 32=a / 4294967296:=Int.fdiv_eq_ediv_of_nonneg a (show (0:Int)≤4294967296 by omega)
theorem mul64 {a b:Int} (ha:U64 a) (hb:U64 b):∃ h l,yhh a b=some (h,l)∧U64 h∧U64 l∧h*18446744073709551616+l=a*b:=by
 unfold yhh lb
 rw [ysg ha,ysg hb]
 simp only [xma]
 unfold U64 at ha hb
 have ea:a=4294967296*(a / 4294967296)+a % 4294967296:=by omega
 have eb:b=4294967296*(b / 4294967296)+b % 4294967296:=by omega
 have h1:0≤a / 4294967296∧a / 4294967296<4294967296:=by omega
 have h2:0≤a % 4294967296∧a % 4294967296<4294967296:=by omega
 have h3:0≤b / 4294967296∧b / 4294967296<4294967296:=by omega
 have h4:0≤b % 4294967296∧b % 4294967296<4294967296:=by omega
 generalize a / 4294967296=x1 at *
 generalize a % 4294967296=x0 at *
 generalize b / 4294967296=y1 at *
 generalize b % 4294967296=y0 at *
 subst ea eb
 have p00:0≤x0*y0∧x0*y0≤4294967295*4294967295:=⟨Int.mul_nonneg h2.1 h4.1,Int.mul_le_mul (by omega) (by omega) h4.1 (by omega)⟩
 have p01:0≤x0*y1∧x0*y1≤4294967295*4294967295:=⟨Int.mul_nonneg h2.1 h3.1,Int.mul_le_mul (by omega) (by omega) h3.1 (by omega)⟩
 have p10:0≤x1*y0∧x1*y0≤4294967295*4294967295:=⟨Int.mul_nonneg h1.1 h4.1,Int.mul_le_mul (by omega) (by omega) h4.1 (by omega)⟩
 have p11:0≤x1*y1∧x1*y1≤4294967295*4294967295:=⟨Int.mul_nonneg h1.1 h3.1,Int.mul_le_mul (by omega) (by omega) h3.1 (by omega)⟩
 have e:(4294967296*x1+x0)*(4294967296*y1+y0)=18446744073709551616*(x1*y1)+4294967296*(x1*y0)+4294967296*(x0*y1)+x0*y0:=by
  rw [Int.add_mul,Int.mul_add,Int.mul_add]
  have t1:4294967296*x1*(4294967296*y1)=18446744073709551616*(x1*y1):=by
   rw [Int.mul_assoc,← Int.mul_assoc x1,Int.mul_comm x1 4294967296,Int.mul_assoc 4294967296 x1,← Int.mul_assoc];rfl
  have t2:4294967296*x1*y0=4294967296*(x1*y0):=Int.mul_assoc _ _ _
  have t3:x0*(4294967296*y1)=4294967296*(x0*y1):=by rw [← Int.mul_assoc,Int.mul_comm x0,Int.mul_assoc]
  rw [t1,t2,t3];omega
 rw [e]
 generalize x0*y0=p at *
 generalize x0*y1=q at *
 generalize x1*y0=r at *
 generalize x1*y1=s at *
 refine ⟨_,_,rfl,?_,?_,?_⟩
 all_goals simp only [wu,U64]
 all_goals first | omega | (rw [ysg (by unfold U64;omega)];omega)
def rv (w:Zm):Int:=w.Hi*18446744073709551616+w.Lo
def RW (w:Zm):Prop:=U64 w.Hi∧U64 w.Lo
theorem xae {p q:Zm} (hp:RW p) (hq:RW q):∃ w b,yiq p q=some (w,b)∧RW w∧(rv p+rv q<340282366920938463463374607431768211456→rv w=rv p+rv q):=by
 obtain ⟨ph,pl⟩:=p;obtain ⟨qh,ql⟩:=q
 obtain ⟨⟨a1,a2⟩,⟨a3,a4⟩⟩:=hp
 obtain ⟨⟨b1,b2⟩,⟨b3,b4⟩⟩:=hq
 simp only at a1 a2 a3 a4 b1 b2 b3 b4
 unfold yiq lb
 dsimp only
 by_cases h:IntKind.u64.wrap (pl+ql)<pl
 ·rw [det h]
  simp only [cot,obs]
  refine ⟨_,_,rfl,?_,?_⟩
  ·simp only [RW,U64,wu];omega
  rw [wu] at h;simp only [rv,wu];omega
 rw [ydl h]
 simp only [cof,obs]
 refine ⟨_,_,rfl,?_,?_⟩
 ·simp only [RW,U64,wu];omega
 rw [wu] at h;simp only [rv,wu];omega
theorem ysh {a n:Int} (h:n.toNat≤64):ishr .u64 a n=a / 2 ^ n.toNat:=by
 have e:ishr .u64 a n=a.fdiv (2 ^ min n.toNat 64):=rfl
 rw [e,Nat.min_eq_left h]
 exact Int.fdiv_eq_ediv_of_nonneg a (Int.le_of_lt (Int.pow_pos (by omega)))
theorem xcl (b:Int) (k:Nat):b / 2 ^ k=2*(b / 2 ^ (k+1))+b / 2 ^ k % 2:=by
 have:b / 2 ^ (k+1)=b / 2 ^ k / 2:=by rw [Int.pow_succ,Int.ediv_ediv_of_nonneg (Int.le_of_lt (Int.pow_pos (by omega)))]
 rw [this];omega
theorem xmb {a b:Int} (ha:U64 a) (hb:U64 b):∃ w,ymz a b=some w∧RW w∧rv w=a*b:=by
 unfold ymz
 obtain ⟨t,h5,h6⟩:=yni (body:=fun (v3,v4,v5)=>cond (decide (0≤v3)) (Option.bind (Option.bind (yiq (⟨v4,v5⟩:Zm) (⟨v4,v5⟩:Zm)) (fun x14=>Option.bind (ge0 v3) (fun u15=>cond ((iand .u64 (ishr .u64 b v3) 1) == 1) (Option.bind (yiq x14.1 (⟨0,a⟩:Zm)) (fun x17=>some (x17.1.Hi,x17.1.Lo))) (some (x14.1.Hi,x14.1.Lo))))) (fun (v11,v12)=>some (.inl ((IntKind.i64.wrap (v3 - 1)),v11,v12)))) (some (.inr (v4,v5))))
  (fun s:Int×Int×Int => -1≤s.1∧s.1≤63∧RW ⟨s.2.1,s.2.2⟩∧rv ⟨s.2.1,s.2.2⟩=a*(b / 2 ^ (s.1+1).toNat)) (fun s=>(s.1+1).toNat) (fun t:Int×Int=>RW ⟨t.1,t.2⟩∧rv ⟨t.1,t.2⟩=a*b)
  (fun s hs=>by
   obtain ⟨v,x,y⟩:=s
   obtain ⟨a1,a2,a3,a4⟩:=hs
   dsimp only at a1 a2 a3 a4 ⊢
   by_cases h0:0≤v
   ·left
    obtain ⟨k,rfl⟩:∃ k:Nat,v=(k:Int):=⟨v.toNat,by omega⟩
    have ek:((k:Int)+1).toNat=k+1:=by omega
    rw [ek] at a4
    have hs:=xcl b k
    have hbk:0≤b / 2 ^ k:=Int.ediv_nonneg hb.1 (Int.le_of_lt (Int.pow_pos (by omega)))
    have hbk2:b / 2 ^ k≤b:=Int.ediv_le_self _ hb.1
    have hm:a*(b / 2 ^ k)=2*(a*(b / 2 ^ (k+1)))+a*(b / 2 ^ k % 2):=by
     have:=congrArg (a * ·) hs
     simp only [Int.mul_add] at this
     rw [this,← Int.mul_assoc,Int.mul_comm a 2,Int.mul_assoc]
    have hle:a*(b / 2 ^ k)≤18446744073709551615*18446744073709551615:=Int.mul_le_mul (by unfold U64 at ha;omega) (by unfold U64 at hb;omega) hbk (by omega)
    have hnn:0≤a*(b / 2 ^ k % 2):=Int.mul_nonneg ha.1 (by omega)
    rw [det h0]
    simp only [cot]
    obtain ⟨w,o,c1,c2,c3⟩:=xae a3 a3
    have c3:=c3 (by omega)
    rw [bnd c1]
    have hg:ge0 (k:Int)=some ():=by unfold ge0;rw [if_pos h0]
    rw [bnd hg,ysh (by omega),Int.toNat_natCast,xad ⟨hbk,by unfold U64 at hb;omega⟩,ygo (by omega) (by omega)]
    rcases (by omega:b / 2 ^ k % 2=0∨b / 2 ^ k % 2=1) with e | e
    ·rw [e] at hm ⊢
     refine ⟨_,rfl,⟨by dsimp only;omega,by dsimp only;omega,c2,?_⟩,by dsimp only;omega⟩
     have:((k:Int) - 1+1).toNat=k:=by omega
     dsimp only;rw [this,hm];show rv w=_;omega
    rw [e] at hm ⊢
    obtain ⟨w2,o2,d1,d2,d3⟩:=xae (p:=w) (q:=⟨0,a⟩) c2 ⟨⟨by simp,by simp⟩,ha⟩
    have e0:rv ⟨0,a⟩=a:=by simp [rv]
    rw [e0] at d3
    have d3:=d3 (by omega)
    simp only [beq_self_eq_true,cot]
    rw [bnd d1]
    refine ⟨_,rfl,⟨by dsimp only;omega,by dsimp only;omega,d2,?_⟩,by dsimp only;omega⟩
    have:((k:Int) - 1+1).toNat=k:=by omega
    dsimp only;rw [this,hm];show rv w2=_;omega
   right
   rw [ydl h0]
   have:v = -1:=by omega
   subst this
   refine ⟨_,rfl,a3,?_⟩
   rw [a4];simp)
  FUEL (63,0,0) ⟨by simp,by simp,⟨⟨by simp,by simp⟩,⟨by simp,by simp⟩⟩,by
   have:b / 18446744073709551616=0:=Int.ediv_eq_zero_of_lt hb.1 hb.2
   simp [rv,this]⟩ (ykr (by simp))
 obtain ⟨t1,t2⟩:=t
 rw [bnd h5]
 exact ⟨_,rfl,h6.1,h6.2⟩
theorem iand63:∀ {n:Nat},n<128→iand .i64 (n:Int) 63=((n % 64:Nat):Int):=by decide
theorem ishl_one {a:Int} (h:U64 a):ishl .u64 a 1=(2*a) % 18446744073709551616:=by
 have e:ishl .u64 a 1=IntKind.u64.wrap (a*2):=rfl
 rw [e,wu,Int.mul_comm]
theorem xmc {a b:Int} (ha:U64 a) (h2:a % 2=0) (hb:b=0∨b=1):ior .u64 a b=a+b:=by
 rw [ior_eq ha (by rcases hb with rfl | rfl <;> exact ⟨by omega,by omega⟩)]
 unfold U64 at ha
 rcases hb with rfl | rfl
 ·simp;omega
 have:a.toNat ||| (1:Int).toNat=a.toNat+1:=by
  have e:a.toNat=2 ^ 1*(a.toNat / 2):=by omega
  have:=Nat.two_pow_add_eq_or_of_lt (i:=1) (b:=1) (by omega) (a.toNat / 2)
  rw [← e] at this
  exact this.symm
 rw [this];omega
theorem bit_lo {h l:Int} (hl:U64 l) {k:Nat} (hk:k<64):(h*18446744073709551616+l) / 2 ^ k % 2=l / 2 ^ k % 2:=by
 have e:(18446744073709551616:Int)=2 ^ k*(2*2 ^ (63 - k)):=by
  have:(2:Int) ^ k*(2*2 ^ (63 - k))=2 ^ (k+(1+(63 - k))):=by rw [Int.pow_add,Int.pow_add];rfl
  rw [this,show k+(1+(63 - k))=64 by omega];rfl
 have hp:(2:Int) ^ k≠0:=Int.ne_of_gt (Int.pow_pos (by omega))
 rw [e,show h*(2 ^ k*(2*2 ^ (63 - k)))+l=l+2 ^ k*(2*(h*2 ^ (63 - k))) by rw [Int.add_comm,Int.mul_left_comm h,Int.mul_left_comm h 2],Int.add_mul_ediv_left _ _ hp,Int.add_mul_emod_self_left]
theorem bit_hi {h l:Int} (hl:U64 l) {k:Nat} (hk:64≤k):(h*18446744073709551616+l) / 2 ^ k=h / 2 ^ (k - 64):=by
 have e:(2:Int) ^ k=18446744073709551616*2 ^ (k - 64):=by
  have:(18446744073709551616:Int)*2 ^ (k - 64)=2 ^ (64+(k - 64)):=by rw [Int.pow_add];rfl
  rw [this,show 64+(k - 64)=k by omega]
 rw [e,← Int.ediv_ediv_of_nonneg (by omega)]
 congr 1
 unfold U64 at hl;omega
theorem xii {p:Zm} {d:Int} (hp:RW p) (hd:U64 d) (h1:1≤d):∃ q r,yph p d=some (q,r)∧RW q∧rv q=rv p / d∧r=rv p % d:=by
 have hN:0≤rv p∧rv p<340282366920938463463374607431768211456:=by obtain ⟨⟨a,b⟩,⟨c,e⟩⟩:=hp;unfold rv;omega
 unfold yph
 obtain ⟨t,h5,h6⟩:=yni (body:=fun (v4,v5,v6,v7)=>cond (decide (0≤v5)) (Option.bind (Option.bind (ge0 (iand .i64 v5 63)) (fun u18=>lb ((iand .u64 (ishr .u64 p.Lo (iand .i64 v5 63)) 1)) (fun w19=>Option.bind (cond (decide (63<v5)) (Option.bind (ge0 (IntKind.i64.wrap (v5 - 64))) (fun u23=>lb ((iand .u64 (ishr .u64 p.Hi (IntKind.i64.wrap (v5 - 64))) 1)) (fun w24=>some w24))) (some w19)) (fun v20=>Option.bind (yiq (⟨v6,v7⟩:Zm) (⟨v6,v7⟩:Zm)) (fun x25=>cond (((ishr .u64 v4 63) == 1)||(decide (d≤(ior .u64 (ishl .u64 v4 1) v20)))) (lb ((IntKind.u64.wrap ((ior .u64 (ishl .u64 v4 1) v20) - d))) (fun w27=>some (w27,x25.1.Hi,(ior .u64 x25.1.Lo 1)))) (some ((ior .u64 (ishl .u64 v4 1) v20),x25.1.Hi,x25.1.Lo))))))) (fun (v14,v15,v16)=>some (.inl (v14,(IntKind.i64.wrap (v5 - 1)),v15,v16)))) (some (.inr (v4,v6,v7))))
  (fun s:Int×Int×Int×Int => -1≤s.2.1∧s.2.1≤127∧RW ⟨s.2.2.1,s.2.2.2⟩∧0≤s.1∧s.1<d∧rv p / 2 ^ (s.2.1+1).toNat=rv ⟨s.2.2.1,s.2.2.2⟩ * d+s.1) (fun s=>(s.2.1+1).toNat) (fun t:Int×Int×Int=>RW ⟨t.2.1,t.2.2⟩∧0≤t.1∧t.1<d∧rv p=rv ⟨t.2.1,t.2.2⟩ * d+t.1)
  (fun s hs=>by
   obtain ⟨v4,v5,x,y⟩:=s
   obtain ⟨a1,a2,a3,a4,a5,a6⟩:=hs
   dsimp only at a1 a2 a3 a4 a5 a6 ⊢
   by_cases h0:0≤v5
   ·left
    obtain ⟨k,rfl⟩:∃ k:Nat,v5=(k:Int):=⟨v5.toNat,by omega⟩
    have ek:((k:Int)+1).toNat=k+1:=by omega
    rw [ek] at a6
    have hs:=xcl (rv p) k
    generalize hbit:rv p / 2 ^ k % 2=bit at hs
    have hb01:bit=0∨bit=1:=by omega
    rw [det h0,iand63 (by omega)]
    simp only [cot]
    have hg:ge0 ((k % 64:Nat):Int)=some ():=by unfold ge0;rw [if_pos (by omega)]
    rw [bnd hg]
    unfold lb
    have hv:(cond (decide (63<(k:Int))) (Option.bind (ge0 (IntKind.i64.wrap ((k:Int) - 64))) (fun _=>some (iand .u64 (ishr .u64 p.Hi (IntKind.i64.wrap ((k:Int) - 64))) 1))) (some (iand .u64 (ishr .u64 p.Lo ((k % 64:Nat):Int)) 1)))=some bit:=by
     by_cases hk:63<(k:Int)
     ·rw [det hk,ygo (by omega) (by omega)]
      have hg2:ge0 ((k:Int) - 64)=some ():=by unfold ge0;rw [if_pos (by omega)]
      simp only [cot]
      rw [bnd hg2,ysh (by omega),show ((k:Int) - 64).toNat=k - 64 by omega,xad ⟨Int.ediv_nonneg hp.1.1 (Int.le_of_lt (Int.pow_pos (by omega))),Int.lt_of_le_of_lt (Int.ediv_le_self _ hp.1.1) hp.1.2⟩,← hbit]
      unfold rv;rw [bit_hi hp.2 (by omega)]
     rw [ydl hk]
     simp only [cof]
     rw [ysh (by omega),Int.toNat_natCast,Nat.mod_eq_of_lt (by omega),xad ⟨Int.ediv_nonneg hp.2.1 (Int.le_of_lt (Int.pow_pos (by omega))),Int.lt_of_le_of_lt (Int.ediv_le_self _ hp.2.1) hp.2.2⟩,← hbit]
     unfold rv;rw [bit_lo hp.2 (by omega)]
    dsimp only
    rw [bnd hv]
    obtain ⟨w,o,c1,c2,c3⟩:=xae a3 a3
    have hq0:0≤rv ⟨x,y⟩:=by obtain ⟨⟨b1,b2⟩,⟨b3,b4⟩⟩:=a3;unfold rv;dsimp only at *;omega
    have hqd:rv ⟨x,y⟩≤rv ⟨x,y⟩ * d:=by have:=Int.mul_le_mul_of_nonneg_left h1 hq0;omega
    have hle:rv p / 2 ^ k≤rv p:=Int.ediv_le_self _ hN.1
    have c3:=c3 (by omega)
    rw [bnd c1]
    have hu4:U64 v4:=⟨a4,by unfold U64 at hd;omega⟩
    have hsh:ishr .u64 v4 63=v4 / 9223372036854775808:=ysh (by omega)
    have hlow:ior .u64 (ishl .u64 v4 1) bit=(2*v4) % 18446744073709551616+bit:=by rw [ishl_one hu4];exact xmc ⟨by omega,by omega⟩ (by omega) hb01
    rw [hlow,hsh,ygo (by omega) (by omega)]
    have ekk:((k:Int) - 1+1).toNat=k:=by omega
    unfold U64 at hd hu4
    by_cases hT:d≤2*v4+bit
    ·have hc:((v4 / 9223372036854775808 == 1)||decide (d≤(2*v4) % 18446744073709551616+bit))=true:=by
      simp only [Bool.or_eq_true,beq_iff_eq,decide_eq_true_eq];omega
     rw [hc]
     simp only [cot]
     obtain ⟨⟨e1,e2⟩,⟨e3,e4⟩⟩:=c2
     have hev:w.Lo % 2=0:=by unfold rv at c3;dsimp only at c3;omega
     rw [xmc ⟨e3,e4⟩ hev (.inr rfl),wu]
     refine ⟨_,rfl,⟨by dsimp only;omega,by dsimp only;omega,⟨⟨e1,e2⟩,⟨by dsimp only;omega,by dsimp only;omega⟩⟩,by dsimp only;omega,by dsimp only;omega,?_⟩,by dsimp only;omega⟩
     dsimp only
     rw [ekk,hs,a6]
     have e5:rv ⟨w.Hi,w.Lo+1⟩=2*rv ⟨x,y⟩+1:=by unfold rv at c3 ⊢;dsimp only at c3 ⊢;omega
     rw [e5,Int.add_mul,Int.mul_assoc];omega
    ·have hc:((v4 / 9223372036854775808 == 1)||decide (d≤(2*v4) % 18446744073709551616+bit))=false:=by
      simp only [Bool.or_eq_false_iff,beq_eq_false_iff_ne,decide_eq_false_iff_not];omega
     rw [hc]
     simp only [cof]
     refine ⟨_,rfl,⟨by dsimp only;omega,by dsimp only;omega,c2,by dsimp only;omega,by dsimp only;omega,?_⟩,by dsimp only;omega⟩
     dsimp only
     rw [ekk,hs,a6,show rv ⟨w.Hi,w.Lo⟩=2*rv ⟨x,y⟩ by show rv w=_;omega,Int.mul_assoc];omega
   right
   rw [ydl h0]
   have:v5 = -1:=by omega
   subst this
   refine ⟨_,rfl,a3,a4,a5,?_⟩
   rw [← a6];simp)
  FUEL (0,127,0,0) ⟨by simp,by simp,⟨⟨by simp,by simp⟩,⟨by simp,by simp⟩⟩,by simp,by simp;omega,by
   have:rv p / 340282366920938463463374607431768211456=0:=Int.ediv_eq_zero_of_lt hN.1 hN.2
   simp [rv] at this ⊢;exact this⟩ (ykr (by simp))
 obtain ⟨t1,t2,t3⟩:=t
 rw [bnd h5]
 obtain ⟨g1,g2,g3,g4⟩:=h6
 dsimp only at g1 g2 g3 g4
 have gd:rv p / d=rv ⟨t2,t3⟩:=by
  rw [g4,Int.add_comm,Int.add_mul_ediv_right _ _ (by omega),Int.ediv_eq_zero_of_lt g2 g3,Int.zero_add]
 refine ⟨_,_,rfl,g1,gd.symm,?_⟩
 have:=Int.emod_add_mul_ediv (rv p) d
 rw [gd,Int.mul_comm] at this
 omega
structure KnInv (u u1 y1 y0 q rh:Int):Prop where
 eq:u=q*y1+rh
 r0:0≤rh
 r1:rh<4294967296
 q0:0≤q
 q1:q≤4294967297
 up:u*4294967296+u1<q*(y1*4294967296+y0)+(y1*4294967296+y0)
section
variable {u u1 y1 y0 q rh:Int} (hu:0≤u) (huy:u<y1*4294967296+y0) (h1:0≤u1) (h1':u1<4294967296) (hy:2147483648≤y1) (hy':y1<4294967296) (hz:0≤y0) (hz':y0<4294967296)
include hu huy h1 h1' hy hy' hz hz'
theorem yua:KnInv u u1 y1 y0 (u / y1) (u % y1):=by
 have hq0:0≤u / y1:=Int.ediv_nonneg hu (by omega)
 have hr0:=Int.emod_nonneg u (show y1≠0 by omega)
 have hr1:=Int.emod_lt_of_pos u (show 0<y1 by omega)
 have he:=Int.emod_add_mul_ediv u y1
 rw [Int.mul_comm] at he
 have hz2:0≤u / y1*y0:=Int.mul_nonneg hq0 hz
 refine ⟨by omega,hr0,by omega,hq0,?_,?_⟩
 ·apply Int.le_of_lt_add_one
  apply Int.ediv_lt_of_lt_mul (by omega)
  omega
 rw [Int.mul_add,← Int.mul_assoc];omega
theorem xaf (i:KnInv u u1 y1 y0 q rh) (h:4294967296≤q∨4294967296*rh+u1<q*y0):u*4294967296+u1<q*(y1*4294967296+y0)∧1≤q:=by
 have e:=i.eq
 have hlt:u*4294967296+u1<q*(y1*4294967296+y0):=by
  rcases h with h | h
  ·have:4294967296*(y1*4294967296+y0)≤q*(y1*4294967296+y0):=Int.mul_le_mul_of_nonneg_right h (by omega)
   omega
  rw [Int.mul_add,← Int.mul_assoc];omega
 refine ⟨hlt,?_⟩
 have hq:=i.q0
 by_cases hq0:q=0
 ·subst hq0;rw [Int.zero_mul] at hlt;omega
 omega
theorem xmd (i:KnInv u u1 y1 y0 q rh) (h:4294967296≤q∨4294967296*rh+u1<q*y0) (h2:rh+y1<4294967296):KnInv u u1 y1 y0 (q - 1) (rh+y1):=by
 obtain ⟨hlt,hq⟩:=xaf hu huy h1 h1' hy hy' hz hz' i h
 have:=i.eq;have:=i.r0;have:=i.q1
 refine ⟨by rw [Int.sub_mul];omega,by omega,h2,by omega,by omega,?_⟩
 rw [Int.sub_mul];omega
theorem xme (i:KnInv u u1 y1 y0 q rh) (h:4294967296≤q∨4294967296*rh+u1<q*y0) (h2:4294967296≤rh+y1):(q - 1)*(y1*4294967296+y0)≤u*4294967296+u1∧u*4294967296+u1<(q - 1)*(y1*4294967296+y0)+(y1*4294967296+y0):=by
 obtain ⟨hlt,hq⟩:=xaf hu huy h1 h1' hy hy' hz hz' i h
 have e:=i.eq;have:=i.r0;have hq1:=i.q1
 refine ⟨?_,by rw [Int.sub_mul];omega⟩
 have hz2:(q - 1)*y0≤4294967296*4294967295:=Int.mul_le_mul (by omega) (by omega) hz (by omega)
 rw [Int.mul_add,← Int.mul_assoc]
 rw [Int.sub_mul q 1 y1]
 omega
omit hu huy h1 h1' hy hy' hz hz' in
theorem xgq (i:KnInv u u1 y1 y0 q rh) (h:¬ (4294967296≤q∨4294967296*rh+u1<q*y0)):q*(y1*4294967296+y0)≤u*4294967296+u1:=by
 have e:=i.eq
 rw [Int.mul_add,← Int.mul_assoc];omega
end
section
variable {u u1 y1 y0:Int} (hu:0≤u) (huy:u<y1*4294967296+y0) (h1:0≤u1) (h1':u1<4294967296) (hy:2147483648≤y1) (hy':y1<4294967296) (hz:0≤y0) (hz':y0<4294967296)
include hu huy h1 h1' hy hy' hz hz'
omit hu huy hy hy' in
theorem xmf {q rh:Int} (i:KnInv u u1 y1 y0 q rh):((decide (4294967296≤q))||(decide ((IntKind.u64.wrap ((IntKind.u64.wrap (4294967296*rh))+u1))<(IntKind.u64.wrap (q*y0)))))=decide (4294967296≤q∨4294967296*rh+u1<q*y0):=by
 have:=i.r0;have:=i.r1;have:=i.q0
 rw [yhz (a:=4294967296*rh) ⟨by omega,by omega⟩,yhz (a:=4294967296*rh+u1) ⟨by omega,by omega⟩]
 by_cases hq:4294967296≤q
 ·rw [det hq,det (Or.inl hq)];rfl
 have hp:q*y0≤4294967295*4294967295:=Int.mul_le_mul (by omega) (by omega) hz (by omega)
 have hp0:0≤q*y0:=Int.mul_nonneg (by omega) hz
 rw [yhz (a:=q*y0) ⟨hp0,by omega⟩,ydl hq,Bool.false_or]
 congr 1
 exact propext ⟨.inr,fun h=>h.resolve_left hq⟩
omit hy hy' hz hz' in
theorem xgr {q:Int} (h0:0≤q) (h2:q*(y1*4294967296+y0)≤u*4294967296+u1):q<4294967296:=by
 have:q*(y1*4294967296+y0)<4294967296*(y1*4294967296+y0):=by omega
 exact Int.lt_of_mul_lt_mul_right this (by omega)
def KQ (u u1 y1 y0 q:Int):Prop:=0≤q∧q<4294967296∧q*(y1*4294967296+y0)≤u*4294967296+u1∧u*4294967296+u1<q*(y1*4294967296+y0)+(y1*4294967296+y0)
theorem kn_loopA:∃ q,loopF (S:=Int×Int) (T:=(Int)) (fun (v18,v19)=>cond ((decide (4294967296≤v18))||(decide ((IntKind.u64.wrap ((IntKind.u64.wrap (4294967296*v19))+u1))<(IntKind.u64.wrap (v18*y0))))) (cond (decide (4294967296≤(IntKind.u64.wrap (v19+y1)))) (some (.inr (IntKind.u64.wrap (v18 - 1)))) (some (.inl ((IntKind.u64.wrap (v18 - 1)),(IntKind.u64.wrap (v19+y1)))))) (some (.inr v18))) FUEL (u / y1,u % y1)=some q∧KQ u u1 y1 y0 q:=by
 refine yni (fun s:Int×Int=>KnInv u u1 y1 y0 s.1 s.2) (fun s=>s.1.toNat) (KQ u u1 y1 y0) ?_ FUEL _ (yua hu huy h1 h1' hy hy' hz hz') ?_
 ·rintro ⟨q,rh⟩ i
  dsimp only at i ⊢
  rw [xmf h1 h1' hz hz' i]
  have i0:=i.r0;have i1:=i.r1;have i2:=i.q0;have i3:=i.q1
  by_cases h:4294967296≤q∨4294967296*rh+u1<q*y0
  ·rw [det h]
   obtain ⟨_,hq1⟩:=xaf hu huy h1 h1' hy hy' hz hz' i h
   rw [yhz (a:=rh+y1) ⟨by omega,by omega⟩,yhz (a:=q - 1) ⟨by omega,by omega⟩]
   by_cases h2:4294967296≤rh+y1
   ·rw [det h2];right
    obtain ⟨e1,e2⟩:=xme hu huy h1 h1' hy hy' hz hz' i h h2
    exact ⟨_,rfl,by omega,xgr hu huy h1 h1' (by omega) e1,e1,e2⟩
   rw [ydl h2];left
   exact ⟨_,rfl,xmd hu huy h1 h1' hy hy' hz hz' i h (by omega),by dsimp only;omega⟩
  rw [ydl h];right
  have e1:=xgq i h
  exact ⟨_,rfl,i2,xgr hu huy h1 h1' i2 e1,e1,i.up⟩
 have:=(yua hu huy h1 h1' hy hy' hz hz').q1
 exact ykr (by dsimp only;omega)
theorem kn_loopB:∃ q,loopF (S:=Int×Int) (T:=(Int)) (fun (v28,v29)=>cond ((decide (4294967296≤v29))||(decide ((IntKind.u64.wrap ((IntKind.u64.wrap (4294967296*v28))+u1))<(IntKind.u64.wrap (v29*y0))))) (cond (decide (4294967296≤(IntKind.u64.wrap (v28+y1)))) (some (.inr (IntKind.u64.wrap (v29 - 1)))) (some (.inl ((IntKind.u64.wrap (v28+y1)),(IntKind.u64.wrap (v29 - 1)))))) (some (.inr v29))) FUEL (u % y1,u / y1)=some q∧KQ u u1 y1 y0 q:=by
 refine yni (fun s:Int×Int=>KnInv u u1 y1 y0 s.2 s.1) (fun s=>s.2.toNat) (KQ u u1 y1 y0) ?_ FUEL _ (yua hu huy h1 h1' hy hy' hz hz') ?_
 ·rintro ⟨rh,q⟩ i
  dsimp only at i ⊢
  rw [xmf h1 h1' hz hz' i]
  have i0:=i.r0;have i1:=i.r1;have i2:=i.q0;have i3:=i.q1
  by_cases h:4294967296≤q∨4294967296*rh+u1<q*y0
  ·rw [det h]
   obtain ⟨_,hq1⟩:=xaf hu huy h1 h1' hy hy' hz hz' i h
   rw [yhz (a:=rh+y1) ⟨by omega,by omega⟩,yhz (a:=q - 1) ⟨by omega,by omega⟩]
   by_cases h2:4294967296≤rh+y1
   ·rw [det h2];right
    obtain ⟨e1,e2⟩:=xme hu huy h1 h1' hy hy' hz hz' i h h2
    exact ⟨_,rfl,by omega,xgr hu huy h1 h1' (by omega) e1,e1,e2⟩
   rw [ydl h2];left
   exact ⟨_,rfl,xmd hu huy h1 h1' hy hy' hz hz' i h (by omega),by dsimp only;omega⟩
  rw [ydl h];right
  have e1:=xgq i h
  exact ⟨_,rfl,i2,xgr hu huy h1 h1' i2 e1,e1,i.up⟩
 have:=(yua hu huy h1 h1' hy hy' hz hz').q1
 exact ykr (by dsimp only;omega)
end
theorem xmg {a v:Int} {k n:Nat} (h:v=a / 2 ^ k) (hn:1≤n) (l:2 ^ (n - 1)≤v) (g:v<2 ^ n):2 ^ (k+n - 1)≤a∧a<2 ^ (k+n):=by
 have hp:(0:Int)<2 ^ k:=Int.pow_pos (by omega)
 have e1:=Int.ediv_mul_le a (Int.ne_of_gt hp)
 have e2:=Int.lt_ediv_add_one_mul_self a hp
 rw [← h] at e1 e2
 constructor
 ·rw [show k+n - 1=(n - 1)+k by omega,Int.pow_add]
  exact Int.le_trans (Int.mul_le_mul_of_nonneg_right l (Int.le_of_lt hp)) e1
 rw [show k+n=n+k by omega,Int.pow_add]
 exact Int.lt_of_lt_of_le e2 (Int.mul_le_mul_of_nonneg_right (by omega) (Int.le_of_lt hp))
def lenTab:ByteArray:=⟨#[0,1,2,2,3,3,3,3,4,4,4,4,4,4,4,4,5,5,5,5,5,5,5,5,5,5,5,5,5,5,5,5,6,6,6,6,6,6,6,6,6,6,6,6,6,6,6,6,6,6,6,6,6,6,6,6,6,6,6,6,6,6,6,6,7,7,7,7,7,7,7,7,7,7,7,7,7,7,7,7,7,7,7,7,7,7,7,7,7,7,7,7,7,7,7,7,7,7,7,7,7,7,7,7,7,7,7,7,7,7,7,7,7,7,7,7,7,7,7,7,7,7,7,7,7,7,7,7,8,8,8,8,8,8,8,8,8,8,8,8,8,8,8,8,8,8,8,8,8,8,8,8,8,8,8,8,8,8,8,8,8,8,8,8,8,8,8,8,8,8,8,8,8,8,8,8,8,8,8,8,8,8,8,8,8,8,8,8,8,8,8,8,8,8,8,8,8,8,8,8,8,8,8,8,8,8,8,8,8,8,8,8,8,8,8,8,8,8,8,8,8,8,8,8,8,8,8,8,8,8,8,8,8,8,8,8,8,8,8,8,8,8,8,8,8,8,8,8,8,8,8,8,8,8,8,8]⟩
theorem xij:∀ v:Fin 256,(match idx lenTab.data.toList (v.val:Int) with | some c=>decide (1≤v.val→1≤c.toNat∧2 ^ (c.toNat - 1)≤v.val)&&decide (v.val<2 ^ c.toNat)&&decide (c.toNat≤8) | none=>false)=true:=by decide
theorem xmh {v:Int} (h0:0≤v) (h1:v<256):∃ c,idx lenTab.data.toList v=some c∧(1≤v→1≤c.toNat∧2 ^ (c.toNat - 1)≤v)∧v<2 ^ c.toNat∧c.toNat≤8:=by
 obtain ⟨k,rfl⟩:∃ k:Nat,v=(k:Int):=⟨v.toNat,by omega⟩
 have:=xij ⟨k,by omega⟩
 split at this
 ·rename_i c hc
  simp only [Bool.and_eq_true,decide_eq_true_eq] at this
  obtain ⟨⟨a,b⟩,d⟩:=this
  refine ⟨c,hc,fun h=>⟨(a (by omega)).1,?_⟩,?_,d⟩
  ·have:=(a (by omega)).2;exact_mod_cast this
  exact_mod_cast b
 cases this
theorem len64 {a:Int} (ha:U64 a) (h1:1≤a):∃ n:Nat,ygh a=some (n:Int)∧1≤n∧n≤64∧2 ^ (n - 1)≤a∧a<2 ^ n:=by
 have key:∃ (k:Nat) (v:Int),k≤56∧v=a / 2 ^ k∧1≤v∧v<256∧ygh a=Option.bind (idx lenTab.data.toList (IntKind.u8.wrap v)) (fun c13=>lb ((IntKind.i64.wrap ((k:Int)+(IntKind.i64.wrap (c13.toNat:Int))))) (fun w14=>some w14)):=by
  unfold U64 at ha
  have s32:∀ x:Int,ishr .u64 x 32=x / 4294967296:=fun x=>ysh (by decide)
  have s16:∀ x:Int,ishr .u64 x 16=x / 65536:=fun x=>ysh (by decide)
  have s8:∀ x:Int,ishr .u64 x 8=x / 256:=fun x=>ysh (by decide)
  unfold ygh
  simp only [s32,s16,s8]
  by_cases c1:4294967296≤a
  ·rw [det c1]
   simp only [cot,obs]
   by_cases c2:65536≤a / 4294967296
   ·rw [det c2]
    simp only [cot,obs]
    by_cases c3:256≤a / 4294967296 / 65536
    ·rw [det c3]
     exact ⟨56,a / 4294967296 / 65536 / 256,by omega,by simp only [Int.reducePow];omega,by omega,by omega,rfl⟩
    rw [ydl c3]
    exact ⟨48,a / 4294967296 / 65536,by omega,by simp only [Int.reducePow];omega,by omega,by omega,rfl⟩
   rw [ydl c2]
   simp only [cof,obs]
   by_cases c3:256≤a / 4294967296
   ·rw [det c3]
    exact ⟨40,a / 4294967296 / 256,by omega,by simp only [Int.reducePow];omega,by omega,by omega,rfl⟩
   rw [ydl c3]
   exact ⟨32,a / 4294967296,by omega,by simp only [Int.reducePow],by omega,by omega,rfl⟩
  rw [ydl c1]
  simp only [cof,obs]
  by_cases c2:65536≤a
  ·rw [det c2]
   simp only [cot,obs]
   by_cases c3:256≤a / 65536
   ·rw [det c3]
    exact ⟨24,a / 65536 / 256,by omega,by simp only [Int.reducePow];omega,by omega,by omega,rfl⟩
   rw [ydl c3]
   exact ⟨16,a / 65536,by omega,by simp only [Int.reducePow],by omega,by omega,rfl⟩
  rw [ydl c2]
  simp only [cof,obs]
  by_cases c3:256≤a
  ·rw [det c3]
   exact ⟨8,a / 256,by omega,by simp only [Int.reducePow],by omega,by omega,rfl⟩
  rw [ydl c3]
  exact ⟨0,a,by omega,by simp,by omega,by omega,rfl⟩
 obtain ⟨k,v,k1,k2,k3,k4,k5⟩:=key
 obtain ⟨c,c1,c2,c3,c4⟩:=xmh (v:=v) (by omega) k4
 obtain ⟨c5,c6⟩:=c2 k3
 obtain ⟨l1,l2⟩:=xmg k2 c5 c6 c3
 rw [k5,xdp (by omega),bnd c1]
 unfold lb
 rw [ygo (r:=(c.toNat:Int)) (by omega) (by omega),ygo (by omega) (by omega)]
 exact ⟨k+c.toNat,by simp,by omega,by omega,l1,l2⟩
theorem lz64 {a:Int} (ha:U64 a) (h1:1≤a):∃ s:Nat,ydh a=some (s:Int)∧s≤63∧9223372036854775808≤a*2 ^ s∧a*2 ^ s<18446744073709551616:=by
 obtain ⟨n,e1,e2,e3,e4,e5⟩:=len64 ha h1
 unfold ydh
 rw [bnd e1,ygo (by omega) (by omega)]
 refine ⟨64 - n,by congr 1;omega,by omega,?_,?_⟩
 ·have:=Int.mul_le_mul_of_nonneg_right e4 (Int.le_of_lt (show (0:Int)<2 ^ (64 - n) from Int.pow_pos (by decide)))
  rw [← Int.pow_add,show n - 1+(64 - n)=63 by omega] at this
  exact this
 have:=Int.mul_lt_mul_of_pos_right e5 (show (0:Int)<2 ^ (64 - n) from Int.pow_pos (by decide))
 rw [← Int.pow_add,show n+(64 - n)=64 by omega] at this
 exact this
theorem xmi {b:Int} (h:0≤b):ge0 b=some ():=by unfold ge0;rw [if_pos h]
theorem xmj {a:Int} {s:Nat} (h:s≤64):ishl .u64 a (s:Int)=IntKind.u64.wrap (a*2 ^ s):=by
 have e:ishl .u64 a (s:Int)=IntKind.u64.wrap (a*2 ^ min (s:Int).toNat 64):=rfl
 rw [e,Int.toNat_natCast,Nat.min_eq_left h]
theorem ior_sh {h b:Int} {s:Nat} (hh:0≤h) (hb:0≤b) (hb2:b<2 ^ s) (h1:U64 (h*2 ^ s)) (h2:U64 b):ior .u64 (h*2 ^ s) b=h*2 ^ s+b:=by
 rw [ior_eq h1 h2]
 obtain ⟨x,rfl⟩:∃ k:Nat,h=(k:Int):=⟨h.toNat,by omega⟩
 obtain ⟨z,rfl⟩:∃ k:Nat,b=(k:Int):=⟨b.toNat,by omega⟩
 have e:((x:Int)*2 ^ s)=((2 ^ s*x:Nat):Int):=by push_cast;exact Int.mul_comm _ _
 have hz:z<2 ^ s:=by exact_mod_cast hb2
 rw [e,Int.toNat_natCast,Int.toNat_natCast,← Nat.two_pow_add_eq_or_of_lt hz]
 rfl
theorem dm_of {n q r y:Int} (e:n=q*y+r) (h0:0≤r) (h1:r<y):n / y=q∧n % y=r:=by
 have gd:n / y=q:=by
  rw [e,Int.add_comm,Int.add_mul_ediv_right _ _ (by omega),Int.ediv_eq_zero_of_lt h0 h1,Int.zero_add]
 refine ⟨gd,?_⟩
 have:=Int.emod_add_mul_ediv n y
 rw [gd,Int.mul_comm] at this
 omega
theorem div64 {hi lo y:Int} (h1:U64 hi) (h2:U64 lo) (h3:U64 y) (h4:hi<y):yhg hi lo y=some ((hi*18446744073709551616+lo) / y,(hi*18446744073709551616+lo) % y):=by
 have hi0:=h1.1
 have hlo:=h2.1
 have hy1:1≤y:=by omega
 unfold yhg
 have cy:(y == 0)=false:=by simp;omega
 rw [cy,ydl (show ¬ y≤hi by omega)]
 simp only [cof]
 by_cases hz:hi=0
 ·subst hz
  have:((0:Int) == 0)=true:=rfl
  rw [this]
  simp only [cot]
  rw [bnd (nz_ok (show y≠0 by omega)),bnd (nz_ok (show y≠0 by omega)),Int.tdiv_eq_ediv_of_nonneg hlo,Int.tmod_eq_emod_of_nonneg hlo]
  have:lo / y≤lo:=Int.ediv_le_self _ hlo
  rw [yhz ⟨Int.ediv_nonneg hlo (by omega),by have:=h2.2;omega⟩]
  simp
 have cz:(hi == 0)=false:=by simp;exact hz
 rw [cz]
 simp only [cof]
 obtain ⟨s,e1,e2,e3,e4⟩:=lz64 h3 hy1
 have hP:(0:Int)<2 ^ s:=Int.pow_pos (by omega)
 have hM:(0:Int)<2 ^ (64 - s):=Int.pow_pos (by omega)
 have hPM:(2:Int) ^ s*2 ^ (64 - s)=18446744073709551616:=by rw [← Int.pow_add,show s+(64 - s)=64 by omega];rfl
 have hhP:hi*2 ^ s<y*2 ^ s:=Int.mul_lt_mul_of_pos_right h4 hP
 have hhP0:0≤hi*2 ^ s:=Int.mul_nonneg hi0 (by omega)
 have hqd0:0≤lo / 2 ^ (64 - s):=Int.ediv_nonneg hlo (by omega)
 have hqd1:lo / 2 ^ (64 - s)<2 ^ s:=by
  apply Int.ediv_lt_of_lt_mul hM
  rw [hPM];exact h2.2
 have hPle:(2:Int) ^ s≤18446744073709551616:=by rw [← hPM];have:=Int.mul_le_mul_of_nonneg_left (show (1:Int)≤2 ^ (64 - s) by omega) (Int.le_of_lt hP);omega
 have f1:IntKind.u64.wrap (s:Int)=(s:Int):=yhz ⟨by omega,by omega⟩
 have f2:IntKind.u64.wrap (64 - (s:Int))=((64 - s:Nat):Int):=by rw [yhz ⟨by omega,by omega⟩];omega
 have f3:ishl .u64 y (s:Int)=y*2 ^ s:=by rw [xmj (by omega),yhz ⟨by omega,e4⟩]
 have f4:ishl .u64 hi (s:Int)=hi*2 ^ s:=by rw [xmj (by omega),yhz ⟨hhP0,by omega⟩]
 have f5:ishr .u64 lo ((64 - s:Nat):Int)=lo / 2 ^ (64 - s):=by rw [ysh (by omega),Int.toNat_natCast]
 have f6:ishl .u64 lo (s:Int)=(lo*2 ^ s) % 18446744073709551616:=by rw [xmj (by omega),wu]
 have f7:ior .u64 (hi*2 ^ s) (lo / 2 ^ (64 - s))=hi*2 ^ s+lo / 2 ^ (64 - s):=ior_sh hi0 hqd0 hqd1 ⟨hhP0,by omega⟩ ⟨hqd0,by omega⟩
 rw [bnd e1]
 simp only [lb,f1,f2,f3,f4,f5,f6,f7,xmi (Int.natCast_nonneg s),xmi (Int.natCast_nonneg (64 - s)),obs,xma]
 have hN:(hi*18446744073709551616+lo)*2 ^ s=(hi*2 ^ s+lo / 2 ^ (64 - s))*18446744073709551616+(lo*2 ^ s) % 18446744073709551616:=by
  have g1:=Int.emod_add_mul_ediv lo (2 ^ (64 - s))
  have g2:lo*2 ^ s=lo % 2 ^ (64 - s)*2 ^ s+18446744073709551616*(lo / 2 ^ (64 - s)):=by
   have:=congrArg (· * (2:Int) ^ s) g1
   simp only [Int.add_mul] at this
   rw [← this,← hPM]
   rw [Int.mul_assoc,Int.mul_comm (lo / 2 ^ (64 - s)),← Int.mul_assoc,Int.mul_comm (2 ^ (64 - s)),Int.mul_assoc]
  have g3:0≤lo % 2 ^ (64 - s)*2 ^ s:=Int.mul_nonneg (Int.emod_nonneg _ (by omega)) (by omega)
  have g4:lo % 2 ^ (64 - s)*2 ^ s<18446744073709551616:=by
   rw [← hPM,Int.mul_comm (2 ^ s)]
   exact Int.mul_lt_mul_of_pos_right (Int.emod_lt_of_pos _ hM) hP
  rw [Int.add_mul,Int.mul_right_comm hi]
  generalize lo % 2 ^ (64 - s)*2 ^ s=A at *
  generalize lo / 2 ^ (64 - s)=B at *
  generalize lo*2 ^ s=C at *
  generalize hi*2 ^ s=D at *
  omega
 have hu0:0≤hi*2 ^ s+lo / 2 ^ (64 - s):=by omega
 have huy:hi*2 ^ s+lo / 2 ^ (64 - s)<y*2 ^ s:=by
  have:(hi+1)*2 ^ s≤y*2 ^ s:=Int.mul_le_mul_of_nonneg_right (by omega) (by omega)
  rw [Int.add_mul] at this;omega
 have hU0:0≤(lo*2 ^ s) % 18446744073709551616:=by omega
 have hU1:(lo*2 ^ s) % 18446744073709551616<18446744073709551616:=by omega
 have hfin:∀ q R:Int,(hi*18446744073709551616+lo)*2 ^ s=q*(y*2 ^ s)+R→0≤R→R<y*2 ^ s→(hi*18446744073709551616+lo) / y=q∧(hi*18446744073709551616+lo) % y=R / 2 ^ s:=by
  intro q R hq hR0 hR1
  have hr:R=(hi*18446744073709551616+lo - q*y)*2 ^ s:=by rw [Int.sub_mul,Int.mul_assoc q];omega
  have hd:R / 2 ^ s=hi*18446744073709551616+lo - q*y:=by rw [hr];exact Int.mul_ediv_cancel _ (by omega)
  rw [hd]
  generalize hi*18446744073709551616+lo=n at *
  have:0≤n - q*y:=by
   by_cases hc:0≤n - q*y
   ·exact hc
   have:=Int.mul_le_mul_of_nonneg_right (show n - q*y ≤ -1 by omega) (Int.le_of_lt hP);omega
  have:n - q*y<y:=by
   apply Int.lt_of_mul_lt_mul_right (a:=2 ^ s) _ (by omega)
   omega
  exact dm_of (by omega) (by assumption) (by assumption)
 generalize (hi*18446744073709551616+lo)*2 ^ s=NP at *
 generalize hYe:y*2 ^ s=Y at *
 generalize hi*2 ^ s+lo / 2 ^ (64 - s)=u at *
 generalize (lo*2 ^ s) % 18446744073709551616=U at *
 rw [ysg (a:=Y) ⟨by omega,e4⟩,ysg (a:=U) ⟨hU0,hU1⟩]
 have k1:Y / 4294967296*4294967296+Y % 4294967296=Y:=by omega
 have k2:2147483648≤Y / 4294967296:=by omega
 have k3:Y / 4294967296<4294967296:=by omega
 have k4:0≤Y % 4294967296:=by omega
 have k5:Y % 4294967296<4294967296:=by omega
 have k6:0≤U / 4294967296:=by omega
 have k7:U / 4294967296<4294967296:=by omega
 have k8:0≤U % 4294967296:=by omega
 have k9:U % 4294967296<4294967296:=by omega
 have k10:U=U / 4294967296*4294967296+U % 4294967296:=by omega
 generalize U / 4294967296=u1 at *
 generalize U % 4294967296=u0 at *
 generalize Y / 4294967296=y1 at *
 generalize Y % 4294967296=y0 at *
 have dv:∀ v:Int,0≤v→v<Y→IntKind.u64.wrap (Int.tdiv v y1)=v / y1∧IntKind.u64.wrap (v - IntKind.u64.wrap (v / y1*y1))=v % y1:=by
  intro v v0 v1
  have:=Int.ediv_le_self y1 v0
  have q0:=Int.ediv_nonneg v0 (show 0≤y1 by omega)
  have m0:=Int.emod_nonneg v (show y1≠0 by omega)
  have m1:=Int.emod_lt_of_pos v (show 0<y1 by omega)
  have e:=Int.emod_add_mul_ediv v y1
  rw [Int.mul_comm] at e
  rw [Int.tdiv_eq_ediv_of_nonneg v0,yhz (a:=v / y1) ⟨q0,by omega⟩]
  refine ⟨rfl,?_⟩
  have:0≤v / y1*y1:=Int.mul_nonneg q0 (by omega)
  rw [yhz (a:=v / y1*y1) ⟨this,by omega⟩,yhz ⟨by omega,by omega⟩]
  omega
 have hnz:nz y1=some ():=nz_ok (by omega)
 obtain ⟨d1,d2⟩:=dv u hu0 huy
 simp only [hnz,d1,d2,obs]
 obtain ⟨q1,l1,l2,l3,l4,l5⟩:=kn_loopA (u:=u) (u1:=u1) (y1:=y1) (y0:=y0) hu0 (by omega) k6 k7 k2 k3 k4 k5
 rw [k1] at l4 l5
 rw [bnd l1]
 have w25:IntKind.u64.wrap (IntKind.u64.wrap (IntKind.u64.wrap (u*4294967296)+u1) - IntKind.u64.wrap (q1*Y))=u*4294967296+u1 - q1*Y:=by
  simp only [wu]
  generalize q1*Y=z at *
  omega
 simp only [w25]
 have v0:0≤u*4294967296+u1 - q1*Y:=by omega
 have v1:u*4294967296+u1 - q1*Y<Y:=by omega
 have hv:u*4294967296+u1=q1*Y+(u*4294967296+u1 - q1*Y):=by omega
 generalize u*4294967296+u1 - q1*Y=v at *
 obtain ⟨d3,d4⟩:=dv v v0 v1
 simp only [d3,d4]
 obtain ⟨q0,m1,m2,m3,m4,m5⟩:=kn_loopB (u:=v) (u1:=u0) (y1:=y1) (y0:=y0) v0 (by omega) k8 k9 k2 k3 k4 k5
 rw [k1] at m4 m5
 rw [bnd m1]
 have w36:IntKind.u64.wrap (IntKind.u64.wrap (q1*4294967296)+q0)=q1*4294967296+q0:=by simp only [wu];omega
 have w37:IntKind.u64.wrap (IntKind.u64.wrap (IntKind.u64.wrap (v*4294967296)+u0) - IntKind.u64.wrap (q0*Y))=v*4294967296+u0 - q0*Y:=by
  simp only [wu]
  generalize q0*Y=z at *
  omega
 rw [w36,w37,ysh (by omega),Int.toNat_natCast]
 obtain ⟨g1,g2⟩:=hfin (q1*4294967296+q0) (v*4294967296+u0 - q0*Y) (by
  rw [hN,k10,Int.add_mul,Int.mul_right_comm]
  generalize q1*Y=z at *
  generalize q0*Y=z0 at *
  omega) (by omega) (by omega)
 rw [g1,g2]
def xv (w:Zo):Int:=w.Hi*18446744073709551616+w.Lo
def XW (w:Zo):Prop:=U64 w.Hi∧U64 w.Lo
theorem xcm {a b:Int} (ha:U64 a) (hb:U64 b):∃ w,yjz a b=some w∧XW w∧xv w=a*b:=by
 obtain ⟨h,l,e1,e2,e3,e4⟩:=mul64 ha hb
 unfold yjz;rw [bnd e1]
 exact ⟨_,rfl,⟨e2,e3⟩,e4⟩
def rnd (n c m:Int):Int:=if (m=2∧c≤2*(n % c))∨(m=1∧0<n % c) then n / c+1 else n / c
theorem xmk {w:Zo} {c m:Int} (hw:XW w) (hc:U64 c) (h1:1≤c) (hm:m=0∨m=1∨m=2):ypj w c m=some (if rnd (xv w) c m<18446744073709551616 then (rnd (xv w) c m,0) else (0,3)):=by
 unfold ypj
 have hc0:((((c == 0)||(decide (m<0)))||(decide (3<m))):Bool)=false:=by
  rcases hm with rfl | rfl | rfl <;> simp <;> omega
 rw [hc0];simp only [cof]
 have hn0:0≤xv w:=by unfold xv;have:=hw.1.1;have:=hw.2.1;omega
 have hr0:0≤xv w % c:=Int.emod_nonneg _ (by omega)
 have hr1:xv w % c<c:=Int.emod_lt_of_pos _ (by omega)
 have hle:xv w / c≤rnd (xv w) c m:=by unfold rnd;split <;> omega
 by_cases h:c≤w.Hi
 ·rw [det h]
  have:18446744073709551616≤xv w / c:=by
   apply Int.le_ediv_of_mul_le (by omega)
   have:=Int.mul_le_mul_of_nonneg_left h (show (0:Int)≤18446744073709551616 by omega)
   unfold xv;have:=hw.2.1;omega
  rw [if_neg (by omega)];rfl
 rw [ydl h]
 simp only [cof]
 have e:=div64 hw.1 hw.2 hc (by omega)
 rw [show w.Hi*18446744073709551616+w.Lo=xv w from rfl] at e
 rw [bnd e]
 have hq:xv w / c<18446744073709551616:=by
  apply Int.ediv_lt_of_lt_mul (by omega)
  have:=Int.mul_le_mul_of_nonneg_right (show w.Hi+1≤c by omega) (show (0:Int)≤18446744073709551616 by omega)
  unfold xv;have:=hw.2.2;rw [Int.mul_comm 18446744073709551616];omega
 have hq0:0≤xv w / c:=Int.ediv_nonneg hn0 (by omega)
 dsimp only
 have er:yjy (xv w / c) (xv w % c) c m=some (decide ((m=2∧c≤2*(xv w % c))∨(m=1∧0<xv w % c))):=by
  unfold yjy
  rw [yhz (a:=c - xv w % c) ⟨by omega,by have:=hc.2;omega⟩]
  rcases hm with rfl | rfl | rfl
  ·simp
  ·simp
  simp;omega
 rw [bnd er]
 unfold rnd
 by_cases hu:(m=2∧c≤2*(xv w % c))∨(m=1∧0<xv w % c)
 ·rw [det hu,if_pos hu]
  simp only [Bool.not_true,cof]
  by_cases hx:xv w / c=18446744073709551615
  ·rw [hx];rfl
  have:(xv w / c == 18446744073709551615)=false:=by simp;exact hx
  rw [this,if_pos (by omega),yhz ⟨by omega,by omega⟩];rfl
 rw [ydl hu,if_neg hu,if_pos hq];rfl
theorem ref_div {w:Zm} {c m:Int} (hw:RW w) (hc:U64 c) (h1:1≤c) (hm:m=0∨m=1∨m=2):yvf w c m=some (if rnd (rv w) c m<18446744073709551616 then (rnd (rv w) c m,0) else (0,3)):=by
 unfold yvf
 have hc0:((((c == 0)||(decide (m<0)))||(decide (3<m))):Bool)=false:=by
  rcases hm with rfl | rfl | rfl <;> simp <;> omega
 rw [hc0];simp only [cof]
 have hn0:0≤rv w:=by unfold rv;have:=hw.1.1;have:=hw.2.1;omega
 have hn1:rv w<340282366920938463463374607431768211456:=by unfold rv;have:=hw.1.2;have:=hw.2.2;omega
 have hr0:0≤rv w % c:=Int.emod_nonneg _ (by omega)
 have hr1:rv w % c<c:=Int.emod_lt_of_pos _ (by omega)
 obtain ⟨q,r,e1,e2,e3,e4⟩:=xii hw hc h1
 rw [bnd e1]
 dsimp only
 have er:(cond (m == 1) (some (decide (0<r))) (cond (m == 2) (some (decide ((IntKind.u64.wrap (c - r))≤r))) (cond (m == 3) (some ((decide ((IntKind.u64.wrap (c - r))<r))||((r == (IntKind.u64.wrap (c - r)))&&((iand .u64 q.Lo 1) == 1)))) (some false))))=some (decide ((m=2∧c≤2*(rv w % c))∨(m=1∧0<rv w % c))):=by
  rw [e4,yhz (a:=c - rv w % c) ⟨by omega,by have:=hc.2;omega⟩]
  rcases hm with rfl | rfl | rfl
  ·simp
  ·simp
  simp;omega
 rw [bnd er]
 have hq0:0≤rv w / c:=Int.ediv_nonneg hn0 (by omega)
 unfold rnd
 have hfin:∀ z:Zm,RW z→(cond (decide (0<z.Hi)) (some ((0:Int),(3:Int))) (some (z.Lo,0)))=some (if rv z<18446744073709551616 then (rv z,0) else (0,3)):=by
  intro z hz
  obtain ⟨⟨a1,a2⟩,⟨a3,a4⟩⟩:=hz
  by_cases h:0<z.Hi
  ·rw [det h,if_neg (by unfold rv;omega)];rfl
  have:rv z=z.Lo:=by unfold rv;omega
  rw [ydl h,this,if_pos a4];rfl
 by_cases hu:(m=2∧c≤2*(rv w % c))∨(m=1∧0<rv w % c)
 ·rw [det hu,if_pos hu]
  obtain ⟨z,b,f1,f2,f3⟩:=xae (p:=q) (q:=⟨0,1⟩) e2 ⟨⟨by simp,by simp⟩,⟨by simp,by simp⟩⟩
  have hone:rv ⟨0,1⟩=1:=rfl
  have:rv w / c≤rv w:=Int.ediv_le_self _ hn0
  have hc2:2≤c:=by omega
  have t1:=Int.ediv_mul_le (rv w) (show c≠0 by omega)
  have t2:=Int.mul_le_mul_of_nonneg_left hc2 hq0
  rw [hone,e3] at f3
  have f3:=f3 (by omega)
  simp only [cot]
  rw [bnd f1]
  simp only [obs]
  rw [hfin z f2,f3]
 rw [ydl hu,if_neg hu]
 simp only [cof,obs]
 rw [hfin q e2,e3]
structure VProd (l:List Zd) (p:Zd):Prop where
 price:1≤p.Price∧p.Price≤1000000000000
 lvl:6≤level p.Code
 ctr:ctry p.Country=true
 proc:wordsB p.Processes=true
 few:p.Inputs.length≤8
 asc:p.Inputs.Pairwise fun a b=>a.Product<b.Product
 inp:∀ x∈p.Inputs,(findP l x.Product).isSome=true∧0≤x.Value∧x.Value≤1000000000000
 obt:p.Obtained=true→p.Inputs=[]
structure VPs (l:List Zd):Prop where
 len:l.length≤64
 asc:l.Pairwise fun a b=>a.ID<b.ID
 all:∀ p∈l,VProd l p
theorem ykf {l:List ByteArray} (h:wordsB l=true):l.length≤8∧(∀ s∈l,wordB s=true)∧Strict ltS l:=by
 unfold wordsB at h
 simp only [Bool.and_eq_true,decide_eq_true_eq] at h
 exact ⟨h.1,fun s hs=>List.all_eq_true.1 h.2.1 s hs,(ymj _).1 h.2.2⟩
theorem VPs.sorted {l:List Zd} (h:VPs l):Sorted l:=⟨by have:=h.len;omega,h.asc,fun p hp=>by have h1:=(ykf (h.all p hp).proc).1;have h2:=(h.all p hp).few;omega⟩
def getP (l:List Zd) (id:Int):Zd:=(findP l id).getD zProd
theorem xcn {l:List Zd} {id:Int} {p:Zd} (h:findP l id=some p):p∈l∧p.ID=id:=⟨List.mem_of_find?_eq_some h,by have:=List.find?_some h;simpa using this⟩
theorem yhu {l:List Zd} (h:VPs l) {id:Int} (hs:(findP l id).isSome=true):getP l id∈l∧VProd l (getP l id)∧(getP l id).ID=id:=by
 cases hf:findP l id with
 | none=>rw [hf] at hs;cases hs
 | some p =>
  have:=xcn hf
  unfold getP;rw [hf];exact ⟨this.1,h.all p this.1,this.2⟩
abbrev CSet:=Za→Bool
def takeS (ps:List Int) (S:CSet) (q:Zd) (v:Int):Zk×Option Za:=match ps.find? (fun id=>S ⟨q.ID,id⟩) with
 | some id=>(⟨q.Code,v,true⟩,some ⟨q.ID,id⟩)
 | none=>(⟨q.Code,v,false⟩,none)
def portionS (v part price:Int):Int:=if rnd (v*part) price 1≤1000000000000 then rnd (v*part) price 1 else 1000000000000
def fullB (a:Zb) (q:Zd):Bool:=a.Kind == 3&&hasS a.Parties q.Country
def supplyS (plan:List Zd) (a:Zb) (ps:List Int) (S:CSet) (x:Zf):List (Zk×Option Za) :=
 cond ((takeS ps S (getP plan x.Product) x.Value).2.isSome || !fullB a (getP plan x.Product)||(getP plan x.Product).Inputs.isEmpty) [takeS ps S (getP plan x.Product) x.Value]
  ((getP plan x.Product).Inputs.map fun y=>takeS ps S (getP plan y.Product) (portionS x.Value y.Value (getP plan x.Product).Price))
def suppliesS (plan:List Zd) (a:Zb) (ps:List Int) (S:CSet) (p:Zd):List (Zk×Option Za):=p.Inputs.flatMap (supplyS plan a ps S)
def procS (plan:List Zd) (a:Zb) (acc:List ByteArray) (x:Zf):List ByteArray:=cond (fullB a (getP plan x.Product)) (unionS acc (getP plan x.Product).Processes) acc
def zCase:Zn:=⟨ByteArray.empty,0,false,[],[]⟩
def agrOf (l:List Zb) (id:Int):Zb:=(findA l id).getD zAgr
def caseC (plan:List Zd) (l:List Zb) (imp:ByteArray) (c:Za) (S:CSet):Zn :=
 ⟨(getP plan c.Product).Code,(getP plan c.Product).Price,(getP plan c.Product).Obtained,((getP plan c.Product).Inputs.foldl (procS plan (agrOf l c.Agreement)) (getP plan c.Product).Processes).take 8,
  (suppliesS plan (agrOf l c.Agreement) (partnersS l c.Agreement (getP plan c.Product).Country imp) S (getP plan c.Product)).map (·.1)⟩
def premC (plan:List Zd) (l:List Zb) (imp:ByteArray) (c:Za) (S:CSet):List Za :=
 sd ltClaim ((suppliesS plan (agrOf l c.Agreement) (partnersS l c.Agreement (getP plan c.Product).Country imp) S (getP plan c.Product)).filterMap (·.2))
def caseS (plan:List Zd) (l:List Zb) (imp:ByteArray) (c:Za) (S:CSet):Zn×List Za:=cond (admB plan l imp c) (caseC plan l imp c S,premC plan l imp c S) (zCase,[])
theorem xet {n c:Int} (hn:0≤n) (hc:1≤c):0≤rnd n c 1:=by
 unfold rnd
 have:=Int.ediv_nonneg hn (show (0:Int)≤c by omega)
 split <;> omega
theorem ymq {v part price:Int} (h1:0≤v) (h2:0≤part) (h3:1≤price):0≤portionS v part price∧portionS v part price≤1000000000000:=by
 unfold portionS
 have:=xet (Int.mul_nonneg h1 h2) h3
 split <;> omega
theorem xco {v part price:Int} (h1:0≤v∧v≤1000000000000) (h2:0≤part∧part≤1000000000000) (h3:1≤price∧price≤1000000000000):yfn v part price=some (portionS v part price):=by
 unfold yfn ymg
 rw [yhz (a:=v) ⟨by omega,by omega⟩,yhz (a:=part) ⟨by omega,by omega⟩,yhz (a:=price) ⟨by omega,by omega⟩]
 obtain ⟨w,e1,e2,e3⟩:=xcm (a:=v) (b:=part) ⟨by omega,by omega⟩ ⟨by omega,by omega⟩
 rw [e1,obs,xmk e2 ⟨by omega,by omega⟩ h3.1 (.inr (.inl rfl)),e3]
 unfold portionS
 have hp:=xet (Int.mul_nonneg h1.1 h2.1) h3.1
 generalize rnd (v*part) price 1=r at hp
 by_cases hr:r<18446744073709551616
 ·rw [if_pos hr]
  by_cases hm:r≤1000000000000
  ·rw [if_pos hm]
   simp only [obs,bne_self_eq_false,Bool.false_or]
   rw [ydl (by omega),cof,ygo (by omega) (by omega)]
  rw [if_neg hm]
  simp only [obs,bne_self_eq_false,Bool.false_or]
  rw [det (by omega)];rfl
 rw [if_neg hr,if_neg (by omega)];rfl
theorem xeu {v part price:Int} (h1:0≤v∧v≤1000000000000) (h2:0≤part∧part≤1000000000000) (h3:1≤price∧price≤1000000000000) {β:Type} (k:Int→Option β):Option.bind (ypi (IntKind.u64.wrap v) (IntKind.u64.wrap part) (IntKind.u64.wrap price) 1) (fun x79=>Option.bind (cond ((x79.2 == 0)&&(decide (x79.1<1000000000000))) (some (IntKind.i64.wrap x79.1)) (some 1000000000000)) k)=k (portionS v part price):=by
 unfold ypi
 rw [yhz (a:=v) ⟨by omega,by omega⟩,yhz (a:=part) ⟨by omega,by omega⟩,yhz (a:=price) ⟨by omega,by omega⟩]
 obtain ⟨w,e1,e2,e3⟩:=xmb (a:=v) (b:=part) ⟨by omega,by omega⟩ ⟨by omega,by omega⟩
 rw [e1,obs,ref_div e2 ⟨by omega,by omega⟩ h3.1 (.inr (.inl rfl)),e3]
 unfold portionS
 have hp:=xet (Int.mul_nonneg h1.1 h2.1) h3.1
 generalize rnd (v*part) price 1=r at hp
 by_cases hr:r<18446744073709551616
 ·rw [if_pos hr]
  by_cases hm:r<1000000000000
  ·rw [if_pos (by omega)]
   simp only [obs,beq_self_eq_true,Bool.true_and]
   rw [det (by omega),cot,obs,ygo (by omega) (by omega)]
  simp only [obs,beq_self_eq_true,Bool.true_and]
  rw [ydl (by omega),cof,obs]
  congr 1
  split <;> omega
 rw [if_neg hr,if_neg (by omega)];rfl
def icS:Zk×Option Za→Ze
 | (i,some c)=>.proved_ ⟨i,c⟩
 | (i,none)=>.plain_ ⟨i⟩
theorem xml {K V:Type} [DecidableEq K] (m:List (K×V)) (k c:K) (v:V):mget (mset m k v) c=if k=c then some v else mget m c:=by
 induction m with
 | nil=>simp only [mset,mget]
 | cons p m ih =>
  obtain ⟨a,w⟩:=p
  simp only [mset]
  by_cases h:a=k
  ·subst h
   simp only [if_true,mget]
   split <;> rfl
  rw [if_neg h]
  simp only [mget,ih]
  by_cases h2:a=c
  ·subst h2;simp [show ¬ k=a from fun e=>h e.symm]
  simp [h2]
theorem mget_set (set:List Za) (c:Za):(mget (set.foldl (fun m x=>mset m x true) []) c).getD false=memB set c:=by
 have key:∀ (l:List Za) (m:List (Za×Bool)),(mget (l.foldl (fun m x=>mset m x true) m) c).getD false=(memB l c||(mget m c).getD false):=by
  intro l
  induction l with
  | nil=>intro m;rfl
  | cons x l ih =>
   intro m
   rw [List.foldl_cons,ih,xml]
   show _=((decide (x=c)||memB l c)||_)
   by_cases h:x=c
   ·rw [if_pos h,det h];cases memB l c <;> rfl
   rw [if_neg h,ydl h,Bool.false_or]
 rw [key];show (memB set c||false)=_;rw [Bool.or_false]
theorem xcp (ps:List Int) (m:List (Za×Bool)) (S:CSet) (hm:∀ c,(mget m c).getD false=S c) (hps:ps.length≤140737488355328) (q:Zd) (v:Int):ycs ⟨ps,m⟩ q v=some (icS (takeS ps S q v)):=by
 unfold ycs takeS
 refine (ybz (l:=ps) (by omega) (fun _ id=>cond (S ⟨q.ID,id⟩) (some (.inr (Ze.proved_ ⟨⟨q.Code,v,true⟩,⟨q.ID,id⟩⟩))) none) (.inl ()) (fun k hk=>?_) (by simp only [yhb,cof])).trans ?_
 ·simp only [dlt hk,cot,yax hk,obs,ycw hk (show ps.length≤4611686018427387904 by omega),hm]
  cases S ⟨q.ID,ps[k]⟩ <;> rfl
 rw [ylc (fun id:Int=>S ⟨q.ID,id⟩) (fun id=>(Sum.inr (Ze.proved_ ⟨⟨q.Code,v,true⟩,⟨q.ID,id⟩⟩):Unit⊕Ze))]
 cases ps.find? (fun id:Int=>S ⟨q.ID,id⟩) <;> rfl
def zClaim:Za:=⟨0,0⟩
theorem ref_take (ps:List Int) (set:List Za) (hps:ps.length≤140737488355328) (hset:set.length≤140737488355328) (q:Zd) (v:Int):ykt ps q.ID set=some (opt2 zClaim (takeS ps (memB set) q v).2)∧(takeS ps (memB set) q v).1=⟨q.Code,v,(takeS ps (memB set) q v).2.isSome⟩:=by
 constructor
 ·unfold ykt takeS
  refine (ybz (l:=ps) (by omega) (fun _ id=>cond (memB set ⟨q.ID,id⟩) (some (.inr ((⟨q.ID,id⟩:Za),true))) none) (.inl ()) (fun k hk=>?_) (by simp only [yhb,cof])).trans ?_
  ·simp only [dlt hk,cot,yax hk,obs,ycw hk (show ps.length≤4611686018427387904 by omega),ypp _ _ hset]
   cases memB set ⟨q.ID,ps[k]⟩ <;> rfl
  rw [ylc (fun id:Int=>memB set ⟨q.ID,id⟩) (fun id=>(Sum.inr ((⟨q.ID,id⟩:Za),true):Unit⊕(Za×Bool)))]
  cases ps.find? (fun id:Int=>memB set ⟨q.ID,id⟩) <;> rfl
 unfold takeS
 cases ps.find? (fun id:Int=>memB set ⟨q.ID,id⟩) <;> rfl
theorem yrq {plan:List Zd} (hv:VPs plan) (a:Zb) (ps:List Int) (S:CSet) (x:Zf) (hx:(findP plan x.Product).isSome=true):(supplyS plan a ps S x).length≤8:=by
 unfold supplyS
 generalize ((takeS ps S (getP plan x.Product) x.Value).2.isSome || !fullB a (getP plan x.Product)||(getP plan x.Product).Inputs.isEmpty)=b
 cases b
 ·rw [cof,List.length_map];exact (yhu hv hx).2.1.few
 simp
theorem wlen {w:List ByteArray} (h:wordsB w=true):w.length≤8:=(ykf h).1
theorem xik (a b:List ByteArray):(unionS a b).length≤a.length+b.length:=by unfold unionS;have:=sd_len (lt:=ltS) (a++b);rwa [List.length_append] at this
theorem xcq {plan:List Zd} (hv:VPs plan) (a:Zb) (acc:List ByteArray) (x:Zf) (hx:(findP plan x.Product).isSome=true):(procS plan a acc x).length≤acc.length+8:=by
 unfold procS
 cases fullB a (getP plan x.Product)
 ·rw [cof];omega
 rw [cot]
 have h1:=xik acc (getP plan x.Product).Processes
 have h2:=wlen (yhu hv hx).2.1.proc
 omega
theorem xag {plan:List Zd} (hv:VPs plan) (id:Int):ydb plan id=some (getP plan id,(findP plan id).isSome):=by
 rw [yyh _ _ hv.sorted];unfold getP;cases findP plan id <;> rfl
theorem ywm {plan:List Zd} (hv:VPs plan) (id:Int):yhn plan id=some (getP plan id,(findP plan id).isSome):=by
 rw [xce _ _ (by have:=hv.len;omega)];unfold getP;cases findP plan id <;> rfl
theorem xcr (t:Zk×Option Za):(icS t).is_proved_=t.2.isSome:=by obtain ⟨i,c⟩:=t;cases c <;> rfl
theorem xmm {plan:List Zd} (hv:VPs plan) (a:Zb) (ha:a.Parties.length≤140737488355328) {p:Zd} (hp:VProd plan p) (ps:List Int) (hps:ps.length≤140737488355328) (m:List (Za×Bool)) (S:CSet) (hm:∀ c,(mget m c).getD false=S c) :
    yex plan a p ⟨ps,m⟩=some ((suppliesS plan a ps S p).map icS,(p.Inputs.foldl (procS plan a) p.Processes).take 8):=by
  unfold yex yca
  have hpr:=wlen hp.proc
  have hfew:=hp.few
  rw [yjn (by omega) (by omega),obs]
  refine (ycp (l:=p.Inputs) (by omega) (fun i (s:List Ze×List ByteArray)=>(s.1,s.2,i)) (fun s x=>(s.1++(supplyS plan a ps S x).map icS,procS plan a s.2 x)) (fun s=>s) (fun k s=>s.1.length≤8*k∧s.2.length≤8+8*k) ([],p.Processes) ⟨by simp,by simpa using hpr⟩ (fun k hk s hs=>?_) (fun s _=>by simp only [yhb,cof])).1.trans ?_
  · obtain ⟨l9,l12⟩:=s
    obtain ⟨h1,h2⟩:=hs
    dsimp only at h1 h2 ⊢
    obtain ⟨hin,hv0,hv1⟩:=hp.inp _ (List.getElem_mem hk)
    obtain ⟨hq1,hq2,hq3⟩:=yhu hv hin
    have hql:=hq2.few
    refine ⟨?_,by have:=yrq hv a ps S p.Inputs[k] hin;simp;omega,by have:=xcq hv a l12 p.Inputs[k] hin;omega⟩
    simp only [dlt hk,cot,yax hk,obs,ycw hk (show p.Inputs.length≤4611686018427387904 by omega),xag hv]
    generalize hx:p.Inputs[k]=x at *
    rw [yty _ _ ha,xcp ps m S hm hps]
    unfold supplyS procS fullB
    have e1:Option.bind (gd (a.Kind == 3) (some (hasS a.Parties (getP plan x.Product).Country))) (fun x33=>some ((a.Kind == 3)&&x33))=some ((a.Kind == 3)&&hasS a.Parties (getP plan x.Product).Country):=by cases (a.Kind == 3) <;> rfl
    have e2:∀ {β:Type} (K:Bool→Option β),(∀ b c,((a.Kind == 3)&&b)=((a.Kind == 3)&&c)→K b=K c)→Option.bind (gd (a.Kind == 3) (some (hasS a.Parties (getP plan x.Product).Country))) K=K (hasS a.Parties (getP plan x.Product).Country):=by
      intro β K hK
      cases hk3:(a.Kind == 3)
      · show K default=_;exact hK _ _ (by rw [hk3];rfl)
      rfl
    rw [e2 _ (fun b c hbc=>by simp only [hbc])]
    generalize hF:((a.Kind == 3)&&hasS a.Parties (getP plan x.Product).Country)=F
    have e3:(cond F (Option.bind (yjl l12 (getP plan x.Product).Processes) (fun x38=>some x38)) (some l12))=some (cond F (unionS l12 (getP plan x.Product).Processes) l12):=by
      cases F
      · rfl
      rw [cot,xih _ _ (by have:=wlen hq2.proc;omega)];rfl
    simp only [e3,obs,xcr,len0]
    cases hc:((takeS ps S (getP plan x.Product) x.Value).2.isSome || !F||(getP plan x.Product).Inputs.isEmpty)
    · simp only [cof]
      refine (congrArg (fun o=>Option.bind o _) (ycp (l:=(getP plan x.Product).Inputs) (by omega) (fun i (s:List Ze)=>(s,i)) (fun s y=>s++[icS (takeS ps S (getP plan y.Product) (portionS x.Value y.Value (getP plan x.Product).Price))]) (fun s=>s) (fun j s=>s.length≤8*k+j) l9 h1 (fun j hj s hs=>⟨?_,by simp;omega⟩) (fun s _=>by simp only [yhb,cof])).1).trans ?_
      rotate_left
      · simp only [obs]
        have hfl:∀ (ys:List Zf) (acc:List Ze),ys.foldl (fun s y=>s++[icS (takeS ps S (getP plan y.Product) (portionS x.Value y.Value (getP plan x.Product).Price))]) acc=acc++(ys.map fun y=>takeS ps S (getP plan y.Product) (portionS x.Value y.Value (getP plan x.Product).Price)).map icS:=by
          intro ys
          induction ys with
          | nil=>intro acc;simp
          | cons y ys ih=>intro acc;rw [List.foldl_cons,ih];simp
        rw [hfl]
      obtain ⟨hy1,hy2,hy3⟩:=hq2.inp _ (List.getElem_mem hj)
      simp only [dlt hj,cot,yax hj,obs,ycw hj (show (getP plan x.Product).Inputs.length≤4611686018427387904 by omega),xag hv]
      rw [xco ⟨hv0,hv1⟩ ⟨hy2,hy3⟩ hq2.price,obs,xcp ps m S hm hps,obs,yds (by simp;omega) (by simp;omega)];rfl
    simp only [cot]
    rw [yds (by simp;omega) (by simp;omega)];rfl
  dsimp only
  have hfold:∀ (xs:List Zf) (s:List Ze×List ByteArray),xs.foldl (fun s x=>(s.1++(supplyS plan a ps S x).map icS,procS plan a s.2 x)) s=(s.1++(xs.flatMap (supplyS plan a ps S)).map icS,xs.foldl (procS plan a) s.2):=by
    intro xs
    induction xs with
    | nil=>intro s;simp
    | cons x xs ih=>intro s;rw [List.foldl_cons,ih,List.flatMap_cons];simp
  rw [hfold]
  dsimp only
  rw [xky _ _ (by omega),obs];rfl
theorem ysi {p:List Zd} {l:List Zb} {i:ByteArray} {c:Za} (h:admB p l i c=true):∃ q a r,findP p c.Product=some q∧findA l c.Agreement=some a∧ruleOfS a q.Code=some r∧q.Country≠i∧hasP a q.Country i=true:=by
 unfold admB at h
 split at h
 ·rename_i q a e1 e2
  simp only [Bool.and_eq_true,Bool.not_eq_true',decide_eq_false_iff_not] at h
  obtain ⟨⟨h1,h2⟩,h3⟩:=h
  obtain ⟨r,hr⟩:=Option.isSome_iff_exists.1 h3
  exact ⟨q,a,r,e1,e2,hr,h1,h2⟩
 cases h
theorem ypq {plan:List Zd} (hv:VPs plan) (a:Zb) (ps:List Int) (S:CSet) {p:Zd} (hp:VProd plan p):(suppliesS plan a ps S p).length≤64:=by
 unfold suppliesS
 have key:∀ xs:List Zf,(∀ x∈xs,(findP plan x.Product).isSome=true)→(xs.flatMap (supplyS plan a ps S)).length≤8*xs.length:=by
  intro xs
  induction xs with
  | nil=>intro _;simp
  | cons x xs ih =>
   intro h
   rw [List.flatMap_cons,List.length_append,List.length_cons]
   have h1:=yrq hv a ps S x (h x (by simp));have h2:=ih fun y hy=>h y (by simp [hy]);omega
 have h1:=key p.Inputs fun x hx=>(hp.inp x hx).1
 have h2:=hp.few
 omega
theorem xmn {plan:List Zd} {l:List Zb} (hv:VPs plan) (hl:VAs l) (imp:ByteArray) (c:Za) (set:List Za) (hs:set.length≤140737488355328):yjm plan l imp c set=some (caseS plan l imp c (memB set)):=by
 unfold yjm caseS
 have hlen:=hl.len
 rw [xgp _ _ _ _ hv.sorted hl,obs]
 cases had:admB plan l imp c
 ·rfl
 obtain ⟨q,a,r,e1,e2,_,_,_⟩:=ysi had
 have hq:VProd plan (getP plan c.Product):=(yhu hv (by rw [e1];rfl)).2.1
 have ha:agrOf l c.Agreement=a:=by unfold agrOf;rw [e2];rfl
 have hva:=(yqh hl e2).1
 simp only [Bool.not_true,cof,cot]
 rw [xag hv,obs,yta _ _ (by omega),e2,obs,xab _ _ _ _ hl,obs]
 have hpl:=ytj l c.Agreement (getP plan c.Product).Country imp
 unfold caseC premC
 rw [ha]
 generalize hps:partnersS l c.Agreement (getP plan c.Product).Country imp=ps at *
 refine (ycp (l:=set) (by omega) (fun i (m:List (Za×Bool))=>(i,m)) (fun m x=>mset m x true) (fun m=>m) (fun _ _=>True) [] trivial (fun k hk m _=>⟨?_,trivial⟩) (fun m _=>by simp only [yhb,cof])).1.trans ?_
 ·simp only [dlt hk,cot,yax hk,obs,ycw hk (show set.length≤4611686018427387904 by omega)]
 rw [xmm hv (opt2 zAgr (some a)).1 hva.ok.par.1 hq ps (by omega) _ (memB set) (fun c=>mget_set set c),obs]
 dsimp +instances only [opt2]
 have hsl:=ypq hv a ps (memB set) hq
 refine (ycp (l:=(suppliesS plan a ps (memB set) (getP plan c.Product)).map icS) (by rw [List.length_map];omega) (fun i (s:List Za×List Zk)=>(s.1,i,s.2)) (fun s x=>(cond x.is_proved_ (s.1++[x.as_proved_.premise]) s.1,s.2++[match x with | .plain_ y=>y.use | .proved_ y=>y.use])) (fun s=>s) (fun k s=>s.1.length≤k∧s.2.length≤k) ([],[]) ⟨by simp,by simp⟩ (fun k hk s hs=>⟨?_,?_⟩) (fun s _=>by simp only [yhb,cof])).1.trans ?_
 ·have hk2:k<64:=by rw [List.length_map] at hk;omega
  have ei:∀ x:Ze,Icumulation_supply_input x=some (match x with | .plain_ y=>y.use | .proved_ y=>y.use):=fun x=>by cases x <;> rfl
  simp only [dlt hk,cot,yax hk,obs,ycw hk (show ((suppliesS plan a ps (memB set) (getP plan c.Product)).map icS).length≤4611686018427387904 by rw [List.length_map];omega),ei]
  rw [yds (by simp;omega) (by simp;omega),obs,yds (by simp;omega) (by simp;omega)]
  cases ((suppliesS plan a ps (memB set) (getP plan c.Product)).map icS)[k].is_proved_ <;> rfl
 ·obtain ⟨h1,h2⟩:=hs
  cases ((suppliesS plan a ps (memB set) (getP plan c.Product)).map icS)[k].is_proved_ <;> simp <;> omega
 have key:∀ (xs:List (Zk×Option Za)) (s:List Za×List Zk),(xs.map icS).foldl (fun s x=>(cond x.is_proved_ (s.1++[x.as_proved_.premise]) s.1,s.2++[match x with | .plain_ y=>y.use | .proved_ y=>y.use])) s=(s.1++xs.filterMap (·.2),s.2++xs.map (·.1)):=by
  intro xs
  induction xs with
  | nil=>intro s;simp
  | cons x xs ih =>
   intro s
   obtain ⟨i,o⟩:=x
   rw [List.map_cons,List.foldl_cons,ih]
   cases o with
   | none=>simp [icS,Ze.is_proved_]
   | some c=>simp [icS,Ze.is_proved_,Ze.as_proved_]
 rw [key]
 simp only [List.nil_append]
 show Option.bind (some (isort ltClaim _)) _=_
 rw [obs,compactC _ (by rw [ypm];have:=List.length_filterMap_le (fun x:Zk×Option Za=>x.2) (suppliesS plan a ps (memB set) (getP plan c.Product));omega)];rfl
theorem ref_case {plan:List Zd} {l:List Zb} (hv:VPs plan) (hl:VAs l) (imp:ByteArray) (c:Za) (set:List Za) (hs:set.length≤140737488355328):yju plan l imp c set=some (caseS plan l imp c (memB set)):=by
 unfold yju caseS
 have hlen:=hl.len
 rw [xlt _ _ _ _ (by have:=hv.len;omega) hl,obs]
 cases had:admB plan l imp c
 ·rfl
 obtain ⟨q,a,r,e1,e2,_,_,_⟩:=ysi had
 have hq:VProd plan (getP plan c.Product):=(yhu hv (by rw [e1];rfl)).2.1
 have ha:agrOf l c.Agreement=a:=by unfold agrOf;rw [e2];rfl
 have hva:=(yqh hl e2).1
 simp only [Bool.not_true,cof,cot]
 rw [ywm hv,obs,ywd _ _ (by omega),e2,obs,xcg _ _ _ _ hl,obs]
 have hpl:=ytj l c.Agreement (getP plan c.Product).Country imp
 unfold caseC premC
 rw [ha]
 simp only [opt2]
 generalize hps:partnersS l c.Agreement (getP plan c.Product).Country imp=ps at *
 have hpr:=wlen hq.proc
 have hfew:=hq.few
 generalize getP plan c.Product=p at *
 have hps2:ps.length≤140737488355328:=by omega
 refine (ycp (l:=p.Inputs) (by omega) (fun i (s:List Za×List ByteArray×List Zk)=>(s.1,s.2.1,i,s.2.2)) (fun s x=>(((supplyS plan a ps (memB set) x).filterMap (·.2)).foldl (insS ltClaim) s.1,procS plan a s.2.1 x,s.2.2++(supplyS plan a ps (memB set) x).map (·.1))) (fun s=>s) (fun k s=>s.1.length≤8*k∧s.2.1.length≤8+8*k∧s.2.2.length≤8*k) ([],p.Processes,[]) ⟨by simp,by simpa using hpr,by simp⟩ (fun k hk s hs=>?_) (fun s _=>by simp only [yhb,cof])).1.trans ?_
 ·obtain ⟨l13,l14,l17⟩:=s
  obtain ⟨h1,h2,h3⟩:=hs
  dsimp only at h1 h2 h3 ⊢
  obtain ⟨hin,hv0,hv1⟩:=hq.inp _ (List.getElem_mem hk)
  obtain ⟨hq1,hq2,hq3⟩:=yhu hv hin
  have hql:=hq2.few
  have hsl:=yrq hv a ps (memB set) p.Inputs[k] hin
  have hins:∀ (cs:List Za) (u:List Za),(cs.foldl (insS ltClaim) u).length≤u.length+cs.length:=by
   intro cs
   induction cs with
   | nil=>intro u;simp
   | cons c cs ih=>intro u;rw [List.foldl_cons,List.length_cons];have h1:=ih (insS ltClaim u c);have h2:=yol (lt:=ltClaim) u c;omega
  refine ⟨?_,?_,by have:=xcq hv a l14 p.Inputs[k] hin;omega,by simp;omega⟩
  rotate_left
  ·have g1:=hins ((supplyS plan a ps (memB set) p.Inputs[k]).filterMap (·.2)) l13
   have g2:=List.length_filterMap_le (fun x:Zk×Option Za=>x.2) (supplyS plan a ps (memB set) p.Inputs[k])
   omega
  simp only [dlt hk,cot,yax hk,obs,ycw hk (show p.Inputs.length≤4611686018427387904 by omega),ywm hv]
  generalize hx:p.Inputs[k]=x at *
  have hset:set.length≤140737488355328:=hs
  have htk:=ref_take ps set hps2 hset
  rw [ysz _ _ hva.ok.par.1,(htk (getP plan x.Product) x.Value).1]
  unfold supplyS procS fullB
  have e2:∀ {β:Type} (K:Bool→Option β),(∀ b c,((a.Kind == 3)&&b)=((a.Kind == 3)&&c)→K b=K c)→Option.bind (gd (a.Kind == 3) (some (hasS a.Parties (getP plan x.Product).Country))) K=K (hasS a.Parties (getP plan x.Product).Country):=by
   intro β K hK
   cases hk3:(a.Kind == 3)
   ·show K default=_;exact hK _ _ (by rw [hk3];rfl)
   rfl
  rw [e2 _ (fun b c hbc=>by simp only [hbc])]
  generalize hF:((a.Kind == 3)&&hasS a.Parties (getP plan x.Product).Country)=F
  have e3:(cond F (Option.bind (yob l14 (getP plan x.Product).Processes) (fun x38=>some x38)) (some l14))=some (cond F (unionS l14 (getP plan x.Product).Processes) l14):=by
   cases F
   ·rfl
   rw [cot,xly _ _ (by have:=wlen hq2.proc;omega)];rfl
  have e4:∀ (o:Option Za) (u:List Za),u.length≤1000000→(cond o.isSome (Option.bind (yho u (opt2 zClaim o).1) (fun x53=>some x53)) (some u))=some (match o with | some c=>insS ltClaim u c | none=>u):=by
   intro o u hu
   cases o with
   | none=>rfl
   | some c=>show Option.bind (yho u c) _=_;rw [xcj _ _ (by omega)];rfl
  have e5:∀ o:Option Za,(opt2 zClaim o).2=o.isSome:=fun o=>by cases o <;> rfl
  simp only [e3,obs,e5]
  simp only [e4 _ l13 (show l13.length≤1000000 by omega),obs,len0]
  have t1:=(htk (getP plan x.Product) x.Value).2
  generalize htt:takeS ps (memB set) (getP plan x.Product) x.Value=tt at *
  obtain ⟨ti,to⟩:=tt
  dsimp only at t1 ⊢
  cases hc:(to.isSome || !F||(getP plan x.Product).Inputs.isEmpty)
  ·have hto:to=none:=by cases to with | none=>rfl | some c=>simp at hc
   subst hto
   simp only [cof]
   refine (congrArg (fun o=>Option.bind o _) (ycp (l:=(getP plan x.Product).Inputs) (by omega) (fun i (s:List Za×List Zk)=>(s.1,i,s.2)) (fun s y=>((match (takeS ps (memB set) (getP plan y.Product) (portionS x.Value y.Value (getP plan x.Product).Price)).2 with | some c=>insS ltClaim s.1 c | none=>s.1),s.2++[(takeS ps (memB set) (getP plan y.Product) (portionS x.Value y.Value (getP plan x.Product).Price)).1])) (fun s=>s) (fun j s=>s.1.length≤8*k+j∧s.2.length≤8*k+j) (l13,l17) ⟨h1,h3⟩ (fun j hj s hs=>⟨?_,?_⟩) (fun s _=>by simp only [yhb,cof])).1).trans ?_
   ·obtain ⟨hy1,hy2,hy3⟩:=hq2.inp _ (List.getElem_mem hj)
    simp only [dlt hj,cot,yax hj,obs,ycw hj (show (getP plan x.Product).Inputs.length≤4611686018427387904 by omega)]
    rw [xeu ⟨hv0,hv1⟩ ⟨hy2,hy3⟩ hq2.price,(htk (getP plan ((getP plan x.Product).Inputs[j]).Product) (portionS x.Value ((getP plan x.Product).Inputs[j]).Value (getP plan x.Product).Price)).1,obs,e5,e4 _ s.1 (by omega),obs,← (htk (getP plan ((getP plan x.Product).Inputs[j]).Product) (portionS x.Value ((getP plan x.Product).Inputs[j]).Value (getP plan x.Product).Price)).2,yds (by simp;omega) (by simp;omega)];rfl
   ·refine ⟨?_,by simp;omega⟩
    dsimp only
    split
    ·rename_i c' _;have:=yol (lt:=ltClaim) s.1 c';omega
    omega
   have hfl:∀ (ys:List Zf) (s:List Za×List Zk),ys.foldl (fun s y=>((match (takeS ps (memB set) (getP plan y.Product) (portionS x.Value y.Value (getP plan x.Product).Price)).2 with | some c=>insS ltClaim s.1 c | none=>s.1),s.2++[(takeS ps (memB set) (getP plan y.Product) (portionS x.Value y.Value (getP plan x.Product).Price)).1])) s=(((ys.map fun y=>takeS ps (memB set) (getP plan y.Product) (portionS x.Value y.Value (getP plan x.Product).Price)).filterMap (·.2)).foldl (insS ltClaim) s.1,s.2++(ys.map fun y=>takeS ps (memB set) (getP plan y.Product) (portionS x.Value y.Value (getP plan x.Product).Price)).map (·.1)):=by
    intro ys
    induction ys with
    | nil=>intro s;simp
    | cons y ys ih =>
     intro s
     rw [List.foldl_cons,ih,List.map_cons]
     cases h:(takeS ps (memB set) (getP plan y.Product) (portionS x.Value y.Value (getP plan x.Product).Price)).2 with
     | none=>simp [h]
     | some c=>simp [h]
   simp only [obs,hfl]
  simp only [cot]
  rw [yds (by simp;omega) (by simp;omega),← t1]
  cases to <;> rfl
 have hfold:∀ (xs:List Zf) (s:List Za×List ByteArray×List Zk),xs.foldl (fun s x=>(((supplyS plan a ps (memB set) x).filterMap (·.2)).foldl (insS ltClaim) s.1,procS plan a s.2.1 x,s.2.2++(supplyS plan a ps (memB set) x).map (·.1))) s=(((xs.flatMap (supplyS plan a ps (memB set))).filterMap (·.2)).foldl (insS ltClaim) s.1,xs.foldl (procS plan a) s.2.1,s.2.2++(xs.flatMap (supplyS plan a ps (memB set))).map (·.1)):=by
  intro xs
  induction xs with
  | nil=>intro s;simp
  | cons x xs ih=>intro s;rw [List.foldl_cons,ih,List.flatMap_cons];simp
 rw [hfold]
 dsimp only
 rw [xky _ _ (by omega),obs,ywk ordC,List.nil_append];rfl
theorem C6_ctry {s:ByteArray} (h:s∈C6):ctry s=true:=List.all_eq_true.1 C6_ok.1 s h
theorem W5_words {l:List ByteArray} (h:l.Sublist W5):wordsB l=true:=by
 unfold wordsB
 have h1:=h.length_le
 have h5:W5.length=5:=rfl
 simp only [Bool.and_eq_true,decide_eq_true_eq]
 exact ⟨by omega,List.all_eq_true.2 fun s hs=>List.all_eq_true.1 W5_ok.1 s (h.subset hs),(ymj _).2 (List.Pairwise.sublist h ((ymj _).1 W5_ok.2.1))⟩
theorem MPs.found {l:List Zd} (h:MPs l) {k:Nat} (hk:k<l.length):(findP l (3*((k:Int)+1))).isSome=true:=by
 unfold findP
 rw [List.find?_isSome]
 exact ⟨l[k],List.getElem_mem hk,by have:=(h.all k _ (List.getElem?_eq_getElem hk)).id;simpa using this⟩
theorem MPs.vps {l:List Zd} (h:MPs l):VPs l:=by
 refine ⟨by have:=h.len;omega,h.sorted.asc,fun p hp=>?_⟩
 obtain ⟨i,hi,rfl⟩:=List.getElem_of_mem hp
 have hm:=h.all i _ (List.getElem?_eq_getElem hi)
 refine ⟨by have:=hm.price;omega,by have:=hm.lvl.1;omega,C6_ctry hm.ctr,W5_words hm.proc,by have:=hm.few;omega,hm.asc,fun x hx=>?_,hm.obt⟩
 obtain ⟨⟨k,hk,e⟩,h1,h2⟩:=hm.inp x hx
 exact ⟨by rw [e];exact h.found hk,h1,by omega⟩
theorem xgs (ps:List Int) (S:CSet) (q:Zd) (v:Int):(takeS ps S q v).1.Code=q.Code∧(takeS ps S q v).1.Value=v∧(takeS ps S q v).1.Originating=(takeS ps S q v).2.isSome:=by
 unfold takeS;split <;> exact ⟨rfl,rfl,rfl⟩
theorem xil {plan:List Zd} (hv:VPs plan) (a:Zb) (ps:List Int) (S:CSet) {p:Zd} (hp:VProd plan p) (P:Zk×Option Za→Prop) (h:∀ q∈plan,∀ v,0≤v→v≤1000000000000→P (takeS ps S q v)):∀ t∈suppliesS plan a ps S p,P t:=by
 intro t ht
 unfold suppliesS at ht
 obtain ⟨x,hx,ht⟩:=List.mem_flatMap.1 ht
 obtain ⟨h1,h2,h3⟩:=hp.inp x hx
 obtain ⟨hq1,hq2,_⟩:=yhu hv h1
 unfold supplyS at ht
 cases hc:((takeS ps S (getP plan x.Product) x.Value).2.isSome || !fullB a (getP plan x.Product)||(getP plan x.Product).Inputs.isEmpty)
 ·rw [hc,cof] at ht
  obtain ⟨y,hy,rfl⟩:=List.mem_map.1 ht
  obtain ⟨g1,g2,g3⟩:=hq2.inp y hy
  have hr:=ymq h2 g2 hq2.price.1
  exact h _ (yhu hv g1).1 _ hr.1 hr.2
 rw [hc,cot] at ht
 rw [List.mem_singleton.1 ht]
 exact h _ hq1 _ h2 h3
theorem xev {a b:List ByteArray} (ha:∀ s∈a,wordB s=true) (hb:∀ s∈b,wordB s=true):(∀ s∈unionS a b,wordB s=true)∧Strict ltS (unionS a b):=by
 refine ⟨fun s hs=>?_,xci ordS _⟩
 have:=(sd_mem (lt:=ltS) (a++b) s).1 hs
 rcases List.mem_append.1 this with h | h
 ·exact ha s h
 exact hb s h
theorem yyi {plan:List Zd} (hv:VPs plan) (a:Zb):∀ (xs:List Zf) (acc:List ByteArray),(∀ x∈xs,(findP plan x.Product).isSome=true)→(∀ s∈acc,wordB s=true)→Strict ltS acc→(∀ s∈xs.foldl (procS plan a) acc,wordB s=true)∧Strict ltS (xs.foldl (procS plan a) acc)
 | [],acc,_,h1,h2=>⟨h1,h2⟩
 | x::xs,acc,h,h1,h2=>by
  have hx:=yhu hv (h x (by simp))
  rw [List.foldl_cons]
  have:(∀ s∈procS plan a acc x,wordB s=true)∧Strict ltS (procS plan a acc x):=by
   unfold procS
   cases fullB a (getP plan x.Product)
   ·exact ⟨h1,h2⟩
   exact xev h1 (ykf hx.2.1.proc).2.1
  exact yyi hv a xs _ (fun y hy=>h y (by simp [hy])) this.1 this.2
theorem yyj {s:ByteArray} (h:wordB s=true):s.size≤12:=by
 unfold wordB at h;simp only [Bool.and_eq_true,decide_eq_true_eq] at h;omega
theorem xim {l:List ByteArray} (h1:∀ s∈l,wordB s=true) (h2:Strict ltS l):wordsB (l.take 8)=true∧StrsOk (l.take 8):=by
 refine ⟨?_,by rw [List.length_take];omega,fun s hs=>by have:=yyj (h1 s (List.mem_of_mem_take hs));omega⟩
 unfold wordsB
 simp only [Bool.and_eq_true,decide_eq_true_eq]
 exact ⟨by rw [List.length_take];omega,List.all_eq_true.2 fun s hs=>h1 s (List.mem_of_mem_take hs),(ymj _).2 (List.Pairwise.sublist (List.take_sublist _ _) h2)⟩
structure VCase (x:Zn):Prop where
 lvl:6≤level x.Code
 price:1≤x.Price∧x.Price≤1000000000000
 proc:wordsB x.Processes=true∧StrsOk x.Processes
 few:x.Inputs.length≤100
 inp:∀ y∈x.Inputs,6≤level y.Code∧0≤y.Value∧y.Value≤1000000000000
theorem ytb {plan:List Zd} {l:List Zb} (hv:VPs plan) (imp:ByteArray) (c:Za) (S:CSet) (h:(findP plan c.Product).isSome=true):VCase (caseC plan l imp c S):=by
 obtain ⟨hq1,hq,_⟩:=yhu hv h
 obtain ⟨w1,w2,w3⟩:=ykf hq.proc
 have hw:=yyi hv (agrOf l c.Agreement) (getP plan c.Product).Inputs _ (fun x hx=>(hq.inp x hx).1) w2 w3
 refine ⟨hq.lvl,hq.price,xim hw.1 hw.2,?_,?_⟩
 ·unfold caseC;dsimp only;rw [List.length_map];have:=ypq hv (agrOf l c.Agreement) (partnersS l c.Agreement (getP plan c.Product).Country imp) S hq;omega
 unfold caseC;dsimp only
 intro y hy
 obtain ⟨t,ht,rfl⟩:=List.mem_map.1 hy
 refine xil hv _ _ S hq (fun t=>6≤level t.1.Code∧0≤t.1.Value∧t.1.Value≤1000000000000) (fun q hqp v h1 h2=>?_) t ht
 obtain ⟨g1,g2,_⟩:=xgs (partnersS l c.Agreement (getP plan c.Product).Country imp) S q v
 rw [g1,g2];exact ⟨(hv.all q hqp).lvl,h1,h2⟩
theorem yxh {x:Zn} (h:VCase x):ygk x=some 0:=by
 unfold ygk yhy
 have hl:=h.few
 show Option.bind (some (decide (6≤level x.Code))) _=_
 rw [det h.lvl,obs]
 simp only [Bool.not_true,cof]
 rw [ydl (by have:=h.price;omega),ydl (by have:=h.price;omega),Bool.or_self,cof,ysw _ h.proc.2,h.proc.1,obs]
 simp only [Bool.not_true,cof]
 rw [ydl (by omega),cof]
 refine (ybz (l:=x.Inputs) (by omega) (fun _ _=>none) (.inl ()) (fun k hk=>?_) (by simp only [yhb,cof])).trans ?_
 ·have hy:=h.inp _ (List.getElem_mem hk)
  simp only [dlt hk,cot,yax hk,obs,ycw hk (show x.Inputs.length≤4611686018427387904 by omega)]
  show Option.bind (Option.bind (some (level x.Inputs[k].Code)) _) _=_
  rw [obs,det hy.1,obs,ydl (by omega),ydl (by omega)];rfl
 have:∀ (m:List Zk) (i:Nat),findS (fun (_:Nat) (_:Zk)=>(none:Option (Unit⊕Int))) m i=none:=by
  intro m
  induction m with
  | nil=>intro i;rfl
  | cons x m ih=>intro i;exact ih _
 rw [this];rfl
theorem prem_len {plan:List Zd} {l:List Zb} (hv:VPs plan) (imp:ByteArray) (c:Za) (S:CSet) (h:(findP plan c.Product).isSome=true):(premC plan l imp c S).length≤64:=by
 obtain ⟨hq1,hq,_⟩:=yhu hv h
 unfold premC
 have h1:=sd_len (lt:=ltClaim) ((suppliesS plan (agrOf l c.Agreement) (partnersS l c.Agreement (getP plan c.Product).Country imp) S (getP plan c.Product)).filterMap (·.2))
 have h2:=List.length_filterMap_le (fun x:Zk×Option Za=>x.2) (suppliesS plan (agrOf l c.Agreement) (partnersS l c.Agreement (getP plan c.Product).Country imp) S (getP plan c.Product))
 have h3:=ypq hv (agrOf l c.Agreement) (partnersS l c.Agreement (getP plan c.Product).Country imp) S hq
 omega
theorem xcs {p:List Zd} {l:List Zb} {i:ByteArray} {c:Za} (h:admB p l i c=true):(findP p c.Product).isSome=true:=by
 obtain ⟨q,a,r,e,_⟩:=ysi h;rw [e];rfl
def xw (n:Int):Zo:=⟨n / 18446744073709551616,n % 18446744073709551616⟩
def U128 (n:Int):Prop:=0≤n∧n<340282366920938463463374607431768211456
theorem xw_of {w:Zo} (h:XW w):w=xw (xv w)∧U128 (xv w):=by
 obtain ⟨a,b⟩:=w
 unfold XW U64 at h;unfold xw xv U128;dsimp only at *
 refine ⟨?_,by omega⟩
 congr 1 <;> omega
theorem xmul {a b:Int} (ha:U64 a) (hb:U64 b):yjz a b=some (xw (a*b))∧U128 (a*b):=by
 obtain ⟨w,e1,e2,e3⟩:=xcm ha hb
 have:=xw_of e2
 rw [e3] at this
 rw [e1];exact ⟨congrArg some this.1,this.2⟩
theorem xcmp {a b:Int} (ha:U128 a) (hb:U128 b):ygj (xw a) (xw b)=some (if a<b then -1 else if a=b then 0 else 1):=by
 unfold U128 at *
 unfold ygj xw Zo.eqb
 dsimp only
 by_cases h:a<b
 ·have:((decide (a / 18446744073709551616<b / 18446744073709551616))||((a / 18446744073709551616 == b / 18446744073709551616)&&(decide (a % 18446744073709551616<b % 18446744073709551616))))=true:=by
   simp only [Bool.or_eq_true,Bool.and_eq_true,decide_eq_true_eq,beq_iff_eq];omega
  rw [this,if_pos h];rfl
 ·have:((decide (a / 18446744073709551616<b / 18446744073709551616))||((a / 18446744073709551616 == b / 18446744073709551616)&&(decide (a % 18446744073709551616<b % 18446744073709551616))))=false:=by
   simp only [Bool.or_eq_false_iff,Bool.and_eq_false_iff,decide_eq_false_iff_not,beq_eq_false_iff_ne];omega
  rw [this,if_neg h]
  simp only [cof]
  by_cases h2:a=b
  ·subst h2;simp
  rw [if_neg h2]
  have:((a / 18446744073709551616 == b / 18446744073709551616)&&(a % 18446744073709551616 == b % 18446744073709551616))=false:=by
   simp only [Bool.and_eq_false_iff,beq_eq_false_iff_ne];omega
  simp [this]
theorem ywn {v s p:Int} (hv:0≤v∧v≤100000000000000) (hs:0≤s∧s≤1000000) (hp:0≤p∧p≤1000000000000):yjj v s p=some (decide (v*1000000≤s*p)):=by
 unfold yjj
 rw [yhz (a:=v) ⟨by omega,by omega⟩,yhz (a:=s) ⟨by omega,by omega⟩,yhz (a:=p) ⟨by omega,by omega⟩]
 obtain ⟨e1,u1⟩:=xmul (a:=v) (b:=1000000) ⟨by omega,by omega⟩ ⟨by omega,by omega⟩
 obtain ⟨e2,u2⟩:=xmul (a:=s) (b:=p) ⟨by omega,by omega⟩ ⟨by omega,by omega⟩
 rw [e1,obs,e2,obs,xcmp u1 u2,obs]
 congr 1
 by_cases h:v*1000000<s*p
 ·rw [if_pos h,det (by omega),det (by omega)]
 rw [if_neg h]
 by_cases h2:v*1000000=s*p
 ·rw [if_pos h2,det (by omega),det (by omega)]
 rw [if_neg h2,ydl (by omega),ydl (by omega)]
def violB (r:Zc) (code inp:ByteArray):Bool:=prefB inp (code.extract 0 r.Digits.toNat)||r.Except.any fun x=>prefB inp x
theorem prog_any (l:List ByteArray) (s:ByteArray) (hl:l.length≤140737488355328):yce l (fun y=>ygi y s)=some (l.any fun x=>prefB s x):=by
 unfold yce
 have e:ycl l (fun y=>ygi y s)=some (match findS (fun k x=>cond (prefB s x) (some (Sum.inr (k:Int):Unit⊕Int)) none) l 0 with | some (.inr k)=>k | _ => -1):=by
  unfold ycl
  refine (ybz (l:=l) (by omega) (fun k x=>cond (prefB s x) (some (.inr (k:Int))) none) (.inl ()) (fun k hk=>?_) (by simp only [yhb,cof])).trans ?_
  ·simp only [dlt hk,cot,yax hk,obs,ycw hk (show l.length≤4611686018427387904 by omega)]
   unfold ygi
   rw [ywb,obs,obs];cases prefB s l[k] <;> rfl
  cases findS (fun k x=>cond (prefB s x) (some (Sum.inr (k:Int):Unit⊕Int)) none) l 0 with
  | none=>rfl
  | some t=>cases t <;> rfl
 rw [e,obs]
 rcases yqg (fun x=>prefB s x) (fun k=>(Sum.inr (k:Int):Unit⊕Int)) l 0 with ⟨h1,h2⟩ | ⟨j,hj,h1,h2⟩
 ·rw [h1]
  have:(l.any fun x=>prefB s x)=false:=by rw [List.any_eq_false];exact fun x hx=>by have:=List.find?_eq_none.1 h2 x hx;simpa using this
  rw [this];rfl
 rw [h1]
 have:(l.any fun x=>prefB s x)=true:=by
  rw [List.any_eq_true];exact ⟨_,List.getElem_mem hj,List.find?_some h2⟩
 rw [this]
 show some (decide (0≤((0+j:Nat):Int)))=_
 rw [det (by omega)]
theorem ytc {s:ByteArray} (h:6≤level s):6≤s.size:=by
 unfold level at h
 split at h
 ·omega
 omega
theorem xah {r:Zc} {code:ByteArray} (hd:r.Digits=2∨r.Digits=4∨r.Digits=6) (he:r.Except.length≤6) (hc:6≤level code) (inp:ByteArray):yhp r code inp=some (violB r code inp):=by
 unfold yhp violB
 have hs:=ytc hc
 have e:ssub code 0 r.Digits=some (code.extract 0 r.Digits.toNat):=by
  unfold ssub;rw [if_pos (by omega)];rfl
 rw [e,obs,ywb,obs]
 cases prefB inp (code.extract 0 r.Digits.toNat)
 ·simp only [cof,Bool.false_or];rw [prog_any _ _ (by omega),obs]
 rfl
def wS (f:Zk→Int):List Zk→Int
 | []=>0
 | i::l=>cond i.Originating 0 (f i)+wS f l
def fV (i:Zk):Int:=i.Value
def fW (r:Zc) (code:ByteArray) (i:Zk):Int:=cond (violB r code i.Code) i.Value 0
def fN (_:Zk):Int:=1
def leafH (r:Zc) (x:Zn):Bool :=
 cond (r.Kind == 1) (x.Obtained&&(wS fN x.Inputs == 0)) (cond (r.Kind == 2) (decide (wS (fW r x.Code) x.Inputs*1000000≤r.Tolerance*x.Price)) (cond (r.Kind == 3) (decide (wS fV x.Inputs*1000000≤r.Limit*x.Price)) (cond (r.Kind == 4) (hasS x.Processes r.Name) false)))
theorem xct (f:Zk→Int):∀ l m:List Zk,wS f (l++m)=wS f l+wS f m
 | [],m=>by simp [wS]
 | i::l,m=>by rw [List.cons_append,wS,wS,xct f l m];omega
theorem ysj {f:Zk→Int} {b:Int} (hb:0≤b):∀ {l:List Zk},(∀ i∈l,0≤f i∧f i≤b)→0≤wS f l∧wS f l≤l.length*b
 | [],_=>by simp [wS]
 | i::l,h=>by
  have h1:=ysj hb (l:=l) fun j hj=>h j (by simp [hj])
  have h2:=h i (by simp)
  rw [wS,List.length_cons]
  have e:((l.length+1:Nat):Int)*b=l.length*b+b:=by rw [Int.natCast_add,Int.add_mul];simp
  rw [e]
  cases i.Originating
  ·simp only [cof];omega
  simp only [cot];omega
theorem prog_holds {r:Zc} {x:Zn} (hx:VCase x) (hr:ruleB r=true):rule_holds r x=some (leafH r x):=by
 unfold rule_holds
 have hfew:=hx.few
 have hrl:=ynl hr
 have hvi:r.Kind=2→∀ i,yhp r x.Code i=some (violB r x.Code i):=by
  intro hk i
  have hl:=hr
  rw [yhq,hk] at hl
  simp only [leafB,hk,Bool.and_eq_true] at hl
  have h3:=hl.2
  simp at h3
  exact xah (by omega) hrl.2.2 hx.lvl i
 refine (ycp (l:=x.Inputs) (by omega) (fun i (s:Int×Int×Int)=>(s.1,s.2.1,s.2.2,i)) (fun s i=>(s.1+cond i.Originating 0 (fV i),s.2.1+cond i.Originating 0 (cond (r.Kind == 2) (fW r x.Code i) 0),s.2.2+cond i.Originating 0 (fN i))) (fun s=>s) (fun k s=>(0≤s.1∧s.1≤k*1000000000000)∧(0≤s.2.1∧s.2.1≤k*1000000000000)∧(0≤s.2.2∧s.2.2≤k)) (0,0,0) ⟨by simp,by simp,by simp⟩ (fun k hk s hs=>?_) (fun s _=>by simp only [yhb,cof])).1.trans ?_
 ·obtain ⟨a,b,c⟩:=s
  obtain ⟨s1,s2,s3⟩:=hs
  dsimp only at s1 s2 s3 ⊢
  have hi:=hx.inp _ (List.getElem_mem hk)
  have hk100:k<100:=by omega
  simp only [dlt hk,cot,yax hk,obs,ycw hk (show x.Inputs.length≤4611686018427387904 by omega)]
  generalize x.Inputs[k]=i at hi
  unfold fV fN fW
  cases i.Originating
  ·simp only [cof]
   cases hk2:(r.Kind == 2)
   ·simp only [ymw,obs,Bool.false_and,cof]
    rw [ygo (r:=a+i.Value) (by omega) (by omega),ygo (r:=c+1) (by omega) (by omega)]
    refine ⟨by simp,⟨by omega,by omega⟩,⟨by omega,by omega⟩,by omega,by omega⟩
   rw [yee,hvi (eq_of_beq hk2),obs]
   cases violB r x.Code i.Code
   ·simp only [Bool.and_false,cof,obs,cot]
    rw [ygo (r:=a+i.Value) (by omega) (by omega),ygo (r:=c+1) (by omega) (by omega)]
    refine ⟨by simp,⟨by omega,by omega⟩,⟨by omega,by omega⟩,by omega,by omega⟩
   simp only [Bool.and_self,cot,obs]
   rw [ygo (r:=a+i.Value) (by omega) (by omega),ygo (r:=c+1) (by omega) (by omega),ygo (r:=b+i.Value) (by omega) (by omega)]
   refine ⟨rfl,⟨by omega,by omega⟩,⟨by omega,by omega⟩,by omega,by omega⟩
  simp only [cot,obs,Int.add_zero]
  refine ⟨trivial,⟨by omega,by omega⟩,⟨by omega,by omega⟩,by omega,by omega⟩
 have key:∀ (l:List Zk) (a b c:Int),l.foldl (fun (s:Int×Int×Int) i=>(s.1+cond i.Originating 0 (fV i),s.2.1+cond i.Originating 0 (cond (r.Kind == 2) (fW r x.Code i) 0),s.2.2+cond i.Originating 0 (fN i))) (a,b,c)=(a+wS fV l,b+wS (fun i=>cond (r.Kind == 2) (fW r x.Code i) 0) l,c+wS fN l):=by
  intro l
  induction l with
  | nil=>intro a b c;simp [wS]
  | cons i l ih=>intro a b c;rw [List.foldl_cons,ih];simp only [wS,Int.add_assoc]
 rw [key]
 dsimp only
 have hv:0≤wS fV x.Inputs∧wS fV x.Inputs≤100000000000000:=by
  have:=ysj (f:=fV) (b:=1000000000000) (by omega) (l:=x.Inputs) fun i hi=>(hx.inp i hi).2
  omega
 have hw:0≤wS (fW r x.Code) x.Inputs∧wS (fW r x.Code) x.Inputs≤100000000000000:=by
  have:=ysj (f:=fW r x.Code) (b:=1000000000000) (by omega) (l:=x.Inputs) fun i hi=>by
   have:=(hx.inp i hi).2
   unfold fW;cases violB r x.Code i.Code
   ·simp only [cof];omega
   exact this
  omega
 have hp:=hx.price
 unfold leafH
 have hl:=hr
 rw [yhq] at hl
 unfold leafB mil at hl
 simp only [Int.zero_add]
 cases h1:(r.Kind == 1)
 ·cases h2:(r.Kind == 2)
  ·cases h3:(r.Kind == 3)
   ·simp only [cof]
    cases h4:(r.Kind == 4)
    ·rfl
    simp only [cot];rw [yty _ _ hx.proc.2.1];rfl
   have hk:=eq_of_beq h3
   rw [hk] at hl
   simp at hl
   simp only [cof,cot]
   rw [ywn hv hl.2 (by omega)];rfl
  have hk:=eq_of_beq h2
  rw [hk] at hl
  simp at hl
  simp only [cof,cot]
  rw [ywn hw (by omega) (by omega)];rfl
 simp only [cot]
mutual
def tt:Zc→Zh
 | ⟨k,d,e,t,m,n,l⟩=>cond (k == 5) (.every_ (tts l)) (cond (k == 6) (.some_ (tts l)) (.single_ ⟨⟨k,d,e,t,m,n,l⟩⟩))
def tts:List Zc→List Zh
 | []=>[]
 | a::l=>tt a::tts l
end
theorem xmo:∀ l:List Zc,tts l=l.map tt
 | []=>by rw [tts];rfl
 | a::l=>by rw [tts,xmo l];rfl
theorem tt_eq (r:Zc):tt r=cond (r.Kind == 5) (.every_ (r.Args.map tt)) (cond (r.Kind == 6) (.some_ (r.Args.map tt)) (.single_ ⟨r⟩)):=by
 cases r;rw [tt,xmo]
theorem ywo:∀ {l:List Zc} {a:Zc},a∈l→cnt a≤cnts l
 | b::l,a,h=>by
  rw [cnts]
  rcases List.mem_cons.1 h with rfl | h
  ·omega
  have:=ywo h;omega
theorem testOf_F (n:Nat):∀ r:Zc,ruleB r=true→dep r≤n→yiy n r=some (tt r):=by
 induction n with
 | zero=>intro r _ hd;rw [yop] at hd;omega
 | succ n ih =>
  intro r hr hd
  obtain ⟨hl,ha,_⟩:=ynl hr
  show yix (yiy n) r=_
  unfold yix
  refine (ycp (l:=r.Args) (by omega) (fun i (s:List Zh)=>(s,i)) (fun s x=>s++[tt x]) (fun s=>s) (fun k s=>s.length=k) [] rfl (fun k hk s hs=>?_) (fun s _=>by simp only [yhb,cof])).1.trans ?_
  ·simp only [dlt hk,cot,yax hk,obs,ycw hk (show r.Args.length≤4611686018427387904 by omega)]
   rw [ih _ (ha _ (List.getElem_mem hk)) (by have:=ylt (List.getElem_mem hk);omega),obs,yds (by simp;omega) (by simp;omega)]
   exact ⟨rfl,by simp [hs]⟩
  have key:∀ (l:List Zc) (a:List Zh),l.foldl (fun s x=>s++[tt x]) a=a++l.map tt:=by
   intro l
   induction l with
   | nil=>intro a;simp
   | cons x l ih=>intro a;rw [List.foldl_cons,ih];simp
  rw [key,List.nil_append,tt_eq]
  cases (r.Kind == 5) <;> cases (r.Kind == 6) <;> rfl
section
variable (x:Zn)
mutual
def wit:Zc→Option (List Int)
 | ⟨k,d,e,t,m,n,l⟩=>cond (k == 5) (witE l) (cond (k == 6) (witO 0 l) (cond (leafH ⟨k,d,e,t,m,n,l⟩ x) (some []) none))
def witE:List Zc→Option (List Int)
 | []=>some []
 | a::l=>(wit a).bind fun p=>(witE l).bind fun q=>some (p++q)
def witO (i:Nat):List Zc→Option (List Int)
 | []=>none
 | a::l=>match wit a with
  | some p=>some ((i:Int)::p)
  | none=>witO (i+1) l
end
end
theorem xmp (x:Zn) (r:Zc):wit x r=cond (r.Kind == 5) (witE x r.Args) (cond (r.Kind == 6) (witO x 0 r.Args) (cond (leafH r x) (some []) none)):=by
 cases r;rw [wit]
mutual
theorem ywp (x:Zn):∀ (r:Zc) (p:List Int),wit x r=some p→p.length≤cnt r
 | ⟨k,d,e,t,m,n,l⟩,p,h=>by
  rw [wit] at h
  rw [cnt]
  cases h5:(k == 5)
  ·rw [h5] at h
   simp only [cof] at h
   cases h6:(k == 6)
   ·rw [h6] at h
    simp only [cof] at h
    cases hh:leafH ⟨k,d,e,t,m,n,l⟩ x
    ·rw [hh] at h;cases h
    rw [hh] at h;injection h with h;subst h;simp
   rw [h6] at h
   exact xgt x l 0 p h
  rw [h5] at h
  have:=xgu x l p h;omega
theorem xgu (x:Zn):∀ (l:List Zc) (p:List Int),witE x l=some p→p.length≤cnts l
 | [],p,h=>by rw [witE] at h;injection h with h;subst h;simp
 | a::l,p,h=>by
  rw [witE] at h
  rw [cnts]
  cases ha:wit x a with
  | none=>rw [ha] at h;cases h
  | some q =>
   rw [ha,obs] at h
   cases hl:witE x l with
   | none=>rw [hl] at h;cases h
   | some s =>
    rw [hl,obs] at h
    injection h with h
    subst h
    have h1:=ywp x a q ha
    have h2:=xgu x l s hl
    rw [List.length_append];omega
theorem xgt (x:Zn):∀ (l:List Zc) (i:Nat) (p:List Int),witO x i l=some p→p.length≤1+cnts l
 | [],i,p,h=>by rw [witO] at h;cases h
 | a::l,i,p,h=>by
  rw [witO] at h
  rw [cnts]
  cases ha:wit x a with
  | none =>
   rw [ha] at h
   have:=xgt x l (i+1) p h;omega
  | some q =>
   rw [ha] at h
   injection h with h
   subst h
   have h1:=ywp x a q ha
   rw [List.length_cons];omega
end
theorem concatI (a b:List Int) (h:a.length+b.length≤1000000):ydi [a,b]=some (a++b):=by
 unfold ydi ygv
 refine (yks (l:=[a,b]) (by simp) (fun i (s:Nat)=>((s:Int),i)) (fun _ x s=>(.inl (s+x.length):Nat⊕Empty)) (fun (s:Nat)=>(s:Int)) noE (fun k s=>s≤1000000∧s=([a,b].take k).flatten.length) 0 ⟨by omega,rfl⟩ (fun k hk s hs=>⟨?_,fun s' h'=>?_⟩) (fun s _=>by simp only [yhb,cof])).trans ?_
 ·have hb:s+([a,b][k]).length≤1000000:=by
   obtain ⟨_,e⟩:=hs
   match k,hk with
   | 0,_=>simp at e;subst e;simp;omega
   | 1,_=>simp at e;subst e;simp;omega
  simp only [dlt hk,cot,yax hk,obs,ycw hk (show [a,b].length≤4611686018427387904 by simp),outc]
  rw [ygo (by omega) (by omega),ydl (by omega)]
  simp only [cof,Int.natCast_add]
 ·injection h' with h'
  obtain ⟨h1,h2⟩:=hs
  subst h'
  match k,hk with
  | 0,_=>simp at h2 ⊢;subst h2;simp;omega
  | 1,_=>simp at h2 ⊢;subst h2;omega
 show Option.bind (Option.bind (mk0 8 ((0+a.length+b.length:Nat):Int)) _) _=_
 rw [xkz (by omega) (by omega),obs,obs]
 refine (ycp (l:=[a,b]) (by simp) (fun i (s:List Int)=>(s,i)) (fun s x=>s++x) (fun s=>s) (fun k s=>s=([a,b].take k).flatten) [] rfl (fun k hk s hs=>⟨?_,?_⟩) (fun s _=>by simp only [yhb,cof])).1.trans ?_
 ·have hb:s.length+([a,b][k]).length≤1000000:=by
   match k,hk with
   | 0,_=>simp at hs;subst hs;simp;omega
   | 1,_=>simp at hs;subst hs;simp;omega
  simp only [dlt hk,cot,yax hk,obs,ycw hk (show [a,b].length≤4611686018427387904 by simp)]
  rw [yds (by omega) (by omega)];rfl
 ·match k,hk with
  | 0,_=>simp at hs;subst hs;simp
  | 1,_=>simp at hs;subst hs;simp
 simp
theorem xmq (x:Zn) (hx:VCase x) (n:Nat):∀ r:Zc,ruleB r=true→cnt r≤1000→dep r≤n→Irule_test_witness_F n (tt r) x=some (opt2 [] (wit x r)):=by
 induction n with
 | zero=>intro r _ _ hd;rw [yop] at hd;omega
 | succ n ih =>
  intro r hr hc hd
  obtain ⟨hl,ha,_⟩:=ynl hr
  have hargs:∀ k (hk:k<r.Args.length),Irule_test_witness_F n (tt r.Args[k]) x=some (opt2 [] (wit x r.Args[k])):=fun k hk=>ih _ (ha _ (List.getElem_mem hk)) (by have:=ytg r;have:=ywo (List.getElem_mem hk);omega) (by have:=ylt (List.getElem_mem hk);omega)
  have hcl:∀ k (hk:k<r.Args.length) p,wit x r.Args[k]=some p→p.length≤1000:=fun k hk p h=>by have h1:=ywp x _ p h;have:=ytg r;have:=ywo (List.getElem_mem hk);omega
  show Irule_test_witness_B (Irule_test_witness_F n) (tt r) x=_
  rw [tt_eq,xmp]
  have hml:(r.Args.map tt).length=r.Args.length:=List.length_map _
  have hmi:∀ k (hk:k<(r.Args.map tt).length),(r.Args.map tt)[k]=tt (r.Args[k]'(by omega)):=fun k hk=>by rw [List.getElem_map]
  cases h5:(r.Kind == 5)
  ·cases h6:(r.Kind == 6)
   ·show yfb ⟨r⟩ x=_
    unfold yfb
    rw [prog_holds hx hr,obs]
    simp only [cof]
    cases leafH r x <;> rfl
   show yfa (Irule_test_witness_F n) (r.Args.map tt) x=_
   unfold yfa
   refine (ybz (l:=r.Args.map tt) (by omega) (fun k t=>match Irule_test_witness_F n t x with | some (p,true)=>some (.inr ((k:Int)::p,true)) | _=>none) (.inl ()) (fun k hk=>?_) (by simp only [yhb,cof])).trans ?_
   ·simp only [dlt hk,cot,yax hk,obs,ycw hk (show (r.Args.map tt).length≤4611686018427387904 by omega),hmi k hk]
    rw [hargs k (by omega)]
    have:=hcl k (by omega)
    cases hw:wit x (r.Args[k]'(by omega)) with
    | none=>rfl
    | some p =>
     have:=this p hw
     show Option.bind (ydi [[(k:Int)],p]) _=_
     rw [concatI _ _ (by simp;omega)];rfl
   have key:∀ (m:List Zc) (i:Nat),(∀ j (hj:j<m.length),Irule_test_witness_F n (tt m[j]) x=some (opt2 [] (wit x m[j])))→findS (fun k t=>match Irule_test_witness_F n t x with | some (p,true)=>some (Sum.inr ((k:Int)::p,true):Unit⊕(List Int×Bool)) | _=>none) (m.map tt) i=(witO x i m).map fun p=>Sum.inr (p,true):=by
    intro m
    induction m with
    | nil=>intro i _;rw [witO];rfl
    | cons a m ih =>
     intro i h
     have h0:=h 0 (by simp)
     have h1:=ih (i+1) fun j hj=>h (j+1) (by simpa using hj)
     rw [List.map_cons,findS,witO,h1]
     change Irule_test_witness_F n (tt a) x=some (opt2 [] (wit x a)) at h0
     rw [h0]
     cases wit x a <;> rfl
   rw [key _ 0 hargs]
   simp only [cof,cot]
   cases witO x 0 r.Args <;> rfl
  show yeq (Irule_test_witness_F n) (r.Args.map tt) x=_
  unfold yeq
  simp only [cot]
  refine (yks (l:=r.Args.map tt) (by omega) (fun i (s:List Int)=>(s,i)) (fun _ t s=>match Irule_test_witness_F n t x with | some (p,true)=>(.inl (s++p):List Int⊕Unit) | _=>.inr ()) (fun s=>.inl s) (fun _=>.inr ([],false)) (fun k s=>s.length≤k*1000) [] (by simp) (fun k hk s hs=>⟨?_,fun s' h'=>?_⟩) (fun s _=>by simp only [yhb,cof])).trans ?_
  ·simp only [dlt hk,cot,yax hk,obs,ycw hk (show (r.Args.map tt).length≤4611686018427387904 by omega),hmi k hk]
   rw [hargs k (by omega)]
   have:=hcl k (by omega)
   cases hw:wit x (r.Args[k]'(by omega)) with
   | none=>rfl
   | some p =>
    have:=this p hw
    show Option.bind (app 8 s p) _=_
    rw [yds (by omega) (by omega)];rfl
  ·have h0:=hargs k (by omega)
   have:=hcl k (by omega)
   rw [hmi k hk,h0] at h'
   cases hw:wit x (r.Args[k]'(by omega)) with
   | none=>rw [hw] at h';cases h'
   | some p =>
    have:=this p hw
    rw [hw] at h'
    injection h' with h'
    subst h'
    rw [List.length_append];omega
  have key:∀ (m:List Zc) (i:Nat) (s:List Int),(∀ j (hj:j<m.length),Irule_test_witness_F n (tt m[j]) x=some (opt2 [] (wit x m[j])))→run (fun _ t s=>match Irule_test_witness_F n t x with | some (p,true)=>(.inl (s++p):List Int⊕Unit) | _=>.inr ()) (m.map tt) i s=match witE x m with | some p=>.inl (s++p) | none=>.inr ():=by
   intro m
   induction m with
   | nil=>intro i s _;rw [witE];simp [run]
   | cons a m ih =>
    intro i s h
    have h0:=h 0 (by simp)
    have h1:=fun s=>ih (i+1) s fun j hj=>h (j+1) (by simpa using hj)
    rw [List.map_cons,yjp,witE]
    change Irule_test_witness_F n (tt a) x=some (opt2 [] (wit x a)) at h0
    rw [h0]
    cases wit x a with
    | none=>rfl
    | some p =>
     show run _ (m.map tt) (i+1) (s++p)=_
     rw [h1,obs]
     cases witE x m with
     | none=>rfl
     | some q=>show Sum.inl (s++p++q)=Sum.inl (s++(p++q));rw [List.append_assoc]
  rw [key _ 0 [] hargs]
  cases witE x r.Args <;> rfl
theorem xcu {r:Zc} {x:Zn} (hx:VCase x) (ok:ROk r) (hr:ruleB r=true) (hc:cnt r≤32):ykd r x=some (opt2 [] (wit x r)):=by
 have hd:=ywa r
 have hf:FUEL=1267650600228229401496703205376:=rfl
 unfold ykd yja
 rw [yse r ok (by omega),(ynk r).2 ⟨hc,hr⟩,obs,show ((0:Int) == 0)=true from rfl,yee,yxh hx,obs,obs]
 show Option.bind (yiy FUEL r) _=_
 rw [testOf_F FUEL r hr (by omega),obs]
 show Option.bind (Irule_test_witness_F FUEL (tt r) x) _=_
 rw [xmq x hx FUEL r hr (by omega) (by omega)];rfl
mutual
theorem yub {x y:Zn} (h:∀ r,ruleB r=true→leafH r x=true→leafH r y=true):∀ r:Zc,ruleB r=true→(wit x r).isSome=true→(wit y r).isSome=true
 | ⟨k,d,e,t,m,n,l⟩,hr,hw=>by
  have hl:=hr
  rw [ruleB] at hl
  rw [wit] at hw ⊢
  cases h5:(k == 5)
  ·rw [h5] at hw hl
   simp only [cof] at hw ⊢
   cases h6:(k == 6)
   ·rw [h6] at hw
    simp only [cof] at hw ⊢
    cases hh:leafH ⟨k,d,e,t,m,n,l⟩ x
    ·rw [hh] at hw;cases hw
    rw [h _ hr hh];rfl
   rw [h6] at hw hl
   simp only [Bool.or_true,cot,Bool.and_eq_true] at hl
   exact xcv h l 0 0 k hl.2.2 hw
  rw [h5] at hw hl
  simp only [Bool.true_or,cot,Bool.and_eq_true] at hl
  exact xcw h l k hl.2.2 hw
theorem xcw {x y:Zn} (h:∀ r,ruleB r=true→leafH r x=true→leafH r y=true):∀ (l:List Zc) (k:Int),rulesB k l=true→(witE x l).isSome=true→(witE y l).isSome=true
 | [],k,_,_=>by rw [witE];rfl
 | a::l,k,hr,hw=>by
  rw [rulesB] at hr
  simp only [Bool.and_eq_true] at hr
  rw [witE] at hw ⊢
  have h1:=yub h a hr.1.2
  have h2:=xcw h l k hr.2
  cases ha:wit x a with
  | none=>rw [ha] at hw;cases hw
  | some p =>
   cases hl:witE x l with
   | none=>rw [ha,hl] at hw;cases hw
   | some q =>
    rw [ha] at h1;rw [hl] at h2
    obtain ⟨p',e1⟩:=Option.isSome_iff_exists.1 (h1 rfl)
    obtain ⟨q',e2⟩:=Option.isSome_iff_exists.1 (h2 rfl)
    rw [e1,e2];rfl
theorem xcv {x y:Zn} (h:∀ r,ruleB r=true→leafH r x=true→leafH r y=true):∀ (l:List Zc) (i j:Nat) (k:Int),rulesB k l=true→(witO x i l).isSome=true→(witO y j l).isSome=true
 | [],i,j,k,_,hw=>by rw [witO] at hw;cases hw
 | a::l,i,j,k,hr,hw=>by
  rw [rulesB] at hr
  simp only [Bool.and_eq_true] at hr
  rw [witO] at hw ⊢
  have h1:=yub h a hr.1.2
  cases ha:wit x a with
  | none =>
   rw [ha] at hw
   cases wit y a with
   | none=>exact xcv h l (i+1) (j+1) k hr.2 hw
   | some p=>rfl
  | some p =>
   rw [ha] at h1
   obtain ⟨p',e1⟩:=Option.isSome_iff_exists.1 (h1 rfl)
   rw [e1];rfl
end
structure Wt (f:Zk→Int):Prop where
 same:∀ c v a b,f ⟨c,v,a⟩=f ⟨c,v,b⟩
 pos:∀ i:Zk,0≤i.Value→0≤f i
theorem wtV:Wt fV:=⟨fun _ _ _ _=>rfl,fun _ h=>h⟩
theorem wtN:Wt fN:=⟨fun _ _ _ _=>rfl,fun _ _=>by unfold fN;omega⟩
theorem wtW (r:Zc) (code:ByteArray):Wt (fW r code):=⟨fun _ _ _ _=>rfl,fun i h=>by unfold fW;cases violB r code i.Code;exact Int.le_refl _;exact h⟩
def tw (f:Zk→Int) (ps:List Int) (S:CSet) (q:Zd) (v:Int):Int:=cond (takeS ps S q v).2.isSome 0 (f ⟨q.Code,v,false⟩)
theorem ykm {f:Zk→Int} (hf:Wt f) (ps:List Int) (S:CSet) (q:Zd) (v:Int) (l:List Zk):wS f ((takeS ps S q v).1::l)=tw f ps S q v+wS f l:=by
 obtain ⟨h1,h2,h3⟩:=xgs ps S q v
 rw [wS,h3]
 unfold tw
 generalize (takeS ps S q v).1=i at h1 h2 h3
 obtain ⟨c,w,o⟩:=i
 dsimp only at h1 h2
 subst h1 h2
 rw [hf.same _ _ o false]
theorem xgv {f:Zk→Int} (hf:Wt f) (ps:List Int) (S:CSet) (q:Zd) {v:Int} (hv:0≤v):0≤tw f ps S q v:=by
 unfold tw
 cases (takeS ps S q v).2.isSome
 ·exact hf.pos _ hv
 exact Int.le_refl _
theorem xcx {ps:List Int} {S T:CSet} (h:∀ c,S c=true→T c=true) (q:Zd) (v:Int):(takeS ps S q v).2.isSome=true→(takeS ps T q v).2.isSome=true:=by
 intro hs
 unfold takeS at hs ⊢
 cases hS:ps.find? (fun id=>S ⟨q.ID,id⟩) with
 | none=>rw [hS] at hs;cases hs
 | some id =>
  cases hT:ps.find? (fun id=>T ⟨q.ID,id⟩) with
  | some j=>rfl
  | none =>
   rw [List.find?_eq_none] at hT
   exact absurd (h _ (by have:=List.find?_some hS;exact this)) (hT id (List.mem_of_find?_eq_some hS))
theorem xmr {f:Zk→Int} (hf:Wt f) {ps:List Int} {S T:CSet} (h:∀ c,S c=true→T c=true) (q:Zd) {v:Int} (hv:0≤v):tw f ps T q v≤tw f ps S q v:=by
 have hm:=xcx (ps:=ps) h q v
 have hp:=xgv hf ps S q hv
 unfold tw at hp ⊢
 cases ht:(takeS ps T q v).2.isSome
 ·cases hs:(takeS ps S q v).2.isSome
  ·exact Int.le_refl _
  rw [hm hs] at ht;cases ht
 exact hp
theorem yyk {f:Zk→Int} (hf:Wt f) {plan:List Zd} (hv:VPs plan) {ps:List Int} {S T:CSet} (h:∀ c,S c=true→T c=true) {w price:Int} (hw:0≤w) (hp:1≤price):∀ l:List Zf,(∀ y∈l,0≤y.Value) →
    wS f ((l.map fun y=>takeS ps T (getP plan y.Product) (portionS w y.Value price)).map (·.1))≤wS f ((l.map fun y=>takeS ps S (getP plan y.Product) (portionS w y.Value price)).map (·.1))∧0≤wS f ((l.map fun y=>takeS ps S (getP plan y.Product) (portionS w y.Value price)).map (·.1))
  | [],_=>⟨Int.le_refl _,Int.le_refl _⟩
  | y::l,hl=>by
    obtain ⟨h1,h2⟩:=yyk hf hv (ps:=ps) h hw hp l fun z hz=>hl z (by simp [hz])
    have hr:=(ymq hw (hl y (by simp)) hp).1
    simp only [List.map_cons]
    rw [ykm hf,ykm hf]
    have:=xmr hf h (ps:=ps) (getP plan y.Product) hr
    have:=xgv hf ps S (getP plan y.Product) hr
    omega
theorem ywq {f:Zk→Int} (hf:Wt f) {plan:List Zd} (hv:VPs plan) (a:Zb) {ps:List Int} {S T:CSet} (h:∀ c,S c=true→T c=true) (x:Zf) (hx:(findP plan x.Product).isSome=true) (hx0:0≤x.Value) :
    wS f ((supplyS plan a ps T x).map (·.1))≤wS f ((supplyS plan a ps S x).map (·.1))∧0≤wS f ((supplyS plan a ps S x).map (·.1)):=by
  obtain ⟨hq1,hq,_⟩:=yhu hv hx
  have hparts:=yyk hf hv (ps:=ps) h hx0 hq.price.1 (getP plan x.Product).Inputs fun y hy=>(hq.inp y hy).2.1
  have hm:=xcx (ps:=ps) h (getP plan x.Product) x.Value
  have hp:=xgv hf ps S (getP plan x.Product) hx0
  have hle:=xmr hf (ps:=ps) h (getP plan x.Product) hx0
  have hnil:wS f []=0:=rfl
  unfold supplyS
  cases hT:(takeS ps T (getP plan x.Product) x.Value).2.isSome
  · have hS:(takeS ps S (getP plan x.Product) x.Value).2.isSome=false:=by
      cases hs:(takeS ps S (getP plan x.Product) x.Value).2.isSome
      · rfl
      rw [hm hs] at hT;cases hT
    rw [hS]
    cases (false || !fullB a (getP plan x.Product)||(getP plan x.Product).Inputs.isEmpty)
    · exact hparts
    simp only [cot,List.map_cons,List.map_nil]
    rw [ykm hf,ykm hf];omega
  · have e0:tw f ps T (getP plan x.Product) x.Value=0:=by unfold tw;rw [hT];rfl
    simp only [Bool.true_or,cot,List.map_cons,List.map_nil]
    rw [ykm hf,e0]
    cases ((takeS ps S (getP plan x.Product) x.Value).2.isSome || !fullB a (getP plan x.Product)||(getP plan x.Product).Inputs.isEmpty)
    · simp only [cof];omega
    simp only [cot,List.map_cons,List.map_nil]
    rw [ykm hf];omega
theorem yom {f:Zk→Int} (hf:Wt f) {plan:List Zd} (hv:VPs plan) (a:Zb) {ps:List Int} {S T:CSet} (h:∀ c,S c=true→T c=true) {p:Zd} (hp:VProd plan p) :
    wS f ((suppliesS plan a ps T p).map (·.1))≤wS f ((suppliesS plan a ps S p).map (·.1))∧0≤wS f ((suppliesS plan a ps T p).map (·.1)):=by
  unfold suppliesS
  have key:∀ l:List Zf,(∀ x∈l,(findP plan x.Product).isSome=true∧0≤x.Value)→wS f ((l.flatMap (supplyS plan a ps T)).map (·.1))≤wS f ((l.flatMap (supplyS plan a ps S)).map (·.1))∧0≤wS f ((l.flatMap (supplyS plan a ps T)).map (·.1)):=by
    intro l
    induction l with
    | nil=>intro _;exact ⟨Int.le_refl _,Int.le_refl _⟩
    | cons x l ih =>
      intro hl
      have h1:=ih fun y hy=>hl y (by simp [hy])
      have hx:=hl x (by simp)
      have h2:=ywq hf hv a (ps:=ps) h x hx.1 hx.2
      have h3:=(ywq hf hv a (ps:=ps) (S:=T) (T:=T) (fun _ k=>k) x hx.1 hx.2).2
      rw [List.flatMap_cons,List.flatMap_cons,List.map_append,List.map_append,xct,xct]
      omega
  exact key _ fun x hx=>⟨(hp.inp x hx).1,(hp.inp x hx).2.1⟩
theorem xms {plan:List Zd} (l:List Zb) (hv:VPs plan) (imp:ByteArray) (c:Za) {S T:CSet} (h:∀ c,S c=true→T c=true) (hf:(findP plan c.Product).isSome=true) (r:Zc) (hr:ruleB r=true) (hw:(wit (caseC plan l imp c S) r).isSome=true):(wit (caseC plan l imp c T) r).isSome=true:=by
 obtain ⟨hq1,hq,_⟩:=yhu hv hf
 refine yub (fun r hr hl=>?_) r hr hw
 have hV:=yom wtV hv (agrOf l c.Agreement) (ps:=partnersS l c.Agreement (getP plan c.Product).Country imp) h hq
 have hN:=yom wtN hv (agrOf l c.Agreement) (ps:=partnersS l c.Agreement (getP plan c.Product).Country imp) h hq
 have hW:=yom (wtW r (getP plan c.Product).Code) hv (agrOf l c.Agreement) (ps:=partnersS l c.Agreement (getP plan c.Product).Country imp) h hq
 unfold leafH caseC at hl ⊢
 dsimp only at hl ⊢
 cases h1:(r.Kind == 1)
 ·rw [h1] at hl
  cases h2:(r.Kind == 2)
  ·rw [h2] at hl
   cases h3:(r.Kind == 3)
   ·rw [h3] at hl;exact hl
   rw [h3] at hl
   simp only [cof,cot,decide_eq_true_eq] at hl ⊢
   omega
  rw [h2] at hl
  simp only [cof,cot,decide_eq_true_eq] at hl ⊢
  omega
 rw [h1] at hl
 simp only [cot,Bool.and_eq_true,beq_iff_eq] at hl ⊢
 exact ⟨hl.1,by omega⟩
section
variable {γ δ π:Type} [DecidableEq δ] (gc:γ→δ) (cl:π→δ) (pv:(δ→Bool)→γ→Option π)
def rounds:Nat→List γ→List π→List π
 | 0,_,ps=>ps
 | n+1,o,ps=>cond (o.filterMap (pv (memB (ps.map cl)))).isEmpty ps (rounds n (o.filter fun g=>(pv (memB (ps.map cl)) g).isNone) (ps++o.filterMap (pv (memB (ps.map cl)))))
def roundsR (G:List γ):Nat→List π→List π
 | 0,ps=>ps
 | n+1,ps=>cond (G.filterMap fun g=>cond (memB (ps.map cl) (gc g)) none (pv (memB (ps.map cl)) g)).isEmpty ps (roundsR G n (ps++G.filterMap fun g=>cond (memB (ps.map cl) (gc g)) none (pv (memB (ps.map cl)) g)))
def Closed (G:List γ) (T:δ→Bool):Prop:=∀ g∈G,(pv T g).isSome=true→T (gc g)=true
structure RInv (G o:List γ) (ps:List π):Prop where
 all:∀ g∈G,g∈o∨memB (ps.map cl) (gc g)=true
 opn:∀ g∈o,g∈G∧memB (ps.map cl) (gc g)=false
 prv:∀ p∈ps,∃ g∈G,gc g=cl p∧(pv (memB (ps.map cl)) g).isSome=true
 lst:∀ T,Closed gc pv G T→∀ p∈ps,T (cl p)=true
variable {gc cl pv} (hcl:∀ S g p,pv S g=some p→cl p=gc g)
theorem yew {l:List π} {c:δ}:memB (l.map cl) c=true↔∃ p∈l,cl p=c:=by rw [ymk,List.mem_map]
include hcl in
theorem xmt {G o:List γ} {ps:List π} (mono:∀ (S T:δ→Bool),∀ g∈G,(∀ c,S c=true→T c=true)→(pv S g).isSome=true→(pv T g).isSome=true) (inj:∀ g∈G,∀ g'∈G,gc g=gc g'→g=g') (h:RInv gc cl pv G o ps):RInv gc cl pv G (o.filter fun g=>(pv (memB (ps.map cl)) g).isNone) (ps++o.filterMap (pv (memB (ps.map cl)))):=by
 have hsub:∀ c,memB (ps.map cl) c=true→memB ((ps++o.filterMap (pv (memB (ps.map cl)))).map cl) c=true:=by
  intro c hc
  obtain ⟨p,h1,h2⟩:=yew.1 hc
  exact yew.2 ⟨p,List.mem_append.2 (.inl h1),h2⟩
 have hnew:∀ g∈o,∀ p,pv (memB (ps.map cl)) g=some p→memB ((ps++o.filterMap (pv (memB (ps.map cl)))).map cl) (gc g)=true:=fun g hg p hp =>
  yew.2 ⟨p,List.mem_append.2 (.inr (List.mem_filterMap.2 ⟨g,hg,hp⟩)),hcl _ _ _ hp⟩
 refine ⟨fun g hg=>?_,fun g hg=>?_,fun p hp=>?_,fun T hT p hp=>?_⟩
 ·rcases h.all g hg with h1 | h1
  ·cases hp:pv (memB (ps.map cl)) g with
   | none=>left;exact List.mem_filter.2 ⟨h1,by rw [hp];rfl⟩
   | some p=>right;exact hnew g h1 p hp
  right;exact hsub _ h1
 ·obtain ⟨h1,h2⟩:=List.mem_filter.1 hg
  obtain ⟨h3,h4⟩:=h.opn g h1
  refine ⟨h3,?_⟩
  cases hm:memB ((ps++o.filterMap (pv (memB (ps.map cl)))).map cl) (gc g)
  ·rfl
  obtain ⟨p,k1,k2⟩:=yew.1 hm
  rcases List.mem_append.1 k1 with k1 | k1
  ·rw [yew.2 ⟨p,k1,k2⟩] at h4;cases h4
  obtain ⟨g',hg',he⟩:=List.mem_filterMap.1 k1
  have:=inj g' (h.opn g' hg').1 g h3 ((hcl _ _ _ he).symm.trans k2)
  subst this
  rw [he] at h2;cases h2
 ·rcases List.mem_append.1 hp with h1 | h1
  ·obtain ⟨g,k1,k2,k3⟩:=h.prv p h1
   exact ⟨g,k1,k2,mono _ _ g k1 hsub k3⟩
  obtain ⟨g,hg,he⟩:=List.mem_filterMap.1 h1
  exact ⟨g,(h.opn g hg).1,(hcl _ _ _ he).symm,mono _ _ g (h.opn g hg).1 hsub (by rw [he];rfl)⟩
 rcases List.mem_append.1 hp with h1 | h1
 ·exact h.lst T hT p h1
 obtain ⟨g,hg,he⟩:=List.mem_filterMap.1 h1
 have:=mono _ T g (h.opn g hg).1 (fun c hc=>by obtain ⟨q,k1,k2⟩:=yew.1 hc;rw [← k2];exact h.lst T hT q k1) (show (pv (memB (ps.map cl)) g).isSome=true by rw [he];rfl)
 rw [hcl _ _ _ he];exact hT g (h.opn g hg).1 this
theorem ypr {o:List γ} {f:γ→Option π} (h:(o.filterMap f).isEmpty=false):(o.filter fun g=>(f g).isNone).length<o.length:=by
 induction o with
 | nil=>cases h
 | cons g o ih =>
  rw [List.filter_cons]
  cases hf:f g with
  | some p =>
   have:=List.length_filter_le (fun g=>(f g).isNone) o
   simp only [Option.isNone_some,Bool.false_eq_true,if_false,List.length_cons];omega
  | none =>
   rw [List.filterMap_cons_none hf] at h
   have:=ih h
   simp only [Option.isNone_none,if_true,List.length_cons];omega
include hcl in
theorem xin {G:List γ} (mono:∀ (S T:δ→Bool),∀ g∈G,(∀ c,S c=true→T c=true)→(pv S g).isSome=true→(pv T g).isSome=true) (inj:∀ g∈G,∀ g'∈G,gc g=gc g'→g=g'):∀ (n:Nat) (o:List γ) (ps:List π),o.length≤n→RInv gc cl pv G o ps →
    (∀ g∈G,(pv (memB ((rounds cl pv n o ps).map cl)) g).isSome=memB ((rounds cl pv n o ps).map cl) (gc g))∧(∀ p∈rounds cl pv n o ps,∃ g∈G,gc g=cl p)∧∀ T,Closed gc pv G T→∀ p∈rounds cl pv n o ps,T (cl p)=true:=by
  have fin:∀ (o:List γ) (ps:List π),RInv gc cl pv G o ps→(∀ g∈o,pv (memB (ps.map cl)) g=none)→(∀ g∈G,(pv (memB (ps.map cl)) g).isSome=memB (ps.map cl) (gc g))∧(∀ p∈ps,∃ g∈G,gc g=cl p)∧∀ T,Closed gc pv G T→∀ p∈ps,T (cl p)=true:=by
    intro o ps h hn
    refine ⟨fun g hg=>?_,fun p hp=>by obtain ⟨g,k1,k2,_⟩:=h.prv p hp;exact ⟨g,k1,k2⟩,h.lst⟩
    cases hm:memB (ps.map cl) (gc g)
    · rcases h.all g hg with h1 | h1
      · rw [hn g h1];rfl
      rw [h1] at hm;cases hm
    obtain ⟨p,k1,k2⟩:=yew.1 hm
    obtain ⟨g',k3,k4,k5⟩:=h.prv p k1
    rw [inj g hg g' k3 (k2.symm.trans k4.symm)];exact k5
  intro n
  induction n with
  | zero =>
    intro o ps ho h
    obtain rfl:o=[]:=List.length_eq_zero_iff.1 (by omega)
    exact fin [] ps h (fun g hg=>by cases hg)
  | succ n ih =>
    intro o ps ho h
    rw [rounds]
    cases he:(o.filterMap (pv (memB (ps.map cl)))).isEmpty
    · have:=ypr he
      exact ih _ _ (by omega) (xmt hcl mono inj h)
    refine fin o ps h fun g hg=>?_
    cases hp:pv (memB (ps.map cl)) g with
    | none=>rfl
    | some p =>
      have:p∈o.filterMap (pv (memB (ps.map cl))):=List.mem_filterMap.2 ⟨g,hg,hp⟩
      rw [List.isEmpty_iff.1 he] at this;cases this
theorem xio (G:List γ):RInv gc cl pv G G []:=⟨fun g hg=>.inl hg,fun g hg=>⟨hg,rfl⟩,fun p hp=>(by cases hp),fun T _ p hp=>(by cases hp)⟩
include hcl in
theorem xip {G:List γ} (inj:∀ g∈G,∀ g'∈G,gc g=gc g'→g=g'):∀ (n:Nat) (ps:List π),rounds cl pv n (G.filter fun g => !memB (ps.map cl) (gc g)) ps=roundsR gc cl pv G n ps:=by
 intro n
 induction n with
 | zero=>intro ps;rfl
 | succ n ih =>
  intro ps
  rw [rounds,roundsR]
  have e1:(G.filter fun g => !memB (ps.map cl) (gc g)).filterMap (pv (memB (ps.map cl)))=G.filterMap fun g=>cond (memB (ps.map cl) (gc g)) none (pv (memB (ps.map cl)) g):=by
   generalize pv (memB (ps.map cl))=f
   generalize memB (ps.map cl)=m
   clear ih inj
   induction G with
   | nil=>rfl
   | cons g G ihG =>
    rw [List.filter_cons]
    cases hm:m (gc g)
    ·simp only [Bool.not_false,if_true,List.filterMap_cons,ihG,hm,cof]
    simp only [Bool.not_true,Bool.false_eq_true,if_false,List.filterMap_cons,ihG,hm,cot]
  rw [e1]
  have e2:((G.filter fun g => !memB (ps.map cl) (gc g)).filter fun g=>(pv (memB (ps.map cl)) g).isNone)=G.filter fun g => !memB ((ps++G.filterMap fun g=>cond (memB (ps.map cl) (gc g)) none (pv (memB (ps.map cl)) g)).map cl) (gc g):=by
   rw [List.filter_filter]
   refine List.filter_congr fun g hg=>?_
   cases hm:memB (ps.map cl) (gc g)
   ·cases hp:pv (memB (ps.map cl)) g with
    | none =>
     cases hq:memB ((ps++G.filterMap fun g=>cond (memB (ps.map cl) (gc g)) none (pv (memB (ps.map cl)) g)).map cl) (gc g)
     ·rfl
     ·obtain ⟨p,k1,k2⟩:=yew.1 hq
      rcases List.mem_append.1 k1 with k1 | k1
      ·rw [yew.2 ⟨p,k1,k2⟩] at hm;cases hm
      ·obtain ⟨g',hg',he⟩:=List.mem_filterMap.1 k1
       cases hm':memB (ps.map cl) (gc g')
       ·rw [hm'] at he
        have:=inj g' hg' g hg ((hcl _ _ _ he).symm.trans k2)
        subst this
        rw [cof,hp] at he;cases he
       ·rw [hm'] at he;cases he
    | some p =>
     have:memB ((ps++G.filterMap fun g=>cond (memB (ps.map cl) (gc g)) none (pv (memB (ps.map cl)) g)).map cl) (gc g)=true:=yew.2 ⟨p,List.mem_append.2 (.inr (List.mem_filterMap.2 ⟨g,hg,by rw [hm];exact hp⟩)),hcl _ _ _ hp⟩
     rw [this];rfl
   have:memB ((ps++G.filterMap fun g=>cond (memB (ps.map cl) (gc g)) none (pv (memB (ps.map cl)) g)).map cl) (gc g)=true:=by
    obtain ⟨p,k1,k2⟩:=yew.1 hm
    exact yew.2 ⟨p,List.mem_append.2 (.inl k1),k2⟩
   rw [this]
   cases (pv (memB (ps.map cl)) g).isNone <;> rfl
  rw [e2,ih]
end
abbrev Goal:=Za×Zc
abbrev Prf:=Za×List Int×List Za
def goalsS (plan:List Zd) (l:List Zb) (imp:ByteArray):List Goal:=plan.flatMap fun p=>l.filterMap fun a=>cond (admB plan l imp ⟨p.ID,a.ID⟩) ((ruleOfS a p.Code).map fun r=>((⟨p.ID,a.ID⟩:Za),r)) none
def prfS (plan:List Zd) (l:List Zb) (imp:ByteArray) (S:CSet) (g:Goal):Option Prf:=(wit (caseC plan l imp g.1 S) g.2).map fun path=>(g.1,path,premC plan l imp g.1 S)
def solveS (plan:List Zd) (l:List Zb) (imp:ByteArray):List Prf:=rounds (fun p:Prf=>p.1) (prfS plan l imp) (goalsS plan l imp).length (goalsS plan l imp) []
def provedS (plan:List Zd) (l:List Zb) (imp:ByteArray):CSet:=memB ((solveS plan l imp).map fun p:Prf=>p.1)
theorem ynm {plan:List Zd} {l:List Zb} {imp:ByteArray} {g:Goal}:g∈goalsS plan l imp↔∃ p∈plan,∃ a∈l,admB plan l imp ⟨p.ID,a.ID⟩=true∧ruleOfS a p.Code=some g.2∧g.1=⟨p.ID,a.ID⟩:=by
 unfold goalsS
 rw [List.mem_flatMap]
 constructor
 ·rintro ⟨p,hp,hg⟩
  obtain ⟨a,ha,he⟩:=List.mem_filterMap.1 hg
  cases hc:admB plan l imp ⟨p.ID,a.ID⟩
  ·rw [hc] at he;cases he
  rw [hc,cot] at he
  cases hr:ruleOfS a p.Code with
  | none=>rw [hr] at he;cases he
  | some r =>
   rw [hr,Option.map_some] at he
   injection he with he
   subst he
   exact ⟨p,hp,a,ha,hc,hr,rfl⟩
 rintro ⟨p,hp,a,ha,hc,hr,hg⟩
 obtain ⟨c,r⟩:=g
 dsimp only at hr hg
 subst hg
 exact ⟨p,hp,List.mem_filterMap.2 ⟨a,ha,by rw [hc,hr];rfl⟩⟩
theorem xew {α:Type} {f:α→Int} {l:List α} (h:l.Pairwise fun a b=>f a<f b) {a b:α} (ha:a∈l) (hb:b∈l) (e:f a=f b):a=b:=by
 induction l with
 | nil=>cases ha
 | cons x l ih =>
  obtain ⟨h1,h2⟩:=List.pairwise_cons.1 h
  rcases List.mem_cons.1 ha with e1 | ha'
  ·rcases List.mem_cons.1 hb with e2 | hb'
   ·rw [e1,e2]
   have:=h1 b hb';rw [← e1] at this;omega
  rcases List.mem_cons.1 hb with e2 | hb'
  ·have:=h1 a ha';rw [← e2] at this;omega
  exact ih h2 ha' hb'
theorem ywr {plan:List Zd} {l:List Zb} {imp:ByteArray} (hv:VPs plan) (hl:AscA l):∀ g∈goalsS plan l imp,∀ g'∈goalsS plan l imp,g.1=g'.1→g=g':=by
 intro g hg g' hg' e
 obtain ⟨p,hp,a,ha,_,hr,h1⟩:=ynm.1 hg
 obtain ⟨p',hp',a',ha',_,hr',h1'⟩:=ynm.1 hg'
 rw [h1,h1'] at e
 injection e with e1 e2
 have:=xew hv.asc hp hp' e1
 have:=xew hl ha ha' e2
 subst_vars
 rw [hr] at hr'
 injection hr' with hr'
 exact Prod.ext (h1.trans h1'.symm) hr'
theorem yyl {a:Zb} (ha:VA a) {code:ByteArray} {r:Zc} (h:ruleOfS a code=some r):ROk r∧ruleB r=true∧cnt r≤32:=by
 rcases ypo a code with ⟨_,h2⟩ | ⟨j,hj,_,h2⟩
 ·rw [h2] at h;cases h
 rw [h2] at h
 injection h with h
 have h1:=(ynk _).1 (ha.rules _ (List.getElem_mem hj))
 have h3:=ha.ok.rules _ (List.getElem_mem hj)
 rw [← h]
 exact ⟨h3.rule,h1.2,h1.1⟩
theorem ysk {plan:List Zd} {l:List Zb} {imp:ByteArray} (hl:VAs l) {g:Goal} (hg:g∈goalsS plan l imp):ROk g.2∧ruleB g.2=true∧cnt g.2≤32:=by
 obtain ⟨p,hp,a,ha,_,hr,_⟩:=ynm.1 hg
 exact yyl (hl.all a ha) hr
theorem yqk {plan:List Zd} {l:List Zb} {imp:ByteArray} {g:Goal} (hg:g∈goalsS plan l imp):admB plan l imp g.1=true∧(findP plan g.1.Product).isSome=true:=by
 obtain ⟨p,hp,a,ha,hc,_,h1⟩:=ynm.1 hg
 rw [h1];exact ⟨hc,xcs hc⟩
theorem xai (plan:List Zd) (l:List Zb) (imp:ByteArray) (S:CSet) (g:Goal):(prfS plan l imp S g).isSome=(wit (caseC plan l imp g.1 S) g.2).isSome:=by unfold prfS;cases wit (caseC plan l imp g.1 S) g.2 <;> rfl
theorem xmu (plan:List Zd) (l:List Zb) (imp:ByteArray):∀ (S:CSet) (g:Goal) (p:Prf),prfS plan l imp S g=some p→p.1=g.1:=by
 intro S g p h
 unfold prfS at h
 cases hw:wit (caseC plan l imp g.1 S) g.2 with
 | none=>rw [hw] at h;cases h
 | some q=>rw [hw,Option.map_some] at h;injection h with h;rw [← h]
theorem prf_mono {plan:List Zd} {l:List Zb} (hv:VPs plan) (hl:VAs l) (imp:ByteArray):∀ (S T:CSet),∀ g∈goalsS plan l imp,(∀ c,S c=true→T c=true)→(prfS plan l imp S g).isSome=true→(prfS plan l imp T g).isSome=true:=by
 intro S T g hg h hs
 rw [xai] at hs ⊢
 exact xms l hv imp g.1 h (yqk hg).2 g.2 (ysk hl hg).2.1 hs
theorem yym {plan:List Zd} {l:List Zb} (hv:VPs plan) (hl:VAs l) (ha:AscA l) (imp:ByteArray) :
    (∀ g∈goalsS plan l imp,(wit (caseC plan l imp g.1 (provedS plan l imp)) g.2).isSome=provedS plan l imp g.1)∧(∀ c,provedS plan l imp c=true→∃ g∈goalsS plan l imp,g.1=c) ∧
      ∀ T:CSet,(∀ g∈goalsS plan l imp,(wit (caseC plan l imp g.1 T) g.2).isSome=true→T g.1=true)→∀ c,provedS plan l imp c=true→T c=true:=by
  obtain ⟨h1,h2,h3⟩:=xin (gc:=fun g:Goal=>g.1) (cl:=fun p:Prf=>p.1) (xmu plan l imp) (prf_mono hv hl imp) (ywr hv ha) _ _ _ (Nat.le_refl _) (xio (gc:=fun g:Goal=>g.1) (cl:=fun p:Prf=>p.1) (pv:=prfS plan l imp) (goalsS plan l imp))
  refine ⟨fun g hg=>?_,fun c hc=>?_,fun T hT c hc=>?_⟩
  · rw [← xai];exact h1 g hg
  · obtain ⟨p,k1,k2⟩:=yew.1 hc
    obtain ⟨g,k3,k4⟩:=h2 p k1
    exact ⟨g,k3,k4.trans k2⟩
  obtain ⟨p,k1,k2⟩:=yew.1 hc
  rw [← k2]
  exact h3 T (fun g hg hs=>hT g hg (by rw [← xai];exact hs)) p k1
theorem solve_le {plan plan':List Zd} {l l':List Zb} {imp:ByteArray} (hv:VPs plan) (hl:VAs l) (ha:AscA l) (hv':VPs plan') (hl':VAs l') (ha':AscA l')
    (h:∀ g∈goalsS plan l imp,g∈goalsS plan' l' imp∧∀ S,(wit (caseC plan l imp g.1 S) g.2).isSome=true→(wit (caseC plan' l' imp g.1 S) g.2).isSome=true):∀ c,provedS plan l imp c=true→provedS plan' l' imp c=true:=by
  refine (yym hv hl ha imp).2.2 _ fun g hg hs=>?_
  obtain ⟨h1,h2⟩:=h g hg
  rw [← (yym hv' hl' ha' imp).1 g h1]
  exact h2 _ hs
inductive Chp:List Zf→List Zf→Prop
 | nil:Chp [] []
 | cons {x y:Zf} {l m:List Zf} (h1:y.Product=x.Product) (h2:0≤y.Value) (h3:y.Value≤x.Value) (h:Chp l m):Chp (x::l) (y::m)
theorem Chp.empty {l m:List Zf} (h:Chp l m):m.isEmpty=l.isEmpty:=by cases h <;> rfl
theorem Chp.refl:∀ {l:List Zf},(∀ x∈l,0≤x.Value)→Chp l l
 | [],_=>.nil
 | x::l,h=>.cons rfl (h x (by simp)) (Int.le_refl _) (Chp.refl fun y hy=>h y (by simp [hy]))
structure PLe (p q:Zd):Prop where
 id:q.ID=p.ID
 code:q.Code=p.Code
 ctr:q.Country=p.Country
 price:q.Price=p.Price
 obt:q.Obtained=p.Obtained
 proc:q.Processes=p.Processes
 inp:Chp p.Inputs q.Inputs
structure WtM (f:Zk→Int):Prop where
 wt:Wt f
 le:∀ c v w a,0≤v→v≤w→f ⟨c,v,a⟩≤f ⟨c,w,a⟩
theorem wtmV:WtM fV:=⟨wtV,fun _ _ _ _ _ h=>h⟩
theorem wtmN:WtM fN:=⟨wtN,fun _ _ _ _ _ _=>Int.le_refl _⟩
theorem wtmW (r:Zc) (code:ByteArray):WtM (fW r code):=⟨wtW r code,fun c v w a h h2=>by unfold fW;dsimp only;cases violB r code c;exact Int.le_refl _;exact h2⟩
theorem rnd_le {n m c:Int} (h:n≤m) (hc:1≤c):rnd n c 1≤rnd m c 1:=by
 have e:∀ n,rnd n c 1=(n+(c - 1)) / c:=by
  intro n
  unfold rnd
  have h1:=Int.emod_nonneg n (show c≠0 by omega)
  have h2:=Int.emod_lt_of_pos n (show 0<c by omega)
  have h3:=Int.mul_ediv_add_emod n c
  by_cases h0:n % c=0
  ·have:(n+(c - 1)) / c=n / c:=by
    have e2:n+(c - 1)=(c - 1)+c*(n / c):=by omega
    rw [e2,Int.add_mul_ediv_left _ _ (by omega),Int.ediv_eq_zero_of_lt (by omega) (by omega)];omega
   rw [this];simp [h0]
  ·have:(n+(c - 1)) / c=n / c+1:=by
    have e2:n+(c - 1)=(n % c - 1)+c*(n / c+1):=by rw [Int.mul_add];omega
    rw [e2,Int.add_mul_ediv_left _ _ (by omega),Int.ediv_eq_zero_of_lt (by omega) (by omega)];omega
   rw [this];simp [h0];omega
 rw [e,e]
 exact Int.ediv_le_ediv (by omega) (by omega)
theorem xex {v w p q c:Int} (h1:0≤v) (h2:v≤w) (h3:0≤p) (h4:p≤q) (hc:1≤c):portionS v p c≤portionS w q c:=by
 have:=rnd_le (c:=c) (Int.mul_le_mul h2 h4 h3 (by omega)) hc
 unfold portionS
 split <;> split <;> omega
section
variable {ps ps':List Int} {S T:CSet} (hps:∀ x∈ps,x∈ps') (hST:∀ c,S c=true→T c=true)
include hps hST in
theorem yyn {q q':Zd} (hid:q'.ID=q.ID) (v v':Int):(takeS ps S q v).2.isSome=true→(takeS ps' T q' v').2.isSome=true:=by
 intro hs
 unfold takeS at hs ⊢
 rw [hid]
 cases hS:ps.find? (fun id=>S ⟨q.ID,id⟩) with
 | none=>rw [hS] at hs;cases hs
 | some id =>
  cases hT:ps'.find? (fun id=>T ⟨q.ID,id⟩) with
  | some j=>rfl
  | none =>
   rw [List.find?_eq_none] at hT
   exact absurd (hST _ (by have:=List.find?_some hS;exact this)) (hT id (hps _ (List.mem_of_find?_eq_some hS)))
include hps hST in
theorem xgw {f:Zk→Int} (hf:WtM f) {q q':Zd} (hid:q'.ID=q.ID) (hco:q'.Code=q.Code) {v v':Int} (hv:0≤v') (hvv:v'≤v):tw f ps' T q' v'≤tw f ps S q v∧0≤tw f ps S q v:=by
 have hm:=yyn hps hST hid v v'
 have hp:=xgv hf.wt ps S q (show 0≤v by omega)
 refine ⟨?_,hp⟩
 unfold tw at hp ⊢
 cases ht:(takeS ps' T q' v').2.isSome
 ·cases hs:(takeS ps S q v).2.isSome
  ·simp only [cof];rw [hco];exact hf.le _ _ _ _ hv hvv
  rw [hm hs] at ht;cases ht
 exact hp
variable {plan plan':List Zd} (hpl:∀ id,(findP plan id).isSome=true→PLe (getP plan id) (getP plan' id))
include hps hST hpl in
theorem xey {f:Zk→Int} (hf:WtM f) {w w' price:Int} (hw:0≤w') (hww:w'≤w) (hp:1≤price) {l m:List Zf} (h:Chp l m) (hl:∀ y∈l,(findP plan y.Product).isSome=true) :
    wS f ((m.map fun y=>takeS ps' T (getP plan' y.Product) (portionS w' y.Value price)).map (·.1))≤wS f ((l.map fun y=>takeS ps S (getP plan y.Product) (portionS w y.Value price)).map (·.1))∧0≤wS f ((l.map fun y=>takeS ps S (getP plan y.Product) (portionS w y.Value price)).map (·.1)):=by
  induction h with
  | nil=>exact ⟨Int.le_refl _,Int.le_refl _⟩
  | @cons x y l m h1 h2 h3 h ih =>
    obtain ⟨i1,i2⟩:=ih fun z hz=>hl z (by simp [hz])
    have hq:=hpl x.Product (hl x (by simp))
    have hr:=(ymq hw h2 hp).1
    have hle:=xex hw hww h2 h3 hp
    simp only [List.map_cons]
    rw [ykm hf.wt,ykm hf.wt,h1]
    have:=xgw hps hST hf hq.id hq.code hr hle
    omega
include hps hST hpl in
theorem xcy {f:Zk→Int} (hf:WtM f) (hv:VPs plan) (a:Zb) {x y:Zf} (h1:y.Product=x.Product) (h2:0≤y.Value) (h3:y.Value≤x.Value) (hx:(findP plan x.Product).isSome=true) :
    wS f ((supplyS plan' a ps' T y).map (·.1))≤wS f ((supplyS plan a ps S x).map (·.1))∧0≤wS f ((supplyS plan a ps S x).map (·.1)):=by
  obtain ⟨hq1,hq,_⟩:=yhu hv hx
  have hle:=hpl x.Product hx
  have hparts:=xey hps hST hpl hf h2 h3 hq.price.1 hle.inp fun y hy=>(hq.inp y hy).1
  have hm:=yyn hps hST hle.id x.Value y.Value
  have hp:=(xgw hps hST hf hle.id hle.code h2 h3)
  have hfull:fullB a (getP plan' x.Product)=fullB a (getP plan x.Product):=by unfold fullB;rw [hle.ctr]
  have hnil:wS f []=0:=rfl
  unfold supplyS
  rw [h1,hfull,hle.inp.empty,hle.price]
  cases hT:(takeS ps' T (getP plan' x.Product) y.Value).2.isSome
  · have hS:(takeS ps S (getP plan x.Product) x.Value).2.isSome=false:=by
      cases hs:(takeS ps S (getP plan x.Product) x.Value).2.isSome
      · rfl
      rw [hm hs] at hT;cases hT
    rw [hS]
    cases (false || !fullB a (getP plan x.Product)||(getP plan x.Product).Inputs.isEmpty)
    · exact hparts
    simp only [cot,List.map_cons,List.map_nil]
    rw [ykm hf.wt,ykm hf.wt];omega
  · have e0:tw f ps' T (getP plan' x.Product) y.Value=0:=by unfold tw;rw [hT];rfl
    simp only [Bool.true_or,cot,List.map_cons,List.map_nil]
    rw [ykm hf.wt,e0]
    cases ((takeS ps S (getP plan x.Product) x.Value).2.isSome || !fullB a (getP plan x.Product)||(getP plan x.Product).Inputs.isEmpty)
    · simp only [cof];omega
    simp only [cot,List.map_cons,List.map_nil]
    rw [ykm hf.wt];omega
include hps hST hpl in
theorem yxi {f:Zk→Int} (hf:WtM f) (hv:VPs plan) (a:Zb) {p p':Zd} (hp:VProd plan p) (hle:PLe p p') :
    wS f ((suppliesS plan' a ps' T p').map (·.1))≤wS f ((suppliesS plan a ps S p).map (·.1)):=by
  unfold suppliesS
  have key:∀ l m:List Zf,Chp l m→(∀ x∈l,(findP plan x.Product).isSome=true)→wS f ((m.flatMap (supplyS plan' a ps' T)).map (·.1))≤wS f ((l.flatMap (supplyS plan a ps S)).map (·.1)):=by
    intro l m h
    induction h with
    | nil=>intro _;exact Int.le_refl _
    | @cons x y l m h1 h2 h3 h ih =>
      intro hl
      have i1:=ih fun y hy=>hl y (by simp [hy])
      have i2:=(xcy hps hST hpl hf hv a h1 h2 h3 (hl x (by simp))).1
      rw [List.flatMap_cons,List.flatMap_cons,List.map_append,List.map_append,xct,xct]
      omega
  exact key _ _ hle.inp fun x hx=>(hp.inp x hx).1
include hpl in
theorem xmv (a:Zb) {l m:List Zf} (h:Chp l m) (hl:∀ x∈l,(findP plan x.Product).isSome=true):∀ acc,m.foldl (procS plan' a) acc=l.foldl (procS plan a) acc:=by
 induction h with
 | nil=>intro acc;rfl
 | @cons x y l m h1 h2 h3 h ih =>
  intro acc
  have hq:=hpl x.Product (hl x (by simp))
  rw [List.foldl_cons,List.foldl_cons,ih fun z hz=>hl z (by simp [hz])]
  congr 1
  unfold procS fullB
  rw [h1,hq.ctr,hq.proc]
end
theorem wS_pos {f:Zk→Int} (hf:Wt f):∀ {l:List Zk},(∀ i∈l,0≤i.Value)→0≤wS f l
 | [],_=>Int.le_refl _
 | i::l,h=>by
  have h1:=wS_pos hf (l:=l) fun j hj=>h j (by simp [hj])
  have h2:=hf.pos i (h i (by simp))
  rw [wS];cases i.Originating
  ·simp only [cof];omega
  simp only [cot];omega
theorem xmw {x y:Zn} (hc:y.Code=x.Code) (hp:y.Price=x.Price) (ho:y.Obtained=x.Obtained) (hpr:y.Processes=x.Processes) (hy:∀ i∈y.Inputs,0≤i.Value) (h:∀ f,WtM f→wS f y.Inputs≤wS f x.Inputs) (r:Zc) (hl:leafH r x=true):leafH r y=true:=by
 have hV:=h _ wtmV
 have hN:=h _ wtmN
 have hW:=h _ (wtmW r x.Code)
 have hN0:=wS_pos wtN hy
 unfold leafH at hl ⊢
 rw [hc,hp,ho,hpr]
 cases h1:(r.Kind == 1)
 ·rw [h1] at hl
  cases h2:(r.Kind == 2)
  ·rw [h2] at hl
   cases h3:(r.Kind == 3)
   ·rw [h3] at hl;exact hl
   rw [h3] at hl
   simp only [cof,cot,decide_eq_true_eq] at hl ⊢
   omega
  rw [h2] at hl
  simp only [cof,cot,decide_eq_true_eq] at hl ⊢
  omega
 rw [h1] at hl
 simp only [cot,Bool.and_eq_true,beq_iff_eq] at hl ⊢
 exact ⟨hl.1,by omega⟩
theorem xiq {plan plan':List Zd} {l l':List Zb} (hv:VPs plan) (hv':VPs plan') (imp:ByteArray) (c:Za) (hpl:∀ id,(findP plan id).isSome=true→PLe (getP plan id) (getP plan' id)) (hag:agrOf l' c.Agreement=agrOf l c.Agreement)
    (hps:∀ x∈partnersS l c.Agreement (getP plan c.Product).Country imp,x∈partnersS l' c.Agreement (getP plan c.Product).Country imp) {S T:CSet} (hST:∀ c,S c=true→T c=true) (hf:(findP plan c.Product).isSome=true) (hf':(findP plan' c.Product).isSome=true) (r:Zc) (hr:ruleB r=true)
    (hw:(wit (caseC plan l imp c S) r).isSome=true):(wit (caseC plan' l' imp c T) r).isSome=true:=by
  obtain ⟨hq1,hq,_⟩:=yhu hv hf
  have hle:=hpl c.Product hf
  have hok:=ytb (l:=l') hv' imp c T hf'
  refine yub (fun r hr hl=>?_) r hr hw
  refine xmw ?_ ?_ ?_ ?_ (fun i hi=>(hok.inp i hi).2.1) (fun f hf=>?_) r hl
  · exact hle.code
  · exact hle.price
  · exact hle.obt
  · show List.take 8 _=List.take 8 _
    rw [hag,hle.proc,xmv hpl _ hle.inp fun x hx=>(hq.inp x hx).1]
  show wS f ((suppliesS plan' (agrOf l' c.Agreement) _ T _).map _)≤wS f ((suppliesS plan (agrOf l c.Agreement) _ S _).map _)
  rw [hag,hle.ctr]
  exact yxi hps hST hpl hf hv (agrOf l c.Agreement) hq hle
inductive PsLe:List Zd→List Zd→Prop
 | nil:PsLe [] []
 | cons {p q:Zd} {l m:List Zd} (h1:PLe p q) (h:PsLe l m):PsLe (p::l) (q::m)
theorem PsLe.find {l m:List Zd} (h:PsLe l m) (id:Int):(findP l id=none∧findP m id=none)∨∃ p q,findP l id=some p∧findP m id=some q∧PLe p q:=by
 induction h with
 | nil=>exact .inl ⟨rfl,rfl⟩
 | @cons p q l m h1 h ih =>
  unfold findP at ih ⊢
  rw [List.find?_cons,List.find?_cons,h1.id]
  cases p.ID == id
  ·exact ih
  exact .inr ⟨p,q,rfl,rfl,h1⟩
theorem PsLe.mem {l m:List Zd} (h:PsLe l m) {p:Zd} (hp:p∈l):∃ q∈m,PLe p q:=by
 induction h with
 | nil=>cases hp
 | @cons x q l m h1 h ih =>
  rcases List.mem_cons.1 hp with e | hp'
  ·subst e;exact ⟨q,by simp,h1⟩
  obtain ⟨r,k1,k2⟩:=ih hp'
  exact ⟨r,by simp [k1],k2⟩
theorem yws (l m:List Zb) {id:Int} (h:(findA l id).isSome=true):findA (l++m) id=findA l id:=by
 unfold findA at h ⊢
 rw [List.find?_append]
 cases hf:l.find? (fun a=>a.ID == id) with
 | none=>rw [hf] at h;cases h
 | some a=>rfl
theorem xmx {p:List Zd} {l:List Zb} {i:ByteArray} {c:Za} (h:admB p l i c=true):(findA l c.Agreement).isSome=true:=by
 unfold admB at h
 cases hf:findA l c.Agreement with
 | none=>rw [hf] at h;cases hp:findP p c.Product <;> rw [hp] at h <;> cases h
 | some a=>rfl
theorem adm_app {p:List Zd} {l:List Zb} (m:List Zb) {i:ByteArray} {c:Za} (h:admB p l i c=true):admB p (l++m) i c=true:=by
 have:=xmx h
 unfold admB at h ⊢
 rw [yws l m this];exact h
theorem xcz (l m:List Zb) {id:Int} (e i:ByteArray) (h:(findA l id).isSome=true):∀ x∈partnersS l id e i,x∈partnersS (l++m) id e i:=by
 intro x hx
 unfold partnersS at hx ⊢
 rw [yws l m h]
 cases hf:findA l id with
 | none=>rw [hf] at h;cases h
 | some a =>
  rw [hf] at hx
  dsimp only at hx ⊢
  cases hk:a.Kind == 2
  ·rw [hk] at hx;exact hx
  rw [hk,cot] at hx
  rw [cot,List.filter_append,List.map_append]
  rcases List.mem_cons.1 hx with hx | hx
  ·exact List.mem_cons.2 (.inl hx)
  exact List.mem_cons.2 (.inr (List.mem_append.2 (.inl hx)))
theorem PLe.refl {plan:List Zd} {p:Zd} (h:VProd plan p):PLe p p:=⟨rfl,rfl,rfl,rfl,rfl,rfl,Chp.refl fun x hx=>(h.inp x hx).2.1⟩
theorem more_le {plan:List Zd} {l m:List Zb} (hv:VPs plan) (hl:VAs l) (ha:AscA l) (hl':VAs (l++m)) (ha':AscA (l++m)) (imp:ByteArray):∀ c,provedS plan l imp c=true→provedS plan (l++m) imp c=true:=by
 refine solve_le hv hl ha hv hl' ha' fun g hg=>?_
 have hr:=ysk hl hg
 have hf:=(yqk hg)
 have hs:=xmx hf.1
 obtain ⟨p,hp,a,hal,hc,hru,h1⟩:=ynm.1 hg
 have hg':g∈goalsS plan (l++m) imp:=ynm.2 ⟨p,hp,a,List.mem_append.2 (.inl hal),adm_app m hc,hru,h1⟩
 refine ⟨hg',fun S=>xiq hv hv imp g.1 (fun id hid=>PLe.refl (yhu hv hid).2.1) ?_ (xcz l m _ _ hs) (fun c hc=>hc) hf.2 hf.2 g.2 hr.2.1⟩
 unfold agrOf;rw [yws l m hs]
section
variable {plan:List Zd} (R:Int→Bool) (hR:∀ p∈plan,R p.ID=true→∀ y∈p.Inputs,R y.Product=true)
end
section
variable (x:Zn)
mutual
def fol:Zc→List Int→Option (List Int)
 | ⟨k,d,e,t,m,n,l⟩,p=>cond (k == 5) (folE l p) (cond (k == 6) (cond (!p.isEmpty&&decide (0≤p.headD 0)) (folN l (p.headD 0).toNat p.tail) none) (cond (leafH ⟨k,d,e,t,m,n,l⟩ x) (some p) none))
def folE:List Zc→List Int→Option (List Int)
 | [],p=>some p
 | a::l,p=>match fol a p with
  | some q=>folE l q
  | none=>none
def folN:List Zc→Nat→List Int→Option (List Int)
 | [],_,_=>none
 | a::_,0,p=>fol a p
 | _::l,n+1,p=>folN l n p
end
end
mutual
theorem xmy (x:Zn):∀ (r:Zc) (p q:List Int),fol x r p=some q→(wit x r).isSome=true
 | ⟨k,d,e,t,m,n,l⟩,p,q,h=>by
  rw [fol] at h
  rw [wit]
  cases h5:(k == 5)
  ·rw [h5] at h
   simp only [cof] at h ⊢
   cases h6:(k == 6)
   ·rw [h6] at h
    simp only [cof] at h ⊢
    cases hh:leafH ⟨k,d,e,t,m,n,l⟩ x
    ·rw [hh] at h;cases h
    rfl
   rw [h6] at h
   simp only [cot] at h ⊢
   cases hi:(!p.isEmpty&&decide (0≤p.headD 0))
   ·rw [hi] at h;cases h
   rw [hi] at h;exact xgx x l _ 0 _ q h
  rw [h5] at h
  exact xgy x l p q h
theorem xgy (x:Zn):∀ (l:List Zc) (p q:List Int),folE x l p=some q→(witE x l).isSome=true
 | [],p,q,h=>by rw [witE];rfl
 | a::l,p,q,h=>by
  rw [folE] at h
  rw [witE]
  cases ha:fol x a p with
  | none=>rw [ha] at h;cases h
  | some s =>
   rw [ha] at h
   obtain ⟨w,e1⟩:=Option.isSome_iff_exists.1 (xmy x a p s ha)
   obtain ⟨v,e2⟩:=Option.isSome_iff_exists.1 (xgy x l s q h)
   rw [e1,e2];rfl
theorem xgx (x:Zn):∀ (l:List Zc) (n i:Nat) (p q:List Int),folN x l n p=some q→(witO x i l).isSome=true
 | [],n,i,p,q,h=>by rw [folN] at h;cases h
 | a::l,0,i,p,q,h=>by
  rw [folN] at h
  rw [witO]
  obtain ⟨w,e1⟩:=Option.isSome_iff_exists.1 (xmy x a p q h)
  rw [e1];rfl
 | a::l,n+1,i,p,q,h=>by
  rw [folN] at h
  rw [witO]
  cases wit x a with
  | none=>exact xgx x l n (i+1) p q h
  | some w=>rfl
end
mutual
theorem xmz (x:Zn):∀ (r:Zc) (w t:List Int),wit x r=some w→fol x r (w++t)=some t
 | ⟨k,d,e,u,m,n,l⟩,w,t,h=>by
  rw [wit] at h
  rw [fol]
  cases h5:(k == 5)
  ·rw [h5] at h
   simp only [cof] at h ⊢
   cases h6:(k == 6)
   ·rw [h6] at h
    simp only [cof] at h ⊢
    cases hh:leafH ⟨k,d,e,u,m,n,l⟩ x
    ·rw [hh] at h;cases h
    rw [hh] at h;injection h with h;subst h;rfl
   rw [h6] at h
   simp only [cot] at h ⊢
   obtain ⟨j,v,e1,e2⟩:=xgz x l 0 w t h
   subst e1
   show cond (true&&decide (0≤((0+j:Nat):Int))) (folN x l ((0+j:Nat):Int).toNat (v++t)) none=_
   rw [det (by omega),Bool.and_self,cot,show ((0+j:Nat):Int).toNat=j by omega]
   exact e2
  rw [h5] at h
  exact xha x l w t h
theorem xha (x:Zn):∀ (l:List Zc) (w t:List Int),witE x l=some w→folE x l (w++t)=some t
 | [],w,t,h=>by rw [witE] at h;injection h with h;subst h;rw [folE];rfl
 | a::l,w,t,h=>by
  rw [witE] at h
  rw [folE]
  cases ha:wit x a with
  | none=>rw [ha] at h;cases h
  | some p =>
   cases hl:witE x l with
   | none=>rw [ha,hl] at h;cases h
   | some q =>
    rw [ha,hl,obs,obs] at h
    injection h with h
    subst h
    rw [List.append_assoc,xmz x a p (q++t) ha]
    exact xha x l q t hl
theorem xgz (x:Zn):∀ (l:List Zc) (i:Nat) (w t:List Int),witO x i l=some w→∃ (j:Nat) (v:List Int),w=((i+j:Nat):Int)::v∧folN x l j (v++t)=some t
 | [],i,w,t,h=>by rw [witO] at h;cases h
 | a::l,i,w,t,h=>by
  rw [witO] at h
  cases ha:wit x a with
  | none =>
   rw [ha] at h
   obtain ⟨j,v,e1,e2⟩:=xgz x l (i+1) w t h
   exact ⟨j+1,v,by rw [e1];congr 2;omega,by rw [folN];exact e2⟩
  | some p =>
   rw [ha] at h
   injection h with h
   exact ⟨0,p,h.symm,by rw [folN];exact xmz x a p t ha⟩
end

section
variable {γ π:Type}
end
def conS (plan:List Zd) (l:List Zb) (imp:ByteArray) (S:CSet) (p:Zd) (a:Zb):Option Prf :=
 cond (S ⟨p.ID,a.ID⟩ || !admB plan l imp ⟨p.ID,a.ID⟩) none (prfS plan l imp S (⟨p.ID,a.ID⟩,(ruleOfS a p.Code).getD zRule))
theorem xir {plan:List Zd} (h:VPs plan) {p:Zd} (hp:p∈plan):findP plan p.ID=some p:=by
 cases hf:findP plan p.ID with
 | none =>
  unfold findP at hf
  rw [List.find?_eq_none] at hf
  exact absurd (by simp) (hf p hp)
 | some q =>
  have h1:=xcn hf
  rw [xew h.asc h1.1 hp h1.2]
theorem xhb {plan:List Zd} {l:List Zb} {imp:ByteArray} (hv:VPs plan) (ha:AscA l) {p:Zd} (hp:p∈plan) {a:Zb} (hal:a∈l) (h:admB plan l imp ⟨p.ID,a.ID⟩=true):∃ r,ruleOfS a p.Code=some r:=by
 obtain ⟨q,b,r,e1,e2,e3,_⟩:=ysi h
 dsimp only at e1 e2
 rw [xir hv hp] at e1
 rw [xlu ha hal] at e2
 injection e1 with e1
 injection e2 with e2
 exact ⟨r,by rw [e1,e2];exact e3⟩
theorem yyo {plan:List Zd} {l:List Zb} (hv:VPs plan) (ha:AscA l) (imp:ByteArray) (S:CSet):(goalsS plan l imp).filterMap (fun g=>cond (S g.1) none (prfS plan l imp S g))=plan.flatMap fun p=>l.filterMap fun a=>conS plan l imp S p a:=by
 have inner:∀ p∈plan,∀ m:List Zb,(∀ a∈m,a∈l)→(m.filterMap fun a=>cond (admB plan l imp ⟨p.ID,a.ID⟩) ((ruleOfS a p.Code).map fun r=>((⟨p.ID,a.ID⟩:Za),r)) none).filterMap (fun g=>cond (S g.1) none (prfS plan l imp S g))=m.filterMap fun a=>conS plan l imp S p a:=by
  intro p hp m
  induction m with
  | nil=>intro _;rfl
  | cons a m ih =>
   intro hm
   have ih:=ih fun b hb=>hm b (by simp [hb])
   cases hc:admB plan l imp ⟨p.ID,a.ID⟩
   ·rw [List.filterMap_cons_none (by rw [hc];rfl),ih,List.filterMap_cons_none (by unfold conS;rw [hc];cases S ⟨p.ID,a.ID⟩ <;> rfl)]
   obtain ⟨r,hr⟩:=xhb hv ha hp (hm a (by simp)) hc
   rw [List.filterMap_cons_some (b:=((⟨p.ID,a.ID⟩:Za),r)) (by rw [hc,hr];rfl)]
   have e:conS plan l imp S p a=cond (S ⟨p.ID,a.ID⟩) none (prfS plan l imp S (⟨p.ID,a.ID⟩,r)):=by
    unfold conS;rw [hc,hr];cases S ⟨p.ID,a.ID⟩ <;> rfl
   cases hs:cond (S ⟨p.ID,a.ID⟩) none (prfS plan l imp S (⟨p.ID,a.ID⟩,r)) with
   | none=>rw [List.filterMap_cons_none (f:=fun g:Goal=>cond (S g.1) none (prfS plan l imp S g)) hs,List.filterMap_cons_none (e.trans hs),ih]
   | some q=>rw [List.filterMap_cons_some (f:=fun g:Goal=>cond (S g.1) none (prfS plan l imp S g)) hs,List.filterMap_cons_some (e.trans hs),ih]
 unfold goalsS
 have outer:∀ q:List Zd,(∀ p∈q,p∈plan)→(q.flatMap fun p=>l.filterMap fun a=>cond (admB plan l imp ⟨p.ID,a.ID⟩) ((ruleOfS a p.Code).map fun r=>((⟨p.ID,a.ID⟩:Za),r)) none).filterMap (fun g=>cond (S g.1) none (prfS plan l imp S g))=q.flatMap fun p=>l.filterMap fun a=>conS plan l imp S p a:=by
  intro q
  induction q with
  | nil=>intro _;rfl
  | cons p q ih =>
   intro hq
   rw [List.flatMap_cons,List.flatMap_cons,List.filterMap_append,inner p (hq p (by simp)) l (fun _ h=>h),ih fun x hx=>hq x (by simp [hx])]
 exact outer plan fun _ h=>h
def refRounds (plan:List Zd) (l:List Zb) (imp:ByteArray):Nat→List Prf→List Za→List Prf
  | 0,ps,_=>ps
  | n+1,ps,set=>cond (plan.flatMap fun p=>l.filterMap fun a=>conS plan l imp (memB set) p a).isEmpty ps
      (refRounds plan l imp n (ps++plan.flatMap fun p=>l.filterMap fun a=>conS plan l imp (memB set) p a) ((plan.flatMap fun p=>l.filterMap fun a=>conS plan l imp (memB set) p a).foldl (fun t p=>insS ltClaim t p.1) set))
theorem ytd:∀ (ps:List Prf) (set:List Za) (c:Za),memB (ps.foldl (fun t p=>insS ltClaim t p.1) set) c=(memB set c||memB (ps.map fun p:Prf=>p.1) c)
 | [],set,c=>by simp [memB]
 | p::ps,set,c=>by
  rw [List.foldl_cons,ytd ps]
  have:memB (insS ltClaim set p.1) c=(memB set c||decide (p.1=c)):=by
   cases h:memB (insS ltClaim set p.1) c
   ·rw [yqi,xac] at h
    rw [yqi.2 (fun hm=>h (.inr hm)),ydl (fun e=>h (.inl e.symm))];rfl
   rw [ymk,xac] at h
   rcases h with h | h
   ·rw [det h.symm,Bool.or_true]
   rw [ymk.2 h,Bool.true_or]
  rw [this,List.map_cons]
  show _=(memB set c||(decide (p.1=c)||memB (ps.map fun p:Prf=>p.1) c))
  rw [Bool.or_assoc]
theorem ytk {plan:List Zd} {l:List Zb} (hv:VPs plan) (ha:AscA l) (imp:ByteArray):∀ (n:Nat) (ps:List Prf) (set:List Za),(∀ c,memB set c=memB (ps.map fun p:Prf=>p.1) c)→refRounds plan l imp n ps set=roundsR (fun g:Goal=>g.1) (fun p:Prf=>p.1) (prfS plan l imp) (goalsS plan l imp) n ps
 | 0,ps,set,_=>rfl
 | n+1,ps,set,h=>by
  have hS:memB set=memB (ps.map fun p:Prf=>p.1):=funext h
  rw [refRounds,roundsR,hS,← yyo hv ha]
  cases ((goalsS plan l imp).filterMap fun g=>cond (memB (ps.map fun p:Prf=>p.1) g.1) none (prfS plan l imp (memB (ps.map fun p:Prf=>p.1)) g)).isEmpty
  ·simp only [cof]
   refine ytk hv ha imp n _ _ fun c=>?_
   rw [ytd,h,List.map_append]
   unfold memB;rw [List.any_append]
  rfl
theorem ywt {plan:List Zd} {l:List Zb} (hv:VPs plan) (ha:AscA l) (imp:ByteArray):refRounds plan l imp (goalsS plan l imp).length [] []=solveS plan l imp:=by
 rw [ytk hv ha imp _ [] [] (fun _=>rfl),← xip (xmu plan l imp) (ywr hv ha)]
 unfold solveS
 congr 1
 exact List.filter_eq_self.2 fun _ _=>rfl
section
variable (ps:List Prf)
def firstI (d:Za):Option Nat:=ps.findIdx? fun p=>decide (p.1=d)
inductive Reach (c:Za):Za→Prop
 | base:Reach c c
 | step {d e:Za} {i:Nat} {p:Prf} (h:Reach c d) (h1:firstI ps d=some i) (h2:ps[i]?=some p) (h3:e∈p.2.2):Reach c e
variable {ps} {c:Za}
def TCov (ps:List Prf) (nd:List Bool) (todo:List Za) (e:Za):Prop:=e∈todo∨∃ j,firstI ps e=some j∧nd[j]?=some true
structure Zw (ps:List Prf) (c:Za) (nd:List Bool) (todo:List Za):Prop where
 len:nd.length=ps.length
 tr:∀ d∈todo,Reach ps c d
 nr:∀ i:Nat,nd[i]?=some true→∃ d,Reach ps c d∧firstI ps d=some i
 cl:∀ (i:Nat) p,nd[i]?=some true→ps[i]?=some p→∀ e∈p.2.2,TCov ps nd todo e
 st:TCov ps nd todo c
structure NInv (ps:List Prf) (c:Za) (need:List Za) (k:Nat):Prop where
 rr:∀ d∈need,Reach ps c d
 st:c∈need
 nd:need.Nodup
 cl:∀ (j:Nat),j<k→∀ d,need[j]?=some d→∃ i p,firstI ps d=some i∧ps[i]?=some p∧∀ e∈p.2.2,e∈need
end
def rw' (n:Int):Zm:=⟨n / 18446744073709551616,n % 18446744073709551616⟩
theorem rw_of {w:Zm} (h:RW w):w=rw' (rv w)∧U128 (rv w):=by
 obtain ⟨a,b⟩:=w
 unfold RW U64 at h;unfold rw' rv U128;dsimp only at *
 refine ⟨?_,by omega⟩
 congr 1 <;> omega
theorem rmul {a b:Int} (ha:U64 a) (hb:U64 b):ymz a b=some (rw' (a*b))∧U128 (a*b):=by
 obtain ⟨w,e1,e2,e3⟩:=xmb ha hb
 have:=rw_of e2
 rw [e3] at this
 rw [e1];exact ⟨congrArg some this.1,this.2⟩
theorem rless {a b:Int} (ha:U128 a) (hb:U128 b):yqf (rw' a) (rw' b)=some (decide (a<b)):=by
 unfold U128 at *
 unfold yqf rw'
 dsimp only
 congr 1
 by_cases h:a<b
 ·rw [det h];simp only [Bool.or_eq_true,Bool.and_eq_true,decide_eq_true_eq,beq_iff_eq];omega
 rw [ydl h];simp only [Bool.or_eq_false_iff,Bool.and_eq_false_iff,decide_eq_false_iff_not,beq_eq_false_iff_ne];omega
theorem yyp {v s p:Int} (hv:0≤v∧v≤100000000000000) (hs:0≤s∧s≤1000000) (hp:0≤p∧p≤1000000000000):ymd v s p=some (decide (v*1000000≤s*p)):=by
 unfold ymd
 rw [yhz (a:=v) ⟨by omega,by omega⟩,yhz (a:=s) ⟨by omega,by omega⟩,yhz (a:=p) ⟨by omega,by omega⟩]
 obtain ⟨e1,u1⟩:=rmul (a:=v) (b:=1000000) ⟨by omega,by omega⟩ ⟨by omega,by omega⟩
 obtain ⟨e2,u2⟩:=rmul (a:=s) (b:=p) ⟨by omega,by omega⟩ ⟨by omega,by omega⟩
 rw [e1,obs,e2,obs]
 unfold yvg
 rw [rless u1 u2,rless u2 u1]
 simp only [obs]
 by_cases h:v*1000000<s*p
 ·rw [det h]
  simp only [cot,obs]
  rw [det (by omega),det (by omega)]
 rw [ydl h]
 by_cases h2:s*p<v*1000000
 ·rw [det h2]
  simp only [cof,cot,obs]
  rw [ydl (by omega),ydl (by omega)]
 rw [ydl h2]
 simp only [cof,obs]
 rw [det (by omega),det (by omega)]
theorem xda {r:Zc} {x:Zn} {i:Zk} (hd:r.Digits=2∨r.Digits=4∨r.Digits=6) (he:r.Except.length≤6) (hc:6≤level x.Code) (hi:6≤level i.Code):yjq r x i=some (violB r x.Code i.Code):=by
 unfold yjq violB
 have hs:=ytc hc
 have hs2:=ytc hi
 have e:ssub x.Code 0 r.Digits=some (x.Code.extract 0 r.Digits.toNat):=by unfold ssub;rw [if_pos (by omega)];rfl
 have e2:ssub i.Code 0 r.Digits=some (i.Code.extract 0 r.Digits.toNat):=by unfold ssub;rw [if_pos (by omega)];rfl
 have hsz:(x.Code.extract 0 r.Digits.toNat).size=r.Digits.toNat:=by rw [ByteArray.size_extract];omega
 have ep:prefB i.Code (x.Code.extract 0 r.Digits.toNat)=decide (i.Code.extract 0 r.Digits.toNat=x.Code.extract 0 r.Digits.toNat):=by
  unfold prefB;rw [hsz,det (by omega),Bool.true_and]
 rw [e2,obs,e,obs,ep]
 cases decide (i.Code.extract 0 r.Digits.toNat=x.Code.extract 0 r.Digits.toNat)
 ·simp only [cof,Bool.false_or]
  refine (ybz (l:=r.Except) (by omega) (fun _ x=>cond (prefB i.Code x) (some (.inr true)) none) (.inl ()) (fun k hk=>?_) (by simp only [yhb,cof])).trans ?_
  ·simp only [dlt hk,cot,yax hk,obs,ycw hk (show r.Except.length≤4611686018427387904 by omega),xgn]
   cases prefB i.Code r.Except[k] <;> rfl
  rw [yrv (fun x=>prefB i.Code x) (Sum.inr true:Unit⊕Bool)]
  cases r.Except.any fun x=>prefB i.Code x <;> rfl
 rfl
mutual
theorem xhc (x:Zn):∀ l:List Zc,(witE x l).isSome=l.all fun a=>(wit x a).isSome
 | []=>by rw [witE];rfl
 | a::l=>by
  have h:=xhc x l
  rw [witE,List.all_cons,← h]
  cases wit x a with
  | none=>rfl
  | some p=>cases witE x l <;> rfl
theorem xhd (x:Zn):∀ (l:List Zc) (i:Nat),(witO x i l).isSome=l.any fun a=>(wit x a).isSome
 | [],i=>by rw [witO];rfl
 | a::l,i=>by
  have h:=xhd x l (i+1)
  rw [witO,List.any_cons,← h]
  cases wit x a <;> rfl
end
def cntB {α:Type} (p:α→Bool):List α→Nat
 | []=>0
 | a::l=>cond (p a) 1 0+cntB p l
theorem xna {α:Type} (p:α→Bool):∀ l:List α,cntB p l≤l.length
 | []=>Nat.le_refl _
 | a::l=>by have:=xna p l;rw [cntB,List.length_cons];cases p a <;> simp <;> omega
theorem xhe {α:Type} (p:α→Bool):∀ l:List α,(cntB p l == l.length)=l.all p
 | []=>rfl
 | a::l=>by
  have h:=xhe p l
  have hle:=xna p l
  rw [cntB,List.length_cons,List.all_cons,← h]
  cases p a
  ·rw [cof,Bool.false_and,beq_eq_false_iff_ne];omega
  rw [cot,Bool.true_and,Bool.eq_iff_iff,beq_iff_eq,beq_iff_eq];omega
theorem xhf {α:Type} (p:α→Bool):∀ l:List α,decide (0<cntB p l)=l.any p
 | []=>rfl
 | a::l=>by
  have h:=xhf p l
  rw [cntB,List.any_cons,← h]
  cases p a
  ·rw [cof,Bool.false_or];exact decide_eq_decide.2 (by omega)
  rw [cot,Bool.true_or];exact det (by omega)
theorem xez (x:Zn) (hx:VCase x) (n:Nat):∀ r:Zc,ruleB r=true→dep r≤n→yod n r x=some (wit x r).isSome:=by
 induction n with
 | zero=>intro r _ hd;rw [yop] at hd;omega
 | succ n ih =>
  intro r hr hd
  obtain ⟨hl,ha,he⟩:=ynl hr
  have hfew:=hx.few
  show yoc (yod n) r x=_
  unfold yoc
  have hvi:r.Kind=2→∀ i∈x.Inputs,yjq r x i=some (violB r x.Code i.Code):=by
   intro hk i hi
   have h:=hr
   rw [yhq,hk] at h
   simp only [leafB,hk,Bool.and_eq_true] at h
   have h3:=h.2
   simp at h3
   exact xda (by omega) he hx.lvl (hx.inp i hi).1
  refine (ycp (l:=x.Inputs) (by omega) (fun i (s:Int×Int)=>(s.1,s.2,i)) (fun s i=>(s.1+cond i.Originating 0 (cond (r.Kind == 3) (fV i) (cond (r.Kind == 2) (fW r x.Code i) 0)),s.2+cond i.Originating 0 (fN i))) (fun s=>s) (fun k s=>(0≤s.1∧s.1≤k*1000000000000)∧(0≤s.2∧s.2≤k)) (0,0) ⟨by simp,by simp⟩ (fun k hk s hs=>?_) (fun s _=>by simp only [yhb,cof])).1.trans ?_
  ·obtain ⟨a,b⟩:=s
   obtain ⟨s1,s2⟩:=hs
   dsimp only at s1 s2 ⊢
   have hmem:=List.getElem_mem hk
   have hi:=hx.inp _ hmem
   have hk100:k<100:=by omega
   simp only [dlt hk,cot,yax hk,obs,ycw hk (show x.Inputs.length≤4611686018427387904 by omega)]
   generalize x.Inputs[k]=i at hi hmem
   unfold fV fN fW
   cases i.Originating
   ·simp only [cof]
    cases hk3:(r.Kind == 3)
    ·cases hk2:(r.Kind == 2)
     ·simp only [Bool.not_false,Bool.and_false,ymw,obs,Bool.false_and,Bool.or_self,cof,Int.add_zero]
      rw [ygo (r:=b+1) (by omega) (by omega)]
      exact ⟨rfl,⟨by omega,by omega⟩,by omega,by omega⟩
     simp only [Bool.not_false,Bool.and_self,yee,Bool.false_or,Bool.true_and]
     rw [hvi (eq_of_beq hk2) i hmem,obs]
     cases violB r x.Code i.Code
     ·simp only [cof,cot,obs,Int.add_zero]
      rw [ygo (r:=b+1) (by omega) (by omega)]
      exact ⟨rfl,⟨by omega,by omega⟩,by omega,by omega⟩
     simp only [cot,cof,obs]
     rw [ygo (r:=b+1) (by omega) (by omega),ygo (r:=a+i.Value) (by omega) (by omega)]
     exact ⟨rfl,⟨by omega,by omega⟩,by omega,by omega⟩
    simp only [Bool.not_true,Bool.false_and,ymw,obs,Bool.true_or,cot]
    rw [ygo (r:=b+1) (by omega) (by omega),ygo (r:=a+i.Value) (by omega) (by omega)]
    exact ⟨rfl,⟨by omega,by omega⟩,by omega,by omega⟩
   simp only [cot,obs,Int.add_zero]
   exact ⟨trivial,⟨by omega,by omega⟩,by omega,by omega⟩
  have key:∀ (l:List Zk) (a b:Int),l.foldl (fun (s:Int×Int) i=>(s.1+cond i.Originating 0 (cond (r.Kind == 3) (fV i) (cond (r.Kind == 2) (fW r x.Code i) 0)),s.2+cond i.Originating 0 (fN i))) (a,b)=(a+wS (fun i=>cond (r.Kind == 3) (fV i) (cond (r.Kind == 2) (fW r x.Code i) 0)) l,b+wS fN l):=by
   intro l
   induction l with
   | nil=>intro a b;simp [wS]
   | cons i l ih=>intro a b;rw [List.foldl_cons,ih];simp only [wS,Int.add_assoc]
  rw [key]
  dsimp only
  simp only [Int.zero_add]
  refine (ycp (l:=r.Args) (by omega) (fun i (s:Nat)=>((s:Int),i)) (fun s a=>s+cond (wit x a).isSome 1 0) (fun s=>(s:Int)) (fun k s=>s≤k) 0 (Nat.le_refl _) (fun k hk s hs=>?_) (fun s _=>by simp only [yhb,cof])).1.trans ?_
  ·simp only [dlt hk,cot,yax hk,obs,ycw hk (show r.Args.length≤4611686018427387904 by omega)]
   rw [ih _ (ha _ (List.getElem_mem hk)) (by have:=ylt (List.getElem_mem hk);omega),obs]
   cases (wit x r.Args[k]).isSome
   ·exact ⟨rfl,by simp;omega⟩
   simp only [cot,obs]
   rw [ygo (by omega) (by omega)]
   exact ⟨rfl,by omega⟩
  have key2:∀ (l:List Zc) (s:Nat),l.foldl (fun s a=>s+cond (wit x a).isSome 1 0) s=s+cntB (fun a=>(wit x a).isSome) l:=by
   intro l
   induction l with
   | nil=>intro s;rfl
   | cons a l ih=>intro s;rw [List.foldl_cons,ih,cntB];omega
  rw [key2,Nat.zero_add,xmp]
  have hv:0≤wS fV x.Inputs∧wS fV x.Inputs≤100000000000000:=by
   have:=ysj (f:=fV) (b:=1000000000000) (by omega) (l:=x.Inputs) fun i hi=>(hx.inp i hi).2
   omega
  have hw:0≤wS (fW r x.Code) x.Inputs∧wS (fW r x.Code) x.Inputs≤100000000000000:=by
   have:=ysj (f:=fW r x.Code) (b:=1000000000000) (by omega) (l:=x.Inputs) fun i hi=>by
    have:=(hx.inp i hi).2
    unfold fW;cases violB r x.Code i.Code
    ·simp only [cof];omega
    exact this
   omega
  have hp:=hx.price
  have hb:=hr
  rw [yhq] at hb
  unfold leafB mil at hb
  unfold leafH
  have fin:∀ b:Bool,(some b:Option Bool)=some ((cond b (some ([]:List Int)) none).isSome):=fun b=>by cases b <;> rfl
  cases h1:(r.Kind == 1)
  ·cases h2:(r.Kind == 2)
   ·cases h3:(r.Kind == 3)
    ·cases h4:(r.Kind == 4)
     ·cases h5:(r.Kind == 5)
      ·cases h6:(r.Kind == 6)
       ·rw [h1,h2,h3,h4,h5,h6] at hb;simp at hb
       simp only [cof,cot]
       rw [xhd,← xhf]
       congr 1
       exact decide_eq_decide.2 (by omega)
      simp only [cof,cot]
      rw [xhc,← xhe]
      congr 1
      rw [Bool.eq_iff_iff,beq_iff_eq,beq_iff_eq];omega
     have hk:=eq_of_beq h4
     rw [hk]
     simp only [cof,cot]
     rw [ysz _ _ hx.proc.2.1,obs]
     exact fin _
    have hk:=eq_of_beq h3
    rw [hk] at hb
    simp at hb
    rw [hk]
    simp only [cof,cot]
    rw [yyp hv hb.2 (by omega),obs]
    exact fin _
   have hk:=eq_of_beq h2
   rw [hk] at hb
   simp at hb
   rw [hk]
   simp only [cof,cot]
   have e3:((2:Int) == 3)=false:=rfl
   rw [show (fun i=>cond ((2:Int) == 3) (fV i) (fW r x.Code i))=fW r x.Code from rfl,yyp hw (by omega) (by omega),obs]
   exact fin _
  have hk:=eq_of_beq h1
  rw [hk]
  simp only [cot]
  exact fin _
theorem xnb {r:Zc} {x:Zn} (hx:VCase x) (hr:ruleB r=true) (hd:dep r≤1000):yvh r x=some (wit x r).isSome:=xez x hx FUEL r hr (by have hf:FUEL=1267650600228229401496703205376:=rfl;omega)
def rwF (x:Zn) (six:Bool) (k:Nat) (a:Zc) (l:List Int):List Int⊕List Int:=match wit x a with
 | none=>.inl l
 | some p=>cond six (.inr ((k:Int)::p)) (.inl (l++p))
theorem xnc (x:Zn):∀ (m:List Zc) (i:Nat) (l:List Int),run (rwF x true) m i l=match witO x i m with | some p=>.inr p | none=>.inl l
 | [],i,l=>by rw [witO];rfl
 | a::m,i,l=>by
  rw [yjp,witO]
  unfold rwF
  cases wit x a with
  | none=>exact xnc x m (i+1) l
  | some p=>rfl
theorem xnd (x:Zn):∀ (m:List Zc) (i:Nat) (l w:List Int),witE x m=some w→run (rwF x false) m i l=.inl (l++w)
 | [],i,l,w,h=>by rw [witE] at h;injection h with h;subst h;rw [List.append_nil];rfl
 | a::m,i,l,w,h=>by
  rw [witE] at h
  rw [yjp]
  unfold rwF
  cases ha:wit x a with
  | none=>rw [ha] at h;cases h
  | some p =>
   cases hm:witE x m with
   | none=>rw [ha,hm] at h;cases h
   | some q =>
    rw [ha,hm,obs,obs] at h
    injection h with h
    subst h
    rw [← List.append_assoc]
    exact xnd x m (i+1) (l++p) q hm
theorem xaj (x:Zn) (hx:VCase x) (n:Nat):∀ r:Zc,ruleB r=true→cnt r≤1000→dep r≤n→yir n r x=some (opt2 [] (wit x r)):=by
 induction n with
 | zero=>intro r _ _ hd;rw [yop] at hd;omega
 | succ n ih =>
  intro r hr hc hd
  obtain ⟨hl,ha,_⟩:=ynl hr
  have hdc:=ywa r
  show ylo (yir n) r x=_
  unfold ylo
  rw [xnb hx hr (by omega),obs]
  cases hw:wit x r with
  | none=>rfl
  | some w =>
   simp only [Option.isSome_some,Bool.not_true,cof]
   have hargs:∀ k (hk:k<r.Args.length),yir n r.Args[k] x=some (opt2 [] (wit x r.Args[k])):=fun k hk=>ih _ (ha _ (List.getElem_mem hk)) (by have:=ytg r;have:=ywo (List.getElem_mem hk);omega) (by have:=ylt (List.getElem_mem hk);omega)
   have hcl:∀ k (hk:k<r.Args.length) p,wit x r.Args[k]=some p→p.length≤1000:=fun k hk p h=>by have h1:=ywp x _ p h;have:=ytg r;have:=ywo (List.getElem_mem hk);omega
   refine (yks (l:=r.Args) (by omega) (fun i (s:List Int)=>(s,i)) (rwF x (r.Kind == 6)) (fun s=>.inl s) (fun p=>.inr (p,true)) (fun k s=>s.length≤k*1000) [] (by simp) (fun k hk s hs=>⟨?_,fun s' h'=>?_⟩) (fun s _=>by simp only [yhb,cof])).trans ?_
   ·simp only [dlt hk,cot,yax hk,obs,ycw hk (show r.Args.length≤4611686018427387904 by omega)]
    rw [hargs k hk]
    have:=hcl k hk
    unfold rwF
    cases hwk:wit x r.Args[k] with
    | none=>rfl
    | some p =>
     have:=this p hwk
     show Option.bind (cond (r.Kind == 6) _ _) _=_
     cases (r.Kind == 6)
     ·simp only [cof]
      rw [show (opt2 ([]:List Int) (some p)).1=p from rfl]
      rw [yds (show (s.length+p.length)*8≤140737488355328 by omega) (by omega)];rfl
     simp only [cot]
     rw [show (opt2 ([]:List Int) (some p)).1=p from rfl]
     rw [yds (show (([(k:Int)]).length+p.length)*8≤140737488355328 by simp;omega) (by simp;omega)];rfl
   ·have:=hcl k hk
    unfold rwF at h'
    cases hwk:wit x r.Args[k] with
    | none=>rw [hwk] at h';injection h' with h';subst h';omega
    | some p =>
     have:=this p hwk
     rw [hwk] at h'
     cases h6:(r.Kind == 6)
     ·rw [h6] at h';injection h' with h';subst h';rw [List.length_append];omega
     rw [h6] at h';cases h'
   rw [xmp] at hw
   cases h5:(r.Kind == 5)
   ·rw [h5] at hw
    simp only [cof] at hw
    cases h6:(r.Kind == 6)
    ·rw [h6] at hw
     simp only [cof] at hw
     have hnil:r.Args=[]:=by
      have hp:=hr
      rw [yhq,Bool.and_eq_true] at hp
      have h1:=hp.1
      unfold plainB at h1
      simp only [Bool.and_eq_true,h5,h6,Bool.false_or] at h1
      exact List.isEmpty_iff.1 h1.2
     rw [hnil]
     cases hh:leafH r x
     ·rw [hh] at hw;cases hw
     rw [hh] at hw;injection hw with hw;subst hw;rfl
    rw [h6] at hw
    rw [xnc,show witO x 0 r.Args=some w from hw];rfl
   rw [h5] at hw
   have h6:(r.Kind == 6)=false:=by rw [eq_of_beq h5];rfl
   rw [h6,xnd x r.Args 0 [] w hw];rfl
theorem xfa {r:Zc} {x:Zn} (hx:VCase x) (hr:ruleB r=true) (hc:cnt r≤32):yku r x=some (opt2 [] (wit x r)):=xaj x hx FUEL r hr (by omega) (by have:=ywa r;have hf:FUEL=1267650600228229401496703205376:=rfl;omega)
def toG (g:Goal):Zj:=⟨g.1,g.2⟩
def toP (p:Prf):Zg:=⟨p.1,p.2.1,p.2.2⟩
def goalAt (plan:List Zd) (l:List Zb) (imp:ByteArray) (p:Zd) (a:Zb):Option Goal:=cond (admB plan l imp ⟨p.ID,a.ID⟩) ((ruleOfS a p.Code).map fun r=>((⟨p.ID,a.ID⟩:Za),r)) none
theorem xhg {α β:Type} (h:α→Option β):∀ (l:List α) (s:List β),l.foldl (fun s a=>s++(h a).toList) s=s++l.filterMap h
 | [],s=>by simp
 | a::l,s=>by
  rw [List.foldl_cons,xhg h l]
  cases ha:h a with
  | none=>rw [List.filterMap_cons_none ha];simp
  | some b=>rw [List.filterMap_cons_some ha];simp
theorem ywu (plan:List Zd) (l:List Zb) (imp:ByteArray):(goalsS plan l imp).length≤plan.length*l.length:=by
 have key:∀ q:List Zd,(q.flatMap fun p=>l.filterMap (goalAt plan l imp p)).length≤q.length*l.length:=by
  intro q
  induction q with
  | nil=>simp
  | cons p q ih =>
   rw [List.flatMap_cons,List.length_append,List.length_cons,Nat.add_mul,Nat.one_mul]
   have:=List.length_filterMap_le (goalAt plan l imp p) l;omega
 exact key plan
theorem xis {plan:List Zd} {l:List Zb} (hv:VPs plan) (hl:VAs l) (imp:ByteArray):yke plan l imp=some ((goalsS plan l imp).map toG):=by
 unfold yke
 have hlen:=hv.len
 have hll:=hl.len
 have inner:∀ (p:Zd) (s:List Zj),s.length≤64000→Option.bind (loopF (S:=(List Zj)×Int) (T:=((List Zj))) (fun (l17,v20)=>cond (decide (v20<(l.length:Int))) (Option.bind (Option.bind (idx l v20) (fun m33=>Option.bind (yea m33 p.Code) (fun x36=>Option.bind (gd x36.2 (ycm plan l imp (⟨p.ID,m33.ID⟩:Za))) (fun x38=>cond (x36.2&&x38) (Option.bind (app 112 l17 [(⟨(⟨p.ID,m33.ID⟩:Za),x36.1⟩:Zj)]) (fun l42=>some l42)) (some l17))))) (fun l31=>some (.inl (l31,(IntKind.i64.wrap (v20+1)))))) (some (.inr l17))) FUEL (s,0)) (fun t=>(some t:Option (List Zj)))=some (s++(l.filterMap (goalAt plan l imp p)).map toG):=by
  intro p s hs
  refine (ycp (l:=l) (by omega) (fun i (s:List Zj)=>(s,i)) (fun s a=>s++((goalAt plan l imp p a).map toG).toList) (fun s=>s) (fun k t=>t.length≤s.length+k) s (Nat.le_refl _) (fun k hk t ht=>?_) (fun t _=>by simp only [yhb,cof])).1.trans ?_
  ·simp only [dlt hk,cot,yax hk,obs,ycw hk (show l.length≤4611686018427387904 by omega)]
   have hva:=hl.all _ (List.getElem_mem hk)
   rw [ywc _ _ hva,obs,xgp _ _ _ _ hv.sorted hl]
   unfold goalAt
   cases hr:ruleOfS l[k] p.Code with
   | none =>
    have e:(cond (admB plan l imp ⟨p.ID,l[k].ID⟩) ((none:Option Zc).map fun r=>((⟨p.ID,l[k].ID⟩:Za),r)) none)=none:=by cases admB plan l imp ⟨p.ID,l[k].ID⟩ <;> rfl
    rw [e]
    exact ⟨by simp [opt2,gd],by simp;omega⟩
   | some r =>
    show Option.bind (Option.bind (gd true (some (admB plan l imp ⟨p.ID,l[k].ID⟩))) _) _=_∧_
    rw [yee,obs]
    cases admB plan l imp ⟨p.ID,l[k].ID⟩
    ·exact ⟨by simp [opt2],by simp;omega⟩
    show Option.bind (Option.bind (app 112 t [_]) _) _=_∧_
    rw [yds (by simp;omega) (by simp;omega)]
    exact ⟨rfl,by simp;omega⟩
  rw [xhg (fun a=>(goalAt plan l imp p a).map toG)]
  congr 2
  rw [List.map_filterMap]
 refine (ycp (l:=plan) (by omega) (fun i (s:List Zj)=>(s,i)) (fun s p=>s++(l.filterMap (goalAt plan l imp p)).map toG) (fun s=>s) (fun k t=>t.length≤1000*k) [] (by simp) (fun k hk t ht=>?_) (fun t _=>by simp only [yhb,cof])).1.trans ?_
 ·simp only [dlt hk,cot,yax hk,obs,ycw hk (show plan.length≤4611686018427387904 by omega)]
  have hin:=inner plan[k] t (by omega)
  have e:∀ {α β:Type} (x:Option α) (z:α) (K:α→Option β),Option.bind x (fun t=>some t)=some z→Option.bind x K=K z:=by
   intro α β x z K h
   cases x with
   | none=>cases h
   | some y=>injection h with h;rw [h];rfl
  refine ⟨e _ _ _ hin,?_⟩
  have:=List.length_filterMap_le (goalAt plan l imp plan[k]) l
  simp;omega
 have key:∀ (q:List Zd) (s:List Zj),q.foldl (fun s p=>s++(l.filterMap (goalAt plan l imp p)).map toG) s=s++(q.flatMap fun p=>l.filterMap (goalAt plan l imp p)).map toG:=by
  intro q
  induction q with
  | nil=>intro s;simp
  | cons p q ih=>intro s;rw [List.foldl_cons,ih,List.flatMap_cons,List.map_append,List.append_assoc]
 rw [key,List.nil_append];rfl
theorem xne:yfy=yjm:=rfl
theorem xit {plan:List Zd} {l:List Zb} (hv:VPs plan) (hl:VAs l) {imp:ByteArray} {g:Goal} (hg:g∈goalsS plan l imp) (known:List Za) (hk:known.length≤100000) (ps:List Zg) (hps:ps.length≤100000) :
    yfv (toG g) plan l imp known ps=some ((prfS plan l imp (memB known) g).isSome,known,ps++((prfS plan l imp (memB known) g).map toP).toList):=by
  unfold yfv
  have hf:=yqk hg
  have hr:=ysk hl hg
  rw [xne,xmn hv hl imp _ known (by omega),obs]
  unfold caseS toG
  dsimp only
  rw [hf.1]
  simp only [cot]
  rw [xcu (ytb hv imp g.1 _ hf.2) hr.1 hr.2.1 hr.2.2,obs]
  unfold prfS
  cases hw:wit (caseC plan l imp g.1 (memB known)) g.2 with
  | none=>simp [opt2]
  | some w =>
    show Option.bind (cond true (Option.bind (app 64 ps [_]) _) _) _=_
    rw [cot,yds (by simp;omega) (by simp;omega)];rfl
theorem xiu {plan:List Zd} {l:List Zb} (hv:VPs plan) (hl:VAs l) {imp:ByteArray} (o:List Goal) (ho:∀ g∈o,g∈goalsS plan l imp) (ps:List Prf) (hlen:ps.length+o.length≤64000) {β:Type} (K:List Zj×List Zg×List Za→Option β) :
    Option.bind (loopF (S:=(List Zj)×Int×(List Zg)×(List Za)) (T:=((List Zj)×(List Zg)×(List Za))) (fun (l27,v30,l32,l36)=>cond (decide (v30<((o.map toG).length:Int))) (Option.bind (Option.bind (idx (o.map toG) v30) (fun m68=>Option.bind (yfv m68 plan l imp l36 l32) (fun x70=>cond (!x70.1) (Option.bind (app 112 l27 [m68]) (fun l80=>some (l80,x70.2.2,x70.2.1))) (some (l27,x70.2.2,x70.2.1))))) (fun (l58,l62,l66)=>some (.inl (l58,(IntKind.i64.wrap (v30+1)),l62,l66)))) (some (.inr (l27,l32,l36)))) FUEL (([]:List Zj),0,ps.map toP,ps.map fun p:Prf=>p.1)) K =
      K ((o.filter fun g=>(prfS plan l imp (memB (ps.map fun p:Prf=>p.1)) g).isNone).map toG,(ps++o.filterMap (prfS plan l imp (memB (ps.map fun p:Prf=>p.1)))).map toP,ps.map fun p:Prf=>p.1):=by
  generalize hS:(ps.map fun p:Prf=>p.1)=known
  have hkn:known.length=ps.length:=by rw [← hS,List.length_map]
  have hml:(o.map toG).length=o.length:=List.length_map _
  refine (ycp (l:=o.map toG) (by omega) (fun i (s:List Zj×List Zg)=>(s.1,i,s.2,known)) (fun s t=>match prfS plan l imp (memB known) (t.claim,t.rule) with | some p=>(s.1,s.2++[toP p]) | none=>(s.1++[t],s.2)) (fun s=>(s.1,s.2,known)) (fun k s=>s.1.length≤k∧s.2.length≤ps.length+k) ([],ps.map toP) ⟨by simp,by simp⟩ (fun k hk s hs=>?_) (fun s _=>by simp only [yhb,cof])).1.trans ?_
  · obtain ⟨a,b⟩:=s
    obtain ⟨h1,h2⟩:=hs
    dsimp only at h1 h2 ⊢
    simp only [dlt hk,cot,yax hk,obs,ycw hk (show (o.map toG).length≤4611686018427387904 by omega)]
    have hk':k<o.length:=by omega
    rw [List.getElem_map,xit hv hl (ho _ (List.getElem_mem hk')) known (by omega) b (by omega),obs]
    rw [show prfS plan l imp (memB known) ((toG o[k]).claim,(toG o[k]).rule)=prfS plan l imp (memB known) o[k] from rfl]
    cases hp:prfS plan l imp (memB known) o[k] with
    | none =>
      simp only [Option.isSome_none,Bool.not_false,cot]
      rw [yds (by simp;omega) (by simp;omega)]
      exact ⟨by simp,by simp;omega,by omega⟩
    | some p =>
      simp only [Option.isSome_some,Bool.not_true,cof]
      exact ⟨rfl,by omega,by simp;omega⟩
  have key:∀ (o:List Goal) (a:List Zj) (b:List Zg),(o.map toG).foldl (fun (s:List Zj×List Zg) t=>match prfS plan l imp (memB known) (t.claim,t.rule) with | some p=>(s.1,s.2++[toP p]) | none=>(s.1++[t],s.2)) (a,b)=(a++(o.filter fun g=>(prfS plan l imp (memB known) g).isNone).map toG,b++(o.filterMap (prfS plan l imp (memB known))).map toP):=by
    intro o
    induction o with
    | nil=>intro a b;simp
    | cons g o ih =>
      intro a b
      rw [List.map_cons,List.foldl_cons,List.filter_cons]
      show List.foldl _ (match prfS plan l imp (memB known) g with | some p=>(a,b++[toP p]) | none=>(a++[toG g],b)) _=_
      cases hp:prfS plan l imp (memB known) g with
      | none=>rw [List.filterMap_cons_none hp];dsimp only;rw [ih];simp
      | some p=>rw [List.filterMap_cons_some hp];dsimp only;rw [ih];simp
  rw [key,List.nil_append,List.map_append]
def solveBody (p0:List Zd) (p1:List Zb) (p2:ByteArray):(List Zj)×(List Zg)×(List Za)→Option (((List Zj)×(List Zg)×(List Za))⊕(Unit⊕(List Zg×Int))):=(fun (l13,l15,l19)=>Option.bind (loopF (S:=(List Zj)×Int×(List Zg)×(List Za)) (T:=((List Zj)×(List Zg)×(List Za))) (fun (l27,v30,l32,l36)=>cond (decide (v30<(l13.length:Int))) (Option.bind (Option.bind (idx l13 v30) (fun m68=>Option.bind (yfv m68 p0 p1 p2 l36 l32) (fun x70=>cond (!x70.1) (Option.bind (app 112 l27 [m68]) (fun l80=>some (l80,x70.2.2,x70.2.1))) (some (l27,x70.2.2,x70.2.1))))) (fun (l58,l62,l66)=>some (.inl (l58,(IntKind.i64.wrap (v30+1)),l62,l66)))) (some (.inr (l27,l32,l36)))) FUEL (([]:List Zj),0,l15,l19)) (fun (l42,l46,l50)=>cond (((l46.length:Nat):Int) == ((l15.length:Nat):Int)) (some (.inr (.inr (l46,(0:Int))))) (Option.bind (sub l46 ((l15.length:Nat):Int) (l46.length:Int)) (fun l85=>Option.bind (loopF (S:=Int×(List Za)) (T:=((List Za))) (fun (v86,l88)=>cond (decide (v86<((l46.length - ((l15.length:Nat):Int).toNat:Nat):Int))) (Option.bind (ge0 v86) (fun u100=>Option.bind (idx l46 (((l15.length:Nat):Int)+v86)) (fun m101=>Option.bind (app 16 l88 [m101.Claim]) (fun l105=>some (.inl ((IntKind.i64.wrap (v86+1)),l105)))))) (some (.inr l88))) FUEL (0,l50)) (fun l96=>some (.inl (l42,l46,l96)))))))
theorem xnf (a b:List Zg) (known:List Za) (h:a.length+b.length+known.length≤200000) {β:Type} (K:List Za→Option β) :
    Option.bind (loopF (S:=Int×(List Za)) (T:=((List Za))) (fun (v86,l88)=>cond (decide (v86<(((a++b).length - ((a.length:Nat):Int).toNat:Nat):Int))) (Option.bind (ge0 v86) (fun u100=>Option.bind (idx (a++b) (((a.length:Nat):Int)+v86)) (fun m101=>Option.bind (app 16 l88 [m101.Claim]) (fun l105=>some (.inl ((IntKind.i64.wrap (v86+1)),l105)))))) (some (.inr l88))) FUEL (0,known)) K=K (known++b.map (·.Claim)):=by
  have e:(a++b).length - ((a.length:Nat):Int).toNat=b.length:=by rw [List.length_append];omega
  rw [e]
  refine (ycp (l:=b) (by omega) (fun i (s:List Za)=>(i,s)) (fun s p=>s++[p.Claim]) (fun s=>s) (fun k s=>s.length≤known.length+k) known (Nat.le_refl _) (fun k hk s hs=>?_) (fun s _=>by simp only [yhb,cof])).1.trans ?_
  · simp only [dlt hk,cot,ycw hk (show b.length≤4611686018427387904 by omega)]
    rw [xmi (by omega),obs,show ((a.length:Nat):Int)+(k:Int)=((a.length+k:Nat):Int) by omega,yax (show a.length+k<(a++b).length by rw [List.length_append];omega),obs,yds (by simp;omega) (by simp;omega),obs]
    have e2:(a++b)[a.length+k]'(by rw [List.length_append];omega)=b[k]:=by rw [List.getElem_append_right (by omega)];congr 1;omega
    rw [e2]
    exact ⟨rfl,by simp;omega⟩
  have key:∀ (b:List Zg) (s:List Za),b.foldl (fun s p=>s++[p.Claim]) s=s++b.map (·.Claim):=by
    intro b
    induction b with
    | nil=>intro s;simp
    | cons p b ih=>intro s;rw [List.foldl_cons,ih];simp
  rw [key]
theorem ywv (ps:List Prf):(ps.map toP).map (·.Claim)=ps.map fun p:Prf=>p.1:=by rw [List.map_map];rfl
theorem yql {γ π:Type} (f:γ→Option π):∀ o:List γ,(o.filterMap f).length+(o.filter fun g=>(f g).isNone).length=o.length
 | []=>rfl
 | g::o=>by
  have ih:=yql f o
  rw [List.filter_cons]
  cases hf:f g with
  | some p=>rw [List.filterMap_cons_some hf];simp;omega
  | none=>rw [List.filterMap_cons_none hf];simp;omega
theorem xfb {plan:List Zd} {l:List Zb} (hv:VPs plan) (hl:VAs l) {imp:ByteArray}:∀ (n:Nat) (o:List Goal) (ps:List Prf) (N:Nat),o.length≤n→n<N→(∀ g∈o,g∈goalsS plan l imp)→ps.length+o.length≤64000 →
    loopF (solveBody plan l imp) N (o.map toG,ps.map toP,ps.map fun p:Prf=>p.1)=some (.inr ((rounds (fun p:Prf=>p.1) (prfS plan l imp) n o ps).map toP,0)):=by
  have step:∀ (o:List Goal) (ps:List Prf),(∀ g∈o,g∈goalsS plan l imp)→ps.length+o.length≤64000→solveBody plan l imp (o.map toG,ps.map toP,ps.map fun p:Prf=>p.1)=cond (o.filterMap (prfS plan l imp (memB (ps.map fun p:Prf=>p.1)))).isEmpty (some (.inr (.inr (ps.map toP,0))))
      (some (.inl ((o.filter fun g=>(prfS plan l imp (memB (ps.map fun p:Prf=>p.1)) g).isNone).map toG,(ps++o.filterMap (prfS plan l imp (memB (ps.map fun p:Prf=>p.1)))).map toP,(ps++o.filterMap (prfS plan l imp (memB (ps.map fun p:Prf=>p.1)))).map fun p:Prf=>p.1))):=by
    intro o ps ho hlen
    unfold solveBody
    refine (xiu hv hl o ho ps hlen _).trans ?_
    have hnl:=List.length_filterMap_le (prfS plan l imp (memB (ps.map fun p:Prf=>p.1))) o
    generalize o.filterMap (prfS plan l imp (memB (ps.map fun p:Prf=>p.1)))=new at hnl
    dsimp only
    rw [List.map_append]
    cases hn:new.isEmpty
    · have hne:new≠[]:=fun e=>by rw [e] at hn;cases hn
      have hpos:0<new.length:=List.length_pos_iff.2 hne
      rw [show ((((ps.map toP++new.map toP).length:Nat):Int) == (((ps.map toP).length:Nat):Int))=false from by rw [beq_eq_false_iff_ne];simp;omega]
      simp only [cof]
      rw [yqu (by simp) (Nat.le_refl _),obs,xnf _ _ _ (by simp;omega)]
      rw [ywv,← List.map_append,← List.map_append]
    have e:new=[]:=List.isEmpty_iff.1 hn
    subst e
    simp
  intro n
  induction n with
  | zero =>
    intro o ps N ho hN hg hlen
    obtain rfl:o=[]:=List.length_eq_zero_iff.1 (by omega)
    obtain ⟨N,rfl⟩:∃ m,N=m+1:=⟨N - 1,by omega⟩
    rw [rounds,yga,step [] ps hg hlen];rfl
  | succ n ih =>
    intro o ps N ho hN hg hlen
    obtain ⟨N,rfl⟩:∃ m,N=m+1:=⟨N - 1,by omega⟩
    rw [yga,step o ps hg hlen,rounds]
    cases he:(o.filterMap (prfS plan l imp (memB (ps.map fun p:Prf=>p.1)))).isEmpty
    · have h1:=ypr he
      have h2:=yql (prfS plan l imp (memB (ps.map fun p:Prf=>p.1))) o
      exact ih _ _ N (by omega) (by omega) (fun g hg'=>hg g (List.mem_filter.1 hg').1) (by rw [List.length_append];omega)
    rfl
theorem yyq {plan:List Zd} {l:List Zb} (hv:VPs plan) (hl:VAs l) {imp:ByteArray} (h1:ydy plan=some 0) (h2:ydz l=some 0) (h3:ycd imp=some true):ygp plan l imp=some ((solveS plan l imp).map toP,0):=by
 have hlen:=hv.len
 have hll:=hl.len
 have hg:=ywu plan l imp
 have hm:plan.length*l.length≤64*1000:=Nat.mul_le_mul hlen hll
 unfold ygp
 rw [h1,obs,h2,obs,h3,obs,xis hv hl,obs]
 simp only [bne_self_eq_false,cof,Bool.not_true]
 have key:=xfb hv hl (imp:=imp) (goalsS plan l imp).length (goalsS plan l imp) [] FUEL (Nat.le_refl _) (by have hf:FUEL=1267650600228229401496703205376:=rfl;omega) (fun g h=>h) (by simp;omega)
 exact (congrArg (fun o=>Option.bind o _) key).trans rfl
abbrev RSt:=(List Zg)×Bool×(List Za)
def rstep (s:RSt) (o:Option Prf):RSt:=match o with
 | some p=>(s.1++[toP p],true,insS ltClaim s.2.2 p.1)
 | none=>s
def rsteps (s:RSt) (new:List Prf):RSt:=(s.1++new.map toP,s.2.1 || !new.isEmpty,new.foldl (fun t p=>insS ltClaim t p.1) s.2.2)
theorem yyr {α:Type} (h:α→Option Prf):∀ (l:List α) (s:RSt),l.foldl (fun s a=>rstep s (h a)) s=rsteps s (l.filterMap h)
 | [],s=>by simp [rsteps]
 | a::l,s=>by
  rw [List.foldl_cons,yyr h l]
  cases ha:h a with
  | none=>rw [List.filterMap_cons_none ha];rfl
  | some p=>rw [List.filterMap_cons_some ha];simp [rsteps,rstep]
theorem xiv (s:RSt) (a b:List Prf):rsteps (rsteps s a) b=rsteps s (a++b):=by
 unfold rsteps
 rw [List.map_append,List.append_assoc,List.foldl_append]
 dsimp only
 congr 2
 cases a <;> cases b <;> cases s.2.1 <;> rfl
theorem xng (s:RSt) (o:Option Prf):(rstep s o).1.length≤s.1.length+1∧(rstep s o).2.2.length≤s.2.2.length+1:=by
 cases o with
 | none=>exact ⟨by show s.1.length≤_;omega,by show s.2.2.length≤_;omega⟩
 | some p=>exact ⟨by simp [rstep],yol _ _⟩
theorem yys (s:RSt):∀ (new:List Prf),(rsteps s new).1.length≤s.1.length+new.length∧(rsteps s new).2.2.length≤s.2.2.length+new.length:=by
 intro new
 refine ⟨by simp [rsteps],?_⟩
 show (new.foldl (fun t p=>insS ltClaim t p.1) s.2.2).length≤_
 generalize s.2.2=t
 induction new generalizing t with
 | nil=>simp
 | cons p new ih=>rw [List.foldl_cons,List.length_cons];have:=ih (insS ltClaim t p.1);have:=yol (lt:=ltClaim) t p.1;omega
theorem ref_one {plan:List Zd} {l:List Zb} (hv:VPs plan) (hl:VAs l) (ha:AscA l) (imp:ByteArray) (set:List Za) (hs:set.length≤1000000) {p:Zd} (hp:p∈plan) {a:Zb} (hal:a∈l) (s:RSt) (h1:s.1.length≤1000000) (h2:s.2.2.length≤1000000) {i j:Int} (hi:idx plan i=some p) (hj:idx l j=some a) :
    Option.bind (idx plan i) (fun m60=>Option.bind (idx l j) (fun m61=>Option.bind (yft set (⟨m60.ID,m61.ID⟩:Za)) (fun x63=>Option.bind (gd (!x63) (yfi plan l imp (⟨m60.ID,m61.ID⟩:Za))) (fun x64=>cond (x63||(!x64)) (some (s.1,s.2.1,s.2.2)) (Option.bind (yju plan l imp (⟨m60.ID,m61.ID⟩:Za) set) (fun x66=>Option.bind (idx l j) (fun m68=>Option.bind (idx plan i) (fun m69=>Option.bind (yii m68 m69.Code) (fun x70=>Option.bind (yku x70.1 x66.1) (fun x72=>cond x72.2 (Option.bind (app 64 s.1 [(⟨(⟨m60.ID,m61.ID⟩:Za),x72.1,x66.2⟩:Zg)]) (fun l76=>Option.bind (yho s.2.2 (⟨m60.ID,m61.ID⟩:Za)) (fun x80=>some (l76,true,x80)))) (some (s.1,s.2.1,s.2.2))))))))))))=some (rstep s (conS plan l imp (memB set) p a)):=by
  have hlen:=hv.len
  have hva:=hl.all a hal
  rw [hi,obs,hj,obs,ypp _ _ (by omega),obs,xlt _ _ _ _ (by omega) hl]
  unfold conS
  cases hm:memB set ⟨p.ID,a.ID⟩
  · rw [Bool.not_false,yee,obs]
    cases hc:admB plan l imp ⟨p.ID,a.ID⟩
    · rfl
    simp only [Bool.not_true,Bool.or_self,cof]
    obtain ⟨r,hr⟩:=xhb hv ha hp hal hc
    have hro:=yyl hva hr
    have hf:=xcs hc
    rw [ref_case hv hl imp _ set (by omega),obs,obs,obs,ysy _ _ hva.ok.len,obs,hr]
    unfold caseS
    rw [hc]
    simp only [cot]
    rw [show (opt2 zRule (some r)).1=r from rfl,show (some r).getD zRule=r from rfl,xfa (ytb hv imp _ _ hf) hro.2.1 hro.2.2,obs]
    unfold prfS
    dsimp only
    cases hw:wit (caseC plan l imp ⟨p.ID,a.ID⟩ (memB set)) r with
    | none=>rfl
    | some w =>
      show Option.bind (app 64 s.1 [_]) _=_
      rw [yds (by simp;omega) (by simp;omega),obs,xcj _ _ (by omega)];rfl
  rfl
theorem xnh {plan:List Zd} {l:List Zb} (hv:VPs plan) (hl:VAs l) (ha:AscA l) (imp:ByteArray) (set:List Za) (hs:set.length≤100000) (out:List Zg) (h1:out.length≤100000) {β:Type} (K:RSt→Option β) :
    Option.bind (loopF (S:=(List Zg)×Bool×(List Za)×Int) (T:=((List Zg)×Bool×(List Za))) (fun (l22,v25,l26,v27)=>cond (decide (v27<(plan.length:Int))) (Option.bind (loopF (S:=(List Zg)×Bool×(List Za)×Int) (T:=((List Zg)×Bool×(List Za))) (fun (l38,v41,l42,v43)=>cond (decide (v43<(l.length:Int))) (Option.bind (Option.bind (idx plan v27) (fun m60=>Option.bind (idx l v43) (fun m61=>Option.bind (yft set (⟨m60.ID,m61.ID⟩:Za)) (fun x63=>Option.bind (gd (!x63) (yfi plan l imp (⟨m60.ID,m61.ID⟩:Za))) (fun x64=>cond (x63||(!x64)) (some (l38,v41,l42)) (Option.bind (yju plan l imp (⟨m60.ID,m61.ID⟩:Za) set) (fun x66=>Option.bind (idx l v43) (fun m68=>Option.bind (idx plan v27) (fun m69=>Option.bind (yii m68 m69.Code) (fun x70=>Option.bind (yku x70.1 x66.1) (fun x72=>cond x72.2 (Option.bind (app 64 l38 [(⟨(⟨m60.ID,m61.ID⟩:Za),x72.1,x66.2⟩:Zg)]) (fun l76=>Option.bind (yho l42 (⟨m60.ID,m61.ID⟩:Za)) (fun x80=>some (l76,true,x80)))) (some (l38,v41,l42))))))))))))) (fun (l56,v57,l58)=>some (.inl (l56,v57,l58,(IntKind.i64.wrap (v43+1)))))) (some (.inr (l38,v41,l42)))) FUEL (l22,v25,l26,0)) (fun (l47,v48,l49)=>some (.inl (l47,v48,l49,(IntKind.i64.wrap (v27+1)))))) (some (.inr (l22,v25,l26)))) FUEL (out,false,set,0)) K =
      K (rsteps (out,false,set) (plan.flatMap fun p=>l.filterMap fun a=>conS plan l imp (memB set) p a)):=by
  have hlen:=hv.len
  have hll:=hl.len
  refine (ycp (l:=plan) (by omega) (fun i (s:RSt)=>(s.1,s.2.1,s.2.2,i)) (fun s p=>rsteps s (l.filterMap fun a=>conS plan l imp (memB set) p a)) (fun s=>(s.1,s.2.1,s.2.2)) (fun k s=>s.1.length≤out.length+1000*k∧s.2.2.length≤set.length+1000*k) (out,false,set) ⟨by simp,by simp⟩ (fun k hk s hs=>?_) (fun s _=>by simp only [yhb,cof])).1.trans ?_
  · obtain ⟨g1,g2⟩:=hs
    have hfl:=List.length_filterMap_le (fun a=>conS plan l imp (memB set) plan[k] a) l
    have hrl:=yys s (l.filterMap fun a=>conS plan l imp (memB set) plan[k] a)
    refine ⟨?_,by omega,by omega⟩
    simp only [dlt hk,cot,ycw hk (show plan.length≤4611686018427387904 by omega)]
    refine (ycp (l:=l) (by omega) (fun i (s:RSt)=>(s.1,s.2.1,s.2.2,i)) (fun s a=>rstep s (conS plan l imp (memB set) plan[k] a)) (fun s=>(s.1,s.2.1,s.2.2)) (fun j t=>t.1.length≤s.1.length+j∧t.2.2.length≤s.2.2.length+j) s ⟨Nat.le_refl _,Nat.le_refl _⟩ (fun j hj t ht=>?_) (fun t _=>by simp only [yhb,cof])).1.trans ?_
    · obtain ⟨t1,t2⟩:=ht
      have hst:=xng t (conS plan l imp (memB set) plan[k] l[j])
      refine ⟨?_,by omega,by omega⟩
      simp only [dlt hj,cot,ycw hj (show l.length≤4611686018427387904 by omega)]
      exact (congrArg (fun o=>Option.bind o _) (ref_one hv hl ha imp set (by omega) (List.getElem_mem hk) (List.getElem_mem hj) t (by omega) (by omega) (yax hk) (yax hj))).trans rfl
    rw [yyr (fun a=>conS plan l imp (memB set) plan[k] a)]
  have key:∀ (q:List Zd) (s:RSt),q.foldl (fun s p=>rsteps s (l.filterMap fun a=>conS plan l imp (memB set) p a)) s=rsteps s (q.flatMap fun p=>l.filterMap fun a=>conS plan l imp (memB set) p a):=by
    intro q
    induction q with
    | nil=>intro s;simp [rsteps]
    | cons p q ih=>intro s;rw [List.foldl_cons,ih,List.flatMap_cons,xiv]
  rw [key]
section
variable {γ δ π:Type} [DecidableEq δ] {gc:γ→δ} {cl:π→δ} {pv:(δ→Bool)→γ→Option π}
theorem xni (G:List γ) (ps:List π):(G.filter fun g => !memB (ps.map cl) (gc g)).filterMap (pv (memB (ps.map cl)))=G.filterMap fun g=>cond (memB (ps.map cl) (gc g)) none (pv (memB (ps.map cl)) g):=by
    generalize pv (memB (ps.map cl))=f
    generalize memB (ps.map cl)=m
    induction G with
    | nil=>rfl
    | cons g G ihG =>
      rw [List.filter_cons]
      cases hm:m (gc g)
      · simp only [Bool.not_false,if_true,List.filterMap_cons,ihG,hm,cof]
      simp only [Bool.not_true,Bool.false_eq_true,if_false,List.filterMap_cons,ihG,hm,cot]
theorem all_open (hcl:∀ S g p,pv S g=some p→cl p=gc g) {G:List γ} (inj:∀ g∈G,∀ g'∈G,gc g=gc g'→g=g') (ps:List π):((G.filter fun g => !memB (ps.map cl) (gc g)).filter fun g=>(pv (memB (ps.map cl)) g).isNone)=G.filter fun g => !memB ((ps++G.filterMap fun g=>cond (memB (ps.map cl) (gc g)) none (pv (memB (ps.map cl)) g)).map cl) (gc g):=by
    rw [List.filter_filter]
    refine List.filter_congr fun g hg=>?_
    cases hm:memB (ps.map cl) (gc g)
    · cases hp:pv (memB (ps.map cl)) g with
      | none =>
        cases hq:memB ((ps++G.filterMap fun g=>cond (memB (ps.map cl) (gc g)) none (pv (memB (ps.map cl)) g)).map cl) (gc g)
        · rfl
        · obtain ⟨p,k1,k2⟩:=yew.1 hq
          rcases List.mem_append.1 k1 with k1 | k1
          · rw [yew.2 ⟨p,k1,k2⟩] at hm;cases hm
          · obtain ⟨g',hg',he⟩:=List.mem_filterMap.1 k1
            cases hm':memB (ps.map cl) (gc g')
            · rw [hm'] at he
              have:=inj g' hg' g hg ((hcl _ _ _ he).symm.trans k2)
              subst this
              rw [cof,hp] at he;cases he
            · rw [hm'] at he;cases he
      | some p =>
        have:memB ((ps++G.filterMap fun g=>cond (memB (ps.map cl) (gc g)) none (pv (memB (ps.map cl)) g)).map cl) (gc g)=true:=yew.2 ⟨p,List.mem_append.2 (.inr (List.mem_filterMap.2 ⟨g,hg,by rw [hm];exact hp⟩)),hcl _ _ _ hp⟩
        rw [this];rfl
    have:memB ((ps++G.filterMap fun g=>cond (memB (ps.map cl) (gc g)) none (pv (memB (ps.map cl)) g)).map cl) (gc g)=true:=by
      obtain ⟨p,k1,k2⟩:=yew.1 hm
      exact yew.2 ⟨p,List.mem_append.2 (.inl k1),k2⟩
    rw [this]
    cases (pv (memB (ps.map cl)) g).isNone <;> rfl
end
theorem xiw {plan:List Zd} {l:List Zb} (hv:VPs plan) (hl:VAs l) (ha:AscA l) (imp:ByteArray) {body:(List Zg)×(List Za)×Bool→Option (((List Zg)×(List Za)×Bool)⊕(List Zg))}
    (hb:∀ (out:List Zg) (set:List Za) (more:Bool),out.length≤100000→set.length≤100000→body (out,set,more)=cond more (some (.inl ((rsteps (out,false,set) (plan.flatMap fun p=>l.filterMap fun a=>conS plan l imp (memB set) p a)).1,(rsteps (out,false,set) (plan.flatMap fun p=>l.filterMap fun a=>conS plan l imp (memB set) p a)).2.2,(rsteps (out,false,set) (plan.flatMap fun p=>l.filterMap fun a=>conS plan l imp (memB set) p a)).2.1))) (some (.inr out))) :
    ∀ (n:Nat) (ps:List Prf) (set:List Za) (N:Nat),((goalsS plan l imp).filter fun g => !memB (ps.map fun p:Prf=>p.1) g.1).length≤n→n+1<N→(∀ c,memB set c=memB (ps.map fun p:Prf=>p.1) c)→ps.length+((goalsS plan l imp).filter fun g => !memB (ps.map fun p:Prf=>p.1) g.1).length≤64000→set.length≤ps.length →
      loopF body N (ps.map toP,set,true)=some ((refRounds plan l imp n ps set).map toP):=by
  have hnewE:∀ (ps:List Prf) (set:List Za),(∀ c,memB set c=memB (ps.map fun p:Prf=>p.1) c)→(plan.flatMap fun p=>l.filterMap fun a=>conS plan l imp (memB set) p a)=((goalsS plan l imp).filter fun g => !memB (ps.map fun p:Prf=>p.1) g.1).filterMap (prfS plan l imp (memB (ps.map fun p:Prf=>p.1))):=by
    intro ps set hS
    have hSS:memB set=memB (ps.map fun p:Prf=>p.1):=funext hS
    rw [hSS,← yyo hv ha]
    exact (xni (gc:=fun g:Goal=>g.1) (cl:=fun p:Prf=>p.1) (pv:=prfS plan l imp) (goalsS plan l imp) ps).symm
  have hempty:∀ (ps:List Prf) (set:List Za) (N:Nat),ps.length≤64000→set.length≤ps.length→(plan.flatMap fun p=>l.filterMap fun a=>conS plan l imp (memB set) p a)=[]→loopF body (N+2) (ps.map toP,set,true)=some (ps.map toP):=by
    intro ps set N h1 h2 h
    have hm:(ps.map toP).length=ps.length:=List.length_map _
    rw [yga,hb _ _ _ (by omega) (by omega),h]
    have e:rsteps (ps.map toP,false,set) []=(ps.map toP,false,set):=by simp [rsteps]
    rw [e]
    show loopF body (N+1) (ps.map toP,set,false)=_
    rw [yga,hb _ _ _ (by omega) (by omega)];rfl
  intro n
  induction n with
  | zero =>
    intro ps set N ho hN hS hlen hset
    obtain ⟨N,rfl⟩:∃ m,N=m+2:=⟨N - 2,by omega⟩
    rw [refRounds]
    refine hempty ps set N (by omega) hset ?_
    rw [hnewE ps set hS,List.length_eq_zero_iff.1 (Nat.le_zero.1 ho)];rfl
  | succ n ih =>
    intro ps set N ho hN hS hlen hset
    obtain ⟨N,rfl⟩:∃ m,N=m+2:=⟨N - 2,by omega⟩
    rw [refRounds]
    cases he:(plan.flatMap fun p=>l.filterMap fun a=>conS plan l imp (memB set) p a).isEmpty
    · have hm:(ps.map toP).length=ps.length:=List.length_map _
      rw [yga,hb _ _ _ (by omega) (by omega)]
      have hn:=hnewE ps set hS
      have hrl:=yys (ps.map toP,false,set) (plan.flatMap fun p=>l.filterMap fun a=>conS plan l imp (memB set) p a)
      have hmem:=ytd (plan.flatMap fun p=>l.filterMap fun a=>conS plan l imp (memB set) p a) set
      rw [hn] at he hrl hmem ⊢
      have hsh:=ypr he
      have hsum:=yql (prfS plan l imp (memB (ps.map fun p:Prf=>p.1))) ((goalsS plan l imp).filter fun g => !memB (ps.map fun p:Prf=>p.1) g.1)
      have hop:=all_open (gc:=fun g:Goal=>g.1) (cl:=fun p:Prf=>p.1) (pv:=prfS plan l imp) (xmu plan l imp) (G:=goalsS plan l imp) (ywr (imp:=imp) hv ha) ps
      rw [hop,← xni (gc:=fun g:Goal=>g.1) (cl:=fun p:Prf=>p.1) (pv:=prfS plan l imp) (goalsS plan l imp) ps] at hsh hsum
      generalize ((goalsS plan l imp).filter fun g => !memB (ps.map fun p:Prf=>p.1) g.1).filterMap (prfS plan l imp (memB (ps.map fun p:Prf=>p.1)))=new at *
      have e:rsteps (ps.map toP,false,set) new=((ps++new).map toP,true,new.foldl (fun t p=>insS ltClaim t p.1) set):=by unfold rsteps;rw [he,List.map_append];rfl
      rw [e]
      rw [e] at hrl
      refine ih (ps++new) _ (N+1) (by omega) (by omega) (fun c=>?_) (by rw [List.length_append];omega) (by rw [List.length_append];exact Nat.le_trans hrl.2 (by dsimp only;omega))
      rw [hmem,hS,List.map_append]
      unfold memB;rw [List.any_append]
    exact hempty ps set N (by omega) hset (List.isEmpty_iff.1 he)
theorem xnj {plan:List Zd} {l:List Zb} (hv:VPs plan) (hl:VAs l) (ha:AscA l) {imp:ByteArray} (h1:yqb plan=some 0) (h2:yib l=some 0) (h3:ygs imp=some true):yrk plan l imp=some ((solveS plan l imp).map toP,0):=by
 have hlen:=hv.len
 have hll:=hl.len
 have hg:=ywu plan l imp
 have hm:plan.length*l.length≤64*1000:=Nat.mul_le_mul hlen hll
 unfold yrk
 rw [h1,obs,h2,obs,h3,obs]
 simp only [bne_self_eq_false,cof,Bool.not_true]
 have hfl:=List.length_filter_le (fun g:Goal => !memB (([]:List Prf).map fun p:Prf=>p.1) g.1) (goalsS plan l imp)
 refine (congrArg (fun o=>Option.bind o _) (xiw hv hl ha imp (fun out set more k1 k2=>?_) (goalsS plan l imp).length [] [] FUEL hfl (by have hf:FUEL=1267650600228229401496703205376:=rfl;omega) (fun c=>rfl) (by simp only [List.length_nil];omega) (Nat.le_refl _))).trans ?_
 ·cases more
  ·rfl
  exact (xnh hv hl ha imp set k2 out k1 _).trans rfl
 show some ((refRounds plan l imp (goalsS plan l imp).length [] []).map toP,(0:Int))=_
 rw [ywt hv ha]
theorem ynn {α T:Type}:∀ (m:List α) (i:Nat),findS (fun (_:Nat) (_:α)=>(none:Option T)) m i=none
 | [],_=>rfl
 | _::m,i=>ynn m (i+1)
theorem xnk (l:List Zd) (x:Zf) (hl:l.length≤140737488355328):ybr l (fun y=>ycj y x)=some (findP l x.Product).isSome:=by
 unfold ybr
 have e:ybw l (fun y=>ycj y x)=some (match findS (fun k p=>cond (p.ID == x.Product) (some (Sum.inr (k:Int):Unit⊕Int)) none) l 0 with | some (.inr k)=>k | _ => -1):=by
  unfold ybw
  refine (ybz (l:=l) (by omega) (fun k (p:Zd)=>cond (p.ID == x.Product) (some (.inr (k:Int))) none) (.inl ()) (fun k hk=>?_) (by simp only [yhb,cof])).trans ?_
  ·simp only [dlt hk,cot,yax hk,obs,ycw hk (show l.length≤4611686018427387904 by omega)]
   unfold ycj
   rw [obs];cases (l[k].ID == x.Product) <;> rfl
  cases findS (fun k (p:Zd)=>cond (p.ID == x.Product) (some (Sum.inr (k:Int):Unit⊕Int)) none) l 0 with
  | none=>rfl
  | some t=>cases t <;> rfl
 rw [e,obs]
 unfold findP
 rcases yqg (fun p:Zd=>p.ID == x.Product) (fun k=>(Sum.inr (k:Int):Unit⊕Int)) l 0 with ⟨h1,h2⟩ | ⟨j,hj,h1,h2⟩
 ·rw [h1,h2];rfl
 rw [h1,h2]
 show some (decide (0≤((0+j:Nat):Int)))=_
 rw [det (by omega)];rfl
structure VIds (l:List Zd):Prop where
 id:∀ p∈l,1≤p.ID∧p.ID≤1000000
 lvl:∀ p∈l,level p.Code=6∨level p.Code=8
theorem xak {α:Type} {f:α→Int} {l:List α} (h:l.Pairwise fun a b=>f a<f b) {k:Nat} (h0:0<k) (hk:k<l.length):f (l[k - 1]'(by omega))<f l[k]:=List.pairwise_iff_getElem.1 h (k - 1) k (by omega) hk (by omega)
theorem xfc {plan:List Zd} (hv:VPs plan) {p:Zd} (hp:VProd plan p):yda plan p.Inputs=some 0:=by
 unfold yda
 have hlen:=hv.len
 have hfew:=hp.few
 refine (ybz (l:=p.Inputs) (by omega) (fun _ _=>none) (.inl ()) (fun k hk=>?_) (by simp only [yhb,cof])).trans ?_
 ·have hin:=hp.inp _ (List.getElem_mem hk)
  simp only [dlt hk,cot,yax hk,obs,ycw hk (show p.Inputs.length≤4611686018427387904 by omega),d0k]
  rw [xnk _ _ (by omega),hin.1,ydl (show ¬ p.Inputs[k].Value<0 by omega),ydl (show ¬ 1000000000000<p.Inputs[k].Value by omega)]
  by_cases h0:0<k
  ·have hlt:=xak hp.asc h0 hk
   rw [det h0,yee,ygz h0 hk (by omega),obs,ydl (by omega)];rfl
  rw [ydl h0];rfl
 rw [ynn];rfl
theorem xdb {plan:List Zd} {p:Zd} (hp:VProd plan p) (hl:level p.Code=6∨level p.Code=8) (hw:StrsOk p.Processes):ycy p=some 0:=by
 unfold ycy
 show Option.bind (some (level p.Code)) _=_
 have hne:((level p.Code != 6)&&(level p.Code != 8))=false:=by rcases hl with h | h <;> rw [h] <;> rfl
 have hfew:=hp.few
 have hpr:=hp.price
 rw [obs,hne,Bool.not_false,yee,yky,hp.ctr,obs,Bool.not_true,Bool.or_self,Bool.not_false,yee,ysw _ hw,hp.proc,obs]
 simp only [Bool.not_true,Bool.or_self,cof]
 rw [ydl (show ¬ p.Price<1 by omega),ydl (show ¬ 1000000000000<p.Price by omega),ydl (show ¬ 8<(p.Inputs.length:Int) by omega)]
 simp only [Bool.or_self,cof]
 cases ho:p.Obtained
 ·rfl
 rw [hp.obt ho];rfl
theorem xdc {plan:List Zd} {p:Zd} (hp:VProd plan p):StrsOk p.Processes:=by
 obtain ⟨h1,h2,_⟩:=ykf hp.proc
 exact ⟨by omega,fun s hs=>by have:=yyj (h2 s hs);omega⟩
theorem yyt {plan:List Zd} (hv:VPs plan) (hi:VIds plan):ydy plan=some 0:=by
 unfold ydy
 have hlen:=hv.len
 rw [ydl (by omega),cof]
 refine (ybz (l:=plan) (by omega) (fun _ _=>none) (.inl ()) (fun k hk=>?_) (by simp only [yhb,cof])).trans ?_
 ·have hm:=List.getElem_mem hk
  have hp:=hv.all _ hm
  have hid:=hi.id _ hm
  simp only [dlt hk,cot,yax hk,obs,ycw hk (show plan.length≤4611686018427387904 by omega),d0k]
  rw [ydl (show ¬ plan[k].ID<1 by omega),ydl (show ¬ 1000000<plan[k].ID by omega),xdb hp (hi.lvl _ hm) (xdc hp),xfc hv hp]
  by_cases h0:0<k
  ·have hlt:=xak hv.asc h0 hk
   rw [det h0,yee,ygz h0 hk (by omega),obs,ydl (by omega)];rfl
  rw [ydl h0];rfl
 rw [ynn];rfl
theorem MPs.vids {l:List Zd} (h:MPs l):VIds l:=by
 have hlen:=h.len
 refine ⟨fun p hp=>?_,fun p hp=>?_⟩
 ·obtain ⟨i,hi,rfl⟩:=List.getElem_of_mem hp
  have:=(h.all i _ (List.getElem?_eq_getElem hi)).id;omega
 obtain ⟨i,hi,rfl⟩:=List.getElem_of_mem hp
 exact (h.all i _ (List.getElem?_eq_getElem hi)).lvl.1
theorem xnl (l:List ByteArray) (hl:StrsOk l):yri l=some (wordsB l):=by
 obtain ⟨hl,hs⟩:=hl
 unfold yri wordsB
 refine (ybz (l:=l) (by omega) (fun k x=>cond (okAt wordB l k x) none (some (.inr false))) (.inl ()) (fun k hk=>?_) (by simp only [yhb,cof])).trans ?_
 ·have h62:l.length≤4611686018427387904:=by omega
  simp only [dlt hk,cot,yax hk,obs,xgh _ (hs _ (List.getElem_mem hk)),d0k,ycw hk h62,okAt]
  cases hw:wordB l[k]
  ·rfl
  by_cases h0:0<k
  ·simp only [h0,decide_true,Bool.not_true,Bool.not_false,Bool.and_true,Bool.true_and,Bool.false_or,yee,ygz h0 hk h62,obs,yfs (show k - 1<l.length by omega),ltS]
   cases Op.bytesLess (l[k-1]'(by omega)).toList l[k].toList <;> rfl
  simp only [h0,decide_false,Bool.and_false,ymw,obs,Bool.not_true,Bool.false_or,Bool.false_and,cof,Bool.not_false,Bool.true_and,Bool.true_or,Bool.or_false];rfl
 rw [ynj]
 have i2:decide ((l.length:Int)≤(8:Int))=decide (l.length≤8):=decide_eq_decide.2 (by omega)
 cases (l.all wordB&&ascB ltS l)
 ·simp
 simp [i2]
theorem level_le {s:ByteArray} (h:level s=6∨level s=8):s.size≤8:=by
 unfold level at h
 split at h
 ·omega
 omega
theorem xnm {plan:List Zd} (hv:VPs plan) (hi:VIds plan):yqb plan=some 0:=by
 unfold yqb
 have hlen:=hv.len
 rw [ydl (by omega),cof]
 refine (ybz (l:=plan) (by omega) (fun _ _=>none) (.inl ()) (fun k hk=>?_) (by simp only [yhb,cof])).trans ?_
 ·have hm:=List.getElem_mem hk
  have hp:=hv.all _ hm
  have hid:=hi.id _ hm
  have hl:=hi.lvl _ hm
  have hls:=level_le hl
  have hfew:=hp.few
  have hpr:=hp.price
  simp only [dlt hk,cot,yax hk,obs,ycw hk (show plan.length≤4611686018427387904 by omega),d0k]
  rw [ydl (show ¬ plan[k].ID<1 by omega),ydl (show ¬ 1000000<plan[k].ID by omega),yvy _ (by omega),yrm,xnl _ (xdc hp),hp.ctr,hp.proc]
  have hlv:decide (level plan[k].Code<6)=false:=ydl (by omega)
  have tail:∀ {β:Type} (K:Unit⊕(Int⊕(Unit⊕Int))→Option β),Option.bind (loopF (S:=Int) (T:=(Unit)⊕(Int⊕(Unit⊕Int))) (fun v18=>cond (decide (v18<(plan[k].Inputs.length:Int))) (Option.bind (gd (decide (0<v18)) (idx plan[k].Inputs v18)) (fun m22=>Option.bind (gd (decide (0<v18)) (idx plan[k].Inputs (IntKind.i64.wrap (v18 - 1)))) (fun m23=>cond ((decide (0<v18))&&(decide (m22.Product≤m23.Product))) (some (.inr (.inr (.inr (.inr 9))))) (Option.bind (idx plan[k].Inputs v18) (fun m25=>Option.bind (yhn plan m25.Product) (fun x26=>cond (!x26.2) (some (.inr (.inr (.inr (.inr 6))))) (Option.bind (idx plan[k].Inputs v18) (fun m29=>Option.bind (gd (!(decide (m29.Value<0))) (idx plan[k].Inputs v18)) (fun m30=>cond ((decide (m29.Value<0))||(decide (1000000000000<m30.Value))) (some (.inr (.inr (.inr (.inr 2))))) (some (.inl (IntKind.i64.wrap (v18+1))))))))))))) (some (.inr (.inl ())))) FUEL 0) K=K (.inl ()):=by
   intro β K
   refine (ybz (l:=plan[k].Inputs) (by omega) (fun _ _=>none) (.inl ()) (fun j hj=>?_) (by simp only [yhb,cof])).trans ?_
   ·have hin:=hp.inp _ (List.getElem_mem hj)
    simp only [dlt hj,cot,yax hj,obs,ycw hj (show plan[k].Inputs.length≤4611686018427387904 by omega),d0k]
    rw [ywm hv,obs,hin.1,ydl (show ¬ plan[k].Inputs[j].Value<0 by omega),Bool.not_false,yee,obs,ydl (show ¬ 1000000000000<plan[k].Inputs[j].Value by omega)]
    by_cases h0:0<j
    ·have hlt:=xak hp.asc h0 hj
     rw [det h0,yee,yee,obs,ygz h0 hj (by omega),obs,ydl (by omega)];rfl
    rw [ydl h0];rfl
   rw [ynn];rfl
  by_cases h0:0<k
  ·have hlt:=xak hv.asc h0 hk
   rw [det h0,yee,ygz h0 hk (by omega),obs,ydl (show ¬ plan[k].ID≤(plan[k - 1]'(by omega)).ID by omega)]
   simp only [Bool.or_self,cof,Bool.and_false,obs,hlv,Bool.not_false,yee,Bool.not_true]
   rw [ydl (show ¬ plan[k].Price<1 by omega),ydl (show ¬ 1000000000000<plan[k].Price by omega),ydl (show ¬ 8<(plan[k].Inputs.length:Int) by omega)]
   have hob:(plan[k].Obtained&&decide (0<plan[k].Inputs.length))=false:=by
    cases ho:plan[k].Obtained
    ·rfl
    rw [hp.obt ho];rfl
   rw [hob]
   simp only [Bool.or_self,cof]
   exact (tail _).trans rfl
  rw [ydl h0,ymw,obs]
  simp only [Bool.or_self,cof,Bool.false_and,obs,hlv,Bool.not_false,yee,Bool.not_true]
  rw [ydl (show ¬ plan[k].Price<1 by omega),ydl (show ¬ 1000000000000<plan[k].Price by omega),ydl (show ¬ 8<(plan[k].Inputs.length:Int) by omega)]
  have hob:(plan[k].Obtained&&decide (0<plan[k].Inputs.length))=false:=by
   cases ho:plan[k].Obtained
   ·rfl
   rw [hp.obt ho];rfl
  rw [hob]
  simp only [Bool.or_self,cof]
  exact (tail _).trans rfl
 rw [ynn];rfl
theorem awake15:yls=some true:=by kernel_rfl
theorem xix {p:List Zd} {l:List Zb} {imp:ByteArray} (h1:MPs p) (h2:MAs l) (h3:imp∈C6):ygp p l imp=some ((solveS p l imp).map toP,0)∧yrk p l imp=some ((solveS p l imp).map toP,0):=by
 have hv:=h1.vps
 refine ⟨yyq hv h2.vas (yyt hv h1.vids) ?_ ?_,xnj hv h2.vas h2.asc (xnm hv h1.vids) ?_ ?_⟩
 ·rw [xgj l h2.ok,h2.valid]
 ·rw [yky,C6_ctry h3]
 ·rw [ref_agr l h2.ok,h2.valid]
 rw [yrm,C6_ctry h3]
theorem yww {plan:List Zd} {l:List Zb} (hv:VPs plan) (hl:VAs l) (ha:AscA l) (imp:ByteArray):(solveS plan l imp).length≤64000∧∀ p∈solveS plan l imp,p.2.1.length≤1000∧p.2.2.length≤64:=by
 have hg:=ywu plan l imp
 have hm:plan.length*l.length≤64*1000:=Nat.mul_le_mul hv.len hl.len
 have key:∀ (n:Nat) (o:List Goal) (ps:List Prf),(∀ g∈o,g∈goalsS plan l imp)→(∀ p∈ps,p.2.1.length≤1000∧p.2.2.length≤64)→(rounds (fun p:Prf=>p.1) (prfS plan l imp) n o ps).length≤ps.length+o.length∧∀ p∈rounds (fun p:Prf=>p.1) (prfS plan l imp) n o ps,p.2.1.length≤1000∧p.2.2.length≤64:=by
  intro n
  induction n with
  | zero=>intro o ps _ h;exact ⟨by rw [rounds];omega,by rw [rounds];exact h⟩
  | succ n ih =>
   intro o ps ho h
   rw [rounds]
   have hs:=yql (prfS plan l imp (memB (ps.map fun p:Prf=>p.1))) o
   cases (o.filterMap (prfS plan l imp (memB (ps.map fun p:Prf=>p.1)))).isEmpty
   ·obtain ⟨i1,i2⟩:=ih (o.filter fun g=>(prfS plan l imp (memB (ps.map fun p:Prf=>p.1)) g).isNone) (ps++o.filterMap (prfS plan l imp (memB (ps.map fun p:Prf=>p.1)))) (fun g hg=>ho g (List.mem_filter.1 hg).1) (fun p hp=>by
     rcases List.mem_append.1 hp with hp | hp
     ·exact h p hp
     obtain ⟨g,k1,k2⟩:=List.mem_filterMap.1 hp
     have hr:=ysk hl (ho g k1)
     unfold prfS at k2
     cases hw:wit (caseC plan l imp g.1 (memB (ps.map fun p:Prf=>p.1))) g.2 with
     | none=>rw [hw] at k2;cases k2
     | some w =>
      rw [hw,Option.map_some] at k2
      injection k2 with k2
      subst k2
      exact ⟨by have:=ywp _ _ w hw;dsimp only;omega,prem_len hv imp g.1 _ (yqk (ho g k1)).2⟩)
    exact ⟨by rw [List.length_append] at i1;simp only [cof];omega,i2⟩
   ·exact ⟨by simp only [cot];omega,h⟩
 obtain ⟨k1,k2⟩:=key (goalsS plan l imp).length (goalsS plan l imp) [] (fun g h=>h) (fun p hp=>by cases hp)
 exact ⟨by unfold solveS;simp only [List.length_nil] at k1;omega,k2⟩
theorem prog_Has (l:List Zg) (c:Za) (hl:l.length≤140737488355328):yik l c=some (memB (l.map (·.Claim)) c):=by
 unfold yik ybt
 have e:ybl l (fun y=>yka y c)=some (match findS (fun k (p:Zg)=>cond (Za.eqb p.Claim c) (some (Sum.inr (k:Int):Unit⊕Int)) none) l 0 with | some (.inr k)=>k | _ => -1):=by
  unfold ybl
  refine (ybz (l:=l) (by omega) (fun k (p:Zg)=>cond (Za.eqb p.Claim c) (some (.inr (k:Int))) none) (.inl ()) (fun k hk=>?_) (by simp only [yhb,cof])).trans ?_
  ·simp only [dlt hk,cot,yax hk,obs,ycw hk (show l.length≤4611686018427387904 by omega)]
   unfold yka
   rw [obs];cases (Za.eqb l[k].Claim c) <;> rfl
  cases findS (fun k (p:Zg)=>cond (Za.eqb p.Claim c) (some (Sum.inr (k:Int):Unit⊕Int)) none) l 0 with
  | none=>rfl
  | some t=>cases t <;> rfl
 rw [e,obs,obs]
 rcases yqg (fun p:Zg=>Za.eqb p.Claim c) (fun k=>(Sum.inr (k:Int):Unit⊕Int)) l 0 with ⟨h1,h2⟩ | ⟨j,hj,h1,h2⟩
 ·rw [h1]
  have:memB (l.map (·.Claim)) c=false:=by
   rw [yqi,List.mem_map]
   rintro ⟨p,hp,rfl⟩
   exact List.find?_eq_none.1 h2 p hp (Za.eqb_iff.2 rfl)
  rw [this];rfl
 rw [h1]
 have:memB (l.map (·.Claim)) c=true:=by
  rw [ymk,List.mem_map]
  have:=List.find?_some h2
  exact ⟨l[j],List.getElem_mem hj,Za.eqb_iff.1 this⟩
 rw [this]
 show some (decide (0≤((0+j:Nat):Int)))=_
 rw [det (by omega)]
theorem xnn {plan:List Zd} {l:List Zb} (hv:VPs plan) (hl:VAs l) (ha:AscA l) (imp:ByteArray) (c:Za):yik ((solveS plan l imp).map toP) c=some (provedS plan l imp c):=by
 have h:=(yww hv hl ha imp).1
 rw [prog_Has _ _ (by rw [List.length_map];omega),ywv];rfl



structure POk (p:Zd):Prop where
 code:p.Code.size≤140737488355328
 proc:StrsOk p.Processes
 len:p.Inputs.length≤140737488355328
structure PSOk (l:List Zd):Prop where
 len:l.length≤140737488355328
 all:∀ p∈l,POk p
theorem yyu {α:Type} (g:Nat→α→Option Int) (hg:∀ k x,g k x≠some 0):∀ (l:List α) (i:Nat),(findS g l i).getD 0=0→findS g l i=none
 | [],_,_=>rfl
 | x::l,i,e=>by
  rw [findS] at e ⊢
  cases hx:g i x with
  | some t =>
   rw [hx] at e
   have:t=0:=e
   subst this
   exact absurd hx (hg i x)
  | none=>rw [hx] at e;exact yyu g hg l (i+1) e
theorem gAgr_nz (l:List Zb) (k:Nat) (a:Zb):gAgr l k a≠some 0:=by
 unfold gAgr
 cases (decide (a.ID<1)||decide (1000<a.ID)||decide (a.Kind<1)||decide (3<a.Kind))
 ·cases (decide (0<k)&&decide (a.ID≤(l.getD (k - 1) a).ID))
  ·cases (decide (12<a.Parties.length)||decide (12<a.Rules.length))
   ·cases partiesB a.Parties
    ·simp
    cases hy:(rulesE a.Rules == 0)
    ·simp only [cof,cot];intro h;injection h with h;rw [h] at hy;cases hy
    simp
   simp
  simp
 simp
def uIn (id pid:Int) (acc:List Int) (x:Zf):List Int:=cond (x.Product == id) (acc++[pid]) acc
def usersS (plan:List Zd) (id:Int):List Int:=plan.foldl (fun acc p=>p.Inputs.foldl (uIn id p.ID) acc) []
def hitB (plan:List Zd) (id:Int) (r:List Bool) (m:Nat) (u:List Int):Bool:=match plan[m]? with
 | none=>false
 | some p=>((p.ID == id)||r.getD m false)&&u.any fun x=>x == p.ID
def falses (r:List Bool):Nat:=(r.filter fun b => !b).length
structure PassI (plan:List Zd) (id:Int) (r:List Bool) (k:Nat) (r':List Bool) (ag:Bool):Prop where
 len:r'.length=plan.length
 le:k≤plan.length
 no:ag=false→r'=r∧∀ i,i<k→∀ p,plan[i]?=some p→r.getD i false=true∨∀ m,hitB plan id r m (usersS plan p.ID)=false
 yes:ag=true→falses r'<falses r
theorem VIds.sub {l m:List Zd} (h:VIds l) (hs:∀ p∈m,p∈l):VIds m:=⟨fun p hp=>h.id p (hs p hp),fun p hp=>h.lvl p (hs p hp)⟩
theorem xdd {α T:Type} (g:Nat→α→Option T):∀ (l m:List α) (i:Nat),findS g l i=none→findS g (l++m) i=findS g m (i+l.length)
 | [],m,i,_=>by simp
 | x::l,m,i,e=>by
  rw [findS] at e
  rw [List.cons_append,findS]
  cases hg:g i x with
  | some t=>rw [hg] at e;cases e
  | none=>rw [hg] at e;dsimp only;rw [xdd g l m (i+1) e,List.length_cons,show i+1+l.length=i+(l.length+1) by omega]
theorem xde {α T:Type} {g h:Nat→α→Option T}:∀ (l:List α) (i:Nat),(∀ k,(hk:k<l.length)→g (i+k) l[k]=h (i+k) l[k])→findS g l i=findS h l i
 | [],_,_=>rfl
 | x::l,i,e=>by
  have e0:g i x=h i x:=e 0 (by simp)
  have er:findS g l (i+1)=findS h l (i+1):=xde l (i+1) fun k hk=>by
   have e2:=e (k+1) (by simpa using hk)
   have e3:i+(k+1)=i+1+k:=by omega
   rw [e3] at e2
   simpa using e2
  rw [findS,findS,e0]
  cases h i x with
  | some t=>rfl
  | none=>exact er
theorem agr_more {l:List Zb} (h:MAs l) {b:Zb} {i:Nat} (hb:MA i b) {c:Zb} (hc:c=⟨999,b.Kind,b.Parties,b.Rules⟩):agrE (l++[c])=0∧VAs (l++[c])∧AscA (l++[c])∧ASOk (l++[c]):=by
 have hl:=h.len
 have hcp:c.Parties=b.Parties:=by rw [hc]
 have hcr:c.Rules=b.Rules:=by rw [hc]
 have hci:c.ID=999:=by rw [hc]
 have hck:c.Kind=b.Kind:=by rw [hc]
 have hvc:VA c:=⟨⟨by rw [hcp];exact hb.aok.par,by rw [hcr];exact hb.aok.len,by rw [hcr];exact hb.aok.rules⟩,by rw [hcr];exact hb.va.rules,by rw [hcr,hcp];exact hb.va.len⟩
 have hid:∀ a∈l,a.ID≤17:=fun a ha=>by
  obtain ⟨j,hj,rfl⟩:=List.getElem_of_mem ha
  have:=(h.all j _ (List.getElem?_eq_getElem hj)).id;omega
 refine ⟨?_,⟨by simp;omega,fun a ha=>?_⟩,?_,⟨by simp;omega,fun a ha=>?_⟩⟩
 ·have hz:=h.valid
  unfold agrE at hz ⊢
  rw [det (by omega),cot] at hz
  rw [det (by simp;omega),cot]
  have hn:=yyu _ (gAgr_nz l) l 0 hz
  have e1:findS (gAgr (l++[c])) l 0=findS (gAgr l) l 0:=xde l 0 fun k hk=>by
   unfold gAgr
   rw [Nat.zero_add]
   by_cases h0:0<k
   ·rw [yfs (show k - 1<(l++[c]).length by simp;omega),yfs (show k - 1<l.length by omega),List.getElem_append_left (by omega)]
   rw [ydl h0];rfl
  rw [xdd _ _ _ _ (e1.trans hn),Nat.zero_add,findS]
  have hg:gAgr (l++[c]) l.length c=none:=by
   unfold gAgr
   rw [hci,hck,hcp,hcr,yfs (show l.length - 1<(l++[c]).length by simp;omega),List.getElem_append_left (by omega),hb.parties,hb.rulesE]
   have hk:=hb.kind
   have h17:=hid _ (List.getElem_mem (show l.length - 1<l.length by omega))
   have hlen:=hb.va.len
   rw [ydl (show ¬ (999:Int)<1 by omega),ydl (show ¬ (1000:Int)<999 by omega),ydl (show ¬ b.Kind<1 by omega),ydl (show ¬ 3<b.Kind by omega),ydl (show ¬ (999:Int)≤(l[l.length - 1]'(by omega)).ID by omega),ydl (show ¬ 12<b.Parties.length by omega),ydl (show ¬ 12<b.Rules.length by omega)]
   simp
  rw [hg];rfl
 ·rcases List.mem_append.1 ha with ha | ha
  ·exact h.vas.all a ha
  rw [List.mem_singleton.1 ha];exact hvc
 ·unfold AscA
  rw [List.pairwise_append]
  refine ⟨h.asc,List.pairwise_singleton _ _,fun a ha x hx=>?_⟩
  rw [List.mem_singleton.1 hx,hci]
  have:=hid a ha;omega
 rcases List.mem_append.1 ha with ha | ha
 ·exact h.ok.all a ha
 rw [List.mem_singleton.1 ha];exact hvc.ok
theorem yno (m0 m1 m2:List Int) (m3:Int) {κ:Kr} {v0 v1 v2 v3:List Value} (_:Rps κ (eL eI m0) v0) (_:Rps κ (eL eI m1) v1) (_:Rps κ (eL eI m2) v2) (_:Rps κ (eI m3) v3):ydq m0 m1 m2 m3=some true:=by
 unfold ydq
 obtain ⟨p,e1,h1⟩:=plan_Y m0
 obtain ⟨l,e2,h2⟩:=yti m1
 obtain ⟨imp,e4,h4⟩:=xig m3
 obtain ⟨bs,e3,h3⟩:=yti m2
 rw [e1,obs,e2,obs,e4,obs,e3,obs]
 have hp:=h1.len;have hl:=h2.len;have hbl:=h3.len
 have hv:=h1.vps
 have h0:idx bs 0=some (bs[0]'(by omega)):=yax (show 0<bs.length by omega)
 rw [h0,obs]
 obtain ⟨s1,_⟩:=xix h1 h2 h4
 obtain ⟨a1,a2,a3,a4⟩:=agr_more h2 (h3.all 0 _ (List.getElem?_eq_getElem (by omega))) rfl
 rw [s1,obs,yds (by simp;omega) (by simp;omega),obs,List.nil_append,yds (by simp;omega) (by simp;omega),obs]
 have s2:=yyq (imp:=imp) hv a2 (yyt hv h1.vids) (by rw [xgj _ a4,a1]) (by rw [yky,C6_ctry h4])
 rw [s2,obs]
 have hlen:=(yww hv h2.vas h2.asc imp).1
 refine (ybz (l:=(solveS p l imp).map toP) (by rw [List.length_map];omega) (fun _ _=>none) (.inl ()) (fun k hk=>?_) (by simp only [yhb,cof])).trans ?_
 ·simp only [dlt hk,cot,yax hk,obs,ycw hk (show ((solveS p l imp).map toP).length≤4611686018427387904 by rw [List.length_map];omega)]
  have hpr:provedS p l imp ((solveS p l imp).map toP)[k].Claim=true:=by
   unfold provedS
   rw [ymk,← ywv]
   exact List.mem_map_of_mem (List.getElem_mem hk)
  rw [xnn hv a2 a3,obs,more_le hv h2.vas h2.asc a2 a3 imp _ hpr]
  rfl
 rw [ynn]
 show Option.bind (gd (((0:Int) == 0)&&((0:Int) == 0)) yls) _=_
 rw [show (((0:Int) == 0)&&((0:Int) == 0))=true from rfl,yee,awake15];rfl
theorem op3 {H:Type} {eh:TypeId×Value→H}:Opens eh 3 eI:=xlm rfl
theorem op22 {H:Type} {eh:TypeId×Value→H}:Opens eh 22 (eL eI):=xek rfl rfl rfl rfl op3
end SX
end Go.Proofs.YtoccohlbjnoeoaaGreatDoor
set_option maxRecDepth 100000
namespace Go.Proofs.YtoccohlbjnoeoaaGreatDoor
open Go Go.ChangeShapes Go.WideShapes Go.RowKit
open SX
theorem originMoreAgreements_lifted (os:Os) (started:os.Started) (H:Type) (enc:TypeId×Value→H) :
    ReturnsInHanded {} Tryz.checked os 8 .any (fun w args=>(Rows.originMoreAgreementsSpec.pre enc Tryz.prog Tryz.f8 [] false w args∧laidMetH Tryz.prog laidL w)∧sizedMet enc Tryz.prog Tryz.f8 (OpenSpec.ofChange Rows.originMoreAgreementsSpec) false w args)
      (Rows.originMoreAgreementsSpec.post enc Tryz.prog Tryz.f8 false true false false):=by
  refine returnsInHanded_of_change_and (C:=Tryz.checked) (X:=fun w _=>laidMetH Tryz.prog laidL w) (fun _ _ _ hh h=>h.of_heap hh) own_ok started (by kernel_rfl) Tryz.func8
    (ChangeSpec.witness_at (enc:=enc) (C:=Tryz.checked) (os:=os) (X:=fun w _=>laidMetH Tryz.prog laidL w) false (laidWorld os) #[.slice none 0 0,.slice none 0 0,.slice none 0 0,.int .i64 0] 8 rfl (by kernel_rfl) (by kernel_rfl) (by kernel_rfl) (by kernel_rfl) (by kernel_rfl) (yzx os _)) ?_
  intro W base args ds gs before hval0 hW _ hwt hL _
  have hval:∀ (j:Nat) t v,Tryz.f8.params[j]?=some t→args[j]?=some v→Value.okWide Tryz.prog W .any base t v:=hval0
  have hW2:=hW
  obtain ⟨p,q,hA0,hV0,rfl,_,_⟩:=hW
  have hA:DataW.TrodAll enc Tryz.prog W 0 (fun _=>true) true [22,22,22,3] args.toList ds p:=hA0
  obtain ⟨rfl,rfl⟩:gs=[]∧q=[]:=by
    cases gs with
    | nil=>exact ⟨rfl,hV0⟩
    | cons g r=>exact absurd hV0 (by intro h;cases h)
  generalize hargs:args.toList=vs at hA
  have hval2:∀ (j:Nat) t v,[22,22,22,3][j]?=some t→vs[j]?=some v→Value.okWide Tryz.prog W .any base t v:=fun j t v h1 h2=>hval j t v (by rw [Tryz.params8];simpa using h1) (by rw [← hargs] at h2;simpa using h2)
  obtain ⟨v0,vs0,d0,ds0,p0,q0,rfl,rfl,h0,hA⟩:=SX.trodAll_cons hA
  obtain ⟨v1,vs1,d1,ds1,p1,q1,rfl,rfl,h1,hA⟩:=SX.trodAll_cons hA
  obtain ⟨v2,vs2,d2,ds2,p2,q2,rfl,rfl,h2,hA⟩:=SX.trodAll_cons hA
  obtain ⟨v3,vs3,d3,ds3,p3,q3,rfl,rfl,h3,hA⟩:=SX.trodAll_cons hA
  obtain ⟨rfl,rfl⟩:=SX.trodAll_nil hA
  have hw:(DataW.weightsEach Tryz.prog [22,22,22,3] [d0,d1,d2,d3]).all (· ≤ reachBytes)=true:=hwt
  obtain ⟨l0,hw⟩:=SX.light_head hw
  obtain ⟨m0,s0⟩:=yzz rfl rfl op22 (fun _=>⟨_,rfl⟩) (hval2 0 22 v0 rfl rfl) h0 l0
  obtain ⟨l1,hw⟩:=SX.light_head hw
  obtain ⟨m1,s1⟩:=yzz rfl rfl op22 (fun _=>⟨_,rfl⟩) (hval2 1 22 v1 rfl rfl) h1 l1
  obtain ⟨l2,hw⟩:=SX.light_head hw
  obtain ⟨m2,s2⟩:=yzz rfl rfl op22 (fun _=>⟨_,rfl⟩) (hval2 2 22 v2 rfl rfl) h2 l2
  obtain ⟨l3,hw⟩:=SX.light_head hw
  obtain ⟨m3,s3⟩:=yzz rfl rfl op3 (fun _=>⟨_,rfl⟩) (hval2 3 3 v3 rfl rfl) h3 l3
  exact row_post (readB (by kernel_rfl)) rfl (ycf rfl) rfl (by simp [Rows.originMoreAgreementsSpec]) hW2 (xel hL) (by rw [hargs];exact (s0.app (s1.app (s2.app s3)))) (ykl (yno m0 m1 m2 m3 s0 s1 s2 s3))
theorem originMoreAgreements_holds:Rows.OriginMoreAgreementsSaid :=
 OpenClaim.holds_of_wide 8 Tryz.f8 rfl rfl rfl rfl rfl rfl rfl ⟨rfl,rfl,rfl,rfl,rfl⟩ rfl rfl rfl rfl rfl originMoreAgreements_named Tryz.func8 originMoreAgreements_closed
  (of_decide_eq_true (by kernel_rfl)) (by unfold Func.isWrapper;rw [if_neg (of_decide_eq_false (by kernel_rfl))];exact ⟨rfl,rfl⟩)
  (fun os started H enc _=>originMoreAgreements_lifted os started H enc)
theorem originMoreAgreements_card:Rows.OriginMoreAgreementsCardSaid :=
 Claim7.holds_tied_plain_at .later [] [.data,.data,.pinned] true (true, "1e3b145685322bf7f94ec621e9aeffcff4a787ee8d0f1c6d82f0c25323e7d249") true
  originMoreAgreements_holds (fun _ h=>by cases h) (by as_aux_lemma=>kernel_rfl) (fun _ h=>by cases h) originMoreAgreements_row_tie rfl ⟨rfl,rfl⟩ fp_main rfl
  (fun f fn hf hfn=>by
   obtain rfl:f=8:=Option.some.inj ((show Tryz.prog.funcNamed "customs/customslaw15.OriginMoreAgreements" = some 8 from originMoreAgreements_named).symm.trans hf) |>.symm
   obtain rfl:fn=Tryz.f8:=(Option.some.inj (Tryz.func8.symm.trans hfn)).symm
   exact ⟨fp_looks,fun j t ht=>by
    rw [Tryz.params8] at ht
    exact xem (by as_aux_lemma=>kernel_rfl) ht⟩)
  originMoreAgreements_goes
#print axioms originMoreAgreements_card
end Go.Proofs.YtoccohlbjnoeoaaGreatDoor
