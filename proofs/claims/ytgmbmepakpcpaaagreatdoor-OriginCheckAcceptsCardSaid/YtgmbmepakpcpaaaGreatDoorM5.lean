/- OriginCheckAccepts: for every input the law returns true, and each argument reads afterwards as it read before. Conditions: the package variables are as the program's text lays them (the card ties them). -/
import Derived.Test.YtgmbmepakpcpaaaGreatDoorM4
import Derived.Test.YtgmbmepakpcpaaaGreatDoorL7q
set_option linter.unusedVariables false
set_option linter.unusedSimpArgs false
set_option maxHeartbeats 4000000
set_option maxRecDepth 100000
namespace Go.Proofs.YtgmbmepakpcpaaaGreatDoor
namespace SX
open Go
theorem yi {α:Type} (l:List α) (n:Nat):idx l (n:Int)=l[n]?:=by unfold idx;rw [if_pos (by omega)];simp
theorem tv {α:Type} [DecidableEq α] (E:α→α→Bool) (hE:∀ x y,E x y=decide (x=y)) (z:α) (p:List α) (hp:p.length≤1000000000) :
    cond (decide (((p.length:Nat):Int)<2)) (some p) (Option.bind (aN (S:=Int) (T:=(Unit)⊕(List α)) (fun v2=>cond (decide (v2<((p.length:Nat):Int))) (Option.bind (idx p v2) (fun m7=>Option.bind (idx p (IntKind.i64.wrap (v2 - 1))) (fun m8=>cond (E m7 m8) (Option.bind (sub p v2 (p.length:Int)) (fun _=>Option.bind (aN (S:=(List α)×Int×Int) (T:=((List α)×Int)) (fun (l12,v13,v14)=>cond (decide (v14<((p.length - v2.toNat:Nat):Int))) (Option.bind (Option.bind (kZ v14) (fun _=>Option.bind (idx l12 (v2+v14)) (fun m26=>Option.bind (kZ (IntKind.i64.wrap (v14 - 1))) (fun _=>Option.bind (idx l12 (v2+(IntKind.i64.wrap (v14 - 1)))) (fun m28=>cond (!(E m26 m28)) (Option.bind (kZ v14) (fun _=>Option.bind (idx l12 (v2+v14)) (fun m31=>Option.bind (idx l12 v13) (fun _=>some ((l12.set v13.toNat m31),(IntKind.i64.wrap (v13+1))))))) (some (l12,v13))))))) (fun (l22,v23)=>some (.inl (l22,v23,(IntKind.i64.wrap (v14+1)))))) (some (.inr (l12,v13)))) FUEL (p,v2,1)) (fun (l16,v17)=>Option.bind (sub l16 v17 (l16.length:Int)) (fun _=>Option.bind (sub (List.take v17.toNat l16++List.replicate (p.length - v17.toNat) z) 0 v17) (fun l35=>some (.inr (.inr l35))))))) (some (.inl (IntKind.i64.wrap (v2+1))))))) (some (.inr (.inl ())))) FUEL 1) (fun q=>match q with | .inl _=>some p | .inr e=>some e))=some (dd p):=by
  by_cases h2:p.length<2
  · rw [det (show ((p.length:Nat):Int)<2 by omega)]
    match p,h2 with
    | [],_=>rfl
    | [x],_=>rfl
  rw [bD (by omega),bx]
  have hl:Y (aN (S:=Int) (T:=(Unit)⊕(List α)) (fun v2=>cond (decide (v2<((p.length:Nat):Int))) (Option.bind (idx p v2) (fun m7=>Option.bind (idx p (IntKind.i64.wrap (v2 - 1))) (fun m8=>cond (E m7 m8) (Option.bind (sub p v2 (p.length:Int)) (fun _=>Option.bind (aN (S:=(List α)×Int×Int) (T:=((List α)×Int)) (fun (l12,v13,v14)=>cond (decide (v14<((p.length - v2.toNat:Nat):Int))) (Option.bind (Option.bind (kZ v14) (fun _=>Option.bind (idx l12 (v2+v14)) (fun m26=>Option.bind (kZ (IntKind.i64.wrap (v14 - 1))) (fun _=>Option.bind (idx l12 (v2+(IntKind.i64.wrap (v14 - 1)))) (fun m28=>cond (!(E m26 m28)) (Option.bind (kZ v14) (fun _=>Option.bind (idx l12 (v2+v14)) (fun m31=>Option.bind (idx l12 v13) (fun _=>some ((l12.set v13.toNat m31),(IntKind.i64.wrap (v13+1))))))) (some (l12,v13))))))) (fun (l22,v23)=>some (.inl (l22,v23,(IntKind.i64.wrap (v14+1)))))) (some (.inr (l12,v13)))) FUEL (p,v2,1)) (fun (l16,v17)=>Option.bind (sub l16 v17 (l16.length:Int)) (fun _=>Option.bind (sub (List.take v17.toNat l16++List.replicate (p.length - v17.toNat) z) 0 v17) (fun l35=>some (.inr (.inr l35))))))) (some (.inl (IntKind.i64.wrap (v2+1))))))) (some (.inr (.inl ())))) FUEL 1) (fun t=>match t with | .inl _=>dd p=p | .inr e=>e=dd p):=by
    refine Y.loop (fun s:Int=>∃ v:Nat,s=(v:Int)∧1≤v∧v≤p.length∧∀ j,1≤j→(hj:j<v)→(hp:j<p.length)→p[j]≠p[j-1]'(by omega)) (fun s=>(p.length - s).toNat) ⟨1,rfl,by omega,by omega,fun j h1 h2=>by omega⟩ (by omega) fun s hs=>?_
    obtain ⟨v,rfl,h1,h3,h4⟩:=hs
    refine Y.cond (fun hc=>?_) (fun hc=>Y.ret (yg fun i hi=>?_))
    rotate_left
    · have hc:=of_decide_eq_false hc
      have:=h4 (i+1) (by omega) (by omega) hi
      exact fun e=>this e.symm
    have hv:v<p.length:=by have:=of_decide_eq_true hc;omega
    refine Y.idx rfl hv ?_
    refine Y.idx (n:=v - 1) (by rw [cI (by omega) (by omega)];omega) (by omega) ?_
    rw [hE]
    refine Y.cond (fun he=>?_) (fun he=>Y.ret ⟨⟨v+1,?_,by omega,by omega,fun j g1 g2 g3=>?_⟩,?_⟩)
    · rw [kE (Nat.le_of_lt hv) (Nat.le_refl _),ba]
      have he:=of_decide_eq_true he
      have c0:=CInv.start h1 hv he fun j g1 g2=>h4 j g1 g2 (by omega)
      refine Y.bind (P:=fun t:List α×Int=>∃ k:Nat,t.2=(k:Int)∧k≤p.length∧t.1.length=p.length∧t.1.take k=dd p) ?_ fun t ⟨k,t1,t2,t3,t4⟩=>?_
      · refine Y.loop (fun s:List α×Int×Int=>∃ k i:Nat,s.2.1=(k:Int)∧s.2.2=(i:Int)∧CInv p v s.1 k i) (fun s=>(p.length - v - s.2.2).toNat) ⟨v,1,rfl,rfl,c0⟩ (by dsimp only;omega) fun s hs=>?_
        obtain ⟨l,a,b⟩:=s
        obtain ⟨k,i,rfl,rfl,c⟩:=hs
        dsimp only at c ⊢
        have ci:=c.i1;have cl:=c.le;have ck:=c.klt;have cn:=c.len
        refine Y.cond (fun hc=>?_) (fun hc=>Y.ret ⟨k,rfl,by omega,c.len,?_⟩)
        rotate_left
        · have hc:=of_decide_eq_false hc
          have e:v+i=p.length:=by rw [Int.toNat_natCast] at hc;omega
          have:=c.pre
          rw [e,List.take_length] at this;exact this
        have hlt:v+i<p.length:=by have:=of_decide_eq_true hc;rw [Int.toNat_natCast] at this;omega
        obtain ⟨x,y,hx,hy,s1,s2⟩:=c.step hlt h1
        refine Y.bind (P:=fun t:List α×Int=>∃ k':Nat,t.2=(k':Int)∧CInv p v t.1 k' (i+1)) ?_ fun t ⟨k',t1,t2⟩=>Y.ret ⟨⟨k',i+1,t1,?_,t2⟩,?_⟩
        · refine Y.eq (oT i) ?_
          rw [show (v:Int)+(i:Int)=((v+i:Nat):Int) by omega]
          refine Y.eq (by rw [yi];exact hx) ?_
          rw [cI (r:=(i:Int) - 1) (by omega) (by omega),show (i:Int) - 1=((i - 1:Nat):Int) by omega]
          refine Y.eq (oT (i - 1)) ?_
          rw [show (v:Int)+((i - 1:Nat):Int)=((v+i - 1:Nat):Int) by omega]
          refine Y.eq (by rw [yi];exact hy) ?_
          rw [hE]
          refine Y.cond (fun hne=>?_) (fun hne=>Y.ret ⟨k,rfl,s1 (by simpa using hne)⟩)
          obtain ⟨hk,c2⟩:=s2 (by simpa using hne)
          refine Y.eq (oT i) (Y.eq (by rw [yi];exact hx) (Y.idx rfl hk (Y.ret ⟨k+1,?_,c2⟩)))
          show IntKind.i64.wrap ((k:Int)+1)=_;rw [cI (by omega) (by omega)];omega
        · show IntKind.i64.wrap ((i:Int)+1)=_;rw [cI (by omega) (by omega)];omega
        show ((p.length:Int) - v - IntKind.i64.wrap ((i:Int)+1)).toNat<((p.length:Int) - v - (i:Int)).toNat;rw [cI (by omega) (by omega)];omega
      obtain ⟨l,b⟩:=t
      dsimp only at t1 t3 t4 ⊢
      subst t1
      have e1:sub l (k:Int) (l.length:Int)=some ((l.take l.length).drop k):=kE (by omega) (Nat.le_refl _)
      rw [e1,ba,Int.toNat_natCast]
      have e2:sub (List.take k l++List.replicate (p.length - k) z) 0 (k:Int)=some (((List.take k l++List.replicate (p.length - k) z).take k).drop 0):=kE (a:=0) (by omega) (by simp;omega)
      rw [e2,ba]
      refine Y.ret ?_
      show ((List.take k l++List.replicate (p.length - k) z).take k).drop 0=dd p
      rw [List.drop_zero,List.take_append_of_le_length (by rw [List.length_take];omega),List.take_take,Nat.min_self,t4]
    · show IntKind.i64.wrap ((v:Int)+1)=_;rw [cI (by omega) (by omega)];omega
    · rcases Nat.lt_or_ge j v with h | h
      · exact h4 j g1 h g3
      have e:j=v:=by omega
      subst e;exact of_decide_eq_false he
    show ((p.length:Int) - IntKind.i64.wrap ((v:Int)+1)).toNat<((p.length:Int) - (v:Int)).toNat;rw [cI (by omega) (by omega)];omega
  obtain ⟨t,e,ht⟩:=hl
  rw [e]
  cases t with
  | inl u=>dsimp only at ht;rw [ba,ht]
  | inr u=>dsimp only at ht;rw [ba,ht]
theorem FI (p:List ByteArray) (hp:p.length≤1000000000):dG p=some (dd p):=by
 refine Eq.trans ?_ (tv (fun x y=>decide (x=y)) (fun _ _=>rfl) ByteArray.empty p hp)
 kernel_rfl
theorem Cp (x y:Za):Za.eqb x y=decide (x=y):=by
 cases h:Za.eqb x y
 ·exact (bD fun e=>by rw [Za.eqb_iff.2 e] at h;cases h).symm
 exact (det (Za.eqb_iff.1 h)).symm
theorem FJ (p:List Za) (hp:p.length≤1000000000):bw p=some (dd p):=by
 refine Eq.trans ?_ (tv Za.eqb Cp ⟨0,0⟩ p hp)
 kernel_rfl
theorem mi (l:List Za) (c:Za) (hl:l.length≤140737488355328):dc l c=some (aO l c):=by
 unfold dc
 refine (bA (l:=l) (by omega) (fun _ x=>cond (Za.eqb x c) (some (.inr true)) none) (.inl ()) (fun k hk=>?_) (by simp only [cJ,bx])).trans ?_
 ·simp only [gV hk,bT,aD hk,ba,bO hk (show l.length≤4611686018427387904 by omega)]
  cases Za.eqb l[k] c <;> rfl
 rw [qw (fun x=>Za.eqb x c)]
 have:(l.any fun x=>Za.eqb x c)=aO l c:=by unfold aO;congr 1;funext x;exact Cp x c
 rw [this];cases aO l c <;> rfl
theorem oX {α:Type} (P:α→Bool):∀ (l:List α) (k:Nat),k≤l.length→(∀ j x,l[j]?=some x→j<k→P x=true)→(∀ x,l[k]?=some x→P x=false)→l.takeWhile P=l.take k∧l.dropWhile P=l.drop k
 | [],k,h,_,_=>by simp at h;subst h;exact ⟨rfl,rfl⟩
 | x::l,0,_,_,h=>by rw [List.takeWhile_cons,List.dropWhile_cons,h x rfl];exact ⟨rfl,rfl⟩
 | x::l,k+1,h,h1,h2=>by
  obtain ⟨e1,e2⟩:=oX P l k (by simpa using h) (fun j y hy hj=>h1 (j+1) y (by simpa using hy) (by omega)) (fun y hy=>h2 y (by simpa using hy))
  rw [List.takeWhile_cons,List.dropWhile_cons,h1 0 x rfl (by omega)]
  simp only [if_true,List.take_succ_cons,List.drop_succ_cons]
  rw [e1,e2];exact ⟨rfl,rfl⟩
theorem sG (l:List Za) (c:Za) (hl:l.length≤1000000000):fI l c=some (ij bm l c):=by
 unfold fI ij
 rw [mi _ _ (by omega),ba]
 cases aO l c
 rotate_left
 ·rfl
 simp only [bx]
 have hw:Y (aN (S:=Int) (T:=(Int)) (fun v4=>Option.bind (gd (decide (v4<(l.length:Int))) (idx l v4)) (fun m8=>Option.bind (gd (decide (v4<(l.length:Int))) (oF m8 c)) (fun x9=>cond ((decide (v4<(l.length:Int)))&&x9) (some (.inl (IntKind.i64.wrap (v4+1)))) (some (.inr v4))))) FUEL 0) (fun t=>∃ k:Nat,t=(k:Int)∧k≤l.length∧l.takeWhile (fun x=>bm x c)=l.take k∧l.dropWhile (fun x=>bm x c)=l.drop k):=by
  refine Y.loop (fun s:Int=>∃ k:Nat,s=(k:Int)∧k≤l.length∧∀ j x,l[j]?=some x→j<k→bm x c=true) (fun s=>(l.length - s).toNat) ⟨0,rfl,by omega,fun j x _ h=>absurd h (Nat.not_lt_zero _)⟩ (by omega) fun s hs=>?_
  obtain ⟨k,rfl,h1,h2⟩:=hs
  rcases Nat.lt_or_ge k l.length with hk | hk
  ·rw [gV hk,cj,aD hk,ba,cj]
   have e:oF l[k] c=some (bm l[k] c):=by unfold oF bm;rfl
   rw [e,ba]
   cases hlt:bm l[k] c
   ·exact Y.ret ⟨k,rfl,h1,oX _ l k h1 h2 fun x hx=>by rw [List.getElem?_eq_getElem hk] at hx;injection hx with hx;rw [← hx];exact hlt⟩
   refine Y.ret ⟨⟨k+1,?_,by omega,fun j x hx hj=>?_⟩,?_⟩
   ·show IntKind.i64.wrap ((k:Int)+1)=_;rw [cI (by omega) (by omega)];omega
   ·rcases Nat.lt_or_ge j k with h | h
    ·exact h2 j x hx h
    have e:j=k:=by omega
    subst e;rw [List.getElem?_eq_getElem hk] at hx;injection hx with hx;rw [← hx];exact hlt
   show ((l.length:Int) - IntKind.i64.wrap ((k:Int)+1)).toNat<((l.length:Int) - (k:Int)).toNat;rw [cI (by omega) (by omega)];omega
  have e:k=l.length:=by omega
  subst e
  rw [cJ,i7,ba,i7,ba]
  exact Y.ret ⟨l.length,rfl,h1,oX _ l _ h1 h2 fun x hx=>by have:=(List.getElem?_eq_some_iff.1 hx).1;omega⟩
 obtain ⟨t,e,k,rfl,h1,h2,h3⟩:=hw
 rw [e,ba]
 have s1:sub l 0 (k:Int)=some ((l.take k).drop 0):=kE (a:=0) (by omega) h1
 have s2:sub l (k:Int) (l.length:Int)=some ((l.take l.length).drop k):=kE h1 (Nat.le_refl _)
 rw [s1,ba,s2,ba,List.drop_zero,List.take_length,jv (by rw [List.length_take];omega) (by omega),ba,cL (by simp;omega) (by simp;omega),ba,cL (by simp;omega) (by simp;omega),ba,h2,h3,List.append_assoc];rfl
theorem wU (l:List ByteArray) (c:ByteArray) (hl:l.length≤1000000000) (hs:Strict iT l):oE l c=some (ij iT l c):=by
 unfold oE ij
 have hw:Y (aN (S:=Int) (T:=(ByteArray×Int)) (fun v1=>Option.bind (gd (decide (v1<(l.length:Int))) (idx l v1)) (fun m6=>cond ((decide (v1<(l.length:Int)))&&(Op.bytesLess m6.toList c.toList)) (some (.inl (IntKind.i64.wrap (v1+1)))) (some (.inr (c,v1))))) FUEL 0) (fun t=>t.1=c∧∃ k:Nat,t.2=(k:Int)∧k≤l.length∧(∀ j x,l[j]?=some x→j<k→iT x c=true)∧(∀ x,l[k]?=some x→iT x c=false)):=by
  refine Y.loop (fun s:Int=>∃ k:Nat,s=(k:Int)∧k≤l.length∧∀ j x,l[j]?=some x→j<k→iT x c=true) (fun s=>(l.length - s).toNat) ⟨0,rfl,by omega,fun j x _ h=>absurd h (Nat.not_lt_zero _)⟩ (by omega) fun s hs=>?_
  obtain ⟨k,rfl,h1,h2⟩:=hs
  rcases Nat.lt_or_ge k l.length with hk | hk
  ·rw [gV hk,cj,aD hk,ba]
   cases hlt:iT l[k] c
   ·have hlt':Op.bytesLess l[k].toList c.toList=false:=hlt
    rw [hlt']
    exact Y.ret ⟨rfl,k,rfl,h1,h2,fun x hx=>by rw [List.getElem?_eq_getElem hk] at hx;injection hx with hx;rw [← hx];exact hlt⟩
   have hlt':Op.bytesLess l[k].toList c.toList=true:=hlt
   rw [hlt']
   refine Y.ret ⟨⟨k+1,?_,by omega,fun j x hx hj=>?_⟩,?_⟩
   ·show IntKind.i64.wrap ((k:Int)+1)=_;rw [cI (by omega) (by omega)];omega
   ·rcases Nat.lt_or_ge j k with h | h
    ·exact h2 j x hx h
    have e:j=k:=by omega
    subst e;rw [List.getElem?_eq_getElem hk] at hx;injection hx with hx;rw [← hx];exact hlt
   show ((l.length:Int) - IntKind.i64.wrap ((k:Int)+1)).toNat<((l.length:Int) - (k:Int)).toNat;rw [cI (by omega) (by omega)];omega
  have e:k=l.length:=by omega
  subst e
  rw [cJ,i7,ba]
  exact Y.ret ⟨rfl,l.length,rfl,h1,h2,fun x hx=>by have:=(List.getElem?_eq_some_iff.1 hx).1;omega⟩
 obtain ⟨⟨t1,t2⟩,e,rfl,k,hk,h1,h2,h3⟩:=hw
 dsimp only at hk
 subst hk
 obtain ⟨w1,w2⟩:=oX (fun x=>iT x t1) l k h1 h2 h3
 rw [e,ba]
 dsimp only
 have key:t1∈l↔l[k]?=some t1:=by
  constructor
  ·intro hm
   obtain ⟨j,hj,hjt⟩:=List.getElem_of_mem hm
   have hjk:k≤j:=by
    rcases Nat.lt_or_ge j k with h | h
    ·have:=h2 j l[j] (List.getElem?_eq_getElem hj) h;rw [hjt,Ch] at this;cases this
    exact h
   rcases Nat.lt_or_ge k j with h | h
   ·have hkl:k<l.length:=by omega
    have g1:=h3 l[k] (List.getElem?_eq_getElem hkl)
    have g2:=(List.pairwise_iff_getElem.1 hs) k j hkl hj h
    rw [hjt,g1] at g2;cases g2
   have e:j=k:=by omega
   subst e;rw [List.getElem?_eq_getElem hj,hjt]
  exact fun h=>List.mem_of_getElem? h
 rcases Nat.lt_or_ge k l.length with hkl | hkl
 ·rw [gV hkl,cj,aD hkl,ba,Bool.true_and]
  by_cases hm:l[k]=t1
  ·rw [det hm,dB.2 (key.2 (by rw [List.getElem?_eq_getElem hkl,hm]))];rfl
  rw [bD hm,lv.2 (fun h=>hm (by have:=key.1 h;rw [List.getElem?_eq_getElem hkl] at this;injection this))]
  simp only [bx]
  have s1:sub l 0 (k:Int)=some ((l.take k).drop 0):=kE (a:=0) (by omega) h1
  have s2:sub l (k:Int) (l.length:Int)=some ((l.take l.length).drop k):=kE h1 (Nat.le_refl _)
  rw [s1,ba,s2,ba,List.drop_zero,List.take_length,jv (by rw [List.length_take];omega) (by omega),ba,cL (by simp;omega) (by simp;omega),ba,cL (by simp;omega) (by simp;omega),ba,w1,w2,List.append_assoc];rfl
 have e:k=l.length:=by omega
 subst e
 rw [cJ,i7,ba,Bool.false_and,lv.2 (fun h=>by have:=key.1 h;rw [List.getElem?_eq_none (Nat.le_refl _)] at this;cases this)]
 simp only [bx]
 have s1:sub l 0 ((l.length:Nat):Int)=some ((l.take l.length).drop 0):=kE (a:=0) (by omega) h1
 have s2:sub l ((l.length:Nat):Int) (l.length:Int)=some ((l.take l.length).drop l.length):=kE h1 (Nat.le_refl _)
 rw [s1,ba,s2,ba,List.drop_zero,List.take_length,jv (by omega) (by omega),ba,cL (by simp;omega) (by simp;omega),ba,cL (by simp;omega) (by simp;omega),ba,w1,w2,List.append_assoc,List.take_length];rfl
def nE (a b:List ByteArray):List ByteArray:=sd iT (a++b)
theorem concat2 (a b:List ByteArray) (h:a.length+b.length≤1000000):cV [a,b]=some (a++b):=by
 unfold cV eA
 refine (jZ (l:=[a,b]) (by simp) (fun i (s:Nat)=>((s:Int),i)) (fun _ x s=>(.inl (s+x.length):Nat⊕Empty)) (fun (s:Nat)=>(s:Int)) noE (fun k s=>s≤1000000∧s=([a,b].take k).flatten.length) 0 ⟨by omega,rfl⟩ (fun k hk s hs=>⟨?_,fun s' h'=>?_⟩) (fun s _=>by simp only [cJ,bx])).trans ?_
 ·have hb:s+([a,b][k]).length≤1000000:=by
   obtain ⟨_,e⟩:=hs
   match k,hk with
   | 0,_=>simp at e;subst e;simp;omega
   | 1,_=>simp at e;subst e;simp;omega
  simp only [gV hk,bT,aD hk,ba,bO hk (show [a,b].length≤4611686018427387904 by simp),zu]
  rw [cI (by omega) (by omega),bD (by omega)]
  simp only [bx,Int.natCast_add]
 ·injection h' with h'
  obtain ⟨h1,h2⟩:=hs
  subst h'
  match k,hk with
  | 0,_=>simp at h2 ⊢;subst h2;simp;omega
  | 1,_=>simp at h2 ⊢;subst h2;omega
 show Option.bind (Option.bind (Dc 16 ((0+a.length+b.length:Nat):Int)) _) _=_
 rw [Ba (by omega) (by omega),ba,ba]
 refine (cA (l:=[a,b]) (by simp) (fun i (s:List ByteArray)=>(s,i)) (fun s x=>s++x) (fun s=>s) (fun k s=>s=([a,b].take k).flatten) [] rfl (fun k hk s hs=>⟨?_,?_⟩) (fun s _=>by simp only [cJ,bx])).1.trans ?_
 ·have hb:s.length+([a,b][k]).length≤1000000:=by
   match k,hk with
   | 0,_=>simp at hs;subst hs;simp;omega
   | 1,_=>simp at hs;subst hs;simp;omega
  simp only [gV hk,bT,aD hk,ba,bO hk (show [a,b].length≤4611686018427387904 by simp)]
  rw [cL (by omega) (by omega)];rfl
 ·match k,hk with
  | 0,_=>simp at hs;subst hs;simp
  | 1,_=>simp at hs;subst hs;simp
 simp
theorem Bp (a b:List ByteArray) (h:a.length+b.length≤1000000):jH a b=some (nE a b):=by
 unfold jH
 rw [concat2 a b h,ba]
 show Option.bind (some (lf iT (a++b))) _=_
 rw [ba,FI _ (by rw [nY];simp;omega)];rfl
theorem Dr (a b:List ByteArray) (h:a.length+b.length≤1000000):mZ a b=some (nE a b):=by
 unfold mZ
 have ha:=rR Bo a [] List.Pairwise.nil
 refine (cA (l:=a) (by omega) (fun i (s:List ByteArray)=>(s,i)) (ij iT) (fun s=>(b,s)) (fun k s=>Strict iT s∧s.length≤k) [] ⟨List.Pairwise.nil,by simp⟩ (fun k hk s hs=>⟨?_,qg Bo.tot Bo.tr hs.1,by have:=lw (lt:=iT) s a[k];omega⟩) (fun s _=>by simp only [cJ,bx])).1.trans ?_
 ·simp only [gV hk,bT,aD hk,ba,bO hk (show a.length≤4611686018427387904 by omega)]
  rw [wU _ _ (by omega) hs.1];rfl
 dsimp only
 refine (cA (l:=b) (by omega) (fun i (s:List ByteArray)=>(s,i)) (ij iT) (fun s=>s) (fun k s=>Strict iT s∧s.length≤a.length+k) (a.foldl (ij iT) []) ⟨ha.1,by have:=ha.2.2;simpa using this⟩ (fun k hk s hs=>⟨?_,qg Bo.tot Bo.tr hs.1,by have:=lw (lt:=iT) s b[k];omega⟩) (fun s _=>by simp only [cJ,bx])).1.trans ?_
 ·simp only [gV hk,bT,aD hk,ba,bO hk (show b.length≤4611686018427387904 by omega)]
  rw [wU _ _ (by omega) hs.1];rfl
 unfold nE
 rw [← tu Bo,List.foldl_append]
def U64 (a:Int):Prop:=0≤a∧a<18446744073709551616
theorem wu (a:Int):IntKind.u64.wrap a=a % 18446744073709551616:=rfl
theorem fx {a:Int} (h:U64 a):IntKind.u64.wrap a=a:=by rw [wu];unfold U64 at h;omega
theorem bv64 {a:Int} (h:U64 a):(BitVec.ofInt 64 a).toNat=a.toNat:=by
 rw [BitVec.toNat_ofInt];unfold U64 at h;omega
theorem Cq {a b:Int} (ha:U64 a) (hb:U64 b):dU .u64 a b=((a.toNat &&& b.toNat:Nat):Int):=by
 have hlt:a.toNat &&& b.toNat<18446744073709551616:=Nat.lt_of_le_of_lt Nat.and_le_left (by unfold U64 at ha;omega)
 have e:dU .u64 a b=IntKind.u64.wrap (((BitVec.ofInt 64 a &&& BitVec.ofInt 64 b).toNat:Nat):Int):=rfl
 rw [e,BitVec.toNat_and,bv64 ha,bv64 hb,fx]
 exact ⟨by omega,by omega⟩
theorem FK {a b:Int} (ha:U64 a) (hb:U64 b):qI .u64 a b=((a.toNat ||| b.toNat:Nat):Int):=by
 have hlt:a.toNat ||| b.toNat<2 ^ 64:=Nat.or_lt_two_pow (by unfold U64 at ha;omega) (by unfold U64 at hb;omega)
 have e:qI .u64 a b=IntKind.u64.wrap (((BitVec.ofInt 64 a ||| BitVec.ofInt 64 b).toNat:Nat):Int):=rfl
 rw [e,BitVec.toNat_or,bv64 ha,bv64 hb,fx]
 exact ⟨by omega,by omega⟩
theorem qi {a:Int} (h:U64 a):dU .u64 a 4294967295=a % 4294967296:=by
 rw [Cq h ⟨by omega,by omega⟩]
 have:a.toNat &&& (4294967295:Int).toNat=a.toNat % 4294967296:=Nat.and_two_pow_sub_one_eq_mod (n:=32) a.toNat
 rw [this];unfold U64 at h;omega
theorem vn {a:Int} (h:U64 a):dU .u64 a 1=a % 2:=by
 rw [Cq h ⟨by omega,by omega⟩]
 have:a.toNat &&& (1:Int).toNat=a.toNat % 2:=Nat.and_two_pow_sub_one_eq_mod (n:=1) a.toNat
 rw [this];unfold U64 at h;omega
theorem Cr {a:Int}:cH .u64 a 32=a / 4294967296:=Int.fdiv_eq_ediv_of_nonneg a (show (0:Int)≤4294967296 by omega)
theorem mul64 {a b:Int} (ha:U64 a) (hb:U64 b):∃ h l,ie a b=some (h,l)∧U64 h∧U64 l∧h*18446744073709551616+l=a*b:=by
 unfold ie lb
 rw [qi ha,qi hb]
 simp only [Cr]
 unfold U64 at ha hb
 have ea:a=4294967296*(a / 4294967296)+a % 4294967296:=by omega
 have eb:b=4294967296*(b / 4294967296)+b % 4294967296:=by omega
 have h1:0≤a / 4294967296∧a / 4294967296<4294967296:=by omega
 have h2:0≤a % 4294967296∧a % 4294967296<4294967296:=by omega
 have h3:0≤b / 4294967296∧b / 4294967296<4294967296:=by omega
 have h4:0≤b % 4294967296∧b % 4294967296<4294967296:=by omega
 generalize a / 4294967296=x1 at *
 generalize a % 4294967296=x0 at *
 generalize b / 4294967296=y1 at *
 generalize b % 4294967296=y0 at *
 subst ea eb
 have p00:0≤x0*y0∧x0*y0≤4294967295*4294967295:=⟨Int.mul_nonneg h2.1 h4.1,Int.mul_le_mul (by omega) (by omega) h4.1 (by omega)⟩
 have p01:0≤x0*y1∧x0*y1≤4294967295*4294967295:=⟨Int.mul_nonneg h2.1 h3.1,Int.mul_le_mul (by omega) (by omega) h3.1 (by omega)⟩
 have p10:0≤x1*y0∧x1*y0≤4294967295*4294967295:=⟨Int.mul_nonneg h1.1 h4.1,Int.mul_le_mul (by omega) (by omega) h4.1 (by omega)⟩
 have p11:0≤x1*y1∧x1*y1≤4294967295*4294967295:=⟨Int.mul_nonneg h1.1 h3.1,Int.mul_le_mul (by omega) (by omega) h3.1 (by omega)⟩
 have e:(4294967296*x1+x0)*(4294967296*y1+y0)=18446744073709551616*(x1*y1)+4294967296*(x1*y0)+4294967296*(x0*y1)+x0*y0:=by
  rw [Int.add_mul,Int.mul_add,Int.mul_add]
  have t1:4294967296*x1*(4294967296*y1)=18446744073709551616*(x1*y1):=by
   rw [Int.mul_assoc,← Int.mul_assoc x1,Int.mul_comm x1 4294967296,Int.mul_assoc 4294967296 x1,← Int.mul_assoc];rfl
  have t2:4294967296*x1*y0=4294967296*(x1*y0):=Int.mul_assoc _ _ _
  have t3:x0*(4294967296*y1)=4294967296*(x0*y1):=by rw [← Int.mul_assoc,Int.mul_comm x0,Int.mul_assoc]
  rw [t1,t2,t3];omega
 rw [e]
 generalize x0*y0=p at *
 generalize x0*y1=q at *
 generalize x1*y0=r at *
 generalize x1*y1=s at *
 refine ⟨_,_,rfl,?_,?_,?_⟩
 all_goals simp only [wu,U64]
 all_goals first | omega | (rw [qi (by unfold U64;omega)];omega)
def rv (w:Zn):Int:=w.Hi*18446744073709551616+w.Lo
def RW (w:Zn):Prop:=U64 w.Hi∧U64 w.Lo
theorem uc {p q:Zn} (hp:RW p) (hq:RW q):∃ w b,iQ p q=some (w,b)∧RW w∧(rv p+rv q<340282366920938463463374607431768211456→rv w=rv p+rv q):=by
 obtain ⟨ph,pl⟩:=p;obtain ⟨qh,ql⟩:=q
 obtain ⟨⟨a1,a2⟩,⟨a3,a4⟩⟩:=hp
 obtain ⟨⟨b1,b2⟩,⟨b3,b4⟩⟩:=hq
 simp only at a1 a2 a3 a4 b1 b2 b3 b4
 unfold iQ lb
 dsimp only
 by_cases h:IntKind.u64.wrap (pl+ql)<pl
 ·rw [det h]
  simp only [bT,ba]
  refine ⟨_,_,rfl,?_,?_⟩
  ·simp only [RW,U64,wu];omega
  rw [wu] at h;simp only [rv,wu];omega
 rw [bD h]
 simp only [bx,ba]
 refine ⟨_,_,rfl,?_,?_⟩
 ·simp only [RW,U64,wu];omega
 rw [wu] at h;simp only [rv,wu];omega
theorem oY {a n:Int} (h:n.toNat≤64):cH .u64 a n=a / 2 ^ n.toNat:=by
 have e:cH .u64 a n=a.fdiv (2 ^ min n.toNat 64):=rfl
 rw [e,Nat.min_eq_left h]
 exact Int.fdiv_eq_ediv_of_nonneg a (Int.le_of_lt (Int.pow_pos (by omega)))
theorem wV (b:Int) (k:Nat):b / 2 ^ k=2*(b / 2 ^ (k+1))+b / 2 ^ k % 2:=by
 have:b / 2 ^ (k+1)=b / 2 ^ k / 2:=by rw [Int.pow_succ,Int.ediv_ediv_of_nonneg (Int.le_of_lt (Int.pow_pos (by omega)))]
 rw [this];omega
theorem Cs {a b:Int} (ha:U64 a) (hb:U64 b):∃ w,mn a b=some w∧RW w∧rv w=a*b:=by
 unfold mn
 obtain ⟨t,h5,h6⟩:=mq (body:=fun (v3,v4,v5)=>cond (decide (0≤v3)) (Option.bind (Option.bind (iQ (⟨v4,v5⟩:Zn) (⟨v4,v5⟩:Zn)) (fun x14=>Option.bind (kZ v3) (fun u15=>cond ((dU .u64 (cH .u64 b v3) 1) == 1) (Option.bind (iQ x14.1 (⟨0,a⟩:Zn)) (fun x17=>some (x17.1.Hi,x17.1.Lo))) (some (x14.1.Hi,x14.1.Lo))))) (fun (v11,v12)=>some (.inl ((IntKind.i64.wrap (v3 - 1)),v11,v12)))) (some (.inr (v4,v5))))
  (fun s:Int×Int×Int => -1≤s.1∧s.1≤63∧RW ⟨s.2.1,s.2.2⟩∧rv ⟨s.2.1,s.2.2⟩=a*(b / 2 ^ (s.1+1).toNat)) (fun s=>(s.1+1).toNat) (fun t:Int×Int=>RW ⟨t.1,t.2⟩∧rv ⟨t.1,t.2⟩=a*b)
  (fun s hs=>by
   obtain ⟨v,x,y⟩:=s
   obtain ⟨a1,a2,a3,a4⟩:=hs
   dsimp only at a1 a2 a3 a4 ⊢
   by_cases h0:0≤v
   ·left
    obtain ⟨k,rfl⟩:∃ k:Nat,v=(k:Int):=⟨v.toNat,by omega⟩
    have ek:((k:Int)+1).toNat=k+1:=by omega
    rw [ek] at a4
    have hs:=wV b k
    have hbk:0≤b / 2 ^ k:=Int.ediv_nonneg hb.1 (Int.le_of_lt (Int.pow_pos (by omega)))
    have hbk2:b / 2 ^ k≤b:=Int.ediv_le_self _ hb.1
    have hm:a*(b / 2 ^ k)=2*(a*(b / 2 ^ (k+1)))+a*(b / 2 ^ k % 2):=by
     have:=congrArg (a * ·) hs
     simp only [Int.mul_add] at this
     rw [this,← Int.mul_assoc,Int.mul_comm a 2,Int.mul_assoc]
    have hle:a*(b / 2 ^ k)≤18446744073709551615*18446744073709551615:=Int.mul_le_mul (by unfold U64 at ha;omega) (by unfold U64 at hb;omega) hbk (by omega)
    have hnn:0≤a*(b / 2 ^ k % 2):=Int.mul_nonneg ha.1 (by omega)
    rw [det h0]
    simp only [bT]
    obtain ⟨w,o,c1,c2,c3⟩:=uc a3 a3
    have c3:=c3 (by omega)
    rw [o8 c1]
    have hg:kZ (k:Int)=some ():=by unfold kZ;rw [if_pos h0]
    rw [o8 hg,oY (by omega),Int.toNat_natCast,vn ⟨hbk,by unfold U64 at hb;omega⟩,cI (by omega) (by omega)]
    rcases (by omega:b / 2 ^ k % 2=0∨b / 2 ^ k % 2=1) with e | e
    ·rw [e] at hm ⊢
     refine ⟨_,rfl,⟨by dsimp only;omega,by dsimp only;omega,c2,?_⟩,by dsimp only;omega⟩
     have:((k:Int) - 1+1).toNat=k:=by omega
     dsimp only;rw [this,hm];show rv w=_;omega
    rw [e] at hm ⊢
    obtain ⟨w2,o2,d1,d2,d3⟩:=uc (p:=w) (q:=⟨0,a⟩) c2 ⟨⟨by simp,by simp⟩,ha⟩
    have e0:rv ⟨0,a⟩=a:=by simp [rv]
    rw [e0] at d3
    have d3:=d3 (by omega)
    simp only [beq_self_eq_true,bT]
    rw [o8 d1]
    refine ⟨_,rfl,⟨by dsimp only;omega,by dsimp only;omega,d2,?_⟩,by dsimp only;omega⟩
    have:((k:Int) - 1+1).toNat=k:=by omega
    dsimp only;rw [this,hm];show rv w2=_;omega
   right
   rw [bD h0]
   have:v = -1:=by omega
   subst this
   refine ⟨_,rfl,a3,?_⟩
   rw [a4];simp)
  FUEL (63,0,0) ⟨by simp,by simp,⟨⟨by simp,by simp⟩,⟨by simp,by simp⟩⟩,by
   have:b / 18446744073709551616=0:=Int.ediv_eq_zero_of_lt hb.1 hb.2
   simp [rv,this]⟩ (jY (by simp))
 obtain ⟨t1,t2⟩:=t
 rw [o8 h5]
 exact ⟨_,rfl,h6.1,h6.2⟩
theorem iand63:∀ {n:Nat},n<128→dU .i64 (n:Int) 63=((n % 64:Nat):Int):=by decide
theorem FL {a:Int} (h:U64 a):fS .u64 a 1=(2*a) % 18446744073709551616:=by
 have e:fS .u64 a 1=IntKind.u64.wrap (a*2):=rfl
 rw [e,wu,Int.mul_comm]
theorem Ct {a b:Int} (ha:U64 a) (h2:a % 2=0) (hb:b=0∨b=1):qI .u64 a b=a+b:=by
 rw [FK ha (by rcases hb with rfl | rfl <;> exact ⟨by omega,by omega⟩)]
 unfold U64 at ha
 rcases hb with rfl | rfl
 ·simp;omega
 have:a.toNat ||| (1:Int).toNat=a.toNat+1:=by
  have e:a.toNat=2 ^ 1*(a.toNat / 2):=by omega
  have:=Nat.two_pow_add_eq_or_of_lt (i:=1) (b:=1) (by omega) (a.toNat / 2)
  rw [← e] at this
  exact this.symm
 rw [this];omega
theorem bit_lo {h l:Int} (hl:U64 l) {k:Nat} (hk:k<64):(h*18446744073709551616+l) / 2 ^ k % 2=l / 2 ^ k % 2:=by
 have e:(18446744073709551616:Int)=2 ^ k*(2*2 ^ (63 - k)):=by
  have:(2:Int) ^ k*(2*2 ^ (63 - k))=2 ^ (k+(1+(63 - k))):=by rw [Int.pow_add,Int.pow_add];rfl
  rw [this,show k+(1+(63 - k))=64 by omega];rfl
 have hp:(2:Int) ^ k≠0:=Int.ne_of_gt (Int.pow_pos (by omega))
 rw [e,show h*(2 ^ k*(2*2 ^ (63 - k)))+l=l+2 ^ k*(2*(h*2 ^ (63 - k))) by rw [Int.add_comm,Int.mul_left_comm h,Int.mul_left_comm h 2],Int.add_mul_ediv_left _ _ hp,Int.add_mul_emod_self_left]
theorem bit_hi {h l:Int} (hl:U64 l) {k:Nat} (hk:64≤k):(h*18446744073709551616+l) / 2 ^ k=h / 2 ^ (k - 64):=by
 have e:(2:Int) ^ k=18446744073709551616*2 ^ (k - 64):=by
  have:(18446744073709551616:Int)*2 ^ (k - 64)=2 ^ (64+(k - 64)):=by rw [Int.pow_add];rfl
  rw [this,show 64+(k - 64)=k by omega]
 rw [e,← Int.ediv_ediv_of_nonneg (by omega)]
 congr 1
 unfold U64 at hl;omega
theorem Bq {p:Zn} {d:Int} (hp:RW p) (hd:U64 d) (h1:1≤d):∃ q r,oG p d=some (q,r)∧RW q∧rv q=rv p / d∧r=rv p % d:=by
 have hN:0≤rv p∧rv p<340282366920938463463374607431768211456:=by obtain ⟨⟨a,b⟩,⟨c,e⟩⟩:=hp;unfold rv;omega
 unfold oG
 obtain ⟨t,h5,h6⟩:=mq (body:=fun (v4,v5,v6,v7)=>cond (decide (0≤v5)) (Option.bind (Option.bind (kZ (dU .i64 v5 63)) (fun u18=>lb ((dU .u64 (cH .u64 p.Lo (dU .i64 v5 63)) 1)) (fun w19=>Option.bind (cond (decide (63<v5)) (Option.bind (kZ (IntKind.i64.wrap (v5 - 64))) (fun u23=>lb ((dU .u64 (cH .u64 p.Hi (IntKind.i64.wrap (v5 - 64))) 1)) (fun w24=>some w24))) (some w19)) (fun v20=>Option.bind (iQ (⟨v6,v7⟩:Zn) (⟨v6,v7⟩:Zn)) (fun x25=>cond (((cH .u64 v4 63) == 1)||(decide (d≤(qI .u64 (fS .u64 v4 1) v20)))) (lb ((IntKind.u64.wrap ((qI .u64 (fS .u64 v4 1) v20) - d))) (fun w27=>some (w27,x25.1.Hi,(qI .u64 x25.1.Lo 1)))) (some ((qI .u64 (fS .u64 v4 1) v20),x25.1.Hi,x25.1.Lo))))))) (fun (v14,v15,v16)=>some (.inl (v14,(IntKind.i64.wrap (v5 - 1)),v15,v16)))) (some (.inr (v4,v6,v7))))
  (fun s:Int×Int×Int×Int => -1≤s.2.1∧s.2.1≤127∧RW ⟨s.2.2.1,s.2.2.2⟩∧0≤s.1∧s.1<d∧rv p / 2 ^ (s.2.1+1).toNat=rv ⟨s.2.2.1,s.2.2.2⟩ * d+s.1) (fun s=>(s.2.1+1).toNat) (fun t:Int×Int×Int=>RW ⟨t.2.1,t.2.2⟩∧0≤t.1∧t.1<d∧rv p=rv ⟨t.2.1,t.2.2⟩ * d+t.1)
  (fun s hs=>by
   obtain ⟨v4,v5,x,y⟩:=s
   obtain ⟨a1,a2,a3,a4,a5,a6⟩:=hs
   dsimp only at a1 a2 a3 a4 a5 a6 ⊢
   by_cases h0:0≤v5
   ·left
    obtain ⟨k,rfl⟩:∃ k:Nat,v5=(k:Int):=⟨v5.toNat,by omega⟩
    have ek:((k:Int)+1).toNat=k+1:=by omega
    rw [ek] at a6
    have hs:=wV (rv p) k
    generalize hbit:rv p / 2 ^ k % 2=bit at hs
    have hb01:bit=0∨bit=1:=by omega
    rw [det h0,iand63 (by omega)]
    simp only [bT]
    have hg:kZ ((k % 64:Nat):Int)=some ():=by unfold kZ;rw [if_pos (by omega)]
    rw [o8 hg]
    unfold lb
    have hv:(cond (decide (63<(k:Int))) (Option.bind (kZ (IntKind.i64.wrap ((k:Int) - 64))) (fun _=>some (dU .u64 (cH .u64 p.Hi (IntKind.i64.wrap ((k:Int) - 64))) 1))) (some (dU .u64 (cH .u64 p.Lo ((k % 64:Nat):Int)) 1)))=some bit:=by
     by_cases hk:63<(k:Int)
     ·rw [det hk,cI (by omega) (by omega)]
      have hg2:kZ ((k:Int) - 64)=some ():=by unfold kZ;rw [if_pos (by omega)]
      simp only [bT]
      rw [o8 hg2,oY (by omega),show ((k:Int) - 64).toNat=k - 64 by omega,vn ⟨Int.ediv_nonneg hp.1.1 (Int.le_of_lt (Int.pow_pos (by omega))),Int.lt_of_le_of_lt (Int.ediv_le_self _ hp.1.1) hp.1.2⟩,← hbit]
      unfold rv;rw [bit_hi hp.2 (by omega)]
     rw [bD hk]
     simp only [bx]
     rw [oY (by omega),Int.toNat_natCast,Nat.mod_eq_of_lt (by omega),vn ⟨Int.ediv_nonneg hp.2.1 (Int.le_of_lt (Int.pow_pos (by omega))),Int.lt_of_le_of_lt (Int.ediv_le_self _ hp.2.1) hp.2.2⟩,← hbit]
     unfold rv;rw [bit_lo hp.2 (by omega)]
    dsimp only
    rw [o8 hv]
    obtain ⟨w,o,c1,c2,c3⟩:=uc a3 a3
    have hq0:0≤rv ⟨x,y⟩:=by obtain ⟨⟨b1,b2⟩,⟨b3,b4⟩⟩:=a3;unfold rv;dsimp only at *;omega
    have hqd:rv ⟨x,y⟩≤rv ⟨x,y⟩ * d:=by have:=Int.mul_le_mul_of_nonneg_left h1 hq0;omega
    have hle:rv p / 2 ^ k≤rv p:=Int.ediv_le_self _ hN.1
    have c3:=c3 (by omega)
    rw [o8 c1]
    have hu4:U64 v4:=⟨a4,by unfold U64 at hd;omega⟩
    have hsh:cH .u64 v4 63=v4 / 9223372036854775808:=oY (by omega)
    have hlow:qI .u64 (fS .u64 v4 1) bit=(2*v4) % 18446744073709551616+bit:=by rw [FL hu4];exact Ct ⟨by omega,by omega⟩ (by omega) hb01
    rw [hlow,hsh,cI (by omega) (by omega)]
    have ekk:((k:Int) - 1+1).toNat=k:=by omega
    unfold U64 at hd hu4
    by_cases hT:d≤2*v4+bit
    ·have hc:((v4 / 9223372036854775808 == 1)||decide (d≤(2*v4) % 18446744073709551616+bit))=true:=by
      simp only [Bool.or_eq_true,beq_iff_eq,decide_eq_true_eq];omega
     rw [hc]
     simp only [bT]
     obtain ⟨⟨e1,e2⟩,⟨e3,e4⟩⟩:=c2
     have hev:w.Lo % 2=0:=by unfold rv at c3;dsimp only at c3;omega
     rw [Ct ⟨e3,e4⟩ hev (.inr rfl),wu]
     refine ⟨_,rfl,⟨by dsimp only;omega,by dsimp only;omega,⟨⟨e1,e2⟩,⟨by dsimp only;omega,by dsimp only;omega⟩⟩,by dsimp only;omega,by dsimp only;omega,?_⟩,by dsimp only;omega⟩
     dsimp only
     rw [ekk,hs,a6]
     have e5:rv ⟨w.Hi,w.Lo+1⟩=2*rv ⟨x,y⟩+1:=by unfold rv at c3 ⊢;dsimp only at c3 ⊢;omega
     rw [e5,Int.add_mul,Int.mul_assoc];omega
    ·have hc:((v4 / 9223372036854775808 == 1)||decide (d≤(2*v4) % 18446744073709551616+bit))=false:=by
      simp only [Bool.or_eq_false_iff,beq_eq_false_iff_ne,decide_eq_false_iff_not];omega
     rw [hc]
     simp only [bx]
     refine ⟨_,rfl,⟨by dsimp only;omega,by dsimp only;omega,c2,by dsimp only;omega,by dsimp only;omega,?_⟩,by dsimp only;omega⟩
     dsimp only
     rw [ekk,hs,a6,show rv ⟨w.Hi,w.Lo⟩=2*rv ⟨x,y⟩ by show rv w=_;omega,Int.mul_assoc];omega
   right
   rw [bD h0]
   have:v5 = -1:=by omega
   subst this
   refine ⟨_,rfl,a3,a4,a5,?_⟩
   rw [← a6];simp)
  FUEL (0,127,0,0) ⟨by simp,by simp,⟨⟨by simp,by simp⟩,⟨by simp,by simp⟩⟩,by simp,by simp;omega,by
   have:rv p / 340282366920938463463374607431768211456=0:=Int.ediv_eq_zero_of_lt hN.1 hN.2
   simp [rv] at this ⊢;exact this⟩ (jY (by simp))
 obtain ⟨t1,t2,t3⟩:=t
 rw [o8 h5]
 obtain ⟨g1,g2,g3,g4⟩:=h6
 dsimp only at g1 g2 g3 g4
 have gd:rv p / d=rv ⟨t2,t3⟩:=by
  rw [g4,Int.add_comm,Int.add_mul_ediv_right _ _ (by omega),Int.ediv_eq_zero_of_lt g2 g3,Int.zero_add]
 refine ⟨_,_,rfl,g1,gd.symm,?_⟩
 have:=Int.emod_add_mul_ediv (rv p) d
 rw [gd,Int.mul_comm] at this
 omega
structure KnInv (u u1 y1 y0 q rh:Int):Prop where
 eq:u=q*y1+rh
 r0:0≤rh
 r1:rh<4294967296
 q0:0≤q
 q1:q≤4294967297
 up:u*4294967296+u1<q*(y1*4294967296+y0)+(y1*4294967296+y0)
section
variable {u u1 y1 y0 q rh:Int} (hu:0≤u) (huy:u<y1*4294967296+y0) (h1:0≤u1) (h1':u1<4294967296) (hy:2147483648≤y1) (hy':y1<4294967296) (hz:0≤y0) (hz':y0<4294967296)
include hu huy h1 h1' hy hy' hz hz'
theorem rS:KnInv u u1 y1 y0 (u / y1) (u % y1):=by
 have hq0:0≤u / y1:=Int.ediv_nonneg hu (by omega)
 have hr0:=Int.emod_nonneg u (show y1≠0 by omega)
 have hr1:=Int.emod_lt_of_pos u (show 0<y1 by omega)
 have he:=Int.emod_add_mul_ediv u y1
 rw [Int.mul_comm] at he
 have hz2:0≤u / y1*y0:=Int.mul_nonneg hq0 hz
 refine ⟨by omega,hr0,by omega,hq0,?_,?_⟩
 ·apply Int.le_of_lt_add_one
  apply Int.ediv_lt_of_lt_mul (by omega)
  omega
 rw [Int.mul_add,← Int.mul_assoc];omega
theorem ud (i:KnInv u u1 y1 y0 q rh) (h:4294967296≤q∨4294967296*rh+u1<q*y0):u*4294967296+u1<q*(y1*4294967296+y0)∧1≤q:=by
 have e:=i.eq
 have hlt:u*4294967296+u1<q*(y1*4294967296+y0):=by
  rcases h with h | h
  ·have:4294967296*(y1*4294967296+y0)≤q*(y1*4294967296+y0):=Int.mul_le_mul_of_nonneg_right h (by omega)
   omega
  rw [Int.mul_add,← Int.mul_assoc];omega
 refine ⟨hlt,?_⟩
 have hq:=i.q0
 by_cases hq0:q=0
 ·subst hq0;rw [Int.zero_mul] at hlt;omega
 omega
theorem Cu (i:KnInv u u1 y1 y0 q rh) (h:4294967296≤q∨4294967296*rh+u1<q*y0) (h2:rh+y1<4294967296):KnInv u u1 y1 y0 (q - 1) (rh+y1):=by
 obtain ⟨hlt,hq⟩:=ud hu huy h1 h1' hy hy' hz hz' i h
 have:=i.eq;have:=i.r0;have:=i.q1
 refine ⟨by rw [Int.sub_mul];omega,by omega,h2,by omega,by omega,?_⟩
 rw [Int.sub_mul];omega
theorem Cv (i:KnInv u u1 y1 y0 q rh) (h:4294967296≤q∨4294967296*rh+u1<q*y0) (h2:4294967296≤rh+y1):(q - 1)*(y1*4294967296+y0)≤u*4294967296+u1∧u*4294967296+u1<(q - 1)*(y1*4294967296+y0)+(y1*4294967296+y0):=by
 obtain ⟨hlt,hq⟩:=ud hu huy h1 h1' hy hy' hz hz' i h
 have e:=i.eq;have:=i.r0;have hq1:=i.q1
 refine ⟨?_,by rw [Int.sub_mul];omega⟩
 have hz2:(q - 1)*y0≤4294967296*4294967295:=Int.mul_le_mul (by omega) (by omega) hz (by omega)
 rw [Int.mul_add,← Int.mul_assoc]
 rw [Int.sub_mul q 1 y1]
 omega
omit hu huy h1 h1' hy hy' hz hz' in
theorem zY (i:KnInv u u1 y1 y0 q rh) (h:¬ (4294967296≤q∨4294967296*rh+u1<q*y0)):q*(y1*4294967296+y0)≤u*4294967296+u1:=by
 have e:=i.eq
 rw [Int.mul_add,← Int.mul_assoc];omega
end
section
variable {u u1 y1 y0:Int} (hu:0≤u) (huy:u<y1*4294967296+y0) (h1:0≤u1) (h1':u1<4294967296) (hy:2147483648≤y1) (hy':y1<4294967296) (hz:0≤y0) (hz':y0<4294967296)
include hu huy h1 h1' hy hy' hz hz'
omit hu huy hy hy' in
theorem Cw {q rh:Int} (i:KnInv u u1 y1 y0 q rh):((decide (4294967296≤q))||(decide ((IntKind.u64.wrap ((IntKind.u64.wrap (4294967296*rh))+u1))<(IntKind.u64.wrap (q*y0)))))=decide (4294967296≤q∨4294967296*rh+u1<q*y0):=by
 have:=i.r0;have:=i.r1;have:=i.q0
 rw [fx (a:=4294967296*rh) ⟨by omega,by omega⟩,fx (a:=4294967296*rh+u1) ⟨by omega,by omega⟩]
 by_cases hq:4294967296≤q
 ·rw [det hq,det (Or.inl hq)];rfl
 have hp:q*y0≤4294967295*4294967295:=Int.mul_le_mul (by omega) (by omega) hz (by omega)
 have hp0:0≤q*y0:=Int.mul_nonneg (by omega) hz
 rw [fx (a:=q*y0) ⟨hp0,by omega⟩,bD hq,Bool.false_or]
 congr 1
 exact propext ⟨.inr,fun h=>h.resolve_left hq⟩
omit hy hy' hz hz' in
theorem yj {q:Int} (h0:0≤q) (h2:q*(y1*4294967296+y0)≤u*4294967296+u1):q<4294967296:=by
 have:q*(y1*4294967296+y0)<4294967296*(y1*4294967296+y0):=by omega
 exact Int.lt_of_mul_lt_mul_right this (by omega)
def KQ (u u1 y1 y0 q:Int):Prop:=0≤q∧q<4294967296∧q*(y1*4294967296+y0)≤u*4294967296+u1∧u*4294967296+u1<q*(y1*4294967296+y0)+(y1*4294967296+y0)
theorem FM:∃ q,aN (S:=Int×Int) (T:=(Int)) (fun (v18,v19)=>cond ((decide (4294967296≤v18))||(decide ((IntKind.u64.wrap ((IntKind.u64.wrap (4294967296*v19))+u1))<(IntKind.u64.wrap (v18*y0))))) (cond (decide (4294967296≤(IntKind.u64.wrap (v19+y1)))) (some (.inr (IntKind.u64.wrap (v18 - 1)))) (some (.inl ((IntKind.u64.wrap (v18 - 1)),(IntKind.u64.wrap (v19+y1)))))) (some (.inr v18))) FUEL (u / y1,u % y1)=some q∧KQ u u1 y1 y0 q:=by
 refine mq (fun s:Int×Int=>KnInv u u1 y1 y0 s.1 s.2) (fun s=>s.1.toNat) (KQ u u1 y1 y0) ?_ FUEL _ (rS hu huy h1 h1' hy hy' hz hz') ?_
 ·rintro ⟨q,rh⟩ i
  dsimp only at i ⊢
  rw [Cw h1 h1' hz hz' i]
  have i0:=i.r0;have i1:=i.r1;have i2:=i.q0;have i3:=i.q1
  by_cases h:4294967296≤q∨4294967296*rh+u1<q*y0
  ·rw [det h]
   obtain ⟨_,hq1⟩:=ud hu huy h1 h1' hy hy' hz hz' i h
   rw [fx (a:=rh+y1) ⟨by omega,by omega⟩,fx (a:=q - 1) ⟨by omega,by omega⟩]
   by_cases h2:4294967296≤rh+y1
   ·rw [det h2];right
    obtain ⟨e1,e2⟩:=Cv hu huy h1 h1' hy hy' hz hz' i h h2
    exact ⟨_,rfl,by omega,yj hu huy h1 h1' (by omega) e1,e1,e2⟩
   rw [bD h2];left
   exact ⟨_,rfl,Cu hu huy h1 h1' hy hy' hz hz' i h (by omega),by dsimp only;omega⟩
  rw [bD h];right
  have e1:=zY i h
  exact ⟨_,rfl,i2,yj hu huy h1 h1' i2 e1,e1,i.up⟩
 have:=(rS hu huy h1 h1' hy hy' hz hz').q1
 exact jY (by dsimp only;omega)
theorem FN:∃ q,aN (S:=Int×Int) (T:=(Int)) (fun (v28,v29)=>cond ((decide (4294967296≤v29))||(decide ((IntKind.u64.wrap ((IntKind.u64.wrap (4294967296*v28))+u1))<(IntKind.u64.wrap (v29*y0))))) (cond (decide (4294967296≤(IntKind.u64.wrap (v28+y1)))) (some (.inr (IntKind.u64.wrap (v29 - 1)))) (some (.inl ((IntKind.u64.wrap (v28+y1)),(IntKind.u64.wrap (v29 - 1)))))) (some (.inr v29))) FUEL (u % y1,u / y1)=some q∧KQ u u1 y1 y0 q:=by
 refine mq (fun s:Int×Int=>KnInv u u1 y1 y0 s.2 s.1) (fun s=>s.2.toNat) (KQ u u1 y1 y0) ?_ FUEL _ (rS hu huy h1 h1' hy hy' hz hz') ?_
 ·rintro ⟨rh,q⟩ i
  dsimp only at i ⊢
  rw [Cw h1 h1' hz hz' i]
  have i0:=i.r0;have i1:=i.r1;have i2:=i.q0;have i3:=i.q1
  by_cases h:4294967296≤q∨4294967296*rh+u1<q*y0
  ·rw [det h]
   obtain ⟨_,hq1⟩:=ud hu huy h1 h1' hy hy' hz hz' i h
   rw [fx (a:=rh+y1) ⟨by omega,by omega⟩,fx (a:=q - 1) ⟨by omega,by omega⟩]
   by_cases h2:4294967296≤rh+y1
   ·rw [det h2];right
    obtain ⟨e1,e2⟩:=Cv hu huy h1 h1' hy hy' hz hz' i h h2
    exact ⟨_,rfl,by omega,yj hu huy h1 h1' (by omega) e1,e1,e2⟩
   rw [bD h2];left
   exact ⟨_,rfl,Cu hu huy h1 h1' hy hy' hz hz' i h (by omega),by dsimp only;omega⟩
  rw [bD h];right
  have e1:=zY i h
  exact ⟨_,rfl,i2,yj hu huy h1 h1' i2 e1,e1,i.up⟩
 have:=(rS hu huy h1 h1' hy hy' hz hz').q1
 exact jY (by dsimp only;omega)
end
theorem Ds {a v:Int} {k n:Nat} (h:v=a / 2 ^ k) (hn:1≤n) (l:2 ^ (n - 1)≤v) (g:v<2 ^ n):2 ^ (k+n - 1)≤a∧a<2 ^ (k+n):=by
 have hp:(0:Int)<2 ^ k:=Int.pow_pos (by omega)
 have e1:=Int.ediv_mul_le a (Int.ne_of_gt hp)
 have e2:=Int.lt_ediv_add_one_mul_self a hp
 rw [← h] at e1 e2
 constructor
 ·rw [show k+n - 1=(n - 1)+k by omega,Int.pow_add]
  exact Int.le_trans (Int.mul_le_mul_of_nonneg_right l (Int.le_of_lt hp)) e1
 rw [show k+n=n+k by omega,Int.pow_add]
 exact Int.lt_of_lt_of_le e2 (Int.mul_le_mul_of_nonneg_right (by omega) (Int.le_of_lt hp))
def Br:ByteArray:=⟨#[0,1,2,2,3,3,3,3,4,4,4,4,4,4,4,4,5,5,5,5,5,5,5,5,5,5,5,5,5,5,5,5,6,6,6,6,6,6,6,6,6,6,6,6,6,6,6,6,6,6,6,6,6,6,6,6,6,6,6,6,6,6,6,6,7,7,7,7,7,7,7,7,7,7,7,7,7,7,7,7,7,7,7,7,7,7,7,7,7,7,7,7,7,7,7,7,7,7,7,7,7,7,7,7,7,7,7,7,7,7,7,7,7,7,7,7,7,7,7,7,7,7,7,7,7,7,7,7,8,8,8,8,8,8,8,8,8,8,8,8,8,8,8,8,8,8,8,8,8,8,8,8,8,8,8,8,8,8,8,8,8,8,8,8,8,8,8,8,8,8,8,8,8,8,8,8,8,8,8,8,8,8,8,8,8,8,8,8,8,8,8,8,8,8,8,8,8,8,8,8,8,8,8,8,8,8,8,8,8,8,8,8,8,8,8,8,8,8,8,8,8,8,8,8,8,8,8,8,8,8,8,8,8,8,8,8,8,8,8,8,8,8,8,8,8,8,8,8,8,8,8,8,8,8,8,8]⟩
theorem Bs:∀ v:Fin 256,(match idx Br.data.toList (v.val:Int) with | some c=>decide (1≤v.val→1≤c.toNat∧2 ^ (c.toNat - 1)≤v.val)&&decide (v.val<2 ^ c.toNat)&&decide (c.toNat≤8) | none=>false)=true:=by decide
theorem Dt {v:Int} (h0:0≤v) (h1:v<256):∃ c,idx Br.data.toList v=some c∧(1≤v→1≤c.toNat∧2 ^ (c.toNat - 1)≤v)∧v<2 ^ c.toNat∧c.toNat≤8:=by
 obtain ⟨k,rfl⟩:∃ k:Nat,v=(k:Int):=⟨v.toNat,by omega⟩
 have:=Bs ⟨k,by omega⟩
 split at this
 ·rename_i c hc
  simp only [Bool.and_eq_true,decide_eq_true_eq] at this
  obtain ⟨⟨a,b⟩,d⟩:=this
  refine ⟨c,hc,fun h=>⟨(a (by omega)).1,?_⟩,?_,d⟩
  ·have:=(a (by omega)).2;exact_mod_cast this
  exact_mod_cast b
 cases this
theorem len64 {a:Int} (ha:U64 a) (h1:1≤a):∃ n:Nat,fZ a=some (n:Int)∧1≤n∧n≤64∧2 ^ (n - 1)≤a∧a<2 ^ n:=by
 have key:∃ (k:Nat) (v:Int),k≤56∧v=a / 2 ^ k∧1≤v∧v<256∧fZ a=Option.bind (idx Br.data.toList (IntKind.u8.wrap v)) (fun c13=>lb ((IntKind.i64.wrap ((k:Int)+(IntKind.i64.wrap (c13.toNat:Int))))) (fun w14=>some w14)):=by
  unfold U64 at ha
  have s32:∀ x:Int,cH .u64 x 32=x / 4294967296:=fun x=>oY (by decide)
  have s16:∀ x:Int,cH .u64 x 16=x / 65536:=fun x=>oY (by decide)
  have s8:∀ x:Int,cH .u64 x 8=x / 256:=fun x=>oY (by decide)
  unfold fZ
  simp only [s32,s16,s8]
  by_cases c1:4294967296≤a
  ·rw [det c1]
   simp only [bT,ba]
   by_cases c2:65536≤a / 4294967296
   ·rw [det c2]
    simp only [bT,ba]
    by_cases c3:256≤a / 4294967296 / 65536
    ·rw [det c3]
     exact ⟨56,a / 4294967296 / 65536 / 256,by omega,by simp only [Int.reducePow];omega,by omega,by omega,rfl⟩
    rw [bD c3]
    exact ⟨48,a / 4294967296 / 65536,by omega,by simp only [Int.reducePow];omega,by omega,by omega,rfl⟩
   rw [bD c2]
   simp only [bx,ba]
   by_cases c3:256≤a / 4294967296
   ·rw [det c3]
    exact ⟨40,a / 4294967296 / 256,by omega,by simp only [Int.reducePow];omega,by omega,by omega,rfl⟩
   rw [bD c3]
   exact ⟨32,a / 4294967296,by omega,by simp only [Int.reducePow],by omega,by omega,rfl⟩
  rw [bD c1]
  simp only [bx,ba]
  by_cases c2:65536≤a
  ·rw [det c2]
   simp only [bT,ba]
   by_cases c3:256≤a / 65536
   ·rw [det c3]
    exact ⟨24,a / 65536 / 256,by omega,by simp only [Int.reducePow];omega,by omega,by omega,rfl⟩
   rw [bD c3]
   exact ⟨16,a / 65536,by omega,by simp only [Int.reducePow],by omega,by omega,rfl⟩
  rw [bD c2]
  simp only [bx,ba]
  by_cases c3:256≤a
  ·rw [det c3]
   exact ⟨8,a / 256,by omega,by simp only [Int.reducePow],by omega,by omega,rfl⟩
  rw [bD c3]
  exact ⟨0,a,by omega,by simp,by omega,by omega,rfl⟩
 obtain ⟨k,v,k1,k2,k3,k4,k5⟩:=key
 obtain ⟨c,c1,c2,c3,c4⟩:=Dt (v:=v) (by omega) k4
 obtain ⟨c5,c6⟩:=c2 k3
 obtain ⟨l1,l2⟩:=Ds k2 c5 c6 c3
 rw [k5,xu (by omega),o8 c1]
 unfold lb
 rw [cI (r:=(c.toNat:Int)) (by omega) (by omega),cI (by omega) (by omega)]
 exact ⟨k+c.toNat,by simp,by omega,by omega,l1,l2⟩
theorem lz64 {a:Int} (ha:U64 a) (h1:1≤a):∃ s:Nat,dy a=some (s:Int)∧s≤63∧9223372036854775808≤a*2 ^ s∧a*2 ^ s<18446744073709551616:=by
 obtain ⟨n,e1,e2,e3,e4,e5⟩:=len64 ha h1
 unfold dy
 rw [o8 e1,cI (by omega) (by omega)]
 refine ⟨64 - n,by congr 1;omega,by omega,?_,?_⟩
 ·have:=Int.mul_le_mul_of_nonneg_right e4 (Int.le_of_lt (show (0:Int)<2 ^ (64 - n) from Int.pow_pos (by decide)))
  rw [← Int.pow_add,show n - 1+(64 - n)=63 by omega] at this
  exact this
 have:=Int.mul_lt_mul_of_pos_right e5 (show (0:Int)<2 ^ (64 - n) from Int.pow_pos (by decide))
 rw [← Int.pow_add,show n+(64 - n)=64 by omega] at this
 exact this
theorem Bt {b:Int} (h:0≤b):kZ b=some ():=by unfold kZ;rw [if_pos h]
theorem Bu {a:Int} {s:Nat} (h:s≤64):fS .u64 a (s:Int)=IntKind.u64.wrap (a*2 ^ s):=by
 have e:fS .u64 a (s:Int)=IntKind.u64.wrap (a*2 ^ min (s:Int).toNat 64):=rfl
 rw [e,Int.toNat_natCast,Nat.min_eq_left h]
theorem ior_sh {h b:Int} {s:Nat} (hh:0≤h) (hb:0≤b) (hb2:b<2 ^ s) (h1:U64 (h*2 ^ s)) (h2:U64 b):qI .u64 (h*2 ^ s) b=h*2 ^ s+b:=by
 rw [FK h1 h2]
 obtain ⟨x,rfl⟩:∃ k:Nat,h=(k:Int):=⟨h.toNat,by omega⟩
 obtain ⟨z,rfl⟩:∃ k:Nat,b=(k:Int):=⟨b.toNat,by omega⟩
 have e:((x:Int)*2 ^ s)=((2 ^ s*x:Nat):Int):=by push_cast;exact Int.mul_comm _ _
 have hz:z<2 ^ s:=by exact_mod_cast hb2
 rw [e,Int.toNat_natCast,Int.toNat_natCast,← Nat.two_pow_add_eq_or_of_lt hz]
 rfl
theorem dm_of {n q r y:Int} (e:n=q*y+r) (h0:0≤r) (h1:r<y):n / y=q∧n % y=r:=by
 have gd:n / y=q:=by
  rw [e,Int.add_comm,Int.add_mul_ediv_right _ _ (by omega),Int.ediv_eq_zero_of_lt h0 h1,Int.zero_add]
 refine ⟨gd,?_⟩
 have:=Int.emod_add_mul_ediv n y
 rw [gd,Int.mul_comm] at this
 omega
theorem div64 {hi lo y:Int} (h1:U64 hi) (h2:U64 lo) (h3:U64 y) (h4:hi<y):ic hi lo y=some ((hi*18446744073709551616+lo) / y,(hi*18446744073709551616+lo) % y):=by
 have hi0:=h1.1
 have hlo:=h2.1
 have hy1:1≤y:=by omega
 unfold ic
 have cy:(y == 0)=false:=by simp;omega
 rw [cy,bD (show ¬ y≤hi by omega)]
 simp only [bx]
 by_cases hz:hi=0
 ·subst hz
  have:((0:Int) == 0)=true:=rfl
  rw [this]
  simp only [bT]
  rw [o8 (Fa (show y≠0 by omega)),o8 (Fa (show y≠0 by omega)),Int.tdiv_eq_ediv_of_nonneg hlo,Int.tmod_eq_emod_of_nonneg hlo]
  have:lo / y≤lo:=Int.ediv_le_self _ hlo
  rw [fx ⟨Int.ediv_nonneg hlo (by omega),by have:=h2.2;omega⟩]
  simp
 have cz:(hi == 0)=false:=by simp;exact hz
 rw [cz]
 simp only [bx]
 obtain ⟨s,e1,e2,e3,e4⟩:=lz64 h3 hy1
 have hP:(0:Int)<2 ^ s:=Int.pow_pos (by omega)
 have hM:(0:Int)<2 ^ (64 - s):=Int.pow_pos (by omega)
 have hPM:(2:Int) ^ s*2 ^ (64 - s)=18446744073709551616:=by rw [← Int.pow_add,show s+(64 - s)=64 by omega];rfl
 have hhP:hi*2 ^ s<y*2 ^ s:=Int.mul_lt_mul_of_pos_right h4 hP
 have hhP0:0≤hi*2 ^ s:=Int.mul_nonneg hi0 (by omega)
 have hqd0:0≤lo / 2 ^ (64 - s):=Int.ediv_nonneg hlo (by omega)
 have hqd1:lo / 2 ^ (64 - s)<2 ^ s:=by
  apply Int.ediv_lt_of_lt_mul hM
  rw [hPM];exact h2.2
 have hPle:(2:Int) ^ s≤18446744073709551616:=by rw [← hPM];have:=Int.mul_le_mul_of_nonneg_left (show (1:Int)≤2 ^ (64 - s) by omega) (Int.le_of_lt hP);omega
 have f1:IntKind.u64.wrap (s:Int)=(s:Int):=fx ⟨by omega,by omega⟩
 have f2:IntKind.u64.wrap (64 - (s:Int))=((64 - s:Nat):Int):=by rw [fx ⟨by omega,by omega⟩];omega
 have f3:fS .u64 y (s:Int)=y*2 ^ s:=by rw [Bu (by omega),fx ⟨by omega,e4⟩]
 have f4:fS .u64 hi (s:Int)=hi*2 ^ s:=by rw [Bu (by omega),fx ⟨hhP0,by omega⟩]
 have f5:cH .u64 lo ((64 - s:Nat):Int)=lo / 2 ^ (64 - s):=by rw [oY (by omega),Int.toNat_natCast]
 have f6:fS .u64 lo (s:Int)=(lo*2 ^ s) % 18446744073709551616:=by rw [Bu (by omega),wu]
 have f7:qI .u64 (hi*2 ^ s) (lo / 2 ^ (64 - s))=hi*2 ^ s+lo / 2 ^ (64 - s):=ior_sh hi0 hqd0 hqd1 ⟨hhP0,by omega⟩ ⟨hqd0,by omega⟩
 rw [o8 e1]
 simp only [lb,f1,f2,f3,f4,f5,f6,f7,Bt (Int.natCast_nonneg s),Bt (Int.natCast_nonneg (64 - s)),ba,Cr]
 have hN:(hi*18446744073709551616+lo)*2 ^ s=(hi*2 ^ s+lo / 2 ^ (64 - s))*18446744073709551616+(lo*2 ^ s) % 18446744073709551616:=by
  have g1:=Int.emod_add_mul_ediv lo (2 ^ (64 - s))
  have g2:lo*2 ^ s=lo % 2 ^ (64 - s)*2 ^ s+18446744073709551616*(lo / 2 ^ (64 - s)):=by
   have:=congrArg (· * (2:Int) ^ s) g1
   simp only [Int.add_mul] at this
   rw [← this,← hPM]
   rw [Int.mul_assoc,Int.mul_comm (lo / 2 ^ (64 - s)),← Int.mul_assoc,Int.mul_comm (2 ^ (64 - s)),Int.mul_assoc]
  have g3:0≤lo % 2 ^ (64 - s)*2 ^ s:=Int.mul_nonneg (Int.emod_nonneg _ (by omega)) (by omega)
  have g4:lo % 2 ^ (64 - s)*2 ^ s<18446744073709551616:=by
   rw [← hPM,Int.mul_comm (2 ^ s)]
   exact Int.mul_lt_mul_of_pos_right (Int.emod_lt_of_pos _ hM) hP
  rw [Int.add_mul,Int.mul_right_comm hi]
  generalize lo % 2 ^ (64 - s)*2 ^ s=A at *
  generalize lo / 2 ^ (64 - s)=B at *
  generalize lo*2 ^ s=C at *
  generalize hi*2 ^ s=D at *
  omega
 have hu0:0≤hi*2 ^ s+lo / 2 ^ (64 - s):=by omega
 have huy:hi*2 ^ s+lo / 2 ^ (64 - s)<y*2 ^ s:=by
  have:(hi+1)*2 ^ s≤y*2 ^ s:=Int.mul_le_mul_of_nonneg_right (by omega) (by omega)
  rw [Int.add_mul] at this;omega
 have hU0:0≤(lo*2 ^ s) % 18446744073709551616:=by omega
 have hU1:(lo*2 ^ s) % 18446744073709551616<18446744073709551616:=by omega
 have hfin:∀ q R:Int,(hi*18446744073709551616+lo)*2 ^ s=q*(y*2 ^ s)+R→0≤R→R<y*2 ^ s→(hi*18446744073709551616+lo) / y=q∧(hi*18446744073709551616+lo) % y=R / 2 ^ s:=by
  intro q R hq hR0 hR1
  have hr:R=(hi*18446744073709551616+lo - q*y)*2 ^ s:=by rw [Int.sub_mul,Int.mul_assoc q];omega
  have hd:R / 2 ^ s=hi*18446744073709551616+lo - q*y:=by rw [hr];exact Int.mul_ediv_cancel _ (by omega)
  rw [hd]
  generalize hi*18446744073709551616+lo=n at *
  have:0≤n - q*y:=by
   by_cases hc:0≤n - q*y
   ·exact hc
   have:=Int.mul_le_mul_of_nonneg_right (show n - q*y ≤ -1 by omega) (Int.le_of_lt hP);omega
  have:n - q*y<y:=by
   apply Int.lt_of_mul_lt_mul_right (a:=2 ^ s) _ (by omega)
   omega
  exact dm_of (by omega) (by assumption) (by assumption)
 generalize (hi*18446744073709551616+lo)*2 ^ s=NP at *
 generalize hYe:y*2 ^ s=Y at *
 generalize hi*2 ^ s+lo / 2 ^ (64 - s)=u at *
 generalize (lo*2 ^ s) % 18446744073709551616=U at *
 rw [qi (a:=Y) ⟨by omega,e4⟩,qi (a:=U) ⟨hU0,hU1⟩]
 have k1:Y / 4294967296*4294967296+Y % 4294967296=Y:=by omega
 have k2:2147483648≤Y / 4294967296:=by omega
 have k3:Y / 4294967296<4294967296:=by omega
 have k4:0≤Y % 4294967296:=by omega
 have k5:Y % 4294967296<4294967296:=by omega
 have k6:0≤U / 4294967296:=by omega
 have k7:U / 4294967296<4294967296:=by omega
 have k8:0≤U % 4294967296:=by omega
 have k9:U % 4294967296<4294967296:=by omega
 have k10:U=U / 4294967296*4294967296+U % 4294967296:=by omega
 generalize U / 4294967296=u1 at *
 generalize U % 4294967296=u0 at *
 generalize Y / 4294967296=y1 at *
 generalize Y % 4294967296=y0 at *
 have dv:∀ v:Int,0≤v→v<Y→IntKind.u64.wrap (Int.tdiv v y1)=v / y1∧IntKind.u64.wrap (v - IntKind.u64.wrap (v / y1*y1))=v % y1:=by
  intro v v0 v1
  have:=Int.ediv_le_self y1 v0
  have q0:=Int.ediv_nonneg v0 (show 0≤y1 by omega)
  have m0:=Int.emod_nonneg v (show y1≠0 by omega)
  have m1:=Int.emod_lt_of_pos v (show 0<y1 by omega)
  have e:=Int.emod_add_mul_ediv v y1
  rw [Int.mul_comm] at e
  rw [Int.tdiv_eq_ediv_of_nonneg v0,fx (a:=v / y1) ⟨q0,by omega⟩]
  refine ⟨rfl,?_⟩
  have:0≤v / y1*y1:=Int.mul_nonneg q0 (by omega)
  rw [fx (a:=v / y1*y1) ⟨this,by omega⟩,fx ⟨by omega,by omega⟩]
  omega
 have hnz:nz y1=some ():=Fa (by omega)
 obtain ⟨d1,d2⟩:=dv u hu0 huy
 simp only [hnz,d1,d2,ba]
 obtain ⟨q1,l1,l2,l3,l4,l5⟩:=FM (u:=u) (u1:=u1) (y1:=y1) (y0:=y0) hu0 (by omega) k6 k7 k2 k3 k4 k5
 rw [k1] at l4 l5
 rw [o8 l1]
 have w25:IntKind.u64.wrap (IntKind.u64.wrap (IntKind.u64.wrap (u*4294967296)+u1) - IntKind.u64.wrap (q1*Y))=u*4294967296+u1 - q1*Y:=by
  simp only [wu]
  generalize q1*Y=z at *
  omega
 simp only [w25]
 have v0:0≤u*4294967296+u1 - q1*Y:=by omega
 have v1:u*4294967296+u1 - q1*Y<Y:=by omega
 have hv:u*4294967296+u1=q1*Y+(u*4294967296+u1 - q1*Y):=by omega
 generalize u*4294967296+u1 - q1*Y=v at *
 obtain ⟨d3,d4⟩:=dv v v0 v1
 simp only [d3,d4]
 obtain ⟨q0,m1,m2,m3,m4,m5⟩:=FN (u:=v) (u1:=u0) (y1:=y1) (y0:=y0) v0 (by omega) k8 k9 k2 k3 k4 k5
 rw [k1] at m4 m5
 rw [o8 m1]
 have w36:IntKind.u64.wrap (IntKind.u64.wrap (q1*4294967296)+q0)=q1*4294967296+q0:=by simp only [wu];omega
 have w37:IntKind.u64.wrap (IntKind.u64.wrap (IntKind.u64.wrap (v*4294967296)+u0) - IntKind.u64.wrap (q0*Y))=v*4294967296+u0 - q0*Y:=by
  simp only [wu]
  generalize q0*Y=z at *
  omega
 rw [w36,w37,oY (by omega),Int.toNat_natCast]
 obtain ⟨g1,g2⟩:=hfin (q1*4294967296+q0) (v*4294967296+u0 - q0*Y) (by
  rw [hN,k10,Int.add_mul,Int.mul_right_comm]
  generalize q1*Y=z at *
  generalize q0*Y=z0 at *
  omega) (by omega) (by omega)
 rw [g1,g2]
def xv (w:Zo):Int:=w.Hi*18446744073709551616+w.Lo
def XW (w:Zo):Prop:=U64 w.Hi∧U64 w.Lo
theorem wW {a b:Int} (ha:U64 a) (hb:U64 b):∃ w,jC a b=some w∧XW w∧xv w=a*b:=by
 obtain ⟨h,l,e1,e2,e3,e4⟩:=mul64 ha hb
 unfold jC;rw [o8 e1]
 exact ⟨_,rfl,⟨e2,e3⟩,e4⟩
def Cx (n c m:Int):Int:=if (m=2∧c≤2*(n % c))∨(m=1∧0<n % c) then n / c+1 else n / c
theorem Du {w:Zo} {c m:Int} (hw:XW w) (hc:U64 c) (h1:1≤c) (hm:m=0∨m=1∨m=2):nU w c m=some (if Cx (xv w) c m<18446744073709551616 then (Cx (xv w) c m,0) else (0,3)):=by
 unfold nU
 have hc0:((((c == 0)||(decide (m<0)))||(decide (3<m))):Bool)=false:=by
  rcases hm with rfl | rfl | rfl <;> simp <;> omega
 rw [hc0];simp only [bx]
 have hn0:0≤xv w:=by unfold xv;have:=hw.1.1;have:=hw.2.1;omega
 have hr0:0≤xv w % c:=Int.emod_nonneg _ (by omega)
 have hr1:xv w % c<c:=Int.emod_lt_of_pos _ (by omega)
 have hle:xv w / c≤Cx (xv w) c m:=by unfold Cx;split <;> omega
 by_cases h:c≤w.Hi
 ·rw [det h]
  have:18446744073709551616≤xv w / c:=by
   apply Int.le_ediv_of_mul_le (by omega)
   have:=Int.mul_le_mul_of_nonneg_left h (show (0:Int)≤18446744073709551616 by omega)
   unfold xv;have:=hw.2.1;omega
  rw [if_neg (by omega)];rfl
 rw [bD h]
 simp only [bx]
 have e:=div64 hw.1 hw.2 hc (by omega)
 rw [show w.Hi*18446744073709551616+w.Lo=xv w from rfl] at e
 rw [o8 e]
 have hq:xv w / c<18446744073709551616:=by
  apply Int.ediv_lt_of_lt_mul (by omega)
  have:=Int.mul_le_mul_of_nonneg_right (show w.Hi+1≤c by omega) (show (0:Int)≤18446744073709551616 by omega)
  unfold xv;have:=hw.2.2;rw [Int.mul_comm 18446744073709551616];omega
 have hq0:0≤xv w / c:=Int.ediv_nonneg hn0 (by omega)
 dsimp only
 have er:j6 (xv w / c) (xv w % c) c m=some (decide ((m=2∧c≤2*(xv w % c))∨(m=1∧0<xv w % c))):=by
  unfold j6
  rw [fx (a:=c - xv w % c) ⟨by omega,by have:=hc.2;omega⟩]
  rcases hm with rfl | rfl | rfl
  ·simp
  ·simp
  simp;omega
 rw [o8 er]
 unfold Cx
 by_cases hu:(m=2∧c≤2*(xv w % c))∨(m=1∧0<xv w % c)
 ·rw [det hu,if_pos hu]
  simp only [Bool.not_true,bx]
  by_cases hx:xv w / c=18446744073709551615
  ·rw [hx];rfl
  have:(xv w / c == 18446744073709551615)=false:=by simp;exact hx
  rw [this,if_pos (by omega),fx ⟨by omega,by omega⟩];rfl
 rw [bD hu,if_neg hu,if_pos hq];rfl
theorem ref_div {w:Zn} {c m:Int} (hw:RW w) (hc:U64 c) (h1:1≤c) (hm:m=0∨m=1∨m=2):sw w c m=some (if Cx (rv w) c m<18446744073709551616 then (Cx (rv w) c m,0) else (0,3)):=by
 unfold sw
 have hc0:((((c == 0)||(decide (m<0)))||(decide (3<m))):Bool)=false:=by
  rcases hm with rfl | rfl | rfl <;> simp <;> omega
 rw [hc0];simp only [bx]
 have hn0:0≤rv w:=by unfold rv;have:=hw.1.1;have:=hw.2.1;omega
 have hn1:rv w<340282366920938463463374607431768211456:=by unfold rv;have:=hw.1.2;have:=hw.2.2;omega
 have hr0:0≤rv w % c:=Int.emod_nonneg _ (by omega)
 have hr1:rv w % c<c:=Int.emod_lt_of_pos _ (by omega)
 obtain ⟨q,r,e1,e2,e3,e4⟩:=Bq hw hc h1
 rw [o8 e1]
 dsimp only
 have er:(cond (m == 1) (some (decide (0<r))) (cond (m == 2) (some (decide ((IntKind.u64.wrap (c - r))≤r))) (cond (m == 3) (some ((decide ((IntKind.u64.wrap (c - r))<r))||((r == (IntKind.u64.wrap (c - r)))&&((dU .u64 q.Lo 1) == 1)))) (some false))))=some (decide ((m=2∧c≤2*(rv w % c))∨(m=1∧0<rv w % c))):=by
  rw [e4,fx (a:=c - rv w % c) ⟨by omega,by have:=hc.2;omega⟩]
  rcases hm with rfl | rfl | rfl
  ·simp
  ·simp
  simp;omega
 rw [o8 er]
 have hq0:0≤rv w / c:=Int.ediv_nonneg hn0 (by omega)
 unfold Cx
 have hfin:∀ z:Zn,RW z→(cond (decide (0<z.Hi)) (some ((0:Int),(3:Int))) (some (z.Lo,0)))=some (if rv z<18446744073709551616 then (rv z,0) else (0,3)):=by
  intro z hz
  obtain ⟨⟨a1,a2⟩,⟨a3,a4⟩⟩:=hz
  by_cases h:0<z.Hi
  ·rw [det h,if_neg (by unfold rv;omega)];rfl
  have:rv z=z.Lo:=by unfold rv;omega
  rw [bD h,this,if_pos a4];rfl
 by_cases hu:(m=2∧c≤2*(rv w % c))∨(m=1∧0<rv w % c)
 ·rw [det hu,if_pos hu]
  obtain ⟨z,b,f1,f2,f3⟩:=uc (p:=q) (q:=⟨0,1⟩) e2 ⟨⟨by simp,by simp⟩,⟨by simp,by simp⟩⟩
  have hone:rv ⟨0,1⟩=1:=rfl
  have:rv w / c≤rv w:=Int.ediv_le_self _ hn0
  have hc2:2≤c:=by omega
  have t1:=Int.ediv_mul_le (rv w) (show c≠0 by omega)
  have t2:=Int.mul_le_mul_of_nonneg_left hc2 hq0
  rw [hone,e3] at f3
  have f3:=f3 (by omega)
  simp only [bT]
  rw [o8 f1]
  simp only [ba]
  rw [hfin z f2,f3]
 rw [bD hu,if_neg hu]
 simp only [bx,ba]
 rw [hfin q e2,e3]
structure VProd (l:List Zc) (p:Zc):Prop where
 price:1≤p.Price∧p.Price≤1000000000000
 lvl:6≤dN p.Code
 ctr:qK p.Country=true
 proc:kl p.Processes=true
 few:p.Inputs.length≤8
 asc:p.Inputs.Pairwise fun a b=>a.Product<b.Product
 inp:∀ x∈p.Inputs,(cW l x.Product).isSome=true∧0≤x.Value∧x.Value≤1000000000000
 obt:p.Obtained=true→p.Inputs=[]
structure VPs (l:List Zc):Prop where
 len:l.length≤64
 asc:l.Pairwise fun a b=>a.ID<b.ID
 all:∀ p∈l,VProd l p
theorem kp {l:List ByteArray} (h:kl l=true):l.length≤8∧(∀ s∈l,gX s=true)∧Strict iT l:=by
 unfold kl at h
 simp only [Bool.and_eq_true,decide_eq_true_eq] at h
 exact ⟨h.1,fun s hs=>List.all_eq_true.1 h.2.1 s hs,(lu _).1 h.2.2⟩
theorem VPs.sorted {l:List Zc} (h:VPs l):Sorted l:=⟨by have:=h.len;omega,h.asc,fun p hp=>by have h1:=(kp (h.all p hp).proc).1;have h2:=(h.all p hp).few;omega⟩
def bE (l:List Zc) (id:Int):Zc:=(cW l id).getD FF
theorem vo {α:Type} (z:α) (o:Option α):(hX z o).1=o.getD z:=by cases o <;> rfl
theorem sH {l:List Zc} {id:Int} {p:Zc} (h:cW l id=some p):p∈l∧p.ID=id:=⟨List.mem_of_find?_eq_some h,by have:=List.find?_some h;simpa using this⟩
theorem jq {l:List Zc} (h:VPs l) {id:Int} (hs:(cW l id).isSome=true):bE l id∈l∧VProd l (bE l id)∧(bE l id).ID=id:=by
 cases hf:cW l id with
 | none=>rw [hf] at hs;cases hs
 | some p =>
  have:=sH hf
  unfold bE;rw [hf];exact ⟨this.1,h.all p this.1,this.2⟩
abbrev CSet:=Za→Bool
def dS (ps:List Int) (S:CSet) (q:Zc) (v:Int):Zm×Option Za:=match ps.find? (fun id=>S ⟨q.ID,id⟩) with
 | some id=>(⟨q.Code,v,true⟩,some ⟨q.ID,id⟩)
 | none=>(⟨q.Code,v,false⟩,none)
def dQ (v part price:Int):Int:=if Cx (v*part) price 1≤1000000000000 then Cx (v*part) price 1 else 1000000000000
def rT (a:Zb) (q:Zc):Bool:=a.Kind == 3&&lI a.Parties q.Country
def dH (plan:List Zc) (a:Zb) (ps:List Int) (S:CSet) (x:Zh):List (Zm×Option Za) :=
 cond ((dS ps S (bE plan x.Product) x.Value).2.isSome || !rT a (bE plan x.Product)||(bE plan x.Product).Inputs.isEmpty) [dS ps S (bE plan x.Product) x.Value]
  ((bE plan x.Product).Inputs.map fun y=>dS ps S (bE plan y.Product) (dQ x.Value y.Value (bE plan x.Product).Price))
def cZ (plan:List Zc) (a:Zb) (ps:List Int) (S:CSet) (p:Zc):List (Zm×Option Za):=p.Inputs.flatMap (dH plan a ps S)
def lx (plan:List Zc) (a:Zb) (acc:List ByteArray) (x:Zh):List ByteArray:=cond (rT a (bE plan x.Product)) (nE acc (bE plan x.Product).Processes) acc
def zCase:Zl:=⟨ByteArray.empty,0,false,[],[]⟩
def jL (l:List Zb) (id:Int):Zb:=(jK l id).getD Do
def ly (plan:List Zc) (l:List Zb) (imp:ByteArray) (c:Za) (S:CSet):Zl :=
 ⟨(bE plan c.Product).Code,(bE plan c.Product).Price,(bE plan c.Product).Obtained,((bE plan c.Product).Inputs.foldl (lx plan (jL l c.Agreement)) (bE plan c.Product).Processes).take 8,
  (cZ plan (jL l c.Agreement) (dP l c.Agreement (bE plan c.Product).Country imp) S (bE plan c.Product)).map (·.1)⟩
def ji (plan:List Zc) (l:List Zb) (imp:ByteArray) (c:Za) (S:CSet):List Za :=
 sd bm ((cZ plan (jL l c.Agreement) (dP l c.Agreement (bE plan c.Product).Country imp) S (bE plan c.Product)).filterMap (·.2))
def n8 (plan:List Zc) (l:List Zb) (imp:ByteArray) (c:Za) (S:CSet):Zl×List Za:=cond (gU plan l imp c) (ly plan l imp c S,ji plan l imp c S) (zCase,[])
theorem yk {n c:Int} (hn:0≤n) (hc:1≤c):0≤Cx n c 1:=by
 unfold Cx
 have:=Int.ediv_nonneg hn (show (0:Int)≤c by omega)
 split <;> omega
theorem vp {v part price:Int} (h1:0≤v) (h2:0≤part) (h3:1≤price):0≤dQ v part price∧dQ v part price≤1000000000000:=by
 unfold dQ
 have:=yk (Int.mul_nonneg h1 h2) h3
 split <;> omega
theorem yl {v part price:Int} (h1:0≤v∧v≤1000000000000) (h2:0≤part∧part≤1000000000000) (h3:1≤price∧price≤1000000000000):fG v part price=some (dQ v part price):=by
 unfold fG lU
 rw [fx (a:=v) ⟨by omega,by omega⟩,fx (a:=part) ⟨by omega,by omega⟩,fx (a:=price) ⟨by omega,by omega⟩]
 obtain ⟨w,e1,e2,e3⟩:=wW (a:=v) (b:=part) ⟨by omega,by omega⟩ ⟨by omega,by omega⟩
 rw [e1,ba,Du e2 ⟨by omega,by omega⟩ h3.1 (.inr (.inl rfl)),e3]
 unfold dQ
 have hp:=yk (Int.mul_nonneg h1.1 h2.1) h3.1
 generalize Cx (v*part) price 1=r at hp
 by_cases hr:r<18446744073709551616
 ·rw [if_pos hr]
  by_cases hm:r≤1000000000000
  ·rw [if_pos hm]
   simp only [ba,bne_self_eq_false,Bool.false_or]
   rw [bD (by omega),bx,cI (by omega) (by omega)]
  rw [if_neg hm]
  simp only [ba,bne_self_eq_false,Bool.false_or]
  rw [det (by omega)];rfl
 rw [if_neg hr,if_neg (by omega)];rfl
theorem zZ {v part price:Int} (h1:0≤v∧v≤1000000000000) (h2:0≤part∧part≤1000000000000) (h3:1≤price∧price≤1000000000000) {β:Type} (k:Int→Option β):Option.bind (oH (IntKind.u64.wrap v) (IntKind.u64.wrap part) (IntKind.u64.wrap price) 1) (fun x79=>Option.bind (cond ((x79.2 == 0)&&(decide (x79.1<1000000000000))) (some (IntKind.i64.wrap x79.1)) (some 1000000000000)) k)=k (dQ v part price):=by
 unfold oH
 rw [fx (a:=v) ⟨by omega,by omega⟩,fx (a:=part) ⟨by omega,by omega⟩,fx (a:=price) ⟨by omega,by omega⟩]
 obtain ⟨w,e1,e2,e3⟩:=Cs (a:=v) (b:=part) ⟨by omega,by omega⟩ ⟨by omega,by omega⟩
 rw [e1,ba,ref_div e2 ⟨by omega,by omega⟩ h3.1 (.inr (.inl rfl)),e3]
 unfold dQ
 have hp:=yk (Int.mul_nonneg h1.1 h2.1) h3.1
 generalize Cx (v*part) price 1=r at hp
 by_cases hr:r<18446744073709551616
 ·rw [if_pos hr]
  by_cases hm:r<1000000000000
  ·rw [if_pos (by omega)]
   simp only [ba,beq_self_eq_true,Bool.true_and]
   rw [det (by omega),bT,ba,cI (by omega) (by omega)]
  simp only [ba,beq_self_eq_true,Bool.true_and]
  rw [bD (by omega),bx,ba]
  congr 1
  split <;> omega
 rw [if_neg hr,if_neg (by omega)];rfl
def AC:Zm×Option Za→Zd
 | (i,some c)=>.proved_ ⟨i,c⟩
 | (i,none)=>.plain_ ⟨i⟩
theorem sI {K V:Type} [DecidableEq K] (m:List (K×V)) (k c:K) (v:V):eC (nO m k v) c=if k=c then some v else eC m c:=by
 induction m with
 | nil=>simp only [nO,eC]
 | cons p m ih =>
  obtain ⟨a,w⟩:=p
  simp only [nO]
  by_cases h:a=k
  ·subst h
   simp only [if_true,eC]
   split <;> rfl
  rw [if_neg h]
  simp only [eC,ih]
  by_cases h2:a=c
  ·subst h2;simp [show ¬ k=a from fun e=>h e.symm]
  simp [h2]
theorem FO (set:List Za) (c:Za):(eC (set.foldl (fun m x=>nO m x true) []) c).getD false=aO set c:=by
 have key:∀ (l:List Za) (m:List (Za×Bool)),(eC (l.foldl (fun m x=>nO m x true) m) c).getD false=(aO l c||(eC m c).getD false):=by
  intro l
  induction l with
  | nil=>intro m;rfl
  | cons x l ih =>
   intro m
   rw [List.foldl_cons,ih,sI]
   show _=((decide (x=c)||aO l c)||_)
   by_cases h:x=c
   ·rw [if_pos h,det h];cases aO l c <;> rfl
   rw [if_neg h,bD h,Bool.false_or]
 rw [key];show (aO set c||false)=_;rw [Bool.or_false]
theorem wX (ps:List Int) (m:List (Za×Bool)) (S:CSet) (hm:∀ c,(eC m c).getD false=S c) (hps:ps.length≤140737488355328) (q:Zc) (v:Int):cQ ⟨ps,m⟩ q v=some (AC (dS ps S q v)):=by
 unfold cQ dS
 refine (bA (l:=ps) (by omega) (fun _ id=>cond (S ⟨q.ID,id⟩) (some (.inr (Zd.proved_ ⟨⟨q.Code,v,true⟩,⟨q.ID,id⟩⟩))) none) (.inl ()) (fun k hk=>?_) (by simp only [cJ,bx])).trans ?_
 ·simp only [gV hk,bT,aD hk,ba,bO hk (show ps.length≤4611686018427387904 by omega),hm]
  cases S ⟨q.ID,ps[k]⟩ <;> rfl
 rw [iz (fun id:Int=>S ⟨q.ID,id⟩) (fun id=>(Sum.inr (Zd.proved_ ⟨⟨q.Code,v,true⟩,⟨q.ID,id⟩⟩):Unit⊕Zd))]
 cases ps.find? (fun id:Int=>S ⟨q.ID,id⟩) <;> rfl
def Bv:Za:=⟨0,0⟩
theorem FP (ps:List Int) (set:List Za) (hps:ps.length≤140737488355328) (hset:set.length≤140737488355328) (q:Zc) (v:Int):kR ps q.ID set=some (hX Bv (dS ps (aO set) q v).2)∧(dS ps (aO set) q v).1=⟨q.Code,v,(dS ps (aO set) q v).2.isSome⟩:=by
 constructor
 ·unfold kR dS
  refine (bA (l:=ps) (by omega) (fun _ id=>cond (aO set ⟨q.ID,id⟩) (some (.inr ((⟨q.ID,id⟩:Za),true))) none) (.inl ()) (fun k hk=>?_) (by simp only [cJ,bx])).trans ?_
  ·simp only [gV hk,bT,aD hk,ba,bO hk (show ps.length≤4611686018427387904 by omega),mi _ _ hset]
   cases aO set ⟨q.ID,ps[k]⟩ <;> rfl
  rw [iz (fun id:Int=>aO set ⟨q.ID,id⟩) (fun id=>(Sum.inr ((⟨q.ID,id⟩:Za),true):Unit⊕(Za×Bool)))]
  cases ps.find? (fun id:Int=>aO set ⟨q.ID,id⟩) <;> rfl
 unfold dS
 cases ps.find? (fun id:Int=>aO set ⟨q.ID,id⟩) <;> rfl
theorem qj {plan:List Zc} (hv:VPs plan) (a:Zb) (ps:List Int) (S:CSet) (x:Zh) (hx:(cW plan x.Product).isSome=true):(dH plan a ps S x).length≤8:=by
 unfold dH
 generalize ((dS ps S (bE plan x.Product) x.Value).2.isSome || !rT a (bE plan x.Product)||(bE plan x.Product).Inputs.isEmpty)=b
 cases b
 ·rw [bx,List.length_map];exact (jq hv hx).2.1.few
 simp
theorem FQ {w:List ByteArray} (h:kl w=true):w.length≤8:=(kp h).1
theorem Bw (a b:List ByteArray):(nE a b).length≤a.length+b.length:=by unfold nE;have:=FH (lt:=iT) (a++b);rwa [List.length_append] at this
theorem wY {plan:List Zc} (hv:VPs plan) (a:Zb) (acc:List ByteArray) (x:Zh) (hx:(cW plan x.Product).isSome=true):(lx plan a acc x).length≤acc.length+8:=by
 unfold lx
 cases rT a (bE plan x.Product)
 ·rw [bx];omega
 rw [bT]
 have h1:=Bw acc (bE plan x.Product).Processes
 have h2:=FQ (jq hv hx).2.1.proc
 omega
theorem rU {plan:List Zc} (hv:VPs plan) (id:Int):cO plan id=some (bE plan id,(cW plan id).isSome):=by
 rw [vl _ _ hv.sorted];unfold bE;cases cW plan id <;> rfl
theorem qF {plan:List Zc} (hv:VPs plan) (id:Int):fH plan id=some (bE plan id,(cW plan id).isSome):=by
 rw [wQ _ _ (by have:=hv.len;omega)];unfold bE;cases cW plan id <;> rfl
theorem ym (t:Zm×Option Za):(AC t).is_proved_=t.2.isSome:=by obtain ⟨i,c⟩:=t;cases c <;> rfl
theorem Dv {plan:List Zc} (hv:VPs plan) (a:Zb) (ha:a.Parties.length≤140737488355328) {p:Zc} (hp:VProd plan p) (ps:List Int) (hps:ps.length≤140737488355328) (m:List (Za×Bool)) (S:CSet) (hm:∀ c,(eC m c).getD false=S c) :
    ff plan a p ⟨ps,m⟩=some ((cZ plan a ps S p).map AC,(p.Inputs.foldl (lx plan a) p.Processes).take 8):=by
  unfold ff bY
  have hpr:=FQ hp.proc
  have hfew:=hp.few
  rw [jv (by omega) (by omega),ba]
  refine (cA (l:=p.Inputs) (by omega) (fun i (s:List Zd×List ByteArray)=>(s.1,s.2,i)) (fun s x=>(s.1++(dH plan a ps S x).map AC,lx plan a s.2 x)) (fun s=>s) (fun k s=>s.1.length≤8*k∧s.2.length≤8+8*k) ([],p.Processes) ⟨by simp,by simpa using hpr⟩ (fun k hk s hs=>?_) (fun s _=>by simp only [cJ,bx])).1.trans ?_
  · obtain ⟨l9,l12⟩:=s
    obtain ⟨h1,h2⟩:=hs
    dsimp only at h1 h2 ⊢
    obtain ⟨hin,hv0,hv1⟩:=hp.inp _ (List.getElem_mem hk)
    obtain ⟨hq1,hq2,hq3⟩:=jq hv hin
    have hql:=hq2.few
    refine ⟨?_,by have:=qj hv a ps S p.Inputs[k] hin;simp;omega,by have:=wY hv a l12 p.Inputs[k] hin;omega⟩
    simp only [gV hk,bT,aD hk,ba,bO hk (show p.Inputs.length≤4611686018427387904 by omega),rU hv]
    generalize hx:p.Inputs[k]=x at *
    rw [rO _ _ ha,wX ps m S hm hps]
    unfold dH lx rT
    have e1:Option.bind (gd (a.Kind == 3) (some (lI a.Parties (bE plan x.Product).Country))) (fun x33=>some ((a.Kind == 3)&&x33))=some ((a.Kind == 3)&&lI a.Parties (bE plan x.Product).Country):=by cases (a.Kind == 3) <;> rfl
    have e2:∀ {β:Type} (K:Bool→Option β),(∀ b c,((a.Kind == 3)&&b)=((a.Kind == 3)&&c)→K b=K c)→Option.bind (gd (a.Kind == 3) (some (lI a.Parties (bE plan x.Product).Country))) K=K (lI a.Parties (bE plan x.Product).Country):=by
      intro β K hK
      cases hk3:(a.Kind == 3)
      · show K default=_;exact hK _ _ (by rw [hk3];rfl)
      rfl
    rw [e2 _ (fun b c hbc=>by simp only [hbc])]
    generalize hF:((a.Kind == 3)&&lI a.Parties (bE plan x.Product).Country)=F
    have e3:(cond F (Option.bind (jH l12 (bE plan x.Product).Processes) (fun x38=>some x38)) (some l12))=some (cond F (nE l12 (bE plan x.Product).Processes) l12):=by
      cases F
      · rfl
      rw [bT,Bp _ _ (by have:=FQ hq2.proc;omega)];rfl
    simp only [e3,ba,ym,len0]
    cases hc:((dS ps S (bE plan x.Product) x.Value).2.isSome || !F||(bE plan x.Product).Inputs.isEmpty)
    · simp only [bx]
      refine (congrArg (fun o=>Option.bind o _) (cA (l:=(bE plan x.Product).Inputs) (by omega) (fun i (s:List Zd)=>(s,i)) (fun s y=>s++[AC (dS ps S (bE plan y.Product) (dQ x.Value y.Value (bE plan x.Product).Price))]) (fun s=>s) (fun j s=>s.length≤8*k+j) l9 h1 (fun j hj s hs=>⟨?_,by simp;omega⟩) (fun s _=>by simp only [cJ,bx])).1).trans ?_
      rotate_left
      · simp only [ba]
        have hfl:∀ (ys:List Zh) (acc:List Zd),ys.foldl (fun s y=>s++[AC (dS ps S (bE plan y.Product) (dQ x.Value y.Value (bE plan x.Product).Price))]) acc=acc++(ys.map fun y=>dS ps S (bE plan y.Product) (dQ x.Value y.Value (bE plan x.Product).Price)).map AC:=by
          intro ys
          induction ys with
          | nil=>intro acc;simp
          | cons y ys ih=>intro acc;rw [List.foldl_cons,ih];simp
        rw [hfl]
      obtain ⟨hy1,hy2,hy3⟩:=hq2.inp _ (List.getElem_mem hj)
      simp only [gV hj,bT,aD hj,ba,bO hj (show (bE plan x.Product).Inputs.length≤4611686018427387904 by omega),rU hv]
      rw [yl ⟨hv0,hv1⟩ ⟨hy2,hy3⟩ hq2.price,ba,wX ps m S hm hps,ba,cL (by simp;omega) (by simp;omega)];rfl
    simp only [bT]
    rw [cL (by simp;omega) (by simp;omega)];rfl
  dsimp only
  have hfold:∀ (xs:List Zh) (s:List Zd×List ByteArray),xs.foldl (fun s x=>(s.1++(dH plan a ps S x).map AC,lx plan a s.2 x)) s=(s.1++(xs.flatMap (dH plan a ps S)).map AC,xs.foldl (lx plan a) s.2):=by
    intro xs
    induction xs with
    | nil=>intro s;simp
    | cons x xs ih=>intro s;rw [List.foldl_cons,ih,List.flatMap_cons];simp
  rw [hfold]
  dsimp only
  rw [Cb _ _ (by omega),ba];rfl
theorem n9 {p:List Zc} {l:List Zb} {i:ByteArray} {c:Za} (h:gU p l i c=true):∃ q a r,cW p c.Product=some q∧jK l c.Agreement=some a∧cM a q.Code=some r∧q.Country≠i∧yc a q.Country i=true:=by
 unfold gU at h
 split at h
 ·rename_i q a e1 e2
  simp only [Bool.and_eq_true,Bool.not_eq_true',decide_eq_false_iff_not] at h
  obtain ⟨⟨h1,h2⟩,h3⟩:=h
  obtain ⟨r,hr⟩:=Option.isSome_iff_exists.1 h3
  exact ⟨q,a,r,e1,e2,hr,h1,h2⟩
 cases h
theorem oZ {plan:List Zc} (hv:VPs plan) (a:Zb) (ps:List Int) (S:CSet) {p:Zc} (hp:VProd plan p):(cZ plan a ps S p).length≤64:=by
 unfold cZ
 have key:∀ xs:List Zh,(∀ x∈xs,(cW plan x.Product).isSome=true)→(xs.flatMap (dH plan a ps S)).length≤8*xs.length:=by
  intro xs
  induction xs with
  | nil=>intro _;simp
  | cons x xs ih =>
   intro h
   rw [List.flatMap_cons,List.length_append,List.length_cons]
   have h1:=qj hv a ps S x (h x (by simp));have h2:=ih fun y hy=>h y (by simp [hy]);omega
 have h1:=key p.Inputs fun x hx=>(hp.inp x hx).1
 have h2:=hp.few
 omega
theorem wZ {plan:List Zc} {l:List Zb} (hv:VPs plan) (hl:VAs l) (imp:ByteArray) (c:Za) (set:List Za) (hs:set.length≤140737488355328):fg plan l imp c set=some (n8 plan l imp c (aO set)):=by
 unfold fg n8
 have hlen:=hl.len
 rw [vm _ _ _ _ hv.sorted hl,ba]
 cases had:gU plan l imp c
 ·rfl
 obtain ⟨q,a,r,e1,e2,_,_,_⟩:=n9 had
 have hq:VProd plan (bE plan c.Product):=(jq hv (by rw [e1];rfl)).2.1
 have ha:jL l c.Agreement=a:=by unfold jL;rw [e2];rfl
 have hva:=(mO hl e2).1
 simp only [Bool.not_true,bx,bT]
 rw [rU hv,ba,ro _ _ (by omega),e2,ba,wh _ _ _ _ hl,ba]
 have hpl:=rP l c.Agreement (bE plan c.Product).Country imp
 unfold ly ji
 rw [ha]
 generalize hps:dP l c.Agreement (bE plan c.Product).Country imp=ps at *
 refine (cA (l:=set) (by omega) (fun i (m:List (Za×Bool))=>(i,m)) (fun m x=>nO m x true) (fun m=>m) (fun _ _=>True) [] trivial (fun k hk m _=>⟨?_,trivial⟩) (fun m _=>by simp only [cJ,bx])).1.trans ?_
 ·simp only [gV hk,bT,aD hk,ba,bO hk (show set.length≤4611686018427387904 by omega)]
 rw [Dv hv (hX Do (some a)).1 hva.ok.par.1 hq ps (by omega) _ (aO set) (fun c=>FO set c),ba]
 dsimp +instances only [hX]
 have hsl:=oZ hv a ps (aO set) hq
 refine (cA (l:=(cZ plan a ps (aO set) (bE plan c.Product)).map AC) (by rw [List.length_map];omega) (fun i (s:List Za×List Zm)=>(s.1,i,s.2)) (fun s x=>(cond x.is_proved_ (s.1++[x.as_proved_.premise]) s.1,s.2++[match x with | .plain_ y=>y.use | .proved_ y=>y.use])) (fun s=>s) (fun k s=>s.1.length≤k∧s.2.length≤k) ([],[]) ⟨by simp,by simp⟩ (fun k hk s hs=>⟨?_,?_⟩) (fun s _=>by simp only [cJ,bx])).1.trans ?_
 ·have hk2:k<64:=by rw [List.length_map] at hk;omega
  have ei:∀ x:Zd,Icumulation_supply_input x=some (match x with | .plain_ y=>y.use | .proved_ y=>y.use):=fun x=>by cases x <;> rfl
  simp only [gV hk,bT,aD hk,ba,bO hk (show ((cZ plan a ps (aO set) (bE plan c.Product)).map AC).length≤4611686018427387904 by rw [List.length_map];omega),ei]
  rw [cL (by simp;omega) (by simp;omega),ba,cL (by simp;omega) (by simp;omega)]
  cases ((cZ plan a ps (aO set) (bE plan c.Product)).map AC)[k].is_proved_ <;> rfl
 ·obtain ⟨h1,h2⟩:=hs
  cases ((cZ plan a ps (aO set) (bE plan c.Product)).map AC)[k].is_proved_ <;> simp <;> omega
 have key:∀ (xs:List (Zm×Option Za)) (s:List Za×List Zm),(xs.map AC).foldl (fun s x=>(cond x.is_proved_ (s.1++[x.as_proved_.premise]) s.1,s.2++[match x with | .plain_ y=>y.use | .proved_ y=>y.use])) s=(s.1++xs.filterMap (·.2),s.2++xs.map (·.1)):=by
  intro xs
  induction xs with
  | nil=>intro s;simp
  | cons x xs ih =>
   intro s
   obtain ⟨i,o⟩:=x
   rw [List.map_cons,List.foldl_cons,ih]
   cases o with
   | none=>simp [AC,Zd.is_proved_]
   | some c=>simp [AC,Zd.is_proved_,Zd.as_proved_]
 rw [key]
 simp only [List.nil_append]
 show Option.bind (some (lf bm _)) _=_
 rw [ba,FJ _ (by rw [nY];have:=List.length_filterMap_le (fun x:Zm×Option Za=>x.2) (cZ plan a ps (aO set) (bE plan c.Product));omega)];rfl
theorem z2 {plan:List Zc} {l:List Zb} (hv:VPs plan) (hl:VAs l) (imp:ByteArray) (c:Za) (set:List Za) (hs:set.length≤140737488355328):hQ plan l imp c set=some (n8 plan l imp c (aO set)):=by
 unfold hQ n8
 have hlen:=hl.len
 rw [yd _ _ _ _ (by have:=hv.len;omega) hl,ba]
 cases had:gU plan l imp c
 ·rfl
 obtain ⟨q,a,r,e1,e2,_,_,_⟩:=n9 had
 have hq:VProd plan (bE plan c.Product):=(jq hv (by rw [e1];rfl)).2.1
 have ha:jL l c.Agreement=a:=by unfold jL;rw [e2];rfl
 have hva:=(mO hl e2).1
 simp only [Bool.not_true,bx,bT]
 rw [qF hv,ba,qC _ _ (by omega),e2,ba,ye _ _ _ _ hl,ba]
 have hpl:=rP l c.Agreement (bE plan c.Product).Country imp
 unfold ly ji
 rw [ha]
 simp only [hX]
 generalize hps:dP l c.Agreement (bE plan c.Product).Country imp=ps at *
 have hpr:=FQ hq.proc
 have hfew:=hq.few
 generalize bE plan c.Product=p at *
 have hps2:ps.length≤140737488355328:=by omega
 refine (cA (l:=p.Inputs) (by omega) (fun i (s:List Za×List ByteArray×List Zm)=>(s.1,s.2.1,i,s.2.2)) (fun s x=>(((dH plan a ps (aO set) x).filterMap (·.2)).foldl (ij bm) s.1,lx plan a s.2.1 x,s.2.2++(dH plan a ps (aO set) x).map (·.1))) (fun s=>s) (fun k s=>s.1.length≤8*k∧s.2.1.length≤8+8*k∧s.2.2.length≤8*k) ([],p.Processes,[]) ⟨by simp,by simpa using hpr,by simp⟩ (fun k hk s hs=>?_) (fun s _=>by simp only [cJ,bx])).1.trans ?_
 ·obtain ⟨l13,l14,l17⟩:=s
  obtain ⟨h1,h2,h3⟩:=hs
  dsimp only at h1 h2 h3 ⊢
  obtain ⟨hin,hv0,hv1⟩:=hq.inp _ (List.getElem_mem hk)
  obtain ⟨hq1,hq2,hq3⟩:=jq hv hin
  have hql:=hq2.few
  have hsl:=qj hv a ps (aO set) p.Inputs[k] hin
  have hins:∀ (cs:List Za) (u:List Za),(cs.foldl (ij bm) u).length≤u.length+cs.length:=by
   intro cs
   induction cs with
   | nil=>intro u;simp
   | cons c cs ih=>intro u;rw [List.foldl_cons,List.length_cons];have h1:=ih (ij bm u c);have h2:=lw (lt:=bm) u c;omega
  refine ⟨?_,?_,by have:=wY hv a l14 p.Inputs[k] hin;omega,by simp;omega⟩
  rotate_left
  ·have g1:=hins ((dH plan a ps (aO set) p.Inputs[k]).filterMap (·.2)) l13
   have g2:=List.length_filterMap_le (fun x:Zm×Option Za=>x.2) (dH plan a ps (aO set) p.Inputs[k])
   omega
  simp only [gV hk,bT,aD hk,ba,bO hk (show p.Inputs.length≤4611686018427387904 by omega),qF hv]
  generalize hx:p.Inputs[k]=x at *
  have hset:set.length≤140737488355328:=hs
  have htk:=FP ps set hps2 hset
  rw [qB _ _ hva.ok.par.1,(htk (bE plan x.Product) x.Value).1]
  unfold dH lx rT
  have e2:∀ {β:Type} (K:Bool→Option β),(∀ b c,((a.Kind == 3)&&b)=((a.Kind == 3)&&c)→K b=K c)→Option.bind (gd (a.Kind == 3) (some (lI a.Parties (bE plan x.Product).Country))) K=K (lI a.Parties (bE plan x.Product).Country):=by
   intro β K hK
   cases hk3:(a.Kind == 3)
   ·show K default=_;exact hK _ _ (by rw [hk3];rfl)
   rfl
  rw [e2 _ (fun b c hbc=>by simp only [hbc])]
  generalize hF:((a.Kind == 3)&&lI a.Parties (bE plan x.Product).Country)=F
  have e3:(cond F (Option.bind (mZ l14 (bE plan x.Product).Processes) (fun x38=>some x38)) (some l14))=some (cond F (nE l14 (bE plan x.Product).Processes) l14):=by
   cases F
   ·rfl
   rw [bT,Dr _ _ (by have:=FQ hq2.proc;omega)];rfl
  have e4:∀ (o:Option Za) (u:List Za),u.length≤1000000→(cond o.isSome (Option.bind (fI u (hX Bv o).1) (fun x53=>some x53)) (some u))=some (match o with | some c=>ij bm u c | none=>u):=by
   intro o u hu
   cases o with
   | none=>rfl
   | some c=>show Option.bind (fI u c) _=_;rw [sG _ _ (by omega)];rfl
  have e5:∀ o:Option Za,(hX Bv o).2=o.isSome:=fun o=>by cases o <;> rfl
  simp only [e3,ba,e5]
  simp only [e4 _ l13 (show l13.length≤1000000 by omega),ba,len0]
  have t1:=(htk (bE plan x.Product) x.Value).2
  generalize htt:dS ps (aO set) (bE plan x.Product) x.Value=tt at *
  obtain ⟨ti,to⟩:=tt
  dsimp only at t1 ⊢
  cases hc:(to.isSome || !F||(bE plan x.Product).Inputs.isEmpty)
  ·have hto:to=none:=by cases to with | none=>rfl | some c=>simp at hc
   subst hto
   simp only [bx]
   refine (congrArg (fun o=>Option.bind o _) (cA (l:=(bE plan x.Product).Inputs) (by omega) (fun i (s:List Za×List Zm)=>(s.1,i,s.2)) (fun s y=>((match (dS ps (aO set) (bE plan y.Product) (dQ x.Value y.Value (bE plan x.Product).Price)).2 with | some c=>ij bm s.1 c | none=>s.1),s.2++[(dS ps (aO set) (bE plan y.Product) (dQ x.Value y.Value (bE plan x.Product).Price)).1])) (fun s=>s) (fun j s=>s.1.length≤8*k+j∧s.2.length≤8*k+j) (l13,l17) ⟨h1,h3⟩ (fun j hj s hs=>⟨?_,?_⟩) (fun s _=>by simp only [cJ,bx])).1).trans ?_
   ·obtain ⟨hy1,hy2,hy3⟩:=hq2.inp _ (List.getElem_mem hj)
    simp only [gV hj,bT,aD hj,ba,bO hj (show (bE plan x.Product).Inputs.length≤4611686018427387904 by omega)]
    rw [zZ ⟨hv0,hv1⟩ ⟨hy2,hy3⟩ hq2.price,(htk (bE plan ((bE plan x.Product).Inputs[j]).Product) (dQ x.Value ((bE plan x.Product).Inputs[j]).Value (bE plan x.Product).Price)).1,ba,e5,e4 _ s.1 (by omega),ba,← (htk (bE plan ((bE plan x.Product).Inputs[j]).Product) (dQ x.Value ((bE plan x.Product).Inputs[j]).Value (bE plan x.Product).Price)).2,cL (by simp;omega) (by simp;omega)];rfl
   ·refine ⟨?_,by simp;omega⟩
    dsimp only
    split
    ·rename_i c' _;have:=lw (lt:=bm) s.1 c';omega
    omega
   have hfl:∀ (ys:List Zh) (s:List Za×List Zm),ys.foldl (fun s y=>((match (dS ps (aO set) (bE plan y.Product) (dQ x.Value y.Value (bE plan x.Product).Price)).2 with | some c=>ij bm s.1 c | none=>s.1),s.2++[(dS ps (aO set) (bE plan y.Product) (dQ x.Value y.Value (bE plan x.Product).Price)).1])) s=(((ys.map fun y=>dS ps (aO set) (bE plan y.Product) (dQ x.Value y.Value (bE plan x.Product).Price)).filterMap (·.2)).foldl (ij bm) s.1,s.2++(ys.map fun y=>dS ps (aO set) (bE plan y.Product) (dQ x.Value y.Value (bE plan x.Product).Price)).map (·.1)):=by
    intro ys
    induction ys with
    | nil=>intro s;simp
    | cons y ys ih =>
     intro s
     rw [List.foldl_cons,ih,List.map_cons]
     cases h:(dS ps (aO set) (bE plan y.Product) (dQ x.Value y.Value (bE plan x.Product).Price)).2 with
     | none=>simp [h]
     | some c=>simp [h]
   simp only [ba,hfl]
  simp only [bT]
  rw [cL (by simp;omega) (by simp;omega),← t1]
  cases to <;> rfl
 have hfold:∀ (xs:List Zh) (s:List Za×List ByteArray×List Zm),xs.foldl (fun s x=>(((dH plan a ps (aO set) x).filterMap (·.2)).foldl (ij bm) s.1,lx plan a s.2.1 x,s.2.2++(dH plan a ps (aO set) x).map (·.1))) s=(((xs.flatMap (dH plan a ps (aO set))).filterMap (·.2)).foldl (ij bm) s.1,xs.foldl (lx plan a) s.2.1,s.2.2++(xs.flatMap (dH plan a ps (aO set))).map (·.1)):=by
  intro xs
  induction xs with
  | nil=>intro s;simp
  | cons x xs ih=>intro s;rw [List.foldl_cons,ih,List.flatMap_cons];simp
 rw [hfold]
 dsimp only
 rw [Cb _ _ (by omega),ba,tu ordC,List.nil_append];rfl
theorem C6_ctry {s:ByteArray} (h:s∈C6):qK s=true:=List.all_eq_true.1 C6_ok.1 s h
theorem W5_words {l:List ByteArray} (h:l.Sublist W5):kl l=true:=by
 unfold kl
 have h1:=h.length_le
 have h5:W5.length=5:=rfl
 simp only [Bool.and_eq_true,decide_eq_true_eq]
 exact ⟨by omega,List.all_eq_true.2 fun s hs=>List.all_eq_true.1 W5_ok.1 s (h.subset hs),(lu _).2 (List.Pairwise.sublist h ((lu _).1 W5_ok.2.1))⟩
theorem MPs.found {l:List Zc} (h:MPs l) {k:Nat} (hk:k<l.length):(cW l (3*((k:Int)+1))).isSome=true:=by
 unfold cW
 rw [List.find?_isSome]
 exact ⟨l[k],List.getElem_mem hk,by have:=(h.all k _ (List.getElem?_eq_getElem hk)).id;simpa using this⟩
theorem MPs.vps {l:List Zc} (h:MPs l):VPs l:=by
 refine ⟨by have:=h.len;omega,h.sorted.asc,fun p hp=>?_⟩
 obtain ⟨i,hi,rfl⟩:=List.getElem_of_mem hp
 have hm:=h.all i _ (List.getElem?_eq_getElem hi)
 refine ⟨by have:=hm.price;omega,by have:=hm.lvl.1;omega,C6_ctry hm.ctr,W5_words hm.proc,by have:=hm.few;omega,hm.asc,fun x hx=>?_,hm.obt⟩
 obtain ⟨⟨k,hk,e⟩,h1,h2⟩:=hm.inp x hx
 exact ⟨by rw [e];exact h.found hk,h1,by omega⟩
theorem FS (ps:List Int) (S:CSet) (q:Zc) (v:Int):(dS ps S q v).1.Code=q.Code∧(dS ps S q v).1.Value=v∧(dS ps S q v).1.Originating=(dS ps S q v).2.isSome:=by
 unfold dS;split <;> exact ⟨rfl,rfl,rfl⟩
theorem FT {ps:List Int} {S:CSet} {q:Zc} {v:Int} {c:Za} (h:(dS ps S q v).2=some c):S c=true:=by
 unfold dS at h
 split at h
 ·rename_i id hid
  injection h with h;rw [← h];have:=List.find?_some hid;exact this
 cases h
theorem vq {plan:List Zc} (hv:VPs plan) (a:Zb) (ps:List Int) (S:CSet) {p:Zc} (hp:VProd plan p) (P:Zm×Option Za→Prop) (h:∀ q∈plan,∀ v,0≤v→v≤1000000000000→P (dS ps S q v)):∀ t∈cZ plan a ps S p,P t:=by
 intro t ht
 unfold cZ at ht
 obtain ⟨x,hx,ht⟩:=List.mem_flatMap.1 ht
 obtain ⟨h1,h2,h3⟩:=hp.inp x hx
 obtain ⟨hq1,hq2,_⟩:=jq hv h1
 unfold dH at ht
 cases hc:((dS ps S (bE plan x.Product) x.Value).2.isSome || !rT a (bE plan x.Product)||(bE plan x.Product).Inputs.isEmpty)
 ·rw [hc,bx] at ht
  obtain ⟨y,hy,rfl⟩:=List.mem_map.1 ht
  obtain ⟨g1,g2,g3⟩:=hq2.inp y hy
  have hr:=vp h2 g2 hq2.price.1
  exact h _ (jq hv g1).1 _ hr.1 hr.2
 rw [hc,bT] at ht
 rw [List.mem_singleton.1 ht]
 exact h _ hq1 _ h2 h3
theorem z6 {a b:List ByteArray} (ha:∀ s∈a,gX s=true) (hb:∀ s∈b,gX s=true):(∀ s∈nE a b,gX s=true)∧Strict iT (nE a b):=by
 refine ⟨fun s hs=>?_,sF Bo _⟩
 have:=(yh (lt:=iT) (a++b) s).1 hs
 rcases List.mem_append.1 this with h | h
 ·exact ha s h
 exact hb s h
theorem vr {plan:List Zc} (hv:VPs plan) (a:Zb):∀ (xs:List Zh) (acc:List ByteArray),(∀ x∈xs,(cW plan x.Product).isSome=true)→(∀ s∈acc,gX s=true)→Strict iT acc→(∀ s∈xs.foldl (lx plan a) acc,gX s=true)∧Strict iT (xs.foldl (lx plan a) acc)
 | [],acc,_,h1,h2=>⟨h1,h2⟩
 | x::xs,acc,h,h1,h2=>by
  have hx:=jq hv (h x (by simp))
  rw [List.foldl_cons]
  have:(∀ s∈lx plan a acc x,gX s=true)∧Strict iT (lx plan a acc x):=by
   unfold lx
   cases rT a (bE plan x.Product)
   ·exact ⟨h1,h2⟩
   exact z6 h1 (kp hx.2.1.proc).2.1
  exact vr hv a xs _ (fun y hy=>h y (by simp [hy])) this.1 this.2
theorem vt {s:ByteArray} (h:gX s=true):s.size≤12:=by
 unfold gX at h;simp only [Bool.and_eq_true,decide_eq_true_eq] at h;omega
theorem Bx {l:List ByteArray} (h1:∀ s∈l,gX s=true) (h2:Strict iT l):kl (l.take 8)=true∧StrsOk (l.take 8):=by
 refine ⟨?_,by rw [List.length_take];omega,fun s hs=>by have:=vt (h1 s (List.mem_of_mem_take hs));omega⟩
 unfold kl
 simp only [Bool.and_eq_true,decide_eq_true_eq]
 exact ⟨by rw [List.length_take];omega,List.all_eq_true.2 fun s hs=>h1 s (List.mem_of_mem_take hs),(lu _).2 (List.Pairwise.sublist (List.take_sublist _ _) h2)⟩
structure VCase (x:Zl):Prop where
 lvl:6≤dN x.Code
 price:1≤x.Price∧x.Price≤1000000000000
 proc:kl x.Processes=true∧StrsOk x.Processes
 few:x.Inputs.length≤100
 inp:∀ y∈x.Inputs,6≤dN y.Code∧0≤y.Value∧y.Value≤1000000000000
theorem o3 {plan:List Zc} {l:List Zb} (hv:VPs plan) (imp:ByteArray) (c:Za) (S:CSet) (h:(cW plan c.Product).isSome=true):VCase (ly plan l imp c S):=by
 obtain ⟨hq1,hq,_⟩:=jq hv h
 obtain ⟨w1,w2,w3⟩:=kp hq.proc
 have hw:=vr hv (jL l c.Agreement) (bE plan c.Product).Inputs _ (fun x hx=>(hq.inp x hx).1) w2 w3
 refine ⟨hq.lvl,hq.price,Bx hw.1 hw.2,?_,?_⟩
 ·unfold ly;dsimp only;rw [List.length_map];have:=oZ hv (jL l c.Agreement) (dP l c.Agreement (bE plan c.Product).Country imp) S hq;omega
 unfold ly;dsimp only
 intro y hy
 obtain ⟨t,ht,rfl⟩:=List.mem_map.1 hy
 refine vq hv _ _ S hq (fun t=>6≤dN t.1.Code∧0≤t.1.Value∧t.1.Value≤1000000000000) (fun q hqp v h1 h2=>?_) t ht
 obtain ⟨g1,g2,_⟩:=FS (dP l c.Agreement (bE plan c.Product).Country imp) S q v
 rw [g1,g2];exact ⟨(hv.all q hqp).lvl,h1,h2⟩
theorem qk {x:Zl} (h:VCase x):gt x=some 0:=by
 unfold gt iJ
 have hl:=h.few
 show Option.bind (some (decide (6≤dN x.Code))) _=_
 rw [det h.lvl,ba]
 simp only [Bool.not_true,bx]
 rw [bD (by have:=h.price;omega),bD (by have:=h.price;omega),Bool.or_self,bx,rm _ h.proc.2,h.proc.1,ba]
 simp only [Bool.not_true,bx]
 rw [bD (by omega),bx]
 refine (bA (l:=x.Inputs) (by omega) (fun _ _=>none) (.inl ()) (fun k hk=>?_) (by simp only [cJ,bx])).trans ?_
 ·have hy:=h.inp _ (List.getElem_mem hk)
  simp only [gV hk,bT,aD hk,ba,bO hk (show x.Inputs.length≤4611686018427387904 by omega)]
  show Option.bind (Option.bind (some (dN x.Inputs[k].Code)) _) _=_
  rw [ba,det hy.1,ba,bD (by omega),bD (by omega)];rfl
 have:∀ (m:List Zm) (i:Nat),cr (fun (_:Nat) (_:Zm)=>(none:Option (Unit⊕Int))) m i=none:=by
  intro m
  induction m with
  | nil=>intro i;rfl
  | cons x m ih=>intro i;exact ih _
 rw [this];rfl
theorem z7 {plan:List Zc} {l:List Zb} (hv:VPs plan) (imp:ByteArray) (c:Za) (S:CSet) (h:(cW plan c.Product).isSome=true):(ji plan l imp c S).length≤64:=by
 obtain ⟨hq1,hq,_⟩:=jq hv h
 unfold ji
 have h1:=FH (lt:=bm) ((cZ plan (jL l c.Agreement) (dP l c.Agreement (bE plan c.Product).Country imp) S (bE plan c.Product)).filterMap (·.2))
 have h2:=List.length_filterMap_le (fun x:Zm×Option Za=>x.2) (cZ plan (jL l c.Agreement) (dP l c.Agreement (bE plan c.Product).Country imp) S (bE plan c.Product))
 have h3:=oZ hv (jL l c.Agreement) (dP l c.Agreement (bE plan c.Product).Country imp) S hq
 omega
theorem ms {p:List Zc} {l:List Zb} {i:ByteArray} {c:Za} (h:gU p l i c=true):(cW p c.Product).isSome=true:=by
 obtain ⟨q,a,r,e,_⟩:=n9 h;rw [e];rfl
theorem w0 {ps:List Int} {S U:CSet} {q:Zc} {v:Int} (hUS:∀ c,U c=true→S c=true) (h:∀ c,(dS ps S q v).2=some c→U c=true):dS ps U q v=dS ps S q v:=by
 have hf:ps.find? (fun id=>U ⟨q.ID,id⟩)=ps.find? (fun id=>S ⟨q.ID,id⟩):=by
  cases hS:ps.find? (fun id=>S ⟨q.ID,id⟩) with
  | none =>
   rw [List.find?_eq_none] at hS ⊢
   exact fun x hx hu=>hS x hx (hUS _ hu)
  | some id =>
   have hU:U ⟨q.ID,id⟩=true:=h _ (by unfold dS;rw [hS])
   rw [List.find?_eq_some_iff_append] at hS ⊢
   obtain ⟨_,as1,bs1,e,hn⟩:=hS
   refine ⟨hU,as1,bs1,e,fun x hx=>?_⟩
   have:=hn x hx
   cases hu:U ⟨q.ID,x⟩
   ·rfl
   rw [hUS _ hu] at this;cases this
 unfold dS;rw [hf]
theorem z8 {plan:List Zc} (a:Zb) (ps:List Int) {S U:CSet} (x:Zh) (hUS:∀ c,U c=true→S c=true) (h:∀ c∈(dH plan a ps S x).filterMap (·.2),U c=true):dH plan a ps U x=dH plan a ps S x:=by
 unfold dH at h ⊢
 have h0:dS ps U (bE plan x.Product) x.Value=dS ps S (bE plan x.Product) x.Value:=by
  refine w0 hUS fun c hc=>h c ?_
  rw [hc];simp [hc]
 rw [h0]
 cases hc:((dS ps S (bE plan x.Product) x.Value).2.isSome || !rT a (bE plan x.Product)||(bE plan x.Product).Inputs.isEmpty)
 ·rw [hc] at h
  simp only [bx] at h ⊢
  refine List.map_congr_left fun y hy=>w0 hUS fun c hcy=>h c ?_
  exact List.mem_filterMap.2 ⟨_,List.mem_map.2 ⟨y,hy,rfl⟩,hcy⟩
 rfl
theorem wi {plan:List Zc} (a:Zb) (ps:List Int) {S U:CSet} (p:Zc) (hUS:∀ c,U c=true→S c=true) (h:∀ c∈(cZ plan a ps S p).filterMap (·.2),U c=true):cZ plan a ps U p=cZ plan a ps S p:=by
 unfold cZ at h ⊢
 have key:∀ xs:List Zh,(∀ c∈(xs.flatMap (dH plan a ps S)).filterMap (·.2),U c=true)→xs.flatMap (dH plan a ps U)=xs.flatMap (dH plan a ps S):=by
  intro xs
  induction xs with
  | nil=>intro _;rfl
  | cons x xs ih =>
   intro h
   rw [List.flatMap_cons,List.filterMap_append] at h
   rw [List.flatMap_cons,List.flatMap_cons,z8 a ps x hUS fun c hc=>h c (List.mem_append.2 (.inl hc)),ih fun c hc=>h c (List.mem_append.2 (.inr hc))]
 exact key _ h
theorem Cy {plan:List Zc} {l:List Zb} (hv:VPs plan) (imp:ByteArray) (c:Za) (S:CSet) (hf:(cW plan c.Product).isSome=true):∀ d∈ji plan l imp c S,S d=true:=by
 intro d hd
 obtain ⟨hq1,hq,_⟩:=jq hv hf
 unfold ji at hd
 rw [yh] at hd
 obtain ⟨t,ht,he⟩:=List.mem_filterMap.1 hd
 exact vq hv _ _ S hq (fun t=>∀ d,t.2=some d→S d=true) (fun q _ v _ _ d h=>FT h) t ht d he
theorem Dw {plan:List Zc} {l:List Zb} (hv:VPs plan) (imp:ByteArray) (c:Za) (S:CSet):n8 plan l imp c (aO (n8 plan l imp c S).2)=n8 plan l imp c S:=by
 unfold n8
 cases h:gU plan l imp c
 ·rfl
 simp only [bT]
 have hin:=Cy (l:=l) hv imp c S (ms h)
 have e:cZ plan (jL l c.Agreement) (dP l c.Agreement (bE plan c.Product).Country imp) (aO (ji plan l imp c S)) (bE plan c.Product)=cZ plan (jL l c.Agreement) (dP l c.Agreement (bE plan c.Product).Country imp) S (bE plan c.Product):=by
  refine wi _ _ _ (fun d hd=>hin d (dB.1 hd)) fun d hd=>dB.2 ?_
  unfold ji;rw [yh];exact hd
 unfold ly
 rw [e]
 congr 1
 show sd bm _=sd bm _
 rw [e]
def xw (n:Int):Zo:=⟨n / 18446744073709551616,n % 18446744073709551616⟩
def U128 (n:Int):Prop:=0≤n∧n<340282366920938463463374607431768211456
theorem xw_of {w:Zo} (h:XW w):w=xw (xv w)∧U128 (xv w):=by
 obtain ⟨a,b⟩:=w
 unfold XW U64 at h;unfold xw xv U128;dsimp only at *
 refine ⟨?_,by omega⟩
 congr 1 <;> omega
theorem xmul {a b:Int} (ha:U64 a) (hb:U64 b):jC a b=some (xw (a*b))∧U128 (a*b):=by
 obtain ⟨w,e1,e2,e3⟩:=wW ha hb
 have:=xw_of e2
 rw [e3] at this
 rw [e1];exact ⟨congrArg some this.1,this.2⟩
theorem xcmp {a b:Int} (ha:U128 a) (hb:U128 b):gp (xw a) (xw b)=some (if a<b then -1 else if a=b then 0 else 1):=by
 unfold U128 at *
 unfold gp xw Zo.eqb
 dsimp only
 by_cases h:a<b
 ·have:((decide (a / 18446744073709551616<b / 18446744073709551616))||((a / 18446744073709551616 == b / 18446744073709551616)&&(decide (a % 18446744073709551616<b % 18446744073709551616))))=true:=by
   simp only [Bool.or_eq_true,Bool.and_eq_true,decide_eq_true_eq,beq_iff_eq];omega
  rw [this,if_pos h];rfl
 ·have:((decide (a / 18446744073709551616<b / 18446744073709551616))||((a / 18446744073709551616 == b / 18446744073709551616)&&(decide (a % 18446744073709551616<b % 18446744073709551616))))=false:=by
   simp only [Bool.or_eq_false_iff,Bool.and_eq_false_iff,decide_eq_false_iff_not,beq_eq_false_iff_ne];omega
  rw [this,if_neg h]
  simp only [bx]
  by_cases h2:a=b
  ·subst h2;simp
  rw [if_neg h2]
  have:((a / 18446744073709551616 == b / 18446744073709551616)&&(a % 18446744073709551616 == b % 18446744073709551616))=false:=by
   simp only [Bool.and_eq_false_iff,beq_eq_false_iff_ne];omega
  simp [this]
theorem tw {v s p:Int} (hv:0≤v∧v≤100000000000000) (hs:0≤s∧s≤1000000) (hp:0≤p∧p≤1000000000000):jF v s p=some (decide (v*1000000≤s*p)):=by
 unfold jF
 rw [fx (a:=v) ⟨by omega,by omega⟩,fx (a:=s) ⟨by omega,by omega⟩,fx (a:=p) ⟨by omega,by omega⟩]
 obtain ⟨e1,u1⟩:=xmul (a:=v) (b:=1000000) ⟨by omega,by omega⟩ ⟨by omega,by omega⟩
 obtain ⟨e2,u2⟩:=xmul (a:=s) (b:=p) ⟨by omega,by omega⟩ ⟨by omega,by omega⟩
 rw [e1,ba,e2,ba,xcmp u1 u2,ba]
 congr 1
 by_cases h:v*1000000<s*p
 ·rw [if_pos h,det (by omega),det (by omega)]
 rw [if_neg h]
 by_cases h2:v*1000000=s*p
 ·rw [if_pos h2,det (by omega),det (by omega)]
 rw [if_neg h2,bD (by omega),bD (by omega)]
def qm (r:Ze) (code inp:ByteArray):Bool:=ii inp (code.extract 0 r.Digits.toNat)||r.Except.any fun x=>ii inp x
theorem FU (l:List ByteArray) (s:ByteArray) (hl:l.length≤140737488355328):cq l (fun y=>f0 y s)=some (l.any fun x=>ii s x):=by
 unfold cq
 have e:cF l (fun y=>f0 y s)=some (match cr (fun k x=>cond (ii s x) (some (Sum.inr (k:Int):Unit⊕Int)) none) l 0 with | some (.inr k)=>k | _ => -1):=by
  unfold cF
  refine (bA (l:=l) (by omega) (fun k x=>cond (ii s x) (some (.inr (k:Int))) none) (.inl ()) (fun k hk=>?_) (by simp only [cJ,bx])).trans ?_
  ·simp only [gV hk,bT,aD hk,ba,bO hk (show l.length≤4611686018427387904 by omega)]
   unfold f0
   rw [sE,ba,ba];cases ii s l[k] <;> rfl
  cases cr (fun k x=>cond (ii s x) (some (Sum.inr (k:Int):Unit⊕Int)) none) l 0 with
  | none=>rfl
  | some t=>cases t <;> rfl
 rw [e,ba]
 rcases qd (fun x=>ii s x) (fun k=>(Sum.inr (k:Int):Unit⊕Int)) l 0 with ⟨h1,h2⟩ | ⟨j,hj,h1,h2⟩
 ·rw [h1]
  have:(l.any fun x=>ii s x)=false:=by rw [List.any_eq_false];exact fun x hx=>by have:=List.find?_eq_none.1 h2 x hx;simpa using this
  rw [this];rfl
 rw [h1]
 have:(l.any fun x=>ii s x)=true:=by
  rw [List.any_eq_true];exact ⟨_,List.getElem_mem hj,List.find?_some h2⟩
 rw [this]
 show some (decide (0≤((0+j:Nat):Int)))=_
 rw [det (by omega)]
theorem rp {s:ByteArray} (h:6≤dN s):6≤s.size:=by
 unfold dN at h
 split at h
 ·omega
 omega
theorem wj {r:Ze} {code:ByteArray} (hd:r.Digits=2∨r.Digits=4∨r.Digits=6) (he:r.Except.length≤6) (hc:6≤dN code) (inp:ByteArray):im r code inp=some (qm r code inp):=by
 unfold im qm
 have hs:=rp hc
 have e:jW code 0 r.Digits=some (code.extract 0 r.Digits.toNat):=by
  unfold jW;rw [if_pos (by omega)];rfl
 rw [e,ba,sE,ba]
 cases ii inp (code.extract 0 r.Digits.toNat)
 ·simp only [bx,Bool.false_or];rw [FU _ _ (by omega),ba]
 rfl
def wS (f:Zm→Int):List Zm→Int
 | []=>0
 | i::l=>cond i.Originating 0 (f i)+wS f l
def fV (i:Zm):Int:=i.Value
def fW (r:Ze) (code:ByteArray) (i:Zm):Int:=cond (qm r code i.Code) i.Value 0
def fN (_:Zm):Int:=1
def jj (r:Ze) (x:Zl):Bool :=
 cond (r.Kind == 1) (x.Obtained&&(wS fN x.Inputs == 0)) (cond (r.Kind == 2) (decide (wS (fW r x.Code) x.Inputs*1000000≤r.Tolerance*x.Price)) (cond (r.Kind == 3) (decide (wS fV x.Inputs*1000000≤r.Limit*x.Price)) (cond (r.Kind == 4) (lI x.Processes r.Name) false)))
theorem qn {f:Zm→Int} {b:Int} (hb:0≤b):∀ {l:List Zm},(∀ i∈l,0≤f i∧f i≤b)→0≤wS f l∧wS f l≤l.length*b
 | [],_=>by simp [wS]
 | i::l,h=>by
  have h1:=qn hb (l:=l) fun j hj=>h j (by simp [hj])
  have h2:=h i (by simp)
  rw [wS,List.length_cons]
  have e:((l.length+1:Nat):Int)*b=l.length*b+b:=by rw [Int.natCast_add,Int.add_mul];simp
  rw [e]
  cases i.Originating
  ·simp only [bx];omega
  simp only [bT];omega
theorem prog_holds {r:Ze} {x:Zl} (hx:VCase x) (hr:dt r=true):rule_holds r x=some (jj r x):=by
 unfold rule_holds
 have hfew:=hx.few
 have hrl:=jJ hr
 have hvi:r.Kind=2→∀ i,im r x.Code i=some (qm r x.Code i):=by
  intro hk i
  have hl:=hr
  rw [gQ,hk] at hl
  simp only [jI,hk,Bool.and_eq_true] at hl
  have h3:=hl.2
  simp at h3
  exact wj (by omega) hrl.2.2 hx.lvl i
 refine (cA (l:=x.Inputs) (by omega) (fun i (s:Int×Int×Int)=>(s.1,s.2.1,s.2.2,i)) (fun s i=>(s.1+cond i.Originating 0 (fV i),s.2.1+cond i.Originating 0 (cond (r.Kind == 2) (fW r x.Code i) 0),s.2.2+cond i.Originating 0 (fN i))) (fun s=>s) (fun k s=>(0≤s.1∧s.1≤k*1000000000000)∧(0≤s.2.1∧s.2.1≤k*1000000000000)∧(0≤s.2.2∧s.2.2≤k)) (0,0,0) ⟨by simp,by simp,by simp⟩ (fun k hk s hs=>?_) (fun s _=>by simp only [cJ,bx])).1.trans ?_
 ·obtain ⟨a,b,c⟩:=s
  obtain ⟨s1,s2,s3⟩:=hs
  dsimp only at s1 s2 s3 ⊢
  have hi:=hx.inp _ (List.getElem_mem hk)
  have hk100:k<100:=by omega
  simp only [gV hk,bT,aD hk,ba,bO hk (show x.Inputs.length≤4611686018427387904 by omega)]
  generalize x.Inputs[k]=i at hi
  unfold fV fN fW
  cases i.Originating
  ·simp only [bx]
   cases hk2:(r.Kind == 2)
   ·simp only [i7,ba,Bool.false_and,bx]
    rw [cI (r:=a+i.Value) (by omega) (by omega),cI (r:=c+1) (by omega) (by omega)]
    refine ⟨by simp,⟨by omega,by omega⟩,⟨by omega,by omega⟩,by omega,by omega⟩
   rw [cj,hvi (eq_of_beq hk2),ba]
   cases qm r x.Code i.Code
   ·simp only [Bool.and_false,bx,ba,bT]
    rw [cI (r:=a+i.Value) (by omega) (by omega),cI (r:=c+1) (by omega) (by omega)]
    refine ⟨by simp,⟨by omega,by omega⟩,⟨by omega,by omega⟩,by omega,by omega⟩
   simp only [Bool.and_self,bT,ba]
   rw [cI (r:=a+i.Value) (by omega) (by omega),cI (r:=c+1) (by omega) (by omega),cI (r:=b+i.Value) (by omega) (by omega)]
   refine ⟨rfl,⟨by omega,by omega⟩,⟨by omega,by omega⟩,by omega,by omega⟩
  simp only [bT,ba,Int.add_zero]
  refine ⟨trivial,⟨by omega,by omega⟩,⟨by omega,by omega⟩,by omega,by omega⟩
 have key:∀ (l:List Zm) (a b c:Int),l.foldl (fun (s:Int×Int×Int) i=>(s.1+cond i.Originating 0 (fV i),s.2.1+cond i.Originating 0 (cond (r.Kind == 2) (fW r x.Code i) 0),s.2.2+cond i.Originating 0 (fN i))) (a,b,c)=(a+wS fV l,b+wS (fun i=>cond (r.Kind == 2) (fW r x.Code i) 0) l,c+wS fN l):=by
  intro l
  induction l with
  | nil=>intro a b c;simp [wS]
  | cons i l ih=>intro a b c;rw [List.foldl_cons,ih];simp only [wS,Int.add_assoc]
 rw [key]
 dsimp only
 have hv:0≤wS fV x.Inputs∧wS fV x.Inputs≤100000000000000:=by
  have:=qn (f:=fV) (b:=1000000000000) (by omega) (l:=x.Inputs) fun i hi=>(hx.inp i hi).2
  omega
 have hw:0≤wS (fW r x.Code) x.Inputs∧wS (fW r x.Code) x.Inputs≤100000000000000:=by
  have:=qn (f:=fW r x.Code) (b:=1000000000000) (by omega) (l:=x.Inputs) fun i hi=>by
   have:=(hx.inp i hi).2
   unfold fW;cases qm r x.Code i.Code
   ·simp only [bx];omega
   exact this
  omega
 have hp:=hx.price
 unfold jj
 have hl:=hr
 rw [gQ] at hl
 unfold jI Fk at hl
 simp only [Int.zero_add]
 cases h1:(r.Kind == 1)
 ·cases h2:(r.Kind == 2)
  ·cases h3:(r.Kind == 3)
   ·simp only [bx]
    cases h4:(r.Kind == 4)
    ·rfl
    simp only [bT];rw [rO _ _ hx.proc.2.1];rfl
   have hk:=eq_of_beq h3
   rw [hk] at hl
   simp at hl
   simp only [bx,bT]
   rw [tw hv hl.2 (by omega)];rfl
  have hk:=eq_of_beq h2
  rw [hk] at hl
  simp at hl
  simp only [bx,bT]
  rw [tw hw (by omega) (by omega)];rfl
 simp only [bT]
mutual
def tt:Ze→Zg
 | ⟨k,d,e,t,m,n,l⟩=>cond (k == 5) (.every_ (tts l)) (cond (k == 6) (.some_ (tts l)) (.single_ ⟨⟨k,d,e,t,m,n,l⟩⟩))
def tts:List Ze→List Zg
 | []=>[]
 | a::l=>tt a::tts l
end
theorem Cz:∀ l:List Ze,tts l=l.map tt
 | []=>by rw [tts];rfl
 | a::l=>by rw [tts,Cz l];rfl
theorem FV (r:Ze):tt r=cond (r.Kind == 5) (.every_ (r.Args.map tt)) (cond (r.Kind == 6) (.some_ (r.Args.map tt)) (.single_ ⟨r⟩)):=by
 cases r;rw [tt,Cz]
theorem rV:∀ {l:List Ze} {a:Ze},a∈l→pn a≤nD l
 | b::l,a,h=>by
  rw [nD]
  rcases List.mem_cons.1 h with rfl | h
  ·omega
  have:=rV h;omega
theorem Aa (n:Nat):∀ r:Ze,dt r=true→sD r≤n→il n r=some (tt r):=by
 induction n with
 | zero=>intro r _ hd;rw [km] at hd;omega
 | succ n ih =>
  intro r hr hd
  obtain ⟨hl,ha,_⟩:=jJ hr
  show jf (il n) r=_
  unfold jf
  refine (cA (l:=r.Args) (by omega) (fun i (s:List Zg)=>(s,i)) (fun s x=>s++[tt x]) (fun s=>s) (fun k s=>s.length=k) [] rfl (fun k hk s hs=>?_) (fun s _=>by simp only [cJ,bx])).1.trans ?_
  ·simp only [gV hk,bT,aD hk,ba,bO hk (show r.Args.length≤4611686018427387904 by omega)]
   rw [ih _ (ha _ (List.getElem_mem hk)) (by have:=ir (List.getElem_mem hk);omega),ba,cL (by simp;omega) (by simp;omega)]
   exact ⟨rfl,by simp [hs]⟩
  have key:∀ (l:List Ze) (a:List Zg),l.foldl (fun s x=>s++[tt x]) a=a++l.map tt:=by
   intro l
   induction l with
   | nil=>intro a;simp
   | cons x l ih=>intro a;rw [List.foldl_cons,ih];simp
  rw [key,List.nil_append,FV]
  cases (r.Kind == 5) <;> cases (r.Kind == 6) <;> rfl
section
variable (x:Zl)
mutual
def jP:Ze→Option (List Int)
 | ⟨k,d,e,t,m,n,l⟩=>cond (k == 5) (jk l) (cond (k == 6) (kN 0 l) (cond (jj ⟨k,d,e,t,m,n,l⟩ x) (some []) none))
def jk:List Ze→Option (List Int)
 | []=>some []
 | a::l=>(jP a).bind fun p=>(jk l).bind fun q=>some (p++q)
def kN (i:Nat):List Ze→Option (List Int)
 | []=>none
 | a::l=>match jP a with
  | some p=>some ((i:Int)::p)
  | none=>kN (i+1) l
end
end
theorem yn (x:Zl) (r:Ze):jP x r=cond (r.Kind == 5) (jk x r.Args) (cond (r.Kind == 6) (kN x 0 r.Args) (cond (jj r x) (some []) none)):=by
 cases r;rw [jP]
mutual
theorem rW (x:Zl):∀ (r:Ze) (p:List Int),jP x r=some p→p.length≤pn r
 | ⟨k,d,e,t,m,n,l⟩,p,h=>by
  rw [jP] at h
  rw [pn]
  cases h5:(k == 5)
  ·rw [h5] at h
   simp only [bx] at h
   cases h6:(k == 6)
   ·rw [h6] at h
    simp only [bx] at h
    cases hh:jj ⟨k,d,e,t,m,n,l⟩ x
    ·rw [hh] at h;cases h
    rw [hh] at h;injection h with h;subst h;simp
   rw [h6] at h
   exact Ab x l 0 p h
  rw [h5] at h
  have:=Ac x l p h;omega
theorem Ac (x:Zl):∀ (l:List Ze) (p:List Int),jk x l=some p→p.length≤nD l
 | [],p,h=>by rw [jk] at h;injection h with h;subst h;simp
 | a::l,p,h=>by
  rw [jk] at h
  rw [nD]
  cases ha:jP x a with
  | none=>rw [ha] at h;cases h
  | some q =>
   rw [ha,ba] at h
   cases hl:jk x l with
   | none=>rw [hl] at h;cases h
   | some s =>
    rw [hl,ba] at h
    injection h with h
    subst h
    have h1:=rW x a q ha
    have h2:=Ac x l s hl
    rw [List.length_append];omega
theorem Ab (x:Zl):∀ (l:List Ze) (i:Nat) (p:List Int),kN x i l=some p→p.length≤1+nD l
 | [],i,p,h=>by rw [kN] at h;cases h
 | a::l,i,p,h=>by
  rw [kN] at h
  rw [nD]
  cases ha:jP x a with
  | none =>
   rw [ha] at h
   have:=Ab x l (i+1) p h;omega
  | some q =>
   rw [ha] at h
   injection h with h
   subst h
   have h1:=rW x a q ha
   rw [List.length_cons];omega
end
theorem concatI (a b:List Int) (h:a.length+b.length≤1000000):dx [a,b]=some (a++b):=by
 unfold dx gF
 refine (jZ (l:=[a,b]) (by simp) (fun i (s:Nat)=>((s:Int),i)) (fun _ x s=>(.inl (s+x.length):Nat⊕Empty)) (fun (s:Nat)=>(s:Int)) noE (fun k s=>s≤1000000∧s=([a,b].take k).flatten.length) 0 ⟨by omega,rfl⟩ (fun k hk s hs=>⟨?_,fun s' h'=>?_⟩) (fun s _=>by simp only [cJ,bx])).trans ?_
 ·have hb:s+([a,b][k]).length≤1000000:=by
   obtain ⟨_,e⟩:=hs
   match k,hk with
   | 0,_=>simp at e;subst e;simp;omega
   | 1,_=>simp at e;subst e;simp;omega
  simp only [gV hk,bT,aD hk,ba,bO hk (show [a,b].length≤4611686018427387904 by simp),zu]
  rw [cI (by omega) (by omega),bD (by omega)]
  simp only [bx,Int.natCast_add]
 ·injection h' with h'
  obtain ⟨h1,h2⟩:=hs
  subst h'
  match k,hk with
  | 0,_=>simp at h2 ⊢;subst h2;simp;omega
  | 1,_=>simp at h2 ⊢;subst h2;omega
 show Option.bind (Option.bind (Dc 8 ((0+a.length+b.length:Nat):Int)) _) _=_
 rw [Ba (by omega) (by omega),ba,ba]
 refine (cA (l:=[a,b]) (by simp) (fun i (s:List Int)=>(s,i)) (fun s x=>s++x) (fun s=>s) (fun k s=>s=([a,b].take k).flatten) [] rfl (fun k hk s hs=>⟨?_,?_⟩) (fun s _=>by simp only [cJ,bx])).1.trans ?_
 ·have hb:s.length+([a,b][k]).length≤1000000:=by
   match k,hk with
   | 0,_=>simp at hs;subst hs;simp;omega
   | 1,_=>simp at hs;subst hs;simp;omega
  simp only [gV hk,bT,aD hk,ba,bO hk (show [a,b].length≤4611686018427387904 by simp)]
  rw [cL (by omega) (by omega)];rfl
 ·match k,hk with
  | 0,_=>simp at hs;subst hs;simp
  | 1,_=>simp at hs;subst hs;simp
 simp
theorem Dx (x:Zl) (hx:VCase x) (n:Nat):∀ r:Ze,dt r=true→pn r≤1000→sD r≤n→Irule_test_witness_F n (tt r) x=some (hX [] (jP x r)):=by
 induction n with
 | zero=>intro r _ _ hd;rw [km] at hd;omega
 | succ n ih =>
  intro r hr hc hd
  obtain ⟨hl,ha,_⟩:=jJ hr
  have hargs:∀ k (hk:k<r.Args.length),Irule_test_witness_F n (tt r.Args[k]) x=some (hX [] (jP x r.Args[k])):=fun k hk=>ih _ (ha _ (List.getElem_mem hk)) (by have:=qa r;have:=rV (List.getElem_mem hk);omega) (by have:=ir (List.getElem_mem hk);omega)
  have hcl:∀ k (hk:k<r.Args.length) p,jP x r.Args[k]=some p→p.length≤1000:=fun k hk p h=>by have h1:=rW x _ p h;have:=qa r;have:=rV (List.getElem_mem hk);omega
  show Irule_test_witness_B (Irule_test_witness_F n) (tt r) x=_
  rw [FV,yn]
  have hml:(r.Args.map tt).length=r.Args.length:=List.length_map _
  have hmi:∀ k (hk:k<(r.Args.map tt).length),(r.Args.map tt)[k]=tt (r.Args[k]'(by omega)):=fun k hk=>by rw [List.getElem_map]
  cases h5:(r.Kind == 5)
  ·cases h6:(r.Kind == 6)
   ·show fp ⟨r⟩ x=_
    unfold fp
    rw [prog_holds hx hr,ba]
    simp only [bx]
    cases jj r x <;> rfl
   show fm (Irule_test_witness_F n) (r.Args.map tt) x=_
   unfold fm
   refine (bA (l:=r.Args.map tt) (by omega) (fun k t=>match Irule_test_witness_F n t x with | some (p,true)=>some (.inr ((k:Int)::p,true)) | _=>none) (.inl ()) (fun k hk=>?_) (by simp only [cJ,bx])).trans ?_
   ·simp only [gV hk,bT,aD hk,ba,bO hk (show (r.Args.map tt).length≤4611686018427387904 by omega),hmi k hk]
    rw [hargs k (by omega)]
    have:=hcl k (by omega)
    cases hw:jP x (r.Args[k]'(by omega)) with
    | none=>rfl
    | some p =>
     have:=this p hw
     show Option.bind (dx [[(k:Int)],p]) _=_
     rw [concatI _ _ (by simp;omega)];rfl
   have key:∀ (m:List Ze) (i:Nat),(∀ j (hj:j<m.length),Irule_test_witness_F n (tt m[j]) x=some (hX [] (jP x m[j])))→cr (fun k t=>match Irule_test_witness_F n t x with | some (p,true)=>some (Sum.inr ((k:Int)::p,true):Unit⊕(List Int×Bool)) | _=>none) (m.map tt) i=(kN x i m).map fun p=>Sum.inr (p,true):=by
    intro m
    induction m with
    | nil=>intro i _;rw [kN];rfl
    | cons a m ih =>
     intro i h
     have h0:=h 0 (by simp)
     have h1:=ih (i+1) fun j hj=>h (j+1) (by simpa using hj)
     rw [List.map_cons,cr,kN,h1]
     change Irule_test_witness_F n (tt a) x=some (hX [] (jP x a)) at h0
     rw [h0]
     cases jP x a <;> rfl
   rw [key _ 0 hargs]
   simp only [bx,bT]
   cases kN x 0 r.Args <;> rfl
  show eX (Irule_test_witness_F n) (r.Args.map tt) x=_
  unfold eX
  simp only [bT]
  refine (jZ (l:=r.Args.map tt) (by omega) (fun i (s:List Int)=>(s,i)) (fun _ t s=>match Irule_test_witness_F n t x with | some (p,true)=>(.inl (s++p):List Int⊕Unit) | _=>.inr ()) (fun s=>.inl s) (fun _=>.inr ([],false)) (fun k s=>s.length≤k*1000) [] (by simp) (fun k hk s hs=>⟨?_,fun s' h'=>?_⟩) (fun s _=>by simp only [cJ,bx])).trans ?_
  ·simp only [gV hk,bT,aD hk,ba,bO hk (show (r.Args.map tt).length≤4611686018427387904 by omega),hmi k hk]
   rw [hargs k (by omega)]
   have:=hcl k (by omega)
   cases hw:jP x (r.Args[k]'(by omega)) with
   | none=>rfl
   | some p =>
    have:=this p hw
    show Option.bind (app 8 s p) _=_
    rw [cL (by omega) (by omega)];rfl
  ·have h0:=hargs k (by omega)
   have:=hcl k (by omega)
   rw [hmi k hk,h0] at h'
   cases hw:jP x (r.Args[k]'(by omega)) with
   | none=>rw [hw] at h';cases h'
   | some p =>
    have:=this p hw
    rw [hw] at h'
    injection h' with h'
    subst h'
    rw [List.length_append];omega
  have key:∀ (m:List Ze) (i:Nat) (s:List Int),(∀ j (hj:j<m.length),Irule_test_witness_F n (tt m[j]) x=some (hX [] (jP x m[j])))→run (fun _ t s=>match Irule_test_witness_F n t x with | some (p,true)=>(.inl (s++p):List Int⊕Unit) | _=>.inr ()) (m.map tt) i s=match jk x m with | some p=>.inl (s++p) | none=>.inr ():=by
   intro m
   induction m with
   | nil=>intro i s _;rw [jk];simp [run]
   | cons a m ih =>
    intro i s h
    have h0:=h 0 (by simp)
    have h1:=fun s=>ih (i+1) s fun j hj=>h (j+1) (by simpa using hj)
    rw [List.map_cons,i9,jk]
    change Irule_test_witness_F n (tt a) x=some (hX [] (jP x a)) at h0
    rw [h0]
    cases jP x a with
    | none=>rfl
    | some p =>
     show run _ (m.map tt) (i+1) (s++p)=_
     rw [h1,ba]
     cases jk x m with
     | none=>rfl
     | some q=>show Sum.inl (s++p++q)=Sum.inl (s++(p++q));rw [List.append_assoc]
  rw [key _ 0 [] hargs]
  cases jk x r.Args <;> rfl
theorem yo {r:Ze} {x:Zl} (hx:VCase x) (ok:ROk r) (hr:dt r=true) (hc:pn r≤32):ki r x=some (hX [] (jP x r)):=by
 have hd:=oQ r
 have hf:FUEL=1267650600228229401496703205376:=rfl
 unfold ki f8
 rw [n4 r ok (by omega),(kM r).2 ⟨hc,hr⟩,ba,show ((0:Int) == 0)=true from rfl,cj,qk hx,ba,ba]
 show Option.bind (il FUEL r) _=_
 rw [Aa FUEL r hr (by omega),ba]
 show Option.bind (Irule_test_witness_F FUEL (tt r) x) _=_
 rw [Dx x hx FUEL r hr (by omega) (by omega)];rfl
mutual
theorem Ad {x y:Zl} (h:∀ r,dt r=true→jj r x=true→jj r y=true):∀ r:Ze,dt r=true→(jP x r).isSome=true→(jP y r).isSome=true
 | ⟨k,d,e,t,m,n,l⟩,hr,hw=>by
  have hl:=hr
  rw [dt] at hl
  rw [jP] at hw ⊢
  cases h5:(k == 5)
  ·rw [h5] at hw hl
   simp only [bx] at hw ⊢
   cases h6:(k == 6)
   ·rw [h6] at hw
    simp only [bx] at hw ⊢
    cases hh:jj ⟨k,d,e,t,m,n,l⟩ x
    ·rw [hh] at hw;cases hw
    rw [h _ hr hh];rfl
   rw [h6] at hw hl
   simp only [Bool.or_true,bT,Bool.and_eq_true] at hl
   exact w5 h l 0 0 k hl.2.2 hw
  rw [h5] at hw hl
  simp only [Bool.true_or,bT,Bool.and_eq_true] at hl
  exact w6 h l k hl.2.2 hw
theorem w6 {x y:Zl} (h:∀ r,dt r=true→jj r x=true→jj r y=true):∀ (l:List Ze) (k:Int),oR k l=true→(jk x l).isSome=true→(jk y l).isSome=true
 | [],k,_,_=>by rw [jk];rfl
 | a::l,k,hr,hw=>by
  rw [oR] at hr
  simp only [Bool.and_eq_true] at hr
  rw [jk] at hw ⊢
  have h1:=Ad h a hr.1.2
  have h2:=w6 h l k hr.2
  cases ha:jP x a with
  | none=>rw [ha] at hw;cases hw
  | some p =>
   cases hl:jk x l with
   | none=>rw [ha,hl] at hw;cases hw
   | some q =>
    rw [ha] at h1;rw [hl] at h2
    obtain ⟨p',e1⟩:=Option.isSome_iff_exists.1 (h1 rfl)
    obtain ⟨q',e2⟩:=Option.isSome_iff_exists.1 (h2 rfl)
    rw [e1,e2];rfl
theorem w5 {x y:Zl} (h:∀ r,dt r=true→jj r x=true→jj r y=true):∀ (l:List Ze) (i j:Nat) (k:Int),oR k l=true→(kN x i l).isSome=true→(kN y j l).isSome=true
 | [],i,j,k,_,hw=>by rw [kN] at hw;cases hw
 | a::l,i,j,k,hr,hw=>by
  rw [oR] at hr
  simp only [Bool.and_eq_true] at hr
  rw [kN] at hw ⊢
  have h1:=Ad h a hr.1.2
  cases ha:jP x a with
  | none =>
   rw [ha] at hw
   cases jP y a with
   | none=>exact w5 h l (i+1) (j+1) k hr.2 hw
   | some p=>rfl
  | some p =>
   rw [ha] at h1
   obtain ⟨p',e1⟩:=Option.isSome_iff_exists.1 (h1 rfl)
   rw [e1];rfl
end
structure Wt (f:Zm→Int):Prop where
 same:∀ c v a b,f ⟨c,v,a⟩=f ⟨c,v,b⟩
 pos:∀ i:Zm,0≤i.Value→0≤f i
section
variable {γ δ π:Type} [DecidableEq δ] (gc:γ→δ) (cl:π→δ) (pv:(δ→Bool)→γ→Option π)
def jx:Nat→List γ→List π→List π
 | 0,_,ps=>ps
 | n+1,o,ps=>cond (o.filterMap (pv (aO (ps.map cl)))).isEmpty ps (jx n (o.filter fun g=>(pv (aO (ps.map cl)) g).isNone) (ps++o.filterMap (pv (aO (ps.map cl)))))
def rX (G:List γ):Nat→List π→List π
 | 0,ps=>ps
 | n+1,ps=>cond (G.filterMap fun g=>cond (aO (ps.map cl) (gc g)) none (pv (aO (ps.map cl)) g)).isEmpty ps (rX G n (ps++G.filterMap fun g=>cond (aO (ps.map cl) (gc g)) none (pv (aO (ps.map cl)) g)))
def Closed (G:List γ) (T:δ→Bool):Prop:=∀ g∈G,(pv T g).isSome=true→T (gc g)=true
structure RInv (G o:List γ) (ps:List π):Prop where
 all:∀ g∈G,g∈o∨aO (ps.map cl) (gc g)=true
 opn:∀ g∈o,g∈G∧aO (ps.map cl) (gc g)=false
 prv:∀ p∈ps,∃ g∈G,gc g=cl p∧(pv (aO (ps.map cl)) g).isSome=true
 lst:∀ T,Closed gc pv G T→∀ p∈ps,T (cl p)=true
variable {gc cl pv} (hcl:∀ S g p,pv S g=some p→cl p=gc g)
theorem ik {l:List π} {c:δ}:aO (l.map cl) c=true↔∃ p∈l,cl p=c:=by rw [dB,List.mem_map]
theorem rY {o:List γ} {f:γ→Option π} (h:(o.filterMap f).isEmpty=false):(o.filter fun g=>(f g).isNone).length<o.length:=by
 induction o with
 | nil=>cases h
 | cons g o ih =>
  rw [List.filter_cons]
  cases hf:f g with
  | some p =>
   have:=List.length_filter_le (fun g=>(f g).isNone) o
   simp only [Option.isNone_some,Bool.false_eq_true,if_false,List.length_cons];omega
  | none =>
   rw [List.filterMap_cons_none hf] at h
   have:=ih h
   simp only [Option.isNone_none,if_true,List.length_cons];omega
include hcl in
theorem By {G:List γ} (inj:∀ g∈G,∀ g'∈G,gc g=gc g'→g=g'):∀ (n:Nat) (ps:List π),jx cl pv n (G.filter fun g => !aO (ps.map cl) (gc g)) ps=rX gc cl pv G n ps:=by
 intro n
 induction n with
 | zero=>intro ps;rfl
 | succ n ih =>
  intro ps
  rw [jx,rX]
  have e1:(G.filter fun g => !aO (ps.map cl) (gc g)).filterMap (pv (aO (ps.map cl)))=G.filterMap fun g=>cond (aO (ps.map cl) (gc g)) none (pv (aO (ps.map cl)) g):=by
   generalize pv (aO (ps.map cl))=f
   generalize aO (ps.map cl)=m
   clear ih inj
   induction G with
   | nil=>rfl
   | cons g G ihG =>
    rw [List.filter_cons]
    cases hm:m (gc g)
    ·simp only [Bool.not_false,if_true,List.filterMap_cons,ihG,hm,bx]
    simp only [Bool.not_true,Bool.false_eq_true,if_false,List.filterMap_cons,ihG,hm,bT]
  rw [e1]
  have e2:((G.filter fun g => !aO (ps.map cl) (gc g)).filter fun g=>(pv (aO (ps.map cl)) g).isNone)=G.filter fun g => !aO ((ps++G.filterMap fun g=>cond (aO (ps.map cl) (gc g)) none (pv (aO (ps.map cl)) g)).map cl) (gc g):=by
   rw [List.filter_filter]
   refine List.filter_congr fun g hg=>?_
   cases hm:aO (ps.map cl) (gc g)
   ·cases hp:pv (aO (ps.map cl)) g with
    | none =>
     cases hq:aO ((ps++G.filterMap fun g=>cond (aO (ps.map cl) (gc g)) none (pv (aO (ps.map cl)) g)).map cl) (gc g)
     ·rfl
     ·obtain ⟨p,k1,k2⟩:=ik.1 hq
      rcases List.mem_append.1 k1 with k1 | k1
      ·rw [ik.2 ⟨p,k1,k2⟩] at hm;cases hm
      ·obtain ⟨g',hg',he⟩:=List.mem_filterMap.1 k1
       cases hm':aO (ps.map cl) (gc g')
       ·rw [hm'] at he
        have:=inj g' hg' g hg ((hcl _ _ _ he).symm.trans k2)
        subst this
        rw [bx,hp] at he;cases he
       ·rw [hm'] at he;cases he
    | some p =>
     have:aO ((ps++G.filterMap fun g=>cond (aO (ps.map cl) (gc g)) none (pv (aO (ps.map cl)) g)).map cl) (gc g)=true:=ik.2 ⟨p,List.mem_append.2 (.inr (List.mem_filterMap.2 ⟨g,hg,by rw [hm];exact hp⟩)),hcl _ _ _ hp⟩
     rw [this];rfl
   have:aO ((ps++G.filterMap fun g=>cond (aO (ps.map cl) (gc g)) none (pv (aO (ps.map cl)) g)).map cl) (gc g)=true:=by
    obtain ⟨p,k1,k2⟩:=ik.1 hm
    exact ik.2 ⟨p,List.mem_append.2 (.inl k1),k2⟩
   rw [this]
   cases (pv (aO (ps.map cl)) g).isNone <;> rfl
  rw [e2,ih]
end
abbrev Goal:=Za×Ze
abbrev Prf:=Za×List Int×List Za
def cD (plan:List Zc) (l:List Zb) (imp:ByteArray):List Goal:=plan.flatMap fun p=>l.filterMap fun a=>cond (gU plan l imp ⟨p.ID,a.ID⟩) ((cM a p.Code).map fun r=>((⟨p.ID,a.ID⟩:Za),r)) none
def ez (plan:List Zc) (l:List Zb) (imp:ByteArray) (S:CSet) (g:Goal):Option Prf:=(jP (ly plan l imp g.1 S) g.2).map fun path=>(g.1,path,ji plan l imp g.1 S)
def ip (plan:List Zc) (l:List Zb) (imp:ByteArray):List Prf:=jx (fun p:Prf=>p.1) (ez plan l imp) (cD plan l imp).length (cD plan l imp) []
theorem oa {plan:List Zc} {l:List Zb} {imp:ByteArray} {g:Goal}:g∈cD plan l imp↔∃ p∈plan,∃ a∈l,gU plan l imp ⟨p.ID,a.ID⟩=true∧cM a p.Code=some g.2∧g.1=⟨p.ID,a.ID⟩:=by
 unfold cD
 rw [List.mem_flatMap]
 constructor
 ·rintro ⟨p,hp,hg⟩
  obtain ⟨a,ha,he⟩:=List.mem_filterMap.1 hg
  cases hc:gU plan l imp ⟨p.ID,a.ID⟩
  ·rw [hc] at he;cases he
  rw [hc,bT] at he
  cases hr:cM a p.Code with
  | none=>rw [hr] at he;cases he
  | some r =>
   rw [hr,Option.map_some] at he
   injection he with he
   subst he
   exact ⟨p,hp,a,ha,hc,hr,rfl⟩
 rintro ⟨p,hp,a,ha,hc,hr,hg⟩
 obtain ⟨c,r⟩:=g
 dsimp only at hr hg
 subst hg
 exact ⟨p,hp,List.mem_filterMap.2 ⟨a,ha,by rw [hc,hr];rfl⟩⟩
theorem yp {α:Type} {f:α→Int} {l:List α} (h:l.Pairwise fun a b=>f a<f b) {a b:α} (ha:a∈l) (hb:b∈l) (e:f a=f b):a=b:=by
 induction l with
 | nil=>cases ha
 | cons x l ih =>
  obtain ⟨h1,h2⟩:=List.pairwise_cons.1 h
  rcases List.mem_cons.1 ha with e1 | ha'
  ·rcases List.mem_cons.1 hb with e2 | hb'
   ·rw [e1,e2]
   have:=h1 b hb';rw [← e1] at this;omega
  rcases List.mem_cons.1 hb with e2 | hb'
  ·have:=h1 a ha';rw [← e2] at this;omega
  exact ih h2 ha' hb'
theorem qG {plan:List Zc} {l:List Zb} {imp:ByteArray} (hv:VPs plan) (hl:AscA l):∀ g∈cD plan l imp,∀ g'∈cD plan l imp,g.1=g'.1→g=g':=by
 intro g hg g' hg' e
 obtain ⟨p,hp,a,ha,_,hr,h1⟩:=oa.1 hg
 obtain ⟨p',hp',a',ha',_,hr',h1'⟩:=oa.1 hg'
 rw [h1,h1'] at e
 injection e with e1 e2
 have:=yp hv.asc hp hp' e1
 have:=yp hl ha ha' e2
 subst_vars
 rw [hr] at hr'
 injection hr' with hr'
 exact Prod.ext (h1.trans h1'.symm) hr'
theorem vu {a:Zb} (ha:VA a) {code:ByteArray} {r:Ze} (h:cM a code=some r):ROk r∧dt r=true∧pn r≤32:=by
 rcases oU a code with ⟨_,h2⟩ | ⟨j,hj,_,h2⟩
 ·rw [h2] at h;cases h
 rw [h2] at h
 injection h with h
 have h1:=(kM _).1 (ha.rules _ (List.getElem_mem hj))
 have h3:=ha.ok.rules _ (List.getElem_mem hj)
 rw [← h]
 exact ⟨h3.rule,h1.2,h1.1⟩
theorem sJ {plan:List Zc} {l:List Zb} {imp:ByteArray} (hl:VAs l) {g:Goal} (hg:g∈cD plan l imp):ROk g.2∧dt g.2=true∧pn g.2≤32:=by
 obtain ⟨p,hp,a,ha,_,hr,_⟩:=oa.1 hg
 exact vu (hl.all a ha) hr
theorem o4 {plan:List Zc} {l:List Zb} {imp:ByteArray} {g:Goal} (hg:g∈cD plan l imp):gU plan l imp g.1=true∧(cW plan g.1.Product).isSome=true:=by
 obtain ⟨p,hp,a,ha,hc,_,h1⟩:=oa.1 hg
 rw [h1];exact ⟨hc,ms hc⟩
theorem Bz (plan:List Zc) (l:List Zb) (imp:ByteArray):∀ (S:CSet) (g:Goal) (p:Prf),ez plan l imp S g=some p→p.1=g.1:=by
 intro S g p h
 unfold ez at h
 cases hw:jP (ly plan l imp g.1 S) g.2 with
 | none=>rw [hw] at h;cases h
 | some q=>rw [hw,Option.map_some] at h;injection h with h;rw [← h]
inductive Chp:List Zh→List Zh→Prop
 | nil:Chp [] []
 | cons {x y:Zh} {l m:List Zh} (h1:y.Product=x.Product) (h2:0≤y.Value) (h3:y.Value≤x.Value) (h:Chp l m):Chp (x::l) (y::m)
theorem Chp.empty {l m:List Zh} (h:Chp l m):m.isEmpty=l.isEmpty:=by cases h <;> rfl
theorem Chp.refl:∀ {l:List Zh},(∀ x∈l,0≤x.Value)→Chp l l
 | [],_=>.nil
 | x::l,h=>.cons rfl (h x (by simp)) (Int.le_refl _) (Chp.refl fun y hy=>h y (by simp [hy]))
structure PLe (p q:Zc):Prop where
 id:q.ID=p.ID
 code:q.Code=p.Code
 ctr:q.Country=p.Country
 price:q.Price=p.Price
 obt:q.Obtained=p.Obtained
 proc:q.Processes=p.Processes
 inp:Chp p.Inputs q.Inputs
structure WtM (f:Zm→Int):Prop where
 wt:Wt f
 le:∀ c v w a,0≤v→v≤w→f ⟨c,v,a⟩≤f ⟨c,w,a⟩
section
variable {ps ps':List Int} {S T:CSet} (hps:∀ x∈ps,x∈ps') (hST:∀ c,S c=true→T c=true)
variable {plan plan':List Zc} (hpl:∀ id,(cW plan id).isSome=true→PLe (bE plan id) (bE plan' id))
end
inductive PsLe:List Zc→List Zc→Prop
 | nil:PsLe [] []
 | cons {p q:Zc} {l m:List Zc} (h1:PLe p q) (h:PsLe l m):PsLe (p::l) (q::m)
theorem PsLe.find {l m:List Zc} (h:PsLe l m) (id:Int):(cW l id=none∧cW m id=none)∨∃ p q,cW l id=some p∧cW m id=some q∧PLe p q:=by
 induction h with
 | nil=>exact .inl ⟨rfl,rfl⟩
 | @cons p q l m h1 h ih =>
  unfold cW at ih ⊢
  rw [List.find?_cons,List.find?_cons,h1.id]
  cases p.ID == id
  ·exact ih
  exact .inr ⟨p,q,rfl,rfl,h1⟩
theorem PsLe.mem {l m:List Zc} (h:PsLe l m) {p:Zc} (hp:p∈l):∃ q∈m,PLe p q:=by
 induction h with
 | nil=>cases hp
 | @cons x q l m h1 h ih =>
  rcases List.mem_cons.1 hp with e | hp'
  ·subst e;exact ⟨q,by simp,h1⟩
  obtain ⟨r,k1,k2⟩:=ih hp'
  exact ⟨r,by simp [k1],k2⟩
theorem CA {p:List Zc} {l:List Zb} {i:ByteArray} {c:Za} (h:gU p l i c=true):(jK l c.Agreement).isSome=true:=by
 unfold gU at h
 cases hf:jK l c.Agreement with
 | none=>rw [hf] at h;cases hp:cW p c.Product <;> rw [hp] at h <;> cases h
 | some a=>rfl
theorem PLe.refl {plan:List Zc} {p:Zc} (h:VProd plan p):PLe p p:=⟨rfl,rfl,rfl,rfl,rfl,rfl,Chp.refl fun x hx=>(h.inp x hx).2.1⟩
section
variable {plan:List Zc} (R:Int→Bool) (hR:∀ p∈plan,R p.ID=true→∀ y∈p.Inputs,R y.Product=true)
end
section
variable (x:Zl)
mutual
def vw:Ze→List Int→Option (List Int)
 | ⟨k,d,e,t,m,n,l⟩,p=>cond (k == 5) (qL l p) (cond (k == 6) (cond (!p.isEmpty&&decide (0≤p.headD 0)) (o5 l (p.headD 0).toNat p.tail) none) (cond (jj ⟨k,d,e,t,m,n,l⟩ x) (some p) none))
def qL:List Ze→List Int→Option (List Int)
 | [],p=>some p
 | a::l,p=>match vw a p with
  | some q=>qL l q
  | none=>none
def o5:List Ze→Nat→List Int→Option (List Int)
 | [],_,_=>none
 | a::_,0,p=>vw a p
 | _::l,n+1,p=>o5 l n p
end
end
theorem vx (x:Zl):∀ (l:List Ze) (n:Nat) (p:List Int),o5 x l n p=match l[n]? with | some a=>vw x a p | none=>none
 | [],n,p=>by rw [o5];rfl
 | a::l,0,p=>by rw [o5];rfl
 | a::l,n+1,p=>by rw [o5,vx x l n p];rfl
theorem FW (x:Zl) (r:Ze) (p:List Int):vw x r p=cond (r.Kind == 5) (qL x r.Args p) (cond (r.Kind == 6) (cond (!p.isEmpty&&decide (0≤p.headD 0)) (o5 x r.Args (p.headD 0).toNat p.tail) none) (cond (jj r x) (some p) none)):=by
 cases r;rw [vw]
mutual
theorem CB (x:Zl):∀ (r:Ze) (p q:List Int),vw x r p=some q→(jP x r).isSome=true
 | ⟨k,d,e,t,m,n,l⟩,p,q,h=>by
  rw [vw] at h
  rw [jP]
  cases h5:(k == 5)
  ·rw [h5] at h
   simp only [bx] at h ⊢
   cases h6:(k == 6)
   ·rw [h6] at h
    simp only [bx] at h ⊢
    cases hh:jj ⟨k,d,e,t,m,n,l⟩ x
    ·rw [hh] at h;cases h
    rfl
   rw [h6] at h
   simp only [bT] at h ⊢
   cases hi:(!p.isEmpty&&decide (0≤p.headD 0))
   ·rw [hi] at h;cases h
   rw [hi] at h;exact Ae x l _ 0 _ q h
  rw [h5] at h
  exact Af x l p q h
theorem Af (x:Zl):∀ (l:List Ze) (p q:List Int),qL x l p=some q→(jk x l).isSome=true
 | [],p,q,h=>by rw [jk];rfl
 | a::l,p,q,h=>by
  rw [qL] at h
  rw [jk]
  cases ha:vw x a p with
  | none=>rw [ha] at h;cases h
  | some s =>
   rw [ha] at h
   obtain ⟨w,e1⟩:=Option.isSome_iff_exists.1 (CB x a p s ha)
   obtain ⟨v,e2⟩:=Option.isSome_iff_exists.1 (Af x l s q h)
   rw [e1,e2];rfl
theorem Ae (x:Zl):∀ (l:List Ze) (n i:Nat) (p q:List Int),o5 x l n p=some q→(kN x i l).isSome=true
 | [],n,i,p,q,h=>by rw [o5] at h;cases h
 | a::l,0,i,p,q,h=>by
  rw [o5] at h
  rw [kN]
  obtain ⟨w,e1⟩:=Option.isSome_iff_exists.1 (CB x a p q h)
  rw [e1];rfl
 | a::l,n+1,i,p,q,h=>by
  rw [o5] at h
  rw [kN]
  cases jP x a with
  | none=>exact Ae x l n (i+1) p q h
  | some w=>rfl
end
mutual
theorem yq (x:Zl):∀ (r:Ze) (w t:List Int),jP x r=some w→vw x r (w++t)=some t
 | ⟨k,d,e,u,m,n,l⟩,w,t,h=>by
  rw [jP] at h
  rw [vw]
  cases h5:(k == 5)
  ·rw [h5] at h
   simp only [bx] at h ⊢
   cases h6:(k == 6)
   ·rw [h6] at h
    simp only [bx] at h ⊢
    cases hh:jj ⟨k,d,e,u,m,n,l⟩ x
    ·rw [hh] at h;cases h
    rw [hh] at h;injection h with h;subst h;rfl
   rw [h6] at h
   simp only [bT] at h ⊢
   obtain ⟨j,v,e1,e2⟩:=Ag x l 0 w t h
   subst e1
   show cond (true&&decide (0≤((0+j:Nat):Int))) (o5 x l ((0+j:Nat):Int).toNat (v++t)) none=_
   rw [det (by omega),Bool.and_self,bT,show ((0+j:Nat):Int).toNat=j by omega]
   exact e2
  rw [h5] at h
  exact Ah x l w t h
theorem Ah (x:Zl):∀ (l:List Ze) (w t:List Int),jk x l=some w→qL x l (w++t)=some t
 | [],w,t,h=>by rw [jk] at h;injection h with h;subst h;rw [qL];rfl
 | a::l,w,t,h=>by
  rw [jk] at h
  rw [qL]
  cases ha:jP x a with
  | none=>rw [ha] at h;cases h
  | some p =>
   cases hl:jk x l with
   | none=>rw [ha,hl] at h;cases h
   | some q =>
    rw [ha,hl,ba,ba] at h
    injection h with h
    subst h
    rw [List.append_assoc,yq x a p (q++t) ha]
    exact Ah x l q t hl
theorem Ag (x:Zl):∀ (l:List Ze) (i:Nat) (w t:List Int),kN x i l=some w→∃ (j:Nat) (v:List Int),w=((i+j:Nat):Int)::v∧o5 x l j (v++t)=some t
 | [],i,w,t,h=>by rw [kN] at h;cases h
 | a::l,i,w,t,h=>by
  rw [kN] at h
  cases ha:jP x a with
  | none =>
   rw [ha] at h
   obtain ⟨j,v,e1,e2⟩:=Ag x l (i+1) w t h
   exact ⟨j+1,v,by rw [e1];congr 2;omega,by rw [o5];exact e2⟩
  | some p =>
   rw [ha] at h
   injection h with h
   exact ⟨0,p,h.symm,by rw [o5];exact yq x a p t ha⟩
end
def mP (plan:List Zc) (l:List Zb) (c:Za):Ze:=(cM (jL l c.Agreement) (bE plan c.Product).Code).getD qP
def i6 (plan:List Zc) (l:List Zb) (imp:ByteArray) (K:CSet) (p:Prf):Bool :=
 gU plan l imp p.1 && !K p.1&&p.2.2.all K&&decide (ji plan l imp p.1 (aO p.2.2)=p.2.2)&&decide (vw (ly plan l imp p.1 (aO p.2.2)) (mP plan l p.1) p.2.1=some [])
def tz (plan:List Zc) (l:List Zb) (imp:ByteArray):List Za→List Prf→Bool
 | _,[]=>true
 | K,p::ps=>i6 plan l imp (aO K) p&&tz plan l imp (K++[p.1]) ps
theorem Ai {plan:List Zc} {l:List Zb} {imp:ByteArray} {c:Za} (h:gU plan l imp c=true):(c,mP plan l c)∈cD plan l imp:=by
 obtain ⟨q,a,r,e1,e2,e3,_⟩:=n9 h
 have h1:=sH e1
 have h2:a∈l∧a.ID=c.Agreement:=⟨List.mem_of_find?_eq_some e2,by have:=List.find?_some e2;simpa using this⟩
 have ec:c=⟨q.ID,a.ID⟩:=by obtain ⟨x,y⟩:=c;dsimp only at h1 h2;rw [h1.2,h2.2]
 have er:mP plan l c=r:=by unfold mP jL bE;rw [e1,e2];show (cM a q.Code).getD qP=r;rw [e3];rfl
 exact oa.2 ⟨q,h1.1,a,h2.1,by rw [← ec];exact h,by rw [er];exact e3,ec⟩
theorem yr {plan:List Zc} {l:List Zb} {imp:ByteArray} (hv:VPs plan) (ha:AscA l) {g:Goal} (hg:g∈cD plan l imp):mP plan l g.1=g.2:=by
 have h:=qG hv ha _ (Ai (o4 hg).1) _ hg rfl
 exact congrArg Prod.snd h
theorem vy {plan:List Zc} {l:List Zb} {imp:ByteArray}:∀ (a b:List Prf) (K:List Za),tz plan l imp K (a++b)=(tz plan l imp K a&&tz plan l imp (K++a.map (·.1)) b)
 | [],b,K=>by rw [List.nil_append,tz,Bool.true_and,List.map_nil,List.append_nil]
 | p::a,b,K=>by rw [List.cons_append,tz,tz,vy a b,Bool.and_assoc,List.append_assoc];rfl
theorem vz {plan:List Zc} {l:List Zb} (hv:VPs plan) (imp:ByteArray) {c:Za} (S:CSet) (h:gU plan l imp c=true):ly plan l imp c (aO (ji plan l imp c S))=ly plan l imp c S∧ji plan l imp c (aO (ji plan l imp c S))=ji plan l imp c S:=by
 have e:=Dw (l:=l) hv imp c S
 unfold n8 at e
 rw [h] at e
 simp only [bT] at e
 exact ⟨congrArg Prod.fst e,congrArg Prod.snd e⟩
theorem Dy {plan:List Zc} {l:List Zb} (hv:VPs plan) (ha:AscA l) {imp:ByteArray} {S K:CSet} (hSK:∀ c,S c=true→K c=true) {g:Goal} (hg:g∈cD plan l imp) (hn:K g.1=false) {p:Prf} (h:ez plan l imp S g=some p):i6 plan l imp K p=true∧p.1=g.1:=by
 unfold ez at h
 cases hw:jP (ly plan l imp g.1 S) g.2 with
 | none=>rw [hw] at h;cases h
 | some w =>
  rw [hw,Option.map_some] at h
  injection h with h
  subst h
  refine ⟨?_,rfl⟩
  have hf:=o4 hg
  obtain ⟨e1,e2⟩:=vz hv imp S hf.1
  unfold i6
  dsimp only
  rw [hf.1,hn,e1,e2,det rfl,yr hv ha hg]
  have:=yq _ _ w [] hw
  rw [List.append_nil] at this
  rw [this,det rfl]
  simp only [Bool.not_false,Bool.and_true,Bool.true_and]
  exact List.all_eq_true.2 fun d hd=>hSK d (Cy hv imp g.1 S hf.2 d hd)
theorem sK {plan:List Zc} {l:List Zb} (hv:VPs plan) (ha:AscA l) {imp:ByteArray} (S:CSet):∀ (o:List Goal) (K:List Za),o.Pairwise (fun a b=>a.1≠b.1)→(∀ g∈o,g∈cD plan l imp∧aO K g.1=false)→(∀ c,S c=true→aO K c=true)→tz plan l imp K (o.filterMap (ez plan l imp S))=true
 | [],K,_,_,_=>by rw [List.filterMap_nil,tz]
 | g::o,K,hp,ho,hS=>by
  obtain ⟨h1,h2⟩:=List.pairwise_cons.1 hp
  obtain ⟨g1,g2⟩:=ho g (by simp)
  cases hg:ez plan l imp S g with
  | none =>
   rw [List.filterMap_cons_none hg]
   exact sK hv ha S o K h2 (fun x hx=>ho x (by simp [hx])) hS
  | some p =>
   obtain ⟨r1,r2⟩:=Dy hv ha hS g1 g2 hg
   rw [List.filterMap_cons_some hg,tz,r1,Bool.true_and]
   refine sK hv ha S o _ h2 (fun x hx=>⟨(ho x (by simp [hx])).1,?_⟩) (fun c hc=>?_)
   ·rw [lv,List.mem_append,List.mem_singleton]
    rintro (h | h)
    ·have:=(ho x (by simp [hx])).2;rw [dB.2 h] at this;cases this
    exact h1 x hx (by rw [h,r2])
   rw [dB,List.mem_append];exact .inl (dB.1 (hS c hc))
theorem BA {plan:List Zc} {l:List Zb} {imp:ByteArray} (hv:VPs plan) (ha:AscA l):(cD plan l imp).Pairwise fun a b=>a.1≠b.1:=by
 unfold cD
 rw [List.pairwise_flatMap]
 refine ⟨fun p hp=>?_,List.Pairwise.imp (fun {p q} hpq x hx y hy=>?_) hv.asc⟩
 ·rw [List.pairwise_filterMap]
  refine List.Pairwise.imp (fun {a b} hab x hx y hy=>?_) ha
  have e:∀ (a:Zb) (x:Goal),cond (gU plan l imp ⟨p.ID,a.ID⟩) ((cM a p.Code).map fun r=>((⟨p.ID,a.ID⟩:Za),r)) none=some x→x.1=⟨p.ID,a.ID⟩:=by
   intro a x h
   cases hc:gU plan l imp ⟨p.ID,a.ID⟩
   ·rw [hc] at h;cases h
   rw [hc,bT] at h
   cases hr:cM a p.Code with
   | none=>rw [hr] at h;cases h
   | some r=>rw [hr,Option.map_some] at h;injection h with h;rw [← h]
  rw [e a x hx,e b y hy]
  intro h;injection h with h1 h2;omega
 have e:∀ (p:Zc) (x:Goal),x∈(l.filterMap fun a=>cond (gU plan l imp ⟨p.ID,a.ID⟩) ((cM a p.Code).map fun r=>((⟨p.ID,a.ID⟩:Za),r)) none)→x.1.Product=p.ID:=by
  intro p x h
  obtain ⟨a,_,h⟩:=List.mem_filterMap.1 h
  cases hc:gU plan l imp ⟨p.ID,a.ID⟩
  ·rw [hc] at h;cases h
  rw [hc,bT] at h
  cases hr:cM a p.Code with
  | none=>rw [hr] at h;cases h
  | some r=>rw [hr,Option.map_some] at h;injection h with h;rw [← h]
 intro h
 have h1:=e p x hx
 have h2:=e q y hy
 rw [h] at h1;omega
theorem rZ {plan:List Zc} {l:List Zb} (hv:VPs plan) (ha:AscA l) {imp:ByteArray}:∀ (n:Nat) (o:List Goal) (ps:List Prf),o.Pairwise (fun a b=>a.1≠b.1)→(∀ g∈o,g∈cD plan l imp∧aO (ps.map fun p:Prf=>p.1) g.1=false)→tz plan l imp [] ps=true→tz plan l imp [] (jx (fun p:Prf=>p.1) (ez plan l imp) n o ps)=true
 | 0,o,ps,_,_,h=>by rw [jx];exact h
 | n+1,o,ps,hp,ho,h=>by
  rw [jx]
  have hnew:=sK hv ha (aO (ps.map fun p:Prf=>p.1)) o (ps.map fun p:Prf=>p.1) hp ho (fun c hc=>hc)
  cases (o.filterMap (ez plan l imp (aO (ps.map fun p:Prf=>p.1)))).isEmpty
  ·refine rZ hv ha n _ _ (List.Pairwise.sublist List.filter_sublist hp) (fun g hg=>?_) ?_
   ·obtain ⟨k1,k2⟩:=List.mem_filter.1 hg
    obtain ⟨k3,k4⟩:=ho g k1
    refine ⟨k3,?_⟩
    cases hm:aO ((ps++o.filterMap (ez plan l imp (aO (ps.map fun p:Prf=>p.1)))).map fun p:Prf=>p.1) g.1
    ·rfl
    obtain ⟨p,j1,j2⟩:=ik.1 hm
    rcases List.mem_append.1 j1 with j1 | j1
    ·rw [ik.2 ⟨p,j1,j2⟩] at k4;cases k4
    obtain ⟨g',j3,j4⟩:=List.mem_filterMap.1 j1
    have:=qG hv ha g' (ho g' j3).1 g k3 ((Bz plan l imp _ _ _ j4).symm.trans j2)
    subst this
    rw [j4] at k2;cases k2
   rw [vy,h,Bool.true_and,List.nil_append];exact hnew
  exact h
theorem tA {plan:List Zc} {l:List Zb} (hv:VPs plan) (ha:AscA l) (imp:ByteArray):tz plan l imp [] (ip plan l imp)=true :=
 rZ hv ha _ _ _ (BA hv ha) (fun g hg=>⟨hg,rfl⟩) rfl
theorem CC {plan:List Zc} {l:List Zb} {imp:ByteArray} (N:CSet):∀ (ps:List Prf) (K:List Za),(∀ p∈ps,N p.1=true→∀ d∈p.2.2,N d=true)→tz plan l imp K ps=true→tz plan l imp (K.filter N) (ps.filter fun p=>N p.1)=true
 | [],K,_,_=>by rw [List.filter_nil,tz]
 | p::ps,K,hN,h=>by
  rw [tz,Bool.and_eq_true] at h
  have ih:=CC N ps (K++[p.1]) (fun q hq=>hN q (by simp [hq])) h.2
  rw [List.filter_append] at ih
  rw [List.filter_cons]
  cases hn:N p.1
  ·simp only [Bool.false_eq_true,if_false]
   rw [List.filter_cons_of_neg (by simp [hn]),List.filter_nil,List.append_nil] at ih
   exact ih
  simp only [if_true]
  rw [List.filter_cons_of_pos hn,List.filter_nil] at ih
  rw [tz,ih,Bool.and_true]
  have hr:=h.1
  unfold i6 at hr ⊢
  simp only [Bool.and_eq_true,decide_eq_true_eq,Bool.not_eq_true',List.all_eq_true] at hr ⊢
  obtain ⟨⟨⟨⟨h1,h2⟩,h3⟩,h4⟩,h5⟩:=hr
  refine ⟨⟨⟨⟨h1,?_⟩,fun d hd=>?_⟩,h4⟩,h5⟩
  ·rw [lv] at h2 ⊢
   exact fun hm=>h2 (List.mem_filter.1 hm).1
  rw [dB,List.mem_filter]
  exact ⟨dB.1 (h3 d hd),hN p (by simp) hn d hd⟩
section
variable {γ π:Type}
end
def kw (plan:List Zc) (l:List Zb) (imp:ByteArray) (S:CSet) (p:Zc) (a:Zb):Option Prf :=
 cond (S ⟨p.ID,a.ID⟩ || !gU plan l imp ⟨p.ID,a.ID⟩) none (ez plan l imp S (⟨p.ID,a.ID⟩,(cM a p.Code).getD qP))
theorem BB {plan:List Zc} (h:VPs plan) {p:Zc} (hp:p∈plan):cW plan p.ID=some p:=by
 cases hf:cW plan p.ID with
 | none =>
  unfold cW at hf
  rw [List.find?_eq_none] at hf
  exact absurd (by simp) (hf p hp)
 | some q =>
  have h1:=sH hf
  rw [yp h.asc h1.1 hp h1.2]
theorem Aj {plan:List Zc} {l:List Zb} {imp:ByteArray} (hv:VPs plan) (ha:AscA l) {p:Zc} (hp:p∈plan) {a:Zb} (hal:a∈l) (h:gU plan l imp ⟨p.ID,a.ID⟩=true):∃ r,cM a p.Code=some r:=by
 obtain ⟨q,b,r,e1,e2,e3,_⟩:=n9 h
 dsimp only at e1 e2
 rw [BB hv hp] at e1
 rw [Dq ha hal] at e2
 injection e1 with e1
 injection e2 with e2
 exact ⟨r,by rw [e1,e2];exact e3⟩
theorem vA {plan:List Zc} {l:List Zb} (hv:VPs plan) (ha:AscA l) (imp:ByteArray) (S:CSet):(cD plan l imp).filterMap (fun g=>cond (S g.1) none (ez plan l imp S g))=plan.flatMap fun p=>l.filterMap fun a=>kw plan l imp S p a:=by
 have inner:∀ p∈plan,∀ m:List Zb,(∀ a∈m,a∈l)→(m.filterMap fun a=>cond (gU plan l imp ⟨p.ID,a.ID⟩) ((cM a p.Code).map fun r=>((⟨p.ID,a.ID⟩:Za),r)) none).filterMap (fun g=>cond (S g.1) none (ez plan l imp S g))=m.filterMap fun a=>kw plan l imp S p a:=by
  intro p hp m
  induction m with
  | nil=>intro _;rfl
  | cons a m ih =>
   intro hm
   have ih:=ih fun b hb=>hm b (by simp [hb])
   cases hc:gU plan l imp ⟨p.ID,a.ID⟩
   ·rw [List.filterMap_cons_none (by rw [hc];rfl),ih,List.filterMap_cons_none (by unfold kw;rw [hc];cases S ⟨p.ID,a.ID⟩ <;> rfl)]
   obtain ⟨r,hr⟩:=Aj hv ha hp (hm a (by simp)) hc
   rw [List.filterMap_cons_some (b:=((⟨p.ID,a.ID⟩:Za),r)) (by rw [hc,hr];rfl)]
   have e:kw plan l imp S p a=cond (S ⟨p.ID,a.ID⟩) none (ez plan l imp S (⟨p.ID,a.ID⟩,r)):=by
    unfold kw;rw [hc,hr];cases S ⟨p.ID,a.ID⟩ <;> rfl
   cases hs:cond (S ⟨p.ID,a.ID⟩) none (ez plan l imp S (⟨p.ID,a.ID⟩,r)) with
   | none=>rw [List.filterMap_cons_none (f:=fun g:Goal=>cond (S g.1) none (ez plan l imp S g)) hs,List.filterMap_cons_none (e.trans hs),ih]
   | some q=>rw [List.filterMap_cons_some (f:=fun g:Goal=>cond (S g.1) none (ez plan l imp S g)) hs,List.filterMap_cons_some (e.trans hs),ih]
 unfold cD
 have outer:∀ q:List Zc,(∀ p∈q,p∈plan)→(q.flatMap fun p=>l.filterMap fun a=>cond (gU plan l imp ⟨p.ID,a.ID⟩) ((cM a p.Code).map fun r=>((⟨p.ID,a.ID⟩:Za),r)) none).filterMap (fun g=>cond (S g.1) none (ez plan l imp S g))=q.flatMap fun p=>l.filterMap fun a=>kw plan l imp S p a:=by
  intro q
  induction q with
  | nil=>intro _;rfl
  | cons p q ih =>
   intro hq
   rw [List.flatMap_cons,List.flatMap_cons,List.filterMap_append,inner p (hq p (by simp)) l (fun _ h=>h),ih fun x hx=>hq x (by simp [hx])]
 exact outer plan fun _ h=>h
def jM (plan:List Zc) (l:List Zb) (imp:ByteArray):Nat→List Prf→List Za→List Prf
  | 0,ps,_=>ps
  | n+1,ps,set=>cond (plan.flatMap fun p=>l.filterMap fun a=>kw plan l imp (aO set) p a).isEmpty ps
      (jM plan l imp n (ps++plan.flatMap fun p=>l.filterMap fun a=>kw plan l imp (aO set) p a) ((plan.flatMap fun p=>l.filterMap fun a=>kw plan l imp (aO set) p a).foldl (fun t p=>ij bm t p.1) set))
theorem rq:∀ (ps:List Prf) (set:List Za) (c:Za),aO (ps.foldl (fun t p=>ij bm t p.1) set) c=(aO set c||aO (ps.map fun p:Prf=>p.1) c)
 | [],set,c=>by simp [aO]
 | p::ps,set,c=>by
  rw [List.foldl_cons,rq ps]
  have:aO (ij bm set p.1) c=(aO set c||decide (p.1=c)):=by
   cases h:aO (ij bm set p.1) c
   ·rw [lv,rQ] at h
    rw [lv.2 (fun hm=>h (.inr hm)),bD (fun e=>h (.inl e.symm))];rfl
   rw [dB,rQ] at h
   rcases h with h | h
   ·rw [det h.symm,Bool.or_true]
   rw [dB.2 h,Bool.true_or]
  rw [this,List.map_cons]
  show _=(aO set c||(decide (p.1=c)||aO (ps.map fun p:Prf=>p.1) c))
  rw [Bool.or_assoc]
theorem r4 {plan:List Zc} {l:List Zb} (hv:VPs plan) (ha:AscA l) (imp:ByteArray):∀ (n:Nat) (ps:List Prf) (set:List Za),(∀ c,aO set c=aO (ps.map fun p:Prf=>p.1) c)→jM plan l imp n ps set=rX (fun g:Goal=>g.1) (fun p:Prf=>p.1) (ez plan l imp) (cD plan l imp) n ps
 | 0,ps,set,_=>rfl
 | n+1,ps,set,h=>by
  have hS:aO set=aO (ps.map fun p:Prf=>p.1):=funext h
  rw [jM,rX,hS,← vA hv ha]
  cases ((cD plan l imp).filterMap fun g=>cond (aO (ps.map fun p:Prf=>p.1) g.1) none (ez plan l imp (aO (ps.map fun p:Prf=>p.1)) g)).isEmpty
  ·simp only [bx]
   refine r4 hv ha imp n _ _ fun c=>?_
   rw [rq,h,List.map_append]
   unfold aO;rw [List.any_append]
  rfl
theorem tR {plan:List Zc} {l:List Zb} (hv:VPs plan) (ha:AscA l) (imp:ByteArray):jM plan l imp (cD plan l imp).length [] []=ip plan l imp:=by
 rw [r4 hv ha imp _ [] [] (fun _=>rfl),← By (Bz plan l imp) (qG hv ha)]
 unfold ip
 congr 1
 exact List.filter_eq_self.2 fun _ _=>rfl
section
variable (ps:List Prf)
def dK (d:Za):Option Nat:=ps.findIdx? fun p=>decide (p.1=d)
inductive Reach (c:Za):Za→Prop
 | base:Reach c c
 | step {d e:Za} {i:Nat} {p:Prf} (h:Reach c d) (h1:dK ps d=some i) (h2:ps[i]?=some p) (h3:e∈p.2.2):Reach c e
variable {ps} {c:Za}
theorem gY {d:Za} {i:Nat} (h:dK ps d=some i):∃ p,ps[i]?=some p∧p.1=d:=by
 unfold dK at h
 rw [List.findIdx?_eq_some_iff_getElem] at h
 obtain ⟨h1,h2,_⟩:=h
 exact ⟨ps[i],List.getElem?_eq_getElem h1,of_decide_eq_true h2⟩
def TCov (ps:List Prf) (nd:List Bool) (todo:List Za) (e:Za):Prop:=e∈todo∨∃ j,dK ps e=some j∧nd[j]?=some true
structure Zw (ps:List Prf) (c:Za) (nd:List Bool) (todo:List Za):Prop where
 len:nd.length=ps.length
 tr:∀ d∈todo,Reach ps c d
 nr:∀ i:Nat,nd[i]?=some true→∃ d,Reach ps c d∧dK ps d=some i
 cl:∀ (i:Nat) p,nd[i]?=some true→ps[i]?=some p→∀ e∈p.2.2,TCov ps nd todo e
 st:TCov ps nd todo c
def TOk (ps:List Prf) (c:Za) (P:Nat→Prop):Prop:=(∀ i,P i↔∃ d,Reach ps c d∧dK ps d=some i)∧∀ d,Reach ps c d→dK ps d≠none
def TErr (ps:List Prf) (c:Za):Prop:=∃ d,Reach ps c d∧dK ps d=none
theorem t_start:Zw ps c (List.replicate ps.length false) [c]:=by
 have hn:∀ i:Nat,(List.replicate ps.length false)[i]?≠some true:=by
  intro i h
  rw [List.getElem?_replicate] at h
  split at h
  ·injection h with h;cases h
  cases h
 exact ⟨by simp,fun d hd=>by rw [List.mem_singleton.1 hd];exact .base,fun i h=>absurd h (hn i),fun i p h=>absurd h (hn i),.inl (by simp)⟩
theorem t_fail {nd:List Bool} {t:List Za} {d:Za} (h:Zw ps c nd (t++[d])) (hf:dK ps d=none):TErr ps c:=⟨d,h.tr d (by simp),hf⟩
theorem t_skip {nd:List Bool} {t:List Za} {d:Za} {i:Nat} (h:Zw ps c nd (t++[d])) (hf:dK ps d=some i) (hn:nd[i]?=some true):Zw ps c nd t:=by
 have hc:∀ e,TCov ps nd (t++[d]) e→TCov ps nd t e:=by
  rintro e (h1 | h1)
  ·rcases List.mem_append.1 h1 with h1 | h1
   ·exact .inl h1
   rw [List.mem_singleton.1 h1];exact .inr ⟨i,hf,hn⟩
  exact .inr h1
 exact ⟨h.len,fun d hd=>h.tr d (by simp [hd]),h.nr,fun i p h1 h2 e he=>hc e (h.cl i p h1 h2 e he),hc c h.st⟩
theorem t_add {nd:List Bool} {t:List Za} {d:Za} {i:Nat} {p:Prf} (h:Zw ps c nd (t++[d])) (hf:dK ps d=some i) (hp:ps[i]?=some p):Zw ps c (nd.set i true) (t++p.2.2):=by
 have hi:i<nd.length:=by rw [h.len];exact (List.getElem?_eq_some_iff.1 hp).1
 have hset:(nd.set i true)[i]?=some true:=by rw [List.getElem?_set_self hi]
 have hup:∀ j:Nat,nd[j]?=some true→(nd.set i true)[j]?=some true:=by
  intro j hj
  by_cases e:i=j
  ·subst e;exact hset
  rw [List.getElem?_set_ne e];exact hj
 have hdn:∀ j:Nat,(nd.set i true)[j]?=some true→j=i∨nd[j]?=some true:=by
  intro j hj
  by_cases e:i=j
  ·exact .inl e.symm
  rw [List.getElem?_set_ne e] at hj;exact .inr hj
 have hrd:Reach ps c d:=h.tr d (by simp)
 have hc:∀ e,TCov ps nd (t++[d]) e→TCov ps (nd.set i true) (t++p.2.2) e:=by
  rintro e (h1 | ⟨j,h1,h2⟩)
  ·rcases List.mem_append.1 h1 with h1 | h1
   ·exact .inl (List.mem_append.2 (.inl h1))
   rw [List.mem_singleton.1 h1];exact .inr ⟨i,hf,hset⟩
  exact .inr ⟨j,h1,hup j h2⟩
 refine ⟨by rw [List.length_set];exact h.len,fun e he=>?_,fun j hj=>?_,fun j q h1 h2 e he=>?_,hc c h.st⟩
 ·rcases List.mem_append.1 he with he | he
  ·exact h.tr e (by simp [he])
  exact .step hrd hf hp he
 ·rcases hdn j hj with rfl | hj
  ·exact ⟨d,hrd,hf⟩
  exact h.nr j hj
 rcases hdn j h1 with rfl | h1
 ·rw [hp] at h2
  injection h2 with h2
  subst h2
  exact .inl (List.mem_append.2 (.inr he))
 exact hc e (h.cl j q h1 h2 e he)
theorem t_end {nd:List Bool} (h:Zw ps c nd []):TOk ps c fun i=>nd[i]?=some true:=by
 have key:∀ d,Reach ps c d→∃ j,dK ps d=some j∧nd[j]?=some true:=by
  intro d hd
  induction hd with
  | base=>rcases h.st with h1 | h1;cases h1;exact h1
  | @step d e i p _ h1 h2 h3 ih =>
   obtain ⟨j,k1,k2⟩:=ih
   rw [h1] at k1
   injection k1 with k1
   subst k1
   rcases h.cl i p k2 h2 e h3 with h4 | h4
   ·cases h4
   exact h4
 refine ⟨fun i=>⟨h.nr i,fun ⟨d,hd,hi⟩=>?_⟩,fun d hd=>?_⟩
 ·obtain ⟨j,k1,k2⟩:=key d hd
  rw [hi] at k1
  injection k1 with k1
  subst k1;exact k2
 obtain ⟨j,k1,_⟩:=key d hd
 rw [k1];simp
structure NInv (ps:List Prf) (c:Za) (need:List Za) (k:Nat):Prop where
 rr:∀ d∈need,Reach ps c d
 st:c∈need
 nd:need.Nodup
 cl:∀ (j:Nat),j<k→∀ d,need[j]?=some d→∃ i p,dK ps d=some i∧ps[i]?=some p∧∀ e∈p.2.2,e∈need
end
def rw' (n:Int):Zn:=⟨n / 18446744073709551616,n % 18446744073709551616⟩
theorem rw_of {w:Zn} (h:RW w):w=rw' (rv w)∧U128 (rv w):=by
 obtain ⟨a,b⟩:=w
 unfold RW U64 at h;unfold rw' rv U128;dsimp only at *
 refine ⟨?_,by omega⟩
 congr 1 <;> omega
theorem rmul {a b:Int} (ha:U64 a) (hb:U64 b):mn a b=some (rw' (a*b))∧U128 (a*b):=by
 obtain ⟨w,e1,e2,e3⟩:=Cs ha hb
 have:=rw_of e2
 rw [e3] at this
 rw [e1];exact ⟨congrArg some this.1,this.2⟩
theorem rless {a b:Int} (ha:U128 a) (hb:U128 b):oL (rw' a) (rw' b)=some (decide (a<b)):=by
 unfold U128 at *
 unfold oL rw'
 dsimp only
 congr 1
 by_cases h:a<b
 ·rw [det h];simp only [Bool.or_eq_true,Bool.and_eq_true,decide_eq_true_eq,beq_iff_eq];omega
 rw [bD h];simp only [Bool.or_eq_false_iff,Bool.and_eq_false_iff,decide_eq_false_iff_not,beq_eq_false_iff_ne];omega
theorem vB {v s p:Int} (hv:0≤v∧v≤100000000000000) (hs:0≤s∧s≤1000000) (hp:0≤p∧p≤1000000000000):lW v s p=some (decide (v*1000000≤s*p)):=by
 unfold lW
 rw [fx (a:=v) ⟨by omega,by omega⟩,fx (a:=s) ⟨by omega,by omega⟩,fx (a:=p) ⟨by omega,by omega⟩]
 obtain ⟨e1,u1⟩:=rmul (a:=v) (b:=1000000) ⟨by omega,by omega⟩ ⟨by omega,by omega⟩
 obtain ⟨e2,u2⟩:=rmul (a:=s) (b:=p) ⟨by omega,by omega⟩ ⟨by omega,by omega⟩
 rw [e1,ba,e2,ba]
 unfold tf
 rw [rless u1 u2,rless u2 u1]
 simp only [ba]
 by_cases h:v*1000000<s*p
 ·rw [det h]
  simp only [bT,ba]
  rw [det (by omega),det (by omega)]
 rw [bD h]
 by_cases h2:s*p<v*1000000
 ·rw [det h2]
  simp only [bx,bT,ba]
  rw [bD (by omega),bD (by omega)]
 rw [bD h2]
 simp only [bx,ba]
 rw [det (by omega),det (by omega)]
theorem yt {r:Ze} {x:Zl} {i:Zm} (hd:r.Digits=2∨r.Digits=4∨r.Digits=6) (he:r.Except.length≤6) (hc:6≤dN x.Code) (hi:6≤dN i.Code):j9 r x i=some (qm r x.Code i.Code):=by
 unfold j9 qm
 have hs:=rp hc
 have hs2:=rp hi
 have e:jW x.Code 0 r.Digits=some (x.Code.extract 0 r.Digits.toNat):=by unfold jW;rw [if_pos (by omega)];rfl
 have e2:jW i.Code 0 r.Digits=some (i.Code.extract 0 r.Digits.toNat):=by unfold jW;rw [if_pos (by omega)];rfl
 have hsz:(x.Code.extract 0 r.Digits.toNat).size=r.Digits.toNat:=by rw [ByteArray.size_extract];omega
 have ep:ii i.Code (x.Code.extract 0 r.Digits.toNat)=decide (i.Code.extract 0 r.Digits.toNat=x.Code.extract 0 r.Digits.toNat):=by
  unfold ii;rw [hsz,det (by omega),Bool.true_and]
 rw [e2,ba,e,ba,ep]
 cases decide (i.Code.extract 0 r.Digits.toNat=x.Code.extract 0 r.Digits.toNat)
 ·simp only [bx,Bool.false_or]
  refine (bA (l:=r.Except) (by omega) (fun _ x=>cond (ii i.Code x) (some (.inr true)) none) (.inl ()) (fun k hk=>?_) (by simp only [cJ,bx])).trans ?_
  ·simp only [gV hk,bT,aD hk,ba,bO hk (show r.Except.length≤4611686018427387904 by omega),zU]
   cases ii i.Code r.Except[k] <;> rfl
  rw [qw (fun x=>ii i.Code x) (Sum.inr true:Unit⊕Bool)]
  cases r.Except.any fun x=>ii i.Code x <;> rfl
 rfl
mutual
theorem Ak (x:Zl):∀ l:List Ze,(jk x l).isSome=l.all fun a=>(jP x a).isSome
 | []=>by rw [jk];rfl
 | a::l=>by
  have h:=Ak x l
  rw [jk,List.all_cons,← h]
  cases jP x a with
  | none=>rfl
  | some p=>cases jk x l <;> rfl
theorem Al (x:Zl):∀ (l:List Ze) (i:Nat),(kN x i l).isSome=l.any fun a=>(jP x a).isSome
 | [],i=>by rw [kN];rfl
 | a::l,i=>by
  have h:=Al x l (i+1)
  rw [kN,List.any_cons,← h]
  cases jP x a <;> rfl
end
def yu {α:Type} (p:α→Bool):List α→Nat
 | []=>0
 | a::l=>cond (p a) 1 0+yu p l
theorem CD {α:Type} (p:α→Bool):∀ l:List α,yu p l≤l.length
 | []=>Nat.le_refl _
 | a::l=>by have:=CD p l;rw [yu,List.length_cons];cases p a <;> simp <;> omega
theorem Am {α:Type} (p:α→Bool):∀ l:List α,(yu p l == l.length)=l.all p
 | []=>rfl
 | a::l=>by
  have h:=Am p l
  have hle:=CD p l
  rw [yu,List.length_cons,List.all_cons,← h]
  cases p a
  ·rw [bx,Bool.false_and,beq_eq_false_iff_ne];omega
  rw [bT,Bool.true_and,Bool.eq_iff_iff,beq_iff_eq,beq_iff_eq];omega
theorem An {α:Type} (p:α→Bool):∀ l:List α,decide (0<yu p l)=l.any p
 | []=>rfl
 | a::l=>by
  have h:=An p l
  rw [yu,List.any_cons,← h]
  cases p a
  ·rw [bx,Bool.false_or];exact decide_eq_decide.2 (by omega)
  rw [bT,Bool.true_or];exact det (by omega)
theorem Ao (x:Zl) (hx:VCase x) (n:Nat):∀ r:Ze,dt r=true→sD r≤n→ny n r x=some (jP x r).isSome:=by
 induction n with
 | zero=>intro r _ hd;rw [km] at hd;omega
 | succ n ih =>
  intro r hr hd
  obtain ⟨hl,ha,he⟩:=jJ hr
  have hfew:=hx.few
  show nx (ny n) r x=_
  unfold nx
  have hvi:r.Kind=2→∀ i∈x.Inputs,j9 r x i=some (qm r x.Code i.Code):=by
   intro hk i hi
   have h:=hr
   rw [gQ,hk] at h
   simp only [jI,hk,Bool.and_eq_true] at h
   have h3:=h.2
   simp at h3
   exact yt (by omega) he hx.lvl (hx.inp i hi).1
  refine (cA (l:=x.Inputs) (by omega) (fun i (s:Int×Int)=>(s.1,s.2,i)) (fun s i=>(s.1+cond i.Originating 0 (cond (r.Kind == 3) (fV i) (cond (r.Kind == 2) (fW r x.Code i) 0)),s.2+cond i.Originating 0 (fN i))) (fun s=>s) (fun k s=>(0≤s.1∧s.1≤k*1000000000000)∧(0≤s.2∧s.2≤k)) (0,0) ⟨by simp,by simp⟩ (fun k hk s hs=>?_) (fun s _=>by simp only [cJ,bx])).1.trans ?_
  ·obtain ⟨a,b⟩:=s
   obtain ⟨s1,s2⟩:=hs
   dsimp only at s1 s2 ⊢
   have hmem:=List.getElem_mem hk
   have hi:=hx.inp _ hmem
   have hk100:k<100:=by omega
   simp only [gV hk,bT,aD hk,ba,bO hk (show x.Inputs.length≤4611686018427387904 by omega)]
   generalize x.Inputs[k]=i at hi hmem
   unfold fV fN fW
   cases i.Originating
   ·simp only [bx]
    cases hk3:(r.Kind == 3)
    ·cases hk2:(r.Kind == 2)
     ·simp only [Bool.not_false,Bool.and_false,i7,ba,Bool.false_and,Bool.or_self,bx,Int.add_zero]
      rw [cI (r:=b+1) (by omega) (by omega)]
      exact ⟨rfl,⟨by omega,by omega⟩,by omega,by omega⟩
     simp only [Bool.not_false,Bool.and_self,cj,Bool.false_or,Bool.true_and]
     rw [hvi (eq_of_beq hk2) i hmem,ba]
     cases qm r x.Code i.Code
     ·simp only [bx,bT,ba,Int.add_zero]
      rw [cI (r:=b+1) (by omega) (by omega)]
      exact ⟨rfl,⟨by omega,by omega⟩,by omega,by omega⟩
     simp only [bT,bx,ba]
     rw [cI (r:=b+1) (by omega) (by omega),cI (r:=a+i.Value) (by omega) (by omega)]
     exact ⟨rfl,⟨by omega,by omega⟩,by omega,by omega⟩
    simp only [Bool.not_true,Bool.false_and,i7,ba,Bool.true_or,bT]
    rw [cI (r:=b+1) (by omega) (by omega),cI (r:=a+i.Value) (by omega) (by omega)]
    exact ⟨rfl,⟨by omega,by omega⟩,by omega,by omega⟩
   simp only [bT,ba,Int.add_zero]
   exact ⟨trivial,⟨by omega,by omega⟩,by omega,by omega⟩
  have key:∀ (l:List Zm) (a b:Int),l.foldl (fun (s:Int×Int) i=>(s.1+cond i.Originating 0 (cond (r.Kind == 3) (fV i) (cond (r.Kind == 2) (fW r x.Code i) 0)),s.2+cond i.Originating 0 (fN i))) (a,b)=(a+wS (fun i=>cond (r.Kind == 3) (fV i) (cond (r.Kind == 2) (fW r x.Code i) 0)) l,b+wS fN l):=by
   intro l
   induction l with
   | nil=>intro a b;simp [wS]
   | cons i l ih=>intro a b;rw [List.foldl_cons,ih];simp only [wS,Int.add_assoc]
  rw [key]
  dsimp only
  simp only [Int.zero_add]
  refine (cA (l:=r.Args) (by omega) (fun i (s:Nat)=>((s:Int),i)) (fun s a=>s+cond (jP x a).isSome 1 0) (fun s=>(s:Int)) (fun k s=>s≤k) 0 (Nat.le_refl _) (fun k hk s hs=>?_) (fun s _=>by simp only [cJ,bx])).1.trans ?_
  ·simp only [gV hk,bT,aD hk,ba,bO hk (show r.Args.length≤4611686018427387904 by omega)]
   rw [ih _ (ha _ (List.getElem_mem hk)) (by have:=ir (List.getElem_mem hk);omega),ba]
   cases (jP x r.Args[k]).isSome
   ·exact ⟨rfl,by simp;omega⟩
   simp only [bT,ba]
   rw [cI (by omega) (by omega)]
   exact ⟨rfl,by omega⟩
  have key2:∀ (l:List Ze) (s:Nat),l.foldl (fun s a=>s+cond (jP x a).isSome 1 0) s=s+yu (fun a=>(jP x a).isSome) l:=by
   intro l
   induction l with
   | nil=>intro s;rfl
   | cons a l ih=>intro s;rw [List.foldl_cons,ih,yu];omega
  rw [key2,Nat.zero_add,yn]
  have hv:0≤wS fV x.Inputs∧wS fV x.Inputs≤100000000000000:=by
   have:=qn (f:=fV) (b:=1000000000000) (by omega) (l:=x.Inputs) fun i hi=>(hx.inp i hi).2
   omega
  have hw:0≤wS (fW r x.Code) x.Inputs∧wS (fW r x.Code) x.Inputs≤100000000000000:=by
   have:=qn (f:=fW r x.Code) (b:=1000000000000) (by omega) (l:=x.Inputs) fun i hi=>by
    have:=(hx.inp i hi).2
    unfold fW;cases qm r x.Code i.Code
    ·simp only [bx];omega
    exact this
   omega
  have hp:=hx.price
  have hb:=hr
  rw [gQ] at hb
  unfold jI Fk at hb
  unfold jj
  have fin:∀ b:Bool,(some b:Option Bool)=some ((cond b (some ([]:List Int)) none).isSome):=fun b=>by cases b <;> rfl
  cases h1:(r.Kind == 1)
  ·cases h2:(r.Kind == 2)
   ·cases h3:(r.Kind == 3)
    ·cases h4:(r.Kind == 4)
     ·cases h5:(r.Kind == 5)
      ·cases h6:(r.Kind == 6)
       ·rw [h1,h2,h3,h4,h5,h6] at hb;simp at hb
       simp only [bx,bT]
       rw [Al,← An]
       congr 1
       exact decide_eq_decide.2 (by omega)
      simp only [bx,bT]
      rw [Ak,← Am]
      congr 1
      rw [Bool.eq_iff_iff,beq_iff_eq,beq_iff_eq];omega
     have hk:=eq_of_beq h4
     rw [hk]
     simp only [bx,bT]
     rw [qB _ _ hx.proc.2.1,ba]
     exact fin _
    have hk:=eq_of_beq h3
    rw [hk] at hb
    simp at hb
    rw [hk]
    simp only [bx,bT]
    rw [vB hv hb.2 (by omega),ba]
    exact fin _
   have hk:=eq_of_beq h2
   rw [hk] at hb
   simp at hb
   rw [hk]
   simp only [bx,bT]
   have e3:((2:Int) == 3)=false:=rfl
   rw [show (fun i=>cond ((2:Int) == 3) (fV i) (fW r x.Code i))=fW r x.Code from rfl,vB hw (by omega) (by omega),ba]
   exact fin _
  have hk:=eq_of_beq h1
  rw [hk]
  simp only [bT]
  exact fin _
theorem w7 {r:Ze} {x:Zl} (hx:VCase x) (hr:dt r=true) (hd:sD r≤1000):pM r x=some (jP x r).isSome:=Ao x hx FUEL r hr (by have hf:FUEL=1267650600228229401496703205376:=rfl;omega)
def rwF (x:Zl) (six:Bool) (k:Nat) (a:Ze) (l:List Int):List Int⊕List Int:=match jP x a with
 | none=>.inl l
 | some p=>cond six (.inr ((k:Int)::p)) (.inl (l++p))
theorem CE (x:Zl):∀ (m:List Ze) (i:Nat) (l:List Int),run (rwF x true) m i l=match kN x i m with | some p=>.inr p | none=>.inl l
 | [],i,l=>by rw [kN];rfl
 | a::m,i,l=>by
  rw [i9,kN]
  unfold rwF
  cases jP x a with
  | none=>exact CE x m (i+1) l
  | some p=>rfl
theorem CF (x:Zl):∀ (m:List Ze) (i:Nat) (l w:List Int),jk x m=some w→run (rwF x false) m i l=.inl (l++w)
 | [],i,l,w,h=>by rw [jk] at h;injection h with h;subst h;rw [List.append_nil];rfl
 | a::m,i,l,w,h=>by
  rw [jk] at h
  rw [i9]
  unfold rwF
  cases ha:jP x a with
  | none=>rw [ha] at h;cases h
  | some p =>
   cases hm:jk x m with
   | none=>rw [ha,hm] at h;cases h
   | some q =>
    rw [ha,hm,ba,ba] at h
    injection h with h
    subst h
    rw [← List.append_assoc]
    exact CF x m (i+1) (l++p) q hm
theorem wk (x:Zl) (hx:VCase x) (n:Nat):∀ r:Ze,dt r=true→pn r≤1000→sD r≤n→jn n r x=some (hX [] (jP x r)):=by
 induction n with
 | zero=>intro r _ _ hd;rw [km] at hd;omega
 | succ n ih =>
  intro r hr hc hd
  obtain ⟨hl,ha,_⟩:=jJ hr
  have hdc:=oQ r
  show lD (jn n) r x=_
  unfold lD
  rw [w7 hx hr (by omega),ba]
  cases hw:jP x r with
  | none=>rfl
  | some w =>
   simp only [Option.isSome_some,Bool.not_true,bx]
   have hargs:∀ k (hk:k<r.Args.length),jn n r.Args[k] x=some (hX [] (jP x r.Args[k])):=fun k hk=>ih _ (ha _ (List.getElem_mem hk)) (by have:=qa r;have:=rV (List.getElem_mem hk);omega) (by have:=ir (List.getElem_mem hk);omega)
   have hcl:∀ k (hk:k<r.Args.length) p,jP x r.Args[k]=some p→p.length≤1000:=fun k hk p h=>by have h1:=rW x _ p h;have:=qa r;have:=rV (List.getElem_mem hk);omega
   refine (jZ (l:=r.Args) (by omega) (fun i (s:List Int)=>(s,i)) (rwF x (r.Kind == 6)) (fun s=>.inl s) (fun p=>.inr (p,true)) (fun k s=>s.length≤k*1000) [] (by simp) (fun k hk s hs=>⟨?_,fun s' h'=>?_⟩) (fun s _=>by simp only [cJ,bx])).trans ?_
   ·simp only [gV hk,bT,aD hk,ba,bO hk (show r.Args.length≤4611686018427387904 by omega)]
    rw [hargs k hk]
    have:=hcl k hk
    unfold rwF
    cases hwk:jP x r.Args[k] with
    | none=>rfl
    | some p =>
     have:=this p hwk
     show Option.bind (cond (r.Kind == 6) _ _) _=_
     cases (r.Kind == 6)
     ·simp only [bx]
      rw [show (hX ([]:List Int) (some p)).1=p from rfl]
      rw [cL (show (s.length+p.length)*8≤140737488355328 by omega) (by omega)];rfl
     simp only [bT]
     rw [show (hX ([]:List Int) (some p)).1=p from rfl]
     rw [cL (show (([(k:Int)]).length+p.length)*8≤140737488355328 by simp;omega) (by simp;omega)];rfl
   ·have:=hcl k hk
    unfold rwF at h'
    cases hwk:jP x r.Args[k] with
    | none=>rw [hwk] at h';injection h' with h';subst h';omega
    | some p =>
     have:=this p hwk
     rw [hwk] at h'
     cases h6:(r.Kind == 6)
     ·rw [h6] at h';injection h' with h';subst h';rw [List.length_append];omega
     rw [h6] at h';cases h'
   rw [yn] at hw
   cases h5:(r.Kind == 5)
   ·rw [h5] at hw
    simp only [bx] at hw
    cases h6:(r.Kind == 6)
    ·rw [h6] at hw
     simp only [bx] at hw
     have hnil:r.Args=[]:=by
      have hp:=hr
      rw [gQ,Bool.and_eq_true] at hp
      have h1:=hp.1
      unfold kn at h1
      simp only [Bool.and_eq_true,h5,h6,Bool.false_or] at h1
      exact List.isEmpty_iff.1 h1.2
     rw [hnil]
     cases hh:jj r x
     ·rw [hh] at hw;cases hw
     rw [hh] at hw;injection hw with hw;subst hw;rfl
    rw [h6] at hw
    rw [CE,show kN x 0 r.Args=some w from hw];rfl
   rw [h5] at hw
   have h6:(r.Kind == 6)=false:=by rw [eq_of_beq h5];rfl
   rw [h6,CF x r.Args 0 [] w hw];rfl
theorem Ap {r:Ze} {x:Zl} (hx:VCase x) (hr:dt r=true) (hc:pn r≤32):kS r x=some (hX [] (jP x r)):=wk x hx FUEL r hr (by omega) (by have:=oQ r;have hf:FUEL=1267650600228229401496703205376:=rfl;omega)
def vC (g:Goal):Zj:=⟨g.1,g.2⟩
def od (p:Prf):Zf:=⟨p.1,p.2.1,p.2.2⟩
def nF (plan:List Zc) (l:List Zb) (imp:ByteArray) (p:Zc) (a:Zb):Option Goal:=cond (gU plan l imp ⟨p.ID,a.ID⟩) ((cM a p.Code).map fun r=>((⟨p.ID,a.ID⟩:Za),r)) none
theorem Aq {α β:Type} (h:α→Option β):∀ (l:List α) (s:List β),l.foldl (fun s a=>s++(h a).toList) s=s++l.filterMap h
 | [],s=>by simp
 | a::l,s=>by
  rw [List.foldl_cons,Aq h l]
  cases ha:h a with
  | none=>rw [List.filterMap_cons_none ha];simp
  | some b=>rw [List.filterMap_cons_some ha];simp
theorem sL (plan:List Zc) (l:List Zb) (imp:ByteArray):(cD plan l imp).length≤plan.length*l.length:=by
 have key:∀ q:List Zc,(q.flatMap fun p=>l.filterMap (nF plan l imp p)).length≤q.length*l.length:=by
  intro q
  induction q with
  | nil=>simp
  | cons p q ih =>
   rw [List.flatMap_cons,List.length_append,List.length_cons,Nat.add_mul,Nat.one_mul]
   have:=List.length_filterMap_le (nF plan l imp p) l;omega
 exact key plan
theorem BC {plan:List Zc} {l:List Zb} (hv:VPs plan) (hl:VAs l) (imp:ByteArray):kj plan l imp=some ((cD plan l imp).map vC):=by
 unfold kj
 have hlen:=hv.len
 have hll:=hl.len
 have inner:∀ (p:Zc) (s:List Zj),s.length≤64000→Option.bind (aN (S:=(List Zj)×Int) (T:=((List Zj))) (fun (l17,v20)=>cond (decide (v20<(l.length:Int))) (Option.bind (Option.bind (idx l v20) (fun m33=>Option.bind (dr m33 p.Code) (fun x36=>Option.bind (gd x36.2 (cg plan l imp (⟨p.ID,m33.ID⟩:Za))) (fun x38=>cond (x36.2&&x38) (Option.bind (app 112 l17 [(⟨(⟨p.ID,m33.ID⟩:Za),x36.1⟩:Zj)]) (fun l42=>some l42)) (some l17))))) (fun l31=>some (.inl (l31,(IntKind.i64.wrap (v20+1)))))) (some (.inr l17))) FUEL (s,0)) (fun t=>(some t:Option (List Zj)))=some (s++(l.filterMap (nF plan l imp p)).map vC):=by
  intro p s hs
  refine (cA (l:=l) (by omega) (fun i (s:List Zj)=>(s,i)) (fun s a=>s++((nF plan l imp p a).map vC).toList) (fun s=>s) (fun k t=>t.length≤s.length+k) s (Nat.le_refl _) (fun k hk t ht=>?_) (fun t _=>by simp only [cJ,bx])).1.trans ?_
  ·simp only [gV hk,bT,aD hk,ba,bO hk (show l.length≤4611686018427387904 by omega)]
   have hva:=hl.all _ (List.getElem_mem hk)
   rw [qc _ _ hva,ba,vm _ _ _ _ hv.sorted hl]
   unfold nF
   cases hr:cM l[k] p.Code with
   | none =>
    have e:(cond (gU plan l imp ⟨p.ID,l[k].ID⟩) ((none:Option Ze).map fun r=>((⟨p.ID,l[k].ID⟩:Za),r)) none)=none:=by cases gU plan l imp ⟨p.ID,l[k].ID⟩ <;> rfl
    rw [e]
    exact ⟨by simp [hX,gd],by simp;omega⟩
   | some r =>
    show Option.bind (Option.bind (gd true (some (gU plan l imp ⟨p.ID,l[k].ID⟩))) _) _=_∧_
    rw [cj,ba]
    cases gU plan l imp ⟨p.ID,l[k].ID⟩
    ·exact ⟨by simp [hX],by simp;omega⟩
    show Option.bind (Option.bind (app 112 t [_]) _) _=_∧_
    rw [cL (by simp;omega) (by simp;omega)]
    exact ⟨rfl,by simp;omega⟩
  rw [Aq (fun a=>(nF plan l imp p a).map vC)]
  congr 2
  rw [List.map_filterMap]
 refine (cA (l:=plan) (by omega) (fun i (s:List Zj)=>(s,i)) (fun s p=>s++(l.filterMap (nF plan l imp p)).map vC) (fun s=>s) (fun k t=>t.length≤1000*k) [] (by simp) (fun k hk t ht=>?_) (fun t _=>by simp only [cJ,bx])).1.trans ?_
 ·simp only [gV hk,bT,aD hk,ba,bO hk (show plan.length≤4611686018427387904 by omega)]
  have hin:=inner plan[k] t (by omega)
  have e:∀ {α β:Type} (x:Option α) (z:α) (K:α→Option β),Option.bind x (fun t=>some t)=some z→Option.bind x K=K z:=by
   intro α β x z K h
   cases x with
   | none=>cases h
   | some y=>injection h with h;rw [h];rfl
  refine ⟨e _ _ _ hin,?_⟩
  have:=List.length_filterMap_le (nF plan l imp plan[k]) l
  simp;omega
 have key:∀ (q:List Zc) (s:List Zj),q.foldl (fun s p=>s++(l.filterMap (nF plan l imp p)).map vC) s=s++(q.flatMap fun p=>l.filterMap (nF plan l imp p)).map vC:=by
  intro q
  induction q with
  | nil=>intro s;simp
  | cons p q ih=>intro s;rw [List.foldl_cons,ih,List.flatMap_cons,List.map_append,List.append_assoc]
 rw [key,List.nil_append];rfl
theorem Dz:gu=fg:=rfl
theorem BD {plan:List Zc} {l:List Zb} (hv:VPs plan) (hl:VAs l) {imp:ByteArray} {g:Goal} (hg:g∈cD plan l imp) (known:List Za) (hk:known.length≤100000) (ps:List Zf) (hps:ps.length≤100000) :
    fM (vC g) plan l imp known ps=some ((ez plan l imp (aO known) g).isSome,known,ps++((ez plan l imp (aO known) g).map od).toList):=by
  unfold fM
  have hf:=o4 hg
  have hr:=sJ hl hg
  rw [Dz,wZ hv hl imp _ known (by omega),ba]
  unfold n8 vC
  dsimp only
  rw [hf.1]
  simp only [bT]
  rw [yo (o3 hv imp g.1 _ hf.2) hr.1 hr.2.1 hr.2.2,ba]
  unfold ez
  cases hw:jP (ly plan l imp g.1 (aO known)) g.2 with
  | none=>simp [hX]
  | some w =>
    show Option.bind (cond true (Option.bind (app 64 ps [_]) _) _) _=_
    rw [bT,cL (by simp;omega) (by simp;omega)];rfl
theorem BE {plan:List Zc} {l:List Zb} (hv:VPs plan) (hl:VAs l) {imp:ByteArray} (o:List Goal) (ho:∀ g∈o,g∈cD plan l imp) (ps:List Prf) (hlen:ps.length+o.length≤64000) {β:Type} (K:List Zj×List Zf×List Za→Option β) :
    Option.bind (aN (S:=(List Zj)×Int×(List Zf)×(List Za)) (T:=((List Zj)×(List Zf)×(List Za))) (fun (l27,v30,l32,l36)=>cond (decide (v30<((o.map vC).length:Int))) (Option.bind (Option.bind (idx (o.map vC) v30) (fun m68=>Option.bind (fM m68 plan l imp l36 l32) (fun x70=>cond (!x70.1) (Option.bind (app 112 l27 [m68]) (fun l80=>some (l80,x70.2.2,x70.2.1))) (some (l27,x70.2.2,x70.2.1))))) (fun (l58,l62,l66)=>some (.inl (l58,(IntKind.i64.wrap (v30+1)),l62,l66)))) (some (.inr (l27,l32,l36)))) FUEL (([]:List Zj),0,ps.map od,ps.map fun p:Prf=>p.1)) K =
      K ((o.filter fun g=>(ez plan l imp (aO (ps.map fun p:Prf=>p.1)) g).isNone).map vC,(ps++o.filterMap (ez plan l imp (aO (ps.map fun p:Prf=>p.1)))).map od,ps.map fun p:Prf=>p.1):=by
  generalize hS:(ps.map fun p:Prf=>p.1)=known
  have hkn:known.length=ps.length:=by rw [← hS,List.length_map]
  have hml:(o.map vC).length=o.length:=List.length_map _
  refine (cA (l:=o.map vC) (by omega) (fun i (s:List Zj×List Zf)=>(s.1,i,s.2,known)) (fun s t=>match ez plan l imp (aO known) (t.claim,t.rule) with | some p=>(s.1,s.2++[od p]) | none=>(s.1++[t],s.2)) (fun s=>(s.1,s.2,known)) (fun k s=>s.1.length≤k∧s.2.length≤ps.length+k) ([],ps.map od) ⟨by simp,by simp⟩ (fun k hk s hs=>?_) (fun s _=>by simp only [cJ,bx])).1.trans ?_
  · obtain ⟨a,b⟩:=s
    obtain ⟨h1,h2⟩:=hs
    dsimp only at h1 h2 ⊢
    simp only [gV hk,bT,aD hk,ba,bO hk (show (o.map vC).length≤4611686018427387904 by omega)]
    have hk':k<o.length:=by omega
    rw [List.getElem_map,BD hv hl (ho _ (List.getElem_mem hk')) known (by omega) b (by omega),ba]
    rw [show ez plan l imp (aO known) ((vC o[k]).claim,(vC o[k]).rule)=ez plan l imp (aO known) o[k] from rfl]
    cases hp:ez plan l imp (aO known) o[k] with
    | none =>
      simp only [Option.isSome_none,Bool.not_false,bT]
      rw [cL (by simp;omega) (by simp;omega)]
      exact ⟨by simp,by simp;omega,by omega⟩
    | some p =>
      simp only [Option.isSome_some,Bool.not_true,bx]
      exact ⟨rfl,by omega,by simp;omega⟩
  have key:∀ (o:List Goal) (a:List Zj) (b:List Zf),(o.map vC).foldl (fun (s:List Zj×List Zf) t=>match ez plan l imp (aO known) (t.claim,t.rule) with | some p=>(s.1,s.2++[od p]) | none=>(s.1++[t],s.2)) (a,b)=(a++(o.filter fun g=>(ez plan l imp (aO known) g).isNone).map vC,b++(o.filterMap (ez plan l imp (aO known))).map od):=by
    intro o
    induction o with
    | nil=>intro a b;simp
    | cons g o ih =>
      intro a b
      rw [List.map_cons,List.foldl_cons,List.filter_cons]
      show List.foldl _ (match ez plan l imp (aO known) g with | some p=>(a,b++[od p]) | none=>(a++[vC g],b)) _=_
      cases hp:ez plan l imp (aO known) g with
      | none=>rw [List.filterMap_cons_none hp];dsimp only;rw [ih];simp
      | some p=>rw [List.filterMap_cons_some hp];dsimp only;rw [ih];simp
  rw [key,List.nil_append,List.map_append]
def sM (p0:List Zc) (p1:List Zb) (p2:ByteArray):(List Zj)×(List Zf)×(List Za)→Option (((List Zj)×(List Zf)×(List Za))⊕(Unit⊕(List Zf×Int))):=(fun (l13,l15,l19)=>Option.bind (aN (S:=(List Zj)×Int×(List Zf)×(List Za)) (T:=((List Zj)×(List Zf)×(List Za))) (fun (l27,v30,l32,l36)=>cond (decide (v30<(l13.length:Int))) (Option.bind (Option.bind (idx l13 v30) (fun m68=>Option.bind (fM m68 p0 p1 p2 l36 l32) (fun x70=>cond (!x70.1) (Option.bind (app 112 l27 [m68]) (fun l80=>some (l80,x70.2.2,x70.2.1))) (some (l27,x70.2.2,x70.2.1))))) (fun (l58,l62,l66)=>some (.inl (l58,(IntKind.i64.wrap (v30+1)),l62,l66)))) (some (.inr (l27,l32,l36)))) FUEL (([]:List Zj),0,l15,l19)) (fun (l42,l46,l50)=>cond (((l46.length:Nat):Int) == ((l15.length:Nat):Int)) (some (.inr (.inr (l46,(0:Int))))) (Option.bind (sub l46 ((l15.length:Nat):Int) (l46.length:Int)) (fun l85=>Option.bind (aN (S:=Int×(List Za)) (T:=((List Za))) (fun (v86,l88)=>cond (decide (v86<((l46.length - ((l15.length:Nat):Int).toNat:Nat):Int))) (Option.bind (kZ v86) (fun u100=>Option.bind (idx l46 (((l15.length:Nat):Int)+v86)) (fun m101=>Option.bind (app 16 l88 [m101.Claim]) (fun l105=>some (.inl ((IntKind.i64.wrap (v86+1)),l105)))))) (some (.inr l88))) FUEL (0,l50)) (fun l96=>some (.inl (l42,l46,l96)))))))
theorem DA (a b:List Zf) (known:List Za) (h:a.length+b.length+known.length≤200000) {β:Type} (K:List Za→Option β) :
    Option.bind (aN (S:=Int×(List Za)) (T:=((List Za))) (fun (v86,l88)=>cond (decide (v86<(((a++b).length - ((a.length:Nat):Int).toNat:Nat):Int))) (Option.bind (kZ v86) (fun u100=>Option.bind (idx (a++b) (((a.length:Nat):Int)+v86)) (fun m101=>Option.bind (app 16 l88 [m101.Claim]) (fun l105=>some (.inl ((IntKind.i64.wrap (v86+1)),l105)))))) (some (.inr l88))) FUEL (0,known)) K=K (known++b.map (·.Claim)):=by
  have e:(a++b).length - ((a.length:Nat):Int).toNat=b.length:=by rw [List.length_append];omega
  rw [e]
  refine (cA (l:=b) (by omega) (fun i (s:List Za)=>(i,s)) (fun s p=>s++[p.Claim]) (fun s=>s) (fun k s=>s.length≤known.length+k) known (Nat.le_refl _) (fun k hk s hs=>?_) (fun s _=>by simp only [cJ,bx])).1.trans ?_
  · simp only [gV hk,bT,bO hk (show b.length≤4611686018427387904 by omega)]
    rw [Bt (by omega),ba,show ((a.length:Nat):Int)+(k:Int)=((a.length+k:Nat):Int) by omega,aD (show a.length+k<(a++b).length by rw [List.length_append];omega),ba,cL (by simp;omega) (by simp;omega),ba]
    have e2:(a++b)[a.length+k]'(by rw [List.length_append];omega)=b[k]:=by rw [List.getElem_append_right (by omega)];congr 1;omega
    rw [e2]
    exact ⟨rfl,by simp;omega⟩
  have key:∀ (b:List Zf) (s:List Za),b.foldl (fun s p=>s++[p.Claim]) s=s++b.map (·.Claim):=by
    intro b
    induction b with
    | nil=>intro s;simp
    | cons p b ih=>intro s;rw [List.foldl_cons,ih];simp
  rw [key]
theorem DB (ps:List Prf):(ps.map od).map (·.Claim)=ps.map fun p:Prf=>p.1:=by rw [List.map_map];rfl
theorem o6 {γ π:Type} (f:γ→Option π):∀ o:List γ,(o.filterMap f).length+(o.filter fun g=>(f g).isNone).length=o.length
 | []=>rfl
 | g::o=>by
  have ih:=o6 f o
  rw [List.filter_cons]
  cases hf:f g with
  | some p=>rw [List.filterMap_cons_some hf];simp;omega
  | none=>rw [List.filterMap_cons_none hf];simp;omega
theorem Ar {plan:List Zc} {l:List Zb} (hv:VPs plan) (hl:VAs l) {imp:ByteArray}:∀ (n:Nat) (o:List Goal) (ps:List Prf) (N:Nat),o.length≤n→n<N→(∀ g∈o,g∈cD plan l imp)→ps.length+o.length≤64000 →
    aN (sM plan l imp) N (o.map vC,ps.map od,ps.map fun p:Prf=>p.1)=some (.inr ((jx (fun p:Prf=>p.1) (ez plan l imp) n o ps).map od,0)):=by
  have step:∀ (o:List Goal) (ps:List Prf),(∀ g∈o,g∈cD plan l imp)→ps.length+o.length≤64000→sM plan l imp (o.map vC,ps.map od,ps.map fun p:Prf=>p.1)=cond (o.filterMap (ez plan l imp (aO (ps.map fun p:Prf=>p.1)))).isEmpty (some (.inr (.inr (ps.map od,0))))
      (some (.inl ((o.filter fun g=>(ez plan l imp (aO (ps.map fun p:Prf=>p.1)) g).isNone).map vC,(ps++o.filterMap (ez plan l imp (aO (ps.map fun p:Prf=>p.1)))).map od,(ps++o.filterMap (ez plan l imp (aO (ps.map fun p:Prf=>p.1)))).map fun p:Prf=>p.1))):=by
    intro o ps ho hlen
    unfold sM
    refine (BE hv hl o ho ps hlen _).trans ?_
    have hnl:=List.length_filterMap_le (ez plan l imp (aO (ps.map fun p:Prf=>p.1))) o
    generalize o.filterMap (ez plan l imp (aO (ps.map fun p:Prf=>p.1)))=new at hnl
    dsimp only
    rw [List.map_append]
    cases hn:new.isEmpty
    · have hne:new≠[]:=fun e=>by rw [e] at hn;cases hn
      have hpos:0<new.length:=List.length_pos_iff.2 hne
      rw [show ((((ps.map od++new.map od).length:Nat):Int) == (((ps.map od).length:Nat):Int))=false from by rw [beq_eq_false_iff_ne];simp;omega]
      simp only [bx]
      rw [kE (by simp) (Nat.le_refl _),ba,DA _ _ _ (by simp;omega)]
      rw [DB,← List.map_append,← List.map_append]
    have e:new=[]:=List.isEmpty_iff.1 hn
    subst e
    simp
  intro n
  induction n with
  | zero =>
    intro o ps N ho hN hg hlen
    obtain rfl:o=[]:=List.length_eq_zero_iff.1 (by omega)
    obtain ⟨N,rfl⟩:∃ m,N=m+1:=⟨N - 1,by omega⟩
    rw [jx,fA,step [] ps hg hlen];rfl
  | succ n ih =>
    intro o ps N ho hN hg hlen
    obtain ⟨N,rfl⟩:∃ m,N=m+1:=⟨N - 1,by omega⟩
    rw [fA,step o ps hg hlen,jx]
    cases he:(o.filterMap (ez plan l imp (aO (ps.map fun p:Prf=>p.1)))).isEmpty
    · have h1:=rY he
      have h2:=o6 (ez plan l imp (aO (ps.map fun p:Prf=>p.1))) o
      exact ih _ _ N (by omega) (by omega) (fun g hg'=>hg g (List.mem_filter.1 hg').1) (by rw [List.length_append];omega)
    rfl
theorem BF {plan:List Zc} {l:List Zb} (hv:VPs plan) (hl:VAs l) {imp:ByteArray} (h1:cT plan=some 0) (h2:cS l=some 0) (h3:bQ imp=some true):iV plan l imp=some ((ip plan l imp).map od,0):=by
 have hlen:=hv.len
 have hll:=hl.len
 have hg:=sL plan l imp
 have hm:plan.length*l.length≤64*1000:=Nat.mul_le_mul hlen hll
 unfold iV
 rw [h1,ba,h2,ba,h3,ba,BC hv hl,ba]
 simp only [bne_self_eq_false,bx,Bool.not_true]
 have key:=Ar hv hl (imp:=imp) (cD plan l imp).length (cD plan l imp) [] FUEL (Nat.le_refl _) (by have hf:FUEL=1267650600228229401496703205376:=rfl;omega) (fun g h=>h) (by simp;omega)
 exact (congrArg (fun o=>Option.bind o _) key).trans rfl
abbrev RSt:=(List Zf)×Bool×(List Za)
def vD (s:RSt) (o:Option Prf):RSt:=match o with
 | some p=>(s.1++[od p],true,ij bm s.2.2 p.1)
 | none=>s
def fT (s:RSt) (new:List Prf):RSt:=(s.1++new.map od,s.2.1 || !new.isEmpty,new.foldl (fun t p=>ij bm t p.1) s.2.2)
theorem vE {α:Type} (h:α→Option Prf):∀ (l:List α) (s:RSt),l.foldl (fun s a=>vD s (h a)) s=fT s (l.filterMap h)
 | [],s=>by simp [fT]
 | a::l,s=>by
  rw [List.foldl_cons,vE h l]
  cases ha:h a with
  | none=>rw [List.filterMap_cons_none ha];rfl
  | some p=>rw [List.filterMap_cons_some ha];simp [fT,vD]
theorem BG (s:RSt) (a b:List Prf):fT (fT s a) b=fT s (a++b):=by
 unfold fT
 rw [List.map_append,List.append_assoc,List.foldl_append]
 dsimp only
 congr 2
 cases a <;> cases b <;> cases s.2.1 <;> rfl
theorem DC (s:RSt) (o:Option Prf):(vD s o).1.length≤s.1.length+1∧(vD s o).2.2.length≤s.2.2.length+1:=by
 cases o with
 | none=>exact ⟨by show s.1.length≤_;omega,by show s.2.2.length≤_;omega⟩
 | some p=>exact ⟨by simp [vD],lw _ _⟩
theorem vF (s:RSt):∀ (new:List Prf),(fT s new).1.length≤s.1.length+new.length∧(fT s new).2.2.length≤s.2.2.length+new.length:=by
 intro new
 refine ⟨by simp [fT],?_⟩
 show (new.foldl (fun t p=>ij bm t p.1) s.2.2).length≤_
 generalize s.2.2=t
 induction new generalizing t with
 | nil=>simp
 | cons p new ih=>rw [List.foldl_cons,List.length_cons];have:=ih (ij bm t p.1);have:=lw (lt:=bm) t p.1;omega
theorem ref_one {plan:List Zc} {l:List Zb} (hv:VPs plan) (hl:VAs l) (ha:AscA l) (imp:ByteArray) (set:List Za) (hs:set.length≤1000000) {p:Zc} (hp:p∈plan) {a:Zb} (hal:a∈l) (s:RSt) (h1:s.1.length≤1000000) (h2:s.2.2.length≤1000000) {i j:Int} (hi:idx plan i=some p) (hj:idx l j=some a) :
    Option.bind (idx plan i) (fun m60=>Option.bind (idx l j) (fun m61=>Option.bind (dc set (⟨m60.ID,m61.ID⟩:Za)) (fun x63=>Option.bind (gd (!x63) (dL plan l imp (⟨m60.ID,m61.ID⟩:Za))) (fun x64=>cond (x63||(!x64)) (some (s.1,s.2.1,s.2.2)) (Option.bind (hQ plan l imp (⟨m60.ID,m61.ID⟩:Za) set) (fun x66=>Option.bind (idx l j) (fun m68=>Option.bind (idx plan i) (fun m69=>Option.bind (gm m68 m69.Code) (fun x70=>Option.bind (kS x70.1 x66.1) (fun x72=>cond x72.2 (Option.bind (app 64 s.1 [(⟨(⟨m60.ID,m61.ID⟩:Za),x72.1,x66.2⟩:Zf)]) (fun l76=>Option.bind (fI s.2.2 (⟨m60.ID,m61.ID⟩:Za)) (fun x80=>some (l76,true,x80)))) (some (s.1,s.2.1,s.2.2))))))))))))=some (vD s (kw plan l imp (aO set) p a)):=by
  have hlen:=hv.len
  have hva:=hl.all a hal
  rw [hi,ba,hj,ba,mi _ _ (by omega),ba,yd _ _ _ _ (by omega) hl]
  unfold kw
  cases hm:aO set ⟨p.ID,a.ID⟩
  · rw [Bool.not_false,cj,ba]
    cases hc:gU plan l imp ⟨p.ID,a.ID⟩
    · rfl
    simp only [Bool.not_true,Bool.or_self,bx]
    obtain ⟨r,hr⟩:=Aj hv ha hp hal hc
    have hro:=vu hva hr
    have hf:=ms hc
    rw [z2 hv hl imp _ set (by omega),ba,ba,ba,oV _ _ hva.ok.len,ba,hr]
    unfold n8
    rw [hc]
    simp only [bT]
    rw [show (hX qP (some r)).1=r from rfl,show (some r).getD qP=r from rfl,Ap (o3 hv imp _ _ hf) hro.2.1 hro.2.2,ba]
    unfold ez
    dsimp only
    cases hw:jP (ly plan l imp ⟨p.ID,a.ID⟩ (aO set)) r with
    | none=>rfl
    | some w =>
      show Option.bind (app 64 s.1 [_]) _=_
      rw [cL (by simp;omega) (by simp;omega),ba,sG _ _ (by omega)];rfl
  rfl
theorem DD {plan:List Zc} {l:List Zb} (hv:VPs plan) (hl:VAs l) (ha:AscA l) (imp:ByteArray) (set:List Za) (hs:set.length≤100000) (out:List Zf) (h1:out.length≤100000) {β:Type} (K:RSt→Option β) :
    Option.bind (aN (S:=(List Zf)×Bool×(List Za)×Int) (T:=((List Zf)×Bool×(List Za))) (fun (l22,v25,l26,v27)=>cond (decide (v27<(plan.length:Int))) (Option.bind (aN (S:=(List Zf)×Bool×(List Za)×Int) (T:=((List Zf)×Bool×(List Za))) (fun (l38,v41,l42,v43)=>cond (decide (v43<(l.length:Int))) (Option.bind (Option.bind (idx plan v27) (fun m60=>Option.bind (idx l v43) (fun m61=>Option.bind (dc set (⟨m60.ID,m61.ID⟩:Za)) (fun x63=>Option.bind (gd (!x63) (dL plan l imp (⟨m60.ID,m61.ID⟩:Za))) (fun x64=>cond (x63||(!x64)) (some (l38,v41,l42)) (Option.bind (hQ plan l imp (⟨m60.ID,m61.ID⟩:Za) set) (fun x66=>Option.bind (idx l v43) (fun m68=>Option.bind (idx plan v27) (fun m69=>Option.bind (gm m68 m69.Code) (fun x70=>Option.bind (kS x70.1 x66.1) (fun x72=>cond x72.2 (Option.bind (app 64 l38 [(⟨(⟨m60.ID,m61.ID⟩:Za),x72.1,x66.2⟩:Zf)]) (fun l76=>Option.bind (fI l42 (⟨m60.ID,m61.ID⟩:Za)) (fun x80=>some (l76,true,x80)))) (some (l38,v41,l42))))))))))))) (fun (l56,v57,l58)=>some (.inl (l56,v57,l58,(IntKind.i64.wrap (v43+1)))))) (some (.inr (l38,v41,l42)))) FUEL (l22,v25,l26,0)) (fun (l47,v48,l49)=>some (.inl (l47,v48,l49,(IntKind.i64.wrap (v27+1)))))) (some (.inr (l22,v25,l26)))) FUEL (out,false,set,0)) K =
      K (fT (out,false,set) (plan.flatMap fun p=>l.filterMap fun a=>kw plan l imp (aO set) p a)):=by
  have hlen:=hv.len
  have hll:=hl.len
  refine (cA (l:=plan) (by omega) (fun i (s:RSt)=>(s.1,s.2.1,s.2.2,i)) (fun s p=>fT s (l.filterMap fun a=>kw plan l imp (aO set) p a)) (fun s=>(s.1,s.2.1,s.2.2)) (fun k s=>s.1.length≤out.length+1000*k∧s.2.2.length≤set.length+1000*k) (out,false,set) ⟨by simp,by simp⟩ (fun k hk s hs=>?_) (fun s _=>by simp only [cJ,bx])).1.trans ?_
  · obtain ⟨g1,g2⟩:=hs
    have hfl:=List.length_filterMap_le (fun a=>kw plan l imp (aO set) plan[k] a) l
    have hrl:=vF s (l.filterMap fun a=>kw plan l imp (aO set) plan[k] a)
    refine ⟨?_,by omega,by omega⟩
    simp only [gV hk,bT,bO hk (show plan.length≤4611686018427387904 by omega)]
    refine (cA (l:=l) (by omega) (fun i (s:RSt)=>(s.1,s.2.1,s.2.2,i)) (fun s a=>vD s (kw plan l imp (aO set) plan[k] a)) (fun s=>(s.1,s.2.1,s.2.2)) (fun j t=>t.1.length≤s.1.length+j∧t.2.2.length≤s.2.2.length+j) s ⟨Nat.le_refl _,Nat.le_refl _⟩ (fun j hj t ht=>?_) (fun t _=>by simp only [cJ,bx])).1.trans ?_
    · obtain ⟨t1,t2⟩:=ht
      have hst:=DC t (kw plan l imp (aO set) plan[k] l[j])
      refine ⟨?_,by omega,by omega⟩
      simp only [gV hj,bT,bO hj (show l.length≤4611686018427387904 by omega)]
      exact (congrArg (fun o=>Option.bind o _) (ref_one hv hl ha imp set (by omega) (List.getElem_mem hk) (List.getElem_mem hj) t (by omega) (by omega) (aD hk) (aD hj))).trans rfl
    rw [vE (fun a=>kw plan l imp (aO set) plan[k] a)]
  have key:∀ (q:List Zc) (s:RSt),q.foldl (fun s p=>fT s (l.filterMap fun a=>kw plan l imp (aO set) p a)) s=fT s (q.flatMap fun p=>l.filterMap fun a=>kw plan l imp (aO set) p a):=by
    intro q
    induction q with
    | nil=>intro s;simp [fT]
    | cons p q ih=>intro s;rw [List.foldl_cons,ih,List.flatMap_cons,BG]
  rw [key]
section
variable {γ δ π:Type} [DecidableEq δ] {gc:γ→δ} {cl:π→δ} {pv:(δ→Bool)→γ→Option π}
theorem CG (G:List γ) (ps:List π):(G.filter fun g => !aO (ps.map cl) (gc g)).filterMap (pv (aO (ps.map cl)))=G.filterMap fun g=>cond (aO (ps.map cl) (gc g)) none (pv (aO (ps.map cl)) g):=by
    generalize pv (aO (ps.map cl))=f
    generalize aO (ps.map cl)=m
    induction G with
    | nil=>rfl
    | cons g G ihG =>
      rw [List.filter_cons]
      cases hm:m (gc g)
      · simp only [Bool.not_false,if_true,List.filterMap_cons,ihG,hm,bx]
      simp only [Bool.not_true,Bool.false_eq_true,if_false,List.filterMap_cons,ihG,hm,bT]
theorem FX (hcl:∀ S g p,pv S g=some p→cl p=gc g) {G:List γ} (inj:∀ g∈G,∀ g'∈G,gc g=gc g'→g=g') (ps:List π):((G.filter fun g => !aO (ps.map cl) (gc g)).filter fun g=>(pv (aO (ps.map cl)) g).isNone)=G.filter fun g => !aO ((ps++G.filterMap fun g=>cond (aO (ps.map cl) (gc g)) none (pv (aO (ps.map cl)) g)).map cl) (gc g):=by
    rw [List.filter_filter]
    refine List.filter_congr fun g hg=>?_
    cases hm:aO (ps.map cl) (gc g)
    · cases hp:pv (aO (ps.map cl)) g with
      | none =>
        cases hq:aO ((ps++G.filterMap fun g=>cond (aO (ps.map cl) (gc g)) none (pv (aO (ps.map cl)) g)).map cl) (gc g)
        · rfl
        · obtain ⟨p,k1,k2⟩:=ik.1 hq
          rcases List.mem_append.1 k1 with k1 | k1
          · rw [ik.2 ⟨p,k1,k2⟩] at hm;cases hm
          · obtain ⟨g',hg',he⟩:=List.mem_filterMap.1 k1
            cases hm':aO (ps.map cl) (gc g')
            · rw [hm'] at he
              have:=inj g' hg' g hg ((hcl _ _ _ he).symm.trans k2)
              subst this
              rw [bx,hp] at he;cases he
            · rw [hm'] at he;cases he
      | some p =>
        have:aO ((ps++G.filterMap fun g=>cond (aO (ps.map cl) (gc g)) none (pv (aO (ps.map cl)) g)).map cl) (gc g)=true:=ik.2 ⟨p,List.mem_append.2 (.inr (List.mem_filterMap.2 ⟨g,hg,by rw [hm];exact hp⟩)),hcl _ _ _ hp⟩
        rw [this];rfl
    have:aO ((ps++G.filterMap fun g=>cond (aO (ps.map cl) (gc g)) none (pv (aO (ps.map cl)) g)).map cl) (gc g)=true:=by
      obtain ⟨p,k1,k2⟩:=ik.1 hm
      exact ik.2 ⟨p,List.mem_append.2 (.inl k1),k2⟩
    rw [this]
    cases (pv (aO (ps.map cl)) g).isNone <;> rfl
end
theorem BH {plan:List Zc} {l:List Zb} (hv:VPs plan) (hl:VAs l) (ha:AscA l) (imp:ByteArray) {body:(List Zf)×(List Za)×Bool→Option (((List Zf)×(List Za)×Bool)⊕(List Zf))}
    (hb:∀ (out:List Zf) (set:List Za) (more:Bool),out.length≤100000→set.length≤100000→body (out,set,more)=cond more (some (.inl ((fT (out,false,set) (plan.flatMap fun p=>l.filterMap fun a=>kw plan l imp (aO set) p a)).1,(fT (out,false,set) (plan.flatMap fun p=>l.filterMap fun a=>kw plan l imp (aO set) p a)).2.2,(fT (out,false,set) (plan.flatMap fun p=>l.filterMap fun a=>kw plan l imp (aO set) p a)).2.1))) (some (.inr out))) :
    ∀ (n:Nat) (ps:List Prf) (set:List Za) (N:Nat),((cD plan l imp).filter fun g => !aO (ps.map fun p:Prf=>p.1) g.1).length≤n→n+1<N→(∀ c,aO set c=aO (ps.map fun p:Prf=>p.1) c)→ps.length+((cD plan l imp).filter fun g => !aO (ps.map fun p:Prf=>p.1) g.1).length≤64000→set.length≤ps.length →
      aN body N (ps.map od,set,true)=some ((jM plan l imp n ps set).map od):=by
  have hnewE:∀ (ps:List Prf) (set:List Za),(∀ c,aO set c=aO (ps.map fun p:Prf=>p.1) c)→(plan.flatMap fun p=>l.filterMap fun a=>kw plan l imp (aO set) p a)=((cD plan l imp).filter fun g => !aO (ps.map fun p:Prf=>p.1) g.1).filterMap (ez plan l imp (aO (ps.map fun p:Prf=>p.1))):=by
    intro ps set hS
    have hSS:aO set=aO (ps.map fun p:Prf=>p.1):=funext hS
    rw [hSS,← vA hv ha]
    exact (CG (gc:=fun g:Goal=>g.1) (cl:=fun p:Prf=>p.1) (pv:=ez plan l imp) (cD plan l imp) ps).symm
  have hempty:∀ (ps:List Prf) (set:List Za) (N:Nat),ps.length≤64000→set.length≤ps.length→(plan.flatMap fun p=>l.filterMap fun a=>kw plan l imp (aO set) p a)=[]→aN body (N+2) (ps.map od,set,true)=some (ps.map od):=by
    intro ps set N h1 h2 h
    have hm:(ps.map od).length=ps.length:=List.length_map _
    rw [fA,hb _ _ _ (by omega) (by omega),h]
    have e:fT (ps.map od,false,set) []=(ps.map od,false,set):=by simp [fT]
    rw [e]
    show aN body (N+1) (ps.map od,set,false)=_
    rw [fA,hb _ _ _ (by omega) (by omega)];rfl
  intro n
  induction n with
  | zero =>
    intro ps set N ho hN hS hlen hset
    obtain ⟨N,rfl⟩:∃ m,N=m+2:=⟨N - 2,by omega⟩
    rw [jM]
    refine hempty ps set N (by omega) hset ?_
    rw [hnewE ps set hS,List.length_eq_zero_iff.1 (Nat.le_zero.1 ho)];rfl
  | succ n ih =>
    intro ps set N ho hN hS hlen hset
    obtain ⟨N,rfl⟩:∃ m,N=m+2:=⟨N - 2,by omega⟩
    rw [jM]
    cases he:(plan.flatMap fun p=>l.filterMap fun a=>kw plan l imp (aO set) p a).isEmpty
    · have hm:(ps.map od).length=ps.length:=List.length_map _
      rw [fA,hb _ _ _ (by omega) (by omega)]
      have hn:=hnewE ps set hS
      have hrl:=vF (ps.map od,false,set) (plan.flatMap fun p=>l.filterMap fun a=>kw plan l imp (aO set) p a)
      have hmem:=rq (plan.flatMap fun p=>l.filterMap fun a=>kw plan l imp (aO set) p a) set
      rw [hn] at he hrl hmem ⊢
      have hsh:=rY he
      have hsum:=o6 (ez plan l imp (aO (ps.map fun p:Prf=>p.1))) ((cD plan l imp).filter fun g => !aO (ps.map fun p:Prf=>p.1) g.1)
      have hop:=FX (gc:=fun g:Goal=>g.1) (cl:=fun p:Prf=>p.1) (pv:=ez plan l imp) (Bz plan l imp) (G:=cD plan l imp) (qG (imp:=imp) hv ha) ps
      rw [hop,← CG (gc:=fun g:Goal=>g.1) (cl:=fun p:Prf=>p.1) (pv:=ez plan l imp) (cD plan l imp) ps] at hsh hsum
      generalize ((cD plan l imp).filter fun g => !aO (ps.map fun p:Prf=>p.1) g.1).filterMap (ez plan l imp (aO (ps.map fun p:Prf=>p.1)))=new at *
      have e:fT (ps.map od,false,set) new=((ps++new).map od,true,new.foldl (fun t p=>ij bm t p.1) set):=by unfold fT;rw [he,List.map_append];rfl
      rw [e]
      rw [e] at hrl
      refine ih (ps++new) _ (N+1) (by omega) (by omega) (fun c=>?_) (by rw [List.length_append];omega) (by rw [List.length_append];exact Nat.le_trans hrl.2 (by dsimp only;omega))
      rw [hmem,hS,List.map_append]
      unfold aO;rw [List.any_append]
    exact hempty ps set N (by omega) hset (List.isEmpty_iff.1 he)
theorem DE {plan:List Zc} {l:List Zb} (hv:VPs plan) (hl:VAs l) (ha:AscA l) {imp:ByteArray} (h1:oJ plan=some 0) (h2:iS l=some 0) (h3:gz imp=some true):ll plan l imp=some ((ip plan l imp).map od,0):=by
 have hlen:=hv.len
 have hll:=hl.len
 have hg:=sL plan l imp
 have hm:plan.length*l.length≤64*1000:=Nat.mul_le_mul hlen hll
 unfold ll
 rw [h1,ba,h2,ba,h3,ba]
 simp only [bne_self_eq_false,bx,Bool.not_true]
 have hfl:=List.length_filter_le (fun g:Goal => !aO (([]:List Prf).map fun p:Prf=>p.1) g.1) (cD plan l imp)
 refine (congrArg (fun o=>Option.bind o _) (BH hv hl ha imp (fun out set more k1 k2=>?_) (cD plan l imp).length [] [] FUEL hfl (by have hf:FUEL=1267650600228229401496703205376:=rfl;omega) (fun c=>rfl) (by simp only [List.length_nil];omega) (Nat.le_refl _))).trans ?_
 ·cases more
  ·rfl
  exact (DD hv hl ha imp set k2 out k1 _).trans rfl
 show some ((jM plan l imp (cD plan l imp).length [] []).map od,(0:Int))=_
 rw [tR hv ha]
theorem oe {α T:Type}:∀ (m:List α) (i:Nat),cr (fun (_:Nat) (_:α)=>(none:Option T)) m i=none
 | [],_=>rfl
 | _::m,i=>oe m (i+1)
theorem DF (l:List Zc) (x:Zh) (hl:l.length≤140737488355328):bF l (fun y=>cB y x)=some (cW l x.Product).isSome:=by
 unfold bF
 have e:bS l (fun y=>cB y x)=some (match cr (fun k p=>cond (p.ID == x.Product) (some (Sum.inr (k:Int):Unit⊕Int)) none) l 0 with | some (.inr k)=>k | _ => -1):=by
  unfold bS
  refine (bA (l:=l) (by omega) (fun k (p:Zc)=>cond (p.ID == x.Product) (some (.inr (k:Int))) none) (.inl ()) (fun k hk=>?_) (by simp only [cJ,bx])).trans ?_
  ·simp only [gV hk,bT,aD hk,ba,bO hk (show l.length≤4611686018427387904 by omega)]
   unfold cB
   rw [ba];cases (l[k].ID == x.Product) <;> rfl
  cases cr (fun k (p:Zc)=>cond (p.ID == x.Product) (some (Sum.inr (k:Int):Unit⊕Int)) none) l 0 with
  | none=>rfl
  | some t=>cases t <;> rfl
 rw [e,ba]
 unfold cW
 rcases qd (fun p:Zc=>p.ID == x.Product) (fun k=>(Sum.inr (k:Int):Unit⊕Int)) l 0 with ⟨h1,h2⟩ | ⟨j,hj,h1,h2⟩
 ·rw [h1,h2];rfl
 rw [h1,h2]
 show some (decide (0≤((0+j:Nat):Int)))=_
 rw [det (by omega)];rfl
structure VIds (l:List Zc):Prop where
 id:∀ p∈l,1≤p.ID∧p.ID≤1000000
 lvl:∀ p∈l,dN p.Code=6∨dN p.Code=8
theorem ue {α:Type} {f:α→Int} {l:List α} (h:l.Pairwise fun a b=>f a<f b) {k:Nat} (h0:0<k) (hk:k<l.length):f (l[k - 1]'(by omega))<f l[k]:=List.pairwise_iff_getElem.1 h (k - 1) k (by omega) hk (by omega)
theorem As {plan:List Zc} (hv:VPs plan) {p:Zc} (hp:VProd plan p):dj plan p.Inputs=some 0:=by
 unfold dj
 have hlen:=hv.len
 have hfew:=hp.few
 refine (bA (l:=p.Inputs) (by omega) (fun _ _=>none) (.inl ()) (fun k hk=>?_) (by simp only [cJ,bx])).trans ?_
 ·have hin:=hp.inp _ (List.getElem_mem hk)
  simp only [gV hk,bT,aD hk,ba,bO hk (show p.Inputs.length≤4611686018427387904 by omega),A9]
  rw [DF _ _ (by omega),hin.1,bD (show ¬ p.Inputs[k].Value<0 by omega),bD (show ¬ 1000000000000<p.Inputs[k].Value by omega)]
  by_cases h0:0<k
  ·have hlt:=ue hp.asc h0 hk
   rw [det h0,cj,fD h0 hk (by omega),ba,bD (by omega)];rfl
  rw [bD h0];rfl
 rw [oe];rfl
theorem yv {plan:List Zc} {p:Zc} (hp:VProd plan p) (hl:dN p.Code=6∨dN p.Code=8) (hw:StrsOk p.Processes):de p=some 0:=by
 unfold de
 show Option.bind (some (dN p.Code)) _=_
 have hne:((dN p.Code != 6)&&(dN p.Code != 8))=false:=by rcases hl with h | h <;> rw [h] <;> rfl
 have hfew:=hp.few
 have hpr:=hp.price
 rw [ba,hne,Bool.not_false,cj,kT,hp.ctr,ba,Bool.not_true,Bool.or_self,Bool.not_false,cj,rm _ hw,hp.proc,ba]
 simp only [Bool.not_true,Bool.or_self,bx]
 rw [bD (show ¬ p.Price<1 by omega),bD (show ¬ 1000000000000<p.Price by omega),bD (show ¬ 8<(p.Inputs.length:Int) by omega)]
 simp only [Bool.or_self,bx]
 cases ho:p.Obtained
 ·rfl
 rw [hp.obt ho];rfl
theorem xa {plan:List Zc} {p:Zc} (hp:VProd plan p):StrsOk p.Processes:=by
 obtain ⟨h1,h2,_⟩:=kp hp.proc
 exact ⟨by omega,fun s hs=>by have:=vt (h2 s hs);omega⟩
theorem vG {plan:List Zc} (hv:VPs plan) (hi:VIds plan):cT plan=some 0:=by
 unfold cT
 have hlen:=hv.len
 rw [bD (by omega),bx]
 refine (bA (l:=plan) (by omega) (fun _ _=>none) (.inl ()) (fun k hk=>?_) (by simp only [cJ,bx])).trans ?_
 ·have hm:=List.getElem_mem hk
  have hp:=hv.all _ hm
  have hid:=hi.id _ hm
  simp only [gV hk,bT,aD hk,ba,bO hk (show plan.length≤4611686018427387904 by omega),A9]
  rw [bD (show ¬ plan[k].ID<1 by omega),bD (show ¬ 1000000<plan[k].ID by omega),yv hp (hi.lvl _ hm) (xa hp),As hv hp]
  by_cases h0:0<k
  ·have hlt:=ue hv.asc h0 hk
   rw [det h0,cj,fD h0 hk (by omega),ba,bD (by omega)];rfl
  rw [bD h0];rfl
 rw [oe];rfl
theorem MPs.vids {l:List Zc} (h:MPs l):VIds l:=by
 have hlen:=h.len
 refine ⟨fun p hp=>?_,fun p hp=>?_⟩
 ·obtain ⟨i,hi,rfl⟩:=List.getElem_of_mem hp
  have:=(h.all i _ (List.getElem?_eq_getElem hi)).id;omega
 obtain ⟨i,hi,rfl⟩:=List.getElem_of_mem hp
 exact (h.all i _ (List.getElem?_eq_getElem hi)).lvl.1
theorem DG (l:List ByteArray) (hl:StrsOk l):pJ l=some (kl l):=by
 obtain ⟨hl,hs⟩:=hl
 unfold pJ kl
 refine (bA (l:=l) (by omega) (fun k x=>cond (mU gX l k x) none (some (.inr false))) (.inl ()) (fun k hk=>?_) (by simp only [cJ,bx])).trans ?_
 ·have h62:l.length≤4611686018427387904:=by omega
  simp only [gV hk,bT,aD hk,ba,zH _ (hs _ (List.getElem_mem hk)),A9,bO hk h62,mU]
  cases hw:gX l[k]
  ·rfl
  by_cases h0:0<k
  ·simp only [h0,decide_true,Bool.not_true,Bool.not_false,Bool.and_true,Bool.true_and,Bool.false_or,cj,fD h0 hk h62,ba,fc (show k - 1<l.length by omega),iT]
   cases Op.bytesLess (l[k-1]'(by omega)).toList l[k].toList <;> rfl
  simp only [h0,decide_false,Bool.and_false,i7,ba,Bool.not_true,Bool.false_or,Bool.false_and,bx,Bool.not_false,Bool.true_and,Bool.true_or,Bool.or_false];rfl
 rw [mr]
 have i2:decide ((l.length:Int)≤(8:Int))=decide (l.length≤8):=decide_eq_decide.2 (by omega)
 cases (l.all gX&&ku iT l)
 ·simp
 simp [i2]
theorem FY {s:ByteArray} (h:dN s=6∨dN s=8):s.size≤8:=by
 unfold dN at h
 split at h
 ·omega
 omega
theorem DH {plan:List Zc} (hv:VPs plan) (hi:VIds plan):oJ plan=some 0:=by
 unfold oJ
 have hlen:=hv.len
 rw [bD (by omega),bx]
 refine (bA (l:=plan) (by omega) (fun _ _=>none) (.inl ()) (fun k hk=>?_) (by simp only [cJ,bx])).trans ?_
 ·have hm:=List.getElem_mem hk
  have hp:=hv.all _ hm
  have hid:=hi.id _ hm
  have hl:=hi.lvl _ hm
  have hls:=FY hl
  have hfew:=hp.few
  have hpr:=hp.price
  simp only [gV hk,bT,aD hk,ba,bO hk (show plan.length≤4611686018427387904 by omega),A9]
  rw [bD (show ¬ plan[k].ID<1 by omega),bD (show ¬ 1000000<plan[k].ID by omega),sB _ (by omega),p9,DG _ (xa hp),hp.ctr,hp.proc]
  have hlv:decide (dN plan[k].Code<6)=false:=bD (by omega)
  have tail:∀ {β:Type} (K:Unit⊕(Int⊕(Unit⊕Int))→Option β),Option.bind (aN (S:=Int) (T:=(Unit)⊕(Int⊕(Unit⊕Int))) (fun v18=>cond (decide (v18<(plan[k].Inputs.length:Int))) (Option.bind (gd (decide (0<v18)) (idx plan[k].Inputs v18)) (fun m22=>Option.bind (gd (decide (0<v18)) (idx plan[k].Inputs (IntKind.i64.wrap (v18 - 1)))) (fun m23=>cond ((decide (0<v18))&&(decide (m22.Product≤m23.Product))) (some (.inr (.inr (.inr (.inr 9))))) (Option.bind (idx plan[k].Inputs v18) (fun m25=>Option.bind (fH plan m25.Product) (fun x26=>cond (!x26.2) (some (.inr (.inr (.inr (.inr 6))))) (Option.bind (idx plan[k].Inputs v18) (fun m29=>Option.bind (gd (!(decide (m29.Value<0))) (idx plan[k].Inputs v18)) (fun m30=>cond ((decide (m29.Value<0))||(decide (1000000000000<m30.Value))) (some (.inr (.inr (.inr (.inr 2))))) (some (.inl (IntKind.i64.wrap (v18+1))))))))))))) (some (.inr (.inl ())))) FUEL 0) K=K (.inl ()):=by
   intro β K
   refine (bA (l:=plan[k].Inputs) (by omega) (fun _ _=>none) (.inl ()) (fun j hj=>?_) (by simp only [cJ,bx])).trans ?_
   ·have hin:=hp.inp _ (List.getElem_mem hj)
    simp only [gV hj,bT,aD hj,ba,bO hj (show plan[k].Inputs.length≤4611686018427387904 by omega),A9]
    rw [qF hv,ba,hin.1,bD (show ¬ plan[k].Inputs[j].Value<0 by omega),Bool.not_false,cj,ba,bD (show ¬ 1000000000000<plan[k].Inputs[j].Value by omega)]
    by_cases h0:0<j
    ·have hlt:=ue hp.asc h0 hj
     rw [det h0,cj,cj,ba,fD h0 hj (by omega),ba,bD (by omega)];rfl
    rw [bD h0];rfl
   rw [oe];rfl
  by_cases h0:0<k
  ·have hlt:=ue hv.asc h0 hk
   rw [det h0,cj,fD h0 hk (by omega),ba,bD (show ¬ plan[k].ID≤(plan[k - 1]'(by omega)).ID by omega)]
   simp only [Bool.or_self,bx,Bool.and_false,ba,hlv,Bool.not_false,cj,Bool.not_true]
   rw [bD (show ¬ plan[k].Price<1 by omega),bD (show ¬ 1000000000000<plan[k].Price by omega),bD (show ¬ 8<(plan[k].Inputs.length:Int) by omega)]
   have hob:(plan[k].Obtained&&decide (0<plan[k].Inputs.length))=false:=by
    cases ho:plan[k].Obtained
    ·rfl
    rw [hp.obt ho];rfl
   rw [hob]
   simp only [Bool.or_self,bx]
   exact (tail _).trans rfl
  rw [bD h0,i7,ba]
  simp only [Bool.or_self,bx,Bool.false_and,ba,hlv,Bool.not_false,cj,Bool.not_true]
  rw [bD (show ¬ plan[k].Price<1 by omega),bD (show ¬ 1000000000000<plan[k].Price by omega),bD (show ¬ 8<(plan[k].Inputs.length:Int) by omega)]
  have hob:(plan[k].Obtained&&decide (0<plan[k].Inputs.length))=false:=by
   cases ho:plan[k].Obtained
   ·rfl
   rw [hp.obt ho];rfl
  rw [hob]
  simp only [Bool.or_self,bx]
  exact (tail _).trans rfl
 rw [oe];rfl
theorem vH {p:List Zc} {l:List Zb} {imp:ByteArray} (h1:MPs p) (h2:MAs l) (h3:imp∈C6):iV p l imp=some ((ip p l imp).map od,0)∧ll p l imp=some ((ip p l imp).map od,0):=by
 have hv:=h1.vps
 refine ⟨BF hv h2.vas (vG hv h1.vids) ?_ ?_,DE hv h2.vas h2.asc (DH hv h1.vids) ?_ ?_⟩
 ·rw [zL l h2.ok,h2.valid]
 ·rw [kT,C6_ctry h3]
 ·rw [ref_agr l h2.ok,h2.valid]
 rw [p9,C6_ctry h3]
theorem At {plan:List Zc} {l:List Zb} (hv:VPs plan) (hl:VAs l) (ha:AscA l) (imp:ByteArray):(ip plan l imp).length≤64000∧∀ p∈ip plan l imp,p.2.1.length≤1000∧p.2.2.length≤64:=by
 have hg:=sL plan l imp
 have hm:plan.length*l.length≤64*1000:=Nat.mul_le_mul hv.len hl.len
 have key:∀ (n:Nat) (o:List Goal) (ps:List Prf),(∀ g∈o,g∈cD plan l imp)→(∀ p∈ps,p.2.1.length≤1000∧p.2.2.length≤64)→(jx (fun p:Prf=>p.1) (ez plan l imp) n o ps).length≤ps.length+o.length∧∀ p∈jx (fun p:Prf=>p.1) (ez plan l imp) n o ps,p.2.1.length≤1000∧p.2.2.length≤64:=by
  intro n
  induction n with
  | zero=>intro o ps _ h;exact ⟨by rw [jx];omega,by rw [jx];exact h⟩
  | succ n ih =>
   intro o ps ho h
   rw [jx]
   have hs:=o6 (ez plan l imp (aO (ps.map fun p:Prf=>p.1))) o
   cases (o.filterMap (ez plan l imp (aO (ps.map fun p:Prf=>p.1)))).isEmpty
   ·obtain ⟨i1,i2⟩:=ih (o.filter fun g=>(ez plan l imp (aO (ps.map fun p:Prf=>p.1)) g).isNone) (ps++o.filterMap (ez plan l imp (aO (ps.map fun p:Prf=>p.1)))) (fun g hg=>ho g (List.mem_filter.1 hg).1) (fun p hp=>by
     rcases List.mem_append.1 hp with hp | hp
     ·exact h p hp
     obtain ⟨g,k1,k2⟩:=List.mem_filterMap.1 hp
     have hr:=sJ hl (ho g k1)
     unfold ez at k2
     cases hw:jP (ly plan l imp g.1 (aO (ps.map fun p:Prf=>p.1))) g.2 with
     | none=>rw [hw] at k2;cases k2
     | some w =>
      rw [hw,Option.map_some] at k2
      injection k2 with k2
      subst k2
      exact ⟨by have:=rW _ _ w hw;dsimp only;omega,z7 hv imp g.1 _ (o4 (ho g k1)).2⟩)
    exact ⟨by rw [List.length_append] at i1;simp only [bx];omega,i2⟩
   ·exact ⟨by simp only [bT];omega,h⟩
 obtain ⟨k1,k2⟩:=key (cD plan l imp).length (cD plan l imp) [] (fun g h=>h) (fun p hp=>by cases hp)
 exact ⟨by unfold ip;simp only [List.length_nil] at k1;omega,k2⟩




structure POk (p:Zc):Prop where
 code:p.Code.size≤140737488355328
 proc:StrsOk p.Processes
 len:p.Inputs.length≤140737488355328
structure PSOk (l:List Zc):Prop where
 len:l.length≤140737488355328
 all:∀ p∈l,POk p
theorem tB {α T:Type} (g:Nat→α→Option T):∀ (l:List α) (i:Nat),cr g l i=none→∀ k,(h:k<l.length)→g (i+k) l[k]=none
 | [],_,_,k,h=>absurd h (by simp)
 | x::l,i,e,k,h=>by
  rw [cr] at e
  cases hg:g i x with
  | some t=>rw [hg] at e;cases e
  | none =>
   rw [hg] at e
   cases k with
   | zero=>exact hg
   | succ k=>have:=tB g l (i+1) e k (by simpa using h);rw [show i+(k+1)=i+1+k by omega];exact this

def uIn (id pid:Int) (acc:List Int) (x:Zh):List Int:=cond (x.Product == id) (acc++[pid]) acc
def usersS (plan:List Zc) (id:Int):List Int:=plan.foldl (fun acc p=>p.Inputs.foldl (uIn id p.ID) acc) []
def hitB (plan:List Zc) (id:Int) (r:List Bool) (m:Nat) (u:List Int):Bool:=match plan[m]? with
 | none=>false
 | some p=>((p.ID == id)||r.getD m false)&&u.any fun x=>x == p.ID
def iK (r:List Bool):Nat:=(r.filter fun b => !b).length
theorem vJ:∀ (r:List Bool) (i:Nat),r[i]?=some false→iK (r.set i true)<iK r
 | b::r,0,h=>by simp at h;subst h;simp [iK]
 | b::r,i+1,h=>by
  have:=vJ r i (by simpa using h)
  unfold iK at this ⊢
  cases b <;> simp [List.filter_cons] <;> omega
structure PassI (plan:List Zc) (id:Int) (r:List Bool) (k:Nat) (r':List Bool) (ag:Bool):Prop where
 len:r'.length=plan.length
 le:k≤plan.length
 no:ag=false→r'=r∧∀ i,i<k→∀ p,plan[i]?=some p→r.getD i false=true∨∀ m,hitB plan id r m (usersS plan p.ID)=false
 yes:ag=true→iK r'<iK r
theorem VIds.sub {l m:List Zc} (h:VIds l) (hs:∀ p∈m,p∈l):VIds m:=⟨fun p hp=>h.id p (hs p hp),fun p hp=>h.lvl p (hs p hp)⟩

def kq (p:Zf):Prf:=(p.Claim,p.Path,p.Premises)
def iu {α:Type} (P:Nat→Bool):List α→Nat→List α
 | [],_=>[]
 | x::l,i=>cond (P i) (x::iu P l (i+1)) (iu P l (i+1))
theorem vK {α:Type} (P:Nat→Bool):∀ (l:List α) (x:α) (i:Nat),iu P (l++[x]) i=iu P l i++cond (P (i+l.length)) [x] []
 | [],x,i=>by simp [iu]
 | y::l,x,i=>by
  rw [List.cons_append,iu,iu,vK P l x (i+1),List.length_cons,show i+1+l.length=i+(l.length+1) by omega]
  cases P i <;> rfl
theorem sN {α:Type} (P:Nat→Bool):∀ (l:List α) (i:Nat),(iu P l i).length≤l.length
 | [],_=>by simp [iu]
 | x::l,i=>by
  have:=sN P l (i+1)
  rw [iu]
  cases P i <;> simp <;> omega
theorem sO {α:Type} (P:Nat→Bool):∀ (l:List α) (i:Nat),∀ x∈iu P l i,∃ k,∃ h:k<l.length,l[k]=x∧P (i+k)=true
 | [],_,x,h=>by simp [iu] at h
 | y::l,i,x,h=>by
  rw [iu] at h
  cases hp:P i with
  | false =>
   rw [hp] at h
   obtain ⟨k,h1,h2,h3⟩:=sO P l (i+1) x h
   exact ⟨k+1,by simpa using h1,by simpa using h2,by rw [show i+(k+1)=i+1+k by omega];exact h3⟩
  | true =>
   rw [hp] at h
   rcases List.mem_cons.1 h with rfl | h
   ·exact ⟨0,by simp,rfl,by simpa using hp⟩
   obtain ⟨k,h1,h2,h3⟩:=sO P l (i+1) x h
   exact ⟨k+1,by simpa using h1,by simpa using h2,by rw [show i+(k+1)=i+1+k by omega];exact h3⟩
theorem qH {ps:List Prf} {k:Nat} (hk:k<ps.length):∃ j,dK ps ps[k].1=some j∧j≤k:=by
 unfold dK
 cases h:ps.findIdx? (fun p=>decide (p.1=ps[k].1)) with
 | none =>
  rw [List.findIdx?_eq_none_iff] at h
  have:=h ps[k] (List.getElem_mem hk)
  simp at this
 | some j =>
  refine ⟨j,rfl,?_⟩
  rw [List.findIdx?_eq_some_iff_getElem] at h
  obtain ⟨h1,h2,h3⟩:=h
  rcases Nat.lt_or_ge k j with h4 | h4
  ·have:=h3 k h4;simp at this
  exact h4
structure FMap (ps:List Prf) (k:Nat) (m:List (Za×Int)):Prop where
 get:∀ d,eC m d=match dK ps d with | some i=>cond (decide (i<k)) (some (i:Int)) none | none=>none
theorem FZ {ps:List Prf} {m:List (Za×Int)} (h:FMap ps ps.length m) (d:Za):eC m d=(dK ps d).map (fun i:Nat=>(i:Int)):=by
 rw [h.get]
 cases hf:dK ps d with
 | none=>rfl
 | some i =>
  obtain ⟨p,h1,_⟩:=gY hf
  have:=(List.getElem?_eq_some_iff.1 h1).1
  dsimp only
  rw [det this];rfl
theorem DI {ps:List Prf} {k:Nat} {m:List (Za×Int)} (h:FMap ps k m) (hk:k<ps.length) (hs:(eC m ps[k].1).isSome=true):FMap ps (k+1) m:=by
 obtain ⟨j,h1,h2⟩:=qH hk
 have hj:=h.get ps[k].1
 rw [h1] at hj
 dsimp only at hj
 have hjk:j<k:=by
  rcases Nat.lt_or_ge j k with h3 | h3
  ·exact h3
  rw [bD (by omega)] at hj;rw [hj] at hs;cases hs
 refine ⟨fun d=>?_⟩
 rw [h.get]
 cases hf:dK ps d with
 | none=>rfl
 | some i =>
  dsimp only
  have:i≠k:=by
   rintro rfl
   obtain ⟨p,h3,h4⟩:=gY hf
   rw [List.getElem?_eq_getElem hk] at h3;injection h3 with h3
   rw [← h4,← h3,h1] at hf;injection hf with hf;omega
  rw [show decide (i<k+1)=decide (i<k) from decide_eq_decide.2 (by omega)]
theorem F0 {ps:List Prf} {k:Nat} {m:List (Za×Int)} (h:FMap ps k m) (hk:k<ps.length) (hs:(eC m ps[k].1).isSome=false):FMap ps (k+1) (nO m ps[k].1 (k:Int)):=by
 obtain ⟨j,h1,h2⟩:=qH hk
 have hj:=h.get ps[k].1
 rw [h1] at hj
 dsimp only at hj
 have hjk:j=k:=by
  rcases Nat.lt_or_ge j k with h3 | h3
  ·rw [det h3] at hj;rw [hj] at hs;cases hs
  omega
 subst hjk
 refine ⟨fun d=>?_⟩
 rw [sI]
 by_cases e:ps[j].1=d
 ·rw [if_pos e,← e,h1]
  dsimp only
  rw [det (by omega)];rfl
 rw [if_neg e,h.get]
 cases hf:dK ps d with
 | none=>rfl
 | some i =>
  dsimp only
  have:i≠j:=by
   rintro rfl
   obtain ⟨p,h3,h4⟩:=gY hf
   rw [List.getElem?_eq_getElem hk] at h3;injection h3 with h3
   exact e (by rw [h3];exact h4)
  rw [show decide (i<j+1)=decide (i<j) from decide_eq_decide.2 (by omega)]
theorem xb {α:Type} {l:List α} {k:Nat} (h:k<l.length):l.take (k+1)=l.take k++[l[k]]:=by
 rw [List.take_add_one,List.getElem?_eq_getElem h];rfl
def TrimS (x:List Zf) (c:Za) (r:List Zf×Int):Prop :=
 (∃ P:Nat→Bool,TOk (x.map kq) c (fun i=>P i=true)∧r=(iu P x 0,0))∨(r=([],6)∧TErr (x.map kq) c)
structure Zx (x:List Zf) (M:Nat):Prop where
 len:x.length≤100000
 prem:∀ p∈x,p.Premises.length≤M
 path:∀ p∈x,p.Path.length≤1000000000000
 mx:M≤2000000
theorem DJ {x:List Zf} {M:Nat} (h:Zx x M) (c:Za):Y (lm x c) (TrimS x c):=by
 unfold lm
 have hn:=h.len;have hmx:=h.mx
 have hpl:(x.map kq).length=x.length:=List.length_map _
 refine Y.bind (P:=fun m=>FMap (x.map kq) x.length m) ?_ fun m hm=>?_
 ·refine Y.loop (fun s:Int×List (Za×Int)=>∃ k:Nat,s.1=(k:Int)∧k≤x.length∧FMap (x.map kq) k s.2) (fun s=>(x.length - s.1).toNat) ⟨0,rfl,by omega,⟨fun d=>by cases dK (x.map kq) d <;> rfl⟩⟩ (by show ((x.length:Int) - 0).toNat≤_;omega) (fun s hs=>?_)
  obtain ⟨v,m⟩:=s
  obtain ⟨k,hv,hk,hf⟩:=hs
  dsimp only at hv hf ⊢
  subst hv
  rcases Nat.lt_or_ge k x.length with hk2 | hk2
  rotate_left
  ·have e:k=x.length:=by omega
   subst e
   rw [cJ,bx];exact Y.ret hf
  rw [gV hk2,bT,aD hk2,ba,bO hk2 (by omega)]
  have hkp:k<(x.map kq).length:=by omega
  have hc1:((x.map kq)[k]).1=x[k].Claim:=by rw [List.getElem_map];rfl
  have hdec:((x.length:Int) - ((k+1:Nat):Int)).toNat<((x.length:Int) - (k:Int)).toNat:=by omega
  cases hs:(eC m x[k].Claim).isSome with
  | true=>exact Y.ret ⟨⟨k+1,rfl,by omega,DI hf hkp (by rw [hc1];exact hs)⟩,hdec⟩
  | false=>exact Y.ret ⟨⟨k+1,rfl,by omega,by have:=F0 hf hkp (by rw [hc1];exact hs);rw [hc1] at this;exact this⟩,hdec⟩
 have hget:∀ d,eC m d=(dK (x.map kq) d).map (fun i:Nat=>(i:Int)):=FZ (by rw [hpl];exact hm)
 rw [show mk 1 false (x.length:Int)=some (List.replicate x.length false) by unfold mk;rw [if_pos (by simp;omega)];simp,ba]
 refine Y.bind (P:=fun t=>match t with | .inl nd=>TOk (x.map kq) c (fun i=>nd[i]?=some true)∧nd.length=x.length | .inr e=>e=(([]:List Zf),(6:Int))∧TErr (x.map kq) c) ?_ fun t ht=>?_
 ·refine Y.loop (fun s:List Bool×List Za=>Zw (x.map kq) c s.1 s.2∧s.2.length+iK s.1*(M+1)≤1+x.length*(M+1)) (fun s=>s.2.length+iK s.1*(M+1)) ⟨by rw [← hpl];exact t_start,?_⟩ ?_ (fun s hs=>?_)
  ·have:iK (List.replicate x.length false)≤x.length:=by unfold iK;refine Nat.le_trans (List.length_filter_le _ _) ?_;simp
   have:=Nat.mul_le_mul_right (M+1) this
   simp only [List.length_cons,List.length_nil];omega
  ·have:iK (List.replicate x.length false)≤x.length:=by unfold iK;refine Nat.le_trans (List.length_filter_le _ _) ?_;simp
   have h1:=Nat.mul_le_mul_right (M+1) this
   have h2:x.length*(M+1)≤100000*2000001:=Nat.mul_le_mul hn (by omega)
   simp only [List.length_cons,List.length_nil];omega
  obtain ⟨nd,todo⟩:=s
  obtain ⟨hI,hB⟩:=hs
  dsimp only at hI hB ⊢
  have h2:x.length*(M+1)≤100000*2000001:=Nat.mul_le_mul hn (by omega)
  rcases List.eq_nil_or_concat todo with rfl | ⟨t,d,rfl⟩
  ·exact Y.ret ⟨t_end hI,by rw [hI.len,hpl]⟩
  rw [List.concat_eq_append] at hI hB ⊢
  have hlen:(t++[d]).length=t.length+1:=by simp
  have hw:IntKind.i64.wrap ((((t++[d]).length:Nat):Int) - 1)=(t.length:Int):=by rw [hlen,cI (by omega) (by omega)];omega
  have hix:idx (t++[d]) (t.length:Int)=some d:=by rw [aD (by simp)];simp
  have hsub:sub (t++[d]) 0 (t.length:Int)=some t:=by
   have:=kE (xs:=t++[d]) (a:=0) (b:=t.length) (by omega) (by simp)
   rw [show ((0:Nat):Int)=0 from rfl] at this
   rw [this];simp
  rw [det (show (0:Int)<(((t++[d]).length:Nat):Int) by rw [hlen];omega),bT,hw,hix,ba,hsub,ba,hget]
  cases hf:dK (x.map kq) d with
  | none=>exact Y.ret ⟨rfl,t_fail hI hf⟩
  | some i =>
   obtain ⟨p,hp,hpd⟩:=gY hf
   have hi:i<x.length:=by have:=(List.getElem?_eq_some_iff.1 hp).1;omega
   have hpx:p=kq x[i]:=by rw [List.getElem?_map,List.getElem?_eq_getElem hi] at hp;injection hp with hp;exact hp.symm
   have hin:i<nd.length:=by have:=hI.len;omega
   simp only [Option.map_some,Option.isSome_some,Bool.not_true,bx,Option.getD_some,aD hin,aD hi,ba]
   cases hb:nd[i] with
   | true =>
    refine Y.ret ⟨⟨t_skip hI hf (by rw [List.getElem?_eq_getElem hin,hb]),?_⟩,?_⟩
    ·dsimp only;omega
    ·dsimp only;omega
   | false =>
    have hpr:=h.prem _ (List.getElem_mem hi)
    have hfs:=vJ nd i (by rw [List.getElem?_eq_getElem hin,hb])
    have hm2:(iK (nd.set i true)+1)*(M+1)≤iK nd*(M+1):=Nat.mul_le_mul_right _ hfs
    rw [Nat.add_mul,Nat.one_mul] at hm2
    simp only [Bool.not_false,bT]
    rw [cL (by omega) (by omega),ba,Int.toNat_natCast]
    have hadd:=t_add hI hf hp
    rw [hpx] at hadd
    refine Y.ret ⟨⟨hadd,?_⟩,?_⟩
    ·show (t++x[i].Premises).length+iK (nd.set i true)*(M+1)≤_
     rw [List.length_append];omega
    show (t++x[i].Premises).length+iK (nd.set i true)*(M+1)<(t++[d]).length+iK nd*(M+1)
    rw [List.length_append];omega
 cases t with
 | inr e=>obtain ⟨rfl,h2⟩:=ht;exact Y.ret (.inr ⟨rfl,h2⟩)
 | inl nd =>
  obtain ⟨hT,hlen⟩:=ht
  dsimp only
  refine Y.bind (P:=fun r=>r=iu (fun i=>nd.getD i false) x 0) ?_ fun r hr=>Y.ret (.inl ⟨fun i=>nd.getD i false,?_,by rw [hr]⟩)
  ·refine Y.loop (fun s:List Zf×Int=>∃ k:Nat,s.2=(k:Int)∧k≤x.length∧s.1=iu (fun i=>nd.getD i false) (x.take k) 0) (fun s=>(x.length - s.2).toNat) ⟨0,rfl,by omega,rfl⟩ (by show ((x.length:Int) - 0).toNat≤_;omega) (fun s hs=>?_)
   obtain ⟨out,v⟩:=s
   obtain ⟨k,hv,hk,ho⟩:=hs
   dsimp only at hv ho ⊢
   subst hv;subst ho
   rcases Nat.lt_or_ge k x.length with hk2 | hk2
   rotate_left
   ·have e:k=x.length:=by omega
    subst e
    rw [cJ,bx,List.take_length];exact Y.ret rfl
   have hkn:k<nd.length:=by omega
   have hdec:((x.length:Int) - ((k+1:Nat):Int)).toNat<((x.length:Int) - (k:Int)).toNat:=by omega
   have hsn:iu (fun i=>nd.getD i false) (x.take (k+1)) 0=iu (fun i=>nd.getD i false) (x.take k) 0++cond nd[k] [x[k]] []:=by
    rw [xb hk2,vK,Nat.zero_add,List.length_take,Nat.min_eq_left (by omega),List.getD_eq_getElem?_getD,List.getElem?_eq_getElem hkn];rfl
   have hol:=sN (fun i=>nd.getD i false) (x.take k) 0
   rw [List.length_take] at hol
   rw [gV hk2,bT,aD hk2,ba,aD hkn,ba,bO hk2 (by omega)]
   cases hb:nd[k] with
   | false=>exact Y.ret ⟨⟨k+1,rfl,by omega,by rw [hsn,hb];simp⟩,hdec⟩
   | true =>
    have h1:=h.path _ (List.getElem_mem hk2);have h2:=h.prem _ (List.getElem_mem hk2)
    unfold eY bC
    simp only [bT]
    rw [cL (by simp only [List.length_cons,List.length_nil];omega) (by simp only [List.length_cons,List.length_nil];omega),ba,cL (by simp only [List.length_cons,List.length_nil];omega) (by simp only [List.length_cons,List.length_nil];omega),ba,cL (by simp only [List.length_cons,List.length_nil];omega) (by simp only [List.length_cons,List.length_nil];omega),ba]
    exact Y.ret ⟨⟨k+1,rfl,by omega,by rw [hsn,hb];rfl⟩,hdec⟩
  refine ⟨fun i=>?_,hT.2⟩
  rw [← hT.1 i]
  show nd.getD i false=true↔nd[i]?=some true
  rw [List.getD_eq_getElem?_getD]
  cases nd[i]? with
  | none=>simp
  | some b=>simp

theorem Au {plan:List Zc} {l:List Zb} {imp:ByteArray}:∀ (ps:List Prf) (K:List Za),tz plan l imp K ps=true→∀ p∈ps,∀ e∈p.2.2,e∈K++ps.map (·.1)
 | [],K,_,p,hp,_,_=>by cases hp
 | q::ps,K,h,p,hp,e,he=>by
  rw [tz,Bool.and_eq_true] at h
  rcases List.mem_cons.1 hp with rfl | hp'
  ·have h1:=h.1
   unfold i6 at h1
   simp only [Bool.and_eq_true] at h1
   have h2:=List.all_eq_true.1 h1.1.1.2 e he
   exact List.mem_append.2 (.inl (dB.1 h2))
  have:=Au ps _ h.2 p hp' e he
  simpa using this
theorem BI {plan:List Zc} {l:List Zb} (hv:VPs plan) (ha:AscA l) (imp:ByteArray):∀ p∈ip plan l imp,∀ e∈p.2.2,e∈(ip plan l imp).map (·.1):=fun p hp e he=>by
 simpa using Au (ip plan l imp) [] (tA hv ha imp) p hp e he
theorem BJ {ps:List Prf} {d:Za}:dK ps d≠none↔d∈ps.map (·.1):=by
 constructor
 ·intro h
  cases hf:dK ps d with
  | none=>exact absurd hf h
  | some i =>
   obtain ⟨p,h1,h2⟩:=gY hf
   rw [← h2];exact List.mem_map_of_mem (List.mem_of_getElem? h1)
 intro h hf
 obtain ⟨p,hp,rfl⟩:=List.mem_map.1 h
 obtain ⟨k,hk,rfl⟩:=List.getElem_of_mem hp
 obtain ⟨j,h1,_⟩:=qH hk
 rw [hf] at h1;cases h1
theorem no_err {ps:List Prf} (h:∀ p∈ps,∀ e∈p.2.2,e∈ps.map (·.1)) {c:Za} (hc:c∈ps.map (·.1)):¬ TErr ps c:=by
 rintro ⟨d,hd,hn⟩
 have:d∈ps.map (·.1):=by
  cases hd with
  | base=>exact hc
  | step _ _ h2 h3=>exact h _ (List.mem_of_getElem? h2) _ h3
 exact BJ.2 this hn
theorem map_ofP (ps:List Prf):(ps.map od).map kq=ps:=by
 rw [List.map_map]
 exact List.map_id ps
theorem xc {plan:List Zc} {l:List Zb} (hv:VPs plan) (hl:VAs l) (ha:AscA l) (imp:ByteArray):Zx ((ip plan l imp).map od) 64:=by
 obtain ⟨h1,h2⟩:=At hv hl ha imp
 refine ⟨by rw [List.length_map];omega,fun p hp=>?_,fun p hp=>?_,by omega⟩
 ·obtain ⟨q,hq,rfl⟩:=List.mem_map.1 hp
  exact (h2 q hq).2
 obtain ⟨q,hq,rfl⟩:=List.mem_map.1 hp
 have:=(h2 q hq).1
 show q.2.1.length≤_;omega
theorem Av {x:List Zf} {M:Nat} (h:Zx x M) {c:Za} {r:List Zf×Int} (hr:TrimS x c r):r.1.length≤x.length∧∀ p∈r.1,p∈x:=by
 rcases hr with ⟨P,_,rfl⟩ | ⟨rfl,_⟩
 ·refine ⟨sN _ _ _,fun p hp=>?_⟩
  obtain ⟨k,hk,rfl,_⟩:=sO P x 0 p hp
  exact List.getElem_mem hk
 exact ⟨by simp,fun p hp=>by cases hp⟩
theorem CH:ls=some true:=by kernel_rfl
def FR (o:Option (List Int)) (t:List Int×Bool):Prop:=match o with
 | some q=>t=(q,true)
 | none=>t.2=false
theorem F1 {o:Option (List Int)} {t:List Int×Bool} (h:FR o t):(t.2&&((t.1.length:Int) == 0))=decide (o=some []):=by
 cases o with
 | none=>rw [show t.2=false from h];simp
 | some q =>
  rw [show t=(q,true) from h]
  cases q with
  | nil=>simp
  | cons a q =>
   rw [bD (by simp)]
   show (true&&(((a::q).length:Int) == 0))=false
   rw [Bool.true_and,beq_eq_false_iff_ne];simp <;> omega
theorem DK (x:Zl) {l:List Ze} {k:Nat} (hk:k<l.length) (p:List Int):qL x (l.drop k) p=match vw x l[k] p with | some q=>qL x (l.drop (k+1)) q | none=>none:=by
 rw [List.drop_eq_getElem_cons hk,qL] <;> rfl
section
variable {x:Zl} {rec:Ze→List Int→Option (List Int×Bool)}
theorem CI {l:List Ze} {T:Type} (hl:l.length≤1000) {body:List Int×Int→Option ((List Int×Int)⊕(List Int⊕(List Int×Bool)))}
    (hstep:∀ (k:Nat) (hk:k<l.length) (p:List Int),Y (body (p,(k:Int))) (fun o=>match vw x l[k] p with | some q=>o=.inl (q,((k+1:Nat):Int)) | none=>∃ e:List Int×Bool,o=.inr (.inr e)∧e.2=false))
    (hend:∀ p,body (p,(l.length:Int))=some (.inr (.inl p))) (p:List Int):Y (aN body FUEL (p,0)) (fun t=>match t with | .inl q=>qL x l p=some q | .inr e=>qL x l p=none∧e.2=false):=by
  refine Y.loop (fun s:List Int×Int=>∃ k:Nat,s.2=(k:Int)∧k≤l.length∧qL x (l.drop k) s.1=qL x l p) (fun s=>(l.length - s.2).toNat) ⟨0,rfl,by omega,rfl⟩ (by show ((l.length:Int) - 0).toNat≤_;omega) (fun s hs=>?_)
  obtain ⟨q,v⟩:=s
  obtain ⟨k,hv,hk,he⟩:=hs
  dsimp only at hv he ⊢
  subst hv
  rcases Nat.lt_or_ge k l.length with hk2 | hk2
  rotate_left
  · have e:k=l.length:=by omega
    subst e
    rw [hend]
    refine Y.ret ?_
    rw [List.drop_length,qL] at he
    exact he.symm
  obtain ⟨o,e1,h1⟩:=hstep k hk2 q
  rw [DK x hk2] at he
  rw [e1]
  cases hf:vw x l[k] q with
  | none =>
    rw [hf] at h1 he
    obtain ⟨e,rfl,h2⟩:=h1
    exact Y.ret ⟨he.symm,h2⟩
  | some w =>
    rw [hf] at h1 he
    subst h1
    refine Y.ret ⟨⟨k+1,rfl,by omega,he⟩,?_⟩
    show ((l.length:Int) - ((k+1:Nat):Int)).toNat<((l.length:Int) - (k:Int)).toNat;omega
end
theorem F2 (x:Zl) (hx:VCase x) (n:Nat):∀ (r:Ze) (p:List Int),dt r=true→sD r≤n→Y (Irule_test_follow_F n (tt r) x p) (FR (vw x r p)):=by
 induction n with
 | zero=>intro r p _ hd;rw [km] at hd;omega
 | succ n ih =>
  intro r p hr hd
  obtain ⟨hl,ha,_⟩:=jJ hr
  have hargs:∀ k (hk:k<r.Args.length) p,Y (Irule_test_follow_F n (tt r.Args[k]) x p) (FR (vw x r.Args[k] p)):=fun k hk p=>ih _ p (ha _ (List.getElem_mem hk)) (by have:=ir (List.getElem_mem hk);omega)
  show Y (Irule_test_follow_B (Irule_test_follow_F n) (tt r) x p) _
  rw [FV,FW]
  have hml:(r.Args.map tt).length=r.Args.length:=List.length_map _
  have hmi:∀ k (hk:k<(r.Args.map tt).length),(r.Args.map tt)[k]=tt (r.Args[k]'(by omega)):=fun k hk=>by rw [List.getElem_map]
  cases h5:(r.Kind == 5)
  ·cases h6:(r.Kind == 6)
   ·show Y (fK ⟨r⟩ x p) _
    unfold fK
    rw [prog_holds hx hr,ba]
    simp only [bx]
    cases jj r x
    ·exact Y.ret rfl
    exact Y.ret rfl
   show Y (fJ (Irule_test_follow_F n) (r.Args.map tt) x p) _
   unfold fJ
   simp only [bx,bT]
   cases p with
   | nil=>exact Y.ret rfl
   | cons a t =>
    have e0:((((a::t).length:Nat):Int) == 0)=false:=by rw [beq_eq_false_iff_ne];simp <;> omega
    have ei:idx (a::t) 0=some a:=rfl
    have e6:(cond (!(a::t).isEmpty&&decide (0≤(a::t).headD 0)) (o5 x r.Args ((a::t).headD 0).toNat (a::t).tail) none)=cond (decide (0≤a)) (o5 x r.Args a.toNat t) none:=rfl
    rw [e0,e6]
    simp only [Bool.not_false,cj,ei,ba,Bool.false_or]
    by_cases hneg:a<0
    ·rw [det hneg,bD (show ¬ 0≤a by omega)]
     exact Y.ret rfl
    rw [bD hneg,det (show 0≤a by omega)]
    simp only [Bool.not_false,cj,ba,Bool.false_or,bT]
    obtain ⟨i,rfl⟩:∃ i:Nat,a=(i:Int):=⟨a.toNat,by omega⟩
    rw [Int.toNat_natCast,vx]
    by_cases hi:i<r.Args.length
    ·rw [bD (show ¬ (((r.Args.map tt).length:Nat):Int)≤(i:Int) by omega),bx,aD (show i<(r.Args.map tt).length by omega),ba,List.getElem?_eq_getElem hi,hmi i (by omega)]
     have hs:sub ((i:Int)::t) 1 ((((i:Int)::t).length:Nat):Int)=some t:=by
      have:=kE (xs:=(i:Int)::t) (a:=1) (b:=((i:Int)::t).length) (by simp) (Nat.le_refl _)
      rw [show ((1:Nat):Int)=1 from rfl] at this
      rw [this,List.take_length];rfl
     rw [hs,ba]
     exact (hargs i hi t).bind fun q hq=>Y.ret hq
    rw [det (show (((r.Args.map tt).length:Nat):Int)≤(i:Int) by omega),bT,List.getElem?_eq_none (by omega)]
    exact Y.ret rfl
  show Y (fk (Irule_test_follow_F n) (r.Args.map tt) x p) _
  unfold fk
  simp only [bT]
  refine Y.bind (CI (T:=Unit) (x:=x) (l:=r.Args) (by omega) (fun k hk q=>?_) (fun q=>?_) p) fun t ht=>?_
  ·rw [hml]
   simp only [gV hk,bT,aD (show k<(r.Args.map tt).length by omega),ba,bO hk (show r.Args.length≤4611686018427387904 by omega),hmi k (show k<(r.Args.map tt).length by omega)]
   refine (hargs k hk q).bind fun o ho=>?_
   cases hf:vw x r.Args[k] q with
   | none =>
    rw [hf] at ho
    rw [show o.2=false from ho]
    exact Y.ret ⟨([],false),rfl,rfl⟩
   | some w =>
    rw [hf] at ho
    rw [show o=(w,true) from ho]
    exact Y.ret rfl
  ·rw [hml];simp only [cJ,bx]
  cases t with
  | inl q=>dsimp only at ht ⊢;rw [ht];exact Y.ret rfl
  | inr e=>obtain ⟨h1,h2⟩:=ht;dsimp only;rw [h1];exact Y.ret h2
theorem Aw {r:Ze} {x:Zl} (hx:VCase x) (ok:ROk r) (hr:dt r=true) (hc:pn r≤32) (p:List Int):lq r x p=some (decide (vw x r p=some [])):=by
 have hd:=oQ r
 have hf:FUEL=1267650600228229401496703205376:=rfl
 unfold lq f8
 rw [n4 r ok (by omega),(kM r).2 ⟨hc,hr⟩,ba,show ((0:Int) == 0)=true from rfl,cj,qk hx,ba,ba]
 show Option.bind (il FUEL r) _=_
 rw [Aa FUEL r hr (by omega),ba]
 obtain ⟨t,e,h⟩:=F2 x hx FUEL r p hr (by omega)
 show Option.bind (Irule_test_follow_F FUEL (tt r) x p) _=_
 rw [e,ba,F1 h]
theorem Ax (x:Zl) (hx:VCase x) (n:Nat):∀ (r:Ze) (p:List Int),dt r=true→sD r≤1000→sD r≤n→Y (iH n r x p) (FR (vw x r p)):=by
 induction n with
 | zero=>intro r p _ _ hd;rw [km] at hd;omega
 | succ n ih =>
  intro r p hr h1000 hd
  obtain ⟨hl,ha,_⟩:=jJ hr
  have hargs:∀ k (hk:k<r.Args.length) p,Y (iH n r.Args[k] x p) (FR (vw x r.Args[k] p)):=fun k hk p=>ih _ p (ha _ (List.getElem_mem hk)) (by have:=ir (List.getElem_mem hk);omega) (by have:=ir (List.getElem_mem hk);omega)
  show Y (mL (iH n) r x p) _
  unfold mL
  rw [FW]
  cases h5:(r.Kind == 5)
  ·cases h6:(r.Kind == 6)
   ·simp only [bx]
    rw [w7 hx hr h1000,ba,yn,h5,h6]
    simp only [bx]
    cases jj r x
    ·exact Y.ret rfl
    exact Y.ret rfl
   simp only [bx,bT]
   cases p with
   | nil=>exact Y.ret rfl
   | cons a t =>
    have e0:((((a::t).length:Nat):Int) == 0)=false:=by rw [beq_eq_false_iff_ne];simp <;> omega
    have ei:idx (a::t) 0=some a:=rfl
    have e6:(cond (!(a::t).isEmpty&&decide (0≤(a::t).headD 0)) (o5 x r.Args ((a::t).headD 0).toNat (a::t).tail) none)=cond (decide (0≤a)) (o5 x r.Args a.toNat t) none:=rfl
    rw [e0,e6]
    simp only [Bool.not_false,cj,ei,ba,Bool.false_or]
    by_cases hneg:a<0
    ·rw [det hneg,bD (show ¬ 0≤a by omega)]
     exact Y.ret rfl
    rw [bD hneg,det (show 0≤a by omega)]
    simp only [Bool.not_false,cj,ba,Bool.false_or,bT]
    obtain ⟨i,rfl⟩:∃ i:Nat,a=(i:Int):=⟨a.toNat,by omega⟩
    rw [Int.toNat_natCast,vx]
    by_cases hi:i<r.Args.length
    ·rw [bD (show ¬ ((r.Args.length:Nat):Int)≤(i:Int) by omega),bx,aD hi,ba,List.getElem?_eq_getElem hi]
     have hs:sub ((i:Int)::t) 1 ((((i:Int)::t).length:Nat):Int)=some t:=by
      have:=kE (xs:=(i:Int)::t) (a:=1) (b:=((i:Int)::t).length) (by simp) (Nat.le_refl _)
      rw [show ((1:Nat):Int)=1 from rfl] at this
      rw [this,List.take_length];rfl
     rw [hs,ba]
     exact (hargs i hi t).bind fun q hq=>Y.ret hq
    rw [det (show ((r.Args.length:Nat):Int)≤(i:Int) by omega),bT,List.getElem?_eq_none (by omega)]
    exact Y.ret rfl
  simp only [bT]
  refine Y.bind (CI (T:=Unit) (x:=x) (l:=r.Args) (by omega) (fun k hk q=>?_) (fun q=>?_) p) fun t ht=>?_
  ·simp only [gV hk,bT,aD hk,ba,bO hk (show r.Args.length≤4611686018427387904 by omega)]
   refine (hargs k hk q).bind fun o ho=>?_
   cases hf:vw x r.Args[k] q with
   | none =>
    rw [hf] at ho
    rw [show o.2=false from ho]
    exact Y.ret ⟨([],false),rfl,rfl⟩
   | some w =>
    rw [hf] at ho
    rw [show o=(w,true) from ho]
    exact Y.ret rfl
  ·simp only [cJ,bx]
  cases t with
  | inl q=>dsimp only at ht ⊢;rw [ht];exact Y.ret rfl
  | inr e=>obtain ⟨h1,h2⟩:=ht;dsimp only;rw [h1];exact Y.ret h2
theorem BK {r:Ze} {x:Zl} (hx:VCase x) (hr:dt r=true) (hc:pn r≤32) (p:List Int):lX r x p=some (decide (vw x r p=some [])):=by
 have hd:=oQ r
 have hf:FUEL=1267650600228229401496703205376:=rfl
 unfold lX
 obtain ⟨t,e,h⟩:=Ax x hx FUEL r p hr (by omega) (by omega)
 show Option.bind (iH FUEL r x p) _=_
 rw [e,ba,F1 h]
theorem cf_ge (x y:Za):decide (0≤ma x y) = !bm x y:=by
 unfold ma bm
 rcases Int.lt_trichotomy x.Product y.Product with h | h | h
 ·rw [if_pos h];simp [h]
 ·simp only [h,Int.lt_irrefl,if_false,if_true,decide_false,decide_true,Bool.false_or,Bool.true_and]
  rcases Int.lt_trichotomy x.Agreement y.Agreement with h2 | h2 | h2
  ·rw [if_pos h2];simp [h2]
  ·simp [h2]
  rw [if_neg (by omega),if_pos h2,bD (show ¬ x.Agreement<y.Agreement by omega)];rfl
 have h1:¬ x.Product<y.Product:=by omega
 have h3:¬ x.Product=y.Product:=by omega
 simp [h,h1,h3]
theorem vL {α T:Type} (g:Nat→α→Option T):∀ (l:List α) (i:Nat) (t:T),cr g l i=some t→∃ k,∃ h:k<l.length,g (i+k) l[k]=some t
 | [],_,_,e=>by cases e
 | x::l,i,t,e=>by
  rw [cr] at e
  cases hg:g i x with
  | some u=>rw [hg] at e;exact ⟨0,by simp,by rw [← e];exact hg⟩
  | none =>
   rw [hg] at e
   obtain ⟨k,h,hk⟩:=vL g l (i+1) t e
   exact ⟨k+1,by simpa using h,by rw [show i+(k+1)=i+1+k by omega];simpa using hk⟩
theorem vM (a b:List Za) (ha:a.length≤140737488355328):bZ a b=some (decide (a=b)):=qQ a b ha
theorem Ay {plan:List Zc} {l:List Zb} (hv:VPs plan) (hl:VAs l) {imp:ByteArray} (m:List (Za×Bool)) {c:Za} (h:gU plan l imp c=true):df ⟨⟨m⟩,plan,l,imp⟩ c=some (mP plan l c):=by
 unfold df
 have hll:=hl.len
 rw [rU hv,ba]
 dsimp only
 refine (bA (l:=l) (by omega) (fun _ (a:Zb)=>cond (a.ID == c.Agreement) (some (.inr ((cM a (bE plan c.Product).Code).getD qP))) none) (.inl ()) (fun k hk=>?_) (by simp only [cJ,bx])).trans ?_
 ·simp only [gV hk,bT,aD hk,ba,bO hk (show l.length≤4611686018427387904 by omega)]
  cases (l[k].ID == c.Agreement)
  ·rfl
  simp only [bT]
  rw [qc _ _ (hl.all _ (List.getElem_mem hk)),ba,vo];rfl
 rw [iz (fun a:Zb=>a.ID == c.Agreement) (fun a=>(Sum.inr ((cM a (bE plan c.Product).Code).getD qP):Unit⊕Ze))]
 obtain ⟨a,ha⟩:=Option.isSome_iff_exists.1 (CA h)
 unfold mP jL
 rw [ha]
 unfold jK at ha
 rw [ha];rfl
theorem tC {plan:List Zc} {l:List Zb} {imp:ByteArray} (hl:VAs l) {c:Za} (h:gU plan l imp c=true):ROk (mP plan l c)∧dt (mP plan l c)=true∧pn (mP plan l c)≤32:=sJ hl (Ai h)
theorem Az (plan:List Zc) (l:List Zb) (imp:ByteArray) (c:Za) (S:CSet):Strict bm (ji plan l imp c S):=sF ordC _
theorem vN {plan:List Zc} {l:List Zb} (hv:VPs plan) (imp:ByteArray) {c:Za} (S:CSet) (h:gU plan l imp c=true):(ji plan l imp c S).length≤140737488355328:=by
 have:=z7 hv (l:=l) imp c S (ms h)
 omega
theorem BL {plan:List Zc} {l:List Zb} (hv:VPs plan) (hl:VAs l) (imp:ByteArray) (m:List (Za×Bool)) (K:CSet) (hK:∀ c,(eC m c).getD false=K c) (p:Zf) (hp:p.Premises.length≤140737488355328) :
    dm ⟨⟨m⟩,plan,l,imp⟩ p=some (i6 plan l imp K (kq p)):=by
  unfold dm
  have hhas:∀ c,dw ⟨m⟩ c=some (K c):=fun c=>by unfold dw;rw [hK]
  dsimp only
  rw [vm _ _ _ _ hv.sorted hl,ba,hhas]
  unfold i6 kq
  dsimp only
  cases hadm:gU plan l imp p.Claim with
  | false=>rfl
  | true =>
    simp only [Bool.not_true,Bool.not_false,cj,ba,Bool.false_or,Bool.true_and]
    cases hk:K p.Claim with
    | true=>rfl
    | false =>
      simp only [bx,Bool.not_false,Bool.true_and]
      refine (bA (l:=p.Premises) (by omega) (fun k x=>cond (K x&&(!decide (0<k)||bm (p.Premises.getD (k - 1) x) x)) none (some (.inr false))) (.inl ()) (fun k hk=>?_) (by simp only [cJ,bx])).trans ?_
      · simp only [gV hk,bT,aD hk,ba,bO hk (show p.Premises.length≤4611686018427387904 by omega),A9,hhas]
        cases hkx:K p.Premises[k]
        · rfl
        by_cases h0:0<k
        · simp only [h0,decide_true,Bool.not_true,Bool.not_false,Bool.true_and,cj,fD h0 hk (show p.Premises.length≤4611686018427387904 by omega),ba,Bc,cf_ge,Bool.false_or,fc (show k - 1<p.Premises.length by omega)]
          cases bm (p.Premises[k-1]'(by omega)) p.Premises[k] <;> rfl
        simp only [h0,decide_false,Bool.not_true,Bool.not_false,Bool.true_and,i7,ba,Bool.false_and,Bool.false_or,Bool.true_or,bx,bT];rfl
      cases hf:cr (fun k x=>cond (K x&&(!decide (0<k)||bm (p.Premises.getD (k - 1) x) x)) none (some (Sum.inr false:Unit⊕Bool))) p.Premises 0 with
      | none =>
        have hall:=tB _ _ _ hf
        have hKall:p.Premises.all K=true:=by
          rw [List.all_eq_true]
          intro x hx
          obtain ⟨k,hk,rfl⟩:=List.getElem_of_mem hx
          have:=hall k hk
          cases hc:K p.Premises[k] with
          | true=>rfl
          | false=>rw [hc] at this;cases this
        rw [hKall]
        simp only [Option.getD_none]
        rw [wZ hv hl imp _ _ hp,ba]
        unfold n8
        rw [hadm]
        simp only [bT]
        rw [vM _ _ (vN hv imp _ hadm),ba]
        cases hd:decide (ji plan l imp p.Claim (aO p.Premises)=p.Premises) with
        | false=>rfl
        | true =>
          simp only [Bool.not_true,bx,Bool.true_and]
          obtain ⟨k1,k2,k3⟩:=tC hl hadm
          rw [Ay hv hl m hadm,ba,Aw (o3 hv imp _ _ (ms hadm)) k1 k2 k3]
          rfl
      | some t =>
        obtain ⟨k,hk,hg⟩:=vL _ _ _ _ hf
        rw [Nat.zero_add] at hg
        have ht:t=.inr false∧(K p.Premises[k]&&(!decide (0<k)||bm (p.Premises.getD (k - 1) p.Premises[k]) p.Premises[k]))=false:=by
          cases hc:(K p.Premises[k]&&(!decide (0<k)||bm (p.Premises.getD (k - 1) p.Premises[k]) p.Premises[k])) with
          | true=>rw [hc] at hg;cases hg
          | false=>rw [hc] at hg;injection hg with hg;exact ⟨hg.symm,rfl⟩
        obtain ⟨rfl,hbad⟩:=ht
        have hfalse:(p.Premises.all K&&decide (ji plan l imp p.Claim (aO p.Premises)=p.Premises))=false:=by
          cases hc:(p.Premises.all K&&decide (ji plan l imp p.Claim (aO p.Premises)=p.Premises)) with
          | false=>rfl
          | true =>
            rw [Bool.and_eq_true] at hc
            have h1:=List.all_eq_true.1 hc.1 _ (List.getElem_mem hk)
            have h2:=Az plan l imp p.Claim (aO p.Premises)
            rw [of_decide_eq_true hc.2] at h2
            rw [h1,Bool.true_and] at hbad
            by_cases h0:0<k
            · rw [det h0,Bool.not_true,Bool.false_or,fc (show k - 1<p.Premises.length by omega)] at hbad
              have:=List.pairwise_iff_getElem.1 h2 (k - 1) k (by omega) hk (by omega)
              rw [this] at hbad;cases hbad
            rw [bD h0] at hbad;cases hbad
        rw [hfalse];rfl
theorem DL {plan:List Zc} {l:List Zb} (hv:VPs plan) (hl:VAs l) (imp:ByteArray) (set:List Za) (hs:set.length≤1000000) (p:Zf) (hp:p.Premises.length≤140737488355328) (v:Int) {β:Type}
    (K:List Za→Option (β⊕((List Zf)⊕(Int×Int)))) {Q:Unit⊕(β⊕((List Zf)⊕(Int×Int)))→Option (β⊕((List Zf)⊕(Int×Int)))}
    (hQ1:Q (.inl ())=Option.bind (hQ plan l imp p.Claim p.Premises) (fun x21=>Option.bind (fH plan p.Claim.Product) (fun x23=>Option.bind (fj l p.Claim.Agreement) (fun x25=>Option.bind (gm x25.1 x23.1.Code) (fun x27=>Option.bind (iR x21.2 p.Premises) (fun x29=>Option.bind (gd (!(!x29)) (lX x27.1 x21.1 p.Path)) (fun x30=>cond ((!x29)||(!x30)) (some (.inr (.inr (v,(10:Int))))) (Option.bind (fI set p.Claim) K)))))))) (hQ2:∀ e,Q (.inr e)=some e) :
    Option.bind (dL plan l imp p.Claim) (fun x11=>Option.bind (gd (!(!x11)) (dc set p.Claim)) (fun x12=>cond ((!x11)||x12) (some (.inr (.inr (v,(10:Int))))) (Option.bind (aN (S:=Int) (T:=(Unit)⊕(β⊕((List Zf)⊕(Int×Int)))) (fun v14=>cond (decide (v14<(p.Premises.length:Int))) (Option.bind (idx p.Premises v14) (fun m18=>Option.bind (dc set m18) (fun x19=>cond (!x19) (some (.inr (.inr (.inr (.inr (v,(10:Int))))))) (some (.inl (IntKind.i64.wrap (v14+1))))))) (some (.inr (.inl ())))) FUEL 0) Q)))
    = cond (i6 plan l imp (aO set) (kq p)) (K (ij bm set p.Claim)) (some (.inr (.inr (v,10)))):=by
  rw [yd _ _ _ _ (by have:=hv.len;omega) hl,ba]
  unfold i6 kq
  dsimp only
  cases hadm:gU plan l imp p.Claim with
  | false=>rfl
  | true =>
    simp only [Bool.not_true,Bool.not_false,cj,Bool.false_or,Bool.true_and,mi _ _ (show set.length≤140737488355328 by omega),ba]
    cases hk:aO set p.Claim with
    | true=>rfl
    | false =>
      simp only [bx,Bool.not_false,Bool.true_and]
      refine (bA (l:=p.Premises) (by omega) (fun _ x=>cond (!aO set x) (some (.inr (.inr (.inr (v,(10:Int)))))) none) (.inl ()) (fun k hk=>?_) (by simp only [cJ,bx])).trans ?_
      · simp only [gV hk,bT,aD hk,ba,bO hk (show p.Premises.length≤4611686018427387904 by omega)]
        cases aO set p.Premises[k] <;> rfl
      rw [iz (fun x:Za => !aO set x) (fun _=>(Sum.inr (Sum.inr (Sum.inr (v,(10:Int)))):Unit⊕(β⊕((List Zf)⊕(Int×Int)))))]
      cases hf:p.Premises.find? (fun x => !aO set x) with
      | some y =>
        have h1:=List.mem_of_find?_eq_some hf
        have h2:=List.find?_some hf
        have:p.Premises.all (aO set)=false:=by
          rw [List.all_eq_false]
          exact ⟨y,h1,by simpa using h2⟩
        rw [this]
        simp only [Option.map_some,Option.getD_some]
        rw [hQ2];rfl
      | none =>
        have hall:p.Premises.all (aO set)=true:=by
          rw [List.all_eq_true]
          intro y hy
          have:=List.find?_eq_none.1 hf y hy
          simpa using this
        rw [hall]
        simp only [Option.map_none,Option.getD_none]
        rw [hQ1]
        have hA:(jK l p.Claim.Agreement).isSome=true:=CA hadm
        obtain ⟨a,hfa⟩:=Option.isSome_iff_exists.1 hA
        have hva:=(mO hl hfa).1
        have hru:cM a (bE plan p.Claim.Product).Code=cM (jL l p.Claim.Agreement) (bE plan p.Claim.Product).Code:=by unfold jL;rw [hfa];rfl
        rw [z2 hv hl imp _ _ hp,ba,qF hv,ba,qC _ _ (by have:=hl.len;omega),ba,vo,hfa]
        dsimp only [Option.getD_some]
        rw [oV _ _ hva.ok.len,ba,vo,hru]
        unfold n8
        rw [hadm]
        simp only [bT]
        rw [qQ _ _ (vN hv imp _ hadm),ba]
        cases hd:decide (ji plan l imp p.Claim (aO p.Premises)=p.Premises) with
        | false=>rfl
        | true =>
          obtain ⟨k1,k2,k3⟩:=tC hl hadm
          simp only [Bool.not_true,Bool.not_false,cj,Bool.false_or,Bool.true_and]
          have hver:=BK (o3 (l:=l) hv imp p.Claim (aO p.Premises) (ms hadm)) k2 k3 p.Path
          unfold mP at hver ⊢
          rw [hver,ba]
          cases decide (vw (ly plan l imp p.Claim (aO p.Premises)) ((cM (jL l p.Claim.Agreement) (bE plan p.Claim.Product).Code).getD qP) p.Path=some [])
          · rfl
          simp only [Bool.not_true,bx,bT]
          rw [sG _ _ (by omega),ba]
def gB (plan:List Zc) (l:List Zb) (imp:ByteArray):List Za→List Prf→Nat→Int×Int
 | _,[],k=>((k:Int),0)
 | K,p::ps,k=>cond (i6 plan l imp (aO K) p) (gB plan l imp (K++[p.1]) ps (k+1)) ((k:Int),10)
theorem sP {plan:List Zc} {l:List Zb} {imp:ByteArray}:∀ (ps:List Prf) (K:List Za) (k:Nat),tz plan l imp K ps=true→gB plan l imp K ps k=(((k+ps.length:Nat):Int),0)
 | [],K,k,_=>by simp [gB]
 | p::ps,K,k,h=>by
  rw [tz,Bool.and_eq_true] at h
  rw [gB,h.1,bT,sP ps _ _ h.2,List.length_cons,show k+1+ps.length=k+(ps.length+1) by omega]
structure XSm (x:List Zf):Prop where
 len:x.length≤1000000
 prem:∀ p∈x,p.Premises.length≤140737488355328
theorem vO {x:List Zf} {k:Nat} (h:k<x.length):(x.take (k+1)).map (·.Claim)=(x.take k).map (·.Claim)++[x[k].Claim]:=by rw [xb h,List.map_append];rfl
theorem vP {plan:List Zc} {l:List Zb} {imp:ByteArray} {x:List Zf} {k:Nat} (h:k<x.length):gB plan l imp ((x.take k).map (·.Claim)) ((x.drop k).map kq) k=cond (i6 plan l imp (aO ((x.take k).map (·.Claim))) (kq x[k])) (gB plan l imp ((x.take (k+1)).map (·.Claim)) ((x.drop (k+1)).map kq) (k+1)) ((k:Int),10):=by
 rw [List.drop_eq_getElem_cons h,List.map_cons,gB,vO h];rfl
theorem BM {plan:List Zc} {l:List Zb} (hv:VPs plan) (hl:VAs l) {imp:ByteArray} (h1:cT plan=some 0) (h2:cS l=some 0) (h3:bQ imp=some true) {x:List Zf} (hx:XSm x):cw plan l imp x=some (gB plan l imp [] (x.map kq) 0):=by
 have key:Y (cw plan l imp x) (fun r=>r=gB plan l imp [] (x.map kq) 0):=by
  unfold cw
  have hlen:=hx.len
  rw [h1,ba,show ((0:Int) != 0)=false from rfl,bx,h2,ba,show ((0:Int) != 0)=false from rfl,bx,h3,ba,Bool.not_true,bx]
  refine Y.bind (P:=fun t=>match t with | .inl _=>gB plan l imp [] (x.map kq) 0=((x.length:Int),0) | .inr e=>e=gB plan l imp [] (x.map kq) 0) ?_ fun t ht=>?_
  ·refine Y.loop (fun s:Int×List (Za×Bool)=>∃ k:Nat,s.1=(k:Int)∧k≤x.length∧(∀ c,(eC s.2 c).getD false=aO ((x.take k).map (·.Claim)) c)∧gB plan l imp ((x.take k).map (·.Claim)) ((x.drop k).map kq) k=gB plan l imp [] (x.map kq) 0) (fun s=>(x.length - s.1).toNat) ⟨0,rfl,by omega,fun c=>rfl,rfl⟩ (by show ((x.length:Int) - 0).toNat≤_;omega) (fun s hs=>?_)
   obtain ⟨v,m⟩:=s
   obtain ⟨k,hvk,hk,hm,he⟩:=hs
   dsimp only at hvk hm he ⊢
   subst hvk
   rcases Nat.lt_or_ge k x.length with hk2 | hk2
   rotate_left
   ·have e:k=x.length:=by omega
    subst e
    rw [cJ,bx]
    rw [List.drop_length] at he
    exact Y.ret he.symm
   rw [gV hk2,bT,aD hk2,ba,BL hv hl imp m _ hm _ (hx.prem _ (List.getElem_mem hk2)),ba]
   rw [vP hk2] at he
   cases hr:i6 plan l imp (aO ((x.take k).map (·.Claim))) (kq x[k]) with
   | false=>rw [hr] at he;exact Y.ret he
   | true =>
    rw [hr,bT] at he
    simp only [Bool.not_true,bx]
    unfold fP
    rw [ba,bO hk2 (by omega)]
    refine Y.ret ⟨⟨k+1,rfl,by omega,fun c=>?_,he⟩,?_⟩
    ·dsimp only
     rw [sI,vO hk2]
     by_cases e:x[k].Claim=c
     ·rw [if_pos e]
      have:aO ((x.take k).map (·.Claim)++[x[k].Claim]) c=true:=dB.2 (List.mem_append.2 (.inr (by simp [e])))
      rw [this];rfl
     rw [if_neg e,hm,Bool.eq_iff_iff,dB,dB,List.mem_append,List.mem_singleton]
     exact ⟨.inl,fun h=>h.resolve_right fun h=>e h.symm⟩
    show ((x.length:Int) - ((k+1:Nat):Int)).toNat<((x.length:Int) - (k:Int)).toNat;omega
  cases t with
  | inl u=>exact Y.ret (show ((x.length:Int),(0:Int))=_ from Eq.symm ht)
  | inr e=>exact Y.ret ht
 obtain ⟨r,e,rfl⟩:=key
 exact e
theorem DM {plan:List Zc} {l:List Zb} (hv:VPs plan) (hl:VAs l) {imp:ByteArray} {w:List Zf} (h1:ll plan l imp=some (w,0)) {x:List Zf} (hx:XSm x):na plan l imp x=some (gB plan l imp [] (x.map kq) 0):=by
 have key:Y (na plan l imp x) (fun r=>r=gB plan l imp [] (x.map kq) 0):=by
  unfold na
  have hlen:=hx.len
  rw [h1,ba,show ((0:Int) != 0)=false from rfl,bx]
  refine Y.bind (P:=fun t=>match t with | .inl y=>y=x∧gB plan l imp [] (x.map kq) 0=((x.length:Int),0) | .inr e=>e=gB plan l imp [] (x.map kq) 0) ?_ fun t ht=>?_
  ·refine Y.loop (fun s:List Za×Int=>∃ k:Nat,s.2=(k:Int)∧k≤x.length∧s.1.length≤k∧(∀ c,aO s.1 c=aO ((x.take k).map (·.Claim)) c)∧gB plan l imp ((x.take k).map (·.Claim)) ((x.drop k).map kq) k=gB plan l imp [] (x.map kq) 0) (fun s=>(x.length - s.2).toNat) ⟨0,rfl,by omega,by simp,fun c=>rfl,rfl⟩ (by show ((x.length:Int) - 0).toNat≤_;omega) (fun s hs=>?_)
   obtain ⟨set,v⟩:=s
   obtain ⟨k,hvk,hk,hsl,hm,he⟩:=hs
   dsimp only at hvk hsl hm he ⊢
   subst hvk
   rcases Nat.lt_or_ge k x.length with hk2 | hk2
   rotate_left
   ·have e:k=x.length:=by omega
    subst e
    rw [cJ,bx]
    rw [List.drop_length] at he
    exact Y.ret ⟨rfl,he.symm⟩
   rw [gV hk2,bT,aD hk2,ba]
   have hms:aO set=aO ((x.take k).map (·.Claim)):=funext hm
   rw [vP hk2] at he
   refine Exists.intro (cond (i6 plan l imp (aO set) (kq x[k])) (.inl (ij bm set x[k].Claim,((k+1:Nat):Int))) (.inr (.inr ((k:Int),10)))) ⟨(DL hv hl imp set (by omega) x[k] (hx.prem _ (List.getElem_mem hk2)) (k:Int) _ rfl (fun _=>rfl)).trans ?_,?_⟩
   ·rw [bO hk2 (by omega)]
    cases i6 plan l imp (aO set) (kq x[k]) <;> rfl
   rw [hms]
   cases hr:i6 plan l imp (aO ((x.take k).map (·.Claim))) (kq x[k]) with
   | false=>rw [hr] at he;exact he
   | true =>
    rw [hr,bT] at he
    refine ⟨⟨k+1,rfl,by omega,?_,fun c=>?_,he⟩,?_⟩
    ·have:=lw (lt:=bm) set x[k].Claim;dsimp only;omega
    ·dsimp only
     rw [Bool.eq_iff_iff,dB,rQ,dB,vO hk2,List.mem_append,List.mem_singleton]
     have:=hm c
     rw [Bool.eq_iff_iff,dB,dB] at this
     rw [this]
     exact Or.comm
    show ((x.length:Int) - ((k+1:Nat):Int)).toNat<((x.length:Int) - (k:Int)).toNat;omega
  cases t with
  | inl u=>obtain ⟨rfl,h⟩:=ht;exact Y.ret (show ((u.length:Int),(0:Int))=_ from Eq.symm h)
  | inr e=>exact Y.ret ht
 obtain ⟨r,e,rfl⟩:=key
 exact e
theorem vQ {p:List Zc} {l:List Zb} {imp:ByteArray} (h1:MPs p) (h2:MAs l) (h3:imp∈C6) {x:List Zf} (hx:XSm x):cw p l imp x=some (gB p l imp [] (x.map kq) 0)∧na p l imp x=some (gB p l imp [] (x.map kq) 0):=by
 have hv:=h1.vps
 obtain ⟨_,s2⟩:=vH h1 h2 h3
 refine ⟨BM hv h2.vas (vG hv h1.vids) ?_ ?_ hx,DM hv h2.vas s2 hx⟩
 ·rw [zL l h2.ok,h2.valid]
 rw [kT,C6_ctry h3]
theorem xd {plan:List Zc} {l:List Zb} {imp:ByteArray}:∀ (ps:List Prf) (K:List Za),tz plan l imp K ps=true→(ps.map (·.1)).Nodup∧∀ p∈ps,p.1 ∉ K
 | [],_,_=>⟨by simp,fun p hp=>by cases hp⟩
 | q::ps,K,h=>by
  rw [tz,Bool.and_eq_true] at h
  obtain ⟨h1,h2⟩:=xd ps _ h.2
  have h3:q.1 ∉ K:=by
   have:=h.1
   unfold i6 at this
   simp only [Bool.and_eq_true,Bool.not_eq_true'] at this
   exact lv.1 this.1.1.1.2
  refine ⟨?_,fun p hp=>?_⟩
  ·rw [List.map_cons,List.nodup_cons]
   refine ⟨fun hm=>?_,h1⟩
   obtain ⟨p,hp,e⟩:=List.mem_map.1 hm
   exact h2 p hp (List.mem_append.2 (.inr (by simp [e])))
  rcases List.mem_cons.1 hp with rfl | hp
  ·exact h3
  exact fun hk=>h2 p hp (List.mem_append.2 (.inl hk))
theorem tD {ps:List Prf} (h:(ps.map (·.1)).Nodup) {k:Nat} (hk:k<ps.length):dK ps ps[k].1=some k:=by
 obtain ⟨j,h1,h2⟩:=qH hk
 obtain ⟨p,h3,h4⟩:=gY h1
 have hj:=(List.getElem?_eq_some_iff.1 h3).1
 have hpe:=(List.getElem?_eq_some_iff.1 h3).2
 rw [h1]
 rcases Nat.lt_or_ge j k with h5 | h5
 ·have hp:=List.pairwise_iff_getElem.1 h j k (by rw [List.length_map];exact hj) (by rw [List.length_map];exact hk) h5
  rw [List.getElem_map,List.getElem_map,hpe] at hp
  exact absurd h4 hp
 rw [show j=k by omega]
theorem r5 {α:Type} {P:Nat→Bool} {Q:α→Bool}:∀ (l:List α) (i:Nat),(∀ k,(h:k<l.length)→P (i+k)=Q l[k])→iu P l i=l.filter Q
 | [],_,_=>rfl
 | x::l,i,h=>by
  have h0:P i=Q x:=h 0 (by simp)
  have h1:iu P l (i+1)=l.filter Q:=r5 l (i+1) fun k hk=>by
   have e2:=h (k+1) (by simpa using hk)
   have e3:i+(k+1)=i+1+k:=by omega
   rw [e3] at e2
   simpa using e2
  rw [iu,h0,h1,List.filter_cons]
  cases Q x <;> rfl
theorem BN {plan:List Zc} {l:List Zb} {imp:ByteArray} {x:List Zf} (ho:tz plan l imp [] (x.map kq)=true) {c:Za} {P:Nat→Bool} (hT:TOk (x.map kq) c (fun i=>P i=true)):tz plan l imp [] ((iu P x 0).map kq)=true:=by
 have hnd:=(xd _ _ ho).1
 have hN:∀ d i,dK (x.map kq) d=some i→P i=true→Reach (x.map kq) c d:=fun d i hf hp=>by
  obtain ⟨d',h1,h2⟩:=(hT.1 i).1 hp
  obtain ⟨p,h3,h4⟩:=gY hf
  obtain ⟨p',h5,h6⟩:=gY h2
  rw [h3] at h5;injection h5 with h5
  rw [← h4,h5,h6];exact h1
 let N:CSet:=fun d=>match dK (x.map kq) d with | some i=>P i | none=>false
 have hNd:∀ d i,dK (x.map kq) d=some i→N d=P i:=fun d i h=>by show (match dK (x.map kq) d with | some i=>P i | none=>false)=_;rw [h]
 have hsub:=CC N (x.map kq) [] (fun p hp hNp d hd=>by
  obtain ⟨k,hk,rfl⟩:=List.getElem_of_mem hp
  have hf:=tD hnd hk
  rw [hNd _ _ hf] at hNp
  have hr:=hN _ _ hf hNp
  have hrd:Reach (x.map kq) c d:=.step hr hf (List.getElem?_eq_getElem hk) hd
  have hne:=hT.2 d hrd
  cases hfd:dK (x.map kq) d with
  | none=>exact absurd hfd hne
  | some j=>rw [hNd _ _ hfd];exact (hT.1 j).2 ⟨d,hrd,hfd⟩) ho
 have e:iu P x 0=x.filter fun p=>N p.Claim:=r5 x 0 fun k hk=>by
  have hk':k<(x.map kq).length:=by rw [List.length_map];exact hk
  have hf:=tD hnd hk'
  have e1:((x.map kq)[k]).1=x[k].Claim:=by rw [List.getElem_map];rfl
  rw [e1] at hf
  rw [hNd _ _ hf,Nat.zero_add]
 rw [e]
 have e2:(x.filter fun p=>N p.Claim).map kq=(x.map kq).filter fun p=>N p.1:=by
  rw [List.filter_map];rfl
 rw [e2]
 exact hsub
theorem DN {plan:List Zc} {l:List Zb} (hv:VPs plan) (hl:VAs l) (ha:AscA l) (imp:ByteArray):XSm ((ip plan l imp).map od):=by
 have h:=xc hv hl ha imp
 exact ⟨by have:=h.len;omega,fun p hp=>by have:=h.prem p hp;omega⟩
theorem o7 (m0 m1:List Int) (m2 m3:Int) {κ:Kr} {v0 v1 v2 v3:List Value} (_:Rps κ (eL eI m0) v0) (_:Rps κ (eL eI m1) v1) (_:Rps κ (eI m2) v2) (_:Rps κ (eI m3) v3):dA m0 m1 m2 m3=some true:=by
 have key:Y (dA m0 m1 m2 m3) (fun r=>r=true):=by
  unfold dA
  obtain ⟨p,e1,h1⟩:=plan_Y m0
  obtain ⟨l,e2,h2⟩:=xZ m1
  obtain ⟨imp,e4,h4⟩:=Bm m2
  rw [e1,ba,e2,ba,e4,ba]
  have hv:=h1.vps
  obtain ⟨s1,_⟩:=vH h1 h2 h4
  have hsm:=xc hv h2.vas h2.asc imp
  have hxs:=DN hv h2.vas h2.asc imp
  have hprem:=BI hv h2.asc imp
  have hok:=tA hv h2.asc imp
  have hps:((ip p l imp).map od).map kq=ip p l imp:=map_ofP _
  rw [s1,ba]
  rw [← hps] at hprem hok
  generalize (ip p l imp).map od=x at hsm hxs hprem hok
  have hlen:=hsm.len
  dsimp only
  rw [(vQ h1 h2 h4 hxs).1,ba,sP _ _ _ hok,List.length_map,Nat.zero_add]
  simp only [bne_self_eq_false,Bool.or_self,bx]
  refine Y.cond (fun _=>?_) (fun hc=>?_)
  ·rw [CH,ba];exact Y.ret rfl
  have hpos:0<x.length:=by
   rcases Nat.eq_zero_or_pos x.length with h | h
   ·rw [h] at hc;cases hc
   exact h
  refine (zM m3 (x.length:Int) (by omega) (by omega)).bind fun k hk=>?_
  obtain ⟨n,rfl⟩:∃ n:Nat,k=(n:Int):=⟨k.toNat,by omega⟩
  have hn:n<x.length:=by omega
  rw [aD hn,ba]
  obtain ⟨r,er,hr⟩:=DJ hsm x[n].Claim
  rw [er,ba]
  have hcl:(x.map kq).map (·.1)=x.map (·.Claim):=by rw [List.map_map];rfl
  have hin:x[n].Claim∈(x.map kq).map (·.1):=by rw [hcl];exact List.mem_map_of_mem (List.getElem_mem hn)
  obtain ⟨k1,k2⟩:=Av hsm hr
  rcases hr with ⟨P,hT,rfl⟩ | ⟨_,hE⟩
  ·have hright:=BN hok hT
   have hxr:XSm (iu P x 0):=⟨by dsimp only at k1;omega,fun q hq=>hxs.prem q (k2 q hq)⟩
   dsimp only
   rw [(vQ h1 h2 h4 hxr).1,ba,sP _ _ _ hright,List.length_map,Nat.zero_add]
   simp only [beq_self_eq_true,Bool.and_self,cj,CH,ba]
   exact Y.ret rfl
  exact (no_err hprem hin hE).elim
 obtain ⟨r,e,rfl⟩:=key
 exact e
def bd3:Nat→Int→Prop:=fun _ _=>True
theorem op3 {H:Type} {eh:TypeId×Value→H} {nb:Nat}:Opens eh nb 3 eI (bd3 nb):=Dm rfl
def bd22:Nat→(List Int)→Prop:=fun n l=>l.length*8≤140737488355328∧l.length≤n∧∀ x∈l,bd3 n x
theorem op22 {H:Type} {eh:TypeId×Value→H} {nb:Nat}:Opens eh nb 22 (eL eI) (bd22 nb):=zO rfl rfl rfl rfl op3
end SX
end Go.Proofs.YtgmbmepakpcpaaaGreatDoor
set_option maxRecDepth 100000
namespace Go.Proofs.YtgmbmepakpcpaaaGreatDoor
open Go Go.ChangeShapes Go.WideShapes Go.RowKit
open SX
theorem originCheckAccepts_lifted (os:Os) (started:os.Started) (H:Type) (enc:TypeId×Value→H) :
    ReturnsInHanded {} Tryz.checked os 11 .any (fun w args=>(Rows.originCheckAcceptsSpec.pre enc Tryz.prog Tryz.f11 [] false w args∧laidMetH Tryz.prog wO w)∧sizedMet enc Tryz.prog Tryz.f11 (OpenSpec.ofChange Rows.originCheckAcceptsSpec) false w args)
      (Rows.originCheckAcceptsSpec.post enc Tryz.prog Tryz.f11 false true false false):=by
  refine returnsInHanded_of_change_and (C:=Tryz.checked) (X:=fun w _=>laidMetH Tryz.prog wO w) (fun _ _ _ hh h=>h.of_heap hh) own_ok started (by kernel_rfl) Tryz.func11
    (ChangeSpec.witness_at (enc:=enc) (C:=Tryz.checked) (os:=os) (X:=fun w _=>laidMetH Tryz.prog wO w) false (laidWorld os) #[.slice none 0 0,.slice none 0 0,.int .i64 0,.int .i64 0] 8 rfl (by kernel_rfl) (by kernel_rfl) (by kernel_rfl) (by kernel_rfl) (by kernel_rfl) (wd os _)) ?_
  intro W base args ds gs before hval0 hW _ hwt hL _
  have hval:∀ (j:Nat) t v,Tryz.f11.params[j]?=some t→args[j]?=some v→Value.okWide Tryz.prog W .any base t v:=hval0
  have hW2:=hW
  obtain ⟨p,q,hA0,hV0,rfl,_,_⟩:=hW
  have hA:DataW.TrodAll enc Tryz.prog W 0 (fun _=>true) true [22,22,3,3] args.toList ds p:=hA0
  obtain ⟨rfl,rfl⟩:gs=[]∧q=[]:=by
    cases gs with
    | nil=>exact ⟨rfl,hV0⟩
    | cons g r=>exact absurd hV0 (by intro h;cases h)
  generalize hargs:args.toList=vs at hA
  have hval2:∀ (j:Nat) t v,[22,22,3,3][j]?=some t→vs[j]?=some v→Value.okWide Tryz.prog W .any base t v:=fun j t v h1 h2=>hval j t v (by rw [Tryz.params11];simpa using h1) (by rw [← hargs] at h2;simpa using h2)
  obtain ⟨v0,vs0,d0,ds0,p0,q0,rfl,rfl,h0,hA⟩:=SX.trodAll_cons hA
  obtain ⟨v1,vs1,d1,ds1,p1,q1,rfl,rfl,h1,hA⟩:=SX.trodAll_cons hA
  obtain ⟨v2,vs2,d2,ds2,p2,q2,rfl,rfl,h2,hA⟩:=SX.trodAll_cons hA
  obtain ⟨v3,vs3,d3,ds3,p3,q3,rfl,rfl,h3,hA⟩:=SX.trodAll_cons hA
  obtain ⟨rfl,rfl⟩:=SX.trodAll_nil hA
  have hw:(DataW.weightsEach Tryz.prog [22,22,3,3] [d0,d1,d2,d3]).all (· ≤ reachBytes)=true:=hwt
  obtain ⟨l0,hw⟩:=SX.light_head hw
  obtain ⟨m0,s0,b0⟩:=ub rfl rfl op22 (fun _=>⟨_,rfl⟩) (hval2 0 22 v0 rfl rfl) h0 l0 (Nat.le_refl _)
  obtain ⟨l1,hw⟩:=SX.light_head hw
  obtain ⟨m1,s1,b1⟩:=ub rfl rfl op22 (fun _=>⟨_,rfl⟩) (hval2 1 22 v1 rfl rfl) h1 l1 (Nat.le_refl _)
  obtain ⟨l2,hw⟩:=SX.light_head hw
  obtain ⟨m2,s2,b2⟩:=ub rfl rfl op3 (fun _=>⟨_,rfl⟩) (hval2 2 3 v2 rfl rfl) h2 l2 (Nat.le_refl _)
  obtain ⟨l3,hw⟩:=SX.light_head hw
  obtain ⟨m3,s3,b3⟩:=ub rfl rfl op3 (fun _=>⟨_,rfl⟩) (hval2 3 3 v3 rfl rfl) h3 l3 (Nat.le_refl _)
  exact FA (readB (by kernel_rfl)) rfl (bK rfl) rfl (by simp [Rows.originCheckAcceptsSpec]) hW2 (zQ hL) (by rw [hargs];exact (s0.app (s1.app (s2.app s3)))) (mh (o7 m0 m1 m2 m3 s0 s1 s2 s3))
theorem originCheckAccepts_holds:Rows.OriginCheckAcceptsSaid :=
 OpenClaim.holds_of_wide 11 Tryz.f11 rfl rfl rfl rfl rfl rfl rfl ⟨rfl,rfl,rfl,rfl,rfl⟩ rfl rfl rfl rfl rfl originCheckAccepts_named Tryz.func11 originCheckAccepts_closed
  (of_decide_eq_true (by kernel_rfl)) (by unfold Func.isWrapper;rw [if_neg (of_decide_eq_false (by kernel_rfl))];exact ⟨rfl,rfl⟩)
  (fun os started H enc _=>originCheckAccepts_lifted os started H enc)
theorem originCheckAccepts_card:Rows.OriginCheckAcceptsCardSaid :=
 Claim7.holds_tied_plain_at .later [] [.data,.data,.pinned] true (true, "d6724934cde0ef4b5d01703053d4c3277341bc42a1cf7659bfec0d43871970fd") true
  originCheckAccepts_holds (fun _ h=>by cases h) (by as_aux_lemma=>kernel_rfl) (fun _ h=>by cases h) originCheckAccepts_row_tie rfl ⟨rfl,rfl⟩ fp_main rfl
  (fun f fn hf hfn=>by
   obtain rfl:f=11:=Option.some.inj ((show Tryz.prog.funcNamed "customs/customslaw16.OriginCheckAccepts" = some 11 from originCheckAccepts_named).symm.trans hf) |>.symm
   obtain rfl:fn=Tryz.f11:=(Option.some.inj (Tryz.func11.symm.trans hfn)).symm
   exact ⟨fp_looks,fun j t ht=>by
    rw [Tryz.params11] at ht
    exact zR (by as_aux_lemma=>kernel_rfl) ht⟩)
  originCheckAccepts_goes
#print axioms originCheckAccepts_card
end Go.Proofs.YtgmbmepakpcpaaaGreatDoor
