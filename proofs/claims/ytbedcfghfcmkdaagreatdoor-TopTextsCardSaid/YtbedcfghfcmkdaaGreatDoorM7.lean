/- TopTexts: for every input the law returns true, and each argument reads afterwards as it read before. Conditions: the package variables are as the program's text lays them (the card ties them). -/
import Derived.Test.YtbedcfghfcmkdaaGreatDoorM6
import Derived.Test.YtbedcfghfcmkdaaGreatDoorL1q
open Bool (and_eq_true)
open Nat (le_refl)
open List (append_nil getElem_mem getElem_of_mem length_append length_cons length_map length_take map_append mem_cons nil_sublist not_mem_nil pairwise_singleton take_length)
open Go.IntKind (i64 u64 u8 u32 i32)
set_option linter.unusedVariables false
set_option linter.unusedSimpArgs false
set_option maxHeartbeats 4000000
set_option maxRecDepth 100000
namespace Go.Proofs.YtbedcfghfcmkdaaGreatDoor
namespace SX
open Go
theorem yu:∀ (p a b:List UInt8),Op.bytesLess (p++a) (p++b)=Op.bytesLess a b
 | [],_,_=>rfl
 | c::p,a,b=>by
  rw [List.cons_append,List.cons_append,Op.bytesLess,yu p a b];simp
theorem Eu {x y:UInt8} (h:x<y) (a b:List UInt8):Op.bytesLess (x::a) (y::b)=true:=by
 rw [Op.bytesLess];simp [h]
theorem lt_pre (p:List UInt8) (x:UInt8) (r:List UInt8):Op.bytesLess p (p++x::r)=true:=by
 have:=yu p [] (x::r)
 rw [append_nil] at this
 rw [this];rfl
def ELt (a b:Za):Prop:=Op.bytesLess (bs a.Code) (bs b.Code)=true\/(a.Code=b.Code/\a.From<b.From/\a.To<=b.From)
def vA (c:Xh) (d:Int) (p:Za):Int:=if p.Code=c/\p.From<=d/\d<p.To then p.To else d
def yO (c:Xh) (l:List Za) (d:Int):Int:=l.foldl (vA c) d
theorem covF_le (c:Xh) (d:Int) (p:Za):d<=vA c d p:=by unfold vA;split <;> omega
theorem AO (c:Xh):∀ (l:List Za) (d:Int),d<=yO c l d
 | [],d=>Int.le_refl d
 | p::l,d=>by
  show d<=yO c l (vA c d p)
  exact Int.le_trans (covF_le c d p) (AO c l _)
def Ve (l:List Za) (c:Xh) (T:Int):Prop:=∀ d,0<=d->T<=yO c l d
theorem Ve.app {l:List Za} {c:Xh} {T:Int} (h:Ve l c T) (a b:List Za):Ve (a++(l++b)) c T:=fun d hd=>by
 unfold yO
 rw [List.foldl_append,List.foldl_append]
 exact Int.le_trans (h _ (Int.le_trans hd (AO c a d))) (AO c b _)
theorem Ve.left {l:List Za} {c:Xh} {T:Int} (h:Ve l c T) (b:List Za):Ve (l++b) c T:=h.app [] b
theorem Ve.right {l:List Za} {c:Xh} {T:Int} (h:Ve l c T) (a:List Za):Ve (a++l) c T:=by
 have:=h.app a [];rwa [append_nil] at this
theorem Ve.less {l:List Za} {c:Xh} {T U:Int} (h:Ve l c T) (hU:U<=T):Ve l c U:=fun d hd=>Int.le_trans hU (h d hd)
theorem Ew {x:Za} (h:x.From=0):Ve [x] x.Code x.To:=fun d hd=>by
 show x.To<=vA x.Code d x
 unfold vA;split
 ·exact Int.le_refl _
 rename_i hn
 have:¬ (d<x.To):=fun hlt=>hn ⟨rfl,by omega,hlt⟩
 omega
theorem cvd_two {x y:Za} (hc:y.Code=x.Code) (h:y.From=0) (h2:x.From=y.To):Ve [y,x] x.Code x.To:=fun d hd=>by
 show x.To<=vA x.Code (vA x.Code d y) x
 have h3:y.To<=vA x.Code d y:=by
  have:=Ew h d hd
  rw [hc] at this;exact this
 generalize vA x.Code d y=d2 at h3
 unfold vA;split
 ·exact Int.le_refl _
 rename_i hn
 have:¬ (d2<x.To):=fun hlt=>hn ⟨rfl,by omega,hlt⟩
 omega
def Ex (e:Za):Xh:=eR ((bs e.Code).take ((bs e.Code).length - 2))
def FW (i:Nat):List UInt8:=[48,UInt8.ofNat (48+i)]
theorem kid_lt {i j:Nat} (h:i<j) (hj:j<10) (a b:List UInt8):Op.bytesLess (FW i++a) (FW j++b)=true:=by
 have e:∀ k a,FW k++a=[48]++(UInt8.ofNat (48+k)::a):=fun _ _=>rfl
 rw [e,e,yu]
 refine Eu ?_ _ _
 rw [UInt8.lt_iff_toNat_lt]
 simp;omega
structure Zz (c:List UInt8) (T:Int) (n:Nat) (l:List Za):Prop where
 e:∀ e∈l,Qe e
 t:∀ e∈l,e.To<=T
 pc:∀ e∈l,∃ w,bs e.Code=c++w
 o:l.Pairwise ELt
 p:∀ e∈l,bs e.Code=c\/Ve l (Ex e) e.To
 n:l.length<=n
structure Vf (c:List UInt8) (T X:Int) (k n:Nat) (l:List Za):Prop where
 e:∀ e∈l,Qe e
 t:∀ e∈l,e.To<=T
 pc:∀ e∈l,bs e.Code=c\/∃ i w,i<=k/\bs e.Code=c++(FW i++w)
 o:l.Pairwise ELt
 p:∀ e∈l,bs e.Code=c\/Ve l (Ex e) e.To
 x:Ve l (eR c) X
 n:l.length<=n
theorem Vf.next {c:List UInt8} {T X:Int} {k n m:Nat} {l t:List Za} (h:Vf c T X k n l) (hk:k<9) (ht:Zz (c++FW (k+1)) X m t) (hX:X<=T):Vf c T X (k+1) (n+m) (l++t) where
 e:=fun e he=>(List.mem_append.1 he).elim (h.e e) (ht.e e)
 t:=fun e he=>(List.mem_append.1 he).elim (h.t e) (fun he=>Int.le_trans (ht.t e he) hX)
 pc:=fun e he=>by
  rcases List.mem_append.1 he with he | he
  ·rcases h.pc e he with h1 | ⟨i,w,h1,h2⟩
   ·exact .inl h1
   exact .inr ⟨i,w,by omega,h2⟩
  obtain ⟨w,hw⟩:=ht.pc e he
  exact .inr ⟨k+1,w,le_refl _,by rw [hw,List.append_assoc]⟩
 o:=by
  refine List.pairwise_append.2 ⟨h.o,ht.o,fun a ha b hb=>.inl ?_⟩
  obtain ⟨w,hw⟩:=ht.pc b hb
  rw [hw,List.append_assoc]
  rcases h.pc a ha with h1 | ⟨i,v,h1,h2⟩
  ·rw [h1];exact lt_pre _ _ _
  rw [h2,yu];exact kid_lt (by omega) (by omega) _ _
 p:=fun e he=>by
  rcases List.mem_append.1 he with he | he
  ·exact (h.p e he).imp id fun h1=>h1.left t
  right
  rcases ht.p e he with h1 | h1
  ·have hp:Ex e=eR c:=by
    unfold Ex;rw [h1,length_append,show (FW (k+1)).length=2 from rfl,Nat.add_sub_cancel,List.take_left]
   rw [hp]
   exact (h.x.less (ht.t e he)).left t
  ·exact h1.right l
 x:=h.x.left t
 n:=by rw [length_append];have:=h.n;have:=ht.n;omega
theorem Vf.tree {c:List UInt8} {T X:Int} {k n:Nat} {l:List Za} (h:Vf c T X k n l):Zz c T n l where
 e:=h.e
 t:=h.t
 pc:=fun e he=>by
  rcases h.pc e he with h1 | ⟨i,w,_,h2⟩
  ·exact ⟨[],by rw [h1,append_nil]⟩
  exact ⟨_,h2⟩
 o:=h.o
 p:=h.p
 n:=h.n
theorem Zz.more {c:List UInt8} {T U:Int} {m n:Nat} {l:List Za} (h:Zz c T n l) (hU:T<=U) (hm:n<=m):Zz c U m l where
 e:=h.e
 t:=fun e he=>Int.le_trans (h.t e he) hU
 pc:=h.pc
 o:=h.o
 p:=h.p
 n:=Nat.le_trans h.n hm
theorem Ig {x:Za} (h:Qe x) (h0:x.From=0) {T:Int} (hT:x.To<=T):Vf (bs x.Code) T x.To 0 1 [x] where
 e:=fun e he=>by rw [List.mem_singleton.1 he];exact h
 t:=fun e he=>by rw [List.mem_singleton.1 he];exact hT
 pc:=fun e he=>by rw [List.mem_singleton.1 he];exact .inl rfl
 o:=pairwise_singleton _ _
 p:=fun e he=>by rw [List.mem_singleton.1 he];exact .inl rfl
 x:=Ew h0
 n:=le_refl 1
theorem Ih {x y:Za} (h:Qe x) (hy:Qe y) (hc:y.Code=x.Code) (h0:y.From=0) (h1:x.From=y.To) {T:Int} (hT:x.To<=T):Vf (bs x.Code) T x.To 0 2 [y,x] where
 e:=fun e he=>by
  rcases List.mem_cons.1 he with rfl | he
  ·exact hy
  rw [List.mem_singleton.1 he];exact h
 t:=fun e he=>by
  rcases List.mem_cons.1 he with rfl | he
  ·have:=h.ft;omega
  rw [List.mem_singleton.1 he];exact hT
 pc:=fun e he=>by
  rcases List.mem_cons.1 he with rfl | he
  ·exact .inl (by rw [hc])
  rw [List.mem_singleton.1 he];exact .inl rfl
 o:=by
  refine List.pairwise_cons.2 ⟨fun e he=>?_,pairwise_singleton _ _⟩
  rw [List.mem_singleton.1 he]
  exact .inr ⟨hc,by have:=hy.ft;omega,by omega⟩
 p:=fun e he=>by
  rcases List.mem_cons.1 he with rfl | he
  ·exact .inl (by rw [hc])
  rw [List.mem_singleton.1 he];exact .inl rfl
 x:=cvd_two hc h0 h1
 n:=le_refl 2
def V9:List Xh:=[(⟨#[99,104,97,105,114]⟩:Xh),(⟨#[100,101,115,107]⟩:Xh),(⟨#[103,108,97,115,115]⟩:Xh),(⟨#[108,97,109,112]⟩:Xh),(⟨#[111,102,102,105,99,101]⟩:Xh),(⟨#[112,97,114,116,115]⟩:Xh),(⟨#[115,101,97,116]⟩:Xh),(⟨#[115,116,101,101,108]⟩:Xh),(⟨#[119,111,111,100]⟩:Xh)]
theorem V9_ok:V9.all mX=true/\qO uS V9=true:=⟨by kernel_rfl,by kernel_rfl⟩
theorem Ii:lD=some V9:=rfl
theorem ltS_tr (x y z:Xh) (h1:uS x y=true) (h2:uS y z=true):uS x z=true:=by
 rw [xQ] at *;exact det (List.lt_trans (of_decide_eq_true h1) (of_decide_eq_true h2))
theorem uK:∀ l:List Xh,qO uS l=true↔l.Pairwise (fun a b=>uS a b=true)
 | []=>by simp [qO]
 | [a]=>by simp [qO]
 | a::b::l=>by
  rw [qO,and_eq_true,uK (b::l)]
  constructor
  ·rintro ⟨h1,h2⟩
   refine List.pairwise_cons.2 ⟨fun c hc=>?_,h2⟩
   rcases List.mem_cons.1 hc with rfl | hc
   ·exact h1
   exact ltS_tr _ _ _ h1 ((List.pairwise_cons.1 h2).1 c hc)
  intro h;obtain ⟨h1,h2⟩:=List.pairwise_cons.1 h;exact ⟨h1 b (by simp),h2⟩
theorem uM {α:Type} {l C:List α} {v:Nat} (h:l.Sublist (C.take v)) (hv:v<C.length):(l++[C[v]]).Sublist (C.take (v+1))/\l.Sublist (C.take (v+1)):=by
 rw [take_succ' hv]
 exact ⟨h.append (List.Sublist.refl _),h.trans (List.sublist_append_left _ _)⟩
theorem vB {l C:List Xh} (hC:C.all mX=true/\qO uS C=true) (h:l.Sublist C) (h8:l.length<=8):sd l=true:=by
 unfold sd
 simp only [and_eq_true,decide_eq_true_eq]
 exact ⟨h8,List.all_eq_true.2 fun s hs=>List.all_eq_true.1 hC.1 s (h.subset hs),(uK _).2 (List.Pairwise.sublist h ((uK _).1 hC.2))⟩
theorem Ey (v:Nat):sN (v:Int)=some ():=by unfold sN;rw [if_pos (by omega)]
theorem uN {p:Zg} (hp:Pb p) {n:Int} (hn:n<=4) (h1:1<=n):Y (dW p n) (fun r=>Pc r.1/\Pb r.2):=by
 have h9:V9.length=9:=rfl
 unfold dW
 rw [aR Ii]
 refine (dD hp 512 (by omega) (by omega)).bind fun a ⟨a1,a2,a3⟩=>?_
 refine Y.bind (P:=fun l:List Xh=>l.Sublist V9/\l.length<=4) (Y.loop (fun s:List Xh×Int=>∃ v:Nat,s.2=(v:Int)/\v<=9/\s.1.Sublist (V9.take v)/\s.1.length<=4) (fun s=>(9 - s.2).toNat) ⟨0,rfl,by omega,List.Sublist.refl _,by simp⟩ (by dsimp only;omega) ?_) (fun l hl=>?_)
 ·rintro ⟨l,i⟩ ⟨v,hv0,h2,h3,h4⟩
  dsimp only at hv0 h3 h4 ⊢
  subst hv0
  refine Y.cond (fun hc=>?_) (fun _=>Y.ret ⟨h3.trans (List.take_sublist _ _),h4⟩)
  simp only [and_eq_true,decide_eq_true_eq] at hc
  have hv:v<V9.length:=by omega
  have hs:=uM h3 hv
  have hw:i64.wrap ((v:Int)+1)=((v+1:Nat):Int):=cI hv (by omega)
  refine Y.bind (P:=fun m:List Xh=>m.Sublist (V9.take (v+1))/\m.length<=4) (Y.eq (Ey v) (Y.cond (fun _=>?_) (fun _=>Y.ret ⟨hs.2,h4⟩))) (fun m hm=>?_)
  ·rw [aR (bf hv),aR (cF (by simp;omega) (by simp;omega))]
   exact Y.ret ⟨hs.1,by simp;omega⟩
  exact Y.ret ⟨⟨v+1,hw,by omega,hm⟩,by dsimp only;rw [hw];omega⟩
 refine Y.bind (P:=fun w:List Xh=>Pc w) (Y.cond (fun _=>?_) (fun hc=>?_)) (fun w hw=>Y.ret ⟨hw,a3⟩)
 ·rw [aR (zm (by decide))]
  obtain ⟨w,h5,h6⟩:=uJ (P:=fun x=>x∈V9) (l:=V9) (i:=Int.tmod a.1 (V9.length:Int)) (Int.tmod_nonneg _ a1) (Int.tmod_lt_of_pos _ (by decide)) (fun _ hx=>hx)
  rw [aR h5]
  exact Y.ret ⟨vB V9_ok (List.singleton_sublist.2 h6) (by simp),by simp⟩
 refine Y.ret ⟨vB V9_ok hl.1 (by have:=hl.2;omega),fun hn=>?_⟩
 rw [hn] at hc;cases hc
theorem Ez {p:Zg} (hp:Pb p):Y (gE p) (fun r=>(1<=r.1.length/\r.1.length<=2/\∀ t∈r.1,Pc t)/\Pb r.2):=by
 unfold gE
 refine (uN hp (by omega) (by omega)).bind fun a ⟨a1,a2⟩=>?_
 refine (dD a2 3 (by omega) (by omega)).bind fun b ⟨_,_,b3⟩=>?_
 refine Y.bind (P:=fun q:List (List Xh)×List Int×Int=>(1<=q.1.length/\q.1.length<=2/\∀ t∈q.1,Pc t)/\Pb ⟨q.2.1,q.2.2⟩) (Y.cond (fun _=>?_) (fun _=>?_)) (fun q hq=>Y.ret hq)
 ·refine (uN b3 (by omega) (by omega)).bind fun c ⟨c1,c2⟩=>?_
  rw [aR (cF (by simp) (by simp))]
  refine Y.ret ⟨⟨by simp,by simp,fun t ht=>?_⟩,c2⟩
  rcases List.mem_append.1 ht with ht | ht
  ·rw [List.mem_singleton.1 ht];exact a1
  rw [List.mem_singleton.1 ht];exact c1
 refine Y.ret ⟨⟨by simp,by simp,fun t ht=>?_⟩,b3⟩
 rw [List.mem_singleton.1 ht];exact a1
def DG (c:List UInt8):Prop:=∀ b∈c,mQ b
theorem Co {c:List UInt8} (hd:DG c) (hl:c.length=2\/c.length=4\/c.length=6\/c.length=8):eQ (eR c)=(c.length:Int):=by
 have hs:=cG c
 unfold eQ
 rw [if_pos,hs]
 refine ⟨by omega,?_⟩
 unfold rU bl
 rw [List.all_eq_true]
 intro b hb
 have:=hd b hb
 unfold mQ at this
 simp [nQ];omega
theorem kid_dig {c:List UInt8} (h:DG c) {i:Nat} (hi:i<10):DG (c++FW i):=fun b hb=>by
 rcases List.mem_append.1 hb with hb | hb
 ·exact h b hb
 unfold FW at hb
 simp only [mem_cons,not_mem_nil,or_false] at hb
 rcases hb with rfl | rfl
 ·unfold mQ;decide
 unfold mQ;rw [np hi];omega
structure Shp (n:Nat) (t:List (List Xh)) (o:Bool):Prop where
 l:t.length<=2
 w:∀ x∈t,Pc x
 s:(cond ((n:Int) == 2) ((decide (0<(t.length:Int)))||o) (cond ((n:Int) == 4) ((!(decide (0<(t.length:Int))))||o) ((decide (0<(t.length:Int))) == o)))=false
theorem AP {c:List UInt8} (hd:DG c) (hl:c.length=2\/c.length=4\/c.length=6\/c.length=8) {t:List (List Xh)} {o:Bool} (h:Shp c.length t o) {F X:Int} (h0:0<=F) (h1:F<X) (h2:X<=36525):Qe (⟨eR c,F,X,t,o⟩:Za) where
 lvl:=by show eQ (eR c)≠0;rw [Co hd hl];omega
 f0:=h0
 ft:=h1
 t1:=h2
 tl:=by have:=h.l;show t.length<=6;omega
 tw:=h.w
 sh:=by
  have:=h.s
  show (cond (eQ (eR c) == 2) _ (cond (eQ (eR c) == 4) _ _))=false
  rw [Co hd hl];exact this
def cntT:Nat->Nat
 | 0=>2
 | k+1=>2+3*cntT k
theorem yv {c:List UInt8} (hd:DG c) (hl:c.length=2\/c.length=4\/c.length=6\/c.length=8) {T:Int} (hT:1<=T) (hT2:T<=36525) {m:Nat} (hm:m<=90) {rec:Zg->Xh->Int->Option ((List Za)×Zg)} (hrec:c.length≠8->∀ (p:Zg) (i:Nat) (X:Int),Pb p->1<=i->i<=3->1<=X->X<=36525->Y (rec p (eR (c++FW i)) X) (fun r=>Zz (c++FW i) X m r.1/\Pb r.2)) {p:Zg} (hp:Pb p):Y (gS rec p (eR c) T) (fun r=>Zz c T (2+3*m) r.1/\Pb r.2):=by
 unfold gS
 rw [cG]
 refine Y.bind (P:=fun q:List Int×Int×List (List Xh)=>Pb ⟨q.1,q.2.1⟩/\(c.length=2->q.2.2=[])/\(c.length≠2->1<=q.2.2.length/\q.2.2.length<=2/\∀ t∈q.2.2,Pc t)) (Y.cond (fun hc=>?_) (fun hc=>?_)) (fun q1 hq1=>?_)
 ·have hc:=of_decide_eq_true hc
  refine (Ez hp).bind fun a ⟨a1,a2⟩=>Y.ret ⟨a2,fun h2=>by omega,fun _=>a1⟩
 ·have hc:=of_decide_eq_false hc
  exact Y.ret ⟨hp,fun _=>rfl,fun h2=>by omega⟩
 obtain ⟨l2,v3,l4⟩:=q1
 obtain ⟨s1,s2,s3⟩:=hq1
 dsimp only at s1 s2 s3 ⊢
 refine Y.bind (P:=fun x:Int×Zg=>Pb x.2) ?_ (fun x8 hx8=>?_)
 ·unfold gdp
  refine Y.cond (fun _=>?_) (fun _=>Y.ret s1)
  refine (dD s1 3 (by omega) (by omega)).mono fun a ha=>ha.2.2
 refine Y.bind (P:=fun q:List (List Xh)×Bool=>Shp c.length q.1 q.2) (Y.cond (fun hc=>?_) (fun hc=>?_)) (fun q2 hq2=>?_)
 ·simp only [and_eq_true,decide_eq_true_eq] at hc
  refine Y.ret ⟨by simp,by simp,?_⟩
  dsimp only
  rw [beq_false_of_ne (show (c.length:Int)≠2 by omega),beq_false_of_ne (show (c.length:Int)≠4 by omega)];rfl
 ·refine Y.ret ?_
  dsimp only
  by_cases h2:c.length=2
  ·rw [s2 h2,h2];exact ⟨by simp,by simp,rfl⟩
  obtain ⟨t1,t2,t3⟩:=s3 h2
  refine ⟨t2,t3,?_⟩
  rw [beq_false_of_ne (show (c.length:Int)≠2 by omega),det (show 0<(l4.length:Int) by omega)]
  cases ((c.length:Int) == 4) <;> rfl
 obtain ⟨l9,v10⟩:=q2
 dsimp only at hq2 ⊢
 refine Y.bind (P:=fun q:List Za×List Int×Int×Int×Int=>Pb ⟨q.2.1,q.2.2.1⟩/\q.2.2.2.2<=T/\1<=q.2.2.2.2/\((q.1=[]/\q.2.2.2.1=0)\/∃ y,q.1=[y]/\Qe y/\y.Code=eR c/\y.From=0/\y.To=10/\q.2.2.2.1=10/\12<q.2.2.2.2)) (Y.cond (fun hc=>?_) (fun _=>Y.ret ⟨hx8,Int.le_refl _,hT,.inl ⟨rfl,rfl⟩⟩)) (fun q3 hq3=>?_)
 ·simp only [and_eq_true,decide_eq_true_eq] at hc
  refine (dD hx8 6 (by omega) (by omega)).bind fun a ⟨_,_,a3⟩=>?_
  refine Y.cond (fun _=>?_) (fun _=>Y.cond (fun _=>Y.ret ⟨a3,by dsimp only;omega,by dsimp only;omega,.inl ⟨rfl,rfl⟩⟩) (fun _=>Y.ret ⟨a3,Int.le_refl _,hT,.inl ⟨rfl,rfl⟩⟩))
  refine (Ez a3).bind fun b ⟨⟨b1,b2,b3⟩,b4⟩=>?_
  rw [aR (cF (by simp) (by simp))]
  refine Y.ret ⟨b4,Int.le_refl _,hT,.inr ⟨_,rfl,AP hd hl ⟨b2,b3,?_⟩ (by omega) (by omega) (by omega),rfl,rfl,rfl,rfl,hc.2⟩⟩
  rw [beq_false_of_ne (show (c.length:Int)≠2 by omega),det (show 0<(b.1.length:Int) by omega)]
  cases ((c.length:Int) == 4) <;> rfl
 obtain ⟨l16,l17,v18,F,X⟩:=q3
 obtain ⟨r1,r2,r3,r4⟩:=hq3
 dsimp only at r1 r2 r3 r4 ⊢
 have hx:Qe (⟨eR c,F,X,l9,v10⟩:Za):=by
  rcases r4 with ⟨_,r4⟩ | ⟨y,_,_,_,_,_,r4,r5⟩
  ·exact AP hd hl hq2 (by omega) (by omega) (by omega)
  exact AP hd hl hq2 (by omega) (by omega) (by omega)
 have hg:Vf c T X 0 2 (l16++[(⟨eR c,F,X,l9,v10⟩:Za)]):=by
  rcases r4 with ⟨rfl,rfl⟩ | ⟨y,rfl,y1,y2,y3,y4,rfl,y5⟩
  ·have:=Ig hx rfl (T:=T) r2
   exact ⟨this.e,this.t,this.pc,this.o,this.p,this.x,Nat.le_succ 1⟩
  exact Ih (x:=(⟨eR c,10,X,l9,v10⟩:Za)) hx y1 y2 y3 y4.symm r2
 have hlen:=hg.n
 have hlen2:l16.length<=1:=by rw [length_append,List.length_singleton] at hlen;omega
 rw [aR (cF (by rw [List.length_singleton];omega) (by rw [List.length_singleton];omega))]
 generalize l16++[(⟨eR c,F,X,l9,v10⟩:Za)]=l37 at hg
 refine Y.cond (fun _=>Y.ret ⟨hg.tree.more (Int.le_refl _) (by omega),r1⟩) (fun h8=>?_)
 have h8:c.length≠8:=fun h=>by rw [h] at h8;cases h8
 refine (dD r1 4 (by omega) (by omega)).bind fun x42 ⟨x1,x2,x3⟩=>?_
 refine Y.bind (P:=fun q:List Za×List Int×Int=>Zz c T (2+3*m) q.1/\Pb ⟨q.2.1,q.2.2⟩) (Y.loop (fun s:List Za×Int×List Int×Int=>∃ k:Nat,s.2.1=(k:Int)+1/\k<=3/\Vf c T X k (2+k*m) s.1/\Pb ⟨s.2.2.1,s.2.2.2⟩) (fun s=>(5 - s.2.1).toNat) ⟨0,rfl,by omega,by rw [Nat.zero_mul];exact hg,x3⟩ (by dsimp only;omega) ?_) (fun q hq=>Y.ret hq)
 rintro ⟨l44,v47,l48,v49⟩ ⟨k,hk,k1,k2,k3⟩
 dsimp only at hk k2 k3 ⊢
 subst hk
 refine Y.cond (fun hc=>?_) (fun _=>Y.ret ⟨k2.tree.more (Int.le_refl _) (Nat.add_le_add_left (Nat.mul_le_mul_right _ k1) _),k3⟩)
 have hc:=of_decide_eq_true hc
 have h48:(⟨#[48]⟩:Xh).size=1:=rfl
 have hcs:=cG c
 have e1:strOfNums [u8.wrap (i64.wrap (48+((k:Int)+1)))]=eR [UInt8.ofNat (48+(k+1))]:=by
  rw [ee (by omega) (by omega),sy (by omega)]
  have:(48+((k:Int)+1)).toNat=48+(k+1):=by omega
  unfold strOfNums eR
  rw [List.map_singleton,this]
 have h1s:(eR [UInt8.ofNat (48+(k+1))]).size=1:=by rw [cG];rfl
 have e2:eR c++(⟨#[48]⟩:Xh)++eR [UInt8.ofNat (48+(k+1))]=eR (c++FW (k+1)):=by
  apply iC
  rw [fy,fy,da,da,da,List.append_assoc];rfl
 rw [aR (e8 (by omega)),e1,aR (e8 (by rw [dn];omega)),e2]
 refine (hrec h8 ⟨l48,v49⟩ (k+1) X k3 (by omega) (by omega) r3 (by omega)).bind fun x63 ⟨t1,t2⟩=>?_
 have hn1:=k2.n
 have hn2:=t1.n
 have hkm:k*m<=3*m:=Nat.mul_le_mul_right _ k1
 rw [aR (cF (by omega) (by omega))]
 have hw:i64.wrap (((k:Int)+1)+1)=((k+1:Nat):Int)+1:=by rw [ee (by omega) (by omega)];omega
 refine Y.ret ⟨⟨k+1,hw,by omega,?_,t2⟩,by dsimp only;rw [hw];omega⟩
 have:=k2.next (by omega) t1 r2
 rw [show 2+(k+1)*m=2+k*m+m by rw [Nat.add_mul];omega]
 exact this
theorem cntT_le:∀ k,k<=3->cntT k<=80:=by decide
theorem EA:∀ (k N:Nat),k<N->k<=3->∀ (c:List UInt8),c.length+2*k=8->DG c->∀ (p:Zg),Pb p->∀ T:Int,1<=T->T<=36525->Y (ld N p (eR c) T) (fun r=>Zz c T (cntT k) r.1/\Pb r.2)
 | 0,N,hN,_,c,hc,hd,p,hp,T,h1,h2=>by
  obtain ⟨N,rfl⟩:∃ M,N=M+1:=⟨N - 1,by omega⟩
  exact (yv hd (by omega) h1 h2 (m:=0) (by omega) (fun h=>absurd (by omega) h) hp).mono fun r hr=>⟨hr.1.more (Int.le_refl _) (le_refl 2),hr.2⟩
 | k+1,N,hN,hk,c,hc,hd,p,hp,T,h1,h2=>by
  obtain ⟨N,rfl⟩:∃ M,N=M+1:=⟨N - 1,by omega⟩
  have hm:=cntT_le k (by omega)
  refine yv hd (by omega) h1 h2 (m:=cntT k) (by omega) (fun _ q i X hq i1 i2 X1 X2=>?_) hp
  exact EA k N (by omega) (by omega) (c++FW i) (by rw [length_append,show (FW i).length=2 from rfl];omega) (kid_dig hd (by omega)) q hq X X1 X2
theorem AQ:∀ a:List UInt8,Op.bytesLess a a=false
 | []=>rfl
 | c::a=>by rw [Op.bytesLess,AQ a];simp
theorem Ij {a b:Za} (h:ELt a b):eg a b=some 0:=by
 unfold eg fD
 rw [fP,fP]
 have hc:dF (⟨a.Code,a.From⟩:Zj) (⟨b.Code,b.From⟩:Zj)=some (-1):=by
  unfold dF
  have he:Zj.eqb (⟨a.Code,a.From⟩:Zj) (⟨b.Code,b.From⟩:Zj)=false:=by
   cases hq:Zj.eqb (⟨a.Code,a.From⟩:Zj) (⟨b.Code,b.From⟩:Zj)
   ·rfl
   exfalso
   have:=Zj.eqb_iff.1 hq
   injection this with h1 h2
   rcases h with h | ⟨_,h,_⟩
   ·rw [h1,AQ] at h;cases h
   omega
  rw [he,dq]
  dsimp only
  rcases h with h | ⟨h1,h2,h3⟩
  ·have hne:a.Code≠b.Code:=fun hn=>by rw [hn,AQ] at h;cases h
   rw [bz hne,Bool.not_false,cQ]
   unfold jD jo
   rw [det rfl,det rfl,fP,fP,Bool.not_true,dq,dq,ByteArray.toList_eq,ByteArray.toList_eq,show Op.bytesLess a.Code.data.toList b.Code.data.toList=true from h];rfl
  rw [det h1,Bool.not_true,dq]
  unfold eo jc
  rw [bne_self_eq_false,bne_self_eq_false,fP,fP,dq,dq,det h2];rfl
 rw [hc,fP,show decide ((0:Int) <= -1)=false from rfl,dq]
 have:(decide (a.Code=b.Code)&&decide (b.From<a.To))=false:=by
  rcases h with h | ⟨h1,h2,h3⟩
  ·have hne:a.Code≠b.Code:=fun hn=>by rw [hn,AQ] at h;cases h
   rw [bz hne];rfl
  rw [bz (show ¬ b.From<a.To by omega),Bool.and_false]
 rw [this];rfl
theorem FX (c:Xh) (l:List Za) (e:Za) (d:Int):yO c (l++[e]) d=vA c (yO c l d) e:=by
 unfold yO;rw [List.foldl_append];rfl
theorem FY {b:Zh} (hl:b.Entries.length<=300) {e:Za} (he:Qe e) (h:e.Code.size=2\/Ve b.Entries (Ex e) e.To):fE b e=some true:=by
 unfold fE
 have hc:=(mj he.lvl).1
 by_cases h2:e.Code.size=2
 ·rw [h2];rfl
 have hcv:Ve b.Entries (Ex e) e.To:=h.elim (fun h=>absurd h h2) id
 rw [beq_false_of_ne (show (e.Code.size:Int)≠2 by omega),dq]
 have h3:i64.wrap ((e.Code.size:Int) - 2)=((e.Code.size - 2:Nat):Int):=by rw [ee (by omega) (by omega)];omega
 rw [h3,aR (vy (by omega))]
 have hp:eR ((bs e.Code).take (e.Code.size - 2))=Ex e:=by unfold Ex;rw [dK]
 rw [hp]
 refine (aR (dt (fun k=>(yO (Ex e) (b.Entries.take k) e.From,(k:Int))) b.Entries.length (by omega) (yO (Ex e) b.Entries e.From) (fun k hk=>?_) ?_)).trans ?_
 ·dsimp only
  rw [mr hk,cQ,aR (bf hk),cI hk (by omega),take_succ' hk,FX]
  generalize yO (Ex e) (List.take k b.Entries) e.From=d
  generalize b.Entries[k]=x
  unfold vA
  by_cases q1:x.Code=Ex e
  ·by_cases q2:x.From<=d
   ·by_cases q3:d<x.To
    ·rw [if_pos ⟨q1,q2,q3⟩,det q1,det q2,det q3];rfl
    rw [if_neg (fun q=>q3 q.2.2),bz q3,Bool.and_false];rfl
   rw [if_neg (fun q=>q2 q.2.1),bz q2,Bool.and_false];rfl
  rw [if_neg (fun q=>q1 q.1),bz q1];rfl
 ·dsimp only;rw [fO,take_length];rfl
 (try dsimp only)
 rw [det (hcv e.From he.f0)]
theorem book_ok {l:List Za} {ns:List Ze} (he:∀ e∈l,Qe e) (ho:l.Pairwise ELt) (hp:∀ e∈l,e.Code.size=2\/Ve l (Ex e) e.To) (hl:l.length<=300) (hn:∀ n∈ns,Jf n) (hns:ns.length<=100):cN (⟨l,ns⟩:Zh)=some 0:=by
 unfold cN
 dsimp only
 rw [bz (show ¬ 300<(l.length:Int) by omega),bz (show ¬ 100<(ns.length:Int) by omega),Bool.or_self,dq]
 refine (aR (dt (fun k=>(k:Int)) l.length (by omega) (.inl ()) (fun k hk=>?_) ?_)).trans ?_
 ·(try dsimp only)
  rw [mr hk,cQ]
  refine (aR (a:=Sum.inl ()) ?_).trans (by dsimp only;rw [cI hk (by omega)])
  rw [aR (bf hk),aR (qn (he _ (getElem_mem hk))),show ((0:Int) != 0)=false from rfl,dq]
  by_cases h0:k=0
  ·subst h0;rfl
  rw [beq_false_of_ne (show (k:Int)≠0 by omega),dq,aR (qj (by omega) hk (by omega)),aR (Ij (List.pairwise_iff_getElem.1 ho (k - 1) k (by omega) hk (by omega)))];rfl
 ·(try dsimp only);rw [fO];rfl
 dsimp only
 refine (aR (dt (fun k=>(k:Int)) l.length (by omega) (.inl ()) (fun k hk=>?_) ?_)).trans ?_
 ·(try dsimp only)
  rw [mr hk,cQ,aR (bf hk),aR (FY (b:=(⟨l,ns⟩:Zh)) hl (he _ (getElem_mem hk)) (hp _ (getElem_mem hk))),cI hk (by omega)];rfl
 ·(try dsimp only);rw [fO];rfl
 dsimp only
 refine (aR (dt (fun k=>(k:Int)) ns.length (by omega) (.inl ()) (fun k hk=>?_) ?_)).trans rfl
 ·(try dsimp only)
  rw [mr hk,cQ,aR (bf hk),aR (qZ (hn _ (getElem_mem hk))),cI hk (by omega)];rfl
 (try dsimp only);rw [fO];rfl
def yw:List Xh:=[(⟨#[57,52]⟩:Xh),(⟨#[57,53]⟩:Xh),(⟨#[57,52,48,49]⟩:Xh),(⟨#[57,52,48,50]⟩:Xh),(⟨#[57,52,48,49,48,49]⟩:Xh)]
def Cp:List Xh:=[(⟨#[57,52,48,49]⟩:Xh),(⟨#[57,52,48,50]⟩:Xh),(⟨#[57,53,48,49]⟩:Xh)]
theorem FZ:(yw.all fun s=>eQ s != 0)=true:=by kernel_rfl
theorem Ik:(Cp.all fun s=>eQ s == 4)=true:=by kernel_rfl
theorem yx (l:List Int):Y (iX l) BOK:=by
 unfold iX
 refine (HA l 300 (by omega) (by omega)).bind fun x2 hx2=>?_
 refine (dD hx2 4 (by omega) (by omega)).bind fun x5 ⟨a1,a2,a3⟩=>?_
 refine Y.bind (P:=fun q:List Int×Int×List Ze=>Pb ⟨q.1,q.2.1⟩/\q.2.2.length<=4/\∀ n∈q.2.2,Jf n) (Y.loop (fun s:Int×List Int×Int×List Ze=>Pb ⟨s.2.1,s.2.2.1⟩/\0<=s.1/\s.1+(s.2.2.2.length:Int)<=3/\∀ n∈s.2.2.2,Jf n) (fun s=>s.1.toNat) ⟨a3,a1,by dsimp only [List.length_nil];omega,by simp⟩ (by dsimp only;omega) ?_) (fun q hq=>?_)
 ·rintro ⟨v6,l7,v8,l10⟩ ⟨h1,h2,h3,h4⟩
  dsimp only at h1 h2 h3 h4 ⊢
  refine Y.cond (fun hc=>?_) (fun _=>Y.ret ⟨h1,by dsimp only;omega,h4⟩)
  have hc:=of_decide_eq_true hc
  refine (dD h1 5 (by omega) (by omega)).bind fun x25 ⟨b1,b2,b3⟩=>?_
  obtain ⟨sc,hs1,hs2⟩:=uJ (P:=fun x=>x∈yw) (l:=yw) (i:=x25.1) b1 (by have:yw.length=5:=rfl;omega) (fun _ hx=>hx)
  refine Y.eq (show bx yw x25.1=some sc from hs1) ?_
  refine (uN b3 (n:=2) (by omega) (by omega)).bind fun x27 ⟨c1,c2⟩=>?_
  refine (dD c2 2 (by omega) (by omega)).bind fun x29 ⟨_,_,d3⟩=>?_
  refine Y.bind (P:=fun q:Xh×List Int×Int=>Pb ⟨q.2.1,q.2.2⟩/\(q.1=⟨#[]⟩\/eQ q.1=4)) (Y.cond (fun _=>?_) (fun _=>Y.ret ⟨d3,.inl rfl⟩)) (fun q hq=>?_)
  ·refine (dD d3 3 (by omega) (by omega)).bind fun x38 ⟨e1,e2,e3⟩=>?_
   obtain ⟨hd,hd1,hd2⟩:=uJ (P:=fun x=>x∈Cp) (l:=Cp) (i:=x38.1) e1 (by have:Cp.length=3:=rfl;omega) (fun _ hx=>hx)
   refine Y.eq (show bx Cp x38.1=some hd from hd1) ?_
   exact Y.ret ⟨e3,.inr (eq_of_beq (List.all_eq_true.1 Ik hd hd2))⟩
  obtain ⟨v30,l31,v32⟩:=q
  obtain ⟨f1,f2⟩:=hq
  dsimp only at f1 f2 ⊢
  rw [aR (cF (by simp;omega) (by simp;omega)),ee (r:=v6 - 1) (by omega) (by omega)]
  refine Y.ret ⟨⟨f1,by dsimp only;omega,by simp;omega,fun n hn=>?_⟩,by dsimp only;omega⟩
  rcases List.mem_append.1 hn with hn | hn
  ·exact h4 n hn
  rw [List.mem_singleton.1 hn]
  exact ⟨by have:=List.all_eq_true.1 FZ sc hs2;simpa using this,c1,f2⟩
 obtain ⟨l13,v14,l18⟩:=q
 obtain ⟨q1,q2,q3⟩:=hq
 dsimp only at q1 q2 q3 ⊢
 have hent:∀ (c:List UInt8) (p:Zg),c.length=2->DG c->Pb p->Y (kf p (eR c) 36525) (fun r=>Zz c 36525 80 r.1/\Pb r.2):=fun c p h1 h2 h3=>EA 3 Va (mL (by omega)) (by omega) c (by omega) h2 p h3 36525 (by omega) (by omega)
 have d1:DG [57,52]:=fun b hb=>by
  simp only [mem_cons,not_mem_nil,or_false] at hb
  rcases hb with rfl | rfl <;> (unfold mQ;decide)
 have d2:DG [57,53]:=fun b hb=>by
  simp only [mem_cons,not_mem_nil,or_false] at hb
  rcases hb with rfl | rfl <;> (unfold mQ;decide)
 refine (hent [57,52] _ rfl d1 q1).bind fun x46 ⟨t1,t2⟩=>?_
 refine (hent [57,53] _ rfl d2 t2).bind fun x50 ⟨u1,u2⟩=>?_
 have n1:=t1.n
 have n2:=u1.n
 rw [aR (cF (by omega) (by omega))]
 have hE:∀ e∈x46.1++x50.1,Qe e:=fun e he=>(List.mem_append.1 he).elim (t1.e e) (u1.e e)
 have hln:(x46.1++x50.1).length<=300:=by rw [length_append];omega
 have hO:(x46.1++x50.1).Pairwise ELt:=by
  refine List.pairwise_append.2 ⟨t1.o,u1.o,fun a ha b hb=>.inl ?_⟩
  obtain ⟨w,hw⟩:=t1.pc a ha
  obtain ⟨v,hv⟩:=u1.pc b hb
  rw [hw,hv]
  exact (yu [57] (52::w) (53::v)).trans (Eu (by decide) _ _)
 have hP:∀ e∈x46.1++x50.1,e.Code.size=2\/Ve (x46.1++x50.1) (Ex e) e.To:=fun e he=>by
  rcases List.mem_append.1 he with he | he
  ·rcases t1.p e he with h | h
   ·left;rw [<- dK,h];rfl
   exact .inr (h.left _)
  rcases u1.p e he with h | h
  ·left;rw [<- dK,h];rfl
  exact .inr (h.right _)
 exact Y.ret ⟨hE,q3,hln,by dsimp only;omega,book_ok hE hO hP hln q3 (by omega)⟩
def oz:List Int->Int
 | []=>0
 | x::l=>x+oz l
theorem uO:∀ (a b:List Int),oz (a++b)=oz a+oz b
 | [],b=>by show oz b=0+oz b;omega
 | x::a,b=>by show x+oz (a++b)=x+oz a+oz b;rw [uO a b];omega
theorem EB:∀ {l:List Int},(∀ x∈l,1<=x/\x<=1000000)->0<=oz l/\oz l<=1000000*(l.length:Int)
 | [],_=>by simp [oz]
 | x::l,h=>by
  have ih:=EB (l:=l) fun y hy=>h y (List.mem_cons_of_mem _ hy)
  have hx:=h x (by simp)
  rw [length_cons]
  show 0<=x+oz l/\x+oz l<=_
  omega
def Sf (l:List Int):Prop:=(∀ x∈l,1<=x/\x<=1000000)/\(l=[]\/oz l=1000000)
theorem vW {l:List Int} (hl:l.length<=8) (h:Sf l):jq l=some true:=by
 unfold jq
 refine (aR (dt (fun k=>(oz (l.take k),(k:Int))) l.length (by omega) (oz l) (fun k hk=>?_) ?_)).trans ?_
 ·dsimp only
  have hb:=EB (l:=l.take k) fun x hx=>h.1 x (List.mem_of_mem_take hx)
  have hx:=h.1 _ (getElem_mem hk)
  rw [length_take] at hb
  have e1:oz (l.take (k+1))=oz (l.take k)+l[k]:=by rw [take_succ' hk,uO];show _+(l[k]+0)=_;omega
  rw [mr hk,cQ,aR (bf hk),cI hk (by omega),ee (r:=oz (l.take k)+l[k]) (by omega) (by omega),e1]
 ·dsimp only;rw [fO,take_length];rfl
 (try dsimp only)
 rcases h.2 with h2 | h2
 ·subst h2;rfl
 rw [h2];show some (((l.length:Int) == 0)||true)=some true;rw [Bool.or_true]
theorem Dw {x y:List Int} (hx:x.length<=1000) (hy:y.length<=1000):fW [x,y]=some (x++y):=by
 unfold fW
 refine (aR (Er ((0:Int),(0:Int)) ((x.length:Int),(1:Int)) ((x.length:Int)+(y.length:Int),(2:Int)) ((x.length:Int)+(y.length:Int)) ?_ ?_ rfl)).trans ?_
 ·dsimp only
  rw [show decide ((0:Int)<(([x,y]:List (List Int)).length:Int))=true from rfl,cQ,show bx [x,y] 0=some x from rfl,fP,ee (r:=0+(x.length:Int)) (by omega) (by omega),bz (show ¬ 0+(x.length:Int)<0 by omega),dq,Int.zero_add];rfl
 ·dsimp only
  rw [show decide ((1:Int)<(([x,y]:List (List Int)).length:Int))=true from rfl,cQ,show bx [x,y] 1=some y from rfl,fP,ee (r:=(x.length:Int)+(y.length:Int)) (by omega) (by omega),bz (show ¬ (x.length:Int)+(y.length:Int)<0 by omega),dq];rfl
 have hg:gT ((x.length:Int)+(y.length:Int))=some []:=by
  unfold gT
  have:=Hw (b:=8) (n:=x.length+y.length) (by omega) (by omega)
  rw [show ((x.length+y.length:Nat):Int)=(x.length:Int)+(y.length:Int) by omega] at this
  rw [aR this]
 rw [aR hg]
 refine (aR (Er (([]:List Int),(0:Int)) (x,(1:Int)) (x++y,(2:Int)) (x++y) ?_ ?_ rfl)).trans rfl
 ·dsimp only
  rw [show decide ((0:Int)<(([x,y]:List (List Int)).length:Int))=true from rfl,cQ,show bx [x,y] 0=some x from rfl,fP,aR (cF (by simp;omega) (by simp;omega))];rfl
 dsimp only
 rw [show decide ((1:Int)<(([x,y]:List (List Int)).length:Int))=true from rfl,cQ,show bx [x,y] 1=some y from rfl,fP,aR (cF (by omega) (by omega))];rfl
def M4:List Xh:=[(⟨#[103,108,97,115,115]⟩:Xh),(⟨#[108,97,109,112]⟩:Xh),(⟨#[115,116,101,101,108]⟩:Xh),(⟨#[119,111,111,100]⟩:Xh)]
theorem Kg:M4.all mX=true/\qO uS M4=true:=⟨by kernel_rfl,by kernel_rfl⟩
structure MG (g:Zu):Prop where
 w:Pc g.Words
 n:(g.Materials.map Zf.Name).Sublist M4
 m:Sf (g.Materials.map Zf.Share)
 p3:g.Parts.length<=3
 pw:∀ p∈g.Parts,Pc p.Words
 p:Sf (g.Parts.map Zb.Share)
theorem Pc.descg {t:List Xh} (h:Pc t):iT t=some true:=by
 unfold iT
 have:0<t.length:=List.length_pos_iff.2 h.ne
 rw [det (by omega),fN,h.ok];rfl
theorem MG.m4 {g:Zu} (h:MG g):g.Materials.length<=4:=by
 have:=h.n.length_le
 rw [length_map] at this;exact this
theorem EC {g:Zu} (h:MG g):fK g=some 0:=by
 have hm:=h.m4;have hp:=h.p3
 unfold fK
 rw [aR h.w.descg,Bool.not_true,dq,bz (show ¬ 8<(g.Materials.length:Int) by omega),bz (show ¬ 6<(g.Parts.length:Int) by omega),Bool.or_self,dq]
 refine (aR (dt (fun k=>((g.Materials.take k).map Zf.Name,(g.Materials.take k).map Zf.Share,(k:Int))) g.Materials.length (by omega) (g.Materials.map Zf.Name,g.Materials.map Zf.Share) (fun k hk=>?_) ?_)).trans ?_
 ·dsimp only
  rw [mr hk,cQ,aR (bf hk),aR (cF (by simp;omega) (by simp;omega)),aR (cF (by simp;omega) (by simp;omega)),cI hk (by omega),take_succ' hk,map_append,map_append];rfl
 ·dsimp only;rw [fO,take_length];rfl
 dsimp only
 have hv:dO (g.Materials.map Zf.Name)=some true:=by
  have hlen:=h.n.length_le
  have h4:M4.length=4:=rfl
  rw [tV _ ⟨by omega,fun s hs=>by
   have:=kU (List.all_eq_true.1 Kg.1 s (h.n.subset hs));omega⟩,vB Kg h.n (by omega)]
 rw [aR hv,Bool.not_true,dq]
 refine (aR (dt (fun k=>((g.Parts.take k).map Zb.Share,(k:Int))) g.Parts.length (by omega) (.inl (g.Parts.map Zb.Share)) (fun k hk=>?_) ?_)).trans ?_
 ·dsimp only
  rw [mr hk,cQ,aR (bf hk),aR (h.pw _ (getElem_mem hk)).descg,Bool.not_true,dq,aR (cF (by simp;omega) (by simp;omega)),cI hk (by omega),take_succ' hk,map_append];rfl
 ·dsimp only;rw [fO,take_length];rfl
 dsimp only
 have hl1:(g.Materials.map Zf.Share).length<=4:=by rw [length_map];exact hm
 have hl2:(g.Parts.map Zb.Share).length<=3:=by rw [length_map];exact hp
 have h1:=h.m;have h2:=h.p
 generalize g.Materials.map Zf.Share=A at hl1 h1
 generalize g.Parts.map Zb.Share=B at hl2 h2
 rw [aR (Dw (by omega) (by omega))]
 refine (aR (dt (fun k=>(k:Int)) (A++B).length (by rw [length_append];omega) (.inl ()) (fun k hk=>?_) ?_)).trans ?_
 ·(try dsimp only)
  have hx:1<=(A++B)[k]/\(A++B)[k]<=1000000:=by
   rcases List.mem_append.1 (getElem_mem hk) with q | q
   ·exact h1.1 _ q
   exact h2.1 _ q
  rw [mr hk,cQ,aR (bf hk),bz (show ¬ (A++B)[k]<1 by omega),bz (show ¬ 1000000<(A++B)[k] by omega),cI hk (by rw [length_append];omega)];rfl
 ·(try dsimp only);rw [fO];rfl
 dsimp only
 rw [aR (vW (by omega) h1),Bool.not_true,Bool.not_false,fN,aR (vW (by omega) h2)];rfl
theorem MG.gd {g:Zu} (h:MG g):GD g where
 w:=h.w
 m8:=by have:=h.m4;omega
 p6:=by have:=h.p3;omega
 mn:=fun m hm=>⟨List.all_eq_true.1 Kg.1 _ (h.n.subset (List.mem_map_of_mem hm)),h.m.1 _ (List.mem_map_of_mem hm)⟩
 pn:=fun p hp=>⟨h.pw p hp,h.p.1 _ (List.mem_map_of_mem hp)⟩
 v:=EC h
theorem MG.gg {g:Zu} (h:MG g):GG g:=⟨h.w.len,h.m4,h.p3,fun p hp=>(h.pw p hp).len⟩
theorem Cq {p:Zg} (hp:Pb p) {n:Int} (h1:1<=n) (h4:n<=4):Y (gh p n) (fun r=>((r.1.length:Int)=n/\Sf r.1)/\Pb r.2):=by
 unfold gh
 refine Y.bind (P:=fun q:List Int×Int×List Int×Int=>(q.1.length:Int)=n - 1/\(∀ x∈q.1,1<=x/\x<=1000000)/\(1<=q.2.1/\q.2.1<=1000000/\oz q.1+q.2.1=1000000)/\Pb ⟨q.2.2.1,q.2.2.2⟩) (Y.loop (fun s:List Int×Int×Int×List Int×Int=>(1<=s.2.2.1/\s.2.2.1<=n/\(s.1.length:Int)=s.2.2.1 - 1)/\(∀ x∈s.1,1<=x/\x<=1000000)/\(n - s.2.2.1+1<=s.2.1/\s.2.1<=1000000/\oz s.1+s.2.1=1000000)/\Pb ⟨s.2.2.2.1,s.2.2.2.2⟩) (fun s=>(n - s.2.2.1).toNat) ⟨⟨Int.le_refl _,h1,rfl⟩,by simp,⟨by dsimp only;omega,Int.le_refl _,rfl⟩,hp⟩ (by dsimp only;omega) ?_) (fun q hq=>?_)
 ·rintro ⟨l2,v5,v6,l7,v8⟩ ⟨⟨a1,a2,a3⟩,a4,⟨a5,a6,a7⟩,a8⟩
  dsimp only at a1 a2 a3 a4 a5 a6 a7 a8 ⊢
  refine Y.cond (fun hc=>?_) (fun hc=>Y.ret ⟨by dsimp only;have:=of_decide_eq_false hc;omega,a4,⟨by dsimp only;omega,a6,a7⟩,a8⟩)
  have hc:=of_decide_eq_true hc
  refine (dD a8 4 (by omega) (by omega)).bind fun x20 ⟨b1,b2,b3⟩=>?_
  unfold lb
  refine (dD b3 2 (by omega) (by omega)).bind fun x22 ⟨_,_,c3⟩=>?_
  refine Y.bind (P:=fun q:Int×List Int×Int=>(1<=q.1/\q.1<=1000001)/\Pb ⟨q.2.1,q.2.2⟩) (Y.cond (fun _=>?_) (fun _=>Y.ret ⟨?_,c3⟩)) (fun q hq=>?_)
  ·rw [aR (zm (show n≠0 by omega))]
   obtain ⟨d,hd,hd1,hd2⟩:∃ d:Int,i64.wrap (Int.tdiv 1000000 n)=d/\1<=d/\d<=1000000:=by
    have:n=1\/n=2\/n=3\/n=4:=by omega
    rcases this with rfl | rfl | rfl | rfl
    ·exact ⟨1000000,by decide,by decide,by decide⟩
    ·exact ⟨500000,by decide,by decide,by decide⟩
    ·exact ⟨333333,by decide,by decide,by decide⟩
    exact ⟨250000,by decide,by decide,by decide⟩
   rw [hd]
   refine (dD c3 d hd1 (by omega)).bind fun x30 ⟨e1,e2,e3⟩=>?_
   rw [ee (r:=1+x30.1) (by omega) (by omega)]
   exact Y.ret ⟨⟨by dsimp only;omega,by dsimp only;omega⟩,e3⟩
  ·dsimp only
   rw [ee (r:=x20.1*100000) (by omega) (by omega),ee (by omega) (by omega)];omega
  obtain ⟨v24,l25,v26⟩:=q
  obtain ⟨⟨f1,f2⟩,f3⟩:=hq
  dsimp only at f1 f2 f3 ⊢
  rw [ee (r:=n - v6) (by omega) (by omega),ee (r:=v5 - (n - v6)) (by omega) (by omega)]
  obtain ⟨w,hw,w1,w2,w3⟩:∃ w,lJ v24 (v5 - (n - v6))=w/\1<=w/\w<=1000000/\w<=v5 - (n - v6):=by
   refine ⟨_,rfl,?_⟩
   unfold lJ;split <;> omega
  rw [hw,aR (cF (by simp;omega) (by simp;omega)),ee (r:=v5 - w) (by omega) (by omega),ee (r:=v6+1) (by omega) (by omega)]
  refine Y.ret ⟨⟨⟨by dsimp only;omega,by dsimp only;omega,by simp;omega⟩,fun x hx=>?_,⟨by dsimp only;omega,by dsimp only;omega,?_⟩,f3⟩,by dsimp only;omega⟩
  ·rcases List.mem_append.1 hx with hx | hx
   ·exact a4 x hx
   rw [List.mem_singleton.1 hx];exact ⟨w1,w2⟩
  dsimp only;rw [uO];show oz l2+(w+0)+(v5 - w)=1000000;omega
 obtain ⟨l12,v13,l14,v15⟩:=q
 obtain ⟨q1,q2,⟨q3,q4,q5⟩,q6⟩:=hq
 dsimp only at q1 q2 q3 q4 q5 q6 ⊢
 rw [aR (cF (by simp;omega) (by simp;omega))]
 refine Y.ret ⟨⟨by simp;omega,fun x hx=>?_,.inr ?_⟩,q6⟩
 ·rcases List.mem_append.1 hx with hx | hx
  ·exact q2 x hx
  rw [List.mem_singleton.1 hx];exact ⟨q3,q4⟩
 dsimp only;rw [uO];show oz l12+(v13+0)=1000000;omega
theorem Cr:Sf []:=⟨by simp,.inl rfl⟩
theorem good_Y (l:List Int):Y (qb l) MG:=by
 unfold qb
 refine (HA l 60 (by omega) (by omega)).bind fun x2 hx2=>?_
 refine (uN hx2 (n:=4) (by omega) (by omega)).bind fun x4 ⟨a1,a2⟩=>?_
 refine (dD a2 4 (by omega) (by omega)).bind fun x5 ⟨_,_,b3⟩=>?_
 refine (dD b3 4 (by omega) (by omega)).bind fun x7 ⟨c1,c2,c3⟩=>?_
 refine Y.bind (P:=fun q:List Int×Int×List Zf=>Pb ⟨q.1,q.2.1⟩/\(q.2.2.map Zf.Name).Sublist M4/\Sf (q.2.2.map Zf.Share)) (Y.cond (fun hc=>?_) (fun _=>Y.ret ⟨c3,nil_sublist _,Cr⟩)) (fun q hq=>?_)
 ·have hc:=of_decide_eq_true hc
  refine (dD c3 2 (by omega) (by omega)).bind fun x18 ⟨d1,d2,d3⟩=>?_
  have h4:M4.length=4:=rfl
  have hsub:sub M4 x18.1 (M4.length:Int)=some (M4.drop x18.1.toNat):=by
   have:=pR (xs:=M4) (a:=x18.1.toNat) (b:=M4.length) (by omega) (le_refl _)
   rw [take_length,show ((x18.1.toNat:Nat):Int)=x18.1 by omega] at this
   exact this
  refine Y.eq (show sub M4 x18.1 (M4.length:Int)=some (M4.drop x18.1.toNat) from hsub) ?_
  have hdl:(M4.drop x18.1.toNat).length=4 - x18.1.toNat:=by rw [List.length_drop];rfl
  have hds:(M4.drop x18.1.toNat).Sublist M4:=List.drop_sublist _ _
  generalize M4.drop x18.1.toNat=D at hdl hds
  obtain ⟨n,hn,n1,n2⟩:∃ n,lJ x7.1 (D.length:Int)=n/\1<=n/\n<=(D.length:Int):=by
   refine ⟨_,rfl,?_⟩
   unfold lJ;split <;> omega
  rw [hn]
  refine (Cq d3 n1 (by omega)).bind fun x20 ⟨⟨e1,e2⟩,e3⟩=>?_
  refine Y.bind (P:=fun r:List Zf=>r.map Zf.Name=D.take x20.1.length/\r.map Zf.Share=x20.1) (Y.for x20.1.length (by omega) (fun k s=>s.1=(k:Int)/\s.2.map Zf.Name=D.take k/\s.2.map Zf.Share=x20.1.take k) ⟨rfl,rfl,rfl⟩ ?_ ?_) (fun r hr=>?_)
  ·rintro k ⟨_,r⟩ hk ⟨rfl,hr1,hr2⟩
   dsimp only at hr1 hr2 ⊢
   have hkD:k<D.length:=by omega
   have hlr:r.length<=k:=by
    have:=congrArg List.length hr1
    rw [length_map,length_take] at this;omega
   rw [mr hk,cQ,aR (bf hkD),aR (bf hk),aR (cF (by simp;omega) (by simp;omega)),cI hk (by omega)]
   exact Y.ret ⟨rfl,by dsimp only;rw [map_append,hr1,take_succ' hkD];rfl,by dsimp only;rw [map_append,hr2,take_succ' hk];rfl⟩
  ·rintro ⟨_,r⟩ ⟨rfl,hr1,hr2⟩
   dsimp only at hr1 hr2 ⊢
   rw [fO];exact Y.ret ⟨hr1,by rw [hr2,take_length]⟩
  exact Y.ret ⟨e3,by dsimp only;rw [hr.1];exact (List.take_sublist _ _).trans hds,by dsimp only;rw [hr.2];exact e2⟩
 obtain ⟨l8,v9,l13⟩:=q
 obtain ⟨q1,q2,q3⟩:=hq
 dsimp only at q1 q2 q3 ⊢
 refine (dD q1 3 (by omega) (by omega)).bind fun x44 ⟨_,_,f3⟩=>?_
 refine Y.bind (P:=fun r:List Zb=>r.length<=3/\(∀ p∈r,Pc p.Words)/\Sf (r.map Zb.Share)) (Y.cond (fun _=>?_) (fun _=>Y.ret ⟨by simp,by simp,Cr⟩)) (fun r hr=>Y.ret ⟨a1,q2,q3,hr.1,hr.2.1,hr.2.2⟩)
 refine (dD f3 3 (by omega) (by omega)).bind fun x52 ⟨g1,g2,g3⟩=>?_
 rw [ee (r:=1+x52.1) (by omega) (by omega)]
 refine (Cq g3 (n:=1+x52.1) (by omega) (by omega)).bind fun x53 ⟨⟨e1,e2⟩,e3⟩=>?_
 refine Y.bind (P:=fun r:List Zb=>(∀ p∈r,Pc p.Words)/\r.map Zb.Share=x53.1) (Y.for x53.1.length (by omega) (fun k s=>s.1=(k:Int)/\Pb ⟨s.2.1,s.2.2.1⟩/\(∀ p∈s.2.2.2,Pc p.Words)/\s.2.2.2.map Zb.Share=x53.1.take k) ⟨rfl,e3,by simp,rfl⟩ ?_ ?_) (fun r hr=>?_)
 ·rintro k ⟨_,l55,v56,r⟩ hk ⟨rfl,hr0,hr1,hr2⟩
  dsimp only at hr0 hr1 hr2 ⊢
  have hlr:r.length<=k:=by
   have:=congrArg List.length hr2
   rw [length_map,length_take] at this;omega
  rw [mr hk,cQ,aR (bf hk),cI hk (by omega)]
  refine (uN hr0 (n:=3) (by omega) (by omega)).bind fun x71 ⟨w1,w2⟩=>?_
  rw [aR (cF (by simp;omega) (by simp;omega))]
  refine Y.ret ⟨rfl,w2,fun p hp=>?_,by dsimp only;rw [map_append,hr2,take_succ' hk];rfl⟩
  rcases List.mem_append.1 hp with hp | hp
  ·exact hr1 p hp
  rw [List.mem_singleton.1 hp];exact w1
 ·rintro ⟨_,l55,v56,r⟩ ⟨rfl,hr0,hr1,hr2⟩
  dsimp only at hr0 hr1 hr2 ⊢
  rw [fO];exact Y.ret ⟨hr1,by rw [hr2,take_length]⟩
 refine Y.ret ⟨?_,hr.1,by rw [hr.2];exact e2⟩
 have:=congrArg List.length hr.2
 rw [length_map] at this;omega
theorem codeN_Y {p:Zg} (hp:Pb p) {n:Int} (hn:n=2\/n=4\/n=6\/n=8):Y (fk p n) (fun r=>(∃ l:List Int,r.1=strOfNums l/\(l.length:Int)=n/\Uf l)/\Pb r.2):=by
 unfold fk
 refine (dD hp 2 (by omega) (by omega)).bind fun a ⟨a1,a2,a3⟩=>?_
 rw [ee (by omega) (by omega),sy (by omega)]
 refine Y.bind (P:=fun t:List Int×List Int×Int=>(t.1.length:Int)=n/\Uf t.1/\Pb ⟨t.2.1,t.2.2⟩) (Y.loop (fun s:List Int×List Int×Int=>(∃ j,s.1.length=2*j)/\(s.1.length:Int)<=n/\Uf s.1/\Pb ⟨s.2.1,s.2.2⟩) (fun s=>8 - s.1.length) ⟨⟨1,rfl⟩,by dsimp only [length_cons,List.length_nil];omega,fun x hx=>by
  simp only [mem_cons,not_mem_nil,or_false] at hx;omega,a3⟩ (by omega) ?_) (fun t ht=>Y.ret ⟨⟨_,rfl,ht.1,ht.2.1⟩,ht.2.2⟩)
 rintro ⟨l,l8,v9⟩ ⟨⟨j,b0⟩,b1,b2,b3⟩
 dsimp only at b0 b1 b2 b3 ⊢
 refine Y.cond (fun hc=>?_) (fun hc=>Y.ret ⟨by have:=of_decide_eq_false hc;dsimp only;omega,b2,b3⟩)
 have hc:=of_decide_eq_true hc
 refine (dD b3 3 (by omega) (by omega)).bind fun c ⟨c1,c2,c3⟩=>?_
 rw [ee (by omega) (by omega),sy (by omega),aR (cF (by simp;omega) (by simp;omega))]
 refine Y.ret ⟨⟨⟨j+1,by simp;omega⟩,by simp;omega,fun x hx=>?_,c3⟩,by simp;omega⟩
 simp only [List.mem_append,mem_cons,not_mem_nil,or_false] at hx
 rcases hx with hx | rfl | rfl
 ·exact b2 x hx
 ·omega
 omega
theorem lvl_of {l:List Int} (h1:l.length=2\/l.length=4\/l.length=6\/l.length=8) (h2:Uf l):eQ (strOfNums l)≠0:=by
 have hs:(strOfNums l).size=l.length:=by simp [strOfNums,ByteArray.size]
 unfold eQ
 rw [if_pos,hs]
 ·omega
 refine ⟨by omega,?_⟩
 unfold rU bl strOfNums
 simp only [List.all_eq_true]
 intro c hc
 simp only [List.mem_map] at hc
 obtain ⟨x,hx,rfl⟩:=hc
 have:=h2 x hx
 simp [nQ]
 omega
theorem Dx {p:Zg} (hp:Pb p):Y (gi p) (fun r=>(0<=r.1/\r.1<=1000000)/\Pb r.2):=by
 unfold gi
 refine (dD hp 4 (by omega) (by omega)).bind fun a ⟨a1,a2,a3⟩=>?_
 refine Y.cond (fun _=>?_) (fun _=>?_)
 ·refine (dD a3 101 (by omega) (by omega)).bind fun b ⟨b1,b2,b3⟩=>?_
  rw [ee (r:=10000*b.1) (by omega) (by omega)]
  exact Y.ret ⟨⟨by dsimp only;omega,by dsimp only;omega⟩,b3⟩
 refine (dD a3 1000001 (by omega) (by omega)).bind fun b ⟨b1,b2,b3⟩=>?_
 exact Y.ret ⟨⟨b1,by dsimp only;omega⟩,b3⟩
theorem duV {d:Zs} (r0:0<=d.Rate) (r1:d.Rate<=10000000) (a:(d.Amount=0/\d.Per=0)\/(1<=d.Amount/\d.Amount<=100000000/\1<=d.Per/\d.Per<=1000000)) (m0:0<=d.Most) (m1:d.Most<=10000000) (l0:0<=d.Least) (l1:d.Least<=10000000) (hm:d.HasMost=false->d.Most=0) (hl:d.HasLeast=false->d.Least=0) (hb:d.HasMost=true->d.HasLeast=true->d.Least<=d.Most):DU d where
 v:=by
  unfold db
  rw [bz (show ¬ d.Rate<0 by omega),bz (show ¬ 10000000<d.Rate by omega),bz (show ¬ d.Amount<0 by omega),bz (show ¬ 100000000<d.Amount by omega),Bool.or_self,Bool.or_self,Bool.or_self,dq]
  have e2:(((decide (0<d.Amount))&&((decide (d.Per<1))||(decide (1000000<d.Per))))||((d.Amount == 0)&&(d.Per != 0)))=false:=by
   rcases a with ⟨a1,a2⟩ | ⟨a1,a2,a3,a4⟩
   ·rw [a1,a2];rfl
   rw [bz (show ¬ d.Per<1 by omega),bz (show ¬ 1000000<d.Per by omega),beq_false_of_ne (show d.Amount≠0 by omega),Bool.or_self,Bool.and_false,Bool.false_and];rfl
  rw [e2,dq]
  rw [bz (show ¬ d.Most<0 by omega),bz (show ¬ 10000000<d.Most by omega),bz (show ¬ d.Least<0 by omega),bz (show ¬ 10000000<d.Least by omega),Bool.or_self,Bool.or_self,Bool.or_self,dq]
  have e4:(((d.Most != 0)&&(!d.HasMost))||((d.Least != 0)&&(!d.HasLeast)))=false:=by
   cases q1:d.HasMost <;> cases q2:d.HasLeast
   ·rw [hm q1,hl q2];rfl
   ·rw [hm q1];simp
   ·rw [hl q2];simp
   simp
  rw [e4,dq]
  have e5:((d.HasMost&&d.HasLeast)&&(decide (d.Most<d.Least)))=false:=by
   cases q1:d.HasMost <;> cases q2:d.HasLeast
   ·rfl
   ·rfl
   ·rfl
   have:=hb q1 q2
   rw [bz (show ¬ d.Most<d.Least by omega)];rfl
  rw [e5,dq]
 r0:=r0
 r1:=r1
 a0:=by omega
 a1:=by omega
 p0:=by omega
 p1:=by omega
 pa:=by omega
 m0:=m0
 m1:=m1
 l0:=l0
 l1:=l1
 hm:=hm
 hl:=hl
theorem Dy {p:Zg} (hp:Pb p):Y (gj p) (fun r=>DU r.1/\Pb r.2):=by
 unfold gj
 refine (dD hp 3 (by omega) (by omega)).bind fun a ⟨_,_,a3⟩=>?_
 refine Y.bind (P:=fun q:List Int×Int×Int=>Pb ⟨q.1,q.2.1⟩/\0<=q.2.2/\q.2.2<=10000000) (Y.cond (fun _=>?_) (fun _=>Y.ret ⟨a3,by dsimp only;omega,by dsimp only;omega⟩)) (fun q hq=>?_)
 ·refine (Dx a3).bind fun b ⟨⟨b1,b2⟩,b3⟩=>?_
  rw [Int.tdiv_eq_ediv_of_nonneg b1,ee (r:=b.1 / 4) (by omega) (by omega)]
  exact Y.ret ⟨b3,by dsimp only;omega,by dsimp only;omega⟩
 obtain ⟨l4,v5,v6⟩:=q
 obtain ⟨q1,q2,q3⟩:=hq
 dsimp only at q1 q2 q3 ⊢
 refine (dD q1 3 (by omega) (by omega)).bind fun b ⟨_,_,b3⟩=>?_
 refine Y.bind (P:=fun q:List Int×Int×Int×Int=>Pb ⟨q.1,q.2.1⟩/\((q.2.2.1=0/\q.2.2.2=0)\/(1<=q.2.2.1/\q.2.2.1<=100000000/\1<=q.2.2.2/\q.2.2.2<=1000000))) (Y.cond (fun _=>?_) (fun _=>Y.ret ⟨b3,.inl ⟨rfl,rfl⟩⟩)) (fun q hq=>?_)
 ·refine (dD b3 500 (by omega) (by omega)).bind fun c ⟨c1,c2,c3⟩=>?_
  refine (dD c3 5 (by omega) (by omega)).bind fun d ⟨d1,d2,d3⟩=>?_
  obtain ⟨m,hm1,hm2⟩:=uJ (P:=fun x:Int=>1<=x/\x<=1000000) (l:=[1,100,1000,1000000,7]) (i:=d.1) d1 (by show d.1<5;exact d2) (by decide)
  rw [aR hm1,ee (r:=1+c.1) (by omega) (by omega)]
  exact Y.ret ⟨d3,.inr ⟨by dsimp only;omega,by dsimp only;omega,hm2.1,hm2.2⟩⟩
 obtain ⟨l11,v12,v13,v14⟩:=q
 obtain ⟨s1,s2⟩:=hq
 dsimp only at s1 s2 ⊢
 refine (dD s1 4 (by omega) (by omega)).bind fun c ⟨_,_,c3⟩=>?_
 refine Y.bind (P:=fun q:List Int×Int×Bool×Int=>Pb ⟨q.1,q.2.1⟩/\(q.2.2.1=false->q.2.2.2=0)/\0<=q.2.2.2/\q.2.2.2<=10000000) (Y.cond (fun _=>?_) (fun _=>Y.ret ⟨c3,fun _=>rfl,by dsimp only;omega,by dsimp only;omega⟩)) (fun q hq=>?_)
 ·refine (Dx c3).bind fun d ⟨⟨d1,d2⟩,d3⟩=>?_
  exact Y.ret ⟨d3,(fun h=>nomatch h),d1,by dsimp only;omega⟩
 obtain ⟨l24,v25,v26,v27⟩:=q
 obtain ⟨t1,t2,t3,t4⟩:=hq
 dsimp only at t1 t2 t3 t4 ⊢
 refine (dD t1 4 (by omega) (by omega)).bind fun d ⟨_,_,d3⟩=>?_
 refine Y.bind (P:=fun q:List Int×Int×Bool×Int=>Pb ⟨q.1,q.2.1⟩/\(q.2.2.1=false->q.2.2.2=0)/\0<=q.2.2.2/\q.2.2.2<=10000000/\(v26=true->q.2.2.1=true->q.2.2.2<=v27)) (Y.cond (fun _=>?_) (fun _=>Y.ret ⟨d3,fun _=>rfl,by dsimp only;omega,by dsimp only;omega,fun _ h=>by cases h⟩)) (fun q hq=>?_)
 ·refine (Dx d3).bind fun e ⟨⟨e1,e2⟩,e3⟩=>?_
  rw [Int.tdiv_eq_ediv_of_nonneg e1,ee (r:=e.1 / 8) (by omega) (by omega)]
  refine Y.cond (fun _=>?_) (fun hv=>Y.ret ⟨e3,(fun h=>nomatch h),by dsimp only;omega,by dsimp only;omega,fun h=>by rw [hv] at h;cases h⟩)
  obtain ⟨w,hw,w1,w2,w3⟩:∃ w,lJ (e.1 / 8) v27=w/\0<=w/\w<=10000000/\w<=v27:=by
   refine ⟨_,rfl,?_⟩
   unfold lJ;split <;> omega
  rw [hw]
  exact Y.ret ⟨e3,(fun h=>nomatch h),w1,w2,fun _ _=>w3⟩
 obtain ⟨l32,v33,v34,v35⟩:=q
 obtain ⟨u1,u2,u3,u4,u5⟩:=hq
 dsimp only at u1 u2 u3 u4 u5 ⊢
 exact Y.ret ⟨duV q2 q3 s2 t3 t4 u3 u4 t2 u2 u5,u1⟩
def C6:List Xh:=[(⟨#[65,65]⟩:Xh),(⟨#[66,66]⟩:Xh),(⟨#[67,67]⟩:Xh),(⟨#[68,68]⟩:Xh),(⟨#[69,69]⟩:Xh),(⟨#[70,70]⟩:Xh)]
theorem Sg:C6.all sW=true/\qO uS C6=true:=⟨by kernel_rfl,by kernel_rfl⟩
theorem AR:gt=some C6:=rfl
structure MX (m:Zc):Prop where
 i0:1<=m.ID
 i1:m.ID<=1000000
 k0:1<=m.Kind
 k1:m.Kind<=6
 c0:0<=m.Company
 c1:m.Company<=999
 lvl:eQ m.Prefix≠0
 o:m.Origins.Sublist C6
 f0:0<=m.From
 ft:m.From<m.To
 t1:m.To<=36525
 g0 : -1<=m.Registered
 g1:m.Registered<=m.From
 d:DU m.Duty
theorem Dz {l:List Xh} (h:l.Sublist C6):cX l=some true:=by
 have hlen:l.length<=6:=h.length_le
 have hp:=List.Pairwise.sublist h ((uK _).1 Sg.2)
 unfold cX
 refine (aR (dt (fun k=>(k:Int)) l.length (by omega) (.inl ()) (fun k hk=>?_) ?_)).trans rfl
 ·(try dsimp only)
  have hc:sW l[k]=true:=List.all_eq_true.1 Sg.1 _ (h.subset (getElem_mem hk))
  rw [mr hk,cQ,aR (bf hk),nv,hc,fP,cI hk (by omega)]
  by_cases h0:0<k
  ·rw [det (show (0:Int)<(k:Int) by omega)]
   simp only [Bool.not_true,Bool.not_false,Bool.true_and,Bool.false_or,fN]
   have hlt:uS l[k - 1] l[k]=true:=List.pairwise_iff_getElem.1 hp (k - 1) k (by omega) hk (by omega)
   rw [aR (qj h0 hk (by omega)),Aw,show Op.bytesLess (l[k - 1]'(by omega)).toList l[k].toList=true from hlt];rfl
  rw [bz (show ¬ (0:Int)<(k:Int) by omega)];rfl
 (try dsimp only);rw [fO];rfl
theorem measV {l:List Zc} (h:∀ m∈l,MX m) (asc:l.Pairwise fun a b=>a.ID<b.ID) (hl:l.length<=300):cV l=some 0:=by
 unfold cV
 rw [bz (show ¬ 300<(l.length:Int) by omega),dq]
 refine (aR (dt (fun k=>(k:Int)) l.length (by omega) (.inl ()) (fun k hk=>?_) ?_)).trans rfl
 ·(try dsimp only)
  have hx:=h _ (getElem_mem hk)
  obtain ⟨m9,hm9,hle⟩:∃ m9,gd (decide (0<(k:Int))) (bx l (i64.wrap ((k:Int) - 1)))=some m9/\(decide (0<(k:Int))&&decide (l[k].ID<=m9.ID))=false:=by
   by_cases h0:0<k
   ·have:=List.pairwise_iff_getElem.1 asc (k - 1) k (by omega) hk (by omega)
    refine ⟨l[k - 1],?_,?_⟩
    ·rw [det (show (0:Int)<(k:Int) by omega),fN,qj h0 hk (by omega)]
    rw [bz (show ¬ l[k].ID<=l[k - 1].ID by omega),Bool.and_false]
   rw [bz (show ¬ (0:Int)<(k:Int) by omega)]
   exact ⟨_,rfl,rfl⟩
  have hol:l[k].Origins.length<=6:=hx.o.length_le
  have x1:=hx.i0;have x2:=hx.i1;have x3:=hx.k0;have x4:=hx.k1;have x5:=hx.c0;have x6:=hx.c1
  have y1:=hx.f0;have y2:=hx.ft;have y3:=hx.t1;have y4:=hx.g0;have y5:=hx.g1
  rw [mr hk,cQ,aR (bf hk),bz (show ¬ l[k].ID<1 by omega),bz (show ¬ 1000000<l[k].ID by omega),bz (show ¬ l[k].Kind<1 by omega),bz (show ¬ 6<l[k].Kind by omega),bz (show ¬ l[k].Company<0 by omega),bz (show ¬ 999<l[k].Company by omega)]
  simp only [Bool.or_self,dq]
  unfold bS
  rw [aR hm9,hle,dq,fP,beq_false_of_ne hx.lvl,dq,bz (show ¬ 20<(l[k].Origins.length:Int) by omega),dq,aR (Dz hx.o),Bool.not_true,dq,bz (show ¬ l[k].From<0 by omega),bz (show ¬ l[k].To<=l[k].From by omega),bz (show ¬ 36525<l[k].To by omega),bz (show ¬ l[k].Registered < -1 by omega),bz (show ¬ l[k].From<l[k].Registered by omega)]
  simp only [Bool.or_self,dq]
  rw [aR hx.d.v,cI hk (by omega)];rfl
 (try dsimp only);rw [fO];rfl
theorem MX.me {m:Zc} (h:MX m):ME m where
 i0:=by have:=h.i0;omega
 i1:=h.i1
 k0:=by have:=h.k0;omega
 k1:=h.k1
 c0:=h.c0
 c1:=h.c1
 f0:=h.f0
 f1:=by have:=h.ft;have:=h.t1;omega
 t0:=by have:=h.ft;have:=h.f0;omega
 t1:=by have:=h.t1;omega
 g0:=h.g0
 g1:=by have:=h.g1;have:=h.ft;have:=h.t1;omega
 lvl:=h.lvl
 ol:=by have:=h.o.length_le;have h6:C6.length=6:=rfl;omega
 oc:=fun s hs=>List.all_eq_true.1 Sg.1 s (h.o.subset hs)
 d:=h.d
 v:=measV (fun x hx=>by rw [List.mem_singleton.1 hx];exact h) (pairwise_singleton _ _) (by simp)
structure ML (n:Nat) (l:List Zc):Prop where
 m:∀ m∈l,MX m
 a:l.Pairwise fun a b=>a.ID<b.ID
 i:∀ m∈l,m.ID<=2+2*(n:Int)
 n:l.length<=2+n
theorem ML.ms {n:Nat} {l:List Zc} (h:ML n l) (hn:n<=20):MS l:=⟨measV h.m h.a (by have:=h.n;omega),fun m hm=>(h.m m hm).me,by have:=h.n;omega⟩
theorem origs_Y (b:Int):Y (aW (S:=Int×(List Xh)) (T:=((List Xh))) (fun (v60,l62)=>cond ((decide (v60<3))&&(decide (7<b))) (Option.bind (Option.bind (sN v60) (fun u80=>cond ((ji .i64 (ex .i64 b v60) 1) == 1) (Option.bind (gt) (fun x82=>Option.bind (bx x82 v60) (fun m83=>Option.bind (app 16 l62 [m83]) (fun l86=>some l86)))) (some l62))) (fun l78=>some (.inl ((i64.wrap (v60+1)),l78)))) (some (.inr l62))) Va (0,([]:List Xh))) (fun r=>r.Sublist C6):=by
 refine Y.loop (fun s:Int×List Xh=>∃ v:Nat,s.1=(v:Int)/\v<=3/\s.2.Sublist (C6.take v)) (fun s=>(3 - s.1).toNat) ⟨0,rfl,by omega,List.Sublist.refl _⟩ (by dsimp only;omega) ?_
 rintro ⟨i,l⟩ ⟨v,hv,h2,h3⟩
 dsimp only at hv h3 ⊢
 subst hv
 refine Y.cond (fun hc=>?_) (fun _=>Y.ret (h3.trans (List.take_sublist _ _)))
 simp only [and_eq_true,decide_eq_true_eq] at hc
 have h6:C6.length=6:=rfl
 have hlen:=h3.length_le
 rw [length_take] at hlen
 have hv:v<C6.length:=by omega
 have hs:=uM h3 hv
 have hw:i64.wrap ((v:Int)+1)=((v+1:Nat):Int):=cI hv (by omega)
 refine Y.bind (P:=fun m:List Xh=>m.Sublist (C6.take (v+1))) (Y.eq (Ey v) (Y.cond (fun _=>?_) (fun _=>Y.ret hs.2))) (fun m hm=>?_)
 ·rw [aR AR,aR (bf hv),aR (cF (by simp;omega) (by simp;omega))]
  exact Y.ret hs.1
 exact Y.ret ⟨⟨v+1,hw,by omega,hm⟩,by dsimp only;rw [hw];omega⟩
theorem DA (l:List Int):Y (lu l) MS:=by
 unfold lu
 refine (HA l 300 (by omega) (by omega)).bind fun x1 hx1=>?_
 refine (dD hx1 8 (by omega) (by omega)).bind fun x3 ⟨_,_,a3⟩=>?_
 refine Y.bind (P:=fun q:List Zc×List Int×Int=>ML 0 q.1/\Pb ⟨q.2.1,q.2.2⟩) (Y.cond (fun _=>?_) (fun _=>Y.ret ⟨⟨by simp,List.Pairwise.nil,by simp,by simp⟩,a3⟩)) (fun q hq=>?_)
 ·refine (Dy a3).bind fun x12 ⟨b1,b2⟩=>?_
  refine (Dy b2).bind fun x13 ⟨c1,c2⟩=>?_
  rw [aR (cF (by simp) (by simp)),List.nil_append]
  have h94:eQ (⟨#[57,52]⟩:Xh)≠0:=by decide
  have h95:eQ (⟨#[57,53]⟩:Xh)≠0:=by decide
  refine Y.ret ⟨⟨fun m hm=>?_,?_,fun m hm=>?_,by simp⟩,c2⟩
  ·simp only [mem_cons,not_mem_nil,or_false] at hm
   rcases hm with rfl | rfl
   ·exact ⟨by dsimp only;omega,by dsimp only;omega,by dsimp only;omega,by dsimp only;omega,by dsimp only;omega,by dsimp only;omega,h94,nil_sublist _,by dsimp only;omega,by dsimp only;omega,by dsimp only;omega,by dsimp only;omega,by dsimp only;omega,b1⟩
   exact ⟨by dsimp only;omega,by dsimp only;omega,by dsimp only;omega,by dsimp only;omega,by dsimp only;omega,by dsimp only;omega,h95,nil_sublist _,by dsimp only;omega,by dsimp only;omega,by dsimp only;omega,by dsimp only;omega,by dsimp only;omega,c1⟩
  ·refine List.pairwise_cons.2 ⟨fun m hm=>?_,pairwise_singleton _ _⟩
   rw [List.mem_singleton.1 hm];dsimp only;omega
  simp only [mem_cons,not_mem_nil,or_false] at hm
  rcases hm with rfl | rfl <;> (dsimp only;omega)
 obtain ⟨l7,l8,v9⟩:=q
 obtain ⟨q1,q2⟩:=hq
 dsimp only at q1 q2 ⊢
 refine (dD q2 13 (by omega) (by omega)).bind fun x21 ⟨n1,n2,n3⟩=>?_
 refine Y.bind (P:=MS) (Y.loop (fun s:List Zc×Int×List Int×Int=>∃ k:Nat,s.2.1=(k:Int)/\k<=12/\ML k s.1/\Pb ⟨s.2.2.1,s.2.2.2⟩) (fun s=>(13 - s.2.1).toNat) ⟨0,rfl,by omega,q1,n3⟩ (by dsimp only;omega) ?_) (fun q hq=>Y.ret hq)
 rintro ⟨l23,i,l27,v28⟩ ⟨k,hk,k1,k2,k3⟩
 dsimp only at hk k2 k3 ⊢
 subst hk
 refine Y.cond (fun hc=>?_) (fun _=>Y.ret (k2.ms (by omega)))
 have hc:=of_decide_eq_true hc
 refine (dD k3 6 (by omega) (by omega)).bind fun x36 ⟨c1,c2,c3⟩=>?_
 refine (dD c3 4 (by omega) (by omega)).bind fun x37 ⟨d1,d2,d3⟩=>?_
 rw [ee (r:=2*x37.1) (by omega) (by omega),ee (r:=2+2*x37.1) (by omega) (by omega)]
 refine (codeN_Y d3 (n:=2+2*x37.1) (by omega)).bind fun x38 ⟨⟨cl,e1,e2,e3⟩,e4⟩=>?_
 refine (dD e4 20 (by omega) (by omega)).bind fun x39 ⟨f1,f2,f3⟩=>?_
 refine (Dy f3).bind fun x40 ⟨g1,g2⟩=>?_
 refine (dD g2 30 (by omega) (by omega)).bind fun x42 ⟨h1,h2,h3⟩=>?_
 refine (dD h3 3 (by omega) (by omega)).bind fun x43 ⟨_,_,j3⟩=>?_
 rw [ee (r:=x39.1+1) (by omega) (by omega),ee (r:=x39.1+1+x42.1) (by omega) (by omega)]
 refine Y.bind (P:=fun q:List Int×Int×Int=>Pb ⟨q.1,q.2.1⟩ /\ -1<=q.2.2/\q.2.2<=x39.1) (Y.cond (fun _=>?_) (fun _=>Y.ret ⟨j3,by dsimp only;omega,by dsimp only;omega⟩)) (fun q hq=>?_)
 ·refine (dD j3 (x39.1+1) (by omega) (by omega)).bind fun x50 ⟨y1,y2,y3⟩=>?_
  exact Y.ret ⟨y3,by dsimp only;omega,by dsimp only;omega⟩
 obtain ⟨l45,v46,v47⟩:=q
 obtain ⟨r1,r2,r3⟩:=hq
 dsimp only at r1 r2 r3 ⊢
 refine (dD r1 3 (by omega) (by omega)).bind fun x51 ⟨_,_,s3⟩=>?_
 refine Y.bind (P:=fun q:List Int×Int×Int=>Pb ⟨q.1,q.2.1⟩/\0<=q.2.2/\q.2.2<=2) (Y.cond (fun _=>?_) (fun _=>Y.ret ⟨s3,by dsimp only;omega,by dsimp only;omega⟩)) (fun q hq=>?_)
 ·refine (dD s3 2 (by omega) (by omega)).bind fun x58 ⟨y1,y2,y3⟩=>?_
  rw [ee (r:=1+x58.1) (by omega) (by omega)]
  exact Y.ret ⟨y3,by dsimp only;omega,by dsimp only;omega⟩
 obtain ⟨l53,v54,v55⟩:=q
 obtain ⟨t1,t2,t3⟩:=hq
 dsimp only at t1 t2 t3 ⊢
 refine (dD t1 16 (by omega) (by omega)).bind fun x59 ⟨_,_,u3⟩=>?_
 refine Y.bind (origs_Y x59.1) (fun l69 hl69=>?_)
 have hn:=k2.n
 rw [aR (cF (by simp;omega) (by simp;omega)),ee (r:=2*(k:Int)) (by omega) (by omega),ee (r:=3+2*(k:Int)) (by omega) (by omega),ee (r:=1+x36.1) (by omega) (by omega)]
 have hw:i64.wrap ((k:Int)+1)=((k+1:Nat):Int):=by rw [ee (by omega) (by omega)];omega
 have hlv:eQ x38.1≠0:=by rw [e1];exact lvl_of (by omega) e3
 refine Y.ret ⟨⟨k+1,hw,by omega,⟨fun m hm=>?_,?_,fun m hm=>?_,by simp;omega⟩,u3⟩,by dsimp only;rw [hw];omega⟩
 ·rcases List.mem_append.1 hm with hm | hm
  ·exact k2.m m hm
  rw [List.mem_singleton.1 hm]
  exact ⟨by dsimp only;omega,by dsimp only;omega,by dsimp only;omega,by dsimp only;omega,by dsimp only;omega,by dsimp only;omega,hlv,hl69,f1,by dsimp only;omega,by dsimp only;omega,r2,r3,g1⟩
 ·refine List.pairwise_append.2 ⟨k2.a,pairwise_singleton _ _,fun a ha b hb=>?_⟩
  rw [List.mem_singleton.1 hb]
  have:=k2.i a ha
  dsimp only;omega
 rcases List.mem_append.1 hm with hm | hm
 ·have:=k2.i m hm;omega
 rw [List.mem_singleton.1 hm];dsimp only;omega
theorem Cs (p0 p1 p2 p3:List Int) (p4:Int):gW p0 p1 p2 p3 p4=some true:=by
 unfold gW
 obtain ⟨b,hb1,hb⟩:=yx p0
 obtain ⟨g,hg1,hg⟩:=good_Y p1
 obtain ⟨m,hm1,hm⟩:=DA p2
 obtain ⟨x,hx1,_⟩:=item_ok p3
 obtain ⟨d,hd1,_⟩:=Hz p4 20 (by omega) (by omega)
 obtain ⟨n1,hn1⟩:=FH hb
 obtain ⟨n2,hn2⟩:=Dr hm
 rw [aR hb1,aR hg1,aR hm1,aR hx1,aR hd1,aR (fmtB_ok hb),aR hn1,aR (Em hg.gd),aR (FI hg.gd),aR (H9 hm),aR hn2]
 dsimp only
 rw [show ((((0:Int) != 0)||((0:Int) != 0))||((0:Int) != 0))=false from rfl,dq]
 obtain ⟨r,hr1,hr2,hr3,hr4⟩:=Dv hb.cb hg.gg hb.v (EC hg) d
 rw [aR hr1,aR hr1,det rfl,bne_self_eq_false]
 rw [show (!((!true)||false))=true from rfl,fN,aR (yt r.2.1 (by omega) (fun s hs=>by have:=hr4 s hs;omega))]
 rw [show ((((!true)||false))||(!true))=false from rfl,dq]
 obtain ⟨c,hc⟩:∃ c,cond (r.2.2 == 0) (Option.bind (gK r.1) (fun x25=>some x25)) (some x.Code)=some c:=by
  obtain ⟨c,hc,_⟩:=line_Y hr2
  cases (r.2.2 == 0)
  ·exact ⟨_,rfl⟩
  exact ⟨c,by rw [cQ,aR hc]⟩
 rw [aR hc]
 obtain ⟨w,hw1,hw2⟩:=Ce m (⟨c,x.Origin,x.Proof,x.Company,x.Day,x.Quantity,x.Value,x.Granted⟩:Zw)
 rw [aR hw1,aR hw1,beq_self_eq_true,fN,aR hw2,Bool.and_self,fN,aR HN];rfl
theorem AS {O:Kr} {v0 v1 v2 v3 v4:List Value} (m0 m1 m2 m3:List Int) (m4:Int) (_:Xb O [.slc m0.length (List.map eI m0)] v0) (_:Xb O [.slc m1.length (List.map eI m1)] v1) (_:Xb O [.slc m2.length (List.map eI m2)] v2) (_:Xb O [.slc m3.length (List.map eI m3)] v3) (_:Xb O (eI m4) v4):gW m0 m1 m2 m3 m4=some true:=Cs m0 m1 m2 m3 m4
def k0 (W:World):Kr:=⟨W,fun b=>b<W.heap.size⟩
theorem DB {t:Nat} {z:Value} {s b:Nat} (h:iE t=some (z,s,b)):Tryz.prog.cellsOf t=s/\Tryz.prog.bytesOf t=b:=by
 obtain ⟨i,h1,h2,h3,h4⟩:=o9 h
 constructor
 ·simp [Program.cellsOf,h1,h3]
 simp [Program.bytesOf,h1,h4]
def Xg {H:Type} (t:Nat) (d:DataW H):Prop:=∀ n∈d.weights Tryz.prog t,n<=reachBytes
theorem Il {H:Type} (d:DataW H):1<=Rows.uptoBulk d:=by
 cases d with
 | lit l=>cases l <;> simp [Rows.uptoBulk]
 | nil=>simp [Rows.uptoBulk]
 | ptr d=>simp [Rows.uptoBulk]
 | slice elems spare=>simp [Rows.uptoBulk]
 | agg parts=>simp [Rows.uptoBulk]
 | iface t d=>simp [Rows.uptoBulk]
 | map entries=>simp [Rows.uptoBulk]
 | held h=>simp [Rows.uptoBulk]
theorem F0 {H:Type} {d:DataW H} {l:List (DataW H)} (h:d∈l):Rows.uptoBulk d<=Rows.uptoBulkAll l:=by
 induction l with
 | nil=>cases h
 | cons x r ih =>
  simp only [Rows.uptoBulkAll]
  cases List.mem_cons.1 h with
  | inl e=>subst e;omega
  | inr e=>have:=ih e;omega
theorem Im {H:Type} (l:List (DataW H)):l.length<=Rows.uptoBulkAll l:=by
 induction l with
 | nil=>simp [Rows.uptoBulkAll]
 | cons x r ih=>have:=Il x;simp only [Rows.uptoBulkAll,length_cons];omega
def Kf {H:Type} (eh:TypeId×Value->H) {α:Type} (n:Nat) (t:Nat) (e:α->List PV) (B:α->Prop):Prop :=
 ∀ (W:World) (fuel:Nat) (cs:List Value) (x:DataW H×List MemPlace),DataW.trod eh Tryz.prog W 0 (fun _=>true) true fuel t cs=some x->Xg t x.1->Rows.uptoBulk x.1<=n->∃ m,Xb (k0 W) (e m) cs/\Je cs/\B m
section
variable {H:Type} {eh:TypeId×Value->H} {nb:Nat}
theorem one1 {v:Value} (h:v.oneCell'=true):Je [v]:=fun u hu=>by rw [List.mem_singleton.1 hu];exact h
theorem F1 {t:Nat} {k:IntKind} (h:fQ t=some (.int k)):Kf eh nb t (fun x:Int=>[.v (.int k x)]) (fun _=>True):=fun W fuel cs x hx _ _=>by
 obtain ⟨n,rfl,_,_⟩:=DataW.trod_int (bD h) hx
 exact ⟨n,.cons (.v rfl) .nil,one1 rfl,trivial⟩
theorem so {e:Nat}:∀ {l:List (DataW H)} {d:DataW H} {n:Nat},d∈l->n∈d.weights Tryz.prog e->n∈DataW.weightsAll Tryz.prog e l
 | d'::l,d,n,hd,hn=>by
  simp only [DataW.weightsAll,List.mem_append]
  rcases List.mem_cons.1 hd with rfl | hd
  ·exact .inl hn
  exact .inr (so hd hn)
theorem ED {α β:Type} {R:α->β->Prop}:∀ (l:List β),(∀ b∈l,∃ a,R a b)->∃ la:List α,la.length=l.length/\∀ (i:Nat) (b:β),l[i]?=some b->∃ a,la[i]?=some a/\R a b
 | [],_=>⟨[],rfl,fun i b h=>by simp at h⟩
 | b::l,h=>by
  obtain ⟨a,ha⟩:=h b (by simp)
  obtain ⟨la,h1,h2⟩:=ED l fun b hb=>h b (by simp [hb])
  refine ⟨a::la,by simp [h1],fun i b' hb=>?_⟩
  cases i with
  | zero=>simp only [List.getElem?_cons_zero,gn] at hb;subst hb;exact ⟨a,rfl,ha⟩
  | succ i=>simp only [List.getElem?_cons_succ] at hb ⊢;exact h2 i b' hb
def Qh {H:Type} (eh:TypeId×Value->H) {α:Type} (N n:Nat) (t:Nat) (e:α->List PV) (B:α->Prop):Prop :=
 ∀ (W:World) (fuel:Nat) (cs:List Value) (x:DataW H×List MemPlace),fuel<N->DataW.trod eh Tryz.prog W 0 (fun _=>true) true fuel t cs=some x->Xg t x.1->Rows.uptoBulk x.1<=n->∃ m,Xb (k0 W) (e m) cs/\Je cs/\B m
theorem AT {α:Type} {N t E sz by':Nat} {z:Value} {e:α->List PV} {B:α->Prop} (hu:fQ t=some (.slice E)) (hi:iE E=some (z,sz,by')) (h0:Nat.blt 0 sz=true) (hb0:Nat.blt 0 by'=true) (hE:Qh eh N nb E e B):Qh eh (N+1) nb t (eL e) (fun l=>l.length*by'<=140737488355328/\l.length<=nb/\∀ x∈l,B x):=fun W fuel cs x hfu hx hw hbk=>by
 obtain ⟨hcz,hby⟩:=DB hi
 have hsz:0<sz:=by have:=h0;simp [Nat.blt] at this;omega
 have hbp:0<by':=by have:=hb0;simp [Nat.blt] at this;omega
 rcases DataW.trod_slice (bD hu) hx with ⟨rfl,_⟩ | ⟨a,len,cap,elems,rest,n,rfl,rfl,rfl,_,hl,hm,hlen,hel,_,_⟩
 ·exact ⟨[],.cons (.slc (sz:=sz) (css:=[]) Sl.nil (Nat.zero_le _) (fun _ h=>by cases h) .nil) .nil,one1 rfl,by simp,Nat.zero_le _,fun _ h=>by cases h⟩
 rw [hcz] at hel
 have hwl:(elems.length+rest.length)*by'<=reachBytes:=by
  have:=hw ((elems.length+rest.length)*by') (by simp only [DataW.weights,bD hu,hby,length_map];exact List.mem_cons_self)
  exact this
 have hn:len<=140737488355328:=by
  unfold reachBytes at hwl
  have:elems.length*1<=(elems.length+rest.length)*by':=Nat.mul_le_mul (by omega) (by omega)
  omega
 have hcells:∀ i∈List.range len,∃ p:α×List Value,W.cells? 0 (a.add (i*sz)) sz=some p.2/\Xb (k0 W) (e p.1) p.2/\Je p.2/\B p.1:=fun i hi'=>by
  have hi':i<len:=List.mem_range.1 hi'
  have h1:=hel i hi'
  have hlt:i<elems.length:=by omega
  rw [List.getElem?_eq_getElem hlt] at h1
  obtain ⟨cs,h2,h3⟩:=Option.bind_eq_some_iff.1 h1
  obtain ⟨m,k1,k2,k3⟩:=hE W n cs _ (by omega) h3 (fun q hq=>hw q (by
   simp only [DataW.weights,bD hu]
   exact List.mem_cons_of_mem _ (List.mem_append.2 (.inl (so (List.mem_map.2 ⟨_,getElem_mem hlt,rfl⟩) hq))))) (by
   have h9:=F0 (l:=elems.map (·.1)) (List.mem_map.2 ⟨_,getElem_mem hlt,rfl⟩)
   simp only [Rows.uptoBulk] at hbk
   omega)
  exact ⟨(m,cs),h2,k1,k2,k3⟩
 obtain ⟨ps,g1,g2⟩:=ED (R:=fun (p:α×List Value) i=>W.cells? 0 (a.add (i*sz)) sz=some p.2/\Xb (k0 W) (e p.1) p.2/\Je p.2/\B p.1) (List.range len) hcells
 rw [List.length_range] at g1
 have g3:∀ (i:Nat) (p:α×List Value),ps[i]?=some p->W.cells? 0 (a.add (i*sz)) sz=some p.2/\Xb (k0 W) (e p.1) p.2/\Je p.2/\B p.1:=fun i p hp=>by
  have hlt:=(List.getElem?_eq_some_iff.1 hp).1
  obtain ⟨p',h1,h2⟩:=g2 i i (by rw [List.getElem?_range (by omega)])
  rw [hp] at h1;injection h1 with h1;subst h1;exact h2
 have hps:(ps.map (·.1)).length=len:=by simp [g1]
 refine ⟨ps.map (·.1),?_,one1 rfl,?_,?_,?_⟩
 rotate_left
 ·rw [hps]
  have h9:len*by'<=(elems.length+rest.length)*by':=Nat.mul_le_mul_right _ (by omega)
  unfold reachBytes at hwl
  omega
 ·rw [hps]
  have h9:=Im (elems.map (·.1))
  rw [length_map] at h9
  simp only [Rows.uptoBulk] at hbk
  omega
 ·intro x hx
  obtain ⟨p,hp,rfl⟩:=List.mem_map.1 hx
  obtain ⟨i,hi',rfl⟩:=getElem_of_mem hp
  exact (g3 i _ (List.getElem?_eq_getElem hi')).2.2.2
 unfold eL;rw [hps]
 refine .cons (.slc (sz:=sz) (css:=ps.map (·.2)) ⟨by simp [g1],hl,?_,?_⟩ hn ?_ ?_) .nil
 ·intro c hc
  obtain ⟨p,hp,rfl⟩:=List.mem_map.1 hc
  obtain ⟨i,hi',rfl⟩:=getElem_of_mem hp
  exact (World.cells?_some (g3 i _ (List.getElem?_eq_getElem hi')).1).2.1
 ·intro hpos
  have hp0:0<ps.length:=by omega
  have hc0:=(World.cells?_some (g3 0 _ (List.getElem?_eq_getElem hp0)).1)
  have hread:=hc0.2.2 0 hsz
  have hspot:a.spot=none:=by
   have hlt:0<(ps[0]).2.length:=by rw [hc0.2.1];exact hsz
   rw [List.getElem?_eq_getElem hlt] at hread
   unfold World.cell? at hread
   cases hs:a.spot with
   | none=>rfl
   | some q =>
    have hsp:((a.add (0*sz)).add 0).spot.isSome=true:=by simp [Addr.add,hs]
    split at hread
    ·rw [if_pos hsp] at hread;cases hread
    cases hread
  obtain ⟨ab,ao,asp⟩:=a
  simp only at hspot;subst hspot
  refine ⟨ab,ao,rfl,fun j c hj=>?_⟩
  rw [List.getElem?_map] at hj
  cases hpj:ps[j]? with
  | none=>rw [hpj] at hj;cases hj
  | some p =>
   rw [hpj] at hj;simp only [Option.map_some,gn] at hj;subst hj
   have hcj:=World.cells?_some (g3 j p hpj).1
   refine ⟨?_,fun i u hu'=>?_⟩
   ·have h1:=hcj.2.2 0 hsz
    have hlt:0<p.2.length:=by rw [hcj.2.1];exact hsz
    rw [List.getElem?_eq_getElem hlt,iU,iU] at h1
    unfold World.cell? at h1
    split at h1
    ·rename_i heq
     have:=qF heq
     exact this
    cases h1
   have hlt:i<sz:=by have:=(List.getElem?_eq_some_iff.1 hu').1;omega
   have h1:=hcj.2.2 i hlt
   rw [iU,iU] at h1
   rw [<- hu'];exact h1
 ·intro c hc
  obtain ⟨p,hp,rfl⟩:=List.mem_map.1 hc
  obtain ⟨i,hi',rfl⟩:=getElem_of_mem hp
  exact (g3 i _ (List.getElem?_eq_getElem hi')).2.2.1
 have:∀ (l:List (α×List Value)),(∀ p∈l,Xb (k0 W) (e p.1) p.2)->Mb (k0 W) ((l.map (·.1)).map e) (l.map (·.2)):=fun l=>by
  induction l with
  | nil=>exact fun _=>.nil
  | cons p l ih=>exact fun h=>.cons (h p (by simp)) (ih fun q hq=>h q (by simp [hq]))
 refine this ps fun p hp=>?_
 obtain ⟨i,hi',rfl⟩:=getElem_of_mem hp
 exact (g3 i _ (List.getElem?_eq_getElem hi')).2.1
theorem Ct {α:Type} {t E sz by':Nat} {z:Value} {e:α->List PV} {B:α->Prop} (hu:fQ t=some (.slice E)) (hi:iE E=some (z,sz,by')) (h0:Nat.blt 0 sz=true) (hb0:Nat.blt 0 by'=true) (hE:Kf eh nb E e B):Kf eh nb t (eL e) (fun l=>l.length*by'<=140737488355328/\l.length<=nb/\∀ x∈l,B x):=fun W fuel cs x hx hw =>
 AT (N:=fuel) hu hi h0 hb0 (fun W' f' cs' x' _=>hE W' f' cs' x') W fuel cs x (Nat.lt_succ_self _) hx hw
end
end SX
end Go.Proofs.YtbedcfghfcmkdaaGreatDoor
set_option maxRecDepth 100000
namespace Go.Proofs.YtbedcfghfcmkdaaGreatDoor
open Go Go.ChangeShapes Go.WideShapes Go.RowKit
namespace SX
theorem own_ok:ownKnob Tryz.prog.godebug=none:=by kernel_rfl
theorem DC:laidOutB Tryz.prog=true:=by kernel_rfl
def vX:List (String×DataW Unit):=[("math/bits.deBruijn32tab",Rows.laid_math_bits_deBruijn32tab),("math/bits.deBruijn64tab",Rows.laid_math_bits_deBruijn64tab),("internal/strconv.uint64pow10",Rows.laid_internal_strconv_uint64pow10),("unicode/utf8.acceptRanges",Rows.laid_unicode_utf8_acceptRanges),("strconv.ErrRange",Rows.laid_strconv_ErrRange),("strconv.ErrSyntax",Rows.laid_strconv_ErrSyntax),("customs/nomenclature.lengths",Rows.laid_customs_nomenclature_lengths),("unicode/utf8.first",Rows.laid_unicode_utf8_first)]
mutual
def tY:DataW Unit->List Value
 | .lit (.int k n)=>[.int k n]
 | .agg ds=>EE ds
 | _=>[]
def EE:List (DataW Unit)->List Value
 | []=>[]
 | d::r=>tY d++EE r
end
def sq:Array Value:=(tY Rows.laid_math_bits_deBruijn32tab).toArray
def sr:Array Value:=(tY Rows.laid_math_bits_deBruijn64tab).toArray
def ru:Array Value:=(tY Rows.laid_internal_strconv_uint64pow10).toArray
def sX:Array Value:=(tY Rows.laid_unicode_utf8_acceptRanges).toArray
def qT:Array Value:=(tY Rows.laid_customs_nomenclature_lengths).toArray
def AU:Array Value:=(tY Rows.laid_unicode_utf8_first).toArray
def vY (h:Array Obj) (g:Nat) (cs:Array Value):Array Obj:=h.modify g fun | .cells _ t frozen=>.cells cs t frozen | o=>o
noncomputable def low:Nat:=(World.holding Tryz.prog default ⟨#[],#[],[]⟩).heap.size
noncomputable def laidWorld (os:Os):World :=
 { World.holding Tryz.prog os ⟨#[.cells #[.string ⟨#[118,97,108,117,101,32,111,117,116,32,111,102,32,114,97,110,103,101]⟩] 334,.cells #[.string ⟨#[105,110,118,97,108,105,100,32,115,121,110,116,97,120]⟩] 334],#[],[]⟩ with heap:=vY (vY (vY (vY (vY (vY (vY (vY (World.holding Tryz.prog os ⟨#[.cells #[.string ⟨#[118,97,108,117,101,32,111,117,116,32,111,102,32,114,97,110,103,101]⟩] 334,.cells #[.string ⟨#[105,110,118,97,108,105,100,32,115,121,110,116,97,120]⟩] 334],#[],[]⟩).heap 9 sq) 10 sr) 4 ru) 8 sX) 3 #[.iface 332 (.pointer (some ⟨low,0,none⟩))]) 2 #[.iface 332 (.pointer (some ⟨low+1,0,none⟩))]) 0 qT) 7 AU }
theorem yy:(vX.filter fun x=>x.2.handleName?.isSome)=[]:=by kernel_rfl
theorem yP (os:Os) (args:Array Value):laidMetH Tryz.prog vX ((laidWorld os).forCall (fun _ _=>0) ⟨#[],args,[]⟩).memory:=by
 unfold laidMetH
 rw [yy]
 exact laidMet_of_run' 8 (by kernel_rfl) (by kernel_rfl)
theorem uP {P:Program} {W:World} {name:String} {k:IntKind} {zs:List Int} {d:DataW Unit} {g:Nat} {t e:TypeId} {n:Nat} (h:Lib.VarReads P W name d) (hd:d=Lib.tabData k zs)
    (hg:P.globalNamed name=some g) (hty:(P.globals[g]?).map (·.type)=some t) (ht:P.underlying t=some (.array n e)) (he:P.underlying e=some (.int k)) (hce:P.cellsOf e=1) (hct:P.cellsOf t=n):Lib.TabIs P W name k zs:=by
  subst hd
  obtain ⟨g',t',cs,fuel,p,hg',ht',hvar,hd⟩:=h
  obtain rfl:=Option.some.inj (hg.symm.trans hg')
  obtain rfl:=Option.some.inj (hty.symm.trans ht')
  unfold Lib.TabIs
  rw [hvar,<- Lib.cells_of_tab ht he hce hct hd]
theorem Cu {W:World} {n:String} {g:Nat} {cs:Array Value} (hg:Tryz.prog.globalNamed n=some g) (hv:W.var? Tryz.prog n=some cs):(k0 W).S g:=by
 unfold World.var? at hv
 rw [hg,fP] at hv
 split at hv
 ·rename_i heq;exact qF heq
 cases hv
theorem Cv {W:World} (h:laidMetH Tryz.prog vX W):Xe (k0 W):=by
 unfold laidMetH at h
 rw [yy] at h
 have hL:=Lib.laidMet.reads h (n := "customs/nomenclature.lengths") (d:=Rows.laid_customs_nomenclature_lengths) (by simp [vX])
 have hP:=Lib.laidMet.reads h (n := "internal/strconv.uint64pow10") (d:=Rows.laid_internal_strconv_uint64pow10) (by simp [vX])
 have g1:Tryz.prog.globalNamed "customs/nomenclature.lengths" = some 0:=by kernel_rfl
 have g2:Tryz.prog.globalNamed "internal/strconv.uint64pow10" = some 4:=by kernel_rfl
 have t1:=uP (k:=.i64) (zs:=[2,4,6,8]) (e:=3) (n:=4) (t:=213) hL rfl g1 (by kernel_rfl) (by kernel_rfl) (by kernel_rfl) (by kernel_rfl) (by kernel_rfl)
 have t2:=uP (k:=.u64) (zs:=Lib.pow10Tab) (e:=233) (n:=20) (t:=310) hP (by kernel_rfl) g2 (by kernel_rfl) (by kernel_rfl) (by kernel_rfl) (by kernel_rfl) (by kernel_rfl)
 refine ⟨⟨Cu g1 t1,fun j u hu=>?_⟩,Cu g2 t2,t2⟩
 have:=World.var?_cell g1 t1 j
 rw [Nat.zero_add]
 exact this.trans (by simpa using hu)
end SX
end Go.Proofs.YtbedcfghfcmkdaaGreatDoor
set_option maxRecDepth 100000
namespace Go.Proofs.YtbedcfghfcmkdaaGreatDoor
open Go Go.ChangeShapes Go.WideShapes Go.RowKit
namespace SX
theorem inv0 (W:World):Zt ⟨k0 W,[],none⟩ [] (k0 W):=⟨.refl _ _,fun _ h=>h,(fun _ h=>by cases h),(fun _ h=>by cases h),.nil⟩
theorem In {W:World} {ρ:List Ja} {O:Kr} (h:Zt ⟨k0 W,[],none⟩ ρ O):Below W.heap.size W O.w:=⟨h.le.os,h.le.tape,h.le.output,h.le.kle.size,fun k hk=>h.le.same k hk (by simp)⟩
section
variable {H:Type} {eh:TypeId×Value->H}
theorem yQ {W W':World} (hb:Below W.heap.size W W') {ts:List TypeId} (hr:∀ t∈ts,Tryz.prog.readableRec t=true/\t<Tryz.prog.types.size):∀ {vs:List Value} {ds:List (DataW H)} {ps:List MemPlace},DataW.TrodAll eh Tryz.prog W 0 (fun _=>true) true ts vs ds ps->(∀ p∈ps,p.block<W.heap.size)->DataW.TrodAll eh Tryz.prog W' 0 (fun b=>decide (b<W.heap.size)) true ts vs ds ps:=by
 induction ts with
 | nil=>intro vs ds ps h _;cases vs <;> cases ds <;> first | exact h | cases h
 | cons t ts ih =>
  intro vs ds ps h hlt
  cases vs with
  | nil=>cases h
  | cons v vs =>
   cases ds with
   | nil=>cases h
   | cons d ds =>
    obtain ⟨p,q,h1,h2,e⟩:=h
    have ht:=hr t (by simp)
    exact ⟨p,q,Below.trod DC ht.1 ht.2 h1 hb (fun x hx=>hlt x (by rw [e];simp [hx])),ih (fun u hu=>hr u (by simp [hu])) h2 (fun x hx=>hlt x (by rw [e];simp [hx])),e⟩
theorem readB {ts:List TypeId} (h:(ts.all fun t=>Tryz.prog.readableRec t&&Nat.blt t Tryz.prog.types.size)=true):∀ t∈ts,Tryz.prog.readableRec t=true/\t<Tryz.prog.types.size:=fun t ht=>by
 have:=List.all_eq_true.1 h t ht
 rw [and_eq_true] at this
 exact ⟨this.1,by have h2:=this.2;exact Nat.le_of_ble_eq_true h2⟩
theorem Io {f tb:Nat} {fn:Func} {s:ChangeSpec} {W:World} {args:Array Value} {ds gs:List (DataW H)} {before:List MemPlace} {pargs:List PV}
    (hrd:∀ t∈fn.params.toList,Tryz.prog.readableRec t=true/\t<Tryz.prog.types.size) (hres:fn.resultTypes=#[tb]) (hub:Tryz.prog.underlying tb=some .bool) (hvars:s.vars=[])
    (hspec:s.fn H ds={ results:=[.lit (.bool true)],args:=ds }) (hW:DataW.Whole eh Tryz.prog fn.params.toList s.vars false W args.toList ds gs before) (hG:Xe (k0 W)) (hargs:Xb (k0 W) pargs args.toList) (hPF:PF f pargs (.v (.bool true))) :
    Calls Tryz.prog f args W fun e W'=>∃ v,e=.returned v/\s.post eh Tryz.prog fn false true false false W args v W':=by
  have hc:=(hPF (k0 W) args.toList hG hargs).2 (inv0 W)
  have e:args.toList.toArray=args:=by simp
  rw [e] at hc
  refine Calls.mono hc fun en W' ⟨v,ρ',O',h1,h2,h3,h4,h5⟩=>⟨v,h1,?_⟩
  subst h2
  have hv:=h5.val
  subst hv
  have hb:=In h3
  have hW':=hW
  obtain ⟨p,q,hA,hV,rfl,hfz,hnd⟩:=hW
  rw [hvars] at hV
  obtain ⟨rfl,rfl⟩:gs=[]/\q=[]:=by
    cases gs with
    | nil=>exact ⟨rfl,hV⟩
    | cons g r=>exact absurd hV (by intro h;cases h)
  refine ⟨ds,[],_,[],p,[],hW',?_,?_,?_,hb.frame _,fun h=>by cases h⟩
  · rw [append_nil,hspec,hres];exact trodAll_mk1 (shut_bool hub true)
  · rw [append_nil,hspec];exact yQ hb hrd hA (DataW.TrodAll.lt hA)
  rw [hvars,append_nil,hspec];rfl
theorem trodAll_cons {W:World} {t:TypeId} {ts:List TypeId} {vs:List Value} {ds:List (DataW H)} {ps:List MemPlace} (h:DataW.TrodAll eh Tryz.prog W 0 (fun _=>true) true (t::ts) vs ds ps):∃ v vs' d ds' p q,vs=v::vs'/\ds=d::ds'/\DataW.Trod eh Tryz.prog W 0 (fun _=>true) true t v d p/\DataW.TrodAll eh Tryz.prog W 0 (fun _=>true) true ts vs' ds' q:=by
 cases vs with
 | nil=>cases h
 | cons v vs =>
  cases ds with
  | nil=>cases h
  | cons d ds=>obtain ⟨p,q,h1,h2,_⟩:=h;exact ⟨v,vs,d,ds,p,q,rfl,rfl,h1,h2⟩
theorem trodAll_nil {W:World} {vs:List Value} {ds:List (DataW H)} {ps:List MemPlace} (h:DataW.TrodAll eh Tryz.prog W 0 (fun _=>true) true [] vs ds ps):vs=[]/\ds=[]:=by
 cases vs <;> cases ds <;> first | exact ⟨rfl,rfl⟩ | cases h
theorem Cw {l:Array TypeId} (h:(l.toList.all fun t => !Tryz.prog.wantsStandIn t)=true) {j:Nat} {t:TypeId} (ht:l[j]?=some t):Tryz.prog.wantsStandIn t=false:=by
 have:=List.all_eq_true.1 h t (by have:=Array.mem_of_getElem? ht;simpa using this)
 simpa using this
theorem light_head {t:Nat} {ts:List Nat} {d:DataW H} {ds:List (DataW H)} (h:(DataW.weightsEach Tryz.prog (t::ts) (d::ds)).all (· <= reachBytes)=true):Xg t d/\(DataW.weightsEach Tryz.prog ts ds).all (· <= reachBytes)=true:=by
 simp only [DataW.weightsEach,List.all_append,and_eq_true] at h
 exact ⟨fun n hn=>by simpa using List.all_eq_true.1 h.1 n hn,h.2⟩
def yz:TypeDesc->Bool
 | .int _ | .bool | .string | .slice _=>true
 | _=>false
theorem not_agg {W:World} {r:Reach} {base t:Nat} {v:Value} {D:TypeDesc} (hu:fQ t=some D) (hD:yz D=true) (h:Value.okWide Tryz.prog W r base t v):∀ cs,v.cells.toList=[cs]->v=cs:=fun cs he=>by
 cases v with
 | agg arr =>
  exfalso
  unfold Value.okWide at h
  rw [bD hu] at h
  cases D <;> first | (revert hD;simp [yz];done) | (simp only at h;unfold Cell.okWide at h;rw [bD hu] at h;simp only at h;unfold Cell.ok at h;rw [bD hu] at h;simp at h)
 | _=>simpa [Value.cells] using he
theorem uQ {nb:Nat} {W:World} {r:Reach} {base t:Nat} {v:Value} {D:TypeDesc} {α:Type} {e:α->List PV} {B:α->Prop} {d:DataW H} {ps:List MemPlace} (hu:fQ t=some D) (hD:yz D=true) (hO:Kf eh nb t e B) (h1:∀ m,∃ p,e m=[p]) (h:Value.okWide Tryz.prog W r base t v) (hd:DataW.Trod eh Tryz.prog W 0 (fun _=>true) true t v d ps) (hl:Xg t d) (hn:Rows.uptoBulk d<=nb):∃ m,Xb (k0 W) (e m) [v]/\B m:=by
 obtain ⟨fuel,hf⟩:=hd
 obtain ⟨m,h2,_,h9⟩:=hO W fuel _ _ hf hl hn
 refine ⟨m,?_,h9⟩
 obtain ⟨p,hp⟩:=h1 m
 rw [hp] at h2
 generalize hc:v.cells.toList=cs at h2
 obtain ⟨w,ws,rfl,h3,h4⟩:=h2.cons_inv
 rw [h4.nil_inv] at hc
 rw [not_agg hu hD h w hc,hp]
 exact .cons h3 .nil
end
end SX
end Go.Proofs.YtbedcfghfcmkdaaGreatDoor
namespace Go.Proofs.YtbedcfghfcmkdaaGreatDoor
namespace SX
open Go
def bd3:Nat->Int->Prop:=fun _ _=>True
theorem op3 {H:Type} {eh:TypeId×Value->H} {nb:Nat}:Kf eh nb 3 eI (bd3 nb):=F1 rfl
def bd22:Nat->(List Int)->Prop:=fun n l=>l.length*8<=140737488355328/\l.length<=n/\∀ x∈l,bd3 n x
theorem op22 {H:Type} {eh:TypeId×Value->H} {nb:Nat}:Kf eh nb 22 (eL eI) (bd22 nb):=Ct rfl rfl rfl rfl op3
end SX
end Go.Proofs.YtbedcfghfcmkdaaGreatDoor
set_option maxRecDepth 100000
namespace Go.Proofs.YtbedcfghfcmkdaaGreatDoor
open Go Go.ChangeShapes Go.WideShapes Go.RowKit
open SX
theorem topTexts_lifted (os:Os) (started:os.Started) (H:Type) (enc:TypeId×Value->H) :
    ReturnsInHanded {} Tryz.checked os 3 .any (fun w args=>(Rows.topTextsSpec.pre enc Tryz.prog Tryz.f3 [] false w args/\laidMetH Tryz.prog vX w)/\sizedMet enc Tryz.prog Tryz.f3 (OpenSpec.ofChange Rows.topTextsSpec) false w args)
      (Rows.topTextsSpec.post enc Tryz.prog Tryz.f3 false true false false):=by
  refine returnsInHanded_of_change_and (C:=Tryz.checked) (X:=fun w _=>laidMetH Tryz.prog vX w) (fun _ _ _ hh h=>h.of_heap hh) own_ok started (by kernel_rfl) Tryz.func3
    (ChangeSpec.witness_at (enc:=enc) (C:=Tryz.checked) (os:=os) (X:=fun w _=>laidMetH Tryz.prog vX w) false (laidWorld os) #[.slice none 0 0,.slice none 0 0,.slice none 0 0,.slice none 0 0,.int .i64 0] 8 rfl (by kernel_rfl) (by kernel_rfl) (by kernel_rfl) (by kernel_rfl) (by kernel_rfl) (yP os _)) ?_
  intro W base args ds gs before hval0 hW _ hwt hL _
  have hval:∀ (j:Nat) t v,Tryz.f3.params[j]?=some t->args[j]?=some v->Value.okWide Tryz.prog W .any base t v:=hval0
  have hW2:=hW
  obtain ⟨p,q,hA0,hV0,rfl,_,_⟩:=hW
  have hA:DataW.TrodAll enc Tryz.prog W 0 (fun _=>true) true [22,22,22,22,3] args.toList ds p:=hA0
  obtain ⟨rfl,rfl⟩:gs=[]/\q=[]:=by
    cases gs with
    | nil=>exact ⟨rfl,hV0⟩
    | cons g r=>exact absurd hV0 (by intro h;cases h)
  generalize hargs:args.toList=vs at hA
  have hval2:∀ (j:Nat) t v,[22,22,22,22,3][j]?=some t->vs[j]?=some v->Value.okWide Tryz.prog W .any base t v:=fun j t v h1 h2=>hval j t v (by rw [Tryz.params3];simpa using h1) (by rw [<- hargs] at h2;simpa using h2)
  obtain ⟨v0,vs0,d0,ds0,p0,q0,rfl,rfl,h0,hA⟩:=SX.trodAll_cons hA
  obtain ⟨v1,vs1,d1,ds1,p1,q1,rfl,rfl,h1,hA⟩:=SX.trodAll_cons hA
  obtain ⟨v2,vs2,d2,ds2,p2,q2,rfl,rfl,h2,hA⟩:=SX.trodAll_cons hA
  obtain ⟨v3,vs3,d3,ds3,p3,q3,rfl,rfl,h3,hA⟩:=SX.trodAll_cons hA
  obtain ⟨v4,vs4,d4,ds4,p4,q4,rfl,rfl,h4,hA⟩:=SX.trodAll_cons hA
  obtain ⟨rfl,rfl⟩:=SX.trodAll_nil hA
  have hw:(DataW.weightsEach Tryz.prog [22,22,22,22,3] [d0,d1,d2,d3,d4]).all (· <= reachBytes)=true:=hwt
  obtain ⟨l0,hw⟩:=SX.light_head hw
  obtain ⟨m0,s0,b0⟩:=uQ rfl rfl op22 (fun _=>⟨_,rfl⟩) (hval2 0 22 v0 rfl rfl) h0 l0 (le_refl _)
  obtain ⟨l1,hw⟩:=SX.light_head hw
  obtain ⟨m1,s1,b1⟩:=uQ rfl rfl op22 (fun _=>⟨_,rfl⟩) (hval2 1 22 v1 rfl rfl) h1 l1 (le_refl _)
  obtain ⟨l2,hw⟩:=SX.light_head hw
  obtain ⟨m2,s2,b2⟩:=uQ rfl rfl op22 (fun _=>⟨_,rfl⟩) (hval2 2 22 v2 rfl rfl) h2 l2 (le_refl _)
  obtain ⟨l3,hw⟩:=SX.light_head hw
  obtain ⟨m3,s3,b3⟩:=uQ rfl rfl op22 (fun _=>⟨_,rfl⟩) (hval2 3 22 v3 rfl rfl) h3 l3 (le_refl _)
  obtain ⟨l4,hw⟩:=SX.light_head hw
  obtain ⟨m4,s4,b4⟩:=uQ rfl rfl op3 (fun _=>⟨_,rfl⟩) (hval2 4 3 v4 rfl rfl) h4 l4 (le_refl _)
  exact Io (readB (by kernel_rfl)) rfl (bD rfl) rfl (by simp [Rows.topTextsSpec]) hW2 (Cv hL) (by rw [hargs];exact (s0.app (s1.app (s2.app (s3.app s4))))) (qN (AS m0 m1 m2 m3 m4 s0 s1 s2 s3 s4))
theorem topTexts_holds:Rows.TopTextsSaid :=
 OpenClaim.holds_of_wide 3 Tryz.f3 rfl rfl rfl rfl rfl rfl rfl ⟨rfl,rfl,rfl,rfl,rfl⟩ rfl rfl rfl rfl rfl topTexts_named Tryz.func3 topTexts_closed
  (of_decide_eq_true (by kernel_rfl)) (by unfold Func.isWrapper;rw [if_neg (of_decide_eq_false (by kernel_rfl))];exact ⟨rfl,rfl⟩)
  (fun os started H enc _=>topTexts_lifted os started H enc)
theorem topTexts_card:Rows.TopTextsCardSaid :=
 Claim7.holds_tied_plain_at .later [] [.data,.data,.data,.data,.sentinel,.sentinel,.data,.pinned] true (true, "eb117cc1e1ff14581c679f085ada7c156c1e92e732d455f2831dacd4e3e97c0e") true
  topTexts_holds (fun _ h=>by cases h) (by as_aux_lemma=>kernel_rfl) (fun _ h=>by cases h) topTexts_row_tie rfl ⟨rfl,rfl⟩ fp_main rfl
  (fun f fn hf hfn=>by
   obtain rfl:f=3:=Option.some.inj ((show Tryz.prog.funcNamed "customs/customstop.TopTexts" = some 3 from topTexts_named).symm.trans hf) |>.symm
   obtain rfl:fn=Tryz.f3:=(Option.some.inj (Tryz.func3.symm.trans hfn)).symm
   exact ⟨fp_looks,fun j t ht=>by
    rw [Tryz.params3] at ht
    exact Cw (by as_aux_lemma=>kernel_rfl) ht⟩)
  topTexts_goes
#print axioms topTexts_card
end Go.Proofs.YtbedcfghfcmkdaaGreatDoor
