/- OriginErrors: for every input the law returns true, and each argument reads afterwards as it read before. Conditions: the package variables are as the program's text lays them (the card ties them). -/
import Derived.Test.YtgmbmepakpcpaaaGreatDoorM4
import Derived.Test.YtgmbmepakpcpaaaGreatDoorL10q
set_option linter.unusedVariables false
set_option linter.unusedSimpArgs false
set_option maxHeartbeats 4000000
set_option maxRecDepth 100000
namespace Go.Proofs.YtgmbmepakpcpaaaGreatDoor
namespace SX
open Go
theorem pZ {α T:Type} (p:α→Bool) (f:Nat→T):∀ (l:List α) (i:Nat),(bW (fun k x=>cond (p x) (some (f k)) none) l i=none∧l.find? p=none)∨∃ j,∃ h:j<l.length,bW (fun k x=>cond (p x) (some (f k)) none) l i=some (f (i+j))∧l.find? p=some l[j]
 | [],_=>.inl ⟨rfl,rfl⟩
 | x::xs,i=>by
  rw [bW,List.find?_cons]
  cases hp:p x
  ·rcases pZ p f xs (i+1) with ⟨h1,h2⟩ | ⟨j,hj,h1,h2⟩
   ·exact .inl ⟨h1,h2⟩
   exact .inr ⟨j+1,by simpa using hj,by rw [show i+(j+1)=i+1+j by omega];exact h1,h2⟩
  exact .inr ⟨0,by simp,rfl,rfl⟩
def lH (l:List ByteArray) (s:ByteArray):Bool:=l.any fun x=>decide (x=s)
theorem FC (l:List ByteArray) (s:ByteArray):lH l s=true↔s∈l:=by
 unfold lH;simp
theorem r8 (l:List ByteArray) (s:ByteArray) (hl:l.length≤140737488355328):bJ l s=some (lH l s):=by
 unfold bJ
 have e:df l s=some (match bW (fun k x=>cond (decide (x=s)) (some (Sum.inr (k:Int):Unit⊕Int)) none) l 0 with | some (.inr k)=>k | _ => -1):=by
  unfold df
  refine (bM (l:=l) (by omega) (fun k x=>cond (decide (x=s)) (some (.inr (k:Int))) none) (.inl ()) (fun k hk=>?_) (by simp only [cP,bu])).trans ?_
  ·simp only [iq hk,bQ,aU hk,be,bP hk (show l.length≤4611686018427387904 by omega)]
   have e:decide (s=l[k])=decide (l[k]=s):=decide_eq_decide.2 eq_comm
   rw [e];cases decide (l[k]=s) <;> rfl
  cases bW (fun k x=>cond (decide (x=s)) (some (Sum.inr (k:Int):Unit⊕Int)) none) l 0 with
  | none=>rfl
  | some t=>cases t <;> rfl
 rw [e,be]
 rcases pZ (fun x=>decide (x=s)) (fun k=>(Sum.inr (k:Int):Unit⊕Int)) l 0 with ⟨h1,h2⟩ | ⟨j,hj,h1,h2⟩
 ·rw [h1]
  have:lH l s=false:=by unfold lH;rw [List.any_eq_false];exact fun x hx=>by have:=List.find?_eq_none.1 h2 x hx;simpa using this
  rw [this];rfl
 rw [h1]
 have:lH l s=true:=by
  have:=List.find?_some h2
  rw [FC];rw [← of_decide_eq_true this];exact List.getElem_mem hj
 rw [this]
 show some (decide (0≤((0+j:Nat):Int)))=_
 rw [det (by omega)]
theorem qu (l:List ByteArray) (s:ByteArray) (hl:l.length≤140737488355328):ir l s=some (lH l s):=by
 unfold ir
 refine (bM (l:=l) (by omega) (fun _ x=>cond (decide (x=s)) (some (.inr true)) none) (.inl ()) (fun k hk=>?_) (by simp only [cP,bu])).trans ?_
 ·simp only [iq hk,bQ,aU hk,be,bP hk (show l.length≤4611686018427387904 by omega)]
  cases decide (l[k]=s) <;> rfl
 rw [qo (fun x=>decide (x=s))]
 unfold lH;cases (l.any fun x=>decide (x=s)) <;> rfl
def lQ (l:List Zb) (id:Int):Option Zb:=l.find? fun a=>a.ID == id
def Do:Zb:=⟨0,0,[],[]⟩
theorem sQ (l:List Zb) (id:Int) (hl:l.length≤140737488355328):fh l id=some (gU Do (lQ l id)):=by
 unfold fh lQ
 refine (bM (l:=l) (by omega) (fun _ x=>cond (x.ID == id) (some (.inr (x,true))) none) (.inl ()) (fun k hk=>?_) (by simp only [cP,bu])).trans ?_
 ·simp only [iq hk,bQ,aU hk,be,bP hk (show l.length≤4611686018427387904 by omega)]
  cases (l[k].ID == id) <;> rfl
 rw [kE (fun x:Zb=>x.ID == id) (fun x=>(Sum.inr (x,true):Unit⊕(Zb×Bool)))]
 cases l.find? (fun x:Zb=>x.ID == id) <;> rfl
theorem rt (l:List Zb) (id:Int) (hl:l.length≤140737488355328):eu l id=some (gU Do (lQ l id)):=by
 unfold eu lQ
 have e:bC l (fun y3=>gn y3 id)=some (match bW (fun k (x:Zb)=>cond (x.ID == id) (some (Sum.inr (k:Int):Unit⊕Int)) none) l 0 with | some (.inr k)=>k | _ => -1):=by
  unfold bC gn
  refine (bM (l:=l) (by omega) (fun k x=>cond (x.ID == id) (some (.inr (k:Int))) none) (.inl ()) (fun k hk=>?_) (by simp only [cP,bu])).trans ?_
  ·simp only [iq hk,bQ,aU hk,be,bP hk (show l.length≤4611686018427387904 by omega)]
   cases (l[k].ID == id) <;> rfl
  cases bW (fun k (x:Zb)=>cond (x.ID == id) (some (Sum.inr (k:Int):Unit⊕Int)) none) l 0 with
  | none=>rfl
  | some t=>cases t <;> rfl
 rw [e,be]
 rcases pZ (fun x:Zb=>x.ID == id) (fun k=>(Sum.inr (k:Int):Unit⊕Int)) l 0 with ⟨h1,h2⟩ | ⟨j,hj,h1,h2⟩
 ·rw [h1,h2];rfl
 rw [h1,h2]
 show cond (decide (((0+j:Nat):Int)<0)) _ (Option.bind (idx l ((0+j:Nat):Int)) _)=_
 rw [cw (by omega),Nat.zero_add,aU hj];rfl
def wA {α:Type} (R:α→α→Bool):List α→List α→Bool
 | [],_=>true
 | _::_,[]=>true
 | x::a,y::b=>R x y&&wA R a b
def jC {α:Type} (R:α→α→Bool) (a b:List α):Bool:=a.length == b.length&&wA R a b
theorem xg {α T:Type} (R:α→α→Bool) (t:T) (B:List α):∀ (a b:List α) (i:Nat),B.drop i=b→a.length=b.length→bW (fun k x=>cond (R x (B.getD k x)) none (some t)) a i=cond (wA R a b) none (some t)
 | [],b,_,_,_=>by cases b <;> rfl
 | x::a,[],_,_,h=>by simp at h
 | x::a,y::b,i,hd,h=>by
  have hi:i<B.length:=by
   rcases Nat.lt_or_ge i B.length with h | h
   ·exact h
   rw [List.drop_of_length_le h] at hd;cases hd
  rw [List.drop_eq_getElem_cons hi] at hd
  injection hd with h1 h2
  rw [bW,wA,dF hi,h1,xg R t B a b (i+1) h2 (by simpa using h)]
  cases R x y <;> rfl
theorem r9 {α:Type} {R:α→α→Bool}:∀ {a b:List α},(∀ x∈a,∀ y∈b,R x y=true↔x=y)→(jC R a b=true↔a=b)
 | [],[],_=>by simp [jC,wA]
 | [],y::b,_=>by simp [jC]
 | x::a,[],_=>by simp [jC]
 | x::a,y::b,h=>by
  have ih:=r9 (R:=R) (a:=a) (b:=b) fun u hu v hv=>h u (by simp [hu]) v (by simp [hv])
  have h0:=h x (by simp) y (by simp)
  unfold jC at ih ⊢
  rw [wA]
  simp only [List.length_cons,Bool.and_eq_true,beq_iff_eq,Nat.add_right_cancel_iff,List.cons.injEq] at ih ⊢
  constructor
  ·rintro ⟨h1,h2,h3⟩;exact ⟨h0.1 h2,ih.1 ⟨h1,h3⟩⟩
  rintro ⟨h1,h2⟩;exact ⟨(ih.2 h2).1,h0.2 h1,(ih.2 h2).2⟩
theorem oK {α:Type} (a b:List α):((a.length:Int) != (b.length:Int)) = !(a.length == b.length):=by
 by_cases h:a.length=b.length
 ·rw [h];simp
 have h2:¬ (a.length:Int)=(b.length:Int):=by omega
 have e1:(a.length == b.length)=false:=by simpa using h
 have e2:((a.length:Int) == (b.length:Int))=false:=by simpa using h2
 rw [e1,bne,e2]
theorem oL {α:Type} {a b:List α} (ha:a.length≤140737488355328) (R:α→α→Bool) {body:Int→Option (Int⊕(Unit⊕Bool))} {k:Unit⊕Bool→Option Bool} (hk:k (.inl ())=some true∧k (.inr false)=some false) (hab:a.length=b.length)
    (hstep:∀ (k:Nat) (hk:k<a.length) (hk2:k<b.length),body (k:Int)=some (qz k (cond (R a[k] b[k]) none (some (.inr false))))) (hend:body (a.length:Int)=some (.inr (.inl ()))):Option.bind (aW body FUEL 0) k=some (wA R a b):=by
  refine (bM (l:=a) (by omega) (fun i x=>cond (R x (b.getD i x)) none (some (.inr false))) (.inl ()) (fun i hi=>?_) hend).trans ?_
  · rw [hstep i hi (by omega),dF (show i<b.length by omega)]
  rw [xg R (Sum.inr false:Unit⊕Bool) b a b 0 rfl hab]
  cases wA R a b
  · exact hk.2
  exact hk.1
theorem p6 (a b:List ByteArray) (ha:a.length≤140737488355328):gq a b=some (decide (a=b)):=by
 have hiff:jC (fun x y=>decide (x=y)) a b=decide (a=b):=by
  have:=r9 (R:=fun x y:ByteArray=>decide (x=y)) (a:=a) (b:=b) (fun x _ y _=>by simp)
  cases h:jC (fun x y=>decide (x=y)) a b
  ·rw [h] at this;exact (cw fun e=>by have:=this.2 e;cases this).symm
  exact (det (this.1 h)).symm
 rw [← hiff]
 unfold gq jC
 rw [oK]
 cases h:(a.length == b.length)
 ·rfl
 simp only [Bool.not_true,bu,Bool.true_and]
 refine oL ha _ ⟨rfl,rfl⟩ (eq_of_beq h) (fun k hk hk2=>?_) (by simp only [cP,bu])
 simp only [iq hk,bQ,aU hk,aU hk2,be,bP hk (show a.length≤4611686018427387904 by omega)]
 cases decide (a[k]=b[k]) <;> rfl
theorem t8 (a b:List ByteArray) (ha:a.length≤140737488355328):dY a b=some (decide (a=b)):=by
 rw [← p6 a b ha];rfl
theorem Ab (a b:List Int) (ha:a.length≤140737488355328):mO a b=some (decide (a=b)):=by
 have hiff:jC (fun x y:Int=>x == y) a b=decide (a=b):=by
  have:=r9 (R:=fun x y:Int=>x == y) (a:=a) (b:=b) (fun x _ y _=>by simp)
  cases h:jC (fun x y:Int=>x == y) a b
  ·rw [h] at this;exact (cw fun e=>by have:=this.2 e;cases this).symm
  exact (det (this.1 h)).symm
 rw [← hiff]
 unfold mO jC
 rw [oK]
 cases h:(a.length == b.length)
 ·rfl
 simp only [Bool.not_true,bu,Bool.true_and]
 refine oL ha _ ⟨rfl,rfl⟩ (eq_of_beq h) (fun k hk hk2=>?_) (by simp only [cP,bu])
 simp only [iq hk,bQ,aU hk,aU hk2,be,bP hk (show a.length≤4611686018427387904 by omega),bne]
 cases (a[k] == b[k]) <;> rfl
theorem wB (a b:List Za) (ha:a.length≤140737488355328):gP a b=some (decide (a=b)):=by
 have hiff:jC Za.eqb a b=decide (a=b):=by
  have:=r9 (R:=Za.eqb) (a:=a) (b:=b) (fun x _ y _=>Za.eqb_iff)
  cases h:jC Za.eqb a b
  ·rw [h] at this;exact (cw fun e=>by have:=this.2 e;cases this).symm
  exact (det (this.1 h)).symm
 rw [← hiff]
 unfold gP jC
 rw [oK]
 cases h:(a.length == b.length)
 ·rfl
 simp only [Bool.not_true,bu,Bool.true_and]
 refine oL ha _ ⟨rfl,rfl⟩ (eq_of_beq h) (fun k hk hk2=>?_) (by simp only [cP,bu])
 simp only [iq hk,bQ,aU hk,aU hk2,be,bP hk (show a.length≤4611686018427387904 by omega)]
 cases Za.eqb a[k] b[k] <;> rfl
mutual
def hX:Zd→Zd→Bool
 | ⟨k,d,e,t,m,n,l⟩,⟨k',d',e',t',m',n',l'⟩=>k == k'&&d == d'&&t == t'&&m == m'&&decide (n=n')&&decide (e=e')&&ju l l'
def ju:List Zd→List Zd→Bool
 | [],[]=>true
 | [],_::_=>false
 | _::_,[]=>false
 | a::l,b::m=>hX a b&&ju l m
end
mutual
theorem Bn:∀ a b:Zd,hX a b=true↔a=b
 | ⟨k,d,e,t,m,n,l⟩,⟨k',d',e',t',m',n',l'⟩=>by
  rw [hX]
  simp only [Bool.and_eq_true,beq_iff_eq,decide_eq_true_eq,tz l l',Zd.mk.injEq]
  constructor
  ·rintro ⟨⟨⟨⟨⟨⟨h1,h2⟩,h3⟩,h4⟩,h5⟩,h6⟩,h7⟩;exact ⟨h1,h2,h6,h3,h4,h5,h7⟩
  rintro ⟨h1,h2,h6,h3,h4,h5,h7⟩;exact ⟨⟨⟨⟨⟨⟨h1,h2⟩,h3⟩,h4⟩,h5⟩,h6⟩,h7⟩
theorem tz:∀ a b:List Zd,ju a b=true↔a=b
 | [],[]=>by simp [ju]
 | [],_::_=>by simp [ju]
 | _::_,[]=>by simp [ju]
 | a::l,b::m=>by rw [ju,Bool.and_eq_true,Bn a b,tz l m,List.cons.injEq]
end
theorem tA:∀ a b:List Zd,ju a b=jC hX a b
 | [],[]=>by simp [ju,jC,wA]
 | [],_::_=>by simp [ju,jC]
 | _::_,[]=>by simp [ju,jC]
 | a::l,b::m=>by
  rw [ju,tA l m]
  unfold jC
  rw [wA,List.length_cons,List.length_cons]
  have:(l.length+1 == m.length+1)=(l.length == m.length):=by
   cases h:(l.length == m.length)
   ·have:=(beq_eq_false_iff_ne).1 h;exact beq_eq_false_iff_ne.2 (by omega)
   have:=eq_of_beq h;rw [this];simp
  rw [this]
  cases hX a b <;> cases (l.length == m.length) <;> rfl
theorem vE (a b:Zd):hX a b=(a.Kind == b.Kind&&a.Digits == b.Digits&&a.Tolerance == b.Tolerance&&a.Limit == b.Limit&&decide (a.Name=b.Name)&&decide (a.Except=b.Except)&&jC hX a.Args b.Args):=by
 cases a;cases b;rw [hX,tA]
theorem Bo (n:Nat):∀ (a b:Zd),ROk a→sO a≤n→iS n a b=some (hX a b):=by
 induction n with
 | zero=>intro a b _ hd;rw [kj] at hd;omega
 | succ n ih =>
  intro a b ha hd
  show gN (iS n) a b=_
  unfold gN
  rw [p6 _ _ ha.ex.1,vE,oK]
  simp only [bne]
  have hl:=ha.len
  cases (a.Kind == b.Kind)
  ·rfl
  cases (a.Digits == b.Digits)
  ·rfl
  cases (a.Tolerance == b.Tolerance)
  ·rfl
  cases (a.Limit == b.Limit)
  ·rfl
  cases decide (a.Name=b.Name)
  ·rfl
  simp only [Bool.not_true,Bool.or_self,Bool.not_false,cI,be,Bool.false_or,Bool.and_self,Bool.true_and]
  cases decide (a.Except=b.Except)
  ·rfl
  unfold jC
  cases h:(a.Args.length == b.Args.length)
  ·rfl
  simp only [Bool.not_true,Bool.or_self,bu,Bool.true_and]
  refine oL hl _ ⟨rfl,rfl⟩ (eq_of_beq h) (fun k hk hk2=>?_) (by simp only [cP,bu])
  simp only [iq hk,bQ,aU hk,aU hk2,be,bP hk (show a.Args.length≤4611686018427387904 by omega)]
  rw [ih _ _ (ha.arg (List.getElem_mem hk)) (by have:=kl (List.getElem_mem hk);omega),be]
  cases hX a.Args[k] b.Args[k] <;> rfl
theorem Ac (n:Nat):∀ (a b:Zd),ROk a→sO a≤n→d9 n a b=some (hX a b):=by
 induction n with
 | zero=>intro a b _ hd;rw [kj] at hd;omega
 | succ n ih =>
  intro a b ha hd
  have hl:=ha.len
  have hA:bm a.Args b.Args (fun y4 y5=>d9 n y4 y5)=some (jC hX a.Args b.Args):=by
   unfold bm jC
   rw [oK]
   cases h:(a.Args.length == b.Args.length)
   ·rfl
   simp only [Bool.not_true,bu,Bool.true_and]
   refine oL hl _ ⟨rfl,rfl⟩ (eq_of_beq h) (fun k hk hk2=>?_) (by simp only [cP,bu])
   simp only [iq hk,bQ,aU hk,aU hk2,be,bP hk (show a.Args.length≤4611686018427387904 by omega)]
   rw [ih _ _ (ha.arg (List.getElem_mem hk)) (by have:=kl (List.getElem_mem hk);omega),be]
   cases hX a.Args[k] b.Args[k] <;> rfl
  show dZ (d9 n) a b=_
  unfold dZ
  rw [t8 _ _ ha.ex.1,vE,hA]
  cases (a.Kind == b.Kind&&a.Digits == b.Digits&&a.Tolerance == b.Tolerance&&a.Limit == b.Limit&&decide (a.Name=b.Name))
  ·rfl
  cases decide (a.Except=b.Except)
  ·rfl
  cases jC hX a.Args b.Args <;> rfl
def Ad (x y:Zh):Bool:=decide (x.Prefix=y.Prefix)&&hX x.Rule y.Rule
theorem wC (a b:List Zh) (ha:a.length≤140737488355328) (hr:∀ x∈a,RFOk x):ii a b=some (jC Ad a b):=by
 unfold ii jC
 rw [oK]
 cases h:(a.length == b.length)
 ·rfl
 simp only [Bool.not_true,bu,Bool.true_and]
 refine oL ha _ ⟨rfl,rfl⟩ (eq_of_beq h) (fun k hk hk2=>?_) (by simp only [cP,bu])
 have hx:=hr _ (List.getElem_mem hk)
 simp only [iq hk,bQ,aU hk,aU hk2,be,bP hk (show a.length≤4611686018427387904 by omega),Ad]
 cases decide (a[k].Prefix=b[k].Prefix)
 ·rfl
 have e:mL a[k].Rule b[k].Rule=some (hX a[k].Rule b[k].Rule):=Bo FUEL _ _ hx.rule (by have hf:FUEL=1267650600228229401496703205376:=rfl;have:=hx.deep;omega)
 simp only [Bool.not_true,Bool.not_false,cI,be,e,Bool.false_or,Bool.true_and]
 cases hX a[k].Rule b[k].Rule <;> rfl
theorem vF (a b:List Zh) (ha:a.length≤140737488355328) (hr:∀ x∈a,RFOk x) (hv:∀ x∈a,kn x.Rule=0):eD a b=some (jC Ad a b):=by
 unfold eD bj jC
 rw [oK]
 cases h:(a.length == b.length)
 ·rfl
 simp only [Bool.not_true,bu,Bool.true_and]
 rw [oL ha Ad ⟨rfl,rfl⟩ (eq_of_beq h) (fun k hk hk2=>?_) (by simp only [cP,bu])]
 ·rfl
 have hx:=hr _ (List.getElem_mem hk)
 have hxv:=hv _ (List.getElem_mem hk)
 simp only [iq hk,bQ,aU hk,aU hk2,be,bP hk (show a.length≤4611686018427387904 by omega),Ad]
 unfold fa
 cases decide (a[k].Prefix=b[k].Prefix)
 ·rfl
 have e:iJ a[k].Rule b[k].Rule=some (hX a[k].Rule b[k].Rule):=Ac FUEL _ _ hx.rule (by have hf:FUEL=1267650600228229401496703205376:=rfl;have:=hx.deep;omega)
 simp only [cI,qr _ hx.rule hx.deep,hxv,be,beq_self_eq_true,Bool.and_self,e,Bool.true_and]
 cases hX a[k].Rule b[k].Rule <;> rfl
def Digs (l:List Int):Prop:=∀ x∈l,48≤x∧x≤57
theorem code_Y {p:Zk} (hp:SOK p) (n:Nat) (hn:n=6∨n=8):Y (gJ p (n:Int)) (fun r=>(∃ l:List Int,r.1=strOfNums l∧l.length=n∧Digs l)∧SOK r.2):=by
 unfold gJ
 refine (eH hp 2 (by omega) (by omega)).bind fun a ⟨a1,a2,a3⟩=>?_
 rw [cK (by omega) (by omega),xP (by omega)]
 refine Y.bind (P:=fun t:List Int×List Int×Int=>t.1.length=n∧Digs t.1∧SOK ⟨t.2.1,t.2.2⟩) ?_ fun t ⟨t1,t2,t3⟩=>?_
 ·refine Y.loop (fun s:List Int×List Int×Int=>(s.1.length % 2=0∧s.1.length≤n)∧Digs s.1∧SOK ⟨s.2.1,s.2.2⟩) (fun s=>n - s.1.length) ⟨⟨by simp,by simp;omega⟩,fun x hx=>by simp at hx;omega,a3⟩ (by dsimp only;omega) fun s hs=>?_
  obtain ⟨l,m,i⟩:=s
  obtain ⟨⟨s0,s1⟩,s2,s3⟩:=hs
  dsimp only at s0 s1 s2 s3 ⊢
  refine Y.cond (fun hc=>?_) (fun hc=>Y.ret ⟨by have:=of_decide_eq_false hc;dsimp only;omega,s2,s3⟩)
  have hc:=of_decide_eq_true hc
  refine (eH s3 3 (by omega) (by omega)).bind fun x ⟨x1,x2,x3⟩=>?_
  rw [cX (by simp;omega) (by simp;omega),be,cK (by omega) (by omega),xP (by omega)]
  refine Y.ret ⟨⟨⟨by simp;omega,by simp;omega⟩,fun z hz=>?_,x3⟩,by simp;omega⟩
  rcases List.mem_append.1 hz with hz | hz
  ·exact s2 z hz
  simp only [List.mem_cons,List.not_mem_nil,or_false] at hz;omega
 obtain ⟨l,m,i⟩:=t
 exact Y.ret ⟨⟨l,rfl,t1,t2⟩,t3⟩
theorem FD {l:List Int} {n:Nat} (hn:n=6∨n=8) (h1:l.length=n) (h2:Digs l):cM (strOfNums l)=(n:Int)∧(strOfNums l).size=n:=by
 have hs:(strOfNums l).size=n:=by
  unfold strOfNums
  show (Array.mk _).size=n
  simp [h1]
 have hd:kQ (strOfNums l)=true:=by
  unfold kQ bl strOfNums
  rw [List.all_eq_true]
  intro c hc
  simp only [List.mem_map] at hc
  obtain ⟨x,hx,rfl⟩:=hc
  have:=h2 x hx
  have h3:(UInt8.ofNat x.toNat).toNat=x.toNat:=by
   rw [UInt8.toNat_ofNat'];omega
  simp only [kb,h3,decide_eq_true_eq]
  omega
 refine ⟨?_,hs⟩
 unfold cM
 rw [if_pos ⟨by omega,hd⟩,hs]
def W5:List ByteArray:=[(⟨#[97,110,100]⟩:ByteArray),(⟨#[99,117,116]⟩:ByteArray),(⟨#[111,114]⟩:ByteArray),(⟨#[115,101,119]⟩:ByteArray),(⟨#[115,112,105,110]⟩:ByteArray)]
theorem W5_ok:W5.all gW=true∧ku iM W5=true∧(W5.all fun s=>decide (s.size≤100))=true:=⟨by kernel_rfl,by kernel_rfl,by kernel_rfl⟩
theorem Ae {p:Zk} (hp:SOK p):Y (eA p) (fun r=>r.1.Sublist W5∧SOK r.2):=by
 unfold eA
 refine (eH hp 32 (by omega) (by omega)).bind fun a ⟨a1,a2,a3⟩=>?_
 refine Y.bind (P:=fun l:List ByteArray=>l.Sublist W5) ?_ fun l hl=>Y.ret ⟨hl,a3⟩
 refine Y.loop (fun s=>∃ v:Nat,s.2=(v:Int)∧v≤5∧s.1.Sublist (W5.take v)) (fun s=>(5 - s.2).toNat) ⟨0,rfl,by omega,List.Sublist.refl _⟩ (by dsimp only;omega) fun s hs=>?_
 obtain ⟨l,i⟩:=s
 obtain ⟨v,rfl,h1,h2⟩:=hs
 dsimp only at h2 ⊢
 have hlen:l.length≤5:=by have:=h2.length_le;have h6:W5.length=5:=rfl;rw [List.length_take] at this;omega
 refine Y.cond (fun hc=>?_) (fun hc=>Y.ret (h2.trans (List.take_sublist _ _)))
 have hv:v<5:=by have:=of_decide_eq_true hc;omega
 have hs:=oH h2 (show v<W5.length from hv)
 refine Y.bind (P:=fun m:List ByteArray=>m.Sublist (W5.take (v+1))) (Y.eq (oI v) (Y.cond (fun _=>?_) fun _=>Y.ret hs.2)) fun m hm=>Y.ret ⟨⟨v+1,?_,by omega,hm⟩,?_⟩
 ·refine Y.idx (xs:=W5) rfl (show v<W5.length from hv) ?_
  rw [cX (by simp;omega) (by simp;omega)];exact Y.ret hs.1
 ·show IntKind.i64.wrap ((v:Int)+1)=_;rw [cK (by omega) (by omega)];omega
 show (5 - IntKind.i64.wrap ((v:Int)+1)).toNat<(5 - (v:Int)).toNat;rw [cK (by omega) (by omega)];omega
theorem codeN {x:Int} (h1:0≤x) (h2:x<2):∃ n:Nat,(n=6∨n=8)∧IntKind.i64.wrap (6+IntKind.i64.wrap (2*x))=(n:Int):=by
 rw [cK (r:=2*x) (by omega) (by omega),cK (by omega) (by omega)]
 exact ⟨(6+2*x).toNat,by omega,by omega⟩
structure MProd (n:Nat) (i:Nat) (p:Zc):Prop where
 id:p.ID=3*((i:Int)+1)
 lvl:(cM p.Code=6∨cM p.Code=8)∧6≤p.Code.size∧p.Code.size≤8
 ctr:p.Country∈C6
 price:1≤p.Price∧p.Price≤200
 proc:p.Processes.Sublist W5
 few:p.Inputs.length≤4
 asc:p.Inputs.Pairwise fun a b=>a.Product<b.Product
 inp:∀ x∈p.Inputs,(∃ k:Nat,k<n∧x.Product=3*((k:Int)+1))∧0≤x.Value∧x.Value<100
 obt:p.Obtained=true→p.Inputs=[]
structure MPs (l:List Zc):Prop where
 len:1≤l.length∧l.length≤10
 all:∀ (i:Nat) (p:Zc),l[i]?=some p→MProd l.length i p
theorem plan_Y (p0:List Int):Y (nK p0) MPs:=by
 unfold nK
 refine (cut_Y p0 300 (by omega) (by omega)).bind fun x1 hx1=>?_
 refine (eH hx1 10 (by omega) (by omega)).bind fun x3 ⟨a1,a2,a3⟩=>?_
 rw [cK (r:=1+x3.1) (by omega) (by omega)]
 obtain ⟨n,hn⟩:∃ n:Nat,1+x3.1=(n:Int):=⟨(1+x3.1).toNat,by omega⟩
 rw [hn]
 have hn1:1≤n∧n≤10:=by omega
 refine Y.bind (P:=MPs) ?_ fun l hl=>Y.ret hl
 refine Y.loop (fun s:List Zc×Int×List Int×Int=>(s.2.1=(s.1.length:Int)+1∧s.1.length≤n)∧SOK ⟨s.2.2.1,s.2.2.2⟩∧∀ i p,s.1[i]?=some p→MProd n i p) (fun s=>n - s.1.length) ⟨⟨rfl,by simp⟩,a3,by simp⟩ (by dsimp only;omega) fun s hs=>?_
 obtain ⟨l5,v8,l9,v10⟩:=s
 obtain ⟨⟨h1,h2⟩,h3,h4⟩:=hs
 dsimp only at h1 h2 h3 h4 ⊢
 refine Y.cond (fun hc=>?_) (fun hc=>Y.ret ?_)
 rotate_left
 ·have hc:=of_decide_eq_false hc
  have e:l5.length=n:=by omega
  exact ⟨by omega,by rw [e];exact h4⟩
 have hc:=of_decide_eq_true hc
 refine (eH h3 2 (by omega) (by omega)).bind fun x19 ⟨b1,b2,b3⟩=>?_
 obtain ⟨w,hw,e⟩:=codeN b1 b2
 rw [e]
 refine (code_Y b3 w hw).bind fun x20 ⟨⟨cl,hc1,hc2,hc3⟩,hx20⟩=>?_
 have hcode:=FD hw hc2 hc3
 refine Y.eq rU ?_
 refine (eH hx20 4 (by omega) (by omega)).bind fun x22 ⟨c1,c2,c3⟩=>?_
 obtain ⟨j,hj⟩:∃ j:Nat,x22.1=(j:Int):=⟨x22.1.toNat,by omega⟩
 refine Y.idx hj (show j<C6.length by have h6:C6.length=6:=rfl;omega) ?_
 refine (eH c3 200 (by omega) (by omega)).bind fun x24 ⟨d1,d2,d3⟩=>?_
 refine (Ae d3).bind fun x25 ⟨hpr,hx25⟩=>?_
 refine (eH hx25 4 (by omega) (by omega)).bind fun x26 ⟨_,_,h26⟩=>?_
 refine (eH h26 1024 (by omega) (by omega)).bind fun x28 ⟨_,_,h28⟩=>?_
 refine Y.bind (P:=fun t:List Int×Int×List Zg=>SOK ⟨t.1,t.2.1⟩∧t.2.2.length≤4∧(t.2.2.Pairwise fun a b=>a.Product<b.Product)∧(∀ x∈t.2.2,(∃ k:Nat,k<n∧x.Product=3*((k:Int)+1))∧0≤x.Value∧x.Value<100)∧((x26.1 == 1)=true→t.2.2=[])) ?_ fun t ⟨t1,t2,t3,t4,t5⟩=>?_
 ·refine Y.loop (fun s:Int×List Int×Int×List Zg=>∃ v:Nat,s.1=(v:Int)+1∧v≤n∧SOK ⟨s.2.1,s.2.2.1⟩∧s.2.2.2.length≤4∧(s.2.2.2.Pairwise fun a b=>a.Product<b.Product)∧(∀ x∈s.2.2.2,(∃ k:Nat,k<v∧x.Product=3*((k:Int)+1))∧0≤x.Value∧x.Value<100)∧((x26.1 == 1)=true→s.2.2.2=[])) (fun s=>(n+1 - s.1).toNat) ⟨0,rfl,by omega,h28,by simp,List.Pairwise.nil,by simp,fun _=>rfl⟩ (by dsimp only;omega) fun s hs=>?_
  obtain ⟨i,l,k,m⟩:=s
  obtain ⟨v,rfl,s1,s2,s3,s4,s5,s6⟩:=hs
  dsimp only at s2 s3 s4 s5 s6 ⊢
  refine Y.cond (fun hc3=>?_) (fun hc3=>Y.ret ⟨s2,s3,s4,fun x hx=>?_,s6⟩)
  rotate_left
  ·obtain ⟨⟨k,h5,h6⟩,h7⟩:=s5 x hx;exact ⟨⟨k,by omega,h6⟩,h7⟩
  simp only [Bool.and_eq_true,decide_eq_true_eq,Bool.not_eq_true'] at hc3
  obtain ⟨⟨hc4,hc5⟩,hc6⟩:=hc3
  rw [cK (r:=(v:Int)+1 - 1) (by omega) (by omega),cK (r:=(v:Int)+1+1) (by omega) (by omega),cK (r:=3*((v:Int)+1)) (by omega) (by omega)]
  refine Y.bind (P:=fun t:List Int×Int×List Zg=>SOK ⟨t.1,t.2.1⟩∧t.2.2.length≤4∧(t.2.2.Pairwise fun a b=>a.Product<b.Product)∧(∀ x∈t.2.2,(∃ k:Nat,k<v+1∧x.Product=3*((k:Int)+1))∧0≤x.Value∧x.Value<100)) ?_ fun t ⟨t1,t2,t3,t4⟩=>Y.ret ⟨⟨v+1,by dsimp only;omega,by omega,t1,t2,t3,t4,fun h=>by rw [hc6] at h;cases h⟩,by dsimp only;omega⟩
  rw [show (v:Int)+1 - 1=(v:Int) by omega]
  refine Y.eq (oI v) ?_
  refine Y.bind (P:=fun r:Int×Zk=>SOK r.2) (Y.gdp (fun _=>(eH s2 3 (by omega) (by omega)).mono fun r hr=>hr.2.2) fun _=>s2) fun x56 hx56=>?_
  refine Y.cond (fun _=>?_) (fun _=>Y.ret ⟨hx56,s3,s4,fun x hx=>?_⟩)
  rotate_left
  ·obtain ⟨⟨k,h5,h6⟩,h7⟩:=s5 x hx;exact ⟨⟨k,by omega,h6⟩,h7⟩
  refine (eH hx56 100 (by omega) (by omega)).bind fun x58 ⟨e1,e2,e3⟩=>?_
  rw [cX (by simp;omega) (by simp;omega),be]
  refine Y.ret ⟨e3,by simp;omega,?_,fun x hx=>?_⟩
  ·rw [List.pairwise_append]
   refine ⟨s4,List.pairwise_singleton _ _,fun a ha b hb=>?_⟩
   rw [List.mem_singleton.1 hb]
   obtain ⟨⟨k,h5,h6⟩,_⟩:=s5 a ha
   dsimp only;omega
  rcases List.mem_append.1 hx with hx | hx
  ·obtain ⟨⟨k,h5,h6⟩,h7⟩:=s5 x hx;exact ⟨⟨k,by omega,h6⟩,h7⟩
  rw [List.mem_singleton.1 hx];exact ⟨⟨v,by omega,rfl⟩,e1,e2⟩
 obtain ⟨l37,v38,l42⟩:=t
 dsimp only at t1 t2 t3 t4 t5 ⊢
 rw [cX (by simp;omega) (by simp;omega),be,cK (r:=v8+1) (by omega) (by omega),cK (r:=1+x24.1) (by omega) (by omega),cK (r:=3*v8) (by omega) (by omega)]
 refine Y.ret ⟨⟨⟨by simp;omega,by simp;omega⟩,t1,fun i p hp=>?_⟩,by simp;omega⟩
 rw [List.getElem?_append] at hp
 split at hp
 ·exact h4 i p hp
 rename_i hi
 have hi0:i - l5.length=0:=by have:=(List.getElem?_eq_some_iff.1 hp).1;simp at this;omega
 rw [hi0] at hp
 simp only [List.getElem?_cons_zero,eE] at hp
 subst hp
 refine ⟨by dsimp only;omega,?_,List.getElem_mem _,⟨by dsimp only;omega,by dsimp only;omega⟩,hpr,t2,t3,t4,t5⟩
 dsimp only;rw [hc1,hcode.1,hcode.2];omega
structure Sorted (l:List Zc):Prop where
 len:l.length≤1000000
 asc:l.Pairwise fun a b=>a.ID<b.ID
 small:∀ p∈l,p.Processes.length≤1000000∧p.Inputs.length≤1000000
def cj (l:List Zc) (id:Int):Option Zc:=l.find? fun p=>p.ID == id
def Af:Zc:=⟨0,ByteArray.empty,ByteArray.empty,0,false,[],[]⟩
theorem sR (l:List Zc) (id:Int) (hl:l.length≤140737488355328):eG l id=some (gU Af (cj l id)):=by
 unfold eG cj
 refine (bM (l:=l) (by omega) (fun _ x=>cond (x.ID == id) (some (.inr (x,true))) none) (.inl ()) (fun k hk=>?_) (by simp only [cP,bu])).trans ?_
 ·simp only [iq hk,bQ,aU hk,be,bP hk (show l.length≤4611686018427387904 by omega)]
  cases (l[k].ID == id) <;> rfl
 rw [kE (fun x:Zc=>x.ID == id) (fun x=>(Sum.inr (x,true):Unit⊕(Zc×Bool)))]
 cases l.find? (fun x:Zc=>x.ID == id) <;> rfl
theorem half_u (x:Nat) (h:x≤10000000):IntKind.i64.wrap (cx .u64 (IntKind.u64.wrap (IntKind.i64.wrap (x:Int))) 1)=((x / 2:Nat):Int):=by
 rw [cK (r:=(x:Int)) (by omega) (by omega),u64s (by omega) (by omega)]
 have:cx .u64 (x:Int) 1=(x:Int) / 2:=Int.fdiv_eq_ediv_of_nonneg _ (by decide)
 rw [this,cK (by omega) (by omega)];omega
theorem Dp (l:List Zc) (id:Int) (h:Sorted l):∃ j:Nat,gj l id=some ((j:Int),(cj l id).isSome)∧(∀ p,cj l id=some p→∃ hj:j<l.length,l[j]=p):=by
 have hl:=h.len
 have cmp:∀ p:Zc,ef p id=some (if p.ID<id then -1 else if id<p.ID then 1 else 0):=fun p=>by unfold ef;rw [cmpI];rfl
 unfold gj bH
 have hloop:Y (aW (S:=Int×Int) (T:=(Int×Int)) (fun (v1,v2)=>cond (decide (v1<v2)) (lb ((IntKind.i64.wrap (cx .u64 (IntKind.u64.wrap (IntKind.i64.wrap (v1+v2))) 1))) (fun w8=>Option.bind (idx l w8) (fun m9=>Option.bind (ef m9 id) (fun x10=>cond (decide (x10<0)) (some (.inl ((IntKind.i64.wrap (w8+1)),v2))) (some (.inl (v1,w8))))))) (some (.inr (id,v1)))) FUEL (0,(l.length:Int))) (fun t=>t.1=id∧∃ j:Nat,t.2=(j:Int)∧j≤l.length∧(∀ (k:Nat) (p:Zc),l[k]?=some p→k<j→p.ID<id)∧(∀ (k:Nat) (p:Zc),l[k]?=some p→j≤k→id≤p.ID)):=by
  refine Y.loop (fun s:Int×Int=>∃ i j:Nat,s.1=(i:Int)∧s.2=(j:Int)∧i≤j∧j≤l.length∧(∀ (k:Nat) (p:Zc),l[k]?=some p→k<i→p.ID<id)∧(∀ (k:Nat) (p:Zc),l[k]?=some p→j≤k→id≤p.ID)) (fun s=>(s.2 - s.1).toNat) ⟨0,l.length,rfl,rfl,by omega,by omega,fun k p _ hk=>absurd hk (Nat.not_lt_zero _),fun k p hp hk=>by have:=(List.getElem?_eq_some_iff.1 hp).1;omega⟩ (by dsimp only;omega) fun s hs=>?_
  obtain ⟨a,b⟩:=s
  obtain ⟨i,j,rfl,rfl,h1,h2,h3,h4⟩:=hs
  dsimp only
  refine Y.cond (fun hc=>?_) (fun hc=>Y.ret ⟨rfl,i,rfl,by omega,h3,fun k p hp hk=>h4 k p hp (by have:=of_decide_eq_false hc;omega)⟩)
  have hc:i<j:=by have:=of_decide_eq_true hc;omega
  unfold lb
  rw [show (i:Int)+(j:Int)=((i+j:Nat):Int) by omega,half_u _ (by omega)]
  have hm:(i+j) / 2<l.length:=by omega
  have pw:=List.pairwise_iff_getElem.1 h.asc
  refine Y.idx rfl hm (Y.eq (cmp _) ?_)
  by_cases hlt:l[(i+j) / 2].ID<id
  ·rw [if_pos hlt]
   refine Y.ret ⟨⟨(i+j) / 2+1,j,?_,rfl,by omega,h2,fun k p hp hk=>?_,h4⟩,?_⟩
   ·show IntKind.i64.wrap _=_;rw [cK (by omega) (by omega)];omega
   ·obtain ⟨hk2,rfl⟩:=List.getElem?_eq_some_iff.1 hp
    rcases Nat.lt_or_ge k ((i+j) / 2) with h5 | h5
    ·have:=pw k ((i+j) / 2) hk2 hm h5;omega
    have e:k=(i+j) / 2:=by omega
    subst e;exact hlt
   show ((j:Int) - IntKind.i64.wrap _).toNat<_;rw [cK (by omega) (by omega)];omega
  rw [if_neg hlt]
  have hd:decide ((if id<l[(i+j) / 2].ID then (1:Int) else 0)<0)=false:=by split <;> rfl
  rw [hd]
  refine Y.ret ⟨⟨i,(i+j) / 2,rfl,rfl,by omega,by omega,h3,fun k p hp hk=>?_⟩,by dsimp only;omega⟩
  obtain ⟨hk2,rfl⟩:=List.getElem?_eq_some_iff.1 hp
  rcases Nat.lt_or_ge ((i+j) / 2) k with h5 | h5
  ·have:=pw ((i+j) / 2) k hm hk2 h5;omega
  have e:k=(i+j) / 2:=by omega
  subst e;omega
 obtain ⟨⟨t1,t2⟩,e,rfl,j,hj,h1,h2,h3⟩:=hloop
 dsimp only at hj
 subst hj
 rw [e]
 simp only [be]
 by_cases hjl:j<l.length
 ·rw [det (show (j:Int)<(l.length:Int) by omega),cI,aU hjl,be,cI,cmp,be]
  have h4:=h3 j _ (List.getElem?_eq_getElem hjl) (Nat.le_refl _)
  rw [if_neg (by omega)]
  by_cases heq:t1<l[j].ID
  ·have hn:cj l t1=none:=by
    unfold cj;rw [List.find?_eq_none]
    intro p hp
    obtain ⟨k,hk,rfl⟩:=List.getElem_of_mem hp
    have:l[k].ID≠t1:=by
     rcases Nat.lt_or_ge k j with h5 | h5
     ·have:=h2 k _ (List.getElem?_eq_getElem hk) h5;omega
     rcases Nat.lt_or_ge j k with h6 | h6
     ·have:=List.pairwise_iff_getElem.1 h.asc j k hjl hk h6;omega
     have e:k=j:=by omega
     subst e;omega
    simpa using this
   rw [if_pos heq,hn];exact ⟨j,rfl,fun p hp=>by cases hp⟩
  ·have hid:l[j].ID=t1:=by omega
   have hs:cj l t1=some l[j]:=by
    unfold cj
    rw [List.find?_eq_some_iff_getElem]
    refine ⟨by simpa using hid,j,hjl,rfl,fun k hk=>?_⟩
    have:=h2 k _ (List.getElem?_eq_getElem (by omega)) hk
    have:l[k].ID≠t1:=by omega
    simpa using this
   rw [if_neg heq,hs];exact ⟨j,rfl,fun p hp=>by injection hp with hp;exact ⟨hjl,hp⟩⟩
 rw [cw (show ¬ (j:Int)<(l.length:Int) by omega),iC,be,iC,be]
 have hn:cj l t1=none:=by
  unfold cj;rw [List.find?_eq_none]
  intro p hp
  obtain ⟨k,hk,rfl⟩:=List.getElem_of_mem hp
  have:=h2 k _ (List.getElem?_eq_getElem hk) (by omega)
  have:l[k].ID≠t1:=by omega
  simpa using this
 rw [hn];exact ⟨j,rfl,fun p hp=>by cases hp⟩
theorem vG (l:List Zc) (id:Int) (h:Sorted l):di l id=some (gU Af (cj l id)):=by
 unfold di
 obtain ⟨j,e,hj⟩:=Dp l id h
 rw [e,be]
 cases hf:cj l id with
 | none=>rfl
 | some p =>
  obtain ⟨hjl,rfl⟩:=hj p hf
  have hs:=h.small _ (List.getElem_mem hjl)
  simp only [Option.isSome_some,Bool.not_true,bu,aU hjl,be]
  unfold bS bZ
  rw [gA (by omega) (by omega),be,gA (by omega) (by omega),be];rfl
theorem MPs.sorted {l:List Zc} (h:MPs l):Sorted l:=by
 refine ⟨by have:=h.len;omega,?_,fun p hp=>?_⟩
 ·rw [List.pairwise_iff_getElem]
  intro i j hi hj hij
  have h1:=(h.all i _ (List.getElem?_eq_getElem hi)).id
  have h2:=(h.all j _ (List.getElem?_eq_getElem hj)).id
  omega
 obtain ⟨i,hi,rfl⟩:=List.getElem_of_mem hp
 have hm:=h.all i _ (List.getElem?_eq_getElem hi)
 have h1:=hm.proc.length_le;have h2:=hm.few;have h6:W5.length=5:=rfl
 omega
structure VAs (l:List Zb):Prop where
 len:l.length≤1000
 all:∀ a∈l,VA a
theorem nV {l:List Zb} (h:VAs l) {id:Int} {a:Zb} (ha:lQ l id=some a):VA a∧a.ID=id∧a∈l:=by
 have hm:=List.mem_of_find?_eq_some ha
 exact ⟨h.all a hm,by have:=List.find?_some ha;simpa using this,hm⟩
def yw (a:Zb) (x y:ByteArray):Bool:=lH a.Parties x&&lH a.Parties y
theorem xh (a:Zb) (x y:ByteArray) (ha:VA a):dy a x y=some (yw a x y):=by
 have:=ha.ok.par.1
 unfold dy yw
 rw [r8 _ _ this,r8 _ _ this,be]
 cases lH a.Parties x <;> rfl
def lI (p:List Zc) (l:List Zb) (i:ByteArray) (c:Za):Bool:=match cj p c.Product,lQ l c.Agreement with
 | some q,some a => !decide (q.Country=i)&&yw a q.Country i&&(fc a q.Code).isSome
 | _,_=>false
theorem Ag (p:List Zc) (l:List Zb) (i:ByteArray) (c:Za) (hp:Sorted p) (hl:VAs l):cF p l i c=some (lI p l i c):=by
 unfold cF lI
 have:=hl.len
 rw [vG _ _ hp,be]
 cases cj p c.Product with
 | none=>rfl
 | some q =>
  rw [rt _ _ (by omega)]
  simp only [gU,Bool.not_true,bu,be]
  cases ha:lQ l c.Agreement with
  | none=>rfl
  | some a =>
   have hv:=(nV hl ha).1
   rw [xh _ _ _ hv,tw _ _ hv]
   by_cases hq:q.Country=i
   ·simp [hq,gd]
   cases h1:yw a q.Country i
   ·simp [hq,gd,h1]
   cases h2:fc a q.Code <;> simp [hq,gd,gU,h1,h2]
theorem Cq (p:List Zc) (l:List Zb) (i:ByteArray) (c:Za) (hp:p.length≤140737488355328) (hl:VAs l):dM p l i c=some (lI p l i c):=by
 unfold dM lI
 have:=hl.len
 rw [sR _ _ hp,be,sQ _ _ (by omega),be]
 cases ha:lQ l c.Agreement with
 | none =>
  rw [rq _ _ (by simp [gU,Do]),be]
  cases cj p c.Product with
  | none=>rfl
  | some q=>rfl
 | some a =>
  have hv:=(nV hl ha).1
  rw [show (gU Do (some a)).1=a from rfl,rq _ _ hv.ok.len,be,qu _ _ hv.ok.par.1,qu _ _ hv.ok.par.1]
  cases cj p c.Product with
  | none=>rfl
  | some q =>
   unfold yw
   cases hr:fc a q.Code with
   | none=>simp [gU,gd,hr]
   | some r =>
    by_cases hq:q.Country=i
    ·simp [gU,gd,hr,hq]
    cases h1:lH a.Parties q.Country
    ·simp [gU,gd,hr,hq,h1]
    cases h2:lH a.Parties i <;> simp [gU,gd,hr,hq,h1,h2]
def oM (a:Zb) (id:Int) (e i:ByteArray) (b:Zb):Bool := !(b.ID == id)&&yw b e i&&jC Ad a.Rules b.Rules
def eJ (l:List Zb) (id:Int) (e i:ByteArray):List Int:=match lQ l id with
 | none=>[]
 | some a=>id::cond (a.Kind == 2) ((l.filter (oM a id e i)).map (·.ID)) []
theorem p7 (P:Zb→Bool):∀ (l:List Zb) (acc:List Int),l.foldl (fun acc b=>cond (P b) (acc++[b.ID]) acc) acc=acc++(l.filter P).map (·.ID)
 | [],acc=>by simp
 | b::l,acc=>by
  rw [List.foldl_cons,p7 P l,List.filter_cons]
  cases P b <;> simp
theorem wD (l:List Zb) (id:Int) (e i:ByteArray) (hl:VAs l):eg l id e i=some (eJ l id e i):=by
 unfold eg eJ
 have hlen:=hl.len
 rw [rt _ _ (by omega),be]
 cases ha:lQ l id with
 | none=>rfl
 | some a =>
  have hv:=(nV hl ha).1
  simp only [gU,Bool.not_true,bu,bne]
  cases hk:(a.Kind == 2)
  ·rfl
  simp only [Bool.not_true,bu,bQ]
  refine (cB (l:=l) (by omega) (fun i (a:List Int)=>(a,i)) (fun acc b=>cond (oM a id e i b) (acc++[b.ID]) acc) (fun a=>a) (fun k acc=>acc.length≤k+1) [id] (by simp) (fun k hk acc hacc=>⟨?_,?_⟩) (fun acc _=>by simp only [cP,bu])).1.trans ?_
  ·have hb:=hl.all _ (List.getElem_mem hk)
   simp only [iq hk,bQ,aU hk,be,bP hk (show l.length≤4611686018427387904 by omega),oM,bne]
   rw [xh _ _ _ hb,vF _ _ hv.ok.len hv.ok.rules hv.rules]
   cases (l[k].ID == id)
   ·cases yw l[k] e i
    ·rfl
    cases jC Ad a.Rules l[k].Rules
    ·rfl
    simp only [Bool.not_false,cI,be,Bool.and_self,bQ]
    rw [cX (by simp;omega) (by simp;omega)];rfl
   rfl
  ·cases oM a id e i l[k] <;> simp <;> omega
  rw [p7];rfl
theorem yx (l:List Zb) (id:Int) (e i:ByteArray) (hl:VAs l):iK l id e i=some (eJ l id e i):=by
 unfold iK eJ
 have hlen:=hl.len
 rw [sQ _ _ (by omega),be]
 cases ha:lQ l id with
 | none=>rfl
 | some a =>
  have hv:=(nV hl ha).1
  simp only [gU,Bool.not_true,bu]
  cases hk:(a.Kind == 2)
  ·refine (cB (l:=([]:List Zb)) (by simp) (fun i (a:List Int)=>(a,i)) (fun acc b=>acc) (fun a=>a) (fun k acc=>True) [id] trivial (fun k hk acc hacc=>by simp at hk) (fun acc _=>by simp only [Bool.and_false,bu])).1.trans ?_
   rfl
  simp only [Bool.and_true,bQ]
  refine (cB (l:=l) (by omega) (fun i (a:List Int)=>(a,i)) (fun acc b=>cond (oM a id e i b) (acc++[b.ID]) acc) (fun a=>a) (fun k acc=>acc.length≤k+1) [id] (by simp) (fun k hk acc hacc=>⟨?_,?_⟩) (fun acc _=>by simp only [cP,bu])).1.trans ?_
  ·have hb:=hl.all _ (List.getElem_mem hk)
   simp only [iq hk,bQ,aU hk,be,bP hk (show l.length≤4611686018427387904 by omega),oM,bne,yw]
   rw [qu _ _ hb.ok.par.1,qu _ _ hb.ok.par.1,wC _ _ hv.ok.len hv.ok.rules]
   cases (l[k].ID == id)
   ·cases lH l[k].Parties e
    ·rfl
    cases lH l[k].Parties i
    ·rfl
    cases jC Ad a.Rules l[k].Rules
    ·rfl
    simp only [Bool.not_false,cI,be,Bool.and_self,bQ]
    rw [cX (by simp;omega) (by simp;omega)];rfl
   rfl
  ·cases oM a id e i l[k] <;> simp <;> omega
  rw [p7];rfl
def AscA (l:List Zb):Prop:=l.Pairwise fun a b=>a.ID<b.ID
theorem Dq {l:List Zb} (h:AscA l) {a:Zb} (ha:a∈l):lQ l a.ID=some a:=by
 obtain ⟨i,hi,rfl⟩:=List.getElem_of_mem ha
 unfold lQ
 rw [List.find?_eq_some_iff_getElem]
 refine ⟨by simp,i,hi,rfl,fun k hk=>?_⟩
 have:=List.pairwise_iff_getElem.1 h k i (by omega) hi hk
 have:l[k].ID≠l[i].ID:=by omega
 simpa using this
theorem MAs.asc {l:List Zb} (h:MAs l):AscA l:=by
 unfold AscA;rw [List.pairwise_iff_getElem]
 intro i j hi hj hij
 have h1:=(h.all i _ (List.getElem?_eq_getElem hi)).id
 have h2:=(h.all j _ (List.getElem?_eq_getElem hj)).id
 omega
theorem sa (l:List Zb) (id:Int) (e i:ByteArray):(eJ l id e i).length≤l.length+1:=by
 unfold eJ
 cases lQ l id with
 | none=>simp
 | some a=>cases h:(a.Kind == 2) <;> simp [h];exact List.length_filter_le _ _
theorem Bp (x:Int):Y (ja x) (fun s=>s∈C6):=by
 unfold ja
 refine (Fh x 8 (by omega) (by omega)).bind fun r ⟨h1,h2⟩=>?_
 obtain ⟨j,hj⟩:∃ j:Nat,r=(j:Int):=⟨r.toNat,by omega⟩
 refine Y.idx hj (show j<8 by omega) (Y.ret ?_)
 have hj8:j<8:=by omega
 match j,hj8 with
 | 0,_=>exact .tail _ (.head _)
 | 1,_=>exact .tail _ (.head _)
 | 2,_=>exact .tail _ (.head _)
 | 3,_=>exact .head _
 | 4,_=>exact .tail _ (.tail _ (.head _))
 | 5,_=>exact .tail _ (.tail _ (.tail _ (.head _)))
 | 6,_=>exact .tail _ (.tail _ (.tail _ (.tail _ (.head _))))
 | 7,_=>exact .tail _ (.tail _ (.tail _ (.tail _ (.tail _ (.head _)))))
end SX
end Go.Proofs.YtgmbmepakpcpaaaGreatDoor
set_option maxRecDepth 100000
set_option linter.unusedSectionVars false
namespace Go.Proofs.YtgmbmepakpcpaaaGreatDoor
namespace SX
open Go
section
variable {α:Type} [DecidableEq α]
def dd:List α→List α
 | []=>[]
 | [x]=>[x]
 | x::y::l=>cond (decide (x=y)) (dd (y::l)) (x::dd (y::l))
theorem yy (x y:α):∀ l:List α,dd (l++[x,y])=cond (decide (x=y)) (dd (l++[x])) (dd (l++[x])++[y])
 | []=>by
  show dd [x,y]=_
  rw [dd]
  cases h:decide (x=y)
  ·rfl
  ·have:=of_decide_eq_true h;subst this;rfl
 | [a]=>by
  have ih:=yy x y []
  simp only [List.nil_append] at ih
  simp only [List.cons_append,List.nil_append]
  rw [show dd [a,x,y]=cond (decide (a=x)) (dd [x,y]) (a::dd [x,y]) from rfl,ih,show dd [a,x]=cond (decide (a=x)) (dd [x]) (a::dd [x]) from rfl]
  cases decide (x=y) <;> cases decide (a=x) <;> rfl
 | a::b::l=>by
  show dd (a::b::(l++[x,y]))=_
  have ih:=yy x y (b::l)
  simp only [List.cons_append] at ih
  rw [dd,ih]
  show _=cond _ (dd (a::b::(l++[x]))) (dd (a::b::(l++[x]))++[y])
  rw [dd]
  cases decide (x=y) <;> cases decide (a=b) <;> rfl
theorem Bq:∀ {l:List α} {z:α},z∈dd l↔z∈l
 | [],z=>Iff.rfl
 | [x],z=>Iff.rfl
 | x::y::l,z=>by
  rw [dd]
  have ih:=Bq (l:=y::l) (z:=z)
  cases h:decide (x=y)
  ·rw [bu,List.mem_cons,ih];simp
  have:=of_decide_eq_true h;subst this
  rw [bQ,ih];simp
theorem FE:∀ l:List α,(dd l).length≤l.length
 | []=>Nat.le_refl _
 | [x]=>Nat.le_refl _
 | x::y::l=>by
  rw [dd]
  have ih:=FE (y::l)
  cases decide (x=y)
  ·simp only [bu,List.length_cons] at ih ⊢;omega
  simp only [bQ,List.length_cons] at ih ⊢;omega
theorem yz:∀ {l:List α},(∀ i,(h:i+1<l.length)→l[i]≠l[i+1])→dd l=l
 | [],_=>rfl
 | [x],_=>rfl
 | x::y::l,h=>by
  have h0:=h 0 (by simp)
  simp only [List.getElem_cons_zero,List.getElem_cons_succ,Nat.zero_add] at h0
  rw [dd,cw h0,bu,yz (l:=y::l) fun i hi=>by have:=h (i+1) (by simpa using hi);simpa using this]
variable {lt:α→α→Bool}
def Strict (lt:α→α→Bool) (l:List α):Prop:=l.Pairwise fun a b=>lt a b=true
theorem xi (htot:∀ x y,lt x y=false→lt y x=false→x=y) (htr:∀ x y z,lt x y=true→lt y z=true→lt x z=true):∀ {l:List α},l.Pairwise (fun a b=>lt b a=false)→Strict lt (dd l)
 | [],_=>List.Pairwise.nil
 | [x],_=>List.pairwise_singleton _ _
 | x::y::l,h=>by
  obtain ⟨h1,h2⟩:=List.pairwise_cons.1 h
  have ih:=xi htot htr h2
  rw [dd]
  cases hxy:decide (x=y)
  ·refine List.pairwise_cons.2 ⟨fun z hz=>?_,ih⟩
   have hz:=Bq.1 hz
   have hne:x≠y:=of_decide_eq_false hxy
   have hlt:lt x y=true:=by
    cases hl:lt x y
    ·exact absurd (htot x y hl (h1 y (by simp))) hne
    rfl
   rcases List.mem_cons.1 hz with rfl | hz
   ·exact hlt
   cases hyz:lt y z
   ·have:=(List.pairwise_cons.1 h2).1 z hz
    rw [← htot y z hyz this];exact hlt
   exact htr _ _ _ hlt hyz
  exact ih
theorem tB (hir:∀ x,lt x x=false) (htr:∀ x y z,lt x y=true→lt y z=true→lt x z=true):∀ {l m:List α},Strict lt l→Strict lt m→(∀ z,z∈l↔z∈m)→l=m
 | [],[],_,_,_=>rfl
 | [],y::m,_,_,h=>absurd ((h y).2 (by simp)) (by simp)
 | x::l,[],_,_,h=>absurd ((h x).1 (by simp)) (by simp)
 | x::l,y::m,h1,h2,h=>by
  obtain ⟨a1,a2⟩:=List.pairwise_cons.1 h1
  obtain ⟨b1,b2⟩:=List.pairwise_cons.1 h2
  have hxy:x=y:=by
   rcases List.mem_cons.1 ((h x).1 (by simp)) with e | hx
   ·exact e
   rcases List.mem_cons.1 ((h y).2 (by simp)) with e | hy
   ·exact e.symm
   have:=htr _ _ _ (a1 y hy) (b1 x hx);rw [hir] at this;cases this
  subst hxy
  congr 1
  refine tB hir htr a2 b2 fun z=>?_
  constructor
  ·intro hz
   rcases List.mem_cons.1 ((h z).1 (by simp [hz])) with rfl | hz2
   ·have:=a1 z hz;rw [hir] at this;cases this
   exact hz2
  intro hz
  rcases List.mem_cons.1 ((h z).2 (by simp [hz])) with rfl | hz2
  ·have:=b1 z hz;rw [hir] at this;cases this
  exact hz2
def bc (l:List α) (c:α):Bool:=l.any fun x=>decide (x=c)
theorem nW {l:List α} {c:α}:bc l c=true↔c∈l:=by unfold bc;rw [List.any_eq_true];exact ⟨fun ⟨x,h1,h2⟩=>of_decide_eq_true h2 ▸ h1,fun h=>⟨c,h,det rfl⟩⟩
theorem p8 {l:List α} {c:α}:bc l c=false↔c ∉ l:=by rw [← nW];simp
def iy (lt:α→α→Bool) (l:List α) (c:α):List α:=cond (bc l c) l (l.takeWhile (fun x=>lt x c)++c::l.dropWhile (fun x=>lt x c))
theorem vH (l:List α) (c z:α):z∈iy lt l c↔z=c∨z∈l:=by
 unfold iy
 cases h:bc l c
 ·rw [bu,List.mem_append,List.mem_cons]
  have:z∈l↔z∈l.takeWhile (fun x=>lt x c)∨z∈l.dropWhile (fun x=>lt x c):=by
   rw [← List.mem_append,List.takeWhile_append_dropWhile]
  rw [this]
  constructor
  ·rintro (h | h | h);exact .inr (.inl h);exact .inl h;exact .inr (.inr h)
  rintro (h | h | h);exact .inr (.inl h);exact .inl h;exact .inr (.inr h)
 have:=nW.1 h
 rw [bQ]
 constructor
 ·exact fun h=>.inr h
 rintro (rfl | h);exact this;exact h
theorem p9 (htot:∀ x y,lt x y=false→lt y x=false→x=y) (htr:∀ x y z,lt x y=true→lt y z=true→lt x z=true) {l:List α} {c:α} (h:Strict lt l):Strict lt (iy lt l c):=by
 unfold iy
 cases hc:bc l c
 ·have hc:=p8.1 hc
  rw [bu]
  have hd:∀ z∈l.dropWhile (fun x=>lt x c),lt c z=true:=by
   have key:∀ m:List α,Strict lt m→c ∉ m→∀ z∈m.dropWhile (fun x=>lt x c),lt c z=true:=by
    intro m
    induction m with
    | nil=>intro _ _ z hz;cases hz
    | cons x m ih =>
     intro hm hcm z hz
     obtain ⟨m1,m2⟩:=List.pairwise_cons.1 hm
     rw [List.dropWhile_cons] at hz
     cases hx:lt x c
     ·rw [hx] at hz
      simp only [Bool.false_eq_true,if_false] at hz
      have hcx:lt c x=true:=by
       cases h2:lt c x
       ·exact absurd (htot x c hx h2) (fun e=>hcm (by simp [e]))
       rfl
      rcases List.mem_cons.1 hz with rfl | hz
      ·exact hcx
      exact htr _ _ _ hcx (m1 z hz)
     rw [hx] at hz
     simp only [if_true] at hz
     exact ih m2 (fun h=>hcm (by simp [h])) z hz
   exact key l h hc
  have ht:∀ z∈l.takeWhile (fun x=>lt x c),lt z c=true:=by
   have key:∀ m:List α,∀ z∈m.takeWhile (fun x=>lt x c),lt z c=true:=by
    intro m
    induction m with
    | nil=>intro z hz;cases hz
    | cons x m ih =>
     intro z hz
     rw [List.takeWhile_cons] at hz
     cases hx:lt x c
     ·rw [hx] at hz;cases hz
     rw [hx] at hz
     simp only [if_true] at hz
     rcases List.mem_cons.1 hz with rfl | hz
     ·exact hx
     exact ih z hz
   exact key l
  refine List.pairwise_append.2 ⟨h.sublist (List.takeWhile_sublist _),List.pairwise_cons.2 ⟨hd,h.sublist (List.dropWhile_sublist _)⟩,fun a ha b hb=>?_⟩
  rcases List.mem_cons.1 hb with rfl | hb
  ·exact ht a ha
  exact htr _ _ _ (ht a ha) (hd b hb)
 exact h
theorem mQ (l:List α) (c:α):(iy lt l c).length≤l.length+1:=by
 unfold iy
 cases bc l c
 ·rw [bu,List.length_append,List.length_cons]
  have:=congrArg List.length (List.takeWhile_append_dropWhile (p:=fun x=>lt x c) (l:=l))
  rw [List.length_append] at this;omega
 exact Nat.le_succ _
def sd (lt:α→α→Bool) (l:List α):List α:=dd (lq lt l)
theorem FF (l:List α) (z:α):z∈sd lt l↔z∈l:=by unfold sd;rw [Bq,kD.mem_iff]
theorem FG (l:List α):(sd lt l).length≤l.length:=by unfold sd;have:=FE (lq lt l);rw [nT] at this;exact this
structure Ord (lt:α→α→Bool):Prop where
 irr:∀ x,lt x x=false
 tr:∀ x y z,lt x y=true→lt y z=true→lt x z=true
 ntr:∀ x y z,lt x y=false→lt y z=false→lt x z=false
 tot:∀ x y,lt x y=false→lt y x=false→x=y
theorem xj (o:Ord lt) (l:List α):Strict lt (sd lt l):=xi o.tot o.tr (lW o.tr o.ntr o.irr l)
theorem sb (o:Ord lt):∀ (l acc:List α),Strict lt acc→Strict lt (l.foldl (iy lt) acc)∧(∀ z,z∈l.foldl (iy lt) acc↔z∈acc∨z∈l)∧(l.foldl (iy lt) acc).length≤acc.length+l.length
 | [],acc,h=>⟨h,fun z=>by simp,by simp⟩
 | c::l,acc,h=>by
  obtain ⟨h1,h2,h3⟩:=sb o l (iy lt acc c) (p9 o.tot o.tr h)
  refine ⟨h1,fun z=>?_,?_⟩
  ·rw [List.foldl_cons,h2,vH,List.mem_cons]
   constructor
   ·rintro ((h | h) | h);exact .inr (.inl h);exact .inl h;exact .inr (.inr h)
   rintro (h | h | h);exact .inl (.inr h);exact .inl (.inl h);exact .inr h
  rw [List.foldl_cons,List.length_cons];have:=mQ (lt:=lt) acc c;omega
theorem tC (o:Ord lt) (l:List α):l.foldl (iy lt) []=sd lt l :=
 tB o.irr o.tr (sb o l [] List.Pairwise.nil).1 (xj o l) fun z=>by rw [(sb o l [] List.Pairwise.nil).2.1,FF];simp
end
theorem Br:Ord iM:=⟨Cj,Fm,fun x y z h1 h2=>by
 rw [pJ] at *;exact cw (List.not_lt.2 (List.le_trans (List.not_lt.1 (of_decide_eq_false h2)) (List.not_lt.1 (of_decide_eq_false h1)))),fun x y h1 h2=>by
 rw [pJ] at h1 h2
 exact str_ext.2 (List.le_antisymm (List.not_lt.1 (of_decide_eq_false h2)) (List.not_lt.1 (of_decide_eq_false h1)))⟩
theorem ordC:Ord bL:=⟨tq,vy,tu,tv⟩
section
variable {α:Type} [DecidableEq α]
theorem Cr {p:List α} {n:Nat} (h0:1≤n) (h:n<p.length):dd (p.take (n+1))=cond (decide (p[n-1]'(by omega)=p[n])) (dd (p.take n)) (dd (p.take n)++[p[n]]):=by
 obtain ⟨m,rfl⟩:∃ m,n=m+1:=⟨n - 1,by omega⟩
 have e1:p.take (m+1)=p.take m++[p[m]'(by omega)]:=by rw [List.take_add_one,List.getElem?_eq_getElem (by omega)];rfl
 have e3:p.take (m+1+1)=p.take (m+1)++[p[m+1]]:=by rw [List.take_add_one,List.getElem?_eq_getElem h];rfl
 have e2:p.take (m+1+1)=p.take m++[p[m]'(by omega),p[m+1]]:=by rw [e3,e1,List.append_assoc];rfl
 rw [e2,yy,e1];rfl
structure CInv (p:List α) (v:Nat) (l:List α) (k i:Nat):Prop where
 i1:1≤i
 le:v+i≤p.length
 len:l.length=p.length
 kk:k=(dd (p.take (v+i))).length
 klt:k+1≤v+i
 pre:l.take k=dd (p.take (v+i))
 suf:∀ j,v+i≤j+1→l[j]?=p[j]?
theorem CInv.step {p l:List α} {v k i:Nat} (c:CInv p v l k i) (h:v+i<p.length) (hv:1≤v):∃ x y,l[v+i]?=some x∧l[v+i - 1]?=some y∧(decide (x=y)=true→CInv p v l k (i+1))∧(decide (x=y)=false→k<l.length∧CInv p v (l.set k x) (k+1) (i+1)):=by
 have hx:=c.suf (v+i) (by omega)
 have hy:=c.suf (v+i - 1) (by omega)
 rw [List.getElem?_eq_getElem h] at hx
 rw [List.getElem?_eq_getElem (show v+i - 1<p.length by omega)] at hy
 have hd:=Cr (p:=p) (n:=v+i) (by omega) h
 refine ⟨_,_,hx,hy,fun e=>?_,fun e=>?_⟩
 ·have e':decide (p[v+i - 1]'(by omega)=p[v+i])=true:=det (of_decide_eq_true e).symm
  rw [e',bQ] at hd
  exact ⟨by omega,by omega,c.len,by rw [← Nat.add_assoc,hd];exact c.kk,by have:=c.klt;omega,by rw [← Nat.add_assoc,hd];exact c.pre,fun j hj=>c.suf j (by omega)⟩
 have e':decide (p[v+i - 1]'(by omega)=p[v+i])=false:=cw (fun q=>of_decide_eq_false e q.symm)
 rw [e',bu] at hd
 have hk:k<l.length:=by have:=c.klt;have:=c.len;omega
 refine ⟨hk,by omega,by omega,by rw [List.length_set];exact c.len,by rw [← Nat.add_assoc,hd,List.length_append,← c.kk];rfl,by have:=c.klt;omega,?_,fun j hj=>?_⟩
 ·rw [← Nat.add_assoc,hd,← c.pre]
  rw [List.take_add_one,List.getElem?_set]
  simp only [if_true,hk]
  rw [List.take_set_of_le (Nat.le_refl k)];rfl
 rw [List.getElem?_set,if_neg (by have:=c.klt;omega)];exact c.suf j (by omega)
theorem CInv.start {p:List α} {v:Nat} (hv:1≤v) (h:v<p.length) (he:p[v]=p[v-1]'(by omega)) (hb:∀ j,1≤j→(hj:j<v)→p[j]'(by omega)≠p[j-1]'(by omega)):CInv p v p v 1:=by
 have e1:dd (p.take v)=p.take v:=yz fun i hi=>by
  rw [List.length_take] at hi
  rw [List.getElem_take,List.getElem_take]
  have:=hb (i+1) (by omega) (by omega)
  exact fun e=>this e.symm
 have hd:=Cr (p:=p) (n:=v) hv h
 rw [det he.symm,bQ,e1] at hd
 exact ⟨Nat.le_refl _,by omega,rfl,by rw [hd,List.length_take];omega,by omega,by rw [hd],fun j _=>rfl⟩
end
end SX
end Go.Proofs.YtgmbmepakpcpaaaGreatDoor
namespace Go.Proofs.YtgmbmepakpcpaaaGreatDoor
namespace SX
open Go
theorem yA {α:Type} (l:List α) (n:Nat):idx l (n:Int)=l[n]?:=by unfold idx;rw [if_pos (by omega)];simp
theorem tD {α:Type} [DecidableEq α] (E:α→α→Bool) (hE:∀ x y,E x y=decide (x=y)) (z:α) (p:List α) (hp:p.length≤1000000000) :
    cond (decide (((p.length:Nat):Int)<2)) (some p) (Option.bind (aW (S:=Int) (T:=(Unit)⊕(List α)) (fun v2=>cond (decide (v2<((p.length:Nat):Int))) (Option.bind (idx p v2) (fun m7=>Option.bind (idx p (IntKind.i64.wrap (v2 - 1))) (fun m8=>cond (E m7 m8) (Option.bind (sub p v2 (p.length:Int)) (fun _=>Option.bind (aW (S:=(List α)×Int×Int) (T:=((List α)×Int)) (fun (l12,v13,v14)=>cond (decide (v14<((p.length - v2.toNat:Nat):Int))) (Option.bind (Option.bind (ll v14) (fun _=>Option.bind (idx l12 (v2+v14)) (fun m26=>Option.bind (ll (IntKind.i64.wrap (v14 - 1))) (fun _=>Option.bind (idx l12 (v2+(IntKind.i64.wrap (v14 - 1)))) (fun m28=>cond (!(E m26 m28)) (Option.bind (ll v14) (fun _=>Option.bind (idx l12 (v2+v14)) (fun m31=>Option.bind (idx l12 v13) (fun _=>some ((l12.set v13.toNat m31),(IntKind.i64.wrap (v13+1))))))) (some (l12,v13))))))) (fun (l22,v23)=>some (.inl (l22,v23,(IntKind.i64.wrap (v14+1)))))) (some (.inr (l12,v13)))) FUEL (p,v2,1)) (fun (l16,v17)=>Option.bind (sub l16 v17 (l16.length:Int)) (fun _=>Option.bind (sub (List.take v17.toNat l16++List.replicate (p.length - v17.toNat) z) 0 v17) (fun l35=>some (.inr (.inr l35))))))) (some (.inl (IntKind.i64.wrap (v2+1))))))) (some (.inr (.inl ())))) FUEL 1) (fun q=>match q with | .inl _=>some p | .inr e=>some e))=some (dd p):=by
  by_cases h2:p.length<2
  · rw [det (show ((p.length:Nat):Int)<2 by omega)]
    match p,h2 with
    | [],_=>rfl
    | [x],_=>rfl
  rw [cw (by omega),bu]
  have hl:Y (aW (S:=Int) (T:=(Unit)⊕(List α)) (fun v2=>cond (decide (v2<((p.length:Nat):Int))) (Option.bind (idx p v2) (fun m7=>Option.bind (idx p (IntKind.i64.wrap (v2 - 1))) (fun m8=>cond (E m7 m8) (Option.bind (sub p v2 (p.length:Int)) (fun _=>Option.bind (aW (S:=(List α)×Int×Int) (T:=((List α)×Int)) (fun (l12,v13,v14)=>cond (decide (v14<((p.length - v2.toNat:Nat):Int))) (Option.bind (Option.bind (ll v14) (fun _=>Option.bind (idx l12 (v2+v14)) (fun m26=>Option.bind (ll (IntKind.i64.wrap (v14 - 1))) (fun _=>Option.bind (idx l12 (v2+(IntKind.i64.wrap (v14 - 1)))) (fun m28=>cond (!(E m26 m28)) (Option.bind (ll v14) (fun _=>Option.bind (idx l12 (v2+v14)) (fun m31=>Option.bind (idx l12 v13) (fun _=>some ((l12.set v13.toNat m31),(IntKind.i64.wrap (v13+1))))))) (some (l12,v13))))))) (fun (l22,v23)=>some (.inl (l22,v23,(IntKind.i64.wrap (v14+1)))))) (some (.inr (l12,v13)))) FUEL (p,v2,1)) (fun (l16,v17)=>Option.bind (sub l16 v17 (l16.length:Int)) (fun _=>Option.bind (sub (List.take v17.toNat l16++List.replicate (p.length - v17.toNat) z) 0 v17) (fun l35=>some (.inr (.inr l35))))))) (some (.inl (IntKind.i64.wrap (v2+1))))))) (some (.inr (.inl ())))) FUEL 1) (fun t=>match t with | .inl _=>dd p=p | .inr e=>e=dd p):=by
    refine Y.loop (fun s:Int=>∃ v:Nat,s=(v:Int)∧1≤v∧v≤p.length∧∀ j,1≤j→(hj:j<v)→(hp:j<p.length)→p[j]≠p[j-1]'(by omega)) (fun s=>(p.length - s).toNat) ⟨1,rfl,by omega,by omega,fun j h1 h2=>by omega⟩ (by omega) fun s hs=>?_
    obtain ⟨v,rfl,h1,h3,h4⟩:=hs
    refine Y.cond (fun hc=>?_) (fun hc=>Y.ret (yz fun i hi=>?_))
    rotate_left
    · have hc:=of_decide_eq_false hc
      have:=h4 (i+1) (by omega) (by omega) hi
      exact fun e=>this e.symm
    have hv:v<p.length:=by have:=of_decide_eq_true hc;omega
    refine Y.idx rfl hv ?_
    refine Y.idx (n:=v - 1) (by rw [cK (by omega) (by omega)];omega) (by omega) ?_
    rw [hE]
    refine Y.cond (fun he=>?_) (fun he=>Y.ret ⟨⟨v+1,?_,by omega,by omega,fun j g1 g2 g3=>?_⟩,?_⟩)
    · rw [nk (Nat.le_of_lt hv) (Nat.le_refl _),be]
      have he:=of_decide_eq_true he
      have c0:=CInv.start h1 hv he fun j g1 g2=>h4 j g1 g2 (by omega)
      refine Y.bind (P:=fun t:List α×Int=>∃ k:Nat,t.2=(k:Int)∧k≤p.length∧t.1.length=p.length∧t.1.take k=dd p) ?_ fun t ⟨k,t1,t2,t3,t4⟩=>?_
      · refine Y.loop (fun s:List α×Int×Int=>∃ k i:Nat,s.2.1=(k:Int)∧s.2.2=(i:Int)∧CInv p v s.1 k i) (fun s=>(p.length - v - s.2.2).toNat) ⟨v,1,rfl,rfl,c0⟩ (by dsimp only;omega) fun s hs=>?_
        obtain ⟨l,a,b⟩:=s
        obtain ⟨k,i,rfl,rfl,c⟩:=hs
        dsimp only at c ⊢
        have ci:=c.i1;have cl:=c.le;have ck:=c.klt;have cn:=c.len
        refine Y.cond (fun hc=>?_) (fun hc=>Y.ret ⟨k,rfl,by omega,c.len,?_⟩)
        rotate_left
        · have hc:=of_decide_eq_false hc
          have e:v+i=p.length:=by rw [Int.toNat_natCast] at hc;omega
          have:=c.pre
          rw [e,List.take_length] at this;exact this
        have hlt:v+i<p.length:=by have:=of_decide_eq_true hc;rw [Int.toNat_natCast] at this;omega
        obtain ⟨x,y,hx,hy,s1,s2⟩:=c.step hlt h1
        refine Y.bind (P:=fun t:List α×Int=>∃ k':Nat,t.2=(k':Int)∧CInv p v t.1 k' (i+1)) ?_ fun t ⟨k',t1,t2⟩=>Y.ret ⟨⟨k',i+1,t1,?_,t2⟩,?_⟩
        · refine Y.eq (oI i) ?_
          rw [show (v:Int)+(i:Int)=((v+i:Nat):Int) by omega]
          refine Y.eq (by rw [yA];exact hx) ?_
          rw [cK (r:=(i:Int) - 1) (by omega) (by omega),show (i:Int) - 1=((i - 1:Nat):Int) by omega]
          refine Y.eq (oI (i - 1)) ?_
          rw [show (v:Int)+((i - 1:Nat):Int)=((v+i - 1:Nat):Int) by omega]
          refine Y.eq (by rw [yA];exact hy) ?_
          rw [hE]
          refine Y.cond (fun hne=>?_) (fun hne=>Y.ret ⟨k,rfl,s1 (by simpa using hne)⟩)
          obtain ⟨hk,c2⟩:=s2 (by simpa using hne)
          refine Y.eq (oI i) (Y.eq (by rw [yA];exact hx) (Y.idx rfl hk (Y.ret ⟨k+1,?_,c2⟩)))
          show IntKind.i64.wrap ((k:Int)+1)=_;rw [cK (by omega) (by omega)];omega
        · show IntKind.i64.wrap ((i:Int)+1)=_;rw [cK (by omega) (by omega)];omega
        show ((p.length:Int) - v - IntKind.i64.wrap ((i:Int)+1)).toNat<((p.length:Int) - v - (i:Int)).toNat;rw [cK (by omega) (by omega)];omega
      obtain ⟨l,b⟩:=t
      dsimp only at t1 t3 t4 ⊢
      subst t1
      have e1:sub l (k:Int) (l.length:Int)=some ((l.take l.length).drop k):=nk (by omega) (Nat.le_refl _)
      rw [e1,be,Int.toNat_natCast]
      have e2:sub (List.take k l++List.replicate (p.length - k) z) 0 (k:Int)=some (((List.take k l++List.replicate (p.length - k) z).take k).drop 0):=nk (a:=0) (by omega) (by simp;omega)
      rw [e2,be]
      refine Y.ret ?_
      show ((List.take k l++List.replicate (p.length - k) z).take k).drop 0=dd p
      rw [List.drop_zero,List.take_append_of_le_length (by rw [List.length_take];omega),List.take_take,Nat.min_self,t4]
    · show IntKind.i64.wrap ((v:Int)+1)=_;rw [cK (by omega) (by omega)];omega
    · rcases Nat.lt_or_ge j v with h | h
      · exact h4 j g1 h g3
      have e:j=v:=by omega
      subst e;exact of_decide_eq_false he
    show ((p.length:Int) - IntKind.i64.wrap ((v:Int)+1)).toNat<((p.length:Int) - (v:Int)).toNat;rw [cK (by omega) (by omega)];omega
  obtain ⟨t,e,ht⟩:=hl
  rw [e]
  cases t with
  | inl u=>dsimp only at ht;rw [be,ht]
  | inr u=>dsimp only at ht;rw [be,ht]
theorem FH (p:List ByteArray) (hp:p.length≤1000000000):dH p=some (dd p):=by
 refine Eq.trans ?_ (tD (fun x y=>decide (x=y)) (fun _ _=>rfl) ByteArray.empty p hp)
 kernel_rfl
theorem Cs (x y:Za):Za.eqb x y=decide (x=y):=by
 cases h:Za.eqb x y
 ·exact (cw fun e=>by rw [Za.eqb_iff.2 e] at h;cases h).symm
 exact (det (Za.eqb_iff.1 h)).symm
theorem FI (p:List Za) (hp:p.length≤1000000000):bw p=some (dd p):=by
 refine Eq.trans ?_ (tD Za.eqb Cs ⟨0,0⟩ p hp)
 kernel_rfl
theorem oN (l:List Za) (c:Za) (hl:l.length≤140737488355328):ec l c=some (bc l c):=by
 unfold ec
 refine (bM (l:=l) (by omega) (fun _ x=>cond (Za.eqb x c) (some (.inr true)) none) (.inl ()) (fun k hk=>?_) (by simp only [cP,bu])).trans ?_
 ·simp only [iq hk,bQ,aU hk,be,bP hk (show l.length≤4611686018427387904 by omega)]
  cases Za.eqb l[k] c <;> rfl
 rw [qo (fun x=>Za.eqb x c)]
 have:(l.any fun x=>Za.eqb x c)=bc l c:=by unfold bc;congr 1;funext x;exact Cs x c
 rw [this];cases bc l c <;> rfl
theorem oO {α:Type} (P:α→Bool):∀ (l:List α) (k:Nat),k≤l.length→(∀ j x,l[j]?=some x→j<k→P x=true)→(∀ x,l[k]?=some x→P x=false)→l.takeWhile P=l.take k∧l.dropWhile P=l.drop k
 | [],k,h,_,_=>by simp at h;subst h;exact ⟨rfl,rfl⟩
 | x::l,0,_,_,h=>by rw [List.takeWhile_cons,List.dropWhile_cons,h x rfl];exact ⟨rfl,rfl⟩
 | x::l,k+1,h,h1,h2=>by
  obtain ⟨e1,e2⟩:=oO P l k (by simpa using h) (fun j y hy hj=>h1 (j+1) y (by simpa using hy) (by omega)) (fun y hy=>h2 y (by simpa using hy))
  rw [List.takeWhile_cons,List.dropWhile_cons,h1 0 x rfl (by omega)]
  simp only [if_true,List.take_succ_cons,List.drop_succ_cons]
  rw [e1,e2];exact ⟨rfl,rfl⟩
theorem xk (l:List Za) (c:Za) (hl:l.length≤1000000000):fK l c=some (iy bL l c):=by
 unfold fK iy
 rw [oN _ _ (by omega),be]
 cases bc l c
 rotate_left
 ·rfl
 simp only [bu]
 have hw:Y (aW (S:=Int) (T:=(Int)) (fun v4=>Option.bind (gd (decide (v4<(l.length:Int))) (idx l v4)) (fun m8=>Option.bind (gd (decide (v4<(l.length:Int))) (kH m8 c)) (fun x9=>cond ((decide (v4<(l.length:Int)))&&x9) (some (.inl (IntKind.i64.wrap (v4+1)))) (some (.inr v4))))) FUEL 0) (fun t=>∃ k:Nat,t=(k:Int)∧k≤l.length∧l.takeWhile (fun x=>bL x c)=l.take k∧l.dropWhile (fun x=>bL x c)=l.drop k):=by
  refine Y.loop (fun s:Int=>∃ k:Nat,s=(k:Int)∧k≤l.length∧∀ j x,l[j]?=some x→j<k→bL x c=true) (fun s=>(l.length - s).toNat) ⟨0,rfl,by omega,fun j x _ h=>absurd h (Nat.not_lt_zero _)⟩ (by omega) fun s hs=>?_
  obtain ⟨k,rfl,h1,h2⟩:=hs
  rcases Nat.lt_or_ge k l.length with hk | hk
  ·rw [iq hk,cI,aU hk,be,cI]
   have e:kH l[k] c=some (bL l[k] c):=by unfold kH bL;rfl
   rw [e,be]
   cases hlt:bL l[k] c
   ·exact Y.ret ⟨k,rfl,h1,oO _ l k h1 h2 fun x hx=>by rw [List.getElem?_eq_getElem hk] at hx;injection hx with hx;rw [← hx];exact hlt⟩
   refine Y.ret ⟨⟨k+1,?_,by omega,fun j x hx hj=>?_⟩,?_⟩
   ·show IntKind.i64.wrap ((k:Int)+1)=_;rw [cK (by omega) (by omega)];omega
   ·rcases Nat.lt_or_ge j k with h | h
    ·exact h2 j x hx h
    have e:j=k:=by omega
    subst e;rw [List.getElem?_eq_getElem hk] at hx;injection hx with hx;rw [← hx];exact hlt
   show ((l.length:Int) - IntKind.i64.wrap ((k:Int)+1)).toNat<((l.length:Int) - (k:Int)).toNat;rw [cK (by omega) (by omega)];omega
  have e:k=l.length:=by omega
  subst e
  rw [cP,iC,be,iC,be]
  exact Y.ret ⟨l.length,rfl,h1,oO _ l _ h1 h2 fun x hx=>by have:=(List.getElem?_eq_some_iff.1 hx).1;omega⟩
 obtain ⟨t,e,k,rfl,h1,h2,h3⟩:=hw
 rw [e,be]
 have s1:sub l 0 (k:Int)=some ((l.take k).drop 0):=nk (a:=0) (by omega) h1
 have s2:sub l (k:Int) (l.length:Int)=some ((l.take l.length).drop k):=nk h1 (Nat.le_refl _)
 rw [s1,be,s2,be,List.drop_zero,List.take_length,gA (by rw [List.length_take];omega) (by omega),be,cX (by simp;omega) (by simp;omega),be,cX (by simp;omega) (by simp;omega),be,h2,h3,List.append_assoc];rfl
theorem xl (l:List ByteArray) (c:ByteArray) (hl:l.length≤1000000000) (hs:Strict iM l):kG l c=some (iy iM l c):=by
 unfold kG iy
 have hw:Y (aW (S:=Int) (T:=(ByteArray×Int)) (fun v1=>Option.bind (gd (decide (v1<(l.length:Int))) (idx l v1)) (fun m6=>cond ((decide (v1<(l.length:Int)))&&(Op.bytesLess m6.toList c.toList)) (some (.inl (IntKind.i64.wrap (v1+1)))) (some (.inr (c,v1))))) FUEL 0) (fun t=>t.1=c∧∃ k:Nat,t.2=(k:Int)∧k≤l.length∧(∀ j x,l[j]?=some x→j<k→iM x c=true)∧(∀ x,l[k]?=some x→iM x c=false)):=by
  refine Y.loop (fun s:Int=>∃ k:Nat,s=(k:Int)∧k≤l.length∧∀ j x,l[j]?=some x→j<k→iM x c=true) (fun s=>(l.length - s).toNat) ⟨0,rfl,by omega,fun j x _ h=>absurd h (Nat.not_lt_zero _)⟩ (by omega) fun s hs=>?_
  obtain ⟨k,rfl,h1,h2⟩:=hs
  rcases Nat.lt_or_ge k l.length with hk | hk
  ·rw [iq hk,cI,aU hk,be]
   cases hlt:iM l[k] c
   ·have hlt':Op.bytesLess l[k].toList c.toList=false:=hlt
    rw [hlt']
    exact Y.ret ⟨rfl,k,rfl,h1,h2,fun x hx=>by rw [List.getElem?_eq_getElem hk] at hx;injection hx with hx;rw [← hx];exact hlt⟩
   have hlt':Op.bytesLess l[k].toList c.toList=true:=hlt
   rw [hlt']
   refine Y.ret ⟨⟨k+1,?_,by omega,fun j x hx hj=>?_⟩,?_⟩
   ·show IntKind.i64.wrap ((k:Int)+1)=_;rw [cK (by omega) (by omega)];omega
   ·rcases Nat.lt_or_ge j k with h | h
    ·exact h2 j x hx h
    have e:j=k:=by omega
    subst e;rw [List.getElem?_eq_getElem hk] at hx;injection hx with hx;rw [← hx];exact hlt
   show ((l.length:Int) - IntKind.i64.wrap ((k:Int)+1)).toNat<((l.length:Int) - (k:Int)).toNat;rw [cK (by omega) (by omega)];omega
  have e:k=l.length:=by omega
  subst e
  rw [cP,iC,be]
  exact Y.ret ⟨rfl,l.length,rfl,h1,h2,fun x hx=>by have:=(List.getElem?_eq_some_iff.1 hx).1;omega⟩
 obtain ⟨⟨t1,t2⟩,e,rfl,k,hk,h1,h2,h3⟩:=hw
 dsimp only at hk
 subst hk
 obtain ⟨w1,w2⟩:=oO (fun x=>iM x t1) l k h1 h2 h3
 rw [e,be]
 dsimp only
 have key:t1∈l↔l[k]?=some t1:=by
  constructor
  ·intro hm
   obtain ⟨j,hj,hjt⟩:=List.getElem_of_mem hm
   have hjk:k≤j:=by
    rcases Nat.lt_or_ge j k with h | h
    ·have:=h2 j l[j] (List.getElem?_eq_getElem hj) h;rw [hjt,Cj] at this;cases this
    exact h
   rcases Nat.lt_or_ge k j with h | h
   ·have hkl:k<l.length:=by omega
    have g1:=h3 l[k] (List.getElem?_eq_getElem hkl)
    have g2:=(List.pairwise_iff_getElem.1 hs) k j hkl hj h
    rw [hjt,g1] at g2;cases g2
   have e:j=k:=by omega
   subst e;rw [List.getElem?_eq_getElem hj,hjt]
  exact fun h=>List.mem_of_getElem? h
 rcases Nat.lt_or_ge k l.length with hkl | hkl
 ·rw [iq hkl,cI,aU hkl,be,Bool.true_and]
  by_cases hm:l[k]=t1
  ·rw [det hm,nW.2 (key.2 (by rw [List.getElem?_eq_getElem hkl,hm]))];rfl
  rw [cw hm,p8.2 (fun h=>hm (by have:=key.1 h;rw [List.getElem?_eq_getElem hkl] at this;injection this))]
  simp only [bu]
  have s1:sub l 0 (k:Int)=some ((l.take k).drop 0):=nk (a:=0) (by omega) h1
  have s2:sub l (k:Int) (l.length:Int)=some ((l.take l.length).drop k):=nk h1 (Nat.le_refl _)
  rw [s1,be,s2,be,List.drop_zero,List.take_length,gA (by rw [List.length_take];omega) (by omega),be,cX (by simp;omega) (by simp;omega),be,cX (by simp;omega) (by simp;omega),be,w1,w2,List.append_assoc];rfl
 have e:k=l.length:=by omega
 subst e
 rw [cP,iC,be,Bool.false_and,p8.2 (fun h=>by have:=key.1 h;rw [List.getElem?_eq_none (Nat.le_refl _)] at this;cases this)]
 simp only [bu]
 have s1:sub l 0 ((l.length:Nat):Int)=some ((l.take l.length).drop 0):=nk (a:=0) (by omega) h1
 have s2:sub l ((l.length:Nat):Int) (l.length:Int)=some ((l.take l.length).drop l.length):=nk h1 (Nat.le_refl _)
 rw [s1,be,s2,be,List.drop_zero,List.take_length,gA (by omega) (by omega),be,cX (by simp;omega) (by simp;omega),be,cX (by simp;omega) (by simp;omega),be,w1,w2,List.append_assoc,List.take_length];rfl
def ny (a b:List ByteArray):List ByteArray:=sd iM (a++b)
theorem concat2 (a b:List ByteArray) (h:a.length+b.length≤1000000):cW [a,b]=some (a++b):=by
 unfold cW ez
 refine (j0 (l:=[a,b]) (by simp) (fun i (s:Nat)=>((s:Int),i)) (fun _ x s=>(.inl (s+x.length):Nat⊕Empty)) (fun (s:Nat)=>(s:Int)) noE (fun k s=>s≤1000000∧s=([a,b].take k).flatten.length) 0 ⟨by omega,rfl⟩ (fun k hk s hs=>⟨?_,fun s' h'=>?_⟩) (fun s _=>by simp only [cP,bu])).trans ?_
 ·have hb:s+([a,b][k]).length≤1000000:=by
   obtain ⟨_,e⟩:=hs
   match k,hk with
   | 0,_=>simp at e;subst e;simp;omega
   | 1,_=>simp at e;subst e;simp;omega
  simp only [iq hk,bQ,aU hk,be,bP hk (show [a,b].length≤4611686018427387904 by simp),zN]
  rw [cK (by omega) (by omega),cw (by omega)]
  simp only [bu,Int.natCast_add]
 ·injection h' with h'
  obtain ⟨h1,h2⟩:=hs
  subst h'
  match k,hk with
  | 0,_=>simp at h2 ⊢;subst h2;simp;omega
  | 1,_=>simp at h2 ⊢;subst h2;omega
 show Option.bind (Option.bind (Dc 16 ((0+a.length+b.length:Nat):Int)) _) _=_
 rw [Bd (by omega) (by omega),be,be]
 refine (cB (l:=[a,b]) (by simp) (fun i (s:List ByteArray)=>(s,i)) (fun s x=>s++x) (fun s=>s) (fun k s=>s=([a,b].take k).flatten) [] rfl (fun k hk s hs=>⟨?_,?_⟩) (fun s _=>by simp only [cP,bu])).1.trans ?_
 ·have hb:s.length+([a,b][k]).length≤1000000:=by
   match k,hk with
   | 0,_=>simp at hs;subst hs;simp;omega
   | 1,_=>simp at hs;subst hs;simp;omega
  simp only [iq hk,bQ,aU hk,be,bP hk (show [a,b].length≤4611686018427387904 by simp)]
  rw [cX (by omega) (by omega)];rfl
 ·match k,hk with
  | 0,_=>simp at hs;subst hs;simp
  | 1,_=>simp at hs;subst hs;simp
 simp
theorem Bs (a b:List ByteArray) (h:a.length+b.length≤1000000):jN a b=some (ny a b):=by
 unfold jN
 rw [concat2 a b h,be]
 show Option.bind (some (lq iM (a++b))) _=_
 rw [be,FH _ (by rw [nT];simp;omega)];rfl
theorem Dr (a b:List ByteArray) (h:a.length+b.length≤1000000):jH a b=some (ny a b):=by
 unfold jH
 have ha:=sb Br a [] List.Pairwise.nil
 refine (cB (l:=a) (by omega) (fun i (s:List ByteArray)=>(s,i)) (iy iM) (fun s=>(b,s)) (fun k s=>Strict iM s∧s.length≤k) [] ⟨List.Pairwise.nil,by simp⟩ (fun k hk s hs=>⟨?_,p9 Br.tot Br.tr hs.1,by have:=mQ (lt:=iM) s a[k];omega⟩) (fun s _=>by simp only [cP,bu])).1.trans ?_
 ·simp only [iq hk,bQ,aU hk,be,bP hk (show a.length≤4611686018427387904 by omega)]
  rw [xl _ _ (by omega) hs.1];rfl
 dsimp only
 refine (cB (l:=b) (by omega) (fun i (s:List ByteArray)=>(s,i)) (iy iM) (fun s=>s) (fun k s=>Strict iM s∧s.length≤a.length+k) (a.foldl (iy iM) []) ⟨ha.1,by have:=ha.2.2;simpa using this⟩ (fun k hk s hs=>⟨?_,p9 Br.tot Br.tr hs.1,by have:=mQ (lt:=iM) s b[k];omega⟩) (fun s _=>by simp only [cP,bu])).1.trans ?_
 ·simp only [iq hk,bQ,aU hk,be,bP hk (show b.length≤4611686018427387904 by omega)]
  rw [xl _ _ (by omega) hs.1];rfl
 unfold ny
 rw [← tC Br,List.foldl_append]
def U64 (a:Int):Prop:=0≤a∧a<18446744073709551616
theorem wu (a:Int):IntKind.u64.wrap a=a % 18446744073709551616:=rfl
theorem fB {a:Int} (h:U64 a):IntKind.u64.wrap a=a:=by rw [wu];unfold U64 at h;omega
theorem bv64 {a:Int} (h:U64 a):(BitVec.ofInt 64 a).toNat=a.toNat:=by
 rw [BitVec.toNat_ofInt];unfold U64 at h;omega
theorem Ct {a b:Int} (ha:U64 a) (hb:U64 b):dc .u64 a b=((a.toNat &&& b.toNat:Nat):Int):=by
 have hlt:a.toNat &&& b.toNat<18446744073709551616:=Nat.lt_of_le_of_lt Nat.and_le_left (by unfold U64 at ha;omega)
 have e:dc .u64 a b=IntKind.u64.wrap (((BitVec.ofInt 64 a &&& BitVec.ofInt 64 b).toNat:Nat):Int):=rfl
 rw [e,BitVec.toNat_and,bv64 ha,bv64 hb,fB]
 exact ⟨by omega,by omega⟩
theorem FJ {a b:Int} (ha:U64 a) (hb:U64 b):nY .u64 a b=((a.toNat ||| b.toNat:Nat):Int):=by
 have hlt:a.toNat ||| b.toNat<2 ^ 64:=Nat.or_lt_two_pow (by unfold U64 at ha;omega) (by unfold U64 at hb;omega)
 have e:nY .u64 a b=IntKind.u64.wrap (((BitVec.ofInt 64 a ||| BitVec.ofInt 64 b).toNat:Nat):Int):=rfl
 rw [e,BitVec.toNat_or,bv64 ha,bv64 hb,fB]
 exact ⟨by omega,by omega⟩
theorem qa {a:Int} (h:U64 a):dc .u64 a 4294967295=a % 4294967296:=by
 rw [Ct h ⟨by omega,by omega⟩]
 have:a.toNat &&& (4294967295:Int).toNat=a.toNat % 4294967296:=Nat.and_two_pow_sub_one_eq_mod (n:=32) a.toNat
 rw [this];unfold U64 at h;omega
theorem vI {a:Int} (h:U64 a):dc .u64 a 1=a % 2:=by
 rw [Ct h ⟨by omega,by omega⟩]
 have:a.toNat &&& (1:Int).toNat=a.toNat % 2:=Nat.and_two_pow_sub_one_eq_mod (n:=1) a.toNat
 rw [this];unfold U64 at h;omega
theorem Cu {a:Int}:cx .u64 a 32=a / 4294967296:=Int.fdiv_eq_ediv_of_nonneg a (show (0:Int)≤4294967296 by omega)
theorem mul64 {a b:Int} (ha:U64 a) (hb:U64 b):∃ h l,ig a b=some (h,l)∧U64 h∧U64 l∧h*18446744073709551616+l=a*b:=by
 unfold ig lb
 rw [qa ha,qa hb]
 simp only [Cu]
 unfold U64 at ha hb
 have ea:a=4294967296*(a / 4294967296)+a % 4294967296:=by omega
 have eb:b=4294967296*(b / 4294967296)+b % 4294967296:=by omega
 have h1:0≤a / 4294967296∧a / 4294967296<4294967296:=by omega
 have h2:0≤a % 4294967296∧a % 4294967296<4294967296:=by omega
 have h3:0≤b / 4294967296∧b / 4294967296<4294967296:=by omega
 have h4:0≤b % 4294967296∧b % 4294967296<4294967296:=by omega
 generalize a / 4294967296=x1 at *
 generalize a % 4294967296=x0 at *
 generalize b / 4294967296=y1 at *
 generalize b % 4294967296=y0 at *
 subst ea eb
 have p00:0≤x0*y0∧x0*y0≤4294967295*4294967295:=⟨Int.mul_nonneg h2.1 h4.1,Int.mul_le_mul (by omega) (by omega) h4.1 (by omega)⟩
 have p01:0≤x0*y1∧x0*y1≤4294967295*4294967295:=⟨Int.mul_nonneg h2.1 h3.1,Int.mul_le_mul (by omega) (by omega) h3.1 (by omega)⟩
 have p10:0≤x1*y0∧x1*y0≤4294967295*4294967295:=⟨Int.mul_nonneg h1.1 h4.1,Int.mul_le_mul (by omega) (by omega) h4.1 (by omega)⟩
 have p11:0≤x1*y1∧x1*y1≤4294967295*4294967295:=⟨Int.mul_nonneg h1.1 h3.1,Int.mul_le_mul (by omega) (by omega) h3.1 (by omega)⟩
 have e:(4294967296*x1+x0)*(4294967296*y1+y0)=18446744073709551616*(x1*y1)+4294967296*(x1*y0)+4294967296*(x0*y1)+x0*y0:=by
  rw [Int.add_mul,Int.mul_add,Int.mul_add]
  have t1:4294967296*x1*(4294967296*y1)=18446744073709551616*(x1*y1):=by
   rw [Int.mul_assoc,← Int.mul_assoc x1,Int.mul_comm x1 4294967296,Int.mul_assoc 4294967296 x1,← Int.mul_assoc];rfl
  have t2:4294967296*x1*y0=4294967296*(x1*y0):=Int.mul_assoc _ _ _
  have t3:x0*(4294967296*y1)=4294967296*(x0*y1):=by rw [← Int.mul_assoc,Int.mul_comm x0,Int.mul_assoc]
  rw [t1,t2,t3];omega
 rw [e]
 generalize x0*y0=p at *
 generalize x0*y1=q at *
 generalize x1*y0=r at *
 generalize x1*y1=s at *
 refine ⟨_,_,rfl,?_,?_,?_⟩
 all_goals simp only [wu,U64]
 all_goals first | omega | (rw [qa (by unfold U64;omega)];omega)
def rv (w:Zm):Int:=w.Hi*18446744073709551616+w.Lo
def RW (w:Zm):Prop:=U64 w.Hi∧U64 w.Lo
theorem um {p q:Zm} (hp:RW p) (hq:RW q):∃ w b,gO p q=some (w,b)∧RW w∧(rv p+rv q<340282366920938463463374607431768211456→rv w=rv p+rv q):=by
 obtain ⟨ph,pl⟩:=p;obtain ⟨qh,ql⟩:=q
 obtain ⟨⟨a1,a2⟩,⟨a3,a4⟩⟩:=hp
 obtain ⟨⟨b1,b2⟩,⟨b3,b4⟩⟩:=hq
 simp only at a1 a2 a3 a4 b1 b2 b3 b4
 unfold gO lb
 dsimp only
 by_cases h:IntKind.u64.wrap (pl+ql)<pl
 ·rw [det h]
  simp only [bQ,be]
  refine ⟨_,_,rfl,?_,?_⟩
  ·simp only [RW,U64,wu];omega
  rw [wu] at h;simp only [rv,wu];omega
 rw [cw h]
 simp only [bu,be]
 refine ⟨_,_,rfl,?_,?_⟩
 ·simp only [RW,U64,wu];omega
 rw [wu] at h;simp only [rv,wu];omega
theorem oP {a n:Int} (h:n.toNat≤64):cx .u64 a n=a / 2 ^ n.toNat:=by
 have e:cx .u64 a n=a.fdiv (2 ^ min n.toNat 64):=rfl
 rw [e,Nat.min_eq_left h]
 exact Int.fdiv_eq_ediv_of_nonneg a (Int.le_of_lt (Int.pow_pos (by omega)))
theorem xm (b:Int) (k:Nat):b / 2 ^ k=2*(b / 2 ^ (k+1))+b / 2 ^ k % 2:=by
 have:b / 2 ^ (k+1)=b / 2 ^ k / 2:=by rw [Int.pow_succ,Int.ediv_ediv_of_nonneg (Int.le_of_lt (Int.pow_pos (by omega)))]
 rw [this];omega
theorem Cv {a b:Int} (ha:U64 a) (hb:U64 b):∃ w,jI a b=some w∧RW w∧rv w=a*b:=by
 unfold jI
 obtain ⟨t,h5,h6⟩:=mr (body:=fun (v3,v4,v5)=>cond (decide (0≤v3)) (Option.bind (Option.bind (gO (⟨v4,v5⟩:Zm) (⟨v4,v5⟩:Zm)) (fun x14=>Option.bind (ll v3) (fun u15=>cond ((dc .u64 (cx .u64 b v3) 1) == 1) (Option.bind (gO x14.1 (⟨0,a⟩:Zm)) (fun x17=>some (x17.1.Hi,x17.1.Lo))) (some (x14.1.Hi,x14.1.Lo))))) (fun (v11,v12)=>some (.inl ((IntKind.i64.wrap (v3 - 1)),v11,v12)))) (some (.inr (v4,v5))))
  (fun s:Int×Int×Int => -1≤s.1∧s.1≤63∧RW ⟨s.2.1,s.2.2⟩∧rv ⟨s.2.1,s.2.2⟩=a*(b / 2 ^ (s.1+1).toNat)) (fun s=>(s.1+1).toNat) (fun t:Int×Int=>RW ⟨t.1,t.2⟩∧rv ⟨t.1,t.2⟩=a*b)
  (fun s hs=>by
   obtain ⟨v,x,y⟩:=s
   obtain ⟨a1,a2,a3,a4⟩:=hs
   dsimp only at a1 a2 a3 a4 ⊢
   by_cases h0:0≤v
   ·left
    obtain ⟨k,rfl⟩:∃ k:Nat,v=(k:Int):=⟨v.toNat,by omega⟩
    have ek:((k:Int)+1).toNat=k+1:=by omega
    rw [ek] at a4
    have hs:=xm b k
    have hbk:0≤b / 2 ^ k:=Int.ediv_nonneg hb.1 (Int.le_of_lt (Int.pow_pos (by omega)))
    have hbk2:b / 2 ^ k≤b:=Int.ediv_le_self _ hb.1
    have hm:a*(b / 2 ^ k)=2*(a*(b / 2 ^ (k+1)))+a*(b / 2 ^ k % 2):=by
     have:=congrArg (a * ·) hs
     simp only [Int.mul_add] at this
     rw [this,← Int.mul_assoc,Int.mul_comm a 2,Int.mul_assoc]
    have hle:a*(b / 2 ^ k)≤18446744073709551615*18446744073709551615:=Int.mul_le_mul (by unfold U64 at ha;omega) (by unfold U64 at hb;omega) hbk (by omega)
    have hnn:0≤a*(b / 2 ^ k % 2):=Int.mul_nonneg ha.1 (by omega)
    rw [det h0]
    simp only [bQ]
    obtain ⟨w,o,c1,c2,c3⟩:=um a3 a3
    have c3:=c3 (by omega)
    rw [oT c1]
    have hg:ll (k:Int)=some ():=by unfold ll;rw [if_pos h0]
    rw [oT hg,oP (by omega),Int.toNat_natCast,vI ⟨hbk,by unfold U64 at hb;omega⟩,cK (by omega) (by omega)]
    rcases (by omega:b / 2 ^ k % 2=0∨b / 2 ^ k % 2=1) with e | e
    ·rw [e] at hm ⊢
     refine ⟨_,rfl,⟨by dsimp only;omega,by dsimp only;omega,c2,?_⟩,by dsimp only;omega⟩
     have:((k:Int) - 1+1).toNat=k:=by omega
     dsimp only;rw [this,hm];show rv w=_;omega
    rw [e] at hm ⊢
    obtain ⟨w2,o2,d1,d2,d3⟩:=um (p:=w) (q:=⟨0,a⟩) c2 ⟨⟨by simp,by simp⟩,ha⟩
    have e0:rv ⟨0,a⟩=a:=by simp [rv]
    rw [e0] at d3
    have d3:=d3 (by omega)
    simp only [beq_self_eq_true,bQ]
    rw [oT d1]
    refine ⟨_,rfl,⟨by dsimp only;omega,by dsimp only;omega,d2,?_⟩,by dsimp only;omega⟩
    have:((k:Int) - 1+1).toNat=k:=by omega
    dsimp only;rw [this,hm];show rv w2=_;omega
   right
   rw [cw h0]
   have:v = -1:=by omega
   subst this
   refine ⟨_,rfl,a3,?_⟩
   rw [a4];simp)
  FUEL (63,0,0) ⟨by simp,by simp,⟨⟨by simp,by simp⟩,⟨by simp,by simp⟩⟩,by
   have:b / 18446744073709551616=0:=Int.ediv_eq_zero_of_lt hb.1 hb.2
   simp [rv,this]⟩ (i6 (by simp))
 obtain ⟨t1,t2⟩:=t
 rw [oT h5]
 exact ⟨_,rfl,h6.1,h6.2⟩
theorem iand63:∀ {n:Nat},n<128→dc .i64 (n:Int) 63=((n % 64:Nat):Int):=by decide
theorem FK {a:Int} (h:U64 a):fu .u64 a 1=(2*a) % 18446744073709551616:=by
 have e:fu .u64 a 1=IntKind.u64.wrap (a*2):=rfl
 rw [e,wu,Int.mul_comm]
theorem Cw {a b:Int} (ha:U64 a) (h2:a % 2=0) (hb:b=0∨b=1):nY .u64 a b=a+b:=by
 rw [FJ ha (by rcases hb with rfl | rfl <;> exact ⟨by omega,by omega⟩)]
 unfold U64 at ha
 rcases hb with rfl | rfl
 ·simp;omega
 have:a.toNat ||| (1:Int).toNat=a.toNat+1:=by
  have e:a.toNat=2 ^ 1*(a.toNat / 2):=by omega
  have:=Nat.two_pow_add_eq_or_of_lt (i:=1) (b:=1) (by omega) (a.toNat / 2)
  rw [← e] at this
  exact this.symm
 rw [this];omega
theorem bit_lo {h l:Int} (hl:U64 l) {k:Nat} (hk:k<64):(h*18446744073709551616+l) / 2 ^ k % 2=l / 2 ^ k % 2:=by
 have e:(18446744073709551616:Int)=2 ^ k*(2*2 ^ (63 - k)):=by
  have:(2:Int) ^ k*(2*2 ^ (63 - k))=2 ^ (k+(1+(63 - k))):=by rw [Int.pow_add,Int.pow_add];rfl
  rw [this,show k+(1+(63 - k))=64 by omega];rfl
 have hp:(2:Int) ^ k≠0:=Int.ne_of_gt (Int.pow_pos (by omega))
 rw [e,show h*(2 ^ k*(2*2 ^ (63 - k)))+l=l+2 ^ k*(2*(h*2 ^ (63 - k))) by rw [Int.add_comm,Int.mul_left_comm h,Int.mul_left_comm h 2],Int.add_mul_ediv_left _ _ hp,Int.add_mul_emod_self_left]
theorem bit_hi {h l:Int} (hl:U64 l) {k:Nat} (hk:64≤k):(h*18446744073709551616+l) / 2 ^ k=h / 2 ^ (k - 64):=by
 have e:(2:Int) ^ k=18446744073709551616*2 ^ (k - 64):=by
  have:(18446744073709551616:Int)*2 ^ (k - 64)=2 ^ (64+(k - 64)):=by rw [Int.pow_add];rfl
  rw [this,show 64+(k - 64)=k by omega]
 rw [e,← Int.ediv_ediv_of_nonneg (by omega)]
 congr 1
 unfold U64 at hl;omega
theorem Bt {p:Zm} {d:Int} (hp:RW p) (hd:U64 d) (h1:1≤d):∃ q r,j9 p d=some (q,r)∧RW q∧rv q=rv p / d∧r=rv p % d:=by
 have hN:0≤rv p∧rv p<340282366920938463463374607431768211456:=by obtain ⟨⟨a,b⟩,⟨c,e⟩⟩:=hp;unfold rv;omega
 unfold j9
 obtain ⟨t,h5,h6⟩:=mr (body:=fun (v4,v5,v6,v7)=>cond (decide (0≤v5)) (Option.bind (Option.bind (ll (dc .i64 v5 63)) (fun u18=>lb ((dc .u64 (cx .u64 p.Lo (dc .i64 v5 63)) 1)) (fun w19=>Option.bind (cond (decide (63<v5)) (Option.bind (ll (IntKind.i64.wrap (v5 - 64))) (fun u23=>lb ((dc .u64 (cx .u64 p.Hi (IntKind.i64.wrap (v5 - 64))) 1)) (fun w24=>some w24))) (some w19)) (fun v20=>Option.bind (gO (⟨v6,v7⟩:Zm) (⟨v6,v7⟩:Zm)) (fun x25=>cond (((cx .u64 v4 63) == 1)||(decide (d≤(nY .u64 (fu .u64 v4 1) v20)))) (lb ((IntKind.u64.wrap ((nY .u64 (fu .u64 v4 1) v20) - d))) (fun w27=>some (w27,x25.1.Hi,(nY .u64 x25.1.Lo 1)))) (some ((nY .u64 (fu .u64 v4 1) v20),x25.1.Hi,x25.1.Lo))))))) (fun (v14,v15,v16)=>some (.inl (v14,(IntKind.i64.wrap (v5 - 1)),v15,v16)))) (some (.inr (v4,v6,v7))))
  (fun s:Int×Int×Int×Int => -1≤s.2.1∧s.2.1≤127∧RW ⟨s.2.2.1,s.2.2.2⟩∧0≤s.1∧s.1<d∧rv p / 2 ^ (s.2.1+1).toNat=rv ⟨s.2.2.1,s.2.2.2⟩ * d+s.1) (fun s=>(s.2.1+1).toNat) (fun t:Int×Int×Int=>RW ⟨t.2.1,t.2.2⟩∧0≤t.1∧t.1<d∧rv p=rv ⟨t.2.1,t.2.2⟩ * d+t.1)
  (fun s hs=>by
   obtain ⟨v4,v5,x,y⟩:=s
   obtain ⟨a1,a2,a3,a4,a5,a6⟩:=hs
   dsimp only at a1 a2 a3 a4 a5 a6 ⊢
   by_cases h0:0≤v5
   ·left
    obtain ⟨k,rfl⟩:∃ k:Nat,v5=(k:Int):=⟨v5.toNat,by omega⟩
    have ek:((k:Int)+1).toNat=k+1:=by omega
    rw [ek] at a6
    have hs:=xm (rv p) k
    generalize hbit:rv p / 2 ^ k % 2=bit at hs
    have hb01:bit=0∨bit=1:=by omega
    rw [det h0,iand63 (by omega)]
    simp only [bQ]
    have hg:ll ((k % 64:Nat):Int)=some ():=by unfold ll;rw [if_pos (by omega)]
    rw [oT hg]
    unfold lb
    have hv:(cond (decide (63<(k:Int))) (Option.bind (ll (IntKind.i64.wrap ((k:Int) - 64))) (fun _=>some (dc .u64 (cx .u64 p.Hi (IntKind.i64.wrap ((k:Int) - 64))) 1))) (some (dc .u64 (cx .u64 p.Lo ((k % 64:Nat):Int)) 1)))=some bit:=by
     by_cases hk:63<(k:Int)
     ·rw [det hk,cK (by omega) (by omega)]
      have hg2:ll ((k:Int) - 64)=some ():=by unfold ll;rw [if_pos (by omega)]
      simp only [bQ]
      rw [oT hg2,oP (by omega),show ((k:Int) - 64).toNat=k - 64 by omega,vI ⟨Int.ediv_nonneg hp.1.1 (Int.le_of_lt (Int.pow_pos (by omega))),Int.lt_of_le_of_lt (Int.ediv_le_self _ hp.1.1) hp.1.2⟩,← hbit]
      unfold rv;rw [bit_hi hp.2 (by omega)]
     rw [cw hk]
     simp only [bu]
     rw [oP (by omega),Int.toNat_natCast,Nat.mod_eq_of_lt (by omega),vI ⟨Int.ediv_nonneg hp.2.1 (Int.le_of_lt (Int.pow_pos (by omega))),Int.lt_of_le_of_lt (Int.ediv_le_self _ hp.2.1) hp.2.2⟩,← hbit]
     unfold rv;rw [bit_lo hp.2 (by omega)]
    dsimp only
    rw [oT hv]
    obtain ⟨w,o,c1,c2,c3⟩:=um a3 a3
    have hq0:0≤rv ⟨x,y⟩:=by obtain ⟨⟨b1,b2⟩,⟨b3,b4⟩⟩:=a3;unfold rv;dsimp only at *;omega
    have hqd:rv ⟨x,y⟩≤rv ⟨x,y⟩ * d:=by have:=Int.mul_le_mul_of_nonneg_left h1 hq0;omega
    have hle:rv p / 2 ^ k≤rv p:=Int.ediv_le_self _ hN.1
    have c3:=c3 (by omega)
    rw [oT c1]
    have hu4:U64 v4:=⟨a4,by unfold U64 at hd;omega⟩
    have hsh:cx .u64 v4 63=v4 / 9223372036854775808:=oP (by omega)
    have hlow:nY .u64 (fu .u64 v4 1) bit=(2*v4) % 18446744073709551616+bit:=by rw [FK hu4];exact Cw ⟨by omega,by omega⟩ (by omega) hb01
    rw [hlow,hsh,cK (by omega) (by omega)]
    have ekk:((k:Int) - 1+1).toNat=k:=by omega
    unfold U64 at hd hu4
    by_cases hT:d≤2*v4+bit
    ·have hc:((v4 / 9223372036854775808 == 1)||decide (d≤(2*v4) % 18446744073709551616+bit))=true:=by
      simp only [Bool.or_eq_true,beq_iff_eq,decide_eq_true_eq];omega
     rw [hc]
     simp only [bQ]
     obtain ⟨⟨e1,e2⟩,⟨e3,e4⟩⟩:=c2
     have hev:w.Lo % 2=0:=by unfold rv at c3;dsimp only at c3;omega
     rw [Cw ⟨e3,e4⟩ hev (.inr rfl),wu]
     refine ⟨_,rfl,⟨by dsimp only;omega,by dsimp only;omega,⟨⟨e1,e2⟩,⟨by dsimp only;omega,by dsimp only;omega⟩⟩,by dsimp only;omega,by dsimp only;omega,?_⟩,by dsimp only;omega⟩
     dsimp only
     rw [ekk,hs,a6]
     have e5:rv ⟨w.Hi,w.Lo+1⟩=2*rv ⟨x,y⟩+1:=by unfold rv at c3 ⊢;dsimp only at c3 ⊢;omega
     rw [e5,Int.add_mul,Int.mul_assoc];omega
    ·have hc:((v4 / 9223372036854775808 == 1)||decide (d≤(2*v4) % 18446744073709551616+bit))=false:=by
      simp only [Bool.or_eq_false_iff,beq_eq_false_iff_ne,decide_eq_false_iff_not];omega
     rw [hc]
     simp only [bu]
     refine ⟨_,rfl,⟨by dsimp only;omega,by dsimp only;omega,c2,by dsimp only;omega,by dsimp only;omega,?_⟩,by dsimp only;omega⟩
     dsimp only
     rw [ekk,hs,a6,show rv ⟨w.Hi,w.Lo⟩=2*rv ⟨x,y⟩ by show rv w=_;omega,Int.mul_assoc];omega
   right
   rw [cw h0]
   have:v5 = -1:=by omega
   subst this
   refine ⟨_,rfl,a3,a4,a5,?_⟩
   rw [← a6];simp)
  FUEL (0,127,0,0) ⟨by simp,by simp,⟨⟨by simp,by simp⟩,⟨by simp,by simp⟩⟩,by simp,by simp;omega,by
   have:rv p / 340282366920938463463374607431768211456=0:=Int.ediv_eq_zero_of_lt hN.1 hN.2
   simp [rv] at this ⊢;exact this⟩ (i6 (by simp))
 obtain ⟨t1,t2,t3⟩:=t
 rw [oT h5]
 obtain ⟨g1,g2,g3,g4⟩:=h6
 dsimp only at g1 g2 g3 g4
 have gd:rv p / d=rv ⟨t2,t3⟩:=by
  rw [g4,Int.add_comm,Int.add_mul_ediv_right _ _ (by omega),Int.ediv_eq_zero_of_lt g2 g3,Int.zero_add]
 refine ⟨_,_,rfl,g1,gd.symm,?_⟩
 have:=Int.emod_add_mul_ediv (rv p) d
 rw [gd,Int.mul_comm] at this
 omega
structure KnInv (u u1 y1 y0 q rh:Int):Prop where
 eq:u=q*y1+rh
 r0:0≤rh
 r1:rh<4294967296
 q0:0≤q
 q1:q≤4294967297
 up:u*4294967296+u1<q*(y1*4294967296+y0)+(y1*4294967296+y0)
section
variable {u u1 y1 y0 q rh:Int} (hu:0≤u) (huy:u<y1*4294967296+y0) (h1:0≤u1) (h1':u1<4294967296) (hy:2147483648≤y1) (hy':y1<4294967296) (hz:0≤y0) (hz':y0<4294967296)
include hu huy h1 h1' hy hy' hz hz'
theorem sc:KnInv u u1 y1 y0 (u / y1) (u % y1):=by
 have hq0:0≤u / y1:=Int.ediv_nonneg hu (by omega)
 have hr0:=Int.emod_nonneg u (show y1≠0 by omega)
 have hr1:=Int.emod_lt_of_pos u (show 0<y1 by omega)
 have he:=Int.emod_add_mul_ediv u y1
 rw [Int.mul_comm] at he
 have hz2:0≤u / y1*y0:=Int.mul_nonneg hq0 hz
 refine ⟨by omega,hr0,by omega,hq0,?_,?_⟩
 ·apply Int.le_of_lt_add_one
  apply Int.ediv_lt_of_lt_mul (by omega)
  omega
 rw [Int.mul_add,← Int.mul_assoc];omega
theorem un (i:KnInv u u1 y1 y0 q rh) (h:4294967296≤q∨4294967296*rh+u1<q*y0):u*4294967296+u1<q*(y1*4294967296+y0)∧1≤q:=by
 have e:=i.eq
 have hlt:u*4294967296+u1<q*(y1*4294967296+y0):=by
  rcases h with h | h
  ·have:4294967296*(y1*4294967296+y0)≤q*(y1*4294967296+y0):=Int.mul_le_mul_of_nonneg_right h (by omega)
   omega
  rw [Int.mul_add,← Int.mul_assoc];omega
 refine ⟨hlt,?_⟩
 have hq:=i.q0
 by_cases hq0:q=0
 ·subst hq0;rw [Int.zero_mul] at hlt;omega
 omega
theorem Cx (i:KnInv u u1 y1 y0 q rh) (h:4294967296≤q∨4294967296*rh+u1<q*y0) (h2:rh+y1<4294967296):KnInv u u1 y1 y0 (q - 1) (rh+y1):=by
 obtain ⟨hlt,hq⟩:=un hu huy h1 h1' hy hy' hz hz' i h
 have:=i.eq;have:=i.r0;have:=i.q1
 refine ⟨by rw [Int.sub_mul];omega,by omega,h2,by omega,by omega,?_⟩
 rw [Int.sub_mul];omega
theorem Cy (i:KnInv u u1 y1 y0 q rh) (h:4294967296≤q∨4294967296*rh+u1<q*y0) (h2:4294967296≤rh+y1):(q - 1)*(y1*4294967296+y0)≤u*4294967296+u1∧u*4294967296+u1<(q - 1)*(y1*4294967296+y0)+(y1*4294967296+y0):=by
 obtain ⟨hlt,hq⟩:=un hu huy h1 h1' hy hy' hz hz' i h
 have e:=i.eq;have:=i.r0;have hq1:=i.q1
 refine ⟨?_,by rw [Int.sub_mul];omega⟩
 have hz2:(q - 1)*y0≤4294967296*4294967295:=Int.mul_le_mul (by omega) (by omega) hz (by omega)
 rw [Int.mul_add,← Int.mul_assoc]
 rw [Int.sub_mul q 1 y1]
 omega
omit hu huy h1 h1' hy hy' hz hz' in
theorem Ah (i:KnInv u u1 y1 y0 q rh) (h:¬ (4294967296≤q∨4294967296*rh+u1<q*y0)):q*(y1*4294967296+y0)≤u*4294967296+u1:=by
 have e:=i.eq
 rw [Int.mul_add,← Int.mul_assoc];omega
end
section
variable {u u1 y1 y0:Int} (hu:0≤u) (huy:u<y1*4294967296+y0) (h1:0≤u1) (h1':u1<4294967296) (hy:2147483648≤y1) (hy':y1<4294967296) (hz:0≤y0) (hz':y0<4294967296)
include hu huy h1 h1' hy hy' hz hz'
omit hu huy hy hy' in
theorem Cz {q rh:Int} (i:KnInv u u1 y1 y0 q rh):((decide (4294967296≤q))||(decide ((IntKind.u64.wrap ((IntKind.u64.wrap (4294967296*rh))+u1))<(IntKind.u64.wrap (q*y0)))))=decide (4294967296≤q∨4294967296*rh+u1<q*y0):=by
 have:=i.r0;have:=i.r1;have:=i.q0
 rw [fB (a:=4294967296*rh) ⟨by omega,by omega⟩,fB (a:=4294967296*rh+u1) ⟨by omega,by omega⟩]
 by_cases hq:4294967296≤q
 ·rw [det hq,det (Or.inl hq)];rfl
 have hp:q*y0≤4294967295*4294967295:=Int.mul_le_mul (by omega) (by omega) hz (by omega)
 have hp0:0≤q*y0:=Int.mul_nonneg (by omega) hz
 rw [fB (a:=q*y0) ⟨hp0,by omega⟩,cw hq,Bool.false_or]
 congr 1
 exact propext ⟨.inr,fun h=>h.resolve_left hq⟩
omit hy hy' hz hz' in
theorem yB {q:Int} (h0:0≤q) (h2:q*(y1*4294967296+y0)≤u*4294967296+u1):q<4294967296:=by
 have:q*(y1*4294967296+y0)<4294967296*(y1*4294967296+y0):=by omega
 exact Int.lt_of_mul_lt_mul_right this (by omega)
def KQ (u u1 y1 y0 q:Int):Prop:=0≤q∧q<4294967296∧q*(y1*4294967296+y0)≤u*4294967296+u1∧u*4294967296+u1<q*(y1*4294967296+y0)+(y1*4294967296+y0)
theorem FL:∃ q,aW (S:=Int×Int) (T:=(Int)) (fun (v18,v19)=>cond ((decide (4294967296≤v18))||(decide ((IntKind.u64.wrap ((IntKind.u64.wrap (4294967296*v19))+u1))<(IntKind.u64.wrap (v18*y0))))) (cond (decide (4294967296≤(IntKind.u64.wrap (v19+y1)))) (some (.inr (IntKind.u64.wrap (v18 - 1)))) (some (.inl ((IntKind.u64.wrap (v18 - 1)),(IntKind.u64.wrap (v19+y1)))))) (some (.inr v18))) FUEL (u / y1,u % y1)=some q∧KQ u u1 y1 y0 q:=by
 refine mr (fun s:Int×Int=>KnInv u u1 y1 y0 s.1 s.2) (fun s=>s.1.toNat) (KQ u u1 y1 y0) ?_ FUEL _ (sc hu huy h1 h1' hy hy' hz hz') ?_
 ·rintro ⟨q,rh⟩ i
  dsimp only at i ⊢
  rw [Cz h1 h1' hz hz' i]
  have i0:=i.r0;have i1:=i.r1;have i2:=i.q0;have i3:=i.q1
  by_cases h:4294967296≤q∨4294967296*rh+u1<q*y0
  ·rw [det h]
   obtain ⟨_,hq1⟩:=un hu huy h1 h1' hy hy' hz hz' i h
   rw [fB (a:=rh+y1) ⟨by omega,by omega⟩,fB (a:=q - 1) ⟨by omega,by omega⟩]
   by_cases h2:4294967296≤rh+y1
   ·rw [det h2];right
    obtain ⟨e1,e2⟩:=Cy hu huy h1 h1' hy hy' hz hz' i h h2
    exact ⟨_,rfl,by omega,yB hu huy h1 h1' (by omega) e1,e1,e2⟩
   rw [cw h2];left
   exact ⟨_,rfl,Cx hu huy h1 h1' hy hy' hz hz' i h (by omega),by dsimp only;omega⟩
  rw [cw h];right
  have e1:=Ah i h
  exact ⟨_,rfl,i2,yB hu huy h1 h1' i2 e1,e1,i.up⟩
 have:=(sc hu huy h1 h1' hy hy' hz hz').q1
 exact i6 (by dsimp only;omega)
theorem FM:∃ q,aW (S:=Int×Int) (T:=(Int)) (fun (v28,v29)=>cond ((decide (4294967296≤v29))||(decide ((IntKind.u64.wrap ((IntKind.u64.wrap (4294967296*v28))+u1))<(IntKind.u64.wrap (v29*y0))))) (cond (decide (4294967296≤(IntKind.u64.wrap (v28+y1)))) (some (.inr (IntKind.u64.wrap (v29 - 1)))) (some (.inl ((IntKind.u64.wrap (v28+y1)),(IntKind.u64.wrap (v29 - 1)))))) (some (.inr v29))) FUEL (u % y1,u / y1)=some q∧KQ u u1 y1 y0 q:=by
 refine mr (fun s:Int×Int=>KnInv u u1 y1 y0 s.2 s.1) (fun s=>s.2.toNat) (KQ u u1 y1 y0) ?_ FUEL _ (sc hu huy h1 h1' hy hy' hz hz') ?_
 ·rintro ⟨rh,q⟩ i
  dsimp only at i ⊢
  rw [Cz h1 h1' hz hz' i]
  have i0:=i.r0;have i1:=i.r1;have i2:=i.q0;have i3:=i.q1
  by_cases h:4294967296≤q∨4294967296*rh+u1<q*y0
  ·rw [det h]
   obtain ⟨_,hq1⟩:=un hu huy h1 h1' hy hy' hz hz' i h
   rw [fB (a:=rh+y1) ⟨by omega,by omega⟩,fB (a:=q - 1) ⟨by omega,by omega⟩]
   by_cases h2:4294967296≤rh+y1
   ·rw [det h2];right
    obtain ⟨e1,e2⟩:=Cy hu huy h1 h1' hy hy' hz hz' i h h2
    exact ⟨_,rfl,by omega,yB hu huy h1 h1' (by omega) e1,e1,e2⟩
   rw [cw h2];left
   exact ⟨_,rfl,Cx hu huy h1 h1' hy hy' hz hz' i h (by omega),by dsimp only;omega⟩
  rw [cw h];right
  have e1:=Ah i h
  exact ⟨_,rfl,i2,yB hu huy h1 h1' i2 e1,e1,i.up⟩
 have:=(sc hu huy h1 h1' hy hy' hz hz').q1
 exact i6 (by dsimp only;omega)
end
theorem Ds {a v:Int} {k n:Nat} (h:v=a / 2 ^ k) (hn:1≤n) (l:2 ^ (n - 1)≤v) (g:v<2 ^ n):2 ^ (k+n - 1)≤a∧a<2 ^ (k+n):=by
 have hp:(0:Int)<2 ^ k:=Int.pow_pos (by omega)
 have e1:=Int.ediv_mul_le a (Int.ne_of_gt hp)
 have e2:=Int.lt_ediv_add_one_mul_self a hp
 rw [← h] at e1 e2
 constructor
 ·rw [show k+n - 1=(n - 1)+k by omega,Int.pow_add]
  exact Int.le_trans (Int.mul_le_mul_of_nonneg_right l (Int.le_of_lt hp)) e1
 rw [show k+n=n+k by omega,Int.pow_add]
 exact Int.lt_of_lt_of_le e2 (Int.mul_le_mul_of_nonneg_right (by omega) (Int.le_of_lt hp))
def Bu:ByteArray:=⟨#[0,1,2,2,3,3,3,3,4,4,4,4,4,4,4,4,5,5,5,5,5,5,5,5,5,5,5,5,5,5,5,5,6,6,6,6,6,6,6,6,6,6,6,6,6,6,6,6,6,6,6,6,6,6,6,6,6,6,6,6,6,6,6,6,7,7,7,7,7,7,7,7,7,7,7,7,7,7,7,7,7,7,7,7,7,7,7,7,7,7,7,7,7,7,7,7,7,7,7,7,7,7,7,7,7,7,7,7,7,7,7,7,7,7,7,7,7,7,7,7,7,7,7,7,7,7,7,7,8,8,8,8,8,8,8,8,8,8,8,8,8,8,8,8,8,8,8,8,8,8,8,8,8,8,8,8,8,8,8,8,8,8,8,8,8,8,8,8,8,8,8,8,8,8,8,8,8,8,8,8,8,8,8,8,8,8,8,8,8,8,8,8,8,8,8,8,8,8,8,8,8,8,8,8,8,8,8,8,8,8,8,8,8,8,8,8,8,8,8,8,8,8,8,8,8,8,8,8,8,8,8,8,8,8,8,8,8,8,8,8,8,8,8,8,8,8,8,8,8,8,8,8,8,8,8,8]⟩
theorem Bv:∀ v:Fin 256,(match idx Bu.data.toList (v.val:Int) with | some c=>decide (1≤v.val→1≤c.toNat∧2 ^ (c.toNat - 1)≤v.val)&&decide (v.val<2 ^ c.toNat)&&decide (c.toNat≤8) | none=>false)=true:=by decide
theorem Dt {v:Int} (h0:0≤v) (h1:v<256):∃ c,idx Bu.data.toList v=some c∧(1≤v→1≤c.toNat∧2 ^ (c.toNat - 1)≤v)∧v<2 ^ c.toNat∧c.toNat≤8:=by
 obtain ⟨k,rfl⟩:∃ k:Nat,v=(k:Int):=⟨v.toNat,by omega⟩
 have:=Bv ⟨k,by omega⟩
 split at this
 ·rename_i c hc
  simp only [Bool.and_eq_true,decide_eq_true_eq] at this
  obtain ⟨⟨a,b⟩,d⟩:=this
  refine ⟨c,hc,fun h=>⟨(a (by omega)).1,?_⟩,?_,d⟩
  ·have:=(a (by omega)).2;exact_mod_cast this
  exact_mod_cast b
 cases this
theorem len64 {a:Int} (ha:U64 a) (h1:1≤a):∃ n:Nat,f8 a=some (n:Int)∧1≤n∧n≤64∧2 ^ (n - 1)≤a∧a<2 ^ n:=by
 have key:∃ (k:Nat) (v:Int),k≤56∧v=a / 2 ^ k∧1≤v∧v<256∧f8 a=Option.bind (idx Bu.data.toList (IntKind.u8.wrap v)) (fun c13=>lb ((IntKind.i64.wrap ((k:Int)+(IntKind.i64.wrap (c13.toNat:Int))))) (fun w14=>some w14)):=by
  unfold U64 at ha
  have s32:∀ x:Int,cx .u64 x 32=x / 4294967296:=fun x=>oP (by decide)
  have s16:∀ x:Int,cx .u64 x 16=x / 65536:=fun x=>oP (by decide)
  have s8:∀ x:Int,cx .u64 x 8=x / 256:=fun x=>oP (by decide)
  unfold f8
  simp only [s32,s16,s8]
  by_cases c1:4294967296≤a
  ·rw [det c1]
   simp only [bQ,be]
   by_cases c2:65536≤a / 4294967296
   ·rw [det c2]
    simp only [bQ,be]
    by_cases c3:256≤a / 4294967296 / 65536
    ·rw [det c3]
     exact ⟨56,a / 4294967296 / 65536 / 256,by omega,by simp only [Int.reducePow];omega,by omega,by omega,rfl⟩
    rw [cw c3]
    exact ⟨48,a / 4294967296 / 65536,by omega,by simp only [Int.reducePow];omega,by omega,by omega,rfl⟩
   rw [cw c2]
   simp only [bu,be]
   by_cases c3:256≤a / 4294967296
   ·rw [det c3]
    exact ⟨40,a / 4294967296 / 256,by omega,by simp only [Int.reducePow];omega,by omega,by omega,rfl⟩
   rw [cw c3]
   exact ⟨32,a / 4294967296,by omega,by simp only [Int.reducePow],by omega,by omega,rfl⟩
  rw [cw c1]
  simp only [bu,be]
  by_cases c2:65536≤a
  ·rw [det c2]
   simp only [bQ,be]
   by_cases c3:256≤a / 65536
   ·rw [det c3]
    exact ⟨24,a / 65536 / 256,by omega,by simp only [Int.reducePow];omega,by omega,by omega,rfl⟩
   rw [cw c3]
   exact ⟨16,a / 65536,by omega,by simp only [Int.reducePow],by omega,by omega,rfl⟩
  rw [cw c2]
  simp only [bu,be]
  by_cases c3:256≤a
  ·rw [det c3]
   exact ⟨8,a / 256,by omega,by simp only [Int.reducePow],by omega,by omega,rfl⟩
  rw [cw c3]
  exact ⟨0,a,by omega,by simp,by omega,by omega,rfl⟩
 obtain ⟨k,v,k1,k2,k3,k4,k5⟩:=key
 obtain ⟨c,c1,c2,c3,c4⟩:=Dt (v:=v) (by omega) k4
 obtain ⟨c5,c6⟩:=c2 k3
 obtain ⟨l1,l2⟩:=Ds k2 c5 c6 c3
 rw [k5,xP (by omega),oT c1]
 unfold lb
 rw [cK (r:=(c.toNat:Int)) (by omega) (by omega),cK (by omega) (by omega)]
 exact ⟨k+c.toNat,by simp,by omega,by omega,l1,l2⟩
theorem lz64 {a:Int} (ha:U64 a) (h1:1≤a):∃ s:Nat,dD a=some (s:Int)∧s≤63∧9223372036854775808≤a*2 ^ s∧a*2 ^ s<18446744073709551616:=by
 obtain ⟨n,e1,e2,e3,e4,e5⟩:=len64 ha h1
 unfold dD
 rw [oT e1,cK (by omega) (by omega)]
 refine ⟨64 - n,by congr 1;omega,by omega,?_,?_⟩
 ·have:=Int.mul_le_mul_of_nonneg_right e4 (Int.le_of_lt (show (0:Int)<2 ^ (64 - n) from Int.pow_pos (by decide)))
  rw [← Int.pow_add,show n - 1+(64 - n)=63 by omega] at this
  exact this
 have:=Int.mul_lt_mul_of_pos_right e5 (show (0:Int)<2 ^ (64 - n) from Int.pow_pos (by decide))
 rw [← Int.pow_add,show n+(64 - n)=64 by omega] at this
 exact this
theorem Bw {b:Int} (h:0≤b):ll b=some ():=by unfold ll;rw [if_pos h]
theorem Bx {a:Int} {s:Nat} (h:s≤64):fu .u64 a (s:Int)=IntKind.u64.wrap (a*2 ^ s):=by
 have e:fu .u64 a (s:Int)=IntKind.u64.wrap (a*2 ^ min (s:Int).toNat 64):=rfl
 rw [e,Int.toNat_natCast,Nat.min_eq_left h]
theorem ior_sh {h b:Int} {s:Nat} (hh:0≤h) (hb:0≤b) (hb2:b<2 ^ s) (h1:U64 (h*2 ^ s)) (h2:U64 b):nY .u64 (h*2 ^ s) b=h*2 ^ s+b:=by
 rw [FJ h1 h2]
 obtain ⟨x,rfl⟩:∃ k:Nat,h=(k:Int):=⟨h.toNat,by omega⟩
 obtain ⟨z,rfl⟩:∃ k:Nat,b=(k:Int):=⟨b.toNat,by omega⟩
 have e:((x:Int)*2 ^ s)=((2 ^ s*x:Nat):Int):=by push_cast;exact Int.mul_comm _ _
 have hz:z<2 ^ s:=by exact_mod_cast hb2
 rw [e,Int.toNat_natCast,Int.toNat_natCast,← Nat.two_pow_add_eq_or_of_lt hz]
 rfl
theorem dm_of {n q r y:Int} (e:n=q*y+r) (h0:0≤r) (h1:r<y):n / y=q∧n % y=r:=by
 have gd:n / y=q:=by
  rw [e,Int.add_comm,Int.add_mul_ediv_right _ _ (by omega),Int.ediv_eq_zero_of_lt h0 h1,Int.zero_add]
 refine ⟨gd,?_⟩
 have:=Int.emod_add_mul_ediv n y
 rw [gd,Int.mul_comm] at this
 omega
theorem div64 {hi lo y:Int} (h1:U64 hi) (h2:U64 lo) (h3:U64 y) (h4:hi<y):ie hi lo y=some ((hi*18446744073709551616+lo) / y,(hi*18446744073709551616+lo) % y):=by
 have hi0:=h1.1
 have hlo:=h2.1
 have hy1:1≤y:=by omega
 unfold ie
 have cy:(y == 0)=false:=by simp;omega
 rw [cy,cw (show ¬ y≤hi by omega)]
 simp only [bu]
 by_cases hz:hi=0
 ·subst hz
  have:((0:Int) == 0)=true:=rfl
  rw [this]
  simp only [bQ]
  rw [oT (E4 (show y≠0 by omega)),oT (E4 (show y≠0 by omega)),Int.tdiv_eq_ediv_of_nonneg hlo,Int.tmod_eq_emod_of_nonneg hlo]
  have:lo / y≤lo:=Int.ediv_le_self _ hlo
  rw [fB ⟨Int.ediv_nonneg hlo (by omega),by have:=h2.2;omega⟩]
  simp
 have cz:(hi == 0)=false:=by simp;exact hz
 rw [cz]
 simp only [bu]
 obtain ⟨s,e1,e2,e3,e4⟩:=lz64 h3 hy1
 have hP:(0:Int)<2 ^ s:=Int.pow_pos (by omega)
 have hM:(0:Int)<2 ^ (64 - s):=Int.pow_pos (by omega)
 have hPM:(2:Int) ^ s*2 ^ (64 - s)=18446744073709551616:=by rw [← Int.pow_add,show s+(64 - s)=64 by omega];rfl
 have hhP:hi*2 ^ s<y*2 ^ s:=Int.mul_lt_mul_of_pos_right h4 hP
 have hhP0:0≤hi*2 ^ s:=Int.mul_nonneg hi0 (by omega)
 have hqd0:0≤lo / 2 ^ (64 - s):=Int.ediv_nonneg hlo (by omega)
 have hqd1:lo / 2 ^ (64 - s)<2 ^ s:=by
  apply Int.ediv_lt_of_lt_mul hM
  rw [hPM];exact h2.2
 have hPle:(2:Int) ^ s≤18446744073709551616:=by rw [← hPM];have:=Int.mul_le_mul_of_nonneg_left (show (1:Int)≤2 ^ (64 - s) by omega) (Int.le_of_lt hP);omega
 have f1:IntKind.u64.wrap (s:Int)=(s:Int):=fB ⟨by omega,by omega⟩
 have f2:IntKind.u64.wrap (64 - (s:Int))=((64 - s:Nat):Int):=by rw [fB ⟨by omega,by omega⟩];omega
 have f3:fu .u64 y (s:Int)=y*2 ^ s:=by rw [Bx (by omega),fB ⟨by omega,e4⟩]
 have f4:fu .u64 hi (s:Int)=hi*2 ^ s:=by rw [Bx (by omega),fB ⟨hhP0,by omega⟩]
 have f5:cx .u64 lo ((64 - s:Nat):Int)=lo / 2 ^ (64 - s):=by rw [oP (by omega),Int.toNat_natCast]
 have f6:fu .u64 lo (s:Int)=(lo*2 ^ s) % 18446744073709551616:=by rw [Bx (by omega),wu]
 have f7:nY .u64 (hi*2 ^ s) (lo / 2 ^ (64 - s))=hi*2 ^ s+lo / 2 ^ (64 - s):=ior_sh hi0 hqd0 hqd1 ⟨hhP0,by omega⟩ ⟨hqd0,by omega⟩
 rw [oT e1]
 simp only [lb,f1,f2,f3,f4,f5,f6,f7,Bw (Int.natCast_nonneg s),Bw (Int.natCast_nonneg (64 - s)),be,Cu]
 have hN:(hi*18446744073709551616+lo)*2 ^ s=(hi*2 ^ s+lo / 2 ^ (64 - s))*18446744073709551616+(lo*2 ^ s) % 18446744073709551616:=by
  have g1:=Int.emod_add_mul_ediv lo (2 ^ (64 - s))
  have g2:lo*2 ^ s=lo % 2 ^ (64 - s)*2 ^ s+18446744073709551616*(lo / 2 ^ (64 - s)):=by
   have:=congrArg (· * (2:Int) ^ s) g1
   simp only [Int.add_mul] at this
   rw [← this,← hPM]
   rw [Int.mul_assoc,Int.mul_comm (lo / 2 ^ (64 - s)),← Int.mul_assoc,Int.mul_comm (2 ^ (64 - s)),Int.mul_assoc]
  have g3:0≤lo % 2 ^ (64 - s)*2 ^ s:=Int.mul_nonneg (Int.emod_nonneg _ (by omega)) (by omega)
  have g4:lo % 2 ^ (64 - s)*2 ^ s<18446744073709551616:=by
   rw [← hPM,Int.mul_comm (2 ^ s)]
   exact Int.mul_lt_mul_of_pos_right (Int.emod_lt_of_pos _ hM) hP
  rw [Int.add_mul,Int.mul_right_comm hi]
  generalize lo % 2 ^ (64 - s)*2 ^ s=A at *
  generalize lo / 2 ^ (64 - s)=B at *
  generalize lo*2 ^ s=C at *
  generalize hi*2 ^ s=D at *
  omega
 have hu0:0≤hi*2 ^ s+lo / 2 ^ (64 - s):=by omega
 have huy:hi*2 ^ s+lo / 2 ^ (64 - s)<y*2 ^ s:=by
  have:(hi+1)*2 ^ s≤y*2 ^ s:=Int.mul_le_mul_of_nonneg_right (by omega) (by omega)
  rw [Int.add_mul] at this;omega
 have hU0:0≤(lo*2 ^ s) % 18446744073709551616:=by omega
 have hU1:(lo*2 ^ s) % 18446744073709551616<18446744073709551616:=by omega
 have hfin:∀ q R:Int,(hi*18446744073709551616+lo)*2 ^ s=q*(y*2 ^ s)+R→0≤R→R<y*2 ^ s→(hi*18446744073709551616+lo) / y=q∧(hi*18446744073709551616+lo) % y=R / 2 ^ s:=by
  intro q R hq hR0 hR1
  have hr:R=(hi*18446744073709551616+lo - q*y)*2 ^ s:=by rw [Int.sub_mul,Int.mul_assoc q];omega
  have hd:R / 2 ^ s=hi*18446744073709551616+lo - q*y:=by rw [hr];exact Int.mul_ediv_cancel _ (by omega)
  rw [hd]
  generalize hi*18446744073709551616+lo=n at *
  have:0≤n - q*y:=by
   by_cases hc:0≤n - q*y
   ·exact hc
   have:=Int.mul_le_mul_of_nonneg_right (show n - q*y ≤ -1 by omega) (Int.le_of_lt hP);omega
  have:n - q*y<y:=by
   apply Int.lt_of_mul_lt_mul_right (a:=2 ^ s) _ (by omega)
   omega
  exact dm_of (by omega) (by assumption) (by assumption)
 generalize (hi*18446744073709551616+lo)*2 ^ s=NP at *
 generalize hYe:y*2 ^ s=Y at *
 generalize hi*2 ^ s+lo / 2 ^ (64 - s)=u at *
 generalize (lo*2 ^ s) % 18446744073709551616=U at *
 rw [qa (a:=Y) ⟨by omega,e4⟩,qa (a:=U) ⟨hU0,hU1⟩]
 have k1:Y / 4294967296*4294967296+Y % 4294967296=Y:=by omega
 have k2:2147483648≤Y / 4294967296:=by omega
 have k3:Y / 4294967296<4294967296:=by omega
 have k4:0≤Y % 4294967296:=by omega
 have k5:Y % 4294967296<4294967296:=by omega
 have k6:0≤U / 4294967296:=by omega
 have k7:U / 4294967296<4294967296:=by omega
 have k8:0≤U % 4294967296:=by omega
 have k9:U % 4294967296<4294967296:=by omega
 have k10:U=U / 4294967296*4294967296+U % 4294967296:=by omega
 generalize U / 4294967296=u1 at *
 generalize U % 4294967296=u0 at *
 generalize Y / 4294967296=y1 at *
 generalize Y % 4294967296=y0 at *
 have dv:∀ v:Int,0≤v→v<Y→IntKind.u64.wrap (Int.tdiv v y1)=v / y1∧IntKind.u64.wrap (v - IntKind.u64.wrap (v / y1*y1))=v % y1:=by
  intro v v0 v1
  have:=Int.ediv_le_self y1 v0
  have q0:=Int.ediv_nonneg v0 (show 0≤y1 by omega)
  have m0:=Int.emod_nonneg v (show y1≠0 by omega)
  have m1:=Int.emod_lt_of_pos v (show 0<y1 by omega)
  have e:=Int.emod_add_mul_ediv v y1
  rw [Int.mul_comm] at e
  rw [Int.tdiv_eq_ediv_of_nonneg v0,fB (a:=v / y1) ⟨q0,by omega⟩]
  refine ⟨rfl,?_⟩
  have:0≤v / y1*y1:=Int.mul_nonneg q0 (by omega)
  rw [fB (a:=v / y1*y1) ⟨this,by omega⟩,fB ⟨by omega,by omega⟩]
  omega
 have hnz:nz y1=some ():=E4 (by omega)
 obtain ⟨d1,d2⟩:=dv u hu0 huy
 simp only [hnz,d1,d2,be]
 obtain ⟨q1,l1,l2,l3,l4,l5⟩:=FL (u:=u) (u1:=u1) (y1:=y1) (y0:=y0) hu0 (by omega) k6 k7 k2 k3 k4 k5
 rw [k1] at l4 l5
 rw [oT l1]
 have w25:IntKind.u64.wrap (IntKind.u64.wrap (IntKind.u64.wrap (u*4294967296)+u1) - IntKind.u64.wrap (q1*Y))=u*4294967296+u1 - q1*Y:=by
  simp only [wu]
  generalize q1*Y=z at *
  omega
 simp only [w25]
 have v0:0≤u*4294967296+u1 - q1*Y:=by omega
 have v1:u*4294967296+u1 - q1*Y<Y:=by omega
 have hv:u*4294967296+u1=q1*Y+(u*4294967296+u1 - q1*Y):=by omega
 generalize u*4294967296+u1 - q1*Y=v at *
 obtain ⟨d3,d4⟩:=dv v v0 v1
 simp only [d3,d4]
 obtain ⟨q0,m1,m2,m3,m4,m5⟩:=FM (u:=v) (u1:=u0) (y1:=y1) (y0:=y0) v0 (by omega) k8 k9 k2 k3 k4 k5
 rw [k1] at m4 m5
 rw [oT m1]
 have w36:IntKind.u64.wrap (IntKind.u64.wrap (q1*4294967296)+q0)=q1*4294967296+q0:=by simp only [wu];omega
 have w37:IntKind.u64.wrap (IntKind.u64.wrap (IntKind.u64.wrap (v*4294967296)+u0) - IntKind.u64.wrap (q0*Y))=v*4294967296+u0 - q0*Y:=by
  simp only [wu]
  generalize q0*Y=z at *
  omega
 rw [w36,w37,oP (by omega),Int.toNat_natCast]
 obtain ⟨g1,g2⟩:=hfin (q1*4294967296+q0) (v*4294967296+u0 - q0*Y) (by
  rw [hN,k10,Int.add_mul,Int.mul_right_comm]
  generalize q1*Y=z at *
  generalize q0*Y=z0 at *
  omega) (by omega) (by omega)
 rw [g1,g2]
def xv (w:Zo):Int:=w.Hi*18446744073709551616+w.Lo
def XW (w:Zo):Prop:=U64 w.Hi∧U64 w.Lo
theorem xn {a b:Int} (ha:U64 a) (hb:U64 b):∃ w,jG a b=some w∧XW w∧xv w=a*b:=by
 obtain ⟨h,l,e1,e2,e3,e4⟩:=mul64 ha hb
 unfold jG;rw [oT e1]
 exact ⟨_,rfl,⟨e2,e3⟩,e4⟩
def CA (n c m:Int):Int:=if (m=2∧c≤2*(n % c))∨(m=1∧0<n % c) then n / c+1 else n / c
theorem Du {w:Zo} {c m:Int} (hw:XW w) (hc:U64 c) (h1:1≤c) (hm:m=0∨m=1∨m=2):nP w c m=some (if CA (xv w) c m<18446744073709551616 then (CA (xv w) c m,0) else (0,3)):=by
 unfold nP
 have hc0:((((c == 0)||(decide (m<0)))||(decide (3<m))):Bool)=false:=by
  rcases hm with rfl | rfl | rfl <;> simp <;> omega
 rw [hc0];simp only [bu]
 have hn0:0≤xv w:=by unfold xv;have:=hw.1.1;have:=hw.2.1;omega
 have hr0:0≤xv w % c:=Int.emod_nonneg _ (by omega)
 have hr1:xv w % c<c:=Int.emod_lt_of_pos _ (by omega)
 have hle:xv w / c≤CA (xv w) c m:=by unfold CA;split <;> omega
 by_cases h:c≤w.Hi
 ·rw [det h]
  have:18446744073709551616≤xv w / c:=by
   apply Int.le_ediv_of_mul_le (by omega)
   have:=Int.mul_le_mul_of_nonneg_left h (show (0:Int)≤18446744073709551616 by omega)
   unfold xv;have:=hw.2.1;omega
  rw [if_neg (by omega)];rfl
 rw [cw h]
 simp only [bu]
 have e:=div64 hw.1 hw.2 hc (by omega)
 rw [show w.Hi*18446744073709551616+w.Lo=xv w from rfl] at e
 rw [oT e]
 have hq:xv w / c<18446744073709551616:=by
  apply Int.ediv_lt_of_lt_mul (by omega)
  have:=Int.mul_le_mul_of_nonneg_right (show w.Hi+1≤c by omega) (show (0:Int)≤18446744073709551616 by omega)
  unfold xv;have:=hw.2.2;rw [Int.mul_comm 18446744073709551616];omega
 have hq0:0≤xv w / c:=Int.ediv_nonneg hn0 (by omega)
 dsimp only
 have er:j7 (xv w / c) (xv w % c) c m=some (decide ((m=2∧c≤2*(xv w % c))∨(m=1∧0<xv w % c))):=by
  unfold j7
  rw [fB (a:=c - xv w % c) ⟨by omega,by have:=hc.2;omega⟩]
  rcases hm with rfl | rfl | rfl
  ·simp
  ·simp
  simp;omega
 rw [oT er]
 unfold CA
 by_cases hu:(m=2∧c≤2*(xv w % c))∨(m=1∧0<xv w % c)
 ·rw [det hu,if_pos hu]
  simp only [Bool.not_true,bu]
  by_cases hx:xv w / c=18446744073709551615
  ·rw [hx];rfl
  have:(xv w / c == 18446744073709551615)=false:=by simp;exact hx
  rw [this,if_pos (by omega),fB ⟨by omega,by omega⟩];rfl
 rw [cw hu,if_neg hu,if_pos hq];rfl
theorem ref_div {w:Zm} {c m:Int} (hw:RW w) (hc:U64 c) (h1:1≤c) (hm:m=0∨m=1∨m=2):nR w c m=some (if CA (rv w) c m<18446744073709551616 then (CA (rv w) c m,0) else (0,3)):=by
 unfold nR
 have hc0:((((c == 0)||(decide (m<0)))||(decide (3<m))):Bool)=false:=by
  rcases hm with rfl | rfl | rfl <;> simp <;> omega
 rw [hc0];simp only [bu]
 have hn0:0≤rv w:=by unfold rv;have:=hw.1.1;have:=hw.2.1;omega
 have hn1:rv w<340282366920938463463374607431768211456:=by unfold rv;have:=hw.1.2;have:=hw.2.2;omega
 have hr0:0≤rv w % c:=Int.emod_nonneg _ (by omega)
 have hr1:rv w % c<c:=Int.emod_lt_of_pos _ (by omega)
 obtain ⟨q,r,e1,e2,e3,e4⟩:=Bt hw hc h1
 rw [oT e1]
 dsimp only
 have er:(cond (m == 1) (some (decide (0<r))) (cond (m == 2) (some (decide ((IntKind.u64.wrap (c - r))≤r))) (cond (m == 3) (some ((decide ((IntKind.u64.wrap (c - r))<r))||((r == (IntKind.u64.wrap (c - r)))&&((dc .u64 q.Lo 1) == 1)))) (some false))))=some (decide ((m=2∧c≤2*(rv w % c))∨(m=1∧0<rv w % c))):=by
  rw [e4,fB (a:=c - rv w % c) ⟨by omega,by have:=hc.2;omega⟩]
  rcases hm with rfl | rfl | rfl
  ·simp
  ·simp
  simp;omega
 rw [oT er]
 have hq0:0≤rv w / c:=Int.ediv_nonneg hn0 (by omega)
 unfold CA
 have hfin:∀ z:Zm,RW z→(cond (decide (0<z.Hi)) (some ((0:Int),(3:Int))) (some (z.Lo,0)))=some (if rv z<18446744073709551616 then (rv z,0) else (0,3)):=by
  intro z hz
  obtain ⟨⟨a1,a2⟩,⟨a3,a4⟩⟩:=hz
  by_cases h:0<z.Hi
  ·rw [det h,if_neg (by unfold rv;omega)];rfl
  have:rv z=z.Lo:=by unfold rv;omega
  rw [cw h,this,if_pos a4];rfl
 by_cases hu:(m=2∧c≤2*(rv w % c))∨(m=1∧0<rv w % c)
 ·rw [det hu,if_pos hu]
  obtain ⟨z,b,f1,f2,f3⟩:=um (p:=q) (q:=⟨0,1⟩) e2 ⟨⟨by simp,by simp⟩,⟨by simp,by simp⟩⟩
  have hone:rv ⟨0,1⟩=1:=rfl
  have:rv w / c≤rv w:=Int.ediv_le_self _ hn0
  have hc2:2≤c:=by omega
  have t1:=Int.ediv_mul_le (rv w) (show c≠0 by omega)
  have t2:=Int.mul_le_mul_of_nonneg_left hc2 hq0
  rw [hone,e3] at f3
  have f3:=f3 (by omega)
  simp only [bQ]
  rw [oT f1]
  simp only [be]
  rw [hfin z f2,f3]
 rw [cw hu,if_neg hu]
 simp only [bu,be]
 rw [hfin q e2,e3]
structure VProd (l:List Zc) (p:Zc):Prop where
 price:1≤p.Price∧p.Price≤1000000000000
 lvl:6≤cM p.Code
 ctr:ml p.Country=true
 proc:hU p.Processes=true
 few:p.Inputs.length≤8
 asc:p.Inputs.Pairwise fun a b=>a.Product<b.Product
 inp:∀ x∈p.Inputs,(cj l x.Product).isSome=true∧0≤x.Value∧x.Value≤1000000000000
 obt:p.Obtained=true→p.Inputs=[]
structure VPs (l:List Zc):Prop where
 len:l.length≤64
 asc:l.Pairwise fun a b=>a.ID<b.ID
 all:∀ p∈l,VProd l p
theorem ko {l:List ByteArray} (h:hU l=true):l.length≤8∧(∀ s∈l,gW s=true)∧Strict iM l:=by
 unfold hU at h
 simp only [Bool.and_eq_true,decide_eq_true_eq] at h
 exact ⟨h.1,fun s hs=>List.all_eq_true.1 h.2.1 s hs,(ly _).1 h.2.2⟩
theorem VPs.sorted {l:List Zc} (h:VPs l):Sorted l:=⟨by have:=h.len;omega,h.asc,fun p hp=>by have h1:=(ko (h.all p hp).proc).1;have h2:=(h.all p hp).few;omega⟩
def bT (l:List Zc) (id:Int):Zc:=(cj l id).getD Af
theorem xo {l:List Zc} {id:Int} {p:Zc} (h:cj l id=some p):p∈l∧p.ID=id:=⟨List.mem_of_find?_eq_some h,by have:=List.find?_some h;simpa using this⟩
theorem kp {l:List Zc} (h:VPs l) {id:Int} (hs:(cj l id).isSome=true):bT l id∈l∧VProd l (bT l id)∧(bT l id).ID=id:=by
 cases hf:cj l id with
 | none=>rw [hf] at hs;cases hs
 | some p =>
  have:=xo hf
  unfold bT;rw [hf];exact ⟨this.1,h.all p this.1,this.2⟩
abbrev CSet:=Za→Bool
def fX (ps:List Int) (S:CSet) (q:Zc) (v:Int):Zl×Option Za:=match ps.find? (fun id=>S ⟨q.ID,id⟩) with
 | some id=>(⟨q.Code,v,true⟩,some ⟨q.ID,id⟩)
 | none=>(⟨q.Code,v,false⟩,none)
def dP (v part price:Int):Int:=if CA (v*part) price 1≤1000000000000 then CA (v*part) price 1 else 1000000000000
def tE (a:Zb) (q:Zc):Bool:=a.Kind == 3&&lH a.Parties q.Country
def fS (plan:List Zc) (a:Zb) (ps:List Int) (S:CSet) (x:Zg):List (Zl×Option Za) :=
 cond ((fX ps S (bT plan x.Product) x.Value).2.isSome || !tE a (bT plan x.Product)||(bT plan x.Product).Inputs.isEmpty) [fX ps S (bT plan x.Product) x.Value]
  ((bT plan x.Product).Inputs.map fun y=>fX ps S (bT plan y.Product) (dP x.Value y.Value (bT plan x.Product).Price))
def fe (plan:List Zc) (a:Zb) (ps:List Int) (S:CSet) (p:Zc):List (Zl×Option Za):=p.Inputs.flatMap (fS plan a ps S)
def lz (plan:List Zc) (a:Zb) (acc:List ByteArray) (x:Zg):List ByteArray:=cond (tE a (bT plan x.Product)) (ny acc (bT plan x.Product).Processes) acc
def zCase:Zn:=⟨ByteArray.empty,0,false,[],[]⟩
def oY (l:List Zb) (id:Int):Zb:=(lQ l id).getD Do
def qb (plan:List Zc) (l:List Zb) (imp:ByteArray) (c:Za) (S:CSet):Zn :=
 ⟨(bT plan c.Product).Code,(bT plan c.Product).Price,(bT plan c.Product).Obtained,((bT plan c.Product).Inputs.foldl (lz plan (oY l c.Agreement)) (bT plan c.Product).Processes).take 8,
  (fe plan (oY l c.Agreement) (eJ l c.Agreement (bT plan c.Product).Country imp) S (bT plan c.Product)).map (·.1)⟩
def xp (plan:List Zc) (l:List Zb) (imp:ByteArray) (c:Za) (S:CSet):List Za :=
 sd bL ((fe plan (oY l c.Agreement) (eJ l c.Agreement (bT plan c.Product).Country imp) S (bT plan c.Product)).filterMap (·.2))
def xq (plan:List Zc) (l:List Zb) (imp:ByteArray) (c:Za) (S:CSet):Zn×List Za:=cond (lI plan l imp c) (qb plan l imp c S,xp plan l imp c S) (zCase,[])
theorem yC {n c:Int} (hn:0≤n) (hc:1≤c):0≤CA n c 1:=by
 unfold CA
 have:=Int.ediv_nonneg hn (show (0:Int)≤c by omega)
 split <;> omega
theorem vJ {v part price:Int} (h1:0≤v) (h2:0≤part) (h3:1≤price):0≤dP v part price∧dP v part price≤1000000000000:=by
 unfold dP
 have:=yC (Int.mul_nonneg h1 h2) h3
 split <;> omega
theorem yD {v part price:Int} (h1:0≤v∧v≤1000000000000) (h2:0≤part∧part≤1000000000000) (h3:1≤price∧price≤1000000000000):fJ v part price=some (dP v part price):=by
 unfold fJ lZ
 rw [fB (a:=v) ⟨by omega,by omega⟩,fB (a:=part) ⟨by omega,by omega⟩,fB (a:=price) ⟨by omega,by omega⟩]
 obtain ⟨w,e1,e2,e3⟩:=xn (a:=v) (b:=part) ⟨by omega,by omega⟩ ⟨by omega,by omega⟩
 rw [e1,be,Du e2 ⟨by omega,by omega⟩ h3.1 (.inr (.inl rfl)),e3]
 unfold dP
 have hp:=yC (Int.mul_nonneg h1.1 h2.1) h3.1
 generalize CA (v*part) price 1=r at hp
 by_cases hr:r<18446744073709551616
 ·rw [if_pos hr]
  by_cases hm:r≤1000000000000
  ·rw [if_pos hm]
   simp only [be,bne_self_eq_false,Bool.false_or]
   rw [cw (by omega),bu,cK (by omega) (by omega)]
  rw [if_neg hm]
  simp only [be,bne_self_eq_false,Bool.false_or]
  rw [det (by omega)];rfl
 rw [if_neg hr,if_neg (by omega)];rfl
theorem Ai {v part price:Int} (h1:0≤v∧v≤1000000000000) (h2:0≤part∧part≤1000000000000) (h3:1≤price∧price≤1000000000000) {β:Type} (k:Int→Option β):Option.bind (ka (IntKind.u64.wrap v) (IntKind.u64.wrap part) (IntKind.u64.wrap price) 1) (fun x79=>Option.bind (cond ((x79.2 == 0)&&(decide (x79.1<1000000000000))) (some (IntKind.i64.wrap x79.1)) (some 1000000000000)) k)=k (dP v part price):=by
 unfold ka
 rw [fB (a:=v) ⟨by omega,by omega⟩,fB (a:=part) ⟨by omega,by omega⟩,fB (a:=price) ⟨by omega,by omega⟩]
 obtain ⟨w,e1,e2,e3⟩:=Cv (a:=v) (b:=part) ⟨by omega,by omega⟩ ⟨by omega,by omega⟩
 rw [e1,be,ref_div e2 ⟨by omega,by omega⟩ h3.1 (.inr (.inl rfl)),e3]
 unfold dP
 have hp:=yC (Int.mul_nonneg h1.1 h2.1) h3.1
 generalize CA (v*part) price 1=r at hp
 by_cases hr:r<18446744073709551616
 ·rw [if_pos hr]
  by_cases hm:r<1000000000000
  ·rw [if_pos (by omega)]
   simp only [be,beq_self_eq_true,Bool.true_and]
   rw [det (by omega),bQ,be,cK (by omega) (by omega)]
  simp only [be,beq_self_eq_true,Bool.true_and]
  rw [cw (by omega),bu,be]
  congr 1
  split <;> omega
 rw [if_neg hr,if_neg (by omega)];rfl
def AF:Zl×Option Za→Ze
 | (i,some c)=>.proved_ ⟨i,c⟩
 | (i,none)=>.plain_ ⟨i⟩
theorem Dv {K V:Type} [DecidableEq K] (m:List (K×V)) (k c:K) (v:V):lV (qy m k v) c=if k=c then some v else lV m c:=by
 induction m with
 | nil=>simp only [qy,lV]
 | cons p m ih =>
  obtain ⟨a,w⟩:=p
  simp only [qy]
  by_cases h:a=k
  ·subst h
   simp only [if_true,lV]
   split <;> rfl
  rw [if_neg h]
  simp only [lV,ih]
  by_cases h2:a=c
  ·subst h2;simp [show ¬ k=a from fun e=>h e.symm]
  simp [h2]
theorem FN (set:List Za) (c:Za):(lV (set.foldl (fun m x=>qy m x true) []) c).getD false=bc set c:=by
 have key:∀ (l:List Za) (m:List (Za×Bool)),(lV (l.foldl (fun m x=>qy m x true) m) c).getD false=(bc l c||(lV m c).getD false):=by
  intro l
  induction l with
  | nil=>intro m;rfl
  | cons x l ih =>
   intro m
   rw [List.foldl_cons,ih,Dv]
   show _=((decide (x=c)||bc l c)||_)
   by_cases h:x=c
   ·rw [if_pos h,det h];cases bc l c <;> rfl
   rw [if_neg h,cw h,Bool.false_or]
 rw [key];show (bc set c||false)=_;rw [Bool.or_false]
theorem xr (ps:List Int) (m:List (Za×Bool)) (S:CSet) (hm:∀ c,(lV m c).getD false=S c) (hps:ps.length≤140737488355328) (q:Zc) (v:Int):cQ ⟨ps,m⟩ q v=some (AF (fX ps S q v)):=by
 unfold cQ fX
 refine (bM (l:=ps) (by omega) (fun _ id=>cond (S ⟨q.ID,id⟩) (some (.inr (Ze.proved_ ⟨⟨q.Code,v,true⟩,⟨q.ID,id⟩⟩))) none) (.inl ()) (fun k hk=>?_) (by simp only [cP,bu])).trans ?_
 ·simp only [iq hk,bQ,aU hk,be,bP hk (show ps.length≤4611686018427387904 by omega),hm]
  cases S ⟨q.ID,ps[k]⟩ <;> rfl
 rw [kE (fun id:Int=>S ⟨q.ID,id⟩) (fun id=>(Sum.inr (Ze.proved_ ⟨⟨q.Code,v,true⟩,⟨q.ID,id⟩⟩):Unit⊕Ze))]
 cases ps.find? (fun id:Int=>S ⟨q.ID,id⟩) <;> rfl
def By:Za:=⟨0,0⟩
theorem FO (ps:List Int) (set:List Za) (hps:ps.length≤140737488355328) (hset:set.length≤140737488355328) (q:Zc) (v:Int):iu ps q.ID set=some (gU By (fX ps (bc set) q v).2)∧(fX ps (bc set) q v).1=⟨q.Code,v,(fX ps (bc set) q v).2.isSome⟩:=by
 constructor
 ·unfold iu fX
  refine (bM (l:=ps) (by omega) (fun _ id=>cond (bc set ⟨q.ID,id⟩) (some (.inr ((⟨q.ID,id⟩:Za),true))) none) (.inl ()) (fun k hk=>?_) (by simp only [cP,bu])).trans ?_
  ·simp only [iq hk,bQ,aU hk,be,bP hk (show ps.length≤4611686018427387904 by omega),oN _ _ hset]
   cases bc set ⟨q.ID,ps[k]⟩ <;> rfl
  rw [kE (fun id:Int=>bc set ⟨q.ID,id⟩) (fun id=>(Sum.inr ((⟨q.ID,id⟩:Za),true):Unit⊕(Za×Bool)))]
  cases ps.find? (fun id:Int=>bc set ⟨q.ID,id⟩) <;> rfl
 unfold fX
 cases ps.find? (fun id:Int=>bc set ⟨q.ID,id⟩) <;> rfl
theorem qc {plan:List Zc} (hv:VPs plan) (a:Zb) (ps:List Int) (S:CSet) (x:Zg) (hx:(cj plan x.Product).isSome=true):(fS plan a ps S x).length≤8:=by
 unfold fS
 generalize ((fX ps S (bT plan x.Product) x.Value).2.isSome || !tE a (bT plan x.Product)||(bT plan x.Product).Inputs.isEmpty)=b
 cases b
 ·rw [bu,List.length_map];exact (kp hv hx).2.1.few
 simp
theorem FP {w:List ByteArray} (h:hU w=true):w.length≤8:=(ko h).1
theorem Bz (a b:List ByteArray):(ny a b).length≤a.length+b.length:=by unfold ny;have:=FG (lt:=iM) (a++b);rwa [List.length_append] at this
theorem xt {plan:List Zc} (hv:VPs plan) (a:Zb) (acc:List ByteArray) (x:Zg) (hx:(cj plan x.Product).isSome=true):(lz plan a acc x).length≤acc.length+8:=by
 unfold lz
 cases tE a (bT plan x.Product)
 ·rw [bu];omega
 rw [bQ]
 have h1:=Bz acc (bT plan x.Product).Processes
 have h2:=FP (kp hv hx).2.1.proc
 omega
theorem vK {plan:List Zc} (hv:VPs plan) (id:Int):di plan id=some (bT plan id,(cj plan id).isSome):=by
 rw [vG _ _ hv.sorted];unfold bT;cases cj plan id <;> rfl
theorem xu {plan:List Zc} (hv:VPs plan) (id:Int):eG plan id=some (bT plan id,(cj plan id).isSome):=by
 rw [sR _ _ (by have:=hv.len;omega)];unfold bT;cases cj plan id <;> rfl
theorem yE (t:Zl×Option Za):(AF t).is_proved_=t.2.isSome:=by obtain ⟨i,c⟩:=t;cases c <;> rfl
theorem Dw {plan:List Zc} (hv:VPs plan) (a:Zb) (ha:a.Parties.length≤140737488355328) {p:Zc} (hp:VProd plan p) (ps:List Int) (hps:ps.length≤140737488355328) (m:List (Za×Bool)) (S:CSet) (hm:∀ c,(lV m c).getD false=S c) :
    fb plan a p ⟨ps,m⟩=some ((fe plan a ps S p).map AF,(p.Inputs.foldl (lz plan a) p.Processes).take 8):=by
  unfold fb bS
  have hpr:=FP hp.proc
  have hfew:=hp.few
  rw [gA (by omega) (by omega),be]
  refine (cB (l:=p.Inputs) (by omega) (fun i (s:List Ze×List ByteArray)=>(s.1,s.2,i)) (fun s x=>(s.1++(fS plan a ps S x).map AF,lz plan a s.2 x)) (fun s=>s) (fun k s=>s.1.length≤8*k∧s.2.length≤8+8*k) ([],p.Processes) ⟨by simp,by simpa using hpr⟩ (fun k hk s hs=>?_) (fun s _=>by simp only [cP,bu])).1.trans ?_
  · obtain ⟨l9,l12⟩:=s
    obtain ⟨h1,h2⟩:=hs
    dsimp only at h1 h2 ⊢
    obtain ⟨hin,hv0,hv1⟩:=hp.inp _ (List.getElem_mem hk)
    obtain ⟨hq1,hq2,hq3⟩:=kp hv hin
    have hql:=hq2.few
    refine ⟨?_,by have:=qc hv a ps S p.Inputs[k] hin;simp;omega,by have:=xt hv a l12 p.Inputs[k] hin;omega⟩
    simp only [iq hk,bQ,aU hk,be,bP hk (show p.Inputs.length≤4611686018427387904 by omega),vK hv]
    generalize hx:p.Inputs[k]=x at *
    rw [r8 _ _ ha,xr ps m S hm hps]
    unfold fS lz tE
    have e1:Option.bind (gd (a.Kind == 3) (some (lH a.Parties (bT plan x.Product).Country))) (fun x33=>some ((a.Kind == 3)&&x33))=some ((a.Kind == 3)&&lH a.Parties (bT plan x.Product).Country):=by cases (a.Kind == 3) <;> rfl
    have e2:∀ {β:Type} (K:Bool→Option β),(∀ b c,((a.Kind == 3)&&b)=((a.Kind == 3)&&c)→K b=K c)→Option.bind (gd (a.Kind == 3) (some (lH a.Parties (bT plan x.Product).Country))) K=K (lH a.Parties (bT plan x.Product).Country):=by
      intro β K hK
      cases hk3:(a.Kind == 3)
      · show K default=_;exact hK _ _ (by rw [hk3];rfl)
      rfl
    rw [e2 _ (fun b c hbc=>by simp only [hbc])]
    generalize hF:((a.Kind == 3)&&lH a.Parties (bT plan x.Product).Country)=F
    have e3:(cond F (Option.bind (jN l12 (bT plan x.Product).Processes) (fun x38=>some x38)) (some l12))=some (cond F (ny l12 (bT plan x.Product).Processes) l12):=by
      cases F
      · rfl
      rw [bQ,Bs _ _ (by have:=FP hq2.proc;omega)];rfl
    simp only [e3,be,yE,len0]
    cases hc:((fX ps S (bT plan x.Product) x.Value).2.isSome || !F||(bT plan x.Product).Inputs.isEmpty)
    · simp only [bu]
      refine (congrArg (fun o=>Option.bind o _) (cB (l:=(bT plan x.Product).Inputs) (by omega) (fun i (s:List Ze)=>(s,i)) (fun s y=>s++[AF (fX ps S (bT plan y.Product) (dP x.Value y.Value (bT plan x.Product).Price))]) (fun s=>s) (fun j s=>s.length≤8*k+j) l9 h1 (fun j hj s hs=>⟨?_,by simp;omega⟩) (fun s _=>by simp only [cP,bu])).1).trans ?_
      rotate_left
      · simp only [be]
        have hfl:∀ (ys:List Zg) (acc:List Ze),ys.foldl (fun s y=>s++[AF (fX ps S (bT plan y.Product) (dP x.Value y.Value (bT plan x.Product).Price))]) acc=acc++(ys.map fun y=>fX ps S (bT plan y.Product) (dP x.Value y.Value (bT plan x.Product).Price)).map AF:=by
          intro ys
          induction ys with
          | nil=>intro acc;simp
          | cons y ys ih=>intro acc;rw [List.foldl_cons,ih];simp
        rw [hfl]
      obtain ⟨hy1,hy2,hy3⟩:=hq2.inp _ (List.getElem_mem hj)
      simp only [iq hj,bQ,aU hj,be,bP hj (show (bT plan x.Product).Inputs.length≤4611686018427387904 by omega),vK hv]
      rw [yD ⟨hv0,hv1⟩ ⟨hy2,hy3⟩ hq2.price,be,xr ps m S hm hps,be,cX (by simp;omega) (by simp;omega)];rfl
    simp only [bQ]
    rw [cX (by simp;omega) (by simp;omega)];rfl
  dsimp only
  have hfold:∀ (xs:List Zg) (s:List Ze×List ByteArray),xs.foldl (fun s x=>(s.1++(fS plan a ps S x).map AF,lz plan a s.2 x)) s=(s.1++(xs.flatMap (fS plan a ps S)).map AF,xs.foldl (lz plan a) s.2):=by
    intro xs
    induction xs with
    | nil=>intro s;simp
    | cons x xs ih=>intro s;rw [List.foldl_cons,ih,List.flatMap_cons];simp
  rw [hfold]
  dsimp only
  rw [uh _ _ (by omega),be];rfl
theorem qv {p:List Zc} {l:List Zb} {i:ByteArray} {c:Za} (h:lI p l i c=true):∃ q a r,cj p c.Product=some q∧lQ l c.Agreement=some a∧fc a q.Code=some r∧q.Country≠i∧yw a q.Country i=true:=by
 unfold lI at h
 split at h
 ·rename_i q a e1 e2
  simp only [Bool.and_eq_true,Bool.not_eq_true',decide_eq_false_iff_not] at h
  obtain ⟨⟨h1,h2⟩,h3⟩:=h
  obtain ⟨r,hr⟩:=Option.isSome_iff_exists.1 h3
  exact ⟨q,a,r,e1,e2,hr,h1,h2⟩
 cases h
theorem oQ {plan:List Zc} (hv:VPs plan) (a:Zb) (ps:List Int) (S:CSet) {p:Zc} (hp:VProd plan p):(fe plan a ps S p).length≤64:=by
 unfold fe
 have key:∀ xs:List Zg,(∀ x∈xs,(cj plan x.Product).isSome=true)→(xs.flatMap (fS plan a ps S)).length≤8*xs.length:=by
  intro xs
  induction xs with
  | nil=>intro _;simp
  | cons x xs ih =>
   intro h
   rw [List.flatMap_cons,List.length_append,List.length_cons]
   have h1:=qc hv a ps S x (h x (by simp));have h2:=ih fun y hy=>h y (by simp [hy]);omega
 have h1:=key p.Inputs fun x hx=>(hp.inp x hx).1
 have h2:=hp.few
 omega
theorem Dx {plan:List Zc} {l:List Zb} (hv:VPs plan) (hl:VAs l) (imp:ByteArray) (c:Za) (set:List Za) (hs:set.length≤140737488355328):kg plan l imp c set=some (xq plan l imp c (bc set)):=by
 unfold kg xq
 have hlen:=hl.len
 rw [Ag _ _ _ _ hv.sorted hl,be]
 cases had:lI plan l imp c
 ·rfl
 obtain ⟨q,a,r,e1,e2,_,_,_⟩:=qv had
 have hq:VProd plan (bT plan c.Product):=(kp hv (by rw [e1];rfl)).2.1
 have ha:oY l c.Agreement=a:=by unfold oY;rw [e2];rfl
 have hva:=(nV hl e2).1
 simp only [Bool.not_true,bu,bQ]
 rw [vK hv,be,rt _ _ (by omega),e2,be,wD _ _ _ _ hl,be]
 have hpl:=sa l c.Agreement (bT plan c.Product).Country imp
 unfold qb xp
 rw [ha]
 generalize hps:eJ l c.Agreement (bT plan c.Product).Country imp=ps at *
 refine (cB (l:=set) (by omega) (fun i (m:List (Za×Bool))=>(i,m)) (fun m x=>qy m x true) (fun m=>m) (fun _ _=>True) [] trivial (fun k hk m _=>⟨?_,trivial⟩) (fun m _=>by simp only [cP,bu])).1.trans ?_
 ·simp only [iq hk,bQ,aU hk,be,bP hk (show set.length≤4611686018427387904 by omega)]
 rw [Dw hv (gU Do (some a)).1 hva.ok.par.1 hq ps (by omega) _ (bc set) (fun c=>FN set c),be]
 dsimp +instances only [gU]
 have hsl:=oQ hv a ps (bc set) hq
 refine (cB (l:=(fe plan a ps (bc set) (bT plan c.Product)).map AF) (by rw [List.length_map];omega) (fun i (s:List Za×List Zl)=>(s.1,i,s.2)) (fun s x=>(cond x.is_proved_ (s.1++[x.as_proved_.premise]) s.1,s.2++[match x with | .plain_ y=>y.use | .proved_ y=>y.use])) (fun s=>s) (fun k s=>s.1.length≤k∧s.2.length≤k) ([],[]) ⟨by simp,by simp⟩ (fun k hk s hs=>⟨?_,?_⟩) (fun s _=>by simp only [cP,bu])).1.trans ?_
 ·have hk2:k<64:=by rw [List.length_map] at hk;omega
  have ei:∀ x:Ze,Icumulation_supply_input x=some (match x with | .plain_ y=>y.use | .proved_ y=>y.use):=fun x=>by cases x <;> rfl
  simp only [iq hk,bQ,aU hk,be,bP hk (show ((fe plan a ps (bc set) (bT plan c.Product)).map AF).length≤4611686018427387904 by rw [List.length_map];omega),ei]
  rw [cX (by simp;omega) (by simp;omega),be,cX (by simp;omega) (by simp;omega)]
  cases ((fe plan a ps (bc set) (bT plan c.Product)).map AF)[k].is_proved_ <;> rfl
 ·obtain ⟨h1,h2⟩:=hs
  cases ((fe plan a ps (bc set) (bT plan c.Product)).map AF)[k].is_proved_ <;> simp <;> omega
 have key:∀ (xs:List (Zl×Option Za)) (s:List Za×List Zl),(xs.map AF).foldl (fun s x=>(cond x.is_proved_ (s.1++[x.as_proved_.premise]) s.1,s.2++[match x with | .plain_ y=>y.use | .proved_ y=>y.use])) s=(s.1++xs.filterMap (·.2),s.2++xs.map (·.1)):=by
  intro xs
  induction xs with
  | nil=>intro s;simp
  | cons x xs ih =>
   intro s
   obtain ⟨i,o⟩:=x
   rw [List.map_cons,List.foldl_cons,ih]
   cases o with
   | none=>simp [AF,Ze.is_proved_]
   | some c=>simp [AF,Ze.is_proved_,Ze.as_proved_]
 rw [key]
 simp only [List.nil_append]
 show Option.bind (some (lq bL _)) _=_
 rw [be,FI _ (by rw [nT];have:=List.length_filterMap_le (fun x:Zl×Option Za=>x.2) (fe plan a ps (bc set) (bT plan c.Product));omega)];rfl
theorem FQ {plan:List Zc} {l:List Zb} (hv:VPs plan) (hl:VAs l) (imp:ByteArray) (c:Za) (set:List Za) (hs:set.length≤140737488355328):hQ plan l imp c set=some (xq plan l imp c (bc set)):=by
 unfold hQ xq
 have hlen:=hl.len
 rw [Cq _ _ _ _ (by have:=hv.len;omega) hl,be]
 cases had:lI plan l imp c
 ·rfl
 obtain ⟨q,a,r,e1,e2,_,_,_⟩:=qv had
 have hq:VProd plan (bT plan c.Product):=(kp hv (by rw [e1];rfl)).2.1
 have ha:oY l c.Agreement=a:=by unfold oY;rw [e2];rfl
 have hva:=(nV hl e2).1
 simp only [Bool.not_true,bu,bQ]
 rw [xu hv,be,sQ _ _ (by omega),e2,be,yx _ _ _ _ hl,be]
 have hpl:=sa l c.Agreement (bT plan c.Product).Country imp
 unfold qb xp
 rw [ha]
 simp only [gU]
 generalize hps:eJ l c.Agreement (bT plan c.Product).Country imp=ps at *
 have hpr:=FP hq.proc
 have hfew:=hq.few
 generalize bT plan c.Product=p at *
 have hps2:ps.length≤140737488355328:=by omega
 refine (cB (l:=p.Inputs) (by omega) (fun i (s:List Za×List ByteArray×List Zl)=>(s.1,s.2.1,i,s.2.2)) (fun s x=>(((fS plan a ps (bc set) x).filterMap (·.2)).foldl (iy bL) s.1,lz plan a s.2.1 x,s.2.2++(fS plan a ps (bc set) x).map (·.1))) (fun s=>s) (fun k s=>s.1.length≤8*k∧s.2.1.length≤8+8*k∧s.2.2.length≤8*k) ([],p.Processes,[]) ⟨by simp,by simpa using hpr,by simp⟩ (fun k hk s hs=>?_) (fun s _=>by simp only [cP,bu])).1.trans ?_
 ·obtain ⟨l13,l14,l17⟩:=s
  obtain ⟨h1,h2,h3⟩:=hs
  dsimp only at h1 h2 h3 ⊢
  obtain ⟨hin,hv0,hv1⟩:=hq.inp _ (List.getElem_mem hk)
  obtain ⟨hq1,hq2,hq3⟩:=kp hv hin
  have hql:=hq2.few
  have hsl:=qc hv a ps (bc set) p.Inputs[k] hin
  have hins:∀ (cs:List Za) (u:List Za),(cs.foldl (iy bL) u).length≤u.length+cs.length:=by
   intro cs
   induction cs with
   | nil=>intro u;simp
   | cons c cs ih=>intro u;rw [List.foldl_cons,List.length_cons];have h1:=ih (iy bL u c);have h2:=mQ (lt:=bL) u c;omega
  refine ⟨?_,?_,by have:=xt hv a l14 p.Inputs[k] hin;omega,by simp;omega⟩
  rotate_left
  ·have g1:=hins ((fS plan a ps (bc set) p.Inputs[k]).filterMap (·.2)) l13
   have g2:=List.length_filterMap_le (fun x:Zl×Option Za=>x.2) (fS plan a ps (bc set) p.Inputs[k])
   omega
  simp only [iq hk,bQ,aU hk,be,bP hk (show p.Inputs.length≤4611686018427387904 by omega),xu hv]
  generalize hx:p.Inputs[k]=x at *
  have hset:set.length≤140737488355328:=hs
  have htk:=FO ps set hps2 hset
  rw [qu _ _ hva.ok.par.1,(htk (bT plan x.Product) x.Value).1]
  unfold fS lz tE
  have e2:∀ {β:Type} (K:Bool→Option β),(∀ b c,((a.Kind == 3)&&b)=((a.Kind == 3)&&c)→K b=K c)→Option.bind (gd (a.Kind == 3) (some (lH a.Parties (bT plan x.Product).Country))) K=K (lH a.Parties (bT plan x.Product).Country):=by
   intro β K hK
   cases hk3:(a.Kind == 3)
   ·show K default=_;exact hK _ _ (by rw [hk3];rfl)
   rfl
  rw [e2 _ (fun b c hbc=>by simp only [hbc])]
  generalize hF:((a.Kind == 3)&&lH a.Parties (bT plan x.Product).Country)=F
  have e3:(cond F (Option.bind (jH l14 (bT plan x.Product).Processes) (fun x38=>some x38)) (some l14))=some (cond F (ny l14 (bT plan x.Product).Processes) l14):=by
   cases F
   ·rfl
   rw [bQ,Dr _ _ (by have:=FP hq2.proc;omega)];rfl
  have e4:∀ (o:Option Za) (u:List Za),u.length≤1000000→(cond o.isSome (Option.bind (fK u (gU By o).1) (fun x53=>some x53)) (some u))=some (match o with | some c=>iy bL u c | none=>u):=by
   intro o u hu
   cases o with
   | none=>rfl
   | some c=>show Option.bind (fK u c) _=_;rw [xk _ _ (by omega)];rfl
  have e5:∀ o:Option Za,(gU By o).2=o.isSome:=fun o=>by cases o <;> rfl
  simp only [e3,be,e5]
  simp only [e4 _ l13 (show l13.length≤1000000 by omega),be,len0]
  have t1:=(htk (bT plan x.Product) x.Value).2
  generalize htt:fX ps (bc set) (bT plan x.Product) x.Value=tt at *
  obtain ⟨ti,to⟩:=tt
  dsimp only at t1 ⊢
  cases hc:(to.isSome || !F||(bT plan x.Product).Inputs.isEmpty)
  ·have hto:to=none:=by cases to with | none=>rfl | some c=>simp at hc
   subst hto
   simp only [bu]
   refine (congrArg (fun o=>Option.bind o _) (cB (l:=(bT plan x.Product).Inputs) (by omega) (fun i (s:List Za×List Zl)=>(s.1,i,s.2)) (fun s y=>((match (fX ps (bc set) (bT plan y.Product) (dP x.Value y.Value (bT plan x.Product).Price)).2 with | some c=>iy bL s.1 c | none=>s.1),s.2++[(fX ps (bc set) (bT plan y.Product) (dP x.Value y.Value (bT plan x.Product).Price)).1])) (fun s=>s) (fun j s=>s.1.length≤8*k+j∧s.2.length≤8*k+j) (l13,l17) ⟨h1,h3⟩ (fun j hj s hs=>⟨?_,?_⟩) (fun s _=>by simp only [cP,bu])).1).trans ?_
   ·obtain ⟨hy1,hy2,hy3⟩:=hq2.inp _ (List.getElem_mem hj)
    simp only [iq hj,bQ,aU hj,be,bP hj (show (bT plan x.Product).Inputs.length≤4611686018427387904 by omega)]
    rw [Ai ⟨hv0,hv1⟩ ⟨hy2,hy3⟩ hq2.price,(htk (bT plan ((bT plan x.Product).Inputs[j]).Product) (dP x.Value ((bT plan x.Product).Inputs[j]).Value (bT plan x.Product).Price)).1,be,e5,e4 _ s.1 (by omega),be,← (htk (bT plan ((bT plan x.Product).Inputs[j]).Product) (dP x.Value ((bT plan x.Product).Inputs[j]).Value (bT plan x.Product).Price)).2,cX (by simp;omega) (by simp;omega)];rfl
   ·refine ⟨?_,by simp;omega⟩
    dsimp only
    split
    ·rename_i c' _;have:=mQ (lt:=bL) s.1 c';omega
    omega
   have hfl:∀ (ys:List Zg) (s:List Za×List Zl),ys.foldl (fun s y=>((match (fX ps (bc set) (bT plan y.Product) (dP x.Value y.Value (bT plan x.Product).Price)).2 with | some c=>iy bL s.1 c | none=>s.1),s.2++[(fX ps (bc set) (bT plan y.Product) (dP x.Value y.Value (bT plan x.Product).Price)).1])) s=(((ys.map fun y=>fX ps (bc set) (bT plan y.Product) (dP x.Value y.Value (bT plan x.Product).Price)).filterMap (·.2)).foldl (iy bL) s.1,s.2++(ys.map fun y=>fX ps (bc set) (bT plan y.Product) (dP x.Value y.Value (bT plan x.Product).Price)).map (·.1)):=by
    intro ys
    induction ys with
    | nil=>intro s;simp
    | cons y ys ih =>
     intro s
     rw [List.foldl_cons,ih,List.map_cons]
     cases h:(fX ps (bc set) (bT plan y.Product) (dP x.Value y.Value (bT plan x.Product).Price)).2 with
     | none=>simp [h]
     | some c=>simp [h]
   simp only [be,hfl]
  simp only [bQ]
  rw [cX (by simp;omega) (by simp;omega),← t1]
  cases to <;> rfl
 have hfold:∀ (xs:List Zg) (s:List Za×List ByteArray×List Zl),xs.foldl (fun s x=>(((fS plan a ps (bc set) x).filterMap (·.2)).foldl (iy bL) s.1,lz plan a s.2.1 x,s.2.2++(fS plan a ps (bc set) x).map (·.1))) s=(((xs.flatMap (fS plan a ps (bc set))).filterMap (·.2)).foldl (iy bL) s.1,xs.foldl (lz plan a) s.2.1,s.2.2++(xs.flatMap (fS plan a ps (bc set))).map (·.1)):=by
  intro xs
  induction xs with
  | nil=>intro s;simp
  | cons x xs ih=>intro s;rw [List.foldl_cons,ih,List.flatMap_cons];simp
 rw [hfold]
 dsimp only
 rw [uh _ _ (by omega),be,tC ordC,List.nil_append];rfl
theorem C6_ctry {s:ByteArray} (h:s∈C6):ml s=true:=List.all_eq_true.1 C6_ok.1 s h
theorem W5_words {l:List ByteArray} (h:l.Sublist W5):hU l=true:=by
 unfold hU
 have h1:=h.length_le
 have h5:W5.length=5:=rfl
 simp only [Bool.and_eq_true,decide_eq_true_eq]
 exact ⟨by omega,List.all_eq_true.2 fun s hs=>List.all_eq_true.1 W5_ok.1 s (h.subset hs),(ly _).2 (List.Pairwise.sublist h ((ly _).1 W5_ok.2.1))⟩
theorem MPs.found {l:List Zc} (h:MPs l) {k:Nat} (hk:k<l.length):(cj l (3*((k:Int)+1))).isSome=true:=by
 unfold cj
 rw [List.find?_isSome]
 exact ⟨l[k],List.getElem_mem hk,by have:=(h.all k _ (List.getElem?_eq_getElem hk)).id;simpa using this⟩
theorem MPs.vps {l:List Zc} (h:MPs l):VPs l:=by
 refine ⟨by have:=h.len;omega,h.sorted.asc,fun p hp=>?_⟩
 obtain ⟨i,hi,rfl⟩:=List.getElem_of_mem hp
 have hm:=h.all i _ (List.getElem?_eq_getElem hi)
 refine ⟨by have:=hm.price;omega,by have:=hm.lvl.1;omega,C6_ctry hm.ctr,W5_words hm.proc,by have:=hm.few;omega,hm.asc,fun x hx=>?_,hm.obt⟩
 obtain ⟨⟨k,hk,e⟩,h1,h2⟩:=hm.inp x hx
 exact ⟨by rw [e];exact h.found hk,h1,by omega⟩
theorem FR (ps:List Int) (S:CSet) (q:Zc) (v:Int):(fX ps S q v).1.Code=q.Code∧(fX ps S q v).1.Value=v∧(fX ps S q v).1.Originating=(fX ps S q v).2.isSome:=by
 unfold fX;split <;> exact ⟨rfl,rfl,rfl⟩
theorem BA {plan:List Zc} (hv:VPs plan) (a:Zb) (ps:List Int) (S:CSet) {p:Zc} (hp:VProd plan p) (P:Zl×Option Za→Prop) (h:∀ q∈plan,∀ v,0≤v→v≤1000000000000→P (fX ps S q v)):∀ t∈fe plan a ps S p,P t:=by
 intro t ht
 unfold fe at ht
 obtain ⟨x,hx,ht⟩:=List.mem_flatMap.1 ht
 obtain ⟨h1,h2,h3⟩:=hp.inp x hx
 obtain ⟨hq1,hq2,_⟩:=kp hv h1
 unfold fS at ht
 cases hc:((fX ps S (bT plan x.Product) x.Value).2.isSome || !tE a (bT plan x.Product)||(bT plan x.Product).Inputs.isEmpty)
 ·rw [hc,bu] at ht
  obtain ⟨y,hy,rfl⟩:=List.mem_map.1 ht
  obtain ⟨g1,g2,g3⟩:=hq2.inp y hy
  have hr:=vJ h2 g2 hq2.price.1
  exact h _ (kp hv g1).1 _ hr.1 hr.2
 rw [hc,bQ] at ht
 rw [List.mem_singleton.1 ht]
 exact h _ hq1 _ h2 h3
theorem Aj {a b:List ByteArray} (ha:∀ s∈a,gW s=true) (hb:∀ s∈b,gW s=true):(∀ s∈ny a b,gW s=true)∧Strict iM (ny a b):=by
 refine ⟨fun s hs=>?_,xj Br _⟩
 have:=(FF (lt:=iM) (a++b) s).1 hs
 rcases List.mem_append.1 this with h | h
 ·exact ha s h
 exact hb s h
theorem vL {plan:List Zc} (hv:VPs plan) (a:Zb):∀ (xs:List Zg) (acc:List ByteArray),(∀ x∈xs,(cj plan x.Product).isSome=true)→(∀ s∈acc,gW s=true)→Strict iM acc→(∀ s∈xs.foldl (lz plan a) acc,gW s=true)∧Strict iM (xs.foldl (lz plan a) acc)
 | [],acc,_,h1,h2=>⟨h1,h2⟩
 | x::xs,acc,h,h1,h2=>by
  have hx:=kp hv (h x (by simp))
  rw [List.foldl_cons]
  have:(∀ s∈lz plan a acc x,gW s=true)∧Strict iM (lz plan a acc x):=by
   unfold lz
   cases tE a (bT plan x.Product)
   ·exact ⟨h1,h2⟩
   exact Aj h1 (ko hx.2.1.proc).2.1
  exact vL hv a xs _ (fun y hy=>h y (by simp [hy])) this.1 this.2
theorem vM {s:ByteArray} (h:gW s=true):s.size≤12:=by
 unfold gW at h;simp only [Bool.and_eq_true,decide_eq_true_eq] at h;omega
theorem BB {l:List ByteArray} (h1:∀ s∈l,gW s=true) (h2:Strict iM l):hU (l.take 8)=true∧StrsOk (l.take 8):=by
 refine ⟨?_,by rw [List.length_take];omega,fun s hs=>by have:=vM (h1 s (List.mem_of_mem_take hs));omega⟩
 unfold hU
 simp only [Bool.and_eq_true,decide_eq_true_eq]
 exact ⟨by rw [List.length_take];omega,List.all_eq_true.2 fun s hs=>h1 s (List.mem_of_mem_take hs),(ly _).2 (List.Pairwise.sublist (List.take_sublist _ _) h2)⟩
structure VCase (x:Zn):Prop where
 lvl:6≤cM x.Code
 price:1≤x.Price∧x.Price≤1000000000000
 proc:hU x.Processes=true∧StrsOk x.Processes
 few:x.Inputs.length≤100
 inp:∀ y∈x.Inputs,6≤cM y.Code∧0≤y.Value∧y.Value≤1000000000000
theorem vN {plan:List Zc} {l:List Zb} (hv:VPs plan) (imp:ByteArray) (c:Za) (S:CSet) (h:(cj plan c.Product).isSome=true):VCase (qb plan l imp c S):=by
 obtain ⟨hq1,hq,_⟩:=kp hv h
 obtain ⟨w1,w2,w3⟩:=ko hq.proc
 have hw:=vL hv (oY l c.Agreement) (bT plan c.Product).Inputs _ (fun x hx=>(hq.inp x hx).1) w2 w3
 refine ⟨hq.lvl,hq.price,BB hw.1 hw.2,?_,?_⟩
 ·unfold qb;dsimp only;rw [List.length_map];have:=oQ hv (oY l c.Agreement) (eJ l c.Agreement (bT plan c.Product).Country imp) S hq;omega
 unfold qb;dsimp only
 intro y hy
 obtain ⟨t,ht,rfl⟩:=List.mem_map.1 hy
 refine BA hv _ _ S hq (fun t=>6≤cM t.1.Code∧0≤t.1.Value∧t.1.Value≤1000000000000) (fun q hqp v h1 h2=>?_) t ht
 obtain ⟨g1,g2,_⟩:=FR (eJ l c.Agreement (bT plan c.Product).Country imp) S q v
 rw [g1,g2];exact ⟨(hv.all q hqp).lvl,h1,h2⟩
theorem vO {x:Zn} (h:VCase x):gu x=some 0:=by
 unfold gu iN
 have hl:=h.few
 show Option.bind (some (decide (6≤cM x.Code))) _=_
 rw [det h.lvl,be]
 simp only [Bool.not_true,bu]
 rw [cw (by have:=h.price;omega),cw (by have:=h.price;omega),Bool.or_self,bu,rp _ h.proc.2,h.proc.1,be]
 simp only [Bool.not_true,bu]
 rw [cw (by omega),bu]
 refine (bM (l:=x.Inputs) (by omega) (fun _ _=>none) (.inl ()) (fun k hk=>?_) (by simp only [cP,bu])).trans ?_
 ·have hy:=h.inp _ (List.getElem_mem hk)
  simp only [iq hk,bQ,aU hk,be,bP hk (show x.Inputs.length≤4611686018427387904 by omega)]
  show Option.bind (Option.bind (some (cM x.Inputs[k].Code)) _) _=_
  rw [be,det hy.1,be,cw (by omega),cw (by omega)];rfl
 have:∀ (m:List Zl) (i:Nat),bW (fun (_:Nat) (_:Zl)=>(none:Option (Unit⊕Int))) m i=none:=by
  intro m
  induction m with
  | nil=>intro i;rfl
  | cons x m ih=>intro i;exact ih _
 rw [this];rfl
theorem FS {plan:List Zc} {l:List Zb} (hv:VPs plan) (imp:ByteArray) (c:Za) (S:CSet) (h:(cj plan c.Product).isSome=true):(xp plan l imp c S).length≤64:=by
 obtain ⟨hq1,hq,_⟩:=kp hv h
 unfold xp
 have h1:=FG (lt:=bL) ((fe plan (oY l c.Agreement) (eJ l c.Agreement (bT plan c.Product).Country imp) S (bT plan c.Product)).filterMap (·.2))
 have h2:=List.length_filterMap_le (fun x:Zl×Option Za=>x.2) (fe plan (oY l c.Agreement) (eJ l c.Agreement (bT plan c.Product).Country imp) S (bT plan c.Product))
 have h3:=oQ hv (oY l c.Agreement) (eJ l c.Agreement (bT plan c.Product).Country imp) S hq
 omega
theorem xx {p:List Zc} {l:List Zb} {i:ByteArray} {c:Za} (h:lI p l i c=true):(cj p c.Product).isSome=true:=by
 obtain ⟨q,a,r,e,_⟩:=qv h;rw [e];rfl
def xw (n:Int):Zo:=⟨n / 18446744073709551616,n % 18446744073709551616⟩
def U128 (n:Int):Prop:=0≤n∧n<340282366920938463463374607431768211456
theorem xw_of {w:Zo} (h:XW w):w=xw (xv w)∧U128 (xv w):=by
 obtain ⟨a,b⟩:=w
 unfold XW U64 at h;unfold xw xv U128;dsimp only at *
 refine ⟨?_,by omega⟩
 congr 1 <;> omega
theorem xmul {a b:Int} (ha:U64 a) (hb:U64 b):jG a b=some (xw (a*b))∧U128 (a*b):=by
 obtain ⟨w,e1,e2,e3⟩:=xn ha hb
 have:=xw_of e2
 rw [e3] at this
 rw [e1];exact ⟨congrArg some this.1,this.2⟩
theorem xcmp {a b:Int} (ha:U128 a) (hb:U128 b):gt (xw a) (xw b)=some (if a<b then -1 else if a=b then 0 else 1):=by
 unfold U128 at *
 unfold gt xw Zo.eqb
 dsimp only
 by_cases h:a<b
 ·have:((decide (a / 18446744073709551616<b / 18446744073709551616))||((a / 18446744073709551616 == b / 18446744073709551616)&&(decide (a % 18446744073709551616<b % 18446744073709551616))))=true:=by
   simp only [Bool.or_eq_true,Bool.and_eq_true,decide_eq_true_eq,beq_iff_eq];omega
  rw [this,if_pos h];rfl
 ·have:((decide (a / 18446744073709551616<b / 18446744073709551616))||((a / 18446744073709551616 == b / 18446744073709551616)&&(decide (a % 18446744073709551616<b % 18446744073709551616))))=false:=by
   simp only [Bool.or_eq_false_iff,Bool.and_eq_false_iff,decide_eq_false_iff_not,beq_eq_false_iff_ne];omega
  rw [this,if_neg h]
  simp only [bu]
  by_cases h2:a=b
  ·subst h2;simp
  rw [if_neg h2]
  have:((a / 18446744073709551616 == b / 18446744073709551616)&&(a % 18446744073709551616 == b % 18446744073709551616))=false:=by
   simp only [Bool.and_eq_false_iff,beq_eq_false_iff_ne];omega
  simp [this]
theorem tF {v s p:Int} (hv:0≤v∧v≤100000000000000) (hs:0≤s∧s≤1000000) (hp:0≤p∧p≤1000000000000):jL v s p=some (decide (v*1000000≤s*p)):=by
 unfold jL
 rw [fB (a:=v) ⟨by omega,by omega⟩,fB (a:=s) ⟨by omega,by omega⟩,fB (a:=p) ⟨by omega,by omega⟩]
 obtain ⟨e1,u1⟩:=xmul (a:=v) (b:=1000000) ⟨by omega,by omega⟩ ⟨by omega,by omega⟩
 obtain ⟨e2,u2⟩:=xmul (a:=s) (b:=p) ⟨by omega,by omega⟩ ⟨by omega,by omega⟩
 rw [e1,be,e2,be,xcmp u1 u2,be]
 congr 1
 by_cases h:v*1000000<s*p
 ·rw [if_pos h,det (by omega),det (by omega)]
 rw [if_neg h]
 by_cases h2:v*1000000=s*p
 ·rw [if_pos h2,det (by omega),det (by omega)]
 rw [if_neg h2,cw (by omega),cw (by omega)]
def qd (r:Zd) (code inp:ByteArray):Bool:=im inp (code.extract 0 r.Digits.toNat)||r.Except.any fun x=>im inp x
theorem FT (l:List ByteArray) (s:ByteArray) (hl:l.length≤140737488355328):cg l (fun y=>f9 y s)=some (l.any fun x=>im s x):=by
 unfold cg
 have e:cG l (fun y=>f9 y s)=some (match bW (fun k x=>cond (im s x) (some (Sum.inr (k:Int):Unit⊕Int)) none) l 0 with | some (.inr k)=>k | _ => -1):=by
  unfold cG
  refine (bM (l:=l) (by omega) (fun k x=>cond (im s x) (some (.inr (k:Int))) none) (.inl ()) (fun k hk=>?_) (by simp only [cP,bu])).trans ?_
  ·simp only [iq hk,bQ,aU hk,be,bP hk (show l.length≤4611686018427387904 by omega)]
   unfold f9
   rw [sP,be,be];cases im s l[k] <;> rfl
  cases bW (fun k x=>cond (im s x) (some (Sum.inr (k:Int):Unit⊕Int)) none) l 0 with
  | none=>rfl
  | some t=>cases t <;> rfl
 rw [e,be]
 rcases pZ (fun x=>im s x) (fun k=>(Sum.inr (k:Int):Unit⊕Int)) l 0 with ⟨h1,h2⟩ | ⟨j,hj,h1,h2⟩
 ·rw [h1]
  have:(l.any fun x=>im s x)=false:=by rw [List.any_eq_false];exact fun x hx=>by have:=List.find?_eq_none.1 h2 x hx;simpa using this
  rw [this];rfl
 rw [h1]
 have:(l.any fun x=>im s x)=true:=by
  rw [List.any_eq_true];exact ⟨_,List.getElem_mem hj,List.find?_some h2⟩
 rw [this]
 show some (decide (0≤((0+j:Nat):Int)))=_
 rw [det (by omega)]
theorem ru {s:ByteArray} (h:6≤cM s):6≤s.size:=by
 unfold cM at h
 split at h
 ·omega
 omega
theorem wE {r:Zd} {code:ByteArray} (hd:r.Digits=2∨r.Digits=4∨r.Digits=6) (he:r.Except.length≤6) (hc:6≤cM code) (inp:ByteArray):iv r code inp=some (qd r code inp):=by
 unfold iv qd
 have hs:=ru hc
 have e:jY code 0 r.Digits=some (code.extract 0 r.Digits.toNat):=by
  unfold jY;rw [if_pos (by omega)];rfl
 rw [e,be,sP,be]
 cases im inp (code.extract 0 r.Digits.toNat)
 ·simp only [bu,Bool.false_or];rw [FT _ _ (by omega),be]
 rfl
def wS (f:Zl→Int):List Zl→Int
 | []=>0
 | i::l=>cond i.Originating 0 (f i)+wS f l
def fV (i:Zl):Int:=i.Value
def fW (r:Zd) (code:ByteArray) (i:Zl):Int:=cond (qd r code i.Code) i.Value 0
def fN (_:Zl):Int:=1
def kw (r:Zd) (x:Zn):Bool :=
 cond (r.Kind == 1) (x.Obtained&&(wS fN x.Inputs == 0)) (cond (r.Kind == 2) (decide (wS (fW r x.Code) x.Inputs*1000000≤r.Tolerance*x.Price)) (cond (r.Kind == 3) (decide (wS fV x.Inputs*1000000≤r.Limit*x.Price)) (cond (r.Kind == 4) (lH x.Processes r.Name) false)))
theorem qe {f:Zl→Int} {b:Int} (hb:0≤b):∀ {l:List Zl},(∀ i∈l,0≤f i∧f i≤b)→0≤wS f l∧wS f l≤l.length*b
 | [],_=>by simp [wS]
 | i::l,h=>by
  have h1:=qe hb (l:=l) fun j hj=>h j (by simp [hj])
  have h2:=h i (by simp)
  rw [wS,List.length_cons]
  have e:((l.length+1:Nat):Int)*b=l.length*b+b:=by rw [Int.natCast_add,Int.add_mul];simp
  rw [e]
  cases i.Originating
  ·simp only [bu];omega
  simp only [bQ];omega
theorem prog_holds {r:Zd} {x:Zn} (hx:VCase x) (hr:ee r=true):rule_holds r x=some (kw r x):=by
 unfold rule_holds
 have hfew:=hx.few
 have hrl:=mt hr
 have hvi:r.Kind=2→∀ i,iv r x.Code i=some (qd r x.Code i):=by
  intro hk i
  have hl:=hr
  rw [gS,hk] at hl
  simp only [jO,hk,Bool.and_eq_true] at hl
  have h3:=hl.2
  simp at h3
  exact wE (by omega) hrl.2.2 hx.lvl i
 refine (cB (l:=x.Inputs) (by omega) (fun i (s:Int×Int×Int)=>(s.1,s.2.1,s.2.2,i)) (fun s i=>(s.1+cond i.Originating 0 (fV i),s.2.1+cond i.Originating 0 (cond (r.Kind == 2) (fW r x.Code i) 0),s.2.2+cond i.Originating 0 (fN i))) (fun s=>s) (fun k s=>(0≤s.1∧s.1≤k*1000000000000)∧(0≤s.2.1∧s.2.1≤k*1000000000000)∧(0≤s.2.2∧s.2.2≤k)) (0,0,0) ⟨by simp,by simp,by simp⟩ (fun k hk s hs=>?_) (fun s _=>by simp only [cP,bu])).1.trans ?_
 ·obtain ⟨a,b,c⟩:=s
  obtain ⟨s1,s2,s3⟩:=hs
  dsimp only at s1 s2 s3 ⊢
  have hi:=hx.inp _ (List.getElem_mem hk)
  have hk100:k<100:=by omega
  simp only [iq hk,bQ,aU hk,be,bP hk (show x.Inputs.length≤4611686018427387904 by omega)]
  generalize x.Inputs[k]=i at hi
  unfold fV fN fW
  cases i.Originating
  ·simp only [bu]
   cases hk2:(r.Kind == 2)
   ·simp only [iC,be,Bool.false_and,bu]
    rw [cK (r:=a+i.Value) (by omega) (by omega),cK (r:=c+1) (by omega) (by omega)]
    refine ⟨by simp,⟨by omega,by omega⟩,⟨by omega,by omega⟩,by omega,by omega⟩
   rw [cI,hvi (eq_of_beq hk2),be]
   cases qd r x.Code i.Code
   ·simp only [Bool.and_false,bu,be,bQ]
    rw [cK (r:=a+i.Value) (by omega) (by omega),cK (r:=c+1) (by omega) (by omega)]
    refine ⟨by simp,⟨by omega,by omega⟩,⟨by omega,by omega⟩,by omega,by omega⟩
   simp only [Bool.and_self,bQ,be]
   rw [cK (r:=a+i.Value) (by omega) (by omega),cK (r:=c+1) (by omega) (by omega),cK (r:=b+i.Value) (by omega) (by omega)]
   refine ⟨rfl,⟨by omega,by omega⟩,⟨by omega,by omega⟩,by omega,by omega⟩
  simp only [bQ,be,Int.add_zero]
  refine ⟨trivial,⟨by omega,by omega⟩,⟨by omega,by omega⟩,by omega,by omega⟩
 have key:∀ (l:List Zl) (a b c:Int),l.foldl (fun (s:Int×Int×Int) i=>(s.1+cond i.Originating 0 (fV i),s.2.1+cond i.Originating 0 (cond (r.Kind == 2) (fW r x.Code i) 0),s.2.2+cond i.Originating 0 (fN i))) (a,b,c)=(a+wS fV l,b+wS (fun i=>cond (r.Kind == 2) (fW r x.Code i) 0) l,c+wS fN l):=by
  intro l
  induction l with
  | nil=>intro a b c;simp [wS]
  | cons i l ih=>intro a b c;rw [List.foldl_cons,ih];simp only [wS,Int.add_assoc]
 rw [key]
 dsimp only
 have hv:0≤wS fV x.Inputs∧wS fV x.Inputs≤100000000000000:=by
  have:=qe (f:=fV) (b:=1000000000000) (by omega) (l:=x.Inputs) fun i hi=>(hx.inp i hi).2
  omega
 have hw:0≤wS (fW r x.Code) x.Inputs∧wS (fW r x.Code) x.Inputs≤100000000000000:=by
  have:=qe (f:=fW r x.Code) (b:=1000000000000) (by omega) (l:=x.Inputs) fun i hi=>by
   have:=(hx.inp i hi).2
   unfold fW;cases qd r x.Code i.Code
   ·simp only [bu];omega
   exact this
  omega
 have hp:=hx.price
 unfold kw
 have hl:=hr
 rw [gS] at hl
 unfold jO Fd at hl
 simp only [Int.zero_add]
 cases h1:(r.Kind == 1)
 ·cases h2:(r.Kind == 2)
  ·cases h3:(r.Kind == 3)
   ·simp only [bu]
    cases h4:(r.Kind == 4)
    ·rfl
    simp only [bQ];rw [r8 _ _ hx.proc.2.1];rfl
   have hk:=eq_of_beq h3
   rw [hk] at hl
   simp at hl
   simp only [bu,bQ]
   rw [tF hv hl.2 (by omega)];rfl
  have hk:=eq_of_beq h2
  rw [hk] at hl
  simp at hl
  simp only [bu,bQ]
  rw [tF hw (by omega) (by omega)];rfl
 simp only [bQ]
mutual
def tt:Zd→Zi
 | ⟨k,d,e,t,m,n,l⟩=>cond (k == 5) (.every_ (tts l)) (cond (k == 6) (.some_ (tts l)) (.single_ ⟨⟨k,d,e,t,m,n,l⟩⟩))
def tts:List Zd→List Zi
 | []=>[]
 | a::l=>tt a::tts l
end
theorem CB:∀ l:List Zd,tts l=l.map tt
 | []=>by rw [tts];rfl
 | a::l=>by rw [tts,CB l];rfl
theorem tt_eq (r:Zd):tt r=cond (r.Kind == 5) (.every_ (r.Args.map tt)) (cond (r.Kind == 6) (.some_ (r.Args.map tt)) (.single_ ⟨r⟩)):=by
 cases r;rw [tt,CB]
theorem se:∀ {l:List Zd} {a:Zd},a∈l→qE a≤nx l
 | b::l,a,h=>by
  rw [nx]
  rcases List.mem_cons.1 h with rfl | h
  ·omega
  have:=se h;omega
theorem FU (n:Nat):∀ r:Zd,ee r=true→sO r≤n→jj n r=some (tt r):=by
 induction n with
 | zero=>intro r _ hd;rw [kj] at hd;omega
 | succ n ih =>
  intro r hr hd
  obtain ⟨hl,ha,_⟩:=mt hr
  show ji (jj n) r=_
  unfold ji
  refine (cB (l:=r.Args) (by omega) (fun i (s:List Zi)=>(s,i)) (fun s x=>s++[tt x]) (fun s=>s) (fun k s=>s.length=k) [] rfl (fun k hk s hs=>?_) (fun s _=>by simp only [cP,bu])).1.trans ?_
  ·simp only [iq hk,bQ,aU hk,be,bP hk (show r.Args.length≤4611686018427387904 by omega)]
   rw [ih _ (ha _ (List.getElem_mem hk)) (by have:=kl (List.getElem_mem hk);omega),be,cX (by simp;omega) (by simp;omega)]
   exact ⟨rfl,by simp [hs]⟩
  have key:∀ (l:List Zd) (a:List Zi),l.foldl (fun s x=>s++[tt x]) a=a++l.map tt:=by
   intro l
   induction l with
   | nil=>intro a;simp
   | cons x l ih=>intro a;rw [List.foldl_cons,ih];simp
  rw [key,List.nil_append,tt_eq]
  cases (r.Kind == 5) <;> cases (r.Kind == 6) <;> rfl
section
variable (x:Zn)
mutual
def kq:Zd→Option (List Int)
 | ⟨k,d,e,t,m,n,l⟩=>cond (k == 5) (jo l) (cond (k == 6) (kS 0 l) (cond (kw ⟨k,d,e,t,m,n,l⟩ x) (some []) none))
def jo:List Zd→Option (List Int)
 | []=>some []
 | a::l=>(kq a).bind fun p=>(jo l).bind fun q=>some (p++q)
def kS (i:Nat):List Zd→Option (List Int)
 | []=>none
 | a::l=>match kq a with
  | some p=>some ((i:Int)::p)
  | none=>kS (i+1) l
end
end
theorem BC (x:Zn) (r:Zd):kq x r=cond (r.Kind == 5) (jo x r.Args) (cond (r.Kind == 6) (kS x 0 r.Args) (cond (kw r x) (some []) none)):=by
 cases r;rw [kq]
mutual
theorem sf (x:Zn):∀ (r:Zd) (p:List Int),kq x r=some p→p.length≤qE r
 | ⟨k,d,e,t,m,n,l⟩,p,h=>by
  rw [kq] at h
  rw [qE]
  cases h5:(k == 5)
  ·rw [h5] at h
   simp only [bu] at h
   cases h6:(k == 6)
   ·rw [h6] at h
    simp only [bu] at h
    cases hh:kw ⟨k,d,e,t,m,n,l⟩ x
    ·rw [hh] at h;cases h
    rw [hh] at h;injection h with h;subst h;simp
   rw [h6] at h
   exact Ak x l 0 p h
  rw [h5] at h
  have:=Al x l p h;omega
theorem Al (x:Zn):∀ (l:List Zd) (p:List Int),jo x l=some p→p.length≤nx l
 | [],p,h=>by rw [jo] at h;injection h with h;subst h;simp
 | a::l,p,h=>by
  rw [jo] at h
  rw [nx]
  cases ha:kq x a with
  | none=>rw [ha] at h;cases h
  | some q =>
   rw [ha,be] at h
   cases hl:jo x l with
   | none=>rw [hl] at h;cases h
   | some s =>
    rw [hl,be] at h
    injection h with h
    subst h
    have h1:=sf x a q ha
    have h2:=Al x l s hl
    rw [List.length_append];omega
theorem Ak (x:Zn):∀ (l:List Zd) (i:Nat) (p:List Int),kS x i l=some p→p.length≤1+nx l
 | [],i,p,h=>by rw [kS] at h;cases h
 | a::l,i,p,h=>by
  rw [kS] at h
  rw [nx]
  cases ha:kq x a with
  | none =>
   rw [ha] at h
   have:=Ak x l (i+1) p h;omega
  | some q =>
   rw [ha] at h
   injection h with h
   subst h
   have h1:=sf x a q ha
   rw [List.length_cons];omega
end
theorem concatI (a b:List Int) (h:a.length+b.length≤1000000):dz [a,b]=some (a++b):=by
 unfold dz gC
 refine (j0 (l:=[a,b]) (by simp) (fun i (s:Nat)=>((s:Int),i)) (fun _ x s=>(.inl (s+x.length):Nat⊕Empty)) (fun (s:Nat)=>(s:Int)) noE (fun k s=>s≤1000000∧s=([a,b].take k).flatten.length) 0 ⟨by omega,rfl⟩ (fun k hk s hs=>⟨?_,fun s' h'=>?_⟩) (fun s _=>by simp only [cP,bu])).trans ?_
 ·have hb:s+([a,b][k]).length≤1000000:=by
   obtain ⟨_,e⟩:=hs
   match k,hk with
   | 0,_=>simp at e;subst e;simp;omega
   | 1,_=>simp at e;subst e;simp;omega
  simp only [iq hk,bQ,aU hk,be,bP hk (show [a,b].length≤4611686018427387904 by simp),zN]
  rw [cK (by omega) (by omega),cw (by omega)]
  simp only [bu,Int.natCast_add]
 ·injection h' with h'
  obtain ⟨h1,h2⟩:=hs
  subst h'
  match k,hk with
  | 0,_=>simp at h2 ⊢;subst h2;simp;omega
  | 1,_=>simp at h2 ⊢;subst h2;omega
 show Option.bind (Option.bind (Dc 8 ((0+a.length+b.length:Nat):Int)) _) _=_
 rw [Bd (by omega) (by omega),be,be]
 refine (cB (l:=[a,b]) (by simp) (fun i (s:List Int)=>(s,i)) (fun s x=>s++x) (fun s=>s) (fun k s=>s=([a,b].take k).flatten) [] rfl (fun k hk s hs=>⟨?_,?_⟩) (fun s _=>by simp only [cP,bu])).1.trans ?_
 ·have hb:s.length+([a,b][k]).length≤1000000:=by
   match k,hk with
   | 0,_=>simp at hs;subst hs;simp;omega
   | 1,_=>simp at hs;subst hs;simp;omega
  simp only [iq hk,bQ,aU hk,be,bP hk (show [a,b].length≤4611686018427387904 by simp)]
  rw [cX (by omega) (by omega)];rfl
 ·match k,hk with
  | 0,_=>simp at hs;subst hs;simp
  | 1,_=>simp at hs;subst hs;simp
 simp
theorem Dy (x:Zn) (hx:VCase x) (n:Nat):∀ r:Zd,ee r=true→qE r≤1000→sO r≤n→Irule_test_witness_F n (tt r) x=some (gU [] (kq x r)):=by
 induction n with
 | zero=>intro r _ _ hd;rw [kj] at hd;omega
 | succ n ih =>
  intro r hr hc hd
  obtain ⟨hl,ha,_⟩:=mt hr
  have hargs:∀ k (hk:k<r.Args.length),Irule_test_witness_F n (tt r.Args[k]) x=some (gU [] (kq x r.Args[k])):=fun k hk=>ih _ (ha _ (List.getElem_mem hk)) (by have:=pV r;have:=se (List.getElem_mem hk);omega) (by have:=kl (List.getElem_mem hk);omega)
  have hcl:∀ k (hk:k<r.Args.length) p,kq x r.Args[k]=some p→p.length≤1000:=fun k hk p h=>by have h1:=sf x _ p h;have:=pV r;have:=se (List.getElem_mem hk);omega
  show Irule_test_witness_B (Irule_test_witness_F n) (tt r) x=_
  rw [tt_eq,BC]
  have hml:(r.Args.map tt).length=r.Args.length:=List.length_map _
  have hmi:∀ k (hk:k<(r.Args.map tt).length),(r.Args.map tt)[k]=tt (r.Args[k]'(by omega)):=fun k hk=>by rw [List.getElem_map]
  cases h5:(r.Kind == 5)
  ·cases h6:(r.Kind == 6)
   ·show fp ⟨r⟩ x=_
    unfold fp
    rw [prog_holds hx hr,be]
    simp only [bu]
    cases kw r x <;> rfl
   show fm (Irule_test_witness_F n) (r.Args.map tt) x=_
   unfold fm
   refine (bM (l:=r.Args.map tt) (by omega) (fun k t=>match Irule_test_witness_F n t x with | some (p,true)=>some (.inr ((k:Int)::p,true)) | _=>none) (.inl ()) (fun k hk=>?_) (by simp only [cP,bu])).trans ?_
   ·simp only [iq hk,bQ,aU hk,be,bP hk (show (r.Args.map tt).length≤4611686018427387904 by omega),hmi k hk]
    rw [hargs k (by omega)]
    have:=hcl k (by omega)
    cases hw:kq x (r.Args[k]'(by omega)) with
    | none=>rfl
    | some p =>
     have:=this p hw
     show Option.bind (dz [[(k:Int)],p]) _=_
     rw [concatI _ _ (by simp;omega)];rfl
   have key:∀ (m:List Zd) (i:Nat),(∀ j (hj:j<m.length),Irule_test_witness_F n (tt m[j]) x=some (gU [] (kq x m[j])))→bW (fun k t=>match Irule_test_witness_F n t x with | some (p,true)=>some (Sum.inr ((k:Int)::p,true):Unit⊕(List Int×Bool)) | _=>none) (m.map tt) i=(kS x i m).map fun p=>Sum.inr (p,true):=by
    intro m
    induction m with
    | nil=>intro i _;rw [kS];rfl
    | cons a m ih =>
     intro i h
     have h0:=h 0 (by simp)
     have h1:=ih (i+1) fun j hj=>h (j+1) (by simpa using hj)
     rw [List.map_cons,bW,kS,h1]
     change Irule_test_witness_F n (tt a) x=some (gU [] (kq x a)) at h0
     rw [h0]
     cases kq x a <;> rfl
   rw [key _ 0 hargs]
   simp only [bu,bQ]
   cases kS x 0 r.Args <;> rfl
  show eY (Irule_test_witness_F n) (r.Args.map tt) x=_
  unfold eY
  simp only [bQ]
  refine (j0 (l:=r.Args.map tt) (by omega) (fun i (s:List Int)=>(s,i)) (fun _ t s=>match Irule_test_witness_F n t x with | some (p,true)=>(.inl (s++p):List Int⊕Unit) | _=>.inr ()) (fun s=>.inl s) (fun _=>.inr ([],false)) (fun k s=>s.length≤k*1000) [] (by simp) (fun k hk s hs=>⟨?_,fun s' h'=>?_⟩) (fun s _=>by simp only [cP,bu])).trans ?_
  ·simp only [iq hk,bQ,aU hk,be,bP hk (show (r.Args.map tt).length≤4611686018427387904 by omega),hmi k hk]
   rw [hargs k (by omega)]
   have:=hcl k (by omega)
   cases hw:kq x (r.Args[k]'(by omega)) with
   | none=>rfl
   | some p =>
    have:=this p hw
    show Option.bind (app 8 s p) _=_
    rw [cX (by omega) (by omega)];rfl
  ·have h0:=hargs k (by omega)
   have:=hcl k (by omega)
   rw [hmi k hk,h0] at h'
   cases hw:kq x (r.Args[k]'(by omega)) with
   | none=>rw [hw] at h';cases h'
   | some p =>
    have:=this p hw
    rw [hw] at h'
    injection h' with h'
    subst h'
    rw [List.length_append];omega
  have key:∀ (m:List Zd) (i:Nat) (s:List Int),(∀ j (hj:j<m.length),Irule_test_witness_F n (tt m[j]) x=some (gU [] (kq x m[j])))→run (fun _ t s=>match Irule_test_witness_F n t x with | some (p,true)=>(.inl (s++p):List Int⊕Unit) | _=>.inr ()) (m.map tt) i s=match jo x m with | some p=>.inl (s++p) | none=>.inr ():=by
   intro m
   induction m with
   | nil=>intro i s _;rw [jo];simp [run]
   | cons a m ih =>
    intro i s h
    have h0:=h 0 (by simp)
    have h1:=fun s=>ih (i+1) s fun j hj=>h (j+1) (by simpa using hj)
    rw [List.map_cons,i7,jo]
    change Irule_test_witness_F n (tt a) x=some (gU [] (kq x a)) at h0
    rw [h0]
    cases kq x a with
    | none=>rfl
    | some p =>
     show run _ (m.map tt) (i+1) (s++p)=_
     rw [h1,be]
     cases jo x m with
     | none=>rfl
     | some q=>show Sum.inl (s++p++q)=Sum.inl (s++(p++q));rw [List.append_assoc]
  rw [key _ 0 [] hargs]
  cases jo x r.Args <;> rfl
theorem yF {r:Zd} {x:Zn} (hx:VCase x) (ok:ROk r) (hr:ee r=true) (hc:qE r≤32):kh r x=some (gU [] (kq x r)):=by
 have hd:=rS r
 have hf:FUEL=1267650600228229401496703205376:=rfl
 unfold kh jt
 rw [qr r ok (by omega),(oF r).2 ⟨hc,hr⟩,be,show ((0:Int) == 0)=true from rfl,cI,vO hx,be,be]
 show Option.bind (jj FUEL r) _=_
 rw [FU FUEL r hr (by omega),be]
 show Option.bind (Irule_test_witness_F FUEL (tt r) x) _=_
 rw [Dy x hx FUEL r hr (by omega) (by omega)];rfl
mutual
theorem Am {x y:Zn} (h:∀ r,ee r=true→kw r x=true→kw r y=true):∀ r:Zd,ee r=true→(kq x r).isSome=true→(kq y r).isSome=true
 | ⟨k,d,e,t,m,n,l⟩,hr,hw=>by
  have hl:=hr
  rw [ee] at hl
  rw [kq] at hw ⊢
  cases h5:(k == 5)
  ·rw [h5] at hw hl
   simp only [bu] at hw ⊢
   cases h6:(k == 6)
   ·rw [h6] at hw
    simp only [bu] at hw ⊢
    cases hh:kw ⟨k,d,e,t,m,n,l⟩ x
    ·rw [hh] at hw;cases hw
    rw [h _ hr hh];rfl
   rw [h6] at hw hl
   simp only [Bool.or_true,bQ,Bool.and_eq_true] at hl
   exact xy h l 0 0 k hl.2.2 hw
  rw [h5] at hw hl
  simp only [Bool.true_or,bQ,Bool.and_eq_true] at hl
  exact xz h l k hl.2.2 hw
theorem xz {x y:Zn} (h:∀ r,ee r=true→kw r x=true→kw r y=true):∀ (l:List Zd) (k:Int),oE k l=true→(jo x l).isSome=true→(jo y l).isSome=true
 | [],k,_,_=>by rw [jo];rfl
 | a::l,k,hr,hw=>by
  rw [oE] at hr
  simp only [Bool.and_eq_true] at hr
  rw [jo] at hw ⊢
  have h1:=Am h a hr.1.2
  have h2:=xz h l k hr.2
  cases ha:kq x a with
  | none=>rw [ha] at hw;cases hw
  | some p =>
   cases hl:jo x l with
   | none=>rw [ha,hl] at hw;cases hw
   | some q =>
    rw [ha] at h1;rw [hl] at h2
    obtain ⟨p',e1⟩:=Option.isSome_iff_exists.1 (h1 rfl)
    obtain ⟨q',e2⟩:=Option.isSome_iff_exists.1 (h2 rfl)
    rw [e1,e2];rfl
theorem xy {x y:Zn} (h:∀ r,ee r=true→kw r x=true→kw r y=true):∀ (l:List Zd) (i j:Nat) (k:Int),oE k l=true→(kS x i l).isSome=true→(kS y j l).isSome=true
 | [],i,j,k,_,hw=>by rw [kS] at hw;cases hw
 | a::l,i,j,k,hr,hw=>by
  rw [oE] at hr
  simp only [Bool.and_eq_true] at hr
  rw [kS] at hw ⊢
  have h1:=Am h a hr.1.2
  cases ha:kq x a with
  | none =>
   rw [ha] at hw
   cases kq y a with
   | none=>exact xy h l (i+1) (j+1) k hr.2 hw
   | some p=>rfl
  | some p =>
   rw [ha] at h1
   obtain ⟨p',e1⟩:=Option.isSome_iff_exists.1 (h1 rfl)
   rw [e1];rfl
end
structure Wt (f:Zl→Int):Prop where
 same:∀ c v a b,f ⟨c,v,a⟩=f ⟨c,v,b⟩
 pos:∀ i:Zl,0≤i.Value→0≤f i
section
variable {γ δ π:Type} [DecidableEq δ] (gc:γ→δ) (cl:π→δ) (pv:(δ→Bool)→γ→Option π)
def lJ:Nat→List γ→List π→List π
 | 0,_,ps=>ps
 | n+1,o,ps=>cond (o.filterMap (pv (bc (ps.map cl)))).isEmpty ps (lJ n (o.filter fun g=>(pv (bc (ps.map cl)) g).isNone) (ps++o.filterMap (pv (bc (ps.map cl)))))
def sg (G:List γ):Nat→List π→List π
 | 0,ps=>ps
 | n+1,ps=>cond (G.filterMap fun g=>cond (bc (ps.map cl) (gc g)) none (pv (bc (ps.map cl)) g)).isEmpty ps (sg G n (ps++G.filterMap fun g=>cond (bc (ps.map cl) (gc g)) none (pv (bc (ps.map cl)) g)))
def Closed (G:List γ) (T:δ→Bool):Prop:=∀ g∈G,(pv T g).isSome=true→T (gc g)=true
structure RInv (G o:List γ) (ps:List π):Prop where
 all:∀ g∈G,g∈o∨bc (ps.map cl) (gc g)=true
 opn:∀ g∈o,g∈G∧bc (ps.map cl) (gc g)=false
 prv:∀ p∈ps,∃ g∈G,gc g=cl p∧(pv (bc (ps.map cl)) g).isSome=true
 lst:∀ T,Closed gc pv G T→∀ p∈ps,T (cl p)=true
variable {gc cl pv} (hcl:∀ S g p,pv S g=some p→cl p=gc g)
theorem jq {l:List π} {c:δ}:bc (l.map cl) c=true↔∃ p∈l,cl p=c:=by rw [nW,List.mem_map]
theorem si {o:List γ} {f:γ→Option π} (h:(o.filterMap f).isEmpty=false):(o.filter fun g=>(f g).isNone).length<o.length:=by
 induction o with
 | nil=>cases h
 | cons g o ih =>
  rw [List.filter_cons]
  cases hf:f g with
  | some p =>
   have:=List.length_filter_le (fun g=>(f g).isNone) o
   simp only [Option.isNone_some,Bool.false_eq_true,if_false,List.length_cons];omega
  | none =>
   rw [List.filterMap_cons_none hf] at h
   have:=ih h
   simp only [Option.isNone_none,if_true,List.length_cons];omega
include hcl in
theorem BD {G:List γ} (inj:∀ g∈G,∀ g'∈G,gc g=gc g'→g=g'):∀ (n:Nat) (ps:List π),lJ cl pv n (G.filter fun g => !bc (ps.map cl) (gc g)) ps=sg gc cl pv G n ps:=by
 intro n
 induction n with
 | zero=>intro ps;rfl
 | succ n ih =>
  intro ps
  rw [lJ,sg]
  have e1:(G.filter fun g => !bc (ps.map cl) (gc g)).filterMap (pv (bc (ps.map cl)))=G.filterMap fun g=>cond (bc (ps.map cl) (gc g)) none (pv (bc (ps.map cl)) g):=by
   generalize pv (bc (ps.map cl))=f
   generalize bc (ps.map cl)=m
   clear ih inj
   induction G with
   | nil=>rfl
   | cons g G ihG =>
    rw [List.filter_cons]
    cases hm:m (gc g)
    ·simp only [Bool.not_false,if_true,List.filterMap_cons,ihG,hm,bu]
    simp only [Bool.not_true,Bool.false_eq_true,if_false,List.filterMap_cons,ihG,hm,bQ]
  rw [e1]
  have e2:((G.filter fun g => !bc (ps.map cl) (gc g)).filter fun g=>(pv (bc (ps.map cl)) g).isNone)=G.filter fun g => !bc ((ps++G.filterMap fun g=>cond (bc (ps.map cl) (gc g)) none (pv (bc (ps.map cl)) g)).map cl) (gc g):=by
   rw [List.filter_filter]
   refine List.filter_congr fun g hg=>?_
   cases hm:bc (ps.map cl) (gc g)
   ·cases hp:pv (bc (ps.map cl)) g with
    | none =>
     cases hq:bc ((ps++G.filterMap fun g=>cond (bc (ps.map cl) (gc g)) none (pv (bc (ps.map cl)) g)).map cl) (gc g)
     ·rfl
     ·obtain ⟨p,k1,k2⟩:=jq.1 hq
      rcases List.mem_append.1 k1 with k1 | k1
      ·rw [jq.2 ⟨p,k1,k2⟩] at hm;cases hm
      ·obtain ⟨g',hg',he⟩:=List.mem_filterMap.1 k1
       cases hm':bc (ps.map cl) (gc g')
       ·rw [hm'] at he
        have:=inj g' hg' g hg ((hcl _ _ _ he).symm.trans k2)
        subst this
        rw [bu,hp] at he;cases he
       ·rw [hm'] at he;cases he
    | some p =>
     have:bc ((ps++G.filterMap fun g=>cond (bc (ps.map cl) (gc g)) none (pv (bc (ps.map cl)) g)).map cl) (gc g)=true:=jq.2 ⟨p,List.mem_append.2 (.inr (List.mem_filterMap.2 ⟨g,hg,by rw [hm];exact hp⟩)),hcl _ _ _ hp⟩
     rw [this];rfl
   have:bc ((ps++G.filterMap fun g=>cond (bc (ps.map cl) (gc g)) none (pv (bc (ps.map cl)) g)).map cl) (gc g)=true:=by
    obtain ⟨p,k1,k2⟩:=jq.1 hm
    exact jq.2 ⟨p,List.mem_append.2 (.inl k1),k2⟩
   rw [this]
   cases (pv (bc (ps.map cl)) g).isNone <;> rfl
  rw [e2,ih]
end
abbrev Goal:=Za×Zd
abbrev Prf:=Za×List Int×List Za
def dh (plan:List Zc) (l:List Zb) (imp:ByteArray):List Goal:=plan.flatMap fun p=>l.filterMap fun a=>cond (lI plan l imp ⟨p.ID,a.ID⟩) ((fc a p.Code).map fun r=>((⟨p.ID,a.ID⟩:Za),r)) none
def ft (plan:List Zc) (l:List Zb) (imp:ByteArray) (S:CSet) (g:Goal):Option Prf:=(kq (qb plan l imp g.1 S) g.2).map fun path=>(g.1,path,xp plan l imp g.1 S)
def qf (plan:List Zc) (l:List Zb) (imp:ByteArray):List Prf:=lJ (fun p:Prf=>p.1) (ft plan l imp) (dh plan l imp).length (dh plan l imp) []
theorem qw {plan:List Zc} {l:List Zb} {imp:ByteArray} {g:Goal}:g∈dh plan l imp↔∃ p∈plan,∃ a∈l,lI plan l imp ⟨p.ID,a.ID⟩=true∧fc a p.Code=some g.2∧g.1=⟨p.ID,a.ID⟩:=by
 unfold dh
 rw [List.mem_flatMap]
 constructor
 ·rintro ⟨p,hp,hg⟩
  obtain ⟨a,ha,he⟩:=List.mem_filterMap.1 hg
  cases hc:lI plan l imp ⟨p.ID,a.ID⟩
  ·rw [hc] at he;cases he
  rw [hc,bQ] at he
  cases hr:fc a p.Code with
  | none=>rw [hr] at he;cases he
  | some r =>
   rw [hr,Option.map_some] at he
   injection he with he
   subst he
   exact ⟨p,hp,a,ha,hc,hr,rfl⟩
 rintro ⟨p,hp,a,ha,hc,hr,hg⟩
 obtain ⟨c,r⟩:=g
 dsimp only at hr hg
 subst hg
 exact ⟨p,hp,List.mem_filterMap.2 ⟨a,ha,by rw [hc,hr];rfl⟩⟩
theorem yG {α:Type} {f:α→Int} {l:List α} (h:l.Pairwise fun a b=>f a<f b) {a b:α} (ha:a∈l) (hb:b∈l) (e:f a=f b):a=b:=by
 induction l with
 | nil=>cases ha
 | cons x l ih =>
  obtain ⟨h1,h2⟩:=List.pairwise_cons.1 h
  rcases List.mem_cons.1 ha with e1 | ha'
  ·rcases List.mem_cons.1 hb with e2 | hb'
   ·rw [e1,e2]
   have:=h1 b hb';rw [← e1] at this;omega
  rcases List.mem_cons.1 hb with e2 | hb'
  ·have:=h1 a ha';rw [← e2] at this;omega
  exact ih h2 ha' hb'
theorem xA {plan:List Zc} {l:List Zb} {imp:ByteArray} (hv:VPs plan) (hl:AscA l):∀ g∈dh plan l imp,∀ g'∈dh plan l imp,g.1=g'.1→g=g':=by
 intro g hg g' hg' e
 obtain ⟨p,hp,a,ha,_,hr,h1⟩:=qw.1 hg
 obtain ⟨p',hp',a',ha',_,hr',h1'⟩:=qw.1 hg'
 rw [h1,h1'] at e
 injection e with e1 e2
 have:=yG hv.asc hp hp' e1
 have:=yG hl ha ha' e2
 subst_vars
 rw [hr] at hr'
 injection hr' with hr'
 exact Prod.ext (h1.trans h1'.symm) hr'
theorem vP {a:Zb} (ha:VA a) {code:ByteArray} {r:Zd} (h:fc a code=some r):ROk r∧ee r=true∧qE r≤32:=by
 rcases oJ a code with ⟨_,h2⟩ | ⟨j,hj,_,h2⟩
 ·rw [h2] at h;cases h
 rw [h2] at h
 injection h with h
 have h1:=(oF _).1 (ha.rules _ (List.getElem_mem hj))
 have h3:=ha.ok.rules _ (List.getElem_mem hj)
 rw [← h]
 exact ⟨h3.rule,h1.2,h1.1⟩
theorem xB {plan:List Zc} {l:List Zb} {imp:ByteArray} (hl:VAs l) {g:Goal} (hg:g∈dh plan l imp):ROk g.2∧ee g.2=true∧qE g.2≤32:=by
 obtain ⟨p,hp,a,ha,_,hr,_⟩:=qw.1 hg
 exact vP (hl.all a ha) hr
theorem vQ {plan:List Zc} {l:List Zb} {imp:ByteArray} {g:Goal} (hg:g∈dh plan l imp):lI plan l imp g.1=true∧(cj plan g.1.Product).isSome=true:=by
 obtain ⟨p,hp,a,ha,hc,_,h1⟩:=qw.1 hg
 rw [h1];exact ⟨hc,xx hc⟩
theorem FV (plan:List Zc) (l:List Zb) (imp:ByteArray):∀ (S:CSet) (g:Goal) (p:Prf),ft plan l imp S g=some p→p.1=g.1:=by
 intro S g p h
 unfold ft at h
 cases hw:kq (qb plan l imp g.1 S) g.2 with
 | none=>rw [hw] at h;cases h
 | some q=>rw [hw,Option.map_some] at h;injection h with h;rw [← h]
inductive Chp:List Zg→List Zg→Prop
 | nil:Chp [] []
 | cons {x y:Zg} {l m:List Zg} (h1:y.Product=x.Product) (h2:0≤y.Value) (h3:y.Value≤x.Value) (h:Chp l m):Chp (x::l) (y::m)
theorem Chp.empty {l m:List Zg} (h:Chp l m):m.isEmpty=l.isEmpty:=by cases h <;> rfl
theorem Chp.refl:∀ {l:List Zg},(∀ x∈l,0≤x.Value)→Chp l l
 | [],_=>.nil
 | x::l,h=>.cons rfl (h x (by simp)) (Int.le_refl _) (Chp.refl fun y hy=>h y (by simp [hy]))
structure PLe (p q:Zc):Prop where
 id:q.ID=p.ID
 code:q.Code=p.Code
 ctr:q.Country=p.Country
 price:q.Price=p.Price
 obt:q.Obtained=p.Obtained
 proc:q.Processes=p.Processes
 inp:Chp p.Inputs q.Inputs
structure WtM (f:Zl→Int):Prop where
 wt:Wt f
 le:∀ c v w a,0≤v→v≤w→f ⟨c,v,a⟩≤f ⟨c,w,a⟩
section
variable {ps ps':List Int} {S T:CSet} (hps:∀ x∈ps,x∈ps') (hST:∀ c,S c=true→T c=true)
variable {plan plan':List Zc} (hpl:∀ id,(cj plan id).isSome=true→PLe (bT plan id) (bT plan' id))
end
inductive PsLe:List Zc→List Zc→Prop
 | nil:PsLe [] []
 | cons {p q:Zc} {l m:List Zc} (h1:PLe p q) (h:PsLe l m):PsLe (p::l) (q::m)
theorem PsLe.find {l m:List Zc} (h:PsLe l m) (id:Int):(cj l id=none∧cj m id=none)∨∃ p q,cj l id=some p∧cj m id=some q∧PLe p q:=by
 induction h with
 | nil=>exact .inl ⟨rfl,rfl⟩
 | @cons p q l m h1 h ih =>
  unfold cj at ih ⊢
  rw [List.find?_cons,List.find?_cons,h1.id]
  cases p.ID == id
  ·exact ih
  exact .inr ⟨p,q,rfl,rfl,h1⟩
theorem PsLe.mem {l m:List Zc} (h:PsLe l m) {p:Zc} (hp:p∈l):∃ q∈m,PLe p q:=by
 induction h with
 | nil=>cases hp
 | @cons x q l m h1 h ih =>
  rcases List.mem_cons.1 hp with e | hp'
  ·subst e;exact ⟨q,by simp,h1⟩
  obtain ⟨r,k1,k2⟩:=ih hp'
  exact ⟨r,by simp [k1],k2⟩
theorem PLe.refl {plan:List Zc} {p:Zc} (h:VProd plan p):PLe p p:=⟨rfl,rfl,rfl,rfl,rfl,rfl,Chp.refl fun x hx=>(h.inp x hx).2.1⟩
section
variable {plan:List Zc} (R:Int→Bool) (hR:∀ p∈plan,R p.ID=true→∀ y∈p.Inputs,R y.Product=true)
end
section
variable (x:Zn)
mutual
def fol:Zd→List Int→Option (List Int)
 | ⟨k,d,e,t,m,n,l⟩,p=>cond (k == 5) (BE l p) (cond (k == 6) (cond (!p.isEmpty&&decide (0≤p.headD 0)) (wF l (p.headD 0).toNat p.tail) none) (cond (kw ⟨k,d,e,t,m,n,l⟩ x) (some p) none))
def BE:List Zd→List Int→Option (List Int)
 | [],p=>some p
 | a::l,p=>match fol a p with
  | some q=>BE l q
  | none=>none
def wF:List Zd→Nat→List Int→Option (List Int)
 | [],_,_=>none
 | a::_,0,p=>fol a p
 | _::l,n+1,p=>wF l n p
end
end
mutual
theorem CC (x:Zn):∀ (r:Zd) (p q:List Int),fol x r p=some q→(kq x r).isSome=true
 | ⟨k,d,e,t,m,n,l⟩,p,q,h=>by
  rw [fol] at h
  rw [kq]
  cases h5:(k == 5)
  ·rw [h5] at h
   simp only [bu] at h ⊢
   cases h6:(k == 6)
   ·rw [h6] at h
    simp only [bu] at h ⊢
    cases hh:kw ⟨k,d,e,t,m,n,l⟩ x
    ·rw [hh] at h;cases h
    rfl
   rw [h6] at h
   simp only [bQ] at h ⊢
   cases hi:(!p.isEmpty&&decide (0≤p.headD 0))
   ·rw [hi] at h;cases h
   rw [hi] at h;exact An x l _ 0 _ q h
  rw [h5] at h
  exact Ao x l p q h
theorem Ao (x:Zn):∀ (l:List Zd) (p q:List Int),BE x l p=some q→(jo x l).isSome=true
 | [],p,q,h=>by rw [jo];rfl
 | a::l,p,q,h=>by
  rw [BE] at h
  rw [jo]
  cases ha:fol x a p with
  | none=>rw [ha] at h;cases h
  | some s =>
   rw [ha] at h
   obtain ⟨w,e1⟩:=Option.isSome_iff_exists.1 (CC x a p s ha)
   obtain ⟨v,e2⟩:=Option.isSome_iff_exists.1 (Ao x l s q h)
   rw [e1,e2];rfl
theorem An (x:Zn):∀ (l:List Zd) (n i:Nat) (p q:List Int),wF x l n p=some q→(kS x i l).isSome=true
 | [],n,i,p,q,h=>by rw [wF] at h;cases h
 | a::l,0,i,p,q,h=>by
  rw [wF] at h
  rw [kS]
  obtain ⟨w,e1⟩:=Option.isSome_iff_exists.1 (CC x a p q h)
  rw [e1];rfl
 | a::l,n+1,i,p,q,h=>by
  rw [wF] at h
  rw [kS]
  cases kq x a with
  | none=>exact An x l n (i+1) p q h
  | some w=>rfl
end
mutual
theorem CD (x:Zn):∀ (r:Zd) (w t:List Int),kq x r=some w→fol x r (w++t)=some t
 | ⟨k,d,e,u,m,n,l⟩,w,t,h=>by
  rw [kq] at h
  rw [fol]
  cases h5:(k == 5)
  ·rw [h5] at h
   simp only [bu] at h ⊢
   cases h6:(k == 6)
   ·rw [h6] at h
    simp only [bu] at h ⊢
    cases hh:kw ⟨k,d,e,u,m,n,l⟩ x
    ·rw [hh] at h;cases h
    rw [hh] at h;injection h with h;subst h;rfl
   rw [h6] at h
   simp only [bQ] at h ⊢
   obtain ⟨j,v,e1,e2⟩:=Ap x l 0 w t h
   subst e1
   show cond (true&&decide (0≤((0+j:Nat):Int))) (wF x l ((0+j:Nat):Int).toNat (v++t)) none=_
   rw [det (by omega),Bool.and_self,bQ,show ((0+j:Nat):Int).toNat=j by omega]
   exact e2
  rw [h5] at h
  exact Aq x l w t h
theorem Aq (x:Zn):∀ (l:List Zd) (w t:List Int),jo x l=some w→BE x l (w++t)=some t
 | [],w,t,h=>by rw [jo] at h;injection h with h;subst h;rw [BE];rfl
 | a::l,w,t,h=>by
  rw [jo] at h
  rw [BE]
  cases ha:kq x a with
  | none=>rw [ha] at h;cases h
  | some p =>
   cases hl:jo x l with
   | none=>rw [ha,hl] at h;cases h
   | some q =>
    rw [ha,hl,be,be] at h
    injection h with h
    subst h
    rw [List.append_assoc,CD x a p (q++t) ha]
    exact Aq x l q t hl
theorem Ap (x:Zn):∀ (l:List Zd) (i:Nat) (w t:List Int),kS x i l=some w→∃ (j:Nat) (v:List Int),w=((i+j:Nat):Int)::v∧wF x l j (v++t)=some t
 | [],i,w,t,h=>by rw [kS] at h;cases h
 | a::l,i,w,t,h=>by
  rw [kS] at h
  cases ha:kq x a with
  | none =>
   rw [ha] at h
   obtain ⟨j,v,e1,e2⟩:=Ap x l (i+1) w t h
   exact ⟨j+1,v,by rw [e1];congr 2;omega,by rw [wF];exact e2⟩
  | some p =>
   rw [ha] at h
   injection h with h
   exact ⟨0,p,h.symm,by rw [wF];exact CD x a p t ha⟩
end

section
variable {γ π:Type}
end
def kv (plan:List Zc) (l:List Zb) (imp:ByteArray) (S:CSet) (p:Zc) (a:Zb):Option Prf :=
 cond (S ⟨p.ID,a.ID⟩ || !lI plan l imp ⟨p.ID,a.ID⟩) none (ft plan l imp S (⟨p.ID,a.ID⟩,(fc a p.Code).getD Aa))
theorem BF {plan:List Zc} (h:VPs plan) {p:Zc} (hp:p∈plan):cj plan p.ID=some p:=by
 cases hf:cj plan p.ID with
 | none =>
  unfold cj at hf
  rw [List.find?_eq_none] at hf
  exact absurd (by simp) (hf p hp)
 | some q =>
  have h1:=xo hf
  rw [yG h.asc h1.1 hp h1.2]
theorem Ar {plan:List Zc} {l:List Zb} {imp:ByteArray} (hv:VPs plan) (ha:AscA l) {p:Zc} (hp:p∈plan) {a:Zb} (hal:a∈l) (h:lI plan l imp ⟨p.ID,a.ID⟩=true):∃ r,fc a p.Code=some r:=by
 obtain ⟨q,b,r,e1,e2,e3,_⟩:=qv h
 dsimp only at e1 e2
 rw [BF hv hp] at e1
 rw [Dq ha hal] at e2
 injection e1 with e1
 injection e2 with e2
 exact ⟨r,by rw [e1,e2];exact e3⟩
theorem vR {plan:List Zc} {l:List Zb} (hv:VPs plan) (ha:AscA l) (imp:ByteArray) (S:CSet):(dh plan l imp).filterMap (fun g=>cond (S g.1) none (ft plan l imp S g))=plan.flatMap fun p=>l.filterMap fun a=>kv plan l imp S p a:=by
 have inner:∀ p∈plan,∀ m:List Zb,(∀ a∈m,a∈l)→(m.filterMap fun a=>cond (lI plan l imp ⟨p.ID,a.ID⟩) ((fc a p.Code).map fun r=>((⟨p.ID,a.ID⟩:Za),r)) none).filterMap (fun g=>cond (S g.1) none (ft plan l imp S g))=m.filterMap fun a=>kv plan l imp S p a:=by
  intro p hp m
  induction m with
  | nil=>intro _;rfl
  | cons a m ih =>
   intro hm
   have ih:=ih fun b hb=>hm b (by simp [hb])
   cases hc:lI plan l imp ⟨p.ID,a.ID⟩
   ·rw [List.filterMap_cons_none (by rw [hc];rfl),ih,List.filterMap_cons_none (by unfold kv;rw [hc];cases S ⟨p.ID,a.ID⟩ <;> rfl)]
   obtain ⟨r,hr⟩:=Ar hv ha hp (hm a (by simp)) hc
   rw [List.filterMap_cons_some (b:=((⟨p.ID,a.ID⟩:Za),r)) (by rw [hc,hr];rfl)]
   have e:kv plan l imp S p a=cond (S ⟨p.ID,a.ID⟩) none (ft plan l imp S (⟨p.ID,a.ID⟩,r)):=by
    unfold kv;rw [hc,hr];cases S ⟨p.ID,a.ID⟩ <;> rfl
   cases hs:cond (S ⟨p.ID,a.ID⟩) none (ft plan l imp S (⟨p.ID,a.ID⟩,r)) with
   | none=>rw [List.filterMap_cons_none (f:=fun g:Goal=>cond (S g.1) none (ft plan l imp S g)) hs,List.filterMap_cons_none (e.trans hs),ih]
   | some q=>rw [List.filterMap_cons_some (f:=fun g:Goal=>cond (S g.1) none (ft plan l imp S g)) hs,List.filterMap_cons_some (e.trans hs),ih]
 unfold dh
 have outer:∀ q:List Zc,(∀ p∈q,p∈plan)→(q.flatMap fun p=>l.filterMap fun a=>cond (lI plan l imp ⟨p.ID,a.ID⟩) ((fc a p.Code).map fun r=>((⟨p.ID,a.ID⟩:Za),r)) none).filterMap (fun g=>cond (S g.1) none (ft plan l imp S g))=q.flatMap fun p=>l.filterMap fun a=>kv plan l imp S p a:=by
  intro q
  induction q with
  | nil=>intro _;rfl
  | cons p q ih =>
   intro hq
   rw [List.flatMap_cons,List.flatMap_cons,List.filterMap_append,inner p (hq p (by simp)) l (fun _ h=>h),ih fun x hx=>hq x (by simp [hx])]
 exact outer plan fun _ h=>h
def jR (plan:List Zc) (l:List Zb) (imp:ByteArray):Nat→List Prf→List Za→List Prf
  | 0,ps,_=>ps
  | n+1,ps,set=>cond (plan.flatMap fun p=>l.filterMap fun a=>kv plan l imp (bc set) p a).isEmpty ps
      (jR plan l imp n (ps++plan.flatMap fun p=>l.filterMap fun a=>kv plan l imp (bc set) p a) ((plan.flatMap fun p=>l.filterMap fun a=>kv plan l imp (bc set) p a).foldl (fun t p=>iy bL t p.1) set))
theorem rx:∀ (ps:List Prf) (set:List Za) (c:Za),bc (ps.foldl (fun t p=>iy bL t p.1) set) c=(bc set c||bc (ps.map fun p:Prf=>p.1) c)
 | [],set,c=>by simp [bc]
 | p::ps,set,c=>by
  rw [List.foldl_cons,rx ps]
  have:bc (iy bL set p.1) c=(bc set c||decide (p.1=c)):=by
   cases h:bc (iy bL set p.1) c
   ·rw [p8,vH] at h
    rw [p8.2 (fun hm=>h (.inr hm)),cw (fun e=>h (.inl e.symm))];rfl
   rw [nW,vH] at h
   rcases h with h | h
   ·rw [det h.symm,Bool.or_true]
   rw [nW.2 h,Bool.true_or]
  rw [this,List.map_cons]
  show _=(bc set c||(decide (p.1=c)||bc (ps.map fun p:Prf=>p.1) c))
  rw [Bool.or_assoc]
theorem sj {plan:List Zc} {l:List Zb} (hv:VPs plan) (ha:AscA l) (imp:ByteArray):∀ (n:Nat) (ps:List Prf) (set:List Za),(∀ c,bc set c=bc (ps.map fun p:Prf=>p.1) c)→jR plan l imp n ps set=sg (fun g:Goal=>g.1) (fun p:Prf=>p.1) (ft plan l imp) (dh plan l imp) n ps
 | 0,ps,set,_=>rfl
 | n+1,ps,set,h=>by
  have hS:bc set=bc (ps.map fun p:Prf=>p.1):=funext h
  rw [jR,sg,hS,← vR hv ha]
  cases ((dh plan l imp).filterMap fun g=>cond (bc (ps.map fun p:Prf=>p.1) g.1) none (ft plan l imp (bc (ps.map fun p:Prf=>p.1)) g)).isEmpty
  ·simp only [bu]
   refine sj hv ha imp n _ _ fun c=>?_
   rw [rx,h,List.map_append]
   unfold bc;rw [List.any_append]
  rfl
theorem ua {plan:List Zc} {l:List Zb} (hv:VPs plan) (ha:AscA l) (imp:ByteArray):jR plan l imp (dh plan l imp).length [] []=qf plan l imp:=by
 rw [sj hv ha imp _ [] [] (fun _=>rfl),← BD (FV plan l imp) (xA hv ha)]
 unfold qf
 congr 1
 exact List.filter_eq_self.2 fun _ _=>rfl
section
variable (ps:List Prf)
def vS (d:Za):Option Nat:=ps.findIdx? fun p=>decide (p.1=d)
inductive Reach (c:Za):Za→Prop
 | base:Reach c c
 | step {d e:Za} {i:Nat} {p:Prf} (h:Reach c d) (h1:vS ps d=some i) (h2:ps[i]?=some p) (h3:e∈p.2.2):Reach c e
variable {ps} {c:Za}
def TCov (ps:List Prf) (nd:List Bool) (todo:List Za) (e:Za):Prop:=e∈todo∨∃ j,vS ps e=some j∧nd[j]?=some true
structure Zw (ps:List Prf) (c:Za) (nd:List Bool) (todo:List Za):Prop where
 len:nd.length=ps.length
 tr:∀ d∈todo,Reach ps c d
 nr:∀ i:Nat,nd[i]?=some true→∃ d,Reach ps c d∧vS ps d=some i
 cl:∀ (i:Nat) p,nd[i]?=some true→ps[i]?=some p→∀ e∈p.2.2,TCov ps nd todo e
 st:TCov ps nd todo c
structure NInv (ps:List Prf) (c:Za) (need:List Za) (k:Nat):Prop where
 rr:∀ d∈need,Reach ps c d
 st:c∈need
 nd:need.Nodup
 cl:∀ (j:Nat),j<k→∀ d,need[j]?=some d→∃ i p,vS ps d=some i∧ps[i]?=some p∧∀ e∈p.2.2,e∈need
end
def rw' (n:Int):Zm:=⟨n / 18446744073709551616,n % 18446744073709551616⟩
theorem rw_of {w:Zm} (h:RW w):w=rw' (rv w)∧U128 (rv w):=by
 obtain ⟨a,b⟩:=w
 unfold RW U64 at h;unfold rw' rv U128;dsimp only at *
 refine ⟨?_,by omega⟩
 congr 1 <;> omega
theorem rmul {a b:Int} (ha:U64 a) (hb:U64 b):jI a b=some (rw' (a*b))∧U128 (a*b):=by
 obtain ⟨w,e1,e2,e3⟩:=Cv ha hb
 have:=rw_of e2
 rw [e3] at this
 rw [e1];exact ⟨congrArg some this.1,this.2⟩
theorem rless {a b:Int} (ha:U128 a) (hb:U128 b):kM (rw' a) (rw' b)=some (decide (a<b)):=by
 unfold U128 at *
 unfold kM rw'
 dsimp only
 congr 1
 by_cases h:a<b
 ·rw [det h];simp only [Bool.or_eq_true,Bool.and_eq_true,decide_eq_true_eq,beq_iff_eq];omega
 rw [cw h];simp only [Bool.or_eq_false_iff,Bool.and_eq_false_iff,decide_eq_false_iff_not,beq_eq_false_iff_ne];omega
theorem vU {v s p:Int} (hv:0≤v∧v≤100000000000000) (hs:0≤s∧s≤1000000) (hp:0≤p∧p≤1000000000000):iT v s p=some (decide (v*1000000≤s*p)):=by
 unfold iT
 rw [fB (a:=v) ⟨by omega,by omega⟩,fB (a:=s) ⟨by omega,by omega⟩,fB (a:=p) ⟨by omega,by omega⟩]
 obtain ⟨e1,u1⟩:=rmul (a:=v) (b:=1000000) ⟨by omega,by omega⟩ ⟨by omega,by omega⟩
 obtain ⟨e2,u2⟩:=rmul (a:=s) (b:=p) ⟨by omega,by omega⟩ ⟨by omega,by omega⟩
 rw [e1,be,e2,be]
 unfold mZ
 rw [rless u1 u2,rless u2 u1]
 simp only [be]
 by_cases h:v*1000000<s*p
 ·rw [det h]
  simp only [bQ,be]
  rw [det (by omega),det (by omega)]
 rw [cw h]
 by_cases h2:s*p<v*1000000
 ·rw [det h2]
  simp only [bu,bQ,be]
  rw [cw (by omega),cw (by omega)]
 rw [cw h2]
 simp only [bu,be]
 rw [det (by omega),det (by omega)]
theorem yH {r:Zd} {x:Zn} {i:Zl} (hd:r.Digits=2∨r.Digits=4∨r.Digits=6) (he:r.Except.length≤6) (hc:6≤cM x.Code) (hi:6≤cM i.Code):gQ r x i=some (qd r x.Code i.Code):=by
 unfold gQ qd
 have hs:=ru hc
 have hs2:=ru hi
 have e:jY x.Code 0 r.Digits=some (x.Code.extract 0 r.Digits.toNat):=by unfold jY;rw [if_pos (by omega)];rfl
 have e2:jY i.Code 0 r.Digits=some (i.Code.extract 0 r.Digits.toNat):=by unfold jY;rw [if_pos (by omega)];rfl
 have hsz:(x.Code.extract 0 r.Digits.toNat).size=r.Digits.toNat:=by rw [ByteArray.size_extract];omega
 have ep:im i.Code (x.Code.extract 0 r.Digits.toNat)=decide (i.Code.extract 0 r.Digits.toNat=x.Code.extract 0 r.Digits.toNat):=by
  unfold im;rw [hsz,det (by omega),Bool.true_and]
 rw [e2,be,e,be,ep]
 cases decide (i.Code.extract 0 r.Digits.toNat=x.Code.extract 0 r.Digits.toNat)
 ·simp only [bu,Bool.false_or]
  refine (bM (l:=r.Except) (by omega) (fun _ x=>cond (im i.Code x) (some (.inr true)) none) (.inl ()) (fun k hk=>?_) (by simp only [cP,bu])).trans ?_
  ·simp only [iq hk,bQ,aU hk,be,bP hk (show r.Except.length≤4611686018427387904 by omega),z8]
   cases im i.Code r.Except[k] <;> rfl
  rw [qo (fun x=>im i.Code x) (Sum.inr true:Unit⊕Bool)]
  cases r.Except.any fun x=>im i.Code x <;> rfl
 rfl
mutual
theorem As (x:Zn):∀ l:List Zd,(jo x l).isSome=l.all fun a=>(kq x a).isSome
 | []=>by rw [jo];rfl
 | a::l=>by
  have h:=As x l
  rw [jo,List.all_cons,← h]
  cases kq x a with
  | none=>rfl
  | some p=>cases jo x l <;> rfl
theorem At (x:Zn):∀ (l:List Zd) (i:Nat),(kS x i l).isSome=l.any fun a=>(kq x a).isSome
 | [],i=>by rw [kS];rfl
 | a::l,i=>by
  have h:=At x l (i+1)
  rw [kS,List.any_cons,← h]
  cases kq x a <;> rfl
end
def yI {α:Type} (p:α→Bool):List α→Nat
 | []=>0
 | a::l=>cond (p a) 1 0+yI p l
theorem CE {α:Type} (p:α→Bool):∀ l:List α,yI p l≤l.length
 | []=>Nat.le_refl _
 | a::l=>by have:=CE p l;rw [yI,List.length_cons];cases p a <;> simp <;> omega
theorem Au {α:Type} (p:α→Bool):∀ l:List α,(yI p l == l.length)=l.all p
 | []=>rfl
 | a::l=>by
  have h:=Au p l
  have hle:=CE p l
  rw [yI,List.length_cons,List.all_cons,← h]
  cases p a
  ·rw [bu,Bool.false_and,beq_eq_false_iff_ne];omega
  rw [bQ,Bool.true_and,Bool.eq_iff_iff,beq_iff_eq,beq_iff_eq];omega
theorem Av {α:Type} (p:α→Bool):∀ l:List α,decide (0<yI p l)=l.any p
 | []=>rfl
 | a::l=>by
  have h:=Av p l
  rw [yI,List.any_cons,← h]
  cases p a
  ·rw [bu,Bool.false_or];exact decide_eq_decide.2 (by omega)
  rw [bQ,Bool.true_or];exact det (by omega)
theorem Aw (x:Zn) (hx:VCase x) (n:Nat):∀ r:Zd,ee r=true→sO r≤n→lc n r x=some (kq x r).isSome:=by
 induction n with
 | zero=>intro r _ hd;rw [kj] at hd;omega
 | succ n ih =>
  intro r hr hd
  obtain ⟨hl,ha,he⟩:=mt hr
  have hfew:=hx.few
  show jg (lc n) r x=_
  unfold jg
  have hvi:r.Kind=2→∀ i∈x.Inputs,gQ r x i=some (qd r x.Code i.Code):=by
   intro hk i hi
   have h:=hr
   rw [gS,hk] at h
   simp only [jO,hk,Bool.and_eq_true] at h
   have h3:=h.2
   simp at h3
   exact yH (by omega) he hx.lvl (hx.inp i hi).1
  refine (cB (l:=x.Inputs) (by omega) (fun i (s:Int×Int)=>(s.1,s.2,i)) (fun s i=>(s.1+cond i.Originating 0 (cond (r.Kind == 3) (fV i) (cond (r.Kind == 2) (fW r x.Code i) 0)),s.2+cond i.Originating 0 (fN i))) (fun s=>s) (fun k s=>(0≤s.1∧s.1≤k*1000000000000)∧(0≤s.2∧s.2≤k)) (0,0) ⟨by simp,by simp⟩ (fun k hk s hs=>?_) (fun s _=>by simp only [cP,bu])).1.trans ?_
  ·obtain ⟨a,b⟩:=s
   obtain ⟨s1,s2⟩:=hs
   dsimp only at s1 s2 ⊢
   have hmem:=List.getElem_mem hk
   have hi:=hx.inp _ hmem
   have hk100:k<100:=by omega
   simp only [iq hk,bQ,aU hk,be,bP hk (show x.Inputs.length≤4611686018427387904 by omega)]
   generalize x.Inputs[k]=i at hi hmem
   unfold fV fN fW
   cases i.Originating
   ·simp only [bu]
    cases hk3:(r.Kind == 3)
    ·cases hk2:(r.Kind == 2)
     ·simp only [Bool.not_false,Bool.and_false,iC,be,Bool.false_and,Bool.or_self,bu,Int.add_zero]
      rw [cK (r:=b+1) (by omega) (by omega)]
      exact ⟨rfl,⟨by omega,by omega⟩,by omega,by omega⟩
     simp only [Bool.not_false,Bool.and_self,cI,Bool.false_or,Bool.true_and]
     rw [hvi (eq_of_beq hk2) i hmem,be]
     cases qd r x.Code i.Code
     ·simp only [bu,bQ,be,Int.add_zero]
      rw [cK (r:=b+1) (by omega) (by omega)]
      exact ⟨rfl,⟨by omega,by omega⟩,by omega,by omega⟩
     simp only [bQ,bu,be]
     rw [cK (r:=b+1) (by omega) (by omega),cK (r:=a+i.Value) (by omega) (by omega)]
     exact ⟨rfl,⟨by omega,by omega⟩,by omega,by omega⟩
    simp only [Bool.not_true,Bool.false_and,iC,be,Bool.true_or,bQ]
    rw [cK (r:=b+1) (by omega) (by omega),cK (r:=a+i.Value) (by omega) (by omega)]
    exact ⟨rfl,⟨by omega,by omega⟩,by omega,by omega⟩
   simp only [bQ,be,Int.add_zero]
   exact ⟨trivial,⟨by omega,by omega⟩,by omega,by omega⟩
  have key:∀ (l:List Zl) (a b:Int),l.foldl (fun (s:Int×Int) i=>(s.1+cond i.Originating 0 (cond (r.Kind == 3) (fV i) (cond (r.Kind == 2) (fW r x.Code i) 0)),s.2+cond i.Originating 0 (fN i))) (a,b)=(a+wS (fun i=>cond (r.Kind == 3) (fV i) (cond (r.Kind == 2) (fW r x.Code i) 0)) l,b+wS fN l):=by
   intro l
   induction l with
   | nil=>intro a b;simp [wS]
   | cons i l ih=>intro a b;rw [List.foldl_cons,ih];simp only [wS,Int.add_assoc]
  rw [key]
  dsimp only
  simp only [Int.zero_add]
  refine (cB (l:=r.Args) (by omega) (fun i (s:Nat)=>((s:Int),i)) (fun s a=>s+cond (kq x a).isSome 1 0) (fun s=>(s:Int)) (fun k s=>s≤k) 0 (Nat.le_refl _) (fun k hk s hs=>?_) (fun s _=>by simp only [cP,bu])).1.trans ?_
  ·simp only [iq hk,bQ,aU hk,be,bP hk (show r.Args.length≤4611686018427387904 by omega)]
   rw [ih _ (ha _ (List.getElem_mem hk)) (by have:=kl (List.getElem_mem hk);omega),be]
   cases (kq x r.Args[k]).isSome
   ·exact ⟨rfl,by simp;omega⟩
   simp only [bQ,be]
   rw [cK (by omega) (by omega)]
   exact ⟨rfl,by omega⟩
  have key2:∀ (l:List Zd) (s:Nat),l.foldl (fun s a=>s+cond (kq x a).isSome 1 0) s=s+yI (fun a=>(kq x a).isSome) l:=by
   intro l
   induction l with
   | nil=>intro s;rfl
   | cons a l ih=>intro s;rw [List.foldl_cons,ih,yI];omega
  rw [key2,Nat.zero_add,BC]
  have hv:0≤wS fV x.Inputs∧wS fV x.Inputs≤100000000000000:=by
   have:=qe (f:=fV) (b:=1000000000000) (by omega) (l:=x.Inputs) fun i hi=>(hx.inp i hi).2
   omega
  have hw:0≤wS (fW r x.Code) x.Inputs∧wS (fW r x.Code) x.Inputs≤100000000000000:=by
   have:=qe (f:=fW r x.Code) (b:=1000000000000) (by omega) (l:=x.Inputs) fun i hi=>by
    have:=(hx.inp i hi).2
    unfold fW;cases qd r x.Code i.Code
    ·simp only [bu];omega
    exact this
   omega
  have hp:=hx.price
  have hb:=hr
  rw [gS] at hb
  unfold jO Fd at hb
  unfold kw
  have fin:∀ b:Bool,(some b:Option Bool)=some ((cond b (some ([]:List Int)) none).isSome):=fun b=>by cases b <;> rfl
  cases h1:(r.Kind == 1)
  ·cases h2:(r.Kind == 2)
   ·cases h3:(r.Kind == 3)
    ·cases h4:(r.Kind == 4)
     ·cases h5:(r.Kind == 5)
      ·cases h6:(r.Kind == 6)
       ·rw [h1,h2,h3,h4,h5,h6] at hb;simp at hb
       simp only [bu,bQ]
       rw [At,← Av]
       congr 1
       exact decide_eq_decide.2 (by omega)
      simp only [bu,bQ]
      rw [As,← Au]
      congr 1
      rw [Bool.eq_iff_iff,beq_iff_eq,beq_iff_eq];omega
     have hk:=eq_of_beq h4
     rw [hk]
     simp only [bu,bQ]
     rw [qu _ _ hx.proc.2.1,be]
     exact fin _
    have hk:=eq_of_beq h3
    rw [hk] at hb
    simp at hb
    rw [hk]
    simp only [bu,bQ]
    rw [vU hv hb.2 (by omega),be]
    exact fin _
   have hk:=eq_of_beq h2
   rw [hk] at hb
   simp at hb
   rw [hk]
   simp only [bu,bQ]
   have e3:((2:Int) == 3)=false:=rfl
   rw [show (fun i=>cond ((2:Int) == 3) (fV i) (fW r x.Code i))=fW r x.Code from rfl,vU hw (by omega) (by omega),be]
   exact fin _
  have hk:=eq_of_beq h1
  rw [hk]
  simp only [bQ]
  exact fin _
theorem Dz {r:Zd} {x:Zn} (hx:VCase x) (hr:ee r=true) (hd:sO r≤1000):pF r x=some (kq x r).isSome:=Aw x hx FUEL r hr (by have hf:FUEL=1267650600228229401496703205376:=rfl;omega)
def rwF (x:Zn) (six:Bool) (k:Nat) (a:Zd) (l:List Int):List Int⊕List Int:=match kq x a with
 | none=>.inl l
 | some p=>cond six (.inr ((k:Int)::p)) (.inl (l++p))
theorem CF (x:Zn):∀ (m:List Zd) (i:Nat) (l:List Int),run (rwF x true) m i l=match kS x i m with | some p=>.inr p | none=>.inl l
 | [],i,l=>by rw [kS];rfl
 | a::m,i,l=>by
  rw [i7,kS]
  unfold rwF
  cases kq x a with
  | none=>exact CF x m (i+1) l
  | some p=>rfl
theorem CG (x:Zn):∀ (m:List Zd) (i:Nat) (l w:List Int),jo x m=some w→run (rwF x false) m i l=.inl (l++w)
 | [],i,l,w,h=>by rw [jo] at h;injection h with h;subst h;rw [List.append_nil];rfl
 | a::m,i,l,w,h=>by
  rw [jo] at h
  rw [i7]
  unfold rwF
  cases ha:kq x a with
  | none=>rw [ha] at h;cases h
  | some p =>
   cases hm:jo x m with
   | none=>rw [ha,hm] at h;cases h
   | some q =>
    rw [ha,hm,be,be] at h
    injection h with h
    subst h
    rw [← List.append_assoc]
    exact CG x m (i+1) (l++p) q hm
theorem wG (x:Zn) (hx:VCase x) (n:Nat):∀ r:Zd,ee r=true→qE r≤1000→sO r≤n→ik n r x=some (gU [] (kq x r)):=by
 induction n with
 | zero=>intro r _ _ hd;rw [kj] at hd;omega
 | succ n ih =>
  intro r hr hc hd
  obtain ⟨hl,ha,_⟩:=mt hr
  have hdc:=rS r
  show ij (ik n) r x=_
  unfold ij
  rw [Dz hx hr (by omega),be]
  cases hw:kq x r with
  | none=>rfl
  | some w =>
   simp only [Option.isSome_some,Bool.not_true,bu]
   have hargs:∀ k (hk:k<r.Args.length),ik n r.Args[k] x=some (gU [] (kq x r.Args[k])):=fun k hk=>ih _ (ha _ (List.getElem_mem hk)) (by have:=pV r;have:=se (List.getElem_mem hk);omega) (by have:=kl (List.getElem_mem hk);omega)
   have hcl:∀ k (hk:k<r.Args.length) p,kq x r.Args[k]=some p→p.length≤1000:=fun k hk p h=>by have h1:=sf x _ p h;have:=pV r;have:=se (List.getElem_mem hk);omega
   refine (j0 (l:=r.Args) (by omega) (fun i (s:List Int)=>(s,i)) (rwF x (r.Kind == 6)) (fun s=>.inl s) (fun p=>.inr (p,true)) (fun k s=>s.length≤k*1000) [] (by simp) (fun k hk s hs=>⟨?_,fun s' h'=>?_⟩) (fun s _=>by simp only [cP,bu])).trans ?_
   ·simp only [iq hk,bQ,aU hk,be,bP hk (show r.Args.length≤4611686018427387904 by omega)]
    rw [hargs k hk]
    have:=hcl k hk
    unfold rwF
    cases hwk:kq x r.Args[k] with
    | none=>rfl
    | some p =>
     have:=this p hwk
     show Option.bind (cond (r.Kind == 6) _ _) _=_
     cases (r.Kind == 6)
     ·simp only [bu]
      rw [show (gU ([]:List Int) (some p)).1=p from rfl]
      rw [cX (show (s.length+p.length)*8≤140737488355328 by omega) (by omega)];rfl
     simp only [bQ]
     rw [show (gU ([]:List Int) (some p)).1=p from rfl]
     rw [cX (show (([(k:Int)]).length+p.length)*8≤140737488355328 by simp;omega) (by simp;omega)];rfl
   ·have:=hcl k hk
    unfold rwF at h'
    cases hwk:kq x r.Args[k] with
    | none=>rw [hwk] at h';injection h' with h';subst h';omega
    | some p =>
     have:=this p hwk
     rw [hwk] at h'
     cases h6:(r.Kind == 6)
     ·rw [h6] at h';injection h' with h';subst h';rw [List.length_append];omega
     rw [h6] at h';cases h'
   rw [BC] at hw
   cases h5:(r.Kind == 5)
   ·rw [h5] at hw
    simp only [bu] at hw
    cases h6:(r.Kind == 6)
    ·rw [h6] at hw
     simp only [bu] at hw
     have hnil:r.Args=[]:=by
      have hp:=hr
      rw [gS,Bool.and_eq_true] at hp
      have h1:=hp.1
      unfold km at h1
      simp only [Bool.and_eq_true,h5,h6,Bool.false_or] at h1
      exact List.isEmpty_iff.1 h1.2
     rw [hnil]
     cases hh:kw r x
     ·rw [hh] at hw;cases hw
     rw [hh] at hw;injection hw with hw;subst hw;rfl
    rw [h6] at hw
    rw [CF,show kS x 0 r.Args=some w from hw];rfl
   rw [h5] at hw
   have h6:(r.Kind == 6)=false:=by rw [eq_of_beq h5];rfl
   rw [h6,CG x r.Args 0 [] w hw];rfl
theorem Ax {r:Zd} {x:Zn} (hx:VCase x) (hr:ee r=true) (hc:qE r≤32):jh r x=some (gU [] (kq x r)):=wG x hx FUEL r hr (by omega) (by have:=rS r;have hf:FUEL=1267650600228229401496703205376:=rfl;omega)
def vV (g:Goal):Zj:=⟨g.1,g.2⟩
def qg (p:Prf):Zf:=⟨p.1,p.2.1,p.2.2⟩
def nA (plan:List Zc) (l:List Zb) (imp:ByteArray) (p:Zc) (a:Zb):Option Goal:=cond (lI plan l imp ⟨p.ID,a.ID⟩) ((fc a p.Code).map fun r=>((⟨p.ID,a.ID⟩:Za),r)) none
theorem Ay {α β:Type} (h:α→Option β):∀ (l:List α) (s:List β),l.foldl (fun s a=>s++(h a).toList) s=s++l.filterMap h
 | [],s=>by simp
 | a::l,s=>by
  rw [List.foldl_cons,Ay h l]
  cases ha:h a with
  | none=>rw [List.filterMap_cons_none ha];simp
  | some b=>rw [List.filterMap_cons_some ha];simp
theorem sS (plan:List Zc) (l:List Zb) (imp:ByteArray):(dh plan l imp).length≤plan.length*l.length:=by
 have key:∀ q:List Zc,(q.flatMap fun p=>l.filterMap (nA plan l imp p)).length≤q.length*l.length:=by
  intro q
  induction q with
  | nil=>simp
  | cons p q ih =>
   rw [List.flatMap_cons,List.length_append,List.length_cons,Nat.add_mul,Nat.one_mul]
   have:=List.length_filterMap_le (nA plan l imp p) l;omega
 exact key plan
theorem BG {plan:List Zc} {l:List Zb} (hv:VPs plan) (hl:VAs l) (imp:ByteArray):ki plan l imp=some ((dh plan l imp).map vV):=by
 unfold ki
 have hlen:=hv.len
 have hll:=hl.len
 have inner:∀ (p:Zc) (s:List Zj),s.length≤64000→Option.bind (aW (S:=(List Zj)×Int) (T:=((List Zj))) (fun (l17,v20)=>cond (decide (v20<(l.length:Int))) (Option.bind (Option.bind (idx l v20) (fun m33=>Option.bind (ed m33 p.Code) (fun x36=>Option.bind (gd x36.2 (cF plan l imp (⟨p.ID,m33.ID⟩:Za))) (fun x38=>cond (x36.2&&x38) (Option.bind (app 112 l17 [(⟨(⟨p.ID,m33.ID⟩:Za),x36.1⟩:Zj)]) (fun l42=>some l42)) (some l17))))) (fun l31=>some (.inl (l31,(IntKind.i64.wrap (v20+1)))))) (some (.inr l17))) FUEL (s,0)) (fun t=>(some t:Option (List Zj)))=some (s++(l.filterMap (nA plan l imp p)).map vV):=by
  intro p s hs
  refine (cB (l:=l) (by omega) (fun i (s:List Zj)=>(s,i)) (fun s a=>s++((nA plan l imp p a).map vV).toList) (fun s=>s) (fun k t=>t.length≤s.length+k) s (Nat.le_refl _) (fun k hk t ht=>?_) (fun t _=>by simp only [cP,bu])).1.trans ?_
  ·simp only [iq hk,bQ,aU hk,be,bP hk (show l.length≤4611686018427387904 by omega)]
   have hva:=hl.all _ (List.getElem_mem hk)
   rw [tw _ _ hva,be,Ag _ _ _ _ hv.sorted hl]
   unfold nA
   cases hr:fc l[k] p.Code with
   | none =>
    have e:(cond (lI plan l imp ⟨p.ID,l[k].ID⟩) ((none:Option Zd).map fun r=>((⟨p.ID,l[k].ID⟩:Za),r)) none)=none:=by cases lI plan l imp ⟨p.ID,l[k].ID⟩ <;> rfl
    rw [e]
    exact ⟨by simp [gU,gd],by simp;omega⟩
   | some r =>
    show Option.bind (Option.bind (gd true (some (lI plan l imp ⟨p.ID,l[k].ID⟩))) _) _=_∧_
    rw [cI,be]
    cases lI plan l imp ⟨p.ID,l[k].ID⟩
    ·exact ⟨by simp [gU],by simp;omega⟩
    show Option.bind (Option.bind (app 112 t [_]) _) _=_∧_
    rw [cX (by simp;omega) (by simp;omega)]
    exact ⟨rfl,by simp;omega⟩
  rw [Ay (fun a=>(nA plan l imp p a).map vV)]
  congr 2
  rw [List.map_filterMap]
 refine (cB (l:=plan) (by omega) (fun i (s:List Zj)=>(s,i)) (fun s p=>s++(l.filterMap (nA plan l imp p)).map vV) (fun s=>s) (fun k t=>t.length≤1000*k) [] (by simp) (fun k hk t ht=>?_) (fun t _=>by simp only [cP,bu])).1.trans ?_
 ·simp only [iq hk,bQ,aU hk,be,bP hk (show plan.length≤4611686018427387904 by omega)]
  have hin:=inner plan[k] t (by omega)
  have e:∀ {α β:Type} (x:Option α) (z:α) (K:α→Option β),Option.bind x (fun t=>some t)=some z→Option.bind x K=K z:=by
   intro α β x z K h
   cases x with
   | none=>cases h
   | some y=>injection h with h;rw [h];rfl
  refine ⟨e _ _ _ hin,?_⟩
  have:=List.length_filterMap_le (nA plan l imp plan[k]) l
  simp;omega
 have key:∀ (q:List Zc) (s:List Zj),q.foldl (fun s p=>s++(l.filterMap (nA plan l imp p)).map vV) s=s++(q.flatMap fun p=>l.filterMap (nA plan l imp p)).map vV:=by
  intro q
  induction q with
  | nil=>intro s;simp
  | cons p q ih=>intro s;rw [List.foldl_cons,ih,List.flatMap_cons,List.map_append,List.append_assoc]
 rw [key,List.nil_append];rfl
theorem DA:gw=kg:=rfl
theorem BH {plan:List Zc} {l:List Zb} (hv:VPs plan) (hl:VAs l) {imp:ByteArray} {g:Goal} (hg:g∈dh plan l imp) (known:List Za) (hk:known.length≤100000) (ps:List Zf) (hps:ps.length≤100000) :
    fO (vV g) plan l imp known ps=some ((ft plan l imp (bc known) g).isSome,known,ps++((ft plan l imp (bc known) g).map qg).toList):=by
  unfold fO
  have hf:=vQ hg
  have hr:=xB hl hg
  rw [DA,Dx hv hl imp _ known (by omega),be]
  unfold xq vV
  dsimp only
  rw [hf.1]
  simp only [bQ]
  rw [yF (vN hv imp g.1 _ hf.2) hr.1 hr.2.1 hr.2.2,be]
  unfold ft
  cases hw:kq (qb plan l imp g.1 (bc known)) g.2 with
  | none=>simp [gU]
  | some w =>
    show Option.bind (cond true (Option.bind (app 64 ps [_]) _) _) _=_
    rw [bQ,cX (by simp;omega) (by simp;omega)];rfl
theorem BI {plan:List Zc} {l:List Zb} (hv:VPs plan) (hl:VAs l) {imp:ByteArray} (o:List Goal) (ho:∀ g∈o,g∈dh plan l imp) (ps:List Prf) (hlen:ps.length+o.length≤64000) {β:Type} (K:List Zj×List Zf×List Za→Option β) :
    Option.bind (aW (S:=(List Zj)×Int×(List Zf)×(List Za)) (T:=((List Zj)×(List Zf)×(List Za))) (fun (l27,v30,l32,l36)=>cond (decide (v30<((o.map vV).length:Int))) (Option.bind (Option.bind (idx (o.map vV) v30) (fun m68=>Option.bind (fO m68 plan l imp l36 l32) (fun x70=>cond (!x70.1) (Option.bind (app 112 l27 [m68]) (fun l80=>some (l80,x70.2.2,x70.2.1))) (some (l27,x70.2.2,x70.2.1))))) (fun (l58,l62,l66)=>some (.inl (l58,(IntKind.i64.wrap (v30+1)),l62,l66)))) (some (.inr (l27,l32,l36)))) FUEL (([]:List Zj),0,ps.map qg,ps.map fun p:Prf=>p.1)) K =
      K ((o.filter fun g=>(ft plan l imp (bc (ps.map fun p:Prf=>p.1)) g).isNone).map vV,(ps++o.filterMap (ft plan l imp (bc (ps.map fun p:Prf=>p.1)))).map qg,ps.map fun p:Prf=>p.1):=by
  generalize hS:(ps.map fun p:Prf=>p.1)=known
  have hkn:known.length=ps.length:=by rw [← hS,List.length_map]
  have hml:(o.map vV).length=o.length:=List.length_map _
  refine (cB (l:=o.map vV) (by omega) (fun i (s:List Zj×List Zf)=>(s.1,i,s.2,known)) (fun s t=>match ft plan l imp (bc known) (t.claim,t.rule) with | some p=>(s.1,s.2++[qg p]) | none=>(s.1++[t],s.2)) (fun s=>(s.1,s.2,known)) (fun k s=>s.1.length≤k∧s.2.length≤ps.length+k) ([],ps.map qg) ⟨by simp,by simp⟩ (fun k hk s hs=>?_) (fun s _=>by simp only [cP,bu])).1.trans ?_
  · obtain ⟨a,b⟩:=s
    obtain ⟨h1,h2⟩:=hs
    dsimp only at h1 h2 ⊢
    simp only [iq hk,bQ,aU hk,be,bP hk (show (o.map vV).length≤4611686018427387904 by omega)]
    have hk':k<o.length:=by omega
    rw [List.getElem_map,BH hv hl (ho _ (List.getElem_mem hk')) known (by omega) b (by omega),be]
    rw [show ft plan l imp (bc known) ((vV o[k]).claim,(vV o[k]).rule)=ft plan l imp (bc known) o[k] from rfl]
    cases hp:ft plan l imp (bc known) o[k] with
    | none =>
      simp only [Option.isSome_none,Bool.not_false,bQ]
      rw [cX (by simp;omega) (by simp;omega)]
      exact ⟨by simp,by simp;omega,by omega⟩
    | some p =>
      simp only [Option.isSome_some,Bool.not_true,bu]
      exact ⟨rfl,by omega,by simp;omega⟩
  have key:∀ (o:List Goal) (a:List Zj) (b:List Zf),(o.map vV).foldl (fun (s:List Zj×List Zf) t=>match ft plan l imp (bc known) (t.claim,t.rule) with | some p=>(s.1,s.2++[qg p]) | none=>(s.1++[t],s.2)) (a,b)=(a++(o.filter fun g=>(ft plan l imp (bc known) g).isNone).map vV,b++(o.filterMap (ft plan l imp (bc known))).map qg):=by
    intro o
    induction o with
    | nil=>intro a b;simp
    | cons g o ih =>
      intro a b
      rw [List.map_cons,List.foldl_cons,List.filter_cons]
      show List.foldl _ (match ft plan l imp (bc known) g with | some p=>(a,b++[qg p]) | none=>(a++[vV g],b)) _=_
      cases hp:ft plan l imp (bc known) g with
      | none=>rw [List.filterMap_cons_none hp];dsimp only;rw [ih];simp
      | some p=>rw [List.filterMap_cons_some hp];dsimp only;rw [ih];simp
  rw [key,List.nil_append,List.map_append]
def sT (p0:List Zc) (p1:List Zb) (p2:ByteArray):(List Zj)×(List Zf)×(List Za)→Option (((List Zj)×(List Zf)×(List Za))⊕(Unit⊕(List Zf×Int))):=(fun (l13,l15,l19)=>Option.bind (aW (S:=(List Zj)×Int×(List Zf)×(List Za)) (T:=((List Zj)×(List Zf)×(List Za))) (fun (l27,v30,l32,l36)=>cond (decide (v30<(l13.length:Int))) (Option.bind (Option.bind (idx l13 v30) (fun m68=>Option.bind (fO m68 p0 p1 p2 l36 l32) (fun x70=>cond (!x70.1) (Option.bind (app 112 l27 [m68]) (fun l80=>some (l80,x70.2.2,x70.2.1))) (some (l27,x70.2.2,x70.2.1))))) (fun (l58,l62,l66)=>some (.inl (l58,(IntKind.i64.wrap (v30+1)),l62,l66)))) (some (.inr (l27,l32,l36)))) FUEL (([]:List Zj),0,l15,l19)) (fun (l42,l46,l50)=>cond (((l46.length:Nat):Int) == ((l15.length:Nat):Int)) (some (.inr (.inr (l46,(0:Int))))) (Option.bind (sub l46 ((l15.length:Nat):Int) (l46.length:Int)) (fun l85=>Option.bind (aW (S:=Int×(List Za)) (T:=((List Za))) (fun (v86,l88)=>cond (decide (v86<((l46.length - ((l15.length:Nat):Int).toNat:Nat):Int))) (Option.bind (ll v86) (fun u100=>Option.bind (idx l46 (((l15.length:Nat):Int)+v86)) (fun m101=>Option.bind (app 16 l88 [m101.Claim]) (fun l105=>some (.inl ((IntKind.i64.wrap (v86+1)),l105)))))) (some (.inr l88))) FUEL (0,l50)) (fun l96=>some (.inl (l42,l46,l96)))))))
theorem DB (a b:List Zf) (known:List Za) (h:a.length+b.length+known.length≤200000) {β:Type} (K:List Za→Option β) :
    Option.bind (aW (S:=Int×(List Za)) (T:=((List Za))) (fun (v86,l88)=>cond (decide (v86<(((a++b).length - ((a.length:Nat):Int).toNat:Nat):Int))) (Option.bind (ll v86) (fun u100=>Option.bind (idx (a++b) (((a.length:Nat):Int)+v86)) (fun m101=>Option.bind (app 16 l88 [m101.Claim]) (fun l105=>some (.inl ((IntKind.i64.wrap (v86+1)),l105)))))) (some (.inr l88))) FUEL (0,known)) K=K (known++b.map (·.Claim)):=by
  have e:(a++b).length - ((a.length:Nat):Int).toNat=b.length:=by rw [List.length_append];omega
  rw [e]
  refine (cB (l:=b) (by omega) (fun i (s:List Za)=>(i,s)) (fun s p=>s++[p.Claim]) (fun s=>s) (fun k s=>s.length≤known.length+k) known (Nat.le_refl _) (fun k hk s hs=>?_) (fun s _=>by simp only [cP,bu])).1.trans ?_
  · simp only [iq hk,bQ,bP hk (show b.length≤4611686018427387904 by omega)]
    rw [Bw (by omega),be,show ((a.length:Nat):Int)+(k:Int)=((a.length+k:Nat):Int) by omega,aU (show a.length+k<(a++b).length by rw [List.length_append];omega),be,cX (by simp;omega) (by simp;omega),be]
    have e2:(a++b)[a.length+k]'(by rw [List.length_append];omega)=b[k]:=by rw [List.getElem_append_right (by omega)];congr 1;omega
    rw [e2]
    exact ⟨rfl,by simp;omega⟩
  have key:∀ (b:List Zf) (s:List Za),b.foldl (fun s p=>s++[p.Claim]) s=s++b.map (·.Claim):=by
    intro b
    induction b with
    | nil=>intro s;simp
    | cons p b ih=>intro s;rw [List.foldl_cons,ih];simp
  rw [key]
theorem DC (ps:List Prf):(ps.map qg).map (·.Claim)=ps.map fun p:Prf=>p.1:=by rw [List.map_map];rfl
theorem oR {γ π:Type} (f:γ→Option π):∀ o:List γ,(o.filterMap f).length+(o.filter fun g=>(f g).isNone).length=o.length
 | []=>rfl
 | g::o=>by
  have ih:=oR f o
  rw [List.filter_cons]
  cases hf:f g with
  | some p=>rw [List.filterMap_cons_some hf];simp;omega
  | none=>rw [List.filterMap_cons_none hf];simp;omega
theorem Az {plan:List Zc} {l:List Zb} (hv:VPs plan) (hl:VAs l) {imp:ByteArray}:∀ (n:Nat) (o:List Goal) (ps:List Prf) (N:Nat),o.length≤n→n<N→(∀ g∈o,g∈dh plan l imp)→ps.length+o.length≤64000 →
    aW (sT plan l imp) N (o.map vV,ps.map qg,ps.map fun p:Prf=>p.1)=some (.inr ((lJ (fun p:Prf=>p.1) (ft plan l imp) n o ps).map qg,0)):=by
  have step:∀ (o:List Goal) (ps:List Prf),(∀ g∈o,g∈dh plan l imp)→ps.length+o.length≤64000→sT plan l imp (o.map vV,ps.map qg,ps.map fun p:Prf=>p.1)=cond (o.filterMap (ft plan l imp (bc (ps.map fun p:Prf=>p.1)))).isEmpty (some (.inr (.inr (ps.map qg,0))))
      (some (.inl ((o.filter fun g=>(ft plan l imp (bc (ps.map fun p:Prf=>p.1)) g).isNone).map vV,(ps++o.filterMap (ft plan l imp (bc (ps.map fun p:Prf=>p.1)))).map qg,(ps++o.filterMap (ft plan l imp (bc (ps.map fun p:Prf=>p.1)))).map fun p:Prf=>p.1))):=by
    intro o ps ho hlen
    unfold sT
    refine (BI hv hl o ho ps hlen _).trans ?_
    have hnl:=List.length_filterMap_le (ft plan l imp (bc (ps.map fun p:Prf=>p.1))) o
    generalize o.filterMap (ft plan l imp (bc (ps.map fun p:Prf=>p.1)))=new at hnl
    dsimp only
    rw [List.map_append]
    cases hn:new.isEmpty
    · have hne:new≠[]:=fun e=>by rw [e] at hn;cases hn
      have hpos:0<new.length:=List.length_pos_iff.2 hne
      rw [show ((((ps.map qg++new.map qg).length:Nat):Int) == (((ps.map qg).length:Nat):Int))=false from by rw [beq_eq_false_iff_ne];simp;omega]
      simp only [bu]
      rw [nk (by simp) (Nat.le_refl _),be,DB _ _ _ (by simp;omega)]
      rw [DC,← List.map_append,← List.map_append]
    have e:new=[]:=List.isEmpty_iff.1 hn
    subst e
    simp
  intro n
  induction n with
  | zero =>
    intro o ps N ho hN hg hlen
    obtain rfl:o=[]:=List.length_eq_zero_iff.1 (by omega)
    obtain ⟨N,rfl⟩:∃ m,N=m+1:=⟨N - 1,by omega⟩
    rw [lJ,fG,step [] ps hg hlen];rfl
  | succ n ih =>
    intro o ps N ho hN hg hlen
    obtain ⟨N,rfl⟩:∃ m,N=m+1:=⟨N - 1,by omega⟩
    rw [fG,step o ps hg hlen,lJ]
    cases he:(o.filterMap (ft plan l imp (bc (ps.map fun p:Prf=>p.1)))).isEmpty
    · have h1:=si he
      have h2:=oR (ft plan l imp (bc (ps.map fun p:Prf=>p.1))) o
      exact ih _ _ N (by omega) (by omega) (fun g hg'=>hg g (List.mem_filter.1 hg').1) (by rw [List.length_append];omega)
    rfl
theorem BJ {plan:List Zc} {l:List Zb} (hv:VPs plan) (hl:VAs l) {imp:ByteArray} (h1:em plan=some 0) (h2:el l=some 0) (h3:ce imp=some true):eU plan l imp=some ((qf plan l imp).map qg,0):=by
 have hlen:=hv.len
 have hll:=hl.len
 have hg:=sS plan l imp
 have hm:plan.length*l.length≤64*1000:=Nat.mul_le_mul hlen hll
 unfold eU
 rw [h1,be,h2,be,h3,be,BG hv hl,be]
 simp only [bne_self_eq_false,bu,Bool.not_true]
 have key:=Az hv hl (imp:=imp) (dh plan l imp).length (dh plan l imp) [] FUEL (Nat.le_refl _) (by have hf:FUEL=1267650600228229401496703205376:=rfl;omega) (fun g h=>h) (by simp;omega)
 exact (congrArg (fun o=>Option.bind o _) key).trans rfl
abbrev RSt:=(List Zf)×Bool×(List Za)
def vW (s:RSt) (o:Option Prf):RSt:=match o with
 | some p=>(s.1++[qg p],true,iy bL s.2.2 p.1)
 | none=>s
def fZ (s:RSt) (new:List Prf):RSt:=(s.1++new.map qg,s.2.1 || !new.isEmpty,new.foldl (fun t p=>iy bL t p.1) s.2.2)
theorem vX {α:Type} (h:α→Option Prf):∀ (l:List α) (s:RSt),l.foldl (fun s a=>vW s (h a)) s=fZ s (l.filterMap h)
 | [],s=>by simp [fZ]
 | a::l,s=>by
  rw [List.foldl_cons,vX h l]
  cases ha:h a with
  | none=>rw [List.filterMap_cons_none ha];rfl
  | some p=>rw [List.filterMap_cons_some ha];simp [fZ,vW]
theorem BK (s:RSt) (a b:List Prf):fZ (fZ s a) b=fZ s (a++b):=by
 unfold fZ
 rw [List.map_append,List.append_assoc,List.foldl_append]
 dsimp only
 congr 2
 cases a <;> cases b <;> cases s.2.1 <;> rfl
theorem DD (s:RSt) (o:Option Prf):(vW s o).1.length≤s.1.length+1∧(vW s o).2.2.length≤s.2.2.length+1:=by
 cases o with
 | none=>exact ⟨by show s.1.length≤_;omega,by show s.2.2.length≤_;omega⟩
 | some p=>exact ⟨by simp [vW],mQ _ _⟩
theorem vY (s:RSt):∀ (new:List Prf),(fZ s new).1.length≤s.1.length+new.length∧(fZ s new).2.2.length≤s.2.2.length+new.length:=by
 intro new
 refine ⟨by simp [fZ],?_⟩
 show (new.foldl (fun t p=>iy bL t p.1) s.2.2).length≤_
 generalize s.2.2=t
 induction new generalizing t with
 | nil=>simp
 | cons p new ih=>rw [List.foldl_cons,List.length_cons];have:=ih (iy bL t p.1);have:=mQ (lt:=bL) t p.1;omega
theorem ref_one {plan:List Zc} {l:List Zb} (hv:VPs plan) (hl:VAs l) (ha:AscA l) (imp:ByteArray) (set:List Za) (hs:set.length≤1000000) {p:Zc} (hp:p∈plan) {a:Zb} (hal:a∈l) (s:RSt) (h1:s.1.length≤1000000) (h2:s.2.2.length≤1000000) {i j:Int} (hi:idx plan i=some p) (hj:idx l j=some a) :
    Option.bind (idx plan i) (fun m60=>Option.bind (idx l j) (fun m61=>Option.bind (ec set (⟨m60.ID,m61.ID⟩:Za)) (fun x63=>Option.bind (gd (!x63) (dM plan l imp (⟨m60.ID,m61.ID⟩:Za))) (fun x64=>cond (x63||(!x64)) (some (s.1,s.2.1,s.2.2)) (Option.bind (hQ plan l imp (⟨m60.ID,m61.ID⟩:Za) set) (fun x66=>Option.bind (idx l j) (fun m68=>Option.bind (idx plan i) (fun m69=>Option.bind (gp m68 m69.Code) (fun x70=>Option.bind (jh x70.1 x66.1) (fun x72=>cond x72.2 (Option.bind (app 64 s.1 [(⟨(⟨m60.ID,m61.ID⟩:Za),x72.1,x66.2⟩:Zf)]) (fun l76=>Option.bind (fK s.2.2 (⟨m60.ID,m61.ID⟩:Za)) (fun x80=>some (l76,true,x80)))) (some (s.1,s.2.1,s.2.2))))))))))))=some (vW s (kv plan l imp (bc set) p a)):=by
  have hlen:=hv.len
  have hva:=hl.all a hal
  rw [hi,be,hj,be,oN _ _ (by omega),be,Cq _ _ _ _ (by omega) hl]
  unfold kv
  cases hm:bc set ⟨p.ID,a.ID⟩
  · rw [Bool.not_false,cI,be]
    cases hc:lI plan l imp ⟨p.ID,a.ID⟩
    · rfl
    simp only [Bool.not_true,Bool.or_self,bu]
    obtain ⟨r,hr⟩:=Ar hv ha hp hal hc
    have hro:=vP hva hr
    have hf:=xx hc
    rw [FQ hv hl imp _ set (by omega),be,be,be,rq _ _ hva.ok.len,be,hr]
    unfold xq
    rw [hc]
    simp only [bQ]
    rw [show (gU Aa (some r)).1=r from rfl,show (some r).getD Aa=r from rfl,Ax (vN hv imp _ _ hf) hro.2.1 hro.2.2,be]
    unfold ft
    dsimp only
    cases hw:kq (qb plan l imp ⟨p.ID,a.ID⟩ (bc set)) r with
    | none=>rfl
    | some w =>
      show Option.bind (app 64 s.1 [_]) _=_
      rw [cX (by simp;omega) (by simp;omega),be,xk _ _ (by omega)];rfl
  rfl
theorem DE {plan:List Zc} {l:List Zb} (hv:VPs plan) (hl:VAs l) (ha:AscA l) (imp:ByteArray) (set:List Za) (hs:set.length≤100000) (out:List Zf) (h1:out.length≤100000) {β:Type} (K:RSt→Option β) :
    Option.bind (aW (S:=(List Zf)×Bool×(List Za)×Int) (T:=((List Zf)×Bool×(List Za))) (fun (l22,v25,l26,v27)=>cond (decide (v27<(plan.length:Int))) (Option.bind (aW (S:=(List Zf)×Bool×(List Za)×Int) (T:=((List Zf)×Bool×(List Za))) (fun (l38,v41,l42,v43)=>cond (decide (v43<(l.length:Int))) (Option.bind (Option.bind (idx plan v27) (fun m60=>Option.bind (idx l v43) (fun m61=>Option.bind (ec set (⟨m60.ID,m61.ID⟩:Za)) (fun x63=>Option.bind (gd (!x63) (dM plan l imp (⟨m60.ID,m61.ID⟩:Za))) (fun x64=>cond (x63||(!x64)) (some (l38,v41,l42)) (Option.bind (hQ plan l imp (⟨m60.ID,m61.ID⟩:Za) set) (fun x66=>Option.bind (idx l v43) (fun m68=>Option.bind (idx plan v27) (fun m69=>Option.bind (gp m68 m69.Code) (fun x70=>Option.bind (jh x70.1 x66.1) (fun x72=>cond x72.2 (Option.bind (app 64 l38 [(⟨(⟨m60.ID,m61.ID⟩:Za),x72.1,x66.2⟩:Zf)]) (fun l76=>Option.bind (fK l42 (⟨m60.ID,m61.ID⟩:Za)) (fun x80=>some (l76,true,x80)))) (some (l38,v41,l42))))))))))))) (fun (l56,v57,l58)=>some (.inl (l56,v57,l58,(IntKind.i64.wrap (v43+1)))))) (some (.inr (l38,v41,l42)))) FUEL (l22,v25,l26,0)) (fun (l47,v48,l49)=>some (.inl (l47,v48,l49,(IntKind.i64.wrap (v27+1)))))) (some (.inr (l22,v25,l26)))) FUEL (out,false,set,0)) K =
      K (fZ (out,false,set) (plan.flatMap fun p=>l.filterMap fun a=>kv plan l imp (bc set) p a)):=by
  have hlen:=hv.len
  have hll:=hl.len
  refine (cB (l:=plan) (by omega) (fun i (s:RSt)=>(s.1,s.2.1,s.2.2,i)) (fun s p=>fZ s (l.filterMap fun a=>kv plan l imp (bc set) p a)) (fun s=>(s.1,s.2.1,s.2.2)) (fun k s=>s.1.length≤out.length+1000*k∧s.2.2.length≤set.length+1000*k) (out,false,set) ⟨by simp,by simp⟩ (fun k hk s hs=>?_) (fun s _=>by simp only [cP,bu])).1.trans ?_
  · obtain ⟨g1,g2⟩:=hs
    have hfl:=List.length_filterMap_le (fun a=>kv plan l imp (bc set) plan[k] a) l
    have hrl:=vY s (l.filterMap fun a=>kv plan l imp (bc set) plan[k] a)
    refine ⟨?_,by omega,by omega⟩
    simp only [iq hk,bQ,bP hk (show plan.length≤4611686018427387904 by omega)]
    refine (cB (l:=l) (by omega) (fun i (s:RSt)=>(s.1,s.2.1,s.2.2,i)) (fun s a=>vW s (kv plan l imp (bc set) plan[k] a)) (fun s=>(s.1,s.2.1,s.2.2)) (fun j t=>t.1.length≤s.1.length+j∧t.2.2.length≤s.2.2.length+j) s ⟨Nat.le_refl _,Nat.le_refl _⟩ (fun j hj t ht=>?_) (fun t _=>by simp only [cP,bu])).1.trans ?_
    · obtain ⟨t1,t2⟩:=ht
      have hst:=DD t (kv plan l imp (bc set) plan[k] l[j])
      refine ⟨?_,by omega,by omega⟩
      simp only [iq hj,bQ,bP hj (show l.length≤4611686018427387904 by omega)]
      exact (congrArg (fun o=>Option.bind o _) (ref_one hv hl ha imp set (by omega) (List.getElem_mem hk) (List.getElem_mem hj) t (by omega) (by omega) (aU hk) (aU hj))).trans rfl
    rw [vX (fun a=>kv plan l imp (bc set) plan[k] a)]
  have key:∀ (q:List Zc) (s:RSt),q.foldl (fun s p=>fZ s (l.filterMap fun a=>kv plan l imp (bc set) p a)) s=fZ s (q.flatMap fun p=>l.filterMap fun a=>kv plan l imp (bc set) p a):=by
    intro q
    induction q with
    | nil=>intro s;simp [fZ]
    | cons p q ih=>intro s;rw [List.foldl_cons,ih,List.flatMap_cons,BK]
  rw [key]
section
variable {γ δ π:Type} [DecidableEq δ] {gc:γ→δ} {cl:π→δ} {pv:(δ→Bool)→γ→Option π}
theorem CH (G:List γ) (ps:List π):(G.filter fun g => !bc (ps.map cl) (gc g)).filterMap (pv (bc (ps.map cl)))=G.filterMap fun g=>cond (bc (ps.map cl) (gc g)) none (pv (bc (ps.map cl)) g):=by
    generalize pv (bc (ps.map cl))=f
    generalize bc (ps.map cl)=m
    induction G with
    | nil=>rfl
    | cons g G ihG =>
      rw [List.filter_cons]
      cases hm:m (gc g)
      · simp only [Bool.not_false,if_true,List.filterMap_cons,ihG,hm,bu]
      simp only [Bool.not_true,Bool.false_eq_true,if_false,List.filterMap_cons,ihG,hm,bQ]
theorem FW (hcl:∀ S g p,pv S g=some p→cl p=gc g) {G:List γ} (inj:∀ g∈G,∀ g'∈G,gc g=gc g'→g=g') (ps:List π):((G.filter fun g => !bc (ps.map cl) (gc g)).filter fun g=>(pv (bc (ps.map cl)) g).isNone)=G.filter fun g => !bc ((ps++G.filterMap fun g=>cond (bc (ps.map cl) (gc g)) none (pv (bc (ps.map cl)) g)).map cl) (gc g):=by
    rw [List.filter_filter]
    refine List.filter_congr fun g hg=>?_
    cases hm:bc (ps.map cl) (gc g)
    · cases hp:pv (bc (ps.map cl)) g with
      | none =>
        cases hq:bc ((ps++G.filterMap fun g=>cond (bc (ps.map cl) (gc g)) none (pv (bc (ps.map cl)) g)).map cl) (gc g)
        · rfl
        · obtain ⟨p,k1,k2⟩:=jq.1 hq
          rcases List.mem_append.1 k1 with k1 | k1
          · rw [jq.2 ⟨p,k1,k2⟩] at hm;cases hm
          · obtain ⟨g',hg',he⟩:=List.mem_filterMap.1 k1
            cases hm':bc (ps.map cl) (gc g')
            · rw [hm'] at he
              have:=inj g' hg' g hg ((hcl _ _ _ he).symm.trans k2)
              subst this
              rw [bu,hp] at he;cases he
            · rw [hm'] at he;cases he
      | some p =>
        have:bc ((ps++G.filterMap fun g=>cond (bc (ps.map cl) (gc g)) none (pv (bc (ps.map cl)) g)).map cl) (gc g)=true:=jq.2 ⟨p,List.mem_append.2 (.inr (List.mem_filterMap.2 ⟨g,hg,by rw [hm];exact hp⟩)),hcl _ _ _ hp⟩
        rw [this];rfl
    have:bc ((ps++G.filterMap fun g=>cond (bc (ps.map cl) (gc g)) none (pv (bc (ps.map cl)) g)).map cl) (gc g)=true:=by
      obtain ⟨p,k1,k2⟩:=jq.1 hm
      exact jq.2 ⟨p,List.mem_append.2 (.inl k1),k2⟩
    rw [this]
    cases (pv (bc (ps.map cl)) g).isNone <;> rfl
end
theorem BL {plan:List Zc} {l:List Zb} (hv:VPs plan) (hl:VAs l) (ha:AscA l) (imp:ByteArray) {body:(List Zf)×(List Za)×Bool→Option (((List Zf)×(List Za)×Bool)⊕(List Zf))}
    (hb:∀ (out:List Zf) (set:List Za) (more:Bool),out.length≤100000→set.length≤100000→body (out,set,more)=cond more (some (.inl ((fZ (out,false,set) (plan.flatMap fun p=>l.filterMap fun a=>kv plan l imp (bc set) p a)).1,(fZ (out,false,set) (plan.flatMap fun p=>l.filterMap fun a=>kv plan l imp (bc set) p a)).2.2,(fZ (out,false,set) (plan.flatMap fun p=>l.filterMap fun a=>kv plan l imp (bc set) p a)).2.1))) (some (.inr out))) :
    ∀ (n:Nat) (ps:List Prf) (set:List Za) (N:Nat),((dh plan l imp).filter fun g => !bc (ps.map fun p:Prf=>p.1) g.1).length≤n→n+1<N→(∀ c,bc set c=bc (ps.map fun p:Prf=>p.1) c)→ps.length+((dh plan l imp).filter fun g => !bc (ps.map fun p:Prf=>p.1) g.1).length≤64000→set.length≤ps.length →
      aW body N (ps.map qg,set,true)=some ((jR plan l imp n ps set).map qg):=by
  have hnewE:∀ (ps:List Prf) (set:List Za),(∀ c,bc set c=bc (ps.map fun p:Prf=>p.1) c)→(plan.flatMap fun p=>l.filterMap fun a=>kv plan l imp (bc set) p a)=((dh plan l imp).filter fun g => !bc (ps.map fun p:Prf=>p.1) g.1).filterMap (ft plan l imp (bc (ps.map fun p:Prf=>p.1))):=by
    intro ps set hS
    have hSS:bc set=bc (ps.map fun p:Prf=>p.1):=funext hS
    rw [hSS,← vR hv ha]
    exact (CH (gc:=fun g:Goal=>g.1) (cl:=fun p:Prf=>p.1) (pv:=ft plan l imp) (dh plan l imp) ps).symm
  have hempty:∀ (ps:List Prf) (set:List Za) (N:Nat),ps.length≤64000→set.length≤ps.length→(plan.flatMap fun p=>l.filterMap fun a=>kv plan l imp (bc set) p a)=[]→aW body (N+2) (ps.map qg,set,true)=some (ps.map qg):=by
    intro ps set N h1 h2 h
    have hm:(ps.map qg).length=ps.length:=List.length_map _
    rw [fG,hb _ _ _ (by omega) (by omega),h]
    have e:fZ (ps.map qg,false,set) []=(ps.map qg,false,set):=by simp [fZ]
    rw [e]
    show aW body (N+1) (ps.map qg,set,false)=_
    rw [fG,hb _ _ _ (by omega) (by omega)];rfl
  intro n
  induction n with
  | zero =>
    intro ps set N ho hN hS hlen hset
    obtain ⟨N,rfl⟩:∃ m,N=m+2:=⟨N - 2,by omega⟩
    rw [jR]
    refine hempty ps set N (by omega) hset ?_
    rw [hnewE ps set hS,List.length_eq_zero_iff.1 (Nat.le_zero.1 ho)];rfl
  | succ n ih =>
    intro ps set N ho hN hS hlen hset
    obtain ⟨N,rfl⟩:∃ m,N=m+2:=⟨N - 2,by omega⟩
    rw [jR]
    cases he:(plan.flatMap fun p=>l.filterMap fun a=>kv plan l imp (bc set) p a).isEmpty
    · have hm:(ps.map qg).length=ps.length:=List.length_map _
      rw [fG,hb _ _ _ (by omega) (by omega)]
      have hn:=hnewE ps set hS
      have hrl:=vY (ps.map qg,false,set) (plan.flatMap fun p=>l.filterMap fun a=>kv plan l imp (bc set) p a)
      have hmem:=rx (plan.flatMap fun p=>l.filterMap fun a=>kv plan l imp (bc set) p a) set
      rw [hn] at he hrl hmem ⊢
      have hsh:=si he
      have hsum:=oR (ft plan l imp (bc (ps.map fun p:Prf=>p.1))) ((dh plan l imp).filter fun g => !bc (ps.map fun p:Prf=>p.1) g.1)
      have hop:=FW (gc:=fun g:Goal=>g.1) (cl:=fun p:Prf=>p.1) (pv:=ft plan l imp) (FV plan l imp) (G:=dh plan l imp) (xA (imp:=imp) hv ha) ps
      rw [hop,← CH (gc:=fun g:Goal=>g.1) (cl:=fun p:Prf=>p.1) (pv:=ft plan l imp) (dh plan l imp) ps] at hsh hsum
      generalize ((dh plan l imp).filter fun g => !bc (ps.map fun p:Prf=>p.1) g.1).filterMap (ft plan l imp (bc (ps.map fun p:Prf=>p.1)))=new at *
      have e:fZ (ps.map qg,false,set) new=((ps++new).map qg,true,new.foldl (fun t p=>iy bL t p.1) set):=by unfold fZ;rw [he,List.map_append];rfl
      rw [e]
      rw [e] at hrl
      refine ih (ps++new) _ (N+1) (by omega) (by omega) (fun c=>?_) (by rw [List.length_append];omega) (by rw [List.length_append];exact Nat.le_trans hrl.2 (by dsimp only;omega))
      rw [hmem,hS,List.map_append]
      unfold bc;rw [List.any_append]
    exact hempty ps set N (by omega) hset (List.isEmpty_iff.1 he)
theorem DF {plan:List Zc} {l:List Zb} (hv:VPs plan) (hl:VAs l) (ha:AscA l) {imp:ByteArray} (h1:kK plan=some 0) (h2:fE l=some 0) (h3:dU imp=some true):gr plan l imp=some ((qf plan l imp).map qg,0):=by
 have hlen:=hv.len
 have hll:=hl.len
 have hg:=sS plan l imp
 have hm:plan.length*l.length≤64*1000:=Nat.mul_le_mul hlen hll
 unfold gr
 rw [h1,be,h2,be,h3,be]
 simp only [bne_self_eq_false,bu,Bool.not_true]
 have hfl:=List.length_filter_le (fun g:Goal => !bc (([]:List Prf).map fun p:Prf=>p.1) g.1) (dh plan l imp)
 refine (congrArg (fun o=>Option.bind o _) (BL hv hl ha imp (fun out set more k1 k2=>?_) (dh plan l imp).length [] [] FUEL hfl (by have hf:FUEL=1267650600228229401496703205376:=rfl;omega) (fun c=>rfl) (by simp only [List.length_nil];omega) (Nat.le_refl _))).trans ?_
 ·cases more
  ·rfl
  exact (DE hv hl ha imp set k2 out k1 _).trans rfl
 show some ((jR plan l imp (dh plan l imp).length [] []).map qg,(0:Int))=_
 rw [ua hv ha]
theorem xC {α T:Type}:∀ (m:List α) (i:Nat),bW (fun (_:Nat) (_:α)=>(none:Option T)) m i=none
 | [],_=>rfl
 | _::m,i=>xC m (i+1)
theorem DG (l:List Zc) (x:Zg) (hl:l.length≤140737488355328):bE l (fun y=>cC y x)=some (cj l x.Product).isSome:=by
 unfold bE
 have e:bO l (fun y=>cC y x)=some (match bW (fun k p=>cond (p.ID == x.Product) (some (Sum.inr (k:Int):Unit⊕Int)) none) l 0 with | some (.inr k)=>k | _ => -1):=by
  unfold bO
  refine (bM (l:=l) (by omega) (fun k (p:Zc)=>cond (p.ID == x.Product) (some (.inr (k:Int))) none) (.inl ()) (fun k hk=>?_) (by simp only [cP,bu])).trans ?_
  ·simp only [iq hk,bQ,aU hk,be,bP hk (show l.length≤4611686018427387904 by omega)]
   unfold cC
   rw [be];cases (l[k].ID == x.Product) <;> rfl
  cases bW (fun k (p:Zc)=>cond (p.ID == x.Product) (some (Sum.inr (k:Int):Unit⊕Int)) none) l 0 with
  | none=>rfl
  | some t=>cases t <;> rfl
 rw [e,be]
 unfold cj
 rcases pZ (fun p:Zc=>p.ID == x.Product) (fun k=>(Sum.inr (k:Int):Unit⊕Int)) l 0 with ⟨h1,h2⟩ | ⟨j,hj,h1,h2⟩
 ·rw [h1,h2];rfl
 rw [h1,h2]
 show some (decide (0≤((0+j:Nat):Int)))=_
 rw [det (by omega)];rfl
structure VIds (l:List Zc):Prop where
 id:∀ p∈l,1≤p.ID∧p.ID≤1000000
 lvl:∀ p∈l,cM p.Code=6∨cM p.Code=8
theorem DH {plan:List Zc} {p:Zc} (hp:VProd plan p):StrsOk p.Processes:=by
 obtain ⟨h1,h2,_⟩:=ko hp.proc
 exact ⟨by omega,fun s hs=>by have:=vM (h2 s hs);omega⟩
theorem MPs.vids {l:List Zc} (h:MPs l):VIds l:=by
 have hlen:=h.len
 refine ⟨fun p hp=>?_,fun p hp=>?_⟩
 ·obtain ⟨i,hi,rfl⟩:=List.getElem_of_mem hp
  have:=(h.all i _ (List.getElem?_eq_getElem hi)).id;omega
 obtain ⟨i,hi,rfl⟩:=List.getElem_of_mem hp
 exact (h.all i _ (List.getElem?_eq_getElem hi)).lvl.1
theorem DI (l:List ByteArray) (hl:StrsOk l):jK l=some (hU l):=by
 obtain ⟨hl,hs⟩:=hl
 unfold jK hU
 refine (bM (l:=l) (by omega) (fun k x=>cond (mV gW l k x) none (some (.inr false))) (.inl ()) (fun k hk=>?_) (by simp only [cP,bu])).trans ?_
 ·have h62:l.length≤4611686018427387904:=by omega
  simp only [iq hk,bQ,aU hk,be,zV _ (hs _ (List.getElem_mem hk)),Ce,bP hk h62,mV]
  cases hw:gW l[k]
  ·rfl
  by_cases h0:0<k
  ·simp only [h0,decide_true,Bool.not_true,Bool.not_false,Bool.and_true,Bool.true_and,Bool.false_or,cI,gi h0 hk h62,be,dF (show k - 1<l.length by omega),iM]
   cases Op.bytesLess (l[k-1]'(by omega)).toList l[k].toList <;> rfl
  simp only [h0,decide_false,Bool.and_false,iC,be,Bool.not_true,Bool.false_or,Bool.false_and,bu,Bool.not_false,Bool.true_and,Bool.true_or,Bool.or_false];rfl
 rw [ms]
 have i2:decide ((l.length:Int)≤(8:Int))=decide (l.length≤8):=decide_eq_decide.2 (by omega)
 cases (l.all gW&&ku iM l)
 ·simp
 simp [i2]
theorem FX {s:ByteArray} (h:cM s=6∨cM s=8):s.size≤8:=by
 unfold cM at h
 split at h
 ·omega
 omega
theorem CI:lx=some true:=by kernel_rfl
theorem FY (x:List Zf) (hx:x.length≤140737488355328) (hp:∀ p∈x,p.Path.length≤140737488355328∧p.Premises.length≤140737488355328):kO x x=some true:=by
 unfold kO
 simp only [bne_self_eq_false,bu]
 refine (bM (l:=x) (by omega) (fun _ _=>none) (.inl ()) (fun k hk=>?_) (by simp only [cP,bu])).trans ?_
 ·obtain ⟨g1,g2⟩:=hp _ (List.getElem_mem hk)
  simp only [iq hk,bQ,aU hk,be,bP hk (show x.length≤4611686018427387904 by omega)]
  rw [Za.eqb_iff.2 rfl]
  simp only [Bool.not_true,Bool.not_false,cI,be]
  rw [Ab _ _ g1,be,det rfl]
  simp only [Bool.not_true,Bool.not_false,cI,be,Bool.or_self]
  rw [wB _ _ g2,be,det rfl];rfl
 rw [xC];rfl
theorem AA {plan:List Zc} {l:List Zb} (hv:VPs plan) (hl:VAs l) (ha:AscA l) (imp:ByteArray):(qf plan l imp).length≤64000∧∀ p∈qf plan l imp,p.2.1.length≤1000∧p.2.2.length≤64:=by
 have hg:=sS plan l imp
 have hm:plan.length*l.length≤64*1000:=Nat.mul_le_mul hv.len hl.len
 have key:∀ (n:Nat) (o:List Goal) (ps:List Prf),(∀ g∈o,g∈dh plan l imp)→(∀ p∈ps,p.2.1.length≤1000∧p.2.2.length≤64)→(lJ (fun p:Prf=>p.1) (ft plan l imp) n o ps).length≤ps.length+o.length∧∀ p∈lJ (fun p:Prf=>p.1) (ft plan l imp) n o ps,p.2.1.length≤1000∧p.2.2.length≤64:=by
  intro n
  induction n with
  | zero=>intro o ps _ h;exact ⟨by rw [lJ];omega,by rw [lJ];exact h⟩
  | succ n ih =>
   intro o ps ho h
   rw [lJ]
   have hs:=oR (ft plan l imp (bc (ps.map fun p:Prf=>p.1))) o
   cases (o.filterMap (ft plan l imp (bc (ps.map fun p:Prf=>p.1)))).isEmpty
   ·obtain ⟨i1,i2⟩:=ih (o.filter fun g=>(ft plan l imp (bc (ps.map fun p:Prf=>p.1)) g).isNone) (ps++o.filterMap (ft plan l imp (bc (ps.map fun p:Prf=>p.1)))) (fun g hg=>ho g (List.mem_filter.1 hg).1) (fun p hp=>by
     rcases List.mem_append.1 hp with hp | hp
     ·exact h p hp
     obtain ⟨g,k1,k2⟩:=List.mem_filterMap.1 hp
     have hr:=xB hl (ho g k1)
     unfold ft at k2
     cases hw:kq (qb plan l imp g.1 (bc (ps.map fun p:Prf=>p.1))) g.2 with
     | none=>rw [hw] at k2;cases k2
     | some w =>
      rw [hw,Option.map_some] at k2
      injection k2 with k2
      subst k2
      exact ⟨by have:=sf _ _ w hw;dsimp only;omega,FS hv imp g.1 _ (vQ (ho g k1)).2⟩)
    exact ⟨by rw [List.length_append] at i1;simp only [bu];omega,i2⟩
   ·exact ⟨by simp only [bQ];omega,h⟩
 obtain ⟨k1,k2⟩:=key (dh plan l imp).length (dh plan l imp) [] (fun g h=>h) (fun p hp=>by cases hp)
 exact ⟨by unfold qf;simp only [List.length_nil] at k1;omega,k2⟩




structure POk (p:Zc):Prop where
 code:p.Code.size≤140737488355328
 proc:StrsOk p.Processes
 len:p.Inputs.length≤140737488355328
structure PSOk (l:List Zc):Prop where
 len:l.length≤140737488355328
 all:∀ p∈l,POk p
def CJ (plan:List Zc) (l:List Zg) (k:Nat) (x:Zg):Option Int :=
 cond (decide (0<k)&&decide (x.Product≤(l.getD (k - 1) x).Product)) (some 9) (cond (cj plan x.Product).isSome (cond (decide (x.Value<0)||decide (1000000000000<x.Value)) (some 2) none) (some 6))
def yJ (plan:List Zc) (l:List Zg):Int:=(bW (CJ plan l) l 0).getD 0
def ng (p:Zc):Int:=cond (decide (6≤cM p.Code)&&(ml p.Country&&hU p.Processes)) (cond (decide (p.Price<1)||decide (1000000000000<p.Price)) 2 (cond (decide (8<p.Inputs.length)) 8 (cond (p.Obtained && !p.Inputs.isEmpty) 1 0))) 1
def qN (plan:List Zc) (k:Nat) (p:Zc):Option Int :=
 cond (decide (p.ID<1)||decide (1000000<p.ID)) (some 2) (cond (decide (0<k)&&decide (p.ID≤(plan.getD (k - 1) p).ID)) (some 9) (cond (ng p == 0) (cond (yJ plan p.Inputs == 0) none (some (yJ plan p.Inputs))) (some (ng p))))
def nX (plan:List Zc):Int:=cond (decide (plan.length≤64)) ((bW (qN plan) plan 0).getD 0) 8
theorem vZ (s:ByteArray):cM s=0∨cM s=2∨cM s=4∨cM s=6∨cM s=8:=by
 unfold cM
 split
 ·rename_i h;omega
 exact .inl rfl
theorem DJ (s:ByteArray):((cM s != 6)&&(cM s != 8)) = !decide (6≤cM s):=by
 rcases vZ s with h | h | h | h | h <;> rw [h] <;> rfl
theorem FZ (plan:List Zc) (l:List Zg) (hp:plan.length≤140737488355328) (hl:l.length≤140737488355328):dn plan l=some (yJ plan l):=by
 unfold dn yJ
 have h62:l.length≤4611686018427387904:=by omega
 refine (bM (l:=l) h62 (fun k x=>(CJ plan l k x).map .inr) (.inl ()) (fun k hk=>?_) (by simp only [cP,bu])).trans ?_
 ·simp only [iq hk,bQ,aU hk,be,bP hk h62,Ce,CJ,DG _ _ hp]
  by_cases h0:0<k
  ·simp only [h0,decide_true,Bool.true_and,cI,gi h0 hk h62,be,dF (show k - 1<l.length by omega)]
   cases decide (l[k].Product≤(l[k-1]'(by omega)).Product)
   ·cases (cj plan l[k].Product).isSome
    ·rfl
    cases (decide (l[k].Value<0)||decide (1000000000000<l[k].Value)) <;> rfl
   rfl
  simp only [h0,decide_false,Bool.false_and,iC,be,bu]
  cases (cj plan l[k].Product).isSome
  ·rfl
  cases (decide (l[k].Value<0)||decide (1000000000000<l[k].Value)) <;> rfl
 rw [jP]
 cases bW (CJ plan l) l 0 <;> rfl
theorem len_pos {α:Type} (l:List α):decide (0<l.length) = !l.isEmpty:=by cases l <;> rfl
theorem BM (p:Zc) (hp:POk p):dg p=some (ng p):=by
 unfold dg ng
 have e8:decide ((8:Int)<(p.Inputs.length:Int))=decide (8<p.Inputs.length):=decide_eq_decide.2 (by omega)
 show Option.bind (some (cM p.Code)) _=_
 rw [be,DJ,e8]
 cases decide (6≤cM p.Code)
 ·rfl
 simp only [Bool.not_true,Bool.not_false,cI,Bool.true_and,ld,be,Bool.false_or]
 cases ml p.Country
 ·rfl
 simp only [Bool.not_true,Bool.not_false,cI,rp _ hp.proc,be,Bool.true_and,Bool.false_or]
 cases hU p.Processes
 ·rfl
 simp only [Bool.not_true,bu,bQ]
 cases (decide (p.Price<1)||decide (1000000000000<p.Price))
 ·simp only [bu]
  cases decide (8<p.Inputs.length)
  ·simp only [bu,len0']
   cases (p.Obtained && !p.Inputs.isEmpty) <;> rfl
  rfl
 rfl
theorem BN (plan:List Zc) (h:PSOk plan):em plan=some (nX plan):=by
 unfold em nX
 have h62:plan.length≤4611686018427387904:=by have:=h.len;omega
 have i1:decide ((64:Int)<(plan.length:Int)) = !decide (plan.length≤64):=by rw [← decide_not];exact decide_eq_decide.2 (by omega)
 rw [i1]
 cases decide (plan.length≤64)
 ·rfl
 simp only [Bool.not_true,bu,bQ]
 refine (bM (l:=plan) h62 (fun k x=>(qN plan k x).map .inr) (.inl ()) (fun k hk=>?_) (by simp only [cP,bu])).trans ?_
 ·have ha:=h.all _ (List.getElem_mem hk)
  simp only [iq hk,bQ,aU hk,be,bP hk h62,Ce,qN,BM _ ha,FZ _ _ h.len ha.len]
  cases (decide (plan[k].ID<1)||decide (1000000<plan[k].ID))
  ·by_cases h0:0<k
   ·simp only [h0,decide_true,Bool.true_and,cI,gi h0 hk h62,be,dF (show k - 1<plan.length by omega),bu]
    cases decide (plan[k].ID≤(plan[k-1]'(by omega)).ID)
    ·simp only [bu,bne]
     cases hz:(ng plan[k] == 0)
     ·simp [qz]
     simp only [bQ,Bool.not_true,bu]
     cases hy:(yJ plan plan[k].Inputs == 0) <;> simp [qz]
    rfl
   simp only [h0,decide_false,Bool.false_and,iC,be,bu,bne]
   cases hz:(ng plan[k] == 0)
   ·simp [qz]
   simp only [bQ,Bool.not_true,bu]
   cases hy:(yJ plan plan[k].Inputs == 0) <;> simp [qz]
  rfl
 rw [jP]
 cases bW (qN plan) plan 0 <;> rfl
theorem lA {α T:Type} (g:Nat→α→Option T):∀ (l:List α) (i:Nat),bW g l i=none→∀ k,(h:k<l.length)→g (i+k) l[k]=none
 | [],_,_,k,h=>absurd h (by simp)
 | x::l,i,e,k,h=>by
  rw [bW] at e
  cases hg:g i x with
  | some t=>rw [hg] at e;cases e
  | none =>
   rw [hg] at e
   cases k with
   | zero=>exact hg
   | succ k=>have:=lA g l (i+1) e k (by simpa using h);rw [show i+(k+1)=i+1+k by omega];exact this
theorem kT {α:Type} (g:Nat→α→Option Int) (hg:∀ k x,g k x≠some 0):∀ (l:List α) (i:Nat),(bW g l i).getD 0=0→bW g l i=none
 | [],_,_=>rfl
 | x::l,i,e=>by
  rw [bW] at e ⊢
  cases hx:g i x with
  | some t =>
   rw [hx] at e
   have:t=0:=e
   subst this
   exact absurd hx (hg i x)
  | none=>rw [hx] at e;exact kT g hg l (i+1) e
theorem sU {α:Type} {f:α→Int} {l:List α} (h:∀ k,(hk:k<l.length)→0<k→f (l[k - 1]'(by omega))<f l[k]):l.Pairwise fun a b=>f a<f b:=by
 rw [List.pairwise_iff_getElem]
 intro i j hi hj hij
 induction j with
 | zero=>omega
 | succ j ih =>
  have h1:=h (j+1) hj (by omega)
  simp only [Nat.add_sub_cancel] at h1
  by_cases e:i=j
  ·subst e;exact h1
  have:=ih (by omega) (by omega);omega
theorem F0 (plan:List Zc) (l:List Zg) (k:Nat) (x:Zg):CJ plan l k x≠some 0:=by
 unfold CJ
 cases (decide (0<k)&&decide (x.Product≤(l.getD (k - 1) x).Product))
 ·cases (cj plan x.Product).isSome
  ·simp
  cases (decide (x.Value<0)||decide (1000000000000<x.Value)) <;> simp
 simp
theorem F1 {plan:List Zc} {l:List Zg} (h:yJ plan l=0):(l.Pairwise fun a b=>a.Product<b.Product)∧∀ x∈l,(cj plan x.Product).isSome=true∧0≤x.Value∧x.Value≤1000000000000:=by
 have hn:=lA _ _ _ (kT _ (F0 plan l) l 0 h)
 have key:∀ k,(hk:k<l.length)→(0<k→(l[k - 1]'(by omega)).Product<l[k].Product)∧(cj plan l[k].Product).isSome=true∧0≤l[k].Value∧l[k].Value≤1000000000000:=by
  intro k hk
  have h1:=hn k hk
  rw [Nat.zero_add] at h1
  unfold CJ at h1
  cases h2:(decide (0<k)&&decide (l[k].Product≤(l.getD (k - 1) l[k]).Product)) with
  | true=>rw [h2] at h1;cases h1
  | false =>
   rw [h2,bu] at h1
   cases h3:(cj plan l[k].Product).isSome with
   | false=>rw [h3] at h1;cases h1
   | true =>
    rw [h3,bQ] at h1
    cases h4:(decide (l[k].Value<0)||decide (1000000000000<l[k].Value)) with
    | true=>rw [h4] at h1;cases h1
    | false =>
     simp only [Bool.or_eq_false_iff,decide_eq_false_iff_not] at h4
     refine ⟨fun h0=>?_,rfl,by omega,by omega⟩
     rw [det h0,Bool.true_and,decide_eq_false_iff_not,dF (show k - 1<l.length by omega)] at h2
     omega
 refine ⟨sU fun k hk h0=>(key k hk).1 h0,fun x hx=>?_⟩
 obtain ⟨k,hk,rfl⟩:=List.getElem_of_mem hx
 exact (key k hk).2
theorem wa {p:Zc} (h:ng p=0):(cM p.Code=6∨cM p.Code=8)∧ml p.Country=true∧hU p.Processes=true∧(1≤p.Price∧p.Price≤1000000000000)∧p.Inputs.length≤8∧(p.Obtained=true→p.Inputs=[]):=by
 unfold ng at h
 cases h1:(decide (6≤cM p.Code)&&(ml p.Country&&hU p.Processes)) with
 | false=>rw [h1] at h;cases h
 | true =>
  rw [h1,bQ] at h
  cases h2:(decide (p.Price<1)||decide (1000000000000<p.Price)) with
  | true=>rw [h2] at h;cases h
  | false =>
   rw [h2,bu] at h
   cases h3:decide (8<p.Inputs.length) with
   | true=>rw [h3] at h;cases h
   | false =>
    rw [h3,bu] at h
    cases h4:(p.Obtained && !p.Inputs.isEmpty) with
    | true=>rw [h4] at h;cases h
    | false =>
     simp only [Bool.and_eq_true,decide_eq_true_eq] at h1
     simp only [Bool.or_eq_false_iff,decide_eq_false_iff_not] at h2
     have h3:=of_decide_eq_false h3
     refine ⟨by have:=vZ p.Code;omega,h1.2.1,h1.2.2,by omega,by omega,fun ho=>?_⟩
     rw [ho,Bool.true_and] at h4
     cases hI:p.Inputs with
     | nil=>rfl
     | cons a b=>rw [hI] at h4;cases h4
theorem F2 (plan:List Zc) (k:Nat) (p:Zc):qN plan k p≠some 0:=by
 unfold qN
 cases (decide (p.ID<1)||decide (1000000<p.ID))
 ·cases (decide (0<k)&&decide (p.ID≤(plan.getD (k - 1) p).ID))
  ·cases hz:(ng p == 0)
   ·simp only [bu];intro h;injection h with h;rw [h] at hz;cases hz
   cases hy:(yJ plan p.Inputs == 0)
   ·simp only [bu,bQ];intro h;injection h with h;rw [h] at hy;cases hy
   simp
  simp
 simp
theorem BO {plan:List Zc} (h:nX plan=0):VPs plan∧VIds plan:=by
 unfold nX at h
 cases hl:decide (plan.length≤64) with
 | false=>rw [hl] at h;cases h
 | true =>
  rw [hl,bQ] at h
  have hl:=of_decide_eq_true hl
  have hn:=lA _ _ _ (kT _ (F2 plan) plan 0 h)
  have key:∀ k,(hk:k<plan.length)→(0<k→(plan[k - 1]'(by omega)).ID<plan[k].ID)∧(1≤plan[k].ID∧plan[k].ID≤1000000)∧ng plan[k]=0∧yJ plan plan[k].Inputs=0:=by
   intro k hk
   have h1:=hn k hk
   rw [Nat.zero_add] at h1
   unfold qN at h1
   cases h2:(decide (plan[k].ID<1)||decide (1000000<plan[k].ID)) with
   | true=>rw [h2] at h1;cases h1
   | false =>
    rw [h2,bu] at h1
    cases h3:(decide (0<k)&&decide (plan[k].ID≤(plan.getD (k - 1) plan[k]).ID)) with
    | true=>rw [h3] at h1;cases h1
    | false =>
     rw [h3,bu] at h1
     cases h4:(ng plan[k] == 0) with
     | false=>rw [h4] at h1;cases h1
     | true =>
      rw [h4,bQ] at h1
      cases h5:(yJ plan plan[k].Inputs == 0) with
      | false=>rw [h5] at h1;cases h1
      | true =>
       simp only [Bool.or_eq_false_iff,decide_eq_false_iff_not] at h2
       refine ⟨fun h0=>?_,by omega,by simpa using h4,by simpa using h5⟩
       rw [det h0,Bool.true_and,decide_eq_false_iff_not,dF (show k - 1<plan.length by omega)] at h3
       omega
  refine ⟨⟨hl,sU fun k hk h0=>(key k hk).1 h0,fun p hp=>?_⟩,⟨fun p hp=>?_,fun p hp=>?_⟩⟩
  ·obtain ⟨k,hk,rfl⟩:=List.getElem_of_mem hp
   obtain ⟨_,_,h3,h4⟩:=key k hk
   obtain ⟨a1,a2,a3,a4,a5,a6⟩:=wa h3
   obtain ⟨b1,b2⟩:=F1 h4
   exact ⟨a4,by omega,a2,a3,a5,b1,b2,a6⟩
  ·obtain ⟨k,hk,rfl⟩:=List.getElem_of_mem hp
   exact (key k hk).2.1
  obtain ⟨k,hk,rfl⟩:=List.getElem_of_mem hp
  exact (wa (key k hk).2.2.1).1
theorem ref_inE (plan:List Zc) (l:List Zg) (hp:plan.length≤140737488355328) (hl:l.length≤140737488355328) {β:Type} (K:Unit⊕(Int⊕(Unit⊕Int))→Option β) :
    Option.bind (aW (S:=Int) (T:=(Unit)⊕(Int⊕(Unit⊕Int))) (fun v18=>cond (decide (v18<(l.length:Int))) (Option.bind (gd (decide (0<v18)) (idx l v18)) (fun m22=>Option.bind (gd (decide (0<v18)) (idx l (IntKind.i64.wrap (v18 - 1)))) (fun m23=>cond ((decide (0<v18))&&(decide (m22.Product≤m23.Product))) (some (.inr (.inr (.inr (.inr (9:Int)))))) (Option.bind (idx l v18) (fun m25=>Option.bind (eG plan m25.Product) (fun x26=>cond (!x26.2) (some (.inr (.inr (.inr (.inr (6:Int)))))) (Option.bind (idx l v18) (fun m29=>Option.bind (gd (!(decide (m29.Value<0))) (idx l v18)) (fun m30=>cond ((decide (m29.Value<0))||(decide (1000000000000<m30.Value))) (some (.inr (.inr (.inr (.inr (2:Int)))))) (some (.inl (IntKind.i64.wrap (v18+1))))))))))))) (some (.inr (.inl ())))) FUEL 0) K
    = K (match bW (CJ plan l) l 0 with | none=>.inl () | some e=>.inr (.inr (.inr e))):=by
  have h62:l.length≤4611686018427387904:=by omega
  refine (bM (l:=l) h62 (fun k x=>(CJ plan l k x).map fun e=>.inr (.inr (.inr e))) (.inl ()) (fun k hk=>?_) (by simp only [cP,bu])).trans ?_
  · have hf:eG plan l[k].Product=some (gU Af (cj plan l[k].Product)):=sR _ _ hp
    have hs:(gU Af (cj plan l[k].Product)).2=(cj plan l[k].Product).isSome:=by cases cj plan l[k].Product <;> rfl
    have tl:(cond (!(cj plan l[k].Product).isSome) (some (.inr (.inr (.inr (.inr (6:Int)))))) (Option.bind (gd (!(decide (l[k].Value<0))) (some l[k])) (fun m30=>cond ((decide (l[k].Value<0))||(decide (1000000000000<m30.Value))) (some (.inr (.inr (.inr (.inr (2:Int)))))) (some (.inl ((k+1:Nat):Int))))):Option (Int⊕(Unit⊕(Int⊕(Unit⊕Int)))))=some (qz k ((cond (cj plan l[k].Product).isSome (cond (decide (l[k].Value<0)||decide (1000000000000<l[k].Value)) (some 2) none) (some 6)).map fun e=>.inr (.inr (.inr e)))):=by
      cases (cj plan l[k].Product).isSome
      · rfl
      cases decide (l[k].Value<0)
      · simp only [Bool.not_false,cI,be,Bool.not_true,bu,bQ,Bool.false_or]
        cases decide (1000000000000<l[k].Value) <;> rfl
      rfl
    simp only [iq hk,bQ,aU hk,be,bP hk h62,Ce,CJ,hf,hs]
    by_cases h0:0<k
    · simp only [h0,decide_true,Bool.true_and,cI,gi h0 hk h62,be,dF (show k - 1<l.length by omega)]
      cases decide (l[k].Product≤(l[k-1]'(by omega)).Product)
      · exact tl
      rfl
    simp only [h0,decide_false,Bool.false_and,iC,be,bu]
    exact tl
  rw [jP]
  cases bW (CJ plan l) l 0 <;> rfl
theorem F3 {plan:List Zc} {l:List Zg} {e:Int} (h:bW (CJ plan l) l 0=some e):yJ plan l=e∧(yJ plan l == 0)=false:=by
 have h1:yJ plan l=e:=by unfold yJ;rw [h];rfl
 refine ⟨h1,?_⟩
 cases hz:(yJ plan l == 0) with
 | false=>rfl
 | true =>
  have:=kT _ (F0 plan l) l 0 (beq_iff_eq.1 hz)
  rw [h] at this;cases this
theorem F4 {plan:List Zc} {l:List Zg} (h:bW (CJ plan l) l 0=none):(yJ plan l == 0)=true:=by unfold yJ;rw [h];rfl
theorem DK (plan:List Zc) (h:PSOk plan):kK plan=some (nX plan):=by
 unfold kK nX
 have h62:plan.length≤4611686018427387904:=by have:=h.len;omega
 have i1:decide ((64:Int)<(plan.length:Int)) = !decide (plan.length≤64):=by rw [← decide_not];exact decide_eq_decide.2 (by omega)
 rw [i1]
 cases decide (plan.length≤64)
 ·rfl
 simp only [Bool.not_true,bu,bQ]
 refine (bM (l:=plan) h62 (fun k x=>(qN plan k x).map .inr) (.inl ()) (fun k hk=>?_) (by simp only [cP,bu])).trans ?_
 ·have ha:=h.all _ (List.getElem_mem hk)
  have e8:decide ((8:Int)<(plan[k].Inputs.length:Int))=decide (8<plan[k].Inputs.length):=decide_eq_decide.2 (by omega)
  have e6:decide (cM plan[k].Code<6) = !decide (6≤cM plan[k].Code):=by rw [← decide_not];exact decide_eq_decide.2 (by omega)
  simp only [iq hk,bQ,aU hk,be,bP hk h62,Ce,qN]
  cases (decide (plan[k].ID<1)||decide (1000000<plan[k].ID))
  ·have rest:(Option.bind (fz plan[k].Code) (fun x11=>Option.bind (gd (!(decide (x11<6))) (dU plan[k].Country)) (fun x12=>Option.bind (gd (!((decide (x11<6))||(!x12))) (jK plan[k].Processes)) (fun x13=>cond (((decide (x11<6))||(!x12))||(!x13)) (some (.inr (.inr (1:Int)))) (cond ((decide (plan[k].Price<1))||(decide (1000000000000<plan[k].Price))) (some (.inr (.inr (2:Int)))) (cond (decide (8<(plan[k].Inputs.length:Int))) (some (.inr (.inr (8:Int)))) (cond (plan[k].Obtained&&(decide (0<plan[k].Inputs.length))) (some (.inr (.inr (1:Int)))) (Option.bind (aW (S:=Int) (T:=(Unit)⊕(Int⊕(Unit⊕Int))) (fun v18=>cond (decide (v18<(plan[k].Inputs.length:Int))) (Option.bind (gd (decide (0<v18)) (idx plan[k].Inputs v18)) (fun m22=>Option.bind (gd (decide (0<v18)) (idx plan[k].Inputs (IntKind.i64.wrap (v18 - 1)))) (fun m23=>cond ((decide (0<v18))&&(decide (m22.Product≤m23.Product))) (some (.inr (.inr (.inr (.inr (9:Int)))))) (Option.bind (idx plan[k].Inputs v18) (fun m25=>Option.bind (eG plan m25.Product) (fun x26=>cond (!x26.2) (some (.inr (.inr (.inr (.inr (6:Int)))))) (Option.bind (idx plan[k].Inputs v18) (fun m29=>Option.bind (gd (!(decide (m29.Value<0))) (idx plan[k].Inputs v18)) (fun m30=>cond ((decide (m29.Value<0))||(decide (1000000000000<m30.Value))) (some (.inr (.inr (.inr (.inr (2:Int)))))) (some (.inl (IntKind.i64.wrap (v18+1))))))))))))) (some (.inr (.inl ())))) FUEL 0) (fun q=>match q with | .inl _=>some (.inl ((k+1:Nat):Int)) | .inr e=>some e)))))))):Option (Int⊕(Unit⊕Int)))=some (qz k ((cond (ng plan[k] == 0) (cond (yJ plan plan[k].Inputs == 0) none (some (yJ plan plan[k].Inputs))) (some (ng plan[k]))).map .inr)):=by
    simp only [sM _ ha.code,be,e6,e8,ng,nc,DI _ ha.proc,len_pos]
    cases decide (6≤cM plan[k].Code)
    ·rfl
    simp only [Bool.not_true,Bool.not_false,cI,Bool.true_and,be,Bool.false_or]
    cases ml plan[k].Country
    ·rfl
    simp only [Bool.not_true,Bool.not_false,cI,be,Bool.true_and,Bool.false_or]
    cases hU plan[k].Processes
    ·rfl
    simp only [Bool.not_true,bu,bQ]
    cases (decide (plan[k].Price<1)||decide (1000000000000<plan[k].Price))
    ·simp only [bu]
     cases decide (8<plan[k].Inputs.length)
     ·simp only [bu]
      cases (plan[k].Obtained && !plan[k].Inputs.isEmpty)
      ·refine (ref_inE plan plan[k].Inputs h.len ha.len _).trans ?_
       cases hf:bW (CJ plan plan[k].Inputs) plan[k].Inputs 0 with
       | none=>rw [F4 hf];rfl
       | some e=>obtain ⟨q1,q2⟩:=F3 hf;rw [q2,q1];rfl
      rfl
     rfl
    rfl
   by_cases h0:0<k
   ·simp only [h0,decide_true,Bool.true_and,cI,gi h0 hk h62,be,dF (show k - 1<plan.length by omega),bu]
    cases decide (plan[k].ID≤(plan[k-1]'(by omega)).ID)
    ·exact rest
    rfl
   simp only [h0,decide_false,Bool.false_and,iC,be,bu]
   exact rest
  ·rfl
 rw [jP]
 cases bW (qN plan) plan 0 <;> rfl
theorem gAgr_nz (l:List Zb) (k:Nat) (a:Zb):t6 l k a≠some 0:=by
 unfold t6
 cases (decide (a.ID<1)||decide (1000<a.ID)||decide (a.Kind<1)||decide (3<a.Kind))
 ·cases (decide (0<k)&&decide (a.ID≤(l.getD (k - 1) a).ID))
  ·cases (decide (12<a.Parties.length)||decide (12<a.Rules.length))
   ·cases iO a.Parties
    ·simp
    cases hy:(rulesE a.Rules == 0)
    ·simp only [bu,bQ];intro h;injection h with h;rw [h] at hy;cases hy
    simp
   simp
  simp
 simp
theorem F5 (l:List Zh) (k:Nat) (x:Zh):lP l k x≠some 0:=by
 unfold lP
 cases AE x.Prefix
 ·simp
 cases (decide (0<k) && !iM (l.getD (k - 1) x).Prefix x.Prefix)
 ·cases hy:(kn x.Rule == 0)
  ·simp only [bu,bQ];intro h;injection h with h;rw [h] at hy;cases hy
  simp
 simp
def uIn (id pid:Int) (acc:List Int) (x:Zg):List Int:=cond (x.Product == id) (acc++[pid]) acc
def usersS (plan:List Zc) (id:Int):List Int:=plan.foldl (fun acc p=>p.Inputs.foldl (uIn id p.ID) acc) []
def hitB (plan:List Zc) (id:Int) (r:List Bool) (m:Nat) (u:List Int):Bool:=match plan[m]? with
 | none=>false
 | some p=>((p.ID == id)||r.getD m false)&&u.any fun x=>x == p.ID
def F6 (r:List Bool):Nat:=(r.filter fun b => !b).length
structure PassI (plan:List Zc) (id:Int) (r:List Bool) (k:Nat) (r':List Bool) (ag:Bool):Prop where
 len:r'.length=plan.length
 le:k≤plan.length
 no:ag=false→r'=r∧∀ i,i<k→∀ p,plan[i]?=some p→r.getD i false=true∨∀ m,hitB plan id r m (usersS plan p.ID)=false
 yes:ag=true→F6 r'<F6 r
theorem VIds.sub {l m:List Zc} (h:VIds l) (hs:∀ p∈m,p∈l):VIds m:=⟨fun p hp=>h.id p (hs p hp),fun p hp=>h.lvl p (hs p hp)⟩

structure FMap (ps:List Prf) (k:Nat) (m:List (Za×Int)):Prop where
 get:∀ d,lV m d=match vS ps d with | some i=>cond (decide (i<k)) (some (i:Int)) none | none=>none
structure Zx (x:List Zf) (M:Nat):Prop where
 len:x.length≤100000
 prem:∀ p∈x,p.Premises.length≤M
 path:∀ p∈x,p.Path.length≤1000000000000
 mx:M≤2000000



section
variable {x:Zn} {rec:Zd→List Int→Option (List Int×Bool)}
end

structure XSm (x:List Zf):Prop where
 len:x.length≤1000000
 prem:∀ p∈x,p.Premises.length≤140737488355328

structure PSm (M:Nat) (p:Zf):Prop where
 path:p.Path.length≤M
 prem:p.Premises.length≤M
structure CSm (n M:Nat) (x:List Zf):Prop where
 len:x.length≤n
 all:∀ p∈x,PSm M p

theorem BP (l:List Zb) (hl:l.length≤1000) (h:∀ a∈l,RawA a∧a.Rules.length*112≤140737488355328):Y (eC l) (fun r=>ASOk r∧r.length=l.length):=by
 unfold eC
 rw [gA (by omega) (by omega),be]
 refine Y.bind (Cl (L:=l) (by omega) (fun a=>RawA a∧a.Rules.length*112≤140737488355328) AOk h (fun l k hk hl2 hp=>?_) (fun l hl=>by simp only [cP,bu])) fun r ⟨h1,h2⟩=>Y.ret ⟨⟨by omega,h2⟩,h1⟩
 obtain ⟨hp,hq⟩:=hp
 rw [← hl2]
 simp only [iq hk,bQ,aU hk,be,bP hk (show l.length≤4611686018427387904 by omega)]
 rw [cX (by simp only [List.length_nil];omega) (by simp only [List.length_nil];omega),be,List.nil_append]
 refine Y.bind (Cl (L:=l[k].Rules) (by omega) (fun x=>x.Prefix.size≤140737488355328∧ROk x.Rule) RFOk hp.rules (fun m j hj hm hx=>?_) (fun l hl=>by simp only [cP,bu])) fun m ⟨m1,m2⟩=>Y.ret ⟨(⟨l[k].ID,l[k].Kind,l[k].Parties,m⟩:Zb),⟨hp.par,by dsimp only;omega,m2⟩,by simp⟩
 rw [← hm]
 simp only [iq hj,bQ,aU hj,be,bP hj (show m.length≤4611686018427387904 by omega)]
 refine (Fq 5 FUEL _ (i6 (by omega)) (by omega) hx.2).bind fun x ⟨x1,x2⟩=>Y.ret ⟨(⟨m[j].Prefix,x⟩:Zh),⟨hx.1,x1,by dsimp only;omega⟩,by simp⟩
theorem BQ {κ:Kr} {p:Zc} {ds:List Value} (h:Rps κ (Zc.enc p) ds):POk p :=
 ⟨ul (k:=1) h rfl,yu (k:=5) h rfl,by have:=rY (k:=6) h rfl;simpa using this⟩
theorem AB {κ:Kr} {l:List Zc} {ds:List Value} (h:Rps κ (eL Zc.enc l) ds):PSOk l:=by
 refine ⟨by have:=rY (k:=0) h rfl;simpa using this,fun p hp=>?_⟩
 obtain ⟨ds,hd⟩:=pX (k:=0) h rfl (List.mem_map_of_mem (f:=Zc.enc) hp)
 exact BQ hd
theorem F7 {l:List Zc} (hv:VPs l) (hi:VIds l):PSOk l:=by
 refine ⟨by have:=hv.len;omega,fun p hp=>⟨?_,DH (hv.all p hp),?_⟩⟩
 ·have:=FX (hi.lvl p hp);omega
 have:=(hv.all p hp).few;omega
theorem AC {l:List Zh} (h:rulesE l=0):∀ x∈l,kn x.Rule=0:=by
 intro x hx
 obtain ⟨k,hk,rfl⟩:=List.getElem_of_mem hx
 have:=lA _ _ _ (kT _ (F5 l) l 0 h) k hk
 rw [Nat.zero_add] at this
 unfold lP at this
 cases h1:AE l[k].Prefix with
 | false=>rw [h1] at this;cases this
 | true =>
  rw [h1,bQ] at this
  cases h2:(decide (0<k) && !iM (l.getD (k - 1) l[k]).Prefix l[k].Prefix) with
  | true=>rw [h2] at this;cases this
  | false =>
   rw [h2,bu] at this
   cases h3:(kn l[k].Rule == 0) with
   | true=>exact eq_of_beq h3
   | false=>rw [h3] at this;cases this
theorem DL {l:List Zb} (hok:ASOk l) (h:rT l=0):VAs l∧AscA l:=by
 unfold rT at h
 cases hl:decide (l.length≤8) with
 | false=>rw [hl] at h;cases h
 | true =>
  rw [hl,bQ] at h
  have hl:=of_decide_eq_true hl
  have hn:=lA _ _ _ (kT _ (gAgr_nz l) l 0 h)
  have key:∀ k,(hk:k<l.length)→(0<k→(l[k - 1]'(by omega)).ID<l[k].ID)∧(l[k].Rules.length≤12∧l[k].Parties.length≤12)∧rulesE l[k].Rules=0:=by
   intro k hk
   have h1:=hn k hk
   rw [Nat.zero_add] at h1
   unfold t6 at h1
   cases h2:(decide (l[k].ID<1)||decide (1000<l[k].ID)||decide (l[k].Kind<1)||decide (3<l[k].Kind)) with
   | true=>rw [h2] at h1;cases h1
   | false =>
    rw [h2,bu] at h1
    cases h3:(decide (0<k)&&decide (l[k].ID≤(l.getD (k - 1) l[k]).ID)) with
    | true=>rw [h3] at h1;cases h1
    | false =>
     rw [h3,bu] at h1
     cases h4:(decide (12<l[k].Parties.length)||decide (12<l[k].Rules.length)) with
     | true=>rw [h4] at h1;cases h1
     | false =>
      rw [h4,bu] at h1
      cases h5:iO l[k].Parties with
      | false=>rw [h5] at h1;cases h1
      | true =>
       rw [h5,bQ] at h1
       cases h6:(rulesE l[k].Rules == 0) with
       | false=>rw [h6] at h1;cases h1
       | true =>
        simp only [Bool.or_eq_false_iff,decide_eq_false_iff_not] at h4
        refine ⟨fun h0=>?_,by omega,eq_of_beq h6⟩
        rw [det h0,Bool.true_and,decide_eq_false_iff_not,dF (show k - 1<l.length by omega)] at h3
        omega
  refine ⟨⟨by omega,fun a ha=>?_⟩,sU fun k hk h0=>(key k hk).1 h0⟩
  obtain ⟨k,hk,rfl⟩:=List.getElem_of_mem ha
  exact ⟨hok.all _ ha,AC (key k hk).2.2,(key k hk).2.1⟩
def SolveR (p:List Zc) (l:List Zb) (imp:ByteArray) (r:List Zf×Int):Prop :=
 (r=((qf p l imp).map qg,0)∧VPs p∧VIds p∧VAs l∧AscA l∧nX p=0∧rT l=0∧ml imp=true)∨(r.1=[]∧r.2≠0∧((nX p≠0∧r.2=nX p)∨(nX p=0∧rT l≠0∧r.2=rT l)∨(nX p=0∧rT l=0∧ml imp=false∧r.2=1)))
theorem yK {e:Int} (h:e≠0):(e != 0)=true:=by simpa using h
theorem F8 {p:List Zc} {l:List Zb} (hp:PSOk p) (hl:ASOk l) (imp:ByteArray):∃ r,eU p l imp=some r∧gr p l imp=some r∧SolveR p l imp r:=by
 have v1:=BN p hp;have v2:=DK p hp;have v3:=Fg l hl;have v4:=ref_agr l hl
 by_cases h1:nX p=0
 ·by_cases h2:rT l=0
  ·cases h3:ml imp with
   | true =>
    obtain ⟨a1,a2⟩:=BO h1
    obtain ⟨a3,a4⟩:=DL hl h2
    exact ⟨_,BJ a1 a3 (by rw [v1,h1]) (by rw [v3,h2]) (by rw [ld,h3]),DF a1 a3 a4 (by rw [v2,h1]) (by rw [v4,h2]) (by rw [nc,h3]),.inl ⟨rfl,a1,a2,a3,a4,h1,h2,h3⟩⟩
   | false =>
    refine ⟨([],1),?_,?_,.inr ⟨rfl,by decide,.inr (.inr ⟨h1,h2,h3,rfl⟩)⟩⟩
    ·unfold eU
     rw [v1,h1,be,v3,h2,ld,h3];rfl
    unfold gr
    rw [v2,h1,be,v4,h2,nc,h3];rfl
  refine ⟨([],rT l),?_,?_,.inr ⟨rfl,h2,.inr (.inl ⟨h1,h2,rfl⟩)⟩⟩
  ·unfold eU
   rw [v1,h1,be,v3]
   rw [show ((0:Int) != 0)=false from rfl,bu,be,yK h2];rfl
  unfold gr
  rw [v2,h1,be,v4]
  rw [show ((0:Int) != 0)=false from rfl,bu,be,yK h2];rfl
 refine ⟨([],nX p),?_,?_,.inr ⟨rfl,h1,.inl ⟨h1,rfl⟩⟩⟩
 ·unfold eU
  rw [v1,be,yK h1];rfl
 unfold gr
 rw [v2,be,yK h1];rfl
theorem sV (m0:List Zc) (m1:List Zb) (m2:ByteArray) (m3 m4:List Int) (m5:Int) {κ:Kr} {v0 v1 v2 v3 v4 v5:List Value} (s0:Rps κ (eL Zc.enc m0) v0) (s1:Rps κ (eL Zb.enc m1) v1) (_:Rps κ (eS m2) v2) (_:Rps κ (eL eI m3) v3) (_:Rps κ (eL eI m4) v4) (_:Rps κ (eI m5) v5) (hb:∀ a∈m1,a.Rules.length*112≤140737488355328):fP m0 m1 m2 m3 m4 m5=some true:=by
 have hraw:=Fz s1
 have hps:=AB s0
 have key:Y (fP m0 m1 m2 m3 m4 m5) (fun r=>r=true):=by
  unfold fP
  refine Y.cond (fun _=>by rw [CI,be];exact Y.ret rfl) (fun hc=>?_)
  rw [Bool.or_eq_false_iff] at hc
  have c1:=of_decide_eq_false hc.1;have c2:=of_decide_eq_false hc.2
  refine (BP m1 (by omega) fun a ha=>⟨hraw a ha,hb a ha⟩).bind fun x ⟨hx,_⟩=>?_
  refine Y.bind (P:=fun t:List Zc×List Int×Int=>PSOk t.1) (Y.cond (fun _=>(plan_Y m3).bind fun y hy=>Y.ret (F7 hy.vps hy.vids)) fun _=>Y.ret hps) fun t ht=>?_
  obtain ⟨p,g,w⟩:=t
  dsimp only at ht ⊢
  refine Y.bind (P:=ASOk) (Y.cond (fun _=>(yt g).bind fun y hy=>Y.ret hy.ok) fun _=>Y.ret hx) fun l hl=>?_
  refine Y.bind (P:=fun _=>True) (Y.cond (fun _=>(Bp _).bind fun y _=>Y.ret trivial) fun _=>Y.ret trivial) fun imp _=>?_
  obtain ⟨r,r1,r2,hr⟩:=F8 ht hl imp
  rw [r1,be,r2,be]
  have hsame:kO r.1 r.1=some true:=by
   rcases hr with ⟨rfl,hv,_,hva,ha,_⟩ | ⟨h1,_⟩
   ·obtain ⟨k1,k2⟩:=AA hv hva ha imp
    exact FY _ (by simp;omega) fun q hq=>by
     obtain ⟨p,hp,rfl⟩:=List.mem_map.1 hq
     have:=k2 p hp
     exact ⟨by show p.2.1.length≤_;omega,by show p.2.2.length≤_;omega⟩
   rw [h1];exact FY _ (by simp) fun q hq=>by cases hq
  simp only [beq_self_eq_true,cI,hsame,be,Bool.and_self,CI]
  exact Y.ret rfl
 obtain ⟨r,e,rfl⟩:=key
 exact e
def bd3:Nat→Int→Prop:=fun _ _=>True
theorem DN {H:Type} {eh:TypeId×Value→H} {nb:Nat}:Opens eh nb 3 eI (bd3 nb):=Dl rfl
def bd22:Nat→(List Int)→Prop:=fun n l=>l.length*8≤140737488355328∧l.length≤n∧∀ x∈l,bd3 n x
theorem op22 {H:Type} {eh:TypeId×Value→H} {nb:Nat}:Opens eh nb 22 (eL eI) (bd22 nb):=jQ rfl rfl rfl rfl DN
def bd9:Nat→ByteArray→Prop:=fun _ _=>True
theorem op9 {H:Type} {eh:TypeId×Value→H} {nb:Nat}:Opens eh nb 9 eS (bd9 nb):=Dm rfl
def bd4:Nat→Bool→Prop:=fun _ _=>True
theorem op4 {H:Type} {eh:TypeId×Value→H} {nb:Nat}:Opens eh nb 4 eT (bd4 nb):=Bi rfl
def bd33:Nat→(List ByteArray)→Prop:=fun n l=>l.length*16≤140737488355328∧l.length≤n∧∀ x∈l,bd9 n x
theorem op33 {H:Type} {eh:TypeId×Value→H} {nb:Nat}:Opens eh nb 33 (eL eS) (bd33 nb):=jQ rfl rfl rfl rfl op9
def bd78:Nat→Zg→Prop:=fun n m=>bd3 n m.Product∧bd3 n m.Value∧True
theorem op78 {H:Type} {eh:TypeId×Value→H} {nb:Nat}:Opens eh nb 78 Zg.enc (bd78 nb):=fun W fuel cs x hx hw hbk=>by
 obtain ⟨xs,n,rfl,rfl,hl,hlen,hf⟩:=DataW.trod_struct (bp (t:=78) rfl) hx
 obtain ⟨x0,x1,rfl⟩:∃ x0 x1,xs=[x0,x1]:=by
  match xs,hlen with
  | [a0,a1],_=>exact ⟨a0,a1,rfl⟩
 have hw2:∀ n∈DataW.weightsEach Tryz.prog [3,3] [x0.1,x1.1],n≤reachBytes:=fun n hn=>hw n (by simp only [DataW.weights,bp (t:=78) rfl];exact hn)
 simp only [DataW.weightsEach,List.mem_append] at hw2
 simp only [Rows.uptoBulk,List.map_cons,List.map_nil,Rows.uptoBulkAll] at hbk
 have g0:DataW.trod eh Tryz.prog W 0 (fun _=>true) true n 3 ((cs.drop 0).take (Tryz.prog.cellsOf 3))=some x0:=hf 0 _ rfl
 rw [(bD (t:=3) rfl).1] at g0
 obtain ⟨m0,r0,o0,c0⟩:=DN (nb:=nb) W n _ _ g0 (fun n hn=>hw2 n (.inl hn)) (by omega)
 have g1:DataW.trod eh Tryz.prog W 0 (fun _=>true) true n 3 ((cs.drop 1).take (Tryz.prog.cellsOf 3))=some x1:=hf 1 _ rfl
 rw [(bD (t:=3) rfl).1] at g1
 obtain ⟨m1,r1,o1,c1⟩:=DN (nb:=nb) W n _ _ g1 (fun n hn=>hw2 n (.inr (.inl hn))) (by omega)
 have hl2:cs.length=2:=hl.trans (bD (t:=78) rfl).1
 exact ⟨(⟨m0,m1⟩:Zg),(dp (off:=0) r0 (dp (off:=1) r1 (rW hl2))),(dq (off:=0) o0 (dq (off:=1) o1 (rX hl2))),⟨c0,c1,trivial⟩⟩
def bd74:Nat→(List Zg)→Prop:=fun n l=>l.length*16≤140737488355328∧l.length≤n∧∀ x∈l,bd78 n x
theorem op74 {H:Type} {eh:TypeId×Value→H} {nb:Nat}:Opens eh nb 74 (eL Zg.enc) (bd74 nb):=jQ rfl rfl rfl rfl op78
def bd76:Nat→Zc→Prop:=fun n m=>bd3 n m.ID∧bd9 n m.Code∧bd9 n m.Country∧bd3 n m.Price∧bd4 n m.Obtained∧bd33 n m.Processes∧bd74 n m.Inputs∧True
theorem op76 {H:Type} {eh:TypeId×Value→H} {nb:Nat}:Opens eh nb 76 Zc.enc (bd76 nb):=fun W fuel cs x hx hw hbk=>by
 obtain ⟨xs,n,rfl,rfl,hl,hlen,hf⟩:=DataW.trod_struct (bp (t:=76) rfl) hx
 obtain ⟨x0,x1,x2,x3,x4,x5,x6,rfl⟩:∃ x0 x1 x2 x3 x4 x5 x6,xs=[x0,x1,x2,x3,x4,x5,x6]:=by
  match xs,hlen with
  | [a0,a1,a2,a3,a4,a5,a6],_=>exact ⟨a0,a1,a2,a3,a4,a5,a6,rfl⟩
 have hw2:∀ n∈DataW.weightsEach Tryz.prog [3,9,9,3,4,33,74] [x0.1,x1.1,x2.1,x3.1,x4.1,x5.1,x6.1],n≤reachBytes:=fun n hn=>hw n (by simp only [DataW.weights,bp (t:=76) rfl];exact hn)
 simp only [DataW.weightsEach,List.mem_append] at hw2
 simp only [Rows.uptoBulk,List.map_cons,List.map_nil,Rows.uptoBulkAll] at hbk
 have g0:DataW.trod eh Tryz.prog W 0 (fun _=>true) true n 3 ((cs.drop 0).take (Tryz.prog.cellsOf 3))=some x0:=hf 0 _ rfl
 rw [(bD (t:=3) rfl).1] at g0
 obtain ⟨m0,r0,o0,c0⟩:=DN (nb:=nb) W n _ _ g0 (fun n hn=>hw2 n (.inl hn)) (by omega)
 have g1:DataW.trod eh Tryz.prog W 0 (fun _=>true) true n 9 ((cs.drop 1).take (Tryz.prog.cellsOf 9))=some x1:=hf 1 _ rfl
 rw [(bD (t:=9) rfl).1] at g1
 obtain ⟨m1,r1,o1,c1⟩:=op9 (nb:=nb) W n _ _ g1 (fun n hn=>hw2 n (.inr (.inl hn))) (by omega)
 have g2:DataW.trod eh Tryz.prog W 0 (fun _=>true) true n 9 ((cs.drop 2).take (Tryz.prog.cellsOf 9))=some x2:=hf 2 _ rfl
 rw [(bD (t:=9) rfl).1] at g2
 obtain ⟨m2,r2,o2,c2⟩:=op9 (nb:=nb) W n _ _ g2 (fun n hn=>hw2 n (.inr (.inr (.inl hn)))) (by omega)
 have g3:DataW.trod eh Tryz.prog W 0 (fun _=>true) true n 3 ((cs.drop 3).take (Tryz.prog.cellsOf 3))=some x3:=hf 3 _ rfl
 rw [(bD (t:=3) rfl).1] at g3
 obtain ⟨m3,r3,o3,c3⟩:=DN (nb:=nb) W n _ _ g3 (fun n hn=>hw2 n (.inr (.inr (.inr (.inl hn))))) (by omega)
 have g4:DataW.trod eh Tryz.prog W 0 (fun _=>true) true n 4 ((cs.drop 4).take (Tryz.prog.cellsOf 4))=some x4:=hf 4 _ rfl
 rw [(bD (t:=4) rfl).1] at g4
 obtain ⟨m4,r4,o4,c4⟩:=op4 (nb:=nb) W n _ _ g4 (fun n hn=>hw2 n (.inr (.inr (.inr (.inr (.inl hn)))))) (by omega)
 have g5:DataW.trod eh Tryz.prog W 0 (fun _=>true) true n 33 ((cs.drop 5).take (Tryz.prog.cellsOf 33))=some x5:=hf 5 _ rfl
 rw [(bD (t:=33) rfl).1] at g5
 obtain ⟨m5,r5,o5,c5⟩:=op33 (nb:=nb) W n _ _ g5 (fun n hn=>hw2 n (.inr (.inr (.inr (.inr (.inr (.inl hn))))))) (by omega)
 have g6:DataW.trod eh Tryz.prog W 0 (fun _=>true) true n 74 ((cs.drop 6).take (Tryz.prog.cellsOf 74))=some x6:=hf 6 _ rfl
 rw [(bD (t:=74) rfl).1] at g6
 obtain ⟨m6,r6,o6,c6⟩:=op74 (nb:=nb) W n _ _ g6 (fun n hn=>hw2 n (.inr (.inr (.inr (.inr (.inr (.inr (.inl hn)))))))) (by omega)
 have hl2:cs.length=7:=hl.trans (bD (t:=76) rfl).1
 exact ⟨(⟨m0,m1,m2,m3,m4,m5,m6⟩:Zc),(dp (off:=0) r0 (dp (off:=1) r1 (dp (off:=2) r2 (dp (off:=3) r3 (dp (off:=4) r4 (dp (off:=5) r5 (dp (off:=6) r6 (rW hl2)))))))),(dq (off:=0) o0 (dq (off:=1) o1 (dq (off:=2) o2 (dq (off:=3) o3 (dq (off:=4) o4 (dq (off:=5) o5 (dq (off:=6) o6 (rX hl2)))))))),⟨c0,c1,c2,c3,c4,c5,c6,trivial⟩⟩
def bd23:Nat→(List Zc)→Prop:=fun n l=>l.length*104≤140737488355328∧l.length≤n∧∀ x∈l,bd76 n x
theorem op23 {H:Type} {eh:TypeId×Value→H} {nb:Nat}:Opens eh nb 23 (eL Zc.enc) (bd23 nb):=jQ rfl rfl rfl rfl op76
def bd84:Nat→Zd→Prop:=fun n m=>True
theorem opN84 {H:Type} {eh:TypeId×Value→H} {nb:Nat}:∀ N,OpensN eh N nb 84 Zd.enc (fun _=>True):=by
 refine Nat.rec (motive:=fun N=>OpensN eh N nb 84 Zd.enc (fun _=>True)) (fun _ _ _ _ h=>absurd h (Nat.not_lt_zero _)) (fun N ih=>?_)
 intro W fuel cs x hfu hx hw hbk
 obtain ⟨xs,n,rfl,rfl,hl,hlen,hf⟩:=DataW.trod_struct (bp (t:=84) rfl) hx
 obtain ⟨x0,x1,x2,x3,x4,x5,x6,rfl⟩:∃ x0 x1 x2 x3 x4 x5 x6,xs=[x0,x1,x2,x3,x4,x5,x6]:=by
  match xs,hlen with
  | [a0,a1,a2,a3,a4,a5,a6],_=>exact ⟨a0,a1,a2,a3,a4,a5,a6,rfl⟩
 have hw2:∀ n∈DataW.weightsEach Tryz.prog [3,3,33,3,3,9,82] [x0.1,x1.1,x2.1,x3.1,x4.1,x5.1,x6.1],n≤reachBytes:=fun n hn=>hw n (by simp only [DataW.weights,bp (t:=84) rfl];exact hn)
 simp only [DataW.weightsEach,List.mem_append] at hw2
 simp only [Rows.uptoBulk,List.map_cons,List.map_nil,Rows.uptoBulkAll] at hbk
 have g0:DataW.trod eh Tryz.prog W 0 (fun _=>true) true n 3 ((cs.drop 0).take (Tryz.prog.cellsOf 3))=some x0:=hf 0 _ rfl
 rw [(bD (t:=3) rfl).1] at g0
 obtain ⟨m0,r0,o0,c0⟩:=DN (nb:=nb) W n _ _ g0 (fun n hn=>hw2 n (.inl hn)) (by omega)
 have g1:DataW.trod eh Tryz.prog W 0 (fun _=>true) true n 3 ((cs.drop 1).take (Tryz.prog.cellsOf 3))=some x1:=hf 1 _ rfl
 rw [(bD (t:=3) rfl).1] at g1
 obtain ⟨m1,r1,o1,c1⟩:=DN (nb:=nb) W n _ _ g1 (fun n hn=>hw2 n (.inr (.inl hn))) (by omega)
 have g2:DataW.trod eh Tryz.prog W 0 (fun _=>true) true n 33 ((cs.drop 2).take (Tryz.prog.cellsOf 33))=some x2:=hf 2 _ rfl
 rw [(bD (t:=33) rfl).1] at g2
 obtain ⟨m2,r2,o2,c2⟩:=op33 (nb:=nb) W n _ _ g2 (fun n hn=>hw2 n (.inr (.inr (.inl hn)))) (by omega)
 have g3:DataW.trod eh Tryz.prog W 0 (fun _=>true) true n 3 ((cs.drop 3).take (Tryz.prog.cellsOf 3))=some x3:=hf 3 _ rfl
 rw [(bD (t:=3) rfl).1] at g3
 obtain ⟨m3,r3,o3,c3⟩:=DN (nb:=nb) W n _ _ g3 (fun n hn=>hw2 n (.inr (.inr (.inr (.inl hn))))) (by omega)
 have g4:DataW.trod eh Tryz.prog W 0 (fun _=>true) true n 3 ((cs.drop 4).take (Tryz.prog.cellsOf 3))=some x4:=hf 4 _ rfl
 rw [(bD (t:=3) rfl).1] at g4
 obtain ⟨m4,r4,o4,c4⟩:=DN (nb:=nb) W n _ _ g4 (fun n hn=>hw2 n (.inr (.inr (.inr (.inr (.inl hn)))))) (by omega)
 have g5:DataW.trod eh Tryz.prog W 0 (fun _=>true) true n 9 ((cs.drop 5).take (Tryz.prog.cellsOf 9))=some x5:=hf 5 _ rfl
 rw [(bD (t:=9) rfl).1] at g5
 obtain ⟨m5,r5,o5,c5⟩:=op9 (nb:=nb) W n _ _ g5 (fun n hn=>hw2 n (.inr (.inr (.inr (.inr (.inr (.inl hn))))))) (by omega)
 have g6:DataW.trod eh Tryz.prog W 0 (fun _=>true) true n 82 ((cs.drop 6).take (Tryz.prog.cellsOf 82))=some x6:=hf 6 _ rfl
 rw [(bD (t:=82) rfl).1] at g6
 obtain ⟨m6,r6,o6,c6⟩:=rV (nb:=nb) (t:=82) rfl rfl rfl rfl ih W n _ _ (by omega) g6 (fun n hn=>hw2 n (.inr (.inr (.inr (.inr (.inr (.inr (.inl hn)))))))) (by omega)
 have hl2:cs.length=7:=hl.trans (bD (t:=84) rfl).1
 refine ⟨(⟨m0,m1,m2,m3,m4,m5,m6⟩:Zd),?_,(dq (off:=0) o0 (dq (off:=1) o1 (dq (off:=2) o2 (dq (off:=3) o3 (dq (off:=4) o4 (dq (off:=5) o5 (dq (off:=6) o6 (rX hl2)))))))),trivial⟩
 rw [Zd.enc_eq];exact (dp (off:=0) r0 (dp (off:=1) r1 (dp (off:=2) r2 (dp (off:=3) r3 (dp (off:=4) r4 (dp (off:=5) r5 (dp (off:=6) r6 (rW hl2))))))))
theorem op84 {H:Type} {eh:TypeId×Value→H} {nb:Nat}:Opens eh nb 84 Zd.enc (bd84 nb):=fun W fuel cs x hx hw hbk=>opN84 (fuel+1) W fuel cs x (Nat.lt_succ_self _) hx hw hbk
def bd87:Nat→Zh→Prop:=fun n m=>bd9 n m.Prefix∧bd84 n m.Rule∧True
theorem op87 {H:Type} {eh:TypeId×Value→H} {nb:Nat}:Opens eh nb 87 Zh.enc (bd87 nb):=fun W fuel cs x hx hw hbk=>by
 obtain ⟨xs,n,rfl,rfl,hl,hlen,hf⟩:=DataW.trod_struct (bp (t:=87) rfl) hx
 obtain ⟨x0,x1,rfl⟩:∃ x0 x1,xs=[x0,x1]:=by
  match xs,hlen with
  | [a0,a1],_=>exact ⟨a0,a1,rfl⟩
 have hw2:∀ n∈DataW.weightsEach Tryz.prog [9,84] [x0.1,x1.1],n≤reachBytes:=fun n hn=>hw n (by simp only [DataW.weights,bp (t:=87) rfl];exact hn)
 simp only [DataW.weightsEach,List.mem_append] at hw2
 simp only [Rows.uptoBulk,List.map_cons,List.map_nil,Rows.uptoBulkAll] at hbk
 have g0:DataW.trod eh Tryz.prog W 0 (fun _=>true) true n 9 ((cs.drop 0).take (Tryz.prog.cellsOf 9))=some x0:=hf 0 _ rfl
 rw [(bD (t:=9) rfl).1] at g0
 obtain ⟨m0,r0,o0,c0⟩:=op9 (nb:=nb) W n _ _ g0 (fun n hn=>hw2 n (.inl hn)) (by omega)
 have g1:DataW.trod eh Tryz.prog W 0 (fun _=>true) true n 84 ((cs.drop 1).take (Tryz.prog.cellsOf 84))=some x1:=hf 1 _ rfl
 rw [(bD (t:=84) rfl).1] at g1
 obtain ⟨m1,r1,o1,c1⟩:=op84 (nb:=nb) W n _ _ g1 (fun n hn=>hw2 n (.inr (.inl hn))) (by omega)
 rw [Zd.enc_eq] at r1
 have hl2:cs.length=8:=hl.trans (bD (t:=87) rfl).1
 exact ⟨(⟨m0,m1⟩:Zh),(dp (off:=0) r0 (dp (off:=1) r1 (rW hl2))),(dq (off:=0) o0 (dq (off:=1) o1 (rX hl2))),⟨c0,c1,trivial⟩⟩
def bd79:Nat→(List Zh)→Prop:=fun n l=>l.length*112≤140737488355328∧l.length≤n∧∀ x∈l,bd87 n x
theorem op79 {H:Type} {eh:TypeId×Value→H} {nb:Nat}:Opens eh nb 79 (eL Zh.enc) (bd79 nb):=jQ rfl rfl rfl rfl op87
def bd81:Nat→Zb→Prop:=fun n m=>bd3 n m.ID∧bd3 n m.Kind∧bd33 n m.Parties∧bd79 n m.Rules∧True
theorem op81 {H:Type} {eh:TypeId×Value→H} {nb:Nat}:Opens eh nb 81 Zb.enc (bd81 nb):=fun W fuel cs x hx hw hbk=>by
 obtain ⟨xs,n,rfl,rfl,hl,hlen,hf⟩:=DataW.trod_struct (bp (t:=81) rfl) hx
 obtain ⟨x0,x1,x2,x3,rfl⟩:∃ x0 x1 x2 x3,xs=[x0,x1,x2,x3]:=by
  match xs,hlen with
  | [a0,a1,a2,a3],_=>exact ⟨a0,a1,a2,a3,rfl⟩
 have hw2:∀ n∈DataW.weightsEach Tryz.prog [3,3,33,79] [x0.1,x1.1,x2.1,x3.1],n≤reachBytes:=fun n hn=>hw n (by simp only [DataW.weights,bp (t:=81) rfl];exact hn)
 simp only [DataW.weightsEach,List.mem_append] at hw2
 simp only [Rows.uptoBulk,List.map_cons,List.map_nil,Rows.uptoBulkAll] at hbk
 have g0:DataW.trod eh Tryz.prog W 0 (fun _=>true) true n 3 ((cs.drop 0).take (Tryz.prog.cellsOf 3))=some x0:=hf 0 _ rfl
 rw [(bD (t:=3) rfl).1] at g0
 obtain ⟨m0,r0,o0,c0⟩:=DN (nb:=nb) W n _ _ g0 (fun n hn=>hw2 n (.inl hn)) (by omega)
 have g1:DataW.trod eh Tryz.prog W 0 (fun _=>true) true n 3 ((cs.drop 1).take (Tryz.prog.cellsOf 3))=some x1:=hf 1 _ rfl
 rw [(bD (t:=3) rfl).1] at g1
 obtain ⟨m1,r1,o1,c1⟩:=DN (nb:=nb) W n _ _ g1 (fun n hn=>hw2 n (.inr (.inl hn))) (by omega)
 have g2:DataW.trod eh Tryz.prog W 0 (fun _=>true) true n 33 ((cs.drop 2).take (Tryz.prog.cellsOf 33))=some x2:=hf 2 _ rfl
 rw [(bD (t:=33) rfl).1] at g2
 obtain ⟨m2,r2,o2,c2⟩:=op33 (nb:=nb) W n _ _ g2 (fun n hn=>hw2 n (.inr (.inr (.inl hn)))) (by omega)
 have g3:DataW.trod eh Tryz.prog W 0 (fun _=>true) true n 79 ((cs.drop 3).take (Tryz.prog.cellsOf 79))=some x3:=hf 3 _ rfl
 rw [(bD (t:=79) rfl).1] at g3
 obtain ⟨m3,r3,o3,c3⟩:=op79 (nb:=nb) W n _ _ g3 (fun n hn=>hw2 n (.inr (.inr (.inr (.inl hn))))) (by omega)
 have hl2:cs.length=4:=hl.trans (bD (t:=81) rfl).1
 exact ⟨(⟨m0,m1,m2,m3⟩:Zb),(dp (off:=0) r0 (dp (off:=1) r1 (dp (off:=2) r2 (dp (off:=3) r3 (rW hl2))))),(dq (off:=0) o0 (dq (off:=1) o1 (dq (off:=2) o2 (dq (off:=3) o3 (rX hl2))))),⟨c0,c1,c2,c3,trivial⟩⟩
def bd25:Nat→(List Zb)→Prop:=fun n l=>l.length*64≤140737488355328∧l.length≤n∧∀ x∈l,bd81 n x
theorem op25 {H:Type} {eh:TypeId×Value→H} {nb:Nat}:Opens eh nb 25 (eL Zb.enc) (bd25 nb):=jQ rfl rfl rfl rfl op81
end SX
end Go.Proofs.YtgmbmepakpcpaaaGreatDoor
set_option maxRecDepth 100000
namespace Go.Proofs.YtgmbmepakpcpaaaGreatDoor
open Go Go.ChangeShapes Go.WideShapes Go.RowKit
open SX
theorem originErrors_lifted (os:Os) (started:os.Started) (H:Type) (enc:TypeId×Value→H) :
    ReturnsInHanded {} Tryz.checked os 6 .any (fun w args=>(Rows.originErrorsSpec.pre enc Tryz.prog Tryz.f6 [] false w args∧laidMetH Tryz.prog xf w)∧sizedMet enc Tryz.prog Tryz.f6 (OpenSpec.ofChange Rows.originErrorsSpec) false w args)
      (Rows.originErrorsSpec.post enc Tryz.prog Tryz.f6 false true false false):=by
  refine returnsInHanded_of_change_and (C:=Tryz.checked) (X:=fun w _=>laidMetH Tryz.prog xf w) (fun _ _ _ hh h=>h.of_heap hh) own_ok started (by kernel_rfl) Tryz.func6
    (ChangeSpec.witness_at (enc:=enc) (C:=Tryz.checked) (os:=os) (X:=fun w _=>laidMetH Tryz.prog xf w) false (laidWorld os) #[.slice none 0 0,.slice none 0 0,.string ByteArray.empty,.slice none 0 0,.slice none 0 0,.int .i64 0] 8 rfl (by kernel_rfl) (by kernel_rfl) (by kernel_rfl) (by kernel_rfl) (by kernel_rfl) (wy os _)) ?_
  intro W base args ds gs before hval0 hW _ hwt hL _
  have hval:∀ (j:Nat) t v,Tryz.f6.params[j]?=some t→args[j]?=some v→Value.okWide Tryz.prog W .any base t v:=hval0
  have hW2:=hW
  obtain ⟨p,q,hA0,hV0,rfl,_,_⟩:=hW
  have hA:DataW.TrodAll enc Tryz.prog W 0 (fun _=>true) true [23,25,9,22,22,3] args.toList ds p:=hA0
  obtain ⟨rfl,rfl⟩:gs=[]∧q=[]:=by
    cases gs with
    | nil=>exact ⟨rfl,hV0⟩
    | cons g r=>exact absurd hV0 (by intro h;cases h)
  generalize hargs:args.toList=vs at hA
  have hval2:∀ (j:Nat) t v,[23,25,9,22,22,3][j]?=some t→vs[j]?=some v→Value.okWide Tryz.prog W .any base t v:=fun j t v h1 h2=>hval j t v (by rw [Tryz.params6];simpa using h1) (by rw [← hargs] at h2;simpa using h2)
  obtain ⟨v0,vs0,d0,ds0,p0,q0,rfl,rfl,h0,hA⟩:=SX.trodAll_cons hA
  obtain ⟨v1,vs1,d1,ds1,p1,q1,rfl,rfl,h1,hA⟩:=SX.trodAll_cons hA
  obtain ⟨v2,vs2,d2,ds2,p2,q2,rfl,rfl,h2,hA⟩:=SX.trodAll_cons hA
  obtain ⟨v3,vs3,d3,ds3,p3,q3,rfl,rfl,h3,hA⟩:=SX.trodAll_cons hA
  obtain ⟨v4,vs4,d4,ds4,p4,q4,rfl,rfl,h4,hA⟩:=SX.trodAll_cons hA
  obtain ⟨v5,vs5,d5,ds5,p5,q5,rfl,rfl,h5,hA⟩:=SX.trodAll_cons hA
  obtain ⟨rfl,rfl⟩:=SX.trodAll_nil hA
  have hw:(DataW.weightsEach Tryz.prog [23,25,9,22,22,3] [d0,d1,d2,d3,d4,d5]).all (· ≤ reachBytes)=true:=hwt
  obtain ⟨l0,hw⟩:=SX.light_head hw
  obtain ⟨m0,s0,b0⟩:=qt rfl rfl op23 (fun _=>⟨_,rfl⟩) (hval2 0 23 v0 rfl rfl) h0 l0 (Nat.le_refl _)
  obtain ⟨l1,hw⟩:=SX.light_head hw
  obtain ⟨m1,s1,b1⟩:=qt rfl rfl op25 (fun _=>⟨_,rfl⟩) (hval2 1 25 v1 rfl rfl) h1 l1 (Nat.le_refl _)
  obtain ⟨l2,hw⟩:=SX.light_head hw
  obtain ⟨m2,s2,b2⟩:=qt rfl rfl op9 (fun _=>⟨_,rfl⟩) (hval2 2 9 v2 rfl rfl) h2 l2 (Nat.le_refl _)
  obtain ⟨l3,hw⟩:=SX.light_head hw
  obtain ⟨m3,s3,b3⟩:=qt rfl rfl op22 (fun _=>⟨_,rfl⟩) (hval2 3 22 v3 rfl rfl) h3 l3 (Nat.le_refl _)
  obtain ⟨l4,hw⟩:=SX.light_head hw
  obtain ⟨m4,s4,b4⟩:=qt rfl rfl op22 (fun _=>⟨_,rfl⟩) (hval2 4 22 v4 rfl rfl) h4 l4 (Nat.le_refl _)
  obtain ⟨l5,hw⟩:=SX.light_head hw
  obtain ⟨m5,s5,b5⟩:=qt rfl rfl DN (fun _=>⟨_,rfl⟩) (hval2 5 3 v5 rfl rfl) h5 l5 (Nat.le_refl _)
  exact Fx (readB (by kernel_rfl)) rfl (bp rfl) rfl (by simp [Rows.originErrorsSpec]) hW2 (z2 hL) (by rw [hargs];exact (s0.app (s1.app (s2.app (s3.app (s4.app s5)))))) (pa (sV m0 m1 m2 m3 m4 m5 s0 s1 s2 s3 s4 s5 (fun a ha=>(b1.2.2 a ha).2.2.2.1.1)))
theorem originErrors_holds:Rows.OriginErrorsSaid :=
 OpenClaim.holds_of_wide 6 Tryz.f6 rfl rfl rfl rfl rfl rfl rfl ⟨rfl,rfl,rfl,rfl,rfl⟩ rfl rfl rfl rfl rfl originErrors_named Tryz.func6 originErrors_closed
  (of_decide_eq_true (by kernel_rfl)) (by unfold Func.isWrapper;rw [if_neg (of_decide_eq_false (by kernel_rfl))];exact ⟨rfl,rfl⟩)
  (fun os started H enc _=>originErrors_lifted os started H enc)
theorem originErrors_card:Rows.OriginErrorsCardSaid :=
 Claim7.holds_tied_plain_at .later [] [.data,.data,.pinned] true (true, "d6724934cde0ef4b5d01703053d4c3277341bc42a1cf7659bfec0d43871970fd") true
  originErrors_holds (fun _ h=>by cases h) (by as_aux_lemma=>kernel_rfl) (fun _ h=>by cases h) originErrors_row_tie rfl ⟨rfl,rfl⟩ fp_main rfl
  (fun f fn hf hfn=>by
   obtain rfl:f=6:=Option.some.inj ((show Tryz.prog.funcNamed "customs/customslaw15.OriginErrors" = some 6 from originErrors_named).symm.trans hf) |>.symm
   obtain rfl:fn=Tryz.f6:=(Option.some.inj (Tryz.func6.symm.trans hfn)).symm
   exact ⟨fp_looks,fun j t ht=>by
    rw [Tryz.params6] at ht
    exact z6 (by as_aux_lemma=>kernel_rfl) ht⟩)
  originErrors_goes
#print axioms originErrors_card
end Go.Proofs.YtgmbmepakpcpaaaGreatDoor
