/- OriginClaims: for every input the law returns true, and each argument reads afterwards as it read before. Conditions: the package variables are as the program's text lays them (the card ties them). -/
import Derived.Test.YtgmbmepakpcpaaaGreatDoorM4
import Derived.Test.YtgmbmepakpcpaaaGreatDoorL6q
set_option linter.unusedVariables false
set_option linter.unusedSimpArgs false
set_option maxHeartbeats 4000000
set_option maxRecDepth 100000
namespace Go.Proofs.YtgmbmepakpcpaaaGreatDoor
namespace SX
open Go
structure VAs (l:List Zb):Prop where
 len:l.length≤1000
 all:∀ a∈l,VA a
theorem MAs.vas {l:List Zb} (h:MAs l):VAs l:=⟨by have:=h.len;omega,fun a ha=>by obtain ⟨i,hi,rfl⟩:=List.getElem_of_mem ha;exact (h.all i _ (List.getElem?_eq_getElem hi)).va⟩
theorem nN {l:List Zb} (h:VAs l) {id:Int} {a:Zb} (ha:lQ l id=some a):VA a∧a.ID=id∧a∈l:=by
 have hm:=List.mem_of_find?_eq_some ha
 exact ⟨h.all a hm,by have:=List.find?_some ha;simpa using this,hm⟩
def xY (a:Zb) (x y:ByteArray):Bool:=lF a.Parties x&&lF a.Parties y
theorem wM (a:Zb) (x y:ByteArray) (ha:VA a):dt a x y=some (xY a x y):=by
 have:=ha.ok.par.1
 unfold dt xY
 rw [rQ _ _ this,rQ _ _ this,bg]
 cases lF a.Parties x <;> rfl
def lG (p:List Zc) (l:List Zb) (i:ByteArray) (c:Za):Bool:=match da p c.Product,lQ l c.Agreement with
 | some q,some a => !decide (q.Country=i)&&xY a q.Country i&&(eZ a q.Code).isSome
 | _,_=>false
theorem zL (p:List Zc) (l:List Zb) (i:ByteArray) (c:Za) (hp:Sorted p) (hl:VAs l):ca p l i c=some (lG p l i c):=by
 unfold ca lG
 have:=hl.len
 rw [vj _ _ hp,bg]
 cases da p c.Product with
 | none=>rfl
 | some q =>
  rw [rm _ _ (by omega)]
  simp only [hZ,Bool.not_true,bI,bg]
  cases ha:lQ l c.Agreement with
  | none=>rfl
  | some a =>
   have hv:=(nN hl ha).1
   rw [wM _ _ _ hv,td _ _ hv]
   by_cases hq:q.Country=i
   ·simp [hq,gd]
   cases h1:xY a q.Country i
   ·simp [hq,gd,h1]
   cases h2:eZ a q.Code <;> simp [hq,gd,hZ,h1,h2]
theorem B2 (p:List Zc) (l:List Zb) (i:ByteArray) (c:Za) (hp:p.length≤140737488355328) (hl:VAs l):dJ p l i c=some (lG p l i c):=by
 unfold dJ lG
 have:=hl.len
 rw [wL _ _ hp,bg,sG _ _ (by omega),bg]
 cases ha:lQ l c.Agreement with
 | none =>
  rw [rl _ _ (by simp [hZ,CY]),bg]
  cases da p c.Product with
  | none=>rfl
  | some q=>rfl
 | some a =>
  have hv:=(nN hl ha).1
  rw [show (hZ CY (some a)).1=a from rfl,rl _ _ hv.ok.len,bg,qr _ _ hv.ok.par.1,qr _ _ hv.ok.par.1]
  cases da p c.Product with
  | none=>rfl
  | some q =>
   unfold xY
   cases hr:eZ a q.Code with
   | none=>simp [hZ,gd,hr]
   | some r =>
    by_cases hq:q.Country=i
    ·simp [hZ,gd,hr,hq]
    cases h1:lF a.Parties q.Country
    ·simp [hZ,gd,hr,hq,h1]
    cases h2:lF a.Parties i <;> simp [hZ,gd,hr,hq,h1,h2]
def oz (a:Zb) (id:Int) (e i:ByteArray) (b:Zb):Bool := !(b.ID == id)&&xY b e i&&km zJ a.Rules b.Rules
def eF (l:List Zb) (id:Int) (e i:ByteArray):List Int:=match lQ l id with
 | none=>[]
 | some a=>id::cond (a.Kind == 2) ((l.filter (oz a id e i)).map (·.ID)) []
theorem p6 (P:Zb→Bool):∀ (l:List Zb) (acc:List Int),l.foldl (fun acc b=>cond (P b) (acc++[b.ID]) acc) acc=acc++(l.filter P).map (·.ID)
 | [],acc=>by simp
 | b::l,acc=>by
  rw [List.foldl_cons,p6 P l,List.filter_cons]
  cases P b <;> simp
theorem wa (l:List Zb) (id:Int) (e i:ByteArray) (hl:VAs l):d9 l id e i=some (eF l id e i):=by
 unfold d9 eF
 have hlen:=hl.len
 rw [rm _ _ (by omega),bg]
 cases ha:lQ l id with
 | none=>rfl
 | some a =>
  have hv:=(nN hl ha).1
  simp only [hZ,Bool.not_true,bI,bne]
  cases hk:(a.Kind == 2)
  ·rfl
  simp only [Bool.not_true,bI,bY]
  refine (cb (l:=l) (by omega) (fun i (a:List Int)=>(a,i)) (fun acc b=>cond (oz a id e i b) (acc++[b.ID]) acc) (fun a=>a) (fun k acc=>acc.length≤k+1) [id] (by simp) (fun k hk acc hacc=>⟨?_,?_⟩) (fun acc _=>by simp only [cR,bI])).1.trans ?_
  ·have hb:=hl.all _ (List.getElem_mem hk)
   simp only [ik hk,bY,aV hk,bg,bR hk (show l.length≤4611686018427387904 by omega),oz,bne]
   rw [wM _ _ _ hb,vi _ _ hv.ok.len hv.ok.rules hv.rules]
   cases (l[k].ID == id)
   ·cases xY l[k] e i
    ·rfl
    cases km zJ a.Rules l[k].Rules
    ·rfl
    simp only [Bool.not_false,cx,bg,Bool.and_self,bY]
    rw [cS (by simp;omega) (by simp;omega)];rfl
   rfl
  ·cases oz a id e i l[k] <;> simp <;> omega
  rw [p6];rfl
theorem xZ (l:List Zb) (id:Int) (e i:ByteArray) (hl:VAs l):iy l id e i=some (eF l id e i):=by
 unfold iy eF
 have hlen:=hl.len
 rw [sG _ _ (by omega),bg]
 cases ha:lQ l id with
 | none=>rfl
 | some a =>
  have hv:=(nN hl ha).1
  simp only [hZ,Bool.not_true,bI]
  cases hk:(a.Kind == 2)
  ·refine (cb (l:=([]:List Zb)) (by simp) (fun i (a:List Int)=>(a,i)) (fun acc b=>acc) (fun a=>a) (fun k acc=>True) [id] trivial (fun k hk acc hacc=>by simp at hk) (fun acc _=>by simp only [Bool.and_false,bI])).1.trans ?_
   rfl
  simp only [Bool.and_true,bY]
  refine (cb (l:=l) (by omega) (fun i (a:List Int)=>(a,i)) (fun acc b=>cond (oz a id e i b) (acc++[b.ID]) acc) (fun a=>a) (fun k acc=>acc.length≤k+1) [id] (by simp) (fun k hk acc hacc=>⟨?_,?_⟩) (fun acc _=>by simp only [cR,bI])).1.trans ?_
  ·have hb:=hl.all _ (List.getElem_mem hk)
   simp only [ik hk,bY,aV hk,bg,bR hk (show l.length≤4611686018427387904 by omega),oz,bne,xY]
   rw [qr _ _ hb.ok.par.1,qr _ _ hb.ok.par.1,vZ _ _ hv.ok.len hv.ok.rules]
   cases (l[k].ID == id)
   ·cases lF l[k].Parties e
    ·rfl
    cases lF l[k].Parties i
    ·rfl
    cases km zJ a.Rules l[k].Rules
    ·rfl
    simp only [Bool.not_false,cx,bg,Bool.and_self,bY]
    rw [cS (by simp;omega) (by simp;omega)];rfl
   rfl
  ·cases oz a id e i l[k] <;> simp <;> omega
  rw [p6];rfl
def AscA (l:List Zb):Prop:=l.Pairwise fun a b=>a.ID<b.ID
theorem C0 {l:List Zb} (h:AscA l) {a:Zb} (ha:a∈l):lQ l a.ID=some a:=by
 obtain ⟨i,hi,rfl⟩:=List.getElem_of_mem ha
 unfold lQ
 rw [List.find?_eq_some_iff_getElem]
 refine ⟨by simp,i,hi,rfl,fun k hk=>?_⟩
 have:=List.pairwise_iff_getElem.1 h k i (by omega) hi hk
 have:l[k].ID≠l[i].ID:=by omega
 simpa using this
theorem MAs.asc {l:List Zb} (h:MAs l):AscA l:=by
 unfold AscA;rw [List.pairwise_iff_getElem]
 intro i j hi hj hij
 have h1:=(h.all i _ (List.getElem?_eq_getElem hi)).id
 have h2:=(h.all j _ (List.getElem?_eq_getElem hj)).id
 omega
theorem rR (l:List Zb) (id:Int) (e i:ByteArray):(eF l id e i).length≤l.length+1:=by
 unfold eF
 cases lQ l id with
 | none=>simp
 | some a=>cases h:(a.Kind == 2) <;> simp [h];exact List.length_filter_le _ _
theorem AW (x:Int):Y (iY x) (fun s=>s∈C6):=by
 unfold iY
 refine (ER x 8 (by omega) (by omega)).bind fun r ⟨h1,h2⟩=>?_
 obtain ⟨j,hj⟩:∃ j:Nat,r=(j:Int):=⟨r.toNat,by omega⟩
 refine Y.idx hj (show j<8 by omega) (Y.ret ?_)
 have hj8:j<8:=by omega
 match j,hj8 with
 | 0,_=>exact .tail _ (.head _)
 | 1,_=>exact .tail _ (.head _)
 | 2,_=>exact .tail _ (.head _)
 | 3,_=>exact .head _
 | 4,_=>exact .tail _ (.tail _ (.head _))
 | 5,_=>exact .tail _ (.tail _ (.tail _ (.head _)))
 | 6,_=>exact .tail _ (.tail _ (.tail _ (.tail _ (.head _))))
 | 7,_=>exact .tail _ (.tail _ (.tail _ (.tail _ (.tail _ (.head _)))))
end SX
end Go.Proofs.YtgmbmepakpcpaaaGreatDoor
set_option maxRecDepth 100000
set_option linter.unusedSectionVars false
namespace Go.Proofs.YtgmbmepakpcpaaaGreatDoor
namespace SX
open Go
section
variable {α:Type} [DecidableEq α]
def dd:List α→List α
 | []=>[]
 | [x]=>[x]
 | x::y::l=>cond (decide (x=y)) (dd (y::l)) (x::dd (y::l))
theorem ya (x y:α):∀ l:List α,dd (l++[x,y])=cond (decide (x=y)) (dd (l++[x])) (dd (l++[x])++[y])
 | []=>by
  show dd [x,y]=_
  rw [dd]
  cases h:decide (x=y)
  ·rfl
  ·have:=of_decide_eq_true h;subst this;rfl
 | [a]=>by
  have ih:=ya x y []
  simp only [List.nil_append] at ih
  simp only [List.cons_append,List.nil_append]
  rw [show dd [a,x,y]=cond (decide (a=x)) (dd [x,y]) (a::dd [x,y]) from rfl,ih,show dd [a,x]=cond (decide (a=x)) (dd [x]) (a::dd [x]) from rfl]
  cases decide (x=y) <;> cases decide (a=x) <;> rfl
 | a::b::l=>by
  show dd (a::b::(l++[x,y]))=_
  have ih:=ya x y (b::l)
  simp only [List.cons_append] at ih
  rw [dd,ih]
  show _=cond _ (dd (a::b::(l++[x]))) (dd (a::b::(l++[x]))++[y])
  rw [dd]
  cases decide (x=y) <;> cases decide (a=b) <;> rfl
theorem AX:∀ {l:List α} {z:α},z∈dd l↔z∈l
 | [],z=>Iff.rfl
 | [x],z=>Iff.rfl
 | x::y::l,z=>by
  rw [dd]
  have ih:=AX (l:=y::l) (z:=z)
  cases h:decide (x=y)
  ·rw [bI,List.mem_cons,ih];simp
  have:=of_decide_eq_true h;subst this
  rw [bY,ih];simp
theorem Fb:∀ l:List α,(dd l).length≤l.length
 | []=>Nat.le_refl _
 | [x]=>Nat.le_refl _
 | x::y::l=>by
  rw [dd]
  have ih:=Fb (y::l)
  cases decide (x=y)
  ·simp only [bI,List.length_cons] at ih ⊢;omega
  simp only [bY,List.length_cons] at ih ⊢;omega
theorem yb:∀ {l:List α},(∀ i,(h:i+1<l.length)→l[i]≠l[i+1])→dd l=l
 | [],_=>rfl
 | [x],_=>rfl
 | x::y::l,h=>by
  have h0:=h 0 (by simp)
  simp only [List.getElem_cons_zero,List.getElem_cons_succ,Nat.zero_add] at h0
  rw [dd,bK h0,bI,yb (l:=y::l) fun i hi=>by have:=h (i+1) (by simpa using hi);simpa using this]
variable {lt:α→α→Bool}
def Strict (lt:α→α→Bool) (l:List α):Prop:=l.Pairwise fun a b=>lt a b=true
theorem wN (htot:∀ x y,lt x y=false→lt y x=false→x=y) (htr:∀ x y z,lt x y=true→lt y z=true→lt x z=true):∀ {l:List α},l.Pairwise (fun a b=>lt b a=false)→Strict lt (dd l)
 | [],_=>List.Pairwise.nil
 | [x],_=>List.pairwise_singleton _ _
 | x::y::l,h=>by
  obtain ⟨h1,h2⟩:=List.pairwise_cons.1 h
  have ih:=wN htot htr h2
  rw [dd]
  cases hxy:decide (x=y)
  ·refine List.pairwise_cons.2 ⟨fun z hz=>?_,ih⟩
   have hz:=AX.1 hz
   have hne:x≠y:=of_decide_eq_false hxy
   have hlt:lt x y=true:=by
    cases hl:lt x y
    ·exact absurd (htot x y hl (h1 y (by simp))) hne
    rfl
   rcases List.mem_cons.1 hz with rfl | hz
   ·exact hlt
   cases hyz:lt y z
   ·have:=(List.pairwise_cons.1 h2).1 z hz
    rw [← htot y z hyz this];exact hlt
   exact htr _ _ _ hlt hyz
  exact ih
theorem tg (hir:∀ x,lt x x=false) (htr:∀ x y z,lt x y=true→lt y z=true→lt x z=true):∀ {l m:List α},Strict lt l→Strict lt m→(∀ z,z∈l↔z∈m)→l=m
 | [],[],_,_,_=>rfl
 | [],y::m,_,_,h=>absurd ((h y).2 (by simp)) (by simp)
 | x::l,[],_,_,h=>absurd ((h x).1 (by simp)) (by simp)
 | x::l,y::m,h1,h2,h=>by
  obtain ⟨a1,a2⟩:=List.pairwise_cons.1 h1
  obtain ⟨b1,b2⟩:=List.pairwise_cons.1 h2
  have hxy:x=y:=by
   rcases List.mem_cons.1 ((h x).1 (by simp)) with e | hx
   ·exact e
   rcases List.mem_cons.1 ((h y).2 (by simp)) with e | hy
   ·exact e.symm
   have:=htr _ _ _ (a1 y hy) (b1 x hx);rw [hir] at this;cases this
  subst hxy
  congr 1
  refine tg hir htr a2 b2 fun z=>?_
  constructor
  ·intro hz
   rcases List.mem_cons.1 ((h z).1 (by simp [hz])) with rfl | hz2
   ·have:=a1 z hz;rw [hir] at this;cases this
   exact hz2
  intro hz
  rcases List.mem_cons.1 ((h z).2 (by simp [hz])) with rfl | hz2
  ·have:=b1 z hz;rw [hir] at this;cases this
  exact hz2
def ba (l:List α) (c:α):Bool:=l.any fun x=>decide (x=c)
theorem nO {l:List α} {c:α}:ba l c=true↔c∈l:=by unfold ba;rw [List.any_eq_true];exact ⟨fun ⟨x,h1,h2⟩=>of_decide_eq_true h2 ▸ h1,fun h=>⟨c,h,det rfl⟩⟩
theorem p7 {l:List α} {c:α}:ba l c=false↔c ∉ l:=by rw [← nO];simp
def ia (lt:α→α→Bool) (l:List α) (c:α):List α:=cond (ba l c) l (l.takeWhile (fun x=>lt x c)++c::l.dropWhile (fun x=>lt x c))
theorem vk (l:List α) (c z:α):z∈ia lt l c↔z=c∨z∈l:=by
 unfold ia
 cases h:ba l c
 ·rw [bI,List.mem_append,List.mem_cons]
  have:z∈l↔z∈l.takeWhile (fun x=>lt x c)∨z∈l.dropWhile (fun x=>lt x c):=by
   rw [← List.mem_append,List.takeWhile_append_dropWhile]
  rw [this]
  constructor
  ·rintro (h | h | h);exact .inr (.inl h);exact .inl h;exact .inr (.inr h)
  rintro (h | h | h);exact .inr (.inl h);exact .inl h;exact .inr (.inr h)
 have:=nO.1 h
 rw [bY]
 constructor
 ·exact fun h=>.inr h
 rintro (rfl | h);exact this;exact h
theorem p8 (htot:∀ x y,lt x y=false→lt y x=false→x=y) (htr:∀ x y z,lt x y=true→lt y z=true→lt x z=true) {l:List α} {c:α} (h:Strict lt l):Strict lt (ia lt l c):=by
 unfold ia
 cases hc:ba l c
 ·have hc:=p7.1 hc
  rw [bI]
  have hd:∀ z∈l.dropWhile (fun x=>lt x c),lt c z=true:=by
   have key:∀ m:List α,Strict lt m→c ∉ m→∀ z∈m.dropWhile (fun x=>lt x c),lt c z=true:=by
    intro m
    induction m with
    | nil=>intro _ _ z hz;cases hz
    | cons x m ih =>
     intro hm hcm z hz
     obtain ⟨m1,m2⟩:=List.pairwise_cons.1 hm
     rw [List.dropWhile_cons] at hz
     cases hx:lt x c
     ·rw [hx] at hz
      simp only [Bool.false_eq_true,if_false] at hz
      have hcx:lt c x=true:=by
       cases h2:lt c x
       ·exact absurd (htot x c hx h2) (fun e=>hcm (by simp [e]))
       rfl
      rcases List.mem_cons.1 hz with rfl | hz
      ·exact hcx
      exact htr _ _ _ hcx (m1 z hz)
     rw [hx] at hz
     simp only [if_true] at hz
     exact ih m2 (fun h=>hcm (by simp [h])) z hz
   exact key l h hc
  have ht:∀ z∈l.takeWhile (fun x=>lt x c),lt z c=true:=by
   have key:∀ m:List α,∀ z∈m.takeWhile (fun x=>lt x c),lt z c=true:=by
    intro m
    induction m with
    | nil=>intro z hz;cases hz
    | cons x m ih =>
     intro z hz
     rw [List.takeWhile_cons] at hz
     cases hx:lt x c
     ·rw [hx] at hz;cases hz
     rw [hx] at hz
     simp only [if_true] at hz
     rcases List.mem_cons.1 hz with rfl | hz
     ·exact hx
     exact ih z hz
   exact key l
  refine List.pairwise_append.2 ⟨h.sublist (List.takeWhile_sublist _),List.pairwise_cons.2 ⟨hd,h.sublist (List.dropWhile_sublist _)⟩,fun a ha b hb=>?_⟩
  rcases List.mem_cons.1 hb with rfl | hb
  ·exact ht a ha
  exact htr _ _ _ (ht a ha) (hd b hb)
 exact h
theorem lv (l:List α) (c:α):(ia lt l c).length≤l.length+1:=by
 unfold ia
 cases ba l c
 ·rw [bI,List.length_append,List.length_cons]
  have:=congrArg List.length (List.takeWhile_append_dropWhile (p:=fun x=>lt x c) (l:=l))
  rw [List.length_append] at this;omega
 exact Nat.le_succ _
def sd (lt:α→α→Bool) (l:List α):List α:=dd (ko lt l)
theorem Fc (l:List α) (z:α):z∈sd lt l↔z∈l:=by unfold sd;rw [AX,kB.mem_iff]
theorem Fd (l:List α):(sd lt l).length≤l.length:=by unfold sd;have:=Fb (ko lt l);rw [mq] at this;exact this
structure Ord (lt:α→α→Bool):Prop where
 irr:∀ x,lt x x=false
 tr:∀ x y z,lt x y=true→lt y z=true→lt x z=true
 ntr:∀ x y z,lt x y=false→lt y z=false→lt x z=false
 tot:∀ x y,lt x y=false→lt y x=false→x=y
theorem wO (o:Ord lt) (l:List α):Strict lt (sd lt l):=wN o.tot o.tr (lW o.tr o.ntr o.irr l)
theorem rS (o:Ord lt):∀ (l acc:List α),Strict lt acc→Strict lt (l.foldl (ia lt) acc)∧(∀ z,z∈l.foldl (ia lt) acc↔z∈acc∨z∈l)∧(l.foldl (ia lt) acc).length≤acc.length+l.length
 | [],acc,h=>⟨h,fun z=>by simp,by simp⟩
 | c::l,acc,h=>by
  obtain ⟨h1,h2,h3⟩:=rS o l (ia lt acc c) (p8 o.tot o.tr h)
  refine ⟨h1,fun z=>?_,?_⟩
  ·rw [List.foldl_cons,h2,vk,List.mem_cons]
   constructor
   ·rintro ((h | h) | h);exact .inr (.inl h);exact .inl h;exact .inr (.inr h)
   rintro (h | h | h);exact .inl (.inr h);exact .inl (.inl h);exact .inr h
  rw [List.foldl_cons,List.length_cons];have:=lv (lt:=lt) acc c;omega
theorem p9 (o:Ord lt) (l:List α):l.foldl (ia lt) []=sd lt l :=
 tg o.irr o.tr (rS o l [] List.Pairwise.nil).1 (wO o l) fun z=>by rw [(rS o l [] List.Pairwise.nil).2.1,Fc];simp
end
theorem AY:Ord iN:=⟨BT,EW,fun x y z h1 h2=>by
 rw [pz] at *;exact bK (List.not_lt.2 (List.le_trans (List.not_lt.1 (of_decide_eq_false h2)) (List.not_lt.1 (of_decide_eq_false h1)))),fun x y h1 h2=>by
 rw [pz] at h1 h2
 exact str_ext.2 (List.le_antisymm (List.not_lt.1 (of_decide_eq_false h2)) (List.not_lt.1 (of_decide_eq_false h1)))⟩
theorem ordC:Ord bw:=⟨pC,rb,pD,pE⟩
section
variable {α:Type} [DecidableEq α]
theorem B3 {p:List α} {n:Nat} (h0:1≤n) (h:n<p.length):dd (p.take (n+1))=cond (decide (p[n-1]'(by omega)=p[n])) (dd (p.take n)) (dd (p.take n)++[p[n]]):=by
 obtain ⟨m,rfl⟩:∃ m,n=m+1:=⟨n - 1,by omega⟩
 have e1:p.take (m+1)=p.take m++[p[m]'(by omega)]:=by rw [List.take_add_one,List.getElem?_eq_getElem (by omega)];rfl
 have e3:p.take (m+1+1)=p.take (m+1)++[p[m+1]]:=by rw [List.take_add_one,List.getElem?_eq_getElem h];rfl
 have e2:p.take (m+1+1)=p.take m++[p[m]'(by omega),p[m+1]]:=by rw [e3,e1,List.append_assoc];rfl
 rw [e2,ya,e1];rfl
structure CInv (p:List α) (v:Nat) (l:List α) (k i:Nat):Prop where
 i1:1≤i
 le:v+i≤p.length
 len:l.length=p.length
 kk:k=(dd (p.take (v+i))).length
 klt:k+1≤v+i
 pre:l.take k=dd (p.take (v+i))
 suf:∀ j,v+i≤j+1→l[j]?=p[j]?
theorem CInv.step {p l:List α} {v k i:Nat} (c:CInv p v l k i) (h:v+i<p.length) (hv:1≤v):∃ x y,l[v+i]?=some x∧l[v+i - 1]?=some y∧(decide (x=y)=true→CInv p v l k (i+1))∧(decide (x=y)=false→k<l.length∧CInv p v (l.set k x) (k+1) (i+1)):=by
 have hx:=c.suf (v+i) (by omega)
 have hy:=c.suf (v+i - 1) (by omega)
 rw [List.getElem?_eq_getElem h] at hx
 rw [List.getElem?_eq_getElem (show v+i - 1<p.length by omega)] at hy
 have hd:=B3 (p:=p) (n:=v+i) (by omega) h
 refine ⟨_,_,hx,hy,fun e=>?_,fun e=>?_⟩
 ·have e':decide (p[v+i - 1]'(by omega)=p[v+i])=true:=det (of_decide_eq_true e).symm
  rw [e',bY] at hd
  exact ⟨by omega,by omega,c.len,by rw [← Nat.add_assoc,hd];exact c.kk,by have:=c.klt;omega,by rw [← Nat.add_assoc,hd];exact c.pre,fun j hj=>c.suf j (by omega)⟩
 have e':decide (p[v+i - 1]'(by omega)=p[v+i])=false:=bK (fun q=>of_decide_eq_false e q.symm)
 rw [e',bI] at hd
 have hk:k<l.length:=by have:=c.klt;have:=c.len;omega
 refine ⟨hk,by omega,by omega,by rw [List.length_set];exact c.len,by rw [← Nat.add_assoc,hd,List.length_append,← c.kk];rfl,by have:=c.klt;omega,?_,fun j hj=>?_⟩
 ·rw [← Nat.add_assoc,hd,← c.pre]
  rw [List.take_add_one,List.getElem?_set]
  simp only [if_true,hk]
  rw [List.take_set_of_le (Nat.le_refl k)];rfl
 rw [List.getElem?_set,if_neg (by have:=c.klt;omega)];exact c.suf j (by omega)
theorem CInv.start {p:List α} {v:Nat} (hv:1≤v) (h:v<p.length) (he:p[v]=p[v-1]'(by omega)) (hb:∀ j,1≤j→(hj:j<v)→p[j]'(by omega)≠p[j-1]'(by omega)):CInv p v p v 1:=by
 have e1:dd (p.take v)=p.take v:=yb fun i hi=>by
  rw [List.length_take] at hi
  rw [List.getElem_take,List.getElem_take]
  have:=hb (i+1) (by omega) (by omega)
  exact fun e=>this e.symm
 have hd:=B3 (p:=p) (n:=v) hv h
 rw [det he.symm,bY,e1] at hd
 exact ⟨Nat.le_refl _,by omega,rfl,by rw [hd,List.length_take];omega,by omega,by rw [hd],fun j _=>rfl⟩
end
end SX
end Go.Proofs.YtgmbmepakpcpaaaGreatDoor
namespace Go.Proofs.YtgmbmepakpcpaaaGreatDoor
namespace SX
open Go
theorem yc {α:Type} (l:List α) (n:Nat):idx l (n:Int)=l[n]?:=by unfold idx;rw [if_pos (by omega)];simp
theorem th {α:Type} [DecidableEq α] (E:α→α→Bool) (hE:∀ x y,E x y=decide (x=y)) (z:α) (p:List α) (hp:p.length≤1000000000) :
    cond (decide (((p.length:Nat):Int)<2)) (some p) (Option.bind (aW (S:=Int) (T:=(Unit)⊕(List α)) (fun v2=>cond (decide (v2<((p.length:Nat):Int))) (Option.bind (idx p v2) (fun m7=>Option.bind (idx p (IntKind.i64.wrap (v2 - 1))) (fun m8=>cond (E m7 m8) (Option.bind (sub p v2 (p.length:Int)) (fun _=>Option.bind (aW (S:=(List α)×Int×Int) (T:=((List α)×Int)) (fun (l12,v13,v14)=>cond (decide (v14<((p.length - v2.toNat:Nat):Int))) (Option.bind (Option.bind (lf v14) (fun _=>Option.bind (idx l12 (v2+v14)) (fun m26=>Option.bind (lf (IntKind.i64.wrap (v14 - 1))) (fun _=>Option.bind (idx l12 (v2+(IntKind.i64.wrap (v14 - 1)))) (fun m28=>cond (!(E m26 m28)) (Option.bind (lf v14) (fun _=>Option.bind (idx l12 (v2+v14)) (fun m31=>Option.bind (idx l12 v13) (fun _=>some ((l12.set v13.toNat m31),(IntKind.i64.wrap (v13+1))))))) (some (l12,v13))))))) (fun (l22,v23)=>some (.inl (l22,v23,(IntKind.i64.wrap (v14+1)))))) (some (.inr (l12,v13)))) FUEL (p,v2,1)) (fun (l16,v17)=>Option.bind (sub l16 v17 (l16.length:Int)) (fun _=>Option.bind (sub (List.take v17.toNat l16++List.replicate (p.length - v17.toNat) z) 0 v17) (fun l35=>some (.inr (.inr l35))))))) (some (.inl (IntKind.i64.wrap (v2+1))))))) (some (.inr (.inl ())))) FUEL 1) (fun q=>match q with | .inl _=>some p | .inr e=>some e))=some (dd p):=by
  by_cases h2:p.length<2
  · rw [det (show ((p.length:Nat):Int)<2 by omega)]
    match p,h2 with
    | [],_=>rfl
    | [x],_=>rfl
  rw [bK (by omega),bI]
  have hl:Y (aW (S:=Int) (T:=(Unit)⊕(List α)) (fun v2=>cond (decide (v2<((p.length:Nat):Int))) (Option.bind (idx p v2) (fun m7=>Option.bind (idx p (IntKind.i64.wrap (v2 - 1))) (fun m8=>cond (E m7 m8) (Option.bind (sub p v2 (p.length:Int)) (fun _=>Option.bind (aW (S:=(List α)×Int×Int) (T:=((List α)×Int)) (fun (l12,v13,v14)=>cond (decide (v14<((p.length - v2.toNat:Nat):Int))) (Option.bind (Option.bind (lf v14) (fun _=>Option.bind (idx l12 (v2+v14)) (fun m26=>Option.bind (lf (IntKind.i64.wrap (v14 - 1))) (fun _=>Option.bind (idx l12 (v2+(IntKind.i64.wrap (v14 - 1)))) (fun m28=>cond (!(E m26 m28)) (Option.bind (lf v14) (fun _=>Option.bind (idx l12 (v2+v14)) (fun m31=>Option.bind (idx l12 v13) (fun _=>some ((l12.set v13.toNat m31),(IntKind.i64.wrap (v13+1))))))) (some (l12,v13))))))) (fun (l22,v23)=>some (.inl (l22,v23,(IntKind.i64.wrap (v14+1)))))) (some (.inr (l12,v13)))) FUEL (p,v2,1)) (fun (l16,v17)=>Option.bind (sub l16 v17 (l16.length:Int)) (fun _=>Option.bind (sub (List.take v17.toNat l16++List.replicate (p.length - v17.toNat) z) 0 v17) (fun l35=>some (.inr (.inr l35))))))) (some (.inl (IntKind.i64.wrap (v2+1))))))) (some (.inr (.inl ())))) FUEL 1) (fun t=>match t with | .inl _=>dd p=p | .inr e=>e=dd p):=by
    refine Y.loop (fun s:Int=>∃ v:Nat,s=(v:Int)∧1≤v∧v≤p.length∧∀ j,1≤j→(hj:j<v)→(hp:j<p.length)→p[j]≠p[j-1]'(by omega)) (fun s=>(p.length - s).toNat) ⟨1,rfl,by omega,by omega,fun j h1 h2=>by omega⟩ (by omega) fun s hs=>?_
    obtain ⟨v,rfl,h1,h3,h4⟩:=hs
    refine Y.cond (fun hc=>?_) (fun hc=>Y.ret (yb fun i hi=>?_))
    rotate_left
    · have hc:=of_decide_eq_false hc
      have:=h4 (i+1) (by omega) (by omega) hi
      exact fun e=>this e.symm
    have hv:v<p.length:=by have:=of_decide_eq_true hc;omega
    refine Y.idx rfl hv ?_
    refine Y.idx (n:=v - 1) (by rw [cH (by omega) (by omega)];omega) (by omega) ?_
    rw [hE]
    refine Y.cond (fun he=>?_) (fun he=>Y.ret ⟨⟨v+1,?_,by omega,by omega,fun j g1 g2 g3=>?_⟩,?_⟩)
    · rw [mB (Nat.le_of_lt hv) (Nat.le_refl _),bg]
      have he:=of_decide_eq_true he
      have c0:=CInv.start h1 hv he fun j g1 g2=>h4 j g1 g2 (by omega)
      refine Y.bind (P:=fun t:List α×Int=>∃ k:Nat,t.2=(k:Int)∧k≤p.length∧t.1.length=p.length∧t.1.take k=dd p) ?_ fun t ⟨k,t1,t2,t3,t4⟩=>?_
      · refine Y.loop (fun s:List α×Int×Int=>∃ k i:Nat,s.2.1=(k:Int)∧s.2.2=(i:Int)∧CInv p v s.1 k i) (fun s=>(p.length - v - s.2.2).toNat) ⟨v,1,rfl,rfl,c0⟩ (by dsimp only;omega) fun s hs=>?_
        obtain ⟨l,a,b⟩:=s
        obtain ⟨k,i,rfl,rfl,c⟩:=hs
        dsimp only at c ⊢
        have ci:=c.i1;have cl:=c.le;have ck:=c.klt;have cn:=c.len
        refine Y.cond (fun hc=>?_) (fun hc=>Y.ret ⟨k,rfl,by omega,c.len,?_⟩)
        rotate_left
        · have hc:=of_decide_eq_false hc
          have e:v+i=p.length:=by rw [Int.toNat_natCast] at hc;omega
          have:=c.pre
          rw [e,List.take_length] at this;exact this
        have hlt:v+i<p.length:=by have:=of_decide_eq_true hc;rw [Int.toNat_natCast] at this;omega
        obtain ⟨x,y,hx,hy,s1,s2⟩:=c.step hlt h1
        refine Y.bind (P:=fun t:List α×Int=>∃ k':Nat,t.2=(k':Int)∧CInv p v t.1 k' (i+1)) ?_ fun t ⟨k',t1,t2⟩=>Y.ret ⟨⟨k',i+1,t1,?_,t2⟩,?_⟩
        · refine Y.eq (ox i) ?_
          rw [show (v:Int)+(i:Int)=((v+i:Nat):Int) by omega]
          refine Y.eq (by rw [yc];exact hx) ?_
          rw [cH (r:=(i:Int) - 1) (by omega) (by omega),show (i:Int) - 1=((i - 1:Nat):Int) by omega]
          refine Y.eq (ox (i - 1)) ?_
          rw [show (v:Int)+((i - 1:Nat):Int)=((v+i - 1:Nat):Int) by omega]
          refine Y.eq (by rw [yc];exact hy) ?_
          rw [hE]
          refine Y.cond (fun hne=>?_) (fun hne=>Y.ret ⟨k,rfl,s1 (by simpa using hne)⟩)
          obtain ⟨hk,c2⟩:=s2 (by simpa using hne)
          refine Y.eq (ox i) (Y.eq (by rw [yc];exact hx) (Y.idx rfl hk (Y.ret ⟨k+1,?_,c2⟩)))
          show IntKind.i64.wrap ((k:Int)+1)=_;rw [cH (by omega) (by omega)];omega
        · show IntKind.i64.wrap ((i:Int)+1)=_;rw [cH (by omega) (by omega)];omega
        show ((p.length:Int) - v - IntKind.i64.wrap ((i:Int)+1)).toNat<((p.length:Int) - v - (i:Int)).toNat;rw [cH (by omega) (by omega)];omega
      obtain ⟨l,b⟩:=t
      dsimp only at t1 t3 t4 ⊢
      subst t1
      have e1:sub l (k:Int) (l.length:Int)=some ((l.take l.length).drop k):=mB (by omega) (Nat.le_refl _)
      rw [e1,bg,Int.toNat_natCast]
      have e2:sub (List.take k l++List.replicate (p.length - k) z) 0 (k:Int)=some (((List.take k l++List.replicate (p.length - k) z).take k).drop 0):=mB (a:=0) (by omega) (by simp;omega)
      rw [e2,bg]
      refine Y.ret ?_
      show ((List.take k l++List.replicate (p.length - k) z).take k).drop 0=dd p
      rw [List.drop_zero,List.take_append_of_le_length (by rw [List.length_take];omega),List.take_take,Nat.min_self,t4]
    · show IntKind.i64.wrap ((v:Int)+1)=_;rw [cH (by omega) (by omega)];omega
    · rcases Nat.lt_or_ge j v with h | h
      · exact h4 j g1 h g3
      have e:j=v:=by omega
      subst e;exact of_decide_eq_false he
    show ((p.length:Int) - IntKind.i64.wrap ((v:Int)+1)).toNat<((p.length:Int) - (v:Int)).toNat;rw [cH (by omega) (by omega)];omega
  obtain ⟨t,e,ht⟩:=hl
  rw [e]
  cases t with
  | inl u=>dsimp only at ht;rw [bg,ht]
  | inr u=>dsimp only at ht;rw [bg,ht]
theorem Fe (p:List ByteArray) (hp:p.length≤1000000000):dE p=some (dd p):=by
 refine Eq.trans ?_ (th (fun x y=>decide (x=y)) (fun _ _=>rfl) ByteArray.empty p hp)
 kernel_rfl
theorem B4 (x y:Za):Za.eqb x y=decide (x=y):=by
 cases h:Za.eqb x y
 ·exact (bK fun e=>by rw [Za.eqb_iff.2 e] at h;cases h).symm
 exact (det (Za.eqb_iff.1 h)).symm
theorem zM (p:List Za) (hp:p.length≤1000000000):bm p=some (dd p):=by
 refine Eq.trans ?_ (th Za.eqb B4 ⟨0,0⟩ p hp)
 kernel_rfl
theorem oA (l:List Za) (c:Za) (hl:l.length≤140737488355328):dX l c=some (ba l c):=by
 unfold dX
 refine (bJ (l:=l) (by omega) (fun _ x=>cond (Za.eqb x c) (some (.inr true)) none) (.inl ()) (fun k hk=>?_) (by simp only [cR,bI])).trans ?_
 ·simp only [ik hk,bY,aV hk,bg,bR hk (show l.length≤4611686018427387904 by omega)]
  cases Za.eqb l[k] c <;> rfl
 rw [qn (fun x=>Za.eqb x c)]
 have:(l.any fun x=>Za.eqb x c)=ba l c:=by unfold ba;congr 1;funext x;exact B4 x c
 rw [this];cases ba l c <;> rfl
theorem oB {α:Type} (P:α→Bool):∀ (l:List α) (k:Nat),k≤l.length→(∀ j x,l[j]?=some x→j<k→P x=true)→(∀ x,l[k]?=some x→P x=false)→l.takeWhile P=l.take k∧l.dropWhile P=l.drop k
 | [],k,h,_,_=>by simp at h;subst h;exact ⟨rfl,rfl⟩
 | x::l,0,_,_,h=>by rw [List.takeWhile_cons,List.dropWhile_cons,h x rfl];exact ⟨rfl,rfl⟩
 | x::l,k+1,h,h1,h2=>by
  obtain ⟨e1,e2⟩:=oB P l k (by simpa using h) (fun j y hy hj=>h1 (j+1) y (by simpa using hy) (by omega)) (fun y hy=>h2 y (by simpa using hy))
  rw [List.takeWhile_cons,List.dropWhile_cons,h1 0 x rfl (by omega)]
  simp only [if_true,List.take_succ_cons,List.drop_succ_cons]
  rw [e1,e2];exact ⟨rfl,rfl⟩
theorem sH (l:List Za) (c:Za) (hl:l.length≤1000000000):eC l c=some (ia bw l c):=by
 unfold eC ia
 rw [oA _ _ (by omega),bg]
 cases ba l c
 rotate_left
 ·rfl
 simp only [bI]
 have hw:Y (aW (S:=Int) (T:=(Int)) (fun v4=>Option.bind (gd (decide (v4<(l.length:Int))) (idx l v4)) (fun m8=>Option.bind (gd (decide (v4<(l.length:Int))) (kG m8 c)) (fun x9=>cond ((decide (v4<(l.length:Int)))&&x9) (some (.inl (IntKind.i64.wrap (v4+1)))) (some (.inr v4))))) FUEL 0) (fun t=>∃ k:Nat,t=(k:Int)∧k≤l.length∧l.takeWhile (fun x=>bw x c)=l.take k∧l.dropWhile (fun x=>bw x c)=l.drop k):=by
  refine Y.loop (fun s:Int=>∃ k:Nat,s=(k:Int)∧k≤l.length∧∀ j x,l[j]?=some x→j<k→bw x c=true) (fun s=>(l.length - s).toNat) ⟨0,rfl,by omega,fun j x _ h=>absurd h (Nat.not_lt_zero _)⟩ (by omega) fun s hs=>?_
  obtain ⟨k,rfl,h1,h2⟩:=hs
  rcases Nat.lt_or_ge k l.length with hk | hk
  ·rw [ik hk,cx,aV hk,bg,cx]
   have e:kG l[k] c=some (bw l[k] c):=by unfold kG bw;rfl
   rw [e,bg]
   cases hlt:bw l[k] c
   ·exact Y.ret ⟨k,rfl,h1,oB _ l k h1 h2 fun x hx=>by rw [List.getElem?_eq_getElem hk] at hx;injection hx with hx;rw [← hx];exact hlt⟩
   refine Y.ret ⟨⟨k+1,?_,by omega,fun j x hx hj=>?_⟩,?_⟩
   ·show IntKind.i64.wrap ((k:Int)+1)=_;rw [cH (by omega) (by omega)];omega
   ·rcases Nat.lt_or_ge j k with h | h
    ·exact h2 j x hx h
    have e:j=k:=by omega
    subst e;rw [List.getElem?_eq_getElem hk] at hx;injection hx with hx;rw [← hx];exact hlt
   show ((l.length:Int) - IntKind.i64.wrap ((k:Int)+1)).toNat<((l.length:Int) - (k:Int)).toNat;rw [cH (by omega) (by omega)];omega
  have e:k=l.length:=by omega
  subst e
  rw [cR,jx,bg,jx,bg]
  exact Y.ret ⟨l.length,rfl,h1,oB _ l _ h1 h2 fun x hx=>by have:=(List.getElem?_eq_some_iff.1 hx).1;omega⟩
 obtain ⟨t,e,k,rfl,h1,h2,h3⟩:=hw
 rw [e,bg]
 have s1:sub l 0 (k:Int)=some ((l.take k).drop 0):=mB (a:=0) (by omega) h1
 have s2:sub l (k:Int) (l.length:Int)=some ((l.take l.length).drop k):=mB h1 (Nat.le_refl _)
 rw [s1,bg,s2,bg,List.drop_zero,List.take_length,js (by rw [List.length_take];omega) (by omega),bg,cS (by simp;omega) (by simp;omega),bg,cS (by simp;omega) (by simp;omega),bg,h2,h3,List.append_assoc];rfl
theorem wP (l:List ByteArray) (c:ByteArray) (hl:l.length≤1000000000) (hs:Strict iN l):kF l c=some (ia iN l c):=by
 unfold kF ia
 have hw:Y (aW (S:=Int) (T:=(ByteArray×Int)) (fun v1=>Option.bind (gd (decide (v1<(l.length:Int))) (idx l v1)) (fun m6=>cond ((decide (v1<(l.length:Int)))&&(Op.bytesLess m6.toList c.toList)) (some (.inl (IntKind.i64.wrap (v1+1)))) (some (.inr (c,v1))))) FUEL 0) (fun t=>t.1=c∧∃ k:Nat,t.2=(k:Int)∧k≤l.length∧(∀ j x,l[j]?=some x→j<k→iN x c=true)∧(∀ x,l[k]?=some x→iN x c=false)):=by
  refine Y.loop (fun s:Int=>∃ k:Nat,s=(k:Int)∧k≤l.length∧∀ j x,l[j]?=some x→j<k→iN x c=true) (fun s=>(l.length - s).toNat) ⟨0,rfl,by omega,fun j x _ h=>absurd h (Nat.not_lt_zero _)⟩ (by omega) fun s hs=>?_
  obtain ⟨k,rfl,h1,h2⟩:=hs
  rcases Nat.lt_or_ge k l.length with hk | hk
  ·rw [ik hk,cx,aV hk,bg]
   cases hlt:iN l[k] c
   ·have hlt':Op.bytesLess l[k].toList c.toList=false:=hlt
    rw [hlt']
    exact Y.ret ⟨rfl,k,rfl,h1,h2,fun x hx=>by rw [List.getElem?_eq_getElem hk] at hx;injection hx with hx;rw [← hx];exact hlt⟩
   have hlt':Op.bytesLess l[k].toList c.toList=true:=hlt
   rw [hlt']
   refine Y.ret ⟨⟨k+1,?_,by omega,fun j x hx hj=>?_⟩,?_⟩
   ·show IntKind.i64.wrap ((k:Int)+1)=_;rw [cH (by omega) (by omega)];omega
   ·rcases Nat.lt_or_ge j k with h | h
    ·exact h2 j x hx h
    have e:j=k:=by omega
    subst e;rw [List.getElem?_eq_getElem hk] at hx;injection hx with hx;rw [← hx];exact hlt
   show ((l.length:Int) - IntKind.i64.wrap ((k:Int)+1)).toNat<((l.length:Int) - (k:Int)).toNat;rw [cH (by omega) (by omega)];omega
  have e:k=l.length:=by omega
  subst e
  rw [cR,jx,bg]
  exact Y.ret ⟨rfl,l.length,rfl,h1,h2,fun x hx=>by have:=(List.getElem?_eq_some_iff.1 hx).1;omega⟩
 obtain ⟨⟨t1,t2⟩,e,rfl,k,hk,h1,h2,h3⟩:=hw
 dsimp only at hk
 subst hk
 obtain ⟨w1,w2⟩:=oB (fun x=>iN x t1) l k h1 h2 h3
 rw [e,bg]
 dsimp only
 have key:t1∈l↔l[k]?=some t1:=by
  constructor
  ·intro hm
   obtain ⟨j,hj,hjt⟩:=List.getElem_of_mem hm
   have hjk:k≤j:=by
    rcases Nat.lt_or_ge j k with h | h
    ·have:=h2 j l[j] (List.getElem?_eq_getElem hj) h;rw [hjt,BT] at this;cases this
    exact h
   rcases Nat.lt_or_ge k j with h | h
   ·have hkl:k<l.length:=by omega
    have g1:=h3 l[k] (List.getElem?_eq_getElem hkl)
    have g2:=(List.pairwise_iff_getElem.1 hs) k j hkl hj h
    rw [hjt,g1] at g2;cases g2
   have e:j=k:=by omega
   subst e;rw [List.getElem?_eq_getElem hj,hjt]
  exact fun h=>List.mem_of_getElem? h
 rcases Nat.lt_or_ge k l.length with hkl | hkl
 ·rw [ik hkl,cx,aV hkl,bg,Bool.true_and]
  by_cases hm:l[k]=t1
  ·rw [det hm,nO.2 (key.2 (by rw [List.getElem?_eq_getElem hkl,hm]))];rfl
  rw [bK hm,p7.2 (fun h=>hm (by have:=key.1 h;rw [List.getElem?_eq_getElem hkl] at this;injection this))]
  simp only [bI]
  have s1:sub l 0 (k:Int)=some ((l.take k).drop 0):=mB (a:=0) (by omega) h1
  have s2:sub l (k:Int) (l.length:Int)=some ((l.take l.length).drop k):=mB h1 (Nat.le_refl _)
  rw [s1,bg,s2,bg,List.drop_zero,List.take_length,js (by rw [List.length_take];omega) (by omega),bg,cS (by simp;omega) (by simp;omega),bg,cS (by simp;omega) (by simp;omega),bg,w1,w2,List.append_assoc];rfl
 have e:k=l.length:=by omega
 subst e
 rw [cR,jx,bg,Bool.false_and,p7.2 (fun h=>by have:=key.1 h;rw [List.getElem?_eq_none (Nat.le_refl _)] at this;cases this)]
 simp only [bI]
 have s1:sub l 0 ((l.length:Nat):Int)=some ((l.take l.length).drop 0):=mB (a:=0) (by omega) h1
 have s2:sub l ((l.length:Nat):Int) (l.length:Int)=some ((l.take l.length).drop l.length):=mB h1 (Nat.le_refl _)
 rw [s1,bg,s2,bg,List.drop_zero,List.take_length,js (by omega) (by omega),bg,cS (by simp;omega) (by simp;omega),bg,cS (by simp;omega) (by simp;omega),bg,w1,w2,List.append_assoc,List.take_length];rfl
def ns (a b:List ByteArray):List ByteArray:=sd iN (a++b)
theorem concat2 (a b:List ByteArray) (h:a.length+b.length≤1000000):cQ [a,b]=some (a++b):=by
 unfold cQ em
 refine (jU (l:=[a,b]) (by simp) (fun i (s:Nat)=>((s:Int),i)) (fun _ x s=>(.inl (s+x.length):Nat⊕Empty)) (fun (s:Nat)=>(s:Int)) noE (fun k s=>s≤1000000∧s=([a,b].take k).flatten.length) 0 ⟨by omega,rfl⟩ (fun k hk s hs=>⟨?_,fun s' h'=>?_⟩) (fun s _=>by simp only [cR,bI])).trans ?_
 ·have hb:s+([a,b][k]).length≤1000000:=by
   obtain ⟨_,e⟩:=hs
   match k,hk with
   | 0,_=>simp at e;subst e;simp;omega
   | 1,_=>simp at e;subst e;simp;omega
  simp only [ik hk,bY,aV hk,bg,bR hk (show [a,b].length≤4611686018427387904 by simp),zi]
  rw [cH (by omega) (by omega),bK (by omega)]
  simp only [bI,Int.natCast_add]
 ·injection h' with h'
  obtain ⟨h1,h2⟩:=hs
  subst h'
  match k,hk with
  | 0,_=>simp at h2 ⊢;subst h2;simp;omega
  | 1,_=>simp at h2 ⊢;subst h2;omega
 show Option.bind (Option.bind (CM 16 ((0+a.length+b.length:Nat):Int)) _) _=_
 rw [AK (by omega) (by omega),bg,bg]
 refine (cb (l:=[a,b]) (by simp) (fun i (s:List ByteArray)=>(s,i)) (fun s x=>s++x) (fun s=>s) (fun k s=>s=([a,b].take k).flatten) [] rfl (fun k hk s hs=>⟨?_,?_⟩) (fun s _=>by simp only [cR,bI])).1.trans ?_
 ·have hb:s.length+([a,b][k]).length≤1000000:=by
   match k,hk with
   | 0,_=>simp at hs;subst hs;simp;omega
   | 1,_=>simp at hs;subst hs;simp;omega
  simp only [ik hk,bY,aV hk,bg,bR hk (show [a,b].length≤4611686018427387904 by simp)]
  rw [cS (by omega) (by omega)];rfl
 ·match k,hk with
  | 0,_=>simp at hs;subst hs;simp
  | 1,_=>simp at hs;subst hs;simp
 simp
theorem AZ (a b:List ByteArray) (h:a.length+b.length≤1000000):jF a b=some (ns a b):=by
 unfold jF
 rw [concat2 a b h,bg]
 show Option.bind (some (ko iN (a++b))) _=_
 rw [bg,Fe _ (by rw [mq];simp;omega)];rfl
theorem C1 (a b:List ByteArray) (h:a.length+b.length≤1000000):jz a b=some (ns a b):=by
 unfold jz
 have ha:=rS AY a [] List.Pairwise.nil
 refine (cb (l:=a) (by omega) (fun i (s:List ByteArray)=>(s,i)) (ia iN) (fun s=>(b,s)) (fun k s=>Strict iN s∧s.length≤k) [] ⟨List.Pairwise.nil,by simp⟩ (fun k hk s hs=>⟨?_,p8 AY.tot AY.tr hs.1,by have:=lv (lt:=iN) s a[k];omega⟩) (fun s _=>by simp only [cR,bI])).1.trans ?_
 ·simp only [ik hk,bY,aV hk,bg,bR hk (show a.length≤4611686018427387904 by omega)]
  rw [wP _ _ (by omega) hs.1];rfl
 dsimp only
 refine (cb (l:=b) (by omega) (fun i (s:List ByteArray)=>(s,i)) (ia iN) (fun s=>s) (fun k s=>Strict iN s∧s.length≤a.length+k) (a.foldl (ia iN) []) ⟨ha.1,by have:=ha.2.2;simpa using this⟩ (fun k hk s hs=>⟨?_,p8 AY.tot AY.tr hs.1,by have:=lv (lt:=iN) s b[k];omega⟩) (fun s _=>by simp only [cR,bI])).1.trans ?_
 ·simp only [ik hk,bY,aV hk,bg,bR hk (show b.length≤4611686018427387904 by omega)]
  rw [wP _ _ (by omega) hs.1];rfl
 unfold ns
 rw [← p9 AY,List.foldl_append]
def U64 (a:Int):Prop:=0≤a∧a<18446744073709551616
theorem wu (a:Int):IntKind.u64.wrap a=a % 18446744073709551616:=rfl
theorem fj {a:Int} (h:U64 a):IntKind.u64.wrap a=a:=by rw [wu];unfold U64 at h;omega
theorem bv64 {a:Int} (h:U64 a):(BitVec.ofInt 64 a).toNat=a.toNat:=by
 rw [BitVec.toNat_ofInt];unfold U64 at h;omega
theorem B5 {a b:Int} (ha:U64 a) (hb:U64 b):dw .u64 a b=((a.toNat &&& b.toNat:Nat):Int):=by
 have hlt:a.toNat &&& b.toNat<18446744073709551616:=Nat.lt_of_le_of_lt Nat.and_le_left (by unfold U64 at ha;omega)
 have e:dw .u64 a b=IntKind.u64.wrap (((BitVec.ofInt 64 a &&& BitVec.ofInt 64 b).toNat:Nat):Int):=rfl
 rw [e,BitVec.toNat_and,bv64 ha,bv64 hb,fj]
 exact ⟨by omega,by omega⟩
theorem Ff {a b:Int} (ha:U64 a) (hb:U64 b):nQ .u64 a b=((a.toNat ||| b.toNat:Nat):Int):=by
 have hlt:a.toNat ||| b.toNat<2 ^ 64:=Nat.or_lt_two_pow (by unfold U64 at ha;omega) (by unfold U64 at hb;omega)
 have e:nQ .u64 a b=IntKind.u64.wrap (((BitVec.ofInt 64 a ||| BitVec.ofInt 64 b).toNat:Nat):Int):=rfl
 rw [e,BitVec.toNat_or,bv64 ha,bv64 hb,fj]
 exact ⟨by omega,by omega⟩
theorem qa {a:Int} (h:U64 a):dw .u64 a 4294967295=a % 4294967296:=by
 rw [B5 h ⟨by omega,by omega⟩]
 have:a.toNat &&& (4294967295:Int).toNat=a.toNat % 4294967296:=Nat.and_two_pow_sub_one_eq_mod (n:=32) a.toNat
 rw [this];unfold U64 at h;omega
theorem vl {a:Int} (h:U64 a):dw .u64 a 1=a % 2:=by
 rw [B5 h ⟨by omega,by omega⟩]
 have:a.toNat &&& (1:Int).toNat=a.toNat % 2:=Nat.and_two_pow_sub_one_eq_mod (n:=1) a.toNat
 rw [this];unfold U64 at h;omega
theorem B6 {a:Int}:cu .u64 a 32=a / 4294967296:=Int.fdiv_eq_ediv_of_nonneg a (show (0:Int)≤4294967296 by omega)
theorem mul64 {a b:Int} (ha:U64 a) (hb:U64 b):∃ h l,gY a b=some (h,l)∧U64 h∧U64 l∧h*18446744073709551616+l=a*b:=by
 unfold gY lb
 rw [qa ha,qa hb]
 simp only [B6]
 unfold U64 at ha hb
 have ea:a=4294967296*(a / 4294967296)+a % 4294967296:=by omega
 have eb:b=4294967296*(b / 4294967296)+b % 4294967296:=by omega
 have h1:0≤a / 4294967296∧a / 4294967296<4294967296:=by omega
 have h2:0≤a % 4294967296∧a % 4294967296<4294967296:=by omega
 have h3:0≤b / 4294967296∧b / 4294967296<4294967296:=by omega
 have h4:0≤b % 4294967296∧b % 4294967296<4294967296:=by omega
 generalize a / 4294967296=x1 at *
 generalize a % 4294967296=x0 at *
 generalize b / 4294967296=y1 at *
 generalize b % 4294967296=y0 at *
 subst ea eb
 have p00:0≤x0*y0∧x0*y0≤4294967295*4294967295:=⟨Int.mul_nonneg h2.1 h4.1,Int.mul_le_mul (by omega) (by omega) h4.1 (by omega)⟩
 have p01:0≤x0*y1∧x0*y1≤4294967295*4294967295:=⟨Int.mul_nonneg h2.1 h3.1,Int.mul_le_mul (by omega) (by omega) h3.1 (by omega)⟩
 have p10:0≤x1*y0∧x1*y0≤4294967295*4294967295:=⟨Int.mul_nonneg h1.1 h4.1,Int.mul_le_mul (by omega) (by omega) h4.1 (by omega)⟩
 have p11:0≤x1*y1∧x1*y1≤4294967295*4294967295:=⟨Int.mul_nonneg h1.1 h3.1,Int.mul_le_mul (by omega) (by omega) h3.1 (by omega)⟩
 have e:(4294967296*x1+x0)*(4294967296*y1+y0)=18446744073709551616*(x1*y1)+4294967296*(x1*y0)+4294967296*(x0*y1)+x0*y0:=by
  rw [Int.add_mul,Int.mul_add,Int.mul_add]
  have t1:4294967296*x1*(4294967296*y1)=18446744073709551616*(x1*y1):=by
   rw [Int.mul_assoc,← Int.mul_assoc x1,Int.mul_comm x1 4294967296,Int.mul_assoc 4294967296 x1,← Int.mul_assoc];rfl
  have t2:4294967296*x1*y0=4294967296*(x1*y0):=Int.mul_assoc _ _ _
  have t3:x0*(4294967296*y1)=4294967296*(x0*y1):=by rw [← Int.mul_assoc,Int.mul_comm x0,Int.mul_assoc]
  rw [t1,t2,t3];omega
 rw [e]
 generalize x0*y0=p at *
 generalize x0*y1=q at *
 generalize x1*y0=r at *
 generalize x1*y1=s at *
 refine ⟨_,_,rfl,?_,?_,?_⟩
 all_goals simp only [wu,U64]
 all_goals first | omega | (rw [qa (by unfold U64;omega)];omega)
def rv (w:Zl):Int:=w.Hi*18446744073709551616+w.Lo
def RW (w:Zl):Prop:=U64 w.Hi∧U64 w.Lo
theorem tU {p q:Zl} (hp:RW p) (hq:RW q):∃ w b,gE p q=some (w,b)∧RW w∧(rv p+rv q<340282366920938463463374607431768211456→rv w=rv p+rv q):=by
 obtain ⟨ph,pl⟩:=p;obtain ⟨qh,ql⟩:=q
 obtain ⟨⟨a1,a2⟩,⟨a3,a4⟩⟩:=hp
 obtain ⟨⟨b1,b2⟩,⟨b3,b4⟩⟩:=hq
 simp only at a1 a2 a3 a4 b1 b2 b3 b4
 unfold gE lb
 dsimp only
 by_cases h:IntKind.u64.wrap (pl+ql)<pl
 ·rw [det h]
  simp only [bY,bg]
  refine ⟨_,_,rfl,?_,?_⟩
  ·simp only [RW,U64,wu];omega
  rw [wu] at h;simp only [rv,wu];omega
 rw [bK h]
 simp only [bI,bg]
 refine ⟨_,_,rfl,?_,?_⟩
 ·simp only [RW,U64,wu];omega
 rw [wu] at h;simp only [rv,wu];omega
theorem oC {a n:Int} (h:n.toNat≤64):cu .u64 a n=a / 2 ^ n.toNat:=by
 have e:cu .u64 a n=a.fdiv (2 ^ min n.toNat 64):=rfl
 rw [e,Nat.min_eq_left h]
 exact Int.fdiv_eq_ediv_of_nonneg a (Int.le_of_lt (Int.pow_pos (by omega)))
theorem wQ (b:Int) (k:Nat):b / 2 ^ k=2*(b / 2 ^ (k+1))+b / 2 ^ k % 2:=by
 have:b / 2 ^ (k+1)=b / 2 ^ k / 2:=by rw [Int.pow_succ,Int.ediv_ediv_of_nonneg (Int.le_of_lt (Int.pow_pos (by omega)))]
 rw [this];omega
theorem B7 {a b:Int} (ha:U64 a) (hb:U64 b):∃ w,jA a b=some w∧RW w∧rv w=a*b:=by
 unfold jA
 obtain ⟨t,h5,h6⟩:=mr (body:=fun (v3,v4,v5)=>cond (decide (0≤v3)) (Option.bind (Option.bind (gE (⟨v4,v5⟩:Zl) (⟨v4,v5⟩:Zl)) (fun x14=>Option.bind (lf v3) (fun u15=>cond ((dw .u64 (cu .u64 b v3) 1) == 1) (Option.bind (gE x14.1 (⟨0,a⟩:Zl)) (fun x17=>some (x17.1.Hi,x17.1.Lo))) (some (x14.1.Hi,x14.1.Lo))))) (fun (v11,v12)=>some (.inl ((IntKind.i64.wrap (v3 - 1)),v11,v12)))) (some (.inr (v4,v5))))
  (fun s:Int×Int×Int => -1≤s.1∧s.1≤63∧RW ⟨s.2.1,s.2.2⟩∧rv ⟨s.2.1,s.2.2⟩=a*(b / 2 ^ (s.1+1).toNat)) (fun s=>(s.1+1).toNat) (fun t:Int×Int=>RW ⟨t.1,t.2⟩∧rv ⟨t.1,t.2⟩=a*b)
  (fun s hs=>by
   obtain ⟨v,x,y⟩:=s
   obtain ⟨a1,a2,a3,a4⟩:=hs
   dsimp only at a1 a2 a3 a4 ⊢
   by_cases h0:0≤v
   ·left
    obtain ⟨k,rfl⟩:∃ k:Nat,v=(k:Int):=⟨v.toNat,by omega⟩
    have ek:((k:Int)+1).toNat=k+1:=by omega
    rw [ek] at a4
    have hs:=wQ b k
    have hbk:0≤b / 2 ^ k:=Int.ediv_nonneg hb.1 (Int.le_of_lt (Int.pow_pos (by omega)))
    have hbk2:b / 2 ^ k≤b:=Int.ediv_le_self _ hb.1
    have hm:a*(b / 2 ^ k)=2*(a*(b / 2 ^ (k+1)))+a*(b / 2 ^ k % 2):=by
     have:=congrArg (a * ·) hs
     simp only [Int.mul_add] at this
     rw [this,← Int.mul_assoc,Int.mul_comm a 2,Int.mul_assoc]
    have hle:a*(b / 2 ^ k)≤18446744073709551615*18446744073709551615:=Int.mul_le_mul (by unfold U64 at ha;omega) (by unfold U64 at hb;omega) hbk (by omega)
    have hnn:0≤a*(b / 2 ^ k % 2):=Int.mul_nonneg ha.1 (by omega)
    rw [det h0]
    simp only [bY]
    obtain ⟨w,o,c1,c2,c3⟩:=tU a3 a3
    have c3:=c3 (by omega)
    rw [oI c1]
    have hg:lf (k:Int)=some ():=by unfold lf;rw [if_pos h0]
    rw [oI hg,oC (by omega),Int.toNat_natCast,vl ⟨hbk,by unfold U64 at hb;omega⟩,cH (by omega) (by omega)]
    rcases (by omega:b / 2 ^ k % 2=0∨b / 2 ^ k % 2=1) with e | e
    ·rw [e] at hm ⊢
     refine ⟨_,rfl,⟨by dsimp only;omega,by dsimp only;omega,c2,?_⟩,by dsimp only;omega⟩
     have:((k:Int) - 1+1).toNat=k:=by omega
     dsimp only;rw [this,hm];show rv w=_;omega
    rw [e] at hm ⊢
    obtain ⟨w2,o2,d1,d2,d3⟩:=tU (p:=w) (q:=⟨0,a⟩) c2 ⟨⟨by simp,by simp⟩,ha⟩
    have e0:rv ⟨0,a⟩=a:=by simp [rv]
    rw [e0] at d3
    have d3:=d3 (by omega)
    simp only [beq_self_eq_true,bY]
    rw [oI d1]
    refine ⟨_,rfl,⟨by dsimp only;omega,by dsimp only;omega,d2,?_⟩,by dsimp only;omega⟩
    have:((k:Int) - 1+1).toNat=k:=by omega
    dsimp only;rw [this,hm];show rv w2=_;omega
   right
   rw [bK h0]
   have:v = -1:=by omega
   subst this
   refine ⟨_,rfl,a3,?_⟩
   rw [a4];simp)
  FUEL (63,0,0) ⟨by simp,by simp,⟨⟨by simp,by simp⟩,⟨by simp,by simp⟩⟩,by
   have:b / 18446744073709551616=0:=Int.ediv_eq_zero_of_lt hb.1 hb.2
   simp [rv,this]⟩ (jT (by simp))
 obtain ⟨t1,t2⟩:=t
 rw [oI h5]
 exact ⟨_,rfl,h6.1,h6.2⟩
theorem iand63:∀ {n:Nat},n<128→dw .i64 (n:Int) 63=((n % 64:Nat):Int):=by decide
theorem Fg {a:Int} (h:U64 a):ff .u64 a 1=(2*a) % 18446744073709551616:=by
 have e:ff .u64 a 1=IntKind.u64.wrap (a*2):=rfl
 rw [e,wu,Int.mul_comm]
theorem B8 {a b:Int} (ha:U64 a) (h2:a % 2=0) (hb:b=0∨b=1):nQ .u64 a b=a+b:=by
 rw [Ff ha (by rcases hb with rfl | rfl <;> exact ⟨by omega,by omega⟩)]
 unfold U64 at ha
 rcases hb with rfl | rfl
 ·simp;omega
 have:a.toNat ||| (1:Int).toNat=a.toNat+1:=by
  have e:a.toNat=2 ^ 1*(a.toNat / 2):=by omega
  have:=Nat.two_pow_add_eq_or_of_lt (i:=1) (b:=1) (by omega) (a.toNat / 2)
  rw [← e] at this
  exact this.symm
 rw [this];omega
theorem bit_lo {h l:Int} (hl:U64 l) {k:Nat} (hk:k<64):(h*18446744073709551616+l) / 2 ^ k % 2=l / 2 ^ k % 2:=by
 have e:(18446744073709551616:Int)=2 ^ k*(2*2 ^ (63 - k)):=by
  have:(2:Int) ^ k*(2*2 ^ (63 - k))=2 ^ (k+(1+(63 - k))):=by rw [Int.pow_add,Int.pow_add];rfl
  rw [this,show k+(1+(63 - k))=64 by omega];rfl
 have hp:(2:Int) ^ k≠0:=Int.ne_of_gt (Int.pow_pos (by omega))
 rw [e,show h*(2 ^ k*(2*2 ^ (63 - k)))+l=l+2 ^ k*(2*(h*2 ^ (63 - k))) by rw [Int.add_comm,Int.mul_left_comm h,Int.mul_left_comm h 2],Int.add_mul_ediv_left _ _ hp,Int.add_mul_emod_self_left]
theorem bit_hi {h l:Int} (hl:U64 l) {k:Nat} (hk:64≤k):(h*18446744073709551616+l) / 2 ^ k=h / 2 ^ (k - 64):=by
 have e:(2:Int) ^ k=18446744073709551616*2 ^ (k - 64):=by
  have:(18446744073709551616:Int)*2 ^ (k - 64)=2 ^ (64+(k - 64)):=by rw [Int.pow_add];rfl
  rw [this,show 64+(k - 64)=k by omega]
 rw [e,← Int.ediv_ediv_of_nonneg (by omega)]
 congr 1
 unfold U64 at hl;omega
theorem A0 {p:Zl} {d:Int} (hp:RW p) (hd:U64 d) (h1:1≤d):∃ q r,j0 p d=some (q,r)∧RW q∧rv q=rv p / d∧r=rv p % d:=by
 have hN:0≤rv p∧rv p<340282366920938463463374607431768211456:=by obtain ⟨⟨a,b⟩,⟨c,e⟩⟩:=hp;unfold rv;omega
 unfold j0
 obtain ⟨t,h5,h6⟩:=mr (body:=fun (v4,v5,v6,v7)=>cond (decide (0≤v5)) (Option.bind (Option.bind (lf (dw .i64 v5 63)) (fun u18=>lb ((dw .u64 (cu .u64 p.Lo (dw .i64 v5 63)) 1)) (fun w19=>Option.bind (cond (decide (63<v5)) (Option.bind (lf (IntKind.i64.wrap (v5 - 64))) (fun u23=>lb ((dw .u64 (cu .u64 p.Hi (IntKind.i64.wrap (v5 - 64))) 1)) (fun w24=>some w24))) (some w19)) (fun v20=>Option.bind (gE (⟨v6,v7⟩:Zl) (⟨v6,v7⟩:Zl)) (fun x25=>cond (((cu .u64 v4 63) == 1)||(decide (d≤(nQ .u64 (ff .u64 v4 1) v20)))) (lb ((IntKind.u64.wrap ((nQ .u64 (ff .u64 v4 1) v20) - d))) (fun w27=>some (w27,x25.1.Hi,(nQ .u64 x25.1.Lo 1)))) (some ((nQ .u64 (ff .u64 v4 1) v20),x25.1.Hi,x25.1.Lo))))))) (fun (v14,v15,v16)=>some (.inl (v14,(IntKind.i64.wrap (v5 - 1)),v15,v16)))) (some (.inr (v4,v6,v7))))
  (fun s:Int×Int×Int×Int => -1≤s.2.1∧s.2.1≤127∧RW ⟨s.2.2.1,s.2.2.2⟩∧0≤s.1∧s.1<d∧rv p / 2 ^ (s.2.1+1).toNat=rv ⟨s.2.2.1,s.2.2.2⟩ * d+s.1) (fun s=>(s.2.1+1).toNat) (fun t:Int×Int×Int=>RW ⟨t.2.1,t.2.2⟩∧0≤t.1∧t.1<d∧rv p=rv ⟨t.2.1,t.2.2⟩ * d+t.1)
  (fun s hs=>by
   obtain ⟨v4,v5,x,y⟩:=s
   obtain ⟨a1,a2,a3,a4,a5,a6⟩:=hs
   dsimp only at a1 a2 a3 a4 a5 a6 ⊢
   by_cases h0:0≤v5
   ·left
    obtain ⟨k,rfl⟩:∃ k:Nat,v5=(k:Int):=⟨v5.toNat,by omega⟩
    have ek:((k:Int)+1).toNat=k+1:=by omega
    rw [ek] at a6
    have hs:=wQ (rv p) k
    generalize hbit:rv p / 2 ^ k % 2=bit at hs
    have hb01:bit=0∨bit=1:=by omega
    rw [det h0,iand63 (by omega)]
    simp only [bY]
    have hg:lf ((k % 64:Nat):Int)=some ():=by unfold lf;rw [if_pos (by omega)]
    rw [oI hg]
    unfold lb
    have hv:(cond (decide (63<(k:Int))) (Option.bind (lf (IntKind.i64.wrap ((k:Int) - 64))) (fun _=>some (dw .u64 (cu .u64 p.Hi (IntKind.i64.wrap ((k:Int) - 64))) 1))) (some (dw .u64 (cu .u64 p.Lo ((k % 64:Nat):Int)) 1)))=some bit:=by
     by_cases hk:63<(k:Int)
     ·rw [det hk,cH (by omega) (by omega)]
      have hg2:lf ((k:Int) - 64)=some ():=by unfold lf;rw [if_pos (by omega)]
      simp only [bY]
      rw [oI hg2,oC (by omega),show ((k:Int) - 64).toNat=k - 64 by omega,vl ⟨Int.ediv_nonneg hp.1.1 (Int.le_of_lt (Int.pow_pos (by omega))),Int.lt_of_le_of_lt (Int.ediv_le_self _ hp.1.1) hp.1.2⟩,← hbit]
      unfold rv;rw [bit_hi hp.2 (by omega)]
     rw [bK hk]
     simp only [bI]
     rw [oC (by omega),Int.toNat_natCast,Nat.mod_eq_of_lt (by omega),vl ⟨Int.ediv_nonneg hp.2.1 (Int.le_of_lt (Int.pow_pos (by omega))),Int.lt_of_le_of_lt (Int.ediv_le_self _ hp.2.1) hp.2.2⟩,← hbit]
     unfold rv;rw [bit_lo hp.2 (by omega)]
    dsimp only
    rw [oI hv]
    obtain ⟨w,o,c1,c2,c3⟩:=tU a3 a3
    have hq0:0≤rv ⟨x,y⟩:=by obtain ⟨⟨b1,b2⟩,⟨b3,b4⟩⟩:=a3;unfold rv;dsimp only at *;omega
    have hqd:rv ⟨x,y⟩≤rv ⟨x,y⟩ * d:=by have:=Int.mul_le_mul_of_nonneg_left h1 hq0;omega
    have hle:rv p / 2 ^ k≤rv p:=Int.ediv_le_self _ hN.1
    have c3:=c3 (by omega)
    rw [oI c1]
    have hu4:U64 v4:=⟨a4,by unfold U64 at hd;omega⟩
    have hsh:cu .u64 v4 63=v4 / 9223372036854775808:=oC (by omega)
    have hlow:nQ .u64 (ff .u64 v4 1) bit=(2*v4) % 18446744073709551616+bit:=by rw [Fg hu4];exact B8 ⟨by omega,by omega⟩ (by omega) hb01
    rw [hlow,hsh,cH (by omega) (by omega)]
    have ekk:((k:Int) - 1+1).toNat=k:=by omega
    unfold U64 at hd hu4
    by_cases hT:d≤2*v4+bit
    ·have hc:((v4 / 9223372036854775808 == 1)||decide (d≤(2*v4) % 18446744073709551616+bit))=true:=by
      simp only [Bool.or_eq_true,beq_iff_eq,decide_eq_true_eq];omega
     rw [hc]
     simp only [bY]
     obtain ⟨⟨e1,e2⟩,⟨e3,e4⟩⟩:=c2
     have hev:w.Lo % 2=0:=by unfold rv at c3;dsimp only at c3;omega
     rw [B8 ⟨e3,e4⟩ hev (.inr rfl),wu]
     refine ⟨_,rfl,⟨by dsimp only;omega,by dsimp only;omega,⟨⟨e1,e2⟩,⟨by dsimp only;omega,by dsimp only;omega⟩⟩,by dsimp only;omega,by dsimp only;omega,?_⟩,by dsimp only;omega⟩
     dsimp only
     rw [ekk,hs,a6]
     have e5:rv ⟨w.Hi,w.Lo+1⟩=2*rv ⟨x,y⟩+1:=by unfold rv at c3 ⊢;dsimp only at c3 ⊢;omega
     rw [e5,Int.add_mul,Int.mul_assoc];omega
    ·have hc:((v4 / 9223372036854775808 == 1)||decide (d≤(2*v4) % 18446744073709551616+bit))=false:=by
      simp only [Bool.or_eq_false_iff,beq_eq_false_iff_ne,decide_eq_false_iff_not];omega
     rw [hc]
     simp only [bI]
     refine ⟨_,rfl,⟨by dsimp only;omega,by dsimp only;omega,c2,by dsimp only;omega,by dsimp only;omega,?_⟩,by dsimp only;omega⟩
     dsimp only
     rw [ekk,hs,a6,show rv ⟨w.Hi,w.Lo⟩=2*rv ⟨x,y⟩ by show rv w=_;omega,Int.mul_assoc];omega
   right
   rw [bK h0]
   have:v5 = -1:=by omega
   subst this
   refine ⟨_,rfl,a3,a4,a5,?_⟩
   rw [← a6];simp)
  FUEL (0,127,0,0) ⟨by simp,by simp,⟨⟨by simp,by simp⟩,⟨by simp,by simp⟩⟩,by simp,by simp;omega,by
   have:rv p / 340282366920938463463374607431768211456=0:=Int.ediv_eq_zero_of_lt hN.1 hN.2
   simp [rv] at this ⊢;exact this⟩ (jT (by simp))
 obtain ⟨t1,t2,t3⟩:=t
 rw [oI h5]
 obtain ⟨g1,g2,g3,g4⟩:=h6
 dsimp only at g1 g2 g3 g4
 have gd:rv p / d=rv ⟨t2,t3⟩:=by
  rw [g4,Int.add_comm,Int.add_mul_ediv_right _ _ (by omega),Int.ediv_eq_zero_of_lt g2 g3,Int.zero_add]
 refine ⟨_,_,rfl,g1,gd.symm,?_⟩
 have:=Int.emod_add_mul_ediv (rv p) d
 rw [gd,Int.mul_comm] at this
 omega
structure KnInv (u u1 y1 y0 q rh:Int):Prop where
 eq:u=q*y1+rh
 r0:0≤rh
 r1:rh<4294967296
 q0:0≤q
 q1:q≤4294967297
 up:u*4294967296+u1<q*(y1*4294967296+y0)+(y1*4294967296+y0)
section
variable {u u1 y1 y0 q rh:Int} (hu:0≤u) (huy:u<y1*4294967296+y0) (h1:0≤u1) (h1':u1<4294967296) (hy:2147483648≤y1) (hy':y1<4294967296) (hz:0≤y0) (hz':y0<4294967296)
include hu huy h1 h1' hy hy' hz hz'
theorem rT:KnInv u u1 y1 y0 (u / y1) (u % y1):=by
 have hq0:0≤u / y1:=Int.ediv_nonneg hu (by omega)
 have hr0:=Int.emod_nonneg u (show y1≠0 by omega)
 have hr1:=Int.emod_lt_of_pos u (show 0<y1 by omega)
 have he:=Int.emod_add_mul_ediv u y1
 rw [Int.mul_comm] at he
 have hz2:0≤u / y1*y0:=Int.mul_nonneg hq0 hz
 refine ⟨by omega,hr0,by omega,hq0,?_,?_⟩
 ·apply Int.le_of_lt_add_one
  apply Int.ediv_lt_of_lt_mul (by omega)
  omega
 rw [Int.mul_add,← Int.mul_assoc];omega
theorem tV (i:KnInv u u1 y1 y0 q rh) (h:4294967296≤q∨4294967296*rh+u1<q*y0):u*4294967296+u1<q*(y1*4294967296+y0)∧1≤q:=by
 have e:=i.eq
 have hlt:u*4294967296+u1<q*(y1*4294967296+y0):=by
  rcases h with h | h
  ·have:4294967296*(y1*4294967296+y0)≤q*(y1*4294967296+y0):=Int.mul_le_mul_of_nonneg_right h (by omega)
   omega
  rw [Int.mul_add,← Int.mul_assoc];omega
 refine ⟨hlt,?_⟩
 have hq:=i.q0
 by_cases hq0:q=0
 ·subst hq0;rw [Int.zero_mul] at hlt;omega
 omega
theorem B9 (i:KnInv u u1 y1 y0 q rh) (h:4294967296≤q∨4294967296*rh+u1<q*y0) (h2:rh+y1<4294967296):KnInv u u1 y1 y0 (q - 1) (rh+y1):=by
 obtain ⟨hlt,hq⟩:=tV hu huy h1 h1' hy hy' hz hz' i h
 have:=i.eq;have:=i.r0;have:=i.q1
 refine ⟨by rw [Int.sub_mul];omega,by omega,h2,by omega,by omega,?_⟩
 rw [Int.sub_mul];omega
theorem Ca (i:KnInv u u1 y1 y0 q rh) (h:4294967296≤q∨4294967296*rh+u1<q*y0) (h2:4294967296≤rh+y1):(q - 1)*(y1*4294967296+y0)≤u*4294967296+u1∧u*4294967296+u1<(q - 1)*(y1*4294967296+y0)+(y1*4294967296+y0):=by
 obtain ⟨hlt,hq⟩:=tV hu huy h1 h1' hy hy' hz hz' i h
 have e:=i.eq;have:=i.r0;have hq1:=i.q1
 refine ⟨?_,by rw [Int.sub_mul];omega⟩
 have hz2:(q - 1)*y0≤4294967296*4294967295:=Int.mul_le_mul (by omega) (by omega) hz (by omega)
 rw [Int.mul_add,← Int.mul_assoc]
 rw [Int.sub_mul q 1 y1]
 omega
omit hu huy h1 h1' hy hy' hz hz' in
theorem zN (i:KnInv u u1 y1 y0 q rh) (h:¬ (4294967296≤q∨4294967296*rh+u1<q*y0)):q*(y1*4294967296+y0)≤u*4294967296+u1:=by
 have e:=i.eq
 rw [Int.mul_add,← Int.mul_assoc];omega
end
section
variable {u u1 y1 y0:Int} (hu:0≤u) (huy:u<y1*4294967296+y0) (h1:0≤u1) (h1':u1<4294967296) (hy:2147483648≤y1) (hy':y1<4294967296) (hz:0≤y0) (hz':y0<4294967296)
include hu huy h1 h1' hy hy' hz hz'
omit hu huy hy hy' in
theorem Cb {q rh:Int} (i:KnInv u u1 y1 y0 q rh):((decide (4294967296≤q))||(decide ((IntKind.u64.wrap ((IntKind.u64.wrap (4294967296*rh))+u1))<(IntKind.u64.wrap (q*y0)))))=decide (4294967296≤q∨4294967296*rh+u1<q*y0):=by
 have:=i.r0;have:=i.r1;have:=i.q0
 rw [fj (a:=4294967296*rh) ⟨by omega,by omega⟩,fj (a:=4294967296*rh+u1) ⟨by omega,by omega⟩]
 by_cases hq:4294967296≤q
 ·rw [det hq,det (Or.inl hq)];rfl
 have hp:q*y0≤4294967295*4294967295:=Int.mul_le_mul (by omega) (by omega) hz (by omega)
 have hp0:0≤q*y0:=Int.mul_nonneg (by omega) hz
 rw [fj (a:=q*y0) ⟨hp0,by omega⟩,bK hq,Bool.false_or]
 congr 1
 exact propext ⟨.inr,fun h=>h.resolve_left hq⟩
omit hy hy' hz hz' in
theorem yd {q:Int} (h0:0≤q) (h2:q*(y1*4294967296+y0)≤u*4294967296+u1):q<4294967296:=by
 have:q*(y1*4294967296+y0)<4294967296*(y1*4294967296+y0):=by omega
 exact Int.lt_of_mul_lt_mul_right this (by omega)
def KQ (u u1 y1 y0 q:Int):Prop:=0≤q∧q<4294967296∧q*(y1*4294967296+y0)≤u*4294967296+u1∧u*4294967296+u1<q*(y1*4294967296+y0)+(y1*4294967296+y0)
theorem Fh:∃ q,aW (S:=Int×Int) (T:=(Int)) (fun (v18,v19)=>cond ((decide (4294967296≤v18))||(decide ((IntKind.u64.wrap ((IntKind.u64.wrap (4294967296*v19))+u1))<(IntKind.u64.wrap (v18*y0))))) (cond (decide (4294967296≤(IntKind.u64.wrap (v19+y1)))) (some (.inr (IntKind.u64.wrap (v18 - 1)))) (some (.inl ((IntKind.u64.wrap (v18 - 1)),(IntKind.u64.wrap (v19+y1)))))) (some (.inr v18))) FUEL (u / y1,u % y1)=some q∧KQ u u1 y1 y0 q:=by
 refine mr (fun s:Int×Int=>KnInv u u1 y1 y0 s.1 s.2) (fun s=>s.1.toNat) (KQ u u1 y1 y0) ?_ FUEL _ (rT hu huy h1 h1' hy hy' hz hz') ?_
 ·rintro ⟨q,rh⟩ i
  dsimp only at i ⊢
  rw [Cb h1 h1' hz hz' i]
  have i0:=i.r0;have i1:=i.r1;have i2:=i.q0;have i3:=i.q1
  by_cases h:4294967296≤q∨4294967296*rh+u1<q*y0
  ·rw [det h]
   obtain ⟨_,hq1⟩:=tV hu huy h1 h1' hy hy' hz hz' i h
   rw [fj (a:=rh+y1) ⟨by omega,by omega⟩,fj (a:=q - 1) ⟨by omega,by omega⟩]
   by_cases h2:4294967296≤rh+y1
   ·rw [det h2];right
    obtain ⟨e1,e2⟩:=Ca hu huy h1 h1' hy hy' hz hz' i h h2
    exact ⟨_,rfl,by omega,yd hu huy h1 h1' (by omega) e1,e1,e2⟩
   rw [bK h2];left
   exact ⟨_,rfl,B9 hu huy h1 h1' hy hy' hz hz' i h (by omega),by dsimp only;omega⟩
  rw [bK h];right
  have e1:=zN i h
  exact ⟨_,rfl,i2,yd hu huy h1 h1' i2 e1,e1,i.up⟩
 have:=(rT hu huy h1 h1' hy hy' hz hz').q1
 exact jT (by dsimp only;omega)
theorem Fi:∃ q,aW (S:=Int×Int) (T:=(Int)) (fun (v28,v29)=>cond ((decide (4294967296≤v29))||(decide ((IntKind.u64.wrap ((IntKind.u64.wrap (4294967296*v28))+u1))<(IntKind.u64.wrap (v29*y0))))) (cond (decide (4294967296≤(IntKind.u64.wrap (v28+y1)))) (some (.inr (IntKind.u64.wrap (v29 - 1)))) (some (.inl ((IntKind.u64.wrap (v28+y1)),(IntKind.u64.wrap (v29 - 1)))))) (some (.inr v29))) FUEL (u % y1,u / y1)=some q∧KQ u u1 y1 y0 q:=by
 refine mr (fun s:Int×Int=>KnInv u u1 y1 y0 s.2 s.1) (fun s=>s.2.toNat) (KQ u u1 y1 y0) ?_ FUEL _ (rT hu huy h1 h1' hy hy' hz hz') ?_
 ·rintro ⟨rh,q⟩ i
  dsimp only at i ⊢
  rw [Cb h1 h1' hz hz' i]
  have i0:=i.r0;have i1:=i.r1;have i2:=i.q0;have i3:=i.q1
  by_cases h:4294967296≤q∨4294967296*rh+u1<q*y0
  ·rw [det h]
   obtain ⟨_,hq1⟩:=tV hu huy h1 h1' hy hy' hz hz' i h
   rw [fj (a:=rh+y1) ⟨by omega,by omega⟩,fj (a:=q - 1) ⟨by omega,by omega⟩]
   by_cases h2:4294967296≤rh+y1
   ·rw [det h2];right
    obtain ⟨e1,e2⟩:=Ca hu huy h1 h1' hy hy' hz hz' i h h2
    exact ⟨_,rfl,by omega,yd hu huy h1 h1' (by omega) e1,e1,e2⟩
   rw [bK h2];left
   exact ⟨_,rfl,B9 hu huy h1 h1' hy hy' hz hz' i h (by omega),by dsimp only;omega⟩
  rw [bK h];right
  have e1:=zN i h
  exact ⟨_,rfl,i2,yd hu huy h1 h1' i2 e1,e1,i.up⟩
 have:=(rT hu huy h1 h1' hy hy' hz hz').q1
 exact jT (by dsimp only;omega)
end
theorem C2 {a v:Int} {k n:Nat} (h:v=a / 2 ^ k) (hn:1≤n) (l:2 ^ (n - 1)≤v) (g:v<2 ^ n):2 ^ (k+n - 1)≤a∧a<2 ^ (k+n):=by
 have hp:(0:Int)<2 ^ k:=Int.pow_pos (by omega)
 have e1:=Int.ediv_mul_le a (Int.ne_of_gt hp)
 have e2:=Int.lt_ediv_add_one_mul_self a hp
 rw [← h] at e1 e2
 constructor
 ·rw [show k+n - 1=(n - 1)+k by omega,Int.pow_add]
  exact Int.le_trans (Int.mul_le_mul_of_nonneg_right l (Int.le_of_lt hp)) e1
 rw [show k+n=n+k by omega,Int.pow_add]
 exact Int.lt_of_lt_of_le e2 (Int.mul_le_mul_of_nonneg_right (by omega) (Int.le_of_lt hp))
def A1:ByteArray:=⟨#[0,1,2,2,3,3,3,3,4,4,4,4,4,4,4,4,5,5,5,5,5,5,5,5,5,5,5,5,5,5,5,5,6,6,6,6,6,6,6,6,6,6,6,6,6,6,6,6,6,6,6,6,6,6,6,6,6,6,6,6,6,6,6,6,7,7,7,7,7,7,7,7,7,7,7,7,7,7,7,7,7,7,7,7,7,7,7,7,7,7,7,7,7,7,7,7,7,7,7,7,7,7,7,7,7,7,7,7,7,7,7,7,7,7,7,7,7,7,7,7,7,7,7,7,7,7,7,7,8,8,8,8,8,8,8,8,8,8,8,8,8,8,8,8,8,8,8,8,8,8,8,8,8,8,8,8,8,8,8,8,8,8,8,8,8,8,8,8,8,8,8,8,8,8,8,8,8,8,8,8,8,8,8,8,8,8,8,8,8,8,8,8,8,8,8,8,8,8,8,8,8,8,8,8,8,8,8,8,8,8,8,8,8,8,8,8,8,8,8,8,8,8,8,8,8,8,8,8,8,8,8,8,8,8,8,8,8,8,8,8,8,8,8,8,8,8,8,8,8,8,8,8,8,8,8,8]⟩
theorem A2:∀ v:Fin 256,(match idx A1.data.toList (v.val:Int) with | some c=>decide (1≤v.val→1≤c.toNat∧2 ^ (c.toNat - 1)≤v.val)&&decide (v.val<2 ^ c.toNat)&&decide (c.toNat≤8) | none=>false)=true:=by decide
theorem C3 {v:Int} (h0:0≤v) (h1:v<256):∃ c,idx A1.data.toList v=some c∧(1≤v→1≤c.toNat∧2 ^ (c.toNat - 1)≤v)∧v<2 ^ c.toNat∧c.toNat≤8:=by
 obtain ⟨k,rfl⟩:∃ k:Nat,v=(k:Int):=⟨v.toNat,by omega⟩
 have:=A2 ⟨k,by omega⟩
 split at this
 ·rename_i c hc
  simp only [Bool.and_eq_true,decide_eq_true_eq] at this
  obtain ⟨⟨a,b⟩,d⟩:=this
  refine ⟨c,hc,fun h=>⟨(a (by omega)).1,?_⟩,?_,d⟩
  ·have:=(a (by omega)).2;exact_mod_cast this
  exact_mod_cast b
 cases this
theorem len64 {a:Int} (ha:U64 a) (h1:1≤a):∃ n:Nat,fU a=some (n:Int)∧1≤n∧n≤64∧2 ^ (n - 1)≤a∧a<2 ^ n:=by
 have key:∃ (k:Nat) (v:Int),k≤56∧v=a / 2 ^ k∧1≤v∧v<256∧fU a=Option.bind (idx A1.data.toList (IntKind.u8.wrap v)) (fun c13=>lb ((IntKind.i64.wrap ((k:Int)+(IntKind.i64.wrap (c13.toNat:Int))))) (fun w14=>some w14)):=by
  unfold U64 at ha
  have s32:∀ x:Int,cu .u64 x 32=x / 4294967296:=fun x=>oC (by decide)
  have s16:∀ x:Int,cu .u64 x 16=x / 65536:=fun x=>oC (by decide)
  have s8:∀ x:Int,cu .u64 x 8=x / 256:=fun x=>oC (by decide)
  unfold fU
  simp only [s32,s16,s8]
  by_cases c1:4294967296≤a
  ·rw [det c1]
   simp only [bY,bg]
   by_cases c2:65536≤a / 4294967296
   ·rw [det c2]
    simp only [bY,bg]
    by_cases c3:256≤a / 4294967296 / 65536
    ·rw [det c3]
     exact ⟨56,a / 4294967296 / 65536 / 256,by omega,by simp only [Int.reducePow];omega,by omega,by omega,rfl⟩
    rw [bK c3]
    exact ⟨48,a / 4294967296 / 65536,by omega,by simp only [Int.reducePow];omega,by omega,by omega,rfl⟩
   rw [bK c2]
   simp only [bI,bg]
   by_cases c3:256≤a / 4294967296
   ·rw [det c3]
    exact ⟨40,a / 4294967296 / 256,by omega,by simp only [Int.reducePow];omega,by omega,by omega,rfl⟩
   rw [bK c3]
   exact ⟨32,a / 4294967296,by omega,by simp only [Int.reducePow],by omega,by omega,rfl⟩
  rw [bK c1]
  simp only [bI,bg]
  by_cases c2:65536≤a
  ·rw [det c2]
   simp only [bY,bg]
   by_cases c3:256≤a / 65536
   ·rw [det c3]
    exact ⟨24,a / 65536 / 256,by omega,by simp only [Int.reducePow];omega,by omega,by omega,rfl⟩
   rw [bK c3]
   exact ⟨16,a / 65536,by omega,by simp only [Int.reducePow],by omega,by omega,rfl⟩
  rw [bK c2]
  simp only [bI,bg]
  by_cases c3:256≤a
  ·rw [det c3]
   exact ⟨8,a / 256,by omega,by simp only [Int.reducePow],by omega,by omega,rfl⟩
  rw [bK c3]
  exact ⟨0,a,by omega,by simp,by omega,by omega,rfl⟩
 obtain ⟨k,v,k1,k2,k3,k4,k5⟩:=key
 obtain ⟨c,c1,c2,c3,c4⟩:=C3 (v:=v) (by omega) k4
 obtain ⟨c5,c6⟩:=c2 k3
 obtain ⟨l1,l2⟩:=C2 k2 c5 c6 c3
 rw [k5,xm (by omega),oI c1]
 unfold lb
 rw [cH (r:=(c.toNat:Int)) (by omega) (by omega),cH (by omega) (by omega)]
 exact ⟨k+c.toNat,by simp,by omega,by omega,l1,l2⟩
theorem lz64 {a:Int} (ha:U64 a) (h1:1≤a):∃ s:Nat,dy a=some (s:Int)∧s≤63∧9223372036854775808≤a*2 ^ s∧a*2 ^ s<18446744073709551616:=by
 obtain ⟨n,e1,e2,e3,e4,e5⟩:=len64 ha h1
 unfold dy
 rw [oI e1,cH (by omega) (by omega)]
 refine ⟨64 - n,by congr 1;omega,by omega,?_,?_⟩
 ·have:=Int.mul_le_mul_of_nonneg_right e4 (Int.le_of_lt (show (0:Int)<2 ^ (64 - n) from Int.pow_pos (by decide)))
  rw [← Int.pow_add,show n - 1+(64 - n)=63 by omega] at this
  exact this
 have:=Int.mul_lt_mul_of_pos_right e5 (show (0:Int)<2 ^ (64 - n) from Int.pow_pos (by decide))
 rw [← Int.pow_add,show n+(64 - n)=64 by omega] at this
 exact this
theorem A3 {b:Int} (h:0≤b):lf b=some ():=by unfold lf;rw [if_pos h]
theorem A4 {a:Int} {s:Nat} (h:s≤64):ff .u64 a (s:Int)=IntKind.u64.wrap (a*2 ^ s):=by
 have e:ff .u64 a (s:Int)=IntKind.u64.wrap (a*2 ^ min (s:Int).toNat 64):=rfl
 rw [e,Int.toNat_natCast,Nat.min_eq_left h]
theorem ior_sh {h b:Int} {s:Nat} (hh:0≤h) (hb:0≤b) (hb2:b<2 ^ s) (h1:U64 (h*2 ^ s)) (h2:U64 b):nQ .u64 (h*2 ^ s) b=h*2 ^ s+b:=by
 rw [Ff h1 h2]
 obtain ⟨x,rfl⟩:∃ k:Nat,h=(k:Int):=⟨h.toNat,by omega⟩
 obtain ⟨z,rfl⟩:∃ k:Nat,b=(k:Int):=⟨b.toNat,by omega⟩
 have e:((x:Int)*2 ^ s)=((2 ^ s*x:Nat):Int):=by push_cast;exact Int.mul_comm _ _
 have hz:z<2 ^ s:=by exact_mod_cast hb2
 rw [e,Int.toNat_natCast,Int.toNat_natCast,← Nat.two_pow_add_eq_or_of_lt hz]
 rfl
theorem dm_of {n q r y:Int} (e:n=q*y+r) (h0:0≤r) (h1:r<y):n / y=q∧n % y=r:=by
 have gd:n / y=q:=by
  rw [e,Int.add_comm,Int.add_mul_ediv_right _ _ (by omega),Int.ediv_eq_zero_of_lt h0 h1,Int.zero_add]
 refine ⟨gd,?_⟩
 have:=Int.emod_add_mul_ediv n y
 rw [gd,Int.mul_comm] at this
 omega
theorem div64 {hi lo y:Int} (h1:U64 hi) (h2:U64 lo) (h3:U64 y) (h4:hi<y):gX hi lo y=some ((hi*18446744073709551616+lo) / y,(hi*18446744073709551616+lo) % y):=by
 have hi0:=h1.1
 have hlo:=h2.1
 have hy1:1≤y:=by omega
 unfold gX
 have cy:(y == 0)=false:=by simp;omega
 rw [cy,bK (show ¬ y≤hi by omega)]
 simp only [bI]
 by_cases hz:hi=0
 ·subst hz
  have:((0:Int) == 0)=true:=rfl
  rw [this]
  simp only [bY]
  rw [oI (EB (show y≠0 by omega)),oI (EB (show y≠0 by omega)),Int.tdiv_eq_ediv_of_nonneg hlo,Int.tmod_eq_emod_of_nonneg hlo]
  have:lo / y≤lo:=Int.ediv_le_self _ hlo
  rw [fj ⟨Int.ediv_nonneg hlo (by omega),by have:=h2.2;omega⟩]
  simp
 have cz:(hi == 0)=false:=by simp;exact hz
 rw [cz]
 simp only [bI]
 obtain ⟨s,e1,e2,e3,e4⟩:=lz64 h3 hy1
 have hP:(0:Int)<2 ^ s:=Int.pow_pos (by omega)
 have hM:(0:Int)<2 ^ (64 - s):=Int.pow_pos (by omega)
 have hPM:(2:Int) ^ s*2 ^ (64 - s)=18446744073709551616:=by rw [← Int.pow_add,show s+(64 - s)=64 by omega];rfl
 have hhP:hi*2 ^ s<y*2 ^ s:=Int.mul_lt_mul_of_pos_right h4 hP
 have hhP0:0≤hi*2 ^ s:=Int.mul_nonneg hi0 (by omega)
 have hqd0:0≤lo / 2 ^ (64 - s):=Int.ediv_nonneg hlo (by omega)
 have hqd1:lo / 2 ^ (64 - s)<2 ^ s:=by
  apply Int.ediv_lt_of_lt_mul hM
  rw [hPM];exact h2.2
 have hPle:(2:Int) ^ s≤18446744073709551616:=by rw [← hPM];have:=Int.mul_le_mul_of_nonneg_left (show (1:Int)≤2 ^ (64 - s) by omega) (Int.le_of_lt hP);omega
 have f1:IntKind.u64.wrap (s:Int)=(s:Int):=fj ⟨by omega,by omega⟩
 have f2:IntKind.u64.wrap (64 - (s:Int))=((64 - s:Nat):Int):=by rw [fj ⟨by omega,by omega⟩];omega
 have f3:ff .u64 y (s:Int)=y*2 ^ s:=by rw [A4 (by omega),fj ⟨by omega,e4⟩]
 have f4:ff .u64 hi (s:Int)=hi*2 ^ s:=by rw [A4 (by omega),fj ⟨hhP0,by omega⟩]
 have f5:cu .u64 lo ((64 - s:Nat):Int)=lo / 2 ^ (64 - s):=by rw [oC (by omega),Int.toNat_natCast]
 have f6:ff .u64 lo (s:Int)=(lo*2 ^ s) % 18446744073709551616:=by rw [A4 (by omega),wu]
 have f7:nQ .u64 (hi*2 ^ s) (lo / 2 ^ (64 - s))=hi*2 ^ s+lo / 2 ^ (64 - s):=ior_sh hi0 hqd0 hqd1 ⟨hhP0,by omega⟩ ⟨hqd0,by omega⟩
 rw [oI e1]
 simp only [lb,f1,f2,f3,f4,f5,f6,f7,A3 (Int.natCast_nonneg s),A3 (Int.natCast_nonneg (64 - s)),bg,B6]
 have hN:(hi*18446744073709551616+lo)*2 ^ s=(hi*2 ^ s+lo / 2 ^ (64 - s))*18446744073709551616+(lo*2 ^ s) % 18446744073709551616:=by
  have g1:=Int.emod_add_mul_ediv lo (2 ^ (64 - s))
  have g2:lo*2 ^ s=lo % 2 ^ (64 - s)*2 ^ s+18446744073709551616*(lo / 2 ^ (64 - s)):=by
   have:=congrArg (· * (2:Int) ^ s) g1
   simp only [Int.add_mul] at this
   rw [← this,← hPM]
   rw [Int.mul_assoc,Int.mul_comm (lo / 2 ^ (64 - s)),← Int.mul_assoc,Int.mul_comm (2 ^ (64 - s)),Int.mul_assoc]
  have g3:0≤lo % 2 ^ (64 - s)*2 ^ s:=Int.mul_nonneg (Int.emod_nonneg _ (by omega)) (by omega)
  have g4:lo % 2 ^ (64 - s)*2 ^ s<18446744073709551616:=by
   rw [← hPM,Int.mul_comm (2 ^ s)]
   exact Int.mul_lt_mul_of_pos_right (Int.emod_lt_of_pos _ hM) hP
  rw [Int.add_mul,Int.mul_right_comm hi]
  generalize lo % 2 ^ (64 - s)*2 ^ s=A at *
  generalize lo / 2 ^ (64 - s)=B at *
  generalize lo*2 ^ s=C at *
  generalize hi*2 ^ s=D at *
  omega
 have hu0:0≤hi*2 ^ s+lo / 2 ^ (64 - s):=by omega
 have huy:hi*2 ^ s+lo / 2 ^ (64 - s)<y*2 ^ s:=by
  have:(hi+1)*2 ^ s≤y*2 ^ s:=Int.mul_le_mul_of_nonneg_right (by omega) (by omega)
  rw [Int.add_mul] at this;omega
 have hU0:0≤(lo*2 ^ s) % 18446744073709551616:=by omega
 have hU1:(lo*2 ^ s) % 18446744073709551616<18446744073709551616:=by omega
 have hfin:∀ q R:Int,(hi*18446744073709551616+lo)*2 ^ s=q*(y*2 ^ s)+R→0≤R→R<y*2 ^ s→(hi*18446744073709551616+lo) / y=q∧(hi*18446744073709551616+lo) % y=R / 2 ^ s:=by
  intro q R hq hR0 hR1
  have hr:R=(hi*18446744073709551616+lo - q*y)*2 ^ s:=by rw [Int.sub_mul,Int.mul_assoc q];omega
  have hd:R / 2 ^ s=hi*18446744073709551616+lo - q*y:=by rw [hr];exact Int.mul_ediv_cancel _ (by omega)
  rw [hd]
  generalize hi*18446744073709551616+lo=n at *
  have:0≤n - q*y:=by
   by_cases hc:0≤n - q*y
   ·exact hc
   have:=Int.mul_le_mul_of_nonneg_right (show n - q*y ≤ -1 by omega) (Int.le_of_lt hP);omega
  have:n - q*y<y:=by
   apply Int.lt_of_mul_lt_mul_right (a:=2 ^ s) _ (by omega)
   omega
  exact dm_of (by omega) (by assumption) (by assumption)
 generalize (hi*18446744073709551616+lo)*2 ^ s=NP at *
 generalize hYe:y*2 ^ s=Y at *
 generalize hi*2 ^ s+lo / 2 ^ (64 - s)=u at *
 generalize (lo*2 ^ s) % 18446744073709551616=U at *
 rw [qa (a:=Y) ⟨by omega,e4⟩,qa (a:=U) ⟨hU0,hU1⟩]
 have k1:Y / 4294967296*4294967296+Y % 4294967296=Y:=by omega
 have k2:2147483648≤Y / 4294967296:=by omega
 have k3:Y / 4294967296<4294967296:=by omega
 have k4:0≤Y % 4294967296:=by omega
 have k5:Y % 4294967296<4294967296:=by omega
 have k6:0≤U / 4294967296:=by omega
 have k7:U / 4294967296<4294967296:=by omega
 have k8:0≤U % 4294967296:=by omega
 have k9:U % 4294967296<4294967296:=by omega
 have k10:U=U / 4294967296*4294967296+U % 4294967296:=by omega
 generalize U / 4294967296=u1 at *
 generalize U % 4294967296=u0 at *
 generalize Y / 4294967296=y1 at *
 generalize Y % 4294967296=y0 at *
 have dv:∀ v:Int,0≤v→v<Y→IntKind.u64.wrap (Int.tdiv v y1)=v / y1∧IntKind.u64.wrap (v - IntKind.u64.wrap (v / y1*y1))=v % y1:=by
  intro v v0 v1
  have:=Int.ediv_le_self y1 v0
  have q0:=Int.ediv_nonneg v0 (show 0≤y1 by omega)
  have m0:=Int.emod_nonneg v (show y1≠0 by omega)
  have m1:=Int.emod_lt_of_pos v (show 0<y1 by omega)
  have e:=Int.emod_add_mul_ediv v y1
  rw [Int.mul_comm] at e
  rw [Int.tdiv_eq_ediv_of_nonneg v0,fj (a:=v / y1) ⟨q0,by omega⟩]
  refine ⟨rfl,?_⟩
  have:0≤v / y1*y1:=Int.mul_nonneg q0 (by omega)
  rw [fj (a:=v / y1*y1) ⟨this,by omega⟩,fj ⟨by omega,by omega⟩]
  omega
 have hnz:nz y1=some ():=EB (by omega)
 obtain ⟨d1,d2⟩:=dv u hu0 huy
 simp only [hnz,d1,d2,bg]
 obtain ⟨q1,l1,l2,l3,l4,l5⟩:=Fh (u:=u) (u1:=u1) (y1:=y1) (y0:=y0) hu0 (by omega) k6 k7 k2 k3 k4 k5
 rw [k1] at l4 l5
 rw [oI l1]
 have w25:IntKind.u64.wrap (IntKind.u64.wrap (IntKind.u64.wrap (u*4294967296)+u1) - IntKind.u64.wrap (q1*Y))=u*4294967296+u1 - q1*Y:=by
  simp only [wu]
  generalize q1*Y=z at *
  omega
 simp only [w25]
 have v0:0≤u*4294967296+u1 - q1*Y:=by omega
 have v1:u*4294967296+u1 - q1*Y<Y:=by omega
 have hv:u*4294967296+u1=q1*Y+(u*4294967296+u1 - q1*Y):=by omega
 generalize u*4294967296+u1 - q1*Y=v at *
 obtain ⟨d3,d4⟩:=dv v v0 v1
 simp only [d3,d4]
 obtain ⟨q0,m1,m2,m3,m4,m5⟩:=Fi (u:=v) (u1:=u0) (y1:=y1) (y0:=y0) v0 (by omega) k8 k9 k2 k3 k4 k5
 rw [k1] at m4 m5
 rw [oI m1]
 have w36:IntKind.u64.wrap (IntKind.u64.wrap (q1*4294967296)+q0)=q1*4294967296+q0:=by simp only [wu];omega
 have w37:IntKind.u64.wrap (IntKind.u64.wrap (IntKind.u64.wrap (v*4294967296)+u0) - IntKind.u64.wrap (q0*Y))=v*4294967296+u0 - q0*Y:=by
  simp only [wu]
  generalize q0*Y=z at *
  omega
 rw [w36,w37,oC (by omega),Int.toNat_natCast]
 obtain ⟨g1,g2⟩:=hfin (q1*4294967296+q0) (v*4294967296+u0 - q0*Y) (by
  rw [hN,k10,Int.add_mul,Int.mul_right_comm]
  generalize q1*Y=z at *
  generalize q0*Y=z0 at *
  omega) (by omega) (by omega)
 rw [g1,g2]
def xv (w:Zo):Int:=w.Hi*18446744073709551616+w.Lo
def XW (w:Zo):Prop:=U64 w.Hi∧U64 w.Lo
theorem wR {a b:Int} (ha:U64 a) (hb:U64 b):∃ w,jy a b=some w∧XW w∧xv w=a*b:=by
 obtain ⟨h,l,e1,e2,e3,e4⟩:=mul64 ha hb
 unfold jy;rw [oI e1]
 exact ⟨_,rfl,⟨e2,e3⟩,e4⟩
def Cc (n c m:Int):Int:=if (m=2∧c≤2*(n % c))∨(m=1∧0<n % c) then n / c+1 else n / c
theorem C4 {w:Zo} {c m:Int} (hw:XW w) (hc:U64 c) (h1:1≤c) (hm:m=0∨m=1∨m=2):nI w c m=some (if Cc (xv w) c m<18446744073709551616 then (Cc (xv w) c m,0) else (0,3)):=by
 unfold nI
 have hc0:((((c == 0)||(decide (m<0)))||(decide (3<m))):Bool)=false:=by
  rcases hm with rfl | rfl | rfl <;> simp <;> omega
 rw [hc0];simp only [bI]
 have hn0:0≤xv w:=by unfold xv;have:=hw.1.1;have:=hw.2.1;omega
 have hr0:0≤xv w % c:=Int.emod_nonneg _ (by omega)
 have hr1:xv w % c<c:=Int.emod_lt_of_pos _ (by omega)
 have hle:xv w / c≤Cc (xv w) c m:=by unfold Cc;split <;> omega
 by_cases h:c≤w.Hi
 ·rw [det h]
  have:18446744073709551616≤xv w / c:=by
   apply Int.le_ediv_of_mul_le (by omega)
   have:=Int.mul_le_mul_of_nonneg_left h (show (0:Int)≤18446744073709551616 by omega)
   unfold xv;have:=hw.2.1;omega
  rw [if_neg (by omega)];rfl
 rw [bK h]
 simp only [bI]
 have e:=div64 hw.1 hw.2 hc (by omega)
 rw [show w.Hi*18446744073709551616+w.Lo=xv w from rfl] at e
 rw [oI e]
 have hq:xv w / c<18446744073709551616:=by
  apply Int.ediv_lt_of_lt_mul (by omega)
  have:=Int.mul_le_mul_of_nonneg_right (show w.Hi+1≤c by omega) (show (0:Int)≤18446744073709551616 by omega)
  unfold xv;have:=hw.2.2;rw [Int.mul_comm 18446744073709551616];omega
 have hq0:0≤xv w / c:=Int.ediv_nonneg hn0 (by omega)
 dsimp only
 have er:jY (xv w / c) (xv w % c) c m=some (decide ((m=2∧c≤2*(xv w % c))∨(m=1∧0<xv w % c))):=by
  unfold jY
  rw [fj (a:=c - xv w % c) ⟨by omega,by have:=hc.2;omega⟩]
  rcases hm with rfl | rfl | rfl
  ·simp
  ·simp
  simp;omega
 rw [oI er]
 unfold Cc
 by_cases hu:(m=2∧c≤2*(xv w % c))∨(m=1∧0<xv w % c)
 ·rw [det hu,if_pos hu]
  simp only [Bool.not_true,bI]
  by_cases hx:xv w / c=18446744073709551615
  ·rw [hx];rfl
  have:(xv w / c == 18446744073709551615)=false:=by simp;exact hx
  rw [this,if_pos (by omega),fj ⟨by omega,by omega⟩];rfl
 rw [bK hu,if_neg hu,if_pos hq];rfl
theorem ref_div {w:Zl} {c m:Int} (hw:RW w) (hc:U64 c) (h1:1≤c) (hm:m=0∨m=1∨m=2):nK w c m=some (if Cc (rv w) c m<18446744073709551616 then (Cc (rv w) c m,0) else (0,3)):=by
 unfold nK
 have hc0:((((c == 0)||(decide (m<0)))||(decide (3<m))):Bool)=false:=by
  rcases hm with rfl | rfl | rfl <;> simp <;> omega
 rw [hc0];simp only [bI]
 have hn0:0≤rv w:=by unfold rv;have:=hw.1.1;have:=hw.2.1;omega
 have hn1:rv w<340282366920938463463374607431768211456:=by unfold rv;have:=hw.1.2;have:=hw.2.2;omega
 have hr0:0≤rv w % c:=Int.emod_nonneg _ (by omega)
 have hr1:rv w % c<c:=Int.emod_lt_of_pos _ (by omega)
 obtain ⟨q,r,e1,e2,e3,e4⟩:=A0 hw hc h1
 rw [oI e1]
 dsimp only
 have er:(cond (m == 1) (some (decide (0<r))) (cond (m == 2) (some (decide ((IntKind.u64.wrap (c - r))≤r))) (cond (m == 3) (some ((decide ((IntKind.u64.wrap (c - r))<r))||((r == (IntKind.u64.wrap (c - r)))&&((dw .u64 q.Lo 1) == 1)))) (some false))))=some (decide ((m=2∧c≤2*(rv w % c))∨(m=1∧0<rv w % c))):=by
  rw [e4,fj (a:=c - rv w % c) ⟨by omega,by have:=hc.2;omega⟩]
  rcases hm with rfl | rfl | rfl
  ·simp
  ·simp
  simp;omega
 rw [oI er]
 have hq0:0≤rv w / c:=Int.ediv_nonneg hn0 (by omega)
 unfold Cc
 have hfin:∀ z:Zl,RW z→(cond (decide (0<z.Hi)) (some ((0:Int),(3:Int))) (some (z.Lo,0)))=some (if rv z<18446744073709551616 then (rv z,0) else (0,3)):=by
  intro z hz
  obtain ⟨⟨a1,a2⟩,⟨a3,a4⟩⟩:=hz
  by_cases h:0<z.Hi
  ·rw [det h,if_neg (by unfold rv;omega)];rfl
  have:rv z=z.Lo:=by unfold rv;omega
  rw [bK h,this,if_pos a4];rfl
 by_cases hu:(m=2∧c≤2*(rv w % c))∨(m=1∧0<rv w % c)
 ·rw [det hu,if_pos hu]
  obtain ⟨z,b,f1,f2,f3⟩:=tU (p:=q) (q:=⟨0,1⟩) e2 ⟨⟨by simp,by simp⟩,⟨by simp,by simp⟩⟩
  have hone:rv ⟨0,1⟩=1:=rfl
  have:rv w / c≤rv w:=Int.ediv_le_self _ hn0
  have hc2:2≤c:=by omega
  have t1:=Int.ediv_mul_le (rv w) (show c≠0 by omega)
  have t2:=Int.mul_le_mul_of_nonneg_left hc2 hq0
  rw [hone,e3] at f3
  have f3:=f3 (by omega)
  simp only [bY]
  rw [oI f1]
  simp only [bg]
  rw [hfin z f2,f3]
 rw [bK hu,if_neg hu]
 simp only [bI,bg]
 rw [hfin q e2,e3]
structure VProd (l:List Zc) (p:Zc):Prop where
 price:1≤p.Price∧p.Price≤1000000000000
 lvl:6≤dL p.Code
 ctr:qC p.Country=true
 proc:j9 p.Processes=true
 few:p.Inputs.length≤8
 asc:p.Inputs.Pairwise fun a b=>a.Product<b.Product
 inp:∀ x∈p.Inputs,(da l x.Product).isSome=true∧0≤x.Value∧x.Value≤1000000000000
 obt:p.Obtained=true→p.Inputs=[]
structure VPs (l:List Zc):Prop where
 len:l.length≤64
 asc:l.Pairwise fun a b=>a.ID<b.ID
 all:∀ p∈l,VProd l p
theorem kf {l:List ByteArray} (h:j9 l=true):l.length≤8∧(∀ s∈l,gJ s=true)∧Strict iN l:=by
 unfold j9 at h
 simp only [Bool.and_eq_true,decide_eq_true_eq] at h
 exact ⟨h.1,fun s hs=>List.all_eq_true.1 h.2.1 s hs,(lu _).1 h.2.2⟩
theorem VPs.sorted {l:List Zc} (h:VPs l):Sorted l:=⟨by have:=h.len;omega,h.asc,fun p hp=>by have h1:=(kf (h.all p hp).proc).1;have h2:=(h.all p hp).few;omega⟩
def bQ (l:List Zc) (id:Int):Zc:=(da l id).getD Fa
theorem wT {l:List Zc} {id:Int} {p:Zc} (h:da l id=some p):p∈l∧p.ID=id:=⟨List.mem_of_find?_eq_some h,by have:=List.find?_some h;simpa using this⟩
theorem kg {l:List Zc} (h:VPs l) {id:Int} (hs:(da l id).isSome=true):bQ l id∈l∧VProd l (bQ l id)∧(bQ l id).ID=id:=by
 cases hf:da l id with
 | none=>rw [hf] at hs;cases hs
 | some p =>
  have:=wT hf
  unfold bQ;rw [hf];exact ⟨this.1,h.all p this.1,this.2⟩
abbrev CSet:=Za→Bool
def fM (ps:List Int) (S:CSet) (q:Zc) (v:Int):Zk×Option Za:=match ps.find? (fun id=>S ⟨q.ID,id⟩) with
 | some id=>(⟨q.Code,v,true⟩,some ⟨q.ID,id⟩)
 | none=>(⟨q.Code,v,false⟩,none)
def dN (v part price:Int):Int:=if Cc (v*part) price 1≤1000000000000 then Cc (v*part) price 1 else 1000000000000
def tj (a:Zb) (q:Zc):Bool:=a.Kind == 3&&lF a.Parties q.Country
def fL (plan:List Zc) (a:Zb) (ps:List Int) (S:CSet) (x:Zh):List (Zk×Option Za) :=
 cond ((fM ps S (bQ plan x.Product) x.Value).2.isSome || !tj a (bQ plan x.Product)||(bQ plan x.Product).Inputs.isEmpty) [fM ps S (bQ plan x.Product) x.Value]
  ((bQ plan x.Product).Inputs.map fun y=>fM ps S (bQ plan y.Product) (dN x.Value y.Value (bQ plan x.Product).Price))
def e7 (plan:List Zc) (a:Zb) (ps:List Int) (S:CSet) (p:Zc):List (Zk×Option Za):=p.Inputs.flatMap (fL plan a ps S)
def lw (plan:List Zc) (a:Zb) (acc:List ByteArray) (x:Zh):List ByteArray:=cond (tj a (bQ plan x.Product)) (ns acc (bQ plan x.Product).Processes) acc
def zCase:Zm:=⟨ByteArray.empty,0,false,[],[]⟩
def oN (l:List Zb) (id:Int):Zb:=(lQ l id).getD CY
def qb (plan:List Zc) (l:List Zb) (imp:ByteArray) (c:Za) (S:CSet):Zm :=
 ⟨(bQ plan c.Product).Code,(bQ plan c.Product).Price,(bQ plan c.Product).Obtained,((bQ plan c.Product).Inputs.foldl (lw plan (oN l c.Agreement)) (bQ plan c.Product).Processes).take 8,
  (e7 plan (oN l c.Agreement) (eF l c.Agreement (bQ plan c.Product).Country imp) S (bQ plan c.Product)).map (·.1)⟩
def wU (plan:List Zc) (l:List Zb) (imp:ByteArray) (c:Za) (S:CSet):List Za :=
 sd bw ((e7 plan (oN l c.Agreement) (eF l c.Agreement (bQ plan c.Product).Country imp) S (bQ plan c.Product)).filterMap (·.2))
def wV (plan:List Zc) (l:List Zb) (imp:ByteArray) (c:Za) (S:CSet):Zm×List Za:=cond (lG plan l imp c) (qb plan l imp c S,wU plan l imp c S) (zCase,[])
theorem ye {n c:Int} (hn:0≤n) (hc:1≤c):0≤Cc n c 1:=by
 unfold Cc
 have:=Int.ediv_nonneg hn (show (0:Int)≤c by omega)
 split <;> omega
theorem vm {v part price:Int} (h1:0≤v) (h2:0≤part) (h3:1≤price):0≤dN v part price∧dN v part price≤1000000000000:=by
 unfold dN
 have:=ye (Int.mul_nonneg h1 h2) h3
 split <;> omega
theorem yf {v part price:Int} (h1:0≤v∧v≤1000000000000) (h2:0≤part∧part≤1000000000000) (h3:1≤price∧price≤1000000000000):fz v part price=some (dN v part price):=by
 unfold fz lZ
 rw [fj (a:=v) ⟨by omega,by omega⟩,fj (a:=part) ⟨by omega,by omega⟩,fj (a:=price) ⟨by omega,by omega⟩]
 obtain ⟨w,e1,e2,e3⟩:=wR (a:=v) (b:=part) ⟨by omega,by omega⟩ ⟨by omega,by omega⟩
 rw [e1,bg,C4 e2 ⟨by omega,by omega⟩ h3.1 (.inr (.inl rfl)),e3]
 unfold dN
 have hp:=ye (Int.mul_nonneg h1.1 h2.1) h3.1
 generalize Cc (v*part) price 1=r at hp
 by_cases hr:r<18446744073709551616
 ·rw [if_pos hr]
  by_cases hm:r≤1000000000000
  ·rw [if_pos hm]
   simp only [bg,bne_self_eq_false,Bool.false_or]
   rw [bK (by omega),bI,cH (by omega) (by omega)]
  rw [if_neg hm]
  simp only [bg,bne_self_eq_false,Bool.false_or]
  rw [det (by omega)];rfl
 rw [if_neg hr,if_neg (by omega)];rfl
theorem zO {v part price:Int} (h1:0≤v∧v≤1000000000000) (h2:0≤part∧part≤1000000000000) (h3:1≤price∧price≤1000000000000) {β:Type} (k:Int→Option β):Option.bind (j5 (IntKind.u64.wrap v) (IntKind.u64.wrap part) (IntKind.u64.wrap price) 1) (fun x79=>Option.bind (cond ((x79.2 == 0)&&(decide (x79.1<1000000000000))) (some (IntKind.i64.wrap x79.1)) (some 1000000000000)) k)=k (dN v part price):=by
 unfold j5
 rw [fj (a:=v) ⟨by omega,by omega⟩,fj (a:=part) ⟨by omega,by omega⟩,fj (a:=price) ⟨by omega,by omega⟩]
 obtain ⟨w,e1,e2,e3⟩:=B7 (a:=v) (b:=part) ⟨by omega,by omega⟩ ⟨by omega,by omega⟩
 rw [e1,bg,ref_div e2 ⟨by omega,by omega⟩ h3.1 (.inr (.inl rfl)),e3]
 unfold dN
 have hp:=ye (Int.mul_nonneg h1.1 h2.1) h3.1
 generalize Cc (v*part) price 1=r at hp
 by_cases hr:r<18446744073709551616
 ·rw [if_pos hr]
  by_cases hm:r<1000000000000
  ·rw [if_pos (by omega)]
   simp only [bg,beq_self_eq_true,Bool.true_and]
   rw [det (by omega),bY,bg,cH (by omega) (by omega)]
  simp only [bg,beq_self_eq_true,Bool.true_and]
  rw [bK (by omega),bI,bg]
  congr 1
  split <;> omega
 rw [if_neg hr,if_neg (by omega)];rfl
def Ad:Zk×Option Za→Ze
 | (i,some c)=>.proved_ ⟨i,c⟩
 | (i,none)=>.plain_ ⟨i⟩
theorem C5 {K V:Type} [DecidableEq K] (m:List (K×V)) (k c:K) (v:V):kz (o8 m k v) c=if k=c then some v else kz m c:=by
 induction m with
 | nil=>simp only [o8,kz]
 | cons p m ih =>
  obtain ⟨a,w⟩:=p
  simp only [o8]
  by_cases h:a=k
  ·subst h
   simp only [if_true,kz]
   split <;> rfl
  rw [if_neg h]
  simp only [kz,ih]
  by_cases h2:a=c
  ·subst h2;simp [show ¬ k=a from fun e=>h e.symm]
  simp [h2]
theorem Fj (set:List Za) (c:Za):(kz (set.foldl (fun m x=>o8 m x true) []) c).getD false=ba set c:=by
 have key:∀ (l:List Za) (m:List (Za×Bool)),(kz (l.foldl (fun m x=>o8 m x true) m) c).getD false=(ba l c||(kz m c).getD false):=by
  intro l
  induction l with
  | nil=>intro m;rfl
  | cons x l ih =>
   intro m
   rw [List.foldl_cons,ih,C5]
   show _=((decide (x=c)||ba l c)||_)
   by_cases h:x=c
   ·rw [if_pos h,det h];cases ba l c <;> rfl
   rw [if_neg h,bK h,Bool.false_or]
 rw [key];show (ba set c||false)=_;rw [Bool.or_false]
theorem wW (ps:List Int) (m:List (Za×Bool)) (S:CSet) (hm:∀ c,(kz m c).getD false=S c) (hps:ps.length≤140737488355328) (q:Zc) (v:Int):cL ⟨ps,m⟩ q v=some (Ad (fM ps S q v)):=by
 unfold cL fM
 refine (bJ (l:=ps) (by omega) (fun _ id=>cond (S ⟨q.ID,id⟩) (some (.inr (Ze.proved_ ⟨⟨q.Code,v,true⟩,⟨q.ID,id⟩⟩))) none) (.inl ()) (fun k hk=>?_) (by simp only [cR,bI])).trans ?_
 ·simp only [ik hk,bY,aV hk,bg,bR hk (show ps.length≤4611686018427387904 by omega),hm]
  cases S ⟨q.ID,ps[k]⟩ <;> rfl
 rw [kC (fun id:Int=>S ⟨q.ID,id⟩) (fun id=>(Sum.inr (Ze.proved_ ⟨⟨q.Code,v,true⟩,⟨q.ID,id⟩⟩):Unit⊕Ze))]
 cases ps.find? (fun id:Int=>S ⟨q.ID,id⟩) <;> rfl
def A5:Za:=⟨0,0⟩
theorem Fk (ps:List Int) (set:List Za) (hps:ps.length≤140737488355328) (hset:set.length≤140737488355328) (q:Zc) (v:Int):ie ps q.ID set=some (hZ A5 (fM ps (ba set) q v).2)∧(fM ps (ba set) q v).1=⟨q.Code,v,(fM ps (ba set) q v).2.isSome⟩:=by
 constructor
 ·unfold ie fM
  refine (bJ (l:=ps) (by omega) (fun _ id=>cond (ba set ⟨q.ID,id⟩) (some (.inr ((⟨q.ID,id⟩:Za),true))) none) (.inl ()) (fun k hk=>?_) (by simp only [cR,bI])).trans ?_
  ·simp only [ik hk,bY,aV hk,bg,bR hk (show ps.length≤4611686018427387904 by omega),oA _ _ hset]
   cases ba set ⟨q.ID,ps[k]⟩ <;> rfl
  rw [kC (fun id:Int=>ba set ⟨q.ID,id⟩) (fun id=>(Sum.inr ((⟨q.ID,id⟩:Za),true):Unit⊕(Za×Bool)))]
  cases ps.find? (fun id:Int=>ba set ⟨q.ID,id⟩) <;> rfl
 unfold fM
 cases ps.find? (fun id:Int=>ba set ⟨q.ID,id⟩) <;> rfl
theorem qc {plan:List Zc} (hv:VPs plan) (a:Zb) (ps:List Int) (S:CSet) (x:Zh) (hx:(da plan x.Product).isSome=true):(fL plan a ps S x).length≤8:=by
 unfold fL
 generalize ((fM ps S (bQ plan x.Product) x.Value).2.isSome || !tj a (bQ plan x.Product)||(bQ plan x.Product).Inputs.isEmpty)=b
 cases b
 ·rw [bI,List.length_map];exact (kg hv hx).2.1.few
 simp
theorem Fl {w:List ByteArray} (h:j9 w=true):w.length≤8:=(kf h).1
theorem A6 (a b:List ByteArray):(ns a b).length≤a.length+b.length:=by unfold ns;have:=Fd (lt:=iN) (a++b);rwa [List.length_append] at this
theorem wX {plan:List Zc} (hv:VPs plan) (a:Zb) (acc:List ByteArray) (x:Zh) (hx:(da plan x.Product).isSome=true):(lw plan a acc x).length≤acc.length+8:=by
 unfold lw
 cases tj a (bQ plan x.Product)
 ·rw [bI];omega
 rw [bY]
 have h1:=A6 acc (bQ plan x.Product).Processes
 have h2:=Fl (kg hv hx).2.1.proc
 omega
theorem vn {plan:List Zc} (hv:VPs plan) (id:Int):cK plan id=some (bQ plan id,(da plan id).isSome):=by
 rw [vj _ _ hv.sorted];unfold bQ;cases da plan id <;> rfl
theorem sI {plan:List Zc} (hv:VPs plan) (id:Int):fA plan id=some (bQ plan id,(da plan id).isSome):=by
 rw [wL _ _ (by have:=hv.len;omega)];unfold bQ;cases da plan id <;> rfl
theorem yg (t:Zk×Option Za):(Ad t).is_proved_=t.2.isSome:=by obtain ⟨i,c⟩:=t;cases c <;> rfl
theorem C7 {plan:List Zc} (hv:VPs plan) (a:Zb) (ha:a.Parties.length≤140737488355328) {p:Zc} (hp:VProd plan p) (ps:List Int) (hps:ps.length≤140737488355328) (m:List (Za×Bool)) (S:CSet) (hm:∀ c,(kz m c).getD false=S c) :
    eX plan a p ⟨ps,m⟩=some ((e7 plan a ps S p).map Ad,(p.Inputs.foldl (lw plan a) p.Processes).take 8):=by
  unfold eX bP
  have hpr:=Fl hp.proc
  have hfew:=hp.few
  rw [js (by omega) (by omega),bg]
  refine (cb (l:=p.Inputs) (by omega) (fun i (s:List Ze×List ByteArray)=>(s.1,s.2,i)) (fun s x=>(s.1++(fL plan a ps S x).map Ad,lw plan a s.2 x)) (fun s=>s) (fun k s=>s.1.length≤8*k∧s.2.length≤8+8*k) ([],p.Processes) ⟨by simp,by simpa using hpr⟩ (fun k hk s hs=>?_) (fun s _=>by simp only [cR,bI])).1.trans ?_
  · obtain ⟨l9,l12⟩:=s
    obtain ⟨h1,h2⟩:=hs
    dsimp only at h1 h2 ⊢
    obtain ⟨hin,hv0,hv1⟩:=hp.inp _ (List.getElem_mem hk)
    obtain ⟨hq1,hq2,hq3⟩:=kg hv hin
    have hql:=hq2.few
    refine ⟨?_,by have:=qc hv a ps S p.Inputs[k] hin;simp;omega,by have:=wX hv a l12 p.Inputs[k] hin;omega⟩
    simp only [ik hk,bY,aV hk,bg,bR hk (show p.Inputs.length≤4611686018427387904 by omega),vn hv]
    generalize hx:p.Inputs[k]=x at *
    rw [rQ _ _ ha,wW ps m S hm hps]
    unfold fL lw tj
    have e1:Option.bind (gd (a.Kind == 3) (some (lF a.Parties (bQ plan x.Product).Country))) (fun x33=>some ((a.Kind == 3)&&x33))=some ((a.Kind == 3)&&lF a.Parties (bQ plan x.Product).Country):=by cases (a.Kind == 3) <;> rfl
    have e2:∀ {β:Type} (K:Bool→Option β),(∀ b c,((a.Kind == 3)&&b)=((a.Kind == 3)&&c)→K b=K c)→Option.bind (gd (a.Kind == 3) (some (lF a.Parties (bQ plan x.Product).Country))) K=K (lF a.Parties (bQ plan x.Product).Country):=by
      intro β K hK
      cases hk3:(a.Kind == 3)
      · show K default=_;exact hK _ _ (by rw [hk3];rfl)
      rfl
    rw [e2 _ (fun b c hbc=>by simp only [hbc])]
    generalize hF:((a.Kind == 3)&&lF a.Parties (bQ plan x.Product).Country)=F
    have e3:(cond F (Option.bind (jF l12 (bQ plan x.Product).Processes) (fun x38=>some x38)) (some l12))=some (cond F (ns l12 (bQ plan x.Product).Processes) l12):=by
      cases F
      · rfl
      rw [bY,AZ _ _ (by have:=Fl hq2.proc;omega)];rfl
    simp only [e3,bg,yg,len0]
    cases hc:((fM ps S (bQ plan x.Product) x.Value).2.isSome || !F||(bQ plan x.Product).Inputs.isEmpty)
    · simp only [bI]
      refine (congrArg (fun o=>Option.bind o _) (cb (l:=(bQ plan x.Product).Inputs) (by omega) (fun i (s:List Ze)=>(s,i)) (fun s y=>s++[Ad (fM ps S (bQ plan y.Product) (dN x.Value y.Value (bQ plan x.Product).Price))]) (fun s=>s) (fun j s=>s.length≤8*k+j) l9 h1 (fun j hj s hs=>⟨?_,by simp;omega⟩) (fun s _=>by simp only [cR,bI])).1).trans ?_
      rotate_left
      · simp only [bg]
        have hfl:∀ (ys:List Zh) (acc:List Ze),ys.foldl (fun s y=>s++[Ad (fM ps S (bQ plan y.Product) (dN x.Value y.Value (bQ plan x.Product).Price))]) acc=acc++(ys.map fun y=>fM ps S (bQ plan y.Product) (dN x.Value y.Value (bQ plan x.Product).Price)).map Ad:=by
          intro ys
          induction ys with
          | nil=>intro acc;simp
          | cons y ys ih=>intro acc;rw [List.foldl_cons,ih];simp
        rw [hfl]
      obtain ⟨hy1,hy2,hy3⟩:=hq2.inp _ (List.getElem_mem hj)
      simp only [ik hj,bY,aV hj,bg,bR hj (show (bQ plan x.Product).Inputs.length≤4611686018427387904 by omega),vn hv]
      rw [yf ⟨hv0,hv1⟩ ⟨hy2,hy3⟩ hq2.price,bg,wW ps m S hm hps,bg,cS (by simp;omega) (by simp;omega)];rfl
    simp only [bY]
    rw [cS (by simp;omega) (by simp;omega)];rfl
  dsimp only
  have hfold:∀ (xs:List Zh) (s:List Ze×List ByteArray),xs.foldl (fun s x=>(s.1++(fL plan a ps S x).map Ad,lw plan a s.2 x)) s=(s.1++(xs.flatMap (fL plan a ps S)).map Ad,xs.foldl (lw plan a) s.2):=by
    intro xs
    induction xs with
    | nil=>intro s;simp
    | cons x xs ih=>intro s;rw [List.foldl_cons,ih,List.flatMap_cons];simp
  rw [hfold]
  dsimp only
  rw [BM _ _ (by omega),bg];rfl
theorem qv {p:List Zc} {l:List Zb} {i:ByteArray} {c:Za} (h:lG p l i c=true):∃ q a r,da p c.Product=some q∧lQ l c.Agreement=some a∧eZ a q.Code=some r∧q.Country≠i∧xY a q.Country i=true:=by
 unfold lG at h
 split at h
 ·rename_i q a e1 e2
  simp only [Bool.and_eq_true,Bool.not_eq_true',decide_eq_false_iff_not] at h
  obtain ⟨⟨h1,h2⟩,h3⟩:=h
  obtain ⟨r,hr⟩:=Option.isSome_iff_exists.1 h3
  exact ⟨q,a,r,e1,e2,hr,h1,h2⟩
 cases h
theorem oD {plan:List Zc} (hv:VPs plan) (a:Zb) (ps:List Int) (S:CSet) {p:Zc} (hp:VProd plan p):(e7 plan a ps S p).length≤64:=by
 unfold e7
 have key:∀ xs:List Zh,(∀ x∈xs,(da plan x.Product).isSome=true)→(xs.flatMap (fL plan a ps S)).length≤8*xs.length:=by
  intro xs
  induction xs with
  | nil=>intro _;simp
  | cons x xs ih =>
   intro h
   rw [List.flatMap_cons,List.length_append,List.length_cons]
   have h1:=qc hv a ps S x (h x (by simp));have h2:=ih fun y hy=>h y (by simp [hy]);omega
 have h1:=key p.Inputs fun x hx=>(hp.inp x hx).1
 have h2:=hp.few
 omega
theorem C8 {plan:List Zc} {l:List Zb} (hv:VPs plan) (hl:VAs l) (imp:ByteArray) (c:Za) (set:List Za) (hs:set.length≤140737488355328):eY plan l imp c set=some (wV plan l imp c (ba set)):=by
 unfold eY wV
 have hlen:=hl.len
 rw [zL _ _ _ _ hv.sorted hl,bg]
 cases had:lG plan l imp c
 ·rfl
 obtain ⟨q,a,r,e1,e2,_,_,_⟩:=qv had
 have hq:VProd plan (bQ plan c.Product):=(kg hv (by rw [e1];rfl)).2.1
 have ha:oN l c.Agreement=a:=by unfold oN;rw [e2];rfl
 have hva:=(nN hl e2).1
 simp only [Bool.not_true,bI,bY]
 rw [vn hv,bg,rm _ _ (by omega),e2,bg,wa _ _ _ _ hl,bg]
 have hpl:=rR l c.Agreement (bQ plan c.Product).Country imp
 unfold qb wU
 rw [ha]
 generalize hps:eF l c.Agreement (bQ plan c.Product).Country imp=ps at *
 refine (cb (l:=set) (by omega) (fun i (m:List (Za×Bool))=>(i,m)) (fun m x=>o8 m x true) (fun m=>m) (fun _ _=>True) [] trivial (fun k hk m _=>⟨?_,trivial⟩) (fun m _=>by simp only [cR,bI])).1.trans ?_
 ·simp only [ik hk,bY,aV hk,bg,bR hk (show set.length≤4611686018427387904 by omega)]
 rw [C7 hv (hZ CY (some a)).1 hva.ok.par.1 hq ps (by omega) _ (ba set) (fun c=>Fj set c),bg]
 dsimp +instances only [hZ]
 have hsl:=oD hv a ps (ba set) hq
 refine (cb (l:=(e7 plan a ps (ba set) (bQ plan c.Product)).map Ad) (by rw [List.length_map];omega) (fun i (s:List Za×List Zk)=>(s.1,i,s.2)) (fun s x=>(cond x.is_proved_ (s.1++[x.as_proved_.premise]) s.1,s.2++[match x with | .plain_ y=>y.use | .proved_ y=>y.use])) (fun s=>s) (fun k s=>s.1.length≤k∧s.2.length≤k) ([],[]) ⟨by simp,by simp⟩ (fun k hk s hs=>⟨?_,?_⟩) (fun s _=>by simp only [cR,bI])).1.trans ?_
 ·have hk2:k<64:=by rw [List.length_map] at hk;omega
  have ei:∀ x:Ze,Icumulation_supply_input x=some (match x with | .plain_ y=>y.use | .proved_ y=>y.use):=fun x=>by cases x <;> rfl
  simp only [ik hk,bY,aV hk,bg,bR hk (show ((e7 plan a ps (ba set) (bQ plan c.Product)).map Ad).length≤4611686018427387904 by rw [List.length_map];omega),ei]
  rw [cS (by simp;omega) (by simp;omega),bg,cS (by simp;omega) (by simp;omega)]
  cases ((e7 plan a ps (ba set) (bQ plan c.Product)).map Ad)[k].is_proved_ <;> rfl
 ·obtain ⟨h1,h2⟩:=hs
  cases ((e7 plan a ps (ba set) (bQ plan c.Product)).map Ad)[k].is_proved_ <;> simp <;> omega
 have key:∀ (xs:List (Zk×Option Za)) (s:List Za×List Zk),(xs.map Ad).foldl (fun s x=>(cond x.is_proved_ (s.1++[x.as_proved_.premise]) s.1,s.2++[match x with | .plain_ y=>y.use | .proved_ y=>y.use])) s=(s.1++xs.filterMap (·.2),s.2++xs.map (·.1)):=by
  intro xs
  induction xs with
  | nil=>intro s;simp
  | cons x xs ih =>
   intro s
   obtain ⟨i,o⟩:=x
   rw [List.map_cons,List.foldl_cons,ih]
   cases o with
   | none=>simp [Ad,Ze.is_proved_]
   | some c=>simp [Ad,Ze.is_proved_,Ze.as_proved_]
 rw [key]
 simp only [List.nil_append]
 show Option.bind (some (ko bw _)) _=_
 rw [bg,zM _ (by rw [mq];have:=List.length_filterMap_le (fun x:Zk×Option Za=>x.2) (e7 plan a ps (ba set) (bQ plan c.Product));omega)];rfl
theorem Fm {plan:List Zc} {l:List Zb} (hv:VPs plan) (hl:VAs l) (imp:ByteArray) (c:Za) (set:List Za) (hs:set.length≤140737488355328):gP plan l imp c set=some (wV plan l imp c (ba set)):=by
 unfold gP wV
 have hlen:=hl.len
 rw [B2 _ _ _ _ (by have:=hv.len;omega) hl,bg]
 cases had:lG plan l imp c
 ·rfl
 obtain ⟨q,a,r,e1,e2,_,_,_⟩:=qv had
 have hq:VProd plan (bQ plan c.Product):=(kg hv (by rw [e1];rfl)).2.1
 have ha:oN l c.Agreement=a:=by unfold oN;rw [e2];rfl
 have hva:=(nN hl e2).1
 simp only [Bool.not_true,bI,bY]
 rw [sI hv,bg,sG _ _ (by omega),e2,bg,xZ _ _ _ _ hl,bg]
 have hpl:=rR l c.Agreement (bQ plan c.Product).Country imp
 unfold qb wU
 rw [ha]
 simp only [hZ]
 generalize hps:eF l c.Agreement (bQ plan c.Product).Country imp=ps at *
 have hpr:=Fl hq.proc
 have hfew:=hq.few
 generalize bQ plan c.Product=p at *
 have hps2:ps.length≤140737488355328:=by omega
 refine (cb (l:=p.Inputs) (by omega) (fun i (s:List Za×List ByteArray×List Zk)=>(s.1,s.2.1,i,s.2.2)) (fun s x=>(((fL plan a ps (ba set) x).filterMap (·.2)).foldl (ia bw) s.1,lw plan a s.2.1 x,s.2.2++(fL plan a ps (ba set) x).map (·.1))) (fun s=>s) (fun k s=>s.1.length≤8*k∧s.2.1.length≤8+8*k∧s.2.2.length≤8*k) ([],p.Processes,[]) ⟨by simp,by simpa using hpr,by simp⟩ (fun k hk s hs=>?_) (fun s _=>by simp only [cR,bI])).1.trans ?_
 ·obtain ⟨l13,l14,l17⟩:=s
  obtain ⟨h1,h2,h3⟩:=hs
  dsimp only at h1 h2 h3 ⊢
  obtain ⟨hin,hv0,hv1⟩:=hq.inp _ (List.getElem_mem hk)
  obtain ⟨hq1,hq2,hq3⟩:=kg hv hin
  have hql:=hq2.few
  have hsl:=qc hv a ps (ba set) p.Inputs[k] hin
  have hins:∀ (cs:List Za) (u:List Za),(cs.foldl (ia bw) u).length≤u.length+cs.length:=by
   intro cs
   induction cs with
   | nil=>intro u;simp
   | cons c cs ih=>intro u;rw [List.foldl_cons,List.length_cons];have h1:=ih (ia bw u c);have h2:=lv (lt:=bw) u c;omega
  refine ⟨?_,?_,by have:=wX hv a l14 p.Inputs[k] hin;omega,by simp;omega⟩
  rotate_left
  ·have g1:=hins ((fL plan a ps (ba set) p.Inputs[k]).filterMap (·.2)) l13
   have g2:=List.length_filterMap_le (fun x:Zk×Option Za=>x.2) (fL plan a ps (ba set) p.Inputs[k])
   omega
  simp only [ik hk,bY,aV hk,bg,bR hk (show p.Inputs.length≤4611686018427387904 by omega),sI hv]
  generalize hx:p.Inputs[k]=x at *
  have hset:set.length≤140737488355328:=hs
  have htk:=Fk ps set hps2 hset
  rw [qr _ _ hva.ok.par.1,(htk (bQ plan x.Product) x.Value).1]
  unfold fL lw tj
  have e2:∀ {β:Type} (K:Bool→Option β),(∀ b c,((a.Kind == 3)&&b)=((a.Kind == 3)&&c)→K b=K c)→Option.bind (gd (a.Kind == 3) (some (lF a.Parties (bQ plan x.Product).Country))) K=K (lF a.Parties (bQ plan x.Product).Country):=by
   intro β K hK
   cases hk3:(a.Kind == 3)
   ·show K default=_;exact hK _ _ (by rw [hk3];rfl)
   rfl
  rw [e2 _ (fun b c hbc=>by simp only [hbc])]
  generalize hF:((a.Kind == 3)&&lF a.Parties (bQ plan x.Product).Country)=F
  have e3:(cond F (Option.bind (jz l14 (bQ plan x.Product).Processes) (fun x38=>some x38)) (some l14))=some (cond F (ns l14 (bQ plan x.Product).Processes) l14):=by
   cases F
   ·rfl
   rw [bY,C1 _ _ (by have:=Fl hq2.proc;omega)];rfl
  have e4:∀ (o:Option Za) (u:List Za),u.length≤1000000→(cond o.isSome (Option.bind (eC u (hZ A5 o).1) (fun x53=>some x53)) (some u))=some (match o with | some c=>ia bw u c | none=>u):=by
   intro o u hu
   cases o with
   | none=>rfl
   | some c=>show Option.bind (eC u c) _=_;rw [sH _ _ (by omega)];rfl
  have e5:∀ o:Option Za,(hZ A5 o).2=o.isSome:=fun o=>by cases o <;> rfl
  simp only [e3,bg,e5]
  simp only [e4 _ l13 (show l13.length≤1000000 by omega),bg,len0]
  have t1:=(htk (bQ plan x.Product) x.Value).2
  generalize htt:fM ps (ba set) (bQ plan x.Product) x.Value=tt at *
  obtain ⟨ti,to⟩:=tt
  dsimp only at t1 ⊢
  cases hc:(to.isSome || !F||(bQ plan x.Product).Inputs.isEmpty)
  ·have hto:to=none:=by cases to with | none=>rfl | some c=>simp at hc
   subst hto
   simp only [bI]
   refine (congrArg (fun o=>Option.bind o _) (cb (l:=(bQ plan x.Product).Inputs) (by omega) (fun i (s:List Za×List Zk)=>(s.1,i,s.2)) (fun s y=>((match (fM ps (ba set) (bQ plan y.Product) (dN x.Value y.Value (bQ plan x.Product).Price)).2 with | some c=>ia bw s.1 c | none=>s.1),s.2++[(fM ps (ba set) (bQ plan y.Product) (dN x.Value y.Value (bQ plan x.Product).Price)).1])) (fun s=>s) (fun j s=>s.1.length≤8*k+j∧s.2.length≤8*k+j) (l13,l17) ⟨h1,h3⟩ (fun j hj s hs=>⟨?_,?_⟩) (fun s _=>by simp only [cR,bI])).1).trans ?_
   ·obtain ⟨hy1,hy2,hy3⟩:=hq2.inp _ (List.getElem_mem hj)
    simp only [ik hj,bY,aV hj,bg,bR hj (show (bQ plan x.Product).Inputs.length≤4611686018427387904 by omega)]
    rw [zO ⟨hv0,hv1⟩ ⟨hy2,hy3⟩ hq2.price,(htk (bQ plan ((bQ plan x.Product).Inputs[j]).Product) (dN x.Value ((bQ plan x.Product).Inputs[j]).Value (bQ plan x.Product).Price)).1,bg,e5,e4 _ s.1 (by omega),bg,← (htk (bQ plan ((bQ plan x.Product).Inputs[j]).Product) (dN x.Value ((bQ plan x.Product).Inputs[j]).Value (bQ plan x.Product).Price)).2,cS (by simp;omega) (by simp;omega)];rfl
   ·refine ⟨?_,by simp;omega⟩
    dsimp only
    split
    ·rename_i c' _;have:=lv (lt:=bw) s.1 c';omega
    omega
   have hfl:∀ (ys:List Zh) (s:List Za×List Zk),ys.foldl (fun s y=>((match (fM ps (ba set) (bQ plan y.Product) (dN x.Value y.Value (bQ plan x.Product).Price)).2 with | some c=>ia bw s.1 c | none=>s.1),s.2++[(fM ps (ba set) (bQ plan y.Product) (dN x.Value y.Value (bQ plan x.Product).Price)).1])) s=(((ys.map fun y=>fM ps (ba set) (bQ plan y.Product) (dN x.Value y.Value (bQ plan x.Product).Price)).filterMap (·.2)).foldl (ia bw) s.1,s.2++(ys.map fun y=>fM ps (ba set) (bQ plan y.Product) (dN x.Value y.Value (bQ plan x.Product).Price)).map (·.1)):=by
    intro ys
    induction ys with
    | nil=>intro s;simp
    | cons y ys ih =>
     intro s
     rw [List.foldl_cons,ih,List.map_cons]
     cases h:(fM ps (ba set) (bQ plan y.Product) (dN x.Value y.Value (bQ plan x.Product).Price)).2 with
     | none=>simp [h]
     | some c=>simp [h]
   simp only [bg,hfl]
  simp only [bY]
  rw [cS (by simp;omega) (by simp;omega),← t1]
  cases to <;> rfl
 have hfold:∀ (xs:List Zh) (s:List Za×List ByteArray×List Zk),xs.foldl (fun s x=>(((fL plan a ps (ba set) x).filterMap (·.2)).foldl (ia bw) s.1,lw plan a s.2.1 x,s.2.2++(fL plan a ps (ba set) x).map (·.1))) s=(((xs.flatMap (fL plan a ps (ba set))).filterMap (·.2)).foldl (ia bw) s.1,xs.foldl (lw plan a) s.2.1,s.2.2++(xs.flatMap (fL plan a ps (ba set))).map (·.1)):=by
  intro xs
  induction xs with
  | nil=>intro s;simp
  | cons x xs ih=>intro s;rw [List.foldl_cons,ih,List.flatMap_cons];simp
 rw [hfold]
 dsimp only
 rw [BM _ _ (by omega),bg,p9 ordC,List.nil_append];rfl
theorem C6_ctry {s:ByteArray} (h:s∈C6):qC s=true:=List.all_eq_true.1 C6_ok.1 s h
theorem W5_words {l:List ByteArray} (h:l.Sublist W5):j9 l=true:=by
 unfold j9
 have h1:=h.length_le
 have h5:W5.length=5:=rfl
 simp only [Bool.and_eq_true,decide_eq_true_eq]
 exact ⟨by omega,List.all_eq_true.2 fun s hs=>List.all_eq_true.1 W5_ok.1 s (h.subset hs),(lu _).2 (List.Pairwise.sublist h ((lu _).1 W5_ok.2.1))⟩
theorem MPs.found {l:List Zc} (h:MPs l) {k:Nat} (hk:k<l.length):(da l (3*((k:Int)+1))).isSome=true:=by
 unfold da
 rw [List.find?_isSome]
 exact ⟨l[k],List.getElem_mem hk,by have:=(h.all k _ (List.getElem?_eq_getElem hk)).id;simpa using this⟩
theorem MPs.vps {l:List Zc} (h:MPs l):VPs l:=by
 refine ⟨by have:=h.len;omega,h.sorted.asc,fun p hp=>?_⟩
 obtain ⟨i,hi,rfl⟩:=List.getElem_of_mem hp
 have hm:=h.all i _ (List.getElem?_eq_getElem hi)
 refine ⟨by have:=hm.price;omega,by have:=hm.lvl.1;omega,C6_ctry hm.ctr,W5_words hm.proc,by have:=hm.few;omega,hm.asc,fun x hx=>?_,hm.obt⟩
 obtain ⟨⟨k,hk,e⟩,h1,h2⟩:=hm.inp x hx
 exact ⟨by rw [e];exact h.found hk,h1,by omega⟩
theorem Fo (ps:List Int) (S:CSet) (q:Zc) (v:Int):(fM ps S q v).1.Code=q.Code∧(fM ps S q v).1.Value=v∧(fM ps S q v).1.Originating=(fM ps S q v).2.isSome:=by
 unfold fM;split <;> exact ⟨rfl,rfl,rfl⟩
theorem A7 {plan:List Zc} (hv:VPs plan) (a:Zb) (ps:List Int) (S:CSet) {p:Zc} (hp:VProd plan p) (P:Zk×Option Za→Prop) (h:∀ q∈plan,∀ v,0≤v→v≤1000000000000→P (fM ps S q v)):∀ t∈e7 plan a ps S p,P t:=by
 intro t ht
 unfold e7 at ht
 obtain ⟨x,hx,ht⟩:=List.mem_flatMap.1 ht
 obtain ⟨h1,h2,h3⟩:=hp.inp x hx
 obtain ⟨hq1,hq2,_⟩:=kg hv h1
 unfold fL at ht
 cases hc:((fM ps S (bQ plan x.Product) x.Value).2.isSome || !tj a (bQ plan x.Product)||(bQ plan x.Product).Inputs.isEmpty)
 ·rw [hc,bI] at ht
  obtain ⟨y,hy,rfl⟩:=List.mem_map.1 ht
  obtain ⟨g1,g2,g3⟩:=hq2.inp y hy
  have hr:=vm h2 g2 hq2.price.1
  exact h _ (kg hv g1).1 _ hr.1 hr.2
 rw [hc,bY] at ht
 rw [List.mem_singleton.1 ht]
 exact h _ hq1 _ h2 h3
theorem zP {a b:List ByteArray} (ha:∀ s∈a,gJ s=true) (hb:∀ s∈b,gJ s=true):(∀ s∈ns a b,gJ s=true)∧Strict iN (ns a b):=by
 refine ⟨fun s hs=>?_,wO AY _⟩
 have:=(Fc (lt:=iN) (a++b) s).1 hs
 rcases List.mem_append.1 this with h | h
 ·exact ha s h
 exact hb s h
theorem vo {plan:List Zc} (hv:VPs plan) (a:Zb):∀ (xs:List Zh) (acc:List ByteArray),(∀ x∈xs,(da plan x.Product).isSome=true)→(∀ s∈acc,gJ s=true)→Strict iN acc→(∀ s∈xs.foldl (lw plan a) acc,gJ s=true)∧Strict iN (xs.foldl (lw plan a) acc)
 | [],acc,_,h1,h2=>⟨h1,h2⟩
 | x::xs,acc,h,h1,h2=>by
  have hx:=kg hv (h x (by simp))
  rw [List.foldl_cons]
  have:(∀ s∈lw plan a acc x,gJ s=true)∧Strict iN (lw plan a acc x):=by
   unfold lw
   cases tj a (bQ plan x.Product)
   ·exact ⟨h1,h2⟩
   exact zP h1 (kf hx.2.1.proc).2.1
  exact vo hv a xs _ (fun y hy=>h y (by simp [hy])) this.1 this.2
theorem vp {s:ByteArray} (h:gJ s=true):s.size≤12:=by
 unfold gJ at h;simp only [Bool.and_eq_true,decide_eq_true_eq] at h;omega
theorem A8 {l:List ByteArray} (h1:∀ s∈l,gJ s=true) (h2:Strict iN l):j9 (l.take 8)=true∧StrsOk (l.take 8):=by
 refine ⟨?_,by rw [List.length_take];omega,fun s hs=>by have:=vp (h1 s (List.mem_of_mem_take hs));omega⟩
 unfold j9
 simp only [Bool.and_eq_true,decide_eq_true_eq]
 exact ⟨by rw [List.length_take];omega,List.all_eq_true.2 fun s hs=>h1 s (List.mem_of_mem_take hs),(lu _).2 (List.Pairwise.sublist (List.take_sublist _ _) h2)⟩
structure VCase (x:Zm):Prop where
 lvl:6≤dL x.Code
 price:1≤x.Price∧x.Price≤1000000000000
 proc:j9 x.Processes=true∧StrsOk x.Processes
 few:x.Inputs.length≤100
 inp:∀ y∈x.Inputs,6≤dL y.Code∧0≤y.Value∧y.Value≤1000000000000
theorem vq {plan:List Zc} {l:List Zb} (hv:VPs plan) (imp:ByteArray) (c:Za) (S:CSet) (h:(da plan c.Product).isSome=true):VCase (qb plan l imp c S):=by
 obtain ⟨hq1,hq,_⟩:=kg hv h
 obtain ⟨w1,w2,w3⟩:=kf hq.proc
 have hw:=vo hv (oN l c.Agreement) (bQ plan c.Product).Inputs _ (fun x hx=>(hq.inp x hx).1) w2 w3
 refine ⟨hq.lvl,hq.price,A8 hw.1 hw.2,?_,?_⟩
 ·unfold qb;dsimp only;rw [List.length_map];have:=oD hv (oN l c.Agreement) (eF l c.Agreement (bQ plan c.Product).Country imp) S hq;omega
 unfold qb;dsimp only
 intro y hy
 obtain ⟨t,ht,rfl⟩:=List.mem_map.1 hy
 refine A7 hv _ _ S hq (fun t=>6≤dL t.1.Code∧0≤t.1.Value∧t.1.Value≤1000000000000) (fun q hqp v h1 h2=>?_) t ht
 obtain ⟨g1,g2,_⟩:=Fo (eF l c.Agreement (bQ plan c.Product).Country imp) S q v
 rw [g1,g2];exact ⟨(hv.all q hqp).lvl,h1,h2⟩
theorem vr {x:Zm} (h:VCase x):gj x=some 0:=by
 unfold gj iA
 have hl:=h.few
 show Option.bind (some (decide (6≤dL x.Code))) _=_
 rw [det h.lvl,bg]
 simp only [Bool.not_true,bI]
 rw [bK (by have:=h.price;omega),bK (by have:=h.price;omega),Bool.or_self,bI,rk _ h.proc.2,h.proc.1,bg]
 simp only [Bool.not_true,bI]
 rw [bK (by omega),bI]
 refine (bJ (l:=x.Inputs) (by omega) (fun _ _=>none) (.inl ()) (fun k hk=>?_) (by simp only [cR,bI])).trans ?_
 ·have hy:=h.inp _ (List.getElem_mem hk)
  simp only [ik hk,bY,aV hk,bg,bR hk (show x.Inputs.length≤4611686018427387904 by omega)]
  show Option.bind (Option.bind (some (dL x.Inputs[k].Code)) _) _=_
  rw [bg,det hy.1,bg,bK (by omega),bK (by omega)];rfl
 have:∀ (m:List Zk) (i:Nat),cE (fun (_:Nat) (_:Zk)=>(none:Option (Unit⊕Int))) m i=none:=by
  intro m
  induction m with
  | nil=>intro i;rfl
  | cons x m ih=>intro i;exact ih _
 rw [this];rfl
theorem Fq {plan:List Zc} {l:List Zb} (hv:VPs plan) (imp:ByteArray) (c:Za) (S:CSet) (h:(da plan c.Product).isSome=true):(wU plan l imp c S).length≤64:=by
 obtain ⟨hq1,hq,_⟩:=kg hv h
 unfold wU
 have h1:=Fd (lt:=bw) ((e7 plan (oN l c.Agreement) (eF l c.Agreement (bQ plan c.Product).Country imp) S (bQ plan c.Product)).filterMap (·.2))
 have h2:=List.length_filterMap_le (fun x:Zk×Option Za=>x.2) (e7 plan (oN l c.Agreement) (eF l c.Agreement (bQ plan c.Product).Country imp) S (bQ plan c.Product))
 have h3:=oD hv (oN l c.Agreement) (eF l c.Agreement (bQ plan c.Product).Country imp) S hq
 omega
theorem wY {p:List Zc} {l:List Zb} {i:ByteArray} {c:Za} (h:lG p l i c=true):(da p c.Product).isSome=true:=by
 obtain ⟨q,a,r,e,_⟩:=qv h;rw [e];rfl
def xw (n:Int):Zo:=⟨n / 18446744073709551616,n % 18446744073709551616⟩
def U128 (n:Int):Prop:=0≤n∧n<340282366920938463463374607431768211456
theorem xw_of {w:Zo} (h:XW w):w=xw (xv w)∧U128 (xv w):=by
 obtain ⟨a,b⟩:=w
 unfold XW U64 at h;unfold xw xv U128;dsimp only at *
 refine ⟨?_,by omega⟩
 congr 1 <;> omega
theorem xmul {a b:Int} (ha:U64 a) (hb:U64 b):jy a b=some (xw (a*b))∧U128 (a*b):=by
 obtain ⟨w,e1,e2,e3⟩:=wR ha hb
 have:=xw_of e2
 rw [e3] at this
 rw [e1];exact ⟨congrArg some this.1,this.2⟩
theorem xcmp {a b:Int} (ha:U128 a) (hb:U128 b):gi (xw a) (xw b)=some (if a<b then -1 else if a=b then 0 else 1):=by
 unfold U128 at *
 unfold gi xw Zo.eqb
 dsimp only
 by_cases h:a<b
 ·have:((decide (a / 18446744073709551616<b / 18446744073709551616))||((a / 18446744073709551616 == b / 18446744073709551616)&&(decide (a % 18446744073709551616<b % 18446744073709551616))))=true:=by
   simp only [Bool.or_eq_true,Bool.and_eq_true,decide_eq_true_eq,beq_iff_eq];omega
  rw [this,if_pos h];rfl
 ·have:((decide (a / 18446744073709551616<b / 18446744073709551616))||((a / 18446744073709551616 == b / 18446744073709551616)&&(decide (a % 18446744073709551616<b % 18446744073709551616))))=false:=by
   simp only [Bool.or_eq_false_iff,Bool.and_eq_false_iff,decide_eq_false_iff_not,beq_eq_false_iff_ne];omega
  rw [this,if_neg h]
  simp only [bI]
  by_cases h2:a=b
  ·subst h2;simp
  rw [if_neg h2]
  have:((a / 18446744073709551616 == b / 18446744073709551616)&&(a % 18446744073709551616 == b % 18446744073709551616))=false:=by
   simp only [Bool.and_eq_false_iff,beq_eq_false_iff_ne];omega
  simp [this]
theorem tk {v s p:Int} (hv:0≤v∧v≤100000000000000) (hs:0≤s∧s≤1000000) (hp:0≤p∧p≤1000000000000):jD v s p=some (decide (v*1000000≤s*p)):=by
 unfold jD
 rw [fj (a:=v) ⟨by omega,by omega⟩,fj (a:=s) ⟨by omega,by omega⟩,fj (a:=p) ⟨by omega,by omega⟩]
 obtain ⟨e1,u1⟩:=xmul (a:=v) (b:=1000000) ⟨by omega,by omega⟩ ⟨by omega,by omega⟩
 obtain ⟨e2,u2⟩:=xmul (a:=s) (b:=p) ⟨by omega,by omega⟩ ⟨by omega,by omega⟩
 rw [e1,bg,e2,bg,xcmp u1 u2,bg]
 congr 1
 by_cases h:v*1000000<s*p
 ·rw [if_pos h,det (by omega),det (by omega)]
 rw [if_neg h]
 by_cases h2:v*1000000=s*p
 ·rw [if_pos h2,det (by omega),det (by omega)]
 rw [if_neg h2,bK (by omega),bK (by omega)]
def qd (r:Zd) (code inp:ByteArray):Bool:=hY inp (code.extract 0 r.Digits.toNat)||r.Except.any fun x=>hY inp x
theorem Fr (l:List ByteArray) (s:ByteArray) (hl:l.length≤140737488355328):ce l (fun y=>fX y s)=some (l.any fun x=>hY s x):=by
 unfold ce
 have e:cD l (fun y=>fX y s)=some (match cE (fun k x=>cond (hY s x) (some (Sum.inr (k:Int):Unit⊕Int)) none) l 0 with | some (.inr k)=>k | _ => -1):=by
  unfold cD
  refine (bJ (l:=l) (by omega) (fun k x=>cond (hY s x) (some (.inr (k:Int))) none) (.inl ()) (fun k hk=>?_) (by simp only [cR,bI])).trans ?_
  ·simp only [ik hk,bY,aV hk,bg,bR hk (show l.length≤4611686018427387904 by omega)]
   unfold fX
   rw [sF,bg,bg];cases hY s l[k] <;> rfl
  cases cE (fun k x=>cond (hY s x) (some (Sum.inr (k:Int):Unit⊕Int)) none) l 0 with
  | none=>rfl
  | some t=>cases t <;> rfl
 rw [e,bg]
 rcases pX (fun x=>hY s x) (fun k=>(Sum.inr (k:Int):Unit⊕Int)) l 0 with ⟨h1,h2⟩ | ⟨j,hj,h1,h2⟩
 ·rw [h1]
  have:(l.any fun x=>hY s x)=false:=by rw [List.any_eq_false];exact fun x hx=>by have:=List.find?_eq_none.1 h2 x hx;simpa using this
  rw [this];rfl
 rw [h1]
 have:(l.any fun x=>hY s x)=true:=by
  rw [List.any_eq_true];exact ⟨_,List.getElem_mem hj,List.find?_some h2⟩
 rw [this]
 show some (decide (0≤((0+j:Nat):Int)))=_
 rw [det (by omega)]
theorem rn {s:ByteArray} (h:6≤dL s):6≤s.size:=by
 unfold dL at h
 split at h
 ·omega
 omega
theorem wb {r:Zd} {code:ByteArray} (hd:r.Digits=2∨r.Digits=4∨r.Digits=6) (he:r.Except.length≤6) (hc:6≤dL code) (inp:ByteArray):ig r code inp=some (qd r code inp):=by
 unfold ig qd
 have hs:=rn hc
 have e:jR code 0 r.Digits=some (code.extract 0 r.Digits.toNat):=by
  unfold jR;rw [if_pos (by omega)];rfl
 rw [e,bg,sF,bg]
 cases hY inp (code.extract 0 r.Digits.toNat)
 ·simp only [bI,Bool.false_or];rw [Fr _ _ (by omega),bg]
 rfl
def wS (f:Zk→Int):List Zk→Int
 | []=>0
 | i::l=>cond i.Originating 0 (f i)+wS f l
def fV (i:Zk):Int:=i.Value
def fW (r:Zd) (code:ByteArray) (i:Zk):Int:=cond (qd r code i.Code) i.Value 0
def fN (_:Zk):Int:=1
def kq (r:Zd) (x:Zm):Bool :=
 cond (r.Kind == 1) (x.Obtained&&(wS fN x.Inputs == 0)) (cond (r.Kind == 2) (decide (wS (fW r x.Code) x.Inputs*1000000≤r.Tolerance*x.Price)) (cond (r.Kind == 3) (decide (wS fV x.Inputs*1000000≤r.Limit*x.Price)) (cond (r.Kind == 4) (lF x.Processes r.Name) false)))
theorem qe {f:Zk→Int} {b:Int} (hb:0≤b):∀ {l:List Zk},(∀ i∈l,0≤f i∧f i≤b)→0≤wS f l∧wS f l≤l.length*b
 | [],_=>by simp [wS]
 | i::l,h=>by
  have h1:=qe hb (l:=l) fun j hj=>h j (by simp [hj])
  have h2:=h i (by simp)
  rw [wS,List.length_cons]
  have e:((l.length+1:Nat):Int)*b=l.length*b+b:=by rw [Int.natCast_add,Int.add_mul];simp
  rw [e]
  cases i.Originating
  ·simp only [bI];omega
  simp only [bY];omega
theorem prog_holds {r:Zd} {x:Zm} (hx:VCase x) (hr:dY r=true):rule_holds r x=some (kq r x):=by
 unfold rule_holds
 have hfew:=hx.few
 have hrl:=mt hr
 have hvi:r.Kind=2→∀ i,ig r x.Code i=some (qd r x.Code i):=by
  intro hk i
  have hl:=hr
  rw [gG,hk] at hl
  simp only [jG,hk,Bool.and_eq_true] at hl
  have h3:=hl.2
  simp at h3
  exact wb (by omega) hrl.2.2 hx.lvl i
 refine (cb (l:=x.Inputs) (by omega) (fun i (s:Int×Int×Int)=>(s.1,s.2.1,s.2.2,i)) (fun s i=>(s.1+cond i.Originating 0 (fV i),s.2.1+cond i.Originating 0 (cond (r.Kind == 2) (fW r x.Code i) 0),s.2.2+cond i.Originating 0 (fN i))) (fun s=>s) (fun k s=>(0≤s.1∧s.1≤k*1000000000000)∧(0≤s.2.1∧s.2.1≤k*1000000000000)∧(0≤s.2.2∧s.2.2≤k)) (0,0,0) ⟨by simp,by simp,by simp⟩ (fun k hk s hs=>?_) (fun s _=>by simp only [cR,bI])).1.trans ?_
 ·obtain ⟨a,b,c⟩:=s
  obtain ⟨s1,s2,s3⟩:=hs
  dsimp only at s1 s2 s3 ⊢
  have hi:=hx.inp _ (List.getElem_mem hk)
  have hk100:k<100:=by omega
  simp only [ik hk,bY,aV hk,bg,bR hk (show x.Inputs.length≤4611686018427387904 by omega)]
  generalize x.Inputs[k]=i at hi
  unfold fV fN fW
  cases i.Originating
  ·simp only [bI]
   cases hk2:(r.Kind == 2)
   ·simp only [jx,bg,Bool.false_and,bI]
    rw [cH (r:=a+i.Value) (by omega) (by omega),cH (r:=c+1) (by omega) (by omega)]
    refine ⟨by simp,⟨by omega,by omega⟩,⟨by omega,by omega⟩,by omega,by omega⟩
   rw [cx,hvi (eq_of_beq hk2),bg]
   cases qd r x.Code i.Code
   ·simp only [Bool.and_false,bI,bg,bY]
    rw [cH (r:=a+i.Value) (by omega) (by omega),cH (r:=c+1) (by omega) (by omega)]
    refine ⟨by simp,⟨by omega,by omega⟩,⟨by omega,by omega⟩,by omega,by omega⟩
   simp only [Bool.and_self,bY,bg]
   rw [cH (r:=a+i.Value) (by omega) (by omega),cH (r:=c+1) (by omega) (by omega),cH (r:=b+i.Value) (by omega) (by omega)]
   refine ⟨rfl,⟨by omega,by omega⟩,⟨by omega,by omega⟩,by omega,by omega⟩
  simp only [bY,bg,Int.add_zero]
  refine ⟨trivial,⟨by omega,by omega⟩,⟨by omega,by omega⟩,by omega,by omega⟩
 have key:∀ (l:List Zk) (a b c:Int),l.foldl (fun (s:Int×Int×Int) i=>(s.1+cond i.Originating 0 (fV i),s.2.1+cond i.Originating 0 (cond (r.Kind == 2) (fW r x.Code i) 0),s.2.2+cond i.Originating 0 (fN i))) (a,b,c)=(a+wS fV l,b+wS (fun i=>cond (r.Kind == 2) (fW r x.Code i) 0) l,c+wS fN l):=by
  intro l
  induction l with
  | nil=>intro a b c;simp [wS]
  | cons i l ih=>intro a b c;rw [List.foldl_cons,ih];simp only [wS,Int.add_assoc]
 rw [key]
 dsimp only
 have hv:0≤wS fV x.Inputs∧wS fV x.Inputs≤100000000000000:=by
  have:=qe (f:=fV) (b:=1000000000000) (by omega) (l:=x.Inputs) fun i hi=>(hx.inp i hi).2
  omega
 have hw:0≤wS (fW r x.Code) x.Inputs∧wS (fW r x.Code) x.Inputs≤100000000000000:=by
  have:=qe (f:=fW r x.Code) (b:=1000000000000) (by omega) (l:=x.Inputs) fun i hi=>by
   have:=(hx.inp i hi).2
   unfold fW;cases qd r x.Code i.Code
   ·simp only [bI];omega
   exact this
  omega
 have hp:=hx.price
 unfold kq
 have hl:=hr
 rw [gG] at hl
 unfold jG EN at hl
 simp only [Int.zero_add]
 cases h1:(r.Kind == 1)
 ·cases h2:(r.Kind == 2)
  ·cases h3:(r.Kind == 3)
   ·simp only [bI]
    cases h4:(r.Kind == 4)
    ·rfl
    simp only [bY];rw [rQ _ _ hx.proc.2.1];rfl
   have hk:=eq_of_beq h3
   rw [hk] at hl
   simp at hl
   simp only [bI,bY]
   rw [tk hv hl.2 (by omega)];rfl
  have hk:=eq_of_beq h2
  rw [hk] at hl
  simp at hl
  simp only [bI,bY]
  rw [tk hw (by omega) (by omega)];rfl
 simp only [bY]
mutual
def tt:Zd→Zg
 | ⟨k,d,e,t,m,n,l⟩=>cond (k == 5) (.every_ (tts l)) (cond (k == 6) (.some_ (tts l)) (.single_ ⟨⟨k,d,e,t,m,n,l⟩⟩))
def tts:List Zd→List Zg
 | []=>[]
 | a::l=>tt a::tts l
end
theorem Cd:∀ l:List Zd,tts l=l.map tt
 | []=>by rw [tts];rfl
 | a::l=>by rw [tts,Cd l];rfl
theorem tt_eq (r:Zd):tt r=cond (r.Kind == 5) (.every_ (r.Args.map tt)) (cond (r.Kind == 6) (.some_ (r.Args.map tt)) (.single_ ⟨r⟩)):=by
 cases r;rw [tt,Cd]
theorem rU:∀ {l:List Zd} {a:Zd},a∈l→qD a≤nq l
 | b::l,a,h=>by
  rw [nq]
  rcases List.mem_cons.1 h with rfl | h
  ·omega
  have:=rU h;omega
theorem Fs (n:Nat):∀ r:Zd,dY r=true→tS r≤n→jd n r=some (tt r):=by
 induction n with
 | zero=>intro r _ hd;rw [lE] at hd;omega
 | succ n ih =>
  intro r hr hd
  obtain ⟨hl,ha,_⟩:=mt hr
  show jc (jd n) r=_
  unfold jc
  refine (cb (l:=r.Args) (by omega) (fun i (s:List Zg)=>(s,i)) (fun s x=>s++[tt x]) (fun s=>s) (fun k s=>s.length=k) [] rfl (fun k hk s hs=>?_) (fun s _=>by simp only [cR,bI])).1.trans ?_
  ·simp only [ik hk,bY,aV hk,bg,bR hk (show r.Args.length≤4611686018427387904 by omega)]
   rw [ih _ (ha _ (List.getElem_mem hk)) (by have:=ka (List.getElem_mem hk);omega),bg,cS (by simp;omega) (by simp;omega)]
   exact ⟨rfl,by simp [hs]⟩
  have key:∀ (l:List Zd) (a:List Zg),l.foldl (fun s x=>s++[tt x]) a=a++l.map tt:=by
   intro l
   induction l with
   | nil=>intro a;simp
   | cons x l ih=>intro a;rw [List.foldl_cons,ih];simp
  rw [key,List.nil_append,tt_eq]
  cases (r.Kind == 5) <;> cases (r.Kind == 6) <;> rfl
section
variable (x:Zm)
mutual
def kh:Zd→Option (List Int)
 | ⟨k,d,e,t,m,n,l⟩=>cond (k == 5) (jh l) (cond (k == 6) (kR 0 l) (cond (kq ⟨k,d,e,t,m,n,l⟩ x) (some []) none))
def jh:List Zd→Option (List Int)
 | []=>some []
 | a::l=>(kh a).bind fun p=>(jh l).bind fun q=>some (p++q)
def kR (i:Nat):List Zd→Option (List Int)
 | []=>none
 | a::l=>match kh a with
  | some p=>some ((i:Int)::p)
  | none=>kR (i+1) l
end
end
theorem A9 (x:Zm) (r:Zd):kh x r=cond (r.Kind == 5) (jh x r.Args) (cond (r.Kind == 6) (kR x 0 r.Args) (cond (kq r x) (some []) none)):=by
 cases r;rw [kh]
mutual
theorem rV (x:Zm):∀ (r:Zd) (p:List Int),kh x r=some p→p.length≤qD r
 | ⟨k,d,e,t,m,n,l⟩,p,h=>by
  rw [kh] at h
  rw [qD]
  cases h5:(k == 5)
  ·rw [h5] at h
   simp only [bI] at h
   cases h6:(k == 6)
   ·rw [h6] at h
    simp only [bI] at h
    cases hh:kq ⟨k,d,e,t,m,n,l⟩ x
    ·rw [hh] at h;cases h
    rw [hh] at h;injection h with h;subst h;simp
   rw [h6] at h
   exact zQ x l 0 p h
  rw [h5] at h
  have:=zR x l p h;omega
theorem zR (x:Zm):∀ (l:List Zd) (p:List Int),jh x l=some p→p.length≤nq l
 | [],p,h=>by rw [jh] at h;injection h with h;subst h;simp
 | a::l,p,h=>by
  rw [jh] at h
  rw [nq]
  cases ha:kh x a with
  | none=>rw [ha] at h;cases h
  | some q =>
   rw [ha,bg] at h
   cases hl:jh x l with
   | none=>rw [hl] at h;cases h
   | some s =>
    rw [hl,bg] at h
    injection h with h
    subst h
    have h1:=rV x a q ha
    have h2:=zR x l s hl
    rw [List.length_append];omega
theorem zQ (x:Zm):∀ (l:List Zd) (i:Nat) (p:List Int),kR x i l=some p→p.length≤1+nq l
 | [],i,p,h=>by rw [kR] at h;cases h
 | a::l,i,p,h=>by
  rw [kR] at h
  rw [nq]
  cases ha:kh x a with
  | none =>
   rw [ha] at h
   have:=zQ x l (i+1) p h;omega
  | some q =>
   rw [ha] at h
   injection h with h
   subst h
   have h1:=rV x a q ha
   rw [List.length_cons];omega
end
theorem concatI (a b:List Int) (h:a.length+b.length≤1000000):fJ [a,b]=some (a++b):=by
 unfold fJ lO
 refine (jU (l:=[a,b]) (by simp) (fun i (s:Nat)=>((s:Int),i)) (fun _ x s=>(.inl (s+x.length):Nat⊕Empty)) (fun (s:Nat)=>(s:Int)) noE (fun k s=>s≤1000000∧s=([a,b].take k).flatten.length) 0 ⟨by omega,rfl⟩ (fun k hk s hs=>⟨?_,fun s' h'=>?_⟩) (fun s _=>by simp only [cR,bI])).trans ?_
 ·have hb:s+([a,b][k]).length≤1000000:=by
   obtain ⟨_,e⟩:=hs
   match k,hk with
   | 0,_=>simp at e;subst e;simp;omega
   | 1,_=>simp at e;subst e;simp;omega
  simp only [ik hk,bY,aV hk,bg,bR hk (show [a,b].length≤4611686018427387904 by simp),zi]
  rw [cH (by omega) (by omega),bK (by omega)]
  simp only [bI,Int.natCast_add]
 ·injection h' with h'
  obtain ⟨h1,h2⟩:=hs
  subst h'
  match k,hk with
  | 0,_=>simp at h2 ⊢;subst h2;simp;omega
  | 1,_=>simp at h2 ⊢;subst h2;omega
 show Option.bind (Option.bind (CM 8 ((0+a.length+b.length:Nat):Int)) _) _=_
 rw [AK (by omega) (by omega),bg,bg]
 refine (cb (l:=[a,b]) (by simp) (fun i (s:List Int)=>(s,i)) (fun s x=>s++x) (fun s=>s) (fun k s=>s=([a,b].take k).flatten) [] rfl (fun k hk s hs=>⟨?_,?_⟩) (fun s _=>by simp only [cR,bI])).1.trans ?_
 ·have hb:s.length+([a,b][k]).length≤1000000:=by
   match k,hk with
   | 0,_=>simp at hs;subst hs;simp;omega
   | 1,_=>simp at hs;subst hs;simp;omega
  simp only [ik hk,bY,aV hk,bg,bR hk (show [a,b].length≤4611686018427387904 by simp)]
  rw [cS (by omega) (by omega)];rfl
 ·match k,hk with
  | 0,_=>simp at hs;subst hs;simp
  | 1,_=>simp at hs;subst hs;simp
 simp
theorem C9 (x:Zm) (hx:VCase x) (n:Nat):∀ r:Zd,dY r=true→qD r≤1000→tS r≤n→Irule_test_witness_F n (tt r) x=some (hZ [] (kh x r)):=by
 induction n with
 | zero=>intro r _ _ hd;rw [lE] at hd;omega
 | succ n ih =>
  intro r hr hc hd
  obtain ⟨hl,ha,_⟩:=mt hr
  have hargs:∀ k (hk:k<r.Args.length),Irule_test_witness_F n (tt r.Args[k]) x=some (hZ [] (kh x r.Args[k])):=fun k hk=>ih _ (ha _ (List.getElem_mem hk)) (by have:=pM r;have:=rU (List.getElem_mem hk);omega) (by have:=ka (List.getElem_mem hk);omega)
  have hcl:∀ k (hk:k<r.Args.length) p,kh x r.Args[k]=some p→p.length≤1000:=fun k hk p h=>by have h1:=rV x _ p h;have:=pM r;have:=rU (List.getElem_mem hk);omega
  show Irule_test_witness_B (Irule_test_witness_F n) (tt r) x=_
  rw [tt_eq,A9]
  have hml:(r.Args.map tt).length=r.Args.length:=List.length_map _
  have hmi:∀ k (hk:k<(r.Args.map tt).length),(r.Args.map tt)[k]=tt (r.Args[k]'(by omega)):=fun k hk=>by rw [List.getElem_map]
  cases h5:(r.Kind == 5)
  ·cases h6:(r.Kind == 6)
   ·show iU ⟨r⟩ x=_
    unfold iU
    rw [prog_holds hx hr,bg]
    simp only [bI]
    cases kq r x <;> rfl
   show iT (Irule_test_witness_F n) (r.Args.map tt) x=_
   unfold iT
   refine (bJ (l:=r.Args.map tt) (by omega) (fun k t=>match Irule_test_witness_F n t x with | some (p,true)=>some (.inr ((k:Int)::p,true)) | _=>none) (.inl ()) (fun k hk=>?_) (by simp only [cR,bI])).trans ?_
   ·simp only [ik hk,bY,aV hk,bg,bR hk (show (r.Args.map tt).length≤4611686018427387904 by omega),hmi k hk]
    rw [hargs k (by omega)]
    have:=hcl k (by omega)
    cases hw:kh x (r.Args[k]'(by omega)) with
    | none=>rfl
    | some p =>
     have:=this p hw
     show Option.bind (fJ [[(k:Int)],p]) _=_
     rw [concatI _ _ (by simp;omega)];rfl
   have key:∀ (m:List Zd) (i:Nat),(∀ j (hj:j<m.length),Irule_test_witness_F n (tt m[j]) x=some (hZ [] (kh x m[j])))→cE (fun k t=>match Irule_test_witness_F n t x with | some (p,true)=>some (Sum.inr ((k:Int)::p,true):Unit⊕(List Int×Bool)) | _=>none) (m.map tt) i=(kR x i m).map fun p=>Sum.inr (p,true):=by
    intro m
    induction m with
    | nil=>intro i _;rw [kR];rfl
    | cons a m ih =>
     intro i h
     have h0:=h 0 (by simp)
     have h1:=ih (i+1) fun j hj=>h (j+1) (by simpa using hj)
     rw [List.map_cons,cE,kR,h1]
     change Irule_test_witness_F n (tt a) x=some (hZ [] (kh x a)) at h0
     rw [h0]
     cases kh x a <;> rfl
   rw [key _ 0 hargs]
   simp only [bI,bY]
   cases kR x 0 r.Args <;> rfl
  show iz (Irule_test_witness_F n) (r.Args.map tt) x=_
  unfold iz
  simp only [bY]
  refine (jU (l:=r.Args.map tt) (by omega) (fun i (s:List Int)=>(s,i)) (fun _ t s=>match Irule_test_witness_F n t x with | some (p,true)=>(.inl (s++p):List Int⊕Unit) | _=>.inr ()) (fun s=>.inl s) (fun _=>.inr ([],false)) (fun k s=>s.length≤k*1000) [] (by simp) (fun k hk s hs=>⟨?_,fun s' h'=>?_⟩) (fun s _=>by simp only [cR,bI])).trans ?_
  ·simp only [ik hk,bY,aV hk,bg,bR hk (show (r.Args.map tt).length≤4611686018427387904 by omega),hmi k hk]
   rw [hargs k (by omega)]
   have:=hcl k (by omega)
   cases hw:kh x (r.Args[k]'(by omega)) with
   | none=>rfl
   | some p =>
    have:=this p hw
    show Option.bind (app 8 s p) _=_
    rw [cS (by omega) (by omega)];rfl
  ·have h0:=hargs k (by omega)
   have:=hcl k (by omega)
   rw [hmi k hk,h0] at h'
   cases hw:kh x (r.Args[k]'(by omega)) with
   | none=>rw [hw] at h';cases h'
   | some p =>
    have:=this p hw
    rw [hw] at h'
    injection h' with h'
    subst h'
    rw [List.length_append];omega
  have key:∀ (m:List Zd) (i:Nat) (s:List Int),(∀ j (hj:j<m.length),Irule_test_witness_F n (tt m[j]) x=some (hZ [] (kh x m[j])))→run (fun _ t s=>match Irule_test_witness_F n t x with | some (p,true)=>(.inl (s++p):List Int⊕Unit) | _=>.inr ()) (m.map tt) i s=match jh x m with | some p=>.inl (s++p) | none=>.inr ():=by
   intro m
   induction m with
   | nil=>intro i s _;rw [jh];simp [run]
   | cons a m ih =>
    intro i s h
    have h0:=h 0 (by simp)
    have h1:=fun s=>ih (i+1) s fun j hj=>h (j+1) (by simpa using hj)
    rw [List.map_cons,iX,jh]
    change Irule_test_witness_F n (tt a) x=some (hZ [] (kh x a)) at h0
    rw [h0]
    cases kh x a with
    | none=>rfl
    | some p =>
     show run _ (m.map tt) (i+1) (s++p)=_
     rw [h1,bg]
     cases jh x m with
     | none=>rfl
     | some q=>show Sum.inl (s++p++q)=Sum.inl (s++(p++q));rw [List.append_assoc]
  rw [key _ 0 [] hargs]
  cases jh x r.Args <;> rfl
theorem yh {r:Zd} {x:Zm} (hx:VCase x) (ok:ROk r) (hr:dY r=true) (hc:qD r≤32):oo r x=some (hZ [] (kh x r)):=by
 have hd:=rM r
 have hf:FUEL=1267650600228229401496703205376:=rfl
 unfold oo hX
 rw [qp r ok (by omega),(mM r).2 ⟨hc,hr⟩,bg,show ((0:Int) == 0)=true from rfl,cx,vr hx,bg,bg]
 show Option.bind (jd FUEL r) _=_
 rw [Fs FUEL r hr (by omega),bg]
 show Option.bind (Irule_test_witness_F FUEL (tt r) x) _=_
 rw [C9 x hx FUEL r hr (by omega) (by omega)];rfl
mutual
theorem zS {x y:Zm} (h:∀ r,dY r=true→kq r x=true→kq r y=true):∀ r:Zd,dY r=true→(kh x r).isSome=true→(kh y r).isSome=true
 | ⟨k,d,e,t,m,n,l⟩,hr,hw=>by
  have hl:=hr
  rw [dY] at hl
  rw [kh] at hw ⊢
  cases h5:(k == 5)
  ·rw [h5] at hw hl
   simp only [bI] at hw ⊢
   cases h6:(k == 6)
   ·rw [h6] at hw
    simp only [bI] at hw ⊢
    cases hh:kq ⟨k,d,e,t,m,n,l⟩ x
    ·rw [hh] at hw;cases hw
    rw [h _ hr hh];rfl
   rw [h6] at hw hl
   simp only [Bool.or_true,bY,Bool.and_eq_true] at hl
   exact wZ h l 0 0 k hl.2.2 hw
  rw [h5] at hw hl
  simp only [Bool.true_or,bY,Bool.and_eq_true] at hl
  exact w0 h l k hl.2.2 hw
theorem w0 {x y:Zm} (h:∀ r,dY r=true→kq r x=true→kq r y=true):∀ (l:List Zd) (k:Int),ou k l=true→(jh x l).isSome=true→(jh y l).isSome=true
 | [],k,_,_=>by rw [jh];rfl
 | a::l,k,hr,hw=>by
  rw [ou] at hr
  simp only [Bool.and_eq_true] at hr
  rw [jh] at hw ⊢
  have h1:=zS h a hr.1.2
  have h2:=w0 h l k hr.2
  cases ha:kh x a with
  | none=>rw [ha] at hw;cases hw
  | some p =>
   cases hl:jh x l with
   | none=>rw [ha,hl] at hw;cases hw
   | some q =>
    rw [ha] at h1;rw [hl] at h2
    obtain ⟨p',e1⟩:=Option.isSome_iff_exists.1 (h1 rfl)
    obtain ⟨q',e2⟩:=Option.isSome_iff_exists.1 (h2 rfl)
    rw [e1,e2];rfl
theorem wZ {x y:Zm} (h:∀ r,dY r=true→kq r x=true→kq r y=true):∀ (l:List Zd) (i j:Nat) (k:Int),ou k l=true→(kR x i l).isSome=true→(kR y j l).isSome=true
 | [],i,j,k,_,hw=>by rw [kR] at hw;cases hw
 | a::l,i,j,k,hr,hw=>by
  rw [ou] at hr
  simp only [Bool.and_eq_true] at hr
  rw [kR] at hw ⊢
  have h1:=zS h a hr.1.2
  cases ha:kh x a with
  | none =>
   rw [ha] at hw
   cases kh y a with
   | none=>exact wZ h l (i+1) (j+1) k hr.2 hw
   | some p=>rfl
  | some p =>
   rw [ha] at h1
   obtain ⟨p',e1⟩:=Option.isSome_iff_exists.1 (h1 rfl)
   rw [e1];rfl
end
structure Wt (f:Zk→Int):Prop where
 same:∀ c v a b,f ⟨c,v,a⟩=f ⟨c,v,b⟩
 pos:∀ i:Zk,0≤i.Value→0≤f i
section
variable {γ δ π:Type} [DecidableEq δ] (gc:γ→δ) (cl:π→δ) (pv:(δ→Bool)→γ→Option π)
def lH:Nat→List γ→List π→List π
 | 0,_,ps=>ps
 | n+1,o,ps=>cond (o.filterMap (pv (ba (ps.map cl)))).isEmpty ps (lH n (o.filter fun g=>(pv (ba (ps.map cl)) g).isNone) (ps++o.filterMap (pv (ba (ps.map cl)))))
def rW (G:List γ):Nat→List π→List π
 | 0,ps=>ps
 | n+1,ps=>cond (G.filterMap fun g=>cond (ba (ps.map cl) (gc g)) none (pv (ba (ps.map cl)) g)).isEmpty ps (rW G n (ps++G.filterMap fun g=>cond (ba (ps.map cl) (gc g)) none (pv (ba (ps.map cl)) g)))
def Closed (G:List γ) (T:δ→Bool):Prop:=∀ g∈G,(pv T g).isSome=true→T (gc g)=true
structure RInv (G o:List γ) (ps:List π):Prop where
 all:∀ g∈G,g∈o∨ba (ps.map cl) (gc g)=true
 opn:∀ g∈o,g∈G∧ba (ps.map cl) (gc g)=false
 prv:∀ p∈ps,∃ g∈G,gc g=cl p∧(pv (ba (ps.map cl)) g).isSome=true
 lst:∀ T,Closed gc pv G T→∀ p∈ps,T (cl p)=true
variable {gc cl pv} (hcl:∀ S g p,pv S g=some p→cl p=gc g)
theorem ji {l:List π} {c:δ}:ba (l.map cl) c=true↔∃ p∈l,cl p=c:=by rw [nO,List.mem_map]
theorem rX {o:List γ} {f:γ→Option π} (h:(o.filterMap f).isEmpty=false):(o.filter fun g=>(f g).isNone).length<o.length:=by
 induction o with
 | nil=>cases h
 | cons g o ih =>
  rw [List.filter_cons]
  cases hf:f g with
  | some p =>
   have:=List.length_filter_le (fun g=>(f g).isNone) o
   simp only [Option.isNone_some,Bool.false_eq_true,if_false,List.length_cons];omega
  | none =>
   rw [List.filterMap_cons_none hf] at h
   have:=ih h
   simp only [Option.isNone_none,if_true,List.length_cons];omega
include hcl in
theorem Ba {G:List γ} (inj:∀ g∈G,∀ g'∈G,gc g=gc g'→g=g'):∀ (n:Nat) (ps:List π),lH cl pv n (G.filter fun g => !ba (ps.map cl) (gc g)) ps=rW gc cl pv G n ps:=by
 intro n
 induction n with
 | zero=>intro ps;rfl
 | succ n ih =>
  intro ps
  rw [lH,rW]
  have e1:(G.filter fun g => !ba (ps.map cl) (gc g)).filterMap (pv (ba (ps.map cl)))=G.filterMap fun g=>cond (ba (ps.map cl) (gc g)) none (pv (ba (ps.map cl)) g):=by
   generalize pv (ba (ps.map cl))=f
   generalize ba (ps.map cl)=m
   clear ih inj
   induction G with
   | nil=>rfl
   | cons g G ihG =>
    rw [List.filter_cons]
    cases hm:m (gc g)
    ·simp only [Bool.not_false,if_true,List.filterMap_cons,ihG,hm,bI]
    simp only [Bool.not_true,Bool.false_eq_true,if_false,List.filterMap_cons,ihG,hm,bY]
  rw [e1]
  have e2:((G.filter fun g => !ba (ps.map cl) (gc g)).filter fun g=>(pv (ba (ps.map cl)) g).isNone)=G.filter fun g => !ba ((ps++G.filterMap fun g=>cond (ba (ps.map cl) (gc g)) none (pv (ba (ps.map cl)) g)).map cl) (gc g):=by
   rw [List.filter_filter]
   refine List.filter_congr fun g hg=>?_
   cases hm:ba (ps.map cl) (gc g)
   ·cases hp:pv (ba (ps.map cl)) g with
    | none =>
     cases hq:ba ((ps++G.filterMap fun g=>cond (ba (ps.map cl) (gc g)) none (pv (ba (ps.map cl)) g)).map cl) (gc g)
     ·rfl
     ·obtain ⟨p,k1,k2⟩:=ji.1 hq
      rcases List.mem_append.1 k1 with k1 | k1
      ·rw [ji.2 ⟨p,k1,k2⟩] at hm;cases hm
      ·obtain ⟨g',hg',he⟩:=List.mem_filterMap.1 k1
       cases hm':ba (ps.map cl) (gc g')
       ·rw [hm'] at he
        have:=inj g' hg' g hg ((hcl _ _ _ he).symm.trans k2)
        subst this
        rw [bI,hp] at he;cases he
       ·rw [hm'] at he;cases he
    | some p =>
     have:ba ((ps++G.filterMap fun g=>cond (ba (ps.map cl) (gc g)) none (pv (ba (ps.map cl)) g)).map cl) (gc g)=true:=ji.2 ⟨p,List.mem_append.2 (.inr (List.mem_filterMap.2 ⟨g,hg,by rw [hm];exact hp⟩)),hcl _ _ _ hp⟩
     rw [this];rfl
   have:ba ((ps++G.filterMap fun g=>cond (ba (ps.map cl) (gc g)) none (pv (ba (ps.map cl)) g)).map cl) (gc g)=true:=by
    obtain ⟨p,k1,k2⟩:=ji.1 hm
    exact ji.2 ⟨p,List.mem_append.2 (.inl k1),k2⟩
   rw [this]
   cases (pv (ba (ps.map cl)) g).isNone <;> rfl
  rw [e2,ih]
end
abbrev Goal:=Za×Zd
abbrev Prf:=Za×List Int×List Za
def db (plan:List Zc) (l:List Zb) (imp:ByteArray):List Goal:=plan.flatMap fun p=>l.filterMap fun a=>cond (lG plan l imp ⟨p.ID,a.ID⟩) ((eZ a p.Code).map fun r=>((⟨p.ID,a.ID⟩:Za),r)) none
def fe (plan:List Zc) (l:List Zb) (imp:ByteArray) (S:CSet) (g:Goal):Option Prf:=(kh (qb plan l imp g.1 S) g.2).map fun path=>(g.1,path,wU plan l imp g.1 S)
def mN (plan:List Zc) (l:List Zb) (imp:ByteArray):List Prf:=lH (fun p:Prf=>p.1) (fe plan l imp) (db plan l imp).length (db plan l imp) []
theorem qw {plan:List Zc} {l:List Zb} {imp:ByteArray} {g:Goal}:g∈db plan l imp↔∃ p∈plan,∃ a∈l,lG plan l imp ⟨p.ID,a.ID⟩=true∧eZ a p.Code=some g.2∧g.1=⟨p.ID,a.ID⟩:=by
 unfold db
 rw [List.mem_flatMap]
 constructor
 ·rintro ⟨p,hp,hg⟩
  obtain ⟨a,ha,he⟩:=List.mem_filterMap.1 hg
  cases hc:lG plan l imp ⟨p.ID,a.ID⟩
  ·rw [hc] at he;cases he
  rw [hc,bY] at he
  cases hr:eZ a p.Code with
  | none=>rw [hr] at he;cases he
  | some r =>
   rw [hr,Option.map_some] at he
   injection he with he
   subst he
   exact ⟨p,hp,a,ha,hc,hr,rfl⟩
 rintro ⟨p,hp,a,ha,hc,hr,hg⟩
 obtain ⟨c,r⟩:=g
 dsimp only at hr hg
 subst hg
 exact ⟨p,hp,List.mem_filterMap.2 ⟨a,ha,by rw [hc,hr];rfl⟩⟩
theorem yi {α:Type} {f:α→Int} {l:List α} (h:l.Pairwise fun a b=>f a<f b) {a b:α} (ha:a∈l) (hb:b∈l) (e:f a=f b):a=b:=by
 induction l with
 | nil=>cases ha
 | cons x l ih =>
  obtain ⟨h1,h2⟩:=List.pairwise_cons.1 h
  rcases List.mem_cons.1 ha with e1 | ha'
  ·rcases List.mem_cons.1 hb with e2 | hb'
   ·rw [e1,e2]
   have:=h1 b hb';rw [← e1] at this;omega
  rcases List.mem_cons.1 hb with e2 | hb'
  ·have:=h1 a ha';rw [← e2] at this;omega
  exact ih h2 ha' hb'
theorem w5 {plan:List Zc} {l:List Zb} {imp:ByteArray} (hv:VPs plan) (hl:AscA l):∀ g∈db plan l imp,∀ g'∈db plan l imp,g.1=g'.1→g=g':=by
 intro g hg g' hg' e
 obtain ⟨p,hp,a,ha,_,hr,h1⟩:=qw.1 hg
 obtain ⟨p',hp',a',ha',_,hr',h1'⟩:=qw.1 hg'
 rw [h1,h1'] at e
 injection e with e1 e2
 have:=yi hv.asc hp hp' e1
 have:=yi hl ha ha' e2
 subst_vars
 rw [hr] at hr'
 injection hr' with hr'
 exact Prod.ext (h1.trans h1'.symm) hr'
theorem vt {a:Zb} (ha:VA a) {code:ByteArray} {r:Zd} (h:eZ a code=some r):ROk r∧dY r=true∧qD r≤32:=by
 rcases oy a code with ⟨_,h2⟩ | ⟨j,hj,_,h2⟩
 ·rw [h2] at h;cases h
 rw [h2] at h
 injection h with h
 have h1:=(mM _).1 (ha.rules _ (List.getElem_mem hj))
 have h3:=ha.ok.rules _ (List.getElem_mem hj)
 rw [← h]
 exact ⟨h3.rule,h1.2,h1.1⟩
theorem w6 {plan:List Zc} {l:List Zb} {imp:ByteArray} (hl:VAs l) {g:Goal} (hg:g∈db plan l imp):ROk g.2∧dY g.2=true∧qD g.2≤32:=by
 obtain ⟨p,hp,a,ha,_,hr,_⟩:=qw.1 hg
 exact vt (hl.all a ha) hr
theorem vu {plan:List Zc} {l:List Zb} {imp:ByteArray} {g:Goal} (hg:g∈db plan l imp):lG plan l imp g.1=true∧(da plan g.1.Product).isSome=true:=by
 obtain ⟨p,hp,a,ha,hc,_,h1⟩:=qw.1 hg
 rw [h1];exact ⟨hc,wY hc⟩
theorem Ft (plan:List Zc) (l:List Zb) (imp:ByteArray):∀ (S:CSet) (g:Goal) (p:Prf),fe plan l imp S g=some p→p.1=g.1:=by
 intro S g p h
 unfold fe at h
 cases hw:kh (qb plan l imp g.1 S) g.2 with
 | none=>rw [hw] at h;cases h
 | some q=>rw [hw,Option.map_some] at h;injection h with h;rw [← h]
inductive Chp:List Zh→List Zh→Prop
 | nil:Chp [] []
 | cons {x y:Zh} {l m:List Zh} (h1:y.Product=x.Product) (h2:0≤y.Value) (h3:y.Value≤x.Value) (h:Chp l m):Chp (x::l) (y::m)
theorem Chp.empty {l m:List Zh} (h:Chp l m):m.isEmpty=l.isEmpty:=by cases h <;> rfl
theorem Chp.refl:∀ {l:List Zh},(∀ x∈l,0≤x.Value)→Chp l l
 | [],_=>.nil
 | x::l,h=>.cons rfl (h x (by simp)) (Int.le_refl _) (Chp.refl fun y hy=>h y (by simp [hy]))
structure PLe (p q:Zc):Prop where
 id:q.ID=p.ID
 code:q.Code=p.Code
 ctr:q.Country=p.Country
 price:q.Price=p.Price
 obt:q.Obtained=p.Obtained
 proc:q.Processes=p.Processes
 inp:Chp p.Inputs q.Inputs
structure WtM (f:Zk→Int):Prop where
 wt:Wt f
 le:∀ c v w a,0≤v→v≤w→f ⟨c,v,a⟩≤f ⟨c,w,a⟩
section
variable {ps ps':List Int} {S T:CSet} (hps:∀ x∈ps,x∈ps') (hST:∀ c,S c=true→T c=true)
variable {plan plan':List Zc} (hpl:∀ id,(da plan id).isSome=true→PLe (bQ plan id) (bQ plan' id))
end
inductive PsLe:List Zc→List Zc→Prop
 | nil:PsLe [] []
 | cons {p q:Zc} {l m:List Zc} (h1:PLe p q) (h:PsLe l m):PsLe (p::l) (q::m)
theorem PsLe.find {l m:List Zc} (h:PsLe l m) (id:Int):(da l id=none∧da m id=none)∨∃ p q,da l id=some p∧da m id=some q∧PLe p q:=by
 induction h with
 | nil=>exact .inl ⟨rfl,rfl⟩
 | @cons p q l m h1 h ih =>
  unfold da at ih ⊢
  rw [List.find?_cons,List.find?_cons,h1.id]
  cases p.ID == id
  ·exact ih
  exact .inr ⟨p,q,rfl,rfl,h1⟩
theorem PsLe.mem {l m:List Zc} (h:PsLe l m) {p:Zc} (hp:p∈l):∃ q∈m,PLe p q:=by
 induction h with
 | nil=>cases hp
 | @cons x q l m h1 h ih =>
  rcases List.mem_cons.1 hp with e | hp'
  ·subst e;exact ⟨q,by simp,h1⟩
  obtain ⟨r,k1,k2⟩:=ih hp'
  exact ⟨r,by simp [k1],k2⟩
theorem PLe.refl {plan:List Zc} {p:Zc} (h:VProd plan p):PLe p p:=⟨rfl,rfl,rfl,rfl,rfl,rfl,Chp.refl fun x hx=>(h.inp x hx).2.1⟩
section
variable {plan:List Zc} (R:Int→Bool) (hR:∀ p∈plan,R p.ID=true→∀ y∈p.Inputs,R y.Product=true)
end
section
variable (x:Zm)
mutual
def fol:Zd→List Int→Option (List Int)
 | ⟨k,d,e,t,m,n,l⟩,p=>cond (k == 5) (Bb l p) (cond (k == 6) (cond (!p.isEmpty&&decide (0≤p.headD 0)) (wc l (p.headD 0).toNat p.tail) none) (cond (kq ⟨k,d,e,t,m,n,l⟩ x) (some p) none))
def Bb:List Zd→List Int→Option (List Int)
 | [],p=>some p
 | a::l,p=>match fol a p with
  | some q=>Bb l q
  | none=>none
def wc:List Zd→Nat→List Int→Option (List Int)
 | [],_,_=>none
 | a::_,0,p=>fol a p
 | _::l,n+1,p=>wc l n p
end
end
mutual
theorem Ce (x:Zm):∀ (r:Zd) (p q:List Int),fol x r p=some q→(kh x r).isSome=true
 | ⟨k,d,e,t,m,n,l⟩,p,q,h=>by
  rw [fol] at h
  rw [kh]
  cases h5:(k == 5)
  ·rw [h5] at h
   simp only [bI] at h ⊢
   cases h6:(k == 6)
   ·rw [h6] at h
    simp only [bI] at h ⊢
    cases hh:kq ⟨k,d,e,t,m,n,l⟩ x
    ·rw [hh] at h;cases h
    rfl
   rw [h6] at h
   simp only [bY] at h ⊢
   cases hi:(!p.isEmpty&&decide (0≤p.headD 0))
   ·rw [hi] at h;cases h
   rw [hi] at h;exact zT x l _ 0 _ q h
  rw [h5] at h
  exact zU x l p q h
theorem zU (x:Zm):∀ (l:List Zd) (p q:List Int),Bb x l p=some q→(jh x l).isSome=true
 | [],p,q,h=>by rw [jh];rfl
 | a::l,p,q,h=>by
  rw [Bb] at h
  rw [jh]
  cases ha:fol x a p with
  | none=>rw [ha] at h;cases h
  | some s =>
   rw [ha] at h
   obtain ⟨w,e1⟩:=Option.isSome_iff_exists.1 (Ce x a p s ha)
   obtain ⟨v,e2⟩:=Option.isSome_iff_exists.1 (zU x l s q h)
   rw [e1,e2];rfl
theorem zT (x:Zm):∀ (l:List Zd) (n i:Nat) (p q:List Int),wc x l n p=some q→(kR x i l).isSome=true
 | [],n,i,p,q,h=>by rw [wc] at h;cases h
 | a::l,0,i,p,q,h=>by
  rw [wc] at h
  rw [kR]
  obtain ⟨w,e1⟩:=Option.isSome_iff_exists.1 (Ce x a p q h)
  rw [e1];rfl
 | a::l,n+1,i,p,q,h=>by
  rw [wc] at h
  rw [kR]
  cases kh x a with
  | none=>exact zT x l n (i+1) p q h
  | some w=>rfl
end
mutual
theorem Cf (x:Zm):∀ (r:Zd) (w t:List Int),kh x r=some w→fol x r (w++t)=some t
 | ⟨k,d,e,u,m,n,l⟩,w,t,h=>by
  rw [kh] at h
  rw [fol]
  cases h5:(k == 5)
  ·rw [h5] at h
   simp only [bI] at h ⊢
   cases h6:(k == 6)
   ·rw [h6] at h
    simp only [bI] at h ⊢
    cases hh:kq ⟨k,d,e,u,m,n,l⟩ x
    ·rw [hh] at h;cases h
    rw [hh] at h;injection h with h;subst h;rfl
   rw [h6] at h
   simp only [bY] at h ⊢
   obtain ⟨j,v,e1,e2⟩:=zV x l 0 w t h
   subst e1
   show cond (true&&decide (0≤((0+j:Nat):Int))) (wc x l ((0+j:Nat):Int).toNat (v++t)) none=_
   rw [det (by omega),Bool.and_self,bY,show ((0+j:Nat):Int).toNat=j by omega]
   exact e2
  rw [h5] at h
  exact zW x l w t h
theorem zW (x:Zm):∀ (l:List Zd) (w t:List Int),jh x l=some w→Bb x l (w++t)=some t
 | [],w,t,h=>by rw [jh] at h;injection h with h;subst h;rw [Bb];rfl
 | a::l,w,t,h=>by
  rw [jh] at h
  rw [Bb]
  cases ha:kh x a with
  | none=>rw [ha] at h;cases h
  | some p =>
   cases hl:jh x l with
   | none=>rw [ha,hl] at h;cases h
   | some q =>
    rw [ha,hl,bg,bg] at h
    injection h with h
    subst h
    rw [List.append_assoc,Cf x a p (q++t) ha]
    exact zW x l q t hl
theorem zV (x:Zm):∀ (l:List Zd) (i:Nat) (w t:List Int),kR x i l=some w→∃ (j:Nat) (v:List Int),w=((i+j:Nat):Int)::v∧wc x l j (v++t)=some t
 | [],i,w,t,h=>by rw [kR] at h;cases h
 | a::l,i,w,t,h=>by
  rw [kR] at h
  cases ha:kh x a with
  | none =>
   rw [ha] at h
   obtain ⟨j,v,e1,e2⟩:=zV x l (i+1) w t h
   exact ⟨j+1,v,by rw [e1];congr 2;omega,by rw [wc];exact e2⟩
  | some p =>
   rw [ha] at h
   injection h with h
   exact ⟨0,p,h.symm,by rw [wc];exact Cf x a p t ha⟩
end

section
variable {γ π:Type}
end
def kn (plan:List Zc) (l:List Zb) (imp:ByteArray) (S:CSet) (p:Zc) (a:Zb):Option Prf :=
 cond (S ⟨p.ID,a.ID⟩ || !lG plan l imp ⟨p.ID,a.ID⟩) none (fe plan l imp S (⟨p.ID,a.ID⟩,(eZ a p.Code).getD zH))
theorem Bc {plan:List Zc} (h:VPs plan) {p:Zc} (hp:p∈plan):da plan p.ID=some p:=by
 cases hf:da plan p.ID with
 | none =>
  unfold da at hf
  rw [List.find?_eq_none] at hf
  exact absurd (by simp) (hf p hp)
 | some q =>
  have h1:=wT hf
  rw [yi h.asc h1.1 hp h1.2]
theorem zX {plan:List Zc} {l:List Zb} {imp:ByteArray} (hv:VPs plan) (ha:AscA l) {p:Zc} (hp:p∈plan) {a:Zb} (hal:a∈l) (h:lG plan l imp ⟨p.ID,a.ID⟩=true):∃ r,eZ a p.Code=some r:=by
 obtain ⟨q,b,r,e1,e2,e3,_⟩:=qv h
 dsimp only at e1 e2
 rw [Bc hv hp] at e1
 rw [C0 ha hal] at e2
 injection e1 with e1
 injection e2 with e2
 exact ⟨r,by rw [e1,e2];exact e3⟩
theorem vw {plan:List Zc} {l:List Zb} (hv:VPs plan) (ha:AscA l) (imp:ByteArray) (S:CSet):(db plan l imp).filterMap (fun g=>cond (S g.1) none (fe plan l imp S g))=plan.flatMap fun p=>l.filterMap fun a=>kn plan l imp S p a:=by
 have inner:∀ p∈plan,∀ m:List Zb,(∀ a∈m,a∈l)→(m.filterMap fun a=>cond (lG plan l imp ⟨p.ID,a.ID⟩) ((eZ a p.Code).map fun r=>((⟨p.ID,a.ID⟩:Za),r)) none).filterMap (fun g=>cond (S g.1) none (fe plan l imp S g))=m.filterMap fun a=>kn plan l imp S p a:=by
  intro p hp m
  induction m with
  | nil=>intro _;rfl
  | cons a m ih =>
   intro hm
   have ih:=ih fun b hb=>hm b (by simp [hb])
   cases hc:lG plan l imp ⟨p.ID,a.ID⟩
   ·rw [List.filterMap_cons_none (by rw [hc];rfl),ih,List.filterMap_cons_none (by unfold kn;rw [hc];cases S ⟨p.ID,a.ID⟩ <;> rfl)]
   obtain ⟨r,hr⟩:=zX hv ha hp (hm a (by simp)) hc
   rw [List.filterMap_cons_some (b:=((⟨p.ID,a.ID⟩:Za),r)) (by rw [hc,hr];rfl)]
   have e:kn plan l imp S p a=cond (S ⟨p.ID,a.ID⟩) none (fe plan l imp S (⟨p.ID,a.ID⟩,r)):=by
    unfold kn;rw [hc,hr];cases S ⟨p.ID,a.ID⟩ <;> rfl
   cases hs:cond (S ⟨p.ID,a.ID⟩) none (fe plan l imp S (⟨p.ID,a.ID⟩,r)) with
   | none=>rw [List.filterMap_cons_none (f:=fun g:Goal=>cond (S g.1) none (fe plan l imp S g)) hs,List.filterMap_cons_none (e.trans hs),ih]
   | some q=>rw [List.filterMap_cons_some (f:=fun g:Goal=>cond (S g.1) none (fe plan l imp S g)) hs,List.filterMap_cons_some (e.trans hs),ih]
 unfold db
 have outer:∀ q:List Zc,(∀ p∈q,p∈plan)→(q.flatMap fun p=>l.filterMap fun a=>cond (lG plan l imp ⟨p.ID,a.ID⟩) ((eZ a p.Code).map fun r=>((⟨p.ID,a.ID⟩:Za),r)) none).filterMap (fun g=>cond (S g.1) none (fe plan l imp S g))=q.flatMap fun p=>l.filterMap fun a=>kn plan l imp S p a:=by
  intro q
  induction q with
  | nil=>intro _;rfl
  | cons p q ih =>
   intro hq
   rw [List.flatMap_cons,List.flatMap_cons,List.filterMap_append,inner p (hq p (by simp)) l (fun _ h=>h),ih fun x hx=>hq x (by simp [hx])]
 exact outer plan fun _ h=>h
def jH (plan:List Zc) (l:List Zb) (imp:ByteArray):Nat→List Prf→List Za→List Prf
  | 0,ps,_=>ps
  | n+1,ps,set=>cond (plan.flatMap fun p=>l.filterMap fun a=>kn plan l imp (ba set) p a).isEmpty ps
      (jH plan l imp n (ps++plan.flatMap fun p=>l.filterMap fun a=>kn plan l imp (ba set) p a) ((plan.flatMap fun p=>l.filterMap fun a=>kn plan l imp (ba set) p a).foldl (fun t p=>ia bw t p.1) set))
theorem ro:∀ (ps:List Prf) (set:List Za) (c:Za),ba (ps.foldl (fun t p=>ia bw t p.1) set) c=(ba set c||ba (ps.map fun p:Prf=>p.1) c)
 | [],set,c=>by simp [ba]
 | p::ps,set,c=>by
  rw [List.foldl_cons,ro ps]
  have:ba (ia bw set p.1) c=(ba set c||decide (p.1=c)):=by
   cases h:ba (ia bw set p.1) c
   ·rw [p7,vk] at h
    rw [p7.2 (fun hm=>h (.inr hm)),bK (fun e=>h (.inl e.symm))];rfl
   rw [nO,vk] at h
   rcases h with h | h
   ·rw [det h.symm,Bool.or_true]
   rw [nO.2 h,Bool.true_or]
  rw [this,List.map_cons]
  show _=(ba set c||(decide (p.1=c)||ba (ps.map fun p:Prf=>p.1) c))
  rw [Bool.or_assoc]
theorem rY {plan:List Zc} {l:List Zb} (hv:VPs plan) (ha:AscA l) (imp:ByteArray):∀ (n:Nat) (ps:List Prf) (set:List Za),(∀ c,ba set c=ba (ps.map fun p:Prf=>p.1) c)→jH plan l imp n ps set=rW (fun g:Goal=>g.1) (fun p:Prf=>p.1) (fe plan l imp) (db plan l imp) n ps
 | 0,ps,set,_=>rfl
 | n+1,ps,set,h=>by
  have hS:ba set=ba (ps.map fun p:Prf=>p.1):=funext h
  rw [jH,rW,hS,← vw hv ha]
  cases ((db plan l imp).filterMap fun g=>cond (ba (ps.map fun p:Prf=>p.1) g.1) none (fe plan l imp (ba (ps.map fun p:Prf=>p.1)) g)).isEmpty
  ·simp only [bI]
   refine rY hv ha imp n _ _ fun c=>?_
   rw [ro,h,List.map_append]
   unfold ba;rw [List.any_append]
  rfl
theorem tJ {plan:List Zc} {l:List Zb} (hv:VPs plan) (ha:AscA l) (imp:ByteArray):jH plan l imp (db plan l imp).length [] []=mN plan l imp:=by
 rw [rY hv ha imp _ [] [] (fun _=>rfl),← Ba (Ft plan l imp) (w5 hv ha)]
 unfold mN
 congr 1
 exact List.filter_eq_self.2 fun _ _=>rfl
section
variable (ps:List Prf)
def vx (d:Za):Option Nat:=ps.findIdx? fun p=>decide (p.1=d)
inductive Reach (c:Za):Za→Prop
 | base:Reach c c
 | step {d e:Za} {i:Nat} {p:Prf} (h:Reach c d) (h1:vx ps d=some i) (h2:ps[i]?=some p) (h3:e∈p.2.2):Reach c e
variable {ps} {c:Za}
def TCov (ps:List Prf) (nd:List Bool) (todo:List Za) (e:Za):Prop:=e∈todo∨∃ j,vx ps e=some j∧nd[j]?=some true
structure Zx (ps:List Prf) (c:Za) (nd:List Bool) (todo:List Za):Prop where
 len:nd.length=ps.length
 tr:∀ d∈todo,Reach ps c d
 nr:∀ i:Nat,nd[i]?=some true→∃ d,Reach ps c d∧vx ps d=some i
 cl:∀ (i:Nat) p,nd[i]?=some true→ps[i]?=some p→∀ e∈p.2.2,TCov ps nd todo e
 st:TCov ps nd todo c
structure NInv (ps:List Prf) (c:Za) (need:List Za) (k:Nat):Prop where
 rr:∀ d∈need,Reach ps c d
 st:c∈need
 nd:need.Nodup
 cl:∀ (j:Nat),j<k→∀ d,need[j]?=some d→∃ i p,vx ps d=some i∧ps[i]?=some p∧∀ e∈p.2.2,e∈need
end
def rw' (n:Int):Zl:=⟨n / 18446744073709551616,n % 18446744073709551616⟩
theorem rw_of {w:Zl} (h:RW w):w=rw' (rv w)∧U128 (rv w):=by
 obtain ⟨a,b⟩:=w
 unfold RW U64 at h;unfold rw' rv U128;dsimp only at *
 refine ⟨?_,by omega⟩
 congr 1 <;> omega
theorem rmul {a b:Int} (ha:U64 a) (hb:U64 b):jA a b=some (rw' (a*b))∧U128 (a*b):=by
 obtain ⟨w,e1,e2,e3⟩:=B7 ha hb
 have:=rw_of e2
 rw [e3] at this
 rw [e1];exact ⟨congrArg some this.1,this.2⟩
theorem rless {a b:Int} (ha:U128 a) (hb:U128 b):kL (rw' a) (rw' b)=some (decide (a<b)):=by
 unfold U128 at *
 unfold kL rw'
 dsimp only
 congr 1
 by_cases h:a<b
 ·rw [det h];simp only [Bool.or_eq_true,Bool.and_eq_true,decide_eq_true_eq,beq_iff_eq];omega
 rw [bK h];simp only [Bool.or_eq_false_iff,Bool.and_eq_false_iff,decide_eq_false_iff_not,beq_eq_false_iff_ne];omega
theorem vy {v s p:Int} (hv:0≤v∧v≤100000000000000) (hs:0≤s∧s≤1000000) (hp:0≤p∧p≤1000000000000):iK v s p=some (decide (v*1000000≤s*p)):=by
 unfold iK
 rw [fj (a:=v) ⟨by omega,by omega⟩,fj (a:=s) ⟨by omega,by omega⟩,fj (a:=p) ⟨by omega,by omega⟩]
 obtain ⟨e1,u1⟩:=rmul (a:=v) (b:=1000000) ⟨by omega,by omega⟩ ⟨by omega,by omega⟩
 obtain ⟨e2,u2⟩:=rmul (a:=s) (b:=p) ⟨by omega,by omega⟩ ⟨by omega,by omega⟩
 rw [e1,bg,e2,bg]
 unfold mU
 rw [rless u1 u2,rless u2 u1]
 simp only [bg]
 by_cases h:v*1000000<s*p
 ·rw [det h]
  simp only [bY,bg]
  rw [det (by omega),det (by omega)]
 rw [bK h]
 by_cases h2:s*p<v*1000000
 ·rw [det h2]
  simp only [bI,bY,bg]
  rw [bK (by omega),bK (by omega)]
 rw [bK h2]
 simp only [bI,bg]
 rw [det (by omega),det (by omega)]
theorem yj {r:Zd} {x:Zm} {i:Zk} (hd:r.Digits=2∨r.Digits=4∨r.Digits=6) (he:r.Except.length≤6) (hc:6≤dL x.Code) (hi:6≤dL i.Code):gF r x i=some (qd r x.Code i.Code):=by
 unfold gF qd
 have hs:=rn hc
 have hs2:=rn hi
 have e:jR x.Code 0 r.Digits=some (x.Code.extract 0 r.Digits.toNat):=by unfold jR;rw [if_pos (by omega)];rfl
 have e2:jR i.Code 0 r.Digits=some (i.Code.extract 0 r.Digits.toNat):=by unfold jR;rw [if_pos (by omega)];rfl
 have hsz:(x.Code.extract 0 r.Digits.toNat).size=r.Digits.toNat:=by rw [ByteArray.size_extract];omega
 have ep:hY i.Code (x.Code.extract 0 r.Digits.toNat)=decide (i.Code.extract 0 r.Digits.toNat=x.Code.extract 0 r.Digits.toNat):=by
  unfold hY;rw [hsz,det (by omega),Bool.true_and]
 rw [e2,bg,e,bg,ep]
 cases decide (i.Code.extract 0 r.Digits.toNat=x.Code.extract 0 r.Digits.toNat)
 ·simp only [bI,Bool.false_or]
  refine (bJ (l:=r.Except) (by omega) (fun _ x=>cond (hY i.Code x) (some (.inr true)) none) (.inl ()) (fun k hk=>?_) (by simp only [cR,bI])).trans ?_
  ·simp only [ik hk,bY,aV hk,bg,bR hk (show r.Except.length≤4611686018427387904 by omega),zG]
   cases hY i.Code r.Except[k] <;> rfl
  rw [qn (fun x=>hY i.Code x) (Sum.inr true:Unit⊕Bool)]
  cases r.Except.any fun x=>hY i.Code x <;> rfl
 rfl
mutual
theorem zY (x:Zm):∀ l:List Zd,(jh x l).isSome=l.all fun a=>(kh x a).isSome
 | []=>by rw [jh];rfl
 | a::l=>by
  have h:=zY x l
  rw [jh,List.all_cons,← h]
  cases kh x a with
  | none=>rfl
  | some p=>cases jh x l <;> rfl
theorem zZ (x:Zm):∀ (l:List Zd) (i:Nat),(kR x i l).isSome=l.any fun a=>(kh x a).isSome
 | [],i=>by rw [kR];rfl
 | a::l,i=>by
  have h:=zZ x l (i+1)
  rw [kR,List.any_cons,← h]
  cases kh x a <;> rfl
end
def yk {α:Type} (p:α→Bool):List α→Nat
 | []=>0
 | a::l=>cond (p a) 1 0+yk p l
theorem Cg {α:Type} (p:α→Bool):∀ l:List α,yk p l≤l.length
 | []=>Nat.le_refl _
 | a::l=>by have:=Cg p l;rw [yk,List.length_cons];cases p a <;> simp <;> omega
theorem z1 {α:Type} (p:α→Bool):∀ l:List α,(yk p l == l.length)=l.all p
 | []=>rfl
 | a::l=>by
  have h:=z1 p l
  have hle:=Cg p l
  rw [yk,List.length_cons,List.all_cons,← h]
  cases p a
  ·rw [bI,Bool.false_and,beq_eq_false_iff_ne];omega
  rw [bY,Bool.true_and,Bool.eq_iff_iff,beq_iff_eq,beq_iff_eq];omega
theorem z2 {α:Type} (p:α→Bool):∀ l:List α,decide (0<yk p l)=l.any p
 | []=>rfl
 | a::l=>by
  have h:=z2 p l
  rw [yk,List.any_cons,← h]
  cases p a
  ·rw [bI,Bool.false_or];exact decide_eq_decide.2 (by omega)
  rw [bY,Bool.true_or];exact det (by omega)
theorem z6 (x:Zm) (hx:VCase x) (n:Nat):∀ r:Zd,dY r=true→tS r≤n→kX n r x=some (kh x r).isSome:=by
 induction n with
 | zero=>intro r _ hd;rw [lE] at hd;omega
 | succ n ih =>
  intro r hr hd
  obtain ⟨hl,ha,he⟩:=mt hr
  have hfew:=hx.few
  show i9 (kX n) r x=_
  unfold i9
  have hvi:r.Kind=2→∀ i∈x.Inputs,gF r x i=some (qd r x.Code i.Code):=by
   intro hk i hi
   have h:=hr
   rw [gG,hk] at h
   simp only [jG,hk,Bool.and_eq_true] at h
   have h3:=h.2
   simp at h3
   exact yj (by omega) he hx.lvl (hx.inp i hi).1
  refine (cb (l:=x.Inputs) (by omega) (fun i (s:Int×Int)=>(s.1,s.2,i)) (fun s i=>(s.1+cond i.Originating 0 (cond (r.Kind == 3) (fV i) (cond (r.Kind == 2) (fW r x.Code i) 0)),s.2+cond i.Originating 0 (fN i))) (fun s=>s) (fun k s=>(0≤s.1∧s.1≤k*1000000000000)∧(0≤s.2∧s.2≤k)) (0,0) ⟨by simp,by simp⟩ (fun k hk s hs=>?_) (fun s _=>by simp only [cR,bI])).1.trans ?_
  ·obtain ⟨a,b⟩:=s
   obtain ⟨s1,s2⟩:=hs
   dsimp only at s1 s2 ⊢
   have hmem:=List.getElem_mem hk
   have hi:=hx.inp _ hmem
   have hk100:k<100:=by omega
   simp only [ik hk,bY,aV hk,bg,bR hk (show x.Inputs.length≤4611686018427387904 by omega)]
   generalize x.Inputs[k]=i at hi hmem
   unfold fV fN fW
   cases i.Originating
   ·simp only [bI]
    cases hk3:(r.Kind == 3)
    ·cases hk2:(r.Kind == 2)
     ·simp only [Bool.not_false,Bool.and_false,jx,bg,Bool.false_and,Bool.or_self,bI,Int.add_zero]
      rw [cH (r:=b+1) (by omega) (by omega)]
      exact ⟨rfl,⟨by omega,by omega⟩,by omega,by omega⟩
     simp only [Bool.not_false,Bool.and_self,cx,Bool.false_or,Bool.true_and]
     rw [hvi (eq_of_beq hk2) i hmem,bg]
     cases qd r x.Code i.Code
     ·simp only [bI,bY,bg,Int.add_zero]
      rw [cH (r:=b+1) (by omega) (by omega)]
      exact ⟨rfl,⟨by omega,by omega⟩,by omega,by omega⟩
     simp only [bY,bI,bg]
     rw [cH (r:=b+1) (by omega) (by omega),cH (r:=a+i.Value) (by omega) (by omega)]
     exact ⟨rfl,⟨by omega,by omega⟩,by omega,by omega⟩
    simp only [Bool.not_true,Bool.false_and,jx,bg,Bool.true_or,bY]
    rw [cH (r:=b+1) (by omega) (by omega),cH (r:=a+i.Value) (by omega) (by omega)]
    exact ⟨rfl,⟨by omega,by omega⟩,by omega,by omega⟩
   simp only [bY,bg,Int.add_zero]
   exact ⟨trivial,⟨by omega,by omega⟩,by omega,by omega⟩
  have key:∀ (l:List Zk) (a b:Int),l.foldl (fun (s:Int×Int) i=>(s.1+cond i.Originating 0 (cond (r.Kind == 3) (fV i) (cond (r.Kind == 2) (fW r x.Code i) 0)),s.2+cond i.Originating 0 (fN i))) (a,b)=(a+wS (fun i=>cond (r.Kind == 3) (fV i) (cond (r.Kind == 2) (fW r x.Code i) 0)) l,b+wS fN l):=by
   intro l
   induction l with
   | nil=>intro a b;simp [wS]
   | cons i l ih=>intro a b;rw [List.foldl_cons,ih];simp only [wS,Int.add_assoc]
  rw [key]
  dsimp only
  simp only [Int.zero_add]
  refine (cb (l:=r.Args) (by omega) (fun i (s:Nat)=>((s:Int),i)) (fun s a=>s+cond (kh x a).isSome 1 0) (fun s=>(s:Int)) (fun k s=>s≤k) 0 (Nat.le_refl _) (fun k hk s hs=>?_) (fun s _=>by simp only [cR,bI])).1.trans ?_
  ·simp only [ik hk,bY,aV hk,bg,bR hk (show r.Args.length≤4611686018427387904 by omega)]
   rw [ih _ (ha _ (List.getElem_mem hk)) (by have:=ka (List.getElem_mem hk);omega),bg]
   cases (kh x r.Args[k]).isSome
   ·exact ⟨rfl,by simp;omega⟩
   simp only [bY,bg]
   rw [cH (by omega) (by omega)]
   exact ⟨rfl,by omega⟩
  have key2:∀ (l:List Zd) (s:Nat),l.foldl (fun s a=>s+cond (kh x a).isSome 1 0) s=s+yk (fun a=>(kh x a).isSome) l:=by
   intro l
   induction l with
   | nil=>intro s;rfl
   | cons a l ih=>intro s;rw [List.foldl_cons,ih,yk];omega
  rw [key2,Nat.zero_add,A9]
  have hv:0≤wS fV x.Inputs∧wS fV x.Inputs≤100000000000000:=by
   have:=qe (f:=fV) (b:=1000000000000) (by omega) (l:=x.Inputs) fun i hi=>(hx.inp i hi).2
   omega
  have hw:0≤wS (fW r x.Code) x.Inputs∧wS (fW r x.Code) x.Inputs≤100000000000000:=by
   have:=qe (f:=fW r x.Code) (b:=1000000000000) (by omega) (l:=x.Inputs) fun i hi=>by
    have:=(hx.inp i hi).2
    unfold fW;cases qd r x.Code i.Code
    ·simp only [bI];omega
    exact this
   omega
  have hp:=hx.price
  have hb:=hr
  rw [gG] at hb
  unfold jG EN at hb
  unfold kq
  have fin:∀ b:Bool,(some b:Option Bool)=some ((cond b (some ([]:List Int)) none).isSome):=fun b=>by cases b <;> rfl
  cases h1:(r.Kind == 1)
  ·cases h2:(r.Kind == 2)
   ·cases h3:(r.Kind == 3)
    ·cases h4:(r.Kind == 4)
     ·cases h5:(r.Kind == 5)
      ·cases h6:(r.Kind == 6)
       ·rw [h1,h2,h3,h4,h5,h6] at hb;simp at hb
       simp only [bI,bY]
       rw [zZ,← z2]
       congr 1
       exact decide_eq_decide.2 (by omega)
      simp only [bI,bY]
      rw [zY,← z1]
      congr 1
      rw [Bool.eq_iff_iff,beq_iff_eq,beq_iff_eq];omega
     have hk:=eq_of_beq h4
     rw [hk]
     simp only [bI,bY]
     rw [qr _ _ hx.proc.2.1,bg]
     exact fin _
    have hk:=eq_of_beq h3
    rw [hk] at hb
    simp at hb
    rw [hk]
    simp only [bI,bY]
    rw [vy hv hb.2 (by omega),bg]
    exact fin _
   have hk:=eq_of_beq h2
   rw [hk] at hb
   simp at hb
   rw [hk]
   simp only [bI,bY]
   have e3:((2:Int) == 3)=false:=rfl
   rw [show (fun i=>cond ((2:Int) == 3) (fV i) (fW r x.Code i))=fW r x.Code from rfl,vy hw (by omega) (by omega),bg]
   exact fin _
  have hk:=eq_of_beq h1
  rw [hk]
  simp only [bY]
  exact fin _
theorem Da {r:Zd} {x:Zm} (hx:VCase x) (hr:dY r=true) (hd:tS r≤1000):pr r x=some (kh x r).isSome:=z6 x hx FUEL r hr (by have hf:FUEL=1267650600228229401496703205376:=rfl;omega)
def rwF (x:Zm) (six:Bool) (k:Nat) (a:Zd) (l:List Int):List Int⊕List Int:=match kh x a with
 | none=>.inl l
 | some p=>cond six (.inr ((k:Int)::p)) (.inl (l++p))
theorem Ch (x:Zm):∀ (m:List Zd) (i:Nat) (l:List Int),run (rwF x true) m i l=match kR x i m with | some p=>.inr p | none=>.inl l
 | [],i,l=>by rw [kR];rfl
 | a::m,i,l=>by
  rw [iX,kR]
  unfold rwF
  cases kh x a with
  | none=>exact Ch x m (i+1) l
  | some p=>rfl
theorem Ci (x:Zm):∀ (m:List Zd) (i:Nat) (l w:List Int),jh x m=some w→run (rwF x false) m i l=.inl (l++w)
 | [],i,l,w,h=>by rw [jh] at h;injection h with h;subst h;rw [List.append_nil];rfl
 | a::m,i,l,w,h=>by
  rw [jh] at h
  rw [iX]
  unfold rwF
  cases ha:kh x a with
  | none=>rw [ha] at h;cases h
  | some p =>
   cases hm:jh x m with
   | none=>rw [ha,hm] at h;cases h
   | some q =>
    rw [ha,hm,bg,bg] at h
    injection h with h
    subst h
    rw [← List.append_assoc]
    exact Ci x m (i+1) (l++p) q hm
theorem wd (x:Zm) (hx:VCase x) (n:Nat):∀ r:Zd,dY r=true→qD r≤1000→tS r≤n→hI n r x=some (hZ [] (kh x r)):=by
 induction n with
 | zero=>intro r _ _ hd;rw [lE] at hd;omega
 | succ n ih =>
  intro r hr hc hd
  obtain ⟨hl,ha,_⟩:=mt hr
  have hdc:=rM r
  show hC (hI n) r x=_
  unfold hC
  rw [Da hx hr (by omega),bg]
  cases hw:kh x r with
  | none=>rfl
  | some w =>
   simp only [Option.isSome_some,Bool.not_true,bI]
   have hargs:∀ k (hk:k<r.Args.length),hI n r.Args[k] x=some (hZ [] (kh x r.Args[k])):=fun k hk=>ih _ (ha _ (List.getElem_mem hk)) (by have:=pM r;have:=rU (List.getElem_mem hk);omega) (by have:=ka (List.getElem_mem hk);omega)
   have hcl:∀ k (hk:k<r.Args.length) p,kh x r.Args[k]=some p→p.length≤1000:=fun k hk p h=>by have h1:=rV x _ p h;have:=pM r;have:=rU (List.getElem_mem hk);omega
   refine (jU (l:=r.Args) (by omega) (fun i (s:List Int)=>(s,i)) (rwF x (r.Kind == 6)) (fun s=>.inl s) (fun p=>.inr (p,true)) (fun k s=>s.length≤k*1000) [] (by simp) (fun k hk s hs=>⟨?_,fun s' h'=>?_⟩) (fun s _=>by simp only [cR,bI])).trans ?_
   ·simp only [ik hk,bY,aV hk,bg,bR hk (show r.Args.length≤4611686018427387904 by omega)]
    rw [hargs k hk]
    have:=hcl k hk
    unfold rwF
    cases hwk:kh x r.Args[k] with
    | none=>rfl
    | some p =>
     have:=this p hwk
     show Option.bind (cond (r.Kind == 6) _ _) _=_
     cases (r.Kind == 6)
     ·simp only [bI]
      rw [show (hZ ([]:List Int) (some p)).1=p from rfl]
      rw [cS (show (s.length+p.length)*8≤140737488355328 by omega) (by omega)];rfl
     simp only [bY]
     rw [show (hZ ([]:List Int) (some p)).1=p from rfl]
     rw [cS (show (([(k:Int)]).length+p.length)*8≤140737488355328 by simp;omega) (by simp;omega)];rfl
   ·have:=hcl k hk
    unfold rwF at h'
    cases hwk:kh x r.Args[k] with
    | none=>rw [hwk] at h';injection h' with h';subst h';omega
    | some p =>
     have:=this p hwk
     rw [hwk] at h'
     cases h6:(r.Kind == 6)
     ·rw [h6] at h';injection h' with h';subst h';rw [List.length_append];omega
     rw [h6] at h';cases h'
   rw [A9] at hw
   cases h5:(r.Kind == 5)
   ·rw [h5] at hw
    simp only [bI] at hw
    cases h6:(r.Kind == 6)
    ·rw [h6] at hw
     simp only [bI] at hw
     have hnil:r.Args=[]:=by
      have hp:=hr
      rw [gG,Bool.and_eq_true] at hp
      have h1:=hp.1
      unfold kb at h1
      simp only [Bool.and_eq_true,h5,h6,Bool.false_or] at h1
      exact List.isEmpty_iff.1 h1.2
     rw [hnil]
     cases hh:kq r x
     ·rw [hh] at hw;cases hw
     rw [hh] at hw;injection hw with hw;subst hw;rfl
    rw [h6] at hw
    rw [Ch,show kR x 0 r.Args=some w from hw];rfl
   rw [h5] at hw
   have h6:(r.Kind == 6)=false:=by rw [eq_of_beq h5];rfl
   rw [h6,Ci x r.Args 0 [] w hw];rfl
theorem z7 {r:Zd} {x:Zm} (hx:VCase x) (hr:dY r=true) (hc:qD r≤32):ja r x=some (hZ [] (kh x r)):=wd x hx FUEL r hr (by omega) (by have:=rM r;have hf:FUEL=1267650600228229401496703205376:=rfl;omega)
def vz (g:Goal):Zn:=⟨g.1,g.2⟩
def oO (p:Prf):Zf:=⟨p.1,p.2.1,p.2.2⟩
def nt (plan:List Zc) (l:List Zb) (imp:ByteArray) (p:Zc) (a:Zb):Option Goal:=cond (lG plan l imp ⟨p.ID,a.ID⟩) ((eZ a p.Code).map fun r=>((⟨p.ID,a.ID⟩:Za),r)) none
theorem z8 {α β:Type} (h:α→Option β):∀ (l:List α) (s:List β),l.foldl (fun s a=>s++(h a).toList) s=s++l.filterMap h
 | [],s=>by simp
 | a::l,s=>by
  rw [List.foldl_cons,z8 h l]
  cases ha:h a with
  | none=>rw [List.filterMap_cons_none ha];simp
  | some b=>rw [List.filterMap_cons_some ha];simp
theorem sJ (plan:List Zc) (l:List Zb) (imp:ByteArray):(db plan l imp).length≤plan.length*l.length:=by
 have key:∀ q:List Zc,(q.flatMap fun p=>l.filterMap (nt plan l imp p)).length≤q.length*l.length:=by
  intro q
  induction q with
  | nil=>simp
  | cons p q ih =>
   rw [List.flatMap_cons,List.length_append,List.length_cons,Nat.add_mul,Nat.one_mul]
   have:=List.length_filterMap_le (nt plan l imp p) l;omega
 exact key plan
theorem Bd {plan:List Zc} {l:List Zb} (hv:VPs plan) (hl:VAs l) (imp:ByteArray):oq plan l imp=some ((db plan l imp).map vz):=by
 unfold oq
 have hlen:=hv.len
 have hll:=hl.len
 have inner:∀ (p:Zc) (s:List Zn),s.length≤64000→Option.bind (aW (S:=(List Zn)×Int) (T:=((List Zn))) (fun (l17,v20)=>cond (decide (v20<(l.length:Int))) (Option.bind (Option.bind (idx l v20) (fun m33=>Option.bind (dr m33 p.Code) (fun x36=>Option.bind (gd x36.2 (ca plan l imp (⟨p.ID,m33.ID⟩:Za))) (fun x38=>cond (x36.2&&x38) (Option.bind (app 112 l17 [(⟨(⟨p.ID,m33.ID⟩:Za),x36.1⟩:Zn)]) (fun l42=>some l42)) (some l17))))) (fun l31=>some (.inl (l31,(IntKind.i64.wrap (v20+1)))))) (some (.inr l17))) FUEL (s,0)) (fun t=>(some t:Option (List Zn)))=some (s++(l.filterMap (nt plan l imp p)).map vz):=by
  intro p s hs
  refine (cb (l:=l) (by omega) (fun i (s:List Zn)=>(s,i)) (fun s a=>s++((nt plan l imp p a).map vz).toList) (fun s=>s) (fun k t=>t.length≤s.length+k) s (Nat.le_refl _) (fun k hk t ht=>?_) (fun t _=>by simp only [cR,bI])).1.trans ?_
  ·simp only [ik hk,bY,aV hk,bg,bR hk (show l.length≤4611686018427387904 by omega)]
   have hva:=hl.all _ (List.getElem_mem hk)
   rw [td _ _ hva,bg,zL _ _ _ _ hv.sorted hl]
   unfold nt
   cases hr:eZ l[k] p.Code with
   | none =>
    have e:(cond (lG plan l imp ⟨p.ID,l[k].ID⟩) ((none:Option Zd).map fun r=>((⟨p.ID,l[k].ID⟩:Za),r)) none)=none:=by cases lG plan l imp ⟨p.ID,l[k].ID⟩ <;> rfl
    rw [e]
    exact ⟨by simp [hZ,gd],by simp;omega⟩
   | some r =>
    show Option.bind (Option.bind (gd true (some (lG plan l imp ⟨p.ID,l[k].ID⟩))) _) _=_∧_
    rw [cx,bg]
    cases lG plan l imp ⟨p.ID,l[k].ID⟩
    ·exact ⟨by simp [hZ],by simp;omega⟩
    show Option.bind (Option.bind (app 112 t [_]) _) _=_∧_
    rw [cS (by simp;omega) (by simp;omega)]
    exact ⟨rfl,by simp;omega⟩
  rw [z8 (fun a=>(nt plan l imp p a).map vz)]
  congr 2
  rw [List.map_filterMap]
 refine (cb (l:=plan) (by omega) (fun i (s:List Zn)=>(s,i)) (fun s p=>s++(l.filterMap (nt plan l imp p)).map vz) (fun s=>s) (fun k t=>t.length≤1000*k) [] (by simp) (fun k hk t ht=>?_) (fun t _=>by simp only [cR,bI])).1.trans ?_
 ·simp only [ik hk,bY,aV hk,bg,bR hk (show plan.length≤4611686018427387904 by omega)]
  have hin:=inner plan[k] t (by omega)
  have e:∀ {α β:Type} (x:Option α) (z:α) (K:α→Option β),Option.bind x (fun t=>some t)=some z→Option.bind x K=K z:=by
   intro α β x z K h
   cases x with
   | none=>cases h
   | some y=>injection h with h;rw [h];rfl
  refine ⟨e _ _ _ hin,?_⟩
  have:=List.length_filterMap_le (nt plan l imp plan[k]) l
  simp;omega
 have key:∀ (q:List Zc) (s:List Zn),q.foldl (fun s p=>s++(l.filterMap (nt plan l imp p)).map vz) s=s++(q.flatMap fun p=>l.filterMap (nt plan l imp p)).map vz:=by
  intro q
  induction q with
  | nil=>intro s;simp
  | cons p q ih=>intro s;rw [List.foldl_cons,ih,List.flatMap_cons,List.map_append,List.append_assoc]
 rw [key,List.nil_append];rfl
theorem Db:ls=eY:=rfl
theorem Be {plan:List Zc} {l:List Zb} (hv:VPs plan) (hl:VAs l) {imp:ByteArray} {g:Goal} (hg:g∈db plan l imp) (known:List Za) (hk:known.length≤100000) (ps:List Zf) (hps:ps.length≤100000) :
    iC (vz g) plan l imp known ps=some ((fe plan l imp (ba known) g).isSome,known,ps++((fe plan l imp (ba known) g).map oO).toList):=by
  unfold iC
  have hf:=vu hg
  have hr:=w6 hl hg
  rw [Db,C8 hv hl imp _ known (by omega),bg]
  unfold wV vz
  dsimp only
  rw [hf.1]
  simp only [bY]
  rw [yh (vq hv imp g.1 _ hf.2) hr.1 hr.2.1 hr.2.2,bg]
  unfold fe
  cases hw:kh (qb plan l imp g.1 (ba known)) g.2 with
  | none=>simp [hZ]
  | some w =>
    show Option.bind (cond true (Option.bind (app 64 ps [_]) _) _) _=_
    rw [bY,cS (by simp;omega) (by simp;omega)];rfl
theorem Bf {plan:List Zc} {l:List Zb} (hv:VPs plan) (hl:VAs l) {imp:ByteArray} (o:List Goal) (ho:∀ g∈o,g∈db plan l imp) (ps:List Prf) (hlen:ps.length+o.length≤64000) {β:Type} (K:List Zn×List Zf×List Za→Option β) :
    Option.bind (aW (S:=(List Zn)×Int×(List Zf)×(List Za)) (T:=((List Zn)×(List Zf)×(List Za))) (fun (l27,v30,l32,l36)=>cond (decide (v30<((o.map vz).length:Int))) (Option.bind (Option.bind (idx (o.map vz) v30) (fun m68=>Option.bind (iC m68 plan l imp l36 l32) (fun x70=>cond (!x70.1) (Option.bind (app 112 l27 [m68]) (fun l80=>some (l80,x70.2.2,x70.2.1))) (some (l27,x70.2.2,x70.2.1))))) (fun (l58,l62,l66)=>some (.inl (l58,(IntKind.i64.wrap (v30+1)),l62,l66)))) (some (.inr (l27,l32,l36)))) FUEL (([]:List Zn),0,ps.map oO,ps.map fun p:Prf=>p.1)) K =
      K ((o.filter fun g=>(fe plan l imp (ba (ps.map fun p:Prf=>p.1)) g).isNone).map vz,(ps++o.filterMap (fe plan l imp (ba (ps.map fun p:Prf=>p.1)))).map oO,ps.map fun p:Prf=>p.1):=by
  generalize hS:(ps.map fun p:Prf=>p.1)=known
  have hkn:known.length=ps.length:=by rw [← hS,List.length_map]
  have hml:(o.map vz).length=o.length:=List.length_map _
  refine (cb (l:=o.map vz) (by omega) (fun i (s:List Zn×List Zf)=>(s.1,i,s.2,known)) (fun s t=>match fe plan l imp (ba known) (t.claim,t.rule) with | some p=>(s.1,s.2++[oO p]) | none=>(s.1++[t],s.2)) (fun s=>(s.1,s.2,known)) (fun k s=>s.1.length≤k∧s.2.length≤ps.length+k) ([],ps.map oO) ⟨by simp,by simp⟩ (fun k hk s hs=>?_) (fun s _=>by simp only [cR,bI])).1.trans ?_
  · obtain ⟨a,b⟩:=s
    obtain ⟨h1,h2⟩:=hs
    dsimp only at h1 h2 ⊢
    simp only [ik hk,bY,aV hk,bg,bR hk (show (o.map vz).length≤4611686018427387904 by omega)]
    have hk':k<o.length:=by omega
    rw [List.getElem_map,Be hv hl (ho _ (List.getElem_mem hk')) known (by omega) b (by omega),bg]
    rw [show fe plan l imp (ba known) ((vz o[k]).claim,(vz o[k]).rule)=fe plan l imp (ba known) o[k] from rfl]
    cases hp:fe plan l imp (ba known) o[k] with
    | none =>
      simp only [Option.isSome_none,Bool.not_false,bY]
      rw [cS (by simp;omega) (by simp;omega)]
      exact ⟨by simp,by simp;omega,by omega⟩
    | some p =>
      simp only [Option.isSome_some,Bool.not_true,bI]
      exact ⟨rfl,by omega,by simp;omega⟩
  have key:∀ (o:List Goal) (a:List Zn) (b:List Zf),(o.map vz).foldl (fun (s:List Zn×List Zf) t=>match fe plan l imp (ba known) (t.claim,t.rule) with | some p=>(s.1,s.2++[oO p]) | none=>(s.1++[t],s.2)) (a,b)=(a++(o.filter fun g=>(fe plan l imp (ba known) g).isNone).map vz,b++(o.filterMap (fe plan l imp (ba known))).map oO):=by
    intro o
    induction o with
    | nil=>intro a b;simp
    | cons g o ih =>
      intro a b
      rw [List.map_cons,List.foldl_cons,List.filter_cons]
      show List.foldl _ (match fe plan l imp (ba known) g with | some p=>(a,b++[oO p]) | none=>(a++[vz g],b)) _=_
      cases hp:fe plan l imp (ba known) g with
      | none=>rw [List.filterMap_cons_none hp];dsimp only;rw [ih];simp
      | some p=>rw [List.filterMap_cons_some hp];dsimp only;rw [ih];simp
  rw [key,List.nil_append,List.map_append]
def sK (p0:List Zc) (p1:List Zb) (p2:ByteArray):(List Zn)×(List Zf)×(List Za)→Option (((List Zn)×(List Zf)×(List Za))⊕(Unit⊕(List Zf×Int))):=(fun (l13,l15,l19)=>Option.bind (aW (S:=(List Zn)×Int×(List Zf)×(List Za)) (T:=((List Zn)×(List Zf)×(List Za))) (fun (l27,v30,l32,l36)=>cond (decide (v30<(l13.length:Int))) (Option.bind (Option.bind (idx l13 v30) (fun m68=>Option.bind (iC m68 p0 p1 p2 l36 l32) (fun x70=>cond (!x70.1) (Option.bind (app 112 l27 [m68]) (fun l80=>some (l80,x70.2.2,x70.2.1))) (some (l27,x70.2.2,x70.2.1))))) (fun (l58,l62,l66)=>some (.inl (l58,(IntKind.i64.wrap (v30+1)),l62,l66)))) (some (.inr (l27,l32,l36)))) FUEL (([]:List Zn),0,l15,l19)) (fun (l42,l46,l50)=>cond (((l46.length:Nat):Int) == ((l15.length:Nat):Int)) (some (.inr (.inr (l46,(0:Int))))) (Option.bind (sub l46 ((l15.length:Nat):Int) (l46.length:Int)) (fun l85=>Option.bind (aW (S:=Int×(List Za)) (T:=((List Za))) (fun (v86,l88)=>cond (decide (v86<((l46.length - ((l15.length:Nat):Int).toNat:Nat):Int))) (Option.bind (lf v86) (fun u100=>Option.bind (idx l46 (((l15.length:Nat):Int)+v86)) (fun m101=>Option.bind (app 16 l88 [m101.Claim]) (fun l105=>some (.inl ((IntKind.i64.wrap (v86+1)),l105)))))) (some (.inr l88))) FUEL (0,l50)) (fun l96=>some (.inl (l42,l46,l96)))))))
theorem Dc (a b:List Zf) (known:List Za) (h:a.length+b.length+known.length≤200000) {β:Type} (K:List Za→Option β) :
    Option.bind (aW (S:=Int×(List Za)) (T:=((List Za))) (fun (v86,l88)=>cond (decide (v86<(((a++b).length - ((a.length:Nat):Int).toNat:Nat):Int))) (Option.bind (lf v86) (fun u100=>Option.bind (idx (a++b) (((a.length:Nat):Int)+v86)) (fun m101=>Option.bind (app 16 l88 [m101.Claim]) (fun l105=>some (.inl ((IntKind.i64.wrap (v86+1)),l105)))))) (some (.inr l88))) FUEL (0,known)) K=K (known++b.map (·.Claim)):=by
  have e:(a++b).length - ((a.length:Nat):Int).toNat=b.length:=by rw [List.length_append];omega
  rw [e]
  refine (cb (l:=b) (by omega) (fun i (s:List Za)=>(i,s)) (fun s p=>s++[p.Claim]) (fun s=>s) (fun k s=>s.length≤known.length+k) known (Nat.le_refl _) (fun k hk s hs=>?_) (fun s _=>by simp only [cR,bI])).1.trans ?_
  · simp only [ik hk,bY,bR hk (show b.length≤4611686018427387904 by omega)]
    rw [A3 (by omega),bg,show ((a.length:Nat):Int)+(k:Int)=((a.length+k:Nat):Int) by omega,aV (show a.length+k<(a++b).length by rw [List.length_append];omega),bg,cS (by simp;omega) (by simp;omega),bg]
    have e2:(a++b)[a.length+k]'(by rw [List.length_append];omega)=b[k]:=by rw [List.getElem_append_right (by omega)];congr 1;omega
    rw [e2]
    exact ⟨rfl,by simp;omega⟩
  have key:∀ (b:List Zf) (s:List Za),b.foldl (fun s p=>s++[p.Claim]) s=s++b.map (·.Claim):=by
    intro b
    induction b with
    | nil=>intro s;simp
    | cons p b ih=>intro s;rw [List.foldl_cons,ih];simp
  rw [key]
theorem Dd (ps:List Prf):(ps.map oO).map (·.Claim)=ps.map fun p:Prf=>p.1:=by rw [List.map_map];rfl
theorem oE {γ π:Type} (f:γ→Option π):∀ o:List γ,(o.filterMap f).length+(o.filter fun g=>(f g).isNone).length=o.length
 | []=>rfl
 | g::o=>by
  have ih:=oE f o
  rw [List.filter_cons]
  cases hf:f g with
  | some p=>rw [List.filterMap_cons_some hf];simp;omega
  | none=>rw [List.filterMap_cons_none hf];simp;omega
theorem Aa {plan:List Zc} {l:List Zb} (hv:VPs plan) (hl:VAs l) {imp:ByteArray}:∀ (n:Nat) (o:List Goal) (ps:List Prf) (N:Nat),o.length≤n→n<N→(∀ g∈o,g∈db plan l imp)→ps.length+o.length≤64000 →
    aW (sK plan l imp) N (o.map vz,ps.map oO,ps.map fun p:Prf=>p.1)=some (.inr ((lH (fun p:Prf=>p.1) (fe plan l imp) n o ps).map oO,0)):=by
  have step:∀ (o:List Goal) (ps:List Prf),(∀ g∈o,g∈db plan l imp)→ps.length+o.length≤64000→sK plan l imp (o.map vz,ps.map oO,ps.map fun p:Prf=>p.1)=cond (o.filterMap (fe plan l imp (ba (ps.map fun p:Prf=>p.1)))).isEmpty (some (.inr (.inr (ps.map oO,0))))
      (some (.inl ((o.filter fun g=>(fe plan l imp (ba (ps.map fun p:Prf=>p.1)) g).isNone).map vz,(ps++o.filterMap (fe plan l imp (ba (ps.map fun p:Prf=>p.1)))).map oO,(ps++o.filterMap (fe plan l imp (ba (ps.map fun p:Prf=>p.1)))).map fun p:Prf=>p.1))):=by
    intro o ps ho hlen
    unfold sK
    refine (Bf hv hl o ho ps hlen _).trans ?_
    have hnl:=List.length_filterMap_le (fe plan l imp (ba (ps.map fun p:Prf=>p.1))) o
    generalize o.filterMap (fe plan l imp (ba (ps.map fun p:Prf=>p.1)))=new at hnl
    dsimp only
    rw [List.map_append]
    cases hn:new.isEmpty
    · have hne:new≠[]:=fun e=>by rw [e] at hn;cases hn
      have hpos:0<new.length:=List.length_pos_iff.2 hne
      rw [show ((((ps.map oO++new.map oO).length:Nat):Int) == (((ps.map oO).length:Nat):Int))=false from by rw [beq_eq_false_iff_ne];simp;omega]
      simp only [bI]
      rw [mB (by simp) (Nat.le_refl _),bg,Dc _ _ _ (by simp;omega)]
      rw [Dd,← List.map_append,← List.map_append]
    have e:new=[]:=List.isEmpty_iff.1 hn
    subst e
    simp
  intro n
  induction n with
  | zero =>
    intro o ps N ho hN hg hlen
    obtain rfl:o=[]:=List.length_eq_zero_iff.1 (by omega)
    obtain ⟨N,rfl⟩:∃ m,N=m+1:=⟨N - 1,by omega⟩
    rw [lH,fu,step [] ps hg hlen];rfl
  | succ n ih =>
    intro o ps N ho hN hg hlen
    obtain ⟨N,rfl⟩:∃ m,N=m+1:=⟨N - 1,by omega⟩
    rw [fu,step o ps hg hlen,lH]
    cases he:(o.filterMap (fe plan l imp (ba (ps.map fun p:Prf=>p.1)))).isEmpty
    · have h1:=rX he
      have h2:=oE (fe plan l imp (ba (ps.map fun p:Prf=>p.1))) o
      exact ih _ _ N (by omega) (by omega) (fun g hg'=>hg g (List.mem_filter.1 hg').1) (by rw [List.length_append];omega)
    rfl
theorem Bg {plan:List Zc} {l:List Zb} (hv:VPs plan) (hl:VAs l) {imp:ByteArray} (h1:dp plan=some 0) (h2:dn l=some 0) (h3:bU imp=some true):ot plan l imp=some ((mN plan l imp).map oO,0):=by
 have hlen:=hv.len
 have hll:=hl.len
 have hg:=sJ plan l imp
 have hm:plan.length*l.length≤64*1000:=Nat.mul_le_mul hlen hll
 unfold ot
 rw [h1,bg,h2,bg,h3,bg,Bd hv hl,bg]
 simp only [bne_self_eq_false,bI,Bool.not_true]
 have key:=Aa hv hl (imp:=imp) (db plan l imp).length (db plan l imp) [] FUEL (Nat.le_refl _) (by have hf:FUEL=1267650600228229401496703205376:=rfl;omega) (fun g h=>h) (by simp;omega)
 exact (congrArg (fun o=>Option.bind o _) key).trans rfl
abbrev RSt:=(List Zf)×Bool×(List Za)
def vA (s:RSt) (o:Option Prf):RSt:=match o with
 | some p=>(s.1++[oO p],true,ia bw s.2.2 p.1)
 | none=>s
def fR (s:RSt) (new:List Prf):RSt:=(s.1++new.map oO,s.2.1 || !new.isEmpty,new.foldl (fun t p=>ia bw t p.1) s.2.2)
theorem vB {α:Type} (h:α→Option Prf):∀ (l:List α) (s:RSt),l.foldl (fun s a=>vA s (h a)) s=fR s (l.filterMap h)
 | [],s=>by simp [fR]
 | a::l,s=>by
  rw [List.foldl_cons,vB h l]
  cases ha:h a with
  | none=>rw [List.filterMap_cons_none ha];rfl
  | some p=>rw [List.filterMap_cons_some ha];simp [fR,vA]
theorem Bh (s:RSt) (a b:List Prf):fR (fR s a) b=fR s (a++b):=by
 unfold fR
 rw [List.map_append,List.append_assoc,List.foldl_append]
 dsimp only
 congr 2
 cases a <;> cases b <;> cases s.2.1 <;> rfl
theorem De (s:RSt) (o:Option Prf):(vA s o).1.length≤s.1.length+1∧(vA s o).2.2.length≤s.2.2.length+1:=by
 cases o with
 | none=>exact ⟨by show s.1.length≤_;omega,by show s.2.2.length≤_;omega⟩
 | some p=>exact ⟨by simp [vA],lv _ _⟩
theorem vC (s:RSt):∀ (new:List Prf),(fR s new).1.length≤s.1.length+new.length∧(fR s new).2.2.length≤s.2.2.length+new.length:=by
 intro new
 refine ⟨by simp [fR],?_⟩
 show (new.foldl (fun t p=>ia bw t p.1) s.2.2).length≤_
 generalize s.2.2=t
 induction new generalizing t with
 | nil=>simp
 | cons p new ih=>rw [List.foldl_cons,List.length_cons];have:=ih (ia bw t p.1);have:=lv (lt:=bw) t p.1;omega
theorem ref_one {plan:List Zc} {l:List Zb} (hv:VPs plan) (hl:VAs l) (ha:AscA l) (imp:ByteArray) (set:List Za) (hs:set.length≤1000000) {p:Zc} (hp:p∈plan) {a:Zb} (hal:a∈l) (s:RSt) (h1:s.1.length≤1000000) (h2:s.2.2.length≤1000000) {i j:Int} (hi:idx plan i=some p) (hj:idx l j=some a) :
    Option.bind (idx plan i) (fun m60=>Option.bind (idx l j) (fun m61=>Option.bind (dX set (⟨m60.ID,m61.ID⟩:Za)) (fun x63=>Option.bind (gd (!x63) (dJ plan l imp (⟨m60.ID,m61.ID⟩:Za))) (fun x64=>cond (x63||(!x64)) (some (s.1,s.2.1,s.2.2)) (Option.bind (gP plan l imp (⟨m60.ID,m61.ID⟩:Za) set) (fun x66=>Option.bind (idx l j) (fun m68=>Option.bind (idx plan i) (fun m69=>Option.bind (gb m68 m69.Code) (fun x70=>Option.bind (ja x70.1 x66.1) (fun x72=>cond x72.2 (Option.bind (app 64 s.1 [(⟨(⟨m60.ID,m61.ID⟩:Za),x72.1,x66.2⟩:Zf)]) (fun l76=>Option.bind (eC s.2.2 (⟨m60.ID,m61.ID⟩:Za)) (fun x80=>some (l76,true,x80)))) (some (s.1,s.2.1,s.2.2))))))))))))=some (vA s (kn plan l imp (ba set) p a)):=by
  have hlen:=hv.len
  have hva:=hl.all a hal
  rw [hi,bg,hj,bg,oA _ _ (by omega),bg,B2 _ _ _ _ (by omega) hl]
  unfold kn
  cases hm:ba set ⟨p.ID,a.ID⟩
  · rw [Bool.not_false,cx,bg]
    cases hc:lG plan l imp ⟨p.ID,a.ID⟩
    · rfl
    simp only [Bool.not_true,Bool.or_self,bI]
    obtain ⟨r,hr⟩:=zX hv ha hp hal hc
    have hro:=vt hva hr
    have hf:=wY hc
    rw [Fm hv hl imp _ set (by omega),bg,bg,bg,rl _ _ hva.ok.len,bg,hr]
    unfold wV
    rw [hc]
    simp only [bY]
    rw [show (hZ zH (some r)).1=r from rfl,show (some r).getD zH=r from rfl,z7 (vq hv imp _ _ hf) hro.2.1 hro.2.2,bg]
    unfold fe
    dsimp only
    cases hw:kh (qb plan l imp ⟨p.ID,a.ID⟩ (ba set)) r with
    | none=>rfl
    | some w =>
      show Option.bind (app 64 s.1 [_]) _=_
      rw [cS (by simp;omega) (by simp;omega),bg,sH _ _ (by omega)];rfl
  rfl
theorem Df {plan:List Zc} {l:List Zb} (hv:VPs plan) (hl:VAs l) (ha:AscA l) (imp:ByteArray) (set:List Za) (hs:set.length≤100000) (out:List Zf) (h1:out.length≤100000) {β:Type} (K:RSt→Option β) :
    Option.bind (aW (S:=(List Zf)×Bool×(List Za)×Int) (T:=((List Zf)×Bool×(List Za))) (fun (l22,v25,l26,v27)=>cond (decide (v27<(plan.length:Int))) (Option.bind (aW (S:=(List Zf)×Bool×(List Za)×Int) (T:=((List Zf)×Bool×(List Za))) (fun (l38,v41,l42,v43)=>cond (decide (v43<(l.length:Int))) (Option.bind (Option.bind (idx plan v27) (fun m60=>Option.bind (idx l v43) (fun m61=>Option.bind (dX set (⟨m60.ID,m61.ID⟩:Za)) (fun x63=>Option.bind (gd (!x63) (dJ plan l imp (⟨m60.ID,m61.ID⟩:Za))) (fun x64=>cond (x63||(!x64)) (some (l38,v41,l42)) (Option.bind (gP plan l imp (⟨m60.ID,m61.ID⟩:Za) set) (fun x66=>Option.bind (idx l v43) (fun m68=>Option.bind (idx plan v27) (fun m69=>Option.bind (gb m68 m69.Code) (fun x70=>Option.bind (ja x70.1 x66.1) (fun x72=>cond x72.2 (Option.bind (app 64 l38 [(⟨(⟨m60.ID,m61.ID⟩:Za),x72.1,x66.2⟩:Zf)]) (fun l76=>Option.bind (eC l42 (⟨m60.ID,m61.ID⟩:Za)) (fun x80=>some (l76,true,x80)))) (some (l38,v41,l42))))))))))))) (fun (l56,v57,l58)=>some (.inl (l56,v57,l58,(IntKind.i64.wrap (v43+1)))))) (some (.inr (l38,v41,l42)))) FUEL (l22,v25,l26,0)) (fun (l47,v48,l49)=>some (.inl (l47,v48,l49,(IntKind.i64.wrap (v27+1)))))) (some (.inr (l22,v25,l26)))) FUEL (out,false,set,0)) K =
      K (fR (out,false,set) (plan.flatMap fun p=>l.filterMap fun a=>kn plan l imp (ba set) p a)):=by
  have hlen:=hv.len
  have hll:=hl.len
  refine (cb (l:=plan) (by omega) (fun i (s:RSt)=>(s.1,s.2.1,s.2.2,i)) (fun s p=>fR s (l.filterMap fun a=>kn plan l imp (ba set) p a)) (fun s=>(s.1,s.2.1,s.2.2)) (fun k s=>s.1.length≤out.length+1000*k∧s.2.2.length≤set.length+1000*k) (out,false,set) ⟨by simp,by simp⟩ (fun k hk s hs=>?_) (fun s _=>by simp only [cR,bI])).1.trans ?_
  · obtain ⟨g1,g2⟩:=hs
    have hfl:=List.length_filterMap_le (fun a=>kn plan l imp (ba set) plan[k] a) l
    have hrl:=vC s (l.filterMap fun a=>kn plan l imp (ba set) plan[k] a)
    refine ⟨?_,by omega,by omega⟩
    simp only [ik hk,bY,bR hk (show plan.length≤4611686018427387904 by omega)]
    refine (cb (l:=l) (by omega) (fun i (s:RSt)=>(s.1,s.2.1,s.2.2,i)) (fun s a=>vA s (kn plan l imp (ba set) plan[k] a)) (fun s=>(s.1,s.2.1,s.2.2)) (fun j t=>t.1.length≤s.1.length+j∧t.2.2.length≤s.2.2.length+j) s ⟨Nat.le_refl _,Nat.le_refl _⟩ (fun j hj t ht=>?_) (fun t _=>by simp only [cR,bI])).1.trans ?_
    · obtain ⟨t1,t2⟩:=ht
      have hst:=De t (kn plan l imp (ba set) plan[k] l[j])
      refine ⟨?_,by omega,by omega⟩
      simp only [ik hj,bY,bR hj (show l.length≤4611686018427387904 by omega)]
      exact (congrArg (fun o=>Option.bind o _) (ref_one hv hl ha imp set (by omega) (List.getElem_mem hk) (List.getElem_mem hj) t (by omega) (by omega) (aV hk) (aV hj))).trans rfl
    rw [vB (fun a=>kn plan l imp (ba set) plan[k] a)]
  have key:∀ (q:List Zc) (s:RSt),q.foldl (fun s p=>fR s (l.filterMap fun a=>kn plan l imp (ba set) p a)) s=fR s (q.flatMap fun p=>l.filterMap fun a=>kn plan l imp (ba set) p a):=by
    intro q
    induction q with
    | nil=>intro s;simp [fR]
    | cons p q ih=>intro s;rw [List.foldl_cons,ih,List.flatMap_cons,Bh]
  rw [key]
section
variable {γ δ π:Type} [DecidableEq δ] {gc:γ→δ} {cl:π→δ} {pv:(δ→Bool)→γ→Option π}
theorem Cj (G:List γ) (ps:List π):(G.filter fun g => !ba (ps.map cl) (gc g)).filterMap (pv (ba (ps.map cl)))=G.filterMap fun g=>cond (ba (ps.map cl) (gc g)) none (pv (ba (ps.map cl)) g):=by
    generalize pv (ba (ps.map cl))=f
    generalize ba (ps.map cl)=m
    induction G with
    | nil=>rfl
    | cons g G ihG =>
      rw [List.filter_cons]
      cases hm:m (gc g)
      · simp only [Bool.not_false,if_true,List.filterMap_cons,ihG,hm,bI]
      simp only [Bool.not_true,Bool.false_eq_true,if_false,List.filterMap_cons,ihG,hm,bY]
theorem Fu (hcl:∀ S g p,pv S g=some p→cl p=gc g) {G:List γ} (inj:∀ g∈G,∀ g'∈G,gc g=gc g'→g=g') (ps:List π):((G.filter fun g => !ba (ps.map cl) (gc g)).filter fun g=>(pv (ba (ps.map cl)) g).isNone)=G.filter fun g => !ba ((ps++G.filterMap fun g=>cond (ba (ps.map cl) (gc g)) none (pv (ba (ps.map cl)) g)).map cl) (gc g):=by
    rw [List.filter_filter]
    refine List.filter_congr fun g hg=>?_
    cases hm:ba (ps.map cl) (gc g)
    · cases hp:pv (ba (ps.map cl)) g with
      | none =>
        cases hq:ba ((ps++G.filterMap fun g=>cond (ba (ps.map cl) (gc g)) none (pv (ba (ps.map cl)) g)).map cl) (gc g)
        · rfl
        · obtain ⟨p,k1,k2⟩:=ji.1 hq
          rcases List.mem_append.1 k1 with k1 | k1
          · rw [ji.2 ⟨p,k1,k2⟩] at hm;cases hm
          · obtain ⟨g',hg',he⟩:=List.mem_filterMap.1 k1
            cases hm':ba (ps.map cl) (gc g')
            · rw [hm'] at he
              have:=inj g' hg' g hg ((hcl _ _ _ he).symm.trans k2)
              subst this
              rw [bI,hp] at he;cases he
            · rw [hm'] at he;cases he
      | some p =>
        have:ba ((ps++G.filterMap fun g=>cond (ba (ps.map cl) (gc g)) none (pv (ba (ps.map cl)) g)).map cl) (gc g)=true:=ji.2 ⟨p,List.mem_append.2 (.inr (List.mem_filterMap.2 ⟨g,hg,by rw [hm];exact hp⟩)),hcl _ _ _ hp⟩
        rw [this];rfl
    have:ba ((ps++G.filterMap fun g=>cond (ba (ps.map cl) (gc g)) none (pv (ba (ps.map cl)) g)).map cl) (gc g)=true:=by
      obtain ⟨p,k1,k2⟩:=ji.1 hm
      exact ji.2 ⟨p,List.mem_append.2 (.inl k1),k2⟩
    rw [this]
    cases (pv (ba (ps.map cl)) g).isNone <;> rfl
end
theorem Bi {plan:List Zc} {l:List Zb} (hv:VPs plan) (hl:VAs l) (ha:AscA l) (imp:ByteArray) {body:(List Zf)×(List Za)×Bool→Option (((List Zf)×(List Za)×Bool)⊕(List Zf))}
    (hb:∀ (out:List Zf) (set:List Za) (more:Bool),out.length≤100000→set.length≤100000→body (out,set,more)=cond more (some (.inl ((fR (out,false,set) (plan.flatMap fun p=>l.filterMap fun a=>kn plan l imp (ba set) p a)).1,(fR (out,false,set) (plan.flatMap fun p=>l.filterMap fun a=>kn plan l imp (ba set) p a)).2.2,(fR (out,false,set) (plan.flatMap fun p=>l.filterMap fun a=>kn plan l imp (ba set) p a)).2.1))) (some (.inr out))) :
    ∀ (n:Nat) (ps:List Prf) (set:List Za) (N:Nat),((db plan l imp).filter fun g => !ba (ps.map fun p:Prf=>p.1) g.1).length≤n→n+1<N→(∀ c,ba set c=ba (ps.map fun p:Prf=>p.1) c)→ps.length+((db plan l imp).filter fun g => !ba (ps.map fun p:Prf=>p.1) g.1).length≤64000→set.length≤ps.length →
      aW body N (ps.map oO,set,true)=some ((jH plan l imp n ps set).map oO):=by
  have hnewE:∀ (ps:List Prf) (set:List Za),(∀ c,ba set c=ba (ps.map fun p:Prf=>p.1) c)→(plan.flatMap fun p=>l.filterMap fun a=>kn plan l imp (ba set) p a)=((db plan l imp).filter fun g => !ba (ps.map fun p:Prf=>p.1) g.1).filterMap (fe plan l imp (ba (ps.map fun p:Prf=>p.1))):=by
    intro ps set hS
    have hSS:ba set=ba (ps.map fun p:Prf=>p.1):=funext hS
    rw [hSS,← vw hv ha]
    exact (Cj (gc:=fun g:Goal=>g.1) (cl:=fun p:Prf=>p.1) (pv:=fe plan l imp) (db plan l imp) ps).symm
  have hempty:∀ (ps:List Prf) (set:List Za) (N:Nat),ps.length≤64000→set.length≤ps.length→(plan.flatMap fun p=>l.filterMap fun a=>kn plan l imp (ba set) p a)=[]→aW body (N+2) (ps.map oO,set,true)=some (ps.map oO):=by
    intro ps set N h1 h2 h
    have hm:(ps.map oO).length=ps.length:=List.length_map _
    rw [fu,hb _ _ _ (by omega) (by omega),h]
    have e:fR (ps.map oO,false,set) []=(ps.map oO,false,set):=by simp [fR]
    rw [e]
    show aW body (N+1) (ps.map oO,set,false)=_
    rw [fu,hb _ _ _ (by omega) (by omega)];rfl
  intro n
  induction n with
  | zero =>
    intro ps set N ho hN hS hlen hset
    obtain ⟨N,rfl⟩:∃ m,N=m+2:=⟨N - 2,by omega⟩
    rw [jH]
    refine hempty ps set N (by omega) hset ?_
    rw [hnewE ps set hS,List.length_eq_zero_iff.1 (Nat.le_zero.1 ho)];rfl
  | succ n ih =>
    intro ps set N ho hN hS hlen hset
    obtain ⟨N,rfl⟩:∃ m,N=m+2:=⟨N - 2,by omega⟩
    rw [jH]
    cases he:(plan.flatMap fun p=>l.filterMap fun a=>kn plan l imp (ba set) p a).isEmpty
    · have hm:(ps.map oO).length=ps.length:=List.length_map _
      rw [fu,hb _ _ _ (by omega) (by omega)]
      have hn:=hnewE ps set hS
      have hrl:=vC (ps.map oO,false,set) (plan.flatMap fun p=>l.filterMap fun a=>kn plan l imp (ba set) p a)
      have hmem:=ro (plan.flatMap fun p=>l.filterMap fun a=>kn plan l imp (ba set) p a) set
      rw [hn] at he hrl hmem ⊢
      have hsh:=rX he
      have hsum:=oE (fe plan l imp (ba (ps.map fun p:Prf=>p.1))) ((db plan l imp).filter fun g => !ba (ps.map fun p:Prf=>p.1) g.1)
      have hop:=Fu (gc:=fun g:Goal=>g.1) (cl:=fun p:Prf=>p.1) (pv:=fe plan l imp) (Ft plan l imp) (G:=db plan l imp) (w5 (imp:=imp) hv ha) ps
      rw [hop,← Cj (gc:=fun g:Goal=>g.1) (cl:=fun p:Prf=>p.1) (pv:=fe plan l imp) (db plan l imp) ps] at hsh hsum
      generalize ((db plan l imp).filter fun g => !ba (ps.map fun p:Prf=>p.1) g.1).filterMap (fe plan l imp (ba (ps.map fun p:Prf=>p.1)))=new at *
      have e:fR (ps.map oO,false,set) new=((ps++new).map oO,true,new.foldl (fun t p=>ia bw t p.1) set):=by unfold fR;rw [he,List.map_append];rfl
      rw [e]
      rw [e] at hrl
      refine ih (ps++new) _ (N+1) (by omega) (by omega) (fun c=>?_) (by rw [List.length_append];omega) (by rw [List.length_append];exact Nat.le_trans hrl.2 (by dsimp only;omega))
      rw [hmem,hS,List.map_append]
      unfold ba;rw [List.any_append]
    exact hempty ps set N (by omega) hset (List.isEmpty_iff.1 he)
theorem Dg {plan:List Zc} {l:List Zb} (hv:VPs plan) (hl:VAs l) (ha:AscA l) {imp:ByteArray} (h1:kJ plan=some 0) (h2:ft l=some 0) (h3:eN imp=some true):jC plan l imp=some ((mN plan l imp).map oO,0):=by
 have hlen:=hv.len
 have hll:=hl.len
 have hg:=sJ plan l imp
 have hm:plan.length*l.length≤64*1000:=Nat.mul_le_mul hlen hll
 unfold jC
 rw [h1,bg,h2,bg,h3,bg]
 simp only [bne_self_eq_false,bI,Bool.not_true]
 have hfl:=List.length_filter_le (fun g:Goal => !ba (([]:List Prf).map fun p:Prf=>p.1) g.1) (db plan l imp)
 refine (congrArg (fun o=>Option.bind o _) (Bi hv hl ha imp (fun out set more k1 k2=>?_) (db plan l imp).length [] [] FUEL hfl (by have hf:FUEL=1267650600228229401496703205376:=rfl;omega) (fun c=>rfl) (by simp only [List.length_nil];omega) (Nat.le_refl _))).trans ?_
 ·cases more
  ·rfl
  exact (Df hv hl ha imp set k2 out k1 _).trans rfl
 show some ((jH plan l imp (db plan l imp).length [] []).map oO,(0:Int))=_
 rw [tJ hv ha]
theorem nP {α T:Type}:∀ (m:List α) (i:Nat),cE (fun (_:Nat) (_:α)=>(none:Option T)) m i=none
 | [],_=>rfl
 | _::m,i=>nP m (i+1)
theorem Dh (l:List Zc) (x:Zh) (hl:l.length≤140737488355328):bD l (fun y=>cr y x)=some (da l x.Product).isSome:=by
 unfold bD
 have e:bN l (fun y=>cr y x)=some (match cE (fun k p=>cond (p.ID == x.Product) (some (Sum.inr (k:Int):Unit⊕Int)) none) l 0 with | some (.inr k)=>k | _ => -1):=by
  unfold bN
  refine (bJ (l:=l) (by omega) (fun k (p:Zc)=>cond (p.ID == x.Product) (some (.inr (k:Int))) none) (.inl ()) (fun k hk=>?_) (by simp only [cR,bI])).trans ?_
  ·simp only [ik hk,bY,aV hk,bg,bR hk (show l.length≤4611686018427387904 by omega)]
   unfold cr
   rw [bg];cases (l[k].ID == x.Product) <;> rfl
  cases cE (fun k (p:Zc)=>cond (p.ID == x.Product) (some (Sum.inr (k:Int):Unit⊕Int)) none) l 0 with
  | none=>rfl
  | some t=>cases t <;> rfl
 rw [e,bg]
 unfold da
 rcases pX (fun p:Zc=>p.ID == x.Product) (fun k=>(Sum.inr (k:Int):Unit⊕Int)) l 0 with ⟨h1,h2⟩ | ⟨j,hj,h1,h2⟩
 ·rw [h1,h2];rfl
 rw [h1,h2]
 show some (decide (0≤((0+j:Nat):Int)))=_
 rw [det (by omega)];rfl
structure VIds (l:List Zc):Prop where
 id:∀ p∈l,1≤p.ID∧p.ID≤1000000
 lvl:∀ p∈l,dL p.Code=6∨dL p.Code=8
theorem tW {α:Type} {f:α→Int} {l:List α} (h:l.Pairwise fun a b=>f a<f b) {k:Nat} (h0:0<k) (hk:k<l.length):f (l[k - 1]'(by omega))<f l[k]:=List.pairwise_iff_getElem.1 h (k - 1) k (by omega) hk (by omega)
theorem Ab {plan:List Zc} (hv:VPs plan) {p:Zc} (hp:VProd plan p):dj plan p.Inputs=some 0:=by
 unfold dj
 have hlen:=hv.len
 have hfew:=hp.few
 refine (bJ (l:=p.Inputs) (by omega) (fun _ _=>none) (.inl ()) (fun k hk=>?_) (by simp only [cR,bI])).trans ?_
 ·have hin:=hp.inp _ (List.getElem_mem hk)
  simp only [ik hk,bY,aV hk,bg,bR hk (show p.Inputs.length≤4611686018427387904 by omega),BL]
  rw [Dh _ _ (by omega),hin.1,bK (show ¬ p.Inputs[k].Value<0 by omega),bK (show ¬ 1000000000000<p.Inputs[k].Value by omega)]
  by_cases h0:0<k
  ·have hlt:=tW hp.asc h0 hk
   rw [det h0,cx,f0 h0 hk (by omega),bg,bK (by omega)];rfl
  rw [bK h0];rfl
 rw [nP];rfl
theorem yl {plan:List Zc} {p:Zc} (hp:VProd plan p) (hl:dL p.Code=6∨dL p.Code=8) (hw:StrsOk p.Processes):cZ p=some 0:=by
 unfold cZ
 show Option.bind (some (dL p.Code)) _=_
 have hne:((dL p.Code != 6)&&(dL p.Code != 8))=false:=by rcases hl with h | h <;> rw [h] <;> rfl
 have hfew:=hp.few
 have hpr:=hp.price
 rw [bg,hne,Bool.not_false,cx,np,hp.ctr,bg,Bool.not_true,Bool.or_self,Bool.not_false,cx,rk _ hw,hp.proc,bg]
 simp only [Bool.not_true,Bool.or_self,bI]
 rw [bK (show ¬ p.Price<1 by omega),bK (show ¬ 1000000000000<p.Price by omega),bK (show ¬ 8<(p.Inputs.length:Int) by omega)]
 simp only [Bool.or_self,bI]
 cases ho:p.Obtained
 ·rfl
 rw [hp.obt ho];rfl
theorem w7 {plan:List Zc} {p:Zc} (hp:VProd plan p):StrsOk p.Processes:=by
 obtain ⟨h1,h2,_⟩:=kf hp.proc
 exact ⟨by omega,fun s hs=>by have:=vp (h2 s hs);omega⟩
theorem Bj {plan:List Zc} (hv:VPs plan) (hi:VIds plan):dp plan=some 0:=by
 unfold dp
 have hlen:=hv.len
 rw [bK (by omega),bI]
 refine (bJ (l:=plan) (by omega) (fun _ _=>none) (.inl ()) (fun k hk=>?_) (by simp only [cR,bI])).trans ?_
 ·have hm:=List.getElem_mem hk
  have hp:=hv.all _ hm
  have hid:=hi.id _ hm
  simp only [ik hk,bY,aV hk,bg,bR hk (show plan.length≤4611686018427387904 by omega),BL]
  rw [bK (show ¬ plan[k].ID<1 by omega),bK (show ¬ 1000000<plan[k].ID by omega),yl hp (hi.lvl _ hm) (w7 hp),Ab hv hp]
  by_cases h0:0<k
  ·have hlt:=tW hv.asc h0 hk
   rw [det h0,cx,f0 h0 hk (by omega),bg,bK (by omega)];rfl
  rw [bK h0];rfl
 rw [nP];rfl
theorem MPs.vids {l:List Zc} (h:MPs l):VIds l:=by
 have hlen:=h.len
 refine ⟨fun p hp=>?_,fun p hp=>?_⟩
 ·obtain ⟨i,hi,rfl⟩:=List.getElem_of_mem hp
  have:=(h.all i _ (List.getElem?_eq_getElem hi)).id;omega
 obtain ⟨i,hi,rfl⟩:=List.getElem_of_mem hp
 exact (h.all i _ (List.getElem?_eq_getElem hi)).lvl.1
theorem Di (l:List ByteArray) (hl:StrsOk l):lm l=some (j9 l):=by
 obtain ⟨hl,hs⟩:=hl
 unfold lm j9
 refine (bJ (l:=l) (by omega) (fun k x=>cond (mR gJ l k x) none (some (.inr false))) (.inl ()) (fun k hk=>?_) (by simp only [cR,bI])).trans ?_
 ·have h62:l.length≤4611686018427387904:=by omega
  simp only [ik hk,bY,aV hk,bg,zt _ (hs _ (List.getElem_mem hk)),BL,bR hk h62,mR]
  cases hw:gJ l[k]
  ·rfl
  by_cases h0:0<k
  ·simp only [h0,decide_true,Bool.not_true,Bool.not_false,Bool.and_true,Bool.true_and,Bool.false_or,cx,f0 h0 hk h62,bg,fF (show k - 1<l.length by omega),iN]
   cases Op.bytesLess (l[k-1]'(by omega)).toList l[k].toList <;> rfl
  simp only [h0,decide_false,Bool.and_false,jx,bg,Bool.not_true,Bool.false_or,Bool.false_and,bI,Bool.not_false,Bool.true_and,Bool.true_or,Bool.or_false];rfl
 rw [ms]
 have i2:decide ((l.length:Int)≤(8:Int))=decide (l.length≤8):=decide_eq_decide.2 (by omega)
 cases (l.all gJ&&kl iN l)
 ·simp
 simp [i2]
theorem Fv {s:ByteArray} (h:dL s=6∨dL s=8):s.size≤8:=by
 unfold dL at h
 split at h
 ·omega
 omega
theorem Dj {plan:List Zc} (hv:VPs plan) (hi:VIds plan):kJ plan=some 0:=by
 unfold kJ
 have hlen:=hv.len
 rw [bK (by omega),bI]
 refine (bJ (l:=plan) (by omega) (fun _ _=>none) (.inl ()) (fun k hk=>?_) (by simp only [cR,bI])).trans ?_
 ·have hm:=List.getElem_mem hk
  have hp:=hv.all _ hm
  have hid:=hi.id _ hm
  have hl:=hi.lvl _ hm
  have hls:=Fv hl
  have hfew:=hp.few
  have hpr:=hp.price
  simp only [ik hk,bY,aV hk,bg,bR hk (show plan.length≤4611686018427387904 by omega),BL]
  rw [bK (show ¬ plan[k].ID<1 by omega),bK (show ¬ 1000000<plan[k].ID by omega),sD _ (by omega),pK,Di _ (w7 hp),hp.ctr,hp.proc]
  have hlv:decide (dL plan[k].Code<6)=false:=bK (by omega)
  have tail:∀ {β:Type} (K:Unit⊕(Int⊕(Unit⊕Int))→Option β),Option.bind (aW (S:=Int) (T:=(Unit)⊕(Int⊕(Unit⊕Int))) (fun v18=>cond (decide (v18<(plan[k].Inputs.length:Int))) (Option.bind (gd (decide (0<v18)) (idx plan[k].Inputs v18)) (fun m22=>Option.bind (gd (decide (0<v18)) (idx plan[k].Inputs (IntKind.i64.wrap (v18 - 1)))) (fun m23=>cond ((decide (0<v18))&&(decide (m22.Product≤m23.Product))) (some (.inr (.inr (.inr (.inr 9))))) (Option.bind (idx plan[k].Inputs v18) (fun m25=>Option.bind (fA plan m25.Product) (fun x26=>cond (!x26.2) (some (.inr (.inr (.inr (.inr 6))))) (Option.bind (idx plan[k].Inputs v18) (fun m29=>Option.bind (gd (!(decide (m29.Value<0))) (idx plan[k].Inputs v18)) (fun m30=>cond ((decide (m29.Value<0))||(decide (1000000000000<m30.Value))) (some (.inr (.inr (.inr (.inr 2))))) (some (.inl (IntKind.i64.wrap (v18+1))))))))))))) (some (.inr (.inl ())))) FUEL 0) K=K (.inl ()):=by
   intro β K
   refine (bJ (l:=plan[k].Inputs) (by omega) (fun _ _=>none) (.inl ()) (fun j hj=>?_) (by simp only [cR,bI])).trans ?_
   ·have hin:=hp.inp _ (List.getElem_mem hj)
    simp only [ik hj,bY,aV hj,bg,bR hj (show plan[k].Inputs.length≤4611686018427387904 by omega),BL]
    rw [sI hv,bg,hin.1,bK (show ¬ plan[k].Inputs[j].Value<0 by omega),Bool.not_false,cx,bg,bK (show ¬ 1000000000000<plan[k].Inputs[j].Value by omega)]
    by_cases h0:0<j
    ·have hlt:=tW hp.asc h0 hj
     rw [det h0,cx,cx,bg,f0 h0 hj (by omega),bg,bK (by omega)];rfl
    rw [bK h0];rfl
   rw [nP];rfl
  by_cases h0:0<k
  ·have hlt:=tW hv.asc h0 hk
   rw [det h0,cx,f0 h0 hk (by omega),bg,bK (show ¬ plan[k].ID≤(plan[k - 1]'(by omega)).ID by omega)]
   simp only [Bool.or_self,bI,Bool.and_false,bg,hlv,Bool.not_false,cx,Bool.not_true]
   rw [bK (show ¬ plan[k].Price<1 by omega),bK (show ¬ 1000000000000<plan[k].Price by omega),bK (show ¬ 8<(plan[k].Inputs.length:Int) by omega)]
   have hob:(plan[k].Obtained&&decide (0<plan[k].Inputs.length))=false:=by
    cases ho:plan[k].Obtained
    ·rfl
    rw [hp.obt ho];rfl
   rw [hob]
   simp only [Bool.or_self,bI]
   exact (tail _).trans rfl
  rw [bK h0,jx,bg]
  simp only [Bool.or_self,bI,Bool.false_and,bg,hlv,Bool.not_false,cx,Bool.not_true]
  rw [bK (show ¬ plan[k].Price<1 by omega),bK (show ¬ 1000000000000<plan[k].Price by omega),bK (show ¬ 8<(plan[k].Inputs.length:Int) by omega)]
  have hob:(plan[k].Obtained&&decide (0<plan[k].Inputs.length))=false:=by
   cases ho:plan[k].Obtained
   ·rfl
   rw [hp.obt ho];rfl
  rw [hob]
  simp only [Bool.or_self,bI]
  exact (tail _).trans rfl
 rw [nP];rfl
theorem Bk {p:List Zc} {l:List Zb} {imp:ByteArray} (h1:MPs p) (h2:MAs l) (h3:imp∈C6):ot p l imp=some ((mN p l imp).map oO,0)∧jC p l imp=some ((mN p l imp).map oO,0):=by
 have hv:=h1.vps
 refine ⟨Bg hv h2.vas (Bj hv h1.vids) ?_ ?_,Dg hv h2.vas h2.asc (Dj hv h1.vids) ?_ ?_⟩
 ·rw [EQ l h2.ok,h2.valid]
 ·rw [np,C6_ctry h3]
 ·rw [ref_agr l h2.ok,h2.valid]
 rw [pK,C6_ctry h3]
theorem Ac {plan:List Zc} {l:List Zb} (hv:VPs plan) (hl:VAs l) (ha:AscA l) (imp:ByteArray):(mN plan l imp).length≤64000∧∀ p∈mN plan l imp,p.2.1.length≤1000∧p.2.2.length≤64:=by
 have hg:=sJ plan l imp
 have hm:plan.length*l.length≤64*1000:=Nat.mul_le_mul hv.len hl.len
 have key:∀ (n:Nat) (o:List Goal) (ps:List Prf),(∀ g∈o,g∈db plan l imp)→(∀ p∈ps,p.2.1.length≤1000∧p.2.2.length≤64)→(lH (fun p:Prf=>p.1) (fe plan l imp) n o ps).length≤ps.length+o.length∧∀ p∈lH (fun p:Prf=>p.1) (fe plan l imp) n o ps,p.2.1.length≤1000∧p.2.2.length≤64:=by
  intro n
  induction n with
  | zero=>intro o ps _ h;exact ⟨by rw [lH];omega,by rw [lH];exact h⟩
  | succ n ih =>
   intro o ps ho h
   rw [lH]
   have hs:=oE (fe plan l imp (ba (ps.map fun p:Prf=>p.1))) o
   cases (o.filterMap (fe plan l imp (ba (ps.map fun p:Prf=>p.1)))).isEmpty
   ·obtain ⟨i1,i2⟩:=ih (o.filter fun g=>(fe plan l imp (ba (ps.map fun p:Prf=>p.1)) g).isNone) (ps++o.filterMap (fe plan l imp (ba (ps.map fun p:Prf=>p.1)))) (fun g hg=>ho g (List.mem_filter.1 hg).1) (fun p hp=>by
     rcases List.mem_append.1 hp with hp | hp
     ·exact h p hp
     obtain ⟨g,k1,k2⟩:=List.mem_filterMap.1 hp
     have hr:=w6 hl (ho g k1)
     unfold fe at k2
     cases hw:kh (qb plan l imp g.1 (ba (ps.map fun p:Prf=>p.1))) g.2 with
     | none=>rw [hw] at k2;cases k2
     | some w =>
      rw [hw,Option.map_some] at k2
      injection k2 with k2
      subst k2
      exact ⟨by have:=rV _ _ w hw;dsimp only;omega,Fq hv imp g.1 _ (vu (ho g k1)).2⟩)
    exact ⟨by rw [List.length_append] at i1;simp only [bI];omega,i2⟩
   ·exact ⟨by simp only [bY];omega,h⟩
 obtain ⟨k1,k2⟩:=key (db plan l imp).length (db plan l imp) [] (fun g h=>h) (fun p hp=>by cases hp)
 exact ⟨by unfold mN;simp only [List.length_nil] at k1;omega,k2⟩

def tX (l:List Zf):List Za:=l.foldl (fun t p=>ia bw t p.Claim) []
theorem vD (l:List Zf) (hl:l.length≤1000000):iM l=some (tX l)∧(tX l).length≤l.length:=by
 unfold iM
 have h:=cb (β:=List Za) (l:=l) (by omega) (body:=fun (l1,v2)=>cond (decide (v2<(l.length:Int))) (Option.bind (idx l v2) (fun m7=>Option.bind (eC l1 m7.Claim) (fun x8=>some (.inl (x8,(IntKind.i64.wrap (v2+1))))))) (some (.inr l1))) (k:=fun l3=>some l3) (fun i (s:List Za)=>(s,i)) (fun s p=>ia bw s p.Claim) (fun s=>s) (fun k s=>s.length≤k) [] (by simp) (fun k hk s hs=>by
  simp only [ik hk,bY,aV hk,bg,bR hk (show l.length≤4611686018427387904 by omega)]
  rw [sH _ _ (by omega)]
  exact ⟨rfl,by have:=lv (lt:=bw) s l[k].Claim;omega⟩) (fun s _=>by simp only [cR,bI])
 exact ⟨h.1,h.2⟩


structure POk (p:Zc):Prop where
 code:p.Code.size≤140737488355328
 proc:StrsOk p.Processes
 len:p.Inputs.length≤140737488355328
structure PSOk (l:List Zc):Prop where
 len:l.length≤140737488355328
 all:∀ p∈l,POk p

def uIn (id pid:Int) (acc:List Int) (x:Zh):List Int:=cond (x.Product == id) (acc++[pid]) acc
def usersS (plan:List Zc) (id:Int):List Int:=plan.foldl (fun acc p=>p.Inputs.foldl (uIn id p.ID) acc) []
def hitB (plan:List Zc) (id:Int) (r:List Bool) (m:Nat) (u:List Int):Bool:=match plan[m]? with
 | none=>false
 | some p=>((p.ID == id)||r.getD m false)&&u.any fun x=>x == p.ID
def Fw (r:List Bool):Nat:=(r.filter fun b => !b).length
structure PassI (plan:List Zc) (id:Int) (r:List Bool) (k:Nat) (r':List Bool) (ag:Bool):Prop where
 len:r'.length=plan.length
 le:k≤plan.length
 no:ag=false→r'=r∧∀ i,i<k→∀ p,plan[i]?=some p→r.getD i false=true∨∀ m,hitB plan id r m (usersS plan p.ID)=false
 yes:ag=true→Fw r'<Fw r
theorem VIds.sub {l m:List Zc} (h:VIds l) (hs:∀ p∈m,p∈l):VIds m:=⟨fun p hp=>h.id p (hs p hp),fun p hp=>h.lvl p (hs p hp)⟩

structure FMap (ps:List Prf) (k:Nat) (m:List (Za×Int)):Prop where
 get:∀ d,kz m d=match vx ps d with | some i=>cond (decide (i<k)) (some (i:Int)) none | none=>none
structure Zw (x:List Zf) (M:Nat):Prop where
 len:x.length≤100000
 prem:∀ p∈x,p.Premises.length≤M
 path:∀ p∈x,p.Path.length≤1000000000000
 mx:M≤2000000

theorem Dk {plan:List Zc} {l:List Zb} (hv:VPs plan) (hl:VAs l) (ha:AscA l) (imp:ByteArray):Zw ((mN plan l imp).map oO) 64:=by
 obtain ⟨h1,h2⟩:=Ac hv hl ha imp
 refine ⟨by rw [List.length_map];omega,fun p hp=>?_,fun p hp=>?_,by omega⟩
 ·obtain ⟨q,hq,rfl⟩:=List.mem_map.1 hp
  exact (h2 q hq).2
 obtain ⟨q,hq,rfl⟩:=List.mem_map.1 hp
 have:=(h2 q hq).1
 show q.2.1.length≤_;omega
theorem awake16:mX=some true:=by kernel_rfl
theorem tl (x:List Zf) (hx:x.length≤1000000):eD x=some (tX x):=by
 unfold eD
 refine (cb (l:=x) (by omega) (fun i (s:List Za)=>(s,i)) (fun s p=>s++[p.Claim]) (fun s=>s) (fun k s=>s.length=k) [] rfl (fun k hk s hs=>?_) (fun s _=>by simp only [cR,bI])).1.trans ?_
 ·refine ⟨?_,by simp;omega⟩
  simp only [ik hk,bY,aV hk,bg,bR hk (show x.length≤4611686018427387904 by omega)]
  rw [cS (by simp only [List.length_cons,List.length_nil];omega) (by simp only [List.length_cons,List.length_nil];omega)];rfl
 have e:∀ (l:List Zf) (acc:List Za),l.foldl (fun s p=>s++[p.Claim]) acc=acc++l.map (·.Claim):=by
  intro l
  induction l with
  | nil=>intro acc;simp
  | cons p l ih=>intro acc;rw [List.foldl_cons,ih];simp
 rw [e,List.nil_append]
 unfold bq
 rw [bg,zM _ (by rw [mq,List.length_map];omega),bg]
 have h2:tX x=sd bw (x.map (·.Claim)):=by
  rw [← p9 ordC,List.foldl_map];rfl
 rw [h2];rfl
theorem sL (m0:List Zf) (m1 m2:List Int) (m3:Int) {κ:Kr} {v0 v1 v2 v3:List Value} (_:Rps κ (eL Zf.enc m0) v0) (_:Rps κ (eL eI m1) v1) (_:Rps κ (eL eI m2) v2) (_:Rps κ (eI m3) v3):fE m0 m1 m2 m3=some true:=by
 have key:Y (fE m0 m1 m2 m3) (fun r=>r=true):=by
  unfold fE
  refine Y.bind (P:=fun t:List Zf×List Int×List Int×Int=>t.1.length≤40) (Y.cond (fun hc=>?_) (fun hc=>Y.ret ?_)) fun t ht=>?_
  ·have hc:=of_decide_eq_true hc
   have hs:=mB (xs:=m0) (a:=0) (b:=40) (by omega) (by omega)
   rw [show sub m0 0 40=_ from hs,bg]
   exact Y.ret (by dsimp only;rw [List.length_drop,List.length_take];omega)
  ·have hc:=of_decide_eq_false hc
   dsimp only;omega
  obtain ⟨x,a,b,c⟩:=t
  dsimp only at ht ⊢
  obtain ⟨p,e1,h1⟩:=plan_Y a
  obtain ⟨l,e2,h2⟩:=xV b
  obtain ⟨imp,e4,h4⟩:=AW c
  rw [e1,bg,e2,bg,e4,bg]
  obtain ⟨_,s2⟩:=Bk h1 h2 h4
  have hsm:=Dk h1.vps h2.vas h2.asc imp
  rw [s2,bg]
  have hlen:=hsm.len
  generalize (mN p l imp).map oO=y at hlen
  obtain ⟨r1,r2⟩:=vD x (by omega)
  obtain ⟨r3,r4⟩:=vD y (by omega)
  rw [tl x (by omega),bg,r1,bg,qJ _ _ (by omega),bg,det rfl,cx]
  dsimp only
  rw [tl y (by omega),bg,cx,r3,bg,cx,qJ _ _ (by omega),bg,det rfl]
  simp only [Bool.and_self,cx,awake16,bg]
  exact Y.ret rfl
 obtain ⟨r,e,rfl⟩:=key
 exact e
def bd3:Nat→Int→Prop:=fun _ _=>True
theorem op3 {H:Type} {eh:TypeId×Value→H} {nb:Nat}:Opens eh nb 3 eI (bd3 nb):=CW rfl
def bd22:Nat→(List Int)→Prop:=fun n l=>l.length*8≤140737488355328∧l.length≤n∧∀ x∈l,bd3 n x
theorem op22 {H:Type} {eh:TypeId×Value→H} {nb:Nat}:Opens eh nb 22 (eL eI) (bd22 nb):=pT rfl rfl rfl rfl op3
def bd28:Nat→Za→Prop:=fun n m=>bd3 n m.Product∧bd3 n m.Agreement∧True
theorem op28 {H:Type} {eh:TypeId×Value→H} {nb:Nat}:Opens eh nb 28 Za.enc (bd28 nb):=fun W fuel cs x hx hw hbk=>by
 obtain ⟨xs,n,rfl,rfl,hl,hlen,hf⟩:=DataW.trod_struct (bB (t:=28) rfl) hx
 obtain ⟨x0,x1,rfl⟩:∃ x0 x1,xs=[x0,x1]:=by
  match xs,hlen with
  | [a0,a1],_=>exact ⟨a0,a1,rfl⟩
 have hw2:∀ n∈DataW.weightsEach Tryz.prog [3,3] [x0.1,x1.1],n≤reachBytes:=fun n hn=>hw n (by simp only [DataW.weights,bB (t:=28) rfl];exact hn)
 simp only [DataW.weightsEach,List.mem_append] at hw2
 simp only [Rows.uptoBulk,List.map_cons,List.map_nil,Rows.uptoBulkAll] at hbk
 have g0:DataW.trod eh Tryz.prog W 0 (fun _=>true) true n 3 ((cs.drop 0).take (Tryz.prog.cellsOf 3))=some x0:=hf 0 _ rfl
 rw [(gq (t:=3) rfl).1] at g0
 obtain ⟨m0,r0,o0,c0⟩:=op3 (nb:=nb) W n _ _ g0 (fun n hn=>hw2 n (.inl hn)) (by omega)
 have g1:DataW.trod eh Tryz.prog W 0 (fun _=>true) true n 3 ((cs.drop 1).take (Tryz.prog.cellsOf 3))=some x1:=hf 1 _ rfl
 rw [(gq (t:=3) rfl).1] at g1
 obtain ⟨m1,r1,o1,c1⟩:=op3 (nb:=nb) W n _ _ g1 (fun n hn=>hw2 n (.inr (.inl hn))) (by omega)
 have hl2:cs.length=2:=hl.trans (gq (t:=28) rfl).1
 exact ⟨(⟨m0,m1⟩:Za),(pV (off:=0) r0 (pV (off:=1) r1 (BV hl2))),(pW (off:=0) o0 (pW (off:=1) o1 (BW hl2))),⟨c0,c1,trivial⟩⟩
def bd31:Nat→(List Za)→Prop:=fun n l=>l.length*16≤140737488355328∧l.length≤n∧∀ x∈l,bd28 n x
theorem op31 {H:Type} {eh:TypeId×Value→H} {nb:Nat}:Opens eh nb 31 (eL Za.enc) (bd31 nb):=pT rfl rfl rfl rfl op28
def bd61:Nat→Zf→Prop:=fun n m=>bd28 n m.Claim∧bd22 n m.Path∧bd31 n m.Premises∧True
theorem op61 {H:Type} {eh:TypeId×Value→H} {nb:Nat}:Opens eh nb 61 Zf.enc (bd61 nb):=fun W fuel cs x hx hw hbk=>by
 obtain ⟨xs,n,rfl,rfl,hl,hlen,hf⟩:=DataW.trod_struct (bB (t:=61) rfl) hx
 obtain ⟨x0,x1,x2,rfl⟩:∃ x0 x1 x2,xs=[x0,x1,x2]:=by
  match xs,hlen with
  | [a0,a1,a2],_=>exact ⟨a0,a1,a2,rfl⟩
 have hw2:∀ n∈DataW.weightsEach Tryz.prog [28,22,31] [x0.1,x1.1,x2.1],n≤reachBytes:=fun n hn=>hw n (by simp only [DataW.weights,bB (t:=61) rfl];exact hn)
 simp only [DataW.weightsEach,List.mem_append] at hw2
 simp only [Rows.uptoBulk,List.map_cons,List.map_nil,Rows.uptoBulkAll] at hbk
 have g0:DataW.trod eh Tryz.prog W 0 (fun _=>true) true n 28 ((cs.drop 0).take (Tryz.prog.cellsOf 28))=some x0:=hf 0 _ rfl
 rw [(gq (t:=28) rfl).1] at g0
 obtain ⟨m0,r0,o0,c0⟩:=op28 (nb:=nb) W n _ _ g0 (fun n hn=>hw2 n (.inl hn)) (by omega)
 have g1:DataW.trod eh Tryz.prog W 0 (fun _=>true) true n 22 ((cs.drop 2).take (Tryz.prog.cellsOf 22))=some x1:=hf 1 _ rfl
 rw [(gq (t:=22) rfl).1] at g1
 obtain ⟨m1,r1,o1,c1⟩:=op22 (nb:=nb) W n _ _ g1 (fun n hn=>hw2 n (.inr (.inl hn))) (by omega)
 have g2:DataW.trod eh Tryz.prog W 0 (fun _=>true) true n 31 ((cs.drop 3).take (Tryz.prog.cellsOf 31))=some x2:=hf 2 _ rfl
 rw [(gq (t:=31) rfl).1] at g2
 obtain ⟨m2,r2,o2,c2⟩:=op31 (nb:=nb) W n _ _ g2 (fun n hn=>hw2 n (.inr (.inr (.inl hn)))) (by omega)
 have hl2:cs.length=4:=hl.trans (gq (t:=61) rfl).1
 exact ⟨(⟨m0,m1,m2⟩:Zf),(pV (off:=0) r0 (pV (off:=2) r1 (pV (off:=3) r2 (BV hl2)))),(pW (off:=0) o0 (pW (off:=2) o1 (pW (off:=3) o2 (BW hl2)))),⟨c0,c1,c2,trivial⟩⟩
def bd45:Nat→(List Zf)→Prop:=fun n l=>l.length*64≤140737488355328∧l.length≤n∧∀ x∈l,bd61 n x
theorem op45 {H:Type} {eh:TypeId×Value→H} {nb:Nat}:Opens eh nb 45 (eL Zf.enc) (bd45 nb):=pT rfl rfl rfl rfl op61
end SX
end Go.Proofs.YtgmbmepakpcpaaaGreatDoor
set_option maxRecDepth 100000
namespace Go.Proofs.YtgmbmepakpcpaaaGreatDoor
open Go Go.ChangeShapes Go.WideShapes Go.RowKit
open SX
theorem originClaims_lifted (os:Os) (started:os.Started) (H:Type) (enc:TypeId×Value→H) :
    ReturnsInHanded {} Tryz.checked os 7 .any (fun w args=>(Rows.originClaimsSpec.pre enc Tryz.prog Tryz.f7 [] false w args∧laidMetH Tryz.prog wJ w)∧sizedMet enc Tryz.prog Tryz.f7 (OpenSpec.ofChange Rows.originClaimsSpec) false w args)
      (Rows.originClaimsSpec.post enc Tryz.prog Tryz.f7 false true false false):=by
  refine returnsInHanded_of_change_and (C:=Tryz.checked) (X:=fun w _=>laidMetH Tryz.prog wJ w) (fun _ _ _ hh h=>h.of_heap hh) own_ok started (by kernel_rfl) Tryz.func7
    (ChangeSpec.witness_at (enc:=enc) (C:=Tryz.checked) (os:=os) (X:=fun w _=>laidMetH Tryz.prog wJ w) false (laidWorld os) #[.slice none 0 0,.slice none 0 0,.slice none 0 0,.int .i64 0] 8 rfl (by kernel_rfl) (by kernel_rfl) (by kernel_rfl) (by kernel_rfl) (by kernel_rfl) (vW os _)) ?_
  intro W base args ds gs before hval0 hW _ hwt hL _
  have hval:∀ (j:Nat) t v,Tryz.f7.params[j]?=some t→args[j]?=some v→Value.okWide Tryz.prog W .any base t v:=hval0
  have hW2:=hW
  obtain ⟨p,q,hA0,hV0,rfl,_,_⟩:=hW
  have hA:DataW.TrodAll enc Tryz.prog W 0 (fun _=>true) true [45,22,22,3] args.toList ds p:=hA0
  obtain ⟨rfl,rfl⟩:gs=[]∧q=[]:=by
    cases gs with
    | nil=>exact ⟨rfl,hV0⟩
    | cons g r=>exact absurd hV0 (by intro h;cases h)
  generalize hargs:args.toList=vs at hA
  have hval2:∀ (j:Nat) t v,[45,22,22,3][j]?=some t→vs[j]?=some v→Value.okWide Tryz.prog W .any base t v:=fun j t v h1 h2=>hval j t v (by rw [Tryz.params7];simpa using h1) (by rw [← hargs] at h2;simpa using h2)
  obtain ⟨v0,vs0,d0,ds0,p0,q0,rfl,rfl,h0,hA⟩:=SX.trodAll_cons hA
  obtain ⟨v1,vs1,d1,ds1,p1,q1,rfl,rfl,h1,hA⟩:=SX.trodAll_cons hA
  obtain ⟨v2,vs2,d2,ds2,p2,q2,rfl,rfl,h2,hA⟩:=SX.trodAll_cons hA
  obtain ⟨v3,vs3,d3,ds3,p3,q3,rfl,rfl,h3,hA⟩:=SX.trodAll_cons hA
  obtain ⟨rfl,rfl⟩:=SX.trodAll_nil hA
  have hw:(DataW.weightsEach Tryz.prog [45,22,22,3] [d0,d1,d2,d3]).all (· ≤ reachBytes)=true:=hwt
  obtain ⟨l0,hw⟩:=SX.light_head hw
  obtain ⟨m0,s0,b0⟩:=tT rfl rfl op45 (fun _=>⟨_,rfl⟩) (hval2 0 45 v0 rfl rfl) h0 l0 (Nat.le_refl _)
  obtain ⟨l1,hw⟩:=SX.light_head hw
  obtain ⟨m1,s1,b1⟩:=tT rfl rfl op22 (fun _=>⟨_,rfl⟩) (hval2 1 22 v1 rfl rfl) h1 l1 (Nat.le_refl _)
  obtain ⟨l2,hw⟩:=SX.light_head hw
  obtain ⟨m2,s2,b2⟩:=tT rfl rfl op22 (fun _=>⟨_,rfl⟩) (hval2 2 22 v2 rfl rfl) h2 l2 (Nat.le_refl _)
  obtain ⟨l3,hw⟩:=SX.light_head hw
  obtain ⟨m3,s3,b3⟩:=tT rfl rfl op3 (fun _=>⟨_,rfl⟩) (hval2 3 3 v3 rfl rfl) h3 l3 (Nat.le_refl _)
  exact E5 (readB (by kernel_rfl)) rfl (bB rfl) rfl (by simp [Rows.originClaimsSpec]) hW2 (zB hL) (by rw [hargs];exact (s0.app (s1.app (s2.app s3)))) (oW (sL m0 m1 m2 m3 s0 s1 s2 s3))
theorem originClaims_holds:Rows.OriginClaimsSaid :=
 OpenClaim.holds_of_wide 7 Tryz.f7 rfl rfl rfl rfl rfl rfl rfl ⟨rfl,rfl,rfl,rfl,rfl⟩ rfl rfl rfl rfl rfl originClaims_named Tryz.func7 originClaims_closed
  (of_decide_eq_true (by kernel_rfl)) (by unfold Func.isWrapper;rw [if_neg (of_decide_eq_false (by kernel_rfl))];exact ⟨rfl,rfl⟩)
  (fun os started H enc _=>originClaims_lifted os started H enc)
theorem originClaims_card:Rows.OriginClaimsCardSaid :=
 Claim7.holds_tied_plain_at .later [] [.data,.data,.pinned] true (true, "d6724934cde0ef4b5d01703053d4c3277341bc42a1cf7659bfec0d43871970fd") true
  originClaims_holds (fun _ h=>by cases h) (by as_aux_lemma=>kernel_rfl) (fun _ h=>by cases h) originClaims_row_tie rfl ⟨rfl,rfl⟩ fp_main rfl
  (fun f fn hf hfn=>by
   obtain rfl:f=7:=Option.some.inj ((show Tryz.prog.funcNamed "customs/customslaw16.OriginClaims" = some 7 from originClaims_named).symm.trans hf) |>.symm
   obtain rfl:fn=Tryz.f7:=(Option.some.inj (Tryz.func7.symm.trans hfn)).symm
   exact ⟨fp_looks,fun j t ht=>by
    rw [Tryz.params7] at ht
    exact zC (by as_aux_lemma=>kernel_rfl) ht⟩)
  originClaims_goes
#print axioms originClaims_card
end Go.Proofs.YtgmbmepakpcpaaaGreatDoor
