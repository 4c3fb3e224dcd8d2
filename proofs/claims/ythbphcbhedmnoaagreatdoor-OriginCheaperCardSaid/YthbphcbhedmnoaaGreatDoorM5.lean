/- OriginCheaper: for every input the law returns true, and each argument reads afterwards as it read before. Conditions: the package variables are as the program's text lays them (the card ties them). -/
import Derived.Test.YthbphcbhedmnoaaGreatDoorM4
import Derived.Test.YthbphcbhedmnoaaGreatDoorL1q
set_option linter.unusedVariables false
set_option linter.unusedSimpArgs false
set_option maxHeartbeats 4000000
set_option maxRecDepth 100000
namespace Go.Proofs.YthbphcbhedmnoaaGreatDoor
namespace SX
open Go
structure VProd (l:List Zb) (p:Zb):Prop where
 price:1≤p.Price∧p.Price≤1000000000000
 lvl:6≤e9 p.Code
 ctr:rO p.Country=true
 proc:jK p.Processes=true
 few:p.Inputs.length≤8
 asc:p.Inputs.Pairwise fun a b=>a.Product<b.Product
 inp:∀ x∈p.Inputs,(cw l x.Product).isSome=true∧0≤x.Value∧x.Value≤1000000000000
 obt:p.Obtained=true→p.Inputs=[]
structure VPs (l:List Zb):Prop where
 len:l.length≤64
 asc:l.Pairwise fun a b=>a.ID<b.ID
 all:∀ p∈l,VProd l p
theorem i5 {l:List ByteArray} (h:jK l=true):l.length≤8∧(∀ s∈l,hZ s=true)∧Strict kQ l:=by
 unfold jK at h
 simp only [Bool.and_eq_true,decide_eq_true_eq] at h
 exact ⟨h.1,fun s hs=>List.all_eq_true.1 h.2.1 s hs,(jC _).1 h.2.2⟩
theorem VPs.sorted {l:List Zb} (h:VPs l):Sorted l:=⟨by have:=h.len;omega,h.asc,fun p hp=>by have h1:=(i5 (h.all p hp).proc).1;have h2:=(h.all p hp).few;omega⟩
def bF (l:List Zb) (id:Int):Zb:=(cw l id).getD zProd
theorem Ag {l:List Zb} {id:Int} {p:Zb} (h:cw l id=some p):p∈l∧p.ID=id:=⟨List.mem_of_find?_eq_some h,by have:=List.find?_some h;simpa using this⟩
theorem gN {l:List Zb} (h:VPs l) {id:Int} (hs:(cw l id).isSome=true):bF l id∈l∧VProd l (bF l id)∧(bF l id).ID=id:=by
 cases hf:cw l id with
 | none=>rw [hf] at hs;cases hs
 | some p =>
  have:=Ag hf
  unfold bF;rw [hf];exact ⟨this.1,h.all p this.1,this.2⟩
abbrev CSet:=Za→Bool
def cM (ps:List Int) (S:CSet) (q:Zb) (v:Int):Zl×Option Za:=match ps.find? (fun id=>S ⟨q.ID,id⟩) with
 | some id=>(⟨q.Code,v,true⟩,some ⟨q.ID,id⟩)
 | none=>(⟨q.Code,v,false⟩,none)
def dQ (v part price:Int):Int:=if yZ (v*part) price 1≤1000000000000 then yZ (v*part) price 1 else 1000000000000
def kH (a:Zc) (q:Zb):Bool:=a.Kind == 3&&nL a.Parties q.Country
def dJ (plan:List Zb) (a:Zc) (ps:List Int) (S:CSet) (x:Zf):List (Zl×Option Za) :=
 cond ((cM ps S (bF plan x.Product) x.Value).2.isSome || !kH a (bF plan x.Product)||(bF plan x.Product).Inputs.isEmpty) [cM ps S (bF plan x.Product) x.Value]
  ((bF plan x.Product).Inputs.map fun y=>cM ps S (bF plan y.Product) (dQ x.Value y.Value (bF plan x.Product).Price))
def cd (plan:List Zb) (a:Zc) (ps:List Int) (S:CSet) (p:Zb):List (Zl×Option Za):=p.Inputs.flatMap (dJ plan a ps S)
def jR (plan:List Zb) (a:Zc) (acc:List ByteArray) (x:Zf):List ByteArray:=cond (kH a (bF plan x.Product)) (og acc (bF plan x.Product).Processes) acc
def zCase:Zm:=⟨ByteArray.empty,0,false,[],[]⟩
def jb (l:List Zc) (id:Int):Zc:=(nu l id).getD zAgr
def iD (plan:List Zb) (l:List Zc) (imp:ByteArray) (c:Za) (S:CSet):Zm :=
 ⟨(bF plan c.Product).Code,(bF plan c.Product).Price,(bF plan c.Product).Obtained,((bF plan c.Product).Inputs.foldl (jR plan (jb l c.Agreement)) (bF plan c.Product).Processes).take 8,
  (cd plan (jb l c.Agreement) (dl l c.Agreement (bF plan c.Product).Country imp) S (bF plan c.Product)).map (·.1)⟩
def wA (plan:List Zb) (l:List Zc) (imp:ByteArray) (c:Za) (S:CSet):List Za :=
 sd fc ((cd plan (jb l c.Agreement) (dl l c.Agreement (bF plan c.Product).Country imp) S (bF plan c.Product)).filterMap (·.2))
def Cu (plan:List Zb) (l:List Zc) (imp:ByteArray) (c:Za) (S:CSet):Zm×List Za:=cond (mC plan l imp c) (iD plan l imp c S,wA plan l imp c S) (zCase,[])
theorem y7 {n c:Int} (hn:0≤n) (hc:1≤c):0≤yZ n c 1:=by
 unfold yZ
 have:=Int.ediv_nonneg hn (show (0:Int)≤c by omega)
 split <;> omega
theorem kI {v part price:Int} (h1:0≤v) (h2:0≤part) (h3:1≤price):0≤dQ v part price∧dQ v part price≤1000000000000:=by
 unfold dQ
 have:=y7 (Int.mul_nonneg h1 h2) h3
 split <;> omega
theorem uN {v part price:Int} (h1:0≤v∧v≤1000000000000) (h2:0≤part∧part≤1000000000000) (h3:1≤price∧price≤1000000000000):eY v part price=some (dQ v part price):=by
 unfold eY jY
 rw [gi (a:=v) ⟨by omega,by omega⟩,gi (a:=part) ⟨by omega,by omega⟩,gi (a:=price) ⟨by omega,by omega⟩]
 obtain ⟨w,e1,e2,e3⟩:=tC (a:=v) (b:=part) ⟨by omega,by omega⟩ ⟨by omega,by omega⟩
 rw [e1,bQ,Af e2 ⟨by omega,by omega⟩ h3.1 (.inr (.inl rfl)),e3]
 unfold dQ
 have hp:=y7 (Int.mul_nonneg h1.1 h2.1) h3.1
 generalize yZ (v*part) price 1=r at hp
 by_cases hr:r<18446744073709551616
 ·rw [if_pos hr]
  by_cases hm:r≤1000000000000
  ·rw [if_pos hm]
   simp only [bQ,bne_self_eq_false,Bool.false_or]
   rw [cC (by omega),cA,cU (by omega) (by omega)]
  rw [if_neg hm]
  simp only [bQ,bne_self_eq_false,Bool.false_or]
  rw [det (by omega)];rfl
 rw [if_neg hr,if_neg (by omega)];rfl
def wR:Zl×Option Za→Zd
 | (i,some c)=>.proved_ ⟨i,c⟩
 | (i,none)=>.plain_ ⟨i⟩
theorem Ah {K V:Type} [DecidableEq K] (m:List (K×V)) (k c:K) (v:V):kn (nI m k v) c=if k=c then some v else kn m c:=by
 induction m with
 | nil=>simp only [nI,kn]
 | cons p m ih =>
  obtain ⟨a,w⟩:=p
  simp only [nI]
  by_cases h:a=k
  ·subst h
   simp only [if_true,kn]
   split <;> rfl
  rw [if_neg h]
  simp only [kn,ih]
  by_cases h2:a=c
  ·subst h2;simp [show ¬ k=a from fun e=>h e.symm]
  simp [h2]
theorem Cv (set:List Za) (c:Za):(kn (set.foldl (fun m x=>nI m x true) []) c).getD false=cj set c:=by
 have key:∀ (l:List Za) (m:List (Za×Bool)),(kn (l.foldl (fun m x=>nI m x true) m) c).getD false=(cj l c||(kn m c).getD false):=by
  intro l
  induction l with
  | nil=>intro m;rfl
  | cons x l ih =>
   intro m
   rw [List.foldl_cons,ih,Ah]
   show _=((decide (x=c)||cj l c)||_)
   by_cases h:x=c
   ·rw [if_pos h,det h];cases cj l c <;> rfl
   rw [if_neg h,cC h,Bool.false_or]
 rw [key];show (cj set c||false)=_;rw [Bool.or_false]
theorem tD (ps:List Int) (m:List (Za×Bool)) (S:CSet) (hm:∀ c,(kn m c).getD false=S c) (hps:ps.length≤140737488355328) (q:Zb) (v:Int):ce ⟨ps,m⟩ q v=some (wR (cM ps S q v)):=by
 unfold ce cM
 refine (cR (l:=ps) (by omega) (fun _ id=>cond (S ⟨q.ID,id⟩) (some (.inr (Zd.proved_ ⟨⟨q.Code,v,true⟩,⟨q.ID,id⟩⟩))) none) (.inl ()) (fun k hk=>?_) (by simp only [fY,cA])).trans ?_
 ·simp only [ml hk,cK,bp hk,bQ,dr hk (show ps.length≤4611686018427387904 by omega),hm]
  cases S ⟨q.ID,ps[k]⟩ <;> rfl
 rw [nS (fun id:Int=>S ⟨q.ID,id⟩) (fun id=>(Sum.inr (Zd.proved_ ⟨⟨q.Code,v,true⟩,⟨q.ID,id⟩⟩):Unit⊕Zd))]
 cases ps.find? (fun id:Int=>S ⟨q.ID,id⟩) <;> rfl
theorem pV {plan:List Zb} (hv:VPs plan) (a:Zc) (ps:List Int) (S:CSet) (x:Zf) (hx:(cw plan x.Product).isSome=true):(dJ plan a ps S x).length≤8:=by
 unfold dJ
 generalize ((cM ps S (bF plan x.Product) x.Value).2.isSome || !kH a (bF plan x.Product)||(bF plan x.Product).Inputs.isEmpty)=b
 cases b
 ·rw [cA,List.length_map];exact (gN hv hx).2.1.few
 simp
theorem wlen {w:List ByteArray} (h:jK w=true):w.length≤8:=(i5 h).1
theorem xW (a b:List ByteArray):(og a b).length≤a.length+b.length:=by unfold og;have:=Cp (lt:=kQ) (a++b);rwa [List.length_append] at this
theorem Ai {plan:List Zb} (hv:VPs plan) (a:Zc) (acc:List ByteArray) (x:Zf) (hx:(cw plan x.Product).isSome=true):(jR plan a acc x).length≤acc.length+8:=by
 unfold jR
 cases kH a (bF plan x.Product)
 ·rw [cA];omega
 rw [cK]
 have h1:=xW acc (bF plan x.Product).Processes
 have h2:=wlen (gN hv hx).2.1.proc
 omega
theorem rY {plan:List Zb} (hv:VPs plan) (id:Int):cI plan id=some (bF plan id,(cw plan id).isSome):=by
 rw [rV _ _ hv.sorted];unfold bF;cases cw plan id <;> rfl
theorem uO (t:Zl×Option Za):(wR t).is_proved_=t.2.isSome:=by obtain ⟨i,c⟩:=t;cases c <;> rfl
theorem Aj {plan:List Zb} (hv:VPs plan) (a:Zc) (ha:a.Parties.length≤140737488355328) {p:Zb} (hp:VProd plan p) (ps:List Int) (hps:ps.length≤140737488355328) (m:List (Za×Bool)) (S:CSet) (hm:∀ c,(kn m c).getD false=S c) :
    eC plan a p ⟨ps,m⟩=some ((cd plan a ps S p).map wR,(p.Inputs.foldl (jR plan a) p.Processes).take 8):=by
  unfold eC bJ
  have hpr:=wlen hp.proc
  have hfew:=hp.few
  rw [mB (by omega) (by omega),bQ]
  refine (ez (l:=p.Inputs) (by omega) (fun i (s:List Zd×List ByteArray)=>(s.1,s.2,i)) (fun s x=>(s.1++(dJ plan a ps S x).map wR,jR plan a s.2 x)) (fun s=>s) (fun k s=>s.1.length≤8*k∧s.2.length≤8+8*k) ([],p.Processes) ⟨by simp,by simpa using hpr⟩ (fun k hk s hs=>?_) (fun s _=>by simp only [fY,cA])).1.trans ?_
  · obtain ⟨l9,l12⟩:=s
    obtain ⟨h1,h2⟩:=hs
    dsimp only at h1 h2 ⊢
    obtain ⟨hin,hv0,hv1⟩:=hp.inp _ (List.getElem_mem hk)
    obtain ⟨hq1,hq2,hq3⟩:=gN hv hin
    have hql:=hq2.few
    refine ⟨?_,by have:=pV hv a ps S p.Inputs[k] hin;simp;omega,by have:=Ai hv a l12 p.Inputs[k] hin;omega⟩
    simp only [ml hk,cK,bp hk,bQ,dr hk (show p.Inputs.length≤4611686018427387904 by omega),rY hv]
    generalize hx:p.Inputs[k]=x at *
    rw [oJ _ _ ha,tD ps m S hm hps]
    unfold dJ jR kH
    have e1:Option.bind (gd (a.Kind == 3) (some (nL a.Parties (bF plan x.Product).Country))) (fun x33=>some ((a.Kind == 3)&&x33))=some ((a.Kind == 3)&&nL a.Parties (bF plan x.Product).Country):=by cases (a.Kind == 3) <;> rfl
    have e2:∀ {β:Type} (K:Bool→Option β),(∀ b c,((a.Kind == 3)&&b)=((a.Kind == 3)&&c)→K b=K c)→Option.bind (gd (a.Kind == 3) (some (nL a.Parties (bF plan x.Product).Country))) K=K (nL a.Parties (bF plan x.Product).Country):=by
      intro β K hK
      cases hk3:(a.Kind == 3)
      · show K default=_;exact hK _ _ (by rw [hk3];rfl)
      rfl
    rw [e2 _ (fun b c hbc=>by simp only [hbc])]
    generalize hF:((a.Kind == 3)&&nL a.Parties (bF plan x.Product).Country)=F
    have e3:(cond F (Option.bind (iC l12 (bF plan x.Product).Processes) (fun x38=>some x38)) (some l12))=some (cond F (og l12 (bF plan x.Product).Processes) l12):=by
      cases F
      · rfl
      rw [cK,xQ _ _ (by have:=wlen hq2.proc;omega)];rfl
    simp only [e3,bQ,uO,len0]
    cases hc:((cM ps S (bF plan x.Product) x.Value).2.isSome || !F||(bF plan x.Product).Inputs.isEmpty)
    · simp only [cA]
      refine (congrArg (fun o=>Option.bind o _) (ez (l:=(bF plan x.Product).Inputs) (by omega) (fun i (s:List Zd)=>(s,i)) (fun s y=>s++[wR (cM ps S (bF plan y.Product) (dQ x.Value y.Value (bF plan x.Product).Price))]) (fun s=>s) (fun j s=>s.length≤8*k+j) l9 h1 (fun j hj s hs=>⟨?_,by simp;omega⟩) (fun s _=>by simp only [fY,cA])).1).trans ?_
      rotate_left
      · simp only [bQ]
        have hfl:∀ (ys:List Zf) (acc:List Zd),ys.foldl (fun s y=>s++[wR (cM ps S (bF plan y.Product) (dQ x.Value y.Value (bF plan x.Product).Price))]) acc=acc++(ys.map fun y=>cM ps S (bF plan y.Product) (dQ x.Value y.Value (bF plan x.Product).Price)).map wR:=by
          intro ys
          induction ys with
          | nil=>intro acc;simp
          | cons y ys ih=>intro acc;rw [List.foldl_cons,ih];simp
        rw [hfl]
      obtain ⟨hy1,hy2,hy3⟩:=hq2.inp _ (List.getElem_mem hj)
      simp only [ml hj,cK,bp hj,bQ,dr hj (show (bF plan x.Product).Inputs.length≤4611686018427387904 by omega),rY hv]
      rw [uN ⟨hv0,hv1⟩ ⟨hy2,hy3⟩ hq2.price,bQ,tD ps m S hm hps,bQ,eM (by simp;omega) (by simp;omega)];rfl
    simp only [cK]
    rw [eM (by simp;omega) (by simp;omega)];rfl
  dsimp only
  have hfold:∀ (xs:List Zf) (s:List Zd×List ByteArray),xs.foldl (fun s x=>(s.1++(dJ plan a ps S x).map wR,jR plan a s.2 x)) s=(s.1++(xs.flatMap (dJ plan a ps S)).map wR,xs.foldl (jR plan a) s.2):=by
    intro xs
    induction xs with
    | nil=>intro s;simp
    | cons x xs ih=>intro s;rw [List.foldl_cons,ih,List.flatMap_cons];simp
  rw [hfold]
  dsimp only
  rw [sub_pre _ _ (by omega),bQ];rfl
theorem tE {p:List Zb} {l:List Zc} {i:ByteArray} {c:Za} (h:mC p l i c=true):∃ q a r,cw p c.Product=some q∧nu l c.Agreement=some a∧gw a q.Code=some r∧q.Country≠i∧xN a q.Country i=true:=by
 unfold mC at h
 split at h
 ·rename_i q a e1 e2
  simp only [Bool.and_eq_true,Bool.not_eq_true',decide_eq_false_iff_not] at h
  obtain ⟨⟨h1,h2⟩,h3⟩:=h
  obtain ⟨r,hr⟩:=Option.isSome_iff_exists.1 h3
  exact ⟨q,a,r,e1,e2,hr,h1,h2⟩
 cases h
theorem mD {plan:List Zb} (hv:VPs plan) (a:Zc) (ps:List Int) (S:CSet) {p:Zb} (hp:VProd plan p):(cd plan a ps S p).length≤64:=by
 unfold cd
 have key:∀ xs:List Zf,(∀ x∈xs,(cw plan x.Product).isSome=true)→(xs.flatMap (dJ plan a ps S)).length≤8*xs.length:=by
  intro xs
  induction xs with
  | nil=>intro _;simp
  | cons x xs ih =>
   intro h
   rw [List.flatMap_cons,List.length_append,List.length_cons]
   have h1:=pV hv a ps S x (h x (by simp));have h2:=ih fun y hy=>h y (by simp [hy]);omega
 have h1:=key p.Inputs fun x hx=>(hp.inp x hx).1
 have h2:=hp.few
 omega
theorem Ak {plan:List Zb} {l:List Zc} (hv:VPs plan) (hl:VAs l) (imp:ByteArray) (c:Za) (set:List Za) (hs:set.length≤140737488355328):iY plan l imp c set=some (Cu plan l imp c (cj set)):=by
 unfold iY Cu
 have hlen:=hl.len
 rw [wy _ _ _ _ hv.sorted hl,bQ]
 cases had:mC plan l imp c
 ·rfl
 obtain ⟨q,a,r,e1,e2,_,_,_⟩:=tE had
 have hq:VProd plan (bF plan c.Product):=(gN hv (by rw [e1];rfl)).2.1
 have ha:jb l c.Agreement=a:=by unfold jb;rw [e2];rfl
 have hva:=(rW hl e2).1
 simp only [Bool.not_true,cA,cK]
 rw [rY hv,bQ,oe _ _ (by omega),e2,bQ,sD _ _ _ _ hl,bQ]
 have hpl:=uH l c.Agreement (bF plan c.Product).Country imp
 unfold iD wA
 rw [ha]
 generalize hps:dl l c.Agreement (bF plan c.Product).Country imp=ps at *
 refine (ez (l:=set) (by omega) (fun i (m:List (Za×Bool))=>(i,m)) (fun m x=>nI m x true) (fun m=>m) (fun _ _=>True) [] trivial (fun k hk m _=>⟨?_,trivial⟩) (fun m _=>by simp only [fY,cA])).1.trans ?_
 ·simp only [ml hk,cK,bp hk,bQ,dr hk (show set.length≤4611686018427387904 by omega)]
 rw [Aj hv (mN zAgr (some a)).1 hva.ok.par.1 hq ps (by omega) _ (cj set) (fun c=>Cv set c),bQ]
 dsimp +instances only [mN]
 have hsl:=mD hv a ps (cj set) hq
 refine (ez (l:=(cd plan a ps (cj set) (bF plan c.Product)).map wR) (by rw [List.length_map];omega) (fun i (s:List Za×List Zl)=>(s.1,i,s.2)) (fun s x=>(cond x.is_proved_ (s.1++[x.as_proved_.premise]) s.1,s.2++[match x with | .plain_ y=>y.use | .proved_ y=>y.use])) (fun s=>s) (fun k s=>s.1.length≤k∧s.2.length≤k) ([],[]) ⟨by simp,by simp⟩ (fun k hk s hs=>⟨?_,?_⟩) (fun s _=>by simp only [fY,cA])).1.trans ?_
 ·have hk2:k<64:=by rw [List.length_map] at hk;omega
  have ei:∀ x:Zd,Icumulation_supply_input x=some (match x with | .plain_ y=>y.use | .proved_ y=>y.use):=fun x=>by cases x <;> rfl
  simp only [ml hk,cK,bp hk,bQ,dr hk (show ((cd plan a ps (cj set) (bF plan c.Product)).map wR).length≤4611686018427387904 by rw [List.length_map];omega),ei]
  rw [eM (by simp;omega) (by simp;omega),bQ,eM (by simp;omega) (by simp;omega)]
  cases ((cd plan a ps (cj set) (bF plan c.Product)).map wR)[k].is_proved_ <;> rfl
 ·obtain ⟨h1,h2⟩:=hs
  cases ((cd plan a ps (cj set) (bF plan c.Product)).map wR)[k].is_proved_ <;> simp <;> omega
 have key:∀ (xs:List (Zl×Option Za)) (s:List Za×List Zl),(xs.map wR).foldl (fun s x=>(cond x.is_proved_ (s.1++[x.as_proved_.premise]) s.1,s.2++[match x with | .plain_ y=>y.use | .proved_ y=>y.use])) s=(s.1++xs.filterMap (·.2),s.2++xs.map (·.1)):=by
  intro xs
  induction xs with
  | nil=>intro s;simp
  | cons x xs ih =>
   intro s
   obtain ⟨i,o⟩:=x
   rw [List.map_cons,List.foldl_cons,ih]
   cases o with
   | none=>simp [wR,Zd.is_proved_]
   | some c=>simp [wR,Zd.is_proved_,Zd.as_proved_]
 rw [key]
 simp only [List.nil_append]
 show Option.bind (some (jv fc _)) _=_
 rw [bQ,Cr _ (by rw [lM];have:=List.length_filterMap_le (fun x:Zl×Option Za=>x.2) (cd plan a ps (cj set) (bF plan c.Product));omega)];rfl
theorem C6_ctry {s:ByteArray} (h:s∈C6):rO s=true:=List.all_eq_true.1 C6_ok.1 s h
theorem W5_words {l:List ByteArray} (h:l.Sublist W5):jK l=true:=by
 unfold jK
 have h1:=h.length_le
 have h5:W5.length=5:=rfl
 simp only [Bool.and_eq_true,decide_eq_true_eq]
 exact ⟨by omega,List.all_eq_true.2 fun s hs=>List.all_eq_true.1 W5_ok.1 s (h.subset hs),(jC _).2 (List.Pairwise.sublist h ((jC _).1 W5_ok.2.1))⟩
theorem MPs.found {l:List Zb} (h:MPs l) {k:Nat} (hk:k<l.length):(cw l (3*((k:Int)+1))).isSome=true:=by
 unfold cw
 rw [List.find?_isSome]
 exact ⟨l[k],List.getElem_mem hk,by have:=(h.all k _ (List.getElem?_eq_getElem hk)).id;simpa using this⟩
theorem MPs.vps {l:List Zb} (h:MPs l):VPs l:=by
 refine ⟨by have:=h.len;omega,h.sorted.asc,fun p hp=>?_⟩
 obtain ⟨i,hi,rfl⟩:=List.getElem_of_mem hp
 have hm:=h.all i _ (List.getElem?_eq_getElem hi)
 refine ⟨by have:=hm.price;omega,by have:=hm.lvl.1;omega,C6_ctry hm.ctr,W5_words hm.proc,by have:=hm.few;omega,hm.asc,fun x hx=>?_,hm.obt⟩
 obtain ⟨⟨k,hk,e⟩,h1,h2⟩:=hm.inp x hx
 exact ⟨by rw [e];exact h.found hk,h1,by omega⟩
theorem wB (ps:List Int) (S:CSet) (q:Zb) (v:Int):(cM ps S q v).1.Code=q.Code∧(cM ps S q v).1.Value=v∧(cM ps S q v).1.Originating=(cM ps S q v).2.isSome:=by
 unfold cM;split <;> exact ⟨rfl,rfl,rfl⟩
theorem xX {plan:List Zb} (hv:VPs plan) (a:Zc) (ps:List Int) (S:CSet) {p:Zb} (hp:VProd plan p) (P:Zl×Option Za→Prop) (h:∀ q∈plan,∀ v,0≤v→v≤1000000000000→P (cM ps S q v)):∀ t∈cd plan a ps S p,P t:=by
 intro t ht
 unfold cd at ht
 obtain ⟨x,hx,ht⟩:=List.mem_flatMap.1 ht
 obtain ⟨h1,h2,h3⟩:=hp.inp x hx
 obtain ⟨hq1,hq2,_⟩:=gN hv h1
 unfold dJ at ht
 cases hc:((cM ps S (bF plan x.Product) x.Value).2.isSome || !kH a (bF plan x.Product)||(bF plan x.Product).Inputs.isEmpty)
 ·rw [hc,cA] at ht
  obtain ⟨y,hy,rfl⟩:=List.mem_map.1 ht
  obtain ⟨g1,g2,g3⟩:=hq2.inp y hy
  have hr:=kI h2 g2 hq2.price.1
  exact h _ (gN hv g1).1 _ hr.1 hr.2
 rw [hc,cK] at ht
 rw [List.mem_singleton.1 ht]
 exact h _ hq1 _ h2 h3
theorem wC {a b:List ByteArray} (ha:∀ s∈a,hZ s=true) (hb:∀ s∈b,hZ s=true):(∀ s∈og a b,hZ s=true)∧Strict kQ (og a b):=by
 refine ⟨fun s hs=>?_,Ac ordS _⟩
 have:=(sd_mem (lt:=kQ) (a++b) s).1 hs
 rcases List.mem_append.1 this with h | h
 ·exact ha s h
 exact hb s h
theorem rZ {plan:List Zb} (hv:VPs plan) (a:Zc):∀ (xs:List Zf) (acc:List ByteArray),(∀ x∈xs,(cw plan x.Product).isSome=true)→(∀ s∈acc,hZ s=true)→Strict kQ acc→(∀ s∈xs.foldl (jR plan a) acc,hZ s=true)∧Strict kQ (xs.foldl (jR plan a) acc)
 | [],acc,_,h1,h2=>⟨h1,h2⟩
 | x::xs,acc,h,h1,h2=>by
  have hx:=gN hv (h x (by simp))
  rw [List.foldl_cons]
  have:(∀ s∈jR plan a acc x,hZ s=true)∧Strict kQ (jR plan a acc x):=by
   unfold jR
   cases kH a (bF plan x.Product)
   ·exact ⟨h1,h2⟩
   exact wC h1 (i5 hx.2.1.proc).2.1
  exact rZ hv a xs _ (fun y hy=>h y (by simp [hy])) this.1 this.2
theorem r4 {s:ByteArray} (h:hZ s=true):s.size≤12:=by
 unfold hZ at h;simp only [Bool.and_eq_true,decide_eq_true_eq] at h;omega
theorem xY {l:List ByteArray} (h1:∀ s∈l,hZ s=true) (h2:Strict kQ l):jK (l.take 8)=true∧StrsOk (l.take 8):=by
 refine ⟨?_,by rw [List.length_take];omega,fun s hs=>by have:=r4 (h1 s (List.mem_of_mem_take hs));omega⟩
 unfold jK
 simp only [Bool.and_eq_true,decide_eq_true_eq]
 exact ⟨by rw [List.length_take];omega,List.all_eq_true.2 fun s hs=>h1 s (List.mem_of_mem_take hs),(jC _).2 (List.Pairwise.sublist (List.take_sublist _ _) h2)⟩
structure VCase (x:Zm):Prop where
 lvl:6≤e9 x.Code
 price:1≤x.Price∧x.Price≤1000000000000
 proc:jK x.Processes=true∧StrsOk x.Processes
 few:x.Inputs.length≤100
 inp:∀ y∈x.Inputs,6≤e9 y.Code∧0≤y.Value∧y.Value≤1000000000000
theorem r5 {plan:List Zb} {l:List Zc} (hv:VPs plan) (imp:ByteArray) (c:Za) (S:CSet) (h:(cw plan c.Product).isSome=true):VCase (iD plan l imp c S):=by
 obtain ⟨hq1,hq,_⟩:=gN hv h
 obtain ⟨w1,w2,w3⟩:=i5 hq.proc
 have hw:=rZ hv (jb l c.Agreement) (bF plan c.Product).Inputs _ (fun x hx=>(hq.inp x hx).1) w2 w3
 refine ⟨hq.lvl,hq.price,xY hw.1 hw.2,?_,?_⟩
 ·unfold iD;dsimp only;rw [List.length_map];have:=mD hv (jb l c.Agreement) (dl l c.Agreement (bF plan c.Product).Country imp) S hq;omega
 unfold iD;dsimp only
 intro y hy
 obtain ⟨t,ht,rfl⟩:=List.mem_map.1 hy
 refine xX hv _ _ S hq (fun t=>6≤e9 t.1.Code∧0≤t.1.Value∧t.1.Value≤1000000000000) (fun q hqp v h1 h2=>?_) t ht
 obtain ⟨g1,g2,_⟩:=wB (dl l c.Agreement (bF plan c.Product).Country imp) S q v
 rw [g1,g2];exact ⟨(hv.all q hqp).lvl,h1,h2⟩
theorem r6 {x:Zm} (h:VCase x):fB x=some 0:=by
 unfold fB gI
 have hl:=h.few
 show Option.bind (some (decide (6≤e9 x.Code))) _=_
 rw [det h.lvl,bQ]
 simp only [Bool.not_true,cA]
 rw [cC (by have:=h.price;omega),cC (by have:=h.price;omega),Bool.or_self,cA,n9 _ h.proc.2,h.proc.1,bQ]
 simp only [Bool.not_true,cA]
 rw [cC (by omega),cA]
 refine (cR (l:=x.Inputs) (by omega) (fun _ _=>none) (.inl ()) (fun k hk=>?_) (by simp only [fY,cA])).trans ?_
 ·have hy:=h.inp _ (List.getElem_mem hk)
  simp only [ml hk,cK,bp hk,bQ,dr hk (show x.Inputs.length≤4611686018427387904 by omega)]
  show Option.bind (Option.bind (some (e9 x.Inputs[k].Code)) _) _=_
  rw [bQ,det hy.1,bQ,cC (by omega),cC (by omega)];rfl
 have:∀ (m:List Zl) (i:Nat),co (fun (_:Nat) (_:Zl)=>(none:Option (Unit⊕Int))) m i=none:=by
  intro m
  induction m with
  | nil=>intro i;rfl
  | cons x m ih=>intro i;exact ih _
 rw [this];rfl
theorem Cw {plan:List Zb} {l:List Zc} (hv:VPs plan) (imp:ByteArray) (c:Za) (S:CSet) (h:(cw plan c.Product).isSome=true):(wA plan l imp c S).length≤64:=by
 obtain ⟨hq1,hq,_⟩:=gN hv h
 unfold wA
 have h1:=Cp (lt:=fc) ((cd plan (jb l c.Agreement) (dl l c.Agreement (bF plan c.Product).Country imp) S (bF plan c.Product)).filterMap (·.2))
 have h2:=List.length_filterMap_le (fun x:Zl×Option Za=>x.2) (cd plan (jb l c.Agreement) (dl l c.Agreement (bF plan c.Product).Country imp) S (bF plan c.Product))
 have h3:=mD hv (jb l c.Agreement) (dl l c.Agreement (bF plan c.Product).Country imp) S hq
 omega
theorem Al {p:List Zb} {l:List Zc} {i:ByteArray} {c:Za} (h:mC p l i c=true):(cw p c.Product).isSome=true:=by
 obtain ⟨q,a,r,e,_⟩:=tE h;rw [e];rfl
def xw (n:Int):Zn:=⟨n / 18446744073709551616,n % 18446744073709551616⟩
def U128 (n:Int):Prop:=0≤n∧n<340282366920938463463374607431768211456
theorem xw_of {w:Zn} (h:XW w):w=xw (xv w)∧U128 (xv w):=by
 obtain ⟨a,b⟩:=w
 unfold XW U64 at h;unfold xw xv U128;dsimp only at *
 refine ⟨?_,by omega⟩
 congr 1 <;> omega
theorem xmul {a b:Int} (ha:U64 a) (hb:U64 b):iz a b=some (xw (a*b))∧U128 (a*b):=by
 obtain ⟨w,e1,e2,e3⟩:=tC ha hb
 have:=xw_of e2
 rw [e3] at this
 rw [e1];exact ⟨congrArg some this.1,this.2⟩
theorem xcmp {a b:Int} (ha:U128 a) (hb:U128 b):fw (xw a) (xw b)=some (if a<b then -1 else if a=b then 0 else 1):=by
 unfold U128 at *
 unfold fw xw Zn.eqb
 dsimp only
 by_cases h:a<b
 ·have:((decide (a / 18446744073709551616<b / 18446744073709551616))||((a / 18446744073709551616 == b / 18446744073709551616)&&(decide (a % 18446744073709551616<b % 18446744073709551616))))=true:=by
   simp only [Bool.or_eq_true,Bool.and_eq_true,decide_eq_true_eq,beq_iff_eq];omega
  rw [this,if_pos h];rfl
 ·have:((decide (a / 18446744073709551616<b / 18446744073709551616))||((a / 18446744073709551616 == b / 18446744073709551616)&&(decide (a % 18446744073709551616<b % 18446744073709551616))))=false:=by
   simp only [Bool.or_eq_false_iff,Bool.and_eq_false_iff,decide_eq_false_iff_not,beq_eq_false_iff_ne];omega
  rw [this,if_neg h]
  simp only [cA]
  by_cases h2:a=b
  ·subst h2;simp
  rw [if_neg h2]
  have:((a / 18446744073709551616 == b / 18446744073709551616)&&(a % 18446744073709551616 == b % 18446744073709551616))=false:=by
   simp only [Bool.and_eq_false_iff,beq_eq_false_iff_ne];omega
  simp [this]
theorem pW {v s p:Int} (hv:0≤v∧v≤100000000000000) (hs:0≤s∧s≤1000000) (hp:0≤p∧p≤1000000000000):iA v s p=some (decide (v*1000000≤s*p)):=by
 unfold iA
 rw [gi (a:=v) ⟨by omega,by omega⟩,gi (a:=s) ⟨by omega,by omega⟩,gi (a:=p) ⟨by omega,by omega⟩]
 obtain ⟨e1,u1⟩:=xmul (a:=v) (b:=1000000) ⟨by omega,by omega⟩ ⟨by omega,by omega⟩
 obtain ⟨e2,u2⟩:=xmul (a:=s) (b:=p) ⟨by omega,by omega⟩ ⟨by omega,by omega⟩
 rw [e1,bQ,e2,bQ,xcmp u1 u2,bQ]
 congr 1
 by_cases h:v*1000000<s*p
 ·rw [if_pos h,det (by omega),det (by omega)]
 rw [if_neg h]
 by_cases h2:v*1000000=s*p
 ·rw [if_pos h2,det (by omega),det (by omega)]
 rw [if_neg h2,cC (by omega),cC (by omega)]
def pX (r:Ze) (code inp:ByteArray):Bool:=jD inp (code.extract 0 r.Digits.toNat)||r.Except.any fun x=>jD inp x
theorem Cx (l:List ByteArray) (s:ByteArray) (hl:l.length≤140737488355328):bT l (fun y=>fj y s)=some (l.any fun x=>jD s x):=by
 unfold bT
 have e:cb l (fun y=>fj y s)=some (match co (fun k x=>cond (jD s x) (some (Sum.inr (k:Int):Unit⊕Int)) none) l 0 with | some (.inr k)=>k | _ => -1):=by
  unfold cb
  refine (cR (l:=l) (by omega) (fun k x=>cond (jD s x) (some (.inr (k:Int))) none) (.inl ()) (fun k hk=>?_) (by simp only [fY,cA])).trans ?_
  ·simp only [ml hk,cK,bp hk,bQ,dr hk (show l.length≤4611686018427387904 by omega)]
   unfold fj
   rw [pa,bQ,bQ];cases jD s l[k] <;> rfl
  cases co (fun k x=>cond (jD s x) (some (Sum.inr (k:Int):Unit⊕Int)) none) l 0 with
  | none=>rfl
  | some t=>cases t <;> rfl
 rw [e,bQ]
 rcases lS (fun x=>jD s x) (fun k=>(Sum.inr (k:Int):Unit⊕Int)) l 0 with ⟨h1,h2⟩ | ⟨j,hj,h1,h2⟩
 ·rw [h1]
  have:(l.any fun x=>jD s x)=false:=by rw [List.any_eq_false];exact fun x hx=>by have:=List.find?_eq_none.1 h2 x hx;simpa using this
  rw [this];rfl
 rw [h1]
 have:(l.any fun x=>jD s x)=true:=by
  rw [List.any_eq_true];exact ⟨_,List.getElem_mem hj,List.find?_some h2⟩
 rw [this]
 show some (decide (0≤((0+j:Nat):Int)))=_
 rw [det (by omega)]
theorem xZ {s:ByteArray} (h:6≤e9 s):6≤s.size:=by
 unfold e9 at h
 split at h
 ·omega
 omega
theorem sE {r:Ze} {code:ByteArray} (hd:r.Digits=2∨r.Digits=4∨r.Digits=6) (he:r.Except.length≤6) (hc:6≤e9 code) (inp:ByteArray):gn r code inp=some (pX r code inp):=by
 unfold gn pX
 have hs:=xZ hc
 have e:kl code 0 r.Digits=some (code.extract 0 r.Digits.toNat):=by
  unfold kl;rw [if_pos (by omega)];rfl
 rw [e,bQ,pa,bQ]
 cases jD inp (code.extract 0 r.Digits.toNat)
 ·simp only [cA,Bool.false_or];rw [Cx _ _ (by omega),bQ]
 rfl
def wS (f:Zl→Int):List Zl→Int
 | []=>0
 | i::l=>cond i.Originating 0 (f i)+wS f l
def fV (i:Zl):Int:=i.Value
def fW (r:Ze) (code:ByteArray) (i:Zl):Int:=cond (pX r code i.Code) i.Value 0
def fN (_:Zl):Int:=1
def iE (r:Ze) (x:Zm):Bool :=
 cond (r.Kind == 1) (x.Obtained&&(wS fN x.Inputs == 0)) (cond (r.Kind == 2) (decide (wS (fW r x.Code) x.Inputs*1000000≤r.Tolerance*x.Price)) (cond (r.Kind == 3) (decide (wS fV x.Inputs*1000000≤r.Limit*x.Price)) (cond (r.Kind == 4) (nL x.Processes r.Name) false)))
theorem r7 (f:Zl→Int):∀ l m:List Zl,wS f (l++m)=wS f l+wS f m
 | [],m=>by simp [wS]
 | i::l,m=>by rw [List.cons_append,wS,wS,r7 f l m];omega
theorem r8 {f:Zl→Int} {b:Int} (hb:0≤b):∀ {l:List Zl},(∀ i∈l,0≤f i∧f i≤b)→0≤wS f l∧wS f l≤l.length*b
 | [],_=>by simp [wS]
 | i::l,h=>by
  have h1:=r8 hb (l:=l) fun j hj=>h j (by simp [hj])
  have h2:=h i (by simp)
  rw [wS,List.length_cons]
  have e:((l.length+1:Nat):Int)*b=l.length*b+b:=by rw [Int.natCast_add,Int.add_mul];simp
  rw [e]
  cases i.Originating
  ·simp only [cA];omega
  simp only [cK];omega
theorem prog_holds {r:Ze} {x:Zm} (hx:VCase x) (hr:eQ r=true):rule_holds r x=some (iE r x):=by
 unfold rule_holds
 have hfew:=hx.few
 have hrl:=nF hr
 have hvi:r.Kind=2→∀ i,gn r x.Code i=some (pX r x.Code i):=by
  intro hk i
  have hl:=hr
  rw [i4,hk] at hl
  simp only [lP,hk,Bool.and_eq_true] at hl
  have h3:=hl.2
  simp at h3
  exact sE (by omega) hrl.2.2 hx.lvl i
 refine (ez (l:=x.Inputs) (by omega) (fun i (s:Int×Int×Int)=>(s.1,s.2.1,s.2.2,i)) (fun s i=>(s.1+cond i.Originating 0 (fV i),s.2.1+cond i.Originating 0 (cond (r.Kind == 2) (fW r x.Code i) 0),s.2.2+cond i.Originating 0 (fN i))) (fun s=>s) (fun k s=>(0≤s.1∧s.1≤k*1000000000000)∧(0≤s.2.1∧s.2.1≤k*1000000000000)∧(0≤s.2.2∧s.2.2≤k)) (0,0,0) ⟨by simp,by simp,by simp⟩ (fun k hk s hs=>?_) (fun s _=>by simp only [fY,cA])).1.trans ?_
 ·obtain ⟨a,b,c⟩:=s
  obtain ⟨s1,s2,s3⟩:=hs
  dsimp only at s1 s2 s3 ⊢
  have hi:=hx.inp _ (List.getElem_mem hk)
  have hk100:k<100:=by omega
  simp only [ml hk,cK,bp hk,bQ,dr hk (show x.Inputs.length≤4611686018427387904 by omega)]
  generalize x.Inputs[k]=i at hi
  unfold fV fN fW
  cases i.Originating
  ·simp only [cA]
   cases hk2:(r.Kind == 2)
   ·simp only [pC,bQ,Bool.false_and,cA]
    rw [cU (r:=a+i.Value) (by omega) (by omega),cU (r:=c+1) (by omega) (by omega)]
    refine ⟨by simp,⟨by omega,by omega⟩,⟨by omega,by omega⟩,by omega,by omega⟩
   rw [gt,hvi (eq_of_beq hk2),bQ]
   cases pX r x.Code i.Code
   ·simp only [Bool.and_false,cA,bQ,cK]
    rw [cU (r:=a+i.Value) (by omega) (by omega),cU (r:=c+1) (by omega) (by omega)]
    refine ⟨by simp,⟨by omega,by omega⟩,⟨by omega,by omega⟩,by omega,by omega⟩
   simp only [Bool.and_self,cK,bQ]
   rw [cU (r:=a+i.Value) (by omega) (by omega),cU (r:=c+1) (by omega) (by omega),cU (r:=b+i.Value) (by omega) (by omega)]
   refine ⟨rfl,⟨by omega,by omega⟩,⟨by omega,by omega⟩,by omega,by omega⟩
  simp only [cK,bQ,Int.add_zero]
  refine ⟨trivial,⟨by omega,by omega⟩,⟨by omega,by omega⟩,by omega,by omega⟩
 have key:∀ (l:List Zl) (a b c:Int),l.foldl (fun (s:Int×Int×Int) i=>(s.1+cond i.Originating 0 (fV i),s.2.1+cond i.Originating 0 (cond (r.Kind == 2) (fW r x.Code i) 0),s.2.2+cond i.Originating 0 (fN i))) (a,b,c)=(a+wS fV l,b+wS (fun i=>cond (r.Kind == 2) (fW r x.Code i) 0) l,c+wS fN l):=by
  intro l
  induction l with
  | nil=>intro a b c;simp [wS]
  | cons i l ih=>intro a b c;rw [List.foldl_cons,ih];simp only [wS,Int.add_assoc]
 rw [key]
 dsimp only
 have hv:0≤wS fV x.Inputs∧wS fV x.Inputs≤100000000000000:=by
  have:=r8 (f:=fV) (b:=1000000000000) (by omega) (l:=x.Inputs) fun i hi=>(hx.inp i hi).2
  omega
 have hw:0≤wS (fW r x.Code) x.Inputs∧wS (fW r x.Code) x.Inputs≤100000000000000:=by
  have:=r8 (f:=fW r x.Code) (b:=1000000000000) (by omega) (l:=x.Inputs) fun i hi=>by
   have:=(hx.inp i hi).2
   unfold fW;cases pX r x.Code i.Code
   ·simp only [cA];omega
   exact this
  omega
 have hp:=hx.price
 unfold iE
 have hl:=hr
 rw [i4] at hl
 unfold lP mil at hl
 simp only [Int.zero_add]
 cases h1:(r.Kind == 1)
 ·cases h2:(r.Kind == 2)
  ·cases h3:(r.Kind == 3)
   ·simp only [cA]
    cases h4:(r.Kind == 4)
    ·rfl
    simp only [cK];rw [oJ _ _ hx.proc.2.1];rfl
   have hk:=eq_of_beq h3
   rw [hk] at hl
   simp at hl
   simp only [cA,cK]
   rw [pW hv hl.2 (by omega)];rfl
  have hk:=eq_of_beq h2
  rw [hk] at hl
  simp at hl
  simp only [cA,cK]
  rw [pW hw (by omega) (by omega)];rfl
 simp only [cK]
mutual
def tt:Ze→Zh
 | ⟨k,d,e,t,m,n,l⟩=>cond (k == 5) (.every_ (tts l)) (cond (k == 6) (.some_ (tts l)) (.single_ ⟨⟨k,d,e,t,m,n,l⟩⟩))
def tts:List Ze→List Zh
 | []=>[]
 | a::l=>tt a::tts l
end
theorem y8:∀ l:List Ze,tts l=l.map tt
 | []=>by rw [tts];rfl
 | a::l=>by rw [tts,y8 l];rfl
theorem tt_eq (r:Ze):tt r=cond (r.Kind == 5) (.every_ (r.Args.map tt)) (cond (r.Kind == 6) (.some_ (r.Args.map tt)) (.single_ ⟨r⟩)):=by
 cases r;rw [tt,y8]
theorem uP:∀ {l:List Ze} {a:Ze},a∈l→qz a≤mM l
 | b::l,a,h=>by
  rw [mM]
  rcases List.mem_cons.1 h with rfl | h
  ·omega
  have:=uP h;omega
theorem Cy (n:Nat):∀ r:Ze,eQ r=true→wh r≤n→hQ n r=some (tt r):=by
 induction n with
 | zero=>intro r _ hd;rw [oa] at hd;omega
 | succ n ih =>
  intro r hr hd
  obtain ⟨hl,ha,_⟩:=nF hr
  show hI (hQ n) r=_
  unfold hI
  refine (ez (l:=r.Args) (by omega) (fun i (s:List Zh)=>(s,i)) (fun s x=>s++[tt x]) (fun s=>s) (fun k s=>s.length=k) [] rfl (fun k hk s hs=>?_) (fun s _=>by simp only [fY,cA])).1.trans ?_
  ·simp only [ml hk,cK,bp hk,bQ,dr hk (show r.Args.length≤4611686018427387904 by omega)]
   rw [ih _ (ha _ (List.getElem_mem hk)) (by have:=nC (List.getElem_mem hk);omega),bQ,eM (by simp;omega) (by simp;omega)]
   exact ⟨rfl,by simp [hs]⟩
  have key:∀ (l:List Ze) (a:List Zh),l.foldl (fun s x=>s++[tt x]) a=a++l.map tt:=by
   intro l
   induction l with
   | nil=>intro a;simp
   | cons x l ih=>intro a;rw [List.foldl_cons,ih];simp
  rw [key,List.nil_append,tt_eq]
  cases (r.Kind == 5) <;> cases (r.Kind == 6) <;> rfl
section
variable (x:Zm)
mutual
def jE:Ze→Option (List Int)
 | ⟨k,d,e,t,m,n,l⟩=>cond (k == 5) (ja l) (cond (k == 6) (kJ 0 l) (cond (iE ⟨k,d,e,t,m,n,l⟩ x) (some []) none))
def ja:List Ze→Option (List Int)
 | []=>some []
 | a::l=>(jE a).bind fun p=>(ja l).bind fun q=>some (p++q)
def kJ (i:Nat):List Ze→Option (List Int)
 | []=>none
 | a::l=>match jE a with
  | some p=>some ((i:Int)::p)
  | none=>kJ (i+1) l
end
end
theorem wit_eq (x:Zm) (r:Ze):jE x r=cond (r.Kind == 5) (ja x r.Args) (cond (r.Kind == 6) (kJ x 0 r.Args) (cond (iE r x) (some []) none)):=by
 cases r;rw [jE]
mutual
theorem qC (x:Zm):∀ (r:Ze) (p:List Int),jE x r=some p→p.length≤qz r
 | ⟨k,d,e,t,m,n,l⟩,p,h=>by
  rw [jE] at h
  rw [qz]
  cases h5:(k == 5)
  ·rw [h5] at h
   simp only [cA] at h
   cases h6:(k == 6)
   ·rw [h6] at h
    simp only [cA] at h
    cases hh:iE ⟨k,d,e,t,m,n,l⟩ x
    ·rw [hh] at h;cases h
    rw [hh] at h;injection h with h;subst h;simp
   rw [h6] at h
   exact wD x l 0 p h
  rw [h5] at h
  have:=wE x l p h;omega
theorem wE (x:Zm):∀ (l:List Ze) (p:List Int),ja x l=some p→p.length≤mM l
 | [],p,h=>by rw [ja] at h;injection h with h;subst h;simp
 | a::l,p,h=>by
  rw [ja] at h
  rw [mM]
  cases ha:jE x a with
  | none=>rw [ha] at h;cases h
  | some q =>
   rw [ha,bQ] at h
   cases hl:ja x l with
   | none=>rw [hl] at h;cases h
   | some s =>
    rw [hl,bQ] at h
    injection h with h
    subst h
    have h1:=qC x a q ha
    have h2:=wE x l s hl
    rw [List.length_append];omega
theorem wD (x:Zm):∀ (l:List Ze) (i:Nat) (p:List Int),kJ x i l=some p→p.length≤1+mM l
 | [],i,p,h=>by rw [kJ] at h;cases h
 | a::l,i,p,h=>by
  rw [kJ] at h
  rw [mM]
  cases ha:jE x a with
  | none =>
   rw [ha] at h
   have:=wD x l (i+1) p h;omega
  | some q =>
   rw [ha] at h
   injection h with h
   subst h
   have h1:=qC x a q ha
   rw [List.length_cons];omega
end
theorem concatI (a b:List Int) (h:a.length+b.length≤1000000):cT [a,b]=some (a++b):=by
 unfold cT fI
 refine (lE (l:=[a,b]) (by simp) (fun i (s:Nat)=>((s:Int),i)) (fun _ x s=>(.inl (s+x.length):Nat⊕Empty)) (fun (s:Nat)=>(s:Int)) noE (fun k s=>s≤1000000∧s=([a,b].take k).flatten.length) 0 ⟨by omega,rfl⟩ (fun k hk s hs=>⟨?_,fun s' h'=>?_⟩) (fun s _=>by simp only [fY,cA])).trans ?_
 ·have hb:s+([a,b][k]).length≤1000000:=by
   obtain ⟨_,e⟩:=hs
   match k,hk with
   | 0,_=>simp at e;subst e;simp;omega
   | 1,_=>simp at e;subst e;simp;omega
  simp only [ml hk,cK,bp hk,bQ,dr hk (show [a,b].length≤4611686018427387904 by simp),zU]
  rw [cU (by omega) (by omega),cC (by omega)]
  simp only [cA,Int.natCast_add]
 ·injection h' with h'
  obtain ⟨h1,h2⟩:=hs
  subst h'
  match k,hk with
  | 0,_=>simp at h2 ⊢;subst h2;simp;omega
  | 1,_=>simp at h2 ⊢;subst h2;omega
 show Option.bind (Option.bind (zS 8 ((0+a.length+b.length:Nat):Int)) _) _=_
 rw [xB (by omega) (by omega),bQ,bQ]
 refine (ez (l:=[a,b]) (by simp) (fun i (s:List Int)=>(s,i)) (fun s x=>s++x) (fun s=>s) (fun k s=>s=([a,b].take k).flatten) [] rfl (fun k hk s hs=>⟨?_,?_⟩) (fun s _=>by simp only [fY,cA])).1.trans ?_
 ·have hb:s.length+([a,b][k]).length≤1000000:=by
   match k,hk with
   | 0,_=>simp at hs;subst hs;simp;omega
   | 1,_=>simp at hs;subst hs;simp;omega
  simp only [ml hk,cK,bp hk,bQ,dr hk (show [a,b].length≤4611686018427387904 by simp)]
  rw [eM (by omega) (by omega)];rfl
 ·match k,hk with
  | 0,_=>simp at hs;subst hs;simp
  | 1,_=>simp at hs;subst hs;simp
 simp
theorem Am (x:Zm) (hx:VCase x) (n:Nat):∀ r:Ze,eQ r=true→qz r≤1000→wh r≤n→Irule_test_witness_F n (tt r) x=some (mN [] (jE x r)):=by
 induction n with
 | zero=>intro r _ _ hd;rw [oa] at hd;omega
 | succ n ih =>
  intro r hr hc hd
  obtain ⟨hl,ha,_⟩:=nF hr
  have hargs:∀ k (hk:k<r.Args.length),Irule_test_witness_F n (tt r.Args[k]) x=some (mN [] (jE x r.Args[k])):=fun k hk=>ih _ (ha _ (List.getElem_mem hk)) (by have:=rP r;have:=uP (List.getElem_mem hk);omega) (by have:=nC (List.getElem_mem hk);omega)
  have hcl:∀ k (hk:k<r.Args.length) p,jE x r.Args[k]=some p→p.length≤1000:=fun k hk p h=>by have h1:=qC x _ p h;have:=rP r;have:=uP (List.getElem_mem hk);omega
  show Irule_test_witness_B (Irule_test_witness_F n) (tt r) x=_
  rw [tt_eq,wit_eq]
  have hml:(r.Args.map tt).length=r.Args.length:=List.length_map _
  have hmi:∀ k (hk:k<(r.Args.map tt).length),(r.Args.map tt)[k]=tt (r.Args[k]'(by omega)):=fun k hk=>by rw [List.getElem_map]
  cases h5:(r.Kind == 5)
  ·cases h6:(r.Kind == 6)
   ·show eK ⟨r⟩ x=_
    unfold eK
    rw [prog_holds hx hr,bQ]
    simp only [cA]
    cases iE r x <;> rfl
   show eJ (Irule_test_witness_F n) (r.Args.map tt) x=_
   unfold eJ
   refine (cR (l:=r.Args.map tt) (by omega) (fun k t=>match Irule_test_witness_F n t x with | some (p,true)=>some (.inr ((k:Int)::p,true)) | _=>none) (.inl ()) (fun k hk=>?_) (by simp only [fY,cA])).trans ?_
   ·simp only [ml hk,cK,bp hk,bQ,dr hk (show (r.Args.map tt).length≤4611686018427387904 by omega),hmi k hk]
    rw [hargs k (by omega)]
    have:=hcl k (by omega)
    cases hw:jE x (r.Args[k]'(by omega)) with
    | none=>rfl
    | some p =>
     have:=this p hw
     show Option.bind (cT [[(k:Int)],p]) _=_
     rw [concatI _ _ (by simp;omega)];rfl
   have key:∀ (m:List Ze) (i:Nat),(∀ j (hj:j<m.length),Irule_test_witness_F n (tt m[j]) x=some (mN [] (jE x m[j])))→co (fun k t=>match Irule_test_witness_F n t x with | some (p,true)=>some (Sum.inr ((k:Int)::p,true):Unit⊕(List Int×Bool)) | _=>none) (m.map tt) i=(kJ x i m).map fun p=>Sum.inr (p,true):=by
    intro m
    induction m with
    | nil=>intro i _;rw [kJ];rfl
    | cons a m ih =>
     intro i h
     have h0:=h 0 (by simp)
     have h1:=ih (i+1) fun j hj=>h (j+1) (by simpa using hj)
     rw [List.map_cons,co,kJ,h1]
     change Irule_test_witness_F n (tt a) x=some (mN [] (jE x a)) at h0
     rw [h0]
     cases jE x a <;> rfl
   rw [key _ 0 hargs]
   simp only [cA,cK]
   cases kJ x 0 r.Args <;> rfl
  show eg (Irule_test_witness_F n) (r.Args.map tt) x=_
  unfold eg
  simp only [cK]
  refine (lE (l:=r.Args.map tt) (by omega) (fun i (s:List Int)=>(s,i)) (fun _ t s=>match Irule_test_witness_F n t x with | some (p,true)=>(.inl (s++p):List Int⊕Unit) | _=>.inr ()) (fun s=>.inl s) (fun _=>.inr ([],false)) (fun k s=>s.length≤k*1000) [] (by simp) (fun k hk s hs=>⟨?_,fun s' h'=>?_⟩) (fun s _=>by simp only [fY,cA])).trans ?_
  ·simp only [ml hk,cK,bp hk,bQ,dr hk (show (r.Args.map tt).length≤4611686018427387904 by omega),hmi k hk]
   rw [hargs k (by omega)]
   have:=hcl k (by omega)
   cases hw:jE x (r.Args[k]'(by omega)) with
   | none=>rfl
   | some p =>
    have:=this p hw
    show Option.bind (app 8 s p) _=_
    rw [eM (by omega) (by omega)];rfl
  ·have h0:=hargs k (by omega)
   have:=hcl k (by omega)
   rw [hmi k hk,h0] at h'
   cases hw:jE x (r.Args[k]'(by omega)) with
   | none=>rw [hw] at h';cases h'
   | some p =>
    have:=this p hw
    rw [hw] at h'
    injection h' with h'
    subst h'
    rw [List.length_append];omega
  have key:∀ (m:List Ze) (i:Nat) (s:List Int),(∀ j (hj:j<m.length),Irule_test_witness_F n (tt m[j]) x=some (mN [] (jE x m[j])))→run (fun _ t s=>match Irule_test_witness_F n t x with | some (p,true)=>(.inl (s++p):List Int⊕Unit) | _=>.inr ()) (m.map tt) i s=match ja x m with | some p=>.inl (s++p) | none=>.inr ():=by
   intro m
   induction m with
   | nil=>intro i s _;rw [ja];simp [run]
   | cons a m ih =>
    intro i s h
    have h0:=h 0 (by simp)
    have h1:=fun s=>ih (i+1) s fun j hj=>h (j+1) (by simpa using hj)
    rw [List.map_cons,kp,ja]
    change Irule_test_witness_F n (tt a) x=some (mN [] (jE x a)) at h0
    rw [h0]
    cases jE x a with
    | none=>rfl
    | some p =>
     show run _ (m.map tt) (i+1) (s++p)=_
     rw [h1,bQ]
     cases ja x m with
     | none=>rfl
     | some q=>show Sum.inl (s++p++q)=Sum.inl (s++(p++q));rw [List.append_assoc]
  rw [key _ 0 [] hargs]
  cases ja x r.Args <;> rfl
theorem uQ {r:Ze} {x:Zm} (hx:VCase x) (ok:ROk r) (hr:eQ r=true) (hc:qz r≤32):iZ r x=some (mN [] (jE x r)):=by
 have hd:=uA r
 have hf:FUEL=1267650600228229401496703205376:=rfl
 unfold iZ ie
 rw [nD r ok (by omega),(kE r).2 ⟨hc,hr⟩,bQ,show ((0:Int) == 0)=true from rfl,gt,r6 hx,bQ,bQ]
 show Option.bind (hQ FUEL r) _=_
 rw [Cy FUEL r hr (by omega),bQ]
 show Option.bind (Irule_test_witness_F FUEL (tt r) x) _=_
 rw [Am x hx FUEL r hr (by omega) (by omega)];rfl
mutual
theorem oM {x y:Zm} (h:∀ r,eQ r=true→iE r x=true→iE r y=true):∀ r:Ze,eQ r=true→(jE x r).isSome=true→(jE y r).isSome=true
 | ⟨k,d,e,t,m,n,l⟩,hr,hw=>by
  have hl:=hr
  rw [eQ] at hl
  rw [jE] at hw ⊢
  cases h5:(k == 5)
  ·rw [h5] at hw hl
   simp only [cA] at hw ⊢
   cases h6:(k == 6)
   ·rw [h6] at hw
    simp only [cA] at hw ⊢
    cases hh:iE ⟨k,d,e,t,m,n,l⟩ x
    ·rw [hh] at hw;cases hw
    rw [h _ hr hh];rfl
   rw [h6] at hw hl
   simp only [Bool.or_true,cK,Bool.and_eq_true] at hl
   exact tF h l 0 0 k hl.2.2 hw
  rw [h5] at hw hl
  simp only [Bool.true_or,cK,Bool.and_eq_true] at hl
  exact tG h l k hl.2.2 hw
theorem tG {x y:Zm} (h:∀ r,eQ r=true→iE r x=true→iE r y=true):∀ (l:List Ze) (k:Int),my k l=true→(ja x l).isSome=true→(ja y l).isSome=true
 | [],k,_,_=>by rw [ja];rfl
 | a::l,k,hr,hw=>by
  rw [my] at hr
  simp only [Bool.and_eq_true] at hr
  rw [ja] at hw ⊢
  have h1:=oM h a hr.1.2
  have h2:=tG h l k hr.2
  cases ha:jE x a with
  | none=>rw [ha] at hw;cases hw
  | some p =>
   cases hl:ja x l with
   | none=>rw [ha,hl] at hw;cases hw
   | some q =>
    rw [ha] at h1;rw [hl] at h2
    obtain ⟨p',e1⟩:=Option.isSome_iff_exists.1 (h1 rfl)
    obtain ⟨q',e2⟩:=Option.isSome_iff_exists.1 (h2 rfl)
    rw [e1,e2];rfl
theorem tF {x y:Zm} (h:∀ r,eQ r=true→iE r x=true→iE r y=true):∀ (l:List Ze) (i j:Nat) (k:Int),my k l=true→(kJ x i l).isSome=true→(kJ y j l).isSome=true
 | [],i,j,k,_,hw=>by rw [kJ] at hw;cases hw
 | a::l,i,j,k,hr,hw=>by
  rw [my] at hr
  simp only [Bool.and_eq_true] at hr
  rw [kJ] at hw ⊢
  have h1:=oM h a hr.1.2
  cases ha:jE x a with
  | none =>
   rw [ha] at hw
   cases jE y a with
   | none=>exact tF h l (i+1) (j+1) k hr.2 hw
   | some p=>rfl
  | some p =>
   rw [ha] at h1
   obtain ⟨p',e1⟩:=Option.isSome_iff_exists.1 (h1 rfl)
   rw [e1];rfl
end
structure Wt (f:Zl→Int):Prop where
 same:∀ c v a b,f ⟨c,v,a⟩=f ⟨c,v,b⟩
 pos:∀ i:Zl,0≤i.Value→0≤f i
theorem wtV:Wt fV:=⟨fun _ _ _ _=>rfl,fun _ h=>h⟩
theorem wtN:Wt fN:=⟨fun _ _ _ _=>rfl,fun _ _=>by unfold fN;omega⟩
theorem wtW (r:Ze) (code:ByteArray):Wt (fW r code):=⟨fun _ _ _ _=>rfl,fun i h=>by unfold fW;cases pX r code i.Code;exact Int.le_refl _;exact h⟩
def tw (f:Zl→Int) (ps:List Int) (S:CSet) (q:Zb) (v:Int):Int:=cond (cM ps S q v).2.isSome 0 (f ⟨q.Code,v,false⟩)
theorem ii {f:Zl→Int} (hf:Wt f) (ps:List Int) (S:CSet) (q:Zb) (v:Int) (l:List Zl):wS f ((cM ps S q v).1::l)=tw f ps S q v+wS f l:=by
 obtain ⟨h1,h2,h3⟩:=wB ps S q v
 rw [wS,h3]
 unfold tw
 generalize (cM ps S q v).1=i at h1 h2 h3
 obtain ⟨c,w,o⟩:=i
 dsimp only at h1 h2
 subst h1 h2
 rw [hf.same _ _ o false]
theorem uR {f:Zl→Int} (hf:Wt f) (ps:List Int) (S:CSet) (q:Zb) {v:Int} (hv:0≤v):0≤tw f ps S q v:=by
 unfold tw
 cases (cM ps S q v).2.isSome
 ·exact hf.pos _ hv
 exact Int.le_refl _
theorem tH {ps:List Int} {S T:CSet} (h:∀ c,S c=true→T c=true) (q:Zb) (v:Int):(cM ps S q v).2.isSome=true→(cM ps T q v).2.isSome=true:=by
 intro hs
 unfold cM at hs ⊢
 cases hS:ps.find? (fun id=>S ⟨q.ID,id⟩) with
 | none=>rw [hS] at hs;cases hs
 | some id =>
  cases hT:ps.find? (fun id=>T ⟨q.ID,id⟩) with
  | some j=>rfl
  | none =>
   rw [List.find?_eq_none] at hT
   exact absurd (h _ (by have:=List.find?_some hS;exact this)) (hT id (List.mem_of_find?_eq_some hS))
theorem za {f:Zl→Int} (hf:Wt f) {ps:List Int} {S T:CSet} (h:∀ c,S c=true→T c=true) (q:Zb) {v:Int} (hv:0≤v):tw f ps T q v≤tw f ps S q v:=by
 have hm:=tH (ps:=ps) h q v
 have hp:=uR hf ps S q hv
 unfold tw at hp ⊢
 cases ht:(cM ps T q v).2.isSome
 ·cases hs:(cM ps S q v).2.isSome
  ·exact Int.le_refl _
  rw [hm hs] at ht;cases ht
 exact hp
theorem r9 {f:Zl→Int} (hf:Wt f) {plan:List Zb} (hv:VPs plan) {ps:List Int} {S T:CSet} (h:∀ c,S c=true→T c=true) {w price:Int} (hw:0≤w) (hp:1≤price):∀ l:List Zf,(∀ y∈l,0≤y.Value) →
    wS f ((l.map fun y=>cM ps T (bF plan y.Product) (dQ w y.Value price)).map (·.1))≤wS f ((l.map fun y=>cM ps S (bF plan y.Product) (dQ w y.Value price)).map (·.1))∧0≤wS f ((l.map fun y=>cM ps S (bF plan y.Product) (dQ w y.Value price)).map (·.1))
  | [],_=>⟨Int.le_refl _,Int.le_refl _⟩
  | y::l,hl=>by
    obtain ⟨h1,h2⟩:=r9 hf hv (ps:=ps) h hw hp l fun z hz=>hl z (by simp [hz])
    have hr:=(kI hw (hl y (by simp)) hp).1
    simp only [List.map_cons]
    rw [ii hf,ii hf]
    have:=za hf h (ps:=ps) (bF plan y.Product) hr
    have:=uR hf ps S (bF plan y.Product) hr
    omega
theorem pZ {f:Zl→Int} (hf:Wt f) {plan:List Zb} (hv:VPs plan) (a:Zc) {ps:List Int} {S T:CSet} (h:∀ c,S c=true→T c=true) (x:Zf) (hx:(cw plan x.Product).isSome=true) (hx0:0≤x.Value) :
    wS f ((dJ plan a ps T x).map (·.1))≤wS f ((dJ plan a ps S x).map (·.1))∧0≤wS f ((dJ plan a ps S x).map (·.1)):=by
  obtain ⟨hq1,hq,_⟩:=gN hv hx
  have hparts:=r9 hf hv (ps:=ps) h hx0 hq.price.1 (bF plan x.Product).Inputs fun y hy=>(hq.inp y hy).2.1
  have hm:=tH (ps:=ps) h (bF plan x.Product) x.Value
  have hp:=uR hf ps S (bF plan x.Product) hx0
  have hle:=za hf (ps:=ps) h (bF plan x.Product) hx0
  have hnil:wS f []=0:=rfl
  unfold dJ
  cases hT:(cM ps T (bF plan x.Product) x.Value).2.isSome
  · have hS:(cM ps S (bF plan x.Product) x.Value).2.isSome=false:=by
      cases hs:(cM ps S (bF plan x.Product) x.Value).2.isSome
      · rfl
      rw [hm hs] at hT;cases hT
    rw [hS]
    cases (false || !kH a (bF plan x.Product)||(bF plan x.Product).Inputs.isEmpty)
    · exact hparts
    simp only [cK,List.map_cons,List.map_nil]
    rw [ii hf,ii hf];omega
  · have e0:tw f ps T (bF plan x.Product) x.Value=0:=by unfold tw;rw [hT];rfl
    simp only [Bool.true_or,cK,List.map_cons,List.map_nil]
    rw [ii hf,e0]
    cases ((cM ps S (bF plan x.Product) x.Value).2.isSome || !kH a (bF plan x.Product)||(bF plan x.Product).Inputs.isEmpty)
    · simp only [cA];omega
    simp only [cK,List.map_cons,List.map_nil]
    rw [ii hf];omega
theorem ls {f:Zl→Int} (hf:Wt f) {plan:List Zb} (hv:VPs plan) (a:Zc) {ps:List Int} {S T:CSet} (h:∀ c,S c=true→T c=true) {p:Zb} (hp:VProd plan p) :
    wS f ((cd plan a ps T p).map (·.1))≤wS f ((cd plan a ps S p).map (·.1))∧0≤wS f ((cd plan a ps T p).map (·.1)):=by
  unfold cd
  have key:∀ l:List Zf,(∀ x∈l,(cw plan x.Product).isSome=true∧0≤x.Value)→wS f ((l.flatMap (dJ plan a ps T)).map (·.1))≤wS f ((l.flatMap (dJ plan a ps S)).map (·.1))∧0≤wS f ((l.flatMap (dJ plan a ps T)).map (·.1)):=by
    intro l
    induction l with
    | nil=>intro _;exact ⟨Int.le_refl _,Int.le_refl _⟩
    | cons x l ih =>
      intro hl
      have h1:=ih fun y hy=>hl y (by simp [hy])
      have hx:=hl x (by simp)
      have h2:=pZ hf hv a (ps:=ps) h x hx.1 hx.2
      have h3:=(pZ hf hv a (ps:=ps) (S:=T) (T:=T) (fun _ k=>k) x hx.1 hx.2).2
      rw [List.flatMap_cons,List.flatMap_cons,List.map_append,List.map_append,r7,r7]
      omega
  exact key _ fun x hx=>⟨(hp.inp x hx).1,(hp.inp x hx).2.1⟩
theorem An {plan:List Zb} (l:List Zc) (hv:VPs plan) (imp:ByteArray) (c:Za) {S T:CSet} (h:∀ c,S c=true→T c=true) (hf:(cw plan c.Product).isSome=true) (r:Ze) (hr:eQ r=true) (hw:(jE (iD plan l imp c S) r).isSome=true):(jE (iD plan l imp c T) r).isSome=true:=by
 obtain ⟨hq1,hq,_⟩:=gN hv hf
 refine oM (fun r hr hl=>?_) r hr hw
 have hV:=ls wtV hv (jb l c.Agreement) (ps:=dl l c.Agreement (bF plan c.Product).Country imp) h hq
 have hN:=ls wtN hv (jb l c.Agreement) (ps:=dl l c.Agreement (bF plan c.Product).Country imp) h hq
 have hW:=ls (wtW r (bF plan c.Product).Code) hv (jb l c.Agreement) (ps:=dl l c.Agreement (bF plan c.Product).Country imp) h hq
 unfold iE iD at hl ⊢
 dsimp only at hl ⊢
 cases h1:(r.Kind == 1)
 ·rw [h1] at hl
  cases h2:(r.Kind == 2)
  ·rw [h2] at hl
   cases h3:(r.Kind == 3)
   ·rw [h3] at hl;exact hl
   rw [h3] at hl
   simp only [cA,cK,decide_eq_true_eq] at hl ⊢
   omega
  rw [h2] at hl
  simp only [cA,cK,decide_eq_true_eq] at hl ⊢
  omega
 rw [h1] at hl
 simp only [cK,Bool.and_eq_true,beq_iff_eq] at hl ⊢
 exact ⟨hl.1,by omega⟩
section
variable {γ δ π:Type} [DecidableEq δ] (gc:γ→δ) (cl:π→δ) (pv:(δ→Bool)→γ→Option π)
def iq:Nat→List γ→List π→List π
 | 0,_,ps=>ps
 | n+1,o,ps=>cond (o.filterMap (pv (cj (ps.map cl)))).isEmpty ps (iq n (o.filter fun g=>(pv (cj (ps.map cl)) g).isNone) (ps++o.filterMap (pv (cj (ps.map cl)))))
def Closed (G:List γ) (T:δ→Bool):Prop:=∀ g∈G,(pv T g).isSome=true→T (gc g)=true
structure RInv (G o:List γ) (ps:List π):Prop where
 all:∀ g∈G,g∈o∨cj (ps.map cl) (gc g)=true
 opn:∀ g∈o,g∈G∧cj (ps.map cl) (gc g)=false
 prv:∀ p∈ps,∃ g∈G,gc g=cl p∧(pv (cj (ps.map cl)) g).isSome=true
 lst:∀ T,Closed gc pv G T→∀ p∈ps,T (cl p)=true
variable {gc cl pv} (hcl:∀ S g p,pv S g=some p→cl p=gc g)
theorem i6 {l:List π} {c:δ}:cj (l.map cl) c=true↔∃ p∈l,cl p=c:=by rw [oK,List.mem_map]
include hcl in
theorem Ao {G o:List γ} {ps:List π} (mono:∀ (S T:δ→Bool),∀ g∈G,(∀ c,S c=true→T c=true)→(pv S g).isSome=true→(pv T g).isSome=true) (inj:∀ g∈G,∀ g'∈G,gc g=gc g'→g=g') (h:RInv gc cl pv G o ps):RInv gc cl pv G (o.filter fun g=>(pv (cj (ps.map cl)) g).isNone) (ps++o.filterMap (pv (cj (ps.map cl)))):=by
 have hsub:∀ c,cj (ps.map cl) c=true→cj ((ps++o.filterMap (pv (cj (ps.map cl)))).map cl) c=true:=by
  intro c hc
  obtain ⟨p,h1,h2⟩:=i6.1 hc
  exact i6.2 ⟨p,List.mem_append.2 (.inl h1),h2⟩
 have hnew:∀ g∈o,∀ p,pv (cj (ps.map cl)) g=some p→cj ((ps++o.filterMap (pv (cj (ps.map cl)))).map cl) (gc g)=true:=fun g hg p hp =>
  i6.2 ⟨p,List.mem_append.2 (.inr (List.mem_filterMap.2 ⟨g,hg,hp⟩)),hcl _ _ _ hp⟩
 refine ⟨fun g hg=>?_,fun g hg=>?_,fun p hp=>?_,fun T hT p hp=>?_⟩
 ·rcases h.all g hg with h1 | h1
  ·cases hp:pv (cj (ps.map cl)) g with
   | none=>left;exact List.mem_filter.2 ⟨h1,by rw [hp];rfl⟩
   | some p=>right;exact hnew g h1 p hp
  right;exact hsub _ h1
 ·obtain ⟨h1,h2⟩:=List.mem_filter.1 hg
  obtain ⟨h3,h4⟩:=h.opn g h1
  refine ⟨h3,?_⟩
  cases hm:cj ((ps++o.filterMap (pv (cj (ps.map cl)))).map cl) (gc g)
  ·rfl
  obtain ⟨p,k1,k2⟩:=i6.1 hm
  rcases List.mem_append.1 k1 with k1 | k1
  ·rw [i6.2 ⟨p,k1,k2⟩] at h4;cases h4
  obtain ⟨g',hg',he⟩:=List.mem_filterMap.1 k1
  have:=inj g' (h.opn g' hg').1 g h3 ((hcl _ _ _ he).symm.trans k2)
  subst this
  rw [he] at h2;cases h2
 ·rcases List.mem_append.1 hp with h1 | h1
  ·obtain ⟨g,k1,k2,k3⟩:=h.prv p h1
   exact ⟨g,k1,k2,mono _ _ g k1 hsub k3⟩
  obtain ⟨g,hg,he⟩:=List.mem_filterMap.1 h1
  exact ⟨g,(h.opn g hg).1,(hcl _ _ _ he).symm,mono _ _ g (h.opn g hg).1 hsub (by rw [he];rfl)⟩
 rcases List.mem_append.1 hp with h1 | h1
 ·exact h.lst T hT p h1
 obtain ⟨g,hg,he⟩:=List.mem_filterMap.1 h1
 have:=mono _ T g (h.opn g hg).1 (fun c hc=>by obtain ⟨q,k1,k2⟩:=i6.1 hc;rw [← k2];exact h.lst T hT q k1) (show (pv (cj (ps.map cl)) g).isSome=true by rw [he];rfl)
 rw [hcl _ _ _ he];exact hT g (h.opn g hg).1 this
theorem oN {o:List γ} {f:γ→Option π} (h:(o.filterMap f).isEmpty=false):(o.filter fun g=>(f g).isNone).length<o.length:=by
 induction o with
 | nil=>cases h
 | cons g o ih =>
  rw [List.filter_cons]
  cases hf:f g with
  | some p =>
   have:=List.length_filter_le (fun g=>(f g).isNone) o
   simp only [Option.isNone_some,Bool.false_eq_true,if_false,List.length_cons];omega
  | none =>
   rw [List.filterMap_cons_none hf] at h
   have:=ih h
   simp only [Option.isNone_none,if_true,List.length_cons];omega
include hcl in
theorem ya {G:List γ} (mono:∀ (S T:δ→Bool),∀ g∈G,(∀ c,S c=true→T c=true)→(pv S g).isSome=true→(pv T g).isSome=true) (inj:∀ g∈G,∀ g'∈G,gc g=gc g'→g=g'):∀ (n:Nat) (o:List γ) (ps:List π),o.length≤n→RInv gc cl pv G o ps →
    (∀ g∈G,(pv (cj ((iq cl pv n o ps).map cl)) g).isSome=cj ((iq cl pv n o ps).map cl) (gc g))∧(∀ p∈iq cl pv n o ps,∃ g∈G,gc g=cl p)∧∀ T,Closed gc pv G T→∀ p∈iq cl pv n o ps,T (cl p)=true:=by
  have fin:∀ (o:List γ) (ps:List π),RInv gc cl pv G o ps→(∀ g∈o,pv (cj (ps.map cl)) g=none)→(∀ g∈G,(pv (cj (ps.map cl)) g).isSome=cj (ps.map cl) (gc g))∧(∀ p∈ps,∃ g∈G,gc g=cl p)∧∀ T,Closed gc pv G T→∀ p∈ps,T (cl p)=true:=by
    intro o ps h hn
    refine ⟨fun g hg=>?_,fun p hp=>by obtain ⟨g,k1,k2,_⟩:=h.prv p hp;exact ⟨g,k1,k2⟩,h.lst⟩
    cases hm:cj (ps.map cl) (gc g)
    · rcases h.all g hg with h1 | h1
      · rw [hn g h1];rfl
      rw [h1] at hm;cases hm
    obtain ⟨p,k1,k2⟩:=i6.1 hm
    obtain ⟨g',k3,k4,k5⟩:=h.prv p k1
    rw [inj g hg g' k3 (k2.symm.trans k4.symm)];exact k5
  intro n
  induction n with
  | zero =>
    intro o ps ho h
    obtain rfl:o=[]:=List.length_eq_zero_iff.1 (by omega)
    exact fin [] ps h (fun g hg=>by cases hg)
  | succ n ih =>
    intro o ps ho h
    rw [iq]
    cases he:(o.filterMap (pv (cj (ps.map cl)))).isEmpty
    · have:=oN he
      exact ih _ _ (by omega) (Ao hcl mono inj h)
    refine fin o ps h fun g hg=>?_
    cases hp:pv (cj (ps.map cl)) g with
    | none=>rfl
    | some p =>
      have:p∈o.filterMap (pv (cj (ps.map cl))):=List.mem_filterMap.2 ⟨g,hg,hp⟩
      rw [List.isEmpty_iff.1 he] at this;cases this
theorem yb (G:List γ):RInv gc cl pv G G []:=⟨fun g hg=>.inl hg,fun g hg=>⟨hg,rfl⟩,fun p hp=>(by cases hp),fun T _ p hp=>(by cases hp)⟩
end
abbrev Goal:=Za×Ze
abbrev Prf:=Za×List Int×List Za
def dU (plan:List Zb) (l:List Zc) (imp:ByteArray):List Goal:=plan.flatMap fun p=>l.filterMap fun a=>cond (mC plan l imp ⟨p.ID,a.ID⟩) ((gw a p.Code).map fun r=>((⟨p.ID,a.ID⟩:Za),r)) none
def gj (plan:List Zb) (l:List Zc) (imp:ByteArray) (S:CSet) (g:Goal):Option Prf:=(jE (iD plan l imp g.1 S) g.2).map fun path=>(g.1,path,wA plan l imp g.1 S)
def mE (plan:List Zb) (l:List Zc) (imp:ByteArray):List Prf:=iq (fun p:Prf=>p.1) (gj plan l imp) (dU plan l imp).length (dU plan l imp) []
def i7 (plan:List Zb) (l:List Zc) (imp:ByteArray):CSet:=cj ((mE plan l imp).map fun p:Prf=>p.1)
theorem kb {plan:List Zb} {l:List Zc} {imp:ByteArray} {g:Goal}:g∈dU plan l imp↔∃ p∈plan,∃ a∈l,mC plan l imp ⟨p.ID,a.ID⟩=true∧gw a p.Code=some g.2∧g.1=⟨p.ID,a.ID⟩:=by
 unfold dU
 rw [List.mem_flatMap]
 constructor
 ·rintro ⟨p,hp,hg⟩
  obtain ⟨a,ha,he⟩:=List.mem_filterMap.1 hg
  cases hc:mC plan l imp ⟨p.ID,a.ID⟩
  ·rw [hc] at he;cases he
  rw [hc,cK] at he
  cases hr:gw a p.Code with
  | none=>rw [hr] at he;cases he
  | some r =>
   rw [hr,Option.map_some] at he
   injection he with he
   subst he
   exact ⟨p,hp,a,ha,hc,hr,rfl⟩
 rintro ⟨p,hp,a,ha,hc,hr,hg⟩
 obtain ⟨c,r⟩:=g
 dsimp only at hr hg
 subst hg
 exact ⟨p,hp,List.mem_filterMap.2 ⟨a,ha,by rw [hc,hr];rfl⟩⟩
theorem zb {α:Type} {f:α→Int} {l:List α} (h:l.Pairwise fun a b=>f a<f b) {a b:α} (ha:a∈l) (hb:b∈l) (e:f a=f b):a=b:=by
 induction l with
 | nil=>cases ha
 | cons x l ih =>
  obtain ⟨h1,h2⟩:=List.pairwise_cons.1 h
  rcases List.mem_cons.1 ha with e1 | ha'
  ·rcases List.mem_cons.1 hb with e2 | hb'
   ·rw [e1,e2]
   have:=h1 b hb';rw [← e1] at this;omega
  rcases List.mem_cons.1 hb with e2 | hb'
  ·have:=h1 a ha';rw [← e2] at this;omega
  exact ih h2 ha' hb'
theorem Ap {plan:List Zb} {l:List Zc} {imp:ByteArray} (hv:VPs plan) (hl:AscA l):∀ g∈dU plan l imp,∀ g'∈dU plan l imp,g.1=g'.1→g=g':=by
 intro g hg g' hg' e
 obtain ⟨p,hp,a,ha,_,hr,h1⟩:=kb.1 hg
 obtain ⟨p',hp',a',ha',_,hr',h1'⟩:=kb.1 hg'
 rw [h1,h1'] at e
 injection e with e1 e2
 have:=zb hv.asc hp hp' e1
 have:=zb hl ha ha' e2
 subst_vars
 rw [hr] at hr'
 injection hr' with hr'
 exact Prod.ext (h1.trans h1'.symm) hr'
theorem yc {a:Zc} (ha:VA a) {code:ByteArray} {r:Ze} (h:gw a code=some r):ROk r∧eQ r=true∧qz r≤32:=by
 rcases oI a code with ⟨_,h2⟩ | ⟨j,hj,_,h2⟩
 ·rw [h2] at h;cases h
 rw [h2] at h
 injection h with h
 have h1:=(kE _).1 (ha.rules _ (List.getElem_mem hj))
 have h3:=ha.ok.rules _ (List.getElem_mem hj)
 rw [← h]
 exact ⟨h3.rule,h1.2,h1.1⟩
theorem nG {plan:List Zb} {l:List Zc} {imp:ByteArray} (hl:VAs l) {g:Goal} (hg:g∈dU plan l imp):ROk g.2∧eQ g.2=true∧qz g.2≤32:=by
 obtain ⟨p,hp,a,ha,_,hr,_⟩:=kb.1 hg
 exact yc (hl.all a ha) hr
theorem kK {plan:List Zb} {l:List Zc} {imp:ByteArray} {g:Goal} (hg:g∈dU plan l imp):mC plan l imp g.1=true∧(cw plan g.1.Product).isSome=true:=by
 obtain ⟨p,hp,a,ha,hc,_,h1⟩:=kb.1 hg
 rw [h1];exact ⟨hc,Al hc⟩
theorem sa (plan:List Zb) (l:List Zc) (imp:ByteArray) (S:CSet) (g:Goal):(gj plan l imp S g).isSome=(jE (iD plan l imp g.1 S) g.2).isSome:=by unfold gj;cases jE (iD plan l imp g.1 S) g.2 <;> rfl
theorem prf_cl (plan:List Zb) (l:List Zc) (imp:ByteArray):∀ (S:CSet) (g:Goal) (p:Prf),gj plan l imp S g=some p→p.1=g.1:=by
 intro S g p h
 unfold gj at h
 cases hw:jE (iD plan l imp g.1 S) g.2 with
 | none=>rw [hw] at h;cases h
 | some q=>rw [hw,Option.map_some] at h;injection h with h;rw [← h]
theorem Cz {plan:List Zb} {l:List Zc} (hv:VPs plan) (hl:VAs l) (imp:ByteArray):∀ (S T:CSet),∀ g∈dU plan l imp,(∀ c,S c=true→T c=true)→(gj plan l imp S g).isSome=true→(gj plan l imp T g).isSome=true:=by
 intro S T g hg h hs
 rw [sa] at hs ⊢
 exact An l hv imp g.1 h (kK hg).2 g.2 (nG hl hg).2.1 hs
theorem sb {plan:List Zb} {l:List Zc} (hv:VPs plan) (hl:VAs l) (ha:AscA l) (imp:ByteArray) :
    (∀ g∈dU plan l imp,(jE (iD plan l imp g.1 (i7 plan l imp)) g.2).isSome=i7 plan l imp g.1)∧(∀ c,i7 plan l imp c=true→∃ g∈dU plan l imp,g.1=c) ∧
      ∀ T:CSet,(∀ g∈dU plan l imp,(jE (iD plan l imp g.1 T) g.2).isSome=true→T g.1=true)→∀ c,i7 plan l imp c=true→T c=true:=by
  obtain ⟨h1,h2,h3⟩:=ya (gc:=fun g:Goal=>g.1) (cl:=fun p:Prf=>p.1) (prf_cl plan l imp) (Cz hv hl imp) (Ap hv ha) _ _ _ (Nat.le_refl _) (yb (gc:=fun g:Goal=>g.1) (cl:=fun p:Prf=>p.1) (pv:=gj plan l imp) (dU plan l imp))
  refine ⟨fun g hg=>?_,fun c hc=>?_,fun T hT c hc=>?_⟩
  · rw [← sa];exact h1 g hg
  · obtain ⟨p,k1,k2⟩:=i6.1 hc
    obtain ⟨g,k3,k4⟩:=h2 p k1
    exact ⟨g,k3,k4.trans k2⟩
  obtain ⟨p,k1,k2⟩:=i6.1 hc
  rw [← k2]
  exact h3 T (fun g hg hs=>hT g hg (by rw [← sa];exact hs)) p k1
theorem CA {plan plan':List Zb} {l l':List Zc} {imp:ByteArray} (hv:VPs plan) (hl:VAs l) (ha:AscA l) (hv':VPs plan') (hl':VAs l') (ha':AscA l')
    (h:∀ g∈dU plan l imp,g∈dU plan' l' imp∧∀ S,(jE (iD plan l imp g.1 S) g.2).isSome=true→(jE (iD plan' l' imp g.1 S) g.2).isSome=true):∀ c,i7 plan l imp c=true→i7 plan' l' imp c=true:=by
  refine (sb hv hl ha imp).2.2 _ fun g hg hs=>?_
  obtain ⟨h1,h2⟩:=h g hg
  rw [← (sb hv' hl' ha' imp).1 g h1]
  exact h2 _ hs
inductive Chp:List Zf→List Zf→Prop
 | nil:Chp [] []
 | cons {x y:Zf} {l m:List Zf} (h1:y.Product=x.Product) (h2:0≤y.Value) (h3:y.Value≤x.Value) (h:Chp l m):Chp (x::l) (y::m)
theorem Chp.empty {l m:List Zf} (h:Chp l m):m.isEmpty=l.isEmpty:=by cases h <;> rfl
theorem Chp.refl:∀ {l:List Zf},(∀ x∈l,0≤x.Value)→Chp l l
 | [],_=>.nil
 | x::l,h=>.cons rfl (h x (by simp)) (Int.le_refl _) (Chp.refl fun y hy=>h y (by simp [hy]))
structure PLe (p q:Zb):Prop where
 id:q.ID=p.ID
 code:q.Code=p.Code
 ctr:q.Country=p.Country
 price:q.Price=p.Price
 obt:q.Obtained=p.Obtained
 proc:q.Processes=p.Processes
 inp:Chp p.Inputs q.Inputs
structure WtM (f:Zl→Int):Prop where
 wt:Wt f
 le:∀ c v w a,0≤v→v≤w→f ⟨c,v,a⟩≤f ⟨c,w,a⟩
theorem wtmV:WtM fV:=⟨wtV,fun _ _ _ _ _ h=>h⟩
theorem wtmN:WtM fN:=⟨wtN,fun _ _ _ _ _ _=>Int.le_refl _⟩
theorem wtmW (r:Ze) (code:ByteArray):WtM (fW r code):=⟨wtW r code,fun c v w a h h2=>by unfold fW;dsimp only;cases pX r code c;exact Int.le_refl _;exact h2⟩
theorem rnd_le {n m c:Int} (h:n≤m) (hc:1≤c):yZ n c 1≤yZ m c 1:=by
 have e:∀ n,yZ n c 1=(n+(c - 1)) / c:=by
  intro n
  unfold yZ
  have h1:=Int.emod_nonneg n (show c≠0 by omega)
  have h2:=Int.emod_lt_of_pos n (show 0<c by omega)
  have h3:=Int.mul_ediv_add_emod n c
  by_cases h0:n % c=0
  ·have:(n+(c - 1)) / c=n / c:=by
    have e2:n+(c - 1)=(c - 1)+c*(n / c):=by omega
    rw [e2,Int.add_mul_ediv_left _ _ (by omega),Int.ediv_eq_zero_of_lt (by omega) (by omega)];omega
   rw [this];simp [h0]
  ·have:(n+(c - 1)) / c=n / c+1:=by
    have e2:n+(c - 1)=(n % c - 1)+c*(n / c+1):=by rw [Int.mul_add];omega
    rw [e2,Int.add_mul_ediv_left _ _ (by omega),Int.ediv_eq_zero_of_lt (by omega) (by omega)];omega
   rw [this];simp [h0];omega
 rw [e,e]
 exact Int.ediv_le_ediv (by omega) (by omega)
theorem wF {v w p q c:Int} (h1:0≤v) (h2:v≤w) (h3:0≤p) (h4:p≤q) (hc:1≤c):dQ v p c≤dQ w q c:=by
 have:=rnd_le (c:=c) (Int.mul_le_mul h2 h4 h3 (by omega)) hc
 unfold dQ
 split <;> split <;> omega
section
variable {ps ps':List Int} {S T:CSet} (hps:∀ x∈ps,x∈ps') (hST:∀ c,S c=true→T c=true)
include hps hST in
theorem sc {q q':Zb} (hid:q'.ID=q.ID) (v v':Int):(cM ps S q v).2.isSome=true→(cM ps' T q' v').2.isSome=true:=by
 intro hs
 unfold cM at hs ⊢
 rw [hid]
 cases hS:ps.find? (fun id=>S ⟨q.ID,id⟩) with
 | none=>rw [hS] at hs;cases hs
 | some id =>
  cases hT:ps'.find? (fun id=>T ⟨q.ID,id⟩) with
  | some j=>rfl
  | none =>
   rw [List.find?_eq_none] at hT
   exact absurd (hST _ (by have:=List.find?_some hS;exact this)) (hT id (hps _ (List.mem_of_find?_eq_some hS)))
include hps hST in
theorem wG {f:Zl→Int} (hf:WtM f) {q q':Zb} (hid:q'.ID=q.ID) (hco:q'.Code=q.Code) {v v':Int} (hv:0≤v') (hvv:v'≤v):tw f ps' T q' v'≤tw f ps S q v∧0≤tw f ps S q v:=by
 have hm:=sc hps hST hid v v'
 have hp:=uR hf.wt ps S q (show 0≤v by omega)
 refine ⟨?_,hp⟩
 unfold tw at hp ⊢
 cases ht:(cM ps' T q' v').2.isSome
 ·cases hs:(cM ps S q v).2.isSome
  ·simp only [cA];rw [hco];exact hf.le _ _ _ _ hv hvv
  rw [hm hs] at ht;cases ht
 exact hp
variable {plan plan':List Zb} (hpl:∀ id,(cw plan id).isSome=true→PLe (bF plan id) (bF plan' id))
include hps hST hpl in
theorem wH {f:Zl→Int} (hf:WtM f) {w w' price:Int} (hw:0≤w') (hww:w'≤w) (hp:1≤price) {l m:List Zf} (h:Chp l m) (hl:∀ y∈l,(cw plan y.Product).isSome=true) :
    wS f ((m.map fun y=>cM ps' T (bF plan' y.Product) (dQ w' y.Value price)).map (·.1))≤wS f ((l.map fun y=>cM ps S (bF plan y.Product) (dQ w y.Value price)).map (·.1))∧0≤wS f ((l.map fun y=>cM ps S (bF plan y.Product) (dQ w y.Value price)).map (·.1)):=by
  induction h with
  | nil=>exact ⟨Int.le_refl _,Int.le_refl _⟩
  | @cons x y l m h1 h2 h3 h ih =>
    obtain ⟨i1,i2⟩:=ih fun z hz=>hl z (by simp [hz])
    have hq:=hpl x.Product (hl x (by simp))
    have hr:=(kI hw h2 hp).1
    have hle:=wF hw hww h2 h3 hp
    simp only [List.map_cons]
    rw [ii hf.wt,ii hf.wt,h1]
    have:=wG hps hST hf hq.id hq.code hr hle
    omega
include hps hST hpl in
theorem uS {f:Zl→Int} (hf:WtM f) (hv:VPs plan) (a:Zc) {x y:Zf} (h1:y.Product=x.Product) (h2:0≤y.Value) (h3:y.Value≤x.Value) (hx:(cw plan x.Product).isSome=true) :
    wS f ((dJ plan' a ps' T y).map (·.1))≤wS f ((dJ plan a ps S x).map (·.1))∧0≤wS f ((dJ plan a ps S x).map (·.1)):=by
  obtain ⟨hq1,hq,_⟩:=gN hv hx
  have hle:=hpl x.Product hx
  have hparts:=wH hps hST hpl hf h2 h3 hq.price.1 hle.inp fun y hy=>(hq.inp y hy).1
  have hm:=sc hps hST hle.id x.Value y.Value
  have hp:=(wG hps hST hf hle.id hle.code h2 h3)
  have hfull:kH a (bF plan' x.Product)=kH a (bF plan x.Product):=by unfold kH;rw [hle.ctr]
  have hnil:wS f []=0:=rfl
  unfold dJ
  rw [h1,hfull,hle.inp.empty,hle.price]
  cases hT:(cM ps' T (bF plan' x.Product) y.Value).2.isSome
  · have hS:(cM ps S (bF plan x.Product) x.Value).2.isSome=false:=by
      cases hs:(cM ps S (bF plan x.Product) x.Value).2.isSome
      · rfl
      rw [hm hs] at hT;cases hT
    rw [hS]
    cases (false || !kH a (bF plan x.Product)||(bF plan x.Product).Inputs.isEmpty)
    · exact hparts
    simp only [cK,List.map_cons,List.map_nil]
    rw [ii hf.wt,ii hf.wt];omega
  · have e0:tw f ps' T (bF plan' x.Product) y.Value=0:=by unfold tw;rw [hT];rfl
    simp only [Bool.true_or,cK,List.map_cons,List.map_nil]
    rw [ii hf.wt,e0]
    cases ((cM ps S (bF plan x.Product) x.Value).2.isSome || !kH a (bF plan x.Product)||(bF plan x.Product).Inputs.isEmpty)
    · simp only [cA];omega
    simp only [cK,List.map_cons,List.map_nil]
    rw [ii hf.wt];omega
include hps hST hpl in
theorem se {f:Zl→Int} (hf:WtM f) (hv:VPs plan) (a:Zc) {p p':Zb} (hp:VProd plan p) (hle:PLe p p') :
    wS f ((cd plan' a ps' T p').map (·.1))≤wS f ((cd plan a ps S p).map (·.1)):=by
  unfold cd
  have key:∀ l m:List Zf,Chp l m→(∀ x∈l,(cw plan x.Product).isSome=true)→wS f ((m.flatMap (dJ plan' a ps' T)).map (·.1))≤wS f ((l.flatMap (dJ plan a ps S)).map (·.1)):=by
    intro l m h
    induction h with
    | nil=>intro _;exact Int.le_refl _
    | @cons x y l m h1 h2 h3 h ih =>
      intro hl
      have i1:=ih fun y hy=>hl y (by simp [hy])
      have i2:=(uS hps hST hpl hf hv a h1 h2 h3 (hl x (by simp))).1
      rw [List.flatMap_cons,List.flatMap_cons,List.map_append,List.map_append,r7,r7]
      omega
  exact key _ _ hle.inp fun x hx=>(hp.inp x hx).1
include hpl in
theorem Aq (a:Zc) {l m:List Zf} (h:Chp l m) (hl:∀ x∈l,(cw plan x.Product).isSome=true):∀ acc,m.foldl (jR plan' a) acc=l.foldl (jR plan a) acc:=by
 induction h with
 | nil=>intro acc;rfl
 | @cons x y l m h1 h2 h3 h ih =>
  intro acc
  have hq:=hpl x.Product (hl x (by simp))
  rw [List.foldl_cons,List.foldl_cons,ih fun z hz=>hl z (by simp [hz])]
  congr 1
  unfold jR kH
  rw [h1,hq.ctr,hq.proc]
end
theorem CB {f:Zl→Int} (hf:Wt f):∀ {l:List Zl},(∀ i∈l,0≤i.Value)→0≤wS f l
 | [],_=>Int.le_refl _
 | i::l,h=>by
  have h1:=CB hf (l:=l) fun j hj=>h j (by simp [hj])
  have h2:=hf.pos i (h i (by simp))
  rw [wS];cases i.Originating
  ·simp only [cA];omega
  simp only [cK];omega
theorem Ar {x y:Zm} (hc:y.Code=x.Code) (hp:y.Price=x.Price) (ho:y.Obtained=x.Obtained) (hpr:y.Processes=x.Processes) (hy:∀ i∈y.Inputs,0≤i.Value) (h:∀ f,WtM f→wS f y.Inputs≤wS f x.Inputs) (r:Ze) (hl:iE r x=true):iE r y=true:=by
 have hV:=h _ wtmV
 have hN:=h _ wtmN
 have hW:=h _ (wtmW r x.Code)
 have hN0:=CB wtN hy
 unfold iE at hl ⊢
 rw [hc,hp,ho,hpr]
 cases h1:(r.Kind == 1)
 ·rw [h1] at hl
  cases h2:(r.Kind == 2)
  ·rw [h2] at hl
   cases h3:(r.Kind == 3)
   ·rw [h3] at hl;exact hl
   rw [h3] at hl
   simp only [cA,cK,decide_eq_true_eq] at hl ⊢
   omega
  rw [h2] at hl
  simp only [cA,cK,decide_eq_true_eq] at hl ⊢
  omega
 rw [h1] at hl
 simp only [cK,Bool.and_eq_true,beq_iff_eq] at hl ⊢
 exact ⟨hl.1,by omega⟩
theorem yd {plan plan':List Zb} {l l':List Zc} (hv:VPs plan) (hv':VPs plan') (imp:ByteArray) (c:Za) (hpl:∀ id,(cw plan id).isSome=true→PLe (bF plan id) (bF plan' id)) (hag:jb l' c.Agreement=jb l c.Agreement)
    (hps:∀ x∈dl l c.Agreement (bF plan c.Product).Country imp,x∈dl l' c.Agreement (bF plan c.Product).Country imp) {S T:CSet} (hST:∀ c,S c=true→T c=true) (hf:(cw plan c.Product).isSome=true) (hf':(cw plan' c.Product).isSome=true) (r:Ze) (hr:eQ r=true)
    (hw:(jE (iD plan l imp c S) r).isSome=true):(jE (iD plan' l' imp c T) r).isSome=true:=by
  obtain ⟨hq1,hq,_⟩:=gN hv hf
  have hle:=hpl c.Product hf
  have hok:=r5 (l:=l') hv' imp c T hf'
  refine oM (fun r hr hl=>?_) r hr hw
  refine Ar ?_ ?_ ?_ ?_ (fun i hi=>(hok.inp i hi).2.1) (fun f hf=>?_) r hl
  · exact hle.code
  · exact hle.price
  · exact hle.obt
  · show List.take 8 _=List.take 8 _
    rw [hag,hle.proc,Aq hpl _ hle.inp fun x hx=>(hq.inp x hx).1]
  show wS f ((cd plan' (jb l' c.Agreement) _ T _).map _)≤wS f ((cd plan (jb l c.Agreement) _ S _).map _)
  rw [hag,hle.ctr]
  exact se hps hST hpl hf hv (jb l c.Agreement) hq hle
inductive PsLe:List Zb→List Zb→Prop
 | nil:PsLe [] []
 | cons {p q:Zb} {l m:List Zb} (h1:PLe p q) (h:PsLe l m):PsLe (p::l) (q::m)
theorem PsLe.find {l m:List Zb} (h:PsLe l m) (id:Int):(cw l id=none∧cw m id=none)∨∃ p q,cw l id=some p∧cw m id=some q∧PLe p q:=by
 induction h with
 | nil=>exact .inl ⟨rfl,rfl⟩
 | @cons p q l m h1 h ih =>
  unfold cw at ih ⊢
  rw [List.find?_cons,List.find?_cons,h1.id]
  cases p.ID == id
  ·exact ih
  exact .inr ⟨p,q,rfl,rfl,h1⟩
theorem PsLe.mem {l m:List Zb} (h:PsLe l m) {p:Zb} (hp:p∈l):∃ q∈m,PLe p q:=by
 induction h with
 | nil=>cases hp
 | @cons x q l m h1 h ih =>
  rcases List.mem_cons.1 hp with e | hp'
  ·subst e;exact ⟨q,by simp,h1⟩
  obtain ⟨r,k1,k2⟩:=ih hp'
  exact ⟨r,by simp [k1],k2⟩
theorem adm_ple {l m:List Zb} (h:PsLe l m) (ag:List Zc) (i:ByteArray) (c:Za):mC m ag i c=mC l ag i c:=by
 unfold mC
 rcases h.find c.Product with ⟨h1,h2⟩ | ⟨p,q,h1,h2,h3⟩
 ·rw [h1,h2]
 rw [h1,h2]
 cases nu ag c.Agreement with
 | none=>rfl
 | some a=>simp only [h3.ctr,h3.code]
theorem CC {l m:List Zb} (h:PsLe l m) (id:Int) (hs:(cw l id).isSome=true):PLe (bF l id) (bF m id):=by
 unfold bF
 rcases h.find id with ⟨h1,h2⟩ | ⟨p,q,h1,h2,h3⟩
 ·rw [h1] at hs;cases hs
 rw [h1,h2];exact h3
theorem ye {plan plan':List Zb} {l:List Zc} (hv:VPs plan) (hv':VPs plan') (hl:VAs l) (ha:AscA l) (imp:ByteArray) (h:PsLe plan plan'):∀ c,i7 plan l imp c=true→i7 plan' l imp c=true:=by
 refine CA hv hl ha hv' hl ha fun g hg=>?_
 have hr:=nG hl hg
 have hf:=(kK hg).2
 obtain ⟨p,hp,a,hal,hc,hru,h1⟩:=kb.1 hg
 obtain ⟨q,hq,hle⟩:=h.mem hp
 have hg':g∈dU plan' l imp:=kb.2 ⟨q,hq,a,hal,by rw [adm_ple h,hle.id];exact hc,by rw [hle.code];exact hru,by rw [hle.id];exact h1⟩
 exact ⟨hg',fun S=>yd hv hv' imp g.1 (CC h) rfl (fun x hx=>hx) (fun c hc=>hc) hf (kK hg').2 g.2 hr.2.1⟩
theorem PLe.refl {plan:List Zb} {p:Zb} (h:VProd plan p):PLe p p:=⟨rfl,rfl,rfl,rfl,rfl,rfl,Chp.refl fun x hx=>(h.inp x hx).2.1⟩
section
variable {plan:List Zb} (R:Int→Bool) (hR:∀ p∈plan,R p.ID=true→∀ y∈p.Inputs,R y.Product=true)
end
section
variable (x:Zm)
mutual
def fol:Ze→List Int→Option (List Int)
 | ⟨k,d,e,t,m,n,l⟩,p=>cond (k == 5) (yf l p) (cond (k == 6) (cond (!p.isEmpty&&decide (0≤p.headD 0)) (sF l (p.headD 0).toNat p.tail) none) (cond (iE ⟨k,d,e,t,m,n,l⟩ x) (some p) none))
def yf:List Ze→List Int→Option (List Int)
 | [],p=>some p
 | a::l,p=>match fol a p with
  | some q=>yf l q
  | none=>none
def sF:List Ze→Nat→List Int→Option (List Int)
 | [],_,_=>none
 | a::_,0,p=>fol a p
 | _::l,n+1,p=>sF l n p
end
end
mutual
theorem zc (x:Zm):∀ (r:Ze) (p q:List Int),fol x r p=some q→(jE x r).isSome=true
 | ⟨k,d,e,t,m,n,l⟩,p,q,h=>by
  rw [fol] at h
  rw [jE]
  cases h5:(k == 5)
  ·rw [h5] at h
   simp only [cA] at h ⊢
   cases h6:(k == 6)
   ·rw [h6] at h
    simp only [cA] at h ⊢
    cases hh:iE ⟨k,d,e,t,m,n,l⟩ x
    ·rw [hh] at h;cases h
    rfl
   rw [h6] at h
   simp only [cK] at h ⊢
   cases hi:(!p.isEmpty&&decide (0≤p.headD 0))
   ·rw [hi] at h;cases h
   rw [hi] at h;exact wI x l _ 0 _ q h
  rw [h5] at h
  exact wJ x l p q h
theorem wJ (x:Zm):∀ (l:List Ze) (p q:List Int),yf x l p=some q→(ja x l).isSome=true
 | [],p,q,h=>by rw [ja];rfl
 | a::l,p,q,h=>by
  rw [yf] at h
  rw [ja]
  cases ha:fol x a p with
  | none=>rw [ha] at h;cases h
  | some s =>
   rw [ha] at h
   obtain ⟨w,e1⟩:=Option.isSome_iff_exists.1 (zc x a p s ha)
   obtain ⟨v,e2⟩:=Option.isSome_iff_exists.1 (wJ x l s q h)
   rw [e1,e2];rfl
theorem wI (x:Zm):∀ (l:List Ze) (n i:Nat) (p q:List Int),sF x l n p=some q→(kJ x i l).isSome=true
 | [],n,i,p,q,h=>by rw [sF] at h;cases h
 | a::l,0,i,p,q,h=>by
  rw [sF] at h
  rw [kJ]
  obtain ⟨w,e1⟩:=Option.isSome_iff_exists.1 (zc x a p q h)
  rw [e1];rfl
 | a::l,n+1,i,p,q,h=>by
  rw [sF] at h
  rw [kJ]
  cases jE x a with
  | none=>exact wI x l n (i+1) p q h
  | some w=>rfl
end
mutual
theorem zd (x:Zm):∀ (r:Ze) (w t:List Int),jE x r=some w→fol x r (w++t)=some t
 | ⟨k,d,e,u,m,n,l⟩,w,t,h=>by
  rw [jE] at h
  rw [fol]
  cases h5:(k == 5)
  ·rw [h5] at h
   simp only [cA] at h ⊢
   cases h6:(k == 6)
   ·rw [h6] at h
    simp only [cA] at h ⊢
    cases hh:iE ⟨k,d,e,u,m,n,l⟩ x
    ·rw [hh] at h;cases h
    rw [hh] at h;injection h with h;subst h;rfl
   rw [h6] at h
   simp only [cK] at h ⊢
   obtain ⟨j,v,e1,e2⟩:=wK x l 0 w t h
   subst e1
   show cond (true&&decide (0≤((0+j:Nat):Int))) (sF x l ((0+j:Nat):Int).toNat (v++t)) none=_
   rw [det (by omega),Bool.and_self,cK,show ((0+j:Nat):Int).toNat=j by omega]
   exact e2
  rw [h5] at h
  exact wL x l w t h
theorem wL (x:Zm):∀ (l:List Ze) (w t:List Int),ja x l=some w→yf x l (w++t)=some t
 | [],w,t,h=>by rw [ja] at h;injection h with h;subst h;rw [yf];rfl
 | a::l,w,t,h=>by
  rw [ja] at h
  rw [yf]
  cases ha:jE x a with
  | none=>rw [ha] at h;cases h
  | some p =>
   cases hl:ja x l with
   | none=>rw [ha,hl] at h;cases h
   | some q =>
    rw [ha,hl,bQ,bQ] at h
    injection h with h
    subst h
    rw [List.append_assoc,zd x a p (q++t) ha]
    exact wL x l q t hl
theorem wK (x:Zm):∀ (l:List Ze) (i:Nat) (w t:List Int),kJ x i l=some w→∃ (j:Nat) (v:List Int),w=((i+j:Nat):Int)::v∧sF x l j (v++t)=some t
 | [],i,w,t,h=>by rw [kJ] at h;cases h
 | a::l,i,w,t,h=>by
  rw [kJ] at h
  cases ha:jE x a with
  | none =>
   rw [ha] at h
   obtain ⟨j,v,e1,e2⟩:=wK x l (i+1) w t h
   exact ⟨j+1,v,by rw [e1];congr 2;omega,by rw [sF];exact e2⟩
  | some p =>
   rw [ha] at h
   injection h with h
   exact ⟨0,p,h.symm,by rw [sF];exact zd x a p t ha⟩
end

section
variable {γ π:Type}
end
section
variable (ps:List Prf)
def uT (d:Za):Option Nat:=ps.findIdx? fun p=>decide (p.1=d)
inductive Reach (c:Za):Za→Prop
 | base:Reach c c
 | step {d e:Za} {i:Nat} {p:Prf} (h:Reach c d) (h1:uT ps d=some i) (h2:ps[i]?=some p) (h3:e∈p.2.2):Reach c e
variable {ps} {c:Za}
def TCov (ps:List Prf) (nd:List Bool) (todo:List Za) (e:Za):Prop:=e∈todo∨∃ j,uT ps e=some j∧nd[j]?=some true
structure ZE (ps:List Prf) (c:Za) (nd:List Bool) (todo:List Za):Prop where
 len:nd.length=ps.length
 tr:∀ d∈todo,Reach ps c d
 nr:∀ i:Nat,nd[i]?=some true→∃ d,Reach ps c d∧uT ps d=some i
 cl:∀ (i:Nat) p,nd[i]?=some true→ps[i]?=some p→∀ e∈p.2.2,TCov ps nd todo e
 st:TCov ps nd todo c
structure NInv (ps:List Prf) (c:Za) (need:List Za) (k:Nat):Prop where
 rr:∀ d∈need,Reach ps c d
 st:c∈need
 nd:need.Nodup
 cl:∀ (j:Nat),j<k→∀ d,need[j]?=some d→∃ i p,uT ps d=some i∧ps[i]?=some p∧∀ e∈p.2.2,e∈need
end
mutual
theorem CD (x:Zm):∀ l:List Ze,(ja x l).isSome=l.all fun a=>(jE x a).isSome
 | []=>by rw [ja];rfl
 | a::l=>by
  have h:=CD x l
  rw [ja,List.all_cons,← h]
  cases jE x a with
  | none=>rfl
  | some p=>cases ja x l <;> rfl
theorem CE (x:Zm):∀ (l:List Ze) (i:Nat),(kJ x i l).isSome=l.any fun a=>(jE x a).isSome
 | [],i=>by rw [kJ];rfl
 | a::l,i=>by
  have h:=CE x l (i+1)
  rw [kJ,List.any_cons,← h]
  cases jE x a <;> rfl
end

def sf (g:Goal):Zi:=⟨g.1,g.2⟩
def si (p:Prf):Zg:=⟨p.1,p.2.1,p.2.2⟩
def lu (plan:List Zb) (l:List Zc) (imp:ByteArray) (p:Zb) (a:Zc):Option Goal:=cond (mC plan l imp ⟨p.ID,a.ID⟩) ((gw a p.Code).map fun r=>((⟨p.ID,a.ID⟩:Za),r)) none
theorem wM {α β:Type} (h:α→Option β):∀ (l:List α) (s:List β),l.foldl (fun s a=>s++(h a).toList) s=s++l.filterMap h
 | [],s=>by simp
 | a::l,s=>by
  rw [List.foldl_cons,wM h l]
  cases ha:h a with
  | none=>rw [List.filterMap_cons_none ha];simp
  | some b=>rw [List.filterMap_cons_some ha];simp
theorem tI (plan:List Zb) (l:List Zc) (imp:ByteArray):(dU plan l imp).length≤plan.length*l.length:=by
 have key:∀ q:List Zb,(q.flatMap fun p=>l.filterMap (lu plan l imp p)).length≤q.length*l.length:=by
  intro q
  induction q with
  | nil=>simp
  | cons p q ih =>
   rw [List.flatMap_cons,List.length_append,List.length_cons,Nat.add_mul,Nat.one_mul]
   have:=List.length_filterMap_le (lu plan l imp p) l;omega
 exact key plan
theorem yg {plan:List Zb} {l:List Zc} (hv:VPs plan) (hl:VAs l) (imp:ByteArray):gM plan l imp=some ((dU plan l imp).map sf):=by
 unfold gM
 have hlen:=hv.len
 have hll:=hl.len
 have inner:∀ (p:Zb) (s:List Zi),s.length≤64000→Option.bind (bf (S:=(List Zi)×Int) (T:=((List Zi))) (fun (l17,v20)=>cond (decide (v20<(l.length:Int))) (Option.bind (Option.bind (idx l v20) (fun m33=>Option.bind (dA m33 p.Code) (fun x36=>Option.bind (gd x36.2 (bZ plan l imp (⟨p.ID,m33.ID⟩:Za))) (fun x38=>cond (x36.2&&x38) (Option.bind (app 112 l17 [(⟨(⟨p.ID,m33.ID⟩:Za),x36.1⟩:Zi)]) (fun l42=>some l42)) (some l17))))) (fun l31=>some (.inl (l31,(IntKind.i64.wrap (v20+1)))))) (some (.inr l17))) FUEL (s,0)) (fun t=>(some t:Option (List Zi)))=some (s++(l.filterMap (lu plan l imp p)).map sf):=by
  intro p s hs
  refine (ez (l:=l) (by omega) (fun i (s:List Zi)=>(s,i)) (fun s a=>s++((lu plan l imp p a).map sf).toList) (fun s=>s) (fun k t=>t.length≤s.length+k) s (Nat.le_refl _) (fun k hk t ht=>?_) (fun t _=>by simp only [fY,cA])).1.trans ?_
  ·simp only [ml hk,cK,bp hk,bQ,dr hk (show l.length≤4611686018427387904 by omega)]
   have hva:=hl.all _ (List.getElem_mem hk)
   rw [pJ _ _ hva,bQ,wy _ _ _ _ hv.sorted hl]
   unfold lu
   cases hr:gw l[k] p.Code with
   | none =>
    have e:(cond (mC plan l imp ⟨p.ID,l[k].ID⟩) ((none:Option Ze).map fun r=>((⟨p.ID,l[k].ID⟩:Za),r)) none)=none:=by cases mC plan l imp ⟨p.ID,l[k].ID⟩ <;> rfl
    rw [e]
    exact ⟨by simp [mN,gd],by simp;omega⟩
   | some r =>
    show Option.bind (Option.bind (gd true (some (mC plan l imp ⟨p.ID,l[k].ID⟩))) _) _=_∧_
    rw [gt,bQ]
    cases mC plan l imp ⟨p.ID,l[k].ID⟩
    ·exact ⟨by simp [mN],by simp;omega⟩
    show Option.bind (Option.bind (app 112 t [_]) _) _=_∧_
    rw [eM (by simp;omega) (by simp;omega)]
    exact ⟨rfl,by simp;omega⟩
  rw [wM (fun a=>(lu plan l imp p a).map sf)]
  congr 2
  rw [List.map_filterMap]
 refine (ez (l:=plan) (by omega) (fun i (s:List Zi)=>(s,i)) (fun s p=>s++(l.filterMap (lu plan l imp p)).map sf) (fun s=>s) (fun k t=>t.length≤1000*k) [] (by simp) (fun k hk t ht=>?_) (fun t _=>by simp only [fY,cA])).1.trans ?_
 ·simp only [ml hk,cK,bp hk,bQ,dr hk (show plan.length≤4611686018427387904 by omega)]
  have hin:=inner plan[k] t (by omega)
  have e:∀ {α β:Type} (x:Option α) (z:α) (K:α→Option β),Option.bind x (fun t=>some t)=some z→Option.bind x K=K z:=by
   intro α β x z K h
   cases x with
   | none=>cases h
   | some y=>injection h with h;rw [h];rfl
  refine ⟨e _ _ _ hin,?_⟩
  have:=List.length_filterMap_le (lu plan l imp plan[k]) l
  simp;omega
 have key:∀ (q:List Zb) (s:List Zi),q.foldl (fun s p=>s++(l.filterMap (lu plan l imp p)).map sf) s=s++(q.flatMap fun p=>l.filterMap (lu plan l imp p)).map sf:=by
  intro q
  induction q with
  | nil=>intro s;simp
  | cons p q ih=>intro s;rw [List.foldl_cons,ih,List.flatMap_cons,List.map_append,List.append_assoc]
 rw [key,List.nil_append];rfl
theorem As:fA=iY:=rfl
theorem yh {plan:List Zb} {l:List Zc} (hv:VPs plan) (hl:VAs l) {imp:ByteArray} {g:Goal} (hg:g∈dU plan l imp) (known:List Za) (hk:known.length≤100000) (ps:List Zg) (hps:ps.length≤100000) :
    el (sf g) plan l imp known ps=some ((gj plan l imp (cj known) g).isSome,known,ps++((gj plan l imp (cj known) g).map si).toList):=by
  unfold el
  have hf:=kK hg
  have hr:=nG hl hg
  rw [As,Ak hv hl imp _ known (by omega),bQ]
  unfold Cu sf
  dsimp only
  rw [hf.1]
  simp only [cK]
  rw [uQ (r5 hv imp g.1 _ hf.2) hr.1 hr.2.1 hr.2.2,bQ]
  unfold gj
  cases hw:jE (iD plan l imp g.1 (cj known)) g.2 with
  | none=>simp [mN]
  | some w =>
    show Option.bind (cond true (Option.bind (app 64 ps [_]) _) _) _=_
    rw [cK,eM (by simp;omega) (by simp;omega)];rfl
theorem yi {plan:List Zb} {l:List Zc} (hv:VPs plan) (hl:VAs l) {imp:ByteArray} (o:List Goal) (ho:∀ g∈o,g∈dU plan l imp) (ps:List Prf) (hlen:ps.length+o.length≤64000) {β:Type} (K:List Zi×List Zg×List Za→Option β) :
    Option.bind (bf (S:=(List Zi)×Int×(List Zg)×(List Za)) (T:=((List Zi)×(List Zg)×(List Za))) (fun (l27,v30,l32,l36)=>cond (decide (v30<((o.map sf).length:Int))) (Option.bind (Option.bind (idx (o.map sf) v30) (fun m68=>Option.bind (el m68 plan l imp l36 l32) (fun x70=>cond (!x70.1) (Option.bind (app 112 l27 [m68]) (fun l80=>some (l80,x70.2.2,x70.2.1))) (some (l27,x70.2.2,x70.2.1))))) (fun (l58,l62,l66)=>some (.inl (l58,(IntKind.i64.wrap (v30+1)),l62,l66)))) (some (.inr (l27,l32,l36)))) FUEL (([]:List Zi),0,ps.map si,ps.map fun p:Prf=>p.1)) K =
      K ((o.filter fun g=>(gj plan l imp (cj (ps.map fun p:Prf=>p.1)) g).isNone).map sf,(ps++o.filterMap (gj plan l imp (cj (ps.map fun p:Prf=>p.1)))).map si,ps.map fun p:Prf=>p.1):=by
  generalize hS:(ps.map fun p:Prf=>p.1)=known
  have hkn:known.length=ps.length:=by rw [← hS,List.length_map]
  have hml:(o.map sf).length=o.length:=List.length_map _
  refine (ez (l:=o.map sf) (by omega) (fun i (s:List Zi×List Zg)=>(s.1,i,s.2,known)) (fun s t=>match gj plan l imp (cj known) (t.claim,t.rule) with | some p=>(s.1,s.2++[si p]) | none=>(s.1++[t],s.2)) (fun s=>(s.1,s.2,known)) (fun k s=>s.1.length≤k∧s.2.length≤ps.length+k) ([],ps.map si) ⟨by simp,by simp⟩ (fun k hk s hs=>?_) (fun s _=>by simp only [fY,cA])).1.trans ?_
  · obtain ⟨a,b⟩:=s
    obtain ⟨h1,h2⟩:=hs
    dsimp only at h1 h2 ⊢
    simp only [ml hk,cK,bp hk,bQ,dr hk (show (o.map sf).length≤4611686018427387904 by omega)]
    have hk':k<o.length:=by omega
    rw [List.getElem_map,yh hv hl (ho _ (List.getElem_mem hk')) known (by omega) b (by omega),bQ]
    rw [show gj plan l imp (cj known) ((sf o[k]).claim,(sf o[k]).rule)=gj plan l imp (cj known) o[k] from rfl]
    cases hp:gj plan l imp (cj known) o[k] with
    | none =>
      simp only [Option.isSome_none,Bool.not_false,cK]
      rw [eM (by simp;omega) (by simp;omega)]
      exact ⟨by simp,by simp;omega,by omega⟩
    | some p =>
      simp only [Option.isSome_some,Bool.not_true,cA]
      exact ⟨rfl,by omega,by simp;omega⟩
  have key:∀ (o:List Goal) (a:List Zi) (b:List Zg),(o.map sf).foldl (fun (s:List Zi×List Zg) t=>match gj plan l imp (cj known) (t.claim,t.rule) with | some p=>(s.1,s.2++[si p]) | none=>(s.1++[t],s.2)) (a,b)=(a++(o.filter fun g=>(gj plan l imp (cj known) g).isNone).map sf,b++(o.filterMap (gj plan l imp (cj known))).map si):=by
    intro o
    induction o with
    | nil=>intro a b;simp
    | cons g o ih =>
      intro a b
      rw [List.map_cons,List.foldl_cons,List.filter_cons]
      show List.foldl _ (match gj plan l imp (cj known) g with | some p=>(a,b++[si p]) | none=>(a++[sf g],b)) _=_
      cases hp:gj plan l imp (cj known) g with
      | none=>rw [List.filterMap_cons_none hp];dsimp only;rw [ih];simp
      | some p=>rw [List.filterMap_cons_some hp];dsimp only;rw [ih];simp
  rw [key,List.nil_append,List.map_append]
def pb (p0:List Zb) (p1:List Zc) (p2:ByteArray):(List Zi)×(List Zg)×(List Za)→Option (((List Zi)×(List Zg)×(List Za))⊕(Unit⊕(List Zg×Int))):=(fun (l13,l15,l19)=>Option.bind (bf (S:=(List Zi)×Int×(List Zg)×(List Za)) (T:=((List Zi)×(List Zg)×(List Za))) (fun (l27,v30,l32,l36)=>cond (decide (v30<(l13.length:Int))) (Option.bind (Option.bind (idx l13 v30) (fun m68=>Option.bind (el m68 p0 p1 p2 l36 l32) (fun x70=>cond (!x70.1) (Option.bind (app 112 l27 [m68]) (fun l80=>some (l80,x70.2.2,x70.2.1))) (some (l27,x70.2.2,x70.2.1))))) (fun (l58,l62,l66)=>some (.inl (l58,(IntKind.i64.wrap (v30+1)),l62,l66)))) (some (.inr (l27,l32,l36)))) FUEL (([]:List Zi),0,l15,l19)) (fun (l42,l46,l50)=>cond (((l46.length:Nat):Int) == ((l15.length:Nat):Int)) (some (.inr (.inr (l46,(0:Int))))) (Option.bind (sub l46 ((l15.length:Nat):Int) (l46.length:Int)) (fun l85=>Option.bind (bf (S:=Int×(List Za)) (T:=((List Za))) (fun (v86,l88)=>cond (decide (v86<((l46.length - ((l15.length:Nat):Int).toNat:Nat):Int))) (Option.bind (lv v86) (fun u100=>Option.bind (idx l46 (((l15.length:Nat):Int)+v86)) (fun m101=>Option.bind (app 16 l88 [m101.Claim]) (fun l105=>some (.inl ((IntKind.i64.wrap (v86+1)),l105)))))) (some (.inr l88))) FUEL (0,l50)) (fun l96=>some (.inl (l42,l46,l96)))))))
theorem At (a b:List Zg) (known:List Za) (h:a.length+b.length+known.length≤200000) {β:Type} (K:List Za→Option β) :
    Option.bind (bf (S:=Int×(List Za)) (T:=((List Za))) (fun (v86,l88)=>cond (decide (v86<(((a++b).length - ((a.length:Nat):Int).toNat:Nat):Int))) (Option.bind (lv v86) (fun u100=>Option.bind (idx (a++b) (((a.length:Nat):Int)+v86)) (fun m101=>Option.bind (app 16 l88 [m101.Claim]) (fun l105=>some (.inl ((IntKind.i64.wrap (v86+1)),l105)))))) (some (.inr l88))) FUEL (0,known)) K=K (known++b.map (·.Claim)):=by
  have e:(a++b).length - ((a.length:Nat):Int).toNat=b.length:=by rw [List.length_append];omega
  rw [e]
  refine (ez (l:=b) (by omega) (fun i (s:List Za)=>(i,s)) (fun s p=>s++[p.Claim]) (fun s=>s) (fun k s=>s.length≤known.length+k) known (Nat.le_refl _) (fun k hk s hs=>?_) (fun s _=>by simp only [fY,cA])).1.trans ?_
  · simp only [ml hk,cK,dr hk (show b.length≤4611686018427387904 by omega)]
    rw [xU (by omega),bQ,show ((a.length:Nat):Int)+(k:Int)=((a.length+k:Nat):Int) by omega,bp (show a.length+k<(a++b).length by rw [List.length_append];omega),bQ,eM (by simp;omega) (by simp;omega),bQ]
    have e2:(a++b)[a.length+k]'(by rw [List.length_append];omega)=b[k]:=by rw [List.getElem_append_right (by omega)];congr 1;omega
    rw [e2]
    exact ⟨rfl,by simp;omega⟩
  have key:∀ (b:List Zg) (s:List Za),b.foldl (fun s p=>s++[p.Claim]) s=s++b.map (·.Claim):=by
    intro b
    induction b with
    | nil=>intro s;simp
    | cons p b ih=>intro s;rw [List.foldl_cons,ih];simp
  rw [key]
theorem pg (ps:List Prf):(ps.map si).map (·.Claim)=ps.map fun p:Prf=>p.1:=by rw [List.map_map];rfl
theorem oh {γ π:Type} (f:γ→Option π):∀ o:List γ,(o.filterMap f).length+(o.filter fun g=>(f g).isNone).length=o.length
 | []=>rfl
 | g::o=>by
  have ih:=oh f o
  rw [List.filter_cons]
  cases hf:f g with
  | some p=>rw [List.filterMap_cons_some hf];simp;omega
  | none=>rw [List.filterMap_cons_none hf];simp;omega
theorem wN {plan:List Zb} {l:List Zc} (hv:VPs plan) (hl:VAs l) {imp:ByteArray}:∀ (n:Nat) (o:List Goal) (ps:List Prf) (N:Nat),o.length≤n→n<N→(∀ g∈o,g∈dU plan l imp)→ps.length+o.length≤64000 →
    bf (pb plan l imp) N (o.map sf,ps.map si,ps.map fun p:Prf=>p.1)=some (.inr ((iq (fun p:Prf=>p.1) (gj plan l imp) n o ps).map si,0)):=by
  have step:∀ (o:List Goal) (ps:List Prf),(∀ g∈o,g∈dU plan l imp)→ps.length+o.length≤64000→pb plan l imp (o.map sf,ps.map si,ps.map fun p:Prf=>p.1)=cond (o.filterMap (gj plan l imp (cj (ps.map fun p:Prf=>p.1)))).isEmpty (some (.inr (.inr (ps.map si,0))))
      (some (.inl ((o.filter fun g=>(gj plan l imp (cj (ps.map fun p:Prf=>p.1)) g).isNone).map sf,(ps++o.filterMap (gj plan l imp (cj (ps.map fun p:Prf=>p.1)))).map si,(ps++o.filterMap (gj plan l imp (cj (ps.map fun p:Prf=>p.1)))).map fun p:Prf=>p.1))):=by
    intro o ps ho hlen
    unfold pb
    refine (yi hv hl o ho ps hlen _).trans ?_
    have hnl:=List.length_filterMap_le (gj plan l imp (cj (ps.map fun p:Prf=>p.1))) o
    generalize o.filterMap (gj plan l imp (cj (ps.map fun p:Prf=>p.1)))=new at hnl
    dsimp only
    rw [List.map_append]
    cases hn:new.isEmpty
    · have hne:new≠[]:=fun e=>by rw [e] at hn;cases hn
      have hpos:0<new.length:=List.length_pos_iff.2 hne
      rw [show ((((ps.map si++new.map si).length:Nat):Int) == (((ps.map si).length:Nat):Int))=false from by rw [beq_eq_false_iff_ne];simp;omega]
      simp only [cA]
      rw [us (by simp) (Nat.le_refl _),bQ,At _ _ _ (by simp;omega)]
      rw [pg,← List.map_append,← List.map_append]
    have e:new=[]:=List.isEmpty_iff.1 hn
    subst e
    simp
  intro n
  induction n with
  | zero =>
    intro o ps N ho hN hg hlen
    obtain rfl:o=[]:=List.length_eq_zero_iff.1 (by omega)
    obtain ⟨N,rfl⟩:∃ m,N=m+1:=⟨N - 1,by omega⟩
    rw [iq,gA,step [] ps hg hlen];rfl
  | succ n ih =>
    intro o ps N ho hN hg hlen
    obtain ⟨N,rfl⟩:∃ m,N=m+1:=⟨N - 1,by omega⟩
    rw [gA,step o ps hg hlen,iq]
    cases he:(o.filterMap (gj plan l imp (cj (ps.map fun p:Prf=>p.1)))).isEmpty
    · have h1:=oN he
      have h2:=oh (gj plan l imp (cj (ps.map fun p:Prf=>p.1))) o
      exact ih _ _ N (by omega) (by omega) (fun g hg'=>hg g (List.mem_filter.1 hg').1) (by rw [List.length_append];omega)
    rfl
theorem yj {plan:List Zb} {l:List Zc} (hv:VPs plan) (hl:VAs l) {imp:ByteArray} (h1:cO plan=some 0) (h2:cP l=some 0) (h3:bK imp=some true):f8 plan l imp=some ((mE plan l imp).map si,0):=by
 have hlen:=hv.len
 have hll:=hl.len
 have hg:=tI plan l imp
 have hm:plan.length*l.length≤64*1000:=Nat.mul_le_mul hlen hll
 unfold f8
 rw [h1,bQ,h2,bQ,h3,bQ,yg hv hl,bQ]
 simp only [bne_self_eq_false,cA,Bool.not_true]
 have key:=wN hv hl (imp:=imp) (dU plan l imp).length (dU plan l imp) [] FUEL (Nat.le_refl _) (by have hf:FUEL=1267650600228229401496703205376:=rfl;omega) (fun g h=>h) (by simp;omega)
 exact (congrArg (fun o=>Option.bind o _) key).trans rfl

section
variable {γ δ π:Type} [DecidableEq δ] {gc:γ→δ} {cl:π→δ} {pv:(δ→Bool)→γ→Option π}
end
theorem ph {α T:Type}:∀ (m:List α) (i:Nat),co (fun (_:Nat) (_:α)=>(none:Option T)) m i=none
 | [],_=>rfl
 | _::m,i=>ph m (i+1)
theorem Au (l:List Zb) (x:Zf) (hl:l.length≤140737488355328):bu l (fun y=>bW y x)=some (cw l x.Product).isSome:=by
 unfold bu
 have e:bC l (fun y=>bW y x)=some (match co (fun k p=>cond (p.ID == x.Product) (some (Sum.inr (k:Int):Unit⊕Int)) none) l 0 with | some (.inr k)=>k | _ => -1):=by
  unfold bC
  refine (cR (l:=l) (by omega) (fun k (p:Zb)=>cond (p.ID == x.Product) (some (.inr (k:Int))) none) (.inl ()) (fun k hk=>?_) (by simp only [fY,cA])).trans ?_
  ·simp only [ml hk,cK,bp hk,bQ,dr hk (show l.length≤4611686018427387904 by omega)]
   unfold bW
   rw [bQ];cases (l[k].ID == x.Product) <;> rfl
  cases co (fun k (p:Zb)=>cond (p.ID == x.Product) (some (Sum.inr (k:Int):Unit⊕Int)) none) l 0 with
  | none=>rfl
  | some t=>cases t <;> rfl
 rw [e,bQ]
 unfold cw
 rcases lS (fun p:Zb=>p.ID == x.Product) (fun k=>(Sum.inr (k:Int):Unit⊕Int)) l 0 with ⟨h1,h2⟩ | ⟨j,hj,h1,h2⟩
 ·rw [h1,h2];rfl
 rw [h1,h2]
 show some (decide (0≤((0+j:Nat):Int)))=_
 rw [det (by omega)];rfl
structure VIds (l:List Zb):Prop where
 id:∀ p∈l,1≤p.ID∧p.ID≤1000000
 lvl:∀ p∈l,e9 p.Code=6∨e9 p.Code=8
theorem ze {α:Type} {f:α→Int} {l:List α} (h:l.Pairwise fun a b=>f a<f b) {k:Nat} (h0:0<k) (hk:k<l.length):f (l[k - 1]'(by omega))<f l[k]:=List.pairwise_iff_getElem.1 h (k - 1) k (by omega) hk (by omega)
theorem wO {plan:List Zb} (hv:VPs plan) {p:Zb} (hp:VProd plan p):cL plan p.Inputs=some 0:=by
 unfold cL
 have hlen:=hv.len
 have hfew:=hp.few
 refine (cR (l:=p.Inputs) (by omega) (fun _ _=>none) (.inl ()) (fun k hk=>?_) (by simp only [fY,cA])).trans ?_
 ·have hin:=hp.inp _ (List.getElem_mem hk)
  simp only [ml hk,cK,bp hk,bQ,dr hk (show p.Inputs.length≤4611686018427387904 by omega),d0k]
  rw [Au _ _ (by omega),hin.1,cC (show ¬ p.Inputs[k].Value<0 by omega),cC (show ¬ 1000000000000<p.Inputs[k].Value by omega)]
  by_cases h0:0<k
  ·have hlt:=ze hp.asc h0 hk
   rw [det h0,gt,ko h0 hk (by omega),bQ,cC (by omega)];rfl
  rw [cC h0];rfl
 rw [ph];rfl
theorem uU {plan:List Zb} {p:Zb} (hp:VProd plan p) (hl:e9 p.Code=6∨e9 p.Code=8) (hw:StrsOk p.Processes):cH p=some 0:=by
 unfold cH
 show Option.bind (some (e9 p.Code)) _=_
 have hne:((e9 p.Code != 6)&&(e9 p.Code != 8))=false:=by rcases hl with h | h <;> rw [h] <;> rfl
 have hfew:=hp.few
 have hpr:=hp.price
 rw [bQ,hne,Bool.not_false,gt,lp,hp.ctr,bQ,Bool.not_true,Bool.or_self,Bool.not_false,gt,n9 _ hw,hp.proc,bQ]
 simp only [Bool.not_true,Bool.or_self,cA]
 rw [cC (show ¬ p.Price<1 by omega),cC (show ¬ 1000000000000<p.Price by omega),cC (show ¬ 8<(p.Inputs.length:Int) by omega)]
 simp only [Bool.or_self,cA]
 cases ho:p.Obtained
 ·rfl
 rw [hp.obt ho];rfl
theorem Av {plan:List Zb} {p:Zb} (hp:VProd plan p):StrsOk p.Processes:=by
 obtain ⟨h1,h2,_⟩:=i5 hp.proc
 exact ⟨by omega,fun s hs=>by have:=r4 (h2 s hs);omega⟩
theorem yk {plan:List Zb} (hv:VPs plan) (hi:VIds plan):cO plan=some 0:=by
 unfold cO
 have hlen:=hv.len
 rw [cC (by omega),cA]
 refine (cR (l:=plan) (by omega) (fun _ _=>none) (.inl ()) (fun k hk=>?_) (by simp only [fY,cA])).trans ?_
 ·have hm:=List.getElem_mem hk
  have hp:=hv.all _ hm
  have hid:=hi.id _ hm
  simp only [ml hk,cK,bp hk,bQ,dr hk (show plan.length≤4611686018427387904 by omega),d0k]
  rw [cC (show ¬ plan[k].ID<1 by omega),cC (show ¬ 1000000<plan[k].ID by omega),uU hp (hi.lvl _ hm) (Av hp),wO hv hp]
  by_cases h0:0<k
  ·have hlt:=ze hv.asc h0 hk
   rw [det h0,gt,ko h0 hk (by omega),bQ,cC (by omega)];rfl
  rw [cC h0];rfl
 rw [ph];rfl
theorem MPs.vids {l:List Zb} (h:MPs l):VIds l:=by
 have hlen:=h.len
 refine ⟨fun p hp=>?_,fun p hp=>?_⟩
 ·obtain ⟨i,hi,rfl⟩:=List.getElem_of_mem hp
  have:=(h.all i _ (List.getElem?_eq_getElem hi)).id;omega
 obtain ⟨i,hi,rfl⟩:=List.getElem_of_mem hp
 exact (h.all i _ (List.getElem?_eq_getElem hi)).lvl.1


theorem p6 {plan:List Zb} {l:List Zc} (hv:VPs plan) (hl:VAs l) (ha:AscA l) (imp:ByteArray):(mE plan l imp).length≤64000∧∀ p∈mE plan l imp,p.2.1.length≤1000∧p.2.2.length≤64:=by
 have hg:=tI plan l imp
 have hm:plan.length*l.length≤64*1000:=Nat.mul_le_mul hv.len hl.len
 have key:∀ (n:Nat) (o:List Goal) (ps:List Prf),(∀ g∈o,g∈dU plan l imp)→(∀ p∈ps,p.2.1.length≤1000∧p.2.2.length≤64)→(iq (fun p:Prf=>p.1) (gj plan l imp) n o ps).length≤ps.length+o.length∧∀ p∈iq (fun p:Prf=>p.1) (gj plan l imp) n o ps,p.2.1.length≤1000∧p.2.2.length≤64:=by
  intro n
  induction n with
  | zero=>intro o ps _ h;exact ⟨by rw [iq];omega,by rw [iq];exact h⟩
  | succ n ih =>
   intro o ps ho h
   rw [iq]
   have hs:=oh (gj plan l imp (cj (ps.map fun p:Prf=>p.1))) o
   cases (o.filterMap (gj plan l imp (cj (ps.map fun p:Prf=>p.1)))).isEmpty
   ·obtain ⟨i1,i2⟩:=ih (o.filter fun g=>(gj plan l imp (cj (ps.map fun p:Prf=>p.1)) g).isNone) (ps++o.filterMap (gj plan l imp (cj (ps.map fun p:Prf=>p.1)))) (fun g hg=>ho g (List.mem_filter.1 hg).1) (fun p hp=>by
     rcases List.mem_append.1 hp with hp | hp
     ·exact h p hp
     obtain ⟨g,k1,k2⟩:=List.mem_filterMap.1 hp
     have hr:=nG hl (ho g k1)
     unfold gj at k2
     cases hw:jE (iD plan l imp g.1 (cj (ps.map fun p:Prf=>p.1))) g.2 with
     | none=>rw [hw] at k2;cases k2
     | some w =>
      rw [hw,Option.map_some] at k2
      injection k2 with k2
      subst k2
      exact ⟨by have:=qC _ _ w hw;dsimp only;omega,Cw hv imp g.1 _ (kK (ho g k1)).2⟩)
    exact ⟨by rw [List.length_append] at i1;simp only [cA];omega,i2⟩
   ·exact ⟨by simp only [cK];omega,h⟩
 obtain ⟨k1,k2⟩:=key (dU plan l imp).length (dU plan l imp) [] (fun g h=>h) (fun p hp=>by cases hp)
 exact ⟨by unfold mE;simp only [List.length_nil] at k1;omega,k2⟩
theorem CF (l:List Zg) (c:Za) (hl:l.length≤140737488355328):gH l c=some (cj (l.map (·.Claim)) c):=by
 unfold gH bx
 have e:bk l (fun y=>iT y c)=some (match co (fun k (p:Zg)=>cond (Za.eqb p.Claim c) (some (Sum.inr (k:Int):Unit⊕Int)) none) l 0 with | some (.inr k)=>k | _ => -1):=by
  unfold bk
  refine (cR (l:=l) (by omega) (fun k (p:Zg)=>cond (Za.eqb p.Claim c) (some (.inr (k:Int))) none) (.inl ()) (fun k hk=>?_) (by simp only [fY,cA])).trans ?_
  ·simp only [ml hk,cK,bp hk,bQ,dr hk (show l.length≤4611686018427387904 by omega)]
   unfold iT
   rw [bQ];cases (Za.eqb l[k].Claim c) <;> rfl
  cases co (fun k (p:Zg)=>cond (Za.eqb p.Claim c) (some (Sum.inr (k:Int):Unit⊕Int)) none) l 0 with
  | none=>rfl
  | some t=>cases t <;> rfl
 rw [e,bQ,bQ]
 rcases lS (fun p:Zg=>Za.eqb p.Claim c) (fun k=>(Sum.inr (k:Int):Unit⊕Int)) l 0 with ⟨h1,h2⟩ | ⟨j,hj,h1,h2⟩
 ·rw [h1]
  have:cj (l.map (·.Claim)) c=false:=by
   rw [Co,List.mem_map]
   rintro ⟨p,hp,rfl⟩
   exact List.find?_eq_none.1 h2 p hp (Za.eqb_iff.2 rfl)
  rw [this];rfl
 rw [h1]
 have:cj (l.map (·.Claim)) c=true:=by
  rw [oK,List.mem_map]
  have:=List.find?_some h2
  exact ⟨l[j],List.getElem_mem hj,Za.eqb_iff.1 this⟩
 rw [this]
 show some (decide (0≤((0+j:Nat):Int)))=_
 rw [det (by omega)]
theorem Aw {plan:List Zb} {l:List Zc} (hv:VPs plan) (hl:VAs l) (ha:AscA l) (imp:ByteArray) (c:Za):gH ((mE plan l imp).map si) c=some (i7 plan l imp c):=by
 have h:=(p6 hv hl ha imp).1
 rw [CF _ _ (by rw [List.length_map];omega),pg];rfl
theorem tJ (p:List Zb) (l:List Zc) (i:ByteArray):fU p l i=f8 p l i:=rfl
theorem zf {y:Zf}:∀ {l:List Zf} {j:Nat} (hj:j<l.length),(∀ x∈l,0≤x.Value)→y.Product=l[j].Product→0≤y.Value→y.Value≤l[j].Value→Chp l (l.set j y)
 | [],_,hj,_,_,_,_=>absurd hj (Nat.not_lt_zero _)
 | x::l,0,_,h,h1,h2,h3=>.cons h1 h2 h3 (Chp.refl fun z hz=>h z (by simp [hz]))
 | x::l,j+1,hj,h,h1,h2,h3=>.cons rfl (h x (by simp)) (Int.le_refl _) (zf (l:=l) (j:=j) (by simpa using hj) (fun z hz=>h z (by simp [hz])) (by simpa using h1) h2 (by simpa using h3))
theorem wP {p:Zb} (h:∀ x∈p.Inputs,0≤x.Value):PLe p p:=⟨rfl,rfl,rfl,rfl,rfl,rfl,Chp.refl h⟩
theorem pj:∀ {l:List Zb},(∀ p∈l,∀ x∈p.Inputs,0≤x.Value)→PsLe l l
 | [],_=>.nil
 | p::l,h=>.cons (wP (h p (by simp))) (pj fun q hq=>h q (by simp [hq]))
theorem wQ {q:Zb}:∀ {l:List Zb} {k:Nat} (hk:k<l.length),(∀ p∈l,∀ x∈p.Inputs,0≤x.Value)→PLe l[k] q→PsLe l (l.set k q)
 | [],_,hk,_,_=>absurd hk (Nat.not_lt_zero _)
 | p::l,0,_,h,h1=>.cons h1 (pj fun z hz=>h z (by simp [hz]))
 | p::l,k+1,hk,h,h1=>.cons (wP (h p (by simp))) (wQ (l:=l) (k:=k) (by simpa using hk) (fun z hz=>h z (by simp [hz])) (by simpa using h1))
theorem asc_set {y:Zf} {l:List Zf} {j:Nat} (hj:j<l.length) (h1:y.Product=l[j].Product) (h:l.Pairwise fun a b=>a.Product<b.Product):(l.set j y).Pairwise fun a b=>a.Product<b.Product:=by
 have e:(l.set j y).map (·.Product)=l.map (·.Product):=by
  apply List.ext_getElem?
  intro i
  rw [List.getElem?_map,List.getElem?_map,List.getElem?_set]
  split
  ·rename_i hji
   subst hji
   rw [List.getElem?_eq_getElem hj]
   simp [h1]
  rfl
 have k1:(l.map (·.Product)).Pairwise (· < ·):=List.pairwise_map.2 h
 rw [← e] at k1
 exact List.pairwise_map.1 k1
theorem Ax {p:List Zb} (h:MPs p) {k j:Nat} (hk:k<p.length) (hj:j<p[k].Inputs.length) {w:Int} (h0:0≤w) (h1:w<100) {q:Zb} (hq:q=⟨p[k].ID,p[k].Code,p[k].Country,p[k].Price,p[k].Obtained,p[k].Processes,p[k].Inputs.set j ⟨p[k].Inputs[j].Product,ji p[k].Inputs[j].Value w⟩⟩):MPs (p.set k q)∧PsLe p (p.set k q):=by
 have hm:=h.all k _ (List.getElem?_eq_getElem hk)
 obtain ⟨hx1,hx2,hx3⟩:=hm.inp _ (List.getElem_mem hj)
 have hmin:0≤ji p[k].Inputs[j].Value w∧ji p[k].Inputs[j].Value w≤p[k].Inputs[j].Value:=by unfold ji;split <;> omega
 have hall:∀ r∈p,∀ x∈r.Inputs,0≤x.Value:=fun r hr x hx=>by
  obtain ⟨i,hi,rfl⟩:=List.getElem_of_mem hr
  exact ((h.all i _ (List.getElem?_eq_getElem hi)).inp x hx).2.1
 refine ⟨⟨by rw [List.length_set];exact h.len,fun i r hr=>?_⟩,wQ hk hall ?_⟩
 ·rw [List.length_set]
  rw [List.getElem?_set] at hr
  split at hr
  ·rename_i hki
   subst hki
   obtain rfl:=Option.some.inj hr
   subst hq
   refine ⟨hm.id,hm.lvl,hm.ctr,hm.price,hm.proc,by dsimp only;rw [List.length_set];exact hm.few,asc_set hj rfl hm.asc,fun x hx=>?_,fun ho=>?_⟩
   ·rcases List.mem_or_eq_of_mem_set hx with hx | rfl
    ·exact hm.inp x hx
    exact ⟨hx1,hmin.1,by dsimp only;omega⟩
   have:=hm.obt ho
   rw [this] at hj;exact absurd hj (Nat.not_lt_zero _)
  exact h.all i r hr
 subst hq
 exact ⟨rfl,rfl,rfl,rfl,rfl,rfl,zf hj (hall _ (List.getElem_mem hk)) rfl hmin.1 hmin.2⟩
theorem CG:jB=some true:=by kernel_rfl
theorem sg {p:List Zb} {l:List Zc} {imp:ByteArray} (h1:MPs p) (h2:MAs l) (h3:imp∈C6):f8 p l imp=some ((mE p l imp).map si,0) :=
 yj h1.vps h2.vas (yk h1.vps h1.vids) (by rw [B4 l h2.ok,h2.valid]) (by rw [lp,C6_ctry h3])
theorem oO (m0 m1:List Int) (m2 m3 m4 m5:Int) {κ:Kr} {v0 v1 v2 v3 v4 v5:List Value} (_:Rps κ (eL eI m0) v0) (_:Rps κ (eL eI m1) v1) (_:Rps κ (eI m2) v2) (_:Rps κ (eI m3) v3) (_:Rps κ (eI m4) v4) (_:Rps κ (eI m5) v5):fJ m0 m1 m2 m3 m4 m5=some true:=by
 unfold fJ
 obtain ⟨p,e1,h1⟩:=plan_Y m0
 obtain ⟨l,e2,h2⟩:=uD m1
 obtain ⟨imp,e4,h4⟩:=xO m2
 have hp:=h1.len
 rw [e1,bQ,e2,bQ,e4,bQ,tJ,sg h1 h2 h4,bQ]
 obtain ⟨k,e5,k1,k2⟩:=lQ m3 ((p.length:Nat):Int) (by omega) (by omega)
 obtain ⟨k,rfl⟩:∃ n:Nat,k=(n:Int):=⟨k.toNat,by omega⟩
 have hk:k<p.length:=by omega
 rw [e5,bQ,bp hk,bQ]
 have hq:∃ p',(cond (decide (0<(p[k].Inputs.length:Int))) (Option.bind (dF m4 (p[k].Inputs.length:Int)) (fun x21=>Option.bind (some p[k]) (fun m24=>Option.bind (app 16 ([]:List Zf) m24.Inputs) (fun l25=>Option.bind (idx l25 x21) (fun m31=>Option.bind (dF m5 100) (fun x32=>Option.bind (idx l25 x21) (fun m33=>Option.bind (some p[k]) (fun m35=>some (p.set (k:Int).toNat (⟨m35.ID,m35.Code,m35.Country,m35.Price,m35.Obtained,m35.Processes,(l25.set x21.toNat (⟨m33.Product,(ji m31.Value x32)⟩:Zf))⟩:Zb)))))))))) (some p))=some p'∧MPs p'∧PsLe p p':=by
  have hm:=h1.all k _ (List.getElem?_eq_getElem hk)
  have hfew:=hm.few
  cases hd:decide (0<(p[k].Inputs.length:Int)) with
  | false =>
   refine ⟨p,rfl,h1,pj fun r hr x hx=>?_⟩
   obtain ⟨i,hi,rfl⟩:=List.getElem_of_mem hr
   exact ((h1.all i _ (List.getElem?_eq_getElem hi)).inp x hx).2.1
  | true =>
   have hd:=of_decide_eq_true hd
   obtain ⟨j,e6,j1,j2⟩:=lQ m4 (p[k].Inputs.length:Int) (by omega) (by omega)
   obtain ⟨j,rfl⟩:∃ n:Nat,j=(n:Int):=⟨j.toNat,by omega⟩
   have hj:j<p[k].Inputs.length:=by omega
   obtain ⟨w,e7,w1,w2⟩:=lQ m5 100 (by omega) (by omega)
   rw [cK,e6,bQ,bQ,eM (by simp;omega) (by simp;omega),bQ,List.nil_append,bp hj,bQ,e7,bQ,bQ,bQ]
   obtain ⟨a1,a2⟩:=Ax h1 hk hj w1 w2 rfl
   exact ⟨_,rfl,a1,a2⟩
 obtain ⟨p',e8,h5,h6⟩:=hq
 rw [e8,bQ,tJ,sg h5 h2 h4,bQ]
 have hlen:=(p6 h1.vps h2.vas h2.asc imp).1
 generalize hX:(mE p l imp).map si=X
 have hXl:X.length≤64000:=by rw [← hX,List.length_map];exact hlen
 have hc:∀ (k:Nat) (hk:k<X.length),i7 p l imp X[k].Claim=true:=fun k hk=>by
  subst hX
  unfold i7
  rw [oK,← pg]
  exact List.mem_map_of_mem (List.getElem_mem hk)
 have key:∀ {x:Option Bool},Y x (fun a=>a=true)→x=some true:=fun ⟨_,h1,h2⟩=>by rw [h1,h2]
 refine key (Y.bind (P:=fun t:Unit⊕Bool=>t=.inl ()) ?_ ?_)
 ·refine Y.loop (fun s:List Zg×Int=>s.1=(mE p' l imp).map si∧∃ k:Nat,k≤X.length∧s.2=(k:Int)) (fun s=>(X.length - s.2).toNat) ⟨rfl,0,Nat.zero_le _,rfl⟩ (by dsimp only;omega) ?_
  rintro ⟨a,i⟩ ⟨ha,k,hk,hi⟩
  dsimp only at ha hi ⊢
  subst ha hi
  refine Y.cond (fun h=>?_) (fun _=>Y.ret rfl)
  have h:k<X.length:=by have:=of_decide_eq_true h;omega
  rw [bp h,bQ,Aw h5.vps h2.vas h2.asc,bQ,ye h1.vps h5.vps h2.vas h2.asc imp h6 _ (hc k h)]
  refine Y.ret ⟨⟨rfl,k+1,h,?_⟩,?_⟩
  ·dsimp only;rw [cU (by omega) (by omega)];omega
  dsimp only;rw [cU (by omega) (by omega)];omega
 rintro t rfl
 show Y (Option.bind (gd (((0:Int) == 0)&&((0:Int) == 0)) jB) _) _
 rw [show (((0:Int) == 0)&&((0:Int) == 0))=true from rfl,gt,CG]
 exact Y.ret rfl
def bd3:Nat→Int→Prop:=fun _ _=>True
theorem op3 {H:Type} {eh:TypeId×Value→H} {nb:Nat}:Opens eh nb 3 eI (bd3 nb):=z8 rfl
def bd22:Nat→(List Int)→Prop:=fun n l=>l.length*8≤140737488355328∧l.length≤n∧∀ x∈l,bd3 n x
theorem op22 {H:Type} {eh:TypeId×Value→H} {nb:Nat}:Opens eh nb 22 (eL eI) (bd22 nb):=wl rfl rfl rfl rfl op3
end SX
end Go.Proofs.YthbphcbhedmnoaaGreatDoor
set_option maxRecDepth 100000
namespace Go.Proofs.YthbphcbhedmnoaaGreatDoor
open Go Go.ChangeShapes Go.WideShapes Go.RowKit
open SX
theorem originCheaper_lifted (os:Os) (started:os.Started) (H:Type) (enc:TypeId×Value→H) :
    ReturnsInHanded {} Tryz.checked os 5 .any (fun w args=>(Rows.originCheaperSpec.pre enc Tryz.prog Tryz.f5 [] false w args∧laidMetH Tryz.prog tv w)∧sizedMet enc Tryz.prog Tryz.f5 (OpenSpec.ofChange Rows.originCheaperSpec) false w args)
      (Rows.originCheaperSpec.post enc Tryz.prog Tryz.f5 false true false false):=by
  refine returnsInHanded_of_change_and (C:=Tryz.checked) (X:=fun w _=>laidMetH Tryz.prog tv w) (fun _ _ _ hh h=>h.of_heap hh) own_ok started (by kernel_rfl) Tryz.func5
    (ChangeSpec.witness_at (enc:=enc) (C:=Tryz.checked) (os:=os) (X:=fun w _=>laidMetH Tryz.prog tv w) false (laidWorld os) #[.slice none 0 0,.slice none 0 0,.int .i64 0,.int .i64 0,.int .i64 0,.int .i64 0] 8 rfl (by kernel_rfl) (by kernel_rfl) (by kernel_rfl) (by kernel_rfl) (by kernel_rfl) (sA os _)) ?_
  intro W base args ds gs before hval0 hW _ hwt hL _
  have hval:∀ (j:Nat) t v,Tryz.f5.params[j]?=some t→args[j]?=some v→Value.okWide Tryz.prog W .any base t v:=hval0
  have hW2:=hW
  obtain ⟨p,q,hA0,hV0,rfl,_,_⟩:=hW
  have hA:DataW.TrodAll enc Tryz.prog W 0 (fun _=>true) true [22,22,3,3,3,3] args.toList ds p:=hA0
  obtain ⟨rfl,rfl⟩:gs=[]∧q=[]:=by
    cases gs with
    | nil=>exact ⟨rfl,hV0⟩
    | cons g r=>exact absurd hV0 (by intro h;cases h)
  generalize hargs:args.toList=vs at hA
  have hval2:∀ (j:Nat) t v,[22,22,3,3,3,3][j]?=some t→vs[j]?=some v→Value.okWide Tryz.prog W .any base t v:=fun j t v h1 h2=>hval j t v (by rw [Tryz.params5];simpa using h1) (by rw [← hargs] at h2;simpa using h2)
  obtain ⟨v0,vs0,d0,ds0,p0,q0,rfl,rfl,h0,hA⟩:=SX.trodAll_cons hA
  obtain ⟨v1,vs1,d1,ds1,p1,q1,rfl,rfl,h1,hA⟩:=SX.trodAll_cons hA
  obtain ⟨v2,vs2,d2,ds2,p2,q2,rfl,rfl,h2,hA⟩:=SX.trodAll_cons hA
  obtain ⟨v3,vs3,d3,ds3,p3,q3,rfl,rfl,h3,hA⟩:=SX.trodAll_cons hA
  obtain ⟨v4,vs4,d4,ds4,p4,q4,rfl,rfl,h4,hA⟩:=SX.trodAll_cons hA
  obtain ⟨v5,vs5,d5,ds5,p5,q5,rfl,rfl,h5,hA⟩:=SX.trodAll_cons hA
  obtain ⟨rfl,rfl⟩:=SX.trodAll_nil hA
  have hw:(DataW.weightsEach Tryz.prog [22,22,3,3,3,3] [d0,d1,d2,d3,d4,d5]).all (· ≤ reachBytes)=true:=hwt
  obtain ⟨l0,hw⟩:=SX.light_head hw
  obtain ⟨m0,s0,b0⟩:=nE rfl rfl op22 (fun _=>⟨_,rfl⟩) (hval2 0 22 v0 rfl rfl) h0 l0 (Nat.le_refl _)
  obtain ⟨l1,hw⟩:=SX.light_head hw
  obtain ⟨m1,s1,b1⟩:=nE rfl rfl op22 (fun _=>⟨_,rfl⟩) (hval2 1 22 v1 rfl rfl) h1 l1 (Nat.le_refl _)
  obtain ⟨l2,hw⟩:=SX.light_head hw
  obtain ⟨m2,s2,b2⟩:=nE rfl rfl op3 (fun _=>⟨_,rfl⟩) (hval2 2 3 v2 rfl rfl) h2 l2 (Nat.le_refl _)
  obtain ⟨l3,hw⟩:=SX.light_head hw
  obtain ⟨m3,s3,b3⟩:=nE rfl rfl op3 (fun _=>⟨_,rfl⟩) (hval2 3 3 v3 rfl rfl) h3 l3 (Nat.le_refl _)
  obtain ⟨l4,hw⟩:=SX.light_head hw
  obtain ⟨m4,s4,b4⟩:=nE rfl rfl op3 (fun _=>⟨_,rfl⟩) (hval2 4 3 v4 rfl rfl) h4 l4 (Nat.le_refl _)
  obtain ⟨l5,hw⟩:=SX.light_head hw
  obtain ⟨m5,s5,b5⟩:=nE rfl rfl op3 (fun _=>⟨_,rfl⟩) (hval2 5 3 v5 rfl rfl) h5 l5 (Nat.le_refl _)
  exact Ch (readB (by kernel_rfl)) rfl (bB rfl) rfl (by simp [Rows.originCheaperSpec]) hW2 (wn hL) (by rw [hargs];exact (s0.app (s1.app (s2.app (s3.app (s4.app s5)))))) (mw (oO m0 m1 m2 m3 m4 m5 s0 s1 s2 s3 s4 s5))
theorem originCheaper_holds:Rows.OriginCheaperSaid :=
 OpenClaim.holds_of_wide 5 Tryz.f5 rfl rfl rfl rfl rfl rfl rfl ⟨rfl,rfl,rfl,rfl,rfl⟩ rfl rfl rfl rfl rfl originCheaper_named Tryz.func5 originCheaper_closed
  (of_decide_eq_true (by kernel_rfl)) (by unfold Func.isWrapper;rw [if_neg (of_decide_eq_false (by kernel_rfl))];exact ⟨rfl,rfl⟩)
  (fun os started H enc _=>originCheaper_lifted os started H enc)
theorem originCheaper_card:Rows.OriginCheaperCardSaid :=
 Claim7.holds_tied_plain_at .later [] [.data,.data,.pinned] true (true, "d271fc30cff10d59a72863d1eb68a3d84db99f08108d2c8632d41447e35cdff0") true
  originCheaper_holds (fun _ h=>by cases h) (by as_aux_lemma=>kernel_rfl) (fun _ h=>by cases h) originCheaper_row_tie rfl ⟨rfl,rfl⟩ fp_main rfl
  (fun f fn hf hfn=>by
   obtain rfl:f=5:=Option.some.inj ((show Tryz.prog.funcNamed "customs/customslaw15.OriginCheaper" = some 5 from originCheaper_named).symm.trans hf) |>.symm
   obtain rfl:fn=Tryz.f5:=(Option.some.inj (Tryz.func5.symm.trans hfn)).symm
   exact ⟨fp_looks,fun j t ht=>by
    rw [Tryz.params5] at ht
    exact wo (by as_aux_lemma=>kernel_rfl) ht⟩)
  originCheaper_goes
#print axioms originCheaper_card
end Go.Proofs.YthbphcbhedmnoaaGreatDoor
