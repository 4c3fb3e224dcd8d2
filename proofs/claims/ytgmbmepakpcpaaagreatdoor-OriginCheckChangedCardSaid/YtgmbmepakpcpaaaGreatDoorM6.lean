/- OriginCheckChanged: for every input the law returns true, and each argument reads afterwards as it read before. Conditions: the package variables are as the program's text lays them (the card ties them). -/
import Derived.Test.YtgmbmepakpcpaaaGreatDoorM5
import Derived.Test.YtgmbmepakpcpaaaGreatDoorL8q
set_option linter.unusedVariables false
set_option linter.unusedSimpArgs false
set_option maxHeartbeats 4000000
set_option maxRecDepth 100000
namespace Go.Proofs.YtgmbmepakpcpaaaGreatDoor
namespace SX
open Go
theorem cf_ge (x y:Za):decide (0≤mD x y) = !bu x y:=by
 unfold mD bu
 rcases Int.lt_trichotomy x.Product y.Product with h | h | h
 ·rw [if_pos h];simp [h]
 ·simp only [h,Int.lt_irrefl,if_false,if_true,decide_false,decide_true,Bool.false_or,Bool.true_and]
  rcases Int.lt_trichotomy x.Agreement y.Agreement with h2 | h2 | h2
  ·rw [if_pos h2];simp [h2]
  ·simp [h2]
  rw [if_neg (by omega),if_pos h2,bF (show ¬ x.Agreement<y.Agreement by omega)];rfl
 have h1:¬ x.Product<y.Product:=by omega
 have h3:¬ x.Product=y.Product:=by omega
 simp [h,h1,h3]
theorem wr {α T:Type} (g:Nat→α→Option T):∀ (l:List α) (i:Nat) (t:T),cA g l i=some t→∃ k,∃ h:k<l.length,g (i+k) l[k]=some t
 | [],_,_,e=>by cases e
 | x::l,i,t,e=>by
  rw [cA] at e
  cases hg:g i x with
  | some u=>rw [hg] at e;exact ⟨0,by simp,by rw [← e];exact hg⟩
  | none =>
   rw [hg] at e
   obtain ⟨k,h,hk⟩:=wr g l (i+1) t e
   exact ⟨k+1,by simpa using h,by rw [show i+(k+1)=i+1+k by omega];simpa using hk⟩
theorem wv (a b:List Za) (ha:a.length≤140737488355328):bX a b=some (decide (a=b)):=rn a b ha
theorem AT {plan:List Zc} {l:List Zb} (hv:VPs plan) (hl:VAs l) {imp:ByteArray} (m:List (Za×Bool)) {c:Za} (h:jd plan l imp c=true):dt ⟨⟨m⟩,plan,l,imp⟩ c=some (nO plan l c):=by
 unfold dt
 have hll:=hl.len
 rw [sw hv,bc]
 dsimp only
 refine (bD (l:=l) (by omega) (fun _ (a:Zb)=>cond (a.ID == c.Agreement) (some (.inr ((dw a (bO plan c.Product).Code).getD rm))) none) (.inl ()) (fun k hk=>?_) (by simp only [cT,bB])).trans ?_
 ·simp only [ic hk,bS,aQ hk,bc,bP hk (show l.length≤4611686018427387904 by omega)]
  cases (l[k].ID == c.Agreement)
  ·rfl
  simp only [bS]
  rw [qu _ _ (hl.all _ (List.getElem_mem hk)),bc,vZ];rfl
 rw [iP (fun a:Zb=>a.ID == c.Agreement) (fun a=>(Sum.inr ((dw a (bO plan c.Product).Code).getD rm):Unit⊕Zd))]
 obtain ⟨a,ha⟩:=Option.isSome_iff_exists.1 (CU h)
 unfold nO kL
 rw [ha]
 unfold j0 at ha
 rw [ha];rfl
theorem t8 {plan:List Zc} {l:List Zb} {imp:ByteArray} (hl:VAs l) {c:Za} (h:jd plan l imp c=true):ROk (nO plan l c)∧dH (nO plan l c)=true∧pD (nO plan l c)≤32:=tu hl (Ga h)
theorem AU (plan:List Zc) (l:List Zb) (imp:ByteArray) (c:Za) (S:CSet):Strict bu (ol plan l imp c S):=tp ordC _
theorem ww {plan:List Zc} {l:List Zb} (hv:VPs plan) (imp:ByteArray) {c:Za} (S:CSet) (h:jd plan l imp c=true):(ol plan l imp c S).length≤140737488355328:=by
 have:=Ax hv (l:=l) imp c S (oo h)
 omega
theorem B2 {plan:List Zc} {l:List Zb} (hv:VPs plan) (hl:VAs l) (imp:ByteArray) (m:List (Za×Bool)) (K:CSet) (hK:∀ c,(kh m c).getD false=K c) (p:Zf) (hp:p.Premises.length≤140737488355328) :
    dB ⟨⟨m⟩,plan,l,imp⟩ p=some (nP plan l imp K (uv p)):=by
  unfold dB
  have hhas:∀ c,dK ⟨m⟩ c=some (K c):=fun c=>by unfold dK;rw [hK]
  dsimp only
  rw [vX _ _ _ _ hv.sorted hl,bc,hhas]
  unfold nP uv
  dsimp only
  cases hadm:jd plan l imp p.Claim with
  | false=>rfl
  | true =>
    simp only [Bool.not_true,Bool.not_false,co,bc,Bool.false_or,Bool.true_and]
    cases hk:K p.Claim with
    | true=>rfl
    | false =>
      simp only [bB,Bool.not_false,Bool.true_and]
      refine (bD (l:=p.Premises) (by omega) (fun k x=>cond (K x&&(!decide (0<k)||bu (p.Premises.getD (k - 1) x) x)) none (some (.inr false))) (.inl ()) (fun k hk=>?_) (by simp only [cT,bB])).trans ?_
      · simp only [ic hk,bS,aQ hk,bc,bP hk (show p.Premises.length≤4611686018427387904 by omega),Bt,hhas]
        cases hkx:K p.Premises[k]
        · rfl
        by_cases h0:0<k
        · simp only [h0,decide_true,Bool.not_true,Bool.not_false,Bool.true_and,co,fL h0 hk (show p.Premises.length≤4611686018427387904 by omega),bc,Bw,cf_ge,Bool.false_or,fh (show k - 1<p.Premises.length by omega)]
          cases bu (p.Premises[k-1]'(by omega)) p.Premises[k] <;> rfl
        simp only [h0,decide_false,Bool.not_true,Bool.not_false,Bool.true_and,jm,bc,Bool.false_and,Bool.false_or,Bool.true_or,bB,bS];rfl
      cases hf:cA (fun k x=>cond (K x&&(!decide (0<k)||bu (p.Premises.getD (k - 1) x) x)) none (some (Sum.inr false:Unit⊕Bool))) p.Premises 0 with
      | none =>
        have hall:=t7 _ _ _ hf
        have hKall:p.Premises.all K=true:=by
          rw [List.all_eq_true]
          intro x hx
          obtain ⟨k,hk,rfl⟩:=List.getElem_of_mem hx
          have:=hall k hk
          cases hc:K p.Premises[k] with
          | true=>rfl
          | false=>rw [hc] at this;cases this
        rw [hKall]
        simp only [Option.getD_none]
        rw [xH hv hl imp _ _ hp,bc]
        unfold tZ
        rw [hadm]
        simp only [bS]
        rw [wv _ _ (ww hv imp _ hadm),bc]
        cases hd:decide (ol plan l imp p.Claim (aZ p.Premises)=p.Premises) with
        | false=>rfl
        | true =>
          simp only [Bool.not_true,bB,Bool.true_and]
          obtain ⟨k1,k2,k3⟩:=t8 hl hadm
          rw [AT hv hl m hadm,bc,AR (o7 hv imp _ _ (oo hadm)) k1 k2 k3]
          rfl
      | some t =>
        obtain ⟨k,hk,hg⟩:=wr _ _ _ _ hf
        rw [Nat.zero_add] at hg
        have ht:t=.inr false∧(K p.Premises[k]&&(!decide (0<k)||bu (p.Premises.getD (k - 1) p.Premises[k]) p.Premises[k]))=false:=by
          cases hc:(K p.Premises[k]&&(!decide (0<k)||bu (p.Premises.getD (k - 1) p.Premises[k]) p.Premises[k])) with
          | true=>rw [hc] at hg;cases hg
          | false=>rw [hc] at hg;injection hg with hg;exact ⟨hg.symm,rfl⟩
        obtain ⟨rfl,hbad⟩:=ht
        have hfalse:(p.Premises.all K&&decide (ol plan l imp p.Claim (aZ p.Premises)=p.Premises))=false:=by
          cases hc:(p.Premises.all K&&decide (ol plan l imp p.Claim (aZ p.Premises)=p.Premises)) with
          | false=>rfl
          | true =>
            rw [Bool.and_eq_true] at hc
            have h1:=List.all_eq_true.1 hc.1 _ (List.getElem_mem hk)
            have h2:=AU plan l imp p.Claim (aZ p.Premises)
            rw [of_decide_eq_true hc.2] at h2
            rw [h1,Bool.true_and] at hbad
            by_cases h0:0<k
            · rw [det h0,Bool.not_true,Bool.false_or,fh (show k - 1<p.Premises.length by omega)] at hbad
              have:=List.pairwise_iff_getElem.1 h2 (k - 1) k (by omega) hk (by omega)
              rw [this] at hbad;cases hbad
            rw [bF h0] at hbad;cases hbad
        rw [hfalse];rfl
theorem D0 {plan:List Zc} {l:List Zb} (hv:VPs plan) (hl:VAs l) (imp:ByteArray) (set:List Za) (hs:set.length≤1000000) (p:Zf) (hp:p.Premises.length≤140737488355328) (v:Int) {β:Type}
    (K:List Za→Option (β⊕((List Zf)⊕(Int×Int)))) {Q:Unit⊕(β⊕((List Zf)⊕(Int×Int)))→Option (β⊕((List Zf)⊕(Int×Int)))}
    (hQ1:Q (.inl ())=Option.bind (fB plan l imp p.Claim p.Premises) (fun x21=>Option.bind (eR plan p.Claim.Product) (fun x23=>Option.bind (dV l p.Claim.Agreement) (fun x25=>Option.bind (e9 x25.1 x23.1.Code) (fun x27=>Option.bind (fH x21.2 p.Premises) (fun x29=>Option.bind (gd (!(!x29)) (ja x27.1 x21.1 p.Path)) (fun x30=>cond ((!x29)||(!x30)) (some (.inr (.inr (v,(10:Int))))) (Option.bind (ez set p.Claim) K)))))))) (hQ2:∀ e,Q (.inr e)=some e) :
    Option.bind (cY plan l imp p.Claim) (fun x11=>Option.bind (gd (!(!x11)) (cL set p.Claim)) (fun x12=>cond ((!x11)||x12) (some (.inr (.inr (v,(10:Int))))) (Option.bind (aU (S:=Int) (T:=(Unit)⊕(β⊕((List Zf)⊕(Int×Int)))) (fun v14=>cond (decide (v14<(p.Premises.length:Int))) (Option.bind (idx p.Premises v14) (fun m18=>Option.bind (cL set m18) (fun x19=>cond (!x19) (some (.inr (.inr (.inr (.inr (v,(10:Int))))))) (some (.inl (IntKind.i64.wrap (v14+1))))))) (some (.inr (.inl ())))) FUEL 0) Q)))
    = cond (nP plan l imp (aZ set) (uv p)) (K (iw bu set p.Claim)) (some (.inr (.inr (v,10)))):=by
  rw [yJ _ _ _ _ (by have:=hv.len;omega) hl,bc]
  unfold nP uv
  dsimp only
  cases hadm:jd plan l imp p.Claim with
  | false=>rfl
  | true =>
    simp only [Bool.not_true,Bool.not_false,co,Bool.false_or,Bool.true_and,mI _ _ (show set.length≤140737488355328 by omega),bc]
    cases hk:aZ set p.Claim with
    | true=>rfl
    | false =>
      simp only [bB,Bool.not_false,Bool.true_and]
      refine (bD (l:=p.Premises) (by omega) (fun _ x=>cond (!aZ set x) (some (.inr (.inr (.inr (v,(10:Int)))))) none) (.inl ()) (fun k hk=>?_) (by simp only [cT,bB])).trans ?_
      · simp only [ic hk,bS,aQ hk,bc,bP hk (show p.Premises.length≤4611686018427387904 by omega)]
        cases aZ set p.Premises[k] <;> rfl
      rw [iP (fun x:Za => !aZ set x) (fun _=>(Sum.inr (Sum.inr (Sum.inr (v,(10:Int)))):Unit⊕(β⊕((List Zf)⊕(Int×Int)))))]
      cases hf:p.Premises.find? (fun x => !aZ set x) with
      | some y =>
        have h1:=List.mem_of_find?_eq_some hf
        have h2:=List.find?_some hf
        have:p.Premises.all (aZ set)=false:=by
          rw [List.all_eq_false]
          exact ⟨y,h1,by simpa using h2⟩
        rw [this]
        simp only [Option.map_some,Option.getD_some]
        rw [hQ2];rfl
      | none =>
        have hall:p.Premises.all (aZ set)=true:=by
          rw [List.all_eq_true]
          intro y hy
          have:=List.find?_eq_none.1 hf y hy
          simpa using this
        rw [hall]
        simp only [Option.map_none,Option.getD_none]
        rw [hQ1]
        have hA:(j0 l p.Claim.Agreement).isSome=true:=CU hadm
        obtain ⟨a,hfa⟩:=Option.isSome_iff_exists.1 hA
        have hva:=(nh hl hfa).1
        have hru:dw a (bO plan p.Claim.Product).Code=dw (kL l p.Claim.Agreement) (bO plan p.Claim.Product).Code:=by unfold kL;rw [hfa];rfl
        rw [Av hv hl imp _ _ hp,bc,qU hv,bc,qQ _ _ (by have:=hl.len;omega),bc,vZ,hfa]
        dsimp only [Option.getD_some]
        rw [oZ _ _ hva.ok.len,bc,vZ,hru]
        unfold tZ
        rw [hadm]
        simp only [bS]
        rw [rn _ _ (ww hv imp _ hadm),bc]
        cases hd:decide (ol plan l imp p.Claim (aZ p.Premises)=p.Premises) with
        | false=>rfl
        | true =>
          obtain ⟨k1,k2,k3⟩:=t8 hl hadm
          simp only [Bool.not_true,Bool.not_false,co,Bool.false_or,Bool.true_and]
          have hver:=B1 (o7 (l:=l) hv imp p.Claim (aZ p.Premises) (oo hadm)) k2 k3 p.Path
          unfold nO at hver ⊢
          rw [hver,bc]
          cases decide (wf (oj plan l imp p.Claim (aZ p.Premises)) ((dw (kL l p.Claim.Agreement) (bO plan p.Claim.Product).Code).getD rm) p.Path=some [])
          · rfl
          simp only [Bool.not_true,bB,bS]
          rw [qT _ _ (by omega),bc]
def iE (plan:List Zc) (l:List Zb) (imp:ByteArray):List Za→List Prf→Nat→Int×Int
 | _,[],k=>((k:Int),0)
 | K,p::ps,k=>cond (nP plan l imp (aZ K) p) (iE plan l imp (K++[p.1]) ps (k+1)) ((k:Int),10)
structure XSm (x:List Zf):Prop where
 len:x.length≤1000000
 prem:∀ p∈x,p.Premises.length≤140737488355328
theorem wx {x:List Zf} {k:Nat} (h:k<x.length):(x.take (k+1)).map (·.Claim)=(x.take k).map (·.Claim)++[x[k].Claim]:=by rw [DY h,List.map_append];rfl
theorem wy {plan:List Zc} {l:List Zb} {imp:ByteArray} {x:List Zf} {k:Nat} (h:k<x.length):iE plan l imp ((x.take k).map (·.Claim)) ((x.drop k).map uv) k=cond (nP plan l imp (aZ ((x.take k).map (·.Claim))) (uv x[k])) (iE plan l imp ((x.take (k+1)).map (·.Claim)) ((x.drop (k+1)).map uv) (k+1)) ((k:Int),10):=by
 rw [List.drop_eq_getElem_cons h,List.map_cons,iE,wx h];rfl
theorem B3 {plan:List Zc} {l:List Zb} (hv:VPs plan) (hl:VAs l) {imp:ByteArray} (h1:db plan=some 0) (h2:da l=some 0) (h3:bN imp=some true) {x:List Zf} (hx:XSm x):cN plan l imp x=some (iE plan l imp [] (x.map uv) 0):=by
 have key:Y (cN plan l imp x) (fun r=>r=iE plan l imp [] (x.map uv) 0):=by
  unfold cN
  have hlen:=hx.len
  rw [h1,bc,show ((0:Int) != 0)=false from rfl,bB,h2,bc,show ((0:Int) != 0)=false from rfl,bB,h3,bc,Bool.not_true,bB]
  refine Y.bind (P:=fun t=>match t with | .inl _=>iE plan l imp [] (x.map uv) 0=((x.length:Int),0) | .inr e=>e=iE plan l imp [] (x.map uv) 0) ?_ fun t ht=>?_
  ·refine Y.loop (fun s:Int×List (Za×Bool)=>∃ k:Nat,s.1=(k:Int)∧k≤x.length∧(∀ c,(kh s.2 c).getD false=aZ ((x.take k).map (·.Claim)) c)∧iE plan l imp ((x.take k).map (·.Claim)) ((x.drop k).map uv) k=iE plan l imp [] (x.map uv) 0) (fun s=>(x.length - s.1).toNat) ⟨0,rfl,by omega,fun c=>rfl,rfl⟩ (by show ((x.length:Int) - 0).toNat≤_;omega) (fun s hs=>?_)
   obtain ⟨v,m⟩:=s
   obtain ⟨k,hvk,hk,hm,he⟩:=hs
   dsimp only at hvk hm he ⊢
   subst hvk
   rcases Nat.lt_or_ge k x.length with hk2 | hk2
   rotate_left
   ·have e:k=x.length:=by omega
    subst e
    rw [cT,bB]
    rw [List.drop_length] at he
    exact Y.ret he.symm
   rw [ic hk2,bS,aQ hk2,bc,B2 hv hl imp m _ hm _ (hx.prem _ (List.getElem_mem hk2)),bc]
   rw [wy hk2] at he
   cases hr:nP plan l imp (aZ ((x.take k).map (·.Claim))) (uv x[k]) with
   | false=>rw [hr] at he;exact Y.ret he
   | true =>
    rw [hr,bS] at he
    simp only [Bool.not_true,bB]
    unfold fY
    rw [bc,bP hk2 (by omega)]
    refine Y.ret ⟨⟨k+1,rfl,by omega,fun c=>?_,he⟩,?_⟩
    ·dsimp only
     rw [xE,wx hk2]
     by_cases e:x[k].Claim=c
     ·rw [if_pos e]
      have:aZ ((x.take k).map (·.Claim)++[x[k].Claim]) c=true:=gX.2 (List.mem_append.2 (.inr (by simp [e])))
      rw [this];rfl
     rw [if_neg e,hm,Bool.eq_iff_iff,gX,gX,List.mem_append,List.mem_singleton]
     exact ⟨.inl,fun h=>h.resolve_right fun h=>e h.symm⟩
    show ((x.length:Int) - ((k+1:Nat):Int)).toNat<((x.length:Int) - (k:Int)).toNat;omega
  cases t with
  | inl u=>exact Y.ret (show ((x.length:Int),(0:Int))=_ from Eq.symm ht)
  | inr e=>exact Y.ret ht
 obtain ⟨r,e,rfl⟩:=key
 exact e
theorem D1 {plan:List Zc} {l:List Zb} (hv:VPs plan) (hl:VAs l) {imp:ByteArray} {w:List Zf} (h1:hI plan l imp=some (w,0)) {x:List Zf} (hx:XSm x):iV plan l imp x=some (iE plan l imp [] (x.map uv) 0):=by
 have key:Y (iV plan l imp x) (fun r=>r=iE plan l imp [] (x.map uv) 0):=by
  unfold iV
  have hlen:=hx.len
  rw [h1,bc,show ((0:Int) != 0)=false from rfl,bB]
  refine Y.bind (P:=fun t=>match t with | .inl y=>y=x∧iE plan l imp [] (x.map uv) 0=((x.length:Int),0) | .inr e=>e=iE plan l imp [] (x.map uv) 0) ?_ fun t ht=>?_
  ·refine Y.loop (fun s:List Za×Int=>∃ k:Nat,s.2=(k:Int)∧k≤x.length∧s.1.length≤k∧(∀ c,aZ s.1 c=aZ ((x.take k).map (·.Claim)) c)∧iE plan l imp ((x.take k).map (·.Claim)) ((x.drop k).map uv) k=iE plan l imp [] (x.map uv) 0) (fun s=>(x.length - s.2).toNat) ⟨0,rfl,by omega,by simp,fun c=>rfl,rfl⟩ (by show ((x.length:Int) - 0).toNat≤_;omega) (fun s hs=>?_)
   obtain ⟨set,v⟩:=s
   obtain ⟨k,hvk,hk,hsl,hm,he⟩:=hs
   dsimp only at hvk hsl hm he ⊢
   subst hvk
   rcases Nat.lt_or_ge k x.length with hk2 | hk2
   rotate_left
   ·have e:k=x.length:=by omega
    subst e
    rw [cT,bB]
    rw [List.drop_length] at he
    exact Y.ret ⟨rfl,he.symm⟩
   rw [ic hk2,bS,aQ hk2,bc]
   have hms:aZ set=aZ ((x.take k).map (·.Claim)):=funext hm
   rw [wy hk2] at he
   refine Exists.intro (cond (nP plan l imp (aZ set) (uv x[k])) (.inl (iw bu set x[k].Claim,((k+1:Nat):Int))) (.inr (.inr ((k:Int),10)))) ⟨(D0 hv hl imp set (by omega) x[k] (hx.prem _ (List.getElem_mem hk2)) (k:Int) _ rfl (fun _=>rfl)).trans ?_,?_⟩
   ·rw [bP hk2 (by omega)]
    cases nP plan l imp (aZ set) (uv x[k]) <;> rfl
   rw [hms]
   cases hr:nP plan l imp (aZ ((x.take k).map (·.Claim))) (uv x[k]) with
   | false=>rw [hr] at he;exact he
   | true =>
    rw [hr,bS] at he
    refine ⟨⟨k+1,rfl,by omega,?_,fun c=>?_,he⟩,?_⟩
    ·have:=kA (lt:=bu) set x[k].Claim;dsimp only;omega
    ·dsimp only
     rw [Bool.eq_iff_iff,gX,sr,gX,wx hk2,List.mem_append,List.mem_singleton]
     have:=hm c
     rw [Bool.eq_iff_iff,gX,gX] at this
     rw [this]
     exact Or.comm
    show ((x.length:Int) - ((k+1:Nat):Int)).toNat<((x.length:Int) - (k:Int)).toNat;omega
  cases t with
  | inl u=>obtain ⟨rfl,h⟩:=ht;exact Y.ret (show ((u.length:Int),(0:Int))=_ from Eq.symm h)
  | inr e=>exact Y.ret ht
 obtain ⟨r,e,rfl⟩:=key
 exact e
theorem B4 {p:List Zc} {l:List Zb} {imp:ByteArray} (h1:MPs p) (h2:MAs l) (h3:imp∈C6) {x:List Zf} (hx:XSm x):cN p l imp x=some (iE p l imp [] (x.map uv) 0)∧iV p l imp x=some (iE p l imp [] (x.map uv) 0):=by
 have hv:=h1.vps
 obtain ⟨_,s2⟩:=wq h1 h2 h3
 refine ⟨B3 hv h2.vas (wo hv h1.vids) ?_ ?_ hx,D1 hv h2.vas s2 hx⟩
 ·rw [Ah l h2.ok,h2.valid]
 rw [ly,C6_ctry h3]

structure PSm (M:Nat) (p:Zf):Prop where
 path:p.Path.length≤M
 prem:p.Premises.length≤M
structure CSm (n M:Nat) (x:List Zf):Prop where
 len:x.length≤n
 all:∀ p∈x,PSm M p
theorem pa {M:Nat} {p:Zf} (h:PSm M p):PSm (M+1) p:=⟨by have:=h.path;omega,by have:=h.prem;omega⟩
theorem yY {α:Type} {l:List α} {i:Nat} {a x:α} (h:x∈l.set i a):x∈l∨x=a:=by
 rcases List.mem_or_eq_of_mem_set h with h | h
 ·exact .inl h
 exact .inr h
theorem AV {x:List Zf} {n M:Nat} (hx:CSm n M x) (hn:n≤1000000) (hM:M≤1000000) (a b c:Int):Y (i9 x a b c) (CSm (n+1) (M+1)):=by
 unfold i9
 have hlen:=hx.len
 rw [cI (by simp only [List.length_nil];omega) (by simp only [List.length_nil];omega),bc,List.nil_append]
 have up:CSm (n+1) (M+1) x:=⟨by omega,fun p hp=>pa (hx.all p hp)⟩
 refine Y.cond (fun _=>Y.ret up) (fun hc=>?_)
 have hpos:0<x.length:=by
  rcases Nat.eq_zero_or_pos x.length with h | h
  ·rw [h] at hc;cases hc
  exact h
 refine (iZ a (x.length:Int) (by omega) (by omega)).bind fun k hk=>?_
 obtain ⟨i,rfl⟩:∃ i:Nat,k=(i:Int):=⟨k.toNat,by omega⟩
 have hi:i<x.length:=by omega
 rw [aQ hi,bc]
 have hpi:=hx.all _ (List.getElem_mem hi)
 refine (iZ b 9 (by omega) (by omega)).bind fun w _=>?_
 refine Y.bind (P:=fun q=>match q with | .inl t=>t.2.2.1.length≤M+1∧t.2.2.2.length≤M+1 | .inr r=>CSm (n+1) (M+1) r) ?_ fun q hq=>?_
 ·have h0:x[i].Path.length≤M+1∧x[i].Premises.length≤M+1:=by have:=hpi.path;have:=hpi.prem;omega
  have h1:=hpi.path;have h2:=hpi.prem
  refine Y.cond (fun _=>?_) (fun _=>Y.cond (fun _=>?_) (fun _=>Y.cond (fun _=>?_) (fun _=>Y.cond (fun _=>?_) (fun _=>Y.cond (fun _=>?_) (fun _=>Y.cond (fun _=>?_) (fun _=>Y.cond (fun _=>?_) (fun _=>Y.cond (fun _=>?_) (fun _=>?_))))))))
  ·exact (iZ c 12 (by omega) (by omega)).bind fun y _=>Y.ret h0
  ·exact (iZ c 5 (by omega) (by omega)).bind fun y _=>Y.ret h0
  ·rw [cI (by simp only [List.length_nil];omega) (by simp only [List.length_nil];omega),bc,List.nil_append]
   refine (iZ c 3 (by omega) (by omega)).bind fun y _=>?_
   rw [cI (by simp only [List.length_cons,List.length_nil];omega) (by simp only [List.length_cons,List.length_nil];omega),bc]
   exact Y.ret ⟨by simp only [List.length_append,List.length_cons,List.length_nil];omega,h0.2⟩
  ·refine Y.cond (fun hc=>?_) (fun _=>Y.ret h0)
   have hc:=of_decide_eq_true hc
   rw [cI (by simp only [List.length_nil];omega) (by simp only [List.length_nil];omega),bc,List.nil_append]
   refine (iZ c (x[i].Path.length:Int) (by omega) (by omega)).bind fun y hy=>?_
   refine (iZ (cu .i64 c 4) 4 (by omega) (by omega)).bind fun z _=>?_
   obtain ⟨j,rfl⟩:∃ j:Nat,y=(j:Int):=⟨y.toNat,by omega⟩
   rw [aQ (show j<x[i].Path.length by omega),bc]
   exact Y.ret ⟨by dsimp only;rw [List.length_set];omega,h0.2⟩
  ·refine Y.cond (fun hc=>?_) (fun _=>Y.ret h0)
   rw [wadd1 (show x[i].Premises.length≤4611686018427387904 by omega)]
   refine (iZ c (((x[i].Premises.length+1:Nat)):Int) (by omega) (by omega)).bind fun y hy=>?_
   obtain ⟨j,rfl⟩:∃ j:Nat,y=(j:Int):=⟨y.toNat,by omega⟩
   rw [jK (show j≤x[i].Premises.length by omega) (Nat.le_refl _),bc]
   exact Y.ret ⟨h0.1,by dsimp only;rw [List.length_drop,List.length_take];omega⟩
  ·refine (iZ c (x.length:Int) (by omega) (by omega)).bind fun y hy=>?_
   obtain ⟨j,rfl⟩:∃ j:Nat,y=(j:Int):=⟨y.toNat,by omega⟩
   rw [aQ (show j<x.length by omega),bc,qT _ _ (by omega),bc]
   exact Y.ret ⟨h0.1,by have:=kA (lt:=bu) x[i].Premises (x[j]'(by omega)).Claim;dsimp only;omega⟩
  ·refine (iZ c (x.length:Int) (by omega) (by omega)).bind fun y hy=>?_
   obtain ⟨j,rfl⟩:∃ j:Nat,y=(j:Int):=⟨y.toNat,by omega⟩
   have hj:j<x.length:=by omega
   simp only [aQ hj,aQ hi,bc,Int.toNat_natCast]
   rw [aQ (show j<(x.set i x[j]).length by rw [List.length_set];exact hj),bc]
   refine Y.ret ⟨by rw [List.length_set,List.length_set];omega,fun p hp=>?_⟩
   rcases yY hp with hp | rfl
   ·rcases yY hp with hp | rfl
    ·exact pa (hx.all p hp)
    exact pa (hx.all _ (List.getElem_mem hj))
   exact pa hpi
  ·have s1:sub x 0 (i:Int)=some ((x.take i).drop 0):=jK (a:=0) (by omega) (by omega)
   have s2:sub x ((i+1:Nat):Int) (x.length:Int)=some ((x.take x.length).drop (i+1)):=jK (by omega) (Nat.le_refl _)
   rw [s1,bc,wadd1 (by omega),s2,bc,List.drop_zero,List.take_length]
   have l1:(x.take i).length≤x.length:=by rw [List.length_take];omega
   have l2:(x.drop (i+1)).length≤x.length:=by rw [List.length_drop];omega
   rw [cI (by simp only [List.length_nil];omega) (by simp only [List.length_nil];omega),bc,List.nil_append,cI (by omega) (by omega),bc]
   refine Y.ret ⟨by rw [List.length_append,List.length_take,List.length_drop];omega,fun p hp=>pa (hx.all p ?_)⟩
   rcases List.mem_append.1 hp with hp | hp
   ·exact List.mem_of_mem_take hp
   exact List.mem_of_mem_drop hp
  rw [bc,cI (by simp only [List.length_cons,List.length_nil];omega) (by simp only [List.length_cons,List.length_nil];omega),bc]
  refine Y.ret ⟨by rw [List.length_append,List.length_singleton];omega,fun p hp=>?_⟩
  rcases List.mem_append.1 hp with hp | hp
  ·exact pa (hx.all p hp)
  rw [List.mem_singleton.1 hp];exact pa hpi
 cases q with
 | inr r=>exact Y.ret hq
 | inl t =>
  obtain ⟨t1,t2,t3,t4⟩:=t
  obtain ⟨q1,q2⟩:=hq
  dsimp only at q1 q2 ⊢
  rw [bc,Int.toNat_natCast]
  refine Y.ret ⟨by rw [List.length_set];omega,fun p hp=>?_⟩
  rcases yY hp with hp | rfl
  ·exact pa (hx.all p hp)
  exact ⟨q1,q2⟩
theorem D2 {plan:List Zc} {l:List Zb} (hv:VPs plan) (hl:VAs l) (ha:AscA l) (imp:ByteArray):CSm 64000 1000 ((nN plan l imp).map pC):=by
 obtain ⟨h1,h2⟩:=AQ hv hl ha imp
 refine ⟨by rw [List.length_map];exact h1,fun p hp=>?_⟩
 obtain ⟨q,hq,rfl⟩:=List.mem_map.1 hp
 have:=h2 q hq
 exact ⟨this.1,show q.2.2.length≤1000 by omega⟩
theorem csm_xsm {x:List Zf} {n M:Nat} (h:CSm n M x) (hn:n≤1000000) (hM:M≤140737488355328):XSm x:=⟨by have:=h.len;omega,fun p hp=>by have:=(h.all p hp).prem;omega⟩
theorem pb (m0 m1:List Int) (m2 m3 m4 m5 m6 m7 m8:Int) {κ:Kr} {v0 v1 v2 v3 v4 v5 v6 v7 v8:List Value} (_:Rps κ (eL eI m0) v0) (_:Rps κ (eL eI m1) v1) (_:Rps κ (eI m2) v2) (_:Rps κ (eI m3) v3) (_:Rps κ (eI m4) v4) (_:Rps κ (eI m5) v5) (_:Rps κ (eI m6) v6) (_:Rps κ (eI m7) v7) (_:Rps κ (eI m8) v8):dQ m0 m1 m2 m3 m4 m5 m6 m7 m8=some true:=by
 have key:Y (dQ m0 m1 m2 m3 m4 m5 m6 m7 m8) (fun r=>r=true):=by
  unfold dQ
  obtain ⟨p,e1,h1⟩:=plan_Y m0
  obtain ⟨l,e2,h2⟩:=yF m1
  obtain ⟨imp,e4,h4⟩:=BG m2
  rw [e1,bc,e2,bc,e4,bc]
  obtain ⟨_,s2⟩:=wq h1 h2 h4
  rw [s2,bc]
  have hcs:=D2 h1.vps h2.vas h2.asc imp
  refine (AV hcs (by omega) (by omega) m3 m4 m5).bind fun x hx=>?_
  refine Y.bind (P:=CSm 64002 1002) (Y.cond (fun _=>?_) fun _=>Y.ret ⟨by have:=hx.len;omega,fun q hq=>pa (hx.all q hq)⟩) fun y hy=>?_
  ·exact (AV hx (by omega) (by omega) m6 (cu .i64 m7 1) m8).bind fun y hy=>Y.ret hy
  obtain ⟨c1,c2⟩:=B4 h1 h2 h4 (csm_xsm hy (by omega) (by omega))
  rw [c1,bc,c2,bc]
  simp only [beq_self_eq_true,Bool.and_self,co,awake16,bc]
  exact Y.ret rfl
 obtain ⟨r,e,rfl⟩:=key
 exact e
def bd3:Nat→Int→Prop:=fun _ _=>True
theorem op3 {H:Type} {eh:TypeId×Value→H} {nb:Nat}:Opens eh nb 3 eI (bd3 nb):=DE rfl
def bd22:Nat→(List Int)→Prop:=fun n l=>l.length*8≤140737488355328∧l.length≤n∧∀ x∈l,bd3 n x
theorem op22 {H:Type} {eh:TypeId×Value→H} {nb:Nat}:Opens eh nb 22 (eL eI) (bd22 nb):=Aj rfl rfl rfl rfl op3
end SX
end Go.Proofs.YtgmbmepakpcpaaaGreatDoor
set_option maxRecDepth 100000
namespace Go.Proofs.YtgmbmepakpcpaaaGreatDoor
open Go Go.ChangeShapes Go.WideShapes Go.RowKit
open SX
theorem originCheckChanged_lifted (os:Os) (started:os.Started) (H:Type) (enc:TypeId×Value→H) :
    ReturnsInHanded {} Tryz.checked os 4 .any (fun w args=>(Rows.originCheckChangedSpec.pre enc Tryz.prog Tryz.f4 [] false w args∧laidMetH Tryz.prog xu w)∧sizedMet enc Tryz.prog Tryz.f4 (OpenSpec.ofChange Rows.originCheckChangedSpec) false w args)
      (Rows.originCheckChangedSpec.post enc Tryz.prog Tryz.f4 false true false false):=by
  refine returnsInHanded_of_change_and (C:=Tryz.checked) (X:=fun w _=>laidMetH Tryz.prog xu w) (fun _ _ _ hh h=>h.of_heap hh) own_ok started (by kernel_rfl) Tryz.func4
    (ChangeSpec.witness_at (enc:=enc) (C:=Tryz.checked) (os:=os) (X:=fun w _=>laidMetH Tryz.prog xu w) false (laidWorld os) #[.slice none 0 0,.slice none 0 0,.int .i64 0,.int .i64 0,.int .i64 0,.int .i64 0,.int .i64 0,.int .i64 0,.int .i64 0] 8 rfl (by kernel_rfl) (by kernel_rfl) (by kernel_rfl) (by kernel_rfl) (by kernel_rfl) (wO os _)) ?_
  intro W base args ds gs before hval0 hW _ hwt hL _
  have hval:∀ (j:Nat) t v,Tryz.f4.params[j]?=some t→args[j]?=some v→Value.okWide Tryz.prog W .any base t v:=hval0
  have hW2:=hW
  obtain ⟨p,q,hA0,hV0,rfl,_,_⟩:=hW
  have hA:DataW.TrodAll enc Tryz.prog W 0 (fun _=>true) true [22,22,3,3,3,3,3,3,3] args.toList ds p:=hA0
  obtain ⟨rfl,rfl⟩:gs=[]∧q=[]:=by
    cases gs with
    | nil=>exact ⟨rfl,hV0⟩
    | cons g r=>exact absurd hV0 (by intro h;cases h)
  generalize hargs:args.toList=vs at hA
  have hval2:∀ (j:Nat) t v,[22,22,3,3,3,3,3,3,3][j]?=some t→vs[j]?=some v→Value.okWide Tryz.prog W .any base t v:=fun j t v h1 h2=>hval j t v (by rw [Tryz.params4];simpa using h1) (by rw [← hargs] at h2;simpa using h2)
  obtain ⟨v0,vs0,d0,ds0,p0,q0,rfl,rfl,h0,hA⟩:=SX.trodAll_cons hA
  obtain ⟨v1,vs1,d1,ds1,p1,q1,rfl,rfl,h1,hA⟩:=SX.trodAll_cons hA
  obtain ⟨v2,vs2,d2,ds2,p2,q2,rfl,rfl,h2,hA⟩:=SX.trodAll_cons hA
  obtain ⟨v3,vs3,d3,ds3,p3,q3,rfl,rfl,h3,hA⟩:=SX.trodAll_cons hA
  obtain ⟨v4,vs4,d4,ds4,p4,q4,rfl,rfl,h4,hA⟩:=SX.trodAll_cons hA
  obtain ⟨v5,vs5,d5,ds5,p5,q5,rfl,rfl,h5,hA⟩:=SX.trodAll_cons hA
  obtain ⟨v6,vs6,d6,ds6,p6,q6,rfl,rfl,h6,hA⟩:=SX.trodAll_cons hA
  obtain ⟨v7,vs7,d7,ds7,p7,q7,rfl,rfl,h7,hA⟩:=SX.trodAll_cons hA
  obtain ⟨v8,vs8,d8,ds8,p8,q8,rfl,rfl,h8,hA⟩:=SX.trodAll_cons hA
  obtain ⟨rfl,rfl⟩:=SX.trodAll_nil hA
  have hw:(DataW.weightsEach Tryz.prog [22,22,3,3,3,3,3,3,3] [d0,d1,d2,d3,d4,d5,d6,d7,d8]).all (· ≤ reachBytes)=true:=hwt
  obtain ⟨l0,hw⟩:=SX.light_head hw
  obtain ⟨m0,s0,b0⟩:=mH rfl rfl op22 (fun _=>⟨_,rfl⟩) (hval2 0 22 v0 rfl rfl) h0 l0 (Nat.le_refl _)
  obtain ⟨l1,hw⟩:=SX.light_head hw
  obtain ⟨m1,s1,b1⟩:=mH rfl rfl op22 (fun _=>⟨_,rfl⟩) (hval2 1 22 v1 rfl rfl) h1 l1 (Nat.le_refl _)
  obtain ⟨l2,hw⟩:=SX.light_head hw
  obtain ⟨m2,s2,b2⟩:=mH rfl rfl op3 (fun _=>⟨_,rfl⟩) (hval2 2 3 v2 rfl rfl) h2 l2 (Nat.le_refl _)
  obtain ⟨l3,hw⟩:=SX.light_head hw
  obtain ⟨m3,s3,b3⟩:=mH rfl rfl op3 (fun _=>⟨_,rfl⟩) (hval2 3 3 v3 rfl rfl) h3 l3 (Nat.le_refl _)
  obtain ⟨l4,hw⟩:=SX.light_head hw
  obtain ⟨m4,s4,b4⟩:=mH rfl rfl op3 (fun _=>⟨_,rfl⟩) (hval2 4 3 v4 rfl rfl) h4 l4 (Nat.le_refl _)
  obtain ⟨l5,hw⟩:=SX.light_head hw
  obtain ⟨m5,s5,b5⟩:=mH rfl rfl op3 (fun _=>⟨_,rfl⟩) (hval2 5 3 v5 rfl rfl) h5 l5 (Nat.le_refl _)
  obtain ⟨l6,hw⟩:=SX.light_head hw
  obtain ⟨m6,s6,b6⟩:=mH rfl rfl op3 (fun _=>⟨_,rfl⟩) (hval2 6 3 v6 rfl rfl) h6 l6 (Nat.le_refl _)
  obtain ⟨l7,hw⟩:=SX.light_head hw
  obtain ⟨m7,s7,b7⟩:=mH rfl rfl op3 (fun _=>⟨_,rfl⟩) (hval2 7 3 v7 rfl rfl) h7 l7 (Nat.le_refl _)
  obtain ⟨l8,hw⟩:=SX.light_head hw
  obtain ⟨m8,s8,b8⟩:=mH rfl rfl op3 (fun _=>⟨_,rfl⟩) (hval2 8 3 v8 rfl rfl) h8 l8 (Nat.le_refl _)
  exact FM (readB (by kernel_rfl)) rfl (bL rfl) rfl (by simp [Rows.originCheckChangedSpec]) hW2 (Al hL) (by rw [hargs];exact (s0.app (s1.app (s2.app (s3.app (s4.app (s5.app (s6.app (s7.app s8))))))))) (mG (pb m0 m1 m2 m3 m4 m5 m6 m7 m8 s0 s1 s2 s3 s4 s5 s6 s7 s8))
theorem originCheckChanged_holds:Rows.OriginCheckChangedSaid :=
 OpenClaim.holds_of_wide 4 Tryz.f4 rfl rfl rfl rfl rfl rfl rfl ⟨rfl,rfl,rfl,rfl,rfl⟩ rfl rfl rfl rfl rfl originCheckChanged_named Tryz.func4 originCheckChanged_closed
  (of_decide_eq_true (by kernel_rfl)) (by unfold Func.isWrapper;rw [if_neg (of_decide_eq_false (by kernel_rfl))];exact ⟨rfl,rfl⟩)
  (fun os started H enc _=>originCheckChanged_lifted os started H enc)
theorem originCheckChanged_card:Rows.OriginCheckChangedCardSaid :=
 Claim7.holds_tied_plain_at .later [] [.data,.data,.pinned] true (true, "d6724934cde0ef4b5d01703053d4c3277341bc42a1cf7659bfec0d43871970fd") true
  originCheckChanged_holds (fun _ h=>by cases h) (by as_aux_lemma=>kernel_rfl) (fun _ h=>by cases h) originCheckChanged_row_tie rfl ⟨rfl,rfl⟩ fp_main rfl
  (fun f fn hf hfn=>by
   obtain rfl:f=4:=Option.some.inj ((show Tryz.prog.funcNamed "customs/customslaw16.OriginCheckChanged" = some 4 from originCheckChanged_named).symm.trans hf) |>.symm
   obtain rfl:fn=Tryz.f4:=(Option.some.inj (Tryz.func4.symm.trans hfn)).symm
   exact ⟨fp_looks,fun j t ht=>by
    rw [Tryz.params4] at ht
    exact Am (by as_aux_lemma=>kernel_rfl) ht⟩)
  originCheckChanged_goes
#print axioms originCheckChanged_card
end Go.Proofs.YtgmbmepakpcpaaaGreatDoor
