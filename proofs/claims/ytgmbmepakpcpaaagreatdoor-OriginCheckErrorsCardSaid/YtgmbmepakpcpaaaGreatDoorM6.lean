/- OriginCheckErrors: for every input the law returns true, and each argument reads afterwards as it read before. Conditions: the package variables are as the program's text lays them (the card ties them). -/
import Derived.Test.YtgmbmepakpcpaaaGreatDoorM5
import Derived.Test.YtgmbmepakpcpaaaGreatDoorL11q
set_option linter.unusedVariables false
set_option linter.unusedSimpArgs false
set_option maxHeartbeats 4000000
set_option maxRecDepth 100000
namespace Go.Proofs.YtgmbmepakpcpaaaGreatDoor
namespace SX
open Go
theorem ref_inE (plan:List Zc) (l:List Zi) (hp:plan.length≤140737488355328) (hl:l.length≤140737488355328) {β:Type} (K:Unit⊕(Int⊕(Unit⊕Int))→Option β) :
    Option.bind (aT (S:=Int) (T:=(Unit)⊕(Int⊕(Unit⊕Int))) (fun v18=>cond (decide (v18<(l.length:Int))) (Option.bind (gd (decide (0<v18)) (idx l v18)) (fun m22=>Option.bind (gd (decide (0<v18)) (idx l (IntKind.i64.wrap (v18 - 1)))) (fun m23=>cond ((decide (0<v18))&&(decide (m22.Product≤m23.Product))) (some (.inr (.inr (.inr (.inr (9:Int)))))) (Option.bind (idx l v18) (fun m25=>Option.bind (dV plan m25.Product) (fun x26=>cond (!x26.2) (some (.inr (.inr (.inr (.inr (6:Int)))))) (Option.bind (idx l v18) (fun m29=>Option.bind (gd (!(decide (m29.Value<0))) (idx l v18)) (fun m30=>cond ((decide (m29.Value<0))||(decide (1000000000000<m30.Value))) (some (.inr (.inr (.inr (.inr (2:Int)))))) (some (.inl (IntKind.i64.wrap (v18+1))))))))))))) (some (.inr (.inl ())))) FUEL 0) K
    = K (match bT (Dg plan l) l 0 with | none=>.inl () | some e=>.inr (.inr (.inr e))):=by
  have h62:l.length≤4611686018427387904:=by omega
  refine (bD (l:=l) h62 (fun k x=>(Dg plan l k x).map fun e=>.inr (.inr (.inr e))) (.inl ()) (fun k hk=>?_) (by simp only [cN,bv])).trans ?_
  · have hf:dV plan l[k].Product=some (gW AF (co plan l[k].Product)):=tC _ _ hp
    have hs:(gW AF (co plan l[k].Product)).2=(co plan l[k].Product).isSome:=by cases co plan l[k].Product <;> rfl
    have tl:(cond (!(co plan l[k].Product).isSome) (some (.inr (.inr (.inr (.inr (6:Int)))))) (Option.bind (gd (!(decide (l[k].Value<0))) (some l[k])) (fun m30=>cond ((decide (l[k].Value<0))||(decide (1000000000000<m30.Value))) (some (.inr (.inr (.inr (.inr (2:Int)))))) (some (.inl ((k+1:Nat):Int))))):Option (Int⊕(Unit⊕(Int⊕(Unit⊕Int)))))=some (ra k ((cond (co plan l[k].Product).isSome (cond (decide (l[k].Value<0)||decide (1000000000000<l[k].Value)) (some 2) none) (some 6)).map fun e=>.inr (.inr (.inr e)))):=by
      cases (co plan l[k].Product).isSome
      · rfl
      cases decide (l[k].Value<0)
      · simp only [Bool.not_false,cu,bc,Bool.not_true,bv,bL,Bool.false_or]
        cases decide (1000000000000<l[k].Value) <;> rfl
      rfl
    simp only [gY hk,bL,aQ hk,bc,bM hk h62,BG,Dg,hf,hs]
    by_cases h0:0<k
    · simp only [h0,decide_true,Bool.true_and,cu,fM h0 hk h62,bc,dt (show k - 1<l.length by omega)]
      cases decide (l[k].Product≤(l[k-1]'(by omega)).Product)
      · exact tl
      rfl
    simp only [h0,decide_false,Bool.false_and,iO,bc,bv]
    exact tl
  rw [j8]
  cases bT (Dg plan l) l 0 <;> rfl
theorem GK {plan:List Zc} {l:List Zi} {e:Int} (h:bT (Dg plan l) l 0=some e):zk plan l=e∧(zk plan l == 0)=false:=by
 have h1:zk plan l=e:=by unfold zk;rw [h];rfl
 refine ⟨h1,?_⟩
 cases hz:(zk plan l == 0) with
 | false=>rfl
 | true =>
  have:=ls _ (GH plan l) l 0 (beq_iff_eq.1 hz)
  rw [h] at this;cases this
theorem GL {plan:List Zc} {l:List Zi} (h:bT (Dg plan l) l 0=none):(zk plan l == 0)=true:=by unfold zk;rw [h];rfl
theorem Ei (plan:List Zc) (h:PSOk plan):lh plan=some (oy plan):=by
 unfold lh oy
 have h62:plan.length≤4611686018427387904:=by have:=h.len;omega
 have i1:decide ((64:Int)<(plan.length:Int)) = !decide (plan.length≤64):=by rw [← decide_not];exact decide_eq_decide.2 (by omega)
 rw [i1]
 cases decide (plan.length≤64)
 ·rfl
 simp only [Bool.not_true,bv,bL]
 refine (bD (l:=plan) h62 (fun k x=>(rt plan k x).map .inr) (.inl ()) (fun k hk=>?_) (by simp only [cN,bv])).trans ?_
 ·have ha:=h.all _ (List.getElem_mem hk)
  have e8:decide ((8:Int)<(plan[k].Inputs.length:Int))=decide (8<plan[k].Inputs.length):=decide_eq_decide.2 (by omega)
  have e6:decide (cQ plan[k].Code<6) = !decide (6≤cQ plan[k].Code):=by rw [← decide_not];exact decide_eq_decide.2 (by omega)
  simp only [gY hk,bL,aQ hk,bc,bM hk h62,BG,rt]
  cases (decide (plan[k].ID<1)||decide (1000000<plan[k].ID))
  ·have rest:(Option.bind (fD plan[k].Code) (fun x11=>Option.bind (gd (!(decide (x11<6))) (eg plan[k].Country)) (fun x12=>Option.bind (gd (!((decide (x11<6))||(!x12))) (jZ plan[k].Processes)) (fun x13=>cond (((decide (x11<6))||(!x12))||(!x13)) (some (.inr (.inr (1:Int)))) (cond ((decide (plan[k].Price<1))||(decide (1000000000000<plan[k].Price))) (some (.inr (.inr (2:Int)))) (cond (decide (8<(plan[k].Inputs.length:Int))) (some (.inr (.inr (8:Int)))) (cond (plan[k].Obtained&&(decide (0<plan[k].Inputs.length))) (some (.inr (.inr (1:Int)))) (Option.bind (aT (S:=Int) (T:=(Unit)⊕(Int⊕(Unit⊕Int))) (fun v18=>cond (decide (v18<(plan[k].Inputs.length:Int))) (Option.bind (gd (decide (0<v18)) (idx plan[k].Inputs v18)) (fun m22=>Option.bind (gd (decide (0<v18)) (idx plan[k].Inputs (IntKind.i64.wrap (v18 - 1)))) (fun m23=>cond ((decide (0<v18))&&(decide (m22.Product≤m23.Product))) (some (.inr (.inr (.inr (.inr (9:Int)))))) (Option.bind (idx plan[k].Inputs v18) (fun m25=>Option.bind (dV plan m25.Product) (fun x26=>cond (!x26.2) (some (.inr (.inr (.inr (.inr (6:Int)))))) (Option.bind (idx plan[k].Inputs v18) (fun m29=>Option.bind (gd (!(decide (m29.Value<0))) (idx plan[k].Inputs v18)) (fun m30=>cond ((decide (m29.Value<0))||(decide (1000000000000<m30.Value))) (some (.inr (.inr (.inr (.inr (2:Int)))))) (some (.inl (IntKind.i64.wrap (v18+1))))))))))))) (some (.inr (.inl ())))) FUEL 0) (fun q=>match q with | .inl _=>some (.inl ((k+1:Nat):Int)) | .inr e=>some e)))))))):Option (Int⊕(Unit⊕Int)))=some (ra k ((cond (nF plan[k] == 0) (cond (zk plan plan[k].Inputs == 0) none (some (zk plan plan[k].Inputs))) (some (nF plan[k]))).map .inr)):=by
    simp only [tz _ ha.code,bc,e6,e8,nF,nD,Eg _ ha.proc,len_pos]
    cases decide (6≤cQ plan[k].Code)
    ·rfl
    simp only [Bool.not_true,Bool.not_false,cu,Bool.true_and,bc,Bool.false_or]
    cases mL plan[k].Country
    ·rfl
    simp only [Bool.not_true,Bool.not_false,cu,bc,Bool.true_and,Bool.false_or]
    cases ig plan[k].Processes
    ·rfl
    simp only [Bool.not_true,bv,bL]
    cases (decide (plan[k].Price<1)||decide (1000000000000<plan[k].Price))
    ·simp only [bv]
     cases decide (8<plan[k].Inputs.length)
     ·simp only [bv]
      cases (plan[k].Obtained && !plan[k].Inputs.isEmpty)
      ·refine (ref_inE plan plan[k].Inputs h.len ha.len _).trans ?_
       cases hf:bT (Dg plan plan[k].Inputs) plan[k].Inputs 0 with
       | none=>rw [GL hf];rfl
       | some e=>obtain ⟨q1,q2⟩:=GK hf;rw [q2,q1];rfl
      rfl
     rfl
    rfl
   by_cases h0:0<k
   ·simp only [h0,decide_true,Bool.true_and,cu,fM h0 hk h62,bc,dt (show k - 1<plan.length by omega),bv]
    cases decide (plan[k].ID≤(plan[k-1]'(by omega)).ID)
    ·exact rest
    rfl
   simp only [h0,decide_false,Bool.false_and,iO,bc,bv]
   exact rest
  ·rfl
 rw [j8]
 cases bT (rt plan) plan 0 <;> rfl
theorem gAgr_nz (l:List Zb) (k:Nat) (a:Zb):uE l k a≠some 0:=by
 unfold uE
 cases (decide (a.ID<1)||decide (1000<a.ID)||decide (a.Kind<1)||decide (3<a.Kind))
 ·cases (decide (0<k)&&decide (a.ID≤(l.getD (k - 1) a).ID))
  ·cases (decide (12<a.Parties.length)||decide (12<a.Rules.length))
   ·cases jb a.Parties
    ·simp
    cases hy:(rulesE a.Rules == 0)
    ·simp only [bv,bL];intro h;injection h with h;rw [h] at hy;cases hy
    simp
   simp
  simp
 simp
theorem GM (l:List Zh) (k:Nat) (x:Zh):mu l k x≠some 0:=by
 unfold mu
 cases A8 x.Prefix
 ·simp
 cases (decide (0<k) && !i7 (l.getD (k - 1) x).Prefix x.Prefix)
 ·cases hy:(kF x.Rule == 0)
  ·simp only [bv,bL];intro h;injection h with h;rw [h] at hy;cases hy
  simp
 simp
def uIn (id pid:Int) (acc:List Int) (x:Zi):List Int:=cond (x.Product == id) (acc++[pid]) acc
def usersS (plan:List Zc) (id:Int):List Int:=plan.foldl (fun acc p=>p.Inputs.foldl (uIn id p.ID) acc) []
def hitB (plan:List Zc) (id:Int) (r:List Bool) (m:Nat) (u:List Int):Bool:=match plan[m]? with
 | none=>false
 | some p=>((p.ID == id)||r.getD m false)&&u.any fun x=>x == p.ID
def GN (r:List Bool):Nat:=(r.filter fun b => !b).length
structure PassI (plan:List Zc) (id:Int) (r:List Bool) (k:Nat) (r':List Bool) (ag:Bool):Prop where
 len:r'.length=plan.length
 le:k≤plan.length
 no:ag=false→r'=r∧∀ i,i<k→∀ p,plan[i]?=some p→r.getD i false=true∨∀ m,hitB plan id r m (usersS plan p.ID)=false
 yes:ag=true→GN r'<GN r
theorem VIds.sub {l m:List Zc} (h:VIds l) (hs:∀ p∈m,p∈l):VIds m:=⟨fun p hp=>h.id p (hs p hp),fun p hp=>h.lvl p (hs p hp)⟩

def wK (p:Zf):Prf:=(p.Claim,p.Path,p.Premises)
structure FMap (ps:List Prf) (k:Nat) (m:List (Za×Int)):Prop where
 get:∀ d,kr m d=match wB ps d with | some i=>cond (decide (i<k)) (some (i:Int)) none | none=>none
theorem Ej {α:Type} {l:List α} {k:Nat} (h:k<l.length):l.take (k+1)=l.take k++[l[k]]:=by
 rw [List.take_add_one,List.getElem?_eq_getElem h];rfl
structure Zx (x:List Zf) (M:Nat):Prop where
 len:x.length≤100000
 prem:∀ p∈x,p.Premises.length≤M
 path:∀ p∈x,p.Path.length≤1000000000000
 mx:M≤2000000


theorem Dh:lQ=some true:=by kernel_rfl
def FR (o:Option (List Int)) (t:List Int×Bool):Prop:=match o with
 | some q=>t=(q,true)
 | none=>t.2=false
theorem GO {o:Option (List Int)} {t:List Int×Bool} (h:FR o t):(t.2&&((t.1.length:Int) == 0))=decide (o=some []):=by
 cases o with
 | none=>rw [show t.2=false from h];simp
 | some q =>
  rw [show t=(q,true) from h]
  cases q with
  | nil=>simp
  | cons a q =>
   rw [cb (by simp)]
   show (true&&(((a::q).length:Int) == 0))=false
   rw [Bool.true_and,beq_eq_false_iff_ne];simp <;> omega
theorem Ek (x:Zl) {l:List Zd} {k:Nat} (hk:k<l.length) (p:List Int):rj x (l.drop k) p=match wy x l[k] p with | some q=>rj x (l.drop (k+1)) q | none=>none:=by
 rw [List.drop_eq_getElem_cons hk,rj] <;> rfl
section
variable {x:Zl} {rec:Zd→List Int→Option (List Int×Bool)}
theorem Di {l:List Zd} {T:Type} (hl:l.length≤1000) {body:List Int×Int→Option ((List Int×Int)⊕(List Int⊕(List Int×Bool)))}
    (hstep:∀ (k:Nat) (hk:k<l.length) (p:List Int),Y (body (p,(k:Int))) (fun o=>match wy x l[k] p with | some q=>o=.inl (q,((k+1:Nat):Int)) | none=>∃ e:List Int×Bool,o=.inr (.inr e)∧e.2=false))
    (hend:∀ p,body (p,(l.length:Int))=some (.inr (.inl p))) (p:List Int):Y (aT body FUEL (p,0)) (fun t=>match t with | .inl q=>rj x l p=some q | .inr e=>rj x l p=none∧e.2=false):=by
  refine Y.loop (fun s:List Int×Int=>∃ k:Nat,s.2=(k:Int)∧k≤l.length∧rj x (l.drop k) s.1=rj x l p) (fun s=>(l.length - s.2).toNat) ⟨0,rfl,by omega,rfl⟩ (by show ((l.length:Int) - 0).toNat≤_;omega) (fun s hs=>?_)
  obtain ⟨q,v⟩:=s
  obtain ⟨k,hv,hk,he⟩:=hs
  dsimp only at hv he ⊢
  subst hv
  rcases Nat.lt_or_ge k l.length with hk2 | hk2
  rotate_left
  · have e:k=l.length:=by omega
    subst e
    rw [hend]
    refine Y.ret ?_
    rw [List.drop_length,rj] at he
    exact he.symm
  obtain ⟨o,e1,h1⟩:=hstep k hk2 q
  rw [Ek x hk2] at he
  rw [e1]
  cases hf:wy x l[k] q with
  | none =>
    rw [hf] at h1 he
    obtain ⟨e,rfl,h2⟩:=h1
    exact Y.ret ⟨he.symm,h2⟩
  | some w =>
    rw [hf] at h1 he
    subst h1
    refine Y.ret ⟨⟨k+1,rfl,by omega,he⟩,?_⟩
    show ((l.length:Int) - ((k+1:Nat):Int)).toNat<((l.length:Int) - (k:Int)).toNat;omega
end
theorem GP (x:Zl) (hx:VCase x) (n:Nat):∀ (r:Zd) (p:List Int),dG r=true→r9 r≤n→Y (Irule_test_follow_F n (tt r) x p) (FR (wy x r p)):=by
 induction n with
 | zero=>intro r p _ hd;rw [js] at hd;omega
 | succ n ih =>
  intro r p hr hd
  obtain ⟨hl,ha,_⟩:=j9 hr
  have hargs:∀ k (hk:k<r.Args.length) p,Y (Irule_test_follow_F n (tt r.Args[k]) x p) (FR (wy x r.Args[k] p)):=fun k hk p=>ih _ p (ha _ (List.getElem_mem hk)) (by have:=iQ (List.getElem_mem hk);omega)
  show Y (Irule_test_follow_B (Irule_test_follow_F n) (tt r) x p) _
  rw [Gz,GB]
  have hml:(r.Args.map tt).length=r.Args.length:=List.length_map _
  have hmi:∀ k (hk:k<(r.Args.map tt).length),(r.Args.map tt)[k]=tt (r.Args[k]'(by omega)):=fun k hk=>by rw [List.getElem_map]
  cases h5:(r.Kind == 5)
  ·cases h6:(r.Kind == 6)
   ·show Y (fU ⟨r⟩ x p) _
    unfold fU
    rw [prog_holds hx hr,bc]
    simp only [bv]
    cases jK r x
    ·exact Y.ret rfl
    exact Y.ret rfl
   show Y (fT (Irule_test_follow_F n) (r.Args.map tt) x p) _
   unfold fT
   simp only [bv,bL]
   cases p with
   | nil=>exact Y.ret rfl
   | cons a t =>
    have e0:((((a::t).length:Nat):Int) == 0)=false:=by rw [beq_eq_false_iff_ne];simp <;> omega
    have ei:idx (a::t) 0=some a:=rfl
    have e6:(cond (!(a::t).isEmpty&&decide (0≤(a::t).headD 0)) (py x r.Args ((a::t).headD 0).toNat (a::t).tail) none)=cond (decide (0≤a)) (py x r.Args a.toNat t) none:=rfl
    rw [e0,e6]
    simp only [Bool.not_false,cu,ei,bc,Bool.false_or]
    by_cases hneg:a<0
    ·rw [det hneg,cb (show ¬ 0≤a by omega)]
     exact Y.ret rfl
    rw [cb hneg,det (show 0≤a by omega)]
    simp only [Bool.not_false,cu,bc,Bool.false_or,bL]
    obtain ⟨i,rfl⟩:∃ i:Nat,a=(i:Int):=⟨a.toNat,by omega⟩
    rw [Int.toNat_natCast,wz]
    by_cases hi:i<r.Args.length
    ·rw [cb (show ¬ (((r.Args.map tt).length:Nat):Int)≤(i:Int) by omega),bv,aQ (show i<(r.Args.map tt).length by omega),bc,List.getElem?_eq_getElem hi,hmi i (by omega)]
     have hs:sub ((i:Int)::t) 1 ((((i:Int)::t).length:Nat):Int)=some t:=by
      have:=lY (xs:=(i:Int)::t) (a:=1) (b:=((i:Int)::t).length) (by simp) (Nat.le_refl _)
      rw [show ((1:Nat):Int)=1 from rfl] at this
      rw [this,List.take_length];rfl
     rw [hs,bc]
     exact (hargs i hi t).bind fun q hq=>Y.ret hq
    rw [det (show (((r.Args.map tt).length:Nat):Int)≤(i:Int) by omega),bL,List.getElem?_eq_none (by omega)]
    exact Y.ret rfl
  show Y (fy (Irule_test_follow_F n) (r.Args.map tt) x p) _
  unfold fy
  simp only [bL]
  refine Y.bind (Di (T:=Unit) (x:=x) (l:=r.Args) (by omega) (fun k hk q=>?_) (fun q=>?_) p) fun t ht=>?_
  ·rw [hml]
   simp only [gY hk,bL,aQ (show k<(r.Args.map tt).length by omega),bc,bM hk (show r.Args.length≤4611686018427387904 by omega),hmi k (show k<(r.Args.map tt).length by omega)]
   refine (hargs k hk q).bind fun o ho=>?_
   cases hf:wy x r.Args[k] q with
   | none =>
    rw [hf] at ho
    rw [show o.2=false from ho]
    exact Y.ret ⟨([],false),rfl,rfl⟩
   | some w =>
    rw [hf] at ho
    rw [show o=(w,true) from ho]
    exact Y.ret rfl
  ·rw [hml];simp only [cN,bv]
  cases t with
  | inl q=>dsimp only at ht ⊢;rw [ht];exact Y.ret rfl
  | inr e=>obtain ⟨h1,h2⟩:=ht;dsimp only;rw [h1];exact Y.ret h2
theorem A1 {r:Zd} {x:Zl} (hx:VCase x) (ok:ROk r) (hr:dG r=true) (hc:pV r≤32) (p:List Int):lO r x p=some (decide (wy x r p=some [])):=by
 have hd:=oZ r
 have hf:FUEL=1267650600228229401496703205376:=rfl
 unfold lO gq
 rw [oo r ok (by omega),(np r).2 ⟨hc,hr⟩,bc,show ((0:Int) == 0)=true from rfl,cu,qI hx,bc,bc]
 show Option.bind (iK FUEL r) _=_
 rw [AK FUEL r hr (by omega),bc]
 obtain ⟨t,e,h⟩:=GP x hx FUEL r p hr (by omega)
 show Option.bind (Irule_test_follow_F FUEL (tt r) x p) _=_
 rw [e,bc,GO h]
theorem A2 (x:Zl) (hx:VCase x) (n:Nat):∀ (r:Zd) (p:List Int),dG r=true→r9 r≤1000→r9 r≤n→Y (gU n r x p) (FR (wy x r p)):=by
 induction n with
 | zero=>intro r p _ _ hd;rw [js] at hd;omega
 | succ n ih =>
  intro r p hr h1000 hd
  obtain ⟨hl,ha,_⟩:=j9 hr
  have hargs:∀ k (hk:k<r.Args.length) p,Y (gU n r.Args[k] x p) (FR (wy x r.Args[k] p)):=fun k hk p=>ih _ p (ha _ (List.getElem_mem hk)) (by have:=iQ (List.getElem_mem hk);omega) (by have:=iQ (List.getElem_mem hk);omega)
  show Y (i5 (gU n) r x p) _
  unfold i5
  rw [GB]
  cases h5:(r.Kind == 5)
  ·cases h6:(r.Kind == 6)
   ·simp only [bv]
    rw [yd hx hr h1000,bc,zf,h5,h6]
    simp only [bv]
    cases jK r x
    ·exact Y.ret rfl
    exact Y.ret rfl
   simp only [bv,bL]
   cases p with
   | nil=>exact Y.ret rfl
   | cons a t =>
    have e0:((((a::t).length:Nat):Int) == 0)=false:=by rw [beq_eq_false_iff_ne];simp <;> omega
    have ei:idx (a::t) 0=some a:=rfl
    have e6:(cond (!(a::t).isEmpty&&decide (0≤(a::t).headD 0)) (py x r.Args ((a::t).headD 0).toNat (a::t).tail) none)=cond (decide (0≤a)) (py x r.Args a.toNat t) none:=rfl
    rw [e0,e6]
    simp only [Bool.not_false,cu,ei,bc,Bool.false_or]
    by_cases hneg:a<0
    ·rw [det hneg,cb (show ¬ 0≤a by omega)]
     exact Y.ret rfl
    rw [cb hneg,det (show 0≤a by omega)]
    simp only [Bool.not_false,cu,bc,Bool.false_or,bL]
    obtain ⟨i,rfl⟩:∃ i:Nat,a=(i:Int):=⟨a.toNat,by omega⟩
    rw [Int.toNat_natCast,wz]
    by_cases hi:i<r.Args.length
    ·rw [cb (show ¬ ((r.Args.length:Nat):Int)≤(i:Int) by omega),bv,aQ hi,bc,List.getElem?_eq_getElem hi]
     have hs:sub ((i:Int)::t) 1 ((((i:Int)::t).length:Nat):Int)=some t:=by
      have:=lY (xs:=(i:Int)::t) (a:=1) (b:=((i:Int)::t).length) (by simp) (Nat.le_refl _)
      rw [show ((1:Nat):Int)=1 from rfl] at this
      rw [this,List.take_length];rfl
     rw [hs,bc]
     exact (hargs i hi t).bind fun q hq=>Y.ret hq
    rw [det (show ((r.Args.length:Nat):Int)≤(i:Int) by omega),bL,List.getElem?_eq_none (by omega)]
    exact Y.ret rfl
  simp only [bL]
  refine Y.bind (Di (T:=Unit) (x:=x) (l:=r.Args) (by omega) (fun k hk q=>?_) (fun q=>?_) p) fun t ht=>?_
  ·simp only [gY hk,bL,aQ hk,bc,bM hk (show r.Args.length≤4611686018427387904 by omega)]
   refine (hargs k hk q).bind fun o ho=>?_
   cases hf:wy x r.Args[k] q with
   | none =>
    rw [hf] at ho
    rw [show o.2=false from ho]
    exact Y.ret ⟨([],false),rfl,rfl⟩
   | some w =>
    rw [hf] at ho
    rw [show o=(w,true) from ho]
    exact Y.ret rfl
  ·simp only [cN,bv]
  cases t with
  | inl q=>dsimp only at ht ⊢;rw [ht];exact Y.ret rfl
  | inr e=>obtain ⟨h1,h2⟩:=ht;dsimp only;rw [h1];exact Y.ret h2
theorem Ch {r:Zd} {x:Zl} (hx:VCase x) (hr:dG r=true) (hc:pV r≤32) (p:List Int):jh r x p=some (decide (wy x r p=some [])):=by
 have hd:=oZ r
 have hf:FUEL=1267650600228229401496703205376:=rfl
 unfold jh
 obtain ⟨t,e,h⟩:=A2 x hx FUEL r p hr (by omega) (by omega)
 show Option.bind (gU FUEL r x p) _=_
 rw [e,bc,GO h]
theorem cf_ge (x y:Za):decide (0≤mI x y) = !bu x y:=by
 unfold mI bu
 rcases Int.lt_trichotomy x.Product y.Product with h | h | h
 ·rw [if_pos h];simp [h]
 ·simp only [h,Int.lt_irrefl,if_false,if_true,decide_false,decide_true,Bool.false_or,Bool.true_and]
  rcases Int.lt_trichotomy x.Agreement y.Agreement with h2 | h2 | h2
  ·rw [if_pos h2];simp [h2]
  ·simp [h2]
  rw [if_neg (by omega),if_pos h2,cb (show ¬ x.Agreement<y.Agreement by omega)];rfl
 have h1:¬ x.Product<y.Product:=by omega
 have h3:¬ x.Product=y.Product:=by omega
 simp [h,h1,h3]
theorem wL {α T:Type} (g:Nat→α→Option T):∀ (l:List α) (i:Nat) (t:T),bT g l i=some t→∃ k,∃ h:k<l.length,g (i+k) l[k]=some t
 | [],_,_,e=>by cases e
 | x::l,i,t,e=>by
  rw [bT] at e
  cases hg:g i x with
  | some u=>rw [hg] at e;exact ⟨0,by simp,by rw [← e];exact hg⟩
  | none =>
   rw [hg] at e
   obtain ⟨k,h,hk⟩:=wL g l (i+1) t e
   exact ⟨k+1,by simpa using h,by rw [show i+(k+1)=i+1+k by omega];simpa using hk⟩
theorem wM (a b:List Za) (ha:a.length≤140737488355328):bW a b=some (decide (a=b)):=rq a b ha
theorem A3 {plan:List Zc} {l:List Zb} (hv:VPs plan) (hl:VAs l) {imp:ByteArray} (m:List (Za×Bool)) {c:Za} (h:jk plan l imp c=true):dn ⟨⟨m⟩,plan,l,imp⟩ c=some (nS plan l c):=by
 unfold dn
 have hll:=hl.len
 rw [sL hv,bc]
 dsimp only
 refine (bD (l:=l) (by omega) (fun _ (a:Zb)=>cond (a.ID == c.Agreement) (some (.inr ((dw a (bP plan c.Product).Code).getD rp))) none) (.inl ()) (fun k hk=>?_) (by simp only [cN,bv])).trans ?_
 ·simp only [gY hk,bL,aQ hk,bc,bM hk (show l.length≤4611686018427387904 by omega)]
  cases (l[k].ID == c.Agreement)
  ·rfl
  simp only [bL]
  rw [qA _ _ (hl.all _ (List.getElem_mem hk)),bc,wo];rfl
 rw [iV (fun a:Zb=>a.ID == c.Agreement) (fun a=>(Sum.inr ((dw a (bP plan c.Product).Code).getD rp):Unit⊕Zd))]
 obtain ⟨a,ha⟩:=Option.isSome_iff_exists.1 (C9 h)
 unfold nS kN
 rw [ha]
 unfold ka at ha
 rw [ha];rfl
theorem uj {plan:List Zc} {l:List Zb} {imp:ByteArray} (hl:VAs l) {c:Za} (h:jk plan l imp c=true):ROk (nS plan l c)∧dG (nS plan l c)=true∧pV (nS plan l c)≤32:=yc hl (GC h)
theorem A4 (plan:List Zc) (l:List Zb) (imp:ByteArray) (c:Za) (S:CSet):Strict bu (ot plan l imp c S):=tD ordC _
theorem wN {plan:List Zc} {l:List Zb} (hv:VPs plan) (imp:ByteArray) {c:Za} (S:CSet) (h:jk plan l imp c=true):(ot plan l imp c S).length≤140737488355328:=by
 have:=Gx hv (l:=l) imp c S (ow h)
 omega
theorem Ci {plan:List Zc} {l:List Zb} (hv:VPs plan) (hl:VAs l) (imp:ByteArray) (m:List (Za×Bool)) (K:CSet) (hK:∀ c,(kr m c).getD false=K c) (p:Zf) (hp:p.Premises.length≤140737488355328) :
    dz ⟨⟨m⟩,plan,l,imp⟩ p=some (nT plan l imp K (wK p)):=by
  unfold dz
  have hhas:∀ c,dL ⟨m⟩ c=some (K c):=fun c=>by unfold dL;rw [hK]
  dsimp only
  rw [wm _ _ _ _ hv.sorted hl,bc,hhas]
  unfold nT wK
  dsimp only
  cases hadm:jk plan l imp p.Claim with
  | false=>rfl
  | true =>
    simp only [Bool.not_true,Bool.not_false,cu,bc,Bool.false_or,Bool.true_and]
    cases hk:K p.Claim with
    | true=>rfl
    | false =>
      simp only [bv,Bool.not_false,Bool.true_and]
      refine (bD (l:=p.Premises) (by omega) (fun k x=>cond (K x&&(!decide (0<k)||bu (p.Premises.getD (k - 1) x) x)) none (some (.inr false))) (.inl ()) (fun k hk=>?_) (by simp only [cN,bv])).trans ?_
      · simp only [gY hk,bL,aQ hk,bc,bM hk (show p.Premises.length≤4611686018427387904 by omega),BG,hhas]
        cases hkx:K p.Premises[k]
        · rfl
        by_cases h0:0<k
        · simp only [h0,decide_true,Bool.not_true,Bool.not_false,Bool.true_and,cu,fM h0 hk (show p.Premises.length≤4611686018427387904 by omega),bc,BJ,cf_ge,Bool.false_or,dt (show k - 1<p.Premises.length by omega)]
          cases bu (p.Premises[k-1]'(by omega)) p.Premises[k] <;> rfl
        simp only [h0,decide_false,Bool.not_true,Bool.not_false,Bool.true_and,iO,bc,Bool.false_and,Bool.false_or,Bool.true_or,bv,bL];rfl
      cases hf:bT (fun k x=>cond (K x&&(!decide (0<k)||bu (p.Premises.getD (k - 1) x) x)) none (some (Sum.inr false:Unit⊕Bool))) p.Premises 0 with
      | none =>
        have hall:=ke _ _ _ hf
        have hKall:p.Premises.all K=true:=by
          rw [List.all_eq_true]
          intro x hx
          obtain ⟨k,hk,rfl⟩:=List.getElem_of_mem hx
          have:=hall k hk
          cases hc:K p.Premises[k] with
          | true=>rfl
          | false=>rw [hc] at this;cases this
        rw [hKall]
        simp only [Option.getD_none]
        rw [xY hv hl imp _ _ hp,bc]
        unfold uh
        rw [hadm]
        simp only [bL]
        rw [wM _ _ (wN hv imp _ hadm),bc]
        cases hd:decide (ot plan l imp p.Claim (aZ p.Premises)=p.Premises) with
        | false=>rfl
        | true =>
          simp only [Bool.not_true,bv,Bool.true_and]
          obtain ⟨k1,k2,k3⟩:=uj hl hadm
          rw [A3 hv hl m hadm,bc,A1 (px hv imp _ _ (ow hadm)) k1 k2 k3]
          rfl
      | some t =>
        obtain ⟨k,hk,hg⟩:=wL _ _ _ _ hf
        rw [Nat.zero_add] at hg
        have ht:t=.inr false∧(K p.Premises[k]&&(!decide (0<k)||bu (p.Premises.getD (k - 1) p.Premises[k]) p.Premises[k]))=false:=by
          cases hc:(K p.Premises[k]&&(!decide (0<k)||bu (p.Premises.getD (k - 1) p.Premises[k]) p.Premises[k])) with
          | true=>rw [hc] at hg;cases hg
          | false=>rw [hc] at hg;injection hg with hg;exact ⟨hg.symm,rfl⟩
        obtain ⟨rfl,hbad⟩:=ht
        have hfalse:(p.Premises.all K&&decide (ot plan l imp p.Claim (aZ p.Premises)=p.Premises))=false:=by
          cases hc:(p.Premises.all K&&decide (ot plan l imp p.Claim (aZ p.Premises)=p.Premises)) with
          | false=>rfl
          | true =>
            rw [Bool.and_eq_true] at hc
            have h1:=List.all_eq_true.1 hc.1 _ (List.getElem_mem hk)
            have h2:=A4 plan l imp p.Claim (aZ p.Premises)
            rw [of_decide_eq_true hc.2] at h2
            rw [h1,Bool.true_and] at hbad
            by_cases h0:0<k
            · rw [det h0,Bool.not_true,Bool.false_or,dt (show k - 1<p.Premises.length by omega)] at hbad
              have:=List.pairwise_iff_getElem.1 h2 (k - 1) k (by omega) hk (by omega)
              rw [this] at hbad;cases hbad
            rw [cb h0] at hbad;cases hbad
        rw [hfalse];rfl
theorem El {plan:List Zc} {l:List Zb} (hv:VPs plan) (hl:VAs l) (imp:ByteArray) (set:List Za) (hs:set.length≤1000000) (p:Zf) (hp:p.Premises.length≤140737488355328) (v:Int) {β:Type}
    (K:List Za→Option (β⊕((List Zf)⊕(Int×Int)))) {Q:Unit⊕(β⊕((List Zf)⊕(Int×Int)))→Option (β⊕((List Zf)⊕(Int×Int)))}
    (hQ1:Q (.inl ())=Option.bind (fB plan l imp p.Claim p.Premises) (fun x21=>Option.bind (dV plan p.Claim.Product) (fun x23=>Option.bind (dT l p.Claim.Agreement) (fun x25=>Option.bind (fb x25.1 x23.1.Code) (fun x27=>Option.bind (fJ x21.2 p.Premises) (fun x29=>Option.bind (gd (!(!x29)) (jh x27.1 x21.1 p.Path)) (fun x30=>cond ((!x29)||(!x30)) (some (.inr (.inr (v,(10:Int))))) (Option.bind (eU set p.Claim) K)))))))) (hQ2:∀ e,Q (.inr e)=some e) :
    Option.bind (cW plan l imp p.Claim) (fun x11=>Option.bind (gd (!(!x11)) (cG set p.Claim)) (fun x12=>cond ((!x11)||x12) (some (.inr (.inr (v,(10:Int))))) (Option.bind (aT (S:=Int) (T:=(Unit)⊕(β⊕((List Zf)⊕(Int×Int)))) (fun v14=>cond (decide (v14<(p.Premises.length:Int))) (Option.bind (idx p.Premises v14) (fun m18=>Option.bind (cG set m18) (fun x19=>cond (!x19) (some (.inr (.inr (.inr (.inr (v,(10:Int))))))) (some (.inl (IntKind.i64.wrap (v14+1))))))) (some (.inr (.inl ())))) FUEL 0) Q)))
    = cond (nT plan l imp (aZ set) (wK p)) (K (iD bu set p.Claim)) (some (.inr (.inr (v,10)))):=by
  rw [yY _ _ _ _ (by have:=hv.len;omega) hl,bc]
  unfold nT wK
  dsimp only
  cases hadm:jk plan l imp p.Claim with
  | false=>rfl
  | true =>
    simp only [Bool.not_true,Bool.not_false,cu,Bool.false_or,Bool.true_and,mM _ _ (show set.length≤140737488355328 by omega),bc]
    cases hk:aZ set p.Claim with
    | true=>rfl
    | false =>
      simp only [bv,Bool.not_false,Bool.true_and]
      refine (bD (l:=p.Premises) (by omega) (fun _ x=>cond (!aZ set x) (some (.inr (.inr (.inr (v,(10:Int)))))) none) (.inl ()) (fun k hk=>?_) (by simp only [cN,bv])).trans ?_
      · simp only [gY hk,bL,aQ hk,bc,bM hk (show p.Premises.length≤4611686018427387904 by omega)]
        cases aZ set p.Premises[k] <;> rfl
      rw [iV (fun x:Za => !aZ set x) (fun _=>(Sum.inr (Sum.inr (Sum.inr (v,(10:Int)))):Unit⊕(β⊕((List Zf)⊕(Int×Int)))))]
      cases hf:p.Premises.find? (fun x => !aZ set x) with
      | some y =>
        have h1:=List.mem_of_find?_eq_some hf
        have h2:=List.find?_some hf
        have:p.Premises.all (aZ set)=false:=by
          rw [List.all_eq_false]
          exact ⟨y,h1,by simpa using h2⟩
        rw [this]
        simp only [Option.map_some,Option.getD_some]
        rw [hQ2];rfl
      | none =>
        have hall:p.Premises.all (aZ set)=true:=by
          rw [List.all_eq_true]
          intro y hy
          have:=List.find?_eq_none.1 hf y hy
          simpa using this
        rw [hall]
        simp only [Option.map_none,Option.getD_none]
        rw [hQ1]
        have hA:(ka l p.Claim.Agreement).isSome=true:=C9 hadm
        obtain ⟨a,hfa⟩:=Option.isSome_iff_exists.1 hA
        have hva:=(nq hl hfa).1
        have hru:dw a (bP plan p.Claim.Product).Code=dw (kN l p.Claim.Agreement) (bP plan p.Claim.Product).Code:=by unfold kN;rw [hfa];rfl
        rw [AI hv hl imp _ _ hp,bc,tG hv,bc,qX _ _ (by have:=hl.len;omega),bc,wo,hfa]
        dsimp only [Option.getD_some]
        rw [pn _ _ hva.ok.len,bc,wo,hru]
        unfold uh
        rw [hadm]
        simp only [bL]
        rw [rq _ _ (wN hv imp _ hadm),bc]
        cases hd:decide (ot plan l imp p.Claim (aZ p.Premises)=p.Premises) with
        | false=>rfl
        | true =>
          obtain ⟨k1,k2,k3⟩:=uj hl hadm
          simp only [Bool.not_true,Bool.not_false,cu,Bool.false_or,Bool.true_and]
          have hver:=Ch (px (l:=l) hv imp p.Claim (aZ p.Premises) (ow hadm)) k2 k3 p.Path
          unfold nS at hver ⊢
          rw [hver,bc]
          cases decide (wy (pF plan l imp p.Claim (aZ p.Premises)) ((dw (kN l p.Claim.Agreement) (bP plan p.Claim.Product).Code).getD rp) p.Path=some [])
          · rfl
          simp only [Bool.not_true,bv,bL]
          rw [tE _ _ (by omega),bc]
def jt (plan:List Zc) (l:List Zb) (imp:ByteArray):List Za→List Prf→Nat→Int×Int
 | _,[],k=>((k:Int),0)
 | K,p::ps,k=>cond (nT plan l imp (aZ K) p) (jt plan l imp (K++[p.1]) ps (k+1)) ((k:Int),10)
structure XSm (x:List Zf):Prop where
 len:x.length≤1000000
 prem:∀ p∈x,p.Premises.length≤140737488355328
theorem wO {x:List Zf} {k:Nat} (h:k<x.length):(x.take (k+1)).map (·.Claim)=(x.take k).map (·.Claim)++[x[k].Claim]:=by rw [Ej h,List.map_append];rfl
theorem wP {plan:List Zc} {l:List Zb} {imp:ByteArray} {x:List Zf} {k:Nat} (h:k<x.length):jt plan l imp ((x.take k).map (·.Claim)) ((x.drop k).map wK) k=cond (nT plan l imp (aZ ((x.take k).map (·.Claim))) (wK x[k])) (jt plan l imp ((x.take (k+1)).map (·.Claim)) ((x.drop (k+1)).map wK) (k+1)) ((k:Int),10):=by
 rw [List.drop_eq_getElem_cons h,List.map_cons,jt,wO h];rfl
theorem Cj {plan:List Zc} {l:List Zb} (hv:VPs plan) (hl:VAs l) {imp:ByteArray} (h1:cZ plan=some 0) (h2:cY l=some 0) (h3:bO imp=some true) {x:List Zf} (hx:XSm x):cx plan l imp x=some (jt plan l imp [] (x.map wK) 0):=by
 have key:Y (cx plan l imp x) (fun r=>r=jt plan l imp [] (x.map wK) 0):=by
  unfold cx
  have hlen:=hx.len
  rw [h1,bc,show ((0:Int) != 0)=false from rfl,bv,h2,bc,show ((0:Int) != 0)=false from rfl,bv,h3,bc,Bool.not_true,bv]
  refine Y.bind (P:=fun t=>match t with | .inl _=>jt plan l imp [] (x.map wK) 0=((x.length:Int),0) | .inr e=>e=jt plan l imp [] (x.map wK) 0) ?_ fun t ht=>?_
  ·refine Y.loop (fun s:Int×List (Za×Bool)=>∃ k:Nat,s.1=(k:Int)∧k≤x.length∧(∀ c,(kr s.2 c).getD false=aZ ((x.take k).map (·.Claim)) c)∧jt plan l imp ((x.take k).map (·.Claim)) ((x.drop k).map wK) k=jt plan l imp [] (x.map wK) 0) (fun s=>(x.length - s.1).toNat) ⟨0,rfl,by omega,fun c=>rfl,rfl⟩ (by show ((x.length:Int) - 0).toNat≤_;omega) (fun s hs=>?_)
   obtain ⟨v,m⟩:=s
   obtain ⟨k,hvk,hk,hm,he⟩:=hs
   dsimp only at hvk hm he ⊢
   subst hvk
   rcases Nat.lt_or_ge k x.length with hk2 | hk2
   rotate_left
   ·have e:k=x.length:=by omega
    subst e
    rw [cN,bv]
    rw [List.drop_length] at he
    exact Y.ret he.symm
   rw [gY hk2,bL,aQ hk2,bc,Ci hv hl imp m _ hm _ (hx.prem _ (List.getElem_mem hk2)),bc]
   rw [wP hk2] at he
   cases hr:nT plan l imp (aZ ((x.take k).map (·.Claim))) (wK x[k]) with
   | false=>rw [hr] at he;exact Y.ret he
   | true =>
    rw [hr,bL] at he
    simp only [Bool.not_true,bv]
    unfold fZ
    rw [bc,bM hk2 (by omega)]
    refine Y.ret ⟨⟨k+1,rfl,by omega,fun c=>?_,he⟩,?_⟩
    ·dsimp only
     rw [xV,wO hk2]
     by_cases e:x[k].Claim=c
     ·rw [if_pos e]
      have:aZ ((x.take k).map (·.Claim)++[x[k].Claim]) c=true:=gX.2 (List.mem_append.2 (.inr (by simp [e])))
      rw [this];rfl
     rw [if_neg e,hm,Bool.eq_iff_iff,gX,gX,List.mem_append,List.mem_singleton]
     exact ⟨.inl,fun h=>h.resolve_right fun h=>e h.symm⟩
    show ((x.length:Int) - ((k+1:Nat):Int)).toNat<((x.length:Int) - (k:Int)).toNat;omega
  cases t with
  | inl u=>exact Y.ret (show ((x.length:Int),(0:Int))=_ from Eq.symm ht)
  | inr e=>exact Y.ret ht
 obtain ⟨r,e,rfl⟩:=key
 exact e
theorem Em {plan:List Zc} {l:List Zb} (hv:VPs plan) (hl:VAs l) {imp:ByteArray} {w:List Zf} (h1:fE plan l imp=some (w,0)) {x:List Zf} (hx:XSm x):hQ plan l imp x=some (jt plan l imp [] (x.map wK) 0):=by
 have key:Y (hQ plan l imp x) (fun r=>r=jt plan l imp [] (x.map wK) 0):=by
  unfold hQ
  have hlen:=hx.len
  rw [h1,bc,show ((0:Int) != 0)=false from rfl,bv]
  refine Y.bind (P:=fun t=>match t with | .inl y=>y=x∧jt plan l imp [] (x.map wK) 0=((x.length:Int),0) | .inr e=>e=jt plan l imp [] (x.map wK) 0) ?_ fun t ht=>?_
  ·refine Y.loop (fun s:List Za×Int=>∃ k:Nat,s.2=(k:Int)∧k≤x.length∧s.1.length≤k∧(∀ c,aZ s.1 c=aZ ((x.take k).map (·.Claim)) c)∧jt plan l imp ((x.take k).map (·.Claim)) ((x.drop k).map wK) k=jt plan l imp [] (x.map wK) 0) (fun s=>(x.length - s.2).toNat) ⟨0,rfl,by omega,by simp,fun c=>rfl,rfl⟩ (by show ((x.length:Int) - 0).toNat≤_;omega) (fun s hs=>?_)
   obtain ⟨set,v⟩:=s
   obtain ⟨k,hvk,hk,hsl,hm,he⟩:=hs
   dsimp only at hvk hsl hm he ⊢
   subst hvk
   rcases Nat.lt_or_ge k x.length with hk2 | hk2
   rotate_left
   ·have e:k=x.length:=by omega
    subst e
    rw [cN,bv]
    rw [List.drop_length] at he
    exact Y.ret ⟨rfl,he.symm⟩
   rw [gY hk2,bL,aQ hk2,bc]
   have hms:aZ set=aZ ((x.take k).map (·.Claim)):=funext hm
   rw [wP hk2] at he
   refine Exists.intro (cond (nT plan l imp (aZ set) (wK x[k])) (.inl (iD bu set x[k].Claim,((k+1:Nat):Int))) (.inr (.inr ((k:Int),10)))) ⟨(El hv hl imp set (by omega) x[k] (hx.prem _ (List.getElem_mem hk2)) (k:Int) _ rfl (fun _=>rfl)).trans ?_,?_⟩
   ·rw [bM hk2 (by omega)]
    cases nT plan l imp (aZ set) (wK x[k]) <;> rfl
   rw [hms]
   cases hr:nT plan l imp (aZ ((x.take k).map (·.Claim))) (wK x[k]) with
   | false=>rw [hr] at he;exact he
   | true =>
    rw [hr,bL] at he
    refine ⟨⟨k+1,rfl,by omega,?_,fun c=>?_,he⟩,?_⟩
    ·have:=lT (lt:=bu) set x[k].Claim;dsimp only;omega
    ·dsimp only
     rw [Bool.eq_iff_iff,gX,sI,gX,wO hk2,List.mem_append,List.mem_singleton]
     have:=hm c
     rw [Bool.eq_iff_iff,gX,gX] at this
     rw [this]
     exact Or.comm
    show ((x.length:Int) - ((k+1:Nat):Int)).toNat<((x.length:Int) - (k:Int)).toNat;omega
  cases t with
  | inl u=>obtain ⟨rfl,h⟩:=ht;exact Y.ret (show ((u.length:Int),(0:Int))=_ from Eq.symm h)
  | inr e=>exact Y.ret ht
 obtain ⟨r,e,rfl⟩:=key
 exact e

structure PSm (M:Nat) (p:Zf):Prop where
 path:p.Path.length≤M
 prem:p.Premises.length≤M
structure CSm (n M:Nat) (x:List Zf):Prop where
 len:x.length≤n
 all:∀ p∈x,PSm M p
theorem GQ {κ:Kr} {p:Zf} {ds:List Value} (h:Rps κ (Zf.enc p) ds):p.Path.length≤140737488355328∧p.Premises.length≤140737488355328 :=
 ⟨by have:=pj (k:=2) h rfl;simpa using this,by have:=pj (k:=3) h rfl;simpa using this⟩
theorem En {κ:Kr} {l:List Zf} {ds:List Value} (h:Rps κ (eL Zf.enc l) ds):∀ p∈l,p.Path.length≤140737488355328∧p.Premises.length≤140737488355328:=fun p hp=>by
 obtain ⟨ds,hd⟩:=oq (k:=0) h rfl (List.mem_map_of_mem (f:=Zf.enc) hp)
 exact GQ hd
theorem Ck (l:List Zb) (hl:l.length≤1000) (h:∀ a∈l,RawA a∧a.Rules.length*112≤140737488355328):Y (eO l) (fun r=>ASOk r∧r.length=l.length):=by
 unfold eO
 rw [gH (by omega) (by omega),bc]
 refine Y.bind (CS (L:=l) (by omega) (fun a=>RawA a∧a.Rules.length*112≤140737488355328) AOk h (fun l k hk hl2 hp=>?_) (fun l hl=>by simp only [cN,bv])) fun r ⟨h1,h2⟩=>Y.ret ⟨⟨by omega,h2⟩,h1⟩
 obtain ⟨hp,hq⟩:=hp
 rw [← hl2]
 simp only [gY hk,bL,aQ hk,bc,bM hk (show l.length≤4611686018427387904 by omega)]
 rw [df (by simp only [List.length_nil];omega) (by simp only [List.length_nil];omega),bc,List.nil_append]
 refine Y.bind (CS (L:=l[k].Rules) (by omega) (fun x=>x.Prefix.size≤140737488355328∧ROk x.Rule) RFOk hp.rules (fun m j hj hm hx=>?_) (fun l hl=>by simp only [cN,bv])) fun m ⟨m1,m2⟩=>Y.ret ⟨(⟨l[k].ID,l[k].Kind,l[k].Parties,m⟩:Zb),⟨hp.par,by dsimp only;omega,m2⟩,by simp⟩
 rw [← hm]
 simp only [gY hj,bL,aQ hj,bc,bM hj (show m.length≤4611686018427387904 by omega)]
 refine (F5 5 FUEL _ (jv (by omega)) (by omega) hx.2).bind fun x ⟨x1,x2⟩=>Y.ret ⟨(⟨m[j].Prefix,x⟩:Zh),⟨hx.1,x1,by dsimp only;omega⟩,by simp⟩
theorem Cl {κ:Kr} {p:Zc} {ds:List Value} (h:Rps κ (Zc.enc p) ds):POk p :=
 ⟨uS (k:=1) h rfl,yV (k:=5) h rfl,by have:=pj (k:=6) h rfl;simpa using this⟩
theorem A5 {κ:Kr} {l:List Zc} {ds:List Value} (h:Rps κ (eL Zc.enc l) ds):PSOk l:=by
 refine ⟨by have:=pj (k:=0) h rfl;simpa using this,fun p hp=>?_⟩
 obtain ⟨ds,hd⟩:=oq (k:=0) h rfl (List.mem_map_of_mem (f:=Zc.enc) hp)
 exact Cl hd
theorem GR {l:List Zc} (hv:VPs l) (hi:VIds l):PSOk l:=by
 refine ⟨by have:=hv.len;omega,fun p hp=>⟨?_,Ef (hv.all p hp),?_⟩⟩
 ·have:=GF (hi.lvl p hp);omega
 have:=(hv.all p hp).few;omega
theorem A6 {l:List Zh} (h:rulesE l=0):∀ x∈l,kF x.Rule=0:=by
 intro x hx
 obtain ⟨k,hk,rfl⟩:=List.getElem_of_mem hx
 have:=ke _ _ _ (ls _ (GM l) l 0 h) k hk
 rw [Nat.zero_add] at this
 unfold mu at this
 cases h1:A8 l[k].Prefix with
 | false=>rw [h1] at this;cases this
 | true =>
  rw [h1,bL] at this
  cases h2:(decide (0<k) && !i7 (l.getD (k - 1) l[k]).Prefix l[k].Prefix) with
  | true=>rw [h2] at this;cases this
  | false =>
   rw [h2,bv] at this
   cases h3:(kF l[k].Rule == 0) with
   | true=>exact eq_of_beq h3
   | false=>rw [h3] at this;cases this
theorem Eo {l:List Zb} (hok:ASOk l) (h:sB l=0):VAs l∧AscA l:=by
 unfold sB at h
 cases hl:decide (l.length≤8) with
 | false=>rw [hl] at h;cases h
 | true =>
  rw [hl,bL] at h
  have hl:=of_decide_eq_true hl
  have hn:=ke _ _ _ (ls _ (gAgr_nz l) l 0 h)
  have key:∀ k,(hk:k<l.length)→(0<k→(l[k - 1]'(by omega)).ID<l[k].ID)∧(l[k].Rules.length≤12∧l[k].Parties.length≤12)∧rulesE l[k].Rules=0:=by
   intro k hk
   have h1:=hn k hk
   rw [Nat.zero_add] at h1
   unfold uE at h1
   cases h2:(decide (l[k].ID<1)||decide (1000<l[k].ID)||decide (l[k].Kind<1)||decide (3<l[k].Kind)) with
   | true=>rw [h2] at h1;cases h1
   | false =>
    rw [h2,bv] at h1
    cases h3:(decide (0<k)&&decide (l[k].ID≤(l.getD (k - 1) l[k]).ID)) with
    | true=>rw [h3] at h1;cases h1
    | false =>
     rw [h3,bv] at h1
     cases h4:(decide (12<l[k].Parties.length)||decide (12<l[k].Rules.length)) with
     | true=>rw [h4] at h1;cases h1
     | false =>
      rw [h4,bv] at h1
      cases h5:jb l[k].Parties with
      | false=>rw [h5] at h1;cases h1
      | true =>
       rw [h5,bL] at h1
       cases h6:(rulesE l[k].Rules == 0) with
       | false=>rw [h6] at h1;cases h1
       | true =>
        simp only [Bool.or_eq_false_iff,decide_eq_false_iff_not] at h4
        refine ⟨fun h0=>?_,by omega,eq_of_beq h6⟩
        rw [det h0,Bool.true_and,decide_eq_false_iff_not,dt (show k - 1<l.length by omega)] at h3
        omega
  refine ⟨⟨by omega,fun a ha=>?_⟩,tI fun k hk h0=>(key k hk).1 h0⟩
  obtain ⟨k,hk,rfl⟩:=List.getElem_of_mem ha
  exact ⟨hok.all _ ha,A6 (key k hk).2.2,(key k hk).2.1⟩
def SolveR (p:List Zc) (l:List Zb) (imp:ByteArray) (r:List Zf×Int):Prop :=
 (r=((ww p l imp).map qL,0)∧VPs p∧VIds p∧VAs l∧AscA l∧oy p=0∧sB l=0∧mL imp=true)∨(r.1=[]∧r.2≠0∧((oy p≠0∧r.2=oy p)∨(oy p=0∧sB l≠0∧r.2=sB l)∨(oy p=0∧sB l=0∧mL imp=false∧r.2=1)))
theorem r7 {e:Int} (h:e≠0):(e != 0)=true:=by simpa using h
theorem GS {p:List Zc} {l:List Zb} (hp:PSOk p) (hl:ASOk l) (imp:ByteArray):∃ r,jj p l imp=some r∧fE p l imp=some r∧SolveR p l imp r:=by
 have v1:=wI p hp;have v2:=Ei p hp;have v3:=Av l hl;have v4:=ref_agr l hl
 by_cases h1:oy p=0
 ·by_cases h2:sB l=0
  ·cases h3:mL imp with
   | true =>
    obtain ⟨a1,a2⟩:=Cg h1
    obtain ⟨a3,a4⟩:=Eo hl h2
    exact ⟨_,Cc a1 a3 (by rw [v1,h1]) (by rw [v3,h2]) (by rw [iN,h3]),Ed a1 a3 a4 (by rw [v2,h1]) (by rw [v4,h2]) (by rw [nD,h3]),.inl ⟨rfl,a1,a2,a3,a4,h1,h2,h3⟩⟩
   | false =>
    refine ⟨([],1),?_,?_,.inr ⟨rfl,by decide,.inr (.inr ⟨h1,h2,h3,rfl⟩)⟩⟩
    ·unfold jj
     rw [v1,h1,bc,v3,h2,iN,h3];rfl
    unfold fE
    rw [v2,h1,bc,v4,h2,nD,h3];rfl
  refine ⟨([],sB l),?_,?_,.inr ⟨rfl,h2,.inr (.inl ⟨h1,h2,rfl⟩)⟩⟩
  ·unfold jj
   rw [v1,h1,bc,v3]
   rw [show ((0:Int) != 0)=false from rfl,bv,bc,r7 h2];rfl
  unfold fE
  rw [v2,h1,bc,v4]
  rw [show ((0:Int) != 0)=false from rfl,bv,bc,r7 h2];rfl
 refine ⟨([],oy p),?_,?_,.inr ⟨rfl,h1,.inl ⟨h1,rfl⟩⟩⟩
 ·unfold jj
  rw [v1,bc,r7 h1];rfl
 unfold fE
 rw [v2,bc,r7 h1];rfl
theorem Ep {p:List Zc} {l:List Zb} (hp:PSOk p) (hl:ASOk l) (imp:ByteArray) {x:List Zf} (hx:XSm x):∃ r,cx p l imp x=some r∧hQ p l imp x=some r:=by
 obtain ⟨w,s1,s2,hr⟩:=GS hp hl imp
 have v1:=wI p hp;have v3:=Av l hl
 rcases hr with ⟨rfl,hv,hvi,hva,ha,h1,h2,h3⟩ | ⟨_,h0,hr⟩
 ·exact ⟨_,Cj hv hva (by rw [v1,h1]) (by rw [v3,h2]) (by rw [iN,h3]) hx,Em hv hva s2 hx⟩
 refine ⟨(0,w.2),?_,?_⟩
 ·unfold cx
  rcases hr with ⟨h1,h2⟩ | ⟨h1,h2,h3⟩ | ⟨h1,h2,h3,h4⟩
  ·rw [v1,bc,r7 h1,h2];rfl
  ·rw [v1,h1,bc,show ((0:Int) != 0)=false from rfl,bv,v3,bc,r7 h2,h3];rfl
  rw [v1,h1,bc,show ((0:Int) != 0)=false from rfl,bv,v3,h2,bc,show ((0:Int) != 0)=false from rfl,bv,iN,h3,h4];rfl
 unfold hQ
 rw [s2,bc,r7 h0];rfl
theorem pT (m0:List Zc) (m1:List Zb) (m2:ByteArray) (m3:List Zf) (m4:List Int) (m5:Int) {κ:Kr} {v0 v1 v2 v3 v4 v5:List Value} (s0:Rps κ (eL Zc.enc m0) v0) (s1:Rps κ (eL Zb.enc m1) v1) (_:Rps κ (eS m2) v2) (s3:Rps κ (eL Zf.enc m3) v3) (_:Rps κ (eL eI m4) v4) (_:Rps κ (eI m5) v5) (hb:∀ a∈m1,a.Rules.length*112≤140737488355328):ed m0 m1 m2 m3 m4 m5=some true:=by
 have hraw:=Ge s1
 have hps:=A5 s0
 have hpf:=En s3
 have key:Y (ed m0 m1 m2 m3 m4 m5) (fun r=>r=true):=by
  unfold ed
  refine Y.cond (fun _=>by rw [Dh,bc];exact Y.ret rfl) (fun hc=>?_)
  rw [Bool.or_eq_false_iff,Bool.or_eq_false_iff] at hc
  have c1:=of_decide_eq_false hc.1.1;have c2:=of_decide_eq_false hc.1.2;have c3:=of_decide_eq_false hc.2
  have hx3:XSm m3:=⟨by omega,fun p hp=>(hpf p hp).2⟩
  refine (Ck m1 (by omega) fun a ha=>⟨hraw a ha,hb a ha⟩).bind fun x ⟨hx,_⟩=>?_
  refine Y.bind (P:=fun t:List Zc×List Int×Int=>PSOk t.1) (Y.cond (fun _=>(plan_Y m4).bind fun y hy=>Y.ret (GR hy.vps hy.vids)) fun _=>Y.ret hps) fun t ht=>?_
  obtain ⟨p,g,w⟩:=t
  dsimp only at ht ⊢
  refine Y.bind (P:=ASOk) (Y.cond (fun _=>(yU g).bind fun y hy=>Y.ret hy.ok) fun _=>Y.ret hx) fun l hl=>?_
  obtain ⟨r,r1,r2⟩:=Ep ht hl m2 hx3
  rw [r1,bc,r2,bc]
  simp only [beq_self_eq_true,Bool.and_self,cu,Dh,bc]
  exact Y.ret rfl
 obtain ⟨r,e,rfl⟩:=key
 exact e
def GU:Nat→Int→Prop:=fun _ _=>True
theorem Dj {H:Type} {eh:TypeId×Value→H} {nb:Nat}:Opens eh nb 3 eI (GU nb):=DW rfl
def bd22:Nat→(List Int)→Prop:=fun n l=>l.length*8≤140737488355328∧l.length≤n∧∀ x∈l,GU n x
theorem op22 {H:Type} {eh:TypeId×Value→H} {nb:Nat}:Opens eh nb 22 (eL eI) (bd22 nb):=hX rfl rfl rfl rfl Dj
def bd9:Nat→ByteArray→Prop:=fun _ _=>True
theorem op9 {H:Type} {eh:TypeId×Value→H} {nb:Nat}:Opens eh nb 9 eS (bd9 nb):=DX rfl
def bd4:Nat→Bool→Prop:=fun _ _=>True
theorem op4 {H:Type} {eh:TypeId×Value→H} {nb:Nat}:Opens eh nb 4 eT (bd4 nb):=BN rfl
def bd33:Nat→(List ByteArray)→Prop:=fun n l=>l.length*16≤140737488355328∧l.length≤n∧∀ x∈l,bd9 n x
theorem op33 {H:Type} {eh:TypeId×Value→H} {nb:Nat}:Opens eh nb 33 (eL eS) (bd33 nb):=hX rfl rfl rfl rfl op9
def bd78:Nat→Zi→Prop:=fun n m=>GU n m.Product∧GU n m.Value∧True
theorem op78 {H:Type} {eh:TypeId×Value→H} {nb:Nat}:Opens eh nb 78 Zi.enc (bd78 nb):=fun W fuel cs x hx hw hbk=>by
 obtain ⟨xs,n,rfl,rfl,hl,hlen,hf⟩:=DataW.trod_struct (bq (t:=78) rfl) hx
 obtain ⟨x0,x1,rfl⟩:∃ x0 x1,xs=[x0,x1]:=by
  match xs,hlen with
  | [a0,a1],_=>exact ⟨a0,a1,rfl⟩
 have hw2:∀ n∈DataW.weightsEach Tryz.prog [3,3] [x0.1,x1.1],n≤reachBytes:=fun n hn=>hw n (by simp only [DataW.weights,bq (t:=78) rfl];exact hn)
 simp only [DataW.weightsEach,List.mem_append] at hw2
 simp only [Rows.uptoBulk,List.map_cons,List.map_nil,Rows.uptoBulkAll] at hbk
 have g0:DataW.trod eh Tryz.prog W 0 (fun _=>true) true n 3 ((cs.drop 0).take (Tryz.prog.cellsOf 3))=some x0:=hf 0 _ rfl
 rw [(bp (t:=3) rfl).1] at g0
 obtain ⟨m0,r0,o0,c0⟩:=Dj (nb:=nb) W n _ _ g0 (fun n hn=>hw2 n (.inl hn)) (by omega)
 have g1:DataW.trod eh Tryz.prog W 0 (fun _=>true) true n 3 ((cs.drop 1).take (Tryz.prog.cellsOf 3))=some x1:=hf 1 _ rfl
 rw [(bp (t:=3) rfl).1] at g1
 obtain ⟨m1,r1,o1,c1⟩:=Dj (nb:=nb) W n _ _ g1 (fun n hn=>hw2 n (.inr (.inl hn))) (by omega)
 have hl2:cs.length=2:=hl.trans (bp (t:=78) rfl).1
 exact ⟨(⟨m0,m1⟩:Zi),(cI (off:=0) r0 (cI (off:=1) r1 (pb hl2))),(cJ (off:=0) o0 (cJ (off:=1) o1 (pg hl2))),⟨c0,c1,trivial⟩⟩
def bd74:Nat→(List Zi)→Prop:=fun n l=>l.length*16≤140737488355328∧l.length≤n∧∀ x∈l,bd78 n x
theorem op74 {H:Type} {eh:TypeId×Value→H} {nb:Nat}:Opens eh nb 74 (eL Zi.enc) (bd74 nb):=hX rfl rfl rfl rfl op78
def bd76:Nat→Zc→Prop:=fun n m=>GU n m.ID∧bd9 n m.Code∧bd9 n m.Country∧GU n m.Price∧bd4 n m.Obtained∧bd33 n m.Processes∧bd74 n m.Inputs∧True
theorem op76 {H:Type} {eh:TypeId×Value→H} {nb:Nat}:Opens eh nb 76 Zc.enc (bd76 nb):=fun W fuel cs x hx hw hbk=>by
 obtain ⟨xs,n,rfl,rfl,hl,hlen,hf⟩:=DataW.trod_struct (bq (t:=76) rfl) hx
 obtain ⟨x0,x1,x2,x3,x4,x5,x6,rfl⟩:∃ x0 x1 x2 x3 x4 x5 x6,xs=[x0,x1,x2,x3,x4,x5,x6]:=by
  match xs,hlen with
  | [a0,a1,a2,a3,a4,a5,a6],_=>exact ⟨a0,a1,a2,a3,a4,a5,a6,rfl⟩
 have hw2:∀ n∈DataW.weightsEach Tryz.prog [3,9,9,3,4,33,74] [x0.1,x1.1,x2.1,x3.1,x4.1,x5.1,x6.1],n≤reachBytes:=fun n hn=>hw n (by simp only [DataW.weights,bq (t:=76) rfl];exact hn)
 simp only [DataW.weightsEach,List.mem_append] at hw2
 simp only [Rows.uptoBulk,List.map_cons,List.map_nil,Rows.uptoBulkAll] at hbk
 have g0:DataW.trod eh Tryz.prog W 0 (fun _=>true) true n 3 ((cs.drop 0).take (Tryz.prog.cellsOf 3))=some x0:=hf 0 _ rfl
 rw [(bp (t:=3) rfl).1] at g0
 obtain ⟨m0,r0,o0,c0⟩:=Dj (nb:=nb) W n _ _ g0 (fun n hn=>hw2 n (.inl hn)) (by omega)
 have g1:DataW.trod eh Tryz.prog W 0 (fun _=>true) true n 9 ((cs.drop 1).take (Tryz.prog.cellsOf 9))=some x1:=hf 1 _ rfl
 rw [(bp (t:=9) rfl).1] at g1
 obtain ⟨m1,r1,o1,c1⟩:=op9 (nb:=nb) W n _ _ g1 (fun n hn=>hw2 n (.inr (.inl hn))) (by omega)
 have g2:DataW.trod eh Tryz.prog W 0 (fun _=>true) true n 9 ((cs.drop 2).take (Tryz.prog.cellsOf 9))=some x2:=hf 2 _ rfl
 rw [(bp (t:=9) rfl).1] at g2
 obtain ⟨m2,r2,o2,c2⟩:=op9 (nb:=nb) W n _ _ g2 (fun n hn=>hw2 n (.inr (.inr (.inl hn)))) (by omega)
 have g3:DataW.trod eh Tryz.prog W 0 (fun _=>true) true n 3 ((cs.drop 3).take (Tryz.prog.cellsOf 3))=some x3:=hf 3 _ rfl
 rw [(bp (t:=3) rfl).1] at g3
 obtain ⟨m3,r3,o3,c3⟩:=Dj (nb:=nb) W n _ _ g3 (fun n hn=>hw2 n (.inr (.inr (.inr (.inl hn))))) (by omega)
 have g4:DataW.trod eh Tryz.prog W 0 (fun _=>true) true n 4 ((cs.drop 4).take (Tryz.prog.cellsOf 4))=some x4:=hf 4 _ rfl
 rw [(bp (t:=4) rfl).1] at g4
 obtain ⟨m4,r4,o4,c4⟩:=op4 (nb:=nb) W n _ _ g4 (fun n hn=>hw2 n (.inr (.inr (.inr (.inr (.inl hn)))))) (by omega)
 have g5:DataW.trod eh Tryz.prog W 0 (fun _=>true) true n 33 ((cs.drop 5).take (Tryz.prog.cellsOf 33))=some x5:=hf 5 _ rfl
 rw [(bp (t:=33) rfl).1] at g5
 obtain ⟨m5,r5,o5,c5⟩:=op33 (nb:=nb) W n _ _ g5 (fun n hn=>hw2 n (.inr (.inr (.inr (.inr (.inr (.inl hn))))))) (by omega)
 have g6:DataW.trod eh Tryz.prog W 0 (fun _=>true) true n 74 ((cs.drop 6).take (Tryz.prog.cellsOf 74))=some x6:=hf 6 _ rfl
 rw [(bp (t:=74) rfl).1] at g6
 obtain ⟨m6,r6,o6,c6⟩:=op74 (nb:=nb) W n _ _ g6 (fun n hn=>hw2 n (.inr (.inr (.inr (.inr (.inr (.inr (.inl hn)))))))) (by omega)
 have hl2:cs.length=7:=hl.trans (bp (t:=76) rfl).1
 exact ⟨(⟨m0,m1,m2,m3,m4,m5,m6⟩:Zc),(cI (off:=0) r0 (cI (off:=1) r1 (cI (off:=2) r2 (cI (off:=3) r3 (cI (off:=4) r4 (cI (off:=5) r5 (cI (off:=6) r6 (pb hl2)))))))),(cJ (off:=0) o0 (cJ (off:=1) o1 (cJ (off:=2) o2 (cJ (off:=3) o3 (cJ (off:=4) o4 (cJ (off:=5) o5 (cJ (off:=6) o6 (pg hl2)))))))),⟨c0,c1,c2,c3,c4,c5,c6,trivial⟩⟩
def bd23:Nat→(List Zc)→Prop:=fun n l=>l.length*104≤140737488355328∧l.length≤n∧∀ x∈l,bd76 n x
theorem op23 {H:Type} {eh:TypeId×Value→H} {nb:Nat}:Opens eh nb 23 (eL Zc.enc) (bd23 nb):=hX rfl rfl rfl rfl op76
def bd84:Nat→Zd→Prop:=fun n m=>True
theorem opN84 {H:Type} {eh:TypeId×Value→H} {nb:Nat}:∀ N,OpensN eh N nb 84 Zd.enc (fun _=>True):=by
 refine Nat.rec (motive:=fun N=>OpensN eh N nb 84 Zd.enc (fun _=>True)) (fun _ _ _ _ h=>absurd h (Nat.not_lt_zero _)) (fun N ih=>?_)
 intro W fuel cs x hfu hx hw hbk
 obtain ⟨xs,n,rfl,rfl,hl,hlen,hf⟩:=DataW.trod_struct (bq (t:=84) rfl) hx
 obtain ⟨x0,x1,x2,x3,x4,x5,x6,rfl⟩:∃ x0 x1 x2 x3 x4 x5 x6,xs=[x0,x1,x2,x3,x4,x5,x6]:=by
  match xs,hlen with
  | [a0,a1,a2,a3,a4,a5,a6],_=>exact ⟨a0,a1,a2,a3,a4,a5,a6,rfl⟩
 have hw2:∀ n∈DataW.weightsEach Tryz.prog [3,3,33,3,3,9,82] [x0.1,x1.1,x2.1,x3.1,x4.1,x5.1,x6.1],n≤reachBytes:=fun n hn=>hw n (by simp only [DataW.weights,bq (t:=84) rfl];exact hn)
 simp only [DataW.weightsEach,List.mem_append] at hw2
 simp only [Rows.uptoBulk,List.map_cons,List.map_nil,Rows.uptoBulkAll] at hbk
 have g0:DataW.trod eh Tryz.prog W 0 (fun _=>true) true n 3 ((cs.drop 0).take (Tryz.prog.cellsOf 3))=some x0:=hf 0 _ rfl
 rw [(bp (t:=3) rfl).1] at g0
 obtain ⟨m0,r0,o0,c0⟩:=Dj (nb:=nb) W n _ _ g0 (fun n hn=>hw2 n (.inl hn)) (by omega)
 have g1:DataW.trod eh Tryz.prog W 0 (fun _=>true) true n 3 ((cs.drop 1).take (Tryz.prog.cellsOf 3))=some x1:=hf 1 _ rfl
 rw [(bp (t:=3) rfl).1] at g1
 obtain ⟨m1,r1,o1,c1⟩:=Dj (nb:=nb) W n _ _ g1 (fun n hn=>hw2 n (.inr (.inl hn))) (by omega)
 have g2:DataW.trod eh Tryz.prog W 0 (fun _=>true) true n 33 ((cs.drop 2).take (Tryz.prog.cellsOf 33))=some x2:=hf 2 _ rfl
 rw [(bp (t:=33) rfl).1] at g2
 obtain ⟨m2,r2,o2,c2⟩:=op33 (nb:=nb) W n _ _ g2 (fun n hn=>hw2 n (.inr (.inr (.inl hn)))) (by omega)
 have g3:DataW.trod eh Tryz.prog W 0 (fun _=>true) true n 3 ((cs.drop 3).take (Tryz.prog.cellsOf 3))=some x3:=hf 3 _ rfl
 rw [(bp (t:=3) rfl).1] at g3
 obtain ⟨m3,r3,o3,c3⟩:=Dj (nb:=nb) W n _ _ g3 (fun n hn=>hw2 n (.inr (.inr (.inr (.inl hn))))) (by omega)
 have g4:DataW.trod eh Tryz.prog W 0 (fun _=>true) true n 3 ((cs.drop 4).take (Tryz.prog.cellsOf 3))=some x4:=hf 4 _ rfl
 rw [(bp (t:=3) rfl).1] at g4
 obtain ⟨m4,r4,o4,c4⟩:=Dj (nb:=nb) W n _ _ g4 (fun n hn=>hw2 n (.inr (.inr (.inr (.inr (.inl hn)))))) (by omega)
 have g5:DataW.trod eh Tryz.prog W 0 (fun _=>true) true n 9 ((cs.drop 5).take (Tryz.prog.cellsOf 9))=some x5:=hf 5 _ rfl
 rw [(bp (t:=9) rfl).1] at g5
 obtain ⟨m5,r5,o5,c5⟩:=op9 (nb:=nb) W n _ _ g5 (fun n hn=>hw2 n (.inr (.inr (.inr (.inr (.inr (.inl hn))))))) (by omega)
 have g6:DataW.trod eh Tryz.prog W 0 (fun _=>true) true n 82 ((cs.drop 6).take (Tryz.prog.cellsOf 82))=some x6:=hf 6 _ rfl
 rw [(bp (t:=82) rfl).1] at g6
 obtain ⟨m6,r6,o6,c6⟩:=sD (nb:=nb) (t:=82) rfl rfl rfl rfl ih W n _ _ (by omega) g6 (fun n hn=>hw2 n (.inr (.inr (.inr (.inr (.inr (.inr (.inl hn)))))))) (by omega)
 have hl2:cs.length=7:=hl.trans (bp (t:=84) rfl).1
 refine ⟨(⟨m0,m1,m2,m3,m4,m5,m6⟩:Zd),?_,(cJ (off:=0) o0 (cJ (off:=1) o1 (cJ (off:=2) o2 (cJ (off:=3) o3 (cJ (off:=4) o4 (cJ (off:=5) o5 (cJ (off:=6) o6 (pg hl2)))))))),trivial⟩
 rw [Zd.enc_eq];exact (cI (off:=0) r0 (cI (off:=1) r1 (cI (off:=2) r2 (cI (off:=3) r3 (cI (off:=4) r4 (cI (off:=5) r5 (cI (off:=6) r6 (pb hl2))))))))
theorem op84 {H:Type} {eh:TypeId×Value→H} {nb:Nat}:Opens eh nb 84 Zd.enc (bd84 nb):=fun W fuel cs x hx hw hbk=>opN84 (fuel+1) W fuel cs x (Nat.lt_succ_self _) hx hw hbk
def bd87:Nat→Zh→Prop:=fun n m=>bd9 n m.Prefix∧bd84 n m.Rule∧True
theorem op87 {H:Type} {eh:TypeId×Value→H} {nb:Nat}:Opens eh nb 87 Zh.enc (bd87 nb):=fun W fuel cs x hx hw hbk=>by
 obtain ⟨xs,n,rfl,rfl,hl,hlen,hf⟩:=DataW.trod_struct (bq (t:=87) rfl) hx
 obtain ⟨x0,x1,rfl⟩:∃ x0 x1,xs=[x0,x1]:=by
  match xs,hlen with
  | [a0,a1],_=>exact ⟨a0,a1,rfl⟩
 have hw2:∀ n∈DataW.weightsEach Tryz.prog [9,84] [x0.1,x1.1],n≤reachBytes:=fun n hn=>hw n (by simp only [DataW.weights,bq (t:=87) rfl];exact hn)
 simp only [DataW.weightsEach,List.mem_append] at hw2
 simp only [Rows.uptoBulk,List.map_cons,List.map_nil,Rows.uptoBulkAll] at hbk
 have g0:DataW.trod eh Tryz.prog W 0 (fun _=>true) true n 9 ((cs.drop 0).take (Tryz.prog.cellsOf 9))=some x0:=hf 0 _ rfl
 rw [(bp (t:=9) rfl).1] at g0
 obtain ⟨m0,r0,o0,c0⟩:=op9 (nb:=nb) W n _ _ g0 (fun n hn=>hw2 n (.inl hn)) (by omega)
 have g1:DataW.trod eh Tryz.prog W 0 (fun _=>true) true n 84 ((cs.drop 1).take (Tryz.prog.cellsOf 84))=some x1:=hf 1 _ rfl
 rw [(bp (t:=84) rfl).1] at g1
 obtain ⟨m1,r1,o1,c1⟩:=op84 (nb:=nb) W n _ _ g1 (fun n hn=>hw2 n (.inr (.inl hn))) (by omega)
 rw [Zd.enc_eq] at r1
 have hl2:cs.length=8:=hl.trans (bp (t:=87) rfl).1
 exact ⟨(⟨m0,m1⟩:Zh),(cI (off:=0) r0 (cI (off:=1) r1 (pb hl2))),(cJ (off:=0) o0 (cJ (off:=1) o1 (pg hl2))),⟨c0,c1,trivial⟩⟩
def bd79:Nat→(List Zh)→Prop:=fun n l=>l.length*112≤140737488355328∧l.length≤n∧∀ x∈l,bd87 n x
theorem op79 {H:Type} {eh:TypeId×Value→H} {nb:Nat}:Opens eh nb 79 (eL Zh.enc) (bd79 nb):=hX rfl rfl rfl rfl op87
def bd81:Nat→Zb→Prop:=fun n m=>GU n m.ID∧GU n m.Kind∧bd33 n m.Parties∧bd79 n m.Rules∧True
theorem op81 {H:Type} {eh:TypeId×Value→H} {nb:Nat}:Opens eh nb 81 Zb.enc (bd81 nb):=fun W fuel cs x hx hw hbk=>by
 obtain ⟨xs,n,rfl,rfl,hl,hlen,hf⟩:=DataW.trod_struct (bq (t:=81) rfl) hx
 obtain ⟨x0,x1,x2,x3,rfl⟩:∃ x0 x1 x2 x3,xs=[x0,x1,x2,x3]:=by
  match xs,hlen with
  | [a0,a1,a2,a3],_=>exact ⟨a0,a1,a2,a3,rfl⟩
 have hw2:∀ n∈DataW.weightsEach Tryz.prog [3,3,33,79] [x0.1,x1.1,x2.1,x3.1],n≤reachBytes:=fun n hn=>hw n (by simp only [DataW.weights,bq (t:=81) rfl];exact hn)
 simp only [DataW.weightsEach,List.mem_append] at hw2
 simp only [Rows.uptoBulk,List.map_cons,List.map_nil,Rows.uptoBulkAll] at hbk
 have g0:DataW.trod eh Tryz.prog W 0 (fun _=>true) true n 3 ((cs.drop 0).take (Tryz.prog.cellsOf 3))=some x0:=hf 0 _ rfl
 rw [(bp (t:=3) rfl).1] at g0
 obtain ⟨m0,r0,o0,c0⟩:=Dj (nb:=nb) W n _ _ g0 (fun n hn=>hw2 n (.inl hn)) (by omega)
 have g1:DataW.trod eh Tryz.prog W 0 (fun _=>true) true n 3 ((cs.drop 1).take (Tryz.prog.cellsOf 3))=some x1:=hf 1 _ rfl
 rw [(bp (t:=3) rfl).1] at g1
 obtain ⟨m1,r1,o1,c1⟩:=Dj (nb:=nb) W n _ _ g1 (fun n hn=>hw2 n (.inr (.inl hn))) (by omega)
 have g2:DataW.trod eh Tryz.prog W 0 (fun _=>true) true n 33 ((cs.drop 2).take (Tryz.prog.cellsOf 33))=some x2:=hf 2 _ rfl
 rw [(bp (t:=33) rfl).1] at g2
 obtain ⟨m2,r2,o2,c2⟩:=op33 (nb:=nb) W n _ _ g2 (fun n hn=>hw2 n (.inr (.inr (.inl hn)))) (by omega)
 have g3:DataW.trod eh Tryz.prog W 0 (fun _=>true) true n 79 ((cs.drop 3).take (Tryz.prog.cellsOf 79))=some x3:=hf 3 _ rfl
 rw [(bp (t:=79) rfl).1] at g3
 obtain ⟨m3,r3,o3,c3⟩:=op79 (nb:=nb) W n _ _ g3 (fun n hn=>hw2 n (.inr (.inr (.inr (.inl hn))))) (by omega)
 have hl2:cs.length=4:=hl.trans (bp (t:=81) rfl).1
 exact ⟨(⟨m0,m1,m2,m3⟩:Zb),(cI (off:=0) r0 (cI (off:=1) r1 (cI (off:=2) r2 (cI (off:=3) r3 (pb hl2))))),(cJ (off:=0) o0 (cJ (off:=1) o1 (cJ (off:=2) o2 (cJ (off:=3) o3 (pg hl2))))),⟨c0,c1,c2,c3,trivial⟩⟩
def bd25:Nat→(List Zb)→Prop:=fun n l=>l.length*64≤140737488355328∧l.length≤n∧∀ x∈l,bd81 n x
theorem op25 {H:Type} {eh:TypeId×Value→H} {nb:Nat}:Opens eh nb 25 (eL Zb.enc) (bd25 nb):=hX rfl rfl rfl rfl op81
def bd28:Nat→Za→Prop:=fun n m=>GU n m.Product∧GU n m.Agreement∧True
theorem op28 {H:Type} {eh:TypeId×Value→H} {nb:Nat}:Opens eh nb 28 Za.enc (bd28 nb):=fun W fuel cs x hx hw hbk=>by
 obtain ⟨xs,n,rfl,rfl,hl,hlen,hf⟩:=DataW.trod_struct (bq (t:=28) rfl) hx
 obtain ⟨x0,x1,rfl⟩:∃ x0 x1,xs=[x0,x1]:=by
  match xs,hlen with
  | [a0,a1],_=>exact ⟨a0,a1,rfl⟩
 have hw2:∀ n∈DataW.weightsEach Tryz.prog [3,3] [x0.1,x1.1],n≤reachBytes:=fun n hn=>hw n (by simp only [DataW.weights,bq (t:=28) rfl];exact hn)
 simp only [DataW.weightsEach,List.mem_append] at hw2
 simp only [Rows.uptoBulk,List.map_cons,List.map_nil,Rows.uptoBulkAll] at hbk
 have g0:DataW.trod eh Tryz.prog W 0 (fun _=>true) true n 3 ((cs.drop 0).take (Tryz.prog.cellsOf 3))=some x0:=hf 0 _ rfl
 rw [(bp (t:=3) rfl).1] at g0
 obtain ⟨m0,r0,o0,c0⟩:=Dj (nb:=nb) W n _ _ g0 (fun n hn=>hw2 n (.inl hn)) (by omega)
 have g1:DataW.trod eh Tryz.prog W 0 (fun _=>true) true n 3 ((cs.drop 1).take (Tryz.prog.cellsOf 3))=some x1:=hf 1 _ rfl
 rw [(bp (t:=3) rfl).1] at g1
 obtain ⟨m1,r1,o1,c1⟩:=Dj (nb:=nb) W n _ _ g1 (fun n hn=>hw2 n (.inr (.inl hn))) (by omega)
 have hl2:cs.length=2:=hl.trans (bp (t:=28) rfl).1
 exact ⟨(⟨m0,m1⟩:Za),(cI (off:=0) r0 (cI (off:=1) r1 (pb hl2))),(cJ (off:=0) o0 (cJ (off:=1) o1 (pg hl2))),⟨c0,c1,trivial⟩⟩
def bd31:Nat→(List Za)→Prop:=fun n l=>l.length*16≤140737488355328∧l.length≤n∧∀ x∈l,bd28 n x
theorem op31 {H:Type} {eh:TypeId×Value→H} {nb:Nat}:Opens eh nb 31 (eL Za.enc) (bd31 nb):=hX rfl rfl rfl rfl op28
def bd61:Nat→Zf→Prop:=fun n m=>bd28 n m.Claim∧bd22 n m.Path∧bd31 n m.Premises∧True
theorem op61 {H:Type} {eh:TypeId×Value→H} {nb:Nat}:Opens eh nb 61 Zf.enc (bd61 nb):=fun W fuel cs x hx hw hbk=>by
 obtain ⟨xs,n,rfl,rfl,hl,hlen,hf⟩:=DataW.trod_struct (bq (t:=61) rfl) hx
 obtain ⟨x0,x1,x2,rfl⟩:∃ x0 x1 x2,xs=[x0,x1,x2]:=by
  match xs,hlen with
  | [a0,a1,a2],_=>exact ⟨a0,a1,a2,rfl⟩
 have hw2:∀ n∈DataW.weightsEach Tryz.prog [28,22,31] [x0.1,x1.1,x2.1],n≤reachBytes:=fun n hn=>hw n (by simp only [DataW.weights,bq (t:=61) rfl];exact hn)
 simp only [DataW.weightsEach,List.mem_append] at hw2
 simp only [Rows.uptoBulk,List.map_cons,List.map_nil,Rows.uptoBulkAll] at hbk
 have g0:DataW.trod eh Tryz.prog W 0 (fun _=>true) true n 28 ((cs.drop 0).take (Tryz.prog.cellsOf 28))=some x0:=hf 0 _ rfl
 rw [(bp (t:=28) rfl).1] at g0
 obtain ⟨m0,r0,o0,c0⟩:=op28 (nb:=nb) W n _ _ g0 (fun n hn=>hw2 n (.inl hn)) (by omega)
 have g1:DataW.trod eh Tryz.prog W 0 (fun _=>true) true n 22 ((cs.drop 2).take (Tryz.prog.cellsOf 22))=some x1:=hf 1 _ rfl
 rw [(bp (t:=22) rfl).1] at g1
 obtain ⟨m1,r1,o1,c1⟩:=op22 (nb:=nb) W n _ _ g1 (fun n hn=>hw2 n (.inr (.inl hn))) (by omega)
 have g2:DataW.trod eh Tryz.prog W 0 (fun _=>true) true n 31 ((cs.drop 3).take (Tryz.prog.cellsOf 31))=some x2:=hf 2 _ rfl
 rw [(bp (t:=31) rfl).1] at g2
 obtain ⟨m2,r2,o2,c2⟩:=op31 (nb:=nb) W n _ _ g2 (fun n hn=>hw2 n (.inr (.inr (.inl hn)))) (by omega)
 have hl2:cs.length=4:=hl.trans (bp (t:=61) rfl).1
 exact ⟨(⟨m0,m1,m2⟩:Zf),(cI (off:=0) r0 (cI (off:=2) r1 (cI (off:=3) r2 (pb hl2)))),(cJ (off:=0) o0 (cJ (off:=2) o1 (cJ (off:=3) o2 (pg hl2)))),⟨c0,c1,c2,trivial⟩⟩
def bd45:Nat→(List Zf)→Prop:=fun n l=>l.length*64≤140737488355328∧l.length≤n∧∀ x∈l,bd61 n x
theorem op45 {H:Type} {eh:TypeId×Value→H} {nb:Nat}:Opens eh nb 45 (eL Zf.enc) (bd45 nb):=hX rfl rfl rfl rfl op61
end SX
end Go.Proofs.YtgmbmepakpcpaaaGreatDoor
set_option maxRecDepth 100000
namespace Go.Proofs.YtgmbmepakpcpaaaGreatDoor
open Go Go.ChangeShapes Go.WideShapes Go.RowKit
open SX
theorem originCheckErrors_lifted (os:Os) (started:os.Started) (H:Type) (enc:TypeId×Value→H) :
    ReturnsInHanded {} Tryz.checked os 5 .any (fun w args=>(Rows.originCheckErrorsSpec.pre enc Tryz.prog Tryz.f5 [] false w args∧laidMetH Tryz.prog xN w)∧sizedMet enc Tryz.prog Tryz.f5 (OpenSpec.ofChange Rows.originCheckErrorsSpec) false w args)
      (Rows.originCheckErrorsSpec.post enc Tryz.prog Tryz.f5 false true false false):=by
  refine returnsInHanded_of_change_and (C:=Tryz.checked) (X:=fun w _=>laidMetH Tryz.prog xN w) (fun _ _ _ hh h=>h.of_heap hh) own_ok started (by kernel_rfl) Tryz.func5
    (ChangeSpec.witness_at (enc:=enc) (C:=Tryz.checked) (os:=os) (X:=fun w _=>laidMetH Tryz.prog xN w) false (laidWorld os) #[.slice none 0 0,.slice none 0 0,.string ByteArray.empty,.slice none 0 0,.slice none 0 0,.int .i64 0] 8 rfl (by kernel_rfl) (by kernel_rfl) (by kernel_rfl) (by kernel_rfl) (by kernel_rfl) (xc os _)) ?_
  intro W base args ds gs before hval0 hW _ hwt hL _
  have hval:∀ (j:Nat) t v,Tryz.f5.params[j]?=some t→args[j]?=some v→Value.okWide Tryz.prog W .any base t v:=hval0
  have hW2:=hW
  obtain ⟨p,q,hA0,hV0,rfl,_,_⟩:=hW
  have hA:DataW.TrodAll enc Tryz.prog W 0 (fun _=>true) true [23,25,9,45,22,3] args.toList ds p:=hA0
  obtain ⟨rfl,rfl⟩:gs=[]∧q=[]:=by
    cases gs with
    | nil=>exact ⟨rfl,hV0⟩
    | cons g r=>exact absurd hV0 (by intro h;cases h)
  generalize hargs:args.toList=vs at hA
  have hval2:∀ (j:Nat) t v,[23,25,9,45,22,3][j]?=some t→vs[j]?=some v→Value.okWide Tryz.prog W .any base t v:=fun j t v h1 h2=>hval j t v (by rw [Tryz.params5];simpa using h1) (by rw [← hargs] at h2;simpa using h2)
  obtain ⟨v0,vs0,d0,ds0,p0,q0,rfl,rfl,h0,hA⟩:=SX.trodAll_cons hA
  obtain ⟨v1,vs1,d1,ds1,p1,q1,rfl,rfl,h1,hA⟩:=SX.trodAll_cons hA
  obtain ⟨v2,vs2,d2,ds2,p2,q2,rfl,rfl,h2,hA⟩:=SX.trodAll_cons hA
  obtain ⟨v3,vs3,d3,ds3,p3,q3,rfl,rfl,h3,hA⟩:=SX.trodAll_cons hA
  obtain ⟨v4,vs4,d4,ds4,p4,q4,rfl,rfl,h4,hA⟩:=SX.trodAll_cons hA
  obtain ⟨v5,vs5,d5,ds5,p5,q5,rfl,rfl,h5,hA⟩:=SX.trodAll_cons hA
  obtain ⟨rfl,rfl⟩:=SX.trodAll_nil hA
  have hw:(DataW.weightsEach Tryz.prog [23,25,9,45,22,3] [d0,d1,d2,d3,d4,d5]).all (· ≤ reachBytes)=true:=hwt
  obtain ⟨l0,hw⟩:=SX.light_head hw
  obtain ⟨m0,s0,b0⟩:=qV rfl rfl op23 (fun _=>⟨_,rfl⟩) (hval2 0 23 v0 rfl rfl) h0 l0 (Nat.le_refl _)
  obtain ⟨l1,hw⟩:=SX.light_head hw
  obtain ⟨m1,s1,b1⟩:=qV rfl rfl op25 (fun _=>⟨_,rfl⟩) (hval2 1 25 v1 rfl rfl) h1 l1 (Nat.le_refl _)
  obtain ⟨l2,hw⟩:=SX.light_head hw
  obtain ⟨m2,s2,b2⟩:=qV rfl rfl op9 (fun _=>⟨_,rfl⟩) (hval2 2 9 v2 rfl rfl) h2 l2 (Nat.le_refl _)
  obtain ⟨l3,hw⟩:=SX.light_head hw
  obtain ⟨m3,s3,b3⟩:=qV rfl rfl op45 (fun _=>⟨_,rfl⟩) (hval2 3 45 v3 rfl rfl) h3 l3 (Nat.le_refl _)
  obtain ⟨l4,hw⟩:=SX.light_head hw
  obtain ⟨m4,s4,b4⟩:=qV rfl rfl op22 (fun _=>⟨_,rfl⟩) (hval2 4 22 v4 rfl rfl) h4 l4 (Nat.le_refl _)
  obtain ⟨l5,hw⟩:=SX.light_head hw
  obtain ⟨m5,s5,b5⟩:=qV rfl rfl Dj (fun _=>⟨_,rfl⟩) (hval2 5 3 v5 rfl rfl) h5 l5 (Nat.le_refl _)
  exact Gc (readB (by kernel_rfl)) rfl (bq rfl) rfl (by simp [Rows.originCheckErrorsSpec]) hW2 (Ay hL) (by rw [hargs];exact (s0.app (s1.app (s2.app (s3.app (s4.app s5)))))) (nl (pT m0 m1 m2 m3 m4 m5 s0 s1 s2 s3 s4 s5 (fun a ha=>(b1.2.2 a ha).2.2.2.1.1)))
theorem originCheckErrors_holds:Rows.OriginCheckErrorsSaid :=
 OpenClaim.holds_of_wide 5 Tryz.f5 rfl rfl rfl rfl rfl rfl rfl ⟨rfl,rfl,rfl,rfl,rfl⟩ rfl rfl rfl rfl rfl originCheckErrors_named Tryz.func5 originCheckErrors_closed
  (of_decide_eq_true (by kernel_rfl)) (by unfold Func.isWrapper;rw [if_neg (of_decide_eq_false (by kernel_rfl))];exact ⟨rfl,rfl⟩)
  (fun os started H enc _=>originCheckErrors_lifted os started H enc)
theorem originCheckErrors_card:Rows.OriginCheckErrorsCardSaid :=
 Claim7.holds_tied_plain_at .later [] [.data,.data,.pinned] true (true, "d6724934cde0ef4b5d01703053d4c3277341bc42a1cf7659bfec0d43871970fd") true
  originCheckErrors_holds (fun _ h=>by cases h) (by as_aux_lemma=>kernel_rfl) (fun _ h=>by cases h) originCheckErrors_row_tie rfl ⟨rfl,rfl⟩ fp_main rfl
  (fun f fn hf hfn=>by
   obtain rfl:f=5:=Option.some.inj ((show Tryz.prog.funcNamed "customs/customslaw16.OriginCheckErrors" = some 5 from originCheckErrors_named).symm.trans hf) |>.symm
   obtain rfl:fn=Tryz.f5:=(Option.some.inj (Tryz.func5.symm.trans hfn)).symm
   exact ⟨fp_looks,fun j t ht=>by
    rw [Tryz.params5] at ht
    exact Az (by as_aux_lemma=>kernel_rfl) ht⟩)
  originCheckErrors_goes
#print axioms originCheckErrors_card
end Go.Proofs.YtgmbmepakpcpaaaGreatDoor
