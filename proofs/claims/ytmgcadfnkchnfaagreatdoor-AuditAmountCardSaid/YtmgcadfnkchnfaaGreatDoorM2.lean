/- A part of the proof: texts of the walk and of the plain laws, merged. No condition. -/
import Derived.Test.YtmgcadfnkchnfaaGreatDoorM1
set_option linter.unusedVariables false
set_option linter.unusedSimpArgs false
set_option maxHeartbeats 4000000
set_option maxRecDepth 100000
namespace Go.Proofs.YtmgcadfnkchnfaaGreatDoor
namespace SX
open Go
section
variable {σ:PEnv} {ρ l:List PRes} {a:Option Addr} {m c T sz:Nat} {css:List (List PV)} {α:Type} {enc:α→List PV} {xs:List α}
theorem wC (t:Nat) (ht:σ t=.v (.slice a m c)) (hp:PPick ρ (.row a m c T sz (xs.map enc)) l):Cov σ ρ (eP σ t (.slc xs.length (xs.map enc))) (.frz a m c (xs.map enc)::l):=fun _ _ _ h=>iQ t ht hp h
theorem sf (T sz:Nat):Cov σ ρ σ (.row none 0 0 T sz []::ρ):=fun _ _ _ h=>fO T sz h
theorem f0 {n:Nat} {x:Code} {K:Exit→PPost} {b k:Nat} {cs:List PV} {ρ':List PRes} (hk:cs[k]?=some (.v (.slice none 0 0))) (hu:PUpd ρ (.b b T cs) (.b b T (cs.set k (.slc 0 []))) ρ') (h:PWC n x K σ ρ'):PWC n x K σ ρ:=fun β κ σ' r g hs hr=>by
 obtain ⟨r0,l1,l2,rfl,h3,h4⟩:=hr.upd hu
 cases h3 with
 | b ho hc =>
  obtain ⟨v,hv,hp⟩:=hc.get hk
  have e:=hp.val
  have hset:=hc.set (k:=k) (p:=.slc 0 []) (v:=v) (by rw [e];exact uX)
  have:∀ (l:List Value) (k:Nat) (v:Value),l[k]?=some v→l.set k v=l:=fun l k v h=>by
   apply List.ext_getElem?;intro i;rw [List.getElem?_set];split
   ·rename_i hik;subst hik;rw [h];have:=(List.getElem?_eq_some_iff.1 h).1;simp [this]
   rfl
  rw [this _ _ _ hv] at hset
  exact h β κ σ' _ g hs (h4 κ _ (.refl _) (.b ho hset))
end
section
variable {o:Oper} {σ:PEnv} {ρ l:List PRes} {a:Option Addr} {m c T sz:Nat} {css:List (List PV)} {K:PV→List PRes→Prop} {α:Type} {enc:α→List PV} {xs:List α}
theorem lD (h:POpL o σ ρ fun p ρ'=>∃ a m c T sz css l,p=.v (.slice a m c)∧PPick ρ' (.row a m c T sz css) l∧K (.slc m css) l):POpL o σ ρ K:=fun κ σ' ρ' g hs hr β hi Nx hn =>
 h κ σ' ρ' g hs hr β hi Nx fun v ρ1 κ1 h1 h2 ⟨p,ρp,k1,k2,a,m,c,T,sz,css,l,e,hp,hk⟩=>by
  subst e
  obtain ⟨r,l',j1,j2,j3⟩:=k2.pick hp
  cases j2 with
  | row hb ho hc =>
   obtain ⟨i1,i2,i3⟩:=uS (h1.perm j1)
   have hv:=k1.val
   subst hv
   have:=hn _ l' (Al κ1 a) i1 (h2.trans i2) ⟨.slc m css,l,.slc i3 hb ho (hc.mono i2),j3.mono i2,hk⟩
   rwa [xW] at this
end
section
variable {n:Nat} {ops:Array Oper} {o:Oper} {rest:List Oper} {K:PPost} {σ:PEnv} {ρ ρd ρs:List PRes} {d:Nat} {c:Bool} {l:List Operand} {ts:Array Nat} {pargs:List PV} {r pf:PV} {x:Operand} {lo:List (Nat×Oper)}
theorem og_pfv {κ:Kr} {σ':Env} {ρ':List Res} {KK:Value→Kr→Prop} (g:GOK κ) (hs:Sim κ σ σ') (ho:o.op=.call { callee:=.value x,args:=l.toArray,argTypes:=ts }) (hx:PEv σ c x pf) (ha:c=true→l.map (be σ)=pargs) (hc:c=true→PFV pf pargs r) (h:∀ v κ',Kle κ κ'→(c=true→Rp κ' r v)→KK v κ'):OpG c o σ' ρ' κ KK:=by
 refine ⟨fun hct=>?_,fun hcf=>h undef κ (.refl _) fun h=>by rw [hcf] at h;cases h⟩
 obtain ⟨f,first,cap,h1,h2⟩:=hc hct κ _ _ g (hs.pe hx hct) (by rw [← ha hct];exact iP hs l)
 exact tK ho h1 rfl h2 fun v κ' hk hv=>⟨rfl,h v κ' hk fun _=>hv⟩
theorem yc (hg:PGuardIs ops σ o c) (hd:o.dst=some d) (hlt:Nat.blt d n=true) (ho:o.op=.call { callee:=.value x,args:=l.toArray,argTypes:=ts }) (hx:PEv σ c x pf) (ha:c=true→l.map (be σ)=pargs) (hc:c=true→PFV pf pargs r) (h:PWD n ops K lo (eP σ d (pgv c r)) ρd ρs):PWD n ops K ((1,o)::lo) σ ρd ρs:=fun β κ σ' rd rs g hs h1 h2 =>
 wd_g (hg κ σ' hs) hd hlt fun κ1 hk=>og_pfv (g.mono hk) (hs.mono hk) ho hx ha hc fun v κ' hk' hv=>h β κ' _ rd rs ((g.mono hk).mono hk') (((hs.mono hk).mono hk').upd (wq hv)) ((h1.mono hk).mono hk') ((h2.mono hk).mono hk')
end
def flatK:List Field→Nat→List Nat→Bool
 | [],_,[]=>true
 | f::fs,k,q::ks=>(f.name != "_")&&Nat.beq f.offset k&&(match eK f.type,q with | some (.int _),0 | some .bool,1 | some .string,2=>true | _,_=>false)&&flatK fs (k+1) ks
 | _,_,_=>false
def wD:List Nat→List Value→List Value→Option Bool
 | [],[],[]=>some true
 | 0::ks,.int k a::xs,.int k' b::ys=>match wD ks xs ys with | some r=>cond (decide (k=k')) (some ((a == b)&&r)) none | none=>none
 | 1::ks,.bool a::xs,.bool b::ys=>match wD ks xs ys with | some r=>some ((a == b)&&r) | none=>none
 | 2::ks,.string a::xs,.string b::ys=>match wD ks xs ys with | some r=>some (decide (a=b)&&r) | none=>none
 | _,_,_=>none
theorem sg (d:Nat) (w:World):∀ (fs:List Field) (k:Nat) (ks:List Nat) (xs ys ax ay:List Value) (r:Bool),flatK fs k ks=true→ax.drop k=xs→ay.drop k=ys→wD ks xs ys=some r→(Op.eqFields (d+1) ax.toArray ay.toArray fs).run Tryz.prog w=.ok r w
 | [],k,ks,xs,ys,ax,ay,r,hf,_,_,he=>by
  cases ks with
  | nil =>
   cases xs <;> cases ys <;> simp only [wD,reduceCtorEq,dO] at he
   subst he;simp [Op.eqFields]
  | cons q ks=>cases hf
 | f::fs,k,ks,xs,ys,ax,ay,r,hf,h1,h2,he=>by
  cases ks with
  | nil=>cases hf
  | cons q ks =>
   simp only [flatK,Bool.and_eq_true,bne_iff_ne,ne_eq] at hf
   obtain ⟨⟨⟨hn,hoff⟩,hty⟩,hrest⟩:=hf
   have hoff:=Nat.eq_of_beq_eq_true hoff
   cases xs with
   | nil=>unfold wD at he;split at he <;> simp_all
   | cons x xs =>
    cases ys with
    | nil=>unfold wD at he;split at he <;> simp_all
    | cons y ys =>
     have g1:ax[k]?=some x:=by have:=congrArg (·[0]?) h1;simpa [List.getElem?_drop] using this
     have g2:ay[k]?=some y:=by have:=congrArg (·[0]?) h2;simpa [List.getElem?_drop] using this
     have d1:ax.drop (k+1)=xs:=by have:=congrArg (List.drop 1) h1;simpa [List.drop_drop] using this
     have d2:ay.drop (k+1)=ys:=by have:=congrArg (List.drop 1) h2;simpa [List.drop_drop] using this
     cases hd:eK f.type with
     | none=>rw [hd] at hty;cases hty
     | some D =>
      rw [hd] at hty
      have hag:ku D=false:=by
       cases D <;> first | rfl | (exfalso;split at hty <;> simp_all)
      have p1:(part f.type ax.toArray f.offset).run Tryz.prog w=.ok x w:=by simp [part,kb hd,hag,hoff,g1]
      have p2:(part f.type ay.toArray f.offset).run Tryz.prog w=.ok y w:=by simp [part,kb hd,hag,hoff,g2]
      have fin:∀ (q r':Bool),(Op.equalIn (d+1) f.type x y).run Tryz.prog w=.ok q w→wD ks xs ys=some r'→(q&&r')=r→(Op.eqFields (d+1) ax.toArray ay.toArray (f::fs)).run Tryz.prog w=.ok r w:=fun q r' hq1 hq2 hq3=>by
       have ih:=sg d w fs (k+1) ks xs ys ax ay r' hrest d1 d2 hq2
       simp only [Op.eqFields,if_pos hn,Sem.run_bind,p1,p2,Result.andThen_ok,hq1]
       cases q
       ·simp at hq3;subst hq3;simp
       simp at hq3;subst hq3;simp [ih]
      cases D with
      | int kk =>
       have hq0:q=0:=by rcases q with _ | _ | _ | q <;> first | rfl | (simp at hty)
       subst hq0
       cases x <;> cases y <;> simp only [wD,reduceCtorEq] at he
       rename_i k1 a1 k2 b1
       cases hq:wD ks xs ys with
       | none=>rw [hq] at he;cases he
       | some r' =>
        rw [hq] at he
        cases hk:decide (k1=k2) with
        | false=>simp only [hk,dn,reduceCtorEq] at he
        | true =>
         simp only [hk,cQ,dO] at he
         have hk:=of_decide_eq_true hk;subst hk
         exact fin (a1 == b1) r' (run_equalIn_int w d f.type k1 kk a1 b1 (bI hd)) hq he
      | bool =>
       have hq0:q=1:=by rcases q with _ | _ | _ | q <;> first | rfl | (simp at hty)
       subst hq0
       cases x <;> cases y <;> simp only [wD,reduceCtorEq] at he
       rename_i a1 b1
       cases hq:wD ks xs ys with
       | none=>rw [hq] at he;cases he
       | some r'=>rw [hq] at he;simp only [dO] at he;exact fin (a1 == b1) r' (run_equalIn_bool' w d f.type a1 b1 (bI hd)) hq he
      | string =>
       have hq0:q=2:=by rcases q with _ | _ | _ | q <;> first | rfl | (simp at hty)
       subst hq0
       cases x <;> cases y <;> simp only [wD,reduceCtorEq] at he
       rename_i a1 b1
       cases hq:wD ks xs ys with
       | none=>rw [hq] at he;cases he
       | some r'=>rw [hq] at he;simp only [dO] at he;exact fin (decide (a1=b1)) r' (by rw [run_equalIn_string w d f.type a1 b1 (bI hd),uE]) hq he
      | _=>exfalso;revert hty;simp
def B6:List PV→Option (List Value)
 | []=>some []
 | .v x::r=>match B6 r with | some l=>some (x::l) | none=>none
 | _=>none
theorem vd {κ:Kr}:∀ {cs:List PV} {xs ds:List Value},B6 cs=some xs→Rps κ cs ds→ds=xs
 | [],xs,ds,h,hr=>by simp only [B6,dO] at h;subst h;exact hr.nil_inv
 | c::cs,xs,ds,h,hr=>by
  obtain ⟨v,ws,rfl,h1,h2⟩:=hr.cons_inv
  cases c with
  | v x =>
   simp only [B6] at h
   cases hu:B6 cs with
   | none=>rw [hu] at h;cases h
   | some l=>rw [hu] at h;simp only [dO] at h;subst h;rw [h1.val,vd hu h2]
  | _=>cases h
theorem zj {o:Oper} {σ:PEnv} {ρ:List PRes} {c:Bool} {x y:Operand} {op:BinOp} {t t':Nat} {cs ds:List PV} {xs ys:List Value} {r r':Bool} (ks:List Nat) (ho:o.op=.binOp op t x y t') (h1:Tryz.prog.underlying t=some (.struct (Tryz.prog.fieldsOf t))) (h2:Tryz.prog.stoodInHeld t=false) (h3:Tryz.prog.eqGuardType Tryz.prog.depth t=false) (h4:flatK (Tryz.prog.fieldsOf t).toList 0 ks=true)
    (hx:PEv σ c x (.agg cs)) (hy:PEv σ c y (.agg ds)) (hxs:B6 cs=some xs) (hys:B6 ds=some ys) (he:wD ks xs ys=some r) (hr:(match op with | .eql=>some r | .neq=>some (!r) | _=>none)=some r'):POpQ c o σ ρ (.v (.bool r')):=fun κ σ' ρ' g hs hrr=>by
  cases c with
  | false=>exact Av
  | true =>
    refine ⟨.bool r',fun _=>.v rfl,fun _ w _=>?_⟩
    have e1:ev σ' x=.agg xs.toArray:=by
      have:=hs.pe hx rfl;generalize ev σ' x=w1 at this;cases this with
      | agg ho hc=>rw [vd hxs hc]
    have e2:ev σ' y=.agg ys.toArray:=by
      have:=hs.pe hy rfl;generalize ev σ' y=w1 at this;cases this with
      | agg ho hc=>rw [vd hys hc]
    have hrun:(Op.equalIn 10000 t (.agg xs.toArray) (.agg ys.toArray)).run Tryz.prog w=.ok r w:=by
      rw [run_equalIn_struct w 9999 t _ _ h1 h2]
      exact sg 9998 w _ 0 ks xs ys xs ys r h4 rfl rfl he
    simp only [execOp,ho,e1,e2,Sem.run_bind]
    rw [run_eqGuard_agg w op t x y _ _ h3]
    simp only [Result.andThen_ok]
    cases op <;> simp only [reduceCtorEq,dO] at hr
    · subst hr;rw [run_eql_struct,hrun];simp
    subst hr;rw [run_neq_struct,hrun];simp
theorem B7 {o:Oper} {σ:PEnv} {ρ:List PRes} {x:Operand} {s d e n cp T:Nat} {a:Option Addr} {xs:List Int} (ho:o.op=.convert s d x) (h1:eK s=some (.slice e)) (he:eK e=some (.int .u8)) (hd:eK d=some .string) (hx:be σ x=.v (.slice a n cp)) (hm:PRes.row a n cp T 1 (xs.map eB)∈ρ) (hn:n=xs.length) {K:PV→List PRes→Prop} (h:K (.v (.string (strOfNums xs))) ρ):POpL o σ ρ K:=fun κ σ' ρ' g hs hrr β hinv=>by
 obtain ⟨r,hr1,hr2⟩:=hrr.mem hm
 cases hr2 with
 | row hb ho1 hss =>
  rename_i dss
  have hrow:=wl hr1 β hinv
  have hown:=jD (hinv.own _ hr1)
  have hd2:dss=xs.map fun b=>[.int .u8 b]:=by
   clear hrow hown hr1 ho1 hm hx h
   subst hn
   clear hb
   induction xs generalizing dss with
   | nil=>rw [List.map_nil] at hss;rw [hss.nil_inv];rfl
   | cons z zs ih =>
    rw [List.map_cons] at hss
    obtain ⟨v,ws,rfl,k1,k2⟩:=hss.cons_inv
    obtain ⟨v1,w1,rfl,k3,k4⟩:=k1.cons_inv
    rw [ih k2,k3.val,k4.nil_inv];rfl
  subst hd2
  have hq:=BJ (c:=true) (ρ:=ρ') (κ:=κ) ho h1 he hd (.p (hs.v1 hx)) (fun _=>BL hr1 (fun h=>by obtain ⟨b,e⟩:=hrow.2 h;rw [e];simp) hrow.1.1 hown.2.2)
  refine ol_q hq ⟨_,ρ,.v ?_,hrr,h⟩ β hinv
  have:(strOfNums xs).size=xs.length:=by simp [strOfNums,ByteArray.size]
  simp only [pV,this];exact Nat.ble_eq_true_of_le (by omega)
def PWS (n:Nat) (ops:Array Oper) (K:PPost) (m:Nat) (L:Array Bool) (σ:PEnv) (ρd ρs:List PRes):Prop :=
 ∀ β κ σ' rd rs,GOK κ→Sim κ σ σ'→RRels κ ρd rd→RRels κ ρs rs→WS β n ops (lft K) m L σ' rd rs κ
def PStep (n:Nat) (ops:Array Oper) (K:PPost) (m:Nat) (L:Array Bool) (σ:PEnv) (ρd ρs:List PRes) (i:Nat):Prop :=
 ∀ β κ σ' rd rs,GOK κ→Sim κ σ σ'→RRels κ ρd rd→RRels κ ρs rs→Step β n ops (lft K) m L σ' rd rs κ i
section
variable {n m:Nat} {ops:Array Oper} {K:PPost} {L:Array Bool} {σ:PEnv} {ρ ρd ρs:List PRes} {o:Oper} {i d:Nat} {p:PV} {c:Bool}
theorem kh {K:Exit→PPost} {id:Nat} {l:List Oper} (ρs:List PRes) (hp:ρ.Perm (ρd++ρs)) (h:PWS n l.toArray (K .normal) l.length (Array.replicate l.length false) σ ρd ρs):PWC n (.region id l.toArray true) K σ ρ:=fun β κ σ' ρ' g hs hr=>by
 obtain ⟨rs',h1,h2⟩:=hr.perm hp
 obtain ⟨r1,r2,rfl,h3,h4⟩:=h2.split
 exact BN h1 fun κ1 hk=>h β κ1 σ' r1 r2 (g.mono hk) (hs.mono hk) (h3.mono hk) (h4.mono hk)
theorem cq (hr:(Region.ready .any ops L).isEmpty=true) (h:K σ (ρd++ρs)):PWS n ops K m L σ ρd ρs:=fun β κ σ' rd rs g hs h1 h2=>ws_done hr ⟨σ,ρd++ρs,hs,h1.app h2,h⟩
theorem bu (i:Nat) (hok:okQ ops L i=true) (ho:ops[i]?=some o) (hg:o.guard=none) (hd:o.dst=some d) (hlt:Nat.blt d n=true) (h:POpQ true o σ ρs p) (hw:PWS n ops K m (L.setIfInBounds i true) (eP σ d p) ρd ρs):PWS n ops K (m+1) L σ ρd ρs:=fun β κ σ' rd rs g hs h1 h2=>by
 obtain ⟨v,k1,k2⟩:=h κ σ' rs g hs h2
 exact ws_q i hok ho hg hd hlt k2 (hw β κ _ rd rs g (hs.upd (k1 rfl)) h1 h2)
theorem aN (i:Nat) (hr:(Region.ready .any ops L == [i])=true) (h:PStep n ops K m L σ ρd ρs i):PWS n ops K (m+1) L σ ρd ρs:=fun β κ σ' rd rs g hs h1 h2=>ws_one i hr (h β κ σ' rd rs g hs h1 h2)
theorem eM (i j:Nat) (hr:(Region.ready .any ops L == [i,j])=true) (h:PStep n ops K m L σ ρd ρs i) (h':PStep n ops K m L σ ρd ρs j):PWS n ops K (m+1) L σ ρd ρs:=fun β κ σ' rd rs g hs h1 h2=>ws_two i j hr (h β κ σ' rd rs g hs h1 h2) (h' β κ σ' rd rs g hs h1 h2)
theorem AA (i j k:Nat) (hr:(Region.ready .any ops L == [i,j,k])=true) (h:PStep n ops K m L σ ρd ρs i) (h':PStep n ops K m L σ ρd ρs j) (h'':PStep n ops K m L σ ρd ρs k):PWS n ops K (m+1) L σ ρd ρs:=fun β κ σ' rd rs g hs h1 h2=>BO i j k hr (h β κ σ' rd rs g hs h1 h2) (h' β κ σ' rd rs g hs h1 h2) (h'' β κ σ' rd rs g hs h1 h2)
theorem aT (ho:ops[i]?=some o) (hg:o.guard=none) (hd:o.dst=some d) (hlt:Nat.blt d n=true) (h:POpL o σ ρd fun p ρ'=>PWS n ops K m (L.setIfInBounds i true) (eP σ d p) ρ' ρs):PStep n ops K m L σ ρd ρs i:=fun β κ σ' rd rs g hs h1 h2 =>
 step_l ho hg hd hlt (((h κ σ' rd g hs h1).framed (ρf:=rs)).mono fun v ρ' κ' hk ⟨ρ1,e,pv,ρp,k1,k2,k3⟩=>⟨ρ1,e,k3 β κ' _ ρ1 rs (g.mono hk) ((hs.mono hk).upd k1) k2 (h2.mono hk)⟩)
theorem bq (ho:ops[i]?=some o) (hg:o.guard=none) (hd:o.dst=none) (h:POpL o σ ρd fun _ ρ'=>PWS n ops K m (L.setIfInBounds i true) σ ρ' ρs):PStep n ops K m L σ ρd ρs i:=fun β κ σ' rd rs g hs h1 h2 =>
 step_l0 ho hg hd (((h κ σ' rd g hs h1).framed (ρf:=rs)).mono fun v ρ' κ' hk ⟨ρ1,e,pv,ρp,k1,k2,k3⟩=>⟨ρ1,e,k3 β κ' _ ρ1 rs (g.mono hk) (hs.mono hk) k2 (h2.mono hk)⟩)
theorem eA {f:Nat} {l:List Operand} {ts:Array Nat} {pargs:List PV} {v:PV} (ho:ops[i]?=some o) (hg:o.guard=none) (hd:o.dst=some d) (hlt:Nat.blt d n=true) (hop:o.op=.call { callee:=.value (.func f),args:=l.toArray,argTypes:=ts }) (ha:l.map (be σ)=pargs) (hc:PF f pargs v) (h:PWS n ops K m (L.setIfInBounds i true) (eP σ d v) ρd ρs):PStep n ops K m L σ ρd ρs i :=
 aT ho hg hd hlt (pl_call hop ha hc h)
end
section
variable {n:Nat} {x:Code} {K:Exit→PPost} {σ:PEnv} {ρ:List PRes} {a:Option Addr} {m c T sz:Nat} {α:Type} {enc:α→List PV} {xs:List α}
theorem iw (hm:PRes.row a m c T sz (xs.map enc)∈ρ) (h:xs.length=m→(0<m→a=some ⟨u6 a,0,none⟩)→PWC n x K σ ρ):PWC n x K σ ρ:=fun β κ σ' ρ' g hs hr hi=>by
 obtain ⟨r,hr1,hr2⟩:=hr.mem hm
 cases hr2 with
 | row hb ho hc =>
  have h1:=hi.own _ hr1
  have e1:=(jD h1).2.1;have e2:=hc.len;rw [List.length_map] at e2
  exact h (by omega) (fun h0=>mT h1 h0) β κ σ' ρ' g hs hr hi
theorem ki {cc:Bool} {o:Oper} {y z0:Operand} {t by':Nat} {k:IntKind} {i:Int} {z:Value} {e:α} (hl:xs.length=m) (ha:0<m→a=some ⟨u6 a,0,none⟩) (ho:o.op=.indexAddr t y z0) (hu:eK t=some (.slice T)) (hi:fj T=some (z,sz,by')) (hx:PEv σ cc y (.v (.slice a m c))) (hy:PEv σ cc z0 (.v (.int k i))) (hm:cc=true→idx xs i=some e):POpQ cc o σ ρ (.v (.pointer (some ⟨u6 a,i.toNat * sz,none⟩))):=fun κ σ' ρ' g hs hrr=>by
 refine ⟨_,fun _=>.v rfl,fun hc w hst=>?_⟩
 obtain ⟨h0,hmm⟩:=iS (hm hc)
 have hlt:=(List.getElem?_eq_some_iff.1 hmm).1
 have h:=oH (c:=true) (ρ:=ρ') (κ:=κ) (j:=i.toNat) ho hu hi (fun _=>by rw [hs.ve hx hc,ha (by omega)]) (fun _=>hs.ve hy hc) (fun _=>by omega) (fun _=>by omega) rfl w hst
 rwa [Nat.zero_add] at h
end
theorem AB {t E:Nat} (hu:eK t=some (.slice E)) (a:Option Addr) (n c:Nat) (x y:Operand) (w:World):((eqGuard .eql t x y (.slice a n c) (.slice none 0 0)).run Tryz.prog w=.ok () w)∧(binOp .eql t (.slice a n c) (.slice none 0 0)).run Tryz.prog w=.ok (.bool a.isNone) w:=by
 constructor
 ·cases a <;> simp [eqGuard]
 simp only [binOp,Sem.run_bind,run_equal_slice_nil w t E a n c (bI hu),Result.andThen_ok,Sem.run_pure]
theorem p6 {n:Nat} {ops:Array Oper} {o:Oper} {rest:List Oper} {K:PPost} {σ:PEnv} {ρ:List PRes} {d t t' E mm:Nat} {x:Operand} {xs:List (List PV)} (hg:o.guard=none) (hd:o.dst=some d) (hlt:Nat.blt d n=true) (ho:o.op=.binOp .eql t x (.const (.slice none 0 0)) t') (hu:eK t=some (.slice E)) (hx:be σ x=.slc mm xs) (h:∀ b:Bool,(b=true→xs=[])→PWL n ops rest K (eP σ d (.v (.bool b))) ρ):PWL n ops (o::rest) K σ ρ:=fun β κ σ' ρ' g hs hr=>by
 have he:=hs.ev x
 rw [hx] at he
 generalize hw':ev σ' x=w at he
 cases he with
 | slc hsl hb h1 hss =>
  rename_i a c sz css
  have hq:OpQ true o σ' ρ' κ (.bool a.isNone):=fun _ w _=>by
   obtain ⟨g1,g2⟩:=AB hu a mm c x (.const (.slice none 0 0)) w
   have e2:ev σ' (.const (.slice none 0 0))=.slice none 0 0:=rfl
   simp only [execOp,ho,hw',e2,Sem.run_bind,g1,Result.andThen_ok,g2,Sem.run_pure]
  refine bx hg hd hlt hq (h a.isNone (fun hn=>?_) β κ _ ρ' g (hs.upd (.v rfl)) hr)
  cases a with
  | some ad=>cases hn
  | none =>
   have:mm=0:=by
    rcases Nat.eq_zero_or_pos mm with h | h
    ·exact h
    obtain ⟨b,off,e,_⟩:=hsl.at_ h;cases e
   subst this
   have e1:=hss.len;have e2:=hsl.len
   exact List.eq_nil_of_length_eq_zero (by omega)
theorem B8 {α:Type} (l:List α) (k:Nat) (v:α) (h:l[k]?=some v):l.set k v=l:=by
 apply List.ext_getElem?;intro i;rw [List.getElem?_set];split
 ·rename_i hik;subst hik;rw [h];have:=(List.getElem?_eq_some_iff.1 h).1;simp [this]
 rfl
section
variable {n:Nat} {x:Code} {K:Exit→PPost} {KL:PPost} {σ:PEnv} {ρ:List PRes} {ops:Array Oper} {lo:List Oper} {cs:List PV} {a:Option Addr} {m c:Nat} {css:List (List PV)} {α:Type} {enc:α→List PV} {xs:List α}
theorem agg_nil {κ:Kr} {w:Value} {k:Nat} (h:Rp κ (.agg cs) w) (hk:cs[k]?=some (.v (.slice none 0 0))):Rp κ (.agg (cs.set k (.slc 0 []))) w:=by
 cases h with
 | agg ho hc =>
  obtain ⟨v,hv,hp⟩:=hc.get hk
  have hset:=hc.set (k:=k) (p:=.slc 0 []) (v:=v) (by rw [hp.val];exact uX)
  rw [B8 _ _ _ hv] at hset
  exact .agg ho hset
theorem gG (t k:Nat) (ht:σ t=.agg cs) (hk:cs[k]?=some (.v (.slice none 0 0))) (h:PWL n ops lo KL (eP σ t (.agg (cs.set k (.slc 0 [])))) ρ):PWL n ops lo KL σ ρ:=fun β κ σ' ρ' g hs hr=>h β κ σ' ρ' g (mS hs (agg_nil (by have:=hs t;rwa [ht] at this) hk)) hr
end
def zpv:Value→PV
 | .slice none 0 0=>.slc 0 []
 | x=>cond (pV x) (.v x) .any
theorem zk {κ:Kr}:∀ (l:List Value),Rps κ (l.map zpv) l
 | []=>.nil
 | x::l=>.cons (by unfold zpv;split;exact uX;exact uU) (zk l)
theorem eu {o:Oper} {σ:PEnv} {ρ:List PRes} {c:Bool} {t sz by':Nat} {parts:List (Nat×Operand)} {fl:List (Nat×Nat)} {zs:List Value} {zp cs:List PV} (hc:c=true) (ho:o.op=.build t parts.toArray) (hz:fj t=some (.agg zs.toArray,sz,by')) (hf:oC t=some fl) (hall:(fl.all fun p=>(fj p.2).isSome)=true) (hzp:zs.map zpv=zp) (hz1:zs.all Value.oneCell'=true) (h:PFill σ fl zp parts cs):POpQ c o σ ρ (.agg cs):=fun κ σ' ρ' g hs hr=>by
 subst hc
 obtain ⟨cv,h1,h2,h3⟩:=h.real hs (zv:=zs) (by rw [← hzp];exact zk zs) (fun u hu=>List.all_eq_true.1 hz1 u hu)
 exact ⟨_,fun _=>.agg h3 h2,wi ho hz hf hall h1⟩
def ga (x y c:Int):Option (Int×Int):=if 0≤x∧0≤y∧0≤c∧c≤1 then some ((x+y+c) % 18446744073709551616,(x+y+c) / 18446744073709551616) else none
theorem wE {o:Oper} {σ:PEnv} {ρ:List PRes} {l:List Operand} {ts:Array Nat} {x y c:Int} {r:Int×Int} {K:PV→List PRes→Prop} (ho:o.op=.call { callee:=.value (.func 181),args:=l.toArray,argTypes:=ts }) (ha:l.map (be σ)=[.v (.int .u64 x),.v (.int .u64 y),.v (.int .u64 c)]) (hr:ga x y c=some r) (h:K (.tup [.v (.int .u64 r.1),.v (.int .u64 r.2)]) ρ):POpL o σ ρ K:=fun κ σ' ρ' g hs hrr=>by
 unfold ga at hr
 split at hr
 ·rename_i hh
  injection hr with hr;subst hr
  have hargs:=iP hs l
  rw [ha] at hargs
  obtain ⟨v1,w1,e1,h1,hargs⟩:=hargs.cons_inv
  obtain ⟨v2,w2,rfl,h2,hargs⟩:=hargs.cons_inv
  obtain ⟨v3,w3,rfl,h3,hargs⟩:=hargs.cons_inv
  rw [hargs.nil_inv,h1.val,h2.val,h3.val] at e1
  have hq:OpQ true o σ' ρ' κ (.tuple #[.int .u64 ((x+y+c) % 18446744073709551616),.int .u64 ((x+y+c) / 18446744073709551616)]):=fun _ w _=>by
   have hcall:=run_callFunc_extern (P:=Tryz.prog) Tryz.func181 (by kernel_rfl) (by kernel_rfl) (by kernel_rfl) (e:=add64Entry) (by kernel_rfl) #[.int .u64 x,.int .u64 y,.int .u64 c] w
   rw [run_add64 x y c hh.1 hh.2.1 hh.2.2.1 hh.2.2.2] at hcall
   simp only [Result.andThen_ok] at hcall
   unfold execOp
   simp only [ho,ev,resolve,Deferred.ofValue,Sem.run_bind,Sem.run_pure,Result.andThen_ok,invoke,List.map_toArray,e1]
   simp only [Array.append_empty,Array.empty_append,hcall]
  exact ol_q hq ⟨_,ρ,.tup (ws:=[_,_]) (.cons (.v rfl) (.cons (.v rfl) .nil)),hrr,h⟩
 cases hr
theorem fH {α:Type} {a:α} {l:List α}:a∈a::l:=List.Mem.head _
theorem tS {α:Type} {a b0:α} {l:List α}:a∈b0::a::l:=List.Mem.tail _ (List.Mem.head _)
theorem Dz {α:Type} {a b0 b1:α} {l:List α}:a∈b0::b1::a::l:=List.Mem.tail _ (List.Mem.tail _ (List.Mem.head _))
theorem zm3 {α:Type} {a b0 b1 b2:α} {l:List α}:a∈b0::b1::b2::a::l:=List.Mem.tail _ (List.Mem.tail _ (List.Mem.tail _ (List.Mem.head _)))
theorem zm4 {α:Type} {a b0 b1 b2 b3:α} {l:List α}:a∈b0::b1::b2::b3::a::l:=List.Mem.tail _ (List.Mem.tail _ (List.Mem.tail _ (List.Mem.tail _ (List.Mem.head _))))
theorem zm5 {α:Type} {a b0 b1 b2 b3 b4:α} {l:List α}:a∈b0::b1::b2::b3::b4::a::l:=List.Mem.tail _ (List.Mem.tail _ (List.Mem.tail _ (List.Mem.tail _ (List.Mem.tail _ (List.Mem.head _)))))
theorem zm6 {α:Type} {a b0 b1 b2 b3 b4 b5:α} {l:List α}:a∈b0::b1::b2::b3::b4::b5::a::l:=List.Mem.tail _ (List.Mem.tail _ (List.Mem.tail _ (List.Mem.tail _ (List.Mem.tail _ (List.Mem.tail _ (List.Mem.head _))))))
theorem zm7 {α:Type} {a b0 b1 b2 b3 b4 b5 b6:α} {l:List α}:a∈b0::b1::b2::b3::b4::b5::b6::a::l:=List.Mem.tail _ (List.Mem.tail _ (List.Mem.tail _ (List.Mem.tail _ (List.Mem.tail _ (List.Mem.tail _ (List.Mem.tail _ (List.Mem.head _)))))))
theorem zm8 {α:Type} {a b0 b1 b2 b3 b4 b5 b6 b7:α} {l:List α}:a∈b0::b1::b2::b3::b4::b5::b6::b7::a::l:=List.Mem.tail _ (List.Mem.tail _ (List.Mem.tail _ (List.Mem.tail _ (List.Mem.tail _ (List.Mem.tail _ (List.Mem.tail _ (List.Mem.tail _ (List.Mem.head _))))))))
theorem zm9 {α:Type} {a b0 b1 b2 b3 b4 b5 b6 b7 b8:α} {l:List α}:a∈b0::b1::b2::b3::b4::b5::b6::b7::b8::a::l:=List.Mem.tail _ (List.Mem.tail _ (List.Mem.tail _ (List.Mem.tail _ (List.Mem.tail _ (List.Mem.tail _ (List.Mem.tail _ (List.Mem.tail _ (List.Mem.tail _ (List.Mem.head _)))))))))
theorem zm10 {α:Type} {a b0 b1 b2 b3 b4 b5 b6 b7 b8 b9:α} {l:List α}:a∈b0::b1::b2::b3::b4::b5::b6::b7::b8::b9::a::l:=List.Mem.tail _ (List.Mem.tail _ (List.Mem.tail _ (List.Mem.tail _ (List.Mem.tail _ (List.Mem.tail _ (List.Mem.tail _ (List.Mem.tail _ (List.Mem.tail _ (List.Mem.tail _ (List.Mem.head _))))))))))
theorem zm11 {α:Type} {a b0 b1 b2 b3 b4 b5 b6 b7 b8 b9 b10:α} {l:List α}:a∈b0::b1::b2::b3::b4::b5::b6::b7::b8::b9::b10::a::l:=List.Mem.tail _ (List.Mem.tail _ (List.Mem.tail _ (List.Mem.tail _ (List.Mem.tail _ (List.Mem.tail _ (List.Mem.tail _ (List.Mem.tail _ (List.Mem.tail _ (List.Mem.tail _ (List.Mem.tail _ (List.Mem.head _)))))))))))
theorem zm12 {α:Type} {a b0 b1 b2 b3 b4 b5 b6 b7 b8 b9 b10 b11:α} {l:List α}:a∈b0::b1::b2::b3::b4::b5::b6::b7::b8::b9::b10::b11::a::l:=List.Mem.tail _ (List.Mem.tail _ (List.Mem.tail _ (List.Mem.tail _ (List.Mem.tail _ (List.Mem.tail _ (List.Mem.tail _ (List.Mem.tail _ (List.Mem.tail _ (List.Mem.tail _ (List.Mem.tail _ (List.Mem.tail _ (List.Mem.head _))))))))))))
theorem zm13 {α:Type} {a b0 b1 b2 b3 b4 b5 b6 b7 b8 b9 b10 b11 b12:α} {l:List α}:a∈b0::b1::b2::b3::b4::b5::b6::b7::b8::b9::b10::b11::b12::a::l:=List.Mem.tail _ (List.Mem.tail _ (List.Mem.tail _ (List.Mem.tail _ (List.Mem.tail _ (List.Mem.tail _ (List.Mem.tail _ (List.Mem.tail _ (List.Mem.tail _ (List.Mem.tail _ (List.Mem.tail _ (List.Mem.tail _ (List.Mem.tail _ (List.Mem.head _)))))))))))))
theorem zmv {n:Nat} {ops:Array Oper} {o:Oper} {rest:List Oper} {K:PPost} {σ:PEnv} {ρ:List PRes} {d:Nat} {x:Operand} {p:PV} (hg:o.guard=none) (hd:o.dst=some d) (hlt:Nat.blt d n=true) (ho:o.op=.move x) (hx:be σ x=p) (hw:PWL n ops rest K (eP σ d p) ρ):PWL n ops (o::rest) K σ ρ:=cd hg hd hlt (cm ho (.p hx)) hw
theorem zas {n:Nat} {ops:Array Oper} {o:Oper} {rest:List Oper} {K:PPost} {σ:PEnv} {ρ:List PRes} {d:Nat} {x:Operand} {p:PV} (hg:o.guard=none) (hd:o.dst=some d) (hlt:Nat.blt d n=true) (ho:o.op=.assign x) (hx:be σ x=p) (hw:PWL n ops rest K (eP σ d p) ρ):PWL n ops (o::rest) K σ ρ:=cd hg hd hlt (bc ho (.p hx)) hw
theorem zex {n:Nat} {ops:Array Oper} {o:Oper} {rest:List Oper} {K:PPost} {σ:PEnv} {ρ:List PRes} {d i:Nat} {vs:List PV} {x:Operand} {p:PV} (hg:o.guard=none) (hd:o.dst=some d) (hlt:Nat.blt d n=true) (ho:o.op=.extract x i) (hx:be σ x=.tup vs) (hr:vs[i]?=some p) (hw:PWL n ops rest K (eP σ d p) ρ):PWL n ops (o::rest) K σ ρ:=cd hg hd hlt (mj ho (.p hx) hr) hw
def rg (a:Nat):Nat→List Nat
  | 0=>[]
  | n+1=>a::rg (a+1) n
theorem lE {n:Nat} {x y:Code} {K:Exit→PPost} {σ:PEnv} {ρ:List PRes} {α:Type} {c:Operand} {p:Bool} {a b r:α} (hc:be σ c=.v (.bool p)) (h:cond p a b=r) (ht:p=true→a=r→PWC n x K σ ρ) (hf:p=false→b=r→PWC n y K σ ρ):PWC n (.cond c x y) K σ ρ:=oN hc (fun e=>ht e (cond_t e h)) (fun e=>hf e (cond_f e h))
theorem wF {σ:PEnv} {d0:Nat} {v0:PV} (h:σ d0=v0):PHolds σ [(d0,v0)]:=by cases h;exact fY rfl (tq)
theorem ed {x0 v0:PV} {l:List PV}:PSplice (x0::l) 0 [v0] (v0::l):=gE (Dy)
theorem dN {x0:PRes} {l:List PRes}:PSub [x0] (x0::l):=cR bd (cM)
theorem pH {σ:PEnv} {d0 d1:Nat} {v0 v1:PV} (h:(σ d0,σ d1)=(v0,v1)):PHolds σ [(d0,v0),(d1,v1)]:=by cases h;exact fY rfl (fY rfl (tq))
theorem xJ {x0 v0 x1 v1:PV} {l:List PV}:PSplice (x0::x1::l) 0 [v0,v1] (v0::v1::l):=gE (gE (Dy))
theorem zs2 {x0 x1:PRes} {l:List PRes}:PSub [x0,x1] (x0::x1::l):=cR bd (cR bd (cM))
theorem mD {σ:PEnv} {d0 d1 d2:Nat} {v0 v1 v2:PV} (h:(σ d0,σ d1,σ d2)=(v0,v1,v2)):PHolds σ [(d0,v0),(d1,v1),(d2,v2)]:=by cases h;exact fY rfl (fY rfl (fY rfl (tq)))
theorem B9 {x0 v0 x1 v1 x2 v2:PV} {l:List PV}:PSplice (x0::x1::x2::l) 0 [v0,v1,v2] (v0::v1::v2::l):=gE (gE (gE (Dy)))
theorem qH {x0 x1 x2:PRes} {l:List PRes}:PSub [x0,x1,x2] (x0::x1::x2::l):=cR bd (cR bd (cR bd (cM)))
theorem mN {σ:PEnv} {d0 d1 d2 d3:Nat} {v0 v1 v2 v3:PV} (h:(σ d0,σ d1,σ d2,σ d3)=(v0,v1,v2,v3)):PHolds σ [(d0,v0),(d1,v1),(d2,v2),(d3,v3)]:=by cases h;exact fY rfl (fY rfl (fY rfl (fY rfl (tq))))
theorem yd {x0 v0 x1 v1 x2 v2 x3 v3:PV} {l:List PV}:PSplice (x0::x1::x2::x3::l) 0 [v0,v1,v2,v3] (v0::v1::v2::v3::l):=gE (gE (gE (gE (Dy))))
theorem zs4 {x0 x1 x2 x3:PRes} {l:List PRes}:PSub [x0,x1,x2,x3] (x0::x1::x2::x3::l):=cR bd (cR bd (cR bd (cR bd (cM))))
theorem si {σ:PEnv} {d0 d1 d2 d3 d4:Nat} {v0 v1 v2 v3 v4:PV} (h:(σ d0,σ d1,σ d2,σ d3,σ d4)=(v0,v1,v2,v3,v4)):PHolds σ [(d0,v0),(d1,v1),(d2,v2),(d3,v3),(d4,v4)]:=by cases h;exact fY rfl (fY rfl (fY rfl (fY rfl (fY rfl (tq)))))
theorem zl5 {x0 v0 x1 v1 x2 v2 x3 v3 x4 v4:PV} {l:List PV}:PSplice (x0::x1::x2::x3::x4::l) 0 [v0,v1,v2,v3,v4] (v0::v1::v2::v3::v4::l):=gE (gE (gE (gE (gE (Dy)))))
theorem AC {σ:PEnv} {d0 d1 d2 d3 d4 d5:Nat} {v0 v1 v2 v3 v4 v5:PV} (h:(σ d0,σ d1,σ d2,σ d3,σ d4,σ d5)=(v0,v1,v2,v3,v4,v5)):PHolds σ [(d0,v0),(d1,v1),(d2,v2),(d3,v3),(d4,v4),(d5,v5)]:=by cases h;exact fY rfl (fY rfl (fY rfl (fY rfl (fY rfl (fY rfl (tq))))))
theorem Bj {σ:PEnv} {d0 d1 d2 d3 d4 d5 d6:Nat} {v0 v1 v2 v3 v4 v5 v6:PV} (h:(σ d0,σ d1,σ d2,σ d3,σ d4,σ d5,σ d6)=(v0,v1,v2,v3,v4,v5,v6)):PHolds σ [(d0,v0),(d1,v1),(d2,v2),(d3,v3),(d4,v4),(d5,v5),(d6,v6)]:=by cases h;exact fY rfl (fY rfl (fY rfl (fY rfl (fY rfl (fY rfl (fY rfl (tq)))))))
theorem zl7 {x0 v0 x1 v1 x2 v2 x3 v3 x4 v4 x5 v5 x6 v6:PV} {l:List PV}:PSplice (x0::x1::x2::x3::x4::x5::x6::l) 0 [v0,v1,v2,v3,v4,v5,v6] (v0::v1::v2::v3::v4::v5::v6::l):=gE (gE (gE (gE (gE (gE (gE (Dy)))))))
theorem zh8 {σ:PEnv} {d0 d1 d2 d3 d4 d5 d6 d7:Nat} {v0 v1 v2 v3 v4 v5 v6 v7:PV} (h:(σ d0,σ d1,σ d2,σ d3,σ d4,σ d5,σ d6,σ d7)=(v0,v1,v2,v3,v4,v5,v6,v7)):PHolds σ [(d0,v0),(d1,v1),(d2,v2),(d3,v3),(d4,v4),(d5,v5),(d6,v6),(d7,v7)]:=by cases h;exact fY rfl (fY rfl (fY rfl (fY rfl (fY rfl (fY rfl (fY rfl (fY rfl (tq))))))))
theorem zl8 {x0 v0 x1 v1 x2 v2 x3 v3 x4 v4 x5 v5 x6 v6 x7 v7:PV} {l:List PV}:PSplice (x0::x1::x2::x3::x4::x5::x6::x7::l) 0 [v0,v1,v2,v3,v4,v5,v6,v7] (v0::v1::v2::v3::v4::v5::v6::v7::l):=gE (gE (gE (gE (gE (gE (gE (gE (Dy))))))))
theorem wG {σ:PEnv} {d0 d1 d2 d3 d4 d5 d6 d7 d8:Nat} {v0 v1 v2 v3 v4 v5 v6 v7 v8:PV} (h:(σ d0,σ d1,σ d2,σ d3,σ d4,σ d5,σ d6,σ d7,σ d8)=(v0,v1,v2,v3,v4,v5,v6,v7,v8)):PHolds σ [(d0,v0),(d1,v1),(d2,v2),(d3,v3),(d4,v4),(d5,v5),(d6,v6),(d7,v7),(d8,v8)]:=by cases h;exact fY rfl (fY rfl (fY rfl (fY rfl (fY rfl (fY rfl (fY rfl (fY rfl (fY rfl (tq)))))))))
theorem zl9 {x0 v0 x1 v1 x2 v2 x3 v3 x4 v4 x5 v5 x6 v6 x7 v7 x8 v8:PV} {l:List PV}:PSplice (x0::x1::x2::x3::x4::x5::x6::x7::x8::l) 0 [v0,v1,v2,v3,v4,v5,v6,v7,v8] (v0::v1::v2::v3::v4::v5::v6::v7::v8::l):=gE (gE (gE (gE (gE (gE (gE (gE (gE (Dy)))))))))
theorem zq {t:Nat} {R:PV→List PRes→Prop} {σ:PEnv} {ρ:List PRes} {p:PV} (h:σ t=p) (hr:R p []):jS [.tmp t] R .ret σ ρ:=aG (fL (aI h)) cM hr
theorem osi {α:Type} {a b:α} (h:some a=some b):a=b:=Option.some.inj h

def wH:TypeDesc→Bool
 | .interface _=>true
 | _=>false
section
variable {o:Oper} {σ:PEnv} {ρ:List PRes} {x:Operand} {t:Nat}
theorem ye {σ:Env} {ρ:List Res} {κ:Kr} {d:TypeDesc} (ho:o.op=.makeInterface t x) (hu:eK t=some d) (hn:wH d=false):OpQ true o σ ρ κ (.iface t (ev σ x)):=fun _ w _=>by
 have h:=run_underlying (w:=w) (bI hu)
 cases d <;> first | (cases hn;done) | simp [execOp,ho,Instr.makeInterface,h]
theorem yf {d:TypeDesc} (ho:o.op=.makeInterface t x) (hu:eK t=some d) (hn:wH d=false):POpQ true o σ ρ (.ifc t (be σ x)):=fun κ σ' ρ' g hs hr=>⟨_,fun _=>.ifc (hs.ev x),ye ho hu hn⟩
def ta (T:Nat) (p:PV):Option PV:=match p with
 | .ifc t q=>cond (Nat.beq t T) (some (.tup [q,.v (.bool true)])) (match fj T with
  | some (.agg ⟨zs⟩,_,_)=>cond (zs.all Value.oneCell') (some (.tup [.agg (zs.map fun x=>cond (pV x) (.v x) .any),.v (.bool false)])) none
  | _=>none)
 | _=>none
theorem oq_ta {σ:Env} {ρ:List Res} {κ:Kr} {xT T s:Nat} {v z:Value} {d:TypeDesc} {sz by':Nat} (ho:o.op=.typeAssert x xT T true) (hu:eK T=some d) (hn:wH d=false) (hz:fj T=some (z,sz,by')) (hx:ev σ x=.iface s v):OpQ true o σ ρ κ (if s=T then .tuple #[v,.bool true] else .tuple #[z,.bool false]):=fun _ w _=>by
 have h:=run_underlying (w:=w) (bI hu)
 have hzv:=gp hz w
 by_cases hst:s=T
 ·cases d <;> first | (cases hn;done) | simp [execOp,ho,hx,Instr.typeAssert,h,hst]
 cases d <;> first | (cases hn;done) | simp [execOp,ho,hx,Instr.typeAssert,h,hst,hzv]
theorem pq_ta {xT T:Nat} {d:TypeDesc} {p r:PV} (ho:o.op=.typeAssert x xT T true) (hu:eK T=some d) (hn:wH d=false) (hi:(fj T).isSome=true) (hx:be σ x=p) (hr:ta T p=some r):POpQ true o σ ρ r:=fun κ σ' ρ' g hs hrr=>by
 obtain ⟨⟨z,sz,by'⟩,hz⟩:=Option.isSome_iff_exists.1 hi
 have h:=hs.ev x
 rw [hx] at h
 generalize he:ev σ' x=w at h
 cases h with
 | ifc h =>
  rename_i s q v
  have hq:=oq_ta (ρ:=ρ') (κ:=κ) ho hu hn hz he
  simp only [ta] at hr
  cases hb:Nat.beq s T
  ·have hne:s≠T:=fun e=>by rw [e] at hb;simp at hb
   rw [hb,hz] at hr
   simp only [dn] at hr
   rw [if_neg hne] at hq
   split at hr
   ·rename_i zs s1 b1 heq
    simp only [dO,Prod.mk.injEq] at heq
    obtain ⟨rfl,rfl,rfl⟩:=heq
    cases ho1:zs.all Value.oneCell'
    ·rw [ho1] at hr;cases hr
    rw [ho1] at hr;simp only [cQ,dO] at hr;subst hr
    exact ⟨_,fun _=>.tup (ws:=[_,_]) (.cons (.agg (ds:=zs) (fun u hu=>List.all_eq_true.1 ho1 u hu) (jm zs)) (.cons (.v rfl) .nil)),hq⟩
   cases hr
  ·have hst:=Nat.eq_of_beq_eq_true hb
   rw [hb] at hr;simp only [cQ,dO] at hr;subst hr
   rw [if_pos hst] at hq
   exact ⟨_,fun _=>.tup (ws:=[_,_]) (.cons h (.cons (.v rfl) .nil)),hq⟩
 | _=>simp only [ta] at hr;cases hr
end
structure MethOk (t:Nat) (name:String) (f:Nat):Prop where
 h:∀ (v:Value) (w:World),(method (Tryz.prog.types.size+Made.depth) t v name).run Tryz.prog w=.ok (f,v) w
theorem yg {o:Oper} {σ:Env} {ρ:List Res} {κ:Kr} {K:Value→List Res→Kr→Prop} {f t:Nat} {x:Operand} {name:String} {l:List Operand} {ts:Array Nat} {v:Value} {R:Value→Kr→Prop} (ho:o.op=.call { callee:=.invoke x name,args:=l.toArray,argTypes:=ts })
    (hx:ev σ x=.iface t v) (hm:MethOk t name f) (hc:CallP f (v::l.map (ev σ)) κ R) (h:∀ v κ',Kle κ κ'→R v κ'→K v ρ κ'):OpL o σ ρ κ K:=fun β hi Nx hk=>by
  have hi2:=hi.perm (List.Perm.refl ([]++ρ))
  have e1:(#[Value.iface t v]++(l.map (ev σ)).toArray)[0]?=some (.iface t v):=by simp
  have e2:(#[Value.iface t v]++(l.map (ev σ)).toArray).extract 1 (#[Value.iface t v]++(l.map (ev σ)).toArray).size=(l.map (ev σ)).toArray:=by simp;exact List.take_of_length_le (by simp)
  have e3:#[v]++(l.map (ev σ)).toArray=(v::l.map (ev σ)).toArray:=by simp
  have hp:(program).run Tryz.prog κ.w=.ok Tryz.prog κ.w:=rfl
  unfold execOp
  simp only [ho,resolve,Sem.run_bind,Sem.run_pure,Result.andThen_ok,invoke,List.map_toArray,hx,e1,e2,callMethod,hp,hm.h,e3,iN hc.1,OutV]
  exact (hc.2 hi2.split).mono fun e w' ⟨v,ρ',κ',h1,h2,h3,h4⟩=>by
    subst h2
    obtain ⟨rfl,h4⟩:=h4
    exact ⟨v,h1,hk v ρ κ' (hi2.join h3) h3.le.kle (h v κ' h3.le.kle h4)⟩
def PFI (p:PV) (name:String) (pargs:List PV) (r:PV):Prop:=∃ t q f,p=.ifc t q∧MethOk t name f∧PF f (q::pargs) r
abbrev pI (x:Int):PV:=.v (.int .i64 x)
abbrev pU (x:Int):PV:=.v (.int .u64 x)
abbrev pY (x:Int):PV:=.v (.int .u8 x)
abbrev pB (b:Bool):PV:=.v (.bool b)
abbrev pS (s:ByteArray):PV:=.v (.string s)
abbrev pP (b off:Nat):PV:=.v (.pointer (some ⟨b,off,none⟩))
abbrev pO (a:Option Addr) (n c:Nat):PV:=.v (.slice a n c)
abbrev pN:PV:=.v (.slice none 0 0)
abbrev pL {α:Type} (e:α→List PV) (xs:List α):PV:=.slc xs.length (List.map e xs)
def vP:IntKind→Nat
 | .i8=>0 | .i16=>1 | .i32=>2 | .i64=>3 | .u8=>4 | .u16=>5 | .u32=>6 | .u64=>7
theorem rm {a b:IntKind} (h:Nat.beq (vP a) (vP b)=true):a=b:=by cases a <;> cases b <;> first | rfl | cases h
def Ca:Int→Bool
 | .ofNat (_+1)=>true
 | _=>false
def ge0l:Int→Bool
 | .ofNat _=>true
 | _=>false
theorem zl {b:Int} (h:Ca b=true):b≠0:=by rintro rfl;cases h
theorem ge0l_ge {b:Int} (h:ge0l b=true):0≤b:=by cases b with | ofNat n=>exact Int.natCast_nonneg n | negSucc n=>cases h
def qcmp (op:BinOp) (a b:Int):Option Bool:=match op with | .eql=>some (a == b) | .neq=>some (a != b) | .lss=>some (decide (a<b)) | .leq=>some (decide (a≤b)) | .gtr=>some (decide (b<a)) | .geq=>some (decide (b≤a)) | _=>none
def qari (op:BinOp) (a b:Int):Option Int:=match op with | .add=>some (a+b) | .sub=>some (a - b) | .mul=>some (a*b) | _=>none
def qbit (op:BinOp) (k:IntKind) (a b:Int):Option Int:=match op with | .and=>some (ec k a b) | .or=>some (qG k a b) | .xor=>some (tu k a b) | _=>none
def qshf (op:BinOp) (k:IntKind) (a b:Int):Option Int:=match op with | .shl=>some (eR k a b) | .shr=>some (cw k a b) | _=>none
def qeqb (op:BinOp) (p q:Bool):Option Bool:=match op with | .eql=>some (p == q) | .neq=>some (p != q) | _=>none
def qstr (op:BinOp) (s u:ByteArray):Option Bool:=match op with | .eql=>some (decide (s=u)) | .neq=>some (!decide (s=u)) | .lss=>some (Op.bytesLess s.toList u.toList) | .leq=>some (Op.bytesLess s.toList u.toList||decide (s=u)) | .gtr=>some (!(Op.bytesLess s.toList u.toList||decide (s=u))) | .geq=>some (!Op.bytesLess s.toList u.toList) | _=>none
def qint (op:BinOp) (k k':IntKind) (a b:Int):Option PV :=
 match qshf op k a b with
 | some r=>cond (ge0l b) (some (.v (.int k r))) none
 | none=>cond (Nat.beq (vP k) (vP k'))
  (match qcmp op a b with
   | some r=>some (.v (.bool r))
   | none=>match qari op a b with
    | some r=>some (.v (.int k (k.wrap r)))
    | none=>match qbit op k a b with
     | some r=>some (.v (.int k r))
     | none=>match op with
      | .quo=>cond (Ca b) (some (.v (.int k (k.wrap (a.tdiv b))))) none
      | .rem=>cond (Ca b) (some (.v (.int k (a.tmod b)))) none
      | _=>none) none
def qbin (op:BinOp) (t:Nat) (p q:PV):Option PV:=match p,q with
 | .v (.int k a),.v (.int k' b)=>qint op k k' a b
 | .v (.bool p),.v (.bool q)=>(match eK t with | some .bool=>(qeqb op p q).map fun r=>.v (.bool r) | _=>none)
 | .v (.string s),.v (.string u)=>(qstr op s u).map fun r=>.v (.bool r)
 | _,_=>none
def qlen (t:Nat) (p:PV):Option PV:=match eK t,p with
 | some (.slice _),.slc m _=>some (.v (.int .i64 (m:Int)))
 | some (.slice _),.v (.slice _ m _)=>some (.v (.int .i64 (m:Int)))
 | some .string,.v (.string s)=>some (.v (.int .i64 (s.size:Int)))
 | _,_=>none
def qmm (mx:Bool) (p q:PV):Option PV:=match p,q with
 | .v (.int k a),.v (.int k' b)=>cond (Nat.beq (vP k) (vP k')) (some (.v (.int k (cond mx (dt a b) (eT a b))))) none
 | _,_=>none
def wI (σ:PEnv) (fl:List (Nat×Nat)):List PV→List (Nat×Operand)→Option (List PV)
 | zs,[]=>some zs
 | zs,(i,x)::r=>match fl[i]? with
  | some (k,ty)=>match fj ty,ik (be σ x) with
   | some (_,sz,_),some vs=>cond (Nat.beq vs.length sz&&Nat.ble (k+vs.length) zs.length) (wI σ fl (zs.take k++vs++zs.drop (k+vs.length)) r) none
   | _,_=>none
  | none=>none
theorem wJ {σ:PEnv} {fl:List (Nat×Nat)}:∀ {parts:List (Nat×Operand)} {zs cs:List PV},wI σ fl zs parts=some cs→PFill σ fl zs parts cs
 | [],zs,cs,h=>by simp only [wI,dO] at h;exact h
 | (i,x)::r,zs,cs,h=>by
  simp only [wI] at h
  split at h
  ·rename_i k ty h1
   split at h
   ·rename_i z sz by' vs h2 h3
    cases hb:(Nat.beq vs.length sz&&Nat.ble (k+vs.length) zs.length)
    ·rw [hb] at h;cases h
    rw [hb] at h
    simp only [Bool.and_eq_true] at hb
    exact nw h1 h2 h3 hb.1 ⟨rfl,Nat.le_of_ble_eq_true hb.2⟩ (wJ h)
   cases h
  cases h
def qfa (s f:Nat) (p:PV):Option PV:=match oC s with
 | some l=>match l[f]? with
  | some (kk,ty)=>match fj ty with
   | some (_,sz,_)=>cond (Nat.blt 0 sz) (match p with
    | .v (.pointer (some ⟨b,off,none⟩))=>some (.v (.pointer (some ⟨b,off+kk,none⟩)))
    | .ref cs off=>some (.ref cs (off+kk))
    | _=>none) none
   | none=>none
  | none=>none
 | none=>none
def qfd (t f:Nat) (p:PV):Option PV:=match oC t with
 | some l=>match l[f]? with
  | some (kk,ty)=>match p with
   | .agg cs=>cond (Nat.ble kk cs.length) (iO ty (cs.drop kk)) none
   | _=>none
  | none=>none
 | none=>none
def qx (σ:PEnv) (ρ:List PRes) (at_:Nat):Op→Option (PV×Option (Nat×Nat))
 | .move x=>some (be σ x,none)
 | .assign x=>some (be σ x,none)
 | .binOp op t x y _=>(qbin op t (be σ x) (be σ y)).map fun p=>(p,none)
 | .unOp .not _ x=>(match be σ x with | .v (.bool p)=>some (.v (.bool !p),none) | _=>none)
 | .unOp .neg _ x=>(match be σ x with | .v (.int k a)=>some (.v (.int k (k.wrap (0 - a))),none) | _=>none)
 | .convert s d x=>(match eK s,eK d,be σ x with | some _,some (.int k'),.v (.int _ a)=>some (.v (.int k' (k'.wrap a)),none) | _,_,_=>none)
 | .nilCheck x=>(match be σ x with | .v (.pointer (some ad))=>some (.v (.pointer (some ad)),none) | .ref cs k=>some (.ref cs k,none) | .ifc t p=>some (.ifc t p,none) | _=>none)
 | .fieldAddr s x f=>(qfa s f (be σ x)).map fun p=>(p,none)
 | .field t x f=>(qfd t f (be σ x)).map fun p=>(p,none)
 | .extract x i=>(match be σ x with | .tup vs=>(vs[i]?).map fun p=>(p,none) | _=>none)
 | .load t x=>(match be σ x with
  | .ref cs off=>(iO t (cs.drop off)).map fun p=>(p,none)
  | .v (.pointer (some ⟨b,off,none⟩))=>(match ρ[at_]? with | some (.b b' _ cs)=>(iO t (cs.drop off)).map fun p=>(p,some (b,b')) | _=>none)
  | _=>none)
 | .call ⟨.builtin .len,⟨[x]⟩,⟨[t]⟩⟩=>(qlen t (be σ x)).map fun p=>(p,none)
 | .call ⟨.builtin .min,⟨[x,y]⟩,_⟩=>(qmm false (be σ x) (be σ y)).map fun p=>(p,none)
 | .call ⟨.builtin .max,⟨[x,y]⟩,_⟩=>(qmm true (be σ x) (be σ y)).map fun p=>(p,none)
 | .makeFunc (.func f) ⟨[]⟩ ⟨l⟩=>some (.fn f (l.map (be σ)),none)
 | .makeInterface t x=>(match eK t with | some d=>cond (wH d) none (some (.ifc t (be σ x),none)) | none=>none)
 | .build t ⟨parts⟩=>(match fj t,oC t with
  | some (.agg ⟨zs⟩,_,_),some fl=>cond ((fl.all fun p=>(fj p.2).isSome)&&zs.all Value.oneCell') ((wI σ fl (zs.map fun x=>cond (pV x) (.v x) .any) parts).map fun cs=>(.agg cs,none)) none
  | _,_=>none)
 | _=>none
section
variable {o:Oper} {σ:PEnv} {ρ:List PRes} {x y:Operand} {t t':Nat} {p:PV}
theorem map_none {a:Option PV} {p:PV} {e:Option (Nat×Nat)} (h:(a.map fun q=>(q,(none:Option (Nat×Nat))))=some (p,e)):a=some p:=by
 cases a with
 | none=>cases h
 | some q=>simp only [Option.map_some,dO,Prod.mk.injEq] at h;rw [h.1]
theorem qint_ok {op:BinOp} {k k':IntKind} {a b:Int} (ho:o.op=.binOp op t x y t') (hx:be σ x=.v (.int k a)) (hy:be σ y=.v (.int k' b)) (h:qint op k k' a b=some p):POpQ true o σ ρ p:=by
 unfold qint at h
 split at h
 ·rename_i r hr
  cases hb:ge0l b
  ·rw [hb] at h;cases h
  rw [hb] at h;simp only [cQ,dO] at h;subst h
  exact r8 ho (.p hx) (.p hy) (fun _=>ge0l_ge hb) (by cases op <;> exact hr)
 cases hk:Nat.beq (vP k) (vP k')
 ·rw [hk] at h;cases h
 rw [hk] at h;simp only [cQ] at h
 have:=rm hk;subst this
 split at h
 ·rename_i r hr;simp only [dO] at h;subst h;exact BX ho (.p hx) (.p hy) (by cases op <;> exact hr)
 split at h
 ·rename_i r hr;simp only [dO] at h;subst h;exact iR ho (.p hx) (.p hy) (by cases op <;> exact hr)
 split at h
 ·rename_i r hr;simp only [dO] at h;subst h;exact pq_bits ho (.p hx) (.p hy) (by cases op <;> exact hr)
 split at h
 ·cases hb:Ca b
  ·rw [hb] at h;cases h
  rw [hb] at h;simp only [cQ,dO] at h;subst h;exact BY ho (.p hx) (.p hy) fun _=>zl hb
 ·cases hb:Ca b
  ·rw [hb] at h;cases h
  rw [hb] at h;simp only [cQ,dO] at h;subst h;exact BZ ho (.p hx) (.p hy) fun _=>zl hb
 cases h
theorem qbin_ok {op:BinOp} (ho:o.op=.binOp op t x y t') (h:qbin op t (be σ x) (be σ y)=some p):POpQ true o σ ρ p:=by
 unfold qbin at h
 split at h
 ·rename_i h1 h2;exact qint_ok ho h1 h2 h
 ·rename_i h1 h2
  split at h
  ·rename_i hu
   obtain ⟨r,hr,rfl⟩:=Option.map_eq_some_iff.1 h
   exact pq_eqB ho hu (.p h1) (.p h2) (by cases op <;> exact hr)
  cases h
 ·rename_i h1 h2
  obtain ⟨r,hr,rfl⟩:=Option.map_eq_some_iff.1 h
  exact pq_str ho (.p h1) (.p h2) (by cases op <;> exact hr)
 cases h
theorem qlen_ok (ho:o.op=.call { callee:=.builtin .len,args:=#[x],argTypes:=#[t] }) (h:qlen t (be σ x)=some p):POpQ true o σ ρ p:=by
 unfold qlen at h
 split at h
 ·rename_i hu hx;simp only [dO] at h;subst h;exact pq_len ho hu (.p hx)
 ·rename_i hu hx;simp only [dO] at h;subst h;exact pq_lenO ho hu (.p hx)
 ·rename_i hu hx;simp only [dO] at h;subst h;exact pq_lenS ho hu (.p hx)
 cases h
theorem Cb {mx:Bool} {ts:List Nat} (ho:o.op=.call { callee:=.builtin (cond mx .max .min),args:=#[x,y],argTypes:=ts.toArray }) (h:qmm mx (be σ x) (be σ y)=some p):POpQ true o σ ρ p:=by
 unfold qmm at h
 split at h
 ·rename_i k a k' b h1 h2
  cases hk:Nat.beq (vP k) (vP k')
  ·rw [hk] at h;cases h
  have:=rm hk;subst this
  rw [hk] at h
  simp only [cQ,dO] at h;subst h
  cases mx
  ·exact ml ho (.p h1) (.p h2)
  exact pq_max ho (.p h1) (.p h2)
 cases h
theorem qfa_ok {s f:Nat} (ho:o.op=.fieldAddr s x f) (h:qfa s f (be σ x)=some p):POpQ true o σ ρ p:=by
 unfold qfa at h
 split at h
 ·rename_i l h1
  split at h
  ·rename_i kk ty h2
   split at h
   ·rename_i z sz by' h3
    cases h4:Nat.blt 0 sz
    ·rw [h4] at h;cases h
    rw [h4] at h;simp only [cQ] at h
    split at h
    ·rename_i hx;simp only [dO] at h;subst h;exact aR ho h1 h2 h3 h4 (.p hx)
    ·rename_i hx;simp only [dO] at h;subst h;exact tv ho h1 h2 h3 h4 (.p hx)
    cases h
   cases h
  cases h
 cases h
theorem qfd_ok {f:Nat} (ho:o.op=.field t x f) (h:qfd t f (be σ x)=some p):POpQ true o σ ρ p:=by
 unfold qfd at h
 split at h
 ·rename_i l h1
  split at h
  ·rename_i kk ty h2
   split at h
   ·rename_i cs hx
    cases h4:Nat.ble kk cs.length
    ·rw [h4] at h;cases h
    rw [h4] at h;exact B0 ho h1 h2 (.p hx) h4 h
   cases h
  cases h
 cases h
theorem vf {c:Bool} {tt:Nat} {pp:PV} (ho:o.op=.nilCheck x) (hx:PEv σ c x (.ifc tt pp)):POpQ c o σ ρ (.ifc tt pp):=fun κ σ' ρ' g hs _=>by
 refine ⟨ev σ' x,hs.pe hx,fun hc w _=>?_⟩
 have h:=hs.pe hx hc
 generalize he:ev σ' x=y at h
 cases h with
 | ifc h=>simp [execOp,ho,he]
theorem qx_ok {k:Nat} {e:Option (Nat×Nat)} (h:qx σ ρ k o.op=some (p,e)) (he:∀ b b',e=some (b,b')→b=b'):POpQ true o σ ρ p:=by
 generalize ho:o.op=op at h
 unfold qx at h
 split at h
 ·simp only [dO,Prod.mk.injEq] at h;obtain ⟨rfl,_⟩:=h;exact cm ho (.p rfl)
 ·simp only [dO,Prod.mk.injEq] at h;obtain ⟨rfl,_⟩:=h;exact bc ho (.p rfl)
 ·exact qbin_ok ho (map_none h)
 ·split at h
  ·rename_i hx;simp only [dO,Prod.mk.injEq] at h;obtain ⟨rfl,_⟩:=h;exact uY ho (.p hx)
  cases h
 ·split at h
  ·rename_i hx;simp only [dO,Prod.mk.injEq] at h;obtain ⟨rfl,_⟩:=h;exact pq_neg ho (.p hx)
  cases h
 ·split at h
  ·rename_i h1 h2 hx;simp only [dO,Prod.mk.injEq] at h;obtain ⟨rfl,_⟩:=h;exact pq_conv ho h1 h2 (.p hx)
  cases h
 ·split at h
  ·rename_i hx;simp only [dO,Prod.mk.injEq] at h;obtain ⟨rfl,_⟩:=h;exact wx ho (.p hx)
  ·rename_i hx;simp only [dO,Prod.mk.injEq] at h;obtain ⟨rfl,_⟩:=h;exact uZ ho (.p hx)
  ·rename_i hx;simp only [dO,Prod.mk.injEq] at h;obtain ⟨rfl,_⟩:=h;exact vf ho (.p hx)
  cases h
 ·exact qfa_ok ho (map_none h)
 ·exact qfd_ok ho (map_none h)
 ·split at h
  ·rename_i hx;exact mj ho (.p hx) (map_none h)
  cases h
 ·split at h
  ·rename_i hx;exact ep ho (.p hx) (map_none h)
  ·rename_i b off hx
   split at h
   ·rename_i b' T cs hr
    obtain ⟨q,hq,h2⟩:=Option.map_eq_some_iff.1 h
    simp only [Prod.mk.injEq] at h2
    obtain ⟨rfl,rfl⟩:=h2
    have:=he b b' rfl;subst this
    exact bX ho (.p hx) (List.mem_of_getElem? hr) hq
   cases h
  cases h
 ·exact qlen_ok ho (map_none h)
 ·exact Cb (mx:=false) (ts:=_) ho (map_none h)
 ·exact Cb (mx:=true) (ts:=_) ho (map_none h)
 ·simp only [dO,Prod.mk.injEq] at h;obtain ⟨rfl,_⟩:=h;exact mU ho
 ·split at h
  ·rename_i d hu
   cases hn:wH d
   ·rw [hn] at h;simp only [dn,dO,Prod.mk.injEq] at h;obtain ⟨rfl,_⟩:=h;exact yf ho hu hn
   rw [hn] at h;cases h
  cases h
 ·split at h
  ·rename_i zs sz by' fl h1 h2
   cases hc:((fl.all fun p=>(fj p.2).isSome)&&zs.all Value.oneCell')
   ·rw [hc] at h;cases h
   rw [hc] at h
   simp only [cQ] at h
   obtain ⟨q,hq,h3⟩:=Option.map_eq_some_iff.1 h
   simp only [Prod.mk.injEq] at h3
   obtain ⟨rfl,_⟩:=h3
   simp only [Bool.and_eq_true] at hc
   exact B1 rfl ho h1 h2 hc.1 rfl hc.2 (wJ hq)
  cases h
 cases h
end
structure GE where
 gs:List Bool
 p:PV
def gl (t:Nat):List (Nat×GE)→Option GE
 | []=>none
 | (d,e)::l=>cond (Nat.beq t d) (some e) (gl t l)
def Cc (t:Nat):List (Nat×GE)→List (Nat×GE)
 | []=>[]
 | (d,e)::l=>cond (Nat.beq t d) (Cc t l) ((d,e)::Cc t l)
def Cd (d:Nat):List Nat→Bool
 | []=>false
 | k::l=>cond (Nat.beq d k) true (Cd d l)
theorem rn {d:Nat}:∀ {l:List Nat},Cd d l=true↔d∈l
 | []=>by simp [Cd]
 | k::l=>by
  unfold Cd
  cases h:Nat.beq d k
  ·have:d≠k:=fun e=>by rw [e] at h;simp at h
   simp [rn (l:=l),this]
  simp [Nat.eq_of_beq_eq_true h]
def fx:List Operand→List Nat
 | []=>[]
 | .tmp t::l=>t::fx l
 | _::l=>fx l
def mH (σ:PEnv) (G:List (Nat×GE)) (ts:List Nat) (gs:List Bool):PEnv:=fun t=>match gl t G with
 | none=>σ t
 | some e=>cond (Cd t ts&&Nat.ble e.gs.length gs.length) e.p .any
def jW (G:List (Nat×GE)) (gs:List Bool):List Nat→List (Bool×Bool)
 | []=>[]
 | t::ts=>match gl t G with
  | none=>jW G gs ts
  | some e=>(e.gs.headD true,(gs.drop (gs.length - e.gs.length)).headD true)::jW G gs ts
def vg (ops:Array Oper) (σ:PEnv) (G:List (Nat×GE)):Option (Nat×Bool)→Option (List Bool)
 | none=>some []
 | some (j,pol)=>match (ops[j]?).bind (·.dst) with
  | none=>none
  | some d=>match gl d G with
   | none=>match σ d with | .v (.bool p)=>some [cond pol p (!p)] | _=>none
   | some e=>match e.p with | .v (.bool p)=>some ((e.gs.headD true&&cond pol p (!p))::e.gs) | _=>none
def StackOk (gs:List Bool):Prop:=gs.headD true=true→∀ b∈gs,b=true
def GInv (σ:PEnv) (G:List (Nat×GE)):Prop:=∀ t e,gl t G=some e→σ t=pgv (e.gs.headD true) e.p∧StackOk e.gs∧e.gs≠[]
def AllEq (l:List (Bool×Bool)):Prop:=l.map (·.1)=l.map (·.2)
theorem AllEq.nil:AllEq []:=rfl
theorem AllEq.cons {a b:Bool} {l:List (Bool×Bool)} (h:AllEq ((a,b)::l)):a=b∧AllEq l:=by
 unfold AllEq at h;simp only [List.map_cons,List.cons.injEq] at h;exact h
theorem AllEq.app {l m:List (Bool×Bool)} (h:AllEq (l++m)):AllEq l∧AllEq m:=by
 unfold AllEq at h;simp only [List.map_append] at h
 exact List.append_inj h (by simp)
theorem oR {G:List (Nat×GE)} {gs:List Bool} {t:Nat} {e:GE}:∀ {ts:List Nat},t∈ts→gl t G=some e→AllEq (jW G gs ts)→e.gs.headD true=(gs.drop (gs.length - e.gs.length)).headD true
 | u::ts,hm,hg,ha=>by
  simp only [jW] at ha
  rcases List.mem_cons.1 hm with rfl | hm
  ·rw [hg] at ha;exact ha.cons.1
  split at ha
  ·exact oR hm hg ha
  exact oR hm hg ha.cons.2
theorem sj {gs:List Bool} (h:StackOk gs) (hc:gs.headD true=true) (k:Nat):(gs.drop k).headD true=true:=by
 rw [List.headD_eq_head?_getD,List.head?_drop]
 cases e:gs[k]? with
 | none=>rfl
 | some b=>exact h hc b (List.mem_of_getElem? e)
theorem oS {κ:Kr} {σ:PEnv} {σ':Env} {G:List (Nat×GE)} {ts:List Nat} {gs:List Bool} (hs:Sim κ σ σ') (hi:GInv σ G) (ha:AllEq (jW G gs ts)) (hk:StackOk gs) (hc:gs.headD true=true):Sim κ (mH σ G ts gs) σ':=fun t=>by
 unfold mH
 cases hg:gl t G with
 | none=>exact hs t
 | some e =>
  simp only
  cases hb:(Cd t ts&&Nat.ble e.gs.length gs.length)
  ·exact .any
  simp only [Bool.and_eq_true,rn] at hb
  have h1:=oR hb.1 hg ha
  rw [sj hk hc] at h1
  have h2:=(hi t e hg).1
  rw [h1,hX] at h2
  have:=hs t
  rw [h2] at this
  exact this
theorem p7 {o:Oper} {σ:PEnv} {ρ:List PRes} {G:List (Nat×GE)} {ts:List Nat} {gs:List Bool} {p:PV} (h:gs.headD true=true→POpQ true o (mH σ G ts gs) ρ p) (hi:GInv σ G) (ha:AllEq (jW G gs ts)) (hk:StackOk gs):POpQ (gs.headD true) o σ ρ p:=fun κ σ' ρ' g hs hr=>by
 cases hc:gs.headD true with
 | false=>exact Av
 | true=>exact h hc κ σ' ρ' g (oS hs hi ha hk hc) hr
theorem AD {ops:Array Oper} {σ:PEnv} {G:List (Nat×GE)} {o:Oper} {gs:List Bool} (hi:GInv σ G) (h:vg ops σ G o.guard=some gs):PGuardIs ops σ o (gs.headD true)∧StackOk gs:=by
 cases hg:o.guard with
 | none =>
  rw [hg] at h;simp only [vg,dO] at h;subst h
  exact ⟨fun κ σ' _=>rI hg,fun _ b hb=>by cases hb⟩
 | some jp =>
  obtain ⟨j,pol⟩:=jp
  rw [hg] at h;simp only [vg] at h
  split at h
  ·cases h
  rename_i d hd
  split at h
  ·split at h
   ·rename_i p hp
    simp only [dO] at h;subst h
    refine ⟨?_,fun hc b hb=>by rw [List.mem_singleton.1 hb];exact hc⟩
    cases pol
    ·exact BS hg hd hp
    exact gD hg hd hp
   cases h
  rename_i e hgl
  split at h
  ·rename_i p hp
   simp only [dO] at h;subst h
   obtain ⟨h1,h2,h3⟩:=hi d e hgl
   rw [hp] at h1
   refine ⟨?_,fun hc b hb=>?_⟩
   ·cases pol
    ·exact As hg hd h1
    exact Ar hg hd h1
   simp only [List.headD_cons,Bool.and_eq_true] at hc
   rcases List.mem_cons.1 hb with rfl | hb
   ·simp only [hc,Bool.and_self]
   exact h2 hc.1 b hb
  cases h
def zm (σ:PEnv) (G:List (Nat×GE)) (want:Bool):Operand→Option (PV×List (Bool×Bool))
 | .tmp t=>match gl t G with
  | some e=>some (e.p,[(e.gs.headD true,want)])
  | none=>some (σ t,[])
 | x=>some (be σ x,[])
theorem wK {σ:PEnv} {G:List (Nat×GE)} {want:Bool} {x:Operand} {p:PV} {l:List (Bool×Bool)} (hi:GInv σ G) (h:zm σ G want x=some (p,l)) (ha:AllEq l):PEv σ want x p:=by
 unfold zm at h
 split at h
 ·rename_i t
  split at h
  ·rename_i e hg
   simp only [dO,Prod.mk.injEq] at h;obtain ⟨rfl,rfl⟩:=h
   have h1:=ha.cons.1
   have h2:=(hi t e hg).1
   rw [h1] at h2
   exact .g h2
  simp only [dO,Prod.mk.injEq] at h;obtain ⟨rfl,rfl⟩:=h;exact .p rfl
 simp only [dO,Prod.mk.injEq] at h;obtain ⟨rfl,rfl⟩:=h;exact .p rfl
def sk:PV→Option Bool
 | .v (.bool p)=>some p
 | _=>none
theorem p8 {p:PV} {b:Bool} (h:sk p=some b):p=.v (.bool b):=by
 unfold sk at h;split at h
 ·simp only [dO] at h;rw [h]
 cases h
def vh:Operand→Bool
 | .const (.bool true)=>true
 | _=>false
def rp:Operand→Bool
 | .const (.bool false)=>true
 | _=>false
theorem AE {x:Operand} {σ:PEnv} (h:vh x=true):be σ x=.v (.bool true):=by
 unfold vh at h;split at h
 ·rfl
 cases h
theorem yh {x:Operand} {σ:PEnv} (h:rp x=true):be σ x=.v (.bool false):=by
 unfold rp at h;split at h
 ·rfl
 cases h
def Ce (σ:PEnv) (G:List (Nat×GE)) (gs:List Bool) (cc a b:Operand):Option (PV×List (Bool×Bool)) :=
 match sk (be (mH σ G (fx [cc]) gs) cc) with
 | none=>none
 | some p=>cond (vh a)
  (match zm σ G (gs.headD true && !p) b with
   | some (q,l)=>match sk q with
    | some q=>some (.v (.bool (p||q)),jW G gs (fx [cc])++l)
    | none=>none
   | none=>none)
  (cond (rp b)
   (match zm σ G (gs.headD true&&p) a with
    | some (q,l)=>match sk q with
     | some q=>some (.v (.bool (p&&q)),jW G gs (fx [cc])++l)
     | none=>none
    | none=>none) none)
theorem zn {σ:PEnv} {G:List (Nat×GE)} {gs:List Bool} {x:Operand} {p:PV} (hi:GInv σ G) (hk:StackOk gs) (ha:AllEq (jW G gs (fx [x]))) (h:be (mH σ G (fx [x]) gs) x=p) (hn:p≠.any):PEv σ (gs.headD true) x p:=fun hc=>by
 cases x with
 | tmp t =>
  simp only [be,fx] at h ⊢
  unfold mH at h
  cases hg:gl t G with
  | none=>rw [hg] at h;exact h
  | some e =>
   rw [hg] at h
   simp only at h
   cases hb:(Cd t [t]&&Nat.ble e.gs.length gs.length)
   ·rw [hb] at h;exact absurd h.symm hn
   ·rw [hb] at h;simp only [cQ] at h
    have h1:=oR (t:=t) (ts:=[t]) (by simp) hg ha
    rw [sj hk hc] at h1
    have h2:=(hi t e hg).1
    rw [h1,hX] at h2
    rw [h2,h]
 | const x=>exact h
 | global g=>exact h
 | func f=>exact h
theorem Cf {o:Oper} {σ:PEnv} {ρ:List PRes} {G:List (Nat×GE)} {gs:List Bool} {cc a b:Operand} {p:PV} {l:List (Bool×Bool)} (ho:o.op=.pick cc a b) (hi:GInv σ G) (hk:StackOk gs) (h:Ce σ G gs cc a b=some (p,l)) (ha:AllEq l):POpQ (gs.headD true) o σ ρ p:=by
 unfold Ce at h
 split at h
 ·cases h
 rename_i c hc
 have hc:=p8 hc
 cases h1:vh a
 ·rw [h1] at h;simp only [dn] at h
  cases h2:rp b
  ·rw [h2] at h;cases h
  rw [h2] at h;simp only [cQ] at h
  split at h
  ·rename_i q m hl
   split at h
   ·rename_i q' hq
    simp only [dO,Prod.mk.injEq] at h;obtain ⟨rfl,rfl⟩:=h
    have hl':=wK hi hl ha.app.2
    rw [p8 hq] at hl'
    exact r7 ho (zn hi hk ha.app.1 hc (by simp)) (.p (yh h2)) hl'
   cases h
  cases h
 rw [h1] at h;simp only [cQ] at h
 split at h
 ·rename_i q m hl
  split at h
  ·rename_i q' hq
   simp only [dO,Prod.mk.injEq] at h;obtain ⟨rfl,rfl⟩:=h
   have hl':=wK hi hl ha.app.2
   rw [p8 hq] at hl'
   exact pq_or ho (zn hi hk ha.app.1 hc (by simp)) (.p (AE h1)) hl'
  cases h
 cases h
inductive Fct where
 | ix (c:Bool) (css:List (List PV)) (i:Int) (cs:List PV)
 | sx (c:Bool) (s:ByteArray) (i:Int) (u:UInt8)
 | nz (c:Bool) (b:Int)
 | ge (c:Bool) (b:Int)
 | sl (c:Bool) (css:List (List PV)) (lo hi:Int) (zss:List (List PV)) (m sz:Nat)
 | ss (c:Bool) (s:ByteArray) (lo hi:Int) (z:ByteArray)
 | ct (c:Bool) (s u z:ByteArray)
 | eq (t:Nat) (ks:List Nat)
 | cl (c:Bool) (f:Nat) (pargs:List PV) (r:PV)
 | cv (c:Bool) (pf:PV) (pargs:List PV) (r:PV)
 | ci (c:Bool) (p:PV) (name:String) (pargs:List PV) (r:PV)
 | ta (T:Nat) (p r:PV)
structure EqOk (t:Nat) (ks:List Nat):Prop where
 h1:Tryz.prog.underlying t=some (.struct (Tryz.prog.fieldsOf t))
 h2:Tryz.prog.stoodInHeld t=false
 h3:Tryz.prog.eqGuardType Tryz.prog.depth t=false
 h4:flatK (Tryz.prog.fieldsOf t).toList 0 ks=true
def Fct.ok:Fct→Prop
 | .ix c css i cs=>c=true→idx css i=some cs
 | .sx c s i u=>c=true→idx s.data.toList i=some u
 | .nz c b=>c=true→b≠0
 | .ge c b=>c=true→0≤b
 | .sl c css lo hi zss m sz=>(c=true→sub css lo hi=some zss)∧m=zss.length∧∀ cs∈css,cs.length=sz
 | .ss c s lo hi z=>c=true→mn s lo hi=some z
 | .ct c s u z=>c=true→Bi s u=some z
 | .eq t ks=>EqOk t ks
 | .cl c f pargs r=>c=true→PF f pargs r
 | .cv c pf pargs r=>c=true→PFV pf pargs r
 | .ci c p name pargs r=>c=true→PFI p name pargs r
 | .ta T p r=>SX.ta T p=some r
def FOk:List (Nat×Fct)→Prop
 | []=>True
 | f::l=>f.2.ok∧FOk l
theorem bZ:FOk []:=trivial
section
variable {F:List (Nat×Fct)} {c:Bool} {α:Type} {xs zs:List α} {i lo hi b:Int} {m:α}
theorem tT (k:Nat) (e:α→List PV) (hm:c=true→idx xs i=some m) (h:FOk F):FOk ((k,.ix c (List.map e xs) i (e m))::F):=⟨fun hc=>by
 obtain ⟨h0,hmm⟩:=iS (hm hc)
 unfold idx;rw [if_pos h0,List.getElem?_map,hmm];rfl,h⟩
theorem jX (k:Nat) (e:α→List PV) (hm:idx xs i=some m) (h:FOk F):FOk ((k,.ix true (List.map e xs) i (e m))::F):=tT k e (fun _=>hm) h
theorem sm (k:Nat) {s:ByteArray} {u:UInt8} (hm:c=true→idx s.data.toList i=some u) (h:FOk F):FOk ((k,.sx c s i u)::F):=⟨hm,h⟩
theorem fosx (k:Nat) {s:ByteArray} {u:UInt8} (hm:idx s.data.toList i=some u) (h:FOk F):FOk ((k,.sx true s i u)::F):=⟨fun _=>hm,h⟩
theorem yi (k:Nat) {u:Unit} (hm:SX.nz b=some u) (h:FOk F):FOk ((k,.nz true b)::F):=⟨fun _=>nz_some hm,h⟩
theorem AF (k:Nat) {u:Unit} (hm:nH b=some u) (h:FOk F):FOk ((k,.ge true b)::F):=⟨fun _=>B4 hm,h⟩
theorem foslg (k:Nat) (e:α→List PV) (sz:Nat) (hw:∀ m,(e m).length=sz) (hm:c=true→sub xs lo hi=some zs) (h:FOk F):FOk ((k,.sl c (List.map e xs) lo hi (List.map e zs) zs.length sz)::F):=⟨⟨fun hc=>by
 obtain ⟨h1,rfl⟩:=sd (hm hc)
 unfold sub;rw [if_pos (by rw [List.length_map];exact h1),List.map_drop,List.map_take],by rw [List.length_map],fun cs hcs=>by obtain ⟨x,_,rfl⟩:=List.mem_map.1 hcs;exact hw x⟩,h⟩
theorem fosl (k:Nat) (e:α→List PV) (sz:Nat) (hw:∀ m,(e m).length=sz) (hm:sub xs lo hi=some zs) (h:FOk F):FOk ((k,.sl true (List.map e xs) lo hi (List.map e zs) zs.length sz)::F):=foslg k e sz hw (fun _=>hm) h
theorem fossg (k:Nat) {s z:ByteArray} (hm:c=true→mn s lo hi=some z) (h:FOk F):FOk ((k,.ss c s lo hi z)::F):=⟨hm,h⟩
theorem foeq (k:Nat) {t:Nat} {ks:List Nat} (hm:EqOk t ks) (h:FOk F):FOk ((k,.eq t ks)::F):=⟨hm,h⟩
theorem bK (k:Nat) {f:Nat} {pargs:List PV} {r:PV} (hm:PF f pargs r) (h:FOk F):FOk ((k,.cl true f pargs r)::F):=⟨fun _=>hm,h⟩
theorem kU (k:Nat) {f:Nat} {pargs:List PV} {r:PV} (hm:c=true→PF f pargs r) (h:FOk F):FOk ((k,.cl c f pargs r)::F):=⟨hm,h⟩
theorem AG (k:Nat) {pf:PV} {pargs:List PV} {r:PV} (hm:PFV pf pargs r) (h:FOk F):FOk ((k,.cv true pf pargs r)::F):=⟨fun _=>hm,h⟩
theorem Cg (k:Nat) {pf:PV} {pargs:List PV} {r:PV} (hm:c=true→PFV pf pargs r) (h:FOk F):FOk ((k,.cv c pf pargs r)::F):=⟨hm,h⟩
end
inductive Eqn where
 | n (a:Nat)
 | b (a:Bool)
 | i (a:Int)
 | p (a:PV)
 | l (a:List PV)
 | q (a:List (List PV))
 | s (a:ByteArray)
 | m (a:String)
abbrev StepR:=PV×List Eqn×List Eqn
def yj (σ:PEnv) (c:Bool) (t:Nat) (p:PV) (lo hi:Option Operand):Fct→Option StepR
 | .sl c' css l h zss m sz=>(match eK t,p with
  | some (.slice E),.slc mm css'=>(match fj E with
   | some (_,sz',_)=>(match lo,hi with
    | none,some y=>(match be σ y with | .v (.int _ b)=>some (.slc m zss,[.b c',.q css,.i l,.i h,.n sz],[.b c,.q css',.i 0,.i b,.n sz']) | _=>none)
    | some x,none=>(match be σ x with | .v (.int _ a)=>some (.slc m zss,[.b c',.q css,.i l,.i h,.n sz],[.b c,.q css',.i a,.i (mm:Int),.n sz']) | _=>none)
    | _,_=>none)
   | none=>none)
  | _,_=>none)
 | .ss c' s l h z=>(match eK t,p with
  | some .string,.v (.string s')=>(match lo,hi with
   | none,some y=>(match be σ y with | .v (.int _ b)=>some (.v (.string z),[.b c',.s s,.i l,.i h],[.b c,.s s',.i 0,.i b]) | _=>none)
   | some x,none=>(match be σ x with | .v (.int _ a)=>some (.v (.string z),[.b c',.s s,.i l,.i h],[.b c,.s s',.i a,.i (s'.size:Int)]) | _=>none)
   | some x,some y=>(match be σ x,be σ y with | .v (.int _ a),.v (.int _ b)=>some (.v (.string z),[.b c',.s s,.i l,.i h],[.b c,.s s',.i a,.i b]) | _,_=>none)
   | none,none=>none)
  | _,_=>none)
 | _=>none
def Ch (σ:PEnv) (c:Bool):Op→Fct→Option StepR
 | .indexAddr t x y,.ix c' css i cs=>(match eK t,be σ x,be σ y with
  | some (.slice E),.slc _ css',.v (.int _ i')=>(match fj E with | some (_,sz,_)=>some (.ref cs 0,[.b c',.q css,.i i,.n cs.length],[.b c,.q css',.i i',.n sz]) | none=>none)
  | _,_,_=>none)
 | .index t x y,.sx c' s i u=>(match eK t,be σ x,be σ y with
  | some .string,.v (.string s'),.v (.int _ i')=>some (.v (.int .u8 (u.toNat:Int)),[.b c',.s s,.i i],[.b c,.s s',.i i'])
  | _,_,_=>none)
 | .binOp .quo _ x y _,.nz c' b=>(match be σ x,be σ y with
  | .v (.int k a),.v (.int k' b')=>cond (Nat.beq (vP k) (vP k')) (some (.v (.int k (k.wrap (a.tdiv b))),[.b c',.i b],[.b c,.i b'])) none
  | _,_=>none)
 | .binOp .rem _ x y _,.nz c' b=>(match be σ x,be σ y with
  | .v (.int k a),.v (.int k' b')=>cond (Nat.beq (vP k) (vP k')) (some (.v (.int k (a.tmod b)),[.b c',.i b],[.b c,.i b'])) none
  | _,_=>none)
 | .binOp .shl _ x y _,.ge c' b=>(match be σ x,be σ y with
  | .v (.int k a),.v (.int _ b')=>some (.v (.int k (eR k a b)),[.b c',.i b],[.b c,.i b'])
  | _,_=>none)
 | .binOp .shr _ x y _,.ge c' b=>(match be σ x,be σ y with
  | .v (.int k a),.v (.int _ b')=>some (.v (.int k (cw k a b)),[.b c',.i b],[.b c,.i b'])
  | _,_=>none)
 | .binOp .add _ x y _,.ct c' s u z=>(match be σ x,be σ y with
  | .v (.string s'),.v (.string u')=>some (.v (.string z),[.b c',.s s,.s u],[.b c,.s s',.s u'])
  | _,_=>none)
 | .binOp .eql t x y _,.eq t' ks=>(match be σ x,be σ y with
  | .agg cs,.agg ds=>(match B6 cs,B6 ds with
   | some xs,some ys=>(match wD ks xs ys with | some r=>some (.v (.bool r),[.n t'],[.n t]) | none=>none)
   | _,_=>none)
  | _,_=>none)
 | .binOp .neq t x y _,.eq t' ks=>(match be σ x,be σ y with
  | .agg cs,.agg ds=>(match B6 cs,B6 ds with
   | some xs,some ys=>(match wD ks xs ys with | some r=>some (.v (.bool !r),[.n t'],[.n t]) | none=>none)
   | _,_=>none)
  | _,_=>none)
 | .slice t x lo hi none,f=>yj σ c t (be σ x) lo hi f
 | .typeAssert x _ T true,.ta T' p r=>(match eK T with
  | some d=>cond (!wH d&&(fj T).isSome) (some (r,[.n T',.p p],[.n T,.p (be σ x)])) none
  | none=>none)
 | _,_=>none
section
variable {o:Oper} {σ:PEnv} {ρ:List PRes} {x y:Operand} {t:Nat} {k:IntKind} {a b:Int} {css zss:List (List PV)}
theorem AH {E sz by' mm:Nat} {z:Value} {cs:List PV} (ho:o.op=.indexAddr t x y) (hu:eK t=some (.slice E)) (hi:fj E=some (z,sz,by')) (hw:cs.length=sz) (hx:be σ x=.slc mm css) (hy:be σ y=.v (.int k a)) (hm:idx css a=some cs):POpQ true o σ ρ (.ref cs 0):=fun κ σ' ρ' g hs hrr=>by
 obtain ⟨h0,hcs⟩:=iS hm
 have h:=hs.ev x
 rw [hx] at h
 generalize he:ev σ' x=w at h
 cases h with
 | slc hsl hb h1 hss =>
  rename_i ad cp sz' dss
  obtain ⟨ds,hd,hds⟩:=hss.get hcs
  have hlt:a.toNat<mm:=by rw [← hsl.len];exact (List.getElem?_eq_some_iff.1 hd).1
  obtain ⟨bb,off,ha,hsh⟩:=hsl.at_ (by omega)
  have hwid:sz'=sz:=by
   have e1:=hsl.wid ds (List.mem_of_getElem? hd)
   have e2:=hds.len
   omega
  subst hwid
  have h2:=oH (c:=true) (ρ:=ρ') (κ:=κ) (j:=a.toNat) ho hu hi (.p (by rw [he,ha])) (.p (hs.v1 hy)) (fun _=>by omega) (fun _=>hlt)
  exact ⟨_,fun _=>by have:=Rp.ref (k:=0) (hsh _ _ hd) (h1 ds (List.mem_of_getElem? hd)) hds;rwa [Nat.add_zero] at this,h2⟩
theorem wL {κ:Kr} {sz:Nat}:∀ {css:List (List PV)} {dss:List (List Value)},(∀ cs∈css,cs.length=sz)→Rpss κ css dss→∀ ds∈dss,ds.length=sz
 | _,_,_,.nil,ds,hd=>by cases hd
 | _,_,hw,.cons h hs,ds,hd=>by
  rcases List.mem_cons.1 hd with rfl | hd
  ·rw [← h.len];exact hw _ (by simp)
  exact wL (fun c hc=>hw c (by simp [hc])) hs ds hd
theorem yk {E sz by' mm:Nat} {z:Value} (ho:o.op=.slice t x none (some y) none) (hu:eK t=some (.slice E)) (hi:fj E=some (z,sz,by')) (hx:be σ x=.slc mm css) (hy:be σ y=.v (.int k b)) (hm:sub css 0 b=some zss):POpQ true o σ ρ (.slc zss.length zss):=fun κ σ' ρ' g hs hrr=>by
 obtain ⟨⟨h0,h1,h2⟩,rfl⟩:=sd hm
 have h:=hs.ev x
 rw [hx] at h
 generalize he:ev σ' x=w at h
 cases h with
 | slc hsl hb ho1 hss =>
  rename_i ad cp sz' dss
  have hl:css.length=mm:=by rw [← hsl.len,← hss.len]
  have hcap:=hsl.cap
  have hzl:((css.take b.toNat).drop (0:Int).toNat).length=b.toNat:=by simp;omega
  rw [hzl]
  refine ⟨.slice ad b.toNat cp,fun _=>?_,nV (c:=true) (k:=b.toNat) ho hu hi (.p he) (.p (hs.v1 hy)) (fun _=>by omega) (fun _=>by omega)⟩
  have:=Rp.slc (hsl.take (m:=b.toNat) (by omega)) (by omega) (wA ho1 fun d hd=>List.mem_of_mem_take hd) (hss.take b.toNat)
  simpa using this
theorem ym {E sz by' mm:Nat} {z:Value} (ho:o.op=.slice t x (some y) none none) (hu:eK t=some (.slice E)) (hi:fj E=some (z,sz,by')) (hw:∀ cs∈css,cs.length=sz) (hx:be σ x=.slc mm css) (hy:be σ y=.v (.int k a)) (hm:sub css a (mm:Int)=some zss):POpQ true o σ ρ (.slc zss.length zss):=fun κ σ' ρ' g hs hrr=>by
 obtain ⟨⟨h0,h1,h2⟩,rfl⟩:=sd hm
 have h:=hs.ev x
 rw [hx] at h
 generalize he:ev σ' x=w at h
 cases h with
 | slc hsl hb ho1 hss =>
  rename_i ad cp sz' dss
  have hl:css.length=mm:=by rw [← hsl.len,← hss.len]
  have hcap:=hsl.cap
  have hq:=fM (c:=true) (ρ:=ρ') (κ:=κ) (k:=a.toNat) ho hu hi (.p he) (.p (hs.v1 hy)) (fun _=>by omega) (fun _=>by omega)
  have hd:=hsl.dropT (m:=a.toNat) (by omega)
  have e2:List.drop a.toNat (List.take (mm:Int).toNat css)=css.drop a.toNat:=by rw [Int.toNat_natCast,← hl,List.take_length]
  rw [e2]
  have hzl:(css.drop a.toNat).length=mm - a.toNat:=by simp [hl]
  rw [hzl]
  by_cases hz:mm - a.toNat=0
  ·refine ⟨_,fun _=>?_,hq⟩
   have e3:css.drop a.toNat=[]:=List.drop_of_length_le (by omega)
   rw [e3]
   exact .slc (sz:=sz) (css:=[]) ⟨by simp [hz],by omega,by simp,fun h=>absurd h (by omega)⟩ (by omega) (fun _ h=>by cases h) .nil
  have hszz:sz'=sz:=by
   have hlen:=hsl.len
   match dss,hlen with
   | [],hlen=>simp only [List.length_nil] at hlen;omega
   | d::ds,_=>rw [← hsl.wid d (by simp),wL hw hss d (by simp)]
  subst hszz
  exact ⟨_,fun _=>Rp.slc hd (by omega) (wA ho1 fun d hd=>List.mem_of_mem_drop hd) (hss.drop a.toNat),hq⟩
end
theorem AI {o:Oper} {σ:PEnv} {ρ:List PRes} {c:Bool} {x:Operand} {t:Nat} {lo hi:Option Operand} {f:Fct} {p:PV} {L R:List Eqn} (ho:o.op=.slice t x lo hi none) (h:yj σ c t (be σ x) lo hi f=some (p,L,R)) (he:L=R) (hf:f.ok) (hc:c=true):POpQ true o σ ρ p:=by
 unfold yj at h
 split at h
 ·rename_i c' css l hh zss m sz
  split at h
  ·rename_i E mm css' hu hx
   split at h
   ·rename_i z sz' by' hi'
    split at h
    ·rename_i y
     split at h
     ·rename_i k b hy
      simp only [dO,Prod.mk.injEq] at h;obtain ⟨rfl,rfl,rfl⟩:=h
      simp only [List.cons.injEq,Eqn.b.injEq,Eqn.q.injEq,Eqn.i.injEq,Eqn.n.injEq,and_true] at he
      obtain ⟨rfl,rfl,rfl,rfl,rfl⟩:=he
      obtain ⟨h1,rfl,h3⟩:=hf
      exact yk ho hu hi' hx hy (h1 hc)
     cases h
    ·rename_i y
     split at h
     ·rename_i k b hy
      simp only [dO,Prod.mk.injEq] at h;obtain ⟨rfl,rfl,rfl⟩:=h
      simp only [List.cons.injEq,Eqn.b.injEq,Eqn.q.injEq,Eqn.i.injEq,Eqn.n.injEq,and_true] at he
      obtain ⟨rfl,rfl,rfl,rfl,rfl⟩:=he
      obtain ⟨h1,rfl,h3⟩:=hf
      exact ym ho hu hi' h3 hx hy (h1 hc)
     cases h
    cases h
   cases h
  cases h
 ·rename_i c' s l hh z
  split at h
  ·rename_i s' hu hx
   split at h
   ·split at h
    ·rename_i hy
     simp only [dO,Prod.mk.injEq] at h;obtain ⟨rfl,rfl,rfl⟩:=h
     simp only [List.cons.injEq,Eqn.b.injEq,Eqn.s.injEq,Eqn.i.injEq,and_true] at he
     obtain ⟨rfl,rfl,rfl,rfl⟩:=he
     exact xZ ho hu (.p hx) (.p hy) (fun _=>hf hc)
    cases h
   ·split at h
    ·rename_i hy
     simp only [dO,Prod.mk.injEq] at h;obtain ⟨rfl,rfl,rfl⟩:=h
     simp only [List.cons.injEq,Eqn.b.injEq,Eqn.s.injEq,Eqn.i.injEq,and_true] at he
     obtain ⟨rfl,rfl,rfl,rfl⟩:=he
     exact ya ho hu (.p hx) (.p hy) (fun _=>hf hc)
    cases h
   ·split at h
    ·rename_i hy hy2
     simp only [dO,Prod.mk.injEq] at h;obtain ⟨rfl,rfl,rfl⟩:=h
     simp only [List.cons.injEq,Eqn.b.injEq,Eqn.s.injEq,Eqn.i.injEq,and_true] at he
     obtain ⟨rfl,rfl,rfl,rfl⟩:=he
     exact wB ho hu (.p hx) (.p hy) (.p hy2) (fun _=>hf hc)
    cases h
   cases h
  cases h
 cases h
theorem Ci {o:Oper} {σ:PEnv} {ρ:List PRes} {c:Bool} {f:Fct} {p:PV} {L R:List Eqn} (h:Ch σ c o.op f=some (p,L,R)) (he:L=R) (hf:f.ok) (hc:c=true):POpQ true o σ ρ p:=by
 generalize ho:o.op=op at h
 unfold Ch at h
 split at h
 ·split at h
  ·rename_i hu hx hy
   split at h
   ·rename_i hi
    simp only [dO,Prod.mk.injEq] at h;obtain ⟨rfl,rfl,rfl⟩:=h
    simp only [List.cons.injEq,Eqn.b.injEq,Eqn.q.injEq,Eqn.i.injEq,Eqn.n.injEq,and_true] at he
    obtain ⟨rfl,rfl,rfl,h4⟩:=he
    exact AH ho hu hi h4 hx hy (hf hc)
   cases h
  cases h
 ·split at h
  ·rename_i hu hx hy
   simp only [dO,Prod.mk.injEq] at h;obtain ⟨rfl,rfl,rfl⟩:=h
   simp only [List.cons.injEq,Eqn.b.injEq,Eqn.s.injEq,Eqn.i.injEq,and_true] at he
   obtain ⟨rfl,rfl,rfl⟩:=he
   exact Aw ho hu (.p hx) (.p hy) (fun _=>hf hc)
  cases h
 ·split at h
  ·rename_i k a k' b' hx hy
   cases hk:Nat.beq (vP k) (vP k')
   ·rw [hk] at h;cases h
   rw [hk] at h;have:=rm hk;subst this
   simp only [cQ,dO,Prod.mk.injEq] at h;obtain ⟨rfl,rfl,rfl⟩:=h
   simp only [List.cons.injEq,Eqn.b.injEq,Eqn.i.injEq,and_true] at he
   obtain ⟨rfl,rfl⟩:=he
   exact BY ho (.p hx) (.p hy) (fun _=>hf hc)
  cases h
 ·split at h
  ·rename_i k a k' b' hx hy
   cases hk:Nat.beq (vP k) (vP k')
   ·rw [hk] at h;cases h
   rw [hk] at h;have:=rm hk;subst this
   simp only [cQ,dO,Prod.mk.injEq] at h;obtain ⟨rfl,rfl,rfl⟩:=h
   simp only [List.cons.injEq,Eqn.b.injEq,Eqn.i.injEq,and_true] at he
   obtain ⟨rfl,rfl⟩:=he
   exact BZ ho (.p hx) (.p hy) (fun _=>hf hc)
  cases h
 ·split at h
  ·rename_i hx hy
   simp only [dO,Prod.mk.injEq] at h;obtain ⟨rfl,rfl,rfl⟩:=h
   simp only [List.cons.injEq,Eqn.b.injEq,Eqn.i.injEq,and_true] at he
   obtain ⟨rfl,rfl⟩:=he
   exact r8 ho (.p hx) (.p hy) (fun _=>hf hc) rfl
  cases h
 ·split at h
  ·rename_i hx hy
   simp only [dO,Prod.mk.injEq] at h;obtain ⟨rfl,rfl,rfl⟩:=h
   simp only [List.cons.injEq,Eqn.b.injEq,Eqn.i.injEq,and_true] at he
   obtain ⟨rfl,rfl⟩:=he
   exact r8 ho (.p hx) (.p hy) (fun _=>hf hc) rfl
  cases h
 ·split at h
  ·rename_i hx hy
   simp only [dO,Prod.mk.injEq] at h;obtain ⟨rfl,rfl,rfl⟩:=h
   simp only [List.cons.injEq,Eqn.b.injEq,Eqn.s.injEq,and_true] at he
   obtain ⟨rfl,rfl,rfl⟩:=he
   exact pq_catT ho (.p hx) (.p hy) (fun _=>hf hc)
  cases h
 ·split at h
  ·rename_i hx hy
   split at h
   ·rename_i h5 h6
    split at h
    ·rename_i r hr
     simp only [dO,Prod.mk.injEq] at h;obtain ⟨rfl,rfl,rfl⟩:=h
     simp only [List.cons.injEq,Eqn.n.injEq,and_true] at he
     subst he
     exact zj _ ho hf.h1 hf.h2 hf.h3 hf.h4 (.p hx) (.p hy) h5 h6 hr rfl
    cases h
   cases h
  cases h
 ·split at h
  ·rename_i hx hy
   split at h
   ·rename_i h5 h6
    split at h
    ·rename_i r hr
     simp only [dO,Prod.mk.injEq] at h;obtain ⟨rfl,rfl,rfl⟩:=h
     simp only [List.cons.injEq,Eqn.n.injEq,and_true] at he
     subst he
     exact zj _ ho hf.h1 hf.h2 hf.h3 hf.h4 (.p hx) (.p hy) h5 h6 hr rfl
    cases h
   cases h
  cases h
 ·exact AI ho h he hf hc
 ·split at h
  ·rename_i d hu
   cases hb:(!wH d&&(fj _).isSome)
   ·rw [hb] at h;cases h
   rw [hb] at h
   simp only [cQ,dO,Prod.mk.injEq] at h;obtain ⟨rfl,rfl,rfl⟩:=h
   simp only [List.cons.injEq,Eqn.n.injEq,Eqn.p.injEq,and_true] at he
   obtain ⟨rfl,h2⟩:=he
   simp only [Bool.and_eq_true,Bool.not_eq_true'] at hb
   exact pq_ta ho hu hb.1 hb.2 h2.symm hf
  cases h
 cases h
def gL (l:List (Bool×Bool)):List Eqn:=l.map fun z=>.b z.1
def gR (l:List (Bool×Bool)):List Eqn:=l.map fun z=>.b z.2
theorem gLR:∀ {l:List (Bool×Bool)},gL l=gR l→AllEq l
 | [],_=>AllEq.nil
 | (a,b)::l,h=>by
  simp only [gL,gR,List.map_cons,List.cons.injEq,Eqn.b.injEq] at h
  have:=gLR (l:=l) h.2
  unfold AllEq at this ⊢
  simp only [List.map_cons,h.1,this]
theorem Cj {l:List (Bool×Bool)}:(gL l).length=(gR l).length:=by simp [gL,gR]
def mV:Op→Bool
 | .call ⟨.value _,_,_⟩=>true
 | .call ⟨.invoke _ _,_,_⟩=>true
 | _=>false
abbrev StepO:=Option (PV×Bool×List Eqn×List Eqn)
def sn (σ:PEnv) (G:List (Nat×GE)) (ρ:List PRes) (gs:List Bool) (at_:Nat) (op:Op):StepO :=
 match qx (mH σ G (fx op.operands.toList) gs) ρ at_ op with
 | some (p,none)=>some (p,false,gL (jW G gs (fx op.operands.toList)),gR (jW G gs (fx op.operands.toList)))
 | some (p,some (b,b'))=>some (p,true,gL (jW G gs (fx op.operands.toList))++[.n b],gR (jW G gs (fx op.operands.toList))++[.n b'])
 | none=>none
def Ck (σ:PEnv) (G:List (Nat×GE)) (gs:List Bool) (op:Op) (cal:Operand) (ags:List Operand):Fct→StepO
 | .cl c f pargs r=>(match cal with
  | .func f'=>some (r,false,gL (jW G gs (fx op.operands.toList))++[.b c,.n f,.l pargs],gR (jW G gs (fx op.operands.toList))++[.b (gs.headD true),.n f',.l (ags.map (be (mH σ G (fx op.operands.toList) gs)))])
  | _=>none)
 | .cv c pf pargs r=>some (r,false,gL (jW G gs (fx op.operands.toList))++[.b c,.p pf,.l pargs],gR (jW G gs (fx op.operands.toList))++[.b (gs.headD true),.p (be (mH σ G (fx op.operands.toList) gs) cal),.l (ags.map (be (mH σ G (fx op.operands.toList) gs)))])
 | _=>none
def invx (σ:PEnv) (G:List (Nat×GE)) (gs:List Bool) (op:Op) (x:Operand) (name:String) (ags:List Operand):Fct→StepO
 | .ci c p name' pargs r=>some (r,false,gL (jW G gs (fx op.operands.toList))++[.b c,.p p,.m name',.l pargs],gR (jW G gs (fx op.operands.toList))++[.b (gs.headD true),.p (be (mH σ G (fx op.operands.toList) gs) x),.m name,.l (ags.map (be (mH σ G (fx op.operands.toList) gs)))])
 | _=>none
def Cl (σ:PEnv) (G:List (Nat×GE)) (ρ:List PRes) (gs:List Bool) (at_:Nat) (fo:Option Fct) (op:Op):StepO :=
 match fo with
 | some f=>(match op with
  | .call ⟨.value cal,⟨ags⟩,ts⟩=>Ck σ G gs (.call ⟨.value cal,⟨ags⟩,ts⟩) cal ags f
  | .call ⟨.invoke x name,⟨ags⟩,ts⟩=>invx σ G gs (.call ⟨.invoke x name,⟨ags⟩,ts⟩) x name ags f
  | op=>(match Ch (mH σ G (fx op.operands.toList) gs) (gs.headD true) op f with
   | some (p,L,R)=>some (p,false,gL (jW G gs (fx op.operands.toList))++L,gR (jW G gs (fx op.operands.toList))++R)
   | none=>none))
 | none=>(match op with
  | .pick cc a b=>(match Ce σ G gs cc a b with | some (p,l)=>some (p,false,gL l,gR l) | none=>none)
  | op=>sn σ G ρ gs at_ op)
def POpG (c:Bool) (o:Oper) (σ:PEnv) (r:PV):Prop:=∀ κ σ' ρ' (KK:Value→Kr→Prop),GOK κ→Sim κ σ σ'→(∀ v κ',Kle κ κ'→(c=true→Rp κ' r v)→KK v κ')→OpG c o σ' ρ' κ KK
theorem wM {a b l m:List Eqn} (h:a++l=b++m) (hl:a.length=b.length):a=b∧l=m:=List.append_inj h hl
theorem popg_cl {o:Oper} {σ:PEnv} {G:List (Nat×GE)} {gs:List Bool} {ts:List Nat} {f:Nat} {ags:List Operand} {at_:Array Nat} {pargs:List PV} {r:PV} (ho:o.op=.call { callee:=.value (.func f),args:=ags.toArray,argTypes:=at_ }) (hi:GInv σ G) (ha:AllEq (jW G gs ts)) (hk:StackOk gs) (hp:pargs=ags.map (be (mH σ G ts gs))) (hc:gs.headD true=true→PF f pargs r):POpG (gs.headD true) o σ r:=fun κ σ' ρ' KK g hs h =>
 vZ ho (fun _=>rfl) (fun hct=>hc hct κ _ g (by rw [hp];exact iP (oS hs hi ha hk hct) ags)) h
theorem popg_cv {o:Oper} {σ:PEnv} {G:List (Nat×GE)} {gs:List Bool} {ts:List Nat} {x:Operand} {ags:List Operand} {at_:Array Nat} {pf:PV} {pargs:List PV} {r:PV} (ho:o.op=.call { callee:=.value x,args:=ags.toArray,argTypes:=at_ }) (hi:GInv σ G) (ha:AllEq (jW G gs ts)) (hk:StackOk gs) (hx:pf=be (mH σ G ts gs) x) (hp:pargs=ags.map (be (mH σ G ts gs))) (hc:gs.headD true=true→PFV pf pargs r):POpG (gs.headD true) o σ r:=fun κ σ' ρ' KK g hs h=>by
 refine ⟨fun hct=>?_,fun hcf=>h undef κ (.refl _) fun h=>by rw [hcf] at h;cases h⟩
 have hs':=oS hs hi ha hk hct
 obtain ⟨f,first,cap,h1,h2⟩:=hc hct κ _ _ g (by rw [hx];exact hs'.ev x) (by rw [hp];exact iP hs' ags)
 exact tK ho h1 rfl h2 fun v κ' hk hv=>⟨rfl,h v κ' hk fun _=>hv⟩
theorem popg_ci {o:Oper} {σ:PEnv} {G:List (Nat×GE)} {gs:List Bool} {ts:List Nat} {x:Operand} {name:String} {ags:List Operand} {at_:Array Nat} {p:PV} {pargs:List PV} {r:PV} (ho:o.op=.call { callee:=.invoke x name,args:=ags.toArray,argTypes:=at_ }) (hi:GInv σ G) (ha:AllEq (jW G gs ts)) (hk:StackOk gs) (hx:p=be (mH σ G ts gs) x) (hp:pargs=ags.map (be (mH σ G ts gs))) (hc:gs.headD true=true→PFI p name pargs r):POpG (gs.headD true) o σ r:=fun κ σ' ρ' KK g hs h=>by
 refine ⟨fun hct=>?_,fun hcf=>h undef κ (.refl _) fun h=>by rw [hcf] at h;cases h⟩
 have hs':=oS hs hi ha hk hct
 obtain ⟨t,q,f,e1,hm,hf⟩:=hc hct
 have hv:=hs'.ev x
 rw [← hx,e1] at hv
 generalize he:ev σ' x=w at hv
 cases hv with
 | ifc hv=>exact yg ho he hm (hf κ _ g (.cons hv (by rw [hp];exact iP hs' ags))) fun v κ' hk hv=>⟨rfl,h v κ' hk fun _=>hv⟩
theorem AJ {o:Oper} {σ:PEnv} {G:List (Nat×GE)} {ρ:List PRes} {gs:List Bool} {k:Nat} {p:PV} {u:Bool} {L R:List Eqn} (hi:GInv σ G) (hk:StackOk gs) (h:sn σ G ρ gs k o.op=some (p,u,L,R)) (he:L=R):POpQ (gs.headD true) o σ ρ p:=by
 unfold sn at h
 split at h
 ·rename_i p' hq
  simp only [dO,Prod.mk.injEq] at h;obtain ⟨rfl,_,rfl,rfl⟩:=h
  exact p7 (fun _=>qx_ok hq (fun _ _ e=>by cases e)) hi (gLR he) hk
 ·rename_i p' b b' hq
  simp only [dO,Prod.mk.injEq] at h;obtain ⟨rfl,_,rfl,rfl⟩:=h
  obtain ⟨h1,h2⟩:=wM he Cj
  simp only [List.cons.injEq,Eqn.n.injEq,and_true] at h2
  exact p7 (fun _=>qx_ok hq (fun _ _ e=>by simp only [dO,Prod.mk.injEq] at e;rw [← e.1,← e.2];exact h2)) hi (gLR h1) hk
 cases h
theorem Cm {o:Oper} {σ:PEnv} {G:List (Nat×GE)} {gs:List Bool} {cal:Operand} {ags:List Operand} {ts:Array Nat} {f:Fct} {p:PV} {u:Bool} {L R:List Eqn} (ho:o.op=.call ⟨.value cal,⟨ags⟩,ts⟩) (hi:GInv σ G) (hk:StackOk gs) (h:Ck σ G gs (.call ⟨.value cal,⟨ags⟩,ts⟩) cal ags f=some (p,u,L,R)) (he:L=R) (hf:f.ok):POpG (gs.headD true) o σ p:=by
 unfold Ck at h
 split at h
 ·split at h
  ·simp only [dO,Prod.mk.injEq] at h;obtain ⟨rfl,_,rfl,rfl⟩:=h
   obtain ⟨h1,h2⟩:=wM he Cj
   simp only [List.cons.injEq,Eqn.n.injEq,Eqn.b.injEq,Eqn.l.injEq,and_true] at h2
   obtain ⟨h3,h4,h5⟩:=h2
   subst h4
   exact popg_cl ho hi (gLR h1) hk h5 (fun hc=>hf (by rw [h3];exact hc))
  cases h
 ·simp only [dO,Prod.mk.injEq] at h;obtain ⟨rfl,_,rfl,rfl⟩:=h
  obtain ⟨h1,h2⟩:=wM he Cj
  simp only [List.cons.injEq,Eqn.p.injEq,Eqn.b.injEq,Eqn.l.injEq,and_true] at h2
  obtain ⟨h3,h4,h5⟩:=h2
  exact popg_cv ho hi (gLR h1) hk h4 h5 (fun hc=>hf (by rw [h3];exact hc))
 cases h
theorem invx_ok {o:Oper} {σ:PEnv} {G:List (Nat×GE)} {gs:List Bool} {x:Operand} {name:String} {ags:List Operand} {ts:Array Nat} {f:Fct} {p:PV} {u:Bool} {L R:List Eqn} (ho:o.op=.call ⟨.invoke x name,⟨ags⟩,ts⟩) (hi:GInv σ G) (hk:StackOk gs) (h:invx σ G gs (.call ⟨.invoke x name,⟨ags⟩,ts⟩) x name ags f=some (p,u,L,R)) (he:L=R) (hf:f.ok):POpG (gs.headD true) o σ p:=by
 unfold invx at h
 split at h
 ·simp only [dO,Prod.mk.injEq] at h;obtain ⟨rfl,_,rfl,rfl⟩:=h
  obtain ⟨h1,h2⟩:=wM he Cj
  simp only [List.cons.injEq,Eqn.p.injEq,Eqn.b.injEq,Eqn.l.injEq,Eqn.m.injEq,and_true] at h2
  obtain ⟨h3,h4,h5,h6⟩:=h2
  subst h5
  exact popg_ci ho hi (gLR h1) hk h4 h6 (fun hc=>hf (by rw [h3];exact hc))
 cases h
theorem Cn {o:Oper} {σ:PEnv} {G:List (Nat×GE)} {ρ:List PRes} {gs:List Bool} {k:Nat} {fo:Option Fct} {p:PV} {u:Bool} {L R:List Eqn} (hi:GInv σ G) (hk:StackOk gs) (h:Cl σ G ρ gs k fo o.op=some (p,u,L,R)) (he:L=R) (hf:∀ f,fo=some f→f.ok):(mV o.op=false∧POpQ (gs.headD true) o σ ρ p)∨(mV o.op=true∧POpG (gs.headD true) o σ p):=by
 unfold Cl at h
 split at h
 ·rename_i f
  split at h
  ·rename_i cal ags ts ho
   exact .inr ⟨by rw [ho];rfl,Cm ho hi hk h he (hf f rfl)⟩
  ·rename_i x name ags ts ho
   exact .inr ⟨by rw [ho];rfl,invx_ok ho hi hk h he (hf f rfl)⟩
  rename_i hnc hnc2
  split at h
  ·rename_i p' L' R' hq
   simp only [dO,Prod.mk.injEq] at h;obtain ⟨rfl,_,rfl,rfl⟩:=h
   obtain ⟨h1,h2⟩:=wM he Cj
   refine .inl ⟨?_,p7 (fun hc=>Ci hq h2 (hf f rfl) hc) hi (gLR h1) hk⟩
   unfold mV
   split
   ·rename_i cal ags ts ho;exact absurd ho (hnc cal ags.toList ts)
   ·rename_i x name ags ts ho;exact absurd ho (hnc2 x name ags.toList ts)
   rfl
  cases h
 split at h
 ·rename_i cc a b ho
  split at h
  ·rename_i p' l' hp
   simp only [dO,Prod.mk.injEq] at h;obtain ⟨rfl,_,rfl,rfl⟩:=h
   exact .inl ⟨by rw [ho];rfl,Cf ho hi hk hp (gLR he)⟩
  cases h
 cases hc:mV o.op
 ·exact .inl ⟨rfl,AJ hi hk h he⟩
 exfalso
 unfold mV at hc
 split at hc
 ·rename_i ho
  rw [ho] at h
  unfold sn at h
  simp only [qx] at h
  cases h
 ·rename_i ho
  rw [ho] at h
  unfold sn at h
  simp only [qx] at h
  cases h
 cases hc
def vi (σ:PEnv) (G:List (Nat×GE)) (d:Nat) (gs:List Bool) (p:PV):PEnv×List (Nat×GE):=match gs with
 | []=>(eP σ d p,Cc d G)
 | c::gs=>(eP σ d (pgv c p),(d,⟨c::gs,p⟩)::G)
theorem vj {d t:Nat} {e:GE}:∀ {G:List (Nat×GE)},gl t (Cc d G)=some e→t≠d∧gl t G=some e
 | [],h=>by cases h
 | (k,e')::l,h=>by
  simp only [Cc] at h
  cases hd:Nat.beq d k
  ·rw [hd] at h;simp only [dn,gl] at h ⊢
   cases ht:Nat.beq t k
   ·rw [ht] at h;exact vj h
   rw [ht] at h
   refine ⟨fun e=>?_,h⟩
   rw [Nat.eq_of_beq_eq_true ht] at e;rw [e] at hd;simp at hd
  rw [hd] at h;simp only [cQ] at h
  obtain ⟨h1,h2⟩:=vj h
  refine ⟨h1,?_⟩
  simp only [gl]
  have:Nat.beq t k=false:=by cases e:Nat.beq t k;rfl;exact absurd ((Nat.eq_of_beq_eq_true e).trans (Nat.eq_of_beq_eq_true hd).symm) h1
  rw [this];exact h2
theorem vk {σ:PEnv} {d t:Nat} {p:PV} (h:t≠d):eP σ d p t=σ t:=by
 unfold eP
 have:Nat.beq t d=false:=by cases e:Nat.beq t d;rfl;exact absurd (Nat.eq_of_beq_eq_true e) h
 rw [this];rfl
theorem so {σ:PEnv} {G:List (Nat×GE)} {d:Nat} {gs:List Bool} {p:PV} (hi:GInv σ G) (hk:StackOk gs):GInv (vi σ G d gs p).1 (vi σ G d gs p).2:=by
 unfold vi
 split
 ·intro t e h
  obtain ⟨h1,h2⟩:=vj h
  simp only [vk h1]
  exact hi t e h2
 rename_i c gs
 intro t e h
 simp only [gl] at h
 cases ht:Nat.beq t d
 ·rw [ht] at h
  have hne:t≠d:=fun e=>by rw [e] at ht;simp at ht
  simp only [vk hne]
  exact hi t e h
 rw [ht] at h
 simp only [cQ,dO] at h;subst h
 have:=Nat.eq_of_beq_eq_true ht;subst this
 refine ⟨?_,hk,by simp⟩
 simp only [eP,Nat.beq_refl,cQ,List.headD_cons]
theorem sq {σ:PEnv} {G:List (Nat×GE)} {d:Nat} {gs:List Bool} {p:PV}:(vi σ G d gs p).1=eP σ d (pgv (gs.headD true) p):=by
 unfold vi;split
 ·rw [List.headD_nil,hX]
 rfl
structure RunR where
 σ:PEnv
 L:List Eqn
 R:List Eqn
def zo (i:Nat):List (Nat×Fct)→Option Fct
 | (k,f)::_=>cond (Nat.beq k i) (some f) none
 | []=>none
def oT (n:Nat) (ops:Array Oper) (ρ:List PRes):List Oper→Nat→List Nat→List (Nat×Fct)→PEnv→List (Nat×GE)→Option RunR
 | [],_,_,_,σ,_=>some ⟨σ,[],[]⟩
 | o::l,i,H,F,σ,G=>match o.dst with
  | some d=>cond (Nat.blt d n) (match vg ops σ G o.guard with
   | some gs=>match Cl σ G ρ gs (H.headD 0) (zo i F) o.op with
    | some (p,u,L,R)=>match oT n ops ρ l (i+1) (cond u H.tail H) (match zo i F with | some _=>F.tail | none=>F) (vi σ G d gs p).1 (vi σ G d gs p).2 with
     | some r=>cond (Nat.beq L.length R.length) (some ⟨r.σ,L++r.L,R++r.R⟩) none
     | none=>none
    | none=>none
   | none=>none) none
  | none=>none
theorem Co {i:Nat} {F:List (Nat×Fct)} (h:FOk F):∀ f,zo i F=some f→f.ok:=fun f hf=>by
 cases F with
 | nil=>cases hf
 | cons a l =>
  obtain ⟨k,g⟩:=a
  simp only [zo] at hf
  cases hk:Nat.beq k i
  ·rw [hk] at hf;cases hf
  rw [hk] at hf;simp only [cQ,dO] at hf;subst hf;exact h.1
theorem Cp {F:List (Nat×Fct)} (h:FOk F) (b:Option Fct):FOk (match b with | some _=>F.tail | none=>F):=by
 cases b with
 | none=>exact h
 | some f=>cases F with
  | nil=>exact h
  | cons a l=>exact h.2
theorem sr {n:Nat} {ops:Array Oper} {ρ:List PRes} {o:Oper} {l:List Oper} {i:Nat} {H:List Nat} {F:List (Nat×Fct)} {σ:PEnv} {G:List (Nat×GE)} {r:RunR} (h:oT n ops ρ (o::l) i H F σ G=some r) (he:r.L=r.R) (hF:FOk F) (hi:GInv σ G) :
    ∃ d gs p H' F' r',o.dst=some d∧Nat.blt d n=true∧PGuardIs ops σ o (gs.headD true)∧StackOk gs∧((mV o.op=false∧POpQ (gs.headD true) o σ ρ p)∨(mV o.op=true∧POpG (gs.headD true) o σ p))∧oT n ops ρ l (i+1) H' F' (vi σ G d gs p).1 (vi σ G d gs p).2=some r'∧r'.σ=r.σ∧r'.L=r'.R∧FOk F':=by
  simp only [oT] at h
  split at h
  · rename_i d hd
    cases hlt:Nat.blt d n
    · rw [hlt] at h;cases h
    rw [hlt] at h;simp only [cQ] at h
    split at h
    · rename_i gs hgs
      split at h
      · rename_i p u L R hst
        split at h
        · rename_i r' hr
          cases hlen:Nat.beq L.length R.length
          · rw [hlen] at h;cases h
          rw [hlen] at h;simp only [cQ,dO] at h;subst h
          obtain ⟨h1,h2⟩:=List.append_inj he (Nat.eq_of_beq_eq_true hlen)
          obtain ⟨hg,hk⟩:=AD hi hgs
          exact ⟨d,gs,p,_,_,r',hd,hlt,hg,hk,Cn hi hk hst h1 (Co hF),hr,rfl,h2,Cp hF _⟩
        cases h
      cases h
    cases h
  cases h
theorem Cq {n:Nat} {ops:Array Oper} {o:Oper} {rest:List Oper} {K:PPost} {σ:PEnv} {ρ:List PRes} {d:Nat} {c:Bool} {r:PV} (hg:PGuardIs ops σ o c) (hd:o.dst=some d) (hlt:Nat.blt d n=true) (h:POpG c o σ r) (hw:PWL n ops rest K (eP σ d (pgv c r)) ρ):PWL n ops (o::rest) K σ ρ:=fun β κ σ' ρ' g hs hr =>
 wl_g (hg κ σ' hs) hd hlt (h κ σ' ρ' _ g hs fun v κ' hk hv=>hw β κ' _ _ (g.mono hk) ((hs.mono hk).upd (wq hv)) (hr.mono hk))
theorem Cr {n:Nat} {ops:Array Oper} {o:Oper} {lo:List (Nat×Oper)} {K:PPost} {σ:PEnv} {ρd ρs:List PRes} {d:Nat} {c:Bool} {r:PV} (hg:PGuardIs ops σ o c) (hd:o.dst=some d) (hlt:Nat.blt d n=true) (h:POpG c o σ r) (hw:PWD n ops K lo (eP σ d (pgv c r)) ρd ρs):PWD n ops K ((1,o)::lo) σ ρd ρs:=fun β κ σ' rd rs g hs h1 h2 =>
 wd_g (hg κ σ' hs) hd hlt fun κ1 hk=>h κ1 σ' _ _ (g.mono hk) (hs.mono hk) fun v κ' hk' hv=>hw β κ' _ rd rs ((g.mono hk).mono hk') (((hs.mono hk).mono hk').upd (wq hv)) ((h1.mono hk).mono hk') ((h2.mono hk).mono hk')
theorem vl {n:Nat} {ops:Array Oper} {rest:List Oper} {K:PPost} {ρ:List PRes}:∀ {l:List Oper} {i:Nat} {H:List Nat} {F:List (Nat×Fct)} {σ:PEnv} {G:List (Nat×GE)} {r:RunR},oT n ops ρ l i H F σ G=some r→r.L=r.R→FOk F→GInv σ G→PWL n ops rest K r.σ ρ→PWL n ops (l++rest) K σ ρ
 | [],i,H,F,σ,G,r,h,_,_,_,hw=>by simp only [oT,dO] at h;subst h;exact hw
 | o::l,i,H,F,σ,G,r,h,he,hF,hi,hw=>by
  obtain ⟨d,gs,p,H',F',r',h1,h2,h3,h4,h5,h6,h7,h8,h9⟩:=sr h he hF hi
  have hrec:=vl (rest:=rest) (K:=K) h6 h8 h9 (so hi h4) (by rw [h7];exact hw)
  rw [sq] at hrec
  rcases h5 with ⟨_,hq⟩ | ⟨_,hq⟩
  ·exact uW h3 h1 h2 hq hrec
  exact Cq h3 h1 h2 hq hrec
def Cs (ks D:List Nat):List Oper→Bool
 | []=>true
 | o::l=>(match o.dst with | some d=>Cd d ks||Cd d D | none=>true)&&Cs ks D l
theorem tU {n:Nat} {ops:Array Oper} {ρ:List PRes} {ks D:List Nat}:∀ {l:List Oper} {i:Nat} {H:List Nat} {F:List (Nat×Fct)} {σ:PEnv} {G:List (Nat×GE)} {r:RunR},oT n ops ρ l i H F σ G=some r→r.L=r.R→FOk F→GInv σ G→Cs ks D l=true→∀ t,t ∉ ks→t ∉ D→r.σ t=σ t
 | [],i,H,F,σ,G,r,h,_,_,_,_,t,_,_=>by simp only [oT,dO] at h;subst h;rfl
 | o::l,i,H,F,σ,G,r,h,he,hF,hi,hd,t,g1,g2=>by
  obtain ⟨d,gs,p,H',F',r',h1,h2,h3,h4,h5,h6,h7,h8,h9⟩:=sr h he hF hi
  simp only [Cs,Bool.and_eq_true] at hd
  rw [h1] at hd
  simp only [Bool.or_eq_true,rn] at hd
  have hne:t≠d:=fun e=>by subst e;rcases hd.1 with h | h;exact g1 h;exact g2 h
  rw [← h7,tU h6 h8 h9 (so hi h4) hd.2 t g1 g2,sq]
  exact vk hne
abbrev RunO:=Option (List PV×List Eqn)
def mW (n:Nat) (ops:Array Oper) (ρ:List PRes) (l:List Oper) (H:List Nat) (F:List (Nat×Fct)) (σ:PEnv) (ks D:List Nat):RunO :=
 match oT n ops ρ l 0 H F σ [] with
 | some r=>cond (Cs ks D l) (some (ks.map r.σ,r.L)) none
 | none=>none
def lp (n:Nat) (ops:Array Oper) (ρ:List PRes) (l:List Oper) (H:List Nat) (F:List (Nat×Fct)) (σ:PEnv) (vs:List PV):RunO :=
 match oT n ops ρ l 0 H F σ [] with
 | some r=>some (vs,r.R)
 | none=>some ([],[])
def pdel (σ:PEnv) (D:List Nat):PEnv:=fun t=>cond (Cd t D) .any (σ t)
def lF (σ:PEnv) (D:List Nat) (X:List (Nat×PV)):PEnv:=aM (pdel σ D) X
def wN (t:Nat):List (Nat×PV)→Option PV
 | []=>none
 | (d,v)::l=>cond (Nat.beq t d) (some v) (wN t l)
theorem su {σ:PEnv} {t:Nat}:∀ {X:List (Nat×PV)},aM σ X t=(wN t X).getD (σ t)
 | []=>rfl
 | (d,v)::l=>by
  simp only [aM,eP,wN]
  cases Nat.beq t d
  ·exact su (X:=l)
  rfl
theorem tV {t:Nat} {v:PV} {σ:PEnv}:∀ {X:List (Nat×PV)},wN t X=some v→(X.map (·.1)).map σ=X.map (·.2)→σ t=v
 | (d,w)::l,h,e=>by
  simp only [List.map_cons,List.cons.injEq] at e
  simp only [wN] at h
  cases hb:Nat.beq t d
  ·rw [hb] at h;exact tV h e.2
  rw [hb] at h;simp only [cQ,dO] at h
  rw [Nat.eq_of_beq_eq_true hb,e.1,h]
theorem tW {t:Nat}:∀ {X:List (Nat×PV)},wN t X=none→t ∉ X.map (·.1)
 | [],_=>by simp
 | (d,v)::l,h=>by
  simp only [wN] at h
  cases hb:Nat.beq t d
  ·rw [hb] at h
   have:t≠d:=fun e=>by rw [e] at hb;simp at hb
   simp only [List.map_cons,List.mem_cons,not_or]
   exact ⟨this,tW h⟩
  rw [hb] at h;cases h
def PWeak (σ σ1:PEnv):Prop:=∀ t,σ1 t=σ t∨σ1 t=.any
theorem Sim.weak {κ:Kr} {σ σ1:PEnv} {σ':Env} (h:Sim κ σ σ') (hw:PWeak σ σ1):Sim κ σ1 σ':=fun t=>by
 rcases hw t with e | e
 ·rw [e];exact h t
 rw [e];exact .any
theorem zr {σ:PEnv}:GInv σ []:=fun t e h=>by cases h
theorem vm {n:Nat} {ops:Array Oper} {ρ:List PRes} {l:List Oper} {H D:List Nat} {F:List (Nat×Fct)} {σ:PEnv} {X:List (Nat×PV)} (hF:FOk F) (h:mW n ops ρ l H F σ (X.map (·.1)) D=lp n ops ρ l H F σ (X.map (·.2))):∃ r,oT n ops ρ l 0 H F σ []=some r∧r.L=r.R∧PWeak r.σ (lF σ D X):=by
 unfold mW lp at h
 cases hr:oT n ops ρ l 0 H F σ [] with
 | none=>rw [hr] at h;cases h
 | some r =>
  rw [hr] at h
  simp only at h
  cases hd:Cs (X.map (·.1)) D l
  ·rw [hd] at h;cases h
  rw [hd] at h
  simp only [cQ,dO,Prod.mk.injEq] at h
  obtain ⟨h1,h2⟩:=h
  refine ⟨r,rfl,h2,fun t=>?_⟩
  unfold lF
  rw [su]
  cases hl:wN t X with
  | some v=>exact .inl (by rw [Option.getD_some,tV hl h1])
  | none =>
   rw [Option.getD_none]
   unfold pdel
   cases hi:Cd t D
   ·have h3':t ∉ D:=fun hm=>by rw [rn.2 hm] at hi;cases hi
    exact .inl (by rw [dn,tU hr h2 hF zr hd t (tW hl) h3'])
   exact .inr rfl
section
variable {n:Nat} {ops:Array Oper} {l:List Oper} {K:PPost} {KC:Exit→PPost} {σ:PEnv} {ρ:List PRes} {id:Nat} {F:List (Nat×Fct)}
theorem wO {σ1:PEnv} (hw:PWeak σ σ1) (h:PWL n ops l K σ1 ρ):PWL n ops l K σ ρ:=fun β κ σ' ρ' g hs hr=>h β κ σ' ρ' g (hs.weak hw) hr
theorem bC (k:Nat) (H D:List Nat) (X:List (Nat×PV)) (hF:FOk F) (h:mW n ops ρ (l.take k) H F σ (X.map (·.1)) D=lp n ops ρ (l.take k) H F σ (X.map (·.2))) (hw:PWL n ops (l.drop k) K (lF σ D X) ρ):PWL n ops l K σ ρ:=by
 obtain ⟨r,h1,h2,h3⟩:=vm hF h
 have:=vl h1 h2 hF zr (wO h3 hw)
 rwa [List.take_append_drop] at this
theorem jY (H D:List Nat) (X:List (Nat×PV)) (hF:FOk F) (h:mW n ops ρ l H F σ (X.map (·.1)) D=lp n ops ρ l H F σ (X.map (·.2))) (hw:K (lF σ D X) ρ):PWL n ops l K σ ρ:=by
 obtain ⟨r,h1,h2,h3⟩:=vm hF h
 have:=vl (rest:=[]) h1 h2 hF zr (wO h3 (ap (ops:=ops) hw))
 rwa [List.append_nil] at this
theorem aw (H D:List Nat) (X:List (Nat×PV)) (hF:FOk F) (h:mW n l.toArray ρ l H F σ (X.map (·.1)) D=lp n l.toArray ρ l H F σ (X.map (·.2))) (hw:KC .normal (lF σ D X) ρ):PWC n (.region id l.toArray false) KC σ ρ:=ae (jY H D X hF h hw)
end
def wP:List (Nat×Oper)→Bool
 | []=>true
 | (k,o)::l=>cond (mV o.op) (Nat.beq k 1) (Nat.beq k 0)&&wP l
theorem wQ {n:Nat} {ops:Array Oper} {rest:List (Nat×Oper)} {K:PPost} {ρd ρ:List PRes}:∀ {l:List (Nat×Oper)} {i:Nat} {H:List Nat} {F:List (Nat×Fct)} {σ:PEnv} {G:List (Nat×GE)} {r:RunR},wP l=true→oT n ops ρ (l.map (·.2)) i H F σ G=some r→r.L=r.R→FOk F→GInv σ G→PWD n ops K rest r.σ ρd ρ→PWD n ops K (l++rest) σ ρd ρ
 | [],i,H,F,σ,G,r,_,h,_,_,_,hw=>by simp only [List.map_nil,oT,dO] at h;subst h;exact hw
 | (k,o)::l,i,H,F,σ,G,r,ht,h,he,hF,hi,hw=>by
  simp only [wP,Bool.and_eq_true] at ht
  obtain ⟨d,gs,p,H',F',r',h1,h2,h3,h4,h5,h6,h7,h8,h9⟩:=sr h he hF hi
  have hrec:=wQ (rest:=rest) (K:=K) (ρd:=ρd) ht.2 h6 h8 h9 (so hi h4) (by rw [h7];exact hw)
  rw [sq] at hrec
  rcases h5 with ⟨hc,hq⟩ | ⟨hc,hq⟩
  ·rw [hc] at ht;have:=Nat.eq_of_beq_eq_true ht.1;subst this
   exact pX h3 h1 h2 hq hrec
  rw [hc] at ht;have:=Nat.eq_of_beq_eq_true ht.1;subst this
  exact Cr h3 h1 h2 hq hrec
section
variable {n:Nat} {ops:Array Oper} {l:List (Nat×Oper)} {K:PPost} {σ:PEnv} {ρd ρs:List PRes} {F:List (Nat×Fct)}
theorem Ct {σ1:PEnv} (hw:PWeak σ σ1) (h:PWD n ops K l σ1 ρd ρs):PWD n ops K l σ ρd ρs:=fun β κ σ' rd rs g hs h1 h2=>h β κ σ' rd rs g (hs.weak hw) h1 h2
def wR (n:Nat) (ops:Array Oper) (ρ:List PRes) (l:List (Nat×Oper)) (H:List Nat) (F:List (Nat×Fct)) (σ:PEnv) (ks D:List Nat):RunO:=cond (wP l) (mW n ops ρ (l.map (·.2)) H F σ ks D) none
theorem dJ (k:Nat) (H D:List Nat) (X:List (Nat×PV)) (hF:FOk F) (h:wR n ops ρs (l.take k) H F σ (X.map (·.1)) D=lp n ops ρs ((l.take k).map (·.2)) H F σ (X.map (·.2))) (hw:PWD n ops K (l.drop k) (lF σ D X) ρd ρs):PWD n ops K l σ ρd ρs:=by
 unfold wR at h
 cases ht:wP (l.take k)
 ·rw [ht] at h;unfold lp at h;split at h <;> cases h
 rw [ht] at h
 obtain ⟨r,h1,h2,h3⟩:=vm hF h
 have:=wQ ht h1 h2 hF zr (Ct h3 hw)
 rwa [List.take_append_drop] at this
end
def Found (v:Value) (es:List MapEntry) (r:Option (Nat×Value)):Prop:=(r=none∧∀ e∈es,e.key≠v)∨∃ i e,r=some (i,e.val)∧es[i]?=some e∧e.key=v
structure KeyLaw (kt:Nat) (P:Value→Prop):Prop where
 chk:∀ v,P v→∀ e w,(Instr.checkKey e 10000 kt v).run Tryz.prog w=.ok () w
 find:∀ v es,P v→(∀ e∈es,P e.key)→∀ w,∃ r,(Instr.findKey kt v es).run Tryz.prog w=.ok r w∧Found v es r
 same:∀ v,P v→Instr.sameBits 10000 v v=true
section
variable {K V:Type} [DecidableEq K]
structure KEnc (kt:Nat) (ek:K→Value):Prop where
 law:∃ P,KeyLaw kt P∧∀ a,P (ek a)
 inj:∀ a b,ek a=ek b→a=b
end
section
variable {κ:Kr}
theorem KVs.get:∀ {kvs:List (Value×PV)} {es:List MapEntry} {i:Nat} {e:MapEntry},KVs κ kvs es→es[i]?=some e→∃ p,kvs[i]?=some (e.key,p)∧Rp κ p e.val
 | _,_,0,_,.cons h _,g=>by simp only [List.getElem?_cons_zero,dO] at g;subst g;exact ⟨_,rfl,h⟩
 | _,_,i+1,_,.cons _ hs,g=>by simp only [List.getElem?_cons_succ] at g ⊢;exact hs.get g
theorem KVs.app:∀ {ps qs:List (Value×PV)} {es fs:List MapEntry},KVs κ ps es→KVs κ qs fs→KVs κ (ps++qs) (es++fs)
 | _,_,_,_,.nil,h=>h
 | _,_,_,_,.cons h hs,g=>.cons h (hs.app g)
theorem KVs.set:∀ {kvs:List (Value×PV)} {es:List MapEntry} {i:Nat} {e e':MapEntry} {p:PV},KVs κ kvs es→es[i]?=some e→e'.key=e.key→Rp κ p e'.val→KVs κ (kvs.set i (e.key,p)) (es.set i e')
 | _,_,0,_,_,_,.cons h hs,g,hk,hp=>by simp only [List.getElem?_cons_zero,dO] at g;subst g;rw [← hk];exact .cons hp hs
 | _,_,i+1,_,_,_,.cons h hs,g,hk,hp=>by simp only [List.getElem?_cons_succ] at g;exact .cons h (hs.set g hk hp)
theorem yn {α:Type} {R:α→α→Prop}:∀ {l:List α} {i:Nat} {a a':α},l.Pairwise R→l[i]?=some a→(∀ x,R x a→R x a')→(∀ x,R a x→R a' x)→(l.set i a').Pairwise R
 | _::l,0,a,a',h,g,h1,h2=>by
  simp only [List.getElem?_cons_zero,dO] at g;subst g
  rw [List.pairwise_cons] at h
  exact List.pairwise_cons.2 ⟨fun x hx=>h2 x (h.1 x hx),h.2⟩
 | b::l,i+1,a,a',h,g,h1,h2=>by
  simp only [List.getElem?_cons_succ] at g
  rw [List.pairwise_cons] at h
  refine List.pairwise_cons.2 ⟨fun x hx=>?_,yn h.2 g h1 h2⟩
  rcases List.mem_or_eq_of_mem_set hx with hx | rfl
  ·exact h.1 x hx
  exact h1 b (h.1 a (List.mem_of_getElem? g))
theorem MapWf.set {es:List MapEntry} {clock i:Nat} {e e':MapEntry} (h:MapWf es clock) (g:es[i]?=some e) (hk:e'.key=e.key) (hb:e'.born=e.born):MapWf (es.set i e') clock where
 nd:=yn h.nd g (fun x hx=>by rw [hk];exact hx) (fun x hx=>by rw [hk];exact hx)
 bn:=yn h.bn g (fun x hx=>by rw [hb];exact hx) (fun x hx=>by rw [hb];exact hx)
 lt:=fun x hx=>by
  rcases List.mem_or_eq_of_mem_set hx with hx | rfl
  ·exact h.lt x hx
  rw [hb];exact h.lt e (List.mem_of_getElem? g)
end
section
variable {K V:Type} {ek:K→Value} {ev:V→PV} {xs:List (K×V)} {κ:Kr} {es:List MapEntry} {clock kt:Nat}
end
section
variable {κ:Kr} {σ:Env} {ρ:List Res} {o:Oper} {K:Value→List Res→Kr→Prop}
end
section
variable {K V:Type} [DecidableEq K] {ek:K→Value} {vv:V→PV} {xs:List (K×V)} {κ:Kr} {es:List MapEntry} {clock kt:Nat}
end
section
variable {K V:Type} [DecidableEq K] {ek:K→Value} {vv:V→PV} {xs:List (K×V)} {o:Oper} {σ:PEnv} {ρ ρ':List PRes} {c:Bool} {x y y2:Operand} {t kt et:Nat} {KK:PV→List PRes→Prop} {k:K} {v z0:V} {z:Value} {sz by' b:Nat} {pk:PV} {mo:Option Nat}
end
def kP (a b:Int):Value:=.agg #[.int .i64 a,.int .i64 b]
section
variable {n:Nat} {ops:Array Oper} {o:Oper} {rest:List Oper} {K:PPost} {σ:PEnv} {ρ:List PRes} {d:Nat}
end
section
variable {o:Oper} {σ:PEnv} {ρ ρ':List PRes} {x y:Operand} {t T T2 sz by' n c:Nat} {a:Option Addr} {kd:IntKind} {i j:Int} {z:Value} {α:Type} {enc:α→List PV} {xs zs:List α} {m:α} {K:PV→List PRes→Prop}
end
section
variable {α:Type} (lt:α→α→Bool)
def mI (x:α):List α→List α
 | []=>[x]
 | y::l=>cond (lt y x) (y::mI x l) (x::y::l)
def fi:List α→List α
 | []=>[]
 | x::l=>mI lt x (fi l)
variable {lt}
theorem jF {x:α}:∀ {l:List α},(mI lt x l).Perm (x::l)
 | []=>List.Perm.refl _
 | y::l=>by
  unfold mI
  cases lt y x
  ·exact List.Perm.refl _
  exact (List.Perm.cons y jF).trans (List.Perm.swap x y l)
theorem mq:∀ {l:List α},(fi lt l).Perm l
 | []=>List.Perm.refl _
 | x::l=>jF.trans (List.Perm.cons x mq)
theorem sv (htr:∀ x y z,lt x y=true→lt y z=true→lt x z=true) (hnt:∀ x y z,lt x y=false→lt y z=false→lt x z=false) (hir:∀ x,lt x x=false) {x:α}:∀ {l:List α},l.Pairwise (fun a b=>lt b a=false)→(mI lt x l).Pairwise (fun a b=>lt b a=false)
 | [],_=>List.pairwise_singleton _ _
 | y::l,h=>by
  unfold mI
  obtain ⟨h1,h2⟩:=List.pairwise_cons.1 h
  have asym:∀ a b,lt a b=true→lt b a=false:=fun a b hab=>by
   cases hba:lt b a
   ·rfl
   have:=htr a b a hab hba;rw [hir] at this;cases this
  cases hy:lt y x
  ·refine List.pairwise_cons.2 ⟨fun z hz=>?_,h⟩
   rcases List.mem_cons.1 hz with rfl | hz
   ·exact hy
   exact hnt z y x (h1 z hz) hy
  refine List.pairwise_cons.2 ⟨fun z hz=>?_,sv htr hnt hir h2⟩
  rcases List.mem_cons.1 (jF.mem_iff.1 hz) with rfl | hz
  ·exact asym y z hy
  exact h1 z hz
theorem oU (htr:∀ x y z,lt x y=true→lt y z=true→lt x z=true) (hnt:∀ x y z,lt x y=false→lt y z=false→lt x z=false) (hir:∀ x,lt x x=false):∀ (l:List α),(fi lt l).Pairwise (fun a b=>lt b a=false)
 | []=>List.Pairwise.nil
 | x::l=>sv htr hnt hir (oU htr hnt hir l)
theorem qI (ha:∀ x y,lt x y=false→lt y x=false→x=y):∀ {l m:List α},l.Pairwise (fun a b=>lt b a=false)→m.Pairwise (fun a b=>lt b a=false)→l.Perm m→l=m
 | [],m,_,_,hp=>(List.nil_perm.1 hp).symm
 | x::l,m,h1,h2,hp=>by
  obtain ⟨g1,g2⟩:=List.pairwise_cons.1 h1
  match m,h2,hp with
  | [],_,hp=>exact absurd (List.perm_nil.1 hp) (by simp)
  | y::m,h2,hp =>
   obtain ⟨k1,k2⟩:=List.pairwise_cons.1 h2
   have hxy:x=y:=by
    have hx:x∈y::m:=hp.mem_iff.1 (by simp)
    have hy:y∈x::l:=hp.mem_iff.2 (by simp)
    rcases List.mem_cons.1 hx with e | hx
    ·exact e
    rcases List.mem_cons.1 hy with e | hy
    ·exact e.symm
    exact ha x y (k1 x hx) (g1 y hy)
   subst hxy
   rw [qI ha g2 k2 ((List.perm_cons x).1 hp)]
end
theorem bo {α β:Type} {x:Option α} {f:α→Option β} {a:α} (h:x=some a):x.bind f=f a:=by rw [h];rfl
theorem bw {r:Int} (h1 : -9223372036854775808≤r) (h2:r≤9223372036854775807):IntKind.i64.wrap r=r:=oF ⟨h1,h2⟩
theorem u64s {r:Int} (h1:0≤r) (h2:r≤18446744073709551615):IntKind.u64.wrap r=r:=by simp [IntKind.wrap,IntKind.signed,IntKind.bits];omega
theorem gH {n:Nat} (h:n≤1267650600228229401496703205000):n<FUEL:=Nat.lt_of_le_of_lt h (by unfold FUEL;omega)
theorem bp {α:Type} {xs:List α} {k:Nat} (h:k<xs.length):idx xs (k:Int)=some xs[k]:=by
 unfold idx;rw [if_pos (by omega)];simp [h]
theorem de {α:Type} [Inhabited α] {x:Option α}:gd true x=x:=rfl
theorem kz {α:Type} [Inhabited α] {x:Option α}:gd false x=some default:=rfl
theorem oV {α:Type} {l:List α} {k:Nat} (h:0<k) (hk:k<l.length) (hl:l.length≤4611686018427387904):idx l (IntKind.i64.wrap ((k:Int) - 1))=some (l[k - 1]'(by omega)):=by
 rw [bw (by omega) (by omega),show (k:Int) - 1=((k - 1:Nat):Int) by omega]
 exact bp (by omega)
theorem gV {k:Nat} {n:Nat} (hk:k<n) (hn:n≤4611686018427387904):IntKind.i64.wrap ((k:Int)+1)=((k+1:Nat):Int):=by rw [bw (by omega) (by omega)];omega
theorem tp {k n:Nat} (h:k<n):decide ((k:Int)<(n:Int))=true:=by simp;omega
theorem kO (n:Nat):decide ((n:Int)<(n:Int))=false:=by simp
theorem p9 {α:Type} {by':Nat} {xs ys:List α} (h:(xs.length+ys.length)*by'≤140737488355328) (h2:xs.length+ys.length≤140737488355328):app by' xs ys=some (xs++ys):=by unfold app;rw [if_pos ⟨h,h2⟩]
theorem Cu {α:Type} {xs:List α} {a b:Nat} (h:a≤b) (h2:b≤xs.length):sub xs (a:Int) (b:Int)=some ((xs.take b).drop a):=by
 unfold sub;rw [if_pos (by omega)];simp
theorem zt {b:Int} (h:b≠0):nz b=some ():=by unfold nz;rw [if_neg h]
def gb {A B R:Type} (p:A⊕R) (g:A→B⊕R):B⊕R:=match p with | .inl a=>g a | .inr r=>.inr r
def run {α A R:Type} (f:Nat→α→A→A⊕R):List α→Nat→A→A⊕R
 | [],_,a=>.inl a
 | x::xs,k,a=>gb (f k x a) (fun a'=>run f xs (k+1) a')
theorem dK {α A R:Type} (f:Nat→α→A→A⊕R) (x:α) (xs:List α) (k:Nat) (a:A):run f (x::xs) k a=gb (f k x a) (run f xs (k+1)):=rfl
def outc {S T A R:Type} (g:A→S) (e:R→T):A⊕R→S⊕T
 | .inl a=>.inl (g a)
 | .inr r=>.inr (e r)
def tw {T A R:Type} (g:A→T) (e:R→T):A⊕R→T
 | .inl a=>g a
 | .inr r=>e r
theorem eC {S T α A R:Type} {l:List α} (hl:l.length≤4611686018427387904) {body:S→Option (S⊕T)} (pack:Int→A→S) (f:Nat→α→A→A⊕R) (fin:A→T) (exit:R→T) (P:Nat→A→Prop)
    (hstep:∀ (k:Nat) (hk:k<l.length) (a:A),P k a→body (pack (k:Int) a)=some (outc (pack ((k+1:Nat):Int)) exit (f k l[k] a))∧∀ a',f k l[k] a=.inl a'→P (k+1) a')
    (hend:∀ a,P l.length a→body (pack (l.length:Int) a)=some (.inr (fin a))) (a:A) (h0:P 0 a):aV body FUEL (pack 0 a)=some (tw fin exit (run f l 0 a))∧∀ a',run f l 0 a=.inl a'→P l.length a':=by
  have main:∀ (xs:List α) (k N:Nat) (a:A),l.drop k=xs→k≤l.length→P k a→xs.length<N→aV body N (pack (k:Int) a)=some (tw fin exit (run f xs k a))∧∀ a',run f xs k a=.inl a'→P l.length a':=by
    intro xs
    induction xs with
    | nil =>
      intro k N a hd hk hp hN
      have:k=l.length:=by
        have:=congrArg List.length hd;simp at this;omega
      subst this
      obtain ⟨N,rfl⟩:∃ M,N=M+1:=⟨N - 1,by omega⟩
      rw [fN,hend a hp]
      exact ⟨rfl,fun a' h=>by injection h with h;exact h ▸ hp⟩
    | cons x xs ih =>
      intro k N a hd hk hp hN
      have hk':k<l.length:=by
        have:=congrArg List.length hd;simp at this;omega
      have hx:l[k]=x∧l.drop (k+1)=xs:=by
        rw [List.drop_eq_getElem_cons hk'] at hd;injection hd with h1 h2;exact ⟨h1,h2⟩
      obtain ⟨N,rfl⟩:∃ M,N=M+1:=⟨N - 1,by omega⟩
      obtain ⟨e1,e2⟩:=hstep k hk' a hp
      rw [hx.1] at e1 e2
      rw [fN,e1]
      rw [dK]
      cases hf:f k x a with
      | inl a'=>exact ih (k+1) N a' hx.2 (by omega) (e2 a' hf) (by simp at hN;omega)
      | inr r=>exact ⟨rfl,fun a' h=>by change Sum.inr r=_ at h;cases h⟩
  exact main l 0 FUEL a rfl (by omega) h0 (gH (by omega))
theorem Cv {S T α A R β:Type} {l:List α} (hl:l.length≤4611686018427387904) {body:S→Option (S⊕T)} {k:T→Option β} (pack:Int→A→S) (f:Nat→α→A→A⊕R) (fin:A→T) (exit:R→T) (P:Nat→A→Prop) (a:A) (h0:P 0 a)
    (hstep:∀ (k:Nat) (hk:k<l.length) (a:A),P k a→body (pack (k:Int) a)=some (outc (pack ((k+1:Nat):Int)) exit (f k l[k] a))∧∀ a',f k l[k] a=.inl a'→P (k+1) a')
    (hend:∀ a,P l.length a→body (pack (l.length:Int) a)=some (.inr (fin a))):Option.bind (aV body FUEL (pack 0 a)) k=k (tw fin exit (run f l 0 a)):=bo (eC hl pack f fin exit P hstep hend a h0).1
def oW {α T:Type} (g:Nat→α→Option T):List α→Nat→Option T
 | [],_=>none
 | x::xs,k=>match g k x with | some t=>some t | none=>oW g xs (k+1)
def outg {T:Type} (k:Nat):Option T→Int⊕T
 | some t=>.inr t
 | none=>.inl ((k+1:Nat):Int)
theorem lG {T α β:Type} {l:List α} (hl:l.length≤4611686018427387904) {body:Int→Option (Int⊕T)} {k:T→Option β} (g:Nat→α→Option T) (e:T)
    (hstep:∀ (k:Nat) (hk:k<l.length),body (k:Int)=some (outg k (g k l[k]))) (hend:body (l.length:Int)=some (.inr e)):Option.bind (aV body FUEL 0) k=k ((oW g l 0).getD e):=by
  refine (Cv hl (fun i (_:Unit)=>i) (fun k x _=>match g k x with | some t=>.inr t | none=>.inl ()) (fun _=>e) (fun (t:T)=>t) (fun _ _=>True) () trivial (fun k hk a _=>⟨by
    rw [hstep k hk];cases g k l[k] <;> rfl,fun _ _=>trivial⟩) (fun a _=>hend)).trans ?_
  congr 1
  generalize 0=i
  induction l generalizing i with
  | nil=>rfl
  | cons x xs ih =>
    clear hstep hend
    have ih2:∀ j,tw (fun _=>e) (fun t=>t) (run (fun k x (_:Unit)=>match g k x with | some t=>Sum.inr t | none=>Sum.inl ()) xs j ())=(oW g xs j).getD e:=by
      clear ih hl
      induction xs with
      | nil=>intro j;rfl
      | cons y ys ih=>intro j;rw [dK,oW];cases g j y with | some t=>rfl | none=>exact ih (j+1)
    rw [dK,oW]
    cases g i x with
    | some t=>rfl
    | none=>exact ih2 (i+1)
theorem lH {α T:Type} (p:α→Bool) (t:T):∀ (l:List α) (k:Nat),oW (fun _ x=>cond (p x) none (some t)) l k=cond (l.all p) none (some t)
 | [],_=>rfl
 | x::xs,k=>by
  rw [oW,List.all_cons,lH p t xs]
  cases p x <;> rfl
theorem sw {α T:Type} (p:α→Bool) (f:α→T):∀ (l:List α) (k:Nat),oW (fun _ x=>cond (p x) (some (f x)) none) l k=(l.find? p).map f
 | [],_=>rfl
 | x::xs,k=>by
  rw [oW,List.find?_cons,sw p f xs]
  cases p x <;> rfl
theorem nA {S T α A β:Type} {l:List α} (hl:l.length≤4611686018427387904) {body:S→Option (S⊕T)} {k:T→Option β} (pack:Int→A→S) (f:A→α→A) (fin:A→T) (P:Nat→A→Prop) (a:A) (h0:P 0 a)
    (hstep:∀ (k:Nat) (hk:k<l.length) (a:A),P k a→body (pack (k:Int) a)=some (.inl (pack ((k+1:Nat):Int) (f a l[k])))∧P (k+1) (f a l[k]))
    (hend:∀ a,P l.length a→body (pack (l.length:Int) a)=some (.inr (fin a))):Option.bind (aV body FUEL (pack 0 a)) k=k (fin (l.foldl f a))∧P l.length (l.foldl f a):=by
  have e:=eC hl pack (fun _ x a=>(.inl (f a x):A⊕Empty)) fin (fun r=>nomatch r) P (fun k hk a hp=>⟨(hstep k hk a hp).1,fun a' h=>by injection h with h;exact h ▸ (hstep k hk a hp).2⟩) hend a h0
  have e2:∀ (xs:List α) (i:Nat) (b:A),run (fun _ x a=>(.inl (f a x):A⊕Empty)) xs i b=.inl (xs.foldl f b):=by
    intro xs
    induction xs with
    | nil=>intro i b;rfl
    | cons x xs ih=>intro i b;rw [dK,List.foldl_cons];exact ih _ _
  rw [e2] at e
  exact ⟨bo e.1,e.2 _ rfl⟩
theorem mr {α:Type} {l:List α} {k:Nat} (h:k<l.length) (d:α):l.getD k d=l[k]:=by simp [List.getD,h]
theorem u8tri (a b:UInt8):a<b∨a=b∨b<a:=by
 rcases Nat.lt_trichotomy a.toNat b.toNat with h | h | h
 ·exact .inl h
 ·exact .inr (.inl (UInt8.toNat_inj.1 h))
 exact .inr (.inr h)
theorem tX:∀ (x y:List UInt8),(Op.bytesLess x y||(x == y)) = !Op.bytesLess y x
 | [],[]=>by simp [Op.bytesLess]
 | _::_,[]=>by simp [Op.bytesLess]
 | [],_::_=>by simp [Op.bytesLess]
 | a::x,b::y=>by
  rw [Op.bytesLess,Op.bytesLess]
  have ih:=tX x y
  rcases u8tri a b with h | h | h
  ·have h1:¬ b<a:=fun h'=>by have:a.toNat<b.toNat:=h;have:b.toNat<a.toNat:=h';omega
   have h2:¬ b=a:=fun h'=>by subst h';have:b.toNat<b.toNat:=h;omega
   have h3:¬ a=b:=fun h'=>h2 h'.symm
   simp [h,h1,h2]
  ·subst h
   have h1:¬ a<a:=fun h'=>by have:a.toNat<a.toNat:=h';omega
   simp [h1] at ih ⊢
   rw [← ih]
  have h1:¬ a<b:=fun h'=>by have:a.toNat<b.toNat:=h';have:b.toNat<a.toNat:=h;omega
  have h3:¬ a=b:=fun h'=>by subst h';have:a.toNat<a.toNat:=h;omega
  simp [h,h1,h3]
theorem str_tot (x y:ByteArray):(Op.bytesLess x.toList y.toList||decide (x=y)) = !Op.bytesLess y.toList x.toList:=by
 rw [← uE];exact tX _ _
structure Zd where
 Kind:Int
 Measure:Int
 Quantity:Int
 Value:Int
 Amount:Int
 deriving Inhabited,DecidableEq
def Zd.enc (m:Zd):List PV:=[pI m.Kind,pI m.Measure,pI m.Quantity,pI m.Value,pI m.Amount]
def Zd.eqb (a b:Zd):Bool:=((a.Kind == b.Kind)&&((a.Measure == b.Measure)&&((a.Quantity == b.Quantity)&&((a.Value == b.Value)&&((a.Amount == b.Amount)&&true)))))
theorem Zd.eqb_iff {a b:Zd}:Zd.eqb a b=true↔a=b:=by cases a;cases b;simp [Zd.eqb]
structure Zq where
 Lines:(List Zd)
 Total:Int
 deriving Inhabited,DecidableEq
def Zq.enc (m:Zq):List PV:=[pL Zd.enc m.Lines,pI m.Total]
structure Zj where
 Code:ByteArray
 Origin:ByteArray
 Proof:Bool
 Company:Int
 Day:Int
 Quantity:Int
 Value:Int
 Granted:Int
 deriving Inhabited,DecidableEq
def Zj.enc (m:Zj):List PV:=[pS m.Code,pS m.Origin,pB m.Proof,pI m.Company,pI m.Day,pI m.Quantity,pI m.Value,pI m.Granted]
def Zj.eqb (a b:Zj):Bool:=((decide (a.Code=b.Code))&&((decide (a.Origin=b.Origin))&&((a.Proof == b.Proof)&&((a.Company == b.Company)&&((a.Day == b.Day)&&((a.Quantity == b.Quantity)&&((a.Value == b.Value)&&((a.Granted == b.Granted)&&true))))))))
theorem Zj.eqb_iff {a b:Zj}:Zj.eqb a b=true↔a=b:=by cases a;cases b;simp [Zj.eqb]
theorem Zj.eqok32:EqOk 32 [2,2,1,0,0,0,0,0]:=⟨by kernel_rfl,by kernel_rfl,by kernel_rfl,by kernel_rfl⟩
structure Za where
 From:Int
 Number:Int
 Day:Int
 Kind:Int
 Country:ByteArray
 Amount:Int
 Company:Int
 deriving Inhabited,DecidableEq
def Za.enc (m:Za):List PV:=[pI m.From,pI m.Number,pI m.Day,pI m.Kind,pS m.Country,pI m.Amount,pI m.Company]
def Za.eqb (a b:Za):Bool:=((a.From == b.From)&&((a.Number == b.Number)&&((a.Day == b.Day)&&((a.Kind == b.Kind)&&((decide (a.Country=b.Country))&&((a.Amount == b.Amount)&&((a.Company == b.Company)&&true)))))))
theorem Za.eqb_iff {a b:Za}:Za.eqb a b=true↔a=b:=by cases a;cases b;simp [Za.eqb]
theorem Za.eqok93:EqOk 93 [0,0,0,0,2,0,0]:=⟨by kernel_rfl,by kernel_rfl,by kernel_rfl,by kernel_rfl⟩
structure Zm where
 Source:Int
 Code:ByteArray
 Units:Int
 Facts:(List Za)
 deriving Inhabited,DecidableEq
def Zm.enc (m:Zm):List PV:=[pI m.Source,pS m.Code,pI m.Units,pL Za.enc m.Facts]
structure Zl where
 Rate:Int
 Amount:Int
 Per:Int
 HasMost:Bool
 Most:Int
 HasLeast:Bool
 Least:Int
 deriving Inhabited,DecidableEq
def Zl.enc (m:Zl):List PV:=[pI m.Rate,pI m.Amount,pI m.Per,pB m.HasMost,pI m.Most,pB m.HasLeast,pI m.Least]
def Zl.eqb (a b:Zl):Bool:=((a.Rate == b.Rate)&&((a.Amount == b.Amount)&&((a.Per == b.Per)&&((a.HasMost == b.HasMost)&&((a.Most == b.Most)&&((a.HasLeast == b.HasLeast)&&((a.Least == b.Least)&&true)))))))
theorem Zl.eqb_iff {a b:Zl}:Zl.eqb a b=true↔a=b:=by cases a;cases b;simp [Zl.eqb]
structure Zb where
 ID:Int
 Kind:Int
 Prefix:ByteArray
 Origins:(List ByteArray)
 Company:Int
 From:Int
 To:Int
 Registered:Int
 Duty:Zl
 deriving Inhabited,DecidableEq
def Zb.enc (m:Zb):List PV:=[pI m.ID,pI m.Kind,pS m.Prefix,pL eS m.Origins,pI m.Company,pI m.From,pI m.To,pI m.Registered,pI m.Duty.Rate,pI m.Duty.Amount,pI m.Duty.Per,pB m.Duty.HasMost,pI m.Duty.Most,pB m.Duty.HasLeast,pI m.Duty.Least]
structure Zh where
 Code:ByteArray
 Quantity:Int
 deriving Inhabited,DecidableEq
def Zh.enc (m:Zh):List PV:=[pS m.Code,pI m.Quantity]
def Zh.eqb (a b:Zh):Bool:=((decide (a.Code=b.Code))&&((a.Quantity == b.Quantity)&&true))
theorem Zh.eqb_iff {a b:Zh}:Zh.eqb a b=true↔a=b:=by cases a;cases b;simp [Zh.eqb]
structure Zo where
 ID:Int
 Inputs:(List Zh)
 Outputs:(List Zh)
 Scale:(List Int)
 deriving Inhabited,DecidableEq
def Zo.enc (m:Zo):List PV:=[pI m.ID,pL Zh.enc m.Inputs,pL Zh.enc m.Outputs,pL eI m.Scale]
structure Zs where
 Measures:(List Zb)
 Recipes:(List Zo)
 Holidays:(List Int)
 deriving Inhabited,DecidableEq
def Zs.enc (m:Zs):List PV:=[pL Zb.enc m.Measures,pL Zo.enc m.Recipes,pL eI m.Holidays]
structure Ze where
 L:(List Int)
 I:Int
 deriving Inhabited,DecidableEq
def Ze.enc (m:Ze):List PV:=[pL eI m.L,pI m.I]
structure Zp where
 kind:Int
 measure:Int
 deriving Inhabited,DecidableEq
def Zp.enc (m:Zp):List PV:=[pI m.kind,pI m.measure]
def Zp.eqb (a b:Zp):Bool:=((a.kind == b.kind)&&((a.measure == b.measure)&&true))
theorem Zp.eqb_iff {a b:Zp}:Zp.eqb a b=true↔a=b:=by cases a;cases b;simp [Zp.eqb]
structure Zg where
 Hi:Int
 Lo:Int
 deriving Inhabited,DecidableEq
def Zg.enc (m:Zg):List PV:=[pU m.Hi,pU m.Lo]
def Zg.eqb (a b:Zg):Bool:=((a.Hi == b.Hi)&&((a.Lo == b.Lo)&&true))
theorem Zg.eqb_iff {a b:Zg}:Zg.eqb a b=true↔a=b:=by cases a;cases b;simp [Zg.eqb]
structure Zf where
 quantity:Int
 value:Int
 kinds:(List Int)
 deriving Inhabited,DecidableEq
def Zf.enc (m:Zf):List PV:=[pI m.quantity,pI m.value,pL eI m.kinds]
structure Zr where
 Year:Int
 Month:Int
 Dom:Int
 deriving Inhabited,DecidableEq
def Zr.enc (m:Zr):List PV:=[pI m.Year,pI m.Month,pI m.Dom]
def Zr.eqb (a b:Zr):Bool:=((a.Year == b.Year)&&((a.Month == b.Month)&&((a.Dom == b.Dom)&&true)))
theorem Zr.eqb_iff {a b:Zr}:Zr.eqb a b=true↔a=b:=by cases a;cases b;simp [Zr.eqb]
structure Zc where
 index_:Int
 share:Int
 rest:Int
 deriving Inhabited,DecidableEq
def Zc.enc (m:Zc):List PV:=[pI m.index_,pU m.share,pU m.rest]
def Zc.eqb (a b:Zc):Bool:=((a.index_ == b.index_)&&((a.share == b.share)&&((a.rest == b.rest)&&true)))
theorem Zc.eqb_iff {a b:Zc}:Zc.eqb a b=true↔a=b:=by cases a;cases b;simp [Zc.eqb]
structure Zn where
 compare:Unit
 deriving Inhabited,DecidableEq
def Zn.enc (m:Zn):List PV:=[.fn 147 []]
structure Zi where
 Hi:Int
 Lo:Int
 deriving Inhabited,DecidableEq
def Zi.enc (m:Zi):List PV:=[pU m.Hi,pU m.Lo]
def Zi.eqb (a b:Zi):Bool:=((a.Hi == b.Hi)&&((a.Lo == b.Lo)&&true))
theorem Zi.eqb_iff {a b:Zi}:Zi.eqb a b=true↔a=b:=by cases a;cases b;simp [Zi.eqb]
theorem Zi.eqok205:EqOk 205 [0,0]:=⟨by kernel_rfl,by kernel_rfl,by kernel_rfl,by kernel_rfl⟩
def Zp.key (m:Zp):Value:=kP m.kind m.measure
abbrev dw (m:Zj):List PV:=[pS m.Code,pS m.Origin,pB m.Proof,pI m.Company,pI m.Day,pI m.Quantity,pI m.Value,pI m.Granted]
abbrev aF (m:Za):List PV:=[pI m.From,pI m.Number,pI m.Day,pI m.Kind,pS m.Country,pI m.Amount,pI m.Company]
abbrev bL (m:Zm):List PV:=[pI m.Source,pS m.Code,pI m.Units,pL Za.enc m.Facts]
abbrev nB (m:Zl):List PV:=[pI m.Rate,pI m.Amount,pI m.Per,pB m.HasMost,pI m.Most,pB m.HasLeast,pI m.Least]
abbrev ce (m:Zb):List PV:=[pI m.ID,pI m.Kind,pS m.Prefix,pL eS m.Origins,pI m.Company,pI m.From,pI m.To,pI m.Registered,pI m.Duty.Rate,pI m.Duty.Amount,pI m.Duty.Per,pB m.Duty.HasMost,pI m.Duty.Most,pB m.Duty.HasLeast,pI m.Duty.Least]

section
variable {o:Oper} {σ:PEnv} {ρ:List PRes} {f:Nat} {l:List Operand} {ts:Array Nat} {pargs caps:List PV} {x:Operand} {KV:PV→List PRes→Prop}
end
section
variable {o:Oper} {σ:PEnv} {ρ:List PRes} {x y:Operand} {t:Nat} {K:PV→List PRes→Prop} {α:Type} {enc:α→List PV} {xs:List α} {m m':α} {i:Int}
end
theorem oq_cap {o:Oper} {σ:Env} {ρ:List Res} {κ:Kr} {c:Bool} {x:Operand} {t n cp E:Nat} {a:Option Addr} (ho:o.op=.call { callee:=.builtin .cap,args:=#[x],argTypes:=#[t] }) (hu:eK t=some (.slice E)) (hx:Ev σ c x (.slice a n cp)):OpQ c o σ ρ κ (.int .i64 (cp:Int)):=fun hc w _=>by
 simp [execOp,ho,resolve,invoke,builtin,Builtin.cap_,hx hc,run_underlying (bI hu),goInt]
theorem AK {o:Oper} {x y:Operand} {t g len E by':Nat} {z:Value} {k:IntKind} {a m:Int} {tbl:List Int} {σ:PEnv} {ρ:List PRes} (ho:o.op=.indexAddr t x y) (hu:eK t=some (.array len E)) (hi:fj E=some (z,1,by')) (hx:be σ x=.v (.pointer (some ⟨g,0,none⟩))) (hy:be σ y=.v (.int k a))
    (hG:∀ κ,GOK κ→Sh κ g 0 (tbl.map (Value.int .i64))) (hl:tbl.length=len) (hm:idx tbl a=some m):POpQ true o σ ρ (.ref [pI m] 0):=fun κ σ' ρ' gk hs hrr=>by
  obtain ⟨h0,h1⟩:=iS hm
  obtain ⟨j,rfl⟩:∃ j:Nat,a=(j:Int):=⟨a.toNat,by omega⟩
  rw [Int.toNat_natCast] at h1
  have hlt:j<len:=by rw [← hl];exact (List.getElem?_eq_some_iff.1 h1).1
  have hS:Sh κ g (0+j*1) [.int .i64 m]:=⟨(hG κ gk).1,fun i u hu=>by
    cases i with
    | zero =>
      simp at hu;subst hu
      have:=(hG κ gk).2 j (.int .i64 m) (by rw [List.getElem?_map,h1];rfl)
      simpa using this
    | succ i=>simp at hu⟩
  refine ⟨.pointer (some ⟨g,0+j*1,none⟩),fun _=>?_,pT ho hu hi (.p (hs.v1 hx)) (.p (hs.v1 hy)) (fun _=>rfl) (fun _=>hlt)⟩
  exact Rp.ref (ds:=[.int .i64 m]) hS (fun u hu=>by rw [List.mem_singleton.1 hu];rfl) (.cons (.v rfl) .nil)
def jn:List Int:=[31,28,31,30,31,30,31,31,30,31,30,31]
def yo (t:Nat):List Nat→Bool
 | []=>false
 | x::l=>cond (Nat.beq t x) true (yo t l)
theorem sy {t:Nat}:∀ {l:List Nat},yo t l=true↔t∈l
 | []=>by simp [yo]
 | x::l=>by
  unfold yo
  cases h:Nat.beq t x with
  | true=>have:=Nat.eq_of_beq_eq_true h;simp [this]
  | false =>
   have:t≠x:=fun e=>by rw [e] at h;simp at h
   simp only [dn];rw [sy];simp [this]
def rs (ds:List Nat) (σ:PEnv):PEnv:=fun t=>cond (yo t ds) (σ t) .any
def qV (σ:PEnv) (L:Nat→Bool):Nat→List (Nat×PV)→PEnv
 | _,[]=>σ
 | k,(d,p)::l=>fun t=>cond (Nat.beq t d) (cond (L k) p .any) (qV σ L (k+1) l t)
theorem oX {σ:PEnv} {L:Nat→Bool}:∀ {l:List (Nat×PV)} {k:Nat},(∀ i,i<l.length→L (k+i)=true)→qV σ L k l=aM σ l
 | [],_,_=>rfl
 | (d,p)::l,k,h=>by
  funext t
  have h0:=h 0 (by simp)
  rw [Nat.add_zero] at h0
  have ih:=oX (σ:=σ) (L:=L) (l:=l) (k:=k+1) fun i hi=>by have:=h (i+1) (by simp;omega);rwa [show k+(i+1)=k+1+i by omega] at this
  simp only [qV,aM,eP,h0,cQ,ih]
theorem mt {σ:PEnv} {L:Nat→Bool} {t:Nat}:∀ {l:List (Nat×PV)} {k i:Nat} {p:PV},(l.map (·.1)).Nodup→l[i]?=some (t,p)→qV σ L k l t=cond (L (k+i)) p .any
 | [],_,_,_,_,h=>by simp at h
 | (d,q)::l,k,0,p,_,h=>by
  simp only [List.getElem?_cons_zero,dO,Prod.mk.injEq] at h
  obtain ⟨rfl,rfl⟩:=h
  simp [qV]
 | (d,q)::l,k,i+1,p,hn,h=>by
  rw [List.getElem?_cons_succ] at h
  have hn2:=List.nodup_cons.1 hn
  have hne:Nat.beq t d=false:=by
   rw [Bool.eq_false_iff];intro e
   have e:=Nat.eq_of_beq_eq_true e
   subst e
   exact hn2.1 (List.mem_map.2 ⟨_,List.mem_of_getElem? h,rfl⟩)
  simp only [qV,hne,dn]
  rw [mt hn2.2 h,show k+1+i=k+(i+1) by omega]
theorem lI {σ:PEnv} {L:Nat→Bool} {t:Nat}:∀ {l:List (Nat×PV)} {k:Nat},(∀ x∈l,x.1≠t)→qV σ L k l t=σ t
 | [],_,_=>rfl
 | (d,p)::l,k,h=>by
  have hne:Nat.beq t d=false:=by
   rw [Bool.eq_false_iff];intro e
   exact h (d,p) (by simp) (Nat.eq_of_beq_eq_true e).symm
  simp only [qV,hne,dn]
  exact lI fun x hx=>h x (by simp [hx])
inductive Flow (σ:PEnv) (ρ:List PRes):List Oper→List (List Nat)→List (Nat×PV)→Prop
 | nil:Flow σ ρ [] [] []
 | cons {o:Oper} {l:List Oper} {ds:List Nat} {D:List (List Nat)} {d:Nat} {p:PV} {dp:List (Nat×PV)} (h:POpL o (rs ds σ) ρ fun pv ρ'=>pv=p∧ρ'=ρ) (hs:Flow σ ρ l D dp):Flow σ ρ (o::l) (ds::D) ((d,p)::dp)
section
variable {σ:PEnv} {ρ:List PRes} {o:Oper} {l:List Oper} {ds:List Nat} {D:List (List Nat)} {d:Nat} {p:PV} {dp:List (Nat×PV)}
theorem co (ds:List Nat) (h:POpQ true o (rs ds σ) ρ p) (hs:Flow σ ρ l D dp):Flow σ ρ (o::l) (ds::D) ((d,p)::dp):=.cons (eU h ⟨rfl,rfl⟩) hs
theorem lq (ds:List Nat) (h:POpL o (rs ds σ) ρ fun pv ρ'=>pv=p∧ρ'=ρ) (hs:Flow σ ρ l D dp):Flow σ ρ (o::l) (ds::D) ((d,p)::dp):=.cons h hs
theorem Flow.get:∀ {l:List Oper} {D:List (List Nat)} {dp:List (Nat×PV)} {i:Nat} {o:Oper},Flow σ ρ l D dp→l[i]?=some o→∃ ds d p,D[i]?=some ds∧dp[i]?=some (d,p)∧POpL o (rs ds σ) ρ fun pv ρ'=>pv=p∧ρ'=ρ
 | _,_,_,0,_,.cons h _,e=>by simp only [List.getElem?_cons_zero,dO] at e;subst e;exact ⟨_,_,_,rfl,rfl,h⟩
 | _,_,_,i+1,_,.cons _ hs,e=>by simp only [List.getElem?_cons_succ] at e ⊢;exact hs.get e
theorem Flow.len:∀ {l:List Oper} {D:List (List Nat)} {dp:List (Nat×PV)},Flow σ ρ l D dp→D.length=l.length∧dp.length=l.length
 | _,_,_,.nil=>⟨rfl,rfl⟩
 | _,_,_,.cons _ hs=>⟨by simp [hs.len.1],by simp [hs.len.2]⟩
end
def sA (o:Oper) (j:Nat):Bool:=o.after.any fun e=>Region.binds .any e&&Nat.beq e.on j
def tY (o:Oper) (t:Nat):Nat→List (Nat×PV)→Bool
 | _,[]=>true
 | j,(d,_)::r=>(!Nat.beq t d||sA o j)&&tY o t (j+1) r
theorem sB {o:Oper} {t:Nat}:∀ {dp:List (Nat×PV)} {j k:Nat} {p:PV},tY o t j dp=true→dp[k]?=some (t,p)→sA o (j+k)=true
 | [],_,_,_,_,h=>by simp at h
 | (d,q)::r,j,0,p,h,e=>by
  simp only [List.getElem?_cons_zero,dO,Prod.mk.injEq] at e
  obtain ⟨rfl,rfl⟩:=e
  simp only [tY,Bool.and_eq_true,Bool.or_eq_true] at h
  simpa using h.1
 | (d,q)::r,j,k+1,p,h,e=>by
  simp only [List.getElem?_cons_succ] at e
  simp only [tY,Bool.and_eq_true] at h
  have:=sB h.2 e
  rwa [show j+1+k=j+(k+1) by omega] at this
def rq (n:Nat) (dp:List (Nat×PV)):Nat→List Oper→List (List Nat)→List (Nat×PV)→Bool
 | _,[],[],[]=>true
 | i,o::l,ds::D,(d,_)::r=>o.guard.isNone&&(match o.dst with | some d'=>Nat.beq d' d | none=>false)&&Nat.blt d n&&ds.all (fun t=>tY o t 0 dp)&&o.after.all (fun e=>Nat.blt e.on i)&&rq n dp (i+1) l D r
 | _,_,_,_=>false
theorem oY {n:Nat} {dp:List (Nat×PV)} {d:Nat} {p:PV} {o:Oper} {ds:List Nat}:∀ (l:List Oper) (D:List (List Nat)) (r:List (Nat×PV)) (i k:Nat),rq n dp i l D r=true→l[k]?=some o→D[k]?=some ds→r[k]?=some (d,p)→o.guard=none∧o.dst=some d∧Nat.blt d n=true∧(∀ t∈ds,tY o t 0 dp=true)∧∀ e∈o.after,e.on<i+k:=by
 intro l
 induction l with
 | nil=>intro D r i k _ h;simp at h
 | cons o' l ih =>
  intro D r i k h e1 e2 e3
  cases D with
  | nil=>simp at e2
  | cons ds' D =>
   cases r with
   | nil=>simp at e3
   | cons x r =>
    obtain ⟨d',p'⟩:=x
    simp only [rq,Bool.and_eq_true] at h
    obtain ⟨⟨⟨⟨⟨h1,h2⟩,h3⟩,h4⟩,h5⟩,h6⟩:=h
    cases k with
    | succ k =>
     rw [List.getElem?_cons_succ] at e1 e2 e3
     have:=ih D r (i+1) k h6 e1 e2 e3
     rwa [show i+1+k=i+(k+1) by omega] at this
    | zero =>
     rw [List.getElem?_cons_zero] at e1 e2 e3
     have e1:=Option.some.inj e1
     have e2:=Option.some.inj e2
     have e3:=Option.some.inj e3
     injection e3 with e3 e4
     subst e1 e2 e3 e4
     refine ⟨by simpa using h1,?_,h3,fun t ht=>List.all_eq_true.1 h4 t ht,fun e he=>?_⟩
     ·cases hd:o'.dst with
      | none=>rw [hd] at h2;cases h2
      | some q=>rw [hd] at h2;rw [Nat.eq_of_beq_eq_true h2]
     have:=Array.all_eq_true'.1 h5 e he
     simp [Nat.blt] at this;omega
def vn:List Nat→Bool
 | []=>true
 | x::l => !yo x l&&vn l
theorem qJ:∀ {l:List Nat},vn l=true→l.Nodup
 | [],_=>List.nodup_nil
 | x::l,h=>by
  simp only [vn,Bool.and_eq_true] at h
  exact List.nodup_cons.2 ⟨fun hm=>by rw [sy.2 hm] at h;simp at h,qJ h.2⟩
def sC (L:Array Bool):Nat:=(L.toList.filter fun b => !b).length
theorem Cw:∀ (l:List Bool) (i:Nat),l[i]?=some false→((l.set i true).filter fun b => !b).length+1=(l.filter fun b => !b).length
 | [],_,h=>by simp at h
 | b::l,0,h=>by
  simp only [List.getElem?_cons_zero,dO] at h
  subst h;simp
 | b::l,i+1,h=>by
  simp only [List.getElem?_cons_succ] at h
  have:=Cw l i h
  rw [List.set_cons_succ,List.filter_cons,List.filter_cons]
  split
  ·simp only [List.length_cons];omega
  exact this
theorem sD {L:Array Bool} {i:Nat} (h:L.getD i true=false):sC (L.setIfInBounds i true)+1=sC L:=by
 unfold sC
 rw [Array.toList_setIfInBounds]
 refine Cw _ _ ?_
 rw [Array.getElem?_toList]
 rw [Array.getD_eq_getD_getElem?] at h
 cases e:L[i]? with
 | none=>rw [e] at h;simp at h
 | some b=>rw [e] at h;simp at h;rw [h]
theorem Cx {n id:Nat} {l:List Oper} {K:Exit→PPost} {σ:PEnv} {ρ:List PRes} {D:List (List Nat)} (dp:List (Nat×PV)) (hok:(rq n dp 0 l D dp&&vn (dp.map (·.1)))=true) (hf:Flow (aM σ dp) ρ l D dp) (hk:K .normal (aM σ dp) ρ):PWC n (.region id l.toArray true) K σ ρ:=fun β κ0 σ0 ρ0 g0 hs0 hr0 hi0 df a0 hrel0 Q hQ=>by
 rw [Bool.and_eq_true] at hok
 obtain ⟨hok,hnd⟩:=hok
 have hnd:=qJ hnd
 obtain ⟨hlD,hlp⟩:=hf.len
 have key:∀ (m:Nat) (L:Array Bool) (a:Act) (σ':Env) (ρ':List Res) (κ:Kr),L.size=l.length→sC L≤m→Rel df n a σ'→Sim κ (qV σ (fun i=>L.getD i false) 0 dp) σ'→RRels κ ρ ρ'→Zk β ρ' κ→GOK κ→Kle κ0 κ→wpAny Tryz.prog .any l.toArray (NP fun a w=>Q .normal a w) m L a κ.w:=by
  have fin:∀ (L:Array Bool) (a:Act) (σ':Env) (ρ':List Res) (κ:Kr),L.size=l.length→Rel df n a σ'→Sim κ (qV σ (fun i=>L.getD i false) 0 dp) σ'→RRels κ ρ ρ'→Zk β ρ' κ→Kle κ0 κ→Region.ready .any l.toArray L=[]→Q .normal a κ.w:=fun L a σ' ρ' κ hL hrel hsim hrr hi hk0 hre=>by
   have hall:∀ i,i<l.length→L.getD i false=true:=by
    intro i
    induction i using Nat.strongRecOn with
    | _ i ih =>
     intro hi2
     cases hLi:L.getD i false with
     | true=>rfl
     | false =>
      exfalso
      have ho:l[i]?=some l[i]:=List.getElem?_eq_getElem hi2
      obtain ⟨ds,d,p,e1,e2,_⟩:=hf.get ho
      have sp:=oY l D dp 0 i hok ho e1 e2
      have hm:i∈Region.ready .any l.toArray L:=by
       rw [mem_ready]
       refine ⟨by simpa [Array.getD,hL,hi2] using hLi,l[i],by simp,fun e he _=>ih e.on (by have:=sp.2.2.2.2 e he;omega) (by have:=sp.2.2.2.2 e he;omega)⟩
      rw [hre] at hm;cases hm
   rw [oX (fun i hi2=>by rw [Nat.zero_add];exact hall i (by omega))] at hsim
   exact hQ .normal a σ' ρ' κ hrel hi hk0 ⟨_,_,hsim,hrr,hk⟩
  intro m
  induction m with
  | zero =>
   intro L a σ' ρ' κ hL hc hrel hsim hrr hi hg hk0
   have hre:Region.ready .any l.toArray L=[]:=by
    cases hr2:Region.ready .any l.toArray L with
    | nil=>rfl
    | cons i r =>
     have hm:i∈Region.ready .any l.toArray L:=by rw [hr2];simp
     have:=sD (mem_ready.1 hm).1
     omega
   exact ⟨hre,rfl,fin L a σ' ρ' κ hL hrel hsim hrr hi hk0 hre⟩
  | succ m ih =>
   intro L a σ' ρ' κ hL hc hrel hsim hrr hi hg hk0
   refine ⟨fun hre=>⟨rfl,fin L a σ' ρ' κ hL hrel hsim hrr hi hk0 hre⟩,fun i hm=>?_⟩
   obtain ⟨hLi,o,ho,hafter⟩:=mem_ready.1 hm
   have ho':l[i]?=some o:=by simpa using ho
   have hil:i<l.length:=(List.getElem?_eq_some_iff.1 ho').1
   obtain ⟨ds,d,p,e1,e2,hop⟩:=hf.get ho'
   obtain ⟨s1,s2,s3,s4,s5⟩:=oY l D dp 0 i hok ho' e1 e2
   have hsim2:Sim κ (rs ds (aM σ dp)) σ':=fun t=>by
    unfold rs
    cases ht:yo t ds with
    | false=>exact .any
    | true =>
     simp only [cQ]
     have hst:=hsim t
     by_cases hex:∃ x∈dp,x.1=t
     ·obtain ⟨⟨t',q⟩,hx,rfl⟩:=hex
      obtain ⟨k,hk2,hke⟩:=List.getElem_of_mem hx
      have hkk:dp[k]?=some (t',q):=by rw [List.getElem?_eq_getElem hk2,hke]
      have hw:=sB (s4 t' (sy.1 ht)) hkk
      rw [Nat.zero_add] at hw
      unfold sA at hw
      obtain ⟨e,he1,he2⟩:=Array.any_eq_true'.1 hw
      rw [Bool.and_eq_true] at he2
      have hLk:=hafter e he1 he2.1
      rw [Nat.eq_of_beq_eq_true he2.2] at hLk
      rw [mt hnd hkk,Nat.zero_add,hLk,cQ] at hst
      have e3:=mt (σ:=σ) (L:=fun _=>true) (k:=0) hnd hkk
      rw [oX (fun _ _=>rfl),cQ] at e3
      rw [e3];exact hst
     have hno:∀ x∈dp,x.1≠t:=fun x hx e=>hex ⟨x,hx,e⟩
     rw [lI hno] at hst
     have e3:=lI (σ:=σ) (L:=fun _=>true) (k:=0) hno
     rw [oX (fun _ _=>rfl)] at e3
     rw [e3];exact hst
   unfold wpOp
   rw [ho]
   simp only
   have hwant:Region.wanted o (yielded l.toArray a.tmps)=true:=by simp [Region.wanted,s1]
   rw [if_pos hwant]
   refine .inl (ji hrel.eval (hop κ σ' ρ' hg hsim2 hrr β hi (fun v w=>wpAny Tryz.prog .any l.toArray (NP fun a w=>Q .normal a w) m (L.setIfInBounds i true) (a.put o.dst v) w) fun v ρ2 κ2 hi2 hk2 ⟨pv,ρp,hv,hr2,hpv,hρp⟩=>?_) fun _ _ h=>h)
   subst hpv hρp
   refine ih (L.setIfInBounds i true) _ (lU σ' o.dst v) ρ2 κ2 (by simpa using hL) (by have:=sD hLi;omega) (hrel.put (ex s2 s3) v) ?_ hr2 hi2 (hg.mono hk2) (hk0.trans hk2)
   intro t
   rw [dL s2]
   unfold upd
   cases htd:Nat.beq t d with
   | true =>
    have:=Nat.eq_of_beq_eq_true htd
    subst this
    rw [mt hnd e2,Nat.zero_add]
    have:(L.setIfInBounds i true).getD i false=true:=by simp [Array.getD,hL,hil]
    rw [this];exact hv
   | false =>
    have hst:=(hsim t).mono hk2
    simp only [dn]
    have:qV σ (fun j=>(L.setIfInBounds i true).getD j false) 0 dp t=qV σ (fun j=>L.getD j false) 0 dp t:=by
     by_cases hex:∃ x∈dp,x.1=t
     ·obtain ⟨⟨t',q⟩,hx,rfl⟩:=hex
      obtain ⟨k,hk3,hke⟩:=List.getElem_of_mem hx
      have hkk:dp[k]?=some (t',q):=by rw [List.getElem?_eq_getElem hk3,hke]
      rw [mt hnd hkk,mt hnd hkk]
      have hki:k≠i:=fun e=>by
       subst e
       rw [hkk] at e2
       simp only [dO,Prod.mk.injEq] at e2
       rw [e2.1] at htd;simp at htd
      have:(L.setIfInBounds i true).getD (0+k) false=L.getD (0+k) false:=by
       rw [Nat.zero_add]
       simp only [Array.getD_eq_getD_getElem?]
       rw [Array.getElem?_setIfInBounds_ne (Ne.symm hki)]
      rw [this]
     have hno:∀ x∈dp,x.1≠t:=fun x hx e=>hex ⟨x,hx,e⟩
     rw [lI hno,lI hno]
    rw [this];exact hst
 have hk1:Kle κ0 ⟨{ κ0.w with drawn:=κ0.w.drawn+1 },κ0.S⟩:=⟨Nat.le_refl _,fun _ h=>h,fun _ _=>rfl⟩
 have hend:=key l.length (Array.replicate l.length false) a0 σ0 ρ0 ⟨{ κ0.w with drawn:=κ0.w.drawn+1 },κ0.S⟩ (by simp) (by unfold sC;exact Nat.le_trans (List.length_filter_le _ _) (by simp)) hrel0 (fun t=>by
  by_cases hex:∃ x∈dp,x.1=t
  ·obtain ⟨⟨t',q⟩,hx,rfl⟩:=hex
   obtain ⟨k,hk2,hke⟩:=List.getElem_of_mem hx
   have hkk:dp[k]?=some (t',q):=by rw [List.getElem?_eq_getElem hk2,hke]
   rw [mt hnd hkk]
   have:(Array.replicate l.length false).getD (0+k) false=false:=by simp [Array.getD]
   rw [this];exact .any
  have hno:∀ x∈dp,x.1≠t:=fun x hx e=>hex ⟨x,hx,e⟩
  rw [lI hno];exact (hs0 t).mono hk1) (hr0.mono hk1) hi0.drew (g0.mono hk1) hk1
 exact oD (kq mixed (by simpa using hend)) fun e a w h=>by rw [h.1];exact h.2
end SX
namespace SX
open Go
attribute [local irreducible] PWL PWC PWD POpL POpQ PEv PGuardIs PSub PPick PUpd PSplice PFill PLit PF PFV PCall FOk fX fp lA mR jP jS Cov PHolds aV idx app mk gd lb nz nH Bi sub mn ec qG tu eR cw eT dt IntKind.wrap Int.tmod Int.tdiv Op.bytesLess strOfNums
theorem aU {n:Nat} {l:List Oper} {KC:Exit→PPost} {σ:PEnv} {ρ:List PRes} {id:Nat} (D:List Nat) (h:mW n l.toArray ρ l [] [] σ [] D=lp n l.toArray ρ l [] [] σ []) (hw:KC .normal (lF σ D []) ρ):PWC n (.region id l.toArray false) KC σ ρ:=aw [] D [] bZ h hw
theorem aY {n:Nat} {l:List Oper} {KC:Exit→PPost} {σ:PEnv} {ρ:List PRes} {id:Nat} (H D:List Nat) (X:List (Nat×PV)) (h:mW n l.toArray ρ l H [] σ (X.map (·.1)) D=lp n l.toArray ρ l H [] σ (X.map (·.2))) (hw:KC .normal (lF σ D X) ρ):PWC n (.region id l.toArray false) KC σ ρ:=aw H D X bZ h hw
theorem ai {n:Nat} {l:List Oper} {KC:Exit→PPost} {σ:PEnv} {ρ:List PRes} {id:Nat} (X:List (Nat×PV)) (h:mW n l.toArray ρ l [] [] σ (X.map (·.1)) []=lp n l.toArray ρ l [] [] σ (X.map (·.2))) (hw:KC .normal (lF σ [] X) ρ):PWC n (.region id l.toArray false) KC σ ρ:=aw [] [] X bZ h hw
theorem ah {n:Nat} {l:List Oper} {KC:Exit→PPost} {σ:PEnv} {ρ:List PRes} {id:Nat} (D:List Nat) (X:List (Nat×PV)) (h:mW n l.toArray ρ l [] [] σ (X.map (·.1)) D=lp n l.toArray ρ l [] [] σ (X.map (·.2))) (hw:KC .normal (lF σ D X) ρ):PWC n (.region id l.toArray false) KC σ ρ:=aw [] D X bZ h hw
theorem wS {n:Nat} {ops:Array Oper} {l:List (Nat×Oper)} {K:PPost} {σ:PEnv} {ρd ρs:List PRes} (k:Nat) (H D:List Nat) (X:List (Nat×PV)) (h:wR n ops ρs (l.take k) H [] σ (X.map (·.1)) D=lp n ops ρs ((l.take k).map (·.2)) H [] σ (X.map (·.2))) (hw:PWD n ops K (l.drop k) (lF σ D X) ρd ρs):PWD n ops K l σ ρd ρs:=dJ k H D X bZ h hw
theorem oZ {n:Nat} {ops:Array Oper} {l:List (Nat×Oper)} {K:PPost} {σ:PEnv} {ρd ρs:List PRes} (k:Nat) (X:List (Nat×PV)) (h:wR n ops ρs (l.take k) [] [] σ (X.map (·.1)) []=lp n ops ρs ((l.take k).map (·.2)) [] [] σ (X.map (·.2))) (hw:PWD n ops K (l.drop k) (lF σ [] X) ρd ρs):PWD n ops K l σ ρd ρs:=dJ k [] [] X bZ h hw
theorem wT {n:Nat} {ops:Array Oper} {l:List (Nat×Oper)} {K:PPost} {σ:PEnv} {ρd ρs:List PRes} (k:Nat) (D:List Nat) (X:List (Nat×PV)) (h:wR n ops ρs (l.take k) [] [] σ (X.map (·.1)) D=lp n ops ρs ((l.take k).map (·.2)) [] [] σ (X.map (·.2))) (hw:PWD n ops K (l.drop k) (lF σ D X) ρd ρs):PWD n ops K l σ ρd ρs:=dJ k [] D X bZ h hw
theorem bY {n:Nat} {ops:Array Oper} {l:List Oper} {K:PPost} {σ:PEnv} {ρ:List PRes} (D:List Nat) (h:mW n ops ρ l [] [] σ [] D=lp n ops ρ l [] [] σ []) (hw:K (lF σ D []) ρ):PWL n ops l K σ ρ:=jY [] D [] bZ h hw
theorem aD {n:Nat} {ops:Array Oper} {l:List Oper} {K:PPost} {σ:PEnv} {ρ:List PRes} (X:List (Nat×PV)) (h:mW n ops ρ l [] [] σ (X.map (·.1)) []=lp n ops ρ l [] [] σ (X.map (·.2))) (hw:K (lF σ [] X) ρ):PWL n ops l K σ ρ:=jY [] [] X bZ h hw
theorem lJ {n:Nat} {ops:Array Oper} {l:List Oper} {K:PPost} {σ:PEnv} {ρ:List PRes} (D:List Nat) (X:List (Nat×PV)) (h:mW n ops ρ l [] [] σ (X.map (·.1)) D=lp n ops ρ l [] [] σ (X.map (·.2))) (hw:K (lF σ D X) ρ):PWL n ops l K σ ρ:=jY [] D X bZ h hw
theorem hZ {n:Nat} {ops:Array Oper} {l:List Oper} {K:PPost} {σ:PEnv} {ρ:List PRes} (k:Nat) (H:List Nat) (X:List (Nat×PV)) (h:mW n ops ρ (l.take k) H [] σ (X.map (·.1)) []=lp n ops ρ (l.take k) H [] σ (X.map (·.2))) (hw:PWL n ops (l.drop k) K (lF σ [] X) ρ):PWL n ops l K σ ρ:=bC k H [] X bZ h hw
theorem cH {n:Nat} {ops:Array Oper} {l:List Oper} {K:PPost} {σ:PEnv} {ρ:List PRes} (k:Nat) (H D:List Nat) (X:List (Nat×PV)) (h:mW n ops ρ (l.take k) H [] σ (X.map (·.1)) D=lp n ops ρ (l.take k) H [] σ (X.map (·.2))) (hw:PWL n ops (l.drop k) K (lF σ D X) ρ):PWL n ops l K σ ρ:=bC k H D X bZ h hw
theorem aq {n:Nat} {ops:Array Oper} {l:List Oper} {K:PPost} {σ:PEnv} {ρ:List PRes} (k:Nat) (X:List (Nat×PV)) (h:mW n ops ρ (l.take k) [] [] σ (X.map (·.1)) []=lp n ops ρ (l.take k) [] [] σ (X.map (·.2))) (hw:PWL n ops (l.drop k) K (lF σ [] X) ρ):PWL n ops l K σ ρ:=bC k [] [] X bZ h hw
theorem bQ {n:Nat} {ops:Array Oper} {l:List Oper} {K:PPost} {σ:PEnv} {ρ:List PRes} (k:Nat) (D:List Nat) (X:List (Nat×PV)) (h:mW n ops ρ (l.take k) [] [] σ (X.map (·.1)) D=lp n ops ρ (l.take k) [] [] σ (X.map (·.2))) (hw:PWL n ops (l.drop k) K (lF σ D X) ρ):PWL n ops l K σ ρ:=bC k [] D X bZ h hw
theorem ak {n:Nat} {ops:Array Oper} {o:Oper} {rest:List Oper} {K:PPost} {σ:PEnv} {ρ:List PRes} {d:Nat} (hg:(o.guard,o.dst,Nat.blt d n)=(none,some d,true)) (h:POpL o σ ρ fun p ρ'=>PWL n ops rest K (eP σ d p) ρ'):PWL n ops (o::rest) K σ ρ:=rX (Prod.mk.inj hg).1 (Prod.mk.inj (Prod.mk.inj hg).2).1 (Prod.mk.inj (Prod.mk.inj hg).2).2 h
theorem zz {α:Type} {t:Nat} {enc:α→PV} {σ:PEnv} {ρ:List PRes} {v:α} (r:α) (h:some v=some r) (e:σ t=enc v):jS [.tmp t] (fun pv ρ'=>pv=enc r∧ρ'=[]) .ret σ ρ:=by cases h;exact aG (fL (aI e)) cM ⟨rfl,rfl⟩
theorem cL {x y1:Code} {K1:Exit→PPost} {ρ1:List PRes} {n1:Nat} {σ1:PEnv} (h1:PWC n1 x (fX n1 y1 K1) σ1 ρ1):fX n1 (.seq x y1) K1 .normal σ1 ρ1:=ar (af h1)
theorem ej {K1:Exit→PPost} {ρ1:List PRes} {n1:Nat} {σ1:PEnv} (h1:K1 .ret σ1 ρ1):fX n1 .ret K1 .normal σ1 ρ1:=ar (cC h1)
theorem dQ {y1 x1 y:Code} {K1:Exit→PPost} {ρ:List PRes} {n:Nat} {σ:PEnv} (h:PWC n x1 (fX n y (fX n y1 K1)) σ ρ):fX n (.seq (.seq x1 y) y1) K1 .normal σ ρ:=cL (af h)
theorem cY {p:Bool} {x y1:Code} {K1:Exit→PPost} {ρ1:List PRes} {n1:Nat} {c:Operand} {σ1:PEnv} {α:Type} {a b r:α} (hc:be σ1 c=.v (.bool p)) (h1:cond p a b=r) (ht:p=true→a=r→PWC n1 x K1 σ1 ρ1) (hf:p=false→b=r→PWC n1 y1 K1 σ1 ρ1):fX n1 (.cond c x y1) K1 .normal σ1 ρ1:=ar (lE hc h1 ht hf)
theorem ip {y:Code} {K:Exit→PPost} {ρ:List PRes} {n1 n:Nat} {σ:PEnv} (h:K .ret σ ρ):fX n1 .ret (fX n y K) .normal σ ρ:=ej (aK h)
theorem fk {x y1:Code} {K1:Exit→PPost} {ρ1:List PRes} {n1:Nat} {σ1:PEnv} {α β:Type} {x1:Option α} {f:α→Option β} {r:β} (h:x1.bind f=some r) (k:∀ a,x1=some a→f a=some r→(PWC n1 x (fX n1 y1 K1) σ1 ρ1)):fX n1 (.seq x y1) K1 .normal σ1 ρ1:=cL (aa h k)
theorem fy {x y:Code} {fn:Func} {ρ:List PRes} {pargs:List PV} {rs:List ResultVar} {f n1:Nat} {R:PV→List PRes→Prop} (hf:Tryz.prog.funcs[f]?=some fn) (hb:fn.body=some (.seq x y)) (hn:fn.ntmps=n1) (hres:fn.results=rs.toArray) (hsz:Nat.ble pargs.length n1=true) (h1:PWC n1 x (fX n1 y (jS rs R)) (rW pargs) ρ):PCall f pargs ρ R:=jy hf hb hn hres hsz (af h1)
def kA (p0:(List Int)) (p1:Int):Option (List Int):=cond (decide (p1<(p0.length:Int))) ((sub p0 0 p1).bind fun l2=>some l2) (some p0)
theorem qK {p0:(List Int)} {p1:Int} {r:(List Int)}  (h:kA p0 p1=some r):PF 31 [pL eI p0,pI p1] (pL eI r):=by
 unfold kA at h
 refine bm ?_
 refine fy Tryz.func31 rfl Tryz.ntmps31 Tryz.results31 rfl (aU [4] (by kernel_rfl) (dQ (ah [5,6,7] [(8,pB (decide (p1<(p0.length:Int))))] (by kernel_rfl) (cY rfl h (fun hc1 h=>?_) fun hc1 h=>?_))))
 ·refine af ?_
  refine aa h fun l2 hl2 h=>aw [] [9,10,11] [(4,pL eI l2)] (fosl 2 eI 1 (fun _=>rfl) hl2 bZ) (by kernel_rfl) (ip ?_)
  exact zz r h rfl
 refine ag ?_
 refine cL (ah [12] [(4,pL eI p0)] (by kernel_rfl) (ej ?_))
 exact zz r h rfl
def iy (p0:Int) (p1:Int):Option Int:=(nz p1).bind fun u1=>(nz p1).bind fun u2=>lb ((Int.tmod (IntKind.i64.wrap ((Int.tmod p0 p1)+p1)) p1)) (fun w3=>some w3)
theorem mX {p0:Int} {p1:Int} {r:Int}  (h:iy p0 p1=some r):PF 14 [pI p0,pI p1] (pI r):=by
 unfold iy at h
 refine bm ?_
 refine fy Tryz.func14 rfl Tryz.ntmps14 Tryz.results14 rfl (aU [4] (by kernel_rfl) (fk h fun u1 hu1 h=>aa h fun u2 hu2 h=>?_))
 refine dV h ?_;clear h;intro w3 hw3 h
 refine ae (bC 7 [] (rg 5 6) [(11,pI (Int.tmod (IntKind.i64.wrap ((Int.tmod p0 p1)+p1)) p1))] (yi 2 hu1 (yi 6 hu2 bZ)) (by kernel_rfl) (cd rfl rfl rfl (bc rfl (.p (congrArg (fun z=>PV.v (Value.int .i64 z)) hw3))) (ap (ej ?_))))
 exact zz r h rfl
def an (p0:Ze) (p1:Int):Option (Int×Ze):=cond (decide ((p0.L.length:Int)≤p0.I)) (some ((0:Int),p0)) ((idx p0.L (IntKind.i64.wrap ((IntKind.i64.wrap (p0.I+1)) - 1))).bind fun m2=>(iy m2 p1).bind fun x3=>some (x3,(⟨p0.L,(IntKind.i64.wrap (p0.I+1))⟩:Ze)))
theorem am {p0:Ze} {p1:Int} {b0:Nat} {r:(Int×Ze)}  (h:an p0 p1=some r):PCall 32 [pP b0 0,pI p1] [PRes.b b0 75 [pL eI p0.L,pI p0.I]] (fun pv ρ'=>pv=pI r.1∧ρ'=[PRes.b b0 75 [pL eI r.2.L,pI r.2.I]]):=by
 unfold an at h
 refine fy Tryz.func32 rfl Tryz.ntmps32 Tryz.results32 rfl (aU [4] (by kernel_rfl) (dQ (du (ρd:=[]) [(0,0),(1,0),(2,0),(3,0),(4,0),(5,0),(6,0),(7,0),(8,0),(9,0)] _ (List.Perm.refl _) (by kernel_rfl) rfl (wS 10 [0,0] (rg 5 9) [(14,pB (decide ((p0.L.length:Int)≤p0.I)))] (by kernel_rfl) (ef (cY rfl h (fun hc1 h=>?_) fun hc1 h=>?_))))))
 ·refine af ?_
  refine ai [(4,pI 0)] (by kernel_rfl) (ip ?_)
  obtain rfl:=osi h
  exact aG (fL (aI rfl)) dN ⟨rfl,rfl⟩
 refine ag ?_
 refine cL (ae (cH 7 [0] [15,16,17,18,20] [(19,pI (IntKind.i64.wrap (p0.I+1))),(21,pP b0 1)] (by kernel_rfl) (aH rfl rfl (aj (vs:=[pI (IntKind.i64.wrap (p0.I+1))]) rfl rfl rfl rfl rfl cA (bP ed) (ap (cL (du (ρd:=[]) [(0,0),(1,0),(2,0),(3,0),(4,0),(5,0),(6,0),(7,0),(8,0),(9,0),(10,0),(11,0),(12,1),(13,0)] _ (List.Perm.refl _) (by kernel_rfl) rfl (aa h fun m2 hm2 h=>aa h fun x3 hx3 h=>dJ 14 [0,0] (rg 22 13) [(4,pI x3)] (jX 9 eI hm2 (bK 12 (mX hx3) bZ)) (by kernel_rfl) (ef (ej ?_))))))))))
 obtain rfl:=osi h
 exact aG (fL (aI rfl)) dN ⟨rfl,rfl⟩
def cD (p0:Ze):Option (Int×Ze):=(an p0 4).bind fun x1=>cond (decide (0<x1.1)) ((an x1.2 101).bind fun x3=>some ((IntKind.i64.wrap (10000*x3.1)),x3.2)) ((an x1.2 1000001).bind fun x4=>some (x4.1,x4.2))
theorem gX {p0:Ze} {b0:Nat} {r:(Int×Ze)}  (h:cD p0=some r):PCall 71 [pP b0 0] [PRes.b b0 75 [pL eI p0.L,pI p0.I]] (fun pv ρ'=>pv=pI r.1∧ρ'=[PRes.b b0 75 [pL eI r.2.L,pI r.2.I]]):=by
 unfold cD at h
 refine fy Tryz.func71 rfl Tryz.ntmps71 Tryz.results71 rfl (aU [2] (by kernel_rfl) (dQ (aa h fun x1 hx1 h=>ae (aq 1 [(3,pP b0 0)] (by kernel_rfl) ?_))))
 refine ak rfl (aL rfl rfl (ρ1:=[_]) (aB (by exact bd) (List.Perm.refl _)) (am hx1) ?_);rintro _ _ ⟨rfl,rfl⟩
 refine aD [(5,pB (decide (0<x1.1)))] (by kernel_rfl) (cY rfl h (fun hc2 h=>?_) fun hc2 h=>?_)
 ·refine af ?_
  refine aa h fun x3 hx3 h=>ae (aq 1 [(6,pP b0 0)] (by kernel_rfl) ?_)
  refine ak rfl (aL rfl rfl (ρ1:=[_]) (aB (by exact bd) (List.Perm.refl _)) (am hx3) ?_);rintro _ _ ⟨rfl,rfl⟩
  refine lJ [8] [(2,pI (IntKind.i64.wrap (10000*x3.1)))] (by kernel_rfl) (ip ?_)
  obtain rfl:=osi h
  exact aG (fL (aI rfl)) dN ⟨rfl,rfl⟩
 refine ag ?_
 refine fk h fun x4 hx4 h=>ae (aq 1 [(9,pP b0 0)] (by kernel_rfl) ?_)
 refine ak rfl (aL rfl rfl (ρ1:=[_]) (aB (by exact bd) (List.Perm.refl _)) (am hx4) ?_);rintro _ _ ⟨rfl,rfl⟩
 refine aD [(2,pI x4.1)] (by kernel_rfl) (ej ?_)
 obtain rfl:=osi h
 exact aG (fL (aI rfl)) dN ⟨rfl,rfl⟩
def cV (p0:Ze):Option (Zl×Ze):=(an p0 3).bind fun x3=>Option.bind (cond (decide (0<x3.1)) ((cD x3.2).bind fun x9=>some (x9.2.L,x9.2.I,(IntKind.i64.wrap (Int.tdiv x9.1 4)))) (some (x3.2.L,x3.2.I,0))) (fun (l4,v5,v6)=>(an (⟨l4,v5⟩:Ze) 3).bind fun x10=>Option.bind (cond (x10.1 == 1) ((an x10.2 500).bind fun x17=>(an x17.2 5).bind fun x20=>(idx [1,100,1000,1000000,7] x20.1).bind fun m21=>some (x20.2.L,x20.2.I,(IntKind.i64.wrap (1+x17.1)),m21)) (some (x10.2.L,x10.2.I,0,0))) (fun (l11,v12,v13,v14)=>(an (⟨l11,v12⟩:Ze) 4).bind fun x23=>Option.bind (cond (x23.1 == 1) ((cD x23.2).bind fun x30=>some (x30.2.L,x30.2.I,true,x30.1)) (some (x23.2.L,x23.2.I,false,0))) (fun (l24,v25,v26,v27)=>(an (⟨l24,v25⟩:Ze) 4).bind fun x31=>Option.bind (cond (x31.1 == 1) ((cD x31.2).bind fun x38=>cond v26 (some (x38.2.L,x38.2.I,true,(eT (IntKind.i64.wrap (Int.tdiv x38.1 8)) v27))) (some (x38.2.L,x38.2.I,true,(IntKind.i64.wrap (Int.tdiv x38.1 8))))) (some (x31.2.L,x31.2.I,false,0))) (fun (l32,v33,v34,v35)=>some ((⟨v6,v13,v14,v26,v27,v34,v35⟩:Zl),(⟨l32,v33⟩:Ze))))))
theorem gY {p0:Ze} {b0:Nat} {r:(Zl×Ze)}  (h:cV p0=some r):PCall 33 [pP b0 0] [PRes.b b0 75 [pL eI p0.L,pI p0.I]] (fun pv ρ'=>pv=.agg (nB r.1)∧ρ'=[PRes.b b0 75 [pL eI r.2.L,pI r.2.I]]):=by
 unfold cV at h
 refine fy Tryz.func33 rfl Tryz.ntmps33 Tryz.results33 rfl (ae (ak rfl (aX (cs:=[pI 0,pI 0,pI 0,pB false,pI 0,pB false,pI 0]) rfl rfl rfl rfl (fun b1=>ap (cL (ae (aq 1 [(4,.agg [pI 0,pI 0,pI 0,pB false,pI 0,pB false,pI 0])] (by kernel_rfl) (ak rfl (aX (cs:=[pI 0,pI 0,pI 0,pB false,pI 0,pB false,pI 0]) rfl rfl rfl rfl (fun b2=>aH rfl rfl (aj (vs:=[pI 0,pI 0,pI 0,pB false,pI 0,pB false,pI 0]) rfl rfl rfl rfl rfl cA zl7 (ap (dQ (aa h fun x3 hx3 h=>ae (aq 1 [(5,pP b0 0)] (by kernel_rfl) ?_)))))))))))))))
 refine ak rfl (aL rfl rfl (ρ1:=[_]) (aB (by exact ba (ba bd)) (List.Perm.refl _)) (am hx3) ?_);rintro _ _ ⟨rfl,rfl⟩
 refine aD [(7,pB (decide (0<x3.1)))] (by kernel_rfl) (ar (aa h fun q7 hq7 h=>?_))
 refine aJ (Y:=Unit×((List Int)×Int×Int)) (fun (_,(l4,v5,v6))=>[(0,pP b0 0),(2,pP b1 0),(3,pP b2 0)]) (fun (_,(l4,v5,v6))=>[PRes.b b0 75 [pL eI l4,pI v5],PRes.b b1 66 [pI 0,pI 0,pI 0,pB false,pI 0,pB false,pI 0],PRes.b b2 66 [pI v6,pI 0,pI 0,pB false,pI 0,pB false,pI 0]]) (fun (_,(l4,v5,v6))=>q7=(l4,v5,v6)) ?_ ?_
 ·skip
  refine lE rfl hq7 (fun hc8 hq7=>?_) fun hc8 hq7=>?_
  ·refine aa hq7 ?_;clear hq7;intro x9 hx9 hq7
   refine ae (aq 1 [(8,pP b0 0)] (by kernel_rfl) ?_)
   refine ak rfl (aL rfl rfl (ρ1:=[_]) (aB (by exact bd) (List.Perm.refl _)) (gX hx9) ?_);rintro _ _ ⟨rfl,rfl⟩
   refine aq 2 [(10,pI (IntKind.i64.wrap (Int.tdiv x9.1 4))),(11,pP b2 0)] (by kernel_rfl) (aH rfl rfl (aj (vs:=[pI (IntKind.i64.wrap (Int.tdiv x9.1 4))]) rfl rfl rfl rfl rfl (cG cA) ed (ap ?_)))
   obtain rfl:=osi hq7
   exact az ((),(x9.2.L,x9.2.I,(IntKind.i64.wrap (Int.tdiv x9.1 4)))) (mD rfl) (cR bd (cR (ba bd) dN)) rfl
  refine ag ?_
  obtain rfl:=osi hq7
  exact az ((),(x3.2.L,x3.2.I,0)) (mD rfl) (cR bd (cR (ba bd) dN)) rfl
 rintro ⟨_,⟨l4,v5,v6⟩⟩ τ hz;(try dsimp only at hz);subst q7;(try dsimp only at h);dsimp only [aM]
 refine af (af (aa h fun x10 hx10 h=>ae (aq 1 [(12,pP b0 0)] (by kernel_rfl) ?_)))
 refine ak rfl (aL rfl rfl (ρ1:=[_]) (aB (by exact bd) (List.Perm.refl _)) (am hx10) ?_);rintro _ _ ⟨rfl,rfl⟩
 refine aD [(14,pB (x10.1 == 1))] (by kernel_rfl) (ar (aa h fun q15 hq15 h=>?_))
 refine aJ (Y:=Unit×((List Int)×Int×Int×Int)) (fun (_,(l11,v12,v13,v14))=>[(0,pP b0 0),(2,pP b1 0),(3,pP b2 0)]) (fun (_,(l11,v12,v13,v14))=>[PRes.b b0 75 [pL eI l11,pI v12],PRes.b b1 66 [pI 0,pI 0,pI 0,pB false,pI 0,pB false,pI 0],PRes.b b2 66 [pI v6,pI v13,pI v14,pB false,pI 0,pB false,pI 0]]) (fun (_,(l11,v12,v13,v14))=>q15=(l11,v12,v13,v14)) ?_ ?_
 ·skip
  refine lE rfl hq15 (fun hc16 hq15=>?_) fun hc16 hq15=>?_
  ·refine aa hq15 ?_;clear hq15;intro x17 hx17 hq15
   refine aa hq15 fun x20 hx20 hq15=>aa hq15 fun m21 hm21 hq15=>?_
   refine ky (Y:=Unit) (fun _=>[(0,pP b0 0),(2,pP b1 0),(3,pP b2 0)]) (fun _=>[PRes.b b0 75 [pL eI x20.2.L,pI x20.2.I],PRes.b b1 66 [pI 0,pI 0,pI 0,pB false,pI 0,pB false,pI 0],PRes.b b2 66 [pI v6,pI (IntKind.i64.wrap (1+x17.1)),pI m21,pB false,pI 0,pB false,pI 0]]) (fun _=>True) ?_ ?_
   ·refine kh (ρd:=[PRes.b b0 _ _,PRes.b b2 _ _]) _ (aB bd (aB (ba bd) (List.Perm.refl _))) ?_
    refine bu 0 (by kernel_rfl) rfl rfl rfl rfl (cm (p:=pP b0 0) rfl (.p rfl)) (bu 4 (by kernel_rfl) rfl rfl rfl rfl (cm (p:=pP b0 0) rfl (.p rfl)) ?_)
    refine eM 1 3 (by kernel_rfl) ?_ ?_
    ·skip
     refine aT rfl rfl rfl rfl (aL rfl rfl (ρ1:=[_]) (aB (by exact bd) (List.Perm.refl _)) (am hx17) ?_);rintro _ _ ⟨rfl,rfl⟩
     refine bu 2 (by kernel_rfl) rfl rfl rfl rfl (iR rfl (.p rfl) (.p rfl) rfl) (bu 8 (by kernel_rfl) rfl rfl rfl rfl (aR rfl rfl rfl rfl rfl (.p rfl)) ?_)
     refine eM 3 5 (by kernel_rfl) ?_ ?_
     ·skip
      refine aT rfl rfl rfl rfl (bT rfl rfl rfl rfl rfl (ez rfl (ez rfl (ez rfl (ez rfl (ez rfl kg))))) rfl rfl rfl rfl (fun b18=>aN 5 (by kernel_rfl) ?_))
      refine aT rfl rfl rfl rfl (aL rfl rfl (ρ1:=[_]) (aB (by exact ba bd) (List.Perm.refl _)) (am hx20) ?_);rintro _ _ ⟨rfl,rfl⟩
      refine eM 6 9 (by kernel_rfl) ?_ ?_
      ·skip
       refine aT rfl rfl rfl rfl (eU (dU (enc:=eI) (xs:=[1,100,1000,1000000,7]) rfl rfl rfl (.p rfl) tS (.p rfl) (fun _=>hm21)) ?_)
       refine eM 7 9 (by kernel_rfl) ?_ ?_
       ·skip
        refine aT rfl rfl rfl rfl (eU (cX (sz:=1) (p:=pI m21) (enc:=eI) (xs:=[1,100,1000,1000000,7]) (a:=(some ⟨b18,0,none⟩)) x20.1 0 m21 rfl (.p rfl) rfl tS (fun _=>hm21) rfl) (aN 9 (by kernel_rfl) (bq rfl rfl rfl (aj (vs:=[pI (IntKind.i64.wrap (1+x17.1))]) rfl rfl rfl rfl rfl (cG (cG cA)) (bP ed) (bu 10 (by kernel_rfl) rfl rfl rfl rfl (aR rfl rfl rfl rfl rfl (.p rfl)) (aN 11 (by kernel_rfl) (bq rfl rfl rfl (aj (vs:=[pI m21]) rfl rfl rfl rfl rfl (cG (cG cA)) (bP (bP ed)) (cq (by kernel_rfl) ?_)))))))))
        exact fw () (mD rfl) (cR bd (cR (ba (ba bd)) (cR (ba bd) cM))) trivial
       skip
       refine bq rfl rfl rfl (aj (vs:=[pI (IntKind.i64.wrap (1+x17.1))]) rfl rfl rfl rfl rfl (cG (cG cA)) (bP ed) (aN 7 (by kernel_rfl) (aT rfl rfl rfl rfl (eU (cX (sz:=1) (p:=pI m21) (enc:=eI) (xs:=[1,100,1000,1000000,7]) (a:=(some ⟨b18,0,none⟩)) x20.1 0 m21 rfl (.p rfl) rfl tS (fun _=>hm21) rfl) (bu 10 (by kernel_rfl) rfl rfl rfl rfl (aR rfl rfl rfl rfl rfl (.p rfl)) (aN 11 (by kernel_rfl) (bq rfl rfl rfl (aj (vs:=[pI m21]) rfl rfl rfl rfl rfl (cG (cG cA)) (bP (bP ed)) (cq (by kernel_rfl) ?_)))))))))
       exact fw () (mD rfl) (cR bd (cR (ba (ba bd)) (cR (ba bd) cM))) trivial
      skip
      refine bq rfl rfl rfl (aj (vs:=[pI (IntKind.i64.wrap (1+x17.1))]) rfl rfl rfl rfl rfl (cG (cG cA)) (bP ed) (aN 6 (by kernel_rfl) (aT rfl rfl rfl rfl (eU (dU (enc:=eI) (xs:=[1,100,1000,1000000,7]) rfl rfl rfl (.p rfl) tS (.p rfl) (fun _=>hm21)) (aN 7 (by kernel_rfl) (aT rfl rfl rfl rfl (eU (cX (sz:=1) (p:=pI m21) (enc:=eI) (xs:=[1,100,1000,1000000,7]) (a:=(some ⟨b18,0,none⟩)) x20.1 0 m21 rfl (.p rfl) rfl tS (fun _=>hm21) rfl) (bu 10 (by kernel_rfl) rfl rfl rfl rfl (aR rfl rfl rfl rfl rfl (.p rfl)) (aN 11 (by kernel_rfl) (bq rfl rfl rfl (aj (vs:=[pI m21]) rfl rfl rfl rfl rfl (cG (cG cA)) (bP (bP ed)) (cq (by kernel_rfl) ?_))))))))))))
      exact fw () (mD rfl) (cR bd (cR (ba (ba bd)) (cR (ba bd) cM))) trivial
     skip
     refine aT rfl rfl rfl rfl (aL rfl rfl (ρ1:=[_]) (aB (by exact bd) (List.Perm.refl _)) (am hx20) ?_);rintro _ _ ⟨rfl,rfl⟩
     refine eM 3 9 (by kernel_rfl) ?_ ?_
     ·skip
      refine aT rfl rfl rfl rfl (bT rfl rfl rfl rfl rfl (ez rfl (ez rfl (ez rfl (ez rfl (ez rfl kg))))) rfl rfl rfl rfl (fun b18=>?_))
      refine eM 6 9 (by kernel_rfl) ?_ ?_
      ·skip
       refine aT rfl rfl rfl rfl (eU (dU (enc:=eI) (xs:=[1,100,1000,1000000,7]) rfl rfl rfl (.p rfl) fH (.p rfl) (fun _=>hm21)) ?_)
       refine eM 7 9 (by kernel_rfl) ?_ ?_
       ·skip
        refine aT rfl rfl rfl rfl (eU (cX (sz:=1) (p:=pI m21) (enc:=eI) (xs:=[1,100,1000,1000000,7]) (a:=(some ⟨b18,0,none⟩)) x20.1 0 m21 rfl (.p rfl) rfl fH (fun _=>hm21) rfl) (aN 9 (by kernel_rfl) (bq rfl rfl rfl (aj (vs:=[pI (IntKind.i64.wrap (1+x17.1))]) rfl rfl rfl rfl rfl (cG (cG cA)) (bP ed) (bu 10 (by kernel_rfl) rfl rfl rfl rfl (aR rfl rfl rfl rfl rfl (.p rfl)) (aN 11 (by kernel_rfl) (bq rfl rfl rfl (aj (vs:=[pI m21]) rfl rfl rfl rfl rfl (cG (cG cA)) (bP (bP ed)) (cq (by kernel_rfl) ?_)))))))))
        exact fw () (mD rfl) (cR (ba bd) (cR (ba (ba bd)) (cR (ba bd) cM))) trivial
       skip
       refine bq rfl rfl rfl (aj (vs:=[pI (IntKind.i64.wrap (1+x17.1))]) rfl rfl rfl rfl rfl (cG (cG cA)) (bP ed) (aN 7 (by kernel_rfl) (aT rfl rfl rfl rfl (eU (cX (sz:=1) (p:=pI m21) (enc:=eI) (xs:=[1,100,1000,1000000,7]) (a:=(some ⟨b18,0,none⟩)) x20.1 0 m21 rfl (.p rfl) rfl fH (fun _=>hm21) rfl) (bu 10 (by kernel_rfl) rfl rfl rfl rfl (aR rfl rfl rfl rfl rfl (.p rfl)) (aN 11 (by kernel_rfl) (bq rfl rfl rfl (aj (vs:=[pI m21]) rfl rfl rfl rfl rfl (cG (cG cA)) (bP (bP ed)) (cq (by kernel_rfl) ?_)))))))))
       exact fw () (mD rfl) (cR (ba bd) (cR (ba (ba bd)) (cR (ba bd) cM))) trivial
      skip
      refine bq rfl rfl rfl (aj (vs:=[pI (IntKind.i64.wrap (1+x17.1))]) rfl rfl rfl rfl rfl (cG (cG cA)) (bP ed) (aN 6 (by kernel_rfl) (aT rfl rfl rfl rfl (eU (dU (enc:=eI) (xs:=[1,100,1000,1000000,7]) rfl rfl rfl (.p rfl) fH (.p rfl) (fun _=>hm21)) (aN 7 (by kernel_rfl) (aT rfl rfl rfl rfl (eU (cX (sz:=1) (p:=pI m21) (enc:=eI) (xs:=[1,100,1000,1000000,7]) (a:=(some ⟨b18,0,none⟩)) x20.1 0 m21 rfl (.p rfl) rfl fH (fun _=>hm21) rfl) (bu 10 (by kernel_rfl) rfl rfl rfl rfl (aR rfl rfl rfl rfl rfl (.p rfl)) (aN 11 (by kernel_rfl) (bq rfl rfl rfl (aj (vs:=[pI m21]) rfl rfl rfl rfl rfl (cG (cG cA)) (bP (bP ed)) (cq (by kernel_rfl) ?_))))))))))))
      exact fw () (mD rfl) (cR (ba bd) (cR (ba (ba bd)) (cR (ba bd) cM))) trivial
     skip
     refine bq rfl rfl rfl (aj (vs:=[pI (IntKind.i64.wrap (1+x17.1))]) rfl rfl rfl rfl rfl (cG cA) (bP ed) (aN 3 (by kernel_rfl) (aT rfl rfl rfl rfl (bT rfl rfl rfl rfl rfl (ez rfl (ez rfl (ez rfl (ez rfl (ez rfl kg))))) rfl rfl rfl rfl (fun b18=>aN 6 (by kernel_rfl) (aT rfl rfl rfl rfl (eU (dU (enc:=eI) (xs:=[1,100,1000,1000000,7]) rfl rfl rfl (.p rfl) fH (.p rfl) (fun _=>hm21)) (aN 7 (by kernel_rfl) (aT rfl rfl rfl rfl (eU (cX (sz:=1) (p:=pI m21) (enc:=eI) (xs:=[1,100,1000,1000000,7]) (a:=(some ⟨b18,0,none⟩)) x20.1 0 m21 rfl (.p rfl) rfl fH (fun _=>hm21) rfl) (bu 10 (by kernel_rfl) rfl rfl rfl rfl (aR rfl rfl rfl rfl rfl (.p rfl)) (aN 11 (by kernel_rfl) (bq rfl rfl rfl (aj (vs:=[pI m21]) rfl rfl rfl rfl rfl (cG (cG cA)) (bP (bP ed)) (cq (by kernel_rfl) ?_)))))))))))))))
     exact fw () (mD rfl) (cR (ba bd) (cR (ba (ba bd)) (cR (ba bd) cM))) trivial
    skip
    refine aT rfl rfl rfl rfl (bT rfl rfl rfl rfl rfl (ez rfl (ez rfl (ez rfl (ez rfl (ez rfl kg))))) rfl rfl rfl rfl (fun b18=>aN 1 (by kernel_rfl) ?_))
    refine aT rfl rfl rfl rfl (aL rfl rfl (ρ1:=[_]) (aB (by exact ba bd) (List.Perm.refl _)) (am hx17) ?_);rintro _ _ ⟨rfl,rfl⟩
    refine bu 2 (by kernel_rfl) rfl rfl rfl rfl (iR rfl (.p rfl) (.p rfl) rfl) (bu 8 (by kernel_rfl) rfl rfl rfl rfl (aR rfl rfl rfl rfl rfl (.p rfl)) (aN 5 (by kernel_rfl) ?_))
    refine aT rfl rfl rfl rfl (aL rfl rfl (ρ1:=[_]) (aB (by exact bd) (List.Perm.refl _)) (am hx20) ?_);rintro _ _ ⟨rfl,rfl⟩
    refine eM 6 9 (by kernel_rfl) ?_ ?_
    ·skip
     refine aT rfl rfl rfl rfl (eU (dU (enc:=eI) (xs:=[1,100,1000,1000000,7]) rfl rfl rfl (.p rfl) tS (.p rfl) (fun _=>hm21)) ?_)
     refine eM 7 9 (by kernel_rfl) ?_ ?_
     ·skip
      refine aT rfl rfl rfl rfl (eU (cX (sz:=1) (p:=pI m21) (enc:=eI) (xs:=[1,100,1000,1000000,7]) (a:=(some ⟨b18,0,none⟩)) x20.1 0 m21 rfl (.p rfl) rfl tS (fun _=>hm21) rfl) (aN 9 (by kernel_rfl) (bq rfl rfl rfl (aj (vs:=[pI (IntKind.i64.wrap (1+x17.1))]) rfl rfl rfl rfl rfl (cG (cG cA)) (bP ed) (bu 10 (by kernel_rfl) rfl rfl rfl rfl (aR rfl rfl rfl rfl rfl (.p rfl)) (aN 11 (by kernel_rfl) (bq rfl rfl rfl (aj (vs:=[pI m21]) rfl rfl rfl rfl rfl (cG (cG cA)) (bP (bP ed)) (cq (by kernel_rfl) ?_)))))))))
      exact fw () (mD rfl) (cR bd (cR (ba (ba bd)) (cR (ba bd) cM))) trivial
     skip
     refine bq rfl rfl rfl (aj (vs:=[pI (IntKind.i64.wrap (1+x17.1))]) rfl rfl rfl rfl rfl (cG (cG cA)) (bP ed) (aN 7 (by kernel_rfl) (aT rfl rfl rfl rfl (eU (cX (sz:=1) (p:=pI m21) (enc:=eI) (xs:=[1,100,1000,1000000,7]) (a:=(some ⟨b18,0,none⟩)) x20.1 0 m21 rfl (.p rfl) rfl tS (fun _=>hm21) rfl) (bu 10 (by kernel_rfl) rfl rfl rfl rfl (aR rfl rfl rfl rfl rfl (.p rfl)) (aN 11 (by kernel_rfl) (bq rfl rfl rfl (aj (vs:=[pI m21]) rfl rfl rfl rfl rfl (cG (cG cA)) (bP (bP ed)) (cq (by kernel_rfl) ?_)))))))))
     exact fw () (mD rfl) (cR bd (cR (ba (ba bd)) (cR (ba bd) cM))) trivial
    skip
    refine bq rfl rfl rfl (aj (vs:=[pI (IntKind.i64.wrap (1+x17.1))]) rfl rfl rfl rfl rfl (cG (cG cA)) (bP ed) (aN 6 (by kernel_rfl) (aT rfl rfl rfl rfl (eU (dU (enc:=eI) (xs:=[1,100,1000,1000000,7]) rfl rfl rfl (.p rfl) tS (.p rfl) (fun _=>hm21)) (aN 7 (by kernel_rfl) (aT rfl rfl rfl rfl (eU (cX (sz:=1) (p:=pI m21) (enc:=eI) (xs:=[1,100,1000,1000000,7]) (a:=(some ⟨b18,0,none⟩)) x20.1 0 m21 rfl (.p rfl) rfl tS (fun _=>hm21) rfl) (bu 10 (by kernel_rfl) rfl rfl rfl rfl (aR rfl rfl rfl rfl rfl (.p rfl)) (aN 11 (by kernel_rfl) (bq rfl rfl rfl (aj (vs:=[pI m21]) rfl rfl rfl rfl rfl (cG (cG cA)) (bP (bP ed)) (cq (by kernel_rfl) ?_))))))))))))
    exact fw () (mD rfl) (cR bd (cR (ba (ba bd)) (cR (ba bd) cM))) trivial
   rintro _ τ ρ1 hsub22 _;(try dsimp only at hsub22);dsimp only [aM]
   obtain rfl:=osi hq15
   exact az ((),(x20.2.L,x20.2.I,(IntKind.i64.wrap (1+x17.1)),m21)) (mD rfl) (PSub.trans qH hsub22) rfl
  refine ag ?_
  obtain rfl:=osi hq15
  exact az ((),(x10.2.L,x10.2.I,0,0)) (mD rfl) qH rfl
 rintro ⟨_,⟨l11,v12,v13,v14⟩⟩ τ hz;(try dsimp only at hz);subst q15;(try dsimp only at h);dsimp only [aM]
 refine af (af (aa h fun x23 hx23 h=>ae (aq 1 [(25,pP b0 0)] (by kernel_rfl) ?_)))
 refine ak rfl (aL rfl rfl (ρ1:=[_]) (aB (by exact bd) (List.Perm.refl _)) (am hx23) ?_);rintro _ _ ⟨rfl,rfl⟩
 refine aD [(27,pB (x23.1 == 1))] (by kernel_rfl) (ar (aa h fun q28 hq28 h=>?_))
 refine aJ (Y:=Unit×((List Int)×Int×Bool×Int)) (fun (_,(l24,v25,v26,v27))=>[(0,pP b0 0),(2,pP b1 0),(3,pP b2 0)]) (fun (_,(l24,v25,v26,v27))=>[PRes.b b0 75 [pL eI l24,pI v25],PRes.b b1 66 [pI 0,pI 0,pI 0,pB false,pI 0,pB false,pI 0],PRes.b b2 66 [pI v6,pI v13,pI v14,pB v26,pI v27,pB false,pI 0]]) (fun (_,(l24,v25,v26,v27))=>q28=(l24,v25,v26,v27)) ?_ ?_
 ·skip
  refine lE rfl hq28 (fun hc29 hq28=>?_) fun hc29 hq28=>?_
  ·refine aa hq28 ?_;clear hq28;intro x30 hx30 hq28
   refine ae (aq 1 [(28,pP b0 0)] (by kernel_rfl) ?_)
   refine ak rfl (aL rfl rfl (ρ1:=[_]) (aB (by exact bd) (List.Perm.refl _)) (gX hx30) ?_);rintro _ _ ⟨rfl,rfl⟩
   refine aq 1 [(30,pP b2 3)] (by kernel_rfl) (aH rfl rfl (aj (vs:=[pB true]) rfl rfl rfl rfl rfl (cG (cG cA)) (bP (bP (bP ed))) (aq 1 [(31,pP b2 4)] (by kernel_rfl) (aH rfl rfl (aj (vs:=[pI x30.1]) rfl rfl rfl rfl rfl (cG (cG cA)) (bP (bP (bP (bP ed)))) (ap ?_))))))
   obtain rfl:=osi hq28
   exact az ((),(x30.2.L,x30.2.I,true,x30.1)) (mD rfl) qH rfl
  refine ag ?_
  obtain rfl:=osi hq28
  exact az ((),(x23.2.L,x23.2.I,false,0)) (mD rfl) qH rfl
 rintro ⟨_,⟨l24,v25,v26,v27⟩⟩ τ hz;(try dsimp only at hz);subst q28;(try dsimp only at h);dsimp only [aM]
 refine af (af (aa h fun x31 hx31 h=>ae (aq 1 [(32,pP b0 0)] (by kernel_rfl) ?_)))
 refine ak rfl (aL rfl rfl (ρ1:=[_]) (aB (by exact bd) (List.Perm.refl _)) (am hx31) ?_);rintro _ _ ⟨rfl,rfl⟩
 refine aD [(34,pB (x31.1 == 1))] (by kernel_rfl) (ar (aa h fun q36 hq36 h=>?_))
 refine aJ (Y:=Unit×((List Int)×Int×Bool×Int)) (fun (_,(l32,v33,v34,v35))=>[(2,pP b1 0),(3,pP b2 0)]) (fun (_,(l32,v33,v34,v35))=>[PRes.b b0 75 [pL eI l32,pI v33],PRes.b b1 66 [pI 0,pI 0,pI 0,pB false,pI 0,pB false,pI 0],PRes.b b2 66 [pI v6,pI v13,pI v14,pB v26,pI v27,pB v34,pI v35]]) (fun (_,(l32,v33,v34,v35))=>q36=(l32,v33,v34,v35)) ?_ ?_
 ·skip
  refine lE rfl hq36 (fun hc37 hq36=>?_) fun hc37 hq36=>?_
  ·refine af ?_
   refine aa hq36 fun x38 hx38 hq36=>ae (aq 1 [(35,pP b0 0)] (by kernel_rfl) ?_)
   refine ak rfl (aL rfl rfl (ρ1:=[_]) (aB (by exact bd) (List.Perm.refl _)) (gX hx38) ?_);rintro _ _ ⟨rfl,rfl⟩
   refine aq 2 [(37,pI (IntKind.i64.wrap (Int.tdiv x38.1 8))),(38,pP b2 5)] (by kernel_rfl) (aH rfl rfl (aj (vs:=[pB true]) rfl rfl rfl rfl rfl (cG (cG cA)) (bP (bP (bP (bP (bP ed))))) (aq 1 [(39,pP b2 6)] (by kernel_rfl) (aH rfl rfl (aj (vs:=[pI (IntKind.i64.wrap (Int.tdiv x38.1 8))]) rfl rfl rfl rfl rfl (cG (cG cA)) (bP (bP (bP (bP (bP (bP ed)))))) (ap (cL (aY [2] [40] [(41,pB v26)] (by kernel_rfl) (cY rfl hq36 (fun hc39 hq36=>?_) fun hc39 hq36=>?_)))))))))
   ·refine ae ?_
    refine cH 6 [2,2] [42,43,44,45] [(46,pI (eT (IntKind.i64.wrap (Int.tdiv x38.1 8)) v27)),(47,pP b2 6)] (by kernel_rfl) (aH rfl rfl (aj (vs:=[pI (eT (IntKind.i64.wrap (Int.tdiv x38.1 8)) v27)]) rfl rfl rfl rfl rfl (cG (cG cA)) (bP (bP (bP (bP (bP (bP ed)))))) (ap ?_)))
    obtain rfl:=osi hq36
    exact az ((),(x38.2.L,x38.2.I,true,(eT (IntKind.i64.wrap (Int.tdiv x38.1 8)) v27))) (pH rfl) qH rfl
   refine ag ?_
   obtain rfl:=osi hq36
   exact az ((),(x38.2.L,x38.2.I,true,(IntKind.i64.wrap (Int.tdiv x38.1 8)))) (pH rfl) qH rfl
  refine ag ?_
  obtain rfl:=osi hq36
  exact az ((),(x31.2.L,x31.2.I,false,0)) (pH rfl) qH rfl
 rintro ⟨_,⟨l32,v33,v34,v35⟩⟩ τ hz;(try dsimp only at hz);subst q36;(try dsimp only at h);dsimp only [aM]
 refine af (ae (hZ 1 [2] [(48,.agg [pI v6,pI v13,pI v14,pB v26,pI v27,pB v34,pI v35])] (by kernel_rfl) (aH rfl rfl (aj (vs:=[pI v6,pI v13,pI v14,pB v26,pI v27,pB v34,pI v35]) rfl rfl rfl rfl rfl (cG cA) zl7 (ap (ej ?_))))))
 obtain rfl:=osi h
 exact aG (fL (cZ rfl tS rfl)) dN ⟨rfl,rfl⟩
def fz (p0:Ze) (p1:Int):Option (ByteArray×Ze):=(an p0 2).bind fun x1=>(aV (S:=(List Int)×(List Int)×Int) (T:=((List Int)×(List Int)×Int)) (fun (l5,l8,v9)=>cond (decide (((l5.length:Nat):Int)<p1)) ((an (⟨l8,v9⟩:Ze) 3).bind fun x19=>(app 1 l5 [48,(IntKind.u8.wrap (IntKind.i64.wrap (49+x19.1)))]).bind fun l22=>some (.inl (l22,x19.2.L,x19.2.I))) (some (.inr (l5,l8,v9)))) FUEL ([57,(IntKind.u8.wrap (IntKind.i64.wrap (52+x1.1)))],x1.2.L,x1.2.I)).bind fun (l13,l14,v15)=>some ((strOfNums l13),(⟨l14,v15⟩:Ze))
theorem nI {p0:Ze} {p1:Int} {b0:Nat} {r:(ByteArray×Ze)}  (h:fz p0 p1=some r):PCall 34 [pP b0 0,pI p1] [PRes.b b0 75 [pL eI p0.L,pI p0.I]] (fun pv ρ'=>pv=pS r.1∧ρ'=[PRes.b b0 75 [pL eI r.2.L,pI r.2.I]]):=by
 unfold fz at h
 refine fy Tryz.func34 rfl Tryz.ntmps34 Tryz.results34 rfl (aU [4] (by kernel_rfl) (fk h fun x1 hx1 h=>ae (aq 1 [(6,pP b0 0)] (by kernel_rfl) ?_)))
 refine ak rfl (aL rfl rfl (ρ1:=[_]) (aB (by exact bd) (List.Perm.refl _)) (am hx1) ?_);rintro _ _ ⟨rfl,rfl⟩
 refine bQ 2 [8] [(9,pY (IntKind.u8.wrap (IntKind.i64.wrap (52+x1.1))))] (by kernel_rfl) (ak rfl (bT rfl rfl rfl rfl rfl (ez rfl (ez rfl kg)) rfl rfl rfl rfl (fun b2=>aD [(5,pO (some ⟨b2,0,none⟩) 2 2)] (by kernel_rfl) (fk h fun q17 hq17 h=>?_))))
 refine aJ (Y:=(Option Addr×Nat)×((List Int)×(List Int)×Int)) (fun ((a11,c12),(l13,l14,v15))=>[(5,pO a11 l13.length c12)]) (fun ((a11,c12),(l13,l14,v15))=>[PRes.b b0 75 [pL eI l14,pI v15],PRes.row a11 l13.length c12 5 1 (List.map eB l13)]) (fun ((a11,c12),(l13,l14,v15))=>q17=(l13,l14,v15)) ?_ ?_
 ·refine au ?_
  refine bt (Y:=Option Addr×Nat) (S:=(List Int)×(List Int)×Int) _ hq17 (fun (a6,c7) (l5,l8,v9)=>[(0,pP b0 0),(1,pI p1),(5,pO a6 l5.length c7)]) (fun (a6,c7) (l5,l8,v9)=>[PRes.b b0 75 [pL eI l8,pI v9],PRes.row a6 l5.length c7 5 1 (List.map eB l5)]) ((some ⟨b2,0,none⟩),2) (mD rfl) (cR (ba bd) dN) ?_
  rintro ⟨a6,c7⟩ ⟨l5,l8,v9⟩ o τ hb16;(try dsimp only at hb16);dsimp only [aM]
  refine af (af (ah [11,12,13] [(14,pB (decide (((l5.length:Nat):Int)<p1)))] (by kernel_rfl) (cY rfl hb16 (fun hc18 hb16=>?_) fun hc18 hb16=>?_)))
  ·refine ag ?_
   refine ar (au (aa hb16 fun x19 hx19 hb16=>ae (aq 2 [(15,pO a6 l5.length c7),(16,pP b0 0)] (by kernel_rfl) ?_)))
   refine ak rfl (aL rfl rfl (ρ1:=[_]) (aB (by exact bd) (List.Perm.refl _)) (am hx19) ?_);rintro _ _ ⟨rfl,rfl⟩
   refine bQ 2 [18] [(19,pY (IntKind.u8.wrap (IntKind.i64.wrap (49+x19.1))))] (by kernel_rfl) (ak rfl (bT rfl rfl rfl rfl rfl (ez rfl (ez rfl kg)) rfl rfl rfl rfl (fun b20=>aa hb16 fun l22 hl22 hb16=>?_)))
   refine ak rfl (fb (enc:=eB) rfl rfl rfl rfl rfl rfl rfl rfl rfl fH (by exact ba (ba bd)) hl22 (fun a23 c24=>?_))
   refine aD [(5,pO a23 l22.length c24)] (by kernel_rfl) (aA ?_)
   exact ck hb16 (a23,c24) (mD rfl) (cR (ba (ba bd)) dN)
  refine bA ?_
  refine aW (aQ hb16 (fun ht=>aS rfl ?_))
  exact az ((a6,c7),(l5,l8,v9)) (wF rfl) zs2 ht.symm
 rintro ⟨⟨a11,c12⟩,⟨l13,l14,v15⟩⟩ τ hz;(try dsimp only at hz);subst q17;(try dsimp only at h);dsimp only [aM]
 refine af (ae (aq 1 [(22,pO a11 l13.length c12)] (by kernel_rfl) (ak rfl (B7 rfl rfl rfl rfl rfl (xs:=l13) tS rfl (aD [(4,pS (strOfNums l13))] (by kernel_rfl) (ej ?_))))))
 obtain rfl:=osi h
 exact aG (fL (aI rfl)) dN ⟨rfl,rfl⟩
def da  : Option (List ByteArray):=some [(⟨#[65,65]⟩:ByteArray),(⟨#[66,66]⟩:ByteArray),(⟨#[67,67]⟩:ByteArray),(⟨#[68,68]⟩:ByteArray),(⟨#[69,69]⟩:ByteArray),(⟨#[70,70]⟩:ByteArray)]
theorem gz  {r:(List ByteArray)}  (h:da  = some r):PF 35 [] (pL eS r):=by
 unfold da at h
 refine bm ?_
 refine fy Tryz.func35 rfl Tryz.ntmps35 Tryz.results35 rfl (aU [0] (by kernel_rfl) (cL (ae (ak rfl (bT rfl rfl rfl rfl rfl (ez rfl (ez rfl (ez rfl (ez rfl (ez rfl (ez rfl kg)))))) rfl rfl rfl rfl (fun b1=>aD [(0,pO (some ⟨b1,0,none⟩) 6 6)] (by kernel_rfl) (ar ?_)))))))
 refine iQ (enc:=eS) (xs:=[(⟨#[65,65]⟩:ByteArray),(⟨#[66,66]⟩:ByteArray),(⟨#[67,67]⟩:ByteArray),(⟨#[68,68]⟩:ByteArray),(⟨#[69,69]⟩:ByteArray),(⟨#[70,70]⟩:ByteArray)]) 0 rfl (by exact bd) ?_
 refine cC ?_
 exact zz r h rfl
def gq (p0:(List Int)):Option (List Zb):=(kA p0 300).bind fun x1=>(an (⟨x1,0⟩:Ze) 8).bind fun x3=>Option.bind (cond (decide (0<x3.1)) ((cV x3.2).bind fun x12=>(cV x12.2).bind fun x13=>(app 144 ([]:List Zb) [(⟨1,1,(⟨#[57,52]⟩:ByteArray),[],0,0,36525,(-1),x12.1⟩:Zb),(⟨2,1,(⟨#[57,53]⟩:ByteArray),[],0,0,25,(-1),x13.1⟩:Zb)]).bind fun l17=>some (l17,x13.2.L,x13.2.I)) (some (([]:(List Zb)),x3.2.L,x3.2.I))) (fun (l7,l8,v9)=>(an (⟨l8,v9⟩:Ze) 13).bind fun x21=>(aV (S:=(List Zb)×Int×(List Int)×Int) (T:=((List Zb))) (fun (l23,v26,l27,v28)=>cond (decide (v26<x21.1)) ((an (⟨l27,v28⟩:Ze) 6).bind fun x36=>(an x36.2 4).bind fun x37=>(fz x37.2 (IntKind.i64.wrap (2+(IntKind.i64.wrap (2*x37.1))))).bind fun x38=>(an x38.2 20).bind fun x39=>(cV x39.2).bind fun x40=>(an x40.2 30).bind fun x42=>(an x42.2 3).bind fun x43=>Option.bind (cond (x43.1 == 1) ((an x43.2 (IntKind.i64.wrap (x39.1+1))).bind fun x50=>some (x50.2.L,x50.2.I,x50.1)) (some (x43.2.L,x43.2.I,(-1)))) (fun (l45,v46,v47)=>(an (⟨l45,v46⟩:Ze) 3).bind fun x51=>Option.bind (cond (x51.1 == 1) ((an x51.2 2).bind fun x58=>some (x58.2.L,x58.2.I,(IntKind.i64.wrap (1+x58.1)))) (some (x51.2.L,x51.2.I,0))) (fun (l53,v54,v55)=>(an (⟨l53,v54⟩:Ze) 16).bind fun x59=>(aV (S:=Int×(List ByteArray)) (T:=((List ByteArray))) (fun (v60,l62)=>cond ((decide (v60<3))&&(decide (7<x59.1))) (((nH v60).bind fun u80=>cond ((ec .i64 (cw .i64 x59.1 v60) 1) == 1) ((da).bind fun x82=>(idx x82 v60).bind fun m83=>(app 16 l62 [m83]).bind fun l86=>some l86) (some l62)).bind fun l78=>some (.inl ((IntKind.i64.wrap (v60+1)),l78))) (some (.inr l62))) FUEL (0,([]:List ByteArray))).bind fun l69=>(app 144 l23 [(⟨(IntKind.i64.wrap (3+(IntKind.i64.wrap (2*v26)))),(IntKind.i64.wrap (1+x36.1)),x38.1,l69,v55,x39.1,(IntKind.i64.wrap ((IntKind.i64.wrap (x39.1+1))+x42.1)),v47,x40.1⟩:Zb)]).bind fun l93=>some (.inl (l93,(IntKind.i64.wrap (v26+1)),x59.2.L,x59.2.I))))) (some (.inr l23))) FUEL (l7,0,x21.2.L,x21.2.I)).bind fun l32=>some l32)
theorem qa {p0:(List Int)} {r:(List Zb)}  (h:gq p0=some r):PF 8 [pL eI p0] (pL Zb.enc r):=by
 unfold gq at h
 refine bm ?_
 refine fy Tryz.func8 rfl Tryz.ntmps8 Tryz.results8 rfl (aU [2] (by kernel_rfl) (fk h fun x1 hx1 h=>ae (bC 3 [] [10,11] [(12,.agg [pL eI x1,pI 0])] (bK 1 (qK hx1) bZ) (by kernel_rfl) (ak rfl (bV (cs:=[pL eI x1,pI 0]) rfl rfl (fun b2=>aD [(3,pP b2 0)] (by kernel_rfl) (cL (ai [(4,pN)] (by kernel_rfl) (dQ (aa h fun x3 hx3 h=>ae (aq 1 [(14,pP b2 0)] (by kernel_rfl) ?_)))))))))))
 refine ak rfl (aL rfl rfl (ρ1:=[_]) (aB (by exact bd) (List.Perm.refl _)) (am hx3) ?_);rintro _ _ ⟨rfl,rfl⟩
 refine aD [(16,pB (decide (0<x3.1)))] (by kernel_rfl) (ar (aa h fun q10 hq10 h=>?_))
 refine aJ (Y:=(Option Addr×Nat)×((List Zb)×(List Int)×Int)) (fun ((a5,c6),(l7,l8,v9))=>[(3,pP b2 0),(4,pO a5 l7.length c6)]) (fun ((a5,c6),(l7,l8,v9))=>[PRes.b b2 75 [pL eI l8,pI v9],PRes.row a5 l7.length c6 68 15 (List.map Zb.enc l7)]) (fun ((a5,c6),(l7,l8,v9))=>q10=(l7,l8,v9)) ?_ ?_
 ·skip
  refine lE rfl hq10 (fun hc11 hq10=>?_) fun hc11 hq10=>?_
  ·refine aa hq10 ?_;clear hq10;intro x12 hx12 hq10
   refine ae (aq 2 [(17,pN),(18,pP b2 0)] (by kernel_rfl) ?_)
   refine ak rfl (aL rfl rfl (ρ1:=[_]) (aB (by exact bd) (List.Perm.refl _)) (gY hx12) ?_);rintro _ _ ⟨rfl,rfl⟩
   refine aa hq10 fun x13 hx13 hq10=>aq 2 [(20,.agg [pI 1,pI 1,pS (⟨#[57,52]⟩:ByteArray),pN,pI 0,pI 0,pI 36525,pI (-1),pI x12.1.Rate,pI x12.1.Amount,pI x12.1.Per,pB x12.1.HasMost,pI x12.1.Most,pB x12.1.HasLeast,pI x12.1.Least]),(21,pP b2 0)] (by kernel_rfl) ?_
   refine ak rfl (aL rfl rfl (ρ1:=[_]) (aB (by exact bd) (List.Perm.refl _)) (gY hx13) ?_);rintro _ _ ⟨rfl,rfl⟩
   refine aq 1 [(23,.agg [pI 2,pI 1,pS (⟨#[57,53]⟩:ByteArray),pN,pI 0,pI 0,pI 25,pI (-1),pI x13.1.Rate,pI x13.1.Amount,pI x13.1.Per,pB x13.1.HasMost,pI x13.1.Most,pB x13.1.HasLeast,pI x13.1.Least])] (by kernel_rfl) (gG 20 3 rfl rfl (gG 23 3 rfl rfl (ak rfl (bT rfl rfl rfl rfl rfl (ez rfl (ez rfl kg)) rfl rfl rfl rfl (fun b14=>rZ 68 15 (aa hq10 fun l17 hl17 hq10=>?_))))))
   refine ak rfl (fb (enc:=Zb.enc) rfl rfl rfl rfl rfl rfl rfl rfl rfl tS (by exact bd) hl17 (fun a18 c19=>?_))
   refine aD [(4,pO a18 l17.length c19)] (by kernel_rfl) ?_
   obtain rfl:=osi hq10
   exact az ((a18,c19),(l17,x13.2.L,x13.2.I)) (pH rfl) (cR (ba (ba bd)) dN) rfl
  refine ag ?_
  refine mh (sf 68 15) ?_
  obtain rfl:=osi hq10
  exact az ((none,0),(([]:(List Zb)),x3.2.L,x3.2.I)) (pH rfl) (cR (ba bd) dN) rfl
 rintro ⟨⟨a5,c6⟩,⟨l7,l8,v9⟩⟩ τ hz;(try dsimp only at hz);subst q10;(try dsimp only at h);dsimp only [aM]
 refine af (af (aa h fun x21 hx21 h=>ae (aq 1 [(26,pP b2 0)] (by kernel_rfl) ?_)))
 refine ak rfl (aL rfl rfl (ρ1:=[_]) (aB (by exact bd) (List.Perm.refl _)) (am hx21) ?_);rintro _ _ ⟨rfl,rfl⟩
 refine aD [(5,pI 0),(6,pI x21.1)] (by kernel_rfl) (ar (aa h fun q34 hq34 h=>?_))
 refine aJ (Y:=(Option Addr×Nat)×((List Zb))) (fun ((a30,c31),l32)=>[(4,pO a30 l32.length c31)]) (fun ((a30,c31),l32)=>[PRes.row a30 l32.length c31 68 15 (List.map Zb.enc l32)]) (fun ((a30,c31),l32)=>q34=l32) ?_ ?_
 ·refine au ?_
  refine bt (Y:=Option Addr×Nat) (S:=(List Zb)×Int×(List Int)×Int) _ hq34 (fun (a24,c25) (l23,v26,l27,v28)=>[(3,pP b2 0),(4,pO a24 l23.length c25),(5,pI v26),(6,pI x21.1)]) (fun (a24,c25) (l23,v26,l27,v28)=>[PRes.b b2 75 [pL eI l27,pI v28],PRes.row a24 l23.length c25 68 15 (List.map Zb.enc l23)]) (a5,c6) (mN rfl) zs2 ?_
  rintro ⟨a24,c25⟩ ⟨l23,v26,l27,v28⟩ o τ hb33;(try dsimp only at hb33);dsimp only [aM]
  refine af (af (ah [28,29] [(30,pB (decide (v26<x21.1)))] (by kernel_rfl) (cY rfl hb33 (fun hc35 hb33=>?_) fun hc35 hb33=>?_)))
  ·refine ag ?_
   refine cL (au (af (aa hb33 fun x36 hx36 hb33=>ae (bQ 4 [33,34] [(35,pI (IntKind.i64.wrap (3+(IntKind.i64.wrap (2*v26))))),(36,pP b2 0)] (by kernel_rfl) ?_))))
   refine ak rfl (aL rfl rfl (ρ1:=[_]) (aB (by exact bd) (List.Perm.refl _)) (am hx36) ?_);rintro _ _ ⟨rfl,rfl⟩
   refine aa hb33 fun x37 hx37 hb33=>aq 3 [(38,pI (IntKind.i64.wrap (1+x36.1))),(39,pP b2 0),(40,pP b2 0)] (by kernel_rfl) ?_
   refine ak rfl (aL rfl rfl (ρ1:=[_]) (aB (by exact bd) (List.Perm.refl _)) (am hx37) ?_);rintro _ _ ⟨rfl,rfl⟩
   refine aa hb33 fun x38 hx38 hb33=>bQ 2 [42] [(43,pI (IntKind.i64.wrap (2+(IntKind.i64.wrap (2*x37.1)))))] (by kernel_rfl) ?_
   refine ak rfl (aL rfl rfl (ρ1:=[_]) (aB (by exact bd) (List.Perm.refl _)) (nI hx38) ?_);rintro _ _ ⟨rfl,rfl⟩
   refine aa hb33 fun x39 hx39 hb33=>aq 1 [(45,pP b2 0)] (by kernel_rfl) ?_
   refine ak rfl (aL rfl rfl (ρ1:=[_]) (aB (by exact bd) (List.Perm.refl _)) (am hx39) ?_);rintro _ _ ⟨rfl,rfl⟩
   refine aa hb33 fun x40 hx40 hb33=>aq 1 [(47,pP b2 0)] (by kernel_rfl) ?_
   refine ak rfl (aL rfl rfl (ρ1:=[_]) (aB (by exact bd) (List.Perm.refl _)) (gY hx40) ?_);rintro _ _ ⟨rfl,rfl⟩
   refine aq 1 [(49,.agg [pI (IntKind.i64.wrap (3+(IntKind.i64.wrap (2*v26)))),pI (IntKind.i64.wrap (1+x36.1)),pS x38.1,pN,pI 0,pI x39.1,pI 0,pI (-1),pI x40.1.Rate,pI x40.1.Amount,pI x40.1.Per,pB x40.1.HasMost,pI x40.1.Most,pB x40.1.HasLeast,pI x40.1.Least])] (by kernel_rfl) (ak rfl (aX (cs:=[pI 0,pI 0,pS ByteArray.empty,pN,pI 0,pI 0,pI 0,pI 0,pI 0,pI 0,pI 0,pB false,pI 0,pB false,pI 0]) rfl rfl rfl rfl (fun b41=>aH rfl rfl (aj (vs:=[pI (IntKind.i64.wrap (3+(IntKind.i64.wrap (2*v26)))),pI (IntKind.i64.wrap (1+x36.1)),pS x38.1,pN,pI 0,pI x39.1,pI 0,pI (-1),pI x40.1.Rate,pI x40.1.Amount,pI x40.1.Per,pB x40.1.HasMost,pI x40.1.Most,pB x40.1.HasLeast,pI x40.1.Least]) rfl rfl rfl rfl rfl cA (gE (gE (gE (gE (gE (gE zl9)))))) (ap (fk hb33 fun x42 hx42 hb33=>?_))))))
   refine aJ (Y:=Unit) (fun _=>[(3,pP b2 0),(4,pO a24 l23.length c25),(5,pI v26),(6,pI x21.1),(7,pP b41 0)]) (fun _=>[PRes.b b2 75 [pL eI x42.2.L,pI x42.2.I],PRes.b b41 68 [pI (IntKind.i64.wrap (3+(IntKind.i64.wrap (2*v26)))),pI (IntKind.i64.wrap (1+x36.1)),pS x38.1,pN,pI 0,pI x39.1,pI (IntKind.i64.wrap ((IntKind.i64.wrap (x39.1+1))+x42.1)),pI (-1),pI x40.1.Rate,pI x40.1.Amount,pI x40.1.Per,pB x40.1.HasMost,pI x40.1.Most,pB x40.1.HasLeast,pI x40.1.Least],PRes.row a24 l23.length c25 68 15 (List.map Zb.enc l23)]) (fun _=>True) ?_ ?_
   ·refine kh (ρd:=[PRes.b b2 _ _,PRes.b b41 _ _]) _ (aB (ba bd) (List.Perm.refl _)) ?_
    refine bu 0 (by kernel_rfl) rfl rfl rfl rfl (aR rfl rfl rfl rfl rfl (.p rfl)) (bu 3 (by kernel_rfl) rfl rfl rfl rfl (cm (p:=pP b2 0) rfl (.p rfl)) ?_)
    refine eM 1 4 (by kernel_rfl) ?_ ?_
    ·skip
     refine aT rfl rfl rfl rfl (eU (bX (p:=pI x39.1) rfl (.p rfl) tS rfl) (bu 2 (by kernel_rfl) rfl rfl rfl rfl (iR rfl (.p rfl) (.p rfl) rfl) (aN 4 (by kernel_rfl) ?_)))
     refine aT rfl rfl rfl rfl (aL rfl rfl (ρ1:=[_]) (aB (by exact bd) (List.Perm.refl _)) (am hx42) ?_);rintro _ _ ⟨rfl,rfl⟩
     refine bu 5 (by kernel_rfl) rfl rfl rfl rfl (iR rfl (.p rfl) (.p rfl) rfl) (bu 6 (by kernel_rfl) rfl rfl rfl rfl (aR rfl rfl rfl rfl rfl (.p rfl)) (aN 7 (by kernel_rfl) (bq rfl rfl rfl (aj (vs:=[pI (IntKind.i64.wrap ((IntKind.i64.wrap (x39.1+1))+x42.1))]) rfl rfl rfl rfl rfl (cG cA) (bP (bP (bP (bP (bP (bP ed)))))) (cq (by kernel_rfl) ?_)))))
     exact az () (si rfl) qH trivial
    skip
    refine aT rfl rfl rfl rfl (aL rfl rfl (ρ1:=[_]) (aB (by exact bd) (List.Perm.refl _)) (am hx42) ?_);rintro _ _ ⟨rfl,rfl⟩
    refine aN 1 (by kernel_rfl) (aT rfl rfl rfl rfl (eU (bX (p:=pI x39.1) rfl (.p rfl) tS rfl) (bu 2 (by kernel_rfl) rfl rfl rfl rfl (iR rfl (.p rfl) (.p rfl) rfl) (bu 5 (by kernel_rfl) rfl rfl rfl rfl (iR rfl (.p rfl) (.p rfl) rfl) (bu 6 (by kernel_rfl) rfl rfl rfl rfl (aR rfl rfl rfl rfl rfl (.p rfl)) (aN 7 (by kernel_rfl) (bq rfl rfl rfl (aj (vs:=[pI (IntKind.i64.wrap ((IntKind.i64.wrap (x39.1+1))+x42.1))]) rfl rfl rfl rfl rfl (cG cA) (bP (bP (bP (bP (bP (bP ed)))))) (cq (by kernel_rfl) ?_)))))))))
    exact az () (si rfl) qH trivial
   rintro _ τ _;dsimp only [aM]
   refine af (af (aa hb33 fun x43 hx43 hb33=>ae (aq 1 [(57,pP b2 0)] (by kernel_rfl) ?_)))
   refine ak rfl (aL rfl rfl (ρ1:=[_]) (aB (by exact bd) (List.Perm.refl _)) (am hx43) ?_);rintro _ _ ⟨rfl,rfl⟩
   refine aD [(59,pB (x43.1 == 1))] (by kernel_rfl) (ar (aa hb33 fun q48 hq48 hb33=>?_))
   refine aJ (Y:=Unit×((List Int)×Int×Int)) (fun (_,(l45,v46,v47))=>[(3,pP b2 0),(4,pO a24 l23.length c25),(5,pI v26),(6,pI x21.1),(7,pP b41 0)]) (fun (_,(l45,v46,v47))=>[PRes.b b2 75 [pL eI l45,pI v46],PRes.b b41 68 [pI (IntKind.i64.wrap (3+(IntKind.i64.wrap (2*v26)))),pI (IntKind.i64.wrap (1+x36.1)),pS x38.1,pN,pI 0,pI x39.1,pI (IntKind.i64.wrap ((IntKind.i64.wrap (x39.1+1))+x42.1)),pI v47,pI x40.1.Rate,pI x40.1.Amount,pI x40.1.Per,pB x40.1.HasMost,pI x40.1.Most,pB x40.1.HasLeast,pI x40.1.Least],PRes.row a24 l23.length c25 68 15 (List.map Zb.enc l23)]) (fun (_,(l45,v46,v47))=>q48=(l45,v46,v47)) ?_ ?_
   ·skip
    refine lE rfl hq48 (fun hc49 hq48=>?_) fun hc49 hq48=>?_
    ·refine aa hq48 ?_;clear hq48;intro x50 hx50 hq48
     refine ae (cH 4 [1] [61,62] [(60,pP b2 0),(63,pI (IntKind.i64.wrap (x39.1+1)))] (by kernel_rfl) ?_)
     refine ak rfl (aL rfl rfl (ρ1:=[_]) (aB (by exact bd) (List.Perm.refl _)) (am hx50) ?_);rintro _ _ ⟨rfl,rfl⟩
     refine aq 1 [(65,pP b41 7)] (by kernel_rfl) (aH rfl rfl (aj (vs:=[pI x50.1]) rfl rfl rfl rfl rfl (cG cA) (bP (bP (bP (bP (bP (bP (bP ed))))))) (ap ?_)))
     obtain rfl:=osi hq48
     exact az ((),(x50.2.L,x50.2.I,x50.1)) (si rfl) qH rfl
    refine ag ?_
    obtain rfl:=osi hq48
    exact az ((),(x43.2.L,x43.2.I,(-1))) (si rfl) qH rfl
   rintro ⟨_,⟨l45,v46,v47⟩⟩ τ hz;(try dsimp only at hz);subst q48;(try dsimp only at hb33);dsimp only [aM]
   refine af (af (aa hb33 fun x51 hx51 hb33=>ae (aq 1 [(66,pP b2 0)] (by kernel_rfl) ?_)))
   refine ak rfl (aL rfl rfl (ρ1:=[_]) (aB (by exact bd) (List.Perm.refl _)) (am hx51) ?_);rintro _ _ ⟨rfl,rfl⟩
   refine aD [(68,pB (x51.1 == 1))] (by kernel_rfl) (ar (aa hb33 fun q56 hq56 hb33=>?_))
   refine aJ (Y:=Unit×((List Int)×Int×Int)) (fun (_,(l53,v54,v55))=>[(3,pP b2 0),(4,pO a24 l23.length c25),(5,pI v26),(6,pI x21.1),(7,pP b41 0)]) (fun (_,(l53,v54,v55))=>[PRes.b b2 75 [pL eI l53,pI v54],PRes.b b41 68 [pI (IntKind.i64.wrap (3+(IntKind.i64.wrap (2*v26)))),pI (IntKind.i64.wrap (1+x36.1)),pS x38.1,pN,pI v55,pI x39.1,pI (IntKind.i64.wrap ((IntKind.i64.wrap (x39.1+1))+x42.1)),pI v47,pI x40.1.Rate,pI x40.1.Amount,pI x40.1.Per,pB x40.1.HasMost,pI x40.1.Most,pB x40.1.HasLeast,pI x40.1.Least],PRes.row a24 l23.length c25 68 15 (List.map Zb.enc l23)]) (fun (_,(l53,v54,v55))=>q56=(l53,v54,v55)) ?_ ?_
   ·skip
    refine lE rfl hq56 (fun hc57 hq56=>?_) fun hc57 hq56=>?_
    ·refine aa hq56 ?_;clear hq56;intro x58 hx58 hq56
     refine ae (aq 1 [(69,pP b2 0)] (by kernel_rfl) ?_)
     refine ak rfl (aL rfl rfl (ρ1:=[_]) (aB (by exact bd) (List.Perm.refl _)) (am hx58) ?_);rintro _ _ ⟨rfl,rfl⟩
     refine aq 2 [(71,pI (IntKind.i64.wrap (1+x58.1))),(72,pP b41 4)] (by kernel_rfl) (aH rfl rfl (aj (vs:=[pI (IntKind.i64.wrap (1+x58.1))]) rfl rfl rfl rfl rfl (cG cA) (bP (bP (bP (bP ed)))) (ap ?_)))
     obtain rfl:=osi hq56
     exact az ((),(x58.2.L,x58.2.I,(IntKind.i64.wrap (1+x58.1)))) (si rfl) qH rfl
    refine ag ?_
    obtain rfl:=osi hq56
    exact az ((),(x51.2.L,x51.2.I,0)) (si rfl) qH rfl
   rintro ⟨_,⟨l53,v54,v55⟩⟩ τ hz;(try dsimp only at hz);subst q56;(try dsimp only at hb33);dsimp only [aM]
   refine af (aa hb33 fun x59 hx59 hb33=>ae (aq 1 [(73,pP b2 0)] (by kernel_rfl) ?_))
   refine ak rfl (aL rfl rfl (ρ1:=[_]) (aB (by exact bd) (List.Perm.refl _)) (am hx59) ?_);rintro _ _ ⟨rfl,rfl⟩
   refine aD [(8,pI x59.1)] (by kernel_rfl) (dQ (ai [(9,pI 0)] (by kernel_rfl) (ar (fO 9 1 (aa hb33 fun q71 hq71 hb33=>?_)))))
   refine aJ (Y:=(Option Addr×Nat)×((List ByteArray))) (fun ((a67,c68),l69)=>[(3,pP b2 0),(4,pO a24 l23.length c25),(5,pI v26),(6,pI x21.1),(7,pP b41 0)]) (fun ((a67,c68),l69)=>[PRes.b b2 75 [pL eI x59.2.L,pI x59.2.I],PRes.b b41 68 [pI (IntKind.i64.wrap (3+(IntKind.i64.wrap (2*v26)))),pI (IntKind.i64.wrap (1+x36.1)),pS x38.1,pO a67 l69.length c68,pI v55,pI x39.1,pI (IntKind.i64.wrap ((IntKind.i64.wrap (x39.1+1))+x42.1)),pI v47,pI x40.1.Rate,pI x40.1.Amount,pI x40.1.Per,pB x40.1.HasMost,pI x40.1.Most,pB x40.1.HasLeast,pI x40.1.Least],PRes.row a24 l23.length c25 68 15 (List.map Zb.enc l23),PRes.row a67 l69.length c68 9 1 (List.map eS l69)]) (fun ((a67,c68),l69)=>q71=l69) ?_ ?_
   ·refine au ?_
    refine bt (Y:=Option Addr×Nat) (S:=Int×(List ByteArray)) _ hq71 (fun (a63,c64) (v60,l62)=>[(3,pP b2 0),(4,pO a24 l23.length c25),(5,pI v26),(6,pI x21.1),(7,pP b41 0),(8,pI x59.1),(9,pI v60)]) (fun (a63,c64) (v60,l62)=>[PRes.b b2 75 [pL eI x59.2.L,pI x59.2.I],PRes.b b41 68 [pI (IntKind.i64.wrap (3+(IntKind.i64.wrap (2*v26)))),pI (IntKind.i64.wrap (1+x36.1)),pS x38.1,pO a63 l62.length c64,pI v55,pI x39.1,pI (IntKind.i64.wrap ((IntKind.i64.wrap (x39.1+1))+x42.1)),pI v47,pI x40.1.Rate,pI x40.1.Amount,pI x40.1.Per,pB x40.1.HasMost,pI x40.1.Most,pB x40.1.HasLeast,pI x40.1.Least],PRes.row a24 l23.length c25 68 15 (List.map Zb.enc l23),PRes.row a63 l62.length c64 9 1 (List.map eS l62)]) (none,0) (Bj rfl) (cR (ba bd) (cR (ba bd) (cR (ba bd) dN))) ?_
    rintro ⟨a63,c64⟩ ⟨v60,l62⟩ o τ hb70;(try dsimp only at hb70);dsimp only [aM]
    refine af (af (ah (rg 75 5) [(80,pB ((decide (v60<3))&&(decide (7<x59.1))))] (by kernel_rfl) (cY rfl hb70 (fun hc73 hb70=>?_) fun hc73 hb70=>?_)))
    ·refine ag ?_
     refine fk hb70 fun q79 hq79 hb70=>?_
     refine aJ (Y:=(Option Addr×Nat)×((List ByteArray))) (fun ((a76,c77),l78)=>[(3,pP b2 0),(4,pO a24 l23.length c25),(5,pI v26),(6,pI x21.1),(7,pP b41 0),(8,pI x59.1),(9,pI v60)]) (fun ((a76,c77),l78)=>[PRes.b b2 75 [pL eI x59.2.L,pI x59.2.I],PRes.b b41 68 [pI (IntKind.i64.wrap (3+(IntKind.i64.wrap (2*v26)))),pI (IntKind.i64.wrap (1+x36.1)),pS x38.1,pO a76 l78.length c77,pI v55,pI x39.1,pI (IntKind.i64.wrap ((IntKind.i64.wrap (x39.1+1))+x42.1)),pI v47,pI x40.1.Rate,pI x40.1.Amount,pI x40.1.Per,pB x40.1.HasMost,pI x40.1.Most,pB x40.1.HasLeast,pI x40.1.Least],PRes.row a24 l23.length c25 68 15 (List.map Zb.enc l23),PRes.row a76 l78.length c77 9 1 (List.map eS l78)]) (fun ((a76,c77),l78)=>q79=l78) ?_ ?_
     ·skip
      refine au (af (aa hq79 fun u80 hu80 hq79=>aw [] [83,84,85,86] [(87,pB ((ec .i64 (cw .i64 x59.1 v60) 1) == 1))] (AF 2 hu80 bZ) (by kernel_rfl) (cY rfl hq79 (fun hc81 hq79=>?_) fun hc81 hq79=>?_)))
      ·refine aa hq79 ?_;clear hq79;intro x82 hx82 hq79
       refine aa hq79 fun m83 hm83 hq79=>aa hq79 fun l86 hl86 hq79=>?_
       refine ky (Y:=Option Addr×Nat) (fun (a87,c88)=>[(3,pP b2 0),(4,pO a24 l23.length c25),(5,pI v26),(6,pI x21.1),(7,pP b41 0),(8,pI x59.1),(9,pI v60)]) (fun (a87,c88)=>[PRes.b b2 75 [pL eI x59.2.L,pI x59.2.I],PRes.b b41 68 [pI (IntKind.i64.wrap (3+(IntKind.i64.wrap (2*v26)))),pI (IntKind.i64.wrap (1+x36.1)),pS x38.1,pO a87 l86.length c88,pI v55,pI x39.1,pI (IntKind.i64.wrap ((IntKind.i64.wrap (x39.1+1))+x42.1)),pI v47,pI x40.1.Rate,pI x40.1.Amount,pI x40.1.Per,pB x40.1.HasMost,pI x40.1.Most,pB x40.1.HasLeast,pI x40.1.Least],PRes.row a24 l23.length c25 68 15 (List.map Zb.enc l23),PRes.row a87 l86.length c88 9 1 (List.map eS l86)]) (fun _=>True) ?_ ?_
       ·refine kh (ρd:=[PRes.row a63 _ _ _ _ _,PRes.b b41 _ _]) _ (aB (ba (ba (ba bd))) (aB (ba bd) (List.Perm.refl _))) ?_
        refine bu 0 (by kernel_rfl) rfl rfl rfl rfl (aR rfl rfl rfl rfl rfl (.p rfl)) (bu 3 (by kernel_rfl) rfl rfl rfl rfl (cm (p:=pI v60) rfl (.p rfl)) ?_)
        refine eM 1 2 (by kernel_rfl) ?_ ?_
        ·skip
         refine aT rfl rfl rfl rfl (eU (bX (p:=pO a63 l62.length c64) rfl (.p rfl) tS rfl) (aN 2 (by kernel_rfl) (eA rfl rfl rfl rfl rfl rfl (gz hx82) (bu 4 (by kernel_rfl) rfl rfl rfl rfl (fZ (enc:=eS) rfl rfl rfl (fun _=>rfl) (.p rfl) (.p rfl) (fun _=>hm83)) (bu 5 (by kernel_rfl) rfl rfl rfl rfl (ep (p:=pS m83) rfl (.p rfl) rfl) (aN 6 (by kernel_rfl) (aT rfl rfl rfl rfl (bT rfl rfl rfl rfl rfl (ez rfl kg) rfl rfl rfl rfl (fun b84=>aN 7 (by kernel_rfl) ?_)))))))))
         refine aT rfl rfl rfl rfl (fb (enc:=eS) rfl rfl rfl rfl rfl rfl rfl rfl rfl fH (by exact ba bd) hl86 (fun a87 c88=>?_))
         refine bu 8 (by kernel_rfl) rfl rfl rfl rfl (aR rfl rfl rfl rfl rfl (.p rfl)) (aN 9 (by kernel_rfl) (bq rfl rfl rfl (aj (vs:=[pO a87 l86.length c88]) rfl rfl rfl rfl rfl (cG (cG cA)) (bP (bP (bP ed))) (cq (by kernel_rfl) ?_))))
         exact fw (a87,c88) (Bj rfl) (cR (ba (ba (ba bd))) (cR (ba (ba bd)) (cR (ba (ba bd)) dN))) trivial
        skip
        refine eA rfl rfl rfl rfl rfl rfl (gz hx82) (bu 4 (by kernel_rfl) rfl rfl rfl rfl (fZ (enc:=eS) rfl rfl rfl (fun _=>rfl) (.p rfl) (.p rfl) (fun _=>hm83)) (bu 5 (by kernel_rfl) rfl rfl rfl rfl (ep (p:=pS m83) rfl (.p rfl) rfl) ?_))
        refine eM 1 6 (by kernel_rfl) ?_ ?_
        ·skip
         refine aT rfl rfl rfl rfl (eU (bX (p:=pO a63 l62.length c64) rfl (.p rfl) tS rfl) (aN 6 (by kernel_rfl) (aT rfl rfl rfl rfl (bT rfl rfl rfl rfl rfl (ez rfl kg) rfl rfl rfl rfl (fun b84=>aN 7 (by kernel_rfl) ?_)))))
         refine aT rfl rfl rfl rfl (fb (enc:=eS) rfl rfl rfl rfl rfl rfl rfl rfl rfl fH (by exact ba bd) hl86 (fun a87 c88=>?_))
         refine bu 8 (by kernel_rfl) rfl rfl rfl rfl (aR rfl rfl rfl rfl rfl (.p rfl)) (aN 9 (by kernel_rfl) (bq rfl rfl rfl (aj (vs:=[pO a87 l86.length c88]) rfl rfl rfl rfl rfl (cG (cG cA)) (bP (bP (bP ed))) (cq (by kernel_rfl) ?_))))
         exact fw (a87,c88) (Bj rfl) (cR (ba (ba (ba bd))) (cR (ba (ba bd)) (cR (ba (ba bd)) dN))) trivial
        skip
        refine aT rfl rfl rfl rfl (bT rfl rfl rfl rfl rfl (ez rfl kg) rfl rfl rfl rfl (fun b84=>aN 1 (by kernel_rfl) (aT rfl rfl rfl rfl (eU (bX (p:=pO a63 l62.length c64) rfl (.p rfl) Dz rfl) (aN 7 (by kernel_rfl) ?_)))))
        refine aT rfl rfl rfl rfl (fb (enc:=eS) rfl rfl rfl rfl rfl rfl rfl rfl rfl fH (by exact ba bd) hl86 (fun a87 c88=>?_))
        refine bu 8 (by kernel_rfl) rfl rfl rfl rfl (aR rfl rfl rfl rfl rfl (.p rfl)) (aN 9 (by kernel_rfl) (bq rfl rfl rfl (aj (vs:=[pO a87 l86.length c88]) rfl rfl rfl rfl rfl (cG (cG cA)) (bP (bP (bP ed))) (cq (by kernel_rfl) ?_))))
        exact fw (a87,c88) (Bj rfl) (cR (ba (ba (ba bd))) (cR (ba (ba bd)) (cR (ba (ba bd)) dN))) trivial
       rintro ⟨a87,c88⟩ τ ρ1 hsub90 _;(try dsimp only at hsub90);dsimp only [aM]
       refine aA ?_
       obtain rfl:=osi hq79
       exact az ((a87,c88),l86) (Bj rfl) (PSub.trans zs4 hsub90) rfl
      refine ag ?_
      refine aA ?_
      obtain rfl:=osi hq79
      exact az ((a63,c64),l62) (Bj rfl) zs4 rfl
     rintro ⟨⟨a76,c77⟩,l78⟩ τ hz;(try dsimp only at hz);subst q79;(try dsimp only at hb70);dsimp only [aM]
     refine ah [81,82] [(9,pI (IntKind.i64.wrap (v60+1)))] (by kernel_rfl) ?_
     exact ck hb70 (a76,c77) (Bj rfl) zs4
    refine bA ?_
    refine aW (aQ hb70 (fun ht=>aS rfl ?_))
    exact az ((a63,c64),l62) (si rfl) zs4 ht.symm
   rintro ⟨⟨a67,c68⟩,l69⟩ τ hz;(try dsimp only at hz);subst q71;(try dsimp only at hb33);dsimp only [aM]
   refine ae (aq 1 [(97,pO a24 l23.length c25)] (by kernel_rfl) ?_)
   refine oP (css:=List.map eS l69) (a:=a67) (by exact ba (ba (ba bd))) ?_
   refine lB (k:=3) (enc:=eS) (xs:=l69) (b:=b41) (a:=a67) rfl fH (cG (cG cA)) (hZ 1 [2] [(98,.agg [pI (IntKind.i64.wrap (3+(IntKind.i64.wrap (2*v26)))),pI (IntKind.i64.wrap (1+x36.1)),pS x38.1,pL eS l69,pI v55,pI x39.1,pI (IntKind.i64.wrap ((IntKind.i64.wrap (x39.1+1))+x42.1)),pI v47,pI x40.1.Rate,pI x40.1.Amount,pI x40.1.Per,pB x40.1.HasMost,pI x40.1.Most,pB x40.1.HasLeast,pI x40.1.Least])] (by kernel_rfl) (ak rfl (bT rfl rfl rfl rfl rfl (ez rfl kg) rfl rfl rfl rfl (fun b91=>aa hb33 fun l93 hl93 hb33=>?_))))
   refine ak rfl (fb (enc:=Zb.enc) rfl rfl rfl rfl rfl rfl rfl rfl rfl fH (by exact ba (ba (ba (ba bd)))) hl93 (fun a94 c95=>?_))
   refine aD [(4,pO a94 l93.length c95)] (by kernel_rfl) (aA (ar (ah [31,32] [(5,pI (IntKind.i64.wrap (v26+1)))] (by kernel_rfl) ?_)))
   exact ck hb33 (a94,c95) (mN rfl) (cR (ba (ba (ba bd))) dN)
  refine bA ?_
  refine aW (aQ hb33 (fun ht=>aS rfl ?_))
  exact az ((a24,c25),l23) (wF rfl) (cR (ba bd) cM) ht.symm
 rintro ⟨⟨a30,c31⟩,l32⟩ τ hz;(try dsimp only at hz);subst q34;(try dsimp only at h);dsimp only [aM]
 refine af (ah [101] [(2,pO a30 l32.length c31)] (by kernel_rfl) (ar ?_))
 refine iQ (enc:=Zb.enc) (xs:=l32) 2 rfl (by exact bd) ?_
 refine cC ?_
 exact zz r h rfl
def gP (p0:Ze):Option (Bool×Ze):=some ((decide (p0.I<(p0.L.length:Int))),p0)
theorem nJ {p0:Ze} {b0:Nat} {r:(Bool×Ze)}  (h:gP p0=some r):PCall 56 [pP b0 0] [PRes.b b0 75 [pL eI p0.L,pI p0.I]] (fun pv ρ'=>pv=pB r.1∧ρ'=[PRes.b b0 75 [pL eI r.2.L,pI r.2.I]]):=by
 unfold gP at h
 refine fy Tryz.func56 rfl Tryz.ntmps56 Tryz.results56 rfl (aU [2] (by kernel_rfl) (cL (du (ρd:=[]) [(0,0),(1,0),(2,0),(3,0),(4,0),(5,0),(6,0),(7,0),(8,0),(9,0),(10,0)] _ (List.Perm.refl _) (by kernel_rfl) rfl (wS 11 [0,0] (rg 3 10) [(2,pB (decide (p0.I<(p0.L.length:Int))))] (by kernel_rfl) (ef (ej ?_))))))
 obtain rfl:=osi h
 exact aG (fL (aI rfl)) dN ⟨rfl,rfl⟩
def kB (p0:Ze) (p1:Int) (p2:Int):Option (Int×Ze):=(an p0 5).bind fun x1=>cond (x1.1 == 4) ((an x1.2 p2).bind fun x3=>some (x3.1,x3.2)) ((an x1.2 p1).bind fun x4=>some (x4.1,x4.2))
theorem tx {p0:Ze} {p1:Int} {p2:Int} {b0:Nat} {r:(Int×Ze)}  (h:kB p0 p1 p2=some r):PCall 57 [pP b0 0,pI p1,pI p2] [PRes.b b0 75 [pL eI p0.L,pI p0.I]] (fun pv ρ'=>pv=pI r.1∧ρ'=[PRes.b b0 75 [pL eI r.2.L,pI r.2.I]]):=by
 unfold kB at h
 refine fy Tryz.func57 rfl Tryz.ntmps57 Tryz.results57 rfl (aU [6] (by kernel_rfl) (dQ (aa h fun x1 hx1 h=>ae (aq 1 [(7,pP b0 0)] (by kernel_rfl) ?_))))
 refine ak rfl (aL rfl rfl (ρ1:=[_]) (aB (by exact bd) (List.Perm.refl _)) (am hx1) ?_);rintro _ _ ⟨rfl,rfl⟩
 refine aD [(9,pB (x1.1 == 4))] (by kernel_rfl) (cY rfl h (fun hc2 h=>?_) fun hc2 h=>?_)
 ·refine af ?_
  refine aa h fun x3 hx3 h=>ae (aq 2 [(10,pP b0 0),(11,pI p2)] (by kernel_rfl) ?_)
  refine ak rfl (aL rfl rfl (ρ1:=[_]) (aB (by exact bd) (List.Perm.refl _)) (am hx3) ?_);rintro _ _ ⟨rfl,rfl⟩
  refine aD [(6,pI x3.1)] (by kernel_rfl) (ip ?_)
  obtain rfl:=osi h
  exact aG (fL (aI rfl)) dN ⟨rfl,rfl⟩
 refine ag ?_
 refine fk h fun x4 hx4 h=>ae (aq 2 [(13,pP b0 0),(14,pI p1)] (by kernel_rfl) ?_)
 refine ak rfl (aL rfl rfl (ρ1:=[_]) (aB (by exact bd) (List.Perm.refl _)) (am hx4) ?_);rintro _ _ ⟨rfl,rfl⟩
 refine aD [(6,pI x4.1)] (by kernel_rfl) (ej ?_)
 obtain rfl:=osi h
 exact aG (fL (aI rfl)) dN ⟨rfl,rfl⟩
def gI (p0:(List Int)):Option (List Za):=(kA p0 80).bind fun x1=>(aV (S:=(List Za)×(List Int)×Int) (T:=((List Za))) (fun (l4,l7,v8)=>(gP (⟨l7,v8⟩:Ze)).bind fun x16=>cond (x16.1&&(decide (((l4.length:Nat):Int)<14))) ((an x16.2 3).bind fun x18=>(an x18.2 30).bind fun x19=>(an x19.2 5).bind fun x20=>(an x20.2 8).bind fun x22=>Option.bind (cond (x22.1 == 0) ((an x22.2 2500).bind fun x29=>some (x29.2.L,x29.2.I,x29.1)) (some (x22.2.L,x22.2.I,x19.1))) (fun (l24,v25,v26)=>Option.bind (cond ((IntKind.i64.wrap (1+x20.1)) == 1) ((da).bind fun x38=>(an (⟨l24,v25⟩:Ze) 3).bind fun x39=>(idx x38 x39.1).bind fun m40=>(kB x39.2 5000 1000000000001).bind fun x41=>(an x41.2 3).bind fun x42=>some (x42.2.L,x42.2.I,m40,x41.1,x42.1)) (cond ((IntKind.i64.wrap (1+x20.1)) == 3) ((an (⟨l24,v25⟩:Ze) 6000).bind fun x44=>some (x44.2.L,x44.2.I,ByteArray.empty,x44.1,0)) (cond ((IntKind.i64.wrap (1+x20.1)) == 4) ((da).bind fun x46=>(an (⟨l24,v25⟩:Ze) 3).bind fun x47=>(idx x46 x47.1).bind fun m48=>some (x47.2.L,x47.2.I,m48,0,0)) (cond ((IntKind.i64.wrap (1+x20.1)) == 5) ((an (⟨l24,v25⟩:Ze) 40).bind fun x50=>some (x50.2.L,x50.2.I,ByteArray.empty,x50.1,0)) (some (l24,v25,ByteArray.empty,0,0)))))) (fun (l31,v32,v33,v34,v35)=>(app 64 l4 [(⟨(IntKind.i64.wrap (x18.1*100)),(IntKind.i64.wrap ((Int.tmod (IntKind.i64.wrap ((IntKind.i64.wrap (((l4.length:Nat):Int)*5))+2)) 17)+1)),v26,(IntKind.i64.wrap (1+x20.1)),v33,v34,v35⟩:Za)]).bind fun l53=>some (.inl (l53,l31,v32))))) (some (.inr l4))) FUEL (([]:List Za),x1,0)).bind fun l12=>some l12
theorem o1 {p0:(List Int)} {r:(List Za)}  (h:gI p0=some r):PF 24 [pL eI p0] (pL Za.enc r):=by
 unfold gI at h
 refine bm ?_
 refine fy Tryz.func24 rfl Tryz.ntmps24 Tryz.results24 rfl (aU [2] (by kernel_rfl) (fk h fun x1 hx1 h=>ae (bC 3 [] [6,7] [(8,.agg [pL eI x1,pI 0])] (bK 1 (qK hx1) bZ) (by kernel_rfl) (ak rfl (bV (cs:=[pL eI x1,pI 0]) rfl rfl (fun b2=>aD [(3,pP b2 0)] (by kernel_rfl) (cL (ai [(4,pN)] (by kernel_rfl) (cL (fO 93 7 (aa h fun q14 hq14 h=>?_)))))))))))
 refine aJ (Y:=(Option Addr×Nat)×((List Za))) (fun ((a10,c11),l12)=>[(4,pO a10 l12.length c11)]) (fun ((a10,c11),l12)=>[PRes.row a10 l12.length c11 93 7 (List.map Za.enc l12)]) (fun ((a10,c11),l12)=>q14=l12) ?_ ?_
 ·refine au ?_
  refine bt (Y:=Option Addr×Nat) (S:=(List Za)×(List Int)×Int) _ hq14 (fun (a5,c6) (l4,l7,v8)=>[(3,pP b2 0),(4,pO a5 l4.length c6)]) (fun (a5,c6) (l4,l7,v8)=>[PRes.b b2 75 [pL eI l7,pI v8],PRes.row a5 l4.length c6 93 7 (List.map Za.enc l4)]) (none,0) (pH rfl) (cR (ba bd) dN) ?_
  rintro ⟨a5,c6⟩ ⟨l4,l7,v8⟩ o τ hb13;(try dsimp only at hb13);dsimp only [aM]
  refine af (af (aa hb13 fun x16 hx16 hb13=>ae (aq 1 [(10,pP b2 0)] (by kernel_rfl) ?_)))
  refine ak rfl (aL rfl rfl (ρ1:=[_]) (aB (by exact bd) (List.Perm.refl _)) (nJ hx16) ?_);rintro _ _ ⟨rfl,rfl⟩
  refine lJ [12,13,14,15] [(16,pB (x16.1&&(decide (((l4.length:Nat):Int)<14))))] (by kernel_rfl) (cY rfl hb13 (fun hc17 hb13=>?_) fun hc17 hb13=>?_)
  ·refine ag ?_
   refine ar (au (af (aa hb13 fun x18 hx18 hb13=>ae (aq 1 [(17,pP b2 0)] (by kernel_rfl) ?_))))
   refine ak rfl (aL rfl rfl (ρ1:=[_]) (aB (by exact bd) (List.Perm.refl _)) (am hx18) ?_);rintro _ _ ⟨rfl,rfl⟩
   refine aa hb13 fun x19 hx19 hb13=>bQ 8 (rg 20 5) [(19,pI (IntKind.i64.wrap (x18.1*100))),(25,pI (IntKind.i64.wrap ((Int.tmod (IntKind.i64.wrap ((IntKind.i64.wrap (((l4.length:Nat):Int)*5))+2)) 17)+1))),(26,pP b2 0)] (by kernel_rfl) ?_
   refine ak rfl (aL rfl rfl (ρ1:=[_]) (aB (by exact bd) (List.Perm.refl _)) (am hx19) ?_);rintro _ _ ⟨rfl,rfl⟩
   refine aa hb13 fun x20 hx20 hb13=>aq 1 [(28,pP b2 0)] (by kernel_rfl) ?_
   refine ak rfl (aL rfl rfl (ρ1:=[_]) (aB (by exact bd) (List.Perm.refl _)) (am hx20) ?_);rintro _ _ ⟨rfl,rfl⟩
   refine bQ 2 [30] [(31,.agg [pI (IntKind.i64.wrap (x18.1*100)),pI (IntKind.i64.wrap ((Int.tmod (IntKind.i64.wrap ((IntKind.i64.wrap (((l4.length:Nat):Int)*5))+2)) 17)+1)),pI x19.1,pI (IntKind.i64.wrap (1+x20.1)),pS ByteArray.empty,pI 0,pI 0])] (by kernel_rfl) (ak rfl (aX (cs:=[pI 0,pI 0,pI 0,pI 0,pS ByteArray.empty,pI 0,pI 0]) rfl rfl rfl rfl (fun b21=>aH rfl rfl (aj (vs:=[pI (IntKind.i64.wrap (x18.1*100)),pI (IntKind.i64.wrap ((Int.tmod (IntKind.i64.wrap ((IntKind.i64.wrap (((l4.length:Nat):Int)*5))+2)) 17)+1)),pI x19.1,pI (IntKind.i64.wrap (1+x20.1)),pS ByteArray.empty,pI 0,pI 0]) rfl rfl rfl rfl rfl cA zl7 (ap (dQ (aa hb13 fun x22 hx22 hb13=>ae (aq 1 [(32,pP b2 0)] (by kernel_rfl) ?_))))))))
   refine ak rfl (aL rfl rfl (ρ1:=[_]) (aB (by exact ba bd) (List.Perm.refl _)) (am hx22) ?_);rintro _ _ ⟨rfl,rfl⟩
   refine aD [(34,pB (x22.1 == 0))] (by kernel_rfl) (ar (aa hb13 fun q27 hq27 hb13=>?_))
   refine aJ (Y:=Unit×((List Int)×Int×Int)) (fun (_,(l24,v25,v26))=>[(3,pP b2 0),(4,pO a5 l4.length c6),(5,pP b21 0)]) (fun (_,(l24,v25,v26))=>[PRes.b b2 75 [pL eI l24,pI v25],PRes.b b21 93 [pI (IntKind.i64.wrap (x18.1*100)),pI (IntKind.i64.wrap ((Int.tmod (IntKind.i64.wrap ((IntKind.i64.wrap (((l4.length:Nat):Int)*5))+2)) 17)+1)),pI v26,pI (IntKind.i64.wrap (1+x20.1)),pS ByteArray.empty,pI 0,pI 0],PRes.row a5 l4.length c6 93 7 (List.map Za.enc l4)]) (fun (_,(l24,v25,v26))=>q27=(l24,v25,v26)) ?_ ?_
   ·skip
    refine lE rfl hq27 (fun hc28 hq27=>?_) fun hc28 hq27=>?_
    ·refine aa hq27 ?_;clear hq27;intro x29 hx29 hq27
     refine ae (aq 1 [(35,pP b2 0)] (by kernel_rfl) ?_)
     refine ak rfl (aL rfl rfl (ρ1:=[_]) (aB (by exact bd) (List.Perm.refl _)) (am hx29) ?_);rintro _ _ ⟨rfl,rfl⟩
     refine aq 1 [(37,pP b21 2)] (by kernel_rfl) (aH rfl rfl (aj (vs:=[pI x29.1]) rfl rfl rfl rfl rfl (cG cA) (bP (bP ed)) (ap ?_)))
     obtain rfl:=osi hq27
     exact az ((),(x29.2.L,x29.2.I,x29.1)) (mD rfl) qH rfl
    refine ag ?_
    obtain rfl:=osi hq27
    exact az ((),(x22.2.L,x22.2.I,x19.1)) (mD rfl) qH rfl
   rintro ⟨_,⟨l24,v25,v26⟩⟩ τ hz;(try dsimp only at hz);subst q27;(try dsimp only at hb13);dsimp only [aM]
   refine af (af (aY [1] [38] [(39,pI (IntKind.i64.wrap (1+x20.1)))] (by kernel_rfl) (ar (aa hb13 fun q36 hq36 hb13=>?_))))
   refine aJ (Y:=Unit×((List Int)×Int×ByteArray×Int×Int)) (fun (_,(l31,v32,v33,v34,v35))=>[(3,pP b2 0),(4,pO a5 l4.length c6),(5,pP b21 0)]) (fun (_,(l31,v32,v33,v34,v35))=>[PRes.b b2 75 [pL eI l31,pI v32],PRes.b b21 93 [pI (IntKind.i64.wrap (x18.1*100)),pI (IntKind.i64.wrap ((Int.tmod (IntKind.i64.wrap ((IntKind.i64.wrap (((l4.length:Nat):Int)*5))+2)) 17)+1)),pI v26,pI (IntKind.i64.wrap (1+x20.1)),pS v33,pI v34,pI v35],PRes.row a5 l4.length c6 93 7 (List.map Za.enc l4)]) (fun (_,(l31,v32,v33,v34,v35))=>q36=(l31,v32,v33,v34,v35)) ?_ ?_
   ·skip
    refine au (af (ah [41] [(40,pB ((IntKind.i64.wrap (1+x20.1)) == 1))] (by kernel_rfl) (cY rfl hq36 (fun hc37 hq36=>?_) fun hc37 hq36=>?_)))
    ·refine du (ρd:=[PRes.b b2 _ _,PRes.b b21 _ _]) [(1,0),(5,0),(7,0),(0,1),(2,1),(3,0),(4,0),(9,0),(6,1),(8,1),(10,1),(11,0),(12,1),(13,0),(14,1)] _ (List.Perm.refl _) (by kernel_rfl) rfl ?_
     refine aa hq36 fun x38 hx38 hq36=>aa hq36 fun x39 hx39 hq36=>dJ 4 [] [] [(43,pP b2 0),(47,pP b2 0),(49,pP b2 0),(42,pL eS x38)] (bK 3 (gz hx38) bZ) (by kernel_rfl) ?_
     refine oQ rfl rfl rfl (aL rfl rfl (ρ1:=[_]) (aB (by exact bd) (List.Perm.refl _)) (am hx39) ?_);rintro _ _ ⟨rfl,rfl⟩
     refine aa hq36 fun m40 hm40 hq36=>aa hq36 fun x41 hx41 hq36=>dJ 3 [] [45] [(46,pS m40),(51,pP b21 4)] (jX 0 eS hm40 bZ) (by kernel_rfl) ?_
     refine oQ rfl rfl rfl (aL rfl rfl (ρ1:=[_]) (aB (by exact bd) (List.Perm.refl _)) (tx hx41) ?_);rintro _ _ ⟨rfl,rfl⟩
     refine aa hq36 fun x42 hx42 hq36=>?_
     refine oQ rfl rfl rfl (aL rfl rfl (ρ1:=[_]) (aB (by exact bd) (List.Perm.refl _)) (am hx42) ?_);rintro _ _ ⟨rfl,rfl⟩
     refine va rfl rfl (aj (vs:=[pS m40]) rfl rfl rfl rfl rfl (cG cA) (bP (bP (bP (bP ed)))) (oZ 1 [(52,pP b21 5)] (by kernel_rfl) (va rfl rfl (aj (vs:=[pI x41.1]) rfl rfl rfl rfl rfl (cG cA) (bP (bP (bP (bP (bP ed))))) (oZ 1 [(53,pP b21 6)] (by kernel_rfl) (va rfl rfl (aj (vs:=[pI x42.1]) rfl rfl rfl rfl rfl (cG cA) (bP (bP (bP (bP (bP (bP ed)))))) (ef (aA ?_)))))))))
     obtain rfl:=osi hq36
     exact az ((),(x42.2.L,x42.2.I,m40,x41.1,x42.1)) (mD rfl) qH rfl
    refine af ?_
    refine ah [55] [(54,pB ((IntKind.i64.wrap (1+x20.1)) == 3))] (by kernel_rfl) (cY rfl hq36 (fun hc43 hq36=>?_) fun hc43 hq36=>?_)
    ·refine aa hq36 ?_;clear hq36;intro x44 hx44 hq36
     refine ae (aq 1 [(56,pP b2 0)] (by kernel_rfl) ?_)
     refine ak rfl (aL rfl rfl (ρ1:=[_]) (aB (by exact bd) (List.Perm.refl _)) (am hx44) ?_);rintro _ _ ⟨rfl,rfl⟩
     refine aq 1 [(58,pP b21 5)] (by kernel_rfl) (aH rfl rfl (aj (vs:=[pI x44.1]) rfl rfl rfl rfl rfl (cG cA) (bP (bP (bP (bP (bP ed))))) (ap (aA ?_))))
     obtain rfl:=osi hq36
     exact az ((),(x44.2.L,x44.2.I,ByteArray.empty,x44.1,0)) (mD rfl) qH rfl
    refine af ?_
    refine ah [60] [(59,pB ((IntKind.i64.wrap (1+x20.1)) == 4))] (by kernel_rfl) (cY rfl hq36 (fun hc45 hq36=>?_) fun hc45 hq36=>?_)
    ·refine aa hq36 ?_;clear hq36;intro x46 hx46 hq36
     refine aa hq36 fun x47 hx47 hq36=>ae (bC 2 [] [] [(61,pL eS x46),(62,pP b2 0)] (bK 0 (gz hx46) bZ) (by kernel_rfl) ?_)
     refine ak rfl (aL rfl rfl (ρ1:=[_]) (aB (by exact bd) (List.Perm.refl _)) (am hx47) ?_);rintro _ _ ⟨rfl,rfl⟩
     refine aa hq36 fun m48 hm48 hq36=>bC 3 [] [64] [(65,pS m48),(66,pP b21 4)] (jX 0 eS hm48 bZ) (by kernel_rfl) (aH rfl rfl (aj (vs:=[pS m48]) rfl rfl rfl rfl rfl (cG cA) (bP (bP (bP (bP ed)))) (ap (aA ?_))))
     obtain rfl:=osi hq36
     exact az ((),(x47.2.L,x47.2.I,m48,0,0)) (mD rfl) qH rfl
    refine af ?_
    refine ah [68] [(67,pB ((IntKind.i64.wrap (1+x20.1)) == 5))] (by kernel_rfl) (cY rfl hq36 (fun hc49 hq36=>?_) fun hc49 hq36=>?_)
    ·refine aa hq36 ?_;clear hq36;intro x50 hx50 hq36
     refine ae (aq 1 [(69,pP b2 0)] (by kernel_rfl) ?_)
     refine ak rfl (aL rfl rfl (ρ1:=[_]) (aB (by exact bd) (List.Perm.refl _)) (am hx50) ?_);rintro _ _ ⟨rfl,rfl⟩
     refine aq 1 [(71,pP b21 5)] (by kernel_rfl) (aH rfl rfl (aj (vs:=[pI x50.1]) rfl rfl rfl rfl rfl (cG cA) (bP (bP (bP (bP (bP ed))))) (ap (aA ?_))))
     obtain rfl:=osi hq36
     exact az ((),(x50.2.L,x50.2.I,ByteArray.empty,x50.1,0)) (mD rfl) qH rfl
    refine ag ?_
    refine aA ?_
    obtain rfl:=osi hq36
    exact az ((),(l24,v25,ByteArray.empty,0,0)) (mD rfl) qH rfl
   rintro ⟨_,⟨l31,v32,v33,v34,v35⟩⟩ τ hz;(try dsimp only at hz);subst q36;(try dsimp only at hb13);dsimp only [aM]
   refine ae (hZ 2 [1] [(72,pO a5 l4.length c6),(73,.agg [pI (IntKind.i64.wrap (x18.1*100)),pI (IntKind.i64.wrap ((Int.tmod (IntKind.i64.wrap ((IntKind.i64.wrap (((l4.length:Nat):Int)*5))+2)) 17)+1)),pI v26,pI (IntKind.i64.wrap (1+x20.1)),pS v33,pI v34,pI v35])] (by kernel_rfl) (ak rfl (bT rfl rfl rfl rfl rfl (ez rfl kg) rfl rfl rfl rfl (fun b51=>aa hb13 fun l53 hl53 hb13=>?_))))
   refine ak rfl (fb (enc:=Za.enc) rfl rfl rfl rfl rfl rfl rfl rfl rfl fH (by exact ba (ba (ba bd))) hl53 (fun a54 c55=>?_))
   refine aD [(4,pO a54 l53.length c55)] (by kernel_rfl) (aA ?_)
   exact ck hb13 (a54,c55) (pH rfl) (cR (ba (ba bd)) dN)
  refine bA ?_
  refine aW (aQ hb13 (fun ht=>aS rfl ?_))
  exact az ((a5,c6),l4) (wF rfl) (cR (ba bd) cM) ht.symm
 rintro ⟨⟨a10,c11⟩,l12⟩ τ hz;(try dsimp only at hz);subst q14;(try dsimp only at h);dsimp only [aM]
 refine af (ah [76] [(2,pO a10 l12.length c11)] (by kernel_rfl) (ar ?_))
 refine iQ (enc:=Za.enc) (xs:=l12) 2 rfl (by exact bd) ?_
 refine cC ?_
 exact zz r h rfl
def dP (p0:ByteArray):Option Bool:=(gd ((p0.size:Int) == 2) (idx p0.data.toList 0)).bind fun c1=>(gd (((p0.size:Int) == 2)&&(decide (65≤(c1.toNat:Int)))) (idx p0.data.toList 0)).bind fun c2=>(gd ((((p0.size:Int) == 2)&&(decide (65≤(c1.toNat:Int))))&&(decide ((c2.toNat:Int)≤90))) (idx p0.data.toList 1)).bind fun c3=>(gd (((((p0.size:Int) == 2)&&(decide (65≤(c1.toNat:Int))))&&(decide ((c2.toNat:Int)≤90)))&&(decide (65≤(c3.toNat:Int)))) (idx p0.data.toList 1)).bind fun c4=>some ((((((p0.size:Int) == 2)&&(decide (65≤(c1.toNat:Int))))&&(decide ((c2.toNat:Int)≤90)))&&(decide (65≤(c3.toNat:Int))))&&(decide ((c4.toNat:Int)≤90)))
def nZ (p0:Za):Option Bool:=cond ((((((((decide (p0.From<0))||(decide (999<p0.From)))||(decide (p0.Number<1)))||(decide (1000000000<p0.Number)))||(decide (p0.Day<0)))||(decide (36524<p0.Day)))||(decide (p0.Kind<1)))||(decide (5<p0.Kind))) (some false) (Option.bind (cond (p0.Kind == 1) (some (1000000000000,true,999)) (cond (p0.Kind == 3) (some (1000000000000,false,0)) (cond (p0.Kind == 4) (some (0,true,0)) (cond (p0.Kind == 5) (some (1000000000,false,0)) (some (0,false,0)))))) (fun (v3,v4,v5)=>(gd v4 (dP p0.Country)).bind fun x11=>cond ((v4&&(!x11))||((!v4)&&(!decide (p0.Country=(⟨#[]⟩:ByteArray))))) (some false) (some ((((decide (0≤p0.Amount))&&(decide (p0.Amount≤v3)))&&(decide (0≤p0.Company)))&&(decide (p0.Company≤v5))))))
def mu (p0:Za) (p1:Za):Option Bool:=some ((decide (p0.From<p1.From))||((p0.From == p1.From)&&(decide (p0.Number<p1.Number))))
def mY (p0:ByteArray):Option Bool:=(aV (S:=Int) (T:=(Unit)⊕(_)) (fun v1=>cond (decide (v1<(p0.size:Int))) ((idx p0.data.toList v1).bind fun c5=>(gd (!(decide ((c5.toNat:Int)<48))) (idx p0.data.toList v1)).bind fun c6=>cond ((decide ((c5.toNat:Int)<48))||(decide (57<(c6.toNat:Int)))) (some (.inr (.inr false))) (some (.inl (IntKind.i64.wrap (v1+1))))) (some (.inr (.inl ())))) FUEL 0).bind fun q=>match q with | .inl _=>some ((p0.size:Int) == 8) | .inr e=>some e
def lr (p0:Int) (p1:ByteArray) (p2:Int):Option (Zm×Int):=(gd (!((decide (p0<1))||(decide (1000000<p0)))) (mY p1)).bind fun x2=>cond (((((decide (p0<1))||(decide (1000000<p0)))||(!x2))||(decide (p2<1)))||(decide (1000000000<p2))) (some ((⟨0,ByteArray.empty,0,[]⟩:Zm),(2:Int))) (some ((⟨p0,p1,p2,[]⟩:Zm),(0:Int)))
def oa (p0:Zm):Option Int:=(lr p0.Source p0.Code p0.Units).bind fun x2=>cond (x2.2 != 0) (some x2.2) (cond (decide (200<(p0.Facts.length:Int))) (some (8:Int)) ((aV (S:=Int) (T:=(Unit)⊕(_)) (fun v6=>cond (decide (v6<(p0.Facts.length:Int))) ((idx p0.Facts v6).bind fun m10=>(nZ m10).bind fun x11=>cond (!x11) (some (.inr (.inr (2:Int)))) (some (.inl (IntKind.i64.wrap (v6+1))))) (some (.inr (.inl ())))) FUEL 0).bind fun q=>match q with | .inl _=>(aV (S:=Int) (T:=(Unit)⊕(_)) (fun v13=>cond (decide (v13<(p0.Facts.length:Int))) ((idx p0.Facts (IntKind.i64.wrap (v13 - 1))).bind fun m17=>(idx p0.Facts v13).bind fun m18=>(mu m17 m18).bind fun x19=>cond (!x19) (some (.inr (.inr (9:Int)))) (some (.inl (IntKind.i64.wrap (v13+1))))) (some (.inr (.inl ())))) FUEL 1).bind (fun q=>match q with | .inl _=>some (0:Int) | .inr e=>some e) | .inr e=>some e))
def ob  : Option (List ByteArray):=some [(⟨#[49,48,48,48,48,48,48,48]⟩:ByteArray),(⟨#[50,48,48,48,48,48,48,48]⟩:ByteArray),(⟨#[51,48,48,48,48,48,48,48]⟩:ByteArray),(⟨#[52,48,48,48,48,48,48,48]⟩:ByteArray)]
theorem tz  {r:(List ByteArray)}  (h:ob  = some r):PF 16 [] (pL eS r):=by
 unfold ob at h
 refine bm ?_
 refine fy Tryz.func16 rfl Tryz.ntmps16 Tryz.results16 rfl (aU [0] (by kernel_rfl) (cL (ae (ak rfl (bT rfl rfl rfl rfl rfl (ez rfl (ez rfl (ez rfl (ez rfl kg)))) rfl rfl rfl rfl (fun b1=>aD [(0,pO (some ⟨b1,0,none⟩) 4 4)] (by kernel_rfl) (ar ?_)))))))
 refine iQ (enc:=eS) (xs:=[(⟨#[49,48,48,48,48,48,48,48]⟩:ByteArray),(⟨#[50,48,48,48,48,48,48,48]⟩:ByteArray),(⟨#[51,48,48,48,48,48,48,48]⟩:ByteArray),(⟨#[52,48,48,48,48,48,48,48]⟩:ByteArray)]) 0 rfl (by exact bd) ?_
 refine cC ?_
 exact zz r h rfl
def eX (p0:Int) (p1:ByteArray) (p2:Int):Option Bool:=cond (((((decide (p0<1))||(decide (1000000<p0)))||(decide (p2<1)))||(decide (1000000000<p2)))||((p1.size:Int) != 8)) (some false) ((aV (S:=Int) (T:=(Unit)⊕(_)) (fun v2=>cond (decide (v2<(p1.size:Int))) ((idx p1.data.toList v2).bind fun c6=>(gd (!(decide ((c6.toNat:Int)<48))) (idx p1.data.toList v2)).bind fun c7=>cond ((decide ((c6.toNat:Int)<48))||(decide (57<(c7.toNat:Int)))) (some (.inr (.inr false))) (some (.inl (IntKind.i64.wrap (v2+1))))) (some (.inr (.inl ())))) FUEL 0).bind fun q=>match q with | .inl _=>some true | .inr e=>some e)
theorem kC {p0:Int} {p1:ByteArray} {p2:Int} {r:Bool}  (h:eX p0 p1 p2=some r):PF 84 [pI p0,pS p1,pI p2] (pB r):=by
 unfold eX at h
 refine bm ?_
 refine fy Tryz.func84 rfl Tryz.ntmps84 Tryz.results84 rfl (aU [6] (by kernel_rfl) (dQ (ah (rg 8 18) [(26,pB (((((decide (p0<1))||(decide (1000000<p0)))||(decide (p2<1)))||(decide (1000000000<p2)))||((p1.size:Int) != 8)))] (by kernel_rfl) (cY rfl h (fun hc1 h=>?_) fun hc1 h=>?_))))
 ·refine af ?_
  refine ai [(6,pB false)] (by kernel_rfl) (ip ?_)
  exact zz r h rfl
 refine ag ?_
 refine dQ (ah [27] [(28,pI (p1.size:Int)),(29,pI 0)] (by kernel_rfl) (ar (aa h fun q4 hq4 h=>?_)))
 refine aJ (Y:=Unit×Unit) (fun (_,_)=>[]) (fun (_,_)=>[]) (fun (_,_)=>q4=Sum.inl ()) ?_ ?_
 ·refine au ?_
  refine bt (Y:=Unit) (S:=Int) _ hq4 (fun _ v2=>[(1,pS p1),(28,pI (p1.size:Int)),(29,pI v2)]) (fun _ v2=>[]) () (mD rfl) cM ?_
  rintro _ v2 o τ hb3;(try dsimp only at hb3);dsimp only [aM]
  refine af (ai [(30,pB (decide (v2<(p1.size:Int))))] (by kernel_rfl) (cL (lE rfl hb3 (fun hc5 hb3=>?_) fun hc5 hb3=>?_)))
  ·refine ag ?_
   refine cL (au (af (ah [31] [(7,pI v2)] (by kernel_rfl) (fk hb3 fun c6 hc6 hb3=>aa hb3 fun c7 hc7 hb3=>aw [] (rg 32 9) [(41,pB ((decide ((c6.toNat:Int)<48))||(decide (57<(c7.toNat:Int)))))] (fosx 2 hc6 (sm 7 (gF hc7) bZ)) (by kernel_rfl) (cY rfl hb3 (fun hc8 hb3=>?_) fun hc8 hb3=>?_)))))
   ·refine af ?_
    refine ai [(6,pB false)] (by kernel_rfl) (ej (av (aK ?_)))
    refine bU hb3 (fun ht=>?_);subst ht
    refine av (bz ?_)
    exact zz r h rfl
   refine ag ?_
   refine aA (ar (ah [42] [(29,pI (IntKind.i64.wrap (v2+1)))] (by kernel_rfl) ?_))
   exact ck hb3 () (mD rfl) cM
  refine bA ?_
  refine aW (aQ hb3 (fun ht=>aS rfl ?_))
  exact az ((),()) tq cM ht.symm
 rintro ⟨_,_⟩ τ hz;(try dsimp only at hz);subst q4;(try dsimp only at h);dsimp only [aM]
 refine af (ai [(6,pB true)] (by kernel_rfl) (ej ?_))
 exact zz r h rfl
def dM (p0:ByteArray):Option Bool:=(gd ((p0.size:Int) == 2) (idx p0.data.toList 0)).bind fun c1=>(gd (((p0.size:Int) == 2)&&(decide (65≤(c1.toNat:Int)))) (idx p0.data.toList 0)).bind fun c2=>(gd ((((p0.size:Int) == 2)&&(decide (65≤(c1.toNat:Int))))&&(decide ((c2.toNat:Int)≤90))) (idx p0.data.toList 1)).bind fun c3=>(gd (((((p0.size:Int) == 2)&&(decide (65≤(c1.toNat:Int))))&&(decide ((c2.toNat:Int)≤90)))&&(decide (65≤(c3.toNat:Int)))) (idx p0.data.toList 1)).bind fun c4=>some ((((((p0.size:Int) == 2)&&(decide (65≤(c1.toNat:Int))))&&(decide ((c2.toNat:Int)≤90)))&&(decide (65≤(c3.toNat:Int))))&&(decide ((c4.toNat:Int)≤90)))
theorem mJ {p0:ByteArray} {r:Bool}  (h:dM p0=some r):PF 123 [pS p0] (pB r):=by
 unfold dM at h
 refine bm ?_
 refine fy Tryz.func123 rfl Tryz.ntmps123 Tryz.results123 rfl (aU [2] (by kernel_rfl) (fk h fun c1 hc1 h=>aa h fun c2 hc2 h=>aa h fun c3 hc3 h=>aa h fun c4 hc4 h=>aw [] (rg 3 23) [(2,pB ((((((p0.size:Int) == 2)&&(decide (65≤(c1.toNat:Int))))&&(decide ((c2.toNat:Int)≤90)))&&(decide (65≤(c3.toNat:Int))))&&(decide ((c4.toNat:Int)≤90))))] (sm 5 (gF hc1) (sm 10 (gF hc2) (sm 15 (gF hc3) (sm 20 (gF hc4) bZ)))) (by kernel_rfl) (ej ?_)))
 exact zz r h rfl
def eY (p0:Za):Option Bool:=cond ((((((decide (p0.From<0))||(decide (999<p0.From)))||(decide (p0.Number<1)))||(decide (1000000000<p0.Number)))||(decide (p0.Day<0)))||(decide (36524<p0.Day))) (some false) (Option.bind (α:=(Int×Int×Bool)⊕_) (cond (p0.Kind == 1) (some (.inl (1000000000000,999,true))) (cond (p0.Kind == 2) (some (.inl (0,0,false))) (cond (p0.Kind == 3) (some (.inl (1000000000000,0,false))) (cond (p0.Kind == 4) (some (.inl (0,0,true))) (cond (p0.Kind == 5) (some (.inl (1000000000,0,false))) (some (.inr false))))))) (fun q=>match q with | .inl (v3,v4,v5)=>(gd v5 (dM p0.Country)).bind (fun x12=>cond ((v5&&(!x12))||((!v5)&&(!decide (p0.Country=(⟨#[]⟩:ByteArray))))) (some false) (some ((((decide (0≤p0.Amount))&&(decide (p0.Amount≤v3)))&&(decide (0≤p0.Company)))&&(decide (p0.Company≤v4))))) | .inr e=>some e))
theorem kD {p0:Za} {r:Bool}  (h:eY p0=some r):PF 85 [.agg (aF p0)] (pB r):=by
 unfold eY at h
 refine bm ?_
 refine fy Tryz.func85 rfl Tryz.ntmps85 Tryz.results85 rfl (ae (ak rfl (bV (cs:=(aF p0)) rfl rfl (fun b1=>bY [2] (by kernel_rfl) (dQ (aY [0,0,0,0,0,0] (rg 6 27) [(33,pB ((((((decide (p0.From<0))||(decide (999<p0.From)))||(decide (p0.Number<1)))||(decide (1000000000<p0.Number)))||(decide (p0.Day<0)))||(decide (36524<p0.Day))))] (by kernel_rfl) (cY rfl h (fun hc2 h=>?_) fun hc2 h=>?_)))))))
 ·refine af ?_
  refine ai [(2,pB false)] (by kernel_rfl) (ip ?_)
  exact zz r h rfl
 refine ag ?_
 refine cL (ai [(3,pI 0),(4,pI 0),(5,pB false)] (by kernel_rfl) (dQ (aY [0] [34] [(35,pI p0.Kind)] (by kernel_rfl) (ar (aa h fun q6 hq6 h=>?_)))))
 refine aJ (Y:=Unit×(Int×Int×Bool)) (fun (_,(v3,v4,v5))=>[(1,pP b1 0),(3,pI v3),(4,pI v4),(5,pB v5)]) (fun (_,(v3,v4,v5))=>[PRes.b b1 93 (aF p0)]) (fun (_,(v3,v4,v5))=>q6=Sum.inl (v3,v4,v5)) ?_ ?_
 ·skip
  refine au (af (ah [37] [(36,pB (p0.Kind == 1))] (by kernel_rfl) (cY rfl hq6 (fun hc7 hq6=>?_) fun hc7 hq6=>?_)))
  ·refine ai [(3,pI 1000000000000),(4,pI 999),(5,pB true)] (by kernel_rfl) ?_
   refine aA ?_
   obtain rfl:=osi hq6
   exact az ((),(1000000000000,999,true)) (mN rfl) dN rfl
  refine af ?_
  refine ah [39] [(38,pB (p0.Kind == 2))] (by kernel_rfl) (cY rfl hq6 (fun hc8 hq6=>?_) fun hc8 hq6=>?_)
  ·refine ag ?_
   refine aA ?_
   obtain rfl:=osi hq6
   exact az ((),(0,0,false)) (mN rfl) dN rfl
  refine af ?_
  refine ah [41] [(40,pB (p0.Kind == 3))] (by kernel_rfl) (cY rfl hq6 (fun hc9 hq6=>?_) fun hc9 hq6=>?_)
  ·refine ai [(3,pI 1000000000000)] (by kernel_rfl) ?_
   refine aA ?_
   obtain rfl:=osi hq6
   exact az ((),(1000000000000,0,false)) (mN rfl) dN rfl
  refine af ?_
  refine ah [43] [(42,pB (p0.Kind == 4))] (by kernel_rfl) (cY rfl hq6 (fun hc10 hq6=>?_) fun hc10 hq6=>?_)
  ·refine ai [(5,pB true)] (by kernel_rfl) ?_
   refine aA ?_
   obtain rfl:=osi hq6
   exact az ((),(0,0,true)) (mN rfl) dN rfl
  refine af ?_
  refine ah [45] [(44,pB (p0.Kind == 5))] (by kernel_rfl) (cY rfl hq6 (fun hc11 hq6=>?_) fun hc11 hq6=>?_)
  ·refine ai [(3,pI 1000000000)] (by kernel_rfl) ?_
   refine aA ?_
   obtain rfl:=osi hq6
   exact az ((),(1000000000,0,false)) (mN rfl) dN rfl
  refine af ?_
  refine ai [(2,pB false)] (by kernel_rfl) (ej (av (bz ?_)))
  obtain rfl:=osi hq6
  exact zz r h rfl
 rintro ⟨_,⟨v3,v4,v5⟩⟩ τ hz;(try dsimp only at hz);subst q6;(try dsimp only at h);dsimp only [aM]
 refine af (af (aa h fun x12 hx12 h=>aw [0,0] (rg 46 15) [(61,pB ((v5&&(!x12))||((!v5)&&(!decide (p0.Country=(⟨#[]⟩:ByteArray))))))] (kU 4 (fun hc=>mJ (gF hx12 hc)) bZ) (by kernel_rfl) (cY rfl h (fun hc13 h=>?_) fun hc13 h=>?_)))
 ·refine af ?_
  refine ai [(2,pB false)] (by kernel_rfl) (ip ?_)
  exact zz r h rfl
 refine ag ?_
 refine cL (aY [0,0,0,0] (rg 62 20) [(2,pB ((((decide (0≤p0.Amount))&&(decide (p0.Amount≤v3)))&&(decide (0≤p0.Company)))&&(decide (p0.Company≤v4))))] (by kernel_rfl) (ej ?_))
 exact zz r h rfl
def jo (p0:(List Int)):Option Int:=(aV (S:=Int) (T:=(Unit)⊕(_)) (fun v1=>cond (decide (v1<(p0.length:Int))) ((idx p0 v1).bind fun m5=>cond (m5 != 0) (some (.inr (.inr m5))) (some (.inl (IntKind.i64.wrap (v1+1))))) (some (.inr (.inl ())))) FUEL 0).bind fun q=>match q with | .inl _=>some (0:Int) | .inr e=>some e
theorem nP {p0:(List Int)} {r:Int}  (h:jo p0=some r):PF 39 [pL eI p0] (pI r):=by
 unfold jo at h
 refine bm ?_
 refine fy Tryz.func39 rfl Tryz.ntmps39 Tryz.results39 rfl (aU [2] (by kernel_rfl) (cL (ai [(3,pI 0)] (by kernel_rfl) (dQ (ai [(6,pL eI p0),(7,pI (p0.length:Int)),(8,pI 0)] (by kernel_rfl) (ar (aa h fun q3 hq3 h=>?_)))))))
 refine aJ (Y:=Unit×Unit) (fun (_,_)=>[(3,pI 0)]) (fun (_,_)=>[]) (fun (_,_)=>q3=Sum.inl ()) ?_ ?_
 ·refine au ?_
  refine bt (Y:=Unit) (S:=Int) _ hq3 (fun _ v1=>[(3,pI 0),(6,pL eI p0),(7,pI (p0.length:Int)),(8,pI v1)]) (fun _ v1=>[]) () (mN rfl) cM ?_
  rintro _ v1 o τ hb2;(try dsimp only at hb2);dsimp only [aM]
  refine af (ai [(9,pB (decide (v1<(p0.length:Int))))] (by kernel_rfl) (cL (lE rfl hb2 (fun hc4 hb2=>?_) fun hc4 hb2=>?_)))
  ·refine ag ?_
   refine cL (au (af (aa hb2 fun m5 hm5 hb2=>aw [] [10,11] [(5,pI m5)] (jX 0 eI hm5 bZ) (by kernel_rfl) (cL (ah [12,13] [(14,pB (m5 != 0))] (by kernel_rfl) (cY rfl hb2 (fun hc6 hb2=>?_) fun hc6 hb2=>?_))))))
   ·refine af ?_
    refine ah [15] [(2,pI m5)] (by kernel_rfl) (ej (av (aK ?_)))
    refine bU hb2 (fun ht=>?_);subst ht
    refine av (bz ?_)
    exact zz r h rfl
   refine ag ?_
   refine aA (ar (ah [16] [(8,pI (IntKind.i64.wrap (v1+1)))] (by kernel_rfl) ?_))
   exact ck hb2 () (mN rfl) cM
  refine bA ?_
  refine aW (aQ hb2 (fun ht=>aS rfl ?_))
  exact az ((),()) (wF rfl) cM ht.symm
 rintro ⟨_,_⟩ τ hz;(try dsimp only at hz);subst q3;(try dsimp only at h);dsimp only [aM]
 refine af (ah [17] [(2,pI 0)] (by kernel_rfl) (ej ?_))
 exact zz r h rfl
def gt (p0:Int):Option Bool:=some (p0 != p0)
theorem lK {p0:Int} {r:Bool}  (h:gt p0=some r):PF 74 [pI p0] (pB r):=by
 unfold gt at h
 refine bm ?_
 refine fy Tryz.func74 rfl Tryz.ntmps74 Tryz.results74 rfl (aU [2] (by kernel_rfl) (cL (ah [3,4,5] [(2,pB (p0 != p0))] (by kernel_rfl) (ej ?_))))
 exact zz r h rfl
def cS (p0:Int) (p1:Int):Option Int:=(gt p0).bind fun x1=>(gt p1).bind fun x2=>cond x1 (cond x2 (some (0:Int)) (some (-1))) (cond x2 (some (1:Int)) (cond (decide (p0<p1)) (some (-1)) (cond (decide (p1<p0)) (some (1:Int)) (some (0:Int)))))
theorem fP {p0:Int} {p1:Int} {r:Int}  (h:cS p0 p1=some r):PF 40 [pI p0,pI p1] (pI r):=by
 unfold cS at h
 refine bm ?_
 refine fy Tryz.func40 rfl Tryz.ntmps40 Tryz.results40 rfl (aU [4] (by kernel_rfl) (fk h fun x1 hx1 h=>aw [] [7,8] [(5,pB x1)] (bK 1 (lK hx1) bZ) (by kernel_rfl) (fk h fun x2 hx2 h=>aw [] [9,10] [(6,pB x2)] (bK 1 (lK hx2) bZ) (by kernel_rfl) (dQ (ai [(11,pB x1)] (by kernel_rfl) (cY rfl h (fun hc3 h=>?_) fun hc3 h=>?_))))))
 ·refine af ?_
  refine af (ai [(12,pB x2)] (by kernel_rfl) (cY rfl h (fun hc4 h=>?_) fun hc4 h=>?_))
  ·refine af ?_
   refine ai [(4,pI 0)] (by kernel_rfl) (ip (aK ?_))
   exact zz r h rfl
  refine ag ?_
  refine cL (ai [(4,pI (-1))] (by kernel_rfl) (ip ?_))
  exact zz r h rfl
 refine ag ?_
 refine dQ (ai [(13,pB x2)] (by kernel_rfl) (cY rfl h (fun hc5 h=>?_) fun hc5 h=>?_))
 ·refine af ?_
  refine ai [(4,pI 1)] (by kernel_rfl) (ip ?_)
  exact zz r h rfl
 refine ag ?_
 refine dQ (ah [14,15] [(16,pB (decide (p0<p1)))] (by kernel_rfl) (cY rfl h (fun hc6 h=>?_) fun hc6 h=>?_))
 ·refine af ?_
  refine ai [(4,pI (-1))] (by kernel_rfl) (ip ?_)
  exact zz r h rfl
 refine ag ?_
 refine dQ (ah [17,18] [(19,pB (decide (p1<p0)))] (by kernel_rfl) (cY rfl h (fun hc7 h=>?_) fun hc7 h=>?_))
 ·refine af ?_
  refine ai [(4,pI 1)] (by kernel_rfl) (ip ?_)
  exact zz r h rfl
 refine ag ?_
 refine cL (ai [(4,pI 0)] (by kernel_rfl) (ej ?_))
 exact zz r h rfl
def dz (p0:Za) (p1:Za):Option Int:=(cS p0.From p1.From).bind fun x3=>(cS p0.Number p1.Number).bind fun x4=>(jo [x3,x4]).bind fun x6=>some x6
theorem iT {p0:Za} {p1:Za} {r:Int}  (h:dz p0 p1=some r):PF 87 [.agg (aF p0),.agg (aF p1)] (pI r):=by
 unfold dz at h
 refine bm ?_
 refine fy Tryz.func87 rfl Tryz.ntmps87 Tryz.results87 rfl (ae (ak rfl (bV (cs:=(aF p0)) rfl rfl (fun b1=>ak rfl (bV (cs:=(aF p1)) rfl rfl (fun b2=>bY [4] (by kernel_rfl) (cL (du (ρd:=[]) [(0,0),(1,0),(2,0),(3,0),(5,0),(6,0),(7,0),(8,0),(4,1),(9,1),(10,1),(11,1),(12,0)] _ (List.Perm.refl _) (by kernel_rfl) rfl (aa h fun x3 hx3 h=>aa h fun x4 hx4 h=>dJ 10 [1,0,1,0] [5,6,7,8,10,11,12,13] [(9,pI x3),(14,pI x4)] (bK 8 (fP hx3) (bK 9 (fP hx4) bZ)) (by kernel_rfl) ?_)))))))))
 refine oQ rfl rfl rfl (lD (bT rfl rfl rfl rfl rfl (ez rfl (ez rfl kg)) rfl rfl rfl rfl (fun b5=>⟨_,_,_,_,_,_,_,rfl,by (repeat (first | exact bd | apply ba)),?_⟩)))
 refine aa h fun x6 hx6 h=>dJ 2 [] [16] [(4,pI x6)] (bK 0 (nP hx6) bZ) (by kernel_rfl) (ef (ej ?_))
 exact zz r h rfl
def fA (p0:Zm):Option Int:=(eX p0.Source p0.Code p0.Units).bind fun x2=>cond (!x2) (some (2:Int)) (cond (decide (200<(p0.Facts.length:Int))) (some (8:Int)) ((aV (S:=Int) (T:=(Unit)⊕(_)) (fun v5=>cond (decide (v5<(p0.Facts.length:Int))) ((idx p0.Facts v5).bind fun m9=>(eY m9).bind fun x11=>cond (!x11) (some (.inr (.inr (2:Int)))) (some (.inl (IntKind.i64.wrap (v5+1))))) (some (.inr (.inl ())))) FUEL 0).bind fun q=>match q with | .inl _=>(aV (S:=Int) (T:=(Unit)⊕(_)) (fun v13=>cond (decide (v13<(p0.Facts.length:Int))) ((idx p0.Facts (IntKind.i64.wrap (v13 - 1))).bind fun m17=>(idx p0.Facts v13).bind fun m18=>(dz m17 m18).bind fun x19=>cond (decide (0≤x19)) (some (.inr (.inr (9:Int)))) (some (.inl (IntKind.i64.wrap (v13+1))))) (some (.inr (.inl ())))) FUEL 1).bind (fun q=>match q with | .inl _=>some (0:Int) | .inr e=>some e) | .inr e=>some e))
theorem kV {p0:Zm} {r:Int}  (h:fA p0=some r):PF 47 [.agg (bL p0)] (pI r):=by
 unfold fA at h
 refine bm ?_
 refine fy Tryz.func47 rfl Tryz.ntmps47 Tryz.results47 rfl (ae (ak rfl (bV (cs:=(bL p0)) rfl rfl (fun b1=>bY [2] (by kernel_rfl) (dQ (aa h fun x2 hx2 h=>aw [0,0,0] (rg 6 7) [(13,pB (!x2))] (bK 6 (kC hx2) bZ) (by kernel_rfl) (cY rfl h (fun hc3 h=>?_) fun hc3 h=>?_)))))))
 ·refine af ?_
  refine ai [(2,pI 2)] (by kernel_rfl) (ip ?_)
  exact zz r h rfl
 refine ag ?_
 refine dQ (aY [0] [14,15,16] [(17,pB (decide (200<(p0.Facts.length:Int))))] (by kernel_rfl) (cY rfl h (fun hc4 h=>?_) fun hc4 h=>?_))
 ·refine af ?_
  refine ai [(2,pI 8)] (by kernel_rfl) (ip ?_)
  exact zz r h rfl
 refine ag ?_
 refine dQ (aY [0] [18] [(19,pL Za.enc p0.Facts),(20,pI (p0.Facts.length:Int)),(21,pI 0)] (by kernel_rfl) (ar (aa h fun q7 hq7 h=>?_)))
 refine aJ (Y:=Unit×Unit) (fun (_,_)=>[(1,pP b1 0)]) (fun (_,_)=>[PRes.b b1 43 (bL p0)]) (fun (_,_)=>q7=Sum.inl ()) ?_ ?_
 ·refine au ?_
  refine bt (Y:=Unit) (S:=Int) _ hq7 (fun _ v5=>[(1,pP b1 0),(19,pL Za.enc p0.Facts),(20,pI (p0.Facts.length:Int)),(21,pI v5)]) (fun _ v5=>[PRes.b b1 43 (bL p0)]) () (mN rfl) dN ?_
  rintro _ v5 o τ hb6;(try dsimp only at hb6);dsimp only [aM]
  refine af (ai [(22,pB (decide (v5<(p0.Facts.length:Int))))] (by kernel_rfl) (cL (lE rfl hb6 (fun hc8 hb6=>?_) fun hc8 hb6=>?_)))
  ·refine ag ?_
   refine cL (au (af (aa hb6 fun m9 hm9 hb6=>ae (bC 2 [] [23] [(24,.agg (aF m9))] (jX 0 Za.enc hm9 bZ) (by kernel_rfl) (ak rfl (aX (cs:=[pI 0,pI 0,pI 0,pI 0,pS ByteArray.empty,pI 0,pI 0]) rfl rfl rfl rfl (fun b10=>aH rfl rfl (aj (vs:=(aF m9)) rfl rfl rfl rfl rfl cA zl7 (ap (fk hb6 fun x11 hx11 hb6=>aw [0] [25,26] [(27,pB (!x11))] (bK 1 (kD hx11) bZ) (by kernel_rfl) (cY rfl hb6 (fun hc12 hb6=>?_) fun hc12 hb6=>?_)))))))))))
   ·refine af ?_
    refine ai [(2,pI 2)] (by kernel_rfl) (ej (av (aK ?_)))
    refine bU hb6 (fun ht=>?_);subst ht
    refine av (bz ?_)
    exact zz r h rfl
   refine ag ?_
   refine aA (ar (ah [28] [(21,pI (IntKind.i64.wrap (v5+1)))] (by kernel_rfl) ?_))
   exact ck hb6 () (mN rfl) (cR (ba bd) cM)
  refine bA ?_
  refine aW (aQ hb6 (fun ht=>aS rfl ?_))
  exact az ((),()) (wF rfl) dN ht.symm
 rintro ⟨_,_⟩ τ hz;(try dsimp only at hz);subst q7;(try dsimp only at h);dsimp only [aM]
 refine af (af (ai [(5,pI 1)] (by kernel_rfl) (ar (aa h fun q15 hq15 h=>?_))))
 refine aJ (Y:=Unit×Unit) (fun (_,_)=>[]) (fun (_,_)=>[]) (fun (_,_)=>q15=Sum.inl ()) ?_ ?_
 ·refine au ?_
  refine bt (Y:=Unit) (S:=Int) _ hq15 (fun _ v13=>[(1,pP b1 0),(5,pI v13)]) (fun _ v13=>[PRes.b b1 43 (bL p0)]) () (pH rfl) dN ?_
  rintro _ v13 o τ hb14;(try dsimp only at hb14);dsimp only [aM]
  refine af (af (aY [0] [29,30,31,32] [(33,pB (decide (v13<(p0.Facts.length:Int))))] (by kernel_rfl) (cY rfl hb14 (fun hc16 hb14=>?_) fun hc16 hb14=>?_)))
  ·refine ag ?_
   refine cL (au (af (du (ρd:=[]) [(0,0),(1,0),(2,0),(3,0),(4,0),(5,0),(6,0),(7,0),(8,0),(9,0),(10,0),(11,1),(12,0)] _ (List.Perm.refl _) (by kernel_rfl) rfl (aa hb14 fun m17 hm17 hb14=>aa hb14 fun m18 hm18 hb14=>aa hb14 fun x19 hx19 hb14=>dJ 13 [0,0] (rg 36 12) [(48,pB (decide (0≤x19)))] (jX 4 Za.enc hm17 (jX 9 Za.enc hm18 (bK 11 (iT hx19) bZ))) (by kernel_rfl) (ef (cY rfl hb14 (fun hc20 hb14=>?_) fun hc20 hb14=>?_))))))
   ·refine af ?_
    refine ai [(2,pI 9)] (by kernel_rfl) (ej (av (aK ?_)))
    refine bU hb14 (fun ht=>?_);subst ht
    refine av (bz ?_)
    exact zz r h rfl
   refine ag ?_
   refine aA (ar (ah [34,35] [(5,pI (IntKind.i64.wrap (v13+1)))] (by kernel_rfl) ?_))
   exact ck hb14 () (pH rfl) dN
  refine bA ?_
  refine aW (aQ hb14 (fun ht=>aS rfl ?_))
  exact az ((),()) tq cM ht.symm
 rintro ⟨_,_⟩ τ hz;(try dsimp only at hz);subst q15;(try dsimp only at h);dsimp only [aM]
 refine af (ai [(2,pI 0)] (by kernel_rfl) (ej ?_))
 exact zz r h rfl
def kW (p0:Za) (p1:Za):Option Int:=(cS p0.Day p1.Day).bind fun x3=>(dz p0 p1).bind fun x4=>(jo [x3,x4]).bind fun x6=>some x6
theorem sE {p0:Za} {p1:Za} {r:Int}  (h:kW p0 p1=some r):PF 50 [.agg (aF p0),.agg (aF p1)] (pI r):=by
 unfold kW at h
 refine bm ?_
 refine fy Tryz.func50 rfl Tryz.ntmps50 Tryz.results50 rfl (ae (ak rfl (bV (cs:=(aF p0)) rfl rfl (fun b1=>ak rfl (bV (cs:=(aF p1)) rfl rfl (fun b2=>bY [4] (by kernel_rfl) (cL (du (ρd:=[]) [(0,0),(1,0),(2,0),(3,0),(5,0),(6,0),(4,1),(7,1),(8,1),(9,1),(10,0)] _ (List.Perm.refl _) (by kernel_rfl) rfl (aa h fun x3 hx3 h=>aa h fun x4 hx4 h=>dJ 8 [1,0,1,0] [5,6,7,8,10,11] [(9,pI x3),(12,pI x4)] (bK 6 (fP hx3) (bK 7 (iT hx4) bZ)) (by kernel_rfl) ?_)))))))))
 refine oQ rfl rfl rfl (lD (bT rfl rfl rfl rfl rfl (ez rfl (ez rfl kg)) rfl rfl rfl rfl (fun b5=>⟨_,_,_,_,_,_,_,rfl,by (repeat (first | exact bd | apply ba)),?_⟩)))
 refine aa h fun x6 hx6 h=>dJ 2 [] [14] [(4,pI x6)] (bK 0 (nP hx6) bZ) (by kernel_rfl) (ef (ej ?_))
 exact zz r h rfl
def gu (p0:Int):Option Bool:=some (((Int.tmod p0 4) == 0)&&(((Int.tmod p0 100) != 0)||((Int.tmod p0 400) == 0)))
theorem lL {p0:Int} {r:Bool}  (h:gu p0=some r):PF 165 [pI p0] (pB r):=by
 unfold gu at h
 refine bm ?_
 refine fy Tryz.func165 rfl Tryz.ntmps165 Tryz.results165 rfl (aU [2] (by kernel_rfl) (cL (ah (rg 3 13) [(2,pB (((Int.tmod p0 4) == 0)&&(((Int.tmod p0 100) != 0)||((Int.tmod p0 400) == 0))))] (by kernel_rfl) (ej ?_))))
 exact zz r h rfl
def bN (p0:Int) (p1:Int):Option Int:=(gd (p1 == 2) (gu p0)).bind fun x1=>cond ((p1 == 2)&&x1) (some (29:Int)) ((idx jn (IntKind.i64.wrap (p1 - 1))).bind fun m3=>some m3)
theorem aZ {p0:Int} {p1:Int} {r:Int}  (h:bN p0 p1=some r):PF 129 [pI p0,pI p1] (pI r):=by
 unfold bN at h
 refine bm ?_
 refine fy Tryz.func129 rfl Tryz.ntmps129 Tryz.results129 rfl (aU [4] (by kernel_rfl) (dQ (aa h fun x1 hx1 h=>aw [] (rg 5 5) [(10,pB ((p1 == 2)&&x1))] (kU 4 (fun hc=>lL (gF hx1 hc)) bZ) (by kernel_rfl) (cY rfl h (fun hc2 h=>?_) fun hc2 h=>?_))))
 ·refine af ?_
  refine ai [(4,pI 29)] (by kernel_rfl) (ip ?_)
  exact zz r h rfl
 refine ag ?_
 refine fk h fun m3 hm3 h=>ae (bQ 2 [11] [(12,pI (IntKind.i64.wrap (p1 - 1)))] (by kernel_rfl) (cd rfl rfl rfl (AK (tbl:=jn) rfl rfl rfl rfl rfl (fun _ h=>gok_ml h) rfl hm3) (lJ [14] [(4,pI m3)] (by kernel_rfl) (ej ?_))))
 exact zz r h rfl
def iU (p0:Int):Option Bool:=some ((decide (0≤p0))&&(decide (p0≤36524)))
theorem o3 {p0:Int} {r:Bool}  (h:iU p0=some r):PF 163 [pI p0] (pB r):=by
 unfold iU at h
 refine bm ?_
 refine fy Tryz.func163 rfl Tryz.ntmps163 Tryz.results163 rfl (aU [2] (by kernel_rfl) (cL (ah (rg 3 6) [(2,pB ((decide (0≤p0))&&(decide (p0≤36524))))] (by kernel_rfl) (ej ?_))))
 exact zz r h rfl
def cE (p0:Int):Option Int:=(gu p0).bind fun x1=>cond x1 (some (366:Int)) (some (365:Int))
theorem fQ {p0:Int} {r:Int}  (h:cE p0=some r):PF 164 [pI p0] (pI r):=by
 unfold cE at h
 refine bm ?_
 refine fy Tryz.func164 rfl Tryz.ntmps164 Tryz.results164 rfl (aU [2] (by kernel_rfl) (dQ (aa h fun x1 hx1 h=>aw [] [3] [(4,pB x1)] (bK 1 (lL hx1) bZ) (by kernel_rfl) (cY rfl h (fun hc2 h=>?_) fun hc2 h=>?_))))
 ·refine af ?_
  refine ai [(2,pI 366)] (by kernel_rfl) (ip ?_)
  exact zz r h rfl
 refine ag ?_
 refine cL (ai [(2,pI 365)] (by kernel_rfl) (ej ?_))
 exact zz r h rfl
def jG (p0:Int):Option (Zr×Int):=(iU p0).bind fun x2=>cond (!x2) (some ((⟨0,0,0⟩:Zr),(2:Int))) ((aV (S:=Int×Int) (T:=(Int×Int)) (fun (v4,v5)=>(cE v5).bind fun x10=>cond (decide (x10≤v4)) ((cE v5).bind fun x12=>some (.inl ((IntKind.i64.wrap (v4 - x12)),(IntKind.i64.wrap (v5+1))))) (some (.inr (v4,v5)))) FUEL (p0,2000)).bind fun (v6,v7)=>(aV (S:=Int×Int) (T:=(Int×Int)) (fun (v13,v14)=>(bN v7 v14).bind fun x19=>cond (decide (x19≤v13)) ((bN v7 v14).bind fun x21=>some (.inl ((IntKind.i64.wrap (v13 - x21)),(IntKind.i64.wrap (v14+1))))) (some (.inr (v13,v14)))) FUEL (v6,1)).bind fun (v15,v16)=>some ((⟨v7,v16,(IntKind.i64.wrap (v15+1))⟩:Zr),(0:Int)))
theorem sF {p0:Int} {r:(Zr×Int)}  (h:jG p0=some r):PF 128 [pI p0] (.tup [.agg [pI r.1.Year,pI r.1.Month,pI r.1.Dom],pI r.2]):=by
 unfold jG at h
 refine bm ?_
 refine fy Tryz.func128 rfl Tryz.ntmps128 Tryz.results128 rfl (ae (ak rfl (aX (cs:=[pI 0,pI 0,pI 0]) rfl rfl rfl rfl (fun b1=>bY [3] (by kernel_rfl) (dQ (aa h fun x2 hx2 h=>aw [] [6,7] [(8,pB (!x2))] (bK 1 (o3 hx2) bZ) (by kernel_rfl) (cY rfl h (fun hc3 h=>?_) fun hc3 h=>?_)))))))
 ·refine af ?_
  refine ae (aq 1 [(9,.agg [pI 0,pI 0,pI 0])] (by kernel_rfl) (aH rfl rfl (aj (vs:=[pI 0,pI 0,pI 0]) rfl rfl rfl rfl rfl cA B9 (aD [(3,pI 2)] (by kernel_rfl) (ip ?_)))))
  obtain rfl:=osi h
  exact aG (cK (cZ rfl fH rfl) (aI rfl)) cM ⟨rfl,rfl⟩
 refine ag ?_
 refine cL (ai [(4,pI 2000),(5,pI 1)] (by kernel_rfl) (fk h fun q9 hq9 h=>?_))
 refine aJ (Y:=Unit×(Int×Int)) (fun (_,(v6,v7))=>[(0,pI v6),(2,pP b1 0),(4,pI v7),(5,pI 1)]) (fun (_,(v6,v7))=>[PRes.b b1 158 [pI 0,pI 0,pI 0]]) (fun (_,(v6,v7))=>q9=(v6,v7)) ?_ ?_
 ·refine au ?_
  refine bt (Y:=Unit) (S:=Int×Int) _ hq9 (fun _ (v4,v5)=>[(0,pI v4),(2,pP b1 0),(4,pI v5),(5,pI 1)]) (fun _ (v4,v5)=>[PRes.b b1 158 [pI 0,pI 0,pI 0]]) () (mN rfl) dN ?_
  rintro _ ⟨v4,v5⟩ o τ hb8;(try dsimp only at hb8);dsimp only [aM]
  refine af (af (aa hb8 fun x10 hx10 hb8=>aw [] [10,11,12] [(13,pB (decide (x10≤v4)))] (bK 2 (fQ hx10) bZ) (by kernel_rfl) (cY rfl hb8 (fun hc11 hb8=>?_) fun hc11 hb8=>?_)))
  ·refine ag ?_
   refine ar (au (af (aa hb8 fun x12 hx12 hb8=>aw [] [14,15,16,17] [(0,pI (IntKind.i64.wrap (v4 - x12)))] (bK 2 (fQ hx12) bZ) (by kernel_rfl) (ar (ah [18,19] [(4,pI (IntKind.i64.wrap (v5+1)))] (by kernel_rfl) (aA ?_))))))
   exact ck hb8 () (mN rfl) dN
  refine bA ?_
  refine aW (aQ hb8 (fun ht=>aS rfl ?_))
  exact az ((),(v4,v5)) (mN rfl) dN ht.symm
 rintro ⟨_,⟨v6,v7⟩⟩ τ hz;(try dsimp only at hz);subst q9;(try dsimp only at h);dsimp only [aM]
 refine af (aa h fun q18 hq18 h=>?_)
 refine aJ (Y:=Unit×(Int×Int)) (fun (_,(v15,v16))=>[(0,pI v15),(2,pP b1 0),(4,pI v7),(5,pI v16)]) (fun (_,(v15,v16))=>[PRes.b b1 158 [pI 0,pI 0,pI 0]]) (fun (_,(v15,v16))=>q18=(v15,v16)) ?_ ?_
 ·refine au ?_
  refine bt (Y:=Unit) (S:=Int×Int) _ hq18 (fun _ (v13,v14)=>[(0,pI v13),(2,pP b1 0),(4,pI v7),(5,pI v14)]) (fun _ (v13,v14)=>[PRes.b b1 158 [pI 0,pI 0,pI 0]]) () (mN rfl) dN ?_
  rintro _ ⟨v13,v14⟩ o τ hb17;(try dsimp only at hb17);dsimp only [aM]
  refine af (af (aa hb17 fun x19 hx19 hb17=>aw [] [20,21,22,23] [(24,pB (decide (x19≤v13)))] (bK 3 (aZ hx19) bZ) (by kernel_rfl) (cY rfl hb17 (fun hc20 hb17=>?_) fun hc20 hb17=>?_)))
  ·refine ag ?_
   refine ar (au (af (aa hb17 fun x21 hx21 hb17=>aw [] (rg 25 5) [(0,pI (IntKind.i64.wrap (v13 - x21)))] (bK 3 (aZ hx21) bZ) (by kernel_rfl) (ar (ah [30,31] [(5,pI (IntKind.i64.wrap (v14+1)))] (by kernel_rfl) (aA ?_))))))
   exact ck hb17 () (mN rfl) dN
  refine bA ?_
  refine aW (aQ hb17 (fun ht=>aS rfl ?_))
  exact az ((),(v13,v14)) (mN rfl) dN ht.symm
 rintro ⟨_,⟨v15,v16⟩⟩ τ hz;(try dsimp only at hz);subst q18;(try dsimp only at h);dsimp only [aM]
 refine af (ae (bQ 5 [32,33,34,35] [(36,.agg [pI v7,pI v16,pI (IntKind.i64.wrap (v15+1))])] (by kernel_rfl) (aH rfl rfl (aj (vs:=[pI v7,pI v16,pI (IntKind.i64.wrap (v15+1))]) rfl rfl rfl rfl rfl cA B9 (aD [(3,pI 0)] (by kernel_rfl) (ej ?_))))))
 obtain rfl:=osi h
 exact aG (cK (cZ rfl fH rfl) (aI rfl)) cM ⟨rfl,rfl⟩
def gc (p0:Zr):Option (Int×Int):=cond ((((decide (p0.Year<2000))||(decide (2100≤p0.Year)))||(decide (p0.Month<1)))||(decide (12<p0.Month))) (some ((0:Int),(2:Int))) ((gd (!(decide (p0.Dom<1))) (bN p0.Year p0.Month)).bind fun x3=>cond ((decide (p0.Dom<1))||(decide (x3<p0.Dom))) (some ((0:Int),(2:Int))) ((aV (S:=Int×Int) (T:=(Int)) (fun (v5,v6)=>cond (decide (v6<p0.Year)) ((cE v6).bind fun x11=>some (.inl ((IntKind.i64.wrap (v5+x11)),(IntKind.i64.wrap (v6+1))))) (some (.inr v5))) FUEL ((IntKind.i64.wrap (p0.Dom - 1)),2000)).bind fun v7=>(aV (S:=Int×Int) (T:=(Int)) (fun (v12,v13)=>cond (decide (v13<p0.Month)) ((bN p0.Year v13).bind fun x18=>some (.inl ((IntKind.i64.wrap (v12+x18)),(IntKind.i64.wrap (v13+1))))) (some (.inr v12))) FUEL (v7,1)).bind fun v14=>some (v14,(0:Int))))
theorem od {p0:Zr} {r:(Int×Int)}  (h:gc p0=some r):PF 130 [.agg [pI p0.Year,pI p0.Month,pI p0.Dom]] (.tup [pI r.1,pI r.2]):=by
 unfold gc at h
 refine bm ?_
 refine fy Tryz.func130 rfl Tryz.ntmps130 Tryz.results130 rfl (ae (ak rfl (bV (cs:=[pI p0.Year,pI p0.Month,pI p0.Dom]) rfl rfl (fun b1=>bY [2,3] (by kernel_rfl) (dQ (aY [0,0,0,0] (rg 7 17) [(24,pB ((((decide (p0.Year<2000))||(decide (2100≤p0.Year)))||(decide (p0.Month<1)))||(decide (12<p0.Month))))] (by kernel_rfl) (cY rfl h (fun hc2 h=>?_) fun hc2 h=>?_)))))))
 ·refine af ?_
  refine ai [(2,pI 0),(3,pI 2)] (by kernel_rfl) (ip ?_)
  obtain rfl:=osi h
  exact aG (cK (aI rfl) (aI rfl)) cM ⟨rfl,rfl⟩
 refine ag ?_
 refine dQ (du (ρd:=[]) [(0,0),(1,0),(2,0),(3,0),(4,0),(5,0),(6,0),(7,0),(8,0),(9,0),(10,1),(11,0),(12,0)] _ (List.Perm.refl _) (by kernel_rfl) rfl (aa h fun x3 hx3 h=>dJ 13 [0,0,0,0] (rg 25 12) [(37,pB ((decide (p0.Dom<1))||(decide (x3<p0.Dom))))] (kU 10 (fun hc=>aZ (gF hx3 hc)) bZ) (by kernel_rfl) (ef (cY rfl h (fun hc4 h=>?_) fun hc4 h=>?_))))
 ·refine af ?_
  refine ai [(2,pI 0),(3,pI 2)] (by kernel_rfl) (ip ?_)
  obtain rfl:=osi h
  exact aG (cK (aI rfl) (aI rfl)) cM ⟨rfl,rfl⟩
 refine ag ?_
 refine cL (aY [0] [38,39,40] [(4,pI (IntKind.i64.wrap (p0.Dom - 1)))] (by kernel_rfl) (dQ (ai [(5,pI 2000)] (by kernel_rfl) (ar (aa h fun q9 hq9 h=>?_)))))
 refine aJ (Y:=Unit×Int) (fun (_,v7)=>[(1,pP b1 0),(4,pI v7)]) (fun (_,v7)=>[PRes.b b1 158 [pI p0.Year,pI p0.Month,pI p0.Dom]]) (fun (_,v7)=>q9=v7) ?_ ?_
 ·refine au ?_
  refine bt (Y:=Unit) (S:=Int×Int) _ hq9 (fun _ (v5,v6)=>[(1,pP b1 0),(4,pI v5),(5,pI v6)]) (fun _ (v5,v6)=>[PRes.b b1 158 [pI p0.Year,pI p0.Month,pI p0.Dom]]) () (mD rfl) dN ?_
  rintro _ ⟨v5,v6⟩ o τ hb8;(try dsimp only at hb8);dsimp only [aM]
  refine af (af (aY [0] [41,42,43] [(44,pB (decide (v6<p0.Year)))] (by kernel_rfl) (cY rfl hb8 (fun hc10 hb8=>?_) fun hc10 hb8=>?_)))
  ·refine ag ?_
   refine cL (au (aa hb8 fun x11 hx11 hb8=>aw [] [47,48,49,50] [(4,pI (IntKind.i64.wrap (v5+x11)))] (bK 2 (fQ hx11) bZ) (by kernel_rfl) (aA (ar (ah [45,46] [(5,pI (IntKind.i64.wrap (v6+1)))] (by kernel_rfl) ?_)))))
   exact ck hb8 () (mD rfl) dN
  refine bA ?_
  refine aW (aQ hb8 (fun ht=>aS rfl ?_))
  exact az ((),v5) (pH rfl) dN ht.symm
 rintro ⟨_,v7⟩ τ hz;(try dsimp only at hz);subst q9;(try dsimp only at h);dsimp only [aM]
 refine af (af (ai [(6,pI 1)] (by kernel_rfl) (ar (aa h fun q16 hq16 h=>?_))))
 refine aJ (Y:=Unit×Int) (fun (_,v14)=>[(4,pI v14)]) (fun (_,v14)=>[]) (fun (_,v14)=>q16=v14) ?_ ?_
 ·refine au ?_
  refine bt (Y:=Unit) (S:=Int×Int) _ hq16 (fun _ (v12,v13)=>[(1,pP b1 0),(4,pI v12),(6,pI v13)]) (fun _ (v12,v13)=>[PRes.b b1 158 [pI p0.Year,pI p0.Month,pI p0.Dom]]) () (mD rfl) dN ?_
  rintro _ ⟨v12,v13⟩ o τ hb15;(try dsimp only at hb15);dsimp only [aM]
  refine af (af (aY [0] [51,52,53] [(54,pB (decide (v13<p0.Month)))] (by kernel_rfl) (cY rfl hb15 (fun hc17 hb15=>?_) fun hc17 hb15=>?_)))
  ·refine ag ?_
   refine cL (au (aa hb15 fun x18 hx18 hb15=>aw [0] (rg 57 6) [(4,pI (IntKind.i64.wrap (v12+x18)))] (bK 4 (aZ hx18) bZ) (by kernel_rfl) (aA (ar (ah [55,56] [(6,pI (IntKind.i64.wrap (v13+1)))] (by kernel_rfl) ?_)))))
   exact ck hb15 () (mD rfl) dN
  refine bA ?_
  refine aW (aQ hb15 (fun ht=>aS rfl ?_))
  exact az ((),v12) (wF rfl) cM ht.symm
 rintro ⟨_,v14⟩ τ hz;(try dsimp only at hz);subst q16;(try dsimp only at h);dsimp only [aM]
 refine af (ah [63] [(2,pI v14),(3,pI 0)] (by kernel_rfl) (ej ?_))
 obtain rfl:=osi h
 exact aG (cK (aI rfl) (aI rfl)) cM ⟨rfl,rfl⟩
def dg (p0:Int) (p1:Int):Option (Int×Int):=(jG p0).bind fun x1=>cond (((x1.2 != 0)||(decide (p1<(-1200))))||(decide (1200<p1))) (some ((0:Int),(2:Int))) (lb ((IntKind.i64.wrap ((IntKind.i64.wrap ((IntKind.i64.wrap ((IntKind.i64.wrap ((IntKind.i64.wrap (x1.1.Year - 2000))*12))+x1.1.Month)) - 1))+p1))) (fun w4=>cond ((decide (w4<0))||(decide (1200≤w4))) (some ((0:Int),(3:Int))) ((bN (IntKind.i64.wrap (2000+(IntKind.i64.wrap (Int.tdiv w4 12)))) (IntKind.i64.wrap ((Int.tmod w4 12)+1))).bind fun x6=>(gc (⟨(IntKind.i64.wrap (2000+(IntKind.i64.wrap (Int.tdiv w4 12)))),(IntKind.i64.wrap ((Int.tmod w4 12)+1)),(eT x1.1.Dom x6)⟩:Zr)).bind fun x7=>some (x7.1,x7.2))))
theorem mK {p0:Int} {p1:Int} {r:(Int×Int)}  (h:dg p0 p1=some r):PF 94 [pI p0,pI p1] (.tup [pI r.1,pI r.2]):=by
 unfold dg at h
 refine bm ?_
 refine fy Tryz.func94 rfl Tryz.ntmps94 Tryz.results94 rfl (aU [4,5] (by kernel_rfl) (fk h fun x1 hx1 h=>ae (bC 5 [] [10,11,9] [(12,.agg [pI x1.1.Year,pI x1.1.Month,pI x1.1.Dom]),(13,pI x1.2)] (bK 1 (sF hx1) bZ) (by kernel_rfl) (ak rfl (aX (cs:=[pI 0,pI 0,pI 0]) rfl rfl rfl rfl (fun b2=>aH rfl rfl (aj (vs:=[pI x1.1.Year,pI x1.1.Month,pI x1.1.Dom]) rfl rfl rfl rfl rfl cA B9 (aD [(7,pI x1.2)] (by kernel_rfl) (dQ (ah (rg 14 9) [(23,pB (((x1.2 != 0)||(decide (p1<(-1200))))||(decide (1200<p1))))] (by kernel_rfl) (cY rfl h (fun hc3 h=>?_) fun hc3 h=>?_)))))))))))
 ·refine af ?_
  refine ai [(4,pI 0),(5,pI 2)] (by kernel_rfl) (ip ?_)
  obtain rfl:=osi h
  exact aG (cK (aI rfl) (aI rfl)) cM ⟨rfl,rfl⟩
 refine ag ?_
 refine cL ?_
 refine dV h ?_;clear h;intro w4 hw4 h
 refine ae (cH 10 [0,0] (rg 24 9) [(33,pI (IntKind.i64.wrap ((IntKind.i64.wrap ((IntKind.i64.wrap ((IntKind.i64.wrap ((IntKind.i64.wrap (x1.1.Year - 2000))*12))+x1.1.Month)) - 1))+p1)))] (by kernel_rfl) (cd rfl rfl rfl (bc rfl (.p (congrArg (fun z=>PV.v (Value.int .i64 z)) hw4))) (ap (dQ (ah (rg 34 5) [(39,pB ((decide (w4<0))||(decide (1200≤w4))))] (by kernel_rfl) (cY rfl h (fun hc5 h=>?_) fun hc5 h=>?_))))))
 ·refine af ?_
  refine ai [(4,pI 0),(5,pI 3)] (by kernel_rfl) (ip ?_)
  obtain rfl:=osi h
  exact aG (cK (aI rfl) (aI rfl)) cM ⟨rfl,rfl⟩
 refine ag ?_
 refine cL (ae (bQ 4 [40,41] [(42,pI (IntKind.i64.wrap (2000+(IntKind.i64.wrap (Int.tdiv w4 12))))),(43,pP b2 0)] (by kernel_rfl) (aH rfl rfl (aj (vs:=[pI (IntKind.i64.wrap (2000+(IntKind.i64.wrap (Int.tdiv w4 12))))]) rfl rfl rfl rfl rfl cA ed (ap (cL (ae (bQ 4 [44,45] [(46,pI (IntKind.i64.wrap ((Int.tmod w4 12)+1))),(47,pP b2 1)] (by kernel_rfl) (aH rfl rfl (aj (vs:=[pI (IntKind.i64.wrap ((Int.tmod w4 12)+1))]) rfl rfl rfl rfl rfl cA (bP ed) (ap (fk h fun x6 hx6 h=>?_))))))))))))
 refine aJ (Y:=Unit) (fun _=>[(6,pP b2 0)]) (fun _=>[PRes.b b2 158 [pI (IntKind.i64.wrap (2000+(IntKind.i64.wrap (Int.tdiv w4 12)))),pI (IntKind.i64.wrap ((Int.tmod w4 12)+1)),pI (eT x1.1.Dom x6)]]) (fun _=>True) ?_ ?_
 ·refine kh (ρd:=[PRes.b b2 _ _]) _ (List.Perm.refl _) ?_
  refine bu 0 (by kernel_rfl) rfl rfl rfl rfl (aR rfl rfl rfl rfl rfl (.p rfl)) (bu 2 (by kernel_rfl) rfl rfl rfl rfl (aR rfl rfl rfl rfl rfl (.p rfl)) (bu 4 (by kernel_rfl) rfl rfl rfl rfl (aR rfl rfl rfl rfl rfl (.p rfl)) ?_))
  refine AA 1 3 5 (by kernel_rfl) ?_ ?_ ?_
  ·skip
   refine aT rfl rfl rfl rfl (eU (bX (p:=pI x1.1.Dom) rfl (.p rfl) fH rfl) ?_)
   refine eM 3 5 (by kernel_rfl) ?_ ?_
   ·skip
    refine aT rfl rfl rfl rfl (eU (bX (p:=pI (IntKind.i64.wrap (2000+(IntKind.i64.wrap (Int.tdiv w4 12))))) rfl (.p rfl) fH rfl) (aN 5 (by kernel_rfl) (aT rfl rfl rfl rfl (eU (bX (p:=pI (IntKind.i64.wrap ((Int.tmod w4 12)+1))) rfl (.p rfl) fH rfl) (aN 6 (by kernel_rfl) (eA rfl rfl rfl rfl rfl rfl (aZ hx6) (bu 7 (by kernel_rfl) rfl rfl rfl rfl (ml rfl (.p rfl) (.p rfl)) (bu 8 (by kernel_rfl) rfl rfl rfl rfl (aR rfl rfl rfl rfl rfl (.p rfl)) (aN 9 (by kernel_rfl) (bq rfl rfl rfl (aj (vs:=[pI (eT x1.1.Dom x6)]) rfl rfl rfl rfl rfl cA (bP (bP ed)) (cq (by kernel_rfl) ?_))))))))))))
    exact az () (wF rfl) dN trivial
   skip
   refine aT rfl rfl rfl rfl (eU (bX (p:=pI (IntKind.i64.wrap ((Int.tmod w4 12)+1))) rfl (.p rfl) fH rfl) (aN 3 (by kernel_rfl) (aT rfl rfl rfl rfl (eU (bX (p:=pI (IntKind.i64.wrap (2000+(IntKind.i64.wrap (Int.tdiv w4 12))))) rfl (.p rfl) fH rfl) (aN 6 (by kernel_rfl) (eA rfl rfl rfl rfl rfl rfl (aZ hx6) (bu 7 (by kernel_rfl) rfl rfl rfl rfl (ml rfl (.p rfl) (.p rfl)) (bu 8 (by kernel_rfl) rfl rfl rfl rfl (aR rfl rfl rfl rfl rfl (.p rfl)) (aN 9 (by kernel_rfl) (bq rfl rfl rfl (aj (vs:=[pI (eT x1.1.Dom x6)]) rfl rfl rfl rfl rfl cA (bP (bP ed)) (cq (by kernel_rfl) ?_))))))))))))
   exact az () (wF rfl) dN trivial
  ·skip
   refine aT rfl rfl rfl rfl (eU (bX (p:=pI (IntKind.i64.wrap (2000+(IntKind.i64.wrap (Int.tdiv w4 12))))) rfl (.p rfl) fH rfl) ?_)
   refine eM 1 5 (by kernel_rfl) ?_ ?_
   ·skip
    refine aT rfl rfl rfl rfl (eU (bX (p:=pI x1.1.Dom) rfl (.p rfl) fH rfl) (aN 5 (by kernel_rfl) (aT rfl rfl rfl rfl (eU (bX (p:=pI (IntKind.i64.wrap ((Int.tmod w4 12)+1))) rfl (.p rfl) fH rfl) (aN 6 (by kernel_rfl) (eA rfl rfl rfl rfl rfl rfl (aZ hx6) (bu 7 (by kernel_rfl) rfl rfl rfl rfl (ml rfl (.p rfl) (.p rfl)) (bu 8 (by kernel_rfl) rfl rfl rfl rfl (aR rfl rfl rfl rfl rfl (.p rfl)) (aN 9 (by kernel_rfl) (bq rfl rfl rfl (aj (vs:=[pI (eT x1.1.Dom x6)]) rfl rfl rfl rfl rfl cA (bP (bP ed)) (cq (by kernel_rfl) ?_))))))))))))
    exact az () (wF rfl) dN trivial
   skip
   refine aT rfl rfl rfl rfl (eU (bX (p:=pI (IntKind.i64.wrap ((Int.tmod w4 12)+1))) rfl (.p rfl) fH rfl) ?_)
   refine eM 1 6 (by kernel_rfl) ?_ ?_
   ·skip
    refine aT rfl rfl rfl rfl (eU (bX (p:=pI x1.1.Dom) rfl (.p rfl) fH rfl) (aN 6 (by kernel_rfl) (eA rfl rfl rfl rfl rfl rfl (aZ hx6) (bu 7 (by kernel_rfl) rfl rfl rfl rfl (ml rfl (.p rfl) (.p rfl)) (bu 8 (by kernel_rfl) rfl rfl rfl rfl (aR rfl rfl rfl rfl rfl (.p rfl)) (aN 9 (by kernel_rfl) (bq rfl rfl rfl (aj (vs:=[pI (eT x1.1.Dom x6)]) rfl rfl rfl rfl rfl cA (bP (bP ed)) (cq (by kernel_rfl) ?_)))))))))
    exact az () (wF rfl) dN trivial
   skip
   refine eA rfl rfl rfl rfl rfl rfl (aZ hx6) (aN 1 (by kernel_rfl) (aT rfl rfl rfl rfl (eU (bX (p:=pI x1.1.Dom) rfl (.p rfl) fH rfl) (bu 7 (by kernel_rfl) rfl rfl rfl rfl (ml rfl (.p rfl) (.p rfl)) (bu 8 (by kernel_rfl) rfl rfl rfl rfl (aR rfl rfl rfl rfl rfl (.p rfl)) (aN 9 (by kernel_rfl) (bq rfl rfl rfl (aj (vs:=[pI (eT x1.1.Dom x6)]) rfl rfl rfl rfl rfl cA (bP (bP ed)) (cq (by kernel_rfl) ?_)))))))))
   exact az () (wF rfl) dN trivial
  skip
  refine aT rfl rfl rfl rfl (eU (bX (p:=pI (IntKind.i64.wrap ((Int.tmod w4 12)+1))) rfl (.p rfl) fH rfl) ?_)
  refine eM 1 3 (by kernel_rfl) ?_ ?_
  ·skip
   refine aT rfl rfl rfl rfl (eU (bX (p:=pI x1.1.Dom) rfl (.p rfl) fH rfl) (aN 3 (by kernel_rfl) (aT rfl rfl rfl rfl (eU (bX (p:=pI (IntKind.i64.wrap (2000+(IntKind.i64.wrap (Int.tdiv w4 12))))) rfl (.p rfl) fH rfl) (aN 6 (by kernel_rfl) (eA rfl rfl rfl rfl rfl rfl (aZ hx6) (bu 7 (by kernel_rfl) rfl rfl rfl rfl (ml rfl (.p rfl) (.p rfl)) (bu 8 (by kernel_rfl) rfl rfl rfl rfl (aR rfl rfl rfl rfl rfl (.p rfl)) (aN 9 (by kernel_rfl) (bq rfl rfl rfl (aj (vs:=[pI (eT x1.1.Dom x6)]) rfl rfl rfl rfl rfl cA (bP (bP ed)) (cq (by kernel_rfl) ?_))))))))))))
   exact az () (wF rfl) dN trivial
  skip
  refine aT rfl rfl rfl rfl (eU (bX (p:=pI (IntKind.i64.wrap (2000+(IntKind.i64.wrap (Int.tdiv w4 12))))) rfl (.p rfl) fH rfl) ?_)
  refine eM 1 6 (by kernel_rfl) ?_ ?_
  ·skip
   refine aT rfl rfl rfl rfl (eU (bX (p:=pI x1.1.Dom) rfl (.p rfl) fH rfl) (aN 6 (by kernel_rfl) (eA rfl rfl rfl rfl rfl rfl (aZ hx6) (bu 7 (by kernel_rfl) rfl rfl rfl rfl (ml rfl (.p rfl) (.p rfl)) (bu 8 (by kernel_rfl) rfl rfl rfl rfl (aR rfl rfl rfl rfl rfl (.p rfl)) (aN 9 (by kernel_rfl) (bq rfl rfl rfl (aj (vs:=[pI (eT x1.1.Dom x6)]) rfl rfl rfl rfl rfl cA (bP (bP ed)) (cq (by kernel_rfl) ?_)))))))))
   exact az () (wF rfl) dN trivial
  skip
  refine eA rfl rfl rfl rfl rfl rfl (aZ hx6) (aN 1 (by kernel_rfl) (aT rfl rfl rfl rfl (eU (bX (p:=pI x1.1.Dom) rfl (.p rfl) fH rfl) (bu 7 (by kernel_rfl) rfl rfl rfl rfl (ml rfl (.p rfl) (.p rfl)) (bu 8 (by kernel_rfl) rfl rfl rfl rfl (aR rfl rfl rfl rfl rfl (.p rfl)) (aN 9 (by kernel_rfl) (bq rfl rfl rfl (aj (vs:=[pI (eT x1.1.Dom x6)]) rfl rfl rfl rfl rfl cA (bP (bP ed)) (cq (by kernel_rfl) ?_)))))))))
  exact az () (wF rfl) dN trivial
 rintro _ τ _;dsimp only [aM]
 refine af (aa h fun x7 hx7 h=>aw [0] [57,58,59,60] [(4,pI x7.1),(5,pI x7.2)] (bK 1 (od hx7) bZ) (by kernel_rfl) (ej ?_))
 obtain rfl:=osi h
 exact aG (cK (aI rfl) (aI rfl)) cM ⟨rfl,rfl⟩
def lM (p0:Int) (p1:ByteArray) (p2:Int):Option (Zm×Int):=(eX p0 p1 p2).bind fun x2=>cond (!x2) (some ((⟨0,ByteArray.empty,0,[]⟩:Zm),(2:Int))) (some ((⟨p0,p1,p2,[]⟩:Zm),(0:Int)))
theorem o4 {p0:Int} {p1:ByteArray} {p2:Int} {r:(Zm×Int)}  (h:lM p0 p1 p2=some r):PF 44 [pI p0,pS p1,pI p2] (.tup [.agg (bL r.1),pI r.2]):=by
 unfold lM at h
 refine bm ?_
 refine fy Tryz.func44 rfl Tryz.ntmps44 Tryz.results44 rfl (ae (ak rfl (aX (cs:=[pI 0,pS ByteArray.empty,pI 0,pN]) rfl rfl rfl rfl (fun b1=>bY [7] (by kernel_rfl) (dQ (aa h fun x2 hx2 h=>aw [] [8,9,10,11] [(12,pB (!x2))] (bK 3 (kC hx2) bZ) (by kernel_rfl) (cY rfl h (fun hc3 h=>?_) fun hc3 h=>?_)))))))
 ·refine af ?_
  refine ae (aq 1 [(13,.agg [pI 0,pS ByteArray.empty,pI 0,pN])] (by kernel_rfl) (aH rfl rfl (aj (vs:=[pI 0,pS ByteArray.empty,pI 0,pN]) rfl rfl rfl rfl rfl cA yd (aD [(7,pI 2)] (by kernel_rfl) (ar (f0 (k:=3) (b:=b1) rfl cA (cC (aK ?_))))))))
  obtain rfl:=osi h
  exact aG (cK (cZ rfl fH rfl) (aI rfl)) cM ⟨rfl,rfl⟩
 refine ag ?_
 refine cL (ae (bQ 4 [14,15,16] [(17,.agg [pI p0,pS p1,pI p2,pN])] (by kernel_rfl) (aH rfl rfl (aj (vs:=[pI p0,pS p1,pI p2,pN]) rfl rfl rfl rfl rfl cA yd (aD [(7,pI 0)] (by kernel_rfl) (ar (f0 (k:=3) (b:=b1) rfl cA (cC ?_))))))))
 obtain rfl:=osi h
 exact aG (cK (cZ rfl fH rfl) (aI rfl)) cM ⟨rfl,rfl⟩
def aO (p0:(List Za)) (p1:Za) (p2:(Za→Za→Option Int)):Option (Int×Bool):=(aV (S:=Int×Int) (T:=(Int)) (fun (v2,v3)=>cond (decide (v2<v3)) (lb ((IntKind.i64.wrap (cw .u64 (IntKind.u64.wrap (IntKind.i64.wrap (v2+v3))) 1))) (fun w8=>(idx p0 w8).bind fun m9=>(p2 m9 p1).bind fun x10=>cond (decide (x10<0)) (some (.inl ((IntKind.i64.wrap (w8+1)),v3))) (some (.inl (v2,w8))))) (some (.inr v2))) FUEL (0,(p0.length:Int))).bind fun v4=>(gd (decide (v4<(p0.length:Int))) (idx p0 v4)).bind fun m12=>(gd (decide (v4<(p0.length:Int))) (p2 m12 p1)).bind fun x13=>some (v4,((decide (v4<(p0.length:Int)))&&(x13 == 0)))
theorem di {p0:(List Za)} {p1:Za} {p2:(Za→Za→Option Int)} {r:(Int×Bool)} {g2:PV} (hg2:∀ {y0:Za} {y1:Za} {w:Int},p2 y0 y1=some w→PFV g2 [.agg (aF y0),.agg (aF y1)] (pI w)) (h:aO p0 p1 p2=some r):PF 86 [pL Za.enc p0,.agg (aF p1),g2] (.tup [pI r.1,pB r.2]):=by
 unfold aO at h
 refine bm ?_
 refine fy Tryz.func86 rfl Tryz.ntmps86 Tryz.results86 rfl (ae (ak rfl (bV (cs:=(aF p1)) rfl rfl (fun b1=>bY [6,7] (by kernel_rfl) (cL (ah [12,13] [(8,pI (p0.length:Int))] (by kernel_rfl) (cL (ah [14] [(9,pI 0),(10,pI (p0.length:Int))] (by kernel_rfl) (fk h fun q6 hq6 h=>?_)))))))))
 refine aJ (Y:=Unit×Int) (fun (_,v4)=>[(0,pL Za.enc p0),(2,g2),(4,pP b1 0),(8,pI (p0.length:Int)),(9,pI v4)]) (fun (_,v4)=>[PRes.b b1 93 (aF p1)]) (fun (_,v4)=>q6=v4) ?_ ?_
 ·refine au ?_
  refine bt (Y:=Unit) (S:=Int×Int) _ hq6 (fun _ (v2,v3)=>[(0,pL Za.enc p0),(2,g2),(4,pP b1 0),(8,pI (p0.length:Int)),(9,pI v2),(10,pI v3)]) (fun _ (v2,v3)=>[PRes.b b1 93 (aF p1)]) () (AC rfl) dN ?_
  rintro _ ⟨v2,v3⟩ o τ hb5;(try dsimp only at hb5);dsimp only [aM]
  refine af (af (ah [15,16] [(17,pB (decide (v2<v3)))] (by kernel_rfl) (cY rfl hb5 (fun hc7 hb5=>?_) fun hc7 hb5=>?_)))
  ·refine ag ?_
   refine ar (au (af ?_))
   refine dV hb5 ?_;clear hb5;intro w8 hw8 hb5
   refine ae (bQ 6 (rg 18 5) [(23,pI (IntKind.i64.wrap (cw .u64 (IntKind.u64.wrap (IntKind.i64.wrap (v2+v3))) 1)))] (by kernel_rfl) (cd rfl rfl rfl (bc rfl (.p (congrArg (fun z=>PV.v (Value.int .i64 z)) hw8))) (ap (cL (du (ρd:=[]) [(0,0),(1,0),(2,0),(3,0),(4,0),(5,0),(6,1),(7,0)] _ (List.Perm.refl _) (by kernel_rfl) rfl (aa hb5 fun m9 hm9 hb5=>aa hb5 fun x10 hx10 hb5=>dJ 8 [0] (rg 24 7) [(31,pB (decide (x10<0)))] (jX 3 Za.enc hm9 (AG 6 (hg2 hx10) bZ)) (by kernel_rfl) (ef (cY rfl hb5 (fun hc11 hb5=>?_) fun hc11 hb5=>?_))))))))
   ·refine ah [32,33] [(9,pI (IntKind.i64.wrap (w8+1)))] (by kernel_rfl) ?_
    refine aA ?_
    exact ck hb5 () (AC rfl) dN
   refine ah [34] [(10,pI w8)] (by kernel_rfl) ?_
   refine aA ?_
   exact ck hb5 () (AC rfl) dN
  refine bA ?_
  refine aW (aQ hb5 (fun ht=>aS rfl ?_))
  exact az ((),v2) (si rfl) dN ht.symm
 rintro ⟨_,v4⟩ τ hz;(try dsimp only at hz);subst q6;(try dsimp only at h);dsimp only [aM]
 refine af (du (ρd:=[]) [(0,0),(1,0),(2,0),(3,0),(4,0),(5,0),(6,0),(7,0),(8,0),(9,0),(10,0),(11,1),(12,0),(13,0),(14,0),(15,0)] _ (List.Perm.refl _) (by kernel_rfl) rfl (aa h fun m12 hm12 h=>aa h fun x13 hx13 h=>dJ 16 [0] (rg 35 14) [(6,pI v4),(7,pB ((decide (v4<(p0.length:Int)))&&(x13 == 0)))] (tT 8 Za.enc (gF hm12) (Cg 11 (fun hc=>hg2 (gF hx13 hc)) bZ)) (by kernel_rfl) (ef (ej ?_))))
 obtain rfl:=osi h
 exact aG (cK (aI rfl) (aI rfl)) cM ⟨rfl,rfl⟩
def bE (p0:(List Za)):Option (List Za):=app 64 ([]:List Za) p0
theorem gg {p0:(List Za)} {r:(List Za)} (h:bE p0=some r):PCall 88 [pL Za.enc p0] [] (fun pv ρ'=>∃ a c,pv=.v (.slice a r.length c)∧ρ'=[PRes.row a r.length c 93 7 (List.map Za.enc r)]):=by
 unfold bE at h
 refine jy Tryz.func88 rfl Tryz.ntmps88 Tryz.results88 rfl ?_
 (repeat refine af ?_)
 refine ae (cd rfl rfl rfl (bc (p:=.v (.slice none 0 0)) rfl (.p rfl)) (ap (ar ?_)))
 (repeat refine af ?_)
 refine ae (cd rfl rfl rfl (cm (p:=pL Za.enc p0) rfl (.p rfl)) (p6 rfl rfl rfl rfl rfl rfl (fun b hb=>ap (ar ?_))))
 refine oN rfl (fun hc=>?_) (fun hc=>?_)
 ·have e0:p0=[]:=List.map_eq_nil_iff.1 (hb hc)
  subst e0;obtain ⟨rfl,_⟩:=lC h
  (repeat refine af ?_)
  refine ae (cd rfl rfl rfl (bc (p:=.v (.slice none 0 0)) rfl (.p rfl)) (ap (ar (fO 93 7 (cC (aK ?_))))))
  exact aG (fL (aI rfl)) dN ⟨_,_,rfl,rfl⟩
 refine ag ?_
 refine ar ?_
 (repeat refine af ?_)
 refine ae (ak rfl (bT rfl rfl rfl rfl rfl kg rfl rfl rfl rfl (fun b1=>cd rfl rfl rfl (cm (p:=pL Za.enc p0) rfl (.p rfl)) ?_)))
 refine ak rfl (sb (enc:=Za.enc) (xs:=([]:List Za)) rfl rfl rfl rfl rfl (fun _=>rfl) rfl rfl rfl (by exact bd) h (fun a c=>?_))
 refine cd rfl rfl rfl (bc (p:=.v (.slice a r.length c)) rfl (.p rfl)) (ap (ej ?_))
 exact aG (fL (aI rfl)) dN ⟨_,_,rfl,rfl⟩
def jZ  : Option (List Zo):=(ob).bind fun x1=>(idx x1 0).bind fun m2=>(idx x1 1).bind fun m4=>(idx x1 3).bind fun m5=>(idx x1 0).bind fun m8=>(idx x1 1).bind fun m9=>(idx x1 2).bind fun m11=>(idx x1 1).bind fun m14=>(idx x1 2).bind fun m16=>(idx x1 3).bind fun m17=>some [(⟨1,[(⟨m2,3⟩:Zh)],[(⟨m4,2⟩:Zh),(⟨m5,1⟩:Zh)],[5,1]⟩:Zo),(⟨2,[(⟨m8,1⟩:Zh),(⟨m9,2⟩:Zh)],[(⟨m11,1⟩:Zh)],[1]⟩:Zo),(⟨5,[(⟨m14,1⟩:Zh)],[(⟨m16,4⟩:Zh),(⟨m17,2⟩:Zh)],[1,0]⟩:Zo)]
theorem qW  {r:(List Zo)}  (h:jZ  = some r):PF 46 [] (pL Zo.enc r):=by
 unfold jZ at h
 refine bm ?_
 refine fy Tryz.func46 rfl Tryz.ntmps46 Tryz.results46 rfl (aU [0] (by kernel_rfl) (fk h fun x1 hx1 h=>aw [] [2] [(1,pL eS x1)] (bK 0 (tz hx1) bZ) (by kernel_rfl) (fk h fun m2 hm2 h=>aa h fun m4 hm4 h=>aa h fun m5 hm5 h=>aa h fun m8 hm8 h=>aa h fun m9 hm9 h=>aa h fun m11 hm11 h=>aa h fun m14 hm14 h=>aa h fun m16 hm16 h=>aa h fun m17 hm17 h=>?_)))
 refine Cx (D:=[[1],[3],[4],[5],[6],[1],[8],[9],[10],[1],[12],[13],[14],[11,15],[],[7,16,17],[1],[19],[20],[21],[1],[23],[24],[25],[22,26],[1],[28],[29],[30],[31],[],[27,32,33],[1],[35],[36],[37],[38],[1],[40],[41],[42],[1],[44],[45],[46],[43,47],[],[39,48,49],[18,34,50],[51]]) [(3,pL eS x1),(4,.ref (eS m2) 0),(5,pS m2),(6,.agg [pS m2,pI 3]),(7,pL Zh.enc [(⟨m2,3⟩:Zh)]),(8,pL eS x1),(9,.ref (eS m4) 0),(10,pS m4),(11,.agg [pS m4,pI 2]),(12,pL eS x1),(13,.ref (eS m5) 0),(14,pS m5),(15,.agg [pS m5,pI 1]),(16,pL Zh.enc [(⟨m4,2⟩:Zh),(⟨m5,1⟩:Zh)]),(17,pL eI [5,1]),(18,.agg [pI 1,pL Zh.enc [(⟨m2,3⟩:Zh)],pL Zh.enc [(⟨m4,2⟩:Zh),(⟨m5,1⟩:Zh)],pL eI [5,1]]),(19,pL eS x1),(20,.ref (eS m8) 0),(21,pS m8),(22,.agg [pS m8,pI 1]),(23,pL eS x1),(24,.ref (eS m9) 0),(25,pS m9),(26,.agg [pS m9,pI 2]),(27,pL Zh.enc [(⟨m8,1⟩:Zh),(⟨m9,2⟩:Zh)]),(28,pL eS x1),(29,.ref (eS m11) 0),(30,pS m11),(31,.agg [pS m11,pI 1]),(32,pL Zh.enc [(⟨m11,1⟩:Zh)]),(33,pL eI [1]),(34,.agg [pI 2,pL Zh.enc [(⟨m8,1⟩:Zh),(⟨m9,2⟩:Zh)],pL Zh.enc [(⟨m11,1⟩:Zh)],pL eI [1]]),(35,pL eS x1),(36,.ref (eS m14) 0),(37,pS m14),(38,.agg [pS m14,pI 1]),(39,pL Zh.enc [(⟨m14,1⟩:Zh)]),(40,pL eS x1),(41,.ref (eS m16) 0),(42,pS m16),(43,.agg [pS m16,pI 4]),(44,pL eS x1),(45,.ref (eS m17) 0),(46,pS m17),(47,.agg [pS m17,pI 2]),(48,pL Zh.enc [(⟨m16,4⟩:Zh),(⟨m17,2⟩:Zh)]),(49,pL eI [1,0]),(50,.agg [pI 5,pL Zh.enc [(⟨m14,1⟩:Zh)],pL Zh.enc [(⟨m16,4⟩:Zh),(⟨m17,2⟩:Zh)],pL eI [1,0]]),(51,pL Zo.enc [(⟨1,[(⟨m2,3⟩:Zh)],[(⟨m4,2⟩:Zh),(⟨m5,1⟩:Zh)],[5,1]⟩:Zo),(⟨2,[(⟨m8,1⟩:Zh),(⟨m9,2⟩:Zh)],[(⟨m11,1⟩:Zh)],[1]⟩:Zo),(⟨5,[(⟨m14,1⟩:Zh)],[(⟨m16,4⟩:Zh),(⟨m17,2⟩:Zh)],[1,0]⟩:Zo)]),(0,pL Zo.enc [(⟨1,[(⟨m2,3⟩:Zh)],[(⟨m4,2⟩:Zh),(⟨m5,1⟩:Zh)],[5,1]⟩:Zo),(⟨2,[(⟨m8,1⟩:Zh),(⟨m9,2⟩:Zh)],[(⟨m11,1⟩:Zh)],[1]⟩:Zo),(⟨5,[(⟨m14,1⟩:Zh)],[(⟨m16,4⟩:Zh),(⟨m17,2⟩:Zh)],[1,0]⟩:Zo)])] (by kernel_rfl) ?_ ?_
 ·skip
  refine co _ (cm (p:=pL eS x1) rfl (.p rfl)) (co _ (fZ (enc:=eS) rfl rfl rfl (fun _=>rfl) (.p rfl) (.p rfl) (fun _=>hm2)) (co _ (ep (p:=pS m2) rfl (.p rfl) rfl) (co _ (eu (cs:=[pS m2,pI 3]) rfl rfl rfl rfl rfl rfl rfl (nw rfl rfl rfl rfl ed (nw rfl rfl rfl rfl (bP ed) Ax))) ?_)))
  refine lq _ (lD (bT rfl rfl rfl rfl rfl (ez rfl kg) rfl rfl rfl rfl (fun b3=>⟨_,_,_,_,_,_,_,rfl,by (repeat (first | exact bd | apply ba)),⟨rfl,rfl⟩⟩))) ?_
  refine co _ (cm (p:=pL eS x1) rfl (.p rfl)) (co _ (fZ (enc:=eS) rfl rfl rfl (fun _=>rfl) (.p rfl) (.p rfl) (fun _=>hm4)) (co _ (ep (p:=pS m4) rfl (.p rfl) rfl) (co _ (eu (cs:=[pS m4,pI 2]) rfl rfl rfl rfl rfl rfl rfl (nw rfl rfl rfl rfl ed (nw rfl rfl rfl rfl (bP ed) Ax))) (co _ (cm (p:=pL eS x1) rfl (.p rfl)) (co _ (fZ (enc:=eS) rfl rfl rfl (fun _=>rfl) (.p rfl) (.p rfl) (fun _=>hm5)) (co _ (ep (p:=pS m5) rfl (.p rfl) rfl) (co _ (eu (cs:=[pS m5,pI 1]) rfl rfl rfl rfl rfl rfl rfl (nw rfl rfl rfl rfl ed (nw rfl rfl rfl rfl (bP ed) Ax))) ?_)))))))
  refine lq _ (lD (bT rfl rfl rfl rfl rfl (ez rfl (ez rfl kg)) rfl rfl rfl rfl (fun b6=>⟨_,_,_,_,_,_,_,rfl,by (repeat (first | exact bd | apply ba)),⟨rfl,rfl⟩⟩))) ?_
  refine lq _ (lD (bT rfl rfl rfl rfl rfl (ez rfl (ez rfl kg)) rfl rfl rfl rfl (fun b7=>⟨_,_,_,_,_,_,_,rfl,by (repeat (first | exact bd | apply ba)),⟨rfl,rfl⟩⟩))) ?_
  refine co _ (eu (cs:=[pI 1,pL Zh.enc [(⟨m2,3⟩:Zh)],pL Zh.enc [(⟨m4,2⟩:Zh),(⟨m5,1⟩:Zh)],pL eI [5,1]]) rfl rfl rfl rfl rfl rfl rfl (nw rfl rfl rfl rfl ed (nw rfl rfl rfl rfl (bP ed) (nw rfl rfl rfl rfl (bP (bP ed)) (nw rfl rfl rfl rfl (bP (bP (bP ed))) Ax))))) (co _ (cm (p:=pL eS x1) rfl (.p rfl)) (co _ (fZ (enc:=eS) rfl rfl rfl (fun _=>rfl) (.p rfl) (.p rfl) (fun _=>hm8)) (co _ (ep (p:=pS m8) rfl (.p rfl) rfl) (co _ (eu (cs:=[pS m8,pI 1]) rfl rfl rfl rfl rfl rfl rfl (nw rfl rfl rfl rfl ed (nw rfl rfl rfl rfl (bP ed) Ax))) (co _ (cm (p:=pL eS x1) rfl (.p rfl)) (co _ (fZ (enc:=eS) rfl rfl rfl (fun _=>rfl) (.p rfl) (.p rfl) (fun _=>hm9)) (co _ (ep (p:=pS m9) rfl (.p rfl) rfl) (co _ (eu (cs:=[pS m9,pI 2]) rfl rfl rfl rfl rfl rfl rfl (nw rfl rfl rfl rfl ed (nw rfl rfl rfl rfl (bP ed) Ax))) ?_))))))))
  refine lq _ (lD (bT rfl rfl rfl rfl rfl (ez rfl (ez rfl kg)) rfl rfl rfl rfl (fun b10=>⟨_,_,_,_,_,_,_,rfl,by (repeat (first | exact bd | apply ba)),⟨rfl,rfl⟩⟩))) ?_
  refine co _ (cm (p:=pL eS x1) rfl (.p rfl)) (co _ (fZ (enc:=eS) rfl rfl rfl (fun _=>rfl) (.p rfl) (.p rfl) (fun _=>hm11)) (co _ (ep (p:=pS m11) rfl (.p rfl) rfl) (co _ (eu (cs:=[pS m11,pI 1]) rfl rfl rfl rfl rfl rfl rfl (nw rfl rfl rfl rfl ed (nw rfl rfl rfl rfl (bP ed) Ax))) ?_)))
  refine lq _ (lD (bT rfl rfl rfl rfl rfl (ez rfl kg) rfl rfl rfl rfl (fun b12=>⟨_,_,_,_,_,_,_,rfl,by (repeat (first | exact bd | apply ba)),⟨rfl,rfl⟩⟩))) ?_
  refine lq _ (lD (bT rfl rfl rfl rfl rfl (ez rfl kg) rfl rfl rfl rfl (fun b13=>⟨_,_,_,_,_,_,_,rfl,by (repeat (first | exact bd | apply ba)),⟨rfl,rfl⟩⟩))) ?_
  refine co _ (eu (cs:=[pI 2,pL Zh.enc [(⟨m8,1⟩:Zh),(⟨m9,2⟩:Zh)],pL Zh.enc [(⟨m11,1⟩:Zh)],pL eI [1]]) rfl rfl rfl rfl rfl rfl rfl (nw rfl rfl rfl rfl ed (nw rfl rfl rfl rfl (bP ed) (nw rfl rfl rfl rfl (bP (bP ed)) (nw rfl rfl rfl rfl (bP (bP (bP ed))) Ax))))) (co _ (cm (p:=pL eS x1) rfl (.p rfl)) (co _ (fZ (enc:=eS) rfl rfl rfl (fun _=>rfl) (.p rfl) (.p rfl) (fun _=>hm14)) (co _ (ep (p:=pS m14) rfl (.p rfl) rfl) (co _ (eu (cs:=[pS m14,pI 1]) rfl rfl rfl rfl rfl rfl rfl (nw rfl rfl rfl rfl ed (nw rfl rfl rfl rfl (bP ed) Ax))) ?_))))
  refine lq _ (lD (bT rfl rfl rfl rfl rfl (ez rfl kg) rfl rfl rfl rfl (fun b15=>⟨_,_,_,_,_,_,_,rfl,by (repeat (first | exact bd | apply ba)),⟨rfl,rfl⟩⟩))) ?_
  refine co _ (cm (p:=pL eS x1) rfl (.p rfl)) (co _ (fZ (enc:=eS) rfl rfl rfl (fun _=>rfl) (.p rfl) (.p rfl) (fun _=>hm16)) (co _ (ep (p:=pS m16) rfl (.p rfl) rfl) (co _ (eu (cs:=[pS m16,pI 4]) rfl rfl rfl rfl rfl rfl rfl (nw rfl rfl rfl rfl ed (nw rfl rfl rfl rfl (bP ed) Ax))) (co _ (cm (p:=pL eS x1) rfl (.p rfl)) (co _ (fZ (enc:=eS) rfl rfl rfl (fun _=>rfl) (.p rfl) (.p rfl) (fun _=>hm17)) (co _ (ep (p:=pS m17) rfl (.p rfl) rfl) (co _ (eu (cs:=[pS m17,pI 2]) rfl rfl rfl rfl rfl rfl rfl (nw rfl rfl rfl rfl ed (nw rfl rfl rfl rfl (bP ed) Ax))) ?_)))))))
  refine lq _ (lD (bT rfl rfl rfl rfl rfl (ez rfl (ez rfl kg)) rfl rfl rfl rfl (fun b18=>⟨_,_,_,_,_,_,_,rfl,by (repeat (first | exact bd | apply ba)),⟨rfl,rfl⟩⟩))) ?_
  refine lq _ (lD (bT rfl rfl rfl rfl rfl (ez rfl (ez rfl kg)) rfl rfl rfl rfl (fun b19=>⟨_,_,_,_,_,_,_,rfl,by (repeat (first | exact bd | apply ba)),⟨rfl,rfl⟩⟩))) ?_
  refine co _ (eu (cs:=[pI 5,pL Zh.enc [(⟨m14,1⟩:Zh)],pL Zh.enc [(⟨m16,4⟩:Zh),(⟨m17,2⟩:Zh)],pL eI [1,0]]) rfl rfl rfl rfl rfl rfl rfl (nw rfl rfl rfl rfl ed (nw rfl rfl rfl rfl (bP ed) (nw rfl rfl rfl rfl (bP (bP ed)) (nw rfl rfl rfl rfl (bP (bP (bP ed))) Ax))))) ?_
  refine lq _ (lD (bT rfl rfl rfl rfl rfl (ez rfl (ez rfl (ez rfl kg))) rfl rfl rfl rfl (fun b20=>⟨_,_,_,_,_,_,_,rfl,by (repeat (first | exact bd | apply ba)),⟨rfl,rfl⟩⟩))) ?_
  refine co _ (bc (p:=pL Zo.enc [(⟨1,[(⟨m2,3⟩:Zh)],[(⟨m4,2⟩:Zh),(⟨m5,1⟩:Zh)],[5,1]⟩:Zo),(⟨2,[(⟨m8,1⟩:Zh),(⟨m9,2⟩:Zh)],[(⟨m11,1⟩:Zh)],[1]⟩:Zo),(⟨5,[(⟨m14,1⟩:Zh)],[(⟨m16,4⟩:Zh),(⟨m17,2⟩:Zh)],[1,0]⟩:Zo)]) rfl (.p rfl)) ?_
  exact Flow.nil
 (try dsimp only [aM])
 refine ej ?_
 exact zz r h rfl
def jH  : Option Zs:=(jZ).bind fun x8=>some (⟨[(⟨1,1,(⟨#[49,48]⟩:ByteArray),[],0,0,36525,(-1),(⟨100000,0,0,false,0,false,0⟩:Zl)⟩:Zb),(⟨2,1,(⟨#[50,48]⟩:ByteArray),[],0,0,36525,(-1),(⟨50000,7,10,false,0,false,0⟩:Zl)⟩:Zb),(⟨3,1,(⟨#[51,48]⟩:ByteArray),[],0,0,36525,(-1),(⟨333333,0,0,false,0,false,0⟩:Zl)⟩:Zb),(⟨4,3,(⟨#[49,48]⟩:ByteArray),[(⟨#[65,65]⟩:ByteArray),(⟨#[66,66]⟩:ByteArray)],0,0,36525,(-1),(⟨0,0,0,false,0,false,0⟩:Zl)⟩:Zb),(⟨5,4,(⟨#[49,48]⟩:ByteArray),[],0,0,36525,(-1),(⟨20000,0,0,false,0,false,0⟩:Zl)⟩:Zb),(⟨6,4,(⟨#[50,48]⟩:ByteArray),[],0,0,36525,(-1),(⟨0,0,0,false,0,false,0⟩:Zl)⟩:Zb),(⟨7,2,(⟨#[50,48]⟩:ByteArray),[],0,8,12,(-1),(⟨10000,0,0,false,0,false,0⟩:Zl)⟩:Zb),(⟨8,5,(⟨#[49,48]⟩:ByteArray),[(⟨#[66,66]⟩:ByteArray)],0,9,36525,4,(⟨150000,0,0,false,0,false,0⟩:Zl)⟩:Zb)],x8,[3,10,20]⟩:Zs)
theorem sG  {r:Zs}  (h:jH  = some r):PF 18 [] (.agg [pL Zb.enc r.Measures,pL Zo.enc r.Recipes,pL eI r.Holidays]):=by
 unfold jH at h
 refine bm ?_
 refine fy Tryz.func18 rfl Tryz.ntmps18 Tryz.results18 rfl (ae (ak rfl (aX (cs:=[pN,pN,pN]) rfl rfl rfl rfl (fun b1=>ap (cL (ai [(1,pI 36525)] (by kernel_rfl) (cL (ae (bQ 9 [2,3,5,6,8,9] [(4,.agg [pI 1,pI 1,pS (⟨#[49,48]⟩:ByteArray),pN,pI 0,pI 0,pI 36525,pI (-1),pI 100000,pI 0,pI 0,pB false,pI 0,pB false,pI 0]),(7,.agg [pI 2,pI 1,pS (⟨#[50,48]⟩:ByteArray),pN,pI 0,pI 0,pI 36525,pI (-1),pI 50000,pI 7,pI 10,pB false,pI 0,pB false,pI 0]),(10,.agg [pI 3,pI 1,pS (⟨#[51,48]⟩:ByteArray),pN,pI 0,pI 0,pI 36525,pI (-1),pI 333333,pI 0,pI 0,pB false,pI 0,pB false,pI 0])] (by kernel_rfl) (ak rfl (bT rfl rfl rfl rfl rfl (ez rfl (ez rfl kg)) rfl rfl rfl rfl (fun b2=>aq 1 [(12,pI 36525)] (by kernel_rfl) ?_))))))))))))
 refine jE (enc:=eS) (xs:=[(⟨#[65,65]⟩:ByteArray),(⟨#[66,66]⟩:ByteArray)]) 11 rfl (by exact bd) ?_
 refine bQ 8 [14,15,17,19] [(13,.agg [pI 4,pI 3,pS (⟨#[49,48]⟩:ByteArray),pL eS [(⟨#[65,65]⟩:ByteArray),(⟨#[66,66]⟩:ByteArray)],pI 0,pI 0,pI 36525,pI (-1),pI 0,pI 0,pI 0,pB false,pI 0,pB false,pI 0]),(16,.agg [pI 5,pI 4,pS (⟨#[49,48]⟩:ByteArray),pN,pI 0,pI 0,pI 36525,pI (-1),pI 20000,pI 0,pI 0,pB false,pI 0,pB false,pI 0]),(18,.agg [pI 6,pI 4,pS (⟨#[50,48]⟩:ByteArray),pN,pI 0,pI 0,pI 36525,pI (-1),pI 0,pI 0,pI 0,pB false,pI 0,pB false,pI 0]),(20,.agg [pI 7,pI 2,pS (⟨#[50,48]⟩:ByteArray),pN,pI 0,pI 8,pI 12,pI (-1),pI 10000,pI 0,pI 0,pB false,pI 0,pB false,pI 0])] (by kernel_rfl) (ak rfl (bT rfl rfl rfl rfl rfl (ez rfl kg) rfl rfl rfl rfl (fun b4=>aq 2 [(22,pI 36525),(23,.agg [pI 150000,pI 0,pI 0,pB false,pI 0,pB false,pI 0])] (by kernel_rfl) ?_)))
 refine jE (enc:=eS) (xs:=[(⟨#[66,66]⟩:ByteArray)]) 21 rfl (by exact bd) ?_
 refine aq 1 [(24,.agg [pI 8,pI 5,pS (⟨#[49,48]⟩:ByteArray),pL eS [(⟨#[66,66]⟩:ByteArray)],pI 0,pI 9,pI 36525,pI 4,pI 150000,pI 0,pI 0,pB false,pI 0,pB false,pI 0])] (by kernel_rfl) (gG 4 3 rfl rfl (gG 7 3 rfl rfl (gG 10 3 rfl rfl (gG 16 3 rfl rfl (gG 18 3 rfl rfl (gG 20 3 rfl rfl (ak rfl (bT rfl rfl rfl rfl rfl (ez rfl (ez rfl (ez rfl (ez rfl (ez rfl (ez rfl (ez rfl (ez rfl kg)))))))) rfl rfl rfl rfl (fun b6=>aa h fun x8 hx8 h=>bC 1 [] [] [(26,pL Zo.enc x8)] (bK 0 (qW hx8) bZ) (by kernel_rfl) (ak rfl (bT rfl rfl rfl rfl rfl (ez rfl (ez rfl (ez rfl kg))) rfl rfl rfl rfl (fun b9=>?_))))))))))))
 refine jE (enc:=Zb.enc) (xs:=[(⟨1,1,(⟨#[49,48]⟩:ByteArray),[],0,0,36525,(-1),(⟨100000,0,0,false,0,false,0⟩:Zl)⟩:Zb),(⟨2,1,(⟨#[50,48]⟩:ByteArray),[],0,0,36525,(-1),(⟨50000,7,10,false,0,false,0⟩:Zl)⟩:Zb),(⟨3,1,(⟨#[51,48]⟩:ByteArray),[],0,0,36525,(-1),(⟨333333,0,0,false,0,false,0⟩:Zl)⟩:Zb),(⟨4,3,(⟨#[49,48]⟩:ByteArray),[(⟨#[65,65]⟩:ByteArray),(⟨#[66,66]⟩:ByteArray)],0,0,36525,(-1),(⟨0,0,0,false,0,false,0⟩:Zl)⟩:Zb),(⟨5,4,(⟨#[49,48]⟩:ByteArray),[],0,0,36525,(-1),(⟨20000,0,0,false,0,false,0⟩:Zl)⟩:Zb),(⟨6,4,(⟨#[50,48]⟩:ByteArray),[],0,0,36525,(-1),(⟨0,0,0,false,0,false,0⟩:Zl)⟩:Zb),(⟨7,2,(⟨#[50,48]⟩:ByteArray),[],0,8,12,(-1),(⟨10000,0,0,false,0,false,0⟩:Zl)⟩:Zb),(⟨8,5,(⟨#[49,48]⟩:ByteArray),[(⟨#[66,66]⟩:ByteArray)],0,9,36525,4,(⟨150000,0,0,false,0,false,0⟩:Zl)⟩:Zb)]) 25 rfl (by exact ba bd) ?_
 refine jE (enc:=eI) (xs:=[3,10,20]) 27 rfl (by exact ba bd) ?_
 refine aq 1 [(28,.agg [pL Zb.enc [(⟨1,1,(⟨#[49,48]⟩:ByteArray),[],0,0,36525,(-1),(⟨100000,0,0,false,0,false,0⟩:Zl)⟩:Zb),(⟨2,1,(⟨#[50,48]⟩:ByteArray),[],0,0,36525,(-1),(⟨50000,7,10,false,0,false,0⟩:Zl)⟩:Zb),(⟨3,1,(⟨#[51,48]⟩:ByteArray),[],0,0,36525,(-1),(⟨333333,0,0,false,0,false,0⟩:Zl)⟩:Zb),(⟨4,3,(⟨#[49,48]⟩:ByteArray),[(⟨#[65,65]⟩:ByteArray),(⟨#[66,66]⟩:ByteArray)],0,0,36525,(-1),(⟨0,0,0,false,0,false,0⟩:Zl)⟩:Zb),(⟨5,4,(⟨#[49,48]⟩:ByteArray),[],0,0,36525,(-1),(⟨20000,0,0,false,0,false,0⟩:Zl)⟩:Zb),(⟨6,4,(⟨#[50,48]⟩:ByteArray),[],0,0,36525,(-1),(⟨0,0,0,false,0,false,0⟩:Zl)⟩:Zb),(⟨7,2,(⟨#[50,48]⟩:ByteArray),[],0,8,12,(-1),(⟨10000,0,0,false,0,false,0⟩:Zl)⟩:Zb),(⟨8,5,(⟨#[49,48]⟩:ByteArray),[(⟨#[66,66]⟩:ByteArray)],0,9,36525,4,(⟨150000,0,0,false,0,false,0⟩:Zl)⟩:Zb)],pL Zo.enc x8,pL eI [3,10,20]])] (by kernel_rfl) (aH rfl rfl (aj (vs:=[pL Zb.enc [(⟨1,1,(⟨#[49,48]⟩:ByteArray),[],0,0,36525,(-1),(⟨100000,0,0,false,0,false,0⟩:Zl)⟩:Zb),(⟨2,1,(⟨#[50,48]⟩:ByteArray),[],0,0,36525,(-1),(⟨50000,7,10,false,0,false,0⟩:Zl)⟩:Zb),(⟨3,1,(⟨#[51,48]⟩:ByteArray),[],0,0,36525,(-1),(⟨333333,0,0,false,0,false,0⟩:Zl)⟩:Zb),(⟨4,3,(⟨#[49,48]⟩:ByteArray),[(⟨#[65,65]⟩:ByteArray),(⟨#[66,66]⟩:ByteArray)],0,0,36525,(-1),(⟨0,0,0,false,0,false,0⟩:Zl)⟩:Zb),(⟨5,4,(⟨#[49,48]⟩:ByteArray),[],0,0,36525,(-1),(⟨20000,0,0,false,0,false,0⟩:Zl)⟩:Zb),(⟨6,4,(⟨#[50,48]⟩:ByteArray),[],0,0,36525,(-1),(⟨0,0,0,false,0,false,0⟩:Zl)⟩:Zb),(⟨7,2,(⟨#[50,48]⟩:ByteArray),[],0,8,12,(-1),(⟨10000,0,0,false,0,false,0⟩:Zl)⟩:Zb),(⟨8,5,(⟨#[49,48]⟩:ByteArray),[(⟨#[66,66]⟩:ByteArray)],0,9,36525,4,(⟨150000,0,0,false,0,false,0⟩:Zl)⟩:Zb)],pL Zo.enc x8,pL eI [3,10,20]]) rfl rfl rfl rfl rfl (cG (cG (cG (cG cA)))) B9 (ap (ej ?_))))
 obtain rfl:=osi h
 exact aG (fL (cZ rfl zm4 rfl)) cM ⟨rfl,rfl⟩
def eD (p0:Int) (p1:Int):Option Int:=cond (p1 == 2) (cond (((Int.tmod p0 4) == 0)&&(((Int.tmod p0 100) != 0)||((Int.tmod p0 400) == 0))) (some (29:Int)) (some (28:Int))) (Option.bind (cond (p1 == 4) (some (p1 == 4)) (cond (p1 == 6) (some (p1 == 6)) (cond (p1 == 9) (some (p1 == 9)) (some (p1 == 11))))) (fun v3=>cond v3 (some (30:Int)) (some (31:Int))))
def tZ (p0:Int):Option Bool:=some ((decide (0≤p0))&&(decide (p0≤36524)))
def sH (p0:Int):Option (Zr×Int):=(tZ p0).bind fun x2=>cond (!x2) (some ((⟨0,0,0⟩:Zr),(2:Int))) ((aV (S:=Int×Int×Int) (T:=(Int×Int×Int)) (fun (v4,v5,v6)=>(eD v5 v6).bind fun x12=>cond (decide (x12≤v4)) ((eD v5 v6).bind fun x14=>cond (decide (12<(IntKind.i64.wrap (v6+1)))) (some (.inl ((IntKind.i64.wrap (v4 - x14)),(IntKind.i64.wrap (v5+1)),1))) (some (.inl ((IntKind.i64.wrap (v4 - x14)),v5,(IntKind.i64.wrap (v6+1)))))) (some (.inr (v4,v5,v6)))) FUEL (p0,2000,1)).bind fun (v7,v8,v9)=>some ((⟨v8,v9,(IntKind.i64.wrap (v7+1))⟩:Zr),(0:Int)))
def iV (p0:Zr):Option (Int×Int):=(gd (!(((((decide (p0.Year<2000))||(decide (2099<p0.Year)))||(decide (p0.Month<1)))||(decide (12<p0.Month)))||(decide (p0.Dom<1)))) (eD p0.Year p0.Month)).bind fun x2=>cond ((((((decide (p0.Year<2000))||(decide (2099<p0.Year)))||(decide (p0.Month<1)))||(decide (12<p0.Month)))||(decide (p0.Dom<1)))||(decide (x2<p0.Dom))) (some ((0:Int),(2:Int))) ((aV (S:=Int×Int) (T:=(Int)) (fun (v4,v5)=>cond (decide (v5<p0.Year)) ((eD v5 2).bind fun x10=>lb ((IntKind.i64.wrap ((IntKind.i64.wrap (v4+337))+x10))) (fun w11=>some (.inl (w11,(IntKind.i64.wrap (v5+1)))))) (some (.inr v4))) FUEL ((IntKind.i64.wrap (p0.Dom - 1)),2000)).bind fun v6=>(aV (S:=Int×Int) (T:=(Int)) (fun (v12,v13)=>cond (decide (v13<p0.Month)) ((eD p0.Year v13).bind fun x18=>some (.inl ((IntKind.i64.wrap (v12+x18)),(IntKind.i64.wrap (v13+1))))) (some (.inr v12))) FUEL (v6,1)).bind fun v14=>some (v14,(0:Int)))
def jQ (p0:Int) (p1:Int):Option (Int×Int):=(sH p0).bind fun x1=>cond (((x1.2 != 0)||(decide (p1<(-1200))))||(decide (1200<p1))) (some ((0:Int),(2:Int))) (lb ((IntKind.i64.wrap ((IntKind.i64.wrap ((IntKind.i64.wrap ((IntKind.i64.wrap (12*x1.1.Year))+x1.1.Month)) - 1))+p1))) (fun w4=>(eD (IntKind.i64.wrap (Int.tdiv w4 12)) (IntKind.i64.wrap ((Int.tmod w4 12)+1))).bind fun x5=>(iV (⟨(IntKind.i64.wrap (Int.tdiv w4 12)),(IntKind.i64.wrap ((Int.tmod w4 12)+1)),(eT x1.1.Dom x5)⟩:Zr)).bind fun x6=>cond (x6.2 != 0) (some ((0:Int),(3:Int))) (some (x6.1,(0:Int)))))
def mv (p0:Zm):Option (Zj×Bool):=(oa p0).bind fun x3=>cond (x3 != 0) (some ((⟨ByteArray.empty,ByteArray.empty,false,0,0,0,0,0⟩:Zj),false)) ((aV (S:=(List Za)×Int) (T:=((List Za))) (fun (l6,v9)=>cond (decide (v9<(p0.Facts.length:Int))) ((aV (S:=Int) (T:=(Int)) (fun v18=>(gd (decide (v18<((l6.length:Nat):Int))) (idx l6 v18)).bind fun m23=>(gd (decide (v18<((l6.length:Nat):Int))) (idx p0.Facts v9)).bind fun m24=>cond ((decide (v18<((l6.length:Nat):Int)))&&(decide (m23.Day≤m24.Day))) (some (.inl (IntKind.i64.wrap (v18+1)))) (some (.inr v18))) FUEL 0).bind fun v20=>(sub l6 0 v20).bind fun l26=>(idx p0.Facts v9).bind fun m27=>(sub l6 v20 (l6.length:Int)).bind fun l28=>(app 64 ([]:List Za) l26).bind fun l31=>(app 64 l31 [m27]).bind fun l37=>(app 64 l37 l28).bind fun l41=>some (.inl (l41,(IntKind.i64.wrap (v9+1))))) (some (.inr l6))) FUEL (([]:List Za),0)).bind fun l13=>lb ((IntKind.i64.wrap (((l13.length:Nat):Int) - 1))) (fun w45=>(aV (S:=Int×Int) (T:=(Int)) (fun (v46,v47)=>cond (decide (0≤v47)) (((idx l13 v47).bind fun m56=>cond (m56.Kind == 1) (some v47) (some v46)).bind fun v54=>some (.inl (v54,(IntKind.i64.wrap (v47 - 1))))) (some (.inr v46))) FUEL ((-1),w45)).bind fun v49=>cond (decide (v49<0)) (some ((⟨ByteArray.empty,ByteArray.empty,false,0,0,0,0,0⟩:Zj),false)) ((idx l13 v49).bind fun m59=>(jQ m59.Day 36).bind fun x62=>(aV (S:=Int×ByteArray×Bool×Int) (T:=(ByteArray×Bool×Int)) (fun (v63,v64,v65,v66)=>cond (decide (v63<((l13.length:Nat):Int))) (((gd (x62.2 == 0) (idx l13 v63)).bind fun m78=>cond ((x62.2 == 0)&&(decide (x62.1<m78.Day))) (some (v64,v65,v66)) ((idx l13 v63).bind fun m80=>cond (m80.Kind == 2) (some (v64,true,v66)) (cond (m80.Kind == 3) ((idx l13 v63).bind fun m83=>some (v64,v65,m83.Amount)) (cond (m80.Kind == 4) ((idx l13 v63).bind fun m85=>some (m85.Country,v65,v66)) (some (v64,v65,v66)))))).bind fun (v74,v75,v76)=>some (.inl ((IntKind.i64.wrap (v63+1)),v74,v75,v76))) (some (.inr (v64,v65,v66)))) FUEL (0,m59.Country,false,m59.Amount)).bind fun (v67,v68,v69)=>(aV (S:=Int×Int) (T:=(Int)) (fun (v86,v87)=>cond (decide (v86<(p0.Facts.length:Int))) (((idx p0.Facts v86).bind fun m94=>cond (m94.Kind == 5) ((idx p0.Facts v86).bind fun m96=>some (eT p0.Units m96.Amount)) (some v87)).bind fun v92=>some (.inl ((IntKind.i64.wrap (v86+1)),v92))) (some (.inr v87))) FUEL (0,0)).bind fun v88=>some ((⟨p0.Code,v67,v68,m59.Company,m59.Day,p0.Units,v69,v88⟩:Zj),true))))
def dS (p0:Int):Option Bool:=some ((decide (65≤p0))&&(decide (p0≤90)))
theorem iz {p0:Int} {r:Bool}  (h:dS p0=some r):PF 139 [pY p0] (pB r):=by
 unfold dS at h
 refine bm ?_
 refine fy Tryz.func139 rfl Tryz.ntmps139 Tryz.results139 rfl (aU [2] (by kernel_rfl) (cL (ah (rg 3 6) [(2,pB ((decide (65≤p0))&&(decide (p0≤90))))] (by kernel_rfl) (ej ?_))))
 exact zz r h rfl
def cg (p0:ByteArray):Option Bool:=(gd ((p0.size:Int) == 2) (idx p0.data.toList 0)).bind fun c1=>(gd ((p0.size:Int) == 2) (dS (c1.toNat:Int))).bind fun x2=>(gd (((p0.size:Int) == 2)&&x2) (idx p0.data.toList 1)).bind fun c3=>(gd (((p0.size:Int) == 2)&&x2) (dS (c3.toNat:Int))).bind fun x4=>some ((((p0.size:Int) == 2)&&x2)&&x4)
theorem gJ {p0:ByteArray} {r:Bool}  (h:cg p0=some r):PF 115 [pS p0] (pB r):=by
 unfold cg at h
 refine bm ?_
 refine fy Tryz.func115 rfl Tryz.ntmps115 Tryz.results115 rfl (aU [2] (by kernel_rfl) (fk h fun c1 hc1 h=>aa h fun x2 hx2 h=>aa h fun c3 hc3 h=>aa h fun x4 hx4 h=>aw [] (rg 3 13) [(2,pB ((((p0.size:Int) == 2)&&x2)&&x4))] (sm 5 (gF hc1) (kU 6 (fun hc=>iz (gF hx2 hc)) (sm 10 (gF hc3) (kU 11 (fun hc=>iz (gF hx4 hc)) bZ)))) (by kernel_rfl) (ej ?_)))
 exact zz r h rfl
def cN (p0:(List ByteArray)):Option Bool:=(aV (S:=Int) (T:=(Unit)⊕(_)) (fun v1=>cond (decide (v1<(p0.length:Int))) ((idx p0 v1).bind fun m5=>(cg m5).bind fun x6=>(gd ((!(!x6))&&(decide (0<v1))) (idx p0 (IntKind.i64.wrap (v1 - 1)))).bind fun m7=>cond ((!x6)||((decide (0<v1))&&(Op.bytesLess m5.toList m7.toList||decide (m5=m7)))) (some (.inr (.inr false))) (some (.inl (IntKind.i64.wrap (v1+1))))) (some (.inr (.inl ())))) FUEL 0).bind fun q=>match q with | .inl _=>some true | .inr e=>some e
theorem lN {p0:(List ByteArray)} {r:Bool}  (h:cN p0=some r):PF 113 [pL eS p0] (pB r):=by
 unfold cN at h
 refine bm ?_
 refine fy Tryz.func113 rfl Tryz.ntmps113 Tryz.results113 rfl (aU [2] (by kernel_rfl) (dQ (ai [(5,pL eS p0),(6,pI (p0.length:Int)),(7,pI 0)] (by kernel_rfl) (ar (aa h fun q3 hq3 h=>?_)))))
 refine aJ (Y:=Unit×Unit) (fun (_,_)=>[]) (fun (_,_)=>[]) (fun (_,_)=>q3=Sum.inl ()) ?_ ?_
 ·refine au ?_
  refine bt (Y:=Unit) (S:=Int) _ hq3 (fun _ v1=>[(0,pL eS p0),(5,pL eS p0),(6,pI (p0.length:Int)),(7,pI v1)]) (fun _ v1=>[]) () (mN rfl) cM ?_
  rintro _ v1 o τ hb2;(try dsimp only at hb2);dsimp only [aM]
  refine af (ai [(8,pB (decide (v1<(p0.length:Int))))] (by kernel_rfl) (cL (lE rfl hb2 (fun hc4 hb2=>?_) fun hc4 hb2=>?_)))
  ·refine ag ?_
   refine cL (au (af (aa hb2 fun m5 hm5 hb2=>aw [] [9,10,11] [(3,pI v1),(4,pS m5)] (jX 1 eS hm5 bZ) (by kernel_rfl) (fk hb2 fun x6 hx6 hb2=>aa hb2 fun m7 hm7 hb2=>aw [] (rg 12 15) [(27,pB ((!x6)||((decide (0<v1))&&(Op.bytesLess m5.toList m7.toList||decide (m5=m7)))))] (bK 1 (gJ hx6) (tT 11 eS (gF hm7) bZ)) (by kernel_rfl) (cY rfl hb2 (fun hc8 hb2=>?_) fun hc8 hb2=>?_)))))
   ·refine af ?_
    refine ai [(2,pB false)] (by kernel_rfl) (ej (av (aK ?_)))
    refine bU hb2 (fun ht=>?_);subst ht
    refine av (bz ?_)
    exact zz r h rfl
   refine ag ?_
   refine aA (ar (ah [28] [(7,pI (IntKind.i64.wrap (v1+1)))] (by kernel_rfl) ?_))
   exact ck hb2 () (mN rfl) cM
  refine bA ?_
  refine aW (aQ hb2 (fun ht=>aS rfl ?_))
  exact az ((),()) tq cM ht.symm
 rintro ⟨_,_⟩ τ hz;(try dsimp only at hz);subst q3;(try dsimp only at h);dsimp only [aM]
 refine af (ai [(2,pB true)] (by kernel_rfl) (ej ?_))
 exact zz r h rfl
def cn (p0:Zl):Option Int:=cond ((((decide (p0.Rate<0))||(decide (10000000<p0.Rate)))||(decide (p0.Amount<0)))||(decide (100000000<p0.Amount))) (some (2:Int)) (cond (((decide (0<p0.Amount))&&((decide (p0.Per<1))||(decide (1000000<p0.Per))))||((p0.Amount == 0)&&(p0.Per != 0))) (some (2:Int)) (cond ((((decide (p0.Most<0))||(decide (10000000<p0.Most)))||(decide (p0.Least<0)))||(decide (10000000<p0.Least))) (some (2:Int)) (cond (((p0.Most != 0)&&(!p0.HasMost))||((p0.Least != 0)&&(!p0.HasLeast))) (some (1:Int)) (cond ((p0.HasMost&&p0.HasLeast)&&(decide (p0.Most<p0.Least))) (some (1:Int)) (some (0:Int))))))
theorem lO {p0:Zl} {r:Int}  (h:cn p0=some r):PF 114 [.agg (nB p0)] (pI r):=by
 unfold cn at h
 refine bm ?_
 refine fy Tryz.func114 rfl Tryz.ntmps114 Tryz.results114 rfl (ae (ak rfl (bV (cs:=(nB p0)) rfl rfl (fun b1=>bY [2] (by kernel_rfl) (dQ (aY [0,0,0,0] (rg 3 17) [(20,pB ((((decide (p0.Rate<0))||(decide (10000000<p0.Rate)))||(decide (p0.Amount<0)))||(decide (100000000<p0.Amount))))] (by kernel_rfl) (cY rfl h (fun hc2 h=>?_) fun hc2 h=>?_)))))))
 ·refine af ?_
  refine ai [(2,pI 2)] (by kernel_rfl) (ip ?_)
  exact zz r h rfl
 refine ag ?_
 refine dQ (aY [0,0,0,0,0] (rg 21 22) [(43,pB (((decide (0<p0.Amount))&&((decide (p0.Per<1))||(decide (1000000<p0.Per))))||((p0.Amount == 0)&&(p0.Per != 0))))] (by kernel_rfl) (cY rfl h (fun hc3 h=>?_) fun hc3 h=>?_))
 ·refine af ?_
  refine ai [(2,pI 2)] (by kernel_rfl) (ip ?_)
  exact zz r h rfl
 refine ag ?_
 refine dQ (aY [0,0,0,0] (rg 44 17) [(61,pB ((((decide (p0.Most<0))||(decide (10000000<p0.Most)))||(decide (p0.Least<0)))||(decide (10000000<p0.Least))))] (by kernel_rfl) (cY rfl h (fun hc4 h=>?_) fun hc4 h=>?_))
 ·refine af ?_
  refine ai [(2,pI 2)] (by kernel_rfl) (ip ?_)
  exact zz r h rfl
 refine ag ?_
 refine dQ (aY [0,0,0,0] (rg 62 17) [(79,pB (((p0.Most != 0)&&(!p0.HasMost))||((p0.Least != 0)&&(!p0.HasLeast))))] (by kernel_rfl) (cY rfl h (fun hc5 h=>?_) fun hc5 h=>?_))
 ·refine af ?_
  refine ai [(2,pI 1)] (by kernel_rfl) (ip ?_)
  exact zz r h rfl
 refine ag ?_
 refine dQ (aY [0,0,0,0] (rg 80 12) [(92,pB ((p0.HasMost&&p0.HasLeast)&&(decide (p0.Most<p0.Least))))] (by kernel_rfl) (cY rfl h (fun hc6 h=>?_) fun hc6 h=>?_))
 ·refine af ?_
  refine ai [(2,pI 1)] (by kernel_rfl) (ip ?_)
  exact zz r h rfl
 refine ag ?_
 refine cL (ai [(2,pI 0)] (by kernel_rfl) (ej ?_))
 exact zz r h rfl
def ie (p0:Zb) (p1:Int):Option Bool:=some (((decide (p0.From≤p1))&&(decide (p1<p0.To)))||(((p0.Registered != (-1))&&(decide (p0.Registered≤p1)))&&(decide (p1<p0.From))))
theorem oe {p0:Zb} {p1:Int} {r:Bool}  (h:ie p0 p1=some r):PF 140 [.agg (ce p0),pI p1] (pB r):=by
 unfold ie at h
 refine bm ?_
 refine fy Tryz.func140 rfl Tryz.ntmps140 Tryz.results140 rfl (ae (ak rfl (bV (cs:=(ce p0)) rfl rfl (fun b1=>bY [4] (by kernel_rfl) (cL (aY [0,0,0,0,0] (rg 5 27) [(4,pB (((decide (p0.From≤p1))&&(decide (p1<p0.To)))||(((p0.Registered != (-1))&&(decide (p0.Registered≤p1)))&&(decide (p1<p0.From)))))] (by kernel_rfl) (ej ?_)))))))
 exact zz r h rfl
end SX
end Go.Proofs.YtmgcadfnkchnfaaGreatDoor
