/- A part of the proof: texts of the walk and of the plain laws, merged. No condition. -/
import Derived.Test.YthbphcbhedmnoaaGreatDoorM1
set_option linter.unusedVariables false
set_option linter.unusedSimpArgs false
set_option maxHeartbeats 4000000
set_option maxRecDepth 100000
namespace Go.Proofs.YthbphcbhedmnoaaGreatDoor
namespace SX
open Go
section
variable {σ:PEnv} {ρ l:List PRes} {a:Option Addr} {m c T sz:Nat} {css:List (List PV)} {α:Type} {enc:α→List PV} {xs:List α}
theorem oI (t:Nat) (ht:σ t=.v (.slice a m c)) (hp:PPick ρ (.row a m c T sz (xs.map enc)) l):Cov σ ρ (dr σ t (.slc xs.length (xs.map enc))) (.frz a m c (xs.map enc)::l):=fun _ _ _ h=>fi t ht hp h
theorem qb (T sz:Nat):Cov σ ρ σ (.row none 0 0 T sz []::ρ):=fun _ _ _ h=>da T sz h
theorem gG {n:Nat} {x:Code} {K:Exit→PPost} {b k:Nat} {cs:List PV} {ρ':List PRes} (hk:cs[k]?=some (.v (.slice none 0 0))) (hu:PUpd ρ (.b b T cs) (.b b T (cs.set k (.slc 0 []))) ρ') (h:PWC n x K σ ρ'):PWC n x K σ ρ:=fun β κ σ' r g hs hr=>by
 obtain ⟨r0,l1,l2,rfl,h3,h4⟩:=hr.upd hu
 cases h3 with
 | b ho hc =>
  obtain ⟨v,hv,hp⟩:=hc.get hk
  have e:=hp.val
  have hset:=hc.set (k:=k) (p:=.slc 0 []) (v:=v) (by rw [e];exact nA)
  have:∀ (l:List Value) (k:Nat) (v:Value),l[k]?=some v→l.set k v=l:=fun l k v h=>by
   apply List.ext_getElem?;intro i;rw [List.getElem?_set];split
   ·rename_i hik;subst hik;rw [h];have:=(List.getElem?_eq_some_iff.1 h).1;simp [this]
   rfl
  rw [this _ _ _ hv] at hset
  exact h β κ σ' _ g hs (h4 κ _ (.refl _) (.b ho hset))
end
section
variable {o:Oper} {σ:PEnv} {ρ l:List PRes} {a:Option Addr} {m c T sz:Nat} {css:List (List PV)} {K:PV→List PRes→Prop} {α:Type} {enc:α→List PV} {xs:List α}
theorem pl_fz (h:POpL o σ ρ fun p ρ'=>∃ a m c T sz css l,p=.v (.slice a m c)∧PPick ρ' (.row a m c T sz css) l∧K (.slc m css) l):POpL o σ ρ K:=fun κ σ' ρ' g hs hr β hi Nx hn =>
 h κ σ' ρ' g hs hr β hi Nx fun v ρ1 κ1 h1 h2 ⟨p,ρp,k1,k2,a,m,c,T,sz,css,l,e,hp,hk⟩=>by
  subst e
  obtain ⟨r,l',j1,j2,j3⟩:=k2.pick hp
  cases j2 with
  | row hb ho hc =>
   obtain ⟨i1,i2,i3⟩:=nt (h1.perm j1)
   have hv:=k1.val
   subst hv
   have:=hn _ l' (ry κ1 a) i1 (h2.trans i2) ⟨.slc m css,l,.slc i3 hb ho (hc.mono i2),j3.mono i2,hk⟩
   rwa [p5] at this
end
section
variable {n:Nat} {ops:Array Oper} {o:Oper} {rest:List Oper} {K:PPost} {σ:PEnv} {ρ ρd ρs:List PRes} {d:Nat} {c:Bool} {l:List Operand} {ts:Array Nat} {pargs:List PV} {r pf:PV} {x:Operand} {lo:List (Nat×Oper)}
theorem og_pfv {κ:Kr} {σ':Env} {ρ':List Res} {KK:Value→Kr→Prop} (g:GOK κ) (hs:Sim κ σ σ') (ho:o.op=.call { callee:=.value x,args:=l.toArray,argTypes:=ts }) (hx:PEv σ c x pf) (ha:c=true→l.map (aW σ)=pargs) (hc:c=true→PFV pf pargs r) (h:∀ v κ',Kle κ κ'→(c=true→Rp κ' r v)→KK v κ'):OpG c o σ' ρ' κ KK:=by
 refine ⟨fun hct=>?_,fun hcf=>h undef κ (.refl _) fun h=>by rw [hcf] at h;cases h⟩
 obtain ⟨f,first,cap,h1,h2⟩:=hc hct κ _ _ g (hs.pe hx hct) (by rw [← ha hct];exact eF hs l)
 exact mB ho h1 rfl h2 fun v κ' hk hv=>⟨rfl,h v κ' hk fun _=>hv⟩
theorem qc (hg:PGuardIs ops σ o c) (hd:o.dst=some d) (hlt:Nat.blt d n=true) (ho:o.op=.call { callee:=.value x,args:=l.toArray,argTypes:=ts }) (hx:PEv σ c x pf) (ha:c=true→l.map (aW σ)=pargs) (hc:c=true→PFV pf pargs r) (h:PWD n ops K lo (dr σ d (pgv c r)) ρd ρs):PWD n ops K ((1,o)::lo) σ ρd ρs:=fun β κ σ' rd rs g hs h1 h2 =>
 wd_g (hg κ σ' hs) hd hlt fun κ1 hk=>og_pfv (g.mono hk) (hs.mono hk) ho hx ha hc fun v κ' hk' hv=>h β κ' _ rd rs ((g.mono hk).mono hk') (((hs.mono hk).mono hk').upd (ow hv)) ((h1.mono hk).mono hk') ((h2.mono hk).mono hk')
end
def flatK:List Field→Nat→List Nat→Bool
 | [],_,[]=>true
 | f::fs,k,q::ks=>(f.name != "_")&&Nat.beq f.offset k&&(match cE f.type,q with | some (.int _),0 | some .bool,1 | some .string,2=>true | _,_=>false)&&flatK fs (k+1) ks
 | _,_,_=>false
def oJ:List Nat→List Value→List Value→Option Bool
 | [],[],[]=>some true
 | 0::ks,.int k a::xs,.int k' b::ys=>match oJ ks xs ys with | some r=>cond (decide (k=k')) (some ((a == b)&&r)) none | none=>none
 | 1::ks,.bool a::xs,.bool b::ys=>match oJ ks xs ys with | some r=>some ((a == b)&&r) | none=>none
 | 2::ks,.string a::xs,.string b::ys=>match oJ ks xs ys with | some r=>some (decide (a=b)&&r) | none=>none
 | _,_,_=>none
theorem lG (d:Nat) (w:World):∀ (fs:List Field) (k:Nat) (ks:List Nat) (xs ys ax ay:List Value) (r:Bool),flatK fs k ks=true→ax.drop k=xs→ay.drop k=ys→oJ ks xs ys=some r→(Op.eqFields (d+1) ax.toArray ay.toArray fs).run Tryz.prog w=.ok r w
 | [],k,ks,xs,ys,ax,ay,r,hf,_,_,he=>by
  cases ks with
  | nil =>
   cases xs <;> cases ys <;> simp only [oJ,reduceCtorEq,co] at he
   subst he;simp [Op.eqFields]
  | cons q ks=>cases hf
 | f::fs,k,ks,xs,ys,ax,ay,r,hf,h1,h2,he=>by
  cases ks with
  | nil=>cases hf
  | cons q ks =>
   simp only [flatK,Bool.and_eq_true,bne_iff_ne,ne_eq] at hf
   obtain ⟨⟨⟨hn,hoff⟩,hty⟩,hrest⟩:=hf
   have hoff:=Nat.eq_of_beq_eq_true hoff
   cases xs with
   | nil=>unfold oJ at he;split at he <;> simp_all
   | cons x xs =>
    cases ys with
    | nil=>unfold oJ at he;split at he <;> simp_all
    | cons y ys =>
     have g1:ax[k]?=some x:=by have:=congrArg (·[0]?) h1;simpa [List.getElem?_drop] using this
     have g2:ay[k]?=some y:=by have:=congrArg (·[0]?) h2;simpa [List.getElem?_drop] using this
     have d1:ax.drop (k+1)=xs:=by have:=congrArg (List.drop 1) h1;simpa [List.drop_drop] using this
     have d2:ay.drop (k+1)=ys:=by have:=congrArg (List.drop 1) h2;simpa [List.drop_drop] using this
     cases hd:cE f.type with
     | none=>rw [hd] at hty;cases hty
     | some D =>
      rw [hd] at hty
      have hag:fu D=false:=by
       cases D <;> first | rfl | (exfalso;split at hty <;> simp_all)
      have p1:(part f.type ax.toArray f.offset).run Tryz.prog w=.ok x w:=by simp [part,eP hd,hag,hoff,g1]
      have p2:(part f.type ay.toArray f.offset).run Tryz.prog w=.ok y w:=by simp [part,eP hd,hag,hoff,g2]
      have fin:∀ (q r':Bool),(Op.equalIn (d+1) f.type x y).run Tryz.prog w=.ok q w→oJ ks xs ys=some r'→(q&&r')=r→(Op.eqFields (d+1) ax.toArray ay.toArray (f::fs)).run Tryz.prog w=.ok r w:=fun q r' hq1 hq2 hq3=>by
       have ih:=lG d w fs (k+1) ks xs ys ax ay r' hrest d1 d2 hq2
       simp only [Op.eqFields,if_pos hn,Sem.run_bind,p1,p2,Result.andThen_ok,hq1]
       cases q
       ·simp at hq3;subst hq3;simp
       simp at hq3;subst hq3;simp [ih]
      cases D with
      | int kk =>
       have hq0:q=0:=by rcases q with _ | _ | _ | q <;> first | rfl | (simp at hty)
       subst hq0
       cases x <;> cases y <;> simp only [oJ,reduceCtorEq] at he
       rename_i k1 a1 k2 b1
       cases hq:oJ ks xs ys with
       | none=>rw [hq] at he;cases he
       | some r' =>
        rw [hq] at he
        cases hk:decide (k1=k2) with
        | false=>simp only [hk,js,reduceCtorEq] at he
        | true =>
         simp only [hk,eA,co] at he
         have hk:=of_decide_eq_true hk;subst hk
         exact fin (a1 == b1) r' (run_equalIn_int w d f.type k1 kk a1 b1 (bd hd)) hq he
      | bool =>
       have hq0:q=1:=by rcases q with _ | _ | _ | q <;> first | rfl | (simp at hty)
       subst hq0
       cases x <;> cases y <;> simp only [oJ,reduceCtorEq] at he
       rename_i a1 b1
       cases hq:oJ ks xs ys with
       | none=>rw [hq] at he;cases he
       | some r'=>rw [hq] at he;simp only [co] at he;exact fin (a1 == b1) r' (run_equalIn_bool' w d f.type a1 b1 (bd hd)) hq he
      | string =>
       have hq0:q=2:=by rcases q with _ | _ | _ | q <;> first | rfl | (simp at hty)
       subst hq0
       cases x <;> cases y <;> simp only [oJ,reduceCtorEq] at he
       rename_i a1 b1
       cases hq:oJ ks xs ys with
       | none=>rw [hq] at he;cases he
       | some r'=>rw [hq] at he;simp only [co] at he;exact fin (decide (a1=b1)) r' (by rw [run_equalIn_string w d f.type a1 b1 (bd hd),qG]) hq he
      | _=>exfalso;revert hty;simp
def s3:List PV→Option (List Value)
 | []=>some []
 | .v x::r=>match s3 r with | some l=>some (x::l) | none=>none
 | _=>none
theorem kW {κ:Kr}:∀ {cs:List PV} {xs ds:List Value},s3 cs=some xs→Rps κ cs ds→ds=xs
 | [],xs,ds,h,hr=>by simp only [s3,co] at h;subst h;exact hr.nil_inv
 | c::cs,xs,ds,h,hr=>by
  obtain ⟨v,ws,rfl,h1,h2⟩:=hr.cons_inv
  cases c with
  | v x =>
   simp only [s3] at h
   cases hu:s3 cs with
   | none=>rw [hu] at h;cases h
   | some l=>rw [hu] at h;simp only [co] at h;subst h;rw [h1.val,kW hu h2]
  | _=>cases h
theorem qS {o:Oper} {σ:PEnv} {ρ:List PRes} {c:Bool} {x y:Operand} {op:BinOp} {t t':Nat} {cs ds:List PV} {xs ys:List Value} {r r':Bool} (ks:List Nat) (ho:o.op=.binOp op t x y t') (h1:Tryz.prog.underlying t=some (.struct (Tryz.prog.fieldsOf t))) (h2:Tryz.prog.stoodInHeld t=false) (h3:Tryz.prog.eqGuardType Tryz.prog.depth t=false) (h4:flatK (Tryz.prog.fieldsOf t).toList 0 ks=true)
    (hx:PEv σ c x (.agg cs)) (hy:PEv σ c y (.agg ds)) (hxs:s3 cs=some xs) (hys:s3 ds=some ys) (he:oJ ks xs ys=some r) (hr:(match op with | .eql=>some r | .neq=>some (!r) | _=>none)=some r'):POpQ c o σ ρ (.v (.bool r')):=fun κ σ' ρ' g hs hrr=>by
  cases c with
  | false=>exact p6
  | true =>
    refine ⟨.bool r',fun _=>.v rfl,fun _ w _=>?_⟩
    have e1:ev σ' x=.agg xs.toArray:=by
      have:=hs.pe hx rfl;generalize ev σ' x=w1 at this;cases this with
      | agg ho hc=>rw [kW hxs hc]
    have e2:ev σ' y=.agg ys.toArray:=by
      have:=hs.pe hy rfl;generalize ev σ' y=w1 at this;cases this with
      | agg ho hc=>rw [kW hys hc]
    have hrun:(Op.equalIn 10000 t (.agg xs.toArray) (.agg ys.toArray)).run Tryz.prog w=.ok r w:=by
      rw [run_equalIn_struct w 9999 t _ _ h1 h2]
      exact lG 9998 w _ 0 ks xs ys xs ys r h4 rfl rfl he
    simp only [execOp,ho,e1,e2,Sem.run_bind]
    rw [run_eqGuard_agg w op t x y _ _ h3]
    simp only [Result.andThen_ok]
    cases op <;> simp only [reduceCtorEq,co] at hr
    · subst hr;rw [run_eql_struct,hrun];simp
    subst hr;rw [run_neq_struct,hrun];simp
def PWS (n:Nat) (ops:Array Oper) (K:PPost) (m:Nat) (L:Array Bool) (σ:PEnv) (ρd ρs:List PRes):Prop :=
 ∀ β κ σ' rd rs,GOK κ→Sim κ σ σ'→RRels κ ρd rd→RRels κ ρs rs→WS β n ops (lft K) m L σ' rd rs κ
def PStep (n:Nat) (ops:Array Oper) (K:PPost) (m:Nat) (L:Array Bool) (σ:PEnv) (ρd ρs:List PRes) (i:Nat):Prop :=
 ∀ β κ σ' rd rs,GOK κ→Sim κ σ σ'→RRels κ ρd rd→RRels κ ρs rs→Step β n ops (lft K) m L σ' rd rs κ i
section
variable {n m:Nat} {ops:Array Oper} {K:PPost} {L:Array Bool} {σ:PEnv} {ρ ρd ρs:List PRes} {o:Oper} {i d:Nat} {p:PV} {c:Bool}
theorem eV {K:Exit→PPost} {id:Nat} {l:List Oper} (ρs:List PRes) (hp:ρ.Perm (ρd++ρs)) (h:PWS n l.toArray (K .normal) l.length (Array.replicate l.length false) σ ρd ρs):PWC n (.region id l.toArray true) K σ ρ:=fun β κ σ' ρ' g hs hr=>by
 obtain ⟨rs',h1,h2⟩:=hr.perm hp
 obtain ⟨r1,r2,rfl,h3,h4⟩:=h2.split
 exact sO h1 fun κ1 hk=>h β κ1 σ' r1 r2 (g.mono hk) (hs.mono hk) (h3.mono hk) (h4.mono hk)
theorem aw (hr:(Region.ready .any ops L).isEmpty=true) (h:K σ (ρd++ρs)):PWS n ops K m L σ ρd ρs:=fun β κ σ' rd rs g hs h1 h2=>ws_done hr ⟨σ,ρd++ρs,hs,h1.app h2,h⟩
theorem au (i:Nat) (hok:okQ ops L i=true) (ho:ops[i]?=some o) (hg:o.guard=none) (hd:o.dst=some d) (hlt:Nat.blt d n=true) (h:POpQ true o σ ρs p) (hw:PWS n ops K m (L.setIfInBounds i true) (dr σ d p) ρd ρs):PWS n ops K (m+1) L σ ρd ρs:=fun β κ σ' rd rs g hs h1 h2=>by
 obtain ⟨v,k1,k2⟩:=h κ σ' rs g hs h2
 exact ws_q i hok ho hg hd hlt k2 (hw β κ _ rd rs g (hs.upd (k1 rfl)) h1 h2)
theorem aa (i:Nat) (hr:(Region.ready .any ops L == [i])=true) (h:PStep n ops K m L σ ρd ρs i):PWS n ops K (m+1) L σ ρd ρs:=fun β κ σ' rd rs g hs h1 h2=>ws_one i hr (h β κ σ' rd rs g hs h1 h2)
theorem aP (i j:Nat) (hr:(Region.ready .any ops L == [i,j])=true) (h:PStep n ops K m L σ ρd ρs i) (h':PStep n ops K m L σ ρd ρs j):PWS n ops K (m+1) L σ ρd ρs:=fun β κ σ' rd rs g hs h1 h2=>ws_two i j hr (h β κ σ' rd rs g hs h1 h2) (h' β κ σ' rd rs g hs h1 h2)
theorem cD (i j k:Nat) (hr:(Region.ready .any ops L == [i,j,k])=true) (h:PStep n ops K m L σ ρd ρs i) (h':PStep n ops K m L σ ρd ρs j) (h'':PStep n ops K m L σ ρd ρs k):PWS n ops K (m+1) L σ ρd ρs:=fun β κ σ' rd rs g hs h1 h2=>sP i j k hr (h β κ σ' rd rs g hs h1 h2) (h' β κ σ' rd rs g hs h1 h2) (h'' β κ σ' rd rs g hs h1 h2)
theorem oK (i j k l:Nat) (hr:(Region.ready .any ops L == [i,j,k,l])=true) (h:PStep n ops K m L σ ρd ρs i) (h':PStep n ops K m L σ ρd ρs j) (h'':PStep n ops K m L σ ρd ρs k) (h4:PStep n ops K m L σ ρd ρs l):PWS n ops K (m+1) L σ ρd ρs:=fun β κ σ' rd rs g hs h1 h2=>ws_four i j k l hr (h β κ σ' rd rs g hs h1 h2) (h' β κ σ' rd rs g hs h1 h2) (h'' β κ σ' rd rs g hs h1 h2) (h4 β κ σ' rd rs g hs h1 h2)
theorem af (ho:ops[i]?=some o) (hg:o.guard=none) (hd:o.dst=some d) (hlt:Nat.blt d n=true) (h:POpL o σ ρd fun p ρ'=>PWS n ops K m (L.setIfInBounds i true) (dr σ d p) ρ' ρs):PStep n ops K m L σ ρd ρs i:=fun β κ σ' rd rs g hs h1 h2 =>
 step_l ho hg hd hlt (((h κ σ' rd g hs h1).framed (ρf:=rs)).mono fun v ρ' κ' hk ⟨ρ1,e,pv,ρp,k1,k2,k3⟩=>⟨ρ1,e,k3 β κ' _ ρ1 rs (g.mono hk) ((hs.mono hk).upd k1) k2 (h2.mono hk)⟩)
theorem ai (ho:ops[i]?=some o) (hg:o.guard=none) (hd:o.dst=none) (h:POpL o σ ρd fun _ ρ'=>PWS n ops K m (L.setIfInBounds i true) σ ρ' ρs):PStep n ops K m L σ ρd ρs i:=fun β κ σ' rd rs g hs h1 h2 =>
 step_l0 ho hg hd (((h κ σ' rd g hs h1).framed (ρf:=rs)).mono fun v ρ' κ' hk ⟨ρ1,e,pv,ρp,k1,k2,k3⟩=>⟨ρ1,e,k3 β κ' _ ρ1 rs (g.mono hk) (hs.mono hk) k2 (h2.mono hk)⟩)
theorem lH {f:Nat} {l:List Operand} {ts:Array Nat} {pargs:List PV} {v:PV} (ho:ops[i]?=some o) (hg:o.guard=none) (hd:o.dst=some d) (hlt:Nat.blt d n=true) (hop:o.op=.call { callee:=.value (.func f),args:=l.toArray,argTypes:=ts }) (ha:l.map (aW σ)=pargs) (hc:PF f pargs v) (h:PWS n ops K m (L.setIfInBounds i true) (dr σ d v) ρd ρs):PStep n ops K m L σ ρd ρs i :=
 af ho hg hd hlt (pl_call hop ha hc h)
end
section
variable {n:Nat} {x:Code} {K:Exit→PPost} {σ:PEnv} {ρ:List PRes} {a:Option Addr} {m c T sz:Nat} {α:Type} {enc:α→List PV} {xs:List α}
theorem cW (hm:PRes.row a m c T sz (xs.map enc)∈ρ) (h:xs.length=m→(0<m→a=some ⟨nE a,0,none⟩)→PWC n x K σ ρ):PWC n x K σ ρ:=fun β κ σ' ρ' g hs hr hi=>by
 obtain ⟨r,hr1,hr2⟩:=hr.mem hm
 cases hr2 with
 | row hb ho hc =>
  have h1:=hi.own _ hr1
  have e1:=(gD h1).2.1;have e2:=hc.len;rw [List.length_map] at e2
  exact h (by omega) (fun h0=>jE h1 h0) β κ σ' ρ' g hs hr hi
theorem cT {cc:Bool} {o:Oper} {y z0:Operand} {t by':Nat} {k:IntKind} {i:Int} {z:Value} {e:α} (hl:xs.length=m) (ha:0<m→a=some ⟨nE a,0,none⟩) (ho:o.op=.indexAddr t y z0) (hu:cE t=some (.slice T)) (hi:c5 T=some (z,sz,by')) (hx:PEv σ cc y (.v (.slice a m c))) (hy:PEv σ cc z0 (.v (.int k i))) (hm:cc=true→idx xs i=some e):POpQ cc o σ ρ (.v (.pointer (some ⟨nE a,i.toNat * sz,none⟩))):=fun κ σ' ρ' g hs hrr=>by
 refine ⟨_,fun _=>.v rfl,fun hc w hst=>?_⟩
 obtain ⟨h0,hmm⟩:=fZ (hm hc)
 have hlt:=(List.getElem?_eq_some_iff.1 hmm).1
 have h:=ll (c:=true) (ρ:=ρ') (κ:=κ) (j:=i.toNat) ho hu hi (fun _=>by rw [hs.ve hx hc,ha (by omega)]) (fun _=>hs.ve hy hc) (fun _=>by omega) (fun _=>by omega) rfl w hst
 rwa [Nat.zero_add] at h
end
theorem rJ {t E:Nat} (hu:cE t=some (.slice E)) (a:Option Addr) (n c:Nat) (x y:Operand) (w:World):((eqGuard .eql t x y (.slice a n c) (.slice none 0 0)).run Tryz.prog w=.ok () w)∧(binOp .eql t (.slice a n c) (.slice none 0 0)).run Tryz.prog w=.ok (.bool a.isNone) w:=by
 constructor
 ·cases a <;> simp [eqGuard]
 simp only [binOp,Sem.run_bind,run_equal_slice_nil w t E a n c (bd hu),Result.andThen_ok,Sem.run_pure]
theorem mL {n:Nat} {ops:Array Oper} {o:Oper} {rest:List Oper} {K:PPost} {σ:PEnv} {ρ:List PRes} {d t t' E mm:Nat} {x:Operand} {xs:List (List PV)} (hg:o.guard=none) (hd:o.dst=some d) (hlt:Nat.blt d n=true) (ho:o.op=.binOp .eql t x (.const (.slice none 0 0)) t') (hu:cE t=some (.slice E)) (hx:aW σ x=.slc mm xs) (h:∀ b:Bool,(b=true→xs=[])→PWL n ops rest K (dr σ d (.v (.bool b))) ρ):PWL n ops (o::rest) K σ ρ:=fun β κ σ' ρ' g hs hr=>by
 have he:=hs.ev x
 rw [hx] at he
 generalize hw':ev σ' x=w at he
 cases he with
 | slc hsl hb h1 hss =>
  rename_i a c sz css
  have hq:OpQ true o σ' ρ' κ (.bool a.isNone):=fun _ w _=>by
   obtain ⟨g1,g2⟩:=rJ hu a mm c x (.const (.slice none 0 0)) w
   have e2:ev σ' (.const (.slice none 0 0))=.slice none 0 0:=rfl
   simp only [execOp,ho,hw',e2,Sem.run_bind,g1,Result.andThen_ok,g2,Sem.run_pure]
  refine cq hg hd hlt hq (h a.isNone (fun hn=>?_) β κ _ ρ' g (hs.upd (.v rfl)) hr)
  cases a with
  | some ad=>cases hn
  | none =>
   have:mm=0:=by
    rcases Nat.eq_zero_or_pos mm with h | h
    ·exact h
    obtain ⟨b,off,e,_⟩:=hsl.at_ h;cases e
   subst this
   have e1:=hss.len;have e2:=hsl.len
   exact List.eq_nil_of_length_eq_zero (by omega)
theorem s4 {α:Type} (l:List α) (k:Nat) (v:α) (h:l[k]?=some v):l.set k v=l:=by
 apply List.ext_getElem?;intro i;rw [List.getElem?_set];split
 ·rename_i hik;subst hik;rw [h];have:=(List.getElem?_eq_some_iff.1 h).1;simp [this]
 rfl
section
variable {n:Nat} {x:Code} {K:Exit→PPost} {KL:PPost} {σ:PEnv} {ρ:List PRes} {ops:Array Oper} {lo:List Oper} {cs:List PV} {a:Option Addr} {m c:Nat} {css:List (List PV)} {α:Type} {enc:α→List PV} {xs:List α}
theorem agg_nil {κ:Kr} {w:Value} {k:Nat} (h:Rp κ (.agg cs) w) (hk:cs[k]?=some (.v (.slice none 0 0))):Rp κ (.agg (cs.set k (.slc 0 []))) w:=by
 cases h with
 | agg ho hc =>
  obtain ⟨v,hv,hp⟩:=hc.get hk
  have hset:=hc.set (k:=k) (p:=.slc 0 []) (v:=v) (by rw [hp.val];exact nA)
  rw [s4 _ _ _ hv] at hset
  exact .agg ho hset
theorem lI (t k:Nat) (ht:σ t=.agg cs) (hk:cs[k]?=some (.v (.slice none 0 0))) (h:PWL n ops lo KL (dr σ t (.agg (cs.set k (.slc 0 [])))) ρ):PWL n ops lo KL σ ρ:=fun β κ σ' ρ' g hs hr=>h β κ σ' ρ' g (ir hs (agg_nil (by have:=hs t;rwa [ht] at this) hk)) hr
end
def zpv:Value→PV
 | .slice none 0 0=>.slc 0 []
 | x=>cond (pG x) (.v x) .any
theorem qT {κ:Kr}:∀ (l:List Value),Rps κ (l.map zpv) l
 | []=>.nil
 | x::l=>.cons (by unfold zpv;split;exact nA;exact nu) (qT l)
theorem ak {o:Oper} {σ:PEnv} {ρ:List PRes} {c:Bool} {t sz by':Nat} {parts:List (Nat×Operand)} {fl:List (Nat×Nat)} {zs:List Value} {zp cs:List PV} (hc:c=true) (ho:o.op=.build t parts.toArray) (hz:c5 t=some (.agg zs.toArray,sz,by')) (hf:jt t=some fl) (hall:(fl.all fun p=>(c5 p.2).isSome)=true) (hzp:zs.map zpv=zp) (hz1:zs.all Value.oneCell'=true) (h:PFill σ fl zp parts cs):POpQ c o σ ρ (.agg cs):=fun κ σ' ρ' g hs hr=>by
 subst hc
 obtain ⟨cv,h1,h2,h3⟩:=h.real hs (zv:=zs) (by rw [← hzp];exact qT zs) (fun u hu=>List.all_eq_true.1 hz1 u hu)
 exact ⟨_,fun _=>.agg h3 h2,om ho hz hf hall h1⟩
def ea (x y c:Int):Option (Int×Int):=if 0≤x∧0≤y∧0≤c∧c≤1 then some ((x+y+c) % 18446744073709551616,(x+y+c) / 18446744073709551616) else none
theorem oL {o:Oper} {σ:PEnv} {ρ:List PRes} {l:List Operand} {ts:Array Nat} {x y c:Int} {r:Int×Int} {K:PV→List PRes→Prop} (ho:o.op=.call { callee:=.value (.func 185),args:=l.toArray,argTypes:=ts }) (ha:l.map (aW σ)=[.v (.int .u64 x),.v (.int .u64 y),.v (.int .u64 c)]) (hr:ea x y c=some r) (h:K (.tup [.v (.int .u64 r.1),.v (.int .u64 r.2)]) ρ):POpL o σ ρ K:=fun κ σ' ρ' g hs hrr=>by
 unfold ea at hr
 split at hr
 ·rename_i hh
  injection hr with hr;subst hr
  have hargs:=eF hs l
  rw [ha] at hargs
  obtain ⟨v1,w1,e1,h1,hargs⟩:=hargs.cons_inv
  obtain ⟨v2,w2,rfl,h2,hargs⟩:=hargs.cons_inv
  obtain ⟨v3,w3,rfl,h3,hargs⟩:=hargs.cons_inv
  rw [hargs.nil_inv,h1.val,h2.val,h3.val] at e1
  have hq:OpQ true o σ' ρ' κ (.tuple #[.int .u64 ((x+y+c) % 18446744073709551616),.int .u64 ((x+y+c) / 18446744073709551616)]):=fun _ w _=>by
   have hcall:=run_callFunc_extern (P:=Tryz.prog) Tryz.func185 (by kernel_rfl) (by kernel_rfl) (by kernel_rfl) (e:=add64Entry) (by kernel_rfl) #[.int .u64 x,.int .u64 y,.int .u64 c] w
   rw [run_add64 x y c hh.1 hh.2.1 hh.2.2.1 hh.2.2.2] at hcall
   simp only [Result.andThen_ok] at hcall
   unfold execOp
   simp only [ho,ev,resolve,Deferred.ofValue,Sem.run_bind,Sem.run_pure,Result.andThen_ok,invoke,List.map_toArray,e1]
   simp only [Array.append_empty,Array.empty_append,hcall]
  exact ol_q hq ⟨_,ρ,.tup (ws:=[_,_]) (.cons (.v rfl) (.cons (.v rfl) .nil)),hrr,h⟩
 cases hr
theorem gc {α:Type} {a:α} {l:List α}:a∈a::l:=List.Mem.head _
theorem rK {α:Type} {a b0:α} {l:List α}:a∈b0::a::l:=List.Mem.tail _ (List.Mem.head _)
theorem zm2 {α:Type} {a b0 b1:α} {l:List α}:a∈b0::b1::a::l:=List.Mem.tail _ (List.Mem.tail _ (List.Mem.head _))
theorem zm3 {α:Type} {a b0 b1 b2:α} {l:List α}:a∈b0::b1::b2::a::l:=List.Mem.tail _ (List.Mem.tail _ (List.Mem.tail _ (List.Mem.head _)))
theorem zm4 {α:Type} {a b0 b1 b2 b3:α} {l:List α}:a∈b0::b1::b2::b3::a::l:=List.Mem.tail _ (List.Mem.tail _ (List.Mem.tail _ (List.Mem.tail _ (List.Mem.head _))))
theorem zm5 {α:Type} {a b0 b1 b2 b3 b4:α} {l:List α}:a∈b0::b1::b2::b3::b4::a::l:=List.Mem.tail _ (List.Mem.tail _ (List.Mem.tail _ (List.Mem.tail _ (List.Mem.tail _ (List.Mem.head _)))))
theorem zm6 {α:Type} {a b0 b1 b2 b3 b4 b5:α} {l:List α}:a∈b0::b1::b2::b3::b4::b5::a::l:=List.Mem.tail _ (List.Mem.tail _ (List.Mem.tail _ (List.Mem.tail _ (List.Mem.tail _ (List.Mem.tail _ (List.Mem.head _))))))
theorem zm7 {α:Type} {a b0 b1 b2 b3 b4 b5 b6:α} {l:List α}:a∈b0::b1::b2::b3::b4::b5::b6::a::l:=List.Mem.tail _ (List.Mem.tail _ (List.Mem.tail _ (List.Mem.tail _ (List.Mem.tail _ (List.Mem.tail _ (List.Mem.tail _ (List.Mem.head _)))))))
theorem zm8 {α:Type} {a b0 b1 b2 b3 b4 b5 b6 b7:α} {l:List α}:a∈b0::b1::b2::b3::b4::b5::b6::b7::a::l:=List.Mem.tail _ (List.Mem.tail _ (List.Mem.tail _ (List.Mem.tail _ (List.Mem.tail _ (List.Mem.tail _ (List.Mem.tail _ (List.Mem.tail _ (List.Mem.head _))))))))
theorem zm9 {α:Type} {a b0 b1 b2 b3 b4 b5 b6 b7 b8:α} {l:List α}:a∈b0::b1::b2::b3::b4::b5::b6::b7::b8::a::l:=List.Mem.tail _ (List.Mem.tail _ (List.Mem.tail _ (List.Mem.tail _ (List.Mem.tail _ (List.Mem.tail _ (List.Mem.tail _ (List.Mem.tail _ (List.Mem.tail _ (List.Mem.head _)))))))))
theorem zm10 {α:Type} {a b0 b1 b2 b3 b4 b5 b6 b7 b8 b9:α} {l:List α}:a∈b0::b1::b2::b3::b4::b5::b6::b7::b8::b9::a::l:=List.Mem.tail _ (List.Mem.tail _ (List.Mem.tail _ (List.Mem.tail _ (List.Mem.tail _ (List.Mem.tail _ (List.Mem.tail _ (List.Mem.tail _ (List.Mem.tail _ (List.Mem.tail _ (List.Mem.head _))))))))))
theorem zm11 {α:Type} {a b0 b1 b2 b3 b4 b5 b6 b7 b8 b9 b10:α} {l:List α}:a∈b0::b1::b2::b3::b4::b5::b6::b7::b8::b9::b10::a::l:=List.Mem.tail _ (List.Mem.tail _ (List.Mem.tail _ (List.Mem.tail _ (List.Mem.tail _ (List.Mem.tail _ (List.Mem.tail _ (List.Mem.tail _ (List.Mem.tail _ (List.Mem.tail _ (List.Mem.tail _ (List.Mem.head _)))))))))))
theorem zm12 {α:Type} {a b0 b1 b2 b3 b4 b5 b6 b7 b8 b9 b10 b11:α} {l:List α}:a∈b0::b1::b2::b3::b4::b5::b6::b7::b8::b9::b10::b11::a::l:=List.Mem.tail _ (List.Mem.tail _ (List.Mem.tail _ (List.Mem.tail _ (List.Mem.tail _ (List.Mem.tail _ (List.Mem.tail _ (List.Mem.tail _ (List.Mem.tail _ (List.Mem.tail _ (List.Mem.tail _ (List.Mem.tail _ (List.Mem.head _))))))))))))
theorem zm13 {α:Type} {a b0 b1 b2 b3 b4 b5 b6 b7 b8 b9 b10 b11 b12:α} {l:List α}:a∈b0::b1::b2::b3::b4::b5::b6::b7::b8::b9::b10::b11::b12::a::l:=List.Mem.tail _ (List.Mem.tail _ (List.Mem.tail _ (List.Mem.tail _ (List.Mem.tail _ (List.Mem.tail _ (List.Mem.tail _ (List.Mem.tail _ (List.Mem.tail _ (List.Mem.tail _ (List.Mem.tail _ (List.Mem.tail _ (List.Mem.tail _ (List.Mem.head _)))))))))))))
theorem zmv {n:Nat} {ops:Array Oper} {o:Oper} {rest:List Oper} {K:PPost} {σ:PEnv} {ρ:List PRes} {d:Nat} {x:Operand} {p:PV} (hg:o.guard=none) (hd:o.dst=some d) (hlt:Nat.blt d n=true) (ho:o.op=.move x) (hx:aW σ x=p) (hw:PWL n ops rest K (dr σ d p) ρ):PWL n ops (o::rest) K σ ρ:=bK hg hd hlt (bm ho (.p hx)) hw
theorem zas {n:Nat} {ops:Array Oper} {o:Oper} {rest:List Oper} {K:PPost} {σ:PEnv} {ρ:List PRes} {d:Nat} {x:Operand} {p:PV} (hg:o.guard=none) (hd:o.dst=some d) (hlt:Nat.blt d n=true) (ho:o.op=.assign x) (hx:aW σ x=p) (hw:PWL n ops rest K (dr σ d p) ρ):PWL n ops (o::rest) K σ ρ:=bK hg hd hlt (bo ho (.p hx)) hw
theorem zex {n:Nat} {ops:Array Oper} {o:Oper} {rest:List Oper} {K:PPost} {σ:PEnv} {ρ:List PRes} {d i:Nat} {vs:List PV} {x:Operand} {p:PV} (hg:o.guard=none) (hd:o.dst=some d) (hlt:Nat.blt d n=true) (ho:o.op=.extract x i) (hx:aW σ x=.tup vs) (hr:vs[i]?=some p) (hw:PWL n ops rest K (dr σ d p) ρ):PWL n ops (o::rest) K σ ρ:=bK hg hd hlt (hR ho (.p hx) hr) hw
def rg (a:Nat):Nat→List Nat
  | 0=>[]
  | n+1=>a::rg (a+1) n
theorem jg {n:Nat} {x y:Code} {K:Exit→PPost} {σ:PEnv} {ρ:List PRes} {α:Type} {c:Operand} {p:Bool} {a b r:α} (hc:aW σ c=.v (.bool p)) (h:cond p a b=r) (ht:p=true→a=r→PWC n x K σ ρ) (hf:p=false→b=r→PWC n y K σ ρ):PWC n (.cond c x y) K σ ρ:=dV hc (fun e=>ht e (j9 e h)) (fun e=>hf e (ka e h))
theorem zh1 {σ:PEnv} {d0:Nat} {v0:PV} (h:σ d0=v0):PHolds σ [(d0,v0)]:=by cases h;exact bq rfl (bX)
theorem rL {x0 v0:PV} {l:List PV}:PSplice (x0::l) 0 [v0] (v0::l):=aD (aJ)
theorem fK {x0:PRes} {l:List PRes}:PSub [x0] (x0::l):=bv aF (be)
theorem oM {σ:PEnv} {d0 d1:Nat} {v0 v1:PV} (h:(σ d0,σ d1)=(v0,v1)):PHolds σ [(d0,v0),(d1,v1)]:=by cases h;exact bq rfl (bq rfl (bX))
theorem oN {x0 v0 x1 v1:PV} {l:List PV}:PSplice (x0::x1::l) 0 [v0,v1] (v0::v1::l):=aD (aD (aJ))
theorem zs2 {x0 x1:PRes} {l:List PRes}:PSub [x0,x1] (x0::x1::l):=bv aF (bv aF (be))
theorem s5 {σ:PEnv} {d0 d1 d2:Nat} {v0 v1 v2:PV} (h:(σ d0,σ d1,σ d2)=(v0,v1,v2)):PHolds σ [(d0,v0),(d1,v1),(d2,v2)]:=by cases h;exact bq rfl (bq rfl (bq rfl (bX)))
theorem zl3 {x0 v0 x1 v1 x2 v2:PV} {l:List PV}:PSplice (x0::x1::x2::l) 0 [v0,v1,v2] (v0::v1::v2::l):=aD (aD (aD (aJ)))
theorem zs3 {x0 x1 x2:PRes} {l:List PRes}:PSub [x0,x1,x2] (x0::x1::x2::l):=bv aF (bv aF (bv aF (be)))
theorem kO {σ:PEnv} {d0 d1 d2 d3:Nat} {v0 v1 v2 v3:PV} (h:(σ d0,σ d1,σ d2,σ d3)=(v0,v1,v2,v3)):PHolds σ [(d0,v0),(d1,v1),(d2,v2),(d3,v3)]:=by cases h;exact bq rfl (bq rfl (bq rfl (bq rfl (bX))))
theorem rM {σ:PEnv} {d0 d1 d2 d3 d4:Nat} {v0 v1 v2 v3 v4:PV} (h:(σ d0,σ d1,σ d2,σ d3,σ d4)=(v0,v1,v2,v3,v4)):PHolds σ [(d0,v0),(d1,v1),(d2,v2),(d3,v3),(d4,v4)]:=by cases h;exact bq rfl (bq rfl (bq rfl (bq rfl (bq rfl (bX)))))
theorem zl5 {x0 v0 x1 v1 x2 v2 x3 v3 x4 v4:PV} {l:List PV}:PSplice (x0::x1::x2::x3::x4::l) 0 [v0,v1,v2,v3,v4] (v0::v1::v2::v3::v4::l):=aD (aD (aD (aD (aD (aJ)))))
theorem tS {σ:PEnv} {d0 d1 d2 d3 d4 d5:Nat} {v0 v1 v2 v3 v4 v5:PV} (h:(σ d0,σ d1,σ d2,σ d3,σ d4,σ d5)=(v0,v1,v2,v3,v4,v5)):PHolds σ [(d0,v0),(d1,v1),(d2,v2),(d3,v3),(d4,v4),(d5,v5)]:=by cases h;exact bq rfl (bq rfl (bq rfl (bq rfl (bq rfl (bq rfl (bX))))))
theorem zh7 {σ:PEnv} {d0 d1 d2 d3 d4 d5 d6:Nat} {v0 v1 v2 v3 v4 v5 v6:PV} (h:(σ d0,σ d1,σ d2,σ d3,σ d4,σ d5,σ d6)=(v0,v1,v2,v3,v4,v5,v6)):PHolds σ [(d0,v0),(d1,v1),(d2,v2),(d3,v3),(d4,v4),(d5,v5),(d6,v6)]:=by cases h;exact bq rfl (bq rfl (bq rfl (bq rfl (bq rfl (bq rfl (bq rfl (bX)))))))
theorem zh8 {σ:PEnv} {d0 d1 d2 d3 d4 d5 d6 d7:Nat} {v0 v1 v2 v3 v4 v5 v6 v7:PV} (h:(σ d0,σ d1,σ d2,σ d3,σ d4,σ d5,σ d6,σ d7)=(v0,v1,v2,v3,v4,v5,v6,v7)):PHolds σ [(d0,v0),(d1,v1),(d2,v2),(d3,v3),(d4,v4),(d5,v5),(d6,v6),(d7,v7)]:=by cases h;exact bq rfl (bq rfl (bq rfl (bq rfl (bq rfl (bq rfl (bq rfl (bq rfl (bX))))))))
theorem zl8 {x0 v0 x1 v1 x2 v2 x3 v3 x4 v4 x5 v5 x6 v6 x7 v7:PV} {l:List PV}:PSplice (x0::x1::x2::x3::x4::x5::x6::x7::l) 0 [v0,v1,v2,v3,v4,v5,v6,v7] (v0::v1::v2::v3::v4::v5::v6::v7::l):=aD (aD (aD (aD (aD (aD (aD (aD (aJ))))))))
theorem oO {σ:PEnv} {d0 d1 d2 d3 d4 d5 d6 d7 d8:Nat} {v0 v1 v2 v3 v4 v5 v6 v7 v8:PV} (h:(σ d0,σ d1,σ d2,σ d3,σ d4,σ d5,σ d6,σ d7,σ d8)=(v0,v1,v2,v3,v4,v5,v6,v7,v8)):PHolds σ [(d0,v0),(d1,v1),(d2,v2),(d3,v3),(d4,v4),(d5,v5),(d6,v6),(d7,v7),(d8,v8)]:=by cases h;exact bq rfl (bq rfl (bq rfl (bq rfl (bq rfl (bq rfl (bq rfl (bq rfl (bq rfl (bX)))))))))
theorem zl9 {x0 v0 x1 v1 x2 v2 x3 v3 x4 v4 x5 v5 x6 v6 x7 v7 x8 v8:PV} {l:List PV}:PSplice (x0::x1::x2::x3::x4::x5::x6::x7::x8::l) 0 [v0,v1,v2,v3,v4,v5,v6,v7,v8] (v0::v1::v2::v3::v4::v5::v6::v7::v8::l):=aD (aD (aD (aD (aD (aD (aD (aD (aD (aJ)))))))))
theorem zq {t:Nat} {R:PV→List PRes→Prop} {σ:PEnv} {ρ:List PRes} {p:PV} (h:σ t=p) (hr:R p []):ex [.tmp t] R .ret σ ρ:=bg (iY (aZ h)) be hr
theorem osi {α:Type} {a b:α} (h:some a=some b):a=b:=Option.some.inj h

def oP:TypeDesc→Bool
 | .interface _=>true
 | _=>false
section
variable {o:Oper} {σ:PEnv} {ρ:List PRes} {x:Operand} {t:Nat}
theorem qd {σ:Env} {ρ:List Res} {κ:Kr} {d:TypeDesc} (ho:o.op=.makeInterface t x) (hu:cE t=some d) (hn:oP d=false):OpQ true o σ ρ κ (.iface t (ev σ x)):=fun _ w _=>by
 have h:=run_underlying (w:=w) (bd hu)
 cases d <;> first | (cases hn;done) | simp [execOp,ho,Instr.makeInterface,h]
theorem qe {d:TypeDesc} (ho:o.op=.makeInterface t x) (hu:cE t=some d) (hn:oP d=false):POpQ true o σ ρ (.ifc t (aW σ x)):=fun κ σ' ρ' g hs hr=>⟨_,fun _=>.ifc (hs.ev x),qd ho hu hn⟩
def ta (T:Nat) (p:PV):Option PV:=match p with
 | .ifc t q=>cond (Nat.beq t T) (some (.tup [q,.v (.bool true)])) (match c5 T with
  | some (.agg ⟨zs⟩,_,_)=>cond (zs.all Value.oneCell') (some (.tup [.agg (zs.map fun x=>cond (pG x) (.v x) .any),.v (.bool false)])) none
  | _=>none)
 | _=>none
theorem oq_ta {σ:Env} {ρ:List Res} {κ:Kr} {xT T s:Nat} {v z:Value} {d:TypeDesc} {sz by':Nat} (ho:o.op=.typeAssert x xT T true) (hu:cE T=some d) (hn:oP d=false) (hz:c5 T=some (z,sz,by')) (hx:ev σ x=.iface s v):OpQ true o σ ρ κ (if s=T then .tuple #[v,.bool true] else .tuple #[z,.bool false]):=fun _ w _=>by
 have h:=run_underlying (w:=w) (bd hu)
 have hzv:=cr hz w
 by_cases hst:s=T
 ·cases d <;> first | (cases hn;done) | simp [execOp,ho,hx,Instr.typeAssert,h,hst]
 cases d <;> first | (cases hn;done) | simp [execOp,ho,hx,Instr.typeAssert,h,hst,hzv]
theorem pq_ta {xT T:Nat} {d:TypeDesc} {p r:PV} (ho:o.op=.typeAssert x xT T true) (hu:cE T=some d) (hn:oP d=false) (hi:(c5 T).isSome=true) (hx:aW σ x=p) (hr:ta T p=some r):POpQ true o σ ρ r:=fun κ σ' ρ' g hs hrr=>by
 obtain ⟨⟨z,sz,by'⟩,hz⟩:=Option.isSome_iff_exists.1 hi
 have h:=hs.ev x
 rw [hx] at h
 generalize he:ev σ' x=w at h
 cases h with
 | ifc h =>
  rename_i s q v
  have hq:=oq_ta (ρ:=ρ') (κ:=κ) ho hu hn hz he
  simp only [ta] at hr
  cases hb:Nat.beq s T
  ·have hne:s≠T:=fun e=>by rw [e] at hb;simp at hb
   rw [hb,hz] at hr
   simp only [js] at hr
   rw [if_neg hne] at hq
   split at hr
   ·rename_i zs s1 b1 heq
    simp only [co,Prod.mk.injEq] at heq
    obtain ⟨rfl,rfl,rfl⟩:=heq
    cases ho1:zs.all Value.oneCell'
    ·rw [ho1] at hr;cases hr
    rw [ho1] at hr;simp only [eA,co] at hr;subst hr
    exact ⟨_,fun _=>.tup (ws:=[_,_]) (.cons (.agg (ds:=zs) (fun u hu=>List.all_eq_true.1 ho1 u hu) (eT zs)) (.cons (.v rfl) .nil)),hq⟩
   cases hr
  ·have hst:=Nat.eq_of_beq_eq_true hb
   rw [hb] at hr;simp only [eA,co] at hr;subst hr
   rw [if_pos hst] at hq
   exact ⟨_,fun _=>.tup (ws:=[_,_]) (.cons h (.cons (.v rfl) .nil)),hq⟩
 | _=>simp only [ta] at hr;cases hr
end
structure MethOk (t:Nat) (name:String) (f:Nat):Prop where
 h:∀ (v:Value) (w:World),(method (Tryz.prog.types.size+Made.depth) t v name).run Tryz.prog w=.ok (f,v) w
theorem qf {o:Oper} {σ:Env} {ρ:List Res} {κ:Kr} {K:Value→List Res→Kr→Prop} {f t:Nat} {x:Operand} {name:String} {l:List Operand} {ts:Array Nat} {v:Value} {R:Value→Kr→Prop} (ho:o.op=.call { callee:=.invoke x name,args:=l.toArray,argTypes:=ts })
    (hx:ev σ x=.iface t v) (hm:MethOk t name f) (hc:CallP f (v::l.map (ev σ)) κ R) (h:∀ v κ',Kle κ κ'→R v κ'→K v ρ κ'):OpL o σ ρ κ K:=fun β hi Nx hk=>by
  have hi2:=hi.perm (List.Perm.refl ([]++ρ))
  have e1:(#[Value.iface t v]++(l.map (ev σ)).toArray)[0]?=some (.iface t v):=by simp
  have e2:(#[Value.iface t v]++(l.map (ev σ)).toArray).extract 1 (#[Value.iface t v]++(l.map (ev σ)).toArray).size=(l.map (ev σ)).toArray:=by simp;exact List.take_of_length_le (by simp)
  have e3:#[v]++(l.map (ev σ)).toArray=(v::l.map (ev σ)).toArray:=by simp
  have hp:(program).run Tryz.prog κ.w=.ok Tryz.prog κ.w:=rfl
  unfold execOp
  simp only [ho,resolve,Sem.run_bind,Sem.run_pure,Result.andThen_ok,invoke,List.map_toArray,hx,e1,e2,callMethod,hp,hm.h,e3,fJ hc.1,OutV]
  exact (hc.2 hi2.split).mono fun e w' ⟨v,ρ',κ',h1,h2,h3,h4⟩=>by
    subst h2
    obtain ⟨rfl,h4⟩:=h4
    exact ⟨v,h1,hk v ρ κ' (hi2.join h3) h3.le.kle (h v κ' h3.le.kle h4)⟩
def PFI (p:PV) (name:String) (pargs:List PV) (r:PV):Prop:=∃ t q f,p=.ifc t q∧MethOk t name f∧PF f (q::pargs) r
abbrev pI (x:Int):PV:=.v (.int .i64 x)
abbrev pU (x:Int):PV:=.v (.int .u64 x)
abbrev pY (x:Int):PV:=.v (.int .u8 x)
abbrev pB (b:Bool):PV:=.v (.bool b)
abbrev pS (s:ByteArray):PV:=.v (.string s)
abbrev pP (b off:Nat):PV:=.v (.pointer (some ⟨b,off,none⟩))
abbrev pO (a:Option Addr) (n c:Nat):PV:=.v (.slice a n c)
abbrev pN:PV:=.v (.slice none 0 0)
abbrev pL {α:Type} (e:α→List PV) (xs:List α):PV:=.slc xs.length (List.map e xs)
def nY:IntKind→Nat
 | .i8=>0 | .i16=>1 | .i32=>2 | .i64=>3 | .u8=>4 | .u16=>5 | .u32=>6 | .u64=>7
theorem kX {a b:IntKind} (h:Nat.beq (nY a) (nY b)=true):a=b:=by cases a <;> cases b <;> first | rfl | cases h
def s6:Int→Bool
 | .ofNat (_+1)=>true
 | _=>false
def ge0l:Int→Bool
 | .ofNat _=>true
 | _=>false
theorem qU {b:Int} (h:s6 b=true):b≠0:=by rintro rfl;cases h
theorem ge0l_ge {b:Int} (h:ge0l b=true):0≤b:=by cases b with | ofNat n=>exact Int.natCast_nonneg n | negSucc n=>cases h
def qcmp (op:BinOp) (a b:Int):Option Bool:=match op with | .eql=>some (a == b) | .neq=>some (a != b) | .lss=>some (decide (a<b)) | .leq=>some (decide (a≤b)) | .gtr=>some (decide (b<a)) | .geq=>some (decide (b≤a)) | _=>none
def qari (op:BinOp) (a b:Int):Option Int:=match op with | .add=>some (a+b) | .sub=>some (a - b) | .mul=>some (a*b) | _=>none
def qbit (op:BinOp) (k:IntKind) (a b:Int):Option Int:=match op with | .and=>some (dW k a b) | .or=>some (oA k a b) | .xor=>some (jc k a b) | _=>none
def qshf (op:BinOp) (k:IntKind) (a b:Int):Option Int:=match op with | .shl=>some (dK k a b) | .shr=>some (cg k a b) | _=>none
def qeqb (op:BinOp) (p q:Bool):Option Bool:=match op with | .eql=>some (p == q) | .neq=>some (p != q) | _=>none
def qstr (op:BinOp) (s u:ByteArray):Option Bool:=match op with | .eql=>some (decide (s=u)) | .neq=>some (!decide (s=u)) | .lss=>some (Op.bytesLess s.toList u.toList) | .leq=>some (Op.bytesLess s.toList u.toList||decide (s=u)) | .gtr=>some (!(Op.bytesLess s.toList u.toList||decide (s=u))) | .geq=>some (!Op.bytesLess s.toList u.toList) | _=>none
def qint (op:BinOp) (k k':IntKind) (a b:Int):Option PV :=
 match qshf op k a b with
 | some r=>cond (ge0l b) (some (.v (.int k r))) none
 | none=>cond (Nat.beq (nY k) (nY k'))
  (match qcmp op a b with
   | some r=>some (.v (.bool r))
   | none=>match qari op a b with
    | some r=>some (.v (.int k (k.wrap r)))
    | none=>match qbit op k a b with
     | some r=>some (.v (.int k r))
     | none=>match op with
      | .quo=>cond (s6 b) (some (.v (.int k (k.wrap (a.tdiv b))))) none
      | .rem=>cond (s6 b) (some (.v (.int k (a.tmod b)))) none
      | _=>none) none
def qbin (op:BinOp) (t:Nat) (p q:PV):Option PV:=match p,q with
 | .v (.int k a),.v (.int k' b)=>qint op k k' a b
 | .v (.bool p),.v (.bool q)=>(match cE t with | some .bool=>(qeqb op p q).map fun r=>.v (.bool r) | _=>none)
 | .v (.string s),.v (.string u)=>(qstr op s u).map fun r=>.v (.bool r)
 | _,_=>none
def qlen (t:Nat) (p:PV):Option PV:=match cE t,p with
 | some (.slice _),.slc m _=>some (.v (.int .i64 (m:Int)))
 | some (.slice _),.v (.slice _ m _)=>some (.v (.int .i64 (m:Int)))
 | some .string,.v (.string s)=>some (.v (.int .i64 (s.size:Int)))
 | _,_=>none
def qmm (mx:Bool) (p q:PV):Option PV:=match p,q with
 | .v (.int k a),.v (.int k' b)=>cond (Nat.beq (nY k) (nY k')) (some (.v (.int k (cond mx (dX a b) (gF a b))))) none
 | _,_=>none
def oQ (σ:PEnv) (fl:List (Nat×Nat)):List PV→List (Nat×Operand)→Option (List PV)
 | zs,[]=>some zs
 | zs,(i,x)::r=>match fl[i]? with
  | some (k,ty)=>match c5 ty,ef (aW σ x) with
   | some (_,sz,_),some vs=>cond (Nat.beq vs.length sz&&Nat.ble (k+vs.length) zs.length) (oQ σ fl (zs.take k++vs++zs.drop (k+vs.length)) r) none
   | _,_=>none
  | none=>none
theorem oR {σ:PEnv} {fl:List (Nat×Nat)}:∀ {parts:List (Nat×Operand)} {zs cs:List PV},oQ σ fl zs parts=some cs→PFill σ fl zs parts cs
 | [],zs,cs,h=>by simp only [oQ,co] at h;exact h
 | (i,x)::r,zs,cs,h=>by
  simp only [oQ] at h
  split at h
  ·rename_i k ty h1
   split at h
   ·rename_i z sz by' vs h2 h3
    cases hb:(Nat.beq vs.length sz&&Nat.ble (k+vs.length) zs.length)
    ·rw [hb] at h;cases h
    rw [hb] at h
    simp only [Bool.and_eq_true] at hb
    exact bO h1 h2 h3 hb.1 ⟨rfl,Nat.le_of_ble_eq_true hb.2⟩ (oR h)
   cases h
  cases h
def qfa (s f:Nat) (p:PV):Option PV:=match jt s with
 | some l=>match l[f]? with
  | some (kk,ty)=>match c5 ty with
   | some (_,sz,_)=>cond (Nat.blt 0 sz) (match p with
    | .v (.pointer (some ⟨b,off,none⟩))=>some (.v (.pointer (some ⟨b,off+kk,none⟩)))
    | .ref cs off=>some (.ref cs (off+kk))
    | _=>none) none
   | none=>none
  | none=>none
 | none=>none
def qfd (t f:Nat) (p:PV):Option PV:=match jt t with
 | some l=>match l[f]? with
  | some (kk,ty)=>match p with
   | .agg cs=>cond (Nat.ble kk cs.length) (eE ty (cs.drop kk)) none
   | _=>none
  | none=>none
 | none=>none
def qx (σ:PEnv) (ρ:List PRes) (at_:Nat):Op→Option (PV×Option (Nat×Nat))
 | .move x=>some (aW σ x,none)
 | .assign x=>some (aW σ x,none)
 | .binOp op t x y _=>(qbin op t (aW σ x) (aW σ y)).map fun p=>(p,none)
 | .unOp .not _ x=>(match aW σ x with | .v (.bool p)=>some (.v (.bool !p),none) | _=>none)
 | .unOp .neg _ x=>(match aW σ x with | .v (.int k a)=>some (.v (.int k (k.wrap (0 - a))),none) | _=>none)
 | .convert s d x=>(match cE s,cE d,aW σ x with | some _,some (.int k'),.v (.int _ a)=>some (.v (.int k' (k'.wrap a)),none) | _,_,_=>none)
 | .nilCheck x=>(match aW σ x with | .v (.pointer (some ad))=>some (.v (.pointer (some ad)),none) | .ref cs k=>some (.ref cs k,none) | .ifc t p=>some (.ifc t p,none) | _=>none)
 | .fieldAddr s x f=>(qfa s f (aW σ x)).map fun p=>(p,none)
 | .field t x f=>(qfd t f (aW σ x)).map fun p=>(p,none)
 | .extract x i=>(match aW σ x with | .tup vs=>(vs[i]?).map fun p=>(p,none) | _=>none)
 | .load t x=>(match aW σ x with
  | .ref cs off=>(eE t (cs.drop off)).map fun p=>(p,none)
  | .v (.pointer (some ⟨b,off,none⟩))=>(match ρ[at_]? with | some (.b b' _ cs)=>(eE t (cs.drop off)).map fun p=>(p,some (b,b')) | _=>none)
  | _=>none)
 | .call ⟨.builtin .len,⟨[x]⟩,⟨[t]⟩⟩=>(qlen t (aW σ x)).map fun p=>(p,none)
 | .call ⟨.builtin .min,⟨[x,y]⟩,_⟩=>(qmm false (aW σ x) (aW σ y)).map fun p=>(p,none)
 | .call ⟨.builtin .max,⟨[x,y]⟩,_⟩=>(qmm true (aW σ x) (aW σ y)).map fun p=>(p,none)
 | .makeFunc (.func f) ⟨[]⟩ ⟨l⟩=>some (.fn f (l.map (aW σ)),none)
 | .makeInterface t x=>(match cE t with | some d=>cond (oP d) none (some (.ifc t (aW σ x),none)) | none=>none)
 | .build t ⟨parts⟩=>(match c5 t,jt t with
  | some (.agg ⟨zs⟩,_,_),some fl=>cond ((fl.all fun p=>(c5 p.2).isSome)&&zs.all Value.oneCell') ((oQ σ fl (zs.map fun x=>cond (pG x) (.v x) .any) parts).map fun cs=>(.agg cs,none)) none
  | _,_=>none)
 | _=>none
section
variable {o:Oper} {σ:PEnv} {ρ:List PRes} {x y:Operand} {t t':Nat} {p:PV}
theorem map_none {a:Option PV} {p:PV} {e:Option (Nat×Nat)} (h:(a.map fun q=>(q,(none:Option (Nat×Nat))))=some (p,e)):a=some p:=by
 cases a with
 | none=>cases h
 | some q=>simp only [Option.map_some,co,Prod.mk.injEq] at h;rw [h.1]
theorem qint_ok {op:BinOp} {k k':IntKind} {a b:Int} (ho:o.op=.binOp op t x y t') (hx:aW σ x=.v (.int k a)) (hy:aW σ y=.v (.int k' b)) (h:qint op k k' a b=some p):POpQ true o σ ρ p:=by
 unfold qint at h
 split at h
 ·rename_i r hr
  cases hb:ge0l b
  ·rw [hb] at h;cases h
  rw [hb] at h;simp only [eA,co] at h;subst h
  exact lB ho (.p hx) (.p hy) (fun _=>ge0l_ge hb) (by cases op <;> exact hr)
 cases hk:Nat.beq (nY k) (nY k')
 ·rw [hk] at h;cases h
 rw [hk] at h;simp only [eA] at h
 have:=kX hk;subst this
 split at h
 ·rename_i r hr;simp only [co] at h;subst h;exact jb ho (.p hx) (.p hy) (by cases op <;> exact hr)
 split at h
 ·rename_i r hr;simp only [co] at h;subst h;exact fY ho (.p hx) (.p hy) (by cases op <;> exact hr)
 split at h
 ·rename_i r hr;simp only [co] at h;subst h;exact pq_bits ho (.p hx) (.p hy) (by cases op <;> exact hr)
 split at h
 ·cases hb:s6 b
  ·rw [hb] at h;cases h
  rw [hb] at h;simp only [eA,co] at h;subst h;exact sV ho (.p hx) (.p hy) fun _=>qU hb
 ·cases hb:s6 b
  ·rw [hb] at h;cases h
  rw [hb] at h;simp only [eA,co] at h;subst h;exact sW ho (.p hx) (.p hy) fun _=>qU hb
 cases h
theorem qbin_ok {op:BinOp} (ho:o.op=.binOp op t x y t') (h:qbin op t (aW σ x) (aW σ y)=some p):POpQ true o σ ρ p:=by
 unfold qbin at h
 split at h
 ·rename_i h1 h2;exact qint_ok ho h1 h2 h
 ·rename_i h1 h2
  split at h
  ·rename_i hu
   obtain ⟨r,hr,rfl⟩:=Option.map_eq_some_iff.1 h
   exact pq_eqB ho hu (.p h1) (.p h2) (by cases op <;> exact hr)
  cases h
 ·rename_i h1 h2
  obtain ⟨r,hr,rfl⟩:=Option.map_eq_some_iff.1 h
  exact pq_str ho (.p h1) (.p h2) (by cases op <;> exact hr)
 cases h
theorem qlen_ok (ho:o.op=.call { callee:=.builtin .len,args:=#[x],argTypes:=#[t] }) (h:qlen t (aW σ x)=some p):POpQ true o σ ρ p:=by
 unfold qlen at h
 split at h
 ·rename_i hu hx;simp only [co] at h;subst h;exact sY ho hu (.p hx)
 ·rename_i hu hx;simp only [co] at h;subst h;exact pq_lenO ho hu (.p hx)
 ·rename_i hu hx;simp only [co] at h;subst h;exact pq_lenS ho hu (.p hx)
 cases h
theorem s7 {mx:Bool} {ts:List Nat} (ho:o.op=.call { callee:=.builtin (cond mx .max .min),args:=#[x,y],argTypes:=ts.toArray }) (h:qmm mx (aW σ x) (aW σ y)=some p):POpQ true o σ ρ p:=by
 unfold qmm at h
 split at h
 ·rename_i k a k' b h1 h2
  cases hk:Nat.beq (nY k) (nY k')
  ·rw [hk] at h;cases h
  have:=kX hk;subst this
  rw [hk] at h
  simp only [eA,co] at h;subst h
  cases mx
  ·exact p7 ho (.p h1) (.p h2)
  exact pq_max ho (.p h1) (.p h2)
 cases h
theorem qfa_ok {s f:Nat} (ho:o.op=.fieldAddr s x f) (h:qfa s f (aW σ x)=some p):POpQ true o σ ρ p:=by
 unfold qfa at h
 split at h
 ·rename_i l h1
  split at h
  ·rename_i kk ty h2
   split at h
   ·rename_i z sz by' h3
    cases h4:Nat.blt 0 sz
    ·rw [h4] at h;cases h
    rw [h4] at h;simp only [eA] at h
    split at h
    ·rename_i hx;simp only [co] at h;subst h;exact a8 ho h1 h2 h3 h4 (.p hx)
    ·rename_i hx;simp only [co] at h;subst h;exact ml ho h1 h2 h3 h4 (.p hx)
    cases h
   cases h
  cases h
 cases h
theorem qfd_ok {f:Nat} (ho:o.op=.field t x f) (h:qfd t f (aW σ x)=some p):POpQ true o σ ρ p:=by
 unfold qfd at h
 split at h
 ·rename_i l h1
  split at h
  ·rename_i kk ty h2
   split at h
   ·rename_i cs hx
    cases h4:Nat.ble kk cs.length
    ·rw [h4] at h;cases h
    rw [h4] at h;exact sX ho h1 h2 (.p hx) h4 h
   cases h
  cases h
 cases h
theorem nH {c:Bool} {tt:Nat} {pp:PV} (ho:o.op=.nilCheck x) (hx:PEv σ c x (.ifc tt pp)):POpQ c o σ ρ (.ifc tt pp):=fun κ σ' ρ' g hs _=>by
 refine ⟨ev σ' x,hs.pe hx,fun hc w _=>?_⟩
 have h:=hs.pe hx hc
 generalize he:ev σ' x=y at h
 cases h with
 | ifc h=>simp [execOp,ho,he]
theorem qx_ok {k:Nat} {e:Option (Nat×Nat)} (h:qx σ ρ k o.op=some (p,e)) (he:∀ b b',e=some (b,b')→b=b'):POpQ true o σ ρ p:=by
 generalize ho:o.op=op at h
 unfold qx at h
 split at h
 ·simp only [co,Prod.mk.injEq] at h;obtain ⟨rfl,_⟩:=h;exact bm ho (.p rfl)
 ·simp only [co,Prod.mk.injEq] at h;obtain ⟨rfl,_⟩:=h;exact bo ho (.p rfl)
 ·exact qbin_ok ho (map_none h)
 ·split at h
  ·rename_i hx;simp only [co,Prod.mk.injEq] at h;obtain ⟨rfl,_⟩:=h;exact pq_not ho (.p hx)
  cases h
 ·split at h
  ·rename_i hx;simp only [co,Prod.mk.injEq] at h;obtain ⟨rfl,_⟩:=h;exact pq_neg ho (.p hx)
  cases h
 ·split at h
  ·rename_i h1 h2 hx;simp only [co,Prod.mk.injEq] at h;obtain ⟨rfl,_⟩:=h;exact pq_conv ho h1 h2 (.p hx)
  cases h
 ·split at h
  ·rename_i hx;simp only [co,Prod.mk.injEq] at h;obtain ⟨rfl,_⟩:=h;exact fj ho (.p hx)
  ·rename_i hx;simp only [co,Prod.mk.injEq] at h;obtain ⟨rfl,_⟩:=h;exact nD ho (.p hx)
  ·rename_i hx;simp only [co,Prod.mk.injEq] at h;obtain ⟨rfl,_⟩:=h;exact nH ho (.p hx)
  cases h
 ·exact qfa_ok ho (map_none h)
 ·exact qfd_ok ho (map_none h)
 ·split at h
  ·rename_i hx;exact hR ho (.p hx) (map_none h)
  cases h
 ·split at h
  ·rename_i hx;exact rF ho (.p hx) (map_none h)
  ·rename_i b off hx
   split at h
   ·rename_i b' T cs hr
    obtain ⟨q,hq,h2⟩:=Option.map_eq_some_iff.1 h
    simp only [Prod.mk.injEq] at h2
    obtain ⟨rfl,rfl⟩:=h2
    have:=he b b' rfl;subst this
    exact cC ho (.p hx) (List.mem_of_getElem? hr) hq
   cases h
  cases h
 ·exact qlen_ok ho (map_none h)
 ·exact s7 (mx:=false) (ts:=_) ho (map_none h)
 ·exact s7 (mx:=true) (ts:=_) ho (map_none h)
 ·simp only [co,Prod.mk.injEq] at h;obtain ⟨rfl,_⟩:=h;exact oG ho
 ·split at h
  ·rename_i d hu
   cases hn:oP d
   ·rw [hn] at h;simp only [js,co,Prod.mk.injEq] at h;obtain ⟨rfl,_⟩:=h;exact qe ho hu hn
   rw [hn] at h;cases h
  cases h
 ·split at h
  ·rename_i zs sz by' fl h1 h2
   cases hc:((fl.all fun p=>(c5 p.2).isSome)&&zs.all Value.oneCell')
   ·rw [hc] at h;cases h
   rw [hc] at h
   simp only [eA] at h
   obtain ⟨q,hq,h3⟩:=Option.map_eq_some_iff.1 h
   simp only [Prod.mk.injEq] at h3
   obtain ⟨rfl,_⟩:=h3
   simp only [Bool.and_eq_true] at hc
   exact oB rfl ho h1 h2 hc.1 rfl hc.2 (oR hq)
  cases h
 cases h
end
structure GE where
 gs:List Bool
 p:PV
def gl (t:Nat):List (Nat×GE)→Option GE
 | []=>none
 | (d,e)::l=>cond (Nat.beq t d) (some e) (gl t l)
def s8 (t:Nat):List (Nat×GE)→List (Nat×GE)
 | []=>[]
 | (d,e)::l=>cond (Nat.beq t d) (s8 t l) ((d,e)::s8 t l)
def s9 (d:Nat):List Nat→Bool
 | []=>false
 | k::l=>cond (Nat.beq d k) true (s9 d l)
theorem kY {d:Nat}:∀ {l:List Nat},s9 d l=true↔d∈l
 | []=>by simp [s9]
 | k::l=>by
  unfold s9
  cases h:Nat.beq d k
  ·have:d≠k:=fun e=>by rw [e] at h;simp at h
   simp [kY (l:=l),this]
  simp [Nat.eq_of_beq_eq_true h]
def dm:List Operand→List Nat
 | []=>[]
 | .tmp t::l=>t::dm l
 | _::l=>dm l
def ic (σ:PEnv) (G:List (Nat×GE)) (ts:List Nat) (gs:List Bool):PEnv:=fun t=>match gl t G with
 | none=>σ t
 | some e=>cond (s9 t ts&&Nat.ble e.gs.length gs.length) e.p .any
def fL (G:List (Nat×GE)) (gs:List Bool):List Nat→List (Bool×Bool)
 | []=>[]
 | t::ts=>match gl t G with
  | none=>fL G gs ts
  | some e=>(e.gs.headD true,(gs.drop (gs.length - e.gs.length)).headD true)::fL G gs ts
def nI (ops:Array Oper) (σ:PEnv) (G:List (Nat×GE)):Option (Nat×Bool)→Option (List Bool)
 | none=>some []
 | some (j,pol)=>match (ops[j]?).bind (·.dst) with
  | none=>none
  | some d=>match gl d G with
   | none=>match σ d with | .v (.bool p)=>some [cond pol p (!p)] | _=>none
   | some e=>match e.p with | .v (.bool p)=>some ((e.gs.headD true&&cond pol p (!p))::e.gs) | _=>none
def StackOk (gs:List Bool):Prop:=gs.headD true=true→∀ b∈gs,b=true
def GInv (σ:PEnv) (G:List (Nat×GE)):Prop:=∀ t e,gl t G=some e→σ t=pgv (e.gs.headD true) e.p∧StackOk e.gs∧e.gs≠[]
def AllEq (l:List (Bool×Bool)):Prop:=l.map (·.1)=l.map (·.2)
theorem AllEq.nil:AllEq []:=rfl
theorem AllEq.cons {a b:Bool} {l:List (Bool×Bool)} (h:AllEq ((a,b)::l)):a=b∧AllEq l:=by
 unfold AllEq at h;simp only [List.map_cons,List.cons.injEq] at h;exact h
theorem AllEq.app {l m:List (Bool×Bool)} (h:AllEq (l++m)):AllEq l∧AllEq m:=by
 unfold AllEq at h;simp only [List.map_append] at h
 exact List.append_inj h (by simp)
theorem jG {G:List (Nat×GE)} {gs:List Bool} {t:Nat} {e:GE}:∀ {ts:List Nat},t∈ts→gl t G=some e→AllEq (fL G gs ts)→e.gs.headD true=(gs.drop (gs.length - e.gs.length)).headD true
 | u::ts,hm,hg,ha=>by
  simp only [fL] at ha
  rcases List.mem_cons.1 hm with rfl | hm
  ·rw [hg] at ha;exact ha.cons.1
  split at ha
  ·exact jG hm hg ha
  exact jG hm hg ha.cons.2
theorem lJ {gs:List Bool} (h:StackOk gs) (hc:gs.headD true=true) (k:Nat):(gs.drop k).headD true=true:=by
 rw [List.headD_eq_head?_getD,List.head?_drop]
 cases e:gs[k]? with
 | none=>rfl
 | some b=>exact h hc b (List.mem_of_getElem? e)
theorem jH {κ:Kr} {σ:PEnv} {σ':Env} {G:List (Nat×GE)} {ts:List Nat} {gs:List Bool} (hs:Sim κ σ σ') (hi:GInv σ G) (ha:AllEq (fL G gs ts)) (hk:StackOk gs) (hc:gs.headD true=true):Sim κ (ic σ G ts gs) σ':=fun t=>by
 unfold ic
 cases hg:gl t G with
 | none=>exact hs t
 | some e =>
  simp only
  cases hb:(s9 t ts&&Nat.ble e.gs.length gs.length)
  ·exact .any
  simp only [Bool.and_eq_true,kY] at hb
  have h1:=jG hb.1 hg ha
  rw [lJ hk hc] at h1
  have h2:=(hi t e hg).1
  rw [h1,gE] at h2
  have:=hs t
  rw [h2] at this
  exact this
theorem ke {o:Oper} {σ:PEnv} {ρ:List PRes} {G:List (Nat×GE)} {ts:List Nat} {gs:List Bool} {p:PV} (h:gs.headD true=true→POpQ true o (ic σ G ts gs) ρ p) (hi:GInv σ G) (ha:AllEq (fL G gs ts)) (hk:StackOk gs):POpQ (gs.headD true) o σ ρ p:=fun κ σ' ρ' g hs hr=>by
 cases hc:gs.headD true with
 | false=>exact p6
 | true=>exact h hc κ σ' ρ' g (jH hs hi ha hk hc) hr
theorem rN {ops:Array Oper} {σ:PEnv} {G:List (Nat×GE)} {o:Oper} {gs:List Bool} (hi:GInv σ G) (h:nI ops σ G o.guard=some gs):PGuardIs ops σ o (gs.headD true)∧StackOk gs:=by
 cases hg:o.guard with
 | none =>
  rw [hg] at h;simp only [nI,co] at h;subst h
  exact ⟨fun κ σ' _=>pM hg,fun _ b hb=>by cases hb⟩
 | some jp =>
  obtain ⟨j,pol⟩:=jp
  rw [hg] at h;simp only [nI] at h
  split at h
  ·cases h
  rename_i d hd
  split at h
  ·split at h
   ·rename_i p hp
    simp only [co] at h;subst h
    refine ⟨?_,fun hc b hb=>by rw [List.mem_singleton.1 hb];exact hc⟩
    cases pol
    ·exact eG hg hd hp
    exact dj hg hd hp
   cases h
  rename_i e hgl
  split at h
  ·rename_i p hp
   simp only [co] at h;subst h
   obtain ⟨h1,h2,h3⟩:=hi d e hgl
   rw [hp] at h1
   refine ⟨?_,fun hc b hb=>?_⟩
   ·cases pol
    ·exact dl hg hd h1
    exact dS hg hd h1
   simp only [List.headD_cons,Bool.and_eq_true] at hc
   rcases List.mem_cons.1 hb with rfl | hb
   ·simp only [hc,Bool.and_self]
   exact h2 hc.1 b hb
  cases h
def qV (σ:PEnv) (G:List (Nat×GE)) (want:Bool):Operand→Option (PV×List (Bool×Bool))
 | .tmp t=>match gl t G with
  | some e=>some (e.p,[(e.gs.headD true,want)])
  | none=>some (σ t,[])
 | x=>some (aW σ x,[])
theorem oS {σ:PEnv} {G:List (Nat×GE)} {want:Bool} {x:Operand} {p:PV} {l:List (Bool×Bool)} (hi:GInv σ G) (h:qV σ G want x=some (p,l)) (ha:AllEq l):PEv σ want x p:=by
 unfold qV at h
 split at h
 ·rename_i t
  split at h
  ·rename_i e hg
   simp only [co,Prod.mk.injEq] at h;obtain ⟨rfl,rfl⟩:=h
   have h1:=ha.cons.1
   have h2:=(hi t e hg).1
   rw [h1] at h2
   exact .g h2
  simp only [co,Prod.mk.injEq] at h;obtain ⟨rfl,rfl⟩:=h;exact .p rfl
 simp only [co,Prod.mk.injEq] at h;obtain ⟨rfl,rfl⟩:=h;exact .p rfl
def lK:PV→Option Bool
 | .v (.bool p)=>some p
 | _=>none
theorem kf {p:PV} {b:Bool} (h:lK p=some b):p=.v (.bool b):=by
 unfold lK at h;split at h
 ·simp only [co] at h;rw [h]
 cases h
def nJ:Operand→Bool
 | .const (.bool true)=>true
 | _=>false
def kZ:Operand→Bool
 | .const (.bool false)=>true
 | _=>false
theorem rO {x:Operand} {σ:PEnv} (h:nJ x=true):aW σ x=.v (.bool true):=by
 unfold nJ at h;split at h
 ·rfl
 cases h
theorem qg {x:Operand} {σ:PEnv} (h:kZ x=true):aW σ x=.v (.bool false):=by
 unfold kZ at h;split at h
 ·rfl
 cases h
def tc (σ:PEnv) (G:List (Nat×GE)) (gs:List Bool) (cc a b:Operand):Option (PV×List (Bool×Bool)) :=
 match lK (aW (ic σ G (dm [cc]) gs) cc) with
 | none=>none
 | some p=>cond (nJ a)
  (match qV σ G (gs.headD true && !p) b with
   | some (q,l)=>match lK q with
    | some q=>some (.v (.bool (p||q)),fL G gs (dm [cc])++l)
    | none=>none
   | none=>none)
  (cond (kZ b)
   (match qV σ G (gs.headD true&&p) a with
    | some (q,l)=>match lK q with
     | some q=>some (.v (.bool (p&&q)),fL G gs (dm [cc])++l)
     | none=>none
    | none=>none) none)
theorem qW {σ:PEnv} {G:List (Nat×GE)} {gs:List Bool} {x:Operand} {p:PV} (hi:GInv σ G) (hk:StackOk gs) (ha:AllEq (fL G gs (dm [x]))) (h:aW (ic σ G (dm [x]) gs) x=p) (hn:p≠.any):PEv σ (gs.headD true) x p:=fun hc=>by
 cases x with
 | tmp t =>
  simp only [aW,dm] at h ⊢
  unfold ic at h
  cases hg:gl t G with
  | none=>rw [hg] at h;exact h
  | some e =>
   rw [hg] at h
   simp only at h
   cases hb:(s9 t [t]&&Nat.ble e.gs.length gs.length)
   ·rw [hb] at h;exact absurd h.symm hn
   ·rw [hb] at h;simp only [eA] at h
    have h1:=jG (t:=t) (ts:=[t]) (by simp) hg ha
    rw [lJ hk hc] at h1
    have h2:=(hi t e hg).1
    rw [h1,gE] at h2
    rw [h2,h]
 | const x=>exact h
 | global g=>exact h
 | func f=>exact h
theorem td {o:Oper} {σ:PEnv} {ρ:List PRes} {G:List (Nat×GE)} {gs:List Bool} {cc a b:Operand} {p:PV} {l:List (Bool×Bool)} (ho:o.op=.pick cc a b) (hi:GInv σ G) (hk:StackOk gs) (h:tc σ G gs cc a b=some (p,l)) (ha:AllEq l):POpQ (gs.headD true) o σ ρ p:=by
 unfold tc at h
 split at h
 ·cases h
 rename_i c hc
 have hc:=kf hc
 cases h1:nJ a
 ·rw [h1] at h;simp only [js] at h
  cases h2:kZ b
  ·rw [h2] at h;cases h
  rw [h2] at h;simp only [eA] at h
  split at h
  ·rename_i q m hl
   split at h
   ·rename_i q' hq
    simp only [co,Prod.mk.injEq] at h;obtain ⟨rfl,rfl⟩:=h
    have hl':=oS hi hl ha.app.2
    rw [kf hq] at hl'
    exact nC ho (qW hi hk ha.app.1 hc (by simp)) (.p (qg h2)) hl'
   cases h
  cases h
 rw [h1] at h;simp only [eA] at h
 split at h
 ·rename_i q m hl
  split at h
  ·rename_i q' hq
   simp only [co,Prod.mk.injEq] at h;obtain ⟨rfl,rfl⟩:=h
   have hl':=oS hi hl ha.app.2
   rw [kf hq] at hl'
   exact qO ho (qW hi hk ha.app.1 hc (by simp)) (.p (rO h1)) hl'
  cases h
 cases h
inductive Fct where
 | ix (c:Bool) (css:List (List PV)) (i:Int) (cs:List PV)
 | sx (c:Bool) (s:ByteArray) (i:Int) (u:UInt8)
 | nz (c:Bool) (b:Int)
 | ge (c:Bool) (b:Int)
 | sl (c:Bool) (css:List (List PV)) (lo hi:Int) (zss:List (List PV)) (m sz:Nat)
 | ss (c:Bool) (s:ByteArray) (lo hi:Int) (z:ByteArray)
 | ct (c:Bool) (s u z:ByteArray)
 | eq (t:Nat) (ks:List Nat)
 | cl (c:Bool) (f:Nat) (pargs:List PV) (r:PV)
 | cv (c:Bool) (pf:PV) (pargs:List PV) (r:PV)
 | ci (c:Bool) (p:PV) (name:String) (pargs:List PV) (r:PV)
 | ta (T:Nat) (p r:PV)
structure EqOk (t:Nat) (ks:List Nat):Prop where
 h1:Tryz.prog.underlying t=some (.struct (Tryz.prog.fieldsOf t))
 h2:Tryz.prog.stoodInHeld t=false
 h3:Tryz.prog.eqGuardType Tryz.prog.depth t=false
 h4:flatK (Tryz.prog.fieldsOf t).toList 0 ks=true
def Fct.ok:Fct→Prop
 | .ix c css i cs=>c=true→idx css i=some cs
 | .sx c s i u=>c=true→idx s.data.toList i=some u
 | .nz c b=>c=true→b≠0
 | .ge c b=>c=true→0≤b
 | .sl c css lo hi zss m sz=>(c=true→sub css lo hi=some zss)∧m=zss.length∧∀ cs∈css,cs.length=sz
 | .ss c s lo hi z=>c=true→gt s lo hi=some z
 | .ct c s u z=>c=true→oF s u=some z
 | .eq t ks=>EqOk t ks
 | .cl c f pargs r=>c=true→PF f pargs r
 | .cv c pf pargs r=>c=true→PFV pf pargs r
 | .ci c p name pargs r=>c=true→PFI p name pargs r
 | .ta T p r=>SX.ta T p=some r
def FOk:List (Nat×Fct)→Prop
 | []=>True
 | f::l=>f.2.ok∧FOk l
theorem bV:FOk []:=trivial
section
variable {F:List (Nat×Fct)} {c:Bool} {α:Type} {xs zs:List α} {i lo hi b:Int} {m:α}
theorem qX (k:Nat) (e:α→List PV) (hm:c=true→idx xs i=some m) (h:FOk F):FOk ((k,.ix c (List.map e xs) i (e m))::F):=⟨fun hc=>by
 obtain ⟨h0,hmm⟩:=fZ (hm hc)
 unfold idx;rw [if_pos h0,List.getElem?_map,hmm];rfl,h⟩
theorem gu (k:Nat) (e:α→List PV) (hm:idx xs i=some m) (h:FOk F):FOk ((k,.ix true (List.map e xs) i (e m))::F):=qX k e (fun _=>hm) h
theorem fosxg (k:Nat) {s:ByteArray} {u:UInt8} (hm:c=true→idx s.data.toList i=some u) (h:FOk F):FOk ((k,.sx c s i u)::F):=⟨hm,h⟩
theorem fosx (k:Nat) {s:ByteArray} {u:UInt8} (hm:idx s.data.toList i=some u) (h:FOk F):FOk ((k,.sx true s i u)::F):=⟨fun _=>hm,h⟩
theorem qh (k:Nat) {u:Unit} (hm:SX.nz b=some u) (h:FOk F):FOk ((k,.nz true b)::F):=⟨fun _=>nz_some hm,h⟩
theorem te (k:Nat) {u:Unit} (hm:mn b=some u) (h:FOk F):FOk ((k,.ge true b)::F):=⟨fun _=>sZ hm,h⟩
theorem foslg (k:Nat) (e:α→List PV) (sz:Nat) (hw:∀ m,(e m).length=sz) (hm:c=true→sub xs lo hi=some zs) (h:FOk F):FOk ((k,.sl c (List.map e xs) lo hi (List.map e zs) zs.length sz)::F):=⟨⟨fun hc=>by
 obtain ⟨h1,rfl⟩:=jF (hm hc)
 unfold sub;rw [if_pos (by rw [List.length_map];exact h1),List.map_drop,List.map_take],by rw [List.length_map],fun cs hcs=>by obtain ⟨x,_,rfl⟩:=List.mem_map.1 hcs;exact hw x⟩,h⟩
theorem fosl (k:Nat) (e:α→List PV) (sz:Nat) (hw:∀ m,(e m).length=sz) (hm:sub xs lo hi=some zs) (h:FOk F):FOk ((k,.sl true (List.map e xs) lo hi (List.map e zs) zs.length sz)::F):=foslg k e sz hw (fun _=>hm) h
theorem fossg (k:Nat) {s z:ByteArray} (hm:c=true→gt s lo hi=some z) (h:FOk F):FOk ((k,.ss c s lo hi z)::F):=⟨hm,h⟩
theorem foeq (k:Nat) {t:Nat} {ks:List Nat} (hm:EqOk t ks) (h:FOk F):FOk ((k,.eq t ks)::F):=⟨hm,h⟩
theorem cu (k:Nat) {f:Nat} {pargs:List PV} {r:PV} (hm:PF f pargs r) (h:FOk F):FOk ((k,.cl true f pargs r)::F):=⟨fun _=>hm,h⟩
theorem i0 (k:Nat) {f:Nat} {pargs:List PV} {r:PV} (hm:c=true→PF f pargs r) (h:FOk F):FOk ((k,.cl c f pargs r)::F):=⟨hm,h⟩
theorem tg (k:Nat) {pf:PV} {pargs:List PV} {r:PV} (hm:PFV pf pargs r) (h:FOk F):FOk ((k,.cv true pf pargs r)::F):=⟨fun _=>hm,h⟩
theorem focvg (k:Nat) {pf:PV} {pargs:List PV} {r:PV} (hm:c=true→PFV pf pargs r) (h:FOk F):FOk ((k,.cv c pf pargs r)::F):=⟨hm,h⟩
end
inductive Eqn where
 | n (a:Nat)
 | b (a:Bool)
 | i (a:Int)
 | p (a:PV)
 | l (a:List PV)
 | q (a:List (List PV))
 | s (a:ByteArray)
 | m (a:String)
abbrev StepR:=PV×List Eqn×List Eqn
def qi (σ:PEnv) (c:Bool) (t:Nat) (p:PV) (lo hi:Option Operand):Fct→Option StepR
 | .sl c' css l h zss m sz=>(match cE t,p with
  | some (.slice E),.slc mm css'=>(match c5 E with
   | some (_,sz',_)=>(match lo,hi with
    | none,some y=>(match aW σ y with | .v (.int _ b)=>some (.slc m zss,[.b c',.q css,.i l,.i h,.n sz],[.b c,.q css',.i 0,.i b,.n sz']) | _=>none)
    | some x,none=>(match aW σ x with | .v (.int _ a)=>some (.slc m zss,[.b c',.q css,.i l,.i h,.n sz],[.b c,.q css',.i a,.i (mm:Int),.n sz']) | _=>none)
    | _,_=>none)
   | none=>none)
  | _,_=>none)
 | .ss c' s l h z=>(match cE t,p with
  | some .string,.v (.string s')=>(match lo,hi with
   | none,some y=>(match aW σ y with | .v (.int _ b)=>some (.v (.string z),[.b c',.s s,.i l,.i h],[.b c,.s s',.i 0,.i b]) | _=>none)
   | some x,none=>(match aW σ x with | .v (.int _ a)=>some (.v (.string z),[.b c',.s s,.i l,.i h],[.b c,.s s',.i a,.i (s'.size:Int)]) | _=>none)
   | some x,some y=>(match aW σ x,aW σ y with | .v (.int _ a),.v (.int _ b)=>some (.v (.string z),[.b c',.s s,.i l,.i h],[.b c,.s s',.i a,.i b]) | _,_=>none)
   | none,none=>none)
  | _,_=>none)
 | _=>none
def th (σ:PEnv) (c:Bool):Op→Fct→Option StepR
 | .indexAddr t x y,.ix c' css i cs=>(match cE t,aW σ x,aW σ y with
  | some (.slice E),.slc _ css',.v (.int _ i')=>(match c5 E with | some (_,sz,_)=>some (.ref cs 0,[.b c',.q css,.i i,.n cs.length],[.b c,.q css',.i i',.n sz]) | none=>none)
  | _,_,_=>none)
 | .index t x y,.sx c' s i u=>(match cE t,aW σ x,aW σ y with
  | some .string,.v (.string s'),.v (.int _ i')=>some (.v (.int .u8 (u.toNat:Int)),[.b c',.s s,.i i],[.b c,.s s',.i i'])
  | _,_,_=>none)
 | .binOp .quo _ x y _,.nz c' b=>(match aW σ x,aW σ y with
  | .v (.int k a),.v (.int k' b')=>cond (Nat.beq (nY k) (nY k')) (some (.v (.int k (k.wrap (a.tdiv b))),[.b c',.i b],[.b c,.i b'])) none
  | _,_=>none)
 | .binOp .rem _ x y _,.nz c' b=>(match aW σ x,aW σ y with
  | .v (.int k a),.v (.int k' b')=>cond (Nat.beq (nY k) (nY k')) (some (.v (.int k (a.tmod b)),[.b c',.i b],[.b c,.i b'])) none
  | _,_=>none)
 | .binOp .shl _ x y _,.ge c' b=>(match aW σ x,aW σ y with
  | .v (.int k a),.v (.int _ b')=>some (.v (.int k (dK k a b)),[.b c',.i b],[.b c,.i b'])
  | _,_=>none)
 | .binOp .shr _ x y _,.ge c' b=>(match aW σ x,aW σ y with
  | .v (.int k a),.v (.int _ b')=>some (.v (.int k (cg k a b)),[.b c',.i b],[.b c,.i b'])
  | _,_=>none)
 | .binOp .add _ x y _,.ct c' s u z=>(match aW σ x,aW σ y with
  | .v (.string s'),.v (.string u')=>some (.v (.string z),[.b c',.s s,.s u],[.b c,.s s',.s u'])
  | _,_=>none)
 | .binOp .eql t x y _,.eq t' ks=>(match aW σ x,aW σ y with
  | .agg cs,.agg ds=>(match s3 cs,s3 ds with
   | some xs,some ys=>(match oJ ks xs ys with | some r=>some (.v (.bool r),[.n t'],[.n t]) | none=>none)
   | _,_=>none)
  | _,_=>none)
 | .binOp .neq t x y _,.eq t' ks=>(match aW σ x,aW σ y with
  | .agg cs,.agg ds=>(match s3 cs,s3 ds with
   | some xs,some ys=>(match oJ ks xs ys with | some r=>some (.v (.bool !r),[.n t'],[.n t]) | none=>none)
   | _,_=>none)
  | _,_=>none)
 | .slice t x lo hi none,f=>qi σ c t (aW σ x) lo hi f
 | .typeAssert x _ T true,.ta T' p r=>(match cE T with
  | some d=>cond (!oP d&&(c5 T).isSome) (some (r,[.n T',.p p],[.n T,.p (aW σ x)])) none
  | none=>none)
 | _,_=>none
section
variable {o:Oper} {σ:PEnv} {ρ:List PRes} {x y:Operand} {t:Nat} {k:IntKind} {a b:Int} {css zss:List (List PV)}
theorem rP {E sz by' mm:Nat} {z:Value} {cs:List PV} (ho:o.op=.indexAddr t x y) (hu:cE t=some (.slice E)) (hi:c5 E=some (z,sz,by')) (hw:cs.length=sz) (hx:aW σ x=.slc mm css) (hy:aW σ y=.v (.int k a)) (hm:idx css a=some cs):POpQ true o σ ρ (.ref cs 0):=fun κ σ' ρ' g hs hrr=>by
 obtain ⟨h0,hcs⟩:=fZ hm
 have h:=hs.ev x
 rw [hx] at h
 generalize he:ev σ' x=w at h
 cases h with
 | slc hsl hb h1 hss =>
  rename_i ad cp sz' dss
  obtain ⟨ds,hd,hds⟩:=hss.get hcs
  have hlt:a.toNat<mm:=by rw [← hsl.len];exact (List.getElem?_eq_some_iff.1 hd).1
  obtain ⟨bb,off,ha,hsh⟩:=hsl.at_ (by omega)
  have hwid:sz'=sz:=by
   have e1:=hsl.wid ds (List.mem_of_getElem? hd)
   have e2:=hds.len
   omega
  subst hwid
  have h2:=ll (c:=true) (ρ:=ρ') (κ:=κ) (j:=a.toNat) ho hu hi (.p (by rw [he,ha])) (.p (hs.v1 hy)) (fun _=>by omega) (fun _=>hlt)
  exact ⟨_,fun _=>by have:=Rp.ref (k:=0) (hsh _ _ hd) (h1 ds (List.mem_of_getElem? hd)) hds;rwa [Nat.add_zero] at this,h2⟩
theorem oT {κ:Kr} {sz:Nat}:∀ {css:List (List PV)} {dss:List (List Value)},(∀ cs∈css,cs.length=sz)→Rpss κ css dss→∀ ds∈dss,ds.length=sz
 | _,_,_,.nil,ds,hd=>by cases hd
 | _,_,hw,.cons h hs,ds,hd=>by
  rcases List.mem_cons.1 hd with rfl | hd
  ·rw [← h.len];exact hw _ (by simp)
  exact oT (fun c hc=>hw c (by simp [hc])) hs ds hd
theorem qj {E sz by' mm:Nat} {z:Value} (ho:o.op=.slice t x none (some y) none) (hu:cE t=some (.slice E)) (hi:c5 E=some (z,sz,by')) (hx:aW σ x=.slc mm css) (hy:aW σ y=.v (.int k b)) (hm:sub css 0 b=some zss):POpQ true o σ ρ (.slc zss.length zss):=fun κ σ' ρ' g hs hrr=>by
 obtain ⟨⟨h0,h1,h2⟩,rfl⟩:=jF hm
 have h:=hs.ev x
 rw [hx] at h
 generalize he:ev σ' x=w at h
 cases h with
 | slc hsl hb ho1 hss =>
  rename_i ad cp sz' dss
  have hl:css.length=mm:=by rw [← hsl.len,← hss.len]
  have hcap:=hsl.cap
  have hzl:((css.take b.toNat).drop (0:Int).toNat).length=b.toNat:=by simp;omega
  rw [hzl]
  refine ⟨.slice ad b.toNat cp,fun _=>?_,lA (c:=true) (k:=b.toNat) ho hu hi (.p he) (.p (hs.v1 hy)) (fun _=>by omega) (fun _=>by omega)⟩
  have:=Rp.slc (hsl.take (m:=b.toNat) (by omega)) (by omega) (lF ho1 fun d hd=>List.mem_of_mem_take hd) (hss.take b.toNat)
  simpa using this
theorem qk {E sz by' mm:Nat} {z:Value} (ho:o.op=.slice t x (some y) none none) (hu:cE t=some (.slice E)) (hi:c5 E=some (z,sz,by')) (hw:∀ cs∈css,cs.length=sz) (hx:aW σ x=.slc mm css) (hy:aW σ y=.v (.int k a)) (hm:sub css a (mm:Int)=some zss):POpQ true o σ ρ (.slc zss.length zss):=fun κ σ' ρ' g hs hrr=>by
 obtain ⟨⟨h0,h1,h2⟩,rfl⟩:=jF hm
 have h:=hs.ev x
 rw [hx] at h
 generalize he:ev σ' x=w at h
 cases h with
 | slc hsl hb ho1 hss =>
  rename_i ad cp sz' dss
  have hl:css.length=mm:=by rw [← hsl.len,← hss.len]
  have hcap:=hsl.cap
  have hq:=pZ (c:=true) (ρ:=ρ') (κ:=κ) (k:=a.toNat) ho hu hi (.p he) (.p (hs.v1 hy)) (fun _=>by omega) (fun _=>by omega)
  have hd:=hsl.dropT (m:=a.toNat) (by omega)
  have e2:List.drop a.toNat (List.take (mm:Int).toNat css)=css.drop a.toNat:=by rw [Int.toNat_natCast,← hl,List.take_length]
  rw [e2]
  have hzl:(css.drop a.toNat).length=mm - a.toNat:=by simp [hl]
  rw [hzl]
  by_cases hz:mm - a.toNat=0
  ·refine ⟨_,fun _=>?_,hq⟩
   have e3:css.drop a.toNat=[]:=List.drop_of_length_le (by omega)
   rw [e3]
   exact .slc (sz:=sz) (css:=[]) ⟨by simp [hz],by omega,by simp,fun h=>absurd h (by omega)⟩ (by omega) (fun _ h=>by cases h) .nil
  have hszz:sz'=sz:=by
   have hlen:=hsl.len
   match dss,hlen with
   | [],hlen=>simp only [List.length_nil] at hlen;omega
   | d::ds,_=>rw [← hsl.wid d (by simp),oT hw hss d (by simp)]
  subst hszz
  exact ⟨_,fun _=>Rp.slc hd (by omega) (lF ho1 fun d hd=>List.mem_of_mem_drop hd) (hss.drop a.toNat),hq⟩
end
theorem rQ {o:Oper} {σ:PEnv} {ρ:List PRes} {c:Bool} {x:Operand} {t:Nat} {lo hi:Option Operand} {f:Fct} {p:PV} {L R:List Eqn} (ho:o.op=.slice t x lo hi none) (h:qi σ c t (aW σ x) lo hi f=some (p,L,R)) (he:L=R) (hf:f.ok) (hc:c=true):POpQ true o σ ρ p:=by
 unfold qi at h
 split at h
 ·rename_i c' css l hh zss m sz
  split at h
  ·rename_i E mm css' hu hx
   split at h
   ·rename_i z sz' by' hi'
    split at h
    ·rename_i y
     split at h
     ·rename_i k b hy
      simp only [co,Prod.mk.injEq] at h;obtain ⟨rfl,rfl,rfl⟩:=h
      simp only [List.cons.injEq,Eqn.b.injEq,Eqn.q.injEq,Eqn.i.injEq,Eqn.n.injEq,and_true] at he
      obtain ⟨rfl,rfl,rfl,rfl,rfl⟩:=he
      obtain ⟨h1,rfl,h3⟩:=hf
      exact qj ho hu hi' hx hy (h1 hc)
     cases h
    ·rename_i y
     split at h
     ·rename_i k b hy
      simp only [co,Prod.mk.injEq] at h;obtain ⟨rfl,rfl,rfl⟩:=h
      simp only [List.cons.injEq,Eqn.b.injEq,Eqn.q.injEq,Eqn.i.injEq,Eqn.n.injEq,and_true] at he
      obtain ⟨rfl,rfl,rfl,rfl,rfl⟩:=he
      obtain ⟨h1,rfl,h3⟩:=hf
      exact qk ho hu hi' h3 hx hy (h1 hc)
     cases h
    cases h
   cases h
  cases h
 ·rename_i c' s l hh z
  split at h
  ·rename_i s' hu hx
   split at h
   ·split at h
    ·rename_i hy
     simp only [co,Prod.mk.injEq] at h;obtain ⟨rfl,rfl,rfl⟩:=h
     simp only [List.cons.injEq,Eqn.b.injEq,Eqn.s.injEq,Eqn.i.injEq,and_true] at he
     obtain ⟨rfl,rfl,rfl,rfl⟩:=he
     exact p9 ho hu (.p hx) (.p hy) (fun _=>hf hc)
    cases h
   ·split at h
    ·rename_i hy
     simp only [co,Prod.mk.injEq] at h;obtain ⟨rfl,rfl,rfl⟩:=h
     simp only [List.cons.injEq,Eqn.b.injEq,Eqn.s.injEq,Eqn.i.injEq,and_true] at he
     obtain ⟨rfl,rfl,rfl,rfl⟩:=he
     exact qa ho hu (.p hx) (.p hy) (fun _=>hf hc)
    cases h
   ·split at h
    ·rename_i hy hy2
     simp only [co,Prod.mk.injEq] at h;obtain ⟨rfl,rfl,rfl⟩:=h
     simp only [List.cons.injEq,Eqn.b.injEq,Eqn.s.injEq,Eqn.i.injEq,and_true] at he
     obtain ⟨rfl,rfl,rfl,rfl⟩:=he
     exact oH ho hu (.p hx) (.p hy) (.p hy2) (fun _=>hf hc)
    cases h
   cases h
  cases h
 cases h
theorem ti {o:Oper} {σ:PEnv} {ρ:List PRes} {c:Bool} {f:Fct} {p:PV} {L R:List Eqn} (h:th σ c o.op f=some (p,L,R)) (he:L=R) (hf:f.ok) (hc:c=true):POpQ true o σ ρ p:=by
 generalize ho:o.op=op at h
 unfold th at h
 split at h
 ·split at h
  ·rename_i hu hx hy
   split at h
   ·rename_i hi
    simp only [co,Prod.mk.injEq] at h;obtain ⟨rfl,rfl,rfl⟩:=h
    simp only [List.cons.injEq,Eqn.b.injEq,Eqn.q.injEq,Eqn.i.injEq,Eqn.n.injEq,and_true] at he
    obtain ⟨rfl,rfl,rfl,h4⟩:=he
    exact rP ho hu hi h4 hx hy (hf hc)
   cases h
  cases h
 ·split at h
  ·rename_i hu hx hy
   simp only [co,Prod.mk.injEq] at h;obtain ⟨rfl,rfl,rfl⟩:=h
   simp only [List.cons.injEq,Eqn.b.injEq,Eqn.s.injEq,Eqn.i.injEq,and_true] at he
   obtain ⟨rfl,rfl,rfl⟩:=he
   exact rG ho hu (.p hx) (.p hy) (fun _=>hf hc)
  cases h
 ·split at h
  ·rename_i k a k' b' hx hy
   cases hk:Nat.beq (nY k) (nY k')
   ·rw [hk] at h;cases h
   rw [hk] at h;have:=kX hk;subst this
   simp only [eA,co,Prod.mk.injEq] at h;obtain ⟨rfl,rfl,rfl⟩:=h
   simp only [List.cons.injEq,Eqn.b.injEq,Eqn.i.injEq,and_true] at he
   obtain ⟨rfl,rfl⟩:=he
   exact sV ho (.p hx) (.p hy) (fun _=>hf hc)
  cases h
 ·split at h
  ·rename_i k a k' b' hx hy
   cases hk:Nat.beq (nY k) (nY k')
   ·rw [hk] at h;cases h
   rw [hk] at h;have:=kX hk;subst this
   simp only [eA,co,Prod.mk.injEq] at h;obtain ⟨rfl,rfl,rfl⟩:=h
   simp only [List.cons.injEq,Eqn.b.injEq,Eqn.i.injEq,and_true] at he
   obtain ⟨rfl,rfl⟩:=he
   exact sW ho (.p hx) (.p hy) (fun _=>hf hc)
  cases h
 ·split at h
  ·rename_i hx hy
   simp only [co,Prod.mk.injEq] at h;obtain ⟨rfl,rfl,rfl⟩:=h
   simp only [List.cons.injEq,Eqn.b.injEq,Eqn.i.injEq,and_true] at he
   obtain ⟨rfl,rfl⟩:=he
   exact lB ho (.p hx) (.p hy) (fun _=>hf hc) rfl
  cases h
 ·split at h
  ·rename_i hx hy
   simp only [co,Prod.mk.injEq] at h;obtain ⟨rfl,rfl,rfl⟩:=h
   simp only [List.cons.injEq,Eqn.b.injEq,Eqn.i.injEq,and_true] at he
   obtain ⟨rfl,rfl⟩:=he
   exact lB ho (.p hx) (.p hy) (fun _=>hf hc) rfl
  cases h
 ·split at h
  ·rename_i hx hy
   simp only [co,Prod.mk.injEq] at h;obtain ⟨rfl,rfl,rfl⟩:=h
   simp only [List.cons.injEq,Eqn.b.injEq,Eqn.s.injEq,and_true] at he
   obtain ⟨rfl,rfl,rfl⟩:=he
   exact pq_catT ho (.p hx) (.p hy) (fun _=>hf hc)
  cases h
 ·split at h
  ·rename_i hx hy
   split at h
   ·rename_i h5 h6
    split at h
    ·rename_i r hr
     simp only [co,Prod.mk.injEq] at h;obtain ⟨rfl,rfl,rfl⟩:=h
     simp only [List.cons.injEq,Eqn.n.injEq,and_true] at he
     subst he
     exact qS _ ho hf.h1 hf.h2 hf.h3 hf.h4 (.p hx) (.p hy) h5 h6 hr rfl
    cases h
   cases h
  cases h
 ·split at h
  ·rename_i hx hy
   split at h
   ·rename_i h5 h6
    split at h
    ·rename_i r hr
     simp only [co,Prod.mk.injEq] at h;obtain ⟨rfl,rfl,rfl⟩:=h
     simp only [List.cons.injEq,Eqn.n.injEq,and_true] at he
     subst he
     exact qS _ ho hf.h1 hf.h2 hf.h3 hf.h4 (.p hx) (.p hy) h5 h6 hr rfl
    cases h
   cases h
  cases h
 ·exact rQ ho h he hf hc
 ·split at h
  ·rename_i d hu
   cases hb:(!oP d&&(c5 _).isSome)
   ·rw [hb] at h;cases h
   rw [hb] at h
   simp only [eA,co,Prod.mk.injEq] at h;obtain ⟨rfl,rfl,rfl⟩:=h
   simp only [List.cons.injEq,Eqn.n.injEq,Eqn.p.injEq,and_true] at he
   obtain ⟨rfl,h2⟩:=he
   simp only [Bool.and_eq_true,Bool.not_eq_true'] at hb
   exact pq_ta ho hu hb.1 hb.2 h2.symm hf
  cases h
 cases h
def gL (l:List (Bool×Bool)):List Eqn:=l.map fun z=>.b z.1
def gR (l:List (Bool×Bool)):List Eqn:=l.map fun z=>.b z.2
theorem gLR:∀ {l:List (Bool×Bool)},gL l=gR l→AllEq l
 | [],_=>AllEq.nil
 | (a,b)::l,h=>by
  simp only [gL,gR,List.map_cons,List.cons.injEq,Eqn.b.injEq] at h
  have:=gLR (l:=l) h.2
  unfold AllEq at this ⊢
  simp only [List.map_cons,h.1,this]
theorem tj {l:List (Bool×Bool)}:(gL l).length=(gR l).length:=by simp [gL,gR]
def iv:Op→Bool
 | .call ⟨.value _,_,_⟩=>true
 | .call ⟨.invoke _ _,_,_⟩=>true
 | _=>false
abbrev StepO:=Option (PV×Bool×List Eqn×List Eqn)
def lL (σ:PEnv) (G:List (Nat×GE)) (ρ:List PRes) (gs:List Bool) (at_:Nat) (op:Op):StepO :=
 match qx (ic σ G (dm op.operands.toList) gs) ρ at_ op with
 | some (p,none)=>some (p,false,gL (fL G gs (dm op.operands.toList)),gR (fL G gs (dm op.operands.toList)))
 | some (p,some (b,b'))=>some (p,true,gL (fL G gs (dm op.operands.toList))++[.n b],gR (fL G gs (dm op.operands.toList))++[.n b'])
 | none=>none
def tk (σ:PEnv) (G:List (Nat×GE)) (gs:List Bool) (op:Op) (cal:Operand) (ags:List Operand):Fct→StepO
 | .cl c f pargs r=>(match cal with
  | .func f'=>some (r,false,gL (fL G gs (dm op.operands.toList))++[.b c,.n f,.l pargs],gR (fL G gs (dm op.operands.toList))++[.b (gs.headD true),.n f',.l (ags.map (aW (ic σ G (dm op.operands.toList) gs)))])
  | _=>none)
 | .cv c pf pargs r=>some (r,false,gL (fL G gs (dm op.operands.toList))++[.b c,.p pf,.l pargs],gR (fL G gs (dm op.operands.toList))++[.b (gs.headD true),.p (aW (ic σ G (dm op.operands.toList) gs) cal),.l (ags.map (aW (ic σ G (dm op.operands.toList) gs)))])
 | _=>none
def invx (σ:PEnv) (G:List (Nat×GE)) (gs:List Bool) (op:Op) (x:Operand) (name:String) (ags:List Operand):Fct→StepO
 | .ci c p name' pargs r=>some (r,false,gL (fL G gs (dm op.operands.toList))++[.b c,.p p,.m name',.l pargs],gR (fL G gs (dm op.operands.toList))++[.b (gs.headD true),.p (aW (ic σ G (dm op.operands.toList) gs) x),.m name,.l (ags.map (aW (ic σ G (dm op.operands.toList) gs)))])
 | _=>none
def tl (σ:PEnv) (G:List (Nat×GE)) (ρ:List PRes) (gs:List Bool) (at_:Nat) (fo:Option Fct) (op:Op):StepO :=
 match fo with
 | some f=>(match op with
  | .call ⟨.value cal,⟨ags⟩,ts⟩=>tk σ G gs (.call ⟨.value cal,⟨ags⟩,ts⟩) cal ags f
  | .call ⟨.invoke x name,⟨ags⟩,ts⟩=>invx σ G gs (.call ⟨.invoke x name,⟨ags⟩,ts⟩) x name ags f
  | op=>(match th (ic σ G (dm op.operands.toList) gs) (gs.headD true) op f with
   | some (p,L,R)=>some (p,false,gL (fL G gs (dm op.operands.toList))++L,gR (fL G gs (dm op.operands.toList))++R)
   | none=>none))
 | none=>(match op with
  | .pick cc a b=>(match tc σ G gs cc a b with | some (p,l)=>some (p,false,gL l,gR l) | none=>none)
  | op=>lL σ G ρ gs at_ op)
def POpG (c:Bool) (o:Oper) (σ:PEnv) (r:PV):Prop:=∀ κ σ' ρ' (KK:Value→Kr→Prop),GOK κ→Sim κ σ σ'→(∀ v κ',Kle κ κ'→(c=true→Rp κ' r v)→KK v κ')→OpG c o σ' ρ' κ KK
theorem oU {a b l m:List Eqn} (h:a++l=b++m) (hl:a.length=b.length):a=b∧l=m:=List.append_inj h hl
theorem popg_cl {o:Oper} {σ:PEnv} {G:List (Nat×GE)} {gs:List Bool} {ts:List Nat} {f:Nat} {ags:List Operand} {at_:Array Nat} {pargs:List PV} {r:PV} (ho:o.op=.call { callee:=.value (.func f),args:=ags.toArray,argTypes:=at_ }) (hi:GInv σ G) (ha:AllEq (fL G gs ts)) (hk:StackOk gs) (hp:pargs=ags.map (aW (ic σ G ts gs))) (hc:gs.headD true=true→PF f pargs r):POpG (gs.headD true) o σ r:=fun κ σ' ρ' KK g hs h =>
 oa ho (fun _=>rfl) (fun hct=>hc hct κ _ g (by rw [hp];exact eF (jH hs hi ha hk hct) ags)) h
theorem popg_cv {o:Oper} {σ:PEnv} {G:List (Nat×GE)} {gs:List Bool} {ts:List Nat} {x:Operand} {ags:List Operand} {at_:Array Nat} {pf:PV} {pargs:List PV} {r:PV} (ho:o.op=.call { callee:=.value x,args:=ags.toArray,argTypes:=at_ }) (hi:GInv σ G) (ha:AllEq (fL G gs ts)) (hk:StackOk gs) (hx:pf=aW (ic σ G ts gs) x) (hp:pargs=ags.map (aW (ic σ G ts gs))) (hc:gs.headD true=true→PFV pf pargs r):POpG (gs.headD true) o σ r:=fun κ σ' ρ' KK g hs h=>by
 refine ⟨fun hct=>?_,fun hcf=>h undef κ (.refl _) fun h=>by rw [hcf] at h;cases h⟩
 have hs':=jH hs hi ha hk hct
 obtain ⟨f,first,cap,h1,h2⟩:=hc hct κ _ _ g (by rw [hx];exact hs'.ev x) (by rw [hp];exact eF hs' ags)
 exact mB ho h1 rfl h2 fun v κ' hk hv=>⟨rfl,h v κ' hk fun _=>hv⟩
theorem popg_ci {o:Oper} {σ:PEnv} {G:List (Nat×GE)} {gs:List Bool} {ts:List Nat} {x:Operand} {name:String} {ags:List Operand} {at_:Array Nat} {p:PV} {pargs:List PV} {r:PV} (ho:o.op=.call { callee:=.invoke x name,args:=ags.toArray,argTypes:=at_ }) (hi:GInv σ G) (ha:AllEq (fL G gs ts)) (hk:StackOk gs) (hx:p=aW (ic σ G ts gs) x) (hp:pargs=ags.map (aW (ic σ G ts gs))) (hc:gs.headD true=true→PFI p name pargs r):POpG (gs.headD true) o σ r:=fun κ σ' ρ' KK g hs h=>by
 refine ⟨fun hct=>?_,fun hcf=>h undef κ (.refl _) fun h=>by rw [hcf] at h;cases h⟩
 have hs':=jH hs hi ha hk hct
 obtain ⟨t,q,f,e1,hm,hf⟩:=hc hct
 have hv:=hs'.ev x
 rw [← hx,e1] at hv
 generalize he:ev σ' x=w at hv
 cases hv with
 | ifc hv=>exact qf ho he hm (hf κ _ g (.cons hv (by rw [hp];exact eF hs' ags))) fun v κ' hk hv=>⟨rfl,h v κ' hk fun _=>hv⟩
theorem rR {o:Oper} {σ:PEnv} {G:List (Nat×GE)} {ρ:List PRes} {gs:List Bool} {k:Nat} {p:PV} {u:Bool} {L R:List Eqn} (hi:GInv σ G) (hk:StackOk gs) (h:lL σ G ρ gs k o.op=some (p,u,L,R)) (he:L=R):POpQ (gs.headD true) o σ ρ p:=by
 unfold lL at h
 split at h
 ·rename_i p' hq
  simp only [co,Prod.mk.injEq] at h;obtain ⟨rfl,_,rfl,rfl⟩:=h
  exact ke (fun _=>qx_ok hq (fun _ _ e=>by cases e)) hi (gLR he) hk
 ·rename_i p' b b' hq
  simp only [co,Prod.mk.injEq] at h;obtain ⟨rfl,_,rfl,rfl⟩:=h
  obtain ⟨h1,h2⟩:=oU he tj
  simp only [List.cons.injEq,Eqn.n.injEq,and_true] at h2
  exact ke (fun _=>qx_ok hq (fun _ _ e=>by simp only [co,Prod.mk.injEq] at e;rw [← e.1,← e.2];exact h2)) hi (gLR h1) hk
 cases h
theorem tm {o:Oper} {σ:PEnv} {G:List (Nat×GE)} {gs:List Bool} {cal:Operand} {ags:List Operand} {ts:Array Nat} {f:Fct} {p:PV} {u:Bool} {L R:List Eqn} (ho:o.op=.call ⟨.value cal,⟨ags⟩,ts⟩) (hi:GInv σ G) (hk:StackOk gs) (h:tk σ G gs (.call ⟨.value cal,⟨ags⟩,ts⟩) cal ags f=some (p,u,L,R)) (he:L=R) (hf:f.ok):POpG (gs.headD true) o σ p:=by
 unfold tk at h
 split at h
 ·split at h
  ·simp only [co,Prod.mk.injEq] at h;obtain ⟨rfl,_,rfl,rfl⟩:=h
   obtain ⟨h1,h2⟩:=oU he tj
   simp only [List.cons.injEq,Eqn.n.injEq,Eqn.b.injEq,Eqn.l.injEq,and_true] at h2
   obtain ⟨h3,h4,h5⟩:=h2
   subst h4
   exact popg_cl ho hi (gLR h1) hk h5 (fun hc=>hf (by rw [h3];exact hc))
  cases h
 ·simp only [co,Prod.mk.injEq] at h;obtain ⟨rfl,_,rfl,rfl⟩:=h
  obtain ⟨h1,h2⟩:=oU he tj
  simp only [List.cons.injEq,Eqn.p.injEq,Eqn.b.injEq,Eqn.l.injEq,and_true] at h2
  obtain ⟨h3,h4,h5⟩:=h2
  exact popg_cv ho hi (gLR h1) hk h4 h5 (fun hc=>hf (by rw [h3];exact hc))
 cases h
theorem invx_ok {o:Oper} {σ:PEnv} {G:List (Nat×GE)} {gs:List Bool} {x:Operand} {name:String} {ags:List Operand} {ts:Array Nat} {f:Fct} {p:PV} {u:Bool} {L R:List Eqn} (ho:o.op=.call ⟨.invoke x name,⟨ags⟩,ts⟩) (hi:GInv σ G) (hk:StackOk gs) (h:invx σ G gs (.call ⟨.invoke x name,⟨ags⟩,ts⟩) x name ags f=some (p,u,L,R)) (he:L=R) (hf:f.ok):POpG (gs.headD true) o σ p:=by
 unfold invx at h
 split at h
 ·simp only [co,Prod.mk.injEq] at h;obtain ⟨rfl,_,rfl,rfl⟩:=h
  obtain ⟨h1,h2⟩:=oU he tj
  simp only [List.cons.injEq,Eqn.p.injEq,Eqn.b.injEq,Eqn.l.injEq,Eqn.m.injEq,and_true] at h2
  obtain ⟨h3,h4,h5,h6⟩:=h2
  subst h5
  exact popg_ci ho hi (gLR h1) hk h4 h6 (fun hc=>hf (by rw [h3];exact hc))
 cases h
theorem tn {o:Oper} {σ:PEnv} {G:List (Nat×GE)} {ρ:List PRes} {gs:List Bool} {k:Nat} {fo:Option Fct} {p:PV} {u:Bool} {L R:List Eqn} (hi:GInv σ G) (hk:StackOk gs) (h:tl σ G ρ gs k fo o.op=some (p,u,L,R)) (he:L=R) (hf:∀ f,fo=some f→f.ok):(iv o.op=false∧POpQ (gs.headD true) o σ ρ p)∨(iv o.op=true∧POpG (gs.headD true) o σ p):=by
 unfold tl at h
 split at h
 ·rename_i f
  split at h
  ·rename_i cal ags ts ho
   exact .inr ⟨by rw [ho];rfl,tm ho hi hk h he (hf f rfl)⟩
  ·rename_i x name ags ts ho
   exact .inr ⟨by rw [ho];rfl,invx_ok ho hi hk h he (hf f rfl)⟩
  rename_i hnc hnc2
  split at h
  ·rename_i p' L' R' hq
   simp only [co,Prod.mk.injEq] at h;obtain ⟨rfl,_,rfl,rfl⟩:=h
   obtain ⟨h1,h2⟩:=oU he tj
   refine .inl ⟨?_,ke (fun hc=>ti hq h2 (hf f rfl) hc) hi (gLR h1) hk⟩
   unfold iv
   split
   ·rename_i cal ags ts ho;exact absurd ho (hnc cal ags.toList ts)
   ·rename_i x name ags ts ho;exact absurd ho (hnc2 x name ags.toList ts)
   rfl
  cases h
 split at h
 ·rename_i cc a b ho
  split at h
  ·rename_i p' l' hp
   simp only [co,Prod.mk.injEq] at h;obtain ⟨rfl,_,rfl,rfl⟩:=h
   exact .inl ⟨by rw [ho];rfl,td ho hi hk hp (gLR he)⟩
  cases h
 cases hc:iv o.op
 ·exact .inl ⟨rfl,rR hi hk h he⟩
 exfalso
 unfold iv at hc
 split at hc
 ·rename_i ho
  rw [ho] at h
  unfold lL at h
  simp only [qx] at h
  cases h
 ·rename_i ho
  rw [ho] at h
  unfold lL at h
  simp only [qx] at h
  cases h
 cases hc
def nK (σ:PEnv) (G:List (Nat×GE)) (d:Nat) (gs:List Bool) (p:PV):PEnv×List (Nat×GE):=match gs with
 | []=>(dr σ d p,s8 d G)
 | c::gs=>(dr σ d (pgv c p),(d,⟨c::gs,p⟩)::G)
theorem nL {d t:Nat} {e:GE}:∀ {G:List (Nat×GE)},gl t (s8 d G)=some e→t≠d∧gl t G=some e
 | [],h=>by cases h
 | (k,e')::l,h=>by
  simp only [s8] at h
  cases hd:Nat.beq d k
  ·rw [hd] at h;simp only [js,gl] at h ⊢
   cases ht:Nat.beq t k
   ·rw [ht] at h;exact nL h
   rw [ht] at h
   refine ⟨fun e=>?_,h⟩
   rw [Nat.eq_of_beq_eq_true ht] at e;rw [e] at hd;simp at hd
  rw [hd] at h;simp only [eA] at h
  obtain ⟨h1,h2⟩:=nL h
  refine ⟨h1,?_⟩
  simp only [gl]
  have:Nat.beq t k=false:=by cases e:Nat.beq t k;rfl;exact absurd ((Nat.eq_of_beq_eq_true e).trans (Nat.eq_of_beq_eq_true hd).symm) h1
  rw [this];exact h2
theorem nM {σ:PEnv} {d t:Nat} {p:PV} (h:t≠d):dr σ d p t=σ t:=by
 unfold dr
 have:Nat.beq t d=false:=by cases e:Nat.beq t d;rfl;exact absurd (Nat.eq_of_beq_eq_true e) h
 rw [this];rfl
theorem lM {σ:PEnv} {G:List (Nat×GE)} {d:Nat} {gs:List Bool} {p:PV} (hi:GInv σ G) (hk:StackOk gs):GInv (nK σ G d gs p).1 (nK σ G d gs p).2:=by
 unfold nK
 split
 ·intro t e h
  obtain ⟨h1,h2⟩:=nL h
  simp only [nM h1]
  exact hi t e h2
 rename_i c gs
 intro t e h
 simp only [gl] at h
 cases ht:Nat.beq t d
 ·rw [ht] at h
  have hne:t≠d:=fun e=>by rw [e] at ht;simp at ht
  simp only [nM hne]
  exact hi t e h
 rw [ht] at h
 simp only [eA,co] at h;subst h
 have:=Nat.eq_of_beq_eq_true ht;subst this
 refine ⟨?_,hk,by simp⟩
 simp only [dr,Nat.beq_refl,eA,List.headD_cons]
theorem lN {σ:PEnv} {G:List (Nat×GE)} {d:Nat} {gs:List Bool} {p:PV}:(nK σ G d gs p).1=dr σ d (pgv (gs.headD true) p):=by
 unfold nK;split
 ·rw [List.headD_nil,gE]
 rfl
structure RunR where
 σ:PEnv
 L:List Eqn
 R:List Eqn
def qY (i:Nat):List (Nat×Fct)→Option Fct
 | (k,f)::_=>cond (Nat.beq k i) (some f) none
 | []=>none
def jI (n:Nat) (ops:Array Oper) (ρ:List PRes):List Oper→Nat→List Nat→List (Nat×Fct)→PEnv→List (Nat×GE)→Option RunR
 | [],_,_,_,σ,_=>some ⟨σ,[],[]⟩
 | o::l,i,H,F,σ,G=>match o.dst with
  | some d=>cond (Nat.blt d n) (match nI ops σ G o.guard with
   | some gs=>match tl σ G ρ gs (H.headD 0) (qY i F) o.op with
    | some (p,u,L,R)=>match jI n ops ρ l (i+1) (cond u H.tail H) (match qY i F with | some _=>F.tail | none=>F) (nK σ G d gs p).1 (nK σ G d gs p).2 with
     | some r=>cond (Nat.beq L.length R.length) (some ⟨r.σ,L++r.L,R++r.R⟩) none
     | none=>none
    | none=>none
   | none=>none) none
  | none=>none
theorem tp {i:Nat} {F:List (Nat×Fct)} (h:FOk F):∀ f,qY i F=some f→f.ok:=fun f hf=>by
 cases F with
 | nil=>cases hf
 | cons a l =>
  obtain ⟨k,g⟩:=a
  simp only [qY] at hf
  cases hk:Nat.beq k i
  ·rw [hk] at hf;cases hf
  rw [hk] at hf;simp only [eA,co] at hf;subst hf;exact h.1
theorem tq {F:List (Nat×Fct)} (h:FOk F) (b:Option Fct):FOk (match b with | some _=>F.tail | none=>F):=by
 cases b with
 | none=>exact h
 | some f=>cases F with
  | nil=>exact h
  | cons a l=>exact h.2
theorem lO {n:Nat} {ops:Array Oper} {ρ:List PRes} {o:Oper} {l:List Oper} {i:Nat} {H:List Nat} {F:List (Nat×Fct)} {σ:PEnv} {G:List (Nat×GE)} {r:RunR} (h:jI n ops ρ (o::l) i H F σ G=some r) (he:r.L=r.R) (hF:FOk F) (hi:GInv σ G) :
    ∃ d gs p H' F' r',o.dst=some d∧Nat.blt d n=true∧PGuardIs ops σ o (gs.headD true)∧StackOk gs∧((iv o.op=false∧POpQ (gs.headD true) o σ ρ p)∨(iv o.op=true∧POpG (gs.headD true) o σ p))∧jI n ops ρ l (i+1) H' F' (nK σ G d gs p).1 (nK σ G d gs p).2=some r'∧r'.σ=r.σ∧r'.L=r'.R∧FOk F':=by
  simp only [jI] at h
  split at h
  · rename_i d hd
    cases hlt:Nat.blt d n
    · rw [hlt] at h;cases h
    rw [hlt] at h;simp only [eA] at h
    split at h
    · rename_i gs hgs
      split at h
      · rename_i p u L R hst
        split at h
        · rename_i r' hr
          cases hlen:Nat.beq L.length R.length
          · rw [hlen] at h;cases h
          rw [hlen] at h;simp only [eA,co] at h;subst h
          obtain ⟨h1,h2⟩:=List.append_inj he (Nat.eq_of_beq_eq_true hlen)
          obtain ⟨hg,hk⟩:=rN hi hgs
          exact ⟨d,gs,p,_,_,r',hd,hlt,hg,hk,tn hi hk hst h1 (tp hF),hr,rfl,h2,tq hF _⟩
        cases h
      cases h
    cases h
  cases h
theorem tr {n:Nat} {ops:Array Oper} {o:Oper} {rest:List Oper} {K:PPost} {σ:PEnv} {ρ:List PRes} {d:Nat} {c:Bool} {r:PV} (hg:PGuardIs ops σ o c) (hd:o.dst=some d) (hlt:Nat.blt d n=true) (h:POpG c o σ r) (hw:PWL n ops rest K (dr σ d (pgv c r)) ρ):PWL n ops (o::rest) K σ ρ:=fun β κ σ' ρ' g hs hr =>
 wl_g (hg κ σ' hs) hd hlt (h κ σ' ρ' _ g hs fun v κ' hk hv=>hw β κ' _ _ (g.mono hk) ((hs.mono hk).upd (ow hv)) (hr.mono hk))
theorem tu {n:Nat} {ops:Array Oper} {o:Oper} {lo:List (Nat×Oper)} {K:PPost} {σ:PEnv} {ρd ρs:List PRes} {d:Nat} {c:Bool} {r:PV} (hg:PGuardIs ops σ o c) (hd:o.dst=some d) (hlt:Nat.blt d n=true) (h:POpG c o σ r) (hw:PWD n ops K lo (dr σ d (pgv c r)) ρd ρs):PWD n ops K ((1,o)::lo) σ ρd ρs:=fun β κ σ' rd rs g hs h1 h2 =>
 wd_g (hg κ σ' hs) hd hlt fun κ1 hk=>h κ1 σ' _ _ (g.mono hk) (hs.mono hk) fun v κ' hk' hv=>hw β κ' _ rd rs ((g.mono hk).mono hk') (((hs.mono hk).mono hk').upd (ow hv)) ((h1.mono hk).mono hk') ((h2.mono hk).mono hk')
theorem nN {n:Nat} {ops:Array Oper} {rest:List Oper} {K:PPost} {ρ:List PRes}:∀ {l:List Oper} {i:Nat} {H:List Nat} {F:List (Nat×Fct)} {σ:PEnv} {G:List (Nat×GE)} {r:RunR},jI n ops ρ l i H F σ G=some r→r.L=r.R→FOk F→GInv σ G→PWL n ops rest K r.σ ρ→PWL n ops (l++rest) K σ ρ
 | [],i,H,F,σ,G,r,h,_,_,_,hw=>by simp only [jI,co] at h;subst h;exact hw
 | o::l,i,H,F,σ,G,r,h,he,hF,hi,hw=>by
  obtain ⟨d,gs,p,H',F',r',h1,h2,h3,h4,h5,h6,h7,h8,h9⟩:=lO h he hF hi
  have hrec:=nN (rest:=rest) (K:=K) h6 h8 h9 (lM hi h4) (by rw [h7];exact hw)
  rw [lN] at hrec
  rcases h5 with ⟨_,hq⟩ | ⟨_,hq⟩
  ·exact pwl_qg h3 h1 h2 hq hrec
  exact tr h3 h1 h2 hq hrec
def tv (ks D:List Nat):List Oper→Bool
 | []=>true
 | o::l=>(match o.dst with | some d=>s9 d ks||s9 d D | none=>true)&&tv ks D l
theorem mM {n:Nat} {ops:Array Oper} {ρ:List PRes} {ks D:List Nat}:∀ {l:List Oper} {i:Nat} {H:List Nat} {F:List (Nat×Fct)} {σ:PEnv} {G:List (Nat×GE)} {r:RunR},jI n ops ρ l i H F σ G=some r→r.L=r.R→FOk F→GInv σ G→tv ks D l=true→∀ t,t ∉ ks→t ∉ D→r.σ t=σ t
 | [],i,H,F,σ,G,r,h,_,_,_,_,t,_,_=>by simp only [jI,co] at h;subst h;rfl
 | o::l,i,H,F,σ,G,r,h,he,hF,hi,hd,t,g1,g2=>by
  obtain ⟨d,gs,p,H',F',r',h1,h2,h3,h4,h5,h6,h7,h8,h9⟩:=lO h he hF hi
  simp only [tv,Bool.and_eq_true] at hd
  rw [h1] at hd
  simp only [Bool.or_eq_true,kY] at hd
  have hne:t≠d:=fun e=>by subst e;rcases hd.1 with h | h;exact g1 h;exact g2 h
  rw [← h7,mM h6 h8 h9 (lM hi h4) hd.2 t g1 g2,lN]
  exact nM hne
abbrev RunO:=Option (List PV×List Eqn)
def iw (n:Nat) (ops:Array Oper) (ρ:List PRes) (l:List Oper) (H:List Nat) (F:List (Nat×Fct)) (σ:PEnv) (ks D:List Nat):RunO :=
 match jI n ops ρ l 0 H F σ [] with
 | some r=>cond (tv ks D l) (some (ks.map r.σ,r.L)) none
 | none=>none
def gw (n:Nat) (ops:Array Oper) (ρ:List PRes) (l:List Oper) (H:List Nat) (F:List (Nat×Fct)) (σ:PEnv) (vs:List PV):RunO :=
 match jI n ops ρ l 0 H F σ [] with
 | some r=>some (vs,r.R)
 | none=>some ([],[])
def pdel (σ:PEnv) (D:List Nat):PEnv:=fun t=>cond (s9 t D) .any (σ t)
def gH (σ:PEnv) (D:List Nat) (X:List (Nat×PV)):PEnv:=aT (pdel σ D) X
def oV (t:Nat):List (Nat×PV)→Option PV
 | []=>none
 | (d,v)::l=>cond (Nat.beq t d) (some v) (oV t l)
theorem lP {σ:PEnv} {t:Nat}:∀ {X:List (Nat×PV)},aT σ X t=(oV t X).getD (σ t)
 | []=>rfl
 | (d,v)::l=>by
  simp only [aT,dr,oV]
  cases Nat.beq t d
  ·exact lP (X:=l)
  rfl
theorem mN {t:Nat} {v:PV} {σ:PEnv}:∀ {X:List (Nat×PV)},oV t X=some v→(X.map (·.1)).map σ=X.map (·.2)→σ t=v
 | (d,w)::l,h,e=>by
  simp only [List.map_cons,List.cons.injEq] at e
  simp only [oV] at h
  cases hb:Nat.beq t d
  ·rw [hb] at h;exact mN h e.2
  rw [hb] at h;simp only [eA,co] at h
  rw [Nat.eq_of_beq_eq_true hb,e.1,h]
theorem mO {t:Nat}:∀ {X:List (Nat×PV)},oV t X=none→t ∉ X.map (·.1)
 | [],_=>by simp
 | (d,v)::l,h=>by
  simp only [oV] at h
  cases hb:Nat.beq t d
  ·rw [hb] at h
   have:t≠d:=fun e=>by rw [e] at hb;simp at hb
   simp only [List.map_cons,List.mem_cons,not_or]
   exact ⟨this,mO h⟩
  rw [hb] at h;cases h
def PWeak (σ σ1:PEnv):Prop:=∀ t,σ1 t=σ t∨σ1 t=.any
theorem Sim.weak {κ:Kr} {σ σ1:PEnv} {σ':Env} (h:Sim κ σ σ') (hw:PWeak σ σ1):Sim κ σ1 σ':=fun t=>by
 rcases hw t with e | e
 ·rw [e];exact h t
 rw [e];exact .any
theorem qZ {σ:PEnv}:GInv σ []:=fun t e h=>by cases h
theorem nO {n:Nat} {ops:Array Oper} {ρ:List PRes} {l:List Oper} {H D:List Nat} {F:List (Nat×Fct)} {σ:PEnv} {X:List (Nat×PV)} (hF:FOk F) (h:iw n ops ρ l H F σ (X.map (·.1)) D=gw n ops ρ l H F σ (X.map (·.2))):∃ r,jI n ops ρ l 0 H F σ []=some r∧r.L=r.R∧PWeak r.σ (gH σ D X):=by
 unfold iw gw at h
 cases hr:jI n ops ρ l 0 H F σ [] with
 | none=>rw [hr] at h;cases h
 | some r =>
  rw [hr] at h
  simp only at h
  cases hd:tv (X.map (·.1)) D l
  ·rw [hd] at h;cases h
  rw [hd] at h
  simp only [eA,co,Prod.mk.injEq] at h
  obtain ⟨h1,h2⟩:=h
  refine ⟨r,rfl,h2,fun t=>?_⟩
  unfold gH
  rw [lP]
  cases hl:oV t X with
  | some v=>exact .inl (by rw [Option.getD_some,mN hl h1])
  | none =>
   rw [Option.getD_none]
   unfold pdel
   cases hi:s9 t D
   ·have h3':t ∉ D:=fun hm=>by rw [kY.2 hm] at hi;cases hi
    exact .inl (by rw [js,mM hr h2 hF qZ hd t (mO hl) h3'])
   exact .inr rfl
section
variable {n:Nat} {ops:Array Oper} {l:List Oper} {K:PPost} {KC:Exit→PPost} {σ:PEnv} {ρ:List PRes} {id:Nat} {F:List (Nat×Fct)}
theorem oW {σ1:PEnv} (hw:PWeak σ σ1) (h:PWL n ops l K σ1 ρ):PWL n ops l K σ ρ:=fun β κ σ' ρ' g hs hr=>h β κ σ' ρ' g (hs.weak hw) hr
theorem br (k:Nat) (H D:List Nat) (X:List (Nat×PV)) (hF:FOk F) (h:iw n ops ρ (l.take k) H F σ (X.map (·.1)) D=gw n ops ρ (l.take k) H F σ (X.map (·.2))) (hw:PWL n ops (l.drop k) K (gH σ D X) ρ):PWL n ops l K σ ρ:=by
 obtain ⟨r,h1,h2,h3⟩:=nO hF h
 have:=nN h1 h2 hF qZ (oW h3 hw)
 rwa [List.take_append_drop] at this
theorem fM (H D:List Nat) (X:List (Nat×PV)) (hF:FOk F) (h:iw n ops ρ l H F σ (X.map (·.1)) D=gw n ops ρ l H F σ (X.map (·.2))) (hw:K (gH σ D X) ρ):PWL n ops l K σ ρ:=by
 obtain ⟨r,h1,h2,h3⟩:=nO hF h
 have:=nN (rest:=[]) h1 h2 hF qZ (oW h3 (aH (ops:=ops) hw))
 rwa [List.append_nil] at this
theorem aG (H D:List Nat) (X:List (Nat×PV)) (hF:FOk F) (h:iw n l.toArray ρ l H F σ (X.map (·.1)) D=gw n l.toArray ρ l H F σ (X.map (·.2))) (hw:KC .normal (gH σ D X) ρ):PWC n (.region id l.toArray false) KC σ ρ:=aj (fM H D X hF h hw)
end
def oX:List (Nat×Oper)→Bool
 | []=>true
 | (k,o)::l=>cond (iv o.op) (Nat.beq k 1) (Nat.beq k 0)&&oX l
theorem oY {n:Nat} {ops:Array Oper} {rest:List (Nat×Oper)} {K:PPost} {ρd ρ:List PRes}:∀ {l:List (Nat×Oper)} {i:Nat} {H:List Nat} {F:List (Nat×Fct)} {σ:PEnv} {G:List (Nat×GE)} {r:RunR},oX l=true→jI n ops ρ (l.map (·.2)) i H F σ G=some r→r.L=r.R→FOk F→GInv σ G→PWD n ops K rest r.σ ρd ρ→PWD n ops K (l++rest) σ ρd ρ
 | [],i,H,F,σ,G,r,_,h,_,_,_,hw=>by simp only [List.map_nil,jI,co] at h;subst h;exact hw
 | (k,o)::l,i,H,F,σ,G,r,ht,h,he,hF,hi,hw=>by
  simp only [oX,Bool.and_eq_true] at ht
  obtain ⟨d,gs,p,H',F',r',h1,h2,h3,h4,h5,h6,h7,h8,h9⟩:=lO h he hF hi
  have hrec:=oY (rest:=rest) (K:=K) (ρd:=ρd) ht.2 h6 h8 h9 (lM hi h4) (by rw [h7];exact hw)
  rw [lN] at hrec
  rcases h5 with ⟨hc,hq⟩ | ⟨hc,hq⟩
  ·rw [hc] at ht;have:=Nat.eq_of_beq_eq_true ht.1;subst this
   exact bG h3 h1 h2 hq hrec
  rw [hc] at ht;have:=Nat.eq_of_beq_eq_true ht.1;subst this
  exact tu h3 h1 h2 hq hrec
section
variable {n:Nat} {ops:Array Oper} {l:List (Nat×Oper)} {K:PPost} {σ:PEnv} {ρd ρs:List PRes} {F:List (Nat×Fct)}
theorem tw {σ1:PEnv} (hw:PWeak σ σ1) (h:PWD n ops K l σ1 ρd ρs):PWD n ops K l σ ρd ρs:=fun β κ σ' rd rs g hs h1 h2=>h β κ σ' rd rs g (hs.weak hw) h1 h2
def oZ (n:Nat) (ops:Array Oper) (ρ:List PRes) (l:List (Nat×Oper)) (H:List Nat) (F:List (Nat×Fct)) (σ:PEnv) (ks D:List Nat):RunO:=cond (oX l) (iw n ops ρ (l.map (·.2)) H F σ ks D) none
theorem cL (k:Nat) (H D:List Nat) (X:List (Nat×PV)) (hF:FOk F) (h:oZ n ops ρs (l.take k) H F σ (X.map (·.1)) D=gw n ops ρs ((l.take k).map (·.2)) H F σ (X.map (·.2))) (hw:PWD n ops K (l.drop k) (gH σ D X) ρd ρs):PWD n ops K l σ ρd ρs:=by
 unfold oZ at h
 cases ht:oX (l.take k)
 ·rw [ht] at h;unfold gw at h;split at h <;> cases h
 rw [ht] at h
 obtain ⟨r,h1,h2,h3⟩:=nO hF h
 have:=oY ht h1 h2 hF qZ (tw h3 hw)
 rwa [List.take_append_drop] at this
end
def Found (v:Value) (es:List MapEntry) (r:Option (Nat×Value)):Prop:=(r=none∧∀ e∈es,e.key≠v)∨∃ i e,r=some (i,e.val)∧es[i]?=some e∧e.key=v
structure KeyLaw (kt:Nat) (P:Value→Prop):Prop where
 chk:∀ v,P v→∀ e w,(Instr.checkKey e 10000 kt v).run Tryz.prog w=.ok () w
 find:∀ v es,P v→(∀ e∈es,P e.key)→∀ w,∃ r,(Instr.findKey kt v es).run Tryz.prog w=.ok r w∧Found v es r
 same:∀ v,P v→Instr.sameBits 10000 v v=true
def PairKey (v:Value):Prop:=∃ a b,v=.agg #[.int .i64 a,.int .i64 b]
theorem mq {kt:Nat} {P:Value→Prop} (he:∀ v u,P v→P u→∀ w,∃ b,(Op.equal kt v u).run Tryz.prog w=.ok b w∧(b=true↔v=u)) {v:Value} (hv:P v):∀ (es:List MapEntry) (i:Nat),(∀ e∈es,P e.key)→∀ w,∃ r,(Instr.findAsking kt v es i).run Tryz.prog w=.ok r w∧((r=none∧∀ e∈es,e.key≠v)∨∃ j e,r=some (i+j,e.val)∧es[j]?=some e∧e.key=v):=by
 intro es
 induction es with
 | nil=>intro i _ w;exact ⟨none,by simp [Instr.findAsking],.inl ⟨rfl,fun e h=>by cases h⟩⟩
 | cons e es ih =>
  intro i h w
  obtain ⟨b,h1,h2⟩:=he v e.key hv (h e (by simp)) w
  unfold Instr.findAsking
  simp only [Sem.run_bind,h1,Result.andThen_ok]
  cases b with
  | true =>
   refine ⟨some (i,e.val),by simp,.inr ⟨0,e,by simp,rfl,(h2.1 rfl).symm⟩⟩
  | false =>
   obtain ⟨r,g1,g2⟩:=ih (i+1) (fun x hx=>h x (by simp [hx])) w
   refine ⟨r,by simpa using g1,?_⟩
   rcases g2 with ⟨g2,g3⟩ | ⟨j,x,g2,g3,g4⟩
   ·left
    refine ⟨g2,fun x hx=>?_⟩
    rcases List.mem_cons.1 hx with rfl | hx
    ·intro hh;have:=h2.2 hh.symm;cases this
    exact g3 x hx
   right;exact ⟨j+1,x,by rw [g2];congr 2;omega,g3,g4⟩
theorem tx {kt:Nat} (f1 f2:Field) (hu:cE kt=some (.struct #[f1,f2])) (h1:Tryz.prog.underlying kt=some (.struct (Tryz.prog.fieldsOf kt))) (h2:Tryz.prog.stoodInHeld kt=false) (n1:f1.name ≠ "_") (n2:f2.name ≠ "_") (o1:f1.offset=0) (o2:f2.offset=1) (t1:cE f1.type=some (.int .i64)) (t2:cE f2.type=some (.int .i64)):KeyLaw kt PairKey:=by
 have hf:Tryz.prog.fieldsOf kt=#[f1,f2]:=by
  have:=(bd hu).symm.trans h1
  injection this with this;injection this with this;exact this.symm
 have pt:∀ (cs:Array Value) (f:Field) (v:Value) (w:World),cE f.type=some (.int .i64)→cs[f.offset]?=some v→(part f.type cs f.offset).run Tryz.prog w=.ok v w:=fun cs f v w ht hv=>by
  simp [part,eP ht,fu,hv]
 have ck:∀ e n t a w,cE t=some (.int .i64)→(Instr.checkKey e (n+1) t (.int .i64 a)).run Tryz.prog w=.ok () w:=fun e n t a w ht=>by simp [Instr.checkKey,run_underlying (bd ht)]
 have eq:∀ v u,PairKey v→PairKey u→∀ w,∃ b,(Op.equal kt v u).run Tryz.prog w=.ok b w∧(b=true↔v=u):=by
  rintro v u ⟨a,b,rfl⟩ ⟨c,d,rfl⟩ w
  refine ⟨(a == c)&&(b == d),?_,?_⟩
  ·show (Op.equalIn (9999+1) kt _ _).run Tryz.prog w=_
   rw [run_equalIn_struct w 9999 kt _ _ h1 h2,hf]
   have e1:=pt #[.int .i64 a,.int .i64 b] f1 (.int .i64 a) w t1 (by rw [o1];rfl)
   have e2:=pt #[.int .i64 c,.int .i64 d] f1 (.int .i64 c) w t1 (by rw [o1];rfl)
   have e3:=pt #[.int .i64 a,.int .i64 b] f2 (.int .i64 b) w t2 (by rw [o2];rfl)
   have e4:=pt #[.int .i64 c,.int .i64 d] f2 (.int .i64 d) w t2 (by rw [o2];rfl)
   have q1:(Op.equalIn 9999 f1.type (.int .i64 a) (.int .i64 c)).run Tryz.prog w=.ok (a == c) w:=run_equalIn_int w 9998 f1.type .i64 .i64 a c (bd t1)
   have q2:(Op.equalIn 9999 f2.type (.int .i64 b) (.int .i64 d)).run Tryz.prog w=.ok (b == d) w:=run_equalIn_int w 9998 f2.type .i64 .i64 b d (bd t2)
   show (Op.eqFields 9999 _ _ [f1,f2]).run Tryz.prog w=_
   simp only [Op.eqFields,if_pos n1,if_pos n2,Sem.run_bind,e1,e2,Result.andThen_ok,q1]
   cases (a == c)
   ·simp
   simp only [Bool.not_true,Bool.false_eq_true,if_false,Sem.run_bind,e3,e4,Result.andThen_ok,q2,if_true]
   cases (b == d) <;> simp
  simp only [Bool.and_eq_true,beq_iff_eq]
  constructor
  ·rintro ⟨rfl,rfl⟩;rfl
  intro h;injection h with h;simp at h;exact h
 refine ⟨?_,?_,?_⟩
 ·rintro v ⟨a,b,rfl⟩ e w
  have e1:=pt #[.int .i64 a,.int .i64 b] f1 (.int .i64 a) w t1 (by rw [o1];rfl)
  have e3:=pt #[.int .i64 a,.int .i64 b] f2 (.int .i64 b) w t2 (by rw [o2];rfl)
  have:∀ n,(Instr.checkKey e (n+1+1) kt (.agg #[.int .i64 a,.int .i64 b])).run Tryz.prog w=.ok () w:=fun n=>by
   rw [Instr.checkKey]
   simp only [Sem.run_bind,run_underlying (bd hu),Result.andThen_ok]
   rw [← Array.forIn_toList]
   simp [List.forIn_cons,n1,n2,e1,e3,ck e n f1.type a w t1,ck e n f2.type b w t2]
  exact this 9998
 ·intro v es hv hes w
  cases es with
  | nil =>
   refine ⟨none,?_,.inl ⟨rfl,fun e h=>by cases h⟩⟩
   simp [Instr.findKey,Instr.findNow,run_underlying (bd hu)]
  | cons e es =>
   obtain ⟨r,g1,g2⟩:=mq eq hv (e::es) 0 hes w
   refine ⟨r,?_,?_⟩
   ·have:Instr.findNow (.struct #[f1,f2]) v (e::es) 0=none:=by
     obtain ⟨a,b,rfl⟩:=hv
     simp [Instr.findNow,Instr.sameNow]
    simp [Instr.findKey,run_underlying (bd hu),this,g1]
   ·rcases g2 with g2 | ⟨j,x,g2,g3⟩
    ·exact .inl g2
    exact .inr ⟨j,x,by rw [g2,Nat.zero_add],g3⟩
 rintro v ⟨a,b,rfl⟩
 have:∀ n,Instr.sameBits (n+1+1) (.agg #[.int .i64 a,.int .i64 b]) (.agg #[.int .i64 a,.int .i64 b])=true:=fun n=>by simp [Instr.sameBits]
 exact this 9998
section
variable {K V:Type} [DecidableEq K]
def bP:List (K×V)→K→Option V
 | [],_=>none
 | (a,v)::r,k=>if a=k then some v else bP r k
def jJ:List (K×V)→K→V→List (K×V)
 | [],k,v=>[(k,v)]
 | (a,w)::r,k,v=>if a=k then (k,v)::r else (a,w)::jJ r k v
def iQ:List (K×V)→K→Nat
 | [],_=>0
 | (a,_)::r,k=>if a=k then 0 else iQ r k+1
def gi (xs:List (K×V)) (k:K) (z:V):List (K×V):=if (bP xs k).isSome then xs else xs++[(k,z)]
def MND (xs:List (K×V)):Prop:=xs.Pairwise fun a b=>a.1≠b.1
theorem kg {xs:List (K×V)} {k:K} (h:∀ p∈xs,p.1≠k):bP xs k=none:=by
 induction xs with
 | nil=>rfl
 | cons p r ih =>
  obtain ⟨a,v⟩:=p
  unfold bP
  rw [if_neg (h (a,v) (by simp)),ih (fun p hp=>h p (by simp [hp]))]
theorem mP {xs:List (K×V)} {k:K} (h:∀ p∈xs,p.1≠k):iQ xs k=xs.length:=by
 induction xs with
 | nil=>rfl
 | cons p r ih =>
  obtain ⟨a,v⟩:=p
  unfold iQ
  rw [if_neg (h (a,v) (by simp)),ih (fun p hp=>h p (by simp [hp]))];rfl
theorem rS {xs:List (K×V)} {k:K} (h:∀ p∈xs,p.1≠k) (v:V):jJ xs k v=xs++[(k,v)]:=by
 induction xs with
 | nil=>rfl
 | cons p r ih =>
  obtain ⟨a,w⟩:=p
  unfold jJ
  rw [if_neg (h (a,w) (by simp)),ih (fun p hp=>h p (by simp [hp]))];rfl
theorem nP {xs:List (K×V)} (nd:MND xs) {k:K} {v:V}:∀ {i:Nat},xs[i]?=some (k,v)→bP xs k=some v∧iQ xs k=i∧∀ u,jJ xs k u=xs.set i (k,u):=by
 induction xs with
 | nil=>intro i h;simp at h
 | cons p r ih =>
  obtain ⟨a,w⟩:=p
  intro i h
  unfold MND at nd
  rw [List.pairwise_cons] at nd
  cases i with
  | zero =>
   simp only [List.getElem?_cons_zero,co,Prod.mk.injEq] at h
   obtain ⟨rfl,rfl⟩:=h
   unfold bP iQ jJ
   simp
  | succ i =>
   simp only [List.getElem?_cons_succ] at h
   have hne:a≠k:=nd.1 (k,v) (List.mem_of_getElem? h)
   obtain ⟨h1,h2,h3⟩:=ih nd.2 h
   unfold bP iQ jJ
   rw [if_neg hne,if_neg hne]
   refine ⟨h1,by rw [h2],fun u=>?_⟩
   rw [if_neg hne,h3];rfl
theorem ql (xs:List (K×V)) (k:K):(∀ p∈xs,p.1≠k)∨∃ (i:Nat) (v:V),xs[i]?=some (k,v):=by
 induction xs with
 | nil=>left;intro p h;cases h
 | cons p r ih =>
  obtain ⟨a,w⟩:=p
  by_cases h:a=k
  ·right;exact ⟨0,w,by simp [h]⟩
  rcases ih with ih | ⟨i,v,ih⟩
  ·left
   intro p hp
   rcases List.mem_cons.1 hp with rfl | hp
   ·exact h
   exact ih p hp
  right;exact ⟨i+1,v,by simpa using ih⟩
theorem tz {xs:List (K×V)} (nd:MND xs) (k:K) (z:V):MND (gi xs k z)∧(gi xs k z)[iQ xs k]?=some (k,(bP xs k).getD z)∧∀ u,(gi xs k z).set (iQ xs k) (k,u)=jJ xs k u:=by
 unfold gi
 rcases ql xs k with h | ⟨i,v,h⟩
 ·rw [kg h,mP h]
  simp only [Option.isSome_none,Bool.false_eq_true,if_false,Option.getD_none]
  refine ⟨?_,by simp,fun u=>?_⟩
  ·unfold MND
   rw [List.pairwise_append]
   exact ⟨nd,by simp,fun a ha b hb=>by simp at hb;subst hb;exact h a ha⟩
  rw [rS h,List.set_append];simp
 obtain ⟨h1,h2,h3⟩:=nP nd h
 rw [h1,h2]
 simp only [Option.isSome_some,if_true,Option.getD_some]
 exact ⟨nd,h,fun u=>(h3 u).symm⟩
def dw (ek:K→Value) (ev:V→PV) (xs:List (K×V)):List (Value×PV):=xs.map fun p=>(ek p.1,ev p.2)
structure KEnc (kt:Nat) (ek:K→Value):Prop where
 law:∃ P,KeyLaw kt P∧∀ a,P (ek a)
 inj:∀ a b,ek a=ek b→a=b
end
section
variable {κ:Kr}
theorem KVs.get:∀ {kvs:List (Value×PV)} {es:List MapEntry} {i:Nat} {e:MapEntry},KVs κ kvs es→es[i]?=some e→∃ p,kvs[i]?=some (e.key,p)∧Rp κ p e.val
 | _,_,0,_,.cons h _,g=>by simp only [List.getElem?_cons_zero,co] at g;subst g;exact ⟨_,rfl,h⟩
 | _,_,i+1,_,.cons _ hs,g=>by simp only [List.getElem?_cons_succ] at g ⊢;exact hs.get g
theorem KVs.get':∀ {kvs:List (Value×PV)} {es:List MapEntry} {i:Nat} {k:Value} {p:PV},KVs κ kvs es→kvs[i]?=some (k,p)→∃ e,es[i]?=some e∧e.key=k∧Rp κ p e.val
 | _,_,0,_,_,.cons h _,g=>by simp only [List.getElem?_cons_zero,co,Prod.mk.injEq] at g;obtain ⟨rfl,rfl⟩:=g;exact ⟨_,rfl,rfl,h⟩
 | _,_,i+1,_,_,.cons _ hs,g=>by simp only [List.getElem?_cons_succ] at g ⊢;exact hs.get' g
theorem KVs.keys:∀ {kvs:List (Value×PV)} {es:List MapEntry},KVs κ kvs es→kvs.map (·.1)=es.map (·.key)
 | _,_,.nil=>rfl
 | _,_,.cons _ hs=>by simp [hs.keys]
theorem KVs.app:∀ {ps qs:List (Value×PV)} {es fs:List MapEntry},KVs κ ps es→KVs κ qs fs→KVs κ (ps++qs) (es++fs)
 | _,_,_,_,.nil,h=>h
 | _,_,_,_,.cons h hs,g=>.cons h (hs.app g)
theorem KVs.set:∀ {kvs:List (Value×PV)} {es:List MapEntry} {i:Nat} {e e':MapEntry} {p:PV},KVs κ kvs es→es[i]?=some e→e'.key=e.key→Rp κ p e'.val→KVs κ (kvs.set i (e.key,p)) (es.set i e')
 | _,_,0,_,_,_,.cons h hs,g,hk,hp=>by simp only [List.getElem?_cons_zero,co] at g;subst g;rw [← hk];exact .cons hp hs
 | _,_,i+1,_,_,_,.cons h hs,g,hk,hp=>by simp only [List.getElem?_cons_succ] at g;exact .cons h (hs.set g hk hp)
theorem qm {α:Type} {R:α→α→Prop}:∀ {l:List α} {i:Nat} {a a':α},l.Pairwise R→l[i]?=some a→(∀ x,R x a→R x a')→(∀ x,R a x→R a' x)→(l.set i a').Pairwise R
 | _::l,0,a,a',h,g,h1,h2=>by
  simp only [List.getElem?_cons_zero,co] at g;subst g
  rw [List.pairwise_cons] at h
  exact List.pairwise_cons.2 ⟨fun x hx=>h2 x (h.1 x hx),h.2⟩
 | b::l,i+1,a,a',h,g,h1,h2=>by
  simp only [List.getElem?_cons_succ] at g
  rw [List.pairwise_cons] at h
  refine List.pairwise_cons.2 ⟨fun x hx=>?_,qm h.2 g h1 h2⟩
  rcases List.mem_or_eq_of_mem_set hx with hx | rfl
  ·exact h.1 x hx
  exact h1 b (h.1 a (List.mem_of_getElem? g))
theorem MapWf.set {es:List MapEntry} {clock i:Nat} {e e':MapEntry} (h:MapWf es clock) (g:es[i]?=some e) (hk:e'.key=e.key) (hb:e'.born=e.born):MapWf (es.set i e') clock where
 nd:=qm h.nd g (fun x hx=>by rw [hk];exact hx) (fun x hx=>by rw [hk];exact hx)
 bn:=qm h.bn g (fun x hx=>by rw [hb];exact hx) (fun x hx=>by rw [hb];exact hx)
 lt:=fun x hx=>by
  rcases List.mem_or_eq_of_mem_set hx with hx | rfl
  ·exact h.lt x hx
  rw [hb];exact h.lt e (List.mem_of_getElem? g)
theorem MapWf.push {es:List MapEntry} {clock:Nat} (h:MapWf es clock) {k v:Value} (hk:∀ e∈es,e.key≠k):MapWf (es++[⟨k,v,clock⟩]) (clock+1) where
 nd:=List.pairwise_append.2 ⟨h.nd,by simp,fun a ha b hb=>by simp at hb;subst hb;exact hk a ha⟩
 bn:=List.pairwise_append.2 ⟨h.bn,by simp,fun a ha b hb=>by simp at hb;subst hb;have:=h.lt a ha;show a.born≠clock;omega⟩
 lt:=fun x hx=>by
  rcases List.mem_append.1 hx with hx | hx
  ·have:=h.lt x hx;omega
  simp at hx;subst hx;show clock<clock+1;omega
end
section
variable {K V:Type} {ek:K→Value} {ev:V→PV} {xs:List (K×V)} {κ:Kr} {es:List MapEntry} {clock kt:Nat}
theorem lQ {i:Nat} {k':Value} {p:PV} (h:(dw ek ev xs)[i]?=some (k',p)):∃ k v,xs[i]?=some (k,v)∧k'=ek k∧p=ev v:=by
 unfold dw at h
 rw [List.getElem?_map] at h
 cases e:xs[i]? with
 | none=>rw [e] at h;cases h
 | some q=>rw [e] at h;simp only [Option.map_some,co,Prod.mk.injEq] at h;exact ⟨q.1,q.2,rfl,h.1.symm,h.2.symm⟩
theorem nQ (h:KVs κ (dw ek ev xs) es) (hw:MapWf es clock):MND xs:=by
 have h1:(es.map (·.key)).Pairwise (· ≠ ·):=List.pairwise_map.2 hw.nd
 rw [← h.keys,dw,List.map_map,List.pairwise_map] at h1
 exact h1.imp fun hab e=>hab (by simp [e])
theorem qn {P:Value→Prop} (hP:∀ a,P (ek a)) (h:KVs κ (dw ek ev xs) es):∀ e∈es,P e.key:=by
 intro e he
 obtain ⟨i,hi,rfl⟩:=List.getElem_of_mem he
 obtain ⟨p,h1,_⟩:=h.get (List.getElem?_eq_getElem hi)
 obtain ⟨k,v,_,h2,_⟩:=lQ h1
 rw [h2];exact hP k
theorem kh (hinj:∀ a b,ek a=ek b→a=b) (h:KVs κ (dw ek ev xs) es) (hw:MapWf es clock) {k:K} {r:Option (Nat×Value)} (hf:Found (ek k) es r):(r=none∧(∀ p∈xs,p.1≠k)∧∀ e∈es,e.key≠ek k)∨∃ i e v,r=some (i,e.val)∧es[i]?=some e∧e.key=ek k∧xs[i]?=some (k,v)∧Rp κ (ev v) e.val:=by
 rcases hf with ⟨h1,h2⟩ | ⟨i,e,h1,h2,h3⟩
 ·left
  refine ⟨h1,fun p hp hpk=>?_,h2⟩
  obtain ⟨i,hi,rfl⟩:=List.getElem_of_mem hp
  have:(dw ek ev xs)[i]?=some (ek k,ev xs[i].2):=by unfold dw;rw [List.getElem?_map,List.getElem?_eq_getElem hi];simp [hpk]
  obtain ⟨e,g1,g2,_⟩:=h.get' this
  exact h2 e (List.mem_of_getElem? g1) g2
 right
 obtain ⟨p,g1,g2⟩:=h.get h2
 obtain ⟨k',v,g3,g4,g5⟩:=lQ g1
 have:k'=k:=hinj _ _ (g4.symm.trans h3)
 subst this
 exact ⟨i,e,v,h1,h2,h3,g3,by rw [← g5];exact g2⟩
end
section
variable {κ:Kr} {σ:Env} {ρ:List Res} {o:Oper} {K:Value→List Res→Kr→Prop}
theorem qo {t:Nat} (ho:o.op=.makeMap t none) (h:∀ b κ',Kle κ κ'→K (.map (some b)) (Res.mp (some b) [] 0::ρ) κ'):OpL o σ ρ κ K:=fun β hi Nx hk=>by
 unfold execOp
 simp only [ho,Option.map_none,Instr.makeMap,Sem.run_bind,run_newObj_alloc,Result.andThen_ok,Sem.run_pure,OutV]
 exact hk _ _ _ (hi.alloc _ (Res.mp (some κ.w.heap.size) [] 0) rfl rfl) (cS hi.fin _) (h _ _ (cS hi.fin _))
end
theorem jK {b clock:Nat} {es:Array MapEntry} {w:World} (hb:w.heap[b]?=some (.map es clock)):(getObj b).run Tryz.prog w=.ok (.map es clock) w:=by simp [getObj,Sem.run,hb]
theorem lR {b clock:Nat} {es:Array MapEntry} {w:World} (o:Obj) (hb:w.heap[b]?=some (.map es clock)):(setObj b o).run Tryz.prog w=.ok () { w with heap:=w.heap.setIfInBounds b o }:=by simp [setObj,Sem.run,hb]
theorem ki {α:Type} {f:α→α}:∀ {l:List α} {i:Nat} {e:α},l[i]?=some e→l.modify i f=l.set i (f e)
 | _::_,0,_,h=>by simp only [List.getElem?_cons_zero,co] at h;subst h;rfl
 | _::l,i+1,_,h=>by simp only [List.getElem?_cons_succ] at h;simp [ki h]
theorem set_same' {α:Type}:∀ {l:List α} {i:Nat} {e:α},l[i]?=some e→l.set i e=l
 | _::_,0,_,h=>by simp only [List.getElem?_cons_zero,co] at h;subst h;rfl
 | _::l,i+1,_,h=>by simp only [List.getElem?_cons_succ] at h;simp [set_same' h]
theorem qp {t kt et b clock:Nat} {z v:Value} {sz by':Nat} {P:Value→Prop} (ht:cE t=some (.map kt et)) (hz:c5 et=some (z,sz,by')) (L:KeyLaw kt P) (hv:P v) {es:List MapEntry} (hes:∀ e∈es,P e.key) {w:World} (hb:w.heap[b]?=some (.map es.toArray clock)) (c:Bool):∃ r,Found v es r∧(Instr.lookup t (.map (some b)) v c).run Tryz.prog w=.ok (if c then .tuple #[(r.map (·.2)).getD z,.bool r.isSome] else (r.map (·.2)).getD z) w:=by
 obtain ⟨r,h1,h2⟩:=L.find v es hv hes w
 refine ⟨r,h2,?_⟩
 simp only [Instr.lookup,Sem.run_bind,run_underlying (bd ht),Result.andThen_ok,jK hb,Sem.run_pure,L.chk v hv,h1]
 cases r with
 | none=>simp [cr hz]
 | some q=>simp
theorem lS {t kt et:Nat} {z v:Value} {sz by':Nat} {P:Value→Prop} (ht:cE t=some (.map kt et)) (hz:c5 et=some (z,sz,by')) (L:KeyLaw kt P) (hv:P v) {w:World} (c:Bool):(Instr.lookup t (.map none) v c).run Tryz.prog w=.ok (if c then .tuple #[z,.bool false] else z) w:=by
 obtain ⟨r,h1,h2⟩:=L.find v [] hv (fun e h=>by cases h) w
 have hr:r=none:=by
  rcases h2 with h2 | ⟨i,e,_,h2,_⟩
  ·exact h2.1
  simp at h2
 subst hr
 simp [Instr.lookup,run_underlying (bd ht),L.chk v hv,h1,cr hz]
theorem nR {t kt et b clock:Nat} {v z:Value} {sz by':Nat} {P:Value→Prop} (ht:cE t=some (.map kt et)) (hz:c5 et=some (z,sz,by')) (L:KeyLaw kt P) (hv:P v) {es:List MapEntry} (hes:∀ e∈es,P e.key) {w:World} (hb:w.heap[b]?=some (.map es.toArray clock)):∃ r es' clock' n,Found v es r∧(Instr.mapEntry t (.map (some b)) v).run Tryz.prog w=.ok (.tuple #[(r.map (·.2)).getD z,.int .i64 ((n:Nat):Int)]) { w with heap:=w.heap.setIfInBounds b (.map es'.toArray clock') }∧((r=none∧es'=es++[⟨v,z,clock⟩]∧clock'=clock+1∧n=clock)∨∃ i e,es[i]?=some e∧e.key=v∧r=some (i,e.val)∧es'=es∧clock'=clock∧n=e.born):=by
 obtain ⟨r,h1,h2⟩:=L.find v es hv hes w
 have h2':=h2
 rcases h2 with ⟨rfl,h3⟩ | ⟨i,e,rfl,h3,h4⟩
 ·refine ⟨none,es++[⟨v,z,clock⟩],clock+1,clock,h2',?_,.inl ⟨rfl,rfl,rfl,rfl⟩⟩
  simp only [Instr.mapEntry,Sem.run_bind,run_underlying (bd ht),Result.andThen_ok,jK hb,L.chk v hv,h1,cr hz,lR _ hb,Sem.run_pure]
  simp [goInt]
 refine ⟨some (i,e.val),es,clock,e.born,h2',?_,.inr ⟨i,e,h3,h4,rfl,rfl,rfl,rfl⟩⟩
 have hk:((es.toArray[i]?).map (·.key)).getD v=v:=by simp [h3,h4]
 have hst:(Instr.keyThatStays v v).run Tryz.prog w=.ok v w:=by simp [Instr.keyThatStays,L.same v hv]
 have hm:es.toArray.modify i (fun x=>({ x with key:=v }:MapEntry))=es.toArray:=by
  apply Array.ext'
  simp only [Array.toList_modify]
  rw [ki h3]
  subst h4
  exact set_same' h3
 have hbn:((es.toArray[i]?).map (·.born)).getD 0=e.born:=by simp [h3]
 simp only [Instr.mapEntry,Sem.run_bind,run_underlying (bd ht),Result.andThen_ok,jK hb,L.chk v hv,h1,hk,hst,hm,lR _ hb,Sem.run_pure,hbn]
 simp [goInt,h3]
theorem lT {t b clock i n:Nat} {u:Value} {es:List MapEntry} {e:MapEntry} (hw:MapWf es clock) (hi:es[i]?=some e) (hn:e.born=n) {w:World} (hb:w.heap[b]?=some (.map es.toArray clock)):(Instr.entryStore t (.map (some b)) (.int .i64 ((n:Nat):Int)) u).run Tryz.prog w=.ok () { w with heap:=w.heap.setIfInBounds b (.map (es.set i { e with val:=u }).toArray clock) }:=by
 have hf:es.toArray.findIdx? (fun e=>(e.born:Int) == (n:Int))=some i:=by
  rw [List.findIdx?_toArray]
  have hlt:i<es.length:=by
   rcases Nat.lt_or_ge i es.length with h | h
   ·exact h
   rw [List.getElem?_eq_none h] at hi;cases hi
  rw [List.findIdx?_eq_some_iff_getElem]
  have he:es[i]=e:=by rw [List.getElem?_eq_getElem hlt] at hi;exact Option.some.inj hi
  refine ⟨hlt,by simp [he,hn],fun j hj=>?_⟩
  have:=(List.pairwise_iff_getElem.1 hw.bn) j i (by omega) hlt hj
  rw [he,hn] at this
  simp;omega
 have hm:es.toArray.modify i (fun x=>({ x with val:=u }:MapEntry))=(es.set i { e with val:=u }).toArray:=by
  apply Array.ext'
  simp only [Array.toList_modify]
  rw [ki hi]
 simp only [Instr.entryStore,Sem.run_bind,Result.andThen_ok,jK hb,show (asInt (.int .i64 ((n:Nat):Int))).run Tryz.prog w=.ok ((n:Nat):Int) w by simp [asInt,asIntOf],Sem.run_pure,hf,hm,lR _ hb]
section
variable {K V:Type} [DecidableEq K] {ek:K→Value} {vv:V→PV} {xs:List (K×V)} {κ:Kr} {es:List MapEntry} {clock kt:Nat}
theorem o5 {k:K} {z0:V} {z:Value} {r:Option (Nat×Value)} (hinj:∀ a b,ek a=ek b→a=b) (hw:MapWf es clock) (h:KVs κ (dw ek vv xs) es) (hf:Found (ek k) es r) (hz:Rp κ (vv z0) z):Rp κ (vv ((bP xs k).getD z0)) ((r.map (·.2)).getD z)∧r.isSome=(bP xs k).isSome:=by
 rcases kh hinj h hw hf with ⟨rfl,h3,h4⟩ | ⟨i,e,v,rfl,h4,h5,h6,h7⟩
 ·rw [kg h3];exact ⟨hz,rfl⟩
 rw [(nP (nQ h hw) h6).1];exact ⟨h7,rfl⟩
theorem tA {es':List MapEntry} {clock' n:Nat} {k:K} {z0:V} {z:Value} {r:Option (Nat×Value)} (hinj:∀ a b,ek a=ek b→a=b) (hw:MapWf es clock) (h:KVs κ (dw ek vv xs) es) (hf:Found (ek k) es r) (hz:Rp κ (vv z0) z)
    (hc:(r=none∧es'=es++[⟨ek k,z,clock⟩]∧clock'=clock+1∧n=clock)∨∃ i e,es[i]?=some e∧e.key=ek k∧r=some (i,e.val)∧es'=es∧clock'=clock∧n=e.born):MapWf es' clock'∧KVs κ (dw ek vv (gi xs k z0)) es'∧(es'[iQ xs k]?).map (·.born)=some n:=by
  rcases hc with ⟨rfl,rfl,rfl,rfl⟩ | ⟨i,e,h1,h2,rfl,rfl,rfl,rfl⟩
  · rcases kh hinj h hw hf with ⟨_,h3,h4⟩ | ⟨i,e,v,h3,_⟩
    · refine ⟨hw.push h4,?_,?_⟩
      · unfold gi
        rw [kg h3]
        simp only [Option.isSome_none,Bool.false_eq_true,if_false]
        rw [dw,List.map_append]
        exact h.app (.cons (e:=⟨ek k,z,n⟩) hz .nil)
      rw [mP h3]
      have:xs.length=es.length:=by
        have:=congrArg List.length h.keys
        simpa [dw] using this
      rw [this];simp
    cases h3
  rcases kh hinj h hw hf with ⟨h3,_⟩ | ⟨i',e',v',h3,h4,h5,h6,h7⟩
  · cases h3
  have hi:i'=i:=by injection h3 with h3;injection h3 with h3 _;exact h3.symm
  subst hi
  obtain ⟨a1,a2,_⟩:=nP (nQ h hw) h6
  refine ⟨hw,?_,?_⟩
  · unfold gi;rw [a1];exact h
  rw [a2,h1];rfl
end
theorem o6 {w:World} {b i:Nat} {o:Obj} (h:i≠b):({ w with heap:=w.heap.setIfInBounds b o }:World).heap[i]?=w.heap[i]?:=by
 show (w.heap.setIfInBounds b o)[i]?=_
 rw [Array.getElem?_setIfInBounds_ne (fun e=>h e.symm)]
theorem o7 {w:World} {b:Nat} {o o':Obj} (h:w.heap[b]?=some o'):({ w with heap:=w.heap.setIfInBounds b o }:World).heap[b]?=some o:=by
 show (w.heap.setIfInBounds b o)[b]?=_
 have:b<w.heap.size:=by
  rcases Nat.lt_or_ge b w.heap.size with h1 | h1
  ·exact h1
  rw [Array.getElem?_eq_none h1] at h;cases h
 rw [Array.getElem?_setIfInBounds_self_of_lt this]
theorem Zg.mapTurn {β:Base} {l1 l2:List Res} {κ:Kr} {b clock clock':Nat} {es es':List MapEntry} (h:Zg β (l1++Res.mp (some b) es clock::l2) κ):Zg β (l1++Res.mp (some b) es' clock'::l2) ⟨{ κ.w with heap:=κ.w.heap.setIfInBounds b (.map es'.toArray clock') },κ.S⟩∧Kle κ ⟨{ κ.w with heap:=κ.w.heap.setIfInBounds b (.map es'.toArray clock') },κ.S⟩:=by
 have hb:κ.w.heap[b]?=some (.map es.toArray clock):=h.own (Res.mp (some b) es clock) (by simp)
 exact h.turn (r:=Res.mp (some b) es clock) (r':=Res.mp (some b) es' clock') (b:=b) rfl rfl rfl (fun i hi=>o6 hi) (by simp) (o7 hb) rfl rfl rfl (Nat.le_refl _)
section
variable {K V:Type} [DecidableEq K] {ek:K→Value} {vv:V→PV} {xs:List (K×V)} {o:Oper} {σ:PEnv} {ρ ρ':List PRes} {c:Bool} {x y y2:Operand} {t kt et:Nat} {KK:PV→List PRes→Prop} {k:K} {v z0:V} {z:Value} {sz by' b:Nat} {pk:PV} {mo:Option Nat}
theorem qq (ho:o.op=.makeMap t none) (h:∀ b,KK (.v (.map (some b))) (.mp (some b) []::ρ)):POpL o σ ρ KK:=fun κ σ' ρ' g hs hr =>
 qo ho fun b κ' hk=>⟨_,_,.v rfl,.cons (.mp (fun h=>by cases h) ⟨.nil,.nil,fun e h=>by cases h⟩ .nil) (hr.mono hk),h b⟩
def MapIs (ρ:List PRes) (mo:Option Nat) (kvs:List (Value×PV)):Prop:=∀ κ rs,RRels κ ρ rs→∃ es clock,Res.mp mo es clock∈rs∧(mo=none→es=[])∧MapWf es clock∧KVs κ kvs es
theorem jL {kvs:List (Value×PV)} (h:PRes.mp mo kvs∈ρ):MapIs ρ mo kvs:=fun κ rs hr=>by
 obtain ⟨r,h1,h2⟩:=hr.mem h
 cases h2 with
 | mp hn hw hk=>exact ⟨_,_,h1,hn,hw,hk⟩
theorem rT {kvs:List (Value×PV)} {i n:Nat} (h:PRes.mpo b kvs i n∈ρ):MapIs ρ (some b) kvs:=fun κ rs hr=>by
 obtain ⟨r,h1,h2⟩:=hr.mem h
 cases h2 with
 | mpo hw hk hi=>exact ⟨_,_,h1,(fun h=>by cases h),hw,hk⟩
theorem qr {es:List MapEntry} {clock:Nat} (hw:MapWf es clock) {u:Value} {r r':Option (Nat×Value)} (h:Found u es r) (h':Found u es r'):r=r':=by
 rcases h with ⟨rfl,h1⟩ | ⟨i,e,rfl,h1,h2⟩ <;> rcases h' with ⟨rfl,h3⟩ | ⟨j,f,rfl,h3,h4⟩
 ·rfl
 ·exact absurd h4 (h1 f (List.mem_of_getElem? h3))
 ·exact absurd h2 (h3 e (List.mem_of_getElem? h1))
 have hij:i=j:=by
  obtain ⟨li,ei⟩:=List.getElem?_eq_some_iff.1 h1
  obtain ⟨lj,ej⟩:=List.getElem?_eq_some_iff.1 h3
  have pw:=List.pairwise_iff_getElem.1 hw.nd
  rcases Nat.lt_trichotomy i j with h | h | h
  ·exact absurd (by rw [ei,ej,h2,h4]) (pw i j li lj h)
  ·exact h
  exact absurd (by rw [ei,ej,h2,h4]) (pw j i lj li h)
 subst hij
 rw [h1] at h3;injection h3 with h3;rw [h3]
theorem tB (cm:Bool) (ho:o.op=.lookup t x y cm) (ht:cE t=some (.map kt et)) (hz:c5 et=some (z,sz,by')) (hzp:∀ κ,Rp κ (vv z0) z) (L:KEnc kt ek) (hx:PEv σ c x (.v (.map mo))) (hy:PEv σ c y pk) (hk:∀ κ u,Rp κ pk u→u=ek k) (hm:MapIs ρ mo (dw ek vv xs)) {κ:Kr} {σ':Env} {ρ':List Res} (hs:Sim κ σ σ') (hr:RRels κ ρ ρ'):c=true→∃ u,Rp κ (vv ((bP xs k).getD z0)) u∧∀ w,Stab ρ' κ w→(execOp (SX.ev σ') o).run Tryz.prog w=.ok (.value (if cm then .tuple #[u,.bool (bP xs k).isSome] else u)) w:=by
 intro hc
 obtain ⟨P,hL,hP⟩:=L.law
 have e1:SX.ev σ' x=.map mo:=hs.ve hx hc
 have e2:SX.ev σ' y=ek k:=hk κ _ (hs.pe hy hc)
 obtain ⟨es,clock,h1,hn,h2,h3⟩:=hm κ ρ' hr
 obtain ⟨r,g1,g2⟩:=hL.find (ek k) es (hP k) (qn hP h3) κ.w
 obtain ⟨l1,l2⟩:=o5 L.inj h2 h3 g2 (hzp κ)
 refine ⟨_,l1,fun w hw=>?_⟩
 cases mo with
 | none =>
  have:=hn rfl;subst this
  have hr0:r=none:=by
   rcases g2 with g2 | ⟨i,e,_,g2,_⟩
   ·exact g2.1
   simp at g2
  subst hr0
  rw [← l2]
  simp only [execOp,ho,e1,e2,Sem.run_bind,lS ht hz hL (hP k) cm,Result.andThen_ok,Sem.run_pure]
  rfl
 | some b =>
  have hb:w.heap[b]?=some (.map es.toArray clock):=hw.own _ h1
  obtain ⟨r',f1,f2⟩:=qp ht hz hL (hP k) (qn hP h3) hb cm
  have:=qr h2 f1 g2;subst this
  rw [← l2]
  simp only [execOp,ho,e1,e2,Sem.run_bind,f2,Result.andThen_ok,Sem.run_pure]
theorem kj (ho:o.op=.lookup t x y false) (ht:cE t=some (.map kt et)) (hz:c5 et=some (z,sz,by')) (hzp:∀ κ,Rp κ (vv z0) z) (L:KEnc kt ek) (hx:PEv σ c x (.v (.map mo))) (hy:PEv σ c y pk) (hk:∀ κ u,Rp κ pk u→u=ek k) (hm:MapIs ρ mo (dw ek vv xs)):POpQ c o σ ρ (vv ((bP xs k).getD z0)):=fun κ σ' ρ' g hs hr=>by
 cases c with
 | false=>exact p6
 | true =>
  obtain ⟨u,h1,h2⟩:=tB false ho ht hz hzp L hx hy hk hm hs hr rfl
  exact ⟨u,fun _=>h1,fun _ w hw=>h2 w hw⟩
theorem o8 (ho:o.op=.lookup t x y true) (ht:cE t=some (.map kt et)) (hz:c5 et=some (z,sz,by')) (hzp:∀ κ,Rp κ (vv z0) z) (L:KEnc kt ek) (hx:PEv σ c x (.v (.map mo))) (hy:PEv σ c y pk) (hk:∀ κ u,Rp κ pk u→u=ek k) (hm:MapIs ρ mo (dw ek vv xs)):POpQ c o σ ρ (.tup [vv ((bP xs k).getD z0),.v (.bool (bP xs k).isSome)]):=fun κ σ' ρ' g hs hr=>by
 cases c with
 | false=>exact p6
 | true =>
  obtain ⟨u,h1,h2⟩:=tB true ho ht hz hzp L hx hy hk hm hs hr rfl
  exact ⟨_,fun _=>.tup (ws:=[u,.bool (bP xs k).isSome]) (.cons h1 (.cons (.v rfl) .nil)),fun _ w hw=>h2 w hw⟩
theorem kE (ho:o.op=.mapEntry t x y) (ht:cE t=some (.map kt et)) (hz:c5 et=some (z,sz,by')) (hzp:∀ κ,Rp κ (vv z0) z) (L:KEnc kt ek) (hx:aW σ x=.v (.map (some b))) (hy:aW σ y=pk) (hk:∀ κ u,Rp κ pk u→u=ek k) {l:List PRes} (hu:PPick ρ (.mp (some b) (dw ek vv xs)) l) (h:∀ n:Nat,KK (.tup [vv ((bP xs k).getD z0),.v (.int .i64 ((n:Nat):Int))]) (.mpo b (dw ek vv (gi xs k z0)) (iQ xs k) n::l)):POpL o σ ρ KK:=fun κ σ' rr g hs hr=>by
 obtain ⟨P,hL,hP⟩:=L.law
 obtain ⟨r0,l',hp,h4,h5⟩:=hr.pick hu
 cases h4 with
 | mp hn hw hkv =>
  rename_i es clock
  intro β hi0 Nx hnx
  have hi:=hi0.perm hp
  have hb:κ.w.heap[b]?=some (.map es.toArray clock):=hi.own (Res.mp (some b) es clock) (by simp)
  have e1:SX.ev σ' x=.map (some b):=hs.v1 hx
  have e2:SX.ev σ' y=ek k:=hk κ _ (by have:=hs.ev y;rwa [hy] at this)
  obtain ⟨r,es',clock',n,f1,f2,f3⟩:=nR ht hz hL (hP k) (qn hP hkv) hb
  obtain ⟨l1,l2⟩:=o5 L.inj hw hkv f1 (hzp κ)
  obtain ⟨w1,w2,w3⟩:=tA (z0:=z0) L.inj hw hkv f1 (hzp κ) f3
  obtain ⟨i1,i2⟩:=Zg.mapTurn (l1:=[]) (es':=es') (clock':=clock') hi
  simp only [execOp,ho,e1,e2,Sem.run_bind,f2,Result.andThen_ok,Sem.run_pure,OutV]
  exact hnx _ _ _ i1 i2 ⟨_,_,.tup (ws:=[_,_]) (.cons (l1.mono i2) (.cons (.v rfl) .nil)),.cons (.mpo w1 (w2.mono i2) w3) (h5.mono i2),h n⟩
theorem i4 (ho:o.op=.entryStore t x y y2) {n:Nat} (hx:aW σ x=.v (.map (some b))) (hy:aW σ y=.v (.int .i64 ((n:Nat):Int))) (hv:aW σ y2=vv v) {l:List PRes} (hu:PPick ρ (.mpo b (dw ek vv (gi xs k z0)) (iQ xs k) n) l) (hnd:MND xs∨True) (h:KK (.v undef) (.mp (some b) (dw ek vv (jJ xs k v))::l)):POpL o σ ρ KK:=fun κ σ' rr g hs hr=>by
 obtain ⟨r0,l',hp,h4,h5⟩:=hr.pick hu
 cases h4 with
 | mpo hw hkv hn =>
  rename_i es clock
  intro β hi0 Nx hnx
  have hi:=hi0.perm hp
  have hb:κ.w.heap[b]?=some (.map es.toArray clock):=hi.own (Res.mp (some b) es clock) (by simp)
  have e1:SX.ev σ' x=.map (some b):=hs.v1 hx
  have e2:SX.ev σ' y=.int .i64 ((n:Nat):Int):=hs.v1 hy
  have rv:Rp κ (vv v) (SX.ev σ' y2):=by have:=hs.ev y2;rwa [hv] at this
  cases he:es[iQ xs k]? with
  | none=>rw [he] at hn;cases hn
  | some e =>
   rw [he] at hn;simp only [Option.map_some,co] at hn
   have hnd2:MND xs:=by
    have:=nQ hkv hw
    unfold gi at this
    split at this
    ·exact this
    exact (List.pairwise_append.1 this).1
   obtain ⟨m1,m2,m3⟩:=tz hnd2 k z0
   have hkey:e.key=ek k:=by
    obtain ⟨p,q1,q2⟩:=hkv.get he
    obtain ⟨k',v',q3,q4,q5⟩:=lQ q1
    rw [m2] at q3;injection q3 with q3;injection q3 with q3 _;rw [q4,← q3]
   have f2:=lT (t:=t) (u:=SX.ev σ' y2) hw he hn hb
   obtain ⟨i1,i2⟩:=Zg.mapTurn (l1:=[]) (es':=es.set (iQ xs k) { e with val:=SX.ev σ' y2 }) (clock':=clock) hi
   have kv2:KVs κ (dw ek vv (jJ xs k v)) (es.set (iQ xs k) { e with val:=SX.ev σ' y2 }):=by
    rw [← m3 v,dw,List.map_set]
    show KVs κ ((dw ek vv (gi xs k z0)).set (iQ xs k) (ek k,vv v)) _
    rw [← hkey]
    exact hkv.set he (e':={ e with val:=SX.ev σ' y2 }) rfl rv
   simp only [execOp,ho,e1,e2,Sem.run_bind,f2,Result.andThen_ok,Sem.run_pure,OutV]
   exact hnx _ _ _ i1 i2 ⟨.v undef,_,.v rfl,.cons (.mp (fun h=>by cases h) (hw.set he rfl rfl) (kv2.mono i2)) (h5.mono i2),h⟩
end
def kP (a b:Int):Value:=.agg #[.int .i64 a,.int .i64 b]
def vI (a:Int):PV:=.v (.int .i64 a)
theorem km {a b:Int}:∀ (κ:Kr) (u:Value),Rp κ (.agg [.v (.int .i64 a),.v (.int .i64 b)]) u→u=kP a b:=fun κ u h=>by
 cases h with
 | agg ho hc =>
  have:=kW (xs:=[.int .i64 a,.int .i64 b]) rfl hc
  rw [this];rfl
theorem o9 {K V:Type} {o:Oper} {σ:PEnv} {ρ:List PRes} {t:Nat} {KK:PV→List PRes→Prop} (ek:K→Value) (vv:V→PV) (ho:o.op=.makeMap t none) (h:∀ b,KK (.v (.map (some b))) (.mp (some b) (dw ek vv [])::ρ)):POpL o σ ρ KK:=qq ho h
theorem qt {K V:Type} [DecidableEq K] {xs:List (K×V)} {k:K} {z:V}:(bP (gi xs k z) k).getD z=(bP xs k).getD z:=by
 unfold gi
 split
 ·rfl
 rename_i h
 have h0:bP xs k=none:=by cases e:bP xs k with | none=>rfl | some v=>rw [e] at h;exact absurd rfl h
 rw [h0]
 have:∀ (l:List (K×V)),bP l k=none→bP (l++[(k,z)]) k=some z:=by
  intro l
  induction l with
  | nil=>intro _;simp [bP]
  | cons p r ih =>
   obtain ⟨a,w⟩:=p
   intro hl
   unfold bP at hl
   split at hl
   ·cases hl
   rename_i hne
   show bP ((a,w)::(r++[(k,z)])) k=some z
   unfold bP
   rw [if_neg hne];exact ih hl
 rw [this xs h0];rfl
theorem pa {K V:Type} [DecidableEq K] {ek:K→Value} {vv:V→PV} {xs:List (K×V)} {o:Oper} {σ:PEnv} {ρ:List PRes} {c:Bool} {x y:Operand} {t kt et:Nat} {k:K} {z0:V} {z:Value} {sz by' b n:Nat} {pk:PV} (ho:o.op=.lookup t x y false) (ht:cE t=some (.map kt et)) (hz:c5 et=some (z,sz,by')) (hzp:∀ κ,Rp κ (vv z0) z) (L:KEnc kt ek) (hx:PEv σ c x (.v (.map (some b)))) (hy:PEv σ c y pk) (hk:∀ κ u,Rp κ pk u→u=ek k) (hm:PRes.mpo b (dw ek vv (gi xs k z0)) (iQ xs k) n∈ρ):POpQ c o σ ρ (vv ((bP xs k).getD z0)):=by
 rw [← qt]
 exact kj ho ht hz hzp L hx hy hk (rT hm)
section
variable {n:Nat} {ops:Array Oper} {o:Oper} {rest:List Oper} {K:PPost} {σ:PEnv} {ρ:List PRes} {d:Nat}
end
section
variable {o:Oper} {σ:PEnv} {ρ ρ':List PRes} {x y:Operand} {t T T2 sz by' n c:Nat} {a:Option Addr} {kd:IntKind} {i j:Int} {z:Value} {α:Type} {enc:α→List PV} {xs zs:List α} {m:α} {K:PV→List PRes→Prop}
end
section
variable {α:Type} (lt:α→α→Bool)
def ins (x:α):List α→List α
 | []=>[x]
 | y::l=>cond (lt y x) (y::ins x l) (x::y::l)
def gj:List α→List α
 | []=>[]
 | x::l=>ins lt x (gj l)
variable {lt}
theorem jM {x:α}:∀ {l:List α},(ins lt x l).Perm (x::l)
 | []=>List.Perm.refl _
 | y::l=>by
  unfold ins
  cases lt y x
  ·exact List.Perm.refl _
  exact (List.Perm.cons y jM).trans (List.Perm.swap x y l)
theorem eW:∀ {l:List α},(gj lt l).Perm l
 | []=>List.Perm.refl _
 | x::l=>jM.trans (List.Perm.cons x eW)
theorem lU (htr:∀ x y z,lt x y=true→lt y z=true→lt x z=true) (hnt:∀ x y z,lt x y=false→lt y z=false→lt x z=false) (hir:∀ x,lt x x=false) {x:α}:∀ {l:List α},l.Pairwise (fun a b=>lt b a=false)→(ins lt x l).Pairwise (fun a b=>lt b a=false)
 | [],_=>List.pairwise_singleton _ _
 | y::l,h=>by
  unfold ins
  obtain ⟨h1,h2⟩:=List.pairwise_cons.1 h
  have asym:∀ a b,lt a b=true→lt b a=false:=fun a b hab=>by
   cases hba:lt b a
   ·rfl
   have:=htr a b a hab hba;rw [hir] at this;cases this
  cases hy:lt y x
  ·refine List.pairwise_cons.2 ⟨fun z hz=>?_,h⟩
   rcases List.mem_cons.1 hz with rfl | hz
   ·exact hy
   exact hnt z y x (h1 z hz) hy
  refine List.pairwise_cons.2 ⟨fun z hz=>?_,lU htr hnt hir h2⟩
  rcases List.mem_cons.1 (jM.mem_iff.1 hz) with rfl | hz
  ·exact asym y z hy
  exact h1 z hz
theorem jN (htr:∀ x y z,lt x y=true→lt y z=true→lt x z=true) (hnt:∀ x y z,lt x y=false→lt y z=false→lt x z=false) (hir:∀ x,lt x x=false):∀ (l:List α),(gj lt l).Pairwise (fun a b=>lt b a=false)
 | []=>List.Pairwise.nil
 | x::l=>lU htr hnt hir (jN htr hnt hir l)
theorem kF (ha:∀ x y,lt x y=false→lt y x=false→x=y):∀ {l m:List α},l.Pairwise (fun a b=>lt b a=false)→m.Pairwise (fun a b=>lt b a=false)→l.Perm m→l=m
 | [],m,_,_,hp=>(List.nil_perm.1 hp).symm
 | x::l,m,h1,h2,hp=>by
  obtain ⟨g1,g2⟩:=List.pairwise_cons.1 h1
  match m,h2,hp with
  | [],_,hp=>exact absurd (List.perm_nil.1 hp) (by simp)
  | y::m,h2,hp =>
   obtain ⟨k1,k2⟩:=List.pairwise_cons.1 h2
   have hxy:x=y:=by
    have hx:x∈y::m:=hp.mem_iff.1 (by simp)
    have hy:y∈x::l:=hp.mem_iff.2 (by simp)
    rcases List.mem_cons.1 hx with e | hx
    ·exact e
    rcases List.mem_cons.1 hy with e | hy
    ·exact e.symm
    exact ha x y (k1 x hx) (g1 y hy)
   subst hxy
   rw [kF ha g2 k2 ((List.perm_cons x).1 hp)]
end
theorem bnd {α β:Type} {x:Option α} {f:α→Option β} {a:α} (h:x=some a):x.bind f=f a:=by rw [h];rfl
theorem pb {r:Int} (h1 : -9223372036854775808≤r) (h2:r≤9223372036854775807):IntKind.i64.wrap r=r:=n8 ⟨h1,h2⟩
theorem pg {n:Nat} (h:n≤1267650600228229401496703205000):n<FUEL:=Nat.lt_of_le_of_lt h (by unfold FUEL;omega)
theorem eH {α:Type} {xs:List α} {k:Nat} (h:k<xs.length):idx xs (k:Int)=some xs[k]:=by
 unfold idx;rw [if_pos (by omega)];simp [h]
theorem mQ {α:Type} [Inhabited α] {x:Option α}:gd true x=x:=rfl
theorem mR {α:Type} [Inhabited α] {x:Option α}:gd false x=some default:=rfl
theorem mS {k:Nat} {n:Nat} (hk:k<n) (hn:n≤4611686018427387904):IntKind.i64.wrap ((k:Int)+1)=((k+1:Nat):Int):=by rw [pb (by omega) (by omega)];omega
theorem dlt {k n:Nat} (h:k<n):decide ((k:Int)<(n:Int))=true:=by simp;omega
theorem rU (n:Nat):decide ((n:Int)<(n:Int))=false:=by simp
theorem iy {α:Type} {by':Nat} {xs ys:List α} (h:(xs.length+ys.length)*by'≤140737488355328) (h2:xs.length+ys.length≤140737488355328):app by' xs ys=some (xs++ys):=by unfold app;rw [if_pos ⟨h,h2⟩]
theorem qu {α:Type} {xs:List α} {a b:Nat} (h:a≤b) (h2:b≤xs.length):sub xs (a:Int) (b:Int)=some ((xs.take b).drop a):=by
 unfold sub;rw [if_pos (by omega)];simp
def bindR {A B R:Type} (p:A⊕R) (g:A→B⊕R):B⊕R:=match p with | .inl a=>g a | .inr r=>.inr r
def run {α A R:Type} (f:Nat→α→A→A⊕R):List α→Nat→A→A⊕R
 | [],_,a=>.inl a
 | x::xs,k,a=>bindR (f k x a) (fun a'=>run f xs (k+1) a')
theorem jO {α A R:Type} (f:Nat→α→A→A⊕R) (x:α) (xs:List α) (k:Nat) (a:A):run f (x::xs) k a=bindR (f k x a) (run f xs (k+1)):=rfl
def outc {S T A R:Type} (g:A→S) (e:R→T):A⊕R→S⊕T
 | .inl a=>.inl (g a)
 | .inr r=>.inr (e r)
def outf {T A R:Type} (g:A→T) (e:R→T):A⊕R→T
 | .inl a=>g a
 | .inr r=>e r
theorem ph {S T α A R:Type} {l:List α} (hl:l.length≤4611686018427387904) {body:S→Option (S⊕T)} (pack:Int→A→S) (f:Nat→α→A→A⊕R) (fin:A→T) (exit:R→T) (P:Nat→A→Prop)
    (hstep:∀ (k:Nat) (hk:k<l.length) (a:A),P k a→body (pack (k:Int) a)=some (outc (pack ((k+1:Nat):Int)) exit (f k l[k] a))∧∀ a',f k l[k] a=.inl a'→P (k+1) a')
    (hend:∀ a,P l.length a→body (pack (l.length:Int) a)=some (.inr (fin a))) (a:A) (h0:P 0 a):bs body FUEL (pack 0 a)=some (outf fin exit (run f l 0 a))∧∀ a',run f l 0 a=.inl a'→P l.length a':=by
  have main:∀ (xs:List α) (k N:Nat) (a:A),l.drop k=xs→k≤l.length→P k a→xs.length<N→bs body N (pack (k:Int) a)=some (outf fin exit (run f xs k a))∧∀ a',run f xs k a=.inl a'→P l.length a':=by
    intro xs
    induction xs with
    | nil =>
      intro k N a hd hk hp hN
      have:k=l.length:=by
        have:=congrArg List.length hd;simp at this;omega
      subst this
      obtain ⟨N,rfl⟩:∃ M,N=M+1:=⟨N - 1,by omega⟩
      rw [hQ,hend a hp]
      exact ⟨rfl,fun a' h=>by injection h with h;exact h ▸ hp⟩
    | cons x xs ih =>
      intro k N a hd hk hp hN
      have hk':k<l.length:=by
        have:=congrArg List.length hd;simp at this;omega
      have hx:l[k]=x∧l.drop (k+1)=xs:=by
        rw [List.drop_eq_getElem_cons hk'] at hd;injection hd with h1 h2;exact ⟨h1,h2⟩
      obtain ⟨N,rfl⟩:∃ M,N=M+1:=⟨N - 1,by omega⟩
      obtain ⟨e1,e2⟩:=hstep k hk' a hp
      rw [hx.1] at e1 e2
      rw [hQ,e1]
      rw [jO]
      cases hf:f k x a with
      | inl a'=>exact ih (k+1) N a' hx.2 (by omega) (e2 a' hf) (by simp at hN;omega)
      | inr r=>exact ⟨rfl,fun a' h=>by change Sum.inr r=_ at h;cases h⟩
  exact main l 0 FUEL a rfl (by omega) h0 (pg (by omega))
theorem tC {S T α A R β:Type} {l:List α} (hl:l.length≤4611686018427387904) {body:S→Option (S⊕T)} {k:T→Option β} (pack:Int→A→S) (f:Nat→α→A→A⊕R) (fin:A→T) (exit:R→T) (P:Nat→A→Prop) (a:A) (h0:P 0 a)
    (hstep:∀ (k:Nat) (hk:k<l.length) (a:A),P k a→body (pack (k:Int) a)=some (outc (pack ((k+1:Nat):Int)) exit (f k l[k] a))∧∀ a',f k l[k] a=.inl a'→P (k+1) a')
    (hend:∀ a,P l.length a→body (pack (l.length:Int) a)=some (.inr (fin a))):Option.bind (bs body FUEL (pack 0 a)) k=k (outf fin exit (run f l 0 a)):=bnd (ph hl pack f fin exit P hstep hend a h0).1
def jP {α T:Type} (g:Nat→α→Option T):List α→Nat→Option T
 | [],_=>none
 | x::xs,k=>match g k x with | some t=>some t | none=>jP g xs (k+1)
def outg {T:Type} (k:Nat):Option T→Int⊕T
 | some t=>.inr t
 | none=>.inl ((k+1:Nat):Int)
theorem mT {T α β:Type} {l:List α} (hl:l.length≤4611686018427387904) {body:Int→Option (Int⊕T)} {k:T→Option β} (g:Nat→α→Option T) (e:T)
    (hstep:∀ (k:Nat) (hk:k<l.length),body (k:Int)=some (outg k (g k l[k]))) (hend:body (l.length:Int)=some (.inr e)):Option.bind (bs body FUEL 0) k=k ((jP g l 0).getD e):=by
  refine (tC hl (fun i (_:Unit)=>i) (fun k x _=>match g k x with | some t=>.inr t | none=>.inl ()) (fun _=>e) (fun (t:T)=>t) (fun _ _=>True) () trivial (fun k hk a _=>⟨by
    rw [hstep k hk];cases g k l[k] <;> rfl,fun _ _=>trivial⟩) (fun a _=>hend)).trans ?_
  congr 1
  generalize 0=i
  induction l generalizing i with
  | nil=>rfl
  | cons x xs ih =>
    clear hstep hend
    have ih2:∀ j,outf (fun _=>e) (fun t=>t) (run (fun k x (_:Unit)=>match g k x with | some t=>Sum.inr t | none=>Sum.inl ()) xs j ())=(jP g xs j).getD e:=by
      clear ih hl
      induction xs with
      | nil=>intro j;rfl
      | cons y ys ih=>intro j;rw [jO,jP];cases g j y with | some t=>rfl | none=>exact ih (j+1)
    rw [jO,jP]
    cases g i x with
    | some t=>rfl
    | none=>exact ih2 (i+1)
theorem lV {α T:Type} (p:α→Bool) (f:α→T):∀ (l:List α) (k:Nat),jP (fun _ x=>cond (p x) (some (f x)) none) l k=(l.find? p).map f
 | [],_=>rfl
 | x::xs,k=>by
  rw [jP,List.find?_cons,lV p f xs]
  cases p x <;> rfl
theorem iO {S T α A β:Type} {l:List α} (hl:l.length≤4611686018427387904) {body:S→Option (S⊕T)} {k:T→Option β} (pack:Int→A→S) (f:A→α→A) (fin:A→T) (P:Nat→A→Prop) (a:A) (h0:P 0 a)
    (hstep:∀ (k:Nat) (hk:k<l.length) (a:A),P k a→body (pack (k:Int) a)=some (.inl (pack ((k+1:Nat):Int) (f a l[k])))∧P (k+1) (f a l[k]))
    (hend:∀ a,P l.length a→body (pack (l.length:Int) a)=some (.inr (fin a))):Option.bind (bs body FUEL (pack 0 a)) k=k (fin (l.foldl f a))∧P l.length (l.foldl f a):=by
  have e:=ph hl pack (fun _ x a=>(.inl (f a x):A⊕Empty)) fin (fun r=>nomatch r) P (fun k hk a hp=>⟨(hstep k hk a hp).1,fun a' h=>by injection h with h;exact h ▸ (hstep k hk a hp).2⟩) hend a h0
  have e2:∀ (xs:List α) (i:Nat) (b:A),run (fun _ x a=>(.inl (f a x):A⊕Empty)) xs i b=.inl (xs.foldl f b):=by
    intro xs
    induction xs with
    | nil=>intro i b;rfl
    | cons x xs ih=>intro i b;rw [jO,List.foldl_cons];exact ih _ _
  rw [e2] at e
  exact ⟨bnd e.1,e.2 _ rfl⟩
structure Za where
 Kind:Int
 Measure:Int
 Quantity:Int
 Value:Int
 Amount:Int
 deriving Inhabited,DecidableEq
def Za.enc (m:Za):List PV:=[pI m.Kind,pI m.Measure,pI m.Quantity,pI m.Value,pI m.Amount]
def Za.eqb (a b:Za):Bool:=((a.Kind == b.Kind)&&((a.Measure == b.Measure)&&((a.Quantity == b.Quantity)&&((a.Value == b.Value)&&((a.Amount == b.Amount)&&true)))))
theorem Za.eqb_iff {a b:Za}:Za.eqb a b=true↔a=b:=by cases a;cases b;simp [Za.eqb]
theorem Za.eqok37:EqOk 37 [0,0,0,0,0]:=⟨by kernel_rfl,by kernel_rfl,by kernel_rfl,by kernel_rfl⟩
structure Zn where
 Lines:(List Za)
 Total:Int
 deriving Inhabited,DecidableEq
def Zn.enc (m:Zn):List PV:=[pL Za.enc m.Lines,pI m.Total]
structure Zp where
 Code:ByteArray
 Origin:ByteArray
 Proof:Bool
 Company:Int
 Day:Int
 Quantity:Int
 Value:Int
 Granted:Int
 deriving Inhabited,DecidableEq
def Zp.enc (m:Zp):List PV:=[pS m.Code,pS m.Origin,pB m.Proof,pI m.Company,pI m.Day,pI m.Quantity,pI m.Value,pI m.Granted]
def Zp.eqb (a b:Zp):Bool:=((decide (a.Code=b.Code))&&((decide (a.Origin=b.Origin))&&((a.Proof == b.Proof)&&((a.Company == b.Company)&&((a.Day == b.Day)&&((a.Quantity == b.Quantity)&&((a.Value == b.Value)&&((a.Granted == b.Granted)&&true))))))))
theorem Zp.eqb_iff {a b:Zp}:Zp.eqb a b=true↔a=b:=by cases a;cases b;simp [Zp.eqb]
structure Zm where
 Product:Int
 Value:Int
 deriving Inhabited,DecidableEq
def Zm.enc (m:Zm):List PV:=[pI m.Product,pI m.Value]
def Zm.eqb (a b:Zm):Bool:=((a.Product == b.Product)&&((a.Value == b.Value)&&true))
theorem Zm.eqb_iff {a b:Zm}:Zm.eqb a b=true↔a=b:=by cases a;cases b;simp [Zm.eqb]
structure ZC where
 ID:Int
 Code:ByteArray
 Country:ByteArray
 Price:Int
 Obtained:Bool
 Processes:(List ByteArray)
 Inputs:(List Zm)
 deriving Inhabited,DecidableEq
def ZC.enc (m:ZC):List PV:=[pI m.ID,pS m.Code,pS m.Country,pI m.Price,pB m.Obtained,pL eS m.Processes,pL Zm.enc m.Inputs]
structure Zh where
 Product:Int
 Agreement:Int
 deriving Inhabited,DecidableEq
def Zh.enc (m:Zh):List PV:=[pI m.Product,pI m.Agreement]
def Zh.eqb (a b:Zh):Bool:=((a.Product == b.Product)&&((a.Agreement == b.Agreement)&&true))
theorem Zh.eqb_iff {a b:Zh}:Zh.eqb a b=true↔a=b:=by cases a;cases b;simp [Zh.eqb]
structure Zx where
 Claim:Zh
 Path:(List Int)
 Premises:(List Zh)
 deriving Inhabited,DecidableEq
def Zx.enc (m:Zx):List PV:=[pI m.Claim.Product,pI m.Claim.Agreement,pL eI m.Path,pL Zh.enc m.Premises]
structure Zo where
 Rate:Int
 Amount:Int
 Per:Int
 HasMost:Bool
 Most:Int
 HasLeast:Bool
 Least:Int
 deriving Inhabited,DecidableEq
def Zo.enc (m:Zo):List PV:=[pI m.Rate,pI m.Amount,pI m.Per,pB m.HasMost,pI m.Most,pB m.HasLeast,pI m.Least]
def Zo.eqb (a b:Zo):Bool:=((a.Rate == b.Rate)&&((a.Amount == b.Amount)&&((a.Per == b.Per)&&((a.HasMost == b.HasMost)&&((a.Most == b.Most)&&((a.HasLeast == b.HasLeast)&&((a.Least == b.Least)&&true)))))))
theorem Zo.eqb_iff {a b:Zo}:Zo.eqb a b=true↔a=b:=by cases a;cases b;simp [Zo.eqb]
structure Zd where
 ID:Int
 Kind:Int
 Prefix:ByteArray
 Origins:(List ByteArray)
 Company:Int
 From:Int
 To:Int
 Registered:Int
 Duty:Zo
 deriving Inhabited,DecidableEq
def Zd.enc (m:Zd):List PV:=[pI m.ID,pI m.Kind,pS m.Prefix,pL eS m.Origins,pI m.Company,pI m.From,pI m.To,pI m.Registered,pI m.Duty.Rate,pI m.Duty.Amount,pI m.Duty.Per,pB m.Duty.HasMost,pI m.Duty.Most,pB m.Duty.HasLeast,pI m.Duty.Least]
structure Zy where
 L:(List Int)
 I:Int
 deriving Inhabited,DecidableEq
def Zy.enc (m:Zy):List PV:=[pL eI m.L,pI m.I]
structure Zc where
 kind:Int
 measure:Int
 deriving Inhabited,DecidableEq
def Zc.enc (m:Zc):List PV:=[pI m.kind,pI m.measure]
def Zc.eqb (a b:Zc):Bool:=((a.kind == b.kind)&&((a.measure == b.measure)&&true))
theorem Zc.eqb_iff {a b:Zc}:Zc.eqb a b=true↔a=b:=by cases a;cases b;simp [Zc.eqb]
structure ZA where
 keys:(List Zc)
 sums:(List (Zc×Int))
 deriving Inhabited
structure Zl where
 Kind:Int
 Digits:Int
 Except:(List ByteArray)
 Tolerance:Int
 Limit:Int
 Name:ByteArray
 Args:(List Zl)
 deriving Inhabited
mutual
def Zl.enc:Zl→List PV
 | ⟨Kind0,Digits0,Except0,Tolerance0,Limit0,Name0,Args0⟩=>[pI Kind0,pI Digits0,pL eS Except0,pI Tolerance0,pI Limit0,pS Name0,.slc Args0.length (Zl.encs Args0)]
def Zl.encs:List Zl→List (List PV)
 | []=>[]
 | r::l=>r.enc::Zl.encs l
end
structure Zw where
 Prefix:ByteArray
 Rule:Zl
 deriving Inhabited
def Zw.enc (m:Zw):List PV:=[pS m.Prefix,pI m.Rule.Kind,pI m.Rule.Digits,pL eS m.Rule.Except,pI m.Rule.Tolerance,pI m.Rule.Limit,pS m.Rule.Name,pL Zl.enc m.Rule.Args]
structure Zu where
 ID:Int
 Kind:Int
 Parties:(List ByteArray)
 Rules:(List Zw)
 deriving Inhabited
def Zu.enc (m:Zu):List PV:=[pI m.ID,pI m.Kind,pL eS m.Parties,pL Zw.enc m.Rules]
structure Zz where
 claim:Zh
 rule:Zl
 deriving Inhabited
def Zz.enc (m:Zz):List PV:=[pI m.claim.Product,pI m.claim.Agreement,pI m.rule.Kind,pI m.rule.Digits,pL eS m.rule.Except,pI m.rule.Tolerance,pI m.rule.Limit,pS m.rule.Name,pL Zl.enc m.rule.Args]
structure Zr where
 Code:ByteArray
 Value:Int
 Originating:Bool
 deriving Inhabited,DecidableEq
def Zr.enc (m:Zr):List PV:=[pS m.Code,pI m.Value,pB m.Originating]
def Zr.eqb (a b:Zr):Bool:=((decide (a.Code=b.Code))&&((a.Value == b.Value)&&((a.Originating == b.Originating)&&true)))
theorem Zr.eqb_iff {a b:Zr}:Zr.eqb a b=true↔a=b:=by cases a;cases b;simp [Zr.eqb]
structure ZE where
 Code:ByteArray
 Price:Int
 Obtained:Bool
 Processes:(List ByteArray)
 Inputs:(List Zr)
 deriving Inhabited,DecidableEq
def ZE.enc (m:ZE):List PV:=[pS m.Code,pI m.Price,pB m.Obtained,pL eS m.Processes,pL Zr.enc m.Inputs]
structure Zq where
 Hi:Int
 Lo:Int
 deriving Inhabited,DecidableEq
def Zq.enc (m:Zq):List PV:=[pU m.Hi,pU m.Lo]
def Zq.eqb (a b:Zq):Bool:=((a.Hi == b.Hi)&&((a.Lo == b.Lo)&&true))
theorem Zq.eqb_iff {a b:Zq}:Zq.eqb a b=true↔a=b:=by cases a;cases b;simp [Zq.eqb]
structure Zf where
 quantity:Int
 value:Int
 kinds:(List Int)
 deriving Inhabited,DecidableEq
def Zf.enc (m:Zf):List PV:=[pI m.quantity,pI m.value,pL eI m.kinds]
structure ZD where
 partners:(List Int)
 set_:(List (Zh×Bool))
 deriving Inhabited
structure Zs where
 use:Zr
 premise:Zh
 deriving Inhabited,DecidableEq
def Zs.enc (m:Zs):List PV:=[pS m.use.Code,pI m.use.Value,pB m.use.Originating,pI m.premise.Product,pI m.premise.Agreement]
structure Zv where
 rule:Zl
 deriving Inhabited
def Zv.enc (m:Zv):List PV:=[pI m.rule.Kind,pI m.rule.Digits,pL eS m.rule.Except,pI m.rule.Tolerance,pI m.rule.Limit,pS m.rule.Name,pL Zl.enc m.rule.Args]
structure Zb where
 index_:Int
 share:Int
 rest:Int
 deriving Inhabited,DecidableEq
def Zb.enc (m:Zb):List PV:=[pI m.index_,pU m.share,pU m.rest]
def Zb.eqb (a b:Zb):Bool:=((a.index_ == b.index_)&&((a.share == b.share)&&((a.rest == b.rest)&&true)))
theorem Zb.eqb_iff {a b:Zb}:Zb.eqb a b=true↔a=b:=by cases a;cases b;simp [Zb.eqb]
structure Zj where
 compare:Unit
 deriving Inhabited,DecidableEq
def Zj.enc (m:Zj):List PV:=[.fn 142 []]
structure Ze where
 Hi:Int
 Lo:Int
 deriving Inhabited,DecidableEq
def Ze.enc (m:Ze):List PV:=[pU m.Hi,pU m.Lo]
def Ze.eqb (a b:Ze):Bool:=((a.Hi == b.Hi)&&((a.Lo == b.Lo)&&true))
theorem Ze.eqb_iff {a b:Ze}:Ze.eqb a b=true↔a=b:=by cases a;cases b;simp [Ze.eqb]
theorem Ze.eqok249:EqOk 249 [0,0]:=⟨by kernel_rfl,by kernel_rfl,by kernel_rfl,by kernel_rfl⟩
structure Zt where
 use:Zr
 deriving Inhabited,DecidableEq
def Zt.enc (m:Zt):List PV:=[pS m.use.Code,pI m.use.Value,pB m.use.Originating]
def Zh.key (m:Zh):Value:=kP m.Product m.Agreement
def Zc.key (m:Zc):Value:=kP m.kind m.measure
theorem Zc.kenc87:KEnc 87 Zc.key:=⟨⟨PairKey,tx _ _ rfl (by kernel_rfl) (by kernel_rfl) (by decide) (by decide) rfl rfl rfl rfl,fun a=>⟨_,_,rfl⟩⟩,fun a b h=>by cases a;cases b;simp only [Zc.key,kP] at h;injection h with h;simp at h;simp [h]⟩
inductive Zi where
 | plain_ (a:Zt)
 | proved_ (a:Zs)
 deriving Inhabited
def Zi.tag:Zi→Nat
 | .plain_ _=>268
 | .proved_ _=>179
def Zi.val:Zi→PV
 | .plain_ a=>.agg [pS a.use.Code,pI a.use.Value,pB a.use.Originating]
 | .proved_ a=>.agg [pS a.use.Code,pI a.use.Value,pB a.use.Originating,pI a.premise.Product,pI a.premise.Agreement]
def Zi.pv (m:Zi):PV:=.ifc m.tag m.val
def Zi.enc (m:Zi):List PV:=[m.pv]
inductive Zk where
 | single_ (a:Zv)
 | every_ (a:(List Zk))
 | some_ (a:(List Zk))
 deriving Inhabited
def Zk.tag:Zk→Nat
 | .single_ _=>227
 | .every_ _=>224
 | .some_ _=>225
mutual
def Zk.val:Zk→PV
 | .single_ a=>.agg [pI a.rule.Kind,pI a.rule.Digits,pL eS a.rule.Except,pI a.rule.Tolerance,pI a.rule.Limit,pS a.rule.Name,pL Zl.enc a.rule.Args]
 | .every_ a=>.slc a.length (Zk.encs a)
 | .some_ a=>.slc a.length (Zk.encs a)
def Zk.encs:List Zk→List (List PV)
 | []=>[]
 | r::l=>[.ifc r.tag r.val]::Zk.encs l
end
def Zk.pv (m:Zk):PV:=.ifc m.tag m.val
def Zk.enc (m:Zk):List PV:=[m.pv]
abbrev bU (m:Za):List PV:=[pI m.Kind,pI m.Measure,pI m.Quantity,pI m.Value,pI m.Amount]
abbrev eb (m:Zp):List PV:=[pS m.Code,pS m.Origin,pB m.Proof,pI m.Company,pI m.Day,pI m.Quantity,pI m.Value,pI m.Granted]
abbrev bA (m:Zd):List PV:=[pI m.ID,pI m.Kind,pS m.Prefix,pL eS m.Origins,pI m.Company,pI m.From,pI m.To,pI m.Registered,pI m.Duty.Rate,pI m.Duty.Amount,pI m.Duty.Per,pB m.Duty.HasMost,pI m.Duty.Most,pB m.Duty.HasLeast,pI m.Duty.Least]

section
variable {o:Oper} {σ:PEnv} {ρ:List PRes} {f:Nat} {l:List Operand} {ts:Array Nat} {pargs caps:List PV} {x:Operand} {KV:PV→List PRes→Prop}
end
section
variable {o:Oper} {σ:PEnv} {ρ:List PRes} {x y:Operand} {t:Nat} {K:PV→List PRes→Prop} {α:Type} {enc:α→List PV} {xs:List α} {m m':α} {i:Int}
end


def memN (t:Nat):List Nat→Bool
 | []=>false
 | x::l=>cond (Nat.beq t x) true (memN t l)
def rs (ds:List Nat) (σ:PEnv):PEnv:=fun t=>cond (memN t ds) (σ t) .any
inductive Flow (σ:PEnv) (ρ:List PRes):List Oper→List (List Nat)→List (Nat×PV)→Prop
 | nil:Flow σ ρ [] [] []
 | cons {o:Oper} {l:List Oper} {ds:List Nat} {D:List (List Nat)} {d:Nat} {p:PV} {dp:List (Nat×PV)} (h:POpL o (rs ds σ) ρ fun pv ρ'=>pv=p∧ρ'=ρ) (hs:Flow σ ρ l D dp):Flow σ ρ (o::l) (ds::D) ((d,p)::dp)
section
variable {σ:PEnv} {ρ:List PRes} {o:Oper} {l:List Oper} {ds:List Nat} {D:List (List Nat)} {d:Nat} {p:PV} {dp:List (Nat×PV)}
theorem Flow.get:∀ {l:List Oper} {D:List (List Nat)} {dp:List (Nat×PV)} {i:Nat} {o:Oper},Flow σ ρ l D dp→l[i]?=some o→∃ ds d p,D[i]?=some ds∧dp[i]?=some (d,p)∧POpL o (rs ds σ) ρ fun pv ρ'=>pv=p∧ρ'=ρ
 | _,_,_,0,_,.cons h _,e=>by simp only [List.getElem?_cons_zero,co] at e;subst e;exact ⟨_,_,_,rfl,rfl,h⟩
 | _,_,_,i+1,_,.cons _ hs,e=>by simp only [List.getElem?_cons_succ] at e ⊢;exact hs.get e
theorem Flow.len:∀ {l:List Oper} {D:List (List Nat)} {dp:List (Nat×PV)},Flow σ ρ l D dp→D.length=l.length∧dp.length=l.length
 | _,_,_,.nil=>⟨rfl,rfl⟩
 | _,_,_,.cons _ hs=>⟨by simp [hs.len.1],by simp [hs.len.2]⟩
end
end SX
namespace SX
open Go
attribute [local irreducible] PWL PWC PWD POpL POpQ PEv PGuardIs PSub PPick PUpd PSplice PFill PLit PF PFV PCall FOk dg ce ew eM dG ex Cov PHolds bs idx app mk gd lb nz mn oF sub gt dW oA jc dK cg gF dX IntKind.wrap Int.tmod Int.tdiv Op.bytesLess strOfNums
theorem bi {n:Nat} {l:List Oper} {KC:Exit→PPost} {σ:PEnv} {ρ:List PRes} {id:Nat} (D:List Nat) (h:iw n l.toArray ρ l [] [] σ [] D=gw n l.toArray ρ l [] [] σ []) (hw:KC .normal (gH σ D []) ρ):PWC n (.region id l.toArray false) KC σ ρ:=aG [] D [] bV h hw
theorem bc {n:Nat} {l:List Oper} {KC:Exit→PPost} {σ:PEnv} {ρ:List PRes} {id:Nat} (H D:List Nat) (X:List (Nat×PV)) (h:iw n l.toArray ρ l H [] σ (X.map (·.1)) D=gw n l.toArray ρ l H [] σ (X.map (·.2))) (hw:KC .normal (gH σ D X) ρ):PWC n (.region id l.toArray false) KC σ ρ:=aG H D X bV h hw
theorem ar {n:Nat} {l:List Oper} {KC:Exit→PPost} {σ:PEnv} {ρ:List PRes} {id:Nat} (X:List (Nat×PV)) (h:iw n l.toArray ρ l [] [] σ (X.map (·.1)) []=gw n l.toArray ρ l [] [] σ (X.map (·.2))) (hw:KC .normal (gH σ [] X) ρ):PWC n (.region id l.toArray false) KC σ ρ:=aG [] [] X bV h hw
theorem am {n:Nat} {l:List Oper} {KC:Exit→PPost} {σ:PEnv} {ρ:List PRes} {id:Nat} (D:List Nat) (X:List (Nat×PV)) (h:iw n l.toArray ρ l [] [] σ (X.map (·.1)) D=gw n l.toArray ρ l [] [] σ (X.map (·.2))) (hw:KC .normal (gH σ D X) ρ):PWC n (.region id l.toArray false) KC σ ρ:=aG [] D X bV h hw
theorem lW {n:Nat} {ops:Array Oper} {l:List (Nat×Oper)} {K:PPost} {σ:PEnv} {ρd ρs:List PRes} (k:Nat) (H D:List Nat) (X:List (Nat×PV)) (h:oZ n ops ρs (l.take k) H [] σ (X.map (·.1)) D=gw n ops ρs ((l.take k).map (·.2)) H [] σ (X.map (·.2))) (hw:PWD n ops K (l.drop k) (gH σ D X) ρd ρs):PWD n ops K l σ ρd ρs:=cL k H D X bV h hw
theorem jQ {n:Nat} {ops:Array Oper} {l:List (Nat×Oper)} {K:PPost} {σ:PEnv} {ρd ρs:List PRes} (k:Nat) (X:List (Nat×PV)) (h:oZ n ops ρs (l.take k) [] [] σ (X.map (·.1)) []=gw n ops ρs ((l.take k).map (·.2)) [] [] σ (X.map (·.2))) (hw:PWD n ops K (l.drop k) (gH σ [] X) ρd ρs):PWD n ops K l σ ρd ρs:=cL k [] [] X bV h hw
theorem jR {n:Nat} {ops:Array Oper} {l:List (Nat×Oper)} {K:PPost} {σ:PEnv} {ρd ρs:List PRes} (k:Nat) (D:List Nat) (X:List (Nat×PV)) (h:oZ n ops ρs (l.take k) [] [] σ (X.map (·.1)) D=gw n ops ρs ((l.take k).map (·.2)) [] [] σ (X.map (·.2))) (hw:PWD n ops K (l.drop k) (gH σ D X) ρd ρs):PWD n ops K l σ ρd ρs:=cL k [] D X bV h hw
theorem cb {n:Nat} {ops:Array Oper} {l:List Oper} {K:PPost} {σ:PEnv} {ρ:List PRes} (D:List Nat) (h:iw n ops ρ l [] [] σ [] D=gw n ops ρ l [] [] σ []) (hw:K (gH σ D []) ρ):PWL n ops l K σ ρ:=fM [] D [] bV h hw
theorem bB {n:Nat} {ops:Array Oper} {l:List Oper} {K:PPost} {σ:PEnv} {ρ:List PRes} (X:List (Nat×PV)) (h:iw n ops ρ l [] [] σ (X.map (·.1)) []=gw n ops ρ l [] [] σ (X.map (·.2))) (hw:K (gH σ [] X) ρ):PWL n ops l K σ ρ:=fM [] [] X bV h hw
theorem lX {n:Nat} {ops:Array Oper} {l:List Oper} {K:PPost} {σ:PEnv} {ρ:List PRes} (D:List Nat) (X:List (Nat×PV)) (h:iw n ops ρ l [] [] σ (X.map (·.1)) D=gw n ops ρ l [] [] σ (X.map (·.2))) (hw:K (gH σ D X) ρ):PWL n ops l K σ ρ:=fM [] D X bV h hw
theorem iz {n:Nat} {ops:Array Oper} {l:List Oper} {K:PPost} {σ:PEnv} {ρ:List PRes} (k:Nat) (H:List Nat) (X:List (Nat×PV)) (h:iw n ops ρ (l.take k) H [] σ (X.map (·.1)) []=gw n ops ρ (l.take k) H [] σ (X.map (·.2))) (hw:PWL n ops (l.drop k) K (gH σ [] X) ρ):PWL n ops l K σ ρ:=br k H [] X bV h hw
theorem dn {n:Nat} {ops:Array Oper} {l:List Oper} {K:PPost} {σ:PEnv} {ρ:List PRes} (k:Nat) (H D:List Nat) (X:List (Nat×PV)) (h:iw n ops ρ (l.take k) H [] σ (X.map (·.1)) D=gw n ops ρ (l.take k) H [] σ (X.map (·.2))) (hw:PWL n ops (l.drop k) K (gH σ D X) ρ):PWL n ops l K σ ρ:=br k H D X bV h hw
theorem bp {n:Nat} {ops:Array Oper} {l:List Oper} {K:PPost} {σ:PEnv} {ρ:List PRes} (k:Nat) (X:List (Nat×PV)) (h:iw n ops ρ (l.take k) [] [] σ (X.map (·.1)) []=gw n ops ρ (l.take k) [] [] σ (X.map (·.2))) (hw:PWL n ops (l.drop k) K (gH σ [] X) ρ):PWL n ops l K σ ρ:=br k [] [] X bV h hw
theorem cj {n:Nat} {ops:Array Oper} {l:List Oper} {K:PPost} {σ:PEnv} {ρ:List PRes} (k:Nat) (D:List Nat) (X:List (Nat×PV)) (h:iw n ops ρ (l.take k) [] [] σ (X.map (·.1)) D=gw n ops ρ (l.take k) [] [] σ (X.map (·.2))) (hw:PWL n ops (l.drop k) K (gH σ D X) ρ):PWL n ops l K σ ρ:=br k [] D X bV h hw
theorem aK {n:Nat} {ops:Array Oper} {o:Oper} {rest:List Oper} {K:PPost} {σ:PEnv} {ρ:List PRes} {d:Nat} (hg:(o.guard,o.dst,Nat.blt d n)=(none,some d,true)) (h:POpL o σ ρ fun p ρ'=>PWL n ops rest K (dr σ d p) ρ'):PWL n ops (o::rest) K σ ρ:=gh (Prod.mk.inj hg).1 (Prod.mk.inj (Prod.mk.inj hg).2).1 (Prod.mk.inj (Prod.mk.inj hg).2).2 h
theorem zz {α:Type} {t:Nat} {enc:α→PV} {σ:PEnv} {ρ:List PRes} {v:α} (r:α) (h:some v=some r) (e:σ t=enc v):ex [.tmp t] (fun pv ρ'=>pv=enc r∧ρ'=[]) .ret σ ρ:=by cases h;exact bg (iY (aZ e)) be ⟨rfl,rfl⟩
theorem bx {x y1:Code} {K1:Exit→PPost} {ρ1:List PRes} {n1:Nat} {σ1:PEnv} (h1:PWC n1 x (dg n1 y1 K1) σ1 ρ1):dg n1 (.seq x y1) K1 .normal σ1 ρ1:=az (ag h1)
theorem ec {K1:Exit→PPost} {ρ1:List PRes} {n1:Nat} {σ1:PEnv} (h1:K1 .ret σ1 ρ1):dg n1 .ret K1 .normal σ1 ρ1:=az (cV h1)
theorem dE {y1 x1 y:Code} {K1:Exit→PPost} {ρ:List PRes} {n:Nat} {σ:PEnv} (h:PWC n x1 (dg n y (dg n y1 K1)) σ ρ):dg n (.seq (.seq x1 y) y1) K1 .normal σ ρ:=bx (ag h)
theorem cZ {p:Bool} {x y1:Code} {K1:Exit→PPost} {ρ1:List PRes} {n1:Nat} {c:Operand} {σ1:PEnv} {α:Type} {a b r:α} (hc:aW σ1 c=.v (.bool p)) (h1:cond p a b=r) (ht:p=true→a=r→PWC n1 x K1 σ1 ρ1) (hf:p=false→b=r→PWC n1 y1 K1 σ1 ρ1):dg n1 (.cond c x y1) K1 .normal σ1 ρ1:=az (jg hc h1 ht hf)
theorem gb {y:Code} {K:Exit→PPost} {ρ:List PRes} {n1 n:Nat} {σ:PEnv} (h:K .ret σ ρ):dg n1 .ret (dg n y K) .normal σ ρ:=ec (aU h)
def du (p0:Int) (p1:Int):Option Int:=(nz p1).bind fun u1=>(nz p1).bind fun u2=>lb ((Int.tmod (IntKind.i64.wrap ((Int.tmod p0 p1)+p1)) p1)) (fun w3=>some w3)
theorem iA {p0:Int} {p1:Int} {r:Int}  (h:du p0 p1=some r):PF 13 [pI p0,pI p1] (pI r):=by
 unfold du at h
 refine bC ?_
 refine aL Tryz.func13 rfl Tryz.ntmps13 Tryz.results13 rfl (ag (bi [4] (by kernel_rfl) (bx (ae h fun u1 hu1 h=>ae h fun u2 hu2 h=>?_))))
 refine cK h ?_;clear h;intro w3 hw3 h
 refine aj (br 7 [] (rg 5 6) [(11,pI (Int.tmod (IntKind.i64.wrap ((Int.tmod p0 p1)+p1)) p1))] (qh 2 hu1 (qh 6 hu2 bV)) (by kernel_rfl) (bK rfl rfl rfl (bo rfl (.p (congrArg (fun z=>PV.v (Value.int .i64 z)) hw3))) (aH (ec ?_))))
 exact zz r h rfl
def fw (p0:Int):Option Int:=Option.bind (cond (decide (65536≤p0)) (some ((cg .u32 p0 16),16)) (some (p0,0))) (fun (v1,v2)=>Option.bind (cond (decide (256≤v1)) (some ((cg .u32 v1 8),(IntKind.i64.wrap (v2+8)))) (some (v1,v2))) (fun (v5,v6)=>(idx (⟨#[0,1,2,2,3,3,3,3,4,4,4,4,4,4,4,4,5,5,5,5,5,5,5,5,5,5,5,5,5,5,5,5,6,6,6,6,6,6,6,6,6,6,6,6,6,6,6,6,6,6,6,6,6,6,6,6,6,6,6,6,6,6,6,6,7,7,7,7,7,7,7,7,7,7,7,7,7,7,7,7,7,7,7,7,7,7,7,7,7,7,7,7,7,7,7,7,7,7,7,7,7,7,7,7,7,7,7,7,7,7,7,7,7,7,7,7,7,7,7,7,7,7,7,7,7,7,7,7,8,8,8,8,8,8,8,8,8,8,8,8,8,8,8,8,8,8,8,8,8,8,8,8,8,8,8,8,8,8,8,8,8,8,8,8,8,8,8,8,8,8,8,8,8,8,8,8,8,8,8,8,8,8,8,8,8,8,8,8,8,8,8,8,8,8,8,8,8,8,8,8,8,8,8,8,8,8,8,8,8,8,8,8,8,8,8,8,8,8,8,8,8,8,8,8,8,8,8,8,8,8,8,8,8,8,8,8,8,8,8,8,8,8,8,8,8,8,8,8,8,8,8,8,8,8,8,8]⟩:ByteArray).data.toList (IntKind.u8.wrap v5)).bind fun c9=>lb ((IntKind.i64.wrap (v6+(IntKind.i64.wrap (c9.toNat:Int))))) (fun w10=>some w10)))
theorem jh {p0:Int} {r:Int}  (h:fw p0=some r):PF 101 [.v (.int .u32 p0)] (pI r):=by
 unfold fw at h
 refine bC ?_
 refine aL Tryz.func101 rfl Tryz.ntmps101 Tryz.results101 rfl (ag (ar [(2,pI 0)] (by kernel_rfl) (dE (am [3] [(4,pB (decide (65536≤p0)))] (by kernel_rfl) (az (ae h fun q3 hq3 h=>?_))))))
 refine aQ (Y:=Unit×(Int×Int)) (fun (_,(v1,v2))=>[(0,.v (.int .u32 v1)),(2,pI v2)]) (fun (_,(v1,v2))=>[]) (fun (_,(v1,v2))=>q3=(v1,v2)) ?_ ?_
 ·skip
  refine jg rfl hq3 (fun hc4 hq3=>?_) fun hc4 hq3=>?_
  ·refine ag ?_
   refine am [5,6] [(0,.v (.int .u32 (cg .u32 p0 16)))] (by kernel_rfl) (az (ar [(2,pI 16)] (by kernel_rfl) ?_))
   obtain rfl:=osi hq3
   exact aq ((),((cg .u32 p0 16),16)) (oM rfl) be rfl
  refine ap ?_
  obtain rfl:=osi hq3
  exact aq ((),(p0,0)) (oM rfl) be rfl
 rintro ⟨_,⟨v1,v2⟩⟩ τ hz;(try dsimp only at hz);subst q3;(try dsimp only at h);dsimp only [aT]
 refine ag (ag (am [7] [(8,pB (decide (256≤v1)))] (by kernel_rfl) (az (ae h fun q7 hq7 h=>?_))))
 refine aQ (Y:=Unit×(Int×Int)) (fun (_,(v5,v6))=>[(0,.v (.int .u32 v5)),(2,pI v6)]) (fun (_,(v5,v6))=>[]) (fun (_,(v5,v6))=>q7=(v5,v6)) ?_ ?_
 ·skip
  refine jg rfl hq7 (fun hc8 hq7=>?_) fun hc8 hq7=>?_
  ·refine ag ?_
   refine am [9,10] [(0,.v (.int .u32 (cg .u32 v1 8)))] (by kernel_rfl) (az (am [11,12] [(2,pI (IntKind.i64.wrap (v2+8)))] (by kernel_rfl) ?_))
   obtain rfl:=osi hq7
   exact aq ((),((cg .u32 v1 8),(IntKind.i64.wrap (v2+8)))) (oM rfl) be rfl
  refine ap ?_
  obtain rfl:=osi hq7
  exact aq ((),(v1,v2)) (oM rfl) be rfl
 rintro ⟨_,⟨v5,v6⟩⟩ τ hz;(try dsimp only at hz);subst q7;(try dsimp only at h);dsimp only [aT]
 refine ag (ae h fun c9 hc9 h=>?_)
 refine cK h ?_;clear h;intro w10 hw10 h
 refine aj (br 6 [] (rg 13 5) [(18,pI (IntKind.i64.wrap (v6+(IntKind.i64.wrap (c9.toNat:Int)))))] (fosx 3 (s:=(⟨#[0,1,2,2,3,3,3,3,4,4,4,4,4,4,4,4,5,5,5,5,5,5,5,5,5,5,5,5,5,5,5,5,6,6,6,6,6,6,6,6,6,6,6,6,6,6,6,6,6,6,6,6,6,6,6,6,6,6,6,6,6,6,6,6,7,7,7,7,7,7,7,7,7,7,7,7,7,7,7,7,7,7,7,7,7,7,7,7,7,7,7,7,7,7,7,7,7,7,7,7,7,7,7,7,7,7,7,7,7,7,7,7,7,7,7,7,7,7,7,7,7,7,7,7,7,7,7,7,8,8,8,8,8,8,8,8,8,8,8,8,8,8,8,8,8,8,8,8,8,8,8,8,8,8,8,8,8,8,8,8,8,8,8,8,8,8,8,8,8,8,8,8,8,8,8,8,8,8,8,8,8,8,8,8,8,8,8,8,8,8,8,8,8,8,8,8,8,8,8,8,8,8,8,8,8,8,8,8,8,8,8,8,8,8,8,8,8,8,8,8,8,8,8,8,8,8,8,8,8,8,8,8,8,8,8,8,8,8,8,8,8,8,8,8,8,8,8,8,8,8,8,8,8,8,8,8]⟩:ByteArray)) hc9 bV) (by kernel_rfl) (bK rfl rfl rfl (bo rfl (.p (congrArg (fun z=>PV.v (Value.int .i64 z)) hw10))) (aH (ec ?_))))
 exact zz r h rfl
def ed (p0:Int):Option Int:=Option.bind (cond (decide (4294967296≤p0)) (some ((cg .u64 p0 32),32)) (some (p0,0))) (fun (v1,v2)=>Option.bind (cond (decide (65536≤v1)) (some ((cg .u64 v1 16),(IntKind.i64.wrap (v2+16)))) (some (v1,v2))) (fun (v5,v6)=>Option.bind (cond (decide (256≤v5)) (some ((cg .u64 v5 8),(IntKind.i64.wrap (v6+8)))) (some (v5,v6))) (fun (v9,v10)=>(idx (⟨#[0,1,2,2,3,3,3,3,4,4,4,4,4,4,4,4,5,5,5,5,5,5,5,5,5,5,5,5,5,5,5,5,6,6,6,6,6,6,6,6,6,6,6,6,6,6,6,6,6,6,6,6,6,6,6,6,6,6,6,6,6,6,6,6,7,7,7,7,7,7,7,7,7,7,7,7,7,7,7,7,7,7,7,7,7,7,7,7,7,7,7,7,7,7,7,7,7,7,7,7,7,7,7,7,7,7,7,7,7,7,7,7,7,7,7,7,7,7,7,7,7,7,7,7,7,7,7,7,8,8,8,8,8,8,8,8,8,8,8,8,8,8,8,8,8,8,8,8,8,8,8,8,8,8,8,8,8,8,8,8,8,8,8,8,8,8,8,8,8,8,8,8,8,8,8,8,8,8,8,8,8,8,8,8,8,8,8,8,8,8,8,8,8,8,8,8,8,8,8,8,8,8,8,8,8,8,8,8,8,8,8,8,8,8,8,8,8,8,8,8,8,8,8,8,8,8,8,8,8,8,8,8,8,8,8,8,8,8,8,8,8,8,8,8,8,8,8,8,8,8,8,8,8,8,8,8]⟩:ByteArray).data.toList (IntKind.u8.wrap v9)).bind fun c13=>lb ((IntKind.i64.wrap (v10+(IntKind.i64.wrap (c13.toNat:Int))))) (fun w14=>some w14))))
theorem f0 {p0:Int} {r:Int}  (h:ed p0=some r):PF 102 [pU p0] (pI r):=by
 unfold ed at h
 refine bC ?_
 refine aL Tryz.func102 rfl Tryz.ntmps102 Tryz.results102 rfl (ag (ar [(2,pI 0)] (by kernel_rfl) (dE (am [3] [(4,pB (decide (4294967296≤p0)))] (by kernel_rfl) (az (ae h fun q3 hq3 h=>?_))))))
 refine aQ (Y:=Unit×(Int×Int)) (fun (_,(v1,v2))=>[(0,pU v1),(2,pI v2)]) (fun (_,(v1,v2))=>[]) (fun (_,(v1,v2))=>q3=(v1,v2)) ?_ ?_
 ·skip
  refine jg rfl hq3 (fun hc4 hq3=>?_) fun hc4 hq3=>?_
  ·refine ag ?_
   refine am [5,6] [(0,pU (cg .u64 p0 32))] (by kernel_rfl) (az (ar [(2,pI 32)] (by kernel_rfl) ?_))
   obtain rfl:=osi hq3
   exact aq ((),((cg .u64 p0 32),32)) (oM rfl) be rfl
  refine ap ?_
  obtain rfl:=osi hq3
  exact aq ((),(p0,0)) (oM rfl) be rfl
 rintro ⟨_,⟨v1,v2⟩⟩ τ hz;(try dsimp only at hz);subst q3;(try dsimp only at h);dsimp only [aT]
 refine ag (ag (am [7] [(8,pB (decide (65536≤v1)))] (by kernel_rfl) (az (ae h fun q7 hq7 h=>?_))))
 refine aQ (Y:=Unit×(Int×Int)) (fun (_,(v5,v6))=>[(0,pU v5),(2,pI v6)]) (fun (_,(v5,v6))=>[]) (fun (_,(v5,v6))=>q7=(v5,v6)) ?_ ?_
 ·skip
  refine jg rfl hq7 (fun hc8 hq7=>?_) fun hc8 hq7=>?_
  ·refine ag ?_
   refine am [9,10] [(0,pU (cg .u64 v1 16))] (by kernel_rfl) (az (am [11,12] [(2,pI (IntKind.i64.wrap (v2+16)))] (by kernel_rfl) ?_))
   obtain rfl:=osi hq7
   exact aq ((),((cg .u64 v1 16),(IntKind.i64.wrap (v2+16)))) (oM rfl) be rfl
  refine ap ?_
  obtain rfl:=osi hq7
  exact aq ((),(v1,v2)) (oM rfl) be rfl
 rintro ⟨_,⟨v5,v6⟩⟩ τ hz;(try dsimp only at hz);subst q7;(try dsimp only at h);dsimp only [aT]
 refine ag (ag (am [13] [(14,pB (decide (256≤v5)))] (by kernel_rfl) (az (ae h fun q11 hq11 h=>?_))))
 refine aQ (Y:=Unit×(Int×Int)) (fun (_,(v9,v10))=>[(0,pU v9),(2,pI v10)]) (fun (_,(v9,v10))=>[]) (fun (_,(v9,v10))=>q11=(v9,v10)) ?_ ?_
 ·skip
  refine jg rfl hq11 (fun hc12 hq11=>?_) fun hc12 hq11=>?_
  ·refine ag ?_
   refine am [15,16] [(0,pU (cg .u64 v5 8))] (by kernel_rfl) (az (am [17,18] [(2,pI (IntKind.i64.wrap (v6+8)))] (by kernel_rfl) ?_))
   obtain rfl:=osi hq11
   exact aq ((),((cg .u64 v5 8),(IntKind.i64.wrap (v6+8)))) (oM rfl) be rfl
  refine ap ?_
  obtain rfl:=osi hq11
  exact aq ((),(v5,v6)) (oM rfl) be rfl
 rintro ⟨_,⟨v9,v10⟩⟩ τ hz;(try dsimp only at hz);subst q11;(try dsimp only at h);dsimp only [aT]
 refine ag (ae h fun c13 hc13 h=>?_)
 refine cK h ?_;clear h;intro w14 hw14 h
 refine aj (br 6 [] (rg 19 5) [(24,pI (IntKind.i64.wrap (v10+(IntKind.i64.wrap (c13.toNat:Int)))))] (fosx 3 (s:=(⟨#[0,1,2,2,3,3,3,3,4,4,4,4,4,4,4,4,5,5,5,5,5,5,5,5,5,5,5,5,5,5,5,5,6,6,6,6,6,6,6,6,6,6,6,6,6,6,6,6,6,6,6,6,6,6,6,6,6,6,6,6,6,6,6,6,7,7,7,7,7,7,7,7,7,7,7,7,7,7,7,7,7,7,7,7,7,7,7,7,7,7,7,7,7,7,7,7,7,7,7,7,7,7,7,7,7,7,7,7,7,7,7,7,7,7,7,7,7,7,7,7,7,7,7,7,7,7,7,7,8,8,8,8,8,8,8,8,8,8,8,8,8,8,8,8,8,8,8,8,8,8,8,8,8,8,8,8,8,8,8,8,8,8,8,8,8,8,8,8,8,8,8,8,8,8,8,8,8,8,8,8,8,8,8,8,8,8,8,8,8,8,8,8,8,8,8,8,8,8,8,8,8,8,8,8,8,8,8,8,8,8,8,8,8,8,8,8,8,8,8,8,8,8,8,8,8,8,8,8,8,8,8,8,8,8,8,8,8,8,8,8,8,8,8,8,8,8,8,8,8,8,8,8,8,8,8,8]⟩:ByteArray)) hc13 bV) (by kernel_rfl) (bK rfl rfl rfl (bo rfl (.p (congrArg (fun z=>PV.v (Value.int .i64 z)) hw14))) (aH (ec ?_))))
 exact zz r h rfl
def gx (p0:Int):Option Int:=cond false ((fw (IntKind.u32.wrap p0)).bind fun x2=>some x2) ((ed p0).bind fun x3=>some x3)
theorem kn {p0:Int} {r:Int}  (h:gx p0=some r):PF 64 [pU p0] (pI r):=by
 unfold gx at h
 refine bC ?_
 refine aL Tryz.func64 rfl Tryz.ntmps64 Tryz.results64 rfl (ag (bi [2] (by kernel_rfl) (bx (jg rfl h (fun hc1 h=>?_) fun hc1 h=>?_))))
 ·refine ag ?_
  refine ae h fun x2 hx2 h=>aG [] [3,4,5] [(2,pI x2)] (cu 2 (jh hx2) bV) (by kernel_rfl) (gb ?_)
  exact zz r h rfl
 refine ap ?_
 refine bx (ae h fun x3 hx3 h=>aG [] [6,7] [(2,pI x3)] (cu 1 (f0 hx3) bV) (by kernel_rfl) (ec ?_))
 exact zz r h rfl
def f5 (p0:(List Int)):Option Int:=(bs (S:=Int) (T:=(Unit)⊕(_)) (fun v1=>cond (decide (v1<(p0.length:Int))) ((idx p0 v1).bind fun m5=>cond (m5 != 0) (some (.inr (.inr m5))) (some (.inl (IntKind.i64.wrap (v1+1))))) (some (.inr (.inl ())))) FUEL 0).bind fun q=>match q with | .inl _=>some (0:Int) | .inr e=>some e
theorem mr {p0:(List Int)} {r:Int}  (h:f5 p0=some r):PF 33 [pL eI p0] (pI r):=by
 unfold f5 at h
 refine bC ?_
 refine aL Tryz.func33 rfl Tryz.ntmps33 Tryz.results33 rfl (ag (bi [2] (by kernel_rfl) (bx (ar [(3,pI 0)] (by kernel_rfl) (dE (ar [(6,pL eI p0),(7,pI (p0.length:Int)),(8,pI 0)] (by kernel_rfl) (az (ae h fun q3 hq3 h=>?_))))))))
 refine aQ (Y:=Unit×Unit) (fun (_,_)=>[(3,pI 0)]) (fun (_,_)=>[]) (fun (_,_)=>q3=Sum.inl ()) ?_ ?_
 ·refine aA ?_
  refine bf (Y:=Unit) (S:=Int) _ hq3 (fun _ v1=>[(3,pI 0),(6,pL eI p0),(7,pI (p0.length:Int)),(8,pI v1)]) (fun _ v1=>[]) () (kO rfl) be ?_
  rintro _ v1 o τ hb2;(try dsimp only at hb2);dsimp only [aT]
  refine ag (ar [(9,pB (decide (v1<(p0.length:Int))))] (by kernel_rfl) (bx (jg rfl hb2 (fun hc4 hb2=>?_) fun hc4 hb2=>?_)))
  ·refine ap ?_
   refine bx (aA (ag (ae hb2 fun m5 hm5 hb2=>aG [] [10,11] [(5,pI m5)] (gu 0 eI hm5 bV) (by kernel_rfl) (bx (am [12,13] [(14,pB (m5 != 0))] (by kernel_rfl) (cZ rfl hb2 (fun hc6 hb2=>?_) fun hc6 hb2=>?_))))))
   ·refine ag ?_
    refine am [15] [(2,pI m5)] (by kernel_rfl) (ec (aB (aU ?_)))
    refine bE hb2 (fun ht=>?_);subst ht
    refine aB (bz ?_)
    exact zz r h rfl
   refine ap ?_
   refine av (az (am [16] [(8,pI (IntKind.i64.wrap (v1+1)))] (by kernel_rfl) ?_))
   exact bN hb2 () (kO rfl) be
  refine bk ?_
  refine aV (aM hb2 (fun ht=>aR rfl ?_))
  exact aq ((),()) (zh1 rfl) be ht.symm
 rintro ⟨_,_⟩ τ hz;(try dsimp only at hz);subst q3;(try dsimp only at h);dsimp only [aT]
 refine ag (am [17] [(2,pI 0)] (by kernel_rfl) (ec ?_))
 exact zz r h rfl
def dZ (p0:Int):Option Bool:=some (p0 != p0)
theorem gI {p0:Int} {r:Bool}  (h:dZ p0=some r):PF 65 [pI p0] (pB r):=by
 unfold dZ at h
 refine bC ?_
 refine aL Tryz.func65 rfl Tryz.ntmps65 Tryz.results65 rfl (ag (bi [2] (by kernel_rfl) (bx (am [3,4,5] [(2,pB (p0 != p0))] (by kernel_rfl) (ec ?_)))))
 exact zz r h rfl
def cy (p0:Int) (p1:Int):Option Int:=(dZ p0).bind fun x1=>(dZ p1).bind fun x2=>cond x1 (cond x2 (some (0:Int)) (some (-1))) (cond x2 (some (1:Int)) (cond (decide (p0<p1)) (some (-1)) (cond (decide (p1<p0)) (some (1:Int)) (some (0:Int)))))
theorem eg {p0:Int} {p1:Int} {r:Int}  (h:cy p0 p1=some r):PF 34 [pI p0,pI p1] (pI r):=by
 unfold cy at h
 refine bC ?_
 refine aL Tryz.func34 rfl Tryz.ntmps34 Tryz.results34 rfl (ag (bi [4] (by kernel_rfl) (bx (ae h fun x1 hx1 h=>aG [] [7,8] [(5,pB x1)] (cu 1 (gI hx1) bV) (by kernel_rfl) (bx (ae h fun x2 hx2 h=>aG [] [9,10] [(6,pB x2)] (cu 1 (gI hx2) bV) (by kernel_rfl) (dE (ar [(11,pB x1)] (by kernel_rfl) (cZ rfl h (fun hc3 h=>?_) fun hc3 h=>?_)))))))))
 ·refine ag ?_
  refine ag (ar [(12,pB x2)] (by kernel_rfl) (cZ rfl h (fun hc4 h=>?_) fun hc4 h=>?_))
  ·refine ag ?_
   refine ar [(4,pI 0)] (by kernel_rfl) (gb (aU ?_))
   exact zz r h rfl
  refine ap ?_
  refine bx (ar [(4,pI (-1))] (by kernel_rfl) (gb ?_))
  exact zz r h rfl
 refine ap ?_
 refine dE (ar [(13,pB x2)] (by kernel_rfl) (cZ rfl h (fun hc5 h=>?_) fun hc5 h=>?_))
 ·refine ag ?_
  refine ar [(4,pI 1)] (by kernel_rfl) (gb ?_)
  exact zz r h rfl
 refine ap ?_
 refine dE (am [14,15] [(16,pB (decide (p0<p1)))] (by kernel_rfl) (cZ rfl h (fun hc6 h=>?_) fun hc6 h=>?_))
 ·refine ag ?_
  refine ar [(4,pI (-1))] (by kernel_rfl) (gb ?_)
  exact zz r h rfl
 refine ap ?_
 refine dE (am [17,18] [(19,pB (decide (p1<p0)))] (by kernel_rfl) (cZ rfl h (fun hc7 h=>?_) fun hc7 h=>?_))
 ·refine ag ?_
  refine ar [(4,pI 1)] (by kernel_rfl) (gb ?_)
  exact zz r h rfl
 refine ap ?_
 refine bx (ar [(4,pI 0)] (by kernel_rfl) (ec ?_))
 exact zz r h rfl
def di (p0:Zc) (p1:Zc):Option Int:=(cy p0.kind p1.kind).bind fun x3=>(cy p0.measure p1.measure).bind fun x4=>(f5 [x3,x4]).bind fun x6=>some x6
theorem hU {p0:Zc} {p1:Zc} {r:Int}  (h:di p0 p1=some r):PF 32 [.agg [pI p0.kind,pI p0.measure],.agg [pI p1.kind,pI p1.measure]] (pI r):=by
 unfold di at h
 refine bC ?_
 refine aL Tryz.func32 rfl Tryz.ntmps32 Tryz.results32 rfl (ag (aj (aK rfl (bY (cs:=[pI p0.kind,pI p0.measure]) rfl rfl (fun b1=>aK rfl (bY (cs:=[pI p1.kind,pI p1.measure]) rfl rfl (fun b2=>cb [4] (by kernel_rfl) (bx (cF (ρd:=[]) [(0,0),(1,0),(2,0),(3,0),(5,0),(6,0),(7,0),(8,0),(4,1),(9,1),(10,1),(11,1),(12,0)] _ (List.Perm.refl _) (by kernel_rfl) rfl (ae h fun x3 hx3 h=>ae h fun x4 hx4 h=>cL 10 [1,0,1,0] [5,6,7,8,10,11,12,13] [(9,pI x3),(14,pI x4)] (cu 8 (eg hx3) (cu 9 (eg hx4) bV)) (by kernel_rfl) ?_))))))))))
 refine iZ rfl rfl rfl (pl_fz (aS rfl rfl rfl rfl rfl (dA rfl (dA rfl dH)) rfl rfl rfl rfl (fun b5=>⟨_,_,_,_,_,_,_,rfl,by (repeat (first | exact aF | apply aC)),?_⟩)))
 refine ae h fun x6 hx6 h=>cL 2 [] [16] [(4,pI x6)] (cu 0 (mr hx6) bV) (by kernel_rfl) (dv (ec ?_))
 exact zz r h rfl
def dF (p0:(List Za)) (p1:(List Za)):Option Bool:=cond ((p0.length:Int) != (p1.length:Int)) (some false) ((bs (S:=Int) (T:=(Unit)⊕(_)) (fun v2=>cond (decide (v2<(p0.length:Int))) ((idx p0 v2).bind fun m6=>(idx p1 v2).bind fun m7=>cond (!(Za.eqb m6 m7)) (some (.inr (.inr false))) (some (.inl (IntKind.i64.wrap (v2+1))))) (some (.inr (.inl ())))) FUEL 0).bind fun q=>match q with | .inl _=>some true | .inr e=>some e)
theorem ji {p0:(List Za)} {p1:(List Za)} {r:Bool}  (h:dF p0 p1=some r):PF 10 [pL Za.enc p0,pL Za.enc p1] (pB r):=by
 unfold dF at h
 refine bC ?_
 refine aL Tryz.func10 rfl Tryz.ntmps10 Tryz.results10 rfl (ag (bi [4] (by kernel_rfl) (dE (am [6,7,8,9] [(10,pB ((p0.length:Int) != (p1.length:Int)))] (by kernel_rfl) (cZ rfl h (fun hc1 h=>?_) fun hc1 h=>?_)))))
 ·refine ag ?_
  refine ar [(4,pB false)] (by kernel_rfl) (gb ?_)
  exact zz r h rfl
 refine ap ?_
 refine dE (ar [(5,pI 0)] (by kernel_rfl) (az (ae h fun q4 hq4 h=>?_)))
 refine aQ (Y:=Unit×Unit) (fun (_,_)=>[]) (fun (_,_)=>[]) (fun (_,_)=>q4=Sum.inl ()) ?_ ?_
 ·refine aA ?_
  refine bf (Y:=Unit) (S:=Int) _ hq4 (fun _ v2=>[(0,pL Za.enc p0),(1,pL Za.enc p1),(5,pI v2)]) (fun _ v2=>[]) () (s5 rfl) be ?_
  rintro _ v2 o τ hb3;(try dsimp only at hb3);dsimp only [aT]
  refine ag (ag (am [11,12,13] [(14,pB (decide (v2<(p0.length:Int))))] (by kernel_rfl) (cZ rfl hb3 (fun hc5 hb3=>?_) fun hc5 hb3=>?_)))
  ·refine ap ?_
   refine bx (aA (ag (cF (ρd:=[]) [(0,0),(1,0),(2,0),(3,0),(4,0),(5,0),(6,0),(7,0),(8,0)] _ (List.Perm.refl _) (by kernel_rfl) rfl (ae hb3 fun m6 hm6 hb3=>ae hb3 fun m7 hm7 hb3=>cL 9 [] (rg 17 8) [(25,pB (!(Za.eqb m6 m7)))] (gu 2 Za.enc hm6 (gu 6 Za.enc hm7 (foeq 8 Za.eqok37 bV))) (by kernel_rfl) (dv (cZ rfl hb3 (fun hc8 hb3=>?_) fun hc8 hb3=>?_))))))
   ·refine ag ?_
    refine ar [(4,pB false)] (by kernel_rfl) (ec (aB (aU ?_)))
    refine bE hb3 (fun ht=>?_);subst ht
    refine aB (bz ?_)
    exact zz r h rfl
   refine ap ?_
   refine av (az (am [15,16] [(5,pI (IntKind.i64.wrap (v2+1)))] (by kernel_rfl) ?_))
   exact bN hb3 () (s5 rfl) be
  refine bk ?_
  refine aV (aM hb3 (fun ht=>aR rfl ?_))
  exact aq ((),()) bX be ht.symm
 rintro ⟨_,_⟩ τ hz;(try dsimp only at hz);subst q4;(try dsimp only at h);dsimp only [aT]
 refine ag (ar [(4,pB true)] (by kernel_rfl) (ec ?_))
 exact zz r h rfl
def ey (p0:(List Za)) (p1:Za) (p2:Int):Option (List Za):=(bs (S:=Int) (T:=(Int)) (fun v2=>(gd (decide (v2<((p0.length:Nat):Int))) (idx p0 v2)).bind fun m7=>(gd ((decide (v2<((p0.length:Nat):Int)))&&(!(decide (m7.Kind<p1.Kind)))) (idx p0 v2)).bind fun m8=>(gd (((decide (v2<((p0.length:Nat):Int)))&&(!(decide (m7.Kind<p1.Kind))))&&(m8.Kind == p1.Kind)) (idx p0 v2)).bind fun m9=>cond ((decide (v2<((p0.length:Nat):Int)))&&((decide (m7.Kind<p1.Kind))||((m8.Kind == p1.Kind)&&(decide (m9.Measure<p1.Measure))))) (some (.inl (IntKind.i64.wrap (v2+1)))) (some (.inr v2))) FUEL 0).bind fun v4=>(gd (!(v4 == ((p0.length:Nat):Int))) (idx p0 v4)).bind fun m11=>(gd (!((v4 == ((p0.length:Nat):Int))||(m11.Kind != p1.Kind))) (idx p0 v4)).bind fun m12=>Option.bind (cond (((v4 == ((p0.length:Nat):Int))||(m11.Kind != p1.Kind))||(m12.Measure != p1.Measure)) ((sub p0 0 v4).bind fun l19=>(sub p0 v4 (p0.length:Int)).bind fun l20=>(app 40 ([]:List Za) l19).bind fun l23=>(app 40 l23 [(⟨p1.Kind,p1.Measure,0,0,0⟩:Za)]).bind fun l29=>(app 40 l29 l20).bind fun l33=>some l33) (some p0)) (fun l16=>(idx l16 v4).bind fun m39=>(idx l16 v4).bind fun m40=>some (l16.set v4.toNat (⟨m40.Kind,m40.Measure,m40.Quantity,m40.Value,(IntKind.i64.wrap (m39.Amount+(IntKind.i64.wrap (p2*p1.Amount))))⟩:Za)))
theorem jS {p0:(List Za)} {p1:Za} {p2:Int} {a_0:Option Addr}  {n_0:Nat}  {c_0:Nat} {r:(List Za)}  (h:ey p0 p1 p2=some r):PCall 35 [.v (.slice a_0 n_0 c_0),.agg (bU p1),pI p2] [PRes.row a_0 n_0 c_0 37 5 (List.map Za.enc p0)] (fun pv ρ'=>∃ a c,pv=.v (.slice a r.length c)∧ρ'=[PRes.row a r.length c 37 5 (List.map Za.enc r)]):=by
 unfold ey at h
 refine aL Tryz.func35 rfl Tryz.ntmps35 Tryz.results35 rfl ?_
 refine cW (enc:=Za.enc) (xs:=p0) (a:=a_0) gc (fun hl ha=>?_);subst hl;clear ha
 refine ag (aj (aK rfl (bY (cs:=(bU p1)) rfl rfl (fun b1=>cb [6] (by kernel_rfl) (bx (ar [(7,pI 0)] (by kernel_rfl) (bx (ae h fun q6 hq6 h=>?_))))))))
 refine aQ (Y:=Unit×Int) (fun (_,v4)=>[(0,pO a_0 p0.length c_0),(2,pI p2),(4,pP b1 0),(7,pI v4)]) (fun (_,v4)=>[PRes.b b1 37 (bU p1),PRes.row a_0 p0.length c_0 37 5 (List.map Za.enc p0)]) (fun (_,v4)=>q6=v4) ?_ ?_
 ·refine aA ?_
  refine bf (Y:=Unit) (S:=Int) _ hq6 (fun _ v2=>[(0,pO a_0 p0.length c_0),(2,pI p2),(4,pP b1 0),(7,pI v2)]) (fun _ v2=>[PRes.b b1 37 (bU p1),PRes.row a_0 p0.length c_0 37 5 (List.map Za.enc p0)]) () (kO rfl) zs2 ?_
  rintro _ v2 o τ hb5;(try dsimp only at hb5);dsimp only [aT]
  refine ag (ag (cF (ρd:=[]) [(0,0),(1,0),(2,0),(3,0),(4,0),(5,0),(6,0),(7,0),(8,0),(9,0),(10,0),(11,0),(12,0),(13,0),(14,0),(15,0),(16,0),(17,0),(18,0),(19,0),(20,0),(21,0),(22,0),(23,0),(24,0),(25,0),(26,0),(27,0),(28,0),(29,0),(30,0),(31,0),(32,0),(33,0)] _ (List.Perm.refl _) (by kernel_rfl) rfl (ae hb5 fun m7 hm7 hb5=>jR 7 [8,9,10,11] [(12,pB (decide (v2<((p0.length:Nat):Int)))),(13,pgv (decide (v2<((p0.length:Nat):Int))) (pO a_0 p0.length c_0)),(14,pgv (decide (v2<((p0.length:Nat):Int))) (pI v2))] (by kernel_rfl) (bG (dj rfl rfl rfl) rfl rfl (cn (enc:=Za.enc) (xs:=p0) rfl rfl rfl (.g rfl) rK (.g rfl) (dU hm7)) (bG (dj rfl rfl rfl) rfl rfl (a8 rfl rfl rfl rfl rfl (.g rfl)) (bG (dj rfl rfl rfl) rfl rfl (bR (sz:=5) (p:=pI m7.Kind) (enc:=Za.enc) (xs:=p0) (a:=a_0) v2 0 m7 rfl (.g rfl) rfl rK (dU hm7) rfl) (lW 2 [0] [18] [(19,pgv (decide (v2<((p0.length:Nat):Int))) (pI p1.Kind))] (by kernel_rfl) (bG (dj rfl rfl rfl) rfl rfl (jb rfl (.g rfl) (.g rfl) rfl) (bG (dj rfl rfl rfl) rfl rfl (bm (p:=pB (decide (m7.Kind<p1.Kind))) rfl (.g rfl)) (bG (dl rfl rfl rfl) rfl rfl (bm (p:=pO a_0 p0.length c_0) rfl (.p rfl)) (bG (dl rfl rfl rfl) rfl rfl (bm (p:=pI v2) rfl (.p rfl)) (ae hb5 fun m8 hm8 hb5=>bG (dl rfl rfl rfl) rfl rfl (cn (enc:=Za.enc) (xs:=p0) rfl rfl rfl (.g rfl) rK (.g rfl) (dU hm8)) (bG (dl rfl rfl rfl) rfl rfl (a8 rfl rfl rfl rfl rfl (.g rfl)) (bG (dl rfl rfl rfl) rfl rfl (bR (sz:=5) (p:=pI m8.Kind) (enc:=Za.enc) (xs:=p0) (a:=a_0) v2 0 m8 rfl (.g rfl) rfl rK (dU hm8) rfl) (bG (dl rfl rfl rfl) rfl rfl (a8 rfl rfl rfl rfl rfl (.p rfl)) (bG (dl rfl rfl rfl) rfl rfl (cC (p:=pI p1.Kind) rfl (.g rfl) gc rfl) (bG (dl rfl rfl rfl) rfl rfl (jb rfl (.g rfl) (.g rfl) rfl) (bG (dl rfl rfl rfl) rfl rfl (bm (p:=pB (m8.Kind == p1.Kind)) rfl (.g rfl)) (bG (dS rfl rfl rfl) rfl rfl (bm (p:=pO a_0 p0.length c_0) rfl (.p rfl)) (bG (dS rfl rfl rfl) rfl rfl (bm (p:=pI v2) rfl (.p rfl)) (ae hb5 fun m9 hm9 hb5=>bG (dS rfl rfl rfl) rfl rfl (cn (enc:=Za.enc) (xs:=p0) rfl rfl rfl (.g rfl) rK (.g rfl) (dU hm9)) (bG (dS rfl rfl rfl) rfl rfl (a8 rfl rfl rfl rfl rfl (.g rfl)) (bG (dS rfl rfl rfl) rfl rfl (bR (sz:=5) (p:=pI m9.Measure) (enc:=Za.enc) (xs:=p0) (a:=a_0) v2 1 m9 rfl (.g rfl) rfl rK (dU hm9) rfl) (bG (dS rfl rfl rfl) rfl rfl (a8 rfl rfl rfl rfl rfl (.p rfl)) (bG (dS rfl rfl rfl) rfl rfl (cC (p:=pI p1.Measure) rfl (.g rfl) gc rfl) (bG (dS rfl rfl rfl) rfl rfl (jb rfl (.g rfl) (.g rfl) rfl) (bG (dl rfl rfl rfl) rfl rfl (nC rfl (.g rfl) (.p rfl) (.g rfl)) (bG (dj rfl rfl rfl) rfl rfl (qO rfl (.g rfl) (.p rfl) (.g rfl)) (mJ rfl rfl rfl (nC rfl (.p rfl) (.p rfl) (.g rfl)) (dv (cZ rfl hb5 (fun hc10 hb5=>?_) fun hc10 hb5=>?_)))))))))))))))))))))))))))))))
  ·refine ap ?_
   refine az (aA (am [42,43] [(7,pI (IntKind.i64.wrap (v2+1)))] (by kernel_rfl) (av ?_)))
   exact bN hb5 () (kO rfl) zs2
  refine bk ?_
  refine aV (aM hb5 (fun ht=>aR rfl ?_))
  exact aq ((),v2) (kO rfl) zs2 ht.symm
 rintro ⟨_,v4⟩ τ hz;(try dsimp only at hz);subst q6;(try dsimp only at h);dsimp only [aT]
 refine ag (ag (cF (ρd:=[]) [(0,0),(1,0),(2,0),(3,0),(4,0),(5,0),(6,0),(7,0),(8,0),(9,0),(10,0),(11,0),(12,0),(13,0),(14,0),(15,0),(16,0),(17,0),(18,0),(19,0),(20,0),(21,0),(22,0),(23,0)] _ (List.Perm.refl _) (by kernel_rfl) rfl (ae h fun m11 hm11 h=>jR 7 [44,45,46,47] [(48,pB (v4 == ((p0.length:Nat):Int))),(49,pgv (!(v4 == ((p0.length:Nat):Int))) (pO a_0 p0.length c_0)),(50,pgv (!(v4 == ((p0.length:Nat):Int))) (pI v4))] (by kernel_rfl) (bG (eG rfl rfl rfl) rfl rfl (cn (enc:=Za.enc) (xs:=p0) rfl rfl rfl (.g rfl) rK (.g rfl) (dU hm11)) (bG (eG rfl rfl rfl) rfl rfl (a8 rfl rfl rfl rfl rfl (.g rfl)) (bG (eG rfl rfl rfl) rfl rfl (bR (sz:=5) (p:=pI m11.Kind) (enc:=Za.enc) (xs:=p0) (a:=a_0) v4 0 m11 rfl (.g rfl) rfl rK (dU hm11) rfl) (lW 2 [0] [54] [(55,pgv (!(v4 == ((p0.length:Nat):Int))) (pI p1.Kind))] (by kernel_rfl) (bG (eG rfl rfl rfl) rfl rfl (jb rfl (.g rfl) (.g rfl) rfl) (mJ rfl rfl rfl (qO rfl (.p rfl) (.p rfl) (.g rfl)) (ae h fun m12 hm12 h=>jQ 3 [(58,pB ((v4 == ((p0.length:Nat):Int))||(m11.Kind != p1.Kind))),(59,pgv (!((v4 == ((p0.length:Nat):Int))||(m11.Kind != p1.Kind))) (pO a_0 p0.length c_0)),(60,pgv (!((v4 == ((p0.length:Nat):Int))||(m11.Kind != p1.Kind))) (pI v4))] (by kernel_rfl) (bG (eG rfl rfl rfl) rfl rfl (cn (enc:=Za.enc) (xs:=p0) rfl rfl rfl (.g rfl) rK (.g rfl) (dU hm12)) (bG (eG rfl rfl rfl) rfl rfl (a8 rfl rfl rfl rfl rfl (.g rfl)) (bG (eG rfl rfl rfl) rfl rfl (bR (sz:=5) (p:=pI m12.Measure) (enc:=Za.enc) (xs:=p0) (a:=a_0) v4 1 m12 rfl (.g rfl) rfl rK (dU hm12) rfl) (lW 2 [0] [64] [(65,pgv (!((v4 == ((p0.length:Nat):Int))||(m11.Kind != p1.Kind))) (pI p1.Measure))] (by kernel_rfl) (bG (eG rfl rfl rfl) rfl rfl (jb rfl (.g rfl) (.g rfl) rfl) (mJ rfl rfl rfl (qO rfl (.p rfl) (.p rfl) (.g rfl)) (dv (az (ae h fun q17 hq17 h=>?_)))))))))))))))))))
 refine aQ (Y:=(Option Addr×Nat)×((List Za))) (fun ((a14,c15),l16)=>[(0,pO a14 l16.length c15),(2,pI p2),(4,pP b1 0),(7,pI v4)]) (fun ((a14,c15),l16)=>[PRes.b b1 37 (bU p1),PRes.row a14 l16.length c15 37 5 (List.map Za.enc l16)]) (fun ((a14,c15),l16)=>q17=l16) ?_ ?_
 ·skip
  refine jg rfl hq17 (fun hc18 hq17=>?_) fun hc18 hq17=>?_
  ·refine fi (enc:=Za.enc) (xs:=p0) 0 rfl (by exact aC aF) ?_
   refine cF (ρd:=[]) [(1,0),(2,0),(3,0),(5,0),(6,0),(7,0),(8,0),(9,0),(10,3),(12,0),(13,0),(14,0),(0,1),(4,1),(10,2),(11,1),(15,1),(16,0)] _ (List.Perm.refl _) (by kernel_rfl) rfl (ae hq17 fun l19 hl19 hq17=>cL 7 [1,1] [69,70,73,75] [(71,pL Za.enc l19),(74,pI p1.Kind),(76,pI p1.Measure)] (fosl 2 Za.enc 5 (fun _=>rfl) hl19 bV) (by kernel_rfl) (mJ rfl rfl rfl (ak (cs:=[pI p1.Kind,pI p1.Measure,pI 0,pI 0,pI 0]) rfl rfl rfl rfl rfl rfl rfl (bO rfl rfl rfl rfl rL (bO rfl rfl rfl rfl (aI rL) bQ))) (oE (iN rfl rfl rfl rfl rfl (dA rfl dH) rfl rfl rfl) (ae hq17 fun l20 hl20 hq17=>cL 3 [] [80,81] [(82,pL Za.enc l20)] (fosl 2 Za.enc 5 (fun _=>rfl) hl20 bV) (by kernel_rfl) (iZ rfl rfl rfl (aS rfl rfl rfl rfl rfl dH rfl rfl rfl rfl (fun b21=>ae hq17 fun l23 hl23 hq17=>?_)))))))
   refine iZ rfl rfl rfl (al (enc:=Za.enc) rfl rfl rfl rfl rfl (fun _=>rfl) rfl rfl rfl (by exact aF) hl23 (fun a24 c25=>?_))
   refine lD (iN rfl rfl rfl rfl rfl (dA rfl dH) rfl rfl rfl) (fun _=>rfl) rfl (fun b27=>ae hq17 fun l29 hl29 hq17=>?_)
   refine iZ rfl rfl rfl (oD (enc:=Za.enc) rfl rfl rfl rfl rfl (fun _=>rfl) rfl rfl rfl rfl gc rfl (by exact aC aF) hl29 (fun a30 c31=>?_))
   refine ae hq17 fun l33 hl33 hq17=>?_
   refine iZ rfl rfl rfl (al (enc:=Za.enc) rfl rfl rfl rfl rfl (fun _=>rfl) rfl rfl rfl (by exact aF) hl33 (fun a34 c35=>?_))
   refine jQ 1 [(0,pO a34 l33.length c35)] (by kernel_rfl) (dv ?_)
   obtain rfl:=osi hq17
   exact aq ((a34,c35),l33) (kO rfl) (bv (aC (aC (aC aF))) fK) rfl
  refine ap ?_
  obtain rfl:=osi hq17
  exact aq ((a_0,c_0),p0) (kO rfl) zs2 rfl
 rintro ⟨⟨a14,c15⟩,l16⟩ τ hz;(try dsimp only at hz);subst q17;(try dsimp only at h);dsimp only [aT]
 refine ag (cW (enc:=Za.enc) (xs:=l16) (a:=a14) rK (fun hl37 ha38=>ae h fun m39 hm39 h=>ae h fun m40 hm40 h=>eV (ρd:=[PRes.row a14 _ _ _ _ _]) _ (bM (aC aF) (List.Perm.refl _)) (au 0 (by kernel_rfl) rfl rfl rfl rfl (bm (p:=pO a14 l16.length c15) rfl (.p rfl)) (au 1 (by kernel_rfl) rfl rfl rfl rfl (bm (p:=pI v4) rfl (.p rfl)) (au 2 (by kernel_rfl) rfl rfl rfl rfl (bm (p:=pO a14 l16.length c15) rfl (.p rfl)) (au 3 (by kernel_rfl) rfl rfl rfl rfl (bm (p:=pI v4) rfl (.p rfl)) ?_))))))
 refine au 4 (by kernel_rfl) rfl rfl rfl rfl (cT (xs:=l16) (by first | exact hl37 | rfl | (simp only [List.length_set];exact hl37) | simp only [List.length_set]) ha38 rfl rfl rfl (.p rfl) (.p rfl) (fun _=>hm39)) ?_
 refine au 5 (by kernel_rfl) rfl rfl rfl rfl (a8 rfl rfl rfl rfl rfl (.p rfl)) (au 7 (by kernel_rfl) rfl rfl rfl rfl (bm (p:=pI p2) rfl (.p rfl)) (au 8 (by kernel_rfl) rfl rfl rfl rfl (a8 rfl rfl rfl rfl rfl (.p rfl)) (au 9 (by kernel_rfl) rfl rfl rfl rfl (cC (p:=pI p1.Amount) rfl (.p rfl) gc rfl) (au 10 (by kernel_rfl) rfl rfl rfl rfl (fY rfl (.p rfl) (.p rfl) rfl) (aa 6 (by kernel_rfl) (af rfl rfl rfl rfl (kN (bR (sz:=5) (p:=pI m39.Amount) (enc:=Za.enc) (xs:=l16) (a:=a14) v4 4 m39 rfl (.p rfl) rfl gc (fun _=>hm39) rfl) (au 11 (by kernel_rfl) rfl rfl rfl rfl (fY rfl (.p rfl) (.p rfl) rfl) ?_))))))))
 refine au 12 (by kernel_rfl) rfl rfl rfl rfl (cT (xs:=l16) (by first | exact hl37 | rfl | (simp only [List.length_set];exact hl37) | simp only [List.length_set]) ha38 rfl rfl rfl (.p rfl) (.p rfl) (fun _=>hm40)) ?_
 refine au 13 (by kernel_rfl) rfl rfl rfl rfl (a8 rfl rfl rfl rfl rfl (.p rfl)) (aa 14 (by kernel_rfl) (ai rfl rfl rfl (db (enc:=Za.enc) (xs:=l16) (a:=a14) v4 4 m40 (⟨m40.Kind,m40.Measure,m40.Quantity,m40.Value,(IntKind.i64.wrap (m39.Amount+(IntKind.i64.wrap (p2*p1.Amount))))⟩:Za) rfl rfl rfl rfl (fun _=>rfl) rfl rfl hm40 (aI (aI (aI (aI rL)))) aY (aw (by kernel_rfl) (bx (am [98] [(6,pO a14 l16.length c15)] (by kernel_rfl) (ec ?_)))))))
 obtain rfl:=osi h
 (try simp only [List.length_set])
 exact bg (iY (aZ rfl)) fK ⟨_,_,rfl,rfl⟩
def dq (p0:Zn) (p1:Zn):Option (List Za):=(bs (S:=(List Za)×Int) (T:=((List Za))) (fun (l4,v7)=>cond (decide (v7<(p0.Lines.length:Int))) ((idx p0.Lines v7).bind fun m16=>(ey l4 m16 (-1)).bind fun x17=>some (.inl (x17,(IntKind.i64.wrap (v7+1))))) (some (.inr l4))) FUEL (([]:List Za),0)).bind fun l11=>(bs (S:=(List Za)×Int) (T:=((List Za))) (fun (l22,v25)=>cond (decide (v25<(p1.Lines.length:Int))) ((idx p1.Lines v25).bind fun m33=>(ey l22 m33 1).bind fun x34=>some (.inl (x34,(IntKind.i64.wrap (v25+1))))) (some (.inr l22))) FUEL (l11,0)).bind fun l29=>(bs (S:=(List Za)×Int) (T:=((List Za))) (fun (l39,v42)=>cond (decide (v42<((l29.length:Nat):Int))) (((idx l29 v42).bind fun m57=>cond (m57.Amount != 0) ((idx l29 v42).bind fun m59=>(app 40 l39 [m59]).bind fun l62=>some l62) (some l39)).bind fun l55=>some (.inl (l55,(IntKind.i64.wrap (v42+1))))) (some (.inr l39))) FUEL (([]:List Za),0)).bind fun l46=>some l46
theorem iR {p0:Zn} {p1:Zn} {r:(List Za)}  (h:dq p0 p1=some r):PF 11 [.agg [pL Za.enc p0.Lines,pI p0.Total],.agg [pL Za.enc p1.Lines,pI p1.Total]] (pL Za.enc r):=by
 unfold dq at h
 refine bC ?_
 refine aL Tryz.func11 rfl Tryz.ntmps11 Tryz.results11 rfl (ag (aj (aK rfl (bY (cs:=[pL Za.enc p0.Lines,pI p0.Total]) rfl rfl (fun b1=>aK rfl (bY (cs:=[pL Za.enc p1.Lines,pI p1.Total]) rfl rfl (fun b2=>cb [4] (by kernel_rfl) (bx (ar [(5,pN),(6,pN)] (by kernel_rfl) (dE (ar [(7,pI 0)] (by kernel_rfl) (az (da 37 5 (ae h fun q13 hq13 h=>?_))))))))))))))
 refine aQ (Y:=(Option Addr×Nat)×((List Za))) (fun ((a9,c10),l11)=>[(3,pP b2 0),(5,pO a9 l11.length c10),(6,pN)]) (fun ((a9,c10),l11)=>[PRes.b b2 25 [pL Za.enc p1.Lines,pI p1.Total],PRes.row a9 l11.length c10 37 5 (List.map Za.enc l11)]) (fun ((a9,c10),l11)=>q13=l11) ?_ ?_
 ·refine aA ?_
  refine bf (Y:=Option Addr×Nat) (S:=(List Za)×Int) _ hq13 (fun (a5,c6) (l4,v7)=>[(2,pP b1 0),(3,pP b2 0),(5,pO a5 l4.length c6),(6,pN),(7,pI v7)]) (fun (a5,c6) (l4,v7)=>[PRes.b b1 25 [pL Za.enc p0.Lines,pI p0.Total],PRes.b b2 25 [pL Za.enc p1.Lines,pI p1.Total],PRes.row a5 l4.length c6 37 5 (List.map Za.enc l4)]) (none,0) (rM rfl) (bv (aC (aC aF)) (bv (aC aF) fK)) ?_
  rintro ⟨a5,c6⟩ ⟨l4,v7⟩ o τ hb12;(try dsimp only at hb12);dsimp only [aT]
  refine ag (ag (bc [0] [10,11,12,13] [(14,pB (decide (v7<(p0.Lines.length:Int))))] (by kernel_rfl) (cZ rfl hb12 (fun hc15 hb12=>?_) fun hc15 hb12=>?_)))
  ·refine ap ?_
   refine bx (aA (ae hb12 fun m16 hm16 hb12=>ae hb12 fun x17 hx17 hb12=>aj (br 6 [0] [18,19,20,21] [(17,pO a5 l4.length c6),(22,.agg (bU m16))] (gu 4 Za.enc hm16 bV) (by kernel_rfl) ?_)))
   refine aK rfl (dM rfl rfl (ρ1:=[_]) (bM (by exact aC (aC aF)) (List.Perm.refl _)) (jS hx17) ?_);rintro _ _ ⟨a18,c19,rfl,rfl⟩
   refine bB [(5,pO a18 x17.length c19)] (by kernel_rfl) (av (az (am [15,16] [(7,pI (IntKind.i64.wrap (v7+1)))] (by kernel_rfl) ?_)))
   exact bN hb12 (a18,c19) (rM rfl) (bv (aC aF) (bv (aC aF) fK))
  refine bk ?_
  refine aV (aM hb12 (fun ht=>aR rfl ?_))
  exact aq ((a5,c6),l4) (s5 rfl) (bv (aC aF) (bv (aC aF) be)) ht.symm
 rintro ⟨⟨a9,c10⟩,l11⟩ τ hz;(try dsimp only at hz);subst q13;(try dsimp only at h);dsimp only [aT]
 refine ag (ag (ar [(8,pI 0)] (by kernel_rfl) (az (ae h fun q31 hq31 h=>?_))))
 refine aQ (Y:=(Option Addr×Nat)×((List Za))) (fun ((a27,c28),l29)=>[(5,pO a27 l29.length c28),(6,pN)]) (fun ((a27,c28),l29)=>[PRes.row a27 l29.length c28 37 5 (List.map Za.enc l29)]) (fun ((a27,c28),l29)=>q31=l29) ?_ ?_
 ·refine aA ?_
  refine bf (Y:=Option Addr×Nat) (S:=(List Za)×Int) _ hq31 (fun (a23,c24) (l22,v25)=>[(3,pP b2 0),(5,pO a23 l22.length c24),(6,pN),(8,pI v25)]) (fun (a23,c24) (l22,v25)=>[PRes.b b2 25 [pL Za.enc p1.Lines,pI p1.Total],PRes.row a23 l22.length c24 37 5 (List.map Za.enc l22)]) (a9,c10) (kO rfl) zs2 ?_
  rintro ⟨a23,c24⟩ ⟨l22,v25⟩ o τ hb30;(try dsimp only at hb30);dsimp only [aT]
  refine ag (ag (bc [0] [24,25,26,27] [(28,pB (decide (v25<(p1.Lines.length:Int))))] (by kernel_rfl) (cZ rfl hb30 (fun hc32 hb30=>?_) fun hc32 hb30=>?_)))
  ·refine ap ?_
   refine bx (aA (ae hb30 fun m33 hm33 hb30=>ae hb30 fun x34 hx34 hb30=>aj (br 6 [0] [32,33,34,35] [(31,pO a23 l22.length c24),(36,.agg (bU m33))] (gu 4 Za.enc hm33 bV) (by kernel_rfl) ?_)))
   refine aK rfl (dM rfl rfl (ρ1:=[_]) (bM (by exact aC aF) (List.Perm.refl _)) (jS hx34) ?_);rintro _ _ ⟨a35,c36,rfl,rfl⟩
   refine bB [(5,pO a35 x34.length c36)] (by kernel_rfl) (av (az (am [29,30] [(8,pI (IntKind.i64.wrap (v25+1)))] (by kernel_rfl) ?_)))
   exact bN hb30 (a35,c36) (kO rfl) (bv (aC aF) fK)
  refine bk ?_
  refine aV (aM hb30 (fun ht=>aR rfl ?_))
  exact aq ((a23,c24),l22) (oM rfl) (bv (aC aF) be) ht.symm
 rintro ⟨⟨a27,c28⟩,l29⟩ τ hz;(try dsimp only at hz);subst q31;(try dsimp only at h);dsimp only [aT]
 refine ag (ag (ar [(9,pI 0)] (by kernel_rfl) (az (da 37 5 (ae h fun q48 hq48 h=>?_)))))
 refine aQ (Y:=(Option Addr×Nat)×((List Za))) (fun ((a44,c45),l46)=>[(6,pO a44 l46.length c45)]) (fun ((a44,c45),l46)=>[PRes.row a44 l46.length c45 37 5 (List.map Za.enc l46)]) (fun ((a44,c45),l46)=>q48=l46) ?_ ?_
 ·refine aA ?_
  refine bf (Y:=Option Addr×Nat) (S:=(List Za)×Int) _ hq48 (fun (a40,c41) (l39,v42)=>[(5,pO a27 l29.length c28),(6,pO a40 l39.length c41),(9,pI v42)]) (fun (a40,c41) (l39,v42)=>[PRes.row a27 l29.length c28 37 5 (List.map Za.enc l29),PRes.row a40 l39.length c41 37 5 (List.map Za.enc l39)]) (none,0) (s5 rfl) (bv (aC aF) fK) ?_
  rintro ⟨a40,c41⟩ ⟨l39,v42⟩ o τ hb47;(try dsimp only at hb47);dsimp only [aT]
  refine ag (ag (am [38,39,40] [(41,pB (decide (v42<((l29.length:Nat):Int))))] (by kernel_rfl) (cZ rfl hb47 (fun hc50 hb47=>?_) fun hc50 hb47=>?_)))
  ·refine ap ?_
   refine bx (ae hb47 fun q56 hq56 hb47=>?_)
   refine aQ (Y:=(Option Addr×Nat)×((List Za))) (fun ((a53,c54),l55)=>[(5,pO a27 l29.length c28),(6,pO a53 l55.length c54),(9,pI v42)]) (fun ((a53,c54),l55)=>[PRes.row a27 l29.length c28 37 5 (List.map Za.enc l29),PRes.row a53 l55.length c54 37 5 (List.map Za.enc l55)]) (fun ((a53,c54),l55)=>q56=l55) ?_ ?_
   ·skip
    refine aA (ag (ae hq56 fun m57 hm57 hq56=>aj (bp 2 [(44,pO a27 l29.length c28),(45,pI v42)] (by kernel_rfl) (bK rfl rfl rfl (cn (enc:=Za.enc) (xs:=l29) rfl rfl rfl (.p rfl) gc (.p rfl) (fun _=>hm57)) (bp 1 [(47,pP (nE a27) (v42.toNat * 5+4))] (by kernel_rfl) (bK rfl rfl rfl (bR (sz:=5) (p:=pI m57.Amount) (enc:=Za.enc) (xs:=l29) (a:=a27) v42 4 m57 rfl (.p rfl) rfl gc (fun _=>hm57) rfl) (bB [(49,pB (m57.Amount != 0))] (by kernel_rfl) (cZ rfl hq56 (fun hc58 hq56=>?_) fun hc58 hq56=>?_))))))))
    ·refine ae hq56 ?_;clear hq56;intro m59 hm59 hq56
     refine aj (bp 3 [(50,pO a40 l39.length c41),(51,pO a27 l29.length c28),(52,pI v42)] (by kernel_rfl) (bK rfl rfl rfl (cn (enc:=Za.enc) (xs:=l29) rfl rfl rfl (.p rfl) gc (.p rfl) (fun _=>hm59)) (bK rfl rfl rfl (bR (sz:=5) (p:=.agg (bU m59)) (enc:=Za.enc) (xs:=l29) (a:=a27) v42 0 m59 rfl (.p rfl) rfl gc (fun _=>hm59) rfl) (aK rfl (aS rfl rfl rfl rfl rfl (dA rfl dH) rfl rfl rfl rfl (fun b60=>ae hq56 fun l62 hl62 hq56=>?_))))))
     refine aK rfl (dY (enc:=Za.enc) rfl rfl rfl rfl rfl rfl rfl rfl rfl gc (by exact aC (aC aF)) hl62 (fun a63 c64=>?_))
     refine bB [(6,pO a63 l62.length c64)] (by kernel_rfl) (av ?_)
     obtain rfl:=osi hq56
     exact aq ((a63,c64),l62) (s5 rfl) (bv (aC (aC aF)) fK) rfl
    refine ap ?_
    refine av ?_
    obtain rfl:=osi hq56
    exact aq ((a40,c41),l39) (s5 rfl) zs2 rfl
   rintro ⟨⟨a53,c54⟩,l55⟩ τ hz;(try dsimp only at hz);subst q56;(try dsimp only at hb47);dsimp only [aT]
   refine am [42,43] [(9,pI (IntKind.i64.wrap (v42+1)))] (by kernel_rfl) ?_
   exact bN hb47 (a53,c54) (s5 rfl) zs2
  refine bk ?_
  refine aV (aM hb47 (fun ht=>aR rfl ?_))
  exact aq ((a40,c41),l39) (zh1 rfl) (bv (aC aF) be) ht.symm
 rintro ⟨⟨a44,c45⟩,l46⟩ τ hz;(try dsimp only at hz);subst q48;(try dsimp only at h);dsimp only [aT]
 refine ag (am [57] [(4,pO a44 l46.length c45)] (by kernel_rfl) (az ?_))
 refine fi (enc:=Za.enc) (xs:=l46) 4 rfl (by exact aF) ?_
 refine cV ?_
 exact zz r h rfl
def cX (p0:Int):Option Bool:=some ((decide (65≤p0))&&(decide (p0≤90)))
theorem ez {p0:Int} {r:Bool}  (h:cX p0=some r):PF 77 [pY p0] (pB r):=by
 unfold cX at h
 refine bC ?_
 refine aL Tryz.func77 rfl Tryz.ntmps77 Tryz.results77 rfl (ag (bi [2] (by kernel_rfl) (bx (am (rg 3 6) [(2,pB ((decide (65≤p0))&&(decide (p0≤90))))] (by kernel_rfl) (ec ?_)))))
 exact zz r h rfl
def cx (p0:ByteArray):Option Bool:=(gd ((p0.size:Int) == 2) (idx p0.data.toList 0)).bind fun c1=>(gd ((p0.size:Int) == 2) (cX (c1.toNat:Int))).bind fun x2=>(gd (((p0.size:Int) == 2)&&x2) (idx p0.data.toList 1)).bind fun c3=>(gd (((p0.size:Int) == 2)&&x2) (cX (c3.toNat:Int))).bind fun x4=>some ((((p0.size:Int) == 2)&&x2)&&x4)
theorem dO {p0:ByteArray} {r:Bool}  (h:cx p0=some r):PF 42 [pS p0] (pB r):=by
 unfold cx at h
 refine bC ?_
 refine aL Tryz.func42 rfl Tryz.ntmps42 Tryz.results42 rfl (ag (bi [2] (by kernel_rfl) (bx (ae h fun c1 hc1 h=>ae h fun x2 hx2 h=>ae h fun c3 hc3 h=>ae h fun x4 hx4 h=>aG [] (rg 3 13) [(2,pB ((((p0.size:Int) == 2)&&x2)&&x4))] (fosxg 5 (dU hc1) (i0 6 (fun hc=>ez (dU hx2 hc)) (fosxg 10 (dU hc3) (i0 11 (fun hc=>ez (dU hx4 hc)) bV)))) (by kernel_rfl) (ec ?_)))))
 exact zz r h rfl
def dP (p0:(List ByteArray)):Option Bool:=(bs (S:=Int) (T:=(Unit)⊕(_)) (fun v1=>cond (decide (v1<(p0.length:Int))) ((idx p0 v1).bind fun m5=>(cx m5).bind fun x6=>(gd ((!(!x6))&&(decide (0<v1))) (idx p0 (IntKind.i64.wrap (v1 - 1)))).bind fun m7=>cond ((!x6)||((decide (0<v1))&&(Op.bytesLess m5.toList m7.toList||decide (m5=m7)))) (some (.inr (.inr false))) (some (.inl (IntKind.i64.wrap (v1+1))))) (some (.inr (.inl ())))) FUEL 0).bind fun q=>match q with | .inl _=>some true | .inr e=>some e
theorem gJ {p0:(List ByteArray)} {r:Bool}  (h:dP p0=some r):PF 104 [pL eS p0] (pB r):=by
 unfold dP at h
 refine bC ?_
 refine aL Tryz.func104 rfl Tryz.ntmps104 Tryz.results104 rfl (ag (bi [2] (by kernel_rfl) (dE (ar [(5,pL eS p0),(6,pI (p0.length:Int)),(7,pI 0)] (by kernel_rfl) (az (ae h fun q3 hq3 h=>?_))))))
 refine aQ (Y:=Unit×Unit) (fun (_,_)=>[]) (fun (_,_)=>[]) (fun (_,_)=>q3=Sum.inl ()) ?_ ?_
 ·refine aA ?_
  refine bf (Y:=Unit) (S:=Int) _ hq3 (fun _ v1=>[(0,pL eS p0),(5,pL eS p0),(6,pI (p0.length:Int)),(7,pI v1)]) (fun _ v1=>[]) () (kO rfl) be ?_
  rintro _ v1 o τ hb2;(try dsimp only at hb2);dsimp only [aT]
  refine ag (ar [(8,pB (decide (v1<(p0.length:Int))))] (by kernel_rfl) (bx (jg rfl hb2 (fun hc4 hb2=>?_) fun hc4 hb2=>?_)))
  ·refine ap ?_
   refine bx (aA (ag (ae hb2 fun m5 hm5 hb2=>aG [] [9,10,11] [(3,pI v1),(4,pS m5)] (gu 1 eS hm5 bV) (by kernel_rfl) (bx (ae hb2 fun x6 hx6 hb2=>ae hb2 fun m7 hm7 hb2=>aG [] (rg 12 15) [(27,pB ((!x6)||((decide (0<v1))&&(Op.bytesLess m5.toList m7.toList||decide (m5=m7)))))] (cu 1 (dO hx6) (qX 11 eS (dU hm7) bV)) (by kernel_rfl) (cZ rfl hb2 (fun hc8 hb2=>?_) fun hc8 hb2=>?_))))))
   ·refine ag ?_
    refine ar [(2,pB false)] (by kernel_rfl) (ec (aB (aU ?_)))
    refine bE hb2 (fun ht=>?_);subst ht
    refine aB (bz ?_)
    exact zz r h rfl
   refine ap ?_
   refine av (az (am [28] [(7,pI (IntKind.i64.wrap (v1+1)))] (by kernel_rfl) ?_))
   exact bN hb2 () (kO rfl) be
  refine bk ?_
  refine aV (aM hb2 (fun ht=>aR rfl ?_))
  exact aq ((),()) bX be ht.symm
 rintro ⟨_,_⟩ τ hz;(try dsimp only at hz);subst q3;(try dsimp only at h);dsimp only [aT]
 refine ag (ar [(2,pB true)] (by kernel_rfl) (ec ?_))
 exact zz r h rfl
def fc (p0:Zo):Option Int:=cond ((((decide (p0.Rate<0))||(decide (10000000<p0.Rate)))||(decide (p0.Amount<0)))||(decide (100000000<p0.Amount))) (some (2:Int)) (cond (((decide (0<p0.Amount))&&((decide (p0.Per<1))||(decide (1000000<p0.Per))))||((p0.Amount == 0)&&(p0.Per != 0))) (some (2:Int)) (cond ((((decide (p0.Most<0))||(decide (10000000<p0.Most)))||(decide (p0.Least<0)))||(decide (10000000<p0.Least))) (some (2:Int)) (cond (((p0.Most != 0)&&(!p0.HasMost))||((p0.Least != 0)&&(!p0.HasLeast))) (some (1:Int)) (cond ((p0.HasMost&&p0.HasLeast)&&(decide (p0.Most<p0.Least))) (some (1:Int)) (some (0:Int))))))
theorem gK {p0:Zo} {r:Int}  (h:fc p0=some r):PF 105 [.agg [pI p0.Rate,pI p0.Amount,pI p0.Per,pB p0.HasMost,pI p0.Most,pB p0.HasLeast,pI p0.Least]] (pI r):=by
 unfold fc at h
 refine bC ?_
 refine aL Tryz.func105 rfl Tryz.ntmps105 Tryz.results105 rfl (ag (aj (aK rfl (bY (cs:=[pI p0.Rate,pI p0.Amount,pI p0.Per,pB p0.HasMost,pI p0.Most,pB p0.HasLeast,pI p0.Least]) rfl rfl (fun b1=>cb [2] (by kernel_rfl) (dE (bc [0,0,0,0] (rg 3 17) [(20,pB ((((decide (p0.Rate<0))||(decide (10000000<p0.Rate)))||(decide (p0.Amount<0)))||(decide (100000000<p0.Amount))))] (by kernel_rfl) (cZ rfl h (fun hc2 h=>?_) fun hc2 h=>?_))))))))
 ·refine ag ?_
  refine ar [(2,pI 2)] (by kernel_rfl) (gb ?_)
  exact zz r h rfl
 refine ap ?_
 refine dE (bc [0,0,0,0,0] (rg 21 22) [(43,pB (((decide (0<p0.Amount))&&((decide (p0.Per<1))||(decide (1000000<p0.Per))))||((p0.Amount == 0)&&(p0.Per != 0))))] (by kernel_rfl) (cZ rfl h (fun hc3 h=>?_) fun hc3 h=>?_))
 ·refine ag ?_
  refine ar [(2,pI 2)] (by kernel_rfl) (gb ?_)
  exact zz r h rfl
 refine ap ?_
 refine dE (bc [0,0,0,0] (rg 44 17) [(61,pB ((((decide (p0.Most<0))||(decide (10000000<p0.Most)))||(decide (p0.Least<0)))||(decide (10000000<p0.Least))))] (by kernel_rfl) (cZ rfl h (fun hc4 h=>?_) fun hc4 h=>?_))
 ·refine ag ?_
  refine ar [(2,pI 2)] (by kernel_rfl) (gb ?_)
  exact zz r h rfl
 refine ap ?_
 refine dE (bc [0,0,0,0] (rg 62 17) [(79,pB (((p0.Most != 0)&&(!p0.HasMost))||((p0.Least != 0)&&(!p0.HasLeast))))] (by kernel_rfl) (cZ rfl h (fun hc5 h=>?_) fun hc5 h=>?_))
 ·refine ag ?_
  refine ar [(2,pI 1)] (by kernel_rfl) (gb ?_)
  exact zz r h rfl
 refine ap ?_
 refine dE (bc [0,0,0,0] (rg 80 12) [(92,pB ((p0.HasMost&&p0.HasLeast)&&(decide (p0.Most<p0.Least))))] (by kernel_rfl) (cZ rfl h (fun hc6 h=>?_) fun hc6 h=>?_))
 ·refine ag ?_
  refine ar [(2,pI 1)] (by kernel_rfl) (gb ?_)
  exact zz r h rfl
 refine ap ?_
 refine bx (ar [(2,pI 0)] (by kernel_rfl) (ec ?_))
 exact zz r h rfl
def cG (p0:(List ByteArray)) (p1:ByteArray):Option Int:=(bs (S:=Int) (T:=(Unit)⊕(_)) (fun v1=>cond (decide (v1<(p0.length:Int))) ((idx p0 v1).bind fun m5=>cond (decide (p1=m5)) (some (.inr (.inr v1))) (some (.inl (IntKind.i64.wrap (v1+1))))) (some (.inr (.inl ())))) FUEL 0).bind fun q=>match q with | .inl _=>some (-1) | .inr e=>some e
theorem fk {p0:(List ByteArray)} {p1:ByteArray} {r:Int}  (h:cG p0 p1=some r):PF 158 [pL eS p0,pS p1] (pI r):=by
 unfold cG at h
 refine bC ?_
 refine aL Tryz.func158 rfl Tryz.ntmps158 Tryz.results158 rfl (ag (bi [4] (by kernel_rfl) (dE (am [6] [(7,pI (p0.length:Int)),(8,pI 0)] (by kernel_rfl) (az (ae h fun q3 hq3 h=>?_))))))
 refine aQ (Y:=Unit×Unit) (fun (_,_)=>[]) (fun (_,_)=>[]) (fun (_,_)=>q3=Sum.inl ()) ?_ ?_
 ·refine aA ?_
  refine bf (Y:=Unit) (S:=Int) _ hq3 (fun _ v1=>[(0,pL eS p0),(1,pS p1),(7,pI (p0.length:Int)),(8,pI v1)]) (fun _ v1=>[]) () (kO rfl) be ?_
  rintro _ v1 o τ hb2;(try dsimp only at hb2);dsimp only [aT]
  refine ag (ar [(9,pB (decide (v1<(p0.length:Int))))] (by kernel_rfl) (bx (jg rfl hb2 (fun hc4 hb2=>?_) fun hc4 hb2=>?_)))
  ·refine ap ?_
   refine bx (aA (ag (am [10] [(5,pI v1)] (by kernel_rfl) (bx (ae hb2 fun m5 hm5 hb2=>aG [] (rg 11 5) [(16,pB (decide (p1=m5)))] (gu 3 eS hm5 bV) (by kernel_rfl) (cZ rfl hb2 (fun hc6 hb2=>?_) fun hc6 hb2=>?_))))))
   ·refine ag ?_
    refine am [17] [(4,pI v1)] (by kernel_rfl) (ec (aB (aU ?_)))
    refine bE hb2 (fun ht=>?_);subst ht
    refine aB (bz ?_)
    exact zz r h rfl
   refine ap ?_
   refine av (az (am [18] [(8,pI (IntKind.i64.wrap (v1+1)))] (by kernel_rfl) ?_))
   exact bN hb2 () (kO rfl) be
  refine bk ?_
  refine aV (aM hb2 (fun ht=>aR rfl ?_))
  exact aq ((),()) bX be ht.symm
 rintro ⟨_,_⟩ τ hz;(try dsimp only at hz);subst q3;(try dsimp only at h);dsimp only [aT]
 refine ag (ar [(4,pI (-1))] (by kernel_rfl) (ec ?_))
 exact zz r h rfl
def cw (p0:(List ByteArray)) (p1:ByteArray):Option Bool:=(cG p0 p1).bind fun x1=>some (decide (0≤x1))
theorem eJ {p0:(List ByteArray)} {p1:ByteArray} {r:Bool}  (h:cw p0 p1=some r):PF 123 [pL eS p0,pS p1] (pB r):=by
 unfold cw at h
 refine bC ?_
 refine aL Tryz.func123 rfl Tryz.ntmps123 Tryz.results123 rfl (ag (bi [4] (by kernel_rfl) (bx (ae h fun x1 hx1 h=>aG [] [5,6,7,8] [(4,pB (decide (0≤x1)))] (cu 2 (fk hx1) bV) (by kernel_rfl) (ec ?_)))))
 exact zz r h rfl
def dI (p0:ByteArray) (p1:ByteArray):Option Bool:=(gd (decide ((p1.size:Int)≤(p0.size:Int))) (gt p0 0 (p1.size:Int))).bind fun s1=>some ((decide ((p1.size:Int)≤(p0.size:Int)))&&(decide (s1=p1)))
theorem gy {p0:ByteArray} {p1:ByteArray} {r:Bool}  (h:dI p0 p1=some r):PF 171 [pS p0,pS p1] (pB r):=by
 unfold dI at h
 refine bC ?_
 refine aL Tryz.func171 rfl Tryz.ntmps171 Tryz.results171 rfl (ag (bi [4] (by kernel_rfl) (bx (ae h fun s1 hs1 h=>aG [] (rg 5 13) [(4,pB ((decide ((p1.size:Int)≤(p0.size:Int)))&&(decide (s1=p1))))] (fossg 9 (dU hs1) bV) (by kernel_rfl) (ec ?_)))))
 exact zz r h rfl
def eK (p0:ByteArray) (p1:ByteArray):Option Bool:=(dI p0 p1).bind fun x1=>some x1
theorem iB {p0:ByteArray} {p1:ByteArray} {r:Bool}  (h:eK p0 p1=some r):PF 129 [pS p0,pS p1] (pB r):=by
 unfold eK at h
 refine bC ?_
 refine aL Tryz.func129 rfl Tryz.ntmps129 Tryz.results129 rfl (ag (bi [4] (by kernel_rfl) (bx (ae h fun x1 hx1 h=>aG [] [5,6,7] [(4,pB x1)] (cu 2 (gy hx1) bV) (by kernel_rfl) (ec ?_)))))
 exact zz r h rfl
def fx (p0:Zd) (p1:Int):Option Bool:=some (((decide (p0.From≤p1))&&(decide (p1<p0.To)))||(((p0.Registered != (-1))&&(decide (p0.Registered≤p1)))&&(decide (p1<p0.From))))
theorem jj {p0:Zd} {p1:Int} {r:Bool}  (h:fx p0 p1=some r):PF 137 [.agg (bA p0),pI p1] (pB r):=by
 unfold fx at h
 refine bC ?_
 refine aL Tryz.func137 rfl Tryz.ntmps137 Tryz.results137 rfl (ag (aj (aK rfl (bY (cs:=(bA p0)) rfl rfl (fun b1=>cb [4] (by kernel_rfl) (bx (bc [0,0,0,0,0] (rg 5 27) [(4,pB (((decide (p0.From≤p1))&&(decide (p1<p0.To)))||(((p0.Registered != (-1))&&(decide (p0.Registered≤p1)))&&(decide (p1<p0.From)))))] (by kernel_rfl) (ec ?_))))))))
 exact zz r h rfl
def f7 (p0:Zd) (p1:ByteArray) (p2:ByteArray) (p3:Int) (p4:Int):Option Bool:=(fx p0 p4).bind fun x2=>(gd x2 (eK p1 p0.Prefix)).bind fun x3=>(gd ((x2&&x3)&&(!((p0.Origins.length:Int) == 0))) (cw p0.Origins p2)).bind fun x4=>some (((x2&&x3)&&(((p0.Origins.length:Int) == 0)||x4))&&((p0.Company == 0)||(p0.Company == p3)))
theorem jT {p0:Zd} {p1:ByteArray} {p2:ByteArray} {p3:Int} {p4:Int} {r:Bool}  (h:f7 p0 p1 p2 p3 p4=some r):PF 106 [.agg (bA p0),pS p1,pS p2,pI p3,pI p4] (pB r):=by
 unfold f7 at h
 refine bC ?_
 refine aL Tryz.func106 rfl Tryz.ntmps106 Tryz.results106 rfl (ag (aj (aK rfl (bY (cs:=(bA p0)) rfl rfl (fun b1=>cb [10] (by kernel_rfl) (bx (ae h fun x2 hx2 h=>ae h fun x3 hx3 h=>ae h fun x4 hx4 h=>aG [0,0,0,0,0,0] (rg 11 32) [(10,pB (((x2&&x3)&&(((p0.Origins.length:Int) == 0)||x4))&&((p0.Company == 0)||(p0.Company == p3))))] (cu 2 (jj hx2) (i0 7 (fun hc=>iB (dU hx3 hc)) (i0 18 (fun hc=>eJ (dU hx4 hc)) bV))) (by kernel_rfl) (ec ?_))))))))
 exact zz r h rfl
def eX (p0:Zd) (p1:Zd):Option Bool:=cond ((p0.Prefix.size:Int) != (p1.Prefix.size:Int)) (some (decide ((p1.Prefix.size:Int)<(p0.Prefix.size:Int)))) (cond ((p0.Company != 0) != (p1.Company != 0)) (some (p0.Company != 0)) (cond ((p0.Origins.length:Int) != (p1.Origins.length:Int)) (some (((p1.Origins.length:Int) == 0)||(((p0.Origins.length:Int) != 0)&&(decide ((p0.Origins.length:Int)<(p1.Origins.length:Int)))))) (some (decide (p1.ID<p0.ID)))))
theorem iS {p0:Zd} {p1:Zd} {r:Bool}  (h:eX p0 p1=some r):PF 107 [.agg (bA p0),.agg (bA p1)] (pB r):=by
 unfold eX at h
 refine bC ?_
 refine aL Tryz.func107 rfl Tryz.ntmps107 Tryz.results107 rfl (ag (aj (aK rfl (bY (cs:=(bA p0)) rfl rfl (fun b1=>aK rfl (bY (cs:=(bA p1)) rfl rfl (fun b2=>cb [4] (by kernel_rfl) (dE (bc [1,0] (rg 5 6) [(11,pB ((p0.Prefix.size:Int) != (p1.Prefix.size:Int)))] (by kernel_rfl) (cZ rfl h (fun hc3 h=>?_) fun hc3 h=>?_))))))))))
 ·refine ag ?_
  refine bc [1,0] (rg 12 7) [(4,pB (decide ((p1.Prefix.size:Int)<(p0.Prefix.size:Int))))] (by kernel_rfl) (gb ?_)
  exact zz r h rfl
 refine ap ?_
 refine dE (bc [1,0] (rg 19 6) [(25,pB ((p0.Company != 0) != (p1.Company != 0)))] (by kernel_rfl) (cZ rfl h (fun hc4 h=>?_) fun hc4 h=>?_))
 ·refine ag ?_
  refine bc [1] [26,27,28] [(4,pB (p0.Company != 0))] (by kernel_rfl) (gb ?_)
  exact zz r h rfl
 refine ap ?_
 refine dE (bc [1,0] (rg 29 6) [(35,pB ((p0.Origins.length:Int) != (p1.Origins.length:Int)))] (by kernel_rfl) (cZ rfl h (fun hc5 h=>?_) fun hc5 h=>?_))
 ·refine ag ?_
  refine bc [0,1,1,0] (rg 36 19) [(4,pB (((p1.Origins.length:Int) == 0)||(((p0.Origins.length:Int) != 0)&&(decide ((p0.Origins.length:Int)<(p1.Origins.length:Int))))))] (by kernel_rfl) (gb ?_)
  exact zz r h rfl
 refine ap ?_
 refine bx (bc [1,0] (rg 55 5) [(4,pB (decide (p1.ID<p0.ID)))] (by kernel_rfl) (ec ?_))
 exact zz r h rfl
def cH (p0:(List ByteArray)):Option (List ByteArray):=app 16 ([]:List ByteArray) p0
theorem fm {p0:(List ByteArray)} {r:(List ByteArray)} (h:cH p0=some r):PCall 108 [pL eS p0] [] (fun pv ρ'=>∃ a c,pv=.v (.slice a r.length c)∧ρ'=[PRes.row a r.length c 9 1 (List.map eS r)]):=by
 unfold cH at h
 refine aL Tryz.func108 rfl Tryz.ntmps108 Tryz.results108 rfl ?_
 (repeat refine ag ?_)
 refine aj (bK rfl rfl rfl (bo (p:=.v (.slice none 0 0)) rfl (.p rfl)) (aH (az ?_)))
 (repeat refine ag ?_)
 refine aj (bK rfl rfl rfl (bm (p:=pL eS p0) rfl (.p rfl)) (mL rfl rfl rfl rfl rfl rfl (fun b hb=>aH (az ?_))))
 refine dV rfl (fun hc=>?_) (fun hc=>?_)
 ·have e0:p0=[]:=List.map_eq_nil_iff.1 (hb hc)
  subst e0;obtain ⟨rfl,_⟩:=iu h
  (repeat refine ag ?_)
  refine aj (bK rfl rfl rfl (bo (p:=.v (.slice none 0 0)) rfl (.p rfl)) (aH (az (da 9 1 (cV (aU ?_))))))
  exact bg (iY (aZ rfl)) fK ⟨_,_,rfl,rfl⟩
 refine ap ?_
 refine az ?_
 (repeat refine ag ?_)
 refine aj (aK rfl (aS rfl rfl rfl rfl rfl dH rfl rfl rfl rfl (fun b1=>bK rfl rfl rfl (bm (p:=pL eS p0) rfl (.p rfl)) ?_)))
 refine aK rfl (al (enc:=eS) (xs:=([]:List ByteArray)) rfl rfl rfl rfl rfl (fun _=>rfl) rfl rfl rfl (by exact aF) h (fun a c=>?_))
 refine bK rfl rfl rfl (bo (p:=.v (.slice a r.length c)) rfl (.p rfl)) (aH (ec ?_))
 exact bg (iY (aZ rfl)) fK ⟨_,_,rfl,rfl⟩
def el (p0:(List Zd)) (p1:ByteArray) (p2:ByteArray) (p3:Int) (p4:Int):Option (List Zd):=(bs (S:=(List Zd)×Int) (T:=((List Zd))) (fun (l2,v5)=>cond (decide (v5≤6)) (((bs (S:=Int×Int) (T:=(Int)) (fun (v19,v20)=>cond (decide (v20<(p0.length:Int))) (((idx p0 v20).bind fun m29=>(gd (m29.Kind == v5) (f7 m29 p1 p2 p3 p4)).bind fun x31=>(gd (((m29.Kind == v5)&&x31)&&(!(decide (v19<0)))) (idx p0 v19)).bind fun m32=>(gd (((m29.Kind == v5)&&x31)&&(!(decide (v19<0)))) (eX m29 m32)).bind fun x33=>cond (((m29.Kind == v5)&&x31)&&((decide (v19<0))||x33)) (some v20) (some v19)).bind fun v27=>some (.inl (v27,(IntKind.i64.wrap (v20+1))))) (some (.inr v19))) FUEL ((-1),0)).bind fun v22=>cond (decide (0≤v22)) ((idx p0 v22).bind fun m36=>(cH m36.Origins).bind fun x38=>(app 144 l2 [(⟨m36.ID,m36.Kind,m36.Prefix,x38,m36.Company,m36.From,m36.To,m36.Registered,m36.Duty⟩:Zd)]).bind fun l44=>some l44) (some l2)).bind fun l17=>some (.inl (l17,(IntKind.i64.wrap (v5+1))))) (some (.inr l2))) FUEL (([]:List Zd),1)).bind fun l9=>some l9
theorem ie {p0:(List Zd)} {p1:ByteArray} {p2:ByteArray} {p3:Int} {p4:Int} {r:(List Zd)}  (h:el p0 p1 p2 p3 p4=some r):PF 68 [pL Zd.enc p0,pS p1,pS p2,pI p3,pI p4] (pL Zd.enc r):=by
 unfold el at h
 refine bC ?_
 refine aL Tryz.func68 rfl Tryz.ntmps68 Tryz.results68 rfl (ag (bi [10] (by kernel_rfl) (bx (ar [(11,pN)] (by kernel_rfl) (dE (ar [(12,pI 1)] (by kernel_rfl) (az (da 69 15 (ae h fun q11 hq11 h=>?_)))))))))
 refine aQ (Y:=(Option Addr×Nat)×((List Zd))) (fun ((a7,c8),l9)=>[(11,pO a7 l9.length c8)]) (fun ((a7,c8),l9)=>[PRes.row a7 l9.length c8 69 15 (List.map Zd.enc l9)]) (fun ((a7,c8),l9)=>q11=l9) ?_ ?_
 ·refine aA ?_
  refine bf (Y:=Option Addr×Nat) (S:=(List Zd)×Int) _ hq11 (fun (a3,c4) (l2,v5)=>[(0,pL Zd.enc p0),(1,pS p1),(2,pS p2),(3,pI p3),(4,pI p4),(11,pO a3 l2.length c4),(12,pI v5)]) (fun (a3,c4) (l2,v5)=>[PRes.row a3 l2.length c4 69 15 (List.map Zd.enc l2)]) (none,0) (zh7 rfl) fK ?_
  rintro ⟨a3,c4⟩ ⟨l2,v5⟩ o τ hb10;(try dsimp only at hb10);dsimp only [aT]
  refine ag (ag (am [17] [(18,pB (decide (v5≤6)))] (by kernel_rfl) (cZ rfl hb10 (fun hc13 hb10=>?_) fun hc13 hb10=>?_)))
  ·refine ap ?_
   refine bx (ae hb10 fun q18 hq18 hb10=>?_)
   refine aQ (Y:=(Option Addr×Nat)×((List Zd))) (fun ((a15,c16),l17)=>[(0,pL Zd.enc p0),(1,pS p1),(2,pS p2),(3,pI p3),(4,pI p4),(11,pO a15 l17.length c16),(12,pI v5)]) (fun ((a15,c16),l17)=>[PRes.row a15 l17.length c16 69 15 (List.map Zd.enc l17)]) (fun ((a15,c16),l17)=>q18=l17) ?_ ?_
   ·skip
    refine aA (ag (ar [(13,pI (-1))] (by kernel_rfl) (dE (ar [(21,pL Zd.enc p0),(22,pI (p0.length:Int)),(23,pI 0)] (by kernel_rfl) (az (ae hq18 fun q24 hq24 hq18=>?_))))))
    refine aQ (Y:=Unit×Int) (fun (_,v22)=>[(0,pL Zd.enc p0),(1,pS p1),(2,pS p2),(3,pI p3),(4,pI p4),(11,pO a3 l2.length c4),(12,pI v5),(13,pI v22)]) (fun (_,v22)=>[PRes.row a3 l2.length c4 69 15 (List.map Zd.enc l2)]) (fun (_,v22)=>q24=v22) ?_ ?_
    ·refine aA ?_
     refine bf (Y:=Unit) (S:=Int×Int) _ hq24 (fun _ (v19,v20)=>[(0,pL Zd.enc p0),(1,pS p1),(2,pS p2),(3,pI p3),(4,pI p4),(11,pO a3 l2.length c4),(12,pI v5),(13,pI v19),(21,pL Zd.enc p0),(22,pI (p0.length:Int)),(23,pI v20)]) (fun _ (v19,v20)=>[PRes.row a3 l2.length c4 69 15 (List.map Zd.enc l2)]) () (bq rfl (bq rfl (oO rfl))) fK ?_
     rintro _ ⟨v19,v20⟩ o τ hb23;(try dsimp only at hb23);dsimp only [aT]
     refine ag (ar [(24,pB (decide (v20<(p0.length:Int))))] (by kernel_rfl) (bx (jg rfl hb23 (fun hc25 hb23=>?_) fun hc25 hb23=>?_)))
     ·refine ap ?_
      refine bx (ae hb23 fun q28 hq28 hb23=>?_)
      refine aQ (Y:=Unit×Int) (fun (_,v27)=>[(0,pL Zd.enc p0),(1,pS p1),(2,pS p2),(3,pI p3),(4,pI p4),(11,pO a3 l2.length c4),(12,pI v5),(13,pI v27),(21,pL Zd.enc p0),(22,pI (p0.length:Int)),(23,pI v20)]) (fun (_,v27)=>[PRes.row a3 l2.length c4 69 15 (List.map Zd.enc l2)]) (fun (_,v27)=>q28=v27) ?_ ?_
      ·skip
       refine aA (ag (ae hq28 fun m29 hm29 hq28=>aj (br 3 [] [26] [(25,pI v20),(27,.agg (bA m29))] (gu 1 Zd.enc hm29 bV) (by kernel_rfl) (aK rfl (an (cs:=[pI 0,pI 0,pS ByteArray.empty,pN,pI 0,pI 0,pI 0,pI 0,pI 0,pI 0,pI 0,pB false,pI 0,pB false,pI 0]) rfl rfl rfl rfl (fun b30=>bp 1 [(14,pI v20)] (by kernel_rfl) (bF rfl rfl (ah (vs:=(bA m29)) rfl rfl rfl rfl rfl aY (aD (aD (aD (aD (aD (aD zl9)))))) (aH (bx (cF (ρd:=[]) [(0,0),(1,0),(2,0),(3,0),(4,0),(5,0),(6,0),(7,0),(8,0),(9,0),(10,1),(11,0),(12,0),(13,0),(14,0),(15,0),(16,0),(17,0),(18,0),(19,0),(20,0),(21,1),(22,0),(23,0)] _ (List.Perm.refl _) (by kernel_rfl) rfl (ae hq28 fun x31 hx31 hq28=>ae hq28 fun m32 hm32 hq28=>ae hq28 fun x33 hx33 hq28=>cL 24 [0,0,0] (rg 28 23) [(51,pB (((m29.Kind == v5)&&x31)&&((decide (v19<0))||x33)))] (i0 10 (fun hc=>jT (dU hx31 hc)) (qX 19 Zd.enc (dU hm32) (i0 21 (fun hc=>iS (dU hx33 hc)) bV))) (by kernel_rfl) (dv (cZ rfl hq28 (fun hc34 hq28=>?_) fun hc34 hq28=>?_))))))))))))))
       ·refine am [52] [(13,pI v20)] (by kernel_rfl) ?_
        refine av ?_
        obtain rfl:=osi hq28
        exact aq ((),v20) (bq rfl (bq rfl (oO rfl))) (bv (aC aF) be) rfl
       refine ap ?_
       refine av ?_
       obtain rfl:=osi hq28
       exact aq ((),v19) (bq rfl (bq rfl (oO rfl))) (bv (aC aF) be) rfl
      rintro ⟨_,v27⟩ τ hz;(try dsimp only at hz);subst q28;(try dsimp only at hb23);dsimp only [aT]
      refine am [53] [(23,pI (IntKind.i64.wrap (v20+1)))] (by kernel_rfl) ?_
      exact bN hb23 () (bq rfl (bq rfl (oO rfl))) fK
     refine bk ?_
     refine aV (aM hb23 (fun ht=>aR rfl ?_))
     exact aq ((),v19) (zh8 rfl) fK ht.symm
    rintro ⟨_,v22⟩ τ hz;(try dsimp only at hz);subst q24;(try dsimp only at hq18);dsimp only [aT]
    refine ag (am [54] [(55,pB (decide (0≤v22)))] (by kernel_rfl) (cZ rfl hq18 (fun hc35 hq18=>?_) fun hc35 hq18=>?_))
    ·refine ag ?_
     refine ae hq18 fun m36 hm36 hq18=>aj (br 4 [] [56,57,58] [(59,.agg (bA m36))] (gu 2 Zd.enc hm36 bV) (by kernel_rfl) (aK rfl (an (cs:=[pI 0,pI 0,pS ByteArray.empty,pN,pI 0,pI 0,pI 0,pI 0,pI 0,pI 0,pI 0,pB false,pI 0,pB false,pI 0]) rfl rfl rfl rfl (fun b37=>bF rfl rfl (ah (vs:=(bA m36)) rfl rfl rfl rfl rfl aY (aD (aD (aD (aD (aD (aD zl9)))))) (aH (bx (ae hq18 fun x38 hx38 hq18=>aj (dn 2 [0] [60] [(61,pL eS m36.Origins)] (by kernel_rfl) ?_)))))))))
     refine aK rfl (dM rfl rfl (ρ1:=[]) (List.Perm.refl _) (fm hx38) ?_);rintro _ _ ⟨a39,c40,rfl,rfl⟩
     refine bp 1 [(63,pP b37 3)] (by kernel_rfl) (bF rfl rfl (ah (vs:=[pO a39 x38.length c40]) rfl rfl rfl rfl rfl (ba aY) (aI (aI (aI rL))) (aH (az (aj (bp 1 [(64,pO a3 l2.length c4)] (by kernel_rfl) ?_))))))
     refine nx (css:=List.map eS x38) (a:=a39) (by exact aF) ?_
     refine mH (k:=3) (enc:=eS) (xs:=x38) (b:=b37) (a:=a39) rfl gc (ba aY) (iz 1 [1] [(65,.agg [pI m36.ID,pI m36.Kind,pS m36.Prefix,pL eS x38,pI m36.Company,pI m36.From,pI m36.To,pI m36.Registered,pI m36.Duty.Rate,pI m36.Duty.Amount,pI m36.Duty.Per,pB m36.Duty.HasMost,pI m36.Duty.Most,pB m36.Duty.HasLeast,pI m36.Duty.Least])] (by kernel_rfl) (aK rfl (aS rfl rfl rfl rfl rfl (dA rfl dH) rfl rfl rfl rfl (fun b42=>ae hq18 fun l44 hl44 hq18=>?_))))
     refine aK rfl (dY (enc:=Zd.enc) rfl rfl rfl rfl rfl rfl rfl rfl rfl gc (by exact aC (aC (aC aF))) hl44 (fun a45 c46=>?_))
     refine bB [(11,pO a45 l44.length c46)] (by kernel_rfl) (av ?_)
     obtain rfl:=osi hq18
     exact aq ((a45,c46),l44) (zh7 rfl) fK rfl
    refine ap ?_
    refine av ?_
    obtain rfl:=osi hq18
    exact aq ((a3,c4),l2) (zh7 rfl) fK rfl
   rintro ⟨⟨a15,c16⟩,l17⟩ τ hz;(try dsimp only at hz);subst q18;(try dsimp only at hb10);dsimp only [aT]
   refine am [19,20] [(12,pI (IntKind.i64.wrap (v5+1)))] (by kernel_rfl) ?_
   exact bN hb10 (a15,c16) (zh7 rfl) fK
  refine bk ?_
  refine aV (aM hb10 (fun ht=>aR rfl ?_))
  exact aq ((a3,c4),l2) (zh1 rfl) fK ht.symm
 rintro ⟨⟨a7,c8⟩,l9⟩ τ hz;(try dsimp only at hz);subst q11;(try dsimp only at h);dsimp only [aT]
 refine ag (am [68] [(10,pO a7 l9.length c8)] (by kernel_rfl) (az ?_))
 refine fi (enc:=Zd.enc) (xs:=l9) 10 rfl (by exact aF) ?_
 refine cV ?_
 exact zz r h rfl
def bH (p0:(List Zd)) (p1:(Zd→Option Bool)):Option Int:=(bs (S:=Int) (T:=(Unit)⊕(_)) (fun v1=>cond (decide (v1<(p0.length:Int))) ((idx p0 v1).bind fun m5=>(p1 m5).bind fun x6=>cond x6 (some (.inr (.inr v1))) (some (.inl (IntKind.i64.wrap (v1+1))))) (some (.inr (.inl ())))) FUEL 0).bind fun q=>match q with | .inl _=>some (-1) | .inr e=>some e
theorem dt {p0:(List Zd)} {p1:(Zd→Option Bool)} {r:Int} {g1:PV} (hg1:∀ {y0:Zd} {w:Bool},p1 y0=some w→PFV g1 [.agg (bA y0)] (pB w)) (h:bH p0 p1=some r):PF 109 [pL Zd.enc p0,g1] (pI r):=by
 unfold bH at h
 refine bC ?_
 refine aL Tryz.func109 rfl Tryz.ntmps109 Tryz.results109 rfl (ag (bi [4] (by kernel_rfl) (dE (am [6] [(7,pI (p0.length:Int)),(8,pI 0)] (by kernel_rfl) (az (ae h fun q3 hq3 h=>?_))))))
 refine aQ (Y:=Unit×Unit) (fun (_,_)=>[]) (fun (_,_)=>[]) (fun (_,_)=>q3=Sum.inl ()) ?_ ?_
 ·refine aA ?_
  refine bf (Y:=Unit) (S:=Int) _ hq3 (fun _ v1=>[(0,pL Zd.enc p0),(1,g1),(7,pI (p0.length:Int)),(8,pI v1)]) (fun _ v1=>[]) () (kO rfl) be ?_
  rintro _ v1 o τ hb2;(try dsimp only at hb2);dsimp only [aT]
  refine ag (ar [(9,pB (decide (v1<(p0.length:Int))))] (by kernel_rfl) (bx (jg rfl hb2 (fun hc4 hb2=>?_) fun hc4 hb2=>?_)))
  ·refine ap ?_
   refine bx (aA (ag (am [10] [(5,pI v1)] (by kernel_rfl) (bx (ae hb2 fun m5 hm5 hb2=>ae hb2 fun x6 hx6 hb2=>aG [] (rg 11 5) [(16,pB x6)] (gu 3 Zd.enc hm5 (tg 5 (hg1 hx6) bV)) (by kernel_rfl) (cZ rfl hb2 (fun hc7 hb2=>?_) fun hc7 hb2=>?_))))))
   ·refine ag ?_
    refine am [17] [(4,pI v1)] (by kernel_rfl) (ec (aB (aU ?_)))
    refine bE hb2 (fun ht=>?_);subst ht
    refine aB (bz ?_)
    exact zz r h rfl
   refine ap ?_
   refine av (az (am [18] [(8,pI (IntKind.i64.wrap (v1+1)))] (by kernel_rfl) ?_))
   exact bN hb2 () (kO rfl) be
  refine bk ?_
  refine aV (aM hb2 (fun ht=>aR rfl ?_))
  exact aq ((),()) bX be ht.symm
 rintro ⟨_,_⟩ τ hz;(try dsimp only at hz);subst q3;(try dsimp only at h);dsimp only [aT]
 refine ag (ar [(4,pI (-1))] (by kernel_rfl) (ec ?_))
 exact zz r h rfl
def bD (p0:(List Zd)) (p1:(Zd→Option Bool)):Option Bool:=(bH p0 p1).bind fun x1=>some (decide (0≤x1))
theorem dc {p0:(List Zd)} {p1:(Zd→Option Bool)} {r:Bool} {g1:PV} (hg1:∀ {y0:Zd} {w:Bool},p1 y0=some w→PFV g1 [.agg (bA y0)] (pB w)) (h:bD p0 p1=some r):PF 69 [pL Zd.enc p0,g1] (pB r):=by
 unfold bD at h
 refine bC ?_
 refine aL Tryz.func69 rfl Tryz.ntmps69 Tryz.results69 rfl (ag (bi [4] (by kernel_rfl) (bx (ae h fun x1 hx1 h=>aG [] [5,6,7,8] [(4,pB (decide (0≤x1)))] (cu 2 (dt hg1 hx1) bV) (by kernel_rfl) (ec ?_)))))
 exact zz r h rfl
def fy (p0:Zd):Option Bool:=some (p0.Kind == 1)
theorem jk {p0:Zd} {r:Bool}  (h:fy p0=some r):PF 70 [.agg (bA p0)] (pB r):=by
 unfold fy at h
 refine bC ?_
 refine aL Tryz.func70 rfl Tryz.ntmps70 Tryz.results70 rfl (ag (aj (aK rfl (bY (cs:=(bA p0)) rfl rfl (fun b1=>cb [2] (by kernel_rfl) (bx (bc [0] [3,4,5] [(2,pB (p0.Kind == 1))] (by kernel_rfl) (ec ?_))))))))
 exact zz r h rfl
def fz (p0:Int) (p1:(List Int)):Option Int:=cond (decide (1000<(p1.length:Int))) (some (8:Int)) (cond ((decide (p0<0))||(decide (1000000000000<p0))) (some (2:Int)) ((bs (S:=Int) (T:=(Unit)⊕(_)) (fun v3=>cond (decide (v3<(p1.length:Int))) ((idx p1 v3).bind fun m7=>cond ((decide (m7<0))||(decide (1000000000000<m7))) (some (.inr (.inr (2:Int)))) (some (.inl (IntKind.i64.wrap (v3+1))))) (some (.inr (.inl ())))) FUEL 0).bind fun q=>match q with | .inl _=>cond (((p1.length:Int) == 0)&&(decide (0<p0))) (some (7:Int)) (some (0:Int)) | .inr e=>some e))
theorem jl {p0:Int} {p1:(List Int)} {r:Int}  (h:fz p0 p1=some r):PF 138 [pI p0,pL eI p1] (pI r):=by
 unfold fz at h
 refine bC ?_
 refine aL Tryz.func138 rfl Tryz.ntmps138 Tryz.results138 rfl (ag (bi [4] (by kernel_rfl) (dE (am [7,8] [(9,pB (decide (1000<(p1.length:Int))))] (by kernel_rfl) (cZ rfl h (fun hc1 h=>?_) fun hc1 h=>?_)))))
 ·refine ag ?_
  refine ar [(4,pI 8)] (by kernel_rfl) (gb ?_)
  exact zz r h rfl
 refine ap ?_
 refine dE (am (rg 10 5) [(15,pB ((decide (p0<0))||(decide (1000000000000<p0))))] (by kernel_rfl) (cZ rfl h (fun hc2 h=>?_) fun hc2 h=>?_))
 ·refine ag ?_
  refine ar [(4,pI 2)] (by kernel_rfl) (gb ?_)
  exact zz r h rfl
 refine ap ?_
 refine dE (ar [(16,pL eI p1),(17,pI (p1.length:Int)),(18,pI 0)] (by kernel_rfl) (az (ae h fun q5 hq5 h=>?_)))
 refine aQ (Y:=Unit×Unit) (fun (_,_)=>[(0,pI p0),(1,pL eI p1)]) (fun (_,_)=>[]) (fun (_,_)=>q5=Sum.inl ()) ?_ ?_
 ·refine aA ?_
  refine bf (Y:=Unit) (S:=Int) _ hq5 (fun _ v3=>[(0,pI p0),(1,pL eI p1),(16,pL eI p1),(17,pI (p1.length:Int)),(18,pI v3)]) (fun _ v3=>[]) () (rM rfl) be ?_
  rintro _ v3 o τ hb4;(try dsimp only at hb4);dsimp only [aT]
  refine ag (ar [(19,pB (decide (v3<(p1.length:Int))))] (by kernel_rfl) (bx (jg rfl hb4 (fun hc6 hb4=>?_) fun hc6 hb4=>?_)))
  ·refine ap ?_
   refine bx (aA (ag (ae hb4 fun m7 hm7 hb4=>aG [] [20,21] [(6,pI m7)] (gu 0 eI hm7 bV) (by kernel_rfl) (bx (am (rg 22 5) [(27,pB ((decide (m7<0))||(decide (1000000000000<m7))))] (by kernel_rfl) (cZ rfl hb4 (fun hc8 hb4=>?_) fun hc8 hb4=>?_))))))
   ·refine ag ?_
    refine ar [(4,pI 2)] (by kernel_rfl) (ec (aB (aU ?_)))
    refine bE hb4 (fun ht=>?_);subst ht
    refine aB (bz ?_)
    exact zz r h rfl
   refine ap ?_
   refine av (az (am [28] [(18,pI (IntKind.i64.wrap (v3+1)))] (by kernel_rfl) ?_))
   exact bN hb4 () (rM rfl) be
  refine bk ?_
  refine aV (aM hb4 (fun ht=>aR rfl ?_))
  exact aq ((),()) (oM rfl) be ht.symm
 rintro ⟨_,_⟩ τ hz;(try dsimp only at hz);subst q5;(try dsimp only at h);dsimp only [aT]
 refine ag (ag (am (rg 29 6) [(35,pB (((p1.length:Int) == 0)&&(decide (0<p0))))] (by kernel_rfl) (cZ rfl h (fun hc9 h=>?_) fun hc9 h=>?_)))
 ·refine ag ?_
  refine ar [(4,pI 7)] (by kernel_rfl) (gb ?_)
  exact zz r h rfl
 refine ap ?_
 refine bx (ar [(4,pI 0)] (by kernel_rfl) (ec ?_))
 exact zz r h rfl
def fA (p0:(List Int)):Option Int:=(bs (S:=Int×Int) (T:=(Int)) (fun (v1,v2)=>cond (decide (v2<(p0.length:Int))) ((idx p0 v2).bind fun m7=>some (.inl ((IntKind.i64.wrap (v1+m7)),(IntKind.i64.wrap (v2+1))))) (some (.inr v1))) FUEL (0,0)).bind fun v3=>some v3
theorem jm {p0:(List Int)} {r:Int}  (h:fA p0=some r):PF 139 [pL eI p0] (pI r):=by
 unfold fA at h
 refine bC ?_
 refine aL Tryz.func139 rfl Tryz.ntmps139 Tryz.results139 rfl (ag (bi [2] (by kernel_rfl) (bx (ar [(3,pI 0)] (by kernel_rfl) (dE (ar [(6,pL eI p0),(7,pI (p0.length:Int)),(8,pI 0)] (by kernel_rfl) (az (ae h fun q5 hq5 h=>?_))))))))
 refine aQ (Y:=Unit×Int) (fun (_,v3)=>[(3,pI v3)]) (fun (_,v3)=>[]) (fun (_,v3)=>q5=v3) ?_ ?_
 ·refine aA ?_
  refine bf (Y:=Unit) (S:=Int×Int) _ hq5 (fun _ (v1,v2)=>[(3,pI v1),(6,pL eI p0),(7,pI (p0.length:Int)),(8,pI v2)]) (fun _ (v1,v2)=>[]) () (kO rfl) be ?_
  rintro _ ⟨v1,v2⟩ o τ hb4;(try dsimp only at hb4);dsimp only [aT]
  refine ag (ar [(9,pB (decide (v2<(p0.length:Int))))] (by kernel_rfl) (bx (jg rfl hb4 (fun hc6 hb4=>?_) fun hc6 hb4=>?_)))
  ·refine ap ?_
   refine bx (aA (ag (ae hb4 fun m7 hm7 hb4=>aG [] [10,11] [(5,pI m7)] (gu 0 eI hm7 bV) (by kernel_rfl) (az (am [12,13,14] [(3,pI (IntKind.i64.wrap (v1+m7)))] (by kernel_rfl) (av (az (am [15] [(8,pI (IntKind.i64.wrap (v2+1)))] (by kernel_rfl) ?_))))))))
   exact bN hb4 () (kO rfl) be
  refine bk ?_
  refine aV (aM hb4 (fun ht=>aR rfl ?_))
  exact aq ((),v1) (zh1 rfl) be ht.symm
 rintro ⟨_,v3⟩ τ hz;(try dsimp only at hz);subst q5;(try dsimp only at h);dsimp only [aT]
 refine ag (am [16] [(2,pI v3)] (by kernel_rfl) (ec ?_))
 exact zz r h rfl
def fB (p0:Int) (p1:Int):Option (Int×Int):=lb ((IntKind.u64.wrap ((dW .u64 p0 4294967295)*(dW .u64 p1 4294967295)))) (fun w1=>lb ((IntKind.u64.wrap ((IntKind.u64.wrap ((cg .u64 p0 32)*(dW .u64 p1 4294967295)))+(cg .u64 w1 32)))) (fun w2=>lb ((IntKind.u64.wrap ((dW .u64 w2 4294967295)+(IntKind.u64.wrap ((dW .u64 p0 4294967295)*(cg .u64 p1 32)))))) (fun w3=>lb ((IntKind.u64.wrap ((IntKind.u64.wrap ((IntKind.u64.wrap ((cg .u64 p0 32)*(cg .u64 p1 32)))+(cg .u64 w2 32)))+(cg .u64 w3 32)))) (fun w4=>some (w4,(IntKind.u64.wrap (p0*p1)))))))
theorem jn {p0:Int} {p1:Int} {r:(Int×Int)}  (h:fB p0 p1=some r):PF 184 [pU p0,pU p1] (.tup [pU r.1,pU r.2]):=by
 unfold fB at h
 refine bC ?_
 refine aL Tryz.func184 rfl Tryz.ntmps184 Tryz.results184 rfl (ag (bi [4,5] (by kernel_rfl) (bx (am [14,15] [(6,pU (dW .u64 p0 4294967295))] (by kernel_rfl) (bx (am [16,17] [(7,pU (cg .u64 p0 32))] (by kernel_rfl) (bx (am [18,19] [(8,pU (dW .u64 p1 4294967295))] (by kernel_rfl) (bx (am [20,21] [(9,pU (cg .u64 p1 32))] (by kernel_rfl) (bx ?_)))))))))))
 refine cK h ?_;clear h;intro w1 hw1 h
 refine aj (cj 3 [22,23] [(24,pU (IntKind.u64.wrap ((dW .u64 p0 4294967295)*(dW .u64 p1 4294967295))))] (by kernel_rfl) (bK rfl rfl rfl (bo rfl (.p (congrArg (fun z=>PV.v (Value.int .u64 z)) hw1))) (aH (bx ?_))))
 refine cK h ?_;clear h;intro w2 hw2 h
 refine aj (cj 6 (rg 25 5) [(30,pU (IntKind.u64.wrap ((IntKind.u64.wrap ((cg .u64 p0 32)*(dW .u64 p1 4294967295)))+(cg .u64 w1 32))))] (by kernel_rfl) (bK rfl rfl rfl (bo rfl (.p (congrArg (fun z=>PV.v (Value.int .u64 z)) hw2))) (aH (bx (am [31,32] [(12,pU (dW .u64 w2 4294967295))] (by kernel_rfl) (bx (am [33,34] [(13,pU (cg .u64 w2 32))] (by kernel_rfl) (bx ?_))))))))
 refine cK h ?_;clear h;intro w3 hw3 h
 refine aj (cj 5 [35,36,37,38] [(39,pU (IntKind.u64.wrap ((dW .u64 w2 4294967295)+(IntKind.u64.wrap ((dW .u64 p0 4294967295)*(cg .u64 p1 32))))))] (by kernel_rfl) (bK rfl rfl rfl (bo rfl (.p (congrArg (fun z=>PV.v (Value.int .u64 z)) hw3))) (aH (bx ?_))))
 refine cK h ?_;clear h;intro w4 hw4 h
 refine aj (cj 8 (rg 40 7) [(47,pU (IntKind.u64.wrap ((IntKind.u64.wrap ((IntKind.u64.wrap ((cg .u64 p0 32)*(cg .u64 p1 32)))+(cg .u64 w2 32)))+(cg .u64 w3 32))))] (by kernel_rfl) (bK rfl rfl rfl (bo rfl (.p (congrArg (fun z=>PV.v (Value.int .u64 z)) hw4))) (aH (bx (am [48,49,50] [(5,pU (IntKind.u64.wrap (p0*p1)))] (by kernel_rfl) (ec ?_))))))
 obtain rfl:=osi h
 exact bg (dh (aZ rfl) (aZ rfl)) be ⟨rfl,rfl⟩
def fU (p0:Int) (p1:Int):Option Ze:=(fB p0 p1).bind fun x2=>some (⟨x2.1,x2.2⟩:Ze)
theorem fN {p0:Int} {p1:Int} {r:Ze}  (h:fU p0 p1=some r):PF 145 [pU p0,pU p1] (.agg [pU r.Hi,pU r.Lo]):=by
 unfold fU at h
 refine bC ?_
 refine aL Tryz.func145 rfl Tryz.ntmps145 Tryz.results145 rfl (ag (aj (aK rfl (an (cs:=[pU 0,pU 0]) rfl rfl rfl rfl (fun b1=>aH (bx (ae h fun x2 hx2 h=>aG [] [8,9,10,7,11,12] [(5,pU x2.1),(6,pU x2.2)] (cu 2 (jn hx2) bV) (by kernel_rfl) (bx (aj (cj 3 [13,14] [(15,.agg [pU x2.1,pU x2.2])] (by kernel_rfl) (bF rfl rfl (ah (vs:=[pU x2.1,pU x2.2]) rfl rfl rfl rfl rfl aY oN (aH (ec ?_))))))))))))))
 obtain rfl:=osi h
 exact bg (iY (eU rfl gc rfl)) be ⟨rfl,rfl⟩
def dd (p0:Int):Option Int:=(ed p0).bind fun x1=>some (IntKind.i64.wrap (64 - x1))
theorem fO {p0:Int} {r:Int}  (h:dd p0=some r):PF 204 [pU p0] (pI r):=by
 unfold dd at h
 refine bC ?_
 refine aL Tryz.func204 rfl Tryz.ntmps204 Tryz.results204 rfl (ag (bi [2] (by kernel_rfl) (bx (ae h fun x1 hx1 h=>aG [] [3,4,5] [(2,pI (IntKind.i64.wrap (64 - x1)))] (cu 1 (f0 hx1) bV) (by kernel_rfl) (ec ?_)))))
 exact zz r h rfl
def ee (p0:Int) (p1:Int) (p2:Int):Option (Int×Int):=cond (p2 == 0) (none) (cond (decide (p2≤p0)) (none) (cond (p0 == 0) ((nz p2).bind fun u4=>(nz p2).bind fun u5=>some ((IntKind.u64.wrap (Int.tdiv p1 p2)),(Int.tmod p1 p2))) ((dd p2).bind fun x6=>(mn (IntKind.u64.wrap x6)).bind fun u7=>lb ((cg .u64 (dK .u64 p2 (IntKind.u64.wrap x6)) 32)) (fun w8=>lb ((dW .u64 (dK .u64 p2 (IntKind.u64.wrap x6)) 4294967295)) (fun w9=>(mn (IntKind.u64.wrap x6)).bind fun u10=>(mn (IntKind.u64.wrap (64 - (IntKind.u64.wrap x6)))).bind fun u11=>lb ((oA .u64 (dK .u64 p0 (IntKind.u64.wrap x6)) (cg .u64 p1 (IntKind.u64.wrap (64 - (IntKind.u64.wrap x6)))))) (fun w12=>(mn (IntKind.u64.wrap x6)).bind fun u13=>lb ((cg .u64 (dK .u64 p1 (IntKind.u64.wrap x6)) 32)) (fun w14=>lb ((dW .u64 (dK .u64 p1 (IntKind.u64.wrap x6)) 4294967295)) (fun w15=>(nz w8).bind fun u16=>lb ((IntKind.u64.wrap (w12 - (IntKind.u64.wrap ((IntKind.u64.wrap (Int.tdiv w12 w8))*w8))))) (fun w17=>(bs (S:=Int×Int) (T:=(Int)) (fun (v18,v19)=>cond ((decide (4294967296≤v18))||(decide ((IntKind.u64.wrap ((IntKind.u64.wrap (4294967296*v19))+w14))<(IntKind.u64.wrap (v18*w9))))) (cond (decide (4294967296≤(IntKind.u64.wrap (v19+w8)))) (some (.inr (IntKind.u64.wrap (v18 - 1)))) (some (.inl ((IntKind.u64.wrap (v18 - 1)),(IntKind.u64.wrap (v19+w8)))))) (some (.inr v18))) FUEL ((IntKind.u64.wrap (Int.tdiv w12 w8)),w17)).bind fun v20=>lb ((IntKind.u64.wrap ((IntKind.u64.wrap ((IntKind.u64.wrap (w12*4294967296))+w14)) - (IntKind.u64.wrap (v20*(dK .u64 p2 (IntKind.u64.wrap x6))))))) (fun w25=>(nz w8).bind fun u26=>lb ((IntKind.u64.wrap (w25 - (IntKind.u64.wrap ((IntKind.u64.wrap (Int.tdiv w25 w8))*w8))))) (fun w27=>(bs (S:=Int×Int) (T:=(Int)) (fun (v28,v29)=>cond ((decide (4294967296≤v29))||(decide ((IntKind.u64.wrap ((IntKind.u64.wrap (4294967296*v28))+w15))<(IntKind.u64.wrap (v29*w9))))) (cond (decide (4294967296≤(IntKind.u64.wrap (v28+w8)))) (some (.inr (IntKind.u64.wrap (v29 - 1)))) (some (.inl ((IntKind.u64.wrap (v28+w8)),(IntKind.u64.wrap (v29 - 1)))))) (some (.inr v29))) FUEL (w27,(IntKind.u64.wrap (Int.tdiv w25 w8)))).bind fun v30=>(mn (IntKind.u64.wrap x6)).bind fun u35=>lb ((IntKind.u64.wrap ((IntKind.u64.wrap (v20*4294967296))+v30))) (fun w36=>lb ((cg .u64 (IntKind.u64.wrap ((IntKind.u64.wrap ((IntKind.u64.wrap (w25*4294967296))+w15)) - (IntKind.u64.wrap (v30*(dK .u64 p2 (IntKind.u64.wrap x6)))))) (IntKind.u64.wrap x6))) (fun w37=>some (w36,w37))))))))))))))
theorem f8 {p0:Int} {p1:Int} {p2:Int} {r:(Int×Int)}  (h:ee p0 p1 p2=some r):PF 186 [pU p0,pU p1,pU p2] (.tup [pU r.1,pU r.2]):=by
 unfold ee at h
 refine bC ?_
 refine aL Tryz.func186 rfl Tryz.ntmps186 Tryz.results186 rfl (ag (bi [6,7] (by kernel_rfl) (dE (am [19] [(20,pB (p2 == 0))] (by kernel_rfl) (cZ rfl h (fun hc1 h=>?_) fun hc1 h=>?_)))))
 ·refine aj ?_
  exact absurd h (by simp)
 refine ap ?_
 refine dE (am [22,23] [(24,pB (decide (p2≤p0)))] (by kernel_rfl) (cZ rfl h (fun hc2 h=>?_) fun hc2 h=>?_))
 ·refine aj ?_
  exact absurd h (by simp)
 refine ap ?_
 refine dE (am [26] [(27,pB (p0 == 0))] (by kernel_rfl) (cZ rfl h (fun hc3 h=>?_) fun hc3 h=>?_))
 ·refine ag ?_
  refine cF (ρd:=[]) [(0,0),(1,0),(2,0),(3,0),(4,0),(5,0),(6,0),(7,0)] _ (List.Perm.refl _) (by kernel_rfl) rfl (ae h fun u4 hu4 h=>ae h fun u5 hu5 h=>cL 8 [] (rg 28 6) [(6,pU (IntKind.u64.wrap (Int.tdiv p1 p2))),(7,pU (Int.tmod p1 p2))] (qh 2 hu4 (qh 5 hu5 bV)) (by kernel_rfl) (dv (gb ?_)))
  obtain rfl:=osi h
  exact bg (dh (aZ rfl) (aZ rfl)) be ⟨rfl,rfl⟩
 refine ap ?_
 refine bx (ae h fun x6 hx6 h=>aG [] [34,35,36] [(8,pU (IntKind.u64.wrap x6))] (cu 1 (fO hx6) bV) (by kernel_rfl) (bx (ae h fun u7 hu7 h=>aG [] [37,38,39] [(2,pU (dK .u64 p2 (IntKind.u64.wrap x6)))] (te 2 hu7 bV) (by kernel_rfl) (bx ?_))))
 refine cK h ?_;clear h;intro w8 hw8 h
 refine aj (cj 2 [40] [(41,pU (cg .u64 (dK .u64 p2 (IntKind.u64.wrap x6)) 32))] (by kernel_rfl) (bK rfl rfl rfl (bo rfl (.p (congrArg (fun z=>PV.v (Value.int .u64 z)) hw8))) (aH (bx ?_))))
 refine cK h ?_;clear h;intro w9 hw9 h
 refine aj (cj 2 [42] [(43,pU (dW .u64 (dK .u64 p2 (IntKind.u64.wrap x6)) 4294967295))] (by kernel_rfl) (bK rfl rfl rfl (bo rfl (.p (congrArg (fun z=>PV.v (Value.int .u64 z)) hw9))) (aH (bx (ae h fun u10 hu10 h=>ae h fun u11 hu11 h=>?_)))))
 refine cK h ?_;clear h;intro w12 hw12 h
 refine aj (br 8 [] (rg 44 7) [(51,pU (oA .u64 (dK .u64 p0 (IntKind.u64.wrap x6)) (cg .u64 p1 (IntKind.u64.wrap (64 - (IntKind.u64.wrap x6))))))] (te 2 hu10 (te 6 hu11 bV)) (by kernel_rfl) (bK rfl rfl rfl (bo rfl (.p (congrArg (fun z=>PV.v (Value.int .u64 z)) hw12))) (aH (bx (ae h fun u13 hu13 h=>aG [] [52,53,54] [(12,pU (dK .u64 p1 (IntKind.u64.wrap x6)))] (te 2 hu13 bV) (by kernel_rfl) (bx ?_))))))
 refine cK h ?_;clear h;intro w14 hw14 h
 refine aj (cj 2 [55] [(56,pU (cg .u64 (dK .u64 p1 (IntKind.u64.wrap x6)) 32))] (by kernel_rfl) (bK rfl rfl rfl (bo rfl (.p (congrArg (fun z=>PV.v (Value.int .u64 z)) hw14))) (aH (bx ?_))))
 refine cK h ?_;clear h;intro w15 hw15 h
 refine aj (cj 2 [57] [(58,pU (dW .u64 (dK .u64 p1 (IntKind.u64.wrap x6)) 4294967295))] (by kernel_rfl) (bK rfl rfl rfl (bo rfl (.p (congrArg (fun z=>PV.v (Value.int .u64 z)) hw15))) (aH (bx (ae h fun u16 hu16 h=>aG [] [59,60,61] [(15,pU (IntKind.u64.wrap (Int.tdiv w12 w8)))] (qh 2 hu16 bV) (by kernel_rfl) (bx ?_))))))
 refine cK h ?_;clear h;intro w17 hw17 h
 refine aj (cj 5 [62,63,64,65] [(66,pU (IntKind.u64.wrap (w12 - (IntKind.u64.wrap ((IntKind.u64.wrap (Int.tdiv w12 w8))*w8)))))] (by kernel_rfl) (bK rfl rfl rfl (bo rfl (.p (congrArg (fun z=>PV.v (Value.int .u64 z)) hw17))) (aH (bx (ae h fun q22 hq22 h=>?_)))))
 refine aQ (Y:=Unit×Int) (fun (_,v20)=>[(2,pU (dK .u64 p2 (IntKind.u64.wrap x6))),(8,pU (IntKind.u64.wrap x6)),(9,pU w8),(10,pU w9),(11,pU w12),(13,pU w14),(14,pU w15),(15,pU v20)]) (fun (_,v20)=>[]) (fun (_,v20)=>q22=v20) ?_ ?_
 ·refine aA ?_
  refine bf (Y:=Unit) (S:=Int×Int) _ hq22 (fun _ (v18,v19)=>[(2,pU (dK .u64 p2 (IntKind.u64.wrap x6))),(8,pU (IntKind.u64.wrap x6)),(9,pU w8),(10,pU w9),(11,pU w12),(13,pU w14),(14,pU w15),(15,pU v18),(16,pU v19)]) (fun _ (v18,v19)=>[]) () (oO rfl) be ?_
  rintro _ ⟨v18,v19⟩ o τ hb21;(try dsimp only at hb21);dsimp only [aT]
  refine ag (ag (am (rg 67 11) [(78,pB ((decide (4294967296≤v18))||(decide ((IntKind.u64.wrap ((IntKind.u64.wrap (4294967296*v19))+w14))<(IntKind.u64.wrap (v18*w9))))))] (by kernel_rfl) (cZ rfl hb21 (fun hc23 hb21=>?_) fun hc23 hb21=>?_)))
  ·refine ap ?_
   refine az (aA (ag (am [79,80] [(15,pU (IntKind.u64.wrap (v18 - 1)))] (by kernel_rfl) (bx (am [81,82,83] [(16,pU (IntKind.u64.wrap (v19+w8)))] (by kernel_rfl) (bx (am [84] [(85,pB (decide (4294967296≤(IntKind.u64.wrap (v19+w8)))))] (by kernel_rfl) (cZ rfl hb21 (fun hc24 hb21=>?_) fun hc24 hb21=>?_))))))))
   ·refine bk ?_
    refine dN rfl (aM hb21 (fun ht=>aR rfl ?_))
    exact aq ((),(IntKind.u64.wrap (v18 - 1))) (zh8 rfl) be ht.symm
   refine ap ?_
   refine av ?_
   exact bN hb21 () (oO rfl) be
  refine bk ?_
  refine aV (aM hb21 (fun ht=>aR rfl ?_))
  exact aq ((),v18) (zh8 rfl) be ht.symm
 rintro ⟨_,v20⟩ τ hz;(try dsimp only at hz);subst q22;(try dsimp only at h);dsimp only [aT]
 refine ag ?_
 refine cK h ?_;clear h;intro w25 hw25 h
 refine aj (cj 8 (rg 86 7) [(93,pU (IntKind.u64.wrap ((IntKind.u64.wrap ((IntKind.u64.wrap (w12*4294967296))+w14)) - (IntKind.u64.wrap (v20*(dK .u64 p2 (IntKind.u64.wrap x6)))))))] (by kernel_rfl) (bK rfl rfl rfl (bo rfl (.p (congrArg (fun z=>PV.v (Value.int .u64 z)) hw25))) (aH (bx (ae h fun u26 hu26 h=>aG [] [94,95,96] [(18,pU (IntKind.u64.wrap (Int.tdiv w25 w8)))] (qh 2 hu26 bV) (by kernel_rfl) (bx ?_))))))
 refine cK h ?_;clear h;intro w27 hw27 h
 refine aj (cj 5 [97,98,99,100] [(101,pU (IntKind.u64.wrap (w25 - (IntKind.u64.wrap ((IntKind.u64.wrap (Int.tdiv w25 w8))*w8)))))] (by kernel_rfl) (bK rfl rfl rfl (bo rfl (.p (congrArg (fun z=>PV.v (Value.int .u64 z)) hw27))) (aH (bx (ae h fun q32 hq32 h=>?_)))))
 refine aQ (Y:=Unit×Int) (fun (_,v30)=>[(2,pU (dK .u64 p2 (IntKind.u64.wrap x6))),(8,pU (IntKind.u64.wrap x6)),(14,pU w15),(15,pU v20),(17,pU w25),(18,pU v30)]) (fun (_,v30)=>[]) (fun (_,v30)=>q32=v30) ?_ ?_
 ·refine aA ?_
  refine bf (Y:=Unit) (S:=Int×Int) _ hq32 (fun _ (v28,v29)=>[(2,pU (dK .u64 p2 (IntKind.u64.wrap x6))),(8,pU (IntKind.u64.wrap x6)),(9,pU w8),(10,pU w9),(14,pU w15),(15,pU v20),(16,pU v28),(17,pU w25),(18,pU v29)]) (fun _ (v28,v29)=>[]) () (oO rfl) be ?_
  rintro _ ⟨v28,v29⟩ o τ hb31;(try dsimp only at hb31);dsimp only [aT]
  refine ag (ag (am (rg 102 11) [(113,pB ((decide (4294967296≤v29))||(decide ((IntKind.u64.wrap ((IntKind.u64.wrap (4294967296*v28))+w15))<(IntKind.u64.wrap (v29*w9))))))] (by kernel_rfl) (cZ rfl hb31 (fun hc33 hb31=>?_) fun hc33 hb31=>?_)))
  ·refine ap ?_
   refine az (aA (ag (am [114,115] [(18,pU (IntKind.u64.wrap (v29 - 1)))] (by kernel_rfl) (bx (am [116,117,118] [(16,pU (IntKind.u64.wrap (v28+w8)))] (by kernel_rfl) (bx (am [119] [(120,pB (decide (4294967296≤(IntKind.u64.wrap (v28+w8)))))] (by kernel_rfl) (cZ rfl hb31 (fun hc34 hb31=>?_) fun hc34 hb31=>?_))))))))
   ·refine bk ?_
    refine dN rfl (aM hb31 (fun ht=>aR rfl ?_))
    exact aq ((),(IntKind.u64.wrap (v29 - 1))) (tS rfl) be ht.symm
   refine ap ?_
   refine av ?_
   exact bN hb31 () (oO rfl) be
  refine bk ?_
  refine aV (aM hb31 (fun ht=>aR rfl ?_))
  exact aq ((),v29) (tS rfl) be ht.symm
 rintro ⟨_,v30⟩ τ hz;(try dsimp only at hz);subst q32;(try dsimp only at h);dsimp only [aT]
 refine ag (ae h fun u35 hu35 h=>?_)
 refine cK h ?_;clear h;intro w36 hw36 h
 refine aj (br 14 [] [121,122,123,125,126,127,128,129,130,131,132,133] [(124,pU (IntKind.u64.wrap ((IntKind.u64.wrap (v20*4294967296))+v30))),(134,pU (cg .u64 (IntKind.u64.wrap ((IntKind.u64.wrap ((IntKind.u64.wrap (w25*4294967296))+w15)) - (IntKind.u64.wrap (v30*(dK .u64 p2 (IntKind.u64.wrap x6)))))) (IntKind.u64.wrap x6)))] (te 13 hu35 bV) (by kernel_rfl) (bK rfl rfl rfl (bo rfl (.p (congrArg (fun z=>PV.v (Value.int .u64 z)) hw36))) ?_))
 refine cK h ?_;clear h;intro w37 hw37 h
 refine bK rfl rfl rfl (bo rfl (.p (congrArg (fun z=>PV.v (Value.int .u64 z)) hw37))) (aH (ec ?_))
 obtain rfl:=osi h
 exact bg (dh (aZ rfl) (aZ rfl)) be ⟨rfl,rfl⟩
def hX (p0:Int) (p1:Int) (p2:Int) (p3:Int):Option Bool:=cond (p3 == 1) (some (decide (0<p1))) (cond (p3 == 2) (some (decide ((IntKind.u64.wrap (p2 - p1))≤p1))) (cond (p3 == 3) (some ((decide ((IntKind.u64.wrap (p2 - p1))<p1))||((p1 == (IntKind.u64.wrap (p2 - p1)))&&((Int.tmod p0 2) == 1)))) (some false)))
theorem kQ {p0:Int} {p1:Int} {p2:Int} {p3:Int} {r:Bool}  (h:hX p0 p1 p2 p3=some r):PF 187 [pU p0,pU p1,pU p2,pI p3] (pB r):=by
 unfold hX at h
 refine bC ?_
 refine aL Tryz.func187 rfl Tryz.ntmps187 Tryz.results187 rfl (ag (bi [8] (by kernel_rfl) (bx (am [10,11,12] [(9,pU (IntKind.u64.wrap (p2 - p1)))] (by kernel_rfl) (dE (ar [(13,pI p3)] (by kernel_rfl) (az (aA (ag (am [15] [(14,pB (p3 == 1))] (by kernel_rfl) (cZ rfl h (fun hc1 h=>?_) fun hc1 h=>?_)))))))))))
 ·refine ag ?_
  refine am [16,17] [(8,pB (decide (0<p1)))] (by kernel_rfl) (ec (aB (aU ?_)))
  exact zz r h rfl
 refine ag ?_
 refine am [19] [(18,pB (p3 == 2))] (by kernel_rfl) (cZ rfl h (fun hc2 h=>?_) fun hc2 h=>?_)
 ·refine ag ?_
  refine am [20,21,22] [(8,pB (decide ((IntKind.u64.wrap (p2 - p1))≤p1)))] (by kernel_rfl) (ec (aB (aU ?_)))
  exact zz r h rfl
 refine ag ?_
 refine am [24] [(23,pB (p3 == 3))] (by kernel_rfl) (cZ rfl h (fun hc3 h=>?_) fun hc3 h=>?_)
 ·refine ag ?_
  refine am (rg 25 13) [(8,pB ((decide ((IntKind.u64.wrap (p2 - p1))<p1))||((p1 == (IntKind.u64.wrap (p2 - p1)))&&((Int.tmod p0 2) == 1))))] (by kernel_rfl) (ec (aB (aU ?_)))
  exact zz r h rfl
 refine ap ?_
 refine av (bx (ar [(8,pB false)] (by kernel_rfl) (ec ?_)))
 exact zz r h rfl
def iP (p0:Ze) (p1:Int) (p2:Int):Option (Int×Int):=cond (((p1 == 0)||(decide (p2<0)))||(decide (3<p2))) (some ((0:Int),(2:Int))) (cond (decide (p1≤p0.Hi)) (some ((0:Int),(3:Int))) ((ee p0.Hi p0.Lo p1).bind fun x4=>(hX x4.1 x4.2 p1 p2).bind fun x5=>cond (!x5) (some (x4.1,(0:Int))) (cond (x4.1 == 18446744073709551615) (some ((0:Int),(3:Int))) (some ((IntKind.u64.wrap (x4.1+1)),(0:Int))))))
theorem jU {p0:Ze} {p1:Int} {p2:Int} {r:(Int×Int)}  (h:iP p0 p1 p2=some r):PF 148 [.agg [pU p0.Hi,pU p0.Lo],pU p1,pI p2] (.tup [pU r.1,pI r.2]):=by
 unfold iP at h
 refine bC ?_
 refine aL Tryz.func148 rfl Tryz.ntmps148 Tryz.results148 rfl (ag (aj (aK rfl (bY (cs:=[pU p0.Hi,pU p0.Lo]) rfl rfl (fun b1=>cb [6,7] (by kernel_rfl) (dE (am (rg 10 9) [(19,pB (((p1 == 0)||(decide (p2<0)))||(decide (3<p2))))] (by kernel_rfl) (cZ rfl h (fun hc2 h=>?_) fun hc2 h=>?_))))))))
 ·refine ag ?_
  refine ar [(6,pU 0),(7,pI 2)] (by kernel_rfl) (gb ?_)
  obtain rfl:=osi h
  exact bg (dh (aZ rfl) (aZ rfl)) be ⟨rfl,rfl⟩
 refine ap ?_
 refine dE (bc [0] [20,21,22] [(23,pB (decide (p1≤p0.Hi)))] (by kernel_rfl) (cZ rfl h (fun hc3 h=>?_) fun hc3 h=>?_))
 ·refine ag ?_
  refine ar [(6,pU 0),(7,pI 3)] (by kernel_rfl) (gb ?_)
  obtain rfl:=osi h
  exact bg (dh (aZ rfl) (aZ rfl)) be ⟨rfl,rfl⟩
 refine ap ?_
 refine bx (ae h fun x4 hx4 h=>aG [0,0] ((rg 25 6)++[24,31,32]) [(8,pU x4.1),(9,pU x4.2)] (cu 5 (f8 hx4) bV) (by kernel_rfl) (dE (ae h fun x5 hx5 h=>aG [] (rg 33 5) [(38,pB (!x5))] (cu 4 (kQ hx5) bV) (by kernel_rfl) (cZ rfl h (fun hc6 h=>?_) fun hc6 h=>?_))))
 ·refine ag ?_
  refine am [39] [(6,pU x4.1),(7,pI 0)] (by kernel_rfl) (gb ?_)
  obtain rfl:=osi h
  exact bg (dh (aZ rfl) (aZ rfl)) be ⟨rfl,rfl⟩
 refine ap ?_
 refine dE (am [40] [(41,pB (x4.1 == 18446744073709551615))] (by kernel_rfl) (cZ rfl h (fun hc7 h=>?_) fun hc7 h=>?_))
 ·refine ag ?_
  refine ar [(6,pU 0),(7,pI 3)] (by kernel_rfl) (gb ?_)
  obtain rfl:=osi h
  exact bg (dh (aZ rfl) (aZ rfl)) be ⟨rfl,rfl⟩
 refine ap ?_
 refine bx (am [42,43] [(6,pU (IntKind.u64.wrap (x4.1+1))),(7,pI 0)] (by kernel_rfl) (ec ?_))
 obtain rfl:=osi h
 exact bg (dh (aZ rfl) (aZ rfl)) be ⟨rfl,rfl⟩
def hY (p0:Int) (p1:Int) (p2:Int) (p3:Int):Option (Int×Int):=(fU p0 p1).bind fun x1=>(iP x1 p2 p3).bind fun x2=>some (x2.1,x2.2)
theorem kR {p0:Int} {p1:Int} {p2:Int} {p3:Int} {r:(Int×Int)}  (h:hY p0 p1 p2 p3=some r):PF 140 [pU p0,pU p1,pU p2,pI p3] (.tup [pU r.1,pI r.2]):=by
 unfold hY at h
 refine bC ?_
 refine aL Tryz.func140 rfl Tryz.ntmps140 Tryz.results140 rfl (ag (bi [8,9] (by kernel_rfl) (bx (ae h fun x1 hx1 h=>ae h fun x2 hx2 h=>aG [] (rg 10 8) [(8,pU x2.1),(9,pI x2.2)] (cu 2 (fN hx1) (cu 5 (jU hx2) bV)) (by kernel_rfl) (ec ?_)))))
 obtain rfl:=osi h
 exact bg (dh (aZ rfl) (aZ rfl)) be ⟨rfl,rfl⟩
def fC (p0:Int) (p1:Int) (p2:Int):Option Int:=(nz p2).bind fun u1=>(ee (Int.tmod p0 p2) p1 p2).bind fun x2=>some x2.2
theorem jo {p0:Int} {p1:Int} {p2:Int} {r:Int}  (h:fC p0 p1 p2=some r):PF 180 [pU p0,pU p1,pU p2] (pU r):=by
 unfold fC at h
 refine bC ?_
 refine aL Tryz.func180 rfl Tryz.ntmps180 Tryz.results180 rfl (ag (bi [6] (by kernel_rfl) (bx (ae h fun u1 hu1 h=>ae h fun x2 hx2 h=>aG [] ((rg 10 6)++[9,16,17,7]) [(8,pU x2.2)] (qh 2 hu1 (cu 5 (f8 hx2) bV)) (by kernel_rfl) (bx (am [18] [(6,pU x2.2)] (by kernel_rfl) (ec ?_)))))))
 exact zz r h rfl
def hZ (p0:Int) (p1:Int) (p2:Int):Option Int:=cond (p2 == 0) (some (0:Int)) ((fU p0 p1).bind fun x2=>(fC x2.Hi x2.Lo p2).bind fun x4=>some x4)
theorem kS {p0:Int} {p1:Int} {p2:Int} {r:Int}  (h:hZ p0 p1 p2=some r):PF 141 [pU p0,pU p1,pU p2] (pU r):=by
 unfold hZ at h
 refine bC ?_
 refine aL Tryz.func141 rfl Tryz.ntmps141 Tryz.results141 rfl (ag (bi [6] (by kernel_rfl) (dE (am [8] [(9,pB (p2 == 0))] (by kernel_rfl) (cZ rfl h (fun hc1 h=>?_) fun hc1 h=>?_)))))
 ·refine ag ?_
  refine ar [(6,pU 0)] (by kernel_rfl) (gb ?_)
  exact zz r h rfl
 refine ap ?_
 refine bx (ae h fun x2 hx2 h=>aj (br 3 [] [10,11] [(12,.agg [pU x2.Hi,pU x2.Lo])] (cu 2 (fN hx2) bV) (by kernel_rfl) (aK rfl (an (cs:=[pU 0,pU 0]) rfl rfl rfl rfl (fun b3=>bF rfl rfl (ah (vs:=[pU x2.Hi,pU x2.Lo]) rfl rfl rfl rfl rfl aY oN (aH (bx (ae h fun x4 hx4 h=>aG [0,0] (rg 13 6) [(6,pU x4)] (cu 5 (jo hx4) bV) (by kernel_rfl) (ec ?_))))))))))
 exact zz r h rfl
def dT (p0:Int):Option Bool:=some (p0 != p0)
theorem fG {p0:Int} {r:Bool}  (h:dT p0=some r):PF 202 [pU p0] (pB r):=by
 unfold dT at h
 refine bC ?_
 refine aL Tryz.func202 rfl Tryz.ntmps202 Tryz.results202 rfl (ag (bi [2] (by kernel_rfl) (bx (am [3,4,5] [(2,pB (p0 != p0))] (by kernel_rfl) (ec ?_)))))
 exact zz r h rfl
def em (p0:Int) (p1:Int):Option Int:=(dT p0).bind fun x1=>(dT p1).bind fun x2=>cond x1 (cond x2 (some (0:Int)) (some (-1))) (cond x2 (some (1:Int)) (cond (decide (p0<p1)) (some (-1)) (cond (decide (p1<p0)) (some (1:Int)) (some (0:Int)))))
theorem ig {p0:Int} {p1:Int} {r:Int}  (h:em p0 p1=some r):PF 181 [pU p0,pU p1] (pI r):=by
 unfold em at h
 refine bC ?_
 refine aL Tryz.func181 rfl Tryz.ntmps181 Tryz.results181 rfl (ag (bi [4] (by kernel_rfl) (bx (ae h fun x1 hx1 h=>aG [] [7,8] [(5,pB x1)] (cu 1 (fG hx1) bV) (by kernel_rfl) (bx (ae h fun x2 hx2 h=>aG [] [9,10] [(6,pB x2)] (cu 1 (fG hx2) bV) (by kernel_rfl) (dE (ar [(11,pB x1)] (by kernel_rfl) (cZ rfl h (fun hc3 h=>?_) fun hc3 h=>?_)))))))))
 ·refine ag ?_
  refine ag (ar [(12,pB x2)] (by kernel_rfl) (cZ rfl h (fun hc4 h=>?_) fun hc4 h=>?_))
  ·refine ag ?_
   refine ar [(4,pI 0)] (by kernel_rfl) (gb (aU ?_))
   exact zz r h rfl
  refine ap ?_
  refine bx (ar [(4,pI (-1))] (by kernel_rfl) (gb ?_))
  exact zz r h rfl
 refine ap ?_
 refine dE (ar [(13,pB x2)] (by kernel_rfl) (cZ rfl h (fun hc5 h=>?_) fun hc5 h=>?_))
 ·refine ag ?_
  refine ar [(4,pI 1)] (by kernel_rfl) (gb ?_)
  exact zz r h rfl
 refine ap ?_
 refine dE (am [14,15] [(16,pB (decide (p0<p1)))] (by kernel_rfl) (cZ rfl h (fun hc6 h=>?_) fun hc6 h=>?_))
 ·refine ag ?_
  refine ar [(4,pI (-1))] (by kernel_rfl) (gb ?_)
  exact zz r h rfl
 refine ap ?_
 refine dE (am [17,18] [(19,pB (decide (p1<p0)))] (by kernel_rfl) (cZ rfl h (fun hc7 h=>?_) fun hc7 h=>?_))
 ·refine ag ?_
  refine ar [(4,pI 1)] (by kernel_rfl) (gb ?_)
  exact zz r h rfl
 refine ap ?_
 refine bx (ar [(4,pI 0)] (by kernel_rfl) (ec ?_))
 exact zz r h rfl
def eY (p0:Zb) (p1:Zb):Option Int:=(em p1.rest p0.rest).bind fun x3=>cond (x3 != 0) (some x3) ((cy p0.index_ p1.index_).bind fun x5=>some x5)
theorem iT {p0:Zb} {p1:Zb} {r:Int}  (h:eY p0 p1=some r):PF 142 [.agg [pI p0.index_,pU p0.share,pU p0.rest],.agg [pI p1.index_,pU p1.share,pU p1.rest]] (pI r):=by
 unfold eY at h
 refine bC ?_
 refine aL Tryz.func142 rfl Tryz.ntmps142 Tryz.results142 rfl (ag (aj (aK rfl (bY (cs:=[pI p0.index_,pU p0.share,pU p0.rest]) rfl rfl (fun b1=>aK rfl (bY (cs:=[pI p1.index_,pU p1.share,pU p1.rest]) rfl rfl (fun b2=>cb [4] (by kernel_rfl) (dE (ae h fun x3 hx3 h=>aG [0,1] (rg 6 5) [(5,pI x3)] (cu 4 (ig hx3) bV) (by kernel_rfl) (bx (am [11] [(12,pB (x3 != 0))] (by kernel_rfl) (cZ rfl h (fun hc4 h=>?_) fun hc4 h=>?_))))))))))))
 ·refine ag ?_
  refine am [13] [(4,pI x3)] (by kernel_rfl) (gb ?_)
  exact zz r h rfl
 refine ap ?_
 refine bx (ae h fun x5 hx5 h=>aG [1,0] (rg 14 5) [(4,pI x5)] (cu 4 (eg hx5) bV) (by kernel_rfl) (ec ?_))
 exact zz r h rfl
def bw (p0:(List Zb)) (p1:Int) (p2:Int) (p3:(Zb→Zb→Option Int)):Option (List Zb):=(bs (S:=(List Zb)×Int) (T:=((List Zb))) (fun (l2,v3)=>cond (decide (v3<p2)) ((bs (S:=(List Zb)×Int) (T:=((List Zb))) (fun (l10,v11)=>(gd (decide (p1<v11)) (idx l10 v11)).bind fun m16=>(gd (decide (p1<v11)) (idx l10 (IntKind.i64.wrap (v11 - 1)))).bind fun m17=>(gd (decide (p1<v11)) (p3 m16 m17)).bind fun x18=>cond ((decide (p1<v11))&&(decide (x18<0))) ((idx l10 (IntKind.i64.wrap (v11 - 1))).bind fun m22=>(idx l10 v11).bind fun m23=>(idx l10 v11).bind fun m24=>(idx (l10.set v11.toNat m22) (IntKind.i64.wrap (v11 - 1))).bind fun m26=>some (.inl (((l10.set v11.toNat m22).set (IntKind.i64.wrap (v11 - 1)).toNat m23),(IntKind.i64.wrap (v11 - 1))))) (some (.inr l10))) FUEL (l2,v3)).bind fun l13=>some (.inl (l13,(IntKind.i64.wrap (v3+1))))) (some (.inr l2))) FUEL (p0,(IntKind.i64.wrap (p1+1)))).bind fun l5=>some l5
theorem cP {p0:(List Zb)} {p1:Int} {p2:Int} {p3:(Zb→Zb→Option Int)} {a_0:Option Addr}  {n_0:Nat}  {c_0:Nat} {r:(List Zb)} {g3:PV} (hg3:∀ {y0:Zb} {y1:Zb} {w:Int},p3 y0 y1=some w→PFV g3 [.agg [pI y0.index_,pU y0.share,pU y0.rest],.agg [pI y1.index_,pU y1.share,pU y1.rest]] (pI w)) (h:bw p0 p1 p2 p3=some r):PCall 218 [.v (.slice a_0 n_0 c_0),pI p1,pI p2,g3] [PRes.row a_0 n_0 c_0 244 3 (List.map Zb.enc p0)] (fun pv ρ'=>pv=.tup []∧ρ'=[PRes.row a_0 n_0 c_0 244 3 (List.map Zb.enc r)]):=by
 unfold bw at h
 refine aL Tryz.func218 rfl Tryz.ntmps218 Tryz.results218 rfl ?_
 refine cW (enc:=Zb.enc) (xs:=p0) (a:=a_0) gc (fun hl ha=>?_);subst hl;clear ha
 refine ag (am [10,11] [(8,pI (IntKind.i64.wrap (p1+1)))] (by kernel_rfl) (az (ae h fun q7 hq7 h=>?_)))
 refine ip (Y:=Unit×((List Zb))) (fun (_,l5)=>[]) (fun (_,l5)=>[PRes.row a_0 p0.length c_0 244 3 (List.map Zb.enc l5)]) (fun (_,l5)=>q7=l5) ?_ ?_
 ·refine aA ?_
  refine bf (Y:=Unit) (S:=(List Zb)×Int) _ hq7 (fun _ (l2,v3)=>[(0,pO a_0 p0.length c_0),(1,pI p1),(2,pI p2),(3,g3),(8,pI v3)]) (fun _ (l2,v3)=>[PRes.row a_0 p0.length c_0 244 3 (List.map Zb.enc l2)]) () (rM rfl) fK ?_
  rintro _ ⟨l2,v3⟩ o τ hb6;(try dsimp only at hb6);dsimp only [aT]
  refine ag (ag (am [12,13] [(14,pB (decide (v3<p2)))] (by kernel_rfl) (cZ rfl hb6 (fun hc8 hb6=>?_) fun hc8 hb6=>?_)))
  ·refine ap ?_
   refine bx (aA (ag (am [17] [(9,pI v3)] (by kernel_rfl) (az (ae hb6 fun q15 hq15 hb6=>?_)))))
   refine ip (Y:=Unit×((List Zb))) (fun (_,l13)=>[(0,pO a_0 p0.length c_0),(1,pI p1),(2,pI p2),(3,g3),(8,pI v3)]) (fun (_,l13)=>[PRes.row a_0 p0.length c_0 244 3 (List.map Zb.enc l13)]) (fun (_,l13)=>q15=l13) ?_ ?_
   ·refine aA ?_
    refine bf (Y:=Unit) (S:=(List Zb)×Int) _ hq15 (fun _ (l10,v11)=>[(0,pO a_0 p0.length c_0),(1,pI p1),(2,pI p2),(3,g3),(8,pI v3),(9,pI v11)]) (fun _ (l10,v11)=>[PRes.row a_0 p0.length c_0 244 3 (List.map Zb.enc l10)]) () (tS rfl) fK ?_
    rintro _ ⟨l10,v11⟩ o τ hb14;(try dsimp only at hb14);dsimp only [aT]
    refine ag (ag (cF (ρd:=[]) [(0,0),(1,0),(2,0),(3,0),(4,0),(5,0),(6,0),(7,0),(8,0),(9,0),(10,0),(11,0),(12,0),(13,0),(14,1),(15,0),(16,0)] _ (List.Perm.refl _) (by kernel_rfl) rfl (ae hb14 fun m16 hm16 hb14=>jR 7 [18,19,20] [(21,pB (decide (p1<v11))),(22,pgv (decide (p1<v11)) (g3)),(23,pgv (decide (p1<v11)) (pO a_0 p0.length c_0)),(24,pgv (decide (p1<v11)) (pI v11))] (by kernel_rfl) (bG (dj rfl rfl rfl) rfl rfl (cn (enc:=Zb.enc) (xs:=l10) rfl rfl rfl (.g rfl) gc (.g rfl) (dU hm16)) (bG (dj rfl rfl rfl) rfl rfl (bR (sz:=3) (p:=.agg [pI m16.index_,pU m16.share,pU m16.rest]) (enc:=Zb.enc) (xs:=l10) (a:=a_0) v11 0 m16 rfl (.g rfl) rfl gc (dU hm16) rfl) (ae hb14 fun m17 hm17 hb14=>jR 3 [28] [(27,pgv (decide (p1<v11)) (pO a_0 p0.length c_0)),(29,pgv (decide (p1<v11)) (pI (IntKind.i64.wrap (v11 - 1))))] (by kernel_rfl) (bG (dj rfl rfl rfl) rfl rfl (cn (enc:=Zb.enc) (xs:=l10) rfl rfl rfl (.g rfl) gc (.g rfl) (dU hm17)) (bG (dj rfl rfl rfl) rfl rfl (bR (sz:=3) (p:=.agg [pI m17.index_,pU m17.share,pU m17.rest]) (enc:=Zb.enc) (xs:=l10) (a:=a_0) (IntKind.i64.wrap (v11 - 1)) 0 m17 rfl (.g rfl) rfl gc (dU hm17) rfl) (ae hb14 fun x18 hx18 hb14=>qc (dj rfl rfl rfl) rfl rfl rfl (.g rfl) (lE (.g rfl) (lE (.g rfl) rI)) (fun hc=>hg3 (dU hx18 hc)) (bG (dj rfl rfl rfl) rfl rfl (jb rfl (.g rfl) (.p rfl) rfl) (mJ rfl rfl rfl (nC rfl (.p rfl) (.p rfl) (.g rfl)) (dv (cZ rfl hb14 (fun hc19 hb14=>?_) fun hc19 hb14=>?_)))))))))))))
    ·refine ap ?_
     refine bx (aA (cW (enc:=Zb.enc) (xs:=l10) (a:=a_0) gc (fun hl20 ha21=>ae hb14 fun m22 hm22 hb14=>ae hb14 fun m23 hm23 hb14=>ae hb14 fun m24 hm24 hb14=>ae hb14 fun m26 hm26 hb14=>?_)))
     refine ip (Y:=Unit) (fun _=>[(0,pO a_0 p0.length c_0),(1,pI p1),(2,pI p2),(3,g3),(8,pI v3),(9,pI v11)]) (fun _=>[PRes.row a_0 p0.length c_0 244 3 (List.map Zb.enc ((l10.set v11.toNat m22).set (IntKind.i64.wrap (v11 - 1)).toNat m23))]) (fun _=>True) ?_ ?_
     ·refine eV (ρd:=[PRes.row a_0 _ _ _ _ _]) _ (List.Perm.refl _) ?_
      refine au 0 (by kernel_rfl) rfl rfl rfl rfl (bm (p:=pO a_0 p0.length c_0) rfl (.p rfl)) (au 1 (by kernel_rfl) rfl rfl rfl rfl (bm (p:=pI v11) rfl (.p rfl)) (au 2 (by kernel_rfl) rfl rfl rfl rfl (bm (p:=pO a_0 p0.length c_0) rfl (.p rfl)) (au 3 (by kernel_rfl) rfl rfl rfl rfl (bm (p:=pI v11) rfl (.p rfl)) (au 4 (by kernel_rfl) rfl rfl rfl rfl (fY rfl (.p rfl) (.p rfl) rfl) (au 5 (by kernel_rfl) rfl rfl rfl rfl (bm (p:=pO a_0 p0.length c_0) rfl (.p rfl)) (au 6 (by kernel_rfl) rfl rfl rfl rfl (bm (p:=pI v11) rfl (.p rfl)) (au 7 (by kernel_rfl) rfl rfl rfl rfl (fY rfl (.p rfl) (.p rfl) rfl) ?_)))))))
      refine au 8 (by kernel_rfl) rfl rfl rfl rfl (cT (xs:=l10) (by first | exact hl20 | rfl | (simp only [List.length_set];exact hl20) | simp only [List.length_set]) ha21 rfl rfl rfl (.p rfl) (.p rfl) (fun _=>hm22)) ?_
      refine au 10 (by kernel_rfl) rfl rfl rfl rfl (bm (p:=pO a_0 p0.length c_0) rfl (.p rfl)) (au 11 (by kernel_rfl) rfl rfl rfl rfl (bm (p:=pI v11) rfl (.p rfl)) ?_)
      refine au 12 (by kernel_rfl) rfl rfl rfl rfl (cT (xs:=l10) (by first | exact hl20 | rfl | (simp only [List.length_set];exact hl20) | simp only [List.length_set]) ha21 rfl rfl rfl (.p rfl) (.p rfl) (fun _=>hm23)) ?_
      refine aP 9 13 (by kernel_rfl) ?_ ?_
      ·skip
       refine af rfl rfl rfl rfl (kN (bR (sz:=3) (p:=.agg [pI m22.index_,pU m22.share,pU m22.rest]) (enc:=Zb.enc) (xs:=l10) (a:=a_0) (IntKind.i64.wrap (v11 - 1)) 0 m22 rfl (.p rfl) rfl gc (fun _=>hm22) rfl) (aa 13 (by kernel_rfl) (af rfl rfl rfl rfl (kN (bR (sz:=3) (p:=.agg [pI m23.index_,pU m23.share,pU m23.rest]) (enc:=Zb.enc) (xs:=l10) (a:=a_0) v11 0 m23 rfl (.p rfl) rfl gc (fun _=>hm23) rfl) ?_))))
       refine au 14 (by kernel_rfl) rfl rfl rfl rfl (cT (xs:=l10) (by first | exact hl20 | rfl | (simp only [List.length_set];exact hl20) | simp only [List.length_set]) ha21 rfl rfl rfl (.p rfl) (.p rfl) (fun _=>hm24)) ?_
       refine aa 15 (by kernel_rfl) (ai rfl rfl rfl (db (enc:=Zb.enc) (xs:=l10) (a:=a_0) v11 0 m24 m22 rfl rfl rfl rfl (fun _=>rfl) rfl rfl hm24 zl3 aY ?_))
       refine au 16 (by kernel_rfl) rfl rfl rfl rfl (cT (xs:=(l10.set v11.toNat m22)) (by first | exact hl20 | rfl | (simp only [List.length_set];exact hl20) | simp only [List.length_set]) ha21 rfl rfl rfl (.p rfl) (.p rfl) (fun _=>hm26)) ?_
       refine aa 17 (by kernel_rfl) (ai rfl rfl rfl (db (enc:=Zb.enc) (xs:=(l10.set v11.toNat m22)) (a:=a_0) (IntKind.i64.wrap (v11 - 1)) 0 m26 m23 rfl rfl rfl rfl (fun _=>rfl) rfl rfl hm26 zl3 aY (aw (by kernel_rfl) ?_)))
       exact i7 () (tS rfl) fK trivial
      skip
      refine af rfl rfl rfl rfl (kN (bR (sz:=3) (p:=.agg [pI m23.index_,pU m23.share,pU m23.rest]) (enc:=Zb.enc) (xs:=l10) (a:=a_0) v11 0 m23 rfl (.p rfl) rfl gc (fun _=>hm23) rfl) (aa 9 (by kernel_rfl) (af rfl rfl rfl rfl (kN (bR (sz:=3) (p:=.agg [pI m22.index_,pU m22.share,pU m22.rest]) (enc:=Zb.enc) (xs:=l10) (a:=a_0) (IntKind.i64.wrap (v11 - 1)) 0 m22 rfl (.p rfl) rfl gc (fun _=>hm22) rfl) ?_))))
      refine au 14 (by kernel_rfl) rfl rfl rfl rfl (cT (xs:=l10) (by first | exact hl20 | rfl | (simp only [List.length_set];exact hl20) | simp only [List.length_set]) ha21 rfl rfl rfl (.p rfl) (.p rfl) (fun _=>hm24)) ?_
      refine aa 15 (by kernel_rfl) (ai rfl rfl rfl (db (enc:=Zb.enc) (xs:=l10) (a:=a_0) v11 0 m24 m22 rfl rfl rfl rfl (fun _=>rfl) rfl rfl hm24 zl3 aY ?_))
      refine au 16 (by kernel_rfl) rfl rfl rfl rfl (cT (xs:=(l10.set v11.toNat m22)) (by first | exact hl20 | rfl | (simp only [List.length_set];exact hl20) | simp only [List.length_set]) ha21 rfl rfl rfl (.p rfl) (.p rfl) (fun _=>hm26)) ?_
      refine aa 17 (by kernel_rfl) (ai rfl rfl rfl (db (enc:=Zb.enc) (xs:=(l10.set v11.toNat m22)) (a:=a_0) (IntKind.i64.wrap (v11 - 1)) 0 m26 m23 rfl rfl rfl rfl (fun _=>rfl) rfl rfl hm26 zl3 aY (aw (by kernel_rfl) ?_)))
      exact i7 () (tS rfl) fK trivial
     rintro _ τ ρ1 hsub28 _;(try dsimp only at hsub28);dsimp only [aT]
     refine av (az (jC hsub28 (am [35,36] [(9,pI (IntKind.i64.wrap (v11 - 1)))] (by kernel_rfl) ?_)))
     exact bN hb14 () (tS rfl) fK
    refine bk ?_
    refine aV (aM hb14 (fun ht=>aR rfl ?_))
    exact i7 ((),l10) (rM rfl) fK ht.symm
   rintro ⟨_,l13⟩ τ ρ1 hsub29 hz;(try dsimp only at hz hsub29);subst q15;(try dsimp only at hb6);dsimp only [aT]
   refine av (az (jC hsub29 (am [15,16] [(8,pI (IntKind.i64.wrap (v3+1)))] (by kernel_rfl) ?_)))
   exact bN hb6 () (rM rfl) fK
  refine bk ?_
  refine aV (aM hb6 (fun ht=>aR rfl ?_))
  exact i7 ((),l2) bX fK ht.symm
 rintro ⟨_,l5⟩ τ ρ1 hsub30 hz;(try dsimp only at hz hsub30);subst q7;(try dsimp only at h);dsimp only [aT]
 obtain rfl:=osi h
 exact iq (rfl:PRV [] _ _ (.tup [])) (PSub.trans fK hsub30) ⟨rfl,rfl⟩
def bJ (p0:(List Zb)) (p1:Int) (p2:Int) (p3:Int) (p4:(Zb→Zb→Option Int)):Option (List Zb):=(bs (S:=Unit) (T:=(Unit)⊕(_)) (fun _=>cond (decide ((IntKind.i64.wrap (p2 - p1))≤12)) ((bw p0 p1 p2 p4).bind fun x4=>some (.inr (.inr x4))) (cond (p3 == 0) (none) (cond (!true) (none) (none)))) FUEL ()).bind fun q=>match q with | .inl _=>none | .inr e=>some e
theorem dx {p0:(List Zb)} {p1:Int} {p2:Int} {p3:Int} {p4:(Zb→Zb→Option Int)} {a_0:Option Addr}  {n_0:Nat}  {c_0:Nat} {r:(List Zb)} {g4:PV} (hg4:∀ {y0:Zb} {y1:Zb} {w:Int},p4 y0 y1=some w→PFV g4 [.agg [pI y0.index_,pU y0.share,pU y0.rest],.agg [pI y1.index_,pU y1.share,pU y1.rest]] (pI w)) (h:bJ p0 p1 p2 p3 p4=some r):PCall 203 [.v (.slice a_0 n_0 c_0),pI p1,pI p2,pI p3,g4] [PRes.row a_0 n_0 c_0 244 3 (List.map Zb.enc p0)] (fun pv ρ'=>pv=.tup []∧ρ'=[PRes.row a_0 n_0 c_0 244 3 (List.map Zb.enc r)]):=by
 unfold bJ at h
 refine aL Tryz.func203 rfl Tryz.ntmps203 Tryz.results203 rfl ?_
 refine cW (enc:=Zb.enc) (xs:=p0) (a:=a_0) gc (fun hl ha=>?_);subst hl;clear ha
 refine ag (ar [(10,pB true)] (by kernel_rfl) (bx (ar [(11,pB true)] (by kernel_rfl) (az (ae h fun q2 hq2 h=>aA ?_)))))
 refine bf (Y:=Unit) (S:=Unit) _ hq2 (fun _ _=>[(0,pO a_0 p0.length c_0),(1,pI p1),(2,pI p2),(3,pI p3),(4,g4),(10,pB true),(11,pB true)]) (fun _ _=>[PRes.row a_0 p0.length c_0 244 3 (List.map Zb.enc p0)]) () (zh7 rfl) fK ?_
 rintro _ _ o τ hb1;(try dsimp only at hb1);dsimp only [aT]
 refine aA (ag (am [21,22,23] [(12,pI (IntKind.i64.wrap (p2 - p1)))] (by kernel_rfl) (dE (am [24] [(25,pB (decide ((IntKind.i64.wrap (p2 - p1))≤12)))] (by kernel_rfl) (cZ rfl hb1 (fun hc3 hb1=>?_) fun hc3 hb1=>?_)))))
 ·refine ag ?_
  refine ae hb1 fun x4 hx4 hb1=>aj (bp 4 [(26,pO a_0 p0.length c_0),(27,pI p1),(28,pI p2),(29,g4)] (by kernel_rfl) ?_)
  refine aK rfl (dM rfl rfl (ρ1:=[_]) (bM (by exact aF) (List.Perm.refl _)) (cP hg4 hx4) ?_);rintro _ _ ⟨rfl,rfl⟩
  refine aH (gb (aB ?_))
  refine bE hb1 (fun ht=>?_);subst ht
  refine aB ?_
  obtain rfl:=osi h
  exact bg (rfl:PRV [] _ _ (.tup [])) fK ⟨rfl,rfl⟩
 refine ap ?_
 refine dE (am [31] [(32,pB (p3 == 0))] (by kernel_rfl) (cZ rfl hb1 (fun hc5 hb1=>?_) fun hc5 hb1=>?_))
 ·refine ag ?_
  refine aj (bp 4 [(33,pO a_0 p0.length c_0),(34,pI p1),(35,pI p2),(36,g4)] (by kernel_rfl) ?_)
  exact absurd hb1 (by simp)
 refine ap ?_
 refine dE (am [38] [(39,pB (!true))] (by kernel_rfl) (cZ rfl hb1 (fun hc6 hb1=>?_) fun hc6 hb1=>?_))
 ·refine ag ?_
  refine aj (bp 4 [(40,pO a_0 p0.length c_0),(41,pI p1),(42,pI p2),(43,g4)] (by kernel_rfl) ?_)
  exact absurd hb1 (by simp)
 refine ap ?_
 refine bx (aj (bp 4 [(48,pO a_0 p0.length c_0),(49,pI p1),(50,pI p2),(51,g4)] (by kernel_rfl) ?_))
 exact absurd hb1 (by simp)
end SX
end Go.Proofs.YthbphcbhedmnoaaGreatDoor
