/- A part of the proof: texts of the walk and of the plain laws, merged. No condition. -/
import Derived.Test.YtmgcadfnkchnfaaGreatDoorM1
set_option linter.unusedVariables false
set_option linter.unusedSimpArgs false
set_option maxHeartbeats 4000000
set_option maxRecDepth 100000
namespace Go.Proofs.YtmgcadfnkchnfaaGreatDoor
namespace SX
open Go
section
variable {σ:PEnv} {ρ l:List PRes} {a:Option Addr} {m c T sz:Nat} {css:List (List PV)} {α:Type} {enc:α→List PV} {xs:List α}
theorem qg (t:Nat) (ht:σ t=.v (.slice a m c)) (hp:PPick ρ (.row a m c T sz (xs.map enc)) l):Cov σ ρ (fe σ t (.slc xs.length (xs.map enc))) (.frz a m c (xs.map enc)::l):=fun _ _ _ h=>ij t ht hp h
theorem C1 (t:Nat) (ht:σ t=.v (.slice a m c)) (hm:PRes.frz a m c (xs.map enc)∈ρ):Cov σ ρ (fe σ t (.slc xs.length (xs.map enc))) ρ:=fun _ _ _ h=>xU t ht hm h
theorem tJ (T sz:Nat):Cov σ ρ σ (.row none 0 0 T sz []::ρ):=fun _ _ _ h=>fj T sz h
theorem di {n:Nat} {x:Code} {K:Exit→PPost} {b k:Nat} {cs:List PV} {ρ':List PRes} (hk:cs[k]?=some (.v (.slice none 0 0))) (hu:PUpd ρ (.b b T cs) (.b b T (cs.set k (.slc 0 []))) ρ') (h:PWC n x K σ ρ'):PWC n x K σ ρ:=fun β κ σ' r g hs hr=>by
 obtain ⟨r0,l1,l2,rfl,h3,h4⟩:=hr.upd hu
 cases h3 with
 | b ho hc =>
  obtain ⟨v,hv,hp⟩:=hc.get hk
  have e:=hp.val
  have hset:=hc.set (k:=k) (p:=.slc 0 []) (v:=v) (by rw [e];exact wq)
  have:∀ (l:List Value) (k:Nat) (v:Value),l[k]?=some v→l.set k v=l:=fun l k v h=>by
   apply List.ext_getElem?;intro i;rw [List.getElem?_set];split
   ·rename_i hik;subst hik;rw [h];have:=(List.getElem?_eq_some_iff.1 h).1;simp [this]
   rfl
  rw [this _ _ _ hv] at hset
  exact h β κ σ' _ g hs (h4 κ _ (.refl _) (.b ho hset))
end
section
variable {o:Oper} {σ:PEnv} {ρ l:List PRes} {a:Option Addr} {m c T sz:Nat} {css:List (List PV)} {K:PV→List PRes→Prop} {α:Type} {enc:α→List PV} {xs:List α}
theorem mJ (h:POpL o σ ρ fun p ρ'=>∃ a m c T sz css l,p=.v (.slice a m c)∧PPick ρ' (.row a m c T sz css) l∧K (.slc m css) l):POpL o σ ρ K:=fun κ σ' ρ' g hs hr β hi Nx hn =>
 h κ σ' ρ' g hs hr β hi Nx fun v ρ1 κ1 h1 h2 ⟨p,ρp,k1,k2,a,m,c,T,sz,css,l,e,hp,hk⟩=>by
  subst e
  obtain ⟨r,l',j1,j2,j3⟩:=k2.pick hp
  cases j2 with
  | row hb ho hc =>
   obtain ⟨i1,i2,i3⟩:=wl (h1.perm j1)
   have hv:=k1.val
   subst hv
   have:=hn _ l' (Br κ1 a) i1 (h2.trans i2) ⟨.slc m css,l,.slc i3 hb ho (hc.mono i2),j3.mono i2,hk⟩
   rwa [zo] at this
end
section
variable {n:Nat} {ops:Array Oper} {o:Oper} {rest:List Oper} {K:PPost} {σ:PEnv} {ρ ρd ρs:List PRes} {d:Nat} {c:Bool} {l:List Operand} {ts:Array Nat} {pargs:List PV} {r pf:PV} {x:Operand} {lo:List (Nat×Oper)}
theorem og_pfv {κ:Kr} {σ':Env} {ρ':List Res} {KK:Value→Kr→Prop} (g:GOK κ) (hs:Sim κ σ σ') (ho:o.op=.call { callee:=.value x,args:=l.toArray,argTypes:=ts }) (hx:PEv σ c x pf) (ha:c=true→l.map (bG σ)=pargs) (hc:c=true→PFV pf pargs r) (h:∀ v κ',Kle κ κ'→(c=true→Rp κ' r v)→KK v κ'):OpG c o σ' ρ' κ KK:=by
 refine ⟨fun hct=>?_,fun hcf=>h undef κ (.refl _) fun h=>by rw [hcf] at h;cases h⟩
 obtain ⟨f,first,cap,h1,h2⟩:=hc hct κ _ _ g (hs.pe hx hct) (by rw [← ha hct];exact jF hs l)
 exact vg ho h1 rfl h2 fun v κ' hk hv=>⟨rfl,h v κ' hk fun _=>hv⟩
theorem zy (hg:PGuardIs ops σ o c) (hd:o.dst=some d) (hlt:Nat.blt d n=true) (ho:o.op=.call { callee:=.value x,args:=l.toArray,argTypes:=ts }) (hx:PEv σ c x pf) (ha:c=true→l.map (bG σ)=pargs) (hc:c=true→PFV pf pargs r) (h:PWD n ops K lo (fe σ d (pgv c r)) ρd ρs):PWD n ops K ((1,o)::lo) σ ρd ρs:=fun β κ σ' rd rs g hs h1 h2 =>
 wd_g (hg κ σ' hs) hd hlt fun κ1 hk=>og_pfv (g.mono hk) (hs.mono hk) ho hx ha hc fun v κ' hk' hv=>h β κ' _ rd rs ((g.mono hk).mono hk') (((hs.mono hk).mono hk').upd (xQ hv)) ((h1.mono hk).mono hk') ((h2.mono hk).mono hk')
end
def flatK:List Field→Nat→List Nat→Bool
 | [],_,[]=>true
 | f::fs,k,q::ks=>(f.name != "_")&&Nat.beq f.offset k&&(match eW f.type,q with | some (.int _),0 | some .bool,1 | some .string,2=>true | _,_=>false)&&flatK fs (k+1) ks
 | _,_,_=>false
def xZ:List Nat→List Value→List Value→Option Bool
 | [],[],[]=>some true
 | 0::ks,.int k a::xs,.int k' b::ys=>match xZ ks xs ys with | some r=>cond (decide (k=k')) (some ((a == b)&&r)) none | none=>none
 | 1::ks,.bool a::xs,.bool b::ys=>match xZ ks xs ys with | some r=>some ((a == b)&&r) | none=>none
 | 2::ks,.string a::xs,.string b::ys=>match xZ ks xs ys with | some r=>some (decide (a=b)&&r) | none=>none
 | _,_,_=>none
theorem tK (d:Nat) (w:World):∀ (fs:List Field) (k:Nat) (ks:List Nat) (xs ys ax ay:List Value) (r:Bool),flatK fs k ks=true→ax.drop k=xs→ay.drop k=ys→xZ ks xs ys=some r→(Op.eqFields (d+1) ax.toArray ay.toArray fs).run Tryz.prog w=.ok r w
 | [],k,ks,xs,ys,ax,ay,r,hf,_,_,he=>by
  cases ks with
  | nil =>
   cases xs <;> cases ys <;> simp only [xZ,reduceCtorEq,eF] at he
   subst he;simp [Op.eqFields]
  | cons q ks=>cases hf
 | f::fs,k,ks,xs,ys,ax,ay,r,hf,h1,h2,he=>by
  cases ks with
  | nil=>cases hf
  | cons q ks =>
   simp only [flatK,Bool.and_eq_true,bne_iff_ne,ne_eq] at hf
   obtain ⟨⟨⟨hn,hoff⟩,hty⟩,hrest⟩:=hf
   have hoff:=Nat.eq_of_beq_eq_true hoff
   cases xs with
   | nil=>unfold xZ at he;split at he <;> simp_all
   | cons x xs =>
    cases ys with
    | nil=>unfold xZ at he;split at he <;> simp_all
    | cons y ys =>
     have g1:ax[k]?=some x:=by have:=congrArg (·[0]?) h1;simpa [List.getElem?_drop] using this
     have g2:ay[k]?=some y:=by have:=congrArg (·[0]?) h2;simpa [List.getElem?_drop] using this
     have d1:ax.drop (k+1)=xs:=by have:=congrArg (List.drop 1) h1;simpa [List.drop_drop] using this
     have d2:ay.drop (k+1)=ys:=by have:=congrArg (List.drop 1) h2;simpa [List.drop_drop] using this
     cases hd:eW f.type with
     | none=>rw [hd] at hty;cases hty
     | some D =>
      rw [hd] at hty
      have hag:j5 D=false:=by
       cases D <;> first | rfl | (exfalso;split at hty <;> simp_all)
      have p1:(part f.type ax.toArray f.offset).run Tryz.prog w=.ok x w:=by simp [part,lv hd,hag,hoff,g1]
      have p2:(part f.type ay.toArray f.offset).run Tryz.prog w=.ok y w:=by simp [part,lv hd,hag,hoff,g2]
      have fin:∀ (q r':Bool),(Op.equalIn (d+1) f.type x y).run Tryz.prog w=.ok q w→xZ ks xs ys=some r'→(q&&r')=r→(Op.eqFields (d+1) ax.toArray ay.toArray (f::fs)).run Tryz.prog w=.ok r w:=fun q r' hq1 hq2 hq3=>by
       have ih:=tK d w fs (k+1) ks xs ys ax ay r' hrest d1 d2 hq2
       simp only [Op.eqFields,if_pos hn,Sem.run_bind,p1,p2,Result.andThen_ok,hq1]
       cases q
       ·simp at hq3;subst hq3;simp
       simp at hq3;subst hq3;simp [ih]
      cases D with
      | int kk =>
       have hq0:q=0:=by rcases q with _ | _ | _ | q <;> first | rfl | (simp at hty)
       subst hq0
       cases x <;> cases y <;> simp only [xZ,reduceCtorEq] at he
       rename_i k1 a1 k2 b1
       cases hq:xZ ks xs ys with
       | none=>rw [hq] at he;cases he
       | some r' =>
        rw [hq] at he
        cases hk:decide (k1=k2) with
        | false=>simp only [hk,eu,reduceCtorEq] at he
        | true =>
         simp only [hk,dG,eF] at he
         have hk:=of_decide_eq_true hk;subst hk
         exact fin (a1 == b1) r' (run_equalIn_int w d f.type k1 kk a1 b1 (bW hd)) hq he
      | bool =>
       have hq0:q=1:=by rcases q with _ | _ | _ | q <;> first | rfl | (simp at hty)
       subst hq0
       cases x <;> cases y <;> simp only [xZ,reduceCtorEq] at he
       rename_i a1 b1
       cases hq:xZ ks xs ys with
       | none=>rw [hq] at he;cases he
       | some r'=>rw [hq] at he;simp only [eF] at he;exact fin (a1 == b1) r' (run_equalIn_bool' w d f.type a1 b1 (bW hd)) hq he
      | string =>
       have hq0:q=2:=by rcases q with _ | _ | _ | q <;> first | rfl | (simp at hty)
       subst hq0
       cases x <;> cases y <;> simp only [xZ,reduceCtorEq] at he
       rename_i a1 b1
       cases hq:xZ ks xs ys with
       | none=>rw [hq] at he;cases he
       | some r'=>rw [hq] at he;simp only [eF] at he;exact fin (decide (a1=b1)) r' (by rw [run_equalIn_string w d f.type a1 b1 (bW hd),vX]) hq he
      | _=>exfalso;revert hty;simp
def C2:List PV→Option (List Value)
 | []=>some []
 | .v x::r=>match C2 r with | some l=>some (x::l) | none=>none
 | _=>none
theorem wB {κ:Kr}:∀ {cs:List PV} {xs ds:List Value},C2 cs=some xs→Rps κ cs ds→ds=xs
 | [],xs,ds,h,hr=>by simp only [C2,eF] at h;subst h;exact hr.nil_inv
 | c::cs,xs,ds,h,hr=>by
  obtain ⟨v,ws,rfl,h1,h2⟩:=hr.cons_inv
  cases c with
  | v x =>
   simp only [C2] at h
   cases hu:C2 cs with
   | none=>rw [hu] at h;cases h
   | some l=>rw [hu] at h;simp only [eF] at h;subst h;rw [h1.val,wB hu h2]
  | _=>cases h
theorem AA {o:Oper} {σ:PEnv} {ρ:List PRes} {c:Bool} {x y:Operand} {op:BinOp} {t t':Nat} {cs ds:List PV} {xs ys:List Value} {r r':Bool} (ks:List Nat) (ho:o.op=.binOp op t x y t') (h1:Tryz.prog.underlying t=some (.struct (Tryz.prog.fieldsOf t))) (h2:Tryz.prog.stoodInHeld t=false) (h3:Tryz.prog.eqGuardType Tryz.prog.depth t=false) (h4:flatK (Tryz.prog.fieldsOf t).toList 0 ks=true)
    (hx:PEv σ c x (.agg cs)) (hy:PEv σ c y (.agg ds)) (hxs:C2 cs=some xs) (hys:C2 ds=some ys) (he:xZ ks xs ys=some r) (hr:(match op with | .eql=>some r | .neq=>some (!r) | _=>none)=some r'):POpQ c o σ ρ (.v (.bool r')):=fun κ σ' ρ' g hs hrr=>by
  cases c with
  | false=>exact zt
  | true =>
    refine ⟨.bool r',fun _=>.v rfl,fun _ w _=>?_⟩
    have e1:ev σ' x=.agg xs.toArray:=by
      have:=hs.pe hx rfl;generalize ev σ' x=w1 at this;cases this with
      | agg ho hc=>rw [wB hxs hc]
    have e2:ev σ' y=.agg ys.toArray:=by
      have:=hs.pe hy rfl;generalize ev σ' y=w1 at this;cases this with
      | agg ho hc=>rw [wB hys hc]
    have hrun:(Op.equalIn 10000 t (.agg xs.toArray) (.agg ys.toArray)).run Tryz.prog w=.ok r w:=by
      rw [run_equalIn_struct w 9999 t _ _ h1 h2]
      exact tK 9998 w _ 0 ks xs ys xs ys r h4 rfl rfl he
    simp only [execOp,ho,e1,e2,Sem.run_bind]
    rw [run_eqGuard_agg w op t x y _ _ h3]
    simp only [Result.andThen_ok]
    cases op <;> simp only [reduceCtorEq,eF] at hr
    · subst hr;rw [run_eql_struct,hrun];simp
    subst hr;rw [run_neq_struct,hrun];simp
theorem C3 {o:Oper} {σ:PEnv} {ρ:List PRes} {x:Operand} {s d e n cp T:Nat} {a:Option Addr} {xs:List Int} (ho:o.op=.convert s d x) (h1:eW s=some (.slice e)) (he:eW e=some (.int .u8)) (hd:eW d=some .string) (hx:bG σ x=.v (.slice a n cp)) (hm:PRes.row a n cp T 1 (xs.map eB)∈ρ) (hn:n=xs.length) {K:PV→List PRes→Prop} (h:K (.v (.string (strOfNums xs))) ρ):POpL o σ ρ K:=fun κ σ' ρ' g hs hrr β hinv=>by
 obtain ⟨r,hr1,hr2⟩:=hrr.mem hm
 cases hr2 with
 | row hb ho1 hss =>
  rename_i dss
  have hrow:=xM hr1 β hinv
  have hown:=kF (hinv.own _ hr1)
  have hd2:dss=xs.map fun b=>[.int .u8 b]:=by
   clear hrow hown hr1 ho1 hm hx h
   subst hn
   clear hb
   induction xs generalizing dss with
   | nil=>rw [List.map_nil] at hss;rw [hss.nil_inv];rfl
   | cons z zs ih =>
    rw [List.map_cons] at hss
    obtain ⟨v,ws,rfl,k1,k2⟩:=hss.cons_inv
    obtain ⟨v1,w1,rfl,k3,k4⟩:=k1.cons_inv
    rw [ih k2,k3.val,k4.nil_inv];rfl
  subst hd2
  have hq:=CI (c:=true) (ρ:=ρ') (κ:=κ) ho h1 he hd (.p (hs.v1 hx)) (fun _=>CK hr1 (fun h=>by obtain ⟨b,e⟩:=hrow.2 h;rw [e];simp) hrow.1.1 hown.2.2)
  refine ol_q hq ⟨_,ρ,.v ?_,hrr,h⟩ β hinv
  have:(strOfNums xs).size=xs.length:=by simp [strOfNums,ByteArray.size]
  simp only [ra,this];exact Nat.ble_eq_true_of_le (by omega)
def PWS (n:Nat) (ops:Array Oper) (K:PPost) (m:Nat) (L:Array Bool) (σ:PEnv) (ρd ρs:List PRes):Prop :=
 ∀ β κ σ' rd rs,GOK κ→Sim κ σ σ'→RRels κ ρd rd→RRels κ ρs rs→WS β n ops (lft K) m L σ' rd rs κ
def PStep (n:Nat) (ops:Array Oper) (K:PPost) (m:Nat) (L:Array Bool) (σ:PEnv) (ρd ρs:List PRes) (i:Nat):Prop :=
 ∀ β κ σ' rd rs,GOK κ→Sim κ σ σ'→RRels κ ρd rd→RRels κ ρs rs→Step β n ops (lft K) m L σ' rd rs κ i
section
variable {n m:Nat} {ops:Array Oper} {K:PPost} {L:Array Bool} {σ:PEnv} {ρ ρd ρs:List PRes} {o:Oper} {i d:Nat} {p:PV} {c:Bool}
theorem hU {K:Exit→PPost} {id:Nat} {l:List Oper} (ρs:List PRes) (hp:ρ.Perm (ρd++ρs)) (h:PWS n l.toArray (K .normal) l.length (Array.replicate l.length false) σ ρd ρs):PWC n (.region id l.toArray true) K σ ρ:=fun β κ σ' ρ' g hs hr=>by
 obtain ⟨rs',h1,h2⟩:=hr.perm hp
 obtain ⟨r1,r2,rfl,h3,h4⟩:=h2.split
 exact CM h1 fun κ1 hk=>h β κ1 σ' r1 r2 (g.mono hk) (hs.mono hk) (h3.mono hk) (h4.mono hk)
theorem aT (hr:(Region.ready .any ops L).isEmpty=true) (h:K σ (ρd++ρs)):PWS n ops K m L σ ρd ρs:=fun β κ σ' rd rs g hs h1 h2=>ws_done hr ⟨σ,ρd++ρs,hs,h1.app h2,h⟩
theorem az (i:Nat) (hok:okQ ops L i=true) (ho:ops[i]?=some o) (hg:o.guard=none) (hd:o.dst=some d) (hlt:Nat.blt d n=true) (h:POpQ true o σ ρs p) (hw:PWS n ops K m (L.setIfInBounds i true) (fe σ d p) ρd ρs):PWS n ops K (m+1) L σ ρd ρs:=fun β κ σ' rd rs g hs h1 h2=>by
 obtain ⟨v,k1,k2⟩:=h κ σ' rs g hs h2
 exact ws_q i hok ho hg hd hlt k2 (hw β κ _ rd rs g (hs.upd (k1 rfl)) h1 h2)
theorem ai (i:Nat) (hr:(Region.ready .any ops L == [i])=true) (h:PStep n ops K m L σ ρd ρs i):PWS n ops K (m+1) L σ ρd ρs:=fun β κ σ' rd rs g hs h1 h2=>ws_one i hr (h β κ σ' rd rs g hs h1 h2)
theorem bA (i j:Nat) (hr:(Region.ready .any ops L == [i,j])=true) (h:PStep n ops K m L σ ρd ρs i) (h':PStep n ops K m L σ ρd ρs j):PWS n ops K (m+1) L σ ρd ρs:=fun β κ σ' rd rs g hs h1 h2=>ws_two i j hr (h β κ σ' rd rs g hs h1 h2) (h' β κ σ' rd rs g hs h1 h2)
theorem jm (i j k:Nat) (hr:(Region.ready .any ops L == [i,j,k])=true) (h:PStep n ops K m L σ ρd ρs i) (h':PStep n ops K m L σ ρd ρs j) (h'':PStep n ops K m L σ ρd ρs k):PWS n ops K (m+1) L σ ρd ρs:=fun β κ σ' rd rs g hs h1 h2=>CN i j k hr (h β κ σ' rd rs g hs h1 h2) (h' β κ σ' rd rs g hs h1 h2) (h'' β κ σ' rd rs g hs h1 h2)
theorem C4 (i j k l:Nat) (hr:(Region.ready .any ops L == [i,j,k,l])=true) (h:PStep n ops K m L σ ρd ρs i) (h':PStep n ops K m L σ ρd ρs j) (h'':PStep n ops K m L σ ρd ρs k) (h4:PStep n ops K m L σ ρd ρs l):PWS n ops K (m+1) L σ ρd ρs:=fun β κ σ' rd rs g hs h1 h2=>ws_four i j k l hr (h β κ σ' rd rs g hs h1 h2) (h' β κ σ' rd rs g hs h1 h2) (h'' β κ σ' rd rs g hs h1 h2) (h4 β κ σ' rd rs g hs h1 h2)
theorem af (ho:ops[i]?=some o) (hg:o.guard=none) (hd:o.dst=some d) (hlt:Nat.blt d n=true) (h:POpL o σ ρd fun p ρ'=>PWS n ops K m (L.setIfInBounds i true) (fe σ d p) ρ' ρs):PStep n ops K m L σ ρd ρs i:=fun β κ σ' rd rs g hs h1 h2 =>
 step_l ho hg hd hlt (((h κ σ' rd g hs h1).framed (ρf:=rs)).mono fun v ρ' κ' hk ⟨ρ1,e,pv,ρp,k1,k2,k3⟩=>⟨ρ1,e,k3 β κ' _ ρ1 rs (g.mono hk) ((hs.mono hk).upd k1) k2 (h2.mono hk)⟩)
theorem aQ (ho:ops[i]?=some o) (hg:o.guard=none) (hd:o.dst=none) (h:POpL o σ ρd fun _ ρ'=>PWS n ops K m (L.setIfInBounds i true) σ ρ' ρs):PStep n ops K m L σ ρd ρs i:=fun β κ σ' rd rs g hs h1 h2 =>
 step_l0 ho hg hd (((h κ σ' rd g hs h1).framed (ρf:=rs)).mono fun v ρ' κ' hk ⟨ρ1,e,pv,ρp,k1,k2,k3⟩=>⟨ρ1,e,k3 β κ' _ ρ1 rs (g.mono hk) (hs.mono hk) k2 (h2.mono hk)⟩)
theorem dg {f:Nat} {l:List Operand} {ts:Array Nat} {pargs:List PV} {v:PV} (ho:ops[i]?=some o) (hg:o.guard=none) (hd:o.dst=some d) (hlt:Nat.blt d n=true) (hop:o.op=.call { callee:=.value (.func f),args:=l.toArray,argTypes:=ts }) (ha:l.map (bG σ)=pargs) (hc:PF f pargs v) (h:PWS n ops K m (L.setIfInBounds i true) (fe σ d v) ρd ρs):PStep n ops K m L σ ρd ρs i :=
 af ho hg hd hlt (pl_call hop ha hc h)
end
section
variable {n:Nat} {x:Code} {K:Exit→PPost} {σ:PEnv} {ρ:List PRes} {a:Option Addr} {m c T sz:Nat} {α:Type} {enc:α→List PV} {xs:List α}
theorem jn (hm:PRes.row a m c T sz (xs.map enc)∈ρ) (h:xs.length=m→(0<m→a=some ⟨rc a,0,none⟩)→PWC n x K σ ρ):PWC n x K σ ρ:=fun β κ σ' ρ' g hs hr hi=>by
 obtain ⟨r,hr1,hr2⟩:=hr.mem hm
 cases hr2 with
 | row hb ho hc =>
  have h1:=hi.own _ hr1
  have e1:=(kF h1).2.1;have e2:=hc.len;rw [List.length_map] at e2
  exact h (by omega) (fun h0=>nT h1 h0) β κ σ' ρ' g hs hr hi
theorem lx {cc:Bool} {o:Oper} {y z0:Operand} {t by':Nat} {k:IntKind} {i:Int} {z:Value} {e:α} (hl:xs.length=m) (ha:0<m→a=some ⟨rc a,0,none⟩) (ho:o.op=.indexAddr t y z0) (hu:eW t=some (.slice T)) (hi:fS T=some (z,sz,by')) (hx:PEv σ cc y (.v (.slice a m c))) (hy:PEv σ cc z0 (.v (.int k i))) (hm:cc=true→idx xs i=some e):POpQ cc o σ ρ (.v (.pointer (some ⟨rc a,i.toNat * sz,none⟩))):=fun κ σ' ρ' g hs hrr=>by
 refine ⟨_,fun _=>.v rfl,fun hc w hst=>?_⟩
 obtain ⟨h0,hmm⟩:=jH (hm hc)
 have hlt:=(List.getElem?_eq_some_iff.1 hmm).1
 have h:=p8 (c:=true) (ρ:=ρ') (κ:=κ) (j:=i.toNat) ho hu hi (fun _=>by rw [hs.ve hx hc,ha (by omega)]) (fun _=>hs.ve hy hc) (fun _=>by omega) (fun _=>by omega) rfl w hst
 rwa [Nat.zero_add] at h
end
theorem BE {t E:Nat} (hu:eW t=some (.slice E)) (a:Option Addr) (n c:Nat) (x y:Operand) (w:World):((eqGuard .eql t x y (.slice a n c) (.slice none 0 0)).run Tryz.prog w=.ok () w)∧(binOp .eql t (.slice a n c) (.slice none 0 0)).run Tryz.prog w=.ok (.bool a.isNone) w:=by
 constructor
 ·cases a <;> simp [eqGuard]
 simp only [binOp,Sem.run_bind,run_equal_slice_nil w t E a n c (bW hu),Result.andThen_ok,Sem.run_pure]
theorem ri {n:Nat} {ops:Array Oper} {o:Oper} {rest:List Oper} {K:PPost} {σ:PEnv} {ρ:List PRes} {d t t' E mm:Nat} {x:Operand} {xs:List (List PV)} (hg:o.guard=none) (hd:o.dst=some d) (hlt:Nat.blt d n=true) (ho:o.op=.binOp .eql t x (.const (.slice none 0 0)) t') (hu:eW t=some (.slice E)) (hx:bG σ x=.slc mm xs) (h:∀ b:Bool,(b=true→xs=[])→PWL n ops rest K (fe σ d (.v (.bool b))) ρ):PWL n ops (o::rest) K σ ρ:=fun β κ σ' ρ' g hs hr=>by
 have he:=hs.ev x
 rw [hx] at he
 generalize hw':ev σ' x=w at he
 cases he with
 | slc hsl hb h1 hss =>
  rename_i a c sz css
  have hq:OpQ true o σ' ρ' κ (.bool a.isNone):=fun _ w _=>by
   obtain ⟨g1,g2⟩:=BE hu a mm c x (.const (.slice none 0 0)) w
   have e2:ev σ' (.const (.slice none 0 0))=.slice none 0 0:=rfl
   simp only [execOp,ho,hw',e2,Sem.run_bind,g1,Result.andThen_ok,g2,Sem.run_pure]
  refine ce hg hd hlt hq (h a.isNone (fun hn=>?_) β κ _ ρ' g (hs.upd (.v rfl)) hr)
  cases a with
  | some ad=>cases hn
  | none =>
   have:mm=0:=by
    rcases Nat.eq_zero_or_pos mm with h | h
    ·exact h
    obtain ⟨b,off,e,_⟩:=hsl.at_ h;cases e
   subst this
   have e1:=hss.len;have e2:=hsl.len
   exact List.eq_nil_of_length_eq_zero (by omega)
theorem C5 {α:Type} (l:List α) (k:Nat) (v:α) (h:l[k]?=some v):l.set k v=l:=by
 apply List.ext_getElem?;intro i;rw [List.getElem?_set];split
 ·rename_i hik;subst hik;rw [h];have:=(List.getElem?_eq_some_iff.1 h).1;simp [this]
 rfl
section
variable {n:Nat} {x:Code} {K:Exit→PPost} {KL:PPost} {σ:PEnv} {ρ:List PRes} {ops:Array Oper} {lo:List Oper} {cs:List PV} {a:Option Addr} {m c:Nat} {css:List (List PV)} {α:Type} {enc:α→List PV} {xs:List α}
theorem agg_nil {κ:Kr} {w:Value} {k:Nat} (h:Rp κ (.agg cs) w) (hk:cs[k]?=some (.v (.slice none 0 0))):Rp κ (.agg (cs.set k (.slc 0 []))) w:=by
 cases h with
 | agg ho hc =>
  obtain ⟨v,hv,hp⟩:=hc.get hk
  have hset:=hc.set (k:=k) (p:=.slc 0 []) (v:=v) (by rw [hp.val];exact wq)
  rw [C5 _ _ _ hv] at hset
  exact .agg ho hset
theorem im (t k:Nat) (ht:σ t=.agg cs) (hk:cs[k]?=some (.v (.slice none 0 0))) (h:PWL n ops lo KL (fe σ t (.agg (cs.set k (.slc 0 [])))) ρ):PWL n ops lo KL σ ρ:=fun β κ σ' ρ' g hs hr=>h β κ σ' ρ' g (nR hs (agg_nil (by have:=hs t;rwa [ht] at this) hk)) hr
end
def zpv:Value→PV
 | .slice none 0 0=>.slc 0 []
 | x=>cond (ra x) (.v x) .any
theorem AB {κ:Kr}:∀ (l:List Value),Rps κ (l.map zpv) l
 | []=>.nil
 | x::l=>.cons (by unfold zpv;split;exact wq;exact wn) (AB l)
theorem eM {o:Oper} {σ:PEnv} {ρ:List PRes} {c:Bool} {t sz by':Nat} {parts:List (Nat×Operand)} {fl:List (Nat×Nat)} {zs:List Value} {zp cs:List PV} (hc:c=true) (ho:o.op=.build t parts.toArray) (hz:fS t=some (.agg zs.toArray,sz,by')) (hf:pW t=some fl) (hall:(fl.all fun p=>(fS p.2).isSome)=true) (hzp:zs.map zpv=zp) (hz1:zs.all Value.oneCell'=true) (h:PFill σ fl zp parts cs):POpQ c o σ ρ (.agg cs):=fun κ σ' ρ' g hs hr=>by
 subst hc
 obtain ⟨cv,h1,h2,h3⟩:=h.real hs (zv:=zs) (by rw [← hzp];exact AB zs) (fun u hu=>List.all_eq_true.1 hz1 u hu)
 exact ⟨_,fun _=>.agg h3 h2,xJ ho hz hf hall h1⟩
def gN (x y c:Int):Option (Int×Int):=if 0≤x∧0≤y∧0≤c∧c≤1 then some ((x+y+c) % 18446744073709551616,(x+y+c) / 18446744073709551616) else none
theorem ya {o:Oper} {σ:PEnv} {ρ:List PRes} {l:List Operand} {ts:Array Nat} {x y c:Int} {r:Int×Int} {K:PV→List PRes→Prop} (ho:o.op=.call { callee:=.value (.func 181),args:=l.toArray,argTypes:=ts }) (ha:l.map (bG σ)=[.v (.int .u64 x),.v (.int .u64 y),.v (.int .u64 c)]) (hr:gN x y c=some r) (h:K (.tup [.v (.int .u64 r.1),.v (.int .u64 r.2)]) ρ):POpL o σ ρ K:=fun κ σ' ρ' g hs hrr=>by
 unfold gN at hr
 split at hr
 ·rename_i hh
  injection hr with hr;subst hr
  have hargs:=jF hs l
  rw [ha] at hargs
  obtain ⟨v1,w1,e1,h1,hargs⟩:=hargs.cons_inv
  obtain ⟨v2,w2,rfl,h2,hargs⟩:=hargs.cons_inv
  obtain ⟨v3,w3,rfl,h3,hargs⟩:=hargs.cons_inv
  rw [hargs.nil_inv,h1.val,h2.val,h3.val] at e1
  have hq:OpQ true o σ' ρ' κ (.tuple #[.int .u64 ((x+y+c) % 18446744073709551616),.int .u64 ((x+y+c) / 18446744073709551616)]):=fun _ w _=>by
   have hcall:=run_callFunc_extern (P:=Tryz.prog) Tryz.func181 (by kernel_rfl) (by kernel_rfl) (by kernel_rfl) (e:=add64Entry) (by kernel_rfl) #[.int .u64 x,.int .u64 y,.int .u64 c] w
   rw [run_add64 x y c hh.1 hh.2.1 hh.2.2.1 hh.2.2.2] at hcall
   simp only [Result.andThen_ok] at hcall
   unfold execOp
   simp only [ho,ev,resolve,Deferred.ofValue,Sem.run_bind,Sem.run_pure,Result.andThen_ok,invoke,List.map_toArray,e1]
   simp only [Array.append_empty,Array.empty_append,hcall]
  exact ol_q hq ⟨_,ρ,.tup (ws:=[_,_]) (.cons (.v rfl) (.cons (.v rfl) .nil)),hrr,h⟩
 cases hr
theorem dt {α:Type} {a:α} {l:List α}:a∈a::l:=List.Mem.head _
theorem fR {α:Type} {a b0:α} {l:List α}:a∈b0::a::l:=List.Mem.tail _ (List.Mem.head _)
theorem kb {α:Type} {a b0 b1:α} {l:List α}:a∈b0::b1::a::l:=List.Mem.tail _ (List.Mem.tail _ (List.Mem.head _))
theorem Ey {α:Type} {a b0 b1 b2:α} {l:List α}:a∈b0::b1::b2::a::l:=List.Mem.tail _ (List.Mem.tail _ (List.Mem.tail _ (List.Mem.head _)))
theorem zm4 {α:Type} {a b0 b1 b2 b3:α} {l:List α}:a∈b0::b1::b2::b3::a::l:=List.Mem.tail _ (List.Mem.tail _ (List.Mem.tail _ (List.Mem.tail _ (List.Mem.head _))))
theorem zm5 {α:Type} {a b0 b1 b2 b3 b4:α} {l:List α}:a∈b0::b1::b2::b3::b4::a::l:=List.Mem.tail _ (List.Mem.tail _ (List.Mem.tail _ (List.Mem.tail _ (List.Mem.tail _ (List.Mem.head _)))))
theorem zm6 {α:Type} {a b0 b1 b2 b3 b4 b5:α} {l:List α}:a∈b0::b1::b2::b3::b4::b5::a::l:=List.Mem.tail _ (List.Mem.tail _ (List.Mem.tail _ (List.Mem.tail _ (List.Mem.tail _ (List.Mem.tail _ (List.Mem.head _))))))
theorem zm7 {α:Type} {a b0 b1 b2 b3 b4 b5 b6:α} {l:List α}:a∈b0::b1::b2::b3::b4::b5::b6::a::l:=List.Mem.tail _ (List.Mem.tail _ (List.Mem.tail _ (List.Mem.tail _ (List.Mem.tail _ (List.Mem.tail _ (List.Mem.tail _ (List.Mem.head _)))))))
theorem zm8 {α:Type} {a b0 b1 b2 b3 b4 b5 b6 b7:α} {l:List α}:a∈b0::b1::b2::b3::b4::b5::b6::b7::a::l:=List.Mem.tail _ (List.Mem.tail _ (List.Mem.tail _ (List.Mem.tail _ (List.Mem.tail _ (List.Mem.tail _ (List.Mem.tail _ (List.Mem.tail _ (List.Mem.head _))))))))
theorem zm9 {α:Type} {a b0 b1 b2 b3 b4 b5 b6 b7 b8:α} {l:List α}:a∈b0::b1::b2::b3::b4::b5::b6::b7::b8::a::l:=List.Mem.tail _ (List.Mem.tail _ (List.Mem.tail _ (List.Mem.tail _ (List.Mem.tail _ (List.Mem.tail _ (List.Mem.tail _ (List.Mem.tail _ (List.Mem.tail _ (List.Mem.head _)))))))))
theorem zm10 {α:Type} {a b0 b1 b2 b3 b4 b5 b6 b7 b8 b9:α} {l:List α}:a∈b0::b1::b2::b3::b4::b5::b6::b7::b8::b9::a::l:=List.Mem.tail _ (List.Mem.tail _ (List.Mem.tail _ (List.Mem.tail _ (List.Mem.tail _ (List.Mem.tail _ (List.Mem.tail _ (List.Mem.tail _ (List.Mem.tail _ (List.Mem.tail _ (List.Mem.head _))))))))))
theorem zm11 {α:Type} {a b0 b1 b2 b3 b4 b5 b6 b7 b8 b9 b10:α} {l:List α}:a∈b0::b1::b2::b3::b4::b5::b6::b7::b8::b9::b10::a::l:=List.Mem.tail _ (List.Mem.tail _ (List.Mem.tail _ (List.Mem.tail _ (List.Mem.tail _ (List.Mem.tail _ (List.Mem.tail _ (List.Mem.tail _ (List.Mem.tail _ (List.Mem.tail _ (List.Mem.tail _ (List.Mem.head _)))))))))))
theorem zm12 {α:Type} {a b0 b1 b2 b3 b4 b5 b6 b7 b8 b9 b10 b11:α} {l:List α}:a∈b0::b1::b2::b3::b4::b5::b6::b7::b8::b9::b10::b11::a::l:=List.Mem.tail _ (List.Mem.tail _ (List.Mem.tail _ (List.Mem.tail _ (List.Mem.tail _ (List.Mem.tail _ (List.Mem.tail _ (List.Mem.tail _ (List.Mem.tail _ (List.Mem.tail _ (List.Mem.tail _ (List.Mem.tail _ (List.Mem.head _))))))))))))
theorem zm13 {α:Type} {a b0 b1 b2 b3 b4 b5 b6 b7 b8 b9 b10 b11 b12:α} {l:List α}:a∈b0::b1::b2::b3::b4::b5::b6::b7::b8::b9::b10::b11::b12::a::l:=List.Mem.tail _ (List.Mem.tail _ (List.Mem.tail _ (List.Mem.tail _ (List.Mem.tail _ (List.Mem.tail _ (List.Mem.tail _ (List.Mem.tail _ (List.Mem.tail _ (List.Mem.tail _ (List.Mem.tail _ (List.Mem.tail _ (List.Mem.tail _ (List.Mem.head _)))))))))))))
theorem zmv {n:Nat} {ops:Array Oper} {o:Oper} {rest:List Oper} {K:PPost} {σ:PEnv} {ρ:List PRes} {d:Nat} {x:Operand} {p:PV} (hg:o.guard=none) (hd:o.dst=some d) (hlt:Nat.blt d n=true) (ho:o.op=.move x) (hx:bG σ x=p) (hw:PWL n ops rest K (fe σ d p) ρ):PWL n ops (o::rest) K σ ρ:=bM hg hd hlt (cM ho (.p hx)) hw
theorem zas {n:Nat} {ops:Array Oper} {o:Oper} {rest:List Oper} {K:PPost} {σ:PEnv} {ρ:List PRes} {d:Nat} {x:Operand} {p:PV} (hg:o.guard=none) (hd:o.dst=some d) (hlt:Nat.blt d n=true) (ho:o.op=.assign x) (hx:bG σ x=p) (hw:PWL n ops rest K (fe σ d p) ρ):PWL n ops (o::rest) K σ ρ:=bM hg hd hlt (be ho (.p hx)) hw
theorem zex {n:Nat} {ops:Array Oper} {o:Oper} {rest:List Oper} {K:PPost} {σ:PEnv} {ρ:List PRes} {d i:Nat} {vs:List PV} {x:Operand} {p:PV} (hg:o.guard=none) (hd:o.dst=some d) (hlt:Nat.blt d n=true) (ho:o.op=.extract x i) (hx:bG σ x=.tup vs) (hr:vs[i]?=some p) (hw:PWL n ops rest K (fe σ d p) ρ):PWL n ops (o::rest) K σ ρ:=bM hg hd hlt (tG ho (.p hx) hr) hw
def rg (a:Nat):Nat→List Nat
  | 0=>[]
  | n+1=>a::rg (a+1) n
theorem kU {n:Nat} {x y:Code} {K:Exit→PPost} {σ:PEnv} {ρ:List PRes} {α:Type} {c:Operand} {p:Bool} {a b r:α} (hc:bG σ c=.v (.bool p)) (h:cond p a b=r) (ht:p=true→a=r→PWC n x K σ ρ) (hf:p=false→b=r→PWC n y K σ ρ):PWC n (.cond c x y) K σ ρ:=qd hc (fun e=>ht e (cond_t e h)) (fun e=>hf e (cond_f e h))
theorem nG {σ:PEnv} {d0:Nat} {v0:PV} (h:σ d0=v0):PHolds σ [(d0,v0)]:=by cases h;exact gu rfl (sL)
theorem cN {x0 v0:PV} {l:List PV}:PSplice (x0::l) 0 [v0] (v0::l):=eH (Ex)
theorem cq {x0:PRes} {l:List PRes}:PSub [x0] (x0::l):=bq aN (bZ)
theorem eN {σ:PEnv} {d0 d1:Nat} {v0 v1:PV} (h:(σ d0,σ d1)=(v0,v1)):PHolds σ [(d0,v0),(d1,v1)]:=by cases h;exact gu rfl (gu rfl (sL))
theorem nC {x0 v0 x1 v1:PV} {l:List PV}:PSplice (x0::x1::l) 0 [v0,v1] (v0::v1::l):=eH (eH (Ex))
theorem sM {x0 x1:PRes} {l:List PRes}:PSub [x0,x1] (x0::x1::l):=bq aN (bq aN (bZ))
theorem kH {σ:PEnv} {d0 d1 d2:Nat} {v0 v1 v2:PV} (h:(σ d0,σ d1,σ d2)=(v0,v1,v2)):PHolds σ [(d0,v0),(d1,v1),(d2,v2)]:=by cases h;exact gu rfl (gu rfl (gu rfl (sL)))
theorem AC {x0 v0 x1 v1 x2 v2:PV} {l:List PV}:PSplice (x0::x1::x2::l) 0 [v0,v1,v2] (v0::v1::v2::l):=eH (eH (eH (Ex)))
theorem kY {x0 x1 x2:PRes} {l:List PRes}:PSub [x0,x1,x2] (x0::x1::x2::l):=bq aN (bq aN (bq aN (bZ)))
theorem iP {σ:PEnv} {d0 d1 d2 d3:Nat} {v0 v1 v2 v3:PV} (h:(σ d0,σ d1,σ d2,σ d3)=(v0,v1,v2,v3)):PHolds σ [(d0,v0),(d1,v1),(d2,v2),(d3,v3)]:=by cases h;exact gu rfl (gu rfl (gu rfl (gu rfl (sL))))
theorem rW {x0 v0 x1 v1 x2 v2 x3 v3:PV} {l:List PV}:PSplice (x0::x1::x2::x3::l) 0 [v0,v1,v2,v3] (v0::v1::v2::v3::l):=eH (eH (eH (eH (Ex))))
theorem wC {x0 x1 x2 x3:PRes} {l:List PRes}:PSub [x0,x1,x2,x3] (x0::x1::x2::x3::l):=bq aN (bq aN (bq aN (bq aN (bZ))))
theorem mv {σ:PEnv} {d0 d1 d2 d3 d4:Nat} {v0 v1 v2 v3 v4:PV} (h:(σ d0,σ d1,σ d2,σ d3,σ d4)=(v0,v1,v2,v3,v4)):PHolds σ [(d0,v0),(d1,v1),(d2,v2),(d3,v3),(d4,v4)]:=by cases h;exact gu rfl (gu rfl (gu rfl (gu rfl (gu rfl (sL)))))
theorem zl5 {x0 v0 x1 v1 x2 v2 x3 v3 x4 v4:PV} {l:List PV}:PSplice (x0::x1::x2::x3::x4::l) 0 [v0,v1,v2,v3,v4] (v0::v1::v2::v3::v4::l):=eH (eH (eH (eH (eH (Ex)))))
theorem zs5 {x0 x1 x2 x3 x4:PRes} {l:List PRes}:PSub [x0,x1,x2,x3,x4] (x0::x1::x2::x3::x4::l):=bq aN (bq aN (bq aN (bq aN (bq aN (bZ)))))
theorem tL {σ:PEnv} {d0 d1 d2 d3 d4 d5:Nat} {v0 v1 v2 v3 v4 v5:PV} (h:(σ d0,σ d1,σ d2,σ d3,σ d4,σ d5)=(v0,v1,v2,v3,v4,v5)):PHolds σ [(d0,v0),(d1,v1),(d2,v2),(d3,v3),(d4,v4),(d5,v5)]:=by cases h;exact gu rfl (gu rfl (gu rfl (gu rfl (gu rfl (gu rfl (sL))))))
theorem tM {σ:PEnv} {d0 d1 d2 d3 d4 d5 d6:Nat} {v0 v1 v2 v3 v4 v5 v6:PV} (h:(σ d0,σ d1,σ d2,σ d3,σ d4,σ d5,σ d6)=(v0,v1,v2,v3,v4,v5,v6)):PHolds σ [(d0,v0),(d1,v1),(d2,v2),(d3,v3),(d4,v4),(d5,v5),(d6,v6)]:=by cases h;exact gu rfl (gu rfl (gu rfl (gu rfl (gu rfl (gu rfl (gu rfl (sL)))))))
theorem Ez {x0 v0 x1 v1 x2 v2 x3 v3 x4 v4 x5 v5 x6 v6:PV} {l:List PV}:PSplice (x0::x1::x2::x3::x4::x5::x6::l) 0 [v0,v1,v2,v3,v4,v5,v6] (v0::v1::v2::v3::v4::v5::v6::l):=eH (eH (eH (eH (eH (eH (eH (Ex)))))))
theorem EA {σ:PEnv} {d0 d1 d2 d3 d4 d5 d6 d7:Nat} {v0 v1 v2 v3 v4 v5 v6 v7:PV} (h:(σ d0,σ d1,σ d2,σ d3,σ d4,σ d5,σ d6,σ d7)=(v0,v1,v2,v3,v4,v5,v6,v7)):PHolds σ [(d0,v0),(d1,v1),(d2,v2),(d3,v3),(d4,v4),(d5,v5),(d6,v6),(d7,v7)]:=by cases h;exact gu rfl (gu rfl (gu rfl (gu rfl (gu rfl (gu rfl (gu rfl (gu rfl (sL))))))))
theorem AD {x0 v0 x1 v1 x2 v2 x3 v3 x4 v4 x5 v5 x6 v6 x7 v7:PV} {l:List PV}:PSplice (x0::x1::x2::x3::x4::x5::x6::x7::l) 0 [v0,v1,v2,v3,v4,v5,v6,v7] (v0::v1::v2::v3::v4::v5::v6::v7::l):=eH (eH (eH (eH (eH (eH (eH (eH (Ex))))))))
theorem qi {σ:PEnv} {d0 d1 d2 d3 d4 d5 d6 d7 d8:Nat} {v0 v1 v2 v3 v4 v5 v6 v7 v8:PV} (h:(σ d0,σ d1,σ d2,σ d3,σ d4,σ d5,σ d6,σ d7,σ d8)=(v0,v1,v2,v3,v4,v5,v6,v7,v8)):PHolds σ [(d0,v0),(d1,v1),(d2,v2),(d3,v3),(d4,v4),(d5,v5),(d6,v6),(d7,v7),(d8,v8)]:=by cases h;exact gu rfl (gu rfl (gu rfl (gu rfl (gu rfl (gu rfl (gu rfl (gu rfl (gu rfl (sL)))))))))
theorem C6 {x0 v0 x1 v1 x2 v2 x3 v3 x4 v4 x5 v5 x6 v6 x7 v7 x8 v8:PV} {l:List PV}:PSplice (x0::x1::x2::x3::x4::x5::x6::x7::x8::l) 0 [v0,v1,v2,v3,v4,v5,v6,v7,v8] (v0::v1::v2::v3::v4::v5::v6::v7::v8::l):=eH (eH (eH (eH (eH (eH (eH (eH (eH (Ex)))))))))
theorem zq {t:Nat} {R:PV→List PRes→Prop} {σ:PEnv} {ρ:List PRes} {p:PV} (h:σ t=p) (hr:R p []):ld [.tmp t] R .ret σ ρ:=aI (fM (aD h)) bZ hr
theorem osi {α:Type} {a b:α} (h:some a=some b):a=b:=Option.some.inj h

def yc:TypeDesc→Bool
 | .interface _=>true
 | _=>false
section
variable {o:Oper} {σ:PEnv} {ρ:List PRes} {x:Operand} {t:Nat}
theorem zA {σ:Env} {ρ:List Res} {κ:Kr} {d:TypeDesc} (ho:o.op=.makeInterface t x) (hu:eW t=some d) (hn:yc d=false):OpQ true o σ ρ κ (.iface t (ev σ x)):=fun _ w _=>by
 have h:=run_underlying (w:=w) (bW hu)
 cases d <;> first | (cases hn;done) | simp [execOp,ho,Instr.makeInterface,h]
theorem zB {d:TypeDesc} (ho:o.op=.makeInterface t x) (hu:eW t=some d) (hn:yc d=false):POpQ true o σ ρ (.ifc t (bG σ x)):=fun κ σ' ρ' g hs hr=>⟨_,fun _=>.ifc (hs.ev x),zA ho hu hn⟩
def ta (T:Nat) (p:PV):Option PV:=match p with
 | .ifc t q=>cond (Nat.beq t T) (some (.tup [q,.v (.bool true)])) (match fS T with
  | some (.agg ⟨zs⟩,_,_)=>cond (zs.all Value.oneCell') (some (.tup [.agg (zs.map fun x=>cond (ra x) (.v x) .any),.v (.bool false)])) none
  | _=>none)
 | _=>none
theorem oq_ta {σ:Env} {ρ:List Res} {κ:Kr} {xT T s:Nat} {v z:Value} {d:TypeDesc} {sz by':Nat} (ho:o.op=.typeAssert x xT T true) (hu:eW T=some d) (hn:yc d=false) (hz:fS T=some (z,sz,by')) (hx:ev σ x=.iface s v):OpQ true o σ ρ κ (if s=T then .tuple #[v,.bool true] else .tuple #[z,.bool false]):=fun _ w _=>by
 have h:=run_underlying (w:=w) (bW hu)
 have hzv:=gZ hz w
 by_cases hst:s=T
 ·cases d <;> first | (cases hn;done) | simp [execOp,ho,hx,Instr.typeAssert,h,hst]
 cases d <;> first | (cases hn;done) | simp [execOp,ho,hx,Instr.typeAssert,h,hst,hzv]
theorem pq_ta {xT T:Nat} {d:TypeDesc} {p r:PV} (ho:o.op=.typeAssert x xT T true) (hu:eW T=some d) (hn:yc d=false) (hi:(fS T).isSome=true) (hx:bG σ x=p) (hr:ta T p=some r):POpQ true o σ ρ r:=fun κ σ' ρ' g hs hrr=>by
 obtain ⟨⟨z,sz,by'⟩,hz⟩:=Option.isSome_iff_exists.1 hi
 have h:=hs.ev x
 rw [hx] at h
 generalize he:ev σ' x=w at h
 cases h with
 | ifc h =>
  rename_i s q v
  have hq:=oq_ta (ρ:=ρ') (κ:=κ) ho hu hn hz he
  simp only [ta] at hr
  cases hb:Nat.beq s T
  ·have hne:s≠T:=fun e=>by rw [e] at hb;simp at hb
   rw [hb,hz] at hr
   simp only [eu] at hr
   rw [if_neg hne] at hq
   split at hr
   ·rename_i zs s1 b1 heq
    simp only [eF,Prod.mk.injEq] at heq
    obtain ⟨rfl,rfl,rfl⟩:=heq
    cases ho1:zs.all Value.oneCell'
    ·rw [ho1] at hr;cases hr
    rw [ho1] at hr;simp only [dG,eF] at hr;subst hr
    exact ⟨_,fun _=>.tup (ws:=[_,_]) (.cons (.agg (ds:=zs) (fun u hu=>List.all_eq_true.1 ho1 u hu) (j9 zs)) (.cons (.v rfl) .nil)),hq⟩
   cases hr
  ·have hst:=Nat.eq_of_beq_eq_true hb
   rw [hb] at hr;simp only [dG,eF] at hr;subst hr
   rw [if_pos hst] at hq
   exact ⟨_,fun _=>.tup (ws:=[_,_]) (.cons h (.cons (.v rfl) .nil)),hq⟩
 | _=>simp only [ta] at hr;cases hr
end
structure MethOk (t:Nat) (name:String) (f:Nat):Prop where
 h:∀ (v:Value) (w:World),(method (Tryz.prog.types.size+Made.depth) t v name).run Tryz.prog w=.ok (f,v) w
theorem zC {o:Oper} {σ:Env} {ρ:List Res} {κ:Kr} {K:Value→List Res→Kr→Prop} {f t:Nat} {x:Operand} {name:String} {l:List Operand} {ts:Array Nat} {v:Value} {R:Value→Kr→Prop} (ho:o.op=.call { callee:=.invoke x name,args:=l.toArray,argTypes:=ts })
    (hx:ev σ x=.iface t v) (hm:MethOk t name f) (hc:CallP f (v::l.map (ev σ)) κ R) (h:∀ v κ',Kle κ κ'→R v κ'→K v ρ κ'):OpL o σ ρ κ K:=fun β hi Nx hk=>by
  have hi2:=hi.perm (List.Perm.refl ([]++ρ))
  have e1:(#[Value.iface t v]++(l.map (ev σ)).toArray)[0]?=some (.iface t v):=by simp
  have e2:(#[Value.iface t v]++(l.map (ev σ)).toArray).extract 1 (#[Value.iface t v]++(l.map (ev σ)).toArray).size=(l.map (ev σ)).toArray:=by simp;exact List.take_of_length_le (by simp)
  have e3:#[v]++(l.map (ev σ)).toArray=(v::l.map (ev σ)).toArray:=by simp
  have hp:(program).run Tryz.prog κ.w=.ok Tryz.prog κ.w:=rfl
  unfold execOp
  simp only [ho,resolve,Sem.run_bind,Sem.run_pure,Result.andThen_ok,invoke,List.map_toArray,hx,e1,e2,callMethod,hp,hm.h,e3,jD hc.1,OutV]
  exact (hc.2 hi2.split).mono fun e w' ⟨v,ρ',κ',h1,h2,h3,h4⟩=>by
    subst h2
    obtain ⟨rfl,h4⟩:=h4
    exact ⟨v,h1,hk v ρ κ' (hi2.join h3) h3.le.kle (h v κ' h3.le.kle h4)⟩
def PFI (p:PV) (name:String) (pargs:List PV) (r:PV):Prop:=∃ t q f,p=.ifc t q∧MethOk t name f∧PF f (q::pargs) r
abbrev pI (x:Int):PV:=.v (.int .i64 x)
abbrev pU (x:Int):PV:=.v (.int .u64 x)
abbrev pY (x:Int):PV:=.v (.int .u8 x)
abbrev pB (b:Bool):PV:=.v (.bool b)
abbrev pS (s:ByteArray):PV:=.v (.string s)
abbrev pP (b off:Nat):PV:=.v (.pointer (some ⟨b,off,none⟩))
abbrev pO (a:Option Addr) (n c:Nat):PV:=.v (.slice a n c)
abbrev pN:PV:=.v (.slice none 0 0)
abbrev pL {α:Type} (e:α→List PV) (xs:List α):PV:=.slc xs.length (List.map e xs)
def xn:IntKind→Nat
 | .i8=>0 | .i16=>1 | .i32=>2 | .i64=>3 | .u8=>4 | .u16=>5 | .u32=>6 | .u64=>7
theorem sN {a b:IntKind} (h:Nat.beq (xn a) (xn b)=true):a=b:=by cases a <;> cases b <;> first | rfl | cases h
def C7:Int→Bool
 | .ofNat (_+1)=>true
 | _=>false
def ge0l:Int→Bool
 | .ofNat _=>true
 | _=>false
theorem AE {b:Int} (h:C7 b=true):b≠0:=by rintro rfl;cases h
theorem ge0l_ge {b:Int} (h:ge0l b=true):0≤b:=by cases b with | ofNat n=>exact Int.natCast_nonneg n | negSucc n=>cases h
def qcmp (op:BinOp) (a b:Int):Option Bool:=match op with | .eql=>some (a == b) | .neq=>some (a != b) | .lss=>some (decide (a<b)) | .leq=>some (decide (a≤b)) | .gtr=>some (decide (b<a)) | .geq=>some (decide (b≤a)) | _=>none
def qari (op:BinOp) (a b:Int):Option Int:=match op with | .add=>some (a+b) | .sub=>some (a - b) | .mul=>some (a*b) | _=>none
def qbit (op:BinOp) (k:IntKind) (a b:Int):Option Int:=match op with | .and=>some (ez k a b) | .or=>some (oN k a b) | .xor=>some (uQ k a b) | _=>none
def qshf (op:BinOp) (k:IntKind) (a b:Int):Option Int:=match op with | .shl=>some (eX k a b) | .shr=>some (cV k a b) | _=>none
def qeqb (op:BinOp) (p q:Bool):Option Bool:=match op with | .eql=>some (p == q) | .neq=>some (p != q) | _=>none
def qstr (op:BinOp) (s u:ByteArray):Option Bool:=match op with | .eql=>some (decide (s=u)) | .neq=>some (!decide (s=u)) | .lss=>some (Op.bytesLess s.toList u.toList) | .leq=>some (Op.bytesLess s.toList u.toList||decide (s=u)) | .gtr=>some (!(Op.bytesLess s.toList u.toList||decide (s=u))) | .geq=>some (!Op.bytesLess s.toList u.toList) | _=>none
def qint (op:BinOp) (k k':IntKind) (a b:Int):Option PV :=
 match qshf op k a b with
 | some r=>cond (ge0l b) (some (.v (.int k r))) none
 | none=>cond (Nat.beq (xn k) (xn k'))
  (match qcmp op a b with
   | some r=>some (.v (.bool r))
   | none=>match qari op a b with
    | some r=>some (.v (.int k (k.wrap r)))
    | none=>match qbit op k a b with
     | some r=>some (.v (.int k r))
     | none=>match op with
      | .quo=>cond (C7 b) (some (.v (.int k (k.wrap (a.tdiv b))))) none
      | .rem=>cond (C7 b) (some (.v (.int k (a.tmod b)))) none
      | _=>none) none
def qbin (op:BinOp) (t:Nat) (p q:PV):Option PV:=match p,q with
 | .v (.int k a),.v (.int k' b)=>qint op k k' a b
 | .v (.bool p),.v (.bool q)=>(match eW t with | some .bool=>(qeqb op p q).map fun r=>.v (.bool r) | _=>none)
 | .v (.string s),.v (.string u)=>(qstr op s u).map fun r=>.v (.bool r)
 | _,_=>none
def qlen (t:Nat) (p:PV):Option PV:=match eW t,p with
 | some (.slice _),.slc m _=>some (.v (.int .i64 (m:Int)))
 | some (.slice _),.v (.slice _ m _)=>some (.v (.int .i64 (m:Int)))
 | some .string,.v (.string s)=>some (.v (.int .i64 (s.size:Int)))
 | _,_=>none
def qmm (mx:Bool) (p q:PV):Option PV:=match p,q with
 | .v (.int k a),.v (.int k' b)=>cond (Nat.beq (xn k) (xn k')) (some (.v (.int k (cond mx (dN a b) (ex a b))))) none
 | _,_=>none
def yd (σ:PEnv) (fl:List (Nat×Nat)):List PV→List (Nat×Operand)→Option (List PV)
 | zs,[]=>some zs
 | zs,(i,x)::r=>match fl[i]? with
  | some (k,ty)=>match fS ty,jf (bG σ x) with
   | some (_,sz,_),some vs=>cond (Nat.beq vs.length sz&&Nat.ble (k+vs.length) zs.length) (yd σ fl (zs.take k++vs++zs.drop (k+vs.length)) r) none
   | _,_=>none
  | none=>none
theorem ye {σ:PEnv} {fl:List (Nat×Nat)}:∀ {parts:List (Nat×Operand)} {zs cs:List PV},yd σ fl zs parts=some cs→PFill σ fl zs parts cs
 | [],zs,cs,h=>by simp only [yd,eF] at h;exact h
 | (i,x)::r,zs,cs,h=>by
  simp only [yd] at h
  split at h
  ·rename_i k ty h1
   split at h
   ·rename_i z sz by' vs h2 h3
    cases hb:(Nat.beq vs.length sz&&Nat.ble (k+vs.length) zs.length)
    ·rw [hb] at h;cases h
    rw [hb] at h
    simp only [Bool.and_eq_true] at hb
    exact nm h1 h2 h3 hb.1 ⟨rfl,Nat.le_of_ble_eq_true hb.2⟩ (ye h)
   cases h
  cases h
def qfa (s f:Nat) (p:PV):Option PV:=match pW s with
 | some l=>match l[f]? with
  | some (kk,ty)=>match fS ty with
   | some (_,sz,_)=>cond (Nat.blt 0 sz) (match p with
    | .v (.pointer (some ⟨b,off,none⟩))=>some (.v (.pointer (some ⟨b,off+kk,none⟩)))
    | .ref cs off=>some (.ref cs (off+kk))
    | _=>none) none
   | none=>none
  | none=>none
 | none=>none
def qfd (t f:Nat) (p:PV):Option PV:=match pW t with
 | some l=>match l[f]? with
  | some (kk,ty)=>match p with
   | .agg cs=>cond (Nat.ble kk cs.length) (jE ty (cs.drop kk)) none
   | _=>none
  | none=>none
 | none=>none
def qx (σ:PEnv) (ρ:List PRes) (at_:Nat):Op→Option (PV×Option (Nat×Nat))
 | .move x=>some (bG σ x,none)
 | .assign x=>some (bG σ x,none)
 | .binOp op t x y _=>(qbin op t (bG σ x) (bG σ y)).map fun p=>(p,none)
 | .unOp .not _ x=>(match bG σ x with | .v (.bool p)=>some (.v (.bool !p),none) | _=>none)
 | .unOp .neg _ x=>(match bG σ x with | .v (.int k a)=>some (.v (.int k (k.wrap (0 - a))),none) | _=>none)
 | .convert s d x=>(match eW s,eW d,bG σ x with | some _,some (.int k'),.v (.int _ a)=>some (.v (.int k' (k'.wrap a)),none) | _,_,_=>none)
 | .nilCheck x=>(match bG σ x with | .v (.pointer (some ad))=>some (.v (.pointer (some ad)),none) | .ref cs k=>some (.ref cs k,none) | .ifc t p=>some (.ifc t p,none) | _=>none)
 | .fieldAddr s x f=>(qfa s f (bG σ x)).map fun p=>(p,none)
 | .field t x f=>(qfd t f (bG σ x)).map fun p=>(p,none)
 | .extract x i=>(match bG σ x with | .tup vs=>(vs[i]?).map fun p=>(p,none) | _=>none)
 | .load t x=>(match bG σ x with
  | .ref cs off=>(jE t (cs.drop off)).map fun p=>(p,none)
  | .v (.pointer (some ⟨b,off,none⟩))=>(match ρ[at_]? with | some (.b b' _ cs)=>(jE t (cs.drop off)).map fun p=>(p,some (b,b')) | _=>none)
  | _=>none)
 | .call ⟨.builtin .len,⟨[x]⟩,⟨[t]⟩⟩=>(qlen t (bG σ x)).map fun p=>(p,none)
 | .call ⟨.builtin .min,⟨[x,y]⟩,_⟩=>(qmm false (bG σ x) (bG σ y)).map fun p=>(p,none)
 | .call ⟨.builtin .max,⟨[x,y]⟩,_⟩=>(qmm true (bG σ x) (bG σ y)).map fun p=>(p,none)
 | .makeFunc (.func f) ⟨[]⟩ ⟨l⟩=>some (.fn f (l.map (bG σ)),none)
 | .makeInterface t x=>(match eW t with | some d=>cond (yc d) none (some (.ifc t (bG σ x),none)) | none=>none)
 | .build t ⟨parts⟩=>(match fS t,pW t with
  | some (.agg ⟨zs⟩,_,_),some fl=>cond ((fl.all fun p=>(fS p.2).isSome)&&zs.all Value.oneCell') ((yd σ fl (zs.map fun x=>cond (ra x) (.v x) .any) parts).map fun cs=>(.agg cs,none)) none
  | _,_=>none)
 | _=>none
section
variable {o:Oper} {σ:PEnv} {ρ:List PRes} {x y:Operand} {t t':Nat} {p:PV}
theorem map_none {a:Option PV} {p:PV} {e:Option (Nat×Nat)} (h:(a.map fun q=>(q,(none:Option (Nat×Nat))))=some (p,e)):a=some p:=by
 cases a with
 | none=>cases h
 | some q=>simp only [Option.map_some,eF,Prod.mk.injEq] at h;rw [h.1]
theorem qint_ok {op:BinOp} {k k':IntKind} {a b:Int} (ho:o.op=.binOp op t x y t') (hx:bG σ x=.v (.int k a)) (hy:bG σ y=.v (.int k' b)) (h:qint op k k' a b=some p):POpQ true o σ ρ p:=by
 unfold qint at h
 split at h
 ·rename_i r hr
  cases hb:ge0l b
  ·rw [hb] at h;cases h
  rw [hb] at h;simp only [dG,eF] at h;subst h
  exact tF ho (.p hx) (.p hy) (fun _=>ge0l_ge hb) (by cases op <;> exact hr)
 cases hk:Nat.beq (xn k) (xn k')
 ·rw [hk] at h;cases h
 rw [hk] at h;simp only [dG] at h
 have:=sN hk;subst this
 split at h
 ·rename_i r hr;simp only [eF] at h;subst h;exact wv ho (.p hx) (.p hy) (by cases op <;> exact hr)
 split at h
 ·rename_i r hr;simp only [eF] at h;subst h;exact gM ho (.p hx) (.p hy) (by cases op <;> exact hr)
 split at h
 ·rename_i r hr;simp only [eF] at h;subst h;exact pq_bits ho (.p hx) (.p hy) (by cases op <;> exact hr)
 split at h
 ·cases hb:C7 b
  ·rw [hb] at h;cases h
  rw [hb] at h;simp only [dG,eF] at h;subst h;exact CU ho (.p hx) (.p hy) fun _=>AE hb
 ·cases hb:C7 b
  ·rw [hb] at h;cases h
  rw [hb] at h;simp only [dG,eF] at h;subst h;exact CV ho (.p hx) (.p hy) fun _=>AE hb
 cases h
theorem qbin_ok {op:BinOp} (ho:o.op=.binOp op t x y t') (h:qbin op t (bG σ x) (bG σ y)=some p):POpQ true o σ ρ p:=by
 unfold qbin at h
 split at h
 ·rename_i h1 h2;exact qint_ok ho h1 h2 h
 ·rename_i h1 h2
  split at h
  ·rename_i hu
   obtain ⟨r,hr,rfl⟩:=Option.map_eq_some_iff.1 h
   exact pq_eqB ho hu (.p h1) (.p h2) (by cases op <;> exact hr)
  cases h
 ·rename_i h1 h2
  obtain ⟨r,hr,rfl⟩:=Option.map_eq_some_iff.1 h
  exact pq_str ho (.p h1) (.p h2) (by cases op <;> exact hr)
 cases h
theorem qlen_ok (ho:o.op=.call { callee:=.builtin .len,args:=#[x],argTypes:=#[t] }) (h:qlen t (bG σ x)=some p):POpQ true o σ ρ p:=by
 unfold qlen at h
 split at h
 ·rename_i hu hx;simp only [eF] at h;subst h;exact CX ho hu (.p hx)
 ·rename_i hu hx;simp only [eF] at h;subst h;exact pq_lenO ho hu (.p hx)
 ·rename_i hu hx;simp only [eF] at h;subst h;exact pq_lenS ho hu (.p hx)
 cases h
theorem C8 {mx:Bool} {ts:List Nat} (ho:o.op=.call { callee:=.builtin (cond mx .max .min),args:=#[x,y],argTypes:=ts.toArray }) (h:qmm mx (bG σ x) (bG σ y)=some p):POpQ true o σ ρ p:=by
 unfold qmm at h
 split at h
 ·rename_i k a k' b h1 h2
  cases hk:Nat.beq (xn k) (xn k')
  ·rw [hk] at h;cases h
  have:=sN hk;subst this
  rw [hk] at h
  simp only [dG,eF] at h;subst h
  cases mx
  ·exact ik ho (.p h1) (.p h2)
  exact pq_max ho (.p h1) (.p h2)
 cases h
theorem qfa_ok {s f:Nat} (ho:o.op=.fieldAddr s x f) (h:qfa s f (bG σ x)=some p):POpQ true o σ ρ p:=by
 unfold qfa at h
 split at h
 ·rename_i l h1
  split at h
  ·rename_i kk ty h2
   split at h
   ·rename_i z sz by' h3
    cases h4:Nat.blt 0 sz
    ·rw [h4] at h;cases h
    rw [h4] at h;simp only [dG] at h
    split at h
    ·rename_i hx;simp only [eF] at h;subst h;exact ak ho h1 h2 h3 h4 (.p hx)
    ·rename_i hx;simp only [eF] at h;subst h;exact uR ho h1 h2 h3 h4 (.p hx)
    cases h
   cases h
  cases h
 cases h
theorem qfd_ok {f:Nat} (ho:o.op=.field t x f) (h:qfd t f (bG σ x)=some p):POpQ true o σ ρ p:=by
 unfold qfd at h
 split at h
 ·rename_i l h1
  split at h
  ·rename_i kk ty h2
   split at h
   ·rename_i cs hx
    cases h4:Nat.ble kk cs.length
    ·rw [h4] at h;cases h
    rw [h4] at h;exact CW ho h1 h2 (.p hx) h4 h
   cases h
  cases h
 cases h
theorem wD {c:Bool} {tt:Nat} {pp:PV} (ho:o.op=.nilCheck x) (hx:PEv σ c x (.ifc tt pp)):POpQ c o σ ρ (.ifc tt pp):=fun κ σ' ρ' g hs _=>by
 refine ⟨ev σ' x,hs.pe hx,fun hc w _=>?_⟩
 have h:=hs.pe hx hc
 generalize he:ev σ' x=y at h
 cases h with
 | ifc h=>simp [execOp,ho,he]
theorem qx_ok {k:Nat} {e:Option (Nat×Nat)} (h:qx σ ρ k o.op=some (p,e)) (he:∀ b b',e=some (b,b')→b=b'):POpQ true o σ ρ p:=by
 generalize ho:o.op=op at h
 unfold qx at h
 split at h
 ·simp only [eF,Prod.mk.injEq] at h;obtain ⟨rfl,_⟩:=h;exact cM ho (.p rfl)
 ·simp only [eF,Prod.mk.injEq] at h;obtain ⟨rfl,_⟩:=h;exact be ho (.p rfl)
 ·exact qbin_ok ho (map_none h)
 ·split at h
  ·rename_i hx;simp only [eF,Prod.mk.injEq] at h;obtain ⟨rfl,_⟩:=h;exact ww ho (.p hx)
  cases h
 ·split at h
  ·rename_i hx;simp only [eF,Prod.mk.injEq] at h;obtain ⟨rfl,_⟩:=h;exact pq_neg ho (.p hx)
  cases h
 ·split at h
  ·rename_i h1 h2 hx;simp only [eF,Prod.mk.injEq] at h;obtain ⟨rfl,_⟩:=h;exact pq_conv ho h1 h2 (.p hx)
  cases h
 ·split at h
  ·rename_i hx;simp only [eF,Prod.mk.injEq] at h;obtain ⟨rfl,_⟩:=h;exact xV ho (.p hx)
  ·rename_i hx;simp only [eF,Prod.mk.injEq] at h;obtain ⟨rfl,_⟩:=h;exact wx ho (.p hx)
  ·rename_i hx;simp only [eF,Prod.mk.injEq] at h;obtain ⟨rfl,_⟩:=h;exact wD ho (.p hx)
  cases h
 ·exact qfa_ok ho (map_none h)
 ·exact qfd_ok ho (map_none h)
 ·split at h
  ·rename_i hx;exact tG ho (.p hx) (map_none h)
  cases h
 ·split at h
  ·rename_i hx;exact fF ho (.p hx) (map_none h)
  ·rename_i b off hx
   split at h
   ·rename_i b' T cs hr
    obtain ⟨q,hq,h2⟩:=Option.map_eq_some_iff.1 h
    simp only [Prod.mk.injEq] at h2
    obtain ⟨rfl,rfl⟩:=h2
    have:=he b b' rfl;subst this
    exact aw ho (.p hx) (List.mem_of_getElem? hr) hq
   cases h
  cases h
 ·exact qlen_ok ho (map_none h)
 ·exact C8 (mx:=false) (ts:=_) ho (map_none h)
 ·exact C8 (mx:=true) (ts:=_) ho (map_none h)
 ·simp only [eF,Prod.mk.injEq] at h;obtain ⟨rfl,_⟩:=h;exact nW ho
 ·split at h
  ·rename_i d hu
   cases hn:yc d
   ·rw [hn] at h;simp only [eu,eF,Prod.mk.injEq] at h;obtain ⟨rfl,_⟩:=h;exact zB ho hu hn
   rw [hn] at h;cases h
  cases h
 ·split at h
  ·rename_i zs sz by' fl h1 h2
   cases hc:((fl.all fun p=>(fS p.2).isSome)&&zs.all Value.oneCell')
   ·rw [hc] at h;cases h
   rw [hc] at h
   simp only [dG] at h
   obtain ⟨q,hq,h3⟩:=Option.map_eq_some_iff.1 h
   simp only [Prod.mk.injEq] at h3
   obtain ⟨rfl,_⟩:=h3
   simp only [Bool.and_eq_true] at hc
   exact CY rfl ho h1 h2 hc.1 rfl hc.2 (ye hq)
  cases h
 cases h
end
structure GE where
 gs:List Bool
 p:PV
def gl (t:Nat):List (Nat×GE)→Option GE
 | []=>none
 | (d,e)::l=>cond (Nat.beq t d) (some e) (gl t l)
def C9 (t:Nat):List (Nat×GE)→List (Nat×GE)
 | []=>[]
 | (d,e)::l=>cond (Nat.beq t d) (C9 t l) ((d,e)::C9 t l)
def Da (d:Nat):List Nat→Bool
 | []=>false
 | k::l=>cond (Nat.beq d k) true (Da d l)
theorem sO {d:Nat}:∀ {l:List Nat},Da d l=true↔d∈l
 | []=>by simp [Da]
 | k::l=>by
  unfold Da
  cases h:Nat.beq d k
  ·have:d≠k:=fun e=>by rw [e] at h;simp at h
   simp [sO (l:=l),this]
  simp [Nat.eq_of_beq_eq_true h]
def gg:List Operand→List Nat
 | []=>[]
 | .tmp t::l=>t::gg l
 | _::l=>gg l
def nH (σ:PEnv) (G:List (Nat×GE)) (ts:List Nat) (gs:List Bool):PEnv:=fun t=>match gl t G with
 | none=>σ t
 | some e=>cond (Da t ts&&Nat.ble e.gs.length gs.length) e.p .any
def li (G:List (Nat×GE)) (gs:List Bool):List Nat→List (Bool×Bool)
 | []=>[]
 | t::ts=>match gl t G with
  | none=>li G gs ts
  | some e=>(e.gs.headD true,(gs.drop (gs.length - e.gs.length)).headD true)::li G gs ts
def wE (ops:Array Oper) (σ:PEnv) (G:List (Nat×GE)):Option (Nat×Bool)→Option (List Bool)
 | none=>some []
 | some (j,pol)=>match (ops[j]?).bind (·.dst) with
  | none=>none
  | some d=>match gl d G with
   | none=>match σ d with | .v (.bool p)=>some [cond pol p (!p)] | _=>none
   | some e=>match e.p with | .v (.bool p)=>some ((e.gs.headD true&&cond pol p (!p))::e.gs) | _=>none
def StackOk (gs:List Bool):Prop:=gs.headD true=true→∀ b∈gs,b=true
def GInv (σ:PEnv) (G:List (Nat×GE)):Prop:=∀ t e,gl t G=some e→σ t=pgv (e.gs.headD true) e.p∧StackOk e.gs∧e.gs≠[]
def AllEq (l:List (Bool×Bool)):Prop:=l.map (·.1)=l.map (·.2)
theorem AllEq.nil:AllEq []:=rfl
theorem AllEq.cons {a b:Bool} {l:List (Bool×Bool)} (h:AllEq ((a,b)::l)):a=b∧AllEq l:=by
 unfold AllEq at h;simp only [List.map_cons,List.cons.injEq] at h;exact h
theorem AllEq.app {l m:List (Bool×Bool)} (h:AllEq (l++m)):AllEq l∧AllEq m:=by
 unfold AllEq at h;simp only [List.map_append] at h
 exact List.append_inj h (by simp)
theorem qj {G:List (Nat×GE)} {gs:List Bool} {t:Nat} {e:GE}:∀ {ts:List Nat},t∈ts→gl t G=some e→AllEq (li G gs ts)→e.gs.headD true=(gs.drop (gs.length - e.gs.length)).headD true
 | u::ts,hm,hg,ha=>by
  simp only [li] at ha
  rcases List.mem_cons.1 hm with rfl | hm
  ·rw [hg] at ha;exact ha.cons.1
  split at ha
  ·exact qj hm hg ha
  exact qj hm hg ha.cons.2
theorem tN {gs:List Bool} (h:StackOk gs) (hc:gs.headD true=true) (k:Nat):(gs.drop k).headD true=true:=by
 rw [List.headD_eq_head?_getD,List.head?_drop]
 cases e:gs[k]? with
 | none=>rfl
 | some b=>exact h hc b (List.mem_of_getElem? e)
theorem qk {κ:Kr} {σ:PEnv} {σ':Env} {G:List (Nat×GE)} {ts:List Nat} {gs:List Bool} (hs:Sim κ σ σ') (hi:GInv σ G) (ha:AllEq (li G gs ts)) (hk:StackOk gs) (hc:gs.headD true=true):Sim κ (nH σ G ts gs) σ':=fun t=>by
 unfold nH
 cases hg:gl t G with
 | none=>exact hs t
 | some e =>
  simp only
  cases hb:(Da t ts&&Nat.ble e.gs.length gs.length)
  ·exact .any
  simp only [Bool.and_eq_true,sO] at hb
  have h1:=qj hb.1 hg ha
  rw [tN hk hc] at h1
  have h2:=(hi t e hg).1
  rw [h1,iU] at h2
  have:=hs t
  rw [h2] at this
  exact this
theorem rj {o:Oper} {σ:PEnv} {ρ:List PRes} {G:List (Nat×GE)} {ts:List Nat} {gs:List Bool} {p:PV} (h:gs.headD true=true→POpQ true o (nH σ G ts gs) ρ p) (hi:GInv σ G) (ha:AllEq (li G gs ts)) (hk:StackOk gs):POpQ (gs.headD true) o σ ρ p:=fun κ σ' ρ' g hs hr=>by
 cases hc:gs.headD true with
 | false=>exact zt
 | true=>exact h hc κ σ' ρ' g (qk hs hi ha hk hc) hr
theorem BF {ops:Array Oper} {σ:PEnv} {G:List (Nat×GE)} {o:Oper} {gs:List Bool} (hi:GInv σ G) (h:wE ops σ G o.guard=some gs):PGuardIs ops σ o (gs.headD true)∧StackOk gs:=by
 cases hg:o.guard with
 | none =>
  rw [hg] at h;simp only [wE,eF] at h;subst h
  exact ⟨fun κ σ' _=>th hg,fun _ b hb=>by cases hb⟩
 | some jp =>
  obtain ⟨j,pol⟩:=jp
  rw [hg] at h;simp only [wE] at h
  split at h
  ·cases h
  rename_i d hd
  split at h
  ·split at h
   ·rename_i p hp
    simp only [eF] at h;subst h
    refine ⟨?_,fun hc b hb=>by rw [List.mem_singleton.1 hb];exact hc⟩
    cases pol
    ·exact CQ hg hd hp
    exact dX hg hd hp
   cases h
  rename_i e hgl
  split at h
  ·rename_i p hp
   simp only [eF] at h;subst h
   obtain ⟨h1,h2,h3⟩:=hi d e hgl
   rw [hp] at h1
   refine ⟨?_,fun hc b hb=>?_⟩
   ·cases pol
    ·exact By hg hd h1
    exact Bx hg hd h1
   simp only [List.headD_cons,Bool.and_eq_true] at hc
   rcases List.mem_cons.1 hb with rfl | hb
   ·simp only [hc,Bool.and_self]
   exact h2 hc.1 b hb
  cases h
def AF (σ:PEnv) (G:List (Nat×GE)) (want:Bool):Operand→Option (PV×List (Bool×Bool))
 | .tmp t=>match gl t G with
  | some e=>some (e.p,[(e.gs.headD true,want)])
  | none=>some (σ t,[])
 | x=>some (bG σ x,[])
theorem yf {σ:PEnv} {G:List (Nat×GE)} {want:Bool} {x:Operand} {p:PV} {l:List (Bool×Bool)} (hi:GInv σ G) (h:AF σ G want x=some (p,l)) (ha:AllEq l):PEv σ want x p:=by
 unfold AF at h
 split at h
 ·rename_i t
  split at h
  ·rename_i e hg
   simp only [eF,Prod.mk.injEq] at h;obtain ⟨rfl,rfl⟩:=h
   have h1:=ha.cons.1
   have h2:=(hi t e hg).1
   rw [h1] at h2
   exact .g h2
  simp only [eF,Prod.mk.injEq] at h;obtain ⟨rfl,rfl⟩:=h;exact .p rfl
 simp only [eF,Prod.mk.injEq] at h;obtain ⟨rfl,rfl⟩:=h;exact .p rfl
def tO:PV→Option Bool
 | .v (.bool p)=>some p
 | _=>none
theorem rk {p:PV} {b:Bool} (h:tO p=some b):p=.v (.bool b):=by
 unfold tO at h;split at h
 ·simp only [eF] at h;rw [h]
 cases h
def wF:Operand→Bool
 | .const (.bool true)=>true
 | _=>false
def sP:Operand→Bool
 | .const (.bool false)=>true
 | _=>false
theorem BG {x:Operand} {σ:PEnv} (h:wF x=true):bG σ x=.v (.bool true):=by
 unfold wF at h;split at h
 ·rfl
 cases h
theorem zD {x:Operand} {σ:PEnv} (h:sP x=true):bG σ x=.v (.bool false):=by
 unfold sP at h;split at h
 ·rfl
 cases h
def Db (σ:PEnv) (G:List (Nat×GE)) (gs:List Bool) (cc a b:Operand):Option (PV×List (Bool×Bool)) :=
 match tO (bG (nH σ G (gg [cc]) gs) cc) with
 | none=>none
 | some p=>cond (wF a)
  (match AF σ G (gs.headD true && !p) b with
   | some (q,l)=>match tO q with
    | some q=>some (.v (.bool (p||q)),li G gs (gg [cc])++l)
    | none=>none
   | none=>none)
  (cond (sP b)
   (match AF σ G (gs.headD true&&p) a with
    | some (q,l)=>match tO q with
     | some q=>some (.v (.bool (p&&q)),li G gs (gg [cc])++l)
     | none=>none
    | none=>none) none)
theorem AG {σ:PEnv} {G:List (Nat×GE)} {gs:List Bool} {x:Operand} {p:PV} (hi:GInv σ G) (hk:StackOk gs) (ha:AllEq (li G gs (gg [x]))) (h:bG (nH σ G (gg [x]) gs) x=p) (hn:p≠.any):PEv σ (gs.headD true) x p:=fun hc=>by
 cases x with
 | tmp t =>
  simp only [bG,gg] at h ⊢
  unfold nH at h
  cases hg:gl t G with
  | none=>rw [hg] at h;exact h
  | some e =>
   rw [hg] at h
   simp only at h
   cases hb:(Da t [t]&&Nat.ble e.gs.length gs.length)
   ·rw [hb] at h;exact absurd h.symm hn
   ·rw [hb] at h;simp only [dG] at h
    have h1:=qj (t:=t) (ts:=[t]) (by simp) hg ha
    rw [tN hk hc] at h1
    have h2:=(hi t e hg).1
    rw [h1,iU] at h2
    rw [h2,h]
 | const x=>exact h
 | global g=>exact h
 | func f=>exact h
theorem Dc {o:Oper} {σ:PEnv} {ρ:List PRes} {G:List (Nat×GE)} {gs:List Bool} {cc a b:Operand} {p:PV} {l:List (Bool×Bool)} (ho:o.op=.pick cc a b) (hi:GInv σ G) (hk:StackOk gs) (h:Db σ G gs cc a b=some (p,l)) (ha:AllEq l):POpQ (gs.headD true) o σ ρ p:=by
 unfold Db at h
 split at h
 ·cases h
 rename_i c hc
 have hc:=rk hc
 cases h1:wF a
 ·rw [h1] at h;simp only [eu] at h
  cases h2:sP b
  ·rw [h2] at h;cases h
  rw [h2] at h;simp only [dG] at h
  split at h
  ·rename_i q m hl
   split at h
   ·rename_i q' hq
    simp only [eF,Prod.mk.injEq] at h;obtain ⟨rfl,rfl⟩:=h
    have hl':=yf hi hl ha.app.2
    rw [rk hq] at hl'
    exact po ho (AG hi hk ha.app.1 hc (by simp)) (.p (zD h2)) hl'
   cases h
  cases h
 rw [h1] at h;simp only [dG] at h
 split at h
 ·rename_i q m hl
  split at h
  ·rename_i q' hq
   simp only [eF,Prod.mk.injEq] at h;obtain ⟨rfl,rfl⟩:=h
   have hl':=yf hi hl ha.app.2
   rw [rk hq] at hl'
   exact pq_or ho (AG hi hk ha.app.1 hc (by simp)) (.p (BG h1)) hl'
  cases h
 cases h
inductive Fct where
 | ix (c:Bool) (css:List (List PV)) (i:Int) (cs:List PV)
 | sx (c:Bool) (s:ByteArray) (i:Int) (u:UInt8)
 | nz (c:Bool) (b:Int)
 | ge (c:Bool) (b:Int)
 | sl (c:Bool) (css:List (List PV)) (lo hi:Int) (zss:List (List PV)) (m sz:Nat)
 | ss (c:Bool) (s:ByteArray) (lo hi:Int) (z:ByteArray)
 | ct (c:Bool) (s u z:ByteArray)
 | eq (t:Nat) (ks:List Nat)
 | cl (c:Bool) (f:Nat) (pargs:List PV) (r:PV)
 | cv (c:Bool) (pf:PV) (pargs:List PV) (r:PV)
 | ci (c:Bool) (p:PV) (name:String) (pargs:List PV) (r:PV)
 | ta (T:Nat) (p r:PV)
structure EqOk (t:Nat) (ks:List Nat):Prop where
 h1:Tryz.prog.underlying t=some (.struct (Tryz.prog.fieldsOf t))
 h2:Tryz.prog.stoodInHeld t=false
 h3:Tryz.prog.eqGuardType Tryz.prog.depth t=false
 h4:flatK (Tryz.prog.fieldsOf t).toList 0 ks=true
def Fct.ok:Fct→Prop
 | .ix c css i cs=>c=true→idx css i=some cs
 | .sx c s i u=>c=true→idx s.data.toList i=some u
 | .nz c b=>c=true→b≠0
 | .ge c b=>c=true→0≤b
 | .sl c css lo hi zss m sz=>(c=true→sub css lo hi=some zss)∧m=zss.length∧∀ cs∈css,cs.length=sz
 | .ss c s lo hi z=>c=true→nq s lo hi=some z
 | .ct c s u z=>c=true→Ci s u=some z
 | .eq t ks=>EqOk t ks
 | .cl c f pargs r=>c=true→PF f pargs r
 | .cv c pf pargs r=>c=true→PFV pf pargs r
 | .ci c p name pargs r=>c=true→PFI p name pargs r
 | .ta T p r=>SX.ta T p=some r
def FOk:List (Nat×Fct)→Prop
 | []=>True
 | f::l=>f.2.ok∧FOk l
theorem bL:FOk []:=trivial
section
variable {F:List (Nat×Fct)} {c:Bool} {α:Type} {xs zs:List α} {i lo hi b:Int} {m:α}
theorem jW (k:Nat) (e:α→List PV) (hm:c=true→idx xs i=some m) (h:FOk F):FOk ((k,.ix c (List.map e xs) i (e m))::F):=⟨fun hc=>by
 obtain ⟨h0,hmm⟩:=jH (hm hc)
 unfold idx;rw [if_pos h0,List.getElem?_map,hmm];rfl,h⟩
theorem fC (k:Nat) (e:α→List PV) (hm:idx xs i=some m) (h:FOk F):FOk ((k,.ix true (List.map e xs) i (e m))::F):=jW k e (fun _=>hm) h
theorem mK (k:Nat) {s:ByteArray} {u:UInt8} (hm:c=true→idx s.data.toList i=some u) (h:FOk F):FOk ((k,.sx c s i u)::F):=⟨hm,h⟩
theorem Dd (k:Nat) {s:ByteArray} {u:UInt8} (hm:idx s.data.toList i=some u) (h:FOk F):FOk ((k,.sx true s i u)::F):=⟨fun _=>hm,h⟩
theorem zF (k:Nat) {u:Unit} (hm:SX.nz b=some u) (h:FOk F):FOk ((k,.nz true b)::F):=⟨fun _=>nz_some hm,h⟩
theorem wG (k:Nat) {u:Unit} (hm:oO b=some u) (h:FOk F):FOk ((k,.ge true b)::F):=⟨fun _=>CZ hm,h⟩
theorem foslg (k:Nat) (e:α→List PV) (sz:Nat) (hw:∀ m,(e m).length=sz) (hm:c=true→sub xs lo hi=some zs) (h:FOk F):FOk ((k,.sl c (List.map e xs) lo hi (List.map e zs) zs.length sz)::F):=⟨⟨fun hc=>by
 obtain ⟨h1,rfl⟩:=nV (hm hc)
 unfold sub;rw [if_pos (by rw [List.length_map];exact h1),List.map_drop,List.map_take],by rw [List.length_map],fun cs hcs=>by obtain ⟨x,_,rfl⟩:=List.mem_map.1 hcs;exact hw x⟩,h⟩
theorem fosl (k:Nat) (e:α→List PV) (sz:Nat) (hw:∀ m,(e m).length=sz) (hm:sub xs lo hi=some zs) (h:FOk F):FOk ((k,.sl true (List.map e xs) lo hi (List.map e zs) zs.length sz)::F):=foslg k e sz hw (fun _=>hm) h
theorem fossg (k:Nat) {s z:ByteArray} (hm:c=true→nq s lo hi=some z) (h:FOk F):FOk ((k,.ss c s lo hi z)::F):=⟨hm,h⟩
theorem De (k:Nat) {t:Nat} {ks:List Nat} (hm:EqOk t ks) (h:FOk F):FOk ((k,.eq t ks)::F):=⟨hm,h⟩
theorem bw (k:Nat) {f:Nat} {pargs:List PV} {r:PV} (hm:PF f pargs r) (h:FOk F):FOk ((k,.cl true f pargs r)::F):=⟨fun _=>hm,h⟩
theorem eU (k:Nat) {f:Nat} {pargs:List PV} {r:PV} (hm:c=true→PF f pargs r) (h:FOk F):FOk ((k,.cl c f pargs r)::F):=⟨hm,h⟩
theorem BH (k:Nat) {pf:PV} {pargs:List PV} {r:PV} (hm:PFV pf pargs r) (h:FOk F):FOk ((k,.cv true pf pargs r)::F):=⟨fun _=>hm,h⟩
theorem Df (k:Nat) {pf:PV} {pargs:List PV} {r:PV} (hm:c=true→PFV pf pargs r) (h:FOk F):FOk ((k,.cv c pf pargs r)::F):=⟨hm,h⟩
end
inductive Eqn where
 | n (a:Nat)
 | b (a:Bool)
 | i (a:Int)
 | p (a:PV)
 | l (a:List PV)
 | q (a:List (List PV))
 | s (a:ByteArray)
 | m (a:String)
abbrev StepR:=PV×List Eqn×List Eqn
def zG (σ:PEnv) (c:Bool) (t:Nat) (p:PV) (lo hi:Option Operand):Fct→Option StepR
 | .sl c' css l h zss m sz=>(match eW t,p with
  | some (.slice E),.slc mm css'=>(match fS E with
   | some (_,sz',_)=>(match lo,hi with
    | none,some y=>(match bG σ y with | .v (.int _ b)=>some (.slc m zss,[.b c',.q css,.i l,.i h,.n sz],[.b c,.q css',.i 0,.i b,.n sz']) | _=>none)
    | some x,none=>(match bG σ x with | .v (.int _ a)=>some (.slc m zss,[.b c',.q css,.i l,.i h,.n sz],[.b c,.q css',.i a,.i (mm:Int),.n sz']) | _=>none)
    | _,_=>none)
   | none=>none)
  | _,_=>none)
 | .ss c' s l h z=>(match eW t,p with
  | some .string,.v (.string s')=>(match lo,hi with
   | none,some y=>(match bG σ y with | .v (.int _ b)=>some (.v (.string z),[.b c',.s s,.i l,.i h],[.b c,.s s',.i 0,.i b]) | _=>none)
   | some x,none=>(match bG σ x with | .v (.int _ a)=>some (.v (.string z),[.b c',.s s,.i l,.i h],[.b c,.s s',.i a,.i (s'.size:Int)]) | _=>none)
   | some x,some y=>(match bG σ x,bG σ y with | .v (.int _ a),.v (.int _ b)=>some (.v (.string z),[.b c',.s s,.i l,.i h],[.b c,.s s',.i a,.i b]) | _,_=>none)
   | none,none=>none)
  | _,_=>none)
 | _=>none
def Dg (σ:PEnv) (c:Bool):Op→Fct→Option StepR
 | .indexAddr t x y,.ix c' css i cs=>(match eW t,bG σ x,bG σ y with
  | some (.slice E),.slc _ css',.v (.int _ i')=>(match fS E with | some (_,sz,_)=>some (.ref cs 0,[.b c',.q css,.i i,.n cs.length],[.b c,.q css',.i i',.n sz]) | none=>none)
  | _,_,_=>none)
 | .index t x y,.sx c' s i u=>(match eW t,bG σ x,bG σ y with
  | some .string,.v (.string s'),.v (.int _ i')=>some (.v (.int .u8 (u.toNat:Int)),[.b c',.s s,.i i],[.b c,.s s',.i i'])
  | _,_,_=>none)
 | .binOp .quo _ x y _,.nz c' b=>(match bG σ x,bG σ y with
  | .v (.int k a),.v (.int k' b')=>cond (Nat.beq (xn k) (xn k')) (some (.v (.int k (k.wrap (a.tdiv b))),[.b c',.i b],[.b c,.i b'])) none
  | _,_=>none)
 | .binOp .rem _ x y _,.nz c' b=>(match bG σ x,bG σ y with
  | .v (.int k a),.v (.int k' b')=>cond (Nat.beq (xn k) (xn k')) (some (.v (.int k (a.tmod b)),[.b c',.i b],[.b c,.i b'])) none
  | _,_=>none)
 | .binOp .shl _ x y _,.ge c' b=>(match bG σ x,bG σ y with
  | .v (.int k a),.v (.int _ b')=>some (.v (.int k (eX k a b)),[.b c',.i b],[.b c,.i b'])
  | _,_=>none)
 | .binOp .shr _ x y _,.ge c' b=>(match bG σ x,bG σ y with
  | .v (.int k a),.v (.int _ b')=>some (.v (.int k (cV k a b)),[.b c',.i b],[.b c,.i b'])
  | _,_=>none)
 | .binOp .add _ x y _,.ct c' s u z=>(match bG σ x,bG σ y with
  | .v (.string s'),.v (.string u')=>some (.v (.string z),[.b c',.s s,.s u],[.b c,.s s',.s u'])
  | _,_=>none)
 | .binOp .eql t x y _,.eq t' ks=>(match bG σ x,bG σ y with
  | .agg cs,.agg ds=>(match C2 cs,C2 ds with
   | some xs,some ys=>(match xZ ks xs ys with | some r=>some (.v (.bool r),[.n t'],[.n t]) | none=>none)
   | _,_=>none)
  | _,_=>none)
 | .binOp .neq t x y _,.eq t' ks=>(match bG σ x,bG σ y with
  | .agg cs,.agg ds=>(match C2 cs,C2 ds with
   | some xs,some ys=>(match xZ ks xs ys with | some r=>some (.v (.bool !r),[.n t'],[.n t]) | none=>none)
   | _,_=>none)
  | _,_=>none)
 | .slice t x lo hi none,f=>zG σ c t (bG σ x) lo hi f
 | .typeAssert x _ T true,.ta T' p r=>(match eW T with
  | some d=>cond (!yc d&&(fS T).isSome) (some (r,[.n T',.p p],[.n T,.p (bG σ x)])) none
  | none=>none)
 | _,_=>none
section
variable {o:Oper} {σ:PEnv} {ρ:List PRes} {x y:Operand} {t:Nat} {k:IntKind} {a b:Int} {css zss:List (List PV)}
theorem BI {E sz by' mm:Nat} {z:Value} {cs:List PV} (ho:o.op=.indexAddr t x y) (hu:eW t=some (.slice E)) (hi:fS E=some (z,sz,by')) (hw:cs.length=sz) (hx:bG σ x=.slc mm css) (hy:bG σ y=.v (.int k a)) (hm:idx css a=some cs):POpQ true o σ ρ (.ref cs 0):=fun κ σ' ρ' g hs hrr=>by
 obtain ⟨h0,hcs⟩:=jH hm
 have h:=hs.ev x
 rw [hx] at h
 generalize he:ev σ' x=w at h
 cases h with
 | slc hsl hb h1 hss =>
  rename_i ad cp sz' dss
  obtain ⟨ds,hd,hds⟩:=hss.get hcs
  have hlt:a.toNat<mm:=by rw [← hsl.len];exact (List.getElem?_eq_some_iff.1 hd).1
  obtain ⟨bb,off,ha,hsh⟩:=hsl.at_ (by omega)
  have hwid:sz'=sz:=by
   have e1:=hsl.wid ds (List.mem_of_getElem? hd)
   have e2:=hds.len
   omega
  subst hwid
  have h2:=p8 (c:=true) (ρ:=ρ') (κ:=κ) (j:=a.toNat) ho hu hi (.p (by rw [he,ha])) (.p (hs.v1 hy)) (fun _=>by omega) (fun _=>hlt)
  exact ⟨_,fun _=>by have:=Rp.ref (k:=0) (hsh _ _ hd) (h1 ds (List.mem_of_getElem? hd)) hds;rwa [Nat.add_zero] at this,h2⟩
theorem yg {κ:Kr} {sz:Nat}:∀ {css:List (List PV)} {dss:List (List Value)},(∀ cs∈css,cs.length=sz)→Rpss κ css dss→∀ ds∈dss,ds.length=sz
 | _,_,_,.nil,ds,hd=>by cases hd
 | _,_,hw,.cons h hs,ds,hd=>by
  rcases List.mem_cons.1 hd with rfl | hd
  ·rw [← h.len];exact hw _ (by simp)
  exact yg (fun c hc=>hw c (by simp [hc])) hs ds hd
theorem zH {E sz by' mm:Nat} {z:Value} (ho:o.op=.slice t x none (some y) none) (hu:eW t=some (.slice E)) (hi:fS E=some (z,sz,by')) (hx:bG σ x=.slc mm css) (hy:bG σ y=.v (.int k b)) (hm:sub css 0 b=some zss):POpQ true o σ ρ (.slc zss.length zss):=fun κ σ' ρ' g hs hrr=>by
 obtain ⟨⟨h0,h1,h2⟩,rfl⟩:=nV hm
 have h:=hs.ev x
 rw [hx] at h
 generalize he:ev σ' x=w at h
 cases h with
 | slc hsl hb ho1 hss =>
  rename_i ad cp sz' dss
  have hl:css.length=mm:=by rw [← hsl.len,← hss.len]
  have hcap:=hsl.cap
  have hzl:((css.take b.toNat).drop (0:Int).toNat).length=b.toNat:=by simp;omega
  rw [hzl]
  refine ⟨.slice ad b.toNat cp,fun _=>?_,ni (c:=true) (k:=b.toNat) ho hu hi (.p he) (.p (hs.v1 hy)) (fun _=>by omega) (fun _=>by omega)⟩
  have:=Rp.slc (hsl.take (m:=b.toNat) (by omega)) (by omega) (qf ho1 fun d hd=>List.mem_of_mem_take hd) (hss.take b.toNat)
  simpa using this
theorem zI {E sz by' mm:Nat} {z:Value} (ho:o.op=.slice t x (some y) none none) (hu:eW t=some (.slice E)) (hi:fS E=some (z,sz,by')) (hw:∀ cs∈css,cs.length=sz) (hx:bG σ x=.slc mm css) (hy:bG σ y=.v (.int k a)) (hm:sub css a (mm:Int)=some zss):POpQ true o σ ρ (.slc zss.length zss):=fun κ σ' ρ' g hs hrr=>by
 obtain ⟨⟨h0,h1,h2⟩,rfl⟩:=nV hm
 have h:=hs.ev x
 rw [hx] at h
 generalize he:ev σ' x=w at h
 cases h with
 | slc hsl hb ho1 hss =>
  rename_i ad cp sz' dss
  have hl:css.length=mm:=by rw [← hsl.len,← hss.len]
  have hcap:=hsl.cap
  have hq:=fT (c:=true) (ρ:=ρ') (κ:=κ) (k:=a.toNat) ho hu hi (.p he) (.p (hs.v1 hy)) (fun _=>by omega) (fun _=>by omega)
  have hd:=hsl.dropT (m:=a.toNat) (by omega)
  have e2:List.drop a.toNat (List.take (mm:Int).toNat css)=css.drop a.toNat:=by rw [Int.toNat_natCast,← hl,List.take_length]
  rw [e2]
  have hzl:(css.drop a.toNat).length=mm - a.toNat:=by simp [hl]
  rw [hzl]
  by_cases hz:mm - a.toNat=0
  ·refine ⟨_,fun _=>?_,hq⟩
   have e3:css.drop a.toNat=[]:=List.drop_of_length_le (by omega)
   rw [e3]
   exact .slc (sz:=sz) (css:=[]) ⟨by simp [hz],by omega,by simp,fun h=>absurd h (by omega)⟩ (by omega) (fun _ h=>by cases h) .nil
  have hszz:sz'=sz:=by
   have hlen:=hsl.len
   match dss,hlen with
   | [],hlen=>simp only [List.length_nil] at hlen;omega
   | d::ds,_=>rw [← hsl.wid d (by simp),yg hw hss d (by simp)]
  subst hszz
  exact ⟨_,fun _=>Rp.slc hd (by omega) (qf ho1 fun d hd=>List.mem_of_mem_drop hd) (hss.drop a.toNat),hq⟩
end
theorem BJ {o:Oper} {σ:PEnv} {ρ:List PRes} {c:Bool} {x:Operand} {t:Nat} {lo hi:Option Operand} {f:Fct} {p:PV} {L R:List Eqn} (ho:o.op=.slice t x lo hi none) (h:zG σ c t (bG σ x) lo hi f=some (p,L,R)) (he:L=R) (hf:f.ok) (hc:c=true):POpQ true o σ ρ p:=by
 unfold zG at h
 split at h
 ·rename_i c' css l hh zss m sz
  split at h
  ·rename_i E mm css' hu hx
   split at h
   ·rename_i z sz' by' hi'
    split at h
    ·rename_i y
     split at h
     ·rename_i k b hy
      simp only [eF,Prod.mk.injEq] at h;obtain ⟨rfl,rfl,rfl⟩:=h
      simp only [List.cons.injEq,Eqn.b.injEq,Eqn.q.injEq,Eqn.i.injEq,Eqn.n.injEq,and_true] at he
      obtain ⟨rfl,rfl,rfl,rfl,rfl⟩:=he
      obtain ⟨h1,rfl,h3⟩:=hf
      exact zH ho hu hi' hx hy (h1 hc)
     cases h
    ·rename_i y
     split at h
     ·rename_i k b hy
      simp only [eF,Prod.mk.injEq] at h;obtain ⟨rfl,rfl,rfl⟩:=h
      simp only [List.cons.injEq,Eqn.b.injEq,Eqn.q.injEq,Eqn.i.injEq,Eqn.n.injEq,and_true] at he
      obtain ⟨rfl,rfl,rfl,rfl,rfl⟩:=he
      obtain ⟨h1,rfl,h3⟩:=hf
      exact zI ho hu hi' h3 hx hy (h1 hc)
     cases h
    cases h
   cases h
  cases h
 ·rename_i c' s l hh z
  split at h
  ·rename_i s' hu hx
   split at h
   ·split at h
    ·rename_i hy
     simp only [eF,Prod.mk.injEq] at h;obtain ⟨rfl,rfl,rfl⟩:=h
     simp only [List.cons.injEq,Eqn.b.injEq,Eqn.s.injEq,Eqn.i.injEq,and_true] at he
     obtain ⟨rfl,rfl,rfl,rfl⟩:=he
     exact zw ho hu (.p hx) (.p hy) (fun _=>hf hc)
    cases h
   ·split at h
    ·rename_i hy
     simp only [eF,Prod.mk.injEq] at h;obtain ⟨rfl,rfl,rfl⟩:=h
     simp only [List.cons.injEq,Eqn.b.injEq,Eqn.s.injEq,Eqn.i.injEq,and_true] at he
     obtain ⟨rfl,rfl,rfl,rfl⟩:=he
     exact zx ho hu (.p hx) (.p hy) (fun _=>hf hc)
    cases h
   ·split at h
    ·rename_i hy hy2
     simp only [eF,Prod.mk.injEq] at h;obtain ⟨rfl,rfl,rfl⟩:=h
     simp only [List.cons.injEq,Eqn.b.injEq,Eqn.s.injEq,Eqn.i.injEq,and_true] at he
     obtain ⟨rfl,rfl,rfl,rfl⟩:=he
     exact xY ho hu (.p hx) (.p hy) (.p hy2) (fun _=>hf hc)
    cases h
   cases h
  cases h
 cases h
theorem Dh {o:Oper} {σ:PEnv} {ρ:List PRes} {c:Bool} {f:Fct} {p:PV} {L R:List Eqn} (h:Dg σ c o.op f=some (p,L,R)) (he:L=R) (hf:f.ok) (hc:c=true):POpQ true o σ ρ p:=by
 generalize ho:o.op=op at h
 unfold Dg at h
 split at h
 ·split at h
  ·rename_i hu hx hy
   split at h
   ·rename_i hi
    simp only [eF,Prod.mk.injEq] at h;obtain ⟨rfl,rfl,rfl⟩:=h
    simp only [List.cons.injEq,Eqn.b.injEq,Eqn.q.injEq,Eqn.i.injEq,Eqn.n.injEq,and_true] at he
    obtain ⟨rfl,rfl,rfl,h4⟩:=he
    exact BI ho hu hi h4 hx hy (hf hc)
   cases h
  cases h
 ·split at h
  ·rename_i hu hx hy
   simp only [eF,Prod.mk.injEq] at h;obtain ⟨rfl,rfl,rfl⟩:=h
   simp only [List.cons.injEq,Eqn.b.injEq,Eqn.s.injEq,Eqn.i.injEq,and_true] at he
   obtain ⟨rfl,rfl,rfl⟩:=he
   exact BB ho hu (.p hx) (.p hy) (fun _=>hf hc)
  cases h
 ·split at h
  ·rename_i k a k' b' hx hy
   cases hk:Nat.beq (xn k) (xn k')
   ·rw [hk] at h;cases h
   rw [hk] at h;have:=sN hk;subst this
   simp only [dG,eF,Prod.mk.injEq] at h;obtain ⟨rfl,rfl,rfl⟩:=h
   simp only [List.cons.injEq,Eqn.b.injEq,Eqn.i.injEq,and_true] at he
   obtain ⟨rfl,rfl⟩:=he
   exact CU ho (.p hx) (.p hy) (fun _=>hf hc)
  cases h
 ·split at h
  ·rename_i k a k' b' hx hy
   cases hk:Nat.beq (xn k) (xn k')
   ·rw [hk] at h;cases h
   rw [hk] at h;have:=sN hk;subst this
   simp only [dG,eF,Prod.mk.injEq] at h;obtain ⟨rfl,rfl,rfl⟩:=h
   simp only [List.cons.injEq,Eqn.b.injEq,Eqn.i.injEq,and_true] at he
   obtain ⟨rfl,rfl⟩:=he
   exact CV ho (.p hx) (.p hy) (fun _=>hf hc)
  cases h
 ·split at h
  ·rename_i hx hy
   simp only [eF,Prod.mk.injEq] at h;obtain ⟨rfl,rfl,rfl⟩:=h
   simp only [List.cons.injEq,Eqn.b.injEq,Eqn.i.injEq,and_true] at he
   obtain ⟨rfl,rfl⟩:=he
   exact tF ho (.p hx) (.p hy) (fun _=>hf hc) rfl
  cases h
 ·split at h
  ·rename_i hx hy
   simp only [eF,Prod.mk.injEq] at h;obtain ⟨rfl,rfl,rfl⟩:=h
   simp only [List.cons.injEq,Eqn.b.injEq,Eqn.i.injEq,and_true] at he
   obtain ⟨rfl,rfl⟩:=he
   exact tF ho (.p hx) (.p hy) (fun _=>hf hc) rfl
  cases h
 ·split at h
  ·rename_i hx hy
   simp only [eF,Prod.mk.injEq] at h;obtain ⟨rfl,rfl,rfl⟩:=h
   simp only [List.cons.injEq,Eqn.b.injEq,Eqn.s.injEq,and_true] at he
   obtain ⟨rfl,rfl,rfl⟩:=he
   exact pq_catT ho (.p hx) (.p hy) (fun _=>hf hc)
  cases h
 ·split at h
  ·rename_i hx hy
   split at h
   ·rename_i h5 h6
    split at h
    ·rename_i r hr
     simp only [eF,Prod.mk.injEq] at h;obtain ⟨rfl,rfl,rfl⟩:=h
     simp only [List.cons.injEq,Eqn.n.injEq,and_true] at he
     subst he
     exact AA _ ho hf.h1 hf.h2 hf.h3 hf.h4 (.p hx) (.p hy) h5 h6 hr rfl
    cases h
   cases h
  cases h
 ·split at h
  ·rename_i hx hy
   split at h
   ·rename_i h5 h6
    split at h
    ·rename_i r hr
     simp only [eF,Prod.mk.injEq] at h;obtain ⟨rfl,rfl,rfl⟩:=h
     simp only [List.cons.injEq,Eqn.n.injEq,and_true] at he
     subst he
     exact AA _ ho hf.h1 hf.h2 hf.h3 hf.h4 (.p hx) (.p hy) h5 h6 hr rfl
    cases h
   cases h
  cases h
 ·exact BJ ho h he hf hc
 ·split at h
  ·rename_i d hu
   cases hb:(!yc d&&(fS _).isSome)
   ·rw [hb] at h;cases h
   rw [hb] at h
   simp only [dG,eF,Prod.mk.injEq] at h;obtain ⟨rfl,rfl,rfl⟩:=h
   simp only [List.cons.injEq,Eqn.n.injEq,Eqn.p.injEq,and_true] at he
   obtain ⟨rfl,h2⟩:=he
   simp only [Bool.and_eq_true,Bool.not_eq_true'] at hb
   exact pq_ta ho hu hb.1 hb.2 h2.symm hf
  cases h
 cases h
def gL (l:List (Bool×Bool)):List Eqn:=l.map fun z=>.b z.1
def gR (l:List (Bool×Bool)):List Eqn:=l.map fun z=>.b z.2
theorem gLR:∀ {l:List (Bool×Bool)},gL l=gR l→AllEq l
 | [],_=>AllEq.nil
 | (a,b)::l,h=>by
  simp only [gL,gR,List.map_cons,List.cons.injEq,Eqn.b.injEq] at h
  have:=gLR (l:=l) h.2
  unfold AllEq at this ⊢
  simp only [List.map_cons,h.1,this]
theorem Di {l:List (Bool×Bool)}:(gL l).length=(gR l).length:=by simp [gL,gR]
def nX:Op→Bool
 | .call ⟨.value _,_,_⟩=>true
 | .call ⟨.invoke _ _,_,_⟩=>true
 | _=>false
abbrev StepO:=Option (PV×Bool×List Eqn×List Eqn)
def tP (σ:PEnv) (G:List (Nat×GE)) (ρ:List PRes) (gs:List Bool) (at_:Nat) (op:Op):StepO :=
 match qx (nH σ G (gg op.operands.toList) gs) ρ at_ op with
 | some (p,none)=>some (p,false,gL (li G gs (gg op.operands.toList)),gR (li G gs (gg op.operands.toList)))
 | some (p,some (b,b'))=>some (p,true,gL (li G gs (gg op.operands.toList))++[.n b],gR (li G gs (gg op.operands.toList))++[.n b'])
 | none=>none
def Dj (σ:PEnv) (G:List (Nat×GE)) (gs:List Bool) (op:Op) (cal:Operand) (ags:List Operand):Fct→StepO
 | .cl c f pargs r=>(match cal with
  | .func f'=>some (r,false,gL (li G gs (gg op.operands.toList))++[.b c,.n f,.l pargs],gR (li G gs (gg op.operands.toList))++[.b (gs.headD true),.n f',.l (ags.map (bG (nH σ G (gg op.operands.toList) gs)))])
  | _=>none)
 | .cv c pf pargs r=>some (r,false,gL (li G gs (gg op.operands.toList))++[.b c,.p pf,.l pargs],gR (li G gs (gg op.operands.toList))++[.b (gs.headD true),.p (bG (nH σ G (gg op.operands.toList) gs) cal),.l (ags.map (bG (nH σ G (gg op.operands.toList) gs)))])
 | _=>none
def invx (σ:PEnv) (G:List (Nat×GE)) (gs:List Bool) (op:Op) (x:Operand) (name:String) (ags:List Operand):Fct→StepO
 | .ci c p name' pargs r=>some (r,false,gL (li G gs (gg op.operands.toList))++[.b c,.p p,.m name',.l pargs],gR (li G gs (gg op.operands.toList))++[.b (gs.headD true),.p (bG (nH σ G (gg op.operands.toList) gs) x),.m name,.l (ags.map (bG (nH σ G (gg op.operands.toList) gs)))])
 | _=>none
def Dk (σ:PEnv) (G:List (Nat×GE)) (ρ:List PRes) (gs:List Bool) (at_:Nat) (fo:Option Fct) (op:Op):StepO :=
 match fo with
 | some f=>(match op with
  | .call ⟨.value cal,⟨ags⟩,ts⟩=>Dj σ G gs (.call ⟨.value cal,⟨ags⟩,ts⟩) cal ags f
  | .call ⟨.invoke x name,⟨ags⟩,ts⟩=>invx σ G gs (.call ⟨.invoke x name,⟨ags⟩,ts⟩) x name ags f
  | op=>(match Dg (nH σ G (gg op.operands.toList) gs) (gs.headD true) op f with
   | some (p,L,R)=>some (p,false,gL (li G gs (gg op.operands.toList))++L,gR (li G gs (gg op.operands.toList))++R)
   | none=>none))
 | none=>(match op with
  | .pick cc a b=>(match Db σ G gs cc a b with | some (p,l)=>some (p,false,gL l,gR l) | none=>none)
  | op=>tP σ G ρ gs at_ op)
def POpG (c:Bool) (o:Oper) (σ:PEnv) (r:PV):Prop:=∀ κ σ' ρ' (KK:Value→Kr→Prop),GOK κ→Sim κ σ σ'→(∀ v κ',Kle κ κ'→(c=true→Rp κ' r v)→KK v κ')→OpG c o σ' ρ' κ KK
theorem yh {a b l m:List Eqn} (h:a++l=b++m) (hl:a.length=b.length):a=b∧l=m:=List.append_inj h hl
theorem popg_cl {o:Oper} {σ:PEnv} {G:List (Nat×GE)} {gs:List Bool} {ts:List Nat} {f:Nat} {ags:List Operand} {at_:Array Nat} {pargs:List PV} {r:PV} (ho:o.op=.call { callee:=.value (.func f),args:=ags.toArray,argTypes:=at_ }) (hi:GInv σ G) (ha:AllEq (li G gs ts)) (hk:StackOk gs) (hp:pargs=ags.map (bG (nH σ G ts gs))) (hc:gs.headD true=true→PF f pargs r):POpG (gs.headD true) o σ r:=fun κ σ' ρ' KK g hs h =>
 xB ho (fun _=>rfl) (fun hct=>hc hct κ _ g (by rw [hp];exact jF (qk hs hi ha hk hct) ags)) h
theorem popg_cv {o:Oper} {σ:PEnv} {G:List (Nat×GE)} {gs:List Bool} {ts:List Nat} {x:Operand} {ags:List Operand} {at_:Array Nat} {pf:PV} {pargs:List PV} {r:PV} (ho:o.op=.call { callee:=.value x,args:=ags.toArray,argTypes:=at_ }) (hi:GInv σ G) (ha:AllEq (li G gs ts)) (hk:StackOk gs) (hx:pf=bG (nH σ G ts gs) x) (hp:pargs=ags.map (bG (nH σ G ts gs))) (hc:gs.headD true=true→PFV pf pargs r):POpG (gs.headD true) o σ r:=fun κ σ' ρ' KK g hs h=>by
 refine ⟨fun hct=>?_,fun hcf=>h undef κ (.refl _) fun h=>by rw [hcf] at h;cases h⟩
 have hs':=qk hs hi ha hk hct
 obtain ⟨f,first,cap,h1,h2⟩:=hc hct κ _ _ g (by rw [hx];exact hs'.ev x) (by rw [hp];exact jF hs' ags)
 exact vg ho h1 rfl h2 fun v κ' hk hv=>⟨rfl,h v κ' hk fun _=>hv⟩
theorem popg_ci {o:Oper} {σ:PEnv} {G:List (Nat×GE)} {gs:List Bool} {ts:List Nat} {x:Operand} {name:String} {ags:List Operand} {at_:Array Nat} {p:PV} {pargs:List PV} {r:PV} (ho:o.op=.call { callee:=.invoke x name,args:=ags.toArray,argTypes:=at_ }) (hi:GInv σ G) (ha:AllEq (li G gs ts)) (hk:StackOk gs) (hx:p=bG (nH σ G ts gs) x) (hp:pargs=ags.map (bG (nH σ G ts gs))) (hc:gs.headD true=true→PFI p name pargs r):POpG (gs.headD true) o σ r:=fun κ σ' ρ' KK g hs h=>by
 refine ⟨fun hct=>?_,fun hcf=>h undef κ (.refl _) fun h=>by rw [hcf] at h;cases h⟩
 have hs':=qk hs hi ha hk hct
 obtain ⟨t,q,f,e1,hm,hf⟩:=hc hct
 have hv:=hs'.ev x
 rw [← hx,e1] at hv
 generalize he:ev σ' x=w at hv
 cases hv with
 | ifc hv=>exact zC ho he hm (hf κ _ g (.cons hv (by rw [hp];exact jF hs' ags))) fun v κ' hk hv=>⟨rfl,h v κ' hk fun _=>hv⟩
theorem BK {o:Oper} {σ:PEnv} {G:List (Nat×GE)} {ρ:List PRes} {gs:List Bool} {k:Nat} {p:PV} {u:Bool} {L R:List Eqn} (hi:GInv σ G) (hk:StackOk gs) (h:tP σ G ρ gs k o.op=some (p,u,L,R)) (he:L=R):POpQ (gs.headD true) o σ ρ p:=by
 unfold tP at h
 split at h
 ·rename_i p' hq
  simp only [eF,Prod.mk.injEq] at h;obtain ⟨rfl,_,rfl,rfl⟩:=h
  exact rj (fun _=>qx_ok hq (fun _ _ e=>by cases e)) hi (gLR he) hk
 ·rename_i p' b b' hq
  simp only [eF,Prod.mk.injEq] at h;obtain ⟨rfl,_,rfl,rfl⟩:=h
  obtain ⟨h1,h2⟩:=yh he Di
  simp only [List.cons.injEq,Eqn.n.injEq,and_true] at h2
  exact rj (fun _=>qx_ok hq (fun _ _ e=>by simp only [eF,Prod.mk.injEq] at e;rw [← e.1,← e.2];exact h2)) hi (gLR h1) hk
 cases h
theorem Dl {o:Oper} {σ:PEnv} {G:List (Nat×GE)} {gs:List Bool} {cal:Operand} {ags:List Operand} {ts:Array Nat} {f:Fct} {p:PV} {u:Bool} {L R:List Eqn} (ho:o.op=.call ⟨.value cal,⟨ags⟩,ts⟩) (hi:GInv σ G) (hk:StackOk gs) (h:Dj σ G gs (.call ⟨.value cal,⟨ags⟩,ts⟩) cal ags f=some (p,u,L,R)) (he:L=R) (hf:f.ok):POpG (gs.headD true) o σ p:=by
 unfold Dj at h
 split at h
 ·split at h
  ·simp only [eF,Prod.mk.injEq] at h;obtain ⟨rfl,_,rfl,rfl⟩:=h
   obtain ⟨h1,h2⟩:=yh he Di
   simp only [List.cons.injEq,Eqn.n.injEq,Eqn.b.injEq,Eqn.l.injEq,and_true] at h2
   obtain ⟨h3,h4,h5⟩:=h2
   subst h4
   exact popg_cl ho hi (gLR h1) hk h5 (fun hc=>hf (by rw [h3];exact hc))
  cases h
 ·simp only [eF,Prod.mk.injEq] at h;obtain ⟨rfl,_,rfl,rfl⟩:=h
  obtain ⟨h1,h2⟩:=yh he Di
  simp only [List.cons.injEq,Eqn.p.injEq,Eqn.b.injEq,Eqn.l.injEq,and_true] at h2
  obtain ⟨h3,h4,h5⟩:=h2
  exact popg_cv ho hi (gLR h1) hk h4 h5 (fun hc=>hf (by rw [h3];exact hc))
 cases h
theorem invx_ok {o:Oper} {σ:PEnv} {G:List (Nat×GE)} {gs:List Bool} {x:Operand} {name:String} {ags:List Operand} {ts:Array Nat} {f:Fct} {p:PV} {u:Bool} {L R:List Eqn} (ho:o.op=.call ⟨.invoke x name,⟨ags⟩,ts⟩) (hi:GInv σ G) (hk:StackOk gs) (h:invx σ G gs (.call ⟨.invoke x name,⟨ags⟩,ts⟩) x name ags f=some (p,u,L,R)) (he:L=R) (hf:f.ok):POpG (gs.headD true) o σ p:=by
 unfold invx at h
 split at h
 ·simp only [eF,Prod.mk.injEq] at h;obtain ⟨rfl,_,rfl,rfl⟩:=h
  obtain ⟨h1,h2⟩:=yh he Di
  simp only [List.cons.injEq,Eqn.p.injEq,Eqn.b.injEq,Eqn.l.injEq,Eqn.m.injEq,and_true] at h2
  obtain ⟨h3,h4,h5,h6⟩:=h2
  subst h5
  exact popg_ci ho hi (gLR h1) hk h4 h6 (fun hc=>hf (by rw [h3];exact hc))
 cases h
theorem Dm {o:Oper} {σ:PEnv} {G:List (Nat×GE)} {ρ:List PRes} {gs:List Bool} {k:Nat} {fo:Option Fct} {p:PV} {u:Bool} {L R:List Eqn} (hi:GInv σ G) (hk:StackOk gs) (h:Dk σ G ρ gs k fo o.op=some (p,u,L,R)) (he:L=R) (hf:∀ f,fo=some f→f.ok):(nX o.op=false∧POpQ (gs.headD true) o σ ρ p)∨(nX o.op=true∧POpG (gs.headD true) o σ p):=by
 unfold Dk at h
 split at h
 ·rename_i f
  split at h
  ·rename_i cal ags ts ho
   exact .inr ⟨by rw [ho];rfl,Dl ho hi hk h he (hf f rfl)⟩
  ·rename_i x name ags ts ho
   exact .inr ⟨by rw [ho];rfl,invx_ok ho hi hk h he (hf f rfl)⟩
  rename_i hnc hnc2
  split at h
  ·rename_i p' L' R' hq
   simp only [eF,Prod.mk.injEq] at h;obtain ⟨rfl,_,rfl,rfl⟩:=h
   obtain ⟨h1,h2⟩:=yh he Di
   refine .inl ⟨?_,rj (fun hc=>Dh hq h2 (hf f rfl) hc) hi (gLR h1) hk⟩
   unfold nX
   split
   ·rename_i cal ags ts ho;exact absurd ho (hnc cal ags.toList ts)
   ·rename_i x name ags ts ho;exact absurd ho (hnc2 x name ags.toList ts)
   rfl
  cases h
 split at h
 ·rename_i cc a b ho
  split at h
  ·rename_i p' l' hp
   simp only [eF,Prod.mk.injEq] at h;obtain ⟨rfl,_,rfl,rfl⟩:=h
   exact .inl ⟨by rw [ho];rfl,Dc ho hi hk hp (gLR he)⟩
  cases h
 cases hc:nX o.op
 ·exact .inl ⟨rfl,BK hi hk h he⟩
 exfalso
 unfold nX at hc
 split at hc
 ·rename_i ho
  rw [ho] at h
  unfold tP at h
  simp only [qx] at h
  cases h
 ·rename_i ho
  rw [ho] at h
  unfold tP at h
  simp only [qx] at h
  cases h
 cases hc
def wH (σ:PEnv) (G:List (Nat×GE)) (d:Nat) (gs:List Bool) (p:PV):PEnv×List (Nat×GE):=match gs with
 | []=>(fe σ d p,C9 d G)
 | c::gs=>(fe σ d (pgv c p),(d,⟨c::gs,p⟩)::G)
theorem wI {d t:Nat} {e:GE}:∀ {G:List (Nat×GE)},gl t (C9 d G)=some e→t≠d∧gl t G=some e
 | [],h=>by cases h
 | (k,e')::l,h=>by
  simp only [C9] at h
  cases hd:Nat.beq d k
  ·rw [hd] at h;simp only [eu,gl] at h ⊢
   cases ht:Nat.beq t k
   ·rw [ht] at h;exact wI h
   rw [ht] at h
   refine ⟨fun e=>?_,h⟩
   rw [Nat.eq_of_beq_eq_true ht] at e;rw [e] at hd;simp at hd
  rw [hd] at h;simp only [dG] at h
  obtain ⟨h1,h2⟩:=wI h
  refine ⟨h1,?_⟩
  simp only [gl]
  have:Nat.beq t k=false:=by cases e:Nat.beq t k;rfl;exact absurd ((Nat.eq_of_beq_eq_true e).trans (Nat.eq_of_beq_eq_true hd).symm) h1
  rw [this];exact h2
theorem wJ {σ:PEnv} {d t:Nat} {p:PV} (h:t≠d):fe σ d p t=σ t:=by
 unfold fe
 have:Nat.beq t d=false:=by cases e:Nat.beq t d;rfl;exact absurd (Nat.eq_of_beq_eq_true e) h
 rw [this];rfl
theorem tQ {σ:PEnv} {G:List (Nat×GE)} {d:Nat} {gs:List Bool} {p:PV} (hi:GInv σ G) (hk:StackOk gs):GInv (wH σ G d gs p).1 (wH σ G d gs p).2:=by
 unfold wH
 split
 ·intro t e h
  obtain ⟨h1,h2⟩:=wI h
  simp only [wJ h1]
  exact hi t e h2
 rename_i c gs
 intro t e h
 simp only [gl] at h
 cases ht:Nat.beq t d
 ·rw [ht] at h
  have hne:t≠d:=fun e=>by rw [e] at ht;simp at ht
  simp only [wJ hne]
  exact hi t e h
 rw [ht] at h
 simp only [dG,eF] at h;subst h
 have:=Nat.eq_of_beq_eq_true ht;subst this
 refine ⟨?_,hk,by simp⟩
 simp only [fe,Nat.beq_refl,dG,List.headD_cons]
theorem tR {σ:PEnv} {G:List (Nat×GE)} {d:Nat} {gs:List Bool} {p:PV}:(wH σ G d gs p).1=fe σ d (pgv (gs.headD true) p):=by
 unfold wH;split
 ·rw [List.headD_nil,iU]
 rfl
structure RunR where
 σ:PEnv
 L:List Eqn
 R:List Eqn
def AH (i:Nat):List (Nat×Fct)→Option Fct
 | (k,f)::_=>cond (Nat.beq k i) (some f) none
 | []=>none
def qm (n:Nat) (ops:Array Oper) (ρ:List PRes):List Oper→Nat→List Nat→List (Nat×Fct)→PEnv→List (Nat×GE)→Option RunR
 | [],_,_,_,σ,_=>some ⟨σ,[],[]⟩
 | o::l,i,H,F,σ,G=>match o.dst with
  | some d=>cond (Nat.blt d n) (match wE ops σ G o.guard with
   | some gs=>match Dk σ G ρ gs (H.headD 0) (AH i F) o.op with
    | some (p,u,L,R)=>match qm n ops ρ l (i+1) (cond u H.tail H) (match AH i F with | some _=>F.tail | none=>F) (wH σ G d gs p).1 (wH σ G d gs p).2 with
     | some r=>cond (Nat.beq L.length R.length) (some ⟨r.σ,L++r.L,R++r.R⟩) none
     | none=>none
    | none=>none
   | none=>none) none
  | none=>none
theorem Dn {i:Nat} {F:List (Nat×Fct)} (h:FOk F):∀ f,AH i F=some f→f.ok:=fun f hf=>by
 cases F with
 | nil=>cases hf
 | cons a l =>
  obtain ⟨k,g⟩:=a
  simp only [AH] at hf
  cases hk:Nat.beq k i
  ·rw [hk] at hf;cases hf
  rw [hk] at hf;simp only [dG,eF] at hf;subst hf;exact h.1
theorem Do {F:List (Nat×Fct)} (h:FOk F) (b:Option Fct):FOk (match b with | some _=>F.tail | none=>F):=by
 cases b with
 | none=>exact h
 | some f=>cases F with
  | nil=>exact h
  | cons a l=>exact h.2
theorem tS {n:Nat} {ops:Array Oper} {ρ:List PRes} {o:Oper} {l:List Oper} {i:Nat} {H:List Nat} {F:List (Nat×Fct)} {σ:PEnv} {G:List (Nat×GE)} {r:RunR} (h:qm n ops ρ (o::l) i H F σ G=some r) (he:r.L=r.R) (hF:FOk F) (hi:GInv σ G) :
    ∃ d gs p H' F' r',o.dst=some d∧Nat.blt d n=true∧PGuardIs ops σ o (gs.headD true)∧StackOk gs∧((nX o.op=false∧POpQ (gs.headD true) o σ ρ p)∨(nX o.op=true∧POpG (gs.headD true) o σ p))∧qm n ops ρ l (i+1) H' F' (wH σ G d gs p).1 (wH σ G d gs p).2=some r'∧r'.σ=r.σ∧r'.L=r'.R∧FOk F':=by
  simp only [qm] at h
  split at h
  · rename_i d hd
    cases hlt:Nat.blt d n
    · rw [hlt] at h;cases h
    rw [hlt] at h;simp only [dG] at h
    split at h
    · rename_i gs hgs
      split at h
      · rename_i p u L R hst
        split at h
        · rename_i r' hr
          cases hlen:Nat.beq L.length R.length
          · rw [hlen] at h;cases h
          rw [hlen] at h;simp only [dG,eF] at h;subst h
          obtain ⟨h1,h2⟩:=List.append_inj he (Nat.eq_of_beq_eq_true hlen)
          obtain ⟨hg,hk⟩:=BF hi hgs
          exact ⟨d,gs,p,_,_,r',hd,hlt,hg,hk,Dm hi hk hst h1 (Dn hF),hr,rfl,h2,Do hF _⟩
        cases h
      cases h
    cases h
  cases h
theorem Dp {n:Nat} {ops:Array Oper} {o:Oper} {rest:List Oper} {K:PPost} {σ:PEnv} {ρ:List PRes} {d:Nat} {c:Bool} {r:PV} (hg:PGuardIs ops σ o c) (hd:o.dst=some d) (hlt:Nat.blt d n=true) (h:POpG c o σ r) (hw:PWL n ops rest K (fe σ d (pgv c r)) ρ):PWL n ops (o::rest) K σ ρ:=fun β κ σ' ρ' g hs hr =>
 wl_g (hg κ σ' hs) hd hlt (h κ σ' ρ' _ g hs fun v κ' hk hv=>hw β κ' _ _ (g.mono hk) ((hs.mono hk).upd (xQ hv)) (hr.mono hk))
theorem Dq {n:Nat} {ops:Array Oper} {o:Oper} {lo:List (Nat×Oper)} {K:PPost} {σ:PEnv} {ρd ρs:List PRes} {d:Nat} {c:Bool} {r:PV} (hg:PGuardIs ops σ o c) (hd:o.dst=some d) (hlt:Nat.blt d n=true) (h:POpG c o σ r) (hw:PWD n ops K lo (fe σ d (pgv c r)) ρd ρs):PWD n ops K ((1,o)::lo) σ ρd ρs:=fun β κ σ' rd rs g hs h1 h2 =>
 wd_g (hg κ σ' hs) hd hlt fun κ1 hk=>h κ1 σ' _ _ (g.mono hk) (hs.mono hk) fun v κ' hk' hv=>hw β κ' _ rd rs ((g.mono hk).mono hk') (((hs.mono hk).mono hk').upd (xQ hv)) ((h1.mono hk).mono hk') ((h2.mono hk).mono hk')
theorem wK {n:Nat} {ops:Array Oper} {rest:List Oper} {K:PPost} {ρ:List PRes}:∀ {l:List Oper} {i:Nat} {H:List Nat} {F:List (Nat×Fct)} {σ:PEnv} {G:List (Nat×GE)} {r:RunR},qm n ops ρ l i H F σ G=some r→r.L=r.R→FOk F→GInv σ G→PWL n ops rest K r.σ ρ→PWL n ops (l++rest) K σ ρ
 | [],i,H,F,σ,G,r,h,_,_,_,hw=>by simp only [qm,eF] at h;subst h;exact hw
 | o::l,i,H,F,σ,G,r,h,he,hF,hi,hw=>by
  obtain ⟨d,gs,p,H',F',r',h1,h2,h3,h4,h5,h6,h7,h8,h9⟩:=tS h he hF hi
  have hrec:=wK (rest:=rest) (K:=K) h6 h8 h9 (tQ hi h4) (by rw [h7];exact hw)
  rw [tR] at hrec
  rcases h5 with ⟨_,hq⟩ | ⟨_,hq⟩
  ·exact nP h3 h1 h2 hq hrec
  exact Dp h3 h1 h2 hq hrec
def Dr (ks D:List Nat):List Oper→Bool
 | []=>true
 | o::l=>(match o.dst with | some d=>Da d ks||Da d D | none=>true)&&Dr ks D l
theorem vn {n:Nat} {ops:Array Oper} {ρ:List PRes} {ks D:List Nat}:∀ {l:List Oper} {i:Nat} {H:List Nat} {F:List (Nat×Fct)} {σ:PEnv} {G:List (Nat×GE)} {r:RunR},qm n ops ρ l i H F σ G=some r→r.L=r.R→FOk F→GInv σ G→Dr ks D l=true→∀ t,t ∉ ks→t ∉ D→r.σ t=σ t
 | [],i,H,F,σ,G,r,h,_,_,_,_,t,_,_=>by simp only [qm,eF] at h;subst h;rfl
 | o::l,i,H,F,σ,G,r,h,he,hF,hi,hd,t,g1,g2=>by
  obtain ⟨d,gs,p,H',F',r',h1,h2,h3,h4,h5,h6,h7,h8,h9⟩:=tS h he hF hi
  simp only [Dr,Bool.and_eq_true] at hd
  rw [h1] at hd
  simp only [Bool.or_eq_true,sO] at hd
  have hne:t≠d:=fun e=>by subst e;rcases hd.1 with h | h;exact g1 h;exact g2 h
  rw [← h7,vn h6 h8 h9 (tQ hi h4) hd.2 t g1 g2,tR]
  exact wJ hne
abbrev RunO:=Option (List PV×List Eqn)
def mL (n:Nat) (ops:Array Oper) (ρ:List PRes) (l:List Oper) (H:List Nat) (F:List (Nat×Fct)) (σ:PEnv) (ks D:List Nat):RunO :=
 match qm n ops ρ l 0 H F σ [] with
 | some r=>cond (Dr ks D l) (some (ks.map r.σ,r.L)) none
 | none=>none
def kZ (n:Nat) (ops:Array Oper) (ρ:List PRes) (l:List Oper) (H:List Nat) (F:List (Nat×Fct)) (σ:PEnv) (vs:List PV):RunO :=
 match qm n ops ρ l 0 H F σ [] with
 | some r=>some (vs,r.R)
 | none=>some ([],[])
def pdel (σ:PEnv) (D:List Nat):PEnv:=fun t=>cond (Da t D) .any (σ t)
def kI (σ:PEnv) (D:List Nat) (X:List (Nat×PV)):PEnv:=aK (pdel σ D) X
def yi (t:Nat):List (Nat×PV)→Option PV
 | []=>none
 | (d,v)::l=>cond (Nat.beq t d) (some v) (yi t l)
theorem tT {σ:PEnv} {t:Nat}:∀ {X:List (Nat×PV)},aK σ X t=(yi t X).getD (σ t)
 | []=>rfl
 | (d,v)::l=>by
  simp only [aK,fe,yi]
  cases Nat.beq t d
  ·exact tT (X:=l)
  rfl
theorem vo {t:Nat} {v:PV} {σ:PEnv}:∀ {X:List (Nat×PV)},yi t X=some v→(X.map (·.1)).map σ=X.map (·.2)→σ t=v
 | (d,w)::l,h,e=>by
  simp only [List.map_cons,List.cons.injEq] at e
  simp only [yi] at h
  cases hb:Nat.beq t d
  ·rw [hb] at h;exact vo h e.2
  rw [hb] at h;simp only [dG,eF] at h
  rw [Nat.eq_of_beq_eq_true hb,e.1,h]
theorem vp {t:Nat}:∀ {X:List (Nat×PV)},yi t X=none→t ∉ X.map (·.1)
 | [],_=>by simp
 | (d,v)::l,h=>by
  simp only [yi] at h
  cases hb:Nat.beq t d
  ·rw [hb] at h
   have:t≠d:=fun e=>by rw [e] at hb;simp at hb
   simp only [List.map_cons,List.mem_cons,not_or]
   exact ⟨this,vp h⟩
  rw [hb] at h;cases h
def PWeak (σ σ1:PEnv):Prop:=∀ t,σ1 t=σ t∨σ1 t=.any
theorem Sim.weak {κ:Kr} {σ σ1:PEnv} {σ':Env} (h:Sim κ σ σ') (hw:PWeak σ σ1):Sim κ σ1 σ':=fun t=>by
 rcases hw t with e | e
 ·rw [e];exact h t
 rw [e];exact .any
theorem AI {σ:PEnv}:GInv σ []:=fun t e h=>by cases h
theorem wL {n:Nat} {ops:Array Oper} {ρ:List PRes} {l:List Oper} {H D:List Nat} {F:List (Nat×Fct)} {σ:PEnv} {X:List (Nat×PV)} (hF:FOk F) (h:mL n ops ρ l H F σ (X.map (·.1)) D=kZ n ops ρ l H F σ (X.map (·.2))):∃ r,qm n ops ρ l 0 H F σ []=some r∧r.L=r.R∧PWeak r.σ (kI σ D X):=by
 unfold mL kZ at h
 cases hr:qm n ops ρ l 0 H F σ [] with
 | none=>rw [hr] at h;cases h
 | some r =>
  rw [hr] at h
  simp only at h
  cases hd:Dr (X.map (·.1)) D l
  ·rw [hd] at h;cases h
  rw [hd] at h
  simp only [dG,eF,Prod.mk.injEq] at h
  obtain ⟨h1,h2⟩:=h
  refine ⟨r,rfl,h2,fun t=>?_⟩
  unfold kI
  rw [tT]
  cases hl:yi t X with
  | some v=>exact .inl (by rw [Option.getD_some,vo hl h1])
  | none =>
   rw [Option.getD_none]
   unfold pdel
   cases hi:Da t D
   ·have h3':t ∉ D:=fun hm=>by rw [sO.2 hm] at hi;cases hi
    exact .inl (by rw [eu,vn hr h2 hF AI hd t (vp hl) h3'])
   exact .inr rfl
section
variable {n:Nat} {ops:Array Oper} {l:List Oper} {K:PPost} {KC:Exit→PPost} {σ:PEnv} {ρ:List PRes} {id:Nat} {F:List (Nat×Fct)}
theorem yj {σ1:PEnv} (hw:PWeak σ σ1) (h:PWL n ops l K σ1 ρ):PWL n ops l K σ ρ:=fun β κ σ' ρ' g hs hr=>h β κ σ' ρ' g (hs.weak hw) hr
theorem bp (k:Nat) (H D:List Nat) (X:List (Nat×PV)) (hF:FOk F) (h:mL n ops ρ (l.take k) H F σ (X.map (·.1)) D=kZ n ops ρ (l.take k) H F σ (X.map (·.2))) (hw:PWL n ops (l.drop k) K (kI σ D X) ρ):PWL n ops l K σ ρ:=by
 obtain ⟨r,h1,h2,h3⟩:=wL hF h
 have:=wK h1 h2 hF AI (yj h3 hw)
 rwa [List.take_append_drop] at this
theorem kz (H D:List Nat) (X:List (Nat×PV)) (hF:FOk F) (h:mL n ops ρ l H F σ (X.map (·.1)) D=kZ n ops ρ l H F σ (X.map (·.2))) (hw:K (kI σ D X) ρ):PWL n ops l K σ ρ:=by
 obtain ⟨r,h1,h2,h3⟩:=wL hF h
 have:=wK (rest:=[]) h1 h2 hF AI (yj h3 (ar (ops:=ops) hw))
 rwa [List.append_nil] at this
theorem aB (H D:List Nat) (X:List (Nat×PV)) (hF:FOk F) (h:mL n l.toArray ρ l H F σ (X.map (·.1)) D=kZ n l.toArray ρ l H F σ (X.map (·.2))) (hw:KC .normal (kI σ D X) ρ):PWC n (.region id l.toArray false) KC σ ρ:=aj (kz H D X hF h hw)
end
def yk:List (Nat×Oper)→Bool
 | []=>true
 | (k,o)::l=>cond (nX o.op) (Nat.beq k 1) (Nat.beq k 0)&&yk l
theorem ym {n:Nat} {ops:Array Oper} {rest:List (Nat×Oper)} {K:PPost} {ρd ρ:List PRes}:∀ {l:List (Nat×Oper)} {i:Nat} {H:List Nat} {F:List (Nat×Fct)} {σ:PEnv} {G:List (Nat×GE)} {r:RunR},yk l=true→qm n ops ρ (l.map (·.2)) i H F σ G=some r→r.L=r.R→FOk F→GInv σ G→PWD n ops K rest r.σ ρd ρ→PWD n ops K (l++rest) σ ρd ρ
 | [],i,H,F,σ,G,r,_,h,_,_,_,hw=>by simp only [List.map_nil,qm,eF] at h;subst h;exact hw
 | (k,o)::l,i,H,F,σ,G,r,ht,h,he,hF,hi,hw=>by
  simp only [yk,Bool.and_eq_true] at ht
  obtain ⟨d,gs,p,H',F',r',h1,h2,h3,h4,h5,h6,h7,h8,h9⟩:=tS h he hF hi
  have hrec:=ym (rest:=rest) (K:=K) (ρd:=ρd) ht.2 h6 h8 h9 (tQ hi h4) (by rw [h7];exact hw)
  rw [tR] at hrec
  rcases h5 with ⟨hc,hq⟩ | ⟨hc,hq⟩
  ·rw [hc] at ht;have:=Nat.eq_of_beq_eq_true ht.1;subst this
   exact mu h3 h1 h2 hq hrec
  rw [hc] at ht;have:=Nat.eq_of_beq_eq_true ht.1;subst this
  exact Dq h3 h1 h2 hq hrec
section
variable {n:Nat} {ops:Array Oper} {l:List (Nat×Oper)} {K:PPost} {σ:PEnv} {ρd ρs:List PRes} {F:List (Nat×Fct)}
theorem Dt {σ1:PEnv} (hw:PWeak σ σ1) (h:PWD n ops K l σ1 ρd ρs):PWD n ops K l σ ρd ρs:=fun β κ σ' rd rs g hs h1 h2=>h β κ σ' rd rs g (hs.weak hw) h1 h2
def vq (n:Nat) (ops:Array Oper) (ρ:List PRes) (l:List (Nat×Oper)) (H:List Nat) (F:List (Nat×Fct)) (σ:PEnv) (ks D:List Nat):RunO:=cond (yk l) (mL n ops ρ (l.map (·.2)) H F σ ks D) none
theorem cr (k:Nat) (H D:List Nat) (X:List (Nat×PV)) (hF:FOk F) (h:vq n ops ρs (l.take k) H F σ (X.map (·.1)) D=kZ n ops ρs ((l.take k).map (·.2)) H F σ (X.map (·.2))) (hw:PWD n ops K (l.drop k) (kI σ D X) ρd ρs):PWD n ops K l σ ρd ρs:=by
 unfold vq at h
 cases ht:yk (l.take k)
 ·rw [ht] at h;unfold kZ at h;split at h <;> cases h
 rw [ht] at h
 obtain ⟨r,h1,h2,h3⟩:=wL hF h
 have:=ym ht h1 h2 hF AI (Dt h3 hw)
 rwa [List.take_append_drop] at this
end
def Found (v:Value) (es:List MapEntry) (r:Option (Nat×Value)):Prop:=(r=none∧∀ e∈es,e.key≠v)∨∃ i e,r=some (i,e.val)∧es[i]?=some e∧e.key=v
structure KeyLaw (kt:Nat) (P:Value→Prop):Prop where
 chk:∀ v,P v→∀ e w,(Instr.checkKey e 10000 kt v).run Tryz.prog w=.ok () w
 find:∀ v es,P v→(∀ e∈es,P e.key)→∀ w,∃ r,(Instr.findKey kt v es).run Tryz.prog w=.ok r w∧Found v es r
 same:∀ v,P v→Instr.sameBits 10000 v v=true
section
variable {K V:Type} [DecidableEq K]
structure KEnc (kt:Nat) (ek:K→Value):Prop where
 law:∃ P,KeyLaw kt P∧∀ a,P (ek a)
 inj:∀ a b,ek a=ek b→a=b
end
section
variable {κ:Kr}
theorem KVs.get:∀ {kvs:List (Value×PV)} {es:List MapEntry} {i:Nat} {e:MapEntry},KVs κ kvs es→es[i]?=some e→∃ p,kvs[i]?=some (e.key,p)∧Rp κ p e.val
 | _,_,0,_,.cons h _,g=>by simp only [List.getElem?_cons_zero,eF] at g;subst g;exact ⟨_,rfl,h⟩
 | _,_,i+1,_,.cons _ hs,g=>by simp only [List.getElem?_cons_succ] at g ⊢;exact hs.get g
theorem KVs.app:∀ {ps qs:List (Value×PV)} {es fs:List MapEntry},KVs κ ps es→KVs κ qs fs→KVs κ (ps++qs) (es++fs)
 | _,_,_,_,.nil,h=>h
 | _,_,_,_,.cons h hs,g=>.cons h (hs.app g)
theorem KVs.set:∀ {kvs:List (Value×PV)} {es:List MapEntry} {i:Nat} {e e':MapEntry} {p:PV},KVs κ kvs es→es[i]?=some e→e'.key=e.key→Rp κ p e'.val→KVs κ (kvs.set i (e.key,p)) (es.set i e')
 | _,_,0,_,_,_,.cons h hs,g,hk,hp=>by simp only [List.getElem?_cons_zero,eF] at g;subst g;rw [← hk];exact .cons hp hs
 | _,_,i+1,_,_,_,.cons h hs,g,hk,hp=>by simp only [List.getElem?_cons_succ] at g;exact .cons h (hs.set g hk hp)
theorem zJ {α:Type} {R:α→α→Prop}:∀ {l:List α} {i:Nat} {a a':α},l.Pairwise R→l[i]?=some a→(∀ x,R x a→R x a')→(∀ x,R a x→R a' x)→(l.set i a').Pairwise R
 | _::l,0,a,a',h,g,h1,h2=>by
  simp only [List.getElem?_cons_zero,eF] at g;subst g
  rw [List.pairwise_cons] at h
  exact List.pairwise_cons.2 ⟨fun x hx=>h2 x (h.1 x hx),h.2⟩
 | b::l,i+1,a,a',h,g,h1,h2=>by
  simp only [List.getElem?_cons_succ] at g
  rw [List.pairwise_cons] at h
  refine List.pairwise_cons.2 ⟨fun x hx=>?_,zJ h.2 g h1 h2⟩
  rcases List.mem_or_eq_of_mem_set hx with hx | rfl
  ·exact h.1 x hx
  exact h1 b (h.1 a (List.mem_of_getElem? g))
theorem MapWf.set {es:List MapEntry} {clock i:Nat} {e e':MapEntry} (h:MapWf es clock) (g:es[i]?=some e) (hk:e'.key=e.key) (hb:e'.born=e.born):MapWf (es.set i e') clock where
 nd:=zJ h.nd g (fun x hx=>by rw [hk];exact hx) (fun x hx=>by rw [hk];exact hx)
 bn:=zJ h.bn g (fun x hx=>by rw [hb];exact hx) (fun x hx=>by rw [hb];exact hx)
 lt:=fun x hx=>by
  rcases List.mem_or_eq_of_mem_set hx with hx | rfl
  ·exact h.lt x hx
  rw [hb];exact h.lt e (List.mem_of_getElem? g)
end
section
variable {K V:Type} {ek:K→Value} {ev:V→PV} {xs:List (K×V)} {κ:Kr} {es:List MapEntry} {clock kt:Nat}
end
section
variable {κ:Kr} {σ:Env} {ρ:List Res} {o:Oper} {K:Value→List Res→Kr→Prop}
end
section
variable {K V:Type} [DecidableEq K] {ek:K→Value} {vv:V→PV} {xs:List (K×V)} {κ:Kr} {es:List MapEntry} {clock kt:Nat}
end
section
variable {K V:Type} [DecidableEq K] {ek:K→Value} {vv:V→PV} {xs:List (K×V)} {o:Oper} {σ:PEnv} {ρ ρ':List PRes} {c:Bool} {x y y2:Operand} {t kt et:Nat} {KK:PV→List PRes→Prop} {k:K} {v z0:V} {z:Value} {sz by' b:Nat} {pk:PV} {mo:Option Nat}
end
def kP (a b:Int):Value:=.agg #[.int .i64 a,.int .i64 b]
section
variable {n:Nat} {ops:Array Oper} {o:Oper} {rest:List Oper} {K:PPost} {σ:PEnv} {ρ:List PRes} {d:Nat}
end
section
variable {o:Oper} {σ:PEnv} {ρ ρ':List PRes} {x y:Operand} {t T T2 sz by' n c:Nat} {a:Option Addr} {kd:IntKind} {i j:Int} {z:Value} {α:Type} {enc:α→List PV} {xs zs:List α} {m:α} {K:PV→List PRes→Prop}
end
section
variable {α:Type} (lt:α→α→Bool)
def rX (x:α):List α→List α
 | []=>[x]
 | y::l=>cond (lt y x) (y::rX x l) (x::y::l)
def fY:List α→List α
 | []=>[]
 | x::l=>rX lt x (fY l)
variable {lt}
theorem mM {x:α}:∀ {l:List α},(rX lt x l).Perm (x::l)
 | []=>List.Perm.refl _
 | y::l=>by
  unfold rX
  cases lt y x
  ·exact List.Perm.refl _
  exact (List.Perm.cons y mM).trans (List.Perm.swap x y l)
theorem nr:∀ {l:List α},(fY lt l).Perm l
 | []=>List.Perm.refl _
 | x::l=>mM.trans (List.Perm.cons x nr)
theorem tU (htr:∀ x y z,lt x y=true→lt y z=true→lt x z=true) (hnt:∀ x y z,lt x y=false→lt y z=false→lt x z=false) (hir:∀ x,lt x x=false) {x:α}:∀ {l:List α},l.Pairwise (fun a b=>lt b a=false)→(rX lt x l).Pairwise (fun a b=>lt b a=false)
 | [],_=>List.pairwise_singleton _ _
 | y::l,h=>by
  unfold rX
  obtain ⟨h1,h2⟩:=List.pairwise_cons.1 h
  have asym:∀ a b,lt a b=true→lt b a=false:=fun a b hab=>by
   cases hba:lt b a
   ·rfl
   have:=htr a b a hab hba;rw [hir] at this;cases this
  cases hy:lt y x
  ·refine List.pairwise_cons.2 ⟨fun z hz=>?_,h⟩
   rcases List.mem_cons.1 hz with rfl | hz
   ·exact hy
   exact hnt z y x (h1 z hz) hy
  refine List.pairwise_cons.2 ⟨fun z hz=>?_,tU htr hnt hir h2⟩
  rcases List.mem_cons.1 (mM.mem_iff.1 hz) with rfl | hz
  ·exact asym y z hy
  exact h1 z hz
theorem qn (htr:∀ x y z,lt x y=true→lt y z=true→lt x z=true) (hnt:∀ x y z,lt x y=false→lt y z=false→lt x z=false) (hir:∀ x,lt x x=false):∀ (l:List α),(fY lt l).Pairwise (fun a b=>lt b a=false)
 | []=>List.Pairwise.nil
 | x::l=>tU htr hnt hir (qn htr hnt hir l)
theorem rY (ha:∀ x y,lt x y=false→lt y x=false→x=y):∀ {l m:List α},l.Pairwise (fun a b=>lt b a=false)→m.Pairwise (fun a b=>lt b a=false)→l.Perm m→l=m
 | [],m,_,_,hp=>(List.nil_perm.1 hp).symm
 | x::l,m,h1,h2,hp=>by
  obtain ⟨g1,g2⟩:=List.pairwise_cons.1 h1
  match m,h2,hp with
  | [],_,hp=>exact absurd (List.perm_nil.1 hp) (by simp)
  | y::m,h2,hp =>
   obtain ⟨k1,k2⟩:=List.pairwise_cons.1 h2
   have hxy:x=y:=by
    have hx:x∈y::m:=hp.mem_iff.1 (by simp)
    have hy:y∈x::l:=hp.mem_iff.2 (by simp)
    rcases List.mem_cons.1 hx with e | hx
    ·exact e
    rcases List.mem_cons.1 hy with e | hy
    ·exact e.symm
    exact ha x y (k1 x hx) (g1 y hy)
   subst hxy
   rw [rY ha g2 k2 ((List.perm_cons x).1 hp)]
end
theorem bS {α β:Type} {x:Option α} {f:α→Option β} {a:α} (h:x=some a):x.bind f=f a:=by rw [h];rfl
theorem cj {r:Int} (h1 : -9223372036854775808≤r) (h2:r≤9223372036854775807):IntKind.i64.wrap r=r:=p6 ⟨h1,h2⟩
theorem ip {n:Nat} (h:n≤1267650600228229401496703205000):n<FUEL:=Nat.lt_of_le_of_lt h (by unfold FUEL;omega)
theorem bV {α:Type} {xs:List α} {k:Nat} (h:k<xs.length):idx xs (k:Int)=some xs[k]:=by
 unfold idx;rw [if_pos (by omega)];simp [h]
theorem dH {α:Type} [Inhabited α] {x:Option α}:gd true x=x:=rfl
theorem kJ {α:Type} [Inhabited α] {x:Option α}:gd false x=some default:=rfl
theorem qo {α:Type} {l:List α} {k:Nat} (h:0<k) (hk:k<l.length) (hl:l.length≤4611686018427387904):idx l (IntKind.i64.wrap ((k:Int) - 1))=some (l[k - 1]'(by omega)):=by
 rw [cj (by omega) (by omega),show (k:Int) - 1=((k - 1:Nat):Int) by omega]
 exact bV (by omega)
theorem iV {k:Nat} {n:Nat} (hk:k<n) (hn:n≤4611686018427387904):IntKind.i64.wrap ((k:Int)+1)=((k+1:Nat):Int):=by rw [cj (by omega) (by omega)];omega
theorem uS {k n:Nat} (h:k<n):decide ((k:Int)<(n:Int))=true:=by simp;omega
theorem mw (n:Nat):decide ((n:Int)<(n:Int))=false:=by simp
theorem nY {α:Type} {by':Nat} {xs ys:List α} (h:(xs.length+ys.length)*by'≤140737488355328) (h2:xs.length+ys.length≤140737488355328):app by' xs ys=some (xs++ys):=by unfold app;rw [if_pos ⟨h,h2⟩]
theorem wM {α:Type} {xs:List α} {a b:Nat} (h:a≤b) (h2:b≤xs.length):sub xs (a:Int) (b:Int)=some ((xs.take b).drop a):=by
 unfold sub;rw [if_pos (by omega)];simp
theorem AJ {b:Int} (h:b≠0):nz b=some ():=by unfold nz;rw [if_neg h]
def gO {A B R:Type} (p:A⊕R) (g:A→B⊕R):B⊕R:=match p with | .inl a=>g a | .inr r=>.inr r
def run {α A R:Type} (f:Nat→α→A→A⊕R):List α→Nat→A→A⊕R
 | [],_,a=>.inl a
 | x::xs,k,a=>gO (f k x a) (fun a'=>run f xs (k+1) a')
theorem eA {α A R:Type} (f:Nat→α→A→A⊕R) (x:α) (xs:List α) (k:Nat) (a:A):run f (x::xs) k a=gO (f k x a) (run f xs (k+1)):=rfl
def outc {S T A R:Type} (g:A→S) (e:R→T):A⊕R→S⊕T
 | .inl a=>.inl (g a)
 | .inr r=>.inr (e r)
def uT {T A R:Type} (g:A→T) (e:R→T):A⊕R→T
 | .inl a=>g a
 | .inr r=>e r
theorem fm {S T α A R:Type} {l:List α} (hl:l.length≤4611686018427387904) {body:S→Option (S⊕T)} (pack:Int→A→S) (f:Nat→α→A→A⊕R) (fin:A→T) (exit:R→T) (P:Nat→A→Prop)
    (hstep:∀ (k:Nat) (hk:k<l.length) (a:A),P k a→body (pack (k:Int) a)=some (outc (pack ((k+1:Nat):Int)) exit (f k l[k] a))∧∀ a',f k l[k] a=.inl a'→P (k+1) a')
    (hend:∀ a,P l.length a→body (pack (l.length:Int) a)=some (.inr (fin a))) (a:A) (h0:P 0 a):bu body FUEL (pack 0 a)=some (uT fin exit (run f l 0 a))∧∀ a',run f l 0 a=.inl a'→P l.length a':=by
  have main:∀ (xs:List α) (k N:Nat) (a:A),l.drop k=xs→k≤l.length→P k a→xs.length<N→bu body N (pack (k:Int) a)=some (uT fin exit (run f xs k a))∧∀ a',run f xs k a=.inl a'→P l.length a':=by
    intro xs
    induction xs with
    | nil =>
      intro k N a hd hk hp hN
      have:k=l.length:=by
        have:=congrArg List.length hd;simp at this;omega
      subst this
      obtain ⟨N,rfl⟩:∃ M,N=M+1:=⟨N - 1,by omega⟩
      rw [gz,hend a hp]
      exact ⟨rfl,fun a' h=>by injection h with h;exact h ▸ hp⟩
    | cons x xs ih =>
      intro k N a hd hk hp hN
      have hk':k<l.length:=by
        have:=congrArg List.length hd;simp at this;omega
      have hx:l[k]=x∧l.drop (k+1)=xs:=by
        rw [List.drop_eq_getElem_cons hk'] at hd;injection hd with h1 h2;exact ⟨h1,h2⟩
      obtain ⟨N,rfl⟩:∃ M,N=M+1:=⟨N - 1,by omega⟩
      obtain ⟨e1,e2⟩:=hstep k hk' a hp
      rw [hx.1] at e1 e2
      rw [gz,e1]
      rw [eA]
      cases hf:f k x a with
      | inl a'=>exact ih (k+1) N a' hx.2 (by omega) (e2 a' hf) (by simp at hN;omega)
      | inr r=>exact ⟨rfl,fun a' h=>by change Sum.inr r=_ at h;cases h⟩
  exact main l 0 FUEL a rfl (by omega) h0 (ip (by omega))
theorem Du {S T α A R β:Type} {l:List α} (hl:l.length≤4611686018427387904) {body:S→Option (S⊕T)} {k:T→Option β} (pack:Int→A→S) (f:Nat→α→A→A⊕R) (fin:A→T) (exit:R→T) (P:Nat→A→Prop) (a:A) (h0:P 0 a)
    (hstep:∀ (k:Nat) (hk:k<l.length) (a:A),P k a→body (pack (k:Int) a)=some (outc (pack ((k+1:Nat):Int)) exit (f k l[k] a))∧∀ a',f k l[k] a=.inl a'→P (k+1) a')
    (hend:∀ a,P l.length a→body (pack (l.length:Int) a)=some (.inr (fin a))):Option.bind (bu body FUEL (pack 0 a)) k=k (uT fin exit (run f l 0 a)):=bS (fm hl pack f fin exit P hstep hend a h0).1
def qp {α T:Type} (g:Nat→α→Option T):List α→Nat→Option T
 | [],_=>none
 | x::xs,k=>match g k x with | some t=>some t | none=>qp g xs (k+1)
def outg {T:Type} (k:Nat):Option T→Int⊕T
 | some t=>.inr t
 | none=>.inl ((k+1:Nat):Int)
theorem mN {T α β:Type} {l:List α} (hl:l.length≤4611686018427387904) {body:Int→Option (Int⊕T)} {k:T→Option β} (g:Nat→α→Option T) (e:T)
    (hstep:∀ (k:Nat) (hk:k<l.length),body (k:Int)=some (outg k (g k l[k]))) (hend:body (l.length:Int)=some (.inr e)):Option.bind (bu body FUEL 0) k=k ((qp g l 0).getD e):=by
  refine (Du hl (fun i (_:Unit)=>i) (fun k x _=>match g k x with | some t=>.inr t | none=>.inl ()) (fun _=>e) (fun (t:T)=>t) (fun _ _=>True) () trivial (fun k hk a _=>⟨by
    rw [hstep k hk];cases g k l[k] <;> rfl,fun _ _=>trivial⟩) (fun a _=>hend)).trans ?_
  congr 1
  generalize 0=i
  induction l generalizing i with
  | nil=>rfl
  | cons x xs ih =>
    clear hstep hend
    have ih2:∀ j,uT (fun _=>e) (fun t=>t) (run (fun k x (_:Unit)=>match g k x with | some t=>Sum.inr t | none=>Sum.inl ()) xs j ())=(qp g xs j).getD e:=by
      clear ih hl
      induction xs with
      | nil=>intro j;rfl
      | cons y ys ih=>intro j;rw [eA,qp];cases g j y with | some t=>rfl | none=>exact ih (j+1)
    rw [eA,qp]
    cases g i x with
    | some t=>rfl
    | none=>exact ih2 (i+1)
theorem mO {α T:Type} (p:α→Bool) (t:T):∀ (l:List α) (k:Nat),qp (fun _ x=>cond (p x) none (some t)) l k=cond (l.all p) none (some t)
 | [],_=>rfl
 | x::xs,k=>by
  rw [qp,List.all_cons,mO p t xs]
  cases p x <;> rfl
theorem tV {α T:Type} (p:α→Bool) (f:α→T):∀ (l:List α) (k:Nat),qp (fun _ x=>cond (p x) (some (f x)) none) l k=(l.find? p).map f
 | [],_=>rfl
 | x::xs,k=>by
  rw [qp,List.find?_cons,tV p f xs]
  cases p x <;> rfl
theorem rl {S T α A β:Type} {l:List α} (hl:l.length≤4611686018427387904) {body:S→Option (S⊕T)} {k:T→Option β} (pack:Int→A→S) (f:A→α→A) (fin:A→T) (P:Nat→A→Prop) (a:A) (h0:P 0 a)
    (hstep:∀ (k:Nat) (hk:k<l.length) (a:A),P k a→body (pack (k:Int) a)=some (.inl (pack ((k+1:Nat):Int) (f a l[k])))∧P (k+1) (f a l[k]))
    (hend:∀ a,P l.length a→body (pack (l.length:Int) a)=some (.inr (fin a))):Option.bind (bu body FUEL (pack 0 a)) k=k (fin (l.foldl f a))∧P l.length (l.foldl f a):=by
  have e:=fm hl pack (fun _ x a=>(.inl (f a x):A⊕Empty)) fin (fun r=>nomatch r) P (fun k hk a hp=>⟨(hstep k hk a hp).1,fun a' h=>by injection h with h;exact h ▸ (hstep k hk a hp).2⟩) hend a h0
  have e2:∀ (xs:List α) (i:Nat) (b:A),run (fun _ x a=>(.inl (f a x):A⊕Empty)) xs i b=.inl (xs.foldl f b):=by
    intro xs
    induction xs with
    | nil=>intro i b;rfl
    | cons x xs ih=>intro i b;rw [eA,List.foldl_cons];exact ih _ _
  rw [e2] at e
  exact ⟨bS e.1,e.2 _ rfl⟩
theorem ns {α:Type} {l:List α} {k:Nat} (h:k<l.length) (d:α):l.getD k d=l[k]:=by simp [List.getD,h]
theorem u8tri (a b:UInt8):a<b∨a=b∨b<a:=by
 rcases Nat.lt_trichotomy a.toNat b.toNat with h | h | h
 ·exact .inl h
 ·exact .inr (.inl (UInt8.toNat_inj.1 h))
 exact .inr (.inr h)
theorem vr:∀ (x y:List UInt8),(Op.bytesLess x y||(x == y)) = !Op.bytesLess y x
 | [],[]=>by simp [Op.bytesLess]
 | _::_,[]=>by simp [Op.bytesLess]
 | [],_::_=>by simp [Op.bytesLess]
 | a::x,b::y=>by
  rw [Op.bytesLess,Op.bytesLess]
  have ih:=vr x y
  rcases u8tri a b with h | h | h
  ·have h1:¬ b<a:=fun h'=>by have:a.toNat<b.toNat:=h;have:b.toNat<a.toNat:=h';omega
   have h2:¬ b=a:=fun h'=>by subst h';have:b.toNat<b.toNat:=h;omega
   have h3:¬ a=b:=fun h'=>h2 h'.symm
   simp [h,h1,h2]
  ·subst h
   have h1:¬ a<a:=fun h'=>by have:a.toNat<a.toNat:=h';omega
   simp [h1] at ih ⊢
   rw [← ih]
  have h1:¬ a<b:=fun h'=>by have:a.toNat<b.toNat:=h';have:b.toNat<a.toNat:=h;omega
  have h3:¬ a=b:=fun h'=>by subst h';have:a.toNat<a.toNat:=h;omega
  simp [h,h1,h3]
theorem str_tot (x y:ByteArray):(Op.bytesLess x.toList y.toList||decide (x=y)) = !Op.bytesLess y.toList x.toList:=by
 rw [← vX];exact vr _ _
structure Zd where
 Kind:Int
 Measure:Int
 Quantity:Int
 Value:Int
 Amount:Int
 deriving Inhabited,DecidableEq
def Zd.enc (m:Zd):List PV:=[pI m.Kind,pI m.Measure,pI m.Quantity,pI m.Value,pI m.Amount]
def Zd.eqb (a b:Zd):Bool:=((a.Kind == b.Kind)&&((a.Measure == b.Measure)&&((a.Quantity == b.Quantity)&&((a.Value == b.Value)&&((a.Amount == b.Amount)&&true)))))
theorem Zd.eqb_iff {a b:Zd}:Zd.eqb a b=true↔a=b:=by cases a;cases b;simp [Zd.eqb]
structure Zq where
 Lines:(List Zd)
 Total:Int
 deriving Inhabited,DecidableEq
def Zq.enc (m:Zq):List PV:=[pL Zd.enc m.Lines,pI m.Total]
structure Zj where
 Code:ByteArray
 Origin:ByteArray
 Proof:Bool
 Company:Int
 Day:Int
 Quantity:Int
 Value:Int
 Granted:Int
 deriving Inhabited,DecidableEq
def Zj.enc (m:Zj):List PV:=[pS m.Code,pS m.Origin,pB m.Proof,pI m.Company,pI m.Day,pI m.Quantity,pI m.Value,pI m.Granted]
def Zj.eqb (a b:Zj):Bool:=((decide (a.Code=b.Code))&&((decide (a.Origin=b.Origin))&&((a.Proof == b.Proof)&&((a.Company == b.Company)&&((a.Day == b.Day)&&((a.Quantity == b.Quantity)&&((a.Value == b.Value)&&((a.Granted == b.Granted)&&true))))))))
theorem Zj.eqb_iff {a b:Zj}:Zj.eqb a b=true↔a=b:=by cases a;cases b;simp [Zj.eqb]
theorem Zj.eqok32:EqOk 32 [2,2,1,0,0,0,0,0]:=⟨by kernel_rfl,by kernel_rfl,by kernel_rfl,by kernel_rfl⟩
structure Za where
 From:Int
 Number:Int
 Day:Int
 Kind:Int
 Country:ByteArray
 Amount:Int
 Company:Int
 deriving Inhabited,DecidableEq
def Za.enc (m:Za):List PV:=[pI m.From,pI m.Number,pI m.Day,pI m.Kind,pS m.Country,pI m.Amount,pI m.Company]
def Za.eqb (a b:Za):Bool:=((a.From == b.From)&&((a.Number == b.Number)&&((a.Day == b.Day)&&((a.Kind == b.Kind)&&((decide (a.Country=b.Country))&&((a.Amount == b.Amount)&&((a.Company == b.Company)&&true)))))))
theorem Za.eqb_iff {a b:Za}:Za.eqb a b=true↔a=b:=by cases a;cases b;simp [Za.eqb]
theorem Za.eqok93:EqOk 93 [0,0,0,0,2,0,0]:=⟨by kernel_rfl,by kernel_rfl,by kernel_rfl,by kernel_rfl⟩
structure Zk where
 Source:Int
 Code:ByteArray
 Units:Int
 Facts:(List Za)
 deriving Inhabited,DecidableEq
def Zk.enc (m:Zk):List PV:=[pI m.Source,pS m.Code,pI m.Units,pL Za.enc m.Facts]
structure Zm where
 Rate:Int
 Amount:Int
 Per:Int
 HasMost:Bool
 Most:Int
 HasLeast:Bool
 Least:Int
 deriving Inhabited,DecidableEq
def Zm.enc (m:Zm):List PV:=[pI m.Rate,pI m.Amount,pI m.Per,pB m.HasMost,pI m.Most,pB m.HasLeast,pI m.Least]
def Zm.eqb (a b:Zm):Bool:=((a.Rate == b.Rate)&&((a.Amount == b.Amount)&&((a.Per == b.Per)&&((a.HasMost == b.HasMost)&&((a.Most == b.Most)&&((a.HasLeast == b.HasLeast)&&((a.Least == b.Least)&&true)))))))
theorem Zm.eqb_iff {a b:Zm}:Zm.eqb a b=true↔a=b:=by cases a;cases b;simp [Zm.eqb]
structure Zb where
 ID:Int
 Kind:Int
 Prefix:ByteArray
 Origins:(List ByteArray)
 Company:Int
 From:Int
 To:Int
 Registered:Int
 Duty:Zm
 deriving Inhabited,DecidableEq
def Zb.enc (m:Zb):List PV:=[pI m.ID,pI m.Kind,pS m.Prefix,pL eS m.Origins,pI m.Company,pI m.From,pI m.To,pI m.Registered,pI m.Duty.Rate,pI m.Duty.Amount,pI m.Duty.Per,pB m.Duty.HasMost,pI m.Duty.Most,pB m.Duty.HasLeast,pI m.Duty.Least]
structure Zh where
 Code:ByteArray
 Quantity:Int
 deriving Inhabited,DecidableEq
def Zh.enc (m:Zh):List PV:=[pS m.Code,pI m.Quantity]
def Zh.eqb (a b:Zh):Bool:=((decide (a.Code=b.Code))&&((a.Quantity == b.Quantity)&&true))
theorem Zh.eqb_iff {a b:Zh}:Zh.eqb a b=true↔a=b:=by cases a;cases b;simp [Zh.eqb]
structure Zo where
 ID:Int
 Inputs:(List Zh)
 Outputs:(List Zh)
 Scale:(List Int)
 deriving Inhabited,DecidableEq
def Zo.enc (m:Zo):List PV:=[pI m.ID,pL Zh.enc m.Inputs,pL Zh.enc m.Outputs,pL eI m.Scale]
structure Zs where
 Measures:(List Zb)
 Recipes:(List Zo)
 Holidays:(List Int)
 deriving Inhabited,DecidableEq
def Zs.enc (m:Zs):List PV:=[pL Zb.enc m.Measures,pL Zo.enc m.Recipes,pL eI m.Holidays]
structure Ze where
 L:(List Int)
 I:Int
 deriving Inhabited,DecidableEq
def Ze.enc (m:Ze):List PV:=[pL eI m.L,pI m.I]
structure Zp where
 kind:Int
 measure:Int
 deriving Inhabited,DecidableEq
def Zp.enc (m:Zp):List PV:=[pI m.kind,pI m.measure]
def Zp.eqb (a b:Zp):Bool:=((a.kind == b.kind)&&((a.measure == b.measure)&&true))
theorem Zp.eqb_iff {a b:Zp}:Zp.eqb a b=true↔a=b:=by cases a;cases b;simp [Zp.eqb]
structure Zf where
 Hi:Int
 Lo:Int
 deriving Inhabited,DecidableEq
def Zf.enc (m:Zf):List PV:=[pU m.Hi,pU m.Lo]
def Zf.eqb (a b:Zf):Bool:=((a.Hi == b.Hi)&&((a.Lo == b.Lo)&&true))
theorem Zf.eqb_iff {a b:Zf}:Zf.eqb a b=true↔a=b:=by cases a;cases b;simp [Zf.eqb]
structure Zg where
 quantity:Int
 value:Int
 kinds:(List Int)
 deriving Inhabited,DecidableEq
def Zg.enc (m:Zg):List PV:=[pI m.quantity,pI m.value,pL eI m.kinds]
structure Zr where
 Year:Int
 Month:Int
 Dom:Int
 deriving Inhabited,DecidableEq
def Zr.enc (m:Zr):List PV:=[pI m.Year,pI m.Month,pI m.Dom]
def Zr.eqb (a b:Zr):Bool:=((a.Year == b.Year)&&((a.Month == b.Month)&&((a.Dom == b.Dom)&&true)))
theorem Zr.eqb_iff {a b:Zr}:Zr.eqb a b=true↔a=b:=by cases a;cases b;simp [Zr.eqb]
structure Zc where
 index_:Int
 share:Int
 rest:Int
 deriving Inhabited,DecidableEq
def Zc.enc (m:Zc):List PV:=[pI m.index_,pU m.share,pU m.rest]
def Zc.eqb (a b:Zc):Bool:=((a.index_ == b.index_)&&((a.share == b.share)&&((a.rest == b.rest)&&true)))
theorem Zc.eqb_iff {a b:Zc}:Zc.eqb a b=true↔a=b:=by cases a;cases b;simp [Zc.eqb]
structure Zn where
 compare:Unit
 deriving Inhabited,DecidableEq
def Zn.enc (m:Zn):List PV:=[.fn 147 []]
structure Zi where
 Hi:Int
 Lo:Int
 deriving Inhabited,DecidableEq
def Zi.enc (m:Zi):List PV:=[pU m.Hi,pU m.Lo]
def Zi.eqb (a b:Zi):Bool:=((a.Hi == b.Hi)&&((a.Lo == b.Lo)&&true))
theorem Zi.eqb_iff {a b:Zi}:Zi.eqb a b=true↔a=b:=by cases a;cases b;simp [Zi.eqb]
theorem Zi.eqok205:EqOk 205 [0,0]:=⟨by kernel_rfl,by kernel_rfl,by kernel_rfl,by kernel_rfl⟩
def Zp.key (m:Zp):Value:=kP m.kind m.measure
abbrev ck (m:Zj):List PV:=[pS m.Code,pS m.Origin,pB m.Proof,pI m.Company,pI m.Day,pI m.Quantity,pI m.Value,pI m.Granted]
abbrev aU (m:Za):List PV:=[pI m.From,pI m.Number,pI m.Day,pI m.Kind,pS m.Country,pI m.Amount,pI m.Company]
abbrev bj (m:Zk):List PV:=[pI m.Source,pS m.Code,pI m.Units,pL Za.enc m.Facts]
abbrev jI (m:Zm):List PV:=[pI m.Rate,pI m.Amount,pI m.Per,pB m.HasMost,pI m.Most,pB m.HasLeast,pI m.Least]
abbrev bk (m:Zb):List PV:=[pI m.ID,pI m.Kind,pS m.Prefix,pL eS m.Origins,pI m.Company,pI m.From,pI m.To,pI m.Registered,pI m.Duty.Rate,pI m.Duty.Amount,pI m.Duty.Per,pB m.Duty.HasMost,pI m.Duty.Most,pB m.Duty.HasLeast,pI m.Duty.Least]

section
variable {o:Oper} {σ:PEnv} {ρ:List PRes} {f:Nat} {l:List Operand} {ts:Array Nat} {pargs caps:List PV} {x:Operand} {KV:PV→List PRes→Prop}
end
section
variable {o:Oper} {σ:PEnv} {ρ:List PRes} {x y:Operand} {t:Nat} {K:PV→List PRes→Prop} {α:Type} {enc:α→List PV} {xs:List α} {m m':α} {i:Int}
end
theorem oq_cap {o:Oper} {σ:Env} {ρ:List Res} {κ:Kr} {c:Bool} {x:Operand} {t n cp E:Nat} {a:Option Addr} (ho:o.op=.call { callee:=.builtin .cap,args:=#[x],argTypes:=#[t] }) (hu:eW t=some (.slice E)) (hx:Ev σ c x (.slice a n cp)):OpQ c o σ ρ κ (.int .i64 (cp:Int)):=fun hc w _=>by
 simp [execOp,ho,resolve,invoke,builtin,Builtin.cap_,hx hc,run_underlying (bW hu),goInt]
theorem BL {o:Oper} {x y:Operand} {t g len E by':Nat} {z:Value} {k:IntKind} {a m:Int} {tbl:List Int} {σ:PEnv} {ρ:List PRes} (ho:o.op=.indexAddr t x y) (hu:eW t=some (.array len E)) (hi:fS E=some (z,1,by')) (hx:bG σ x=.v (.pointer (some ⟨g,0,none⟩))) (hy:bG σ y=.v (.int k a))
    (hG:∀ κ,GOK κ→Sh κ g 0 (tbl.map (Value.int .i64))) (hl:tbl.length=len) (hm:idx tbl a=some m):POpQ true o σ ρ (.ref [pI m] 0):=fun κ σ' ρ' gk hs hrr=>by
  obtain ⟨h0,h1⟩:=jH hm
  obtain ⟨j,rfl⟩:∃ j:Nat,a=(j:Int):=⟨a.toNat,by omega⟩
  rw [Int.toNat_natCast] at h1
  have hlt:j<len:=by rw [← hl];exact (List.getElem?_eq_some_iff.1 h1).1
  have hS:Sh κ g (0+j*1) [.int .i64 m]:=⟨(hG κ gk).1,fun i u hu=>by
    cases i with
    | zero =>
      simp at hu;subst hu
      have:=(hG κ gk).2 j (.int .i64 m) (by rw [List.getElem?_map,h1];rfl)
      simpa using this
    | succ i=>simp at hu⟩
  refine ⟨.pointer (some ⟨g,0+j*1,none⟩),fun _=>?_,qZ ho hu hi (.p (hs.v1 hx)) (.p (hs.v1 hy)) (fun _=>rfl) (fun _=>hlt)⟩
  exact Rp.ref (ds:=[.int .i64 m]) hS (fun u hu=>by rw [List.mem_singleton.1 hu];rfl) (.cons (.v rfl) .nil)
def kf:List Int:=[31,28,31,30,31,30,31,31,30,31,30,31]
def zK (t:Nat):List Nat→Bool
 | []=>false
 | x::l=>cond (Nat.beq t x) true (zK t l)
theorem tW {t:Nat}:∀ {l:List Nat},zK t l=true↔t∈l
 | []=>by simp [zK]
 | x::l=>by
  unfold zK
  cases h:Nat.beq t x with
  | true=>have:=Nat.eq_of_beq_eq_true h;simp [this]
  | false =>
   have:t≠x:=fun e=>by rw [e] at h;simp at h
   simp only [eu];rw [tW];simp [this]
def rs (ds:List Nat) (σ:PEnv):PEnv:=fun t=>cond (zK t ds) (σ t) .any
def sn (σ:PEnv) (L:Nat→Bool):Nat→List (Nat×PV)→PEnv
 | _,[]=>σ
 | k,(d,p)::l=>fun t=>cond (Nat.beq t d) (cond (L k) p .any) (sn σ L (k+1) l t)
theorem qq {σ:PEnv} {L:Nat→Bool}:∀ {l:List (Nat×PV)} {k:Nat},(∀ i,i<l.length→L (k+i)=true)→sn σ L k l=aK σ l
 | [],_,_=>rfl
 | (d,p)::l,k,h=>by
  funext t
  have h0:=h 0 (by simp)
  rw [Nat.add_zero] at h0
  have ih:=qq (σ:=σ) (L:=L) (l:=l) (k:=k+1) fun i hi=>by have:=h (i+1) (by simp;omega);rwa [show k+(i+1)=k+1+i by omega] at this
  simp only [sn,aK,fe,h0,dG,ih]
theorem nt {σ:PEnv} {L:Nat→Bool} {t:Nat}:∀ {l:List (Nat×PV)} {k i:Nat} {p:PV},(l.map (·.1)).Nodup→l[i]?=some (t,p)→sn σ L k l t=cond (L (k+i)) p .any
 | [],_,_,_,_,h=>by simp at h
 | (d,q)::l,k,0,p,_,h=>by
  simp only [List.getElem?_cons_zero,eF,Prod.mk.injEq] at h
  obtain ⟨rfl,rfl⟩:=h
  simp [sn]
 | (d,q)::l,k,i+1,p,hn,h=>by
  rw [List.getElem?_cons_succ] at h
  have hn2:=List.nodup_cons.1 hn
  have hne:Nat.beq t d=false:=by
   rw [Bool.eq_false_iff];intro e
   have e:=Nat.eq_of_beq_eq_true e
   subst e
   exact hn2.1 (List.mem_map.2 ⟨_,List.mem_of_getElem? h,rfl⟩)
  simp only [sn,hne,eu]
  rw [nt hn2.2 h,show k+1+i=k+(i+1) by omega]
theorem mP {σ:PEnv} {L:Nat→Bool} {t:Nat}:∀ {l:List (Nat×PV)} {k:Nat},(∀ x∈l,x.1≠t)→sn σ L k l t=σ t
 | [],_,_=>rfl
 | (d,p)::l,k,h=>by
  have hne:Nat.beq t d=false:=by
   rw [Bool.eq_false_iff];intro e
   exact h (d,p) (by simp) (Nat.eq_of_beq_eq_true e).symm
  simp only [sn,hne,eu]
  exact mP fun x hx=>h x (by simp [hx])
inductive Flow (σ:PEnv) (ρ:List PRes):List Oper→List (List Nat)→List (Nat×PV)→Prop
 | nil:Flow σ ρ [] [] []
 | cons {o:Oper} {l:List Oper} {ds:List Nat} {D:List (List Nat)} {d:Nat} {p:PV} {dp:List (Nat×PV)} (h:POpL o (rs ds σ) ρ fun pv ρ'=>pv=p∧ρ'=ρ) (hs:Flow σ ρ l D dp):Flow σ ρ (o::l) (ds::D) ((d,p)::dp)
section
variable {σ:PEnv} {ρ:List PRes} {o:Oper} {l:List Oper} {ds:List Nat} {D:List (List Nat)} {d:Nat} {p:PV} {dp:List (Nat×PV)}
theorem cU (ds:List Nat) (h:POpQ true o (rs ds σ) ρ p) (hs:Flow σ ρ l D dp):Flow σ ρ (o::l) (ds::D) ((d,p)::dp):=.cons (bX h ⟨rfl,rfl⟩) hs
theorem my (ds:List Nat) (h:POpL o (rs ds σ) ρ fun pv ρ'=>pv=p∧ρ'=ρ) (hs:Flow σ ρ l D dp):Flow σ ρ (o::l) (ds::D) ((d,p)::dp):=.cons h hs
theorem Flow.get:∀ {l:List Oper} {D:List (List Nat)} {dp:List (Nat×PV)} {i:Nat} {o:Oper},Flow σ ρ l D dp→l[i]?=some o→∃ ds d p,D[i]?=some ds∧dp[i]?=some (d,p)∧POpL o (rs ds σ) ρ fun pv ρ'=>pv=p∧ρ'=ρ
 | _,_,_,0,_,.cons h _,e=>by simp only [List.getElem?_cons_zero,eF] at e;subst e;exact ⟨_,_,_,rfl,rfl,h⟩
 | _,_,_,i+1,_,.cons _ hs,e=>by simp only [List.getElem?_cons_succ] at e ⊢;exact hs.get e
theorem Flow.len:∀ {l:List Oper} {D:List (List Nat)} {dp:List (Nat×PV)},Flow σ ρ l D dp→D.length=l.length∧dp.length=l.length
 | _,_,_,.nil=>⟨rfl,rfl⟩
 | _,_,_,.cons _ hs=>⟨by simp [hs.len.1],by simp [hs.len.2]⟩
end
def tX (o:Oper) (j:Nat):Bool:=o.after.any fun e=>Region.binds .any e&&Nat.beq e.on j
def vt (o:Oper) (t:Nat):Nat→List (Nat×PV)→Bool
 | _,[]=>true
 | j,(d,_)::r=>(!Nat.beq t d||tX o j)&&vt o t (j+1) r
theorem tY {o:Oper} {t:Nat}:∀ {dp:List (Nat×PV)} {j k:Nat} {p:PV},vt o t j dp=true→dp[k]?=some (t,p)→tX o (j+k)=true
 | [],_,_,_,_,h=>by simp at h
 | (d,q)::r,j,0,p,h,e=>by
  simp only [List.getElem?_cons_zero,eF,Prod.mk.injEq] at e
  obtain ⟨rfl,rfl⟩:=e
  simp only [vt,Bool.and_eq_true,Bool.or_eq_true] at h
  simpa using h.1
 | (d,q)::r,j,k+1,p,h,e=>by
  simp only [List.getElem?_cons_succ] at e
  simp only [vt,Bool.and_eq_true] at h
  have:=tY h.2 e
  rwa [show j+1+k=j+(k+1) by omega] at this
def sQ (n:Nat) (dp:List (Nat×PV)):Nat→List Oper→List (List Nat)→List (Nat×PV)→Bool
 | _,[],[],[]=>true
 | i,o::l,ds::D,(d,_)::r=>o.guard.isNone&&(match o.dst with | some d'=>Nat.beq d' d | none=>false)&&Nat.blt d n&&ds.all (fun t=>vt o t 0 dp)&&o.after.all (fun e=>Nat.blt e.on i)&&sQ n dp (i+1) l D r
 | _,_,_,_=>false
theorem qr {n:Nat} {dp:List (Nat×PV)} {d:Nat} {p:PV} {o:Oper} {ds:List Nat}:∀ (l:List Oper) (D:List (List Nat)) (r:List (Nat×PV)) (i k:Nat),sQ n dp i l D r=true→l[k]?=some o→D[k]?=some ds→r[k]?=some (d,p)→o.guard=none∧o.dst=some d∧Nat.blt d n=true∧(∀ t∈ds,vt o t 0 dp=true)∧∀ e∈o.after,e.on<i+k:=by
 intro l
 induction l with
 | nil=>intro D r i k _ h;simp at h
 | cons o' l ih =>
  intro D r i k h e1 e2 e3
  cases D with
  | nil=>simp at e2
  | cons ds' D =>
   cases r with
   | nil=>simp at e3
   | cons x r =>
    obtain ⟨d',p'⟩:=x
    simp only [sQ,Bool.and_eq_true] at h
    obtain ⟨⟨⟨⟨⟨h1,h2⟩,h3⟩,h4⟩,h5⟩,h6⟩:=h
    cases k with
    | succ k =>
     rw [List.getElem?_cons_succ] at e1 e2 e3
     have:=ih D r (i+1) k h6 e1 e2 e3
     rwa [show i+1+k=i+(k+1) by omega] at this
    | zero =>
     rw [List.getElem?_cons_zero] at e1 e2 e3
     have e1:=Option.some.inj e1
     have e2:=Option.some.inj e2
     have e3:=Option.some.inj e3
     injection e3 with e3 e4
     subst e1 e2 e3 e4
     refine ⟨by simpa using h1,?_,h3,fun t ht=>List.all_eq_true.1 h4 t ht,fun e he=>?_⟩
     ·cases hd:o'.dst with
      | none=>rw [hd] at h2;cases h2
      | some q=>rw [hd] at h2;rw [Nat.eq_of_beq_eq_true h2]
     have:=Array.all_eq_true'.1 h5 e he
     simp [Nat.blt] at this;omega
def wN:List Nat→Bool
 | []=>true
 | x::l => !zK x l&&wN l
theorem rZ:∀ {l:List Nat},wN l=true→l.Nodup
 | [],_=>List.nodup_nil
 | x::l,h=>by
  simp only [wN,Bool.and_eq_true] at h
  exact List.nodup_cons.2 ⟨fun hm=>by rw [tW.2 hm] at h;simp at h,rZ h.2⟩
def tZ (L:Array Bool):Nat:=(L.toList.filter fun b => !b).length
theorem Dv:∀ (l:List Bool) (i:Nat),l[i]?=some false→((l.set i true).filter fun b => !b).length+1=(l.filter fun b => !b).length
 | [],_,h=>by simp at h
 | b::l,0,h=>by
  simp only [List.getElem?_cons_zero,eF] at h
  subst h;simp
 | b::l,i+1,h=>by
  simp only [List.getElem?_cons_succ] at h
  have:=Dv l i h
  rw [List.set_cons_succ,List.filter_cons,List.filter_cons]
  split
  ·simp only [List.length_cons];omega
  exact this
theorem t6 {L:Array Bool} {i:Nat} (h:L.getD i true=false):tZ (L.setIfInBounds i true)+1=tZ L:=by
 unfold tZ
 rw [Array.toList_setIfInBounds]
 refine Dv _ _ ?_
 rw [Array.getElem?_toList]
 rw [Array.getD_eq_getD_getElem?] at h
 cases e:L[i]? with
 | none=>rw [e] at h;simp at h
 | some b=>rw [e] at h;simp at h;rw [h]
theorem Dw {n id:Nat} {l:List Oper} {K:Exit→PPost} {σ:PEnv} {ρ:List PRes} {D:List (List Nat)} (dp:List (Nat×PV)) (hok:(sQ n dp 0 l D dp&&wN (dp.map (·.1)))=true) (hf:Flow (aK σ dp) ρ l D dp) (hk:K .normal (aK σ dp) ρ):PWC n (.region id l.toArray true) K σ ρ:=fun β κ0 σ0 ρ0 g0 hs0 hr0 hi0 df a0 hrel0 Q hQ=>by
 rw [Bool.and_eq_true] at hok
 obtain ⟨hok,hnd⟩:=hok
 have hnd:=rZ hnd
 obtain ⟨hlD,hlp⟩:=hf.len
 have key:∀ (m:Nat) (L:Array Bool) (a:Act) (σ':Env) (ρ':List Res) (κ:Kr),L.size=l.length→tZ L≤m→Rel df n a σ'→Sim κ (sn σ (fun i=>L.getD i false) 0 dp) σ'→RRels κ ρ ρ'→Zl β ρ' κ→GOK κ→Kle κ0 κ→wpAny Tryz.prog .any l.toArray (NP fun a w=>Q .normal a w) m L a κ.w:=by
  have fin:∀ (L:Array Bool) (a:Act) (σ':Env) (ρ':List Res) (κ:Kr),L.size=l.length→Rel df n a σ'→Sim κ (sn σ (fun i=>L.getD i false) 0 dp) σ'→RRels κ ρ ρ'→Zl β ρ' κ→Kle κ0 κ→Region.ready .any l.toArray L=[]→Q .normal a κ.w:=fun L a σ' ρ' κ hL hrel hsim hrr hi hk0 hre=>by
   have hall:∀ i,i<l.length→L.getD i false=true:=by
    intro i
    induction i using Nat.strongRecOn with
    | _ i ih =>
     intro hi2
     cases hLi:L.getD i false with
     | true=>rfl
     | false =>
      exfalso
      have ho:l[i]?=some l[i]:=List.getElem?_eq_getElem hi2
      obtain ⟨ds,d,p,e1,e2,_⟩:=hf.get ho
      have sp:=qr l D dp 0 i hok ho e1 e2
      have hm:i∈Region.ready .any l.toArray L:=by
       rw [mem_ready]
       refine ⟨by simpa [Array.getD,hL,hi2] using hLi,l[i],by simp,fun e he _=>ih e.on (by have:=sp.2.2.2.2 e he;omega) (by have:=sp.2.2.2.2 e he;omega)⟩
      rw [hre] at hm;cases hm
   rw [qq (fun i hi2=>by rw [Nat.zero_add];exact hall i (by omega))] at hsim
   exact hQ .normal a σ' ρ' κ hrel hi hk0 ⟨_,_,hsim,hrr,hk⟩
  intro m
  induction m with
  | zero =>
   intro L a σ' ρ' κ hL hc hrel hsim hrr hi hg hk0
   have hre:Region.ready .any l.toArray L=[]:=by
    cases hr2:Region.ready .any l.toArray L with
    | nil=>rfl
    | cons i r =>
     have hm:i∈Region.ready .any l.toArray L:=by rw [hr2];simp
     have:=t6 (mem_ready.1 hm).1
     omega
   exact ⟨hre,rfl,fin L a σ' ρ' κ hL hrel hsim hrr hi hk0 hre⟩
  | succ m ih =>
   intro L a σ' ρ' κ hL hc hrel hsim hrr hi hg hk0
   refine ⟨fun hre=>⟨rfl,fin L a σ' ρ' κ hL hrel hsim hrr hi hk0 hre⟩,fun i hm=>?_⟩
   obtain ⟨hLi,o,ho,hafter⟩:=mem_ready.1 hm
   have ho':l[i]?=some o:=by simpa using ho
   have hil:i<l.length:=(List.getElem?_eq_some_iff.1 ho').1
   obtain ⟨ds,d,p,e1,e2,hop⟩:=hf.get ho'
   obtain ⟨s1,s2,s3,s4,s5⟩:=qr l D dp 0 i hok ho' e1 e2
   have hsim2:Sim κ (rs ds (aK σ dp)) σ':=fun t=>by
    unfold rs
    cases ht:zK t ds with
    | false=>exact .any
    | true =>
     simp only [dG]
     have hst:=hsim t
     by_cases hex:∃ x∈dp,x.1=t
     ·obtain ⟨⟨t',q⟩,hx,rfl⟩:=hex
      obtain ⟨k,hk2,hke⟩:=List.getElem_of_mem hx
      have hkk:dp[k]?=some (t',q):=by rw [List.getElem?_eq_getElem hk2,hke]
      have hw:=tY (s4 t' (tW.1 ht)) hkk
      rw [Nat.zero_add] at hw
      unfold tX at hw
      obtain ⟨e,he1,he2⟩:=Array.any_eq_true'.1 hw
      rw [Bool.and_eq_true] at he2
      have hLk:=hafter e he1 he2.1
      rw [Nat.eq_of_beq_eq_true he2.2] at hLk
      rw [nt hnd hkk,Nat.zero_add,hLk,dG] at hst
      have e3:=nt (σ:=σ) (L:=fun _=>true) (k:=0) hnd hkk
      rw [qq (fun _ _=>rfl),dG] at e3
      rw [e3];exact hst
     have hno:∀ x∈dp,x.1≠t:=fun x hx e=>hex ⟨x,hx,e⟩
     rw [mP hno] at hst
     have e3:=mP (σ:=σ) (L:=fun _=>true) (k:=0) hno
     rw [qq (fun _ _=>rfl)] at e3
     rw [e3];exact hst
   unfold wpOp
   rw [ho]
   simp only
   have hwant:Region.wanted o (yielded l.toArray a.tmps)=true:=by simp [Region.wanted,s1]
   rw [if_pos hwant]
   refine .inl (j0 hrel.eval (hop κ σ' ρ' hg hsim2 hrr β hi (fun v w=>wpAny Tryz.prog .any l.toArray (NP fun a w=>Q .normal a w) m (L.setIfInBounds i true) (a.put o.dst v) w) fun v ρ2 κ2 hi2 hk2 ⟨pv,ρp,hv,hr2,hpv,hρp⟩=>?_) fun _ _ h=>h)
   subst hpv hρp
   refine ih (L.setIfInBounds i true) _ (mZ σ' o.dst v) ρ2 κ2 (by simpa using hL) (by have:=t6 hLi;omega) (hrel.put (fh s2 s3) v) ?_ hr2 hi2 (hg.mono hk2) (hk0.trans hk2)
   intro t
   rw [eC s2]
   unfold upd
   cases htd:Nat.beq t d with
   | true =>
    have:=Nat.eq_of_beq_eq_true htd
    subst this
    rw [nt hnd e2,Nat.zero_add]
    have:(L.setIfInBounds i true).getD i false=true:=by simp [Array.getD,hL,hil]
    rw [this];exact hv
   | false =>
    have hst:=(hsim t).mono hk2
    simp only [eu]
    have:sn σ (fun j=>(L.setIfInBounds i true).getD j false) 0 dp t=sn σ (fun j=>L.getD j false) 0 dp t:=by
     by_cases hex:∃ x∈dp,x.1=t
     ·obtain ⟨⟨t',q⟩,hx,rfl⟩:=hex
      obtain ⟨k,hk3,hke⟩:=List.getElem_of_mem hx
      have hkk:dp[k]?=some (t',q):=by rw [List.getElem?_eq_getElem hk3,hke]
      rw [nt hnd hkk,nt hnd hkk]
      have hki:k≠i:=fun e=>by
       subst e
       rw [hkk] at e2
       simp only [eF,Prod.mk.injEq] at e2
       rw [e2.1] at htd;simp at htd
      have:(L.setIfInBounds i true).getD (0+k) false=L.getD (0+k) false:=by
       rw [Nat.zero_add]
       simp only [Array.getD_eq_getD_getElem?]
       rw [Array.getElem?_setIfInBounds_ne (Ne.symm hki)]
      rw [this]
     have hno:∀ x∈dp,x.1≠t:=fun x hx e=>hex ⟨x,hx,e⟩
     rw [mP hno,mP hno]
    rw [this];exact hst
 have hk1:Kle κ0 ⟨{ κ0.w with drawn:=κ0.w.drawn+1 },κ0.S⟩:=⟨Nat.le_refl _,fun _ h=>h,fun _ _=>rfl⟩
 have hend:=key l.length (Array.replicate l.length false) a0 σ0 ρ0 ⟨{ κ0.w with drawn:=κ0.w.drawn+1 },κ0.S⟩ (by simp) (by unfold tZ;exact Nat.le_trans (List.length_filter_le _ _) (by simp)) hrel0 (fun t=>by
  by_cases hex:∃ x∈dp,x.1=t
  ·obtain ⟨⟨t',q⟩,hx,rfl⟩:=hex
   obtain ⟨k,hk2,hke⟩:=List.getElem_of_mem hx
   have hkk:dp[k]?=some (t',q):=by rw [List.getElem?_eq_getElem hk2,hke]
   rw [nt hnd hkk]
   have:(Array.replicate l.length false).getD (0+k) false=false:=by simp [Array.getD]
   rw [this];exact .any
  have hno:∀ x∈dp,x.1≠t:=fun x hx e=>hex ⟨x,hx,e⟩
  rw [mP hno];exact (hs0 t).mono hk1) (hr0.mono hk1) hi0.drew (g0.mono hk1) hk1
 exact pX (lF mixed (by simpa using hend)) fun e a w h=>by rw [h.1];exact h.2
end SX
end Go.Proofs.YtmgcadfnkchnfaaGreatDoor
