/- A part of the proof: texts of the walk and of the plain laws, merged. No condition. -/
import Derived.Test.YtoccohlbjnoeoaaGreatDoorM1
set_option linter.unusedVariables false
set_option linter.unusedSimpArgs false
set_option maxHeartbeats 4000000
set_option maxRecDepth 100000
namespace Go.Proofs.YtoccohlbjnoeoaaGreatDoor
namespace SX
open Go
section
variable {σ:PEnv} {ρ l:List PRes} {a:Option Addr} {m c T sz:Nat} {css:List (List PV)} {α:Type} {enc:α→List PV} {xs:List α}
theorem cov_frz (hp:PPick ρ (.row a m c T sz css) l):Cov σ ρ σ (.frz a m c css::l):=fun _ _ _ h=>xdv hp h
theorem cov_frzt (t:Nat) (ht:σ t=.v (.slice a m c)) (hp:PPick ρ (.row a m c T sz (xs.map enc)) l):Cov σ ρ (pupd σ t (.slc xs.length (xs.map enc))) (.frz a m c (xs.map enc)::l):=fun _ _ _ h=>yhl t ht hp h
theorem xkc {b k:Nat} {cs:List PV} {ρ':List PRes} (hk:cs[k]?=some (.v (.slice a m c))) (hm:PRes.frz a m c (xs.map enc)∈ρ) (hu:PUpd ρ (.b b T cs) (.b b T (cs.set k (.slc xs.length (xs.map enc)))) ρ'):Cov σ ρ σ ρ':=fun _ _ _ h=>xay hk hm hu h
theorem ygr {n:Nat} {x:Code} {K:Exit→PPost} {b k:Nat} {cs:List PV} {ρ':List PRes} (hk:cs[k]?=some (.v (.slice none 0 0))) (hu:PUpd ρ (.b b T cs) (.b b T (cs.set k (.slc 0 []))) ρ') (h:PWC n x K σ ρ'):PWC n x K σ ρ:=fun β κ σ' r g hs hr=>by
 obtain ⟨r0,l1,l2,rfl,h3,h4⟩:=hr.upd hu
 cases h3 with
 | b ho hc =>
  obtain ⟨v,hv,hp⟩:=hc.get hk
  have e:=hp.val
  have hset:=hc.set (k:=k) (p:=.slc 0 []) (v:=v) (by rw [e];exact xax)
  have:∀ (l:List Value) (k:Nat) (v:Value),l[k]?=some v→l.set k v=l:=fun l k v h=>by
   apply List.ext_getElem?;intro i;rw [List.getElem?_set];split
   ·rename_i hik;subst hik;rw [h];have:=(List.getElem?_eq_some_iff.1 h).1;simp [this]
   rfl
  rw [this _ _ _ hv] at hset
  exact h β κ σ' _ g hs (h4 κ _ (.refl _) (.b ho hset))
theorem cov_nilb {b k:Nat} {cs:List PV} {ρ':List PRes} (hk:cs[k]?=some (.v (.slice none 0 0))) (hu:PUpd ρ (.b b T cs) (.b b T (cs.set k (.slc 0 []))) ρ'):Cov σ ρ σ ρ':=fun _ _ _ h=>ygr hk hu h
end
section
variable {o:Oper} {σ:PEnv} {ρ l:List PRes} {a:Option Addr} {m c T sz:Nat} {css:List (List PV)} {K:PV→List PRes→Prop} {α:Type} {enc:α→List PV} {xs:List α}
theorem pl_fz (h:POpL o σ ρ fun p ρ'=>∃ a m c T sz css l,p=.v (.slice a m c)∧PPick ρ' (.row a m c T sz css) l∧K (.slc m css) l):POpL o σ ρ K:=fun κ σ' ρ' g hs hr β hi Nx hn =>
 h κ σ' ρ' g hs hr β hi Nx fun v ρ1 κ1 h1 h2 ⟨p,ρp,k1,k2,a,m,c,T,sz,css,l,e,hp,hk⟩=>by
  subst e
  obtain ⟨r,l',j1,j2,j3⟩:=k2.pick hp
  cases j2 with
  | row hb ho hc =>
   obtain ⟨i1,i2,i3⟩:=xdo (h1.perm j1)
   have hv:=k1.val
   subst hv
   have:=hn _ l' (pubK κ1 a) i1 (h2.trans i2) ⟨.slc m css,l,.slc i3 hb ho (hc.mono i2),j3.mono i2,hk⟩
   rwa [xjn] at this
end
section
variable {n:Nat} {ops:Array Oper} {o:Oper} {rest:List Oper} {K:PPost} {σ:PEnv} {ρ ρd ρs:List PRes} {d:Nat} {c:Bool} {l:List Operand} {ts:Array Nat} {pargs:List PV} {r pf:PV} {x:Operand} {lo:List (Nat×Oper)}
end
def flatK:List Field→Nat→List Nat→Bool
 | [],_,[]=>true
 | f::fs,k,q::ks=>(f.name != "_")&&Nat.beq f.offset k&&(match und f.type,q with | some (.int _),0 | some .bool,1 | some .string,2=>true | _,_=>false)&&flatK fs (k+1) ks
 | _,_,_=>false
def eqk:List Nat→List Value→List Value→Option Bool
 | [],[],[]=>some true
 | 0::ks,.int k a::xs,.int k' b::ys=>match eqk ks xs ys with | some r=>cond (decide (k=k')) (some ((a == b)&&r)) none | none=>none
 | 1::ks,.bool a::xs,.bool b::ys=>match eqk ks xs ys with | some r=>some ((a == b)&&r) | none=>none
 | 2::ks,.string a::xs,.string b::ys=>match eqk ks xs ys with | some r=>some (decide (a=b)&&r) | none=>none
 | _,_,_=>none
theorem yxu (d:Nat) (w:World):∀ (fs:List Field) (k:Nat) (ks:List Nat) (xs ys ax ay:List Value) (r:Bool),flatK fs k ks=true→ax.drop k=xs→ay.drop k=ys→eqk ks xs ys=some r→(Op.eqFields (d+1) ax.toArray ay.toArray fs).run Tryz.prog w=.ok r w
 | [],k,ks,xs,ys,ax,ay,r,hf,_,_,he=>by
  cases ks with
  | nil =>
   cases xs <;> cases ys <;> simp only [eqk,reduceCtorEq,osj] at he
   subst he;simp [Op.eqFields]
  | cons q ks=>cases hf
 | f::fs,k,ks,xs,ys,ax,ay,r,hf,h1,h2,he=>by
  cases ks with
  | nil=>cases hf
  | cons q ks =>
   simp only [flatK,Bool.and_eq_true,bne_iff_ne,ne_eq] at hf
   obtain ⟨⟨⟨hn,hoff⟩,hty⟩,hrest⟩:=hf
   have hoff:=Nat.eq_of_beq_eq_true hoff
   cases xs with
   | nil=>unfold eqk at he;split at he <;> simp_all
   | cons x xs =>
    cases ys with
    | nil=>unfold eqk at he;split at he <;> simp_all
    | cons y ys =>
     have g1:ax[k]?=some x:=by have:=congrArg (·[0]?) h1;simpa [List.getElem?_drop] using this
     have g2:ay[k]?=some y:=by have:=congrArg (·[0]?) h2;simpa [List.getElem?_drop] using this
     have d1:ax.drop (k+1)=xs:=by have:=congrArg (List.drop 1) h1;simpa [List.drop_drop] using this
     have d2:ay.drop (k+1)=ys:=by have:=congrArg (List.drop 1) h2;simpa [List.drop_drop] using this
     cases hd:und f.type with
     | none=>rw [hd] at hty;cases hty
     | some D =>
      rw [hd] at hty
      have hag:isAggD D=false:=by
       cases D <;> first | rfl | (exfalso;split at hty <;> simp_all)
      have p1:(part f.type ax.toArray f.offset).run Tryz.prog w=.ok x w:=by simp [part,ylf hd,hag,hoff,g1]
      have p2:(part f.type ay.toArray f.offset).run Tryz.prog w=.ok y w:=by simp [part,ylf hd,hag,hoff,g2]
      have fin:∀ (q r':Bool),(Op.equalIn (d+1) f.type x y).run Tryz.prog w=.ok q w→eqk ks xs ys=some r'→(q&&r')=r→(Op.eqFields (d+1) ax.toArray ay.toArray (f::fs)).run Tryz.prog w=.ok r w:=fun q r' hq1 hq2 hq3=>by
       have ih:=yxu d w fs (k+1) ks xs ys ax ay r' hrest d1 d2 hq2
       simp only [Op.eqFields,if_pos hn,Sem.run_bind,p1,p2,Result.andThen_ok,hq1]
       cases q
       ·simp at hq3;subst hq3;simp
       simp at hq3;subst hq3;simp [ih]
      cases D with
      | int kk =>
       have hq0:q=0:=by rcases q with _ | _ | _ | q <;> first | rfl | (simp at hty)
       subst hq0
       cases x <;> cases y <;> simp only [eqk,reduceCtorEq] at he
       rename_i k1 a1 k2 b1
       cases hq:eqk ks xs ys with
       | none=>rw [hq] at he;cases he
       | some r' =>
        rw [hq] at he
        cases hk:decide (k1=k2) with
        | false=>simp only [hk,cof,reduceCtorEq] at he
        | true =>
         simp only [hk,cot,osj] at he
         have hk:=of_decide_eq_true hk;subst hk
         exact fin (a1 == b1) r' (run_equalIn_int w d f.type k1 kk a1 b1 (ycf hd)) hq he
      | bool =>
       have hq0:q=1:=by rcases q with _ | _ | _ | q <;> first | rfl | (simp at hty)
       subst hq0
       cases x <;> cases y <;> simp only [eqk,reduceCtorEq] at he
       rename_i a1 b1
       cases hq:eqk ks xs ys with
       | none=>rw [hq] at he;cases he
       | some r'=>rw [hq] at he;simp only [osj] at he;exact fin (a1 == b1) r' (run_equalIn_bool' w d f.type a1 b1 (ycf hd)) hq he
      | string =>
       have hq0:q=2:=by rcases q with _ | _ | _ | q <;> first | rfl | (simp at hty)
       subst hq0
       cases x <;> cases y <;> simp only [eqk,reduceCtorEq] at he
       rename_i a1 b1
       cases hq:eqk ks xs ys with
       | none=>rw [hq] at he;cases he
       | some r'=>rw [hq] at he;simp only [osj] at he;exact fin (decide (a1=b1)) r' (by rw [run_equalIn_string w d f.type a1 b1 (ycf hd),xdh]) hq he
      | _=>exfalso;revert hty;simp
def unV:List PV→Option (List Value)
 | []=>some []
 | .v x::r=>match unV r with | some l=>some (x::l) | none=>none
 | _=>none
theorem yzd {κ:Kr}:∀ {cs:List PV} {xs ds:List Value},unV cs=some xs→Rps κ cs ds→ds=xs
 | [],xs,ds,h,hr=>by simp only [unV,osj] at h;subst h;exact hr.nil_inv
 | c::cs,xs,ds,h,hr=>by
  obtain ⟨v,ws,rfl,h1,h2⟩:=hr.cons_inv
  cases c with
  | v x =>
   simp only [unV] at h
   cases hu:unV cs with
   | none=>rw [hu] at h;cases h
   | some l=>rw [hu] at h;simp only [osj] at h;subst h;rw [h1.val,yzd hu h2]
  | _=>cases h
theorem xkd {o:Oper} {σ:PEnv} {ρ:List PRes} {c:Bool} {x y:Operand} {op:BinOp} {t t':Nat} {cs ds:List PV} {xs ys:List Value} {r r':Bool} (ks:List Nat) (ho:o.op=.binOp op t x y t') (h1:Tryz.prog.underlying t=some (.struct (Tryz.prog.fieldsOf t))) (h2:Tryz.prog.stoodInHeld t=false) (h3:Tryz.prog.eqGuardType Tryz.prog.depth t=false) (h4:flatK (Tryz.prog.fieldsOf t).toList 0 ks=true)
    (hx:PEv σ c x (.agg cs)) (hy:PEv σ c y (.agg ds)) (hxs:unV cs=some xs) (hys:unV ds=some ys) (he:eqk ks xs ys=some r) (hr:(match op with | .eql=>some r | .neq=>some (!r) | _=>none)=some r'):POpQ c o σ ρ (.v (.bool r')):=fun κ σ' ρ' g hs hrr=>by
  cases c with
  | false=>exact noq
  | true =>
    refine ⟨.bool r',fun _=>.v rfl,fun _ w _=>?_⟩
    have e1:ev σ' x=.agg xs.toArray:=by
      have:=hs.pe hx rfl;generalize ev σ' x=w1 at this;cases this with
      | agg ho hc=>rw [yzd hxs hc]
    have e2:ev σ' y=.agg ys.toArray:=by
      have:=hs.pe hy rfl;generalize ev σ' y=w1 at this;cases this with
      | agg ho hc=>rw [yzd hys hc]
    have hrun:(Op.equalIn 10000 t (.agg xs.toArray) (.agg ys.toArray)).run Tryz.prog w=.ok r w:=by
      rw [run_equalIn_struct w 9999 t _ _ h1 h2]
      exact yxu 9998 w _ 0 ks xs ys xs ys r h4 rfl rfl he
    simp only [execOp,ho,e1,e2,Sem.run_bind]
    rw [run_eqGuard_agg w op t x y _ _ h3]
    simp only [Result.andThen_ok]
    cases op <;> simp only [reduceCtorEq,osj] at hr
    · subst hr;rw [run_eql_struct,hrun];simp
    subst hr;rw [run_neq_struct,hrun];simp
theorem pq_bytes {o:Oper} {σ:PEnv} {ρ:List PRes} {x:Operand} {s d e n cp T:Nat} {a:Option Addr} {xs:List Int} (ho:o.op=.convert s d x) (h1:und s=some (.slice e)) (he:und e=some (.int .u8)) (hd:und d=some .string) (hx:pevc σ x=.v (.slice a n cp)) (hm:PRes.row a n cp T 1 (xs.map eB)∈ρ) (hn:n=xs.length) {K:PV→List PRes→Prop} (h:K (.v (.string (strOfNums xs))) ρ):POpL o σ ρ K:=fun κ σ' ρ' g hs hrr β hinv=>by
 obtain ⟨r,hr1,hr2⟩:=hrr.mem hm
 cases hr2 with
 | row hb ho1 hss =>
  rename_i dss
  have hrow:=xfp hr1 β hinv
  have hown:=yia (hinv.own _ hr1)
  have hd2:dss=xs.map fun b=>[.int .u8 b]:=by
   clear hrow hown hr1 ho1 hm hx h
   subst hn
   clear hb
   induction xs generalizing dss with
   | nil=>rw [List.map_nil] at hss;rw [hss.nil_inv];rfl
   | cons z zs ih =>
    rw [List.map_cons] at hss
    obtain ⟨v,ws,rfl,k1,k2⟩:=hss.cons_inv
    obtain ⟨v1,w1,rfl,k3,k4⟩:=k1.cons_inv
    rw [ih k2,k3.val,k4.nil_inv];rfl
  subst hd2
  have hq:=oq_bytes (c:=true) (ρ:=ρ') (κ:=κ) ho h1 he hd (.p (hs.v1 hx)) (fun _=>rd_row hr1 (fun h=>by obtain ⟨b,e⟩:=hrow.2 h;rw [e];simp) hrow.1.1 hown.2.2)
  refine ol_q hq ⟨_,ρ,.v ?_,hrr,h⟩ β hinv
  have:(strOfNums xs).size=xs.length:=by simp [strOfNums,ByteArray.size]
  simp only [okb,this];exact Nat.ble_eq_true_of_le (by omega)
def PWS (n:Nat) (ops:Array Oper) (K:PPost) (m:Nat) (L:Array Bool) (σ:PEnv) (ρd ρs:List PRes):Prop :=
 ∀ β κ σ' rd rs,GOK κ→Sim κ σ σ'→RRels κ ρd rd→RRels κ ρs rs→WS β n ops (lft K) m L σ' rd rs κ
def PStep (n:Nat) (ops:Array Oper) (K:PPost) (m:Nat) (L:Array Bool) (σ:PEnv) (ρd ρs:List PRes) (i:Nat):Prop :=
 ∀ β κ σ' rd rs,GOK κ→Sim κ σ σ'→RRels κ ρd rd→RRels κ ρs rs→Step β n ops (lft K) m L σ' rd rs κ i
section
variable {n m:Nat} {ops:Array Oper} {K:PPost} {L:Array Bool} {σ:PEnv} {ρ ρd ρs:List PRes} {o:Oper} {i d:Nat} {p:PV} {c:Bool}
theorem ymt {K:Exit→PPost} {id:Nat} {l:List Oper} (ρs:List PRes) (hp:ρ.Perm (ρd++ρs)) (h:PWS n l.toArray (K .normal) l.length (Array.replicate l.length false) σ ρd ρs):PWC n (.region id l.toArray true) K σ ρ:=fun β κ σ' ρ' g hs hr=>by
 obtain ⟨rs',h1,h2⟩:=hr.perm hp
 obtain ⟨r1,r2,rfl,h3,h4⟩:=h2.split
 exact ws_start h1 fun κ1 hk=>h β κ1 σ' r1 r2 (g.mono hk) (hs.mono hk) (h3.mono hk) (h4.mono hk)
theorem yeu (hr:(Region.ready .any ops L).isEmpty=true) (h:K σ (ρd++ρs)):PWS n ops K m L σ ρd ρs:=fun β κ σ' rd rs g hs h1 h2=>ws_done hr ⟨σ,ρd++ρs,hs,h1.app h2,h⟩
theorem yde (i:Nat) (hok:okQ ops L i=true) (ho:ops[i]?=some o) (hg:o.guard=none) (hd:o.dst=some d) (hlt:Nat.blt d n=true) (h:POpQ true o σ ρs p) (hw:PWS n ops K m (L.setIfInBounds i true) (pupd σ d p) ρd ρs):PWS n ops K (m+1) L σ ρd ρs:=fun β κ σ' rd rs g hs h1 h2=>by
 obtain ⟨v,k1,k2⟩:=h κ σ' rs g hs h2
 exact ws_q i hok ho hg hd hlt k2 (hw β κ _ rd rs g (hs.upd (k1 rfl)) h1 h2)
theorem ybm (i:Nat) (hr:(Region.ready .any ops L == [i])=true) (h:PStep n ops K m L σ ρd ρs i):PWS n ops K (m+1) L σ ρd ρs:=fun β κ σ' rd rs g hs h1 h2=>ws_one i hr (h β κ σ' rd rs g hs h1 h2)
theorem yje (i j:Nat) (hr:(Region.ready .any ops L == [i,j])=true) (h:PStep n ops K m L σ ρd ρs i) (h':PStep n ops K m L σ ρd ρs j):PWS n ops K (m+1) L σ ρd ρs:=fun β κ σ' rd rs g hs h1 h2=>ws_two i j hr (h β κ σ' rd rs g hs h1 h2) (h' β κ σ' rd rs g hs h1 h2)
theorem ybi (ho:ops[i]?=some o) (hg:o.guard=none) (hd:o.dst=some d) (hlt:Nat.blt d n=true) (h:POpL o σ ρd fun p ρ'=>PWS n ops K m (L.setIfInBounds i true) (pupd σ d p) ρ' ρs):PStep n ops K m L σ ρd ρs i:=fun β κ σ' rd rs g hs h1 h2 =>
 step_l ho hg hd hlt (((h κ σ' rd g hs h1).framed (ρf:=rs)).mono fun v ρ' κ' hk ⟨ρ1,e,pv,ρp,k1,k2,k3⟩=>⟨ρ1,e,k3 β κ' _ ρ1 rs (g.mono hk) ((hs.mono hk).upd k1) k2 (h2.mono hk)⟩)
theorem yfx (ho:ops[i]?=some o) (hg:o.guard=none) (hd:o.dst=none) (h:POpL o σ ρd fun _ ρ'=>PWS n ops K m (L.setIfInBounds i true) σ ρ' ρs):PStep n ops K m L σ ρd ρs i:=fun β κ σ' rd rs g hs h1 h2 =>
 step_l0 ho hg hd (((h κ σ' rd g hs h1).framed (ρf:=rs)).mono fun v ρ' κ' hk ⟨ρ1,e,pv,ρp,k1,k2,k3⟩=>⟨ρ1,e,k3 β κ' _ ρ1 rs (g.mono hk) (hs.mono hk) k2 (h2.mono hk)⟩)
theorem ymu {f:Nat} {l:List Operand} {ts:Array Nat} {pargs:List PV} {v:PV} (ho:ops[i]?=some o) (hg:o.guard=none) (hd:o.dst=some d) (hlt:Nat.blt d n=true) (hop:o.op=.call { callee:=.value (.func f),args:=l.toArray,argTypes:=ts }) (ha:l.map (pevc σ)=pargs) (hc:PF f pargs v) (h:PWS n ops K m (L.setIfInBounds i true) (pupd σ d v) ρd ρs):PStep n ops K m L σ ρd ρs i :=
 ybi ho hg hd hlt (pl_call hop ha hc h)
end
section
variable {n:Nat} {x:Code} {K:Exit→PPost} {σ:PEnv} {ρ:List PRes} {a:Option Addr} {m c T sz:Nat} {α:Type} {enc:α→List PV} {xs:List α}
theorem ylj (hm:PRes.row a m c T sz (xs.map enc)∈ρ) (h:xs.length=m→(0<m→a=some ⟨ablk a,0,none⟩)→PWC n x K σ ρ):PWC n x K σ ρ:=fun β κ σ' ρ' g hs hr hi=>by
 obtain ⟨r,hr1,hr2⟩:=hr.mem hm
 cases hr2 with
 | row hb ho hc =>
  have h1:=hi.own _ hr1
  have e1:=(yia h1).2.1;have e2:=hc.len;rw [List.length_map] at e2
  exact h (by omega) (fun h0=>ypy h1 h0) β κ σ' ρ' g hs hr hi
end
theorem xke {t E:Nat} (hu:und t=some (.slice E)) (a:Option Addr) (n c:Nat) (x y:Operand) (w:World):((eqGuard .eql t x y (.slice a n c) (.slice none 0 0)).run Tryz.prog w=.ok () w)∧(binOp .eql t (.slice a n c) (.slice none 0 0)).run Tryz.prog w=.ok (.bool a.isNone) w:=by
 constructor
 ·cases a <;> simp [eqGuard]
 simp only [binOp,Sem.run_bind,run_equal_slice_nil w t E a n c (ycf hu),Result.andThen_ok,Sem.run_pure]
theorem xbc {n:Nat} {ops:Array Oper} {o:Oper} {rest:List Oper} {K:PPost} {σ:PEnv} {ρ:List PRes} {d t t' E mm:Nat} {x:Operand} {xs:List (List PV)} (hg:o.guard=none) (hd:o.dst=some d) (hlt:Nat.blt d n=true) (ho:o.op=.binOp .eql t x (.const (.slice none 0 0)) t') (hu:und t=some (.slice E)) (hx:pevc σ x=.slc mm xs) (h:∀ b:Bool,(b=true→xs=[])→PWL n ops rest K (pupd σ d (.v (.bool b))) ρ):PWL n ops (o::rest) K σ ρ:=fun β κ σ' ρ' g hs hr=>by
 have he:=hs.ev x
 rw [hx] at he
 generalize hw':ev σ' x=w at he
 cases he with
 | slc hsl hb h1 hss =>
  rename_i a c sz css
  have hq:OpQ true o σ' ρ' κ (.bool a.isNone):=fun _ w _=>by
   obtain ⟨g1,g2⟩:=xke hu a mm c x (.const (.slice none 0 0)) w
   have e2:ev σ' (.const (.slice none 0 0))=.slice none 0 0:=rfl
   simp only [execOp,ho,hw',e2,Sem.run_bind,g1,Result.andThen_ok,g2,Sem.run_pure]
  refine yjo hg hd hlt hq (h a.isNone (fun hn=>?_) β κ _ ρ' g (hs.upd (.v rfl)) hr)
  cases a with
  | some ad=>cases hn
  | none =>
   have:mm=0:=by
    rcases Nat.eq_zero_or_pos mm with h | h
    ·exact h
    obtain ⟨b,off,e,_⟩:=hsl.at_ h;cases e
   subst this
   have e1:=hss.len;have e2:=hsl.len
   exact List.eq_nil_of_length_eq_zero (by omega)
theorem set_same {α:Type} (l:List α) (k:Nat) (v:α) (h:l[k]?=some v):l.set k v=l:=by
 apply List.ext_getElem?;intro i;rw [List.getElem?_set];split
 ·rename_i hik;subst hik;rw [h];have:=(List.getElem?_eq_some_iff.1 h).1;simp [this]
 rfl
section
variable {n:Nat} {x:Code} {K:Exit→PPost} {KL:PPost} {σ:PEnv} {ρ:List PRes} {ops:Array Oper} {lo:List Oper} {cs:List PV} {a:Option Addr} {m c:Nat} {css:List (List PV)} {α:Type} {enc:α→List PV} {xs:List α}
theorem agg_nil {κ:Kr} {w:Value} {k:Nat} (h:Rp κ (.agg cs) w) (hk:cs[k]?=some (.v (.slice none 0 0))):Rp κ (.agg (cs.set k (.slc 0 []))) w:=by
 cases h with
 | agg ho hc =>
  obtain ⟨v,hv,hp⟩:=hc.get hk
  have hset:=hc.set (k:=k) (p:=.slc 0 []) (v:=v) (by rw [hp.val];exact xax)
  rw [set_same _ _ _ hv] at hset
  exact .agg ho hset
theorem yxv (t k:Nat) (ht:σ t=.agg cs) (hk:cs[k]?=some (.v (.slice none 0 0))) (h:PWL n ops lo KL (pupd σ t (.agg (cs.set k (.slc 0 [])))) ρ):PWL n ops lo KL σ ρ:=fun β κ σ' ρ' g hs hr=>h β κ σ' ρ' g (yru hs (agg_nil (by have:=hs t;rwa [ht] at this) hk)) hr
end
def zpv:Value→PV
 | .slice none 0 0=>.slc 0 []
 | x=>cond (okb x) (.v x) .any
theorem xkf {κ:Kr}:∀ (l:List Value),Rps κ (l.map zpv) l
 | []=>.nil
 | x::l=>.cons (by unfold zpv;split;exact xax;exact xdr) (xkf l)
theorem xbd {o:Oper} {σ:PEnv} {ρ:List PRes} {c:Bool} {t sz by':Nat} {parts:List (Nat×Operand)} {fl:List (Nat×Nat)} {zs:List Value} {zp cs:List PV} (hc:c=true) (ho:o.op=.build t parts.toArray) (hz:inf t=some (.agg zs.toArray,sz,by')) (hf:fldL t=some fl) (hall:(fl.all fun p=>(inf p.2).isSome)=true) (hzp:zs.map zpv=zp) (hz1:zs.all Value.oneCell'=true) (h:PFill σ fl zp parts cs):POpQ c o σ ρ (.agg cs):=fun κ σ' ρ' g hs hr=>by
 subst hc
 obtain ⟨cv,h1,h2,h3⟩:=h.real hs (zv:=zs) (by rw [← hzp];exact xkf zs) (fun u hu=>List.all_eq_true.1 hz1 u hu)
 exact ⟨_,fun _=>.agg h3 h2,xfm ho hz hf hall h1⟩
theorem zm0 {α:Type} {a:α} {l:List α}:a∈a::l:=List.Mem.head _
theorem zm1 {α:Type} {a b0:α} {l:List α}:a∈b0::a::l:=List.Mem.tail _ (List.Mem.head _)
theorem zm2 {α:Type} {a b0 b1:α} {l:List α}:a∈b0::b1::a::l:=List.Mem.tail _ (List.Mem.tail _ (List.Mem.head _))
theorem zm3 {α:Type} {a b0 b1 b2:α} {l:List α}:a∈b0::b1::b2::a::l:=List.Mem.tail _ (List.Mem.tail _ (List.Mem.tail _ (List.Mem.head _)))
theorem zm4 {α:Type} {a b0 b1 b2 b3:α} {l:List α}:a∈b0::b1::b2::b3::a::l:=List.Mem.tail _ (List.Mem.tail _ (List.Mem.tail _ (List.Mem.tail _ (List.Mem.head _))))
theorem zm5 {α:Type} {a b0 b1 b2 b3 b4:α} {l:List α}:a∈b0::b1::b2::b3::b4::a::l:=List.Mem.tail _ (List.Mem.tail _ (List.Mem.tail _ (List.Mem.tail _ (List.Mem.tail _ (List.Mem.head _)))))
theorem zm6 {α:Type} {a b0 b1 b2 b3 b4 b5:α} {l:List α}:a∈b0::b1::b2::b3::b4::b5::a::l:=List.Mem.tail _ (List.Mem.tail _ (List.Mem.tail _ (List.Mem.tail _ (List.Mem.tail _ (List.Mem.tail _ (List.Mem.head _))))))
theorem zm7 {α:Type} {a b0 b1 b2 b3 b4 b5 b6:α} {l:List α}:a∈b0::b1::b2::b3::b4::b5::b6::a::l:=List.Mem.tail _ (List.Mem.tail _ (List.Mem.tail _ (List.Mem.tail _ (List.Mem.tail _ (List.Mem.tail _ (List.Mem.tail _ (List.Mem.head _)))))))
theorem zm8 {α:Type} {a b0 b1 b2 b3 b4 b5 b6 b7:α} {l:List α}:a∈b0::b1::b2::b3::b4::b5::b6::b7::a::l:=List.Mem.tail _ (List.Mem.tail _ (List.Mem.tail _ (List.Mem.tail _ (List.Mem.tail _ (List.Mem.tail _ (List.Mem.tail _ (List.Mem.tail _ (List.Mem.head _))))))))
theorem zm9 {α:Type} {a b0 b1 b2 b3 b4 b5 b6 b7 b8:α} {l:List α}:a∈b0::b1::b2::b3::b4::b5::b6::b7::b8::a::l:=List.Mem.tail _ (List.Mem.tail _ (List.Mem.tail _ (List.Mem.tail _ (List.Mem.tail _ (List.Mem.tail _ (List.Mem.tail _ (List.Mem.tail _ (List.Mem.tail _ (List.Mem.head _)))))))))
theorem zm10 {α:Type} {a b0 b1 b2 b3 b4 b5 b6 b7 b8 b9:α} {l:List α}:a∈b0::b1::b2::b3::b4::b5::b6::b7::b8::b9::a::l:=List.Mem.tail _ (List.Mem.tail _ (List.Mem.tail _ (List.Mem.tail _ (List.Mem.tail _ (List.Mem.tail _ (List.Mem.tail _ (List.Mem.tail _ (List.Mem.tail _ (List.Mem.tail _ (List.Mem.head _))))))))))
theorem zm11 {α:Type} {a b0 b1 b2 b3 b4 b5 b6 b7 b8 b9 b10:α} {l:List α}:a∈b0::b1::b2::b3::b4::b5::b6::b7::b8::b9::b10::a::l:=List.Mem.tail _ (List.Mem.tail _ (List.Mem.tail _ (List.Mem.tail _ (List.Mem.tail _ (List.Mem.tail _ (List.Mem.tail _ (List.Mem.tail _ (List.Mem.tail _ (List.Mem.tail _ (List.Mem.tail _ (List.Mem.head _)))))))))))
theorem zm12 {α:Type} {a b0 b1 b2 b3 b4 b5 b6 b7 b8 b9 b10 b11:α} {l:List α}:a∈b0::b1::b2::b3::b4::b5::b6::b7::b8::b9::b10::b11::a::l:=List.Mem.tail _ (List.Mem.tail _ (List.Mem.tail _ (List.Mem.tail _ (List.Mem.tail _ (List.Mem.tail _ (List.Mem.tail _ (List.Mem.tail _ (List.Mem.tail _ (List.Mem.tail _ (List.Mem.tail _ (List.Mem.tail _ (List.Mem.head _))))))))))))
theorem zm13 {α:Type} {a b0 b1 b2 b3 b4 b5 b6 b7 b8 b9 b10 b11 b12:α} {l:List α}:a∈b0::b1::b2::b3::b4::b5::b6::b7::b8::b9::b10::b11::b12::a::l:=List.Mem.tail _ (List.Mem.tail _ (List.Mem.tail _ (List.Mem.tail _ (List.Mem.tail _ (List.Mem.tail _ (List.Mem.tail _ (List.Mem.tail _ (List.Mem.tail _ (List.Mem.tail _ (List.Mem.tail _ (List.Mem.tail _ (List.Mem.tail _ (List.Mem.head _)))))))))))))
theorem zmv {n:Nat} {ops:Array Oper} {o:Oper} {rest:List Oper} {K:PPost} {σ:PEnv} {ρ:List PRes} {d:Nat} {x:Operand} {p:PV} (hg:o.guard=none) (hd:o.dst=some d) (hlt:Nat.blt d n=true) (ho:o.op=.move x) (hx:pevc σ x=p) (hw:PWL n ops rest K (pupd σ d p) ρ):PWL n ops (o::rest) K σ ρ:=ycz hg hd hlt (yfr ho (.p hx)) hw
theorem zas {n:Nat} {ops:Array Oper} {o:Oper} {rest:List Oper} {K:PPost} {σ:PEnv} {ρ:List PRes} {d:Nat} {x:Operand} {p:PV} (hg:o.guard=none) (hd:o.dst=some d) (hlt:Nat.blt d n=true) (ho:o.op=.assign x) (hx:pevc σ x=p) (hw:PWL n ops rest K (pupd σ d p) ρ):PWL n ops (o::rest) K σ ρ:=ycz hg hd hlt (ycc ho (.p hx)) hw
theorem zex {n:Nat} {ops:Array Oper} {o:Oper} {rest:List Oper} {K:PPost} {σ:PEnv} {ρ:List PRes} {d i:Nat} {vs:List PV} {x:Operand} {p:PV} (hg:o.guard=none) (hd:o.dst=some d) (hlt:Nat.blt d n=true) (ho:o.op=.extract x i) (hx:pevc σ x=.tup vs) (hr:vs[i]?=some p) (hw:PWL n ops rest K (pupd σ d p) ρ):PWL n ops (o::rest) K σ ρ:=ycz hg hd hlt (yih ho (.p hx) hr) hw
def rg (a:Nat):Nat→List Nat
  | 0=>[]
  | n+1=>a::rg (a+1) n
theorem zif {n:Nat} {x y:Code} {K:Exit→PPost} {σ:PEnv} {ρ:List PRes} {α:Type} {c:Operand} {p:Bool} {a b r:α} (hc:pevc σ c=.v (.bool p)) (h:cond p a b=r) (ht:p=true→a=r→PWC n x K σ ρ) (hf:p=false→b=r→PWC n y K σ ρ):PWC n (.cond c x y) K σ ρ:=yio hc (fun e=>ht e (xka e h)) (fun e=>hf e (xkb e h))
theorem zh1 {σ:PEnv} {d0:Nat} {v0:PV} (h0:σ d0=v0):PHolds σ [(d0,v0)]:=zhc h0 (zhn)
theorem zl1 {x0 v0:PV} {l:List PV}:PSplice (x0::l) 0 [v0] (v0::l):=zlc (zln)
theorem zs1 {x0:PRes} {l:List PRes}:PSub [x0] (x0::l):=zsc zph (zsn)
theorem zh2 {σ:PEnv} {d0 d1:Nat} {v0 v1:PV} (h0:σ d0=v0) (h1:σ d1=v1):PHolds σ [(d0,v0),(d1,v1)]:=zhc h0 (zhc h1 (zhn))
theorem zl2 {x0 v0 x1 v1:PV} {l:List PV}:PSplice (x0::x1::l) 0 [v0,v1] (v0::v1::l):=zlc (zlc (zln))
theorem zs2 {x0 x1:PRes} {l:List PRes}:PSub [x0,x1] (x0::x1::l):=zsc zph (zsc zph (zsn))
theorem zh3 {σ:PEnv} {d0 d1 d2:Nat} {v0 v1 v2:PV} (h0:σ d0=v0) (h1:σ d1=v1) (h2:σ d2=v2):PHolds σ [(d0,v0),(d1,v1),(d2,v2)]:=zhc h0 (zhc h1 (zhc h2 (zhn)))
theorem zl3 {x0 v0 x1 v1 x2 v2:PV} {l:List PV}:PSplice (x0::x1::x2::l) 0 [v0,v1,v2] (v0::v1::v2::l):=zlc (zlc (zlc (zln)))
theorem zs3 {x0 x1 x2:PRes} {l:List PRes}:PSub [x0,x1,x2] (x0::x1::x2::l):=zsc zph (zsc zph (zsc zph (zsn)))
theorem zh4 {σ:PEnv} {d0 d1 d2 d3:Nat} {v0 v1 v2 v3:PV} (h0:σ d0=v0) (h1:σ d1=v1) (h2:σ d2=v2) (h3:σ d3=v3):PHolds σ [(d0,v0),(d1,v1),(d2,v2),(d3,v3)]:=zhc h0 (zhc h1 (zhc h2 (zhc h3 (zhn))))
theorem zl4 {x0 v0 x1 v1 x2 v2 x3 v3:PV} {l:List PV}:PSplice (x0::x1::x2::x3::l) 0 [v0,v1,v2,v3] (v0::v1::v2::v3::l):=zlc (zlc (zlc (zlc (zln))))
theorem zs4 {x0 x1 x2 x3:PRes} {l:List PRes}:PSub [x0,x1,x2,x3] (x0::x1::x2::x3::l):=zsc zph (zsc zph (zsc zph (zsc zph (zsn))))
theorem zh5 {σ:PEnv} {d0 d1 d2 d3 d4:Nat} {v0 v1 v2 v3 v4:PV} (h0:σ d0=v0) (h1:σ d1=v1) (h2:σ d2=v2) (h3:σ d3=v3) (h4:σ d4=v4):PHolds σ [(d0,v0),(d1,v1),(d2,v2),(d3,v3),(d4,v4)]:=zhc h0 (zhc h1 (zhc h2 (zhc h3 (zhc h4 (zhn)))))
theorem zl5 {x0 v0 x1 v1 x2 v2 x3 v3 x4 v4:PV} {l:List PV}:PSplice (x0::x1::x2::x3::x4::l) 0 [v0,v1,v2,v3,v4] (v0::v1::v2::v3::v4::l):=zlc (zlc (zlc (zlc (zlc (zln)))))
theorem zs5 {x0 x1 x2 x3 x4:PRes} {l:List PRes}:PSub [x0,x1,x2,x3,x4] (x0::x1::x2::x3::x4::l):=zsc zph (zsc zph (zsc zph (zsc zph (zsc zph (zsn)))))
theorem zh6 {σ:PEnv} {d0 d1 d2 d3 d4 d5:Nat} {v0 v1 v2 v3 v4 v5:PV} (h0:σ d0=v0) (h1:σ d1=v1) (h2:σ d2=v2) (h3:σ d3=v3) (h4:σ d4=v4) (h5:σ d5=v5):PHolds σ [(d0,v0),(d1,v1),(d2,v2),(d3,v3),(d4,v4),(d5,v5)]:=zhc h0 (zhc h1 (zhc h2 (zhc h3 (zhc h4 (zhc h5 (zhn))))))
theorem zs6 {x0 x1 x2 x3 x4 x5:PRes} {l:List PRes}:PSub [x0,x1,x2,x3,x4,x5] (x0::x1::x2::x3::x4::x5::l):=zsc zph (zsc zph (zsc zph (zsc zph (zsc zph (zsc zph (zsn))))))
theorem zh7 {σ:PEnv} {d0 d1 d2 d3 d4 d5 d6:Nat} {v0 v1 v2 v3 v4 v5 v6:PV} (h0:σ d0=v0) (h1:σ d1=v1) (h2:σ d2=v2) (h3:σ d3=v3) (h4:σ d4=v4) (h5:σ d5=v5) (h6:σ d6=v6):PHolds σ [(d0,v0),(d1,v1),(d2,v2),(d3,v3),(d4,v4),(d5,v5),(d6,v6)]:=zhc h0 (zhc h1 (zhc h2 (zhc h3 (zhc h4 (zhc h5 (zhc h6 (zhn)))))))
theorem zl7 {x0 v0 x1 v1 x2 v2 x3 v3 x4 v4 x5 v5 x6 v6:PV} {l:List PV}:PSplice (x0::x1::x2::x3::x4::x5::x6::l) 0 [v0,v1,v2,v3,v4,v5,v6] (v0::v1::v2::v3::v4::v5::v6::l):=zlc (zlc (zlc (zlc (zlc (zlc (zlc (zln)))))))
theorem zh8 {σ:PEnv} {d0 d1 d2 d3 d4 d5 d6 d7:Nat} {v0 v1 v2 v3 v4 v5 v6 v7:PV} (h0:σ d0=v0) (h1:σ d1=v1) (h2:σ d2=v2) (h3:σ d3=v3) (h4:σ d4=v4) (h5:σ d5=v5) (h6:σ d6=v6) (h7:σ d7=v7):PHolds σ [(d0,v0),(d1,v1),(d2,v2),(d3,v3),(d4,v4),(d5,v5),(d6,v6),(d7,v7)]:=zhc h0 (zhc h1 (zhc h2 (zhc h3 (zhc h4 (zhc h5 (zhc h6 (zhc h7 (zhn))))))))
theorem zl8 {x0 v0 x1 v1 x2 v2 x3 v3 x4 v4 x5 v5 x6 v6 x7 v7:PV} {l:List PV}:PSplice (x0::x1::x2::x3::x4::x5::x6::x7::l) 0 [v0,v1,v2,v3,v4,v5,v6,v7] (v0::v1::v2::v3::v4::v5::v6::v7::l):=zlc (zlc (zlc (zlc (zlc (zlc (zlc (zlc (zln))))))))
theorem zh9 {σ:PEnv} {d0 d1 d2 d3 d4 d5 d6 d7 d8:Nat} {v0 v1 v2 v3 v4 v5 v6 v7 v8:PV} (h0:σ d0=v0) (h1:σ d1=v1) (h2:σ d2=v2) (h3:σ d3=v3) (h4:σ d4=v4) (h5:σ d5=v5) (h6:σ d6=v6) (h7:σ d7=v7) (h8:σ d8=v8):PHolds σ [(d0,v0),(d1,v1),(d2,v2),(d3,v3),(d4,v4),(d5,v5),(d6,v6),(d7,v7),(d8,v8)]:=zhc h0 (zhc h1 (zhc h2 (zhc h3 (zhc h4 (zhc h5 (zhc h6 (zhc h7 (zhc h8 (zhn)))))))))
theorem zl9 {x0 v0 x1 v1 x2 v2 x3 v3 x4 v4 x5 v5 x6 v6 x7 v7 x8 v8:PV} {l:List PV}:PSplice (x0::x1::x2::x3::x4::x5::x6::x7::x8::l) 0 [v0,v1,v2,v3,v4,v5,v6,v7,v8] (v0::v1::v2::v3::v4::v5::v6::v7::v8::l):=zlc (zlc (zlc (zlc (zlc (zlc (zlc (zlc (zlc (zln)))))))))
theorem zq {t:Nat} {R:PV→List PRes→Prop} {σ:PEnv} {ρ:List PRes} {p:PV} (h:σ t=p) (hr:R p []):pretK [.tmp t] R .ret σ ρ:=ybh (ygn (ybn h)) zsn hr
theorem osi {α:Type} {a b:α} (h:some a=some b):a=b:=Option.some.inj h
theorem cov_sub {σ:PEnv} {ρ ρ':List PRes} (h:PSub ρ' ρ):Cov σ ρ σ ρ':=fun _ _ _ h2=>yus h h2
def isIf:TypeDesc→Bool
 | .interface _=>true
 | _=>false
section
variable {o:Oper} {σ:PEnv} {ρ:List PRes} {x:Operand} {t:Nat}
theorem xhm {σ:Env} {ρ:List Res} {κ:Kr} {d:TypeDesc} (ho:o.op=.makeInterface t x) (hu:und t=some d) (hn:isIf d=false):OpQ true o σ ρ κ (.iface t (ev σ x)):=fun _ w _=>by
 have h:=run_underlying (w:=w) (ycf hu)
 cases d <;> first | (cases hn;done) | simp [execOp,ho,Instr.makeInterface,h]
theorem xhn {d:TypeDesc} (ho:o.op=.makeInterface t x) (hu:und t=some d) (hn:isIf d=false):POpQ true o σ ρ (.ifc t (pevc σ x)):=fun κ σ' ρ' g hs hr=>⟨_,fun _=>.ifc (hs.ev x),xhm ho hu hn⟩
def ta (T:Nat) (p:PV):Option PV:=match p with
 | .ifc t q=>cond (Nat.beq t T) (some (.tup [q,.v (.bool true)])) (match inf T with
  | some (.agg ⟨zs⟩,_,_)=>cond (zs.all Value.oneCell') (some (.tup [.agg (zs.map fun x=>cond (okb x) (.v x) .any),.v (.bool false)])) none
  | _=>none)
 | _=>none
theorem oq_ta {σ:Env} {ρ:List Res} {κ:Kr} {xT T s:Nat} {v z:Value} {d:TypeDesc} {sz by':Nat} (ho:o.op=.typeAssert x xT T true) (hu:und T=some d) (hn:isIf d=false) (hz:inf T=some (z,sz,by')) (hx:ev σ x=.iface s v):OpQ true o σ ρ κ (if s=T then .tuple #[v,.bool true] else .tuple #[z,.bool false]):=fun _ w _=>by
 have h:=run_underlying (w:=w) (ycf hu)
 have hzv:=yet hz w
 by_cases hst:s=T
 ·cases d <;> first | (cases hn;done) | simp [execOp,ho,hx,Instr.typeAssert,h,hst]
 cases d <;> first | (cases hn;done) | simp [execOp,ho,hx,Instr.typeAssert,h,hst,hzv]
theorem pq_ta {xT T:Nat} {d:TypeDesc} {p r:PV} (ho:o.op=.typeAssert x xT T true) (hu:und T=some d) (hn:isIf d=false) (hi:(inf T).isSome=true) (hx:pevc σ x=p) (hr:ta T p=some r):POpQ true o σ ρ r:=fun κ σ' ρ' g hs hrr=>by
 obtain ⟨⟨z,sz,by'⟩,hz⟩:=Option.isSome_iff_exists.1 hi
 have h:=hs.ev x
 rw [hx] at h
 generalize he:ev σ' x=w at h
 cases h with
 | ifc h =>
  rename_i s q v
  have hq:=oq_ta (ρ:=ρ') (κ:=κ) ho hu hn hz he
  simp only [ta] at hr
  cases hb:Nat.beq s T
  ·have hne:s≠T:=fun e=>by rw [e] at hb;simp at hb
   rw [hb,hz] at hr
   simp only [cof] at hr
   rw [if_neg hne] at hq
   split at hr
   ·rename_i zs s1 b1 heq
    simp only [osj,Prod.mk.injEq] at heq
    obtain ⟨rfl,rfl,rfl⟩:=heq
    cases ho1:zs.all Value.oneCell'
    ·rw [ho1] at hr;cases hr
    rw [ho1] at hr;simp only [cot,osj] at hr;subst hr
    exact ⟨_,fun _=>.tup (ws:=[_,_]) (.cons (.agg (ds:=zs) (fun u hu=>List.all_eq_true.1 ho1 u hu) (ylh zs)) (.cons (.v rfl) .nil)),hq⟩
   cases hr
  ·have hst:=Nat.eq_of_beq_eq_true hb
   rw [hb] at hr;simp only [cot,osj] at hr;subst hr
   rw [if_pos hst] at hq
   exact ⟨_,fun _=>.tup (ws:=[_,_]) (.cons h (.cons (.v rfl) .nil)),hq⟩
 | _=>simp only [ta] at hr;cases hr
end
structure MethOk (t:Nat) (name:String) (f:Nat):Prop where
 h:∀ (v:Value) (w:World),(method (Tryz.prog.types.size+Made.depth) t v name).run Tryz.prog w=.ok (f,v) w
theorem yxw {o:Oper} {σ:Env} {ρ:List Res} {κ:Kr} {K:Value→List Res→Kr→Prop} {f t:Nat} {x:Operand} {name:String} {l:List Operand} {ts:Array Nat} {v:Value} {R:Value→Kr→Prop} (ho:o.op=.call { callee:=.invoke x name,args:=l.toArray,argTypes:=ts })
    (hx:ev σ x=.iface t v) (hm:MethOk t name f) (hc:CallP f (v::l.map (ev σ)) κ R) (h:∀ v κ',Kle κ κ'→R v κ'→K v ρ κ'):OpL o σ ρ κ K:=fun β hi Nx hk=>by
  have hi2:=hi.perm (List.Perm.refl ([]++ρ))
  have e1:(#[Value.iface t v]++(l.map (ev σ)).toArray)[0]?=some (.iface t v):=by simp
  have e2:(#[Value.iface t v]++(l.map (ev σ)).toArray).extract 1 (#[Value.iface t v]++(l.map (ev σ)).toArray).size=(l.map (ev σ)).toArray:=by simp;exact List.take_of_length_le (by simp)
  have e3:#[v]++(l.map (ev σ)).toArray=(v::l.map (ev σ)).toArray:=by simp
  have hp:(program).run Tryz.prog κ.w=.ok Tryz.prog κ.w:=rfl
  unfold execOp
  simp only [ho,resolve,Sem.run_bind,Sem.run_pure,Result.andThen_ok,invoke,List.map_toArray,hx,e1,e2,callMethod,hp,hm.h,e3,ylx hc.1,OutV]
  exact (hc.2 hi2.split).mono fun e w' ⟨v,ρ',κ',h1,h2,h3,h4⟩=>by
    subst h2
    obtain ⟨rfl,h4⟩:=h4
    exact ⟨v,h1,hk v ρ κ' (hi2.join h3) h3.le.kle (h v κ' h3.le.kle h4)⟩
def PFI (p:PV) (name:String) (pargs:List PV) (r:PV):Prop:=∃ t q f,p=.ifc t q∧MethOk t name f∧PF f (q::pargs) r
theorem xbe {t f:Nat} {name:String} {q:PV} {pargs:List PV} {r:PV} (hm:MethOk t name f) (h:PF f (q::pargs) r):PFI (.ifc t q) name pargs r:=⟨t,q,f,rfl,hm,h⟩
theorem xbf {o:Oper} {σ:PEnv} {ρ:List PRes} {K:PV→List PRes→Prop} {x:Operand} {name:String} {l:List Operand} {ts:Array Nat} {pargs:List PV} {r:PV} (ho:o.op=.call { callee:=.invoke x name,args:=l.toArray,argTypes:=ts }) (ha:l.map (pevc σ)=pargs) (hc:PFI (pevc σ x) name pargs r) (h:K r ρ):POpL o σ ρ K:=fun κ σ' ρ' g hs hr=>by
 obtain ⟨t,q,f,e,hm,hf⟩:=hc
 have hx:=hs.ev x
 rw [e] at hx
 generalize he:ev σ' x=w at hx
 cases hx with
 | ifc hq=>exact yxw ho he hm (hf κ _ g (.cons hq (by rw [← ha];exact ykq hs l))) fun v κ' hk hv=>⟨r,ρ,hv,hr.mono hk,h⟩
abbrev pI (x:Int):PV:=.v (.int .i64 x)
abbrev pU (x:Int):PV:=.v (.int .u64 x)
abbrev pY (x:Int):PV:=.v (.int .u8 x)
abbrev pB (b:Bool):PV:=.v (.bool b)
abbrev pS (s:ByteArray):PV:=.v (.string s)
abbrev pP (b off:Nat):PV:=.v (.pointer (some ⟨b,off,none⟩))
abbrev pO (a:Option Addr) (n c:Nat):PV:=.v (.slice a n c)
abbrev pN:PV:=.v (.slice none 0 0)
abbrev pL {α:Type} (e:α→List PV) (xs:List α):PV:=.slc xs.length (List.map e xs)
def ikn:IntKind→Nat
 | .i8=>0 | .i16=>1 | .i32=>2 | .i64=>3 | .u8=>4 | .u16=>5 | .u32=>6 | .u64=>7
theorem yze {a b:IntKind} (h:Nat.beq (ikn a) (ikn b)=true):a=b:=by cases a <;> cases b <;> first | rfl | cases h
def posl:Int→Bool
 | .ofNat (_+1)=>true
 | _=>false
def ge0l:Int→Bool
 | .ofNat _=>true
 | _=>false
theorem xkg {b:Int} (h:posl b=true):b≠0:=by rintro rfl;cases h
theorem ge0l_ge {b:Int} (h:ge0l b=true):0≤b:=by cases b with | ofNat n=>exact Int.natCast_nonneg n | negSucc n=>cases h
def qcmp (op:BinOp) (a b:Int):Option Bool:=match op with | .eql=>some (a == b) | .neq=>some (a != b) | .lss=>some (decide (a<b)) | .leq=>some (decide (a≤b)) | .gtr=>some (decide (b<a)) | .geq=>some (decide (b≤a)) | _=>none
def qari (op:BinOp) (a b:Int):Option Int:=match op with | .add=>some (a+b) | .sub=>some (a - b) | .mul=>some (a*b) | _=>none
def qbit (op:BinOp) (k:IntKind) (a b:Int):Option Int:=match op with | .and=>some (iand k a b) | .or=>some (ior k a b) | .xor=>some (ixor k a b) | _=>none
def qshf (op:BinOp) (k:IntKind) (a b:Int):Option Int:=match op with | .shl=>some (ishl k a b) | .shr=>some (ishr k a b) | _=>none
def qeqb (op:BinOp) (p q:Bool):Option Bool:=match op with | .eql=>some (p == q) | .neq=>some (p != q) | _=>none
def qstr (op:BinOp) (s u:ByteArray):Option Bool:=match op with | .eql=>some (decide (s=u)) | .neq=>some (!decide (s=u)) | .lss=>some (Op.bytesLess s.toList u.toList) | .leq=>some (Op.bytesLess s.toList u.toList||decide (s=u)) | .gtr=>some (!(Op.bytesLess s.toList u.toList||decide (s=u))) | .geq=>some (!Op.bytesLess s.toList u.toList) | _=>none
def qint (op:BinOp) (k k':IntKind) (a b:Int):Option PV :=
 match qshf op k a b with
 | some r=>cond (ge0l b) (some (.v (.int k r))) none
 | none=>cond (Nat.beq (ikn k) (ikn k'))
  (match qcmp op a b with
   | some r=>some (.v (.bool r))
   | none=>match qari op a b with
    | some r=>some (.v (.int k (k.wrap r)))
    | none=>match qbit op k a b with
     | some r=>some (.v (.int k r))
     | none=>match op with
      | .quo=>cond (posl b) (some (.v (.int k (k.wrap (a.tdiv b))))) none
      | .rem=>cond (posl b) (some (.v (.int k (a.tmod b)))) none
      | _=>none) none
def qbin (op:BinOp) (t:Nat) (p q:PV):Option PV:=match p,q with
 | .v (.int k a),.v (.int k' b)=>qint op k k' a b
 | .v (.bool p),.v (.bool q)=>(match und t with | some .bool=>(qeqb op p q).map fun r=>.v (.bool r) | _=>none)
 | .v (.string s),.v (.string u)=>(qstr op s u).map fun r=>.v (.bool r)
 | _,_=>none
def qlen (t:Nat) (p:PV):Option PV:=match und t,p with
 | some (.slice _),.slc m _=>some (.v (.int .i64 (m:Int)))
 | some (.slice _),.v (.slice _ m _)=>some (.v (.int .i64 (m:Int)))
 | some .string,.v (.string s)=>some (.v (.int .i64 (s.size:Int)))
 | _,_=>none
def qmm (mx:Bool) (p q:PV):Option PV:=match p,q with
 | .v (.int k a),.v (.int k' b)=>cond (Nat.beq (ikn k) (ikn k')) (some (.v (.int k (cond mx (imax a b) (imin a b))))) none
 | _,_=>none
def qfill (σ:PEnv) (fl:List (Nat×Nat)):List PV→List (Nat×Operand)→Option (List PV)
 | zs,[]=>some zs
 | zs,(i,x)::r=>match fl[i]? with
  | some (k,ty)=>match inf ty,cellsP (pevc σ x) with
   | some (_,sz,_),some vs=>cond (Nat.beq vs.length sz&&Nat.ble (k+vs.length) zs.length) (qfill σ fl (zs.take k++vs++zs.drop (k+vs.length)) r) none
   | _,_=>none
  | none=>none
theorem xfw {σ:PEnv} {fl:List (Nat×Nat)}:∀ {parts:List (Nat×Operand)} {zs cs:List PV},qfill σ fl zs parts=some cs→PFill σ fl zs parts cs
 | [],zs,cs,h=>by simp only [qfill,osj] at h;exact h
 | (i,x)::r,zs,cs,h=>by
  simp only [qfill] at h
  split at h
  ·rename_i k ty h1
   split at h
   ·rename_i z sz by' vs h2 h3
    cases hb:(Nat.beq vs.length sz&&Nat.ble (k+vs.length) zs.length)
    ·rw [hb] at h;cases h
    rw [hb] at h
    simp only [Bool.and_eq_true] at hb
    exact zfc h1 h2 h3 hb.1 ⟨rfl,Nat.le_of_ble_eq_true hb.2⟩ (xfw h)
   cases h
  cases h
def qfa (s f:Nat) (p:PV):Option PV:=match fldL s with
 | some l=>match l[f]? with
  | some (kk,ty)=>match inf ty with
   | some (_,sz,_)=>cond (Nat.blt 0 sz) (match p with
    | .v (.pointer (some ⟨b,off,none⟩))=>some (.v (.pointer (some ⟨b,off+kk,none⟩)))
    | .ref cs off=>some (.ref cs (off+kk))
    | _=>none) none
   | none=>none
  | none=>none
 | none=>none
def qfd (t f:Nat) (p:PV):Option PV:=match fldL t with
 | some l=>match l[f]? with
  | some (kk,ty)=>match p with
   | .agg cs=>cond (Nat.ble kk cs.length) (preadAs ty (cs.drop kk)) none
   | _=>none
  | none=>none
 | none=>none
def qx (σ:PEnv) (ρ:List PRes) (at_:Nat):Op→Option (PV×Option (Nat×Nat))
 | .move x=>some (pevc σ x,none)
 | .assign x=>some (pevc σ x,none)
 | .binOp op t x y _=>(qbin op t (pevc σ x) (pevc σ y)).map fun p=>(p,none)
 | .unOp .not _ x=>(match pevc σ x with | .v (.bool p)=>some (.v (.bool !p),none) | _=>none)
 | .unOp .neg _ x=>(match pevc σ x with | .v (.int k a)=>some (.v (.int k (k.wrap (0 - a))),none) | _=>none)
 | .convert s d x=>(match und s,und d,pevc σ x with | some _,some (.int k'),.v (.int _ a)=>some (.v (.int k' (k'.wrap a)),none) | _,_,_=>none)
 | .nilCheck x=>(match pevc σ x with | .v (.pointer (some ad))=>some (.v (.pointer (some ad)),none) | .ref cs k=>some (.ref cs k,none) | .ifc t p=>some (.ifc t p,none) | _=>none)
 | .fieldAddr s x f=>(qfa s f (pevc σ x)).map fun p=>(p,none)
 | .field t x f=>(qfd t f (pevc σ x)).map fun p=>(p,none)
 | .extract x i=>(match pevc σ x with | .tup vs=>(vs[i]?).map fun p=>(p,none) | _=>none)
 | .load t x=>(match pevc σ x with
  | .ref cs off=>(preadAs t (cs.drop off)).map fun p=>(p,none)
  | .v (.pointer (some ⟨b,off,none⟩))=>(match ρ[at_]? with | some (.b b' _ cs)=>(preadAs t (cs.drop off)).map fun p=>(p,some (b,b')) | _=>none)
  | _=>none)
 | .call ⟨.builtin .len,⟨[x]⟩,⟨[t]⟩⟩=>(qlen t (pevc σ x)).map fun p=>(p,none)
 | .call ⟨.builtin .min,⟨[x,y]⟩,_⟩=>(qmm false (pevc σ x) (pevc σ y)).map fun p=>(p,none)
 | .call ⟨.builtin .max,⟨[x,y]⟩,_⟩=>(qmm true (pevc σ x) (pevc σ y)).map fun p=>(p,none)
 | .makeFunc (.func f) ⟨[]⟩ ⟨l⟩=>some (.fn f (l.map (pevc σ)),none)
 | .makeInterface t x=>(match und t with | some d=>cond (isIf d) none (some (.ifc t (pevc σ x),none)) | none=>none)
 | .build t ⟨parts⟩=>(match inf t,fldL t with
  | some (.agg ⟨zs⟩,_,_),some fl=>cond ((fl.all fun p=>(inf p.2).isSome)&&zs.all Value.oneCell') ((qfill σ fl (zs.map fun x=>cond (okb x) (.v x) .any) parts).map fun cs=>(.agg cs,none)) none
  | _,_=>none)
 | _=>none
section
variable {o:Oper} {σ:PEnv} {ρ:List PRes} {x y:Operand} {t t':Nat} {p:PV}
theorem map_none {a:Option PV} {p:PV} {e:Option (Nat×Nat)} (h:(a.map fun q=>(q,(none:Option (Nat×Nat))))=some (p,e)):a=some p:=by
 cases a with
 | none=>cases h
 | some q=>simp only [Option.map_some,osj,Prod.mk.injEq] at h;rw [h.1]
theorem qint_ok {op:BinOp} {k k':IntKind} {a b:Int} (ho:o.op=.binOp op t x y t') (hx:pevc σ x=.v (.int k a)) (hy:pevc σ y=.v (.int k' b)) (h:qint op k k' a b=some p):POpQ true o σ ρ p:=by
 unfold qint at h
 split at h
 ·rename_i r hr
  cases hb:ge0l b
  ·rw [hb] at h;cases h
  rw [hb] at h;simp only [cot,osj] at h;subst h
  exact yza ho (.p hx) (.p hy) (fun _=>ge0l_ge hb) (by cases op <;> exact hr)
 cases hk:Nat.beq (ikn k) (ikn k')
 ·rw [hk] at h;cases h
 rw [hk] at h;simp only [cot] at h
 have:=yze hk;subst this
 split at h
 ·rename_i r hr;simp only [osj] at h;subst h;exact xjw ho (.p hx) (.p hy) (by cases op <;> exact hr)
 split at h
 ·rename_i r hr;simp only [osj] at h;subst h;exact yyz ho (.p hx) (.p hy) (by cases op <;> exact hr)
 split at h
 ·rename_i r hr;simp only [osj] at h;subst h;exact pq_bits ho (.p hx) (.p hy) (by cases op <;> exact hr)
 split at h
 ·cases hb:posl b
  ·rw [hb] at h;cases h
  rw [hb] at h;simp only [cot,osj] at h;subst h;exact pq_quo ho (.p hx) (.p hy) fun _=>xkg hb
 ·cases hb:posl b
  ·rw [hb] at h;cases h
  rw [hb] at h;simp only [cot,osj] at h;subst h;exact pq_rem ho (.p hx) (.p hy) fun _=>xkg hb
 cases h
theorem qbin_ok {op:BinOp} (ho:o.op=.binOp op t x y t') (h:qbin op t (pevc σ x) (pevc σ y)=some p):POpQ true o σ ρ p:=by
 unfold qbin at h
 split at h
 ·rename_i h1 h2;exact qint_ok ho h1 h2 h
 ·rename_i h1 h2
  split at h
  ·rename_i hu
   obtain ⟨r,hr,rfl⟩:=Option.map_eq_some_iff.1 h
   exact pq_eqB ho hu (.p h1) (.p h2) (by cases op <;> exact hr)
  cases h
 ·rename_i h1 h2
  obtain ⟨r,hr,rfl⟩:=Option.map_eq_some_iff.1 h
  exact pq_str ho (.p h1) (.p h2) (by cases op <;> exact hr)
 cases h
theorem qlen_ok (ho:o.op=.call { callee:=.builtin .len,args:=#[x],argTypes:=#[t] }) (h:qlen t (pevc σ x)=some p):POpQ true o σ ρ p:=by
 unfold qlen at h
 split at h
 ·rename_i hu hx;simp only [osj] at h;subst h;exact pq_len ho hu (.p hx)
 ·rename_i hu hx;simp only [osj] at h;subst h;exact pq_lenO ho hu (.p hx)
 ·rename_i hu hx;simp only [osj] at h;subst h;exact pq_lenS ho hu (.p hx)
 cases h
theorem qmm_ok {mx:Bool} {ts:List Nat} (ho:o.op=.call { callee:=.builtin (cond mx .max .min),args:=#[x,y],argTypes:=ts.toArray }) (h:qmm mx (pevc σ x) (pevc σ y)=some p):POpQ true o σ ρ p:=by
 unfold qmm at h
 split at h
 ·rename_i k a k' b h1 h2
  cases hk:Nat.beq (ikn k) (ikn k')
  ·rw [hk] at h;cases h
  have:=yze hk;subst this
  rw [hk] at h
  simp only [cot,osj] at h;subst h
  cases mx
  ·exact pq_min ho (.p h1) (.p h2)
  exact pq_max ho (.p h1) (.p h2)
 cases h
theorem qfa_ok {s f:Nat} (ho:o.op=.fieldAddr s x f) (h:qfa s f (pevc σ x)=some p):POpQ true o σ ρ p:=by
 unfold qfa at h
 split at h
 ·rename_i l h1
  split at h
  ·rename_i kk ty h2
   split at h
   ·rename_i z sz by' h3
    cases h4:Nat.blt 0 sz
    ·rw [h4] at h;cases h
    rw [h4] at h;simp only [cot] at h
    split at h
    ·rename_i hx;simp only [osj] at h;subst h;exact ybx ho h1 h2 h3 h4 (.p hx)
    ·rename_i hx;simp only [osj] at h;subst h;exact yzb ho h1 h2 h3 h4 (.p hx)
    cases h
   cases h
  cases h
 cases h
theorem qfd_ok {f:Nat} (ho:o.op=.field t x f) (h:qfd t f (pevc σ x)=some p):POpQ true o σ ρ p:=by
 unfold qfd at h
 split at h
 ·rename_i l h1
  split at h
  ·rename_i kk ty h2
   split at h
   ·rename_i cs hx
    cases h4:Nat.ble kk cs.length
    ·rw [h4] at h;cases h
    rw [h4] at h;exact pq_field ho h1 h2 (.p hx) h4 h
   cases h
  cases h
 cases h
theorem xbg {c:Bool} {tt:Nat} {pp:PV} (ho:o.op=.nilCheck x) (hx:PEv σ c x (.ifc tt pp)):POpQ c o σ ρ (.ifc tt pp):=fun κ σ' ρ' g hs _=>by
 refine ⟨ev σ' x,hs.pe hx,fun hc w _=>?_⟩
 have h:=hs.pe hx hc
 generalize he:ev σ' x=y at h
 cases h with
 | ifc h=>simp [execOp,ho,he]
theorem qx_ok {k:Nat} {e:Option (Nat×Nat)} (h:qx σ ρ k o.op=some (p,e)) (he:∀ b b',e=some (b,b')→b=b'):POpQ true o σ ρ p:=by
 generalize ho:o.op=op at h
 unfold qx at h
 split at h
 ·simp only [osj,Prod.mk.injEq] at h;obtain ⟨rfl,_⟩:=h;exact yfr ho (.p rfl)
 ·simp only [osj,Prod.mk.injEq] at h;obtain ⟨rfl,_⟩:=h;exact ycc ho (.p rfl)
 ·exact qbin_ok ho (map_none h)
 ·split at h
  ·rename_i hx;simp only [osj,Prod.mk.injEq] at h;obtain ⟨rfl,_⟩:=h;exact pq_not ho (.p hx)
  cases h
 ·split at h
  ·rename_i hx;simp only [osj,Prod.mk.injEq] at h;obtain ⟨rfl,_⟩:=h;exact pq_neg ho (.p hx)
  cases h
 ·split at h
  ·rename_i h1 h2 hx;simp only [osj,Prod.mk.injEq] at h;obtain ⟨rfl,_⟩:=h;exact pq_conv ho h1 h2 (.p hx)
  cases h
 ·split at h
  ·rename_i hx;simp only [osj,Prod.mk.injEq] at h;obtain ⟨rfl,_⟩:=h;exact xdw ho (.p hx)
  ·rename_i hx;simp only [osj,Prod.mk.injEq] at h;obtain ⟨rfl,_⟩:=h;exact xaz ho (.p hx)
  ·rename_i hx;simp only [osj,Prod.mk.injEq] at h;obtain ⟨rfl,_⟩:=h;exact xbg ho (.p hx)
  cases h
 ·exact qfa_ok ho (map_none h)
 ·exact qfd_ok ho (map_none h)
 ·split at h
  ·rename_i hx;exact yih ho (.p hx) (map_none h)
  cases h
 ·split at h
  ·rename_i hx;exact yut ho (.p hx) (map_none h)
  ·rename_i b off hx
   split at h
   ·rename_i b' T cs hr
    obtain ⟨q,hq,h2⟩:=Option.map_eq_some_iff.1 h
    simp only [Prod.mk.injEq] at h2
    obtain ⟨rfl,rfl⟩:=h2
    have:=he b b' rfl;subst this
    exact ydd ho (.p hx) (List.mem_of_getElem? hr) hq
   cases h
  cases h
 ·exact qlen_ok ho (map_none h)
 ·exact qmm_ok (mx:=false) (ts:=_) ho (map_none h)
 ·exact qmm_ok (mx:=true) (ts:=_) ho (map_none h)
 ·simp only [osj,Prod.mk.injEq] at h;obtain ⟨rfl,_⟩:=h;exact xdy ho
 ·split at h
  ·rename_i d hu
   cases hn:isIf d
   ·rw [hn] at h;simp only [cof,osj,Prod.mk.injEq] at h;obtain ⟨rfl,_⟩:=h;exact xhn ho hu hn
   rw [hn] at h;cases h
  cases h
 ·split at h
  ·rename_i zs sz by' fl h1 h2
   cases hc:((fl.all fun p=>(inf p.2).isSome)&&zs.all Value.oneCell')
   ·rw [hc] at h;cases h
   rw [hc] at h
   simp only [cot] at h
   obtain ⟨q,hq,h3⟩:=Option.map_eq_some_iff.1 h
   simp only [Prod.mk.injEq] at h3
   obtain ⟨rfl,_⟩:=h3
   simp only [Bool.and_eq_true] at hc
   exact yzc rfl ho h1 h2 hc.1 rfl hc.2 (xfw hq)
  cases h
 cases h
end
structure GE where
 gs:List Bool
 p:PV
def gl (t:Nat):List (Nat×GE)→Option GE
 | []=>none
 | (d,e)::l=>cond (Nat.beq t d) (some e) (gl t l)
def gdel (t:Nat):List (Nat×GE)→List (Nat×GE)
 | []=>[]
 | (d,e)::l=>cond (Nat.beq t d) (gdel t l) ((d,e)::gdel t l)
def inn (d:Nat):List Nat→Bool
 | []=>false
 | k::l=>cond (Nat.beq d k) true (inn d l)
theorem yzf {d:Nat}:∀ {l:List Nat},inn d l=true↔d∈l
 | []=>by simp [inn]
 | k::l=>by
  unfold inn
  cases h:Nat.beq d k
  ·have:d≠k:=fun e=>by rw [e] at h;simp at h
   simp [yzf (l:=l),this]
  simp [Nat.eq_of_beq_eq_true h]
def otmps:List Operand→List Nat
 | []=>[]
 | .tmp t::l=>t::otmps l
 | _::l=>otmps l
def genv (σ:PEnv) (G:List (Nat×GE)) (ts:List Nat) (gs:List Bool):PEnv:=fun t=>match gl t G with
 | none=>σ t
 | some e=>cond (inn t ts&&Nat.ble e.gs.length gs.length) e.p .any
def geqs (G:List (Nat×GE)) (gs:List Bool):List Nat→List (Bool×Bool)
 | []=>[]
 | t::ts=>match gl t G with
  | none=>geqs G gs ts
  | some e=>(e.gs.headD true,(gs.drop (gs.length - e.gs.length)).headD true)::geqs G gs ts
def gstack (ops:Array Oper) (σ:PEnv) (G:List (Nat×GE)):Option (Nat×Bool)→Option (List Bool)
 | none=>some []
 | some (j,pol)=>match (ops[j]?).bind (·.dst) with
  | none=>none
  | some d=>match gl d G with
   | none=>match σ d with | .v (.bool p)=>some [cond pol p (!p)] | _=>none
   | some e=>match e.p with | .v (.bool p)=>some ((e.gs.headD true&&cond pol p (!p))::e.gs) | _=>none
def StackOk (gs:List Bool):Prop:=gs.headD true=true→∀ b∈gs,b=true
def GInv (σ:PEnv) (G:List (Nat×GE)):Prop:=∀ t e,gl t G=some e→σ t=pgv (e.gs.headD true) e.p∧StackOk e.gs∧e.gs≠[]
def AllEq (l:List (Bool×Bool)):Prop:=l.map (·.1)=l.map (·.2)
theorem AllEq.nil:AllEq []:=rfl
theorem AllEq.cons {a b:Bool} {l:List (Bool×Bool)} (h:AllEq ((a,b)::l)):a=b∧AllEq l:=by
 unfold AllEq at h;simp only [List.map_cons,List.cons.injEq] at h;exact h
theorem AllEq.app {l m:List (Bool×Bool)} (h:AllEq (l++m)):AllEq l∧AllEq m:=by
 unfold AllEq at h;simp only [List.map_append] at h
 exact List.append_inj h (by simp)
theorem ytv {G:List (Nat×GE)} {gs:List Bool} {t:Nat} {e:GE}:∀ {ts:List Nat},t∈ts→gl t G=some e→AllEq (geqs G gs ts)→e.gs.headD true=(gs.drop (gs.length - e.gs.length)).headD true
 | u::ts,hm,hg,ha=>by
  simp only [geqs] at ha
  rcases List.mem_cons.1 hm with rfl | hm
  ·rw [hg] at ha;exact ha.cons.1
  split at ha
  ·exact ytv hm hg ha
  exact ytv hm hg ha.cons.2
theorem yxx {gs:List Bool} (h:StackOk gs) (hc:gs.headD true=true) (k:Nat):(gs.drop k).headD true=true:=by
 rw [List.headD_eq_head?_getD,List.head?_drop]
 cases e:gs[k]? with
 | none=>rfl
 | some b=>exact h hc b (List.mem_of_getElem? e)
theorem ytw {κ:Kr} {σ:PEnv} {σ':Env} {G:List (Nat×GE)} {ts:List Nat} {gs:List Bool} (hs:Sim κ σ σ') (hi:GInv σ G) (ha:AllEq (geqs G gs ts)) (hk:StackOk gs) (hc:gs.headD true=true):Sim κ (genv σ G ts gs) σ':=fun t=>by
 unfold genv
 cases hg:gl t G with
 | none=>exact hs t
 | some e =>
  simp only
  cases hb:(inn t ts&&Nat.ble e.gs.length gs.length)
  ·exact .any
  simp only [Bool.and_eq_true,yzf] at hb
  have h1:=ytv hb.1 hg ha
  rw [yxx hk hc] at h1
  have h2:=(hi t e hg).1
  rw [h1,ynu] at h2
  have:=hs t
  rw [h2] at this
  exact this
theorem yuw {o:Oper} {σ:PEnv} {ρ:List PRes} {G:List (Nat×GE)} {ts:List Nat} {gs:List Bool} {p:PV} (h:gs.headD true=true→POpQ true o (genv σ G ts gs) ρ p) (hi:GInv σ G) (ha:AllEq (geqs G gs ts)) (hk:StackOk gs):POpQ (gs.headD true) o σ ρ p:=fun κ σ' ρ' g hs hr=>by
 cases hc:gs.headD true with
 | false=>exact noq
 | true=>exact h hc κ σ' ρ' g (ytw hs hi ha hk hc) hr
theorem xkh {ops:Array Oper} {σ:PEnv} {G:List (Nat×GE)} {o:Oper} {gs:List Bool} (hi:GInv σ G) (h:gstack ops σ G o.guard=some gs):PGuardIs ops σ o (gs.headD true)∧StackOk gs:=by
 cases hg:o.guard with
 | none =>
  rw [hg] at h;simp only [gstack,osj] at h;subst h
  exact ⟨fun κ σ' _=>xhh hg,fun _ b hb=>by cases hb⟩
 | some jp =>
  obtain ⟨j,pol⟩:=jp
  rw [hg] at h;simp only [gstack] at h
  split at h
  ·cases h
  rename_i d hd
  split at h
  ·split at h
   ·rename_i p hp
    simp only [osj] at h;subst h
    refine ⟨?_,fun hc b hb=>by rw [List.mem_singleton.1 hb];exact hc⟩
    cases pol
    ·exact pguard_f hg hd hp
    exact yts hg hd hp
   cases h
  rename_i e hgl
  split at h
  ·rename_i p hp
   simp only [osj] at h;subst h
   obtain ⟨h1,h2,h3⟩:=hi d e hgl
   rw [hp] at h1
   refine ⟨?_,fun hc b hb=>?_⟩
   ·cases pol
    ·exact yuq hg hd h1
    exact xjt hg hd h1
   simp only [List.headD_cons,Bool.and_eq_true] at hc
   rcases List.mem_cons.1 hb with rfl | hb
   ·simp only [hc,Bool.and_self]
   exact h2 hc.1 b hb
  cases h
def lazyv (σ:PEnv) (G:List (Nat×GE)) (want:Bool):Operand→Option (PV×List (Bool×Bool))
 | .tmp t=>match gl t G with
  | some e=>some (e.p,[(e.gs.headD true,want)])
  | none=>some (σ t,[])
 | x=>some (pevc σ x,[])
theorem xfx {σ:PEnv} {G:List (Nat×GE)} {want:Bool} {x:Operand} {p:PV} {l:List (Bool×Bool)} (hi:GInv σ G) (h:lazyv σ G want x=some (p,l)) (ha:AllEq l):PEv σ want x p:=by
 unfold lazyv at h
 split at h
 ·rename_i t
  split at h
  ·rename_i e hg
   simp only [osj,Prod.mk.injEq] at h;obtain ⟨rfl,rfl⟩:=h
   have h1:=ha.cons.1
   have h2:=(hi t e hg).1
   rw [h1] at h2
   exact .g h2
  simp only [osj,Prod.mk.injEq] at h;obtain ⟨rfl,rfl⟩:=h;exact .p rfl
 simp only [osj,Prod.mk.injEq] at h;obtain ⟨rfl,rfl⟩:=h;exact .p rfl
def boolOf:PV→Option Bool
 | .v (.bool p)=>some p
 | _=>none
theorem yux {p:PV} {b:Bool} (h:boolOf p=some b):p=.v (.bool b):=by
 unfold boolOf at h;split at h
 ·simp only [osj] at h;rw [h]
 cases h
def isTrue:Operand→Bool
 | .const (.bool true)=>true
 | _=>false
def isFalse:Operand→Bool
 | .const (.bool false)=>true
 | _=>false
theorem xki {x:Operand} {σ:PEnv} (h:isTrue x=true):pevc σ x=.v (.bool true):=by
 unfold isTrue at h;split at h
 ·rfl
 cases h
theorem xho {x:Operand} {σ:PEnv} (h:isFalse x=true):pevc σ x=.v (.bool false):=by
 unfold isFalse at h;split at h
 ·rfl
 cases h
def pickx (σ:PEnv) (G:List (Nat×GE)) (gs:List Bool) (cc a b:Operand):Option (PV×List (Bool×Bool)) :=
 match boolOf (pevc (genv σ G (otmps [cc]) gs) cc) with
 | none=>none
 | some p=>cond (isTrue a)
  (match lazyv σ G (gs.headD true && !p) b with
   | some (q,l)=>match boolOf q with
    | some q=>some (.v (.bool (p||q)),geqs G gs (otmps [cc])++l)
    | none=>none
   | none=>none)
  (cond (isFalse b)
   (match lazyv σ G (gs.headD true&&p) a with
    | some (q,l)=>match boolOf q with
     | some q=>some (.v (.bool (p&&q)),geqs G gs (otmps [cc])++l)
     | none=>none
    | none=>none) none)
theorem xkj {σ:PEnv} {G:List (Nat×GE)} {gs:List Bool} {x:Operand} {p:PV} (hi:GInv σ G) (hk:StackOk gs) (ha:AllEq (geqs G gs (otmps [x]))) (h:pevc (genv σ G (otmps [x]) gs) x=p) (hn:p≠.any):PEv σ (gs.headD true) x p:=fun hc=>by
 cases x with
 | tmp t =>
  simp only [pevc,otmps] at h ⊢
  unfold genv at h
  cases hg:gl t G with
  | none=>rw [hg] at h;exact h
  | some e =>
   rw [hg] at h
   simp only at h
   cases hb:(inn t [t]&&Nat.ble e.gs.length gs.length)
   ·rw [hb] at h;exact absurd h.symm hn
   ·rw [hb] at h;simp only [cot] at h
    have h1:=ytv (t:=t) (ts:=[t]) (by simp) hg ha
    rw [yxx hk hc] at h1
    have h2:=(hi t e hg).1
    rw [h1,ynu] at h2
    rw [h2,h]
 | const x=>exact h
 | global g=>exact h
 | func f=>exact h
theorem pickx_ok {o:Oper} {σ:PEnv} {ρ:List PRes} {G:List (Nat×GE)} {gs:List Bool} {cc a b:Operand} {p:PV} {l:List (Bool×Bool)} (ho:o.op=.pick cc a b) (hi:GInv σ G) (hk:StackOk gs) (h:pickx σ G gs cc a b=some (p,l)) (ha:AllEq l):POpQ (gs.headD true) o σ ρ p:=by
 unfold pickx at h
 split at h
 ·cases h
 rename_i c hc
 have hc:=yux hc
 cases h1:isTrue a
 ·rw [h1] at h;simp only [cof] at h
  cases h2:isFalse b
  ·rw [h2] at h;cases h
  rw [h2] at h;simp only [cot] at h
  split at h
  ·rename_i q m hl
   split at h
   ·rename_i q' hq
    simp only [osj,Prod.mk.injEq] at h;obtain ⟨rfl,rfl⟩:=h
    have hl':=xfx hi hl ha.app.2
    rw [yux hq] at hl'
    exact xjv ho (xkj hi hk ha.app.1 hc (by simp)) (.p (xho h2)) hl'
   cases h
  cases h
 rw [h1] at h;simp only [cot] at h
 split at h
 ·rename_i q m hl
  split at h
  ·rename_i q' hq
   simp only [osj,Prod.mk.injEq] at h;obtain ⟨rfl,rfl⟩:=h
   have hl':=xfx hi hl ha.app.2
   rw [yux hq] at hl'
   exact pq_or ho (xkj hi hk ha.app.1 hc (by simp)) (.p (xki h1)) hl'
  cases h
 cases h
inductive Fct where
 | ix (c:Bool) (css:List (List PV)) (i:Int) (cs:List PV)
 | sx (c:Bool) (s:ByteArray) (i:Int) (u:UInt8)
 | nz (c:Bool) (b:Int)
 | ge (c:Bool) (b:Int)
 | sl (c:Bool) (css:List (List PV)) (lo hi:Int) (zss:List (List PV)) (m sz:Nat)
 | ss (c:Bool) (s:ByteArray) (lo hi:Int) (z:ByteArray)
 | ct (c:Bool) (s u z:ByteArray)
 | eq (t:Nat) (ks:List Nat)
 | cl (c:Bool) (f:Nat) (pargs:List PV) (r:PV)
 | cv (c:Bool) (pf:PV) (pargs:List PV) (r:PV)
 | ci (c:Bool) (p:PV) (name:String) (pargs:List PV) (r:PV)
 | ta (T:Nat) (p r:PV)
structure EqOk (t:Nat) (ks:List Nat):Prop where
 h1:Tryz.prog.underlying t=some (.struct (Tryz.prog.fieldsOf t))
 h2:Tryz.prog.stoodInHeld t=false
 h3:Tryz.prog.eqGuardType Tryz.prog.depth t=false
 h4:flatK (Tryz.prog.fieldsOf t).toList 0 ks=true
def Fct.ok:Fct→Prop
 | .ix c css i cs=>c=true→idx css i=some cs
 | .sx c s i u=>c=true→idx s.data.toList i=some u
 | .nz c b=>c=true→b≠0
 | .ge c b=>c=true→0≤b
 | .sl c css lo hi zss m sz=>(c=true→sub css lo hi=some zss)∧m=zss.length∧∀ cs∈css,cs.length=sz
 | .ss c s lo hi z=>c=true→ssub s lo hi=some z
 | .ct c s u z=>c=true→cat s u=some z
 | .eq t ks=>EqOk t ks
 | .cl c f pargs r=>c=true→PF f pargs r
 | .cv c pf pargs r=>c=true→PFV pf pargs r
 | .ci c p name pargs r=>c=true→PFI p name pargs r
 | .ta T p r=>SX.ta T p=some r
def FOk:List (Nat×Fct)→Prop
 | []=>True
 | f::l=>f.2.ok∧FOk l
theorem fo0:FOk []:=trivial
section
variable {F:List (Nat×Fct)} {c:Bool} {α:Type} {xs zs:List α} {i lo hi b:Int} {m:α}
theorem yuy (k:Nat) (e:α→List PV) (hm:c=true→idx xs i=some m) (h:FOk F):FOk ((k,.ix c (List.map e xs) i (e m))::F):=⟨fun hc=>by
 obtain ⟨h0,hmm⟩:=yly (hm hc)
 unfold idx;rw [if_pos h0,List.getElem?_map,hmm];rfl,h⟩
theorem ymr (k:Nat) (e:α→List PV) (hm:idx xs i=some m) (h:FOk F):FOk ((k,.ix true (List.map e xs) i (e m))::F):=yuy k e (fun _=>hm) h
theorem xhp (k:Nat) (e:α→List PV) {cs:List PV} (he:e m=cs) (hm:idx xs i=some m) (h:FOk F):FOk ((k,.ix true (List.map e xs) i cs)::F):=by subst he;exact ymr k e hm h
theorem fosxg (k:Nat) {s:ByteArray} {u:UInt8} (hm:c=true→idx s.data.toList i=some u) (h:FOk F):FOk ((k,.sx c s i u)::F):=⟨hm,h⟩
theorem fosx (k:Nat) {s:ByteArray} {u:UInt8} (hm:idx s.data.toList i=some u) (h:FOk F):FOk ((k,.sx true s i u)::F):=⟨fun _=>hm,h⟩
theorem fonz (k:Nat) {u:Unit} (hm:SX.nz b=some u) (h:FOk F):FOk ((k,.nz true b)::F):=⟨fun _=>nz_some hm,h⟩
theorem foge (k:Nat) {u:Unit} (hm:ge0 b=some u) (h:FOk F):FOk ((k,.ge true b)::F):=⟨fun _=>yma hm,h⟩
theorem foslg (k:Nat) (e:α→List PV) (sz:Nat) (hw:∀ m,(e m).length=sz) (hm:c=true→sub xs lo hi=some zs) (h:FOk F):FOk ((k,.sl c (List.map e xs) lo hi (List.map e zs) zs.length sz)::F):=⟨⟨fun hc=>by
 obtain ⟨h1,rfl⟩:=yhm (hm hc)
 unfold sub;rw [if_pos (by rw [List.length_map];exact h1),List.map_drop,List.map_take],by rw [List.length_map],fun cs hcs=>by obtain ⟨x,_,rfl⟩:=List.mem_map.1 hcs;exact hw x⟩,h⟩
theorem fosl (k:Nat) (e:α→List PV) (sz:Nat) (hw:∀ m,(e m).length=sz) (hm:sub xs lo hi=some zs) (h:FOk F):FOk ((k,.sl true (List.map e xs) lo hi (List.map e zs) zs.length sz)::F):=foslg k e sz hw (fun _=>hm) h
theorem fossg (k:Nat) {s z:ByteArray} (hm:c=true→ssub s lo hi=some z) (h:FOk F):FOk ((k,.ss c s lo hi z)::F):=⟨hm,h⟩
theorem foss (k:Nat) {s z:ByteArray} (hm:ssub s lo hi=some z) (h:FOk F):FOk ((k,.ss true s lo hi z)::F):=⟨fun _=>hm,h⟩
theorem foeq (k:Nat) {t:Nat} {ks:List Nat} (hm:EqOk t ks) (h:FOk F):FOk ((k,.eq t ks)::F):=⟨hm,h⟩
theorem yfg (k:Nat) {f:Nat} {pargs:List PV} {r:PV} (hm:PF f pargs r) (h:FOk F):FOk ((k,.cl true f pargs r)::F):=⟨fun _=>hm,h⟩
theorem ylk (k:Nat) {f:Nat} {pargs:List PV} {r:PV} (hm:c=true→PF f pargs r) (h:FOk F):FOk ((k,.cl c f pargs r)::F):=⟨hm,h⟩
theorem foci (k:Nat) {p:PV} {name:String} {pargs:List PV} {r:PV} (hm:PFI p name pargs r) (h:FOk F):FOk ((k,.ci true p name pargs r)::F):=⟨fun _=>hm,h⟩
theorem fota (k:Nat) {T:Nat} {p r:PV} (hm:SX.ta T p=some r) (h:FOk F):FOk ((k,.ta T p r)::F):=⟨hm,h⟩
theorem focv (k:Nat) {pf:PV} {pargs:List PV} {r:PV} (hm:PFV pf pargs r) (h:FOk F):FOk ((k,.cv true pf pargs r)::F):=⟨fun _=>hm,h⟩
theorem focvg (k:Nat) {pf:PV} {pargs:List PV} {r:PV} (hm:c=true→PFV pf pargs r) (h:FOk F):FOk ((k,.cv c pf pargs r)::F):=⟨hm,h⟩
end
inductive Eqn where
 | n (a:Nat)
 | b (a:Bool)
 | i (a:Int)
 | p (a:PV)
 | l (a:List PV)
 | q (a:List (List PV))
 | s (a:ByteArray)
 | m (a:String)
abbrev StepR:=PV×List Eqn×List Eqn
def sliceX (σ:PEnv) (c:Bool) (t:Nat) (p:PV) (lo hi:Option Operand):Fct→Option StepR
 | .sl c' css l h zss m sz=>(match und t,p with
  | some (.slice E),.slc mm css'=>(match inf E with
   | some (_,sz',_)=>(match lo,hi with
    | none,some y=>(match pevc σ y with | .v (.int _ b)=>some (.slc m zss,[.b c',.q css,.i l,.i h,.n sz],[.b c,.q css',.i 0,.i b,.n sz']) | _=>none)
    | some x,none=>(match pevc σ x with | .v (.int _ a)=>some (.slc m zss,[.b c',.q css,.i l,.i h,.n sz],[.b c,.q css',.i a,.i (mm:Int),.n sz']) | _=>none)
    | _,_=>none)
   | none=>none)
  | _,_=>none)
 | .ss c' s l h z=>(match und t,p with
  | some .string,.v (.string s')=>(match lo,hi with
   | none,some y=>(match pevc σ y with | .v (.int _ b)=>some (.v (.string z),[.b c',.s s,.i l,.i h],[.b c,.s s',.i 0,.i b]) | _=>none)
   | some x,none=>(match pevc σ x with | .v (.int _ a)=>some (.v (.string z),[.b c',.s s,.i l,.i h],[.b c,.s s',.i a,.i (s'.size:Int)]) | _=>none)
   | some x,some y=>(match pevc σ x,pevc σ y with | .v (.int _ a),.v (.int _ b)=>some (.v (.string z),[.b c',.s s,.i l,.i h],[.b c,.s s',.i a,.i b]) | _,_=>none)
   | none,none=>none)
  | _,_=>none)
 | _=>none
def factx (σ:PEnv) (c:Bool):Op→Fct→Option StepR
 | .indexAddr t x y,.ix c' css i cs=>(match und t,pevc σ x,pevc σ y with
  | some (.slice E),.slc _ css',.v (.int _ i')=>(match inf E with | some (_,sz,_)=>some (.ref cs 0,[.b c',.q css,.i i,.n cs.length],[.b c,.q css',.i i',.n sz]) | none=>none)
  | _,_,_=>none)
 | .index t x y,.sx c' s i u=>(match und t,pevc σ x,pevc σ y with
  | some .string,.v (.string s'),.v (.int _ i')=>some (.v (.int .u8 (u.toNat:Int)),[.b c',.s s,.i i],[.b c,.s s',.i i'])
  | _,_,_=>none)
 | .binOp .quo _ x y _,.nz c' b=>(match pevc σ x,pevc σ y with
  | .v (.int k a),.v (.int k' b')=>cond (Nat.beq (ikn k) (ikn k')) (some (.v (.int k (k.wrap (a.tdiv b))),[.b c',.i b],[.b c,.i b'])) none
  | _,_=>none)
 | .binOp .rem _ x y _,.nz c' b=>(match pevc σ x,pevc σ y with
  | .v (.int k a),.v (.int k' b')=>cond (Nat.beq (ikn k) (ikn k')) (some (.v (.int k (a.tmod b)),[.b c',.i b],[.b c,.i b'])) none
  | _,_=>none)
 | .binOp .shl _ x y _,.ge c' b=>(match pevc σ x,pevc σ y with
  | .v (.int k a),.v (.int _ b')=>some (.v (.int k (ishl k a b)),[.b c',.i b],[.b c,.i b'])
  | _,_=>none)
 | .binOp .shr _ x y _,.ge c' b=>(match pevc σ x,pevc σ y with
  | .v (.int k a),.v (.int _ b')=>some (.v (.int k (ishr k a b)),[.b c',.i b],[.b c,.i b'])
  | _,_=>none)
 | .binOp .add _ x y _,.ct c' s u z=>(match pevc σ x,pevc σ y with
  | .v (.string s'),.v (.string u')=>some (.v (.string z),[.b c',.s s,.s u],[.b c,.s s',.s u'])
  | _,_=>none)
 | .binOp .eql t x y _,.eq t' ks=>(match pevc σ x,pevc σ y with
  | .agg cs,.agg ds=>(match unV cs,unV ds with
   | some xs,some ys=>(match eqk ks xs ys with | some r=>some (.v (.bool r),[.n t'],[.n t]) | none=>none)
   | _,_=>none)
  | _,_=>none)
 | .binOp .neq t x y _,.eq t' ks=>(match pevc σ x,pevc σ y with
  | .agg cs,.agg ds=>(match unV cs,unV ds with
   | some xs,some ys=>(match eqk ks xs ys with | some r=>some (.v (.bool !r),[.n t'],[.n t]) | none=>none)
   | _,_=>none)
  | _,_=>none)
 | .slice t x lo hi none,f=>sliceX σ c t (pevc σ x) lo hi f
 | .typeAssert x _ T true,.ta T' p r=>(match und T with
  | some d=>cond (!isIf d&&(inf T).isSome) (some (r,[.n T',.p p],[.n T,.p (pevc σ x)])) none
  | none=>none)
 | _,_=>none
section
variable {o:Oper} {σ:PEnv} {ρ:List PRes} {x y:Operand} {t:Nat} {k:IntKind} {a b:Int} {css zss:List (List PV)}
theorem xkk {E sz by' mm:Nat} {z:Value} {cs:List PV} (ho:o.op=.indexAddr t x y) (hu:und t=some (.slice E)) (hi:inf E=some (z,sz,by')) (hw:cs.length=sz) (hx:pevc σ x=.slc mm css) (hy:pevc σ y=.v (.int k a)) (hm:idx css a=some cs):POpQ true o σ ρ (.ref cs 0):=fun κ σ' ρ' g hs hrr=>by
 obtain ⟨h0,hcs⟩:=yly hm
 have h:=hs.ev x
 rw [hx] at h
 generalize he:ev σ' x=w at h
 cases h with
 | slc hsl hb h1 hss =>
  rename_i ad cp sz' dss
  obtain ⟨ds,hd,hds⟩:=hss.get hcs
  have hlt:a.toNat<mm:=by rw [← hsl.len];exact (List.getElem?_eq_some_iff.1 hd).1
  obtain ⟨bb,off,ha,hsh⟩:=hsl.at_ (by omega)
  have hwid:sz'=sz:=by
   have e1:=hsl.wid ds (List.mem_of_getElem? hd)
   have e2:=hds.len
   omega
  subst hwid
  have h2:=ytq (c:=true) (ρ:=ρ') (κ:=κ) (j:=a.toNat) ho hu hi (.p (by rw [he,ha])) (.p (hs.v1 hy)) (fun _=>by omega) (fun _=>hlt)
  exact ⟨_,fun _=>by have:=Rp.ref (k:=0) (hsh _ _ hd) (h1 ds (List.mem_of_getElem? hd)) hds;rwa [Nat.add_zero] at this,h2⟩
theorem xfy {κ:Kr} {sz:Nat}:∀ {css:List (List PV)} {dss:List (List Value)},(∀ cs∈css,cs.length=sz)→Rpss κ css dss→∀ ds∈dss,ds.length=sz
 | _,_,_,.nil,ds,hd=>by cases hd
 | _,_,hw,.cons h hs,ds,hd=>by
  rcases List.mem_cons.1 hd with rfl | hd
  ·rw [← h.len];exact hw _ (by simp)
  exact xfy (fun c hc=>hw c (by simp [hc])) hs ds hd
theorem xhq {E sz by' mm:Nat} {z:Value} (ho:o.op=.slice t x none (some y) none) (hu:und t=some (.slice E)) (hi:inf E=some (z,sz,by')) (hx:pevc σ x=.slc mm css) (hy:pevc σ y=.v (.int k b)) (hm:sub css 0 b=some zss):POpQ true o σ ρ (.slc zss.length zss):=fun κ σ' ρ' g hs hrr=>by
 obtain ⟨⟨h0,h1,h2⟩,rfl⟩:=yhm hm
 have h:=hs.ev x
 rw [hx] at h
 generalize he:ev σ' x=w at h
 cases h with
 | slc hsl hb ho1 hss =>
  rename_i ad cp sz' dss
  have hl:css.length=mm:=by rw [← hsl.len,← hss.len]
  have hcap:=hsl.cap
  have hzl:((css.take b.toNat).drop (0:Int).toNat).length=b.toNat:=by simp;omega
  rw [hzl]
  refine ⟨.slice ad b.toNat cp,fun _=>?_,yso (c:=true) (k:=b.toNat) ho hu hi (.p he) (.p (hs.v1 hy)) (fun _=>by omega) (fun _=>by omega)⟩
  have:=Rp.slc (hsl.take (m:=b.toNat) (by omega)) (by omega) (xfv ho1 fun d hd=>List.mem_of_mem_take hd) (hss.take b.toNat)
  simpa using this
theorem xhr {E sz by' mm:Nat} {z:Value} (ho:o.op=.slice t x (some y) none none) (hu:und t=some (.slice E)) (hi:inf E=some (z,sz,by')) (hw:∀ cs∈css,cs.length=sz) (hx:pevc σ x=.slc mm css) (hy:pevc σ y=.v (.int k a)) (hm:sub css a (mm:Int)=some zss):POpQ true o σ ρ (.slc zss.length zss):=fun κ σ' ρ' g hs hrr=>by
 obtain ⟨⟨h0,h1,h2⟩,rfl⟩:=yhm hm
 have h:=hs.ev x
 rw [hx] at h
 generalize he:ev σ' x=w at h
 cases h with
 | slc hsl hb ho1 hss =>
  rename_i ad cp sz' dss
  have hl:css.length=mm:=by rw [← hsl.len,← hss.len]
  have hcap:=hsl.cap
  have hq:=yxq (c:=true) (ρ:=ρ') (κ:=κ) (k:=a.toNat) ho hu hi (.p he) (.p (hs.v1 hy)) (fun _=>by omega) (fun _=>by omega)
  have hd:=hsl.dropT (m:=a.toNat) (by omega)
  have e2:List.drop a.toNat (List.take (mm:Int).toNat css)=css.drop a.toNat:=by rw [Int.toNat_natCast,← hl,List.take_length]
  rw [e2]
  have hzl:(css.drop a.toNat).length=mm - a.toNat:=by simp [hl]
  rw [hzl]
  by_cases hz:mm - a.toNat=0
  ·refine ⟨_,fun _=>?_,hq⟩
   have e3:css.drop a.toNat=[]:=List.drop_of_length_le (by omega)
   rw [e3]
   exact .slc (sz:=sz) (css:=[]) ⟨by simp [hz],by omega,by simp,fun h=>absurd h (by omega)⟩ (by omega) (fun _ h=>by cases h) .nil
  have hszz:sz'=sz:=by
   have hlen:=hsl.len
   match dss,hlen with
   | [],hlen=>simp only [List.length_nil] at hlen;omega
   | d::ds,_=>rw [← hsl.wid d (by simp),xfy hw hss d (by simp)]
  subst hszz
  exact ⟨_,fun _=>Rp.slc hd (by omega) (xfv ho1 fun d hd=>List.mem_of_mem_drop hd) (hss.drop a.toNat),hq⟩
end
theorem xkl {o:Oper} {σ:PEnv} {ρ:List PRes} {c:Bool} {x:Operand} {t:Nat} {lo hi:Option Operand} {f:Fct} {p:PV} {L R:List Eqn} (ho:o.op=.slice t x lo hi none) (h:sliceX σ c t (pevc σ x) lo hi f=some (p,L,R)) (he:L=R) (hf:f.ok) (hc:c=true):POpQ true o σ ρ p:=by
 unfold sliceX at h
 split at h
 ·rename_i c' css l hh zss m sz
  split at h
  ·rename_i E mm css' hu hx
   split at h
   ·rename_i z sz' by' hi'
    split at h
    ·rename_i y
     split at h
     ·rename_i k b hy
      simp only [osj,Prod.mk.injEq] at h;obtain ⟨rfl,rfl,rfl⟩:=h
      simp only [List.cons.injEq,Eqn.b.injEq,Eqn.q.injEq,Eqn.i.injEq,Eqn.n.injEq,and_true] at he
      obtain ⟨rfl,rfl,rfl,rfl,rfl⟩:=he
      obtain ⟨h1,rfl,h3⟩:=hf
      exact xhq ho hu hi' hx hy (h1 hc)
     cases h
    ·rename_i y
     split at h
     ·rename_i k b hy
      simp only [osj,Prod.mk.injEq] at h;obtain ⟨rfl,rfl,rfl⟩:=h
      simp only [List.cons.injEq,Eqn.b.injEq,Eqn.q.injEq,Eqn.i.injEq,Eqn.n.injEq,and_true] at he
      obtain ⟨rfl,rfl,rfl,rfl,rfl⟩:=he
      obtain ⟨h1,rfl,h3⟩:=hf
      exact xhr ho hu hi' h3 hx hy (h1 hc)
     cases h
    cases h
   cases h
  cases h
 ·rename_i c' s l hh z
  split at h
  ·rename_i s' hu hx
   split at h
   ·split at h
    ·rename_i hy
     simp only [osj,Prod.mk.injEq] at h;obtain ⟨rfl,rfl,rfl⟩:=h
     simp only [List.cons.injEq,Eqn.b.injEq,Eqn.s.injEq,Eqn.i.injEq,and_true] at he
     obtain ⟨rfl,rfl,rfl,rfl⟩:=he
     exact xhk ho hu (.p hx) (.p hy) (fun _=>hf hc)
    cases h
   ·split at h
    ·rename_i hy
     simp only [osj,Prod.mk.injEq] at h;obtain ⟨rfl,rfl,rfl⟩:=h
     simp only [List.cons.injEq,Eqn.b.injEq,Eqn.s.injEq,Eqn.i.injEq,and_true] at he
     obtain ⟨rfl,rfl,rfl,rfl⟩:=he
     exact xhl ho hu (.p hx) (.p hy) (fun _=>hf hc)
    cases h
   ·split at h
    ·rename_i hy hy2
     simp only [osj,Prod.mk.injEq] at h;obtain ⟨rfl,rfl,rfl⟩:=h
     simp only [List.cons.injEq,Eqn.b.injEq,Eqn.s.injEq,Eqn.i.injEq,and_true] at he
     obtain ⟨rfl,rfl,rfl,rfl⟩:=he
     exact xea ho hu (.p hx) (.p hy) (.p hy2) (fun _=>hf hc)
    cases h
   cases h
  cases h
 cases h
theorem factx_ok {o:Oper} {σ:PEnv} {ρ:List PRes} {c:Bool} {f:Fct} {p:PV} {L R:List Eqn} (h:factx σ c o.op f=some (p,L,R)) (he:L=R) (hf:f.ok) (hc:c=true):POpQ true o σ ρ p:=by
 generalize ho:o.op=op at h
 unfold factx at h
 split at h
 ·split at h
  ·rename_i hu hx hy
   split at h
   ·rename_i hi
    simp only [osj,Prod.mk.injEq] at h;obtain ⟨rfl,rfl,rfl⟩:=h
    simp only [List.cons.injEq,Eqn.b.injEq,Eqn.q.injEq,Eqn.i.injEq,Eqn.n.injEq,and_true] at he
    obtain ⟨rfl,rfl,rfl,h4⟩:=he
    exact xkk ho hu hi h4 hx hy (hf hc)
   cases h
  cases h
 ·split at h
  ·rename_i hu hx hy
   simp only [osj,Prod.mk.injEq] at h;obtain ⟨rfl,rfl,rfl⟩:=h
   simp only [List.cons.injEq,Eqn.b.injEq,Eqn.s.injEq,Eqn.i.injEq,and_true] at he
   obtain ⟨rfl,rfl,rfl⟩:=he
   exact xjx ho hu (.p hx) (.p hy) (fun _=>hf hc)
  cases h
 ·split at h
  ·rename_i k a k' b' hx hy
   cases hk:Nat.beq (ikn k) (ikn k')
   ·rw [hk] at h;cases h
   rw [hk] at h;have:=yze hk;subst this
   simp only [cot,osj,Prod.mk.injEq] at h;obtain ⟨rfl,rfl,rfl⟩:=h
   simp only [List.cons.injEq,Eqn.b.injEq,Eqn.i.injEq,and_true] at he
   obtain ⟨rfl,rfl⟩:=he
   exact pq_quo ho (.p hx) (.p hy) (fun _=>hf hc)
  cases h
 ·split at h
  ·rename_i k a k' b' hx hy
   cases hk:Nat.beq (ikn k) (ikn k')
   ·rw [hk] at h;cases h
   rw [hk] at h;have:=yze hk;subst this
   simp only [cot,osj,Prod.mk.injEq] at h;obtain ⟨rfl,rfl,rfl⟩:=h
   simp only [List.cons.injEq,Eqn.b.injEq,Eqn.i.injEq,and_true] at he
   obtain ⟨rfl,rfl⟩:=he
   exact pq_rem ho (.p hx) (.p hy) (fun _=>hf hc)
  cases h
 ·split at h
  ·rename_i hx hy
   simp only [osj,Prod.mk.injEq] at h;obtain ⟨rfl,rfl,rfl⟩:=h
   simp only [List.cons.injEq,Eqn.b.injEq,Eqn.i.injEq,and_true] at he
   obtain ⟨rfl,rfl⟩:=he
   exact yza ho (.p hx) (.p hy) (fun _=>hf hc) rfl
  cases h
 ·split at h
  ·rename_i hx hy
   simp only [osj,Prod.mk.injEq] at h;obtain ⟨rfl,rfl,rfl⟩:=h
   simp only [List.cons.injEq,Eqn.b.injEq,Eqn.i.injEq,and_true] at he
   obtain ⟨rfl,rfl⟩:=he
   exact yza ho (.p hx) (.p hy) (fun _=>hf hc) rfl
  cases h
 ·split at h
  ·rename_i hx hy
   simp only [osj,Prod.mk.injEq] at h;obtain ⟨rfl,rfl,rfl⟩:=h
   simp only [List.cons.injEq,Eqn.b.injEq,Eqn.s.injEq,and_true] at he
   obtain ⟨rfl,rfl,rfl⟩:=he
   exact pq_catT ho (.p hx) (.p hy) (fun _=>hf hc)
  cases h
 ·split at h
  ·rename_i hx hy
   split at h
   ·rename_i h5 h6
    split at h
    ·rename_i r hr
     simp only [osj,Prod.mk.injEq] at h;obtain ⟨rfl,rfl,rfl⟩:=h
     simp only [List.cons.injEq,Eqn.n.injEq,and_true] at he
     subst he
     exact xkd _ ho hf.h1 hf.h2 hf.h3 hf.h4 (.p hx) (.p hy) h5 h6 hr rfl
    cases h
   cases h
  cases h
 ·split at h
  ·rename_i hx hy
   split at h
   ·rename_i h5 h6
    split at h
    ·rename_i r hr
     simp only [osj,Prod.mk.injEq] at h;obtain ⟨rfl,rfl,rfl⟩:=h
     simp only [List.cons.injEq,Eqn.n.injEq,and_true] at he
     subst he
     exact xkd _ ho hf.h1 hf.h2 hf.h3 hf.h4 (.p hx) (.p hy) h5 h6 hr rfl
    cases h
   cases h
  cases h
 ·exact xkl ho h he hf hc
 ·split at h
  ·rename_i d hu
   cases hb:(!isIf d&&(inf _).isSome)
   ·rw [hb] at h;cases h
   rw [hb] at h
   simp only [cot,osj,Prod.mk.injEq] at h;obtain ⟨rfl,rfl,rfl⟩:=h
   simp only [List.cons.injEq,Eqn.n.injEq,Eqn.p.injEq,and_true] at he
   obtain ⟨rfl,h2⟩:=he
   simp only [Bool.and_eq_true,Bool.not_eq_true'] at hb
   exact pq_ta ho hu hb.1 hb.2 h2.symm hf
  cases h
 cases h
def gL (l:List (Bool×Bool)):List Eqn:=l.map fun z=>.b z.1
def gR (l:List (Bool×Bool)):List Eqn:=l.map fun z=>.b z.2
theorem gLR:∀ {l:List (Bool×Bool)},gL l=gR l→AllEq l
 | [],_=>AllEq.nil
 | (a,b)::l,h=>by
  simp only [gL,gR,List.map_cons,List.cons.injEq,Eqn.b.injEq] at h
  have:=gLR (l:=l) h.2
  unfold AllEq at this ⊢
  simp only [List.map_cons,h.1,this]
theorem gLen {l:List (Bool×Bool)}:(gL l).length=(gR l).length:=by simp [gL,gR]
def isCall:Op→Bool
 | .call ⟨.value _,_,_⟩=>true
 | .call ⟨.invoke _ _,_,_⟩=>true
 | _=>false
abbrev StepO:=Option (PV×Bool×List Eqn×List Eqn)
def quietx (σ:PEnv) (G:List (Nat×GE)) (ρ:List PRes) (gs:List Bool) (at_:Nat) (op:Op):StepO :=
 match qx (genv σ G (otmps op.operands.toList) gs) ρ at_ op with
 | some (p,none)=>some (p,false,gL (geqs G gs (otmps op.operands.toList)),gR (geqs G gs (otmps op.operands.toList)))
 | some (p,some (b,b'))=>some (p,true,gL (geqs G gs (otmps op.operands.toList))++[.n b],gR (geqs G gs (otmps op.operands.toList))++[.n b'])
 | none=>none
def callx (σ:PEnv) (G:List (Nat×GE)) (gs:List Bool) (op:Op) (cal:Operand) (ags:List Operand):Fct→StepO
 | .cl c f pargs r=>(match cal with
  | .func f'=>some (r,false,gL (geqs G gs (otmps op.operands.toList))++[.b c,.n f,.l pargs],gR (geqs G gs (otmps op.operands.toList))++[.b (gs.headD true),.n f',.l (ags.map (pevc (genv σ G (otmps op.operands.toList) gs)))])
  | _=>none)
 | .cv c pf pargs r=>some (r,false,gL (geqs G gs (otmps op.operands.toList))++[.b c,.p pf,.l pargs],gR (geqs G gs (otmps op.operands.toList))++[.b (gs.headD true),.p (pevc (genv σ G (otmps op.operands.toList) gs) cal),.l (ags.map (pevc (genv σ G (otmps op.operands.toList) gs)))])
 | _=>none
def invx (σ:PEnv) (G:List (Nat×GE)) (gs:List Bool) (op:Op) (x:Operand) (name:String) (ags:List Operand):Fct→StepO
 | .ci c p name' pargs r=>some (r,false,gL (geqs G gs (otmps op.operands.toList))++[.b c,.p p,.m name',.l pargs],gR (geqs G gs (otmps op.operands.toList))++[.b (gs.headD true),.p (pevc (genv σ G (otmps op.operands.toList) gs) x),.m name,.l (ags.map (pevc (genv σ G (otmps op.operands.toList) gs)))])
 | _=>none
def stepx (σ:PEnv) (G:List (Nat×GE)) (ρ:List PRes) (gs:List Bool) (at_:Nat) (fo:Option Fct) (op:Op):StepO :=
 match fo with
 | some f=>(match op with
  | .call ⟨.value cal,⟨ags⟩,ts⟩=>callx σ G gs (.call ⟨.value cal,⟨ags⟩,ts⟩) cal ags f
  | .call ⟨.invoke x name,⟨ags⟩,ts⟩=>invx σ G gs (.call ⟨.invoke x name,⟨ags⟩,ts⟩) x name ags f
  | op=>(match factx (genv σ G (otmps op.operands.toList) gs) (gs.headD true) op f with
   | some (p,L,R)=>some (p,false,gL (geqs G gs (otmps op.operands.toList))++L,gR (geqs G gs (otmps op.operands.toList))++R)
   | none=>none))
 | none=>(match op with
  | .pick cc a b=>(match pickx σ G gs cc a b with | some (p,l)=>some (p,false,gL l,gR l) | none=>none)
  | op=>quietx σ G ρ gs at_ op)
def POpG (c:Bool) (o:Oper) (σ:PEnv) (r:PV):Prop:=∀ κ σ' ρ' (KK:Value→Kr→Prop),GOK κ→Sim κ σ σ'→(∀ v κ',Kle κ κ'→(c=true→Rp κ' r v)→KK v κ')→OpG c o σ' ρ' κ KK
theorem xkm {a b l m:List Eqn} (h:a++l=b++m) (hl:a.length=b.length):a=b∧l=m:=List.append_inj h hl
theorem popg_cl {o:Oper} {σ:PEnv} {G:List (Nat×GE)} {gs:List Bool} {ts:List Nat} {f:Nat} {ags:List Operand} {at_:Array Nat} {pargs:List PV} {r:PV} (ho:o.op=.call { callee:=.value (.func f),args:=ags.toArray,argTypes:=at_ }) (hi:GInv σ G) (ha:AllEq (geqs G gs ts)) (hk:StackOk gs) (hp:pargs=ags.map (pevc (genv σ G ts gs))) (hc:gs.headD true=true→PF f pargs r):POpG (gs.headD true) o σ r:=fun κ σ' ρ' KK g hs h =>
 xfh ho (fun _=>rfl) (fun hct=>hc hct κ _ g (by rw [hp];exact ykq (ytw hs hi ha hk hct) ags)) h
theorem popg_cv {o:Oper} {σ:PEnv} {G:List (Nat×GE)} {gs:List Bool} {ts:List Nat} {x:Operand} {ags:List Operand} {at_:Array Nat} {pf:PV} {pargs:List PV} {r:PV} (ho:o.op=.call { callee:=.value x,args:=ags.toArray,argTypes:=at_ }) (hi:GInv σ G) (ha:AllEq (geqs G gs ts)) (hk:StackOk gs) (hx:pf=pevc (genv σ G ts gs) x) (hp:pargs=ags.map (pevc (genv σ G ts gs))) (hc:gs.headD true=true→PFV pf pargs r):POpG (gs.headD true) o σ r:=fun κ σ' ρ' KK g hs h=>by
 refine ⟨fun hct=>?_,fun hcf=>h undef κ (.refl _) fun h=>by rw [hcf] at h;cases h⟩
 have hs':=ytw hs hi ha hk hct
 obtain ⟨f,first,cap,h1,h2⟩:=hc hct κ _ _ g (by rw [hx];exact hs'.ev x) (by rw [hp];exact ykq hs' ags)
 exact xjg ho h1 rfl h2 fun v κ' hk hv=>⟨rfl,h v κ' hk fun _=>hv⟩
theorem popg_ci {o:Oper} {σ:PEnv} {G:List (Nat×GE)} {gs:List Bool} {ts:List Nat} {x:Operand} {name:String} {ags:List Operand} {at_:Array Nat} {p:PV} {pargs:List PV} {r:PV} (ho:o.op=.call { callee:=.invoke x name,args:=ags.toArray,argTypes:=at_ }) (hi:GInv σ G) (ha:AllEq (geqs G gs ts)) (hk:StackOk gs) (hx:p=pevc (genv σ G ts gs) x) (hp:pargs=ags.map (pevc (genv σ G ts gs))) (hc:gs.headD true=true→PFI p name pargs r):POpG (gs.headD true) o σ r:=fun κ σ' ρ' KK g hs h=>by
 refine ⟨fun hct=>?_,fun hcf=>h undef κ (.refl _) fun h=>by rw [hcf] at h;cases h⟩
 have hs':=ytw hs hi ha hk hct
 obtain ⟨t,q,f,e1,hm,hf⟩:=hc hct
 have hv:=hs'.ev x
 rw [← hx,e1] at hv
 generalize he:ev σ' x=w at hv
 cases hv with
 | ifc hv=>exact yxw ho he hm (hf κ _ g (.cons hv (by rw [hp];exact ykq hs' ags))) fun v κ' hk hv=>⟨rfl,h v κ' hk fun _=>hv⟩
theorem xkn {o:Oper} {σ:PEnv} {G:List (Nat×GE)} {ρ:List PRes} {gs:List Bool} {k:Nat} {p:PV} {u:Bool} {L R:List Eqn} (hi:GInv σ G) (hk:StackOk gs) (h:quietx σ G ρ gs k o.op=some (p,u,L,R)) (he:L=R):POpQ (gs.headD true) o σ ρ p:=by
 unfold quietx at h
 split at h
 ·rename_i p' hq
  simp only [osj,Prod.mk.injEq] at h;obtain ⟨rfl,_,rfl,rfl⟩:=h
  exact yuw (fun _=>qx_ok hq (fun _ _ e=>by cases e)) hi (gLR he) hk
 ·rename_i p' b b' hq
  simp only [osj,Prod.mk.injEq] at h;obtain ⟨rfl,_,rfl,rfl⟩:=h
  obtain ⟨h1,h2⟩:=xkm he gLen
  simp only [List.cons.injEq,Eqn.n.injEq,and_true] at h2
  exact yuw (fun _=>qx_ok hq (fun _ _ e=>by simp only [osj,Prod.mk.injEq] at e;rw [← e.1,← e.2];exact h2)) hi (gLR h1) hk
 cases h
theorem callx_ok {o:Oper} {σ:PEnv} {G:List (Nat×GE)} {gs:List Bool} {cal:Operand} {ags:List Operand} {ts:Array Nat} {f:Fct} {p:PV} {u:Bool} {L R:List Eqn} (ho:o.op=.call ⟨.value cal,⟨ags⟩,ts⟩) (hi:GInv σ G) (hk:StackOk gs) (h:callx σ G gs (.call ⟨.value cal,⟨ags⟩,ts⟩) cal ags f=some (p,u,L,R)) (he:L=R) (hf:f.ok):POpG (gs.headD true) o σ p:=by
 unfold callx at h
 split at h
 ·split at h
  ·simp only [osj,Prod.mk.injEq] at h;obtain ⟨rfl,_,rfl,rfl⟩:=h
   obtain ⟨h1,h2⟩:=xkm he gLen
   simp only [List.cons.injEq,Eqn.n.injEq,Eqn.b.injEq,Eqn.l.injEq,and_true] at h2
   obtain ⟨h3,h4,h5⟩:=h2
   subst h4
   exact popg_cl ho hi (gLR h1) hk h5 (fun hc=>hf (by rw [h3];exact hc))
  cases h
 ·simp only [osj,Prod.mk.injEq] at h;obtain ⟨rfl,_,rfl,rfl⟩:=h
  obtain ⟨h1,h2⟩:=xkm he gLen
  simp only [List.cons.injEq,Eqn.p.injEq,Eqn.b.injEq,Eqn.l.injEq,and_true] at h2
  obtain ⟨h3,h4,h5⟩:=h2
  exact popg_cv ho hi (gLR h1) hk h4 h5 (fun hc=>hf (by rw [h3];exact hc))
 cases h
theorem invx_ok {o:Oper} {σ:PEnv} {G:List (Nat×GE)} {gs:List Bool} {x:Operand} {name:String} {ags:List Operand} {ts:Array Nat} {f:Fct} {p:PV} {u:Bool} {L R:List Eqn} (ho:o.op=.call ⟨.invoke x name,⟨ags⟩,ts⟩) (hi:GInv σ G) (hk:StackOk gs) (h:invx σ G gs (.call ⟨.invoke x name,⟨ags⟩,ts⟩) x name ags f=some (p,u,L,R)) (he:L=R) (hf:f.ok):POpG (gs.headD true) o σ p:=by
 unfold invx at h
 split at h
 ·simp only [osj,Prod.mk.injEq] at h;obtain ⟨rfl,_,rfl,rfl⟩:=h
  obtain ⟨h1,h2⟩:=xkm he gLen
  simp only [List.cons.injEq,Eqn.p.injEq,Eqn.b.injEq,Eqn.l.injEq,Eqn.m.injEq,and_true] at h2
  obtain ⟨h3,h4,h5,h6⟩:=h2
  subst h5
  exact popg_ci ho hi (gLR h1) hk h4 h6 (fun hc=>hf (by rw [h3];exact hc))
 cases h
theorem stepx_ok {o:Oper} {σ:PEnv} {G:List (Nat×GE)} {ρ:List PRes} {gs:List Bool} {k:Nat} {fo:Option Fct} {p:PV} {u:Bool} {L R:List Eqn} (hi:GInv σ G) (hk:StackOk gs) (h:stepx σ G ρ gs k fo o.op=some (p,u,L,R)) (he:L=R) (hf:∀ f,fo=some f→f.ok):(isCall o.op=false∧POpQ (gs.headD true) o σ ρ p)∨(isCall o.op=true∧POpG (gs.headD true) o σ p):=by
 unfold stepx at h
 split at h
 ·rename_i f
  split at h
  ·rename_i cal ags ts ho
   exact .inr ⟨by rw [ho];rfl,callx_ok ho hi hk h he (hf f rfl)⟩
  ·rename_i x name ags ts ho
   exact .inr ⟨by rw [ho];rfl,invx_ok ho hi hk h he (hf f rfl)⟩
  rename_i hnc hnc2
  split at h
  ·rename_i p' L' R' hq
   simp only [osj,Prod.mk.injEq] at h;obtain ⟨rfl,_,rfl,rfl⟩:=h
   obtain ⟨h1,h2⟩:=xkm he gLen
   refine .inl ⟨?_,yuw (fun hc=>factx_ok hq h2 (hf f rfl) hc) hi (gLR h1) hk⟩
   unfold isCall
   split
   ·rename_i cal ags ts ho;exact absurd ho (hnc cal ags.toList ts)
   ·rename_i x name ags ts ho;exact absurd ho (hnc2 x name ags.toList ts)
   rfl
  cases h
 split at h
 ·rename_i cc a b ho
  split at h
  ·rename_i p' l' hp
   simp only [osj,Prod.mk.injEq] at h;obtain ⟨rfl,_,rfl,rfl⟩:=h
   exact .inl ⟨by rw [ho];rfl,pickx_ok ho hi hk hp (gLR he)⟩
  cases h
 cases hc:isCall o.op
 ·exact .inl ⟨rfl,xkn hi hk h he⟩
 exfalso
 unfold isCall at hc
 split at hc
 ·rename_i ho
  rw [ho] at h
  unfold quietx at h
  simp only [qx] at h
  cases h
 ·rename_i ho
  rw [ho] at h
  unfold quietx at h
  simp only [qx] at h
  cases h
 cases hc
def gput (σ:PEnv) (G:List (Nat×GE)) (d:Nat) (gs:List Bool) (p:PV):PEnv×List (Nat×GE):=match gs with
 | []=>(pupd σ d p,gdel d G)
 | c::gs=>(pupd σ d (pgv c p),(d,⟨c::gs,p⟩)::G)
theorem xeb {d t:Nat} {e:GE}:∀ {G:List (Nat×GE)},gl t (gdel d G)=some e→t≠d∧gl t G=some e
 | [],h=>by cases h
 | (k,e')::l,h=>by
  simp only [gdel] at h
  cases hd:Nat.beq d k
  ·rw [hd] at h;simp only [cof,gl] at h ⊢
   cases ht:Nat.beq t k
   ·rw [ht] at h;exact xeb h
   rw [ht] at h
   refine ⟨fun e=>?_,h⟩
   rw [Nat.eq_of_beq_eq_true ht] at e;rw [e] at hd;simp at hd
  rw [hd] at h;simp only [cot] at h
  obtain ⟨h1,h2⟩:=xeb h
  refine ⟨h1,?_⟩
  simp only [gl]
  have:Nat.beq t k=false:=by cases e:Nat.beq t k;rfl;exact absurd ((Nat.eq_of_beq_eq_true e).trans (Nat.eq_of_beq_eq_true hd).symm) h1
  rw [this];exact h2
theorem xec {σ:PEnv} {d t:Nat} {p:PV} (h:t≠d):pupd σ d p t=σ t:=by
 unfold pupd
 have:Nat.beq t d=false:=by cases e:Nat.beq t d;rfl;exact absurd (Nat.eq_of_beq_eq_true e) h
 rw [this];rfl
theorem yzg {σ:PEnv} {G:List (Nat×GE)} {d:Nat} {gs:List Bool} {p:PV} (hi:GInv σ G) (hk:StackOk gs):GInv (gput σ G d gs p).1 (gput σ G d gs p).2:=by
 unfold gput
 split
 ·intro t e h
  obtain ⟨h1,h2⟩:=xeb h
  simp only [xec h1]
  exact hi t e h2
 rename_i c gs
 intro t e h
 simp only [gl] at h
 cases ht:Nat.beq t d
 ·rw [ht] at h
  have hne:t≠d:=fun e=>by rw [e] at ht;simp at ht
  simp only [xec hne]
  exact hi t e h
 rw [ht] at h
 simp only [cot,osj] at h;subst h
 have:=Nat.eq_of_beq_eq_true ht;subst this
 refine ⟨?_,hk,by simp⟩
 simp only [pupd,Nat.beq_refl,cot,List.headD_cons]
theorem yzh {σ:PEnv} {G:List (Nat×GE)} {d:Nat} {gs:List Bool} {p:PV}:(gput σ G d gs p).1=pupd σ d (pgv (gs.headD true) p):=by
 unfold gput;split
 ·rw [List.headD_nil,ynu]
 rfl
structure RunR where
 σ:PEnv
 L:List Eqn
 R:List Eqn
def fhead (i:Nat):List (Nat×Fct)→Option Fct
 | (k,f)::_=>cond (Nat.beq k i) (some f) none
 | []=>none
def runQ (n:Nat) (ops:Array Oper) (ρ:List PRes):List Oper→Nat→List Nat→List (Nat×Fct)→PEnv→List (Nat×GE)→Option RunR
 | [],_,_,_,σ,_=>some ⟨σ,[],[]⟩
 | o::l,i,H,F,σ,G=>match o.dst with
  | some d=>cond (Nat.blt d n) (match gstack ops σ G o.guard with
   | some gs=>match stepx σ G ρ gs (H.headD 0) (fhead i F) o.op with
    | some (p,u,L,R)=>match runQ n ops ρ l (i+1) (cond u H.tail H) (match fhead i F with | some _=>F.tail | none=>F) (gput σ G d gs p).1 (gput σ G d gs p).2 with
     | some r=>cond (Nat.beq L.length R.length) (some ⟨r.σ,L++r.L,R++r.R⟩) none
     | none=>none
    | none=>none
   | none=>none) none
  | none=>none
theorem fhead_ok {i:Nat} {F:List (Nat×Fct)} (h:FOk F):∀ f,fhead i F=some f→f.ok:=fun f hf=>by
 cases F with
 | nil=>cases hf
 | cons a l =>
  obtain ⟨k,g⟩:=a
  simp only [fhead] at hf
  cases hk:Nat.beq k i
  ·rw [hk] at hf;cases hf
  rw [hk] at hf;simp only [cot,osj] at hf;subst hf;exact h.1
theorem ftail_ok {F:List (Nat×Fct)} (h:FOk F) (b:Option Fct):FOk (match b with | some _=>F.tail | none=>F):=by
 cases b with
 | none=>exact h
 | some f=>cases F with
  | nil=>exact h
  | cons a l=>exact h.2
theorem yzi {n:Nat} {ops:Array Oper} {ρ:List PRes} {o:Oper} {l:List Oper} {i:Nat} {H:List Nat} {F:List (Nat×Fct)} {σ:PEnv} {G:List (Nat×GE)} {r:RunR} (h:runQ n ops ρ (o::l) i H F σ G=some r) (he:r.L=r.R) (hF:FOk F) (hi:GInv σ G) :
    ∃ d gs p H' F' r',o.dst=some d∧Nat.blt d n=true∧PGuardIs ops σ o (gs.headD true)∧StackOk gs∧((isCall o.op=false∧POpQ (gs.headD true) o σ ρ p)∨(isCall o.op=true∧POpG (gs.headD true) o σ p))∧runQ n ops ρ l (i+1) H' F' (gput σ G d gs p).1 (gput σ G d gs p).2=some r'∧r'.σ=r.σ∧r'.L=r'.R∧FOk F':=by
  simp only [runQ] at h
  split at h
  · rename_i d hd
    cases hlt:Nat.blt d n
    · rw [hlt] at h;cases h
    rw [hlt] at h;simp only [cot] at h
    split at h
    · rename_i gs hgs
      split at h
      · rename_i p u L R hst
        split at h
        · rename_i r' hr
          cases hlen:Nat.beq L.length R.length
          · rw [hlen] at h;cases h
          rw [hlen] at h;simp only [cot,osj] at h;subst h
          obtain ⟨h1,h2⟩:=List.append_inj he (Nat.eq_of_beq_eq_true hlen)
          obtain ⟨hg,hk⟩:=xkh hi hgs
          exact ⟨d,gs,p,_,_,r',hd,hlt,hg,hk,stepx_ok hi hk hst h1 (fhead_ok hF),hr,rfl,h2,ftail_ok hF _⟩
        cases h
      cases h
    cases h
  cases h
theorem pwl_popg {n:Nat} {ops:Array Oper} {o:Oper} {rest:List Oper} {K:PPost} {σ:PEnv} {ρ:List PRes} {d:Nat} {c:Bool} {r:PV} (hg:PGuardIs ops σ o c) (hd:o.dst=some d) (hlt:Nat.blt d n=true) (h:POpG c o σ r) (hw:PWL n ops rest K (pupd σ d (pgv c r)) ρ):PWL n ops (o::rest) K σ ρ:=fun β κ σ' ρ' g hs hr =>
 wl_g (hg κ σ' hs) hd hlt (h κ σ' ρ' _ g hs fun v κ' hk hv=>hw β κ' _ _ (g.mono hk) ((hs.mono hk).upd (rp_gv hv)) (hr.mono hk))
theorem pwd_popg {n:Nat} {ops:Array Oper} {o:Oper} {lo:List (Nat×Oper)} {K:PPost} {σ:PEnv} {ρd ρs:List PRes} {d:Nat} {c:Bool} {r:PV} (hg:PGuardIs ops σ o c) (hd:o.dst=some d) (hlt:Nat.blt d n=true) (h:POpG c o σ r) (hw:PWD n ops K lo (pupd σ d (pgv c r)) ρd ρs):PWD n ops K ((1,o)::lo) σ ρd ρs:=fun β κ σ' rd rs g hs h1 h2 =>
 wd_g (hg κ σ' hs) hd hlt fun κ1 hk=>h κ1 σ' _ _ (g.mono hk) (hs.mono hk) fun v κ' hk' hv=>hw β κ' _ rd rs ((g.mono hk).mono hk') (((hs.mono hk).mono hk').upd (rp_gv hv)) ((h1.mono hk).mono hk') ((h2.mono hk).mono hk')
theorem xed {n:Nat} {ops:Array Oper} {rest:List Oper} {K:PPost} {ρ:List PRes}:∀ {l:List Oper} {i:Nat} {H:List Nat} {F:List (Nat×Fct)} {σ:PEnv} {G:List (Nat×GE)} {r:RunR},runQ n ops ρ l i H F σ G=some r→r.L=r.R→FOk F→GInv σ G→PWL n ops rest K r.σ ρ→PWL n ops (l++rest) K σ ρ
 | [],i,H,F,σ,G,r,h,_,_,_,hw=>by simp only [runQ,osj] at h;subst h;exact hw
 | o::l,i,H,F,σ,G,r,h,he,hF,hi,hw=>by
  obtain ⟨d,gs,p,H',F',r',h1,h2,h3,h4,h5,h6,h7,h8,h9⟩:=yzi h he hF hi
  have hrec:=xed (rest:=rest) (K:=K) h6 h8 h9 (yzg hi h4) (by rw [h7];exact hw)
  rw [yzh] at hrec
  rcases h5 with ⟨_,hq⟩ | ⟨_,hq⟩
  ·exact xaw h3 h1 h2 hq hrec
  exact pwl_popg h3 h1 h2 hq hrec
def dsOk (ks D:List Nat):List Oper→Bool
 | []=>true
 | o::l=>(match o.dst with | some d=>inn d ks||inn d D | none=>true)&&dsOk ks D l
theorem xbh {n:Nat} {ops:Array Oper} {ρ:List PRes} {ks D:List Nat}:∀ {l:List Oper} {i:Nat} {H:List Nat} {F:List (Nat×Fct)} {σ:PEnv} {G:List (Nat×GE)} {r:RunR},runQ n ops ρ l i H F σ G=some r→r.L=r.R→FOk F→GInv σ G→dsOk ks D l=true→∀ t,t ∉ ks→t ∉ D→r.σ t=σ t
 | [],i,H,F,σ,G,r,h,_,_,_,_,t,_,_=>by simp only [runQ,osj] at h;subst h;rfl
 | o::l,i,H,F,σ,G,r,h,he,hF,hi,hd,t,g1,g2=>by
  obtain ⟨d,gs,p,H',F',r',h1,h2,h3,h4,h5,h6,h7,h8,h9⟩:=yzi h he hF hi
  simp only [dsOk,Bool.and_eq_true] at hd
  rw [h1] at hd
  simp only [Bool.or_eq_true,yzf] at hd
  have hne:t≠d:=fun e=>by subst e;rcases hd.1 with h | h;exact g1 h;exact g2 h
  rw [← h7,xbh h6 h8 h9 (yzg hi h4) hd.2 t g1 g2,yzh]
  exact xec hne
abbrev RunO:=Option (List PV×List Eqn)
def runX (n:Nat) (ops:Array Oper) (ρ:List PRes) (l:List Oper) (H:List Nat) (F:List (Nat×Fct)) (σ:PEnv) (ks D:List Nat):RunO :=
 match runQ n ops ρ l 0 H F σ [] with
 | some r=>cond (dsOk ks D l) (some (ks.map r.σ,r.L)) none
 | none=>none
def runY (n:Nat) (ops:Array Oper) (ρ:List PRes) (l:List Oper) (H:List Nat) (F:List (Nat×Fct)) (σ:PEnv) (vs:List PV):RunO :=
 match runQ n ops ρ l 0 H F σ [] with
 | some r=>some (vs,r.R)
 | none=>some ([],[])
def pdel (σ:PEnv) (D:List Nat):PEnv:=fun t=>cond (inn t D) .any (σ t)
def pset (σ:PEnv) (D:List Nat) (X:List (Nat×PV)):PEnv:=pupds (pdel σ D) X
def look (t:Nat):List (Nat×PV)→Option PV
 | []=>none
 | (d,v)::l=>cond (Nat.beq t d) (some v) (look t l)
theorem yxy {σ:PEnv} {t:Nat}:∀ {X:List (Nat×PV)},pupds σ X t=(look t X).getD (σ t)
 | []=>rfl
 | (d,v)::l=>by
  simp only [pupds,pupd,look]
  cases Nat.beq t d
  ·exact yxy (X:=l)
  rfl
theorem xbi {t:Nat} {v:PV} {σ:PEnv}:∀ {X:List (Nat×PV)},look t X=some v→(X.map (·.1)).map σ=X.map (·.2)→σ t=v
 | (d,w)::l,h,e=>by
  simp only [List.map_cons,List.cons.injEq] at e
  simp only [look] at h
  cases hb:Nat.beq t d
  ·rw [hb] at h;exact xbi h e.2
  rw [hb] at h;simp only [cot,osj] at h
  rw [Nat.eq_of_beq_eq_true hb,e.1,h]
theorem xbj {t:Nat}:∀ {X:List (Nat×PV)},look t X=none→t ∉ X.map (·.1)
 | [],_=>by simp
 | (d,v)::l,h=>by
  simp only [look] at h
  cases hb:Nat.beq t d
  ·rw [hb] at h
   have:t≠d:=fun e=>by rw [e] at hb;simp at hb
   simp only [List.map_cons,List.mem_cons,not_or]
   exact ⟨this,xbj h⟩
  rw [hb] at h;cases h
def PWeak (σ σ1:PEnv):Prop:=∀ t,σ1 t=σ t∨σ1 t=.any
theorem Sim.weak {κ:Kr} {σ σ1:PEnv} {σ':Env} (h:Sim κ σ σ') (hw:PWeak σ σ1):Sim κ σ1 σ':=fun t=>by
 rcases hw t with e | e
 ·rw [e];exact h t
 rw [e];exact .any
theorem ginv0 {σ:PEnv}:GInv σ []:=fun t e h=>by cases h
theorem xee {n:Nat} {ops:Array Oper} {ρ:List PRes} {l:List Oper} {H D:List Nat} {F:List (Nat×Fct)} {σ:PEnv} {X:List (Nat×PV)} (hF:FOk F) (h:runX n ops ρ l H F σ (X.map (·.1)) D=runY n ops ρ l H F σ (X.map (·.2))):∃ r,runQ n ops ρ l 0 H F σ []=some r∧r.L=r.R∧PWeak r.σ (pset σ D X):=by
 unfold runX runY at h
 cases hr:runQ n ops ρ l 0 H F σ [] with
 | none=>rw [hr] at h;cases h
 | some r =>
  rw [hr] at h
  simp only at h
  cases hd:dsOk (X.map (·.1)) D l
  ·rw [hd] at h;cases h
  rw [hd] at h
  simp only [cot,osj,Prod.mk.injEq] at h
  obtain ⟨h1,h2⟩:=h
  refine ⟨r,rfl,h2,fun t=>?_⟩
  unfold pset
  rw [yxy]
  cases hl:look t X with
  | some v=>exact .inl (by rw [Option.getD_some,xbi hl h1])
  | none =>
   rw [Option.getD_none]
   unfold pdel
   cases hi:inn t D
   ·have h3':t ∉ D:=fun hm=>by rw [yzf.2 hm] at hi;cases hi
    exact .inl (by rw [cof,xbh hr h2 hF ginv0 hd t (xbj hl) h3'])
   exact .inr rfl
section
variable {n:Nat} {ops:Array Oper} {l:List Oper} {K:PPost} {KC:Exit→PPost} {σ:PEnv} {ρ:List PRes} {id:Nat} {F:List (Nat×Fct)}
theorem xfz {σ1:PEnv} (hw:PWeak σ σ1) (h:PWL n ops l K σ1 ρ):PWL n ops l K σ ρ:=fun β κ σ' ρ' g hs hr=>h β κ σ' ρ' g (hs.weak hw) hr
theorem yaj (k:Nat) (H D:List Nat) (X:List (Nat×PV)) (hF:FOk F) (h:runX n ops ρ (l.take k) H F σ (X.map (·.1)) D=runY n ops ρ (l.take k) H F σ (X.map (·.2))) (hw:PWL n ops (l.drop k) K (pset σ D X) ρ):PWL n ops l K σ ρ:=by
 obtain ⟨r,h1,h2,h3⟩:=xee hF h
 have:=xed h1 h2 hF ginv0 (xfz h3 hw)
 rwa [List.take_append_drop] at this
theorem yan (H D:List Nat) (X:List (Nat×PV)) (hF:FOk F) (h:runX n ops ρ l H F σ (X.map (·.1)) D=runY n ops ρ l H F σ (X.map (·.2))) (hw:K (pset σ D X) ρ):PWL n ops l K σ ρ:=by
 obtain ⟨r,h1,h2,h3⟩:=xee hF h
 have:=xed (rest:=[]) h1 h2 hF ginv0 (xfz h3 (yau (ops:=ops) hw))
 rwa [List.append_nil] at this
theorem yac (H D:List Nat) (X:List (Nat×PV)) (hF:FOk F) (h:runX n l.toArray ρ l H F σ (X.map (·.1)) D=runY n l.toArray ρ l H F σ (X.map (·.2))) (hw:KC .normal (pset σ D X) ρ):PWC n (.region id l.toArray false) KC σ ρ:=yae (yan H D X hF h hw)
end
def tagOk:List (Nat×Oper)→Bool
 | []=>true
 | (k,o)::l=>cond (isCall o.op) (Nat.beq k 1) (Nat.beq k 0)&&tagOk l
theorem xga {n:Nat} {ops:Array Oper} {rest:List (Nat×Oper)} {K:PPost} {ρd ρ:List PRes}:∀ {l:List (Nat×Oper)} {i:Nat} {H:List Nat} {F:List (Nat×Fct)} {σ:PEnv} {G:List (Nat×GE)} {r:RunR},tagOk l=true→runQ n ops ρ (l.map (·.2)) i H F σ G=some r→r.L=r.R→FOk F→GInv σ G→PWD n ops K rest r.σ ρd ρ→PWD n ops K (l++rest) σ ρd ρ
 | [],i,H,F,σ,G,r,_,h,_,_,_,hw=>by simp only [List.map_nil,runQ,osj] at h;subst h;exact hw
 | (k,o)::l,i,H,F,σ,G,r,ht,h,he,hF,hi,hw=>by
  simp only [tagOk,Bool.and_eq_true] at ht
  obtain ⟨d,gs,p,H',F',r',h1,h2,h3,h4,h5,h6,h7,h8,h9⟩:=yzi h he hF hi
  have hrec:=xga (rest:=rest) (K:=K) (ρd:=ρd) ht.2 h6 h8 h9 (yzg hi h4) (by rw [h7];exact hw)
  rw [yzh] at hrec
  rcases h5 with ⟨hc,hq⟩ | ⟨hc,hq⟩
  ·rw [hc] at ht;have:=Nat.eq_of_beq_eq_true ht.1;subst this
   exact pwd_qg h3 h1 h2 hq hrec
  rw [hc] at ht;have:=Nat.eq_of_beq_eq_true ht.1;subst this
  exact pwd_popg h3 h1 h2 hq hrec
section
variable {n:Nat} {ops:Array Oper} {l:List (Nat×Oper)} {K:PPost} {σ:PEnv} {ρd ρs:List PRes} {F:List (Nat×Fct)}
theorem pwd_weak {σ1:PEnv} (hw:PWeak σ σ1) (h:PWD n ops K l σ1 ρd ρs):PWD n ops K l σ ρd ρs:=fun β κ σ' rd rs g hs h1 h2=>h β κ σ' rd rs g (hs.weak hw) h1 h2
def runXd (n:Nat) (ops:Array Oper) (ρ:List PRes) (l:List (Nat×Oper)) (H:List Nat) (F:List (Nat×Fct)) (σ:PEnv) (ks D:List Nat):RunO:=cond (tagOk l) (runX n ops ρ (l.map (·.2)) H F σ ks D) none
theorem ycq (k:Nat) (H D:List Nat) (X:List (Nat×PV)) (hF:FOk F) (h:runXd n ops ρs (l.take k) H F σ (X.map (·.1)) D=runY n ops ρs ((l.take k).map (·.2)) H F σ (X.map (·.2))) (hw:PWD n ops K (l.drop k) (pset σ D X) ρd ρs):PWD n ops K l σ ρd ρs:=by
 unfold runXd at h
 cases ht:tagOk (l.take k)
 ·rw [ht] at h;unfold runY at h;split at h <;> cases h
 rw [ht] at h
 obtain ⟨r,h1,h2,h3⟩:=xee hF h
 have:=xga ht h1 h2 hF ginv0 (pwd_weak h3 hw)
 rwa [List.take_append_drop] at this
end
def Found (v:Value) (es:List MapEntry) (r:Option (Nat×Value)):Prop:=(r=none∧∀ e∈es,e.key≠v)∨∃ i e,r=some (i,e.val)∧es[i]?=some e∧e.key=v
structure KeyLaw (kt:Nat) (P:Value→Prop):Prop where
 chk:∀ v,P v→∀ e w,(Instr.checkKey e 10000 kt v).run Tryz.prog w=.ok () w
 find:∀ v es,P v→(∀ e∈es,P e.key)→∀ w,∃ r,(Instr.findKey kt v es).run Tryz.prog w=.ok r w∧Found v es r
 same:∀ v,P v→Instr.sameBits 10000 v v=true
def PairKey (v:Value):Prop:=∃ a b,v=.agg #[.int .i64 a,.int .i64 b]
theorem yzj {kt:Nat} {P:Value→Prop} (he:∀ v u,P v→P u→∀ w,∃ b,(Op.equal kt v u).run Tryz.prog w=.ok b w∧(b=true↔v=u)) {v:Value} (hv:P v):∀ (es:List MapEntry) (i:Nat),(∀ e∈es,P e.key)→∀ w,∃ r,(Instr.findAsking kt v es i).run Tryz.prog w=.ok r w∧((r=none∧∀ e∈es,e.key≠v)∨∃ j e,r=some (i+j,e.val)∧es[j]?=some e∧e.key=v):=by
 intro es
 induction es with
 | nil=>intro i _ w;exact ⟨none,by simp [Instr.findAsking],.inl ⟨rfl,fun e h=>by cases h⟩⟩
 | cons e es ih =>
  intro i h w
  obtain ⟨b,h1,h2⟩:=he v e.key hv (h e (by simp)) w
  unfold Instr.findAsking
  simp only [Sem.run_bind,h1,Result.andThen_ok]
  cases b with
  | true =>
   refine ⟨some (i,e.val),by simp,.inr ⟨0,e,by simp,rfl,(h2.1 rfl).symm⟩⟩
  | false =>
   obtain ⟨r,g1,g2⟩:=ih (i+1) (fun x hx=>h x (by simp [hx])) w
   refine ⟨r,by simpa using g1,?_⟩
   rcases g2 with ⟨g2,g3⟩ | ⟨j,x,g2,g3,g4⟩
   ·left
    refine ⟨g2,fun x hx=>?_⟩
    rcases List.mem_cons.1 hx with rfl | hx
    ·intro hh;have:=h2.2 hh.symm;cases this
    exact g3 x hx
   right;exact ⟨j+1,x,by rw [g2];congr 2;omega,g3,g4⟩
theorem key_pair {kt:Nat} (f1 f2:Field) (hu:und kt=some (.struct #[f1,f2])) (h1:Tryz.prog.underlying kt=some (.struct (Tryz.prog.fieldsOf kt))) (h2:Tryz.prog.stoodInHeld kt=false) (n1:f1.name ≠ "_") (n2:f2.name ≠ "_") (o1:f1.offset=0) (o2:f2.offset=1) (t1:und f1.type=some (.int .i64)) (t2:und f2.type=some (.int .i64)):KeyLaw kt PairKey:=by
 have hf:Tryz.prog.fieldsOf kt=#[f1,f2]:=by
  have:=(ycf hu).symm.trans h1
  injection this with this;injection this with this;exact this.symm
 have pt:∀ (cs:Array Value) (f:Field) (v:Value) (w:World),und f.type=some (.int .i64)→cs[f.offset]?=some v→(part f.type cs f.offset).run Tryz.prog w=.ok v w:=fun cs f v w ht hv=>by
  simp [part,ylf ht,isAggD,hv]
 have ck:∀ e n t a w,und t=some (.int .i64)→(Instr.checkKey e (n+1) t (.int .i64 a)).run Tryz.prog w=.ok () w:=fun e n t a w ht=>by simp [Instr.checkKey,run_underlying (ycf ht)]
 have eq:∀ v u,PairKey v→PairKey u→∀ w,∃ b,(Op.equal kt v u).run Tryz.prog w=.ok b w∧(b=true↔v=u):=by
  rintro v u ⟨a,b,rfl⟩ ⟨c,d,rfl⟩ w
  refine ⟨(a == c)&&(b == d),?_,?_⟩
  ·show (Op.equalIn (9999+1) kt _ _).run Tryz.prog w=_
   rw [run_equalIn_struct w 9999 kt _ _ h1 h2,hf]
   have e1:=pt #[.int .i64 a,.int .i64 b] f1 (.int .i64 a) w t1 (by rw [o1];rfl)
   have e2:=pt #[.int .i64 c,.int .i64 d] f1 (.int .i64 c) w t1 (by rw [o1];rfl)
   have e3:=pt #[.int .i64 a,.int .i64 b] f2 (.int .i64 b) w t2 (by rw [o2];rfl)
   have e4:=pt #[.int .i64 c,.int .i64 d] f2 (.int .i64 d) w t2 (by rw [o2];rfl)
   have q1:(Op.equalIn 9999 f1.type (.int .i64 a) (.int .i64 c)).run Tryz.prog w=.ok (a == c) w:=run_equalIn_int w 9998 f1.type .i64 .i64 a c (ycf t1)
   have q2:(Op.equalIn 9999 f2.type (.int .i64 b) (.int .i64 d)).run Tryz.prog w=.ok (b == d) w:=run_equalIn_int w 9998 f2.type .i64 .i64 b d (ycf t2)
   show (Op.eqFields 9999 _ _ [f1,f2]).run Tryz.prog w=_
   simp only [Op.eqFields,if_pos n1,if_pos n2,Sem.run_bind,e1,e2,Result.andThen_ok,q1]
   cases (a == c)
   ·simp
   simp only [Bool.not_true,Bool.false_eq_true,if_false,Sem.run_bind,e3,e4,Result.andThen_ok,q2,if_true]
   cases (b == d) <;> simp
  simp only [Bool.and_eq_true,beq_iff_eq]
  constructor
  ·rintro ⟨rfl,rfl⟩;rfl
  intro h;injection h with h;simp at h;exact h
 refine ⟨?_,?_,?_⟩
 ·rintro v ⟨a,b,rfl⟩ e w
  have e1:=pt #[.int .i64 a,.int .i64 b] f1 (.int .i64 a) w t1 (by rw [o1];rfl)
  have e3:=pt #[.int .i64 a,.int .i64 b] f2 (.int .i64 b) w t2 (by rw [o2];rfl)
  have:∀ n,(Instr.checkKey e (n+1+1) kt (.agg #[.int .i64 a,.int .i64 b])).run Tryz.prog w=.ok () w:=fun n=>by
   rw [Instr.checkKey]
   simp only [Sem.run_bind,run_underlying (ycf hu),Result.andThen_ok]
   rw [← Array.forIn_toList]
   simp [List.forIn_cons,n1,n2,e1,e3,ck e n f1.type a w t1,ck e n f2.type b w t2]
  exact this 9998
 ·intro v es hv hes w
  cases es with
  | nil =>
   refine ⟨none,?_,.inl ⟨rfl,fun e h=>by cases h⟩⟩
   simp [Instr.findKey,Instr.findNow,run_underlying (ycf hu)]
  | cons e es =>
   obtain ⟨r,g1,g2⟩:=yzj eq hv (e::es) 0 hes w
   refine ⟨r,?_,?_⟩
   ·have:Instr.findNow (.struct #[f1,f2]) v (e::es) 0=none:=by
     obtain ⟨a,b,rfl⟩:=hv
     simp [Instr.findNow,Instr.sameNow]
    simp [Instr.findKey,run_underlying (ycf hu),this,g1]
   ·rcases g2 with g2 | ⟨j,x,g2,g3⟩
    ·exact .inl g2
    exact .inr ⟨j,x,by rw [g2,Nat.zero_add],g3⟩
 rintro v ⟨a,b,rfl⟩
 have:∀ n,Instr.sameBits (n+1+1) (.agg #[.int .i64 a,.int .i64 b]) (.agg #[.int .i64 a,.int .i64 b])=true:=fun n=>by simp [Instr.sameBits]
 exact this 9998
section
variable {K V:Type} [DecidableEq K]
def mget:List (K×V)→K→Option V
 | [],_=>none
 | (a,v)::r,k=>if a=k then some v else mget r k
def mset:List (K×V)→K→V→List (K×V)
 | [],k,v=>[(k,v)]
 | (a,w)::r,k,v=>if a=k then (k,v)::r else (a,w)::mset r k v
def mpos:List (K×V)→K→Nat
 | [],_=>0
 | (a,_)::r,k=>if a=k then 0 else mpos r k+1
def MND (xs:List (K×V)):Prop:=xs.Pairwise fun a b=>a.1≠b.1
theorem xko {xs:List (K×V)} {k:K} (h:∀ p∈xs,p.1≠k):mget xs k=none:=by
 induction xs with
 | nil=>rfl
 | cons p r ih =>
  obtain ⟨a,v⟩:=p
  unfold mget
  rw [if_neg (h (a,v) (by simp)),ih (fun p hp=>h p (by simp [hp]))]
theorem xkp {xs:List (K×V)} {k:K} (h:∀ p∈xs,p.1≠k) (v:V):mset xs k v=xs++[(k,v)]:=by
 induction xs with
 | nil=>rfl
 | cons p r ih =>
  obtain ⟨a,w⟩:=p
  unfold mset
  rw [if_neg (h (a,w) (by simp)),ih (fun p hp=>h p (by simp [hp]))];rfl
theorem xkq {xs:List (K×V)} (nd:MND xs) {k:K} {v:V}:∀ {i:Nat},xs[i]?=some (k,v)→mget xs k=some v∧mpos xs k=i∧∀ u,mset xs k u=xs.set i (k,u):=by
 induction xs with
 | nil=>intro i h;simp at h
 | cons p r ih =>
  obtain ⟨a,w⟩:=p
  intro i h
  unfold MND at nd
  rw [List.pairwise_cons] at nd
  cases i with
  | zero =>
   simp only [List.getElem?_cons_zero,osj,Prod.mk.injEq] at h
   obtain ⟨rfl,rfl⟩:=h
   unfold mget mpos mset
   simp
  | succ i =>
   simp only [List.getElem?_cons_succ] at h
   have hne:a≠k:=nd.1 (k,v) (List.mem_of_getElem? h)
   obtain ⟨h1,h2,h3⟩:=ih nd.2 h
   unfold mget mpos mset
   rw [if_neg hne,if_neg hne]
   refine ⟨h1,by rw [h2],fun u=>?_⟩
   rw [if_neg hne,h3];rfl
def menc (ek:K→Value) (ev:V→PV) (xs:List (K×V)):List (Value×PV):=xs.map fun p=>(ek p.1,ev p.2)
structure KEnc (kt:Nat) (ek:K→Value):Prop where
 law:∃ P,KeyLaw kt P∧∀ a,P (ek a)
 inj:∀ a b,ek a=ek b→a=b
end
section
variable {κ:Kr}
theorem KVs.get:∀ {kvs:List (Value×PV)} {es:List MapEntry} {i:Nat} {e:MapEntry},KVs κ kvs es→es[i]?=some e→∃ p,kvs[i]?=some (e.key,p)∧Rp κ p e.val
 | _,_,0,_,.cons h _,g=>by simp only [List.getElem?_cons_zero,osj] at g;subst g;exact ⟨_,rfl,h⟩
 | _,_,i+1,_,.cons _ hs,g=>by simp only [List.getElem?_cons_succ] at g ⊢;exact hs.get g
theorem KVs.get':∀ {kvs:List (Value×PV)} {es:List MapEntry} {i:Nat} {k:Value} {p:PV},KVs κ kvs es→kvs[i]?=some (k,p)→∃ e,es[i]?=some e∧e.key=k∧Rp κ p e.val
 | _,_,0,_,_,.cons h _,g=>by simp only [List.getElem?_cons_zero,osj,Prod.mk.injEq] at g;obtain ⟨rfl,rfl⟩:=g;exact ⟨_,rfl,rfl,h⟩
 | _,_,i+1,_,_,.cons _ hs,g=>by simp only [List.getElem?_cons_succ] at g ⊢;exact hs.get' g
theorem KVs.keys:∀ {kvs:List (Value×PV)} {es:List MapEntry},KVs κ kvs es→kvs.map (·.1)=es.map (·.key)
 | _,_,.nil=>rfl
 | _,_,.cons _ hs=>by simp [hs.keys]
theorem KVs.app:∀ {ps qs:List (Value×PV)} {es fs:List MapEntry},KVs κ ps es→KVs κ qs fs→KVs κ (ps++qs) (es++fs)
 | _,_,_,_,.nil,h=>h
 | _,_,_,_,.cons h hs,g=>.cons h (hs.app g)
theorem KVs.set:∀ {kvs:List (Value×PV)} {es:List MapEntry} {i:Nat} {e e':MapEntry} {p:PV},KVs κ kvs es→es[i]?=some e→e'.key=e.key→Rp κ p e'.val→KVs κ (kvs.set i (e.key,p)) (es.set i e')
 | _,_,0,_,_,_,.cons h hs,g,hk,hp=>by simp only [List.getElem?_cons_zero,osj] at g;subst g;rw [← hk];exact .cons hp hs
 | _,_,i+1,_,_,_,.cons h hs,g,hk,hp=>by simp only [List.getElem?_cons_succ] at g;exact .cons h (hs.set g hk hp)
theorem xkr {α:Type} {R:α→α→Prop}:∀ {l:List α} {i:Nat} {a a':α},l.Pairwise R→l[i]?=some a→(∀ x,R x a→R x a')→(∀ x,R a x→R a' x)→(l.set i a').Pairwise R
 | _::l,0,a,a',h,g,h1,h2=>by
  simp only [List.getElem?_cons_zero,osj] at g;subst g
  rw [List.pairwise_cons] at h
  exact List.pairwise_cons.2 ⟨fun x hx=>h2 x (h.1 x hx),h.2⟩
 | b::l,i+1,a,a',h,g,h1,h2=>by
  simp only [List.getElem?_cons_succ] at g
  rw [List.pairwise_cons] at h
  refine List.pairwise_cons.2 ⟨fun x hx=>?_,xkr h.2 g h1 h2⟩
  rcases List.mem_or_eq_of_mem_set hx with hx | rfl
  ·exact h.1 x hx
  exact h1 b (h.1 a (List.mem_of_getElem? g))
theorem MapWf.set {es:List MapEntry} {clock i:Nat} {e e':MapEntry} (h:MapWf es clock) (g:es[i]?=some e) (hk:e'.key=e.key) (hb:e'.born=e.born):MapWf (es.set i e') clock where
 nd:=xkr h.nd g (fun x hx=>by rw [hk];exact hx) (fun x hx=>by rw [hk];exact hx)
 bn:=xkr h.bn g (fun x hx=>by rw [hb];exact hx) (fun x hx=>by rw [hb];exact hx)
 lt:=fun x hx=>by
  rcases List.mem_or_eq_of_mem_set hx with hx | rfl
  ·exact h.lt x hx
  rw [hb];exact h.lt e (List.mem_of_getElem? g)
theorem MapWf.push {es:List MapEntry} {clock:Nat} (h:MapWf es clock) {k v:Value} (hk:∀ e∈es,e.key≠k):MapWf (es++[⟨k,v,clock⟩]) (clock+1) where
 nd:=List.pairwise_append.2 ⟨h.nd,by simp,fun a ha b hb=>by simp at hb;subst hb;exact hk a ha⟩
 bn:=List.pairwise_append.2 ⟨h.bn,by simp,fun a ha b hb=>by simp at hb;subst hb;have:=h.lt a ha;show a.born≠clock;omega⟩
 lt:=fun x hx=>by
  rcases List.mem_append.1 hx with hx | hx
  ·have:=h.lt x hx;omega
  simp at hx;subst hx;show clock<clock+1;omega
end
section
variable {K V:Type} {ek:K→Value} {ev:V→PV} {xs:List (K×V)} {κ:Kr} {es:List MapEntry} {clock kt:Nat}
theorem xgb {i:Nat} {k':Value} {p:PV} (h:(menc ek ev xs)[i]?=some (k',p)):∃ k v,xs[i]?=some (k,v)∧k'=ek k∧p=ev v:=by
 unfold menc at h
 rw [List.getElem?_map] at h
 cases e:xs[i]? with
 | none=>rw [e] at h;cases h
 | some q=>rw [e] at h;simp only [Option.map_some,osj,Prod.mk.injEq] at h;exact ⟨q.1,q.2,rfl,h.1.symm,h.2.symm⟩
theorem xks (h:KVs κ (menc ek ev xs) es) (hw:MapWf es clock):MND xs:=by
 have h1:(es.map (·.key)).Pairwise (· ≠ ·):=List.pairwise_map.2 hw.nd
 rw [← h.keys,menc,List.map_map,List.pairwise_map] at h1
 exact h1.imp fun hab e=>hab (by simp [e])
theorem xkt {P:Value→Prop} (hP:∀ a,P (ek a)) (h:KVs κ (menc ek ev xs) es):∀ e∈es,P e.key:=by
 intro e he
 obtain ⟨i,hi,rfl⟩:=List.getElem_of_mem he
 obtain ⟨p,h1,_⟩:=h.get (List.getElem?_eq_getElem hi)
 obtain ⟨k,v,_,h2,_⟩:=xgb h1
 rw [h2];exact hP k
theorem yuz (hinj:∀ a b,ek a=ek b→a=b) (h:KVs κ (menc ek ev xs) es) (hw:MapWf es clock) {k:K} {r:Option (Nat×Value)} (hf:Found (ek k) es r):(r=none∧(∀ p∈xs,p.1≠k)∧∀ e∈es,e.key≠ek k)∨∃ i e v,r=some (i,e.val)∧es[i]?=some e∧e.key=ek k∧xs[i]?=some (k,v)∧Rp κ (ev v) e.val:=by
 rcases hf with ⟨h1,h2⟩ | ⟨i,e,h1,h2,h3⟩
 ·left
  refine ⟨h1,fun p hp hpk=>?_,h2⟩
  obtain ⟨i,hi,rfl⟩:=List.getElem_of_mem hp
  have:(menc ek ev xs)[i]?=some (ek k,ev xs[i].2):=by unfold menc;rw [List.getElem?_map,List.getElem?_eq_getElem hi];simp [hpk]
  obtain ⟨e,g1,g2,_⟩:=h.get' this
  exact h2 e (List.mem_of_getElem? g1) g2
 right
 obtain ⟨p,g1,g2⟩:=h.get h2
 obtain ⟨k',v,g3,g4,g5⟩:=xgb g1
 have:k'=k:=hinj _ _ (g4.symm.trans h3)
 subst this
 exact ⟨i,e,v,h1,h2,h3,g3,by rw [← g5];exact g2⟩
end
section
variable {κ:Kr} {σ:Env} {ρ:List Res} {o:Oper} {K:Value→List Res→Kr→Prop}
theorem xhs {t:Nat} (ho:o.op=.makeMap t none) (h:∀ b κ',Kle κ κ'→K (.map (some b)) (Res.mp (some b) [] 0::ρ) κ'):OpL o σ ρ κ K:=fun β hi Nx hk=>by
 unfold execOp
 simp only [ho,Option.map_none,Instr.makeMap,Sem.run_bind,run_newObj_alloc,Result.andThen_ok,Sem.run_pure,OutV]
 exact hk _ _ _ (hi.alloc _ (Res.mp (some κ.w.heap.size) [] 0) rfl rfl) (yfk hi.fin _) (h _ _ (yfk hi.fin _))
end
theorem yzk {b clock:Nat} {es:Array MapEntry} {w:World} (hb:w.heap[b]?=some (.map es clock)):(getObj b).run Tryz.prog w=.ok (.map es clock) w:=by simp [getObj,Sem.run,hb]
theorem xgc {b clock:Nat} {es:Array MapEntry} {w:World} (o:Obj) (hb:w.heap[b]?=some (.map es clock)):(setObj b o).run Tryz.prog w=.ok () { w with heap:=w.heap.setIfInBounds b o }:=by simp [setObj,Sem.run,hb]
theorem xbk {α:Type} {f:α→α}:∀ {l:List α} {i:Nat} {e:α},l[i]?=some e→l.modify i f=l.set i (f e)
 | _::_,0,_,h=>by simp only [List.getElem?_cons_zero,osj] at h;subst h;rfl
 | _::l,i+1,_,h=>by simp only [List.getElem?_cons_succ] at h;simp [xbk h]
theorem xht {t kt et b clock:Nat} {z v:Value} {sz by':Nat} {P:Value→Prop} (ht:und t=some (.map kt et)) (hz:inf et=some (z,sz,by')) (L:KeyLaw kt P) (hv:P v) {es:List MapEntry} (hes:∀ e∈es,P e.key) {w:World} (hb:w.heap[b]?=some (.map es.toArray clock)) (c:Bool):∃ r,Found v es r∧(Instr.lookup t (.map (some b)) v c).run Tryz.prog w=.ok (if c then .tuple #[(r.map (·.2)).getD z,.bool r.isSome] else (r.map (·.2)).getD z) w:=by
 obtain ⟨r,h1,h2⟩:=L.find v es hv hes w
 refine ⟨r,h2,?_⟩
 simp only [Instr.lookup,Sem.run_bind,run_underlying (ycf ht),Result.andThen_ok,yzk hb,Sem.run_pure,L.chk v hv,h1]
 cases r with
 | none=>simp [yet hz]
 | some q=>simp
theorem ywz {t kt et:Nat} {z v:Value} {sz by':Nat} {P:Value→Prop} (ht:und t=some (.map kt et)) (hz:inf et=some (z,sz,by')) (L:KeyLaw kt P) (hv:P v) {w:World} (c:Bool):(Instr.lookup t (.map none) v c).run Tryz.prog w=.ok (if c then .tuple #[z,.bool false] else z) w:=by
 obtain ⟨r,h1,h2⟩:=L.find v [] hv (fun e h=>by cases h) w
 have hr:r=none:=by
  rcases h2 with h2 | ⟨i,e,_,h2,_⟩
  ·exact h2.1
  simp at h2
 subst hr
 simp [Instr.lookup,run_underlying (ycf ht),L.chk v hv,h1,yet hz]
theorem yzl {t kt et b clock:Nat} {v u:Value} {P:Value→Prop} (ht:und t=some (.map kt et)) (L:KeyLaw kt P) (hv:P v) {es:List MapEntry} (hes:∀ e∈es,P e.key) {w:World} (hb:w.heap[b]?=some (.map es.toArray clock)):∃ r es' clock',Found v es r∧(Instr.mapUpdate t (.map (some b)) v u).run Tryz.prog w=.ok () { w with heap:=w.heap.setIfInBounds b (.map es'.toArray clock') }∧((r=none∧es'=es++[⟨v,u,clock⟩]∧clock'=clock+1)∨∃ i e,es[i]?=some e∧e.key=v∧r=some (i,e.val)∧es'=es.set i ⟨v,u,e.born⟩∧clock'=clock):=by
 obtain ⟨r,h1,h2⟩:=L.find v es hv hes w
 have h2':=h2
 rcases h2 with ⟨rfl,h3⟩ | ⟨i,e,rfl,h3,h4⟩
 ·refine ⟨none,es++[⟨v,u,clock⟩],clock+1,h2',?_,.inl ⟨rfl,rfl,rfl⟩⟩
  simp only [Instr.mapUpdate,Sem.run_bind,run_underlying (ycf ht),Result.andThen_ok,yzk hb,L.chk v hv,h1,xgc _ hb]
  simp
 refine ⟨some (i,e.val),es.set i ⟨v,u,e.born⟩,clock,h2',?_,.inr ⟨i,e,h3,h4,rfl,rfl,rfl⟩⟩
 have hk:((es.toArray[i]?).map (·.key)).getD v=v:=by simp [h3,h4]
 have hst:(Instr.keyThatStays v v).run Tryz.prog w=.ok v w:=by simp [Instr.keyThatStays,L.same v hv]
 have hm:es.toArray.modify i (fun x=>({ x with key:=v,val:=u }:MapEntry))=(es.set i ⟨v,u,e.born⟩).toArray:=by
  apply Array.ext'
  simp only [Array.toList_modify]
  rw [xbk h3]
 simp only [Instr.mapUpdate,Sem.run_bind,run_underlying (ycf ht),Result.andThen_ok,yzk hb,L.chk v hv,h1,hk,hst,hm,xgc _ hb]
section
variable {K V:Type} [DecidableEq K] {ek:K→Value} {vv:V→PV} {xs:List (K×V)} {κ:Kr} {es:List MapEntry} {clock kt:Nat}
theorem mset_kvs {es':List MapEntry} {clock':Nat} {k:K} {v:V} {u:Value} {r:Option (Nat×Value)} (hinj:∀ a b,ek a=ek b→a=b) (hw:MapWf es clock) (h:KVs κ (menc ek vv xs) es) (hf:Found (ek k) es r) (hv:Rp κ (vv v) u)
    (hc:(r=none∧es'=es++[⟨ek k,u,clock⟩]∧clock'=clock+1)∨∃ i e,es[i]?=some e∧e.key=ek k∧r=some (i,e.val)∧es'=es.set i ⟨ek k,u,e.born⟩∧clock'=clock):MapWf es' clock'∧KVs κ (menc ek vv (mset xs k v)) es':=by
  rcases hc with ⟨rfl,rfl,rfl⟩ | ⟨i,e,h1,h2,rfl,rfl,rfl⟩
  · rcases yuz hinj h hw hf with ⟨_,h3,h4⟩ | ⟨i,e,v,h3,_⟩
    · refine ⟨hw.push h4,?_⟩
      rw [xkp h3,menc,List.map_append]
      exact h.app (.cons (e:=⟨ek k,u,clock⟩) hv .nil)
    cases h3
  rcases yuz hinj h hw hf with ⟨h3,_⟩ | ⟨i',e',v',h3,h4,h5,h6,h7⟩
  · cases h3
  have hi:i'=i:=by injection h3 with h3;injection h3 with h3 _;exact h3.symm
  subst hi
  refine ⟨hw.set h1 h2.symm rfl,?_⟩
  rw [(xkq (xks h hw) h6).2.2 v,menc,List.map_set]
  have:=h.set h1 (e':=⟨ek k,u,e.born⟩) h2.symm hv
  rw [h2] at this
  exact this
theorem look_kvs {k:K} {z0:V} {z:Value} {r:Option (Nat×Value)} (hinj:∀ a b,ek a=ek b→a=b) (hw:MapWf es clock) (h:KVs κ (menc ek vv xs) es) (hf:Found (ek k) es r) (hz:Rp κ (vv z0) z):Rp κ (vv ((mget xs k).getD z0)) ((r.map (·.2)).getD z)∧r.isSome=(mget xs k).isSome:=by
 rcases yuz hinj h hw hf with ⟨rfl,h3,h4⟩ | ⟨i,e,v,rfl,h4,h5,h6,h7⟩
 ·rw [xko h3];exact ⟨hz,rfl⟩
 rw [(xkq (xks h hw) h6).1];exact ⟨h7,rfl⟩
end
theorem yva {w:World} {b i:Nat} {o:Obj} (h:i≠b):({ w with heap:=w.heap.setIfInBounds b o }:World).heap[i]?=w.heap[i]?:=by
 show (w.heap.setIfInBounds b o)[i]?=_
 rw [Array.getElem?_setIfInBounds_ne (fun e=>h e.symm)]
theorem yvb {w:World} {b:Nat} {o o':Obj} (h:w.heap[b]?=some o'):({ w with heap:=w.heap.setIfInBounds b o }:World).heap[b]?=some o:=by
 show (w.heap.setIfInBounds b o)[b]?=_
 have:b<w.heap.size:=by
  rcases Nat.lt_or_ge b w.heap.size with h1 | h1
  ·exact h1
  rw [Array.getElem?_eq_none h1] at h;cases h
 rw [Array.getElem?_setIfInBounds_self_of_lt this]
theorem Zp.mapTurn {β:Base} {l1 l2:List Res} {κ:Kr} {b clock clock':Nat} {es es':List MapEntry} (h:Zp β (l1++Res.mp (some b) es clock::l2) κ):Zp β (l1++Res.mp (some b) es' clock'::l2) ⟨{ κ.w with heap:=κ.w.heap.setIfInBounds b (.map es'.toArray clock') },κ.S⟩∧Kle κ ⟨{ κ.w with heap:=κ.w.heap.setIfInBounds b (.map es'.toArray clock') },κ.S⟩:=by
 have hb:κ.w.heap[b]?=some (.map es.toArray clock):=h.own (Res.mp (some b) es clock) (by simp)
 exact h.turn (r:=Res.mp (some b) es clock) (r':=Res.mp (some b) es' clock') (b:=b) rfl rfl rfl (fun i hi=>yva hi) (by simp) (yvb hb) rfl rfl rfl (Nat.le_refl _)
section
variable {K V:Type} [DecidableEq K] {ek:K→Value} {vv:V→PV} {xs:List (K×V)} {o:Oper} {σ:PEnv} {ρ ρ':List PRes} {c:Bool} {x y y2:Operand} {t kt et:Nat} {KK:PV→List PRes→Prop} {k:K} {v z0:V} {z:Value} {sz by' b:Nat} {pk:PV} {mo:Option Nat}
theorem xhu (ho:o.op=.makeMap t none) (h:∀ b,KK (.v (.map (some b))) (.mp (some b) []::ρ)):POpL o σ ρ KK:=fun κ σ' ρ' g hs hr =>
 xhs ho fun b κ' hk=>⟨_,_,.v rfl,.cons (.mp (fun h=>by cases h) ⟨.nil,.nil,fun e h=>by cases h⟩ .nil) (hr.mono hk),h b⟩
def MapIs (ρ:List PRes) (mo:Option Nat) (kvs:List (Value×PV)):Prop:=∀ κ rs,RRels κ ρ rs→∃ es clock,Res.mp mo es clock∈rs∧(mo=none→es=[])∧MapWf es clock∧KVs κ kvs es
theorem mapIs_mp {kvs:List (Value×PV)} (h:PRes.mp mo kvs∈ρ):MapIs ρ mo kvs:=fun κ rs hr=>by
 obtain ⟨r,h1,h2⟩:=hr.mem h
 cases h2 with
 | mp hn hw hk=>exact ⟨_,_,h1,hn,hw,hk⟩
theorem xhv {es:List MapEntry} {clock:Nat} (hw:MapWf es clock) {u:Value} {r r':Option (Nat×Value)} (h:Found u es r) (h':Found u es r'):r=r':=by
 rcases h with ⟨rfl,h1⟩ | ⟨i,e,rfl,h1,h2⟩ <;> rcases h' with ⟨rfl,h3⟩ | ⟨j,f,rfl,h3,h4⟩
 ·rfl
 ·exact absurd h4 (h1 f (List.mem_of_getElem? h3))
 ·exact absurd h2 (h3 e (List.mem_of_getElem? h1))
 have hij:i=j:=by
  obtain ⟨li,ei⟩:=List.getElem?_eq_some_iff.1 h1
  obtain ⟨lj,ej⟩:=List.getElem?_eq_some_iff.1 h3
  have pw:=List.pairwise_iff_getElem.1 hw.nd
  rcases Nat.lt_trichotomy i j with h | h | h
  ·exact absurd (by rw [ei,ej,h2,h4]) (pw i j li lj h)
  ·exact h
  exact absurd (by rw [ei,ej,h2,h4]) (pw j i lj li h)
 subst hij
 rw [h1] at h3;injection h3 with h3;rw [h3]
theorem look_q (cm:Bool) (ho:o.op=.lookup t x y cm) (ht:und t=some (.map kt et)) (hz:inf et=some (z,sz,by')) (hzp:∀ κ,Rp κ (vv z0) z) (L:KEnc kt ek) (hx:PEv σ c x (.v (.map mo))) (hy:PEv σ c y pk) (hk:∀ κ u,Rp κ pk u→u=ek k) (hm:MapIs ρ mo (menc ek vv xs)) {κ:Kr} {σ':Env} {ρ':List Res} (hs:Sim κ σ σ') (hr:RRels κ ρ ρ'):c=true→∃ u,Rp κ (vv ((mget xs k).getD z0)) u∧∀ w,Stab ρ' κ w→(execOp (SX.ev σ') o).run Tryz.prog w=.ok (.value (if cm then .tuple #[u,.bool (mget xs k).isSome] else u)) w:=by
 intro hc
 obtain ⟨P,hL,hP⟩:=L.law
 have e1:SX.ev σ' x=.map mo:=hs.ve hx hc
 have e2:SX.ev σ' y=ek k:=hk κ _ (hs.pe hy hc)
 obtain ⟨es,clock,h1,hn,h2,h3⟩:=hm κ ρ' hr
 obtain ⟨r,g1,g2⟩:=hL.find (ek k) es (hP k) (xkt hP h3) κ.w
 obtain ⟨l1,l2⟩:=look_kvs L.inj h2 h3 g2 (hzp κ)
 refine ⟨_,l1,fun w hw=>?_⟩
 cases mo with
 | none =>
  have:=hn rfl;subst this
  have hr0:r=none:=by
   rcases g2 with g2 | ⟨i,e,_,g2,_⟩
   ·exact g2.1
   simp at g2
  subst hr0
  rw [← l2]
  simp only [execOp,ho,e1,e2,Sem.run_bind,ywz ht hz hL (hP k) cm,Result.andThen_ok,Sem.run_pure]
  rfl
 | some b =>
  have hb:w.heap[b]?=some (.map es.toArray clock):=hw.own _ h1
  obtain ⟨r',f1,f2⟩:=xht ht hz hL (hP k) (xkt hP h3) hb cm
  have:=xhv h2 f1 g2;subst this
  rw [← l2]
  simp only [execOp,ho,e1,e2,Sem.run_bind,f2,Result.andThen_ok,Sem.run_pure]
theorem xku (ho:o.op=.lookup t x y false) (ht:und t=some (.map kt et)) (hz:inf et=some (z,sz,by')) (hzp:∀ κ,Rp κ (vv z0) z) (L:KEnc kt ek) (hx:PEv σ c x (.v (.map mo))) (hy:PEv σ c y pk) (hk:∀ κ u,Rp κ pk u→u=ek k) (hm:MapIs ρ mo (menc ek vv xs)):POpQ c o σ ρ (vv ((mget xs k).getD z0)):=fun κ σ' ρ' g hs hr=>by
 cases c with
 | false=>exact noq
 | true =>
  obtain ⟨u,h1,h2⟩:=look_q false ho ht hz hzp L hx hy hk hm hs hr rfl
  exact ⟨u,fun _=>h1,fun _ w hw=>h2 w hw⟩
theorem xbl (ho:o.op=.mapUpdate t x y y2) (ht:und t=some (.map kt et)) (L:KEnc kt ek) (hx:pevc σ x=.v (.map (some b))) (hy:pevc σ y=pk) (hk:∀ κ u,Rp κ pk u→u=ek k) (hv:pevc σ y2=vv v) (hu:PUpd ρ (.mp (some b) (menc ek vv xs)) (.mp (some b) (menc ek vv (mset xs k v))) ρ') (h:KK (.v undef) ρ'):POpL o σ ρ KK:=fun κ σ' rr g hs hr=>by
 obtain ⟨P,hL,hP⟩:=L.law
 obtain ⟨r0,l1,l2,rfl,h4,h5⟩:=hr.upd hu
 cases h4 with
 | mp hn hw hkv =>
  rename_i es clock
  intro β hi Nx hnx
  have hb:κ.w.heap[b]?=some (.map es.toArray clock):=hi.own (Res.mp (some b) es clock) (by simp)
  have e1:SX.ev σ' x=.map (some b):=hs.v1 hx
  have e2:SX.ev σ' y=ek k:=hk κ _ (by have:=hs.ev y;rwa [hy] at this)
  have rv:Rp κ (vv v) (SX.ev σ' y2):=by have:=hs.ev y2;rwa [hv] at this
  obtain ⟨r,es',clock',f1,f2,f3⟩:=yzl (u:=SX.ev σ' y2) ht hL (hP k) (xkt hP hkv) hb
  obtain ⟨w1,w2⟩:=mset_kvs (v:=v) L.inj hw hkv f1 rv f3
  obtain ⟨i1,i2⟩:=hi.mapTurn (es':=es') (clock':=clock')
  simp only [execOp,ho,e1,e2,Sem.run_bind,f2,Result.andThen_ok,Sem.run_pure,OutV]
  exact hnx _ _ _ i1 i2 ⟨.v undef,ρ',.v rfl,h5 _ _ i2 (.mp (fun h=>by cases h) w1 (w2.mono i2)),h⟩
end
def kP (a b:Int):Value:=.agg #[.int .i64 a,.int .i64 b]
def vT (a:Bool):PV:=.v (.bool a)
theorem kP_key {a b:Int}:∀ (κ:Kr) (u:Value),Rp κ (.agg [.v (.int .i64 a),.v (.int .i64 b)]) u→u=kP a b:=fun κ u h=>by
 cases h with
 | agg ho hc =>
  have:=yzd (xs:=[.int .i64 a,.int .i64 b]) rfl hc
  rw [this];rfl
theorem xef {K V:Type} {o:Oper} {σ:PEnv} {ρ:List PRes} {t:Nat} {KK:PV→List PRes→Prop} (ek:K→Value) (vv:V→PV) (ho:o.op=.makeMap t none) (h:∀ b,KK (.v (.map (some b))) (.mp (some b) (menc ek vv [])::ρ)):POpL o σ ρ KK:=xhu ho h
theorem wl_gT {β:Base} {n:Nat} {ops:Array Oper} {o:Oper} {rest:List Oper} {K:Post} {σ:Env} {ρ:List Res} {κ:Kr} {d:Nat} (hg:GuardIs ops σ o true) (hd':o.dst=some d) (hlt:Nat.blt d n=true) (h:OpL o σ ρ κ fun v ρ' κ'=>WL β n ops rest K (upd σ d v) ρ' κ'):WL β n ops (o::rest) K σ ρ κ:=fun hi a hr Q hk=>by
 simp only [← yfz hd'] at h
 have hd:=yhk hd' hlt
 unfold wpList
 rw [yjb hr,hg]
 exact .inl (yld hr.eval (h β hi (fun v w=>wpList Tryz.prog ops Q rest (a.put o.dst v) w) fun v ρ' κ' hi' hle hw=>hw hi' _ (hr.put hd v) Q fun a' σ' ρ'' κ'' h1 h2 h3 h4=>hk a' σ' ρ'' κ'' h1 h2 (hle.trans h3) h4) fun _ _ h=>h)
section
variable {n:Nat} {ops:Array Oper} {o:Oper} {rest:List Oper} {K:PPost} {σ:PEnv} {ρ:List PRes} {d:Nat}
theorem pwl_gT (hg:PGuardIs ops σ o true) (hd:o.dst=some d) (hlt:Nat.blt d n=true) (h:POpL o σ ρ fun p ρ'=>PWL n ops rest K (pupd σ d p) ρ'):PWL n ops (o::rest) K σ ρ:=fun β κ σ' ρ' g hs hr =>
 wl_gT (hg κ σ' hs) hd hlt ((h κ σ' ρ' g hs hr).mono fun v ρ1 κ1 hk ⟨pv,ρp,h1,h2,h3⟩=>h3 β κ1 _ _ (g.mono hk) ((hs.mono hk).upd h1) h2)
theorem pwl_gF {p:PV} (hg:PGuardIs ops σ o false) (hd:o.dst=some d) (hlt:Nat.blt d n=true) (h:PWL n ops rest K (pupd σ d (pgv false p)) ρ):PWL n ops (o::rest) K σ ρ :=
 xaw (p:=p) hg hd hlt (fun κ σ' ρ' g hs hr=>noq) h
theorem pwl_perm {ρ':List PRes} (hp:ρ.Perm ρ') (h:PWL n ops rest K σ ρ'):PWL n ops rest K σ ρ:=fun β κ σ' r g hs hr=>by
 obtain ⟨rs',h1,h2⟩:=hr.perm hp
 exact fun hi=>h β κ σ' rs' g hs h2 (hi.perm h1)
theorem yxz {c:Bool} {f:Nat} {ags:List Operand} {ts:Array Nat} {pargs:List PV} {r:PV} {r0 r1:PRes} {l0:List PRes} (hg:PGuardIs ops σ o c) (hd:o.dst=some d) (hlt:Nat.blt d n=true) (ho:o.op=.call { callee:=.value (.func f),args:=ags.toArray,argTypes:=ts }) (hp:PPick ρ r0 l0) (ha:c=true→ags.map (pevc σ)=pargs) (hc:c=true→PCall f pargs [r0] (fun pv ρ'=>pv=r∧ρ'=[r1])) (hn:c=false→r1=r0) (hw:PWL n ops rest K (pupd σ d (pgv c r)) (r1::l0)):PWL n ops (o::rest) K σ ρ:=by
 cases c with
 | true =>
  refine pwl_gT hg hd hlt (ybj ho (ha rfl) (ρ1:=[r0]) (ρ2:=l0) hp (hc rfl) ?_)
  rintro _ _ ⟨rfl,rfl⟩
  rw [ynu] at hw;exact hw
 | false =>
  have:=hn rfl;subst this
  exact pwl_gF (p:=r) hg hd hlt (pwl_perm hp hw)
end
def gdp {α β:Type} [Inhabited α] (c:Bool) (x:Option (α×β)) (m:β):Option (α×β):=cond c x (some (default,m))
theorem gdp_t {α β:Type} [Inhabited α] {c:Bool} {x:Option (α×β)} {m:β} {v:α×β} (h:gdp c x m=some v) (hc:c=true):x=some v:=by subst hc;exact h
theorem gdp_f {α β:Type} [Inhabited α] {c:Bool} {x:Option (α×β)} {m:β} {v:α×β} (h:gdp c x m=some v) (hc:c=false):v.2=m:=by subst hc;simp only [gdp,cof,osj] at h;rw [← h]
def mk0 (by':Nat) (n:Int):Option Unit:=if 0≤n∧by'*n.toNat≤140737488355328∧n.toNat≤140737488355328 then some () else none
theorem xhw {o:Oper} {σ:Env} {x:Operand} {t E sz by' n:Nat} {z:Value} {zs:List Value} (hg:o.guard=none) (ho:o.op=.makeSlice t (.const (.int .i64 0)) x) (hx:ev σ x=.int .i64 (n:Int)) (hu:und t=some (.slice E)) (hi:inf E=some (z,sz,by')) (hz:cellsL z=zs) (hzl:zs.length=sz) (h0:Nat.blt 0 sz=true) (hb:by'*n≤140737488355328∧n≤140737488355328):LateRun o σ E (List.replicate n zs).flatten (fun b=>.slice (some ⟨b,0,none⟩) 0 n) :=
 ⟨hg,fun w=>by
  obtain ⟨i,hinf,hz0,hsz,hby⟩:=ysm hi
  have hr:=run_make (P:=Tryz.prog) w t E i z (ycf hu) hinf hz0 .i64 .i64 0 n (by omega) (by omega) (by rw [hby];have:=hb.1;omega) (by omega)
  simp only [Int.toNat_natCast,Int.toNat_zero] at hr
  have hcs:z.cells=zs.toArray:=by rw [← hz,← yhv]
  have hsz':z.cells.size=sz:=by rw [hcs];simpa using hzl
  have h0':0<z.cells.size:=by rw [hsz'];have h:=h0;simp [Nat.blt] at h;omega
  rw [hsz,← hsz',xjk h0',hcs] at hr
  have e0:ev σ (.const (.int .i64 0))=.int .i64 0:=rfl
  simp only [execOp,ho,hx,e0,Sem.run_bind,hr,Result.andThen_ok,Sem.run_pure]⟩
theorem xkv {b T sz m:Nat} {cs:List Value} (hl:cs.length=m*sz) (hm:m≤140737488355328):∀ o,(Res.b b T cs).says o→(Res.row (some ⟨b,0,none⟩) 0 m T sz []).says o:=fun o h=>by
 have ho:o=some (.cells cs.toArray T (0,0)):=h
 exact ⟨rfl,rfl,fun _ h=>(by cases h),Nat.zero_le _,by unfold maxLen;omega,cs.toArray,ho,by simpa using hl,by simp⟩
theorem pl_make0 {o:Oper} {σ:PEnv} {ρ:List PRes} {x:Operand} {t T sz by':Nat} {K:PV→List PRes→Prop} {z:Value} {n:Int} {u:Unit} (hg:o.guard=none) (ho:o.op=.makeSlice t (.const (.int .i64 0)) x) (hx:pevc σ x=.v (.int .i64 n)) (hu:und t=some (.slice T)) (hi:inf T=some (z,sz,by')) (hzl:Nat.beq (cellsL z).length sz=true) (h0:Nat.blt 0 sz=true) (hm:mk0 by' n=some u)
    (h:∀ b,K (.v (.slice (some ⟨b,0,none⟩) 0 n.toNat)) (.row (some ⟨b,0,none⟩) 0 n.toNat T sz []::ρ)):POpL o σ ρ K:=fun κ σ' ρ' g hs hr=>by
  unfold mk0 at hm
  split at hm
  · rename_i hb
    obtain ⟨h1,h2,h3⟩:=hb
    have hn:n=((n.toNat:Nat):Int):=by omega
    have hlr:=xhw (o:=o) (σ:=σ') (n:=n.toNat) hg ho (by rw [hs.v1 hx,← hn]) hu hi rfl (Nat.eq_of_beq_eq_true hzl) h0 ⟨h2,h3⟩
    intro β hinv Nx hk
    refine xjl hlr (K:=fun v ρ1 κ1=>∃ b,v=.slice (some ⟨b,0,none⟩) 0 n.toNat∧ρ1=Res.b b T (List.replicate n.toNat (cellsL z)).flatten::ρ'∧Kle κ κ1) (fun b κ' hk=>⟨b,rfl,rfl,hk⟩) β hinv Nx fun v ρ1 κ1 g1 g2 g3=>?_
    obtain ⟨b,rfl,rfl,h4⟩:=g3
    have hlen:(List.replicate n.toNat (cellsL z)).flatten.length=n.toNat * sz:=by simp [Nat.eq_of_beq_eq_true hzl]
    have hv:=g1.view (r':=Res.row (some ⟨b,0,none⟩) 0 n.toNat T sz []) Pick.h rfl (xkv hlen h3)
    exact hk _ _ κ1 hv g2 ⟨_,_,.v rfl,.cons (.row (by omega) (fun _ h=>by cases h) .nil) (hr.mono h4),h b⟩
  cases hm
theorem row_take {a:Option Addr} {n c T sz k:Nat} {css:List (List Value)} (hk:k≤n):∀ o,(Res.row a n c T sz css).says o→(Res.row a k c T sz (css.take k)).says o:=fun o h=>by
 cases a with
 | none=>obtain ⟨rfl,rfl,rfl⟩:=h;exact ⟨by omega,rfl,by simp⟩
 | some ad =>
  obtain ⟨h1,h2,h3,h4,h5,cur,h6,h7,h8⟩:=h
  refine ⟨h1,by rw [List.length_take];omega,fun cs hcs=>h3 cs (List.mem_of_mem_take hcs),by omega,h5,cur,h6,h7,?_⟩
  have hle:k*sz≤n*sz:=Nat.mul_le_mul_right _ hk
  have e:cur.toList.take (k*sz)=(css.flatten).take (k*sz):=by rw [← h8,List.take_take,Nat.min_eq_left hle]
  rw [e]
  have hw:∀ cs∈css.take k,cs.length=sz:=fun cs hcs=>h3 cs (List.mem_of_mem_take hcs)
  have hl:((css.take k).flatten).length=k*sz:=by rw [yey hw,List.length_take];congr 1;omega
  have hsplit:css.flatten=(css.take k).flatten++(css.drop k).flatten:=by rw [← List.flatten_append,List.take_append_drop]
  rw [hsplit,List.take_append_of_le_length (by omega),List.take_of_length_le (by omega)]
theorem row_blk {a:Option Addr} {n c T sz k:Nat} {css dss:List (List Value)}:(Res.row a k c T sz dss).blk=(Res.row a n c T sz css).blk:=by cases a <;> rfl
theorem xbm {o:Oper} {σ:PEnv} {ρ l:List PRes} {x y:Operand} {t T T2 sz by' n c:Nat} {a:Option Addr} {kd:IntKind} {i:Int} {z:Value} {K:PV→List PRes→Prop} {α:Type} {enc:α→List PV} {xs zs:List α} (ho:o.op=.slice t x none (some y) none) (hu:und t=some (.slice T)) (hi:inf T=some (z,sz,by')) (hx:pevc σ x=.v (.slice a n c)) (hy:pevc σ y=.v (.int kd i)) (hp:PPick ρ (.row a n c T2 sz (xs.map enc)) l) (hm:sub xs 0 i=some zs) (h:K (.v (.slice a zs.length c)) (.row a zs.length c T2 sz (zs.map enc)::l)):POpL o σ ρ K:=fun κ σ' ρ' g hs hr β hinv Nx hk=>by
 obtain ⟨⟨h0,h1,h2⟩,hz⟩:=yhm hm
 have hz:zs=xs.take i.toNat:=by rw [hz];rfl
 obtain ⟨r,l',k1,k2,k3⟩:=hr.pick hp
 cases k2 with
 | row hb ho1 hc =>
  rename_i dss
  have hi2:=hinv.perm k1
  have hown:=yia (hi2.own (Res.row a n c T2 sz dss) (by simp))
  have hl:xs.length=n:=by have e:=hc.len;rw [List.length_map] at e;omega
  have hcap:n≤c:=by
   have hh:=hi2.own (Res.row a n c T2 sz dss) (by simp)
   cases a with
   | none=>obtain ⟨e1,e2,_⟩:=hh;omega
   | some ad=>exact hh.2.2.2.1
  have hq:OpQ true o σ' ρ' κ (.slice a i.toNat c):=yso (c:=true) (k:=i.toNat) ho hu hi (.p (hs.v1 hx)) (.p (hs.v1 hy)) (fun _=>by omega) (fun _=>by omega)
  have hzl:zs.length=i.toNat:=by rw [hz,List.length_take];omega
  have hv:=hinv.view (r':=Res.row a i.toNat c T2 sz (dss.take i.toNat)) k1 row_blk (row_take (by omega))
  rw [hq rfl κ.w hinv.stab]
  refine hk _ (Res.row a i.toNat c T2 sz (dss.take i.toNat)::l') κ hv (.refl _) ⟨.v (.slice a zs.length c),.row a zs.length c T2 sz (zs.map enc)::l,by rw [hzl];exact .v rfl,.cons ?_ k3,h⟩
  rw [hzl]
  refine .row (by omega) (fun d hd=>ho1 d (List.mem_of_mem_take hd)) ?_
  rw [hz,List.map_take]
  exact hc.take _
abbrev pQ (a:Option Addr) (n c k sz:Nat):PV:=.v (.slice (if c=k then a else a.map (·.add (k*sz))) (n - k) (c - k))
section
variable {o:Oper} {σ:PEnv} {ρ ρ':List PRes} {x y:Operand} {t T T2 sz by' n c:Nat} {a:Option Addr} {kd:IntKind} {i j:Int} {z:Value} {α:Type} {enc:α→List PV} {xs zs:List α} {m:α} {K:PV→List PRes→Prop}
theorem ymv (ho:o.op=.slice t x (some y) none none) (hu:und t=some (.slice T)) (hi:inf T=some (z,sz,by')) (hx:pevc σ x=.v (.slice a n c)) (hy:pevc σ y=.v (.int kd i)) (hm2:PRes.row a n c T2 sz (xs.map enc)∈ρ) (hm:sub xs i (xs.length:Int)=some zs):POpQ true o σ ρ (pQ a n c i.toNat sz):=fun κ σ' ρ' g hs hrr=>by
 obtain ⟨⟨h0,h1,h2⟩,_⟩:=yhm hm
 refine ⟨_,fun _=>.v rfl,fun _ w hst=>?_⟩
 obtain ⟨r,hr1,hr2⟩:=hrr.mem hm2
 cases hr2 with
 | row hb ho1 hc =>
  have hl:xs.length=n:=by have e1:=(yia (hst.own _ hr1)).2.1;have e2:=hc.len;rw [List.length_map] at e2;omega
  exact yxq (c:=true) (ρ:=ρ') (κ:=κ) (k:=i.toNat) ho hu hi (.p (hs.v1 hx)) (.p (hs.v1 hy)) (fun _=>by omega) (fun _=>by omega) rfl w hst
theorem xkw {B k sz c n:Nat} (h:k<n) (hc:n≤c):(if c=k then some (⟨B,0,none⟩:Addr) else (some (⟨B,0,none⟩:Addr)).map (·.add (k*sz)))=some ⟨B,k*sz,none⟩:=by
 rw [if_neg (by omega)]
 simp only [Option.map_some,Addr.add,osj]
 split
 ·rename_i e;rw [e]
 simp
theorem xkx {a:Option Addr} {n c T sz:Nat} {css:List (List Value)} {w:World} (h:(Res.row a n c T sz css).holds w):n≤c:=by
 cases a with
 | none=>obtain ⟨e1,e2,_⟩:=h;omega
 | some ad=>exact h.2.2.2.1
theorem yjf (ho:o.op=.indexAddr t x y) (hu:und t=some (.slice T)) (hi:inf T=some (z,sz,by')) (hx:pevc σ x=pQ a n c i.toNat sz) (hy:pevc σ y=.v (.int kd j)) (hi0:0≤i) (hj:0≤j) (hm2:PRes.row a n c T2 sz (xs.map enc)∈ρ) (hm:idx xs (i+j)=some m):POpQ true o σ ρ (.v (.pointer (some ⟨ablk a,(i+j).toNat * sz,none⟩))):=fun κ σ' ρ' g hs hrr=>by
 refine ⟨_,fun _=>.v rfl,fun _ w hst=>?_⟩
 obtain ⟨h0,hmm⟩:=yly hm
 have hlt:=(List.getElem?_eq_some_iff.1 hmm).1
 obtain ⟨r,hr1,hr2⟩:=hrr.mem hm2
 cases hr2 with
 | row hb ho1 hc2 =>
  have hw:=hst.own _ hr1
  have hn:xs.length=n:=by have e1:=(yia hw).2.1;have e2:=hc2.len;rw [List.length_map] at e2;omega
  have ha:=ypy hw (by omega)
  have hcap:=xkx hw
  have e1:ev σ' x=.slice (some ⟨ablk a,i.toNat * sz,none⟩) (n - i.toNat) (c - i.toNat):=by
   rw [hs.v1 hx]
   generalize ablk a=B at ha ⊢
   subst ha
   rw [xkw (n:=n) (by omega) hcap]
  have h:=ytq (c:=true) (ρ:=ρ') (κ:=κ) (j:=j.toNat) ho hu hi (fun _=>e1) (fun _=>hs.v1 hy) (fun _=>by omega) (fun _=>by omega) rfl w hst
  have e:i.toNat * sz+j.toNat * sz=(i+j).toNat * sz:=by rw [← Nat.add_mul];congr 1;omega
  rwa [e] at h
theorem zc_flat {z:Value} {sz m:Nat} (h0:0<sz) (hz:(cellsL z).length=sz):(Builtin.zeroCells z.cells m).toList=(List.replicate m (cellsL z)).flatten:=by
 have hsz:z.cells.size=sz:=by rw [← hz,← yhv];simp
 have:=xjk (z:=z.cells) (n:=m) (by omega)
 show (madeCells z.cells (m*z.cells.size)).toList=_
 rw [this,yhv]
theorem xbn {z0:α} (ho:o.op=.call { callee:=.builtin .clear,args:=#[x],argTypes:=#[t] }) (hu:und t=some (.slice T)) (hi:inf T=some (z,sz,by')) (hx:pevc σ x=pQ a n c i.toNat sz) (hm:sub xs i (xs.length:Int)=some zs) (hzc:enc z0=zcells z) (hz1:(cellsL z).all Value.oneCell'=true) (hzl:Nat.beq (cellsL z).length sz=true) (h0:Nat.blt 0 sz=true) (hp:PUpd ρ (.row a n c T2 sz (xs.map enc)) (.row a n c T2 sz ((xs.take i.toNat++List.replicate (n - i.toNat) z0).map enc)) ρ') (h:K (.tup []) ρ'):POpL o σ ρ K:=fun κ σ' rr g hs hr β hinv Nx hkk=>by
 obtain ⟨⟨hi0,hi1,hi2⟩,_⟩:=yhm hm
 generalize hkk':i.toNat=k at *
 have hsz0:0<sz:=by have:=h0;simp [Nat.blt] at this;omega
 have hzlen:=Nat.eq_of_beq_eq_true hzl
 have hr0:=hr
 obtain ⟨r0,l1,l2,rfl,h4,h5⟩:=hr.upd hp
 cases h4 with
 | row hb ho1 hc =>
  rename_i dss
  have hw:=hinv.own (Res.row a n c T2 sz dss) (by simp)
  have hdl:dss.length=n:=(yia hw).2.1
  have hdw:=(yia hw).2.2
  have hxl:xs.length=n:=by have e:=hc.len;rw [List.length_map] at e;omega
  have hcap:=xkx hw
  have e1:ev σ' x=_:=hs.v1 hx
  have hun:=run_underlying (w:=κ.w) (ycf hu)
  have fin:∀ κ',Kle κ κ'→RRel κ' (.row a n c T2 sz ((xs.take k++List.replicate (n - k) z0).map enc)) (Res.row a n c T2 sz (dss.take k++List.replicate (n - k) (cellsL z))):=fun κ' hk'=>by
   refine .row hb (fun d hd=>?_) ?_
   ·rcases List.mem_append.1 hd with hd | hd
    ·exact ho1 d (List.mem_of_mem_take hd)
    rw [(List.mem_replicate.1 hd).2];exact fun u hu=>List.all_eq_true.1 hz1 u hu
   rw [List.map_append,List.map_take,List.map_replicate]
   refine ((hc.take k).app ?_).mono hk'
   rw [hzc]
   generalize n - k=q
   induction q with
   | zero=>exact .nil
   | succ q ih=>rw [List.replicate_succ,List.replicate_succ];exact .cons (ylh _) ih
  rcases Nat.eq_zero_or_pos (n - k) with hz | hz
  ·have hkn:k=n:=by omega
   have hrun:(execOp (ev σ') o).run Tryz.prog κ.w=.ok (.value (.tuple #[])) κ.w:=by
    rw [show n - k=0 from hz] at e1
    unfold execOp
    simp only [ho,resolve,Sem.run_bind,Sem.run_pure,Result.andThen_ok,invoke,builtin,List.map_toArray,Array.map,e1]
    generalize (if c=k then a else a.map (·.add (k*sz)))=q at e1
    cases q <;> simp [Builtin.clear_,hun,e1]
   rw [hrun]
   have e2:dss.take k++List.replicate (n - k) (cellsL z)=dss:=by rw [hz,hkn,← hdl];simp
   have:=fin κ (.refl _)
   rw [e2] at this
   exact hkk _ _ κ hinv (.refl _) ⟨.tup [],ρ',.tup (ws:=[]) .nil,h5 κ _ (.refl _) this,h⟩
  have ha:=ypy hw (by omega)
  generalize ablk a=B at ha
  subst ha
  rw [xkw (n:=n) (by omega) hcap] at e1
  obtain ⟨g0,g1,g2,g3,g4,cur,g5,g6,g7⟩:=hw
  have hbk:κ.w.heap[B]?=some (.cells cur.toList.toArray T2 (0,0)):=by simpa using g5
  have hfl:((List.replicate (n - k) (cellsL z)).flatten).length=(n - k)*sz:=by simp [hzlen]
  have hmul:k*sz+(n - k)*sz=n*sz:=by rw [← Nat.add_mul];congr 1;omega
  have hnc:n*sz≤c*sz:=Nat.mul_le_mul_right _ g3
  have hone:((List.replicate (n - k) (cellsL z)).flatten).all Value.oneCell'=true:=by
   rw [List.all_eq_true];intro u hu
   obtain ⟨d,hd,hu⟩:=List.mem_flatten.1 hu
   rw [(List.mem_replicate.1 hd).2] at hu
   exact List.all_eq_true.1 hz1 u hu
  obtain ⟨w',hrun,q1,q2,q3,q4,q5,q6⟩:=yns (off:=k*sz) (vs:=(List.replicate (n - k) (cellsL z)).flatten) hbk (by simp only [Array.length_toList,g6,hfl];omega) hone
  have hzc2:=zc_flat (z:=z) (m:=n - k) hsz0 hzlen
  have hrun2:(execOp (ev σ') o).run Tryz.prog κ.w=.ok (.value (.tuple #[])) w':=by
   obtain ⟨q,hq⟩:∃ q,n - k=q+1:=⟨n - k - 1,by omega⟩
   rw [hq] at e1 hrun hzc2
   unfold execOp
   simp only [ho,resolve,Sem.run_bind,Sem.run_pure,Result.andThen_ok,invoke,builtin,List.map_toArray,Array.map,e1]
   simp [Builtin.clear_,hun,e1,yet hi,hzc2,hrun]
  rw [hrun2]
  have hsays:(Res.row (some ⟨B,0,none⟩) n c T2 sz (dss.take k++List.replicate (n - k) (cellsL z))).says w'.heap[B]?:=by
   refine ⟨rfl,by simp [List.length_take];omega,fun d hd=>?_,g3,g4,_,q3,?_,?_⟩
   ·rcases List.mem_append.1 hd with hd | hd
    ·exact g2 d (List.mem_of_mem_take hd)
    rw [(List.mem_replicate.1 hd).2];exact hzlen
   ·simp only [List.size_toArray,List.length_append,List.length_take,List.length_drop,Array.length_toList,g6,hfl];omega
   have hA:(List.take (k*sz) cur.toList).length=k*sz:=by rw [List.length_take,Array.length_toList,g6];omega
   rw [List.toList_toArray,List.take_left' (by rw [List.length_append,hA,hfl];exact hmul)]
   rw [List.flatten_append]
   congr 1
   have hw2:∀ d∈dss.take k,d.length=sz:=fun d hd=>g2 d (List.mem_of_mem_take hd)
   have hl2:((dss.take k).flatten).length=k*sz:=by rw [yey hw2,List.length_take];congr 1;omega
   have:List.take (k*sz) cur.toList=List.take (k*sz) (List.take (n*sz) cur.toList):=by rw [List.take_take,Nat.min_eq_left (by omega)]
   rw [this,g7]
   have hsplit:dss.flatten=(dss.take k).flatten++(dss.drop k).flatten:=by rw [← List.flatten_append,List.take_append_drop]
   rw [hsplit,List.take_append_of_le_length (by omega),List.take_of_length_le (by omega)]
  obtain ⟨hi',hk'⟩:=hinv.turn (r:=Res.row (some ⟨B,0,none⟩) n c T2 sz dss) (r':=Res.row (some ⟨B,0,none⟩) n c T2 sz (dss.take k++List.replicate (n - k) (cellsL z))) rfl rfl rfl q1 q2 hsays q4 q5 q6 (yoy _ _ _ _ _ hrun)
  exact hkk _ _ _ hi' hk' ⟨.tup [],ρ',.tup (ws:=[]) .nil,h5 _ _ hk' (fin _ hk'),h⟩
end
theorem xbo {n:Nat} {ops:Array Oper} {lo:List Oper} {K:PPost} {σ:PEnv} {ρ:List PRes} (t:Nat) {p q:PV} (ht:σ t=p) (e:q=p) (h:PWL n ops lo K (pupd σ t q) ρ):PWL n ops lo K σ ρ:=by
 rw [e,xau ht] at h;exact h
section
variable {α:Type} (lt:α→α→Bool)
def ins (x:α):List α→List α
 | []=>[x]
 | y::l=>cond (lt y x) (y::ins x l) (x::y::l)
def isort:List α→List α
 | []=>[]
 | x::l=>ins lt x (isort l)
variable {lt}
theorem yzm {x:α}:∀ {l:List α},(ins lt x l).Perm (x::l)
 | []=>List.Perm.refl _
 | y::l=>by
  unfold ins
  cases lt y x
  ·exact List.Perm.refl _
  exact (List.Perm.cons y yzm).trans (List.Perm.swap x y l)
theorem ylb:∀ {l:List α},(isort lt l).Perm l
 | []=>List.Perm.refl _
 | x::l=>yzm.trans (List.Perm.cons x ylb)
theorem yya (htr:∀ x y z,lt x y=true→lt y z=true→lt x z=true) (hnt:∀ x y z,lt x y=false→lt y z=false→lt x z=false) (hir:∀ x,lt x x=false) {x:α}:∀ {l:List α},l.Pairwise (fun a b=>lt b a=false)→(ins lt x l).Pairwise (fun a b=>lt b a=false)
 | [],_=>List.pairwise_singleton _ _
 | y::l,h=>by
  unfold ins
  obtain ⟨h1,h2⟩:=List.pairwise_cons.1 h
  have asym:∀ a b,lt a b=true→lt b a=false:=fun a b hab=>by
   cases hba:lt b a
   ·rfl
   have:=htr a b a hab hba;rw [hir] at this;cases this
  cases hy:lt y x
  ·refine List.pairwise_cons.2 ⟨fun z hz=>?_,h⟩
   rcases List.mem_cons.1 hz with rfl | hz
   ·exact hy
   exact hnt z y x (h1 z hz) hy
  refine List.pairwise_cons.2 ⟨fun z hz=>?_,yya htr hnt hir h2⟩
  rcases List.mem_cons.1 (yzm.mem_iff.1 hz) with rfl | hz
  ·exact asym y z hy
  exact h1 z hz
theorem ymb (htr:∀ x y z,lt x y=true→lt y z=true→lt x z=true) (hnt:∀ x y z,lt x y=false→lt y z=false→lt x z=false) (hir:∀ x,lt x x=false):∀ (l:List α),(isort lt l).Pairwise (fun a b=>lt b a=false)
 | []=>List.Pairwise.nil
 | x::l=>yya htr hnt hir (ymb htr hnt hir l)
theorem yrg (ha:∀ x y,lt x y=false→lt y x=false→x=y):∀ {l m:List α},l.Pairwise (fun a b=>lt b a=false)→m.Pairwise (fun a b=>lt b a=false)→l.Perm m→l=m
 | [],m,_,_,hp=>(List.nil_perm.1 hp).symm
 | x::l,m,h1,h2,hp=>by
  obtain ⟨g1,g2⟩:=List.pairwise_cons.1 h1
  match m,h2,hp with
  | [],_,hp=>exact absurd (List.perm_nil.1 hp) (by simp)
  | y::m,h2,hp =>
   obtain ⟨k1,k2⟩:=List.pairwise_cons.1 h2
   have hxy:x=y:=by
    have hx:x∈y::m:=hp.mem_iff.1 (by simp)
    have hy:y∈x::l:=hp.mem_iff.2 (by simp)
    rcases List.mem_cons.1 hx with e | hx
    ·exact e
    rcases List.mem_cons.1 hy with e | hy
    ·exact e.symm
    exact ha x y (k1 x hx) (g1 y hy)
   subst hxy
   rw [yrg ha g2 k2 ((List.perm_cons x).1 hp)]
end
theorem bnd {α β:Type} {x:Option α} {f:α→Option β} {a:α} (h:x=some a):x.bind f=f a:=by rw [h];rfl
theorem ygo {r:Int} (h1 : -9223372036854775808≤r) (h2:r≤9223372036854775807):IntKind.i64.wrap r=r:=xfe ⟨h1,h2⟩
theorem u64s {r:Int} (h1:0≤r) (h2:r≤18446744073709551615):IntKind.u64.wrap r=r:=by simp [IntKind.wrap,IntKind.signed,IntKind.bits];omega
theorem ykr {n:Nat} (h:n≤1267650600228229401496703205000):n<FUEL:=Nat.lt_of_le_of_lt h (by unfold FUEL;omega)
theorem yax {α:Type} {xs:List α} {k:Nat} (h:k<xs.length):idx xs (k:Int)=some xs[k]:=by
 unfold idx;rw [if_pos (by omega)];simp [h]
theorem yee {α:Type} [Inhabited α] {x:Option α}:gd true x=x:=rfl
theorem ymw {α:Type} [Inhabited α] {x:Option α}:gd false x=some default:=rfl
theorem ygz {α:Type} {l:List α} {k:Nat} (h:0<k) (hk:k<l.length) (hl:l.length≤4611686018427387904):idx l (IntKind.i64.wrap ((k:Int) - 1))=some (l[k - 1]'(by omega)):=by
 rw [ygo (by omega) (by omega),show (k:Int) - 1=((k - 1:Nat):Int) by omega]
 exact yax (by omega)
theorem ycw {k:Nat} {n:Nat} (hk:k<n) (hn:n≤4611686018427387904):IntKind.i64.wrap ((k:Int)+1)=((k+1:Nat):Int):=by rw [ygo (by omega) (by omega)];omega
theorem dlt {k n:Nat} (h:k<n):decide ((k:Int)<(n:Int))=true:=by simp;omega
theorem yhb (n:Nat):decide ((n:Int)<(n:Int))=false:=by simp
theorem d0k {k:Nat}:decide ((0:Int)<(k:Int))=decide (0<k):=by by_cases h:0<k <;> simp [h] <;> omega
theorem yds {α:Type} {by':Nat} {xs ys:List α} (h:(xs.length+ys.length)*by'≤140737488355328) (h2:xs.length+ys.length≤140737488355328):app by' xs ys=some (xs++ys):=by unfold app;rw [if_pos ⟨h,h2⟩]
theorem yqu {α:Type} {xs:List α} {a b:Nat} (h:a≤b) (h2:b≤xs.length):sub xs (a:Int) (b:Int)=some ((xs.take b).drop a):=by
 unfold sub;rw [if_pos (by omega)];simp
theorem xky {α:Type} (l:List α) (n:Int) (hn:0≤n):sub l 0 (imin (l.length:Int) n)=some (l.take n.toNat):=by
 unfold sub
 have:imin (l.length:Int) n=((min l.length n.toNat:Nat):Int):=by unfold imin;split <;> omega
 rw [this,if_pos (by omega)];simp [Nat.min_comm]
theorem xkz {b:Nat} {n:Nat} (h:b*n≤140737488355328) (h2:n≤140737488355328):mk0 b (n:Int)=some ():=by unfold mk0;rw [if_pos (by simp;omega)]
theorem nz_ok {b:Int} (h:b≠0):nz b=some ():=by unfold nz;rw [if_neg h]
def bindR {A B R:Type} (p:A⊕R) (g:A→B⊕R):B⊕R:=match p with | .inl a=>g a | .inr r=>.inr r
def run {α A R:Type} (f:Nat→α→A→A⊕R):List α→Nat→A→A⊕R
 | [],_,a=>.inl a
 | x::xs,k,a=>bindR (f k x a) (fun a'=>run f xs (k+1) a')
theorem yjp {α A R:Type} (f:Nat→α→A→A⊕R) (x:α) (xs:List α) (k:Nat) (a:A):run f (x::xs) k a=bindR (f k x a) (run f xs (k+1)):=rfl
def outc {S T A R:Type} (g:A→S) (e:R→T):A⊕R→S⊕T
 | .inl a=>.inl (g a)
 | .inr r=>.inr (e r)
def outf {T A R:Type} (g:A→T) (e:R→T):A⊕R→T
 | .inl a=>g a
 | .inr r=>e r
theorem xgd {S T α A R:Type} {l:List α} (hl:l.length≤4611686018427387904) {body:S→Option (S⊕T)} (pack:Int→A→S) (f:Nat→α→A→A⊕R) (fin:A→T) (exit:R→T) (P:Nat→A→Prop)
    (hstep:∀ (k:Nat) (hk:k<l.length) (a:A),P k a→body (pack (k:Int) a)=some (outc (pack ((k+1:Nat):Int)) exit (f k l[k] a))∧∀ a',f k l[k] a=.inl a'→P (k+1) a')
    (hend:∀ a,P l.length a→body (pack (l.length:Int) a)=some (.inr (fin a))) (a:A) (h0:P 0 a):loopF body FUEL (pack 0 a)=some (outf fin exit (run f l 0 a))∧∀ a',run f l 0 a=.inl a'→P l.length a':=by
  have main:∀ (xs:List α) (k N:Nat) (a:A),l.drop k=xs→k≤l.length→P k a→xs.length<N→loopF body N (pack (k:Int) a)=some (outf fin exit (run f xs k a))∧∀ a',run f xs k a=.inl a'→P l.length a':=by
    intro xs
    induction xs with
    | nil =>
      intro k N a hd hk hp hN
      have:k=l.length:=by
        have:=congrArg List.length hd;simp at this;omega
      subst this
      obtain ⟨N,rfl⟩:∃ M,N=M+1:=⟨N - 1,by omega⟩
      rw [yga,hend a hp]
      exact ⟨rfl,fun a' h=>by injection h with h;exact h ▸ hp⟩
    | cons x xs ih =>
      intro k N a hd hk hp hN
      have hk':k<l.length:=by
        have:=congrArg List.length hd;simp at this;omega
      have hx:l[k]=x∧l.drop (k+1)=xs:=by
        rw [List.drop_eq_getElem_cons hk'] at hd;injection hd with h1 h2;exact ⟨h1,h2⟩
      obtain ⟨N,rfl⟩:∃ M,N=M+1:=⟨N - 1,by omega⟩
      obtain ⟨e1,e2⟩:=hstep k hk' a hp
      rw [hx.1] at e1 e2
      rw [yga,e1]
      rw [yjp]
      cases hf:f k x a with
      | inl a'=>exact ih (k+1) N a' hx.2 (by omega) (e2 a' hf) (by simp at hN;omega)
      | inr r=>exact ⟨rfl,fun a' h=>by change Sum.inr r=_ at h;cases h⟩
  exact main l 0 FUEL a rfl (by omega) h0 (ykr (by omega))
theorem yks {S T α A R β:Type} {l:List α} (hl:l.length≤4611686018427387904) {body:S→Option (S⊕T)} {k:T→Option β} (pack:Int→A→S) (f:Nat→α→A→A⊕R) (fin:A→T) (exit:R→T) (P:Nat→A→Prop) (a:A) (h0:P 0 a)
    (hstep:∀ (k:Nat) (hk:k<l.length) (a:A),P k a→body (pack (k:Int) a)=some (outc (pack ((k+1:Nat):Int)) exit (f k l[k] a))∧∀ a',f k l[k] a=.inl a'→P (k+1) a')
    (hend:∀ a,P l.length a→body (pack (l.length:Int) a)=some (.inr (fin a))):Option.bind (loopF body FUEL (pack 0 a)) k=k (outf fin exit (run f l 0 a)):=bnd (xgd hl pack f fin exit P hstep hend a h0).1
def findS {α T:Type} (g:Nat→α→Option T):List α→Nat→Option T
 | [],_=>none
 | x::xs,k=>match g k x with | some t=>some t | none=>findS g xs (k+1)
def outg {T:Type} (k:Nat):Option T→Int⊕T
 | some t=>.inr t
 | none=>.inl ((k+1:Nat):Int)
theorem ybz {T α β:Type} {l:List α} (hl:l.length≤4611686018427387904) {body:Int→Option (Int⊕T)} {k:T→Option β} (g:Nat→α→Option T) (e:T)
    (hstep:∀ (k:Nat) (hk:k<l.length),body (k:Int)=some (outg k (g k l[k]))) (hend:body (l.length:Int)=some (.inr e)):Option.bind (loopF body FUEL 0) k=k ((findS g l 0).getD e):=by
  refine (yks hl (fun i (_:Unit)=>i) (fun k x _=>match g k x with | some t=>.inr t | none=>.inl ()) (fun _=>e) (fun (t:T)=>t) (fun _ _=>True) () trivial (fun k hk a _=>⟨by
    rw [hstep k hk];cases g k l[k] <;> rfl,fun _ _=>trivial⟩) (fun a _=>hend)).trans ?_
  congr 1
  generalize 0=i
  induction l generalizing i with
  | nil=>rfl
  | cons x xs ih =>
    clear hstep hend
    have ih2:∀ j,outf (fun _=>e) (fun t=>t) (run (fun k x (_:Unit)=>match g k x with | some t=>Sum.inr t | none=>Sum.inl ()) xs j ())=(findS g xs j).getD e:=by
      clear ih hl
      induction xs with
      | nil=>intro j;rfl
      | cons y ys ih=>intro j;rw [yjp,findS];cases g j y with | some t=>rfl | none=>exact ih (j+1)
    rw [yjp,findS]
    cases g i x with
    | some t=>rfl
    | none=>exact ih2 (i+1)
theorem yrv {α T:Type} (p:α→Bool) (t:T):∀ (l:List α) (k:Nat),findS (fun _ x=>cond (p x) (some t) none) l k=cond (l.any p) (some t) none
 | [],_=>rfl
 | x::xs,k=>by
  rw [findS,List.any_cons,yrv p t xs]
  cases p x <;> rfl
theorem yrw {α T:Type} (p:α→Bool) (t:T):∀ (l:List α) (k:Nat),findS (fun _ x=>cond (p x) none (some t)) l k=cond (l.all p) none (some t)
 | [],_=>rfl
 | x::xs,k=>by
  rw [findS,List.all_cons,yrw p t xs]
  cases p x <;> rfl
theorem ylc {α T:Type} (p:α→Bool) (f:α→T):∀ (l:List α) (k:Nat),findS (fun _ x=>cond (p x) (some (f x)) none) l k=(l.find? p).map f
 | [],_=>rfl
 | x::xs,k=>by
  rw [findS,List.find?_cons,ylc p f xs]
  cases p x <;> rfl
theorem ymx {α T:Type} {g:Nat→α→Option T}:∀ {l:List α} {k:Nat},findS g l k=none↔∀ i x,l[i]?=some x→g (k+i) x=none
 | [],k=>by simp [findS]
 | x::xs,k=>by
  rw [findS]
  constructor
  ·intro h i y hy
   cases hg:g k x with
   | some t=>rw [hg] at h;cases h
   | none =>
    rw [hg] at h
    cases i with
    | zero=>simp at hy;subst hy;exact hg
    | succ i=>have:=ymx.1 h i y (by simpa using hy);rw [show k+(i+1)=k+1+i by omega];exact this
  intro h
  have h0:=h 0 x rfl
  rw [Nat.add_zero] at h0
  rw [h0]
  exact ymx.2 fun i y hy=>by have:=h (i+1) y (by simpa using hy);rw [show k+1+i=k+(i+1) by omega];exact this
theorem ycp {S T α A β:Type} {l:List α} (hl:l.length≤4611686018427387904) {body:S→Option (S⊕T)} {k:T→Option β} (pack:Int→A→S) (f:A→α→A) (fin:A→T) (P:Nat→A→Prop) (a:A) (h0:P 0 a)
    (hstep:∀ (k:Nat) (hk:k<l.length) (a:A),P k a→body (pack (k:Int) a)=some (.inl (pack ((k+1:Nat):Int) (f a l[k])))∧P (k+1) (f a l[k]))
    (hend:∀ a,P l.length a→body (pack (l.length:Int) a)=some (.inr (fin a))):Option.bind (loopF body FUEL (pack 0 a)) k=k (fin (l.foldl f a))∧P l.length (l.foldl f a):=by
  have e:=xgd hl pack (fun _ x a=>(.inl (f a x):A⊕Empty)) fin (fun r=>nomatch r) P (fun k hk a hp=>⟨(hstep k hk a hp).1,fun a' h=>by injection h with h;exact h ▸ (hstep k hk a hp).2⟩) hend a h0
  have e2:∀ (xs:List α) (i:Nat) (b:A),run (fun _ x a=>(.inl (f a x):A⊕Empty)) xs i b=.inl (xs.foldl f b):=by
    intro xs
    induction xs with
    | nil=>intro i b;rfl
    | cons x xs ih=>intro i b;rw [yjp,List.foldl_cons];exact ih _ _
  rw [e2] at e
  exact ⟨bnd e.1,e.2 _ rfl⟩
theorem yfs {α:Type} {l:List α} {k:Nat} (h:k<l.length) (d:α):l.getD k d=l[k]:=by simp [List.getD,h]
theorem u8tri (a b:UInt8):a<b∨a=b∨b<a:=by
 rcases Nat.lt_trichotomy a.toNat b.toNat with h | h | h
 ·exact .inl h
 ·exact .inr (.inl (UInt8.toNat_inj.1 h))
 exact .inr (.inr h)
theorem xbp:∀ (x y:List UInt8),(Op.bytesLess x y||(x == y)) = !Op.bytesLess y x
 | [],[]=>by simp [Op.bytesLess]
 | _::_,[]=>by simp [Op.bytesLess]
 | [],_::_=>by simp [Op.bytesLess]
 | a::x,b::y=>by
  rw [Op.bytesLess,Op.bytesLess]
  have ih:=xbp x y
  rcases u8tri a b with h | h | h
  ·have h1:¬ b<a:=fun h'=>by have:a.toNat<b.toNat:=h;have:b.toNat<a.toNat:=h';omega
   have h2:¬ b=a:=fun h'=>by subst h';have:b.toNat<b.toNat:=h;omega
   have h3:¬ a=b:=fun h'=>h2 h'.symm
   simp [h,h1,h2]
  ·subst h
   have h1:¬ a<a:=fun h'=>by have:a.toNat<a.toNat:=h';omega
   simp [h1] at ih ⊢
   rw [← ih]
  have h1:¬ a<b:=fun h'=>by have:a.toNat<b.toNat:=h';have:b.toNat<a.toNat:=h;omega
  have h3:¬ a=b:=fun h'=>by subst h';have:a.toNat<a.toNat:=h;omega
  simp [h,h1,h3]
theorem str_ext {x y:ByteArray}:x=y↔x.data.toList=y.data.toList:=by
 constructor
 ·rintro rfl;rfl
 intro h;cases x;cases y;congr 1;exact Array.toList_inj.1 h
theorem yzn (x y:ByteArray):(Op.bytesLess x.toList y.toList||decide (x=y)) = !Op.bytesLess y.toList x.toList:=by
 rw [← xdh];exact xbp _ _
structure Zf where
 Product:Int
 Value:Int
 deriving Inhabited,DecidableEq
def Zf.enc (m:Zf):List PV:=[pI m.Product,pI m.Value]
def Zf.eqb (a b:Zf):Bool:=((a.Product == b.Product)&&((a.Value == b.Value)&&true))
theorem Zf.eqb_iff {a b:Zf}:Zf.eqb a b=true↔a=b:=by cases a;cases b;simp [Zf.eqb]
structure Zd where
 ID:Int
 Code:ByteArray
 Country:ByteArray
 Price:Int
 Obtained:Bool
 Processes:(List ByteArray)
 Inputs:(List Zf)
 deriving Inhabited,DecidableEq
def Zd.enc (m:Zd):List PV:=[pI m.ID,pS m.Code,pS m.Country,pI m.Price,pB m.Obtained,pL eS m.Processes,pL Zf.enc m.Inputs]
structure Zc where
 Kind:Int
 Digits:Int
 Except:(List ByteArray)
 Tolerance:Int
 Limit:Int
 Name:ByteArray
 Args:(List Zc)
 deriving Inhabited
mutual
def Zc.enc:Zc→List PV
 | ⟨Kind0,Digits0,Except0,Tolerance0,Limit0,Name0,Args0⟩=>[pI Kind0,pI Digits0,pL eS Except0,pI Tolerance0,pI Limit0,pS Name0,.slc Args0.length (Zc.encs Args0)]
def Zc.encs:List Zc→List (List PV)
 | []=>[]
 | r::l=>r.enc::Zc.encs l
end
theorem Zc.encs_eq:∀ (l:List Zc),Zc.encs l=List.map Zc.enc l
 | []=>by rw [Zc.encs];rfl
 | r::l=>by rw [Zc.encs,Zc.encs_eq l];rfl
theorem Zc.enc_eq (m:Zc):m.enc=[pI m.Kind,pI m.Digits,pL eS m.Except,pI m.Tolerance,pI m.Limit,pS m.Name,pL Zc.enc m.Args]:=by cases m;rw [Zc.enc,Zc.encs_eq]
structure Zi where
 Prefix:ByteArray
 Rule:Zc
 deriving Inhabited
def Zi.enc (m:Zi):List PV:=[pS m.Prefix,pI m.Rule.Kind,pI m.Rule.Digits,pL eS m.Rule.Except,pI m.Rule.Tolerance,pI m.Rule.Limit,pS m.Rule.Name,pL Zc.enc m.Rule.Args]
structure Zb where
 ID:Int
 Kind:Int
 Parties:(List ByteArray)
 Rules:(List Zi)
 deriving Inhabited
def Zb.enc (m:Zb):List PV:=[pI m.ID,pI m.Kind,pL eS m.Parties,pL Zi.enc m.Rules]
structure Za where
 Product:Int
 Agreement:Int
 deriving Inhabited,DecidableEq
def Za.enc (m:Za):List PV:=[pI m.Product,pI m.Agreement]
def Za.eqb (a b:Za):Bool:=((a.Product == b.Product)&&((a.Agreement == b.Agreement)&&true))
theorem Za.eqb_iff {a b:Za}:Za.eqb a b=true↔a=b:=by cases a;cases b;simp [Za.eqb]
theorem Za.eqok54:EqOk 54 [0,0]:=⟨by kernel_rfl,by kernel_rfl,by kernel_rfl,by kernel_rfl⟩
structure Zg where
 Claim:Za
 Path:(List Int)
 Premises:(List Za)
 deriving Inhabited,DecidableEq
def Zg.enc (m:Zg):List PV:=[pI m.Claim.Product,pI m.Claim.Agreement,pL eI m.Path,pL Za.enc m.Premises]
structure Zk where
 Code:ByteArray
 Value:Int
 Originating:Bool
 deriving Inhabited,DecidableEq
def Zk.enc (m:Zk):List PV:=[pS m.Code,pI m.Value,pB m.Originating]
def Zk.eqb (a b:Zk):Bool:=((decide (a.Code=b.Code))&&((a.Value == b.Value)&&((a.Originating == b.Originating)&&true)))
theorem Zk.eqb_iff {a b:Zk}:Zk.eqb a b=true↔a=b:=by cases a;cases b;simp [Zk.eqb]
structure Zn where
 Code:ByteArray
 Price:Int
 Obtained:Bool
 Processes:(List ByteArray)
 Inputs:(List Zk)
 deriving Inhabited,DecidableEq
def Zn.enc (m:Zn):List PV:=[pS m.Code,pI m.Price,pB m.Obtained,pL eS m.Processes,pL Zk.enc m.Inputs]
structure Zl where
 L:(List Int)
 I:Int
 deriving Inhabited,DecidableEq
def Zl.enc (m:Zl):List PV:=[pL eI m.L,pI m.I]
structure Zu where
 claims:(List (Za×Bool))
 deriving Inhabited
structure Zv where
 known:Zu
 plan:(List Zd)
 list:(List Zb)
 importer:ByteArray
 deriving Inhabited
structure Zj where
 claim:Za
 rule:Zc
 deriving Inhabited
def Zj.enc (m:Zj):List PV:=[pI m.claim.Product,pI m.claim.Agreement,pI m.rule.Kind,pI m.rule.Digits,pL eS m.rule.Except,pI m.rule.Tolerance,pI m.rule.Limit,pS m.rule.Name,pL Zc.enc m.rule.Args]
structure Zr where
 partners:(List Int)
 set_:(List (Za×Bool))
 deriving Inhabited
structure Zq where
 use:Zk
 premise:Za
 deriving Inhabited,DecidableEq
def Zq.enc (m:Zq):List PV:=[pS m.use.Code,pI m.use.Value,pB m.use.Originating,pI m.premise.Product,pI m.premise.Agreement]
structure Zm where
 Hi:Int
 Lo:Int
 deriving Inhabited,DecidableEq
def Zm.enc (m:Zm):List PV:=[pU m.Hi,pU m.Lo]
def Zm.eqb (a b:Zm):Bool:=((a.Hi == b.Hi)&&((a.Lo == b.Lo)&&true))
theorem Zm.eqb_iff {a b:Zm}:Zm.eqb a b=true↔a=b:=by cases a;cases b;simp [Zm.eqb]
structure Zt where
 rule:Zc
 deriving Inhabited
def Zt.enc (m:Zt):List PV:=[pI m.rule.Kind,pI m.rule.Digits,pL eS m.rule.Except,pI m.rule.Tolerance,pI m.rule.Limit,pS m.rule.Name,pL Zc.enc m.rule.Args]
structure Zs where
 use:Zk
 deriving Inhabited,DecidableEq
def Zs.enc (m:Zs):List PV:=[pS m.use.Code,pI m.use.Value,pB m.use.Originating]
structure Zo where
 Hi:Int
 Lo:Int
 deriving Inhabited,DecidableEq
def Zo.enc (m:Zo):List PV:=[pU m.Hi,pU m.Lo]
def Zo.eqb (a b:Zo):Bool:=((a.Hi == b.Hi)&&((a.Lo == b.Lo)&&true))
theorem Zo.eqb_iff {a b:Zo}:Zo.eqb a b=true↔a=b:=by cases a;cases b;simp [Zo.eqb]
theorem Zo.eqok243:EqOk 243 [0,0]:=⟨by kernel_rfl,by kernel_rfl,by kernel_rfl,by kernel_rfl⟩
def Za.key (m:Za):Value:=kP m.Product m.Agreement
theorem Za.kenc54:KEnc 54 Za.key:=⟨⟨PairKey,key_pair _ _ rfl (by kernel_rfl) (by kernel_rfl) (by decide) (by decide) rfl rfl rfl rfl,fun a=>⟨_,_,rfl⟩⟩,fun a b h=>by cases a;cases b;simp only [Za.key,kP] at h;injection h with h;simp at h;simp [h]⟩
inductive Ze where
 | plain_ (a:Zs)
 | proved_ (a:Zq)
 deriving Inhabited
def Ze.tag:Ze→Nat
 | .plain_ _=>220
 | .proved_ _=>140
def Ze.val:Ze→PV
 | .plain_ a=>.agg [pS a.use.Code,pI a.use.Value,pB a.use.Originating]
 | .proved_ a=>.agg [pS a.use.Code,pI a.use.Value,pB a.use.Originating,pI a.premise.Product,pI a.premise.Agreement]
def Ze.pv (m:Ze):PV:=.ifc m.tag m.val
def Ze.enc (m:Ze):List PV:=[m.pv]
def Ze.is_proved_:Ze→Bool
 | .proved_ _=>true
 | _=>false
def Ze.as_proved_:Ze→Zq
 | .proved_ a=>a
 | _=>(⟨(⟨ByteArray.empty,(0:Int),false⟩:Zk),(⟨(0:Int),(0:Int)⟩:Za)⟩:Zq)
theorem Ze.ta_proved_ (m:Ze):ta 140 m.pv=some (.tup [.agg [pS ((((Ze.as_proved_ m)).use).Code),pI ((((Ze.as_proved_ m)).use).Value),pB ((((Ze.as_proved_ m)).use).Originating),pI ((((Ze.as_proved_ m)).premise).Product),pI ((((Ze.as_proved_ m)).premise).Agreement)],pB (Ze.is_proved_ m)]):=by cases m <;> rfl
inductive Zh where
 | single_ (a:Zt)
 | every_ (a:(List Zh))
 | some_ (a:(List Zh))
 deriving Inhabited
def Zh.tag:Zh→Nat
 | .single_ _=>199
 | .every_ _=>196
 | .some_ _=>197
mutual
def Zh.val:Zh→PV
 | .single_ a=>.agg [pI a.rule.Kind,pI a.rule.Digits,pL eS a.rule.Except,pI a.rule.Tolerance,pI a.rule.Limit,pS a.rule.Name,pL Zc.enc a.rule.Args]
 | .every_ a=>.slc a.length (Zh.encs a)
 | .some_ a=>.slc a.length (Zh.encs a)
def Zh.encs:List Zh→List (List PV)
 | []=>[]
 | r::l=>[.ifc r.tag r.val]::Zh.encs l
end
def Zh.pv (m:Zh):PV:=.ifc m.tag m.val
def Zh.enc (m:Zh):List PV:=[m.pv]
theorem Zh.encs_eq:∀ (l:List Zh),Zh.encs l=List.map Zh.enc l
 | []=>by rw [Zh.encs];rfl
 | r::l=>by rw [Zh.encs,Zh.encs_eq l];rfl
theorem Zh.pv_single_ (a:Zt):(Zh.single_ a).pv=.ifc 199 (.agg [pI a.rule.Kind,pI a.rule.Digits,pL eS a.rule.Except,pI a.rule.Tolerance,pI a.rule.Limit,pS a.rule.Name,pL Zc.enc a.rule.Args]):=by rw [Zh.pv,Zh.val];rfl
theorem Zh.pv_every_ (a:(List Zh)):(Zh.every_ a).pv=.ifc 196 (pL Zh.enc a):=by rw [Zh.pv,Zh.val,Zh.encs_eq];rfl
theorem Zh.pv_some_ (a:(List Zh)):(Zh.some_ a).pv=.ifc 197 (pL Zh.enc a):=by rw [Zh.pv,Zh.val,Zh.encs_eq];rfl
theorem fk8:FnOk 8:=⟨_,Tryz.func8,by kernel_rfl,by kernel_rfl⟩
theorem fk15:FnOk 15:=⟨_,Tryz.func15,by kernel_rfl,by kernel_rfl⟩
theorem fk16:FnOk 16:=⟨_,Tryz.func16,by kernel_rfl,by kernel_rfl⟩
theorem fk17:FnOk 17:=⟨_,Tryz.func17,by kernel_rfl,by kernel_rfl⟩
theorem fk24:FnOk 24:=⟨_,Tryz.func24,by kernel_rfl,by kernel_rfl⟩
theorem fk26:FnOk 26:=⟨_,Tryz.func26,by kernel_rfl,by kernel_rfl⟩
theorem fk27:FnOk 27:=⟨_,Tryz.func27,by kernel_rfl,by kernel_rfl⟩
theorem fk30:FnOk 30:=⟨_,Tryz.func30,by kernel_rfl,by kernel_rfl⟩
theorem fk35:FnOk 35:=⟨_,Tryz.func35,by kernel_rfl,by kernel_rfl⟩
theorem fk36:FnOk 36:=⟨_,Tryz.func36,by kernel_rfl,by kernel_rfl⟩
theorem fk37:FnOk 37:=⟨_,Tryz.func37,by kernel_rfl,by kernel_rfl⟩
theorem fk42:FnOk 42:=⟨_,Tryz.func42,by kernel_rfl,by kernel_rfl⟩
theorem fk43:FnOk 43:=⟨_,Tryz.func43,by kernel_rfl,by kernel_rfl⟩
theorem fk44:FnOk 44:=⟨_,Tryz.func44,by kernel_rfl,by kernel_rfl⟩
theorem fk45:FnOk 45:=⟨_,Tryz.func45,by kernel_rfl,by kernel_rfl⟩
theorem fk46:FnOk 46:=⟨_,Tryz.func46,by kernel_rfl,by kernel_rfl⟩
theorem fk47:FnOk 47:=⟨_,Tryz.func47,by kernel_rfl,by kernel_rfl⟩
theorem fk56:FnOk 56:=⟨_,Tryz.func56,by kernel_rfl,by kernel_rfl⟩
theorem fk57:FnOk 57:=⟨_,Tryz.func57,by kernel_rfl,by kernel_rfl⟩
theorem fk58:FnOk 58:=⟨_,Tryz.func58,by kernel_rfl,by kernel_rfl⟩
theorem fk65:FnOk 65:=⟨_,Tryz.func65,by kernel_rfl,by kernel_rfl⟩
theorem fk66:FnOk 66:=⟨_,Tryz.func66,by kernel_rfl,by kernel_rfl⟩
theorem fk67:FnOk 67:=⟨_,Tryz.func67,by kernel_rfl,by kernel_rfl⟩
theorem fk70:FnOk 70:=⟨_,Tryz.func70,by kernel_rfl,by kernel_rfl⟩
theorem fk71:FnOk 71:=⟨_,Tryz.func71,by kernel_rfl,by kernel_rfl⟩
theorem fk72:FnOk 72:=⟨_,Tryz.func72,by kernel_rfl,by kernel_rfl⟩
theorem fk74:FnOk 74:=⟨_,Tryz.func74,by kernel_rfl,by kernel_rfl⟩
theorem fk75:FnOk 75:=⟨_,Tryz.func75,by kernel_rfl,by kernel_rfl⟩
theorem fk76:FnOk 76:=⟨_,Tryz.func76,by kernel_rfl,by kernel_rfl⟩
theorem fk77:FnOk 77:=⟨_,Tryz.func77,by kernel_rfl,by kernel_rfl⟩
theorem fk78:FnOk 78:=⟨_,Tryz.func78,by kernel_rfl,by kernel_rfl⟩
theorem fk79:FnOk 79:=⟨_,Tryz.func79,by kernel_rfl,by kernel_rfl⟩
theorem fk80:FnOk 80:=⟨_,Tryz.func80,by kernel_rfl,by kernel_rfl⟩
theorem fk81:FnOk 81:=⟨_,Tryz.func81,by kernel_rfl,by kernel_rfl⟩
theorem fk82:FnOk 82:=⟨_,Tryz.func82,by kernel_rfl,by kernel_rfl⟩
theorem fk83:FnOk 83:=⟨_,Tryz.func83,by kernel_rfl,by kernel_rfl⟩
theorem fk87:FnOk 87:=⟨_,Tryz.func87,by kernel_rfl,by kernel_rfl⟩
theorem fk99:FnOk 99:=⟨_,Tryz.func99,by kernel_rfl,by kernel_rfl⟩
theorem fk100:FnOk 100:=⟨_,Tryz.func100,by kernel_rfl,by kernel_rfl⟩
theorem fk101:FnOk 101:=⟨_,Tryz.func101,by kernel_rfl,by kernel_rfl⟩
theorem fk102:FnOk 102:=⟨_,Tryz.func102,by kernel_rfl,by kernel_rfl⟩
theorem fk103:FnOk 103:=⟨_,Tryz.func103,by kernel_rfl,by kernel_rfl⟩
theorem fk109:FnOk 109:=⟨_,Tryz.func109,by kernel_rfl,by kernel_rfl⟩
theorem fk110:FnOk 110:=⟨_,Tryz.func110,by kernel_rfl,by kernel_rfl⟩
theorem fk111:FnOk 111:=⟨_,Tryz.func111,by kernel_rfl,by kernel_rfl⟩
theorem fk114:FnOk 114:=⟨_,Tryz.func114,by kernel_rfl,by kernel_rfl⟩
theorem fk115:FnOk 115:=⟨_,Tryz.func115,by kernel_rfl,by kernel_rfl⟩
theorem fk116:FnOk 116:=⟨_,Tryz.func116,by kernel_rfl,by kernel_rfl⟩
theorem fk117:FnOk 117:=⟨_,Tryz.func117,by kernel_rfl,by kernel_rfl⟩
theorem fk118:FnOk 118:=⟨_,Tryz.func118,by kernel_rfl,by kernel_rfl⟩
theorem fk119:FnOk 119:=⟨_,Tryz.func119,by kernel_rfl,by kernel_rfl⟩
theorem fk120:FnOk 120:=⟨_,Tryz.func120,by kernel_rfl,by kernel_rfl⟩
theorem fk121:FnOk 121:=⟨_,Tryz.func121,by kernel_rfl,by kernel_rfl⟩
theorem fk122:FnOk 122:=⟨_,Tryz.func122,by kernel_rfl,by kernel_rfl⟩
theorem fk123:FnOk 123:=⟨_,Tryz.func123,by kernel_rfl,by kernel_rfl⟩
theorem fk124:FnOk 124:=⟨_,Tryz.func124,by kernel_rfl,by kernel_rfl⟩
theorem fk125:FnOk 125:=⟨_,Tryz.func125,by kernel_rfl,by kernel_rfl⟩
theorem fk126:FnOk 126:=⟨_,Tryz.func126,by kernel_rfl,by kernel_rfl⟩
theorem fk127:FnOk 127:=⟨_,Tryz.func127,by kernel_rfl,by kernel_rfl⟩
theorem fk128:FnOk 128:=⟨_,Tryz.func128,by kernel_rfl,by kernel_rfl⟩
theorem fk138:FnOk 138:=⟨_,Tryz.func138,by kernel_rfl,by kernel_rfl⟩
theorem fk139:FnOk 139:=⟨_,Tryz.func139,by kernel_rfl,by kernel_rfl⟩
theorem fk140:FnOk 140:=⟨_,Tryz.func140,by kernel_rfl,by kernel_rfl⟩
theorem fk141:FnOk 141:=⟨_,Tryz.func141,by kernel_rfl,by kernel_rfl⟩
theorem fk142:FnOk 142:=⟨_,Tryz.func142,by kernel_rfl,by kernel_rfl⟩
theorem fk152:FnOk 152:=⟨_,Tryz.func152,by kernel_rfl,by kernel_rfl⟩
theorem fk153:FnOk 153:=⟨_,Tryz.func153,by kernel_rfl,by kernel_rfl⟩
theorem fk154:FnOk 154:=⟨_,Tryz.func154,by kernel_rfl,by kernel_rfl⟩
theorem fk155:FnOk 155:=⟨_,Tryz.func155,by kernel_rfl,by kernel_rfl⟩
theorem fk156:FnOk 156:=⟨_,Tryz.func156,by kernel_rfl,by kernel_rfl⟩
theorem fk157:FnOk 157:=⟨_,Tryz.func157,by kernel_rfl,by kernel_rfl⟩
theorem fk158:FnOk 158:=⟨_,Tryz.func158,by kernel_rfl,by kernel_rfl⟩
theorem fk159:FnOk 159:=⟨_,Tryz.func159,by kernel_rfl,by kernel_rfl⟩
theorem fk160:FnOk 160:=⟨_,Tryz.func160,by kernel_rfl,by kernel_rfl⟩
theorem fk161:FnOk 161:=⟨_,Tryz.func161,by kernel_rfl,by kernel_rfl⟩
theorem fk162:FnOk 162:=⟨_,Tryz.func162,by kernel_rfl,by kernel_rfl⟩
theorem fk163:FnOk 163:=⟨_,Tryz.func163,by kernel_rfl,by kernel_rfl⟩
theorem fk164:FnOk 164:=⟨_,Tryz.func164,by kernel_rfl,by kernel_rfl⟩
theorem fk165:FnOk 165:=⟨_,Tryz.func165,by kernel_rfl,by kernel_rfl⟩
theorem fk166:FnOk 166:=⟨_,Tryz.func166,by kernel_rfl,by kernel_rfl⟩
theorem fk172:FnOk 172:=⟨_,Tryz.func172,by kernel_rfl,by kernel_rfl⟩
theorem fk173:FnOk 173:=⟨_,Tryz.func173,by kernel_rfl,by kernel_rfl⟩
theorem fk174:FnOk 174:=⟨_,Tryz.func174,by kernel_rfl,by kernel_rfl⟩
theorem fk175:FnOk 175:=⟨_,Tryz.func175,by kernel_rfl,by kernel_rfl⟩
theorem fk181:FnOk 181:=⟨_,Tryz.func181,by kernel_rfl,by kernel_rfl⟩
theorem fk182:FnOk 182:=⟨_,Tryz.func182,by kernel_rfl,by kernel_rfl⟩
theorem fk183:FnOk 183:=⟨_,Tryz.func183,by kernel_rfl,by kernel_rfl⟩
theorem fk185:FnOk 185:=⟨_,Tryz.func185,by kernel_rfl,by kernel_rfl⟩
theorem fk186:FnOk 186:=⟨_,Tryz.func186,by kernel_rfl,by kernel_rfl⟩
theorem fk191:FnOk 191:=⟨_,Tryz.func191,by kernel_rfl,by kernel_rfl⟩
theorem fk192:FnOk 192:=⟨_,Tryz.func192,by kernel_rfl,by kernel_rfl⟩
theorem fk193:FnOk 193:=⟨_,Tryz.func193,by kernel_rfl,by kernel_rfl⟩
theorem fk206:FnOk 206:=⟨_,Tryz.func206,by kernel_rfl,by kernel_rfl⟩
theorem fk207:FnOk 207:=⟨_,Tryz.func207,by kernel_rfl,by kernel_rfl⟩
theorem fk208:FnOk 208:=⟨_,Tryz.func208,by kernel_rfl,by kernel_rfl⟩
theorem fk209:FnOk 209:=⟨_,Tryz.func209,by kernel_rfl,by kernel_rfl⟩
theorem fk217:FnOk 217:=⟨_,Tryz.func217,by kernel_rfl,by kernel_rfl⟩
theorem fk244:FnOk 244:=⟨_,Tryz.func244,by kernel_rfl,by kernel_rfl⟩
theorem fk246:FnOk 246:=⟨_,Tryz.func246,by kernel_rfl,by kernel_rfl⟩
theorem fk248:FnOk 248:=⟨_,Tryz.func248,by kernel_rfl,by kernel_rfl⟩
theorem fk249:FnOk 249:=⟨_,Tryz.func249,by kernel_rfl,by kernel_rfl⟩
theorem fk250:FnOk 250:=⟨_,Tryz.func250,by kernel_rfl,by kernel_rfl⟩
theorem fk252:FnOk 252:=⟨_,Tryz.func252,by kernel_rfl,by kernel_rfl⟩
theorem fk253:FnOk 253:=⟨_,Tryz.func253,by kernel_rfl,by kernel_rfl⟩
theorem fk254:FnOk 254:=⟨_,Tryz.func254,by kernel_rfl,by kernel_rfl⟩
theorem fk255:FnOk 255:=⟨_,Tryz.func255,by kernel_rfl,by kernel_rfl⟩
theorem fk256:FnOk 256:=⟨_,Tryz.func256,by kernel_rfl,by kernel_rfl⟩
theorem fk257:FnOk 257:=⟨_,Tryz.func257,by kernel_rfl,by kernel_rfl⟩
theorem fk258:FnOk 258:=⟨_,Tryz.func258,by kernel_rfl,by kernel_rfl⟩
theorem fk259:FnOk 259:=⟨_,Tryz.func259,by kernel_rfl,by kernel_rfl⟩
theorem fk260:FnOk 260:=⟨_,Tryz.func260,by kernel_rfl,by kernel_rfl⟩
section
variable {o:Oper} {σ:PEnv} {ρ:List PRes} {f:Nat} {l:List Operand} {ts:Array Nat} {pargs caps:List PV} {x:Operand} {KV:PV→List PRes→Prop}
theorem xla {R:PV→List PRes→Prop} {ρ1 ρ2:List PRes} (ho:o.op=.call { callee:=.value x,args:=l.toArray,argTypes:=ts }) (hx:pevc σ x=.fn f caps) (ha:l.map (pevc σ)++caps=pargs) (hp:ρ.Perm (ρ1++ρ2)) (hc:PCall f pargs ρ1 R) (h:∀ pv ρ',R pv ρ'→KV pv (ρ'++ρ2)):POpL o σ ρ KV:=fun κ σ' ρ' g hs hr=>by
 obtain ⟨rs,h1,h2⟩:=hr.perm hp
 obtain ⟨r1,r2,rfl,h3,h4⟩:=h2.split
 have hv:=hs.ev x
 rw [hx] at hv
 generalize hw:ev σ' x=fv at hv
 cases hv with
 | fn hcap=>exact xfg (first:=[]) ho hw rfl h1 (hc κ _ r1 g (by rw [← ha];exact (ykq hs l).app hcap) h3) fun v ρ'' κ' hk ⟨pv,ρp,g1,g2,g3⟩=>⟨pv,ρp++ρ2,g1,g2.app (h4.mono hk),h pv ρp g3⟩
end
theorem ytm {P:Program} (w:World) (t tx ty e:TypeId) (i:TypeInfo) (z:Value) (ht:P.underlying t=some (.slice e)) (hx:P.underlying tx=some (.int .i64)) (hi:P.info? e=some i) (hz:i.zero=some z) (n:Nat) (hn:0<n) (hs:0<i.size) (hb:n*i.bytes≤140737488355328) (hm:n≤140737488355328) :
    (Builtin.append_ #[t,tx] ty #[.slice none 0 0,.int .i64 (n:Int)]).run P w=.ok (.slice (some ⟨w.heap.size,0,none⟩) n (grownCap w n 0 e)) (w.drew.alloc (.cells (Builtin.zeroCells z.cells n++Builtin.zeroCells z.cells (grownCap w n 0 e - n)) e)):=by
  have hw:IntKind.i64.wrap (n:Int)=n:=by simp [IntKind.wrap,IntKind.signed,IntKind.bits];omega
  have h1:¬ ((n:Int)<0):=by omega
  have h2:¬ (281474976710656<(n:Int)*(i.bytes:Int)):=by
    have:(n:Int)*(i.bytes:Int)=((n*i.bytes:Nat):Int):=by simp
    omega
  have h3:¬ n=0:=by omega
  have h4:¬ i.size=0:=by omega
  have h5:¬ (281474976710656<Builtin.nextslicecap n 0*i.bytes):=by
    have:Builtin.nextslicecap n 0=n:=by unfold Builtin.nextslicecap;rw [if_pos (by omega)]
    rw [this];omega
  have h6:¬ (9223372036854775807<(n:Int)):=by omega
  simp [Builtin.append_,run_underlying ht,run_underlying hx,sizeOf,typeInfo,zeroValue,hi,hz,asInt,asIntOf,hw,h1,h2,h3,h4,h5,h6,Question.forced,newRow,grownCap,Builtin.firstCells]
  exact fun h=>absurd h (Nat.mul_ne_zero h3 h4)
theorem ol_growZ {o:Oper} {σ:Env} {ρ l:List Res} {κ:Kr} {K:Value→List Res→Kr→Prop} {s x:Operand} {t ti T n sz by':Nat} {z:Value} (ho:o.op=.call { callee:=.builtin .append,args:=#[s,x],argTypes:=#[t,ti] }) (hu:und t=some (.slice T)) (hui:und ti=some (.int .i64)) (hi:inf T=some (z,sz,by')) (hz:Nat.beq z.cells.size sz=true) (h0:Nat.blt 0 sz=true) (hs:ev σ s=.slice none 0 0) (hx:ev σ x=.int .i64 (n:Int)) (hn:0<n) (hb:n*by'≤140737488355328∧n≤140737488355328)
    (hp:Pick ρ (Res.row none 0 0 T sz []) l) (h:∀ a c κ',Kle κ κ'→n≤c→K (.slice a n c) (Res.row a 0 c T sz []::l) κ'):OpL o σ ρ κ K:=fun β hinv Nx hk=>by
  obtain ⟨i,hinf,hz0,hsz,hby⟩:=ysm hi
  have hsz0:0<sz:=by have h:=h0;simp [Nat.blt] at h;omega
  have hr:=ytm (P:=Tryz.prog) κ.w t ti o.type T i z (ycf hu) (ycf hui) hinf hz0 n hn (by rw [hsz];exact hsz0) (by rw [hby];exact hb.1) hb.2
  have hge:=grownCap_ge κ.w n 0 T
  have hcm:grownCap κ.w n 0 T≤maxLen:=grownCap_le_maxLen κ.w n 0 T (by unfold maxLen;omega)
  have hi2:=hinv.perm hp
  have hzs:=Nat.eq_of_beq_eq_true hz
  have hhold:(Res.row (some ⟨κ.w.heap.size,0,none⟩) 0 (grownCap κ.w n 0 T) T sz []).holds (κ.w.drew.alloc (.cells (Builtin.zeroCells z.cells n++Builtin.zeroCells z.cells (grownCap κ.w n 0 T - n)) T)):=by
    refine ⟨rfl,rfl,fun _ h=>(by cases h),Nat.zero_le _,hcm,_,heap_alloc_new κ.w.drew _,?_,by simp⟩
    simp only [Array.size_append,size_zeroCells,hzs,← Nat.add_mul]
    congr 1;omega
  obtain ⟨hi3,hk3⟩:=hi2.grow (r':=Res.row (some ⟨κ.w.heap.size,0,none⟩) 0 (grownCap κ.w n 0 T) T sz []) (w':=κ.w.drew.alloc (.cells (Builtin.zeroCells z.cells n++Builtin.zeroCells z.cells (grownCap κ.w n 0 T - n)) T)) ⟨rfl,rfl,rfl,by simp,fun k hk _=>by first | exact Go.heap_alloc_old κ.w.drew _ k hk | exact heap_alloc_old κ.w.drew _ hk⟩ (.inr (.inr rfl)) hhold (xji hhold) (yoy _ _ _ _ _ hr)
  unfold execOp
  simp only [ho,resolve,invoke,builtin,Sem.run_bind,Sem.run_pure,Result.andThen_ok,List.map_toArray,List.map_cons,List.map_nil,hs,hx,hr,OutV]
  exact hk _ _ _ hi3 hk3 (h _ _ _ hk3 hge)
theorem xge {o:Oper} {σ:PEnv} {ρ l:List PRes} {K:PV→List PRes→Prop} {s x:Operand} {t ti T sz by':Nat} {n:Int} {z:Value} {u:Unit} (ho:o.op=.call { callee:=.builtin .append,args:=#[s,x],argTypes:=#[t,ti] }) (hu:und t=some (.slice T)) (hui:und ti=some (.int .i64)) (hi:inf T=some (z,sz,by')) (hz:Nat.beq z.cells.size sz=true) (h0:Nat.blt 0 sz=true) (hs:pevc σ s=.v (.slice none 0 0)) (hx:pevc σ x=.v (.int .i64 n)) (hn:0<n) (hm:mk0 by' n=some u)
    (hp:PPick ρ (.row none 0 0 T sz []) l) (h:∀ a c,n.toNat≤c→K (.v (.slice a n.toNat c)) (.row a 0 c T sz []::l)):POpL o σ ρ K:=fun κ σ' ρ' g hm' hrr=>by
  unfold mk0 at hm
  split at hm
  · rename_i hb
    obtain ⟨h1,h2,h3⟩:=hb
    have hn':n=((n.toNat:Nat):Int):=by omega
    obtain ⟨r,l',k1,k2,k3⟩:=hrr.pick hp
    cases k2 with
    | row hbn ho1 hc =>
      rename_i dss
      have:=hc.nil_inv;subst this
      exact ol_growZ ho hu hui hi hz h0 (hm'.v1 hs) (by rw [hm'.v1 hx,← hn']) (by omega) ⟨by rw [Nat.mul_comm];exact h2,h3⟩ k1 fun a c κ' hk hge=>⟨_,_,.v rfl,.cons (.row (by omega) (fun _ h=>by cases h) .nil) (k3.mono hk),h a c hge⟩
  cases hm
theorem mk0_le {by':Nat} {n:Int} {u:Unit} (h:mk0 by' n=some u):0≤n∧n≤140737488355328:=by
 unfold mk0 at h
 split at h
 ·rename_i hb;omega
 cases h
theorem xbq {n:Int} (h0:0≤n) (h1:n≤140737488355328):IntKind.i64.wrap (n - IntKind.i64.wrap (((0:Nat):Int) - ((0:Nat):Int)))=n:=by
 simp [IntKind.wrap,IntKind.signed,IntKind.bits];omega
theorem oq_cap {o:Oper} {σ:Env} {ρ:List Res} {κ:Kr} {c:Bool} {x:Operand} {t n cp E:Nat} {a:Option Addr} (ho:o.op=.call { callee:=.builtin .cap,args:=#[x],argTypes:=#[t] }) (hu:und t=some (.slice E)) (hx:Ev σ c x (.slice a n cp)):OpQ c o σ ρ κ (.int .i64 (cp:Int)):=fun hc w _=>by
 simp [execOp,ho,resolve,invoke,builtin,Builtin.cap_,hx hc,run_underlying (ycf hu),goInt]
theorem yzo {o:Oper} {σ:PEnv} {ρ:List PRes} {c:Bool} {x:Operand} {t E nn cp:Nat} {ad:Option Addr} (ho:o.op=.call { callee:=.builtin .cap,args:=#[x],argTypes:=#[t] }) (hu:und t=some (.slice E)) (hx:PEv σ c x (.v (.slice ad nn cp))):POpQ c o σ ρ (.v (.int .i64 (cp:Int))):=fun κ σ' ρ' g hs hrr=>⟨_,fun _=>.v rfl,oq_cap ho hu (hs.ve hx)⟩
theorem yrx {o:Oper} {σ:PEnv} {ρ:List PRes} {c:Bool} {x y:Operand} {t E sz by' nn cp k:Nat} {z:Value} {ad:Option Addr} {kd:IntKind} {i:Int} (ho:o.op=.slice t x none (some y) none) (hu:und t=some (.slice E)) (hi:inf E=some (z,sz,by')) (hx:PEv σ c x (.v (.slice ad nn cp))) (hy:PEv σ c y (.v (.int kd i))) (hik:i=(k:Int)) (hk:k≤cp):POpQ c o σ ρ (.v (.slice ad k cp)):=fun κ σ' ρ' g hs hrr=>⟨_,fun _=>.v rfl,yso ho hu hi (hs.ve hx) (hs.ve hy) (fun _=>hik) (fun _=>hk)⟩
end SX
namespace SX
open Go
attribute [local irreducible] PWL PWC PWD POpL POpQ PEv PGuardIs PSub PPick PUpd PSplice PFill PLit PF PFV PCall FOk pseqK pblockK pmidK pcutK ploopK pretK Cov PHolds loopF idx app mk gd lb nz ge0 cat sub ssub iand ior ixor ishl ishr imin imax IntKind.wrap Int.tmod Int.tdiv Op.bytesLess strOfNums
def made_Cut (p0:(List Int)) (p1:Int):Option (List Int):=cond (decide (p1<(p0.length:Int))) (Option.bind (sub p0 0 p1) (fun l2=>some l2)) (some p0)
theorem yvc {p0:(List Int)} {p1:Int} {r:(List Int)}  (h:made_Cut p0 p1=some r):PF 42 [pL eI p0,pI p1] (pL eI r):=by
 unfold made_Cut at h
 refine ych ?_
 refine ybc Tryz.func42 fk42 rfl Tryz.ntmps42 Tryz.results42 rfl (yaa (yac [] [4] [] fo0 (by kernel_rfl) (yab (yaa (yaa (yac [] [5,6,7] [(8,pB (decide (p1<(p0.length:Int))))] fo0 (by kernel_rfl) (yab (zif rfl h (fun hc1 h=>?_) fun hc1 h=>?_))))))))
 ·refine yaa ?_
  refine yad h fun l2 hl2 h=>yac [] [9,10,11] [(4,pL eI l2)] (fosl 2 eI 1 (fun _=>rfl) hl2 fo0) (by kernel_rfl) (yab (yai (yah ?_)))
  obtain rfl:=osi h
  exact zq rfl ⟨rfl,rfl⟩
 refine yag ?_
 refine yab (yaa (yac [] [12] [(4,pL eI p0)] fo0 (by kernel_rfl) (yab (yai ?_))))
 obtain rfl:=osi h
 exact zq rfl ⟨rfl,rfl⟩
def yie (p0:Int) (p1:Int):Option Int:=Option.bind (nz p1) (fun u1=>Option.bind (nz p1) (fun u2=>lb ((Int.tmod (IntKind.i64.wrap ((Int.tmod p0 p1)+p1)) p1)) (fun w3=>some w3)))
theorem yqv {p0:Int} {p1:Int} {r:Int}  (h:yie p0 p1=some r):PF 27 [pI p0,pI p1] (pI r):=by
 unfold yie at h
 refine ych ?_
 refine ybc Tryz.func27 fk27 rfl Tryz.ntmps27 Tryz.results27 rfl (yaa (yac [] [4] [] fo0 (by kernel_rfl) (yab (yaa (yad h fun u1 hu1 h=>yad h fun u2 hu2 h=>?_)))))
 refine yhd h ?_;clear h;intro w3 hw3 h
 refine yae (yaj 7 [] (rg 5 6) [(11,pI (Int.tmod (IntKind.i64.wrap ((Int.tmod p0 p1)+p1)) p1))] (fonz 2 hu1 (fonz 6 hu2 fo0)) (by kernel_rfl) (ycz rfl rfl rfl (ycc rfl (.p (congrArg (fun z=>PV.v (Value.int .i64 z)) hw3))) (yau (yab (yai ?_)))))
 obtain rfl:=osi h
 exact zq rfl ⟨rfl,rfl⟩
def yas (p0:Zl) (p1:Int):Option (Int×Zl):=cond (decide ((p0.L.length:Int)≤p0.I)) (some ((0:Int),p0)) (Option.bind (idx p0.L (IntKind.i64.wrap ((IntKind.i64.wrap (p0.I+1)) - 1))) (fun m2=>Option.bind (yie m2 p1) (fun x3=>some (x3,(⟨p0.L,(IntKind.i64.wrap (p0.I+1))⟩:Zl)))))
theorem yar {p0:Zl} {p1:Int} {b0:Nat} {r:(Int×Zl)}  (h:yas p0 p1=some r):PCall 43 [pP b0 0,pI p1] [PRes.b b0 86 [pL eI p0.L,pI p0.I]] (fun pv ρ'=>pv=pI r.1∧ρ'=[PRes.b b0 86 [pL eI r.2.L,pI r.2.I]]):=by
 unfold yas at h
 refine ybc Tryz.func43 fk43 rfl Tryz.ntmps43 Tryz.results43 rfl (yaa (yac [] [4] [] fo0 (by kernel_rfl) (yab (yaa (yaa (yei (ρd:=[]) [(0,0),(1,0),(2,0),(3,0),(4,0),(5,0),(6,0),(7,0),(8,0),(9,0)] _ (List.Perm.refl _) (by kernel_rfl) rfl (ycq 10 [0,0] (rg 5 9) [(14,pB (decide ((p0.L.length:Int)≤p0.I)))] fo0 (by kernel_rfl) (ygc (yab (zif rfl h (fun hc1 h=>?_) fun hc1 h=>?_))))))))))
 ·refine yaa ?_
  refine yac [] [] [(4,pI 0)] fo0 (by kernel_rfl) (yab (yai (yah ?_)))
  obtain rfl:=osi h
  exact ybh (ygn (ybn rfl)) (zs1) ⟨rfl,rfl⟩
 refine yag ?_
 refine yab (yaa (yae (yaj 7 [0] [15,16,17,18,20] [(19,pI (IntKind.i64.wrap (p0.I+1))),(21,pP b0 1)] fo0 (by kernel_rfl) (ybq rfl rfl (yaq (vs:=[pI (IntKind.i64.wrap (p0.I+1))]) rfl rfl rfl rfl rfl zuh (zlt (zl1)) (yau (yab (yaa (yei (ρd:=[]) [(0,0),(1,0),(2,0),(3,0),(4,0),(5,0),(6,0),(7,0),(8,0),(9,0),(10,0),(11,0),(12,1),(13,0)] _ (List.Perm.refl _) (by kernel_rfl) rfl (yad h fun m2 hm2 h=>yad h fun x3 hx3 h=>ycq 14 [0,0] (rg 22 13) [(4,pI x3)] (ymr 9 eI hm2 (yfg 12 (yqv hx3) fo0)) (by kernel_rfl) (ygc (yab (yai ?_)))))))))))))
 obtain rfl:=osi h
 exact ybh (ygn (ybn rfl)) (zs1) ⟨rfl,rfl⟩
def ygw (p0:Zl) (p1:Int):Option (ByteArray×Zl):=Option.bind (yas p0 2) (fun x1=>Option.bind (loopF (S:=(List Int)×(List Int)×Int) (T:=((List Int)×(List Int)×Int)) (fun (l5,l8,v9)=>cond (decide (((l5.length:Nat):Int)<p1)) (Option.bind (yas (⟨l8,v9⟩:Zl) 3) (fun x19=>Option.bind (app 1 l5 [48,(IntKind.u8.wrap (IntKind.i64.wrap (49+x19.1)))]) (fun l22=>some (.inl (l22,x19.2.L,x19.2.I))))) (some (.inr (l5,l8,v9)))) FUEL ([57,(IntKind.u8.wrap (IntKind.i64.wrap (52+x1.1)))],x1.2.L,x1.2.I)) (fun (l13,l14,v15)=>some ((strOfNums l13),(⟨l14,v15⟩:Zl))))
theorem yrh {p0:Zl} {p1:Int} {b0:Nat} {r:(ByteArray×Zl)}  (h:ygw p0 p1=some r):PCall 44 [pP b0 0,pI p1] [PRes.b b0 86 [pL eI p0.L,pI p0.I]] (fun pv ρ'=>pv=pS r.1∧ρ'=[PRes.b b0 86 [pL eI r.2.L,pI r.2.I]]):=by
 unfold ygw at h
 refine ybc Tryz.func44 fk44 rfl Tryz.ntmps44 Tryz.results44 rfl (yaa (yac [] [4] [] fo0 (by kernel_rfl) (yab (yaa (yad h fun x1 hx1 h=>yae (yaj 1 [] [] [(6,pP b0 0)] fo0 (by kernel_rfl) ?_))))))
 refine yat rfl rfl rfl (ybj rfl rfl (ρ1:=[_]) (yaw (by exact zph) (List.Perm.refl _)) (yar hx1) ?_);rintro _ _ ⟨rfl,rfl⟩
 refine yaj 2 [] [8] [(9,pY (IntKind.u8.wrap (IntKind.i64.wrap (52+x1.1))))] fo0 (by kernel_rfl) (yat rfl rfl rfl (ycg rfl rfl rfl rfl rfl (zic rfl (zic rfl zin)) rfl rfl rfl rfl (fun b2=>yan [] [] [(5,pO (some ⟨b2,0,none⟩) 2 2)] fo0 (by kernel_rfl) (yab (yaa (yad h fun q17 hq17 h=>?_))))))
 refine yav (Y:=(Option Addr×Nat)×((List Int)×(List Int)×Int)) (fun ((a11,c12),(l13,l14,v15))=>[(5,pO a11 l13.length c12)]) (fun ((a11,c12),(l13,l14,v15))=>[PRes.b b0 86 [pL eI l14,pI v15],PRes.row a11 l13.length c12 5 1 (List.map eB l13)]) (fun ((a11,c12),(l13,l14,v15))=>q17=(l13,l14,v15)) ?_ ?_
 ·refine yak ?_
  refine yay (Y:=Option Addr×Nat) (S:=(List Int)×(List Int)×Int) _ hq17 (fun (a6,c7) (l5,l8,v9)=>[(0,pP b0 0),(1,pI p1),(5,pO a6 l5.length c7)]) (fun (a6,c7) (l5,l8,v9)=>[PRes.b b0 86 [pL eI l8,pI v9],PRes.row a6 l5.length c7 5 1 (List.map eB l5)]) ((some ⟨b2,0,none⟩),2) (zh3 rfl rfl rfl) (zsc (zpt zph) (zs1)) ?_
  rintro ⟨a6,c7⟩ ⟨l5,l8,v9⟩ o τ hb16;(try dsimp only at hb16);dsimp only [pupds]
  refine yaa (yaa (yac [] [11,12,13] [(14,pB (decide (((l5.length:Nat):Int)<p1)))] fo0 (by kernel_rfl) (yab (zif rfl hb16 (fun hc18 hb16=>?_) fun hc18 hb16=>?_))))
  ·refine yag ?_
   refine yab (yak (yad hb16 fun x19 hx19 hb16=>yae (yaj 2 [] [] [(15,pO a6 l5.length c7),(16,pP b0 0)] fo0 (by kernel_rfl) ?_)))
   refine yat rfl rfl rfl (ybj rfl rfl (ρ1:=[_]) (yaw (by exact zph) (List.Perm.refl _)) (yar hx19) ?_);rintro _ _ ⟨rfl,rfl⟩
   refine yaj 2 [] [18] [(19,pY (IntKind.u8.wrap (IntKind.i64.wrap (49+x19.1))))] fo0 (by kernel_rfl) (yat rfl rfl rfl (ycg rfl rfl rfl rfl rfl (zic rfl (zic rfl zin)) rfl rfl rfl rfl (fun b20=>yad hb16 fun l22 hl22 hb16=>?_)))
   refine yat rfl rfl rfl (yci (enc:=eB) rfl rfl rfl rfl rfl rfl rfl rfl rfl zm0 (by exact zpt (zpt zph)) hl22 (fun a23 c24=>?_))
   refine yan [] [] [(5,pO a23 l22.length c24)] fo0 (by kernel_rfl) (yal ?_)
   exact ybu hb16 (a23,c24) (zh3 rfl rfl rfl) (zsc (zpt (zpt zph)) (zs1))
  refine ybd ?_
  refine yap (yam hb16 (fun ht=>yao rfl ?_))
  exact yaz ((a6,c7),(l5,l8,v9)) (zh1 rfl) (zs2) ht.symm
 rintro ⟨⟨a11,c12⟩,⟨l13,l14,v15⟩⟩ τ hz;(try dsimp only at hz);subst q17;(try dsimp only at h);dsimp only [pupds]
 refine yaa (yae (yaj 1 [] [] [(22,pO a11 l13.length c12)] fo0 (by kernel_rfl) (yat rfl rfl rfl (pq_bytes rfl rfl rfl rfl rfl (xs:=l13) zm1 rfl (yan [] [] [(4,pS (strOfNums l13))] fo0 (by kernel_rfl) (yab (yai ?_)))))))
 obtain rfl:=osi h
 exact ybh (ygn (ybn rfl)) (zs1) ⟨rfl,rfl⟩
def ygx  : Option (List ByteArray):=some [(⟨#[65,65]⟩:ByteArray),(⟨#[66,66]⟩:ByteArray),(⟨#[67,67]⟩:ByteArray),(⟨#[68,68]⟩:ByteArray),(⟨#[69,69]⟩:ByteArray),(⟨#[70,70]⟩:ByteArray)]
theorem yjg  {r:(List ByteArray)}  (h:ygx  = some r):PF 45 [] (pL eS r):=by
 unfold ygx at h
 refine ych ?_
 refine ybc Tryz.func45 fk45 rfl Tryz.ntmps45 Tryz.results45 rfl (yaa (yac [] [0] [] fo0 (by kernel_rfl) (yab (yaa (yae (yat rfl rfl rfl (ycg rfl rfl rfl rfl rfl (zic rfl (zic rfl (zic rfl (zic rfl (zic rfl (zic rfl zin)))))) rfl rfl rfl rfl (fun b1=>yan [] [] [(0,pO (some ⟨b1,0,none⟩) 6 6)] fo0 (by kernel_rfl) (yab ?_)))))))))
 refine yhl (enc:=eS) (xs:=[(⟨#[65,65]⟩:ByteArray),(⟨#[66,66]⟩:ByteArray),(⟨#[67,67]⟩:ByteArray),(⟨#[68,68]⟩:ByteArray),(⟨#[69,69]⟩:ByteArray),(⟨#[70,70]⟩:ByteArray)]) 0 rfl (by exact zph) ?_
 refine yai ?_
 obtain rfl:=osi h
 exact zq rfl ⟨rfl,rfl⟩
def yef (p0:Zl):Option ((List ByteArray)×Zl):=Option.bind (yas p0 32) (fun x1=>Option.bind (loopF (S:=(List ByteArray)×Int) (T:=((List ByteArray))) (fun (l3,v6)=>cond (decide (v6<5)) (Option.bind (Option.bind (ge0 v6) (fun u20=>cond ((iand .i64 (ishr .i64 x1.1 v6) 1) == 1) (Option.bind (idx [(⟨#[97,110,100]⟩:ByteArray),(⟨#[99,117,116]⟩:ByteArray),(⟨#[111,114]⟩:ByteArray),(⟨#[115,101,119]⟩:ByteArray),(⟨#[115,112,105,110]⟩:ByteArray)] v6) (fun m24=>Option.bind (app 16 l3 [m24]) (fun l27=>some l27))) (some l3))) (fun l18=>some (.inl (l18,(IntKind.i64.wrap (v6+1)))))) (some (.inr l3))) FUEL (([]:List ByteArray),0)) (fun l10=>some (l10,x1.2)))
theorem ymy {p0:Zl} {b0:Nat} {r:((List ByteArray)×Zl)}  (h:yef p0=some r):PCall 46 [pP b0 0] [PRes.b b0 86 [pL eI p0.L,pI p0.I]] (fun pv ρ'=>pv=pL eS r.1∧ρ'=[PRes.b b0 86 [pL eI r.2.L,pI r.2.I]]):=by
 unfold yef at h
 refine ybc Tryz.func46 fk46 rfl Tryz.ntmps46 Tryz.results46 rfl (yaa (yac [] [2] [] fo0 (by kernel_rfl) (yab (yaa (yac [] [] [(3,pN)] fo0 (by kernel_rfl) (yab (yaa (yad h fun x1 hx1 h=>yae (yaj 1 [] [] [(6,pP b0 0)] fo0 (by kernel_rfl) ?_)))))))))
 refine yat rfl rfl rfl (ybj rfl rfl (ρ1:=[_]) (yaw (by exact zph) (List.Perm.refl _)) (yar hx1) ?_);rintro _ _ ⟨rfl,rfl⟩
 refine yan [] [] [(4,pI x1.1)] fo0 (by kernel_rfl) (yab (yaa (yaa (yac [] [] [(5,pI 0)] fo0 (by kernel_rfl) (yab (ycr 9 1 (yad h fun q12 hq12 h=>?_)))))))
 refine yav (Y:=(Option Addr×Nat)×((List ByteArray))) (fun ((a8,c9),l10)=>[(3,pO a8 l10.length c9)]) (fun ((a8,c9),l10)=>[PRes.b b0 86 [pL eI x1.2.L,pI x1.2.I],PRes.row a8 l10.length c9 9 1 (List.map eS l10)]) (fun ((a8,c9),l10)=>q12=l10) ?_ ?_
 ·refine yak ?_
  refine yay (Y:=Option Addr×Nat) (S:=(List ByteArray)×Int) _ hq12 (fun (a4,c5) (l3,v6)=>[(3,pO a4 l3.length c5),(4,pI x1.1),(5,pI v6)]) (fun (a4,c5) (l3,v6)=>[PRes.b b0 86 [pL eI x1.2.L,pI x1.2.I],PRes.row a4 l3.length c5 9 1 (List.map eS l3)]) (none,0) (zh3 rfl rfl rfl) (zsc (zpt zph) (zs1)) ?_
  rintro ⟨a4,c5⟩ ⟨l3,v6⟩ o τ hb11;(try dsimp only at hb11);dsimp only [pupds]
  refine yaa (yaa (yac [] [8] [(9,pB (decide (v6<5)))] fo0 (by kernel_rfl) (yab (zif rfl hb11 (fun hc14 hb11=>?_) fun hc14 hb11=>?_))))
  ·refine yag ?_
   refine yab (yaa (yad hb11 fun q19 hq19 hb11=>?_))
   refine yav (Y:=(Option Addr×Nat)×((List ByteArray))) (fun ((a16,c17),l18)=>[(3,pO a16 l18.length c17),(4,pI x1.1),(5,pI v6)]) (fun ((a16,c17),l18)=>[PRes.b b0 86 [pL eI x1.2.L,pI x1.2.I],PRes.row a16 l18.length c17 9 1 (List.map eS l18)]) (fun ((a16,c17),l18)=>q19=l18) ?_ ?_
   ·skip
    refine yak (yaa (yad hq19 fun u20 hu20 hq19=>yac [] [12,13,14,15] [(16,pB ((iand .i64 (ishr .i64 x1.1 v6) 1) == 1))] (foge 2 hu20 fo0) (by kernel_rfl) (yab (zif rfl hq19 (fun hc21 hq19=>?_) fun hc21 hq19=>?_))))
    ·refine yae ?_
     refine yaj 1 [] [] [(17,pO a4 l3.length c5)] fo0 (by kernel_rfl) (yat rfl rfl rfl (ycg rfl rfl rfl rfl rfl (zic rfl (zic rfl (zic rfl (zic rfl (zic rfl zin))))) rfl rfl rfl rfl (fun b22=>yad hq19 fun m24 hm24 hq19=>yaj 1 [] [] [(19,pI v6)] fo0 (by kernel_rfl) (ycz rfl rfl rfl (ygb (enc:=eS) (xs:=[(⟨#[97,110,100]⟩:ByteArray),(⟨#[99,117,116]⟩:ByteArray),(⟨#[111,114]⟩:ByteArray),(⟨#[115,101,119]⟩:ByteArray),(⟨#[115,112,105,110]⟩:ByteArray)]) rfl rfl rfl (.p rfl) zm0 (.p rfl) (fun _=>hm24)) (ycz rfl rfl rfl (ydr (sz:=1) (p:=pS m24) (enc:=eS) (xs:=[(⟨#[97,110,100]⟩:ByteArray),(⟨#[99,117,116]⟩:ByteArray),(⟨#[111,114]⟩:ByteArray),(⟨#[115,101,119]⟩:ByteArray),(⟨#[115,112,105,110]⟩:ByteArray)]) (a:=(some ⟨b22,0,none⟩)) v6 0 m24 rfl (.p rfl) rfl zm0 (fun _=>hm24) rfl) (yat rfl rfl rfl (ycg rfl rfl rfl rfl rfl (zic rfl zin) rfl rfl rfl rfl (fun b25=>yad hq19 fun l27 hl27 hq19=>?_))))))))
     refine yat rfl rfl rfl (yci (enc:=eS) rfl rfl rfl rfl rfl rfl rfl rfl rfl zm0 (by exact zpt (zpt (zpt zph))) hl27 (fun a28 c29=>?_))
     refine yan [] [] [(3,pO a28 l27.length c29)] fo0 (by kernel_rfl) (yal ?_)
     obtain rfl:=osi hq19
     exact yaz ((a28,c29),l27) (zh3 rfl rfl rfl) (zsc (zpt (zpt (zpt zph))) (zs1)) rfl
    refine yag ?_
    refine yal ?_
    obtain rfl:=osi hq19
    exact yaz ((a4,c5),l3) (zh3 rfl rfl rfl) (zs2) rfl
   rintro ⟨⟨a16,c17⟩,l18⟩ τ hz;(try dsimp only at hz);subst q19;(try dsimp only at hb11);dsimp only [pupds]
   refine yac [] [10,11] [(5,pI (IntKind.i64.wrap (v6+1)))] fo0 (by kernel_rfl) ?_
   exact ybu hb11 (a16,c17) (zh3 rfl rfl rfl) (zs2)
  refine ybd ?_
  refine yap (yam hb11 (fun ht=>yao rfl ?_))
  exact yaz ((a4,c5),l3) (zh1 rfl) (zs2) ht.symm
 rintro ⟨⟨a8,c9⟩,l10⟩ τ hz;(try dsimp only at hz);subst q12;(try dsimp only at h);dsimp only [pupds]
 refine yaa (yac [] [24] [(2,pO a8 l10.length c9)] fo0 (by kernel_rfl) (yab ?_))
 refine yhl (enc:=eS) (xs:=l10) 2 rfl (by exact zpt zph) ?_
 refine yai ?_
 obtain rfl:=osi h
 exact ybh (ygn (ybn rfl)) (zsc (zpt zph) zsn) ⟨rfl,rfl⟩
def ypf (p0:(List Int)):Option (List Zd):=Option.bind (made_Cut p0 300) (fun x1=>Option.bind (yas (⟨x1,0⟩:Zl) 10) (fun x3=>Option.bind (loopF (S:=(List Zd)×Int×(List Int)×Int) (T:=((List Zd))) (fun (l5,v8,l9,v10)=>cond (decide (v8≤(IntKind.i64.wrap (1+x3.1)))) (Option.bind (yas (⟨l9,v10⟩:Zl) 2) (fun x19=>Option.bind (ygw x19.2 (IntKind.i64.wrap (6+(IntKind.i64.wrap (2*x19.1))))) (fun x20=>Option.bind (ygx) (fun x21=>Option.bind (yas x20.2 4) (fun x22=>Option.bind (idx x21 x22.1) (fun m23=>Option.bind (yas x22.2 200) (fun x24=>Option.bind (yef x24.2) (fun x25=>Option.bind (yas x25.2 4) (fun x26=>Option.bind (yas x26.2 1024) (fun x28=>Option.bind (loopF (S:=Int×(List Int)×Int×(List Zf)) (T:=((List Int)×Int×(List Zf))) (fun (v29,l30,v31,l33)=>cond (((decide (v29≤(IntKind.i64.wrap (1+x3.1))))&&(decide (((l33.length:Nat):Int)<4)))&&(!(x26.1 == 1))) (Option.bind (Option.bind (ge0 (IntKind.i64.wrap (v29 - 1))) (fun u55=>Option.bind (gdp (((iand .i64 (ishr .i64 x28.1 (IntKind.i64.wrap (v29 - 1))) 1) == 1)&&(!(decide (v29<v8)))) (yas (⟨l30,v31⟩:Zl) 3) (⟨l30,v31⟩:Zl)) (fun x56=>cond (((iand .i64 (ishr .i64 x28.1 (IntKind.i64.wrap (v29 - 1))) 1) == 1)&&((decide (v29<v8))||(x56.1 == 1))) (Option.bind (yas x56.2 100) (fun x58=>Option.bind (app 16 l33 [(⟨(IntKind.i64.wrap (3*v29)),x58.1⟩:Zf)]) (fun l61=>some (x58.2.L,x58.2.I,l61)))) (some (x56.2.L,x56.2.I,l33))))) (fun (l48,v49,l53)=>some (.inl ((IntKind.i64.wrap (v29+1)),l48,v49,l53)))) (some (.inr (l30,v31,l33)))) FUEL (1,x28.2.L,x28.2.I,([]:List Zf))) (fun (l37,v38,l42)=>Option.bind (app 104 l5 [(⟨(IntKind.i64.wrap (3*v8)),x20.1,m23,(IntKind.i64.wrap (1+x24.1)),(x26.1 == 1),x25.1,l42⟩:Zd)]) (fun l68=>some (.inl (l68,(IntKind.i64.wrap (v8+1)),l37,v38)))))))))))))) (some (.inr l5))) FUEL (([]:List Zd),1,x3.2.L,x3.2.I)) (fun l14=>some l14)))
theorem xbr {p0:(List Int)} {r:(List Zd)}  (h:ypf p0=some r):PCall 15 [pL eI p0] [] (fun pv ρ'=>∃ a c,pv=.v (.slice a r.length c)∧ρ'=[PRes.row a r.length c 46 7 (List.map Zd.enc r)]):=by
 unfold ypf at h
 refine ybc Tryz.func15 fk15 rfl Tryz.ntmps15 Tryz.results15 rfl (yaa (yac [] [2] [] fo0 (by kernel_rfl) (yab (yaa (yad h fun x1 hx1 h=>yae (yaj 3 [] [10,11] [(12,.agg [pL eI x1,pI 0])] (yfg 1 (yvc hx1) fo0) (by kernel_rfl) (yat rfl rfl rfl (ycn (cs:=[pL eI x1,pI 0]) rfl rfl (fun b2=>yan [] [] [(3,pP b2 0)] fo0 (by kernel_rfl) (yab (yaa (yad h fun x3 hx3 h=>yae (yaj 1 [] [] [(14,pP b2 0)] fo0 (by kernel_rfl) ?_)))))))))))))
 refine yat rfl rfl rfl (ybj rfl rfl (ρ1:=[_]) (yaw (by exact zph) (List.Perm.refl _)) (yar hx3) ?_);rintro _ _ ⟨rfl,rfl⟩
 refine yan [] [16] [(4,pI (IntKind.i64.wrap (1+x3.1)))] fo0 (by kernel_rfl) (yab (yaa (yac [] [] [(5,pN)] fo0 (by kernel_rfl) (yab (yaa (yaa (yac [] [] [(6,pI 1)] fo0 (by kernel_rfl) (yab (ycr 46 7 (yad h fun q16 hq16 h=>?_))))))))))
 refine yav (Y:=(Option Addr×Nat)×((List Zd))) (fun ((a12,c13),l14)=>[(5,pO a12 l14.length c13)]) (fun ((a12,c13),l14)=>[PRes.row a12 l14.length c13 46 7 (List.map Zd.enc l14)]) (fun ((a12,c13),l14)=>q16=l14) ?_ ?_
 ·refine yak ?_
  refine yay (Y:=Option Addr×Nat) (S:=(List Zd)×Int×(List Int)×Int) _ hq16 (fun (a6,c7) (l5,v8,l9,v10)=>[(3,pP b2 0),(4,pI (IntKind.i64.wrap (1+x3.1))),(5,pO a6 l5.length c7),(6,pI v8)]) (fun (a6,c7) (l5,v8,l9,v10)=>[PRes.b b2 86 [pL eI l9,pI v10],PRes.row a6 l5.length c7 46 7 (List.map Zd.enc l5)]) (none,0) (zh4 rfl rfl rfl rfl) (zsc (zpt zph) (zs1)) ?_
  rintro ⟨a6,c7⟩ ⟨l5,v8,l9,v10⟩ o τ hb15;(try dsimp only at hb15);dsimp only [pupds]
  refine yaa (yaa (yac [] [17,18] [(19,pB (decide (v8≤(IntKind.i64.wrap (1+x3.1)))))] fo0 (by kernel_rfl) (yab (zif rfl hb15 (fun hc18 hb15=>?_) fun hc18 hb15=>?_))))
  ·refine yag ?_
   refine yab (yaa (yak (yaa (yei (ρd:=[PRes.b b2 _ _]) [(0,0),(1,0),(2,0),(3,0),(9,0),(13,0),(16,0),(18,0),(4,1),(5,0),(6,0),(7,1),(8,1),(10,1),(11,0),(12,0),(14,1),(15,0),(17,1),(19,1),(20,0),(21,0),(22,2),(23,1)] _ (List.Perm.refl _) (by kernel_rfl) rfl (yad hb15 fun x19 hx19 hb15=>ycq 8 [] [22] [(23,pI (IntKind.i64.wrap (3*v8))),(24,pP b2 0),(25,pP b2 0),(31,pP b2 0),(35,pP b2 0),(38,pP b2 0),(40,pP b2 0)] fo0 (by kernel_rfl) ?_)))))
   refine yuu rfl rfl rfl (ybj rfl rfl (ρ1:=[_]) (yaw (by exact zph) (List.Perm.refl _)) (yar hx19) ?_);rintro _ _ ⟨rfl,rfl⟩
   refine yad hb15 fun x20 hx20 hb15=>ycq 2 [] [27] [(28,pI (IntKind.i64.wrap (6+(IntKind.i64.wrap (2*x19.1)))))] fo0 (by kernel_rfl) ?_
   refine yuu rfl rfl rfl (ybj rfl rfl (ρ1:=[_]) (yaw (by exact zph) (List.Perm.refl _)) (yrh hx20) ?_);rintro _ _ ⟨rfl,rfl⟩
   refine yad hb15 fun x21 hx21 hb15=>yad hb15 fun x22 hx22 hb15=>ycq 1 [] [] [(30,pL eS x21)] (yfg 0 (yjg hx21) fo0) (by kernel_rfl) ?_
   refine yuu rfl rfl rfl (ybj rfl rfl (ρ1:=[_]) (yaw (by exact zph) (List.Perm.refl _)) (yar hx22) ?_);rintro _ _ ⟨rfl,rfl⟩
   refine yad hb15 fun m23 hm23 hb15=>yad hb15 fun x24 hx24 hb15=>ycq 2 [] [33] [(34,pS m23)] (ymr 0 eS hm23 fo0) (by kernel_rfl) ?_
   refine yuu rfl rfl rfl (ybj rfl rfl (ρ1:=[_]) (yaw (by exact zph) (List.Perm.refl _)) (yar hx24) ?_);rintro _ _ ⟨rfl,rfl⟩
   refine yad hb15 fun x25 hx25 hb15=>ycq 1 [] [] [(37,pI (IntKind.i64.wrap (1+x24.1)))] fo0 (by kernel_rfl) ?_
   refine yuu rfl rfl rfl (ybj rfl rfl (ρ1:=[_]) (yaw (by exact zph) (List.Perm.refl _)) (ymy hx25) ?_);rintro _ _ ⟨rfl,rfl⟩
   refine yad hb15 fun x26 hx26 hb15=>?_
   refine yuu rfl rfl rfl (ybj rfl rfl (ρ1:=[_]) (yaw (by exact zph) (List.Perm.refl _)) (yar hx26) ?_);rintro _ _ ⟨rfl,rfl⟩
   refine ycq 2 [] [42] [(43,.agg [pI (IntKind.i64.wrap (3*v8)),pS x20.1,pS m23,pI (IntKind.i64.wrap (1+x24.1)),pB (x26.1 == 1),pL eS x25.1,pN])] fo0 (by kernel_rfl) (pwd_late (xdx rfl rfl rfl rfl rfl) (fun _=>rfl) rfl (fun b27=>pwd_l0 rfl rfl (yaq (vs:=[pI (IntKind.i64.wrap (3*v8)),pS x20.1,pS m23,pI (IntKind.i64.wrap (1+x24.1)),pB (x26.1 == 1),pL eS x25.1,pN]) rfl rfl rfl rfl rfl zuh (zl7) (ygc (yab (yaa (yad hb15 fun x28 hx28 hb15=>yae (yaj 1 [] [] [(44,pP b2 0)] fo0 (by kernel_rfl) ?_))))))))
   refine yat rfl rfl rfl (ybj rfl rfl (ρ1:=[_]) (yaw (by exact zpt zph) (List.Perm.refl _)) (yar hx28) ?_);rintro _ _ ⟨rfl,rfl⟩
   refine yan [] [] [(8,pI x28.1)] fo0 (by kernel_rfl) (yab (yaa (yaa (yac [] [] [(9,pI 1)] fo0 (by kernel_rfl) (yab (ycr 90 2 (yad hb15 fun q44 hq44 hb15=>?_)))))))
   refine yav (Y:=(Option Addr×Nat)×((List Int)×Int×(List Zf))) (fun ((a40,c41),(l37,v38,l42))=>[(3,pP b2 0),(4,pI (IntKind.i64.wrap (1+x3.1))),(5,pO a6 l5.length c7),(6,pI v8),(7,pP b27 0)]) (fun ((a40,c41),(l37,v38,l42))=>[PRes.b b2 86 [pL eI l37,pI v38],PRes.b b27 46 [pI (IntKind.i64.wrap (3*v8)),pS x20.1,pS m23,pI (IntKind.i64.wrap (1+x24.1)),pB (x26.1 == 1),pL eS x25.1,pO a40 l42.length c41],PRes.row a6 l5.length c7 46 7 (List.map Zd.enc l5),PRes.row a40 l42.length c41 90 2 (List.map Zf.enc l42)]) (fun ((a40,c41),(l37,v38,l42))=>q44=(l37,v38,l42)) ?_ ?_
   ·refine yak ?_
    refine yay (Y:=Option Addr×Nat) (S:=Int×(List Int)×Int×(List Zf)) _ hq44 (fun (a34,c35) (v29,l30,v31,l33)=>[(3,pP b2 0),(4,pI (IntKind.i64.wrap (1+x3.1))),(5,pO a6 l5.length c7),(6,pI v8),(7,pP b27 0),(8,pI x28.1),(9,pI v29)]) (fun (a34,c35) (v29,l30,v31,l33)=>[PRes.b b2 86 [pL eI l30,pI v31],PRes.b b27 46 [pI (IntKind.i64.wrap (3*v8)),pS x20.1,pS m23,pI (IntKind.i64.wrap (1+x24.1)),pB (x26.1 == 1),pL eS x25.1,pO a34 l33.length c35],PRes.row a34 l33.length c35 90 2 (List.map Zf.enc l33),PRes.row a6 l5.length c7 46 7 (List.map Zd.enc l5)]) (none,0) (zh7 rfl rfl rfl rfl rfl rfl rfl) (zsc (zpt zph) (zsc (zpt zph) (zs2))) ?_
    rintro ⟨a34,c35⟩ ⟨v29,l30,v31,l33⟩ o τ hb43;(try dsimp only at hb43);dsimp only [pupds]
    refine yaa (yaa (yac [1,1] (rg 46 13) [(59,pB (((decide (v29≤(IntKind.i64.wrap (1+x3.1))))&&(decide (((l33.length:Nat):Int)<4)))&&(!(x26.1 == 1))))] fo0 (by kernel_rfl) (yab (zif rfl hb43 (fun hc46 hb43=>?_) fun hc46 hb43=>?_))))
    ·refine yag ?_
     refine yab (yaa (yad hb43 fun q54 hq54 hb43=>?_))
     refine yav (Y:=(Option Addr×Nat)×((List Int)×Int×(List Zf))) (fun ((a51,c52),(l48,v49,l53))=>[(3,pP b2 0),(4,pI (IntKind.i64.wrap (1+x3.1))),(5,pO a6 l5.length c7),(6,pI v8),(7,pP b27 0),(8,pI x28.1),(9,pI v29)]) (fun ((a51,c52),(l48,v49,l53))=>[PRes.b b2 86 [pL eI l48,pI v49],PRes.b b27 46 [pI (IntKind.i64.wrap (3*v8)),pS x20.1,pS m23,pI (IntKind.i64.wrap (1+x24.1)),pB (x26.1 == 1),pL eS x25.1,pO a51 l53.length c52],PRes.row a6 l5.length c7 46 7 (List.map Zd.enc l5),PRes.row a51 l53.length c52 90 2 (List.map Zf.enc l53)]) (fun ((a51,c52),(l48,v49,l53))=>q54=(l48,v49,l53)) ?_ ?_
     ·skip
      refine yak (yaa (yad hq54 fun u55 hu55 hq54=>yad hq54 fun x56 hx56 hq54=>yae (yaj 12 [] ((rg 62 6)++[69,70,71]) [(68,pB ((iand .i64 (ishr .i64 x28.1 (IntKind.i64.wrap (v29 - 1))) 1) == 1)),(72,pgv ((iand .i64 (ishr .i64 x28.1 (IntKind.i64.wrap (v29 - 1))) 1) == 1) (pB (decide (v29<v8)))),(73,pgv (((iand .i64 (ishr .i64 x28.1 (IntKind.i64.wrap (v29 - 1))) 1) == 1)&&(!(decide (v29<v8)))) (pP b2 0))] (foge 3 hu55 fo0) (by kernel_rfl) ?_)))
      refine yxz (yuq rfl rfl rfl) rfl rfl rfl (by exact zph) (ypz (.g rfl) (ypz (.p rfl) (xbb))) (fun hc=>yar (gdp_t hx56 hc)) (fun hc=>by rw [gdp_f hx56 hc]) ?_
      refine xaw (yuq rfl rfl rfl) rfl rfl (xjw rfl (.g rfl) (.p rfl) rfl) (xaw (yts rfl rfl rfl) rfl rfl (pq_or rfl (.g rfl) (.p rfl) (.g rfl)) (ycz rfl rfl rfl (xjv rfl (.p rfl) (.p rfl) (.g rfl)) (yau (yab (zif rfl hq54 (fun hc57 hq54=>?_) fun hc57 hq54=>?_)))))
      ·refine yad hq54 ?_;clear hq54;intro x58 hx58 hq54
       refine yad hq54 fun l61 hl61 hq54=>?_
       refine ynv (Y:=Option Addr×Nat) (fun (a62,c63)=>[(3,pP b2 0),(4,pI (IntKind.i64.wrap (1+x3.1))),(5,pO a6 l5.length c7),(6,pI v8),(7,pP b27 0),(8,pI x28.1),(9,pI v29)]) (fun (a62,c63)=>[PRes.b b2 86 [pL eI x58.2.L,pI x58.2.I],PRes.b b27 46 [pI (IntKind.i64.wrap (3*v8)),pS x20.1,pS m23,pI (IntKind.i64.wrap (1+x24.1)),pB (x26.1 == 1),pL eS x25.1,pO a62 l61.length c63],PRes.row a6 l5.length c7 46 7 (List.map Zd.enc l5),PRes.row a62 l61.length c63 90 2 (List.map Zf.enc l61)]) (fun _=>True) ?_ ?_
       ·refine ymt (ρd:=[PRes.b b2 _ _,PRes.row a34 _ _ _ _ _,PRes.b b27 _ _]) _ (yaw zph (yaw (zpt zph) (List.Perm.refl _))) ?_
        refine yde 0 (by kernel_rfl) rfl rfl rfl rfl (ybx rfl rfl rfl rfl rfl (.p rfl)) (yde 2 (by kernel_rfl) rfl rfl rfl rfl (yfr (p:=pI v29) rfl (.p rfl)) (yde 3 (by kernel_rfl) rfl rfl rfl rfl (yyz rfl (.p rfl) (.p rfl) rfl) (yde 4 (by kernel_rfl) rfl rfl rfl rfl (yfr (p:=pP b2 0) rfl (.p rfl)) ?_)))
        refine yje 1 5 (by kernel_rfl) ?_ ?_
        ·skip
         refine ybi rfl rfl rfl rfl (xal (ydd (p:=pO a34 l33.length c35) rfl (.p rfl) zm2 rfl) (ybm 5 (by kernel_rfl) ?_))
         refine ybi rfl rfl rfl rfl (ybj rfl rfl (ρ1:=[_]) (yaw (by exact zph) (List.Perm.refl _)) (yar hx58) ?_);rintro _ _ ⟨rfl,rfl⟩
         refine yde 6 (by kernel_rfl) rfl rfl rfl rfl (yzc (cs:=[pI (IntKind.i64.wrap (3*v29)),pI x58.1]) rfl rfl rfl rfl rfl rfl rfl (zfc rfl rfl rfl rfl (zl1) (zfc rfl rfl rfl rfl (zlt (zl1)) zfn))) (ybm 7 (by kernel_rfl) (ybi rfl rfl rfl rfl (ycg rfl rfl rfl rfl rfl (zic rfl zin) rfl rfl rfl rfl (fun b59=>ybm 8 (by kernel_rfl) ?_))))
         refine ybi rfl rfl rfl rfl (yci (enc:=Zf.enc) rfl rfl rfl rfl rfl rfl rfl rfl rfl zm0 (by exact zpt (zpt zph)) hl61 (fun a62 c63=>?_))
         refine yde 9 (by kernel_rfl) rfl rfl rfl rfl (ybx rfl rfl rfl rfl rfl (.p rfl)) (ybm 10 (by kernel_rfl) (yfx rfl rfl rfl (yaq (vs:=[pO a62 l61.length c63]) rfl rfl rfl rfl rfl (zut (zut (zut zuh))) (zlt (zlt (zlt (zlt (zlt (zlt (zl1))))))) (yeu (by kernel_rfl) ?_))))
         exact ykn (a62,c63) (zh7 rfl rfl rfl rfl rfl rfl rfl) (zsc (zpt (zpt zph)) (zsc (zpt (zpt zph)) (zsc (zpt (zpt zph)) (zs1)))) trivial
        skip
        refine ybi rfl rfl rfl rfl (ybj rfl rfl (ρ1:=[_]) (yaw (by exact zph) (List.Perm.refl _)) (yar hx58) ?_);rintro _ _ ⟨rfl,rfl⟩
        refine yde 6 (by kernel_rfl) rfl rfl rfl rfl (yzc (cs:=[pI (IntKind.i64.wrap (3*v29)),pI x58.1]) rfl rfl rfl rfl rfl rfl rfl (zfc rfl rfl rfl rfl (zl1) (zfc rfl rfl rfl rfl (zlt (zl1)) zfn))) ?_
        refine yje 1 7 (by kernel_rfl) ?_ ?_
        ·skip
         refine ybi rfl rfl rfl rfl (xal (ydd (p:=pO a34 l33.length c35) rfl (.p rfl) zm2 rfl) (ybm 7 (by kernel_rfl) (ybi rfl rfl rfl rfl (ycg rfl rfl rfl rfl rfl (zic rfl zin) rfl rfl rfl rfl (fun b59=>ybm 8 (by kernel_rfl) ?_)))))
         refine ybi rfl rfl rfl rfl (yci (enc:=Zf.enc) rfl rfl rfl rfl rfl rfl rfl rfl rfl zm0 (by exact zpt (zpt zph)) hl61 (fun a62 c63=>?_))
         refine yde 9 (by kernel_rfl) rfl rfl rfl rfl (ybx rfl rfl rfl rfl rfl (.p rfl)) (ybm 10 (by kernel_rfl) (yfx rfl rfl rfl (yaq (vs:=[pO a62 l61.length c63]) rfl rfl rfl rfl rfl (zut (zut (zut zuh))) (zlt (zlt (zlt (zlt (zlt (zlt (zl1))))))) (yeu (by kernel_rfl) ?_))))
         exact ykn (a62,c63) (zh7 rfl rfl rfl rfl rfl rfl rfl) (zsc (zpt (zpt zph)) (zsc (zpt (zpt zph)) (zsc (zpt (zpt zph)) (zs1)))) trivial
        skip
        refine ybi rfl rfl rfl rfl (ycg rfl rfl rfl rfl rfl (zic rfl zin) rfl rfl rfl rfl (fun b59=>ybm 1 (by kernel_rfl) (ybi rfl rfl rfl rfl (xal (ydd (p:=pO a34 l33.length c35) rfl (.p rfl) zm3 rfl) (ybm 8 (by kernel_rfl) ?_)))))
        refine ybi rfl rfl rfl rfl (yci (enc:=Zf.enc) rfl rfl rfl rfl rfl rfl rfl rfl rfl zm0 (by exact zpt (zpt zph)) hl61 (fun a62 c63=>?_))
        refine yde 9 (by kernel_rfl) rfl rfl rfl rfl (ybx rfl rfl rfl rfl rfl (.p rfl)) (ybm 10 (by kernel_rfl) (yfx rfl rfl rfl (yaq (vs:=[pO a62 l61.length c63]) rfl rfl rfl rfl rfl (zut (zut (zut zuh))) (zlt (zlt (zlt (zlt (zlt (zlt (zl1))))))) (yeu (by kernel_rfl) ?_))))
        exact ykn (a62,c63) (zh7 rfl rfl rfl rfl rfl rfl rfl) (zsc (zpt (zpt zph)) (zsc (zpt (zpt zph)) (zsc (zpt (zpt zph)) (zs1)))) trivial
       rintro ⟨a62,c63⟩ τ ρ1 hsub65 _;(try dsimp only at hsub65);dsimp only [pupds]
       refine yal ?_
       obtain rfl:=osi hq54
       exact yaz ((a62,c63),(x58.2.L,x58.2.I,l61)) (zh7 rfl rfl rfl rfl rfl rfl rfl) (PSub.trans (zs4) hsub65) rfl
      refine yag ?_
      refine yal ?_
      obtain rfl:=osi hq54
      exact yaz ((a34,c35),(x56.2.L,x56.2.I,l33)) (zh7 rfl rfl rfl rfl rfl rfl rfl) (zsc zph (zsc zph (zsc (zpt zph) (zs1)))) rfl
     rintro ⟨⟨a51,c52⟩,⟨l48,v49,l53⟩⟩ τ hz;(try dsimp only at hz);subst q54;(try dsimp only at hb43);dsimp only [pupds]
     refine yac [] [60,61] [(9,pI (IntKind.i64.wrap (v29+1)))] fo0 (by kernel_rfl) ?_
     exact ybu hb43 (a51,c52) (zh7 rfl rfl rfl rfl rfl rfl rfl) (zsc zph (zsc zph (zsc (zpt zph) (zs1))))
    refine ybd ?_
    refine yap (yam hb43 (fun ht=>yao rfl ?_))
    exact yaz ((a34,c35),(l30,v31,l33)) (zh5 rfl rfl rfl rfl rfl) (zsc zph (zsc zph (zsc (zpt zph) (zs1)))) ht.symm
   rintro ⟨⟨a40,c41⟩,⟨l37,v38,l42⟩⟩ τ hz;(try dsimp only at hz);subst q44;(try dsimp only at hb15);dsimp only [pupds]
   refine yae (yaj 1 [] [] [(88,pO a6 l5.length c7)] fo0 (by kernel_rfl) ?_)
   refine ype (css:=List.map Zf.enc l42) (a:=a40) (by exact zpt (zpt (zpt zph))) ?_
   refine yli (k:=6) (enc:=Zf.enc) (xs:=l42) (b:=b27) (a:=a40) rfl zm0 (zut (zut zuh)) (yaj 1 [2] [] [(89,.agg [pI (IntKind.i64.wrap (3*v8)),pS x20.1,pS m23,pI (IntKind.i64.wrap (1+x24.1)),pB (x26.1 == 1),pL eS x25.1,pL Zf.enc l42])] fo0 (by kernel_rfl) (yat rfl rfl rfl (ycg rfl rfl rfl rfl rfl (zic rfl zin) rfl rfl rfl rfl (fun b66=>yad hb15 fun l68 hl68 hb15=>?_))))
   refine yat rfl rfl rfl (yci (enc:=Zd.enc) rfl rfl rfl rfl rfl rfl rfl rfl rfl zm0 (by exact zpt (zpt (zpt (zpt zph)))) hl68 (fun a69 c70=>?_))
   refine yan [] [] [(5,pO a69 l68.length c70)] fo0 (by kernel_rfl) (yal (yab (yac [] [20,21] [(6,pI (IntKind.i64.wrap (v8+1)))] fo0 (by kernel_rfl) ?_)))
   exact ybu hb15 (a69,c70) (zh4 rfl rfl rfl rfl) (zsc (zpt (zpt (zpt zph))) (zs1))
  refine ybd ?_
  refine yap (yam hb15 (fun ht=>yao rfl ?_))
  exact yaz ((a6,c7),l5) (zh1 rfl) (zsc (zpt zph) zsn) ht.symm
 rintro ⟨⟨a12,c13⟩,l14⟩ τ hz;(try dsimp only at hz);subst q16;(try dsimp only at h);dsimp only [pupds]
 refine yaa (yac [] [92] [(2,pO a12 l14.length c13)] fo0 (by kernel_rfl) (yab (yai ?_)))
 obtain rfl:=osi h
 exact ybh (ygn (ybn rfl)) (zs1) ⟨_,_,rfl,rfl⟩
def yfh (p0:Zl):Option (Int×Zl):=Option.bind (yas p0 4) (fun x1=>cond (decide (0<x1.1)) (Option.bind (yas x1.2 101) (fun x3=>some ((IntKind.i64.wrap (10000*x3.1)),x3.2))) (Option.bind (yas x1.2 1000001) (fun x4=>some (x4.1,x4.2))))
theorem yll {p0:Zl} {b0:Nat} {r:(Int×Zl)}  (h:yfh p0=some r):PCall 87 [pP b0 0] [PRes.b b0 86 [pL eI p0.L,pI p0.I]] (fun pv ρ'=>pv=pI r.1∧ρ'=[PRes.b b0 86 [pL eI r.2.L,pI r.2.I]]):=by
 unfold yfh at h
 refine ybc Tryz.func87 fk87 rfl Tryz.ntmps87 Tryz.results87 rfl (yaa (yac [] [2] [] fo0 (by kernel_rfl) (yab (yaa (yaa (yad h fun x1 hx1 h=>yae (yaj 1 [] [] [(3,pP b0 0)] fo0 (by kernel_rfl) ?_)))))))
 refine yat rfl rfl rfl (ybj rfl rfl (ρ1:=[_]) (yaw (by exact zph) (List.Perm.refl _)) (yar hx1) ?_);rintro _ _ ⟨rfl,rfl⟩
 refine yan [] [] [(5,pB (decide (0<x1.1)))] fo0 (by kernel_rfl) (yab (zif rfl h (fun hc2 h=>?_) fun hc2 h=>?_))
 ·refine yaa ?_
  refine yad h fun x3 hx3 h=>yae (yaj 1 [] [] [(6,pP b0 0)] fo0 (by kernel_rfl) ?_)
  refine yat rfl rfl rfl (ybj rfl rfl (ρ1:=[_]) (yaw (by exact zph) (List.Perm.refl _)) (yar hx3) ?_);rintro _ _ ⟨rfl,rfl⟩
  refine yan [] [8] [(2,pI (IntKind.i64.wrap (10000*x3.1)))] fo0 (by kernel_rfl) (yab (yai (yah ?_)))
  obtain rfl:=osi h
  exact ybh (ygn (ybn rfl)) (zs1) ⟨rfl,rfl⟩
 refine yag ?_
 refine yab (yaa (yad h fun x4 hx4 h=>yae (yaj 1 [] [] [(9,pP b0 0)] fo0 (by kernel_rfl) ?_)))
 refine yat rfl rfl rfl (ybj rfl rfl (ρ1:=[_]) (yaw (by exact zph) (List.Perm.refl _)) (yar hx4) ?_);rintro _ _ ⟨rfl,rfl⟩
 refine yan [] [] [(2,pI x4.1)] fo0 (by kernel_rfl) (yab (yai ?_))
 obtain rfl:=osi h
 exact ybh (ygn (ybn rfl)) (zs1) ⟨rfl,rfl⟩
def yfl (rec:Zl→Int→Int→Option (Zc×Zl)) (p0:Zl) (p1:Int) (p2:Int):Option (Zc×Zl):=Option.bind (yas p0 8) (fun x2=>cond ((decide (5≤x2.1))&&(decide (0<p2))) (Option.bind (cond ((IntKind.i64.wrap (5+(Int.tmod x2.1 2))) == p1) (some (IntKind.i64.wrap (11 - p1))) (some (IntKind.i64.wrap (5+(Int.tmod x2.1 2))))) (fun v5=>Option.bind (yas x2.2 2) (fun x8=>Option.bind (loopF (S:=Int×(List Int)×Int×(List Zc)) (T:=((List Int)×Int×(List Zc))) (fun (v9,l10,v11,l13)=>cond (decide (0<v9)) (Option.bind (rec (⟨l10,v11⟩:Zl) v5 (IntKind.i64.wrap (p2 - 1))) (fun x26=>Option.bind (app 96 l13 [x26.1]) (fun l29=>some (.inl ((IntKind.i64.wrap (v9 - 1)),x26.2.L,x26.2.I,l29))))) (some (.inr (l10,v11,l13)))) FUEL ((IntKind.i64.wrap (2+x8.1)),x8.2.L,x8.2.I,([]:List Zc))) (fun (l16,v17,l21)=>some ((⟨v5,0,[],0,0,ByteArray.empty,l21⟩:Zc),(⟨l16,v17⟩:Zl)))))) (Option.bind (α:=((List Int)×Int)⊕_) (cond ((Int.tmod x2.1 4) == 1) (Option.bind (yfh x2.2) (fun x38=>some (.inr ((⟨3,0,[],0,x38.1,ByteArray.empty,[]⟩:Zc),x38.2)))) (cond ((Int.tmod x2.1 4) == 2) (Option.bind (yas x2.2 5) (fun x42=>Option.bind (idx [(⟨#[97,110,100]⟩:ByteArray),(⟨#[99,117,116]⟩:ByteArray),(⟨#[111,114]⟩:ByteArray),(⟨#[115,101,119]⟩:ByteArray),(⟨#[115,112,105,110]⟩:ByteArray)] x42.1) (fun m43=>some (.inr ((⟨4,0,[],0,0,m43,[]⟩:Zc),x42.2))))) (cond ((Int.tmod x2.1 4) == 3) (Option.bind (yas x2.2 3) (fun x45=>cond (x45.1 == 1) (some (.inr ((⟨1,0,[],0,0,ByteArray.empty,[]⟩:Zc),x45.2))) (some (.inl (x45.2.L,x45.2.I))))) (some (.inl (x2.2.L,x2.2.I)))))) (fun q=>match q with | .inl (l34,v35)=>Option.bind (yas (⟨l34,v35⟩:Zl) 3) (fun x47=>Option.bind (yas x47.2 3) (fun x49=>Option.bind (cond (x49.1 == 1) (Option.bind (yas x49.2 2) (fun x57=>Option.bind (sub [(⟨#[57,52,48,49]⟩:ByteArray),(⟨#[57,53,48,50]⟩:ByteArray)] x57.1 ([(⟨#[57,52,48,49]⟩:ByteArray),(⟨#[57,53,48,50]⟩:ByteArray)].length:Int)) (fun l58=>some (x57.2.L,x57.2.I,l58)))) (some (x49.2.L,x49.2.I,[]))) (fun (l50,v51,l52)=>Option.bind (yas (⟨l50,v51⟩:Zl) 3) (fun x59=>Option.bind (cond (x59.1 == 1) (Option.bind (yfh x59.2) (fun x65=>some (x65.2.L,x65.2.I,x65.1))) (some (x59.2.L,x59.2.I,0))) (fun (l60,v61,v62)=>some ((⟨2,(IntKind.i64.wrap (2+(IntKind.i64.wrap (2*x47.1)))),l52,v62,0,ByteArray.empty,[]⟩:Zc),(⟨l60,v61⟩:Zl))))))) | .inr e=>some e)))
theorem ypg {rec:Zl→Int→Int→Option (Zc×Zl)} (hrec:∀ {p0:Zl} {p1:Int} {p2:Int} {b0:Nat} {r:(Zc×Zl)},rec p0 p1 p2=some r→PCall 47 [pP b0 0,pI p1,pI p2] [PRes.b b0 86 [pL eI p0.L,pI p0.I]] (fun pv ρ'=>pv=.agg [pI r.1.Kind,pI r.1.Digits,pL eS r.1.Except,pI r.1.Tolerance,pI r.1.Limit,pS r.1.Name,pL Zc.enc r.1.Args]∧ρ'=[PRes.b b0 86 [pL eI r.2.L,pI r.2.I]])) {p0:Zl} {p1:Int} {p2:Int} {b0:Nat} {r:(Zc×Zl)} (h:yfl rec p0 p1 p2=some r):PCall 47 [pP b0 0,pI p1,pI p2] [PRes.b b0 86 [pL eI p0.L,pI p0.I]] (fun pv ρ'=>pv=.agg [pI r.1.Kind,pI r.1.Digits,pL eS r.1.Except,pI r.1.Tolerance,pI r.1.Limit,pS r.1.Name,pL Zc.enc r.1.Args]∧ρ'=[PRes.b b0 86 [pL eI r.2.L,pI r.2.I]]):=by
 unfold yfl at h
 refine ybc Tryz.func47 fk47 rfl Tryz.ntmps47 Tryz.results47 rfl (yaa (yae (yat rfl rfl rfl (ybg (cs:=[pI 0,pI 0,pN,pI 0,pI 0,pS ByteArray.empty,pN]) rfl rfl rfl rfl (fun b1=>yau (yab (yaa (yad h fun x2 hx2 h=>yae (yaj 1 [] [] [(11,pP b0 0)] fo0 (by kernel_rfl) ?_)))))))))
 refine yat rfl rfl rfl (ybj rfl rfl (ρ1:=[_]) (yaw (by exact zpt zph) (List.Perm.refl _)) (yar hx2) ?_);rintro _ _ ⟨rfl,rfl⟩
 refine yan [] [] [(7,pI x2.1)] fo0 (by kernel_rfl) (yab (yaa (yaa (yac [] (rg 13 5) [(18,pB ((decide (5≤x2.1))&&(decide (0<p2))))] fo0 (by kernel_rfl) (yab (zif rfl h (fun hc3 h=>?_) fun hc3 h=>?_))))))
 ·refine yaa ?_
  refine yae (yaj 4 [] [19,20,21] [(22,.agg [pI (IntKind.i64.wrap (5+(Int.tmod x2.1 2))),pI 0,pN,pI 0,pI 0,pS ByteArray.empty,pN])] fo0 (by kernel_rfl) (yat rfl rfl rfl (ybg (cs:=[pI 0,pI 0,pN,pI 0,pI 0,pS ByteArray.empty,pN]) rfl rfl rfl rfl (fun b4=>ybq rfl rfl (yaq (vs:=[pI (IntKind.i64.wrap (5+(Int.tmod x2.1 2))),pI 0,pN,pI 0,pI 0,pS ByteArray.empty,pN]) rfl rfl rfl rfl rfl zuh (zl7) (yau (yab (yaa (yaa (yac [0] [23,24,25] [(26,pB ((IntKind.i64.wrap (5+(Int.tmod x2.1 2))) == p1))] fo0 (by kernel_rfl) (yab (yad h fun q6 hq6 h=>?_))))))))))))
  refine yav (Y:=(Unit)×(Int)) (fun (_,v5)=>[(0,pP b0 0),(2,pI p2),(6,pP b1 0),(8,pP b4 0)]) (fun (_,v5)=>[PRes.b b0 86 [pL eI x2.2.L,pI x2.2.I],PRes.b b1 68 [pI 0,pI 0,pN,pI 0,pI 0,pS ByteArray.empty,pN],PRes.b b4 68 [pI v5,pI 0,pN,pI 0,pI 0,pS ByteArray.empty,pN]]) (fun (_,v5)=>q6=v5) ?_ ?_
  ·skip
   refine zif rfl hq6 (fun hc7 hq6=>?_) fun hc7 hq6=>?_
   ·refine yae ?_
    refine yaj 3 [] [27] [(28,pI (IntKind.i64.wrap (11 - p1))),(29,pP b4 0)] fo0 (by kernel_rfl) (ybq rfl rfl (yaq (vs:=[pI (IntKind.i64.wrap (11 - p1))]) rfl rfl rfl rfl rfl zuh (zl1) (yau ?_)))
    obtain rfl:=osi hq6
    exact yaz ((),(IntKind.i64.wrap (11 - p1))) (zh4 rfl rfl rfl rfl) (zsc (zpt zph) (zsc (zpt zph) (zs1))) rfl
   refine yag ?_
   obtain rfl:=osi hq6
   exact yaz ((),(IntKind.i64.wrap (5+(Int.tmod x2.1 2)))) (zh4 rfl rfl rfl rfl) (zsc (zpt zph) (zsc (zpt zph) (zs1))) rfl
  rintro ⟨_,v5⟩ τ hz;(try dsimp only at hz);subst q6;(try dsimp only at h);dsimp only [pupds]
  refine yaa (yaa (yad h fun x8 hx8 h=>yae (yaj 1 [] [] [(30,pP b0 0)] fo0 (by kernel_rfl) ?_)))
  refine yat rfl rfl rfl (ybj rfl rfl (ρ1:=[_]) (yaw (by exact zph) (List.Perm.refl _)) (yar hx8) ?_);rintro _ _ ⟨rfl,rfl⟩
  refine yan [] [32] [(9,pI (IntKind.i64.wrap (2+x8.1)))] fo0 (by kernel_rfl) (yab (ycr 68 7 (yad h fun q23 hq23 h=>?_)))
  refine yav (Y:=(Option Addr×Nat)×((List Int)×Int×(List Zc))) (fun ((a19,c20),(l16,v17,l21))=>[(6,pP b1 0),(8,pP b4 0)]) (fun ((a19,c20),(l16,v17,l21))=>[PRes.b b0 86 [pL eI l16,pI v17],PRes.b b1 68 [pI 0,pI 0,pN,pI 0,pI 0,pS ByteArray.empty,pN],PRes.b b4 68 [pI v5,pI 0,pN,pI 0,pI 0,pS ByteArray.empty,pO a19 l21.length c20],PRes.row a19 l21.length c20 68 7 (List.map Zc.enc l21)]) (fun ((a19,c20),(l16,v17,l21))=>q23=(l16,v17,l21)) ?_ ?_
  ·refine yak ?_
   refine yay (Y:=Option Addr×Nat) (S:=Int×(List Int)×Int×(List Zc)) _ hq23 (fun (a14,c15) (v9,l10,v11,l13)=>[(0,pP b0 0),(2,pI p2),(6,pP b1 0),(8,pP b4 0),(9,pI v9)]) (fun (a14,c15) (v9,l10,v11,l13)=>[PRes.b b0 86 [pL eI l10,pI v11],PRes.b b1 68 [pI 0,pI 0,pN,pI 0,pI 0,pS ByteArray.empty,pN],PRes.b b4 68 [pI v5,pI 0,pN,pI 0,pI 0,pS ByteArray.empty,pO a14 l13.length c15],PRes.row a14 l13.length c15 68 7 (List.map Zc.enc l13)]) (none,0) (zh5 rfl rfl rfl rfl rfl) (zsc (zpt zph) (zsc (zpt zph) (zsc (zpt zph) (zs1)))) ?_
   rintro ⟨a14,c15⟩ ⟨v9,l10,v11,l13⟩ o τ hb22;(try dsimp only at hb22);dsimp only [pupds]
   refine yaa (yaa (yac [] [33] [(34,pB (decide (0<v9)))] fo0 (by kernel_rfl) (yab (zif rfl hb22 (fun hc25 hb22=>?_) fun hc25 hb22=>?_))))
   ·refine yag ?_
    refine yab (yaa (yak (yad hb22 fun x26 hx26 hb22=>yad hb22 fun l29 hl29 hb22=>?_)))
    refine ynv (Y:=Option Addr×Nat) (fun (a30,c31)=>[(0,pP b0 0),(2,pI p2),(6,pP b1 0),(8,pP b4 0),(9,pI v9)]) (fun (a30,c31)=>[PRes.b b0 86 [pL eI x26.2.L,pI x26.2.I],PRes.b b1 68 [pI 0,pI 0,pN,pI 0,pI 0,pS ByteArray.empty,pN],PRes.b b4 68 [pI v5,pI 0,pN,pI 0,pI 0,pS ByteArray.empty,pO a30 l29.length c31],PRes.row a30 l29.length c31 68 7 (List.map Zc.enc l29)]) (fun _=>True) ?_ ?_
    ·refine ymt (ρd:=[PRes.b b0 _ _,PRes.row a14 _ _ _ _ _,PRes.b b4 _ _]) _ (yaw zph (yaw (zpt (zpt zph)) (yaw (zpt zph) (List.Perm.refl _)))) ?_
     refine yde 0 (by kernel_rfl) rfl rfl rfl rfl (ybx rfl rfl rfl rfl rfl (.p rfl)) (yde 2 (by kernel_rfl) rfl rfl rfl rfl (yfr (p:=pP b0 0) rfl (.p rfl)) (yde 3 (by kernel_rfl) rfl rfl rfl rfl (ybx rfl rfl rfl rfl rfl (.p rfl)) (yde 5 (by kernel_rfl) rfl rfl rfl rfl (yfr (p:=pI p2) rfl (.p rfl)) (yde 6 (by kernel_rfl) rfl rfl rfl rfl (yyz rfl (.p rfl) (.p rfl) rfl) ?_))))
     refine yje 1 4 (by kernel_rfl) ?_ ?_
     ·skip
      refine ybi rfl rfl rfl rfl (xal (ydd (p:=pO a14 l13.length c15) rfl (.p rfl) zm2 rfl) (ybm 4 (by kernel_rfl) (ybi rfl rfl rfl rfl (xal (ydd (p:=pI v5) rfl (.p rfl) zm2 rfl) (ybm 7 (by kernel_rfl) ?_)))))
      refine ybi rfl rfl rfl rfl (ybj rfl rfl (ρ1:=[_]) (yaw (by exact zph) (List.Perm.refl _)) (hrec hx26) ?_);rintro _ _ ⟨rfl,rfl⟩
      refine ybm 8 (by kernel_rfl) ?_
      refine ybi rfl rfl rfl rfl (ycg (css:=List.map Zc.enc [x26.1]) rfl rfl rfl rfl rfl (by (simp only [List.map_cons,List.map_nil,Zc.enc_eq];(repeat (first | exact zin | apply zic rfl)))) rfl (by (simp only [List.map_cons,List.map_nil,Zc.enc_eq];rfl)) rfl rfl (fun b27=>?_))
      refine ybm 9 (by kernel_rfl) ?_
      refine ybi rfl rfl rfl rfl (yci (enc:=Zc.enc) rfl rfl rfl rfl rfl rfl rfl rfl rfl zm0 (by exact zpt (zpt zph)) hl29 (fun a30 c31=>?_))
      refine yde 10 (by kernel_rfl) rfl rfl rfl rfl (ybx rfl rfl rfl rfl rfl (.p rfl)) (ybm 11 (by kernel_rfl) (yfx rfl rfl rfl (yaq (vs:=[pO a30 l29.length c31]) rfl rfl rfl rfl rfl (zut (zut (zut zuh))) (zlt (zlt (zlt (zlt (zlt (zlt (zl1))))))) (yeu (by kernel_rfl) ?_))))
      exact ykn (a30,c31) (zh5 rfl rfl rfl rfl rfl) (zsc (zpt (zpt zph)) (zsc (zpt (zpt (zpt zph))) (zsc (zpt (zpt zph)) (zs1)))) trivial
     skip
     refine ybi rfl rfl rfl rfl (xal (ydd (p:=pI v5) rfl (.p rfl) zm2 rfl) ?_)
     refine yje 1 7 (by kernel_rfl) ?_ ?_
     ·skip
      refine ybi rfl rfl rfl rfl (xal (ydd (p:=pO a14 l13.length c15) rfl (.p rfl) zm2 rfl) (ybm 7 (by kernel_rfl) ?_))
      refine ybi rfl rfl rfl rfl (ybj rfl rfl (ρ1:=[_]) (yaw (by exact zph) (List.Perm.refl _)) (hrec hx26) ?_);rintro _ _ ⟨rfl,rfl⟩
      refine ybm 8 (by kernel_rfl) ?_
      refine ybi rfl rfl rfl rfl (ycg (css:=List.map Zc.enc [x26.1]) rfl rfl rfl rfl rfl (by (simp only [List.map_cons,List.map_nil,Zc.enc_eq];(repeat (first | exact zin | apply zic rfl)))) rfl (by (simp only [List.map_cons,List.map_nil,Zc.enc_eq];rfl)) rfl rfl (fun b27=>?_))
      refine ybm 9 (by kernel_rfl) ?_
      refine ybi rfl rfl rfl rfl (yci (enc:=Zc.enc) rfl rfl rfl rfl rfl rfl rfl rfl rfl zm0 (by exact zpt (zpt zph)) hl29 (fun a30 c31=>?_))
      refine yde 10 (by kernel_rfl) rfl rfl rfl rfl (ybx rfl rfl rfl rfl rfl (.p rfl)) (ybm 11 (by kernel_rfl) (yfx rfl rfl rfl (yaq (vs:=[pO a30 l29.length c31]) rfl rfl rfl rfl rfl (zut (zut (zut zuh))) (zlt (zlt (zlt (zlt (zlt (zlt (zl1))))))) (yeu (by kernel_rfl) ?_))))
      exact ykn (a30,c31) (zh5 rfl rfl rfl rfl rfl) (zsc (zpt (zpt zph)) (zsc (zpt (zpt (zpt zph))) (zsc (zpt (zpt zph)) (zs1)))) trivial
     skip
     refine ybi rfl rfl rfl rfl (ybj rfl rfl (ρ1:=[_]) (yaw (by exact zph) (List.Perm.refl _)) (hrec hx26) ?_);rintro _ _ ⟨rfl,rfl⟩
     refine yje 1 8 (by kernel_rfl) ?_ ?_
     ·skip
      refine ybi rfl rfl rfl rfl (xal (ydd (p:=pO a14 l13.length c15) rfl (.p rfl) zm2 rfl) (ybm 8 (by kernel_rfl) ?_))
      refine ybi rfl rfl rfl rfl (ycg (css:=List.map Zc.enc [x26.1]) rfl rfl rfl rfl rfl (by (simp only [List.map_cons,List.map_nil,Zc.enc_eq];(repeat (first | exact zin | apply zic rfl)))) rfl (by (simp only [List.map_cons,List.map_nil,Zc.enc_eq];rfl)) rfl rfl (fun b27=>?_))
      refine ybm 9 (by kernel_rfl) ?_
      refine ybi rfl rfl rfl rfl (yci (enc:=Zc.enc) rfl rfl rfl rfl rfl rfl rfl rfl rfl zm0 (by exact zpt (zpt zph)) hl29 (fun a30 c31=>?_))
      refine yde 10 (by kernel_rfl) rfl rfl rfl rfl (ybx rfl rfl rfl rfl rfl (.p rfl)) (ybm 11 (by kernel_rfl) (yfx rfl rfl rfl (yaq (vs:=[pO a30 l29.length c31]) rfl rfl rfl rfl rfl (zut (zut (zut zuh))) (zlt (zlt (zlt (zlt (zlt (zlt (zl1))))))) (yeu (by kernel_rfl) ?_))))
      exact ykn (a30,c31) (zh5 rfl rfl rfl rfl rfl) (zsc (zpt (zpt zph)) (zsc (zpt (zpt (zpt zph))) (zsc (zpt (zpt zph)) (zs1)))) trivial
     skip
     refine ybi rfl rfl rfl rfl (ycg (css:=List.map Zc.enc [x26.1]) rfl rfl rfl rfl rfl (by (simp only [List.map_cons,List.map_nil,Zc.enc_eq];(repeat (first | exact zin | apply zic rfl)))) rfl (by (simp only [List.map_cons,List.map_nil,Zc.enc_eq];rfl)) rfl rfl (fun b27=>?_))
     refine ybm 1 (by kernel_rfl) (ybi rfl rfl rfl rfl (xal (ydd (p:=pO a14 l13.length c15) rfl (.p rfl) zm3 rfl) (ybm 9 (by kernel_rfl) ?_)))
     refine ybi rfl rfl rfl rfl (yci (enc:=Zc.enc) rfl rfl rfl rfl rfl rfl rfl rfl rfl zm0 (by exact zpt (zpt zph)) hl29 (fun a30 c31=>?_))
     refine yde 10 (by kernel_rfl) rfl rfl rfl rfl (ybx rfl rfl rfl rfl rfl (.p rfl)) (ybm 11 (by kernel_rfl) (yfx rfl rfl rfl (yaq (vs:=[pO a30 l29.length c31]) rfl rfl rfl rfl rfl (zut (zut (zut zuh))) (zlt (zlt (zlt (zlt (zlt (zlt (zl1))))))) (yeu (by kernel_rfl) ?_))))
     exact ykn (a30,c31) (zh5 rfl rfl rfl rfl rfl) (zsc (zpt (zpt zph)) (zsc (zpt (zpt (zpt zph))) (zsc (zpt (zpt zph)) (zs1)))) trivial
    rintro ⟨a30,c31⟩ τ ρ1 hsub33 _;(try dsimp only at hsub33);dsimp only [pupds]
    refine yal (yab (yus hsub33 (yac [] [35,36] [(9,pI (IntKind.i64.wrap (v9 - 1)))] fo0 (by kernel_rfl) ?_)))
    exact ybu hb22 (a30,c31) (zh5 rfl rfl rfl rfl rfl) (zs4)
   refine ybd ?_
   refine yap (yam hb22 (fun ht=>yao rfl ?_))
   exact yaz ((a14,c15),(l10,v11,l13)) (zh2 rfl rfl) (zs4) ht.symm
  rintro ⟨⟨a19,c20⟩,⟨l16,v17,l21⟩⟩ τ hz;(try dsimp only at hz);subst q23;(try dsimp only at h);dsimp only [pupds]
  refine yaa (yae (ytt (k:=2) (b:=b4) rfl (zut (zut zuh)) ?_))
  refine ype (css:=List.map Zc.enc l21) (a:=a19) (by exact zpt (zpt (zpt zph))) ?_
  refine yli (k:=6) (enc:=Zc.enc) (xs:=l21) (b:=b4) (a:=a19) rfl zm0 (zut (zut (zut zuh))) (yaj 1 [3] [] [(48,.agg [pI v5,pI 0,pL eS [],pI 0,pI 0,pS ByteArray.empty,pL Zc.enc l21])] fo0 (by kernel_rfl) (ybq rfl rfl (yaq (vs:=[pI v5,pI 0,pL eS [],pI 0,pI 0,pS ByteArray.empty,pL Zc.enc l21]) rfl rfl rfl rfl rfl (zut (zut zuh)) (zl7) (yau (yab (yai (yah ?_)))))))
  obtain rfl:=osi h
  exact ybh (ygn (yjr rfl zm2 rfl)) (zsc (zpt zph) zsn) ⟨rfl,rfl⟩
 refine yag ?_
 refine yab (yaa (yaa (yac [] [49] [(50,pI (Int.tmod x2.1 4))] fo0 (by kernel_rfl) (yab (yad h fun q36 hq36 h=>?_)))))
 refine yav (Y:=(Unit)×((List Int)×Int)) (fun (_,(l34,v35))=>[(0,pP b0 0),(6,pP b1 0)]) (fun (_,(l34,v35))=>[PRes.b b0 86 [pL eI l34,pI v35],PRes.b b1 68 [pI 0,pI 0,pN,pI 0,pI 0,pS ByteArray.empty,pN]]) (fun (_,(l34,v35))=>q36=Sum.inl (l34,v35)) ?_ ?_
 ·skip
  refine yak (yaa (yac [] [52] [(51,pB ((Int.tmod x2.1 4) == 1))] fo0 (by kernel_rfl) (yab (zif rfl hq36 (fun hc37 hq36=>?_) fun hc37 hq36=>?_))))
  ·refine yaa ?_
   refine yad hq36 fun x38 hx38 hq36=>yae (yaj 1 [] [] [(53,pP b0 0)] fo0 (by kernel_rfl) ?_)
   refine yat rfl rfl rfl (ybj rfl rfl (ρ1:=[_]) (yaw (by exact zph) (List.Perm.refl _)) (yll hx38) ?_);rintro _ _ ⟨rfl,rfl⟩
   refine yaj 1 [] [] [(55,.agg [pI 3,pI 0,pN,pI 0,pI x38.1,pS ByteArray.empty,pN])] fo0 (by kernel_rfl) (ybq rfl rfl (yaq (vs:=[pI 3,pI 0,pN,pI 0,pI x38.1,pS ByteArray.empty,pN]) rfl rfl rfl rfl rfl (zut zuh) (zl7) (yau (yab (ygr (k:=2) (b:=b1) rfl (zut zuh) (ygr (k:=6) (b:=b1) rfl (zut zuh) (yai (yaf (ybb ?_)))))))))
   obtain rfl:=osi hq36
   obtain rfl:=osi h
   exact ybh (ygn (yjr rfl zm1 rfl)) (zs1) ⟨rfl,rfl⟩
  refine yaa ?_
  refine yac [] [57] [(56,pB ((Int.tmod x2.1 4) == 2))] fo0 (by kernel_rfl) (yab (zif rfl hq36 (fun hc39 hq36=>?_) fun hc39 hq36=>?_))
  ·refine yaa ?_
   refine yae (yat rfl rfl rfl (ycg rfl rfl rfl rfl rfl (zic rfl (zic rfl (zic rfl (zic rfl (zic rfl zin))))) rfl rfl rfl rfl (fun b40=>yad hq36 fun x42 hx42 hq36=>yaj 1 [] [] [(59,pP b0 0)] fo0 (by kernel_rfl) ?_)))
   refine yat rfl rfl rfl (ybj rfl rfl (ρ1:=[_]) (yaw (by exact zpt zph) (List.Perm.refl _)) (yar hx42) ?_);rintro _ _ ⟨rfl,rfl⟩
   refine yad hq36 fun m43 hm43 hq36=>ycz rfl rfl rfl (ygb (enc:=eS) (xs:=[(⟨#[97,110,100]⟩:ByteArray),(⟨#[99,117,116]⟩:ByteArray),(⟨#[111,114]⟩:ByteArray),(⟨#[115,101,119]⟩:ByteArray),(⟨#[115,112,105,110]⟩:ByteArray)]) rfl rfl rfl (.p rfl) zm1 (.p rfl) (fun _=>hm43)) (ycz rfl rfl rfl (ydr (sz:=1) (p:=pS m43) (enc:=eS) (xs:=[(⟨#[97,110,100]⟩:ByteArray),(⟨#[99,117,116]⟩:ByteArray),(⟨#[111,114]⟩:ByteArray),(⟨#[115,101,119]⟩:ByteArray),(⟨#[115,112,105,110]⟩:ByteArray)]) (a:=(some ⟨b40,0,none⟩)) x42.1 0 m43 rfl (.p rfl) rfl zm1 (fun _=>hm43) rfl) (yaj 1 [] [] [(63,.agg [pI 4,pI 0,pN,pI 0,pI 0,pS m43,pN])] fo0 (by kernel_rfl) (ybq rfl rfl (yaq (vs:=[pI 4,pI 0,pN,pI 0,pI 0,pS m43,pN]) rfl rfl rfl rfl rfl (zut (zut zuh)) (zl7) (yau (yab (ygr (k:=2) (b:=b1) rfl (zut (zut zuh)) (ygr (k:=6) (b:=b1) rfl (zut (zut zuh)) (yai (yaf (ybb ?_)))))))))))
   obtain rfl:=osi hq36
   obtain rfl:=osi h
   exact ybh (ygn (yjr rfl zm2 rfl)) (zs1) ⟨rfl,rfl⟩
  refine yaa ?_
  refine yac [] [65] [(64,pB ((Int.tmod x2.1 4) == 3))] fo0 (by kernel_rfl) (yab (zif rfl hq36 (fun hc44 hq36=>?_) fun hc44 hq36=>?_))
  ·refine yaa ?_
   refine yad hq36 fun x45 hx45 hq36=>yae (yaj 1 [] [] [(66,pP b0 0)] fo0 (by kernel_rfl) ?_)
   refine yat rfl rfl rfl (ybj rfl rfl (ρ1:=[_]) (yaw (by exact zph) (List.Perm.refl _)) (yar hx45) ?_);rintro _ _ ⟨rfl,rfl⟩
   refine yan [] [] [(68,pB (x45.1 == 1))] fo0 (by kernel_rfl) (yab (zif rfl hq36 (fun hc46 hq36=>?_) fun hc46 hq36=>?_))
   ·refine yaa ?_
    refine yae (yaj 1 [] [] [(69,.agg [pI 1,pI 0,pN,pI 0,pI 0,pS ByteArray.empty,pN])] fo0 (by kernel_rfl) (ybq rfl rfl (yaq (vs:=[pI 1,pI 0,pN,pI 0,pI 0,pS ByteArray.empty,pN]) rfl rfl rfl rfl rfl (zut zuh) (zl7) (yau (yab (ygr (k:=2) (b:=b1) rfl (zut zuh) (ygr (k:=6) (b:=b1) rfl (zut zuh) (yai (yaf (ybb ?_))))))))))
    obtain rfl:=osi hq36
    obtain rfl:=osi h
    exact ybh (ygn (yjr rfl zm1 rfl)) (zs1) ⟨rfl,rfl⟩
   refine yag ?_
   refine yal ?_
   obtain rfl:=osi hq36
   exact yaz ((),(x45.2.L,x45.2.I)) (zh2 rfl rfl) (zs2) rfl
  refine yag ?_
  refine yal ?_
  obtain rfl:=osi hq36
  exact yaz ((),(x2.2.L,x2.2.I)) (zh2 rfl rfl) (zs2) rfl
 rintro ⟨_,⟨l34,v35⟩⟩ τ hz;(try dsimp only at hz);subst q36;(try dsimp only at h);dsimp only [pupds]
 refine yaa (yad h fun x47 hx47 h=>yae (yaj 1 [] [] [(70,pP b0 0)] fo0 (by kernel_rfl) ?_))
 refine yat rfl rfl rfl (ybj rfl rfl (ρ1:=[_]) (yaw (by exact zph) (List.Perm.refl _)) (yar hx47) ?_);rintro _ _ ⟨rfl,rfl⟩
 refine yaj 3 [] [72,73] [(74,.agg [pI 2,pI (IntKind.i64.wrap (2+(IntKind.i64.wrap (2*x47.1)))),pN,pI 0,pI 0,pS ByteArray.empty,pN])] fo0 (by kernel_rfl) (yat rfl rfl rfl (ybg (cs:=[pI 0,pI 0,pN,pI 0,pI 0,pS ByteArray.empty,pN]) rfl rfl rfl rfl (fun b48=>ybq rfl rfl (yaq (vs:=[pI 2,pI (IntKind.i64.wrap (2+(IntKind.i64.wrap (2*x47.1)))),pN,pI 0,pI 0,pS ByteArray.empty,pN]) rfl rfl rfl rfl rfl zuh (zl7) (yau (yab (yaa (yaa (yad h fun x49 hx49 h=>yae (yaj 1 [] [] [(75,pP b0 0)] fo0 (by kernel_rfl) ?_))))))))))
 refine yat rfl rfl rfl (ybj rfl rfl (ρ1:=[_]) (yaw (by exact zpt zph) (List.Perm.refl _)) (yar hx49) ?_);rintro _ _ ⟨rfl,rfl⟩
 refine yan [] [] [(77,pB (x49.1 == 1))] fo0 (by kernel_rfl) (yab (yad h fun q53 hq53 h=>?_))
 refine yav (Y:=(Unit)×((List Int)×Int×(List ByteArray))) (fun (_,(l50,v51,l52))=>[(0,pP b0 0),(6,pP b1 0),(10,pP b48 0)]) (fun (_,(l50,v51,l52))=>[PRes.b b0 86 [pL eI l50,pI v51],PRes.b b1 68 [pI 0,pI 0,pN,pI 0,pI 0,pS ByteArray.empty,pN],PRes.b b48 68 [pI 2,pI (IntKind.i64.wrap (2+(IntKind.i64.wrap (2*x47.1)))),pL eS l52,pI 0,pI 0,pS ByteArray.empty,pN]]) (fun (_,(l50,v51,l52))=>q53=(l50,v51,l52)) ?_ ?_
 ·skip
  refine zif rfl hq53 (fun hc54 hq53=>?_) fun hc54 hq53=>?_
  ·refine yae ?_
   refine yat rfl rfl rfl (ycg rfl rfl rfl rfl rfl (zic rfl (zic rfl zin)) rfl rfl rfl rfl (fun b55=>yad hq53 fun x57 hx57 hq53=>yaj 1 [] [] [(79,pP b0 0)] fo0 (by kernel_rfl) ?_))
   refine yat rfl rfl rfl (ybj rfl rfl (ρ1:=[_]) (yaw (by exact zpt zph) (List.Perm.refl _)) (yar hx57) ?_);rintro _ _ ⟨rfl,rfl⟩
   refine ygq (enc:=eS) (xs:=[(⟨#[57,52,48,49]⟩:ByteArray),(⟨#[57,53,48,50]⟩:ByteArray)]) 78 rfl (by exact zpt zph) ?_
   refine yad hq53 fun l58 hl58 hq53=>yaj 2 [] [] [(81,pL eS l58),(82,pP b48 2)] (fosl 0 eS 1 (fun _=>rfl) hl58 fo0) (by kernel_rfl) (ybq rfl rfl (yaq (vs:=[pL eS l58]) rfl rfl rfl rfl rfl (zut (zut zuh)) (zlt (zlt (zl1))) (yau ?_)))
   obtain rfl:=osi hq53
   exact yaz ((),(x57.2.L,x57.2.I,l58)) (zh3 rfl rfl rfl) (zsc (zpt zph) (zsc (zpt (zpt zph)) (zsc (zpt zph) zsn))) rfl
  refine yag ?_
  refine ypw (cov_nilb (k:=2) (b:=b48) rfl (zut zuh)) ?_
  obtain rfl:=osi hq53
  exact yaz ((),(x49.2.L,x49.2.I,[])) (zh3 rfl rfl rfl) (zsc zph (zsc (zpt zph) (zs1))) rfl
 rintro ⟨_,⟨l50,v51,l52⟩⟩ τ hz;(try dsimp only at hz);subst q53;(try dsimp only at h);dsimp only [pupds]
 refine yaa (yaa (yad h fun x59 hx59 h=>yae (yaj 1 [] [] [(83,pP b0 0)] fo0 (by kernel_rfl) ?_)))
 refine yat rfl rfl rfl (ybj rfl rfl (ρ1:=[_]) (yaw (by exact zph) (List.Perm.refl _)) (yar hx59) ?_);rintro _ _ ⟨rfl,rfl⟩
 refine yan [] [] [(85,pB (x59.1 == 1))] fo0 (by kernel_rfl) (yab (yad h fun q63 hq63 h=>?_))
 refine yav (Y:=(Unit)×((List Int)×Int×Int)) (fun (_,(l60,v61,v62))=>[(6,pP b1 0),(10,pP b48 0)]) (fun (_,(l60,v61,v62))=>[PRes.b b0 86 [pL eI l60,pI v61],PRes.b b1 68 [pI 0,pI 0,pN,pI 0,pI 0,pS ByteArray.empty,pN],PRes.b b48 68 [pI 2,pI (IntKind.i64.wrap (2+(IntKind.i64.wrap (2*x47.1)))),pL eS l52,pI v62,pI 0,pS ByteArray.empty,pN]]) (fun (_,(l60,v61,v62))=>q63=(l60,v61,v62)) ?_ ?_
 ·skip
  refine zif rfl hq63 (fun hc64 hq63=>?_) fun hc64 hq63=>?_
  ·refine yad hq63 ?_;clear hq63;intro x65 hx65 hq63
   refine yae (yaj 1 [] [] [(86,pP b0 0)] fo0 (by kernel_rfl) ?_)
   refine yat rfl rfl rfl (ybj rfl rfl (ρ1:=[_]) (yaw (by exact zph) (List.Perm.refl _)) (yll hx65) ?_);rintro _ _ ⟨rfl,rfl⟩
   refine yaj 1 [] [] [(88,pP b48 3)] fo0 (by kernel_rfl) (ybq rfl rfl (yaq (vs:=[pI x65.1]) rfl rfl rfl rfl rfl (zut (zut zuh)) (zlt (zlt (zlt (zl1)))) (yau ?_)))
   obtain rfl:=osi hq63
   exact yaz ((),(x65.2.L,x65.2.I,x65.1)) (zh2 rfl rfl) (zs3) rfl
  refine yag ?_
  obtain rfl:=osi hq63
  exact yaz ((),(x59.2.L,x59.2.I,0)) (zh2 rfl rfl) (zs3) rfl
 rintro ⟨_,⟨l60,v61,v62⟩⟩ τ hz;(try dsimp only at hz);subst q63;(try dsimp only at h);dsimp only [pupds]
 refine yaa (yae (ytt (k:=6) (b:=b48) rfl (zut (zut zuh)) (yaj 1 [2] [] [(89,.agg [pI 2,pI (IntKind.i64.wrap (2+(IntKind.i64.wrap (2*x47.1)))),pL eS l52,pI v62,pI 0,pS ByteArray.empty,pL Zc.enc []])] fo0 (by kernel_rfl) (ybq rfl rfl (yaq (vs:=[pI 2,pI (IntKind.i64.wrap (2+(IntKind.i64.wrap (2*x47.1)))),pL eS l52,pI v62,pI 0,pS ByteArray.empty,pL Zc.enc []]) rfl rfl rfl rfl rfl (zut zuh) (zl7) (yau (yab (yai ?_))))))))
 obtain rfl:=osi h
 exact ybh (ygn (yjr rfl zm1 rfl)) (zs1) ⟨rfl,rfl⟩
def yej (n:Nat):Zl→Int→Int→Option (Zc×Zl):=Nat.rec (motive:=fun _=>Zl→Int→Int→Option (Zc×Zl)) (fun _ _ _=>none) (fun _ ih=>yfl ih) n
def yon (p0:Zl) (p1:Int) (p2:Int):Option (Zc×Zl):=yej FUEL p0 p1 p2
theorem yqn (n:Nat):∀ {p0:Zl} {p1:Int} {p2:Int} {b0:Nat} {r:(Zc×Zl)},yej n p0 p1 p2=some r→PCall 47 [pP b0 0,pI p1,pI p2] [PRes.b b0 86 [pL eI p0.L,pI p0.I]] (fun pv ρ'=>pv=.agg [pI r.1.Kind,pI r.1.Digits,pL eS r.1.Except,pI r.1.Tolerance,pI r.1.Limit,pS r.1.Name,pL Zc.enc r.1.Args]∧ρ'=[PRes.b b0 86 [pL eI r.2.L,pI r.2.I]]):=by
 induction n with
 | zero=>intros;rename_i h;exact nomatch h
 | succ n ih=>intros;rename_i h;exact ypg (fun hr=>ih hr) h
theorem ylm {p0:Zl} {p1:Int} {p2:Int} {b0:Nat} {r:(Zc×Zl)} (h:yon p0 p1 p2=some r):PCall 47 [pP b0 0,pI p1,pI p2] [PRes.b b0 86 [pL eI p0.L,pI p0.I]] (fun pv ρ'=>pv=.agg [pI r.1.Kind,pI r.1.Digits,pL eS r.1.Except,pI r.1.Tolerance,pI r.1.Limit,pS r.1.Name,pL Zc.enc r.1.Args]∧ρ'=[PRes.b b0 86 [pL eI r.2.L,pI r.2.I]]):=yqn FUEL h
def ygd (p0:(List Int)):Option (List Zb):=Option.bind (made_Cut p0 200) (fun x1=>Option.bind (yas (⟨x1,0⟩:Zl) 4) (fun x3=>Option.bind (loopF (S:=(List Zb)×Int×(List Int)×Int) (T:=((List Zb))) (fun (l5,v8,l9,v10)=>cond (decide (v8<(IntKind.i64.wrap (1+x3.1)))) (Option.bind (yas (⟨l9,v10⟩:Zl) 3) (fun x19=>Option.bind (yas x19.2 64) (fun x21=>Option.bind (loopF (S:=Int×(List ByteArray)) (T:=((List ByteArray))) (fun (v22,l24)=>cond (decide (v22<6)) (Option.bind (Option.bind (ge0 v22) (fun u42=>cond ((iand .i64 (ishr .i64 (ior .i64 x21.1 3) v22) 1) == 1) (Option.bind (ygx) (fun x44=>Option.bind (idx x44 v22) (fun m45=>Option.bind (app 16 l24 [m45]) (fun l48=>some l48)))) (some l24))) (fun l40=>some (.inl ((IntKind.i64.wrap (v22+1)),l40)))) (some (.inr l24))) FUEL (0,([]:List ByteArray))) (fun l31=>Option.bind (gdp (decide (0<v8)) (yas x21.2 2) x21.2) (fun x53=>Option.bind (cond ((decide (0<v8))&&(x53.1 == 1)) (Option.bind (idx l5 (IntKind.i64.wrap (v8 - 1))) (fun m61=>some (x53.2.L,x53.2.I,m61.Rules))) (Option.bind (yas x53.2 31) (fun x64=>Option.bind (loopF (S:=Int×(List Int)×Int×(List Zi)) (T:=((List Int)×Int×(List Zi))) (fun (v65,l66,v67,l69)=>cond (decide (v65<5)) (Option.bind (Option.bind (ge0 v65) (fun u94=>cond ((iand .i64 (ishr .i64 (IntKind.i64.wrap (1+x64.1)) v65) 1) == 1) (Option.bind (idx [(⟨#[57,52]⟩:ByteArray),(⟨#[57,52,48,49]⟩:ByteArray),(⟨#[57,52,48,49,48,50]⟩:ByteArray),(⟨#[57,53]⟩:ByteArray),(⟨#[57,53,48,50]⟩:ByteArray)] v65) (fun m96=>Option.bind (yon (⟨l66,v67⟩:Zl) 0 1) (fun x97=>Option.bind (app 112 l69 [(⟨m96,x97.1⟩:Zi)]) (fun l100=>some (x97.2.L,x97.2.I,l100))))) (some (l66,v67,l69)))) (fun (l86,v87,l92)=>some (.inl ((IntKind.i64.wrap (v65+1)),l86,v87,l92)))) (some (.inr (l66,v67,l69)))) FUEL (0,x64.2.L,x64.2.I,([]:List Zi))) (fun (l73,v74,l79)=>some (l73,v74,l79))))) (fun (l55,v56,l58)=>Option.bind (app 64 l5 [(⟨(IntKind.i64.wrap (2+(IntKind.i64.wrap (5*v8)))),(IntKind.i64.wrap (1+x19.1)),l31,l58⟩:Zb)]) (fun l108=>some (.inl (l108,(IntKind.i64.wrap (v8+1)),l55,v56))))))))) (some (.inr l5))) FUEL (([]:List Zb),0,x3.2.L,x3.2.I)) (fun l14=>some l14)))
theorem ymc {p0:(List Int)} {r:(List Zb)}  (h:ygd p0=some r):PCall 16 [pL eI p0] [] (fun pv ρ'=>∃ a c,pv=.v (.slice a r.length c)∧ρ'=[PRes.row a r.length c 52 4 (List.map Zb.enc r)]):=by
 unfold ygd at h
 refine ybc Tryz.func16 fk16 rfl Tryz.ntmps16 Tryz.results16 rfl (yaa (yac [] [2] [] fo0 (by kernel_rfl) (yab (yaa (yad h fun x1 hx1 h=>yae (yaj 3 [] [13,14] [(15,.agg [pL eI x1,pI 0])] (yfg 1 (yvc hx1) fo0) (by kernel_rfl) (yat rfl rfl rfl (ycn (cs:=[pL eI x1,pI 0]) rfl rfl (fun b2=>yan [] [] [(3,pP b2 0)] fo0 (by kernel_rfl) (yab (yaa (yac [] [] [(4,pN)] fo0 (by kernel_rfl) (yab (yaa (yaa (yad h fun x3 hx3 h=>yae (yaj 1 [] [] [(17,pP b2 0)] fo0 (by kernel_rfl) ?_)))))))))))))))))
 refine yat rfl rfl rfl (ybj rfl rfl (ρ1:=[_]) (yaw (by exact zph) (List.Perm.refl _)) (yar hx3) ?_);rintro _ _ ⟨rfl,rfl⟩
 refine yan [] [19] [(5,pI 0),(6,pI (IntKind.i64.wrap (1+x3.1)))] fo0 (by kernel_rfl) (yab (ycr 52 4 (yad h fun q16 hq16 h=>?_)))
 refine yav (Y:=(Option Addr×Nat)×((List Zb))) (fun ((a12,c13),l14)=>[(4,pO a12 l14.length c13)]) (fun ((a12,c13),l14)=>[PRes.row a12 l14.length c13 52 4 (List.map Zb.enc l14)]) (fun ((a12,c13),l14)=>q16=l14) ?_ ?_
 ·refine yak ?_
  refine yay (Y:=Option Addr×Nat) (S:=(List Zb)×Int×(List Int)×Int) _ hq16 (fun (a6,c7) (l5,v8,l9,v10)=>[(3,pP b2 0),(4,pO a6 l5.length c7),(5,pI v8),(6,pI (IntKind.i64.wrap (1+x3.1)))]) (fun (a6,c7) (l5,v8,l9,v10)=>[PRes.b b2 86 [pL eI l9,pI v10],PRes.row a6 l5.length c7 52 4 (List.map Zb.enc l5)]) (none,0) (zh4 rfl rfl rfl rfl) (zsc (zpt zph) (zs1)) ?_
  rintro ⟨a6,c7⟩ ⟨l5,v8,l9,v10⟩ o τ hb15;(try dsimp only at hb15);dsimp only [pupds]
  refine yaa (yaa (yac [] [20,21] [(22,pB (decide (v8<(IntKind.i64.wrap (1+x3.1)))))] fo0 (by kernel_rfl) (yab (zif rfl hb15 (fun hc18 hb15=>?_) fun hc18 hb15=>?_))))
  ·refine yag ?_
   refine yab (yaa (yak (yaa (yad hb15 fun x19 hx19 hb15=>yae (yaj 4 [] [25,26] [(27,pI (IntKind.i64.wrap (2+(IntKind.i64.wrap (5*v8))))),(28,pP b2 0)] fo0 (by kernel_rfl) ?_)))))
   refine yat rfl rfl rfl (ybj rfl rfl (ρ1:=[_]) (yaw (by exact zph) (List.Perm.refl _)) (yar hx19) ?_);rintro _ _ ⟨rfl,rfl⟩
   refine yaj 2 [] [30] [(31,.agg [pI (IntKind.i64.wrap (2+(IntKind.i64.wrap (5*v8)))),pI (IntKind.i64.wrap (1+x19.1)),pN,pN])] fo0 (by kernel_rfl) (yat rfl rfl rfl (ybg (cs:=[pI 0,pI 0,pN,pN]) rfl rfl rfl rfl (fun b20=>ybq rfl rfl (yaq (vs:=[pI (IntKind.i64.wrap (2+(IntKind.i64.wrap (5*v8)))),pI (IntKind.i64.wrap (1+x19.1)),pN,pN]) rfl rfl rfl rfl rfl zuh (zl4) (yau (yab (yaa (yad hb15 fun x21 hx21 hb15=>yae (yaj 1 [] [] [(32,pP b2 0)] fo0 (by kernel_rfl) ?_)))))))))
   refine yat rfl rfl rfl (ybj rfl rfl (ρ1:=[_]) (yaw (by exact zpt zph) (List.Perm.refl _)) (yar hx21) ?_);rintro _ _ ⟨rfl,rfl⟩
   refine yan [] [34] [(8,pI (ior .i64 x21.1 3))] fo0 (by kernel_rfl) (yab (yaa (yaa (yac [] [] [(9,pI 0)] fo0 (by kernel_rfl) (yab (ycr 9 1 (yad hb15 fun q33 hq33 hb15=>?_)))))))
   refine yav (Y:=(Option Addr×Nat)×((List ByteArray))) (fun ((a29,c30),l31)=>[(3,pP b2 0),(4,pO a6 l5.length c7),(5,pI v8),(6,pI (IntKind.i64.wrap (1+x3.1))),(7,pP b20 0)]) (fun ((a29,c30),l31)=>[PRes.b b2 86 [pL eI x21.2.L,pI x21.2.I],PRes.b b20 52 [pI (IntKind.i64.wrap (2+(IntKind.i64.wrap (5*v8)))),pI (IntKind.i64.wrap (1+x19.1)),pO a29 l31.length c30,pN],PRes.row a6 l5.length c7 52 4 (List.map Zb.enc l5),PRes.row a29 l31.length c30 9 1 (List.map eS l31)]) (fun ((a29,c30),l31)=>q33=l31) ?_ ?_
   ·refine yak ?_
    refine yay (Y:=Option Addr×Nat) (S:=Int×(List ByteArray)) _ hq33 (fun (a25,c26) (v22,l24)=>[(3,pP b2 0),(4,pO a6 l5.length c7),(5,pI v8),(6,pI (IntKind.i64.wrap (1+x3.1))),(7,pP b20 0),(8,pI (ior .i64 x21.1 3)),(9,pI v22)]) (fun (a25,c26) (v22,l24)=>[PRes.b b2 86 [pL eI x21.2.L,pI x21.2.I],PRes.b b20 52 [pI (IntKind.i64.wrap (2+(IntKind.i64.wrap (5*v8)))),pI (IntKind.i64.wrap (1+x19.1)),pO a25 l24.length c26,pN],PRes.row a25 l24.length c26 9 1 (List.map eS l24),PRes.row a6 l5.length c7 52 4 (List.map Zb.enc l5)]) (none,0) (zh7 rfl rfl rfl rfl rfl rfl rfl) (zsc (zpt zph) (zsc (zpt zph) (zs2))) ?_
    rintro ⟨a25,c26⟩ ⟨v22,l24⟩ o τ hb32;(try dsimp only at hb32);dsimp only [pupds]
    refine yaa (yaa (yac [] [35] [(36,pB (decide (v22<6)))] fo0 (by kernel_rfl) (yab (zif rfl hb32 (fun hc35 hb32=>?_) fun hc35 hb32=>?_))))
    ·refine yag ?_
     refine yab (yaa (yad hb32 fun q41 hq41 hb32=>?_))
     refine yav (Y:=(Option Addr×Nat)×((List ByteArray))) (fun ((a38,c39),l40)=>[(3,pP b2 0),(4,pO a6 l5.length c7),(5,pI v8),(6,pI (IntKind.i64.wrap (1+x3.1))),(7,pP b20 0),(8,pI (ior .i64 x21.1 3)),(9,pI v22)]) (fun ((a38,c39),l40)=>[PRes.b b2 86 [pL eI x21.2.L,pI x21.2.I],PRes.b b20 52 [pI (IntKind.i64.wrap (2+(IntKind.i64.wrap (5*v8)))),pI (IntKind.i64.wrap (1+x19.1)),pO a38 l40.length c39,pN],PRes.row a6 l5.length c7 52 4 (List.map Zb.enc l5),PRes.row a38 l40.length c39 9 1 (List.map eS l40)]) (fun ((a38,c39),l40)=>q41=l40) ?_ ?_
     ·skip
      refine yak (yaa (yad hq41 fun u42 hu42 hq41=>yac [] [39,40,41,42] [(43,pB ((iand .i64 (ishr .i64 (ior .i64 x21.1 3) v22) 1) == 1))] (foge 2 hu42 fo0) (by kernel_rfl) (yab (zif rfl hq41 (fun hc43 hq41=>?_) fun hc43 hq41=>?_))))
      ·refine yad hq41 ?_;clear hq41;intro x44 hx44 hq41
       refine yad hq41 fun m45 hm45 hq41=>yad hq41 fun l48 hl48 hq41=>?_
       refine ynv (Y:=Option Addr×Nat) (fun (a49,c50)=>[(3,pP b2 0),(4,pO a6 l5.length c7),(5,pI v8),(6,pI (IntKind.i64.wrap (1+x3.1))),(7,pP b20 0),(8,pI (ior .i64 x21.1 3)),(9,pI v22)]) (fun (a49,c50)=>[PRes.b b2 86 [pL eI x21.2.L,pI x21.2.I],PRes.b b20 52 [pI (IntKind.i64.wrap (2+(IntKind.i64.wrap (5*v8)))),pI (IntKind.i64.wrap (1+x19.1)),pO a49 l48.length c50,pN],PRes.row a6 l5.length c7 52 4 (List.map Zb.enc l5),PRes.row a49 l48.length c50 9 1 (List.map eS l48)]) (fun _=>True) ?_ ?_
       ·refine ymt (ρd:=[PRes.row a25 _ _ _ _ _,PRes.b b20 _ _]) _ (yaw (zpt (zpt zph)) (yaw (zpt zph) (List.Perm.refl _))) ?_
        refine yde 0 (by kernel_rfl) rfl rfl rfl rfl (ybx rfl rfl rfl rfl rfl (.p rfl)) (yde 3 (by kernel_rfl) rfl rfl rfl rfl (yfr (p:=pI v22) rfl (.p rfl)) ?_)
        refine yje 1 2 (by kernel_rfl) ?_ ?_
        ·skip
         refine ybi rfl rfl rfl rfl (xal (ydd (p:=pO a25 l24.length c26) rfl (.p rfl) zm1 rfl) (ybm 2 (by kernel_rfl) (ymu rfl rfl rfl rfl rfl rfl (yjg hx44) (yde 4 (by kernel_rfl) rfl rfl rfl rfl (xft (enc:=eS) rfl rfl rfl (fun _=>rfl) (.p rfl) (.p rfl) (fun _=>hm45)) (yde 5 (by kernel_rfl) rfl rfl rfl rfl (yut (p:=pS m45) rfl (.p rfl) rfl) (ybm 6 (by kernel_rfl) (ybi rfl rfl rfl rfl (ycg rfl rfl rfl rfl rfl (zic rfl zin) rfl rfl rfl rfl (fun b46=>ybm 7 (by kernel_rfl) ?_)))))))))
         refine ybi rfl rfl rfl rfl (yci (enc:=eS) rfl rfl rfl rfl rfl rfl rfl rfl rfl zm0 (by exact zpt zph) hl48 (fun a49 c50=>?_))
         refine yde 8 (by kernel_rfl) rfl rfl rfl rfl (ybx rfl rfl rfl rfl rfl (.p rfl)) (ybm 9 (by kernel_rfl) (yfx rfl rfl rfl (yaq (vs:=[pO a49 l48.length c50]) rfl rfl rfl rfl rfl (zut (zut zuh)) (zlt (zlt (zl1))) (yeu (by kernel_rfl) ?_))))
         exact ykn (a49,c50) (zh7 rfl rfl rfl rfl rfl rfl rfl) (zsc (zpt (zpt (zpt zph))) (zsc (zpt (zpt zph)) (zsc (zpt (zpt zph)) (zs1)))) trivial
        skip
        refine ymu rfl rfl rfl rfl rfl rfl (yjg hx44) (yde 4 (by kernel_rfl) rfl rfl rfl rfl (xft (enc:=eS) rfl rfl rfl (fun _=>rfl) (.p rfl) (.p rfl) (fun _=>hm45)) (yde 5 (by kernel_rfl) rfl rfl rfl rfl (yut (p:=pS m45) rfl (.p rfl) rfl) ?_))
        refine yje 1 6 (by kernel_rfl) ?_ ?_
        ·skip
         refine ybi rfl rfl rfl rfl (xal (ydd (p:=pO a25 l24.length c26) rfl (.p rfl) zm1 rfl) (ybm 6 (by kernel_rfl) (ybi rfl rfl rfl rfl (ycg rfl rfl rfl rfl rfl (zic rfl zin) rfl rfl rfl rfl (fun b46=>ybm 7 (by kernel_rfl) ?_)))))
         refine ybi rfl rfl rfl rfl (yci (enc:=eS) rfl rfl rfl rfl rfl rfl rfl rfl rfl zm0 (by exact zpt zph) hl48 (fun a49 c50=>?_))
         refine yde 8 (by kernel_rfl) rfl rfl rfl rfl (ybx rfl rfl rfl rfl rfl (.p rfl)) (ybm 9 (by kernel_rfl) (yfx rfl rfl rfl (yaq (vs:=[pO a49 l48.length c50]) rfl rfl rfl rfl rfl (zut (zut zuh)) (zlt (zlt (zl1))) (yeu (by kernel_rfl) ?_))))
         exact ykn (a49,c50) (zh7 rfl rfl rfl rfl rfl rfl rfl) (zsc (zpt (zpt (zpt zph))) (zsc (zpt (zpt zph)) (zsc (zpt (zpt zph)) (zs1)))) trivial
        skip
        refine ybi rfl rfl rfl rfl (ycg rfl rfl rfl rfl rfl (zic rfl zin) rfl rfl rfl rfl (fun b46=>ybm 1 (by kernel_rfl) (ybi rfl rfl rfl rfl (xal (ydd (p:=pO a25 l24.length c26) rfl (.p rfl) zm2 rfl) (ybm 7 (by kernel_rfl) ?_)))))
        refine ybi rfl rfl rfl rfl (yci (enc:=eS) rfl rfl rfl rfl rfl rfl rfl rfl rfl zm0 (by exact zpt zph) hl48 (fun a49 c50=>?_))
        refine yde 8 (by kernel_rfl) rfl rfl rfl rfl (ybx rfl rfl rfl rfl rfl (.p rfl)) (ybm 9 (by kernel_rfl) (yfx rfl rfl rfl (yaq (vs:=[pO a49 l48.length c50]) rfl rfl rfl rfl rfl (zut (zut zuh)) (zlt (zlt (zl1))) (yeu (by kernel_rfl) ?_))))
        exact ykn (a49,c50) (zh7 rfl rfl rfl rfl rfl rfl rfl) (zsc (zpt (zpt (zpt zph))) (zsc (zpt (zpt zph)) (zsc (zpt (zpt zph)) (zs1)))) trivial
       rintro ⟨a49,c50⟩ τ ρ1 hsub52 _;(try dsimp only at hsub52);dsimp only [pupds]
       refine yal ?_
       obtain rfl:=osi hq41
       exact yaz ((a49,c50),l48) (zh7 rfl rfl rfl rfl rfl rfl rfl) (PSub.trans (zs4) hsub52) rfl
      refine yag ?_
      refine yal ?_
      obtain rfl:=osi hq41
      exact yaz ((a25,c26),l24) (zh7 rfl rfl rfl rfl rfl rfl rfl) (zsc zph (zsc zph (zsc (zpt zph) (zs1)))) rfl
     rintro ⟨⟨a38,c39⟩,l40⟩ τ hz;(try dsimp only at hz);subst q41;(try dsimp only at hb32);dsimp only [pupds]
     refine yac [] [37,38] [(9,pI (IntKind.i64.wrap (v22+1)))] fo0 (by kernel_rfl) ?_
     exact ybu hb32 (a38,c39) (zh7 rfl rfl rfl rfl rfl rfl rfl) (zsc zph (zsc zph (zsc (zpt zph) (zs1))))
    refine ybd ?_
    refine yap (yam hb32 (fun ht=>yao rfl ?_))
    exact yaz ((a25,c26),l24) (zh5 rfl rfl rfl rfl rfl) (zsc zph (zsc zph (zsc (zpt zph) (zs1)))) ht.symm
   rintro ⟨⟨a29,c30⟩,l31⟩ τ hz;(try dsimp only at hz);subst q33;(try dsimp only at hb15);dsimp only [pupds]
   refine yaa (yaa (yad hb15 fun x53 hx53 hb15=>yae (yaj 4 [] [53,54] [(55,pB (decide (0<v8))),(56,pgv (decide (0<v8)) (pP b2 0))] fo0 (by kernel_rfl) ?_)))
   refine yxz (yts rfl rfl rfl) rfl rfl rfl (by exact zph) (ypz (.g rfl) (ypz (.p rfl) (xbb))) (fun hc=>yar (gdp_t hx53 hc)) (fun hc=>by rw [gdp_f hx53 hc]) ?_
   refine xaw (yts rfl rfl rfl) rfl rfl (xjw rfl (.g rfl) (.p rfl) rfl) (ycz rfl rfl rfl (xjv rfl (.p rfl) (.p rfl) (.g rfl)) (yau (yab (yad hb15 fun q59 hq59 hb15=>?_))))
   refine yav (Y:=(Unit)×((List Int)×Int×(List Zi))) (fun (_,(l55,v56,l58))=>[(3,pP b2 0),(4,pO a6 l5.length c7),(5,pI v8),(6,pI (IntKind.i64.wrap (1+x3.1))),(7,pP b20 0)]) (fun (_,(l55,v56,l58))=>[PRes.b b2 86 [pL eI l55,pI v56],PRes.b b20 52 [pI (IntKind.i64.wrap (2+(IntKind.i64.wrap (5*v8)))),pI (IntKind.i64.wrap (1+x19.1)),pO a29 l31.length c30,pL Zi.enc l58],PRes.row a6 l5.length c7 52 4 (List.map Zb.enc l5),PRes.row a29 l31.length c30 9 1 (List.map eS l31)]) (fun (_,(l55,v56,l58))=>q59=(l55,v56,l58)) ?_ ?_
   ·skip
    refine zif rfl hq59 (fun hc60 hq59=>?_) fun hc60 hq59=>?_
    ·refine yad hq59 ?_;clear hq59;intro m61 hm61 hq59
     refine yae (yaj 3 [] [61] [(60,pO a6 l5.length c7),(62,pI (IntKind.i64.wrap (v8 - 1)))] fo0 (by kernel_rfl) (ycz rfl rfl rfl (ygb (enc:=Zb.enc) (xs:=l5) rfl rfl rfl (.p rfl) zm2 (.p rfl) (fun _=>hm61)) (yaj 1 [] [] [(64,pP (ablk a6) ((IntKind.i64.wrap (v8 - 1)).toNat * 4+3))] fo0 (by kernel_rfl) (ycz rfl rfl rfl (ydr (sz:=4) (p:=pL Zi.enc m61.Rules) (enc:=Zb.enc) (xs:=l5) (a:=a6) (IntKind.i64.wrap (v8 - 1)) 3 m61 rfl (.p rfl) rfl zm2 (fun _=>hm61) rfl) (yaj 1 [] [] [(66,pP b20 3)] fo0 (by kernel_rfl) (ybq rfl rfl (yaq (vs:=[pL Zi.enc m61.Rules]) rfl rfl rfl rfl rfl (zut zuh) (zlt (zlt (zlt (zl1)))) (yau ?_))))))))
     obtain rfl:=osi hq59
     exact yaz ((),(x53.2.L,x53.2.I,m61.Rules)) (zh5 rfl rfl rfl rfl rfl) (zs4) rfl
    refine yaa ?_
    refine yae (yat rfl rfl rfl (ycg rfl rfl rfl rfl rfl (zic rfl (zic rfl (zic rfl (zic rfl (zic rfl zin))))) rfl rfl rfl rfl (fun b62=>yan [] [] [(10,pO (some ⟨b62,0,none⟩) 5 5)] fo0 (by kernel_rfl) (yab (yaa (yad hq59 fun x64 hx64 hq59=>yae (yaj 1 [] [] [(68,pP b2 0)] fo0 (by kernel_rfl) ?_)))))))
    refine yat rfl rfl rfl (ybj rfl rfl (ρ1:=[_]) (yaw (by exact zpt zph) (List.Perm.refl _)) (yar hx64) ?_);rintro _ _ ⟨rfl,rfl⟩
    refine yan [] [70] [(11,pI (IntKind.i64.wrap (1+x64.1)))] fo0 (by kernel_rfl) (yab (yaa (yac [] [] [(12,pI 0)] fo0 (by kernel_rfl) (yab (ycr 93 8 (yad hq59 fun q81 hq81 hq59=>?_))))))
    refine ynv (Y:=(Option Addr×Nat)×((List Int)×Int×(List Zi))) (fun ((a77,c78),(l73,v74,l79))=>[(3,pP b2 0),(4,pO a6 l5.length c7),(5,pI v8),(6,pI (IntKind.i64.wrap (1+x3.1))),(7,pP b20 0)]) (fun ((a77,c78),(l73,v74,l79))=>[PRes.b b2 86 [pL eI l73,pI v74],PRes.b b20 52 [pI (IntKind.i64.wrap (2+(IntKind.i64.wrap (5*v8)))),pI (IntKind.i64.wrap (1+x19.1)),pO a29 l31.length c30,pO a77 l79.length c78],PRes.row a6 l5.length c7 52 4 (List.map Zb.enc l5),PRes.row a29 l31.length c30 9 1 (List.map eS l31),PRes.row a77 l79.length c78 93 8 (List.map Zi.enc l79)]) (fun ((a77,c78),(l73,v74,l79))=>q81=(l73,v74,l79)) ?_ ?_
    ·refine yak ?_
     refine yay (Y:=Option Addr×Nat) (S:=Int×(List Int)×Int×(List Zi)) _ hq81 (fun (a70,c71) (v65,l66,v67,l69)=>[(3,pP b2 0),(4,pO a6 l5.length c7),(5,pI v8),(6,pI (IntKind.i64.wrap (1+x3.1))),(7,pP b20 0),(10,pO (some ⟨b62,0,none⟩) 5 5),(11,pI (IntKind.i64.wrap (1+x64.1))),(12,pI v65)]) (fun (a70,c71) (v65,l66,v67,l69)=>[PRes.b b2 86 [pL eI l66,pI v67],PRes.b b20 52 [pI (IntKind.i64.wrap (2+(IntKind.i64.wrap (5*v8)))),pI (IntKind.i64.wrap (1+x19.1)),pO a29 l31.length c30,pO a70 l69.length c71],PRes.row a6 l5.length c7 52 4 (List.map Zb.enc l5),PRes.row a29 l31.length c30 9 1 (List.map eS l31),PRes.row (some ⟨b62,0,none⟩) 5 5 9 1 (List.map eS [(⟨#[57,52]⟩:ByteArray),(⟨#[57,52,48,49]⟩:ByteArray),(⟨#[57,52,48,49,48,50]⟩:ByteArray),(⟨#[57,53]⟩:ByteArray),(⟨#[57,53,48,50]⟩:ByteArray)]),PRes.row a70 l69.length c71 93 8 (List.map Zi.enc l69)]) (none,0) (zh8 rfl rfl rfl rfl rfl rfl rfl rfl) (zsc (zpt zph) (zsc (zpt (zpt zph)) (zsc (zpt (zpt zph)) (zsc (zpt (zpt zph)) (zsc (zpt zph) (zs1)))))) ?_
     rintro ⟨a70,c71⟩ ⟨v65,l66,v67,l69⟩ o τ hb80;(try dsimp only at hb80);dsimp only [pupds]
     refine yaa (yaa (yac [] [71] [(72,pB (decide (v65<5)))] fo0 (by kernel_rfl) (yab (zif rfl hb80 (fun hc83 hb80=>?_) fun hc83 hb80=>?_))))
     ·refine yag ?_
      refine yab (yaa (yad hb80 fun q93 hq93 hb80=>?_))
      refine yav (Y:=(Option Addr×Nat)×((List Int)×Int×(List Zi))) (fun ((a90,c91),(l86,v87,l92))=>[(3,pP b2 0),(4,pO a6 l5.length c7),(5,pI v8),(6,pI (IntKind.i64.wrap (1+x3.1))),(7,pP b20 0),(10,pO (some ⟨b62,0,none⟩) 5 5),(11,pI (IntKind.i64.wrap (1+x64.1))),(12,pI v65)]) (fun ((a90,c91),(l86,v87,l92))=>[PRes.b b2 86 [pL eI l86,pI v87],PRes.b b20 52 [pI (IntKind.i64.wrap (2+(IntKind.i64.wrap (5*v8)))),pI (IntKind.i64.wrap (1+x19.1)),pO a29 l31.length c30,pO a90 l92.length c91],PRes.row a6 l5.length c7 52 4 (List.map Zb.enc l5),PRes.row (some ⟨b62,0,none⟩) 5 5 9 1 (List.map eS [(⟨#[57,52]⟩:ByteArray),(⟨#[57,52,48,49]⟩:ByteArray),(⟨#[57,52,48,49,48,50]⟩:ByteArray),(⟨#[57,53]⟩:ByteArray),(⟨#[57,53,48,50]⟩:ByteArray)]),PRes.row a29 l31.length c30 9 1 (List.map eS l31),PRes.row a90 l92.length c91 93 8 (List.map Zi.enc l92)]) (fun ((a90,c91),(l86,v87,l92))=>q93=(l86,v87,l92)) ?_ ?_
      ·skip
       refine yak (yaa (yad hq93 fun u94 hu94 hq93=>yac [] [75,76,77,78] [(79,pB ((iand .i64 (ishr .i64 (IntKind.i64.wrap (1+x64.1)) v65) 1) == 1))] (foge 2 hu94 fo0) (by kernel_rfl) (yab (zif rfl hq93 (fun hc95 hq93=>?_) fun hc95 hq93=>?_))))
       ·refine yad hq93 ?_;clear hq93;intro m96 hm96 hq93
        refine yad hq93 fun x97 hx97 hq93=>yad hq93 fun l100 hl100 hq93=>?_
        refine ynv (Y:=Option Addr×Nat) (fun (a101,c102)=>[(3,pP b2 0),(4,pO a6 l5.length c7),(5,pI v8),(6,pI (IntKind.i64.wrap (1+x3.1))),(7,pP b20 0),(10,pO (some ⟨b62,0,none⟩) 5 5),(11,pI (IntKind.i64.wrap (1+x64.1))),(12,pI v65)]) (fun (a101,c102)=>[PRes.b b2 86 [pL eI x97.2.L,pI x97.2.I],PRes.b b20 52 [pI (IntKind.i64.wrap (2+(IntKind.i64.wrap (5*v8)))),pI (IntKind.i64.wrap (1+x19.1)),pO a29 l31.length c30,pO a101 l100.length c102],PRes.row a101 l100.length c102 93 8 (List.map Zi.enc l100),PRes.row a6 l5.length c7 52 4 (List.map Zb.enc l5),PRes.row a29 l31.length c30 9 1 (List.map eS l31),PRes.row (some ⟨b62,0,none⟩) 5 5 9 1 (List.map eS [(⟨#[57,52]⟩:ByteArray),(⟨#[57,52,48,49]⟩:ByteArray),(⟨#[57,52,48,49,48,50]⟩:ByteArray),(⟨#[57,53]⟩:ByteArray),(⟨#[57,53,48,50]⟩:ByteArray)])]) (fun _=>True) ?_ ?_
        ·refine ymt (ρd:=[PRes.b b2 _ _,PRes.row a70 _ _ _ _ _,PRes.b b20 _ _]) _ (yaw zph (yaw (zpt (zpt (zpt (zpt zph)))) (List.Perm.refl _))) ?_
         refine yde 0 (by kernel_rfl) rfl rfl rfl rfl (ybx rfl rfl rfl rfl rfl (.p rfl)) (yde 2 (by kernel_rfl) rfl rfl rfl rfl (yfr (p:=pO (some ⟨b62,0,none⟩) 5 5) rfl (.p rfl)) (yde 3 (by kernel_rfl) rfl rfl rfl rfl (yfr (p:=pI v65) rfl (.p rfl)) (yde 4 (by kernel_rfl) rfl rfl rfl rfl (ygb (enc:=eS) (xs:=[(⟨#[57,52]⟩:ByteArray),(⟨#[57,52,48,49]⟩:ByteArray),(⟨#[57,52,48,49,48,50]⟩:ByteArray),(⟨#[57,53]⟩:ByteArray),(⟨#[57,53,48,50]⟩:ByteArray)]) rfl rfl rfl (.p rfl) zm2 (.p rfl) (fun _=>hm96)) (yde 5 (by kernel_rfl) rfl rfl rfl rfl (ydr (sz:=1) (p:=pS m96) (enc:=eS) (xs:=[(⟨#[57,52]⟩:ByteArray),(⟨#[57,52,48,49]⟩:ByteArray),(⟨#[57,52,48,49,48,50]⟩:ByteArray),(⟨#[57,53]⟩:ByteArray),(⟨#[57,53,48,50]⟩:ByteArray)]) (a:=(some ⟨b62,0,none⟩)) v65 0 m96 rfl (.p rfl) rfl zm2 (fun _=>hm96) rfl) (yde 6 (by kernel_rfl) rfl rfl rfl rfl (yfr (p:=pP b2 0) rfl (.p rfl)) ?_)))))
         refine yje 1 7 (by kernel_rfl) ?_ ?_
         ·skip
          refine ybi rfl rfl rfl rfl (xal (ydd (p:=pO a70 l69.length c71) rfl (.p rfl) zm2 rfl) (ybm 7 (by kernel_rfl) ?_))
          refine ybi rfl rfl rfl rfl (ybj rfl rfl (ρ1:=[_]) (yaw (by exact zph) (List.Perm.refl _)) (ylm hx97) ?_);rintro _ _ ⟨rfl,rfl⟩
          refine yde 8 (by kernel_rfl) rfl rfl rfl rfl (xbd (cs:=[pS m96,pI x97.1.Kind,pI x97.1.Digits,pL eS x97.1.Except,pI x97.1.Tolerance,pI x97.1.Limit,pS x97.1.Name,pL Zc.enc x97.1.Args]) rfl rfl rfl rfl rfl rfl rfl (zfc rfl rfl rfl rfl (zl1) (zfc rfl rfl rfl rfl (zlt (zl7)) zfn))) (ybm 9 (by kernel_rfl) (ybi rfl rfl rfl rfl (ycg rfl rfl rfl rfl rfl (zic rfl zin) rfl rfl rfl rfl (fun b98=>ybm 10 (by kernel_rfl) ?_))))
          refine ybi rfl rfl rfl rfl (yci (enc:=Zi.enc) rfl rfl rfl rfl rfl rfl rfl rfl rfl zm0 (by exact zpt (zpt zph)) hl100 (fun a101 c102=>?_))
          refine yde 11 (by kernel_rfl) rfl rfl rfl rfl (ybx rfl rfl rfl rfl rfl (.p rfl)) (ybm 12 (by kernel_rfl) (yfx rfl rfl rfl (yaq (vs:=[pO a101 l100.length c102]) rfl rfl rfl rfl rfl (zut (zut (zut zuh))) (zlt (zlt (zlt (zl1)))) (yeu (by kernel_rfl) ?_))))
          exact ykn (a101,c102) (zh8 rfl rfl rfl rfl rfl rfl rfl rfl) (zsc (zpt (zpt zph)) (zsc (zpt (zpt zph)) (zsc zph (zsc (zpt zph) (zsc (zpt zph) (zsc (zpt zph) zsn)))))) trivial
         skip
         refine ybi rfl rfl rfl rfl (ybj rfl rfl (ρ1:=[_]) (yaw (by exact zph) (List.Perm.refl _)) (ylm hx97) ?_);rintro _ _ ⟨rfl,rfl⟩
         refine yde 8 (by kernel_rfl) rfl rfl rfl rfl (xbd (cs:=[pS m96,pI x97.1.Kind,pI x97.1.Digits,pL eS x97.1.Except,pI x97.1.Tolerance,pI x97.1.Limit,pS x97.1.Name,pL Zc.enc x97.1.Args]) rfl rfl rfl rfl rfl rfl rfl (zfc rfl rfl rfl rfl (zl1) (zfc rfl rfl rfl rfl (zlt (zl7)) zfn))) ?_
         refine yje 1 9 (by kernel_rfl) ?_ ?_
         ·skip
          refine ybi rfl rfl rfl rfl (xal (ydd (p:=pO a70 l69.length c71) rfl (.p rfl) zm2 rfl) (ybm 9 (by kernel_rfl) (ybi rfl rfl rfl rfl (ycg rfl rfl rfl rfl rfl (zic rfl zin) rfl rfl rfl rfl (fun b98=>ybm 10 (by kernel_rfl) ?_)))))
          refine ybi rfl rfl rfl rfl (yci (enc:=Zi.enc) rfl rfl rfl rfl rfl rfl rfl rfl rfl zm0 (by exact zpt (zpt zph)) hl100 (fun a101 c102=>?_))
          refine yde 11 (by kernel_rfl) rfl rfl rfl rfl (ybx rfl rfl rfl rfl rfl (.p rfl)) (ybm 12 (by kernel_rfl) (yfx rfl rfl rfl (yaq (vs:=[pO a101 l100.length c102]) rfl rfl rfl rfl rfl (zut (zut (zut zuh))) (zlt (zlt (zlt (zl1)))) (yeu (by kernel_rfl) ?_))))
          exact ykn (a101,c102) (zh8 rfl rfl rfl rfl rfl rfl rfl rfl) (zsc (zpt (zpt zph)) (zsc (zpt (zpt zph)) (zsc zph (zsc (zpt zph) (zsc (zpt zph) (zsc (zpt zph) zsn)))))) trivial
         skip
         refine ybi rfl rfl rfl rfl (ycg rfl rfl rfl rfl rfl (zic rfl zin) rfl rfl rfl rfl (fun b98=>ybm 1 (by kernel_rfl) (ybi rfl rfl rfl rfl (xal (ydd (p:=pO a70 l69.length c71) rfl (.p rfl) zm3 rfl) (ybm 10 (by kernel_rfl) ?_)))))
         refine ybi rfl rfl rfl rfl (yci (enc:=Zi.enc) rfl rfl rfl rfl rfl rfl rfl rfl rfl zm0 (by exact zpt (zpt zph)) hl100 (fun a101 c102=>?_))
         refine yde 11 (by kernel_rfl) rfl rfl rfl rfl (ybx rfl rfl rfl rfl rfl (.p rfl)) (ybm 12 (by kernel_rfl) (yfx rfl rfl rfl (yaq (vs:=[pO a101 l100.length c102]) rfl rfl rfl rfl rfl (zut (zut (zut zuh))) (zlt (zlt (zlt (zl1)))) (yeu (by kernel_rfl) ?_))))
         exact ykn (a101,c102) (zh8 rfl rfl rfl rfl rfl rfl rfl rfl) (zsc (zpt (zpt zph)) (zsc (zpt (zpt zph)) (zsc zph (zsc (zpt zph) (zsc (zpt zph) (zsc (zpt zph) zsn)))))) trivial
        rintro ⟨a101,c102⟩ τ ρ1 hsub104 _;(try dsimp only at hsub104);dsimp only [pupds]
        refine yal ?_
        obtain rfl:=osi hq93
        exact yaz ((a101,c102),(x97.2.L,x97.2.I,l100)) (zh8 rfl rfl rfl rfl rfl rfl rfl rfl) (PSub.trans (zsc zph (zsc zph (zsc (zpt zph) (zsc (zpt (zpt zph)) (zsc (zpt zph) (zs1)))))) hsub104) rfl
       refine yag ?_
       refine yal ?_
       obtain rfl:=osi hq93
       exact yaz ((a70,c71),(l66,v67,l69)) (zh8 rfl rfl rfl rfl rfl rfl rfl rfl) (zsc zph (zsc zph (zsc zph (zsc (zpt zph) (zs2))))) rfl
      rintro ⟨⟨a90,c91⟩,⟨l86,v87,l92⟩⟩ τ hz;(try dsimp only at hz);subst q93;(try dsimp only at hb80);dsimp only [pupds]
      refine yac [] [73,74] [(12,pI (IntKind.i64.wrap (v65+1)))] fo0 (by kernel_rfl) ?_
      exact ybu hb80 (a90,c91) (zh8 rfl rfl rfl rfl rfl rfl rfl rfl) (zsc zph (zsc zph (zsc zph (zsc (zpt zph) (zs2)))))
     refine ybd ?_
     refine yap (yam hb80 (fun ht=>yao rfl ?_))
     exact ykn ((a70,c71),(l66,v67,l69)) (zh5 rfl rfl rfl rfl rfl) (zsc zph (zsc zph (zsc zph (zsc zph (zsc (zpt zph) zsn))))) ht.symm
    rintro ⟨⟨a77,c78⟩,⟨l73,v74,l79⟩⟩ τ ρ1 hsub105 hz;(try dsimp only at hz hsub105);subst q81;(try dsimp only at hq59);dsimp only [pupds]
    refine ypw (cov_sub hsub105) ?_
    refine ypw (cov_frz (css:=List.map Zi.enc l79) (a:=a77) (by exact zpt (zpt (zpt (zpt zph))))) ?_
    refine ypw (xkc (k:=3) (enc:=Zi.enc) (xs:=l79) (b:=b20) (a:=a77) rfl zm0 (zut (zut zuh))) ?_
    obtain rfl:=osi hq59
    exact yaz ((),(l73,v74,l79)) (zh5 rfl rfl rfl rfl rfl) (zsc (zpt zph) (zsc (zpt zph) (zsc (zpt zph) (zsc (zpt zph) zsn)))) rfl
   rintro ⟨_,⟨l55,v56,l58⟩⟩ τ hz;(try dsimp only at hz);subst q59;(try dsimp only at hb15);dsimp only [pupds]
   refine yae (yaj 1 [] [] [(92,pO a6 l5.length c7)] fo0 (by kernel_rfl) ?_)
   refine ype (css:=List.map eS l31) (a:=a29) (by exact zpt (zpt (zpt zph))) ?_
   refine yli (k:=2) (enc:=eS) (xs:=l31) (b:=b20) (a:=a29) rfl zm0 (zut (zut zuh)) (yaj 1 [2] [] [(93,.agg [pI (IntKind.i64.wrap (2+(IntKind.i64.wrap (5*v8)))),pI (IntKind.i64.wrap (1+x19.1)),pL eS l31,pL Zi.enc l58])] fo0 (by kernel_rfl) (yat rfl rfl rfl (ycg rfl rfl rfl rfl rfl (zic rfl zin) rfl rfl rfl rfl (fun b106=>yad hb15 fun l108 hl108 hb15=>?_))))
   refine yat rfl rfl rfl (yci (enc:=Zb.enc) rfl rfl rfl rfl rfl rfl rfl rfl rfl zm0 (by exact zpt (zpt (zpt (zpt zph)))) hl108 (fun a109 c110=>?_))
   refine yan [] [] [(4,pO a109 l108.length c110)] fo0 (by kernel_rfl) (yal (yab (yac [] [23,24] [(5,pI (IntKind.i64.wrap (v8+1)))] fo0 (by kernel_rfl) ?_)))
   exact ybu hb15 (a109,c110) (zh4 rfl rfl rfl rfl) (zsc (zpt (zpt (zpt zph))) (zs1))
  refine ybd ?_
  refine yap (yam hb15 (fun ht=>yao rfl ?_))
  exact yaz ((a6,c7),l5) (zh1 rfl) (zsc (zpt zph) zsn) ht.symm
 rintro ⟨⟨a12,c13⟩,l14⟩ τ hz;(try dsimp only at hz);subst q16;(try dsimp only at h);dsimp only [pupds]
 refine yaa (yac [] [96] [(2,pO a12 l14.length c13)] fo0 (by kernel_rfl) (yab (yai ?_)))
 obtain rfl:=osi h
 exact ybh (ygn (ybn rfl)) (zs1) ⟨_,_,rfl,rfl⟩
def yip (p0:Int):Option ByteArray:=Option.bind (yie p0 8) (fun x3=>Option.bind (idx [(⟨#[66,66]⟩:ByteArray),(⟨#[66,66]⟩:ByteArray),(⟨#[66,66]⟩:ByteArray),(⟨#[65,65]⟩:ByteArray),(⟨#[67,67]⟩:ByteArray),(⟨#[68,68]⟩:ByteArray),(⟨#[69,69]⟩:ByteArray),(⟨#[70,70]⟩:ByteArray)] x3) (fun m4=>some m4))
theorem ytn {p0:Int} {r:ByteArray}  (h:yip p0=some r):PF 17 [pI p0] (pS r):=by
 unfold yip at h
 refine ych ?_
 refine ybc Tryz.func17 fk17 rfl Tryz.ntmps17 Tryz.results17 rfl (yaa (yac [] [2] [] fo0 (by kernel_rfl) (yab (yaa (yae (yat rfl rfl rfl (ycg rfl rfl rfl rfl rfl (zic rfl (zic rfl (zic rfl (zic rfl (zic rfl (zic rfl (zic rfl (zic rfl zin)))))))) rfl rfl rfl rfl (fun b1=>yad h fun x3 hx3 h=>yad h fun m4 hm4 h=>yaj 2 [] [4] [(5,pI x3)] (yfg 1 (yqv hx3) fo0) (by kernel_rfl) (ycz rfl rfl rfl (ygb (enc:=eS) (xs:=[(⟨#[66,66]⟩:ByteArray),(⟨#[66,66]⟩:ByteArray),(⟨#[66,66]⟩:ByteArray),(⟨#[65,65]⟩:ByteArray),(⟨#[67,67]⟩:ByteArray),(⟨#[68,68]⟩:ByteArray),(⟨#[69,69]⟩:ByteArray),(⟨#[70,70]⟩:ByteArray)]) rfl rfl rfl (.p rfl) zm0 (.p rfl) (fun _=>hm4)) (ycz rfl rfl rfl (ydr (sz:=1) (p:=pS m4) (enc:=eS) (xs:=[(⟨#[66,66]⟩:ByteArray),(⟨#[66,66]⟩:ByteArray),(⟨#[66,66]⟩:ByteArray),(⟨#[65,65]⟩:ByteArray),(⟨#[67,67]⟩:ByteArray),(⟨#[68,68]⟩:ByteArray),(⟨#[69,69]⟩:ByteArray),(⟨#[70,70]⟩:ByteArray)]) (a:=(some ⟨b1,0,none⟩)) x3 0 m4 rfl (.p rfl) rfl zm0 (fun _=>hm4) rfl) (yan [] [] [(2,pS m4)] fo0 (by kernel_rfl) (yab (yai ?_)))))))))))))
 obtain rfl:=osi h
 exact zq rfl ⟨rfl,rfl⟩
def yft (p0:(List Za)) (p1:Za):Option Bool:=Option.bind (loopF (S:=Int) (T:=(Unit)⊕(_)) (fun v2=>cond (decide (v2<(p0.length:Int))) (Option.bind (idx p0 v2) (fun m6=>cond (Za.eqb m6 p1) (some (.inr (.inr true))) (some (.inl (IntKind.i64.wrap (v2+1)))))) (some (.inr (.inl ())))) FUEL 0) (fun q=>match q with | .inl _=>some false | .inr e=>some e)
def ygs (p0:ByteArray):Option Bool:=Option.bind (gd ((p0.size:Int) == 2) (idx p0.data.toList 0)) (fun c1=>Option.bind (gd (((p0.size:Int) == 2)&&(decide (65≤(c1.toNat:Int)))) (idx p0.data.toList 0)) (fun c2=>Option.bind (gd ((((p0.size:Int) == 2)&&(decide (65≤(c1.toNat:Int))))&&(decide ((c2.toNat:Int)≤90))) (idx p0.data.toList 1)) (fun c3=>Option.bind (gd (((((p0.size:Int) == 2)&&(decide (65≤(c1.toNat:Int))))&&(decide ((c2.toNat:Int)≤90)))&&(decide (65≤(c3.toNat:Int)))) (idx p0.data.toList 1)) (fun c4=>some ((((((p0.size:Int) == 2)&&(decide (65≤(c1.toNat:Int))))&&(decide ((c2.toNat:Int)≤90)))&&(decide (65≤(c3.toNat:Int))))&&(decide ((c4.toNat:Int)≤90)))))))
def yhn (p0:(List Zd)) (p1:Int):Option (Zd×Bool):=Option.bind (loopF (S:=Int) (T:=(Unit)⊕(_)) (fun v2=>cond (decide (v2<(p0.length:Int))) (Option.bind (idx p0 v2) (fun m6=>cond (m6.ID == p1) (Option.bind (idx p0 v2) (fun m8=>some (.inr (.inr (m8,true))))) (some (.inl (IntKind.i64.wrap (v2+1)))))) (some (.inr (.inl ())))) FUEL 0) (fun q=>match q with | .inl _=>some ((⟨0,ByteArray.empty,ByteArray.empty,0,false,[],[]⟩:Zd),false) | .inr e=>some e)
def yif (p0:ByteArray):Option Int:=Option.bind (loopF (S:=Int) (T:=(Unit)⊕(_)) (fun v1=>cond (decide (v1<(p0.size:Int))) (Option.bind (idx p0.data.toList v1) (fun c5=>Option.bind (gd (!(decide ((c5.toNat:Int)<48))) (idx p0.data.toList v1)) (fun c6=>cond ((decide ((c5.toNat:Int)<48))||(decide (57<(c6.toNat:Int)))) (some (.inr (.inr (0:Int)))) (some (.inl (IntKind.i64.wrap (v1+1))))))) (some (.inr (.inl ())))) FUEL 0) (fun q=>match q with | .inl _=>cond ((decide (8<(p0.size:Int)))||((Int.tmod (p0.size:Int) 2) == 1)) (some (0:Int)) (some (p0.size:Int)) | .inr e=>some e)
def yqa (p0:ByteArray):Option Bool:=Option.bind (loopF (S:=Int) (T:=(Unit)⊕(_)) (fun v1=>cond (decide (v1<(p0.size:Int))) (Option.bind (idx p0.data.toList v1) (fun c5=>Option.bind (gd (!(decide ((c5.toNat:Int)<97))) (idx p0.data.toList v1)) (fun c6=>cond ((decide ((c5.toNat:Int)<97))||(decide (122<(c6.toNat:Int)))) (some (.inr (.inr false))) (some (.inl (IntKind.i64.wrap (v1+1))))))) (some (.inr (.inl ())))) FUEL 0) (fun q=>match q with | .inl _=>some ((decide (1≤(p0.size:Int)))&&(decide ((p0.size:Int)≤12))) | .inr e=>some e)
def yri (p0:(List ByteArray)):Option Bool:=Option.bind (loopF (S:=Int) (T:=(Unit)⊕(_)) (fun v1=>cond (decide (v1<(p0.length:Int))) (Option.bind (idx p0 v1) (fun m5=>Option.bind (yqa m5) (fun x6=>Option.bind (gd ((!(!x6))&&(decide (0<v1))) (idx p0 (IntKind.i64.wrap (v1 - 1)))) (fun m7=>Option.bind (gd ((!(!x6))&&(decide (0<v1))) (idx p0 v1)) (fun m8=>cond ((!x6)||((decide (0<v1))&&(!Op.bytesLess m7.toList m8.toList))) (some (.inr (.inr false))) (some (.inl (IntKind.i64.wrap (v1+1))))))))) (some (.inr (.inl ())))) FUEL 0) (fun q=>match q with | .inl _=>some (decide ((p0.length:Int)≤8)) | .inr e=>some e)
def yqb (p0:(List Zd)):Option Int:=cond (decide (64<(p0.length:Int))) (some (8:Int)) (Option.bind (loopF (S:=Int) (T:=(Unit)⊕(_)) (fun v2=>cond (decide (v2<(p0.length:Int))) (Option.bind (idx p0 v2) (fun m6=>cond ((decide (m6.ID<1))||(decide (1000000<m6.ID))) (some (.inr (.inr (2:Int)))) (Option.bind (gd (decide (0<v2)) (idx p0 (IntKind.i64.wrap (v2 - 1)))) (fun m9=>cond ((decide (0<v2))&&(decide (m6.ID≤m9.ID))) (some (.inr (.inr (9:Int)))) (Option.bind (yif m6.Code) (fun x11=>Option.bind (gd (!(decide (x11<6))) (ygs m6.Country)) (fun x12=>Option.bind (gd (!((decide (x11<6))||(!x12))) (yri m6.Processes)) (fun x13=>cond (((decide (x11<6))||(!x12))||(!x13)) (some (.inr (.inr (1:Int)))) (cond ((decide (m6.Price<1))||(decide (1000000000000<m6.Price))) (some (.inr (.inr (2:Int)))) (cond (decide (8<(m6.Inputs.length:Int))) (some (.inr (.inr (8:Int)))) (cond (m6.Obtained&&(decide (0<(m6.Inputs.length:Int)))) (some (.inr (.inr (1:Int)))) (Option.bind (loopF (S:=Int) (T:=(Unit)⊕(_)) (fun v18=>cond (decide (v18<(m6.Inputs.length:Int))) (Option.bind (gd (decide (0<v18)) (idx m6.Inputs v18)) (fun m22=>Option.bind (gd (decide (0<v18)) (idx m6.Inputs (IntKind.i64.wrap (v18 - 1)))) (fun m23=>cond ((decide (0<v18))&&(decide (m22.Product≤m23.Product))) (some (.inr (.inr (.inr (.inr (9:Int)))))) (Option.bind (idx m6.Inputs v18) (fun m25=>Option.bind (yhn p0 m25.Product) (fun x26=>cond (!x26.2) (some (.inr (.inr (.inr (.inr (6:Int)))))) (Option.bind (idx m6.Inputs v18) (fun m29=>Option.bind (gd (!(decide (m29.Value<0))) (idx m6.Inputs v18)) (fun m30=>cond ((decide (m29.Value<0))||(decide (1000000000000<m30.Value))) (some (.inr (.inr (.inr (.inr (2:Int)))))) (some (.inl (IntKind.i64.wrap (v18+1))))))))))))) (some (.inr (.inl ())))) FUEL 0) (fun q=>match q with | .inl _=>some (.inl (IntKind.i64.wrap (v2+1))) | .inr e=>some e))))))))))))) (some (.inr (.inl ())))) FUEL 0) (fun q=>match q with | .inl _=>some (0:Int) | .inr e=>some e))
def ynx (rec:Zc→Option Int) (p0:Zc):Option Int:=Option.bind (loopF (S:=Int×Int) (T:=(Int)) (fun (v2,v3)=>cond ((decide (v3<(p0.Args.length:Int)))&&(decide (v2≤32))) (Option.bind (idx p0.Args v3) (fun m8=>Option.bind (rec m8) (fun x9=>some (.inl ((IntKind.i64.wrap (v2+x9)),(IntKind.i64.wrap (v3+1))))))) (some (.inr v2))) FUEL (1,0)) (fun v4=>some (imin v4 33))
def yny (n:Nat):Zc→Option Int:=Nat.rec (motive:=fun _=>Zc→Option Int) (fun _=>none) (fun _ ih=>ynx ih) n
def yvd (p0:Zc):Option Int:=yny FUEL p0
def yrj (p0:Zc):Option Bool:=cond (((!(p0.Kind == 2))&&(((p0.Digits != 0)||(decide (0<(p0.Except.length:Int))))||(p0.Tolerance != 0)))||((!(p0.Kind == 3))&&(p0.Limit != 0))) (some false) (some (((p0.Kind == 4)||(decide (p0.Name=(⟨#[]⟩:ByteArray))))&&(((p0.Kind == 5)||(p0.Kind == 6))||((p0.Args.length:Int) == 0))))
def ynz (rec:Zc→Option Bool) (p0:Zc):Option Bool:=Option.bind (yrj p0) (fun x2=>cond (!x2) (some false) (cond (p0.Kind == 1) (some true) (cond (p0.Kind == 2) (Option.bind (loopF (S:=Int) (T:=(Unit)⊕(_)) (fun v6=>cond (decide (v6<(p0.Except.length:Int))) (Option.bind (idx p0.Except v6) (fun m10=>Option.bind (yif m10) (fun x11=>Option.bind (gd ((!(x11 == 0))&&(decide (0<v6))) (idx p0.Except (IntKind.i64.wrap (v6 - 1)))) (fun m12=>Option.bind (gd ((!(x11 == 0))&&(decide (0<v6))) (idx p0.Except v6)) (fun m13=>cond ((x11 == 0)||((decide (0<v6))&&(!Op.bytesLess m12.toList m13.toList))) (some (.inr (.inr false))) (some (.inl (IntKind.i64.wrap (v6+1))))))))) (some (.inr (.inl ())))) FUEL 0) (fun q=>match q with | .inl _=>some ((((((p0.Digits == 2)||(p0.Digits == 4))||(p0.Digits == 6))&&(decide ((p0.Except.length:Int)≤6)))&&(decide (0≤p0.Tolerance)))&&(decide (p0.Tolerance≤1000000))) | .inr e=>some e)) (cond (p0.Kind == 3) (some ((decide (0≤p0.Limit))&&(decide (p0.Limit≤1000000)))) (cond (p0.Kind == 4) (Option.bind (yqa p0.Name) (fun x17=>some x17)) (Option.bind (cond (p0.Kind == 5) (some (p0.Kind == 5)) (some (p0.Kind == 6))) (fun v18=>cond v18 (Option.bind (loopF (S:=Int) (T:=(Unit)⊕(_)) (fun v22=>cond (decide (v22<(p0.Args.length:Int))) (Option.bind (idx p0.Args v22) (fun m26=>Option.bind (gd (!(m26.Kind == p0.Kind)) (idx p0.Args v22)) (fun m27=>Option.bind (gd (!(m26.Kind == p0.Kind)) (rec m27)) (fun x28=>cond ((m26.Kind == p0.Kind)||(!x28)) (some (.inr (.inr false))) (some (.inl (IntKind.i64.wrap (v22+1)))))))) (some (.inr (.inl ())))) FUEL 0) (fun q=>match q with | .inl _=>some ((decide (2≤(p0.Args.length:Int)))&&(decide ((p0.Args.length:Int)≤6))) | .inr e=>some e)) (some false))))))))
def yoa (n:Nat):Zc→Option Bool:=Nat.rec (motive:=fun _=>Zc→Option Bool) (fun _=>none) (fun _ ih=>ynz ih) n
def yve (p0:Zc):Option Bool:=yoa FUEL p0
def yqc (p0:Zc):Option Int:=Option.bind (yvd p0) (fun x2=>cond (decide (32<x2)) (some (8:Int)) (Option.bind (yve p0) (fun x4=>cond (!x4) (some (1:Int)) (some (0:Int)))))
def yib (p0:(List Zb)):Option Int:=cond (decide (8<(p0.length:Int))) (some (8:Int)) (Option.bind (loopF (S:=Int) (T:=(Unit)⊕(_)) (fun v2=>cond (decide (v2<(p0.length:Int))) (Option.bind (idx p0 v2) (fun m6=>cond ((((decide (m6.ID<1))||(decide (1000<m6.ID)))||(decide (m6.Kind<1)))||(decide (3<m6.Kind))) (some (.inr (.inr (2:Int)))) (Option.bind (gd (decide (0<v2)) (idx p0 (IntKind.i64.wrap (v2 - 1)))) (fun m9=>cond ((decide (0<v2))&&(decide (m6.ID≤m9.ID))) (some (.inr (.inr (9:Int)))) (cond ((decide (12<(m6.Parties.length:Int)))||(decide (12<(m6.Rules.length:Int)))) (some (.inr (.inr (8:Int)))) (Option.bind (loopF (S:=Int) (T:=(Unit)⊕(_)) (fun v12=>cond (decide (v12<(m6.Parties.length:Int))) (Option.bind (idx m6.Parties v12) (fun m16=>Option.bind (ygs m16) (fun x17=>Option.bind (gd ((!(!x17))&&(decide (0<v12))) (idx m6.Parties (IntKind.i64.wrap (v12 - 1)))) (fun m18=>Option.bind (gd ((!(!x17))&&(decide (0<v12))) (idx m6.Parties v12)) (fun m19=>cond ((!x17)||((decide (0<v12))&&(!Op.bytesLess m18.toList m19.toList))) (some (.inr (.inr (.inr (.inr (1:Int)))))) (some (.inl (IntKind.i64.wrap (v12+1))))))))) (some (.inr (.inl ())))) FUEL 0) (fun q=>match q with | .inl _=>Option.bind (loopF (S:=Int) (T:=(Unit)⊕(_)) (fun v21=>cond (decide (v21<(m6.Rules.length:Int))) (Option.bind (idx m6.Rules v21) (fun m25=>Option.bind (yif m25.Prefix) (fun x26=>cond (x26 == 0) (some (.inr (.inr (.inr (.inr (1:Int)))))) (Option.bind (gd (decide (0<v21)) (idx m6.Rules (IntKind.i64.wrap (v21 - 1)))) (fun m28=>Option.bind (gd (decide (0<v21)) (idx m6.Rules v21)) (fun m29=>cond ((decide (0<v21))&&(!Op.bytesLess m28.Prefix.toList m29.Prefix.toList)) (some (.inr (.inr (.inr (.inr (9:Int)))))) (Option.bind (idx m6.Rules v21) (fun m31=>Option.bind (yqc m31.Rule) (fun x32=>cond (x32 != 0) (some (.inr (.inr (.inr (.inr x32))))) (some (.inl (IntKind.i64.wrap (v21+1))))))))))))) (some (.inr (.inl ())))) FUEL 0) (fun q=>match q with | .inl _=>some (.inl (IntKind.i64.wrap (v2+1))) | .inr e=>some e) | .inr e=>some e))))))) (some (.inr (.inl ())))) FUEL 0) (fun q=>match q with | .inl _=>some (0:Int) | .inr e=>some e))
def yjs (p0:ByteArray) (p1:ByteArray):Option Bool:=Option.bind (gd (decide ((p1.size:Int)≤(p0.size:Int))) (ssub p0 0 (p1.size:Int))) (fun s1=>some ((decide ((p1.size:Int)≤(p0.size:Int)))&&(decide (s1=p1))))
def yii (p0:Zb) (p1:ByteArray):Option (Zc×Bool):=Option.bind (loopF (S:=Int×Int) (T:=(Int)) (fun (v3,v4)=>cond (decide (v4<(p0.Rules.length:Int))) (Option.bind (Option.bind (idx p0.Rules v4) (fun m11=>Option.bind (yjs p1 m11.Prefix) (fun x12=>Option.bind (gd (x12&&(!(decide (v3<0)))) (idx p0.Rules v4)) (fun m13=>Option.bind (gd (x12&&(!(decide (v3<0)))) (idx p0.Rules v3)) (fun m14=>cond (x12&&((decide (v3<0))||(decide ((m14.Prefix.size:Int)<(m13.Prefix.size:Int))))) (some v4) (some v3)))))) (fun v9=>some (.inl (v9,(IntKind.i64.wrap (v4+1)))))) (some (.inr v3))) FUEL ((-1),0)) (fun v5=>cond (decide (v5<0)) (some ((⟨0,0,[],0,0,ByteArray.empty,[]⟩:Zc),false)) (Option.bind (idx p0.Rules v5) (fun m17=>some (m17.Rule,true))))
def yhe (p0:(List Zb)) (p1:Int):Option (Zb×Bool):=Option.bind (loopF (S:=Int) (T:=(Unit)⊕(_)) (fun v2=>cond (decide (v2<(p0.length:Int))) (Option.bind (idx p0 v2) (fun m6=>cond (m6.ID == p1) (Option.bind (idx p0 v2) (fun m8=>some (.inr (.inr (m8,true))))) (some (.inl (IntKind.i64.wrap (v2+1)))))) (some (.inr (.inl ())))) FUEL 0) (fun q=>match q with | .inl _=>some ((⟨0,0,[],[]⟩:Zb),false) | .inr e=>some e)
def yjt (p0:(List ByteArray)) (p1:ByteArray):Option Bool:=Option.bind (loopF (S:=Int) (T:=(Unit)⊕(_)) (fun v1=>cond (decide (v1<(p0.length:Int))) (Option.bind (idx p0 v1) (fun m5=>cond (decide (m5=p1)) (some (.inr (.inr true))) (some (.inl (IntKind.i64.wrap (v1+1)))))) (some (.inr (.inl ())))) FUEL 0) (fun q=>match q with | .inl _=>some false | .inr e=>some e)
def yfi (p0:(List Zd)) (p1:(List Zb)) (p2:ByteArray) (p3:Za):Option Bool:=Option.bind (yhn p0 p3.Product) (fun x2=>Option.bind (yhe p1 p3.Agreement) (fun x4=>Option.bind (yii x4.1 x2.1.Code) (fun x6=>Option.bind (gd (((x2.2&&x4.2)&&x6.2)&&(!decide (x2.1.Country=p2))) (yjt x4.1.Parties x2.1.Country)) (fun x8=>Option.bind (gd ((((x2.2&&x4.2)&&x6.2)&&(!decide (x2.1.Country=p2)))&&x8) (yjt x4.1.Parties p2)) (fun x9=>some (((((x2.2&&x4.2)&&x6.2)&&(!decide (x2.1.Country=p2)))&&x8)&&x9))))))
def yqd (p0:Za) (p1:Za):Option Bool:=some ((decide (p0.Product<p1.Product))||((p0.Product == p1.Product)&&(decide (p0.Agreement<p1.Agreement))))
def yho (p0:(List Za)) (p1:Za):Option (List Za):=Option.bind (yft p0 p1) (fun x2=>cond x2 (some p0) (Option.bind (loopF (S:=Int) (T:=(Int)) (fun v4=>Option.bind (gd (decide (v4<(p0.length:Int))) (idx p0 v4)) (fun m8=>Option.bind (gd (decide (v4<(p0.length:Int))) (yqd m8 p1)) (fun x9=>cond ((decide (v4<(p0.length:Int)))&&x9) (some (.inl (IntKind.i64.wrap (v4+1)))) (some (.inr v4))))) FUEL 0) (fun v5=>Option.bind (sub p0 0 v5) (fun l11=>Option.bind (sub p0 v5 (p0.length:Int)) (fun l12=>Option.bind (app 16 ([]:List Za) l11) (fun l15=>Option.bind (app 16 l15 [p1]) (fun l21=>Option.bind (app 16 l21 l12) (fun l25=>some l25))))))))
def yjh (p0:(List ByteArray)) (p1:(List ByteArray)):Option Bool:=cond ((p0.length:Int) != (p1.length:Int)) (some false) (Option.bind (loopF (S:=Int) (T:=(Unit)⊕(_)) (fun v2=>cond (decide (v2<(p0.length:Int))) (Option.bind (idx p0 v2) (fun m6=>Option.bind (idx p1 v2) (fun m7=>cond (!decide (m6=m7)) (some (.inr (.inr false))) (some (.inl (IntKind.i64.wrap (v2+1))))))) (some (.inr (.inl ())))) FUEL 0) (fun q=>match q with | .inl _=>some true | .inr e=>some e))
def ykg (rec:Zc→Zc→Option Bool) (p0:Zc) (p1:Zc):Option Bool:=Option.bind (gd (!(((((p0.Kind != p1.Kind)||(p0.Digits != p1.Digits))||(p0.Tolerance != p1.Tolerance))||(p0.Limit != p1.Limit))||(!decide (p0.Name=p1.Name)))) (yjh p0.Except p1.Except)) (fun x3=>cond (((((((p0.Kind != p1.Kind)||(p0.Digits != p1.Digits))||(p0.Tolerance != p1.Tolerance))||(p0.Limit != p1.Limit))||(!decide (p0.Name=p1.Name)))||(!x3))||((p0.Args.length:Int) != (p1.Args.length:Int))) (some false) (Option.bind (loopF (S:=Int) (T:=(Unit)⊕(_)) (fun v5=>cond (decide (v5<(p0.Args.length:Int))) (Option.bind (idx p0.Args v5) (fun m9=>Option.bind (idx p1.Args v5) (fun m10=>Option.bind (rec m9 m10) (fun x11=>cond (!x11) (some (.inr (.inr false))) (some (.inl (IntKind.i64.wrap (v5+1)))))))) (some (.inr (.inl ())))) FUEL 0) (fun q=>match q with | .inl _=>some true | .inr e=>some e)))
def ykh (n:Nat):Zc→Zc→Option Bool:=Nat.rec (motive:=fun _=>Zc→Zc→Option Bool) (fun _ _=>none) (fun _ ih=>ykg ih) n
def yqw (p0:Zc) (p1:Zc):Option Bool:=ykh FUEL p0 p1
def yln (p0:(List Zi)) (p1:(List Zi)):Option Bool:=cond ((p0.length:Int) != (p1.length:Int)) (some false) (Option.bind (loopF (S:=Int) (T:=(Unit)⊕(_)) (fun v2=>cond (decide (v2<(p0.length:Int))) (Option.bind (idx p0 v2) (fun m6=>Option.bind (idx p1 v2) (fun m7=>Option.bind (gd (!(!decide (m6.Prefix=m7.Prefix))) (idx p0 v2)) (fun m8=>Option.bind (gd (!(!decide (m6.Prefix=m7.Prefix))) (idx p1 v2)) (fun m9=>Option.bind (gd (!(!decide (m6.Prefix=m7.Prefix))) (yqw m8.Rule m9.Rule)) (fun x10=>cond ((!decide (m6.Prefix=m7.Prefix))||(!x10)) (some (.inr (.inr false))) (some (.inl (IntKind.i64.wrap (v2+1)))))))))) (some (.inr (.inl ())))) FUEL 0) (fun q=>match q with | .inl _=>some true | .inr e=>some e))
def ymm (p0:(List Zb)) (p1:Int) (p2:ByteArray) (p3:ByteArray):Option (List Int):=Option.bind (yhe p0 p1) (fun x1=>cond (!x1.2) (some []) (Option.bind (loopF (S:=(List Int)×Int) (T:=((List Int))) (fun (l7,v10)=>cond ((decide (v10<(p0.length:Int)))&&(x1.1.Kind == 2)) (Option.bind (Option.bind (idx p0 v10) (fun m23=>Option.bind (gd (m23.ID != p1) (yjt m23.Parties p2)) (fun x25=>Option.bind (gd ((m23.ID != p1)&&x25) (yjt m23.Parties p3)) (fun x26=>Option.bind (gd (((m23.ID != p1)&&x25)&&x26) (yln x1.1.Rules m23.Rules)) (fun x27=>cond ((((m23.ID != p1)&&x25)&&x26)&&x27) (Option.bind (app 8 l7 [m23.ID]) (fun l31=>some l31)) (some l7)))))) (fun l21=>some (.inl (l21,(IntKind.i64.wrap (v10+1)))))) (some (.inr l7))) FUEL ([p1],0)) (fun l14=>some l14)))
def yqe (p0:(List ByteArray)) (p1:ByteArray):Option (List ByteArray):=Option.bind (loopF (S:=Int) (T:=(ByteArray×Int)) (fun v1=>Option.bind (gd (decide (v1<(p0.length:Int))) (idx p0 v1)) (fun m6=>cond ((decide (v1<(p0.length:Int)))&&(Op.bytesLess m6.toList p1.toList)) (some (.inl (IntKind.i64.wrap (v1+1)))) (some (.inr (p1,v1))))) FUEL 0) (fun (v2,v3)=>Option.bind (gd (decide (v3<(p0.length:Int))) (idx p0 v3)) (fun m8=>cond ((decide (v3<(p0.length:Int)))&&(decide (m8=v2))) (some p0) (Option.bind (sub p0 0 v3) (fun l10=>Option.bind (sub p0 v3 (p0.length:Int)) (fun l11=>Option.bind (app 16 ([]:List ByteArray) l10) (fun l14=>Option.bind (app 16 l14 [v2]) (fun l20=>Option.bind (app 16 l20 l11) (fun l24=>some l24))))))))
def yob (p0:(List ByteArray)) (p1:(List ByteArray)):Option (List ByteArray):=Option.bind (loopF (S:=(List ByteArray)×Int) (T:=((List ByteArray)×(List ByteArray))) (fun (l1,v2)=>cond (decide (v2<(p0.length:Int))) (Option.bind (idx p0 v2) (fun m8=>Option.bind (yqe l1 m8) (fun x9=>some (.inl (x9,(IntKind.i64.wrap (v2+1))))))) (some (.inr (p1,l1)))) FUEL ([],0)) (fun (l3,l4)=>Option.bind (loopF (S:=(List ByteArray)×Int) (T:=((List ByteArray))) (fun (l10,v11)=>cond (decide (v11<(l3.length:Int))) (Option.bind (idx l3 v11) (fun m16=>Option.bind (yqe l10 m16) (fun x17=>some (.inl (x17,(IntKind.i64.wrap (v11+1))))))) (some (.inr l10))) FUEL (l4,0)) (fun l12=>some l12))
def ykt (p0:(List Int)) (p1:Int) (p2:(List Za)):Option (Za×Bool):=Option.bind (loopF (S:=Int) (T:=(Unit)⊕(_)) (fun v2=>cond (decide (v2<(p0.length:Int))) (Option.bind (idx p0 v2) (fun m6=>Option.bind (yft p2 (⟨p1,m6⟩:Za)) (fun x8=>cond x8 (some (.inr (.inr ((⟨p1,m6⟩:Za),true)))) (some (.inl (IntKind.i64.wrap (v2+1))))))) (some (.inr (.inl ())))) FUEL 0) (fun q=>match q with | .inl _=>some ((⟨0,0⟩:Za),false) | .inr e=>some e)
def yiq (p0:Zm) (p1:Zm):Option (Zm×Bool):=Option.bind (cond (decide ((IntKind.u64.wrap (p0.Lo+p1.Lo))<p0.Lo)) (lb ((IntKind.u64.wrap ((IntKind.u64.wrap (p0.Hi+p1.Hi))+1))) (fun w8=>some (w8,((decide ((IntKind.u64.wrap (p0.Hi+p1.Hi))<p0.Hi))||(w8 == 0))))) (some ((IntKind.u64.wrap (p0.Hi+p1.Hi)),(decide ((IntKind.u64.wrap (p0.Hi+p1.Hi))<p0.Hi))))) (fun (v4,v5)=>some ((⟨v4,(IntKind.u64.wrap (p0.Lo+p1.Lo))⟩:Zm),v5))
def yph (p0:Zm) (p1:Int):Option (Zm×Int):=Option.bind (loopF (S:=Int×Int×Int×Int) (T:=(Int×Int×Int)) (fun (v4,v5,v6,v7)=>cond (decide (0≤v5)) (Option.bind (Option.bind (ge0 (iand .i64 v5 63)) (fun u18=>lb ((iand .u64 (ishr .u64 p0.Lo (iand .i64 v5 63)) 1)) (fun w19=>Option.bind (cond (decide (63<v5)) (Option.bind (ge0 (IntKind.i64.wrap (v5 - 64))) (fun u23=>lb ((iand .u64 (ishr .u64 p0.Hi (IntKind.i64.wrap (v5 - 64))) 1)) (fun w24=>some w24))) (some w19)) (fun v20=>Option.bind (yiq (⟨v6,v7⟩:Zm) (⟨v6,v7⟩:Zm)) (fun x25=>cond (((ishr .u64 v4 63) == 1)||(decide (p1≤(ior .u64 (ishl .u64 v4 1) v20)))) (lb ((IntKind.u64.wrap ((ior .u64 (ishl .u64 v4 1) v20) - p1))) (fun w27=>some (w27,x25.1.Hi,(ior .u64 x25.1.Lo 1)))) (some ((ior .u64 (ishl .u64 v4 1) v20),x25.1.Hi,x25.1.Lo))))))) (fun (v14,v15,v16)=>some (.inl (v14,(IntKind.i64.wrap (v5 - 1)),v15,v16)))) (some (.inr (v4,v6,v7)))) FUEL (0,127,0,0)) (fun (v8,v9,v10)=>some ((⟨v9,v10⟩:Zm),v8))
def yvf (p0:Zm) (p1:Int) (p2:Int):Option (Int×Int):=cond (((p1 == 0)||(decide (p2<0)))||(decide (3<p2))) (some ((0:Int),(2:Int))) (Option.bind (yph p0 p1) (fun x3=>Option.bind (cond (p2 == 1) (some (decide (0<x3.2))) (cond (p2 == 2) (some (decide ((IntKind.u64.wrap (p1 - x3.2))≤x3.2))) (cond (p2 == 3) (some ((decide ((IntKind.u64.wrap (p1 - x3.2))<x3.2))||((x3.2 == (IntKind.u64.wrap (p1 - x3.2)))&&((iand .u64 x3.1.Lo 1) == 1)))) (some false)))) (fun v5=>Option.bind (cond v5 (Option.bind (yiq x3.1 (⟨0,1⟩:Zm)) (fun x14=>some (x14.1.Hi,x14.1.Lo))) (some (x3.1.Hi,x3.1.Lo))) (fun (v10,v11)=>cond (decide (0<v10)) (some ((0:Int),(3:Int))) (some (v11,(0:Int)))))))
def ymz (p0:Int) (p1:Int):Option Zm:=Option.bind (loopF (S:=Int×Int×Int) (T:=(Int×Int)) (fun (v3,v4,v5)=>cond (decide (0≤v3)) (Option.bind (Option.bind (yiq (⟨v4,v5⟩:Zm) (⟨v4,v5⟩:Zm)) (fun x14=>Option.bind (ge0 v3) (fun u15=>cond ((iand .u64 (ishr .u64 p1 v3) 1) == 1) (Option.bind (yiq x14.1 (⟨0,p0⟩:Zm)) (fun x17=>some (x17.1.Hi,x17.1.Lo))) (some (x14.1.Hi,x14.1.Lo))))) (fun (v11,v12)=>some (.inl ((IntKind.i64.wrap (v3 - 1)),v11,v12)))) (some (.inr (v4,v5)))) FUEL (63,0,0)) (fun (v6,v7)=>some (⟨v6,v7⟩:Zm))
def ypi (p0:Int) (p1:Int) (p2:Int) (p3:Int):Option (Int×Int):=Option.bind (ymz p0 p1) (fun x1=>Option.bind (yvf x1 p2 p3) (fun x2=>some (x2.1,x2.2)))
def yju (p0:(List Zd)) (p1:(List Zb)) (p2:ByteArray) (p3:Za) (p4:(List Za)):Option (Zn×(List Za)):=Option.bind (yfi p0 p1 p2 p3) (fun x3=>cond (!x3) (some ((⟨ByteArray.empty,0,false,[],[]⟩:Zn),[])) (Option.bind (yhn p0 p3.Product) (fun x5=>Option.bind (yhe p1 p3.Agreement) (fun x7=>Option.bind (ymm p1 p3.Agreement x5.1.Country p2) (fun x9=>Option.bind (loopF (S:=(List Za)×(List ByteArray)×Int×(List Zk)) (T:=((List Za)×(List ByteArray)×(List Zk))) (fun (l13,l14,v15,l17)=>cond (decide (v15<(x5.1.Inputs.length:Int))) (Option.bind (Option.bind (idx x5.1.Inputs v15) (fun m37=>Option.bind (yhn p0 m37.Product) (fun x39=>Option.bind (gd (x7.1.Kind == 3) (yjt x7.1.Parties x39.1.Country)) (fun x41=>Option.bind (cond ((x7.1.Kind == 3)&&x41) (Option.bind (yob l14 x39.1.Processes) (fun x46=>some x46)) (some l14)) (fun l42=>Option.bind (ykt x9 x39.1.ID p4) (fun x47=>Option.bind (cond x47.2 (Option.bind (yho l13 x47.1) (fun x53=>some x53)) (some l13)) (fun l49=>cond ((x47.2||(!((x7.1.Kind == 3)&&x41)))||((x39.1.Inputs.length:Int) == 0)) (Option.bind (app 32 l17 [(⟨x39.1.Code,m37.Value,x47.2⟩:Zk)]) (fun l57=>some (l49,l42,l57))) (Option.bind (loopF (S:=(List Za)×Int×(List Zk)) (T:=((List Za)×(List Zk))) (fun (l61,v62,l64)=>cond (decide (v62<(x39.1.Inputs.length:Int))) (Option.bind (idx x39.1.Inputs v62) (fun m75=>Option.bind (yhn p0 m75.Product) (fun x76=>Option.bind (idx x39.1.Inputs v62) (fun m78=>Option.bind (ypi (IntKind.u64.wrap m37.Value) (IntKind.u64.wrap m78.Value) (IntKind.u64.wrap x39.1.Price) 1) (fun x79=>Option.bind (cond ((x79.2 == 0)&&(decide (x79.1<1000000000000))) (some (IntKind.i64.wrap x79.1)) (some 1000000000000)) (fun v80=>Option.bind (ykt x9 x76.1.ID p4) (fun x84=>Option.bind (cond x84.2 (Option.bind (yho l61 x84.1) (fun x90=>some x90)) (some l61)) (fun l86=>Option.bind (app 32 l64 [(⟨x76.1.Code,v80,x84.2⟩:Zk)]) (fun l93=>some (.inl (l86,(IntKind.i64.wrap (v62+1)),l93))))))))))) (some (.inr (l61,l64)))) FUEL (l49,0,l17)) (fun (l67,l71)=>some (l67,l42,l71)))))))))) (fun (l30,l31,l35)=>some (.inl (l30,l31,(IntKind.i64.wrap (v15+1)),l35)))) (some (.inr (l13,l14,l17)))) FUEL (([]:List Za),x5.1.Processes,0,([]:List Zk))) (fun (l20,l21,l25)=>Option.bind (sub l21 0 (imin (l21.length:Int) 8)) (fun l98=>some ((⟨x5.1.Code,x5.1.Price,x5.1.Obtained,l98,l25⟩:Zn),l20))))))))
def yjq (p0:Zc) (p1:Zn) (p2:Zk):Option Bool:=Option.bind (ssub p2.Code 0 p0.Digits) (fun s4=>Option.bind (ssub p1.Code 0 p0.Digits) (fun s5=>cond (decide (s4=s5)) (some true) (Option.bind (loopF (S:=Int) (T:=(Unit)⊕(_)) (fun v7=>cond (decide (v7<(p0.Except.length:Int))) (Option.bind (idx p0.Except v7) (fun m11=>Option.bind (yjs p2.Code m11) (fun x12=>cond x12 (some (.inr (.inr true))) (some (.inl (IntKind.i64.wrap (v7+1))))))) (some (.inr (.inl ())))) FUEL 0) (fun q=>match q with | .inl _=>some false | .inr e=>some e))))
def yqf (p0:Zm) (p1:Zm):Option Bool:=some ((decide (p0.Hi<p1.Hi))||((p0.Hi == p1.Hi)&&(decide (p0.Lo<p1.Lo))))
def yvg (p0:Zm) (p1:Zm):Option Int:=Option.bind (yqf p0 p1) (fun x3=>cond x3 (some (-1)) (Option.bind (yqf p1 p0) (fun x5=>cond x5 (some (1:Int)) (some (0:Int)))))
def ymd (p0:Int) (p1:Int) (p2:Int):Option Bool:=Option.bind (ymz (IntKind.u64.wrap p0) 1000000) (fun x1=>Option.bind (ymz (IntKind.u64.wrap p1) (IntKind.u64.wrap p2)) (fun x2=>Option.bind (yvg x1 x2) (fun x3=>some (decide (x3≤0)))))
def yoc (rec:Zc→Zn→Option Bool) (p0:Zc) (p1:Zn):Option Bool:=Option.bind (loopF (S:=Int×Int×Int) (T:=(Int×Int)) (fun (v3,v4,v5)=>cond (decide (v5<(p1.Inputs.length:Int))) (Option.bind (Option.bind (idx p1.Inputs v5) (fun m14=>cond m14.Originating (some (v3,v4)) (Option.bind (gd ((!(p0.Kind == 3))&&(p0.Kind == 2)) (yjq p0 p1 m14)) (fun x17=>cond ((p0.Kind == 3)||((p0.Kind == 2)&&x17)) (some ((IntKind.i64.wrap (v3+m14.Value)),(IntKind.i64.wrap (v4+1)))) (some (v3,(IntKind.i64.wrap (v4+1)))))))) (fun (v11,v12)=>some (.inl (v11,v12,(IntKind.i64.wrap (v5+1)))))) (some (.inr (v3,v4)))) FUEL (0,0,0)) (fun (v6,v7)=>Option.bind (loopF (S:=Int×Int) (T:=(Int)) (fun (v19,v20)=>cond (decide (v20<(p0.Args.length:Int))) (Option.bind (Option.bind (idx p0.Args v20) (fun m27=>Option.bind (rec m27 p1) (fun x28=>cond x28 (some (IntKind.i64.wrap (v19+1))) (some v19)))) (fun v25=>some (.inl (v25,(IntKind.i64.wrap (v20+1)))))) (some (.inr v19))) FUEL (0,0)) (fun v21=>cond (p0.Kind == 1) (some (p1.Obtained&&(v7 == 0))) (cond (p0.Kind == 2) (Option.bind (ymd v6 p0.Tolerance p1.Price) (fun x32=>some x32)) (cond (p0.Kind == 3) (Option.bind (ymd v6 p0.Limit p1.Price) (fun x34=>some x34)) (cond (p0.Kind == 4) (Option.bind (yjt p1.Processes p0.Name) (fun x36=>some x36)) (cond (p0.Kind == 5) (some (v21 == (p0.Args.length:Int))) (some (decide (0<v21)))))))))
def yod (n:Nat):Zc→Zn→Option Bool:=Nat.rec (motive:=fun _=>Zc→Zn→Option Bool) (fun _ _=>none) (fun _ ih=>yoc ih) n
def yvh (p0:Zc) (p1:Zn):Option Bool:=yod FUEL p0 p1
def ylo (rec:Zc→Zn→Option ((List Int)×Bool)) (p0:Zc) (p1:Zn):Option ((List Int)×Bool):=Option.bind (yvh p0 p1) (fun x3=>cond (!x3) (some ([],false)) (Option.bind (loopF (S:=(List Int)×Int) (T:=((List Int))⊕(_)) (fun (l6,v9)=>cond (decide (v9<(p0.Args.length:Int))) (Option.bind (α:=((List Int))⊕_) (Option.bind (idx p0.Args v9) (fun m23=>Option.bind (rec m23 p1) (fun x24=>cond (!x24.2) (some (.inl l6)) (cond (p0.Kind == 6) (Option.bind (app 8 [v9] x24.1) (fun l29=>some (.inr (.inr (.inr (l29,true)))))) (Option.bind (app 8 l6 x24.1) (fun l33=>some (.inl l33))))))) (fun q=>match q with | .inl l21=>some (.inl (l21,(IntKind.i64.wrap (v9+1)))) | .inr e=>some e)) (some (.inr (.inl l6)))) FUEL (([]:List Int),0)) (fun q=>match q with | .inl l13=>some (l13,true) | .inr e=>some e)))
def yir (n:Nat):Zc→Zn→Option ((List Int)×Bool):=Nat.rec (motive:=fun _=>Zc→Zn→Option ((List Int)×Bool)) (fun _ _=>none) (fun _ ih=>ylo ih) n
def yku (p0:Zc) (p1:Zn):Option ((List Int)×Bool):=yir FUEL p0 p1
def yrk (p0:(List Zd)) (p1:(List Zb)) (p2:ByteArray):Option ((List Zg)×Int):=Option.bind (yqb p0) (fun x1=>cond (x1 != 0) (some ([],x1)) (Option.bind (yib p1) (fun x3=>cond (x3 != 0) (some ([],x3)) (Option.bind (ygs p2) (fun x5=>cond (!x5) (some ([],(1:Int))) (Option.bind (loopF (S:=(List Zg)×(List Za)×Bool) (T:=((List Zg))) (fun (l8,l11,v12)=>cond v12 (Option.bind (loopF (S:=(List Zg)×Bool×(List Za)×Int) (T:=((List Zg)×Bool×(List Za))) (fun (l22,v25,l26,v27)=>cond (decide (v27<(p0.length:Int))) (Option.bind (loopF (S:=(List Zg)×Bool×(List Za)×Int) (T:=((List Zg)×Bool×(List Za))) (fun (l38,v41,l42,v43)=>cond (decide (v43<(p1.length:Int))) (Option.bind (Option.bind (idx p0 v27) (fun m60=>Option.bind (idx p1 v43) (fun m61=>Option.bind (yft l11 (⟨m60.ID,m61.ID⟩:Za)) (fun x63=>Option.bind (gd (!x63) (yfi p0 p1 p2 (⟨m60.ID,m61.ID⟩:Za))) (fun x64=>cond (x63||(!x64)) (some (l38,v41,l42)) (Option.bind (yju p0 p1 p2 (⟨m60.ID,m61.ID⟩:Za) l11) (fun x66=>Option.bind (idx p1 v43) (fun m68=>Option.bind (idx p0 v27) (fun m69=>Option.bind (yii m68 m69.Code) (fun x70=>Option.bind (yku x70.1 x66.1) (fun x72=>cond x72.2 (Option.bind (app 64 l38 [(⟨(⟨m60.ID,m61.ID⟩:Za),x72.1,x66.2⟩:Zg)]) (fun l76=>Option.bind (yho l42 (⟨m60.ID,m61.ID⟩:Za)) (fun x80=>some (l76,true,x80)))) (some (l38,v41,l42))))))))))))) (fun (l56,v57,l58)=>some (.inl (l56,v57,l58,(IntKind.i64.wrap (v43+1)))))) (some (.inr (l38,v41,l42)))) FUEL (l22,v25,l26,0)) (fun (l47,v48,l49)=>some (.inl (l47,v48,l49,(IntKind.i64.wrap (v27+1)))))) (some (.inr (l22,v25,l26)))) FUEL (l8,false,l11,0)) (fun (l31,v32,l33)=>some (.inl (l31,l33,v32)))) (some (.inr l8))) FUEL (([]:List Zg),[],true)) (fun l16=>some (l16,(0:Int)))))))))
def yeo (p0:Int):Option Bool:=some ((decide (65≤p0))&&(decide (p0≤90)))
theorem yis {p0:Int} {r:Bool}  (h:yeo p0=some r):PF 103 [pY p0] (pB r):=by
 unfold yeo at h
 refine ych ?_
 refine ybc Tryz.func103 fk103 rfl Tryz.ntmps103 Tryz.results103 rfl (yaa (yac [] [2] [] fo0 (by kernel_rfl) (yab (yaa (yac [] (rg 3 6) [(2,pB ((decide (65≤p0))&&(decide (p0≤90))))] fo0 (by kernel_rfl) (yab (yai ?_)))))))
 obtain rfl:=osi h
 exact zq rfl ⟨rfl,rfl⟩
end SX
end Go.Proofs.YtoccohlbjnoeoaaGreatDoor
