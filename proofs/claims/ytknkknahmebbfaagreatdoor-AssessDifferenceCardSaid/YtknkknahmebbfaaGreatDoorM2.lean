/- A part of the proof: texts of the walk and of the plain laws, merged. No condition. -/
import Derived.Test.YtknkknahmebbfaaGreatDoorM1
set_option linter.unusedVariables false
set_option linter.unusedSimpArgs false
set_option maxHeartbeats 4000000
set_option maxRecDepth 100000
namespace Go.Proofs.YtknkknahmebbfaaGreatDoor
namespace SX
open Go
def PWS (n:Nat) (ops:Array Oper) (K:PPost) (m:Nat) (L:Array Bool) (σ:PEnv) (ρd ρs:List PRes):Prop :=
 ∀ β κ σ' rd rs,GOK κ→Sim κ σ σ'→RRels κ ρd rd→RRels κ ρs rs→WS β n ops (lft K) m L σ' rd rs κ
def PStep (n:Nat) (ops:Array Oper) (K:PPost) (m:Nat) (L:Array Bool) (σ:PEnv) (ρd ρs:List PRes) (i:Nat):Prop :=
 ∀ β κ σ' rd rs,GOK κ→Sim κ σ σ'→RRels κ ρd rd→RRels κ ρs rs→Step β n ops (lft K) m L σ' rd rs κ i
section
variable {n m:Nat} {ops:Array Oper} {K:PPost} {L:Array Bool} {σ:PEnv} {ρ ρd ρs:List PRes} {o:Oper} {i d:Nat} {p:PV} {c:Bool}
theorem eN {K:Exit→PPost} {id:Nat} {l:List Oper} (ρs:List PRes) (hp:ρ.Perm (ρd++ρs)) (h:PWS n l.toArray (K .normal) l.length (Array.replicate l.length false) σ ρd ρs):PWC n (.region id l.toArray true) K σ ρ:=fun β κ σ' ρ' g hs hr=>by
 obtain ⟨rs',h1,h2⟩:=hr.perm hp
 obtain ⟨r1,r2,rfl,h3,h4⟩:=h2.split
 exact xG h1 fun κ1 hk=>h β κ1 σ' r1 r2 (g.mono hk) (hs.mono hk) (h3.mono hk) (h4.mono hk)
theorem bK (hr:(Region.ready .any ops L).isEmpty=true) (h:K σ (ρd++ρs)):PWS n ops K m L σ ρd ρs:=fun β κ σ' rd rs g hs h1 h2=>ws_done hr ⟨σ,ρd++ρs,hs,h1.app h2,h⟩
theorem aS (i:Nat) (hok:okQ ops L i=true) (ho:ops[i]?=some o) (hg:o.guard=none) (hd:o.dst=some d) (hlt:Nat.blt d n=true) (h:POpQ true o σ ρs p) (hw:PWS n ops K m (L.setIfInBounds i true) (eb σ d p) ρd ρs):PWS n ops K (m+1) L σ ρd ρs:=fun β κ σ' rd rs g hs h1 h2=>by
 obtain ⟨v,k1,k2⟩:=h κ σ' rs g hs h2
 exact ws_q i hok ho hg hd hlt k2 (hw β κ _ rd rs g (hs.upd (k1 rfl)) h1 h2)
theorem aW (i:Nat) (hr:(Region.ready .any ops L == [i])=true) (h:PStep n ops K m L σ ρd ρs i):PWS n ops K (m+1) L σ ρd ρs:=fun β κ σ' rd rs g hs h1 h2=>ws_one i hr (h β κ σ' rd rs g hs h1 h2)
theorem dI (i j:Nat) (hr:(Region.ready .any ops L == [i,j])=true) (h:PStep n ops K m L σ ρd ρs i) (h':PStep n ops K m L σ ρd ρs j):PWS n ops K (m+1) L σ ρd ρs:=fun β κ σ' rd rs g hs h1 h2=>ws_two i j hr (h β κ σ' rd rs g hs h1 h2) (h' β κ σ' rd rs g hs h1 h2)
theorem aX (ho:ops[i]?=some o) (hg:o.guard=none) (hd:o.dst=some d) (hlt:Nat.blt d n=true) (h:POpL o σ ρd fun p ρ'=>PWS n ops K m (L.setIfInBounds i true) (eb σ d p) ρ' ρs):PStep n ops K m L σ ρd ρs i:=fun β κ σ' rd rs g hs h1 h2 =>
 step_l ho hg hd hlt (((h κ σ' rd g hs h1).framed (ρf:=rs)).mono fun v ρ' κ' hk ⟨ρ1,e,pv,ρp,k1,k2,k3⟩=>⟨ρ1,e,k3 β κ' _ ρ1 rs (g.mono hk) ((hs.mono hk).upd k1) k2 (h2.mono hk)⟩)
theorem bq (ho:ops[i]?=some o) (hg:o.guard=none) (hd:o.dst=none) (h:POpL o σ ρd fun _ ρ'=>PWS n ops K m (L.setIfInBounds i true) σ ρ' ρs):PStep n ops K m L σ ρd ρs i:=fun β κ σ' rd rs g hs h1 h2 =>
 step_l0 ho hg hd (((h κ σ' rd g hs h1).framed (ρf:=rs)).mono fun v ρ' κ' hk ⟨ρ1,e,pv,ρp,k1,k2,k3⟩=>⟨ρ1,e,k3 β κ' _ ρ1 rs (g.mono hk) (hs.mono hk) k2 (h2.mono hk)⟩)
theorem pm {f:Nat} {l:List Operand} {ts:Array Nat} {pargs:List PV} {v:PV} (ho:ops[i]?=some o) (hg:o.guard=none) (hd:o.dst=some d) (hlt:Nat.blt d n=true) (hop:o.op=.call { callee:=.value (.func f),args:=l.toArray,argTypes:=ts }) (ha:l.map (bg σ)=pargs) (hc:PF f pargs v) (h:PWS n ops K m (L.setIfInBounds i true) (eb σ d v) ρd ρs):PStep n ops K m L σ ρd ρs i :=
 aX ho hg hd hlt (pl_call hop ha hc h)
end
section
variable {n:Nat} {x:Code} {K:Exit→PPost} {σ:PEnv} {ρ:List PRes} {a:Option Addr} {m c T sz:Nat} {α:Type} {enc:α→List PV} {xs:List α}
theorem fb (hm:PRes.row a m c T sz (xs.map enc)∈ρ) (h:xs.length=m→(0<m→a=some ⟨rB a,0,none⟩)→PWC n x K σ ρ):PWC n x K σ ρ:=fun β κ σ' ρ' g hs hr hi=>by
 obtain ⟨r,hr1,hr2⟩:=hr.mem hm
 cases hr2 with
 | row hb ho hc =>
  have h1:=hi.own _ hr1
  have e1:=(iX h1).2.1;have e2:=hc.len;rw [List.length_map] at e2
  exact h (by omega) (fun h0=>mE h1 h0) β κ σ' ρ' g hs hr hi
theorem fV {cc:Bool} {o:Oper} {y z0:Operand} {t by':Nat} {k:IntKind} {i:Int} {z:Value} {e:α} (hl:xs.length=m) (ha:0<m→a=some ⟨rB a,0,none⟩) (ho:o.op=.indexAddr t y z0) (hu:dv t=some (.slice T)) (hi:dU T=some (z,sz,by')) (hx:PEv σ cc y (.v (.slice a m c))) (hy:PEv σ cc z0 (.v (.int k i))) (hm:cc=true→idx xs i=some e):POpQ cc o σ ρ (.v (.pointer (some ⟨rB a,i.toNat * sz,none⟩))):=fun κ σ' ρ' g hs hrr=>by
 refine ⟨_,fun _=>.v rfl,fun hc w hst=>?_⟩
 obtain ⟨h0,hmm⟩:=hU (hm hc)
 have hlt:=(List.getElem?_eq_some_iff.1 hmm).1
 have h:=mu (c:=true) (ρ:=ρ') (κ:=κ) (j:=i.toNat) ho hu hi (fun _=>by rw [hs.ve hx hc,ha (by omega)]) (fun _=>hs.ve hy hc) (fun _=>by omega) (fun _=>by omega) rfl w hst
 rwa [Nat.zero_add] at h
end
theorem wv {t E:Nat} (hu:dv t=some (.slice E)) (a:Option Addr) (n c:Nat) (x y:Operand) (w:World):((eqGuard .eql t x y (.slice a n c) (.slice none 0 0)).run Tryz.prog w=.ok () w)∧(binOp .eql t (.slice a n c) (.slice none 0 0)).run Tryz.prog w=.ok (.bool a.isNone) w:=by
 constructor
 ·cases a <;> simp [eqGuard]
 simp only [binOp,Sem.run_bind,run_equal_slice_nil w t E a n c (br hu),Result.andThen_ok,Sem.run_pure]
theorem qE {n:Nat} {ops:Array Oper} {o:Oper} {rest:List Oper} {K:PPost} {σ:PEnv} {ρ:List PRes} {d t t' E mm:Nat} {x:Operand} {xs:List (List PV)} (hg:o.guard=none) (hd:o.dst=some d) (hlt:Nat.blt d n=true) (ho:o.op=.binOp .eql t x (.const (.slice none 0 0)) t') (hu:dv t=some (.slice E)) (hx:bg σ x=.slc mm xs) (h:∀ b:Bool,(b=true→xs=[])→PWL n ops rest K (eb σ d (.v (.bool b))) ρ):PWL n ops (o::rest) K σ ρ:=fun β κ σ' ρ' g hs hr=>by
 have he:=hs.ev x
 rw [hx] at he
 generalize hw':ev σ' x=w at he
 cases he with
 | slc hsl hb h1 hss =>
  rename_i a c sz css
  have hq:OpQ true o σ' ρ' κ (.bool a.isNone):=fun _ w _=>by
   obtain ⟨g1,g2⟩:=wv hu a mm c x (.const (.slice none 0 0)) w
   have e2:ev σ' (.const (.slice none 0 0))=.slice none 0 0:=rfl
   simp only [execOp,ho,hw',e2,Sem.run_bind,g1,Result.andThen_ok,g2,Sem.run_pure]
  refine db hg hd hlt hq (h a.isNone (fun hn=>?_) β κ _ ρ' g (hs.upd (.v rfl)) hr)
  cases a with
  | some ad=>cases hn
  | none =>
   have:mm=0:=by
    rcases Nat.eq_zero_or_pos mm with h | h
    ·exact h
    obtain ⟨b,off,e,_⟩:=hsl.at_ h;cases e
   subst this
   have e1:=hss.len;have e2:=hsl.len
   exact List.eq_nil_of_length_eq_zero (by omega)
theorem xW {α:Type} (l:List α) (k:Nat) (v:α) (h:l[k]?=some v):l.set k v=l:=by
 apply List.ext_getElem?;intro i;rw [List.getElem?_set];split
 ·rename_i hik;subst hik;rw [h];have:=(List.getElem?_eq_some_iff.1 h).1;simp [this]
 rfl
section
variable {n:Nat} {x:Code} {K:Exit→PPost} {KL:PPost} {σ:PEnv} {ρ:List PRes} {ops:Array Oper} {lo:List Oper} {cs:List PV} {a:Option Addr} {m c:Nat} {css:List (List PV)} {α:Type} {enc:α→List PV} {xs:List α}
theorem agg_nil {κ:Kr} {w:Value} {k:Nat} (h:Rp κ (.agg cs) w) (hk:cs[k]?=some (.v (.slice none 0 0))):Rp κ (.agg (cs.set k (.slc 0 []))) w:=by
 cases h with
 | agg ho hc =>
  obtain ⟨v,hv,hp⟩:=hc.get hk
  have hset:=hc.set (k:=k) (p:=.slc 0 []) (v:=v) (by rw [hp.val];exact rt)
  rw [xW _ _ _ hv] at hset
  exact .agg ho hset
theorem kb (t k:Nat) (ht:σ t=.agg cs) (hk:cs[k]?=some (.v (.slice none 0 0))) (h:PWL n ops lo KL (eb σ t (.agg (cs.set k (.slc 0 [])))) ρ):PWL n ops lo KL σ ρ:=fun β κ σ' ρ' g hs hr=>h β κ σ' ρ' g (kJ hs (agg_nil (by have:=hs t;rwa [ht] at this) hk)) hr
end
def zpv:Value→PV
 | .slice none 0 0=>.slc 0 []
 | x=>cond (sM x) (.v x) .any
theorem vu {κ:Kr}:∀ (l:List Value),Rps κ (l.map zpv) l
 | []=>.nil
 | x::l=>.cons (by unfold zpv;split;exact rt;exact rp) (vu l)
theorem lq {o:Oper} {σ:PEnv} {ρ:List PRes} {c:Bool} {t sz by':Nat} {parts:List (Nat×Operand)} {fl:List (Nat×Nat)} {zs:List Value} {zp cs:List PV} (hc:c=true) (ho:o.op=.build t parts.toArray) (hz:dU t=some (.agg zs.toArray,sz,by')) (hf:mn t=some fl) (hall:(fl.all fun p=>(dU p.2).isSome)=true) (hzp:zs.map zpv=zp) (hz1:zs.all Value.oneCell'=true) (h:PFill σ fl zp parts cs):POpQ c o σ ρ (.agg cs):=fun κ σ' ρ' g hs hr=>by
 subst hc
 obtain ⟨cv,h1,h2,h3⟩:=h.real hs (zv:=zs) (by rw [← hzp];exact vu zs) (fun u hu=>List.all_eq_true.1 hz1 u hu)
 exact ⟨_,fun _=>.agg h3 h2,sG ho hz hf hall h1⟩
def fJ (x y c:Int):Option (Int×Int):=if 0≤x∧0≤y∧0≤c∧c≤1 then some ((x+y+c) % 18446744073709551616,(x+y+c) / 18446744073709551616) else none
theorem te {o:Oper} {σ:PEnv} {ρ:List PRes} {l:List Operand} {ts:Array Nat} {x y c:Int} {r:Int×Int} {K:PV→List PRes→Prop} (ho:o.op=.call { callee:=.value (.func 114),args:=l.toArray,argTypes:=ts }) (ha:l.map (bg σ)=[.v (.int .u64 x),.v (.int .u64 y),.v (.int .u64 c)]) (hr:fJ x y c=some r) (h:K (.tup [.v (.int .u64 r.1),.v (.int .u64 r.2)]) ρ):POpL o σ ρ K:=fun κ σ' ρ' g hs hrr=>by
 unfold fJ at hr
 split at hr
 ·rename_i hh
  injection hr with hr;subst hr
  have hargs:=gm hs l
  rw [ha] at hargs
  obtain ⟨v1,w1,e1,h1,hargs⟩:=hargs.cons_inv
  obtain ⟨v2,w2,rfl,h2,hargs⟩:=hargs.cons_inv
  obtain ⟨v3,w3,rfl,h3,hargs⟩:=hargs.cons_inv
  rw [hargs.nil_inv,h1.val,h2.val,h3.val] at e1
  have hq:OpQ true o σ' ρ' κ (.tuple #[.int .u64 ((x+y+c) % 18446744073709551616),.int .u64 ((x+y+c) / 18446744073709551616)]):=fun _ w _=>by
   have hcall:=run_callFunc_extern (P:=Tryz.prog) Tryz.func114 (by kernel_rfl) (by kernel_rfl) (by kernel_rfl) (e:=add64Entry) (by kernel_rfl) #[.int .u64 x,.int .u64 y,.int .u64 c] w
   rw [run_add64 x y c hh.1 hh.2.1 hh.2.2.1 hh.2.2.2] at hcall
   simp only [Result.andThen_ok] at hcall
   unfold execOp
   simp only [ho,ev,resolve,Deferred.ofValue,Sem.run_bind,Sem.run_pure,Result.andThen_ok,invoke,List.map_toArray,e1]
   simp only [Array.append_empty,Array.empty_append,hcall]
  exact ol_q hq ⟨_,ρ,.tup (ws:=[_,_]) (.cons (.v rfl) (.cons (.v rfl) .nil)),hrr,h⟩
 cases hr
theorem eD {α:Type} {a:α} {l:List α}:a∈a::l:=List.Mem.head _
theorem iZ {α:Type} {a b0:α} {l:List α}:a∈b0::a::l:=List.Mem.tail _ (List.Mem.head _)
theorem zd {α:Type} {a b0 b1:α} {l:List α}:a∈b0::b1::a::l:=List.Mem.tail _ (List.Mem.tail _ (List.Mem.head _))
theorem zm3 {α:Type} {a b0 b1 b2:α} {l:List α}:a∈b0::b1::b2::a::l:=List.Mem.tail _ (List.Mem.tail _ (List.Mem.tail _ (List.Mem.head _)))
theorem zm4 {α:Type} {a b0 b1 b2 b3:α} {l:List α}:a∈b0::b1::b2::b3::a::l:=List.Mem.tail _ (List.Mem.tail _ (List.Mem.tail _ (List.Mem.tail _ (List.Mem.head _))))
theorem zm5 {α:Type} {a b0 b1 b2 b3 b4:α} {l:List α}:a∈b0::b1::b2::b3::b4::a::l:=List.Mem.tail _ (List.Mem.tail _ (List.Mem.tail _ (List.Mem.tail _ (List.Mem.tail _ (List.Mem.head _)))))
theorem zm6 {α:Type} {a b0 b1 b2 b3 b4 b5:α} {l:List α}:a∈b0::b1::b2::b3::b4::b5::a::l:=List.Mem.tail _ (List.Mem.tail _ (List.Mem.tail _ (List.Mem.tail _ (List.Mem.tail _ (List.Mem.tail _ (List.Mem.head _))))))
theorem zm7 {α:Type} {a b0 b1 b2 b3 b4 b5 b6:α} {l:List α}:a∈b0::b1::b2::b3::b4::b5::b6::a::l:=List.Mem.tail _ (List.Mem.tail _ (List.Mem.tail _ (List.Mem.tail _ (List.Mem.tail _ (List.Mem.tail _ (List.Mem.tail _ (List.Mem.head _)))))))
theorem zm8 {α:Type} {a b0 b1 b2 b3 b4 b5 b6 b7:α} {l:List α}:a∈b0::b1::b2::b3::b4::b5::b6::b7::a::l:=List.Mem.tail _ (List.Mem.tail _ (List.Mem.tail _ (List.Mem.tail _ (List.Mem.tail _ (List.Mem.tail _ (List.Mem.tail _ (List.Mem.tail _ (List.Mem.head _))))))))
theorem zm9 {α:Type} {a b0 b1 b2 b3 b4 b5 b6 b7 b8:α} {l:List α}:a∈b0::b1::b2::b3::b4::b5::b6::b7::b8::a::l:=List.Mem.tail _ (List.Mem.tail _ (List.Mem.tail _ (List.Mem.tail _ (List.Mem.tail _ (List.Mem.tail _ (List.Mem.tail _ (List.Mem.tail _ (List.Mem.tail _ (List.Mem.head _)))))))))
theorem zm10 {α:Type} {a b0 b1 b2 b3 b4 b5 b6 b7 b8 b9:α} {l:List α}:a∈b0::b1::b2::b3::b4::b5::b6::b7::b8::b9::a::l:=List.Mem.tail _ (List.Mem.tail _ (List.Mem.tail _ (List.Mem.tail _ (List.Mem.tail _ (List.Mem.tail _ (List.Mem.tail _ (List.Mem.tail _ (List.Mem.tail _ (List.Mem.tail _ (List.Mem.head _))))))))))
theorem zm11 {α:Type} {a b0 b1 b2 b3 b4 b5 b6 b7 b8 b9 b10:α} {l:List α}:a∈b0::b1::b2::b3::b4::b5::b6::b7::b8::b9::b10::a::l:=List.Mem.tail _ (List.Mem.tail _ (List.Mem.tail _ (List.Mem.tail _ (List.Mem.tail _ (List.Mem.tail _ (List.Mem.tail _ (List.Mem.tail _ (List.Mem.tail _ (List.Mem.tail _ (List.Mem.tail _ (List.Mem.head _)))))))))))
theorem zm12 {α:Type} {a b0 b1 b2 b3 b4 b5 b6 b7 b8 b9 b10 b11:α} {l:List α}:a∈b0::b1::b2::b3::b4::b5::b6::b7::b8::b9::b10::b11::a::l:=List.Mem.tail _ (List.Mem.tail _ (List.Mem.tail _ (List.Mem.tail _ (List.Mem.tail _ (List.Mem.tail _ (List.Mem.tail _ (List.Mem.tail _ (List.Mem.tail _ (List.Mem.tail _ (List.Mem.tail _ (List.Mem.tail _ (List.Mem.head _))))))))))))
theorem zm13 {α:Type} {a b0 b1 b2 b3 b4 b5 b6 b7 b8 b9 b10 b11 b12:α} {l:List α}:a∈b0::b1::b2::b3::b4::b5::b6::b7::b8::b9::b10::b11::b12::a::l:=List.Mem.tail _ (List.Mem.tail _ (List.Mem.tail _ (List.Mem.tail _ (List.Mem.tail _ (List.Mem.tail _ (List.Mem.tail _ (List.Mem.tail _ (List.Mem.tail _ (List.Mem.tail _ (List.Mem.tail _ (List.Mem.tail _ (List.Mem.tail _ (List.Mem.head _)))))))))))))
theorem zmv {n:Nat} {ops:Array Oper} {o:Oper} {rest:List Oper} {K:PPost} {σ:PEnv} {ρ:List PRes} {d:Nat} {x:Operand} {p:PV} (hg:o.guard=none) (hd:o.dst=some d) (hlt:Nat.blt d n=true) (ho:o.op=.move x) (hx:bg σ x=p) (hw:PWL n ops rest K (eb σ d p) ρ):PWL n ops (o::rest) K σ ρ:=bE hg hd hlt (bC ho (.p hx)) hw
theorem zas {n:Nat} {ops:Array Oper} {o:Oper} {rest:List Oper} {K:PPost} {σ:PEnv} {ρ:List PRes} {d:Nat} {x:Operand} {p:PV} (hg:o.guard=none) (hd:o.dst=some d) (hlt:Nat.blt d n=true) (ho:o.op=.assign x) (hx:bg σ x=p) (hw:PWL n ops rest K (eb σ d p) ρ):PWL n ops (o::rest) K σ ρ:=bE hg hd hlt (bc ho (.p hx)) hw
theorem zex {n:Nat} {ops:Array Oper} {o:Oper} {rest:List Oper} {K:PPost} {σ:PEnv} {ρ:List PRes} {d i:Nat} {vs:List PV} {x:Operand} {p:PV} (hg:o.guard=none) (hd:o.dst=some d) (hlt:Nat.blt d n=true) (ho:o.op=.extract x i) (hx:bg σ x=.tup vs) (hr:vs[i]?=some p) (hw:PWL n ops rest K (eb σ d p) ρ):PWL n ops (o::rest) K σ ρ:=bE hg hd hlt (ka ho (.p hx) hr) hw
def rg (a:Nat):Nat→List Nat
  | 0=>[]
  | n+1=>a::rg (a+1) n
theorem iQ {n:Nat} {x y:Code} {K:Exit→PPost} {σ:PEnv} {ρ:List PRes} {α:Type} {c:Operand} {p:Bool} {a b r:α} (hc:bg σ c=.v (.bool p)) (h:cond p a b=r) (ht:p=true→a=r→PWC n x K σ ρ) (hf:p=false→b=r→PWC n y K σ ρ):PWC n (.cond c x y) K σ ρ:=fE hc (fun e=>ht e (ns e h)) (fun e=>hf e (nt e h))
theorem wZ {σ:PEnv} {d0:Nat} {v0:PV} (h:σ d0=v0):PHolds σ [(d0,v0)]:=by cases h;exact dK rfl (lw)
theorem eX {x0 v0:PV} {l:List PV}:PSplice (x0::l) 0 [v0] (v0::l):=dg (vp)
theorem dx {x0:PRes} {l:List PRes}:PSub [x0] (x0::l):=bv aZ (bD)
theorem ke {σ:PEnv} {d0 d1:Nat} {v0 v1:PV} (h:(σ d0,σ d1)=(v0,v1)):PHolds σ [(d0,v0),(d1,v1)]:=by cases h;exact dK rfl (dK rfl (lw))
theorem jV {x0 v0 x1 v1:PV} {l:List PV}:PSplice (x0::x1::l) 0 [v0,v1] (v0::v1::l):=dg (dg (vp))
theorem ml {x0 x1:PRes} {l:List PRes}:PSub [x0,x1] (x0::x1::l):=bv aZ (bv aZ (bD))
theorem jh {σ:PEnv} {d0 d1 d2:Nat} {v0 v1 v2:PV} (h:(σ d0,σ d1,σ d2)=(v0,v1,v2)):PHolds σ [(d0,v0),(d1,v1),(d2,v2)]:=by cases h;exact dK rfl (dK rfl (dK rfl (lw)))
theorem zl3 {x0 v0 x1 v1 x2 v2:PV} {l:List PV}:PSplice (x0::x1::x2::l) 0 [v0,v1,v2] (v0::v1::v2::l):=dg (dg (dg (vp)))
theorem mH {x0 x1 x2:PRes} {l:List PRes}:PSub [x0,x1,x2] (x0::x1::x2::l):=bv aZ (bv aZ (bv aZ (bD)))
theorem kf {σ:PEnv} {d0 d1 d2 d3:Nat} {v0 v1 v2 v3:PV} (h:(σ d0,σ d1,σ d2,σ d3)=(v0,v1,v2,v3)):PHolds σ [(d0,v0),(d1,v1),(d2,v2),(d3,v3)]:=by cases h;exact dK rfl (dK rfl (dK rfl (dK rfl (lw))))
theorem zs4 {x0 x1 x2 x3:PRes} {l:List PRes}:PSub [x0,x1,x2,x3] (x0::x1::x2::x3::l):=bv aZ (bv aZ (bv aZ (bv aZ (bD))))
theorem kO {σ:PEnv} {d0 d1 d2 d3 d4:Nat} {v0 v1 v2 v3 v4:PV} (h:(σ d0,σ d1,σ d2,σ d3,σ d4)=(v0,v1,v2,v3,v4)):PHolds σ [(d0,v0),(d1,v1),(d2,v2),(d3,v3),(d4,v4)]:=by cases h;exact dK rfl (dK rfl (dK rfl (dK rfl (dK rfl (lw)))))
theorem zl5 {x0 v0 x1 v1 x2 v2 x3 v3 x4 v4:PV} {l:List PV}:PSplice (x0::x1::x2::x3::x4::l) 0 [v0,v1,v2,v3,v4] (v0::v1::v2::v3::v4::l):=dg (dg (dg (dg (dg (vp)))))
theorem zs5 {x0 x1 x2 x3 x4:PRes} {l:List PRes}:PSub [x0,x1,x2,x3,x4] (x0::x1::x2::x3::x4::l):=bv aZ (bv aZ (bv aZ (bv aZ (bv aZ (bD)))))
theorem qj {σ:PEnv} {d0 d1 d2 d3 d4 d5:Nat} {v0 v1 v2 v3 v4 v5:PV} (h:(σ d0,σ d1,σ d2,σ d3,σ d4,σ d5)=(v0,v1,v2,v3,v4,v5)):PHolds σ [(d0,v0),(d1,v1),(d2,v2),(d3,v3),(d4,v4),(d5,v5)]:=by cases h;exact dK rfl (dK rfl (dK rfl (dK rfl (dK rfl (dK rfl (lw))))))
theorem ui {σ:PEnv} {d0 d1 d2 d3 d4 d5 d6:Nat} {v0 v1 v2 v3 v4 v5 v6:PV} (h:(σ d0,σ d1,σ d2,σ d3,σ d4,σ d5,σ d6)=(v0,v1,v2,v3,v4,v5,v6)):PHolds σ [(d0,v0),(d1,v1),(d2,v2),(d3,v3),(d4,v4),(d5,v5),(d6,v6)]:=by cases h;exact dK rfl (dK rfl (dK rfl (dK rfl (dK rfl (dK rfl (dK rfl (lw)))))))
theorem zl7 {x0 v0 x1 v1 x2 v2 x3 v3 x4 v4 x5 v5 x6 v6:PV} {l:List PV}:PSplice (x0::x1::x2::x3::x4::x5::x6::l) 0 [v0,v1,v2,v3,v4,v5,v6] (v0::v1::v2::v3::v4::v5::v6::l):=dg (dg (dg (dg (dg (dg (dg (vp)))))))
theorem ze {σ:PEnv} {d0 d1 d2 d3 d4 d5 d6 d7:Nat} {v0 v1 v2 v3 v4 v5 v6 v7:PV} (h:(σ d0,σ d1,σ d2,σ d3,σ d4,σ d5,σ d6,σ d7)=(v0,v1,v2,v3,v4,v5,v6,v7)):PHolds σ [(d0,v0),(d1,v1),(d2,v2),(d3,v3),(d4,v4),(d5,v5),(d6,v6),(d7,v7)]:=by cases h;exact dK rfl (dK rfl (dK rfl (dK rfl (dK rfl (dK rfl (dK rfl (dK rfl (lw))))))))
theorem zl8 {x0 v0 x1 v1 x2 v2 x3 v3 x4 v4 x5 v5 x6 v6 x7 v7:PV} {l:List PV}:PSplice (x0::x1::x2::x3::x4::x5::x6::x7::l) 0 [v0,v1,v2,v3,v4,v5,v6,v7] (v0::v1::v2::v3::v4::v5::v6::v7::l):=dg (dg (dg (dg (dg (dg (dg (dg (vp))))))))
theorem mI {σ:PEnv} {d0 d1 d2 d3 d4 d5 d6 d7 d8:Nat} {v0 v1 v2 v3 v4 v5 v6 v7 v8:PV} (h:(σ d0,σ d1,σ d2,σ d3,σ d4,σ d5,σ d6,σ d7,σ d8)=(v0,v1,v2,v3,v4,v5,v6,v7,v8)):PHolds σ [(d0,v0),(d1,v1),(d2,v2),(d3,v3),(d4,v4),(d5,v5),(d6,v6),(d7,v7),(d8,v8)]:=by cases h;exact dK rfl (dK rfl (dK rfl (dK rfl (dK rfl (dK rfl (dK rfl (dK rfl (dK rfl (lw)))))))))
theorem xX {x0 v0 x1 v1 x2 v2 x3 v3 x4 v4 x5 v5 x6 v6 x7 v7 x8 v8:PV} {l:List PV}:PSplice (x0::x1::x2::x3::x4::x5::x6::x7::x8::l) 0 [v0,v1,v2,v3,v4,v5,v6,v7,v8] (v0::v1::v2::v3::v4::v5::v6::v7::v8::l):=dg (dg (dg (dg (dg (dg (dg (dg (dg (vp)))))))))
theorem zq {t:Nat} {R:PV→List PRes→Prop} {σ:PEnv} {ρ:List PRes} {p:PV} (h:σ t=p) (hr:R p []):jn [.tmp t] R .ret σ ρ:=aM (gp (aK h)) bD hr
theorem osi {α:Type} {a b:α} (h:some a=some b):a=b:=Option.some.inj h

def tg:TypeDesc→Bool
 | .interface _=>true
 | _=>false
section
variable {o:Oper} {σ:PEnv} {ρ:List PRes} {x:Operand} {t:Nat}
theorem uD {σ:Env} {ρ:List Res} {κ:Kr} {d:TypeDesc} (ho:o.op=.makeInterface t x) (hu:dv t=some d) (hn:tg d=false):OpQ true o σ ρ κ (.iface t (ev σ x)):=fun _ w _=>by
 have h:=run_underlying (w:=w) (br hu)
 cases d <;> first | (cases hn;done) | simp [execOp,ho,Instr.makeInterface,h]
theorem uE {d:TypeDesc} (ho:o.op=.makeInterface t x) (hu:dv t=some d) (hn:tg d=false):POpQ true o σ ρ (.ifc t (bg σ x)):=fun κ σ' ρ' g hs hr=>⟨_,fun _=>.ifc (hs.ev x),uD ho hu hn⟩
def ta (T:Nat) (p:PV):Option PV:=match p with
 | .ifc t q=>cond (Nat.beq t T) (some (.tup [q,.v (.bool true)])) (match dU T with
  | some (.agg ⟨zs⟩,_,_)=>cond (zs.all Value.oneCell') (some (.tup [.agg (zs.map fun x=>cond (sM x) (.v x) .any),.v (.bool false)])) none
  | _=>none)
 | _=>none
theorem oq_ta {σ:Env} {ρ:List Res} {κ:Kr} {xT T s:Nat} {v z:Value} {d:TypeDesc} {sz by':Nat} (ho:o.op=.typeAssert x xT T true) (hu:dv T=some d) (hn:tg d=false) (hz:dU T=some (z,sz,by')) (hx:ev σ x=.iface s v):OpQ true o σ ρ κ (if s=T then .tuple #[v,.bool true] else .tuple #[z,.bool false]):=fun _ w _=>by
 have h:=run_underlying (w:=w) (br hu)
 have hzv:=dc hz w
 by_cases hst:s=T
 ·cases d <;> first | (cases hn;done) | simp [execOp,ho,hx,Instr.typeAssert,h,hst]
 cases d <;> first | (cases hn;done) | simp [execOp,ho,hx,Instr.typeAssert,h,hst,hzv]
theorem pq_ta {xT T:Nat} {d:TypeDesc} {p r:PV} (ho:o.op=.typeAssert x xT T true) (hu:dv T=some d) (hn:tg d=false) (hi:(dU T).isSome=true) (hx:bg σ x=p) (hr:ta T p=some r):POpQ true o σ ρ r:=fun κ σ' ρ' g hs hrr=>by
 obtain ⟨⟨z,sz,by'⟩,hz⟩:=Option.isSome_iff_exists.1 hi
 have h:=hs.ev x
 rw [hx] at h
 generalize he:ev σ' x=w at h
 cases h with
 | ifc h =>
  rename_i s q v
  have hq:=oq_ta (ρ:=ρ') (κ:=κ) ho hu hn hz he
  simp only [ta] at hr
  cases hb:Nat.beq s T
  ·have hne:s≠T:=fun e=>by rw [e] at hb;simp at hb
   rw [hb,hz] at hr
   simp only [eY] at hr
   rw [if_neg hne] at hq
   split at hr
   ·rename_i zs s1 b1 heq
    simp only [da,Prod.mk.injEq] at heq
    obtain ⟨rfl,rfl,rfl⟩:=heq
    cases ho1:zs.all Value.oneCell'
    ·rw [ho1] at hr;cases hr
    rw [ho1] at hr;simp only [cZ,da] at hr;subst hr
    exact ⟨_,fun _=>.tup (ws:=[_,_]) (.cons (.agg (ds:=zs) (fun u hu=>List.all_eq_true.1 ho1 u hu) (gI zs)) (.cons (.v rfl) .nil)),hq⟩
   cases hr
  ·have hst:=Nat.eq_of_beq_eq_true hb
   rw [hb] at hr;simp only [cZ,da] at hr;subst hr
   rw [if_pos hst] at hq
   exact ⟨_,fun _=>.tup (ws:=[_,_]) (.cons h (.cons (.v rfl) .nil)),hq⟩
 | _=>simp only [ta] at hr;cases hr
end
structure MethOk (t:Nat) (name:String) (f:Nat):Prop where
 h:∀ (v:Value) (w:World),(method (Tryz.prog.types.size+Made.depth) t v name).run Tryz.prog w=.ok (f,v) w
theorem uF {o:Oper} {σ:Env} {ρ:List Res} {κ:Kr} {K:Value→List Res→Kr→Prop} {f t:Nat} {x:Operand} {name:String} {l:List Operand} {ts:Array Nat} {v:Value} {R:Value→Kr→Prop} (ho:o.op=.call { callee:=.invoke x name,args:=l.toArray,argTypes:=ts })
    (hx:ev σ x=.iface t v) (hm:MethOk t name f) (hc:CallP f (v::l.map (ev σ)) κ R) (h:∀ v κ',Kle κ κ'→R v κ'→K v ρ κ'):OpL o σ ρ κ K:=fun β hi Nx hk=>by
  have hi2:=hi.perm (List.Perm.refl ([]++ρ))
  have e1:(#[Value.iface t v]++(l.map (ev σ)).toArray)[0]?=some (.iface t v):=by simp
  have e2:(#[Value.iface t v]++(l.map (ev σ)).toArray).extract 1 (#[Value.iface t v]++(l.map (ev σ)).toArray).size=(l.map (ev σ)).toArray:=by simp;exact List.take_of_length_le (by simp)
  have e3:#[v]++(l.map (ev σ)).toArray=(v::l.map (ev σ)).toArray:=by simp
  have hp:(program).run Tryz.prog κ.w=.ok Tryz.prog κ.w:=rfl
  unfold execOp
  simp only [ho,resolve,Sem.run_bind,Sem.run_pure,Result.andThen_ok,invoke,List.map_toArray,hx,e1,e2,callMethod,hp,hm.h,e3,iD hc.1,OutV]
  exact (hc.2 hi2.split).mono fun e w' ⟨v,ρ',κ',h1,h2,h3,h4⟩=>by
    subst h2
    obtain ⟨rfl,h4⟩:=h4
    exact ⟨v,h1,hk v ρ κ' (hi2.join h3) h3.le.kle (h v κ' h3.le.kle h4)⟩
def PFI (p:PV) (name:String) (pargs:List PV) (r:PV):Prop:=∃ t q f,p=.ifc t q∧MethOk t name f∧PF f (q::pargs) r
abbrev pI (x:Int):PV:=.v (.int .i64 x)
abbrev pU (x:Int):PV:=.v (.int .u64 x)
abbrev pY (x:Int):PV:=.v (.int .u8 x)
abbrev pB (b:Bool):PV:=.v (.bool b)
abbrev pS (s:ByteArray):PV:=.v (.string s)
abbrev pP (b off:Nat):PV:=.v (.pointer (some ⟨b,off,none⟩))
abbrev pO (a:Option Addr) (n c:Nat):PV:=.v (.slice a n c)
abbrev pN:PV:=.v (.slice none 0 0)
abbrev pL {α:Type} (e:α→List PV) (xs:List α):PV:=.slc xs.length (List.map e xs)
def sm:IntKind→Nat
 | .i8=>0 | .i16=>1 | .i32=>2 | .i64=>3 | .u8=>4 | .u16=>5 | .u32=>6 | .u64=>7
theorem oC {a b:IntKind} (h:Nat.beq (sm a) (sm b)=true):a=b:=by cases a <;> cases b <;> first | rfl | cases h
def xY:Int→Bool
 | .ofNat (_+1)=>true
 | _=>false
def ge0l:Int→Bool
 | .ofNat _=>true
 | _=>false
theorem vw {b:Int} (h:xY b=true):b≠0:=by rintro rfl;cases h
theorem ge0l_ge {b:Int} (h:ge0l b=true):0≤b:=by cases b with | ofNat n=>exact Int.natCast_nonneg n | negSucc n=>cases h
def qcmp (op:BinOp) (a b:Int):Option Bool:=match op with | .eql=>some (a == b) | .neq=>some (a != b) | .lss=>some (decide (a<b)) | .leq=>some (decide (a≤b)) | .gtr=>some (decide (b<a)) | .geq=>some (decide (b≤a)) | _=>none
def qari (op:BinOp) (a b:Int):Option Int:=match op with | .add=>some (a+b) | .sub=>some (a - b) | .mul=>some (a*b) | _=>none
def qbit (op:BinOp) (k:IntKind) (a b:Int):Option Int:=match op with | .and=>some (dd k a b) | .or=>some (mj k a b) | .xor=>some (ry k a b) | _=>none
def qshf (op:BinOp) (k:IntKind) (a b:Int):Option Int:=match op with | .shl=>some (dV k a b) | .shr=>some (co k a b) | _=>none
def qeqb (op:BinOp) (p q:Bool):Option Bool:=match op with | .eql=>some (p == q) | .neq=>some (p != q) | _=>none
def qstr (op:BinOp) (s u:ByteArray):Option Bool:=match op with | .eql=>some (decide (s=u)) | .neq=>some (!decide (s=u)) | .lss=>some (Op.bytesLess s.toList u.toList) | .leq=>some (Op.bytesLess s.toList u.toList||decide (s=u)) | .gtr=>some (!(Op.bytesLess s.toList u.toList||decide (s=u))) | .geq=>some (!Op.bytesLess s.toList u.toList) | _=>none
def qint (op:BinOp) (k k':IntKind) (a b:Int):Option PV :=
 match qshf op k a b with
 | some r=>cond (ge0l b) (some (.v (.int k r))) none
 | none=>cond (Nat.beq (sm k) (sm k'))
  (match qcmp op a b with
   | some r=>some (.v (.bool r))
   | none=>match qari op a b with
    | some r=>some (.v (.int k (k.wrap r)))
    | none=>match qbit op k a b with
     | some r=>some (.v (.int k r))
     | none=>match op with
      | .quo=>cond (xY b) (some (.v (.int k (k.wrap (a.tdiv b))))) none
      | .rem=>cond (xY b) (some (.v (.int k (a.tmod b)))) none
      | _=>none) none
def qbin (op:BinOp) (t:Nat) (p q:PV):Option PV:=match p,q with
 | .v (.int k a),.v (.int k' b)=>qint op k k' a b
 | .v (.bool p),.v (.bool q)=>(match dv t with | some .bool=>(qeqb op p q).map fun r=>.v (.bool r) | _=>none)
 | .v (.string s),.v (.string u)=>(qstr op s u).map fun r=>.v (.bool r)
 | _,_=>none
def qlen (t:Nat) (p:PV):Option PV:=match dv t,p with
 | some (.slice _),.slc m _=>some (.v (.int .i64 (m:Int)))
 | some (.slice _),.v (.slice _ m _)=>some (.v (.int .i64 (m:Int)))
 | some .string,.v (.string s)=>some (.v (.int .i64 (s.size:Int)))
 | _,_=>none
def qmm (mx:Bool) (p q:PV):Option PV:=match p,q with
 | .v (.int k a),.v (.int k' b)=>cond (Nat.beq (sm k) (sm k')) (some (.v (.int k (cond mx (cX a b) (mC a b))))) none
 | _,_=>none
def th (σ:PEnv) (fl:List (Nat×Nat)):List PV→List (Nat×Operand)→Option (List PV)
 | zs,[]=>some zs
 | zs,(i,x)::r=>match fl[i]? with
  | some (k,ty)=>match dU ty,fM (bg σ x) with
   | some (_,sz,_),some vs=>cond (Nat.beq vs.length sz&&Nat.ble (k+vs.length) zs.length) (th σ fl (zs.take k++vs++zs.drop (k+vs.length)) r) none
   | _,_=>none
  | none=>none
theorem ti {σ:PEnv} {fl:List (Nat×Nat)}:∀ {parts:List (Nat×Operand)} {zs cs:List PV},th σ fl zs parts=some cs→PFill σ fl zs parts cs
 | [],zs,cs,h=>by simp only [th,da] at h;exact h
 | (i,x)::r,zs,cs,h=>by
  simp only [th] at h
  split at h
  ·rename_i k ty h1
   split at h
   ·rename_i z sz by' vs h2 h3
    cases hb:(Nat.beq vs.length sz&&Nat.ble (k+vs.length) zs.length)
    ·rw [hb] at h;cases h
    rw [hb] at h
    simp only [Bool.and_eq_true] at hb
    exact rA h1 h2 h3 hb.1 ⟨rfl,Nat.le_of_ble_eq_true hb.2⟩ (ti h)
   cases h
  cases h
def qfa (s f:Nat) (p:PV):Option PV:=match mn s with
 | some l=>match l[f]? with
  | some (kk,ty)=>match dU ty with
   | some (_,sz,_)=>cond (Nat.blt 0 sz) (match p with
    | .v (.pointer (some ⟨b,off,none⟩))=>some (.v (.pointer (some ⟨b,off+kk,none⟩)))
    | .ref cs off=>some (.ref cs (off+kk))
    | _=>none) none
   | none=>none
  | none=>none
 | none=>none
def qfd (t f:Nat) (p:PV):Option PV:=match mn t with
 | some l=>match l[f]? with
  | some (kk,ty)=>match p with
   | .agg cs=>cond (Nat.ble kk cs.length) (gj ty (cs.drop kk)) none
   | _=>none
  | none=>none
 | none=>none
def qx (σ:PEnv) (ρ:List PRes) (at_:Nat):Op→Option (PV×Option (Nat×Nat))
 | .move x=>some (bg σ x,none)
 | .assign x=>some (bg σ x,none)
 | .binOp op t x y _=>(qbin op t (bg σ x) (bg σ y)).map fun p=>(p,none)
 | .unOp .not _ x=>(match bg σ x with | .v (.bool p)=>some (.v (.bool !p),none) | _=>none)
 | .unOp .neg _ x=>(match bg σ x with | .v (.int k a)=>some (.v (.int k (k.wrap (0 - a))),none) | _=>none)
 | .convert s d x=>(match dv s,dv d,bg σ x with | some _,some (.int k'),.v (.int _ a)=>some (.v (.int k' (k'.wrap a)),none) | _,_,_=>none)
 | .nilCheck x=>(match bg σ x with | .v (.pointer (some ad))=>some (.v (.pointer (some ad)),none) | .ref cs k=>some (.ref cs k,none) | .ifc t p=>some (.ifc t p,none) | _=>none)
 | .fieldAddr s x f=>(qfa s f (bg σ x)).map fun p=>(p,none)
 | .field t x f=>(qfd t f (bg σ x)).map fun p=>(p,none)
 | .extract x i=>(match bg σ x with | .tup vs=>(vs[i]?).map fun p=>(p,none) | _=>none)
 | .load t x=>(match bg σ x with
  | .ref cs off=>(gj t (cs.drop off)).map fun p=>(p,none)
  | .v (.pointer (some ⟨b,off,none⟩))=>(match ρ[at_]? with | some (.b b' _ cs)=>(gj t (cs.drop off)).map fun p=>(p,some (b,b')) | _=>none)
  | _=>none)
 | .call ⟨.builtin .len,⟨[x]⟩,⟨[t]⟩⟩=>(qlen t (bg σ x)).map fun p=>(p,none)
 | .call ⟨.builtin .min,⟨[x,y]⟩,_⟩=>(qmm false (bg σ x) (bg σ y)).map fun p=>(p,none)
 | .call ⟨.builtin .max,⟨[x,y]⟩,_⟩=>(qmm true (bg σ x) (bg σ y)).map fun p=>(p,none)
 | .makeFunc (.func f) ⟨[]⟩ ⟨l⟩=>some (.fn f (l.map (bg σ)),none)
 | .makeInterface t x=>(match dv t with | some d=>cond (tg d) none (some (.ifc t (bg σ x),none)) | none=>none)
 | .build t ⟨parts⟩=>(match dU t,mn t with
  | some (.agg ⟨zs⟩,_,_),some fl=>cond ((fl.all fun p=>(dU p.2).isSome)&&zs.all Value.oneCell') ((th σ fl (zs.map fun x=>cond (sM x) (.v x) .any) parts).map fun cs=>(.agg cs,none)) none
  | _,_=>none)
 | _=>none
section
variable {o:Oper} {σ:PEnv} {ρ:List PRes} {x y:Operand} {t t':Nat} {p:PV}
theorem map_none {a:Option PV} {p:PV} {e:Option (Nat×Nat)} (h:(a.map fun q=>(q,(none:Option (Nat×Nat))))=some (p,e)):a=some p:=by
 cases a with
 | none=>cases h
 | some q=>simp only [Option.map_some,da,Prod.mk.injEq] at h;rw [h.1]
theorem qint_ok {op:BinOp} {k k':IntKind} {a b:Int} (ho:o.op=.binOp op t x y t') (hx:bg σ x=.v (.int k a)) (hy:bg σ y=.v (.int k' b)) (h:qint op k k' a b=some p):POpQ true o σ ρ p:=by
 unfold qint at h
 split at h
 ·rename_i r hr
  cases hb:ge0l b
  ·rw [hb] at h;cases h
  rw [hb] at h;simp only [cZ,da] at h;subst h
  exact o8 ho (.p hx) (.p hy) (fun _=>ge0l_ge hb) (by cases op <;> exact hr)
 cases hk:Nat.beq (sm k) (sm k')
 ·rw [hk] at h;cases h
 rw [hk] at h;simp only [cZ] at h
 have:=oC hk;subst this
 split at h
 ·rename_i r hr;simp only [da] at h;subst h;exact lO ho (.p hx) (.p hy) (by cases op <;> exact hr)
 split at h
 ·rename_i r hr;simp only [da] at h;subst h;exact dw ho (.p hx) (.p hy) (by cases op <;> exact hr)
 split at h
 ·rename_i r hr;simp only [da] at h;subst h;exact pq_bits ho (.p hx) (.p hy) (by cases op <;> exact hr)
 split at h
 ·cases hb:xY b
  ·rw [hb] at h;cases h
  rw [hb] at h;simp only [cZ,da] at h;subst h;exact xL ho (.p hx) (.p hy) fun _=>vw hb
 ·cases hb:xY b
  ·rw [hb] at h;cases h
  rw [hb] at h;simp only [cZ,da] at h;subst h;exact xM ho (.p hx) (.p hy) fun _=>vw hb
 cases h
theorem qbin_ok {op:BinOp} (ho:o.op=.binOp op t x y t') (h:qbin op t (bg σ x) (bg σ y)=some p):POpQ true o σ ρ p:=by
 unfold qbin at h
 split at h
 ·rename_i h1 h2;exact qint_ok ho h1 h2 h
 ·rename_i h1 h2
  split at h
  ·rename_i hu
   obtain ⟨r,hr,rfl⟩:=Option.map_eq_some_iff.1 h
   exact pq_eqB ho hu (.p h1) (.p h2) (by cases op <;> exact hr)
  cases h
 ·rename_i h1 h2
  obtain ⟨r,hr,rfl⟩:=Option.map_eq_some_iff.1 h
  exact pq_str ho (.p h1) (.p h2) (by cases op <;> exact hr)
 cases h
theorem qlen_ok (ho:o.op=.call { callee:=.builtin .len,args:=#[x],argTypes:=#[t] }) (h:qlen t (bg σ x)=some p):POpQ true o σ ρ p:=by
 unfold qlen at h
 split at h
 ·rename_i hu hx;simp only [da] at h;subst h;exact xO ho hu (.p hx)
 ·rename_i hu hx;simp only [da] at h;subst h;exact pq_lenO ho hu (.p hx)
 ·rename_i hu hx;simp only [da] at h;subst h;exact pq_lenS ho hu (.p hx)
 cases h
theorem xZ {mx:Bool} {ts:List Nat} (ho:o.op=.call { callee:=.builtin (cond mx .max .min),args:=#[x,y],argTypes:=ts.toArray }) (h:qmm mx (bg σ x) (bg σ y)=some p):POpQ true o σ ρ p:=by
 unfold qmm at h
 split at h
 ·rename_i k a k' b h1 h2
  cases hk:Nat.beq (sm k) (sm k')
  ·rw [hk] at h;cases h
  have:=oC hk;subst this
  rw [hk] at h
  simp only [cZ,da] at h;subst h
  cases mx
  ·exact pq_min ho (.p h1) (.p h2)
  exact pq_max ho (.p h1) (.p h2)
 cases h
theorem qfa_ok {s f:Nat} (ho:o.op=.fieldAddr s x f) (h:qfa s f (bg σ x)=some p):POpQ true o σ ρ p:=by
 unfold qfa at h
 split at h
 ·rename_i l h1
  split at h
  ·rename_i kk ty h2
   split at h
   ·rename_i z sz by' h3
    cases h4:Nat.blt 0 sz
    ·rw [h4] at h;cases h
    rw [h4] at h;simp only [cZ] at h
    split at h
    ·rename_i hx;simp only [da] at h;subst h;exact aJ ho h1 h2 h3 h4 (.p hx)
    ·rename_i hx;simp only [da] at h;subst h;exact qk ho h1 h2 h3 h4 (.p hx)
    cases h
   cases h
  cases h
 cases h
theorem qfd_ok {f:Nat} (ho:o.op=.field t x f) (h:qfd t f (bg σ x)=some p):POpQ true o σ ρ p:=by
 unfold qfd at h
 split at h
 ·rename_i l h1
  split at h
  ·rename_i kk ty h2
   split at h
   ·rename_i cs hx
    cases h4:Nat.ble kk cs.length
    ·rw [h4] at h;cases h
    rw [h4] at h;exact xN ho h1 h2 (.p hx) h4 h
   cases h
  cases h
 cases h
theorem rF {c:Bool} {tt:Nat} {pp:PV} (ho:o.op=.nilCheck x) (hx:PEv σ c x (.ifc tt pp)):POpQ c o σ ρ (.ifc tt pp):=fun κ σ' ρ' g hs _=>by
 refine ⟨ev σ' x,hs.pe hx,fun hc w _=>?_⟩
 have h:=hs.pe hx hc
 generalize he:ev σ' x=y at h
 cases h with
 | ifc h=>simp [execOp,ho,he]
theorem qx_ok {k:Nat} {e:Option (Nat×Nat)} (h:qx σ ρ k o.op=some (p,e)) (he:∀ b b',e=some (b,b')→b=b'):POpQ true o σ ρ p:=by
 generalize ho:o.op=op at h
 unfold qx at h
 split at h
 ·simp only [da,Prod.mk.injEq] at h;obtain ⟨rfl,_⟩:=h;exact bC ho (.p rfl)
 ·simp only [da,Prod.mk.injEq] at h;obtain ⟨rfl,_⟩:=h;exact bc ho (.p rfl)
 ·exact qbin_ok ho (map_none h)
 ·split at h
  ·rename_i hx;simp only [da,Prod.mk.injEq] at h;obtain ⟨rfl,_⟩:=h;exact pq_not ho (.p hx)
  cases h
 ·split at h
  ·rename_i hx;simp only [da,Prod.mk.injEq] at h;obtain ⟨rfl,_⟩:=h;exact pq_neg ho (.p hx)
  cases h
 ·split at h
  ·rename_i h1 h2 hx;simp only [da,Prod.mk.injEq] at h;obtain ⟨rfl,_⟩:=h;exact pq_conv ho h1 h2 (.p hx)
  cases h
 ·split at h
  ·rename_i hx;simp only [da,Prod.mk.injEq] at h;obtain ⟨rfl,_⟩:=h;exact hR ho (.p hx)
  ·rename_i hx;simp only [da,Prod.mk.injEq] at h;obtain ⟨rfl,_⟩:=h;exact rz ho (.p hx)
  ·rename_i hx;simp only [da,Prod.mk.injEq] at h;obtain ⟨rfl,_⟩:=h;exact rF ho (.p hx)
  cases h
 ·exact qfa_ok ho (map_none h)
 ·exact qfd_ok ho (map_none h)
 ·split at h
  ·rename_i hx;exact ka ho (.p hx) (map_none h)
  cases h
 ·split at h
  ·rename_i hx;exact nr ho (.p hx) (map_none h)
  ·rename_i b off hx
   split at h
   ·rename_i b' T cs hr
    obtain ⟨q,hq,h2⟩:=Option.map_eq_some_iff.1 h
    simp only [Prod.mk.injEq] at h2
    obtain ⟨rfl,rfl⟩:=h2
    have:=he b b' rfl;subst this
    exact bU ho (.p hx) (List.mem_of_getElem? hr) hq
   cases h
  cases h
 ·exact qlen_ok ho (map_none h)
 ·exact xZ (mx:=false) (ts:=_) ho (map_none h)
 ·exact xZ (mx:=true) (ts:=_) ho (map_none h)
 ·simp only [da,Prod.mk.injEq] at h;obtain ⟨rfl,_⟩:=h;exact sY ho
 ·split at h
  ·rename_i d hu
   cases hn:tg d
   ·rw [hn] at h;simp only [eY,da,Prod.mk.injEq] at h;obtain ⟨rfl,_⟩:=h;exact uE ho hu hn
   rw [hn] at h;cases h
  cases h
 ·split at h
  ·rename_i zs sz by' fl h1 h2
   cases hc:((fl.all fun p=>(dU p.2).isSome)&&zs.all Value.oneCell')
   ·rw [hc] at h;cases h
   rw [hc] at h
   simp only [cZ] at h
   obtain ⟨q,hq,h3⟩:=Option.map_eq_some_iff.1 h
   simp only [Prod.mk.injEq] at h3
   obtain ⟨rfl,_⟩:=h3
   simp only [Bool.and_eq_true] at hc
   exact sV rfl ho h1 h2 hc.1 rfl hc.2 (ti hq)
  cases h
 cases h
end
structure GE where
 gs:List Bool
 p:PV
def gl (t:Nat):List (Nat×GE)→Option GE
 | []=>none
 | (d,e)::l=>cond (Nat.beq t d) (some e) (gl t l)
def ya (t:Nat):List (Nat×GE)→List (Nat×GE)
 | []=>[]
 | (d,e)::l=>cond (Nat.beq t d) (ya t l) ((d,e)::ya t l)
def yb (d:Nat):List Nat→Bool
 | []=>false
 | k::l=>cond (Nat.beq d k) true (yb d l)
theorem oD {d:Nat}:∀ {l:List Nat},yb d l=true↔d∈l
 | []=>by simp [yb]
 | k::l=>by
  unfold yb
  cases h:Nat.beq d k
  ·have:d≠k:=fun e=>by rw [e] at h;simp at h
   simp [oD (l:=l),this]
  simp [Nat.eq_of_beq_eq_true h]
def ef:List Operand→List Nat
 | []=>[]
 | .tmp t::l=>t::ef l
 | _::l=>ef l
def kw (σ:PEnv) (G:List (Nat×GE)) (ts:List Nat) (gs:List Bool):PEnv:=fun t=>match gl t G with
 | none=>σ t
 | some e=>cond (yb t ts&&Nat.ble e.gs.length gs.length) e.p .any
def iE (G:List (Nat×GE)) (gs:List Bool):List Nat→List (Bool×Bool)
 | []=>[]
 | t::ts=>match gl t G with
  | none=>iE G gs ts
  | some e=>(e.gs.headD true,(gs.drop (gs.length - e.gs.length)).headD true)::iE G gs ts
def rG (ops:Array Oper) (σ:PEnv) (G:List (Nat×GE)):Option (Nat×Bool)→Option (List Bool)
 | none=>some []
 | some (j,pol)=>match (ops[j]?).bind (·.dst) with
  | none=>none
  | some d=>match gl d G with
   | none=>match σ d with | .v (.bool p)=>some [cond pol p (!p)] | _=>none
   | some e=>match e.p with | .v (.bool p)=>some ((e.gs.headD true&&cond pol p (!p))::e.gs) | _=>none
def StackOk (gs:List Bool):Prop:=gs.headD true=true→∀ b∈gs,b=true
def GInv (σ:PEnv) (G:List (Nat×GE)):Prop:=∀ t e,gl t G=some e→σ t=pgv (e.gs.headD true) e.p∧StackOk e.gs∧e.gs≠[]
def AllEq (l:List (Bool×Bool)):Prop:=l.map (·.1)=l.map (·.2)
theorem AllEq.nil:AllEq []:=rfl
theorem AllEq.cons {a b:Bool} {l:List (Bool×Bool)} (h:AllEq ((a,b)::l)):a=b∧AllEq l:=by
 unfold AllEq at h;simp only [List.map_cons,List.cons.injEq] at h;exact h
theorem AllEq.app {l m:List (Bool×Bool)} (h:AllEq (l++m)):AllEq l∧AllEq m:=by
 unfold AllEq at h;simp only [List.map_append] at h
 exact List.append_inj h (by simp)
theorem mJ {G:List (Nat×GE)} {gs:List Bool} {t:Nat} {e:GE}:∀ {ts:List Nat},t∈ts→gl t G=some e→AllEq (iE G gs ts)→e.gs.headD true=(gs.drop (gs.length - e.gs.length)).headD true
 | u::ts,hm,hg,ha=>by
  simp only [iE] at ha
  rcases List.mem_cons.1 hm with rfl | hm
  ·rw [hg] at ha;exact ha.cons.1
  split at ha
  ·exact mJ hm hg ha
  exact mJ hm hg ha.cons.2
theorem pn {gs:List Bool} (h:StackOk gs) (hc:gs.headD true=true) (k:Nat):(gs.drop k).headD true=true:=by
 rw [List.headD_eq_head?_getD,List.head?_drop]
 cases e:gs[k]? with
 | none=>rfl
 | some b=>exact h hc b (List.mem_of_getElem? e)
theorem mK {κ:Kr} {σ:PEnv} {σ':Env} {G:List (Nat×GE)} {ts:List Nat} {gs:List Bool} (hs:Sim κ σ σ') (hi:GInv σ G) (ha:AllEq (iE G gs ts)) (hk:StackOk gs) (hc:gs.headD true=true):Sim κ (kw σ G ts gs) σ':=fun t=>by
 unfold kw
 cases hg:gl t G with
 | none=>exact hs t
 | some e =>
  simp only
  cases hb:(yb t ts&&Nat.ble e.gs.length gs.length)
  ·exact .any
  simp only [Bool.and_eq_true,oD] at hb
  have h1:=mJ hb.1 hg ha
  rw [pn hk hc] at h1
  have h2:=(hi t e hg).1
  rw [h1,jH] at h2
  have:=hs t
  rw [h2] at this
  exact this
theorem nv {o:Oper} {σ:PEnv} {ρ:List PRes} {G:List (Nat×GE)} {ts:List Nat} {gs:List Bool} {p:PV} (h:gs.headD true=true→POpQ true o (kw σ G ts gs) ρ p) (hi:GInv σ G) (ha:AllEq (iE G gs ts)) (hk:StackOk gs):POpQ (gs.headD true) o σ ρ p:=fun κ σ' ρ' g hs hr=>by
 cases hc:gs.headD true with
 | false=>exact uy
 | true=>exact h hc κ σ' ρ' g (mK hs hi ha hk hc) hr
theorem ww {ops:Array Oper} {σ:PEnv} {G:List (Nat×GE)} {o:Oper} {gs:List Bool} (hi:GInv σ G) (h:rG ops σ G o.guard=some gs):PGuardIs ops σ o (gs.headD true)∧StackOk gs:=by
 cases hg:o.guard with
 | none =>
  rw [hg] at h;simp only [rG,da] at h;subst h
  exact ⟨fun κ σ' _=>ul hg,fun _ b hb=>by cases hb⟩
 | some jp =>
  obtain ⟨j,pol⟩:=jp
  rw [hg] at h;simp only [rG] at h
  split at h
  ·cases h
  rename_i d hd
  split at h
  ·split at h
   ·rename_i p hp
    simp only [da] at h;subst h
    refine ⟨?_,fun hc b hb=>by rw [List.mem_singleton.1 hb];exact hc⟩
    cases pol
    ·exact gn hg hd hp
    exact ec hg hd hp
   cases h
  rename_i e hgl
  split at h
  ·rename_i p hp
   simp only [da] at h;subst h
   obtain ⟨h1,h2,h3⟩:=hi d e hgl
   rw [hp] at h1
   refine ⟨?_,fun hc b hb=>?_⟩
   ·cases pol
    ·exact ed hg hd h1
    exact fx hg hd h1
   simp only [List.headD_cons,Bool.and_eq_true] at hc
   rcases List.mem_cons.1 hb with rfl | hb
   ·simp only [hc,Bool.and_self]
   exact h2 hc.1 b hb
  cases h
def vx (σ:PEnv) (G:List (Nat×GE)) (want:Bool):Operand→Option (PV×List (Bool×Bool))
 | .tmp t=>match gl t G with
  | some e=>some (e.p,[(e.gs.headD true,want)])
  | none=>some (σ t,[])
 | x=>some (bg σ x,[])
theorem tj {σ:PEnv} {G:List (Nat×GE)} {want:Bool} {x:Operand} {p:PV} {l:List (Bool×Bool)} (hi:GInv σ G) (h:vx σ G want x=some (p,l)) (ha:AllEq l):PEv σ want x p:=by
 unfold vx at h
 split at h
 ·rename_i t
  split at h
  ·rename_i e hg
   simp only [da,Prod.mk.injEq] at h;obtain ⟨rfl,rfl⟩:=h
   have h1:=ha.cons.1
   have h2:=(hi t e hg).1
   rw [h1] at h2
   exact .g h2
  simp only [da,Prod.mk.injEq] at h;obtain ⟨rfl,rfl⟩:=h;exact .p rfl
 simp only [da,Prod.mk.injEq] at h;obtain ⟨rfl,rfl⟩:=h;exact .p rfl
def po:PV→Option Bool
 | .v (.bool p)=>some p
 | _=>none
theorem nw {p:PV} {b:Bool} (h:po p=some b):p=.v (.bool b):=by
 unfold po at h;split at h
 ·simp only [da] at h;rw [h]
 cases h
def rH:Operand→Bool
 | .const (.bool true)=>true
 | _=>false
def oE:Operand→Bool
 | .const (.bool false)=>true
 | _=>false
theorem wx {x:Operand} {σ:PEnv} (h:rH x=true):bg σ x=.v (.bool true):=by
 unfold rH at h;split at h
 ·rfl
 cases h
theorem uG {x:Operand} {σ:PEnv} (h:oE x=true):bg σ x=.v (.bool false):=by
 unfold oE at h;split at h
 ·rfl
 cases h
def yc (σ:PEnv) (G:List (Nat×GE)) (gs:List Bool) (cc a b:Operand):Option (PV×List (Bool×Bool)) :=
 match po (bg (kw σ G (ef [cc]) gs) cc) with
 | none=>none
 | some p=>cond (rH a)
  (match vx σ G (gs.headD true && !p) b with
   | some (q,l)=>match po q with
    | some q=>some (.v (.bool (p||q)),iE G gs (ef [cc])++l)
    | none=>none
   | none=>none)
  (cond (oE b)
   (match vx σ G (gs.headD true&&p) a with
    | some (q,l)=>match po q with
     | some q=>some (.v (.bool (p&&q)),iE G gs (ef [cc])++l)
     | none=>none
    | none=>none) none)
theorem vy {σ:PEnv} {G:List (Nat×GE)} {gs:List Bool} {x:Operand} {p:PV} (hi:GInv σ G) (hk:StackOk gs) (ha:AllEq (iE G gs (ef [x]))) (h:bg (kw σ G (ef [x]) gs) x=p) (hn:p≠.any):PEv σ (gs.headD true) x p:=fun hc=>by
 cases x with
 | tmp t =>
  simp only [bg,ef] at h ⊢
  unfold kw at h
  cases hg:gl t G with
  | none=>rw [hg] at h;exact h
  | some e =>
   rw [hg] at h
   simp only at h
   cases hb:(yb t [t]&&Nat.ble e.gs.length gs.length)
   ·rw [hb] at h;exact absurd h.symm hn
   ·rw [hb] at h;simp only [cZ] at h
    have h1:=mJ (t:=t) (ts:=[t]) (by simp) hg ha
    rw [pn hk hc] at h1
    have h2:=(hi t e hg).1
    rw [h1,jH] at h2
    rw [h2,h]
 | const x=>exact h
 | global g=>exact h
 | func f=>exact h
theorem yd {o:Oper} {σ:PEnv} {ρ:List PRes} {G:List (Nat×GE)} {gs:List Bool} {cc a b:Operand} {p:PV} {l:List (Bool×Bool)} (ho:o.op=.pick cc a b) (hi:GInv σ G) (hk:StackOk gs) (h:yc σ G gs cc a b=some (p,l)) (ha:AllEq l):POpQ (gs.headD true) o σ ρ p:=by
 unfold yc at h
 split at h
 ·cases h
 rename_i c hc
 have hc:=nw hc
 cases h1:rH a
 ·rw [h1] at h;simp only [eY] at h
  cases h2:oE b
  ·rw [h2] at h;cases h
  rw [h2] at h;simp only [cZ] at h
  split at h
  ·rename_i q m hl
   split at h
   ·rename_i q' hq
    simp only [da,Prod.mk.injEq] at h;obtain ⟨rfl,rfl⟩:=h
    have hl':=tj hi hl ha.app.2
    rw [nw hq] at hl'
    exact rx ho (vy hi hk ha.app.1 hc (by simp)) (.p (uG h2)) hl'
   cases h
  cases h
 rw [h1] at h;simp only [cZ] at h
 split at h
 ·rename_i q m hl
  split at h
  ·rename_i q' hq
   simp only [da,Prod.mk.injEq] at h;obtain ⟨rfl,rfl⟩:=h
   have hl':=tj hi hl ha.app.2
   rw [nw hq] at hl'
   exact vo ho (vy hi hk ha.app.1 hc (by simp)) (.p (wx h1)) hl'
  cases h
 cases h
inductive Fct where
 | ix (c:Bool) (css:List (List PV)) (i:Int) (cs:List PV)
 | sx (c:Bool) (s:ByteArray) (i:Int) (u:UInt8)
 | nz (c:Bool) (b:Int)
 | ge (c:Bool) (b:Int)
 | sl (c:Bool) (css:List (List PV)) (lo hi:Int) (zss:List (List PV)) (m sz:Nat)
 | ss (c:Bool) (s:ByteArray) (lo hi:Int) (z:ByteArray)
 | ct (c:Bool) (s u z:ByteArray)
 | eq (t:Nat) (ks:List Nat)
 | cl (c:Bool) (f:Nat) (pargs:List PV) (r:PV)
 | cv (c:Bool) (pf:PV) (pargs:List PV) (r:PV)
 | ci (c:Bool) (p:PV) (name:String) (pargs:List PV) (r:PV)
 | ta (T:Nat) (p r:PV)
structure EqOk (t:Nat) (ks:List Nat):Prop where
 h1:Tryz.prog.underlying t=some (.struct (Tryz.prog.fieldsOf t))
 h2:Tryz.prog.stoodInHeld t=false
 h3:Tryz.prog.eqGuardType Tryz.prog.depth t=false
 h4:flatK (Tryz.prog.fieldsOf t).toList 0 ks=true
def Fct.ok:Fct→Prop
 | .ix c css i cs=>c=true→idx css i=some cs
 | .sx c s i u=>c=true→idx s.data.toList i=some u
 | .nz c b=>c=true→b≠0
 | .ge c b=>c=true→0≤b
 | .sl c css lo hi zss m sz=>(c=true→sub css lo hi=some zss)∧m=zss.length∧∀ cs∈css,cs.length=sz
 | .ss c s lo hi z=>c=true→kv s lo hi=some z
 | .ct c s u z=>c=true→xQ s u=some z
 | .eq t ks=>EqOk t ks
 | .cl c f pargs r=>c=true→PF f pargs r
 | .cv c pf pargs r=>c=true→PFV pf pargs r
 | .ci c p name pargs r=>c=true→PFI p name pargs r
 | .ta T p r=>SX.ta T p=some r
def FOk:List (Nat×Fct)→Prop
 | []=>True
 | f::l=>f.2.ok∧FOk l
theorem bA:FOk []:=trivial
section
variable {F:List (Nat×Fct)} {c:Bool} {α:Type} {xs zs:List α} {i lo hi b:Int} {m:α}
theorem hY (k:Nat) (e:α→List PV) (hm:c=true→idx xs i=some m) (h:FOk F):FOk ((k,.ix c (List.map e xs) i (e m))::F):=⟨fun hc=>by
 obtain ⟨h0,hmm⟩:=hU (hm hc)
 unfold idx;rw [if_pos h0,List.getElem?_map,hmm];rfl,h⟩
theorem eH (k:Nat) (e:α→List PV) (hm:idx xs i=some m) (h:FOk F):FOk ((k,.ix true (List.map e xs) i (e m))::F):=hY k e (fun _=>hm) h
theorem pq (k:Nat) {s:ByteArray} {u:UInt8} (hm:c=true→idx s.data.toList i=some u) (h:FOk F):FOk ((k,.sx c s i u)::F):=⟨hm,h⟩
theorem fosx (k:Nat) {s:ByteArray} {u:UInt8} (hm:idx s.data.toList i=some u) (h:FOk F):FOk ((k,.sx true s i u)::F):=⟨fun _=>hm,h⟩
theorem uH (k:Nat) {u:Unit} (hm:SX.nz b=some u) (h:FOk F):FOk ((k,.nz true b)::F):=⟨fun _=>nz_some hm,h⟩
theorem rI (k:Nat) {u:Unit} (hm:lG b=some u) (h:FOk F):FOk ((k,.ge true b)::F):=⟨fun _=>xP hm,h⟩
theorem foslg (k:Nat) (e:α→List PV) (sz:Nat) (hw:∀ m,(e m).length=sz) (hm:c=true→sub xs lo hi=some zs) (h:FOk F):FOk ((k,.sl c (List.map e xs) lo hi (List.map e zs) zs.length sz)::F):=⟨⟨fun hc=>by
 obtain ⟨h1,rfl⟩:=pa (hm hc)
 unfold sub;rw [if_pos (by rw [List.length_map];exact h1),List.map_drop,List.map_take],by rw [List.length_map],fun cs hcs=>by obtain ⟨x,_,rfl⟩:=List.mem_map.1 hcs;exact hw x⟩,h⟩
theorem fosl (k:Nat) (e:α→List PV) (sz:Nat) (hw:∀ m,(e m).length=sz) (hm:sub xs lo hi=some zs) (h:FOk F):FOk ((k,.sl true (List.map e xs) lo hi (List.map e zs) zs.length sz)::F):=foslg k e sz hw (fun _=>hm) h
theorem fossg (k:Nat) {s z:ByteArray} (hm:c=true→kv s lo hi=some z) (h:FOk F):FOk ((k,.ss c s lo hi z)::F):=⟨hm,h⟩
theorem foeq (k:Nat) {t:Nat} {ks:List Nat} (hm:EqOk t ks) (h:FOk F):FOk ((k,.eq t ks)::F):=⟨hm,h⟩
theorem bz (k:Nat) {f:Nat} {pargs:List PV} {r:PV} (hm:PF f pargs r) (h:FOk F):FOk ((k,.cl true f pargs r)::F):=⟨fun _=>hm,h⟩
theorem eJ (k:Nat) {f:Nat} {pargs:List PV} {r:PV} (hm:c=true→PF f pargs r) (h:FOk F):FOk ((k,.cl c f pargs r)::F):=⟨hm,h⟩
theorem ye (k:Nat) {pf:PV} {pargs:List PV} {r:PV} (hm:PFV pf pargs r) (h:FOk F):FOk ((k,.cv true pf pargs r)::F):=⟨fun _=>hm,h⟩
theorem focvg (k:Nat) {pf:PV} {pargs:List PV} {r:PV} (hm:c=true→PFV pf pargs r) (h:FOk F):FOk ((k,.cv c pf pargs r)::F):=⟨hm,h⟩
end
inductive Eqn where
 | n (a:Nat)
 | b (a:Bool)
 | i (a:Int)
 | p (a:PV)
 | l (a:List PV)
 | q (a:List (List PV))
 | s (a:ByteArray)
 | m (a:String)
abbrev StepR:=PV×List Eqn×List Eqn
def uI (σ:PEnv) (c:Bool) (t:Nat) (p:PV) (lo hi:Option Operand):Fct→Option StepR
 | .sl c' css l h zss m sz=>(match dv t,p with
  | some (.slice E),.slc mm css'=>(match dU E with
   | some (_,sz',_)=>(match lo,hi with
    | none,some y=>(match bg σ y with | .v (.int _ b)=>some (.slc m zss,[.b c',.q css,.i l,.i h,.n sz],[.b c,.q css',.i 0,.i b,.n sz']) | _=>none)
    | some x,none=>(match bg σ x with | .v (.int _ a)=>some (.slc m zss,[.b c',.q css,.i l,.i h,.n sz],[.b c,.q css',.i a,.i (mm:Int),.n sz']) | _=>none)
    | _,_=>none)
   | none=>none)
  | _,_=>none)
 | .ss c' s l h z=>(match dv t,p with
  | some .string,.v (.string s')=>(match lo,hi with
   | none,some y=>(match bg σ y with | .v (.int _ b)=>some (.v (.string z),[.b c',.s s,.i l,.i h],[.b c,.s s',.i 0,.i b]) | _=>none)
   | some x,none=>(match bg σ x with | .v (.int _ a)=>some (.v (.string z),[.b c',.s s,.i l,.i h],[.b c,.s s',.i a,.i (s'.size:Int)]) | _=>none)
   | some x,some y=>(match bg σ x,bg σ y with | .v (.int _ a),.v (.int _ b)=>some (.v (.string z),[.b c',.s s,.i l,.i h],[.b c,.s s',.i a,.i b]) | _,_=>none)
   | none,none=>none)
  | _,_=>none)
 | _=>none
def yf (σ:PEnv) (c:Bool):Op→Fct→Option StepR
 | .indexAddr t x y,.ix c' css i cs=>(match dv t,bg σ x,bg σ y with
  | some (.slice E),.slc _ css',.v (.int _ i')=>(match dU E with | some (_,sz,_)=>some (.ref cs 0,[.b c',.q css,.i i,.n cs.length],[.b c,.q css',.i i',.n sz]) | none=>none)
  | _,_,_=>none)
 | .index t x y,.sx c' s i u=>(match dv t,bg σ x,bg σ y with
  | some .string,.v (.string s'),.v (.int _ i')=>some (.v (.int .u8 (u.toNat:Int)),[.b c',.s s,.i i],[.b c,.s s',.i i'])
  | _,_,_=>none)
 | .binOp .quo _ x y _,.nz c' b=>(match bg σ x,bg σ y with
  | .v (.int k a),.v (.int k' b')=>cond (Nat.beq (sm k) (sm k')) (some (.v (.int k (k.wrap (a.tdiv b))),[.b c',.i b],[.b c,.i b'])) none
  | _,_=>none)
 | .binOp .rem _ x y _,.nz c' b=>(match bg σ x,bg σ y with
  | .v (.int k a),.v (.int k' b')=>cond (Nat.beq (sm k) (sm k')) (some (.v (.int k (a.tmod b)),[.b c',.i b],[.b c,.i b'])) none
  | _,_=>none)
 | .binOp .shl _ x y _,.ge c' b=>(match bg σ x,bg σ y with
  | .v (.int k a),.v (.int _ b')=>some (.v (.int k (dV k a b)),[.b c',.i b],[.b c,.i b'])
  | _,_=>none)
 | .binOp .shr _ x y _,.ge c' b=>(match bg σ x,bg σ y with
  | .v (.int k a),.v (.int _ b')=>some (.v (.int k (co k a b)),[.b c',.i b],[.b c,.i b'])
  | _,_=>none)
 | .binOp .add _ x y _,.ct c' s u z=>(match bg σ x,bg σ y with
  | .v (.string s'),.v (.string u')=>some (.v (.string z),[.b c',.s s,.s u],[.b c,.s s',.s u'])
  | _,_=>none)
 | .binOp .eql t x y _,.eq t' ks=>(match bg σ x,bg σ y with
  | .agg cs,.agg ds=>(match xU cs,xU ds with
   | some xs,some ys=>(match td ks xs ys with | some r=>some (.v (.bool r),[.n t'],[.n t]) | none=>none)
   | _,_=>none)
  | _,_=>none)
 | .binOp .neq t x y _,.eq t' ks=>(match bg σ x,bg σ y with
  | .agg cs,.agg ds=>(match xU cs,xU ds with
   | some xs,some ys=>(match td ks xs ys with | some r=>some (.v (.bool !r),[.n t'],[.n t]) | none=>none)
   | _,_=>none)
  | _,_=>none)
 | .slice t x lo hi none,f=>uI σ c t (bg σ x) lo hi f
 | .typeAssert x _ T true,.ta T' p r=>(match dv T with
  | some d=>cond (!tg d&&(dU T).isSome) (some (r,[.n T',.p p],[.n T,.p (bg σ x)])) none
  | none=>none)
 | _,_=>none
section
variable {o:Oper} {σ:PEnv} {ρ:List PRes} {x y:Operand} {t:Nat} {k:IntKind} {a b:Int} {css zss:List (List PV)}
theorem wy {E sz by' mm:Nat} {z:Value} {cs:List PV} (ho:o.op=.indexAddr t x y) (hu:dv t=some (.slice E)) (hi:dU E=some (z,sz,by')) (hw:cs.length=sz) (hx:bg σ x=.slc mm css) (hy:bg σ y=.v (.int k a)) (hm:idx css a=some cs):POpQ true o σ ρ (.ref cs 0):=fun κ σ' ρ' g hs hrr=>by
 obtain ⟨h0,hcs⟩:=hU hm
 have h:=hs.ev x
 rw [hx] at h
 generalize he:ev σ' x=w at h
 cases h with
 | slc hsl hb h1 hss =>
  rename_i ad cp sz' dss
  obtain ⟨ds,hd,hds⟩:=hss.get hcs
  have hlt:a.toNat<mm:=by rw [← hsl.len];exact (List.getElem?_eq_some_iff.1 hd).1
  obtain ⟨bb,off,ha,hsh⟩:=hsl.at_ (by omega)
  have hwid:sz'=sz:=by
   have e1:=hsl.wid ds (List.mem_of_getElem? hd)
   have e2:=hds.len
   omega
  subst hwid
  have h2:=mu (c:=true) (ρ:=ρ') (κ:=κ) (j:=a.toNat) ho hu hi (.p (by rw [he,ha])) (.p (hs.v1 hy)) (fun _=>by omega) (fun _=>hlt)
  exact ⟨_,fun _=>by have:=Rp.ref (k:=0) (hsh _ _ hd) (h1 ds (List.mem_of_getElem? hd)) hds;rwa [Nat.add_zero] at this,h2⟩
theorem tk {κ:Kr} {sz:Nat}:∀ {css:List (List PV)} {dss:List (List Value)},(∀ cs∈css,cs.length=sz)→Rpss κ css dss→∀ ds∈dss,ds.length=sz
 | _,_,_,.nil,ds,hd=>by cases hd
 | _,_,hw,.cons h hs,ds,hd=>by
  rcases List.mem_cons.1 hd with rfl | hd
  ·rw [← h.len];exact hw _ (by simp)
  exact tk (fun c hc=>hw c (by simp [hc])) hs ds hd
theorem uJ {E sz by' mm:Nat} {z:Value} (ho:o.op=.slice t x none (some y) none) (hu:dv t=some (.slice E)) (hi:dU E=some (z,sz,by')) (hx:bg σ x=.slc mm css) (hy:bg σ y=.v (.int k b)) (hm:sub css 0 b=some zss):POpQ true o σ ρ (.slc zss.length zss):=fun κ σ' ρ' g hs hrr=>by
 obtain ⟨⟨h0,h1,h2⟩,rfl⟩:=pa hm
 have h:=hs.ev x
 rw [hx] at h
 generalize he:ev σ' x=w at h
 cases h with
 | slc hsl hb ho1 hss =>
  rename_i ad cp sz' dss
  have hl:css.length=mm:=by rw [← hsl.len,← hss.len]
  have hcap:=hsl.cap
  have hzl:((css.take b.toNat).drop (0:Int).toNat).length=b.toNat:=by simp;omega
  rw [hzl]
  refine ⟨.slice ad b.toNat cp,fun _=>?_,ut (c:=true) (k:=b.toNat) ho hu hi (.p he) (.p (hs.v1 hy)) (fun _=>by omega) (fun _=>by omega)⟩
  have:=Rp.slc (hsl.take (m:=b.toNat) (by omega)) (by omega) (sZ ho1 fun d hd=>List.mem_of_mem_take hd) (hss.take b.toNat)
  simpa using this
theorem uK {E sz by' mm:Nat} {z:Value} (ho:o.op=.slice t x (some y) none none) (hu:dv t=some (.slice E)) (hi:dU E=some (z,sz,by')) (hw:∀ cs∈css,cs.length=sz) (hx:bg σ x=.slc mm css) (hy:bg σ y=.v (.int k a)) (hm:sub css a (mm:Int)=some zss):POpQ true o σ ρ (.slc zss.length zss):=fun κ σ' ρ' g hs hrr=>by
 obtain ⟨⟨h0,h1,h2⟩,rfl⟩:=pa hm
 have h:=hs.ev x
 rw [hx] at h
 generalize he:ev σ' x=w at h
 cases h with
 | slc hsl hb ho1 hss =>
  rename_i ad cp sz' dss
  have hl:css.length=mm:=by rw [← hsl.len,← hss.len]
  have hcap:=hsl.cap
  have hq:=uu (c:=true) (ρ:=ρ') (κ:=κ) (k:=a.toNat) ho hu hi (.p he) (.p (hs.v1 hy)) (fun _=>by omega) (fun _=>by omega)
  have hd:=hsl.dropT (m:=a.toNat) (by omega)
  have e2:List.drop a.toNat (List.take (mm:Int).toNat css)=css.drop a.toNat:=by rw [Int.toNat_natCast,← hl,List.take_length]
  rw [e2]
  have hzl:(css.drop a.toNat).length=mm - a.toNat:=by simp [hl]
  rw [hzl]
  by_cases hz:mm - a.toNat=0
  ·refine ⟨_,fun _=>?_,hq⟩
   have e3:css.drop a.toNat=[]:=List.drop_of_length_le (by omega)
   rw [e3]
   exact .slc (sz:=sz) (css:=[]) ⟨by simp [hz],by omega,by simp,fun h=>absurd h (by omega)⟩ (by omega) (fun _ h=>by cases h) .nil
  have hszz:sz'=sz:=by
   have hlen:=hsl.len
   match dss,hlen with
   | [],hlen=>simp only [List.length_nil] at hlen;omega
   | d::ds,_=>rw [← hsl.wid d (by simp),tk hw hss d (by simp)]
  subst hszz
  exact ⟨_,fun _=>Rp.slc hd (by omega) (sZ ho1 fun d hd=>List.mem_of_mem_drop hd) (hss.drop a.toNat),hq⟩
end
theorem wz {o:Oper} {σ:PEnv} {ρ:List PRes} {c:Bool} {x:Operand} {t:Nat} {lo hi:Option Operand} {f:Fct} {p:PV} {L R:List Eqn} (ho:o.op=.slice t x lo hi none) (h:uI σ c t (bg σ x) lo hi f=some (p,L,R)) (he:L=R) (hf:f.ok) (hc:c=true):POpQ true o σ ρ p:=by
 unfold uI at h
 split at h
 ·rename_i c' css l hh zss m sz
  split at h
  ·rename_i E mm css' hu hx
   split at h
   ·rename_i z sz' by' hi'
    split at h
    ·rename_i y
     split at h
     ·rename_i k b hy
      simp only [da,Prod.mk.injEq] at h;obtain ⟨rfl,rfl,rfl⟩:=h
      simp only [List.cons.injEq,Eqn.b.injEq,Eqn.q.injEq,Eqn.i.injEq,Eqn.n.injEq,and_true] at he
      obtain ⟨rfl,rfl,rfl,rfl,rfl⟩:=he
      obtain ⟨h1,rfl,h3⟩:=hf
      exact uJ ho hu hi' hx hy (h1 hc)
     cases h
    ·rename_i y
     split at h
     ·rename_i k b hy
      simp only [da,Prod.mk.injEq] at h;obtain ⟨rfl,rfl,rfl⟩:=h
      simp only [List.cons.injEq,Eqn.b.injEq,Eqn.q.injEq,Eqn.i.injEq,Eqn.n.injEq,and_true] at he
      obtain ⟨rfl,rfl,rfl,rfl,rfl⟩:=he
      obtain ⟨h1,rfl,h3⟩:=hf
      exact uK ho hu hi' h3 hx hy (h1 hc)
     cases h
    cases h
   cases h
  cases h
 ·rename_i c' s l hh z
  split at h
  ·rename_i s' hu hx
   split at h
   ·split at h
    ·rename_i hy
     simp only [da,Prod.mk.injEq] at h;obtain ⟨rfl,rfl,rfl⟩:=h
     simp only [List.cons.injEq,Eqn.b.injEq,Eqn.s.injEq,Eqn.i.injEq,and_true] at he
     obtain ⟨rfl,rfl,rfl,rfl⟩:=he
     exact uA ho hu (.p hx) (.p hy) (fun _=>hf hc)
    cases h
   ·split at h
    ·rename_i hy
     simp only [da,Prod.mk.injEq] at h;obtain ⟨rfl,rfl,rfl⟩:=h
     simp only [List.cons.injEq,Eqn.b.injEq,Eqn.s.injEq,Eqn.i.injEq,and_true] at he
     obtain ⟨rfl,rfl,rfl,rfl⟩:=he
     exact uB ho hu (.p hx) (.p hy) (fun _=>hf hc)
    cases h
   ·split at h
    ·rename_i hy hy2
     simp only [da,Prod.mk.injEq] at h;obtain ⟨rfl,rfl,rfl⟩:=h
     simp only [List.cons.injEq,Eqn.b.injEq,Eqn.s.injEq,Eqn.i.injEq,and_true] at he
     obtain ⟨rfl,rfl,rfl,rfl⟩:=he
     exact tc ho hu (.p hx) (.p hy) (.p hy2) (fun _=>hf hc)
    cases h
   cases h
  cases h
 cases h
theorem yg {o:Oper} {σ:PEnv} {ρ:List PRes} {c:Bool} {f:Fct} {p:PV} {L R:List Eqn} (h:yf σ c o.op f=some (p,L,R)) (he:L=R) (hf:f.ok) (hc:c=true):POpQ true o σ ρ p:=by
 generalize ho:o.op=op at h
 unfold yf at h
 split at h
 ·split at h
  ·rename_i hu hx hy
   split at h
   ·rename_i hi
    simp only [da,Prod.mk.injEq] at h;obtain ⟨rfl,rfl,rfl⟩:=h
    simp only [List.cons.injEq,Eqn.b.injEq,Eqn.q.injEq,Eqn.i.injEq,Eqn.n.injEq,and_true] at he
    obtain ⟨rfl,rfl,rfl,h4⟩:=he
    exact wy ho hu hi h4 hx hy (hf hc)
   cases h
  cases h
 ·split at h
  ·rename_i hu hx hy
   simp only [da,Prod.mk.injEq] at h;obtain ⟨rfl,rfl,rfl⟩:=h
   simp only [List.cons.injEq,Eqn.b.injEq,Eqn.s.injEq,Eqn.i.injEq,and_true] at he
   obtain ⟨rfl,rfl,rfl⟩:=he
   exact wn ho hu (.p hx) (.p hy) (fun _=>hf hc)
  cases h
 ·split at h
  ·rename_i k a k' b' hx hy
   cases hk:Nat.beq (sm k) (sm k')
   ·rw [hk] at h;cases h
   rw [hk] at h;have:=oC hk;subst this
   simp only [cZ,da,Prod.mk.injEq] at h;obtain ⟨rfl,rfl,rfl⟩:=h
   simp only [List.cons.injEq,Eqn.b.injEq,Eqn.i.injEq,and_true] at he
   obtain ⟨rfl,rfl⟩:=he
   exact xL ho (.p hx) (.p hy) (fun _=>hf hc)
  cases h
 ·split at h
  ·rename_i k a k' b' hx hy
   cases hk:Nat.beq (sm k) (sm k')
   ·rw [hk] at h;cases h
   rw [hk] at h;have:=oC hk;subst this
   simp only [cZ,da,Prod.mk.injEq] at h;obtain ⟨rfl,rfl,rfl⟩:=h
   simp only [List.cons.injEq,Eqn.b.injEq,Eqn.i.injEq,and_true] at he
   obtain ⟨rfl,rfl⟩:=he
   exact xM ho (.p hx) (.p hy) (fun _=>hf hc)
  cases h
 ·split at h
  ·rename_i hx hy
   simp only [da,Prod.mk.injEq] at h;obtain ⟨rfl,rfl,rfl⟩:=h
   simp only [List.cons.injEq,Eqn.b.injEq,Eqn.i.injEq,and_true] at he
   obtain ⟨rfl,rfl⟩:=he
   exact o8 ho (.p hx) (.p hy) (fun _=>hf hc) rfl
  cases h
 ·split at h
  ·rename_i hx hy
   simp only [da,Prod.mk.injEq] at h;obtain ⟨rfl,rfl,rfl⟩:=h
   simp only [List.cons.injEq,Eqn.b.injEq,Eqn.i.injEq,and_true] at he
   obtain ⟨rfl,rfl⟩:=he
   exact o8 ho (.p hx) (.p hy) (fun _=>hf hc) rfl
  cases h
 ·split at h
  ·rename_i hx hy
   simp only [da,Prod.mk.injEq] at h;obtain ⟨rfl,rfl,rfl⟩:=h
   simp only [List.cons.injEq,Eqn.b.injEq,Eqn.s.injEq,and_true] at he
   obtain ⟨rfl,rfl,rfl⟩:=he
   exact pq_catT ho (.p hx) (.p hy) (fun _=>hf hc)
  cases h
 ·split at h
  ·rename_i hx hy
   split at h
   ·rename_i h5 h6
    split at h
    ·rename_i r hr
     simp only [da,Prod.mk.injEq] at h;obtain ⟨rfl,rfl,rfl⟩:=h
     simp only [List.cons.injEq,Eqn.n.injEq,and_true] at he
     subst he
     exact vt _ ho hf.h1 hf.h2 hf.h3 hf.h4 (.p hx) (.p hy) h5 h6 hr rfl
    cases h
   cases h
  cases h
 ·split at h
  ·rename_i hx hy
   split at h
   ·rename_i h5 h6
    split at h
    ·rename_i r hr
     simp only [da,Prod.mk.injEq] at h;obtain ⟨rfl,rfl,rfl⟩:=h
     simp only [List.cons.injEq,Eqn.n.injEq,and_true] at he
     subst he
     exact vt _ ho hf.h1 hf.h2 hf.h3 hf.h4 (.p hx) (.p hy) h5 h6 hr rfl
    cases h
   cases h
  cases h
 ·exact wz ho h he hf hc
 ·split at h
  ·rename_i d hu
   cases hb:(!tg d&&(dU _).isSome)
   ·rw [hb] at h;cases h
   rw [hb] at h
   simp only [cZ,da,Prod.mk.injEq] at h;obtain ⟨rfl,rfl,rfl⟩:=h
   simp only [List.cons.injEq,Eqn.n.injEq,Eqn.p.injEq,and_true] at he
   obtain ⟨rfl,h2⟩:=he
   simp only [Bool.and_eq_true,Bool.not_eq_true'] at hb
   exact pq_ta ho hu hb.1 hb.2 h2.symm hf
  cases h
 cases h
def gL (l:List (Bool×Bool)):List Eqn:=l.map fun z=>.b z.1
def gR (l:List (Bool×Bool)):List Eqn:=l.map fun z=>.b z.2
theorem gLR:∀ {l:List (Bool×Bool)},gL l=gR l→AllEq l
 | [],_=>AllEq.nil
 | (a,b)::l,h=>by
  simp only [gL,gR,List.map_cons,List.cons.injEq,Eqn.b.injEq] at h
  have:=gLR (l:=l) h.2
  unfold AllEq at this ⊢
  simp only [List.map_cons,h.1,this]
theorem yh {l:List (Bool×Bool)}:(gL l).length=(gR l).length:=by simp [gL,gR]
def kQ:Op→Bool
 | .call ⟨.value _,_,_⟩=>true
 | .call ⟨.invoke _ _,_,_⟩=>true
 | _=>false
abbrev StepO:=Option (PV×Bool×List Eqn×List Eqn)
def pr (σ:PEnv) (G:List (Nat×GE)) (ρ:List PRes) (gs:List Bool) (at_:Nat) (op:Op):StepO :=
 match qx (kw σ G (ef op.operands.toList) gs) ρ at_ op with
 | some (p,none)=>some (p,false,gL (iE G gs (ef op.operands.toList)),gR (iE G gs (ef op.operands.toList)))
 | some (p,some (b,b'))=>some (p,true,gL (iE G gs (ef op.operands.toList))++[.n b],gR (iE G gs (ef op.operands.toList))++[.n b'])
 | none=>none
def yi (σ:PEnv) (G:List (Nat×GE)) (gs:List Bool) (op:Op) (cal:Operand) (ags:List Operand):Fct→StepO
 | .cl c f pargs r=>(match cal with
  | .func f'=>some (r,false,gL (iE G gs (ef op.operands.toList))++[.b c,.n f,.l pargs],gR (iE G gs (ef op.operands.toList))++[.b (gs.headD true),.n f',.l (ags.map (bg (kw σ G (ef op.operands.toList) gs)))])
  | _=>none)
 | .cv c pf pargs r=>some (r,false,gL (iE G gs (ef op.operands.toList))++[.b c,.p pf,.l pargs],gR (iE G gs (ef op.operands.toList))++[.b (gs.headD true),.p (bg (kw σ G (ef op.operands.toList) gs) cal),.l (ags.map (bg (kw σ G (ef op.operands.toList) gs)))])
 | _=>none
def invx (σ:PEnv) (G:List (Nat×GE)) (gs:List Bool) (op:Op) (x:Operand) (name:String) (ags:List Operand):Fct→StepO
 | .ci c p name' pargs r=>some (r,false,gL (iE G gs (ef op.operands.toList))++[.b c,.p p,.m name',.l pargs],gR (iE G gs (ef op.operands.toList))++[.b (gs.headD true),.p (bg (kw σ G (ef op.operands.toList) gs) x),.m name,.l (ags.map (bg (kw σ G (ef op.operands.toList) gs)))])
 | _=>none
def yj (σ:PEnv) (G:List (Nat×GE)) (ρ:List PRes) (gs:List Bool) (at_:Nat) (fo:Option Fct) (op:Op):StepO :=
 match fo with
 | some f=>(match op with
  | .call ⟨.value cal,⟨ags⟩,ts⟩=>yi σ G gs (.call ⟨.value cal,⟨ags⟩,ts⟩) cal ags f
  | .call ⟨.invoke x name,⟨ags⟩,ts⟩=>invx σ G gs (.call ⟨.invoke x name,⟨ags⟩,ts⟩) x name ags f
  | op=>(match yf (kw σ G (ef op.operands.toList) gs) (gs.headD true) op f with
   | some (p,L,R)=>some (p,false,gL (iE G gs (ef op.operands.toList))++L,gR (iE G gs (ef op.operands.toList))++R)
   | none=>none))
 | none=>(match op with
  | .pick cc a b=>(match yc σ G gs cc a b with | some (p,l)=>some (p,false,gL l,gR l) | none=>none)
  | op=>pr σ G ρ gs at_ op)
def POpG (c:Bool) (o:Oper) (σ:PEnv) (r:PV):Prop:=∀ κ σ' ρ' (KK:Value→Kr→Prop),GOK κ→Sim κ σ σ'→(∀ v κ',Kle κ κ'→(c=true→Rp κ' r v)→KK v κ')→OpG c o σ' ρ' κ KK
theorem tm {a b l m:List Eqn} (h:a++l=b++m) (hl:a.length=b.length):a=b∧l=m:=List.append_inj h hl
theorem popg_cl {o:Oper} {σ:PEnv} {G:List (Nat×GE)} {gs:List Bool} {ts:List Nat} {f:Nat} {ags:List Operand} {at_:Array Nat} {pargs:List PV} {r:PV} (ho:o.op=.call { callee:=.value (.func f),args:=ags.toArray,argTypes:=at_ }) (hi:GInv σ G) (ha:AllEq (iE G gs ts)) (hk:StackOk gs) (hp:pargs=ags.map (bg (kw σ G ts gs))) (hc:gs.headD true=true→PF f pargs r):POpG (gs.headD true) o σ r:=fun κ σ' ρ' KK g hs h =>
 sw ho (fun _=>rfl) (fun hct=>hc hct κ _ g (by rw [hp];exact gm (mK hs hi ha hk hct) ags)) h
theorem popg_cv {o:Oper} {σ:PEnv} {G:List (Nat×GE)} {gs:List Bool} {ts:List Nat} {x:Operand} {ags:List Operand} {at_:Array Nat} {pf:PV} {pargs:List PV} {r:PV} (ho:o.op=.call { callee:=.value x,args:=ags.toArray,argTypes:=at_ }) (hi:GInv σ G) (ha:AllEq (iE G gs ts)) (hk:StackOk gs) (hx:pf=bg (kw σ G ts gs) x) (hp:pargs=ags.map (bg (kw σ G ts gs))) (hc:gs.headD true=true→PFV pf pargs r):POpG (gs.headD true) o σ r:=fun κ σ' ρ' KK g hs h=>by
 refine ⟨fun hct=>?_,fun hcf=>h undef κ (.refl _) fun h=>by rw [hcf] at h;cases h⟩
 have hs':=mK hs hi ha hk hct
 obtain ⟨f,first,cap,h1,h2⟩:=hc hct κ _ _ g (by rw [hx];exact hs'.ev x) (by rw [hp];exact gm hs' ags)
 exact qy ho h1 rfl h2 fun v κ' hk hv=>⟨rfl,h v κ' hk fun _=>hv⟩
theorem popg_ci {o:Oper} {σ:PEnv} {G:List (Nat×GE)} {gs:List Bool} {ts:List Nat} {x:Operand} {name:String} {ags:List Operand} {at_:Array Nat} {p:PV} {pargs:List PV} {r:PV} (ho:o.op=.call { callee:=.invoke x name,args:=ags.toArray,argTypes:=at_ }) (hi:GInv σ G) (ha:AllEq (iE G gs ts)) (hk:StackOk gs) (hx:p=bg (kw σ G ts gs) x) (hp:pargs=ags.map (bg (kw σ G ts gs))) (hc:gs.headD true=true→PFI p name pargs r):POpG (gs.headD true) o σ r:=fun κ σ' ρ' KK g hs h=>by
 refine ⟨fun hct=>?_,fun hcf=>h undef κ (.refl _) fun h=>by rw [hcf] at h;cases h⟩
 have hs':=mK hs hi ha hk hct
 obtain ⟨t,q,f,e1,hm,hf⟩:=hc hct
 have hv:=hs'.ev x
 rw [← hx,e1] at hv
 generalize he:ev σ' x=w at hv
 cases hv with
 | ifc hv=>exact uF ho he hm (hf κ _ g (.cons hv (by rw [hp];exact gm hs' ags))) fun v κ' hk hv=>⟨rfl,h v κ' hk fun _=>hv⟩
theorem wA {o:Oper} {σ:PEnv} {G:List (Nat×GE)} {ρ:List PRes} {gs:List Bool} {k:Nat} {p:PV} {u:Bool} {L R:List Eqn} (hi:GInv σ G) (hk:StackOk gs) (h:pr σ G ρ gs k o.op=some (p,u,L,R)) (he:L=R):POpQ (gs.headD true) o σ ρ p:=by
 unfold pr at h
 split at h
 ·rename_i p' hq
  simp only [da,Prod.mk.injEq] at h;obtain ⟨rfl,_,rfl,rfl⟩:=h
  exact nv (fun _=>qx_ok hq (fun _ _ e=>by cases e)) hi (gLR he) hk
 ·rename_i p' b b' hq
  simp only [da,Prod.mk.injEq] at h;obtain ⟨rfl,_,rfl,rfl⟩:=h
  obtain ⟨h1,h2⟩:=tm he yh
  simp only [List.cons.injEq,Eqn.n.injEq,and_true] at h2
  exact nv (fun _=>qx_ok hq (fun _ _ e=>by simp only [da,Prod.mk.injEq] at e;rw [← e.1,← e.2];exact h2)) hi (gLR h1) hk
 cases h
theorem yk {o:Oper} {σ:PEnv} {G:List (Nat×GE)} {gs:List Bool} {cal:Operand} {ags:List Operand} {ts:Array Nat} {f:Fct} {p:PV} {u:Bool} {L R:List Eqn} (ho:o.op=.call ⟨.value cal,⟨ags⟩,ts⟩) (hi:GInv σ G) (hk:StackOk gs) (h:yi σ G gs (.call ⟨.value cal,⟨ags⟩,ts⟩) cal ags f=some (p,u,L,R)) (he:L=R) (hf:f.ok):POpG (gs.headD true) o σ p:=by
 unfold yi at h
 split at h
 ·split at h
  ·simp only [da,Prod.mk.injEq] at h;obtain ⟨rfl,_,rfl,rfl⟩:=h
   obtain ⟨h1,h2⟩:=tm he yh
   simp only [List.cons.injEq,Eqn.n.injEq,Eqn.b.injEq,Eqn.l.injEq,and_true] at h2
   obtain ⟨h3,h4,h5⟩:=h2
   subst h4
   exact popg_cl ho hi (gLR h1) hk h5 (fun hc=>hf (by rw [h3];exact hc))
  cases h
 ·simp only [da,Prod.mk.injEq] at h;obtain ⟨rfl,_,rfl,rfl⟩:=h
  obtain ⟨h1,h2⟩:=tm he yh
  simp only [List.cons.injEq,Eqn.p.injEq,Eqn.b.injEq,Eqn.l.injEq,and_true] at h2
  obtain ⟨h3,h4,h5⟩:=h2
  exact popg_cv ho hi (gLR h1) hk h4 h5 (fun hc=>hf (by rw [h3];exact hc))
 cases h
theorem invx_ok {o:Oper} {σ:PEnv} {G:List (Nat×GE)} {gs:List Bool} {x:Operand} {name:String} {ags:List Operand} {ts:Array Nat} {f:Fct} {p:PV} {u:Bool} {L R:List Eqn} (ho:o.op=.call ⟨.invoke x name,⟨ags⟩,ts⟩) (hi:GInv σ G) (hk:StackOk gs) (h:invx σ G gs (.call ⟨.invoke x name,⟨ags⟩,ts⟩) x name ags f=some (p,u,L,R)) (he:L=R) (hf:f.ok):POpG (gs.headD true) o σ p:=by
 unfold invx at h
 split at h
 ·simp only [da,Prod.mk.injEq] at h;obtain ⟨rfl,_,rfl,rfl⟩:=h
  obtain ⟨h1,h2⟩:=tm he yh
  simp only [List.cons.injEq,Eqn.p.injEq,Eqn.b.injEq,Eqn.l.injEq,Eqn.m.injEq,and_true] at h2
  obtain ⟨h3,h4,h5,h6⟩:=h2
  subst h5
  exact popg_ci ho hi (gLR h1) hk h4 h6 (fun hc=>hf (by rw [h3];exact hc))
 cases h
theorem yl {o:Oper} {σ:PEnv} {G:List (Nat×GE)} {ρ:List PRes} {gs:List Bool} {k:Nat} {fo:Option Fct} {p:PV} {u:Bool} {L R:List Eqn} (hi:GInv σ G) (hk:StackOk gs) (h:yj σ G ρ gs k fo o.op=some (p,u,L,R)) (he:L=R) (hf:∀ f,fo=some f→f.ok):(kQ o.op=false∧POpQ (gs.headD true) o σ ρ p)∨(kQ o.op=true∧POpG (gs.headD true) o σ p):=by
 unfold yj at h
 split at h
 ·rename_i f
  split at h
  ·rename_i cal ags ts ho
   exact .inr ⟨by rw [ho];rfl,yk ho hi hk h he (hf f rfl)⟩
  ·rename_i x name ags ts ho
   exact .inr ⟨by rw [ho];rfl,invx_ok ho hi hk h he (hf f rfl)⟩
  rename_i hnc hnc2
  split at h
  ·rename_i p' L' R' hq
   simp only [da,Prod.mk.injEq] at h;obtain ⟨rfl,_,rfl,rfl⟩:=h
   obtain ⟨h1,h2⟩:=tm he yh
   refine .inl ⟨?_,nv (fun hc=>yg hq h2 (hf f rfl) hc) hi (gLR h1) hk⟩
   unfold kQ
   split
   ·rename_i cal ags ts ho;exact absurd ho (hnc cal ags.toList ts)
   ·rename_i x name ags ts ho;exact absurd ho (hnc2 x name ags.toList ts)
   rfl
  cases h
 split at h
 ·rename_i cc a b ho
  split at h
  ·rename_i p' l' hp
   simp only [da,Prod.mk.injEq] at h;obtain ⟨rfl,_,rfl,rfl⟩:=h
   exact .inl ⟨by rw [ho];rfl,yd ho hi hk hp (gLR he)⟩
  cases h
 cases hc:kQ o.op
 ·exact .inl ⟨rfl,wA hi hk h he⟩
 exfalso
 unfold kQ at hc
 split at hc
 ·rename_i ho
  rw [ho] at h
  unfold pr at h
  simp only [qx] at h
  cases h
 ·rename_i ho
  rw [ho] at h
  unfold pr at h
  simp only [qx] at h
  cases h
 cases hc
def rJ (σ:PEnv) (G:List (Nat×GE)) (d:Nat) (gs:List Bool) (p:PV):PEnv×List (Nat×GE):=match gs with
 | []=>(eb σ d p,ya d G)
 | c::gs=>(eb σ d (pgv c p),(d,⟨c::gs,p⟩)::G)
theorem rK {d t:Nat} {e:GE}:∀ {G:List (Nat×GE)},gl t (ya d G)=some e→t≠d∧gl t G=some e
 | [],h=>by cases h
 | (k,e')::l,h=>by
  simp only [ya] at h
  cases hd:Nat.beq d k
  ·rw [hd] at h;simp only [eY,gl] at h ⊢
   cases ht:Nat.beq t k
   ·rw [ht] at h;exact rK h
   rw [ht] at h
   refine ⟨fun e=>?_,h⟩
   rw [Nat.eq_of_beq_eq_true ht] at e;rw [e] at hd;simp at hd
  rw [hd] at h;simp only [cZ] at h
  obtain ⟨h1,h2⟩:=rK h
  refine ⟨h1,?_⟩
  simp only [gl]
  have:Nat.beq t k=false:=by cases e:Nat.beq t k;rfl;exact absurd ((Nat.eq_of_beq_eq_true e).trans (Nat.eq_of_beq_eq_true hd).symm) h1
  rw [this];exact h2
theorem rL {σ:PEnv} {d t:Nat} {p:PV} (h:t≠d):eb σ d p t=σ t:=by
 unfold eb
 have:Nat.beq t d=false:=by cases e:Nat.beq t d;rfl;exact absurd (Nat.eq_of_beq_eq_true e) h
 rw [this];rfl
theorem pu {σ:PEnv} {G:List (Nat×GE)} {d:Nat} {gs:List Bool} {p:PV} (hi:GInv σ G) (hk:StackOk gs):GInv (rJ σ G d gs p).1 (rJ σ G d gs p).2:=by
 unfold rJ
 split
 ·intro t e h
  obtain ⟨h1,h2⟩:=rK h
  simp only [rL h1]
  exact hi t e h2
 rename_i c gs
 intro t e h
 simp only [gl] at h
 cases ht:Nat.beq t d
 ·rw [ht] at h
  have hne:t≠d:=fun e=>by rw [e] at ht;simp at ht
  simp only [rL hne]
  exact hi t e h
 rw [ht] at h
 simp only [cZ,da] at h;subst h
 have:=Nat.eq_of_beq_eq_true ht;subst this
 refine ⟨?_,hk,by simp⟩
 simp only [eb,Nat.beq_refl,cZ,List.headD_cons]
theorem px {σ:PEnv} {G:List (Nat×GE)} {d:Nat} {gs:List Bool} {p:PV}:(rJ σ G d gs p).1=eb σ d (pgv (gs.headD true) p):=by
 unfold rJ;split
 ·rw [List.headD_nil,jH]
 rfl
structure RunR where
 σ:PEnv
 L:List Eqn
 R:List Eqn
def vz (i:Nat):List (Nat×Fct)→Option Fct
 | (k,f)::_=>cond (Nat.beq k i) (some f) none
 | []=>none
def mL (n:Nat) (ops:Array Oper) (ρ:List PRes):List Oper→Nat→List Nat→List (Nat×Fct)→PEnv→List (Nat×GE)→Option RunR
 | [],_,_,_,σ,_=>some ⟨σ,[],[]⟩
 | o::l,i,H,F,σ,G=>match o.dst with
  | some d=>cond (Nat.blt d n) (match rG ops σ G o.guard with
   | some gs=>match yj σ G ρ gs (H.headD 0) (vz i F) o.op with
    | some (p,u,L,R)=>match mL n ops ρ l (i+1) (cond u H.tail H) (match vz i F with | some _=>F.tail | none=>F) (rJ σ G d gs p).1 (rJ σ G d gs p).2 with
     | some r=>cond (Nat.beq L.length R.length) (some ⟨r.σ,L++r.L,R++r.R⟩) none
     | none=>none
    | none=>none
   | none=>none) none
  | none=>none
theorem ym {i:Nat} {F:List (Nat×Fct)} (h:FOk F):∀ f,vz i F=some f→f.ok:=fun f hf=>by
 cases F with
 | nil=>cases hf
 | cons a l =>
  obtain ⟨k,g⟩:=a
  simp only [vz] at hf
  cases hk:Nat.beq k i
  ·rw [hk] at hf;cases hf
  rw [hk] at hf;simp only [cZ,da] at hf;subst hf;exact h.1
theorem yn {F:List (Nat×Fct)} (h:FOk F) (b:Option Fct):FOk (match b with | some _=>F.tail | none=>F):=by
 cases b with
 | none=>exact h
 | some f=>cases F with
  | nil=>exact h
  | cons a l=>exact h.2
theorem py {n:Nat} {ops:Array Oper} {ρ:List PRes} {o:Oper} {l:List Oper} {i:Nat} {H:List Nat} {F:List (Nat×Fct)} {σ:PEnv} {G:List (Nat×GE)} {r:RunR} (h:mL n ops ρ (o::l) i H F σ G=some r) (he:r.L=r.R) (hF:FOk F) (hi:GInv σ G) :
    ∃ d gs p H' F' r',o.dst=some d∧Nat.blt d n=true∧PGuardIs ops σ o (gs.headD true)∧StackOk gs∧((kQ o.op=false∧POpQ (gs.headD true) o σ ρ p)∨(kQ o.op=true∧POpG (gs.headD true) o σ p))∧mL n ops ρ l (i+1) H' F' (rJ σ G d gs p).1 (rJ σ G d gs p).2=some r'∧r'.σ=r.σ∧r'.L=r'.R∧FOk F':=by
  simp only [mL] at h
  split at h
  · rename_i d hd
    cases hlt:Nat.blt d n
    · rw [hlt] at h;cases h
    rw [hlt] at h;simp only [cZ] at h
    split at h
    · rename_i gs hgs
      split at h
      · rename_i p u L R hst
        split at h
        · rename_i r' hr
          cases hlen:Nat.beq L.length R.length
          · rw [hlen] at h;cases h
          rw [hlen] at h;simp only [cZ,da] at h;subst h
          obtain ⟨h1,h2⟩:=List.append_inj he (Nat.eq_of_beq_eq_true hlen)
          obtain ⟨hg,hk⟩:=ww hi hgs
          exact ⟨d,gs,p,_,_,r',hd,hlt,hg,hk,yl hi hk hst h1 (ym hF),hr,rfl,h2,yn hF _⟩
        cases h
      cases h
    cases h
  cases h
theorem yo {n:Nat} {ops:Array Oper} {o:Oper} {rest:List Oper} {K:PPost} {σ:PEnv} {ρ:List PRes} {d:Nat} {c:Bool} {r:PV} (hg:PGuardIs ops σ o c) (hd:o.dst=some d) (hlt:Nat.blt d n=true) (h:POpG c o σ r) (hw:PWL n ops rest K (eb σ d (pgv c r)) ρ):PWL n ops (o::rest) K σ ρ:=fun β κ σ' ρ' g hs hr =>
 wl_g (hg κ σ' hs) hd hlt (h κ σ' ρ' _ g hs fun v κ' hk hv=>hw β κ' _ _ (g.mono hk) ((hs.mono hk).upd (sP hv)) (hr.mono hk))
theorem yp {n:Nat} {ops:Array Oper} {o:Oper} {lo:List (Nat×Oper)} {K:PPost} {σ:PEnv} {ρd ρs:List PRes} {d:Nat} {c:Bool} {r:PV} (hg:PGuardIs ops σ o c) (hd:o.dst=some d) (hlt:Nat.blt d n=true) (h:POpG c o σ r) (hw:PWD n ops K lo (eb σ d (pgv c r)) ρd ρs):PWD n ops K ((1,o)::lo) σ ρd ρs:=fun β κ σ' rd rs g hs h1 h2 =>
 wd_g (hg κ σ' hs) hd hlt fun κ1 hk=>h κ1 σ' _ _ (g.mono hk) (hs.mono hk) fun v κ' hk' hv=>hw β κ' _ rd rs ((g.mono hk).mono hk') (((hs.mono hk).mono hk').upd (sP hv)) ((h1.mono hk).mono hk') ((h2.mono hk).mono hk')
theorem rM {n:Nat} {ops:Array Oper} {rest:List Oper} {K:PPost} {ρ:List PRes}:∀ {l:List Oper} {i:Nat} {H:List Nat} {F:List (Nat×Fct)} {σ:PEnv} {G:List (Nat×GE)} {r:RunR},mL n ops ρ l i H F σ G=some r→r.L=r.R→FOk F→GInv σ G→PWL n ops rest K r.σ ρ→PWL n ops (l++rest) K σ ρ
 | [],i,H,F,σ,G,r,h,_,_,_,hw=>by simp only [mL,da] at h;subst h;exact hw
 | o::l,i,H,F,σ,G,r,h,he,hF,hi,hw=>by
  obtain ⟨d,gs,p,H',F',r',h1,h2,h3,h4,h5,h6,h7,h8,h9⟩:=py h he hF hi
  have hrec:=rM (rest:=rest) (K:=K) h6 h8 h9 (pu hi h4) (by rw [h7];exact hw)
  rw [px] at hrec
  rcases h5 with ⟨_,hq⟩ | ⟨_,hq⟩
  ·exact pwl_qg h3 h1 h2 hq hrec
  exact yo h3 h1 h2 hq hrec
def yq (ks D:List Nat):List Oper→Bool
 | []=>true
 | o::l=>(match o.dst with | some d=>yb d ks||yb d D | none=>true)&&yq ks D l
theorem qF {n:Nat} {ops:Array Oper} {ρ:List PRes} {ks D:List Nat}:∀ {l:List Oper} {i:Nat} {H:List Nat} {F:List (Nat×Fct)} {σ:PEnv} {G:List (Nat×GE)} {r:RunR},mL n ops ρ l i H F σ G=some r→r.L=r.R→FOk F→GInv σ G→yq ks D l=true→∀ t,t ∉ ks→t ∉ D→r.σ t=σ t
 | [],i,H,F,σ,G,r,h,_,_,_,_,t,_,_=>by simp only [mL,da] at h;subst h;rfl
 | o::l,i,H,F,σ,G,r,h,he,hF,hi,hd,t,g1,g2=>by
  obtain ⟨d,gs,p,H',F',r',h1,h2,h3,h4,h5,h6,h7,h8,h9⟩:=py h he hF hi
  simp only [yq,Bool.and_eq_true] at hd
  rw [h1] at hd
  simp only [Bool.or_eq_true,oD] at hd
  have hne:t≠d:=fun e=>by subst e;rcases hd.1 with h | h;exact g1 h;exact g2 h
  rw [← h7,qF h6 h8 h9 (pu hi h4) hd.2 t g1 g2,px]
  exact rL hne
abbrev RunO:=Option (List PV×List Eqn)
def kR (n:Nat) (ops:Array Oper) (ρ:List PRes) (l:List Oper) (H:List Nat) (F:List (Nat×Fct)) (σ:PEnv) (ks D:List Nat):RunO :=
 match mL n ops ρ l 0 H F σ [] with
 | some r=>cond (yq ks D l) (some (ks.map r.σ,r.L)) none
 | none=>none
def ji (n:Nat) (ops:Array Oper) (ρ:List PRes) (l:List Oper) (H:List Nat) (F:List (Nat×Fct)) (σ:PEnv) (vs:List PV):RunO :=
 match mL n ops ρ l 0 H F σ [] with
 | some r=>some (vs,r.R)
 | none=>some ([],[])
def pdel (σ:PEnv) (D:List Nat):PEnv:=fun t=>cond (yb t D) .any (σ t)
def jy (σ:PEnv) (D:List Nat) (X:List (Nat×PV)):PEnv:=aF (pdel σ D) X
def tn (t:Nat):List (Nat×PV)→Option PV
 | []=>none
 | (d,v)::l=>cond (Nat.beq t d) (some v) (tn t l)
theorem pz {σ:PEnv} {t:Nat}:∀ {X:List (Nat×PV)},aF σ X t=(tn t X).getD (σ t)
 | []=>rfl
 | (d,v)::l=>by
  simp only [aF,eb,tn]
  cases Nat.beq t d
  ·exact pz (X:=l)
  rfl
theorem qG {t:Nat} {v:PV} {σ:PEnv}:∀ {X:List (Nat×PV)},tn t X=some v→(X.map (·.1)).map σ=X.map (·.2)→σ t=v
 | (d,w)::l,h,e=>by
  simp only [List.map_cons,List.cons.injEq] at e
  simp only [tn] at h
  cases hb:Nat.beq t d
  ·rw [hb] at h;exact qG h e.2
  rw [hb] at h;simp only [cZ,da] at h
  rw [Nat.eq_of_beq_eq_true hb,e.1,h]
theorem qH {t:Nat}:∀ {X:List (Nat×PV)},tn t X=none→t ∉ X.map (·.1)
 | [],_=>by simp
 | (d,v)::l,h=>by
  simp only [tn] at h
  cases hb:Nat.beq t d
  ·rw [hb] at h
   have:t≠d:=fun e=>by rw [e] at hb;simp at hb
   simp only [List.map_cons,List.mem_cons,not_or]
   exact ⟨this,qH h⟩
  rw [hb] at h;cases h
def PWeak (σ σ1:PEnv):Prop:=∀ t,σ1 t=σ t∨σ1 t=.any
theorem Sim.weak {κ:Kr} {σ σ1:PEnv} {σ':Env} (h:Sim κ σ σ') (hw:PWeak σ σ1):Sim κ σ1 σ':=fun t=>by
 rcases hw t with e | e
 ·rw [e];exact h t
 rw [e];exact .any
theorem vA {σ:PEnv}:GInv σ []:=fun t e h=>by cases h
theorem rN {n:Nat} {ops:Array Oper} {ρ:List PRes} {l:List Oper} {H D:List Nat} {F:List (Nat×Fct)} {σ:PEnv} {X:List (Nat×PV)} (hF:FOk F) (h:kR n ops ρ l H F σ (X.map (·.1)) D=ji n ops ρ l H F σ (X.map (·.2))):∃ r,mL n ops ρ l 0 H F σ []=some r∧r.L=r.R∧PWeak r.σ (jy σ D X):=by
 unfold kR ji at h
 cases hr:mL n ops ρ l 0 H F σ [] with
 | none=>rw [hr] at h;cases h
 | some r =>
  rw [hr] at h
  simp only at h
  cases hd:yq (X.map (·.1)) D l
  ·rw [hd] at h;cases h
  rw [hd] at h
  simp only [cZ,da,Prod.mk.injEq] at h
  obtain ⟨h1,h2⟩:=h
  refine ⟨r,rfl,h2,fun t=>?_⟩
  unfold jy
  rw [pz]
  cases hl:tn t X with
  | some v=>exact .inl (by rw [Option.getD_some,qG hl h1])
  | none =>
   rw [Option.getD_none]
   unfold pdel
   cases hi:yb t D
   ·have h3':t ∉ D:=fun hm=>by rw [oD.2 hm] at hi;cases hi
    exact .inl (by rw [eY,qF hr h2 hF vA hd t (qH hl) h3'])
   exact .inr rfl
section
variable {n:Nat} {ops:Array Oper} {l:List Oper} {K:PPost} {KC:Exit→PPost} {σ:PEnv} {ρ:List PRes} {id:Nat} {F:List (Nat×Fct)}
theorem tp {σ1:PEnv} (hw:PWeak σ σ1) (h:PWL n ops l K σ1 ρ):PWL n ops l K σ ρ:=fun β κ σ' ρ' g hs hr=>h β κ σ' ρ' g (hs.weak hw) hr
theorem bd (k:Nat) (H D:List Nat) (X:List (Nat×PV)) (hF:FOk F) (h:kR n ops ρ (l.take k) H F σ (X.map (·.1)) D=ji n ops ρ (l.take k) H F σ (X.map (·.2))) (hw:PWL n ops (l.drop k) K (jy σ D X) ρ):PWL n ops l K σ ρ:=by
 obtain ⟨r,h1,h2,h3⟩:=rN hF h
 have:=rM h1 h2 hF vA (tp h3 hw)
 rwa [List.take_append_drop] at this
theorem gX (H D:List Nat) (X:List (Nat×PV)) (hF:FOk F) (h:kR n ops ρ l H F σ (X.map (·.1)) D=ji n ops ρ l H F σ (X.map (·.2))) (hw:K (jy σ D X) ρ):PWL n ops l K σ ρ:=by
 obtain ⟨r,h1,h2,h3⟩:=rN hF h
 have:=rM (rest:=[]) h1 h2 hF vA (tp h3 (az (ops:=ops) hw))
 rwa [List.append_nil] at this
theorem aD (H D:List Nat) (X:List (Nat×PV)) (hF:FOk F) (h:kR n l.toArray ρ l H F σ (X.map (·.1)) D=ji n l.toArray ρ l H F σ (X.map (·.2))) (hw:KC .normal (jy σ D X) ρ):PWC n (.region id l.toArray false) KC σ ρ:=ae (gX H D X hF h hw)
end
def tq:List (Nat×Oper)→Bool
 | []=>true
 | (k,o)::l=>cond (kQ o.op) (Nat.beq k 1) (Nat.beq k 0)&&tq l
theorem tr {n:Nat} {ops:Array Oper} {rest:List (Nat×Oper)} {K:PPost} {ρd ρ:List PRes}:∀ {l:List (Nat×Oper)} {i:Nat} {H:List Nat} {F:List (Nat×Fct)} {σ:PEnv} {G:List (Nat×GE)} {r:RunR},tq l=true→mL n ops ρ (l.map (·.2)) i H F σ G=some r→r.L=r.R→FOk F→GInv σ G→PWD n ops K rest r.σ ρd ρ→PWD n ops K (l++rest) σ ρd ρ
 | [],i,H,F,σ,G,r,_,h,_,_,_,hw=>by simp only [List.map_nil,mL,da] at h;subst h;exact hw
 | (k,o)::l,i,H,F,σ,G,r,ht,h,he,hF,hi,hw=>by
  simp only [tq,Bool.and_eq_true] at ht
  obtain ⟨d,gs,p,H',F',r',h1,h2,h3,h4,h5,h6,h7,h8,h9⟩:=py h he hF hi
  have hrec:=tr (rest:=rest) (K:=K) (ρd:=ρd) ht.2 h6 h8 h9 (pu hi h4) (by rw [h7];exact hw)
  rw [px] at hrec
  rcases h5 with ⟨hc,hq⟩ | ⟨hc,hq⟩
  ·rw [hc] at ht;have:=Nat.eq_of_beq_eq_true ht.1;subst this
   exact bX h3 h1 h2 hq hrec
  rw [hc] at ht;have:=Nat.eq_of_beq_eq_true ht.1;subst this
  exact yp h3 h1 h2 hq hrec
section
variable {n:Nat} {ops:Array Oper} {l:List (Nat×Oper)} {K:PPost} {σ:PEnv} {ρd ρs:List PRes} {F:List (Nat×Fct)}
theorem yr {σ1:PEnv} (hw:PWeak σ σ1) (h:PWD n ops K l σ1 ρd ρs):PWD n ops K l σ ρd ρs:=fun β κ σ' rd rs g hs h1 h2=>h β κ σ' rd rs g (hs.weak hw) h1 h2
def qI (n:Nat) (ops:Array Oper) (ρ:List PRes) (l:List (Nat×Oper)) (H:List Nat) (F:List (Nat×Fct)) (σ:PEnv) (ks D:List Nat):RunO:=cond (tq l) (kR n ops ρ (l.map (·.2)) H F σ ks D) none
theorem bV (k:Nat) (H D:List Nat) (X:List (Nat×PV)) (hF:FOk F) (h:qI n ops ρs (l.take k) H F σ (X.map (·.1)) D=ji n ops ρs ((l.take k).map (·.2)) H F σ (X.map (·.2))) (hw:PWD n ops K (l.drop k) (jy σ D X) ρd ρs):PWD n ops K l σ ρd ρs:=by
 unfold qI at h
 cases ht:tq (l.take k)
 ·rw [ht] at h;unfold ji at h;split at h <;> cases h
 rw [ht] at h
 obtain ⟨r,h1,h2,h3⟩:=rN hF h
 have:=tr ht h1 h2 hF vA (yr h3 hw)
 rwa [List.take_append_drop] at this
end
def Found (v:Value) (es:List MapEntry) (r:Option (Nat×Value)):Prop:=(r=none∧∀ e∈es,e.key≠v)∨∃ i e,r=some (i,e.val)∧es[i]?=some e∧e.key=v
structure KeyLaw (kt:Nat) (P:Value→Prop):Prop where
 chk:∀ v,P v→∀ e w,(Instr.checkKey e 10000 kt v).run Tryz.prog w=.ok () w
 find:∀ v es,P v→(∀ e∈es,P e.key)→∀ w,∃ r,(Instr.findKey kt v es).run Tryz.prog w=.ok r w∧Found v es r
 same:∀ v,P v→Instr.sameBits 10000 v v=true
def PairKey (v:Value):Prop:=∃ a b,v=.agg #[.int .i64 a,.int .i64 b]
theorem qm {kt:Nat} {P:Value→Prop} (he:∀ v u,P v→P u→∀ w,∃ b,(Op.equal kt v u).run Tryz.prog w=.ok b w∧(b=true↔v=u)) {v:Value} (hv:P v):∀ (es:List MapEntry) (i:Nat),(∀ e∈es,P e.key)→∀ w,∃ r,(Instr.findAsking kt v es i).run Tryz.prog w=.ok r w∧((r=none∧∀ e∈es,e.key≠v)∨∃ j e,r=some (i+j,e.val)∧es[j]?=some e∧e.key=v):=by
 intro es
 induction es with
 | nil=>intro i _ w;exact ⟨none,by simp [Instr.findAsking],.inl ⟨rfl,fun e h=>by cases h⟩⟩
 | cons e es ih =>
  intro i h w
  obtain ⟨b,h1,h2⟩:=he v e.key hv (h e (by simp)) w
  unfold Instr.findAsking
  simp only [Sem.run_bind,h1,Result.andThen_ok]
  cases b with
  | true =>
   refine ⟨some (i,e.val),by simp,.inr ⟨0,e,by simp,rfl,(h2.1 rfl).symm⟩⟩
  | false =>
   obtain ⟨r,g1,g2⟩:=ih (i+1) (fun x hx=>h x (by simp [hx])) w
   refine ⟨r,by simpa using g1,?_⟩
   rcases g2 with ⟨g2,g3⟩ | ⟨j,x,g2,g3,g4⟩
   ·left
    refine ⟨g2,fun x hx=>?_⟩
    rcases List.mem_cons.1 hx with rfl | hx
    ·intro hh;have:=h2.2 hh.symm;cases this
    exact g3 x hx
   right;exact ⟨j+1,x,by rw [g2];congr 2;omega,g3,g4⟩
theorem yt {kt:Nat} (f1 f2:Field) (hu:dv kt=some (.struct #[f1,f2])) (h1:Tryz.prog.underlying kt=some (.struct (Tryz.prog.fieldsOf kt))) (h2:Tryz.prog.stoodInHeld kt=false) (n1:f1.name ≠ "_") (n2:f2.name ≠ "_") (o1:f1.offset=0) (o2:f2.offset=1) (t1:dv f1.type=some (.int .i64)) (t2:dv f2.type=some (.int .i64)):KeyLaw kt PairKey:=by
 have hf:Tryz.prog.fieldsOf kt=#[f1,f2]:=by
  have:=(br hu).symm.trans h1
  injection this with this;injection this with this;exact this.symm
 have pt:∀ (cs:Array Value) (f:Field) (v:Value) (w:World),dv f.type=some (.int .i64)→cs[f.offset]?=some v→(part f.type cs f.offset).run Tryz.prog w=.ok v w:=fun cs f v w ht hv=>by
  simp [part,gF ht,ij,hv]
 have ck:∀ e n t a w,dv t=some (.int .i64)→(Instr.checkKey e (n+1) t (.int .i64 a)).run Tryz.prog w=.ok () w:=fun e n t a w ht=>by simp [Instr.checkKey,run_underlying (br ht)]
 have eq:∀ v u,PairKey v→PairKey u→∀ w,∃ b,(Op.equal kt v u).run Tryz.prog w=.ok b w∧(b=true↔v=u):=by
  rintro v u ⟨a,b,rfl⟩ ⟨c,d,rfl⟩ w
  refine ⟨(a == c)&&(b == d),?_,?_⟩
  ·show (Op.equalIn (9999+1) kt _ _).run Tryz.prog w=_
   rw [run_equalIn_struct w 9999 kt _ _ h1 h2,hf]
   have e1:=pt #[.int .i64 a,.int .i64 b] f1 (.int .i64 a) w t1 (by rw [o1];rfl)
   have e2:=pt #[.int .i64 c,.int .i64 d] f1 (.int .i64 c) w t1 (by rw [o1];rfl)
   have e3:=pt #[.int .i64 a,.int .i64 b] f2 (.int .i64 b) w t2 (by rw [o2];rfl)
   have e4:=pt #[.int .i64 c,.int .i64 d] f2 (.int .i64 d) w t2 (by rw [o2];rfl)
   have q1:(Op.equalIn 9999 f1.type (.int .i64 a) (.int .i64 c)).run Tryz.prog w=.ok (a == c) w:=run_equalIn_int w 9998 f1.type .i64 .i64 a c (br t1)
   have q2:(Op.equalIn 9999 f2.type (.int .i64 b) (.int .i64 d)).run Tryz.prog w=.ok (b == d) w:=run_equalIn_int w 9998 f2.type .i64 .i64 b d (br t2)
   show (Op.eqFields 9999 _ _ [f1,f2]).run Tryz.prog w=_
   simp only [Op.eqFields,if_pos n1,if_pos n2,Sem.run_bind,e1,e2,Result.andThen_ok,q1]
   cases (a == c)
   ·simp
   simp only [Bool.not_true,Bool.false_eq_true,if_false,Sem.run_bind,e3,e4,Result.andThen_ok,q2,if_true]
   cases (b == d) <;> simp
  simp only [Bool.and_eq_true,beq_iff_eq]
  constructor
  ·rintro ⟨rfl,rfl⟩;rfl
  intro h;injection h with h;simp at h;exact h
 refine ⟨?_,?_,?_⟩
 ·rintro v ⟨a,b,rfl⟩ e w
  have e1:=pt #[.int .i64 a,.int .i64 b] f1 (.int .i64 a) w t1 (by rw [o1];rfl)
  have e3:=pt #[.int .i64 a,.int .i64 b] f2 (.int .i64 b) w t2 (by rw [o2];rfl)
  have:∀ n,(Instr.checkKey e (n+1+1) kt (.agg #[.int .i64 a,.int .i64 b])).run Tryz.prog w=.ok () w:=fun n=>by
   rw [Instr.checkKey]
   simp only [Sem.run_bind,run_underlying (br hu),Result.andThen_ok]
   rw [← Array.forIn_toList]
   simp [List.forIn_cons,n1,n2,e1,e3,ck e n f1.type a w t1,ck e n f2.type b w t2]
  exact this 9998
 ·intro v es hv hes w
  cases es with
  | nil =>
   refine ⟨none,?_,.inl ⟨rfl,fun e h=>by cases h⟩⟩
   simp [Instr.findKey,Instr.findNow,run_underlying (br hu)]
  | cons e es =>
   obtain ⟨r,g1,g2⟩:=qm eq hv (e::es) 0 hes w
   refine ⟨r,?_,?_⟩
   ·have:Instr.findNow (.struct #[f1,f2]) v (e::es) 0=none:=by
     obtain ⟨a,b,rfl⟩:=hv
     simp [Instr.findNow,Instr.sameNow]
    simp [Instr.findKey,run_underlying (br hu),this,g1]
   ·rcases g2 with g2 | ⟨j,x,g2,g3⟩
    ·exact .inl g2
    exact .inr ⟨j,x,by rw [g2,Nat.zero_add],g3⟩
 rintro v ⟨a,b,rfl⟩
 have:∀ n,Instr.sameBits (n+1+1) (.agg #[.int .i64 a,.int .i64 b]) (.agg #[.int .i64 a,.int .i64 b])=true:=fun n=>by simp [Instr.sameBits]
 exact this 9998
section
variable {K V:Type} [DecidableEq K]
def cr:List (K×V)→K→Option V
 | [],_=>none
 | (a,v)::r,k=>if a=k then some v else cr r k
def mM:List (K×V)→K→V→List (K×V)
 | [],k,v=>[(k,v)]
 | (a,w)::r,k,v=>if a=k then (k,v)::r else (a,w)::mM r k v
def lx:List (K×V)→K→Nat
 | [],_=>0
 | (a,_)::r,k=>if a=k then 0 else lx r k+1
def jo (xs:List (K×V)) (k:K) (z:V):List (K×V):=if (cr xs k).isSome then xs else xs++[(k,z)]
def MND (xs:List (K×V)):Prop:=xs.Pairwise fun a b=>a.1≠b.1
theorem nx {xs:List (K×V)} {k:K} (h:∀ p∈xs,p.1≠k):cr xs k=none:=by
 induction xs with
 | nil=>rfl
 | cons p r ih =>
  obtain ⟨a,v⟩:=p
  unfold cr
  rw [if_neg (h (a,v) (by simp)),ih (fun p hp=>h p (by simp [hp]))]
theorem qJ {xs:List (K×V)} {k:K} (h:∀ p∈xs,p.1≠k):lx xs k=xs.length:=by
 induction xs with
 | nil=>rfl
 | cons p r ih =>
  obtain ⟨a,v⟩:=p
  unfold lx
  rw [if_neg (h (a,v) (by simp)),ih (fun p hp=>h p (by simp [hp]))];rfl
theorem wB {xs:List (K×V)} {k:K} (h:∀ p∈xs,p.1≠k) (v:V):mM xs k v=xs++[(k,v)]:=by
 induction xs with
 | nil=>rfl
 | cons p r ih =>
  obtain ⟨a,w⟩:=p
  unfold mM
  rw [if_neg (h (a,w) (by simp)),ih (fun p hp=>h p (by simp [hp]))];rfl
theorem rO {xs:List (K×V)} (nd:MND xs) {k:K} {v:V}:∀ {i:Nat},xs[i]?=some (k,v)→cr xs k=some v∧lx xs k=i∧∀ u,mM xs k u=xs.set i (k,u):=by
 induction xs with
 | nil=>intro i h;simp at h
 | cons p r ih =>
  obtain ⟨a,w⟩:=p
  intro i h
  unfold MND at nd
  rw [List.pairwise_cons] at nd
  cases i with
  | zero =>
   simp only [List.getElem?_cons_zero,da,Prod.mk.injEq] at h
   obtain ⟨rfl,rfl⟩:=h
   unfold cr lx mM
   simp
  | succ i =>
   simp only [List.getElem?_cons_succ] at h
   have hne:a≠k:=nd.1 (k,v) (List.mem_of_getElem? h)
   obtain ⟨h1,h2,h3⟩:=ih nd.2 h
   unfold cr lx mM
   rw [if_neg hne,if_neg hne]
   refine ⟨h1,by rw [h2],fun u=>?_⟩
   rw [if_neg hne,h3];rfl
theorem uM (xs:List (K×V)) (k:K):(∀ p∈xs,p.1≠k)∨∃ (i:Nat) (v:V),xs[i]?=some (k,v):=by
 induction xs with
 | nil=>left;intro p h;cases h
 | cons p r ih =>
  obtain ⟨a,w⟩:=p
  by_cases h:a=k
  ·right;exact ⟨0,w,by simp [h]⟩
  rcases ih with ih | ⟨i,v,ih⟩
  ·left
   intro p hp
   rcases List.mem_cons.1 hp with rfl | hp
   ·exact h
   exact ih p hp
  right;exact ⟨i+1,v,by simpa using ih⟩
theorem yu {xs:List (K×V)} (nd:MND xs) (k:K) (z:V):MND (jo xs k z)∧(jo xs k z)[lx xs k]?=some (k,(cr xs k).getD z)∧∀ u,(jo xs k z).set (lx xs k) (k,u)=mM xs k u:=by
 unfold jo
 rcases uM xs k with h | ⟨i,v,h⟩
 ·rw [nx h,qJ h]
  simp only [Option.isSome_none,Bool.false_eq_true,if_false,Option.getD_none]
  refine ⟨?_,by simp,fun u=>?_⟩
  ·unfold MND
   rw [List.pairwise_append]
   exact ⟨nd,by simp,fun a ha b hb=>by simp at hb;subst hb;exact h a ha⟩
  rw [wB h,List.set_append];simp
 obtain ⟨h1,h2,h3⟩:=rO nd h
 rw [h1,h2]
 simp only [Option.isSome_some,if_true,Option.getD_some]
 exact ⟨nd,h,fun u=>(h3 u).symm⟩
def ew (ek:K→Value) (ev:V→PV) (xs:List (K×V)):List (Value×PV):=xs.map fun p=>(ek p.1,ev p.2)
structure KEnc (kt:Nat) (ek:K→Value):Prop where
 law:∃ P,KeyLaw kt P∧∀ a,P (ek a)
 inj:∀ a b,ek a=ek b→a=b
end
section
variable {κ:Kr}
theorem KVs.get:∀ {kvs:List (Value×PV)} {es:List MapEntry} {i:Nat} {e:MapEntry},KVs κ kvs es→es[i]?=some e→∃ p,kvs[i]?=some (e.key,p)∧Rp κ p e.val
 | _,_,0,_,.cons h _,g=>by simp only [List.getElem?_cons_zero,da] at g;subst g;exact ⟨_,rfl,h⟩
 | _,_,i+1,_,.cons _ hs,g=>by simp only [List.getElem?_cons_succ] at g ⊢;exact hs.get g
theorem KVs.get':∀ {kvs:List (Value×PV)} {es:List MapEntry} {i:Nat} {k:Value} {p:PV},KVs κ kvs es→kvs[i]?=some (k,p)→∃ e,es[i]?=some e∧e.key=k∧Rp κ p e.val
 | _,_,0,_,_,.cons h _,g=>by simp only [List.getElem?_cons_zero,da,Prod.mk.injEq] at g;obtain ⟨rfl,rfl⟩:=g;exact ⟨_,rfl,rfl,h⟩
 | _,_,i+1,_,_,.cons _ hs,g=>by simp only [List.getElem?_cons_succ] at g ⊢;exact hs.get' g
theorem KVs.keys:∀ {kvs:List (Value×PV)} {es:List MapEntry},KVs κ kvs es→kvs.map (·.1)=es.map (·.key)
 | _,_,.nil=>rfl
 | _,_,.cons _ hs=>by simp [hs.keys]
theorem KVs.app:∀ {ps qs:List (Value×PV)} {es fs:List MapEntry},KVs κ ps es→KVs κ qs fs→KVs κ (ps++qs) (es++fs)
 | _,_,_,_,.nil,h=>h
 | _,_,_,_,.cons h hs,g=>.cons h (hs.app g)
theorem KVs.set:∀ {kvs:List (Value×PV)} {es:List MapEntry} {i:Nat} {e e':MapEntry} {p:PV},KVs κ kvs es→es[i]?=some e→e'.key=e.key→Rp κ p e'.val→KVs κ (kvs.set i (e.key,p)) (es.set i e')
 | _,_,0,_,_,_,.cons h hs,g,hk,hp=>by simp only [List.getElem?_cons_zero,da] at g;subst g;rw [← hk];exact .cons hp hs
 | _,_,i+1,_,_,_,.cons h hs,g,hk,hp=>by simp only [List.getElem?_cons_succ] at g;exact .cons h (hs.set g hk hp)
theorem uN {α:Type} {R:α→α→Prop}:∀ {l:List α} {i:Nat} {a a':α},l.Pairwise R→l[i]?=some a→(∀ x,R x a→R x a')→(∀ x,R a x→R a' x)→(l.set i a').Pairwise R
 | _::l,0,a,a',h,g,h1,h2=>by
  simp only [List.getElem?_cons_zero,da] at g;subst g
  rw [List.pairwise_cons] at h
  exact List.pairwise_cons.2 ⟨fun x hx=>h2 x (h.1 x hx),h.2⟩
 | b::l,i+1,a,a',h,g,h1,h2=>by
  simp only [List.getElem?_cons_succ] at g
  rw [List.pairwise_cons] at h
  refine List.pairwise_cons.2 ⟨fun x hx=>?_,uN h.2 g h1 h2⟩
  rcases List.mem_or_eq_of_mem_set hx with hx | rfl
  ·exact h.1 x hx
  exact h1 b (h.1 a (List.mem_of_getElem? g))
theorem MapWf.set {es:List MapEntry} {clock i:Nat} {e e':MapEntry} (h:MapWf es clock) (g:es[i]?=some e) (hk:e'.key=e.key) (hb:e'.born=e.born):MapWf (es.set i e') clock where
 nd:=uN h.nd g (fun x hx=>by rw [hk];exact hx) (fun x hx=>by rw [hk];exact hx)
 bn:=uN h.bn g (fun x hx=>by rw [hb];exact hx) (fun x hx=>by rw [hb];exact hx)
 lt:=fun x hx=>by
  rcases List.mem_or_eq_of_mem_set hx with hx | rfl
  ·exact h.lt x hx
  rw [hb];exact h.lt e (List.mem_of_getElem? g)
theorem MapWf.push {es:List MapEntry} {clock:Nat} (h:MapWf es clock) {k v:Value} (hk:∀ e∈es,e.key≠k):MapWf (es++[⟨k,v,clock⟩]) (clock+1) where
 nd:=List.pairwise_append.2 ⟨h.nd,by simp,fun a ha b hb=>by simp at hb;subst hb;exact hk a ha⟩
 bn:=List.pairwise_append.2 ⟨h.bn,by simp,fun a ha b hb=>by simp at hb;subst hb;have:=h.lt a ha;show a.born≠clock;omega⟩
 lt:=fun x hx=>by
  rcases List.mem_append.1 hx with hx | hx
  ·have:=h.lt x hx;omega
  simp at hx;subst hx;show clock<clock+1;omega
end
section
variable {K V:Type} {ek:K→Value} {ev:V→PV} {xs:List (K×V)} {κ:Kr} {es:List MapEntry} {clock kt:Nat}
theorem pA {i:Nat} {k':Value} {p:PV} (h:(ew ek ev xs)[i]?=some (k',p)):∃ k v,xs[i]?=some (k,v)∧k'=ek k∧p=ev v:=by
 unfold ew at h
 rw [List.getElem?_map] at h
 cases e:xs[i]? with
 | none=>rw [e] at h;cases h
 | some q=>rw [e] at h;simp only [Option.map_some,da,Prod.mk.injEq] at h;exact ⟨q.1,q.2,rfl,h.1.symm,h.2.symm⟩
theorem rP (h:KVs κ (ew ek ev xs) es) (hw:MapWf es clock):MND xs:=by
 have h1:(es.map (·.key)).Pairwise (· ≠ ·):=List.pairwise_map.2 hw.nd
 rw [← h.keys,ew,List.map_map,List.pairwise_map] at h1
 exact h1.imp fun hab e=>hab (by simp [e])
theorem uO {P:Value→Prop} (hP:∀ a,P (ek a)) (h:KVs κ (ew ek ev xs) es):∀ e∈es,P e.key:=by
 intro e he
 obtain ⟨i,hi,rfl⟩:=List.getElem_of_mem he
 obtain ⟨p,h1,_⟩:=h.get (List.getElem?_eq_getElem hi)
 obtain ⟨k,v,_,h2,_⟩:=pA h1
 rw [h2];exact hP k
theorem ny (hinj:∀ a b,ek a=ek b→a=b) (h:KVs κ (ew ek ev xs) es) (hw:MapWf es clock) {k:K} {r:Option (Nat×Value)} (hf:Found (ek k) es r):(r=none∧(∀ p∈xs,p.1≠k)∧∀ e∈es,e.key≠ek k)∨∃ i e v,r=some (i,e.val)∧es[i]?=some e∧e.key=ek k∧xs[i]?=some (k,v)∧Rp κ (ev v) e.val:=by
 rcases hf with ⟨h1,h2⟩ | ⟨i,e,h1,h2,h3⟩
 ·left
  refine ⟨h1,fun p hp hpk=>?_,h2⟩
  obtain ⟨i,hi,rfl⟩:=List.getElem_of_mem hp
  have:(ew ek ev xs)[i]?=some (ek k,ev xs[i].2):=by unfold ew;rw [List.getElem?_map,List.getElem?_eq_getElem hi];simp [hpk]
  obtain ⟨e,g1,g2,_⟩:=h.get' this
  exact h2 e (List.mem_of_getElem? g1) g2
 right
 obtain ⟨p,g1,g2⟩:=h.get h2
 obtain ⟨k',v,g3,g4,g5⟩:=pA g1
 have:k'=k:=hinj _ _ (g4.symm.trans h3)
 subst this
 exact ⟨i,e,v,h1,h2,h3,g3,by rw [← g5];exact g2⟩
end
section
variable {κ:Kr} {σ:Env} {ρ:List Res} {o:Oper} {K:Value→List Res→Kr→Prop}
theorem uP {t:Nat} (ho:o.op=.makeMap t none) (h:∀ b κ',Kle κ κ'→K (.map (some b)) (Res.mp (some b) [] 0::ρ) κ'):OpL o σ ρ κ K:=fun β hi Nx hk=>by
 unfold execOp
 simp only [ho,Option.map_none,Instr.makeMap,Sem.run_bind,run_newObj_alloc,Result.andThen_ok,Sem.run_pure,OutV]
 exact hk _ _ _ (hi.alloc _ (Res.mp (some κ.w.heap.size) [] 0) rfl rfl) (dQ hi.fin _) (h _ _ (dQ hi.fin _))
end
theorem mN {b clock:Nat} {es:Array MapEntry} {w:World} (hb:w.heap[b]?=some (.map es clock)):(getObj b).run Tryz.prog w=.ok (.map es clock) w:=by simp [getObj,Sem.run,hb]
theorem pC {b clock:Nat} {es:Array MapEntry} {w:World} (o:Obj) (hb:w.heap[b]?=some (.map es clock)):(setObj b o).run Tryz.prog w=.ok () { w with heap:=w.heap.setIfInBounds b o }:=by simp [setObj,Sem.run,hb]
theorem nA {α:Type} {f:α→α}:∀ {l:List α} {i:Nat} {e:α},l[i]?=some e→l.modify i f=l.set i (f e)
 | _::_,0,_,h=>by simp only [List.getElem?_cons_zero,da] at h;subst h;rfl
 | _::l,i+1,_,h=>by simp only [List.getElem?_cons_succ] at h;simp [nA h]
theorem set_same' {α:Type}:∀ {l:List α} {i:Nat} {e:α},l[i]?=some e→l.set i e=l
 | _::_,0,_,h=>by simp only [List.getElem?_cons_zero,da] at h;subst h;rfl
 | _::l,i+1,_,h=>by simp only [List.getElem?_cons_succ] at h;simp [set_same' h]
theorem uQ {t kt et b clock:Nat} {z v:Value} {sz by':Nat} {P:Value→Prop} (ht:dv t=some (.map kt et)) (hz:dU et=some (z,sz,by')) (L:KeyLaw kt P) (hv:P v) {es:List MapEntry} (hes:∀ e∈es,P e.key) {w:World} (hb:w.heap[b]?=some (.map es.toArray clock)) (c:Bool):∃ r,Found v es r∧(Instr.lookup t (.map (some b)) v c).run Tryz.prog w=.ok (if c then .tuple #[(r.map (·.2)).getD z,.bool r.isSome] else (r.map (·.2)).getD z) w:=by
 obtain ⟨r,h1,h2⟩:=L.find v es hv hes w
 refine ⟨r,h2,?_⟩
 simp only [Instr.lookup,Sem.run_bind,run_underlying (br ht),Result.andThen_ok,mN hb,Sem.run_pure,L.chk v hv,h1]
 cases r with
 | none=>simp [dc hz]
 | some q=>simp
theorem pD {t kt et:Nat} {z v:Value} {sz by':Nat} {P:Value→Prop} (ht:dv t=some (.map kt et)) (hz:dU et=some (z,sz,by')) (L:KeyLaw kt P) (hv:P v) {w:World} (c:Bool):(Instr.lookup t (.map none) v c).run Tryz.prog w=.ok (if c then .tuple #[z,.bool false] else z) w:=by
 obtain ⟨r,h1,h2⟩:=L.find v [] hv (fun e h=>by cases h) w
 have hr:r=none:=by
  rcases h2 with h2 | ⟨i,e,_,h2,_⟩
  ·exact h2.1
  simp at h2
 subst hr
 simp [Instr.lookup,run_underlying (br ht),L.chk v hv,h1,dc hz]
theorem rQ {t kt et b clock:Nat} {v z:Value} {sz by':Nat} {P:Value→Prop} (ht:dv t=some (.map kt et)) (hz:dU et=some (z,sz,by')) (L:KeyLaw kt P) (hv:P v) {es:List MapEntry} (hes:∀ e∈es,P e.key) {w:World} (hb:w.heap[b]?=some (.map es.toArray clock)):∃ r es' clock' n,Found v es r∧(Instr.mapEntry t (.map (some b)) v).run Tryz.prog w=.ok (.tuple #[(r.map (·.2)).getD z,.int .i64 ((n:Nat):Int)]) { w with heap:=w.heap.setIfInBounds b (.map es'.toArray clock') }∧((r=none∧es'=es++[⟨v,z,clock⟩]∧clock'=clock+1∧n=clock)∨∃ i e,es[i]?=some e∧e.key=v∧r=some (i,e.val)∧es'=es∧clock'=clock∧n=e.born):=by
 obtain ⟨r,h1,h2⟩:=L.find v es hv hes w
 have h2':=h2
 rcases h2 with ⟨rfl,h3⟩ | ⟨i,e,rfl,h3,h4⟩
 ·refine ⟨none,es++[⟨v,z,clock⟩],clock+1,clock,h2',?_,.inl ⟨rfl,rfl,rfl,rfl⟩⟩
  simp only [Instr.mapEntry,Sem.run_bind,run_underlying (br ht),Result.andThen_ok,mN hb,L.chk v hv,h1,dc hz,pC _ hb,Sem.run_pure]
  simp [goInt]
 refine ⟨some (i,e.val),es,clock,e.born,h2',?_,.inr ⟨i,e,h3,h4,rfl,rfl,rfl,rfl⟩⟩
 have hk:((es.toArray[i]?).map (·.key)).getD v=v:=by simp [h3,h4]
 have hst:(Instr.keyThatStays v v).run Tryz.prog w=.ok v w:=by simp [Instr.keyThatStays,L.same v hv]
 have hm:es.toArray.modify i (fun x=>({ x with key:=v }:MapEntry))=es.toArray:=by
  apply Array.ext'
  simp only [Array.toList_modify]
  rw [nA h3]
  subst h4
  exact set_same' h3
 have hbn:((es.toArray[i]?).map (·.born)).getD 0=e.born:=by simp [h3]
 simp only [Instr.mapEntry,Sem.run_bind,run_underlying (br ht),Result.andThen_ok,mN hb,L.chk v hv,h1,hk,hst,hm,pC _ hb,Sem.run_pure,hbn]
 simp [goInt,h3]
theorem pE {t b clock i n:Nat} {u:Value} {es:List MapEntry} {e:MapEntry} (hw:MapWf es clock) (hi:es[i]?=some e) (hn:e.born=n) {w:World} (hb:w.heap[b]?=some (.map es.toArray clock)):(Instr.entryStore t (.map (some b)) (.int .i64 ((n:Nat):Int)) u).run Tryz.prog w=.ok () { w with heap:=w.heap.setIfInBounds b (.map (es.set i { e with val:=u }).toArray clock) }:=by
 have hf:es.toArray.findIdx? (fun e=>(e.born:Int) == (n:Int))=some i:=by
  rw [List.findIdx?_toArray]
  have hlt:i<es.length:=by
   rcases Nat.lt_or_ge i es.length with h | h
   ·exact h
   rw [List.getElem?_eq_none h] at hi;cases hi
  rw [List.findIdx?_eq_some_iff_getElem]
  have he:es[i]=e:=by rw [List.getElem?_eq_getElem hlt] at hi;exact Option.some.inj hi
  refine ⟨hlt,by simp [he,hn],fun j hj=>?_⟩
  have:=(List.pairwise_iff_getElem.1 hw.bn) j i (by omega) hlt hj
  rw [he,hn] at this
  simp;omega
 have hm:es.toArray.modify i (fun x=>({ x with val:=u }:MapEntry))=(es.set i { e with val:=u }).toArray:=by
  apply Array.ext'
  simp only [Array.toList_modify]
  rw [nA hi]
 simp only [Instr.entryStore,Sem.run_bind,Result.andThen_ok,mN hb,show (asInt (.int .i64 ((n:Nat):Int))).run Tryz.prog w=.ok ((n:Nat):Int) w by simp [asInt,asIntOf],Sem.run_pure,hf,hm,pC _ hb]
section
variable {K V:Type} [DecidableEq K] {ek:K→Value} {vv:V→PV} {xs:List (K×V)} {κ:Kr} {es:List MapEntry} {clock kt:Nat}
theorem tu {k:K} {z0:V} {z:Value} {r:Option (Nat×Value)} (hinj:∀ a b,ek a=ek b→a=b) (hw:MapWf es clock) (h:KVs κ (ew ek vv xs) es) (hf:Found (ek k) es r) (hz:Rp κ (vv z0) z):Rp κ (vv ((cr xs k).getD z0)) ((r.map (·.2)).getD z)∧r.isSome=(cr xs k).isSome:=by
 rcases ny hinj h hw hf with ⟨rfl,h3,h4⟩ | ⟨i,e,v,rfl,h4,h5,h6,h7⟩
 ·rw [nx h3];exact ⟨hz,rfl⟩
 rw [(rO (rP h hw) h6).1];exact ⟨h7,rfl⟩
theorem yv {es':List MapEntry} {clock' n:Nat} {k:K} {z0:V} {z:Value} {r:Option (Nat×Value)} (hinj:∀ a b,ek a=ek b→a=b) (hw:MapWf es clock) (h:KVs κ (ew ek vv xs) es) (hf:Found (ek k) es r) (hz:Rp κ (vv z0) z)
    (hc:(r=none∧es'=es++[⟨ek k,z,clock⟩]∧clock'=clock+1∧n=clock)∨∃ i e,es[i]?=some e∧e.key=ek k∧r=some (i,e.val)∧es'=es∧clock'=clock∧n=e.born):MapWf es' clock'∧KVs κ (ew ek vv (jo xs k z0)) es'∧(es'[lx xs k]?).map (·.born)=some n:=by
  rcases hc with ⟨rfl,rfl,rfl,rfl⟩ | ⟨i,e,h1,h2,rfl,rfl,rfl,rfl⟩
  · rcases ny hinj h hw hf with ⟨_,h3,h4⟩ | ⟨i,e,v,h3,_⟩
    · refine ⟨hw.push h4,?_,?_⟩
      · unfold jo
        rw [nx h3]
        simp only [Option.isSome_none,Bool.false_eq_true,if_false]
        rw [ew,List.map_append]
        exact h.app (.cons (e:=⟨ek k,z,n⟩) hz .nil)
      rw [qJ h3]
      have:xs.length=es.length:=by
        have:=congrArg List.length h.keys
        simpa [ew] using this
      rw [this];simp
    cases h3
  rcases ny hinj h hw hf with ⟨h3,_⟩ | ⟨i',e',v',h3,h4,h5,h6,h7⟩
  · cases h3
  have hi:i'=i:=by injection h3 with h3;injection h3 with h3 _;exact h3.symm
  subst hi
  obtain ⟨a1,a2,_⟩:=rO (rP h hw) h6
  refine ⟨hw,?_,?_⟩
  · unfold jo;rw [a1];exact h
  rw [a2,h1];rfl
end
theorem tv {w:World} {b i:Nat} {o:Obj} (h:i≠b):({ w with heap:=w.heap.setIfInBounds b o }:World).heap[i]?=w.heap[i]?:=by
 show (w.heap.setIfInBounds b o)[i]?=_
 rw [Array.getElem?_setIfInBounds_ne (fun e=>h e.symm)]
theorem tw {w:World} {b:Nat} {o o':Obj} (h:w.heap[b]?=some o'):({ w with heap:=w.heap.setIfInBounds b o }:World).heap[b]?=some o:=by
 show (w.heap.setIfInBounds b o)[b]?=_
 have:b<w.heap.size:=by
  rcases Nat.lt_or_ge b w.heap.size with h1 | h1
  ·exact h1
  rw [Array.getElem?_eq_none h1] at h;cases h
 rw [Array.getElem?_setIfInBounds_self_of_lt this]
theorem Zi.mapTurn {β:Base} {l1 l2:List Res} {κ:Kr} {b clock clock':Nat} {es es':List MapEntry} (h:Zi β (l1++Res.mp (some b) es clock::l2) κ):Zi β (l1++Res.mp (some b) es' clock'::l2) ⟨{ κ.w with heap:=κ.w.heap.setIfInBounds b (.map es'.toArray clock') },κ.S⟩∧Kle κ ⟨{ κ.w with heap:=κ.w.heap.setIfInBounds b (.map es'.toArray clock') },κ.S⟩:=by
 have hb:κ.w.heap[b]?=some (.map es.toArray clock):=h.own (Res.mp (some b) es clock) (by simp)
 exact h.turn (r:=Res.mp (some b) es clock) (r':=Res.mp (some b) es' clock') (b:=b) rfl rfl rfl (fun i hi=>tv hi) (by simp) (tw hb) rfl rfl rfl (Nat.le_refl _)
section
variable {K V:Type} [DecidableEq K] {ek:K→Value} {vv:V→PV} {xs:List (K×V)} {o:Oper} {σ:PEnv} {ρ ρ':List PRes} {c:Bool} {x y y2:Operand} {t kt et:Nat} {KK:PV→List PRes→Prop} {k:K} {v z0:V} {z:Value} {sz by' b:Nat} {pk:PV} {mo:Option Nat}
theorem uR (ho:o.op=.makeMap t none) (h:∀ b,KK (.v (.map (some b))) (.mp (some b) []::ρ)):POpL o σ ρ KK:=fun κ σ' ρ' g hs hr =>
 uP ho fun b κ' hk=>⟨_,_,.v rfl,.cons (.mp (fun h=>by cases h) ⟨.nil,.nil,fun e h=>by cases h⟩ .nil) (hr.mono hk),h b⟩
def MapIs (ρ:List PRes) (mo:Option Nat) (kvs:List (Value×PV)):Prop:=∀ κ rs,RRels κ ρ rs→∃ es clock,Res.mp mo es clock∈rs∧(mo=none→es=[])∧MapWf es clock∧KVs κ kvs es
theorem mO {kvs:List (Value×PV)} (h:PRes.mp mo kvs∈ρ):MapIs ρ mo kvs:=fun κ rs hr=>by
 obtain ⟨r,h1,h2⟩:=hr.mem h
 cases h2 with
 | mp hn hw hk=>exact ⟨_,_,h1,hn,hw,hk⟩
theorem wC {kvs:List (Value×PV)} {i n:Nat} (h:PRes.mpo b kvs i n∈ρ):MapIs ρ (some b) kvs:=fun κ rs hr=>by
 obtain ⟨r,h1,h2⟩:=hr.mem h
 cases h2 with
 | mpo hw hk hi=>exact ⟨_,_,h1,(fun h=>by cases h),hw,hk⟩
theorem uS {es:List MapEntry} {clock:Nat} (hw:MapWf es clock) {u:Value} {r r':Option (Nat×Value)} (h:Found u es r) (h':Found u es r'):r=r':=by
 rcases h with ⟨rfl,h1⟩ | ⟨i,e,rfl,h1,h2⟩ <;> rcases h' with ⟨rfl,h3⟩ | ⟨j,f,rfl,h3,h4⟩
 ·rfl
 ·exact absurd h4 (h1 f (List.mem_of_getElem? h3))
 ·exact absurd h2 (h3 e (List.mem_of_getElem? h1))
 have hij:i=j:=by
  obtain ⟨li,ei⟩:=List.getElem?_eq_some_iff.1 h1
  obtain ⟨lj,ej⟩:=List.getElem?_eq_some_iff.1 h3
  have pw:=List.pairwise_iff_getElem.1 hw.nd
  rcases Nat.lt_trichotomy i j with h | h | h
  ·exact absurd (by rw [ei,ej,h2,h4]) (pw i j li lj h)
  ·exact h
  exact absurd (by rw [ei,ej,h2,h4]) (pw j i lj li h)
 subst hij
 rw [h1] at h3;injection h3 with h3;rw [h3]
theorem yw (cm:Bool) (ho:o.op=.lookup t x y cm) (ht:dv t=some (.map kt et)) (hz:dU et=some (z,sz,by')) (hzp:∀ κ,Rp κ (vv z0) z) (L:KEnc kt ek) (hx:PEv σ c x (.v (.map mo))) (hy:PEv σ c y pk) (hk:∀ κ u,Rp κ pk u→u=ek k) (hm:MapIs ρ mo (ew ek vv xs)) {κ:Kr} {σ':Env} {ρ':List Res} (hs:Sim κ σ σ') (hr:RRels κ ρ ρ'):c=true→∃ u,Rp κ (vv ((cr xs k).getD z0)) u∧∀ w,Stab ρ' κ w→(execOp (SX.ev σ') o).run Tryz.prog w=.ok (.value (if cm then .tuple #[u,.bool (cr xs k).isSome] else u)) w:=by
 intro hc
 obtain ⟨P,hL,hP⟩:=L.law
 have e1:SX.ev σ' x=.map mo:=hs.ve hx hc
 have e2:SX.ev σ' y=ek k:=hk κ _ (hs.pe hy hc)
 obtain ⟨es,clock,h1,hn,h2,h3⟩:=hm κ ρ' hr
 obtain ⟨r,g1,g2⟩:=hL.find (ek k) es (hP k) (uO hP h3) κ.w
 obtain ⟨l1,l2⟩:=tu L.inj h2 h3 g2 (hzp κ)
 refine ⟨_,l1,fun w hw=>?_⟩
 cases mo with
 | none =>
  have:=hn rfl;subst this
  have hr0:r=none:=by
   rcases g2 with g2 | ⟨i,e,_,g2,_⟩
   ·exact g2.1
   simp at g2
  subst hr0
  rw [← l2]
  simp only [execOp,ho,e1,e2,Sem.run_bind,pD ht hz hL (hP k) cm,Result.andThen_ok,Sem.run_pure]
  rfl
 | some b =>
  have hb:w.heap[b]?=some (.map es.toArray clock):=hw.own _ h1
  obtain ⟨r',f1,f2⟩:=uQ ht hz hL (hP k) (uO hP h3) hb cm
  have:=uS h2 f1 g2;subst this
  rw [← l2]
  simp only [execOp,ho,e1,e2,Sem.run_bind,f2,Result.andThen_ok,Sem.run_pure]
theorem nB (ho:o.op=.lookup t x y false) (ht:dv t=some (.map kt et)) (hz:dU et=some (z,sz,by')) (hzp:∀ κ,Rp κ (vv z0) z) (L:KEnc kt ek) (hx:PEv σ c x (.v (.map mo))) (hy:PEv σ c y pk) (hk:∀ κ u,Rp κ pk u→u=ek k) (hm:MapIs ρ mo (ew ek vv xs)):POpQ c o σ ρ (vv ((cr xs k).getD z0)):=fun κ σ' ρ' g hs hr=>by
 cases c with
 | false=>exact uy
 | true =>
  obtain ⟨u,h1,h2⟩:=yw false ho ht hz hzp L hx hy hk hm hs hr rfl
  exact ⟨u,fun _=>h1,fun _ w hw=>h2 w hw⟩
theorem tx (ho:o.op=.lookup t x y true) (ht:dv t=some (.map kt et)) (hz:dU et=some (z,sz,by')) (hzp:∀ κ,Rp κ (vv z0) z) (L:KEnc kt ek) (hx:PEv σ c x (.v (.map mo))) (hy:PEv σ c y pk) (hk:∀ κ u,Rp κ pk u→u=ek k) (hm:MapIs ρ mo (ew ek vv xs)):POpQ c o σ ρ (.tup [vv ((cr xs k).getD z0),.v (.bool (cr xs k).isSome)]):=fun κ σ' ρ' g hs hr=>by
 cases c with
 | false=>exact uy
 | true =>
  obtain ⟨u,h1,h2⟩:=yw true ho ht hz hzp L hx hy hk hm hs hr rfl
  exact ⟨_,fun _=>.tup (ws:=[u,.bool (cr xs k).isSome]) (.cons h1 (.cons (.v rfl) .nil)),fun _ w hw=>h2 w hw⟩
theorem n4 (ho:o.op=.mapEntry t x y) (ht:dv t=some (.map kt et)) (hz:dU et=some (z,sz,by')) (hzp:∀ κ,Rp κ (vv z0) z) (L:KEnc kt ek) (hx:bg σ x=.v (.map (some b))) (hy:bg σ y=pk) (hk:∀ κ u,Rp κ pk u→u=ek k) {l:List PRes} (hu:PPick ρ (.mp (some b) (ew ek vv xs)) l) (h:∀ n:Nat,KK (.tup [vv ((cr xs k).getD z0),.v (.int .i64 ((n:Nat):Int))]) (.mpo b (ew ek vv (jo xs k z0)) (lx xs k) n::l)):POpL o σ ρ KK:=fun κ σ' rr g hs hr=>by
 obtain ⟨P,hL,hP⟩:=L.law
 obtain ⟨r0,l',hp,h4,h5⟩:=hr.pick hu
 cases h4 with
 | mp hn hw hkv =>
  rename_i es clock
  intro β hi0 Nx hnx
  have hi:=hi0.perm hp
  have hb:κ.w.heap[b]?=some (.map es.toArray clock):=hi.own (Res.mp (some b) es clock) (by simp)
  have e1:SX.ev σ' x=.map (some b):=hs.v1 hx
  have e2:SX.ev σ' y=ek k:=hk κ _ (by have:=hs.ev y;rwa [hy] at this)
  obtain ⟨r,es',clock',n,f1,f2,f3⟩:=rQ ht hz hL (hP k) (uO hP hkv) hb
  obtain ⟨l1,l2⟩:=tu L.inj hw hkv f1 (hzp κ)
  obtain ⟨w1,w2,w3⟩:=yv (z0:=z0) L.inj hw hkv f1 (hzp κ) f3
  obtain ⟨i1,i2⟩:=Zi.mapTurn (l1:=[]) (es':=es') (clock':=clock') hi
  simp only [execOp,ho,e1,e2,Sem.run_bind,f2,Result.andThen_ok,Sem.run_pure,OutV]
  exact hnx _ _ _ i1 i2 ⟨_,_,.tup (ws:=[_,_]) (.cons (l1.mono i2) (.cons (.v rfl) .nil)),.cons (.mpo w1 (w2.mono i2) w3) (h5.mono i2),h n⟩
theorem lH (ho:o.op=.entryStore t x y y2) {n:Nat} (hx:bg σ x=.v (.map (some b))) (hy:bg σ y=.v (.int .i64 ((n:Nat):Int))) (hv:bg σ y2=vv v) {l:List PRes} (hu:PPick ρ (.mpo b (ew ek vv (jo xs k z0)) (lx xs k) n) l) (hnd:MND xs∨True) (h:KK (.v undef) (.mp (some b) (ew ek vv (mM xs k v))::l)):POpL o σ ρ KK:=fun κ σ' rr g hs hr=>by
 obtain ⟨r0,l',hp,h4,h5⟩:=hr.pick hu
 cases h4 with
 | mpo hw hkv hn =>
  rename_i es clock
  intro β hi0 Nx hnx
  have hi:=hi0.perm hp
  have hb:κ.w.heap[b]?=some (.map es.toArray clock):=hi.own (Res.mp (some b) es clock) (by simp)
  have e1:SX.ev σ' x=.map (some b):=hs.v1 hx
  have e2:SX.ev σ' y=.int .i64 ((n:Nat):Int):=hs.v1 hy
  have rv:Rp κ (vv v) (SX.ev σ' y2):=by have:=hs.ev y2;rwa [hv] at this
  cases he:es[lx xs k]? with
  | none=>rw [he] at hn;cases hn
  | some e =>
   rw [he] at hn;simp only [Option.map_some,da] at hn
   have hnd2:MND xs:=by
    have:=rP hkv hw
    unfold jo at this
    split at this
    ·exact this
    exact (List.pairwise_append.1 this).1
   obtain ⟨m1,m2,m3⟩:=yu hnd2 k z0
   have hkey:e.key=ek k:=by
    obtain ⟨p,q1,q2⟩:=hkv.get he
    obtain ⟨k',v',q3,q4,q5⟩:=pA q1
    rw [m2] at q3;injection q3 with q3;injection q3 with q3 _;rw [q4,← q3]
   have f2:=pE (t:=t) (u:=SX.ev σ' y2) hw he hn hb
   obtain ⟨i1,i2⟩:=Zi.mapTurn (l1:=[]) (es':=es.set (lx xs k) { e with val:=SX.ev σ' y2 }) (clock':=clock) hi
   have kv2:KVs κ (ew ek vv (mM xs k v)) (es.set (lx xs k) { e with val:=SX.ev σ' y2 }):=by
    rw [← m3 v,ew,List.map_set]
    show KVs κ ((ew ek vv (jo xs k z0)).set (lx xs k) (ek k,vv v)) _
    rw [← hkey]
    exact hkv.set he (e':={ e with val:=SX.ev σ' y2 }) rfl rv
   simp only [execOp,ho,e1,e2,Sem.run_bind,f2,Result.andThen_ok,Sem.run_pure,OutV]
   exact hnx _ _ _ i1 i2 ⟨.v undef,_,.v rfl,.cons (.mp (fun h=>by cases h) (hw.set he rfl rfl) (kv2.mono i2)) (h5.mono i2),h⟩
end
def kP (a b:Int):Value:=.agg #[.int .i64 a,.int .i64 b]
def vI (a:Int):PV:=.v (.int .i64 a)
theorem nC {a b:Int}:∀ (κ:Kr) (u:Value),Rp κ (.agg [.v (.int .i64 a),.v (.int .i64 b)]) u→u=kP a b:=fun κ u h=>by
 cases h with
 | agg ho hc =>
  have:=oB (xs:=[.int .i64 a,.int .i64 b]) rfl hc
  rw [this];rfl
theorem tz {K V:Type} {o:Oper} {σ:PEnv} {ρ:List PRes} {t:Nat} {KK:PV→List PRes→Prop} (ek:K→Value) (vv:V→PV) (ho:o.op=.makeMap t none) (h:∀ b,KK (.v (.map (some b))) (.mp (some b) (ew ek vv [])::ρ)):POpL o σ ρ KK:=uR ho h
theorem uT {K V:Type} [DecidableEq K] {xs:List (K×V)} {k:K} {z:V}:(cr (jo xs k z) k).getD z=(cr xs k).getD z:=by
 unfold jo
 split
 ·rfl
 rename_i h
 have h0:cr xs k=none:=by cases e:cr xs k with | none=>rfl | some v=>rw [e] at h;exact absurd rfl h
 rw [h0]
 have:∀ (l:List (K×V)),cr l k=none→cr (l++[(k,z)]) k=some z:=by
  intro l
  induction l with
  | nil=>intro _;simp [cr]
  | cons p r ih =>
   obtain ⟨a,w⟩:=p
   intro hl
   unfold cr at hl
   split at hl
   ·cases hl
   rename_i hne
   show cr ((a,w)::(r++[(k,z)])) k=some z
   unfold cr
   rw [if_neg hne];exact ih hl
 rw [this xs h0];rfl
theorem tA {K V:Type} [DecidableEq K] {ek:K→Value} {vv:V→PV} {xs:List (K×V)} {o:Oper} {σ:PEnv} {ρ:List PRes} {c:Bool} {x y:Operand} {t kt et:Nat} {k:K} {z0:V} {z:Value} {sz by' b n:Nat} {pk:PV} (ho:o.op=.lookup t x y false) (ht:dv t=some (.map kt et)) (hz:dU et=some (z,sz,by')) (hzp:∀ κ,Rp κ (vv z0) z) (L:KEnc kt ek) (hx:PEv σ c x (.v (.map (some b)))) (hy:PEv σ c y pk) (hk:∀ κ u,Rp κ pk u→u=ek k) (hm:PRes.mpo b (ew ek vv (jo xs k z0)) (lx xs k) n∈ρ):POpQ c o σ ρ (vv ((cr xs k).getD z0)):=by
 rw [← uT]
 exact nB ho ht hz hzp L hx hy hk (wC hm)
section
variable {n:Nat} {ops:Array Oper} {o:Oper} {rest:List Oper} {K:PPost} {σ:PEnv} {ρ:List PRes} {d:Nat}
end
section
variable {o:Oper} {σ:PEnv} {ρ ρ':List PRes} {x y:Operand} {t T T2 sz by' n c:Nat} {a:Option Addr} {kd:IntKind} {i j:Int} {z:Value} {α:Type} {enc:α→List PV} {xs zs:List α} {m:α} {K:PV→List PRes→Prop}
end
section
variable {α:Type} (lt:α→α→Bool)
def ins (x:α):List α→List α
 | []=>[x]
 | y::l=>cond (lt y x) (y::ins x l) (x::y::l)
def jq:List α→List α
 | []=>[]
 | x::l=>ins lt x (jq l)
variable {lt}
theorem mP {x:α}:∀ {l:List α},(ins lt x l).Perm (x::l)
 | []=>List.Perm.refl _
 | y::l=>by
  unfold ins
  cases lt y x
  ·exact List.Perm.refl _
  exact (List.Perm.cons y mP).trans (List.Perm.swap x y l)
theorem gK:∀ {l:List α},(jq lt l).Perm l
 | []=>List.Perm.refl _
 | x::l=>mP.trans (List.Perm.cons x gK)
theorem pF (htr:∀ x y z,lt x y=true→lt y z=true→lt x z=true) (hnt:∀ x y z,lt x y=false→lt y z=false→lt x z=false) (hir:∀ x,lt x x=false) {x:α}:∀ {l:List α},l.Pairwise (fun a b=>lt b a=false)→(ins lt x l).Pairwise (fun a b=>lt b a=false)
 | [],_=>List.pairwise_singleton _ _
 | y::l,h=>by
  unfold ins
  obtain ⟨h1,h2⟩:=List.pairwise_cons.1 h
  have asym:∀ a b,lt a b=true→lt b a=false:=fun a b hab=>by
   cases hba:lt b a
   ·rfl
   have:=htr a b a hab hba;rw [hir] at this;cases this
  cases hy:lt y x
  ·refine List.pairwise_cons.2 ⟨fun z hz=>?_,h⟩
   rcases List.mem_cons.1 hz with rfl | hz
   ·exact hy
   exact hnt z y x (h1 z hz) hy
  refine List.pairwise_cons.2 ⟨fun z hz=>?_,pF htr hnt hir h2⟩
  rcases List.mem_cons.1 (mP.mem_iff.1 hz) with rfl | hz
  ·exact asym y z hy
  exact h1 z hz
theorem mQ (htr:∀ x y z,lt x y=true→lt y z=true→lt x z=true) (hnt:∀ x y z,lt x y=false→lt y z=false→lt x z=false) (hir:∀ x,lt x x=false):∀ (l:List α),(jq lt l).Pairwise (fun a b=>lt b a=false)
 | []=>List.Pairwise.nil
 | x::l=>pF htr hnt hir (mQ htr hnt hir l)
theorem n5 (ha:∀ x y,lt x y=false→lt y x=false→x=y):∀ {l m:List α},l.Pairwise (fun a b=>lt b a=false)→m.Pairwise (fun a b=>lt b a=false)→l.Perm m→l=m
 | [],m,_,_,hp=>(List.nil_perm.1 hp).symm
 | x::l,m,h1,h2,hp=>by
  obtain ⟨g1,g2⟩:=List.pairwise_cons.1 h1
  match m,h2,hp with
  | [],_,hp=>exact absurd (List.perm_nil.1 hp) (by simp)
  | y::m,h2,hp =>
   obtain ⟨k1,k2⟩:=List.pairwise_cons.1 h2
   have hxy:x=y:=by
    have hx:x∈y::m:=hp.mem_iff.1 (by simp)
    have hy:y∈x::l:=hp.mem_iff.2 (by simp)
    rcases List.mem_cons.1 hx with e | hx
    ·exact e
    rcases List.mem_cons.1 hy with e | hy
    ·exact e.symm
    exact ha x y (k1 x hx) (g1 y hy)
   subst hxy
   rw [n5 ha g2 k2 ((List.perm_cons x).1 hp)]
end
theorem bM {α β:Type} {x:Option α} {f:α→Option β} {a:α} (h:x=some a):x.bind f=f a:=by rw [h];rfl
theorem cy {r:Int} (h1 : -9223372036854775808≤r) (h2:r≤9223372036854775807):IntKind.i64.wrap r=r:=su ⟨h1,h2⟩
theorem gq {n:Nat} (h:n≤1267650600228229401496703205000):n<FUEL:=Nat.lt_of_le_of_lt h (by unfold FUEL;omega)
theorem cC {α:Type} {xs:List α} {k:Nat} (h:k<xs.length):idx xs (k:Int)=some xs[k]:=by
 unfold idx;rw [if_pos (by omega)];simp [h]
theorem dD {α:Type} [Inhabited α] {x:Option α}:gd true x=x:=rfl
theorem pG {α:Type} [Inhabited α] {x:Option α}:gd false x=some default:=rfl
theorem tB {α:Type} {l:List α} {k:Nat} (h:0<k) (hk:k<l.length) (hl:l.length≤4611686018427387904):idx l (IntKind.i64.wrap ((k:Int) - 1))=some (l[k - 1]'(by omega)):=by
 rw [cy (by omega) (by omega),show (k:Int) - 1=((k - 1:Nat):Int) by omega]
 exact cC (by omega)
theorem jJ {k:Nat} {n:Nat} (hk:k<n) (hn:n≤4611686018427387904):IntKind.i64.wrap ((k:Int)+1)=((k+1:Nat):Int):=by rw [cy (by omega) (by omega)];omega
theorem wD {k n:Nat} (h:k<n):decide ((k:Int)<(n:Int))=true:=by simp;omega
theorem nD (n:Nat):decide ((n:Int)<(n:Int))=false:=by simp
theorem nE {α:Type} {by':Nat} {xs ys:List α} (h:(xs.length+ys.length)*by'≤140737488355328) (h2:xs.length+ys.length≤140737488355328):app by' xs ys=some (xs++ys):=by unfold app;rw [if_pos ⟨h,h2⟩]
theorem yx {α:Type} {xs:List α} {a b:Nat} (h:a≤b) (h2:b≤xs.length):sub xs (a:Int) (b:Int)=some ((xs.take b).drop a):=by
 unfold sub;rw [if_pos (by omega)];simp
def fc {A B R:Type} (p:A⊕R) (g:A→B⊕R):B⊕R:=match p with | .inl a=>g a | .inr r=>.inr r
def run {α A R:Type} (f:Nat→α→A→A⊕R):List α→Nat→A→A⊕R
 | [],_,a=>.inl a
 | x::xs,k,a=>fc (f k x a) (fun a'=>run f xs (k+1) a')
theorem dS {α A R:Type} (f:Nat→α→A→A⊕R) (x:α) (xs:List α) (k:Nat) (a:A):run f (x::xs) k a=fc (f k x a) (run f xs (k+1)):=rfl
def outc {S T A R:Type} (g:A→S) (e:R→T):A⊕R→S⊕T
 | .inl a=>.inl (g a)
 | .inr r=>.inr (e r)
def tC {T A R:Type} (g:A→T) (e:R→T):A⊕R→T
 | .inl a=>g a
 | .inr r=>e r
theorem hZ {S T α A R:Type} {l:List α} (hl:l.length≤4611686018427387904) {body:S→Option (S⊕T)} (pack:Int→A→S) (f:Nat→α→A→A⊕R) (fin:A→T) (exit:R→T) (P:Nat→A→Prop)
    (hstep:∀ (k:Nat) (hk:k<l.length) (a:A),P k a→body (pack (k:Int) a)=some (outc (pack ((k+1:Nat):Int)) exit (f k l[k] a))∧∀ a',f k l[k] a=.inl a'→P (k+1) a')
    (hend:∀ a,P l.length a→body (pack (l.length:Int) a)=some (.inr (fin a))) (a:A) (h0:P 0 a):bk body FUEL (pack 0 a)=some (tC fin exit (run f l 0 a))∧∀ a',run f l 0 a=.inl a'→P l.length a':=by
  have main:∀ (xs:List α) (k N:Nat) (a:A),l.drop k=xs→k≤l.length→P k a→xs.length<N→bk body N (pack (k:Int) a)=some (tC fin exit (run f xs k a))∧∀ a',run f xs k a=.inl a'→P l.length a':=by
    intro xs
    induction xs with
    | nil =>
      intro k N a hd hk hp hN
      have:k=l.length:=by
        have:=congrArg List.length hd;simp at this;omega
      subst this
      obtain ⟨N,rfl⟩:∃ M,N=M+1:=⟨N - 1,by omega⟩
      rw [gJ,hend a hp]
      exact ⟨rfl,fun a' h=>by injection h with h;exact h ▸ hp⟩
    | cons x xs ih =>
      intro k N a hd hk hp hN
      have hk':k<l.length:=by
        have:=congrArg List.length hd;simp at this;omega
      have hx:l[k]=x∧l.drop (k+1)=xs:=by
        rw [List.drop_eq_getElem_cons hk'] at hd;injection hd with h1 h2;exact ⟨h1,h2⟩
      obtain ⟨N,rfl⟩:∃ M,N=M+1:=⟨N - 1,by omega⟩
      obtain ⟨e1,e2⟩:=hstep k hk' a hp
      rw [hx.1] at e1 e2
      rw [gJ,e1]
      rw [dS]
      cases hf:f k x a with
      | inl a'=>exact ih (k+1) N a' hx.2 (by omega) (e2 a' hf) (by simp at hN;omega)
      | inr r=>exact ⟨rfl,fun a' h=>by change Sum.inr r=_ at h;cases h⟩
  exact main l 0 FUEL a rfl (by omega) h0 (gq (by omega))
theorem yy {S T α A R β:Type} {l:List α} (hl:l.length≤4611686018427387904) {body:S→Option (S⊕T)} {k:T→Option β} (pack:Int→A→S) (f:Nat→α→A→A⊕R) (fin:A→T) (exit:R→T) (P:Nat→A→Prop) (a:A) (h0:P 0 a)
    (hstep:∀ (k:Nat) (hk:k<l.length) (a:A),P k a→body (pack (k:Int) a)=some (outc (pack ((k+1:Nat):Int)) exit (f k l[k] a))∧∀ a',f k l[k] a=.inl a'→P (k+1) a')
    (hend:∀ a,P l.length a→body (pack (l.length:Int) a)=some (.inr (fin a))):Option.bind (bk body FUEL (pack 0 a)) k=k (tC fin exit (run f l 0 a)):=bM (hZ hl pack f fin exit P hstep hend a h0).1
def mR {α T:Type} (g:Nat→α→Option T):List α→Nat→Option T
 | [],_=>none
 | x::xs,k=>match g k x with | some t=>some t | none=>mR g xs (k+1)
def outg {T:Type} (k:Nat):Option T→Int⊕T
 | some t=>.inr t
 | none=>.inl ((k+1:Nat):Int)
theorem qK {T α β:Type} {l:List α} (hl:l.length≤4611686018427387904) {body:Int→Option (Int⊕T)} {k:T→Option β} (g:Nat→α→Option T) (e:T)
    (hstep:∀ (k:Nat) (hk:k<l.length),body (k:Int)=some (outg k (g k l[k]))) (hend:body (l.length:Int)=some (.inr e)):Option.bind (bk body FUEL 0) k=k ((mR g l 0).getD e):=by
  refine (yy hl (fun i (_:Unit)=>i) (fun k x _=>match g k x with | some t=>.inr t | none=>.inl ()) (fun _=>e) (fun (t:T)=>t) (fun _ _=>True) () trivial (fun k hk a _=>⟨by
    rw [hstep k hk];cases g k l[k] <;> rfl,fun _ _=>trivial⟩) (fun a _=>hend)).trans ?_
  congr 1
  generalize 0=i
  induction l generalizing i with
  | nil=>rfl
  | cons x xs ih =>
    clear hstep hend
    have ih2:∀ j,tC (fun _=>e) (fun t=>t) (run (fun k x (_:Unit)=>match g k x with | some t=>Sum.inr t | none=>Sum.inl ()) xs j ())=(mR g xs j).getD e:=by
      clear ih hl
      induction xs with
      | nil=>intro j;rfl
      | cons y ys ih=>intro j;rw [dS,mR];cases g j y with | some t=>rfl | none=>exact ih (j+1)
    rw [dS,mR]
    cases g i x with
    | some t=>rfl
    | none=>exact ih2 (i+1)
theorem pH {α T:Type} (p:α→Bool) (f:α→T):∀ (l:List α) (k:Nat),mR (fun _ x=>cond (p x) (some (f x)) none) l k=(l.find? p).map f
 | [],_=>rfl
 | x::xs,k=>by
  rw [mR,List.find?_cons,pH p f xs]
  cases p x <;> rfl
theorem jK {S T α A β:Type} {l:List α} (hl:l.length≤4611686018427387904) {body:S→Option (S⊕T)} {k:T→Option β} (pack:Int→A→S) (f:A→α→A) (fin:A→T) (P:Nat→A→Prop) (a:A) (h0:P 0 a)
    (hstep:∀ (k:Nat) (hk:k<l.length) (a:A),P k a→body (pack (k:Int) a)=some (.inl (pack ((k+1:Nat):Int) (f a l[k])))∧P (k+1) (f a l[k]))
    (hend:∀ a,P l.length a→body (pack (l.length:Int) a)=some (.inr (fin a))):Option.bind (bk body FUEL (pack 0 a)) k=k (fin (l.foldl f a))∧P l.length (l.foldl f a):=by
  have e:=hZ hl pack (fun _ x a=>(.inl (f a x):A⊕Empty)) fin (fun r=>nomatch r) P (fun k hk a hp=>⟨(hstep k hk a hp).1,fun a' h=>by injection h with h;exact h ▸ (hstep k hk a hp).2⟩) hend a h0
  have e2:∀ (xs:List α) (i:Nat) (b:A),run (fun _ x a=>(.inl (f a x):A⊕Empty)) xs i b=.inl (xs.foldl f b):=by
    intro xs
    induction xs with
    | nil=>intro i b;rfl
    | cons x xs ih=>intro i b;rw [dS,List.foldl_cons];exact ih _ _
  rw [e2] at e
  exact ⟨bM e.1,e.2 _ rfl⟩
theorem rR {α:Type} {l:List α} {k:Nat} (h:k<l.length) (d:α):l.getD k d=l[k]:=by simp [List.getD,h]
structure Za where
 Kind:Int
 Measure:Int
 Quantity:Int
 Value:Int
 Amount:Int
 deriving Inhabited,DecidableEq
def Za.enc (m:Za):List PV:=[pI m.Kind,pI m.Measure,pI m.Quantity,pI m.Value,pI m.Amount]
def Za.eqb (a b:Za):Bool:=((a.Kind == b.Kind)&&((a.Measure == b.Measure)&&((a.Quantity == b.Quantity)&&((a.Value == b.Value)&&((a.Amount == b.Amount)&&true)))))
theorem Za.eqb_iff {a b:Za}:Za.eqb a b=true↔a=b:=by cases a;cases b;simp [Za.eqb]
theorem Za.eqok37:EqOk 37 [0,0,0,0,0]:=⟨by kernel_rfl,by kernel_rfl,by kernel_rfl,by kernel_rfl⟩
structure Zl where
 Lines:(List Za)
 Total:Int
 deriving Inhabited,DecidableEq
def Zl.enc (m:Zl):List PV:=[pL Za.enc m.Lines,pI m.Total]
structure Zj where
 Code:ByteArray
 Origin:ByteArray
 Proof:Bool
 Company:Int
 Day:Int
 Quantity:Int
 Value:Int
 Granted:Int
 deriving Inhabited,DecidableEq
def Zj.enc (m:Zj):List PV:=[pS m.Code,pS m.Origin,pB m.Proof,pI m.Company,pI m.Day,pI m.Quantity,pI m.Value,pI m.Granted]
def Zj.eqb (a b:Zj):Bool:=((decide (a.Code=b.Code))&&((decide (a.Origin=b.Origin))&&((a.Proof == b.Proof)&&((a.Company == b.Company)&&((a.Day == b.Day)&&((a.Quantity == b.Quantity)&&((a.Value == b.Value)&&((a.Granted == b.Granted)&&true))))))))
theorem Zj.eqb_iff {a b:Zj}:Zj.eqb a b=true↔a=b:=by cases a;cases b;simp [Zj.eqb]
structure Zk where
 Rate:Int
 Amount:Int
 Per:Int
 HasMost:Bool
 Most:Int
 HasLeast:Bool
 Least:Int
 deriving Inhabited,DecidableEq
def Zk.enc (m:Zk):List PV:=[pI m.Rate,pI m.Amount,pI m.Per,pB m.HasMost,pI m.Most,pB m.HasLeast,pI m.Least]
def Zk.eqb (a b:Zk):Bool:=((a.Rate == b.Rate)&&((a.Amount == b.Amount)&&((a.Per == b.Per)&&((a.HasMost == b.HasMost)&&((a.Most == b.Most)&&((a.HasLeast == b.HasLeast)&&((a.Least == b.Least)&&true)))))))
theorem Zk.eqb_iff {a b:Zk}:Zk.eqb a b=true↔a=b:=by cases a;cases b;simp [Zk.eqb]
structure Zc where
 ID:Int
 Kind:Int
 Prefix:ByteArray
 Origins:(List ByteArray)
 Company:Int
 From:Int
 To:Int
 Registered:Int
 Duty:Zk
 deriving Inhabited,DecidableEq
def Zc.enc (m:Zc):List PV:=[pI m.ID,pI m.Kind,pS m.Prefix,pL eS m.Origins,pI m.Company,pI m.From,pI m.To,pI m.Registered,pI m.Duty.Rate,pI m.Duty.Amount,pI m.Duty.Per,pB m.Duty.HasMost,pI m.Duty.Most,pB m.Duty.HasLeast,pI m.Duty.Least]
structure Zf where
 L:(List Int)
 I:Int
 deriving Inhabited,DecidableEq
def Zf.enc (m:Zf):List PV:=[pL eI m.L,pI m.I]
structure Zb where
 kind:Int
 measure:Int
 deriving Inhabited,DecidableEq
def Zb.enc (m:Zb):List PV:=[pI m.kind,pI m.measure]
def Zb.eqb (a b:Zb):Bool:=((a.kind == b.kind)&&((a.measure == b.measure)&&true))
theorem Zb.eqb_iff {a b:Zb}:Zb.eqb a b=true↔a=b:=by cases a;cases b;simp [Zb.eqb]
structure Zn where
 keys:(List Zb)
 sums:(List (Zb×Int))
 deriving Inhabited
structure Ze where
 Hi:Int
 Lo:Int
 deriving Inhabited,DecidableEq
def Ze.enc (m:Ze):List PV:=[pU m.Hi,pU m.Lo]
def Ze.eqb (a b:Ze):Bool:=((a.Hi == b.Hi)&&((a.Lo == b.Lo)&&true))
theorem Ze.eqb_iff {a b:Ze}:Ze.eqb a b=true↔a=b:=by cases a;cases b;simp [Ze.eqb]
structure Zg where
 quantity:Int
 value:Int
 kinds:(List Int)
 deriving Inhabited,DecidableEq
def Zg.enc (m:Zg):List PV:=[pI m.quantity,pI m.value,pL eI m.kinds]
structure Zd where
 index_:Int
 share:Int
 rest:Int
 deriving Inhabited,DecidableEq
def Zd.enc (m:Zd):List PV:=[pI m.index_,pU m.share,pU m.rest]
def Zd.eqb (a b:Zd):Bool:=((a.index_ == b.index_)&&((a.share == b.share)&&((a.rest == b.rest)&&true)))
theorem Zd.eqb_iff {a b:Zd}:Zd.eqb a b=true↔a=b:=by cases a;cases b;simp [Zd.eqb]
structure Zm where
 compare:Unit
 deriving Inhabited,DecidableEq
def Zm.enc (m:Zm):List PV:=[.fn 92 []]
structure Zh where
 Hi:Int
 Lo:Int
 deriving Inhabited,DecidableEq
def Zh.enc (m:Zh):List PV:=[pU m.Hi,pU m.Lo]
def Zh.eqb (a b:Zh):Bool:=((a.Hi == b.Hi)&&((a.Lo == b.Lo)&&true))
theorem Zh.eqb_iff {a b:Zh}:Zh.eqb a b=true↔a=b:=by cases a;cases b;simp [Zh.eqb]
theorem Zh.eqok151:EqOk 151 [0,0]:=⟨by kernel_rfl,by kernel_rfl,by kernel_rfl,by kernel_rfl⟩
def Zb.key (m:Zb):Value:=kP m.kind m.measure
theorem Zb.kenc67:KEnc 67 Zb.key:=⟨⟨PairKey,yt _ _ rfl (by kernel_rfl) (by kernel_rfl) (by decide) (by decide) rfl rfl rfl rfl,fun a=>⟨_,_,rfl⟩⟩,fun a b h=>by cases a;cases b;simp only [Zb.key,kP] at h;injection h with h;simp at h;simp [h]⟩
abbrev cD (m:Za):List PV:=[pI m.Kind,pI m.Measure,pI m.Quantity,pI m.Value,pI m.Amount]
abbrev cw (m:Zj):List PV:=[pS m.Code,pS m.Origin,pB m.Proof,pI m.Company,pI m.Day,pI m.Quantity,pI m.Value,pI m.Granted]
abbrev gt (m:Zk):List PV:=[pI m.Rate,pI m.Amount,pI m.Per,pB m.HasMost,pI m.Most,pB m.HasLeast,pI m.Least]
abbrev aU (m:Zc):List PV:=[pI m.ID,pI m.Kind,pS m.Prefix,pL eS m.Origins,pI m.Company,pI m.From,pI m.To,pI m.Registered,pI m.Duty.Rate,pI m.Duty.Amount,pI m.Duty.Per,pB m.Duty.HasMost,pI m.Duty.Most,pB m.Duty.HasLeast,pI m.Duty.Least]

section
variable {o:Oper} {σ:PEnv} {ρ:List PRes} {f:Nat} {l:List Operand} {ts:Array Nat} {pargs caps:List PV} {x:Operand} {KV:PV→List PRes→Prop}
end
section
variable {o:Oper} {σ:PEnv} {ρ:List PRes} {x y:Operand} {t:Nat} {K:PV→List PRes→Prop} {α:Type} {enc:α→List PV} {xs:List α} {m m':α} {i:Int}
end


def memN (t:Nat):List Nat→Bool
 | []=>false
 | x::l=>cond (Nat.beq t x) true (memN t l)
def rs (ds:List Nat) (σ:PEnv):PEnv:=fun t=>cond (memN t ds) (σ t) .any
inductive Flow (σ:PEnv) (ρ:List PRes):List Oper→List (List Nat)→List (Nat×PV)→Prop
 | nil:Flow σ ρ [] [] []
 | cons {o:Oper} {l:List Oper} {ds:List Nat} {D:List (List Nat)} {d:Nat} {p:PV} {dp:List (Nat×PV)} (h:POpL o (rs ds σ) ρ fun pv ρ'=>pv=p∧ρ'=ρ) (hs:Flow σ ρ l D dp):Flow σ ρ (o::l) (ds::D) ((d,p)::dp)
section
variable {σ:PEnv} {ρ:List PRes} {o:Oper} {l:List Oper} {ds:List Nat} {D:List (List Nat)} {d:Nat} {p:PV} {dp:List (Nat×PV)}
theorem Flow.get:∀ {l:List Oper} {D:List (List Nat)} {dp:List (Nat×PV)} {i:Nat} {o:Oper},Flow σ ρ l D dp→l[i]?=some o→∃ ds d p,D[i]?=some ds∧dp[i]?=some (d,p)∧POpL o (rs ds σ) ρ fun pv ρ'=>pv=p∧ρ'=ρ
 | _,_,_,0,_,.cons h _,e=>by simp only [List.getElem?_cons_zero,da] at e;subst e;exact ⟨_,_,_,rfl,rfl,h⟩
 | _,_,_,i+1,_,.cons _ hs,e=>by simp only [List.getElem?_cons_succ] at e ⊢;exact hs.get e
theorem Flow.len:∀ {l:List Oper} {D:List (List Nat)} {dp:List (Nat×PV)},Flow σ ρ l D dp→D.length=l.length∧dp.length=l.length
 | _,_,_,.nil=>⟨rfl,rfl⟩
 | _,_,_,.cons _ hs=>⟨by simp [hs.len.1],by simp [hs.len.2]⟩
end
end SX
namespace SX
open Go
attribute [local irreducible] PWL PWC PWD POpL POpQ PEv PGuardIs PSub PPick PUpd PSplice PFill PLit PF PFV PCall FOk ee eu jI kF iY jn Cov PHolds bk idx app mk gd lb nz lG xQ sub kv dd mj ry dV co mC cX IntKind.wrap Int.tmod Int.tdiv Op.bytesLess strOfNums
theorem bf {n:Nat} {l:List Oper} {KC:Exit→PPost} {σ:PEnv} {ρ:List PRes} {id:Nat} (D:List Nat) (h:kR n l.toArray ρ l [] [] σ [] D=ji n l.toArray ρ l [] [] σ []) (hw:KC .normal (jy σ D []) ρ):PWC n (.region id l.toArray false) KC σ ρ:=aD [] D [] bA h hw
theorem aT {n:Nat} {l:List Oper} {KC:Exit→PPost} {σ:PEnv} {ρ:List PRes} {id:Nat} (H D:List Nat) (X:List (Nat×PV)) (h:kR n l.toArray ρ l H [] σ (X.map (·.1)) D=ji n l.toArray ρ l H [] σ (X.map (·.2))) (hw:KC .normal (jy σ D X) ρ):PWC n (.region id l.toArray false) KC σ ρ:=aD H D X bA h hw
theorem ai {n:Nat} {l:List Oper} {KC:Exit→PPost} {σ:PEnv} {ρ:List PRes} {id:Nat} (X:List (Nat×PV)) (h:kR n l.toArray ρ l [] [] σ (X.map (·.1)) []=ji n l.toArray ρ l [] [] σ (X.map (·.2))) (hw:KC .normal (jy σ [] X) ρ):PWC n (.region id l.toArray false) KC σ ρ:=aD [] [] X bA h hw
theorem ah {n:Nat} {l:List Oper} {KC:Exit→PPost} {σ:PEnv} {ρ:List PRes} {id:Nat} (D:List Nat) (X:List (Nat×PV)) (h:kR n l.toArray ρ l [] [] σ (X.map (·.1)) D=ji n l.toArray ρ l [] [] σ (X.map (·.2))) (hw:KC .normal (jy σ D X) ρ):PWC n (.region id l.toArray false) KC σ ρ:=aD [] D X bA h hw
theorem yz {n:Nat} {ops:Array Oper} {l:List (Nat×Oper)} {K:PPost} {σ:PEnv} {ρd ρs:List PRes} (k:Nat) (D:List Nat) (h:qI n ops ρs (l.take k) [] [] σ [] D=ji n ops ρs ((l.take k).map (·.2)) [] [] σ []) (hw:PWD n ops K (l.drop k) (jy σ D []) ρd ρs):PWD n ops K l σ ρd ρs:=bV k [] D [] bA h hw
theorem kS {n:Nat} {ops:Array Oper} {l:List (Nat×Oper)} {K:PPost} {σ:PEnv} {ρd ρs:List PRes} (k:Nat) (H D:List Nat) (X:List (Nat×PV)) (h:qI n ops ρs (l.take k) H [] σ (X.map (·.1)) D=ji n ops ρs ((l.take k).map (·.2)) H [] σ (X.map (·.2))) (hw:PWD n ops K (l.drop k) (jy σ D X) ρd ρs):PWD n ops K l σ ρd ρs:=bV k H D X bA h hw
theorem gu {n:Nat} {ops:Array Oper} {l:List (Nat×Oper)} {K:PPost} {σ:PEnv} {ρd ρs:List PRes} (k:Nat) (X:List (Nat×PV)) (h:qI n ops ρs (l.take k) [] [] σ (X.map (·.1)) []=ji n ops ρs ((l.take k).map (·.2)) [] [] σ (X.map (·.2))) (hw:PWD n ops K (l.drop k) (jy σ [] X) ρd ρs):PWD n ops K l σ ρd ρs:=bV k [] [] X bA h hw
theorem mS {n:Nat} {ops:Array Oper} {l:List (Nat×Oper)} {K:PPost} {σ:PEnv} {ρd ρs:List PRes} (k:Nat) (D:List Nat) (X:List (Nat×PV)) (h:qI n ops ρs (l.take k) [] [] σ (X.map (·.1)) D=ji n ops ρs ((l.take k).map (·.2)) [] [] σ (X.map (·.2))) (hw:PWD n ops K (l.drop k) (jy σ D X) ρd ρs):PWD n ops K l σ ρd ρs:=bV k [] D X bA h hw
theorem bu {n:Nat} {ops:Array Oper} {l:List Oper} {K:PPost} {σ:PEnv} {ρ:List PRes} (D:List Nat) (h:kR n ops ρ l [] [] σ [] D=ji n ops ρ l [] [] σ []) (hw:K (jy σ D []) ρ):PWL n ops l K σ ρ:=gX [] D [] bA h hw
theorem aL {n:Nat} {ops:Array Oper} {l:List Oper} {K:PPost} {σ:PEnv} {ρ:List PRes} (X:List (Nat×PV)) (h:kR n ops ρ l [] [] σ (X.map (·.1)) []=ji n ops ρ l [] [] σ (X.map (·.2))) (hw:K (jy σ [] X) ρ):PWL n ops l K σ ρ:=gX [] [] X bA h hw
theorem kT {n:Nat} {ops:Array Oper} {l:List Oper} {K:PPost} {σ:PEnv} {ρ:List PRes} (D:List Nat) (X:List (Nat×PV)) (h:kR n ops ρ l [] [] σ (X.map (·.1)) D=ji n ops ρ l [] [] σ (X.map (·.2))) (hw:K (jy σ D X) ρ):PWL n ops l K σ ρ:=gX [] D X bA h hw
theorem fe {n:Nat} {ops:Array Oper} {l:List Oper} {K:PPost} {σ:PEnv} {ρ:List PRes} (k:Nat) (H:List Nat) (X:List (Nat×PV)) (h:kR n ops ρ (l.take k) H [] σ (X.map (·.1)) []=ji n ops ρ (l.take k) H [] σ (X.map (·.2))) (hw:PWL n ops (l.drop k) K (jy σ [] X) ρ):PWL n ops l K σ ρ:=bd k H [] X bA h hw
theorem cq {n:Nat} {ops:Array Oper} {l:List Oper} {K:PPost} {σ:PEnv} {ρ:List PRes} (k:Nat) (H D:List Nat) (X:List (Nat×PV)) (h:kR n ops ρ (l.take k) H [] σ (X.map (·.1)) D=ji n ops ρ (l.take k) H [] σ (X.map (·.2))) (hw:PWL n ops (l.drop k) K (jy σ D X) ρ):PWL n ops l K σ ρ:=bd k H D X bA h hw
theorem aA {n:Nat} {ops:Array Oper} {l:List Oper} {K:PPost} {σ:PEnv} {ρ:List PRes} (k:Nat) (X:List (Nat×PV)) (h:kR n ops ρ (l.take k) [] [] σ (X.map (·.1)) []=ji n ops ρ (l.take k) [] [] σ (X.map (·.2))) (hw:PWL n ops (l.drop k) K (jy σ [] X) ρ):PWL n ops l K σ ρ:=bd k [] [] X bA h hw
theorem bY {n:Nat} {ops:Array Oper} {l:List Oper} {K:PPost} {σ:PEnv} {ρ:List PRes} (k:Nat) (D:List Nat) (X:List (Nat×PV)) (h:kR n ops ρ (l.take k) [] [] σ (X.map (·.1)) D=ji n ops ρ (l.take k) [] [] σ (X.map (·.2))) (hw:PWL n ops (l.drop k) K (jy σ D X) ρ):PWL n ops l K σ ρ:=bd k [] D X bA h hw
theorem ar {n:Nat} {ops:Array Oper} {o:Oper} {rest:List Oper} {K:PPost} {σ:PEnv} {ρ:List PRes} {d:Nat} (hg:(o.guard,o.dst,Nat.blt d n)=(none,some d,true)) (h:POpL o σ ρ fun p ρ'=>PWL n ops rest K (eb σ d p) ρ'):PWL n ops (o::rest) K σ ρ:=jm (Prod.mk.inj hg).1 (Prod.mk.inj (Prod.mk.inj hg).2).1 (Prod.mk.inj (Prod.mk.inj hg).2).2 h
theorem zz {α:Type} {t:Nat} {enc:α→PV} {σ:PEnv} {ρ:List PRes} {v:α} (r:α) (h:some v=some r) (e:σ t=enc v):jn [.tmp t] (fun pv ρ'=>pv=enc r∧ρ'=[]) .ret σ ρ:=by cases h;exact aM (gp (aK e)) bD ⟨rfl,rfl⟩
theorem bN {x y1:Code} {K1:Exit→PPost} {ρ1:List PRes} {n1:Nat} {σ1:PEnv} (h1:PWC n1 x (ee n1 y1 K1) σ1 ρ1):ee n1 (.seq x y1) K1 .normal σ1 ρ1:=aH (af h1)
theorem dB {K1:Exit→PPost} {ρ1:List PRes} {n1:Nat} {σ1:PEnv} (h1:K1 .ret σ1 ρ1):ee n1 .ret K1 .normal σ1 ρ1:=aH (cu h1)
theorem bZ {p:Bool} {x y1:Code} {K1:Exit→PPost} {ρ1:List PRes} {n1:Nat} {c:Operand} {σ1:PEnv} {α:Type} {a b r:α} (hc:bg σ1 c=.v (.bool p)) (h1:cond p a b=r) (ht:p=true→a=r→PWC n1 x K1 σ1 ρ1) (hf:p=false→b=r→PWC n1 y1 K1 σ1 ρ1):ee n1 (.cond c x y1) K1 .normal σ1 ρ1:=aH (iQ hc h1 ht hf)
theorem cH {y1 x1 y:Code} {K1:Exit→PPost} {ρ:List PRes} {n:Nat} {σ:PEnv} (h:PWC n x1 (ee n y (ee n y1 K1)) σ ρ):ee n (.seq (.seq x1 y) y1) K1 .normal σ ρ:=bN (af h)
theorem fB {y:Code} {K:Exit→PPost} {ρ:List PRes} {n1 n:Nat} {σ:PEnv} (h:K .ret σ ρ):ee n1 .ret (ee n y K) .normal σ ρ:=dB (aP h)
theorem eo {x y1:Code} {K1:Exit→PPost} {ρ1:List PRes} {n1:Nat} {σ1:PEnv} {α β:Type} {x1:Option α} {f:α→Option β} {r:β} (h:x1.bind f=some r) (k:∀ a,x1=some a→f a=some r→(PWC n1 x (ee n1 y1 K1) σ1 ρ1)):ee n1 (.seq x y1) K1 .normal σ1 ρ1:=bN (aa h k)
theorem fW {y x1 y1:Code} {K:Exit→PPost} {ρ1:List PRes} {n1:Nat} {σ1:PEnv} (h1:PWC n1 x1 (ee n1 y1 (ee n1 y K)) σ1 ρ1):PWC n1 (.seq (.seq x1 y1) y) K σ1 ρ1:=af (af h1)
theorem fu {y:Code} {K:Exit→PPost} {ρ:List PRes} {n:Nat} {σ:PEnv} {α β:Type} {x:Option α} {f:α→Option β} {r:β} (h1:x.bind f=some r) (k:∀ a,x=some a→f a=some r→(PWC n y K σ ρ)):ee n y K .normal σ ρ:=aH (aa h1 k)
theorem eg {x y:Code} {fn:Func} {ρ:List PRes} {pargs:List PV} {rs:List ResultVar} {f n1:Nat} {R:PV→List PRes→Prop} (hf:Tryz.prog.funcs[f]?=some fn) (hb:fn.body=some (.seq x y)) (hn:fn.ntmps=n1) (hres:fn.results=rs.toArray) (hsz:Nat.ble pargs.length n1=true) (h1:PWC n1 x (ee n1 y (jn rs R)) (sO pargs) ρ):PCall f pargs ρ R:=gW hf hb hn hres hsz (af h1)
def fX (p0:ByteArray):Option Int:=(bk (S:=Int) (T:=(Unit)⊕(_)) (fun v1=>cond (decide (v1<(p0.size:Int))) ((idx p0.data.toList v1).bind fun c5=>(gd (!(decide ((c5.toNat:Int)<48))) (idx p0.data.toList v1)).bind fun c6=>cond ((decide ((c5.toNat:Int)<48))||(decide (57<(c6.toNat:Int)))) (some (.inr (.inr (0:Int)))) (some (.inl (IntKind.i64.wrap (v1+1))))) (some (.inr (.inl ())))) FUEL 0).bind fun q=>match q with | .inl _=>cond ((decide (8<(p0.size:Int)))||((Int.tmod (p0.size:Int) 2) == 1)) (some (0:Int)) (some (p0.size:Int)) | .inr e=>some e
theorem kU {p0:ByteArray} {r:Int}  (h:fX p0=some r):PF 30 [pS p0] (pI r):=by
 unfold fX at h
 refine bi ?_
 refine eg Tryz.func30 rfl Tryz.ntmps30 Tryz.results30 rfl (bf [2] (by kernel_rfl) (cH (ai [(3,pI 0)] (by kernel_rfl) (fu h fun q3 hq3 h=>?_))))
 refine av (Y:=Unit×Unit) (fun (_,_)=>[(0,pS p0)]) (fun (_,_)=>[]) (fun (_,_)=>q3=Sum.inl ()) ?_ ?_
 ·refine an ?_
  refine aY (Y:=Unit) (S:=Int) _ hq3 (fun _ v1=>[(0,pS p0),(3,pI v1)]) (fun _ v1=>[]) () (ke rfl) bD ?_
  rintro _ v1 o τ hb2;(try dsimp only at hb2);dsimp only [aF]
  refine fW (ah [4,5,6] [(7,pB (decide (v1<(p0.size:Int))))] (by kernel_rfl) (bZ rfl hb2 (fun hc4 hb2=>?_) fun hc4 hb2=>?_))
  ·refine ag ?_
   refine bN (an (af (aa hb2 fun c5 hc5 hb2=>aa hb2 fun c6 hc6 hb2=>aD [] (rg 10 9) [(19,pB ((decide ((c5.toNat:Int)<48))||(decide (57<(c6.toNat:Int)))))] (fosx 2 hc5 (pq 7 (cB hc6) bA)) (by kernel_rfl) (bZ rfl hb2 (fun hc7 hb2=>?_) fun hc7 hb2=>?_))))
   ·refine af ?_
    refine ai [(2,pI 0)] (by kernel_rfl) (dB (aw (aP ?_)))
    refine bp hb2 (fun ht=>?_);subst ht
    refine aw (bt ?_)
    exact zz r h rfl
   refine ag ?_
   refine aj (aH (ah [8,9] [(3,pI (IntKind.i64.wrap (v1+1)))] (by kernel_rfl) ?_))
   exact bm hb2 () (ke rfl) bD
  refine ba ?_
  refine aI (aB hb2 (fun ht=>aG rfl ?_))
  exact au ((),()) (wZ rfl) bD ht.symm
 rintro ⟨_,_⟩ τ hz;(try dsimp only at hz);subst q3;(try dsimp only at h);dsimp only [aF]
 refine fW (ah (rg 20 8) [(28,pB ((decide (8<(p0.size:Int)))||((Int.tmod (p0.size:Int) 2) == 1)))] (by kernel_rfl) (bZ rfl h (fun hc8 h=>?_) fun hc8 h=>?_))
 ·refine af ?_
  refine ai [(2,pI 0)] (by kernel_rfl) (fB ?_)
  exact zz r h rfl
 refine ag ?_
 refine bN (ah [29,30] [(2,pI (p0.size:Int))] (by kernel_rfl) (dB ?_))
 exact zz r h rfl
def de (p0:ByteArray):Option Bool:=(gd ((p0.size:Int) == 2) (idx p0.data.toList 0)).bind fun c1=>(gd (((p0.size:Int) == 2)&&(decide (65≤(c1.toNat:Int)))) (idx p0.data.toList 0)).bind fun c2=>(gd ((((p0.size:Int) == 2)&&(decide (65≤(c1.toNat:Int))))&&(decide ((c2.toNat:Int)≤90))) (idx p0.data.toList 1)).bind fun c3=>(gd (((((p0.size:Int) == 2)&&(decide (65≤(c1.toNat:Int))))&&(decide ((c2.toNat:Int)≤90)))&&(decide (65≤(c3.toNat:Int)))) (idx p0.data.toList 1)).bind fun c4=>some ((((((p0.size:Int) == 2)&&(decide (65≤(c1.toNat:Int))))&&(decide ((c2.toNat:Int)≤90)))&&(decide (65≤(c3.toNat:Int))))&&(decide ((c4.toNat:Int)≤90)))
theorem jL {p0:ByteArray} {r:Bool}  (h:de p0=some r):PF 31 [pS p0] (pB r):=by
 unfold de at h
 refine bi ?_
 refine eg Tryz.func31 rfl Tryz.ntmps31 Tryz.results31 rfl (bf [2] (by kernel_rfl) (eo h fun c1 hc1 h=>aa h fun c2 hc2 h=>aa h fun c3 hc3 h=>aa h fun c4 hc4 h=>aD [] (rg 3 23) [(2,pB ((((((p0.size:Int) == 2)&&(decide (65≤(c1.toNat:Int))))&&(decide ((c2.toNat:Int)≤90)))&&(decide (65≤(c3.toNat:Int))))&&(decide ((c4.toNat:Int)≤90))))] (pq 5 (cB hc1) (pq 10 (cB hc2) (pq 15 (cB hc3) (pq 20 (cB hc4) bA)))) (by kernel_rfl) (dB ?_)))
 exact zz r h rfl
def fF (p0:Int) (p1:Int):Option Bool:=some ((decide (0≤p0))&&(decide (p0≤p1)))
theorem fY {p0:Int} {p1:Int} {r:Bool}  (h:fF p0 p1=some r):PF 37 [pI p0,pI p1] (pB r):=by
 unfold fF at h
 refine bi ?_
 refine eg Tryz.func37 rfl Tryz.ntmps37 Tryz.results37 rfl (bf [4] (by kernel_rfl) (bN (ah (rg 5 7) [(4,pB ((decide (0≤p0))&&(decide (p0≤p1))))] (by kernel_rfl) (dB ?_))))
 exact zz r h rfl
def gM (p0:Zk):Option Int:=(fF p0.Rate 10000000).bind fun x2=>(gd (!(!x2)) (fF p0.Amount 100000000)).bind fun x3=>(gd (!((((!x2)||(!x3))||((decide (0<p0.Amount))&&((decide (p0.Per<1))||(decide (1000000<p0.Per)))))||((p0.Amount == 0)&&(p0.Per != 0)))) (fF p0.Most 10000000)).bind fun x4=>(gd (!(((((!x2)||(!x3))||((decide (0<p0.Amount))&&((decide (p0.Per<1))||(decide (1000000<p0.Per)))))||((p0.Amount == 0)&&(p0.Per != 0)))||(!x4))) (fF p0.Least 10000000)).bind fun x5=>cond ((((((!x2)||(!x3))||((decide (0<p0.Amount))&&((decide (p0.Per<1))||(decide (1000000<p0.Per)))))||((p0.Amount == 0)&&(p0.Per != 0)))||(!x4))||(!x5)) (some (2:Int)) (cond ((((p0.Most != 0)&&(!p0.HasMost))||((p0.Least != 0)&&(!p0.HasLeast)))||((p0.HasMost&&p0.HasLeast)&&(decide (p0.Most<p0.Least)))) (some (1:Int)) (some (0:Int)))
theorem lI {p0:Zk} {r:Int}  (h:gM p0=some r):PF 36 [.agg (gt p0)] (pI r):=by
 unfold gM at h
 refine bi ?_
 refine eg Tryz.func36 rfl Tryz.ntmps36 Tryz.results36 rfl (ae (ar rfl (bB (cs:=(gt p0)) rfl rfl (fun b1=>bu [2] (by kernel_rfl) (cH (aa h fun x2 hx2 h=>aa h fun x3 hx3 h=>aa h fun x4 hx4 h=>aa h fun x5 hx5 h=>aD [0,0,0,0,0,0,0,0,0] (rg 3 46) [(49,pB ((((((!x2)||(!x3))||((decide (0<p0.Amount))&&((decide (p0.Per<1))||(decide (1000000<p0.Per)))))||((p0.Amount == 0)&&(p0.Per != 0)))||(!x4))||(!x5)))] (bz 2 (fY hx2) (eJ 7 (fun hc=>fY (cB hx3 hc)) (eJ 38 (fun hc=>fY (cB hx4 hc)) (eJ 44 (fun hc=>fY (cB hx5 hc)) bA)))) (by kernel_rfl) (bZ rfl h (fun hc6 h=>?_) fun hc6 h=>?_)))))))
 ·refine af ?_
  refine ai [(2,pI 2)] (by kernel_rfl) (fB ?_)
  exact zz r h rfl
 refine ag ?_
 refine cH (aT [0,0,0,0,0,0,0,0] (rg 50 32) [(82,pB ((((p0.Most != 0)&&(!p0.HasMost))||((p0.Least != 0)&&(!p0.HasLeast)))||((p0.HasMost&&p0.HasLeast)&&(decide (p0.Most<p0.Least)))))] (by kernel_rfl) (bZ rfl h (fun hc7 h=>?_) fun hc7 h=>?_))
 ·refine af ?_
  refine ai [(2,pI 1)] (by kernel_rfl) (fB ?_)
  exact zz r h rfl
 refine ag ?_
 refine bN (ai [(2,pI 0)] (by kernel_rfl) (dB ?_))
 exact zz r h rfl
def gN (p0:Zc):Option (Int×Bool):=cond ((((((decide (p0.ID<1))||(decide (1000000<p0.ID)))||(decide (p0.Kind<1)))||(decide (6<p0.Kind)))||(decide (p0.Company<0)))||(decide (999<p0.Company))) (some ((2:Int),false)) ((fX p0.Prefix).bind fun x3=>cond (x3 == 0) (some ((1:Int),false)) (cond (decide (20<(p0.Origins.length:Int))) (some ((8:Int),false)) ((bk (S:=Int) (T:=(Unit)⊕(_)) (fun v6=>cond (decide (v6<(p0.Origins.length:Int))) ((idx p0.Origins v6).bind fun m10=>(de m10).bind fun x11=>(gd ((!(!x11))&&(decide (0<v6))) (idx p0.Origins (IntKind.i64.wrap (v6 - 1)))).bind fun m12=>(gd ((!(!x11))&&(decide (0<v6))) (idx p0.Origins v6)).bind fun m13=>cond ((!x11)||((decide (0<v6))&&(!Op.bytesLess m12.toList m13.toList))) (some (.inr (.inr ((1:Int),false)))) (some (.inl (IntKind.i64.wrap (v6+1))))) (some (.inr (.inl ())))) FUEL 0).bind fun q=>match q with | .inl _=>cond (((((decide (p0.From<0))||(decide (p0.To≤p0.From)))||(decide (36525<p0.To)))||(decide (p0.Registered<(-1))))||(decide (p0.From<p0.Registered))) (some ((2:Int),false)) ((gM p0.Duty).bind fun x16=>some (x16,(x16 == 0))) | .inr e=>some e)))
theorem rS {p0:Zc} {r:(Int×Bool)}  (h:gN p0=some r):PF 29 [.agg (aU p0)] (.tup [pI r.1,pB r.2]):=by
 unfold gN at h
 refine bi ?_
 refine eg Tryz.func29 rfl Tryz.ntmps29 Tryz.results29 rfl (ae (ar rfl (bB (cs:=(aU p0)) rfl rfl (fun b1=>bu [2,3] (by kernel_rfl) (bN (aT [0,0,0,0,0,0] (rg 7 28) [(4,pB ((((((decide (p0.ID<1))||(decide (1000000<p0.ID)))||(decide (p0.Kind<1)))||(decide (6<p0.Kind)))||(decide (p0.Company<0)))||(decide (999<p0.Company))))] (by kernel_rfl) (cH (ai [(35,pB ((((((decide (p0.ID<1))||(decide (1000000<p0.ID)))||(decide (p0.Kind<1)))||(decide (6<p0.Kind)))||(decide (p0.Company<0)))||(decide (999<p0.Company))))] (by kernel_rfl) (bZ rfl h (fun hc2 h=>?_) fun hc2 h=>?_)))))))))
 ·refine af ?_
  refine ai [(2,pI 2),(3,pB false)] (by kernel_rfl) (fB ?_)
  obtain rfl:=osi h
  exact aM (bR (aK rfl) (aK rfl)) bD ⟨rfl,rfl⟩
 refine ag ?_
 refine cH (aa h fun x3 hx3 h=>aD [0] [36,37,38] [(39,pB (x3 == 0))] (bz 2 (kU hx3) bA) (by kernel_rfl) (bZ rfl h (fun hc4 h=>?_) fun hc4 h=>?_))
 ·refine af ?_
  refine ai [(2,pI 1),(3,pB false)] (by kernel_rfl) (fB ?_)
  obtain rfl:=osi h
  exact aM (bR (aK rfl) (aK rfl)) bD ⟨rfl,rfl⟩
 refine ag ?_
 refine cH (aT [0] [40,41,42] [(43,pB (decide (20<(p0.Origins.length:Int))))] (by kernel_rfl) (bZ rfl h (fun hc5 h=>?_) fun hc5 h=>?_))
 ·refine af ?_
  refine ai [(2,pI 8),(3,pB false)] (by kernel_rfl) (fB ?_)
  obtain rfl:=osi h
  exact aM (bR (aK rfl) (aK rfl)) bD ⟨rfl,rfl⟩
 refine ag ?_
 refine cH (ai [(5,pI 0)] (by kernel_rfl) (fu h fun q8 hq8 h=>?_))
 refine av (Y:=Unit×Unit) (fun (_,_)=>[(1,pP b1 0)]) (fun (_,_)=>[PRes.b b1 48 (aU p0)]) (fun (_,_)=>q8=Sum.inl ()) ?_ ?_
 ·refine an ?_
  refine aY (Y:=Unit) (S:=Int) _ hq8 (fun _ v6=>[(1,pP b1 0),(5,pI v6)]) (fun _ v6=>[PRes.b b1 48 (aU p0)]) () (ke rfl) dx ?_
  rintro _ v6 o τ hb7;(try dsimp only at hb7);dsimp only [aF]
  refine fW (aT [0] [44,45,46,47] [(48,pB (decide (v6<(p0.Origins.length:Int))))] (by kernel_rfl) (bZ rfl hb7 (fun hc9 hb7=>?_) fun hc9 hb7=>?_))
  ·refine ag ?_
   refine bN (an (af (bH (ρd:=[]) [(0,0),(1,0),(2,0),(3,0),(4,0),(5,1),(6,0),(7,0),(8,0),(9,0),(10,0),(11,0),(12,0),(13,0),(14,0),(15,0),(16,0),(17,0),(18,0),(19,0),(20,0),(21,0),(22,0),(23,0),(24,0)] _ (List.Perm.refl _) (by kernel_rfl) rfl (aa hb7 fun m10 hm10 hb7=>aa hb7 fun x11 hx11 hb7=>aa hb7 fun m12 hm12 hb7=>aa hb7 fun m13 hm13 hb7=>bV 25 [0,0,0] (rg 51 24) [(75,pB ((!x11)||((decide (0<v6))&&(!Op.bytesLess m12.toList m13.toList))))] (eH 3 eS hm10 (bz 5 (jL hx11) (hY 15 eS (cB hm12) (hY 20 eS (cB hm13) bA)))) (by kernel_rfl) (ce (bZ rfl hb7 (fun hc14 hb7=>?_) fun hc14 hb7=>?_))))))
   ·refine af ?_
    refine ai [(2,pI 1),(3,pB false)] (by kernel_rfl) (dB (aw (aP ?_)))
    refine bp hb7 (fun ht=>?_);subst ht
    refine aw (bt ?_)
    obtain rfl:=osi h
    exact aM (bR (aK rfl) (aK rfl)) bD ⟨rfl,rfl⟩
   refine ag ?_
   refine aj (aH (ah [49,50] [(5,pI (IntKind.i64.wrap (v6+1)))] (by kernel_rfl) ?_))
   exact bm hb7 () (ke rfl) dx
  refine ba ?_
  refine aI (aB hb7 (fun ht=>aG rfl ?_))
  exact au ((),()) (wZ rfl) dx ht.symm
 rintro ⟨_,_⟩ τ hz;(try dsimp only at hz);subst q8;(try dsimp only at h);dsimp only [aF]
 refine fW (aT [0,0,0,0,0,0,0] (rg 76 26) [(102,pB (((((decide (p0.From<0))||(decide (p0.To≤p0.From)))||(decide (36525<p0.To)))||(decide (p0.Registered<(-1))))||(decide (p0.From<p0.Registered))))] (by kernel_rfl) (bZ rfl h (fun hc15 h=>?_) fun hc15 h=>?_))
 ·refine af ?_
  refine ai [(2,pI 2),(3,pB false)] (by kernel_rfl) (fB ?_)
  obtain rfl:=osi h
  exact aM (bR (aK rfl) (aK rfl)) bD ⟨rfl,rfl⟩
 refine ag ?_
 refine eo h fun x16 hx16 h=>aD [0] [103,104,105] [(6,pI x16)] (bz 2 (lI hx16) bA) (by kernel_rfl) (bN (ah [106,107,108] [(2,pI x16),(3,pB (x16 == 0))] (by kernel_rfl) (dB ?_)))
 obtain rfl:=osi h
 exact aM (bR (aK rfl) (aK rfl)) bD ⟨rfl,rfl⟩
def ff (p0:(List Zc)):Option Int:=cond (decide (300<(p0.length:Int))) (some (8:Int)) ((bk (S:=Int) (T:=(Unit)⊕(_)) (fun v2=>cond (decide (v2<(p0.length:Int))) ((idx p0 v2).bind fun m6=>cond ((((((decide (m6.ID<1))||(decide (1000000<m6.ID)))||(decide (m6.Kind<1)))||(decide (6<m6.Kind)))||(decide (m6.Company<0)))||(decide (999<m6.Company))) (some (.inr (.inr (2:Int)))) ((gd (decide (0<v2)) (idx p0 (IntKind.i64.wrap (v2 - 1)))).bind fun m9=>cond ((decide (0<v2))&&(decide (m6.ID≤m9.ID))) (some (.inr (.inr (9:Int)))) ((gN m6).bind fun x11=>cond (x11.1 != 0) (some (.inr (.inr x11.1))) (some (.inl (IntKind.i64.wrap (v2+1))))))) (some (.inr (.inl ())))) FUEL 0).bind fun q=>match q with | .inl _=>some (0:Int) | .inr e=>some e)
theorem mT {p0:(List Zc)} {r:Int}  (h:ff p0=some r):PF 11 [pL Zc.enc p0] (pI r):=by
 unfold ff at h
 refine bi ?_
 refine eg Tryz.func11 rfl Tryz.ntmps11 Tryz.results11 rfl (bf [2] (by kernel_rfl) (cH (ah [7,8] [(9,pB (decide (300<(p0.length:Int))))] (by kernel_rfl) (bZ rfl h (fun hc1 h=>?_) fun hc1 h=>?_))))
 ·refine af ?_
  refine ai [(2,pI 8)] (by kernel_rfl) (fB ?_)
  exact zz r h rfl
 refine ag ?_
 refine cH (ai [(3,pI 0)] (by kernel_rfl) (fu h fun q4 hq4 h=>?_))
 refine av (Y:=Unit×Unit) (fun (_,_)=>[]) (fun (_,_)=>[]) (fun (_,_)=>q4=Sum.inl ()) ?_ ?_
 ·refine an ?_
  refine aY (Y:=Unit) (S:=Int) _ hq4 (fun _ v2=>[(0,pL Zc.enc p0),(3,pI v2)]) (fun _ v2=>[]) () (ke rfl) bD ?_
  rintro _ v2 o τ hb3;(try dsimp only at hb3);dsimp only [aF]
  refine fW (ah [10,11,12] [(13,pB (decide (v2<(p0.length:Int))))] (by kernel_rfl) (bZ rfl hb3 (fun hc5 hb3=>?_) fun hc5 hb3=>?_))
  ·refine ag ?_
   refine bN (an (af (aa hb3 fun m6 hm6 hb3=>ae (bd 4 [] [16,17,18] [(19,.agg (aU m6))] (eH 2 Zc.enc hm6 bA) (by kernel_rfl) (ar rfl (be (cs:=[pI 0,pI 0,pS ByteArray.empty,pN,pI 0,pI 0,pI 0,pI 0,pI 0,pI 0,pI 0,pB false,pI 0,pB false,pI 0]) rfl rfl rfl rfl (fun b7=>aQ rfl rfl (ak (vs:=(aU m6)) rfl rfl rfl rfl rfl cn (dg (dg (dg (dg (dg (dg xX)))))) (az (cH (aT [0,0,0,0,0,0] (rg 20 27) [(47,pB ((((((decide (m6.ID<1))||(decide (1000000<m6.ID)))||(decide (m6.Kind<1)))||(decide (6<m6.Kind)))||(decide (m6.Company<0)))||(decide (999<m6.Company))))] (by kernel_rfl) (bZ rfl hb3 (fun hc8 hb3=>?_) fun hc8 hb3=>?_))))))))))))
   ·refine af ?_
    refine ai [(2,pI 2)] (by kernel_rfl) (fB (aw (aP ?_)))
    refine bp hb3 (fun ht=>?_);subst ht
    refine aw (bt ?_)
    exact zz r h rfl
   refine ag ?_
   refine cH (bH (ρd:=[]) [(0,0),(1,0),(2,0),(3,0),(4,0),(5,0),(6,0),(7,0),(8,0),(9,0),(10,0),(11,0),(12,0)] _ (List.Perm.refl _) (by kernel_rfl) rfl (aa hb3 fun m9 hm9 hb3=>bV 13 [0] (rg 48 12) [(60,pB ((decide (0<v2))&&(decide (m6.ID≤m9.ID))))] (hY 8 Zc.enc (cB hm9) bA) (by kernel_rfl) (ce (bZ rfl hb3 (fun hc10 hb3=>?_) fun hc10 hb3=>?_))))
   ·refine af ?_
    refine ai [(2,pI 9)] (by kernel_rfl) (fB (aw (aP ?_)))
    refine bp hb3 (fun ht=>?_);subst ht
    refine aw (bt ?_)
    exact zz r h rfl
   refine ag ?_
   refine eo hb3 fun x11 hx11 hb3=>aD [0] [62,63,61,64,65,6] [(5,pI x11.1)] (bz 1 (rS hx11) bA) (by kernel_rfl) (bN (ah [66] [(67,pB (x11.1 != 0))] (by kernel_rfl) (bZ rfl hb3 (fun hc12 hb3=>?_) fun hc12 hb3=>?_)))
   ·refine af ?_
    refine ah [68] [(2,pI x11.1)] (by kernel_rfl) (dB (aw (aP ?_)))
    refine bp hb3 (fun ht=>?_);subst ht
    refine aw (bt ?_)
    exact zz r h rfl
   refine ag ?_
   refine aj (aH (ah [14,15] [(3,pI (IntKind.i64.wrap (v2+1)))] (by kernel_rfl) ?_))
   exact bm hb3 () (ke rfl) bD
  refine ba ?_
  refine aI (aB hb3 (fun ht=>aG rfl ?_))
  exact au ((),()) lw bD ht.symm
 rintro ⟨_,_⟩ τ hz;(try dsimp only at hz);subst q4;(try dsimp only at h);dsimp only [aF]
 refine af (ai [(2,pI 0)] (by kernel_rfl) (dB ?_))
 exact zz r h rfl
def fO (p0:Zj):Option Int:=(fX p0.Code).bind fun x2=>(gd (!(x2 != 8)) (de p0.Origin)).bind fun x3=>cond ((x2 != 8)||(!x3)) (some (1:Int)) (cond ((((((((((decide (p0.Company<0))||(decide (999<p0.Company)))||(decide (p0.Day<0)))||(decide (36524<p0.Day)))||(decide (p0.Quantity<0)))||(decide (1000000000<p0.Quantity)))||(decide (p0.Value<0)))||(decide (1000000000000<p0.Value)))||(decide (p0.Granted<0)))||(decide (p0.Quantity<p0.Granted))) (some (2:Int)) (some (0:Int)))
theorem qn {p0:Zj} {r:Int}  (h:fO p0=some r):PF 12 [.agg (cw p0)] (pI r):=by
 unfold fO at h
 refine bi ?_
 refine eg Tryz.func12 rfl Tryz.ntmps12 Tryz.results12 rfl (ae (ar rfl (bB (cs:=(cw p0)) rfl rfl (fun b1=>bu [2] (by kernel_rfl) (cH (aa h fun x2 hx2 h=>aa h fun x3 hx3 h=>aD [0,0] (rg 3 9) [(12,pB ((x2 != 8)||(!x3)))] (bz 2 (kU hx2) (eJ 7 (fun hc=>jL (cB hx3 hc)) bA)) (by kernel_rfl) (bZ rfl h (fun hc4 h=>?_) fun hc4 h=>?_)))))))
 ·refine af ?_
  refine ai [(2,pI 1)] (by kernel_rfl) (fB ?_)
  exact zz r h rfl
 refine ag ?_
 refine cH (aT [0,0,0,0,0,0,0,0,0,0,0] (rg 13 49) [(62,pB ((((((((((decide (p0.Company<0))||(decide (999<p0.Company)))||(decide (p0.Day<0)))||(decide (36524<p0.Day)))||(decide (p0.Quantity<0)))||(decide (1000000000<p0.Quantity)))||(decide (p0.Value<0)))||(decide (1000000000000<p0.Value)))||(decide (p0.Granted<0)))||(decide (p0.Quantity<p0.Granted))))] (by kernel_rfl) (bZ rfl h (fun hc5 h=>?_) fun hc5 h=>?_))
 ·refine af ?_
  refine ai [(2,pI 2)] (by kernel_rfl) (fB ?_)
  exact zz r h rfl
 refine ag ?_
 refine bN (ai [(2,pI 0)] (by kernel_rfl) (dB ?_))
 exact zz r h rfl
def dC (p0:Ze) (p1:Ze):Option (Ze×Bool):=Option.bind (cond (decide ((IntKind.u64.wrap (p0.Lo+p1.Lo))<p0.Lo)) (lb ((IntKind.u64.wrap ((IntKind.u64.wrap (p0.Hi+p1.Hi))+1))) (fun w8=>some (w8,((decide ((IntKind.u64.wrap (p0.Hi+p1.Hi))<p0.Hi))||(w8 == 0))))) (some ((IntKind.u64.wrap (p0.Hi+p1.Hi)),(decide ((IntKind.u64.wrap (p0.Hi+p1.Hi))<p0.Hi))))) (fun (v4,v5)=>some ((⟨v4,(IntKind.u64.wrap (p0.Lo+p1.Lo))⟩:Ze),v5))
theorem gw {p0:Ze} {p1:Ze} {r:(Ze×Bool)}  (h:dC p0 p1=some r):PF 38 [.agg [pU p0.Hi,pU p0.Lo],.agg [pU p1.Hi,pU p1.Lo]] (.tup [.agg [pU r.1.Hi,pU r.1.Lo],pB r.2]):=by
 unfold dC at h
 refine bi ?_
 refine eg Tryz.func38 rfl Tryz.ntmps38 Tryz.results38 rfl (ae (ar rfl (bB (cs:=[pU p0.Hi,pU p0.Lo]) rfl rfl (fun b1=>ar rfl (bB (cs:=[pU p1.Hi,pU p1.Lo]) rfl rfl (fun b2=>ar rfl (be (cs:=[pU 0,pU 0]) rfl rfl rfl rfl (fun b3=>bu [5] (by kernel_rfl) (bN (bH (ρd:=[]) [(0,0),(1,0),(2,0),(3,0),(4,0),(5,0),(6,0),(7,0),(8,0),(9,0),(10,0),(11,0)] _ (List.Perm.refl _) (by kernel_rfl) rfl (kS 12 [2,1,2,1] (rg 9 10) [(6,pU (IntKind.u64.wrap (p0.Lo+p1.Lo))),(7,pU (IntKind.u64.wrap (p0.Hi+p1.Hi)))] (by kernel_rfl) (ce (bN (aT [2] [19,20,21,22] [(8,pB (decide ((IntKind.u64.wrap (p0.Hi+p1.Hi))<p0.Hi)))] (by kernel_rfl) (cH (aT [2] [23,24,25] [(26,pB (decide ((IntKind.u64.wrap (p0.Lo+p1.Lo))<p0.Lo)))] (by kernel_rfl) (fu h fun q6 hq6 h=>?_)))))))))))))))))
 refine av (Y:=Unit×(Int×Bool)) (fun (_,(v4,v5))=>[(4,pP b3 0),(6,pU (IntKind.u64.wrap (p0.Lo+p1.Lo))),(7,pU v4),(8,pB v5)]) (fun (_,(v4,v5))=>[PRes.b b3 80 [pU 0,pU 0]]) (fun (_,(v4,v5))=>q6=(v4,v5)) ?_ ?_
 ·skip
  refine iQ rfl hq6 (fun hc7 hq6=>?_) fun hc7 hq6=>?_
  ·refine af ?_
   refine cL hq6 ?_;clear hq6;intro w8 hw8 hq6
   refine ae (bY 2 [27] [(28,pU (IntKind.u64.wrap ((IntKind.u64.wrap (p0.Hi+p1.Hi))+1)))] (by kernel_rfl) (bE rfl rfl rfl (bc rfl (.p (congrArg (fun z=>PV.v (Value.int .u64 z)) hw8))) (az (aH (ah (rg 29 5) [(8,pB ((decide ((IntKind.u64.wrap (p0.Hi+p1.Hi))<p0.Hi))||(w8 == 0)))] (by kernel_rfl) ?_)))))
   obtain rfl:=osi hq6
   exact au ((),(w8,((decide ((IntKind.u64.wrap (p0.Hi+p1.Hi))<p0.Hi))||(w8 == 0)))) (kf rfl) dx rfl
  refine ag ?_
  obtain rfl:=osi hq6
  exact au ((),((IntKind.u64.wrap (p0.Hi+p1.Hi)),(decide ((IntKind.u64.wrap (p0.Hi+p1.Hi))<p0.Hi)))) (kf rfl) dx rfl
 rintro ⟨_,⟨v4,v5⟩⟩ τ hz;(try dsimp only at hz);subst q6;(try dsimp only at h);dsimp only [aF]
 refine af (ae (bY 4 [34,35] [(36,.agg [pU v4,pU (IntKind.u64.wrap (p0.Lo+p1.Lo))]),(37,pB v5)] (by kernel_rfl) (aQ rfl rfl (ak (vs:=[pU v4,pU (IntKind.u64.wrap (p0.Lo+p1.Lo))]) rfl rfl rfl rfl rfl cn jV (aL [(5,pB v5)] (by kernel_rfl) (dB ?_))))))
 obtain rfl:=osi h
 exact aM (bR (dh rfl eD rfl) (aK rfl)) bD ⟨rfl,rfl⟩
def ex (p0:Ze) (p1:Int):Option (Ze×Int):=(bk (S:=Int×Int×Int×Int) (T:=(Int×Int×Int)) (fun (v4,v5,v6,v7)=>cond (decide (0≤v5)) (((lG (dd .i64 v5 63)).bind fun u18=>lb ((dd .u64 (co .u64 p0.Lo (dd .i64 v5 63)) 1)) (fun w19=>Option.bind (cond (decide (63<v5)) ((lG (IntKind.i64.wrap (v5 - 64))).bind fun u23=>lb ((dd .u64 (co .u64 p0.Hi (IntKind.i64.wrap (v5 - 64))) 1)) (fun w24=>some w24)) (some w19)) (fun v20=>(dC (⟨v6,v7⟩:Ze) (⟨v6,v7⟩:Ze)).bind fun x25=>cond (((co .u64 v4 63) == 1)||(decide (p1≤(mj .u64 (dV .u64 v4 1) v20)))) (lb ((IntKind.u64.wrap ((mj .u64 (dV .u64 v4 1) v20) - p1))) (fun w27=>some (w27,x25.1.Hi,(mj .u64 x25.1.Lo 1)))) (some ((mj .u64 (dV .u64 v4 1) v20),x25.1.Hi,x25.1.Lo))))).bind fun (v14,v15,v16)=>some (.inl (v14,(IntKind.i64.wrap (v5 - 1)),v15,v16))) (some (.inr (v4,v6,v7)))) FUEL (0,127,0,0)).bind fun (v8,v9,v10)=>some ((⟨v9,v10⟩:Ze),v8)
theorem kq {p0:Ze} {p1:Int} {r:(Ze×Int)}  (h:ex p0 p1=some r):PF 32 [.agg [pU p0.Hi,pU p0.Lo],pU p1] (.tup [.agg [pU r.1.Hi,pU r.1.Lo],pU r.2]):=by
 unfold ex at h
 refine bi ?_
 refine eg Tryz.func32 rfl Tryz.ntmps32 Tryz.results32 rfl (ae (ar rfl (bB (cs:=[pU p0.Hi,pU p0.Lo]) rfl rfl (fun b1=>ar rfl (be (cs:=[pU 0,pU 0]) rfl rfl rfl rfl (fun b2=>bu [5] (by kernel_rfl) (bN (ae (aA 1 [(11,.agg [pU 0,pU 0])] (by kernel_rfl) (ar rfl (be (cs:=[pU 0,pU 0]) rfl rfl rfl rfl (fun b3=>aQ rfl rfl (ak (vs:=[pU 0,pU 0]) rfl rfl rfl rfl rfl cn jV (aL [(7,pU 0)] (by kernel_rfl) (cH (ai [(8,pI 127)] (by kernel_rfl) (fu h fun q12 hq12 h=>?_)))))))))))))))))
 refine av (Y:=Unit×(Int×Int×Int)) (fun (_,(v8,v9,v10))=>[(4,pP b2 0),(6,pP b3 0),(7,pU v8)]) (fun (_,(v8,v9,v10))=>[PRes.b b2 80 [pU 0,pU 0],PRes.b b3 80 [pU v9,pU v10]]) (fun (_,(v8,v9,v10))=>q12=(v8,v9,v10)) ?_ ?_
 ·refine an ?_
  refine aY (Y:=Unit) (S:=Int×Int×Int×Int) _ hq12 (fun _ (v4,v5,v6,v7)=>[(1,pU p1),(2,pP b1 0),(4,pP b2 0),(6,pP b3 0),(7,pU v4),(8,pI v5)]) (fun _ (v4,v5,v6,v7)=>[PRes.b b1 80 [pU p0.Hi,pU p0.Lo],PRes.b b2 80 [pU 0,pU 0],PRes.b b3 80 [pU v6,pU v7]]) () (qj rfl) (bv (aR (aR aZ)) (bv (aR aZ) dx)) ?_
  rintro _ ⟨v4,v5,v6,v7⟩ o τ hb11;(try dsimp only at hb11);dsimp only [aF]
  refine fW (ah [12] [(13,pB (decide (0≤v5)))] (by kernel_rfl) (bZ rfl hb11 (fun hc13 hb11=>?_) fun hc13 hb11=>?_))
  ·refine ag ?_
   refine eo hb11 fun q17 hq17 hb11=>?_
   refine av (Y:=Unit×(Int×Int×Int)) (fun (_,(v14,v15,v16))=>[(1,pU p1),(2,pP b1 0),(4,pP b2 0),(6,pP b3 0),(7,pU v14),(8,pI v5)]) (fun (_,(v14,v15,v16))=>[PRes.b b1 80 [pU p0.Hi,pU p0.Lo],PRes.b b2 80 [pU 0,pU 0],PRes.b b3 80 [pU v15,pU v16]]) (fun (_,(v14,v15,v16))=>q17=(v14,v15,v16)) ?_ ?_
   ·skip
    refine an (af (aa hq17 fun u18 hu18 hq17=>?_))
    refine cL hq17 ?_;clear hq17;intro w19 hw19 hq17
    refine ae (bd 6 [0] (rg 16 5) [(21,pU (dd .u64 (co .u64 p0.Lo (dd .i64 v5 63)) 1))] (rI 4 hu18 bA) (by kernel_rfl) (bE rfl rfl rfl (bc rfl (.p (congrArg (fun z=>PV.v (Value.int .u64 z)) hw19))) (az (cH (ah [22] [(23,pB (decide (63<v5)))] (by kernel_rfl) (fu hq17 fun q21 hq21 hq17=>?_))))))
    refine av (Y:=Unit×Int) (fun (_,v20)=>[(1,pU p1),(2,pP b1 0),(4,pP b2 0),(6,pP b3 0),(7,pU v4),(8,pI v5),(9,pU v20)]) (fun (_,v20)=>[PRes.b b1 80 [pU p0.Hi,pU p0.Lo],PRes.b b2 80 [pU 0,pU 0],PRes.b b3 80 [pU v6,pU v7]]) (fun (_,v20)=>q21=v20) ?_ ?_
    ·skip
     refine iQ rfl hq21 (fun hc22 hq21=>?_) fun hc22 hq21=>?_
     ·refine aa hq21 ?_;clear hq21;intro u23 hu23 hq21
      refine cL hq21 ?_;clear hq21;intro w24 hw24 hq21
      refine ae (bd 6 [0] (rg 24 5) [(29,pU (dd .u64 (co .u64 p0.Hi (IntKind.i64.wrap (v5 - 64))) 1))] (rI 4 hu23 bA) (by kernel_rfl) (bE rfl rfl rfl (bc rfl (.p (congrArg (fun z=>PV.v (Value.int .u64 z)) hw24))) (az ?_)))
      obtain rfl:=osi hq21
      exact au ((),w24) (ui rfl) mH rfl
     refine ag ?_
     obtain rfl:=osi hq21
     exact au ((),w19) (ui rfl) mH rfl
    rintro ⟨_,v20⟩ τ hz;(try dsimp only at hz);subst q21;(try dsimp only at hq17);dsimp only [aF]
    refine af (ah [30,31] [(10,pU (co .u64 v4 63))] (by kernel_rfl) (bN (ah [32,33,34,35] [(7,pU (mj .u64 (dV .u64 v4 1) v20))] (by kernel_rfl) (eo hq17 fun x25 hx25 hq17=>ae (bd 6 [2,2] [37,38,39,36,41] [(40,.agg [pU x25.1.Hi,pU x25.1.Lo])] (bz 2 (gw hx25) bA) (by kernel_rfl) (aQ rfl rfl (ak (vs:=[pU x25.1.Hi,pU x25.1.Lo]) rfl rfl rfl rfl rfl (cA (cA cn)) jV (az (bN (ah (rg 42 6) [(48,pB (((co .u64 v4 63) == 1)||(decide (p1≤(mj .u64 (dV .u64 v4 1) v20)))))] (by kernel_rfl) (bZ rfl hq17 (fun hc26 hq17=>?_) fun hc26 hq17=>?_)))))))))))
    ·refine af ?_
     refine cL hq17 ?_;clear hq17;intro w27 hw27 hq17
     refine ae (bY 3 [49,50] [(51,pU (IntKind.u64.wrap ((mj .u64 (dV .u64 v4 1) v20) - p1)))] (by kernel_rfl) (bE rfl rfl rfl (bc rfl (.p (congrArg (fun z=>PV.v (Value.int .u64 z)) hw27))) (az (aH (ae (cq 4 [2] [52,53] [(54,pU (mj .u64 x25.1.Lo 1)),(55,pP b3 1)] (by kernel_rfl) (aQ rfl rfl (ak (vs:=[pU (mj .u64 x25.1.Lo 1)]) rfl rfl rfl rfl rfl (cA (cA cn)) (bQ eX) (az (aj ?_))))))))))
     obtain rfl:=osi hq17
     exact au ((),(w27,x25.1.Hi,(mj .u64 x25.1.Lo 1))) (qj rfl) mH rfl
    refine ag ?_
    refine aj ?_
    obtain rfl:=osi hq17
    exact au ((),((mj .u64 (dV .u64 v4 1) v20),x25.1.Hi,x25.1.Lo)) (qj rfl) mH rfl
   rintro ⟨_,⟨v14,v15,v16⟩⟩ τ hz;(try dsimp only at hz);subst q17;(try dsimp only at hb11);dsimp only [aF]
   refine ah [14,15] [(8,pI (IntKind.i64.wrap (v5 - 1)))] (by kernel_rfl) ?_
   exact bm hb11 () (qj rfl) mH
  refine ba ?_
  refine aI (aB hb11 (fun ht=>aG rfl ?_))
  exact au ((),(v4,v6,v7)) (jh rfl) (bv (aR aZ) (bv (aR aZ) bD)) ht.symm
 rintro ⟨_,⟨v8,v9,v10⟩⟩ τ hz;(try dsimp only at hz);subst q12;(try dsimp only at h);dsimp only [aF]
 refine af (ae (fe 2 [1] [(56,.agg [pU v9,pU v10]),(57,pU v8)] (by kernel_rfl) (aQ rfl rfl (ak (vs:=[pU v9,pU v10]) rfl rfl rfl rfl rfl cn jV (aL [(5,pU v8)] (by kernel_rfl) (dB ?_))))))
 obtain rfl:=osi h
 exact aM (bR (dh rfl eD rfl) (aK rfl)) bD ⟨rfl,rfl⟩
def fy (p0:Int) (p1:Int):Option Ze:=(bk (S:=Int×Int×Int) (T:=(Int×Int)) (fun (v3,v4,v5)=>cond (decide (0≤v3)) (((dC (⟨v4,v5⟩:Ze) (⟨v4,v5⟩:Ze)).bind fun x14=>(lG v3).bind fun u15=>cond ((dd .u64 (co .u64 p1 v3) 1) == 1) ((dC x14.1 (⟨0,p0⟩:Ze)).bind fun x17=>some (x17.1.Hi,x17.1.Lo)) (some (x14.1.Hi,x14.1.Lo))).bind fun (v11,v12)=>some (.inl ((IntKind.i64.wrap (v3 - 1)),v11,v12))) (some (.inr (v4,v5)))) FUEL (63,0,0)).bind fun (v6,v7)=>some (⟨v6,v7⟩:Ze)
theorem kg {p0:Int} {p1:Int} {r:Ze}  (h:fy p0 p1=some r):PF 33 [pU p0,pU p1] (.agg [pU r.Hi,pU r.Lo]):=by
 unfold fy at h
 refine bi ?_
 refine eg Tryz.func33 rfl Tryz.ntmps33 Tryz.results33 rfl (ae (ar rfl (be (cs:=[pU 0,pU 0]) rfl rfl rfl rfl (fun b1=>az (bN (ae (aA 1 [(7,.agg [pU 0,pU 0])] (by kernel_rfl) (ar rfl (be (cs:=[pU 0,pU 0]) rfl rfl rfl rfl (fun b2=>aQ rfl rfl (ak (vs:=[pU 0,pU 0]) rfl rfl rfl rfl rfl cn jV (az (cH (ai [(6,pI 63)] (by kernel_rfl) (fu h fun q9 hq9 h=>?_)))))))))))))))
 refine av (Y:=Unit×(Int×Int)) (fun (_,(v6,v7))=>[(4,pP b1 0),(5,pP b2 0)]) (fun (_,(v6,v7))=>[PRes.b b1 80 [pU 0,pU 0],PRes.b b2 80 [pU v6,pU v7]]) (fun (_,(v6,v7))=>q9=(v6,v7)) ?_ ?_
 ·refine an ?_
  refine aY (Y:=Unit) (S:=Int×Int×Int) _ hq9 (fun _ (v3,v4,v5)=>[(0,pU p0),(1,pU p1),(4,pP b1 0),(5,pP b2 0),(6,pI v3)]) (fun _ (v3,v4,v5)=>[PRes.b b1 80 [pU 0,pU 0],PRes.b b2 80 [pU v4,pU v5]]) () (kO rfl) (bv (aR aZ) dx) ?_
  rintro _ ⟨v3,v4,v5⟩ o τ hb8;(try dsimp only at hb8);dsimp only [aF]
  refine fW (ah [8] [(9,pB (decide (0≤v3)))] (by kernel_rfl) (bZ rfl hb8 (fun hc10 hb8=>?_) fun hc10 hb8=>?_))
  ·refine ag ?_
   refine eo hb8 fun q13 hq13 hb8=>?_
   refine av (Y:=Unit×(Int×Int)) (fun (_,(v11,v12))=>[(0,pU p0),(1,pU p1),(4,pP b1 0),(5,pP b2 0),(6,pI v3)]) (fun (_,(v11,v12))=>[PRes.b b1 80 [pU 0,pU 0],PRes.b b2 80 [pU v11,pU v12]]) (fun (_,(v11,v12))=>q13=(v11,v12)) ?_ ?_
   ·skip
    refine an (af (aa hq13 fun x14 hx14 hq13=>ae (bd 6 [1,1] [13,14,15,12,17] [(16,.agg [pU x14.1.Hi,pU x14.1.Lo])] (bz 2 (gw hx14) bA) (by kernel_rfl) (aQ rfl rfl (ak (vs:=[pU x14.1.Hi,pU x14.1.Lo]) rfl rfl rfl rfl rfl (cA cn) jV (az (eo hq13 fun u15 hu15 hq13=>aD [] [18,19,20,21] [(22,pB ((dd .u64 (co .u64 p1 v3) 1) == 1))] (rI 2 hu15 bA) (by kernel_rfl) (bZ rfl hq13 (fun hc16 hq13=>?_) fun hc16 hq13=>?_))))))))
    ·refine aa hq13 ?_;clear hq13;intro x17 hx17 hq13
     refine ae (bd 7 [1] [24,25,26,27,23,29] [(28,.agg [pU x17.1.Hi,pU x17.1.Lo])] (bz 3 (gw hx17) bA) (by kernel_rfl) (aQ rfl rfl (ak (vs:=[pU x17.1.Hi,pU x17.1.Lo]) rfl rfl rfl rfl rfl (cA cn) jV (az (aj ?_)))))
     obtain rfl:=osi hq13
     exact au ((),(x17.1.Hi,x17.1.Lo)) (kO rfl) ml rfl
    refine ag ?_
    refine aj ?_
    obtain rfl:=osi hq13
    exact au ((),(x14.1.Hi,x14.1.Lo)) (kO rfl) ml rfl
   rintro ⟨_,⟨v11,v12⟩⟩ τ hz;(try dsimp only at hz);subst q13;(try dsimp only at hb8);dsimp only [aF]
   refine ah [10,11] [(6,pI (IntKind.i64.wrap (v3 - 1)))] (by kernel_rfl) ?_
   exact bm hb8 () (kO rfl) ml
  refine ba ?_
  refine aI (aB hb8 (fun ht=>aG rfl ?_))
  exact au ((),(v4,v5)) (ke rfl) ml ht.symm
 rintro ⟨_,⟨v6,v7⟩⟩ τ hz;(try dsimp only at hz);subst q9;(try dsimp only at h);dsimp only [aF]
 refine af (ae (fe 1 [1] [(30,.agg [pU v6,pU v7])] (by kernel_rfl) (aQ rfl rfl (ak (vs:=[pU v6,pU v7]) rfl rfl rfl rfl rfl cn jV (az (dB ?_))))))
 obtain rfl:=osi h
 exact aM (gp (dh rfl eD rfl)) bD ⟨rfl,rfl⟩
def fZ (p0:Int) (p1:(List Int)):Option ((List Int)×Int):=cond (decide (1000<(p1.length:Int))) (some ([],(8:Int))) ((bk (S:=Bool×Int) (T:=(Bool)) (fun (v2,v3)=>cond (decide (v3<(p1.length:Int))) ((gd (!v2) (idx p1 v3)).bind fun m8=>(gd (!(v2||(decide (m8<0)))) (idx p1 v3)).bind fun m9=>some (.inl (((v2||(decide (m8<0)))||(decide (1000000000000<m9))),(IntKind.i64.wrap (v3+1))))) (some (.inr v2))) FUEL (((decide (p0<0))||(decide (1000000000000<p0))),0)).bind fun v4=>cond v4 (some ([],(2:Int))) (cond (((p1.length:Int) == 0)&&(decide (0<p0))) (some ([],(7:Int))) ((bk (S:=Int×Int) (T:=(Int)) (fun (v12,v13)=>cond (decide (v13<(p1.length:Int))) ((idx p1 v13).bind fun m18=>some (.inl ((IntKind.i64.wrap (v12+m18)),(IntKind.i64.wrap (v13+1))))) (some (.inr v12))) FUEL (0,0)).bind fun v14=>(mk 8 (0:Int) (p1.length:Int)).bind fun l19=>(mk 8 (0:Int) (p1.length:Int)).bind fun l22=>(bk (S:=(List Int)×(List Int)×Int×Int) (T:=((List Int)×(List Int)×Int)) (fun (l26,l28,v29,v30)=>cond (decide (v30<(p1.length:Int))) ((idx p1 v30).bind fun m39=>Option.bind (cond (v14 == 0) (some (1,(p1.length:Int))) (some (m39,v14))) (fun (v42,v43)=>(fy (IntKind.u64.wrap p0) (IntKind.u64.wrap v42)).bind fun x46=>(ex x46 (IntKind.u64.wrap v43)).bind fun x47=>(idx l26 v30).bind fun m49=>(idx l28 v30).bind fun m51=>(idx (l26.set v30.toNat (IntKind.i64.wrap x47.1.Lo)) v30).bind fun m53=>some (.inl ((l26.set v30.toNat (IntKind.i64.wrap x47.1.Lo)),(l28.set v30.toNat (IntKind.i64.wrap x47.2)),(IntKind.i64.wrap (v29 - m53)),(IntKind.i64.wrap (v30+1)))))) (some (.inr (l26,l28,v29)))) FUEL (l19,l22,p0,0)).bind fun (l32,l34,v35)=>(bk (S:=(List Int)×(List Int)×Int) (T:=((List Int))) (fun (l55,l57,v58)=>cond (decide (0<v58)) ((bk (S:=Int×Int) (T:=(Int)) (fun (v64,v65)=>cond (decide (v65<((l22.length:Nat):Int))) (((idx l57 v65).bind fun m76=>(idx l57 v64).bind fun m77=>cond (decide (m77<m76)) (some v65) (some v64)).bind fun v74=>some (.inl (v74,(IntKind.i64.wrap (v65+1))))) (some (.inr v64))) FUEL (0,1)).bind fun v68=>(idx l55 v68).bind fun m79=>(idx l55 v68).bind fun m80=>(idx l57 v68).bind fun m82=>some (.inl ((l55.set v68.toNat (IntKind.i64.wrap (m79+1))),(l57.set v68.toNat (-1)),(IntKind.i64.wrap (v58 - 1))))) (some (.inr l55))) FUEL (l32,l34,v35)).bind fun l60=>some (l60,(0:Int)))))
theorem pJ {p0:Int} {p1:(List Int)} {r:((List Int)×Int)}  (h:fZ p0 p1=some r):PF 13 [pI p0,pL eI p1] (.tup [pL eI r.1,pI r.2]):=by
 unfold fZ at h
 refine bi ?_
 refine eg Tryz.func13 rfl Tryz.ntmps13 Tryz.results13 rfl (bf [4,5] (by kernel_rfl) (cH (ah [20,21] [(22,pB (decide (1000<(p1.length:Int))))] (by kernel_rfl) (bZ rfl h (fun hc1 h=>?_) fun hc1 h=>?_))))
 ·refine af ?_
  refine ai [(4,pN),(5,pI 8)] (by kernel_rfl) (aH (mB 4 rfl (cu (aP ?_))))
  obtain rfl:=osi h
  exact aM (bR (aK rfl) (aK rfl)) bD ⟨rfl,rfl⟩
 refine ag ?_
 refine bN (ah (rg 23 6) [(6,pB ((decide (p0<0))||(decide (1000000000000<p0)))),(7,pI 0)] (by kernel_rfl) (cH (ai [(8,pI 0)] (by kernel_rfl) (fu h fun q6 hq6 h=>?_))))
 refine av (Y:=Unit×Bool) (fun (_,v4)=>[(0,pI p0),(1,pL eI p1),(6,pB v4),(7,pI 0)]) (fun (_,v4)=>[]) (fun (_,v4)=>q6=v4) ?_ ?_
 ·refine an ?_
  refine aY (Y:=Unit) (S:=Bool×Int) _ hq6 (fun _ (v2,v3)=>[(0,pI p0),(1,pL eI p1),(6,pB v2),(7,pI 0),(8,pI v3)]) (fun _ (v2,v3)=>[]) () (kO rfl) bD ?_
  rintro _ ⟨v2,v3⟩ o τ hb5;(try dsimp only at hb5);dsimp only [aF]
  refine fW (ah [29,30,31] [(32,pB (decide (v3<(p1.length:Int))))] (by kernel_rfl) (bZ rfl hb5 (fun hc7 hb5=>?_) fun hc7 hb5=>?_))
  ·refine ag ?_
   refine bN (an (aa hb5 fun m8 hm8 hb5=>aa hb5 fun m9 hm9 hb5=>aD [] (rg 35 15) [(6,pB ((v2||(decide (m8<0)))||(decide (1000000000000<m9))))] (hY 4 eI (cB hm8) (hY 11 eI (cB hm9) bA)) (by kernel_rfl) (aj (aH (ah [33,34] [(8,pI (IntKind.i64.wrap (v3+1)))] (by kernel_rfl) ?_)))))
   exact bm hb5 () (kO rfl) bD
  refine ba ?_
  refine aI (aB hb5 (fun ht=>aG rfl ?_))
  exact au ((),v2) (kf rfl) bD ht.symm
 rintro ⟨_,v4⟩ τ hz;(try dsimp only at hz);subst q6;(try dsimp only at h);dsimp only [aF]
 refine fW (ai [(50,pB v4)] (by kernel_rfl) (bZ rfl h (fun hc10 h=>?_) fun hc10 h=>?_))
 ·refine af ?_
  refine ai [(4,pN),(5,pI 2)] (by kernel_rfl) (aH (mB 4 rfl (cu (aP ?_))))
  obtain rfl:=osi h
  exact aM (bR (aK rfl) (aK rfl)) bD ⟨rfl,rfl⟩
 refine ag ?_
 refine cH (ah (rg 51 6) [(57,pB (((p1.length:Int) == 0)&&(decide (0<p0))))] (by kernel_rfl) (bZ rfl h (fun hc11 h=>?_) fun hc11 h=>?_))
 ·refine af ?_
  refine ai [(4,pN),(5,pI 7)] (by kernel_rfl) (aH (mB 4 rfl (cu (aP ?_))))
  obtain rfl:=osi h
  exact aM (bR (aK rfl) (aK rfl)) bD ⟨rfl,rfl⟩
 refine ag ?_
 refine cH (ai [(9,pI 0)] (by kernel_rfl) (fu h fun q16 hq16 h=>?_))
 refine av (Y:=Unit×Int) (fun (_,v14)=>[(0,pI p0),(1,pL eI p1),(7,pI v14)]) (fun (_,v14)=>[]) (fun (_,v14)=>q16=v14) ?_ ?_
 ·refine an ?_
  refine aY (Y:=Unit) (S:=Int×Int) _ hq16 (fun _ (v12,v13)=>[(0,pI p0),(1,pL eI p1),(7,pI v12),(9,pI v13)]) (fun _ (v12,v13)=>[]) () (kf rfl) bD ?_
  rintro _ ⟨v12,v13⟩ o τ hb15;(try dsimp only at hb15);dsimp only [aF]
  refine fW (ah [58,59,60] [(61,pB (decide (v13<(p1.length:Int))))] (by kernel_rfl) (bZ rfl hb15 (fun hc17 hb15=>?_) fun hc17 hb15=>?_))
  ·refine ag ?_
   refine bN (an (aa hb15 fun m18 hm18 hb15=>aD [] (rg 64 6) [(7,pI (IntKind.i64.wrap (v12+m18)))] (eH 3 eI hm18 bA) (by kernel_rfl) (aj (aH (ah [62,63] [(9,pI (IntKind.i64.wrap (v13+1)))] (by kernel_rfl) ?_)))))
   exact bm hb15 () (kf rfl) bD
  refine ba ?_
  refine aI (aB hb15 (fun ht=>aG rfl ?_))
  exact au ((),v12) (jh rfl) bD ht.symm
 rintro ⟨_,v14⟩ τ hz;(try dsimp only at hz);subst q16;(try dsimp only at h);dsimp only [aF]
 refine af (aa h fun l19 hl19 h=>aa h fun l22 hl22 h=>?_)
 refine av (Y:=Nat×Nat) (fun (b20,b23)=>[(0,pI p0),(1,pL eI p1),(7,pI v14),(10,pO (some ⟨b20,0,none⟩) l19.length l19.length),(11,pO (some ⟨b23,0,none⟩) l22.length l22.length),(12,pI p0)]) (fun (b20,b23)=>[PRes.row (some ⟨b20,0,none⟩) l19.length l19.length 3 1 (List.map eI l19),PRes.row (some ⟨b23,0,none⟩) l22.length l22.length 3 1 (List.map eI l22)]) (fun _=>True) ?_ ?_
 ·refine eN (ρd:=[]) _ (List.Perm.refl _) ?_
  refine aS 0 (by kernel_rfl) rfl rfl rfl rfl (bC (p:=pL eI p1) rfl (.p rfl)) (aS 1 (by kernel_rfl) rfl rfl rfl rfl (vr (enc:=eI) rfl rfl (.p rfl)) (aS 3 (by kernel_rfl) rfl rfl rfl rfl (bC (p:=pL eI p1) rfl (.p rfl)) (aS 4 (by kernel_rfl) rfl rfl rfl rfl (vr (enc:=eI) rfl rfl (.p rfl)) (aS 6 (by kernel_rfl) rfl rfl rfl rfl (bC (p:=pI p0) rfl (.p rfl)) ?_))))
  refine dI 2 5 (by kernel_rfl) ?_ ?_
  ·skip
   refine aX rfl rfl rfl rfl (lp (enc:=eI) rfl rfl rfl rfl rfl rfl rfl rfl rfl hl19 (fun b20=>aS 7 (by kernel_rfl) rfl rfl rfl rfl (bc (p:=pO (some ⟨b20,0,none⟩) l19.length l19.length) rfl (.p rfl)) (aW 5 (by kernel_rfl) (aX rfl rfl rfl rfl (lp (enc:=eI) rfl rfl rfl rfl rfl rfl rfl rfl rfl hl22 (fun b23=>aS 8 (by kernel_rfl) rfl rfl rfl rfl (bc (p:=pO (some ⟨b23,0,none⟩) l22.length l22.length) rfl (.p rfl)) (aS 9 (by kernel_rfl) rfl rfl rfl rfl (bc (p:=pI p0) rfl (.p rfl)) (bK (by kernel_rfl) ?_))))))))
   exact au (b20,b23) (qj rfl) (bv (aR aZ) dx) trivial
  skip
  refine aX rfl rfl rfl rfl (lp (enc:=eI) rfl rfl rfl rfl rfl rfl rfl rfl rfl hl22 (fun b23=>aW 2 (by kernel_rfl) (aX rfl rfl rfl rfl (lp (enc:=eI) rfl rfl rfl rfl rfl rfl rfl rfl rfl hl19 (fun b20=>aS 7 (by kernel_rfl) rfl rfl rfl rfl (bc (p:=pO (some ⟨b20,0,none⟩) l19.length l19.length) rfl (.p rfl)) (aS 8 (by kernel_rfl) rfl rfl rfl rfl (bc (p:=pO (some ⟨b23,0,none⟩) l22.length l22.length) rfl (.p rfl)) (aS 9 (by kernel_rfl) rfl rfl rfl rfl (bc (p:=pI p0) rfl (.p rfl)) (bK (by kernel_rfl) ?_))))))))
  exact au (b20,b23) (qj rfl) ml trivial
 rintro ⟨b20,b23⟩ τ _;dsimp only [aF]
 refine fW (ai [(13,pI 0)] (by kernel_rfl) (fu h fun q37 hq37 h=>?_))
 refine av (Y:=Unit×((List Int)×(List Int)×Int)) (fun (_,(l32,l34,v35))=>[(10,pO (some ⟨b20,0,none⟩) l19.length l19.length),(11,pO (some ⟨b23,0,none⟩) l22.length l22.length),(12,pI v35)]) (fun (_,(l32,l34,v35))=>[PRes.row (some ⟨b20,0,none⟩) l19.length l19.length 3 1 (List.map eI l32),PRes.row (some ⟨b23,0,none⟩) l22.length l22.length 3 1 (List.map eI l34)]) (fun (_,(l32,l34,v35))=>q37=(l32,l34,v35)) ?_ ?_
 ·refine an ?_
  refine aY (Y:=Unit) (S:=(List Int)×(List Int)×Int×Int) _ hq37 (fun _ (l26,l28,v29,v30)=>[(0,pI p0),(1,pL eI p1),(7,pI v14),(10,pO (some ⟨b20,0,none⟩) l19.length l19.length),(11,pO (some ⟨b23,0,none⟩) l22.length l22.length),(12,pI v29),(13,pI v30)]) (fun _ (l26,l28,v29,v30)=>[PRes.row (some ⟨b20,0,none⟩) l19.length l19.length 3 1 (List.map eI l26),PRes.row (some ⟨b23,0,none⟩) l22.length l22.length 3 1 (List.map eI l28)]) () (ui rfl) ml ?_
  rintro _ ⟨l26,l28,v29,v30⟩ o τ hb36;(try dsimp only at hb36);dsimp only [aF]
  refine fW (ah [77,78,79] [(80,pB (decide (v30<(p1.length:Int))))] (by kernel_rfl) (bZ rfl hb36 (fun hc38 hb36=>?_) fun hc38 hb36=>?_))
  ·refine ag ?_
   refine bN (an (af (aa hb36 fun m39 hm39 hb36=>aD [] (rg 83 5) [(14,pI m39),(15,pI v14)] (eH 2 eI hm39 bA) (by kernel_rfl) (cH (ah [88] [(89,pB (v14 == 0))] (by kernel_rfl) (fu hb36 fun q44 hq44 hb36=>?_))))))
   refine av (Y:=Unit×(Int×Int)) (fun (_,(v42,v43))=>[(0,pI p0),(1,pL eI p1),(7,pI v14),(10,pO (some ⟨b20,0,none⟩) l19.length l19.length),(11,pO (some ⟨b23,0,none⟩) l22.length l22.length),(12,pI v29),(13,pI v30),(14,pI v42),(15,pI v43)]) (fun (_,(v42,v43))=>[PRes.row (some ⟨b20,0,none⟩) l19.length l19.length 3 1 (List.map eI l26),PRes.row (some ⟨b23,0,none⟩) l22.length l22.length 3 1 (List.map eI l28)]) (fun (_,(v42,v43))=>q44=(v42,v43)) ?_ ?_
   ·skip
    refine iQ rfl hq44 (fun hc45 hq44=>?_) fun hc45 hq44=>?_
    ·refine ah [90,91] [(14,pI 1),(15,pI (p1.length:Int))] (by kernel_rfl) ?_
     obtain rfl:=osi hq44
     exact au ((),(1,(p1.length:Int))) (mI rfl) ml rfl
    refine ag ?_
    obtain rfl:=osi hq44
    exact au ((),(m39,v14)) (mI rfl) ml rfl
   rintro ⟨_,⟨v42,v43⟩⟩ τ hz;(try dsimp only at hz);subst q44;(try dsimp only at hb36);dsimp only [aF]
   refine af (aa hb36 fun x46 hx46 hb36=>aa hb36 fun x47 hx47 hb36=>ae (bd 11 [] ((rg 93 8)++[92]) [(101,.agg [pU x47.1.Hi,pU x47.1.Lo]),(102,pU x47.2)] (bz 4 (kg hx46) (bz 7 (kq hx47) bA)) (by kernel_rfl) (ar rfl (be (cs:=[pU 0,pU 0]) rfl rfl rfl rfl (fun b48=>aQ rfl rfl (ak (vs:=[pU x47.1.Hi,pU x47.1.Lo]) rfl rfl rfl rfl rfl cn jV (aL [(17,pU x47.2)] (by kernel_rfl) (eo hb36 fun m49 hm49 hb36=>ae (cq 9 [0] [107,108,110] [(103,pO (some ⟨b20,0,none⟩) l19.length l19.length),(104,pI v30),(105,pO (some ⟨b23,0,none⟩) l22.length l22.length),(106,pI v30),(109,pI (IntKind.i64.wrap x47.1.Lo)),(111,pI (IntKind.i64.wrap x47.2))] (by kernel_rfl) (bE rfl rfl rfl (bo (enc:=eI) (xs:=l26) rfl rfl rfl (.p rfl) iZ (.p rfl) (fun _=>hm49)) (aQ rfl rfl (dq (enc:=eI) (xs:=l26) (a:=(some ⟨b20,0,none⟩)) v30 0 m49 (IntKind.i64.wrap x47.1.Lo) rfl rfl rfl rfl (fun _=>rfl) rfl rfl hm49 eX (cA cn) (aa hb36 fun m51 hm51 hb36=>bE rfl rfl rfl (bo (enc:=eI) (xs:=l28) rfl rfl rfl (.p rfl) zd (.p rfl) (fun _=>hm51)) (aQ rfl rfl (dq (enc:=eI) (xs:=l28) (a:=(some ⟨b23,0,none⟩)) v30 0 m51 (IntKind.i64.wrap x47.2) rfl rfl rfl rfl (fun _=>rfl) rfl rfl hm51 eX (cA (cA cn)) (az (fu hb36 fun m53 hm53 hb36=>ae (aA 3 [(114,pI v29),(115,pO (some ⟨b20,0,none⟩) l19.length l19.length),(116,pI v30)] (by kernel_rfl) (bE rfl rfl rfl (bo (enc:=eI) (xs:=(l26.set v30.toNat (IntKind.i64.wrap x47.1.Lo))) rfl rfl rfl (.p rfl) iZ (.p rfl) (fun _=>hm53)) (bE rfl rfl rfl (bj (sz:=1) (p:=pI m53) (enc:=eI) (xs:=(l26.set v30.toNat (IntKind.i64.wrap x47.1.Lo))) (a:=(some ⟨b20,0,none⟩)) v30 0 m53 rfl (.p rfl) rfl iZ (fun _=>hm53) rfl) (kT [119] [(12,pI (IntKind.i64.wrap (v29 - m53)))] (by kernel_rfl) (aj (aH (ah [81,82] [(13,pI (IntKind.i64.wrap (v30+1)))] (by kernel_rfl) ?_))))))))))))))))))))))))
   exact bm hb36 () (ui rfl) (bv (aR aZ) (bv (aR aZ) bD))
  refine ba ?_
  refine aI (aB hb36 (fun ht=>aG rfl ?_))
  exact au ((),(l26,l28,v29)) (jh rfl) ml ht.symm
 rintro ⟨_,⟨l32,l34,v35⟩⟩ τ hz;(try dsimp only at hz);subst q37;(try dsimp only at h);dsimp only [aF]
 refine af (aa h fun q62 hq62 h=>?_)
 refine av (Y:=Unit×((List Int))) (fun (_,l60)=>[(10,pO (some ⟨b20,0,none⟩) l19.length l19.length)]) (fun (_,l60)=>[PRes.row (some ⟨b20,0,none⟩) l19.length l19.length 3 1 (List.map eI l60)]) (fun (_,l60)=>q62=l60) ?_ ?_
 ·refine an ?_
  refine aY (Y:=Unit) (S:=(List Int)×(List Int)×Int) _ hq62 (fun _ (l55,l57,v58)=>[(10,pO (some ⟨b20,0,none⟩) l19.length l19.length),(11,pO (some ⟨b23,0,none⟩) l22.length l22.length),(12,pI v58)]) (fun _ (l55,l57,v58)=>[PRes.row (some ⟨b20,0,none⟩) l19.length l19.length 3 1 (List.map eI l55),PRes.row (some ⟨b23,0,none⟩) l22.length l22.length 3 1 (List.map eI l57)]) () (jh rfl) ml ?_
  rintro _ ⟨l55,l57,v58⟩ o τ hb61;(try dsimp only at hb61);dsimp only [aF]
  refine fW (ah [120] [(121,pB (decide (0<v58)))] (by kernel_rfl) (bZ rfl hb61 (fun hc63 hb61=>?_) fun hc63 hb61=>?_))
  ·refine ag ?_
   refine bN (an (af (ai [(18,pI 0)] (by kernel_rfl) (cH (ai [(19,pI 1)] (by kernel_rfl) (fu hb61 fun q70 hq70 hb61=>?_))))))
   refine av (Y:=Unit×Int) (fun (_,v68)=>[(10,pO (some ⟨b20,0,none⟩) l19.length l19.length),(11,pO (some ⟨b23,0,none⟩) l22.length l22.length),(12,pI v58),(18,pI v68)]) (fun (_,v68)=>[PRes.row (some ⟨b20,0,none⟩) l19.length l19.length 3 1 (List.map eI l55),PRes.row (some ⟨b23,0,none⟩) l22.length l22.length 3 1 (List.map eI l57)]) (fun (_,v68)=>q70=v68) ?_ ?_
   ·refine an ?_
    refine aY (Y:=Unit) (S:=Int×Int) _ hq70 (fun _ (v64,v65)=>[(10,pO (some ⟨b20,0,none⟩) l19.length l19.length),(11,pO (some ⟨b23,0,none⟩) l22.length l22.length),(12,pI v58),(18,pI v64),(19,pI v65)]) (fun _ (v64,v65)=>[PRes.row (some ⟨b20,0,none⟩) l19.length l19.length 3 1 (List.map eI l55),PRes.row (some ⟨b23,0,none⟩) l22.length l22.length 3 1 (List.map eI l57)]) () (kO rfl) ml ?_
    rintro _ ⟨v64,v65⟩ o τ hb69;(try dsimp only at hb69);dsimp only [aF]
    refine fW (ah [124,125,126] [(127,pB (decide (v65<((l22.length:Nat):Int))))] (by kernel_rfl) (bZ rfl hb69 (fun hc71 hb69=>?_) fun hc71 hb69=>?_))
    ·refine ag ?_
     refine eo hb69 fun q75 hq75 hb69=>?_
     refine av (Y:=Unit×Int) (fun (_,v74)=>[(10,pO (some ⟨b20,0,none⟩) l19.length l19.length),(11,pO (some ⟨b23,0,none⟩) l22.length l22.length),(12,pI v58),(18,pI v74),(19,pI v65)]) (fun (_,v74)=>[PRes.row (some ⟨b20,0,none⟩) l19.length l19.length 3 1 (List.map eI l55),PRes.row (some ⟨b23,0,none⟩) l22.length l22.length 3 1 (List.map eI l57)]) (fun (_,v74)=>q75=v74) ?_ ?_
     ·skip
      refine an (af (bH (ρd:=[]) [(0,0),(1,0),(2,0),(3,0),(4,0),(5,0),(6,0),(7,0),(8,0)] _ (List.Perm.refl _) (by kernel_rfl) rfl (aa hq75 fun m76 hm76 hq75=>gu 2 [(130,pO (some ⟨b23,0,none⟩) l22.length l22.length),(131,pI v65)] (by kernel_rfl) (kp rfl rfl rfl (bo (enc:=eI) (xs:=l57) rfl rfl rfl (.p rfl) iZ (.p rfl) (fun _=>hm76)) (kp rfl rfl rfl (bj (sz:=1) (p:=pI m76) (enc:=eI) (xs:=l57) (a:=(some ⟨b23,0,none⟩)) v65 0 m76 rfl (.p rfl) rfl iZ (fun _=>hm76) rfl) (aa hq75 fun m77 hm77 hq75=>gu 2 [(134,pO (some ⟨b23,0,none⟩) l22.length l22.length),(135,pI v64)] (by kernel_rfl) (kp rfl rfl rfl (bo (enc:=eI) (xs:=l57) rfl rfl rfl (.p rfl) iZ (.p rfl) (fun _=>hm77)) (kp rfl rfl rfl (bj (sz:=1) (p:=pI m77) (enc:=eI) (xs:=l57) (a:=(some ⟨b23,0,none⟩)) v64 0 m77 rfl (.p rfl) rfl iZ (fun _=>hm77) rfl) (gu 1 [(138,pB (decide (m77<m76)))] (by kernel_rfl) (ce (bZ rfl hq75 (fun hc78 hq75=>?_) fun hc78 hq75=>?_)))))))))))
      ·refine ah [139] [(18,pI v65)] (by kernel_rfl) ?_
       refine aj ?_
       obtain rfl:=osi hq75
       exact au ((),v65) (kO rfl) ml rfl
      refine ag ?_
      refine aj ?_
      obtain rfl:=osi hq75
      exact au ((),v64) (kO rfl) ml rfl
     rintro ⟨_,v74⟩ τ hz;(try dsimp only at hz);subst q75;(try dsimp only at hb69);dsimp only [aF]
     refine ah [128,129] [(19,pI (IntKind.i64.wrap (v65+1)))] (by kernel_rfl) ?_
     exact bm hb69 () (kO rfl) ml
    refine ba ?_
    refine aI (aB hb69 (fun ht=>aG rfl ?_))
    exact au ((),v64) (kf rfl) ml ht.symm
   rintro ⟨_,v68⟩ τ hz;(try dsimp only at hz);subst q70;(try dsimp only at hb61);dsimp only [aF]
   refine af (aa hb61 fun m79 hm79 hb61=>ae (aA 2 [(140,pO (some ⟨b20,0,none⟩) l19.length l19.length),(141,pI v68)] (by kernel_rfl) (bE rfl rfl rfl (bo (enc:=eI) (xs:=l55) rfl rfl rfl (.p rfl) eD (.p rfl) (fun _=>hm79)) (bE rfl rfl rfl (bj (sz:=1) (p:=pI m79) (enc:=eI) (xs:=l55) (a:=(some ⟨b20,0,none⟩)) v68 0 m79 rfl (.p rfl) rfl eD (fun _=>hm79) rfl) (aa hb61 fun m80 hm80 hb61=>aA 1 [(144,pI (IntKind.i64.wrap (m79+1)))] (by kernel_rfl) (bE rfl rfl rfl (bo (enc:=eI) (xs:=l55) rfl rfl rfl (.p rfl) eD (.p rfl) (fun _=>hm80)) (aQ rfl rfl (dq (enc:=eI) (xs:=l55) (a:=(some ⟨b20,0,none⟩)) v68 0 m80 (IntKind.i64.wrap (m79+1)) rfl rfl rfl rfl (fun _=>rfl) rfl rfl hm80 eX cn (az (fu hb61 fun m82 hm82 hb61=>ae (aA 2 [(146,pO (some ⟨b23,0,none⟩) l22.length l22.length),(147,pI v68)] (by kernel_rfl) (bE rfl rfl rfl (bo (enc:=eI) (xs:=l57) rfl rfl rfl (.p rfl) iZ (.p rfl) (fun _=>hm82)) (aQ rfl rfl (dq (enc:=eI) (xs:=l57) (a:=(some ⟨b23,0,none⟩)) v68 0 m82 (-1) rfl rfl rfl rfl (fun _=>rfl) rfl rfl hm82 eX (cA cn) (az (aj (aH (ah [122,123] [(12,pI (IntKind.i64.wrap (v58 - 1)))] (by kernel_rfl) ?_))))))))))))))))))
   exact bm hb61 () (jh rfl) ml
  refine ba ?_
  refine aI (aB hb61 (fun ht=>aG rfl ?_))
  exact au ((),l55) (wZ rfl) dx ht.symm
 rintro ⟨_,l60⟩ τ hz;(try dsimp only at hz);subst q62;(try dsimp only at h);dsimp only [aF]
 refine af (ah [149] [(4,pO (some ⟨b20,0,none⟩) l19.length l19.length),(5,pI 0)] (by kernel_rfl) (aH ?_))
 refine e8 (enc:=eI) (xs:=l60) 4 rfl (by exact aZ) ?_
 refine cu ?_
 obtain rfl:=osi h
 exact aM (bR (aK rfl) (aK rfl)) bD ⟨rfl,rfl⟩
def gY (p0:Zc) (p1:Int):Option Bool:=some (((decide (p0.From≤p1))&&(decide (p1<p0.To)))||(((decide (0≤p0.Registered))&&(decide (p0.Registered≤p1)))&&(decide (p1<p0.From))))
theorem nF {p0:Zc} {p1:Int} {r:Bool}  (h:gY p0 p1=some r):PF 54 [.agg (aU p0),pI p1] (pB r):=by
 unfold gY at h
 refine bi ?_
 refine eg Tryz.func54 rfl Tryz.ntmps54 Tryz.results54 rfl (ae (ar rfl (bB (cs:=(aU p0)) rfl rfl (fun b1=>bu [4] (by kernel_rfl) (bN (aT [0,0,0,0,0] (rg 5 27) [(4,pB (((decide (p0.From≤p1))&&(decide (p1<p0.To)))||(((decide (0≤p0.Registered))&&(decide (p0.Registered≤p1)))&&(decide (p1<p0.From)))))] (by kernel_rfl) (dB ?_)))))))
 exact zz r h rfl
def gx (p0:ByteArray) (p1:ByteArray):Option Bool:=(gd (decide ((p1.size:Int)≤(p0.size:Int))) (kv p0 0 (p1.size:Int))).bind fun s1=>some ((decide ((p1.size:Int)≤(p0.size:Int)))&&(decide (s1=p1)))
theorem oo {p0:ByteArray} {p1:ByteArray} {r:Bool}  (h:gx p0 p1=some r):PF 55 [pS p0,pS p1] (pB r):=by
 unfold gx at h
 refine bi ?_
 refine eg Tryz.func55 rfl Tryz.ntmps55 Tryz.results55 rfl (bf [4] (by kernel_rfl) (eo h fun s1 hs1 h=>aD [] (rg 5 13) [(4,pB ((decide ((p1.size:Int)≤(p0.size:Int)))&&(decide (s1=p1))))] (fossg 9 (cB hs1) bA) (by kernel_rfl) (dB ?_)))
 exact zz r h rfl
def jM (p0:(List ByteArray)) (p1:ByteArray):Option Bool:=(bk (S:=Int) (T:=(Unit)⊕(_)) (fun v1=>cond (decide (v1<(p0.length:Int))) ((idx p0 v1).bind fun m5=>cond (decide (m5=p1)) (some (.inr (.inr true))) (some (.inl (IntKind.i64.wrap (v1+1))))) (some (.inr (.inl ())))) FUEL 0).bind fun q=>match q with | .inl _=>some false | .inr e=>some e
theorem rT {p0:(List ByteArray)} {p1:ByteArray} {r:Bool}  (h:jM p0 p1=some r):PF 56 [pL eS p0,pS p1] (pB r):=by
 unfold jM at h
 refine bi ?_
 refine eg Tryz.func56 rfl Tryz.ntmps56 Tryz.results56 rfl (bf [4] (by kernel_rfl) (cH (ai [(5,pI 0)] (by kernel_rfl) (fu h fun q3 hq3 h=>?_))))
 refine av (Y:=Unit×Unit) (fun (_,_)=>[]) (fun (_,_)=>[]) (fun (_,_)=>q3=Sum.inl ()) ?_ ?_
 ·refine an ?_
  refine aY (Y:=Unit) (S:=Int) _ hq3 (fun _ v1=>[(0,pL eS p0),(1,pS p1),(5,pI v1)]) (fun _ v1=>[]) () (jh rfl) bD ?_
  rintro _ v1 o τ hb2;(try dsimp only at hb2);dsimp only [aF]
  refine fW (ah [6,7,8] [(9,pB (decide (v1<(p0.length:Int))))] (by kernel_rfl) (bZ rfl hb2 (fun hc4 hb2=>?_) fun hc4 hb2=>?_))
  ·refine ag ?_
   refine bN (an (af (aa hb2 fun m5 hm5 hb2=>aD [] (rg 12 5) [(17,pB (decide (m5=p1)))] (eH 2 eS hm5 bA) (by kernel_rfl) (bZ rfl hb2 (fun hc6 hb2=>?_) fun hc6 hb2=>?_))))
   ·refine af ?_
    refine ai [(4,pB true)] (by kernel_rfl) (dB (aw (aP ?_)))
    refine bp hb2 (fun ht=>?_);subst ht
    refine aw (bt ?_)
    exact zz r h rfl
   refine ag ?_
   refine aj (aH (ah [10,11] [(5,pI (IntKind.i64.wrap (v1+1)))] (by kernel_rfl) ?_))
   exact bm hb2 () (jh rfl) bD
  refine ba ?_
  refine aI (aB hb2 (fun ht=>aG rfl ?_))
  exact au ((),()) lw bD ht.symm
 rintro ⟨_,_⟩ τ hz;(try dsimp only at hz);subst q3;(try dsimp only at h);dsimp only [aF]
 refine af (ai [(4,pB false)] (by kernel_rfl) (dB ?_))
 exact zz r h rfl
def ey (p0:Zc) (p1:ByteArray) (p2:ByteArray) (p3:Int) (p4:Int):Option Bool:=(gY p0 p4).bind fun x2=>(gd x2 (gx p1 p0.Prefix)).bind fun x3=>(gd ((x2&&x3)&&(!((p0.Origins.length:Int) == 0))) (jM p0.Origins p2)).bind fun x4=>some (((x2&&x3)&&(((p0.Origins.length:Int) == 0)||x4))&&((p0.Company == 0)||(p0.Company == p3)))
theorem oq {p0:Zc} {p1:ByteArray} {p2:ByteArray} {p3:Int} {p4:Int} {r:Bool}  (h:ey p0 p1 p2 p3 p4=some r):PF 34 [.agg (aU p0),pS p1,pS p2,pI p3,pI p4] (pB r):=by
 unfold ey at h
 refine bi ?_
 refine eg Tryz.func34 rfl Tryz.ntmps34 Tryz.results34 rfl (ae (ar rfl (bB (cs:=(aU p0)) rfl rfl (fun b1=>bu [10] (by kernel_rfl) (eo h fun x2 hx2 h=>aa h fun x3 hx3 h=>aa h fun x4 hx4 h=>aD [0,0,0,0,0,0] (rg 11 32) [(10,pB (((x2&&x3)&&(((p0.Origins.length:Int) == 0)||x4))&&((p0.Company == 0)||(p0.Company == p3))))] (bz 2 (nF hx2) (eJ 7 (fun hc=>oo (cB hx3 hc)) (eJ 18 (fun hc=>rT (cB hx4 hc)) bA))) (by kernel_rfl) (dB ?_))))))
 exact zz r h rfl
def dW (p0:Zc):Option Int:=Option.bind (cond (decide (0<(p0.Origins.length:Int))) (some (p0.Origins.length:Int)) (some 21)) (fun v2=>Option.bind (cond (p0.Company != 0) (some 1) (some 0)) (fun v5=>lb ((IntKind.i64.wrap ((IntKind.i64.wrap ((IntKind.i64.wrap ((IntKind.i64.wrap ((IntKind.i64.wrap ((IntKind.i64.wrap ((IntKind.i64.wrap ((p0.Prefix.size:Int)*2))+v5))*100))+50)) - v2))*10000000))+p0.ID))) (fun w8=>some w8)))
theorem lJ {p0:Zc} {r:Int}  (h:dW p0=some r):PF 35 [.agg (aU p0)] (pI r):=by
 unfold dW at h
 refine bi ?_
 refine eg Tryz.func35 rfl Tryz.ntmps35 Tryz.results35 rfl (ae (ar rfl (bB (cs:=(aU p0)) rfl rfl (fun b1=>bu [2] (by kernel_rfl) (bN (ai [(3,pI 21)] (by kernel_rfl) (cH (aT [0] [5,6,7] [(8,pB (decide (0<(p0.Origins.length:Int))))] (by kernel_rfl) (fu h fun q3 hq3 h=>?_)))))))))
 refine av (Y:=Unit×Int) (fun (_,v2)=>[(1,pP b1 0),(3,pI v2)]) (fun (_,v2)=>[PRes.b b1 48 (aU p0)]) (fun (_,v2)=>q3=v2) ?_ ?_
 ·skip
  refine iQ rfl hq3 (fun hc4 hq3=>?_) fun hc4 hq3=>?_
  ·refine aT [0] [9,10,11] [(3,pI (p0.Origins.length:Int))] (by kernel_rfl) ?_
   obtain rfl:=osi hq3
   exact au ((),(p0.Origins.length:Int)) (ke rfl) dx rfl
  refine ag ?_
  obtain rfl:=osi hq3
  exact au ((),21) (ke rfl) dx rfl
 rintro ⟨_,v2⟩ τ hz;(try dsimp only at hz);subst q3;(try dsimp only at h);dsimp only [aF]
 refine af (ai [(4,pI 0)] (by kernel_rfl) (cH (aT [0] [12,13] [(14,pB (p0.Company != 0))] (by kernel_rfl) (fu h fun q6 hq6 h=>?_))))
 refine av (Y:=Unit×Int) (fun (_,v5)=>[(1,pP b1 0),(3,pI v2),(4,pI v5)]) (fun (_,v5)=>[PRes.b b1 48 (aU p0)]) (fun (_,v5)=>q6=v5) ?_ ?_
 ·skip
  refine iQ rfl hq6 (fun hc7 hq6=>?_) fun hc7 hq6=>?_
  ·refine ai [(4,pI 1)] (by kernel_rfl) ?_
   obtain rfl:=osi hq6
   exact au ((),1) (jh rfl) dx rfl
  refine ag ?_
  obtain rfl:=osi hq6
  exact au ((),0) (jh rfl) dx rfl
 rintro ⟨_,v5⟩ τ hz;(try dsimp only at hz);subst q6;(try dsimp only at h);dsimp only [aF]
 refine af ?_
 refine cL h ?_;clear h;intro w8 hw8 h
 refine ae (cq 14 [0,0] (rg 15 13) [(28,pI (IntKind.i64.wrap ((IntKind.i64.wrap ((IntKind.i64.wrap ((IntKind.i64.wrap ((IntKind.i64.wrap ((IntKind.i64.wrap ((IntKind.i64.wrap ((p0.Prefix.size:Int)*2))+v5))*100))+50)) - v2))*10000000))+p0.ID)))] (by kernel_rfl) (bE rfl rfl rfl (bc rfl (.p (congrArg (fun z=>PV.v (Value.int .i64 z)) hw8))) (az (dB ?_))))
 exact zz r h rfl
def fG (p0:(List Zc)) (p1:Int) (p2:ByteArray) (p3:ByteArray) (p4:Int) (p5:Int):Option (Zc×Bool):=(bk (S:=Int×Int) (T:=(Int)) (fun (v2,v3)=>cond (decide (v3<(p0.length:Int))) (((idx p0 v3).bind fun m10=>(gd (m10.Kind == p1) (idx p0 v3)).bind fun m11=>(gd (m10.Kind == p1) (ey m11 p2 p3 p4 p5)).bind fun x12=>(gd (((m10.Kind == p1)&&x12)&&(!(decide (v2<0)))) (idx p0 v3)).bind fun m13=>(gd (((m10.Kind == p1)&&x12)&&(!(decide (v2<0)))) (idx p0 v2)).bind fun m14=>(gd (((m10.Kind == p1)&&x12)&&(!(decide (v2<0)))) (dW m13)).bind fun x15=>(gd (((m10.Kind == p1)&&x12)&&(!(decide (v2<0)))) (dW m14)).bind fun x16=>cond (((m10.Kind == p1)&&x12)&&((decide (v2<0))||(decide (x16<x15)))) (some v3) (some v2)).bind fun v8=>some (.inl (v8,(IntKind.i64.wrap (v3+1))))) (some (.inr v2))) FUEL ((-1),0)).bind fun v4=>cond (decide (v4<0)) (some ((⟨0,0,ByteArray.empty,[],0,0,0,0,(⟨0,0,0,false,0,false,0⟩:Zk)⟩:Zc),false)) ((idx p0 v4).bind fun m19=>some (m19,true))
theorem kV {p0:(List Zc)} {p1:Int} {p2:ByteArray} {p3:ByteArray} {p4:Int} {p5:Int} {r:(Zc×Bool)}  (h:fG p0 p1 p2 p3 p4 p5=some r):PF 14 [pL Zc.enc p0,pI p1,pS p2,pS p3,pI p4,pI p5] (.tup [.agg (aU r.1),pB r.2]):=by
 unfold fG at h
 refine bi ?_
 refine eg Tryz.func14 rfl Tryz.ntmps14 Tryz.results14 rfl (ae (ar rfl (be (cs:=[pI 0,pI 0,pS ByteArray.empty,pN,pI 0,pI 0,pI 0,pI 0,pI 0,pI 0,pI 0,pB false,pI 0,pB false,pI 0]) rfl rfl rfl rfl (fun b1=>bu [13] (by kernel_rfl) (bN (ai [(14,pI (-1))] (by kernel_rfl) (cH (ai [(15,pI 0)] (by kernel_rfl) (fu h fun q6 hq6 h=>?_)))))))))
 refine av (Y:=Unit×Int) (fun (_,v4)=>[(0,pL Zc.enc p0),(12,pP b1 0),(14,pI v4)]) (fun (_,v4)=>[PRes.b b1 48 [pI 0,pI 0,pS ByteArray.empty,pN,pI 0,pI 0,pI 0,pI 0,pI 0,pI 0,pI 0,pB false,pI 0,pB false,pI 0]]) (fun (_,v4)=>q6=v4) ?_ ?_
 ·refine an ?_
  refine aY (Y:=Unit) (S:=Int×Int) _ hq6 (fun _ (v2,v3)=>[(0,pL Zc.enc p0),(1,pI p1),(2,pS p2),(3,pS p3),(4,pI p4),(5,pI p5),(12,pP b1 0),(14,pI v2),(15,pI v3)]) (fun _ (v2,v3)=>[PRes.b b1 48 [pI 0,pI 0,pS ByteArray.empty,pN,pI 0,pI 0,pI 0,pI 0,pI 0,pI 0,pI 0,pB false,pI 0,pB false,pI 0]]) () (mI rfl) dx ?_
  rintro _ ⟨v2,v3⟩ o τ hb5;(try dsimp only at hb5);dsimp only [aF]
  refine fW (ah [16,17,18] [(19,pB (decide (v3<(p0.length:Int))))] (by kernel_rfl) (bZ rfl hb5 (fun hc7 hb5=>?_) fun hc7 hb5=>?_))
  ·refine ag ?_
   refine eo hb5 fun q9 hq9 hb5=>?_
   refine av (Y:=Unit×Int) (fun (_,v8)=>[(0,pL Zc.enc p0),(1,pI p1),(2,pS p2),(3,pS p3),(4,pI p4),(5,pI p5),(12,pP b1 0),(14,pI v8),(15,pI v3)]) (fun (_,v8)=>[PRes.b b1 48 [pI 0,pI 0,pS ByteArray.empty,pN,pI 0,pI 0,pI 0,pI 0,pI 0,pI 0,pI 0,pB false,pI 0,pB false,pI 0]]) (fun (_,v8)=>q9=v8) ?_ ?_
   ·skip
    refine an (af (bH (ρd:=[]) [(0,0),(1,0),(2,0),(3,0),(4,0),(5,0),(6,0),(7,0),(8,0),(9,0),(10,0),(11,0),(12,0),(13,0),(14,0),(15,0),(16,1),(17,0),(18,0),(19,0),(20,0),(21,0),(22,0),(23,0),(24,0),(25,0),(27,0),(28,0),(29,0),(30,0),(26,1),(31,1),(32,0),(33,0),(34,0)] _ (List.Perm.refl _) (by kernel_rfl) rfl (aa hq9 fun m10 hm10 hq9=>aa hq9 fun m11 hm11 hq9=>aa hq9 fun x12 hx12 hq9=>aa hq9 fun m13 hm13 hq9=>aa hq9 fun m14 hm14 hq9=>aa hq9 fun x15 hx15 hq9=>aa hq9 fun x16 hx16 hq9=>bV 35 [] ((rg 22 26)++[49,50,51,52,48,53,54,55]) [(56,pB (((m10.Kind == p1)&&x12)&&((decide (v2<0))||(decide (x16<x15)))))] (eH 2 Zc.enc hm10 (hY 10 Zc.enc (cB hm11) (eJ 16 (fun hc=>oq (cB hx12 hc)) (hY 24 Zc.enc (cB hm13) (hY 28 Zc.enc (cB hm14) (eJ 30 (fun hc=>lJ (cB hx15 hc)) (eJ 31 (fun hc=>lJ (cB hx16 hc)) bA))))))) (by kernel_rfl) (ce (bZ rfl hq9 (fun hc17 hq9=>?_) fun hc17 hq9=>?_)))))
    ·refine ah [57] [(14,pI v3)] (by kernel_rfl) ?_
     refine aj ?_
     obtain rfl:=osi hq9
     exact au ((),v3) (mI rfl) dx rfl
    refine ag ?_
    refine aj ?_
    obtain rfl:=osi hq9
    exact au ((),v2) (mI rfl) dx rfl
   rintro ⟨_,v8⟩ τ hz;(try dsimp only at hz);subst q9;(try dsimp only at hb5);dsimp only [aF]
   refine ah [20,21] [(15,pI (IntKind.i64.wrap (v3+1)))] (by kernel_rfl) ?_
   exact bm hb5 () (mI rfl) dx
  refine ba ?_
  refine aI (aB hb5 (fun ht=>aG rfl ?_))
  exact au ((),v2) (jh rfl) dx ht.symm
 rintro ⟨_,v4⟩ τ hz;(try dsimp only at hz);subst q6;(try dsimp only at h);dsimp only [aF]
 refine fW (ah [58] [(59,pB (decide (v4<0)))] (by kernel_rfl) (bZ rfl h (fun hc18 h=>?_) fun hc18 h=>?_))
 ·refine af ?_
  refine ae (aA 1 [(60,.agg [pI 0,pI 0,pS ByteArray.empty,pN,pI 0,pI 0,pI 0,pI 0,pI 0,pI 0,pI 0,pB false,pI 0,pB false,pI 0])] (by kernel_rfl) (aQ rfl rfl (ak (vs:=[pI 0,pI 0,pS ByteArray.empty,pN,pI 0,pI 0,pI 0,pI 0,pI 0,pI 0,pI 0,pB false,pI 0,pB false,pI 0]) rfl rfl rfl rfl rfl cn (dg (dg (dg (dg (dg (dg xX)))))) (aL [(13,pB false)] (by kernel_rfl) (aH (fa (k:=3) (b:=b1) rfl cn (cu (aP ?_))))))))
  obtain rfl:=osi h
  exact aM (bR (dh rfl eD rfl) (aK rfl)) bD ⟨rfl,rfl⟩
 refine ag ?_
 refine eo h fun m19 hm19 h=>ae (bd 4 [] [61,62,63] [(64,.agg (aU m19))] (eH 2 Zc.enc hm19 bA) (by kernel_rfl) (aQ rfl rfl (ak (vs:=(aU m19)) rfl rfl rfl rfl rfl cn (dg (dg (dg (dg (dg (dg xX)))))) (aL [(13,pB true)] (by kernel_rfl) (dB ?_)))))
 obtain rfl:=osi h
 exact aM (bR (dh rfl eD rfl) (aK rfl)) bD ⟨rfl,rfl⟩
def dy (p0:Int) (p1:Int) (p2:Int):Option Ze:=(fy (IntKind.u64.wrap ((IntKind.u64.wrap p0)*(IntKind.u64.wrap p1))) (IntKind.u64.wrap p2)).bind fun x2=>some x2
theorem eK {p0:Int} {p1:Int} {p2:Int} {r:Ze}  (h:dy p0 p1 p2=some r):PF 39 [pI p0,pI p1,pI p2] (.agg [pU r.Hi,pU r.Lo]):=by
 unfold dy at h
 refine bi ?_
 refine eg Tryz.func39 rfl Tryz.ntmps39 Tryz.results39 rfl (ae (ar rfl (be (cs:=[pU 0,pU 0]) rfl rfl rfl rfl (fun b1=>az (eo h fun x2 hx2 h=>ae (bd 8 [] (rg 7 7) [(14,.agg [pU x2.Hi,pU x2.Lo])] (bz 7 (kg hx2) bA) (by kernel_rfl) (aQ rfl rfl (ak (vs:=[pU x2.Hi,pU x2.Lo]) rfl rfl rfl rfl rfl cn jV (az (dB ?_))))))))))
 obtain rfl:=osi h
 exact aM (gp (dh rfl eD rfl)) bD ⟨rfl,rfl⟩
def ez (p0:Ze) (p1:Ze):Option Bool:=some ((decide (p0.Hi<p1.Hi))||((p0.Hi == p1.Hi)&&(decide (p0.Lo<p1.Lo))))
theorem lK {p0:Ze} {p1:Ze} {r:Bool}  (h:ez p0 p1=some r):PF 40 [.agg [pU p0.Hi,pU p0.Lo],.agg [pU p1.Hi,pU p1.Lo]] (pB r):=by
 unfold ez at h
 refine bi ?_
 refine eg Tryz.func40 rfl Tryz.ntmps40 Tryz.results40 rfl (ae (ar rfl (bB (cs:=[pU p0.Hi,pU p0.Lo]) rfl rfl (fun b1=>ar rfl (bB (cs:=[pU p1.Hi,pU p1.Lo]) rfl rfl (fun b2=>bu [4] (by kernel_rfl) (bN (aT [1,0,1,0,1,0] (rg 5 19) [(4,pB ((decide (p0.Hi<p1.Hi))||((p0.Hi == p1.Hi)&&(decide (p0.Lo<p1.Lo)))))] (by kernel_rfl) (dB ?_)))))))))
 exact zz r h rfl
def iR (p0:Ze) (p1:Int) (p2:Int):Option (Int×Int):=cond (((p1 == 0)||(decide (p2<0)))||(decide (3<p2))) (some ((0:Int),(2:Int))) ((ex p0 p1).bind fun x3=>Option.bind (cond (p2 == 1) (some (decide (0<x3.2))) (cond (p2 == 2) (some (decide ((IntKind.u64.wrap (p1 - x3.2))≤x3.2))) (cond (p2 == 3) (some ((decide ((IntKind.u64.wrap (p1 - x3.2))<x3.2))||((x3.2 == (IntKind.u64.wrap (p1 - x3.2)))&&((dd .u64 x3.1.Lo 1) == 1)))) (some false)))) (fun v5=>Option.bind (cond v5 ((dC x3.1 (⟨0,1⟩:Ze)).bind fun x14=>some (x14.1.Hi,x14.1.Lo)) (some (x3.1.Hi,x3.1.Lo))) (fun (v10,v11)=>cond (decide (0<v10)) (some ((0:Int),(3:Int))) (some (v11,(0:Int))))))
theorem rU {p0:Ze} {p1:Int} {p2:Int} {r:(Int×Int)}  (h:iR p0 p1 p2=some r):PF 41 [.agg [pU p0.Hi,pU p0.Lo],pU p1,pI p2] (.tup [pU r.1,pI r.2]):=by
 unfold iR at h
 refine bi ?_
 refine eg Tryz.func41 rfl Tryz.ntmps41 Tryz.results41 rfl (ae (ar rfl (bB (cs:=[pU p0.Hi,pU p0.Lo]) rfl rfl (fun b1=>bu [6,7] (by kernel_rfl) (cH (ah (rg 11 9) [(20,pB (((p1 == 0)||(decide (p2<0)))||(decide (3<p2))))] (by kernel_rfl) (bZ rfl h (fun hc2 h=>?_) fun hc2 h=>?_)))))))
 ·refine af ?_
  refine ai [(6,pU 0),(7,pI 2)] (by kernel_rfl) (fB ?_)
  obtain rfl:=osi h
  exact aM (bR (aK rfl) (aK rfl)) bD ⟨rfl,rfl⟩
 refine ag ?_
 refine eo h fun x3 hx3 h=>ae (bd 6 [0] [22,23,24,21] [(25,.agg [pU x3.1.Hi,pU x3.1.Lo]),(26,pU x3.2)] (bz 2 (kq hx3) bA) (by kernel_rfl) (ar rfl (be (cs:=[pU 0,pU 0]) rfl rfl rfl rfl (fun b4=>aQ rfl rfl (ak (vs:=[pU x3.1.Hi,pU x3.1.Lo]) rfl rfl rfl rfl rfl cn jV (aL [(9,pU x3.2)] (by kernel_rfl) (bN (ai [(10,pB false)] (by kernel_rfl) (cH (ai [(27,pI p2)] (by kernel_rfl) (fu h fun q6 hq6 h=>?_)))))))))))
 refine av (Y:=Unit×Bool) (fun (_,v5)=>[(8,pP b4 0),(10,pB v5)]) (fun (_,v5)=>[PRes.b b4 80 [pU x3.1.Hi,pU x3.1.Lo]]) (fun (_,v5)=>q6=v5) ?_ ?_
 ·skip
  refine an (af (ah [29] [(28,pB (p2 == 1))] (by kernel_rfl) (bZ rfl hq6 (fun hc7 hq6=>?_) fun hc7 hq6=>?_)))
  ·refine ah [30,31] [(10,pB (decide (0<x3.2)))] (by kernel_rfl) ?_
   refine aj ?_
   obtain rfl:=osi hq6
   exact au ((),(decide (0<x3.2))) (ke rfl) dx rfl
  refine af ?_
  refine ah [33] [(32,pB (p2 == 2))] (by kernel_rfl) (bZ rfl hq6 (fun hc8 hq6=>?_) fun hc8 hq6=>?_)
  ·refine ah (rg 34 5) [(10,pB (decide ((IntKind.u64.wrap (p1 - x3.2))≤x3.2)))] (by kernel_rfl) ?_
   refine aj ?_
   obtain rfl:=osi hq6
   exact au ((),(decide ((IntKind.u64.wrap (p1 - x3.2))≤x3.2))) (ke rfl) dx rfl
  refine af ?_
  refine ah [40] [(39,pB (p2 == 3))] (by kernel_rfl) (bZ rfl hq6 (fun hc9 hq6=>?_) fun hc9 hq6=>?_)
  ·refine aT [0] (rg 41 18) [(10,pB ((decide ((IntKind.u64.wrap (p1 - x3.2))<x3.2))||((x3.2 == (IntKind.u64.wrap (p1 - x3.2)))&&((dd .u64 x3.1.Lo 1) == 1))))] (by kernel_rfl) ?_
   refine aj ?_
   obtain rfl:=osi hq6
   exact au ((),((decide ((IntKind.u64.wrap (p1 - x3.2))<x3.2))||((x3.2 == (IntKind.u64.wrap (p1 - x3.2)))&&((dd .u64 x3.1.Lo 1) == 1)))) (ke rfl) dx rfl
  refine ag ?_
  refine aj ?_
  obtain rfl:=osi hq6
  exact au ((),false) (ke rfl) dx rfl
 rintro ⟨_,v5⟩ τ hz;(try dsimp only at hz);subst q6;(try dsimp only at h);dsimp only [aF]
 refine fW (ai [(59,pB v5)] (by kernel_rfl) (fu h fun q12 hq12 h=>?_))
 refine av (Y:=Unit×(Int×Int)) (fun (_,(v10,v11))=>[(8,pP b4 0)]) (fun (_,(v10,v11))=>[PRes.b b4 80 [pU v10,pU v11]]) (fun (_,(v10,v11))=>q12=(v10,v11)) ?_ ?_
 ·skip
  refine iQ rfl hq12 (fun hc13 hq12=>?_) fun hc13 hq12=>?_
  ·refine aa hq12 ?_;clear hq12;intro x14 hx14 hq12
   refine ae (bd 6 [0] [61,62,63,60,65] [(64,.agg [pU x14.1.Hi,pU x14.1.Lo])] (bz 2 (gw hx14) bA) (by kernel_rfl) (aQ rfl rfl (ak (vs:=[pU x14.1.Hi,pU x14.1.Lo]) rfl rfl rfl rfl rfl cn jV (az ?_))))
   obtain rfl:=osi hq12
   exact au ((),(x14.1.Hi,x14.1.Lo)) (wZ rfl) dx rfl
  refine ag ?_
  obtain rfl:=osi hq12
  exact au ((),(x3.1.Hi,x3.1.Lo)) (wZ rfl) dx rfl
 rintro ⟨_,⟨v10,v11⟩⟩ τ hz;(try dsimp only at hz);subst q12;(try dsimp only at h);dsimp only [aF]
 refine fW (aT [0] [66,67] [(68,pB (decide (0<v10)))] (by kernel_rfl) (bZ rfl h (fun hc15 h=>?_) fun hc15 h=>?_))
 ·refine af ?_
  refine ai [(6,pU 0),(7,pI 3)] (by kernel_rfl) (fB ?_)
  obtain rfl:=osi h
  exact aM (bR (aK rfl) (aK rfl)) bD ⟨rfl,rfl⟩
 refine ag ?_
 refine bN (aT [0] [69,70] [(6,pU v11),(7,pI 0)] (by kernel_rfl) (dB ?_))
 obtain rfl:=osi h
 exact aM (bR (aK rfl) (aK rfl)) bD ⟨rfl,rfl⟩
def cM (p0:Zk) (p1:Int) (p2:Int):Option (Int×Int):=(gM p0).bind fun x2=>cond (x2 != 0) (some ((0:Int),x2)) ((fF p1 1000000000000).bind fun x4=>(gd (!(!x4)) (fF p2 1000000000)).bind fun x5=>cond ((!x4)||(!x5)) (some ((0:Int),(2:Int))) ((dy p0.Rate p1 (cX p0.Per 1)).bind fun x7=>(fy (IntKind.u64.wrap ((IntKind.u64.wrap p0.Amount)*(IntKind.u64.wrap p2))) 1000000).bind fun x8=>(dC x7 x8).bind fun x9=>(gd p0.HasMost (dy p0.Most p1 (cX p0.Per 1))).bind fun x11=>(gd p0.HasMost (ez x11 x9.1)).bind fun x12=>Option.bind (cond (p0.HasMost&&x12) ((dy p0.Most p1 (cX p0.Per 1)).bind fun x17=>some (x17.Hi,x17.Lo)) (some (x9.1.Hi,x9.1.Lo))) (fun (v13,v14)=>(gd p0.HasLeast (dy p0.Least p1 (cX p0.Per 1))).bind fun x18=>(gd p0.HasLeast (ez (⟨v13,v14⟩:Ze) x18)).bind fun x19=>Option.bind (cond (p0.HasLeast&&x19) ((dy p0.Least p1 (cX p0.Per 1)).bind fun x24=>some (x24.Hi,x24.Lo)) (some (v13,v14))) (fun (v20,v21)=>(iR (⟨v20,v21⟩:Ze) (IntKind.u64.wrap ((IntKind.u64.wrap (cX p0.Per 1))*1000000)) 2).bind fun x25=>cond ((x25.2 != 0)||(decide (1000000000000<x25.1))) (some ((0:Int),(3:Int))) (some ((IntKind.i64.wrap x25.1),(0:Int)))))))
theorem jr {p0:Zk} {p1:Int} {p2:Int} {r:(Int×Int)}  (h:cM p0 p1 p2=some r):PF 15 [.agg (gt p0),pI p1,pI p2] (.tup [pI r.1,pI r.2]):=by
 unfold cM at h
 refine bi ?_
 refine eg Tryz.func15 rfl Tryz.ntmps15 Tryz.results15 rfl (ae (ar rfl (bB (cs:=(gt p0)) rfl rfl (fun b1=>bu [6,7] (by kernel_rfl) (cH (aa h fun x2 hx2 h=>aD [0] [14,15] [(8,pI x2)] (bz 1 (lI hx2) bA) (by kernel_rfl) (bN (ah [16] [(17,pB (x2 != 0))] (by kernel_rfl) (bZ rfl h (fun hc3 h=>?_) fun hc3 h=>?_)))))))))
 ·refine af ?_
  refine ah [18] [(6,pI 0),(7,pI x2)] (by kernel_rfl) (fB ?_)
  obtain rfl:=osi h
  exact aM (bR (aK rfl) (aK rfl)) bD ⟨rfl,rfl⟩
 refine ag ?_
 refine cH (aa h fun x4 hx4 h=>aa h fun x5 hx5 h=>aD [] (rg 19 7) [(26,pB ((!x4)||(!x5)))] (bz 1 (fY hx4) (eJ 5 (fun hc=>fY (cB hx5 hc)) bA)) (by kernel_rfl) (bZ rfl h (fun hc6 h=>?_) fun hc6 h=>?_))
 ·refine af ?_
  refine ai [(6,pI 0),(7,pI 2)] (by kernel_rfl) (fB ?_)
  obtain rfl:=osi h
  exact aM (bR (aK rfl) (aK rfl)) bD ⟨rfl,rfl⟩
 refine ag ?_
 refine bN (aT [0] [27,28,29] [(9,pI (cX p0.Per 1))] (by kernel_rfl) (bN (bH (ρd:=[]) [(0,0),(1,0),(2,0),(3,0),(5,0),(6,0),(7,0),(8,0),(9,0),(10,0),(4,1),(11,1),(12,1),(13,0),(14,0),(15,0),(16,2),(17,1),(18,0)] _ (List.Perm.refl _) (by kernel_rfl) rfl (aa h fun x7 hx7 h=>aa h fun x8 hx8 h=>aa h fun x9 hx9 h=>bV 16 [0,0] [31,32,33,34,36,37,38,39,40,41,35,42,43,30] [(44,.agg [pU x9.1.Hi,pU x9.1.Lo]),(45,pB x9.2)] (bz 10 (eK hx7) (bz 11 (kg hx8) (bz 12 (gw hx9) bA))) (by kernel_rfl) (kN (kL rfl rfl rfl rfl rfl) (fun _=>rfl) rfl (fun b10=>rD rfl rfl (ak (vs:=[pU x9.1.Hi,pU x9.1.Lo]) rfl rfl rfl rfl rfl cn jV (yz 1 [11] (by kernel_rfl) (ce (cH (bH (ρd:=[]) [(0,0),(1,0),(2,0),(3,0),(4,0),(5,0),(6,0),(8,0),(7,1),(9,1),(10,0)] _ (List.Perm.refl _) (by kernel_rfl) rfl (aa h fun x11 hx11 h=>aa h fun x12 hx12 h=>bV 11 [1,1,0] ((rg 46 7)++[54,53,55]) [(56,pB (p0.HasMost&&x12))] (eJ 8 (fun hc=>eK (cB hx11 hc)) (eJ 9 (fun hc=>lK (cB hx12 hc)) bA)) (by kernel_rfl) (ce (fu h fun q15 hq15 h=>?_))))))))))))))
 refine av (Y:=Unit×(Int×Int)) (fun (_,(v13,v14))=>[(1,pI p1),(3,pP b1 0),(9,pI (cX p0.Per 1)),(10,pP b10 0)]) (fun (_,(v13,v14))=>[PRes.b b1 46 (gt p0),PRes.b b10 80 [pU v13,pU v14]]) (fun (_,(v13,v14))=>q15=(v13,v14)) ?_ ?_
 ·skip
  refine iQ rfl hq15 (fun hc16 hq15=>?_) fun hc16 hq15=>?_
  ·refine aa hq15 ?_;clear hq15;intro x17 hx17 hq15
   refine ae (bd 5 [1] [57,58,59,60] [(61,.agg [pU x17.Hi,pU x17.Lo])] (bz 4 (eK hx17) bA) (by kernel_rfl) (aQ rfl rfl (ak (vs:=[pU x17.Hi,pU x17.Lo]) rfl rfl rfl rfl rfl cn jV (az ?_))))
   obtain rfl:=osi hq15
   exact au ((),(x17.Hi,x17.Lo)) (kf rfl) (bv (aR aZ) dx) rfl
  refine ag ?_
  obtain rfl:=osi hq15
  exact au ((),(x9.1.Hi,x9.1.Lo)) (kf rfl) (bv (aR aZ) dx) rfl
 rintro ⟨_,⟨v13,v14⟩⟩ τ hz;(try dsimp only at hz);subst q15;(try dsimp only at h);dsimp only [aF]
 refine fW (bH (ρd:=[]) [(0,0),(1,0),(2,0),(3,0),(4,0),(5,0),(6,0),(7,0),(8,1),(9,1),(10,0)] _ (List.Perm.refl _) (by kernel_rfl) rfl (aa h fun x18 hx18 h=>aa h fun x19 hx19 h=>bV 11 [0,1,0] (rg 62 10) [(72,pB (p0.HasLeast&&x19))] (eJ 8 (fun hc=>eK (cB hx18 hc)) (eJ 9 (fun hc=>lK (cB hx19 hc)) bA)) (by kernel_rfl) (ce (fu h fun q22 hq22 h=>?_))))
 refine av (Y:=Unit×(Int×Int)) (fun (_,(v20,v21))=>[(9,pI (cX p0.Per 1)),(10,pP b10 0)]) (fun (_,(v20,v21))=>[PRes.b b10 80 [pU v20,pU v21]]) (fun (_,(v20,v21))=>q22=(v20,v21)) ?_ ?_
 ·skip
  refine iQ rfl hq22 (fun hc23 hq22=>?_) fun hc23 hq22=>?_
  ·refine aa hq22 ?_;clear hq22;intro x24 hx24 hq22
   refine ae (bd 5 [0] [73,74,75,76] [(77,.agg [pU x24.Hi,pU x24.Lo])] (bz 4 (eK hx24) bA) (by kernel_rfl) (aQ rfl rfl (ak (vs:=[pU x24.Hi,pU x24.Lo]) rfl rfl rfl rfl rfl (cA cn) jV (az ?_))))
   obtain rfl:=osi hq22
   exact au ((),(x24.Hi,x24.Lo)) (ke rfl) (bv (aR aZ) bD) rfl
  refine ag ?_
  obtain rfl:=osi hq22
  exact au ((),(v13,v14)) (ke rfl) (bv (aR aZ) bD) rfl
 rintro ⟨_,⟨v20,v21⟩⟩ τ hz;(try dsimp only at hz);subst q22;(try dsimp only at h);dsimp only [aF]
 refine af (aa h fun x25 hx25 h=>aD [0] ((rg 79 5)++[78,84,85]) [(12,pU x25.1),(13,pI x25.2)] (bz 4 (rU hx25) bA) (by kernel_rfl) (cH (ah (rg 86 5) [(91,pB ((x25.2 != 0)||(decide (1000000000000<x25.1))))] (by kernel_rfl) (bZ rfl h (fun hc26 h=>?_) fun hc26 h=>?_))))
 ·refine af ?_
  refine ai [(6,pI 0),(7,pI 3)] (by kernel_rfl) (fB ?_)
  obtain rfl:=osi h
  exact aM (bR (aK rfl) (aK rfl)) bD ⟨rfl,rfl⟩
 refine ag ?_
 refine bN (ah [92,93] [(6,pI (IntKind.i64.wrap x25.1)),(7,pI 0)] (by kernel_rfl) (dB ?_))
 obtain rfl:=osi h
 exact aM (bR (aK rfl) (aK rfl)) bD ⟨rfl,rfl⟩
def fz (p0:(List Zc)) (p1:Zj):Option (Zl×Int):=(ff p0).bind fun x3=>cond (x3 != 0) (some ((⟨[],0⟩:Zl),x3)) ((fO p1).bind fun x5=>cond (x5 != 0) (some ((⟨[],0⟩:Zl),x5)) (Option.bind (cond (decide (0<p1.Quantity)) ((fZ p1.Value [p1.Granted,(IntKind.i64.wrap (p1.Quantity - p1.Granted))]).bind fun x14=>some x14.1) (some [0,p1.Value])) (fun l11=>(fG p0 1 p1.Code p1.Origin p1.Company p1.Day).bind fun x15=>cond (!x15.2) (some ((⟨[],0⟩:Zl),(7:Int))) ((bk (S:=Bool×Int×(List Za)) (T:=(Bool×(List Za))) (fun (v19,v20,l22)=>cond (decide (v20<2)) (((idx [p1.Granted,(IntKind.i64.wrap (p1.Quantity - p1.Granted))] v20).bind fun m40=>cond ((m40 == 0)&&((v20 == 0)||(decide (0<p1.Quantity)))) (some (v19,l22)) ((bk (S:=Bool×Int×Int×Int×Int×Int×Int) (T:=(Bool×Int×Int×Int×Int×Int)) (fun (v43,v44,v45,v46,v47,v48,v49)=>cond (decide (v44≤4)) (((fG p0 v44 p1.Code p1.Origin p1.Company p1.Day).bind fun x68=>cond (((!x68.2)||((v44 == 3)&&(!p1.Proof)))||((v44 == 4)&&(v20 == 1))) (some (v43,v45,v46,v47,v48,v49)) ((idx l11 v20).bind fun m71=>(idx [p1.Granted,(IntKind.i64.wrap (p1.Quantity - p1.Granted))] v20).bind fun m72=>(cM x68.1.Duty m71 m72).bind fun x73=>cond ((v44 == 1)||(decide (x73.1<v49))) ((idx [p1.Granted,(IntKind.i64.wrap (p1.Quantity - p1.Granted))] v20).bind fun m75=>(idx l11 v20).bind fun m76=>some ((v43||(x73.2 != 0)),v44,x68.1.ID,m75,m76,x73.1)) (some ((v43||(x73.2 != 0)),v45,v46,v47,v48,v49)))).bind fun (v60,v62,v63,v64,v65,v66)=>some (.inl (v60,(IntKind.i64.wrap (v44+1)),v62,v63,v64,v65,v66))) (some (.inr (v43,v45,v46,v47,v48,v49)))) FUEL (v19,1,0,0,0,0,0)).bind fun (v50,v52,v53,v54,v55,v56)=>(app 40 l22 [(⟨v52,v53,v54,v55,v56⟩:Za)]).bind fun l79=>some (v50,l79))).bind fun (v34,l38)=>some (.inl (v34,(IntKind.i64.wrap (v20+1)),l38))) (some (.inr (v19,l22)))) FUEL (false,0,([]:List Za))).bind fun (v25,l29)=>(bk (S:=Bool×Int×(List Za)) (T:=(Bool×(List Za))) (fun (v83,v84,l86)=>cond (decide (v84≤6)) (((fG p0 v84 p1.Code p1.Origin p1.Company p1.Day).bind fun x103=>cond x103.2 ((cM x103.1.Duty p1.Value p1.Quantity).bind fun x106=>(app 40 l86 [(⟨v84,x103.1.ID,p1.Quantity,p1.Value,x106.1⟩:Za)]).bind fun l109=>some ((v83||(x106.2 != 0)),l109)) (some (v83,l86))).bind fun (v97,l101)=>some (.inl (v97,(IntKind.i64.wrap (v84+1)),l101))) (some (.inr (v83,l86)))) FUEL (v25,5,l29)).bind fun (v89,l93)=>(bk (S:=Int×Int) (T:=(Int)) (fun (v113,v114)=>cond (decide (v113<((l93.length:Nat):Int))) ((idx l93 v113).bind fun m120=>some (.inl ((IntKind.i64.wrap (v113+1)),(IntKind.i64.wrap (v114+m120.Amount))))) (some (.inr v114))) FUEL (0,0)).bind fun v116=>cond (v89||(decide (1000000000000<v116))) (some ((⟨[],0⟩:Zl),(3:Int))) (some ((⟨l93,v116⟩:Zl),(0:Int)))))))
theorem ku {p0:(List Zc)} {p1:Zj} {r:(Zl×Int)}  (h:fz p0 p1=some r):PF 4 [pL Zc.enc p0,.agg (cw p1)] (.tup [.agg [pL Za.enc r.1.Lines,pI r.1.Total],pI r.2]):=by
 unfold fz at h
 refine bi ?_
 refine eg Tryz.func4 rfl Tryz.ntmps4 Tryz.results4 rfl (ae (ar rfl (bB (cs:=(cw p1)) rfl rfl (fun b1=>ar rfl (be (cs:=[pN,pI 0]) rfl rfl rfl rfl (fun b2=>bu [5] (by kernel_rfl) (cH (aa h fun x3 hx3 h=>aD [] [27,28] [(6,pI x3)] (bz 1 (mT hx3) bA) (by kernel_rfl) (bN (ah [29] [(30,pB (x3 != 0))] (by kernel_rfl) (bZ rfl h (fun hc4 h=>?_) fun hc4 h=>?_)))))))))))
 ·refine af ?_
  refine ae (aA 2 [(31,.agg [pN,pI 0]),(32,pI x3)] (by kernel_rfl) (aQ rfl rfl (ak (vs:=[pN,pI 0]) rfl rfl rfl rfl rfl cn jV (aL [(5,pI x3)] (by kernel_rfl) (aH (fa (k:=0) (b:=b2) rfl cn (cu (aP ?_))))))))
  obtain rfl:=osi h
  exact aM (bR (dh rfl eD rfl) (aK rfl)) bD ⟨rfl,rfl⟩
 refine ag ?_
 refine cH (aa h fun x5 hx5 h=>aD [1] [33,34] [(7,pI x5)] (bz 1 (qn hx5) bA) (by kernel_rfl) (bN (ah [35] [(36,pB (x5 != 0))] (by kernel_rfl) (bZ rfl h (fun hc6 h=>?_) fun hc6 h=>?_))))
 ·refine af ?_
  refine ae (aA 2 [(37,.agg [pN,pI 0]),(38,pI x5)] (by kernel_rfl) (aQ rfl rfl (ak (vs:=[pN,pI 0]) rfl rfl rfl rfl rfl cn jV (aL [(5,pI x5)] (by kernel_rfl) (aH (fa (k:=0) (b:=b2) rfl cn (cu (aP ?_))))))))
  obtain rfl:=osi h
  exact aM (bR (dh rfl eD rfl) (aK rfl)) bD ⟨rfl,rfl⟩
 refine ag ?_
 refine bN ?_
 refine av (Y:=Nat×Nat) (fun (b7,b9)=>[(0,pL Zc.enc p0),(3,pP b1 0),(4,pP b2 0),(8,pO (some ⟨b7,0,none⟩) 2 2),(9,pO (some ⟨b9,0,none⟩) 2 2)]) (fun (b7,b9)=>[PRes.b b1 32 (cw p1),PRes.b b2 25 [pN,pI 0],PRes.row (some ⟨b9,0,none⟩) 2 2 3 1 (List.map eI [0,p1.Value]),PRes.row (some ⟨b7,0,none⟩) 2 2 3 1 (List.map eI [p1.Granted,(IntKind.i64.wrap (p1.Quantity - p1.Granted))])]) (fun _=>True) ?_ ?_
 ·refine eN (ρd:=[]) _ (List.Perm.refl _) ?_
  refine aS 0 (by kernel_rfl) rfl rfl rfl rfl (aJ rfl rfl rfl rfl rfl (.p rfl)) (aS 1 (by kernel_rfl) rfl rfl rfl rfl (bU (p:=pI p1.Granted) rfl (.p rfl) iZ rfl) (aS 2 (by kernel_rfl) rfl rfl rfl rfl (aJ rfl rfl rfl rfl rfl (.p rfl)) (aS 3 (by kernel_rfl) rfl rfl rfl rfl (bU (p:=pI p1.Quantity) rfl (.p rfl) iZ rfl) (aS 4 (by kernel_rfl) rfl rfl rfl rfl (aJ rfl rfl rfl rfl rfl (.p rfl)) (aS 5 (by kernel_rfl) rfl rfl rfl rfl (bU (p:=pI p1.Granted) rfl (.p rfl) iZ rfl) (aS 6 (by kernel_rfl) rfl rfl rfl rfl (dw rfl (.p rfl) (.p rfl) rfl) (aS 8 (by kernel_rfl) rfl rfl rfl rfl (aJ rfl rfl rfl rfl rfl (.p rfl)) (aS 9 (by kernel_rfl) rfl rfl rfl rfl (bU (p:=pI p1.Value) rfl (.p rfl) iZ rfl) ?_))))))))
  refine dI 7 10 (by kernel_rfl) ?_ ?_
  ·skip
   refine aX rfl rfl rfl rfl (bW rfl rfl rfl rfl rfl (eW rfl (eW rfl jD)) rfl rfl rfl rfl (fun b7=>aS 11 (by kernel_rfl) rfl rfl rfl rfl (bc (p:=pO (some ⟨b7,0,none⟩) 2 2) rfl (.p rfl)) (aW 10 (by kernel_rfl) (aX rfl rfl rfl rfl (bW rfl rfl rfl rfl rfl (eW rfl (eW rfl jD)) rfl rfl rfl rfl (fun b9=>aS 12 (by kernel_rfl) rfl rfl rfl rfl (bc (p:=pO (some ⟨b9,0,none⟩) 2 2) rfl (.p rfl)) (bK (by kernel_rfl) ?_)))))))
   exact au (b7,b9) (kO rfl) (bv (aR (aR (aR aZ))) (bv (aR (aR aZ)) ml)) trivial
  skip
  refine aX rfl rfl rfl rfl (bW rfl rfl rfl rfl rfl (eW rfl (eW rfl jD)) rfl rfl rfl rfl (fun b9=>aW 7 (by kernel_rfl) (aX rfl rfl rfl rfl (bW rfl rfl rfl rfl rfl (eW rfl (eW rfl jD)) rfl rfl rfl rfl (fun b7=>aS 11 (by kernel_rfl) rfl rfl rfl rfl (bc (p:=pO (some ⟨b7,0,none⟩) 2 2) rfl (.p rfl)) (aS 12 (by kernel_rfl) rfl rfl rfl rfl (bc (p:=pO (some ⟨b9,0,none⟩) 2 2) rfl (.p rfl)) (bK (by kernel_rfl) ?_)))))))
  exact au (b7,b9) (kO rfl) (bv (aR (aR (aR aZ))) (bv (aR (aR aZ)) (bv (aR aZ) dx))) trivial
 rintro ⟨b7,b9⟩ τ _;dsimp only [aF]
 refine fW (aT [0] [50,51] [(52,pB (decide (0<p1.Quantity)))] (by kernel_rfl) (fu h fun q12 hq12 h=>?_))
 refine av (Y:=Unit×((List Int))) (fun (_,l11)=>[(0,pL Zc.enc p0),(3,pP b1 0),(4,pP b2 0),(8,pL eI [p1.Granted,(IntKind.i64.wrap (p1.Quantity - p1.Granted))]),(9,pL eI l11)]) (fun (_,l11)=>[PRes.b b1 32 (cw p1),PRes.b b2 25 [pN,pI 0]]) (fun (_,l11)=>q12=l11) ?_ ?_
 ·skip
  refine iQ rfl hq12 (fun hc13 hq12=>?_) fun hc13 hq12=>?_
  ·refine ae ?_
   refine cq 3 [0] [54] [(55,pI p1.Value),(56,pO (some ⟨b7,0,none⟩) 2 2)] (by kernel_rfl) ?_
   refine kK (enc:=eI) (xs:=[p1.Granted,(IntKind.i64.wrap (p1.Quantity - p1.Granted))]) 56 rfl (by exact aR (aR (aR aZ))) ?_
   refine aa hq12 fun x14 hx14 hq12=>gX [] [57,53,58,59] [(9,pL eI x14.1)] (bz 0 (pJ hx14) bA) (by kernel_rfl) (fN (xS (enc:=eI) (xs:=[p1.Granted,(IntKind.i64.wrap (p1.Quantity - p1.Granted))]) 8 rfl eD) ?_)
   obtain rfl:=osi hq12
   exact au ((),x14.1) (kO rfl) (bv (aR aZ) (bv (aR aZ) bD)) rfl
  refine ag ?_
  refine fN (mG (enc:=eI) (xs:=[p1.Granted,(IntKind.i64.wrap (p1.Quantity - p1.Granted))]) 8 rfl (by exact aR (aR (aR aZ)))) ?_
  refine fN (mG (enc:=eI) (xs:=[0,p1.Value]) 9 rfl (by exact aR (aR (aR aZ)))) ?_
  obtain rfl:=osi hq12
  exact au ((),[0,p1.Value]) (kO rfl) (bv (aR (aR aZ)) (bv (aR (aR aZ)) bD)) rfl
 rintro ⟨_,l11⟩ τ hz;(try dsimp only at hz);subst q12;(try dsimp only at h);dsimp only [aF]
 refine fW (aa h fun x15 hx15 h=>ae (bd 13 [0,0,0,0] ((rg 61 10)++[60]) [(71,.agg (aU x15.1)),(72,pB x15.2)] (bz 9 (kV hx15) bA) (by kernel_rfl) (ar rfl (be (cs:=[pI 0,pI 0,pS ByteArray.empty,pN,pI 0,pI 0,pI 0,pI 0,pI 0,pI 0,pI 0,pB false,pI 0,pB false,pI 0]) rfl rfl rfl rfl (fun b16=>aQ rfl rfl (ak (vs:=(aU x15.1)) rfl rfl rfl rfl rfl cn (dg (dg (dg (dg (dg (dg xX)))))) (aL [(11,pB x15.2)] (by kernel_rfl) (bN (ah [73] [(74,pB (!x15.2))] (by kernel_rfl) (bZ rfl h (fun hc17 h=>?_) fun hc17 h=>?_))))))))))
 ·refine af ?_
  refine ae (aA 1 [(75,.agg [pN,pI 0])] (by kernel_rfl) (aQ rfl rfl (ak (vs:=[pN,pI 0]) rfl rfl rfl rfl rfl (cA (cA cn)) jV (aL [(5,pI 7)] (by kernel_rfl) (aH (fa (k:=0) (b:=b2) rfl (cA (cA cn)) (cu (aP ?_))))))))
  obtain rfl:=osi h
  exact aM (bR (dh rfl zd rfl) (aK rfl)) bD ⟨rfl,rfl⟩
 refine ag ?_
 refine bN (ae (aA 1 [(76,.agg [pN,pI 0])] (by kernel_rfl) (ar rfl (be (cs:=[pN,pI 0]) rfl rfl rfl rfl (fun b18=>aQ rfl rfl (ak (vs:=[pN,pI 0]) rfl rfl rfl rfl rfl cn jV (aL [(13,pB false)] (by kernel_rfl) (cH (ai [(14,pI 0)] (by kernel_rfl) (aH (dn 37 5 (aa h fun q31 hq31 h=>?_))))))))))))
 refine av (Y:=(Option Addr×Nat)×(Bool×(List Za))) (fun ((a27,c28),(v25,l29))=>[(0,pL Zc.enc p0),(3,pP b1 0),(4,pP b2 0),(12,pP b18 0),(13,pB v25)]) (fun ((a27,c28),(v25,l29))=>[PRes.b b1 32 (cw p1),PRes.b b18 25 [pO a27 l29.length c28,pI 0],PRes.b b2 25 [pN,pI 0],PRes.row a27 l29.length c28 37 5 (List.map Za.enc l29)]) (fun ((a27,c28),(v25,l29))=>q31=(v25,l29)) ?_ ?_
 ·refine an ?_
  refine aY (Y:=Option Addr×Nat) (S:=Bool×Int×(List Za)) _ hq31 (fun (a23,c24) (v19,v20,l22)=>[(0,pL Zc.enc p0),(3,pP b1 0),(4,pP b2 0),(8,pL eI [p1.Granted,(IntKind.i64.wrap (p1.Quantity - p1.Granted))]),(9,pL eI l11),(12,pP b18 0),(13,pB v19),(14,pI v20)]) (fun (a23,c24) (v19,v20,l22)=>[PRes.b b1 32 (cw p1),PRes.b b18 25 [pO a23 l22.length c24,pI 0],PRes.b b2 25 [pN,pI 0],PRes.row a23 l22.length c24 37 5 (List.map Za.enc l22)]) (none,0) (ze rfl) (bv (aR (aR (aR aZ))) (bv (aR aZ) (bv (aR (aR aZ)) dx))) ?_
  rintro ⟨a23,c24⟩ ⟨v19,v20,l22⟩ o τ hb30;(try dsimp only at hb30);dsimp only [aF]
  refine fW (ah [77] [(78,pB (decide (v20<2)))] (by kernel_rfl) (bZ rfl hb30 (fun hc33 hb30=>?_) fun hc33 hb30=>?_))
  ·refine ag ?_
   refine eo hb30 fun q39 hq39 hb30=>?_
   refine av (Y:=(Option Addr×Nat)×(Bool×(List Za))) (fun ((a36,c37),(v34,l38))=>[(0,pL Zc.enc p0),(3,pP b1 0),(4,pP b2 0),(8,pL eI [p1.Granted,(IntKind.i64.wrap (p1.Quantity - p1.Granted))]),(9,pL eI l11),(12,pP b18 0),(13,pB v34),(14,pI v20)]) (fun ((a36,c37),(v34,l38))=>[PRes.b b1 32 (cw p1),PRes.b b18 25 [pO a36 l38.length c37,pI 0],PRes.b b2 25 [pN,pI 0],PRes.row a36 l38.length c37 37 5 (List.map Za.enc l38)]) (fun ((a36,c37),(v34,l38))=>q39=(v34,l38)) ?_ ?_
   ·skip
    refine an (fW (aa hq39 fun m40 hm40 hq39=>aD [0] (rg 81 13) [(94,pB ((m40 == 0)&&((v20 == 0)||(decide (0<p1.Quantity)))))] (eH 2 eI hm40 bA) (by kernel_rfl) (bZ rfl hq39 (fun hc41 hq39=>?_) fun hc41 hq39=>?_)))
    ·refine ba ?_
     refine aI (aG rfl ?_)
     obtain rfl:=osi hq39
     exact au ((a23,c24),(v19,l22)) (ze rfl) zs4 rfl
    refine ag ?_
    refine bN (ae (aA 1 [(95,.agg [pI 0,pI 0,pI 0,pI 0,pI 0])] (by kernel_rfl) (ar rfl (be (cs:=[pI 0,pI 0,pI 0,pI 0,pI 0]) rfl rfl rfl rfl (fun b42=>aQ rfl rfl (ak (vs:=[pI 0,pI 0,pI 0,pI 0,pI 0]) rfl rfl rfl rfl rfl cn zl5 (az (cH (ai [(16,pI 1)] (by kernel_rfl) (fu hq39 fun q58 hq58 hq39=>?_))))))))))
    refine av (Y:=Unit×(Bool×Int×Int×Int×Int×Int)) (fun (_,(v50,v52,v53,v54,v55,v56))=>[(0,pL Zc.enc p0),(3,pP b1 0),(4,pP b2 0),(8,pL eI [p1.Granted,(IntKind.i64.wrap (p1.Quantity - p1.Granted))]),(9,pL eI l11),(12,pP b18 0),(13,pB v50),(14,pI v20),(15,pP b42 0)]) (fun (_,(v50,v52,v53,v54,v55,v56))=>[PRes.b b1 32 (cw p1),PRes.b b18 25 [pO a23 l22.length c24,pI 0],PRes.b b2 25 [pN,pI 0],PRes.b b42 37 [pI v52,pI v53,pI v54,pI v55,pI v56],PRes.row a23 l22.length c24 37 5 (List.map Za.enc l22)]) (fun (_,(v50,v52,v53,v54,v55,v56))=>q58=(v50,v52,v53,v54,v55,v56)) ?_ ?_
    ·refine an ?_
     refine aY (Y:=Unit) (S:=Bool×Int×Int×Int×Int×Int×Int) _ hq58 (fun _ (v43,v44,v45,v46,v47,v48,v49)=>[(0,pL Zc.enc p0),(3,pP b1 0),(4,pP b2 0),(8,pL eI [p1.Granted,(IntKind.i64.wrap (p1.Quantity - p1.Granted))]),(9,pL eI l11),(12,pP b18 0),(13,pB v43),(14,pI v20),(15,pP b42 0),(16,pI v44)]) (fun _ (v43,v44,v45,v46,v47,v48,v49)=>[PRes.b b1 32 (cw p1),PRes.b b18 25 [pO a23 l22.length c24,pI 0],PRes.b b2 25 [pN,pI 0],PRes.b b42 37 [pI v45,pI v46,pI v47,pI v48,pI v49],PRes.row a23 l22.length c24 37 5 (List.map Za.enc l22)]) () (dK rfl (mI rfl)) (bv (aR aZ) (bv (aR aZ) (bv (aR aZ) ml))) ?_
     rintro _ ⟨v43,v44,v45,v46,v47,v48,v49⟩ o τ hb57;(try dsimp only at hb57);dsimp only [aF]
     refine fW (ah [96] [(97,pB (decide (v44≤4)))] (by kernel_rfl) (bZ rfl hb57 (fun hc59 hb57=>?_) fun hc59 hb57=>?_))
     ·refine ag ?_
      refine eo hb57 fun q67 hq67 hb57=>?_
      refine av (Y:=Unit×(Bool×Int×Int×Int×Int×Int)) (fun (_,(v60,v62,v63,v64,v65,v66))=>[(0,pL Zc.enc p0),(3,pP b1 0),(4,pP b2 0),(8,pL eI [p1.Granted,(IntKind.i64.wrap (p1.Quantity - p1.Granted))]),(9,pL eI l11),(12,pP b18 0),(13,pB v60),(14,pI v20),(15,pP b42 0),(16,pI v44)]) (fun (_,(v60,v62,v63,v64,v65,v66))=>[PRes.b b1 32 (cw p1),PRes.b b18 25 [pO a23 l22.length c24,pI 0],PRes.b b2 25 [pN,pI 0],PRes.b b42 37 [pI v62,pI v63,pI v64,pI v65,pI v66],PRes.row a23 l22.length c24 37 5 (List.map Za.enc l22)]) (fun (_,(v60,v62,v63,v64,v65,v66))=>q67=(v60,v62,v63,v64,v65,v66)) ?_ ?_
      ·skip
       refine an (af (aa hq67 fun x68 hx68 hq67=>ae (bd 14 [0,0,0,0] ((rg 101 11)++[100]) [(112,.agg (aU x68.1)),(113,pB x68.2)] (bz 10 (kV hx68) bA) (by kernel_rfl) (ar rfl (be (cs:=[pI 0,pI 0,pS ByteArray.empty,pN,pI 0,pI 0,pI 0,pI 0,pI 0,pI 0,pI 0,pB false,pI 0,pB false,pI 0]) rfl rfl rfl rfl (fun b69=>aQ rfl rfl (ak (vs:=(aU x68.1)) rfl rfl rfl rfl rfl cn (dg (dg (dg (dg (dg (dg xX)))))) (aL [(18,pB x68.2)] (by kernel_rfl) (cH (aT [1] (rg 114 18) [(132,pB (((!x68.2)||((v44 == 3)&&(!p1.Proof)))||((v44 == 4)&&(v20 == 1))))] (by kernel_rfl) (bZ rfl hq67 (fun hc70 hq67=>?_) fun hc70 hq67=>?_)))))))))))
       ·refine ba ?_
        refine aI (aG rfl ?_)
        obtain rfl:=osi hq67
        exact au ((),(v43,v45,v46,v47,v48,v49)) (dK rfl (mI rfl)) (bv (aR aZ) (bv (aR aZ) (bv (aR aZ) (bv (aR aZ) (bv (aR aZ) bD))))) rfl
       refine ag ?_
       refine bN (bH (ρd:=[]) [(0,0),(1,0),(2,0),(3,0),(4,0),(5,0),(6,0),(7,0),(8,0),(9,0),(10,1),(11,0),(12,0),(13,0),(14,0),(15,0)] _ (List.Perm.refl _) (by kernel_rfl) rfl (aa hq67 fun m71 hm71 hq67=>aa hq67 fun m72 hm72 hq67=>aa hq67 fun x73 hx73 hq67=>bV 16 [0] ((rg 134 11)++[133,145,146]) [(19,pI x73.1),(20,pI x73.2)] (eH 4 eI hm71 (eH 8 eI hm72 (bz 10 (jr hx73) bA))) (by kernel_rfl) (ce (bN (ah (rg 147 5) [(13,pB (v43||(x73.2 != 0)))] (by kernel_rfl) (bN (aT [4] (rg 152 7) [(159,pB ((v44 == 1)||(decide (x73.1<v49))))] (by kernel_rfl) (bZ rfl hq67 (fun hc74 hq67=>?_) fun hc74 hq67=>?_))))))))
       ·refine bH (ρd:=[PRes.b b42 _ _]) [(0,0),(1,0),(2,0),(3,0),(4,0),(5,0),(6,0),(7,0),(8,0),(9,0),(10,0),(11,0),(12,0),(13,1)] _ (aC (aR (aR (aR (aR aZ)))) (List.Perm.refl _)) (by kernel_rfl) rfl ?_
        refine aa hq67 fun m75 hm75 hq67=>aa hq67 fun m76 hm76 hq67=>bV 12 [0] [161,163,164,165,167,168,169] [(160,pI v44),(162,pI x68.1.ID),(166,pI m75),(170,pI m76),(171,pI x73.1)] (eH 5 eI hm75 (eH 9 eI hm76 bA)) (by kernel_rfl) (kp rfl rfl rfl (lq (cs:=[pI v44,pI x68.1.ID,pI m75,pI m76,pI x73.1]) rfl rfl rfl rfl rfl rfl rfl (rA rfl rfl rfl rfl eX (rA rfl rfl rfl rfl (bQ eX) (rA rfl rfl rfl rfl (bQ (bQ eX)) (rA rfl rfl rfl rfl (bQ (bQ (bQ eX))) (rA rfl rfl rfl rfl (bQ (bQ (bQ (bQ eX)))) zfn)))))) (rD rfl rfl (ak (vs:=[pI v44,pI x68.1.ID,pI m75,pI m76,pI x73.1]) rfl rfl rfl rfl rfl cn zl5 (ce (aj ?_)))))
        obtain rfl:=osi hq67
        exact au ((),((v43||(x73.2 != 0)),v44,x68.1.ID,m75,m76,x73.1)) (dK rfl (mI rfl)) (bv (aR (aR aZ)) (bv (aR (aR aZ)) (bv (aR (aR aZ)) (bv aZ (bv (aR aZ) bD))))) rfl
       refine ag ?_
       refine aj ?_
       obtain rfl:=osi hq67
       exact au ((),((v43||(x73.2 != 0)),v45,v46,v47,v48,v49)) (dK rfl (mI rfl)) (bv (aR aZ) (bv (aR aZ) (bv (aR aZ) (bv (aR aZ) (bv (aR aZ) bD))))) rfl
      rintro ⟨_,⟨v60,v62,v63,v64,v65,v66⟩⟩ τ hz;(try dsimp only at hz);subst q67;(try dsimp only at hb57);dsimp only [aF]
      refine ah [98,99] [(16,pI (IntKind.i64.wrap (v44+1)))] (by kernel_rfl) ?_
      exact bm hb57 () (dK rfl (mI rfl)) zs5
     refine ba ?_
     refine aI (aB hb57 (fun ht=>aG rfl ?_))
     exact au ((),(v43,v45,v46,v47,v48,v49)) (mI rfl) zs5 ht.symm
    rintro ⟨_,⟨v50,v52,v53,v54,v55,v56⟩⟩ τ hz;(try dsimp only at hz);subst q58;(try dsimp only at hq39);dsimp only [aF]
    refine ae (cq 3 [1,3] [173] [(174,pO a23 l22.length c24),(175,.agg [pI v52,pI v53,pI v54,pI v55,pI v56])] (by kernel_rfl) (ar rfl (bW rfl rfl rfl rfl rfl (eW rfl jD) rfl rfl rfl rfl (fun b77=>aa hq39 fun l79 hl79 hq39=>?_))))
    refine ar rfl (cV (enc:=Za.enc) rfl rfl rfl rfl rfl rfl rfl rfl rfl eD (by exact aR (aR (aR (aR (aR aZ))))) hl79 (fun a80 c81=>?_))
    refine aA 1 [(178,pP b18 0)] (by kernel_rfl) (aQ rfl rfl (ak (vs:=[pO a80 l79.length c81]) rfl rfl rfl rfl rfl (cA (cA (cA cn))) eX (az (aj ?_))))
    obtain rfl:=osi hq39
    exact au ((a80,c81),(v50,l79)) (ze rfl) (bv (aR (aR aZ)) (bv (aR (aR aZ)) (bv (aR (aR aZ)) dx))) rfl
   rintro ⟨⟨a36,c37⟩,⟨v34,l38⟩⟩ τ hz;(try dsimp only at hz);subst q39;(try dsimp only at hb30);dsimp only [aF]
   refine ah [79,80] [(14,pI (IntKind.i64.wrap (v20+1)))] (by kernel_rfl) ?_
   exact bm hb30 (a36,c37) (ze rfl) zs4
  refine ba ?_
  refine aI (aB hb30 (fun ht=>aG rfl ?_))
  exact au ((a23,c24),(v19,l22)) (kO rfl) zs4 ht.symm
 rintro ⟨⟨a27,c28⟩,⟨v25,l29⟩⟩ τ hz;(try dsimp only at hz);subst q31;(try dsimp only at h);dsimp only [aF]
 refine fW (ai [(21,pI 5)] (by kernel_rfl) (fu h fun q95 hq95 h=>?_))
 refine av (Y:=(Option Addr×Nat)×(Bool×(List Za))) (fun ((a91,c92),(v89,l93))=>[(4,pP b2 0),(12,pP b18 0),(13,pB v89)]) (fun ((a91,c92),(v89,l93))=>[PRes.b b18 25 [pO a91 l93.length c92,pI 0],PRes.b b2 25 [pN,pI 0],PRes.row a91 l93.length c92 37 5 (List.map Za.enc l93)]) (fun ((a91,c92),(v89,l93))=>q95=(v89,l93)) ?_ ?_
 ·refine an ?_
  refine aY (Y:=Option Addr×Nat) (S:=Bool×Int×(List Za)) _ hq95 (fun (a87,c88) (v83,v84,l86)=>[(0,pL Zc.enc p0),(3,pP b1 0),(4,pP b2 0),(12,pP b18 0),(13,pB v83),(21,pI v84)]) (fun (a87,c88) (v83,v84,l86)=>[PRes.b b1 32 (cw p1),PRes.b b18 25 [pO a87 l86.length c88,pI 0],PRes.b b2 25 [pN,pI 0],PRes.row a87 l86.length c88 37 5 (List.map Za.enc l86)]) (a27,c28) (qj rfl) zs4 ?_
  rintro ⟨a87,c88⟩ ⟨v83,v84,l86⟩ o τ hb94;(try dsimp only at hb94);dsimp only [aF]
  refine fW (ah [179] [(180,pB (decide (v84≤6)))] (by kernel_rfl) (bZ rfl hb94 (fun hc96 hb94=>?_) fun hc96 hb94=>?_))
  ·refine ag ?_
   refine eo hb94 fun q102 hq102 hb94=>?_
   refine av (Y:=(Option Addr×Nat)×(Bool×(List Za))) (fun ((a99,c100),(v97,l101))=>[(0,pL Zc.enc p0),(3,pP b1 0),(4,pP b2 0),(12,pP b18 0),(13,pB v97),(21,pI v84)]) (fun ((a99,c100),(v97,l101))=>[PRes.b b1 32 (cw p1),PRes.b b18 25 [pO a99 l101.length c100,pI 0],PRes.b b2 25 [pN,pI 0],PRes.row a99 l101.length c100 37 5 (List.map Za.enc l101)]) (fun ((a99,c100),(v97,l101))=>q102=(v97,l101)) ?_ ?_
   ·skip
    refine an (af (aa hq102 fun x103 hx103 hq102=>ae (bd 14 [0,0,0,0] ((rg 184 11)++[183]) [(195,.agg (aU x103.1)),(196,pB x103.2)] (bz 10 (kV hx103) bA) (by kernel_rfl) (ar rfl (be (cs:=[pI 0,pI 0,pS ByteArray.empty,pN,pI 0,pI 0,pI 0,pI 0,pI 0,pI 0,pI 0,pB false,pI 0,pB false,pI 0]) rfl rfl rfl rfl (fun b104=>aQ rfl rfl (ak (vs:=(aU x103.1)) rfl rfl rfl rfl rfl cn (dg (dg (dg (dg (dg (dg xX)))))) (aL [(23,pB x103.2)] (by kernel_rfl) (bN (ai [(197,pB x103.2)] (by kernel_rfl) (bZ rfl hq102 (fun hc105 hq102=>?_) fun hc105 hq102=>?_)))))))))))
    ·refine af ?_
     refine aa hq102 fun x106 hx106 hq102=>aD [0,1,1] ((rg 199 7)++[198,206,207]) [(24,pI x106.1),(25,pI x106.2)] (bz 6 (jr hx106) bA) (by kernel_rfl) (bN (ah (rg 208 5) [(13,pB (v83||(x106.2 != 0)))] (by kernel_rfl) (aH (ae (cq 11 [2,0,1,1] [213,215,216,217,218,219,220,221,222] [(214,pO a87 l86.length c88),(223,.agg [pI v84,pI x103.1.ID,pI p1.Quantity,pI p1.Value,pI x106.1])] (by kernel_rfl) (ar rfl (bW rfl rfl rfl rfl rfl (eW rfl jD) rfl rfl rfl rfl (fun b107=>aa hq102 fun l109 hl109 hq102=>?_))))))))
     refine ar rfl (cV (enc:=Za.enc) rfl rfl rfl rfl rfl rfl rfl rfl rfl eD (by exact aR (aR (aR (aR (aR aZ))))) hl109 (fun a110 c111=>?_))
     refine aA 1 [(226,pP b18 0)] (by kernel_rfl) (aQ rfl rfl (ak (vs:=[pO a110 l109.length c111]) rfl rfl rfl rfl rfl (cA (cA (cA (cA cn)))) eX (az (aj ?_))))
     obtain rfl:=osi hq102
     exact au ((a110,c111),((v83||(x106.2 != 0)),l109)) (qj rfl) (bv (aR (aR (aR aZ))) (bv (aR (aR (aR aZ))) (bv (aR (aR (aR aZ))) dx))) rfl
    refine ag ?_
    refine aj ?_
    obtain rfl:=osi hq102
    exact au ((a87,c88),(v83,l86)) (qj rfl) (bv (aR aZ) (bv (aR aZ) (bv (aR aZ) (bv (aR aZ) bD)))) rfl
   rintro ⟨⟨a99,c100⟩,⟨v97,l101⟩⟩ τ hz;(try dsimp only at hz);subst q102;(try dsimp only at hb94);dsimp only [aF]
   refine ah [181,182] [(21,pI (IntKind.i64.wrap (v84+1)))] (by kernel_rfl) ?_
   exact bm hb94 (a99,c100) (qj rfl) zs4
  refine ba ?_
  refine aI (aB hb94 (fun ht=>aG rfl ?_))
  exact au ((a87,c88),(v83,l86)) (jh rfl) (bv (aR aZ) (bv (aR aZ) (bv (aR aZ) bD))) ht.symm
 rintro ⟨⟨a91,c92⟩,⟨v89,l93⟩⟩ τ hz;(try dsimp only at hz);subst q95;(try dsimp only at h);dsimp only [aF]
 refine fW (ai [(26,pI 0)] (by kernel_rfl) (fu h fun q118 hq118 h=>?_))
 refine av (Y:=Unit×Int) (fun (_,v116)=>[(4,pP b2 0),(12,pP b18 0),(13,pB v89)]) (fun (_,v116)=>[PRes.b b18 25 [pO a91 l93.length c92,pI v116],PRes.b b2 25 [pN,pI 0],PRes.row a91 l93.length c92 37 5 (List.map Za.enc l93)]) (fun (_,v116)=>q118=v116) ?_ ?_
 ·refine an ?_
  refine aY (Y:=Unit) (S:=Int×Int) _ hq118 (fun _ (v113,v114)=>[(4,pP b2 0),(12,pP b18 0),(13,pB v89),(26,pI v113)]) (fun _ (v113,v114)=>[PRes.b b18 25 [pO a91 l93.length c92,pI v114],PRes.b b2 25 [pN,pI 0],PRes.row a91 l93.length c92 37 5 (List.map Za.enc l93)]) () (kf rfl) mH ?_
  rintro _ ⟨v113,v114⟩ o τ hb117;(try dsimp only at hb117);dsimp only [aF]
  refine fW (aT [0] [227,228,229,230] [(231,pB (decide (v113<((l93.length:Nat):Int))))] (by kernel_rfl) (bZ rfl hb117 (fun hc119 hb117=>?_) fun hc119 hb117=>?_))
  ·refine ag ?_
   refine bN (an (aa hb117 fun m120 hm120 hb117=>?_))
   refine hI (Y:=Unit) (fun _=>[(4,pP b2 0),(12,pP b18 0),(13,pB v89),(26,pI v113)]) (fun _=>[PRes.b b18 25 [pO a91 l93.length c92,pI (IntKind.i64.wrap (v114+m120.Amount))],PRes.b b2 25 [pN,pI 0],PRes.row a91 l93.length c92 37 5 (List.map Za.enc l93)]) (fun _=>True) ?_ ?_
   ·refine eN (ρd:=[PRes.b b18 _ _]) _ (List.Perm.refl _) ?_
    refine aS 0 (by kernel_rfl) rfl rfl rfl rfl (aJ rfl rfl rfl rfl rfl (.p rfl)) (aS 2 (by kernel_rfl) rfl rfl rfl rfl (aJ rfl rfl rfl rfl rfl (.p rfl)) (aS 4 (by kernel_rfl) rfl rfl rfl rfl (bC (p:=pI v113) rfl (.p rfl)) ?_))
    refine dI 1 3 (by kernel_rfl) ?_ ?_
    ·skip
     refine aX rfl rfl rfl rfl (eV (bU (p:=pI v114) rfl (.p rfl) eD rfl) (aW 3 (by kernel_rfl) (aX rfl rfl rfl rfl (eV (bU (p:=pO a91 l93.length c92) rfl (.p rfl) eD rfl) (aS 5 (by kernel_rfl) rfl rfl rfl rfl (bo (enc:=Za.enc) (xs:=l93) rfl rfl rfl (.p rfl) iZ (.p rfl) (fun _=>hm120)) (aS 6 (by kernel_rfl) rfl rfl rfl rfl (aJ rfl rfl rfl rfl rfl (.p rfl)) (aS 7 (by kernel_rfl) rfl rfl rfl rfl (bj (sz:=5) (p:=pI m120.Amount) (enc:=Za.enc) (xs:=l93) (a:=a91) v113 4 m120 rfl (.p rfl) rfl iZ (fun _=>hm120) rfl) (aS 8 (by kernel_rfl) rfl rfl rfl rfl (dw rfl (.p rfl) (.p rfl) rfl) (aS 9 (by kernel_rfl) rfl rfl rfl rfl (aJ rfl rfl rfl rfl rfl (.p rfl)) (aW 10 (by kernel_rfl) (bq rfl rfl rfl (ak (vs:=[pI (IntKind.i64.wrap (v114+m120.Amount))]) rfl rfl rfl rfl rfl cn (bQ eX) (bK (by kernel_rfl) ?_)))))))))))))
     exact dM () (kf rfl) mH trivial
    skip
    refine aX rfl rfl rfl rfl (eV (bU (p:=pO a91 l93.length c92) rfl (.p rfl) eD rfl) (aS 5 (by kernel_rfl) rfl rfl rfl rfl (bo (enc:=Za.enc) (xs:=l93) rfl rfl rfl (.p rfl) iZ (.p rfl) (fun _=>hm120)) (aS 6 (by kernel_rfl) rfl rfl rfl rfl (aJ rfl rfl rfl rfl rfl (.p rfl)) (aS 7 (by kernel_rfl) rfl rfl rfl rfl (bj (sz:=5) (p:=pI m120.Amount) (enc:=Za.enc) (xs:=l93) (a:=a91) v113 4 m120 rfl (.p rfl) rfl iZ (fun _=>hm120) rfl) (aW 1 (by kernel_rfl) (aX rfl rfl rfl rfl (eV (bU (p:=pI v114) rfl (.p rfl) eD rfl) (aS 8 (by kernel_rfl) rfl rfl rfl rfl (dw rfl (.p rfl) (.p rfl) rfl) (aS 9 (by kernel_rfl) rfl rfl rfl rfl (aJ rfl rfl rfl rfl rfl (.p rfl)) (aW 10 (by kernel_rfl) (bq rfl rfl rfl (ak (vs:=[pI (IntKind.i64.wrap (v114+m120.Amount))]) rfl rfl rfl rfl rfl cn (bQ eX) (bK (by kernel_rfl) ?_)))))))))))))
    exact dM () (kf rfl) mH trivial
   rintro _ τ ρ1 hsub121 _;(try dsimp only at hsub121);dsimp only [aF]
   refine aj (aH (lh hsub121 (ah [232,233] [(26,pI (IntKind.i64.wrap (v113+1)))] (by kernel_rfl) ?_)))
   exact bm hb117 () (kf rfl) mH
  refine ba ?_
  refine aI (aB hb117 (fun ht=>aG rfl ?_))
  exact au ((),v114) (jh rfl) mH ht.symm
 rintro ⟨_,v116⟩ τ hz;(try dsimp only at hz);subst q118;(try dsimp only at h);dsimp only [aF]
 refine fW (aT [0] (rg 244 5) [(249,pB (v89||(decide (1000000000000<v116))))] (by kernel_rfl) (bZ rfl h (fun hc122 h=>?_) fun hc122 h=>?_))
 ·refine af ?_
  refine ae (aA 1 [(250,.agg [pN,pI 0])] (by kernel_rfl) (aQ rfl rfl (ak (vs:=[pN,pI 0]) rfl rfl rfl rfl rfl (cA cn) jV (aL [(5,pI 3)] (by kernel_rfl) (aH (fa (k:=0) (b:=b2) rfl (cA cn) (cu (aP ?_))))))))
  obtain rfl:=osi h
  exact aM (bR (dh rfl iZ rfl) (aK rfl)) bD ⟨rfl,rfl⟩
 refine ag ?_
 refine bN (ae ?_)
 refine mA (css:=List.map Za.enc l93) (a:=a91) (by exact aR (aR aZ)) ?_
 refine lm (k:=0) (enc:=Za.enc) (xs:=l93) (b:=b18) (a:=a91) rfl eD (cA cn) (fe 1 [1] [(251,.agg [pL Za.enc l93,pI v116])] (by kernel_rfl) (aQ rfl rfl (ak (vs:=[pL Za.enc l93,pI v116]) rfl rfl rfl rfl rfl (cA (cA cn)) jV (aL [(5,pI 0)] (by kernel_rfl) (dB ?_)))))
 obtain rfl:=osi h
 exact aM (bR (dh rfl zd rfl) (aK rfl)) bD ⟨rfl,rfl⟩
def jN (p0:(List Int)) (p1:Int):Option (List Int):=cond (decide (p1<(p0.length:Int))) ((sub p0 0 p1).bind fun l2=>some l2) (some p0)
theorem n7 {p0:(List Int)} {p1:Int} {r:(List Int)}  (h:jN p0 p1=some r):PF 16 [pL eI p0,pI p1] (pL eI r):=by
 unfold jN at h
 refine bi ?_
 refine eg Tryz.func16 rfl Tryz.ntmps16 Tryz.results16 rfl (bf [4] (by kernel_rfl) (cH (ah [5,6,7] [(8,pB (decide (p1<(p0.length:Int))))] (by kernel_rfl) (bZ rfl h (fun hc1 h=>?_) fun hc1 h=>?_))))
 ·refine af ?_
  refine aa h fun l2 hl2 h=>aD [] [9,10,11] [(4,pL eI l2)] (fosl 2 eI 1 (fun _=>rfl) hl2 bA) (by kernel_rfl) (fB ?_)
  exact zz r h rfl
 refine ag ?_
 refine bN (ah [12] [(4,pL eI p0)] (by kernel_rfl) (dB ?_))
 exact zz r h rfl
def ia (p0:Int) (p1:Int):Option Int:=(nz p1).bind fun u1=>(nz p1).bind fun u2=>lb ((Int.tmod (IntKind.i64.wrap ((Int.tmod p0 p1)+p1)) p1)) (fun w3=>some w3)
theorem pK {p0:Int} {p1:Int} {r:Int}  (h:ia p0 p1=some r):PF 42 [pI p0,pI p1] (pI r):=by
 unfold ia at h
 refine bi ?_
 refine eg Tryz.func42 rfl Tryz.ntmps42 Tryz.results42 rfl (bf [4] (by kernel_rfl) (eo h fun u1 hu1 h=>aa h fun u2 hu2 h=>?_))
 refine cL h ?_;clear h;intro w3 hw3 h
 refine ae (bd 7 [] (rg 5 6) [(11,pI (Int.tmod (IntKind.i64.wrap ((Int.tmod p0 p1)+p1)) p1))] (uH 2 hu1 (uH 6 hu2 bA)) (by kernel_rfl) (bE rfl rfl rfl (bc rfl (.p (congrArg (fun z=>PV.v (Value.int .i64 z)) hw3))) (az (dB ?_))))
 exact zz r h rfl
def ap (p0:Zf) (p1:Int):Option (Int×Zf):=cond (decide ((p0.L.length:Int)≤p0.I)) (some ((0:Int),p0)) ((idx p0.L (IntKind.i64.wrap ((IntKind.i64.wrap (p0.I+1)) - 1))).bind fun m2=>(ia m2 p1).bind fun x3=>some (x3,(⟨p0.L,(IntKind.i64.wrap (p0.I+1))⟩:Zf)))
theorem aq {p0:Zf} {p1:Int} {b0:Nat} {r:(Int×Zf)}  (h:ap p0 p1=some r):PCall 17 [pP b0 0,pI p1] [PRes.b b0 56 [pL eI p0.L,pI p0.I]] (fun pv ρ'=>pv=pI r.1∧ρ'=[PRes.b b0 56 [pL eI r.2.L,pI r.2.I]]):=by
 unfold ap at h
 refine eg Tryz.func17 rfl Tryz.ntmps17 Tryz.results17 rfl (bf [4] (by kernel_rfl) (cH (bH (ρd:=[]) [(0,0),(1,0),(2,0),(3,0),(4,0),(5,0),(6,0),(7,0),(8,0),(9,0)] _ (List.Perm.refl _) (by kernel_rfl) rfl (kS 10 [0,0] (rg 5 9) [(14,pB (decide ((p0.L.length:Int)≤p0.I)))] (by kernel_rfl) (ce (bZ rfl h (fun hc1 h=>?_) fun hc1 h=>?_))))))
 ·refine af ?_
  refine ai [(4,pI 0)] (by kernel_rfl) (fB ?_)
  obtain rfl:=osi h
  exact aM (gp (aK rfl)) dx ⟨rfl,rfl⟩
 refine ag ?_
 refine bN (ae (cq 7 [0] [15,16,17,18,20] [(19,pI (IntKind.i64.wrap (p0.I+1))),(21,pP b0 1)] (by kernel_rfl) (aQ rfl rfl (ak (vs:=[pI (IntKind.i64.wrap (p0.I+1))]) rfl rfl rfl rfl rfl cn (bQ eX) (az (bN (bH (ρd:=[]) [(0,0),(1,0),(2,0),(3,0),(4,0),(5,0),(6,0),(7,0),(8,0),(9,0),(10,0),(11,0),(12,1),(13,0)] _ (List.Perm.refl _) (by kernel_rfl) rfl (aa h fun m2 hm2 h=>aa h fun x3 hx3 h=>bV 14 [0,0] (rg 22 13) [(4,pI x3)] (eH 9 eI hm2 (bz 12 (pK hx3) bA)) (by kernel_rfl) (ce (dB ?_))))))))))
 obtain rfl:=osi h
 exact aM (gp (aK rfl)) dx ⟨rfl,rfl⟩
def ca (p0:Zf):Option (Int×Zf):=(ap p0 4).bind fun x1=>cond (decide (0<x1.1)) ((ap x1.2 101).bind fun x3=>some ((IntKind.i64.wrap (10000*x3.1)),x3.2)) ((ap x1.2 1000001).bind fun x4=>some (x4.1,x4.2))
theorem fC {p0:Zf} {b0:Nat} {r:(Int×Zf)}  (h:ca p0=some r):PCall 43 [pP b0 0] [PRes.b b0 56 [pL eI p0.L,pI p0.I]] (fun pv ρ'=>pv=pI r.1∧ρ'=[PRes.b b0 56 [pL eI r.2.L,pI r.2.I]]):=by
 unfold ca at h
 refine eg Tryz.func43 rfl Tryz.ntmps43 Tryz.results43 rfl (bf [2] (by kernel_rfl) (cH (aa h fun x1 hx1 h=>ae (aA 1 [(3,pP b0 0)] (by kernel_rfl) ?_))))
 refine ar rfl (aV rfl rfl (ρ1:=[_]) (aC (by exact aZ) (List.Perm.refl _)) (aq hx1) ?_);rintro _ _ ⟨rfl,rfl⟩
 refine aL [(5,pB (decide (0<x1.1)))] (by kernel_rfl) (bZ rfl h (fun hc2 h=>?_) fun hc2 h=>?_)
 ·refine af ?_
  refine aa h fun x3 hx3 h=>ae (aA 1 [(6,pP b0 0)] (by kernel_rfl) ?_)
  refine ar rfl (aV rfl rfl (ρ1:=[_]) (aC (by exact aZ) (List.Perm.refl _)) (aq hx3) ?_);rintro _ _ ⟨rfl,rfl⟩
  refine kT [8] [(2,pI (IntKind.i64.wrap (10000*x3.1)))] (by kernel_rfl) (fB ?_)
  obtain rfl:=osi h
  exact aM (gp (aK rfl)) dx ⟨rfl,rfl⟩
 refine ag ?_
 refine eo h fun x4 hx4 h=>ae (aA 1 [(9,pP b0 0)] (by kernel_rfl) ?_)
 refine ar rfl (aV rfl rfl (ρ1:=[_]) (aC (by exact aZ) (List.Perm.refl _)) (aq hx4) ?_);rintro _ _ ⟨rfl,rfl⟩
 refine aL [(2,pI x4.1)] (by kernel_rfl) (dB ?_)
 obtain rfl:=osi h
 exact aM (gp (aK rfl)) dx ⟨rfl,rfl⟩
end SX
end Go.Proofs.YtknkknahmebbfaaGreatDoor
